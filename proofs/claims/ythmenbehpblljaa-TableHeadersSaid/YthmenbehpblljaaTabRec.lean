/-
  Record of the table and of the reference (printed by wip/bin/tabrec.py).
-/
import Derived.Test.YthmenbehpblljaaTabRF
namespace Go.Proofs.Ythmenbehpblljaa
open Go.RowKit Go.Shelf

/-- The offset of a record, or -1. -/
def recOf (c : Nat → Nat) (s i : Int) : Int :=
  if 1 ≤ s ∧ s ≤ 6 ∧ 0 ≤ i ∧ i < (c s.toNat : Int) then (nextOf c (s.toNat - 1) : Int) + i * (secSize s.toNat : Int) else -1
theorem tabAt_tab (c : Nat → Nat) (frame : Int) (k : Nat) (h1 : 1 ≤ k) (h2 : k ≤ 6) : TabAt (tabCells c frame) k (nextOf c (k - 1)) (c k) := by
  rcases six k h1 h2 with rfl | rfl | rfl | rfl | rfl | rfl <;> exact ⟨rfl, rfl, rfl⟩

set_option maxRecDepth 100000 in
set_option maxHeartbeats 2000000 in
theorem record_any (c : Nat → Nat) (frame s i : Int) (w : World) (hc : CountsOk c) :
    Calls Try.prog 14 #[.agg (tabCells c frame), .int .i64 s, .int .i64 i] w fun e w' => e = .returned (.int .i64 (recOf c s i)) ∧ Below w.heap.size w w' := by
  have hB : Below w.heap.size w (w.alloc (.cells (tabCells c frame) 28)) := (Below.refl _ w).alloc (Nat.le_refl _) _
  by_cases h1 : s < 1
  · have hr : recOf c s i = -1 := by unfold recOf; rw [if_neg (by omega)]
    have t1 : decide (s < 1) = true := by simp [h1]
    rw [hr]
    go_enter Try.func14, Try.ntmps14
    go_wp2
    go_ret
    exact ⟨rfl, hB⟩
  · have t1 : decide (s < 1) = false := by simp; omega
    by_cases h2 : 6 < s
    · have hr : recOf c s i = -1 := by unfold recOf; rw [if_neg (by omega)]
      have t2 : decide (6 < s) = true := by simp [h2]
      rw [hr]
      go_enter Try.func14, Try.ntmps14
      go_wp2
      go_ret
      exact ⟨rfl, hB⟩
    · have t2 : decide (6 < s) = false := by simp; omega
      by_cases h3 : i < 0
      · have hr : recOf c s i = -1 := by unfold recOf; rw [if_neg (by omega)]
        have t3 : decide (i < 0) = true := by simp [h3]
        rw [hr]
        go_enter Try.func14, Try.ntmps14
        go_wp2
        go_ret
        exact ⟨rfl, hB⟩
      · have t3 : decide (i < 0) = false := by simp; omega
        obtain ⟨k, rfl⟩ : ∃ k : Nat, s = (k : Int) := ⟨s.toNat, by omega⟩
        have hk1 : 1 ≤ k := by omega
        have hk2 : k ≤ 6 := by omega
        have hT := tabAt_tab c frame k hk1 hk2
        have ho := nextOf_le c (fun s => Nat.le_trans (hc s) (secLimit_le s)) (k - 1)
        have hcm : c k ≤ 1024 := Nat.le_trans (hc k) (secLimit_le k)
        obtain ⟨C, hC⟩ : ∃ C, C = c k := ⟨_, rfl⟩
        obtain ⟨O, hO⟩ : ∃ O, O = nextOf c (k - 1) := ⟨_, rfl⟩
        rw [← hC, ← hO] at hT
        rw [← hC] at hcm
        rw [← hO] at ho
        have hO2 : O ≤ 1000000 := by omega
        have g1 : (w.alloc (.cells (tabCells c frame) 28)).cell? ⟨w.heap.size, 2 + k, none⟩ = some (.int .i64 (O : Int)) := by rw [cell_of_row _ _ _ _ _ _ (heap_alloc_new w _)]; exact hT.2.1
        have g2 : (w.alloc (.cells (tabCells c frame) 28)).cell? ⟨w.heap.size, 9 + k, none⟩ = some (.int .i64 (C : Int)) := by rw [cell_of_row _ _ _ _ _ _ (heap_alloc_new w _)]; exact hT.2.2
        obtain ⟨W0, hW0⟩ : ∃ W0, w.alloc (.cells (tabCells c frame) 28) = W0 := ⟨_, rfl⟩
        by_cases h4 : (C : Int) ≤ i
        · have hr : recOf c (k : Int) i = -1 := by unfold recOf; rw [if_neg (by simp; rw [← hC]; omega)]
          have t4 : decide ((C : Int) ≤ i) = true := by simp [h4]
          rw [hr]
          have HT := Lib.hid hT; have HC := Lib.hid hC; have HO := Lib.hid hO; have HW := Lib.hid hW0
          clear hT hC hO hW0 ho hr h1 h2 h3 h4
          go_enter Try.func14, Try.ntmps14
          go_wp2
          go_ret
          exact ⟨rfl, hB⟩
        · obtain ⟨j, rfl⟩ : ∃ j : Nat, i = (j : Int) := ⟨i.toNat, by omega⟩
          have t4 : decide (C ≤ j) = false := by simp; omega
          obtain ⟨S, hS⟩ : ∃ S, S = secSize k := ⟨_, rfl⟩
          have hz := secSize_le k
          have hsz : ∀ W', Calls Try.prog 37 #[.int .i64 (k : Int)] W' fun e w' => e = .returned (.int .i64 (S : Int)) ∧ w' = W' := fun W' => by rw [hS]; exact size_any k W' hk1 hk2
          rw [← hS] at hz
          have hm : j * S ≤ 1024 * 56 := Nat.mul_le_mul (by omega) hz
          obtain ⟨M, hM⟩ : ∃ M, M = j * S := ⟨_, rfl⟩
          have hM2 : (j : Int) * (S : Int) = (M : Int) := by rw [hM]; push_cast; rfl
          rw [← hM] at hm
          have hr : recOf c (k : Int) (j : Int) = (O : Int) + (M : Int) := by
            unfold recOf
            rw [if_pos (by simp; rw [← hC]; omega), Int.toNat_natCast, ← hO, ← hS, hM2]
          have hw1 : IntKind.i64.wrap ((j : Int) * (S : Int)) = (M : Int) := by rw [hM2, IntKind.wrap_i64]; omega
          have hw2 : IntKind.i64.wrap ((O : Int) + (M : Int)) = (O : Int) + (M : Int) := by rw [IntKind.wrap_i64]; omega
          rw [hr]
          have HSZ := Lib.hid hsz; have HT := Lib.hid hT; have HC := Lib.hid hC; have HO := Lib.hid hO; have HW := Lib.hid hW0
          clear hsz hT hC hO hW0 ho hr h1 h2 h3 h4 hM hM2 hm hS
          go_enter Try.func14, Try.ntmps14
          go_wp2
          refine wp_region_quiet_class (C := fun w' => ∃ m, w' = (w.alloc (.cells (tabCells c frame) 28)).drewN m) (by kernel_rfl) (by kernel_rfl) ⟨1, rfl⟩ ?_
          repeat (first
            | go_big_quiet_skip
            | (go_big_quiet_want; go_big_quiet_op; first
              | go_big_quiet_on
              | (refine ⟨_, fun w' m hw' => rfl, ?_⟩; go_big_quiet_on)
              | (refine ⟨_, fun m => rfl, ?_⟩; go_big_quiet_on)
              | (apply Exists.intro; refine ⟨?_, ?_⟩; (first | (intro w' m hw'; refine (HSZ.out _).mono ?_; rintro e w2 ⟨rfl, rfl⟩; exact ⟨rfl, _, hw'⟩) | (intro m; refine (HSZ.out _).mono ?_; rintro e w2 ⟨rfl, rfl⟩; exact ⟨rfl, _, rfl⟩)); go_big_quiet_on)))
          refine wpQuiet_nil ?_
          rintro _ ⟨nq2, rfl⟩
          go_wp2_with (fail)
          go_ret
          exact ⟨rfl, below_drewN hB _⟩

set_option maxRecDepth 100000 in
set_option maxHeartbeats 2000000 in
theorem refRecord_any (c : Nat → Nat) (frame s i : Int) (w : World) (hc : CountsOk c) :
    Calls Try.prog 15 #[.agg (tabCells c frame), .int .i64 s, .int .i64 i] w fun e w' => e = .returned (.int .i64 (recOf c s i)) ∧ Below w.heap.size w w' := by
  have hB : Below w.heap.size w (w.alloc (.cells (tabCells c frame) 31)) := (Below.refl _ w).alloc (Nat.le_refl _) _
  by_cases h1 : s < 1
  · have hr : recOf c s i = -1 := by unfold recOf; rw [if_neg (by omega)]
    have t1 : decide (s < 1) = true := by simp [h1]
    rw [hr]
    go_enter Try.func15, Try.ntmps15
    go_wp2
    go_ret
    exact ⟨rfl, hB⟩
  · have t1 : decide (s < 1) = false := by simp; omega
    by_cases h2 : 6 < s
    · have hr : recOf c s i = -1 := by unfold recOf; rw [if_neg (by omega)]
      have t2 : decide (6 < s) = true := by simp [h2]
      rw [hr]
      go_enter Try.func15, Try.ntmps15
      go_wp2
      go_ret
      exact ⟨rfl, hB⟩
    · have t2 : decide (6 < s) = false := by simp; omega
      by_cases h3 : i < 0
      · have hr : recOf c s i = -1 := by unfold recOf; rw [if_neg (by omega)]
        have t3 : decide (i < 0) = true := by simp [h3]
        rw [hr]
        go_enter Try.func15, Try.ntmps15
        go_wp2
        go_ret
        exact ⟨rfl, hB⟩
      · have t3 : decide (i < 0) = false := by simp; omega
        obtain ⟨k, rfl⟩ : ∃ k : Nat, s = (k : Int) := ⟨s.toNat, by omega⟩
        have hk1 : 1 ≤ k := by omega
        have hk2 : k ≤ 6 := by omega
        have hT := tabAt_tab c frame k hk1 hk2
        have ho := nextOf_le c (fun s => Nat.le_trans (hc s) (secLimit_le s)) (k - 1)
        have hcm : c k ≤ 1024 := Nat.le_trans (hc k) (secLimit_le k)
        obtain ⟨C, hC⟩ : ∃ C, C = c k := ⟨_, rfl⟩
        obtain ⟨O, hO⟩ : ∃ O, O = nextOf c (k - 1) := ⟨_, rfl⟩
        rw [← hC, ← hO] at hT
        rw [← hC] at hcm
        rw [← hO] at ho
        have hO2 : O ≤ 1000000 := by omega
        have g1 : (w.alloc (.cells (tabCells c frame) 31)).cell? ⟨w.heap.size, 2 + k, none⟩ = some (.int .i64 (O : Int)) := by rw [cell_of_row _ _ _ _ _ _ (heap_alloc_new w _)]; exact hT.2.1
        have g2 : (w.alloc (.cells (tabCells c frame) 31)).cell? ⟨w.heap.size, 9 + k, none⟩ = some (.int .i64 (C : Int)) := by rw [cell_of_row _ _ _ _ _ _ (heap_alloc_new w _)]; exact hT.2.2
        obtain ⟨W0, hW0⟩ : ∃ W0, w.alloc (.cells (tabCells c frame) 31) = W0 := ⟨_, rfl⟩
        by_cases h4 : (C : Int) ≤ i
        · have hr : recOf c (k : Int) i = -1 := by unfold recOf; rw [if_neg (by simp; rw [← hC]; omega)]
          have t4 : decide ((C : Int) ≤ i) = true := by simp [h4]
          rw [hr]
          have HT := Lib.hid hT; have HC := Lib.hid hC; have HO := Lib.hid hO; have HW := Lib.hid hW0
          clear hT hC hO hW0 ho hr h1 h2 h3 h4
          go_enter Try.func15, Try.ntmps15
          go_wp2
          go_ret
          exact ⟨rfl, hB⟩
        · obtain ⟨j, rfl⟩ : ∃ j : Nat, i = (j : Int) := ⟨i.toNat, by omega⟩
          have t4 : decide (C ≤ j) = false := by simp; omega
          obtain ⟨S, hS⟩ : ∃ S, S = secSize k := ⟨_, rfl⟩
          have hz := secSize_le k
          have hsz : ∀ W', Calls Try.prog 16 #[.int .i64 (k : Int)] W' fun e w' => e = .returned (.int .i64 (S : Int)) ∧ w' = W' := fun W' => by rw [hS]; exact refSize_any k W' hk1 hk2
          rw [← hS] at hz
          have hm : j * S ≤ 1024 * 56 := Nat.mul_le_mul (by omega) hz
          obtain ⟨M, hM⟩ : ∃ M, M = j * S := ⟨_, rfl⟩
          have hM2 : (j : Int) * (S : Int) = (M : Int) := by rw [hM]; push_cast; rfl
          rw [← hM] at hm
          have hr : recOf c (k : Int) (j : Int) = (O : Int) + (M : Int) := by
            unfold recOf
            rw [if_pos (by simp; rw [← hC]; omega), Int.toNat_natCast, ← hO, ← hS, hM2]
          have hw1 : IntKind.i64.wrap ((j : Int) * (S : Int)) = (M : Int) := by rw [hM2, IntKind.wrap_i64]; omega
          have hw2 : IntKind.i64.wrap ((O : Int) + (M : Int)) = (O : Int) + (M : Int) := by rw [IntKind.wrap_i64]; omega
          rw [hr]
          have HSZ := Lib.hid hsz; have HT := Lib.hid hT; have HC := Lib.hid hC; have HO := Lib.hid hO; have HW := Lib.hid hW0
          clear hsz hT hC hO hW0 ho hr h1 h2 h3 h4 hM hM2 hm hS
          go_enter Try.func15, Try.ntmps15
          go_wp2
          refine wp_region_quiet_class (C := fun w' => ∃ m, w' = (w.alloc (.cells (tabCells c frame) 31)).drewN m) (by kernel_rfl) (by kernel_rfl) ⟨1, rfl⟩ ?_
          repeat (first
            | go_big_quiet_skip
            | (go_big_quiet_want; go_big_quiet_op; first
              | go_big_quiet_on
              | (refine ⟨_, fun w' m hw' => rfl, ?_⟩; go_big_quiet_on)
              | (refine ⟨_, fun m => rfl, ?_⟩; go_big_quiet_on)
              | (apply Exists.intro; refine ⟨?_, ?_⟩; (first | (intro w' m hw'; refine (HSZ.out _).mono ?_; rintro e w2 ⟨rfl, rfl⟩; exact ⟨rfl, _, hw'⟩) | (intro m; refine (HSZ.out _).mono ?_; rintro e w2 ⟨rfl, rfl⟩; exact ⟨rfl, _, rfl⟩)); go_big_quiet_on)))
          refine wpQuiet_nil ?_
          rintro _ ⟨nq2, rfl⟩
          go_wp2_with (fail)
          go_ret
          exact ⟨rfl, below_drewN hB _⟩
end Go.Proofs.Ythmenbehpblljaa
