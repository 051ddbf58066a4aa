/-
  The reference of the layout: align, For; the law's own guard 'right'.
-/
import Derived.Test.YthmenbehpblljaaTabF
namespace Go.Proofs.Ythmenbehpblljaa
open Go.RowKit Go.Shelf

set_option maxRecDepth 100000 in
theorem refAlign_any (n : Nat) (w : World) (h : n ≤ 1000000000) :
    Calls Try.prog 36 #[.int .i64 (n : Int)] w fun e w' => e = .returned (.int .i64 (alignUp n : Int)) ∧ w' = w := by
  have h1 := alignUp_le n
  go_enter Try.func36, Try.ntmps36
  go_wp2
  go_loopw [0] (fun i wr => ∃ k : Nat, n ≤ k ∧ k ≤ alignUp n ∧ i = .int .i64 (k : Int) ∧ wr = w) (fun i _ => alignUp n - (intOf i).toNat)
  case atStart => exact ⟨n, by omega, by omega, rfl, rfl⟩
  case round =>
    obtain ⟨k, hk, hk2, rfl, rfl⟩ := hrel
    have hdv : 16 ∣ alignUp n := ⟨(n + 15) / 16, by unfold alignUp; omega⟩
    by_cases hlt : k % 16 = 0
    · have he : alignUp n = k := by unfold alignUp at *; omega
      have ht : decide (0 < (k : Int) % 16) = false := by simp; omega
      go_wp2
      go_ret
      exact ⟨by rw [he]; rfl, rfl⟩
    · have ht : decide (0 < (k : Int) % 16) = true := by simp; omega
      have hne : k ≠ alignUp n := by intro e; rw [← e] at hdv; omega
      go_wp2
      go_roundw
      case rel => exact ⟨k + 1, by omega, by omega, by go_num, trivial⟩
      case measure => simp [intOf]; omega

/-! ### The guard -/
def zCells (z : Nat → Int) : Array Value := #[.int .i64 (z 0), .int .i64 (z 1), .int .i64 (z 2), .int .i64 (z 3), .int .i64 (z 4), .int .i64 (z 5), .int .i64 (z 6)]
theorem zCells_get (z : Nat → Int) (s : Nat) (h1 : 1 ≤ s) (h2 : s ≤ 6) : (zCells z)[s]? = some (.int .i64 (z s)) := by
  rcases six s h1 h2 with rfl | rfl | rfl | rfl | rfl | rfl <;> rfl
def Right (z : Nat → Int) : Prop := ∀ s, 1 ≤ s → s ≤ 6 → 0 ≤ z s ∧ z s ≤ (secLimit s : Int)

set_option maxRecDepth 100000 in
set_option maxHeartbeats 1000000 in
theorem right_any (z : Nat → Int) (w : World) :
    Calls Try.prog 8 #[.agg (zCells z)] w fun e w' => ∃ b, e = .returned (.bool b) ∧ (b = true ↔ Right z) ∧ Below w.heap.size w w' := by
  go_enter Try.func8, Try.ntmps8
  go_wp2
  have hB : Below w.heap.size w (w.alloc (.cells (zCells z) 22)) := (Below.refl _ w).alloc (Nat.le_refl _) _
  have hrow : (w.alloc (.cells (zCells z) 22)).heap[w.heap.size]? = some (.cells (zCells z) 22 (0, 0)) := heap_alloc_new w _
  obtain ⟨W0, hW0⟩ : ∃ W0, w.alloc (.cells (zCells z) 22) = W0 := ⟨_, rfl⟩
  show Code.wp _ _ _ _ (w.alloc (.cells (zCells z) 22))
  rw [hW0] at hB hrow ⊢
  have HB := Lib.hid hB; have HR := Lib.hid hrow
  clear hB hrow hW0
  go_loopw [3] (fun i wr => ∃ k : Nat, 1 ≤ k ∧ k ≤ 7 ∧ i = .int .i64 (k : Int) ∧ Hid (∀ s, 1 ≤ s → s < k → 0 ≤ z s ∧ z s ≤ (secLimit s : Int)) ∧ ∃ n, wr = W0.drewN n) (fun i _ => 7 - (intOf i).toNat)
  case atStart => exact ⟨1, by omega, by omega, rfl, fun s h1 h2 => by omega, 0, rfl⟩
  case round =>
    obtain ⟨k, hk, hk2, rfl, HA, n, rfl⟩ := hrel
    by_cases hlt : k ≤ 6
    · have g0 : W0.cell? ⟨w.heap.size, k, none⟩ = some (.int .i64 (z k)) := by rw [cell_of_row _ _ _ _ _ _ HR.out]; exact zCells_get z k hk hlt
      have hlim : ∀ W', Calls Try.prog 31 #[.int .i64 (k : Int)] W' fun e w' => e = .returned (.int .i64 (secLimit k : Int)) ∧ w' = W' := fun W' => refLimit_any k W' hk hlt
      have HL := Lib.hid hlim; clear hlim
      obtain ⟨x, hx⟩ : ∃ x, x = z k := ⟨_, rfl⟩
      rw [← hx] at g0
      have HX := Lib.hid hx; clear hx
      by_cases h1 : x < 0
      · have ht : decide (x < 0) = true := by simp [h1]
        go_wp2
        refine wp_region_quiet_class (C := fun w' => ∃ m, w' = (W0.drewN n).drewN m) (by kernel_rfl) (by kernel_rfl) ⟨1, rfl⟩ ?_
        repeat (first
          | go_big_quiet_skip
          | (go_big_quiet_want; go_big_quiet_op; first
            | go_big_quiet_on
            | (refine ⟨_, fun w' m hw' => rfl, ?_⟩; go_big_quiet_on)
            | (refine ⟨_, fun m => rfl, ?_⟩; go_big_quiet_on)
            | (apply Exists.intro; refine ⟨?_, ?_⟩; (first | (intro w' m hw'; refine (HL.out _).mono ?_; rintro e w2 ⟨rfl, rfl⟩; exact ⟨rfl, _, hw'⟩) | (intro m; refine (HL.out _).mono ?_; rintro e w2 ⟨rfl, rfl⟩; exact ⟨rfl, _, rfl⟩)); go_big_quiet_on)))
        refine wpQuiet_nil ?_
        rintro _ ⟨nq, rfl⟩
        go_wp2
        go_ret
        exact ⟨false, rfl, ⟨fun h => (by cases h), fun h => by have := (h k hk hlt).1; rw [← HX.out] at this; omega⟩, below_drewN (below_drewN HB.out _) _⟩
      · have ht : decide (x < 0) = false := by simp; omega
        by_cases h2 : (secLimit k : Int) < x
        · have ht2 : decide ((secLimit k : Int) < x) = true := by simp [h2]
          go_wp2
          refine wp_region_quiet_class (C := fun w' => ∃ m, w' = (W0.drewN n).drewN m) (by kernel_rfl) (by kernel_rfl) ⟨1, rfl⟩ ?_
          repeat (first
            | go_big_quiet_skip
            | (go_big_quiet_want; go_big_quiet_op; first
              | go_big_quiet_on
              | (refine ⟨_, fun w' m hw' => rfl, ?_⟩; go_big_quiet_on)
              | (refine ⟨_, fun m => rfl, ?_⟩; go_big_quiet_on)
              | (apply Exists.intro; refine ⟨?_, ?_⟩; (first | (intro w' m hw'; refine (HL.out _).mono ?_; rintro e w2 ⟨rfl, rfl⟩; exact ⟨rfl, _, hw'⟩) | (intro m; refine (HL.out _).mono ?_; rintro e w2 ⟨rfl, rfl⟩; exact ⟨rfl, _, rfl⟩)); go_big_quiet_on)))
          refine wpQuiet_nil ?_
          rintro _ ⟨nq, rfl⟩
          go_wp2
          go_ret
          exact ⟨false, rfl, ⟨fun h => (by cases h), fun h => by have := (h k hk hlt).2; rw [← HX.out] at this; omega⟩, below_drewN (below_drewN HB.out _) _⟩
        · have ht2 : decide ((secLimit k : Int) < x) = false := by simp; omega
          go_wp2
          refine wp_region_quiet_class (C := fun w' => ∃ m, w' = (W0.drewN n).drewN m) (by kernel_rfl) (by kernel_rfl) ⟨1, rfl⟩ ?_
          repeat (first
            | go_big_quiet_skip
            | (go_big_quiet_want; go_big_quiet_op; first
              | go_big_quiet_on
              | (refine ⟨_, fun w' m hw' => rfl, ?_⟩; go_big_quiet_on)
              | (refine ⟨_, fun m => rfl, ?_⟩; go_big_quiet_on)
              | (apply Exists.intro; refine ⟨?_, ?_⟩; (first | (intro w' m hw'; refine (HL.out _).mono ?_; rintro e w2 ⟨rfl, rfl⟩; exact ⟨rfl, _, hw'⟩) | (intro m; refine (HL.out _).mono ?_; rintro e w2 ⟨rfl, rfl⟩; exact ⟨rfl, _, rfl⟩)); go_big_quiet_on)))
          refine wpQuiet_nil ?_
          rintro _ ⟨nq, rfl⟩
          go_wp2
          go_roundw
          case rel => exact ⟨k + 1, by omega, by omega, by go_num, fun s h3 h4 => by
            by_cases he : s = k
            · subst he; rw [← HX.out]; exact ⟨by omega, by omega⟩
            · exact HA.out s h3 (by omega), _, rfl⟩
          case measure => simp [intOf]; omega
    · obtain rfl : k = 7 := by omega
      go_wp2
      go_ret
      exact ⟨true, rfl, ⟨fun _ s h1 h2 => HA.out s h1 (by omega), fun _ => rfl⟩, below_drewN HB.out _⟩
end Go.Proofs.Ythmenbehpblljaa
