/-
  The reference's Section: all records are tried.
-/
import Derived.Test.YthmenbehpblljaaTabSp
namespace Go.Proofs.Ythmenbehpblljaa
open Go.RowKit Go.Shelf

def RetSec (c : Nat → Nat) (x : Int) (w : World) (e : Ending) (w' : World) : Prop :=
  ∃ a b, e = .returned (.tuple #[.int .i64 a, .int .i64 b]) ∧ SecIs c x a b ∧ Below w.heap.size w w'

set_option maxRecDepth 100000 in
set_option maxHeartbeats 4000000 in
theorem refSection_any (c : Nat → Nat) (frame x : Int) (w : World) (hc : CountsOk c) :
    Calls Try.prog 13 #[.agg (tabCells c frame), .int .i64 x] w (RetSec c x w) := by
  have hB : Below w.heap.size w (w.alloc (.cells (tabCells c frame) 31)) := (Below.refl _ w).alloc (Nat.le_refl _) _
  have hN := nextOf_le c (fun s => Nat.le_trans (hc s) (secLimit_le s)) 6
  have h80 := nextOf_ge c 6
  obtain ⟨N, hNe⟩ : ∃ N, N = nextOf c 6 := ⟨_, rfl⟩
  have hcell : (w.alloc (.cells (tabCells c frame) 31)).cell? ⟨w.heap.size, 1, none⟩ = some (.int .i64 ((N : Int) + 4)) := by rw [cell_of_row _ _ _ _ _ _ (heap_alloc_new w _), hNe]; rfl
  rw [← hNe] at hN h80
  have hSI : ∀ a b, SecIsN N c x a b → SecIs c x a b := by rw [hNe]; exact fun _ _ h => h
  have HSI := Lib.hid hSI; have HNE := Lib.hid hNe
  clear hSI hNe
  have hrow : (w.alloc (.cells (tabCells c frame) 31)).heap[w.heap.size]? = some (.cells (tabCells c frame) 31 (0, 0)) := heap_alloc_new w _
  have HR := Lib.hid hrow
  clear hrow
  by_cases h1 : x < 0
  · have t1 : decide (x < 0) = true := by simp [h1]
    go_enter Try.func13, Try.ntmps13
    go_wp2
    go_ret2
    exact ⟨_, _, rfl, HSI.out _ _ (.inl ⟨.inl h1, rfl, rfl⟩), hB⟩
  · have t1 : decide (x < 0) = false := by simp; omega
    by_cases h2 : (N : Int) + 4 ≤ x
    · have t2 : decide ((N : Int) + 4 ≤ x) = true := by simp [h2]
      go_enter Try.func13, Try.ntmps13
      go_wp2
      go_ret2
      exact ⟨_, _, rfl, HSI.out _ _ (.inl ⟨.inr h2, rfl, rfl⟩), hB⟩
    · have t2 : decide ((N : Int) + 4 ≤ x) = false := by simp; omega
      by_cases h3 : x < 80
      · have t3 : decide (x < 80) = true := by simp [h3]
        go_enter Try.func13, Try.ntmps13
        go_wp2
        go_ret2
        exact ⟨_, _, rfl, HSI.out _ _ (.inr (.inl ⟨by omega, h3, rfl, rfl⟩)), hB⟩
      · have t3 : decide (x < 80) = false := by simp; omega
        by_cases h4 : (N : Int) ≤ x
        · have t4 : decide ((N : Int) ≤ x) = true := by simp [h4]
          go_enter Try.func13, Try.ntmps13
          go_wp2
          go_ret2
          exact ⟨_, _, rfl, HSI.out _ _ (.inr (.inr (.inl ⟨h4, by omega, rfl, rfl⟩))), hB⟩
        · have t4 : decide ((N : Int) ≤ x) = false := by simp; omega
          obtain ⟨p, rfl⟩ : ∃ p : Nat, x = (p : Int) := ⟨x.toNat, by omega⟩
          have hp1 : 80 ≤ p := by omega
          have hp2 : p < N := by omega
          have t4' : decide (N ≤ p) = false := by simp; omega
          have t3' : decide (p < 80) = false := by simp; omega
          have t2' : decide (N + 4 ≤ p) = false := by simp; omega
          have HB := Lib.hid hB
          go_enter Try.func13, Try.ntmps13
          go_wp2
          clear t1 t2 t3 t4 t2' t3' t4' h1 h2 h3 h4 hcell hB
          go_loopw [6] (fun i wr => ∃ k : Nat, 1 ≤ k ∧ k ≤ 7 ∧ i = .int .i64 (k : Int) ∧ Hid (wr.heap[w.heap.size]? = some (.cells (tabCells c frame) 31 (0, 0))) ∧ Hid (Below w.heap.size w wr) ∧ Hid (∀ s, 1 ≤ s → s < k → ¬ InSec c s p)) (fun i _ => 7 - (intOf i).toNat)
          case atStart => exact ⟨1, by omega, by omega, rfl, HR, HB, Lib.hid (fun s h1 h2 => by omega)⟩
          case round =>
            obtain ⟨k, hk, hk2, rfl, HR, HB, HA⟩ := hrel
            by_cases hlt : k ≤ 6
            · have hcm : c k ≤ 1024 := Nat.le_trans (hc k) (secLimit_le k)
              have hO := nextOf_le c (fun s => Nat.le_trans (hc s) (secLimit_le s)) (k - 1)
              have hzS := secSize_le k
              obtain ⟨C, hC⟩ : ∃ C, C = c k := ⟨_, rfl⟩
              obtain ⟨O, hOe⟩ : ∃ O, O = nextOf c (k - 1) := ⟨_, rfl⟩
              obtain ⟨S, hS⟩ : ∃ S, S = secSize k := ⟨_, rfl⟩
              rw [← hC] at hcm
              rw [← hOe] at hO
              rw [← hS] at hzS
              have hO2 : O ≤ 1000000 := by omega
              have hT := tabAt_tab c frame k hk hlt
              rw [← hC] at hT
              have hsz : ∀ W', Calls Try.prog 16 #[.int .i64 (k : Int)] W' fun e w' => e = .returned (.int .i64 (S : Int)) ∧ w' = W' := fun W' => by rw [hS]; exact refSize_any k W' hk hlt
              have HC := Lib.hid hC; have HOE := Lib.hid hOe; have HSS := Lib.hid hS; have HT := Lib.hid hT; have HSZ := Lib.hid hsz; have HCC := Lib.hid hc
              have s7 : (k : Int) < 7 := by omega
              have s76 : decide ((k : Int) ≤ 6) = true := by simp; omega
              clear hC hOe hS hT hO hsz
              go_wp2
              go_loopw [7] (fun i wr => ∃ j : Nat, j ≤ C ∧ i = .int .i64 (j : Int) ∧ Hid (wr.heap[w.heap.size]? = some (.cells (tabCells c frame) 31 (0, 0))) ∧ Hid (Below w.heap.size w wr) ∧ Hid (∀ i, i < j → ¬ (O + i * S ≤ p ∧ p < O + i * S + S))) (fun i _ => C - (intOf i).toNat)
              case atStart => exact ⟨0, by omega, rfl, HR, HB, Lib.hid (fun i h => by omega)⟩
              case round =>
                obtain ⟨j, hj, rfl, HR, HB, HI⟩ := hrel
                have g9 : wr.cell? ⟨w.heap.size, 9 + k, none⟩ = some (.int .i64 (C : Int)) := by rw [cell_of_row _ _ _ _ _ _ HR.out]; exact HT.out.2.2
                by_cases hjl : j < C
                · have hm : j * S ≤ 1024 * 56 := Nat.mul_le_mul (by omega) hzS
                  obtain ⟨M, hM⟩ : ∃ M, M = j * S := ⟨_, rfl⟩
                  rw [← hM] at hm
                  have hrec : recOf c (k : Int) (j : Int) = ((O + M : Nat) : Int) := by
                    unfold recOf
                    rw [if_pos (by simp; rw [← HC.out]; omega), Int.toNat_natCast, ← HOE.out, ← HSS.out, hM]
                    push_cast
                    rfl
                  have hR := refRecord_any c frame (k : Int) (j : Int)
                  rw [hrec] at hR
                  have hR2 : ∀ W', Calls Try.prog 15 #[.agg (tabCells c frame), .int .i64 (k : Int), .int .i64 (j : Int)] W' fun e w' => e = .returned (.int .i64 ((O + M : Nat) : Int)) ∧ Below W'.heap.size W' w' := fun W' => hR W' HCC.out
                  have HREC := Lib.hid hR2
                  obtain ⟨R, hRe⟩ : ∃ R, R = O + M := ⟨_, rfl⟩
                  rw [← hRe] at HREC
                  have hRle : R ≤ 2000000 := by omega
                  have HRE := Lib.hid hRe; have HM := Lib.hid hM
                  clear hR hR2 hrec hRe hM hm
                  go_wp2_with (refine wpList_load_row rfl 31 (.tmp 2) rfl w.heap.size rfl 31 (tabCells c frame) (0, 0) _ HR.out rfl rfl rfl ?_)
                  refine (HREC.out _).mono ?_
                  rintro e W2 ⟨rfl, hb2⟩
                  have hr2 : W2.heap[w.heap.size]? = some (.cells (tabCells c frame) 31 (0, 0)) := (hb2.block _ (lt_of_block HR.out)).trans HR.out
                  have hB2 := HB.out.trans (hb2.mono HB.out.size)
                  have HR2 := Lib.hid hr2; have HB2 := Lib.hid hB2
                  clear hr2 hB2 hb2
                  by_cases q1 : R ≤ p
                  · have t1 : decide (R ≤ p) = true := by simp [q1]
                    have hw : IntKind.i64.wrap ((R : Int) + (S : Int)) = (R : Int) + (S : Int) := by rw [IntKind.wrap_i64]; omega
                    by_cases q2 : p < R + S
                    · have t2 : decide ((p : Int) < (R : Int) + (S : Int)) = true := by simp; omega
                      go_wp2_with (fail)
                      refine (HSZ.out _).mono ?_
                      rintro e W3 ⟨rfl, rfl⟩
                      go_wp2_with (fail)
                      go_ret2
                      have hSp : 0 < S := by rw [HSS.out]; have := secSize_pos k; omega
                      have e1 : R = O + j * S := by rw [HRE.out, HM.out]
                      have hin : InSec c k p := by
                        refine inSec_rec c k p j (by rw [← HC.out]; omega) ?_ ?_
                        · rw [← HOE.out, ← HSS.out, ← e1]; exact q1
                        · rw [← HOE.out, ← HSS.out, ← e1]; exact q2
                      refine ⟨_, _, rfl, HSI.out _ _ (.inr (.inr (.inr ⟨p, rfl, hp1, hp2, .inl ⟨k, hk, hlt, hin, rfl, ?_⟩⟩))), HB2.out⟩
                      rw [← HOE.out, ← HSS.out, rec_index O S j p hSp (by omega) (by omega)]
                    · have t2 : decide ((p : Int) < (R : Int) + (S : Int)) = false := by simp; omega
                      go_wp2_with (fail)
                      refine (HSZ.out _).mono ?_
                      rintro e W3 ⟨rfl, rfl⟩
                      go_wp2_with (fail)
                      refine ⟨?_, ?_⟩
                      · exact ⟨j + 1, by omega, by go_num, HR2, HB2, Lib.hid (fun i h => by
                        by_cases he : i = j
                        · subst he; rw [← HM.out, ← HRE.out]; omega
                        · exact HI.out i (by omega))⟩
                      · simp [intOf]; omega
                  · have t1 : decide (R ≤ p) = false := by simp; omega
                    go_wp2_with (fail)
                    refine ⟨?_, ?_⟩
                    · exact ⟨j + 1, by omega, by go_num, HR2, HB2, Lib.hid (fun i h => by
                      by_cases he : i = j
                      · subst he; rw [← HM.out, ← HRE.out]; omega
                      · exact HI.out i (by omega))⟩
                    · simp [intOf]; omega
                · obtain rfl : j = C := by omega
                  go_wp2
                  refine ⟨⟨k + 1, by omega, by omega, by go_num, HR, HB, Lib.hid (fun s h1 h2 => ?_)⟩, ?_⟩
                  · by_cases he : s = k
                    · subst he
                      refine inSec_none c s p (fun i hi => ?_)
                      rw [← HOE.out, ← HSS.out]
                      exact HI.out i (by rw [HC.out]; exact hi)
                    · exact HA.out s h1 (by omega)
                  · simp [intOf]; omega
            · obtain rfl : k = 7 := by omega
              go_wp2
              go_ret2
              exact ⟨_, _, rfl, HSI.out _ _ (.inr (.inr (.inr ⟨p, rfl, hp1, hp2, .inr ⟨fun s h1 h2 => HA.out s h1 (by omega), rfl, rfl⟩⟩))), HB.out⟩
end Go.Proofs.Ythmenbehpblljaa
