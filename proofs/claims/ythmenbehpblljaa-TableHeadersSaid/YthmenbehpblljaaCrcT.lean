/-
  The table of package crc.
-/
import Derived.Test.YthmenbehpblljaaCrcW
import Derived.Deep.WholeRow
namespace Go.Proofs.Ythmenbehpblljaa
open Go.RowKit

/-- An element of the table. -/
def tabE (j : Nat) : Crc.B32 := Crc.shN 8 (BitVec.ofNat 32 j)
/-- A row of 256 cells that holds the table up to k. -/
def IsTab (cs : Array Value) (k : Nat) : Prop := cs.size = 256 ∧ (∀ j, j < k → cs[j]? = some (reg (tabE j))) ∧ cs.all (·.oneCell') = true
def RetTable (w : World) (e : Ending) (w' : World) : Prop := ∃ cs, e = .returned (.agg cs) ∧ IsTab cs 256 ∧ Below w.heap.size w w'

theorem times8_nat (k : Nat) (w : World) (hk : k < 256) :
    Calls Try.prog 44 #[.int .u32 (k : Int), .int .i64 8, .func (.func 45) #[] #[]] w fun e w' => e = .returned (reg (tabE k)) ∧ w = w' := by
  have h := times8_any (BitVec.ofNat 32 k) w
  have e : ((BitVec.ofNat 32 k).toNat : Int) = (k : Int) := by rw [BitVec.toNat_ofNat]; omega
  rw [reg, e] at h
  exact h

theorem IsTab.set {cs : Array Value} {k : Nat} (h : IsTab cs k) (hk : k < 256) : IsTab (cs.setIfInBounds k (reg (tabE k))) (k + 1) := by
  obtain ⟨h1, h2, h3⟩ := h
  refine ⟨by simpa using h1, fun j hj => ?_, ?_⟩
  · rw [Array.getElem?_setIfInBounds]
    by_cases e : k = j
    · subst e; simp; omega
    · rw [if_neg e]; exact h2 j (by omega)
  · rw [Array.all_eq_true] at h3 ⊢
    intro i hi
    rw [Array.getElem_setIfInBounds]
    split
    · rfl
    · exact h3 i (by simpa using hi)

theorem info101 : (Try.prog.info? 101).map (·.size) = some 256 := by kernel_rfl

set_option maxHeartbeats 1000000 in
set_option maxRecDepth 100000 in
theorem table_any (w : World) :
    Calls Try.prog 58 #[] w (RetTable w) := by
  have hz : IsTab Try.zeroCells101 0 := ⟨by kernel_rfl, fun j hj => by omega, by kernel_rfl⟩
  have HZ := Lib.hid hz; clear hz
  go_enter Try.func58, Try.ntmps58
  go_wp2
  go_loopw [3] (fun i wr => ∃ (k : Nat), k ≤ 256 ∧ i = .int .i64 k ∧ ∃ cs, Hid (IsTab cs k) ∧ Hid (wr.heap[w.heap.size + 1]? = some (.cells cs 101 (0, 0))) ∧ Hid (wr.heap[w.heap.size]? = some (.cells Try.zeroCells101 101 (0, 0))) ∧ Hid (Below w.heap.size w wr)) (fun i _ => 256 - (intOf i).toNat)
  case atStart =>
    exact ⟨0, by omega, rfl, _, HZ, heap_alloc2_new w _ _, heap_alloc2_old w _ _, ((Below.refl _ w).alloc (Nat.le_refl _) _).alloc (by simp) _⟩
  case round =>
    obtain ⟨k, hk, rfl, cs, HT, H1, H0, HB⟩ := hrel
    by_cases hlt : k < 256
    · have hsz := HT.out.1
      obtain ⟨v0, hc⟩ : ∃ v0, wr.cell? ⟨w.heap.size + 1, k, none⟩ = some v0 := ⟨cs[k]'(by omega), by rw [cell_of_row _ _ _ _ _ _ H1.out]; simp⟩
      have hf := frozen_of_row wr (w.heap.size + 1) k cs _ H1.out
      have HS := Lib.hid hsz; clear hsz
      go_wp2_with (go_at_call 44; go_loud (refine (times8_nat k _ hlt).mono ?_); rintro e w1 ⟨rfl, rfl⟩)
      go_roundw
      case rel => exact ⟨k + 1, by omega, by go_num, cs.setIfInBounds k (reg (tabE k)), HT.out.set hlt, heap_setCell_same _ _ _ _ _ _ H1.out, (heap_setCell_other _ _ _ _ (by simp)).trans H0.out, HB.out.setCell (p := ⟨w.heap.size + 1, k, none⟩) (by simp) _⟩
      case measure => simp [intOf]; omega
    · have hge : 256 ≤ k := by omega
      have hT : IsTab cs 256 := by have := HT.out; rwa [show k = 256 by omega] at this
      have hi : (Try.prog.info? 101).map (·.size) = some cs.size := by rw [hT.1]; exact info101
      have hzs : Try.zeroCells101.size = cs.size := by rw [hT.1]; exact HZ.out.1
      have HZS := Lib.hid hzs; clear hzs
      have HTT := Lib.hid hT; have HI := Lib.hid hi; clear hT hi
      go_wp2_with (first | ((refine wpList_load_row rfl 101 (.tmp 1) rfl (w.heap.size + 1) rfl 101 cs (0, 0) _ H1.out Try.underlying101 rfl HI.out ?_)) | (refine wpList_store_row rfl 101 (.tmp 0) (.tmp 12) rfl w.heap.size cs rfl rfl 101 _ H0.out HI.out HZS.out HTT.out.2.2 ?_))
      refine bodyPost_ret (v := .agg cs) (results_cell_row rfl _ _ w.heap.size 101 cs (0, 0) _ rfl (setRow_heap wr _ _ cs _ (0, 0) H0.out) Try.underlying101 rfl HI.out) rfl ?_
      refine ⟨cs, rfl, HTT.out, HB.out.trans ⟨rfl, rfl, rfl, by simp, fun j hj => setRow_other wr _ j cs (by omega)⟩⟩
end Go.Proofs.Ythmenbehpblljaa
