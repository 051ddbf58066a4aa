/-
  The law's example (alive); counts that are right.
-/
import Derived.Test.YthmenbehpblljaaTabCT
namespace Go.Proofs.Ythmenbehpblljaa
open Go.RowKit Go.Shelf

theorem counts_of_right (z : Nat → Int) (h : Right z) : ∃ c : Nat → Nat, CountsOk c ∧ zCells z = countCells (z 0) c := by
  refine ⟨fun s => if 1 ≤ s ∧ s ≤ 6 then (z s).toNat else 0, fun s => ?_, ?_⟩
  · by_cases hs : 1 ≤ s ∧ s ≤ 6
    · have := h s hs.1 hs.2
      simp only [hs, and_self, if_true]
      omega
    · simp only [hs, if_false]
      omega
  · have h1 := h 1 (by omega) (by omega)
    have h2 := h 2 (by omega) (by omega)
    have h3 := h 3 (by omega) (by omega)
    have h4 := h 4 (by omega) (by omega)
    have h5 := h 5 (by omega) (by omega)
    have h6 := h 6 (by omega) (by omega)
    simp [zCells, countCells]
    omega

def noCounts (s : Nat) : Nat := if s = 2 then 0 else 0
def oneCount (s : Nat) : Nat := if s = 2 then 1 else 0
theorem noCounts_ok : CountsOk noCounts := fun s => by simp [noCounts]
theorem oneCount_ok : CountsOk oneCount := fun s => by unfold oneCount secLimit; repeat (split <;> try omega)

set_option maxRecDepth 100000 in
set_option maxHeartbeats 2000000 in
theorem alive10_any (w : World) : Calls Try.prog 9 #[] w fun e w' => e = .returned (.bool true) ∧ Below w.heap.size w w' := by
  go_enter Try.func9, Try.ntmps9
  have c1 := for_any noCounts 0 7 w noCounts_ok
  have C1 := Lib.hid c1; clear c1
  go_wp2_with (fail)
  refine (C1.out).mono ?_
  rintro e w1 ⟨rfl, hb1⟩
  have HB1 := Lib.hid hb1; clear hb1
  go_wp2_with (first
    | (refine wpList_store_row rfl 28 (.tmp 1) (.tmp 8) rfl w1.heap.size (tabCells noCounts 7) rfl rfl 28 _ (alloc_at rfl) rfl rfl (by simp [tabCells, Value.oneCell']) ?_))
  obtain ⟨W2, hW2⟩ : ∃ W2, W2 = (w1.alloc (Obj.cells (zeroTab 0) 28)).setRow w1.heap.size (tabCells noCounts 7) := ⟨_, rfl⟩
  have r2 : W2.heap[w1.heap.size]? = some (.cells (tabCells noCounts 7) 28 (0, 0)) := by rw [hW2]; exact setRow_heap _ _ _ _ _ (0, 0) (alloc_at rfl)
  have b2 : Below w.heap.size w W2 := by
    rw [hW2]; exact below_setRow (HB1.out.alloc HB1.out.size _) (by have := HB1.out.size; omega) _
  have c2 := for_any oneCount 0 7 W2 oneCount_ok
  show Calls _ _ _ ((w1.alloc (Obj.cells (zeroTab 0) 28)).setRow w1.heap.size (tabCells noCounts 7)) _
  rw [← hW2]
  have HB2 := Lib.hid b2; have R2 := Lib.hid r2
  clear b2 r2 hW2
  refine (show Calls Try.prog 10 #[.int .u64 7, .agg #[.int .i64 0, .int .i64 0, .int .i64 1, .int .i64 0, .int .i64 0, .int .i64 0, .int .i64 0]] W2 (RetFor oneCount 7 W2) from c2).mono ?_
  rintro e w3 ⟨rfl, hb3⟩
  have HR3 := Lib.hid ((hb3.block _ (lt_of_block R2.out)).trans R2.out)
  have hlt := lt_of_block HR3.out
  have HB3 := Lib.hid (HB2.out.trans (hb3.mono HB2.out.size))
  clear hb3 c2
  have r1 : ((w3.alloc (Obj.cells (zeroTab 0) 28)).setRow w3.heap.size (tabCells oneCount 7)).heap[w1.heap.size]? = some (.cells (tabCells noCounts 7) 28 (0, 0)) := by
    rw [setRow_other _ _ _ _ (by omega), Below.heap_alloc _ _ _ (by omega)]; exact HR3.out
  have r3 : ((w3.alloc (Obj.cells (zeroTab 0) 28)).setRow w3.heap.size (tabCells oneCount 7)).heap[w3.heap.size]? = some (.cells (tabCells oneCount 7) 28 (0, 0)) := setRow_heap _ _ _ _ _ (0, 0) (alloc_at rfl)
  have b3 : Below w.heap.size w ((w3.alloc (Obj.cells (zeroTab 0) 28)).setRow w3.heap.size (tabCells oneCount 7)) := below_setRow (HB3.out.alloc HB3.out.size _) (by have := HB3.out.size; omega) _
  have B3 := Lib.hid b3
  have g1 := cell_of_row _ _ 1 _ _ _ r1
  have g0 := cell_of_row _ _ 0 _ _ _ r1
  have k1 := cell_of_row _ _ 1 _ _ _ r3
  have k4 := cell_of_row _ _ 4 _ _ _ r3
  have k5 := cell_of_row _ _ 5 _ _ _ r3
  rw [show (tabCells noCounts 7)[1]? = some (.int .i64 84) from by kernel_rfl] at g1
  rw [show (tabCells noCounts 7)[0]? = some (.int .u64 7) from by kernel_rfl] at g0
  rw [show (tabCells oneCount 7)[1]? = some (.int .i64 116) from by kernel_rfl] at k1
  rw [show (tabCells oneCount 7)[4]? = some (.int .i64 80) from by kernel_rfl] at k4
  rw [show (tabCells oneCount 7)[5]? = some (.int .i64 112) from by kernel_rfl] at k5
  clear b3 r1 r3
  unfold zeroTab at g1 g0 k1 k4 k5 B3
  go_wp2_with (first
    | (refine wpList_store_row rfl 28 (.tmp 3) (.tmp 13) rfl w3.heap.size (tabCells oneCount 7) rfl rfl 28 _ (alloc_at rfl) rfl rfl (by simp [tabCells, Value.oneCell']) ?_))
  go_ret
  exact ⟨rfl, B3.out⟩
end Go.Proofs.Ythmenbehpblljaa
