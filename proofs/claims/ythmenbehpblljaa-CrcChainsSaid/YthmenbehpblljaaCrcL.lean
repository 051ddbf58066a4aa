/-
  The example of the chapter on checksums, and the walk of CrcChains.
-/
import Derived.Test.YthmenbehpblljaaCrcD
import Derived.Lib.SlBytesConst
namespace Go.Proofs.Ythmenbehpblljaa
open Go.RowKit

def digits9 : List Nat := [49, 50, 51, 52, 53, 54, 55, 56, 57]
theorem crc_digits : crcOf digits9 = 0xCBF43926#32 := by decide +kernel
theorem crc_empty : crcOf [] = 0#32 := by decide +kernel
theorem digits9_lt : ∀ j, digits9.getD j 0 < 256 := by
  intro j
  match j with
  | 0 | 1 | 2 | 3 | 4 | 5 | 6 | 7 | 8 => decide
  | _ + 9 => simp [digits9]
theorem ab_lt : ∀ j, [97, 98].getD j 0 < 256 := by
  intro j
  match j with
  | 0 | 1 => decide
  | _ + 2 => simp

/-- The bytes of a constant in a new block, with a box beside it. -/
theorem const_cells (w : World) (t : TypeId) (fr : Nat × Nat) (l : List Nat) (o : Obj) : ∀ j, j < l.length → ((w.alloc (.cells (byteVals l).toArray t fr)).alloc o).cell? ⟨w.heap.size, 0 + j, none⟩ = some (.int .u8 ((l.getD j 0 : Nat) : Int)) := by
  intro j hj
  refine Lib.cell?_alloc_some _ ?_
  rw [cell_of_row _ _ _ _ _ _ (heap_alloc_new w _)]
  simp [byteVals, List.getD, hj]
theorem const_cells1 (w : World) (t : TypeId) (fr : Nat × Nat) (l : List Nat) : ∀ j, j < l.length → (w.alloc (.cells (byteVals l).toArray t fr)).cell? ⟨w.heap.size, 0 + j, none⟩ = some (.int .u8 ((l.getD j 0 : Nat) : Int)) := by
  intro j hj
  rw [cell_of_row _ _ _ _ _ _ (heap_alloc_new w _)]
  simp [byteVals, List.getD, hj]

theorem sum_digits (w : World) : Calls Try.prog 41 #[.slice (some ⟨w.heap.size + 1, 0, none⟩) 1 1]
    ((w.alloc (.cells #[.int .u8 49, .int .u8 50, .int .u8 51, .int .u8 52, .int .u8 53, .int .u8 54, .int .u8 55, .int .u8 56, .int .u8 57] 5 (9, 10))).alloc (.cells #[.slice (some ⟨w.heap.size, 0, none⟩) 9 9] 53))
    fun e w' => e = .returned (.int .u32 3421780262) ∧ Below w.heap.size w w' := by
  have h := sum_one (w.heap.size + 1) 0 1 w.heap.size 0 9 digits9 ((w.alloc (.cells (byteVals digits9).toArray 5 (9, 10))).alloc (.cells #[.slice (some ⟨w.heap.size, 0, none⟩) 9 9] 53))
    (by rw [cell_of_row _ _ _ _ _ _ (heap_alloc2_new w _ _)]; rfl) digits9_lt (const_cells w _ _ digits9 _) (by decide)
  refine Calls.mono h ?_
  rintro e w' ⟨rfl, hb⟩
  refine ⟨by rw [crc_digits]; rfl, ?_⟩
  have hb0 : Below w.heap.size w ((w.alloc (.cells (byteVals digits9).toArray 5 (9, 10))).alloc (.cells #[.slice (some ⟨w.heap.size, 0, none⟩) 9 9] 53)) := ((Below.refl _ w).alloc (Nat.le_refl _) _).alloc (by simp) _
  exact hb0.trans (hb.mono hb0.size)

set_option maxHeartbeats 2000000 in
set_option maxRecDepth 100000 in
theorem alive02_any (w : World) : Calls Try.prog 23 #[] w fun e w' => e = .returned (.bool true) ∧ Below w.heap.size w w' := by
  have kc := fun (w : World) (C : Array Value) (n c : Nat) => Lib.run_convert_bytes_const (P := Try.prog) w 53 5 C n c Try.underlying53 Try.underlying5
  go_enter Try.func23, Try.ntmps23
  go_wp2_with (fail)
  refine (sum_digits w).mono ?_
  rintro e w1 ⟨rfl, hb1⟩
  have HB1 := Lib.hid hb1; clear hb1
  go_wp2_with (fail)
  refine (sum_none _).mono ?_
  rintro e w2 ⟨rfl, hb2⟩
  rw [crc_empty]
  have HB2 := Lib.hid (HB1.out.trans (hb2.mono HB1.out.size)); clear hb2
  go_wp2_with (fail)
  refine (seal_any w2.heap.size 2 [97, 98] _ ab_lt (const_cells1 w2 5 (2, 3) [97, 98]) (by decide)).mono ?_
  rintro e w3 ⟨a3, c3, rfl, ho3, hb3⟩
  obtain ⟨g3, rfl⟩ := ownsRow_some ho3 (by simp [byteVals])
  have hc3 := ownsRow_cap ho3
  have hcells := ho3.cells (g := g3) rfl
  have hB3 : Below w.heap.size w w3 := (HB2.out.alloc HB2.out.size (.cells (byteVals [97, 98]).toArray 5 (2, 3))).trans (hb3.mono (by have := HB2.out.size; simp; omega))
  have h1 : ∀ j, j < [97, 98].length → w3.cell? ⟨g3, 0 + j, none⟩ = some (.int .u8 (([97, 98].getD j 0 : Nat) : Int)) := by
    intro j hj
    have := hcells j (.int .u8 (([97, 98].getD j 0 : Nat) : Int)) (by
      match j, hj with
      | 0, _ => rfl
      | 1, _ => rfl)
    rw [Addr.add_lit] at this
    exact this
  have h2 : ∀ j, j < 4 → w3.cell? ⟨g3, [97, 98].length + j, none⟩ = some (.int .u8 (((littleOf (crcOf [97, 98])).map Int.ofNat).getD j 0)) := by
    intro j hj
    have := hcells (2 + j) (.int .u8 (((littleOf (crcOf [97, 98])).map Int.ofNat).getD j 0)) (by
      match j, hj with
      | 0, _ => rfl
      | 1, _ => rfl
      | 2, _ => rfl
      | 3, _ => rfl)
    rw [Addr.add_lit, Nat.zero_add] at this
    exact this
  have H1 := Lib.hid h1; have H2 := Lib.hid h2; have HB3 := Lib.hid hB3
  have hc4 : [97, 98].length + 4 ≤ c3 := hc3
  have HC4 := Lib.hid hc4
  clear ho3 hb3 hcells hB3 h1 h2 hc3 hc4
  go_wp2_with (fail)
  refine (sealed_yes g3 c3 [97, 98] _ ab_lt H1.out H2.out (by decide) HC4.out).mono ?_
  rintro e w4 ⟨rfl, hb4⟩
  have HB4 := Lib.hid (HB3.out.trans (hb4.mono HB3.out.size)); clear hb4
  go_wp2_with (fail)
  go_ret
  exact ⟨rfl, HB4.out⟩
end Go.Proofs.Ythmenbehpblljaa
