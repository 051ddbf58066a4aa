/-
  Sealing, and the example of the chapter on checksums.
-/
import Derived.Test.YthmenbehpblljaaCrcS
import Derived.Test.YthmenbehpblljaaCat
import Derived.Deep.RegionWith
namespace Go.Proofs.Ythmenbehpblljaa
open Go.RowKit

/-- Bytes as Go values. -/
def byteVals (l : List Nat) : List Value := l.map fun b => .int .u8 ((b : Nat) : Int)
theorem byteVals_length (l : List Nat) : (byteVals l).length = l.length := by simp [byteVals]
theorem byteVals_one (l : List Nat) : ∀ u ∈ byteVals l, u.oneCell' = true := by
  intro u hu
  obtain ⟨b, _, rfl⟩ := List.mem_map.1 hu
  rfl
theorem byteVals_get (l : List Nat) (j : Nat) (hj : j < l.length) : (byteVals l)[j]? = some (.int .u8 ((l.getD j 0 : Nat) : Int)) := by simp [byteVals, List.getD, hj]
def littleOf (r : Crc.B32) : List Nat := [r.toNat % 256, r.toNat / 256 % 256, r.toNat / 65536 % 256, r.toNat / 16777216 % 256]

theorem little_any (r : Crc.B32) (w : World) :
    Calls Try.prog 61 #[reg r] w fun e w' => e = .returned (.slice (some ⟨w.heap.size, 0, none⟩) 4 4) ∧ w' = w.alloc (.cells (byteVals (littleOf r)).toArray 5) := by
  have h1 := r.isLt
  obtain ⟨x, hx⟩ : ∃ x, x = r.toNat := ⟨_, rfl⟩
  unfold littleOf byteVals
  rw [reg, ← hx] at *
  rw [← hx]
  clear hx
  go_enter Try.func61, Try.ntmps61
  go_wp2
  go_ret
  refine ⟨rfl, ?_⟩
  simp

theorem ownsRow_base {w : World} {n₀ n₁ n size : Nat} {e : TypeId} {v : Value} {xs : List Value} (h : w.ownsRow n₀ e size v n xs) (hn : n₁ ≤ n₀) : w.ownsRow n₁ e size v n xs := by
  obtain ⟨h1, h2⟩ := h
  refine ⟨h1, ?_⟩
  rcases h2 with h2 | ⟨g, cap, cur, hv, hg, r⟩
  · exact .inl h2
  · exact .inr ⟨g, cap, cur, hv, by omega, r⟩

theorem src_bytes {w : World} {b : Nat} {l : List Nat} (h : ∀ j, j < l.length → w.cell? ⟨b, 0 + j, none⟩ = some (.int .u8 ((l.getD j 0 : Nat) : Int))) : Src w (some ⟨b, 0, none⟩) (byteVals l) := by
  refine ⟨fun h => (by cases h), byteVals_one l, fun ad had j u hu => ?_⟩
  obtain rfl := Option.some.inj had
  have hj : j < l.length := by
    have := (List.getElem?_eq_some_iff.1 hu).1
    simpa [byteVals] using this
  rw [byteVals_get l j hj] at hu
  rw [Addr.add_lit, h j hj]
  exact hu

theorem bytes_newrow (w : World) (t : TypeId) (l : List Nat) : ∀ j, j < l.length → (w.alloc (.cells (byteVals l).toArray t)).cell? ⟨w.heap.size, 0 + j, none⟩ = some (.int .u8 ((l.getD j 0 : Nat) : Int)) := by
  intro j hj
  rw [cell_of_row _ _ _ _ _ _ (heap_alloc_new w _)]
  simp [byteVals, List.getD, hj]

set_option maxHeartbeats 1000000 in
set_option maxRecDepth 100000 in
theorem seal_any (b c : Nat) (l : List Nat) (w : World) (hl : ∀ j, l.getD j 0 < 256) (hs : ∀ j, j < l.length → w.cell? ⟨b, 0 + j, none⟩ = some (.int .u8 ((l.getD j 0 : Nat) : Int))) (hn : l.length ≤ 1000000) :
    Calls Try.prog 43 #[.slice (some ⟨b, 0, none⟩) l.length c] w (RetRow w.heap.size (byteVals (l ++ littleOf (crcOf l))) w) := by
  have HL := Lib.hid hl; have HS := Lib.hid hs; clear hl hs
  have hw1 : (w.alloc (.cells #[.slice (some ⟨b, 0, none⟩) l.length c] 53)).cell? ⟨w.heap.size, 0, none⟩ = some (.slice (some ⟨b, 0, none⟩) l.length c) := cell_newbox _ _ _
  have HW1 := Lib.hid hw1; clear hw1
  go_enter Try.func43, Try.ntmps43
  go_wp2_with (fail)
  refine (sum_one w.heap.size 0 1 b 0 c l _ HW1.out HL.out (fun j hj => Lib.cell?_alloc_some _ (HS.out j hj)) (by omega)).mono ?_
  rintro e w1 ⟨rfl, hb1⟩
  have HB1 := Lib.hid (((Below.refl w.heap.size w).alloc (Nat.le_refl _) (.cells #[.slice (some ⟨b, 0, none⟩) l.length c] 53)).trans (hb1.mono (by simp)))
  clear hb1
  go_wp2_with (fail)
  refine (little_any _ _).mono ?_
  rintro e w2 ⟨rfl, hw2⟩
  obtain ⟨cells4, hc4⟩ : ∃ cs, cs = (byteVals (littleOf (crcOf l))).toArray := ⟨_, rfl⟩
  have hnew := bytes_newrow w1 5 (littleOf (crcOf l))
  rw [← hc4] at hw2 hnew
  have HN := Lib.hid hnew; clear hnew hc4
  subst hw2
  go_wp2_with (fail)
  obtain ⟨W, hW⟩ : ∃ W, W = (w1.alloc (.cells cells4 5)).alloc (.cells #[.slice (some ⟨b, 0, none⟩) l.length c, .slice (some ⟨w1.heap.size, 0, none⟩) 4 4] 53) := ⟨_, rfl⟩
  have hp0 : W.cell? ⟨w1.heap.size + 1, 0, none⟩ = some (.slice (some ⟨b, 0, none⟩) l.length c) := by
    rw [hW, cell_of_row _ _ _ _ _ _ (heap_alloc2_new w1 _ _)]; rfl
  have hp1 : W.cell? ⟨w1.heap.size + 1, 0 + 1, none⟩ = some (.slice (some ⟨w1.heap.size, 0, none⟩) 4 4) := by
    rw [hW, cell_of_row _ _ _ _ _ _ (heap_alloc2_new w1 _ _)]; rfl
  have hs0 : Src W (some ⟨b, 0, none⟩) (byteVals l) := src_bytes (fun j hj => by
    rw [hW]
    exact Lib.cell?_alloc_some _ (Lib.cell?_alloc_some _ ((HB1.out.cell (p := ⟨b, 0 + j, none⟩) (block_lt_of_cell (HS.out j hj))).trans (HS.out j hj))))
  have hs1 : Src W (some ⟨w1.heap.size, 0, none⟩) (byteVals (littleOf (crcOf l))) := src_bytes (fun j hj => by
    rw [hW]
    exact Lib.cell?_alloc_some _ (HN.out j hj))
  have hbW : Below w.heap.size w W := by
    rw [hW]
    exact (HB1.out.alloc HB1.out.size _).alloc (by have := HB1.out.size; simp; omega) _
  have hcat := concat_any (w1.heap.size + 1) 0 2 [(some ⟨b, 0, none⟩, c, byteVals l), (some ⟨w1.heap.size, 0, none⟩, 4, byteVals (littleOf (crcOf l)))] W
    (fun i hi => by
      match i, hi with
      | 0, _ => simpa [byteVals_length] using hp0
      | 1, _ => simpa [byteVals_length, littleOf] using hp1)
    (fun i hi => by
      match i, hi with
      | 0, _ => exact ⟨hs0, fun h => by cases h⟩
      | 1, _ => exact ⟨hs1, fun h => by cases h⟩)
    (by simp [partsLen, byteVals_length, littleOf]; omega) (by simp)
  rw [← hW]
  have e1 : partsAll [((some ⟨b, 0, none⟩ : Option Addr), c, byteVals l), (some ⟨w1.heap.size, 0, none⟩, 4, byteVals (littleOf (crcOf l)))] = byteVals (l ++ littleOf (crcOf l)) := by
    simp [partsAll, byteVals]
  rw [e1] at hcat
  have HCAT := Lib.hid hcat; have HBW := Lib.hid hbW
  clear hW hp0 hp1 hs0 hs1 hcat e1 hbW
  refine HCAT.out.mono ?_
  rintro e w3 ⟨a3, c3, rfl, ho, hb⟩
  have HO := Lib.hid (ownsRow_base ho HBW.out.size); have HB3 := Lib.hid (HBW.out.trans (hb.mono HBW.out.size)); clear ho hb
  go_wp2_with (fail)
  go_ret
  exact ⟨a3, c3, rfl, HO.out, HB3.out⟩

end Go.Proofs.Ythmenbehpblljaa
