/-
  Sealed at sealed bytes.
-/
import Derived.Test.YthmenbehpblljaaCrcA
namespace Go.Proofs.Ythmenbehpblljaa
open Go.RowKit

def RetLittle (r : Crc.B32) (w : World) (e : Ending) (w' : World) : Prop :=
  ∃ cs, e = .returned (.slice (some ⟨w.heap.size, 0, none⟩) 4 4) ∧ w' = w.alloc (.cells cs 5) ∧ ∀ j, j < 4 → (w.alloc (.cells cs 5)).cell? ⟨w.heap.size, 0 + j, none⟩ = some (.int .u8 (((littleOf r).map Int.ofNat).getD j 0))
theorem little_ret (r : Crc.B32) (w : World) : Calls Try.prog 61 #[reg r] w (RetLittle r w) := by
  refine (little_any r w).mono ?_
  rintro e w' ⟨rfl, rfl⟩
  refine ⟨_, rfl, rfl, fun j hj => ?_⟩
  have h := bytes_newrow w 5 (littleOf r) j (by simpa [littleOf] using hj)
  rw [h]
  match j, hj with
  | 0, _ => rfl
  | 1, _ => rfl
  | 2, _ => rfl
  | 3, _ => rfl

set_option maxHeartbeats 2000000 in
set_option maxRecDepth 100000 in
theorem sealed_yes (b c : Nat) (l : List Nat) (w : World) (hl : ∀ j, l.getD j 0 < 256) (hs : ∀ j, j < l.length → w.cell? ⟨b, 0 + j, none⟩ = some (.int .u8 ((l.getD j 0 : Nat) : Int))) (hs2 : ∀ j, j < 4 → w.cell? ⟨b, l.length + j, none⟩ = some (.int .u8 (((littleOf (crcOf l)).map Int.ofNat).getD j 0))) (hn : l.length ≤ 1000000) (hc : l.length + 4 ≤ c) :
    Calls Try.prog 42 #[.slice (some ⟨b, 0, none⟩) (l.length + 4) c] w fun e w' => e = .returned (.bool true) ∧ Below w.heap.size w w' := by
  have HL := Lib.hid hl; have HS := Lib.hid hs; have HS2 := Lib.hid hs2; clear hl hs hs2
  have hp : (w.alloc (.cells #[.slice (some ⟨b, 0, none⟩) l.length c] 53)).drew.cell? ⟨w.heap.size, 0, none⟩ = some (.slice (some ⟨b, 0, none⟩) l.length c) := cell_newbox _ _ _
  have hd : ∀ j, j < l.length → (w.alloc (.cells #[.slice (some ⟨b, 0, none⟩) l.length c] 53)).drew.cell? ⟨b, 0 + j, none⟩ = some (.int .u8 ((l.getD j 0 : Nat) : Int)) := fun j hj => Lib.cell?_alloc_some _ (HS.out j hj)
  have hbw : Below w.heap.size w (w.alloc (.cells #[.slice (some ⟨b, 0, none⟩) l.length c] 53)).drew := ((Below.refl w.heap.size w).alloc (Nat.le_refl _) _).drew
  have HP := Lib.hid hp; have HD := Lib.hid hd; have HBW := Lib.hid hbw; clear hp hd hbw
  have hcl : l.length ≤ c := by omega
  have hcl2 : ¬ c = l.length := by omega
  have hcl3 : (l.length : Int) ≤ (l.length : Int) + 4 := by omega
  go_enter Try.func42, Try.ntmps42
  go_wp2_with (fail)
  go_region_with (first
    | (go_at_call 41; go_loud (refine (sum_one w.heap.size 0 1 b 0 c l _ HP.out HL.out HD.out (by omega)).mono ?_); rintro e w1 ⟨rfl, hb1⟩; have HB1 := Lib.hid (HBW.out.trans (hb1.mono HBW.out.size)); clear hb1)
    | (go_at_call 61; go_loud (refine (little_ret _ _).mono ?_); rintro e w2 ⟨cs, rfl, rfl, h4⟩; have H4 := Lib.hid h4; clear h4)
    | (go_at_call 28; go_loud (refine (equal_yes _ 0 4 b l.length _ ((littleOf (crcOf l)).map Int.ofNat) _ H4.out (fun j hj => Lib.cell?_alloc_some _ ((HB1.out.cell (p := ⟨b, l.length + j, none⟩) (block_lt_of_cell (HS2.out j hj))).trans (HS2.out j hj))) (by simp [littleOf])).mono ?_); rintro e w3 ⟨rfl, n3, rfl⟩; have HB3 := Lib.hid (below_drewN (HB1.out.alloc HB1.out.size (.cells cs 5)) n3)))
  all_goals (go_wp2; go_ret; exact ⟨rfl, HB3.out⟩)
end Go.Proofs.Ythmenbehpblljaa
