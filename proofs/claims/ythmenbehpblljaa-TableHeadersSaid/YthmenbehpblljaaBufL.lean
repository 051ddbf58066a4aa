/-
  The walk of BufLimits: a builder takes zero bytes up to 2^24 bytes in all.
-/
import Derived.Test.YthmenbehpblljaaBuf4
namespace Go.Proofs.Ythmenbehpblljaa
open Go.RowKit

theorem IsBuf.drewN {n₀ B : Nat} {xs : List Value} {w : World} (h : IsBuf n₀ B xs w) (n : Nat) : IsBuf n₀ B xs (w.drewN n) := h

/-- A builder below which nothing has changed. -/
theorem IsBuf.below {n₀ B k : Nat} {xs : List Value} {w w1 : World} (h : IsBuf n₀ B xs w) (hb : Below k w w1) (hk : w.heap.size ≤ k) : IsBuf n₀ B xs w1 := by
  obtain ⟨a, c, hc, hB, ho⟩ := h
  have hg : w.grownBy w1 none := ⟨hb.os, hb.tape, hb.output, hb.size, fun j hj _ => hb.block j (by omega)⟩
  exact ⟨a, c, by rw [hb.block B (by have := lt_of_block hc; omega)]; exact hc, hB, ho.kept hg (by cases h : Value.ownBlock (.slice a xs.length c) <;> simp)⟩

theorem ownsRow_some {w : World} {n₀ n c : Nat} {e : TypeId} {a : Option Addr} {xs : List Value} (h : w.ownsRow n₀ e 1 (.slice a n c) n xs) (hn : 0 < n) : ∃ g, a = some ⟨g, 0, none⟩ := by
  rcases h.2 with ⟨_, h0⟩ | ⟨g, cap, cur, hv, _⟩
  · omega
  · simp at hv
    exact ⟨g, hv.1⟩

theorem ownsRow_cap {w : World} {n₀ n c : Nat} {e : TypeId} {a : Option Addr} {xs : List Value} (h : w.ownsRow n₀ e 1 (.slice a n c) n xs) : n ≤ c := by
  rcases h.2 with ⟨_, h0⟩ | ⟨g, cap, cur, hv, _, _, hnc, _⟩
  · omega
  · simp at hv
    omega

theorem ownsRow_cells {w : World} {n₀ n c g : Nat} {e : TypeId} {xs : List Value} (l : List Int) (h : w.ownsRow n₀ e 1 (.slice (some ⟨g, 0, none⟩) n c) n xs) (hx : xs = l.map (Value.int .u8)) : ∀ j, j < l.length → w.cell? ⟨g, 0 + j, none⟩ = some (.int .u8 (l.getD j 0)) := by
  intro j hj
  have := h.cells (g := g) rfl j (.int .u8 (l.getD j 0)) (by rw [hx]; simp [List.getD, hj])
  rw [Addr.add_lit] at this
  exact this

theorem cells_newrow (w : World) (t : TypeId) (l : List Int) : ∀ j, j < l.length → (w.alloc (.cells (l.map (Value.int .u8)).toArray t)).cell? ⟨w.heap.size, 0 + j, none⟩ = some (.int .u8 (l.getD j 0)) := by
  intro j hj
  rw [cell_of_row _ _ _ _ _ _ (heap_alloc_new w _)]
  simp [List.getD, hj]

theorem leVals_258 : leVals 258 2 = [.int .u8 2, .int .u8 1] := by kernel_rfl

theorem three_one : ∀ u ∈ [Value.int .u8 9] ++ [Value.int .u8 2, Value.int .u8 1], u.oneCell' = true := by
  intro u hu
  simp at hu
  rcases hu with rfl | rfl | rfl <;> rfl

theorem three_bd : ∀ j, 0 ≤ [(9 : Int), 2, 1].getD j 0 ∧ [(9 : Int), 2, 1].getD j 0 ≤ 255 := by
  intro j
  match j with
  | 0 => decide
  | 1 => decide
  | 2 => decide
  | _ + 3 => simp

theorem three_258 : leSum (fun i => [(9 : Int), 2, 1].getD ((1 : Int).toNat + i) 0) 2 = 258 := by kernel_rfl

set_option maxHeartbeats 1000000 in
set_option maxRecDepth 100000 in
theorem alive03_any (w : World) : Calls Try.prog 22 #[] w fun e w' => e = .returned (.bool true) ∧ Below w.heap.size w w' := by
  have hs0 : Src (w.alloc (.cells #[.int .u8 9] 5)) (some ⟨w.heap.size, 0, none⟩) [.int .u8 9] := src_box rfl
  have HS0 := Lib.hid hs0; clear hs0
  go_enter Try.func22, Try.ntmps22
  go_wp2_with (fail)
  refine (new_any w.heap.size _ 1 [.int .u8 9] _ HS0.out (by simp) (by simp)).mono ?_
  rintro e w1 ⟨B, rfl, hb1, hl1⟩
  have HB1 := Lib.hid hb1; have HL1 := Lib.hid (((Below.refl w.heap.size w).alloc (Nat.le_refl _) _).trans hl1); clear hb1 hl1
  go_wp2_with (fail)
  refine (u16_any w.heap.size B 258 _ _ HB1.out (by decide) (by decide) (by simp)).mono ?_
  rintro e w2 ⟨rfl, hb2, hl2⟩
  rw [leVals_258] at hb2
  have HB2 := Lib.hid hb2; have HL2 := Lib.hid (HL1.out.trans hl2); clear hb2 hl2
  go_wp2_with (fail)
  refine (bytes_any w.heap.size B _ _ HB2.out three_one (by simp)).mono ?_
  rintro e w3 ⟨a3, c3, rfl, ho3, hl3⟩
  obtain ⟨g3, rfl⟩ := ownsRow_some ho3 (by simp)
  have hcl3 := ownsRow_cells [9, 2, 1] ho3 rfl
  have HC3 := Lib.hid hcl3
  have hle3 := ownsRow_cap ho3
  have HB3 := Lib.hid (HB2.out.below hl3 (Nat.le_refl _)); have HL3 := Lib.hid (HL2.out.trans (hl3.mono HL2.out.size)); clear ho3 hl3 hcl3
  have hv := viewU16_yes g3 0 c3 [9, 2, 1] 1 w3 HC3.out three_bd (by decide) hle3 (by decide) (by decide)
  rw [three_258] at hv
  have HV := Lib.hid hv; clear hv
  go_wp2_with (fail)
  refine HV.out.mono ?_
  rintro e w4 ⟨rfl, rfl⟩
  go_wp2_with (fail)
  refine (bytes_any w.heap.size B _ _ HB3.out three_one (by simp)).mono ?_
  rintro e w5 ⟨a5, c5, rfl, ho5, hl5⟩
  obtain ⟨g5, rfl⟩ := ownsRow_some ho5 (by simp)
  have hcl5 := ownsRow_cells [9, 2, 1] ho5 rfl
  have HC5 := Lib.hid hcl5
  have HB5 := Lib.hid (HB3.out.below hl5 (Nat.le_refl _)); have HL5 := Lib.hid (HL3.out.trans (hl5.mono HL3.out.size)); clear ho5 hl5 hcl5
  go_wp2_with (fail)
  have h1 : ∀ j, j < [(9 : Int), 2, 1].length → (w5.alloc (.cells #[.int .u8 9, .int .u8 2, .int .u8 1] 5)).cell? ⟨g5, 0 + j, none⟩ = some (.int .u8 ([(9 : Int), 2, 1].getD j 0)) := fun j hj => Lib.cell?_alloc_some _ (HC5.out j hj)
  have h2 : ∀ j, j < [(9 : Int), 2, 1].length → (w5.alloc (.cells #[.int .u8 9, .int .u8 2, .int .u8 1] 5)).cell? ⟨w5.heap.size, 0 + j, none⟩ = some (.int .u8 ([(9 : Int), 2, 1].getD j 0)) := cells_newrow w5 5 [9, 2, 1]
  have H1 := Lib.hid h1; have H2 := Lib.hid h2; clear h1 h2
  refine (equal_yes g5 0 c5 w5.heap.size 0 3 [9, 2, 1] _ H1.out H2.out (by decide)).mono ?_
  rintro e w6 ⟨rfl, n6, rfl⟩
  have HB6 := Lib.hid ((HB5.out.alloc (.cells #[.int .u8 9, .int .u8 2, .int .u8 1] 5)).drewN n6)
  have HL6 := Lib.hid (below_drewN (HL5.out.alloc HL5.out.size (.cells #[.int .u8 9, .int .u8 2, .int .u8 1] 5)) n6)
  go_wp2_with (fail)
  refine (len_any w.heap.size B _ _ HB6.out).mono ?_
  rintro e w7 ⟨rfl, rfl⟩
  go_wp2_with (fail)
  go_ret
  exact ⟨rfl, HL6.out⟩
end Go.Proofs.Ythmenbehpblljaa
