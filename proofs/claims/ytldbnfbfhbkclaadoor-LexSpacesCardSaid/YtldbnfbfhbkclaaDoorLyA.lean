/-
  Chapter 6: the example of the chapter.
-/
import Derived.Test.YtldbnfbfhbkclaaDoorLxZ
namespace Go.Proofs.YtldbnfbfhbkclaaDoor
open Go.RowKit Go.Shelf

def exText : ByteArray := ⟨#[102, 114, 97, 109, 101, 32, 48, 120, 49, 48, 59]⟩
def exToks : List (Array Value) := [#[.int .i64 1, .string ⟨#[102, 114, 97, 109, 101]⟩, .int .u64 0, .int .i64 1, .int .i64 1], #[.int .i64 2, .string ⟨#[48, 120, 49, 48]⟩, .int .u64 16, .int .i64 1, .int .i64 7], #[.int .i64 4, .string ⟨#[59]⟩, .int .u64 0, .int .i64 1, .int .i64 11], #[.int .i64 0, .string ⟨#[]⟩, .int .u64 0, .int .i64 1, .int .i64 12]]
theorem ex_tr : TR exText 0 (1, 1) (.inl exToks) := by
  have r0 : rdAt exText 0 = ⟨1, ⟨#[102, 114, 97, 109, 101]⟩, 0, 5, 0⟩ := by
    unfold rdAt
    rw [if_neg (by decide +kernel), if_pos (by decide +kernel)]
    rfl
  have r6 : rdAt exText 6 = ⟨2, ⟨#[48, 120, 49, 48]⟩, 16, 10, 0⟩ := by
    unfold rdAt
    rw [if_neg (by decide +kernel), if_neg (by decide +kernel), if_pos (by decide +kernel)]
    have h1 : runTo (clsRun true) exText 6 = 10 := by decide +kernel
    rw [h1]
    have h2 : exText.extract 6 10 = ⟨#[48, 120, 49, 48]⟩ := by rfl
    rw [h2]
    have h3 : numR (⟨#[48, 120, 49, 48]⟩ : ByteArray).data.toList = (16, true) := numR_yes ⟨by decide, .inl (by rw [digs_big (by decide) (by decide), digs_small (by decide)]; rfl)⟩
    rw [h3]
  have r10 : rdAt exText 10 = ⟨4, ⟨#[59]⟩, 0, 11, 0⟩ := by
    unfold rdAt
    rw [if_neg (by decide +kernel), if_neg (by decide +kernel), if_neg (by decide +kernel), if_neg (by decide +kernel), if_pos (by decide +kernel)]
    rfl
  have r11 : rdAt exText 11 = ⟨0, ⟨#[]⟩, 0, 11, 0⟩ := by
    unfold rdAt
    rw [if_pos (by decide +kernel)]
  have s0 : Skip exText 0 0 := .stop 0 (by decide +kernel) (by decide +kernel) (by decide +kernel)
  have s5 : Skip exText 5 6 := .sp 5 6 (by decide +kernel) (by decide +kernel) (.stop 6 (by decide +kernel) (by decide +kernel) (by decide +kernel))
  have s10 : Skip exText 10 10 := .stop 10 (by decide +kernel) (by decide +kernel) (by decide +kernel)
  have s11 : Skip exText 11 11 := .fin 11 (by decide +kernel)
  have h3 := TR.fin 11 (1, 12) 11 s11 (by rw [r11]) (by rw [r11])
  rw [r11] at h3
  have h2 := TR.more 10 (1, 11) 10 _ s10 (by rw [r10]) (by rw [r10]; decide) (by rw [r10]; exact h3)
  rw [r10] at h2
  have h1 := TR.more 5 (1, 6) 6 _ s5 (by rw [r6]) (by rw [r6]; decide) (by rw [r6]; exact h2)
  rw [r6] at h1
  have h0 := TR.more 0 (1, 1) 0 _ s0 (by rw [r0]) (by rw [r0]; decide) (by rw [r0]; exact h1)
  rw [r0] at h0
  exact h0

set_option maxRecDepth 100000 in
set_option maxHeartbeats 4000000 in
theorem alive6_any (w : World) (hG : Glob w) : Calls Tryd.prog 6 #[] w fun e w' => e = .returned (.bool true) ∧ Below w.heap.size w w' := by
  have HG := Lib.hid hG
  clear hG
  go_enter Tryd.func6, Tryd.ntmps6
  go_wp2_with (fail)
  refine (tokens_any exText w (by decide +kernel) HG.out).mono ?_
  rintro e w1 ⟨R, hR, hb, hm⟩
  rw [hR.unique ex_tr] at hm
  obtain ⟨v, rfl, hrow⟩ := hm
  obtain ⟨a, c, rfl⟩ := ownsRow_slice hrow
  obtain ⟨g, rfl⟩ := ownsRow_someT hrow (by decide)
  have hc : ∀ (o : Nat) (x : Value), (flat exToks)[o]? = some x → w1.cell? ⟨g, o, none⟩ = some x := fun o x hx => by
    have h1 := World.ownsRow.cells hrow rfl o x hx
    rw [show (⟨g, 0, none⟩ : Addr).add o = ⟨g, o, none⟩ from by simp [Addr.add]; omega] at h1
    exact h1
  have n1 : exToks.length = 4 := rfl
  rw [n1]
  have a0 := hc 5 _ rfl; have a1 := hc 6 _ rfl; have a2 := hc 7 _ rfl; have a3 := hc 8 _ rfl; have a4 := hc 9 _ rfl; have b0 := hc 15 _ rfl
  obtain ⟨W3, hW3⟩ : ∃ W3, W3 = (w1.alloc (.cells (fltV 0 0 0) 26)).setRow w1.heap.size (fltV 0 0 0) := ⟨_, rfl⟩
  have h6 : W3.heap[w1.heap.size]? = some (.cells (fltV 0 0 0) 26 (0, 0)) := by rw [hW3]; exact setRow_heap _ _ _ _ _ _ (heap_alloc_new w1 _)
  have hgl := (hrow.lt g rfl).2
  have hold : ∀ (o : Nat) (x : Value), w1.cell? ⟨g, o, none⟩ = some x → W3.cell? ⟨g, o, none⟩ = some x := fun o x hx => by
    have h1 := below_setRow ((Below.refl w1.heap.size w1).alloc (Nat.le_refl _) (.cells (fltV 0 0 0) 26)) (Nat.le_refl _) (fltV 0 0 0)
    rw [hW3]
    exact (h1.cell (p := ⟨g, o, none⟩) hgl).trans hx
  replace a0 := hold _ _ a0; replace a1 := hold _ _ a1; replace a2 := hold _ _ a2; replace a3 := hold _ _ a3; replace a4 := hold _ _ a4; replace b0 := hold _ _ b0
  have q0 : W3.cell? ⟨w1.heap.size, 0, none⟩ = some (.int .i64 0) := by rw [cell_of_row _ _ _ _ _ _ h6]; rfl
  have q1 : W3.cell? ⟨w1.heap.size, 1, none⟩ = some (.int .i64 0) := by rw [cell_of_row _ _ _ _ _ _ h6]; rfl
  have q2 : W3.cell? ⟨w1.heap.size, 2, none⟩ = some (.int .i64 0) := by rw [cell_of_row _ _ _ _ _ _ h6]; rfl
  have hb3 : Below w.heap.size w W3 := by rw [hW3]; exact below_setRow (hb.alloc hb.size _) hb.size _
  have HB3 := Lib.hid hb3; have HW3 := Lib.hid hW3
  clear hR hb hrow hc n1 h6 hold hb3 hW3 hgl
  go_wp2_with (refine wpList_store_row rfl 26 (.tmp 2) (.tmp 6) rfl w1.heap.size (fltV 0 0 0) rfl rfl 26 (fltV 0 0 0) (heap_alloc_new w1 _) rfl rfl (by simp [fltV, Value.oneCell']) ?_; show wpList _ _ _ _ _ ((w1.alloc (.cells (fltV 0 0 0) 26)).setRow w1.heap.size (fltV 0 0 0)); rw [← HW3.out])
  go_ret
  exact ⟨rfl, HB3.out⟩
end Go.Proofs.YtldbnfbfhbkclaaDoor
