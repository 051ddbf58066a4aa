/-
  The walk of CrcChains.
-/
import Derived.Test.YthmenbehpblljaaCrcL
import Derived.Deep.QuietTactic
import Derived.BigQuiet
namespace Go.Proofs.Ythmenbehpblljaa
open Go.RowKit

/-- The worlds that the last statement may meet. -/
def ChainC (w0 : World) (b : Nat) (x y z : Crc.B32) (w' : World) : Prop :=
  Below b w0 w' ∧ w'.cell? ⟨w0.heap.size, 0, none⟩ = some (reg x) ∧ w'.cell? ⟨w0.heap.size, 1, none⟩ = some (reg y) ∧ w'.cell? ⟨w0.heap.size, 2, none⟩ = some (reg z)

theorem alive_chain (w0 w : World) (b : Nat) (x y z : Crc.B32) (hb : b ≤ w0.heap.size) (h : ChainC w0 b x y z w) : Calls Try.prog 23 #[] w fun e w'' => e = .returned (.bool true) ∧ ChainC w0 b x y z w'' := by
  refine (alive02_any w).mono ?_
  rintro e w2 ⟨rfl, hl⟩
  obtain ⟨h0, h1, h2, h3⟩ := h
  refine ⟨rfl, h0.trans (hl.mono (Nat.le_trans hb h0.size)), ?_, ?_, ?_⟩
  · exact (hl.cell (block_lt_of_cell h1)).trans h1
  · exact (hl.cell (block_lt_of_cell h2)).trans h2
  · exact (hl.cell (block_lt_of_cell h3)).trans h3

set_option maxHeartbeats 2000000 in
set_option maxRecDepth 100000 in
theorem chains_walk (x y z : Crc.B32) (p q : Int) (w : World) (hp0 : 0 ≤ p) (hp1 : p ≤ 18446744073709551615) (hq0 : 0 ≤ q) (hq1 : q ≤ 18446744073709551615) :
    Calls Try.prog 6 #[.agg #[reg x, reg y, reg z], .agg #[.int .u64 p, .int .u64 q]] w fun e w' => e = .returned (.bool true) ∧ Below w.heap.size w w' := by
  go_enter Try.func6, Try.ntmps6
  go_wp2_with (fail)
  go_quiet (fail)
  go_wp2_with (fail)
  obtain ⟨X, hX⟩ : ∃ X, X = p % 549755813884 + 4 := ⟨_, rfl⟩
  obtain ⟨Y, hY⟩ : ∃ Y, Y = q % 549755813884 + 4 := ⟨_, rfl⟩
  have hX1 : 4 ≤ X ∧ X ≤ 549755813887 := by omega
  have hY1 : 4 ≤ Y ∧ Y ≤ 549755813887 := by omega
  obtain ⟨hX0, hX2⟩ := hX1
  obtain ⟨hY0, hY2⟩ := hY1
  rw [← hX, ← hY]
  clear hX hY
  have hfin : Crc.join (Crc.join x y X.toNat) z Y.toNat = Crc.join x (Crc.join y z Y.toNat) (X + Y).toNat := by
    rw [Crc.join_chain, Int.toNat_add (by omega) (by omega)]
  have hwr : IntKind.i64.wrap (X + Y) = X + Y := by rw [IntKind.wrap_i64]; omega
  have hbl : (((Crc.join (Crc.join x y X.toNat) z Y.toNat).toNat : Int) == ((Crc.join x (Crc.join y z Y.toNat) (X + Y).toNat).toNat : Int)) = true := by
    rw [hfin]; simp
  have HBL := Lib.hid hbl; clear hfin hbl
  refine wp_region_quiet (C := ChainC w w.heap.size x y z) (by kernel_rfl) (by kernel_rfl) ?hC ?_
  case hC =>
    have hg : ((w.alloc (.cells #[reg x, reg y, reg z] 49)).alloc (.cells #[.int .u64 p, .int .u64 q] 50)).heap[w.heap.size]? = some (.cells #[reg x, reg y, reg z] 49 (0, 0)) := heap_alloc2_old w _ _
    refine ⟨(below_drewN (((Below.refl _ w).alloc (Nat.le_refl _) _).alloc (by simp) _) nq).drew, ?_, ?_, ?_⟩
    · show World.cell? ((w.alloc _).alloc _) _ = _
      rw [cell_of_row _ _ _ _ _ _ hg]; rfl
    · show World.cell? ((w.alloc _).alloc _) _ = _
      rw [cell_of_row _ _ _ _ _ _ hg]; rfl
    · show World.cell? ((w.alloc _).alloc _) _ = _
      rw [cell_of_row _ _ _ _ _ _ hg]; rfl
  refine wpQuiet_step (fun K hK => ?_)
  go_simp
  apply Exists.intro
  refine ⟨fun w' hw' => (alive_chain w w' _ x y z (by omega) hw'), hK _ ?_⟩
  clear hK K
  repeat (first
    | (refine wpQuiet_step (fun K hK => ?_); go_simp; refine ⟨_, fun w' hw' => rfl, hK _ ?_⟩; clear hK K)
    | (refine wpQuiet_step (fun K hK => ?_); go_simp; refine hK _ ?_; clear hK K)
    | (refine wpQuiet_step (fun K hK => ?_); go_simp; apply Exists.intro; refine ⟨fun w' hw' => ?_, hK _ ?_⟩; (first | (rw [hw'.2.1]; exact ⟨rfl, rfl⟩) | (rw [hw'.2.2.1]; exact ⟨rfl, rfl⟩) | (rw [hw'.2.2.2]; exact ⟨rfl, rfl⟩)); clear hK K)
    | (refine wpQuiet_step (fun K hK => ?_); go_simp; apply Exists.intro; refine ⟨fun w' hw' => ?_, hK _ ?_⟩; (refine (join_any _ _ _ w' (by omega) (by omega)).mono ?_; rintro e w2 ⟨rfl, rfl⟩; exact ⟨rfl, hw'⟩); clear hK K))
  refine wpQuiet_nil ?_
  intro w' hw'
  go_wp2
  go_ret
  exact ⟨by first | rfl | (rw [HBL.out]; rfl), hw'.1⟩

theorem reg_of (z : Int) (h : (Lit.int .u32 z).wf = true) : ∃ r : Crc.B32, Value.int .u32 z = reg r := by
  have hb : 0 ≤ z ∧ z ≤ 4294967295 := by
    simp [Lit.wf, IntKind.min, IntKind.max, IntKind.signed, IntKind.bits] at h
    omega
  refine ⟨BitVec.ofNat 32 z.toNat, ?_⟩
  have e : (((BitVec.ofNat 32 z.toNat : Crc.B32).toNat : Nat) : Int) = z := by rw [BitVec.toNat_ofNat]; omega
  rw [reg, e]

theorem chains_list (z0 z1 : List Int) (w : World) (l0 : z0.length = 3) (l1 : z1.length = 2) (w0 : ∀ z ∈ z0, (Lit.int .u32 z).wf = true) (w1 : ∀ z ∈ z1, (Lit.int .u64 z).wf = true) :
    Calls Try.prog 6 #[.agg (z0.map (Value.int .u32)).toArray, .agg (z1.map (Value.int .u64)).toArray] w fun e w' => e = .returned (.bool true) ∧ Below w.heap.size w w' := by
  match z0, l0, w0 with
  | [a, b, c], _, w0 =>
    match z1, l1, w1 with
    | [p, q], _, w1 =>
      obtain ⟨x, hx⟩ := reg_of a (w0 a (by simp))
      obtain ⟨y, hy⟩ := reg_of b (w0 b (by simp))
      obtain ⟨z, hz⟩ := reg_of c (w0 c (by simp))
      have hp := w1 p (by simp)
      have hq := w1 q (by simp)
      simp [Lit.wf, IntKind.min, IntKind.max, IntKind.signed, IntKind.bits] at hp hq
      simp only [List.map_cons, List.map_nil, hx, hy, hz]
      exact chains_walk x y z p q w (by omega) (by omega) (by omega) (by omega)
end Go.Proofs.Ythmenbehpblljaa
