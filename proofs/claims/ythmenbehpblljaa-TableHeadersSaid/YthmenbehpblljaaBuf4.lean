/-
  Equality of byte slices, and the bytes of a builder.
-/
import Derived.Test.YthmenbehpblljaaBuf3
namespace Go.Proofs.Ythmenbehpblljaa
open Go.RowKit

/-- Only draws have happened. -/
def Drawn (w w' : World) : Prop := ∃ n, w' = w.drewN n
theorem Drawn.refl (w : World) : Drawn w w := ⟨0, rfl⟩

set_option maxHeartbeats 1000000 in
set_option maxRecDepth 100000 in
theorem equal_yes (b1 o1 c1 b2 o2 c2 : Nat) (l : List Int) (w : World) (h1 : ∀ j, j < l.length → w.cell? ⟨b1, o1 + j, none⟩ = some (.int .u8 (l.getD j 0))) (h2 : ∀ j, j < l.length → w.cell? ⟨b2, o2 + j, none⟩ = some (.int .u8 (l.getD j 0))) (hn : l.length ≤ 1000000000) :
    Calls Try.prog 28 #[.slice (some ⟨b1, o1, none⟩) l.length c1, .slice (some ⟨b2, o2, none⟩) l.length c2] w fun e w' => e = .returned (.bool true) ∧ Drawn w w' := by
  have H1 := Lib.hid h1; have H2 := Lib.hid h2; clear h1 h2
  go_enter Try.func28, Try.ntmps28
  go_wp2
  go_loopw [13] (fun i wr => ∃ k : Nat, k ≤ l.length ∧ i = .int .i64 k ∧ ∃ n, wr = w.drewN n) (fun i _ => l.length - (intOf i).toNat)
  case atStart => exact ⟨0, by omega, rfl, 0, rfl⟩
  case round =>
    obtain ⟨k, hk, rfl, n, rfl⟩ := hrel
    by_cases hlt : k < l.length
    · obtain ⟨q, hq⟩ : ∃ q, q = l.getD k 0 := ⟨_, rfl⟩
      have hc1 := H1.out k hlt
      have hc2 := H2.out k hlt
      rw [← hq] at hc1 hc2
      clear hq
      go_wp2
      go_quiet (fail)
      go_wp2
      go_roundw
      case rel => exact ⟨k + 1, by omega, by go_num, _, rfl⟩
      case measure => simp [intOf]; omega
    · go_wp2
      go_ret
      exact ⟨rfl, n, rfl⟩

theorem equal_nil (a1 a2 : Option Addr) (c1 c2 : Nat) (w : World) :
    Calls Try.prog 28 #[.slice a1 0 c1, .slice a2 0 c2] w fun e w' => e = .returned (.bool true) ∧ Drawn w w' := by
  go_enter Try.func28, Try.ntmps28
  go_wp2
  refine wp_loop_rounds 1 ?_; rw [rounds_succ]
  go_wp2
  go_ret
  exact ⟨rfl, 0, rfl⟩

set_option maxRecDepth 100000 in
theorem bytes_any (n₀ B : Nat) (xs : List Value) (w : World) (h : IsBuf n₀ B xs w) (h1 : ∀ u ∈ xs, u.oneCell' = true) (hl : xs.length ≤ 100000000) :
    Calls Try.prog 29 #[.pointer (some ⟨B, 0, none⟩)] w (RetRow w.heap.size xs w) := by
  obtain ⟨a, c, hc, hf, hB, hBs, hown, hne⟩ := h.open
  have hs : Src w a xs := by
    refine ⟨fun e => ?_, h1, fun ad had j u hu => ?_⟩
    · subst e
      rcases hown.2 with ⟨_, h0⟩ | ⟨g, cap, cur, hv, _⟩
      · exact List.eq_nil_of_length_eq_zero h0
      · cases hv
    · subst had
      rcases hown.2 with ⟨hv, _⟩ | ⟨g, cap, cur, hv, _⟩
      · cases hv
      · have e : ad = ⟨g, 0, none⟩ := by simp at hv; exact hv.1
        subst e
        exact hown.cells (g := g) rfl j u hu
  have HS := Lib.hid hs; clear hs h1
  have HO := Lib.hid hown; clear hown
  go_enter Try.func29, Try.ntmps29
  go_wp2_with (go_at_call 38; go_loud (refine (clone_any w.heap.size _ _ xs _ HS.out (Nat.le_refl _) hl).mono ?_); rintro e w1 ⟨a2, c2, rfl, ho, hb⟩; have HO := Lib.hid ho; have HB := Lib.hid hb; clear ho hb)
  go_ret
  exact ⟨a2, c2, rfl, HO.out, HB.out⟩
end Go.Proofs.Ythmenbehpblljaa
