/-
  Chapter 6: the law LexTokens, the walk.
-/
import Derived.Test.YtldbnfbfhbkclaaDoorLyA
namespace Go.Proofs.YtldbnfbfhbkclaaDoor
open Go.RowKit Go.Shelf

theorem Glob.from0 {w w' : World} (h : Glob w) (hb : Below w.heap.size w w') : Glob w' := h.below h.lt hb
theorem Skip.le {s : ByteArray} {i j : Nat} (h : Skip s i j) : i ≤ j := by
  induction h with
  | fin i h => omega
  | stop i h h1 h2 => omega
  | sp i j h h1 r ih => omega
  | com i j h h1 r ih => have := runTo_le notFeed s i (by omega); omega
theorem Skip.top {s : ByteArray} {i j : Nat} (h : Skip s i j) (hi : i ≤ s.size) : j ≤ s.size := by
  induction h with
  | fin i h => omega
  | stop i h h1 h2 => omega
  | sp i j h h1 r ih => exact ih (by omega)
  | com i j h h1 r ih => exact ih (runTo_le notFeed s i (by omega)).2
def TkR.l : TkR → List (Array Value) | .inl l => l | .inr _ => []
def TkR.f : TkR → Nat × Nat × Nat | .inl _ => (0, 0, 0) | .inr f => f
theorem TokEnd.out {n₀ : Nat} {w : World} {R : TkR} {e : Ending} {w' : World} (h : TokEnd n₀ w R e w') : Below n₀ w w' ∧ ∃ u, e = .returned (.tuple #[u, .agg (fltV (R.f.1 : Int) (R.f.2.1 : Int) (R.f.2.2 : Int))]) ∧ TokRow 37 n₀ R.l u w' := by
  refine ⟨h.1, ?_⟩
  cases R with
  | inl l => obtain ⟨v, rfl, hv⟩ := h.2; exact ⟨v, rfl, hv⟩
  | inr f => have := h.2; exact ⟨.slice none 0 0, this, World.ownsRow_nil _ _ _ _⟩
theorem RefTokEnd.out {n₀ : Nat} {w : World} {R : TkR} {e : Ending} {w' : World} (h : RefTokEnd n₀ w R e w') : Below n₀ w w' ∧ ∃ u, e = .returned (.tuple #[u, .int .i64 (R.f.1 : Int), .int .i64 (R.f.2.1 : Int), .int .i64 (R.f.2.2 : Int)]) ∧ TokRow 38 n₀ R.l u w' := by
  refine ⟨h.1, ?_⟩
  cases R with
  | inl l => obtain ⟨v, rfl, hv⟩ := h.2; exact ⟨v, rfl, hv⟩
  | inr f => have := h.2; exact ⟨.slice none 0 0, this, World.ownsRow_nil _ _ _ _⟩
theorem own_base {w : World} {b b' : Nat} {e : TypeId} {size : Nat} {v : Value} {n : Nat} {xs : List Value} (h : w.ownsRow b' e size v n xs) (hb : b ≤ b') : w.ownsRow b e size v n xs := by
  refine ⟨h.1, ?_⟩
  rcases h.2 with h1 | ⟨g, cap, cur, h1, h2, h3⟩
  · exact .inl h1
  · exact .inr ⟨g, cap, cur, h1, by omega, h3⟩
theorem own_below0 {w w' : World} {b : Nat} {e : TypeId} {size : Nat} {v : Value} {n : Nat} {xs : List Value} (h : w.ownsRow b e size v n xs) (hb : Below w.heap.size w w') : w'.ownsRow b e size v n xs := own_keep h (fun k hk => hb.block k (own_lt h hk))
theorem row_below0 {w w' : World} {g : Nat} {o : Obj} (h : w.heap[g]? = some o) (hb : Below w.heap.size w w') : w'.heap[g]? = some o := (hb.block g (lt_of_block h)).trans h
theorem TR.len {s : ByteArray} {i : Nat} {p : Nat × Nat} {R : TkR} (h : TR s i p R) (hi : i ≤ s.size) : match R with | .inl l => l.length ≤ s.size - i + 1 | .inr _ => True := by
  induction h with
  | bad => trivial
  | fin => simp
  | more i p j R hj hc hk h ih =>
    have h1 := hj.le
    cases R with
    | inr f => trivial
    | inl l =>
      have h2 := rdAt_kind s j (hj.top hi) hc hk
      have h3 := rdAt_le s j (hj.top hi) hc hk
      have h4 := ih h3
      simp only [TkR.pre, List.length_cons] at h4 ⊢
      omega

set_option maxRecDepth 100000 in
set_option maxHeartbeats 4000000 in
theorem lexTokens_walk (s : ByteArray) (w : World) (hs : s.size ≤ maxLen) (hG : Glob w) : Calls Tryd.prog 3 #[.string s] w fun e w' => e = .returned (.bool true) ∧ Below w.heap.size w w' := by
  unfold maxLen at hs
  have HG := Lib.hid hG
  clear hG
  by_cases hbig : 3000 < s.size
  · have t1 : decide (3000 < s.size) = true := by simp [hbig]
    have t1' : decide (3000 < (s.size : Int)) = true := by simp; omega
    go_enter Tryd.func3, Tryd.ntmps3
    go_wp2_with (fail)
    refine (alive6_any w HG.out).mono ?_
    rintro e w1 ⟨rfl, hb⟩
    go_wp2_with (fail)
    go_ret
    exact ⟨rfl, hb⟩
  · have t1 : decide (3000 < s.size) = false := by simp; omega
    have t1' : decide (3000 < (s.size : Int)) = false := by simp; omega
    go_enter Tryd.func3, Tryd.ntmps3
    go_wp2_with (fail)
    refine (tokens_any s w (by omega) HG.out).mono ?_
    rintro e w1 ⟨R, hR, hb, hm⟩
    have hlen : R.l.length ≤ 3001 := by
      have := hR.len (Nat.zero_le _)
      cases R with
      | inl l => simp only at this; show l.length ≤ 3001; omega
      | inr f => show ([] : List (Array Value)).length ≤ 3001; simp
    have htk : ∀ t ∈ R.l, IsTok t := by
      have := hR.toks
      cases R with
      | inl l => exact this
      | inr f => intro t ht; cases ht
    obtain ⟨_, u, rfl, hu⟩ := TokEnd.out ⟨hb, hm⟩
    obtain ⟨⟨c, ln, cl⟩, hf⟩ : ∃ f, f = R.f := ⟨_, rfl⟩
    obtain ⟨l, hl⟩ : ∃ l, l = R.l := ⟨_, rfl⟩
    rw [← hl] at hu hlen htk
    rw [← hf]
    simp only
    obtain ⟨W3, hW3⟩ : ∃ W3, W3 = (w1.alloc (.cells (fltV 0 0 0) 26)).setRow w1.heap.size (fltV (c : Int) (ln : Int) (cl : Int)) := ⟨_, rfl⟩
    have h6 : W3.heap[w1.heap.size]? = some (.cells (fltV (c : Int) (ln : Int) (cl : Int)) 26 (0, 0)) := by rw [hW3]; exact setRow_heap _ _ _ _ _ _ (heap_alloc_new w1 _)
    have hb13 : Below w1.heap.size w1 W3 := by rw [hW3]; exact below_setRow ((Below.refl _ _).alloc (Nat.le_refl _) _) (Nat.le_refl _) _
    have hb3 : Below w.heap.size w W3 := hb.trans (hb13.mono hb.size)
    have HU := Lib.hid (own_below0 hu hb13); have H6 := Lib.hid h6; have HB3 := Lib.hid hb3; have HF := Lib.hid hf; have HL := Lib.hid hl; have HW3 := Lib.hid hW3; have HR := Lib.hid hR; have HTK := Lib.hid htk
    clear hu h6 hb3 hf hl hW3 hb hm hb13 hR htk
    go_wp2_with (refine wpList_store_row rfl 26 (.tmp 4) (.tmp 17) rfl w1.heap.size (fltV (c : Int) (ln : Int) (cl : Int)) rfl rfl 26 (fltV 0 0 0) (heap_alloc_new w1 _) rfl rfl (by simp [fltV, Value.oneCell']) ?_)
    show Calls _ _ _ ((w1.alloc (.cells (fltV 0 0 0) 26)).setRow w1.heap.size (fltV (c : Int) (ln : Int) (cl : Int))) _
    rw [← HW3.out]
    refine (refTokens_any s W3 (by omega)).mono ?_
    rintro e w4 ⟨R', hR', he⟩
    obtain rfl := hR'.unique HR.out
    obtain ⟨hb, v, rfl, hv⟩ := he.out
    rw [← HL.out] at hv
    rw [← HF.out]
    simp only
    have HU4 := Lib.hid (own_below0 HU.out hb); have H64 := Lib.hid (row_below0 H6.out hb); have HB4 := Lib.hid (HB3.out.trans (hb.mono HB3.out.size)); have HV4 := Lib.hid (own_base hv HB3.out.size)
    have HG4 := Lib.hid (HG.out.from0 HB4.out)
    clear hb hv he hR' HF HL HW3 HR HU H6 HB3 HG
    go_wp2_with (fail)
    refine (alive6_any w4 HG4.out).mono ?_
    rintro e w5 ⟨rfl, hb⟩
    have HU5 := Lib.hid (own_below0 HU4.out hb); have H65 := Lib.hid (row_below0 H64.out hb); have HB5 := Lib.hid (HB4.out.trans (hb.mono HB4.out.size)); have HV5 := Lib.hid (own_below0 HV4.out hb)
    clear hb HU4 H64 HB4 HV4 HG4
    go_wp2_with (fail)
    refine (same_any w.heap.size l u v w5 HTK.out HU5.out HV5.out (by omega)).mono ?_
    rintro e w6 ⟨rfl, hb⟩
    have H66 := Lib.hid (row_below0 H65.out hb); have HB6 := Lib.hid (HB5.out.trans (hb.mono HB5.out.size))
    clear hb HU5 H65 HB5 HV5
    have q0 : w6.cell? ⟨w1.heap.size, 0, none⟩ = some (.int .i64 (c : Int)) := by rw [cell_of_row _ _ _ _ _ _ H66.out]; rfl
    have q1 : w6.cell? ⟨w1.heap.size, 1, none⟩ = some (.int .i64 (ln : Int)) := by rw [cell_of_row _ _ _ _ _ _ H66.out]; rfl
    have q2 : w6.cell? ⟨w1.heap.size, 2, none⟩ = some (.int .i64 (cl : Int)) := by rw [cell_of_row _ _ _ _ _ _ H66.out]; rfl
    go_wp2_with (fail)
    go_ret
    exact ⟨rfl, HB6.out⟩
end Go.Proofs.YtldbnfbfhbkclaaDoor
