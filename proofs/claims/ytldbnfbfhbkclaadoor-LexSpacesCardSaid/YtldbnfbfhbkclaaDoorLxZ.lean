/-
  Chapter 6: tokens that are the same.
-/
import Derived.Test.YtldbnfbfhbkclaaDoorLxY
namespace Go.Proofs.YtldbnfbfhbkclaaDoor
open Go.RowKit Go.Shelf

theorem ownsRow_someT {w : World} {n₀ n m c size : Nat} {e : TypeId} {a : Option Addr} {xs : List Value} (h : w.ownsRow n₀ e size (.slice a n c) m xs) (hn : 0 < m) : ∃ g, a = some ⟨g, 0, none⟩ := by
  rcases h.2 with ⟨_, h0⟩ | ⟨g, cap, cur, hv, _⟩
  · omega
  · simp at hv
    exact ⟨g, hv.1⟩
def IsTok (t : Array Value) : Prop := ∃ (r : Rd) (p : Nat × Nat), t = tokV r p
theorem TR.toks {s : ByteArray} {i : Nat} {p : Nat × Nat} {R : TkR} (h : TR s i p R) : match R with | .inl l => ∀ t ∈ l, IsTok t | .inr _ => True := by
  induction h with
  | bad => trivial
  | fin => intro t ht; simp at ht; subst ht; exact ⟨_, _, rfl⟩
  | more i p j R hj hc hk h ih =>
    cases R with
    | inr f => trivial
    | inl l =>
      intro t ht
      rcases List.mem_cons.1 ht with rfl | ht
      · exact ⟨_, _, rfl⟩
      · exact ih t ht
theorem flat_length {l : List (Array Value)} (h : ∀ t ∈ l, IsTok t) : (flat l).length = l.length * 5 := by
  induction l with
  | nil => rfl
  | cons t l ih =>
    obtain ⟨r, p, rfl⟩ := h t (by simp)
    have := ih (fun t ht => h t (by simp [ht]))
    simp [flat] at this ⊢
    rw [this]; simp [tokV]; omega
theorem flat_at {l : List (Array Value)} (h : ∀ t ∈ l, IsTok t) (k m : Nat) (hk : k < l.length) (hm : m < 5) : (flat l)[k * 5 + m]? = (l[k]'hk)[m]? := by
  induction l generalizing k with
  | nil => simp at hk
  | cons t l ih =>
    have h5 : t.toList.length = 5 := by obtain ⟨r, p, rfl⟩ := h t (by simp); rfl
    have e : flat (t :: l) = t.toList ++ flat l := by simp [flat]
    rw [e]
    cases k with
    | zero => rw [List.getElem?_append_left (by omega)]; simp
    | succ k =>
      rw [List.getElem?_append_right (by omega), show (k + 1) * 5 + m - t.toList.length = k * 5 + m from by omega]
      exact ih (fun t ht => h t (by simp [ht])) k (by simpa using hk)

theorem tokRow_cells {n₀ : Nat} {T : TypeId} {l : List (Array Value)} {g c : Nat} {w : World} (hl : ∀ t ∈ l, IsTok t) (h : TokRow T n₀ l (.slice (some ⟨g, 0, none⟩) l.length c) w) (k : Nat) (hk : k < l.length) :
    ∃ (r : Rd) (p : Nat × Nat), l[k]'hk = tokV r p ∧ w.cell? ⟨g, k * 5, none⟩ = some (.int .i64 (r.kind : Int)) ∧ w.cell? ⟨g, k * 5 + 1, none⟩ = some (.string r.text) ∧ w.cell? ⟨g, k * 5 + 2, none⟩ = some (.int .u64 (r.val : Int)) ∧
      w.cell? ⟨g, k * 5 + 3, none⟩ = some (.int .i64 (p.1 : Int)) ∧ w.cell? ⟨g, k * 5 + 4, none⟩ = some (.int .i64 (p.2 : Int)) := by
  obtain ⟨r, p, hrp⟩ := hl _ (List.getElem_mem hk)
  have hc : ∀ m u, m < 5 → (tokV r p)[m]? = some u → w.cell? ⟨g, k * 5 + m, none⟩ = some u := fun m u hm hu => by
    have h1 := World.ownsRow.cells h rfl (k * 5 + m) u (by rw [flat_at hl k m hk hm, hrp]; exact hu)
    have e : (⟨g, 0, none⟩ : Addr).add (k * 5 + m) = ⟨g, k * 5 + m, none⟩ := by simp [Addr.add]; omega
    rw [e] at h1
    exact h1
  exact ⟨r, p, hrp, hc 0 _ (by omega) rfl, hc 1 _ (by omega) rfl, hc 2 _ (by omega) rfl, hc 3 _ (by omega) rfl, hc 4 _ (by omega) rfl⟩

set_option maxRecDepth 100000 in
set_option maxHeartbeats 4000000 in
theorem same_any (n₀ : Nat) (l : List (Array Value)) (u v : Value) (w : World) (hl : ∀ t ∈ l, IsTok t) (hu : TokRow 37 n₀ l u w) (hv : TokRow 38 n₀ l v w) (hm : l.length ≤ 2000000) :
    Calls Tryd.prog 9 #[u, v] w fun e w' => e = .returned (.bool true) ∧ Below w.heap.size w w' := by
  obtain ⟨a, c, rfl⟩ := ownsRow_slice hu
  obtain ⟨b, d, rfl⟩ := ownsRow_slice hv
  have HU := Lib.hid hu; have HV := Lib.hid hv; have HL := Lib.hid hl
  clear hu hv hl
  go_enter Tryd.func9, Tryd.ntmps9
  go_wp2_with (fail)
  go_loopw [14] (fun i wr => ∃ k : Nat, k ≤ l.length ∧ i = .int .i64 (k : Int) ∧ Hid (Below w.heap.size w wr)) (fun i _ => l.length - (intOf i).toNat)
  case atStart => exact ⟨0, by omega, rfl, Lib.hid (Below.refl _ _)⟩
  case round =>
    obtain ⟨k, hk, rfl, HB⟩ := hrel
    by_cases hlt : k < l.length
    · have tl : decide ((k : Int) < (l.length : Int)) = true := by simp; omega
      have tl' : decide (k < l.length) = true := by simp; omega
      obtain ⟨g, rfl⟩ := ownsRow_someT HU.out (by omega)
      obtain ⟨g', rfl⟩ := ownsRow_someT HV.out (by omega)
      have hg := (HU.out.lt g rfl).2
      have hg' := (HV.out.lt g' rfl).2
      have hsz := HB.out.size
      obtain ⟨r, p, hrp, a0, a1, a2, a3, a4⟩ := tokRow_cells HL.out HU.out k hlt
      obtain ⟨r2, p2, hrp2, b0, b1, b2, b3, b4⟩ := tokRow_cells HL.out HV.out k hlt
      rw [hrp] at hrp2
      simp only [tokV, Array.mk.injEq, List.cons.injEq, Value.int.injEq, Value.string.injEq, true_and, and_true] at hrp2
      obtain ⟨e1, e2, e3, e4, e5⟩ := hrp2
      rw [← e1] at b0; rw [← e2] at b1; rw [← e3] at b2; rw [← e4] at b3; rw [← e5] at b4
      have hold : ∀ (B o : Nat) (x : Value), B < w.heap.size → w.cell? ⟨B, o, none⟩ = some x → wr.cell? ⟨B, o, none⟩ = some x := fun B o x hB hx => (HB.out.cell (p := ⟨B, o, none⟩) hB).trans hx
      replace a0 := hold _ _ _ hg a0; replace a1 := hold _ _ _ hg a1; replace a2 := hold _ _ _ hg a2; replace a3 := hold _ _ _ hg a3; replace a4 := hold _ _ _ hg a4
      replace b0 := hold _ _ _ hg' b0; replace b1 := hold _ _ _ hg' b1; replace b2 := hold _ _ _ hg' b2; replace b3 := hold _ _ _ hg' b3; replace b4 := hold _ _ _ hg' b4
      clear hold hrp e1 e2 e3 e4 e5 r2 p2
      have k0 : (0 : Int) ≤ (k : Int) := by omega
      go_wp2_with (fail)
      obtain ⟨W3, hW3⟩ : ∃ W3, W3 = wr.alloc (.cells #[.int .i64 (r.kind : Int), .string r.text, .int .u64 (r.val : Int), .int .i64 (p.1 : Int), .int .i64 (p.2 : Int)] 37) := ⟨_, rfl⟩
      have h6 : W3.heap[wr.heap.size]? = some (.cells #[.int .i64 (r.kind : Int), .string r.text, .int .u64 (r.val : Int), .int .i64 (p.1 : Int), .int .i64 (p.2 : Int)] 37 (0, 0)) := by rw [hW3]; exact heap_alloc_new _ _
      have hB3 : Below w.heap.size w W3 := by rw [hW3]; exact HB.out.alloc hsz _
      have q0 : W3.cell? ⟨wr.heap.size, 0, none⟩ = some (.int .i64 (r.kind : Int)) := by rw [cell_of_row _ _ _ _ _ _ h6]; rfl
      have q1 : W3.cell? ⟨wr.heap.size, 1, none⟩ = some (.string r.text) := by rw [cell_of_row _ _ _ _ _ _ h6]; rfl
      have q2 : W3.cell? ⟨wr.heap.size, 2, none⟩ = some (.int .u64 (r.val : Int)) := by rw [cell_of_row _ _ _ _ _ _ h6]; rfl
      have q3 : W3.cell? ⟨wr.heap.size, 3, none⟩ = some (.int .i64 (p.1 : Int)) := by rw [cell_of_row _ _ _ _ _ _ h6]; rfl
      have q4 : W3.cell? ⟨wr.heap.size, 4, none⟩ = some (.int .i64 (p.2 : Int)) := by rw [cell_of_row _ _ _ _ _ _ h6]; rfl
      have hold : ∀ (o : Nat) (x : Value), wr.cell? ⟨g', o, none⟩ = some x → W3.cell? ⟨g', o, none⟩ = some x := fun o x hx => by
        have h1 := (Below.refl wr.heap.size wr).alloc (Nat.le_refl _) (.cells #[.int .i64 (r.kind : Int), .string r.text, .int .u64 (r.val : Int), .int .i64 (p.1 : Int), .int .i64 (p.2 : Int)] 37)
        rw [hW3]
        exact (h1.cell (p := ⟨g', o, none⟩) (by show g' < _; omega)).trans hx
      replace b0 := hold _ _ b0; replace b1 := hold _ _ b1; replace b2 := hold _ _ b2; replace b3 := hold _ _ b3; replace b4 := hold _ _ b4
      have HB3 := Lib.hid hB3
      rw [← hW3]
      clear hold hB3 h6 hW3 a0 a1 a2 a3 a4 hg hg'
      go_quiet (fail)
      go_wp2_with (fail)
      refine ⟨⟨k + 1, by omega, by go_num, Lib.hid ⟨HB3.out.os, HB3.out.tape, HB3.out.output, HB3.out.size, HB3.out.block⟩⟩, ?_⟩
      simp [intOf]; omega
    · obtain rfl : k = l.length := by omega
      have tl : decide ((l.length : Int) < (l.length : Int)) = false := by simp
      have tl' : decide (l.length < l.length) = false := by simp
      go_wp2_with (fail)
      go_ret
      exact ⟨rfl, HB.out⟩
end Go.Proofs.YtldbnfbfhbkclaaDoor
