/-
  Chapter 6: the tokens of a text, as a relation.
-/
import Derived.Test.YtldbnfbfhbkclaaDoorLxV
namespace Go.Proofs.YtldbnfbfhbkclaaDoor
open Go.RowKit Go.Shelf

theorem rdAt_kind (s : ByteArray) (j : Nat) (hj : j ≤ s.size) (hc : (rdAt s j).code = 0) (hk : (rdAt s j).kind ≠ 0) : j < (rdAt s j).stop := by
  unfold rdAt at *
  split at hc
  · rename_i h; rw [if_pos h] at hk; exact absurd rfl hk
  · rename_i h0
    rw [if_neg h0] at hk ⊢
    split at hc
    · rename_i h; rw [if_pos h] at hk ⊢
      have := runTo_yes isLet s j (by omega) h
      have h2 := runTo_le isLet s (j + 1) (by omega)
      show j < runTo isLet s j
      omega
    · rename_i h1
      rw [if_neg h1] at hk ⊢
      split at hc
      · rename_i h; rw [if_pos h] at hk ⊢
        have := runTo_yes (clsRun true) s j (by omega) (by simp [clsRun, h])
        have h2 := runTo_le (clsRun true) s (j + 1) (by omega)
        revert hc hk
        generalize numR (s.extract j (runTo (clsRun true) s j)).data.toList = r
        intro hk hc
        obtain ⟨n, b⟩ := r
        cases b with
        | true => show j < runTo (clsRun true) s j; omega
        | false => cases hc
      · rename_i h2
        rw [if_neg h2] at hk ⊢
        split at hc
        · rename_i h; rw [if_pos h] at hk ⊢
          cases hq : qName s j with
          | none => rw [hq] at hc; cases hc
          | some le =>
            obtain ⟨l, e⟩ := le
            exact (qName_size hq).2
        · rename_i h3
          rw [if_neg h3] at hk ⊢
          split at hc
          · rename_i h; rw [if_pos h]; show j < j + 1; omega
          · cases hc

theorem rdAt_le (s : ByteArray) (j : Nat) (hj : j ≤ s.size) (hc : (rdAt s j).code = 0) (hk : (rdAt s j).kind ≠ 0) : (rdAt s j).stop ≤ s.size := by
  unfold rdAt at *
  split at hc
  · rename_i h; rw [if_pos h] at hk; exact absurd rfl hk
  · rename_i h0
    rw [if_neg h0] at hk ⊢
    split at hc
    · rename_i h; rw [if_pos h] at hk ⊢
      have := runTo_yes isLet s j (by omega) h
      have h2 := runTo_le isLet s (j + 1) (by omega)
      show runTo isLet s j ≤ s.size
      omega
    · rename_i h1
      rw [if_neg h1] at hk ⊢
      split at hc
      · rename_i h; rw [if_pos h] at hk ⊢
        have := runTo_yes (clsRun true) s j (by omega) (by simp [clsRun, h])
        have h2 := runTo_le (clsRun true) s (j + 1) (by omega)
        revert hc hk
        generalize numR (s.extract j (runTo (clsRun true) s j)).data.toList = r
        intro hk hc
        obtain ⟨n, b⟩ := r
        cases b with
        | true => show runTo (clsRun true) s j ≤ s.size; omega
        | false => cases hc
      · rename_i h2
        rw [if_neg h2] at hk ⊢
        split at hc
        · rename_i h; rw [if_pos h] at hk ⊢
          cases hq : qName s j with
          | none => rw [hq] at hc; cases hc
          | some le =>
            obtain ⟨l, e⟩ := le
            exact (qName_size hq).1
        · rename_i h3
          rw [if_neg h3] at hk ⊢
          split at hc
          · rename_i h; rw [if_pos h]; show j + 1 ≤ s.size; omega
          · cases hc

section
variable {P : Program} {ops : Array Oper} {σ : Type} {C : σ → World → Prop} {L : σ → Prop} {ch fin : Oper → Bool}
theorem wpStageV_loadRow {Q : σ → Act → Prop} {o : Oper} {rest : List Oper} {s : σ} {a : Act} (ty : TypeId) (x : Operand) (ho : o.op = .load ty x)
    (g : Nat) (hx : a.eval x = .pointer (some ⟨g, 0, none⟩)) (t : TypeId) (cs : Array Value) (fr : Nat × Nat) (d : TypeDesc) (hgr : ∀ s w, L s → C s w → w.heap[g]? = some (.cells cs t fr))
    (hu : P.underlying ty = some d) (hd : (match d with | .struct _ | .array _ _ => true | _ => false) = true) (hi : (P.info? ty).map (·.size) = some cs.size) (hL : L s) (hs : ch o = false) (hg : o.guard = none)
    (h : wpStageV P ops C L ch fin Q rest s (a.put o.dst (.agg cs))) : wpStageV P ops C L ch fin Q (o :: rest) s a := by
  unfold wpStageV
  have hw : Region.wanted o (yielded ops a.tmps) = true := by simp [Region.wanted, hg]
  simp only [hw, hs, if_true, Bool.false_eq_true, if_false]
  refine ⟨hL, _, fun s' w' hl hw' => ?_, h⟩
  unfold Oper.quietAt execOp
  simp only [ho, hx, Instr.loadAt, Instr.sureAddr, Sem.run_bind, Sem.run_pure, Result.andThen_ok, run_loadVar_row w' g t ty cs fr d (hgr s' w' hl hw') hu hd hi]
  exact ⟨rfl, rfl⟩
end

/-- Tokens, or a fault: its code and place. -/
abbrev TkR := (List (Array Value)) ⊕ (Nat × Nat × Nat)
def TkR.pre (t : Array Value) : TkR → TkR
  | .inl l => .inl (t :: l)
  | .inr f => .inr f
def TkR.app (l : List (Array Value)) : TkR → TkR
  | .inl m => .inl (l ++ m)
  | .inr f => .inr f
theorem TkR.app_pre (l : List (Array Value)) (t : Array Value) (R : TkR) : TkR.app (l ++ [t]) R = TkR.app l (TkR.pre t R) := by
  cases R <;> simp [TkR.app, TkR.pre]
/-- From offset i with place p the tokens are R. -/
inductive TR (s : ByteArray) : Nat → Nat × Nat → TkR → Prop
  | bad (i : Nat) (p : Nat × Nat) (j : Nat) (hj : Skip s i j) (hc : (rdAt s j).code ≠ 0) : TR s i p (.inr ((rdAt s j).code, (plTo s p i j).1, (plTo s p i j).2))
  | fin (i : Nat) (p : Nat × Nat) (j : Nat) (hj : Skip s i j) (hc : (rdAt s j).code = 0) (hk : (rdAt s j).kind = 0) : TR s i p (.inl [tokV (rdAt s j) (plTo s p i j)])
  | more (i : Nat) (p : Nat × Nat) (j : Nat) (R : TkR) (hj : Skip s i j) (hc : (rdAt s j).code = 0) (hk : (rdAt s j).kind ≠ 0) (h : TR s (rdAt s j).stop (plTo s p i (rdAt s j).stop) R) : TR s i p (R.pre (tokV (rdAt s j) (plTo s p i j)))
theorem TR.unique {s : ByteArray} {i : Nat} {p : Nat × Nat} {R R' : TkR} (h : TR s i p R) (h' : TR s i p R') : R = R' := by
  induction h generalizing R' with
  | bad i p j hj hc =>
    cases h' with
    | bad _ _ j' hj' hc' => rw [hj.unique hj']
    | fin _ _ j' hj' hc' _ => rw [hj.unique hj'] at hc; exact absurd hc' hc
    | more _ _ j' _ hj' hc' _ _ => rw [hj.unique hj'] at hc; exact absurd hc' hc
  | fin i p j hj hc hk =>
    cases h' with
    | bad _ _ j' hj' hc' => rw [← hj.unique hj'] at hc'; exact absurd hc hc'
    | fin _ _ j' hj' hc' _ => rw [hj.unique hj']
    | more _ _ j' _ hj' hc' hk' _ => rw [← hj.unique hj'] at hk'; exact absurd hk hk'
  | more i p j R hj hc hk h ih =>
    cases h' with
    | bad _ _ j' hj' hc' => rw [← hj.unique hj'] at hc'; exact absurd hc hc'
    | fin _ _ j' hj' hc' hk' => rw [← hj.unique hj'] at hk'; exact absurd hk' hk
    | more _ _ j' R2 hj' hc' hk' h2 =>
      obtain rfl := hj.unique hj'
      rw [ih h2]

/-- The cells of tokens in a row. -/
def flat (l : List (Array Value)) : List Value := (l.map (·.toList)).flatten
theorem flat_snoc (l : List (Array Value)) (t : Array Value) : flat (l ++ [t]) = flat l ++ t.toList := by simp [flat]
theorem own_keep {w w' : World} {base : Nat} {e : TypeId} {size : Nat} {v : Value} {n : Nat} {xs : List Value} (h : w.ownsRow base e size v n xs) (hk : ∀ k, v.ownBlock = some k → w'.heap[k]? = w.heap[k]?) : w'.ownsRow base e size v n xs := by
  refine ⟨h.1, ?_⟩
  rcases h.2 with ⟨h1, h2⟩ | ⟨g, cap, cur, h1, h2, h3, h4⟩
  · exact .inl ⟨h1, h2⟩
  · exact .inr ⟨g, cap, cur, h1, h2, (hk g (by rw [h1]; rfl)).trans h3, h4⟩
theorem row_not_own {W : World} {B : Nat} {t e : TypeId} {cs : Array Value} (h : W.heap[B]? = some (.cells cs t (0, 0))) (hte : t ≠ e) {base size k : Nat} {v : Value} {xs : List Value} (hr : W.ownsRow base e size v k xs) : some B ≠ v.ownBlock := by
  rcases hr.2 with ⟨rfl, _⟩ | ⟨g, cap, cur, rfl, _, hgb, _⟩
  · simp [Value.ownBlock]
  · intro e'
    obtain rfl : B = g := by simpa [Value.ownBlock] using e'
    have := h.symm.trans hgb
    simp at this
    exact hte this.2
theorem own_lt {w : World} {base : Nat} {e : TypeId} {size : Nat} {v : Value} {n : Nat} {xs : List Value} (h : w.ownsRow base e size v n xs) {k : Nat} (hk : v.ownBlock = some k) : k < w.heap.size := by
  rcases h.2 with ⟨rfl, _⟩ | ⟨g, cap, cur, rfl, _, hgb, _⟩
  · simp [Value.ownBlock] at hk
  · simp [Value.ownBlock] at hk
    subst hk
    exact lt_of_block hgb
theorem Only.toBelow {C B : Nat} {a b : World} (h : Only C a b) (hC : B ≤ C) (hB : B ≤ a.heap.size) : Below B a b :=
  ⟨h.os, h.tape, h.output, h.size, fun k hk => h.block k (by omega) (fun e => by injection e with e; omega)⟩
end Go.Proofs.YtldbnfbfhbkclaaDoor
