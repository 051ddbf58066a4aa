/-
  A region that draws its order, walked by an invariant: of each operation that has run a word is kept, whatever the order; each operation is walked once.
-/
import Derived.Test.YthmenbehpblljaaStageW
namespace Go.Proofs.Ythmenbehpblljaa
open Go.RowKit Go.Shelf

def upd (d : Nat → Bool) (i : Nat) : Nat → Bool := fun j => j == i || d j
theorem upd_self (d : Nat → Bool) (i : Nat) : upd d i i = true := by simp [upd]
theorem upd_ne (d : Nat → Bool) {i j : Nat} (h : j ≠ i) : upd d i j = d j := by simp [upd, h]
/-- Each operation waits for earlier ones alone. -/
def lexDeps (ls : List Oper) : Bool := (List.range ls.length).all fun i => match ls[i]? with | some o => o.after.all fun e => !Region.binds .any e || decide (e.on < i) | none => true
theorem lexDeps_spec {ls : List Oper} (h : lexDeps ls = true) {i : Nat} {o : Oper} (hi : ls[i]? = some o) (e : Edge) (he : e ∈ o.after) (hb : Region.binds .any e = true) : e.on < i := by
  have hl := (List.getElem?_eq_some_iff.1 hi).1
  have h1 := List.all_eq_true.1 h i (List.mem_range.2 hl)
  simp only [hi] at h1
  have h2 := Array.all_eq_true_iff_forall_mem.1 h1 e he
  simpa [hb] using h2

section inv
variable {P : Program} {ls : List Oper} {J : (Nat → Bool) → Act → World → Prop} {Q : Exit → Act → World → Prop}

theorem listed_upd {listed : Array Bool} {i : Nat} (hi : i < listed.size) : (fun j => (listed.setIfInBounds i true).getD j false) = upd (fun j => listed.getD j false) i := by
  funext j
  by_cases h : j = i
  · subst h
    rw [upd_self]
    simp [hi]
  · rw [upd_ne _ h, getD_set_ne false (Ne.symm h)]

def Closed (ls : List Oper) (d : Nat → Bool) : Prop := ∀ j o, ls[j]? = some o → d j = true → ∀ e ∈ o.after, Region.binds .any e = true → d e.on = true
theorem Closed.upd {d : Nat → Bool} {i : Nat} {o : Oper} (h : Closed ls d) (ho : ls[i]? = some o) (hd : ∀ e ∈ o.after, Region.binds .any e = true → d e.on = true) : Closed ls (upd d i) := by
  intro j oj hj hdj e he hb
  by_cases hji : j = i
  · subst hji
    rw [ho] at hj; cases hj
    unfold Go.Proofs.Ythmenbehpblljaa.upd
    simp [hd e he hb]
  · rw [upd_ne d hji] at hdj
    unfold Go.Proofs.Ythmenbehpblljaa.upd
    simp [h j oj hj hdj e he hb]

theorem ready_listed {listed : Array Bool} {i : Nat} (h : i ∈ Region.ready .any ls.toArray listed) (hs : listed.size = ls.length) : i < listed.size ∧ listed.getD i false = false ∧ ∃ o, ls[i]? = some o ∧ ∀ e ∈ o.after, Region.binds .any e = true → listed.getD e.on false = true := by
  obtain ⟨h1, o, ho, h2⟩ := mem_ready.1 h
  have hl : i < ls.length := by
    have := (Array.getElem?_eq_some_iff.1 ho).1
    simpa using this
  refine ⟨by omega, ?_, o, by simpa using ho, h2⟩
  have : i < listed.size := by omega
  simp [this] at h1 ⊢
  exact h1
theorem all_listed {listed : Array Bool} (hlex : lexDeps ls = true) (hs : listed.size = ls.length) (h : Region.ready .any ls.toArray listed = []) (j : Nat) (hj : j < ls.length) : listed.getD j false = true := by
  induction j using Nat.strongRecOn with
  | ind j ih =>
    cases hq : listed.getD j false with
    | true => rfl
    | false =>
      exfalso
      have hm : j ∈ Region.ready .any ls.toArray listed := by
        refine mem_ready.2 ⟨?_, ls[j], by simp [hj], fun e he hb => ih e.on ?_ ?_⟩
        · have : j < listed.size := by omega
          simp [this] at hq ⊢
          exact hq
        · exact lexDeps_spec hlex (List.getElem?_eq_getElem hj) e he hb
        · exact Nat.lt_trans (lexDeps_spec hlex (List.getElem?_eq_getElem hj) e he hb) hj
      rw [h] at hm
      cases hm

theorem count_upd (d : Nat → Bool) (i n : Nat) (hi : i < n) (h : d i = false) : (List.range n).countP d + 1 ≤ (List.range n).countP (upd d i) := by
  obtain ⟨A, B, hAB⟩ := List.append_of_mem (List.mem_range.2 hi)
  rw [hAB, List.countP_append, List.countP_append, List.countP_cons, List.countP_cons]
  have hA : A.countP d ≤ A.countP (upd d i) := List.countP_mono_left (fun x _ hx => by simp [upd, hx])
  have hB : B.countP d ≤ B.countP (upd d i) := List.countP_mono_left (fun x _ hx => by simp [upd, hx])
  rw [upd_self, h]
  simp only [if_true, Bool.false_eq_true, if_false]
  omega

theorem wpAny_inv (hlex : lexDeps ls = true)
    (hstep : ∀ d a w i o, ls[i]? = some o → d i = false → (∀ e ∈ o.after, Region.binds .any e = true → d e.on = true) → Closed ls d → J d a w →
      if Region.wanted o (yielded ls.toArray a.tmps) then o.wp P a w (J (upd d i)) Q else J (upd d i) (a.put o.dst undef) w)
    (hend : ∀ d a w, (∀ j, j < ls.length → d j = true) → J d a w → Q .normal a w) :
    ∀ (fuel : Nat) (listed : Array Bool) (a : Act) (w : World), listed.size = ls.length → Closed ls (fun j => listed.getD j false) → ls.length ≤ fuel + (List.range ls.length).countP (fun j => listed.getD j false) → J (fun j => listed.getD j false) a w →
      wpAny P .any ls.toArray Q fuel listed a w
  | 0, listed, a, w, hs, hc, hf, hJ => by
    have hall : ∀ j, j < ls.length → listed.getD j false = true := by
      intro j hj
      have h1 : (List.range ls.length).countP (fun j => listed.getD j false) = (List.range ls.length).length := by
        have := List.countP_le_length (p := fun j => listed.getD j false) (l := List.range ls.length)
        rw [List.length_range] at this ⊢
        omega
      exact List.countP_eq_length.1 h1 j (List.mem_range.2 hj)
    refine ⟨?_, hend _ a w hall hJ⟩
    rw [List.eq_nil_iff_forall_not_mem]
    intro i hi
    obtain ⟨h1, h2, _⟩ := ready_listed hi hs
    rw [hall i (by omega)] at h2
    cases h2
  | fuel + 1, listed, a, w, hs, hc, hf, hJ => by
    refine ⟨fun h0 => hend _ a w (all_listed hlex hs h0) hJ, fun i hi => ?_⟩
    obtain ⟨h1, h2, o, ho, h3⟩ := ready_listed hi hs
    have hst := hstep _ a w i o ho h2 h3 hc hJ
    have hil : i < ls.length := by omega
    have hnext : ∀ a' w', J (upd (fun j => listed.getD j false) i) a' w' → wpAny P .any ls.toArray Q fuel (listed.setIfInBounds i true) a' w' := by
      intro a' w' hJ'
      refine wpAny_inv hlex hstep hend fuel _ a' w' (by simp [hs]) ?_ ?_ (by rw [listed_upd h1]; exact hJ')
      · rw [listed_upd h1]; exact hc.upd ho h3
      · have hcnt : (List.range ls.length).countP (fun j => listed.getD j false) + 1 ≤ (List.range ls.length).countP (fun j => (listed.setIfInBounds i true).getD j false) := by
          rw [listed_upd h1]
          exact count_upd _ _ _ hil h2
        omega
    unfold wpOp
    simp only [show ls.toArray[i]? = some o from by simpa using ho]
    split
    · rename_i hw; rw [if_pos hw] at hst; exact .inl (Oper.wp_mono hnext hst)
    · rename_i hw; rw [if_neg hw] at hst; exact hnext _ _ hst

/-- **THE LAW.** -/
theorem wp_region_inv {id : Nat} {a : Act} {w : World} (hm : P.follows .mixedOrders = true) (hlex : lexDeps ls = true) (h0 : J (fun _ => false) a { w with drawn := w.drawn + 1 })
    (hstep : ∀ d a w i o, ls[i]? = some o → d i = false → (∀ e ∈ o.after, Region.binds .any e = true → d e.on = true) → Closed ls d → J d a w →
      if Region.wanted o (yielded ls.toArray a.tmps) then o.wp P a w (J (upd d i)) Q else J (upd d i) (a.put o.dst undef) w)
    (hend : ∀ d a w, (∀ j, j < ls.length → d j = true) → J d a w → Q .normal a w) : (Code.region id ls.toArray true).wp P Q a w := by
  have hd : ∀ n, (fun j => (Array.replicate n false).getD j false) = fun _ => false := by
    intro n; funext j; simp [Array.getElem?_replicate]; split <;> rfl
  refine wp_region_any hm (wpAny_inv hlex hstep hend _ _ _ _ (by simp) ?_ (by simp) ?_)
  · rw [hd]; intro j o _ h; cases h
  · rw [hd]; exact h0

/-- The same, the act at the start being spoken of by what F says of its slots. -/
theorem wp_region_inv_of {J' : Array Value → (Nat → Bool) → Act → World → Prop} (F : Array Value → Prop) {id : Nat} {a : Act} {w : World} (hm : P.follows .mixedOrders = true) (hlex : lexDeps ls = true) (hF : F a.tmps) (h0 : J' a.tmps (fun _ => false) a { w with drawn := w.drawn + 1 })
    (hstep : ∀ T, F T → ∀ d a w i o, ls[i]? = some o → d i = false → (∀ e ∈ o.after, Region.binds .any e = true → d e.on = true) → Closed ls d → J' T d a w →
      if Region.wanted o (yielded ls.toArray a.tmps) then o.wp P a w (J' T (upd d i)) Q else J' T (upd d i) (a.put o.dst undef) w)
    (hend : ∀ d a' w', (∀ j, j < ls.length → d j = true) → J' a.tmps d a' w' → Q .normal a' w') : (Code.region id ls.toArray true).wp P Q a w :=
  wp_region_inv (J := J' a.tmps) hm hlex h0 (hstep a.tmps hF) hend
theorem if_wanted {o : Oper} {ys : Nat → Option Bool} {A B : Prop} (hg : o.guard = none) (h : A) : if Region.wanted o ys then A else B := by
  simp only [Region.wanted, hg, if_true]; exact h

theorem wp_of_run {o : Oper} {a : Act} {w : World} {K : Act → World → Prop} (v : Value) (w' : World) (hr : (execOp a.eval o).run P w = .ok (.value v) w') (h : K (a.put o.dst v) w') : o.wp P a w K Q := by
  unfold Oper.wp; rw [hr]; exact h
theorem wp_of_skip {o : Oper} {a : Act} {w : World} {K : Act → World → Prop} (w' : World) (hr : (execOp a.eval o).run P w = .ok .skip w') (h : K (a.put o.dst undef) w') : o.wp P a w K Q := by
  unfold Oper.wp; rw [hr]; exact h
theorem wp_of_enter {o : Oper} {a : Act} {w : World} {K : Act → World → Prop} (f : FuncId) (vs : Array Value) (hr : (execOp a.eval o).run P w = .ok (.enter f vs) w) (h : Calls P f vs w fun e w' => ∃ v, e = .returned v ∧ K (a.put o.dst v) w') : o.wp P a w K Q := by
  unfold Oper.wp; rw [hr]
  refine h.mono ?_
  rintro e w' ⟨v, rfl, hk⟩
  exact hk
end inv
end Go.Proofs.Ythmenbehpblljaa
