/-
  A region that draws its order inside a round, some of whose operations MOVE THE WORLD AND YIELD A VALUE (a store, a row made, an append): these are chained; all else reads (or calls, ahead of them). One walk of the lexical order serves every order.
  s: a stage of any type; C s: the worlds of the stage.
-/
import Derived.Test.YthmenbehpblljaaTabCS
namespace Go.Proofs.Ythmenbehpblljaa
open Go.RowKit Go.Shelf

section stage
variable {P : Program} {ops : Array Oper} {md : Region.Mode} {σ : Type} {C : σ → World → Prop} {L : σ → Prop} {ch fin : Oper → Bool} {l n : Nat}

def Oper.yieldsAt (P : Program) (o : Oper) (a : Act) (w w' : World) (v : Value) : Prop := (execOp a.eval o).run P w = .ok (.value v) w' ∨ ((execOp a.eval o).run P w = .ok .skip w' ∧ v = undef)
/-- Where it leads: by itself, or by the function that it calls. -/
def Oper.leads (P : Program) (o : Oper) (a : Act) (w : World) (R : Value → World → Prop) : Prop :=
  (∃ v w', Oper.yieldsAt P o a w w' v ∧ R v w') ∨ (∃ f vs, (execOp a.eval o).run P w = .ok (.enter f vs) w ∧ Calls P f vs w fun e w' => ∃ v, e = .returned v ∧ R v w')
theorem leads_mono {o : Oper} {a : Act} {w : World} {R R' : Value → World → Prop} (h : Oper.leads P o a w R) (hr : ∀ v w', R v w' → R' v w') : Oper.leads P o a w R' := by
  rcases h with ⟨v, w', h1, h2⟩ | ⟨f, vs, h1, h2⟩
  · exact .inl ⟨v, w', h1, hr _ _ h2⟩
  · exact .inr ⟨f, vs, h1, h2.mono fun e w' ⟨v, h3, h4⟩ => ⟨v, h3, hr _ _ h4⟩⟩
theorem leads_some {o : Oper} {a : Act} {w : World} {R : Value → World → Prop} (h : Oper.leads P o a w R) : ∃ v w', R v w' := by
  rcases h with ⟨v, w', h1, h2⟩ | ⟨f, vs, h1, h2⟩
  · exact ⟨v, w', h2⟩
  · obtain ⟨e, w', fr, ⟨v, _, h3⟩, _⟩ := h2 []
    exact ⟨v, w', h3⟩
theorem leads_put {o : Oper} {a a' : Act} {w : World} {R : Value → World → Prop} (he : execOp a'.eval o = execOp a.eval o) (h : Oper.leads P o a w R) : Oper.leads P o a' w R := by
  unfold Oper.leads Oper.yieldsAt at *
  rw [he]
  exact h
def Oper.moves (P : Program) (o : Oper) (a : Act) (C : σ → World → Prop) (s : σ) (K : σ → Act → Prop) : Prop := ∀ w, C s w → Oper.leads P o a w fun v w' => ∃ s', C s' w' ∧ K s' (a.put o.dst v)
def Oper.liesV (P : Program) (o : Oper) (a : Act) (C : σ → World → Prop) (L : σ → Prop) (v : Value) : Prop := ∀ s w, L s → C s w → o.quietAt P a (C s) w v

theorem moves_mono {o : Oper} {a : Act} {s : σ} {K K' : σ → Act → Prop} (h : ∀ s a, (∃ w, C s w) → K s a → K' s a) (hh : Oper.moves P o a C s K) : Oper.moves P o a C s K' := fun w hw =>
  leads_mono (hh w hw) fun _ w' ⟨s', h2, h3⟩ => ⟨s', h2, h _ _ ⟨w', h2⟩ h3⟩

def mOp (P : Program) (ops : Array Oper) (C : σ → World → Prop) (L : σ → Prop) (ch fin : Oper → Bool) (i : Nat) (K : σ → Act → Prop) (s : σ) (a : Act) : Prop :=
  match ops[i]? with
  | none => K s a
  | some o => if Region.wanted o (yielded ops a.tmps) then L s ∧ (if ch o = true then Oper.moves P o a C s (fun s' a' => (fin o = false → L s') ∧ K s' a') else ∃ v, Oper.liesV P o a C L v ∧ K s (a.put o.dst v)) else K s (a.put o.dst undef)

def wpStageV (P : Program) (ops : Array Oper) (C : σ → World → Prop) (L : σ → Prop) (ch fin : Oper → Bool) (Q : σ → Act → Prop) : List Oper → σ → Act → Prop
  | [], s, a => Q s a
  | o :: rest, s, a => L s ∧ (if Region.wanted o (yielded ops a.tmps) then (if ch o = true then Oper.moves P o a C s (fun s' a' => (fin o = false → L s') ∧ wpStageV P ops C L ch fin Q rest s' a') else ∃ v, Oper.liesV P o a C L v ∧ wpStageV P ops C L ch fin Q rest s (a.put o.dst v)) else wpStageV P ops C L ch fin Q rest s (a.put o.dst undef))

def wpAnyV (P : Program) (md : Region.Mode) (ops : Array Oper) (C : σ → World → Prop) (L : σ → Prop) (ch fin : Oper → Bool) (Q : σ → Act → Prop) : Nat → Array Bool → σ → Act → Prop
  | 0, listed, s, a => Region.ready md ops listed = [] ∧ Q s a
  | fuel + 1, listed, s, a =>
    (Region.ready md ops listed = [] → Q s a) ∧
    ∀ i ∈ Region.ready md ops listed, mOp P ops C L ch fin i (wpAnyV P md ops C L ch fin Q fuel (listed.setIfInBounds i true)) s a

theorem mOp_mono {i : Nat} {s : σ} {a : Act} {K K' : σ → Act → Prop} (hi : ∃ w, C s w) (h : ∀ s a, (∃ w, C s w) → K s a → K' s a) (hh : mOp P ops C L ch fin i K s a) : mOp P ops C L ch fin i K' s a := by
  unfold mOp at *
  split
  · exact h _ _ hi (by simpa [*] using hh)
  · rename_i o ho
    simp only [ho] at hh
    split
    · rename_i hw
      simp only [hw, if_true] at hh
      refine ⟨hh.1, ?_⟩
      have hh := hh.2
      split
      · rename_i hs; simp only [hs, if_true] at hh; exact moves_mono (fun s a hi h' => ⟨h'.1, h _ _ hi h'.2⟩) hh
      · rename_i hs; simp only [hs] at hh; obtain ⟨v, h1, h2⟩ := hh; exact ⟨v, h1, h _ _ hi h2⟩
    · rename_i hw; simp only [hw] at hh; exact h _ _ hi hh

/-- A quiet operation's value (or an unwanted one's). -/
def YieldsV (P : Program) (ops : Array Oper) (C : σ → World → Prop) (L : σ → Prop) (ch : Oper → Bool) (o : Oper) (v : Value) (a : Act) : Prop :=
  (Region.wanted o (yielded ops a.tmps) = true ∧ ch o = false ∧ Oper.liesV P o a C L v) ∨ (Region.wanted o (yielded ops a.tmps) = false ∧ v = undef)

theorem YieldsV.mOp {i : Nat} {o : Oper} {v : Value} {s : σ} {a : Act} (hi : ops[i]? = some o) (hL : L s) (hy : YieldsV P ops C L ch o v a) {K : σ → Act → Prop} (h : K s (a.put o.dst v)) : mOp P ops C L ch fin i K s a := by
  unfold Go.Proofs.Ythmenbehpblljaa.mOp
  simp only [hi]
  rcases hy with ⟨hw, hs, hl⟩ | ⟨hw, rfl⟩
  · simp only [hw, hs, if_true, Bool.false_eq_true, if_false]; exact ⟨hL, v, hl, h⟩
  · simp only [hw, Bool.false_eq_true, if_false]; exact h

theorem liesV_put {o : Oper} (hs : ∀ cs b, o.op ≠ .select cs b) {a : Act} {dst : Option Tmp} {v u : Value} (h : ∀ d, dst = some d → d ∉ o.looksAt ops) : Oper.liesV P o (a.put dst v) C L u ↔ Oper.liesV P o a C L u := by
  unfold Oper.liesV Oper.quietAt
  rw [execOp_put o hs a dst v h]

theorem mOp_put {j : Nat} {oi oj : Oper} {v : Value} {s : σ} (hj : ops[j]? = some oj) (hap : oi.apart ops oj = true) (hfin : fin oj = false) (hL : L s)
    (hsi : ∀ cs b, oi.op ≠ .select cs b) (hsj : ∀ cs b, oj.op ≠ .select cs b) {K : σ → Act → Prop} {a : Act}
    (hy : YieldsV P ops C L ch oi v a) (h : mOp P ops C L ch fin j K s (a.put oi.dst v)) :
    mOp P ops C L ch fin j (fun s' a' => (L s' ∧ YieldsV P ops C L ch oi v a') ∧ K s' (a'.put oi.dst v)) s a := by
  obtain ⟨h1, h2, h3⟩ := Oper.apart_spec hap
  have keep : ∀ (u : Value), YieldsV P ops C L ch oi v (a.put oj.dst u) := fun u => by
    unfold YieldsV at *
    rw [wanted_put oi a oj.dst u h3, liesV_put (ops := ops) hsi h3]
    exact hy
  unfold Go.Proofs.Ythmenbehpblljaa.mOp at *
  simp only [hj] at *
  rw [wanted_put oj a oi.dst v h1] at h
  split
  · rename_i hw
    simp only [hw, if_true] at h
    refine ⟨h.1, ?_⟩
    have h := h.2
    split
    · rename_i hs
      simp only [hs, if_true] at h
      intro w hw'
      refine leads_put (execOp_put oj hsj a oi.dst v h1).symm (leads_mono (h w hw') ?_)
      rintro u w' ⟨s', e2, e4, e3⟩
      exact ⟨s', e2, e4, ⟨e4 hfin, keep u⟩, by rw [← Act.put_comm a v u h2]; exact e3⟩
    · rename_i hs
      simp only [hs] at h
      obtain ⟨u, hu, hn⟩ := h
      rw [liesV_put (ops := ops) hsj h1] at hu
      exact ⟨u, hu, ⟨hL, keep u⟩, by rw [← Act.put_comm a v u h2]; exact hn⟩
  · rename_i hw
    simp only [hw] at h
    exact ⟨⟨hL, keep _⟩, by rw [← Act.put_comm a v undef h2]; exact h⟩

theorem wpAnyV_first {Q : σ → Act → Prop} {i : Nat} {oi : Oper} {v : Value} (hi : ops[i]? = some oi) (hsel : ∀ (j : Nat) (o : Oper) cs b, ops[j]? = some o → o.op ≠ .select cs b) :
    ∀ (fuel : Nat) (listed : Array Bool) (s : σ) (a : Act), (∃ w, C s w) → L s →
      (∀ j oj, ops[j]? = some oj → j ≠ i → listed.getD j true = false → (∀ e ∈ oj.after, Region.binds md e = true → e.on ≠ i) → oi.apart ops oj = true ∧ fin oj = false) →
      i ∈ Region.ready md ops listed → YieldsV P ops C L ch oi v a →
      wpAnyV P md ops C L ch fin Q fuel (listed.setIfInBounds i true) s (a.put oi.dst v) → wpAnyV P md ops C L ch fin Q (fuel + 1) listed s a := by
  intro fuel
  induction fuel with
  | zero =>
    intro listed s a _ hL _ hr hy H
    refine ⟨fun h => (by rw [h] at hr; cases hr), fun j hj => ?_⟩
    by_cases hji : j = i
    · subst hji; exact hy.mOp hi hL H
    · have := ready_mono hj hji
      rw [H.1] at this
      cases this
  | succ fuel ih =>
    intro listed s a hin hL hfree hr hy H
    refine ⟨fun h => (by rw [h] at hr; cases hr), fun j hj => ?_⟩
    by_cases hji : j = i
    · subst hji; exact hy.mOp hi hL H
    · have h1 := H.2 j (ready_mono hj hji)
      obtain ⟨hjun, oj, hoj, hall⟩ := mem_ready.1 hj
      have hnot : ∀ e ∈ oj.after, Region.binds md e = true → e.on ≠ i := fun e he hb heq => by
        have h1 := hall e he hb
        have h0 := (mem_ready.1 hr).1
        rw [heq] at h1
        rcases Nat.lt_or_ge i listed.size with h' | h'
        · simp [h'] at h0 h1; rw [h0] at h1; cases h1
        · simp [Array.getElem?_eq_none h'] at h1
      have h2 := mOp_put hoj (hfree j oj hoj hji hjun hnot).1 (hfree j oj hoj hji hjun hnot).2 hL (fun cs b => hsel i oi cs b hi) (fun cs b => hsel j oj cs b hoj) hy h1
      have hfree' : ∀ k ok, ops[k]? = some ok → k ≠ i → (listed.setIfInBounds j true).getD k true = false →
          (∀ e ∈ ok.after, Region.binds md e = true → e.on ≠ i) → oi.apart ops ok = true ∧ fin ok = false := fun k ok hk hki hun hno => by
        refine hfree k ok hk hki ?_ hno
        by_cases hjk : j = k
        · subst hjk; exact hjun
        · rw [getD_set_ne true hjk] at hun; exact hun
      refine mOp_mono hin (fun s' a' hin' h3 => ih (listed.setIfInBounds j true) s' a' hin' h3.1.1 hfree' (ready_mono hr (Ne.symm hji)) h3.1.2 ?_) h2
      rw [Array.setIfInBounds_comm _ _ hji]
      exact h3.2
theorem quietUpon_unique {D : World → Prop} {w : World} {u u' : Value} {r : Result Next} (hne : ∀ f args w', r ≠ .ok (.enter f args) w') (h1 : Oper.quietUpon P D w u r) (h2 : Oper.quietUpon P D w u' r) : u = u' := by
  cases r with
  | ok x w' =>
    cases x <;> simp only [Oper.quietUpon] at h1 h2 <;> first | exact h1.2.symm.trans h2.2 | exact h1.2.trans h2.2.symm | exact absurd rfl (hne _ _ _)
  | halt x w' => simp only [Oper.quietUpon] at h1

theorem wpAnyV_move {Q : σ → Act → Prop} {i : Nat} {oi : Oper} (hi : ops[i]? = some oi) (hch : ch oi = true) (hsel : ∀ (j : Nat) (o : Oper) cs b, ops[j]? = some o → o.op ≠ .select cs b) :
    ∀ (fuel : Nat) (listed : Array Bool) (s : σ) (a : Act), (∃ w, C s w) → L s →
      (∀ j oj, ops[j]? = some oj → j ≠ i → listed.getD j true = false → (∀ e ∈ oj.after, Region.binds md e = true → e.on ≠ i) → oi.apart ops oj = true ∧ ch oj = false ∧ Oper.reads oj = true) →
      i ∈ Region.ready md ops listed → Region.wanted oi (yielded ops a.tmps) = true →
      Oper.moves P oi a C s (fun s' a' => (fin oi = false → L s') ∧ wpAnyV P md ops C L ch fin Q fuel (listed.setIfInBounds i true) s' a') → wpAnyV P md ops C L ch fin Q (fuel + 1) listed s a := by
  intro fuel
  induction fuel with
  | zero =>
    intro listed s a hin hL _ hr hw H
    refine ⟨fun h => (by rw [h] at hr; cases hr), fun j hj => ?_⟩
    by_cases hji : j = i
    · subst hji; unfold mOp; simp only [hi, hw, hch, if_true]; exact ⟨hL, H⟩
    · have h0 := ready_mono hj hji
      obtain ⟨w0, hw0⟩ := hin
      obtain ⟨v, w', s', _, _, h3⟩ := leads_some (H w0 hw0)
      rw [h3.1] at h0
      cases h0
  | succ fuel ih =>
    intro listed s a hin hL hfree hr hw H
    refine ⟨fun h => (by rw [h] at hr; cases hr), fun j hj => ?_⟩
    by_cases hji : j = i
    · subst hji; unfold mOp; simp only [hi, hw, hch, if_true]; exact ⟨hL, H⟩
    · obtain ⟨hjun, oj, hoj, hall⟩ := mem_ready.1 hj
      have hnot : ∀ e ∈ oj.after, Region.binds md e = true → e.on ≠ i := fun e he hb heq => by
        have h1 := hall e he hb
        have h0 := (mem_ready.1 hr).1
        rw [heq] at h1
        rcases Nat.lt_or_ge i listed.size with h' | h'
        · simp [h'] at h0 h1; rw [h0] at h1; cases h1
        · simp [Array.getElem?_eq_none h'] at h1
      obtain ⟨hap, hnc, hrd⟩ := hfree j oj hoj hji hjun hnot
      obtain ⟨a1, a2, a3⟩ := Oper.apart_spec hap
      have hsi := fun cs b => hsel i oi cs b hi
      have hsj := fun cs b => hsel j oj cs b hoj
      have hfree' : ∀ k ok, ops[k]? = some ok → k ≠ i → (listed.setIfInBounds j true).getD k true = false →
          (∀ e ∈ ok.after, Region.binds md e = true → e.on ≠ i) → oi.apart ops ok = true ∧ ch ok = false ∧ Oper.reads ok = true := fun k ok hk hki hun hno => by
        refine hfree k ok hk hki ?_ hno
        by_cases hjk : j = k
        · subst hjk; exact hjun
        · rw [getD_set_ne true hjk] at hun; exact hun
      -- what each outcome of oi says of oj
      have hout : ∀ (v : Value) (s' : σ), wpAnyV P md ops C L ch fin Q (fuel + 1) (listed.setIfInBounds i true) s' (a.put oi.dst v) → mOp P ops C L ch fin j (wpAnyV P md ops C L ch fin Q fuel ((listed.setIfInBounds i true).setIfInBounds j true)) s' (a.put oi.dst v) :=
        fun v s' h => h.2 j (ready_mono hj hji)
      unfold mOp
      simp only [hoj, hnc, Bool.false_eq_true, if_false]
      by_cases hwj : Region.wanted oj (yielded ops a.tmps) = true
      · simp only [hwj, if_true]
        obtain ⟨w0, hw0⟩ := hin
        obtain ⟨v0, w0', s0, _, _, h3⟩ := leads_some (H w0 hw0)
        have hm := hout v0 s0 h3
        unfold mOp at hm
        simp only [hoj, hnc, wanted_put oj a oi.dst v0 a1, hwj, if_true, Bool.false_eq_true, if_false] at hm
        obtain ⟨_, u, hu, _⟩ := hm
        rw [liesV_put (ops := ops) hsj a1] at hu
        refine ⟨hL, u, hu, ih (listed.setIfInBounds j true) s (a.put oj.dst u) ⟨w0, hw0⟩ hL hfree' (ready_mono hr (Ne.symm hji)) (by rw [wanted_put oi a oj.dst u a3]; exact hw) ?_⟩
        intro w hcw
        refine leads_put (execOp_put oi hsi a oj.dst u a3) (leads_mono (H w hcw) ?_)
        rintro v w' ⟨s', e2, e4, e3⟩
        have hm := hout v s' e3
        unfold mOp at hm
        simp only [hoj, hnc, wanted_put oj a oi.dst v a1, hwj, if_true, Bool.false_eq_true, if_false] at hm
        obtain ⟨_, u', hu', hK⟩ := hm
        rw [liesV_put (ops := ops) hsj a1] at hu'
        obtain rfl : u' = u := quietUpon_unique (reads_enters_not hrd a w) (hu' s w hL hcw) (hu s w hL hcw)
        refine ⟨s', e2, e4, ?_⟩
        rw [Array.setIfInBounds_comm _ _ hji, ← Act.put_comm a v u' a2]; exact hK
      · simp only [hwj]
        refine ih (listed.setIfInBounds j true) s (a.put oj.dst undef) hin hL hfree' (ready_mono hr (Ne.symm hji)) (by rw [wanted_put oi a oj.dst undef a3]; exact hw) ?_
        intro w hcw
        refine leads_put (execOp_put oi hsi a oj.dst undef a3) (leads_mono (H w hcw) ?_)
        rintro v w' ⟨s', e2, e4, e3⟩
        have hm := hout v s' e3
        unfold mOp at hm
        simp only [hoj, wanted_put oj a oi.dst v a1, hwj] at hm
        refine ⟨s', e2, e4, ?_⟩
        rw [Array.setIfInBounds_comm _ _ hji, ← Act.put_comm a v undef a2]; exact hm
/-- The operations that move the world wait for one another; what may come between only reads. -/
def chainedV (ch : Oper → Bool) (md : Region.Mode) (ops : Array Oper) (listed : Array Bool) (i : Nat) : Bool :=
  match ops[i]? with
  | none => true
  | some oi => !ch oi || (List.range ops.size).all fun j => j == i || listed.getD j true || match ops[j]? with
      | some oj => oj.after.any (fun e => Region.binds md e && e.on == i) || (!ch oj && Oper.reads oj)
      | none => true
theorem chainedV_spec {i : Nat} {oi : Oper} {listed : Array Bool} (hi : ops[i]? = some oi) (h : chainedV ch md ops listed i = true) (hs1 : ch oi = true) (j : Nat) (oj : Oper)
    (hj : ops[j]? = some oj) (hne : j ≠ i) (hun : listed.getD j true = false) (hno : ∀ e ∈ oj.after, Region.binds md e = true → e.on ≠ i) : ch oj = false ∧ Oper.reads oj = true := by
  simp only [chainedV, hi, hs1, Bool.not_true, Bool.false_or, List.all_eq_true, List.mem_range] at h
  have h1 := h j (Array.getElem?_eq_some_iff.1 hj).1
  simp only [hj, Bool.or_eq_true, beq_iff_eq, hne, false_or, hun, Bool.false_eq_true] at h1
  rcases h1 with h1 | h1
  · obtain ⟨e, he, hb⟩ := Array.any_eq_true'.1 h1
    simp only [Bool.and_eq_true, beq_iff_eq] at hb
    exact absurd hb.2 (hno e he hb.1)
  · simpa using h1

/-- What ends the region waits for all. -/
def finV (fin : Oper → Bool) (md : Region.Mode) (ops : Array Oper) (listed : Array Bool) (i : Nat) : Bool :=
  (List.range ops.size).all fun j => j == i || listed.getD j true || match ops[j]? with
      | some oj => oj.after.any (fun e => Region.binds md e && e.on == i) || !fin oj
      | none => true
theorem finV_spec {i : Nat} {listed : Array Bool} (h : finV fin md ops listed i = true) (j : Nat) (oj : Oper)
    (hj : ops[j]? = some oj) (hne : j ≠ i) (hun : listed.getD j true = false) (hno : ∀ e ∈ oj.after, Region.binds md e = true → e.on ≠ i) : fin oj = false := by
  simp only [finV, List.all_eq_true, List.mem_range] at h
  have h1 := h j (Array.getElem?_eq_some_iff.1 hj).1
  simp only [hj, Bool.or_eq_true, beq_iff_eq, hne, false_or, hun, Bool.false_eq_true] at h1
  rcases h1 with h1 | h1
  · obtain ⟨e, he, hb⟩ := Array.any_eq_true'.1 h1
    simp only [Bool.and_eq_true, beq_iff_eq] at hb
    exact absurd hb.2 (hno e he hb.1)
  · simpa using h1

def lexFromV (ch fin : Oper → Bool) (md : Region.Mode) (ops : Array Oper) : Nat → Nat → Array Bool → Bool
  | 0, _, listed => (Region.ready md ops listed).isEmpty
  | fuel + 1, k, listed => (Region.ready md ops listed).contains k && Region.free md ops listed k && chainedV ch md ops listed k && finV fin md ops listed k && lexFromV ch fin md ops fuel (k + 1) (listed.setIfInBounds k true)
def lexV (ch fin : Oper → Bool) (md : Region.Mode) (ops : Array Oper) : Bool := Region.noSelect ops && lexFromV ch fin md ops ops.size 0 (Array.replicate ops.size false)

theorem wpAnyV_lex {Q : σ → Act → Prop} (hs : Region.noSelect ops = true) : ∀ (l : List Oper) (k : Nat) (listed : Array Bool) (s : σ) (a : Act), (∃ w, C s w) → (∀ j, l[j]? = ops[k + j]?) →
    lexFromV ch fin md ops l.length k listed = true → wpStageV P ops C L ch fin Q l s a → wpAnyV P md ops C L ch fin Q l.length listed s a
  | [], _, _, _, _, _, _, hB, h => ⟨by simpa [lexFromV] using hB, h⟩
  | o :: l, k, listed, s, a, hin, hl, hB, h => by
    have h0 : ops[k]? = some o := by simpa using (hl 0).symm
    simp only [List.length_cons, lexFromV, Bool.and_eq_true] at hB
    obtain ⟨⟨⟨⟨hr, hf⟩, hch⟩, hfn⟩, hB'⟩ := hB
    have hl' : ∀ j, l[j]? = ops[k + 1 + j]? := fun j => by have := hl (j + 1); simpa [Nat.add_assoc, Nat.add_comm 1 j] using this
    unfold wpStageV at h
    obtain ⟨hL, h⟩ := h
    by_cases hw : Region.wanted o (yielded ops a.tmps) = true
    · simp only [hw, if_true] at h
      by_cases hc : ch o = true
      · simp only [hc, if_true] at h
        exact wpAnyV_move h0 hc (Region.noSelect_spec hs) l.length listed s a hin hL (fun j oj h1 h2 h3 h4 => ⟨Region.free_spec h0 hf j oj h1 h2 h3 h4, chainedV_spec h0 hch hc j oj h1 h2 h3 h4⟩) (by simpa using hr) hw
          (moves_mono (fun s' a' hin' h' => ⟨h'.1, wpAnyV_lex hs l (k + 1) _ s' a' hin' hl' hB' h'.2⟩) h)
      · simp only [hc] at h
        obtain ⟨v, hv, hK⟩ := h
        exact wpAnyV_first h0 (Region.noSelect_spec hs) l.length listed s a hin hL (fun j oj h1 h2 h3 h4 => ⟨Region.free_spec h0 hf j oj h1 h2 h3 h4, finV_spec hfn j oj h1 h2 h3 h4⟩) (by simpa using hr) (.inl ⟨hw, by simpa using hc, hv⟩) (wpAnyV_lex hs l (k + 1) _ s _ hin hl' hB' hK)
    · simp only [hw] at h
      exact wpAnyV_first h0 (Region.noSelect_spec hs) l.length listed s a hin hL (fun j oj h1 h2 h3 h4 => ⟨Region.free_spec h0 hf j oj h1 h2 h3 h4, finV_spec hfn j oj h1 h2 h3 h4⟩) (by simpa using hr) (.inr ⟨by simpa using hw, rfl⟩) (wpAnyV_lex hs l (k + 1) _ s _ hin hl' hB' h)

theorem wpOpIn_of_mOp_round {i : Nat} {s : σ} {a : Act} {K : σ → Act → Prop} {K' : Act → World → Prop} {Q' : Exit → Act → World → Prop} {w : World} (hd : ∀ (j : Nat) (o : Oper) c, ops[j]? = some o → o.op ≠ .defer c) (hC : C s w) (h : ∀ s a w', C s w' → K s a → K' a w')
    (hh : mOp P ops C L ch fin i K s a) : wpOpIn (Fence.wide.inRound l) n P ops Q' i K' a w := by
  unfold mOp at hh
  unfold wpOpIn
  split
  · rename_i ho; simp only [ho] at hh; exact h _ _ _ hC hh
  · rename_i o ho
    simp only [ho] at hh
    split
    · rename_i hw
      simp only [hw, if_true] at hh
      obtain ⟨hL, hh⟩ := hh
      by_cases hs : ch o = true
      · simp only [hs, if_true] at hh
        unfold Oper.wpIn
        refine ⟨fun _ _ => trivial, ?_⟩
        rw [Oper.semAt_plain _ _ _ (fun c => hd i o c ho)]
        rcases hh w hC with ⟨v, w', h1, s', h2, _, h3⟩ | ⟨f, vs, h1, hc⟩
        · rcases h1 with h1 | ⟨h1, rfl⟩
          · rw [h1]; exact h _ _ _ h2 h3
          · rw [h1]; exact h _ _ _ h2 h3
        · rw [h1]
          exact ⟨fun h => (by cases h), CallsIn.inRound l (callsIn_wide.2 (hc.mono fun e w'' ⟨v, he, s', h2, _, h3⟩ => by subst he; exact h _ _ _ h2 h3))⟩
      · simp only [hs] at hh
        obtain ⟨v, h1, h2⟩ := hh
        exact wpIn_of_quiet_round (C := C s) (K := fun a => K s a) (fun c => hd i o c ho) hC (fun a w' hw' hk => h s a w' hw' hk) ⟨v, fun w hw => h1 s w hL hw, h2⟩
    · rename_i hw; simp only [hw] at hh; exact ⟨fun _ _ => trivial, h _ _ _ hC hh⟩

theorem wpAnyIn_of_stageV_round {Q : σ → Act → Prop} {Q' : Exit → Act → World → Prop} (hd : ∀ (j : Nat) (o : Oper) c, ops[j]? = some o → o.op ≠ .defer c) (hQ : ∀ s a w, C s w → Q s a → Q' .normal a w) : ∀ (fuel : Nat) (listed : Array Bool) (s : σ) (a : Act) (w : World), C s w →
    wpAnyV P md ops C L ch fin Q fuel listed s a → wpAnyIn (Fence.wide.inRound l) n P md ops Q' fuel listed a w
  | 0, _, _, _, _, hw, h => ⟨h.1, hQ _ _ _ hw h.2⟩
  | fuel + 1, _, _, _, _, hw, h => ⟨fun h0 => hQ _ _ _ hw (h.1 h0), fun i hi => wpOpIn_of_mOp_round hd hw (fun s' a' w' hw' => wpAnyIn_of_stageV_round hd hQ fuel _ s' a' w' hw') (h.2 i hi)⟩

/-- **THE LAW**: in a round. -/
theorem wpIn_region_stageV_round (s0 : σ) {id : Nat} {Q : Exit → Act → World → Prop} {a : Act} {w : World} {ls : List Oper} (hm : P.follows .mixedOrders = true) (hB : lexV ch fin .any ls.toArray = true) (hnd : ls.toArray.all Oper.noDefer = true) (hC : C s0 { w with drawn := w.drawn + 1 })
    (h : wpStageV P ls.toArray C L ch fin (fun s a' => ∀ w', C s w' → Q .normal a' w') ls s0 a) : (Code.region id ls.toArray true).wpIn (Fence.wide.inRound l) n P Q a w := by
  simp only [lexV, Bool.and_eq_true] at hB
  have hd : ∀ (j : Nat) (o : Oper) c, ls.toArray[j]? = some o → o.op ≠ .defer c := by
    intro j o c hj he
    have hmem : o ∈ ls.toArray := Array.mem_of_getElem? hj
    have := Array.all_eq_true_iff_forall_mem.1 hnd o hmem
    simp [Oper.noDefer, he] at this
  refine wpIn_region_any hm (wpAnyIn_of_stageV_round (L := L) (ch := ch) (fin := fin) (Q := fun s a' => ∀ w', C s w' → Q .normal a' w') hd (fun _ _ w' hw' h => h w' hw') _ _ _ _ _ hC ?_)
  have := wpAnyV_lex (P := P) (C := C) (L := L) (ch := ch) (fin := fin) (md := .any) (Q := fun s a' => ∀ w', C s w' → Q .normal a' w') hB.1 ls 0 (Array.replicate ls.length false) s0 a ⟨_, hC⟩ (by simp) (by simpa using hB.2) h
  simpa using this

theorem wpStageV_nil {Q : σ → Act → Prop} {s : σ} {a : Act} (h : Q s a) : wpStageV P ops C L ch fin Q [] s a := h
theorem wpStageV_step {Q : σ → Act → Prop} {o : Oper} {rest : List Oper} {s : σ} {a : Act} (hL : L s) (hs : ch o = false) (hc : Oper.reads o = true)
    (h : wpQuiet P ops (fun w => ∃ s, L s ∧ C s w) (wpStageV P ops C L ch fin Q rest s) [o] a) : wpStageV P ops C L ch fin Q (o :: rest) s a := by
  unfold wpStageV
  refine ⟨hL, ?_⟩
  unfold wpQuiet wpQuiet at h
  split
  · rename_i hw
    simp only [hw, if_true] at h
    obtain ⟨v, h1, h2⟩ := h
    simp only [hs, Bool.false_eq_true, if_false]
    exact ⟨v, fun s' w hl hw' => quietUpon_class (reads_enters_not hc a w) (h1 w ⟨s', hl, hw'⟩), h2⟩
  · rename_i hw
    simp only [hw] at h
    exact h
theorem wpStageV_call {Q : σ → Act → Prop} {o : Oper} {rest : List Oper} {s : σ} {a : Act} (f : FuncId) (vs : Array Value) (v : Value) (hL : L s) (hs : ch o = false) (hg : o.guard = none)
    (ho : ∀ w, (execOp a.eval o).run P w = .ok (.enter f vs) w) (hc : ∀ w, Calls P f vs w fun e w' => e = .returned v ∧ w' = w)
    (h : wpStageV P ops C L ch fin Q rest s (a.put o.dst v)) : wpStageV P ops C L ch fin Q (o :: rest) s a := by
  unfold wpStageV
  have hw : Region.wanted o (yielded ops a.tmps) = true := by simp [Region.wanted, hg]
  simp only [hw, hs, if_true, Bool.false_eq_true, if_false]
  refine ⟨hL, v, fun s' w' _ hw' => ?_, h⟩
  unfold Oper.quietAt
  rw [ho w']
  refine ⟨rfl, (hc w').mono ?_⟩
  rintro e w2 ⟨rfl, rfl⟩
  exact ⟨rfl, hw'⟩
theorem wpStageV_run {Q : σ → Act → Prop} {o : Oper} {rest : List Oper} {s : σ} {a : Act} (hL : L s) (hs : ch o = true) (hg : o.guard = none)
    (h : ∀ w, C s w → ∃ v w' s', Oper.yieldsAt P o a w w' v ∧ C s' w' ∧ (fin o = false → L s') ∧ wpStageV P ops C L ch fin Q rest s' (a.put o.dst v)) : wpStageV P ops C L ch fin Q (o :: rest) s a := by
  unfold wpStageV
  have hw : Region.wanted o (yielded ops a.tmps) = true := by simp [Region.wanted, hg]
  simp only [hw, hs, if_true]
  exact ⟨hL, fun w hw => let ⟨v, w', s', h1, h2, h3⟩ := h w hw; .inl ⟨v, w', h1, s', h2, h3⟩⟩
/-- A call of a function that moves the world. -/
theorem wpStageV_enter {Q : σ → Act → Prop} {o : Oper} {rest : List Oper} {s : σ} {a : Act} (f : FuncId) (vs : Array Value) (hL : L s) (hs : ch o = true) (hg : o.guard = none)
    (ho : ∀ w, (execOp a.eval o).run P w = .ok (.enter f vs) w)
    (h : ∀ w, C s w → Calls P f vs w fun e w' => ∃ v, e = .returned v ∧ ∃ s', C s' w' ∧ (fin o = false → L s') ∧ wpStageV P ops C L ch fin Q rest s' (a.put o.dst v)) : wpStageV P ops C L ch fin Q (o :: rest) s a := by
  unfold wpStageV
  have hw : Region.wanted o (yielded ops a.tmps) = true := by simp [Region.wanted, hg]
  simp only [hw, hs, if_true]
  exact ⟨hL, fun w hw => .inr ⟨f, vs, ho w, h w hw⟩⟩
theorem wpStageV_move {Q : σ → Act → Prop} {o : Oper} {rest : List Oper} {s : σ} {a : Act} (hL : L s) (hs : ch o = true) (hg : o.guard = none)
    (h : Oper.moves P o a C s (fun s' a' => (fin o = false → L s') ∧ wpStageV P ops C L ch fin Q rest s' a')) : wpStageV P ops C L ch fin Q (o :: rest) s a := by
  unfold wpStageV
  have hw : Region.wanted o (yielded ops a.tmps) = true := by simp [Region.wanted, hg]
  simp only [hw, hs, if_true]
  exact ⟨hL, h⟩
end stage
end Go.Proofs.Ythmenbehpblljaa
