/-
  Laws of regions that draw their order: by stages, by an invariant, plainly (no round).
-/
import Derived.Test.YtldbnfbfhbkclaaDoorProg
import Derived.Test.YtldbnfbfhbkclaaDoorAid
import Derived.Deep.QuietTactic
import Derived.BigQuiet
import Derived.Shelf.RegionOpen
namespace Go.Proofs.YtldbnfbfhbkclaaDoor
open Go.RowKit Go.Shelf
attribute [local go_sem] Oper.semAt_some

def Oper.stores (o : Oper) : Bool := match o.op with | .store _ _ _ => true | _ => false
section base
variable {P : Program}
def Oper.reads (o : Oper) : Bool := match o.op with | .move _ | .assign _ | .load _ _ | .fieldAddr _ _ _ | .indexAddr _ _ _ | .binOp _ _ _ _ _ | .unOp _ _ _ | .convert _ _ _ | .field _ _ _ | .index _ _ _ | .build _ _ | .extract _ _ => true | _ => false
theorem value_enters_not (s : Sem Value) {w w' : World} {f : FuncId} {args : Array Value} : (do let x ← s; pure (Next.value x) : Sem Next).run P w ≠ .ok (.enter f args) w' := by
  rw [Sem.run_bind]
  cases s.run P w with
  | ok x w2 => intro h; simp [Result.andThen, Sem.run_pure] at h
  | halt x w2 => intro h; simp [Result.andThen] at h
theorem reads_enters_not {o : Oper} (h : Oper.reads o = true) (a : Act) (w : World) (f : FuncId) (args : Array Value) (w' : World) : (execOp a.eval o).run P w ≠ .ok (.enter f args) w' := by
  unfold execOp
  cases ho : o.op <;> simp only [Oper.reads, ho] at h ⊢ <;> first | exact absurd h (by decide) | exact value_enters_not _ | (rw [Sem.run_pure]; intro h2; cases h2)
theorem quietUpon_class {C C' : World → Prop} {w : World} {v : Value} {r : Result Next} (h : ∀ f args w', r ≠ .ok (.enter f args) w') (hh : Oper.quietUpon P C w v r) : Oper.quietUpon P C' w v r := by
  cases r with
  | ok x w' =>
    cases x <;> simp only [Oper.quietUpon] at hh ⊢ <;> first | exact hh | exact absurd rfl (h _ _ _)
  | halt x w' => simp only [Oper.quietUpon] at hh
theorem wp_region_quiet_class {P : Program} {C : World → Prop} {id : Nat} {Q : Exit → Act → World → Prop} {a : Act} {w : World} {ls : List Oper} (hm : P.follows .mixedOrders = true) (hB : Region.lexB .any ls.toArray = true) (hC : C { w with drawn := w.drawn + 1 })
    (h : wpQuiet P ls.toArray C (fun a' => ∀ w', C w' → Q .normal a' w') ls a) : (Code.region id ls.toArray true).wp P Q a w :=
  wp_region_quiet (C := C) hm hB hC (by simpa using h)
theorem quiet_load_row {P : Program} {o : Oper} {a : Act} {C : World → Prop} {K : Act → Prop} (ty : TypeId) (x : Operand) (ho : o.op = .load ty x)
    (g : Nat) (hx : a.eval x = .pointer (some ⟨g, 0, none⟩)) (t : TypeId) (cs : Array Value) (fr : Nat × Nat) (d : TypeDesc) (hg : ∀ w, C w → w.heap[g]? = some (.cells cs t fr))
    (hu : P.underlying ty = some d) (hd : (match d with | .struct _ | .array _ _ => true | _ => false) = true) (hi : (P.info? ty).map (·.size) = some cs.size)
    (h : K (a.put o.dst (.agg cs))) : o.quiet P a C K := by
  refine ⟨.agg cs, fun w hw => ?_, h⟩
  unfold Oper.quietAt execOp
  simp only [ho, hx, Instr.loadAt, Instr.sureAddr, Sem.run_bind, Sem.run_pure, Result.andThen_ok, run_loadVar_row w g t ty cs fr d (hg w hw) hu hd hi]
  exact ⟨rfl, rfl⟩

end base

section stage
variable {P : Program} {ops : Array Oper} {md : Region.Mode} {σ : Type} {C : σ → World → Prop} {L : σ → Prop} {ch fin : Oper → Bool} {l n : Nat}

def Oper.yieldsAt (P : Program) (o : Oper) (a : Act) (w w' : World) (v : Value) : Prop := (execOp a.eval o).run P w = .ok (.value v) w' ∨ ((execOp a.eval o).run P w = .ok .skip w' ∧ v = undef)
/-- Where it leads: by itself, or by the function that it calls. -/
def Oper.leads (P : Program) (o : Oper) (a : Act) (w : World) (R : Value → World → Prop) : Prop :=
  (∃ v w', Oper.yieldsAt P o a w w' v ∧ R v w') ∨ (∃ f vs, (execOp a.eval o).run P w = .ok (.enter f vs) w ∧ Calls P f vs w fun e w' => ∃ v, e = .returned v ∧ R v w')
theorem leads_mono {o : Oper} {a : Act} {w : World} {R R' : Value → World → Prop} (h : Oper.leads P o a w R) (hr : ∀ v w', R v w' → R' v w') : Oper.leads P o a w R' := by
  rcases h with ⟨v, w', h1, h2⟩ | ⟨f, vs, h1, h2⟩
  · exact .inl ⟨v, w', h1, hr _ _ h2⟩
  · exact .inr ⟨f, vs, h1, h2.mono fun e w' ⟨v, h3, h4⟩ => ⟨v, h3, hr _ _ h4⟩⟩
theorem leads_some {o : Oper} {a : Act} {w : World} {R : Value → World → Prop} (h : Oper.leads P o a w R) : ∃ v w', R v w' := by
  rcases h with ⟨v, w', h1, h2⟩ | ⟨f, vs, h1, h2⟩
  · exact ⟨v, w', h2⟩
  · obtain ⟨e, w', fr, ⟨v, _, h3⟩, _⟩ := h2 []
    exact ⟨v, w', h3⟩
theorem leads_put {o : Oper} {a a' : Act} {w : World} {R : Value → World → Prop} (he : execOp a'.eval o = execOp a.eval o) (h : Oper.leads P o a w R) : Oper.leads P o a' w R := by
  unfold Oper.leads Oper.yieldsAt at *
  rw [he]
  exact h
def Oper.moves (P : Program) (o : Oper) (a : Act) (C : σ → World → Prop) (s : σ) (K : σ → Act → Prop) : Prop := ∀ w, C s w → Oper.leads P o a w fun v w' => ∃ s', C s' w' ∧ K s' (a.put o.dst v)
def Oper.liesV (P : Program) (o : Oper) (a : Act) (C : σ → World → Prop) (L : σ → Prop) (v : Value) : Prop := ∀ s w, L s → C s w → o.quietAt P a (C s) w v

theorem moves_mono {o : Oper} {a : Act} {s : σ} {K K' : σ → Act → Prop} (h : ∀ s a, (∃ w, C s w) → K s a → K' s a) (hh : Oper.moves P o a C s K) : Oper.moves P o a C s K' := fun w hw =>
  leads_mono (hh w hw) fun _ w' ⟨s', h2, h3⟩ => ⟨s', h2, h _ _ ⟨w', h2⟩ h3⟩

def mOp (P : Program) (ops : Array Oper) (C : σ → World → Prop) (L : σ → Prop) (ch fin : Oper → Bool) (i : Nat) (K : σ → Act → Prop) (s : σ) (a : Act) : Prop :=
  match ops[i]? with
  | none => K s a
  | some o => if Region.wanted o (yielded ops a.tmps) then L s ∧ (if ch o = true then Oper.moves P o a C s (fun s' a' => (fin o = false → L s') ∧ K s' a') else ∃ v, Oper.liesV P o a C L v ∧ K s (a.put o.dst v)) else K s (a.put o.dst undef)

def wpStageV (P : Program) (ops : Array Oper) (C : σ → World → Prop) (L : σ → Prop) (ch fin : Oper → Bool) (Q : σ → Act → Prop) : List Oper → σ → Act → Prop
  | [], s, a => Q s a
  | o :: rest, s, a => L s ∧ (if Region.wanted o (yielded ops a.tmps) then (if ch o = true then Oper.moves P o a C s (fun s' a' => (fin o = false → L s') ∧ wpStageV P ops C L ch fin Q rest s' a') else ∃ v, Oper.liesV P o a C L v ∧ wpStageV P ops C L ch fin Q rest s (a.put o.dst v)) else wpStageV P ops C L ch fin Q rest s (a.put o.dst undef))

def wpAnyV (P : Program) (md : Region.Mode) (ops : Array Oper) (C : σ → World → Prop) (L : σ → Prop) (ch fin : Oper → Bool) (Q : σ → Act → Prop) : Nat → Array Bool → σ → Act → Prop
  | 0, listed, s, a => Region.ready md ops listed = [] ∧ Q s a
  | fuel + 1, listed, s, a =>
    (Region.ready md ops listed = [] → Q s a) ∧
    ∀ i ∈ Region.ready md ops listed, mOp P ops C L ch fin i (wpAnyV P md ops C L ch fin Q fuel (listed.setIfInBounds i true)) s a

theorem mOp_mono {i : Nat} {s : σ} {a : Act} {K K' : σ → Act → Prop} (hi : ∃ w, C s w) (h : ∀ s a, (∃ w, C s w) → K s a → K' s a) (hh : mOp P ops C L ch fin i K s a) : mOp P ops C L ch fin i K' s a := by
  unfold mOp at *
  split
  · exact h _ _ hi (by simpa [*] using hh)
  · rename_i o ho
    simp only [ho] at hh
    split
    · rename_i hw
      simp only [hw, if_true] at hh
      refine ⟨hh.1, ?_⟩
      have hh := hh.2
      split
      · rename_i hs; simp only [hs, if_true] at hh; exact moves_mono (fun s a hi h' => ⟨h'.1, h _ _ hi h'.2⟩) hh
      · rename_i hs; simp only [hs] at hh; obtain ⟨v, h1, h2⟩ := hh; exact ⟨v, h1, h _ _ hi h2⟩
    · rename_i hw; simp only [hw] at hh; exact h _ _ hi hh

/-- A quiet operation's value (or an unwanted one's). -/
def YieldsV (P : Program) (ops : Array Oper) (C : σ → World → Prop) (L : σ → Prop) (ch : Oper → Bool) (o : Oper) (v : Value) (a : Act) : Prop :=
  (Region.wanted o (yielded ops a.tmps) = true ∧ ch o = false ∧ Oper.liesV P o a C L v) ∨ (Region.wanted o (yielded ops a.tmps) = false ∧ v = undef)

theorem YieldsV.mOp {i : Nat} {o : Oper} {v : Value} {s : σ} {a : Act} (hi : ops[i]? = some o) (hL : L s) (hy : YieldsV P ops C L ch o v a) {K : σ → Act → Prop} (h : K s (a.put o.dst v)) : mOp P ops C L ch fin i K s a := by
  unfold Go.Proofs.YtldbnfbfhbkclaaDoor.mOp
  simp only [hi]
  rcases hy with ⟨hw, hs, hl⟩ | ⟨hw, rfl⟩
  · simp only [hw, hs, if_true, Bool.false_eq_true, if_false]; exact ⟨hL, v, hl, h⟩
  · simp only [hw, Bool.false_eq_true, if_false]; exact h

theorem liesV_put {o : Oper} (hs : ∀ cs b, o.op ≠ .select cs b) {a : Act} {dst : Option Tmp} {v u : Value} (h : ∀ d, dst = some d → d ∉ o.looksAt ops) : Oper.liesV P o (a.put dst v) C L u ↔ Oper.liesV P o a C L u := by
  unfold Oper.liesV Oper.quietAt
  rw [execOp_put o hs a dst v h]

theorem mOp_put {j : Nat} {oi oj : Oper} {v : Value} {s : σ} (hj : ops[j]? = some oj) (hap : oi.apart ops oj = true) (hfin : fin oj = false) (hL : L s)
    (hsi : ∀ cs b, oi.op ≠ .select cs b) (hsj : ∀ cs b, oj.op ≠ .select cs b) {K : σ → Act → Prop} {a : Act}
    (hy : YieldsV P ops C L ch oi v a) (h : mOp P ops C L ch fin j K s (a.put oi.dst v)) :
    mOp P ops C L ch fin j (fun s' a' => (L s' ∧ YieldsV P ops C L ch oi v a') ∧ K s' (a'.put oi.dst v)) s a := by
  obtain ⟨h1, h2, h3⟩ := Oper.apart_spec hap
  have keep : ∀ (u : Value), YieldsV P ops C L ch oi v (a.put oj.dst u) := fun u => by
    unfold YieldsV at *
    rw [wanted_put oi a oj.dst u h3, liesV_put (ops := ops) hsi h3]
    exact hy
  unfold Go.Proofs.YtldbnfbfhbkclaaDoor.mOp at *
  simp only [hj] at *
  rw [wanted_put oj a oi.dst v h1] at h
  split
  · rename_i hw
    simp only [hw, if_true] at h
    refine ⟨h.1, ?_⟩
    have h := h.2
    split
    · rename_i hs
      simp only [hs, if_true] at h
      intro w hw'
      refine leads_put (execOp_put oj hsj a oi.dst v h1).symm (leads_mono (h w hw') ?_)
      rintro u w' ⟨s', e2, e4, e3⟩
      exact ⟨s', e2, e4, ⟨e4 hfin, keep u⟩, by rw [← Act.put_comm a v u h2]; exact e3⟩
    · rename_i hs
      simp only [hs] at h
      obtain ⟨u, hu, hn⟩ := h
      rw [liesV_put (ops := ops) hsj h1] at hu
      exact ⟨u, hu, ⟨hL, keep u⟩, by rw [← Act.put_comm a v u h2]; exact hn⟩
  · rename_i hw
    simp only [hw] at h
    exact ⟨⟨hL, keep _⟩, by rw [← Act.put_comm a v undef h2]; exact h⟩

theorem wpAnyV_first {Q : σ → Act → Prop} {i : Nat} {oi : Oper} {v : Value} (hi : ops[i]? = some oi) (hsel : ∀ (j : Nat) (o : Oper) cs b, ops[j]? = some o → o.op ≠ .select cs b) :
    ∀ (fuel : Nat) (listed : Array Bool) (s : σ) (a : Act), (∃ w, C s w) → L s →
      (∀ j oj, ops[j]? = some oj → j ≠ i → listed.getD j true = false → (∀ e ∈ oj.after, Region.binds md e = true → e.on ≠ i) → oi.apart ops oj = true ∧ fin oj = false) →
      i ∈ Region.ready md ops listed → YieldsV P ops C L ch oi v a →
      wpAnyV P md ops C L ch fin Q fuel (listed.setIfInBounds i true) s (a.put oi.dst v) → wpAnyV P md ops C L ch fin Q (fuel + 1) listed s a := by
  intro fuel
  induction fuel with
  | zero =>
    intro listed s a _ hL _ hr hy H
    refine ⟨fun h => (by rw [h] at hr; cases hr), fun j hj => ?_⟩
    by_cases hji : j = i
    · subst hji; exact hy.mOp hi hL H
    · have := ready_mono hj hji
      rw [H.1] at this
      cases this
  | succ fuel ih =>
    intro listed s a hin hL hfree hr hy H
    refine ⟨fun h => (by rw [h] at hr; cases hr), fun j hj => ?_⟩
    by_cases hji : j = i
    · subst hji; exact hy.mOp hi hL H
    · have h1 := H.2 j (ready_mono hj hji)
      obtain ⟨hjun, oj, hoj, hall⟩ := mem_ready.1 hj
      have hnot : ∀ e ∈ oj.after, Region.binds md e = true → e.on ≠ i := fun e he hb heq => by
        have h1 := hall e he hb
        have h0 := (mem_ready.1 hr).1
        rw [heq] at h1
        rcases Nat.lt_or_ge i listed.size with h' | h'
        · simp [h'] at h0 h1; rw [h0] at h1; cases h1
        · simp [Array.getElem?_eq_none h'] at h1
      have h2 := mOp_put hoj (hfree j oj hoj hji hjun hnot).1 (hfree j oj hoj hji hjun hnot).2 hL (fun cs b => hsel i oi cs b hi) (fun cs b => hsel j oj cs b hoj) hy h1
      have hfree' : ∀ k ok, ops[k]? = some ok → k ≠ i → (listed.setIfInBounds j true).getD k true = false →
          (∀ e ∈ ok.after, Region.binds md e = true → e.on ≠ i) → oi.apart ops ok = true ∧ fin ok = false := fun k ok hk hki hun hno => by
        refine hfree k ok hk hki ?_ hno
        by_cases hjk : j = k
        · subst hjk; exact hjun
        · rw [getD_set_ne true hjk] at hun; exact hun
      refine mOp_mono hin (fun s' a' hin' h3 => ih (listed.setIfInBounds j true) s' a' hin' h3.1.1 hfree' (ready_mono hr (Ne.symm hji)) h3.1.2 ?_) h2
      rw [Array.setIfInBounds_comm _ _ hji]
      exact h3.2
theorem quietUpon_unique {D : World → Prop} {w : World} {u u' : Value} {r : Result Next} (hne : ∀ f args w', r ≠ .ok (.enter f args) w') (h1 : Oper.quietUpon P D w u r) (h2 : Oper.quietUpon P D w u' r) : u = u' := by
  cases r with
  | ok x w' =>
    cases x <;> simp only [Oper.quietUpon] at h1 h2 <;> first | exact h1.2.symm.trans h2.2 | exact h1.2.trans h2.2.symm | exact absurd rfl (hne _ _ _)
  | halt x w' => simp only [Oper.quietUpon] at h1

theorem wpAnyV_move {Q : σ → Act → Prop} {i : Nat} {oi : Oper} (hi : ops[i]? = some oi) (hch : ch oi = true) (hsel : ∀ (j : Nat) (o : Oper) cs b, ops[j]? = some o → o.op ≠ .select cs b) :
    ∀ (fuel : Nat) (listed : Array Bool) (s : σ) (a : Act), (∃ w, C s w) → L s →
      (∀ j oj, ops[j]? = some oj → j ≠ i → listed.getD j true = false → (∀ e ∈ oj.after, Region.binds md e = true → e.on ≠ i) → oi.apart ops oj = true ∧ ch oj = false ∧ Oper.reads oj = true) →
      i ∈ Region.ready md ops listed → Region.wanted oi (yielded ops a.tmps) = true →
      Oper.moves P oi a C s (fun s' a' => (fin oi = false → L s') ∧ wpAnyV P md ops C L ch fin Q fuel (listed.setIfInBounds i true) s' a') → wpAnyV P md ops C L ch fin Q (fuel + 1) listed s a := by
  intro fuel
  induction fuel with
  | zero =>
    intro listed s a hin hL _ hr hw H
    refine ⟨fun h => (by rw [h] at hr; cases hr), fun j hj => ?_⟩
    by_cases hji : j = i
    · subst hji; unfold mOp; simp only [hi, hw, hch, if_true]; exact ⟨hL, H⟩
    · have h0 := ready_mono hj hji
      obtain ⟨w0, hw0⟩ := hin
      obtain ⟨v, w', s', _, _, h3⟩ := leads_some (H w0 hw0)
      rw [h3.1] at h0
      cases h0
  | succ fuel ih =>
    intro listed s a hin hL hfree hr hw H
    refine ⟨fun h => (by rw [h] at hr; cases hr), fun j hj => ?_⟩
    by_cases hji : j = i
    · subst hji; unfold mOp; simp only [hi, hw, hch, if_true]; exact ⟨hL, H⟩
    · obtain ⟨hjun, oj, hoj, hall⟩ := mem_ready.1 hj
      have hnot : ∀ e ∈ oj.after, Region.binds md e = true → e.on ≠ i := fun e he hb heq => by
        have h1 := hall e he hb
        have h0 := (mem_ready.1 hr).1
        rw [heq] at h1
        rcases Nat.lt_or_ge i listed.size with h' | h'
        · simp [h'] at h0 h1; rw [h0] at h1; cases h1
        · simp [Array.getElem?_eq_none h'] at h1
      obtain ⟨hap, hnc, hrd⟩ := hfree j oj hoj hji hjun hnot
      obtain ⟨a1, a2, a3⟩ := Oper.apart_spec hap
      have hsi := fun cs b => hsel i oi cs b hi
      have hsj := fun cs b => hsel j oj cs b hoj
      have hfree' : ∀ k ok, ops[k]? = some ok → k ≠ i → (listed.setIfInBounds j true).getD k true = false →
          (∀ e ∈ ok.after, Region.binds md e = true → e.on ≠ i) → oi.apart ops ok = true ∧ ch ok = false ∧ Oper.reads ok = true := fun k ok hk hki hun hno => by
        refine hfree k ok hk hki ?_ hno
        by_cases hjk : j = k
        · subst hjk; exact hjun
        · rw [getD_set_ne true hjk] at hun; exact hun
      -- what each outcome of oi says of oj
      have hout : ∀ (v : Value) (s' : σ), wpAnyV P md ops C L ch fin Q (fuel + 1) (listed.setIfInBounds i true) s' (a.put oi.dst v) → mOp P ops C L ch fin j (wpAnyV P md ops C L ch fin Q fuel ((listed.setIfInBounds i true).setIfInBounds j true)) s' (a.put oi.dst v) :=
        fun v s' h => h.2 j (ready_mono hj hji)
      unfold mOp
      simp only [hoj, hnc, Bool.false_eq_true, if_false]
      by_cases hwj : Region.wanted oj (yielded ops a.tmps) = true
      · simp only [hwj, if_true]
        obtain ⟨w0, hw0⟩ := hin
        obtain ⟨v0, w0', s0, _, _, h3⟩ := leads_some (H w0 hw0)
        have hm := hout v0 s0 h3
        unfold mOp at hm
        simp only [hoj, hnc, wanted_put oj a oi.dst v0 a1, hwj, if_true, Bool.false_eq_true, if_false] at hm
        obtain ⟨_, u, hu, _⟩ := hm
        rw [liesV_put (ops := ops) hsj a1] at hu
        refine ⟨hL, u, hu, ih (listed.setIfInBounds j true) s (a.put oj.dst u) ⟨w0, hw0⟩ hL hfree' (ready_mono hr (Ne.symm hji)) (by rw [wanted_put oi a oj.dst u a3]; exact hw) ?_⟩
        intro w hcw
        refine leads_put (execOp_put oi hsi a oj.dst u a3) (leads_mono (H w hcw) ?_)
        rintro v w' ⟨s', e2, e4, e3⟩
        have hm := hout v s' e3
        unfold mOp at hm
        simp only [hoj, hnc, wanted_put oj a oi.dst v a1, hwj, if_true, Bool.false_eq_true, if_false] at hm
        obtain ⟨_, u', hu', hK⟩ := hm
        rw [liesV_put (ops := ops) hsj a1] at hu'
        obtain rfl : u' = u := quietUpon_unique (reads_enters_not hrd a w) (hu' s w hL hcw) (hu s w hL hcw)
        refine ⟨s', e2, e4, ?_⟩
        rw [Array.setIfInBounds_comm _ _ hji, ← Act.put_comm a v u' a2]; exact hK
      · simp only [hwj]
        refine ih (listed.setIfInBounds j true) s (a.put oj.dst undef) hin hL hfree' (ready_mono hr (Ne.symm hji)) (by rw [wanted_put oi a oj.dst undef a3]; exact hw) ?_
        intro w hcw
        refine leads_put (execOp_put oi hsi a oj.dst undef a3) (leads_mono (H w hcw) ?_)
        rintro v w' ⟨s', e2, e4, e3⟩
        have hm := hout v s' e3
        unfold mOp at hm
        simp only [hoj, wanted_put oj a oi.dst v a1, hwj] at hm
        refine ⟨s', e2, e4, ?_⟩
        rw [Array.setIfInBounds_comm _ _ hji, ← Act.put_comm a v undef a2]; exact hm
/-- The operations that move the world wait for one another; what may come between only reads. -/
def chainedV (ch : Oper → Bool) (md : Region.Mode) (ops : Array Oper) (listed : Array Bool) (i : Nat) : Bool :=
  match ops[i]? with
  | none => true
  | some oi => !ch oi || (List.range ops.size).all fun j => j == i || listed.getD j true || match ops[j]? with
      | some oj => oj.after.any (fun e => Region.binds md e && e.on == i) || (!ch oj && Oper.reads oj)
      | none => true
theorem chainedV_spec {i : Nat} {oi : Oper} {listed : Array Bool} (hi : ops[i]? = some oi) (h : chainedV ch md ops listed i = true) (hs1 : ch oi = true) (j : Nat) (oj : Oper)
    (hj : ops[j]? = some oj) (hne : j ≠ i) (hun : listed.getD j true = false) (hno : ∀ e ∈ oj.after, Region.binds md e = true → e.on ≠ i) : ch oj = false ∧ Oper.reads oj = true := by
  simp only [chainedV, hi, hs1, Bool.not_true, Bool.false_or, List.all_eq_true, List.mem_range] at h
  have h1 := h j (Array.getElem?_eq_some_iff.1 hj).1
  simp only [hj, Bool.or_eq_true, beq_iff_eq, hne, false_or, hun, Bool.false_eq_true] at h1
  rcases h1 with h1 | h1
  · obtain ⟨e, he, hb⟩ := Array.any_eq_true'.1 h1
    simp only [Bool.and_eq_true, beq_iff_eq] at hb
    exact absurd hb.2 (hno e he hb.1)
  · simpa using h1

/-- What ends the region waits for all. -/
def finV (fin : Oper → Bool) (md : Region.Mode) (ops : Array Oper) (listed : Array Bool) (i : Nat) : Bool :=
  (List.range ops.size).all fun j => j == i || listed.getD j true || match ops[j]? with
      | some oj => oj.after.any (fun e => Region.binds md e && e.on == i) || !fin oj
      | none => true
theorem finV_spec {i : Nat} {listed : Array Bool} (h : finV fin md ops listed i = true) (j : Nat) (oj : Oper)
    (hj : ops[j]? = some oj) (hne : j ≠ i) (hun : listed.getD j true = false) (hno : ∀ e ∈ oj.after, Region.binds md e = true → e.on ≠ i) : fin oj = false := by
  simp only [finV, List.all_eq_true, List.mem_range] at h
  have h1 := h j (Array.getElem?_eq_some_iff.1 hj).1
  simp only [hj, Bool.or_eq_true, beq_iff_eq, hne, false_or, hun, Bool.false_eq_true] at h1
  rcases h1 with h1 | h1
  · obtain ⟨e, he, hb⟩ := Array.any_eq_true'.1 h1
    simp only [Bool.and_eq_true, beq_iff_eq] at hb
    exact absurd hb.2 (hno e he hb.1)
  · simpa using h1

def lexFromV (ch fin : Oper → Bool) (md : Region.Mode) (ops : Array Oper) : Nat → Nat → Array Bool → Bool
  | 0, _, listed => (Region.ready md ops listed).isEmpty
  | fuel + 1, k, listed => (Region.ready md ops listed).contains k && Region.free md ops listed k && chainedV ch md ops listed k && finV fin md ops listed k && lexFromV ch fin md ops fuel (k + 1) (listed.setIfInBounds k true)
def lexV (ch fin : Oper → Bool) (md : Region.Mode) (ops : Array Oper) : Bool := Region.noSelect ops && lexFromV ch fin md ops ops.size 0 (Array.replicate ops.size false)

theorem wpAnyV_lex {Q : σ → Act → Prop} (hs : Region.noSelect ops = true) : ∀ (l : List Oper) (k : Nat) (listed : Array Bool) (s : σ) (a : Act), (∃ w, C s w) → (∀ j, l[j]? = ops[k + j]?) →
    lexFromV ch fin md ops l.length k listed = true → wpStageV P ops C L ch fin Q l s a → wpAnyV P md ops C L ch fin Q l.length listed s a
  | [], _, _, _, _, _, _, hB, h => ⟨by simpa [lexFromV] using hB, h⟩
  | o :: l, k, listed, s, a, hin, hl, hB, h => by
    have h0 : ops[k]? = some o := by simpa using (hl 0).symm
    simp only [List.length_cons, lexFromV, Bool.and_eq_true] at hB
    obtain ⟨⟨⟨⟨hr, hf⟩, hch⟩, hfn⟩, hB'⟩ := hB
    have hl' : ∀ j, l[j]? = ops[k + 1 + j]? := fun j => by have := hl (j + 1); simpa [Nat.add_assoc, Nat.add_comm 1 j] using this
    unfold wpStageV at h
    obtain ⟨hL, h⟩ := h
    by_cases hw : Region.wanted o (yielded ops a.tmps) = true
    · simp only [hw, if_true] at h
      by_cases hc : ch o = true
      · simp only [hc, if_true] at h
        exact wpAnyV_move h0 hc (Region.noSelect_spec hs) l.length listed s a hin hL (fun j oj h1 h2 h3 h4 => ⟨Region.free_spec h0 hf j oj h1 h2 h3 h4, chainedV_spec h0 hch hc j oj h1 h2 h3 h4⟩) (by simpa using hr) hw
          (moves_mono (fun s' a' hin' h' => ⟨h'.1, wpAnyV_lex hs l (k + 1) _ s' a' hin' hl' hB' h'.2⟩) h)
      · simp only [hc] at h
        obtain ⟨v, hv, hK⟩ := h
        exact wpAnyV_first h0 (Region.noSelect_spec hs) l.length listed s a hin hL (fun j oj h1 h2 h3 h4 => ⟨Region.free_spec h0 hf j oj h1 h2 h3 h4, finV_spec hfn j oj h1 h2 h3 h4⟩) (by simpa using hr) (.inl ⟨hw, by simpa using hc, hv⟩) (wpAnyV_lex hs l (k + 1) _ s _ hin hl' hB' hK)
    · simp only [hw] at h
      exact wpAnyV_first h0 (Region.noSelect_spec hs) l.length listed s a hin hL (fun j oj h1 h2 h3 h4 => ⟨Region.free_spec h0 hf j oj h1 h2 h3 h4, finV_spec hfn j oj h1 h2 h3 h4⟩) (by simpa using hr) (.inr ⟨by simpa using hw, rfl⟩) (wpAnyV_lex hs l (k + 1) _ s _ hin hl' hB' h)

theorem wpOp_of_mOp {i : Nat} {s : σ} {a : Act} {K : σ → Act → Prop} {K' : Act → World → Prop} {Q' : Exit → Act → World → Prop} {w : World} (hC : C s w) (h : ∀ s a w', C s w' → K s a → K' a w')
    (hh : mOp P ops C L ch fin i K s a) : wpOp P ops Q' i K' a w := by
  unfold mOp at hh
  unfold wpOp
  split
  · rename_i ho; simp only [ho] at hh; exact h _ _ _ hC hh
  · rename_i o ho
    simp only [ho] at hh
    split
    · rename_i hw
      simp only [hw, if_true] at hh
      obtain ⟨hL, hh⟩ := hh
      by_cases hs : ch o = true
      · simp only [hs, if_true] at hh
        refine .inl ?_
        unfold Oper.wp
        rcases hh w hC with ⟨v, w', h1, s', h2, _, h3⟩ | ⟨f, vs, h1, hc⟩
        · rcases h1 with h1 | ⟨h1, rfl⟩
          · rw [h1]; exact h _ _ _ h2 h3
          · rw [h1]; exact h _ _ _ h2 h3
        · rw [h1]
          exact hc.mono fun e w'' ⟨v, he, s', h2, _, h3⟩ => by subst he; exact h _ _ _ h2 h3
      · simp only [hs] at hh
        obtain ⟨v, h1, h2⟩ := hh
        exact .inl (Oper.wp_of_quiet (C := C s) (K := fun a => K s a) hC (fun a w' hw' hk => h s a w' hw' hk) ⟨v, fun w hw => h1 s w hL hw, h2⟩)
    · rename_i hw; simp only [hw] at hh; exact h _ _ _ hC hh

theorem wpAny_of_stageV {Q : σ → Act → Prop} {Q' : Exit → Act → World → Prop} (hQ : ∀ s a w, C s w → Q s a → Q' .normal a w) : ∀ (fuel : Nat) (listed : Array Bool) (s : σ) (a : Act) (w : World), C s w →
    wpAnyV P md ops C L ch fin Q fuel listed s a → wpAny P md ops Q' fuel listed a w
  | 0, _, _, _, _, hw, h => ⟨h.1, hQ _ _ _ hw h.2⟩
  | fuel + 1, _, _, _, _, hw, h => ⟨fun h0 => hQ _ _ _ hw (h.1 h0), fun i hi => wpOp_of_mOp hw (fun s' a' w' hw' => wpAny_of_stageV hQ fuel _ s' a' w' hw') (h.2 i hi)⟩

/-- **THE LAW**: plainly. -/
theorem wp_region_stageV (s0 : σ) {id : Nat} {Q : Exit → Act → World → Prop} {a : Act} {w : World} {ls : List Oper} (hm : P.follows .mixedOrders = true) (hB : lexV ch fin .any ls.toArray = true) (hC : C s0 { w with drawn := w.drawn + 1 })
    (h : wpStageV P ls.toArray C L ch fin (fun s a' => ∀ w', C s w' → Q .normal a' w') ls s0 a) : (Code.region id ls.toArray true).wp P Q a w := by
  simp only [lexV, Bool.and_eq_true] at hB
  refine wp_region_any hm (wpAny_of_stageV (L := L) (ch := ch) (fin := fin) (Q := fun s a' => ∀ w', C s w' → Q .normal a' w') (fun _ _ w' hw' h => h w' hw') _ _ _ _ _ hC ?_)
  have := wpAnyV_lex (P := P) (C := C) (L := L) (ch := ch) (fin := fin) (md := .any) (Q := fun s a' => ∀ w', C s w' → Q .normal a' w') hB.1 ls 0 (Array.replicate ls.length false) s0 a ⟨_, hC⟩ (by simp) (by simpa using hB.2) h
  simpa using this

theorem wpStageV_nil {Q : σ → Act → Prop} {s : σ} {a : Act} (h : Q s a) : wpStageV P ops C L ch fin Q [] s a := h
theorem wpStageV_step {Q : σ → Act → Prop} {o : Oper} {rest : List Oper} {s : σ} {a : Act} (hL : L s) (hs : ch o = false) (hc : Oper.reads o = true)
    (h : wpQuiet P ops (fun w => ∃ s, L s ∧ C s w) (wpStageV P ops C L ch fin Q rest s) [o] a) : wpStageV P ops C L ch fin Q (o :: rest) s a := by
  unfold wpStageV
  refine ⟨hL, ?_⟩
  unfold wpQuiet wpQuiet at h
  split
  · rename_i hw
    simp only [hw, if_true] at h
    obtain ⟨v, h1, h2⟩ := h
    simp only [hs, Bool.false_eq_true, if_false]
    exact ⟨v, fun s' w hl hw' => quietUpon_class (reads_enters_not hc a w) (h1 w ⟨s', hl, hw'⟩), h2⟩
  · rename_i hw
    simp only [hw] at h
    exact h
theorem wpStageV_call {Q : σ → Act → Prop} {o : Oper} {rest : List Oper} {s : σ} {a : Act} (f : FuncId) (vs : Array Value) (v : Value) (hL : L s) (hs : ch o = false) (hg : o.guard = none)
    (ho : ∀ w, (execOp a.eval o).run P w = .ok (.enter f vs) w) (hc : ∀ w, Calls P f vs w fun e w' => e = .returned v ∧ w' = w)
    (h : wpStageV P ops C L ch fin Q rest s (a.put o.dst v)) : wpStageV P ops C L ch fin Q (o :: rest) s a := by
  unfold wpStageV
  have hw : Region.wanted o (yielded ops a.tmps) = true := by simp [Region.wanted, hg]
  simp only [hw, hs, if_true, Bool.false_eq_true, if_false]
  refine ⟨hL, v, fun s' w' _ hw' => ?_, h⟩
  unfold Oper.quietAt
  rw [ho w']
  refine ⟨rfl, (hc w').mono ?_⟩
  rintro e w2 ⟨rfl, rfl⟩
  exact ⟨rfl, hw'⟩
theorem wpStageV_run {Q : σ → Act → Prop} {o : Oper} {rest : List Oper} {s : σ} {a : Act} (hL : L s) (hs : ch o = true) (hg : o.guard = none)
    (h : ∀ w, C s w → ∃ v w' s', Oper.yieldsAt P o a w w' v ∧ C s' w' ∧ (fin o = false → L s') ∧ wpStageV P ops C L ch fin Q rest s' (a.put o.dst v)) : wpStageV P ops C L ch fin Q (o :: rest) s a := by
  unfold wpStageV
  have hw : Region.wanted o (yielded ops a.tmps) = true := by simp [Region.wanted, hg]
  simp only [hw, hs, if_true]
  exact ⟨hL, fun w hw => let ⟨v, w', s', h1, h2, h3⟩ := h w hw; .inl ⟨v, w', h1, s', h2, h3⟩⟩
/-- A call of a function that moves the world. -/
theorem wpStageV_enter {Q : σ → Act → Prop} {o : Oper} {rest : List Oper} {s : σ} {a : Act} (f : FuncId) (vs : Array Value) (hL : L s) (hs : ch o = true) (hg : o.guard = none)
    (ho : ∀ w, (execOp a.eval o).run P w = .ok (.enter f vs) w)
    (h : ∀ w, C s w → Calls P f vs w fun e w' => ∃ v, e = .returned v ∧ ∃ s', C s' w' ∧ (fin o = false → L s') ∧ wpStageV P ops C L ch fin Q rest s' (a.put o.dst v)) : wpStageV P ops C L ch fin Q (o :: rest) s a := by
  unfold wpStageV
  have hw : Region.wanted o (yielded ops a.tmps) = true := by simp [Region.wanted, hg]
  simp only [hw, hs, if_true]
  exact ⟨hL, fun w hw => .inr ⟨f, vs, ho w, h w hw⟩⟩
theorem wpStageV_move {Q : σ → Act → Prop} {o : Oper} {rest : List Oper} {s : σ} {a : Act} (hL : L s) (hs : ch o = true) (hg : o.guard = none)
    (h : Oper.moves P o a C s (fun s' a' => (fin o = false → L s') ∧ wpStageV P ops C L ch fin Q rest s' a')) : wpStageV P ops C L ch fin Q (o :: rest) s a := by
  unfold wpStageV
  have hw : Region.wanted o (yielded ops a.tmps) = true := by simp [Region.wanted, hg]
  simp only [hw, hs, if_true]
  exact ⟨hL, h⟩
theorem wpStageV_nilCheck {Q : σ → Act → Prop} {o : Oper} {rest : List Oper} {s : σ} {a : Act} (x : Operand) (g : Addr) (ho : o.op = .nilCheck x) (hx : a.eval x = .pointer (some g)) (hL : L s) (hs : ch o = false) (hg : o.guard = none)
    (h : wpStageV P ops C L ch fin Q rest s (a.put o.dst (.pointer (some g)))) : wpStageV P ops C L ch fin Q (o :: rest) s a := by
  unfold wpStageV
  have hw : Region.wanted o (yielded ops a.tmps) = true := by simp [Region.wanted, hg]
  simp only [hw, hs, if_true, Bool.false_eq_true, if_false]
  refine ⟨hL, _, fun s' w' _ hw' => ?_, h⟩
  unfold Oper.quietAt execOp
  simp only [ho, hx]
  exact ⟨rfl, rfl⟩
end stage
section stores
variable {P : Program} {ops : Array Oper} {L : World → Prop} {ch fin : Oper → Bool}
theorem run_store1 {P : Program} {o : Oper} {ty : TypeId} {x y : Operand} (a : Act) (W : World) (ho : o.op = .store ty x y) (p : Addr) (hx : a.eval x = .pointer (some p)) (v : Value) (hy : a.eval y = v) (hv : v.cells = #[v]) (hone : v.oneCell' = true) {c0 : Value}
    (hc : W.cell? p = some c0) (hf : W.frozen? p = false) (hi : (P.info? ty).map (·.size) = some 1) : (execOp a.eval o).run P W = .ok .skip (W.setCell p v) := by
  unfold execOp
  simp only [ho, hx, hy, Instr.storeAt, Instr.sureAddr, Sem.run_bind, Sem.run_pure, Result.andThen_ok]
  have hs := run_store P W p v .plain hone
  rw [hc, hf] at hs
  simp only [Bool.false_eq_true, if_false] at hs
  cases hq : P.info? ty with
  | none => simp [hq] at hi
  | some i =>
    have hsz : i.size = 1 := by simpa [hq] using hi
    simp [storeVar, sizeOf, typeInfo, hq, hv, hsz, storeCells, hs, show p.add 0 = p from rfl]
theorem wpStageV_store1 {Q : World → Act → Prop} {o : Oper} {rest : List Oper} {s : World} {a : Act} (ty : TypeId) (x y : Operand) (ho : o.op = .store ty x y) (ad : Addr) (hx : a.eval x = .pointer (some ad)) (v : Value) (hy : a.eval y = v) {c0 : Value} (h1 : v.oneCell' = true) (hv : v.cells = #[v]) (hc : s.cell? ad = some c0) (hf : s.frozen? ad = false) (hty : (P.info? ty).map (·.size) = some 1)
    (hL : L s) (hs : ch o = true) (hg : o.guard = none) (hL2 : L (s.setCell ad v))
    (h : wpStageV P ops (fun s w => ∃ n, w = s.drewN n) L ch fin Q rest (s.setCell ad v) (a.put o.dst undef)) : wpStageV P ops (fun s w => ∃ n, w = s.drewN n) L ch fin Q (o :: rest) s a := by
  refine wpStageV_run hL hs hg ?_
  rintro _ ⟨n, rfl⟩
  refine ⟨undef, (s.drewN n).setCell ad v, s.setCell ad v, .inr ⟨?_, rfl⟩, ⟨n, rfl⟩, fun _ => hL2, h⟩
  exact run_store1 _ _ ho ad hx v hy hv h1 (c0 := c0) (by rw [World.cell?_drewN]; exact hc) (by rw [World.frozen?_drewN]; exact hf) hty
theorem wpStageV_storeRow {Q : World → Act → Prop} {o : Oper} {rest : List Oper} {s : World} {a : Act} (ty : TypeId) (x y : Operand) (ho : o.op = .store ty x y) (g : Nat) (cells : Array Value) (hx : a.eval x = .pointer (some ⟨g, 0, none⟩)) (hy : a.eval y = .agg cells) (t : TypeId) (old : Array Value) (hgr : s.heap[g]? = some (.cells old t (0, 0))) (hi : (P.info? ty).map (·.size) = some cells.size) (hold : old.size = cells.size) (h1 : cells.all (·.oneCell') = true)
    (hL : L s) (hs : ch o = true) (hg : o.guard = none) (hL2 : L (s.setRow g cells))
    (h : wpStageV P ops (fun s w => ∃ n, w = s.drewN n) L ch fin Q rest (s.setRow g cells) (a.put o.dst undef)) : wpStageV P ops (fun s w => ∃ n, w = s.drewN n) L ch fin Q (o :: rest) s a := by
  refine wpStageV_run hL hs hg ?_
  rintro _ ⟨n, rfl⟩
  refine ⟨undef, (s.drewN n).setRow g cells, s.setRow g cells, .inr ⟨?_, rfl⟩, ⟨n, rfl⟩, fun _ => hL2, h⟩
  unfold execOp
  simp only [ho, hx, hy, Instr.storeAt, Instr.sureAddr, Sem.run_bind, Sem.run_pure, Result.andThen_ok, run_storeVar_row (s.drewN n) g t ty old cells (by exact hgr) hi hold h1]
end stores
def upd (d : Nat → Bool) (i : Nat) : Nat → Bool := fun j => j == i || d j
theorem upd_self (d : Nat → Bool) (i : Nat) : upd d i i = true := by simp [upd]
theorem upd_ne (d : Nat → Bool) {i j : Nat} (h : j ≠ i) : upd d i j = d j := by simp [upd, h]
/-- Each operation waits for earlier ones alone. -/
def lexDeps (ls : List Oper) : Bool := (List.range ls.length).all fun i => match ls[i]? with | some o => o.after.all fun e => !Region.binds .any e || decide (e.on < i) | none => true
theorem lexDeps_spec {ls : List Oper} (h : lexDeps ls = true) {i : Nat} {o : Oper} (hi : ls[i]? = some o) (e : Edge) (he : e ∈ o.after) (hb : Region.binds .any e = true) : e.on < i := by
  have hl := (List.getElem?_eq_some_iff.1 hi).1
  have h1 := List.all_eq_true.1 h i (List.mem_range.2 hl)
  simp only [hi] at h1
  have h2 := Array.all_eq_true_iff_forall_mem.1 h1 e he
  simpa [hb] using h2

section inv
variable {P : Program} {ls : List Oper} {J : (Nat → Bool) → Act → World → Prop} {Q : Exit → Act → World → Prop}

theorem listed_upd {listed : Array Bool} {i : Nat} (hi : i < listed.size) : (fun j => (listed.setIfInBounds i true).getD j false) = upd (fun j => listed.getD j false) i := by
  funext j
  by_cases h : j = i
  · subst h
    rw [upd_self]
    simp [hi]
  · rw [upd_ne _ h, getD_set_ne false (Ne.symm h)]

def Closed (ls : List Oper) (d : Nat → Bool) : Prop := ∀ j o, ls[j]? = some o → d j = true → ∀ e ∈ o.after, Region.binds .any e = true → d e.on = true
theorem Closed.upd {d : Nat → Bool} {i : Nat} {o : Oper} (h : Closed ls d) (ho : ls[i]? = some o) (hd : ∀ e ∈ o.after, Region.binds .any e = true → d e.on = true) : Closed ls (upd d i) := by
  intro j oj hj hdj e he hb
  by_cases hji : j = i
  · subst hji
    rw [ho] at hj; cases hj
    unfold Go.Proofs.YtldbnfbfhbkclaaDoor.upd
    simp [hd e he hb]
  · rw [upd_ne d hji] at hdj
    unfold Go.Proofs.YtldbnfbfhbkclaaDoor.upd
    simp [h j oj hj hdj e he hb]

theorem ready_listed {listed : Array Bool} {i : Nat} (h : i ∈ Region.ready .any ls.toArray listed) (hs : listed.size = ls.length) : i < listed.size ∧ listed.getD i false = false ∧ ∃ o, ls[i]? = some o ∧ ∀ e ∈ o.after, Region.binds .any e = true → listed.getD e.on false = true := by
  obtain ⟨h1, o, ho, h2⟩ := mem_ready.1 h
  have hl : i < ls.length := by
    have := (Array.getElem?_eq_some_iff.1 ho).1
    simpa using this
  refine ⟨by omega, ?_, o, by simpa using ho, h2⟩
  have : i < listed.size := by omega
  simp [this] at h1 ⊢
  exact h1
theorem all_listed {listed : Array Bool} (hlex : lexDeps ls = true) (hs : listed.size = ls.length) (h : Region.ready .any ls.toArray listed = []) (j : Nat) (hj : j < ls.length) : listed.getD j false = true := by
  induction j using Nat.strongRecOn with
  | ind j ih =>
    cases hq : listed.getD j false with
    | true => rfl
    | false =>
      exfalso
      have hm : j ∈ Region.ready .any ls.toArray listed := by
        refine mem_ready.2 ⟨?_, ls[j], by simp [hj], fun e he hb => ih e.on ?_ ?_⟩
        · have : j < listed.size := by omega
          simp [this] at hq ⊢
          exact hq
        · exact lexDeps_spec hlex (List.getElem?_eq_getElem hj) e he hb
        · exact Nat.lt_trans (lexDeps_spec hlex (List.getElem?_eq_getElem hj) e he hb) hj
      rw [h] at hm
      cases hm

theorem count_upd (d : Nat → Bool) (i n : Nat) (hi : i < n) (h : d i = false) : (List.range n).countP d + 1 ≤ (List.range n).countP (upd d i) := by
  obtain ⟨A, B, hAB⟩ := List.append_of_mem (List.mem_range.2 hi)
  rw [hAB, List.countP_append, List.countP_append, List.countP_cons, List.countP_cons]
  have hA : A.countP d ≤ A.countP (upd d i) := List.countP_mono_left (fun x _ hx => by simp [upd, hx])
  have hB : B.countP d ≤ B.countP (upd d i) := List.countP_mono_left (fun x _ hx => by simp [upd, hx])
  rw [upd_self, h]
  simp only [if_true, Bool.false_eq_true, if_false]
  omega

theorem wpAny_inv (hlex : lexDeps ls = true)
    (hstep : ∀ d a w i o, ls[i]? = some o → d i = false → (∀ e ∈ o.after, Region.binds .any e = true → d e.on = true) → Closed ls d → J d a w →
      if Region.wanted o (yielded ls.toArray a.tmps) then o.wp P a w (J (upd d i)) Q else J (upd d i) (a.put o.dst undef) w)
    (hend : ∀ d a w, (∀ j, j < ls.length → d j = true) → J d a w → Q .normal a w) :
    ∀ (fuel : Nat) (listed : Array Bool) (a : Act) (w : World), listed.size = ls.length → Closed ls (fun j => listed.getD j false) → ls.length ≤ fuel + (List.range ls.length).countP (fun j => listed.getD j false) → J (fun j => listed.getD j false) a w →
      wpAny P .any ls.toArray Q fuel listed a w
  | 0, listed, a, w, hs, hc, hf, hJ => by
    have hall : ∀ j, j < ls.length → listed.getD j false = true := by
      intro j hj
      have h1 : (List.range ls.length).countP (fun j => listed.getD j false) = (List.range ls.length).length := by
        have := List.countP_le_length (p := fun j => listed.getD j false) (l := List.range ls.length)
        rw [List.length_range] at this ⊢
        omega
      exact List.countP_eq_length.1 h1 j (List.mem_range.2 hj)
    refine ⟨?_, hend _ a w hall hJ⟩
    rw [List.eq_nil_iff_forall_not_mem]
    intro i hi
    obtain ⟨h1, h2, _⟩ := ready_listed hi hs
    rw [hall i (by omega)] at h2
    cases h2
  | fuel + 1, listed, a, w, hs, hc, hf, hJ => by
    refine ⟨fun h0 => hend _ a w (all_listed hlex hs h0) hJ, fun i hi => ?_⟩
    obtain ⟨h1, h2, o, ho, h3⟩ := ready_listed hi hs
    have hst := hstep _ a w i o ho h2 h3 hc hJ
    have hil : i < ls.length := by omega
    have hnext : ∀ a' w', J (upd (fun j => listed.getD j false) i) a' w' → wpAny P .any ls.toArray Q fuel (listed.setIfInBounds i true) a' w' := by
      intro a' w' hJ'
      refine wpAny_inv hlex hstep hend fuel _ a' w' (by simp [hs]) ?_ ?_ (by rw [listed_upd h1]; exact hJ')
      · rw [listed_upd h1]; exact hc.upd ho h3
      · have hcnt : (List.range ls.length).countP (fun j => listed.getD j false) + 1 ≤ (List.range ls.length).countP (fun j => (listed.setIfInBounds i true).getD j false) := by
          rw [listed_upd h1]
          exact count_upd _ _ _ hil h2
        omega
    unfold wpOp
    simp only [show ls.toArray[i]? = some o from by simpa using ho]
    split
    · rename_i hw; rw [if_pos hw] at hst; exact .inl (Oper.wp_mono hnext hst)
    · rename_i hw; rw [if_neg hw] at hst; exact hnext _ _ hst

/-- **THE LAW.** -/
theorem wp_region_inv {id : Nat} {a : Act} {w : World} (hm : P.follows .mixedOrders = true) (hlex : lexDeps ls = true) (h0 : J (fun _ => false) a { w with drawn := w.drawn + 1 })
    (hstep : ∀ d a w i o, ls[i]? = some o → d i = false → (∀ e ∈ o.after, Region.binds .any e = true → d e.on = true) → Closed ls d → J d a w →
      if Region.wanted o (yielded ls.toArray a.tmps) then o.wp P a w (J (upd d i)) Q else J (upd d i) (a.put o.dst undef) w)
    (hend : ∀ d a w, (∀ j, j < ls.length → d j = true) → J d a w → Q .normal a w) : (Code.region id ls.toArray true).wp P Q a w := by
  have hd : ∀ n, (fun j => (Array.replicate n false).getD j false) = fun _ => false := by
    intro n; funext j; simp [Array.getElem?_replicate]; split <;> rfl
  refine wp_region_any hm (wpAny_inv hlex hstep hend _ _ _ _ (by simp) ?_ (by simp) ?_)
  · rw [hd]; intro j o _ h; cases h
  · rw [hd]; exact h0

/-- The same, the act at the start being spoken of by what F says of its slots. -/
theorem wp_region_inv_of {J' : Array Value → (Nat → Bool) → Act → World → Prop} (F : Array Value → Prop) {id : Nat} {a : Act} {w : World} (hm : P.follows .mixedOrders = true) (hlex : lexDeps ls = true) (hF : F a.tmps) (h0 : J' a.tmps (fun _ => false) a { w with drawn := w.drawn + 1 })
    (hstep : ∀ T, F T → ∀ d a w i o, ls[i]? = some o → d i = false → (∀ e ∈ o.after, Region.binds .any e = true → d e.on = true) → Closed ls d → J' T d a w →
      if Region.wanted o (yielded ls.toArray a.tmps) then o.wp P a w (J' T (upd d i)) Q else J' T (upd d i) (a.put o.dst undef) w)
    (hend : ∀ d a' w', (∀ j, j < ls.length → d j = true) → J' a.tmps d a' w' → Q .normal a' w') : (Code.region id ls.toArray true).wp P Q a w :=
  wp_region_inv (J := J' a.tmps) hm hlex h0 (hstep a.tmps hF) hend
theorem if_wanted {o : Oper} {ys : Nat → Option Bool} {A B : Prop} (hg : o.guard = none) (h : A) : if Region.wanted o ys then A else B := by
  simp only [Region.wanted, hg, if_true]; exact h

theorem wp_of_run {o : Oper} {a : Act} {w : World} {K : Act → World → Prop} (v : Value) (w' : World) (hr : (execOp a.eval o).run P w = .ok (.value v) w') (h : K (a.put o.dst v) w') : o.wp P a w K Q := by
  unfold Oper.wp; rw [hr]; exact h
theorem wp_of_skip {o : Oper} {a : Act} {w : World} {K : Act → World → Prop} (w' : World) (hr : (execOp a.eval o).run P w = .ok .skip w') (h : K (a.put o.dst undef) w') : o.wp P a w K Q := by
  unfold Oper.wp; rw [hr]; exact h
theorem wp_of_enter {o : Oper} {a : Act} {w : World} {K : Act → World → Prop} (f : FuncId) (vs : Array Value) (hr : (execOp a.eval o).run P w = .ok (.enter f vs) w) (h : Calls P f vs w fun e w' => ∃ v, e = .returned v ∧ K (a.put o.dst v) w') : o.wp P a w K Q := by
  unfold Oper.wp; rw [hr]
  refine h.mono ?_
  rintro e w' ⟨v, rfl, hk⟩
  exact hk
end inv
end Go.Proofs.YtldbnfbfhbkclaaDoor
