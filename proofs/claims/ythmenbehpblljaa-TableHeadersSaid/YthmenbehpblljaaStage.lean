/-
  A region that draws its order and that STORES: the stores are chained, all else reads: one walk of the lexical order serves every order.
  A family of classes of worlds, C m: the worlds behind m stores. No operation but a store may move a world; each reads the same in every class.
-/
import Derived.Test.YthmenbehpblljaaTabM
namespace Go.Proofs.Ythmenbehpblljaa
open Go.RowKit Go.Shelf

def Oper.stores (o : Oper) : Bool := match o.op with | .store _ _ _ => true | _ => false

section stage
variable {P : Program} {ops : Array Oper} {md : Region.Mode} {C : Nat → World → Prop} {l n : Nat}

def Oper.turns (P : Program) (o : Oper) (a : Act) (C C' : World → Prop) : Prop := ∀ w, C w → ∃ w', (execOp a.eval o).run P w = .ok .skip w' ∧ C' w'
def Oper.lies (P : Program) (o : Oper) (a : Act) (C : Nat → World → Prop) (v : Value) : Prop := ∀ m w, C m w → o.quietAt P a (C m) w v

/-- Operation number 'i' comes up behind m stores. -/
def sOp (P : Program) (ops : Array Oper) (C : Nat → World → Prop) (i : Nat) (K : Nat → Act → Prop) (m : Nat) (a : Act) : Prop :=
  match ops[i]? with
  | none => K m a
  | some o => if Region.wanted o (yielded ops a.tmps) then (if Oper.stores o = true then Oper.turns P o a (C m) (C (m + 1)) ∧ K (m + 1) (a.put o.dst undef) else ∃ v, Oper.lies P o a C v ∧ K m (a.put o.dst v)) else K m (a.put o.dst undef)

def wpStage (P : Program) (ops : Array Oper) (C : Nat → World → Prop) (Q : Nat → Act → Prop) : List Oper → Nat → Act → Prop
  | [], m, a => Q m a
  | o :: rest, m, a => if Region.wanted o (yielded ops a.tmps) then (if Oper.stores o = true then Oper.turns P o a (C m) (C (m + 1)) ∧ wpStage P ops C Q rest (m + 1) (a.put o.dst undef) else ∃ v, Oper.lies P o a C v ∧ wpStage P ops C Q rest m (a.put o.dst v)) else wpStage P ops C Q rest m (a.put o.dst undef)

theorem sOp_mono {i : Nat} {m : Nat} {a : Act} {K K' : Nat → Act → Prop} (h : ∀ m a, K m a → K' m a) (hh : sOp P ops C i K m a) : sOp P ops C i K' m a := by
  unfold sOp at *
  split
  · exact h _ _ (by simpa [*] using hh)
  · rename_i o ho
    simp only [ho] at hh
    split
    · rename_i hw
      simp only [hw, if_true] at hh
      split
      · rename_i hs; simp only [hs, if_true] at hh; exact ⟨hh.1, h _ _ hh.2⟩
      · rename_i hs; simp only [hs] at hh; obtain ⟨v, h1, h2⟩ := hh; exact ⟨v, h1, h _ _ h2⟩
    · rename_i hw; simp only [hw] at hh; exact h _ _ hh

def wpAnyT (P : Program) (md : Region.Mode) (ops : Array Oper) (C : Nat → World → Prop) (Q : Nat → Act → Prop) : Nat → Array Bool → Nat → Act → Prop
  | 0, listed, m, a => Region.ready md ops listed = [] ∧ Q m a
  | fuel + 1, listed, m, a =>
    (Region.ready md ops listed = [] → Q m a) ∧
    ∀ i ∈ Region.ready md ops listed, sOp P ops C i (wpAnyT P md ops C Q fuel (listed.setIfInBounds i true)) m a

/-- Operation 'o' behind m stores: its value, and how many stores it makes. -/
def YieldsT (P : Program) (ops : Array Oper) (C : Nat → World → Prop) (o : Oper) (v : Value) (d m : Nat) (a : Act) : Prop :=
  (Region.wanted o (yielded ops a.tmps) = true ∧ Oper.stores o = true ∧ d = 1 ∧ v = undef ∧ Oper.turns P o a (C m) (C (m + 1))) ∨
  (Region.wanted o (yielded ops a.tmps) = true ∧ Oper.stores o = false ∧ d = 0 ∧ Oper.lies P o a C v) ∨
  (Region.wanted o (yielded ops a.tmps) = false ∧ d = 0 ∧ v = undef)

theorem YieldsT.sOp {i : Nat} {o : Oper} {v : Value} {d m : Nat} {a : Act} (hi : ops[i]? = some o) (hy : YieldsT P ops C o v d m a) {K : Nat → Act → Prop} (h : K (m + d) (a.put o.dst v)) : sOp P ops C i K m a := by
  unfold Go.Proofs.Ythmenbehpblljaa.sOp
  simp only [hi]
  rcases hy with ⟨hw, hs, rfl, rfl, ht⟩ | ⟨hw, hs, rfl, hl⟩ | ⟨hw, rfl, rfl⟩
  · simp only [hw, hs, if_true]; exact ⟨ht, h⟩
  · simp only [hw, hs, if_true, Bool.false_eq_true, if_false]; exact ⟨v, hl, h⟩
  · simp only [hw, Bool.false_eq_true, if_false]; exact h

theorem yieldsT_of_sOp {i : Nat} {o : Oper} {m : Nat} {a : Act} {K : Nat → Act → Prop} (hi : ops[i]? = some o) (h : sOp P ops C i K m a) : ∃ v d, YieldsT P ops C o v d m a ∧ K (m + d) (a.put o.dst v) := by
  unfold Go.Proofs.Ythmenbehpblljaa.sOp at h
  simp only [hi] at h
  by_cases hw : Region.wanted o (yielded ops a.tmps) = true
  · simp only [hw, if_true] at h
    by_cases hs : Oper.stores o = true
    · simp only [hs, if_true] at h
      exact ⟨undef, 1, .inl ⟨hw, hs, rfl, rfl, h.1⟩, h.2⟩
    · simp only [hs] at h
      obtain ⟨v, h1, h2⟩ := h
      exact ⟨v, 0, .inr (.inl ⟨hw, by simpa using hs, rfl, h1⟩), h2⟩
  · simp only [hw] at h
    exact ⟨undef, 0, .inr (.inr ⟨by simpa using hw, rfl, rfl⟩), h⟩

theorem turns_put {o : Oper} (hs : ∀ cs b, o.op ≠ .select cs b) {a : Act} {dst : Option Tmp} {v : Value} (h : ∀ d, dst = some d → d ∉ o.looksAt ops) {A B : World → Prop} : Oper.turns P o (a.put dst v) A B ↔ Oper.turns P o a A B := by
  unfold Oper.turns
  rw [execOp_put o hs a dst v h]
theorem lies_put {o : Oper} (hs : ∀ cs b, o.op ≠ .select cs b) {a : Act} {dst : Option Tmp} {v u : Value} (h : ∀ d, dst = some d → d ∉ o.looksAt ops) : Oper.lies P o (a.put dst v) C u ↔ Oper.lies P o a C u := by
  unfold Oper.lies Oper.quietAt
  rw [execOp_put o hs a dst v h]

theorem sOp_put {j : Nat} {oi oj : Oper} {v : Value} {d m : Nat} (hj : ops[j]? = some oj) (hap : oi.apart ops oj = true) (hst : Oper.stores oi = true → Oper.stores oj = true → False)
    (hsi : ∀ cs b, oi.op ≠ .select cs b) (hsj : ∀ cs b, oj.op ≠ .select cs b) {K : Nat → Act → Prop} {a : Act}
    (hy : YieldsT P ops C oi v d m a) (h : sOp P ops C j K (m + d) (a.put oi.dst v)) :
    sOp P ops C j (fun m' a' => YieldsT P ops C oi v d m' a' ∧ K (m' + d) (a'.put oi.dst v)) m a := by
  obtain ⟨h1, h2, h3⟩ := Oper.apart_spec hap
  have keep : ∀ (a : Act) (m : Nat), YieldsT P ops C oi v d m a → ∀ u, YieldsT P ops C oi v d m (a.put oj.dst u) := fun a m hy u => by
    unfold YieldsT at *
    rw [wanted_put oi a oj.dst u h3, turns_put (ops := ops) hsi h3, lies_put (ops := ops) hsi h3]
    exact hy
  unfold Go.Proofs.Ythmenbehpblljaa.sOp at *
  simp only [hj] at *
  rw [wanted_put oj a oi.dst v h1] at h
  split
  · rename_i hw
    simp only [hw, if_true] at h
    split
    · rename_i hs
      simp only [hs, if_true] at h
      rw [turns_put (ops := ops) hsj h1] at h
      have hd : d = 0 := by
        rcases hy with ⟨_, hso, _⟩ | ⟨_, _, hd, _⟩ | ⟨_, hd, _⟩
        · exact (hst hso hs).elim
        · exact hd
        · exact hd
      subst hd
      refine ⟨h.1, keep a _ ?_ _, by rw [← Act.put_comm a v undef h2]; exact h.2⟩
      rcases hy with ⟨_, _, hd, _⟩ | hy | hy
      · cases hd
      · exact .inr (.inl hy)
      · exact .inr (.inr hy)
    · rename_i hs
      simp only [hs] at h
      obtain ⟨u, hu, hn⟩ := h
      rw [lies_put (ops := ops) hsj h1] at hu
      exact ⟨u, hu, keep a _ hy u, by rw [← Act.put_comm a v u h2]; exact hn⟩
  · rename_i hw
    simp only [hw] at h
    exact ⟨keep a _ hy _, by rw [← Act.put_comm a v undef h2]; exact h⟩

theorem wpAnyT_first {Q : Nat → Act → Prop} {i : Nat} {oi : Oper} {v : Value} {d : Nat} (hi : ops[i]? = some oi) (hsel : ∀ (j : Nat) (o : Oper) cs b, ops[j]? = some o → o.op ≠ .select cs b) :
    ∀ (fuel : Nat) (listed : Array Bool) (m : Nat) (a : Act),
      (∀ j oj, ops[j]? = some oj → j ≠ i → listed.getD j true = false → (∀ e ∈ oj.after, Region.binds md e = true → e.on ≠ i) → oi.apart ops oj = true ∧ (Oper.stores oi = true → Oper.stores oj = true → False)) →
      i ∈ Region.ready md ops listed → YieldsT P ops C oi v d m a →
      wpAnyT P md ops C Q fuel (listed.setIfInBounds i true) (m + d) (a.put oi.dst v) → wpAnyT P md ops C Q (fuel + 1) listed m a := by
  intro fuel
  induction fuel with
  | zero =>
    intro listed m a _ hr hy H
    refine ⟨fun h => (by rw [h] at hr; cases hr), fun j hj => ?_⟩
    by_cases hji : j = i
    · subst hji; exact hy.sOp hi H
    · have := ready_mono hj hji
      rw [H.1] at this
      cases this
  | succ fuel ih =>
    intro listed m a hfree hr hy H
    refine ⟨fun h => (by rw [h] at hr; cases hr), fun j hj => ?_⟩
    by_cases hji : j = i
    · subst hji; exact hy.sOp hi H
    · have h1 := H.2 j (ready_mono hj hji)
      obtain ⟨hjun, oj, hoj, hall⟩ := mem_ready.1 hj
      have hnot : ∀ e ∈ oj.after, Region.binds md e = true → e.on ≠ i := fun e he hb heq => by
        have h1 := hall e he hb
        have h0 := (mem_ready.1 hr).1
        rw [heq] at h1
        rcases Nat.lt_or_ge i listed.size with h' | h'
        · simp [h'] at h0 h1; rw [h0] at h1; cases h1
        · simp [Array.getElem?_eq_none h'] at h1
      obtain ⟨hap, hst⟩ := hfree j oj hoj hji hjun hnot
      have h2 := sOp_put hoj hap hst (fun cs b => hsel i oi cs b hi) (fun cs b => hsel j oj cs b hoj) hy h1
      have hfree' : ∀ k ok, ops[k]? = some ok → k ≠ i → (listed.setIfInBounds j true).getD k true = false →
          (∀ e ∈ ok.after, Region.binds md e = true → e.on ≠ i) → oi.apart ops ok = true ∧ (Oper.stores oi = true → Oper.stores ok = true → False) := fun k ok hk hki hun hno => by
        refine hfree k ok hk hki ?_ hno
        by_cases hjk : j = k
        · subst hjk; exact hjun
        · rw [getD_set_ne true hjk] at hun; exact hun
      refine sOp_mono (fun m' a' h3 => ih (listed.setIfInBounds j true) m' a' hfree' (ready_mono hr (Ne.symm hji)) h3.1 ?_) h2
      rw [Array.setIfInBounds_comm _ _ hji]
      exact h3.2

/-- The stores wait for one another. -/
def chained (md : Region.Mode) (ops : Array Oper) (listed : Array Bool) (i : Nat) : Bool :=
  match ops[i]? with
  | none => true
  | some oi => !Oper.stores oi || (List.range ops.size).all fun j => j == i || listed.getD j true || match ops[j]? with
      | some oj => oj.after.any (fun e => Region.binds md e && e.on == i) || !Oper.stores oj
      | none => true
theorem chained_spec {i : Nat} {oi : Oper} {listed : Array Bool} (hi : ops[i]? = some oi) (h : chained md ops listed i = true) (j : Nat) (oj : Oper)
    (hj : ops[j]? = some oj) (hne : j ≠ i) (hun : listed.getD j true = false) (hno : ∀ e ∈ oj.after, Region.binds md e = true → e.on ≠ i) :
    Oper.stores oi = true → Oper.stores oj = true → False := by
  intro hs1 hs2
  simp only [chained, hi, hs1, Bool.not_true, Bool.false_or, List.all_eq_true, List.mem_range] at h
  have h1 := h j (Array.getElem?_eq_some_iff.1 hj).1
  simp only [hj, hs2, Bool.not_true, Bool.or_false, Bool.or_eq_true, beq_iff_eq, hne, false_or, hun, Bool.false_eq_true] at h1
  obtain ⟨e, he, hb⟩ := Array.any_eq_true'.1 h1
  simp only [Bool.and_eq_true, beq_iff_eq] at hb
  exact absurd hb.2 (hno e he hb.1)

def lexFromT (md : Region.Mode) (ops : Array Oper) : Nat → Nat → Array Bool → Bool
  | 0, _, listed => (Region.ready md ops listed).isEmpty
  | fuel + 1, k, listed => (Region.ready md ops listed).contains k && Region.free md ops listed k && chained md ops listed k && lexFromT md ops fuel (k + 1) (listed.setIfInBounds k true)
def lexT (md : Region.Mode) (ops : Array Oper) : Bool := Region.noSelect ops && lexFromT md ops ops.size 0 (Array.replicate ops.size false)

theorem wpAnyT_lex {Q : Nat → Act → Prop} (hs : Region.noSelect ops = true) : ∀ (l : List Oper) (k : Nat) (listed : Array Bool) (m : Nat) (a : Act), (∀ j, l[j]? = ops[k + j]?) →
    lexFromT md ops l.length k listed = true → wpStage P ops C Q l m a → wpAnyT P md ops C Q l.length listed m a
  | [], _, _, _, _, _, hB, h => ⟨by simpa [lexFromT] using hB, h⟩
  | o :: l, k, listed, m, a, hl, hB, h => by
    have h0 : ops[k]? = some o := by simpa using (hl 0).symm
    simp only [List.length_cons, lexFromT, Bool.and_eq_true] at hB
    obtain ⟨⟨⟨hr, hf⟩, hch⟩, hB'⟩ := hB
    have hst : sOp P ops C k (wpStage P ops C Q l) m a := by unfold sOp; simp only [h0]; exact h
    obtain ⟨v, d, hy, hK⟩ := yieldsT_of_sOp h0 hst
    exact wpAnyT_first h0 (Region.noSelect_spec hs) l.length listed m a (fun j oj h1 h2 h3 h4 => ⟨Region.free_spec h0 hf j oj h1 h2 h3 h4, chained_spec h0 hch j oj h1 h2 h3 h4⟩) (by simpa using hr) hy
      (wpAnyT_lex hs l (k + 1) _ _ _ (fun j => by have := hl (j + 1); simpa [Nat.add_assoc, Nat.add_comm 1 j] using this) hB' hK)

theorem wpOpIn_of_sOp_round {i m : Nat} {a : Act} {K : Nat → Act → Prop} {K' : Act → World → Prop} {Q' : Exit → Act → World → Prop} {w : World} (hd : ∀ (j : Nat) (o : Oper) c, ops[j]? = some o → o.op ≠ .defer c) (hC : C m w) (h : ∀ m a w', C m w' → K m a → K' a w')
    (hh : sOp P ops C i K m a) : wpOpIn (Fence.wide.inRound l) n P ops Q' i K' a w := by
  unfold sOp at hh
  unfold wpOpIn
  split
  · rename_i ho; simp only [ho] at hh; exact h _ _ _ hC hh
  · rename_i o ho
    simp only [ho] at hh
    split
    · rename_i hw
      simp only [hw, if_true] at hh
      by_cases hs : Oper.stores o = true
      · simp only [hs, if_true] at hh
        obtain ⟨w', h1, h2⟩ := hh.1 w hC
        unfold Oper.wpIn
        refine ⟨fun _ _ => trivial, ?_⟩
        rw [Oper.semAt_plain _ _ _ (fun c => hd i o c ho), h1]
        exact h _ _ _ h2 hh.2
      · simp only [hs] at hh
        obtain ⟨v, h1, h2⟩ := hh
        exact wpIn_of_quiet_round (C := C m) (K := fun a => K m a) (fun c => hd i o c ho) hC (fun a w' hw' hk => h m a w' hw' hk) ⟨v, fun w hw => h1 m w hw, h2⟩
    · rename_i hw; simp only [hw] at hh; exact ⟨fun _ _ => trivial, h _ _ _ hC hh⟩

theorem wpAnyIn_of_stage_round {Q : Nat → Act → Prop} {Q' : Exit → Act → World → Prop} (hd : ∀ (j : Nat) (o : Oper) c, ops[j]? = some o → o.op ≠ .defer c) (hQ : ∀ m a w, C m w → Q m a → Q' .normal a w) : ∀ (fuel : Nat) (listed : Array Bool) (m : Nat) (a : Act) (w : World), C m w →
    wpAnyT P md ops C Q fuel listed m a → wpAnyIn (Fence.wide.inRound l) n P md ops Q' fuel listed a w
  | 0, _, _, _, _, hw, h => ⟨h.1, hQ _ _ _ hw h.2⟩
  | fuel + 1, _, _, _, _, hw, h => ⟨fun h0 => hQ _ _ _ hw (h.1 h0), fun i hi => wpOpIn_of_sOp_round hd hw (fun m' a' w' hw' => wpAnyIn_of_stage_round hd hQ fuel _ m' a' w' hw') (h.2 i hi)⟩

theorem wpIn_region_stage_round {id : Nat} {Q : Exit → Act → World → Prop} {a : Act} {w : World} {ls : List Oper} (hm : P.follows .mixedOrders = true) (hB : lexT .any ls.toArray = true) (hnd : ls.toArray.all Oper.noDefer = true) (hC : C 0 { w with drawn := w.drawn + 1 })
    (h : wpStage P ls.toArray C (fun m a' => ∀ w', C m w' → Q .normal a' w') ls 0 a) : (Code.region id ls.toArray true).wpIn (Fence.wide.inRound l) n P Q a w := by
  simp only [lexT, Bool.and_eq_true] at hB
  have hd : ∀ (j : Nat) (o : Oper) c, ls.toArray[j]? = some o → o.op ≠ .defer c := by
    intro j o c hj he
    have hmem : o ∈ ls.toArray := Array.mem_of_getElem? hj
    have := Array.all_eq_true_iff_forall_mem.1 hnd o hmem
    simp [Oper.noDefer, he] at this
  refine wpIn_region_any hm (wpAnyIn_of_stage_round (Q := fun m a' => ∀ w', C m w' → Q .normal a' w') hd (fun _ _ w' hw' h => h w' hw') _ _ _ _ _ hC ?_)
  have := wpAnyT_lex (P := P) (C := C) (md := .any) (Q := fun m a' => ∀ w', C m w' → Q .normal a' w') hB.1 ls 0 (Array.replicate ls.length false) 0 a (by simp) (by simpa using hB.2) h
  simpa using this

/-- One operation of the walk that is no store and no call: by the kit's quiet step at the union of the classes. -/
def Oper.reads (o : Oper) : Bool := match o.op with | .move _ | .assign _ | .load _ _ | .fieldAddr _ _ _ | .indexAddr _ _ _ | .binOp _ _ _ _ _ | .unOp _ _ _ | .convert _ _ _ | .field _ _ _ | .index _ _ _ | .build _ _ => true | _ => false
theorem value_enters_not (s : Sem Value) {w w' : World} {f : FuncId} {args : Array Value} : (do let x ← s; pure (Next.value x) : Sem Next).run P w ≠ .ok (.enter f args) w' := by
  rw [Sem.run_bind]
  cases s.run P w with
  | ok x w2 => intro h; simp [Result.andThen, Sem.run_pure] at h
  | halt x w2 => intro h; simp [Result.andThen] at h
theorem reads_enters_not {o : Oper} (h : Oper.reads o = true) (a : Act) (w : World) (f : FuncId) (args : Array Value) (w' : World) : (execOp a.eval o).run P w ≠ .ok (.enter f args) w' := by
  unfold execOp
  cases ho : o.op <;> simp only [Oper.reads, ho] at h ⊢ <;> first | exact absurd h (by decide) | exact value_enters_not _ | (rw [Sem.run_pure]; intro h2; cases h2)
theorem quietUpon_class {C C' : World → Prop} {w : World} {v : Value} {r : Result Next} (h : ∀ f args w', r ≠ .ok (.enter f args) w') (hh : Oper.quietUpon P C w v r) : Oper.quietUpon P C' w v r := by
  cases r with
  | ok x w' =>
    cases x <;> simp only [Oper.quietUpon] at hh ⊢ <;> first | exact hh | exact absurd rfl (h _ _ _)
  | halt x w' => simp only [Oper.quietUpon] at hh
theorem wpStage_step {Q : Nat → Act → Prop} {o : Oper} {rest : List Oper} {m : Nat} {a : Act} (hs : Oper.stores o = false) (hc : Oper.reads o = true)
    (h : wpQuiet P ops (fun w => ∃ m, C m w) (wpStage P ops C Q rest m) [o] a) : wpStage P ops C Q (o :: rest) m a := by
  unfold wpStage
  unfold wpQuiet wpQuiet at h
  split
  · rename_i hw
    simp only [hw, if_true] at h
    obtain ⟨v, h1, h2⟩ := h
    simp only [hs, Bool.false_eq_true, if_false]
    exact ⟨v, fun m' w hw' => quietUpon_class (reads_enters_not hc a w) (h1 w ⟨m', hw'⟩), h2⟩
  · rename_i hw
    simp only [hw] at h
    exact h
theorem wpStage_store {Q : Nat → Act → Prop} {o : Oper} {rest : List Oper} {m : Nat} {a : Act} (hs : Oper.stores o = true) (hg : o.guard = none) (hd : o.dst = none)
    (ht : Oper.turns P o a (C m) (C (m + 1))) (h : wpStage P ops C Q rest (m + 1) a) : wpStage P ops C Q (o :: rest) m a := by
  unfold wpStage
  have hw : Region.wanted o (yielded ops a.tmps) = true := by simp [Region.wanted, hg]
  simp only [hw, hs, if_true]
  rw [hd]
  exact ⟨ht, h⟩
theorem wpStage_nil {Q : Nat → Act → Prop} {m : Nat} {a : Act} (h : Q m a) : wpStage P ops C Q [] m a := h
end stage

section laws
variable {F : Fence} {n : Nat} {P : Program}
/-- A whole struct into its row, inside a fence. -/
theorem wpListIn_store_row {ops : Array Oper} {rest : List Oper} {o : Oper} {a : Act} {w : World} {Q : Exit → Act → World → Prop} (hgd : o.guard = none) (ty : TypeId) (x y : Operand) (ho : o.op = .store ty x y)
    (g : Nat) (cells : Array Value) (hx : a.eval x = .pointer (some ⟨g, 0, none⟩)) (hy : a.eval y = .agg cells) (t : TypeId) (old : Array Value) (hg : w.heap[g]? = some (.cells old t (0, 0)))
    (hi : (P.info? ty).map (·.size) = some cells.size) (hold : old.size = cells.size) (h1 : cells.all (·.oneCell') = true)
    (h : wpListIn F n P ops Q rest (a.put o.dst undef) (w.setRow g cells)) : wpListIn F n P ops Q (o :: rest) a w := by
  refine wpListIn_plain hgd fun K hK' => ?_
  unfold Oper.wpIn
  refine ⟨?_, ?_⟩
  · simp [Oper.about, ho]
  · rw [Oper.semAt_plain F _ _ (by rw [ho]; intro c hc'; cases hc')]
    unfold execOp
    simp only [ho, hx, hy, Instr.storeAt, Instr.sureAddr, Sem.run_bind, Sem.run_pure, Result.andThen_ok, run_storeVar_row w g t ty old cells hg hi hold h1]
    exact hK' _ _ h
end laws

theorem drewN_setCell (w : World) (n : Nat) (p : Addr) (v : Value) : (w.drewN n).setCell p v = (w.setCell p v).drewN n := rfl
/-- A whole number laid into its cell, in a world behind some draws. -/
theorem turns_store_int {P : Program} {o : Oper} {a : Act} {ty : TypeId} {x y : Operand} (ho : o.op = .store ty x y) (p : Addr) (hx : a.eval x = .pointer (some p)) (k : IntKind) (z : Int) (hy : a.eval y = .int k z) {W W' : World} {c0 : Value}
    (hc : W.cell? p = some c0) (hf : W.frozen? p = false) (hi : (P.info? ty).map (·.size) = some 1) (hW : W' = W.setCell p (.int k z)) : Oper.turns P o a (fun w => ∃ n, w = W.drewN n) (fun w => ∃ n, w = W'.drewN n) := by
  rintro w ⟨n, rfl⟩
  refine ⟨W'.drewN n, ?_, n, rfl⟩
  subst hW
  unfold execOp
  simp only [ho, hx, hy, Instr.storeAt, Instr.sureAddr, Sem.run_bind, Sem.run_pure, Result.andThen_ok]
  have hs := run_store P (W.drewN n) p (.int k z) .plain rfl
  rw [World.cell?_drewN, hc, World.frozen?_drewN, hf] at hs
  simp only [Bool.false_eq_true, if_false] at hs
  cases hq : P.info? ty with
  | none => simp [hq] at hi
  | some i =>
    have hsz : i.size = 1 := by simpa [hq] using hi
    simp [storeVar, sizeOf, typeInfo, hq, Value.cells, hsz, storeCells, hs, drewN_setCell, show p.add 0 = p from rfl]
end Go.Proofs.Ythmenbehpblljaa
