/-
  The layout in plain mathematics: what the loop over the sections makes of a table's cells; laws of a round.
-/
import Derived.Test.YthmenbehpblljaaTabA
namespace Go.Proofs.Ythmenbehpblljaa
open Go.RowKit Go.Shelf

theorem snoc_induct {α : Type} {P : List α → Prop} (h0 : P []) (h1 : ∀ l x, P l → P (l ++ [x])) (l : List α) : P l := by
  have h : ∀ m : List α, P m.reverse := by
    intro m
    induction m with
    | nil => exact h0
    | cons x m ih => rw [List.reverse_cons]; exact h1 _ _ ih
  have := h l.reverse
  rwa [List.reverse_reverse] at this

/-- The state behind some rounds: the next offset, and the table's cells. -/
def stStep (c : Nat → Nat) (a : Nat × Array Value) (x : Sec) : Nat × Array Value :=
  (alignUp (a.1 + c x.1 * secSize x.1), (a.2.setIfInBounds (2 + x.1) (.int .i64 (a.1 : Int))).setIfInBounds (9 + x.1) (.int .i64 (c x.1 : Int)))
def stOf (c : Nat → Nat) (cs0 : Array Value) (pre : List Sec) : Nat × Array Value := pre.foldl (stStep c) (80, cs0)
theorem stOf_snoc (c : Nat → Nat) (cs0 : Array Value) (pre : List Sec) (x : Sec) : stOf c cs0 (pre ++ [x]) = stStep c (stOf c cs0 pre) x := by simp [stOf]
theorem stOf_size (c : Nat → Nat) (cs0 : Array Value) (pre : List Sec) : (stOf c cs0 pre).2.size = cs0.size := by
  refine snoc_induct (P := fun pre => (stOf c cs0 pre).2.size = cs0.size) rfl (fun pre x ih => ?_) pre
  rw [stOf_snoc]; simp [stStep, ih]
theorem alignUp_le (n : Nat) : alignUp n ≤ n + 15 ∧ n ≤ alignUp n := by unfold alignUp; omega
theorem stOf_le (c : Nat → Nat) (cs0 : Array Value) (hc : ∀ s, c s ≤ 1024) (pre : List Sec) : (stOf c cs0 pre).1 ≤ 80 + pre.length * 57359 := by
  refine snoc_induct (P := fun pre => (stOf c cs0 pre).1 ≤ 80 + pre.length * 57359) (by simp [stOf]) (fun pre x ih => ?_) pre
  rw [stOf_snoc, List.length_append, List.length_singleton]
  have h1 := alignUp_le ((stOf c cs0 pre).1 + c x.1 * secSize x.1)
  have h2 : c x.1 * secSize x.1 ≤ 1024 * 56 := Nat.mul_le_mul (hc _) (secSize_le _)
  simp only [stStep]
  omega

/-- The offset behind the sections up to k. -/
def nextOf (c : Nat → Nat) : Nat → Nat
  | 0 => 80
  | k + 1 => alignUp (nextOf c k + c (k + 1) * secSize (k + 1))
/-- The cells of the layout. -/
def tabCells (c : Nat → Nat) (frame : Int) : Array Value :=
  #[.int .u64 frame, .int .i64 ((nextOf c 6 + 4 : Nat) : Int), .int .i64 0, .int .i64 (nextOf c 0 : Int), .int .i64 (nextOf c 1 : Int), .int .i64 (nextOf c 2 : Int), .int .i64 (nextOf c 3 : Int), .int .i64 (nextOf c 4 : Int), .int .i64 (nextOf c 5 : Int),
    .int .i64 0, .int .i64 (c 1 : Int), .int .i64 (c 2 : Int), .int .i64 (c 3 : Int), .int .i64 (c 4 : Int), .int .i64 (c 5 : Int), .int .i64 (c 6 : Int)]
def zeroTab (frame : Int) : Array Value :=
  #[.int .u64 frame, .int .i64 0, .int .i64 0, .int .i64 0, .int .i64 0, .int .i64 0, .int .i64 0, .int .i64 0, .int .i64 0, .int .i64 0, .int .i64 0, .int .i64 0, .int .i64 0, .int .i64 0, .int .i64 0, .int .i64 0]
theorem secUpto6 : secUpto 6 = [⟨1, by omega, by omega⟩, ⟨2, by omega, by omega⟩, ⟨3, by omega, by omega⟩, ⟨4, by omega, by omega⟩, ⟨5, by omega, by omega⟩, ⟨6, by omega, by omega⟩] := by decide
theorem stOf_all (c : Nat → Nat) (frame : Int) : (stOf c (zeroTab frame) (secUpto 6)).1 = nextOf c 6 ∧ (stOf c (zeroTab frame) (secUpto 6)).2.setIfInBounds 1 (.int .i64 ((nextOf c 6 + 4 : Nat) : Int)) = tabCells c frame := by
  rw [secUpto6]
  constructor
  · rfl
  · simp only [stOf, List.foldl, stStep, zeroTab, tabCells, nextOf]
    simp
theorem nextOf_le (c : Nat → Nat) (hc : ∀ s, c s ≤ 1024) (k : Nat) : nextOf c k ≤ 80 + k * 57359 := by
  induction k with
  | zero => simp [nextOf]
  | succ k ih =>
    have h1 := alignUp_le (nextOf c k + c (k + 1) * secSize (k + 1))
    have h2 : c (k + 1) * secSize (k + 1) ≤ 1024 * 56 := Nat.mul_le_mul (hc _) (secSize_le _)
    simp only [nextOf]
    omega

theorem keepsOthers_below {W W' : World} (h : Below W.heap.size W W') : KeepsOthers W W' :=
  ⟨h.size, fun k _ hk _ => (h.block k (Array.getElem?_eq_some_iff.1 hk).1).trans hk⟩
theorem alloc_at {w : World} {o : Obj} {k : Nat} (h : k = w.heap.size) : (w.alloc o).heap[k]? = some o := by subst h; exact heap_alloc_new w o
/-- A row of cells stays where a block that is no cells is turned. -/
theorem row_kept {A B : World} {row : Option Nat} {k : Nat} {cs : Array Value} {t : TypeId} {fr : Nat × Nat} (h : A.heap[k]? = some (.cells cs t fr)) (hg : A.grownBy B row) (hr : ∀ r, row = some r → ∃ o : Obj, A.heap[r]? = some o ∧ o.isCells = false) : B.heap[k]? = some (.cells cs t fr) := by
  rw [hg.block k (lt_of_block h) (fun e => by obtain ⟨o, ho, hc⟩ := hr k e.symm; rw [h] at ho; cases ho; simp [Obj.isCells] at hc)]
  exact h

section laws
variable {F : Fence} {n : Nat} {P : Program}
/-- A whole struct out of its row, inside a fence. -/
theorem wpListIn_load_row {ops : Array Oper} {rest : List Oper} {o : Oper} {a : Act} {w : World} {Q : Exit → Act → World → Prop} (hgd : o.guard = none) (ty : TypeId) (x : Operand) (ho : o.op = .load ty x)
    (g : Nat) (hx : a.eval x = .pointer (some ⟨g, 0, none⟩)) (t : TypeId) (cs : Array Value) (fr : Nat × Nat) (d : TypeDesc) (hg : w.heap[g]? = some (.cells cs t fr))
    (hu : P.underlying ty = some d) (hd : (match d with | .struct _ | .array _ _ => true | _ => false) = true) (hi : (P.info? ty).map (·.size) = some cs.size)
    (h : wpListIn F n P ops Q rest (a.put o.dst (.agg cs)) w) : wpListIn F n P ops Q (o :: rest) a w := by
  refine wpListIn_plain hgd fun K hK' => ?_
  unfold Oper.wpIn
  refine ⟨?_, ?_⟩
  · simp [Oper.about, ho]
  · rw [Oper.semAt_plain F _ _ (by rw [ho]; intro c hc'; cases hc')]
    unfold execOp
    simp only [ho, hx, Instr.loadAt, Instr.sureAddr, Sem.run_bind, Sem.run_pure, Result.andThen_ok, run_loadVar_row w g t ty cs fr d hg hu hd hi]
    exact hK' _ _ h
end laws

/-! ### A region that draws its order, of operations that are quiet in a class of worlds, in a round -/
section round
variable {P : Program} {ops : Array Oper} {md : Region.Mode} {C : World → Prop} {l n : Nat}

theorem wpIn_of_quiet_round {o : Oper} {a : Act} {K : Act → Prop} {K' : Act → World → Prop} {Q' : Exit → Act → World → Prop} {w : World} (hd : ∀ c, o.op ≠ .defer c) (hw : C w) (h : ∀ a w', C w' → K a → K' a w') (hh : o.quiet P a C K) : o.wpIn (Fence.wide.inRound l) n P a w K' Q' := by
  obtain ⟨v, h1, h2⟩ := hh
  have h3 := h1 w hw
  unfold Oper.quietAt at h3
  unfold Oper.wpIn
  refine ⟨fun _ _ => trivial, ?_⟩
  rw [Oper.semAt_plain _ _ _ hd]
  generalize (execOp a.eval o).run P w = r at *
  cases r with
  | ok x w' =>
    cases x <;> simp only [Oper.quietUpon] at h3 <;> simp only [Oper.uponIn]
    case value u =>
      obtain ⟨e1, e2⟩ := h3
      rw [e1, e2]
      exact h _ _ hw h2
    case skip =>
      obtain ⟨e1, e2⟩ := h3
      rw [e1, ← e2]
      exact h _ _ hw h2
    case enter f args =>
      obtain ⟨e1, hc⟩ := h3
      rw [e1]
      exact ⟨fun h => (by cases h), CallsIn.inRound l (callsIn_wide.2 (hc.mono fun e w'' ⟨he, hw''⟩ => by subst he; exact h _ _ hw'' h2))⟩
  | halt x w' => simp only [Oper.quietUpon] at h3

theorem wpOpIn_of_qOp_round {i : Nat} {a : Act} {K : Act → Prop} {K' : Act → World → Prop} {Q' : Exit → Act → World → Prop} {w : World} (hd : ∀ (j : Nat) (o : Oper) c, ops[j]? = some o → o.op ≠ .defer c) (hC : C w) (h : ∀ a w', C w' → K a → K' a w')
    (hh : qOp P ops C i K a) : wpOpIn (Fence.wide.inRound l) n P ops Q' i K' a w := by
  unfold qOp at hh
  unfold wpOpIn
  split
  · rename_i ho; simp only [ho] at hh; exact h _ _ hC hh
  · rename_i o ho
    simp only [ho] at hh
    split
    · rename_i hw; simp only [hw, if_true] at hh; exact wpIn_of_quiet_round (fun c => hd i o c ho) hC h hh
    · rename_i hw; simp only [hw] at hh; exact ⟨fun _ _ => trivial, h _ _ hC hh⟩

theorem wpAnyIn_of_quiet_round {Q : Act → Prop} {Q' : Exit → Act → World → Prop} (hd : ∀ (j : Nat) (o : Oper) c, ops[j]? = some o → o.op ≠ .defer c) (hQ : ∀ a w, C w → Q a → Q' .normal a w) : ∀ (fuel : Nat) (listed : Array Bool) (a : Act) (w : World), C w →
    wpAnyQ P md ops C Q fuel listed a → wpAnyIn (Fence.wide.inRound l) n P md ops Q' fuel listed a w
  | 0, _, _, _, hw, h => ⟨h.1, hQ _ _ hw h.2⟩
  | fuel + 1, _, _, _, hw, h => ⟨fun h0 => hQ _ _ hw (h.1 h0), fun i hi => wpOpIn_of_qOp_round hd hw (fun a' w' hw' => wpAnyIn_of_quiet_round hd hQ fuel _ a' w' hw') (h.2 i hi)⟩

def Oper.noDefer (o : Oper) : Bool := match o.op with | .defer _ => false | _ => true

theorem wpIn_region_quiet_round {id : Nat} {Q : Exit → Act → World → Prop} {a : Act} {w : World} (hm : P.follows .mixedOrders = true) (hB : Region.lexB .any ops = true) (hnd : ops.all Oper.noDefer = true) (hC : C { w with drawn := w.drawn + 1 })
    (h : wpQuiet P ops C (fun a' => ∀ w', C w' → Q .normal a' w') ops.toList a) : (Code.region id ops true).wpIn (Fence.wide.inRound l) n P Q a w := by
  simp only [Region.lexB, Bool.and_eq_true] at hB
  have hd : ∀ (j : Nat) (o : Oper) c, ops[j]? = some o → o.op ≠ .defer c := by
    intro j o c hj he
    have hmem : o ∈ ops := Array.mem_of_getElem? hj
    have := Array.all_eq_true_iff_forall_mem.1 hnd o hmem
    simp [Oper.noDefer, he] at this
  refine wpIn_region_any hm (wpAnyIn_of_quiet_round (Q := fun a' => ∀ w', C w' → Q .normal a' w') hd (fun _ w' hw' h => h w' hw') _ _ _ _ hC ?_)
  have := wpAnyQ_lex (C := C) (md := .any) hB.1 ops.toList 0 (Array.replicate ops.size false) a (by simp) (by simpa using hB.2) h
  simpa using this
theorem wpIn_region_quiet_rlit {id : Nat} {Q : Exit → Act → World → Prop} {a : Act} {w : World} {ls : List Oper} (hm : P.follows .mixedOrders = true) (hB : Region.lexB .any ls.toArray = true) (hnd : ls.toArray.all Oper.noDefer = true) (hC : C { w with drawn := w.drawn + 1 })
    (h : wpQuiet P ls.toArray C (fun a' => ∀ w', C w' → Q .normal a' w') ls a) : (Code.region id ls.toArray true).wpIn (Fence.wide.inRound l) n P Q a w :=
  wpIn_region_quiet_round (C := C) hm hB hnd hC (by simpa using h)
end round

/-- Plainly, at whatever class of worlds. -/
theorem wp_region_quiet_class {P : Program} {C : World → Prop} {id : Nat} {Q : Exit → Act → World → Prop} {a : Act} {w : World} {ls : List Oper} (hm : P.follows .mixedOrders = true) (hB : Region.lexB .any ls.toArray = true) (hC : C { w with drawn := w.drawn + 1 })
    (h : wpQuiet P ls.toArray C (fun a' => ∀ w', C w' → Q .normal a' w') ls a) : (Code.region id ls.toArray true).wp P Q a w :=
  wp_region_quiet (C := C) hm hB hC (by simpa using h)
end Go.Proofs.Ythmenbehpblljaa
