/-
  Section of the table: the loop over the sections, with an early return.
-/
import Derived.Test.YthmenbehpblljaaTabRS
namespace Go.Proofs.Ythmenbehpblljaa
open Go.RowKit Go.Shelf
attribute [local go_sem] Oper.semAt_some

theorem quiet_load_row {P : Program} {o : Oper} {a : Act} {C : World → Prop} {K : Act → Prop} (ty : TypeId) (x : Operand) (ho : o.op = .load ty x)
    (g : Nat) (hx : a.eval x = .pointer (some ⟨g, 0, none⟩)) (t : TypeId) (cs : Array Value) (fr : Nat × Nat) (d : TypeDesc) (hg : ∀ w, C w → w.heap[g]? = some (.cells cs t fr))
    (hu : P.underlying ty = some d) (hd : (match d with | .struct _ | .array _ _ => true | _ => false) = true) (hi : (P.info? ty).map (·.size) = some cs.size)
    (h : K (a.put o.dst (.agg cs))) : o.quiet P a C K := by
  refine ⟨.agg cs, fun w hw => ?_, h⟩
  unfold Oper.quietAt execOp
  simp only [ho, hx, Instr.loadAt, Instr.sureAddr, Sem.run_bind, Sem.run_pure, Result.andThen_ok, run_loadVar_row w g t ty cs fr d (hg w hw) hu hd hi]
  exact ⟨rfl, rfl⟩

theorem wpStage_call {P : Program} {ops : Array Oper} {C : Nat → World → Prop} {Q : Nat → Act → Prop} {o : Oper} {rest : List Oper} {m : Nat} {a : Act} (f : FuncId) (vs : Array Value) (v : Value) (hs : Oper.stores o = false) (hg : o.guard = none)
    (ho : ∀ w, (execOp a.eval o).run P w = .ok (.enter f vs) w) (hc : ∀ w, Calls P f vs w fun e w' => e = .returned v ∧ w' = w)
    (h : wpStage P ops C Q rest m (a.put o.dst v)) : wpStage P ops C Q (o :: rest) m a := by
  unfold wpStage
  have hw : Region.wanted o (yielded ops a.tmps) = true := by simp [Region.wanted, hg]
  simp only [hw, hs, if_true, Bool.false_eq_true, if_false]
  refine ⟨v, fun m' w hw' => ?_, h⟩
  unfold Oper.quietAt
  rw [ho w]
  refine ⟨rfl, (hc w).mono ?_⟩
  rintro e w' ⟨rfl, rfl⟩
  exact ⟨rfl, hw'⟩

structure SecI (c : Nat → Nat) (frame : Int) (p N : Nat) (pre : List Sec) (W : World) : Prop where
  b0 : W.heap[N]? = some (.cells (tabCells c frame) 28 (0, 0))
  b1 : W.heap[N + 1]? = some (.cells #[.int .i64 (p : Int)] 3 (0, 0))
  b2 : W.heap[N + 2]? = some (.cells #[.int .i64 0] 3 (0, 0))
  b3 : W.heap[N + 3]? = some (.cells #[.int .i64 0] 3 (0, 0))
  no : ∀ x ∈ pre, ¬ InSec c x.1 p
structure SecX (c : Nat → Nat) (p N : Nat) (pre : List Sec) (W : World) : Prop where
  hit : ∃ s, 1 ≤ s ∧ s ≤ 6 ∧ InSec c s p ∧ W.heap[N + 2]? = some (.cells #[.int .i64 (s : Int)] 3 (0, 0)) ∧ W.heap[N + 3]? = some (.cells #[.int .i64 (((p - nextOf c (s - 1)) / secSize s : Nat) : Int)] 3 (0, 0))

theorem secI_own (c : Nat → Nat) (frame : Int) (p N : Nat) : Own (SecI c frame p N) := fun _ _ _ _ hs hg hr =>
  ⟨row_kept hs.b0 hg hr, row_kept hs.b1 hg hr, row_kept hs.b2 hg hr, row_kept hs.b3 hg hr, hs.no⟩
theorem secX_own (c : Nat → Nat) (p N : Nat) : Own (SecX c p N) := fun _ _ _ _ hs hg hr => by
  obtain ⟨s, h1, h2, h3, h4, h5⟩ := hs.hit
  exact ⟨s, h1, h2, h3, row_kept h4 hg hr, row_kept h5 hg hr⟩
theorem SecI.below {c : Nat → Nat} {frame : Int} {p N : Nat} {pre : List Sec} {W W1 : World} (h : SecI c frame p N pre W) (hb : Below W.heap.size W W1) : SecI c frame p N pre W1 :=
  ⟨(hb.block _ (lt_of_block h.b0)).trans h.b0, (hb.block _ (lt_of_block h.b1)).trans h.b1, (hb.block _ (lt_of_block h.b2)).trans h.b2, (hb.block _ (lt_of_block h.b3)).trans h.b3, h.no⟩

theorem secI_start (c : Nat → Nat) (frame : Int) (p : Nat) (w : World) : SecI c frame p w.heap.size [] ((((w.alloc (.cells (tabCells c frame) 28)).alloc (.cells #[.int .i64 (p : Int)] 3)).alloc (.cells #[.int .i64 0] 3)).alloc (.cells #[.int .i64 0] 3)) := by
  refine ⟨?_, ?_, ?_, ?_, fun _ h => by cases h⟩
  · rw [Below.heap_alloc _ _ _ (by simp; omega), Below.heap_alloc _ _ _ (by simp; omega), Below.heap_alloc _ _ _ (by simp)]
    exact alloc_at rfl
  · rw [Below.heap_alloc _ _ _ (by simp), Below.heap_alloc _ _ _ (by simp)]
    exact alloc_at (by simp)
  · rw [Below.heap_alloc _ _ _ (by simp)]
    exact alloc_at (by simp)
  · exact alloc_at (by simp)
end Go.Proofs.Ythmenbehpblljaa
