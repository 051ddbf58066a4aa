/-
  Chapter 6: the cursor moves.
-/
import Derived.Test.YtldbnfbfhbkclaaDoorLxB
import Derived.Test.YtldbnfbfhbkclaaDoorLxS
import Derived.Lib.BufferOwn
import Derived.RangeFuncOwn
namespace Go.Proofs.YtldbnfbfhbkclaaDoor
open Go.RowKit Go.Shelf

/-- Block C is a cursor at offset i of the text s, with its place. -/
def IsCur (C : Nat) (s : ByteArray) (i : Nat) (p : Nat × Nat) (w : World) : Prop :=
  w.heap[C]? = some (.cells #[.int .i64 (p.1 : Int), .int .i64 (p.2 : Int), .string s, .int .i64 (i : Int)] 52 (0, 0))
/-- Only block C has turned. -/
abbrev Only (C : Nat) (w w' : World) : Prop := w.grownBy w' (some C)
theorem Only.refl (C : Nat) (w : World) : Only C w w := ⟨rfl, rfl, rfl, Nat.le_refl _, fun _ _ _ => rfl⟩
theorem Only.trans {C : Nat} {a b c : World} (h : Only C a b) (k : Only C b c) : Only C a c :=
  ⟨k.os.trans h.os, k.tape.trans h.tape, k.output.trans h.output, Nat.le_trans h.size k.size, fun j hj hne => (k.block j (Nat.lt_of_lt_of_le hj h.size) hne).trans (h.block j hj hne)⟩
theorem Only.drewN {C : Nat} {a b : World} (h : Only C a b) (n : Nat) : Only C a (b.drewN n) := ⟨h.os, h.tape, h.output, h.size, h.block⟩
theorem Only.setCell {C : Nat} {a b : World} (h : Only C a b) (o : Nat) (v : Value) : Only C a (b.setCell ⟨C, o, none⟩ v) := by
  refine h.trans ⟨rfl, rfl, rfl, (KeepsWalks.setCell b _ v).size, fun k _ hk => Below.heap_setCell _ _ _ k (fun e => hk (by rw [e]))⟩

set_option maxRecDepth 100000 in
set_option maxHeartbeats 1000000 in
theorem pass_any (C : Nat) (s : ByteArray) (i : Nat) (p : Nat × Nat) (w : World) (h : IsCur C s i p w) (h1 : p.1 ≤ 100000000000) (h2 : p.2 ≤ 100000000000) :
    Calls Tryd.prog 59 #[.pointer (some ⟨C, 0, none⟩), .int .u8 (bt s i : Int)] w fun e w' => e = .returned (.tuple #[]) ∧ IsCur C s i (stepPl s p i) w' ∧ Only C w w' := by
  obtain ⟨q, hq⟩ : ∃ q, q = bt s i := ⟨_, rfl⟩
  unfold stepPl
  rw [← hq]
  clear hq
  obtain ⟨l, c⟩ := p
  simp only at h1 h2 ⊢
  have h0 : w.heap[C]? = some (.cells #[.int .i64 (l : Int), .int .i64 (c : Int), .string s, .int .i64 (i : Int)] 52 (0, 0)) := h
  have c0 : w.cell? ⟨C, 0, none⟩ = some (.int .i64 (l : Int)) := by rw [cell_of_row _ _ _ _ _ _ h0]; rfl
  have c1 : w.cell? ⟨C, 1, none⟩ = some (.int .i64 (c : Int)) := by rw [cell_of_row _ _ _ _ _ _ h0]; rfl
  have z0 := frozen_of_row w C 0 _ _ h0
  have z1 := frozen_of_row w C 1 _ _ h0
  have c1' : ∀ v, (w.setCell ⟨C, 0, none⟩ v).cell? ⟨C, 1, none⟩ = some (.int .i64 (c : Int)) := fun v => by rw [World.cell?_setCell_other _ _ _ _ (by simp)]; exact c1
  have z1' : ∀ v, (w.setCell ⟨C, 0, none⟩ v).frozen? ⟨C, 1, none⟩ = false := fun v => by rw [World.frozen?_setCell]; exact z1
  have H0 := Lib.hid h0
  clear h h0
  by_cases h10 : q = 10
  · subst h10
    go_enter Tryd.func59, Tryd.ntmps59
    go_wp2
    refine bodyPost_ret (results_none rfl _ _ _) rfl ⟨rfl, ?_, (Only.setCell ((Only.refl C w).setCell 0 _) 1 _)⟩
    show ((w.setCell ⟨C, 0, none⟩ (.int .i64 ((l : Int) + 1))).setCell ⟨C, 1, none⟩ (.int .i64 1)).heap[C]? = _
    rw [Lib.heap_setCell_same (Lib.heap_setCell_same H0.out _) _]
    rfl
  · have t10 : ((q : Int) == 10) = false := by simp; omega
    have t10' : (q == 10) = false := by simp; omega
    go_enter Tryd.func59, Tryd.ntmps59
    go_wp2
    refine bodyPost_end (results_none rfl _ _ _) rfl ⟨rfl, ?_, (Only.setCell (Only.refl C w) 1 _)⟩
    show (w.setCell ⟨C, 1, none⟩ (.int .i64 ((c : Int) + 1))).heap[C]? = _
    rw [Lib.heap_setCell_same H0.out _]
    rfl

theorem IsCur.drewN {C : Nat} {s : ByteArray} {i : Nat} {p : Nat × Nat} {w : World} (h : IsCur C s i p w) (n : Nat) : IsCur C s i p (w.drewN n) := h
def cellC (C : Nat) (o : Nat) : Addr := ⟨C, o, none⟩
theorem IsCur.c0 {C : Nat} {s : ByteArray} {i : Nat} {p : Nat × Nat} {w : World} (h : IsCur C s i p w) : w.cell? ⟨C, 0, none⟩ = some (.int .i64 (p.1 : Int)) := by rw [cell_of_row _ _ _ _ _ _ h]; rfl
theorem IsCur.c1 {C : Nat} {s : ByteArray} {i : Nat} {p : Nat × Nat} {w : World} (h : IsCur C s i p w) : w.cell? ⟨C, 1, none⟩ = some (.int .i64 (p.2 : Int)) := by rw [cell_of_row _ _ _ _ _ _ h]; rfl
theorem IsCur.c2 {C : Nat} {s : ByteArray} {i : Nat} {p : Nat × Nat} {w : World} (h : IsCur C s i p w) : w.cell? ⟨C, 2, none⟩ = some (.string s) := by rw [cell_of_row _ _ _ _ _ _ h]; rfl
theorem IsCur.c3 {C : Nat} {s : ByteArray} {i : Nat} {p : Nat × Nat} {w : World} (h : IsCur C s i p w) : w.cell? ⟨C, 3, none⟩ = some (.int .i64 (i : Int)) := by rw [cell_of_row _ _ _ _ _ _ h]; rfl
theorem IsCur.fr {C : Nat} {s : ByteArray} {i : Nat} {p : Nat × Nat} {w : World} (h : IsCur C s i p w) (o : Nat) : w.frozen? ⟨C, o, none⟩ = false := frozen_of_row w C o _ _ h

def chCall (f : Nat) (o : Oper) : Bool := match o.op with | .call c => (match c.callee with | .value (.func g) => g == f | _ => false) | _ => false
set_option maxRecDepth 100000 in
set_option maxHeartbeats 1000000 in
theorem step_any (C : Nat) (s : ByteArray) (i : Nat) (p : Nat × Nat) (w : World) (h : IsCur C s i p w) (hi : i < s.size) (hs : s.size ≤ 10000000000) (h1 : p.1 ≤ 100000000000) (h2 : p.2 ≤ 100000000000) :
    Calls Tryd.prog 51 #[.pointer (some ⟨C, 0, none⟩)] w fun e w' => e = .returned (.tuple #[]) ∧ IsCur C s (i + 1) (stepPl s p i) w' ∧ Only C w w' := by
  have c2 := h.c2
  have c3 := h.c3
  have hq := bt_at s i hi
  have H := Lib.hid h
  have hmx : Tryd.prog.follows .mixedOrders = true := by kernel_rfl
  clear h
  go_enter Tryd.func51, Tryd.ntmps51
  go_wp2_with (fail)
  refine wp_region_stageV (σ := World) (C := fun s w => ∃ n, w = s.drewN n) (L := fun s' => s'.cell? ⟨C, 2, none⟩ = some (.string s) ∧ s'.cell? ⟨C, 3, none⟩ = some (.int .i64 (i : Int))) (ch := chCall 59) (fin := fun _ => false) w hmx (by kernel_rfl) ⟨1, rfl⟩ ?_
  iterate 12 (first | (refine wpStageV_nilCheck _ ⟨C, 0, none⟩ rfl rfl ⟨c2, c3⟩ rfl rfl ?_; simp only [Act.put, List.setIfInBounds_toArray, List.set_cons_succ, List.set_cons_zero]) | skip; refine wpStageV_step ⟨c2, c3⟩ rfl rfl ?_; go_big_quiet_want; go_big_quiet_op; first
    | (go_big_quiet_on; refine wpQuiet_nil ?_)
    | (refine ⟨_, fun w' s' hL1 hL2 n hn => rfl, ?_⟩; go_big_quiet_on; refine wpQuiet_nil ?_)
    | (apply Exists.intro; refine ⟨?_, ?_⟩; (intro w' s' hL1 hL2 n hn; subst hn; rw [World.cell?_drewN, hL1]; exact ⟨rfl, rfl⟩); go_big_quiet_on; refine wpQuiet_nil ?_)
    | (apply Exists.intro; refine ⟨?_, ?_⟩; (intro w' s' hL1 hL2 n hn; subst hn; rw [World.cell?_drewN, hL2]; exact ⟨rfl, rfl⟩); go_big_quiet_on; refine wpQuiet_nil ?_))
  refine wpStageV_enter 59 #[.pointer (some ⟨C, 0, none⟩), .int .u8 (bt s i : Int)] ⟨c2, c3⟩ rfl rfl (fun w' => by simp [execOp, go_sem]) ?_
  rintro _ ⟨n, rfl⟩
  refine (pass_any C s i p (w.drewN n) H.out h1 h2).mono ?_
  rintro e w1 ⟨rfl, hc, ho⟩
  refine ⟨_, rfl, w1, ⟨0, rfl⟩, fun _ => ⟨hc.c2, hc.c3⟩, ?_⟩
  simp only [Act.put, List.setIfInBounds_toArray, List.set_cons_succ, List.set_cons_zero]
  refine wpStageV_nil ?_
  rintro _ ⟨m, rfl⟩
  have hc' : IsCur C s i (stepPl s p i) (w1.drewN m) := hc
  have ho' : Only C w (w1.drewN m) := ((Only.drewN (Only.refl C w) n).trans ho).drewN m
  clear hc ho
  obtain ⟨w2, hw2⟩ : ∃ w2, w2 = w1.drewN m := ⟨_, rfl⟩
  rw [← hw2] at hc' ho' ⊢
  have d3 := hc'.c3
  have f3 := hc'.fr 3
  have HC := Lib.hid hc'; have HO := Lib.hid ho'
  clear hc' ho' c2 c3 hq hw2
  go_wp2
  refine bodyPost_end (results_none rfl _ _ _) rfl ⟨rfl, ?_, (Only.setCell HO.out 3 _)⟩
  show (w2.setCell ⟨C, 3, none⟩ (.int .i64 ((i : Int) + 1))).heap[C]? = _
  rw [Lib.heap_setCell_same HC.out _]
  rfl
end Go.Proofs.YtldbnfbfhbkclaaDoor
