/-
  Gaps of the table.
-/
import Derived.Test.YthmenbehpblljaaStageV
import Derived.Test.YthmenbehpblljaaTabL
import Derived.RangeFuncBox
import Derived.Great.BuildSlice
import Derived.Maps.AppendAt
namespace Go.Proofs.Ythmenbehpblljaa
open Go.RowKit Go.Shelf
attribute [local go_sem] Oper.semAt_some

def endOf (c : Nat → Nat) (s : Nat) : Nat := nextOf c (s - 1) + c s * secSize s
theorem alignUp_endOf (c : Nat → Nat) (s : Nat) (h1 : 1 ≤ s) : alignUp (endOf c s) = nextOf c s := by
  obtain ⟨k, rfl⟩ : ∃ k, s = k + 1 := ⟨s - 1, by omega⟩
  rfl
/-- The gap behind section s, if there is one. -/
def gapOf (c : Nat → Nat) (s : Nat) : List (Nat × Nat) := if endOf c s < nextOf c s then [(endOf c s, nextOf c s - endOf c s)] else []
def gapsOf (c : Nat → Nat) (pre : List Sec) : List (Nat × Nat) := pre.flatMap fun x => gapOf c x.1
def pairCells (gs : List (Nat × Nat)) : List Value := gs.flatMap fun g => [.int .i64 (g.1 : Int), .int .i64 (g.2 : Int)]
theorem gapsOf_snoc (c : Nat → Nat) (pre : List Sec) (x : Sec) : gapsOf c (pre ++ [x]) = gapsOf c pre ++ gapOf c x.1 := by simp [gapsOf]
theorem pairCells_append (a b : List (Nat × Nat)) : pairCells (a ++ b) = pairCells a ++ pairCells b := by simp [pairCells]
theorem pairCells_length (gs : List (Nat × Nat)) : (pairCells gs).length = gs.length * 2 := by
  induction gs with
  | nil => rfl
  | cons g gs ih => rw [show pairCells (g :: gs) = [.int .i64 (g.1 : Int), .int .i64 (g.2 : Int)] ++ pairCells gs from rfl, List.length_append, ih]; simp; omega

theorem gapsOf_length (c : Nat → Nat) (pre : List Sec) : (gapsOf c pre).length ≤ pre.length := by
  induction pre with
  | nil => exact Nat.le_refl _
  | cons x pre ih =>
    rw [show gapsOf c (x :: pre) = gapOf c x.1 ++ gapsOf c pre from rfl, List.length_append, List.length_cons]
    have : (gapOf c x.1).length ≤ 1 := by unfold gapOf; split <;> simp
    omega

def GapI (c : Nat → Nat) (frame : Int) (N : Nat) (pre : List Sec) (W : World) : Prop :=
  W.heap[N]? = some (.cells (tabCells c frame) 28 (0, 0)) ∧
  ∃ v, Boxed W (N + 1) 41 v ∧ W.ownsRow N 23 2 v (gapsOf c pre).length (pairCells (gapsOf c pre)) ∧ True

theorem gapI_own (c : Nat → Nat) (frame : Int) (N : Nat) : Own (GapI c frame N) := fun pre W W' row hs hg hr =>
  ⟨row_kept hs.1 hg hr, holdsRow_own N (N + 1) 41 23 2 (fun pre => (gapsOf c pre).length) (fun pre => pairCells (gapsOf c pre)) (fun _ _ => True) pre W W' row hs.2 hg hr⟩

theorem gapI_start (c : Nat → Nat) (frame : Int) (w : World) : GapI c frame w.heap.size [] ((w.alloc (.cells (tabCells c frame) 28)).alloc (.cells #[.slice none 0 0] 41)) := by
  refine ⟨?_, .slice none 0 0, ?_, World.ownsRow_nil _ _ _ _, trivial⟩
  · rw [Below.heap_alloc _ _ _ (by simp)]
    exact alloc_at rfl
  · exact alloc_at (by simp)

theorem own_keeps {w w' : World} {B e size n : Nat} {v : Value} {xs : List Value} (h : w.ownsRow B e size v n xs) (hb : Below w.heap.size w w') : w'.ownsRow B e size v n xs := by
  refine ⟨h.1, ?_⟩
  rcases h.2 with ⟨h1, h2⟩ | ⟨g, cap, cur, h1, h2, h3, h4⟩
  · exact .inl ⟨h1, h2⟩
  · exact .inr ⟨g, cap, cur, h1, h2, (hb.block g (lt_of_block h3)).trans h3, h4⟩

theorem run_store1 {P : Program} {o : Oper} {ty : TypeId} {x y : Operand} (a : Act) (W : World) (ho : o.op = .store ty x y) (p : Addr) (hx : a.eval x = .pointer (some p)) (v : Value) (hy : a.eval y = v) (hv : v.cells = #[v]) (hone : v.oneCell' = true) {c0 : Value}
    (hc : W.cell? p = some c0) (hf : W.frozen? p = false) (hi : (P.info? ty).map (·.size) = some 1) : (execOp a.eval o).run P W = .ok .skip (W.setCell p v) := by
  unfold execOp
  simp only [ho, hx, hy, Instr.storeAt, Instr.sureAddr, Sem.run_bind, Sem.run_pure, Result.andThen_ok]
  have hs := run_store P W p v .plain hone
  rw [hc, hf] at hs
  simp only [Bool.false_eq_true, if_false] at hs
  cases hq : P.info? ty with
  | none => simp [hq] at hi
  | some i =>
    have hsz : i.size = 1 := by simpa [hq] using hi
    simp [storeVar, sizeOf, typeInfo, hq, hv, hsz, storeCells, hs, show p.add 0 = p from rfl]

theorem cells_not_row {W : World} {B : Nat} {t e : TypeId} {cs : Array Value} (h : W.heap[B]? = some (.cells cs t (0, 0))) (hte : t ≠ e) {base size k : Nat} {v : Value} {xs : List Value} (hr : W.ownsRow base e size v k xs) : some B ≠ v.ownBlock := by
  rcases hr.2 with ⟨rfl, _⟩ | ⟨g, cap, cur, rfl, _, hgb, _⟩
  · simp [Value.ownBlock]
  · intro e'
    obtain rfl : B = g := by simpa [Value.ownBlock] using e'
    have := h.symm.trans hgb
    simp at this
    exact hte this.2

def chG (o : Oper) : Bool := match o.op with | .buildSlice _ _ _ => true | .store _ _ _ => true | .call c => (match c.callee with | .builtin .append => true | _ => false) | _ => false

def RetGaps (c : Nat → Nat) (w : World) (e : Ending) (w' : World) : Prop :=
  ∃ v, e = .returned v ∧ w'.ownsRow w.heap.size 23 2 v (gapsOf c (secUpto 6)).length (pairCells (gapsOf c (secUpto 6))) ∧ Below w.heap.size w w'

set_option maxRecDepth 100000 in
set_option maxHeartbeats 6000000 in
theorem gaps_any (c : Nat → Nat) (frame : Int) (w : World) (hc : CountsOk c) :
    Calls Try.prog 17 #[.agg (tabCells c frame)] w (RetGaps c w) := by
  have HC := Lib.hid hc
  have hI0 := gapI_start c frame w
  have hB0 : Below w.heap.size w ((w.alloc (.cells (tabCells c frame) 28)).alloc (.cells #[.slice none 0 0] 41)) := (((Below.refl _ w).alloc (Nat.le_refl _) _).alloc (by simp) _)
  refine (callsIn_wide (n := 5)).1 ?_
  refine callsIn_of_wp_marks Try.func17 rfl trivial ?_ rfl
  simp only [Try.ntmps17, List.size_toArray, List.length_cons, List.length_nil, Nat.reduceAdd, Nat.reduceSub, Array.replicate_succ, Array.replicate_zero, List.push_toArray, List.append_toArray, List.nil_append, List.cons_append]
  gi_wp2_with (refine ⟨trivial, ?_⟩; gi_at_call 32; go_loud (refine (callsIn_wide.2 (sections_any _)).mono ?_); rintro e w' ⟨rfl, rfl⟩)
  obtain ⟨W0, hW0⟩ : ∃ W0, ((w.alloc (.cells (tabCells c frame) 28)).alloc (.cells #[.slice none 0 0] 41)) = W0 := ⟨_, rfl⟩
  have hz0 : W0.heap.size = w.heap.size + 2 := by rw [← hW0]; simp
  show Code.wpIn _ _ _ _ _ _ ((w.alloc (.cells (tabCells c frame) 28)).alloc (.cells #[.slice none 0 0] 41))
  rw [hW0] at hI0 hB0 ⊢
  clear hW0 hc
  refine wpIn_rangeFunc_ownF rfl (by omega) (gf := 55) (lb := #[]) rfl trivial (enters_of Try.func55 (by kernel_rfl) rfl)
    (sections_stops Fence.wide (5 - 1) trivial rfl (by omega) W0) walksK_t walksK_b (Below.refl _ _) (fun _ => rfl)
    (fun pre W => GapI c frame w.heap.size pre W ∧ Below w.heap.size w W)
    (fun _ _ _ => False)
    (OwnFrom.and (Own.from (gapI_own c frame w.heap.size) _) (ownFrom_below (Nat.le_refl _) (by omega)))
    (fun _ _ _ _ _ hs _ _ => hs)
    ⟨hI0, hB0⟩
    (fun x => { tmps := #[.agg (tabCells c frame), .pointer (some ⟨w.heap.size, 0, none⟩), .slice none 0 0, .pointer (some ⟨w.heap.size + 1, 0, none⟩), .int .i64 (x.1 : Int), undef, .func (.func 55) #[] #[], .int .i64 (x.1 : Int), .int .i64 (32 + 8 * ((x.1 : Int) - 1)), undef, undef, undef, undef, undef, undef, undef, undef, undef, undef, undef, undef, undef, undef, undef, undef, undef], defers := [] }) ?assign ?body ?done ?stop
  case assign =>
    intro l x W K hK
    gi_wp2
    exact hK
  case body =>
    rintro l pre ⟨s, hs1, hs2⟩ W ⟨hI, hB⟩ hlt
    have hlen := gapsOf_length c pre
    have hlen2 : (gapsOf c pre).length ≤ 6 := by omega
    clear hlen
    obtain ⟨h0, v, hv, hr, _⟩ := hI
    have hT := tabAt_tab c frame s hs1 hs2
    have hcm : c s ≤ 1024 := Nat.le_trans (HC.out s) (secLimit_le s)
    have hO := nextOf_le c (fun s => Nat.le_trans (HC.out s) (secLimit_le s)) (s - 1)
    have hm : c s * secSize s ≤ 1024 * 56 := Nat.mul_le_mul hcm (secSize_le s)
    obtain ⟨E, hE⟩ : ∃ E, E = endOf c s := ⟨_, rfl⟩
    have hE1 : E ≤ 500000 := by rw [hE]; unfold endOf; omega
    have hend : ∀ W', Calls Try.prog 35 #[.agg (tabCells c frame), .int .i64 (s : Int)] W' fun e w' => e = .returned (.int .i64 (E : Int)) ∧ Below W'.heap.size W' w' := fun W' => by
      rw [hE]; exact end_any (tabCells c frame) s _ _ W' hT hs1 hs2 (by omega) hcm
    obtain ⟨X, hX⟩ : ∃ X, X = nextOf c s := ⟨_, rfl⟩
    have hal : ∀ W', Calls Try.prog 34 #[.int .i64 (E : Int)] W' fun e w' => e = .returned (.int .i64 (X : Int)) ∧ w' = W' := fun W' => by
      have := align_any E W' (by omega)
      rwa [show alignUp E = X from by rw [hE, hX]; exact alignUp_endOf c s hs1] at this
    have hX1 : X ≤ 600000 := by
      have := (alignUp_le E).1
      rw [show alignUp E = X from by rw [hE, hX]; exact alignUp_endOf c s hs1] at this
      omega
    have HV := Lib.hid hv; have HR := Lib.hid hr; have HB := Lib.hid hB; have H0 := Lib.hid h0; have HE := Lib.hid hE; have HX := Lib.hid hX; have HEND := Lib.hid hend; have HAL := Lib.hid hal
    clear hI0 hB0 hv hr hB h0 hE hX hend hal hT hcm hO hm hlt
    gi_wp2_with (first
      | (refine wpListIn_load_row rfl 28 (.tmp 1) rfl w.heap.size rfl 28 (tabCells c frame) (0, 0) _ H0.out rfl rfl rfl ?_))
    refine ⟨trivial, ?_⟩
    refine (CallsIn.inRound l (callsIn_wide.2 (HEND.out _))).mono ?_
    rintro e W1 ⟨rfl, hb⟩
    have HV1 : Hid (Boxed W1 (w.heap.size + 1) 41 v) := Lib.hid ((hb.block _ HV.out.lt).trans HV.out)
    have HR1 := Lib.hid (own_keeps HR.out hb)
    have H01 := Lib.hid ((hb.block _ (lt_of_block H0.out)).trans H0.out)
    have HB1 := Lib.hid (HB.out.trans (hb.mono HB.out.size))
    have HK1 := Lib.hid (keepsOthers_below hb)
    clear HV HR H0 HB hb
    gi_wp2_with (fail)
    refine ⟨trivial, ?_⟩
    refine (CallsIn.inRound l (callsIn_wide.2 (HAL.out _))).mono ?_
    rintro e W2 ⟨rfl, rfl⟩
    by_cases q : E < X
    · have t : decide (E < X) = true := by simp [q]
      gi_wp2_with (fail)
      have hmx : Try.prog.follows .mixedOrders = true := by kernel_rfl
      have hw1 : IntKind.i64.wrap ((X : Int) - (E : Int)) = (X : Int) - (E : Int) := by rw [IntKind.wrap_i64]; omega
      refine wpIn_region_stageV_round (σ := World) (C := fun s w => ∃ n, w = s.drewN n) (L := fun s => Boxed s (w.heap.size + 1) 41 v) (ch := chG) (fin := Oper.stores) W2 hmx (by kernel_rfl) (by kernel_rfl) ⟨1, rfl⟩ ?_
      iterate 3 (refine wpStageV_step HV1.out rfl rfl ?_; go_big_quiet_want; go_big_quiet_op; first
          | (go_big_quiet_on; refine wpQuiet_nil ?_)
          | (refine ⟨_, fun w' s' hL n hn => rfl, ?_⟩; go_big_quiet_on; refine wpQuiet_nil ?_)
          | (apply Exists.intro; refine ⟨?_, ?_⟩; (intro w' s' hL n hn; subst hn; rw [World.cell?_drewN, Boxed.cell hL]; exact ⟨rfl, rfl⟩); go_big_quiet_on; refine wpQuiet_nil ?_))
      refine wpStageV_call 34 #[.int .i64 (E : Int)] (.int .i64 (X : Int)) HV1.out rfl rfl (fun w' => by simp [execOp, go_sem]) HAL.out ?_
      simp only [Act.put, List.setIfInBounds_toArray, List.set_cons_succ, List.set_cons_zero]
      iterate 3 (refine wpStageV_step HV1.out rfl rfl ?_; go_big_quiet_want; go_big_quiet_op; first
          | (go_big_quiet_on; refine wpQuiet_nil ?_)
          | (refine ⟨_, fun w' s' hL n hn => rfl, ?_⟩; go_big_quiet_on; refine wpQuiet_nil ?_)
          | (apply Exists.intro; refine ⟨?_, ?_⟩; (intro w' s' hL n hn; subst hn; rw [World.cell?_drewN, Boxed.cell hL]; exact ⟨rfl, rfl⟩); go_big_quiet_on; refine wpQuiet_nil ?_))
      refine wpStageV_move HV1.out rfl rfl ?_
      rintro _ ⟨n, rfl⟩
      obtain ⟨W3, hW3⟩ : ∃ W3, W3 = (W2.drewN n).alloc (.cells #[.int .i64 (E : Int), .int .i64 ((X : Int) - (E : Int))] 23) := ⟨_, rfl⟩
      refine ⟨.slice (some ⟨(W2.drewN n).heap.size, 0, none⟩) 1 1, W3, W3, .inl ?_, ⟨0, rfl⟩, fun _ => ?_, ?_⟩
      · rw [hW3]
        unfold execOp
        simp only [Sem.run_bind]
        rw [run_buildSlice (W2.drewN n) 41 23 1 _ #[.int .i64 (E : Int), .int .i64 ((X : Int) - (E : Int))] _ _ rfl rfl rfl (of_decide_eq_true (by kernel_rfl)) (of_decide_eq_true (by kernel_rfl)) (by kernel_rfl)]
        rfl
      · rw [hW3]; exact Boxed.alloc (by exact HV1.out) _
      have HV3 : Hid (Boxed W3 (w.heap.size + 1) 41 v) := Lib.hid (by rw [hW3]; exact Boxed.alloc (by exact HV1.out) _)
      have HR3 : Hid (W3.ownsRow w.heap.size 23 2 v (gapsOf c pre).length (pairCells (gapsOf c pre))) := Lib.hid (by rw [hW3]; exact World.ownsRow.alloc (by exact HR1.out) _)
      have hnew : W3.heap[(W2.drewN n).heap.size]? = some (.cells #[.int .i64 (E : Int), .int .i64 ((X : Int) - (E : Int))] 23 (0, 0)) := by rw [hW3]; exact alloc_at rfl
      simp only [Act.put, List.setIfInBounds_toArray, List.set_cons_succ, List.set_cons_zero]
      refine wpStageV_move HV3.out rfl rfl ?_
      rintro _ ⟨m, rfl⟩
      have hbase : w.heap.size ≤ (W3.drewN m).heap.size := by rw [hW3]; have := HB1.out.size; simp [World.size_alloc]; omega
      obtain ⟨v', W4, hrun, r1, r2, r3, r4⟩ := run_append_own_at (P := Try.prog) (w := W3.drewN m) w.heap.size 41 41 23 _ _ 2 16 rfl rfl rfl rfl rfl rfl (by omega) v (gapsOf c pre).length (pairCells (gapsOf c pre)) (by exact HR3.out)
        ⟨(W2.drewN n).heap.size, 0, none⟩ 1 1 [.int .i64 (E : Int), .int .i64 ((X : Int) - (E : Int))] rfl
        (fun j u hu => by
          have hj : (W3.drewN m).cell? ⟨(W2.drewN n).heap.size, j, none⟩ = some u := by rw [World.cell?_drewN, cell_of_row _ _ _ _ _ _ hnew]; simpa using hu
          cases j with
          | zero => exact hj
          | succ j => simpa [Addr.add] using hj)
        (fun u hu => by simp at hu; rcases hu with rfl | rfl <;> rfl) (by simp only [maxLen]; omega) (by omega) hbase
      refine ⟨v', W4, W4, .inl ?_, ⟨0, rfl⟩, fun _ => ?_, ?_⟩
      · simp only [execOp, resolve, invoke, builtin, Sem.run_bind, Sem.run_pure, Result.andThen_ok, List.map_toArray, List.map_cons, List.map_nil]
        refine (congrArg (fun r => Result.andThen r _) hrun).trans ?_
        rfl
      · exact Boxed.kept (by exact HV3.out) r2 (Boxed.not_row (W := W3) (t := 41) (e := 23) HV3.out (by decide) HR3.out)
      have HV4 : Hid (Boxed W4 (w.heap.size + 1) 41 v) := Lib.hid (Boxed.kept (by exact HV3.out) r2 (Boxed.not_row (W := W3) (t := 41) (e := 23) HV3.out (by decide) HR3.out))
      obtain ⟨g4, cap4, rfl⟩ := ownsRow_succ r1
      simp only [Act.put, List.setIfInBounds_toArray, List.set_cons_succ, List.set_cons_zero]
      refine wpStageV_move HV4.out rfl rfl ?_
      rintro _ ⟨k, rfl⟩
      have HV4' := HV4
      refine ⟨undef, (W4.drewN k).setCell ⟨w.heap.size + 1, 0, none⟩ (.slice (some ⟨g4, 0, none⟩) ((gapsOf c pre).length + 1) cap4), (W4.drewN k).setCell ⟨w.heap.size + 1, 0, none⟩ (.slice (some ⟨g4, 0, none⟩) ((gapsOf c pre).length + 1) cap4), .inr ⟨?_, rfl⟩, ⟨0, rfl⟩, fun h => ?_, ?_⟩
      · exact run_store1 _ _ rfl ⟨w.heap.size + 1, 0, none⟩ rfl _ rfl rfl rfl (c0 := v) (by rw [World.cell?_drewN]; exact HV4.out.cell) (by rw [World.frozen?_drewN]; exact HV4.out.frozen) (by kernel_rfl)
      · cases h
      refine wpStageV_nil ?_
      rintro _ ⟨d, rfl⟩
      have hB1 := HB1.out.size
      have hgr : ((W2.drewN n).alloc (.cells #[.int .i64 (E : Int), .int .i64 ((X : Int) - (E : Int))] 23)).grownBy W4 v.ownBlock := by rw [← hW3]; exact ⟨r2.1, r2.2, r2.3, r2.4, r2.5⟩
      obtain ⟨_, b2, b3, b4, b5⟩ := Boxed.appended (W := W2.drewN n) (n₀ := w.heap.size) (by exact HV1.out) (by decide) (by exact HR1.out) (by exact hB1) (Nat.le_succ _) r1 hgr
      have hg : gapsOf c (pre ++ [⟨s, hs1, hs2⟩]) = gapsOf c pre ++ [(E, X - E)] := by
        rw [gapsOf_snoc, show gapOf c s = [(E, X - E)] from by unfold gapOf; rw [← HE.out, ← HX.out, if_pos q]]
      have hK : KeepsOthers W2 (((W4.drewN k).setCell ⟨w.heap.size + 1, 0, none⟩ (.slice (some ⟨g4, 0, none⟩) ((gapsOf c pre).length + 1) cap4)).drewN d) := by exact ⟨b4.1, b4.2⟩
      refine ⟨HK1.out.trans hK, (HK1.out.trans hK).walks, ⟨?_, .slice (some ⟨g4, 0, none⟩) ((gapsOf c pre).length + 1) cap4, by exact b2, ?_, trivial⟩, ?_⟩
      · have hne : some w.heap.size ≠ v.ownBlock := cells_not_row H01.out (by decide) HR1.out
        show ((W4.setCell ⟨w.heap.size + 1, 0, none⟩ _).heap[w.heap.size]?) = _
        rw [Below.heap_setCell _ _ _ _ (by simp), hgr.block _ (by simp; exact lt_of_block H01.out |> Nat.lt_succ_of_lt) hne]
        exact (Below.heap_alloc _ _ _ (by exact lt_of_block H01.out)).trans H01.out
      · rw [hg, pairCells_append, List.length_append, show pairCells [(E, X - E)] = [.int .i64 (E : Int), .int .i64 ((X : Int) - (E : Int))] from by simp [pairCells]; omega]
        exact b3
      · exact HB1.out.trans ⟨b5.1, b5.2, b5.3, b5.4, b5.5⟩
    · have t : decide (E < X) = false := by simp; omega
      gi_wp2_with (fail)
      have hg : gapsOf c (pre ++ [⟨s, hs1, hs2⟩]) = gapsOf c pre := by
        rw [gapsOf_snoc, show gapOf c s = [] from by unfold gapOf; rw [if_neg (by rw [← HE.out, ← HX.out]; exact q)], List.append_nil]
      exact ⟨HK1.out, HK1.out.walks, ⟨H01.out, v, HV1.out, by rw [hg]; exact HR1.out, trivial⟩, HB1.out⟩
  case done =>
    rintro D ys W hD rfl ⟨hI, hB⟩ hK
    obtain ⟨h0, v, hv, hr, _⟩ := hI
    have g1 : W.cell? ⟨w.heap.size + 1, 0, none⟩ = some v := hv.cell
    have HV := Lib.hid hv; have HR := Lib.hid hr; have HB := Lib.hid hB; have HK := Lib.hid hK
    clear hI0 hB0 h0 hv hr hB hK
    gi_wp2
    refine ⟨by simp, .inl ⟨_, _, rfl, run_takeDeferred HK.out, ?_⟩⟩
    have eB := HB.out
    have kB : Below w.heap.size w (W.putObj D (.deferred none)) :=
      ⟨eB.os, eB.tape, eB.output, by simp only [World.putObj, Array.size_setIfInBounds]; exact eB.size, fun k hk => (World.putObj_heap_other (by omega)).trans (eB.block k hk)⟩
    exact ⟨_, results_tmp rfl _ _ _, v, rfl, ownsRow_putObj HR.out _ HK.out rfl, kB⟩
  case stop =>
    rintro D cc pre W _ _ h _
    exact h.elim
end Go.Proofs.Ythmenbehpblljaa
