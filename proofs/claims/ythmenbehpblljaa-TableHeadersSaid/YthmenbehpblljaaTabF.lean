/-
  table.For within the limits: the layout.
-/
import Derived.Test.YthmenbehpblljaaStage
import Derived.Laws.CopyOwn
namespace Go.Proofs.Ythmenbehpblljaa
open Go.RowKit Go.Shelf
attribute [local go_sem] Oper.semAt_some

/-- Counts within the limits, as the cells of an array; the element 0 does not matter. -/
def CountsOk (c : Nat → Nat) : Prop := ∀ s, c s ≤ secLimit s
def countCells (z0 : Int) (c : Nat → Nat) : Array Value := #[.int .i64 z0, .int .i64 (c 1 : Int), .int .i64 (c 2 : Int), .int .i64 (c 3 : Int), .int .i64 (c 4 : Int), .int .i64 (c 5 : Int), .int .i64 (c 6 : Int)]
theorem countCells_get (z0 : Int) (c : Nat → Nat) (s : Nat) (h1 : 1 ≤ s) (h2 : s ≤ 6) : (countCells z0 c)[s]? = some (.int .i64 (c s : Int)) := by
  rcases six s h1 h2 with rfl | rfl | rfl | rfl | rfl | rfl <;> rfl

theorem sections_any (w : World) : Calls Try.prog 32 #[] w fun e w' => e = .returned (.func (.func 55) #[] #[]) ∧ w = w' := by
  go_enter Try.func32, Try.ntmps32
  go_wp2
  go_ret
  exact ⟨rfl, rfl⟩

def RetFor (c : Nat → Nat) (frame : Int) (w : World) (e : Ending) (w' : World) : Prop :=
  e = .returned (.tuple #[.agg (tabCells c frame), .bool true]) ∧ Below w.heap.size w w'

/-- The blocks of the call between two rounds. -/
structure ForI (c : Nat → Nat) (z0 frame : Int) (N : Nat) (pre : List Sec) (W : World) : Prop where
  b0 : W.heap[N]? = some (.cells (countCells z0 c) 22 (0, 0))
  b1 : W.heap[N + 1]? = some (.cells (zeroTab 0) 28 (0, 0))
  b2 : W.heap[N + 2]? = some (.cells #[.bool false] 4 (0, 0))
  b3 : W.heap[N + 3]? = some (.cells (stOf c (zeroTab frame) pre).2 28 (0, 0))
  b4 : W.heap[N + 4]? = some (.cells #[.int .i64 ((stOf c (zeroTab frame) pre).1 : Int)] 3 (0, 0))

theorem forI_own (c : Nat → Nat) (z0 frame : Int) (N : Nat) : Own (ForI c z0 frame N) := fun _ _ _ _ hs hg hr =>
  ⟨row_kept hs.b0 hg hr, row_kept hs.b1 hg hr, row_kept hs.b2 hg hr, row_kept hs.b3 hg hr, row_kept hs.b4 hg hr⟩

theorem ForI.below {c : Nat → Nat} {z0 frame : Int} {N : Nat} {pre : List Sec} {W W1 : World} (h : ForI c z0 frame N pre W) (hb : Below W.heap.size W W1) : ForI c z0 frame N pre W1 :=
  ⟨(hb.block _ (lt_of_block h.b0)).trans h.b0, (hb.block _ (lt_of_block h.b1)).trans h.b1, (hb.block _ (lt_of_block h.b2)).trans h.b2, (hb.block _ (lt_of_block h.b3)).trans h.b3, (hb.block _ (lt_of_block h.b4)).trans h.b4⟩

theorem forI_start (c : Nat → Nat) (z0 frame : Int) (w : World) : ForI c z0 frame w.heap.size [] (((((w.alloc (.cells (countCells z0 c) 22)).alloc (.cells (zeroTab 0) 28)).alloc (.cells #[.bool false] 4)).alloc (.cells (zeroTab frame) 28)).alloc (.cells #[.int .i64 80] 3)) := by
  refine ⟨?_, ?_, ?_, ?_, ?_⟩
  · rw [Below.heap_alloc _ _ _ (by simp; omega), Below.heap_alloc _ _ _ (by simp; omega), Below.heap_alloc _ _ _ (by simp; omega), Below.heap_alloc _ _ _ (by simp)]
    exact alloc_at rfl
  · rw [Below.heap_alloc _ _ _ (by simp), Below.heap_alloc _ _ _ (by simp), Below.heap_alloc _ _ _ (by simp)]
    exact alloc_at (by simp)
  · rw [Below.heap_alloc _ _ _ (by simp), Below.heap_alloc _ _ _ (by simp)]
    exact alloc_at (by simp)
  · rw [Below.heap_alloc _ _ _ (by simp)]
    exact alloc_at (by simp)
  · exact alloc_at (by simp)

theorem limit_index (s : Nat) (h1 : 1 ≤ s) (h2 : s ≤ 6) (w : World) : (Instr.index 22 (.agg #[.int .i64 0, .int .i64 64, .int .i64 1024, .int .i64 1024, .int .i64 1024, .int .i64 512, .int .i64 1024]) (.int .i64 (s : Int))).run Try.prog w = .ok (.int .i64 (secLimit s : Int)) w := by
  rcases six s h1 h2 with rfl | rfl | rfl | rfl | rfl | rfl <;> kernel_rfl

theorem results_row_cell {P : Program} {fn : Func} {p q : Tmp} {ty tb : TypeId} (h : fn.results = #[.cell p ty, .cell q tb]) (tmps : Array Value) (w : World) (g : Nat) (t : TypeId) (cs : Array Value) (fr : Nat × Nat) (d : TypeDesc)
    (hp : tmps.getD p undef = .pointer (some ⟨g, 0, none⟩)) (hg : w.heap[g]? = some (.cells cs t fr))
    (hu : P.underlying ty = some d) (hd : (match d with | .struct _ | .array _ _ => true | _ => false) = true) (hi : (P.info? ty).map (·.size) = some cs.size)
    (g2 : Nat) (u : Value) (d2 : TypeDesc) (hq : tmps.getD q undef = .pointer (some ⟨g2, 0, none⟩)) (hg2 : w.cell? ⟨g2, 0, none⟩ = some u) (hu2 : P.underlying tb = some d2) (hd2 : (match d2 with | .struct _ | .array _ _ => true | _ => false) = false) :
    (results fn tmps).run P w = .ok (.tuple #[.agg cs, u]) w := by
  have hp' : tmps[p]?.getD undef = .pointer (some ⟨g, 0, none⟩) := by simpa using hp
  have hq' : tmps[q]?.getD undef = .pointer (some ⟨g2, 0, none⟩) := by simpa using hq
  have h2 : (loadVar tb ⟨g2, 0, none⟩).run P w = .ok u w := by
    cases d2 <;> first | (simp at hd2; done) | simp [loadVar, isAgg, underlying, hu2, go_sem, hg2]
  simp [results, h, hp', hq', asAddr, run_loadVar_row w g t ty cs fr d hg hu hd hi, h2]

set_option maxRecDepth 100000 in
set_option maxHeartbeats 2000000 in
theorem for_any (c : Nat → Nat) (z0 frame : Int) (w : World) (hc : CountsOk c) :
    Calls Try.prog 10 #[.int .u64 frame, .agg (countCells z0 c)] w (RetFor c frame w) := by
  have hcm : ∀ s, c s ≤ 1024 := fun s => Nat.le_trans (hc s) (secLimit_le s)
  refine (callsIn_wide (n := 5)).1 ?_
  refine callsIn_of_wp_marks Try.func10 rfl trivial ?_ rfl
  simp only [Try.ntmps10, List.size_toArray, List.length_cons, List.length_nil, Nat.reduceAdd, Nat.reduceSub, Array.replicate_succ, Array.replicate_zero, List.push_toArray, List.append_toArray, List.nil_append, List.cons_append]
  gi_wp2_with (refine ⟨trivial, ?_⟩; gi_at_call 32; go_loud (refine (callsIn_wide.2 (sections_any _)).mono ?_); rintro e w' ⟨rfl, rfl⟩)
  have hI0 := forI_start c z0 frame w
  obtain ⟨W0, hW0⟩ : ∃ W0, (((((w.alloc (.cells (countCells z0 c) 22)).alloc (.cells (zeroTab 0) 28)).alloc (.cells #[.bool false] 4)).alloc (.cells (zeroTab frame) 28)).alloc (.cells #[.int .i64 80] 3)) = W0 := ⟨_, rfl⟩
  have hB0 : Below w.heap.size w W0 := by
    rw [← hW0]
    exact ((((((Below.refl _ w).alloc (Nat.le_refl _) _).alloc (by simp) _).alloc (by simp; omega) _).alloc (by simp; omega) _).alloc (by simp; omega) _)
  have hz0 : W0.heap.size = w.heap.size + 5 := by rw [← hW0]; simp
  rw [hW0] at hI0
  show Code.wpIn _ _ _ _ _ _ (((((w.alloc (.cells (countCells z0 c) 22)).alloc (.cells (zeroTab 0) 28)).alloc (.cells #[.bool false] 4)).alloc (.cells (zeroTab frame) 28)).alloc (.cells #[.int .i64 80] 3))
  rw [hW0]
  refine wpIn_rangeFunc_ownF rfl (by omega) (gf := 55) (lb := #[]) rfl trivial (enters_of Try.func55 (by kernel_rfl) rfl)
    (sections_stops Fence.wide (5 - 1) trivial rfl (by omega) W0) walksK_t walksK_b (Below.refl _ _) (fun _ => rfl)
    (fun pre W => ForI c z0 frame w.heap.size pre W ∧ Below w.heap.size w W)
    (fun _ _ _ => False)
    (OwnFrom.and (Own.from (forI_own c z0 frame w.heap.size) _) (ownFrom_below (Nat.le_refl _) (by omega)))
    (fun _ _ _ _ _ hs _ _ => hs)
    ⟨hI0, hB0⟩
    (fun x => { tmps := #[.int .u64 frame, .agg (countCells z0 c), undef, .pointer (some ⟨w.heap.size, 0, none⟩), .pointer (some ⟨w.heap.size + 1, 0, none⟩), .pointer (some ⟨w.heap.size + 1 + 1, 0, none⟩), .pointer (some ⟨w.heap.size + 1 + 1 + 1, 0, none⟩), .pointer (some ⟨w.heap.size + 1 + 1 + 1 + 1, 0, none⟩), .int .i64 (x.1 : Int), .int .u64 frame, .agg (zeroTab frame), .func (.func 55) #[] #[], .int .i64 (x.1 : Int), .int .i64 (32 + 8 * ((x.1 : Int) - 1)), undef, undef, undef, undef, undef, undef, undef, undef, undef, undef, undef, undef, undef, undef, undef, undef, undef, undef, undef, undef, undef, undef, undef, undef, undef, undef, undef, undef, undef, undef, undef, undef], defers := [] }) ?assign ?body ?done ?stop
  case assign =>
    intro l x W K hK
    gi_wp2
    exact hK
  case body =>
    rintro l pre ⟨s, hs1, hs2⟩ W ⟨hI, hB⟩ hlt
    have hA := stOf_le c (zeroTab frame) hcm pre
    have hcsz := stOf_size c (zeroTab frame) pre
    have hsn := stOf_snoc c (zeroTab frame) pre ⟨s, hs1, hs2⟩
    have f0 := hI.b0; have f1 := hI.b1; have f2 := hI.b2; have f3 := hI.b3; have f4 := hI.b4
    obtain ⟨A, hAe⟩ : ∃ A, A = (stOf c (zeroTab frame) pre).1 := ⟨_, rfl⟩
    obtain ⟨cs, hcse⟩ : ∃ cs, cs = (stOf c (zeroTab frame) pre).2 := ⟨_, rfl⟩
    obtain ⟨C, hC⟩ : ∃ C, C = c s := ⟨_, rfl⟩
    rw [← hAe] at hA f4
    rw [← hcse] at hcsz f3
    have hcs16 : cs.size = 16 := hcsz
    have hA2 : A ≤ 400000 := by omega
    have hC2 : C ≤ 1024 := by rw [hC]; exact hcm s
    have hCl : C ≤ secLimit s := by rw [hC]; exact hc s
    have g0 : W.cell? ⟨w.heap.size, s, none⟩ = some (.int .i64 (C : Int)) := by rw [cell_of_row _ _ _ _ _ _ f0, hC]; exact countCells_get z0 c s hs1 hs2
    have g4 : W.cell? ⟨w.heap.size + 1 + 1 + 1 + 1, 0, none⟩ = some (.int .i64 (A : Int)) := cell_of_one f4
    have hd1 : decide ((C : Int) < 0) = false := by simp
    have hmx : Try.prog.follows .mixedOrders = true := by kernel_rfl
    have hd2 : decide (secLimit s < C) = false := by simp; omega
    have hidx := limit_index s hs1 hs2
    have HI := Lib.hid hI; have HB := Lib.hid hB
    have HSN := Lib.hid hsn; have HAE := Lib.hid hAe; have HCSE := Lib.hid hcse; have HCE := Lib.hid hC; have HS16 := Lib.hid hcs16
    clear f0 f1 f2 f3 f4 hB hsn hAe hcse hC hI hcsz hcs16 hA hlt hCl
    gi_wp2
    refine wpIn_region_quiet_rlit (C := fun W' => Below W.heap.size W W') hmx (by kernel_rfl) (by kernel_rfl) ((Below.refl _ W).drew) ?_
    repeat (first
      | go_big_quiet_skip
      | (go_big_quiet_want; go_big_quiet_op; first
        | go_big_quiet_on
        | (refine ⟨_, fun w' hw' => rfl, ?_⟩; go_big_quiet_on)
        | (apply Exists.intro; refine ⟨fun w' hw' => ?_, ?_⟩; (rw [(hw'.cell (block_lt_of_cell g0)).trans g0]; exact ⟨rfl, rfl⟩); go_big_quiet_on)
        | (apply Exists.intro; refine ⟨fun w' hw' => ?_, ?_⟩; (refine (limits_any w').mono ?_; rintro e w2 ⟨rfl, hb⟩; exact ⟨rfl, hw'.trans (hb.mono hw'.size)⟩); go_big_quiet_on)))
    refine wpQuiet_nil ?_
    intro W1 hW1
    have hI1 := HI.out.below hW1
    have HW1 := Lib.hid hW1
    clear hW1 g0 g4
    have f0 := hI1.b0; have f3 := hI1.b3; have f4 := hI1.b4
    rw [← HCSE.out] at f3
    rw [← HAE.out] at f4
    have g0 : W1.cell? ⟨w.heap.size, s, none⟩ = some (.int .i64 (C : Int)) := by rw [cell_of_row _ _ _ _ _ _ f0, HCE.out]; exact countCells_get z0 c s hs1 hs2
    have g4 : W1.cell? ⟨w.heap.size + 1 + 1 + 1 + 1, 0, none⟩ = some (.int .i64 (A : Int)) := cell_of_one f4
    obtain ⟨v1, g5⟩ : ∃ v, W1.cell? ⟨w.heap.size + 1 + 1 + 1, 2 + s, none⟩ = some v := ⟨cs[2 + s]'(by have := HS16.out; omega), by rw [cell_of_row _ _ _ _ _ _ f3]; simp⟩
    obtain ⟨v2, g6⟩ : ∃ v, W1.cell? ⟨w.heap.size + 1 + 1 + 1, 9 + s, none⟩ = some v := ⟨cs[9 + s]'(by have := HS16.out; omega), by rw [cell_of_row _ _ _ _ _ _ f3]; simp⟩
    have z5 := frozen_of_row W1 (w.heap.size + 1 + 1 + 1) (2 + s) cs _ f3
    have z6 := frozen_of_row W1 (w.heap.size + 1 + 1 + 1) (9 + s) cs _ f3
    have HI1 := Lib.hid hI1; have F3 := Lib.hid f3; have F4 := Lib.hid f4
    clear hI1 f0 f3 f4
    have g6' : (W1.setCell ⟨w.heap.size + 1 + 1 + 1, 2 + s, none⟩ (.int .i64 (A : Int))).cell? ⟨w.heap.size + 1 + 1 + 1, 9 + s, none⟩ = some v2 := by
      rw [World.cell?_setCell_other _ _ _ _ (by simp <;> omega)]; exact g6
    have z6' : (W1.setCell ⟨w.heap.size + 1 + 1 + 1, 2 + s, none⟩ (.int .i64 (A : Int))).frozen? ⟨w.heap.size + 1 + 1 + 1, 9 + s, none⟩ = false := by
      rw [World.frozen?_setCell]; exact z6
    have s7 : (s : Int) < 7 := by omega
    have s70 : (0 : Int) ≤ s := by omega
    gi_wp2
    obtain ⟨WW, hWW⟩ : ∃ WW : Nat → World, WW = fun m => match m with | 0 => W1 | 1 => W1.setCell ⟨w.heap.size + 1 + 1 + 1, 2 + s, none⟩ (.int .i64 (A : Int)) | _ => (W1.setCell ⟨w.heap.size + 1 + 1 + 1, 2 + s, none⟩ (.int .i64 (A : Int))).setCell ⟨w.heap.size + 1 + 1 + 1, 9 + s, none⟩ (.int .i64 (C : Int)) := ⟨_, rfl⟩
    have R0 : ∀ m, (WW m).cell? ⟨w.heap.size, s, none⟩ = some (.int .i64 (C : Int)) := by
      intro m
      rw [hWW]
      match m with
      | 0 => exact g0
      | 1 => simp only []; rw [World.cell?_setCell_other _ _ _ _ (by simp <;> omega)]; exact g0
      | _ + 2 => simp only []; rw [World.cell?_setCell_other _ _ _ _ (by simp <;> omega), World.cell?_setCell_other _ _ _ _ (by simp <;> omega)]; exact g0
    have R4 : ∀ m, (WW m).cell? ⟨w.heap.size + 1 + 1 + 1 + 1, 0, none⟩ = some (.int .i64 (A : Int)) := by
      intro m
      rw [hWW]
      match m with
      | 0 => exact g4
      | 1 => simp only []; rw [World.cell?_setCell_other _ _ _ _ (by simp <;> omega)]; exact g4
      | _ + 2 => simp only []; rw [World.cell?_setCell_other _ _ _ _ (by simp <;> omega), World.cell?_setCell_other _ _ _ _ (by simp <;> omega)]; exact g4
    have HWW := Lib.hid hWW
    have c0W : WW 0 = W1 := by rw [hWW]; rfl
    clear hWW
    refine wpIn_region_stage_round (C := fun m w' => ∃ n, w' = (WW m).drewN n) hmx (by kernel_rfl) (by kernel_rfl) ⟨1, by rw [c0W]; rfl⟩ ?_
    clear c0W
    repeat (first
      | (refine wpStage_step rfl rfl ?_; first
          | (go_big_quiet_skip; refine wpQuiet_nil ?_)
          | (go_big_quiet_want; go_big_quiet_op; first
            | (go_big_quiet_on; refine wpQuiet_nil ?_)
            | (refine ⟨_, fun w' m n hw' => rfl, ?_⟩; go_big_quiet_on; refine wpQuiet_nil ?_)
            | (apply Exists.intro; refine ⟨?_, ?_⟩; (rintro w' m n rfl; rw [World.cell?_drewN, R0]; exact ⟨rfl, rfl⟩); go_big_quiet_on; refine wpQuiet_nil ?_)
            | (apply Exists.intro; refine ⟨?_, ?_⟩; (rintro w' m n rfl; rw [World.cell?_drewN, R4]; exact ⟨rfl, rfl⟩); go_big_quiet_on; refine wpQuiet_nil ?_)))
      | (refine wpStage_store rfl rfl rfl (turns_store_int rfl ⟨w.heap.size + 1 + 1 + 1, 2 + s, none⟩ rfl .i64 (A : Int) rfl (c0 := v1) (by rw [HWW.out]; exact g5) (by rw [HWW.out]; exact z5) (by kernel_rfl) (by rw [HWW.out]; rfl)) ?_)
      | (refine wpStage_store rfl rfl rfl (turns_store_int rfl ⟨w.heap.size + 1 + 1 + 1, 9 + s, none⟩ rfl .i64 (C : Int) rfl (c0 := v2) (by rw [HWW.out]; exact g6') (by rw [HWW.out]; exact z6') (by kernel_rfl) (by rw [HWW.out]; rfl)) ?_))
    refine wpStage_nil ?_
    rintro _ ⟨n2, rfl⟩
    obtain ⟨W2, hW2⟩ : ∃ W2, W2 = (WW (0 + 1 + 1)).drewN n2 := ⟨_, rfl⟩
    obtain ⟨cs2, hcs2⟩ : ∃ cs2, cs2 = (cs.setIfInBounds (2 + s) (.int .i64 (A : Int))).setIfInBounds (9 + s) (.int .i64 (C : Int)) := ⟨_, rfl⟩
    have hother : ∀ k, k ≠ w.heap.size + 3 → W2.heap[k]? = W1.heap[k]? := by
      intro k hk
      rw [hW2, HWW.out]
      show ((W1.setCell ⟨w.heap.size + 1 + 1 + 1, 2 + s, none⟩ (.int .i64 (A : Int))).setCell ⟨w.heap.size + 1 + 1 + 1, 9 + s, none⟩ (.int .i64 (C : Int))).heap[k]? = _
      rw [heap_setCell_other _ _ _ _ hk, heap_setCell_other _ _ _ _ hk]
    have f3 : W2.heap[w.heap.size + 3]? = some (.cells cs2 28 (0, 0)) := by
      rw [hW2, HWW.out, hcs2]
      exact heap_setCell_same _ _ _ _ _ _ (heap_setCell_same _ _ _ _ _ _ F3.out)
    have hB2 : Below w.heap.size w W2 := by
      have h1 := (HB.out).trans ((HW1.out).mono (HB.out).size)
      rw [hW2, HWW.out]
      exact below_drewN ((h1.setCell (p := ⟨w.heap.size + 1 + 1 + 1, 2 + s, none⟩) (by simp; omega) _).setCell (p := ⟨w.heap.size + 1 + 1 + 1, 9 + s, none⟩) (by simp; omega) _) _
    have hsz1 := HS16.out
    have hT : TabAt cs2 s A C := by
      refine ⟨by rw [hcs2]; simp [hsz1], ?_, ?_⟩
      · rw [hcs2, Array.getElem?_setIfInBounds_ne (by omega), Array.getElem?_setIfInBounds_self_of_lt (by rw [hsz1]; omega)]
      · rw [hcs2, Array.getElem?_setIfInBounds_self_of_lt (by rw [Array.size_setIfInBounds, hsz1]; omega)]
    have f4 : W2.heap[w.heap.size + 4]? = some (.cells #[.int .i64 (A : Int)] 3 (0, 0)) := (hother _ (by simp)).trans F4.out
    have hb0 : W2.heap[w.heap.size]? = some (.cells (countCells z0 c) 22 (0, 0)) := (hother _ (by simp)).trans HI1.out.b0
    have hb1 : W2.heap[w.heap.size + 1]? = some (.cells (zeroTab 0) 28 (0, 0)) := (hother _ (by simp)).trans HI1.out.b1
    have hb2 : W2.heap[w.heap.size + 2]? = some (.cells #[.bool false] 4 (0, 0)) := (hother _ (by simp)).trans HI1.out.b2
    have hsz2 : cs2.size = 16 := hT.1
    rw [← hW2]
    have hend : ∀ W', Calls Try.prog 35 #[.agg cs2, .int .i64 (s : Int)] W' fun e w' => e = .returned (.int .i64 ((A + C * secSize s : Nat) : Int)) ∧ Below W'.heap.size W' w' := fun W' => end_any cs2 s A C W' hT hs1 hs2 (by omega) hC2
    have hle : A + C * secSize s ≤ 1000000 := by
      have h2 : C * secSize s ≤ 1024 * 56 := Nat.mul_le_mul hC2 (secSize_le _)
      omega
    have hal : ∀ W', Calls Try.prog 34 #[.int .i64 ((A + C * secSize s : Nat) : Int)] W' fun e w' => e = .returned (.int .i64 (alignUp (A + C * secSize s) : Int)) ∧ w' = W' := fun W' => align_any _ W' (by omega)
    have HE := Lib.hid hend; have HAL := Lib.hid hal; have HT := Lib.hid hT; have HO := Lib.hid hother; have HB2 := Lib.hid hB2; have B0 := Lib.hid hb0; have B1 := Lib.hid hb1; have B2 := Lib.hid hb2; have HCS2 := Lib.hid hcs2; have HW2 := Lib.hid hW2; have HLE := Lib.hid hle
    obtain ⟨E, hE⟩ : ∃ E, E = A + C * secSize s := ⟨_, rfl⟩
    have HEE := Lib.hid hE
    rw [← hE] at HE HAL
    clear hend hal hT hother hB2 hb0 hb1 hb2 hcs2 hW2 hle R0 R4 g0 g4 g5 g6 g6' z5 z6 z6' hd1 hd2 hidx hmx hE
    gi_wp2_with (first
      | (refine wpListIn_load_row rfl 28 (.tmp 6) rfl (w.heap.size + 3) rfl 28 cs2 (0, 0) _ (by first | exact f3 | exact f3) rfl rfl (by rw [hsz2]; rfl) ?_)
      | (refine ⟨trivial, ?_⟩; gi_at_call 35; go_loud (refine (CallsIn.inRound l (callsIn_wide.2 (HE.out _))).mono ?_))
      )
    rintro e W3 ⟨rfl, hb3⟩
    have k4 : W3.cell? ⟨w.heap.size + 1 + 1 + 1 + 1, 0, none⟩ = some (.int .i64 (A : Int)) := (hb3.cell (lt_of_block f4)).trans (cell_of_one f4)
    have q4 : W3.frozen? ⟨w.heap.size + 1 + 1 + 1 + 1, 0, none⟩ = false := frozen_of_row _ _ _ _ _ ((hb3.block _ (lt_of_block f4)).trans f4)
    have HB3 := Lib.hid hb3; have F3' := Lib.hid f3; have F4' := Lib.hid f4; have SZ2 := Lib.hid hsz2
    clear hb3 f3 f4 hsz2
    gi_wp2_with (fail)
    refine ⟨trivial, ?_⟩
    refine (CallsIn.inRound l (callsIn_wide.2 (HAL.out _))).mono ?_
    rintro e W4 ⟨rfl, rfl⟩
    gi_wp2
    have hko : KeepsOthers W (W4.setCell ⟨w.heap.size + 1 + 1 + 1 + 1, 0, none⟩ (.int .i64 (alignUp E : Int))) := by
      have h1 := keepsOthers_below HW1.out
      have h2 : KeepsOthers W1 W2 := by
        rw [HW2.out, HWW.out]
        exact KeepsOthers.trans (KeepsOthers.trans (KeepsOthers.setCell W1 ⟨w.heap.size + 1 + 1 + 1, 2 + s, none⟩ (.int .i64 (A : Int))) (KeepsOthers.setCell _ ⟨w.heap.size + 1 + 1 + 1, 9 + s, none⟩ (.int .i64 (C : Int)))) ⟨Nat.le_refl _, fun _ _ h _ => h⟩
      exact ((h1.trans h2).trans (keepsOthers_below HB3.out)).trans (KeepsOthers.setCell _ _ _)
    have hk : ∀ k o, k ≠ w.heap.size + 4 → W2.heap[k]? = some o → (W4.setCell ⟨w.heap.size + 1 + 1 + 1 + 1, 0, none⟩ (.int .i64 (alignUp E : Int))).heap[k]? = some o := by
      intro k o hk h
      rw [heap_setCell_other _ _ _ _ hk]
      exact (HB3.out.block _ (lt_of_block h)).trans h
    have hst : stOf c (zeroTab frame) (pre ++ [⟨s, hs1, hs2⟩]) = (alignUp E, cs2) := by
      rw [HSN.out, stStep, ← HAE.out, ← HCSE.out, HCS2.out, HEE.out, HCE.out]
    refine ⟨hko, hko.walks, ⟨hk _ _ (by omega) B0.out, hk _ _ (by omega) B1.out, hk _ _ (by omega) B2.out, ?_, ?_⟩, ?_⟩
    · rw [hst]; exact hk _ _ (by omega) F3'.out
    · rw [hst]
      exact heap_setCell_same _ _ _ _ _ _ ((HB3.out.block _ (lt_of_block F4'.out)).trans F4'.out)
    · exact (HB2.out.trans (HB3.out.mono HB2.out.size)).setCell (p := ⟨w.heap.size + 1 + 1 + 1 + 1, 0, none⟩) (by simp; omega) _
  case done =>
    rintro D ys W hD rfl ⟨hI, hB⟩ hK
    have f0 := hI.b0; have f1 := hI.b1; have f2 := hI.b2; have f3 := hI.b3; have f4 := hI.b4
    have hA := stOf_le c (zeroTab frame) hcm (secUpto 6)
    have hst := stOf_all c frame
    have hsz : (stOf c (zeroTab frame) (secUpto 6)).2.size = 16 := stOf_size c (zeroTab frame) (secUpto 6)
    rw [secUpto_len] at hA
    rw [hst.1] at f4 hA
    obtain ⟨cs, hcse⟩ : ∃ cs, cs = (stOf c (zeroTab frame) (secUpto 6)).2 := ⟨_, rfl⟩
    rw [← hcse] at f3 hsz
    have hst2 := hst.2
    rw [← hcse] at hst2
    obtain ⟨A, hAe⟩ : ∃ A, A = nextOf c 6 := ⟨_, rfl⟩
    rw [← hAe] at f4 hA hst2
    have g4 : W.cell? ⟨w.heap.size + 1 + 1 + 1 + 1, 0, none⟩ = some (.int .i64 (A : Int)) := cell_of_one f4
    obtain ⟨v3, g3⟩ : ∃ v3, W.cell? ⟨w.heap.size + 1 + 1 + 1, 1, none⟩ = some v3 := ⟨cs[1], by rw [cell_of_row _ _ _ _ _ _ f3]; simp [hsz]⟩
    have z3 := frozen_of_row W (w.heap.size + 1 + 1 + 1) 1 cs _ f3
    have f3' : (W.setCell ⟨w.heap.size + 1 + 1 + 1, 1, none⟩ (.int .i64 ((A : Int) + 4))).heap[w.heap.size + 3]? = some (.cells (tabCells c frame) 28 (0, 0)) := by
      rw [heap_setCell_same _ _ _ _ _ _ f3, ← hst2]
      rfl
    have hK' := (KeepsOthers.setCell W ⟨w.heap.size + 1 + 1 + 1, 1, none⟩ (.int .i64 ((A : Int) + 4))).same D _ hK rfl
    have f1' := (heap_setCell_other W ⟨w.heap.size + 1 + 1 + 1, 1, none⟩ (w.heap.size + 1) (.int .i64 ((A : Int) + 4)) (by simp)).trans f1
    have f2' := (heap_setCell_other W ⟨w.heap.size + 1 + 1 + 1, 1, none⟩ (w.heap.size + 2) (.int .i64 ((A : Int) + 4)) (by simp)).trans f2
    have hB' := hB.setCell (p := ⟨w.heap.size + 1 + 1 + 1, 1, none⟩) (by simp; omega) (.int .i64 ((A : Int) + 4))
    have f2s := (setRow_other (W.setCell ⟨w.heap.size + 1 + 1 + 1, 1, none⟩ (.int .i64 ((A : Int) + 4))) (w.heap.size + 1) (w.heap.size + 2) (tabCells c frame) (by omega)).trans f2'
    have gB : ((W.setCell ⟨w.heap.size + 1 + 1 + 1, 1, none⟩ (.int .i64 ((A : Int) + 4))).setRow (w.heap.size + 1) (tabCells c frame)).cell? ⟨w.heap.size + 1 + 1, 0, none⟩ = some (.bool false) := cell_of_one f2s
    have zB := frozen_of_row ((W.setCell ⟨w.heap.size + 1 + 1 + 1, 1, none⟩ (.int .i64 ((A : Int) + 4))).setRow (w.heap.size + 1) (tabCells c frame)) (w.heap.size + 1 + 1) 0 _ _ f2s
    have HF2s := Lib.hid f2s
    clear f2s
    have HF1 := Lib.hid f1'; have HF2 := Lib.hid f2'; have HF3 := Lib.hid f3'; have HK := Lib.hid hK'; have HB := Lib.hid hB'
    have hA3 : A ≤ 1000000 := by omega
    clear hI f0 f1 f2 f3 f4 hst hst2 hcse hAe f1' f2' f3' hB' hK' hK hB hsz hA hI0 hB0
    gi_wp2_with (first
      | (refine wpListIn_load_row rfl 28 (.tmp 6) rfl (w.heap.size + 3) rfl 28 (tabCells c frame) (0, 0) _ HF3.out rfl rfl rfl ?_)
      | (refine wpListIn_store_row rfl 28 (.tmp 4) (.tmp 45) rfl (w.heap.size + 1) (tabCells c frame) rfl rfl 28 (zeroTab 0) HF1.out rfl rfl (by simp [tabCells, Value.oneCell']) ?_))
    obtain ⟨WE, hWE⟩ : ∃ WE, WE = (((W.setCell ⟨w.heap.size + 1 + 1 + 1, 1, none⟩ (.int .i64 ((A : Int) + 4))).setRow (w.heap.size + 1) (tabCells c frame)).setCell ⟨w.heap.size + 1 + 1, 0, none⟩ (.bool true)) := ⟨_, rfl⟩
    rw [← hWE]
    have e1 : WE.heap[w.heap.size + 1]? = some (.cells (tabCells c frame) 28 (0, 0)) := by
      rw [hWE, heap_setCell_other _ _ _ _ (by simp)]
      exact setRow_heap _ _ _ _ _ _ HF1.out
    have e2 : WE.heap[w.heap.size + 2]? = some (.cells #[.bool true] 4 (0, 0)) := by
      rw [hWE]
      exact heap_setCell_same _ _ _ _ _ _ HF2s.out
    have eD : WE.heap[D]? = some (.deferred (some [])) := by
      rw [hWE, heap_setCell_other _ _ _ _ (by simp; omega), setRow_other _ _ _ _ (by omega)]
      exact HK.out
    have eB : Below w.heap.size w WE := by
      rw [hWE]
      exact (below_setRow HB.out (by omega) _).setCell (p := ⟨w.heap.size + 1 + 1, 0, none⟩) (by simp; omega) _
    refine ⟨by simp, .inl ⟨_, _, rfl, run_takeDeferred eD, ?_⟩⟩
    have k1 : (WE.putObj D (.deferred none)).heap[w.heap.size + 1]? = some (.cells (tabCells c frame) 28 (0, 0)) := (World.putObj_heap_other (by omega)).trans e1
    have k2 : (WE.putObj D (.deferred none)).heap[w.heap.size + 2]? = some (.cells #[.bool true] 4 (0, 0)) := (World.putObj_heap_other (by omega)).trans e2
    have kB : Below w.heap.size w (WE.putObj D (.deferred none)) := by
      exact ⟨eB.os, eB.tape, eB.output, by simp only [World.putObj, Array.size_modify, Array.size_setIfInBounds]; exact eB.size, fun k hk => (World.putObj_heap_other (by omega)).trans (eB.block k hk)⟩
    exact ⟨_, results_row_cell rfl _ _ (w.heap.size + 1) _ (tabCells c frame) (0, 0) _ rfl k1 rfl rfl rfl (w.heap.size + 2) (.bool true) _ rfl (cell_of_one k2) rfl rfl, rfl, kB⟩
  case stop =>
    rintro D cc pre W _ _ h _
    exact h.elim
end Go.Proofs.Ythmenbehpblljaa
