/-
  Section of the table.
-/
import Derived.Test.YthmenbehpblljaaTabCS
import Derived.Laws.CopyOwn
namespace Go.Proofs.Ythmenbehpblljaa
open Go.RowKit Go.Shelf
attribute [local go_sem] Oper.semAt_some

theorem secUpto_mem (s : Nat) (h1 : 1 ≤ s) (h2 : s ≤ 6) : (⟨s, h1, h2⟩ : Sec) ∈ secUpto 6 := by
  rw [secUpto6]
  rcases six s h1 h2 with rfl | rfl | rfl | rfl | rfl | rfl <;> simp

theorem results_cells2 {P : Program} {fn : Func} {p q : Tmp} {ta tb : TypeId} (h : fn.results = #[.cell p ta, .cell q tb]) (tmps : Array Value) (w : World) (d1 d2 : TypeDesc)
    (g1 : Nat) (u1 : Value) (hp : tmps.getD p undef = .pointer (some ⟨g1, 0, none⟩)) (hg1 : w.cell? ⟨g1, 0, none⟩ = some u1) (hu1 : P.underlying ta = some d1) (hd1 : (match d1 with | .struct _ | .array _ _ => true | _ => false) = false)
    (g2 : Nat) (u2 : Value) (hq : tmps.getD q undef = .pointer (some ⟨g2, 0, none⟩)) (hg2 : w.cell? ⟨g2, 0, none⟩ = some u2) (hu2 : P.underlying tb = some d2) (hd2 : (match d2 with | .struct _ | .array _ _ => true | _ => false) = false) :
    (results fn tmps).run P w = .ok (.tuple #[u1, u2]) w := by
  have hp' : tmps[p]?.getD undef = .pointer (some ⟨g1, 0, none⟩) := by simpa using hp
  have hq' : tmps[q]?.getD undef = .pointer (some ⟨g2, 0, none⟩) := by simpa using hq
  have h1 : (loadVar ta ⟨g1, 0, none⟩).run P w = .ok u1 w := by
    cases d1 <;> first | (simp at hd1; done) | simp [loadVar, isAgg, underlying, hu1, go_sem, hg1]
  have h2 : (loadVar tb ⟨g2, 0, none⟩).run P w = .ok u2 w := by
    cases d2 <;> first | (simp at hd2; done) | simp [loadVar, isAgg, underlying, hu2, go_sem, hg2]
  simp [results, h, hp', hq', asAddr, h1, h2]

set_option maxRecDepth 100000 in
set_option maxHeartbeats 6000000 in
theorem section_in (c : Nat → Nat) (frame : Int) (p : Nat) (w : World) (hc : CountsOk c) (hp1 : 80 ≤ p) (hp2 : p < nextOf c 6) :
    Calls Try.prog 12 #[.agg (tabCells c frame), .int .i64 (p : Int)] w (RetSec c (p : Int) w) := by
  have hN := nextOf_le c (fun s => Nat.le_trans (hc s) (secLimit_le s)) 6
  obtain ⟨N, hNe⟩ : ∃ N, N = nextOf c 6 := ⟨_, rfl⟩
  have hcell : ((((w.alloc (.cells (tabCells c frame) 28)).alloc (.cells #[.int .i64 (p : Int)] 3)).alloc (.cells #[.int .i64 0] 3)).alloc (.cells #[.int .i64 0] 3)).cell? ⟨w.heap.size, 1, none⟩ = some (.int .i64 ((N : Int) + 4)) := by rw [cell_of_row _ _ _ _ _ _ (secI_start c frame p w).b0, hNe]; rfl
  have hSI : ∀ a b, SecIsN N c (p : Int) a b → SecIs c (p : Int) a b := by rw [hNe]; exact fun _ _ h => h
  rw [← hNe] at hN hp2
  have HSI := Lib.hid hSI; have HNE := Lib.hid hNe; have HC := Lib.hid hc
  clear hSI hNe hc
  have t1 : decide ((p : Int) < 0) = false := by simp
  have t2 : decide ((N : Int) + 4 ≤ (p : Int)) = false := by simp; omega
  have t3 : decide ((p : Int) < 80) = false := by simp; omega
  have t4 : decide (N ≤ p) = false := by simp; omega
  have t2' : decide (N + 4 ≤ p) = false := by simp; omega
  have t3' : decide (p < 80) = false := by simp; omega
  have hI0 := secI_start c frame p w
  have hB0 : Below w.heap.size w ((((w.alloc (.cells (tabCells c frame) 28)).alloc (.cells #[.int .i64 (p : Int)] 3)).alloc (.cells #[.int .i64 0] 3)).alloc (.cells #[.int .i64 0] 3)) :=
    (((((Below.refl _ w).alloc (Nat.le_refl _) _).alloc (by simp) _).alloc (by simp; omega) _).alloc (by simp; omega) _)
  refine (callsIn_wide (n := 5)).1 ?_
  refine callsIn_of_wp_marks Try.func12 rfl trivial ?_ rfl
  simp only [Try.ntmps12, List.size_toArray, List.length_cons, List.length_nil, Nat.reduceAdd, Nat.reduceSub, Array.replicate_succ, Array.replicate_zero, List.push_toArray, List.append_toArray, List.nil_append, List.cons_append]
  gi_wp2_with (refine ⟨trivial, ?_⟩; gi_at_call 32; go_loud (refine (callsIn_wide.2 (sections_any _)).mono ?_); rintro e w' ⟨rfl, rfl⟩)
  obtain ⟨W0, hW0⟩ : ∃ W0, ((((w.alloc (.cells (tabCells c frame) 28)).alloc (.cells #[.int .i64 (p : Int)] 3)).alloc (.cells #[.int .i64 0] 3)).alloc (.cells #[.int .i64 0] 3)) = W0 := ⟨_, rfl⟩
  have hz0 : W0.heap.size = w.heap.size + 4 := by rw [← hW0]; simp
  show Code.wpIn _ _ _ _ _ _ ((((w.alloc (.cells (tabCells c frame) 28)).alloc (.cells #[.int .i64 (p : Int)] 3)).alloc (.cells #[.int .i64 0] 3)).alloc (.cells #[.int .i64 0] 3))
  rw [hW0] at hI0 hB0 ⊢
  clear hcell hW0 t1 t2 t3 t4 t2' t3'
  refine wpIn_rangeFunc_ownF rfl (by omega) (gf := 55) (lb := #[]) rfl trivial (enters_of Try.func55 (by kernel_rfl) rfl)
    (sections_stops Fence.wide (5 - 1) trivial rfl (by omega) W0) walksK_t walksK_b (Below.refl _ _) (fun _ => rfl)
    (fun pre W => SecI c frame p w.heap.size pre W ∧ Below w.heap.size w W)
    (fun cc pre W => (cc = .ret ∧ SecX c p w.heap.size pre W) ∧ Below w.heap.size w W)
    (OwnFrom.and (Own.from (secI_own c frame p w.heap.size) _) (ownFrom_below (Nat.le_refl _) (by omega)))
    (fun cc => OwnFrom.and (Own.from (fun _ _ _ _ hs hg hr => ⟨hs.1, secX_own c p w.heap.size _ _ _ _ hs.2 hg hr⟩) _) (ownFrom_below (Nat.le_refl _) (by omega)))
    ⟨hI0, hB0⟩
    (fun x => { tmps := #[.agg (tabCells c frame), .int .i64 (p : Int), .pointer (some ⟨w.heap.size, 0, none⟩), .pointer (some ⟨w.heap.size + 1, 0, none⟩), .pointer (some ⟨w.heap.size + 1 + 1, 0, none⟩), .pointer (some ⟨w.heap.size + 1 + 1 + 1, 0, none⟩), .int .i64 (x.1 : Int), .bool false, .int .i64 (p : Int), .bool false, .bool false, .int .i64 (p : Int), .pointer (some ⟨w.heap.size, 1, none⟩), .int .i64 ((N : Int) + 4), .bool false, .bool false, .bool false, .int .i64 (p : Int), .bool false, .bool false, .int .i64 (p : Int), .pointer (some ⟨w.heap.size, 1, none⟩), .int .i64 ((N : Int) + 4), .int .i64 (N : Int), .bool false, .func (.func 55) #[] #[], .int .i64 (x.1 : Int), .int .i64 (32 + 8 * ((x.1 : Int) - 1)), undef, undef, undef, undef, undef, undef, undef, undef, undef, undef, undef, undef, undef, undef, undef, undef, undef, undef, undef, undef, undef, undef, undef], defers := [] }) ?assign ?body ?done ?stop
  case assign =>
    intro l x W K hK
    gi_wp2
    exact hK
  case body =>
    rintro l pre ⟨s, hs1, hs2⟩ W ⟨hI, hB⟩ hlt
    have hcm : c s ≤ 1024 := Nat.le_trans (HC.out s) (secLimit_le s)
    have hO := nextOf_le c (fun s => Nat.le_trans (HC.out s) (secLimit_le s)) (s - 1)
    have hT := tabAt_tab c frame s hs1 hs2
    have hzS := secSize_le s
    have hzS0 := secSize_pos s
    obtain ⟨C, hCe⟩ : ∃ C, C = c s := ⟨_, rfl⟩
    obtain ⟨O, hOe⟩ : ∃ O, O = nextOf c (s - 1) := ⟨_, rfl⟩
    obtain ⟨S, hS⟩ : ∃ S, S = secSize s := ⟨_, rfl⟩
    have hO2 : O ≤ 400000 := by rw [hOe]; omega
    have hend : ∀ W', Calls Try.prog 35 #[.agg (tabCells c frame), .int .i64 (s : Int)] W' fun e w' => e = .returned (.int .i64 ((O + C * S : Nat) : Int)) ∧ Below W'.heap.size W' w' := fun W' => by
      rw [hOe, hCe, hS]; exact end_any (tabCells c frame) s _ _ W' hT hs1 hs2 (by omega) hcm
    have hsz : ∀ W', Calls Try.prog 37 #[.int .i64 (s : Int)] W' fun e w' => e = .returned (.int .i64 (S : Int)) ∧ w' = W' := fun W' => by rw [hS]; exact size_any s W' hs1 hs2
    rw [← hCe, ← hOe] at hT
    rw [← hS] at hzS hzS0
    have hm : C * S ≤ 1024 * 56 := by rw [hCe]; exact Nat.mul_le_mul hcm hzS
    obtain ⟨E, hEe⟩ : ∃ E, E = O + C * S := ⟨_, rfl⟩
    rw [← hEe] at hend
    have hE2 : E ≤ 500000 := by omega
    have g1 : W.cell? ⟨w.heap.size + 1, 0, none⟩ = some (.int .i64 (p : Int)) := cell_of_one hI.b1
    have g0 : W.cell? ⟨w.heap.size, 2 + s, none⟩ = some (.int .i64 (O : Int)) := by rw [cell_of_row _ _ _ _ _ _ hI.b0]; exact hT.2.1
    have f0 := hI.b0
    have s7 : (s : Int) < 7 := by omega
    have s70 : (0 : Int) ≤ s := by omega
    have hmx : Try.prog.follows .mixedOrders = true := by kernel_rfl
    have HI := Lib.hid hI; have HB := Lib.hid hB; have HT := Lib.hid hT; have HE := Lib.hid hend; have HSZ := Lib.hid hsz; have HCE := Lib.hid hCe; have HOE := Lib.hid hOe; have HS := Lib.hid hS; have HEE := Lib.hid hEe; have F0 := Lib.hid f0
    clear hI hB hT hend hsz hcm hO hCe hOe hS hm hEe hI0 hB0 hlt f0
    by_cases q1 : O ≤ p
    · have t1 : decide (O ≤ p) = true := by simp [q1]
      by_cases q2 : p < E
      · have t2 : decide (p < E) = true := by simp [q2]
        gi_wp2
        refine wpIn_region_quiet_rlit (C := fun W' => Below W.heap.size W W') hmx (by kernel_rfl) (by kernel_rfl) ((Below.refl _ W).drew) ?_
        repeat (first
          | go_big_quiet_skip
          | (go_big_quiet_want; first
            | (go_big_quiet_op; first
              | go_big_quiet_on
              | (refine ⟨_, fun w' hw' => rfl, ?_⟩; go_big_quiet_on)
              | (apply Exists.intro; refine ⟨fun w' hw' => ?_, ?_⟩; (rw [(hw'.cell (block_lt_of_cell g0)).trans g0]; exact ⟨rfl, rfl⟩); go_big_quiet_on)
              | (apply Exists.intro; refine ⟨fun w' hw' => ?_, ?_⟩; (rw [(hw'.cell (block_lt_of_cell g1)).trans g1]; exact ⟨rfl, rfl⟩); go_big_quiet_on)
              | (apply Exists.intro; refine ⟨fun w' hw' => ?_, ?_⟩; (refine (HE.out w').mono ?_; rintro e w2 ⟨rfl, hb⟩; exact ⟨rfl, hw'.trans (hb.mono hw'.size)⟩); go_big_quiet_on))
            | (refine quiet_load_row 28 (.tmp 2) rfl w.heap.size rfl 28 (tabCells c frame) (0, 0) _ (fun w' hw' => (hw'.block _ (lt_of_block F0.out)).trans F0.out) rfl rfl rfl ?_; simp only [Act.put, List.setIfInBounds_toArray, List.set_cons_succ, List.set_cons_zero]; go_big_quiet_on)))
        refine wpQuiet_nil ?_
        intro W1 hW1
        gi_wp2
        obtain ⟨D, hD⟩ : ∃ D, D = p - O := ⟨_, rfl⟩
        have hw1 : IntKind.i64.wrap ((p : Int) - (O : Int)) = (D : Int) := by rw [IntKind.wrap_i64]; omega
        have hDS : D / S ≤ D := Nat.div_le_self _ _
        obtain ⟨q, hq⟩ : ∃ q, q = D / S := ⟨_, rfl⟩
        have hdv : Int.tdiv (D : Int) (S : Int) = (q : Int) := by rw [Int.tdiv_eq_ediv_of_nonneg (by omega), hq]; rfl
        rw [← hq] at hDS
        have hD5 : D ≤ 1000000 := by omega
        have hw2 : IntKind.i64.wrap (q : Int) = (q : Int) := by rw [IntKind.wrap_i64]; omega
        have HD := Lib.hid hD; have HQ := Lib.hid hq
        clear hD hq
        have hS0 : (S : Int) ≠ 0 := by omega
        have HI1 := Lib.hid (HI.out.below hW1)
        have f2 := HI1.out.b2; have f3 := HI1.out.b3
        have r0 : W1.cell? ⟨w.heap.size, 2 + s, none⟩ = some (.int .i64 (O : Int)) := (hW1.cell (block_lt_of_cell g0)).trans g0
        have r1 : W1.cell? ⟨w.heap.size + 1, 0, none⟩ = some (.int .i64 (p : Int)) := (hW1.cell (block_lt_of_cell g1)).trans g1
        have r2 : W1.cell? ⟨w.heap.size + 1 + 1, 0, none⟩ = some (.int .i64 0) := cell_of_one f2
        have r3 : (W1.setCell ⟨w.heap.size + 1 + 1, 0, none⟩ (.int .i64 (s : Int))).cell? ⟨w.heap.size + 1 + 1 + 1, 0, none⟩ = some (.int .i64 0) := by
          rw [World.cell?_setCell_other _ _ _ _ (by simp <;> omega)]; exact cell_of_one f3
        have z2 := frozen_of_row W1 (w.heap.size + 1 + 1) 0 _ _ f2
        have z3 : (W1.setCell ⟨w.heap.size + 1 + 1, 0, none⟩ (.int .i64 (s : Int))).frozen? ⟨w.heap.size + 1 + 1 + 1, 0, none⟩ = false := by
          rw [World.frozen?_setCell]; exact frozen_of_row W1 (w.heap.size + 1 + 1 + 1) 0 _ _ f3
        obtain ⟨WW, hWW⟩ : ∃ WW : Nat → World, WW = fun m => match m with | 0 => W1 | 1 => W1.setCell ⟨w.heap.size + 1 + 1, 0, none⟩ (.int .i64 (s : Int)) | _ => (W1.setCell ⟨w.heap.size + 1 + 1, 0, none⟩ (.int .i64 (s : Int))).setCell ⟨w.heap.size + 1 + 1 + 1, 0, none⟩ (.int .i64 (q : Int)) := ⟨_, rfl⟩
        have R0 : ∀ m, (WW m).cell? ⟨w.heap.size, 2 + s, none⟩ = some (.int .i64 (O : Int)) := by
          intro m
          rw [hWW]
          match m with
          | 0 => exact r0
          | 1 => simp only []; rw [World.cell?_setCell_other _ _ _ _ (by simp <;> omega)]; exact r0
          | _ + 2 => simp only []; rw [World.cell?_setCell_other _ _ _ _ (by simp <;> omega), World.cell?_setCell_other _ _ _ _ (by simp <;> omega)]; exact r0
        have R1 : ∀ m, (WW m).cell? ⟨w.heap.size + 1, 0, none⟩ = some (.int .i64 (p : Int)) := by
          intro m
          rw [hWW]
          match m with
          | 0 => exact r1
          | 1 => simp only []; rw [World.cell?_setCell_other _ _ _ _ (by simp <;> omega)]; exact r1
          | _ + 2 => simp only []; rw [World.cell?_setCell_other _ _ _ _ (by simp <;> omega), World.cell?_setCell_other _ _ _ _ (by simp <;> omega)]; exact r1
        have HWW := Lib.hid hWW
        have c0W : WW 0 = W1 := by rw [hWW]; rfl
        have HW1 := Lib.hid hW1; have F2 := Lib.hid f2; have F3 := Lib.hid f3
        clear hWW r0 r1 hW1 f2 f3 g0 g1 t1 t2
        refine wpIn_region_stage_round (C := fun m w' => ∃ n, w' = (WW m).drewN n) hmx (by kernel_rfl) (by kernel_rfl) ⟨1, by rw [c0W]; rfl⟩ ?_
        clear c0W
        repeat (first
          | (refine wpStage_step rfl rfl ?_; first
              | (go_big_quiet_skip; refine wpQuiet_nil ?_)
              | (go_big_quiet_want; go_big_quiet_op; first
                | (go_big_quiet_on; refine wpQuiet_nil ?_)
                | (refine ⟨_, fun w' m n hw' => rfl, ?_⟩; go_big_quiet_on; refine wpQuiet_nil ?_)
                | (apply Exists.intro; refine ⟨?_, ?_⟩; (rintro w' m n rfl; rw [World.cell?_drewN, R0]; exact ⟨rfl, rfl⟩); go_big_quiet_on; refine wpQuiet_nil ?_)
                | (apply Exists.intro; refine ⟨?_, ?_⟩; (rintro w' m n rfl; rw [World.cell?_drewN, R1]; exact ⟨rfl, rfl⟩); go_big_quiet_on; refine wpQuiet_nil ?_)))
          | (refine wpStage_call 37 #[.int .i64 (s : Int)] (.int .i64 (S : Int)) rfl rfl (fun w' => by simp [execOp, go_sem]) HSZ.out ?_; simp only [Act.put, List.setIfInBounds_toArray, List.set_cons_succ, List.set_cons_zero])
          | (refine wpStage_store rfl rfl rfl (turns_store_int rfl ⟨w.heap.size + 1 + 1, 0, none⟩ rfl .i64 (s : Int) rfl (c0 := .int .i64 0) (by rw [HWW.out]; exact r2) (by rw [HWW.out]; exact z2) (by kernel_rfl) (by rw [HWW.out]; rfl)) ?_)
          | (refine wpStage_store rfl rfl rfl (turns_store_int rfl ⟨w.heap.size + 1 + 1 + 1, 0, none⟩ rfl .i64 (q : Int) rfl (c0 := .int .i64 0) (by rw [HWW.out]; exact r3) (by rw [HWW.out]; exact z3) (by kernel_rfl) (by rw [HWW.out]; rfl)) ?_))
        refine wpStage_nil ?_
        rintro _ ⟨n2, rfl⟩
        obtain ⟨W2, hW2⟩ : ∃ W2, W2 = (WW (0 + 1 + 1)).drewN n2 := ⟨_, rfl⟩
        rw [← hW2]
        rw [HWW.out] at hW2
        have HW2 := Lib.hid hW2
        clear hW2
        gi_wp2
        have hW2 := HW2.out
        have e2 : W2.heap[w.heap.size + 2]? = some (.cells #[.int .i64 (s : Int)] 3 (0, 0)) := by
          rw [hW2]
          exact (heap_setCell_other _ ⟨w.heap.size + 1 + 1 + 1, 0, none⟩ _ _ (by simp)).trans (heap_setCell_same _ _ _ _ _ _ F2.out)
        have e3 : W2.heap[w.heap.size + 3]? = some (.cells #[.int .i64 (q : Int)] 3 (0, 0)) := by
          rw [hW2]
          exact heap_setCell_same _ _ _ _ _ _ ((heap_setCell_other _ ⟨w.heap.size + 1 + 1, 0, none⟩ _ _ (by simp)).trans F3.out)
        have eB : Below w.heap.size w W2 := by
          have h1 := (HB.out).trans ((HW1.out).mono (HB.out).size)
          rw [hW2]
          exact below_drewN ((h1.setCell (p := ⟨w.heap.size + 1 + 1, 0, none⟩) (by simp; omega) _).setCell (p := ⟨w.heap.size + 1 + 1 + 1, 0, none⟩) (by simp; omega) _) _
        have eK : KeepsOthers W W2 := by
          have h1 := keepsOthers_below HW1.out
          rw [hW2]
          exact h1.trans (KeepsOthers.trans (KeepsOthers.trans (KeepsOthers.setCell W1 ⟨w.heap.size + 1 + 1, 0, none⟩ (.int .i64 (s : Int))) (KeepsOthers.setCell _ ⟨w.heap.size + 1 + 1 + 1, 0, none⟩ (.int .i64 (q : Int)))) ⟨Nat.le_refl _, fun _ _ h _ => h⟩)
        have hin : InSec c s p := ⟨by rw [← HOE.out]; exact q1, by rw [← HOE.out, ← HCE.out, ← HS.out, ← HEE.out]; exact q2⟩
        exact ⟨eK, ⟨rfl, ⟨s, hs1, hs2, hin, e2, by rw [← HOE.out, ← HS.out, ← HD.out, ← HQ.out]; exact e3⟩⟩, eB⟩
      · have t2 : decide (p < E) = false := by simp; omega
        gi_wp2
        refine wpIn_region_quiet_rlit (C := fun W' => Below W.heap.size W W') hmx (by kernel_rfl) (by kernel_rfl) ((Below.refl _ W).drew) ?_
        repeat (first
          | go_big_quiet_skip
          | (go_big_quiet_want; first
            | (go_big_quiet_op; first
              | go_big_quiet_on
              | (refine ⟨_, fun w' hw' => rfl, ?_⟩; go_big_quiet_on)
              | (apply Exists.intro; refine ⟨fun w' hw' => ?_, ?_⟩; (rw [(hw'.cell (block_lt_of_cell g0)).trans g0]; exact ⟨rfl, rfl⟩); go_big_quiet_on)
              | (apply Exists.intro; refine ⟨fun w' hw' => ?_, ?_⟩; (rw [(hw'.cell (block_lt_of_cell g1)).trans g1]; exact ⟨rfl, rfl⟩); go_big_quiet_on)
              | (apply Exists.intro; refine ⟨fun w' hw' => ?_, ?_⟩; (refine (HE.out w').mono ?_; rintro e w2 ⟨rfl, hb⟩; exact ⟨rfl, hw'.trans (hb.mono hw'.size)⟩); go_big_quiet_on))
            | (refine quiet_load_row 28 (.tmp 2) rfl w.heap.size rfl 28 (tabCells c frame) (0, 0) _ (fun w' hw' => (hw'.block _ (lt_of_block F0.out)).trans F0.out) rfl rfl rfl ?_; simp only [Act.put, List.setIfInBounds_toArray, List.set_cons_succ, List.set_cons_zero]; go_big_quiet_on)))
        refine wpQuiet_nil ?_
        intro W1 hW1
        gi_wp2
        refine ⟨keepsOthers_below hW1, (keepsOthers_below hW1).walks, ⟨(HI.out.below hW1).b0, (HI.out.below hW1).b1, (HI.out.below hW1).b2, (HI.out.below hW1).b3, ?_⟩, HB.out.trans (hW1.mono HB.out.size)⟩
        intro x hx
        rcases List.mem_append.1 hx with h | h
        · exact HI.out.no x h
        · obtain rfl := List.mem_singleton.1 h
          rintro ⟨h1, h2⟩
          rw [← HOE.out] at h1
          rw [← HOE.out, ← HCE.out, ← HS.out, ← HEE.out] at h2
          omega
    · have t1 : decide (O ≤ p) = false := by simp; omega
      gi_wp2
      refine wpIn_region_quiet_rlit (C := fun W' => Below W.heap.size W W') hmx (by kernel_rfl) (by kernel_rfl) ((Below.refl _ W).drew) ?_
      repeat (first
        | go_big_quiet_skip
        | (go_big_quiet_want; first
          | (go_big_quiet_op; first
            | go_big_quiet_on
            | (refine ⟨_, fun w' hw' => rfl, ?_⟩; go_big_quiet_on)
            | (apply Exists.intro; refine ⟨fun w' hw' => ?_, ?_⟩; (rw [(hw'.cell (block_lt_of_cell g0)).trans g0]; exact ⟨rfl, rfl⟩); go_big_quiet_on)
            | (apply Exists.intro; refine ⟨fun w' hw' => ?_, ?_⟩; (rw [(hw'.cell (block_lt_of_cell g1)).trans g1]; exact ⟨rfl, rfl⟩); go_big_quiet_on)
            | (apply Exists.intro; refine ⟨fun w' hw' => ?_, ?_⟩; (refine (HE.out w').mono ?_; rintro e w2 ⟨rfl, hb⟩; exact ⟨rfl, hw'.trans (hb.mono hw'.size)⟩); go_big_quiet_on))
          | (refine quiet_load_row 28 (.tmp 2) rfl w.heap.size rfl 28 (tabCells c frame) (0, 0) _ (fun w' hw' => (hw'.block _ (lt_of_block F0.out)).trans F0.out) rfl rfl rfl ?_; simp only [Act.put, List.setIfInBounds_toArray, List.set_cons_succ, List.set_cons_zero]; go_big_quiet_on)))
      refine wpQuiet_nil ?_
      intro W1 hW1
      gi_wp2
      refine ⟨keepsOthers_below hW1, (keepsOthers_below hW1).walks, ⟨(HI.out.below hW1).b0, (HI.out.below hW1).b1, (HI.out.below hW1).b2, (HI.out.below hW1).b3, ?_⟩, HB.out.trans (hW1.mono HB.out.size)⟩
      intro x hx
      rcases List.mem_append.1 hx with h | h
      · exact HI.out.no x h
      · obtain rfl := List.mem_singleton.1 h
        rintro ⟨h1, h2⟩
        rw [← HOE.out] at h1
        rw [← HOE.out, ← HCE.out, ← HS.out, ← HEE.out] at h2
        omega
  case done =>
    rintro D ys W hD rfl ⟨hI, hB⟩ hK
    have hD0 : w.heap.size + 4 ≤ D := by omega
    have g2 : W.cell? ⟨w.heap.size + 1 + 1, 0, none⟩ = some (.int .i64 0) := cell_of_one hI.b2
    have g3 : W.cell? ⟨w.heap.size + 1 + 1 + 1, 0, none⟩ = some (.int .i64 0) := cell_of_one hI.b3
    have z2 := frozen_of_row W (w.heap.size + 1 + 1) 0 _ _ hI.b2
    have z3 := frozen_of_row W (w.heap.size + 1 + 1 + 1) 0 _ _ hI.b3
    have HI := Lib.hid hI; have HB := Lib.hid hB; have HK := Lib.hid hK
    clear hI hB hK hI0 hB0
    gi_wp2
    obtain ⟨WE, hWE⟩ : ∃ WE, WE = ((W.setCell ⟨w.heap.size + 1 + 1, 0, none⟩ (.int .i64 (-1))).setCell ⟨w.heap.size + 1 + 1 + 1, 0, none⟩ (.int .i64 (-1))) := ⟨_, rfl⟩
    rw [← hWE]
    have e1 : WE.heap[w.heap.size + 2]? = some (.cells #[.int .i64 (-1)] 3 (0, 0)) := by
      rw [hWE, heap_setCell_other _ _ _ _ (by simp)]
      exact heap_setCell_same _ _ _ _ _ _ HI.out.b2
    have e2 : WE.heap[w.heap.size + 3]? = some (.cells #[.int .i64 (-1)] 3 (0, 0)) := by
      rw [hWE]
      refine heap_setCell_same _ _ _ _ _ _ ((heap_setCell_other _ _ _ _ (by simp)).trans HI.out.b3)
    have eD : WE.heap[D]? = some (.deferred (some [])) := by
      rw [hWE, heap_setCell_other _ _ _ _ (by simp; omega), heap_setCell_other _ _ _ _ (by simp; omega)]
      exact HK.out
    have eB : Below w.heap.size w WE := by
      rw [hWE]
      exact (HB.out.setCell (p := ⟨w.heap.size + 1 + 1, 0, none⟩) (by simp; omega) _).setCell (p := ⟨w.heap.size + 1 + 1 + 1, 0, none⟩) (by simp; omega) _
    refine ⟨by simp, .inl ⟨_, _, rfl, run_takeDeferred eD, ?_⟩⟩
    have k1 := (World.putObj_heap_other (w := WE) (r := D) (o := .deferred none) (k := w.heap.size + 2) (by omega)).trans e1
    have k2 := (World.putObj_heap_other (w := WE) (r := D) (o := .deferred none) (k := w.heap.size + 3) (by omega)).trans e2
    have kB : Below w.heap.size w (WE.putObj D (.deferred none)) :=
      ⟨eB.os, eB.tape, eB.output, by simp only [World.putObj, Array.size_setIfInBounds]; exact eB.size, fun k hk => (World.putObj_heap_other (by omega)).trans (eB.block k hk)⟩
    exact ⟨_, results_cells2 rfl _ _ _ _ (w.heap.size + 2) _ rfl (cell_of_one k1) rfl rfl (w.heap.size + 3) _ rfl (cell_of_one k2) rfl rfl,
      _, _, rfl, HSI.out _ _ (.inr (.inr (.inr ⟨p, rfl, hp1, hp2, .inr ⟨fun s h1 h2 => HI.out.no _ (secUpto_mem s h1 h2), rfl, rfl⟩⟩))), kB⟩
  case stop =>
    rintro D cc pre W hD hSp ⟨⟨rfl, hX⟩, hB⟩ hK
    have hD0 : w.heap.size + 4 ≤ D := by omega
    obtain ⟨s, h1, h2, h3, h4, h5⟩ := hX.hit
    clear hI0 hB0
    gi_wp2
    refine ⟨by simp, .inl ⟨_, _, rfl, run_takeDeferred hK, ?_⟩⟩
    have k1 := (World.putObj_heap_other (w := W) (r := D) (o := .deferred none) (k := w.heap.size + 2) (by omega)).trans h4
    have k2 := (World.putObj_heap_other (w := W) (r := D) (o := .deferred none) (k := w.heap.size + 3) (by omega)).trans h5
    have kB : Below w.heap.size w (W.putObj D (.deferred none)) :=
      ⟨hB.os, hB.tape, hB.output, by simp only [World.putObj, Array.size_setIfInBounds]; exact hB.size, fun k hk => (World.putObj_heap_other (by omega)).trans (hB.block k hk)⟩
    exact ⟨_, results_cells2 rfl _ _ _ _ (w.heap.size + 2) _ rfl (cell_of_one k1) rfl rfl (w.heap.size + 3) _ rfl (cell_of_one k2) rfl rfl,
      _, _, rfl, HSI.out _ _ (.inr (.inr (.inr ⟨p, rfl, hp1, hp2, .inl ⟨s, h1, h2, h3, rfl, rfl⟩⟩))), kB⟩

set_option maxRecDepth 100000 in
set_option maxHeartbeats 2000000 in
theorem section_out (c : Nat → Nat) (frame x : Int) (w : World) (hc : CountsOk c) (hx : ¬ ∃ p : Nat, x = (p : Int) ∧ 80 ≤ p ∧ p < nextOf c 6) :
    Calls Try.prog 12 #[.agg (tabCells c frame), .int .i64 x] w (RetSec c x w) := by
  have hN := nextOf_le c (fun s => Nat.le_trans (hc s) (secLimit_le s)) 6
  have h80 := nextOf_ge c 6
  obtain ⟨N, hNe⟩ : ∃ N, N = nextOf c 6 := ⟨_, rfl⟩
  have hcell : ((((w.alloc (.cells (tabCells c frame) 28)).alloc (.cells #[.int .i64 x] 3)).alloc (.cells #[.int .i64 0] 3)).alloc (.cells #[.int .i64 0] 3)).cell? ⟨w.heap.size, 1, none⟩ = some (.int .i64 ((N : Int) + 4)) := by
    have f0 : ((((w.alloc (.cells (tabCells c frame) 28)).alloc (.cells #[.int .i64 x] 3)).alloc (.cells #[.int .i64 0] 3)).alloc (.cells #[.int .i64 0] 3)).heap[w.heap.size]? = some (.cells (tabCells c frame) 28 (0, 0)) := by
      rw [Below.heap_alloc _ _ _ (by simp; omega), Below.heap_alloc _ _ _ (by simp; omega), Below.heap_alloc _ _ _ (by simp)]
      exact alloc_at rfl
    rw [cell_of_row _ _ _ _ _ _ f0, hNe]; rfl
  have hSI : ∀ a b, SecIsN N c x a b → SecIs c x a b := by rw [hNe]; exact fun _ _ h => h
  rw [← hNe] at hN hx h80
  have key : ∀ a b : Int, SecIsN N c x a b → RetSec c x w (.returned (.tuple #[.int .i64 a, .int .i64 b])) ((((w.alloc (.cells (tabCells c frame) 28)).alloc (.cells #[.int .i64 x] 3)).alloc (.cells #[.int .i64 a] 3)).alloc (.cells #[.int .i64 b] 3)) ∧ ((((w.alloc (.cells (tabCells c frame) 28)).alloc (.cells #[.int .i64 x] 3)).alloc (.cells #[.int .i64 a] 3)).alloc (.cells #[.int .i64 b] 3)).cell? ⟨w.heap.size + 2, 0, none⟩ = some (.int .i64 a) ∧ ((((w.alloc (.cells (tabCells c frame) 28)).alloc (.cells #[.int .i64 x] 3)).alloc (.cells #[.int .i64 a] 3)).alloc (.cells #[.int .i64 b] 3)).cell? ⟨w.heap.size + 3, 0, none⟩ = some (.int .i64 b) := by
    intro a b h
    refine ⟨⟨a, b, rfl, hSI _ _ h, (((((Below.refl _ w).alloc (Nat.le_refl _) _).alloc (by simp) _).alloc (by simp; omega) _).alloc (by simp; omega) _)⟩, ?_, ?_⟩
    · refine cell_of_one (?_ : ((((w.alloc (.cells (tabCells c frame) 28)).alloc (.cells #[.int .i64 x] 3)).alloc (.cells #[.int .i64 a] 3)).alloc (.cells #[.int .i64 b] 3)).heap[w.heap.size + 2]? = some (.cells #[.int .i64 a] 3 (0, 0)))
      rw [Below.heap_alloc _ _ _ (by simp)]
      exact alloc_at (by simp)
    · exact cell_of_one (alloc_at (by simp) : ((((w.alloc (.cells (tabCells c frame) 28)).alloc (.cells #[.int .i64 x] 3)).alloc (.cells #[.int .i64 a] 3)).alloc (.cells #[.int .i64 b] 3)).heap[w.heap.size + 3]? = some (.cells #[.int .i64 b] 3 (0, 0)))
  have KEY := Lib.hid key
  clear key hSI hNe
  by_cases h1 : x < 0
  · have t1 : decide (x < 0) = true := by simp [h1]
    go_enter Try.func12, Try.ntmps12
    go_wp2
    have h := KEY.out (-2) (-2) (.inl ⟨.inl h1, rfl, rfl⟩)
    exact bodyPost_ret (results_cells2 rfl _ _ _ _ (w.heap.size + 2) _ rfl h.2.1 rfl rfl (w.heap.size + 3) _ rfl h.2.2 rfl rfl) rfl h.1
  · have t1 : decide (x < 0) = false := by simp; omega
    by_cases h2 : (N : Int) + 4 ≤ x
    · have t2 : decide ((N : Int) + 4 ≤ x) = true := by simp [h2]
      go_enter Try.func12, Try.ntmps12
      go_wp2
      have h := KEY.out (-2) (-2) (.inl ⟨.inr h2, rfl, rfl⟩)
      exact bodyPost_ret (results_cells2 rfl _ _ _ _ (w.heap.size + 2) _ rfl h.2.1 rfl rfl (w.heap.size + 3) _ rfl h.2.2 rfl rfl) rfl h.1
    · have t2 : decide ((N : Int) + 4 ≤ x) = false := by simp; omega
      by_cases h3 : x < 80
      · have t3 : decide (x < 80) = true := by simp [h3]
        go_enter Try.func12, Try.ntmps12
        go_wp2
        have h := KEY.out 0 0 (.inr (.inl ⟨by omega, h3, rfl, rfl⟩))
        exact bodyPost_ret (results_cells2 rfl _ _ _ _ (w.heap.size + 2) _ rfl h.2.1 rfl rfl (w.heap.size + 3) _ rfl h.2.2 rfl rfl) rfl h.1
      · have t3 : decide (x < 80) = false := by simp; omega
        have h4 : (N : Int) ≤ x := by
          by_cases h5 : (N : Int) ≤ x
          · exact h5
          · exact absurd ⟨x.toNat, by omega, by omega, by omega⟩ hx
        have t4 : decide ((N : Int) ≤ x) = true := by simp [h4]
        go_enter Try.func12, Try.ntmps12
        go_wp2
        have h := KEY.out 7 0 (.inr (.inr (.inl ⟨h4, by omega, rfl, rfl⟩)))
        exact bodyPost_ret (results_cells2 rfl _ _ _ _ (w.heap.size + 2) _ rfl h.2.1 rfl rfl (w.heap.size + 3) _ rfl h.2.2 rfl rfl) rfl h.1

theorem section_any (c : Nat → Nat) (frame x : Int) (w : World) (hc : CountsOk c) :
    Calls Try.prog 12 #[.agg (tabCells c frame), .int .i64 x] w (RetSec c x w) := by
  by_cases h : ∃ p : Nat, x = (p : Int) ∧ 80 ≤ p ∧ p < nextOf c 6
  · obtain ⟨p, rfl, h1, h2⟩ := h
    exact section_in c frame p w hc h1 h2
  · exact section_out c frame x w hc h
end Go.Proofs.Ythmenbehpblljaa
