/-
  Chapter 6: the cursor's next token.
-/
import Derived.Test.YtldbnfbfhbkclaaDoorLxT
namespace Go.Proofs.YtldbnfbfhbkclaaDoor
open Go.RowKit Go.Shelf

theorem results_rows2 {P : Program} {fn : Func} {p q : Tmp} {ty tb : TypeId} (h : fn.results = #[.cell p ty, .cell q tb]) (tmps : Array Value) (w : World) (g : Nat) (t : TypeId) (cs : Array Value) (fr : Nat × Nat) (d : TypeDesc)
    (hp : tmps.getD p undef = .pointer (some ⟨g, 0, none⟩)) (hg : w.heap[g]? = some (.cells cs t fr))
    (hu : P.underlying ty = some d) (hd : (match d with | .struct _ | .array _ _ => true | _ => false) = true) (hi : (P.info? ty).map (·.size) = some cs.size)
    (g2 : Nat) (t2 : TypeId) (cs2 : Array Value) (fr2 : Nat × Nat) (d2 : TypeDesc) (hq : tmps.getD q undef = .pointer (some ⟨g2, 0, none⟩)) (hg2 : w.heap[g2]? = some (.cells cs2 t2 fr2)) (hu2 : P.underlying tb = some d2) (hd2 : (match d2 with | .struct _ | .array _ _ => true | _ => false) = true) (hi2 : (P.info? tb).map (·.size) = some cs2.size) :
    (results fn tmps).run P w = .ok (.tuple #[.agg cs, .agg cs2]) w := by
  have hp' : tmps[p]?.getD undef = .pointer (some ⟨g, 0, none⟩) := by simpa using hp
  have hq' : tmps[q]?.getD undef = .pointer (some ⟨g2, 0, none⟩) := by simpa using hq
  simp [results, h, hp', hq', asAddr, run_loadVar_row w g t ty cs fr d hg hu hd hi, run_loadVar_row w g2 t2 tb cs2 fr2 d2 hg2 hu2 hd2 hi2]

def fltV (c l k : Int) : Array Value := #[.int .i64 c, .int .i64 l, .int .i64 k]
def NextEnd (C : Nat) (s : ByteArray) (i : Nat) (p : Nat × Nat) (w : World) (e : Ending) (w' : World) : Prop :=
  ∃ j, Skip s i j ∧ i ≤ j ∧ j ≤ s.size ∧ Only C w w' ∧
    ((rdAt s j).code = 0 → e = .returned (.tuple #[.agg (tokV (rdAt s j) (plTo s p i j)), .agg (fltV 0 0 0)]) ∧ IsCur C s (rdAt s j).stop (plTo s p i (rdAt s j).stop) w' ∧ j ≤ (rdAt s j).stop ∧ (rdAt s j).stop ≤ s.size) ∧
    ((rdAt s j).code ≠ 0 → e = .returned (.tuple #[.agg tok0, .agg (fltV ((rdAt s j).code : Int) ((plTo s p i j).1 : Int) ((plTo s p i j).2 : Int))]))

set_option maxRecDepth 100000 in
set_option maxHeartbeats 4000000 in
theorem next_any (C : Nat) (s : ByteArray) (i : Nat) (p : Nat × Nat) (w : World) (h : IsCur C s i p w) (hi : i ≤ s.size) (hs : s.size ≤ 100000000) (hp : Okp i p) (hG : Glob w) (hCg : C ∉ gl) :
    Calls Tryd.prog 14 #[.pointer (some ⟨C, 0, none⟩)] w (NextEnd C s i p w) := by
  have hlt := h.lt
  have HP := Lib.hid hp
  have hmx : Tryd.prog.follows .mixedOrders = true := by kernel_rfl
  obtain ⟨W0, hW0⟩ : ∃ W0, W0 = (w.alloc (.cells tok0 37)).alloc (.cells (fltV 0 0 0) 26) := ⟨_, rfl⟩
  obtain ⟨N, hN⟩ : ∃ N, N = w.heap.size := ⟨_, rfl⟩
  have hr2 : W0.heap[w.heap.size]? = some (.cells tok0 37 (0, 0)) := by rw [hW0, Below.heap_alloc _ _ _ (by simp)]; exact heap_alloc_new w _
  have hr3 : W0.heap[w.heap.size + 1]? = some (.cells (fltV 0 0 0) 26 (0, 0)) := by
    rw [hW0, show w.heap.size + 1 = (w.alloc (.cells tok0 37)).heap.size from by simp]; exact heap_alloc_new _ _
  have hcu : IsCur C s i p W0 := by rw [hW0]; exact (h.alloc _).alloc _
  have hon : Only C w W0 := by rw [hW0]; exact ((Only.refl C w).alloc _).alloc _
  have R2 := Lib.hid hr2; have R3 := Lib.hid hr3; have HC := Lib.hid hcu; have HO := Lib.hid hon; have HW0 := Lib.hid hW0; have HG := Lib.hid hG
  clear h hp hW0 hr2 hr3 hcu hon hG
  go_enter Tryd.func14, Tryd.ntmps14
  go_wp2_with (fail)
  show Calls _ _ _ ((w.alloc (.cells tok0 37)).alloc (.cells (fltV 0 0 0) 26)) _
  rw [← HW0.out]
  refine (spacing_any C s i p W0 HC.out hi (by omega) HP.out).mono ?_
  rintro e w1 ⟨j, rfl, hsk, hj1, hj2, hc1, ho1⟩
  have R21 := Lib.hid (ho1.row (by omega) R2.out); have R31 := Lib.hid (ho1.row (by omega) R3.out)
  have HC1 := Lib.hid hc1; have HO1 := Lib.hid (HO.out.trans ho1); have HSK := Lib.hid hsk
  have HOK := Lib.hid (HP.out.to (s := s) hj1)
  obtain ⟨pj, hpj⟩ : ∃ pj, pj = plTo s p i j := ⟨_, rfl⟩
  have HPJ := Lib.hid hpj
  have c0 := hc1.c0
  have c1 := hc1.c1
  rw [← hpj] at c0 c1 HC1 HOK
  clear hsk hc1 ho1 R2 R3 HC HO HW0 hpj
  go_wp2_with (fail)
  have hlt1 := HC1.out.lt
  have hsz1 : w.heap.size + 1 < w1.heap.size := lt_of_block R31.out
  obtain ⟨W1, hW1⟩ : ∃ W1, W1 = w1.alloc (.cells #[.int .i64 (pj.1 : Int), .int .i64 (pj.2 : Int)] 50) := ⟨_, rfl⟩
  have hr4 : W1.heap[w1.heap.size]? = some (.cells #[.int .i64 (pj.1 : Int), .int .i64 (pj.2 : Int)] 50 (0, 0)) := by rw [hW1]; exact heap_alloc_new w1 _
  have hr2 : W1.heap[w.heap.size]? = some (.cells tok0 37 (0, 0)) := by rw [hW1, Below.heap_alloc _ _ _ (by omega)]; exact R21.out
  have hr3 : W1.heap[w.heap.size + 1]? = some (.cells (fltV 0 0 0) 26 (0, 0)) := by rw [hW1, Below.heap_alloc _ _ _ (by omega)]; exact R31.out
  have hc : IsCur C s j pj W1 := by rw [hW1]; exact HC1.out.alloc _
  have ho : Only C w W1 := by rw [hW1]; exact HO1.out.alloc _
  have HCa := Lib.hid hc; have HOa := Lib.hid ho; have R2a := Lib.hid hr2; have R3a := Lib.hid hr3; have R4a := Lib.hid hr4
  rw [← hW1]
  clear hc ho hr2 hr3 hr4 hW1 R21 R31 HC1 HO1 c0 c1
  refine (reader_any C s j pj W1 HCa.out hj2 hs HOK.out).mono ?_
  rintro e W2 ⟨K, n, rfl, hW2, hK⟩
  have HK := Lib.hid hK
  have hcf := hK.2
  have hc : IsCur C s j pj W2 := by rw [hW2]; exact HCa.out.drewN n
  have ho : Only C w W2 := by rw [hW2]; exact HOa.out.drewN n
  have hr2 : W2.heap[w.heap.size]? = some (.cells tok0 37 (0, 0)) := by rw [hW2]; exact R2a.out
  have hr3 : W2.heap[w.heap.size + 1]? = some (.cells (fltV 0 0 0) 26 (0, 0)) := by rw [hW2]; exact R3a.out
  have hr4 : W2.heap[w1.heap.size]? = some (.cells #[.int .i64 (pj.1 : Int), .int .i64 (pj.2 : Int)] 50 (0, 0)) := by rw [hW2]; exact R4a.out
  have HCb := Lib.hid hc; have HOb := Lib.hid ho; have R2b := Lib.hid hr2; have R3b := Lib.hid hr3; have R4b := Lib.hid hr4
  have HGb := Lib.hid (HG.out.only hCg ho)
  clear hc ho hr2 hr3 hr4 hW2 R2a R3a R4a HCa HOa hK
  go_wp2_with (fail)
  refine (HK.out.1 W2 HCb.out HGb.out hCg).mono ?_
  obtain ⟨r, hrd⟩ : ∃ r, r = rdAt s j := ⟨_, rfl⟩
  rw [← hrd]
  rintro e W3 ⟨rfl, ho3, hend⟩
  have HRD := Lib.hid hrd; have HEND := Lib.hid hend
  have HO3 := Lib.hid (HOb.out.trans ho3)
  have R2c := Lib.hid (ho3.row (by omega) R2b.out); have R3c := Lib.hid (ho3.row (by omega) R3b.out); have R4c := Lib.hid (ho3.row (by omega) R4b.out)
  have hsz3 : w1.heap.size < W3.heap.size := lt_of_block R4c.out
  clear hrd hend ho3 R2b R3b R4b HCb HOb HK HGb hcf
  obtain ⟨W4, hW4⟩ : ∃ W4, W4 = (W3.alloc (.cells tok0 37)).setRow W3.heap.size (tokV r (0, 0)) := ⟨_, rfl⟩
  have hr6 : W4.heap[W3.heap.size]? = some (.cells (tokV r (0, 0)) 37 (0, 0)) := by rw [hW4]; exact setRow_heap _ _ _ _ _ (0, 0) (heap_alloc_new W3 _)
  have hk : ∀ (k : Nat) (o : Obj), W3.heap[k]? = some o → W4.heap[k]? = some o := fun k o hk => by
    have := (Array.getElem?_eq_some_iff.1 hk).1
    rw [hW4, setRow_other _ _ _ _ (by omega), Below.heap_alloc _ _ _ this]; exact hk
  have ho4 : Only C w W4 := by rw [hW4]; exact (HO3.out.alloc _).setRow (by omega) _
  have R2d := Lib.hid (hk _ _ R2c.out); have R3d := Lib.hid (hk _ _ R3c.out); have R4d := Lib.hid (hk _ _ R4c.out); have R6d := Lib.hid hr6; have HO4 := Lib.hid ho4; have HW4 := Lib.hid hW4
  have HEND4 : Hid (r.code = 0 → IsCur C s r.stop (plTo s pj j r.stop) W4 ∧ j ≤ r.stop ∧ r.stop ≤ s.size) := Lib.hid (fun hz => ⟨hk _ _ (HEND.out hz).1, (HEND.out hz).2⟩)
  have hsz4 : W3.heap.size < W4.heap.size := lt_of_block hr6
  clear hr6 hk ho4 hW4 R2c R3c R4c HO3 HEND
  by_cases hcode : r.code = 0
  · have tc : ((r.code : Int) != 0) = false := by rw [hcode]; rfl
    go_wp2_with (refine wpList_store_row rfl 37 (.tmp 6) (.tmp 19) rfl W3.heap.size (tokV r (0, 0)) rfl rfl 37 tok0 (heap_alloc_new W3 _) rfl rfl (by simp [tokV, Value.oneCell']) ?_)
    show Code.wp _ _ _ _ ((W3.alloc (.cells tok0 37)).setRow W3.heap.size (tokV r (0, 0)))
    rw [← HW4.out]
    have p0 : W4.cell? ⟨w1.heap.size, 0, none⟩ = some (.int .i64 (pj.1 : Int)) := by rw [cell_of_row _ _ _ _ _ _ R4d.out]; rfl
    have p1 : W4.cell? ⟨w1.heap.size, 1, none⟩ = some (.int .i64 (pj.2 : Int)) := by rw [cell_of_row _ _ _ _ _ _ R4d.out]; rfl
    have t3 : W4.cell? ⟨W3.heap.size, 3, none⟩ = some (.int .i64 0) := by rw [cell_of_row _ _ _ _ _ _ R6d.out]; rfl
    have f3 := frozen_of_row W4 W3.heap.size 3 _ _ R6d.out
    obtain ⟨W5, hW5⟩ : ∃ W5, W5 = W4.setCell ⟨W3.heap.size, 3, none⟩ (.int .i64 (pj.1 : Int)) := ⟨_, rfl⟩
    have p05 : W5.cell? ⟨w1.heap.size, 0, none⟩ = some (.int .i64 (pj.1 : Int)) := by rw [hW5, World.cell?_setCell_other _ _ _ _ (by first | (simp; done) | (simp; omega))]; exact p0
    have p15 : W5.cell? ⟨w1.heap.size, 1, none⟩ = some (.int .i64 (pj.2 : Int)) := by rw [hW5, World.cell?_setCell_other _ _ _ _ (by first | (simp; done) | (simp; omega))]; exact p1
    have t4 : W5.cell? ⟨W3.heap.size, 4, none⟩ = some (.int .i64 0) := by rw [hW5, World.cell?_setCell_other _ _ _ _ (by simp)]; rw [cell_of_row _ _ _ _ _ _ R6d.out]; rfl
    have f4 : W5.frozen? ⟨W3.heap.size, 4, none⟩ = false := by rw [hW5, World.frozen?_setCell]; exact frozen_of_row W4 W3.heap.size 4 _ _ R6d.out
    obtain ⟨W6, hW6⟩ : ∃ W6, W6 = W5.setCell ⟨W3.heap.size, 4, none⟩ (.int .i64 (pj.2 : Int)) := ⟨_, rfl⟩
    have p06 : W6.cell? ⟨w1.heap.size, 0, none⟩ = some (.int .i64 (pj.1 : Int)) := by rw [hW6, World.cell?_setCell_other _ _ _ _ (by first | (simp; done) | (simp; omega))]; exact p05
    have p16 : W6.cell? ⟨w1.heap.size, 1, none⟩ = some (.int .i64 (pj.2 : Int)) := by rw [hW6, World.cell?_setCell_other _ _ _ _ (by first | (simp; done) | (simp; omega))]; exact p15
    have hr6 : W6.heap[W3.heap.size]? = some (.cells (tokV r pj) 37 (0, 0)) := by rw [hW6, hW5, Lib.heap_setCell_same (Lib.heap_setCell_same R6d.out _) _]; rfl
    have hk6 : ∀ (k : Nat) (o : Obj), k ≠ W3.heap.size → W4.heap[k]? = some o → W6.heap[k]? = some o := fun k o hne hk => by rw [hW6, hW5, Below.heap_setCell _ _ _ _ hne, Below.heap_setCell _ _ _ _ hne]; exact hk
    have ho6 : Only C w W6 := by rw [hW6, hW5]; exact (HO4.out.setCellNew (by omega) _ _).setCellNew (by omega) _ _
    refine wp_region_stageV (σ := World) (C := fun s w => ∃ n, w = s.drewN n) (L := fun s' => s'.cell? ⟨w1.heap.size, 0, none⟩ = some (.int .i64 (pj.1 : Int)) ∧ s'.cell? ⟨w1.heap.size, 1, none⟩ = some (.int .i64 (pj.2 : Int))) (ch := Oper.stores) (fin := fun _ => false) W4 hmx (by kernel_rfl) ⟨1, rfl⟩ ?_
    iterate 5 (refine wpStageV_step ⟨p0, p1⟩ rfl rfl ?_; go_big_quiet_want; go_big_quiet_op; (first
    | (go_big_quiet_on; refine wpQuiet_nil ?_)
    | (refine ⟨_, fun w' s' hL1 hL2 n hn => rfl, ?_⟩; go_big_quiet_on; refine wpQuiet_nil ?_)
    | (apply Exists.intro; refine ⟨?_, ?_⟩; (intro w' s' hL1 hL2 n hn; subst hn; rw [World.cell?_drewN, hL1]; exact ⟨rfl, rfl⟩); go_big_quiet_on; refine wpQuiet_nil ?_)
    | (apply Exists.intro; refine ⟨?_, ?_⟩; (intro w' s' hL1 hL2 n hn; subst hn; rw [World.cell?_drewN, hL2]; exact ⟨rfl, rfl⟩); go_big_quiet_on; refine wpQuiet_nil ?_)))
    refine wpStageV_store1 3 (.tmp 34) (.tmp 31) rfl ⟨W3.heap.size, 3, none⟩ rfl (.int .i64 (pj.1 : Int)) rfl rfl rfl t3 f3 rfl ⟨p0, p1⟩ rfl rfl (by rw [← hW5]; exact ⟨p05, p15⟩) ?_
    rw [← hW5]
    simp only [Act.put, List.setIfInBounds_toArray, List.set_cons_succ, List.set_cons_zero]
    (refine wpStageV_step ⟨p05, p15⟩ rfl rfl ?_; go_big_quiet_want; go_big_quiet_op; (first
    | (go_big_quiet_on; refine wpQuiet_nil ?_)
    | (refine ⟨_, fun w' s' hL1 hL2 n hn => rfl, ?_⟩; go_big_quiet_on; refine wpQuiet_nil ?_)
    | (apply Exists.intro; refine ⟨?_, ?_⟩; (intro w' s' hL1 hL2 n hn; subst hn; rw [World.cell?_drewN, hL1]; exact ⟨rfl, rfl⟩); go_big_quiet_on; refine wpQuiet_nil ?_)
    | (apply Exists.intro; refine ⟨?_, ?_⟩; (intro w' s' hL1 hL2 n hn; subst hn; rw [World.cell?_drewN, hL2]; exact ⟨rfl, rfl⟩); go_big_quiet_on; refine wpQuiet_nil ?_)))
    refine wpStageV_store1 3 (.tmp 35) (.tmp 33) rfl ⟨W3.heap.size, 4, none⟩ rfl (.int .i64 (pj.2 : Int)) rfl rfl rfl t4 f4 rfl ⟨p05, p15⟩ rfl rfl (by rw [← hW6]; exact ⟨p06, p16⟩) ?_
    rw [← hW6]
    simp only [Act.put, List.setIfInBounds_toArray, List.set_cons_succ, List.set_cons_zero]
    refine wpStageV_nil ?_
    rintro _ ⟨n5, rfl⟩
    obtain ⟨W7, hW7⟩ : ∃ W7, W7 = W6.drewN n5 := ⟨_, rfl⟩
    have hr7 : W7.heap[W3.heap.size]? = some (.cells (tokV r pj) 37 (0, 0)) := by rw [hW7]; exact hr6
    have hk7 : ∀ (k : Nat) (o : Obj), k ≠ W3.heap.size → W4.heap[k]? = some o → W7.heap[k]? = some o := fun k o hne hk => by rw [hW7]; exact hk6 k o hne hk
    have ho7 : Only C w W7 := by rw [hW7]; exact ho6.drewN n5
    have R27 := Lib.hid (hk7 _ _ (by omega) R2d.out); have R37 := Lib.hid (hk7 _ _ (by omega) R3d.out); have R67 := Lib.hid hr7; have HO7 := Lib.hid ho7
    have HEND7 : Hid (IsCur C s r.stop (plTo s pj j r.stop) W7 ∧ j ≤ r.stop ∧ r.stop ≤ s.size) := Lib.hid (by
      obtain ⟨e1, e2, e3⟩ := HEND4.out hcode
      exact ⟨hk7 _ _ (by have := e1.lt; omega) e1, e2, e3⟩)
    rw [← hW7]
    clear p0 p1 t3 f3 hW5 p05 p15 t4 f4 hW6 p06 p16 hr6 hk6 ho6 hW7 hr7 hk7 ho7
    go_wp2_with (first
      | (refine wpList_load_row rfl 37 (.tmp 6) rfl W3.heap.size rfl 37 (tokV r pj) (0, 0) _ R67.out rfl rfl rfl ?_)
      | (refine wpList_store_row rfl 37 (.tmp 2) (.tmp 36) rfl w.heap.size (tokV r pj) rfl rfl 37 tok0 R27.out rfl rfl (by simp [tokV, Value.oneCell']) ?_)
      | (refine wpList_store_row rfl 26 (.tmp 3) (.tmp 37) rfl (w.heap.size + 1) (fltV 0 0 0) rfl rfl 26 (fltV 0 0 0) (by rw [setRow_other _ _ _ _ (by omega)]; exact R37.out) rfl rfl (by simp [fltV, Value.oneCell']) ?_))
    refine bodyPost_ret (results_rows2 rfl _ _ w.heap.size 37 (tokV r pj) (0, 0) _ rfl (by rw [setRow_other _ _ _ _ (by omega)]; exact setRow_heap _ _ _ _ _ _ R27.out) Tryd.underlying37 rfl rfl (w.heap.size + 1) 26 (fltV 0 0 0) (0, 0) _ rfl (setRow_heap _ _ _ _ _ _ (by rw [setRow_other _ _ _ _ (by omega)]; exact R37.out)) Tryd.underlying26 rfl rfl) rfl ⟨j, HSK.out, hj1, hj2, ((HO7.out.setRow (by omega) _).setRow (by omega) _), ?_, ?_⟩
    · rw [← HRD.out, ← HPJ.out]
      intro _
      refine ⟨rfl, ?_, HEND7.out.2⟩
      have h1 := HEND7.out.1
      rw [HPJ.out, plTo_trans s p i j r.stop hj1 HEND7.out.2.1] at h1
      exact (h1.setRow (by omega) _).setRow (by omega) _
    · rw [← HRD.out]; exact fun h => absurd hcode h
  · have tc : ((r.code : Int) != 0) = true := by simp; omega
    go_wp2_with (refine wpList_store_row rfl 37 (.tmp 6) (.tmp 19) rfl W3.heap.size (tokV r (0, 0)) rfl rfl 37 tok0 (heap_alloc_new W3 _) rfl rfl (by simp [tokV, Value.oneCell']) ?_)
    show Code.wp _ _ _ _ ((W3.alloc (.cells tok0 37)).setRow W3.heap.size (tokV r (0, 0)))
    rw [← HW4.out]
    have p0 : W4.cell? ⟨w1.heap.size, 0, none⟩ = some (.int .i64 (pj.1 : Int)) := by rw [cell_of_row _ _ _ _ _ _ R4d.out]; rfl
    have p1 : W4.cell? ⟨w1.heap.size, 1, none⟩ = some (.int .i64 (pj.2 : Int)) := by rw [cell_of_row _ _ _ _ _ _ R4d.out]; rfl
    obtain ⟨W5, hW5⟩ : ∃ W5, W5 = W4.setRow w.heap.size tok0 := ⟨_, rfl⟩
    have hr4 : W5.heap[w1.heap.size]? = some (.cells #[.int .i64 (pj.1 : Int), .int .i64 (pj.2 : Int)] 50 (0, 0)) := by rw [hW5, setRow_other _ _ _ _ (by omega)]; exact R4d.out
    have p05 : W5.cell? ⟨w1.heap.size, 0, none⟩ = some (.int .i64 (pj.1 : Int)) := by rw [cell_of_row _ _ _ _ _ _ hr4]; rfl
    have p15 : W5.cell? ⟨w1.heap.size, 1, none⟩ = some (.int .i64 (pj.2 : Int)) := by rw [cell_of_row _ _ _ _ _ _ hr4]; rfl
    have hr3 : W5.heap[w.heap.size + 1]? = some (.cells (fltV 0 0 0) 26 (0, 0)) := by rw [hW5, setRow_other _ _ _ _ (by omega)]; exact R3d.out
    obtain ⟨W6, hW6⟩ : ∃ W6, W6 = W5.setRow (w.heap.size + 1) (fltV (r.code : Int) (pj.1 : Int) (pj.2 : Int)) := ⟨_, rfl⟩
    have hr46 : W6.heap[w1.heap.size]? = some (.cells #[.int .i64 (pj.1 : Int), .int .i64 (pj.2 : Int)] 50 (0, 0)) := by rw [hW6, setRow_other _ _ _ _ (by omega)]; exact hr4
    have p06 : W6.cell? ⟨w1.heap.size, 0, none⟩ = some (.int .i64 (pj.1 : Int)) := by rw [cell_of_row _ _ _ _ _ _ hr46]; rfl
    have p16 : W6.cell? ⟨w1.heap.size, 1, none⟩ = some (.int .i64 (pj.2 : Int)) := by rw [cell_of_row _ _ _ _ _ _ hr46]; rfl
    have h26 : W6.heap[w.heap.size]? = some (.cells tok0 37 (0, 0)) := by rw [hW6, setRow_other _ _ _ _ (by omega), hW5]; exact setRow_heap _ _ _ _ _ _ R2d.out
    have h36 : W6.heap[w.heap.size + 1]? = some (.cells (fltV (r.code : Int) (pj.1 : Int) (pj.2 : Int)) 26 (0, 0)) := by rw [hW6]; exact setRow_heap _ _ _ _ _ _ hr3
    have ho6 : Only C w W6 := by rw [hW6, hW5]; exact (HO4.out.setRow (Nat.le_refl _) _).setRow (by omega) _
    refine wp_region_stageV (σ := World) (C := fun s w => ∃ n, w = s.drewN n) (L := fun s' => s'.cell? ⟨w1.heap.size, 0, none⟩ = some (.int .i64 (pj.1 : Int)) ∧ s'.cell? ⟨w1.heap.size, 1, none⟩ = some (.int .i64 (pj.2 : Int))) (ch := Oper.stores) (fin := fun _ => false) W4 hmx (by kernel_rfl) ⟨1, rfl⟩ ?_
    iterate 7 (refine wpStageV_step ⟨p0, p1⟩ rfl rfl ?_; go_big_quiet_want; go_big_quiet_op; (first
    | (go_big_quiet_on; refine wpQuiet_nil ?_)
    | (refine ⟨_, fun w' s' hL1 hL2 n hn => rfl, ?_⟩; go_big_quiet_on; refine wpQuiet_nil ?_)
    | (apply Exists.intro; refine ⟨?_, ?_⟩; (intro w' s' hL1 hL2 n hn; subst hn; rw [World.cell?_drewN, hL1]; exact ⟨rfl, rfl⟩); go_big_quiet_on; refine wpQuiet_nil ?_)
    | (apply Exists.intro; refine ⟨?_, ?_⟩; (intro w' s' hL1 hL2 n hn; subst hn; rw [World.cell?_drewN, hL2]; exact ⟨rfl, rfl⟩); go_big_quiet_on; refine wpQuiet_nil ?_)))
    refine wpStageV_storeRow 37 (.tmp 2) (.tmp 23) rfl w.heap.size tok0 rfl rfl 37 tok0 R2d.out rfl rfl (by simp [tok0, Value.oneCell']) ⟨p0, p1⟩ rfl rfl (by rw [← hW5]; exact ⟨p05, p15⟩) ?_
    rw [← hW5]
    simp only [Act.put, List.setIfInBounds_toArray, List.set_cons_succ, List.set_cons_zero]
    refine wpStageV_storeRow 26 (.tmp 3) (.tmp 29) rfl (w.heap.size + 1) (fltV (r.code : Int) (pj.1 : Int) (pj.2 : Int)) rfl rfl 26 (fltV 0 0 0) hr3 rfl rfl (by simp [fltV, Value.oneCell']) ⟨p05, p15⟩ rfl rfl (by rw [← hW6]; exact ⟨p06, p16⟩) ?_
    rw [← hW6]
    simp only [Act.put, List.setIfInBounds_toArray, List.set_cons_succ, List.set_cons_zero]
    refine wpStageV_nil ?_
    rintro _ ⟨n5, rfl⟩
    obtain ⟨W7, hW7⟩ : ∃ W7, W7 = W6.drewN n5 := ⟨_, rfl⟩
    have H27 : Hid (W7.heap[w.heap.size]? = some (.cells tok0 37 (0, 0))) := Lib.hid (hW7 ▸ h26)
    have H37 : Hid (W7.heap[w.heap.size + 1]? = some (.cells (fltV (r.code : Int) (pj.1 : Int) (pj.2 : Int)) 26 (0, 0))) := Lib.hid (hW7 ▸ h36)
    have HO7 : Hid (Only C w W7) := Lib.hid (by rw [hW7]; exact ho6.drewN n5)
    rw [← hW7]
    clear p0 p1 hW5 hr4 p05 p15 hr3 hW6 hr46 p06 p16 h26 h36 ho6 hW7
    go_wp2_with (fail)
    refine bodyPost_ret (results_rows2 rfl _ _ w.heap.size 37 tok0 (0, 0) _ rfl H27.out Tryd.underlying37 rfl rfl (w.heap.size + 1) 26 (fltV (r.code : Int) (pj.1 : Int) (pj.2 : Int)) (0, 0) _ rfl H37.out Tryd.underlying26 rfl rfl) rfl ⟨j, HSK.out, hj1, hj2, HO7.out, ?_, ?_⟩
    · rw [← HRD.out]; exact fun h => absurd h hcode
    · rw [← HRD.out, ← HPJ.out]
      intro _
      rfl
end Go.Proofs.YtldbnfbfhbkclaaDoor
