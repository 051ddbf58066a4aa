/-
  Chapter 6: the program's Next.
-/
import Derived.Test.YtldbnfbfhbkclaaDoorLyE
namespace Go.Proofs.YtldbnfbfhbkclaaDoor
open Go.RowKit Go.Shelf

theorem results_row_tmp_row {P : Program} {fn : Func} {p q r : Tmp} {ty tb : TypeId} (h : fn.results = #[.cell p ty, .tmp r, .cell q tb]) (tmps : Array Value) (w : World) (u : Value) (hr : tmps.getD r undef = u) (g : Nat) (t : TypeId) (cs : Array Value) (fr : Nat × Nat) (d : TypeDesc)
    (hp : tmps.getD p undef = .pointer (some ⟨g, 0, none⟩)) (hg : w.heap[g]? = some (.cells cs t fr))
    (hu : P.underlying ty = some d) (hd : (match d with | .struct _ | .array _ _ => true | _ => false) = true) (hi : (P.info? ty).map (·.size) = some cs.size)
    (g2 : Nat) (t2 : TypeId) (cs2 : Array Value) (fr2 : Nat × Nat) (d2 : TypeDesc) (hq : tmps.getD q undef = .pointer (some ⟨g2, 0, none⟩)) (hg2 : w.heap[g2]? = some (.cells cs2 t2 fr2)) (hu2 : P.underlying tb = some d2) (hd2 : (match d2 with | .struct _ | .array _ _ => true | _ => false) = true) (hi2 : (P.info? tb).map (·.size) = some cs2.size) :
    (results fn tmps).run P w = .ok (.tuple #[.agg cs, u, .agg cs2]) w := by
  have hp' : tmps[p]?.getD undef = .pointer (some ⟨g, 0, none⟩) := by simpa using hp
  have hq' : tmps[q]?.getD undef = .pointer (some ⟨g2, 0, none⟩) := by simpa using hq
  have hr' : tmps[r]?.getD undef = u := by simpa using hr
  simp [results, h, hp', hq', hr', asAddr, run_loadVar_row w g t ty cs fr d hg hu hd hi, run_loadVar_row w g2 t2 tb cs2 fr2 d2 hg2 hu2 hd2 hi2]
def NxtEnd (s : ByteArray) (i : Nat) (p : Nat × Nat) (w : World) (e : Ending) (w' : World) : Prop :=
  ∃ j, Skip s i j ∧ i ≤ j ∧ j ≤ s.size ∧ Below w.heap.size w w' ∧
    ((rdAt s j).code = 0 → e = .returned (.tuple #[.agg (tokV (rdAt s j) (plTo s p i j)), .int .i64 ((rdAt s j).stop : Int), .agg (fltV 0 0 0)])) ∧
    ((rdAt s j).code ≠ 0 → e = .returned (.tuple #[.agg tok0, .int .i64 0, .agg (fltV ((rdAt s j).code : Int) ((plTo s p i j).1 : Int) ((plTo s p i j).2 : Int))]))

set_option maxRecDepth 100000 in
set_option maxHeartbeats 8000000 in
theorem Next_any (s : ByteArray) (i : Nat) (p : Nat × Nat) (w : World) (hi : i ≤ s.size) (hs : s.size ≤ 100000000) (hp : Okp i p) (hG : Glob w) :
    Calls Tryd.prog 12 #[.string s, .int .i64 (i : Int), .int .i64 (p.1 : Int), .int .i64 (p.2 : Int)] w (NxtEnd s i p w) := by
  have HP := Lib.hid hp
  have hmx : Tryd.prog.follows .mixedOrders = true := by kernel_rfl
  obtain ⟨W0, hW0⟩ : ∃ W0, W0 = ((w.alloc (.cells tok0 37)).alloc (.cells (fltV 0 0 0) 26)).alloc (.cells #[.int .i64 (p.1 : Int), .int .i64 (p.2 : Int), .string s, .int .i64 (i : Int)] 52) := ⟨_, rfl⟩
  have hr8 : W0.heap[w.heap.size]? = some (.cells tok0 37 (0, 0)) := by rw [hW0, Below.heap_alloc _ _ _ (by simp; omega), Below.heap_alloc _ _ _ (by simp)]; exact heap_alloc_new w _
  have hr10 : W0.heap[w.heap.size + 1]? = some (.cells (fltV 0 0 0) 26 (0, 0)) := by
    rw [hW0, Below.heap_alloc _ _ _ (by simp), show w.heap.size + 1 = (w.alloc (.cells tok0 37)).heap.size from by simp]; exact heap_alloc_new _ _
  have hcu : IsCur (w.heap.size + 2) s i p W0 := by
    unfold IsCur
    rw [hW0, show w.heap.size + 2 = ((w.alloc (.cells tok0 37)).alloc (.cells (fltV 0 0 0) 26)).heap.size from by simp]; exact heap_alloc_new _ _
  have hbl : Below w.heap.size w W0 := by rw [hW0]; exact (((Below.refl _ w).alloc (Nat.le_refl _) _).alloc (by simp) _).alloc (by simp; omega) _
  have hCg : w.heap.size + 2 ∉ gl := fun h => by have := hG.lt _ h; omega
  have hG0 := hG.below hG.lt hbl
  have R8 := Lib.hid hr8; have R10 := Lib.hid hr10; have HC := Lib.hid hcu; have HB := Lib.hid hbl; have HW0 := Lib.hid hW0; have HG := Lib.hid hG0
  clear hp hW0 hr8 hr10 hcu hbl hG hG0
  go_enter Tryd.func12, Tryd.ntmps12
  go_wp2_with (fail)
  show Calls _ _ _ (((w.alloc (.cells tok0 37)).alloc (.cells (fltV 0 0 0) 26)).alloc (.cells #[.int .i64 (p.1 : Int), .int .i64 (p.2 : Int), .string s, .int .i64 (i : Int)] 52)) _
  rw [← HW0.out]
  refine (next_any (w.heap.size + 2) s i p W0 HC.out hi hs HP.out HG.out hCg).mono ?_
  rintro e w1 ⟨j, hsk, hj1, hj2, ho1, hz, hnz⟩
  obtain ⟨r, hr⟩ : ∃ r, r = rdAt s j := ⟨_, rfl⟩
  obtain ⟨pj, hpj⟩ : ∃ pj, pj = plTo s p i j := ⟨_, rfl⟩
  rw [← hr] at hz hnz
  rw [← hpj] at hz hnz
  have hb1 : Below w.heap.size w w1 := HB.out.trans (ho1.toBelow (by omega) HB.out.size)
  have R81 := Lib.hid (ho1.row (by omega) R8.out); have R101 := Lib.hid (ho1.row (by omega) R10.out)
  have hsz1 : w.heap.size + 1 < w1.heap.size := lt_of_block R101.out
  have HSK := Lib.hid hsk; have HZ := Lib.hid hz; have HNZ := Lib.hid hnz; have HRR := Lib.hid hr; have HPJ := Lib.hid hpj; have HB1 := Lib.hid hb1
  clear hsk hz hnz hr hpj hb1 ho1 HW0 HC R8 R10 HB HG
  have h6 : ((w1.alloc (.cells tok0 37)).alloc (.cells (fltV 0 0 0) 26)).heap[w1.heap.size]? = some (.cells tok0 37 (0, 0)) := by
    rw [Below.heap_alloc _ _ _ (by simp)]; exact heap_alloc_new w1 _
  have h7 : ∀ cs, (((w1.alloc (.cells tok0 37)).alloc (.cells (fltV 0 0 0) 26)).setRow w1.heap.size cs).heap[w1.heap.size + 1]? = some (.cells (fltV 0 0 0) 26 (0, 0)) := fun cs => by
    rw [setRow_other _ _ _ _ (by omega), show w1.heap.size + 1 = (w1.alloc (.cells tok0 37)).heap.size from by simp]; exact heap_alloc_new _ _
  have H6 := Lib.hid h6; have H7 := Lib.hid h7
  clear h6 h7
  by_cases hcode : r.code = 0
  · obtain ⟨rfl, hcur, hjs, hss⟩ := HZ.out hcode
    obtain ⟨W3, hW3⟩ : ∃ W3, W3 = (((w1.alloc (.cells tok0 37)).alloc (.cells (fltV 0 0 0) 26)).setRow w1.heap.size (tokV r pj)).setRow (w1.heap.size + 1) (fltV 0 0 0) := ⟨_, rfl⟩
    have hk : ∀ (k : Nat) (o : Obj), w1.heap[k]? = some o → W3.heap[k]? = some o := fun k o hk => by
      have := (Array.getElem?_eq_some_iff.1 hk).1
      rw [hW3, setRow_other _ _ _ _ (by omega), setRow_other _ _ _ _ (by omega), Below.heap_alloc _ _ _ (by simp; omega), Below.heap_alloc _ _ _ (by omega)]; exact hk
    have h63 : W3.heap[w1.heap.size]? = some (.cells (tokV r pj) 37 (0, 0)) := by
      rw [hW3, setRow_other _ _ _ _ (by omega)]; exact setRow_heap _ _ _ _ _ _ H6.out
    have h73 : W3.heap[w1.heap.size + 1]? = some (.cells (fltV 0 0 0) 26 (0, 0)) := by rw [hW3]; exact setRow_heap _ _ _ _ _ _ (H7.out _)
    have h83 := hk _ _ R81.out
    have h103 := hk _ _ R101.out
    have hc3 : IsCur (w.heap.size + 2) s r.stop (plTo s p i r.stop) W3 := hk _ _ hcur
    have hltc := hcur.lt
    have hbl3 : Below w.heap.size w W3 := by
      rw [hW3]
      exact below_setRow (below_setRow (((HB1.out.alloc (by omega) _).alloc (by simp; omega) _)) (by omega) _) (by omega) _
    have H63 := Lib.hid h63; have H73 := Lib.hid h73; have H83 := Lib.hid h83; have H103 := Lib.hid h103; have HC3 := Lib.hid hc3; have HB3 := Lib.hid hbl3; have HW3 := Lib.hid hW3
    clear hk h63 h73 h83 h103 hc3 hbl3 hW3 hcur
    go_wp2_with (first
      | (refine wpList_store_row rfl 37 (.tmp 12) (.tmp 24) rfl w1.heap.size (tokV r pj) rfl rfl 37 tok0 H6.out rfl rfl (by simp [tokV, Value.oneCell']) ?_)
      | (refine wpList_store_row rfl 26 (.tmp 13) (.tmp 25) rfl (w1.heap.size + 1) (fltV 0 0 0) rfl rfl 26 (fltV 0 0 0) (H7.out _) rfl rfl (by simp [fltV, Value.oneCell']) ?_)
      | (show wpList _ _ _ (_ :: _) _ ((((w1.alloc (.cells tok0 37)).alloc (.cells (fltV 0 0 0) 26)).setRow w1.heap.size (tokV r pj)).setRow (w1.heap.size + 1) (fltV 0 0 0)); rw [← HW3.out]; refine wpList_load_row rfl 26 (.tmp 13) rfl (w1.heap.size + 1) rfl 26 #[.int .i64 0, .int .i64 0, .int .i64 0] (0, 0) _ H73.out rfl rfl rfl ?_))
    have c3 := HC3.out.c3
    obtain ⟨W5, hW5⟩ : ∃ W5, W5 = W3.setRow w.heap.size (tokV r pj) := ⟨_, rfl⟩
    have h65 : W5.heap[w1.heap.size]? = some (.cells (tokV r pj) 37 (0, 0)) := by rw [hW5, setRow_other _ _ _ _ (by omega)]; exact H63.out
    have h75 : W5.heap[w1.heap.size + 1]? = some (.cells (fltV 0 0 0) 26 (0, 0)) := by rw [hW5, setRow_other _ _ _ _ (by omega)]; exact H73.out
    have h105 : W5.heap[w.heap.size + 1]? = some (.cells (fltV 0 0 0) 26 (0, 0)) := by rw [hW5, setRow_other _ _ _ _ (by omega)]; exact H103.out
    have c35 : W5.cell? ⟨w.heap.size + 2, 3, none⟩ = some (.int .i64 (r.stop : Int)) := by
      have := HC3.out.setRow (g := w.heap.size) (by omega) (tokV r pj)
      rw [← hW5] at this; exact this.c3
    have h85 : W5.heap[w.heap.size]? = some (.cells (tokV r pj) 37 (0, 0)) := by rw [hW5]; exact setRow_heap _ _ _ _ _ _ H83.out
    obtain ⟨W6, hW6⟩ : ∃ W6, W6 = W5.setRow (w.heap.size + 1) (fltV 0 0 0) := ⟨_, rfl⟩
    have h66 : W6.heap[w1.heap.size]? = some (.cells (tokV r pj) 37 (0, 0)) := by rw [hW6, setRow_other _ _ _ _ (by omega)]; exact h65
    have h76 : W6.heap[w1.heap.size + 1]? = some (.cells (fltV 0 0 0) 26 (0, 0)) := by rw [hW6, setRow_other _ _ _ _ (by omega)]; exact h75
    have c36 : W6.cell? ⟨w.heap.size + 2, 3, none⟩ = some (.int .i64 (r.stop : Int)) := by
      have := (HC3.out.setRow (g := w.heap.size) (by omega) (tokV r pj)).setRow (g := w.heap.size + 1) (by omega) (fltV 0 0 0)
      rw [← hW5, ← hW6] at this; exact this.c3
    have h86 : W6.heap[w.heap.size]? = some (.cells (tokV r pj) 37 (0, 0)) := by rw [hW6, setRow_other _ _ _ _ (by omega)]; exact h85
    have h106 : W6.heap[w.heap.size + 1]? = some (.cells (fltV 0 0 0) 26 (0, 0)) := by rw [hW6]; exact setRow_heap _ _ _ _ _ _ h105
    have hbl6 : Below w.heap.size w W6 := by rw [hW6, hW5]; exact below_setRow (below_setRow HB3.out (Nat.le_refl _) _) (by omega) _
    refine wp_region_stageV (σ := World) (C := fun s w => ∃ n, w = s.drewN n) (L := fun s' => s'.heap[w1.heap.size]? = some (.cells (tokV r pj) 37 (0, 0)) ∧ s'.heap[w1.heap.size + 1]? = some (.cells (fltV 0 0 0) 26 (0, 0)) ∧ s'.cell? ⟨w.heap.size + 2, 3, none⟩ = some (.int .i64 (r.stop : Int))) (ch := Oper.stores) (fin := fun _ => false) W3 hmx (by kernel_rfl) ⟨1, rfl⟩ ?_
    refine wpStageV_loadRow 37 (.tmp 12) rfl w1.heap.size rfl 37 (tokV r pj) (0, 0) _ (fun s' w' hL hw => by obtain ⟨n, rfl⟩ := hw; exact hL.1) Tryd.underlying37 rfl rfl ⟨H63.out, H73.out, c3⟩ rfl rfl ?_
    simp only [Act.put, List.setIfInBounds_toArray, List.set_cons_succ, List.set_cons_zero]
    refine wpStageV_step ⟨H63.out, H73.out, c3⟩ rfl rfl ?_; go_big_quiet_want; go_big_quiet_op; go_big_quiet_on; refine wpQuiet_nil ?_
    refine wpStageV_nilCheck _ ⟨w.heap.size + 2, 0, none⟩ rfl rfl ⟨H63.out, H73.out, c3⟩ rfl rfl ?_; simp only [Act.put, List.setIfInBounds_toArray, List.set_cons_succ, List.set_cons_zero]
    iterate 2 (refine wpStageV_step ⟨H63.out, H73.out, c3⟩ rfl rfl ?_; go_big_quiet_want; go_big_quiet_op; (first
      | (go_big_quiet_on; refine wpQuiet_nil ?_)
      | (refine ⟨_, fun w' s' hL1 hL2 hL3 n hn => rfl, ?_⟩; go_big_quiet_on; refine wpQuiet_nil ?_)
      | (apply Exists.intro; refine ⟨?_, ?_⟩; (intro w' s' hL1 hL2 hL3 n hn; subst hn; rw [World.cell?_drewN, hL3]; exact ⟨rfl, rfl⟩); go_big_quiet_on; refine wpQuiet_nil ?_)))
    refine wpStageV_loadRow 26 (.tmp 13) rfl (w1.heap.size + 1) rfl 26 (fltV 0 0 0) (0, 0) _ (fun s' w' hL hw => by obtain ⟨n, rfl⟩ := hw; exact hL.2.1) Tryd.underlying26 rfl rfl ⟨H63.out, H73.out, c3⟩ rfl rfl ?_
    simp only [Act.put, List.setIfInBounds_toArray, List.set_cons_succ, List.set_cons_zero]
    refine wpStageV_storeRow 37 (.tmp 8) (.tmp 31) rfl w.heap.size (tokV r pj) rfl rfl 37 tok0 H83.out rfl rfl (by simp [tokV, Value.oneCell']) ⟨H63.out, H73.out, c3⟩ rfl rfl (by rw [← hW5]; exact ⟨h65, h75, c35⟩) ?_
    rw [← hW5]
    simp only [Act.put, List.setIfInBounds_toArray, List.set_cons_succ, List.set_cons_zero]
    refine wpStageV_step ⟨h65, h75, c35⟩ rfl rfl ?_; go_big_quiet_want; go_big_quiet_op; go_big_quiet_on; refine wpQuiet_nil ?_
    refine wpStageV_storeRow 26 (.tmp 10) (.tmp 36) rfl (w.heap.size + 1) (fltV 0 0 0) rfl rfl 26 (fltV 0 0 0) h105 rfl rfl (by simp [fltV, Value.oneCell']) ⟨h65, h75, c35⟩ rfl rfl (by rw [← hW6]; exact ⟨h66, h76, c36⟩) ?_
    rw [← hW6]
    simp only [Act.put, List.setIfInBounds_toArray, List.set_cons_succ, List.set_cons_zero]
    refine wpStageV_nil ?_
    rintro _ ⟨n5, rfl⟩
    obtain ⟨W7, hW7⟩ : ∃ W7, W7 = W6.drewN n5 := ⟨_, rfl⟩
    have H87 : Hid (W7.heap[w.heap.size]? = some (.cells (tokV r pj) 37 (0, 0))) := Lib.hid (hW7 ▸ h86)
    have H107 : Hid (W7.heap[w.heap.size + 1]? = some (.cells (fltV 0 0 0) 26 (0, 0))) := Lib.hid (hW7 ▸ h106)
    have HB7 : Hid (Below w.heap.size w W7) := Lib.hid (by rw [hW7]; exact ⟨hbl6.os, hbl6.tape, hbl6.output, hbl6.size, hbl6.block⟩)
    rw [← hW7]
    clear hW7 h65 h75 h105 c35 h85 h66 h76 c36 h86 h106 hbl6 hW5 hW6 c3
    go_wp2_with (fail)
    refine bodyPost_ret (results_row_tmp_row rfl _ _ (.int .i64 (r.stop : Int)) rfl w.heap.size 37 (tokV r pj) (0, 0) _ rfl H87.out Tryd.underlying37 rfl rfl (w.heap.size + 1) 26 (fltV 0 0 0) (0, 0) _ rfl H107.out Tryd.underlying26 rfl rfl) rfl ⟨j, HSK.out, hj1, hj2, HB7.out, ?_, ?_⟩
    · rw [← HRR.out, ← HPJ.out]; exact fun _ => rfl
    · rw [← HRR.out]; exact fun h => absurd hcode h
  · have he := HNZ.out hcode
    subst he
    have tc : ((r.code : Int) == 0) = false := by simp; omega
    obtain ⟨W3, hW3⟩ : ∃ W3, W3 = (((w1.alloc (.cells tok0 37)).alloc (.cells (fltV 0 0 0) 26)).setRow w1.heap.size tok0).setRow (w1.heap.size + 1) (fltV (r.code : Int) (pj.1 : Int) (pj.2 : Int)) := ⟨_, rfl⟩
    have hk : ∀ (k : Nat) (o : Obj), w1.heap[k]? = some o → W3.heap[k]? = some o := fun k o hk => by
      have := (Array.getElem?_eq_some_iff.1 hk).1
      rw [hW3, setRow_other _ _ _ _ (by omega), setRow_other _ _ _ _ (by omega), Below.heap_alloc _ _ _ (by simp; omega), Below.heap_alloc _ _ _ (by omega)]; exact hk
    have h73 : W3.heap[w1.heap.size + 1]? = some (.cells (fltV (r.code : Int) (pj.1 : Int) (pj.2 : Int)) 26 (0, 0)) := by rw [hW3]; exact setRow_heap _ _ _ _ _ _ (H7.out _)
    have h83 := hk _ _ R81.out
    have h103 := hk _ _ R101.out
    have hbl3 : Below w.heap.size w W3 := by
      rw [hW3]
      exact below_setRow (below_setRow (((HB1.out.alloc (by omega) _).alloc (by simp; omega) _)) (by omega) _) (by omega) _
    have H73 := Lib.hid h73; have H83 := Lib.hid h83; have H103 := Lib.hid h103; have HB3 := Lib.hid hbl3; have HW3 := Lib.hid hW3
    clear hk h73 h83 h103 hbl3 hW3
    go_wp2_with (first
      | (refine wpList_store_row rfl 37 (.tmp 12) (.tmp 24) rfl w1.heap.size tok0 rfl rfl 37 tok0 H6.out rfl rfl (by simp [tok0, Value.oneCell']) ?_)
      | (refine wpList_store_row rfl 26 (.tmp 13) (.tmp 25) rfl (w1.heap.size + 1) (fltV (r.code : Int) (pj.1 : Int) (pj.2 : Int)) rfl rfl 26 (fltV 0 0 0) (H7.out _) rfl rfl (by simp [fltV, Value.oneCell']) ?_)
      | (show wpList _ _ _ (_ :: _) _ ((((w1.alloc (.cells tok0 37)).alloc (.cells (fltV 0 0 0) 26)).setRow w1.heap.size tok0).setRow (w1.heap.size + 1) (fltV (r.code : Int) (pj.1 : Int) (pj.2 : Int))); rw [← HW3.out]; refine wpList_load_row rfl 26 (.tmp 13) rfl (w1.heap.size + 1) rfl 26 #[.int .i64 (r.code : Int), .int .i64 (pj.1 : Int), .int .i64 (pj.2 : Int)] (0, 0) _ H73.out rfl rfl rfl ?_))
    obtain ⟨W5, hW5⟩ : ∃ W5, W5 = W3.setRow w.heap.size tok0 := ⟨_, rfl⟩
    have h75 : W5.heap[w1.heap.size + 1]? = some (.cells (fltV (r.code : Int) (pj.1 : Int) (pj.2 : Int)) 26 (0, 0)) := by rw [hW5, setRow_other _ _ _ _ (by omega)]; exact H73.out
    have h105 : W5.heap[w.heap.size + 1]? = some (.cells (fltV 0 0 0) 26 (0, 0)) := by rw [hW5, setRow_other _ _ _ _ (by omega)]; exact H103.out
    have h85 : W5.heap[w.heap.size]? = some (.cells tok0 37 (0, 0)) := by rw [hW5]; exact setRow_heap _ _ _ _ _ _ H83.out
    obtain ⟨W6, hW6⟩ : ∃ W6, W6 = W5.setRow (w.heap.size + 1) (fltV (r.code : Int) (pj.1 : Int) (pj.2 : Int)) := ⟨_, rfl⟩
    have h76 : W6.heap[w1.heap.size + 1]? = some (.cells (fltV (r.code : Int) (pj.1 : Int) (pj.2 : Int)) 26 (0, 0)) := by rw [hW6, setRow_other _ _ _ _ (by omega)]; exact h75
    have h86 : W6.heap[w.heap.size]? = some (.cells tok0 37 (0, 0)) := by rw [hW6, setRow_other _ _ _ _ (by omega)]; exact h85
    have h106 : W6.heap[w.heap.size + 1]? = some (.cells (fltV (r.code : Int) (pj.1 : Int) (pj.2 : Int)) 26 (0, 0)) := by rw [hW6]; exact setRow_heap _ _ _ _ _ _ h105
    have hbl6 : Below w.heap.size w W6 := by rw [hW6, hW5]; exact below_setRow (below_setRow HB3.out (Nat.le_refl _) _) (by omega) _
    refine wp_region_stageV (σ := World) (C := fun s w => ∃ n, w = s.drewN n) (L := fun s' => s'.heap[w1.heap.size + 1]? = some (.cells (fltV (r.code : Int) (pj.1 : Int) (pj.2 : Int)) 26 (0, 0))) (ch := Oper.stores) (fin := fun _ => false) W3 hmx (by kernel_rfl) ⟨1, rfl⟩ ?_
    refine wpStageV_step H73.out rfl rfl ?_; go_big_quiet_want; go_big_quiet_op; (first | (go_big_quiet_on; refine wpQuiet_nil ?_) | (refine ⟨_, fun w' s' hL1 n hn => rfl, ?_⟩; go_big_quiet_on; refine wpQuiet_nil ?_) | (trace_state; fail))
    refine wpStageV_loadRow 26 (.tmp 13) rfl (w1.heap.size + 1) rfl 26 (fltV (r.code : Int) (pj.1 : Int) (pj.2 : Int)) (0, 0) _ (fun s' w' hL hw => by obtain ⟨n, rfl⟩ := hw; exact hL) Tryd.underlying26 rfl rfl H73.out rfl rfl ?_
    simp only [Act.put, List.setIfInBounds_toArray, List.set_cons_succ, List.set_cons_zero]
    refine wpStageV_storeRow 37 (.tmp 8) (.tmp 29) rfl w.heap.size tok0 rfl rfl 37 tok0 H83.out rfl rfl (by simp [tok0, Value.oneCell']) H73.out rfl rfl (by rw [← hW5]; exact h75) ?_
    rw [← hW5]
    simp only [Act.put, List.setIfInBounds_toArray, List.set_cons_succ, List.set_cons_zero]
    refine wpStageV_step h75 rfl rfl ?_; go_big_quiet_want; go_big_quiet_op; go_big_quiet_on; refine wpQuiet_nil ?_
    refine wpStageV_storeRow 26 (.tmp 10) (.tmp 30) rfl (w.heap.size + 1) (fltV (r.code : Int) (pj.1 : Int) (pj.2 : Int)) rfl rfl 26 (fltV 0 0 0) h105 rfl rfl (by simp [fltV, Value.oneCell']) h75 rfl rfl (by rw [← hW6]; exact h76) ?_
    rw [← hW6]
    simp only [Act.put, List.setIfInBounds_toArray, List.set_cons_succ, List.set_cons_zero]
    refine wpStageV_nil ?_
    rintro _ ⟨n5, rfl⟩
    obtain ⟨W7, hW7⟩ : ∃ W7, W7 = W6.drewN n5 := ⟨_, rfl⟩
    have H87 : Hid (W7.heap[w.heap.size]? = some (.cells tok0 37 (0, 0))) := Lib.hid (hW7 ▸ h86)
    have H107 : Hid (W7.heap[w.heap.size + 1]? = some (.cells (fltV (r.code : Int) (pj.1 : Int) (pj.2 : Int)) 26 (0, 0))) := Lib.hid (hW7 ▸ h106)
    have HB7 : Hid (Below w.heap.size w W7) := Lib.hid (by rw [hW7]; exact ⟨hbl6.os, hbl6.tape, hbl6.output, hbl6.size, hbl6.block⟩)
    rw [← hW7]
    clear hW7 h75 h105 h85 h76 h86 h106 hbl6 hW5 hW6
    go_wp2_with (fail)
    refine bodyPost_ret (results_row_tmp_row rfl _ _ (.int .i64 0) rfl w.heap.size 37 tok0 (0, 0) _ rfl H87.out Tryd.underlying37 rfl rfl (w.heap.size + 1) 26 (fltV (r.code : Int) (pj.1 : Int) (pj.2 : Int)) (0, 0) _ rfl H107.out Tryd.underlying26 rfl rfl) rfl ⟨j, HSK.out, hj1, hj2, HB7.out, ?_, ?_⟩
    · rw [← HRR.out]; exact fun h => absurd h hcode
    · rw [← HRR.out, ← HPJ.out]; exact fun _ => rfl

set_option maxRecDepth 100000 in
set_option maxHeartbeats 4000000 in
theorem RefNext_any (s : ByteArray) (i : Nat) (w : World) (hi : i ≤ s.size) (hs : s.size ≤ 100000) :
    Calls Tryd.prog 13 #[.string s, .int .i64 (i : Int)] w (RefNextEnd s i (plTo s (1, 1) 0 i) w) := by
  have hle := plTo_le s (1, 1) 0 i
  obtain ⟨p, hp⟩ : ∃ p, p = plTo s (1, 1) 0 i := ⟨_, rfl⟩
  have HP := Lib.hid hp
  rw [← hp] at hle ⊢
  simp only at hle
  clear hp
  go_enter Tryd.func13, Tryd.ntmps13
  go_wp2_with (fail)
  refine (refPlace_any s i _ hi (by omega)).mono ?_
  rintro e w1 ⟨rfl, rfl⟩
  rw [← HP.out]
  go_wp2_with (fail)
  refine (refNext_any s i p.1 p.2 _ hi (by omega) (by omega) (by omega)).mono ?_
  rintro e w2 ⟨j, hsk, hj1, hj2, rfl, hb⟩
  obtain ⟨cs, hcs⟩ : ∃ cs, cs = tokV (rdAt s j) (plTo s (p.1, p.2) i j) := ⟨_, rfl⟩
  rw [← hcs]
  have h5 : cs.size = 5 := by rw [hcs]; rfl
  have h4 : w2.heap[w.heap.size]? = some (.cells tok0 38 (0, 0)) := (hb.block _ (by simp)).trans (heap_alloc_new w _)
  have hbl : Below w.heap.size w w2 := ((Below.refl _ w).alloc (Nat.le_refl _) _).trans (hb.mono (by simp))
  have h44 : (w2.setRow w.heap.size cs).heap[w.heap.size]? = some (.cells cs 38 (0, 0)) := setRow_heap _ _ _ _ _ _ h4
  have HSK := Lib.hid hsk; have H4 := Lib.hid h4; have HB := Lib.hid hbl; have H44 := Lib.hid h44; have HCS := Lib.hid hcs; have H5 := Lib.hid h5
  clear hsk h4 hbl h44 hb hcs h5 hle
  go_wp2_with (refine wpList_store_row rfl 38 (.tmp 4) (.tmp 20) rfl w.heap.size cs rfl rfl 38 tok0 H4.out (by rw [H5.out]; rfl) (by rw [H5.out]; rfl) (by rw [HCS.out]; simp [tokV, Value.oneCell']) ?_)
  refine bodyPost_ret (results_row_tmp2 rfl _ _ w.heap.size 38 cs (0, 0) _ rfl H44.out Tryd.underlying38 rfl (by rw [H5.out]; rfl) _ rfl _ rfl) rfl ⟨j, HSK.out, hj1, hj2, ?_, below_setRow HB.out (Nat.le_refl _) _⟩
  rw [HCS.out]
  rfl
end Go.Proofs.YtldbnfbfhbkclaaDoor
