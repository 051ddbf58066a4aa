/-
  Chapter 6: the program's Tokens.
-/
import Derived.Test.YtldbnfbfhbkclaaDoorLxW
namespace Go.Proofs.YtldbnfbfhbkclaaDoor
open Go.RowKit Go.Shelf

theorem infoTok : (Tryd.prog.info? 37).map (fun i => (i.zero, i.size, i.bytes)) = some (some (.agg tok0), 5, 48) := by kernel_rfl
theorem results_tmp_row {P : Program} {fn : Func} {p q : Tmp} {ty : TypeId} (h : fn.results = #[.tmp q, .cell p ty]) (tmps : Array Value) (w : World) (u : Value) (hq : tmps.getD q undef = u) (g : Nat) (t : TypeId) (cs : Array Value) (fr : Nat × Nat) (d : TypeDesc)
    (hp : tmps.getD p undef = .pointer (some ⟨g, 0, none⟩)) (hg : w.heap[g]? = some (.cells cs t fr))
    (hu : P.underlying ty = some d) (hd : (match d with | .struct _ | .array _ _ => true | _ => false) = true) (hi : (P.info? ty).map (·.size) = some cs.size) : (results fn tmps).run P w = .ok (.tuple #[u, .agg cs]) w := by
  have hp' : tmps[p]?.getD undef = .pointer (some ⟨g, 0, none⟩) := by simpa using hp
  have hq' : tmps[q]?.getD undef = u := by simpa using hq
  simp [results, h, hp', hq', asAddr, run_loadVar_row w g t ty cs fr d hg hu hd hi]
/-- The tokens' row. -/
def TokRow (T : TypeId) (n₀ : Nat) (l : List (Array Value)) (v : Value) (w : World) : Prop := w.ownsRow n₀ T 5 v l.length (flat l)
def TokEnd (n₀ : Nat) (w : World) (R : TkR) (e : Ending) (w' : World) : Prop :=
  Below n₀ w w' ∧ match R with
  | .inl l => ∃ v, e = .returned (.tuple #[v, .agg (fltV 0 0 0)]) ∧ TokRow 37 n₀ l v w'
  | .inr (c, ln, cl) => e = .returned (.tuple #[.slice none 0 0, .agg (fltV (c : Int) (ln : Int) (cl : Int))])
def TokInv (s : ByteArray) (w : World) (n₀ i : Nat) (p : Nat × Nat) (l : List (Array Value)) (v : Value) (wr : World) : Prop :=
  IsCur (n₀ + 1) s i p wr ∧ Below n₀ w wr ∧ wr.heap[n₀]? = some (.cells (fltV 0 0 0) 26 (0, 0)) ∧ TokRow 37 n₀ l v wr ∧ (∀ R, TR s i p R → TR s 0 (1, 1) (TkR.app l R)) ∧ Okp i p
/-- The cursor's offset. -/
def curAt (C : Nat) (w : World) : Nat := match w.cell? ⟨C, 3, none⟩ with | some v => (intOf v).toNat | none => 0
theorem IsCur.at {C : Nat} {s : ByteArray} {i : Nat} {p : Nat × Nat} {w : World} (h : IsCur C s i p w) : curAt C w = i := by
  unfold curAt; rw [h.c3]; simp [intOf]

set_option maxRecDepth 100000 in
set_option maxHeartbeats 8000000 in
theorem tokens_any (s : ByteArray) (w : World) (hs : s.size ≤ 1048576) (hG : Glob w) :
    Calls Tryd.prog 7 #[.string s] w fun e w' => ∃ R, TR s 0 (1, 1) R ∧ TokEnd w.heap.size w R e w' := by
  obtain ⟨i0, hi, hz0, hz1, hz2⟩ := info_parts infoTok
  have hmx : Tryd.prog.follows .mixedOrders = true := by kernel_rfl
  have t0 : ¬ (1048576 < (s.size : Int)) := by omega
  have t0' : ¬ (1048576 < s.size) := by omega
  obtain ⟨W0, hW0⟩ : ∃ W0, W0 = (w.alloc (.cells (fltV 0 0 0) 26)).alloc (.cells #[.int .i64 1, .int .i64 1, .string s, .int .i64 0] 52) := ⟨_, rfl⟩
  have hr3 : W0.heap[w.heap.size]? = some (.cells (fltV 0 0 0) 26 (0, 0)) := by rw [hW0, Below.heap_alloc _ _ _ (by simp)]; exact heap_alloc_new w _
  have hcu : IsCur (w.heap.size + 1) s 0 (1, 1) W0 := by
    unfold IsCur
    rw [hW0, show w.heap.size + 1 = (w.alloc (.cells (fltV 0 0 0) 26)).heap.size from by simp]; exact heap_alloc_new _ _
  have hbl : Below w.heap.size w W0 := by rw [hW0]; exact ((Below.refl _ w).alloc (Nat.le_refl _) _).alloc (by simp) _
  have hCg : w.heap.size + 1 ∉ gl := fun h => by have := hG.lt _ h; omega
  have hinv : TokInv s w w.heap.size 0 (1, 1) [] (.slice none 0 0) W0 := ⟨hcu, hbl, hr3, World.ownsRow_nil _ _ _ _, fun R h => by cases R <;> exact h, ⟨by decide, by decide⟩⟩
  have HI := Lib.hid hinv; have HW0 := Lib.hid hW0; have HG := Lib.hid hG
  have c3 := hcu.c3
  clear hr3 hcu hbl hG hinv
  go_enter Tryd.func7, Tryd.ntmps7
  go_wp2_with (fail)
  go_loopw [4] (fun v wr => ∃ (i : Nat) (p : Nat × Nat) (l : List (Array Value)), i ≤ s.size ∧ l.length ≤ i ∧ Hid (TokInv s w w.heap.size i p l v wr)) (fun _ wr => s.size + 1 - curAt (w.heap.size + 1) wr)
  case atStart => exact ⟨0, (1, 1), [], by omega, by simp, by have h := HI.out; rw [HW0.out] at h; exact Lib.hid h⟩
  case round =>
    obtain ⟨i, p, l, hi1, hi2, HR⟩ := hrel
    clear c3 HI HW0 hW0 W0
    have hT : 52 ≠ 37 := by decide
    go_wp2_with (fail)
    refine (next_any (w.heap.size + 1) s i p wr HR.out.1 hi1 (by omega) HR.out.2.2.2.2.2 (HG.out.below HG.out.lt HR.out.2.1) hCg).mono ?_
    rintro e w1 ⟨j, hsk, hj1, hj2, ho1, hz, hnz⟩
    obtain ⟨r, hr⟩ : ∃ r, r = rdAt s j := ⟨_, rfl⟩
    obtain ⟨pj, hpj⟩ : ∃ pj, pj = plTo s p i j := ⟨_, rfl⟩
    rw [← hr] at hz hnz
    rw [← hpj] at hz hnz
    have hb1 : Below w.heap.size w w1 := HR.out.2.1.trans (ho1.toBelow (by omega) HR.out.2.1.size)
    have hr3 : w1.heap[w.heap.size]? = some (.cells (fltV 0 0 0) 26 (0, 0)) := ho1.row (by omega) HR.out.2.2.1
    have hrow : TokRow 37 w.heap.size l u4 w1 := own_keep HR.out.2.2.2.1 (fun k hk => ho1.block k (own_lt HR.out.2.2.2.1 hk) (fun e => row_not_own HR.out.1 hT HR.out.2.2.2.1 (e.symm.trans hk.symm)))
    have hol : ∀ k, u4.ownBlock = some k → k < w1.heap.size := fun k hk => own_lt hrow hk
    have htr : ∀ R, TR s i p R → TR s 0 (1, 1) (TkR.app l R) := HR.out.2.2.2.2.1
    have hok := HR.out.2.2.2.2.2
    have hsz1 : w.heap.size < w1.heap.size := lt_of_block hr3
    have hcat : curAt (w.heap.size + 1) wr = i := HR.out.1.at
    have HSK := Lib.hid hsk; have HO1 := Lib.hid ho1; have HZ := Lib.hid hz; have HNZ := Lib.hid hnz; have HRR := Lib.hid hr; have HPJ := Lib.hid hpj; have HB1 := Lib.hid hb1; have HR3 := Lib.hid hr3
    have HROW := Lib.hid hrow; have HOL := Lib.hid hol; have HTR := Lib.hid htr; have HOK := Lib.hid hok; have HCAT := Lib.hid hcat
    clear hsk ho1 hz hnz hr hpj hb1 hr3 hrow hol htr hok HR hcat
    by_cases hcode : r.code = 0
    · obtain ⟨rfl, hcur, hjs, hss⟩ := HZ.out hcode
      obtain ⟨W3, hW3⟩ : ∃ W3, W3 = (((w1.alloc (.cells tok0 37)).alloc (.cells (fltV 0 0 0) 26)).setRow w1.heap.size (tokV r pj)).setRow (w1.heap.size + 1) (fltV 0 0 0) := ⟨_, rfl⟩
      have hk : ∀ (k : Nat) (o : Obj), w1.heap[k]? = some o → W3.heap[k]? = some o := fun k o hk => by
        have := (Array.getElem?_eq_some_iff.1 hk).1
        rw [hW3, setRow_other _ _ _ _ (by omega), setRow_other _ _ _ _ (by omega), Below.heap_alloc _ _ _ (by simp; omega), Below.heap_alloc _ _ _ (by omega)]; exact hk
      have h6 : ((w1.alloc (.cells tok0 37)).alloc (.cells (fltV 0 0 0) 26)).heap[w1.heap.size]? = some (.cells tok0 37 (0, 0)) := by
        rw [Below.heap_alloc _ _ _ (by simp)]; exact heap_alloc_new w1 _
      have h7 : (((w1.alloc (.cells tok0 37)).alloc (.cells (fltV 0 0 0) 26)).setRow w1.heap.size (tokV r pj)).heap[w1.heap.size + 1]? = some (.cells (fltV 0 0 0) 26 (0, 0)) := by
        rw [setRow_other _ _ _ _ (by omega), show w1.heap.size + 1 = (w1.alloc (.cells tok0 37)).heap.size from by simp]; exact heap_alloc_new _ _
      have h63 : W3.heap[w1.heap.size]? = some (.cells (tokV r pj) 37 (0, 0)) := by
        rw [hW3, setRow_other _ _ _ _ (by omega)]; exact setRow_heap _ _ _ _ _ _ h6
      have h73 : W3.heap[w1.heap.size + 1]? = some (.cells (fltV 0 0 0) 26 (0, 0)) := by rw [hW3]; exact setRow_heap _ _ _ _ _ _ h7
      have H6 := Lib.hid h6; have H7 := Lib.hid h7; have H63 := Lib.hid h63; have H73 := Lib.hid h73; have HK := Lib.hid hk; have HW3 := Lib.hid hW3
      have HCUR := Lib.hid hcur
      clear hk h6 h7 h63 h73 hcur hW3
      go_wp2_with (first
        | (refine wpList_store_row rfl 37 (.tmp 6) (.tmp 19) rfl w1.heap.size (tokV r pj) rfl rfl 37 tok0 H6.out rfl rfl (by simp [tokV, Value.oneCell']) ?_)
        | (refine wpList_store_row rfl 26 (.tmp 7) (.tmp 20) rfl (w1.heap.size + 1) (fltV 0 0 0) rfl rfl 26 (fltV 0 0 0) H7.out rfl rfl (by simp [fltV, Value.oneCell']) ?_)
        | (show wpList _ _ _ (_ :: _) _ ((((w1.alloc (.cells tok0 37)).alloc (.cells (fltV 0 0 0) 26)).setRow w1.heap.size (tokV r pj)).setRow (w1.heap.size + 1) (fltV 0 0 0)); rw [← HW3.out]; refine wpList_load_row rfl 26 (.tmp 7) rfl (w1.heap.size + 1) rfl 26 #[.int .i64 0, .int .i64 0, .int .i64 0] (0, 0) _ H73.out rfl rfl rfl ?_)
        | (refine wpList_load_row rfl 37 (.tmp 6) rfl w1.heap.size rfl 37 #[.int .i64 (r.kind : Int), .string r.text, .int .u64 (r.val : Int), .int .i64 (pj.1 : Int), .int .i64 (pj.2 : Int)] (0, 0) _ H63.out rfl rfl rfl ?_)
        | (at_builtin; refine wpList_append_own _ rfl _ _ 23 rfl w.heap.size 37 i0 (.agg tok0) 5 48 Tryd.underlying23 hi hz0 hz1 hz2 rfl (by decide) _ l.length (flat l) rfl ?own ⟨W3.heap.size, 0, none⟩ 1 1 (tokV r pj).toList rfl rfl ?c1 ?c2 ?c3 ?c4 ?c5 ?next))
      case own =>
        show (W3.alloc (.cells (tokV r pj) 37)).ownsRow w.heap.size 37 5 u4 l.length (flat l)
        have h3 : W3.ownsRow w.heap.size 37 5 u4 l.length (flat l) := own_keep HROW.out (fun k hk => by
          have := HOL.out k hk
          obtain ⟨o, ho⟩ : ∃ o, w1.heap[k]? = some o := ⟨_, Array.getElem?_eq_getElem this⟩
          rw [ho]; exact HK.out k o ho)
        exact own_keep h3 (fun k hk => Below.heap_alloc _ _ _ (own_lt h3 hk))
      case c1 =>
        intro m u hu
        have ha : (⟨W3.heap.size, 0, none⟩ : Addr).add m = ⟨W3.heap.size, m, none⟩ := by simp [Addr.add]; omega
        rw [ha]
        refine Eq.trans (cell_of_row _ _ _ (tokV r pj) 37 (0, 0) (heap_alloc_new W3 _)) ?_
        rw [← hu]
        simp
      case c2 => intro u hu; simp [tokV] at hu; rcases hu with rfl | rfl | rfl | rfl | rfl <;> rfl
      case c3 => unfold maxLen; omega
      case c4 => omega
      case c5 => have := HB1.out.size; have := lt_of_block H63.out; simp; omega
      case next =>
        intro v' w' hown hgrow hnil
        have hown2 : TokRow 37 w.heap.size (l ++ [tokV r pj]) v' w' := by unfold TokRow; rw [flat_snoc, List.length_append]; exact hown
        have hs3 := lt_of_block H73.out
        have hkeep : ∀ (k : Nat) (o : Obj), W3.heap[k]? = some o → some k ≠ u4.ownBlock → w'.heap[k]? = some o := fun k o hk hne => by
          have h1 := (Array.getElem?_eq_some_iff.1 hk).1
          rw [hgrow.block k (by simp; omega) hne, Below.heap_alloc _ _ _ h1]; exact hk
        have hne : ∀ k, w1.heap.size ≤ k → some k ≠ u4.ownBlock := fun k hk e => by have := HOL.out k e.symm; omega
        have hcur : IsCur (w.heap.size + 1) s r.stop (plTo s p i r.stop) w' := hkeep _ _ (HK.out _ _ HCUR.out) (row_not_own HCUR.out hT HROW.out)
        have hr3 : w'.heap[w.heap.size]? = some (.cells (fltV 0 0 0) 26 (0, 0)) := hkeep _ _ (HK.out _ _ HR3.out) (row_not_own HR3.out (by decide) HROW.out)
        have h6 := hkeep _ _ H63.out (hne _ (Nat.le_refl _))
        have h7 := hkeep _ _ H73.out (hne _ (by omega))
        have hbl : Below w.heap.size w w' := by
          have h1 : Below w.heap.size w W3 := by
            rw [HW3.out]
            exact below_setRow (below_setRow (((HB1.out.alloc (by omega) _).alloc (by simp; omega) _)) (by omega) _) (by omega) _
          exact (h1.alloc (by omega) _).grown hgrow (by simp; omega) (fun k hk => (HROW.out.lt k hk).1)
        have k0 : w'.cell? ⟨w1.heap.size, 0, none⟩ = some (.int .i64 (r.kind : Int)) := by rw [cell_of_row _ _ _ _ _ _ h6]; rfl
        have HOWN := Lib.hid hown2; have HCUR2 := Lib.hid hcur; have HR32 := Lib.hid hr3; have H62 := Lib.hid h6; have H72 := Lib.hid h7; have HBL := Lib.hid hbl
        clear hown hgrow hnil hown2 hkeep hne hcur hr3 h6 h7 hbl HROW HOL HCUR HR3 H63 H73 HK HW3 H6 H7 HO1 HZ HNZ HB1
        by_cases hk0 : r.kind = 0
        · have tk : ((r.kind : Int) == 0) = true := by rw [hk0]; rfl
          go_wp2_with (fail)
          obtain ⟨W5, hW5⟩ : ∃ W5, W5 = w'.setRow w.heap.size (fltV 0 0 0) := ⟨_, rfl⟩
          have h75 : W5.heap[w1.heap.size + 1]? = some (.cells (fltV 0 0 0) 26 (0, 0)) := by rw [hW5, setRow_other _ _ _ _ (by omega)]; exact H72.out
          have h35 : W5.heap[w.heap.size]? = some (.cells (fltV 0 0 0) 26 (0, 0)) := by rw [hW5]; exact setRow_heap _ _ _ _ _ _ HR32.out
          have hbl5 : Below w.heap.size w W5 := by rw [hW5]; exact below_setRow HBL.out (Nat.le_refl _) _
          have hown5 : TokRow 37 w.heap.size (l ++ [tokV r pj]) v' W5 := by
            rw [hW5]
            exact own_keep HOWN.out (fun k hk => setRow_other _ _ _ _ (fun e => by subst e; exact row_not_own HR32.out (by decide) HOWN.out hk.symm))
          refine wp_region_stageV (σ := World) (C := fun s w => ∃ n, w = s.drewN n) (L := fun s' => s'.heap[w1.heap.size + 1]? = some (.cells (fltV 0 0 0) 26 (0, 0))) (ch := Oper.stores) (fin := fun _ => false) w' hmx (by kernel_rfl) ⟨1, rfl⟩ ?_
          refine wpStageV_step H72.out rfl rfl ?_; go_big_quiet_want; go_big_quiet_op; go_big_quiet_on; refine wpQuiet_nil ?_
          refine wpStageV_loadRow 26 (.tmp 7) rfl (w1.heap.size + 1) rfl 26 (fltV 0 0 0) (0, 0) _ (fun s' w' hL hw => by obtain ⟨n, rfl⟩ := hw; exact hL) Tryd.underlying26 rfl rfl H72.out rfl rfl ?_
          simp only [Act.put, List.setIfInBounds_toArray, List.set_cons_succ, List.set_cons_zero]
          refine wpStageV_step H72.out rfl rfl ?_; go_big_quiet_want; go_big_quiet_op; go_big_quiet_on; refine wpQuiet_nil ?_
          refine wpStageV_storeRow 26 (.tmp 3) (.tmp 33) rfl w.heap.size (fltV 0 0 0) rfl rfl 26 (fltV 0 0 0) HR32.out rfl rfl (by simp [fltV, Value.oneCell']) H72.out rfl rfl (by rw [← hW5]; exact h75) ?_
          rw [← hW5]
          simp only [Act.put, List.setIfInBounds_toArray, List.set_cons_succ, List.set_cons_zero]
          refine wpStageV_nil ?_
          rintro _ ⟨n5, rfl⟩
          obtain ⟨W7, hW7⟩ : ∃ W7, W7 = W5.drewN n5 := ⟨_, rfl⟩
          have H37 : Hid (W7.heap[w.heap.size]? = some (.cells (fltV 0 0 0) 26 (0, 0))) := Lib.hid (hW7 ▸ h35)
          have HB7 : Hid (Below w.heap.size w W7) := Lib.hid (by rw [hW7]; exact ⟨hbl5.os, hbl5.tape, hbl5.output, hbl5.size, hbl5.block⟩)
          have HO7 : Hid (TokRow 37 w.heap.size (l ++ [tokV r pj]) v' W7) := Lib.hid (by rw [hW7]; exact own_keep hown5 (fun k hk => rfl))
          rw [← hW7]
          clear hW7 h75 h35 hbl5 hown5 hW5
          go_wp2_with (fail)
          refine bodyPost_ret (results_tmp_row rfl _ _ v' rfl w.heap.size 26 (fltV 0 0 0) (0, 0) _ rfl H37.out Tryd.underlying26 rfl rfl) rfl ⟨.inl (l ++ [tokV r pj]), ?_, HB7.out, v', rfl, HO7.out⟩
          have h1 := HTR.out _ (TR.fin i p j HSK.out (by rw [← HRR.out]; exact hcode) (by rw [← HRR.out]; exact hk0))
          rw [← HRR.out, ← HPJ.out] at h1
          exact h1
        · have tk : ((r.kind : Int) == 0) = false := by simp; omega
          go_wp2_with (fail)
          have hlt : j < r.stop := by rw [HRR.out]; exact rdAt_kind s j hj2 (by rw [← HRR.out]; exact hcode) (by rw [← HRR.out]; exact hk0)
          refine ⟨⟨r.stop, plTo s p i r.stop, l ++ [tokV r pj], hss, by simp; omega, Lib.hid ⟨HCUR2.out, HBL.out, HR32.out, HOWN.out, fun R hR => ?_, HOK.out.to (by omega)⟩⟩, ?_⟩
          · rw [TkR.app_pre]
            refine HTR.out _ ?_
            have h1 := TR.more i p j R HSK.out (by rw [← HRR.out]; exact hcode) (by rw [← HRR.out]; exact hk0) (by rw [← HRR.out]; exact hR)
            rw [← HRR.out, ← HPJ.out] at h1
            exact h1
          · rw [HCUR2.out.at, HCAT.out]; omega
    · have he := HNZ.out hcode
      subst he
      have tc : ((r.code : Int) == 0) = false := by simp; omega
      obtain ⟨W3, hW3⟩ : ∃ W3, W3 = (((w1.alloc (.cells tok0 37)).alloc (.cells (fltV 0 0 0) 26)).setRow w1.heap.size tok0).setRow (w1.heap.size + 1) (fltV (r.code : Int) (pj.1 : Int) (pj.2 : Int)) := ⟨_, rfl⟩
      have h6 : ((w1.alloc (.cells tok0 37)).alloc (.cells (fltV 0 0 0) 26)).heap[w1.heap.size]? = some (.cells tok0 37 (0, 0)) := by
        rw [Below.heap_alloc _ _ _ (by simp)]; exact heap_alloc_new w1 _
      have h7 : (((w1.alloc (.cells tok0 37)).alloc (.cells (fltV 0 0 0) 26)).setRow w1.heap.size tok0).heap[w1.heap.size + 1]? = some (.cells (fltV 0 0 0) 26 (0, 0)) := by
        rw [setRow_other _ _ _ _ (by omega), show w1.heap.size + 1 = (w1.alloc (.cells tok0 37)).heap.size from by simp]; exact heap_alloc_new _ _
      have h73 : W3.heap[w1.heap.size + 1]? = some (.cells (fltV (r.code : Int) (pj.1 : Int) (pj.2 : Int)) 26 (0, 0)) := by rw [hW3]; exact setRow_heap _ _ _ _ _ _ h7
      have h33 : W3.heap[w.heap.size]? = some (.cells (fltV 0 0 0) 26 (0, 0)) := by
        rw [hW3, setRow_other _ _ _ _ (by omega), setRow_other _ _ _ _ (by omega), Below.heap_alloc _ _ _ (by simp; omega), Below.heap_alloc _ _ _ (by omega)]; exact HR3.out
      have hbl : Below w.heap.size w W3 := by
        rw [hW3]
        exact below_setRow (below_setRow (((HB1.out.alloc (by omega) _).alloc (by simp; omega) _)) (by omega) _) (by omega) _
      have H6 := Lib.hid h6; have H7 := Lib.hid h7; have H73 := Lib.hid h73; have H33 := Lib.hid h33; have HBL := Lib.hid hbl; have HW3 := Lib.hid hW3
      clear h6 h7 h73 h33 hbl hW3
      go_wp2_with (first
        | (refine wpList_store_row rfl 37 (.tmp 6) (.tmp 19) rfl w1.heap.size tok0 rfl rfl 37 tok0 H6.out rfl rfl (by simp [tok0, Value.oneCell']) ?_)
        | (refine wpList_store_row rfl 26 (.tmp 7) (.tmp 20) rfl (w1.heap.size + 1) (fltV (r.code : Int) (pj.1 : Int) (pj.2 : Int)) rfl rfl 26 (fltV 0 0 0) H7.out rfl rfl (by simp [fltV, Value.oneCell']) ?_)
        | (show wpList _ _ _ (_ :: _) _ ((((w1.alloc (.cells tok0 37)).alloc (.cells (fltV 0 0 0) 26)).setRow w1.heap.size tok0).setRow (w1.heap.size + 1) (fltV (r.code : Int) (pj.1 : Int) (pj.2 : Int))); rw [← HW3.out]; refine wpList_load_row rfl 26 (.tmp 7) rfl (w1.heap.size + 1) rfl 26 #[.int .i64 (r.code : Int), .int .i64 (pj.1 : Int), .int .i64 (pj.2 : Int)] (0, 0) _ H73.out rfl rfl rfl ?_))
      obtain ⟨W5, hW5⟩ : ∃ W5, W5 = W3.setRow w.heap.size (fltV (r.code : Int) (pj.1 : Int) (pj.2 : Int)) := ⟨_, rfl⟩
      have h75 : W5.heap[w1.heap.size + 1]? = some (.cells (fltV (r.code : Int) (pj.1 : Int) (pj.2 : Int)) 26 (0, 0)) := by rw [hW5, setRow_other _ _ _ _ (by omega)]; exact H73.out
      have h35 : W5.heap[w.heap.size]? = some (.cells (fltV (r.code : Int) (pj.1 : Int) (pj.2 : Int)) 26 (0, 0)) := by rw [hW5]; exact setRow_heap _ _ _ _ _ _ H33.out
      have hbl5 : Below w.heap.size w W5 := by rw [hW5]; exact below_setRow HBL.out (Nat.le_refl _) _
      refine wp_region_stageV (σ := World) (C := fun s w => ∃ n, w = s.drewN n) (L := fun s' => s'.heap[w1.heap.size + 1]? = some (.cells (fltV (r.code : Int) (pj.1 : Int) (pj.2 : Int)) 26 (0, 0))) (ch := Oper.stores) (fin := fun _ => false) W3 hmx (by kernel_rfl) ⟨1, rfl⟩ ?_
      refine wpStageV_loadRow 26 (.tmp 7) rfl (w1.heap.size + 1) rfl 26 (fltV (r.code : Int) (pj.1 : Int) (pj.2 : Int)) (0, 0) _ (fun s' w' hL hw => by obtain ⟨n, rfl⟩ := hw; exact hL) Tryd.underlying26 rfl rfl H73.out rfl rfl ?_
      simp only [Act.put, List.setIfInBounds_toArray, List.set_cons_succ, List.set_cons_zero]
      refine wpStageV_step H73.out rfl rfl ?_; go_big_quiet_want; go_big_quiet_op; go_big_quiet_on; refine wpQuiet_nil ?_
      refine wpStageV_storeRow 26 (.tmp 3) (.tmp 24) rfl w.heap.size (fltV (r.code : Int) (pj.1 : Int) (pj.2 : Int)) rfl rfl 26 (fltV 0 0 0) H33.out rfl rfl (by simp [fltV, Value.oneCell']) H73.out rfl rfl (by rw [← hW5]; exact h75) ?_
      rw [← hW5]
      simp only [Act.put, List.setIfInBounds_toArray, List.set_cons_succ, List.set_cons_zero]
      refine wpStageV_nil ?_
      rintro _ ⟨n5, rfl⟩
      obtain ⟨W7, hW7⟩ : ∃ W7, W7 = W5.drewN n5 := ⟨_, rfl⟩
      have H37 : Hid (W7.heap[w.heap.size]? = some (.cells (fltV (r.code : Int) (pj.1 : Int) (pj.2 : Int)) 26 (0, 0))) := Lib.hid (hW7 ▸ h35)
      have HB7 : Hid (Below w.heap.size w W7) := Lib.hid (by rw [hW7]; exact ⟨hbl5.os, hbl5.tape, hbl5.output, hbl5.size, hbl5.block⟩)
      rw [← hW7]
      clear hW7 h75 h35 hbl5 hW5
      go_wp2_with (fail)
      refine bodyPost_ret (results_tmp_row rfl _ _ (.slice none 0 0) rfl w.heap.size 26 (fltV (r.code : Int) (pj.1 : Int) (pj.2 : Int)) (0, 0) _ rfl H37.out Tryd.underlying26 rfl rfl) rfl ⟨.inr (r.code, pj.1, pj.2), ?_, HB7.out, rfl⟩
      have h1 := HTR.out _ (TR.bad i p j HSK.out (by rw [← HRR.out]; exact hcode))
      rw [← HRR.out, ← HPJ.out] at h1
      exact h1
end Go.Proofs.YtldbnfbfhbkclaaDoor
