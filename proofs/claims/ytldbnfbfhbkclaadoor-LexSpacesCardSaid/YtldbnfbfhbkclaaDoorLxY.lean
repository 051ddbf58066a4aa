/-
  Chapter 6: the reference's Tokens.
-/
import Derived.Test.YtldbnfbfhbkclaaDoorLxX
namespace Go.Proofs.YtldbnfbfhbkclaaDoor
open Go.RowKit Go.Shelf

theorem infoRTok : (Tryd.prog.info? 38).map (fun i => (i.zero, i.size, i.bytes)) = some (some (.agg tok0), 5, 48) := by kernel_rfl
def RefTokEnd (n₀ : Nat) (w : World) (R : TkR) (e : Ending) (w' : World) : Prop :=
  Below n₀ w w' ∧ match R with
  | .inl l => ∃ v, e = .returned (.tuple #[v, .int .i64 0, .int .i64 0, .int .i64 0]) ∧ TokRow 38 n₀ l v w'
  | .inr (c, ln, cl) => e = .returned (.tuple #[.slice none 0 0, .int .i64 (c : Int), .int .i64 (ln : Int), .int .i64 (cl : Int)])

theorem results_tmps4 {P : Program} {fn : Func} {p q r t : Tmp} (h : fn.results = #[.tmp p, .tmp q, .tmp r, .tmp t]) (tmps : Array Value) (w : World) (a b c d : Value) (hp : tmps.getD p undef = a) (hq : tmps.getD q undef = b) (hr : tmps.getD r undef = c) (ht : tmps.getD t undef = d) :
    (results fn tmps).run P w = .ok (.tuple #[a, b, c, d]) w := by
  have hp' : tmps[p]?.getD undef = a := by simpa using hp
  have hq' : tmps[q]?.getD undef = b := by simpa using hq
  have hr' : tmps[r]?.getD undef = c := by simpa using hr
  have ht' : tmps[t]?.getD undef = d := by simpa using ht
  simp [results, h, hp', hq', hr', ht', asAddr]
def RTokInv (s : ByteArray) (w : World) (n₀ i : Nat) (p : Nat × Nat) (l : List (Array Value)) (v : Value) (wr : World) : Prop :=
  Below n₀ w wr ∧ TokRow 38 n₀ l v wr ∧ (∀ R, TR s i p R → TR s 0 (1, 1) (TkR.app l R)) ∧ Okp i p
set_option maxRecDepth 100000 in
set_option maxHeartbeats 8000000 in
theorem refTokens_any (s : ByteArray) (w : World) (hs : s.size ≤ 1048576) :
    Calls Tryd.prog 8 #[.string s] w fun e w' => ∃ R, TR s 0 (1, 1) R ∧ RefTokEnd w.heap.size w R e w' := by
  obtain ⟨i0, hi, hz0, hz1, hz2⟩ := info_parts infoRTok
  have hmx : Tryd.prog.follows .mixedOrders = true := by kernel_rfl
  have t0 : ¬ (1048576 < (s.size : Int)) := by omega
  have t0' : ¬ (1048576 < s.size) := by omega
  have hinv : RTokInv s w w.heap.size 0 (1, 1) [] (.slice none 0 0) w := ⟨Below.refl _ _, World.ownsRow_nil _ _ _ _, fun R h => by cases R <;> exact h, ⟨by decide, by decide⟩⟩
  have HI := Lib.hid hinv
  clear hinv
  go_enter Tryd.func8, Tryd.ntmps8
  go_wp2_with (fail)
  go_loopw [6, 7, 8, 9] (fun v va vl vc wr => ∃ (i : Nat) (p : Nat × Nat) (l : List (Array Value)), i ≤ s.size ∧ l.length ≤ i ∧ va = .int .i64 (i : Int) ∧ vl = .int .i64 (p.1 : Int) ∧ vc = .int .i64 (p.2 : Int) ∧ Hid (RTokInv s w w.heap.size i p l v wr)) (fun _ va _ _ _ => s.size + 1 - (intOf va).toNat)
  case atStart => exact ⟨0, (1, 1), [], by omega, by simp, rfl, rfl, rfl, HI⟩
  case round =>
    obtain ⟨i, p, l, hi1, hi2, rfl, rfl, rfl, HR⟩ := hrel
    clear HI
    have hok : p.1 ≤ 1048577 ∧ p.2 ≤ 1048577 := by have := HR.out.2.2.2; unfold Okp at this; omega
    obtain ⟨ok1, ok2⟩ := hok
    go_wp2_with (fail)
    refine (refNext_any s i p.1 p.2 wr hi1 (by omega) (by omega) (by omega)).mono ?_
    rintro e w1 ⟨j, hsk, hj1, hj2, rfl, hb⟩
    obtain ⟨r, hr⟩ : ∃ r, r = rdAt s j := ⟨_, rfl⟩
    obtain ⟨pj, hpj⟩ : ∃ pj, pj = plTo s p i j := ⟨_, rfl⟩
    rw [← hr, show plTo s (p.1, p.2) i j = pj from hpj.symm]
    have hb1 : Below w.heap.size w w1 := HR.out.1.trans (hb.mono HR.out.1.size)
    have hrow : TokRow 38 w.heap.size l u6 w1 := own_keep HR.out.2.1 (fun k hk => hb.block k (own_lt HR.out.2.1 hk))
    have hol : ∀ k, u6.ownBlock = some k → k < w1.heap.size := fun k hk => own_lt hrow hk
    have htr : ∀ R, TR s i p R → TR s 0 (1, 1) (TkR.app l R) := HR.out.2.2.1
    have hok := HR.out.2.2.2
    have HSK := Lib.hid hsk; have HRR := Lib.hid hr; have HPJ := Lib.hid hpj; have HB1 := Lib.hid hb1
    have HROW := Lib.hid hrow; have HOL := Lib.hid hol; have HTR := Lib.hid htr; have HOK := Lib.hid hok
    clear hsk hr hpj hb1 hb hrow hol htr hok HR
    obtain ⟨W3, hW3⟩ : ∃ W3, W3 = (w1.alloc (.cells tok0 38)).setRow w1.heap.size (tokV r pj) := ⟨_, rfl⟩
    have h63 : W3.heap[w1.heap.size]? = some (.cells (tokV r pj) 38 (0, 0)) := by rw [hW3]; exact setRow_heap _ _ _ _ _ _ (heap_alloc_new w1 _)
    have hsw := HB1.out.size
    have hs3 := lt_of_block h63
    have hbl3 : Below w.heap.size w W3 := by
      rw [hW3]; exact below_setRow (HB1.out.alloc hsw _) hsw _
    have c0 : W3.cell? ⟨w1.heap.size, 0, none⟩ = some (.int .i64 (r.kind : Int)) := by rw [cell_of_row _ _ _ _ _ _ h63]; rfl
    have c3 : W3.cell? ⟨w1.heap.size, 3, none⟩ = some (.int .i64 (pj.1 : Int)) := by rw [cell_of_row _ _ _ _ _ _ h63]; rfl
    have c4 : W3.cell? ⟨w1.heap.size, 4, none⟩ = some (.int .i64 (pj.2 : Int)) := by rw [cell_of_row _ _ _ _ _ _ h63]; rfl
    have hrow3 : TokRow 38 w.heap.size l u6 W3 := by
      rw [hW3]
      exact own_keep HROW.out (fun k hk => by have := HOL.out k hk; rw [setRow_other _ _ _ _ (by omega), Below.heap_alloc _ _ _ (by omega)])
    have H63 := Lib.hid h63; have HW3 := Lib.hid hW3; have HB3 := Lib.hid hbl3; have HROW3 := Lib.hid hrow3
    clear h63 hW3 hbl3 hrow3 HROW
    by_cases hcode : r.code = 0
    · have tc : ((r.code : Int) != 0) = false := by rw [hcode]; rfl
      go_wp2_with (first
        | (refine wpList_store_row rfl 38 (.tmp 10) (.tmp 22) rfl w1.heap.size (tokV r pj) rfl rfl 38 tok0 (heap_alloc_new w1 _) rfl rfl (by simp [tokV, Value.oneCell']) ?_; show wpList _ _ _ _ _ ((w1.alloc (.cells tok0 38)).setRow w1.heap.size (tokV r pj)); rw [← HW3.out])
        | (refine wpList_load_row rfl 38 (.tmp 10) rfl w1.heap.size rfl 38 #[.int .i64 (r.kind : Int), .string r.text, .int .u64 (r.val : Int), .int .i64 (pj.1 : Int), .int .i64 (pj.2 : Int)] (0, 0) _ H63.out rfl rfl rfl ?_)
        | (at_builtin; refine wpList_append_own _ rfl _ _ 29 rfl w.heap.size 38 i0 (.agg tok0) 5 48 Tryd.underlying29 hi hz0 hz1 hz2 rfl (by decide) _ l.length (flat l) rfl ?own ⟨W3.heap.size, 0, none⟩ 1 1 (tokV r pj).toList rfl rfl ?c1 ?c2 ?c3 ?c4 ?c5 ?next))
      case own =>
        show (W3.alloc (.cells (tokV r pj) 38)).ownsRow w.heap.size 38 5 u6 l.length (flat l)
        exact own_keep HROW3.out (fun k hk => Below.heap_alloc _ _ _ (own_lt HROW3.out hk))
      case c1 =>
        intro m u hu
        have ha : (⟨W3.heap.size, 0, none⟩ : Addr).add m = ⟨W3.heap.size, m, none⟩ := by simp [Addr.add]; omega
        rw [ha]
        refine Eq.trans (cell_of_row _ _ _ (tokV r pj) 38 (0, 0) (heap_alloc_new W3 _)) ?_
        rw [← hu]
        simp
      case c2 => intro u hu; simp [tokV] at hu; rcases hu with rfl | rfl | rfl | rfl | rfl <;> rfl
      case c3 => unfold maxLen; omega
      case c4 => omega
      case c5 => simp; omega
      case next =>
        intro v' w' hown hgrow hnil
        have hown2 : TokRow 38 w.heap.size (l ++ [tokV r pj]) v' w' := by unfold TokRow; rw [flat_snoc, List.length_append]; exact hown
        have hkeep : ∀ (k : Nat) (o : Obj), W3.heap[k]? = some o → some k ≠ u6.ownBlock → w'.heap[k]? = some o := fun k o hk hne => by
          have h1 := (Array.getElem?_eq_some_iff.1 hk).1
          rw [hgrow.block k (by simp; omega) hne, Below.heap_alloc _ _ _ h1]; exact hk
        have hne : ∀ k, w1.heap.size ≤ k → some k ≠ u6.ownBlock := fun k hk e => by have := HOL.out k e.symm; omega
        have h6 := hkeep _ _ H63.out (hne _ (Nat.le_refl _))
        have hbl : Below w.heap.size w w' := (HB3.out.alloc (by omega) _).grown hgrow (by simp; omega) (fun k hk => (HROW3.out.lt k hk).1)
        have k0 : w'.cell? ⟨w1.heap.size, 0, none⟩ = some (.int .i64 (r.kind : Int)) := by rw [cell_of_row _ _ _ _ _ _ h6]; rfl
        have HOWN := Lib.hid hown2; have HBL := Lib.hid hbl
        clear hown hgrow hnil hown2 hkeep hne h6 hbl HROW3 HOL H63 HW3 HB1 HB3 c0 c3 c4
        by_cases hk0 : r.kind = 0
        · have tk : ((r.kind : Int) == 0) = true := by rw [hk0]; rfl
          go_wp2_with (fail)
          refine bodyPost_ret (results_tmps4 rfl _ _ v' (.int .i64 0) (.int .i64 0) (.int .i64 0) rfl rfl rfl rfl) rfl ⟨.inl (l ++ [tokV r pj]), ?_, HBL.out, v', rfl, HOWN.out⟩
          have h1 := HTR.out _ (TR.fin i p j HSK.out (by rw [← HRR.out]; exact hcode) (by rw [← HRR.out]; exact hk0))
          rw [← HRR.out, ← HPJ.out] at h1
          exact h1
        · have tk : ((r.kind : Int) == 0) = false := by simp; omega
          have hlt : j < r.stop := by rw [HRR.out]; exact rdAt_kind s j hj2 (by rw [← HRR.out]; exact hcode) (by rw [← HRR.out]; exact hk0)
          have hle : r.stop ≤ s.size := by rw [HRR.out]; exact rdAt_le s j hj2 (by rw [← HRR.out]; exact hcode) (by rw [← HRR.out]; exact hk0)
          go_wp2_with (fail)
          refine (refStep_any s i r.stop p.1 p.2 w' (by omega) hle (by omega) (by omega) (by omega)).mono ?_
          rintro e w2 ⟨rfl, rfl⟩
          go_wp2_with (fail)
          refine ⟨⟨r.stop, plTo s p i r.stop, l ++ [tokV r pj], hle, by simp; omega, rfl, rfl, rfl, Lib.hid ⟨HBL.out, HOWN.out, fun R hR => ?_, HOK.out.to (by omega)⟩⟩, ?_⟩
          · rw [TkR.app_pre]
            refine HTR.out _ ?_
            have h1 := TR.more i p j R HSK.out (by rw [← HRR.out]; exact hcode) (by rw [← HRR.out]; exact hk0) (by rw [← HRR.out]; exact hR)
            rw [← HRR.out, ← HPJ.out] at h1
            exact h1
          · simp [intOf]; omega
    · have tc : ((r.code : Int) != 0) = true := by simp; omega
      go_wp2_with (first
        | (refine wpList_store_row rfl 38 (.tmp 10) (.tmp 22) rfl w1.heap.size (tokV r pj) rfl rfl 38 tok0 (heap_alloc_new w1 _) rfl rfl (by simp [tokV, Value.oneCell']) ?_; show wpList _ _ _ _ _ ((w1.alloc (.cells tok0 38)).setRow w1.heap.size (tokV r pj)); rw [← HW3.out]))
      go_quiet (fail)
      go_wp2_with (fail)
      refine bodyPost_ret (results_tmps4 rfl _ _ (.slice none 0 0) (.int .i64 (r.code : Int)) (.int .i64 (pj.1 : Int)) (.int .i64 (pj.2 : Int)) rfl rfl rfl rfl) rfl ⟨.inr (r.code, pj.1, pj.2), ?_, ⟨HB3.out.os, HB3.out.tape, HB3.out.output, HB3.out.size, HB3.out.block⟩, rfl⟩
      have h1 := HTR.out _ (TR.bad i p j HSK.out (by rw [← HRR.out]; exact hcode))
      rw [← HRR.out, ← HPJ.out] at h1
      exact h1
end Go.Proofs.YtldbnfbfhbkclaaDoor
