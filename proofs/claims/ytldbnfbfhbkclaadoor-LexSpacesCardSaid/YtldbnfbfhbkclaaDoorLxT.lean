/-
  Chapter 6: the cursor reads a quoted name; which reader; the next token.
-/
import Derived.Test.YtldbnfbfhbkclaaDoorLxR
namespace Go.Proofs.YtldbnfbfhbkclaaDoor
open Go.RowKit Go.Shelf

def nameRd (s : ByteArray) (i : Nat) : Rd := match qName s i with | some (l, e) => ⟨3, ⟨l.toArray⟩, 0, e, 0⟩ | none => rdBad 6

set_option maxRecDepth 100000 in
set_option maxHeartbeats 4000000 in
theorem name_any (C : Nat) (s : ByteArray) (i : Nat) (p : Nat × Nat) (w : World) (h : IsCur C s i p w) (hi : i < s.size) (hq : bt s i = 34) (hs : s.size ≤ 100000000) (hp : Okp i p) :
    Calls Tryd.prog 41 #[.pointer (some ⟨C, 0, none⟩)] w (RdEnd C s i p (nameRd s i) w) := by
  have hlt := h.lt
  have HP := Lib.hid hp
  obtain ⟨r, hr⟩ : ∃ r, r = nameRd s i := ⟨_, rfl⟩
  rw [← hr]
  have HRD := Lib.hid hr
  have hmx : Tryd.prog.follows .mixedOrders = true := by kernel_rfl
  obtain ⟨W0, hW0⟩ : ∃ W0, W0 = w.alloc (.cells tok0 37) := ⟨_, rfl⟩
  have hro : W0.heap[w.heap.size]? = some (.cells tok0 37 (0, 0)) := by rw [hW0]; exact heap_alloc_new w _
  have hcu : IsCur C s i p W0 := by rw [hW0]; exact h.alloc _
  have hon : Only C w W0 := by rw [hW0]; exact (Only.refl C w).alloc _
  have HRO := Lib.hid hro; have HCU := Lib.hid hcu; have HON := Lib.hid hon; have HW0 := Lib.hid hW0
  have c2 := hcu.c2
  have c3 := hcu.c3
  clear h hp hr hW0 hro hcu hon
  cases hqn : qName s i with
  | none =>
    have HQN := Lib.hid hqn
    go_enter Tryd.func41, Tryd.ntmps41
    go_wp2_with (fail)
    show Code.wp _ _ _ _ (w.alloc (.cells tok0 37))
    rw [← HW0.out]
    refine wp_region_stageV (σ := World) (C := fun s w => ∃ n, w = s.drewN n) (L := fun s' => s'.cell? ⟨C, 2, none⟩ = some (.string s) ∧ s'.cell? ⟨C, 3, none⟩ = some (.int .i64 (i : Int))) (ch := chCall 54) (fin := fun _ => false) W0 hmx (by kernel_rfl) ⟨1, rfl⟩ ?_
    iterate 8 (first | (refine wpStageV_nilCheck _ ⟨C, 0, none⟩ rfl rfl ⟨c2, c3⟩ rfl rfl ?_; simp only [Act.put, List.setIfInBounds_toArray, List.set_cons_succ, List.set_cons_zero]) | skip; refine wpStageV_step ⟨c2, c3⟩ rfl rfl ?_; go_big_quiet_want; go_big_quiet_op; first
      | (go_big_quiet_on; refine wpQuiet_nil ?_)
      | (refine ⟨_, fun w' s' hL1 hL2 n hn => rfl, ?_⟩; go_big_quiet_on; refine wpQuiet_nil ?_)
      | (apply Exists.intro; refine ⟨?_, ?_⟩; (intro w' s' hL1 hL2 n hn; subst hn; rw [World.cell?_drewN, hL1]; exact ⟨rfl, rfl⟩); go_big_quiet_on; refine wpQuiet_nil ?_)
      | (apply Exists.intro; refine ⟨?_, ?_⟩; (intro w' s' hL1 hL2 n hn; subst hn; rw [World.cell?_drewN, hL2]; exact ⟨rfl, rfl⟩); go_big_quiet_on; refine wpQuiet_nil ?_))
    refine wpStageV_enter 54 #[.string s, .int .i64 (i : Int)] ⟨c2, c3⟩ rfl rfl (fun w' => by simp [execOp, go_sem]) ?_
    rintro _ ⟨n, rfl⟩
    refine (scan_any s i (W0.drewN n) hi hq hs).mono ?_
    rintro e w1 ⟨rfl, hb1⟩
    rw [hqn]
    have hc1 : IsCur C s i p w1 := (HCU.out.drewN n).below hb1
    have d2 := hc1.c2
    have d3 := hc1.c3
    have hr1 : w1.heap[w.heap.size]? = some (.cells tok0 37 (0, 0)) := (hb1.block _ (lt_of_block HRO.out)).trans HRO.out
    have ho1 : Only C w w1 := (HON.out.drewN n).below hb1
    refine ⟨_, rfl, w1, ⟨0, rfl⟩, fun _ => ⟨d2, d3⟩, ?_⟩
    simp only [scanV, Act.put, List.setIfInBounds_toArray, List.set_cons_succ, List.set_cons_zero]
    iterate 7 (refine wpStageV_step ⟨d2, d3⟩ rfl rfl ?_; go_big_quiet_want; go_big_quiet_op; first
      | (go_big_quiet_on; refine wpQuiet_nil ?_)
      | (refine ⟨_, fun w' s' hL1 hL2 n hn => rfl, ?_⟩; go_big_quiet_on; refine wpQuiet_nil ?_)
      | (apply Exists.intro; refine ⟨?_, ?_⟩; (intro w' s' hL1 hL2 n hn; subst hn; exact ⟨rfl, rfl⟩); go_big_quiet_on; refine wpQuiet_nil ?_))
    refine wpStageV_nil ?_
    rintro _ ⟨m, rfl⟩
    obtain ⟨W1, hW1⟩ : ∃ W1, W1 = w1.drewN m := ⟨_, rfl⟩
    have hc : IsCur C s i p W1 := by rw [hW1]; exact hc1
    have hro : W1.heap[w.heap.size]? = some (.cells tok0 37 (0, 0)) := by rw [hW1]; exact hr1
    have hon : Only C w W1 := by rw [hW1]; exact ho1.drewN m
    have HC := Lib.hid hc; have HR := Lib.hid hro; have HO := Lib.hid hon
    rw [← hW1]
    clear hc hro hon hW1 hc1 d2 d3 hr1 ho1 hb1 c2 c3

    go_wp2_with (refine wpList_store_row rfl 37 (.tmp 2) (.tmp 22) rfl w.heap.size tok0 rfl rfl 37 tok0 HR.out rfl rfl (by simp [tok0, Value.oneCell']) ?_)
    have hrb : r = rdBad 6 := by rw [HRD.out]; unfold nameRd; rw [HQN.out]
    refine bodyPost_ret (results_row_tmp rfl _ _ w.heap.size 37 tok0 (0, 0) _ rfl (setRow_heap _ _ _ _ _ _ HR.out) Tryd.underlying37 rfl rfl _ rfl) rfl ⟨by rw [hrb]; rfl, HO.out.setRow (Nat.le_refl _) _, (fun h => by rw [hrb] at h; cases h)⟩
  | some le =>
    obtain ⟨l, e⟩ := le
    have HQN := Lib.hid hqn
    obtain ⟨hes, hie⟩ := qName_size hqn
    go_enter Tryd.func41, Tryd.ntmps41
    go_wp2_with (fail)
    show Code.wp _ _ _ _ (w.alloc (.cells tok0 37))
    rw [← HW0.out]
    refine wp_region_stageV (σ := World) (C := fun s w => ∃ n, w = s.drewN n) (L := fun s' => s'.cell? ⟨C, 2, none⟩ = some (.string s) ∧ s'.cell? ⟨C, 3, none⟩ = some (.int .i64 (i : Int))) (ch := chCall 54) (fin := fun _ => false) W0 hmx (by kernel_rfl) ⟨1, rfl⟩ ?_
    iterate 8 (first | (refine wpStageV_nilCheck _ ⟨C, 0, none⟩ rfl rfl ⟨c2, c3⟩ rfl rfl ?_; simp only [Act.put, List.setIfInBounds_toArray, List.set_cons_succ, List.set_cons_zero]) | skip; refine wpStageV_step ⟨c2, c3⟩ rfl rfl ?_; go_big_quiet_want; go_big_quiet_op; first
      | (go_big_quiet_on; refine wpQuiet_nil ?_)
      | (refine ⟨_, fun w' s' hL1 hL2 n hn => rfl, ?_⟩; go_big_quiet_on; refine wpQuiet_nil ?_)
      | (apply Exists.intro; refine ⟨?_, ?_⟩; (intro w' s' hL1 hL2 n hn; subst hn; rw [World.cell?_drewN, hL1]; exact ⟨rfl, rfl⟩); go_big_quiet_on; refine wpQuiet_nil ?_)
      | (apply Exists.intro; refine ⟨?_, ?_⟩; (intro w' s' hL1 hL2 n hn; subst hn; rw [World.cell?_drewN, hL2]; exact ⟨rfl, rfl⟩); go_big_quiet_on; refine wpQuiet_nil ?_))
    refine wpStageV_enter 54 #[.string s, .int .i64 (i : Int)] ⟨c2, c3⟩ rfl rfl (fun w' => by simp [execOp, go_sem]) ?_
    rintro _ ⟨n, rfl⟩
    refine (scan_any s i (W0.drewN n) hi hq hs).mono ?_
    rintro e1 w1 ⟨rfl, hb1⟩
    rw [hqn]
    have hc1 : IsCur C s i p w1 := (HCU.out.drewN n).below hb1
    have d2 := hc1.c2
    have d3 := hc1.c3
    have hr1 : w1.heap[w.heap.size]? = some (.cells tok0 37 (0, 0)) := (hb1.block _ (lt_of_block HRO.out)).trans HRO.out
    have ho1 : Only C w w1 := (HON.out.drewN n).below hb1
    refine ⟨_, rfl, w1, ⟨0, rfl⟩, fun _ => ⟨d2, d3⟩, ?_⟩
    simp only [scanV, Act.put, List.setIfInBounds_toArray, List.set_cons_succ, List.set_cons_zero]
    iterate 7 (refine wpStageV_step ⟨d2, d3⟩ rfl rfl ?_; go_big_quiet_want; go_big_quiet_op; first
      | (go_big_quiet_on; refine wpQuiet_nil ?_)
      | (refine ⟨_, fun w' s' hL1 hL2 n hn => rfl, ?_⟩; go_big_quiet_on; refine wpQuiet_nil ?_)
      | (apply Exists.intro; refine ⟨?_, ?_⟩; (intro w' s' hL1 hL2 n hn; subst hn; exact ⟨rfl, rfl⟩); go_big_quiet_on; refine wpQuiet_nil ?_))
    refine wpStageV_nil ?_
    rintro _ ⟨m, rfl⟩
    obtain ⟨W1, hW1⟩ : ∃ W1, W1 = w1.drewN m := ⟨_, rfl⟩
    have hc : IsCur C s i p W1 := by rw [hW1]; exact hc1
    have hro : W1.heap[w.heap.size]? = some (.cells tok0 37 (0, 0)) := by rw [hW1]; exact hr1
    have hon : Only C w W1 := by rw [hW1]; exact ho1.drewN m
    have HC := Lib.hid hc; have HR := Lib.hid hro; have HO := Lib.hid hon
    rw [← hW1]
    clear hc hro hon hW1 hc1 d2 d3 hr1 ho1 hb1 c2 c3

    go_wp2_with (fail)
    go_loopw [23] (fun _ wr => ∃ j : Nat, i ≤ j ∧ j ≤ e ∧ Hid (IsCur C s j (plTo s p i j) wr ∧ Only C w wr ∧ wr.heap[w.heap.size]? = some (.cells tok0 37 (0, 0)))) (fun _ wr => e - (match wr.cell? ⟨C, 3, none⟩ with | some v => (intOf v).toNat | none => 0))
    case atStart => exact ⟨i, by omega, by omega, Lib.hid ⟨by rw [plTo_self]; exact HC.out, HO.out, HR.out⟩⟩
    case round =>
      obtain ⟨j, hj1, hj2, HR2⟩ := hrel
      have d3 := HR2.out.1.c3
      have D3 := Lib.hid d3
      by_cases hlj : j < e
      · have tl : decide ((j : Int) < (e : Int)) = true := by simp; omega
        have tl' : decide (j < e) = true := by simp; omega
        go_wp2_with (fail)
        have hok := HP.out.to (s := s) hj1
        refine (step_any C s j (plTo s p i j) wr HR2.out.1 (by omega) (by omega) (by have := hok.1; omega) (by have := hok.2; omega)).mono ?_
        rintro e3 w3 ⟨rfl, hc3, ho3⟩
        have HN := Lib.hid (ho3.row (k := w.heap.size) (by omega) HR2.out.2.2)
        have HC3 := Lib.hid hc3; have HO3 := Lib.hid ho3
        clear hc3 ho3 hok
        go_wp2
        refine ⟨⟨j + 1, by omega, by omega, Lib.hid ⟨?_, HR2.out.2.1.trans HO3.out, HN.out⟩⟩, ?_⟩
        · rw [plTo_succ _ _ _ _ hj1]; exact HC3.out
        · rw [HC3.out.c3, D3.out]; simp [intOf]; omega
      · obtain rfl : j = e := by omega
        have tl : decide ((j : Int) < (j : Int)) = false := by simp
        have tl' : decide (j < j) = false := by simp
        have HRW := Lib.hid HR2.out.2.2
        go_wp2_with (refine wpList_store_row rfl 37 (.tmp 2) (.tmp 32) rfl w.heap.size #[.int .i64 3, .string ⟨l.toArray⟩, .int .u64 0, .int .i64 0, .int .i64 0] rfl rfl 37 tok0 HRW.out rfl rfl (by simp [Value.oneCell']) ?_)
        have hrb : r = ⟨3, ⟨l.toArray⟩, 0, j, 0⟩ := by rw [HRD.out]; unfold nameRd; rw [HQN.out]
        refine bodyPost_ret (results_row_tmp rfl _ _ w.heap.size 37 #[.int .i64 3, .string ⟨l.toArray⟩, .int .u64 0, .int .i64 0, .int .i64 0] (0, 0) _ rfl (setRow_heap _ _ _ _ _ _ HR2.out.2.2) Tryd.underlying37 rfl rfl _ rfl) rfl ⟨by rw [hrb]; rfl, HR2.out.2.1.setRow (Nat.le_refl _) _, (fun _ => by rw [hrb]; exact ⟨HR2.out.1.setRow (by omega) _, hj1, hes⟩)⟩

/-- The reader of what stands at the offset. -/
def IsReader (C : Nat) (s : ByteArray) (i : Nat) (p : Nat × Nat) (K : Nat) : Prop :=
  (∀ w, IsCur C s i p w → Glob w → C ∉ gl → Calls Tryd.prog K #[.pointer (some ⟨C, 0, none⟩)] w (RdEnd C s i p (rdAt s i) w)) ∧ ∀ a w, (callFunc K #[a]).run Tryd.prog w = .ok (.enter K #[a]) w
theorem rdr_end (C : Nat) (s : ByteArray) (p : Nat × Nat) : IsReader C s s.size p 36 :=
  ⟨fun w h _ _ => by unfold rdAt; rw [if_pos (Nat.le_refl _)]; exact end_any C s p w h, fun a w => enters_of Tryd.func36 (by kernel_rfl) rfl _ _⟩
theorem rdr_word (C : Nat) (s : ByteArray) (i : Nat) (p : Nat × Nat) (hi : i < s.size) (hs : s.size ≤ 100000000) (hp : Okp i p) (hl : isLet (bt s i) = true) : IsReader C s i p 38 :=
  ⟨fun w h _ _ => by unfold rdAt; rw [if_neg (by omega), if_pos hl]; exact word_any C s i p w h (by omega) hs hp, fun a w => enters_of Tryd.func38 (by kernel_rfl) rfl _ _⟩
theorem rdr_number (C : Nat) (s : ByteArray) (i : Nat) (p : Nat × Nat) (hi : i < s.size) (hs : s.size ≤ 100000000) (hp : Okp i p) (hl : isLet (bt s i) = false) (hd : isDig (bt s i) = true) : IsReader C s i p 40 :=
  ⟨fun w h hG hC => by unfold rdAt; rw [if_neg (by omega), if_neg (by rw [hl]; decide), if_pos hd]; exact number_any C s i p w h (by omega) hs hp hG hC, fun a w => enters_of Tryd.func40 (by kernel_rfl) rfl _ _⟩
theorem rdr_name (C : Nat) (s : ByteArray) (i : Nat) (p : Nat × Nat) (hi : i < s.size) (hs : s.size ≤ 100000000) (hp : Okp i p) (hq : bt s i = 34) : IsReader C s i p 41 :=
  ⟨fun w h _ _ => by unfold rdAt; rw [if_neg (by omega), if_neg (by rw [hq]; decide), if_neg (by rw [hq]; decide), if_pos hq]; exact name_any C s i p w h hi hq hs hp, fun a w => enters_of Tryd.func41 (by kernel_rfl) rfl _ _⟩
theorem rdr_sign (C : Nat) (s : ByteArray) (i : Nat) (p : Nat × Nat) (hi : i < s.size) (hs : s.size ≤ 100000000) (hp : Okp i p) (hl : isLet (bt s i) = false) (hd : isDig (bt s i) = false) (hq : ¬ bt s i = 34) : IsReader C s i p 42 :=
  ⟨fun w h _ _ => by unfold rdAt; rw [if_neg (by omega), if_neg (by rw [hl]; decide), if_neg (by rw [hd]; decide), if_neg hq]; exact sign_any C s i p w h hi hs hp, fun a w => enters_of Tryd.func42 (by kernel_rfl) rfl _ _⟩

set_option maxRecDepth 100000 in
set_option maxHeartbeats 4000000 in
theorem reader_any (C : Nat) (s : ByteArray) (i : Nat) (p : Nat × Nat) (w : World) (h : IsCur C s i p w) (hi : i ≤ s.size) (hs : s.size ≤ 100000000) (hp : Okp i p) :
    Calls Tryd.prog 23 #[.pointer (some ⟨C, 0, none⟩)] w fun e w' => ∃ K n, e = .returned (.func (.func K) #[.pointer (some ⟨C, 0, none⟩)] #[]) ∧ w' = w.drewN n ∧ IsReader C s i p K := by
  have c2 := h.c2
  have c3 := h.c3
  have HP := Lib.hid hp
  clear h hp
  by_cases he : i = s.size
  · subst he
    go_enter Tryd.func23, Tryd.ntmps23
    go_wp2_with (fail)
    go_quiet (fail)
    go_wp2_with (fail)
    go_ret
    exact ⟨_, _, rfl, rfl, rdr_end C s p⟩
  · have hlt : i < s.size := by omega
    have te : ((i : Int) == (s.size : Int)) = false := by simp; omega
    have te' : (i == s.size) = false := by simp; omega
    obtain ⟨q, hqe⟩ : ∃ q, q = bt s i := ⟨_, rfl⟩
    have hq := bt_at s i hlt
    rw [← hqe] at hq
    have HQ := Lib.hid hqe
    clear hqe he
    go_enter Tryd.func23, Tryd.ntmps23
    go_wp2_with (fail)
    go_quiet (fail)
    go_wp2_with (fail)
    go_quiet (fail)
    go_wp2_with (fail)
    refine (isLetter_any q _).mono ?_
    rintro e w1 ⟨rfl, rfl⟩
    cases hl : isLet q with
    | true =>
      have HK := Lib.hid (rdr_word C s i p hlt hs HP.out (by rw [← HQ.out]; exact hl))
      go_wp2_with (fail)
      go_ret
      exact ⟨_, _, rfl, rfl, HK.out⟩
    | false =>
      go_wp2_with (fail)
      refine (isDigit_any q _).mono ?_
      rintro e w1 ⟨rfl, rfl⟩
      cases hd : isDig q with
      | true =>
        have HK := Lib.hid (rdr_number C s i p hlt hs HP.out (by rw [← HQ.out]; exact hl) (by rw [← HQ.out]; exact hd))
        go_wp2_with (fail)
        go_ret
        exact ⟨_, _, rfl, rfl, HK.out⟩
      | false =>
        by_cases h34 : q = 34
        · have HK := Lib.hid (rdr_name C s i p hlt hs HP.out (by rw [← HQ.out]; exact h34))
          subst h34
          go_wp2_with (fail)
          go_ret
          exact ⟨_, _, rfl, rfl, HK.out⟩
        · have t34 : ((q : Int) == 34) = false := by simp; omega
          have t34' : (q == 34) = false := by simp; omega
          have HK := Lib.hid (rdr_sign C s i p hlt hs HP.out (by rw [← HQ.out]; exact hl) (by rw [← HQ.out]; exact hd) (by rw [← HQ.out]; exact h34))
          go_wp2_with (fail)
          go_ret
          exact ⟨_, _, rfl, rfl, HK.out⟩
end Go.Proofs.YtldbnfbfhbkclaaDoor
