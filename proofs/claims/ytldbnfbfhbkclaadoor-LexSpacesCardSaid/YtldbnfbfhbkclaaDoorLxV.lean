/-
  Chapter 6: the reference's next token.
-/
import Derived.Test.YtldbnfbfhbkclaaDoorLxU
namespace Go.Proofs.YtldbnfbfhbkclaaDoor
open Go.RowKit Go.Shelf

theorem results_row_tmp2 {P : Program} {fn : Func} {p q q2 : Tmp} {ty : TypeId} (h : fn.results = #[.cell p ty, .tmp q, .tmp q2]) (tmps : Array Value) (w : World) (g : Nat) (t : TypeId) (cs : Array Value) (fr : Nat × Nat) (d : TypeDesc)
    (hp : tmps.getD p undef = .pointer (some ⟨g, 0, none⟩)) (hg : w.heap[g]? = some (.cells cs t fr))
    (hu : P.underlying ty = some d) (hd : (match d with | .struct _ | .array _ _ => true | _ => false) = true) (hi : (P.info? ty).map (·.size) = some cs.size)
    (u : Value) (hq : tmps.getD q undef = u) (u2 : Value) (hq2 : tmps.getD q2 undef = u2) : (results fn tmps).run P w = .ok (.tuple #[.agg cs, u, u2]) w := by
  have hp' : tmps[p]?.getD undef = .pointer (some ⟨g, 0, none⟩) := by simpa using hp
  have hq' : tmps[q]?.getD undef = u := by simpa using hq
  have hq2' : tmps[q2]?.getD undef = u2 := by simpa using hq2
  simp [results, h, hp', hq', hq2', asAddr, run_loadVar_row w g t ty cs fr d hg hu hd hi]
theorem below_setRow {B : Nat} {a w : World} (h : Below B a w) {g : Nat} (hg : B ≤ g) (cs : Array Value) : Below B a (w.setRow g cs) :=
  h.trans ⟨rfl, rfl, rfl, by simp [World.setRow], fun k hk => setRow_other _ _ _ _ (by omega)⟩

def RefNextEnd (s : ByteArray) (i : Nat) (p : Nat × Nat) (w : World) (e : Ending) (w' : World) : Prop :=
  ∃ j, Skip s i j ∧ i ≤ j ∧ j ≤ s.size ∧ e = .returned (.tuple #[.agg (tokV (rdAt s j) (plTo s p i j)), .int .i64 ((rdAt s j).stop : Int), .int .i64 ((rdAt s j).code : Int)]) ∧ Below w.heap.size w w'

set_option maxRecDepth 100000 in
set_option maxHeartbeats 8000000 in
theorem refNext_any (s : ByteArray) (i l c : Nat) (w : World) (hi : i ≤ s.size) (hs : s.size ≤ 100000000) (hl : l ≤ 1000000000) (hc : c ≤ 1000000000) :
    Calls Tryd.prog 15 #[.string s, .int .i64 (i : Int), .int .i64 (l : Int), .int .i64 (c : Int)] w (RefNextEnd s i (l, c) w) := by
  go_enter Tryd.func15, Tryd.ntmps15
  go_wp2_with (fail)
  refine (refSkip_any s i _ hi (by omega)).mono ?_
  rintro e w1 ⟨j, rfl, hsk, hj1, hj2, rfl⟩
  have HSK := Lib.hid hsk
  clear hsk
  go_wp2_with (fail)
  refine (refStep_any s i j l c _ hj1 hj2 (by omega) (by omega) (by omega)).mono ?_
  rintro e w1 ⟨rfl, rfl⟩
  obtain ⟨pj, hpj⟩ : ∃ pj, pj = plTo s (l, c) i j := ⟨_, rfl⟩
  rw [← hpj]
  have HPJ := Lib.hid hpj
  clear hpj
  obtain ⟨W1, hW1⟩ : ∃ W1, W1 = ((w.alloc (.cells tok0 38)).alloc (.cells tok0 38)).setRow (w.heap.size + 1) #[.int .i64 0, .string ⟨#[]⟩, .int .u64 0, .int .i64 (pj.1 : Int), .int .i64 (pj.2 : Int)] := ⟨_, rfl⟩
  have hn2 : ((w.alloc (.cells tok0 38)).alloc (.cells tok0 38)).heap[w.heap.size + 1]? = some (.cells tok0 38 (0, 0)) := by
    rw [show w.heap.size + 1 = (w.alloc (.cells tok0 38)).heap.size from by simp]; exact heap_alloc_new _ _
  have hrT : W1.heap[w.heap.size + 1]? = some (.cells #[.int .i64 0, .string ⟨#[]⟩, .int .u64 0, .int .i64 (pj.1 : Int), .int .i64 (pj.2 : Int)] 38 (0, 0)) := by rw [hW1]; exact setRow_heap _ _ _ _ _ (0, 0) hn2
  have hr8 : W1.heap[w.heap.size]? = some (.cells tok0 38 (0, 0)) := by rw [hW1, setRow_other _ _ _ _ (by omega), Below.heap_alloc _ _ _ (by simp)]; exact heap_alloc_new w _
  have hbl : Below w.heap.size w W1 := by rw [hW1]; exact below_setRow (((Below.refl _ w).alloc (Nat.le_refl _) _).alloc (by simp) _) (by omega) _
  have RT_W1 := Lib.hid hrT; have R8_W1 := Lib.hid hr8; have HB_W1 := Lib.hid hbl; have HW1 := Lib.hid hW1; have HN2 := Lib.hid hn2
  clear hrT hr8 hbl hW1 hn2
  have b10 : W1.cell? ⟨w.heap.size + 1, 0, none⟩ = some (.int .i64 0) := by rw [cell_of_row _ _ _ _ _ _ RT_W1.out]; rfl
  have b11 : W1.cell? ⟨w.heap.size + 1, 1, none⟩ = some (.string ⟨#[]⟩) := by rw [cell_of_row _ _ _ _ _ _ RT_W1.out]; rfl
  have b12 : W1.cell? ⟨w.heap.size + 1, 2, none⟩ = some (.int .u64 0) := by rw [cell_of_row _ _ _ _ _ _ RT_W1.out]; rfl
  have z10 := frozen_of_row W1 (w.heap.size + 1) 0 _ _ RT_W1.out
  have z11 := frozen_of_row W1 (w.heap.size + 1) 1 _ _ RT_W1.out
  have z12 := frozen_of_row W1 (w.heap.size + 1) 2 _ _ RT_W1.out
  by_cases he : j = s.size
  · subst he
    have HRD : Hid (rdAt s s.size = ⟨0, ⟨#[]⟩, 0, s.size, 0⟩) := Lib.hid (by unfold rdAt; rw [if_pos (Nat.le_refl _)])
    go_wp2_with (first
      | (refine wpList_store_row rfl 38 (.tmp 12) (.tmp 36) rfl (w.heap.size + 1) #[.int .i64 0, .string ⟨#[]⟩, .int .u64 0, .int .i64 (pj.1 : Int), .int .i64 (pj.2 : Int)] rfl rfl 38 tok0 HN2.out rfl rfl (by simp [Value.oneCell']) ?_)
      | (refine wpList_load_row rfl 38 (.tmp 12) rfl (w.heap.size + 1) rfl 38 #[(.int .i64 0), (.string ⟨#[]⟩), (.int .u64 0), (.int .i64 (pj.1 : Int)), (.int .i64 (pj.2 : Int))] (0, 0) _ (by have h := RT_W1.out; rw [HW1.out] at h; exact h) rfl rfl rfl ?_)
      | (refine wpList_store_row rfl 38 (.tmp 8) (.tmp 41) rfl w.heap.size #[(.int .i64 0), (.string ⟨#[]⟩), (.int .u64 0), (.int .i64 (pj.1 : Int)), (.int .i64 (pj.2 : Int))] rfl rfl 38 tok0 (by exact (by have h := R8_W1.out; rw [HW1.out] at h; exact h)) rfl rfl (by simp [Value.oneCell']) ?_))
    refine bodyPost_ret (results_row_tmp2 rfl _ _ w.heap.size 38 #[(.int .i64 0), (.string ⟨#[]⟩), (.int .u64 0), (.int .i64 (pj.1 : Int)), (.int .i64 (pj.2 : Int))] (0, 0) _ rfl (setRow_heap _ _ _ _ _ _ (by exact (by have h := R8_W1.out; rw [HW1.out] at h; exact h))) Tryd.underlying38 rfl rfl _ rfl _ rfl) rfl ⟨_, HSK.out, hj1, hj2, ?_, below_setRow (by have h := HB_W1.out; rw [HW1.out] at h; exact h) (Nat.le_refl _) _⟩
    rw [← HPJ.out, HRD.out]
    rfl
  · have hlt : j < s.size := by omega
    have tj : ((j : Int) == (s.size : Int)) = false := by simp; omega
    have tj' : (j == s.size) = false := by simp; omega
    obtain ⟨q, hqe⟩ : ∃ q, q = bt s j := ⟨_, rfl⟩
    have hq := bt_at s j hlt
    rw [← hqe] at hq
    have HQ := Lib.hid hqe
    clear hqe he
    go_wp2_with (refine wpList_store_row rfl 38 (.tmp 12) (.tmp 36) rfl (w.heap.size + 1) #[.int .i64 0, .string ⟨#[]⟩, .int .u64 0, .int .i64 (pj.1 : Int), .int .i64 (pj.2 : Int)] rfl rfl 38 tok0 HN2.out rfl rfl (by simp [Value.oneCell']) ?_)
    show Calls _ _ _ (((w.alloc (.cells tok0 38)).alloc (.cells tok0 38)).setRow (w.heap.size + 1) #[.int .i64 0, .string ⟨#[]⟩, .int .u64 0, .int .i64 (pj.1 : Int), .int .i64 (pj.2 : Int)]) _
    rw [← HW1.out]
    refine (letter_any q W1).mono ?_
    rintro e w1 ⟨rfl, rfl⟩
    cases hl : isLet q with
    | true =>
      have hcl : runTo (clsRun false) s j = runTo isLet s j := by rw [show clsRun false = isLet from funext fun b => by simp [clsRun]]
      have hle := runTo_le isLet s j hj2
      obtain ⟨en, hen⟩ : ∃ en, en = runTo isLet s j := ⟨_, rfl⟩
      have HRD : Hid (rdAt s j = ⟨1, s.extract j en, 0, en, 0⟩) := Lib.hid (by unfold rdAt; rw [if_neg (by omega), if_pos (by rw [← HQ.out]; exact hl), ← hen])
      rw [← hen] at hcl hle
      have HCL := Lib.hid hcl
      obtain ⟨hle1, hle2⟩ := hle
      clear hen hcl
      go_wp2_with (fail)
      refine (refRun_any s j false _ hj2 (by omega)).mono ?_
      rintro e w1 ⟨rfl, rfl⟩
      rw [HCL.out]
      go_wp2_with (first
        | (refine wpList_load_row rfl 38 (.tmp 12) rfl (w.heap.size + 1) rfl 38 #[(.int .i64 1), (.string (s.extract j en)), (.int .u64 0), (.int .i64 (pj.1 : Int)), (.int .i64 (pj.2 : Int))] (0, 0) _ (by rw [Lib.heap_setCell_same (Lib.heap_setCell_same (RT_W1.out) _) _]; rfl) rfl rfl rfl ?_)
        | (refine wpList_store_row rfl 38 (.tmp 8) (.tmp 57) rfl w.heap.size #[(.int .i64 1), (.string (s.extract j en)), (.int .u64 0), (.int .i64 (pj.1 : Int)), (.int .i64 (pj.2 : Int))] rfl rfl 38 tok0 (by rw [Below.heap_setCell _ _ _ _ (by simp)]; rw [Below.heap_setCell _ _ _ _ (by simp)]; exact R8_W1.out) rfl rfl (by simp [Value.oneCell']) ?_))
      refine bodyPost_ret (results_row_tmp2 rfl _ _ w.heap.size 38 #[(.int .i64 1), (.string (s.extract j en)), (.int .u64 0), (.int .i64 (pj.1 : Int)), (.int .i64 (pj.2 : Int))] (0, 0) _ rfl (setRow_heap _ _ _ _ _ _ (by rw [Below.heap_setCell _ _ _ _ (by simp)]; rw [Below.heap_setCell _ _ _ _ (by simp)]; exact R8_W1.out)) Tryd.underlying38 rfl rfl _ rfl _ rfl) rfl ⟨_, HSK.out, hj1, hj2, ?_, below_setRow ((HB_W1.out.setCell (p := ⟨w.heap.size + 1, 0, none⟩) (by simp) _).setCell (p := ⟨w.heap.size + 1, 1, none⟩) (by simp) _) (Nat.le_refl _) _⟩
      rw [← HPJ.out, HRD.out]
      rfl
    | false =>
      go_wp2_with (fail)
      refine (digit_any q W1).mono ?_
      rintro e w1 ⟨rfl, rfl⟩
      cases hd : isDig q with
      | true =>
        have hle := runTo_le (clsRun true) s j hj2
        obtain ⟨en, hen⟩ : ∃ en, en = runTo (clsRun true) s j := ⟨_, rfl⟩
        have HRD : Hid (rdAt s j = (match numR (s.extract j en).data.toList with | (n, true) => ⟨2, s.extract j en, n, en, 0⟩ | (_, false) => rdBad 5)) := Lib.hid (by
          unfold rdAt; rw [if_neg (by omega), if_neg (by rw [← HQ.out, hl]; decide), if_pos (by rw [← HQ.out]; exact hd), ← hen]; rfl)
        rw [← hen] at hle
        have HEN := Lib.hid hen
        obtain ⟨hle1, hle2⟩ := hle
        clear hen
        go_wp2_with (fail)
        refine (refRun_any s j true _ hj2 (by omega)).mono ?_
        rintro e w1 ⟨rfl, rfl⟩
        rw [← HEN.out]
        go_wp2_with (fail)
        refine (refParse_any (s.extract j en) _ (by rw [ByteArray.size_extract]; omega)).mono ?_
        rintro e w1 ⟨rfl, n1, rfl⟩
        obtain ⟨r2, hr2⟩ : ∃ r2, r2 = numR (s.extract j en).data.toList := ⟨_, rfl⟩
        rw [← hr2]
        obtain ⟨W2, hW2⟩ : ∃ W2, W2 = W1.drewN n1 := ⟨_, rfl⟩
        have RT_W2 : Hid (W2.heap[w.heap.size + 1]? = some (.cells #[.int .i64 0, .string ⟨#[]⟩, .int .u64 0, .int .i64 (pj.1 : Int), .int .i64 (pj.2 : Int)] 38 (0, 0))) := Lib.hid (by rw [hW2]; exact RT_W1.out)
        have R8_W2 : Hid (W2.heap[w.heap.size]? = some (.cells tok0 38 (0, 0))) := Lib.hid (by rw [hW2]; exact R8_W1.out)
        have HB_W2 : Hid (Below w.heap.size w W2) := Lib.hid (by rw [hW2]; exact HB_W1.out.trans (Lib.below_grow _ _ HB_W1.out.size n1 #[]))
        rw [← hW2]
        have b20 : W2.cell? ⟨w.heap.size + 1, 0, none⟩ = some (.int .i64 0) := by rw [cell_of_row _ _ _ _ _ _ RT_W2.out]; rfl
        have b21 : W2.cell? ⟨w.heap.size + 1, 1, none⟩ = some (.string ⟨#[]⟩) := by rw [cell_of_row _ _ _ _ _ _ RT_W2.out]; rfl
        have b22 : W2.cell? ⟨w.heap.size + 1, 2, none⟩ = some (.int .u64 0) := by rw [cell_of_row _ _ _ _ _ _ RT_W2.out]; rfl
        have z20 := frozen_of_row W2 (w.heap.size + 1) 0 _ _ RT_W2.out
        have z21 := frozen_of_row W2 (w.heap.size + 1) 1 _ _ RT_W2.out
        have z22 := frozen_of_row W2 (w.heap.size + 1) 2 _ _ RT_W2.out
        have HR2 := Lib.hid hr2
        clear hr2 hW2
        obtain ⟨nv, nb⟩ := r2
        cases nb with
        | true =>
          have HRD2 : Hid (rdAt s j = ⟨2, s.extract j en, nv, en, 0⟩) := Lib.hid (by rw [HRD.out, ← HR2.out])
          go_wp2_with (first
            | (refine wpList_load_row rfl 38 (.tmp 12) rfl (w.heap.size + 1) rfl 38 #[(.int .i64 2), (.string (s.extract j en)), (.int .u64 (nv : Int)), (.int .i64 (pj.1 : Int)), (.int .i64 (pj.2 : Int))] (0, 0) _ (by rw [Lib.heap_setCell_same (Lib.heap_setCell_same (Lib.heap_setCell_same (RT_W2.out) _) _) _]; rfl) rfl rfl rfl ?_)
            | (refine wpList_store_row rfl 38 (.tmp 8) (.tmp 83) rfl w.heap.size #[(.int .i64 2), (.string (s.extract j en)), (.int .u64 (nv : Int)), (.int .i64 (pj.1 : Int)), (.int .i64 (pj.2 : Int))] rfl rfl 38 tok0 (by rw [Below.heap_setCell _ _ _ _ (by simp)]; rw [Below.heap_setCell _ _ _ _ (by simp)]; rw [Below.heap_setCell _ _ _ _ (by simp)]; exact R8_W2.out) rfl rfl (by simp [Value.oneCell']) ?_))
          refine bodyPost_ret (results_row_tmp2 rfl _ _ w.heap.size 38 #[(.int .i64 2), (.string (s.extract j en)), (.int .u64 (nv : Int)), (.int .i64 (pj.1 : Int)), (.int .i64 (pj.2 : Int))] (0, 0) _ rfl (setRow_heap _ _ _ _ _ _ (by rw [Below.heap_setCell _ _ _ _ (by simp)]; rw [Below.heap_setCell _ _ _ _ (by simp)]; rw [Below.heap_setCell _ _ _ _ (by simp)]; exact R8_W2.out)) Tryd.underlying38 rfl rfl _ rfl _ rfl) rfl ⟨_, HSK.out, hj1, hj2, ?_, below_setRow (((HB_W2.out.setCell (p := ⟨w.heap.size + 1, 0, none⟩) (by simp) _).setCell (p := ⟨w.heap.size + 1, 1, none⟩) (by simp) _).setCell (p := ⟨w.heap.size + 1, 2, none⟩) (by simp) _) (Nat.le_refl _) _⟩
          rw [← HPJ.out, HRD2.out]
          rfl
        | false =>
          have HRD2 : Hid (rdAt s j = rdBad 5) := Lib.hid (by rw [HRD.out, ← HR2.out])
          go_wp2_with (first
            | (refine wpList_load_row rfl 38 (.tmp 12) rfl (w.heap.size + 1) rfl 38 #[(.int .i64 0), (.string ⟨#[]⟩), (.int .u64 0), (.int .i64 (pj.1 : Int)), (.int .i64 (pj.2 : Int))] (0, 0) _ RT_W2.out rfl rfl rfl ?_)
            | (refine wpList_store_row rfl 38 (.tmp 8) (.tmp 74) rfl w.heap.size #[(.int .i64 0), (.string ⟨#[]⟩), (.int .u64 0), (.int .i64 (pj.1 : Int)), (.int .i64 (pj.2 : Int))] rfl rfl 38 tok0 (by exact R8_W2.out) rfl rfl (by simp [Value.oneCell']) ?_))
          refine bodyPost_ret (results_row_tmp2 rfl _ _ w.heap.size 38 #[(.int .i64 0), (.string ⟨#[]⟩), (.int .u64 0), (.int .i64 (pj.1 : Int)), (.int .i64 (pj.2 : Int))] (0, 0) _ rfl (setRow_heap _ _ _ _ _ _ (by exact R8_W2.out)) Tryd.underlying38 rfl rfl _ rfl _ rfl) rfl ⟨_, HSK.out, hj1, hj2, ?_, below_setRow HB_W2.out (Nat.le_refl _) _⟩
          rw [← HPJ.out, HRD2.out]
          rfl
      | false =>
        by_cases h34 : q = 34
        · have HRD : Hid (rdAt s j = (match qName s j with | some (l, e) => ⟨3, ⟨l.toArray⟩, 0, e, 0⟩ | none => rdBad 6)) := Lib.hid (by
            unfold rdAt; rw [if_neg (by omega), if_neg (by rw [← HQ.out, hl]; decide), if_neg (by rw [← HQ.out, hd]; decide), if_pos (by rw [← HQ.out]; exact h34)]; rfl)
          subst h34
          go_wp2_with (fail)
          refine (refScan_any s j _ hlt HQ.out.symm (by omega)).mono ?_
          rintro e w1 ⟨rfl, rfl⟩
          cases hqn : qName s j with
          | none =>
            have HRD2 : Hid (rdAt s j = rdBad 6) := Lib.hid (by rw [HRD.out, hqn])
            simp only [scanV]
            go_wp2_with (first
              | (refine wpList_load_row rfl 38 (.tmp 12) rfl (w.heap.size + 1) rfl 38 #[(.int .i64 0), (.string ⟨#[]⟩), (.int .u64 0), (.int .i64 (pj.1 : Int)), (.int .i64 (pj.2 : Int))] (0, 0) _ RT_W1.out rfl rfl rfl ?_)
              | (refine wpList_store_row rfl 38 (.tmp 8) (.tmp 96) rfl w.heap.size #[(.int .i64 0), (.string ⟨#[]⟩), (.int .u64 0), (.int .i64 (pj.1 : Int)), (.int .i64 (pj.2 : Int))] rfl rfl 38 tok0 (by exact R8_W1.out) rfl rfl (by simp [Value.oneCell']) ?_))
            refine bodyPost_ret (results_row_tmp2 rfl _ _ w.heap.size 38 #[(.int .i64 0), (.string ⟨#[]⟩), (.int .u64 0), (.int .i64 (pj.1 : Int)), (.int .i64 (pj.2 : Int))] (0, 0) _ rfl (setRow_heap _ _ _ _ _ _ (by exact R8_W1.out)) Tryd.underlying38 rfl rfl _ rfl _ rfl) rfl ⟨_, HSK.out, hj1, hj2, ?_, below_setRow HB_W1.out (Nat.le_refl _) _⟩
            rw [← HPJ.out, HRD2.out]
            rfl
          | some le =>
            obtain ⟨nl, ne⟩ := le
            have HRD2 : Hid (rdAt s j = ⟨3, ⟨nl.toArray⟩, 0, ne, 0⟩) := Lib.hid (by rw [HRD.out, hqn])
            simp only [scanV]
            go_wp2_with (first
              | (refine wpList_load_row rfl 38 (.tmp 12) rfl (w.heap.size + 1) rfl 38 #[(.int .i64 3), (.string ⟨nl.toArray⟩), (.int .u64 0), (.int .i64 (pj.1 : Int)), (.int .i64 (pj.2 : Int))] (0, 0) _ (by rw [Lib.heap_setCell_same (Lib.heap_setCell_same (RT_W1.out) _) _]; rfl) rfl rfl rfl ?_)
              | (refine wpList_store_row rfl 38 (.tmp 8) (.tmp 100) rfl w.heap.size #[(.int .i64 3), (.string ⟨nl.toArray⟩), (.int .u64 0), (.int .i64 (pj.1 : Int)), (.int .i64 (pj.2 : Int))] rfl rfl 38 tok0 (by rw [Below.heap_setCell _ _ _ _ (by simp)]; rw [Below.heap_setCell _ _ _ _ (by simp)]; exact R8_W1.out) rfl rfl (by simp [Value.oneCell']) ?_))
            refine bodyPost_ret (results_row_tmp2 rfl _ _ w.heap.size 38 #[(.int .i64 3), (.string ⟨nl.toArray⟩), (.int .u64 0), (.int .i64 (pj.1 : Int)), (.int .i64 (pj.2 : Int))] (0, 0) _ rfl (setRow_heap _ _ _ _ _ _ (by rw [Below.heap_setCell _ _ _ _ (by simp)]; rw [Below.heap_setCell _ _ _ _ (by simp)]; exact R8_W1.out)) Tryd.underlying38 rfl rfl _ rfl _ rfl) rfl ⟨_, HSK.out, hj1, hj2, ?_, below_setRow ((HB_W1.out.setCell (p := ⟨w.heap.size + 1, 0, none⟩) (by simp) _).setCell (p := ⟨w.heap.size + 1, 1, none⟩) (by simp) _) (Nat.le_refl _) _⟩
            rw [← HPJ.out, HRD2.out]
            rfl
        · have t34 : ((q : Int) == 34) = false := by simp; omega
          have t34' : (q == 34) = false := by simp; omega
          cases hsg : isSign q with
          | true =>
            have HRD2 : Hid (rdAt s j = ⟨4, s.extract j (j + 1), 0, j + 1, 0⟩) := Lib.hid (by
              unfold rdAt; rw [if_neg (by omega), if_neg (by rw [← HQ.out, hl]; decide), if_neg (by rw [← HQ.out, hd]; decide), if_neg (by rw [← HQ.out]; exact h34), if_pos (by rw [← HQ.out]; exact hsg)])
            have hor : q = 123 ∨ q = 125 ∨ q = 59 ∨ q = 44 := by simpa [isSign, or_assoc] using hsg
            clear hsg t34 t34' hl hd
            have j1 : (j : Int) ≤ (j : Int) + 1 := by omega
            have j2 : (j : Int) + 1 ≤ (s.size : Int) := by omega
            rcases hor with rfl | rfl | rfl | rfl
            all_goals
              go_wp2_with (first
                | (refine wpList_load_row rfl 38 (.tmp 12) rfl (w.heap.size + 1) rfl 38 #[(.int .i64 4), (.string (s.extract j (j + 1))), (.int .u64 0), (.int .i64 (pj.1 : Int)), (.int .i64 (pj.2 : Int))] (0, 0) _ (by rw [Lib.heap_setCell_same (Lib.heap_setCell_same (RT_W1.out) _) _]; rfl) rfl rfl rfl ?_)
                | (refine wpList_store_row rfl 38 (.tmp 8) (.tmp 123) rfl w.heap.size #[(.int .i64 4), (.string (s.extract j (j + 1))), (.int .u64 0), (.int .i64 (pj.1 : Int)), (.int .i64 (pj.2 : Int))] rfl rfl 38 tok0 (by rw [Below.heap_setCell _ _ _ _ (by simp)]; rw [Below.heap_setCell _ _ _ _ (by simp)]; exact R8_W1.out) rfl rfl (by simp [Value.oneCell']) ?_))
              refine bodyPost_ret (results_row_tmp2 rfl _ _ w.heap.size 38 #[(.int .i64 4), (.string (s.extract j (j + 1))), (.int .u64 0), (.int .i64 (pj.1 : Int)), (.int .i64 (pj.2 : Int))] (0, 0) _ rfl (setRow_heap _ _ _ _ _ _ (by rw [Below.heap_setCell _ _ _ _ (by simp)]; rw [Below.heap_setCell _ _ _ _ (by simp)]; exact R8_W1.out)) Tryd.underlying38 rfl rfl _ rfl _ rfl) rfl ⟨_, HSK.out, hj1, hj2, ?_, below_setRow ((HB_W1.out.setCell (p := ⟨w.heap.size + 1, 0, none⟩) (by simp) _).setCell (p := ⟨w.heap.size + 1, 1, none⟩) (by simp) _) (Nat.le_refl _) _⟩
              rw [← HPJ.out, HRD2.out]
              rfl
          | false =>
            have HRD2 : Hid (rdAt s j = rdBad 3) := Lib.hid (by
              unfold rdAt; rw [if_neg (by omega), if_neg (by rw [← HQ.out, hl]; decide), if_neg (by rw [← HQ.out, hd]; decide), if_neg (by rw [← HQ.out]; exact h34), if_neg (by rw [← HQ.out, hsg]; decide)])
            have hn : q ≠ 123 ∧ q ≠ 125 ∧ q ≠ 59 ∧ q ≠ 44 := by simpa [isSign, and_assoc] using hsg
            obtain ⟨n1, n2, n3, n4⟩ := hn
            have u1 : ((q : Int) == 123) = false := by simp; omega
            have u2 : ((q : Int) == 125) = false := by simp; omega
            have u3 : ((q : Int) == 59) = false := by simp; omega
            have u4 : ((q : Int) == 44) = false := by simp; omega
            clear n1 n2 n3 n4 hsg
            go_wp2_with (first
              | (refine wpList_load_row rfl 38 (.tmp 12) rfl (w.heap.size + 1) rfl 38 #[(.int .i64 0), (.string ⟨#[]⟩), (.int .u64 0), (.int .i64 (pj.1 : Int)), (.int .i64 (pj.2 : Int))] (0, 0) _ RT_W1.out rfl rfl rfl ?_)
              | (refine wpList_store_row rfl 38 (.tmp 8) (.tmp 126) rfl w.heap.size #[(.int .i64 0), (.string ⟨#[]⟩), (.int .u64 0), (.int .i64 (pj.1 : Int)), (.int .i64 (pj.2 : Int))] rfl rfl 38 tok0 (by exact R8_W1.out) rfl rfl (by simp [Value.oneCell']) ?_))
            refine bodyPost_ret (results_row_tmp2 rfl _ _ w.heap.size 38 #[(.int .i64 0), (.string ⟨#[]⟩), (.int .u64 0), (.int .i64 (pj.1 : Int)), (.int .i64 (pj.2 : Int))] (0, 0) _ rfl (setRow_heap _ _ _ _ _ _ (by exact R8_W1.out)) Tryd.underlying38 rfl rfl _ rfl _ rfl) rfl ⟨_, HSK.out, hj1, hj2, ?_, below_setRow HB_W1.out (Nat.le_refl _) _⟩
            rw [← HPJ.out, HRD2.out]
            rfl
end Go.Proofs.YtldbnfbfhbkclaaDoor
