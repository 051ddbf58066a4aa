/-
  Chapter 6: the law LexNext, the walk.
-/
import Derived.Test.YtldbnfbfhbkclaaDoorLyF
namespace Go.Proofs.YtldbnfbfhbkclaaDoor
open Go.RowKit Go.Shelf

set_option maxRecDepth 100000 in
set_option maxHeartbeats 8000000 in
theorem lexNext_walk (s : ByteArray) (a : Nat) (w : World) (hs : s.size ≤ maxLen) (ha : a ≤ 65535) (hG : Glob w) : Calls Tryd.prog 5 #[.string s, .int .u16 (a : Int)] w fun e w' => e = .returned (.bool true) ∧ Below w.heap.size w w' := by
  unfold maxLen at hs
  have HG := Lib.hid hG
  clear hG
  by_cases hbig : 2000 < s.size
  · have t1 : decide (2000 < s.size) = true := by simp [hbig]
    have t1' : decide (2000 < (s.size : Int)) = true := by simp; omega
    go_enter Tryd.func5, Tryd.ntmps5
    go_wp2_with (fail)
    refine (alive6_any w HG.out).mono ?_
    rintro e w1 ⟨rfl, hb⟩
    go_wp2_with (fail)
    go_ret
    exact ⟨rfl, hb⟩
  · have t1 : decide (2000 < s.size) = false := by simp; omega
    have t1' : decide (2000 < (s.size : Int)) = false := by simp; omega
    obtain ⟨i, hi⟩ : ∃ i, i = a % (s.size + 1) := ⟨_, rfl⟩
    have hmod : (a : Int) % ((s.size : Int) + 1) = (i : Int) := by rw [hi, Int.natCast_emod]; rfl
    have hil : i ≤ s.size := by have := Nat.mod_lt a (show 0 < s.size + 1 by omega); omega
    have HM := Lib.hid hmod
    clear hmod hi
    go_enter Tryd.func5, Tryd.ntmps5
    go_wp2_with (fail)
    rw [HM.out]
    refine (place_any s i _ hil (by omega)).mono ?_
    rintro e w0 ⟨rfl, rfl⟩
    obtain ⟨p, hp⟩ : ∃ p, p = plTo s (1, 1) 0 i := ⟨_, rfl⟩
    have HP := Lib.hid hp
    have hok : Okp i p := by
      rw [hp]
      exact (show Okp 0 (1, 1) from ⟨by decide, by decide⟩).to (Nat.zero_le _)
    have HOK := Lib.hid hok
    rw [← hp]
    clear hp hok
    go_wp2_with (fail)
    refine (Next_any s i p w hil (by omega) HOK.out HG.out).mono ?_
    rintro e w1 ⟨j, hsk, hj1, hj2, hb, hz, hnz⟩
    obtain ⟨r, hr⟩ : ∃ r, r = rdAt s j := ⟨_, rfl⟩
    obtain ⟨pj, hpj⟩ : ∃ pj, pj = plTo s p i j := ⟨_, rfl⟩
    rw [← hr] at hz hnz
    rw [← hpj] at hz hnz
    have HSK := Lib.hid hsk; have HZ := Lib.hid hz; have HNZ := Lib.hid hnz; have HRR := Lib.hid hr; have HPJ := Lib.hid hpj; have HB1 := Lib.hid hb
    have hsz1 := hb.size
    clear hsk hz hnz hr hpj hb
    have h6 : ((w1.alloc (.cells tok0 37)).alloc (.cells (fltV 0 0 0) 26)).heap[w1.heap.size]? = some (.cells tok0 37 (0, 0)) := by
      rw [Below.heap_alloc _ _ _ (by simp)]; exact heap_alloc_new w1 _
    have h7 : ∀ cs, (((w1.alloc (.cells tok0 37)).alloc (.cells (fltV 0 0 0) 26)).setRow w1.heap.size cs).heap[w1.heap.size + 1]? = some (.cells (fltV 0 0 0) 26 (0, 0)) := fun cs => by
      rw [setRow_other _ _ _ _ (by omega), show w1.heap.size + 1 = (w1.alloc (.cells tok0 37)).heap.size from by simp]; exact heap_alloc_new _ _
    have H6 := Lib.hid h6; have H7 := Lib.hid h7
    clear h6 h7
    by_cases hcode : r.code = 0
    · have he := HZ.out hcode
      subst he
      obtain ⟨W3, hW3⟩ : ∃ W3, W3 = ((((w1.alloc (.cells tok0 37)).alloc (.cells (fltV 0 0 0) 26)).setRow w1.heap.size (tokV r pj)).setRow (w1.heap.size + 1) (fltV 0 0 0)) := ⟨_, rfl⟩
      have h63 : W3.heap[w1.heap.size]? = some (.cells (tokV r pj) 37 (0, 0)) := by
        rw [hW3, setRow_other _ _ _ _ (by omega)]; exact setRow_heap _ _ _ _ _ _ H6.out
      have h73 : W3.heap[w1.heap.size + 1]? = some (.cells (fltV 0 0 0) 26 (0, 0)) := by rw [hW3]; exact setRow_heap _ _ _ _ _ _ (H7.out _)
      have hbl3 : Below w.heap.size w W3 := by
        rw [hW3]
        exact below_setRow (below_setRow (((HB1.out.alloc hsz1 _).alloc (by simp; omega) _)) hsz1 _) (by omega) _
      have H63 := Lib.hid h63; have H73 := Lib.hid h73; have HB3 := Lib.hid hbl3; have HW3 := Lib.hid hW3
      clear h63 h73 hbl3 hW3
      go_wp2_with (first
        | (refine wpList_store_row rfl 37 (.tmp 8) (.tmp 36) rfl w1.heap.size (tokV r pj) rfl rfl 37 tok0 H6.out rfl rfl (by simp [tokV, tok0, Value.oneCell']) ?_)
        | (refine wpList_store_row rfl 26 (.tmp 10) (.tmp 38) rfl (w1.heap.size + 1) (fltV 0 0 0) rfl rfl 26 (fltV 0 0 0) (H7.out _) rfl rfl (by simp [fltV, Value.oneCell']) ?_))
      show Calls _ _ _ ((((w1.alloc (.cells tok0 37)).alloc (.cells (fltV 0 0 0) 26)).setRow w1.heap.size (tokV r pj)).setRow (w1.heap.size + 1) (fltV 0 0 0)) _
      rw [← HW3.out]
      refine (RefNext_any s i W3 hil (by omega)).mono ?_
      rintro e w4 ⟨j', hsk', hj1', hj2', rfl, hb⟩
      obtain rfl := (hsk'.unique HSK.out).symm
      rw [← HRR.out, ← HP.out, ← HPJ.out]
      have hb4 := HB3.out.trans (hb.mono HB3.out.size)
      have H64 := Lib.hid (row_below0 H63.out hb); have H74 := Lib.hid (row_below0 H73.out hb); have HB4 := Lib.hid hb4
      have hsz4 := hb4.size
      have hl4 := lt_of_block H74.out
      have tc : ((r.code : Int) != 0) = false := by rw [hcode]; rfl
      clear hb hsk' hb4 H63 H73 HB3 HW3
      obtain ⟨W5, hW5⟩ : ∃ W5, W5 = (w4.alloc (.cells tok0 38)).setRow w4.heap.size (tokV r pj) := ⟨_, rfl⟩
      have hb5 : Below w4.heap.size w4 W5 := by rw [hW5]; exact below_setRow ((Below.refl _ _).alloc (Nat.le_refl _) _) (Nat.le_refl _) _
      have h115 : W5.heap[w4.heap.size]? = some (.cells (tokV r pj) 38 (0, 0)) := by rw [hW5]; exact setRow_heap _ _ _ _ _ _ (heap_alloc_new w4 _)
      have H65 := Lib.hid (row_below0 H64.out hb5); have H75 := Lib.hid (row_below0 H74.out hb5); have HB5 := Lib.hid (HB4.out.trans (hb5.mono hsz4)); have H115 := Lib.hid h115; have HW5 := Lib.hid hW5
      clear hb5 h115 hW5 H64 H74 HB4
      go_wp2_with (refine wpList_store_row rfl 38 (.tmp 11) (.tmp 43) rfl w4.heap.size (tokV r pj) rfl rfl 38 tok0 (heap_alloc_new w4 _) rfl rfl (by simp [tokV, Value.oneCell']) ?_)
      show Calls _ _ _ ((w4.alloc (.cells tok0 38)).setRow w4.heap.size (tokV r pj)) _
      rw [← HW5.out]
      refine (alive6_any W5 (HG.out.from0 HB5.out)).mono ?_
      rintro e w6 ⟨rfl, hb⟩
      have h66 := row_below0 H65.out hb; have h76 := row_below0 H75.out hb; have h116 := row_below0 H115.out hb
      have HB6 := Lib.hid (HB5.out.trans (hb.mono HB5.out.size))
      have a0 : w6.cell? ⟨w1.heap.size, 0, none⟩ = some ((.int .i64 (r.kind : Int))) := by rw [cell_of_row _ _ _ _ _ _ h66]; rfl
      have a1 : w6.cell? ⟨w1.heap.size, 1, none⟩ = some ((.string r.text)) := by rw [cell_of_row _ _ _ _ _ _ h66]; rfl
      have a2 : w6.cell? ⟨w1.heap.size, 2, none⟩ = some ((.int .u64 (r.val : Int))) := by rw [cell_of_row _ _ _ _ _ _ h66]; rfl
      have a3 : w6.cell? ⟨w1.heap.size, 3, none⟩ = some ((.int .i64 (pj.1 : Int))) := by rw [cell_of_row _ _ _ _ _ _ h66]; rfl
      have a4 : w6.cell? ⟨w1.heap.size, 4, none⟩ = some ((.int .i64 (pj.2 : Int))) := by rw [cell_of_row _ _ _ _ _ _ h66]; rfl
      have b0 : w6.cell? ⟨w4.heap.size, 0, none⟩ = some (.int .i64 (r.kind : Int)) := by rw [cell_of_row _ _ _ _ _ _ h116]; rfl
      have b1 : w6.cell? ⟨w4.heap.size, 1, none⟩ = some (.string r.text) := by rw [cell_of_row _ _ _ _ _ _ h116]; rfl
      have b2 : w6.cell? ⟨w4.heap.size, 2, none⟩ = some (.int .u64 (r.val : Int)) := by rw [cell_of_row _ _ _ _ _ _ h116]; rfl
      have b3 : w6.cell? ⟨w4.heap.size, 3, none⟩ = some (.int .i64 (pj.1 : Int)) := by rw [cell_of_row _ _ _ _ _ _ h116]; rfl
      have b4 : w6.cell? ⟨w4.heap.size, 4, none⟩ = some (.int .i64 (pj.2 : Int)) := by rw [cell_of_row _ _ _ _ _ _ h116]; rfl
      have c0 : w6.cell? ⟨w1.heap.size + 1, 0, none⟩ = some (.int .i64 0) := by rw [cell_of_row _ _ _ _ _ _ h76]; rfl
      have c1 : w6.cell? ⟨w1.heap.size + 1, 1, none⟩ = some (.int .i64 0) := by rw [cell_of_row _ _ _ _ _ _ h76]; rfl
      have c2 : w6.cell? ⟨w1.heap.size + 1, 2, none⟩ = some (.int .i64 0) := by rw [cell_of_row _ _ _ _ _ _ h76]; rfl
      clear h66 h76 h116 hb
      go_wp2_with (fail)
      go_ret
      exact ⟨rfl, HB6.out⟩
    · have he := HNZ.out hcode
      subst he
      obtain ⟨W3, hW3⟩ : ∃ W3, W3 = ((((w1.alloc (.cells tok0 37)).alloc (.cells (fltV 0 0 0) 26)).setRow w1.heap.size tok0).setRow (w1.heap.size + 1) (fltV (r.code : Int) (pj.1 : Int) (pj.2 : Int))) := ⟨_, rfl⟩
      have h63 : W3.heap[w1.heap.size]? = some (.cells tok0 37 (0, 0)) := by
        rw [hW3, setRow_other _ _ _ _ (by omega)]; exact setRow_heap _ _ _ _ _ _ H6.out
      have h73 : W3.heap[w1.heap.size + 1]? = some (.cells (fltV (r.code : Int) (pj.1 : Int) (pj.2 : Int)) 26 (0, 0)) := by rw [hW3]; exact setRow_heap _ _ _ _ _ _ (H7.out _)
      have hbl3 : Below w.heap.size w W3 := by
        rw [hW3]
        exact below_setRow (below_setRow (((HB1.out.alloc hsz1 _).alloc (by simp; omega) _)) hsz1 _) (by omega) _
      have H63 := Lib.hid h63; have H73 := Lib.hid h73; have HB3 := Lib.hid hbl3; have HW3 := Lib.hid hW3
      clear h63 h73 hbl3 hW3
      go_wp2_with (first
        | (refine wpList_store_row rfl 37 (.tmp 8) (.tmp 36) rfl w1.heap.size tok0 rfl rfl 37 tok0 H6.out rfl rfl (by simp [tokV, tok0, Value.oneCell']) ?_)
        | (refine wpList_store_row rfl 26 (.tmp 10) (.tmp 38) rfl (w1.heap.size + 1) (fltV (r.code : Int) (pj.1 : Int) (pj.2 : Int)) rfl rfl 26 (fltV 0 0 0) (H7.out _) rfl rfl (by simp [fltV, Value.oneCell']) ?_))
      show Calls _ _ _ ((((w1.alloc (.cells tok0 37)).alloc (.cells (fltV 0 0 0) 26)).setRow w1.heap.size tok0).setRow (w1.heap.size + 1) (fltV (r.code : Int) (pj.1 : Int) (pj.2 : Int))) _
      rw [← HW3.out]
      refine (RefNext_any s i W3 hil (by omega)).mono ?_
      rintro e w4 ⟨j', hsk', hj1', hj2', rfl, hb⟩
      obtain rfl := (hsk'.unique HSK.out).symm
      rw [← HRR.out, ← HP.out, ← HPJ.out]
      have hb4 := HB3.out.trans (hb.mono HB3.out.size)
      have H64 := Lib.hid (row_below0 H63.out hb); have H74 := Lib.hid (row_below0 H73.out hb); have HB4 := Lib.hid hb4
      have hsz4 := hb4.size
      have hl4 := lt_of_block H74.out
      have tc : ((r.code : Int) != 0) = true := by simp; omega
      clear hb hsk' hb4 H63 H73 HB3 HW3
      obtain ⟨W5, hW5⟩ : ∃ W5, W5 = (w4.alloc (.cells tok0 38)).setRow w4.heap.size (tokV r pj) := ⟨_, rfl⟩
      have hb5 : Below w4.heap.size w4 W5 := by rw [hW5]; exact below_setRow ((Below.refl _ _).alloc (Nat.le_refl _) _) (Nat.le_refl _) _
      have h115 : W5.heap[w4.heap.size]? = some (.cells (tokV r pj) 38 (0, 0)) := by rw [hW5]; exact setRow_heap _ _ _ _ _ _ (heap_alloc_new w4 _)
      have H65 := Lib.hid (row_below0 H64.out hb5); have H75 := Lib.hid (row_below0 H74.out hb5); have HB5 := Lib.hid (HB4.out.trans (hb5.mono hsz4)); have H115 := Lib.hid h115; have HW5 := Lib.hid hW5
      clear hb5 h115 hW5 H64 H74 HB4
      go_wp2_with (refine wpList_store_row rfl 38 (.tmp 11) (.tmp 43) rfl w4.heap.size (tokV r pj) rfl rfl 38 tok0 (heap_alloc_new w4 _) rfl rfl (by simp [tokV, Value.oneCell']) ?_)
      show Calls _ _ _ ((w4.alloc (.cells tok0 38)).setRow w4.heap.size (tokV r pj)) _
      rw [← HW5.out]
      refine (alive6_any W5 (HG.out.from0 HB5.out)).mono ?_
      rintro e w6 ⟨rfl, hb⟩
      have h66 := row_below0 H65.out hb; have h76 := row_below0 H75.out hb; have h116 := row_below0 H115.out hb
      have HB6 := Lib.hid (HB5.out.trans (hb.mono HB5.out.size))
      have a0 : w6.cell? ⟨w1.heap.size, 0, none⟩ = some (.int .i64 0) := by rw [cell_of_row _ _ _ _ _ _ h66]; rfl
      have a1 : w6.cell? ⟨w1.heap.size, 1, none⟩ = some (.string ⟨#[]⟩) := by rw [cell_of_row _ _ _ _ _ _ h66]; rfl
      have a2 : w6.cell? ⟨w1.heap.size, 2, none⟩ = some (.int .u64 0) := by rw [cell_of_row _ _ _ _ _ _ h66]; rfl
      have a3 : w6.cell? ⟨w1.heap.size, 3, none⟩ = some (.int .i64 0) := by rw [cell_of_row _ _ _ _ _ _ h66]; rfl
      have a4 : w6.cell? ⟨w1.heap.size, 4, none⟩ = some (.int .i64 0) := by rw [cell_of_row _ _ _ _ _ _ h66]; rfl
      have b0 : w6.cell? ⟨w4.heap.size, 0, none⟩ = some (.int .i64 (r.kind : Int)) := by rw [cell_of_row _ _ _ _ _ _ h116]; rfl
      have b1 : w6.cell? ⟨w4.heap.size, 1, none⟩ = some (.string r.text) := by rw [cell_of_row _ _ _ _ _ _ h116]; rfl
      have b2 : w6.cell? ⟨w4.heap.size, 2, none⟩ = some (.int .u64 (r.val : Int)) := by rw [cell_of_row _ _ _ _ _ _ h116]; rfl
      have b3 : w6.cell? ⟨w4.heap.size, 3, none⟩ = some (.int .i64 (pj.1 : Int)) := by rw [cell_of_row _ _ _ _ _ _ h116]; rfl
      have b4 : w6.cell? ⟨w4.heap.size, 4, none⟩ = some (.int .i64 (pj.2 : Int)) := by rw [cell_of_row _ _ _ _ _ _ h116]; rfl
      have c0 : w6.cell? ⟨w1.heap.size + 1, 0, none⟩ = some (.int .i64 (r.code : Int)) := by rw [cell_of_row _ _ _ _ _ _ h76]; rfl
      have c1 : w6.cell? ⟨w1.heap.size + 1, 1, none⟩ = some (.int .i64 (pj.1 : Int)) := by rw [cell_of_row _ _ _ _ _ _ h76]; rfl
      have c2 : w6.cell? ⟨w1.heap.size + 1, 2, none⟩ = some (.int .i64 (pj.2 : Int)) := by rw [cell_of_row _ _ _ _ _ _ h76]; rfl
      clear h66 h76 h116 hb
      go_wp2_with (fail)
      go_ret
      exact ⟨rfl, HB6.out⟩
end Go.Proofs.YtldbnfbfhbkclaaDoor
