/-
  The law TableHeaders: the walk.
-/
import Derived.Test.YthmenbehpblljaaTabIm
import Derived.Test.YthmenbehpblljaaTabH8
import Derived.Test.YthmenbehpblljaaTabFi
namespace Go.Proofs.Ythmenbehpblljaa
open Go.RowKit Go.Shelf

set_option maxRecDepth 100000 in
set_option maxHeartbeats 8000000 in
theorem headers_walk (z : Nat → Int) (frame : Int) (ab : Option Addr) (cb : Nat) (xl : List Int) (w : World) (hf0 : 0 ≤ frame) (hf1 : frame ≤ 18446744073709551615) (hs : Src w ab (xl.map (Value.int .u8))) (hcb : ab = none → cb = 0) :
    Calls Try.prog 7 #[.int .u64 frame, .agg (zCells z), .slice ab xl.length cb] w fun e w' => e = .returned (.bool true) ∧ Below w.heap.size w w' := by
  obtain ⟨xs, hxs⟩ : ∃ xs, xs = xl.map (Value.int .u8) := ⟨_, rfl⟩
  rw [← hxs] at hs
  have HXS := Lib.hid hxs
  rw [show xl.length = xs.length from by rw [hxs, List.length_map]]
  clear hxs
  obtain ⟨W0, hW0⟩ : ∃ W0, w.alloc (.cells (zCells z) 22) = W0 := ⟨_, rfl⟩
  have rz : W0.heap[w.heap.size]? = some (.cells (zCells z) 22 (0, 0)) := by rw [← hW0]; exact alloc_at rfl
  have hB : Below w.heap.size w W0 := by rw [← hW0]; exact (Below.refl _ w).alloc (Nat.le_refl _) _
  have RZ := Lib.hid rz; have HB := Lib.hid hB; have HW0 := Lib.hid hW0; have HS := Lib.hid hs
  obtain ⟨nb, hnb⟩ : ∃ nb, nb = xs.length := ⟨_, rfl⟩
  have HNB := Lib.hid hnb
  rw [← hnb]
  clear rz hB hW0 hs hnb
  go_enter Try.func7, Try.ntmps7
  go_wp2_with (refine wpList_load_row rfl 22 (.tmp 4) rfl w.heap.size rfl 22 (zCells z) (0, 0) _ (by rw [HW0.out]; exact RZ.out) rfl rfl rfl ?_)
  show Calls _ _ _ (w.alloc (.cells (zCells z) 22)) _
  rw [HW0.out]
  refine (right_any z W0).mono ?_
  rintro e W1 ⟨ok, rfl, hok, hb⟩
  have RZ1 := Lib.hid ((hb.block _ (lt_of_block RZ.out)).trans RZ.out)
  have HB1 := Lib.hid (HB.out.trans (hb.mono HB.out.size))
  clear RZ HB HW0 hb
  cases ok with
  | false =>
    clear hok
    go_wp2_with (fail)
    refine (alive10_any W1).mono ?_
    rintro e W2 ⟨rfl, hb⟩
    go_wp2
    go_ret
    exact ⟨rfl, HB1.out.trans (hb.mono HB1.out.size)⟩
  | true =>
    obtain ⟨c, hc, hzc⟩ := counts_of_right z (hok.1 rfl)
    rw [hzc] at RZ1
    have HC := Lib.hid hc
    clear hok hzc hc
    by_cases hn : 100 < nb
    · have t1 : decide (100 < nb) = true := by simp [hn]
      have t1' : decide (100 < (nb : Int)) = true := by simp; omega
      go_wp2_with (fail)
      refine (alive10_any W1).mono ?_
      rintro e W2 ⟨rfl, hb⟩
      go_wp2
      go_ret
      exact ⟨rfl, HB1.out.trans (hb.mono HB1.out.size)⟩
    · have t1 : decide (100 < nb) = false := by simp; omega
      have t1' : decide (100 < (nb : Int)) = false := by simp; omega
      go_wp2_with (refine wpList_load_row rfl 22 (.tmp 4) rfl w.heap.size rfl 22 (countCells (z 0) c) (0, 0) _ RZ1.out rfl rfl rfl ?_)
      refine (for_any c (z 0) frame W1 HC.out).mono ?_
      rintro e W2 ⟨rfl, hb⟩
      have RZ2 := Lib.hid ((hb.block _ (lt_of_block RZ1.out)).trans RZ1.out)
      have HB2 := Lib.hid (HB1.out.trans (hb.mono HB1.out.size))
      clear RZ1 HB1 hb
      obtain ⟨W3, hW3⟩ : ∃ W3, W3 = (W2.alloc (.cells (zeroTab 0) 28)).setRow W2.heap.size (tabCells c frame) := ⟨_, rfl⟩
      have rt : W3.heap[W2.heap.size]? = some (.cells (tabCells c frame) 28 (0, 0)) := by rw [hW3]; exact setRow_heap _ _ _ _ _ (0, 0) (alloc_at rfl)
      have l1 := lt_of_block RZ2.out
      have RZ3 : Hid (W3.heap[w.heap.size]? = some (.cells (countCells (z 0) c) 22 (0, 0))) := Lib.hid (by rw [hW3, setRow_other _ _ _ _ (by omega), Below.heap_alloc _ _ _ (by omega)]; exact RZ2.out)
      have HB3 : Hid (Below w.heap.size w W3) := Lib.hid (by rw [hW3]; exact below_setRow (HB2.out.alloc HB2.out.size _) (by have := HB2.out.size; omega) _)
      have RT := Lib.hid rt; have HW3 := Lib.hid hW3
      clear rt hW3 RZ2 HB2 l1
      go_wp2_with (first
        | (refine wpList_store_row rfl 28 (.tmp 7) (.tmp 28) rfl W2.heap.size (tabCells c frame) rfl rfl 28 _ (alloc_at rfl) rfl rfl (by simp [tabCells, Value.oneCell']) ?_)
        | (refine wpList_load_row rfl 22 (.tmp 4) rfl w.heap.size rfl 22 (countCells (z 0) c) (0, 0) _ (by have h := RZ3.out; rw [HW3.out] at h; exact h) rfl rfl rfl ?_))
      show Calls _ _ _ ((W2.alloc (.cells (zeroTab 0) 28)).setRow W2.heap.size (tabCells c frame)) _
      rw [← HW3.out]
      refine (refFor_any c (z 0) frame W3 HC.out).mono ?_
      rintro e W4 ⟨rfl, hb⟩
      have RT4 := Lib.hid ((hb.block _ (lt_of_block RT.out)).trans RT.out)
      have HB4 := Lib.hid (HB3.out.trans (hb.mono HB3.out.size))
      clear RZ3 RT HB3 HW3 hb
      obtain ⟨W5, hW5⟩ : ∃ W5, W5 = (W4.alloc (.cells (zeroTab 0) 31)).setRow W4.heap.size (tabCells c frame) := ⟨_, rfl⟩
      have ru : W5.heap[W4.heap.size]? = some (.cells (tabCells c frame) 31 (0, 0)) := by rw [hW5]; exact setRow_heap _ _ _ _ _ (0, 0) (alloc_at rfl)
      have l1 := lt_of_block RT4.out
      have RT5 : Hid (W5.heap[W2.heap.size]? = some (.cells (tabCells c frame) 28 (0, 0))) := Lib.hid (by rw [hW5, setRow_other _ _ _ _ (by omega), Below.heap_alloc _ _ _ (by omega)]; exact RT4.out)
      have HB5 : Hid (Below w.heap.size w W5) := Lib.hid (by rw [hW5]; exact below_setRow (HB4.out.alloc HB4.out.size _) (by have := HB4.out.size; omega) _)
      have RU5 := Lib.hid ru; have HW5 := Lib.hid hW5
      clear ru hW5 RT4 HB4 l1
      go_wp2_with (refine wpList_store_row rfl 31 (.tmp 9) (.tmp 34) rfl W4.heap.size (tabCells c frame) rfl rfl 31 _ (alloc_at rfl) rfl rfl (by simp [tabCells, Value.oneCell']) ?_)
      show Calls _ _ _ ((W4.alloc (.cells (zeroTab 0) 31)).setRow W4.heap.size (tabCells c frame)) _
      rw [← HW5.out, HNB.out]
      refine (new_any W5.heap.size ab cb xs W5 ?src (Nat.le_refl _) (by have := HNB.out; omega)).mono ?_
      case src =>
        obtain ⟨s1, s2, s3⟩ := HS.out
        exact ⟨s1, s2, fun ad had j u hu => (HB5.out.cell (block_lt_of_cell (s3 ad had j u hu))).trans (s3 ad had j u hu)⟩
      rintro e W6 ⟨B, rfl, hI, hb⟩
      have RT6 := Lib.hid ((hb.block _ (lt_of_block RT5.out)).trans RT5.out)
      have RU6 := Lib.hid ((hb.block _ (lt_of_block RU5.out)).trans RU5.out)
      have HB6 := Lib.hid (HB5.out.trans (hb.mono HB5.out.size))
      have HI6 := Lib.hid hI
      have l7 := lt_of_block RT5.out; have l9 := lt_of_block RU5.out
      have HZ5 := Lib.hid HB5.out.size
      have HBB := Lib.hid hb
      clear RT5 RU5 HB5 HW5 hb hI
      go_wp2_with (refine wpList_load_row rfl 28 (.tmp 7) rfl W2.heap.size rfl 28 (tabCells c frame) (0, 0) _ RT6.out rfl rfl rfl ?_)
      refine (put_any W5.heap.size B c frame xs W6 HC.out HI6.out hf0 hf1 (by have := HNB.out; omega)).mono ?_
      rintro e W7 ⟨rfl, hI, hb⟩
      have RT7 := Lib.hid ((hb.block _ l7).trans RT6.out)
      have RU7 := Lib.hid ((hb.block _ l9).trans RU6.out)
      have HB7 := Lib.hid (HB6.out.trans (hb.mono HZ5.out))
      have HI7 := Lib.hid hI
      have HBB7 := Lib.hid (HBB.out.trans hb)
      clear RT6 RU6 HB6 HI6 hb hI HBB
      go_wp2_with (refine wpList_load_row rfl 31 (.tmp 9) rfl W4.heap.size rfl 31 (tabCells c frame) (0, 0) _ RU7.out rfl rfl rfl ?_)
      refine (refHeader_any c frame W7 HC.out hf0 hf1).mono ?_
      rintro e W8 ⟨ha, hcap, rfl, ho, hb⟩
      have RT8 := Lib.hid ((hb.block _ (lt_of_block RT7.out)).trans RT7.out)
      have RU8 := Lib.hid ((hb.block _ (lt_of_block RU7.out)).trans RU7.out)
      have HB8 := Lib.hid (HB7.out.trans (hb.mono HB7.out.size))
      have HI8 := Lib.hid (HI7.out.below hb (Nat.le_refl _))
      have HO8 := Lib.hid ho
      have HBB8 := Lib.hid (HBB7.out.trans (hb.mono HBB7.out.size))
      clear RT7 RU7 HB7 HI7 ho hb HBB7
      go_wp2_with (fail)
      obtain ⟨hdr, hhdr⟩ : ∃ hdr, hdr = hdrVals c frame := ⟨_, rfl⟩
      have hhl : hdr.length = 80 := by rw [hhdr, hdrVals_map, List.length_map, hdrInts_length]
      have hN := nextOf_le c (fun s => Nat.le_trans (HC.out s) (secLimit_le s)) 6
      have h80 := nextOf_ge c 6
      obtain ⟨N, hNe⟩ : ∃ N, N = nextOf c 6 := ⟨_, rfl⟩
      obtain ⟨img, himg⟩ : ∃ img, img = (imgInts c frame).map (Value.int .u8) := ⟨_, rfl⟩
      have hil : img.length = N + 4 := by rw [himg, List.length_map, imgInts_length, hNe]
      have hiz : img = hdr ++ List.replicate (N + 4 - 80) (.int .u8 0) := by
        rw [himg, hhdr, hdrVals_map, imgInts, List.map_append, List.map_replicate, hNe]
      have h1h : ∀ u ∈ hdr, u.oneCell' = true := by rw [hhdr]; exact one_append (one_head _ _) (one_ents _ _)
      rw [← hNe] at hN h80
      rw [← hhdr] at HI8 HO8 ⊢
      rw [hhl] at HO8 ⊢
      obtain ⟨gh, rfl⟩ := ownsRow_some HO8.out (by omega)
      have hsrc : ∀ j u, hdr[j]? = some u → W8.cell? ((⟨gh, 0, none⟩ : Addr).add j) = some u := HO8.out.cells rfl
      have hgl := (HO8.out.lt gh rfl).2
      have hIM := img_ok c frame HC.out hf0 hf1
      have hmx : Try.prog.follows .mixedOrders = true := by kernel_rfl
      obtain ⟨i0, hi, hz0, hz1, hz2⟩ := info_parts infoU8
      refine wp_region_inv_of (J' := fun T => J8 W8 T (tabCells c frame) (.slice (some ⟨gh, 0, none⟩) 80 hcap) W4.heap.size hdr img ((N : Int) + 4)) (fun T => T.getD 9 undef = .pointer (some ⟨W4.heap.size, 0, none⟩) ∧ T.getD 12 undef = .slice (some ⟨gh, 0, none⟩) 80 hcap) hmx (by kernel_rfl) ⟨rfl, rfl⟩ ?start ?step ?fin
      case start =>
        refine ⟨rfl, rfl, fun k hk => rfl, ⟨rfl, rfl, rfl, Nat.le_refl _, fun _ _ => rfl⟩, ?_, ?_, ?_, ?_, ?_, ?_, ?_, ?_, ?_, ?_, ?_, ?_, ?_⟩ <;> (intro h; cases h)
      case step =>
        rintro T ⟨hT9, hT12⟩ d a wr i o ho hdi hdp hcl hJ
        have hi15 : i < 15 := (List.getElem?_eq_some_iff.1 ho).1
        rcases (by omega : i = 0 ∨ i = 1 ∨ i = 2 ∨ i = 3 ∨ i = 4 ∨ i = 5 ∨ i = 6 ∨ i = 7 ∨ i = 8 ∨ i = 9 ∨ i = 10 ∨ i = 11 ∨ i = 12 ∨ i = 13 ∨ i = 14) with rfl | rfl | rfl | rfl | rfl | rfl | rfl | rfl | rfl | rfl | rfl | rfl | rfl | rfl | rfl
        all_goals (obtain rfl := Option.some.inj ho; refine if_wanted rfl ?_; clear ho hi15)
        · refine wp_of_run (.slice (some ⟨wr.heap.size, 0, none⟩) 0 0) (wr.alloc (.cells #[] 5)) (by simp [execOp, go_sem]) hJ.s0
        · have e12 : a.tmps[12]?.getD undef = .slice (some ⟨gh, 0, none⟩) 80 hcap := slot_get ((hJ.rest 12 (by decide)).trans hT12)
          exact wp_of_run (.slice (some ⟨gh, 0, none⟩) 80 hcap) wr (by simp [execOp, go_sem, e12]) hJ.s1
        · have own0 := hJ.f0 (hdp ⟨0, .data⟩ (by simp) rfl) hdi
          have e45 : a.eval (.tmp 45) = .slice (some ⟨gh, 0, none⟩) 80 hcap := hJ.f1 (hdp ⟨1, .data⟩ (by simp) rfl)
          obtain ⟨v', w', hrun, hn, hg, _⟩ := run_append_own (P := Try.prog) wr W8.heap.size 53 53 5 i0 (.int .u8 0) 1 1 Try.underlying53 hi hz0 hz1 hz2 rfl (by decide) (slot a 44) 0 [] own0
            ⟨gh, 0, none⟩ 80 hcap hdr (by omega) (fun j u hu => (hJ.below.cell (block_lt_of_cell (hsrc j u hu))).trans (hsrc j u hu)) h1h (by unfold maxLen; omega) (by omega) hJ.below.size
          refine wp_of_run v' w' ?_ (hJ.s2 hdi (fun h6 => hcl 6 _ rfl h6 ⟨2, .data⟩ (by simp) rfl) own0 hg (by rw [hhl]; simpa using hn))
          simp only [execOp, resolve, invoke, builtin, Sem.run_bind, Sem.run_pure, Result.andThen_ok, List.map_toArray, List.map_cons, List.map_nil, e45]
          refine (congrArg (fun r => Result.andThen r _) hrun).trans ?_
          rfl
        · have e9 : a.tmps[9]?.getD undef = .pointer (some ⟨W4.heap.size, 0, none⟩) := slot_get ((hJ.rest 9 (by decide)).trans hT9)
          exact wp_of_run (.pointer (some ⟨W4.heap.size, 1, none⟩)) wr (by simp [execOp, go_sem, e9]) hJ.s3
        · have e47 : a.tmps[47]?.getD undef = .pointer (some ⟨W4.heap.size, 1, none⟩) := slot_get (hJ.f3 (hdp ⟨3, .data⟩ (by simp) rfl))
          have hc : wr.cell? ⟨W4.heap.size, 1, none⟩ = some (.int .i64 ((N : Int) + 4)) := by
            rw [cell_of_row _ _ _ _ _ _ ((hJ.below.block _ (lt_of_block RU8.out)).trans RU8.out), hNe]; rfl
          exact wp_of_run (.int .i64 ((N : Int) + 4)) wr (by simp [execOp, go_sem, e47, hc]) hJ.s4
        · have e48 : a.tmps[48]?.getD undef = .int .i64 ((N : Int) + 4) := slot_get (hJ.f4 (hdp ⟨4, .data⟩ (by simp) rfl))
          have hw : IntKind.i64.wrap ((N : Int) + 4 - 80) = (N : Int) + 4 - 80 := by rw [IntKind.wrap_i64]; omega
          exact wp_of_run (.int .i64 ((N : Int) + 4 - 80)) wr (by simp [execOp, go_sem, e48, hw]) hJ.s5
        · have own2 := hJ.f2 (hdp ⟨2, .data⟩ (by simp) rfl) hdi
          have hm : ((N + 4 - 80 : Nat) : Int) = (N : Int) + 4 - 80 := by omega
          have e49 : a.eval (.tmp 49) = .int .i64 ((N + 4 - 80 : Nat) : Int) := by rw [hm]; exact hJ.f5 (hdp ⟨5, .data⟩ (by simp) rfl)
          obtain ⟨v', w', hrun, hn, hg, _⟩ := run_append_zeros_own (P := Try.prog) wr W8.heap.size 53 3 53 5 i0 (.int .u8 0) 1 Try.underlying53 Try.underlying3 hi hz0 hz1 hz2 rfl rfl (by decide) (slot a 46) hdr.length hdr own2 .i64 (N + 4 - 80) (by omega) hJ.below.size
          refine wp_of_run v' w' ?_ (hJ.s6 (hdp ⟨2, .data⟩ (by simp) rfl) own2 hg (by rw [← hiz] at hn; rw [hil]; rw [show hdr.length + (N + 4 - 80) = N + 4 from by omega] at hn; exact hn))
          simp only [execOp, resolve, invoke, builtin, Sem.run_bind, Sem.run_pure, Result.andThen_ok, List.map_toArray, List.map_cons, List.map_nil, e49]
          refine (congrArg (fun r => Result.andThen r _) hrun).trans ?_
          rfl
        · have own6 := hJ.f6 (hdp ⟨6, .data⟩ (by simp) rfl) hdi
          obtain ⟨a5, c5, hs5⟩ := ownsRow_slice own6
          rw [hs5] at own6
          obtain ⟨g5, rfl⟩ := ownsRow_some own6 (by omega)
          have hcells := ownsRow_cells (imgInts c frame) own6 himg
          have hcap5 := ownsRow_cap own6
          have hlen : img.length = (imgInts c frame).length := by rw [himg, List.length_map]
          rw [hlen] at hcap5 hs5
          have e50 : a.tmps[50]?.getD undef = .slice (some ⟨g5, 0, none⟩) (imgInts c frame).length c5 := slot_get hs5
          refine wp_of_enter 27 #[.slice (some ⟨g5, 0, none⟩) (imgInts c frame).length c5] (by simp [execOp, go_sem, e50]) ?_
          refine (get_any g5 0 c5 c frame (imgInts c frame) wr HC.out hIM hcells hcap5).mono ?_
          rintro e w' ⟨rfl, hb⟩
          exact ⟨_, rfl, hJ.s7 hb⟩
        · have e51 : a.tmps[51]?.getD undef = .tuple #[.agg (tabCells c frame), .agg flt0] := slot_get (hJ.f7 (hdp ⟨7, .data⟩ (by simp) rfl))
          exact wp_of_run (.tuple #[.agg (tabCells c frame), .agg flt0]) wr (by simp [execOp, go_sem, e51]) hJ.s8
        · have e43 : a.tmps[43]?.getD undef = .tuple #[.agg (tabCells c frame), .agg flt0] := slot_get (hJ.f8 (hdp ⟨8, .data⟩ (by simp) rfl))
          exact wp_of_run (.agg (tabCells c frame)) wr (by simp [execOp, go_sem, e43]) hJ.s9
        · have e43 : a.tmps[43]?.getD undef = .tuple #[.agg (tabCells c frame), .agg flt0] := slot_get (hJ.f8 (hdp ⟨8, .data⟩ (by simp) rfl))
          exact wp_of_run (.agg flt0) wr (by simp [execOp, go_sem, e43]) hJ.s10
        · have hd13 : d 13 = false := by
            cases hq : d 13 with
            | false => rfl
            | true => have := hcl 13 _ rfl hq ⟨11, .data⟩ (by simp) rfl; rw [hdi] at this; cases this
          exact wp_of_run (.pointer (some ⟨wr.heap.size, 0, none⟩)) (wr.alloc (.cells (zeroTab 0) 28)) (by simp [execOp, go_sem]; rfl) (hJ.s11 hd13)
        · exact wp_of_run (.pointer (some ⟨wr.heap.size, 0, none⟩)) (wr.alloc (.cells flt0 58)) (by simp [execOp, go_sem]; rfl) hJ.s12
        · obtain ⟨g, p1, p2, p3⟩ := hJ.f11 (hdp ⟨11, .data⟩ (by simp) rfl)
          rw [hdi] at p3
          have e13 : a.eval (.tmp 13) = .pointer (some ⟨g, 0, none⟩) := p1
          have e52 : a.eval (.tmp 52) = .agg (tabCells c frame) := hJ.f9 (hdp ⟨9, .data⟩ (by simp) rfl)
          refine wp_of_skip (wr.setRow g (tabCells c frame)) ?_ (hJ.s13 (hdp ⟨2, .phase⟩ (by simp) rfl) (hdp ⟨6, .phase⟩ (by simp) rfl) (hdp ⟨7, .phase⟩ (by simp) rfl) p1 p2 p3 (fun hk e => by subst e; rw [p3] at hk; simp at hk))
          unfold execOp
          simp only [e13, e52, Instr.storeAt, Instr.sureAddr, Sem.run_bind, Sem.run_pure, Result.andThen_ok, run_storeVar_row (P := Try.prog) wr g 28 28 (zeroTab 0) (tabCells c frame) p3 rfl rfl (by simp [tabCells, Value.oneCell'])]
        · obtain ⟨g, p1, p2, p3⟩ := hJ.f12 (hdp ⟨12, .data⟩ (by simp) rfl)
          have e14 : a.eval (.tmp 14) = .pointer (some ⟨g, 0, none⟩) := p1
          have e53 : a.eval (.tmp 53) = .agg flt0 := hJ.f10 (hdp ⟨10, .data⟩ (by simp) rfl)
          refine wp_of_skip (wr.setRow g flt0) ?_ (hJ.s14 (hdp ⟨2, .phase⟩ (by simp) rfl) (hdp ⟨6, .phase⟩ (by simp) rfl) (hdp ⟨7, .phase⟩ (by simp) rfl) p1 p2 p3 (fun hk e => by subst e; rw [p3] at hk; simp at hk))
          unfold execOp
          simp only [e14, e53, Instr.storeAt, Instr.sureAddr, Sem.run_bind, Sem.run_pure, Result.andThen_ok, run_storeVar_row (P := Try.prog) wr g 58 58 flt0 flt0 p3 rfl rfl (by simp [flt0, Value.oneCell'])]
      case fin =>
        rintro d ⟨tm, df⟩ wr hall hJ
        obtain ⟨g13, s13, l13, r13⟩ := hJ.f11 (hall 11 (by decide))
        obtain ⟨g14, s14, l14, r14⟩ := hJ.f12 (hall 12 (by decide))
        rw [hall 13 (by decide)] at r13
        have hbr := hJ.below
        have hdf : df = [] := hJ.defs
        have htm := tmps_of _ _ hJ.size rfl hJ.rest
        have s45 := hJ.f1 (hall 1 (by decide)); have s47 := hJ.f3 (hall 3 (by decide)); have s48 := hJ.f4 (hall 4 (by decide)); have s49 := hJ.f5 (hall 5 (by decide))
        have s51 := hJ.f7 (hall 7 (by decide)); have s43 := hJ.f8 (hall 8 (by decide)); have s52 := hJ.f9 (hall 9 (by decide)); have s53 := hJ.f10 (hall 10 (by decide))
        obtain ⟨u44, s44⟩ : ∃ u, slot ⟨tm, df⟩ 44 = u := ⟨_, rfl⟩
        obtain ⟨u46, s46⟩ : ∃ u, slot ⟨tm, df⟩ 46 = u := ⟨_, rfl⟩
        obtain ⟨u50, s50⟩ : ∃ u, slot ⟨tm, df⟩ 50 = u := ⟨_, rfl⟩
        simp only [dsts8, List.foldl, s13, s14, s43, s44, s45, s46, s47, s48, s49, s50, s51, s52, s53, List.setIfInBounds_toArray, List.set_cons_succ, List.set_cons_zero] at htm
        clear hJ s13 s14 s43 s44 s45 s46 s47 s48 s49 s50 s51 s52 s53 hall
        subst hdf
        subst htm
        rw [← show nb = xs.length from HNB.out]
        have hIr := HI8.out.below hbr (Nat.le_refl _)
        have HIr := Lib.hid hIr; have HBR := Lib.hid hbr; have R13 := Lib.hid r13; have R14 := Lib.hid r14
        have RTr := Lib.hid ((hbr.block _ (lt_of_block RT8.out)).trans RT8.out)
        have HBr := Lib.hid (HB8.out.trans (hbr.mono HB8.out.size))
        have HSRC := Lib.hid hsrc; have H1H := Lib.hid h1h; have HHDR := Lib.hid hhdr; have HHL := Lib.hid hhl
        clear hIr hbr r13 r14 hsrc h1h hhdr hhl himg hiz hil hIM hi hz0 hz1 hz2
        go_wp2_with (fail)
        refine (alive10_any wr).mono ?_
        rintro e V1 ⟨rfl, hb⟩
        have HI1 := Lib.hid (HIr.out.below hb (Nat.le_refl _))
        have R131 := Lib.hid ((hb.block _ (lt_of_block R13.out)).trans R13.out)
        have R141 := Lib.hid ((hb.block _ (lt_of_block R14.out)).trans R14.out)
        have RT1 := Lib.hid ((hb.block _ (lt_of_block RTr.out)).trans RTr.out)
        have HB1 := Lib.hid (HBr.out.trans (hb.mono HBr.out.size))
        have HBR1 := Lib.hid (HBR.out.trans (hb.mono HBR.out.size))
        clear HIr R13 R14 RTr HBr HBR hb
        go_wp2_with (fail)
        have h1x : ∀ u ∈ xs, u.oneCell' = true := HS.out.2.1
        have hxl : xs.length ≤ 100 := by have := HNB.out; omega
        refine (bytes_any W5.heap.size B (xs ++ hdr) V1 HI1.out (one_append h1x H1H.out) (by rw [List.length_append, HHL.out]; omega)).mono ?_
        rintro e V2 ⟨a2, c2, rfl, ho2, hb⟩
        have hlen2 : (xs ++ hdr).length = nb + 80 := by rw [List.length_append, HHL.out, HNB.out]
        obtain ⟨g2, rfl⟩ := ownsRow_some ho2 (by omega)
        rw [hlen2] at ho2 ⊢
        have R132 := Lib.hid ((hb.block _ (lt_of_block R131.out)).trans R131.out)
        have R142 := Lib.hid ((hb.block _ (lt_of_block R141.out)).trans R141.out)
        have RT2 := Lib.hid ((hb.block _ (lt_of_block RT1.out)).trans RT1.out)
        have HB2 := Lib.hid (HB1.out.trans (hb.mono HB1.out.size))
        have HBR2 := Lib.hid (HBR1.out.trans (hb.mono HBR1.out.size))
        have HO2 := Lib.hid ho2; have HLEN2 := Lib.hid hlen2
        clear HI1 R131 R141 RT1 HB1 HBR1 hb ho2 hlen2 h1x
        go_wp2_with (fail)
        obtain ⟨V3, hV3⟩ : ∃ V3, V3 = V2.alloc (.cells #[.slice ab nb cb, .slice (some ⟨gh, 0, none⟩) 80 hcap] 53) := ⟨_, rfl⟩
        have hz3 : V2.heap.size + 1 = V3.heap.size := by rw [hV3]; simp
        have hp0 : V3.cell? ⟨V2.heap.size, 0, none⟩ = some (.slice ab nb cb) := by rw [hV3, cell_of_row _ _ _ _ _ _ (heap_alloc_new V2 _)]; rfl
        have hp1 : V3.cell? ⟨V2.heap.size, 0 + 1, none⟩ = some (.slice (some ⟨gh, 0, none⟩) 80 hcap) := by rw [hV3, cell_of_row _ _ _ _ _ _ (heap_alloc_new V2 _)]; rfl
        have hb3 : Below w.heap.size w V3 := by rw [hV3]; exact HB2.out.alloc HB2.out.size _
        have hs0 : Src V3 ab xs := by
          obtain ⟨s1, s2, s3⟩ := HS.out
          exact ⟨s1, s2, fun ad had j u hu => (hb3.cell (block_lt_of_cell (s3 ad had j u hu))).trans (s3 ad had j u hu)⟩
        have hs1 : Src V3 (some ⟨gh, 0, none⟩) hdr := by
          refine ⟨(fun h => by cases h), H1H.out, fun ad had j u hu => ?_⟩
          obtain rfl := Option.some.inj had
          rw [hV3]
          exact Lib.cell?_alloc_some _ ((HBR2.out.cell (block_lt_of_cell (HSRC.out j u hu))).trans (HSRC.out j u hu))
        have hcat := concat_any V2.heap.size 0 2 [(ab, cb, xs), (some ⟨gh, 0, none⟩, hcap, hdr)] V3
          (fun i hi => by
            match i, hi with
            | 0, _ => have h := hp0; rw [show nb = xs.length from HNB.out] at h; exact h
            | 1, _ => have h := hp1; rw [show (80 : Nat) = hdr.length from HHL.out.symm] at h; exact h)
          (fun i hi => by
            match i, hi with
            | 0, _ => exact ⟨hs0, hcb⟩
            | 1, _ => exact ⟨hs1, (fun h => by cases h)⟩)
          (by simp [partsLen]; have := HHL.out; omega) (by simp)
        have e1 : partsAll [((ab : Option Addr), cb, xs), (some ⟨gh, 0, none⟩, hcap, hdr)] = xs ++ hdr := by simp [partsAll]
        rw [e1] at hcat
        have hold3 : ∀ k o, V2.heap[k]? = some o → V3.heap[k]? = some o := fun k o h => by rw [hV3, Below.heap_alloc _ _ _ (lt_of_block h)]; exact h
        have R133 := Lib.hid (hold3 _ _ R132.out); have R143 := Lib.hid (hold3 _ _ R142.out); have RT3 := Lib.hid (hold3 _ _ RT2.out)
        have HO3 : Hid (V3.ownsRow V1.heap.size 5 1 (.slice (some ⟨g2, 0, none⟩) (nb + 80) c2) (nb + 80) (xs ++ hdr)) := Lib.hid (by rw [hV3]; exact HO2.out.alloc _)
        have HB3 := Lib.hid hb3; have HCAT := Lib.hid hcat
        rw [← hV3]
        clear hold3 hV3 hz3 hp0 hp1 hb3 hs0 hs1 hcat e1 R132 R142 RT2 HB2 HBR2 HO2
        refine HCAT.out.mono ?_
        rintro e V4 ⟨a3, c3, rfl, ho3, hb⟩
        obtain ⟨g3, rfl⟩ := ownsRow_some ho3 (by have := HLEN2.out; omega)
        have hl : (xs ++ hdr) = (xl ++ hdrInts c frame).map (Value.int .u8) := by rw [List.map_append, ← show xs = _ from HXS.out, HHDR.out, hdrVals_map]
        have hll : (xl ++ hdrInts c frame).length = nb + 80 := by rw [← HLEN2.out, hl, List.length_map]
        have hq1 := ownsRow_cells (xl ++ hdrInts c frame) (own_below HO3.out hb) hl
        have hq2 := ownsRow_cells (xl ++ hdrInts c frame) ho3 hl
        have R134 := Lib.hid ((hb.block _ (lt_of_block R133.out)).trans R133.out)
        have R144 := Lib.hid ((hb.block _ (lt_of_block R143.out)).trans R143.out)
        have RT4' := Lib.hid ((hb.block _ (lt_of_block RT3.out)).trans RT3.out)
        have HB4' := Lib.hid (HB3.out.trans (hb.mono HB3.out.size))
        have heqc := equal_yes g2 0 c2 g3 0 c3 (xl ++ hdrInts c frame) V4 hq1 hq2 (by omega)
        rw [hll] at heqc
        have HEQ := Lib.hid heqc
        rw [HLEN2.out]
        clear ho3 hb hl hll hq1 hq2 heqc R133 R143 RT3 HB3 HO3 HCAT
        go_wp2_with (fail)
        refine HEQ.out.mono ?_
        rintro e V5 ⟨rfl, dn, rfl⟩
        obtain ⟨x0, x1, x2, x3, x4, x5, x6, x7, x8, x9, x10, x11, x12, x13, x14, x15, hx⟩ : ∃ x0 x1 x2 x3 x4 x5 x6 x7 x8 x9 x10 x11 x12 x13 x14 x15 : Int, tabCells c frame = #[.int .u64 x0, .int .i64 x1, .int .i64 x2, .int .i64 x3, .int .i64 x4, .int .i64 x5, .int .i64 x6, .int .i64 x7, .int .i64 x8, .int .i64 x9, .int .i64 x10, .int .i64 x11, .int .i64 x12, .int .i64 x13, .int .i64 x14, .int .i64 x15] := ⟨_, _, _, _, _, _, _, _, _, _, _, _, _, _, _, _, rfl⟩
        have q13 := R134.out; have qt := RT4'.out; have q14 := R144.out
        rw [if_pos trivial] at q13
        rw [hx] at q13 qt
        unfold flt0 at q14
        have heq7 := fun (w : World) (x0 x1 x2 x3 x4 x5 x6 : Int) => eq7 w x0 x1 x2 x3 x4 x5 x6
        have hBe := below_drewN HB4'.out dn
        have HBE := Lib.hid hBe
        obtain ⟨V6, hV6⟩ : ∃ V6, V6 = V4.drewN dn := ⟨_, rfl⟩
        have hold6 : ∀ (k : Nat) (o : Obj), V4.heap[k]? = some o → V6.heap[k]? = some o := fun k o h => by rw [hV6]; exact h
        have P13 := Lib.hid (hold6 _ _ q13); have P14 := Lib.hid (hold6 _ _ q14); have PT := Lib.hid (hold6 _ _ qt)
        rw [← hV6] at HBE ⊢
        clear hold6 q13 qt q14 hBe hV6 R134 R144 RT4' HB4' HEQ hx
        go_wp2_with (first
          | (refine wpList_load_row_w (by kernel_rfl) 58 (.tmp 14) rfl g14 rfl 58 _ (0, 0) _ P14.out rfl rfl rfl ?_)
          | (refine wpList_load_row_w (by kernel_rfl) 28 (.tmp 13) rfl g13 rfl 28 _ (0, 0) _ P13.out rfl rfl rfl ?_)
          | (refine wpList_load_row_w (by kernel_rfl) 28 (.tmp 7) rfl W2.heap.size rfl 28 _ (0, 0) _ PT.out rfl rfl rfl ?_))
        go_ret
        exact ⟨rfl, HBE.out⟩
end Go.Proofs.Ythmenbehpblljaa
