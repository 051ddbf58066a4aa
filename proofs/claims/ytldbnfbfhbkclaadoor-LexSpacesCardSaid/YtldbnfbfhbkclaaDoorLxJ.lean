/-
  Chapter 6: the program's Parse.
-/
import Derived.Test.YtldbnfbfhbkclaaDoorLxI
namespace Go.Proofs.YtldbnfbfhbkclaaDoor
open Go.RowKit Go.Shelf Go.Sort

theorem numIs_hex {l r : List UInt8} (h : l = 48 :: 120 :: r) (m : Nat) (hm : NumIs l m) : l = 48 :: 120 :: digs 16 m := by
  rcases hm.2 with h1 | h1
  · exact h1
  · rw [h] at h1; exact absurd h1 (x_not_dec _ _)
theorem numIs_dec {l : List UInt8} (h : Lib.hasPrefix l [48, 120] = false) (m : Nat) (hm : NumIs l m) : l = digs 10 m := by
  rcases hm.2 with h1 | h1
  · rw [h1] at h
    simp [Lib.hasPrefix] at h
  · exact h1

set_option maxHeartbeats 8000000 in
set_option maxRecDepth 100000 in
theorem numParse_any (s : ByteArray) (hlim : s.size ≤ 10000000000) (w : World) (hG : Glob w) :
    Calls Tryd.prog 53 #[.string s] w fun e w' => e = .returned (.tuple #[.int .u64 ((numR s.data.toList).1 : Int), .bool (numR s.data.toList).2]) ∧ Below w.heap.size w w' := by
  have HG := Lib.hid hG
  clear hG
  have hcd : ∀ v w, (callFunc 60 #[v]).run Tryd.prog w = .ok (.enter 60 #[v]) w := fun v w => enters_of Tryd.func60 (by kernel_rfl) rfl _ _
  have hch : ∀ v w, (callFunc 62 #[v]).run Tryd.prog w = .ok (.enter 62 #[v]) w := fun v w => enters_of Tryd.func62 (by kernel_rfl) rfl _ _
  cases hpre : Lib.hasPrefix s.data.toList [48, 120] with
  | true =>
    obtain ⟨r, hr⟩ : ∃ r, s.data.toList = 48 :: 120 :: r := by
      have := List.isPrefixOf_iff_prefix.1 hpre
      obtain ⟨r, hr⟩ := this
      exact ⟨r, hr.symm⟩
    have htrim : Lib.trimPrefix s.data.toList [48, 120] = r := by
      unfold Lib.trimPrefix
      rw [if_pos hpre, hr]; rfl
    obtain ⟨t, ht⟩ : ∃ t : ByteArray, t = ⟨r.toArray⟩ := ⟨_, rfl⟩
    have hts : t.size ≤ s.size := by
      have h1 : s.data.toList.length = s.size := by rw [Array.length_toList]; rfl
      rw [hr] at h1
      rw [ht]
      show r.toArray.size ≤ s.size
      simp at h1 ⊢; omega
    have htl : t.data.toList = r := by rw [ht]
    rw [← htl] at hr
    have HPX := Lib.hid hr; have HT := Lib.hid ht; have HTR := Lib.hid htrim; have HPR := Lib.hid hpre
    clear hr ht htrim hpre htl
    go_enter Tryd.func53, Tryd.ntmps53
    go_wp2_with (fail)
    refine (Tryd.strings_CutPrefix s ⟨#[48, 120]⟩ w).mono ?_
    rintro e w1 ⟨rfl, rfl⟩
    simp only [HTR.out, HPR.out, ← HT.out]
    go_wp2_with (fail)
    refine (pubPu16_any t (by omega) w1 HG.out).mono ?_
    rintro e w1 ⟨n, v, rfl, hn, hv, hd, hb1⟩
    have HG1 := Lib.hid (HG.out.below HG.out.lt hb1)
    have HB1 := Lib.hid hb1; have HD := Lib.hid hd
    clear hd hb1
    rcases hv with rfl | ⟨q, rfl⟩
    · obtain ⟨u, hu⟩ : ∃ u : ByteArray, u = ⟨(48 :: 120 :: digs 16 n).toArray⟩ := ⟨_, rfl⟩
      have HU := Lib.hid hu
      by_cases hEq : u = s
      · have tEq : (u.toList == s.toList) = true := beqL_true hEq
        have hl : s.data.toList = 48 :: 120 :: digs 16 n := by rw [← hEq, hu]
        have HNR := Lib.hid (numR_yes (n := n) ⟨hn, .inl hl⟩)
        clear hu hEq hl
        go_wp2_with (fail)
        refine (numHex_any n hn w1 HG1.out.dbc).mono ?_
        rintro e w2 ⟨rfl, hb2⟩
        rw [← HU.out]
        have HB2 := Lib.hid (HB1.out.trans (hb2.mono HB1.out.size))
        go_wp2_with (fail)
        go_ret2
        exact ⟨by rw [HNR.out]; rfl, HB2.out⟩
      · have tEq : (u.toList == s.toList) = false := beqL_false hEq
        have hno : numR s.data.toList = (0, false) := numR_no (fun m hm => hEq (by
          have hl := numIs_hex HPX.out m hm
          rw [hu, (HD.out m hm.1 (by have h := hl; rw [HPX.out] at h; injection h with _ h; injection h)).2]
          apply ByteArray.ext
          apply Array.toList_inj.1
          exact hl.symm))
        have HNR := Lib.hid hno
        clear hu hEq hno
        go_wp2_with (fail)
        refine (numHex_any n hn w1 HG1.out.dbc).mono ?_
        rintro e w2 ⟨rfl, hb2⟩
        rw [← HU.out]
        have HB2 := Lib.hid (HB1.out.trans (hb2.mono HB1.out.size))
        go_wp2_with (fail)
        go_ret2
        exact ⟨by rw [HNR.out]; rfl, HB2.out⟩
    · have hno : numR s.data.toList = (0, false) := numR_no (fun m hm => by
        have hl := numIs_hex HPX.out m hm
        have := (HD.out m hm.1 (by have h := hl; rw [HPX.out] at h; injection h with _ h; injection h)).1
        cases this)
      have HNR := Lib.hid hno
      clear hno
      go_wp2_with (fail)
      go_ret2
      exact ⟨by rw [HNR.out]; rfl, HB1.out⟩
  | false =>
    have htrim : (⟨(Lib.trimPrefix s.data.toList [48, 120]).toArray⟩ : ByteArray) = s := by
      unfold Lib.trimPrefix
      rw [if_neg (by rw [hpre]; decide)]
    have HPX := Lib.hid hpre; have HTR := Lib.hid htrim
    clear htrim hpre
    go_enter Tryd.func53, Tryd.ntmps53
    go_wp2_with (fail)
    refine (Tryd.strings_CutPrefix s ⟨#[48, 120]⟩ w).mono ?_
    rintro e w1 ⟨rfl, rfl⟩
    simp only [HTR.out, HPX.out]
    go_wp2_with (fail)
    refine (pubPu10_any s (by omega) w1 HG.out).mono ?_
    rintro e w1 ⟨n, v, rfl, hn, hv, hd, hb1⟩
    have HG1 := Lib.hid (HG.out.below HG.out.lt hb1)
    have HB1 := Lib.hid hb1; have HD := Lib.hid hd
    clear hd hb1
    rcases hv with rfl | ⟨q, rfl⟩
    · obtain ⟨u, hu⟩ : ∃ u : ByteArray, u = ⟨(digs 10 n).toArray⟩ := ⟨_, rfl⟩
      have HU := Lib.hid hu
      by_cases hEq : u = s
      · have tEq : (u.toList == s.toList) = true := beqL_true hEq
        have hl : s.data.toList = digs 10 n := by rw [← hEq, hu]
        have HNR := Lib.hid (numR_yes (n := n) ⟨hn, .inr hl⟩)
        clear hu hEq hl
        go_wp2_with (fail)
        refine (numDecimal_any n hn w1 HG1.out.pow).mono ?_
        rintro e w2 ⟨rfl, hb2⟩
        rw [← HU.out]
        have HB2 := Lib.hid (HB1.out.trans (hb2.mono HB1.out.size))
        go_wp2_with (fail)
        go_ret2
        exact ⟨by rw [HNR.out]; rfl, HB2.out⟩
      · have tEq : (u.toList == s.toList) = false := beqL_false hEq
        have hno : numR s.data.toList = (0, false) := numR_no (fun m hm => hEq (by
          have hl := numIs_dec HPX.out m hm
          rw [hu, (HD.out m hm.1 (hl)).2]
          apply ByteArray.ext
          apply Array.toList_inj.1
          exact hl.symm))
        have HNR := Lib.hid hno
        clear hu hEq hno
        go_wp2_with (fail)
        refine (numDecimal_any n hn w1 HG1.out.pow).mono ?_
        rintro e w2 ⟨rfl, hb2⟩
        rw [← HU.out]
        have HB2 := Lib.hid (HB1.out.trans (hb2.mono HB1.out.size))
        go_wp2_with (fail)
        go_ret2
        exact ⟨by rw [HNR.out]; rfl, HB2.out⟩
    · have hno : numR s.data.toList = (0, false) := numR_no (fun m hm => by
        have hl := numIs_dec HPX.out m hm
        have := (HD.out m hm.1 (hl)).1
        cases this)
      have HNR := Lib.hid hno
      clear hno
      go_wp2_with (fail)
      go_ret2
      exact ⟨by rw [HNR.out]; rfl, HB1.out⟩
end Go.Proofs.YtldbnfbfhbkclaaDoor
