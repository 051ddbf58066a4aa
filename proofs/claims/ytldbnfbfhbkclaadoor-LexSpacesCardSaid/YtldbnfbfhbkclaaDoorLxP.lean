/-
  Chapter 6: the reference's Parse: the number of a text, if it is a numeral.
-/
import Derived.Test.YtldbnfbfhbkclaaDoorLxO
namespace Go.Proofs.YtldbnfbfhbkclaaDoor
open Go.RowKit Go.Shelf

theorem beqL_true {a b : ByteArray} (h : a = b) : (a.toList == b.toList) = true := by rw [h]; simp
theorem beqL_false {a b : ByteArray} (h : ¬ a = b) : (a.toList == b.toList) = false := by
  rw [ByteArray.toList_eq, ByteArray.toList_eq]
  refine beq_false_of_ne fun e => h (ByteArray.ext (Array.toList_inj.1 e))
/-- The text begins with 0x and is longer. -/
def isHexT (l : List UInt8) : Prop := 2 < l.length ∧ l.take 2 = [48, 120]
theorem hex_cons {l : List UInt8} (h : isHexT l) : l = 48 :: 120 :: l.drop 2 := by
  have := List.take_append_drop 2 l
  rw [h.2] at this
  exact this.symm
theorem hex_of_digs {l : List UInt8} {m : Nat} (h : l = 48 :: 120 :: digs 16 m) : isHexT l := by
  have h2 := digs_ne 16 m
  rw [h]
  cases hd : digs 16 m with
  | nil => exact absurd hd h2
  | cons a t => exact ⟨by simp, rfl⟩
theorem absurdHex (l : List UInt8) (hx : isHexT l) (m : Nat) (hm : NumIs l m) (c : UInt8) (hc : c ∈ l.drop 2) : dval c.toNat < 16 := by
  rcases hm.2 with h | h
  · rw [h] at hc
    exact digs_all 16 m (by omega) (by omega) c hc
  · rw [hex_cons hx] at h
    exact absurd h (x_not_dec _ _)
theorem absurdDec (l : List UInt8) (hx : ¬ isHexT l) (m : Nat) (hm : NumIs l m) (c : UInt8) (hc : c ∈ l.drop 0) : dval c.toNat < 10 := by
  rcases hm.2 with h | h
  · exact absurd (hex_of_digs h) hx
  · rw [List.drop_zero, h] at hc
    exact digs_all 10 m (by omega) (by omega) c hc
theorem eqHex (s : ByteArray) (n : Nat) (hx : isHexT s.data.toList) (m : Nat) (hm : NumIs s.data.toList m) (hn : n = val 16 (s.data.toList.drop 2) % 18446744073709551616) : (⟨(48 :: 120 :: digs 16 n).toArray⟩ : ByteArray) = s := by
  have hl : s.data.toList = 48 :: 120 :: digs 16 m := by
    rcases hm.2 with h | h
    · exact h
    · rw [hex_cons hx] at h
      exact absurd h (x_not_dec _ _)
  have hnm : n = m := by
    rw [hn, hl]
    show val 16 (digs 16 m) % _ = m
    rw [val_digs 16 m (by omega) (by omega)]
    exact Nat.mod_eq_of_lt hm.1
  rw [hnm, ← hl]
theorem eqDec (s : ByteArray) (n : Nat) (hx : ¬ isHexT s.data.toList) (m : Nat) (hm : NumIs s.data.toList m) (hn : n = val 10 (s.data.toList.drop 0) % 18446744073709551616) : (⟨(digs 10 n).toArray⟩ : ByteArray) = s := by
  have hl : s.data.toList = digs 10 m := by
    rcases hm.2 with h | h
    · exact absurd (hex_of_digs h) hx
    · exact h
  have hnm : n = m := by
    rw [hn, hl]
    show val 10 (digs 10 m) % _ = m
    rw [val_digs 10 m (by omega) (by omega)]
    exact Nat.mod_eq_of_lt hm.1
  rw [hnm, ← hl]
theorem take2 (s : ByteArray) (h : 2 < s.size) : (s.extract 0 2 = ⟨#[48, 120]⟩) ↔ isHexT s.data.toList := by
  have hl : s.data.toList.length = s.size := by rw [Array.length_toList]; rfl
  have h2 : (s.extract 0 2).data.toList = s.data.toList.take 2 := by
    rw [ByteArray.data_extract, Array.toList_extract]; simp
  constructor
  · intro he
    refine ⟨by omega, ?_⟩
    rw [← h2, he]
  · intro he
    apply ByteArray.ext
    apply Array.toList_inj.1
    rw [h2, he.2]

set_option maxRecDepth 100000 in
set_option maxHeartbeats 8000000 in
theorem refParse_any (s : ByteArray) (w : World) (hs : s.size ≤ 10000000000) :
    Calls Tryd.prog 28 #[.string s] w fun e w' => e = .returned (.tuple #[.int .u64 ((numR s.data.toList).1 : Int), .bool (numR s.data.toList).2]) ∧ ∃ n, w' = w.drewN n := by
  have hl : s.data.toList.length = s.size := by rw [Array.length_toList]; rfl
  by_cases h20 : 20 < s.size
  · have t20 : decide (20 < s.size) = true := by simp [h20]
    have t20' : decide (20 < (s.size : Int)) = true := by simp; omega
    rw [numR_no (fun m hm => by have := hm.len; omega)]
    clear hl
    go_enter Tryd.func28, Tryd.ntmps28
    go_wp2_with (fail)
    go_ret2
    exact ⟨rfl, 0, rfl⟩
  · have t20 : decide (20 < s.size) = false := by simp; omega
    have t20' : decide (20 < (s.size : Int)) = false := by simp; omega
    by_cases hhex : isHexT s.data.toList
    · have h2 : 2 < s.size := by rw [← hl]; exact hhex.1
      have t2 : decide (2 < s.size) = true := by simp [h2]
      have t2' : decide (2 < (s.size : Int)) = true := by simp; omega
      have hx : s.extract 0 2 = ⟨#[48, 120]⟩ := (take2 s h2).2 hhex
      have PX := Lib.hid hhex
      clear hhex hl
      go_enter Tryd.func28, Tryd.ntmps28
      go_wp2_with (fail)
      go_loop [6, 7] (fun vn vi => ∃ k n : Nat, vi = .int .i64 ((2 + k : Nat) : Int) ∧ vn = .int .u64 (n : Int) ∧ 2 + k ≤ s.size ∧ n < 18446744073709551616 ∧ Hid (n = val 16 ((s.data.toList.drop 2).take k) % 18446744073709551616 ∧ ∀ c ∈ (s.data.toList.drop 2).take k, dval c.toNat < 16)) (fun _ vi => s.size - (intOf vi).toNat)
      case atStart => exact ⟨0, 0, rfl, rfl, by omega, by omega, Lib.hid ⟨rfl, fun c hc => by simp at hc⟩⟩
      case round =>
        obtain ⟨k, n, rfl, rfl, hk, hn, HI⟩ := hrel
        obtain ⟨i, hi⟩ : ∃ i, i = 2 + k := ⟨_, rfl⟩
        rw [← hi] at hk ⊢
        by_cases hlt : i < s.size
        · have tl : decide (i < s.size) = true := by simp [hlt]
          have tl' : decide ((i : Int) < (s.size : Int)) = true := by simp [hlt]
          obtain ⟨q, hqe⟩ : ∃ q, q = bt s i := ⟨_, rfl⟩
          have hq := bt_at s i hlt
          rw [← hqe] at hq
          have hq256 : q < 256 := by rw [hqe]; exact bt_lt s i
          have hlen : k < (s.data.toList.drop 2).length := by rw [List.length_drop, Array.length_toList]; show k < s.size - 2; omega
          have hget : ((s.data.toList.drop 2)[k]).toNat = q := by
            rw [hqe, ← bt_at s i hlt, List.getElem_drop]
            simp only [← hi]
            rfl
          have hvs := val_take_succ 16 (s.data.toList.drop 2) k hlen
          rw [hget] at hvs
          have hmem : (s.data.toList.drop 2).take (k + 1) = (s.data.toList.drop 2).take k ++ [(s.data.toList.drop 2)[k]] := List.take_succ_eq_append_getElem hlen
          obtain ⟨d, hd⟩ : ∃ d, d = dval q := ⟨_, rfl⟩
          have hdig := refDigit_any q
          rw [← hd] at hdig hvs
          have HV := Lib.hid hvs; have HM := Lib.hid hmem; have HD := Lib.hid hd; have HG := Lib.hid hget; have HDI := Lib.hid hdig; have HIK := Lib.hid hi; have HQ := Lib.hid hqe; have HLE := Lib.hid hlen
          clear hvs hmem hd hget hdig hi hqe
          go_wp2_with (fail)
          refine (HDI.out _ hq256).mono ?_
          rintro e w1 ⟨rfl, rfl⟩
          by_cases hbd : d < 16
          · have td : decide (16 ≤ (d : Int)) = false := by simp; omega
            have td' : decide (16 ≤ d) = false := by simp; omega
            have wM : ∀ x y : Int, IntKind.u64.wrap (IntKind.u64.wrap x + y) = IntKind.u64.wrap (x + y) := fun x y => by rw [IntKind.wrap_u64, IntKind.wrap_u64, IntKind.wrap_u64]; omega
            obtain ⟨n', hn'⟩ : ∃ n', n' = (n * 16 + d) % 18446744073709551616 := ⟨_, rfl⟩
            have wE : IntKind.u64.wrap ((n : Int) * 16 + (d : Int)) = (n' : Int) := by rw [IntKind.wrap_u64, hn']; omega
            have hn'' : n' < 18446744073709551616 := by rw [hn']; omega
            have HI' : Hid (n' = val 16 ((s.data.toList.drop 2).take (k + 1)) % 18446744073709551616 ∧ ∀ c ∈ (s.data.toList.drop 2).take (k + 1), dval c.toNat < 16) := by
              refine Lib.hid ⟨?_, fun c hc => ?_⟩
              · rw [HV.out, hn', HI.out.1]; omega
              · rw [HM.out, List.mem_append, List.mem_singleton] at hc
                rcases hc with hc | rfl
                · exact HI.out.2 c hc
                · rw [HG.out, ← HD.out]; exact hbd
            clear hn'
            go_wp2_with (fail)
            refine (HDI.out _ hq256).mono ?_
            rintro e w1 ⟨rfl, rfl⟩
            go_wp2_with (fail)
            refine ⟨⟨k + 1, n', ?_, ?_, by have := HIK.out; omega, hn'', HI'⟩, ?_⟩
            · have := HIK.out; congr 1; omega
            · first | rfl | (rw [wM, wE]) | (rw [wE])
            · simp [intOf]; omega
          · have td : decide (16 ≤ (d : Int)) = true := by simp; omega
            have td' : decide (16 ≤ d) = true := by simp; omega
            go_wp2_with (fail)
            go_ret2
            refine ⟨?_, 0, rfl⟩
            rw [numR_no (fun m hm => ?_)]
            · rfl
            · have hin : (s.data.toList.drop 2)[k]'(HLE.out) ∈ (s.data.toList.drop 2) := List.getElem_mem _
              have hbig : dval ((s.data.toList.drop 2)[k]'(HLE.out)).toNat = d := by rw [HG.out, HD.out]
              refine hbd ?_
              rw [← hbig]
              exact absurdHex s.data.toList (PX.out) m hm _ hin
        · obtain rfl : i = s.size := by omega
          have hall : (s.data.toList.drop 2).take k = (s.data.toList.drop 2) := List.take_of_length_le (by rw [List.length_drop, Array.length_toList]; show s.size - 2 ≤ k; omega)
          have HI2 : Hid (n = val 16 (s.data.toList.drop 2) % 18446744073709551616) := Lib.hid (by have := HI.out.1; rw [hall] at this; exact this)
          have tl : decide (s.size < s.size) = false := by simp
          have tl' : decide ((s.size : Int) < (s.size : Int)) = false := by simp
          clear hall hi
          by_cases hEq : (⟨(48 :: 120 :: digs 16 n).toArray⟩ : ByteArray) = s
          · have HEQ := Lib.hid hEq
            obtain ⟨u, hu⟩ : ∃ u : ByteArray, u = ⟨(48 :: 120 :: digs 16 n).toArray⟩ := ⟨_, rfl⟩
            have HU := Lib.hid hu
            have tEq : (u.toList == s.toList) = true := beqL_true (hu.trans hEq)
            rw [← hu] at hEq
            clear hu HEQ
            go_wp2_with (fail)
            refine (hex_any n _ hn).mono ?_
            rintro e w1 ⟨rfl, m, rfl⟩
            rw [← HU.out]
            subst hEq
            go_wp2_with (fail)
            go_ret2
            refine ⟨?_, m, rfl⟩
            rw [numR_yes (n := n) ⟨hn, .inl (by rw [HU.out])⟩]
            rfl
          · obtain ⟨u, hu⟩ : ∃ u : ByteArray, u = ⟨(48 :: 120 :: digs 16 n).toArray⟩ := ⟨_, rfl⟩
            have HU := Lib.hid hu
            have tEq : (u.toList == s.toList) = false := beqL_false (fun h => hEq (hu.symm.trans h))
            rw [← hu] at hEq
            have HNE := Lib.hid hEq
            clear hu hEq
            go_wp2_with (fail)
            refine (hex_any n _ hn).mono ?_
            rintro e w1 ⟨rfl, m, rfl⟩
            rw [← HU.out]
            go_wp2_with (fail)
            go_ret2
            refine ⟨?_, m, rfl⟩
            rw [numR_no (fun j hj => HNE.out ?_)]
            · rfl
            · rw [HU.out]
              exact eqHex s n (PX.out) j hj HI2.out
    · have PX := Lib.hid hhex
      by_cases h2 : 2 < s.size
      · have t2 : decide (2 < s.size) = true := by simp [h2]
        have t2' : decide (2 < (s.size : Int)) = true := by simp; omega
        obtain ⟨z, hz⟩ : ∃ z, s.extract 0 2 = z := ⟨_, rfl⟩
        have hx : (z.toList == [48, 120]) = false := by
          have := beqL_false (a := s.extract 0 2) (b := ⟨#[48, 120]⟩) (fun h => hhex ((take2 s h2).1 h))
          rw [ByteArray.toList_eq ⟨#[48, 120]⟩, hz] at this
          exact this
        clear hhex hl
        go_enter Tryd.func28, Tryd.ntmps28
        go_wp2_with (fail)
        go_loop [6, 7] (fun vn vi => ∃ k n : Nat, vi = .int .i64 ((0 + k : Nat) : Int) ∧ vn = .int .u64 (n : Int) ∧ 0 + k ≤ s.size ∧ n < 18446744073709551616 ∧ Hid (n = val 10 ((s.data.toList.drop 0).take k) % 18446744073709551616 ∧ ∀ c ∈ (s.data.toList.drop 0).take k, dval c.toNat < 10)) (fun _ vi => s.size - (intOf vi).toNat)
        case atStart => exact ⟨0, 0, rfl, rfl, by omega, by omega, Lib.hid ⟨rfl, fun c hc => by simp at hc⟩⟩
        case round =>
          obtain ⟨k, n, rfl, rfl, hk, hn, HI⟩ := hrel
          obtain ⟨i, hi⟩ : ∃ i, i = 0 + k := ⟨_, rfl⟩
          rw [← hi] at hk ⊢
          by_cases hlt : i < s.size
          · have tl : decide (i < s.size) = true := by simp [hlt]
            have tl' : decide ((i : Int) < (s.size : Int)) = true := by simp [hlt]
            obtain ⟨q, hqe⟩ : ∃ q, q = bt s i := ⟨_, rfl⟩
            have hq := bt_at s i hlt
            rw [← hqe] at hq
            have hq256 : q < 256 := by rw [hqe]; exact bt_lt s i
            have hlen : k < (s.data.toList.drop 0).length := by rw [List.length_drop, Array.length_toList]; show k < s.size - 0; omega
            have hget : ((s.data.toList.drop 0)[k]).toNat = q := by
              rw [hqe, ← bt_at s i hlt, List.getElem_drop]
              simp only [← hi]
              rfl
            have hvs := val_take_succ 10 (s.data.toList.drop 0) k hlen
            rw [hget] at hvs
            have hmem : (s.data.toList.drop 0).take (k + 1) = (s.data.toList.drop 0).take k ++ [(s.data.toList.drop 0)[k]] := List.take_succ_eq_append_getElem hlen
            obtain ⟨d, hd⟩ : ∃ d, d = dval q := ⟨_, rfl⟩
            have hdig := refDigit_any q
            rw [← hd] at hdig hvs
            have HV := Lib.hid hvs; have HM := Lib.hid hmem; have HD := Lib.hid hd; have HG := Lib.hid hget; have HDI := Lib.hid hdig; have HIK := Lib.hid hi; have HQ := Lib.hid hqe; have HLE := Lib.hid hlen
            clear hvs hmem hd hget hdig hi hqe
            go_wp2_with (fail)
            refine (HDI.out _ hq256).mono ?_
            rintro e w1 ⟨rfl, rfl⟩
            by_cases hbd : d < 10
            · have td : decide (10 ≤ (d : Int)) = false := by simp; omega
              have td' : decide (10 ≤ d) = false := by simp; omega
              have wM : ∀ x y : Int, IntKind.u64.wrap (IntKind.u64.wrap x + y) = IntKind.u64.wrap (x + y) := fun x y => by rw [IntKind.wrap_u64, IntKind.wrap_u64, IntKind.wrap_u64]; omega
              obtain ⟨n', hn'⟩ : ∃ n', n' = (n * 10 + d) % 18446744073709551616 := ⟨_, rfl⟩
              have wE : IntKind.u64.wrap ((n : Int) * 10 + (d : Int)) = (n' : Int) := by rw [IntKind.wrap_u64, hn']; omega
              have hn'' : n' < 18446744073709551616 := by rw [hn']; omega
              have HI' : Hid (n' = val 10 ((s.data.toList.drop 0).take (k + 1)) % 18446744073709551616 ∧ ∀ c ∈ (s.data.toList.drop 0).take (k + 1), dval c.toNat < 10) := by
                refine Lib.hid ⟨?_, fun c hc => ?_⟩
                · rw [HV.out, hn', HI.out.1]; omega
                · rw [HM.out, List.mem_append, List.mem_singleton] at hc
                  rcases hc with hc | rfl
                  · exact HI.out.2 c hc
                  · rw [HG.out, ← HD.out]; exact hbd
              clear hn'
              go_wp2_with (fail)
              refine (HDI.out _ hq256).mono ?_
              rintro e w1 ⟨rfl, rfl⟩
              go_wp2_with (fail)
              refine ⟨⟨k + 1, n', ?_, ?_, by have := HIK.out; omega, hn'', HI'⟩, ?_⟩
              · have := HIK.out; congr 1; omega
              · first | rfl | (rw [wM, wE]) | (rw [wE])
              · simp [intOf]; omega
            · have td : decide (10 ≤ (d : Int)) = true := by simp; omega
              have td' : decide (10 ≤ d) = true := by simp; omega
              go_wp2_with (fail)
              go_ret2
              refine ⟨?_, 0, rfl⟩
              rw [numR_no (fun m hm => ?_)]
              · rfl
              · have hin : (s.data.toList.drop 0)[k]'(HLE.out) ∈ (s.data.toList.drop 0) := List.getElem_mem _
                have hbig : dval ((s.data.toList.drop 0)[k]'(HLE.out)).toNat = d := by rw [HG.out, HD.out]
                refine hbd ?_
                rw [← hbig]
                exact absurdDec s.data.toList (PX.out) m hm _ hin
          · obtain rfl : i = s.size := by omega
            have hall : (s.data.toList.drop 0).take k = (s.data.toList.drop 0) := List.take_of_length_le (by rw [List.length_drop, Array.length_toList]; show s.size - 0 ≤ k; omega)
            have HI2 : Hid (n = val 10 (s.data.toList.drop 0) % 18446744073709551616) := Lib.hid (by have := HI.out.1; rw [hall] at this; exact this)
            have tl : decide (s.size < s.size) = false := by simp
            have tl' : decide ((s.size : Int) < (s.size : Int)) = false := by simp
            clear hall hi
            by_cases hEq : (⟨(digs 10 n).toArray⟩ : ByteArray) = s
            · obtain ⟨u, hu⟩ : ∃ u : ByteArray, u = ⟨(digs 10 n).toArray⟩ := ⟨_, rfl⟩
              have HU := Lib.hid hu
              have tEq : (u.toList == s.toList) = true := beqL_true (hu.trans hEq)
              rw [← hu] at hEq
              clear hu
              go_wp2_with (fail)
              refine (decimal_any n _ hn).mono ?_
              rintro e w1 ⟨rfl, m, rfl⟩
              rw [← HU.out]
              subst hEq
              go_wp2_with (fail)
              go_ret2
              refine ⟨?_, m, rfl⟩
              rw [numR_yes (n := n) ⟨hn, .inr (by rw [HU.out])⟩]
              rfl
            · obtain ⟨u, hu⟩ : ∃ u : ByteArray, u = ⟨(digs 10 n).toArray⟩ := ⟨_, rfl⟩
              have HU := Lib.hid hu
              have tEq : (u.toList == s.toList) = false := beqL_false (fun h => hEq (hu.symm.trans h))
              rw [← hu] at hEq
              have HNE := Lib.hid hEq
              clear hu hEq
              go_wp2_with (fail)
              refine (decimal_any n _ hn).mono ?_
              rintro e w1 ⟨rfl, m, rfl⟩
              rw [← HU.out]
              go_wp2_with (fail)
              go_ret2
              refine ⟨?_, m, rfl⟩
              rw [numR_no (fun j hj => HNE.out ?_)]
              · rfl
              · rw [HU.out]
                exact eqDec s n (PX.out) j hj HI2.out
      · have t2 : decide (2 < s.size) = false := by simp; omega
        have t2' : decide (2 < (s.size : Int)) = false := by simp; omega
        clear hhex hl
        go_enter Tryd.func28, Tryd.ntmps28
        go_wp2_with (fail)
        go_loop [6, 7] (fun vn vi => ∃ k n : Nat, vi = .int .i64 ((0 + k : Nat) : Int) ∧ vn = .int .u64 (n : Int) ∧ 0 + k ≤ s.size ∧ n < 18446744073709551616 ∧ Hid (n = val 10 ((s.data.toList.drop 0).take k) % 18446744073709551616 ∧ ∀ c ∈ (s.data.toList.drop 0).take k, dval c.toNat < 10)) (fun _ vi => s.size - (intOf vi).toNat)
        case atStart => exact ⟨0, 0, rfl, rfl, by omega, by omega, Lib.hid ⟨rfl, fun c hc => by simp at hc⟩⟩
        case round =>
          obtain ⟨k, n, rfl, rfl, hk, hn, HI⟩ := hrel
          obtain ⟨i, hi⟩ : ∃ i, i = 0 + k := ⟨_, rfl⟩
          rw [← hi] at hk ⊢
          by_cases hlt : i < s.size
          · have tl : decide (i < s.size) = true := by simp [hlt]
            have tl' : decide ((i : Int) < (s.size : Int)) = true := by simp [hlt]
            obtain ⟨q, hqe⟩ : ∃ q, q = bt s i := ⟨_, rfl⟩
            have hq := bt_at s i hlt
            rw [← hqe] at hq
            have hq256 : q < 256 := by rw [hqe]; exact bt_lt s i
            have hlen : k < (s.data.toList.drop 0).length := by rw [List.length_drop, Array.length_toList]; show k < s.size - 0; omega
            have hget : ((s.data.toList.drop 0)[k]).toNat = q := by
              rw [hqe, ← bt_at s i hlt, List.getElem_drop]
              simp only [← hi]
              rfl
            have hvs := val_take_succ 10 (s.data.toList.drop 0) k hlen
            rw [hget] at hvs
            have hmem : (s.data.toList.drop 0).take (k + 1) = (s.data.toList.drop 0).take k ++ [(s.data.toList.drop 0)[k]] := List.take_succ_eq_append_getElem hlen
            obtain ⟨d, hd⟩ : ∃ d, d = dval q := ⟨_, rfl⟩
            have hdig := refDigit_any q
            rw [← hd] at hdig hvs
            have HV := Lib.hid hvs; have HM := Lib.hid hmem; have HD := Lib.hid hd; have HG := Lib.hid hget; have HDI := Lib.hid hdig; have HIK := Lib.hid hi; have HQ := Lib.hid hqe; have HLE := Lib.hid hlen
            clear hvs hmem hd hget hdig hi hqe
            go_wp2_with (fail)
            refine (HDI.out _ hq256).mono ?_
            rintro e w1 ⟨rfl, rfl⟩
            by_cases hbd : d < 10
            · have td : decide (10 ≤ (d : Int)) = false := by simp; omega
              have td' : decide (10 ≤ d) = false := by simp; omega
              have wM : ∀ x y : Int, IntKind.u64.wrap (IntKind.u64.wrap x + y) = IntKind.u64.wrap (x + y) := fun x y => by rw [IntKind.wrap_u64, IntKind.wrap_u64, IntKind.wrap_u64]; omega
              obtain ⟨n', hn'⟩ : ∃ n', n' = (n * 10 + d) % 18446744073709551616 := ⟨_, rfl⟩
              have wE : IntKind.u64.wrap ((n : Int) * 10 + (d : Int)) = (n' : Int) := by rw [IntKind.wrap_u64, hn']; omega
              have hn'' : n' < 18446744073709551616 := by rw [hn']; omega
              have HI' : Hid (n' = val 10 ((s.data.toList.drop 0).take (k + 1)) % 18446744073709551616 ∧ ∀ c ∈ (s.data.toList.drop 0).take (k + 1), dval c.toNat < 10) := by
                refine Lib.hid ⟨?_, fun c hc => ?_⟩
                · rw [HV.out, hn', HI.out.1]; omega
                · rw [HM.out, List.mem_append, List.mem_singleton] at hc
                  rcases hc with hc | rfl
                  · exact HI.out.2 c hc
                  · rw [HG.out, ← HD.out]; exact hbd
              clear hn'
              go_wp2_with (fail)
              refine (HDI.out _ hq256).mono ?_
              rintro e w1 ⟨rfl, rfl⟩
              go_wp2_with (fail)
              refine ⟨⟨k + 1, n', ?_, ?_, by have := HIK.out; omega, hn'', HI'⟩, ?_⟩
              · have := HIK.out; congr 1; omega
              · first | rfl | (rw [wM, wE]) | (rw [wE])
              · simp [intOf]; omega
            · have td : decide (10 ≤ (d : Int)) = true := by simp; omega
              have td' : decide (10 ≤ d) = true := by simp; omega
              go_wp2_with (fail)
              go_ret2
              refine ⟨?_, 0, rfl⟩
              rw [numR_no (fun m hm => ?_)]
              · rfl
              · have hin : (s.data.toList.drop 0)[k]'(HLE.out) ∈ (s.data.toList.drop 0) := List.getElem_mem _
                have hbig : dval ((s.data.toList.drop 0)[k]'(HLE.out)).toNat = d := by rw [HG.out, HD.out]
                refine hbd ?_
                rw [← hbig]
                exact absurdDec s.data.toList (PX.out) m hm _ hin
          · obtain rfl : i = s.size := by omega
            have hall : (s.data.toList.drop 0).take k = (s.data.toList.drop 0) := List.take_of_length_le (by rw [List.length_drop, Array.length_toList]; show s.size - 0 ≤ k; omega)
            have HI2 : Hid (n = val 10 (s.data.toList.drop 0) % 18446744073709551616) := Lib.hid (by have := HI.out.1; rw [hall] at this; exact this)
            have tl : decide (s.size < s.size) = false := by simp
            have tl' : decide ((s.size : Int) < (s.size : Int)) = false := by simp
            clear hall hi
            by_cases hEq : (⟨(digs 10 n).toArray⟩ : ByteArray) = s
            · obtain ⟨u, hu⟩ : ∃ u : ByteArray, u = ⟨(digs 10 n).toArray⟩ := ⟨_, rfl⟩
              have HU := Lib.hid hu
              have tEq : (u.toList == s.toList) = true := beqL_true (hu.trans hEq)
              rw [← hu] at hEq
              clear hu
              go_wp2_with (fail)
              refine (decimal_any n _ hn).mono ?_
              rintro e w1 ⟨rfl, m, rfl⟩
              rw [← HU.out]
              subst hEq
              go_wp2_with (fail)
              go_ret2
              refine ⟨?_, m, rfl⟩
              rw [numR_yes (n := n) ⟨hn, .inr (by rw [HU.out])⟩]
              rfl
            · obtain ⟨u, hu⟩ : ∃ u : ByteArray, u = ⟨(digs 10 n).toArray⟩ := ⟨_, rfl⟩
              have HU := Lib.hid hu
              have tEq : (u.toList == s.toList) = false := beqL_false (fun h => hEq (hu.symm.trans h))
              rw [← hu] at hEq
              have HNE := Lib.hid hEq
              clear hu hEq
              go_wp2_with (fail)
              refine (decimal_any n _ hn).mono ?_
              rintro e w1 ⟨rfl, m, rfl⟩
              rw [← HU.out]
              go_wp2_with (fail)
              go_ret2
              refine ⟨?_, m, rfl⟩
              rw [numR_no (fun j hj => HNE.out ?_)]
              · rfl
              · rw [HU.out]
                exact eqDec s n (PX.out) j hj HI2.out
end Go.Proofs.YtldbnfbfhbkclaaDoor
