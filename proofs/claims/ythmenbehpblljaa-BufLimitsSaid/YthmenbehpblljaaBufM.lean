/-
  The walk of BufLimits: a builder takes zero bytes up to 2^24 bytes in all.
-/
import Derived.Test.YthmenbehpblljaaBufL
namespace Go.Proofs.Ythmenbehpblljaa
open Go.RowKit

/-- Block B is a builder of n bytes. -/
def HasLen (n₀ B n : Nat) (w : World) : Prop := ∃ xs, xs.length = n ∧ IsBuf n₀ B xs w

theorem zeros_len (n₀ B n : Nat) (w : World) (m : Int) (h : HasLen n₀ B n w) (h0 : 0 ≤ m) (hm : (n : Int) + m ≤ 16777216) :
    Calls Try.prog 19 #[.pointer (some ⟨B, 0, none⟩), .int .i64 m] w fun e w' => e = .returned (.bool true) ∧ HasLen n₀ B (n + m.toNat) w' ∧ Below n₀ w w' := by
  obtain ⟨xs, rfl, hb⟩ := h
  exact (zeros_yes n₀ B xs w m hb h0 hm).mono fun e w' ⟨he, h1, h2⟩ => ⟨he, ⟨_, by simp, h1⟩, h2⟩

theorem zeros_len_no (n₀ B n : Nat) (w : World) (m : Int) (h : HasLen n₀ B n w) (hn : n ≤ 16777216) (hm : 16777216 - (n : Int) < m) :
    Calls Try.prog 19 #[.pointer (some ⟨B, 0, none⟩), .int .i64 m] w fun e w' => e = .returned (.bool false) ∧ w = w' := by
  obtain ⟨xs, rfl, hb⟩ := h
  exact zeros_no n₀ B xs w m hb hn (.inr hm)

theorem align_len_no (n₀ B n : Nat) (w : World) (m : Int) (h : HasLen n₀ B n w) (h0 : 1 ≤ m) (h9 : m ≤ 1000000000) (hx : n ≤ 16777216) (hm : 0 < (n : Int) % m) (hb : 16777216 - (n : Int) < m - (n : Int) % m) :
    Calls Try.prog 20 #[.pointer (some ⟨B, 0, none⟩), .int .i64 m] w fun e w' => e = .returned (.bool false) ∧ w = w' := by
  obtain ⟨xs, rfl, hb'⟩ := h
  exact align_no n₀ B xs w m hb' h0 h9 hx hm hb

theorem align_len_yes (n₀ B n : Nat) (w : World) (m : Int) (h : HasLen n₀ B n w) (h0 : 1 ≤ m) (hx : n ≤ 16777216) (hm : (n : Int) % m = 0) :
    Calls Try.prog 20 #[.pointer (some ⟨B, 0, none⟩), .int .i64 m] w fun e w' => e = .returned (.bool true) ∧ w = w' := by
  obtain ⟨xs, rfl, hb'⟩ := h
  exact align_zero n₀ B xs w m hb' h0 hx hm

theorem len_len (n₀ B n : Nat) (w : World) (h : HasLen n₀ B n w) :
    Calls Try.prog 21 #[.pointer (some ⟨B, 0, none⟩)] w fun e w' => e = .returned (.int .i64 n) ∧ w = w' := by
  obtain ⟨xs, rfl, hb'⟩ := h
  exact len_any n₀ B xs w hb'

theorem HasLen.below {n₀ B n k : Nat} {w w1 : World} (h : HasLen n₀ B n w) (hb : Below k w w1) (hk : w.heap.size ≤ k) : HasLen n₀ B n w1 := by
  obtain ⟨xs, rfl, hb'⟩ := h
  exact ⟨xs, rfl, hb'.below hb hk⟩

set_option maxHeartbeats 1000000 in
set_option maxRecDepth 100000 in
theorem bufLimits_walk (k : Int) (w : World) (h0 : 0 ≤ k) (h1 : k ≤ 255) : Calls Try.prog 5 #[.int .u8 k] w fun e w' => e = .returned (.bool true) ∧ Below w.heap.size w w' := by
  have hs0 : Src w none [] := ⟨fun _ => rfl, fun u hu => (by cases hu), fun ad h => (by cases h)⟩
  have HS0 := Lib.hid hs0; clear hs0
  obtain ⟨N, hN⟩ : ∃ N : Nat, N = (16777216 - k).toNat := ⟨_, rfl⟩
  have hNk : (N : Int) + k = 16777216 := by omega
  have HN := Lib.hid hN; have HNK := Lib.hid hNk; clear hN hNk
  go_enter Try.func5, Try.ntmps5
  go_wp2_with (fail)
  refine (new_any w.heap.size none 0 [] _ HS0.out (Nat.le_refl _) (by simp)).mono ?_
  rintro e w1 ⟨B, rfl, hb1, hl1⟩
  have HB1 := Lib.hid (show HasLen w.heap.size B 0 w1 from ⟨[], rfl, hb1⟩); have HL1 := Lib.hid hl1; clear hb1 hl1
  go_wp2_with (fail)
  refine (zeros_len w.heap.size B 0 _ _ HB1.out (by omega) (by omega)).mono ?_
  rintro e w2 ⟨rfl, hb2, hl2⟩
  rw [show 0 + (16777216 - k).toNat = N by rw [HN.out, Nat.zero_add]] at hb2
  have HB2 := Lib.hid hb2; have HL2 := Lib.hid (HL1.out.trans hl2); clear hb2 hl2
  go_wp2_with (fail)
  have hk1 : N ≤ 16777216 := by have := HNK.out; omega
  have hk2 : 16777216 - (N : Int) < k + 1 := by have := HNK.out; omega
  have HK2 := Lib.hid hk2; clear hk2
  refine (zeros_len_no w.heap.size B N _ _ HB2.out hk1 HK2.out).mono ?_
  rintro e w3 ⟨rfl, rfl⟩
  go_wp2_with (fail)
  have hr : (N : Int) % 16777217 = N := by omega
  have hr1 : 0 < (N : Int) % 16777217 := by have := HNK.out; omega
  have hr2 : 16777216 - (N : Int) < 16777217 - (N : Int) % 16777217 := by omega
  have HR1 := Lib.hid hr1; have HR2 := Lib.hid hr2; clear hr hr1 hr2
  refine (align_len_no w.heap.size B N _ _ HB2.out (by omega) (by omega) hk1 HR1.out HR2.out).mono ?_
  rintro e w3 ⟨rfl, rfl⟩
  go_wp2_with (fail)
  refine (len_len w.heap.size B N _ HB2.out).mono ?_
  rintro e w3 ⟨rfl, rfl⟩
  have hn1 : ((N : Int) != 16777216 - k) = false := by have := HNK.out; simp; omega
  go_wp2_with (fail)
  refine (zeros_len w.heap.size B N _ _ HB2.out h0 (by have := HNK.out; omega)).mono ?_
  rintro e w3 ⟨rfl, hb3, hl3⟩
  rw [show N + k.toNat = 16777216 by have := HNK.out; omega] at hb3
  have HB3 := Lib.hid hb3; have HL3 := Lib.hid (HL2.out.trans hl3); clear hb3 hl3
  go_wp2_with (fail)
  refine (alive03_any _).mono ?_
  rintro e w4 ⟨rfl, hl4⟩
  have HB4 := Lib.hid (HB3.out.below hl4 (Nat.le_refl _)); have HL4 := Lib.hid (HL3.out.trans (hl4.mono HL3.out.size)); clear hl4
  go_wp2_with (fail)
  refine (len_len w.heap.size B 16777216 _ HB4.out).mono ?_
  rintro e w5 ⟨rfl, rfl⟩
  go_wp2_with (fail)
  refine (zeros_len_no w.heap.size B 16777216 _ _ HB4.out (by decide) (by decide)).mono ?_
  rintro e w5 ⟨rfl, rfl⟩
  go_wp2_with (fail)
  refine (align_len_no w.heap.size B 16777216 _ _ HB4.out (by decide) (by decide) (by decide) (by decide) (by decide)).mono ?_
  rintro e w5 ⟨rfl, rfl⟩
  go_wp2_with (fail)
  refine (zeros_len w.heap.size B 16777216 _ 0 HB4.out (by decide) (by decide)).mono ?_
  rintro e w5 ⟨rfl, hb5, hl5⟩
  have HB5 := Lib.hid (show HasLen w.heap.size B 16777216 w5 from hb5); have HL5 := Lib.hid (HL4.out.trans hl5); clear hb5 hl5
  go_wp2_with (fail)
  refine (align_len_yes w.heap.size B 16777216 _ _ HB5.out (by decide) (by decide) (by decide)).mono ?_
  rintro e w6 ⟨rfl, rfl⟩
  go_wp2_with (fail)
  refine (len_len w.heap.size B 16777216 _ HB5.out).mono ?_
  rintro e w6 ⟨rfl, rfl⟩
  go_wp2_with (fail)
  go_ret
  exact ⟨rfl, HL5.out⟩
end Go.Proofs.Ythmenbehpblljaa
