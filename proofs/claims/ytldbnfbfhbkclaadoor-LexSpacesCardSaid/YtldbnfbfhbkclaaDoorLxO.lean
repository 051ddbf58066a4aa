/-
  Chapter 6: the reference's numerals.
-/
import Derived.Test.YtldbnfbfhbkclaaDoorLxN
import Derived.Test.YtldbnfbfhbkclaaDoorLxS
namespace Go.Proofs.YtldbnfbfhbkclaaDoor
open Go.RowKit Go.Shelf

theorem hexs_at (d : Nat) (h : d < 16) : (ByteArray.mk #[48, 49, 50, 51, 52, 53, 54, 55, 56, 57, 97, 98, 99, 100, 101, 102]).extract d (d + 1) = ⟨#[dch d]⟩ := by
  have : ∀ d : Fin 16, (ByteArray.mk #[48, 49, 50, 51, 52, 53, 54, 55, 56, 57, 97, 98, 99, 100, 101, 102]).extract d.val (d.val + 1) = ⟨#[dch d.val]⟩ := by decide +kernel
  exact this ⟨d, h⟩

set_option maxRecDepth 100000 in
set_option maxHeartbeats 2000000 in
theorem form_any (u b : Nat) (hb : b = 10 ∨ b = 16) (w : World) (hu : u < 18446744073709551616) :
    Calls Tryd.prog 56 #[.int .u64 (u : Int), .int .u64 (b : Int)] w fun e w' => e = .returned (.string ⟨(digs b u).toArray⟩) ∧ ∃ n, w' = w.drewN n := by
  have hb2 : 2 ≤ b ∧ b ≤ 16 := by omega
  have HB := Lib.hid hb
  clear hb
  obtain ⟨hb2, hb16⟩ := hb2
  go_enter Tryd.func56, Tryd.ntmps56
  go_wp2_with (fail)
  go_loopw [0, 5] (fun vx vs wr => ∃ (x : Nat) (acc : ByteArray), vx = .int .u64 (x : Int) ∧ vs = .string acc ∧ x < 18446744073709551616 ∧ Hid (digs b u = digs b x ++ acc.data.toList) ∧ ∃ n, wr = w.drewN n) (fun vx _ _ => (intOf vx).toNat)
  case atStart => exact ⟨u, ⟨#[]⟩, rfl, rfl, hu, Lib.hid (by simp), 0, rfl⟩
  case round =>
    obtain ⟨x, acc, rfl, rfl, hx, HD, n, rfl⟩ := hrel
    have hac : ¬ 9223372036854775807 < 1 + acc.size := by
      have h1 : u < b ^ 64 := Nat.lt_of_lt_of_le (show u < 2 ^ 64 from hu) (Nat.pow_le_pow_left hb2 64)
      have h2 := digs_len b hb2 64 u h1 (by omega)
      rw [HD.out, List.length_append] at h2
      have h3 : acc.data.toList.length = acc.size := by rw [Array.length_toList]; rfl
      omega
    by_cases hlt : b ≤ x
    · have t1 : decide ((b : Int) ≤ (x : Int)) = true := by simp; omega
      have t1' : decide (b ≤ x) = true := by simp; omega
      have hm : (x : Int) % (b : Int) = ((x % b : Nat) : Int) := by simp
      have hq : (x : Int) / (b : Int) = ((x / b : Nat) : Int) := by simp
      have hb0 : ¬ (b : Int) = 0 := by omega
      have hb0' : ¬ b = 0 := by omega
      obtain ⟨r, hr⟩ : ∃ r, r = x % b := ⟨_, rfl⟩
      obtain ⟨q, hqe⟩ : ∃ q, q = x / b := ⟨_, rfl⟩
      have hr16 : r < 16 := by rw [hr]; have := Nat.mod_lt x (show 0 < b by omega); omega
      rw [← hr] at hm
      rw [← hqe] at hq
      have hh := hexs_at r hr16
      have r1 : (0 : Int) ≤ (r : Int) := by omega
      have r2 : (r : Int) ≤ 16 := by omega
      have r3 : (r : Int) + 1 ≤ 16 := by omega
      have w1 : IntKind.u64.wrap ((r : Int) + 1) = (r : Int) + 1 := by rw [IntKind.wrap_u64]; omega
      have w2 : IntKind.u64.wrap (r : Int) = (r : Int) := by rw [IntKind.wrap_u64]; omega
      have w3 : IntKind.u64.wrap (q : Int) = (q : Int) := by
        have : q ≤ x := by rw [hqe]; exact Nat.div_le_self _ _
        rw [IntKind.wrap_u64]; omega
      have hmT : (x : Int).tmod (b : Int) = (r : Int) := by rw [Int.tmod_eq_emod_of_nonneg (by omega)]; exact hm
      have hqT : (x : Int).tdiv (b : Int) = (q : Int) := by rw [Int.tdiv_eq_ediv_of_nonneg (by omega)]; exact hq
      have hqx : q < x := by rw [hqe]; exact Nat.div_lt_self (by omega) (by omega)
      have HR := Lib.hid hr; have HQ := Lib.hid hqe
      clear hr hqe
      go_wp2_with (fail)
      go_quiet (fail)
      go_wp2
      refine ⟨⟨q, _, rfl, rfl, by omega, Lib.hid ?_, _, rfl⟩, by simp [intOf]; omega⟩
      rw [HD.out, digs_big hlt hb2, ← HR.out, ← HQ.out, List.append_assoc, ByteArray.data_append, Array.toList_append]
    · have t1 : decide ((b : Int) ≤ (x : Int)) = false := by simp; omega
      have t1' : decide (b ≤ x) = false := by simp; omega
      have hx16 : x < 16 := by omega
      have hh := hexs_at x hx16
      have r1 : (0 : Int) ≤ (x : Int) := by omega
      have r2 : (x : Int) ≤ 16 := by omega
      have r3 : (x : Int) + 1 ≤ 16 := by omega
      have w1 : IntKind.u64.wrap ((x : Int) + 1) = (x : Int) + 1 := by rw [IntKind.wrap_u64]; omega
      go_wp2
      go_ret
      refine ⟨?_, n, rfl⟩
      have he : ({ data := #[dch x] } : ByteArray) ++ acc = ⟨([dch x] ++ acc.data.toList).toArray⟩ := by
        apply ByteArray.ext
        rw [ByteArray.data_append]
        simp
      rw [HD.out, digs_small (by omega), ← he]
      rfl

theorem decimal_any (u : Nat) (w : World) (hu : u < 18446744073709551616) :
    Calls Tryd.prog 45 #[.int .u64 (u : Int)] w fun e w' => e = .returned (.string ⟨(digs 10 u).toArray⟩) ∧ ∃ n, w' = w.drewN n := by
  go_enter Tryd.func45, Tryd.ntmps45
  go_wp2_with (fail)
  refine (form_any u 10 (.inl rfl) w hu).mono ?_
  rintro e w1 ⟨rfl, n, rfl⟩
  go_wp2_with (fail)
  go_ret
  exact ⟨rfl, n, rfl⟩
theorem hex_any (u : Nat) (w : World) (hu : u < 18446744073709551616) :
    Calls Tryd.prog 44 #[.int .u64 (u : Int)] w fun e w' => e = .returned (.string ⟨(48 :: 120 :: digs 16 u).toArray⟩) ∧ ∃ n, w' = w.drewN n := by
  have hl := digs_len 16 (by omega) 16 u (by omega) (by omega)
  have he : (ByteArray.mk #[48, 120]) ++ ⟨(digs 16 u).toArray⟩ = ⟨(48 :: 120 :: digs 16 u).toArray⟩ := by
    apply ByteArray.ext
    rw [ByteArray.data_append]
    simp
  obtain ⟨t, ht⟩ : ∃ t : ByteArray, t = ⟨(digs 16 u).toArray⟩ := ⟨_, rfl⟩
  have hsz : t.size ≤ 16 := by rw [ht]; exact hl
  have hac : ¬ 9223372036854775807 < 2 + t.size := by omega
  rw [← ht] at he
  rw [← he]
  have HT := Lib.hid ht
  clear ht he hl
  go_enter Tryd.func44, Tryd.ntmps44
  go_wp2_with (fail)
  refine (form_any u 16 (.inr rfl) w hu).mono ?_
  rintro e w1 ⟨rfl, n, rfl⟩
  rw [← HT.out]
  go_wp2_with (fail)
  go_ret
  exact ⟨rfl, n, rfl⟩
theorem refDigit_any (c : Nat) (w : World) (hc : c < 256) :
    Calls Tryd.prog 43 #[.int .u8 (c : Int)] w fun e w' => e = .returned (.int .u64 (dval c : Int)) ∧ w = w' := by
  unfold dval
  by_cases h0 : 48 ≤ c
  · by_cases h1 : c ≤ 57
    · have t0 : decide (48 ≤ (c : Int)) = true := by simp; omega
      have t1 : decide ((c : Int) ≤ 57) = true := by simp; omega
      have e1 : ((c - 48 : Nat) : Int) = (c : Int) - 48 := by omega
      have w1 : IntKind.u8.wrap ((c : Int) - 48) = (c : Int) - 48 := by rw [IntKind.wrap_u8]; omega
      have w2 : IntKind.u64.wrap ((c : Int) - 48) = (c : Int) - 48 := by rw [IntKind.wrap_u64]; omega
      rw [if_pos ⟨h0, h1⟩, e1]
      clear e1
      go_enter Tryd.func43, Tryd.ntmps43
      go_wp2
      go_ret
      exact ⟨rfl, rfl⟩
    · have t0 : decide (48 ≤ (c : Int)) = true := by simp; omega
      have t1 : decide ((c : Int) ≤ 57) = false := by simp; omega
      rw [if_neg (by omega)]
      by_cases h2 : 97 ≤ c
      · have t2 : decide (97 ≤ (c : Int)) = true := by simp; omega
        by_cases h3 : c ≤ 102
        · have t3 : decide ((c : Int) ≤ 102) = true := by simp; omega
          have e1 : ((c - 87 : Nat) : Int) = (c : Int) - 97 + 10 := by omega
          have w1 : IntKind.u8.wrap ((c : Int) - 97) = (c : Int) - 97 := by rw [IntKind.wrap_u8]; omega
          have w2 : IntKind.u64.wrap ((c : Int) - 97) = (c : Int) - 97 := by rw [IntKind.wrap_u64]; omega
          have w3 : IntKind.u64.wrap ((c : Int) - 97 + 10) = (c : Int) - 97 + 10 := by rw [IntKind.wrap_u64]; omega
          rw [if_pos ⟨h2, h3⟩, e1]
          clear e1
          go_enter Tryd.func43, Tryd.ntmps43
          go_wp2
          go_ret
          exact ⟨rfl, rfl⟩
        · have t3 : decide ((c : Int) ≤ 102) = false := by simp; omega
          rw [if_neg (by omega)]
          go_enter Tryd.func43, Tryd.ntmps43
          go_wp2
          go_ret
          exact ⟨rfl, rfl⟩
      · have t2 : decide (97 ≤ (c : Int)) = false := by simp; omega
        rw [if_neg (by omega)]
        go_enter Tryd.func43, Tryd.ntmps43
        go_wp2
        go_ret
        exact ⟨rfl, rfl⟩
  · have t0 : decide (48 ≤ (c : Int)) = false := by simp; omega
    have t2 : decide (97 ≤ (c : Int)) = false := by simp; omega
    rw [if_neg (by omega), if_neg (by omega)]
    go_enter Tryd.func43, Tryd.ntmps43
    go_wp2
    go_ret
    exact ⟨rfl, rfl⟩
end Go.Proofs.YtldbnfbfhbkclaaDoor
