/-
  The walks of package crc that only calculate: shift, times, multiply, Join.
-/
import Derived.Test.YthmenbehpblljaaProg
import Derived.Test.YthmenbehpblljaaAid
import Derived.Test.YthmenbehpblljaaCrcP
namespace Go.Proofs.Ythmenbehpblljaa
open Go.RowKit

/-- A register as a Go value. -/
abbrev reg (r : Crc.B32) : Value := .int .u32 (r.toNat : Int)

theorem ofInt_reg (a : Crc.B32) : BitVec.ofInt 32 (a.toNat : Int) = a := by simp
theorem bits_xor_reg (a b : Crc.B32) : bits .xor .u32 (a.toNat : Int) (b.toNat : Int) = ((a ^^^ b).toNat : Int) := by
  have h := (a ^^^ b).isLt
  show IntKind.u32.wrap ((BitVec.ofInt 32 (a.toNat : Int) ^^^ BitVec.ofInt 32 (b.toNat : Int)).toNat : Int) = _
  rw [ofInt_reg, ofInt_reg, IntKind.wrap_u32]
  omega
theorem bits_and_reg (a b : Crc.B32) : bits .and .u32 (a.toNat : Int) (b.toNat : Int) = ((a &&& b).toNat : Int) := by
  have h := (a &&& b).isLt
  show IntKind.u32.wrap ((BitVec.ofInt 32 (a.toNat : Int) &&& BitVec.ofInt 32 (b.toNat : Int)).toNat : Int) = _
  rw [ofInt_reg, ofInt_reg, IntKind.wrap_u32]
  omega
theorem reg_shr (r : Crc.B32) (k : Nat) : ((r.toNat : Int) / 2 ^ k) = ((r >>> k).toNat : Int) := by
  rw [BitVec.toNat_ushiftRight, Nat.shiftRight_eq_div_pow]
  push_cast
  rfl
theorem reg_shr1 (r : Crc.B32) : ((r.toNat : Int) / (2 : Int)) = ((r >>> 1).toNat : Int) := by
  rw [BitVec.toNat_ushiftRight, Nat.shiftRight_eq_div_pow]
  omega
theorem and_one_reg (r : Crc.B32) : bits .and .u32 (r.toNat : Int) 1 = if r.getLsbD 0 then 1 else 0 := by
  have h := bits_and_reg r 1#32
  rw [show ((1#32 : Crc.B32).toNat : Int) = 1 from rfl] at h
  rw [h]
  have e : r &&& 1#32 = if r.getLsbD 0 then 1#32 else 0#32 := by
    apply BitVec.eq_of_getLsbD_eq
    intro j hj
    rw [BitVec.getLsbD_and]
    cases j with
    | zero => cases r.getLsbD 0 <;> simp
    | succ j => cases r.getLsbD 0 <;> simp [BitVec.getLsbD_one]
  rw [e]
  cases r.getLsbD 0 <;> rfl
theorem sh_val (r : Crc.B32) : bits .xor .u32 ((r.toNat : Int) / 2) (bits .and .u32 3988292384 (-(bits .and .u32 (r.toNat : Int) 1) % 4294967296)) = ((Crc.sh r).toNat : Int) := by
  rw [and_one_reg, reg_shr1]
  unfold Crc.sh
  cases r.getLsbD 0
  · have h := bits_xor_reg (r >>> 1) 0#32
    have e : bits .and .u32 3988292384 (-(if (false : Bool) = true then (1 : Int) else 0) % 4294967296) = ((0#32 : Crc.B32).toNat : Int) := by decide
    rw [e, h]; rfl
  · have h := bits_xor_reg (r >>> 1) Crc.poly
    have e : bits .and .u32 3988292384 (-(if (true : Bool) = true then (1 : Int) else 0) % 4294967296) = ((Crc.poly : Crc.B32).toNat : Int) := by decide
    rw [e, h]; rfl

theorem shift_any (r : Crc.B32) (w : World) :
    Calls Try.prog 45 #[reg r] w fun e w' => e = .returned (reg (Crc.sh r)) ∧ w = w' := by
  have h1 := r.isLt
  go_enter Try.func45, Try.ntmps45
  go_wp2
  go_ret
  exact ⟨congrArg (fun n => Ending.returned (.int .u32 n)) (sh_val r), rfl⟩

theorem times8_any (r : Crc.B32) (w : World) :
    Calls Try.prog 44 #[reg r, .int .i64 8, .func (.func 45) #[] #[]] w fun e w' => e = .returned (reg (Crc.shN 8 r)) ∧ w = w' := by
  go_enter Try.func44, Try.ntmps44
  go_wp2
  go_loop [0, 8] (fun s i => ∃ k : Nat, k ≤ 8 ∧ i = .int .i64 k ∧ s = reg (Crc.shN k r)) (fun _ i => 8 - (intOf i).toNat)
  case atStart => exact ⟨0, by omega, rfl, rfl⟩
  case round =>
    obtain ⟨k, hk, rfl, rfl⟩ := hrel
    by_cases hlt : k < 8
    · go_wp2_with (go_at_call 45; go_loud (refine (shift_any _ _).mono ?_); rintro e w1 ⟨rfl, rfl⟩)
      go_round
      case rel => exact ⟨k + 1, by omega, by go_num, rfl⟩
      case measure => simp [intOf]; omega
    · have hge : 8 ≤ k := by omega
      go_wp2
      go_ret
      obtain rfl : k = 8 := by omega
      exact ⟨rfl, rfl⟩

/-- The bit of the round. -/
def bitv (k : Nat) : Crc.B32 := 0x80000000#32 >>> k
theorem bitv_succ (k : Nat) : bitv k >>> 1 = bitv (k + 1) := by unfold bitv; rw [BitVec.shiftRight_add]
theorem bitv_pow : ∀ k, k < 32 → bitv k = BitVec.twoPow 32 (31 - k) := by decide
theorem bitv_pos : ∀ k, k < 32 → (bitv (k + 1)).toNat < (bitv k).toNat := by decide
theorem bitv_end : bitv 32 = 0#32 := by decide
theorem bitv_and (a : Crc.B32) (k : Nat) (hk : k < 32) : (bits .and .u32 (a.toNat : Int) ((bitv k).toNat : Int) != 0) = a.getLsbD (31 - k) := by
  rw [bits_and_reg, bitv_pow k hk]
  have e : a &&& BitVec.twoPow 32 (31 - k) = if a.getLsbD (31 - k) then BitVec.twoPow 32 (31 - k) else 0#32 := by
    apply BitVec.eq_of_getLsbD_eq
    intro j hj
    rw [BitVec.getLsbD_and, BitVec.getLsbD_twoPow]
    by_cases h : 31 - k = j
    · subst h
      cases a.getLsbD (31 - k) <;> simp [BitVec.getLsbD_twoPow]
    · cases a.getLsbD (31 - k) <;> simp [BitVec.getLsbD_twoPow, h]
  rw [e]
  cases h : a.getLsbD (31 - k)
  · rfl
  · have : (BitVec.twoPow 32 (31 - k)).toNat ≠ 0 := by
      rw [BitVec.toNat_twoPow, Nat.mod_eq_of_lt (Nat.pow_lt_pow_right (by decide) (by omega))]
      exact Nat.ne_of_gt (Nat.pow_pos (by decide))
    simp only [if_true]
    rw [bne_iff_ne]
    omega

set_option maxHeartbeats 1000000 in
theorem multiply_any (a b : Crc.B32) (w : World) :
    Calls Try.prog 46 #[reg a, reg b] w fun e w' => e = .returned (reg (Crc.mul a b)) ∧ w = w' := by
  go_enter Try.func46, Try.ntmps46
  go_wp2
  go_loop [1, 5, 6] (fun sb so st => ∃ k : Nat, k ≤ 32 ∧ sb = reg (Crc.shN k b) ∧ so = reg (Crc.mulN a b k) ∧ st = reg (bitv k)) (fun _ _ st => (intOf st).toNat)
  case atStart => exact ⟨0, by omega, rfl, rfl, rfl⟩
  case round =>
    obtain ⟨k, hk, rfl, rfl, rfl⟩ := hrel
    by_cases hlt : k < 32
    · have hp := bitv_pos k hlt
      have hne : (((bitv k).toNat : Int) != 0) = true := by simp; omega
      have hsh := reg_shr1 (bitv k)
      rw [bitv_succ] at hsh
      have HP := Lib.hid hp; have HSH := Lib.hid hsh; clear hp hsh
      have hand := bitv_and a k hlt
      cases hc : a.getLsbD (31 - k)
      · rw [hc] at hand
        have hm : Crc.mulN a b (k + 1) = Crc.mulN a b k := by rw [Crc.mulN, hc]; simp
        have HM := Lib.hid hm; clear hm
        clear hc
        go_wp2_with (go_at_call 45; go_loud (refine (shift_any _ _).mono ?_); rintro e w1 ⟨rfl, rfl⟩)
        go_round
        case rel => exact ⟨k + 1, by omega, rfl, by rw [HM.out], by rw [HSH.out]⟩
        case measure =>
          have h1 := HP.out
          have h2 := HSH.out
          simp only [intOf]
          omega
      · rw [hc] at hand
        have hm : Crc.mulN a b (k + 1) = Crc.mulN a b k ^^^ Crc.shN k b := by rw [Crc.mulN, hc]; simp
        have hx := bits_xor_reg (Crc.mulN a b k) (Crc.shN k b)
        rw [← hm] at hx
        have HM := Lib.hid hx; clear hm hx
        clear hc
        go_wp2_with (go_at_call 45; go_loud (refine (shift_any _ _).mono ?_); rintro e w1 ⟨rfl, rfl⟩)
        go_round
        case rel => exact ⟨k + 1, by omega, rfl, by rw [HM.out], by rw [HSH.out]⟩
        case measure =>
          have h1 := HP.out
          have h2 := HSH.out
          simp only [intOf]
          omega
    · obtain rfl : k = 32 := by omega
      have hz : (((bitv 32).toNat : Int) != 0) = false := by decide
      go_wp2
      go_ret
      exact ⟨rfl, rfl⟩

theorem and1_i64 (n : Nat) (h : (n : Int) ≤ 9223372036854775807) : (bits .and .i64 (n : Int) 1 == 1) = decide (n % 2 = 1) := by
  have h1 := bits_mask .i64 63 (by decide) (fun m h0 h1 => by rw [IntKind.wrap_i64]; omega) 1 (by decide) (n : Int) (by omega) (by omega)
  rw [show ((2 : Int) ^ 1 - 1) = 1 from rfl, show ((2 : Int) ^ 1) = 2 from rfl] at h1
  rw [h1, Bool.eq_iff_iff, beq_iff_eq, decide_eq_true_iff]
  omega

set_option maxHeartbeats 1000000 in
theorem join_any (a b : Crc.B32) (n : Int) (w : World) (h0 : 0 ≤ n) (h1 : n ≤ 9223372036854775807) :
    Calls Try.prog 24 #[reg a, reg b, .int .i64 n] w fun e w' => e = .returned (reg (Crc.join a b n.toNat)) ∧ w = w' := by
  obtain ⟨n, rfl⟩ := Int.eq_ofNat_of_zero_le h0
  rw [Int.toNat_natCast]
  obtain ⟨R, hR⟩ : ∃ R, R = Crc.pw Crc.q8 n := ⟨_, rfl⟩
  have hj : Crc.join a b n = Crc.mul a R ^^^ b := by rw [Crc.join, hR]
  rw [hj]
  have HR := Lib.hid hR
  clear hR hj
  have hx := bits_xor_reg (Crc.mul a R) b
  have HX := Lib.hid hx; clear hx
  have e0 : reg Crc.e0 = .int .u32 2147483648 := by kernel_rfl
  go_enter Try.func24, Try.ntmps24
  go_wp2_with (go_at_call 44; go_loud (refine (times8_any Crc.e0 _).mono ?_); rintro e w1 ⟨rfl, rfl⟩)
  go_loop [2, 7, 8] (fun sn sp sq => ∃ (m : Nat) (p q : Crc.B32), m ≤ n ∧ sn = .int .i64 m ∧ sp = reg p ∧ sq = reg q ∧ Hid (Crc.mul p (Crc.pw q m) = R)) (fun sn _ _ => (intOf sn).toNat)
  case atStart => exact ⟨n, Crc.e0, Crc.q8, Nat.le_refl _, rfl, rfl, rfl, by rw [HR.out]; exact Crc.e0_mul _⟩
  case round =>
    obtain ⟨m, p, q, hm, rfl, rfl, rfl, HI⟩ := hrel
    by_cases hlt : 0 < m
    · have hodd := and1_i64 m (by omega)
      by_cases ho : m % 2 = 1
      · have ho2 : decide (m % 2 = 1) = true := by simpa using ho
        rw [ho2] at hodd
        have hn := Crc.round_odd p q m ho
        rw [HI.out] at hn
        have HN := Lib.hid hn; clear hn ho ho2
        go_wp2_with (fail)
        refine (multiply_any _ _ _).mono ?_
        rintro e w1 ⟨rfl, rfl⟩
        go_wp2_with (fail)
        refine (multiply_any _ _ _).mono ?_
        rintro e w1 ⟨rfl, rfl⟩
        go_wp2_with (fail)
        go_round
        case rel => exact ⟨m / 2, Crc.mul p q, Crc.mul q q, by omega, by go_num, rfl, rfl, HN⟩
        case measure => simp [intOf]; omega
      · have ho2 : decide (m % 2 = 1) = false := by simpa using ho
        rw [ho2] at hodd
        have hn := Crc.round_even p q m (by omega)
        rw [HI.out] at hn
        have HN := Lib.hid hn; clear hn ho ho2
        go_wp2_with (fail)
        refine (multiply_any _ _ _).mono ?_
        rintro e w1 ⟨rfl, rfl⟩
        go_wp2_with (fail)
        go_round
        case rel => exact ⟨m / 2, p, Crc.mul q q, by omega, by go_num, rfl, rfl, HN⟩
        case measure => simp [intOf]; omega
    · obtain rfl : m = 0 := by omega
      have hp : p = R := by have := HI.out; rwa [Crc.pw, Crc.mul_e0] at this
      subst hp
      go_wp2_with (fail)
      refine (multiply_any _ _ _).mono ?_
      rintro e w1 ⟨rfl, rfl⟩
      go_wp2_with (fail)
      go_ret
      exact ⟨congrArg (fun n => Ending.returned (.int .u32 n)) HX.out, rfl⟩
end Go.Proofs.Ythmenbehpblljaa
