/-
  Chapter 6: the classes of bytes, and places.
-/
import Derived.Test.YtldbnfbfhbkclaaDoorProg
import Derived.Test.YtldbnfbfhbkclaaDoorAid
import Derived.Deep.QuietTactic
import Derived.BigQuiet
namespace Go.Proofs.YtldbnfbfhbkclaaDoor
open Go.RowKit

/-- The byte of a text at an offset, as a number; behind the text 0. -/
def bt (s : ByteArray) (i : Nat) : Nat := (s.data.getD i 0).toNat
theorem bt_lt (s : ByteArray) (i : Nat) : bt s i < 256 := (s.data.getD i 0).toNat_lt
def isLet (b : Nat) : Bool := decide (97 ≤ b) && decide (b ≤ 122)
def isDig (b : Nat) : Bool := decide (48 ≤ b) && decide (b ≤ 57)

theorem letter_any (b : Nat) (w : World) : Calls Tryd.prog 25 #[.int .u8 (b : Int)] w fun e w' => e = .returned (.bool (isLet b)) ∧ w = w' := by
  by_cases h : 97 ≤ b
  · have t1 : decide (97 ≤ (b : Int)) = true := by simp; omega
    have e : isLet b = decide ((b : Int) ≤ 122) := by simp [isLet, h]; omega
    rw [e]
    clear e
    go_enter Tryd.func25, Tryd.ntmps25
    go_wp2
    go_ret
    exact ⟨by simp, rfl⟩
  · have t1 : decide (97 ≤ (b : Int)) = false := by simp; omega
    have e : isLet b = false := by simp [isLet]; omega
    rw [e]
    clear e
    go_enter Tryd.func25, Tryd.ntmps25
    go_wp2
    go_ret
    exact ⟨rfl, rfl⟩
theorem digit_any (b : Nat) (w : World) : Calls Tryd.prog 27 #[.int .u8 (b : Int)] w fun e w' => e = .returned (.bool (isDig b)) ∧ w = w' := by
  by_cases h : 48 ≤ b
  · have t1 : decide (48 ≤ (b : Int)) = true := by simp; omega
    have e : isDig b = decide ((b : Int) ≤ 57) := by simp [isDig, h]; omega
    rw [e]
    clear e
    go_enter Tryd.func27, Tryd.ntmps27
    go_wp2
    go_ret
    exact ⟨by simp, rfl⟩
  · have t1 : decide (48 ≤ (b : Int)) = false := by simp; omega
    have e : isDig b = false := by simp [isDig]; omega
    rw [e]
    clear e
    go_enter Tryd.func27, Tryd.ntmps27
    go_wp2
    go_ret
    exact ⟨rfl, rfl⟩
theorem isLetter_any (b : Nat) (w : World) : Calls Tryd.prog 37 #[.int .u8 (b : Int)] w fun e w' => e = .returned (.bool (isLet b)) ∧ w = w' := by
  by_cases h : 97 ≤ b
  · have t1 : decide (97 ≤ (b : Int)) = true := by simp; omega
    have e : isLet b = decide ((b : Int) ≤ 122) := by simp [isLet, h]; omega
    rw [e]
    clear e
    go_enter Tryd.func37, Tryd.ntmps37
    go_wp2
    go_ret
    exact ⟨by simp, rfl⟩
  · have t1 : decide (97 ≤ (b : Int)) = false := by simp; omega
    have e : isLet b = false := by simp [isLet]; omega
    rw [e]
    clear e
    go_enter Tryd.func37, Tryd.ntmps37
    go_wp2
    go_ret
    exact ⟨rfl, rfl⟩
theorem isDigit_any (b : Nat) (w : World) : Calls Tryd.prog 39 #[.int .u8 (b : Int)] w fun e w' => e = .returned (.bool (isDig b)) ∧ w = w' := by
  by_cases h : 48 ≤ b
  · have t1 : decide (48 ≤ (b : Int)) = true := by simp; omega
    have e : isDig b = decide ((b : Int) ≤ 57) := by simp [isDig, h]; omega
    rw [e]
    clear e
    go_enter Tryd.func39, Tryd.ntmps39
    go_wp2
    go_ret
    exact ⟨by simp, rfl⟩
  · have t1 : decide (48 ≤ (b : Int)) = false := by simp; omega
    have e : isDig b = false := by simp [isDig]; omega
    rw [e]
    clear e
    go_enter Tryd.func39, Tryd.ntmps39
    go_wp2
    go_ret
    exact ⟨rfl, rfl⟩

theorem bt_at (s : ByteArray) (i : Nat) (h : i < s.size) : (s[i]'h).toNat = bt s i := by
  simp [bt, Array.getD, h]
  rfl

/-- The place of an offset from the place of an earlier one. -/
def stepPl (s : ByteArray) (p : Nat × Nat) (i : Nat) : Nat × Nat := if bt s i = 10 then (p.1 + 1, 1) else (p.1, p.2 + 1)
def plN (s : ByteArray) (p : Nat × Nat) (i : Nat) : Nat → Nat × Nat
  | 0 => p
  | n + 1 => stepPl s (plN s p i n) (i + n)
def plTo (s : ByteArray) (p : Nat × Nat) (i j : Nat) : Nat × Nat := plN s p i (j - i)
theorem plTo_self (s : ByteArray) (p : Nat × Nat) (i : Nat) : plTo s p i i = p := by simp [plTo, plN]
theorem plTo_succ (s : ByteArray) (p : Nat × Nat) (i j : Nat) (h : i ≤ j) : plTo s p i (j + 1) = stepPl s (plTo s p i j) j := by
  unfold plTo
  rw [show j + 1 - i = (j - i) + 1 from by omega]
  simp only [plN]
  rw [show i + (j - i) = j from by omega]
theorem plTo_le (s : ByteArray) (p : Nat × Nat) (i j : Nat) : (plTo s p i j).1 ≤ p.1 + (j - i) ∧ (plTo s p i j).2 ≤ p.2 + (j - i) + 1 := by
  unfold plTo
  generalize j - i = n
  induction n with
  | zero => simp [plN]
  | succ n ih =>
    simp only [plN, stepPl]
    split <;> (simp only; omega)
theorem plTo_trans (s : ByteArray) (p : Nat × Nat) (i j k : Nat) (h1 : i ≤ j) (h2 : j ≤ k) : plTo s (plTo s p i j) j k = plTo s p i k := by
  obtain ⟨n, rfl⟩ : ∃ n, k = j + n := ⟨k - j, by omega⟩
  induction n with
  | zero => rw [Nat.add_zero, plTo_self]
  | succ n ih =>
    rw [← Nat.add_assoc, plTo_succ _ _ _ _ (by omega), plTo_succ _ _ _ _ (by omega), ih (by omega)]

set_option maxRecDepth 100000 in
set_option maxHeartbeats 1000000 in
theorem refStep_any (s : ByteArray) (i m l c : Nat) (w : World) (him : i ≤ m) (hs : m ≤ s.size) (hl : l ≤ 10000000000) (hc : c ≤ 10000000000) (hm : m ≤ 10000000000) :
    Calls Tryd.prog 16 #[.string s, .int .i64 (i : Int), .int .i64 (m : Int), .int .i64 (l : Int), .int .i64 (c : Int)] w fun e w' => e = .returned (.tuple #[.int .i64 ((plTo s (l, c) i m).1 : Int), .int .i64 ((plTo s (l, c) i m).2 : Int)]) ∧ w = w' := by
  go_enter Tryd.func16, Tryd.ntmps16
  go_wp2
  go_loop [3, 4, 12] (fun sl sc si => ∃ j : Nat, i ≤ j ∧ j ≤ m ∧ si = .int .i64 (j : Int) ∧ sl = .int .i64 ((plTo s (l, c) i j).1 : Int) ∧ sc = .int .i64 ((plTo s (l, c) i j).2 : Int)) (fun _ _ si => m - (intOf si).toNat)
  case atStart => exact ⟨i, by omega, by omega, rfl, by rw [plTo_self], by rw [plTo_self]⟩
  case round =>
    obtain ⟨j, hj1, hj2, rfl, rfl, rfl⟩ := hrel
    by_cases hlt : j < m
    · have hq := bt_at s j (by omega)
      obtain ⟨q, hqe⟩ : ∃ q, q = bt s j := ⟨_, rfl⟩
      have hst := plTo_succ s (l, c) i j hj1
      have hle := plTo_le s (l, c) i j
      obtain ⟨L, hLe⟩ : ∃ L, L = (plTo s (l, c) i j).1 := ⟨_, rfl⟩
      obtain ⟨C, hCe⟩ : ∃ C, C = (plTo s (l, c) i j).2 := ⟨_, rfl⟩
      unfold stepPl at hst
      rw [← hqe, ← hLe, ← hCe] at hst
      rw [← hqe] at hq
      rw [← hLe, ← hCe] at hle ⊢
      simp only at hle
      have hL2 : L ≤ 30000000000 := by omega
      have hC2 : C ≤ 30000000000 := by omega
      have HST := Lib.hid hst
      clear hst hqe hLe hCe hle
      by_cases h10 : q = 10
      · subst h10
        go_wp2
        refine ⟨⟨j + 1, by omega, by omega, by go_num, by rw [HST.out]; simp, by rw [HST.out]; simp⟩, ?_⟩
        simp [intOf]; omega
      · have t10 : ((q : Int) == 10) = false := by simp; omega
        have t10' : (q == 10) = false := by simp; omega
        go_wp2
        refine ⟨⟨j + 1, by omega, by omega, by go_num, by rw [HST.out]; simp [h10], by rw [HST.out]; simp [h10]⟩, ?_⟩
        simp [intOf]; omega
    · obtain rfl : j = m := by omega
      go_wp2
      go_ret2
      exact ⟨rfl, rfl⟩
end Go.Proofs.YtldbnfbfhbkclaaDoor
