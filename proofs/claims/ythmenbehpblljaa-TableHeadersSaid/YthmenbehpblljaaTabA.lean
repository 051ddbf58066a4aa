/-
  Package table: sizes, the next multiple of sixteen, limits, the end of a section.
-/
import Derived.Test.YthmenbehpblljaaTabS
import Derived.Deep.QuietTactic
import Derived.BigQuiet
import Derived.Deep.WholeRow
namespace Go.Proofs.Ythmenbehpblljaa
open Go.RowKit

def secSize (s : Nat) : Nat := if s = 1 then 56 else if s = 2 then 24 else if s = 3 then 24 else if s = 4 then 48 else 8
def secLimit (s : Nat) : Nat := if s = 1 then 64 else if s = 5 then 512 else 1024
theorem secSize_le (s : Nat) : secSize s ≤ 56 := by unfold secSize; repeat (split <;> try omega)
theorem secSize_pos (s : Nat) : 8 ≤ secSize s := by unfold secSize; repeat (split <;> try omega)
theorem secLimit_le (s : Nat) : secLimit s ≤ 1024 := by unfold secLimit; repeat (split <;> try omega)

theorem six (s : Nat) (h1 : 1 ≤ s) (h2 : s ≤ 6) : s = 1 ∨ s = 2 ∨ s = 3 ∨ s = 4 ∨ s = 5 ∨ s = 6 := by omega

theorem size_any (s : Nat) (w : World) (h1 : 1 ≤ s) (h2 : s ≤ 6) :
    Calls Try.prog 37 #[.int .i64 (s : Int)] w fun e w' => e = .returned (.int .i64 (secSize s : Int)) ∧ w' = w := by
  rcases six s h1 h2 with rfl | rfl | rfl | rfl | rfl | rfl
  all_goals
    go_enter Try.func37, Try.ntmps37
    go_wp2
    go_ret
    exact ⟨rfl, rfl⟩

theorem refSize_any (s : Nat) (w : World) (h1 : 1 ≤ s) (h2 : s ≤ 6) :
    Calls Try.prog 16 #[.int .i64 (s : Int)] w fun e w' => e = .returned (.int .i64 (secSize s : Int)) ∧ w' = w := by
  rcases six s h1 h2 with rfl | rfl | rfl | rfl | rfl | rfl
  all_goals
    go_enter Try.func16, Try.ntmps16
    go_wp2
    go_ret
    exact ⟨rfl, rfl⟩

theorem refLimit_any (s : Nat) (w : World) (h1 : 1 ≤ s) (h2 : s ≤ 6) :
    Calls Try.prog 31 #[.int .i64 (s : Int)] w fun e w' => e = .returned (.int .i64 (secLimit s : Int)) ∧ w' = w := by
  rcases six s h1 h2 with rfl | rfl | rfl | rfl | rfl | rfl
  all_goals
    go_enter Try.func31, Try.ntmps31
    go_wp2
    go_ret
    exact ⟨rfl, rfl⟩

/-- The next multiple of sixteen. -/
def alignUp (n : Nat) : Nat := (n + 15) / 16 * 16

theorem fifteen : ∀ i, i < 64 → (15#64).getLsbD i = decide (i < 4) := by decide
theorem andNot15 (a : BitVec 64) : a &&& ~~~ 15#64 = (a >>> 4) <<< 4 := by
  apply BitVec.eq_of_getLsbD_eq
  intro i hi
  rw [BitVec.getLsbD_and, BitVec.getLsbD_not, fifteen i hi, BitVec.getLsbD_shiftLeft, BitVec.getLsbD_ushiftRight]
  by_cases h : i < 4
  · simp [h]
  · simp [h, hi, show 4 + (i - 4) = i by omega]
theorem andNot_i64 (n : Nat) (h : (n : Int) ≤ 1000000000000) : bits .andNot .i64 (n : Int) 15 = ((n / 16 * 16 : Nat) : Int) := by
  show IntKind.i64.wrap ((BitVec.ofInt 64 (n : Int) &&& ~~~ BitVec.ofInt 64 15).toNat : Int) = _
  rw [show (BitVec.ofInt 64 15) = 15#64 from rfl, andNot15, BitVec.toNat_shiftLeft, BitVec.toNat_ushiftRight, BitVec.ofInt_natCast, BitVec.toNat_ofNat, Nat.shiftLeft_eq, Nat.shiftRight_eq_div_pow, IntKind.wrap_i64]
  have e1 : n % 2 ^ 64 = n := Nat.mod_eq_of_lt (by omega)
  rw [e1, show (2 : Nat) ^ 4 = 16 from rfl]
  have e2 : n / 16 * 16 % 2 ^ 64 = n / 16 * 16 := Nat.mod_eq_of_lt (by omega)
  rw [e2]
  omega

theorem align_any (n : Nat) (w : World) (h : n ≤ 100000000000) :
    Calls Try.prog 34 #[.int .i64 (n : Int)] w fun e w' => e = .returned (.int .i64 (alignUp n : Int)) ∧ w' = w := by
  have hb := andNot_i64 (n + 15) (by omega)
  rw [show ((n + 15 : Nat) : Int) = (n : Int) + 16 - 1 from by omega] at hb
  have HB := Lib.hid hb; clear hb
  go_enter Try.func34, Try.ntmps34
  go_wp2
  go_ret
  exact ⟨by rw [HB.out]; rfl, rfl⟩

def RetLimits (w : World) (e : Ending) (w' : World) : Prop :=
  e = .returned (.agg #[.int .i64 0, .int .i64 64, .int .i64 1024, .int .i64 1024, .int .i64 1024, .int .i64 512, .int .i64 1024]) ∧ Below w.heap.size w w'

theorem limits_any (w : World) : Calls Try.prog 33 #[] w (RetLimits w) := by
  go_enter Try.func33, Try.ntmps33
  go_wp2
  refine bodyPost_ret (v := .agg #[.int .i64 0, .int .i64 64, .int .i64 1024, .int .i64 1024, .int .i64 1024, .int .i64 512, .int .i64 1024]) (by simp [results, Try.results33, go_sem]) rfl ?_
  exact ⟨rfl, (Below.refl _ w).alloc (Nat.le_refl _) _⟩

/-- In a table's cells: the offset and the count of section s. -/
def TabAt (cs : Array Value) (s : Nat) (off cnt : Nat) : Prop := cs.size = 16 ∧ cs[2 + s]? = some (.int .i64 (off : Int)) ∧ cs[9 + s]? = some (.int .i64 (cnt : Int))

set_option maxHeartbeats 1000000 in
set_option maxRecDepth 100000 in
theorem end_any (cs : Array Value) (s off cnt : Nat) (w : World) (h : TabAt cs s off cnt) (h1 : 1 ≤ s) (h2 : s ≤ 6) (ho : off ≤ 1000000) (hc : cnt ≤ 1024) :
    Calls Try.prog 35 #[.agg cs, .int .i64 (s : Int)] w fun e w' => e = .returned (.int .i64 ((off + cnt * secSize s : Nat) : Int)) ∧ Below w.heap.size w w' := by
  obtain ⟨hsz, h3, h4⟩ := h
  have hz := secSize_le s
  have hm : cnt * secSize s ≤ 1024 * 56 := Nat.mul_le_mul hc hz
  obtain ⟨S, hS⟩ : ∃ S, S = secSize s := ⟨_, rfl⟩
  have hsize := size_any s
  rw [← hS] at hm hz hsize ⊢
  obtain ⟨M, hM⟩ : ∃ M, M = cnt * S := ⟨_, rfl⟩
  have hM2 : (cnt : Int) * (S : Int) = (M : Int) := by rw [hM]; push_cast; rfl
  rw [← hM] at hm ⊢
  have hc1 : (w.alloc (.cells cs 28)).cell? ⟨w.heap.size, 2 + s, none⟩ = some (.int .i64 (off : Int)) := by rw [cell_of_row _ _ _ _ _ _ (heap_alloc_new w _)]; exact h3
  have hc2 : (w.alloc (.cells cs 28)).cell? ⟨w.heap.size, 9 + s, none⟩ = some (.int .i64 (cnt : Int)) := by rw [cell_of_row _ _ _ _ _ _ (heap_alloc_new w _)]; exact h4
  have HSZ := Lib.hid hsize
  have hw1 : IntKind.i64.wrap ((cnt : Int) * (S : Int)) = (M : Int) := by rw [hM2, IntKind.wrap_i64]; omega
  have hw2 : IntKind.i64.wrap ((off : Int) + (M : Int)) = (off : Int) + (M : Int) := by rw [IntKind.wrap_i64]; omega
  clear hsize hS hM hM2 h3 h4
  go_enter Try.func35, Try.ntmps35
  go_wp2_with (fail)
  go_quiet ((go_at_call 37; exact Calls.quiet_of_same (HSZ.out _ h1 h2)))
  go_wp2
  go_ret
  exact ⟨by first | rfl | (congr 2; omega), below_drewN ((Below.refl _ w).alloc (Nat.le_refl _) _) _⟩
end Go.Proofs.Ythmenbehpblljaa
