/-
  Which section has an offset: the plain law.
-/
import Derived.Test.YthmenbehpblljaaTabRec
namespace Go.Proofs.Ythmenbehpblljaa
open Go.RowKit Go.Shelf

def InSec (c : Nat → Nat) (s p : Nat) : Prop := nextOf c (s - 1) ≤ p ∧ p < nextOf c (s - 1) + c s * secSize s
abbrev SecIsN (N : Nat) (c : Nat → Nat) (x a b : Int) : Prop :=
  ((x < 0 ∨ (N : Int) + 4 ≤ x) ∧ a = -2 ∧ b = -2) ∨
  (0 ≤ x ∧ x < 80 ∧ a = 0 ∧ b = 0) ∨
  ((N : Int) ≤ x ∧ x < (N : Int) + 4 ∧ a = 7 ∧ b = 0) ∨
  (∃ p : Nat, x = (p : Int) ∧ 80 ≤ p ∧ p < N ∧
    ((∃ s, 1 ≤ s ∧ s ≤ 6 ∧ InSec c s p ∧ a = (s : Int) ∧ b = (((p - nextOf c (s - 1)) / secSize s : Nat) : Int)) ∨
     ((∀ s, 1 ≤ s → s ≤ 6 → ¬ InSec c s p) ∧ a = -1 ∧ b = -1)))
def SecIs (c : Nat → Nat) (x a b : Int) : Prop := SecIsN (nextOf c 6) c x a b

theorem nextOf_step (c : Nat → Nat) (k : Nat) : nextOf c k + c (k + 1) * secSize (k + 1) ≤ nextOf c (k + 1) := by
  simp only [nextOf]
  exact (alignUp_le _).2
theorem nextOf_mono (c : Nat → Nat) {j k : Nat} (h : j ≤ k) : nextOf c j ≤ nextOf c k := by
  induction k with
  | zero => rw [show j = 0 by omega]; exact Nat.le_refl _
  | succ k ih =>
    by_cases he : j = k + 1
    · rw [he]; exact Nat.le_refl _
    · have h1 := ih (by omega)
      have h2 := nextOf_step c k
      omega
theorem nextOf_ge (c : Nat → Nat) (k : Nat) : 80 ≤ nextOf c k := nextOf_mono c (Nat.zero_le k)
theorem end_le (c : Nat → Nat) (s : Nat) (h1 : 1 ≤ s) : nextOf c (s - 1) + c s * secSize s ≤ nextOf c s := by
  have := nextOf_step c (s - 1)
  rwa [show s - 1 + 1 = s from by omega] at this
theorem inSec_unique (c : Nat → Nat) (s t p : Nat) (h1 : 1 ≤ s) (h2 : 1 ≤ t) (hs : InSec c s p) (ht : InSec c t p) : s = t := by
  rcases Nat.lt_trichotomy s t with h | h | h
  · have h3 := end_le c s h1
    have h4 := nextOf_mono c (show s ≤ t - 1 by omega)
    have := hs.2; have := ht.1
    omega
  · exact h
  · have h3 := end_le c t h2
    have h4 := nextOf_mono c (show t ≤ s - 1 by omega)
    have := ht.2; have := hs.1
    omega
theorem secIs_unique (c : Nat → Nat) (x a b a' b' : Int) (h : SecIs c x a b) (h' : SecIs c x a' b') : a = a' ∧ b = b' := by
  have h80 := nextOf_ge c 6
  unfold SecIs at h h'
  rcases h with ⟨h1, rfl, rfl⟩ | ⟨h1, h2, rfl, rfl⟩ | ⟨h1, h2, rfl, rfl⟩ | ⟨p, rfl, h1, h2, h3⟩ <;>
  rcases h' with ⟨k1, rfl, rfl⟩ | ⟨k1, k2, rfl, rfl⟩ | ⟨k1, k2, rfl, rfl⟩ | ⟨q, hq, k1, k2, k3⟩ <;>
  first
    | exact ⟨rfl, rfl⟩
    | (exfalso; omega)
    | (obtain rfl : p = q := by omega
       rcases h3 with ⟨s, h4, h5, h6, rfl, rfl⟩ | ⟨h4, rfl, rfl⟩ <;> rcases k3 with ⟨t, k4, k5, k6, rfl, rfl⟩ | ⟨k4, rfl, rfl⟩
       · obtain rfl := inSec_unique c s t p h4 k4 h6 k6
         exact ⟨rfl, rfl⟩
       · exact absurd h6 (k4 s h4 h5)
       · exact absurd k6 (h4 t k4 k5)
       · exact ⟨rfl, rfl⟩)
theorem rec_index (O S j p : Nat) (hS : 0 < S) (h1 : O + j * S ≤ p) (h2 : p < O + j * S + S) : (p - O) / S = j := by
  have h3 : p - O = j * S + (p - O - j * S) := by omega
  rw [h3, Nat.add_comm, Nat.add_mul_div_right _ _ hS, Nat.div_eq_of_lt (by omega), Nat.zero_add]
theorem inSec_rec (c : Nat → Nat) (s p j : Nat) (hj : j < c s) (h1 : nextOf c (s - 1) + j * secSize s ≤ p) (h2 : p < nextOf c (s - 1) + j * secSize s + secSize s) : InSec c s p := by
  have h3 : (j + 1) * secSize s ≤ c s * secSize s := Nat.mul_le_mul_right _ hj
  rw [Nat.succ_mul] at h3
  exact ⟨by omega, by omega⟩
theorem inSec_none (c : Nat → Nat) (s p : Nat) (h : ∀ j, j < c s → ¬ (nextOf c (s - 1) + j * secSize s ≤ p ∧ p < nextOf c (s - 1) + j * secSize s + secSize s)) : ¬ InSec c s p := by
  rintro ⟨h1, h2⟩
  have hS : 0 < secSize s := by have := secSize_pos s; omega
  have hd := Nat.div_add_mod (p - nextOf c (s - 1)) (secSize s)
  have hm := Nat.mod_lt (p - nextOf c (s - 1)) hS
  have hq : (p - nextOf c (s - 1)) / secSize s < c s := by
    rw [Nat.div_lt_iff_lt_mul hS]; omega
  refine h _ hq ?_
  rw [Nat.mul_comm] at hd
  omega
end Go.Proofs.Ythmenbehpblljaa
