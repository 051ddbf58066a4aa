/-
  Chapter 6: numerals in plain mathematics.
-/
import Derived.Test.YtldbnfbfhbkclaaDoorLxA
import Derived.Lib.ItoaNum
import Derived.Lib.ParseIntB
namespace Go.Proofs.YtldbnfbfhbkclaaDoor
open Go.RowKit

def dch (d : Nat) : UInt8 := UInt8.ofNat (if d < 10 then 48 + d else 87 + d)
def digs (b u : Nat) : List UInt8 := if h : u < b ∨ b < 2 then [dch u] else digs b (u / b) ++ [dch (u % b)]
termination_by u
decreasing_by exact Nat.div_lt_self (by omega) (by omega)
theorem digs_small {b u : Nat} (h : u < b) : digs b u = [dch u] := by rw [digs, dif_pos (.inl h)]
theorem digs_big {b u : Nat} (h : b ≤ u) (hb : 2 ≤ b) : digs b u = digs b (u / b) ++ [dch (u % b)] := by rw [digs, dif_neg (by omega)]
theorem digs10 (u : Nat) : digs 10 u = Lib.decDigits u := by
  induction u using Nat.strongRecOn with
  | ind u ih =>
    by_cases h : u < 10
    · rw [digs_small h, Lib.decDigits, dif_pos h]; simp [dch, h]
    · rw [digs_big (by omega) (by omega), Lib.decDigits, dif_neg h, ih _ (by omega)]
      have : u % 10 < 10 := by omega
      simp [dch, this]
def dval (c : Nat) : Nat := if 48 ≤ c ∧ c ≤ 57 then c - 48 else if 97 ≤ c ∧ c ≤ 102 then c - 87 else 99
theorem dval_dch (d : Nat) (h : d < 16) : dval (dch d).toNat = d := by
  have : ∀ d : Fin 16, dval (dch d.val).toNat = d.val := by decide +kernel
  exact this ⟨d, h⟩
def val (b : Nat) (l : List UInt8) : Nat := l.foldl (fun a c => a * b + dval c.toNat) 0
theorem val_snoc (b : Nat) (l : List UInt8) (c : UInt8) : val b (l ++ [c]) = val b l * b + dval c.toNat := by simp [val]
theorem val_digs (b u : Nat) (hb : 2 ≤ b) (h16 : b ≤ 16) : val b (digs b u) = u := by
  induction u using Nat.strongRecOn with
  | ind u ih =>
    by_cases h : u < b
    · rw [digs_small h]
      show 0 * b + dval (dch u).toNat = u
      rw [dval_dch u (by omega)]; omega
    · have hm : u % b < b := Nat.mod_lt _ (by omega)
      rw [digs_big (by omega) hb, val_snoc, ih _ (Nat.div_lt_self (by omega) (by omega)), dval_dch _ (by omega)]
      exact Nat.div_add_mod' u b
theorem digs_all (b u : Nat) (hb : 2 ≤ b) (h16 : b ≤ 16) : ∀ c ∈ digs b u, dval c.toNat < b := by
  induction u using Nat.strongRecOn with
  | ind u ih =>
    intro c hc
    by_cases h : u < b
    · rw [digs_small h, List.mem_singleton] at hc
      subst hc
      rw [dval_dch u (by omega)]; exact h
    · have hm : u % b < b := Nat.mod_lt _ (by omega)
      rw [digs_big (by omega) hb, List.mem_append, List.mem_singleton] at hc
      rcases hc with hc | rfl
      · exact ih _ (Nat.div_lt_self (by omega) (by omega)) c hc
      · rw [dval_dch _ (by omega)]; exact hm
theorem digs_ne (b u : Nat) : digs b u ≠ [] := by
  rw [digs]
  split <;> simp
theorem digs_len (b : Nat) (hb : 2 ≤ b) : ∀ (k u : Nat), u < b ^ k → 1 ≤ k → (digs b u).length ≤ k
  | 0, _, _, h => by omega
  | k + 1, u, h, _ => by
    by_cases hs : u < b
    · rw [digs_small hs]; simp
    · rw [digs_big (by omega) hb, List.length_append, List.length_singleton]
      cases k with
      | zero => simp at h; omega
      | succ k =>
        have h1 : u / b < b ^ (k + 1) := by
          rw [Nat.div_lt_iff_lt_mul (by omega)]
          rw [Nat.pow_succ] at h
          exact h
        have := digs_len b hb (k + 1) (u / b) h1 (by omega)
        omega
theorem foldl_ge (b : Nat) (hb : 1 ≤ b) : ∀ (l : List UInt8) (a : Nat), a ≤ l.foldl (fun a c => a * b + dval c.toNat) a
  | [], a => Nat.le_refl _
  | c :: l, a => by
    rw [List.foldl_cons]
    have h1 := foldl_ge b hb l (a * b + dval c.toNat)
    have h2 : a * 1 ≤ a * b := Nat.mul_le_mul_left a hb
    omega
theorem val_take_le (b : Nat) (hb : 1 ≤ b) (l : List UInt8) (k : Nat) : val b (l.take k) ≤ val b l := by
  conv => rhs; rw [← List.take_append_drop k l]
  unfold val
  rw [List.foldl_append]
  exact foldl_ge b hb _ _
theorem val_take_succ (b : Nat) (l : List UInt8) (k : Nat) (h : k < l.length) : val b (l.take (k + 1)) = val b (l.take k) * b + dval (l[k]).toNat := by
  rw [List.take_succ_eq_append_getElem h, val_snoc]

/-- The text is the numeral of n. -/
def NumIs (l : List UInt8) (n : Nat) : Prop := n < 18446744073709551616 ∧ (l = 48 :: 120 :: digs 16 n ∨ l = digs 10 n)
theorem x_not_dec (n : Nat) (l : List UInt8) : 48 :: 120 :: l ≠ digs 10 n := by
  intro h
  have := digs_all 10 n (by omega) (by omega) 120 (by rw [← h]; simp)
  revert this
  decide
theorem digs_inj {b n m : Nat} (hb : 2 ≤ b) (h16 : b ≤ 16) (h : digs b n = digs b m) : n = m := by
  rw [← val_digs b n hb h16, h, val_digs b m hb h16]
theorem NumIs.unique {l : List UInt8} {n m : Nat} (h : NumIs l n) (k : NumIs l m) : n = m := by
  rcases h.2 with h1 | h1 <;> rcases k.2 with k1 | k1
  · rw [h1] at k1
    injection k1 with _ k2
    injection k2 with _ k3
    exact digs_inj (by omega) (by omega) k3
  · rw [h1] at k1; exact absurd k1 (x_not_dec _ _)
  · rw [k1] at h1; exact absurd h1 (x_not_dec _ _)
  · rw [h1] at k1; exact digs_inj (by omega) (by omega) k1
open Classical in
/-- The number that a text is the numeral of. -/
noncomputable def numR (l : List UInt8) : Nat × Bool := if h : ∃ n, NumIs l n then (h.choose, true) else (0, false)
theorem numR_yes {l : List UInt8} {n : Nat} (h : NumIs l n) : numR l = (n, true) := by
  have hx : ∃ n, NumIs l n := ⟨n, h⟩
  unfold numR
  rw [dif_pos hx]
  rw [hx.choose_spec.unique h]
theorem numR_no {l : List UInt8} (h : ∀ n, ¬ NumIs l n) : numR l = (0, false) := by
  unfold numR
  rw [dif_neg (fun ⟨n, hn⟩ => h n hn)]
theorem numR_lt (l : List UInt8) : (numR l).1 < 18446744073709551616 := by
  unfold numR
  split
  · rename_i h; exact h.choose_spec.1
  · simp
theorem NumIs.len {l : List UInt8} {n : Nat} (h : NumIs l n) : 1 ≤ l.length ∧ l.length ≤ 20 := by
  obtain ⟨h0, h1 | h1⟩ := h
  · have := digs_len 16 (by omega) 16 n (by omega) (by omega)
    rw [h1]; simp; omega
  · have := digs_len 10 (by omega) 20 n (by omega) (by omega)
    have h2 := digs_ne 10 n
    rw [h1]
    cases hd : digs 10 n with
    | nil => exact absurd hd h2
    | cons a t => rw [hd] at this; simp at this ⊢; omega

/-- The shelf's parse at a numeral. -/
theorem parse_take (l : List UInt8) (hall : ∀ c ∈ l, dval c.toNat < 10) (hv : val 10 l < 18446744073709551616) : ∀ (j : Nat), j ≤ l.length → Lib.parseUintM 18446744073709551615 (val 10 (l.take (l.length - j))) (l.drop (l.length - j)) = .ok (val 10 l)
  | 0, _ => by simp [Lib.parseUintM]
  | j + 1, hj => by
    obtain ⟨k, hk⟩ : ∃ k, k = l.length - (j + 1) := ⟨_, rfl⟩
    have hkl : k < l.length := by omega
    have ih := parse_take l hall hv j (by omega)
    rw [show l.length - j = k + 1 from by omega] at ih
    rw [← hk, List.drop_eq_getElem_cons hkl]
    have hc := hall l[k] (List.getElem_mem hkl)
    have h2 := val_take_le 10 (by omega) l (k + 1)
    rw [val_take_succ 10 l k hkl] at ih h2
    have hd : 48 ≤ l[k].toNat ∧ l[k].toNat ≤ 57 ∧ dval l[k].toNat = l[k].toNat - 48 := by
      unfold dval at hc ⊢
      split at hc
      · rename_i h; rw [if_pos h]; exact ⟨h.1, h.2, rfl⟩
      · split at hc <;> omega
    obtain ⟨d1, d2, d3⟩ := hd
    rw [d3] at ih h2
    unfold Lib.parseUintM
    rw [if_pos ⟨d1, d2⟩, if_neg (by omega), if_neg (by omega)]
    exact ih
theorem parse_dec (n : Nat) (h : n < 18446744073709551616) : Lib.parseUintB 64 (digs 10 n) = .ok n := by
  unfold Lib.parseUintB
  rw [if_neg (digs_ne 10 n)]
  have hv := val_digs 10 n (by omega) (by omega)
  have := parse_take (digs 10 n) (digs_all 10 n (by omega) (by omega)) (by rw [hv]; exact h) (digs 10 n).length (Nat.le_refl _)
  rw [Nat.sub_self, hv] at this
  exact this
theorem parse_lt : ∀ (l : List UInt8) (a u : Nat), a < 18446744073709551616 → Lib.parseUintM 18446744073709551615 a l = .ok u → u < 18446744073709551616
  | [], a, u, ha, h => by simp only [Lib.parseUintM] at h; injection h with h; omega
  | c :: r, a, u, ha, h => by
    simp only [Lib.parseUintM] at h
    split at h
    · split at h
      · cases h
      · split at h
        · cases h
        · exact parse_lt r _ u (by omega) h
    · cases h
end Go.Proofs.YtldbnfbfhbkclaaDoor
