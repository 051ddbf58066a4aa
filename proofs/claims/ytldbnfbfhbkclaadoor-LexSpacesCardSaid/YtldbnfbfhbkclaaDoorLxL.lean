/-
  Chapter 6: quoted names: what is read, and the reference's Scan.
-/
import Derived.Test.YtldbnfbfhbkclaaDoorLxK
import Derived.OwnWalk
namespace Go.Proofs.YtldbnfbfhbkclaaDoor
open Go.RowKit Go.Shelf

def byt (s : ByteArray) (i : Nat) : UInt8 := s.data.getD i 0
theorem byt_nat (s : ByteArray) (i : Nat) : (byt s i).toNat = bt s i := rfl
theorem extract_one (s : ByteArray) (i : Nat) (h : i < s.size) : s.extract i (i + 1) = ⟨#[byt s i]⟩ := by
  apply ByteArray.ext
  rw [ByteArray.data_extract]
  apply Array.ext
  · simp only [Array.size_extract, List.size_toArray, List.length_singleton]
    have : s.data.size = s.size := rfl
    omega
  · intro j h1 h2
    have h2' : j < 1 := by simpa using h2
    obtain rfl : j = 0 := by omega
    have h3 : i < s.data.size := h
    simp [byt, Array.getElem?_eq_getElem h3]

/-- The name and the offset behind it, from i on with the bytes acc. -/
def scnN (s : ByteArray) : Nat → Nat → List UInt8 → Option (List UInt8 × Nat)
  | 0, _, _ => none
  | n + 1, i, acc =>
    if bt s i = 34 then some (acc, i + 1)
    else if bt s i = 92 then (match n with | 0 => none | k + 1 => if bt s (i + 1) = 34 ∨ bt s (i + 1) = 92 then scnN s k (i + 2) (acc ++ [byt s (i + 1)]) else none)
    else scnN s n (i + 1) (acc ++ [byt s i])
def scn (s : ByteArray) (i : Nat) (acc : List UInt8) : Option (List UInt8 × Nat) := scnN s (s.size - i) i acc
theorem scn_end (s : ByteArray) (i : Nat) (acc : List UInt8) (h : s.size ≤ i) : scn s i acc = none := by
  unfold scn; rw [show s.size - i = 0 from by omega]; unfold scnN; rfl
theorem scn_quote (s : ByteArray) (i : Nat) (acc : List UInt8) (h : i < s.size) (hq : bt s i = 34) : scn s i acc = some (acc, i + 1) := by
  unfold scn; rw [show s.size - i = (s.size - (i + 1)) + 1 from by omega]; unfold scnN; rw [if_pos hq]
theorem scn_esc_end (s : ByteArray) (i : Nat) (acc : List UInt8) (h : i < s.size) (hq : bt s i = 92) (h2 : s.size ≤ i + 1) : scn s i acc = none := by
  unfold scn; rw [show s.size - i = 0 + 1 from by omega]; unfold scnN; rw [if_neg (by omega), if_pos hq]
theorem scn_esc (s : ByteArray) (i : Nat) (acc : List UInt8) (h : i + 1 < s.size) (hq : bt s i = 92) (h2 : bt s (i + 1) = 34 ∨ bt s (i + 1) = 92) : scn s i acc = scn s (i + 2) (acc ++ [byt s (i + 1)]) := by
  unfold scn; rw [show s.size - i = (s.size - (i + 2)) + 1 + 1 from by omega]; conv => lhs; unfold scnN
  rw [if_neg (by omega), if_pos hq]; simp only; rw [if_pos h2]
theorem scn_esc_bad (s : ByteArray) (i : Nat) (acc : List UInt8) (h : i + 1 < s.size) (hq : bt s i = 92) (h2 : ¬ (bt s (i + 1) = 34 ∨ bt s (i + 1) = 92)) : scn s i acc = none := by
  unfold scn; rw [show s.size - i = (s.size - (i + 2)) + 1 + 1 from by omega]; unfold scnN; rw [if_neg (by omega), if_pos hq]; simp only; rw [if_neg h2]
theorem scn_plain (s : ByteArray) (i : Nat) (acc : List UInt8) (h : i < s.size) (hq : bt s i ≠ 34) (hq2 : bt s i ≠ 92) : scn s i acc = scn s (i + 1) (acc ++ [byt s i]) := by
  unfold scn; rw [show s.size - i = (s.size - (i + 1)) + 1 from by omega]; conv => lhs; unfold scnN
  rw [if_neg hq, if_neg hq2]
theorem scn_size (s : ByteArray) : ∀ (n i : Nat) (acc l : List UInt8) (e : Nat), s.size - i = n → scn s i acc = some (l, e) → e ≤ s.size ∧ i < e := by
  intro n
  induction n using Nat.strongRecOn with
  | ind n ih =>
    intro i acc l e hn h
    by_cases hlt : i < s.size
    · by_cases h34 : bt s i = 34
      · rw [scn_quote s i acc hlt h34] at h
        injection h with h; injection h with _ h; omega
      · by_cases h92 : bt s i = 92
        · by_cases hl2 : i + 1 < s.size
          · by_cases hq : bt s (i + 1) = 34 ∨ bt s (i + 1) = 92
            · rw [scn_esc s i acc hl2 h92 hq] at h
              have := ih (s.size - (i + 2)) (by omega) (i + 2) _ l e rfl h
              omega
            · rw [scn_esc_bad s i acc hl2 h92 hq] at h; cases h
          · rw [scn_esc_end s i acc hlt h92 (by omega)] at h; cases h
        · rw [scn_plain s i acc hlt h34 h92] at h
          have := ih (s.size - (i + 1)) (by omega) (i + 1) _ l e rfl h
          omega
    · rw [scn_end s i acc (by omega)] at h; cases h
/-- The quoted name at i. -/
def qName (s : ByteArray) (i : Nat) : Option (List UInt8 × Nat) :=
  match scn s (i + 1) [] with
  | some (l, e) => if nameOk ⟨l.toArray⟩ then some (l, e) else none
  | none => none
def scanV : Option (List UInt8 × Nat) → Value
  | some (l, e) => .tuple #[.string ⟨l.toArray⟩, .int .i64 (e : Int), .int .i64 0]
  | none => .tuple #[.string ⟨#[]⟩, .int .i64 0, .int .i64 6]
theorem qName_size {s : ByteArray} {i : Nat} {l : List UInt8} {e : Nat} (h : qName s i = some (l, e)) : e ≤ s.size ∧ i < e := by
  unfold qName at h
  split at h
  · rename_i l' e' he
    split at h
    · injection h with h; injection h with h1 h2; subst h1; subst h2
      have := scn_size s _ (i + 1) [] l' e' rfl he
      omega
    · cases h
  · cases h

set_option maxRecDepth 100000 in
set_option maxHeartbeats 4000000 in
theorem refScan_any (s : ByteArray) (i : Nat) (w : World) (hi : i < s.size) (hq : bt s i = 34) (hs : s.size ≤ 10000000000) :
    Calls Tryd.prog 29 #[.string s, .int .i64 (i : Int)] w fun e w' => e = .returned (scanV (qName s i)) ∧ w = w' := by
  have hq0 := bt_at s i hi
  rw [hq] at hq0
  have ti : decide (i < s.size) = true := by simp [hi]
  have ti2 : ¬ (s.size ≤ i) := by omega
  have ti3 : ¬ ((s.size : Int) ≤ (i : Int)) := by omega
  go_enter Tryd.func29, Tryd.ntmps29
  go_wp2_with (fail)
  go_loop [7, 8] (fun vo vi => ∃ (j : Nat) (o : ByteArray), vi = .int .i64 (j : Int) ∧ vo = .string o ∧ j ≤ s.size ∧ o.size ≤ j ∧ Hid (scn s (i + 1) [] = scn s j o.data.toList)) (fun _ vi => s.size - (intOf vi).toNat)
  case atStart => exact ⟨i + 1, ⟨#[]⟩, by go_num, rfl, by omega, by show 0 ≤ i + 1; omega, Lib.hid rfl⟩
  case round =>
    obtain ⟨j, o, rfl, rfl, hj, ho, HR⟩ := hrel
    clear hq0
    by_cases hlt : j < s.size
    · have hqj := bt_at s j hlt
      obtain ⟨q, hqe⟩ : ∃ q, q = bt s j := ⟨_, rfl⟩
      rw [← hqe] at hqj
      have HQ := Lib.hid hqe
      have tl : decide (j < s.size) = true := by simp [hlt]
      clear hqe
      by_cases h34 : q = 34
      · subst h34
        have HF : Hid (scn s (i + 1) [] = some (o.data.toList, j + 1)) := Lib.hid (by rw [HR.out]; exact scn_quote s j _ hlt HQ.out.symm)
        have tg : ¬ (s.size ≤ j) := by omega
        have tg2 : ¬ ((s.size : Int) ≤ (j : Int)) := by omega
        go_wp2_with (fail)
        refine (refValid_any o _ (by omega)).mono ?_
        rintro e w1 ⟨rfl, rfl⟩
        cases hv : nameOk o with
        | true =>
          have HQN : Hid (qName s i = some (o.data.toList, j + 1)) := Lib.hid (by unfold qName; rw [HF.out]; simp only; rw [if_pos hv])
          go_wp2_with (fail)
          refine bodyPost_ret (results_tmp3 rfl _ _ _) rfl ⟨?_, rfl⟩
          rw [HQN.out]
          show Ending.returned (.tuple #[.string o, .int .i64 ((j : Int) + 1), .int .i64 0]) = .returned (.tuple #[.string o, .int .i64 ((j + 1 : Nat) : Int), .int .i64 0])
          rw [show ((j + 1 : Nat) : Int) = (j : Int) + 1 from by omega]
        | false =>
          have HQN : Hid (qName s i = none) := Lib.hid (by unfold qName; rw [HF.out]; simp only; rw [if_neg (by rw [hv]; decide)])
          go_wp2_with (fail)
          refine bodyPost_ret (results_tmp3 rfl _ _ _) rfl ⟨?_, rfl⟩
          rw [HQN.out]
          rfl
      · have t34 : ((q : Int) != 34) = true := by simp; omega
        have t34' : (q != 34) = true := by simp; omega
        have hac : ¬ 9223372036854775807 < o.size + 1 := by omega
        by_cases h92 : q = 92
        · subst h92
          by_cases hl2 : j + 1 < s.size
          · have hq2 := bt_at s (j + 1) hl2
            obtain ⟨q2, hq2e⟩ : ∃ q, q = bt s (j + 1) := ⟨_, rfl⟩
            rw [← hq2e] at hq2
            have HQ2 := Lib.hid hq2e
            have tl2 : decide ((j : Int) + 1 < (s.size : Int)) = true := by simp; omega
            have tg : ¬ ((s.size : Int) ≤ (j : Int) + 1) := by omega
            have tg2 : ¬ (s.size ≤ j + 1) := by omega
            clear hq2e
            by_cases hok : q2 = 34 ∨ q2 = 92
            · have hex := extract_one s (j + 1) hl2
              have e1 : (s.extract (j + 1) (j + 1 + 1)).size = 1 := by rw [hex]; rfl
              have HSN : Hid (scn s (i + 1) [] = scn s (j + 2) ((o ++ s.extract (j + 1) (j + 1 + 1)).data.toList)) := Lib.hid (by
                rw [HR.out, scn_esc s j _ hl2 HQ.out.symm (by rw [← HQ2.out]; exact hok), hex, ByteArray.data_append, Array.toList_append])
              have HSZ : Hid ((o ++ s.extract (j + 1) (j + 1 + 1)).size = o.size + 1) := Lib.hid (by rw [ByteArray.size_append, e1])
              clear hex
              rcases hok with rfl | rfl
              all_goals
                go_wp2_with (fail)
                refine ⟨⟨j + 2, o ++ s.extract (j + 1) (j + 1 + 1), by go_num, rfl, by omega, by rw [HSZ.out]; omega, HSN⟩, ?_⟩
                simp [intOf]; omega
            · have hn : q2 ≠ 34 ∧ q2 ≠ 92 := by omega
              have u1 : ((q2 : Int) != 34) = true := by simp; omega
              have u2 : ((q2 : Int) != 92) = true := by simp; omega
              have HQN : Hid (qName s i = none) := Lib.hid (by unfold qName; rw [HR.out, scn_esc_bad s j _ hl2 HQ.out.symm (by rw [← HQ2.out]; exact hok)])
              clear hok hn
              go_wp2_with (fail)
              refine bodyPost_ret (results_tmp3 rfl _ _ _) rfl ⟨?_, rfl⟩
              rw [HQN.out]
              rfl
          · have HQN : Hid (qName s i = none) := Lib.hid (by unfold qName; rw [HR.out, scn_esc_end s j _ hlt HQ.out.symm (by omega)])
            have tg : ((s.size : Int) ≤ (j : Int) + 1) := by omega
            have tg2 : (s.size ≤ j + 1) := by omega
            go_wp2_with (fail)
            refine bodyPost_ret (results_tmp3 rfl _ _ _) rfl ⟨?_, rfl⟩
            rw [HQN.out]
            rfl
        · have t92 : ((q : Int) == 92) = false := by simp; omega
          have t92' : (q == 92) = false := by simp; omega
          have hex := extract_one s j hlt
          have e1 : (s.extract j (j + 1)).size = 1 := by rw [hex]; rfl
          have HSN : Hid (scn s (i + 1) [] = scn s (j + 1) ((o ++ s.extract j (j + 1)).data.toList)) := Lib.hid (by
            rw [HR.out, scn_plain s j _ hlt (by rw [← HQ.out]; exact h34) (by rw [← HQ.out]; exact h92), hex, ByteArray.data_append, Array.toList_append])
          have HSZ : Hid ((o ++ s.extract j (j + 1)).size = o.size + 1) := Lib.hid (by rw [ByteArray.size_append, e1])
          clear hex
          go_wp2_with (fail)
          refine ⟨⟨j + 1, o ++ s.extract j (j + 1), by go_num, rfl, by omega, by rw [HSZ.out]; omega, HSN⟩, ?_⟩
          simp [intOf]; omega
    · obtain rfl : j = s.size := by omega
      have tl : decide (s.size < s.size) = false := by simp
      have tg : (s.size ≤ s.size) := Nat.le_refl _
      have HQN : Hid (qName s i = none) := Lib.hid (by unfold qName; rw [HR.out, scn_end s s.size _ (Nat.le_refl _)])
      go_wp2_with (fail)
      refine bodyPost_ret (results_tmp3 rfl _ _ _) rfl ⟨?_, rfl⟩
      rw [HQN.out]
      rfl
end Go.Proofs.YtldbnfbfhbkclaaDoor
