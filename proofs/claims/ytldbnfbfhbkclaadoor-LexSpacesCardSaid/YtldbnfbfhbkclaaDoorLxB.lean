/-
  Chapter 6: the reference's run and skip.
-/
import Derived.Test.YtldbnfbfhbkclaaDoorLxA
namespace Go.Proofs.YtldbnfbfhbkclaaDoor
open Go.RowKit

/-- Where a run of bytes of a class ends: from i on, n bytes at most. -/
def runN (p : Nat → Bool) (s : ByteArray) (i : Nat) : Nat → Nat
  | 0 => i
  | n + 1 => if p (bt s i) then runN p s (i + 1) n else i
def runTo (p : Nat → Bool) (s : ByteArray) (i : Nat) : Nat := runN p s i (s.size - i)
theorem runN_le (p : Nat → Bool) (s : ByteArray) (n i : Nat) : i ≤ runN p s i n ∧ runN p s i n ≤ i + n := by
  induction n generalizing i with
  | zero => simp [runN]
  | succ n ih =>
    simp only [runN]
    split
    · have := ih (i + 1); omega
    · omega
theorem runTo_le (p : Nat → Bool) (s : ByteArray) (i : Nat) (h : i ≤ s.size) : i ≤ runTo p s i ∧ runTo p s i ≤ s.size := by
  have := runN_le p s (s.size - i) i
  unfold runTo
  omega
theorem runTo_yes (p : Nat → Bool) (s : ByteArray) (i : Nat) (h : i < s.size) (hp : p (bt s i) = true) : runTo p s i = runTo p s (i + 1) := by
  unfold runTo
  rw [show s.size - i = (s.size - (i + 1)) + 1 from by omega]
  simp [runN, hp]
theorem runTo_no (p : Nat → Bool) (s : ByteArray) (i : Nat) (hp : p (bt s i) = false) : runTo p s i = i := by
  unfold runTo
  cases s.size - i with
  | zero => rfl
  | succ n => simp [runN, hp]
theorem runTo_end (p : Nat → Bool) (s : ByteArray) (i : Nat) (h : s.size ≤ i) : runTo p s i = i := by
  unfold runTo
  rw [show s.size - i = 0 from by omega]
  rfl
/-- Behind a run there is the end, or a byte that is not of the class. -/
theorem runTo_stop (p : Nat → Bool) (s : ByteArray) (i : Nat) (h : runTo p s i < s.size) : p (bt s (runTo p s i)) = false := by
  obtain ⟨n, hn⟩ : ∃ n, n = s.size - i := ⟨_, rfl⟩
  induction n generalizing i with
  | zero => rw [runTo_end p s i (by omega)] at h; omega
  | succ n ih =>
    cases hp : p (bt s i) with
    | false => rw [runTo_no p s i hp]; exact hp
    | true =>
      rw [runTo_yes p s i (by omega) hp] at h ⊢
      exact ih (i + 1) h (by omega)

def clsRun (digits : Bool) (b : Nat) : Bool := isLet b || (digits && isDig b)

set_option maxRecDepth 100000 in
set_option maxHeartbeats 1000000 in
theorem refRun_any (s : ByteArray) (i : Nat) (dg : Bool) (w : World) (hi : i ≤ s.size) (hs : s.size ≤ 10000000000) :
    Calls Tryd.prog 26 #[.string s, .int .i64 (i : Int), .bool dg] w fun e w' => e = .returned (.int .i64 (runTo (clsRun dg) s i : Int)) ∧ w = w' := by
  go_enter Tryd.func26, Tryd.ntmps26
  go_wp2
  go_loop [1] (fun si => ∃ j : Nat, j ≤ s.size ∧ si = .int .i64 (j : Int) ∧ runTo (clsRun dg) s i = runTo (clsRun dg) s j) (fun si => s.size - (intOf si).toNat)
  case atStart => exact ⟨i, by omega, rfl, rfl⟩
  case round =>
    obtain ⟨j, hj1, rfl, hR⟩ := hrel
    have HR := Lib.hid hR
    clear hR
    by_cases hlt : j < s.size
    · have hq := bt_at s j hlt
      obtain ⟨q, hqe⟩ : ∃ q, q = bt s j := ⟨_, rfl⟩
      have hyes := runTo_yes (clsRun dg) s j hlt
      have hno := runTo_no (clsRun dg) s j
      rw [← hqe] at hq hyes hno
      have HY := Lib.hid hyes; have HN := Lib.hid hno
      have tl : decide (j < s.size) = true := by simp [hlt]
      clear hqe hyes hno
      go_wp2_with (fail)
      refine (letter_any q w).mono ?_
      rintro e w1 ⟨rfl, rfl⟩
      cases hl : isLet q with
      | true =>
        go_wp2_with (fail)
        refine ⟨⟨j + 1, by omega, by go_num, ?_⟩, ?_⟩
        · rw [HR.out, HY.out (by simp [clsRun, hl])]
        · simp [intOf]; omega
      | false =>
        cases dg with
        | false =>
          go_wp2_with (fail)
          go_ret
          exact ⟨by rw [HR.out, HN.out (by simp [clsRun, hl])]; rfl, rfl⟩
        | true =>
          go_wp2_with (fail)
          refine (digit_any q w).mono ?_
          rintro e w1 ⟨rfl, rfl⟩
          cases hd : isDig q with
          | true =>
            go_wp2_with (fail)
            refine ⟨⟨j + 1, by omega, by go_num, ?_⟩, ?_⟩
            · rw [HR.out, HY.out (by simp [clsRun, hd])]
            · simp [intOf]; omega
          | false =>
            go_wp2_with (fail)
            go_ret
            exact ⟨by rw [HR.out, HN.out (by simp [clsRun, hl, hd])]; rfl, rfl⟩
    · obtain rfl : j = s.size := by omega
      have tl : decide (s.size < s.size) = false := by simp
      go_wp2_with (fail)
      go_ret
      exact ⟨by rw [HR.out, runTo_end _ _ _ (Nat.le_refl _)]; rfl, rfl⟩

def isSp (b : Nat) : Bool := b == 32 || b == 9 || b == 13 || b == 10
def notFeed (b : Nat) : Bool := b != 10
/-- From i, spacing ends at j. -/
inductive Skip (s : ByteArray) : Nat → Nat → Prop
  | fin (i : Nat) (h : s.size ≤ i) : Skip s i i
  | stop (i : Nat) (h : i < s.size) (h1 : isSp (bt s i) = false) (h2 : bt s i ≠ 35) : Skip s i i
  | sp (i j : Nat) (h : i < s.size) (h1 : isSp (bt s i) = true) (r : Skip s (i + 1) j) : Skip s i j
  | com (i j : Nat) (h : i < s.size) (h1 : bt s i = 35) (r : Skip s (runTo notFeed s i) j) : Skip s i j
theorem isSp_35 : isSp 35 = false := by decide
theorem Skip.unique {s : ByteArray} {i j k : Nat} (h : Skip s i j) (h' : Skip s i k) : j = k := by
  induction h generalizing k with
  | fin i h => cases h' <;> first | rfl | omega
  | stop i h h1 h2 => cases h' <;> first | rfl | omega | simp_all
  | sp i j h h1 r ih =>
    cases h' with
    | fin _ h3 => omega
    | stop _ _ h4 _ => rw [h1] at h4; cases h4
    | sp _ _ _ _ r' => exact ih r'
    | com _ _ _ h4 _ => rw [h4] at h1; cases h1
  | com i j h h1 r ih =>
    cases h' with
    | fin _ h3 => omega
    | stop _ _ _ h4 => exact absurd h1 h4
    | sp _ _ _ h4 _ => rw [h1] at h4; cases h4
    | com _ _ _ _ r' => exact ih r'
theorem Skip.run {s : ByteArray} (i j : Nat) (h : Skip s (runTo isSp s i) j) : Skip s i j := by
  obtain ⟨n, hn⟩ : ∃ n, n = s.size - i := ⟨_, rfl⟩
  induction n generalizing i with
  | zero => rw [runTo_end isSp s i (by omega)] at h; exact h
  | succ n ih =>
    cases hp : isSp (bt s i) with
    | false => rw [runTo_no isSp s i hp] at h; exact h
    | true =>
      rw [runTo_yes isSp s i (by omega) hp] at h
      exact .sp i j (by omega) hp (ih (i + 1) h (by omega))

set_option maxRecDepth 100000 in
set_option maxHeartbeats 2000000 in
theorem refSkip_any (s : ByteArray) (i : Nat) (w : World) (hi : i ≤ s.size) (hs : s.size ≤ 10000000000) :
    Calls Tryd.prog 24 #[.string s, .int .i64 (i : Int)] w fun e w' => ∃ j : Nat, e = .returned (.int .i64 (j : Int)) ∧ Skip s i j ∧ i ≤ j ∧ j ≤ s.size ∧ w = w' := by
  go_enter Tryd.func24, Tryd.ntmps24
  go_wp2
  go_loop [1] (fun si => ∃ j : Nat, i ≤ j ∧ j ≤ s.size ∧ si = .int .i64 (j : Int) ∧ Hid (∀ k, Skip s j k → Skip s i k)) (fun si => s.size - (intOf si).toNat)
  case atStart => exact ⟨i, by omega, by omega, rfl, Lib.hid (fun _ h => h)⟩
  case round =>
    obtain ⟨j, hj1, hj2, rfl, HR⟩ := hrel
    by_cases hlt : j < s.size
    · have hq := bt_at s j hlt
      obtain ⟨q, hqe⟩ : ∃ q, q = bt s j := ⟨_, rfl⟩
      rw [← hqe] at hq
      have HQ := Lib.hid hqe
      have tl : decide (j < s.size) = true := by simp [hlt]
      clear hqe
      by_cases h35 : q = 35
      · subst h35
        have hprog := runTo_yes notFeed s j hlt (by rw [← HQ.out]; decide)
        have hle := runTo_le notFeed s (j + 1) (by omega)
        have HP := Lib.hid hprog
        clear hprog
        go_wp2
        go_loop [1] (fun si => ∃ m : Nat, j ≤ m ∧ m ≤ s.size ∧ si = .int .i64 (m : Int) ∧ Hid (runTo notFeed s j = runTo notFeed s m)) (fun si => s.size - (intOf si).toNat)
        case atStart => exact ⟨j, by omega, by omega, rfl, Lib.hid rfl⟩
        case round =>
          obtain ⟨m, hm1, hm2, rfl, HM⟩ := hrel
          by_cases hlm : m < s.size
          · have tm : decide (m < s.size) = true := by simp [hlm]
            have hq2 := bt_at s m hlm
            obtain ⟨q2, hq2e⟩ : ∃ q, q = bt s m := ⟨_, rfl⟩
            rw [← hq2e] at hq2
            have HQ2 := Lib.hid hq2e
            clear hq2e
            by_cases h10 : q2 = 10
            · subst h10
              go_wp2
              refine ⟨⟨m, by omega, by omega, rfl, Lib.hid (fun k hk => HR.out k (.com j k hlt HQ.out.symm ?_))⟩, ?_⟩
              · rw [HM.out, runTo_no notFeed s m (by rw [← HQ2.out]; decide)]; exact hk
              · have h1 := HM.out
                rw [HP.out, runTo_no notFeed s m (by rw [← HQ2.out]; decide)] at h1
                simp [intOf]; omega
            · have t10 : ((q2 : Int) != 10) = true := by simp; omega
              have t10' : (q2 != 10) = true := by simp; omega
              go_wp2
              refine ⟨⟨m + 1, by omega, by omega, by go_num, Lib.hid (HM.out.trans (runTo_yes notFeed s m hlm (by rw [← HQ2.out]; exact t10')))⟩, ?_⟩
              simp [intOf]; omega
          · obtain rfl : m = s.size := by omega
            have tm : decide (s.size < s.size) = false := by simp
            go_wp2
            refine ⟨⟨s.size, by omega, by omega, rfl, Lib.hid (fun k hk => HR.out k (.com j k hlt HQ.out.symm ?_))⟩, ?_⟩
            · rw [HM.out, runTo_end notFeed s s.size (Nat.le_refl _)]; exact hk
            · simp [intOf]; omega
      · have t35 : ((q : Int) == 35) = false := by simp; omega
        have t35' : (q == 35) = false := by simp; omega
        cases hsp : isSp q with
        | true =>
          have hor : q = 32 ∨ q = 9 ∨ q = 13 ∨ q = 10 := by simpa [isSp, or_assoc] using hsp
          have HSP := Lib.hid hsp
          clear hsp t35 t35'
          have hfin : ∀ k, Skip s (j + 1) k → Skip s i k := fun k hk => HR.out k (.sp j k hlt (by rw [← HQ.out]; exact HSP.out) hk)
          have HF := Lib.hid hfin
          clear hfin
          rcases hor with rfl | rfl | rfl | rfl
          all_goals
            go_wp2
            refine ⟨⟨j + 1, by omega, by omega, by go_num, HF⟩, ?_⟩
            simp [intOf]; omega
        | false =>
          have hn : q ≠ 32 ∧ q ≠ 9 ∧ q ≠ 13 ∧ q ≠ 10 := by simpa [isSp, and_assoc] using hsp
          obtain ⟨n1, n2, n3, n4⟩ := hn
          have u1 : ((q : Int) != 32) = true := by simp; omega
          have u2 : ((q : Int) != 9) = true := by simp; omega
          have u3 : ((q : Int) != 13) = true := by simp; omega
          have u4 : ((q : Int) != 10) = true := by simp; omega
          have HSP := Lib.hid hsp
          clear hsp n1 n2 n3 n4
          go_wp2
          go_ret
          exact ⟨j, rfl, HR.out j (.stop j hlt (by rw [← HQ.out]; exact HSP.out) (by rw [← HQ.out]; exact h35)), hj1, hj2, rfl⟩
    · obtain rfl : j = s.size := by omega
      have tl : decide (s.size < s.size) = false := by simp
      go_wp2
      go_ret
      exact ⟨s.size, rfl, HR.out s.size (.fin s.size (Nat.le_refl _)), hj1, hj2, rfl⟩
end Go.Proofs.YtldbnfbfhbkclaaDoor
