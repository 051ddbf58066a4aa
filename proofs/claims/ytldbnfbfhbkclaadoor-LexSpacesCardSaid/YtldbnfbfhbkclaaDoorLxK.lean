/-
  Chapter 6: names: what a quoted name is, and which names are valid.
-/
import Derived.Test.YtldbnfbfhbkclaaDoorLxB
import Derived.Test.YtldbnfbfhbkclaaDoorShelf
import Derived.Laws.RangeAny
namespace Go.Proofs.YtldbnfbfhbkclaaDoor
open Go.RowKit Go.Shelf

def badB (x : Nat) : Bool := decide (x < 32) || decide (126 < x)
/-- A byte from i on that no name has. -/
def anyBad (s : ByteArray) (i : Nat) : Nat → Bool
  | 0 => false
  | n + 1 => badB (bt s i) || anyBad s (i + 1) n
def hasBad (s : ByteArray) (i : Nat) : Bool := anyBad s i (s.size - i)
theorem hasBad_end (s : ByteArray) (i : Nat) (h : s.size ≤ i) : hasBad s i = false := by
  unfold hasBad; rw [show s.size - i = 0 from by omega]; rfl
theorem hasBad_step (s : ByteArray) (i : Nat) (h : i < s.size) : hasBad s i = (badB (bt s i) || hasBad s (i + 1)) := by
  unfold hasBad
  rw [show s.size - i = (s.size - (i + 1)) + 1 from by omega]
  rfl
def nameOk (s : ByteArray) : Bool := decide (1 ≤ s.size) && decide (s.size ≤ 30) && !hasBad s 0

theorem idx_bad (s : ByteArray) : ∀ (f i : Nat), s.size - i ≤ f → decide (0 ≤ Lib.idxFuncFrom badB true s f i) = hasBad s i
  | 0, i, h => by rw [hasBad_end s i (by omega)]; simp [Lib.idxFuncFrom]
  | f + 1, i, h => by
    unfold Lib.idxFuncFrom
    by_cases hlt : i < s.size
    · rw [if_pos hlt, hasBad_step s i hlt]
      have hb := bt_at s i hlt
      by_cases h128 : (s[i]'hlt).toNat < 128
      · rw [decode_ascii s i hlt h128, hb]
        simp only
        cases hbad : badB (bt s i) with
        | true => simp
        | false =>
          simp only [Bool.false_eq_true, if_false, Bool.false_or]
          exact idx_bad s f (i + 1) (by omega)
      · have hd := (decode_high s i hlt (by omega)).1
        have h1 : badB (Utf8.decode s i).1 = true := by simp [badB]; omega
        have h2 : badB (bt s i) = true := by simp [badB]; omega
        rw [h1, h2]
        simp
    · rw [if_neg hlt, hasBad_end s i (by omega)]; simp

theorem valid1_any (x : Nat) (w : World) : Calls Tryd.prog 72 #[.int .i32 (x : Int)] w fun e w' => e = .returned (.bool (badB x)) ∧ w = w' := by
  unfold badB
  by_cases h : x < 32
  · have t1 : decide ((x : Int) < 32) = true := by simp; omega
    have t1' : decide (x < 32) = true := by simp; omega
    rw [t1']
    clear t1'
    go_enter Tryd.func72, Tryd.ntmps72
    go_wp2
    go_ret
    exact ⟨rfl, rfl⟩
  · have t1 : decide ((x : Int) < 32) = false := by simp; omega
    have t1' : decide (x < 32) = false := by simp; omega
    have t2 : decide (126 < x) = decide (126 < (x : Int)) := by simp; omega
    rw [t1', t2]
    clear t1' t2
    go_enter Tryd.func72, Tryd.ntmps72
    go_wp2
    go_ret
    exact ⟨by simp, rfl⟩

theorem refValid_any (s : ByteArray) (w : World) (hs : s.size ≤ 10000000000) : Calls Tryd.prog 46 #[.string s] w fun e w' => e = .returned (.bool (nameOk s)) ∧ w = w' := by
  go_enter Tryd.func46, Tryd.ntmps46
  go_wp2_with (fail)
  go_loop [3] (fun si => ∃ j : Nat, j ≤ s.size ∧ si = .int .i64 (j : Int) ∧ Hid (hasBad s 0 = hasBad s j)) (fun si => s.size - (intOf si).toNat)
  case atStart => exact ⟨0, by omega, rfl, Lib.hid rfl⟩
  case round =>
    obtain ⟨j, hj1, rfl, HR⟩ := hrel
    by_cases hlt : j < s.size
    · have hq := bt_at s j hlt
      obtain ⟨q, hqe⟩ : ∃ q, q = bt s j := ⟨_, rfl⟩
      have hst := hasBad_step s j hlt
      rw [← hqe] at hq hst
      have HST := Lib.hid hst
      have tl : decide (j < s.size) = true := by simp [hlt]
      clear hqe hst
      by_cases h32 : q < 32
      · have t1 : decide ((q : Int) < 32) = true := by simp; omega
        have HB : Hid (nameOk s = false) := Lib.hid (by unfold nameOk; rw [HR.out, HST.out]; simp [badB, h32])
        go_wp2_with (fail)
        go_ret
        exact ⟨by rw [HB.out]; rfl, rfl⟩
      · have t1 : decide ((q : Int) < 32) = false := by simp; omega
        by_cases h126 : 126 < q
        · have t2 : decide (126 < (q : Int)) = true := by simp; omega
          have HB : Hid (nameOk s = false) := Lib.hid (by unfold nameOk; rw [HR.out, HST.out]; simp [badB, h126])
          go_wp2_with (fail)
          go_ret
          exact ⟨by rw [HB.out]; rfl, rfl⟩
        · have t2 : decide (126 < (q : Int)) = false := by simp; omega
          have HB : Hid (hasBad s 0 = hasBad s (j + 1)) := Lib.hid (by rw [HR.out, HST.out]; simp [badB, h32, h126])
          go_wp2_with (fail)
          refine ⟨⟨j + 1, by omega, by go_num, HB⟩, ?_⟩
          simp [intOf]; omega
    · obtain rfl : j = s.size := by omega
      have tl : decide (s.size < s.size) = false := by simp
      have HB : Hid (nameOk s = (decide (1 ≤ s.size) && decide (s.size ≤ 30))) := Lib.hid (by unfold nameOk; rw [HR.out, hasBad_end s s.size (Nat.le_refl _)]; simp)
      clear HR
      by_cases h1 : 1 ≤ s.size
      · have t1 : decide (1 ≤ (s.size : Int)) = true := by simp; omega
        have t1' : decide (1 ≤ s.size) = true := by simp; omega
        have t2 : decide ((s.size : Int) ≤ 30) = decide (s.size ≤ 30) := by simp; omega
        go_wp2_with (fail)
        go_ret
        refine ⟨?_, rfl⟩
        rw [HB.out, t1', ← t2]
        simp
      · have t1 : decide (1 ≤ (s.size : Int)) = false := by simp; omega
        have t1' : decide (1 ≤ s.size) = false := decide_eq_false h1
        go_wp2_with (fail)
        go_ret
        refine ⟨?_, rfl⟩
        rw [HB.out, t1']
        rfl

theorem valid_any (s : ByteArray) (w : World) (hs : s.size ≤ 10000000000) : Calls Tryd.prog 65 #[.string s] w fun e w' => e = .returned (.bool (nameOk s)) ∧ Below w.heap.size w w' := by
  have hp : PredGrows Tryd.prog 72 #[] badB w := fun W x _ _ => (valid1_any x W).mono fun e w' ⟨he, hw⟩ => ⟨he, by rw [hw]; exact Below.refl _ _⟩
  have hcf : ∀ args w, (callFunc 72 args).run Tryd.prog w = .ok (.enter 72 args) w := enters_of Tryd.func72 (by kernel_rfl) rfl
  have hc := Tryd.strings_ContainsFunc_grows 72 #[] hcf badB s w hp
  have hib := idx_bad s s.size 0 (by omega)
  have HC := Lib.hid hc; have HIB := Lib.hid hib
  clear hc hib hp
  by_cases h1 : 1 ≤ s.size
  · have hne : (s.toList == []) = false := by
      rw [ByteArray.toList_eq]
      have : s.data.toList.length = s.size := by rw [Array.length_toList]; rfl
      cases h : s.data.toList with
      | nil => rw [h] at this; simp at this; omega
      | cons a t => rfl
    have hne2 : s.toList.isEmpty = false := by
      rw [← hne]; cases s.toList <;> rfl
    by_cases h2 : s.size ≤ 30
    · have t2 : decide ((s.size : Int) ≤ 30) = true := by simp; omega
      have t2' : decide (s.size ≤ 30) = true := by simp; omega
      have HB : Hid (nameOk s = !hasBad s 0) := Lib.hid (by unfold nameOk; simp [h1, h2])
      go_enter Tryd.func65, Tryd.ntmps65
      go_wp2_with (fail)
      refine HC.out.mono ?_
      rintro e w1 ⟨rfl, hb⟩
      have HW := Lib.hid hb
      clear hb
      unfold Lib.idxFunc
      rw [HIB.out]
      go_wp2_with (fail)
      go_ret
      exact ⟨by rw [HB.out]; rfl, HW.out⟩
    · have t2 : decide ((s.size : Int) ≤ 30) = false := by simp; omega
      have t2' : decide (s.size ≤ 30) = false := by simp; omega
      have HB : Hid (nameOk s = false) := Lib.hid (by unfold nameOk; simp [h2])
      go_enter Tryd.func65, Tryd.ntmps65
      go_wp2_with (fail)
      go_ret
      exact ⟨by rw [HB.out]; rfl, Below.refl _ _⟩
  · obtain rfl : s = ⟨#[]⟩ := by
      apply ByteArray.ext
      exact Array.eq_empty_of_size_eq_zero (by show s.size = 0; omega)
    have HB : Hid (nameOk ⟨#[]⟩ = false) := Lib.hid (by decide)
    go_enter Tryd.func65, Tryd.ntmps65
    go_wp2_with (fail)
    go_ret
    exact ⟨by rw [HB.out]; rfl, Below.refl _ _⟩
end Go.Proofs.YtldbnfbfhbkclaaDoor
