/-
  Chapter 6: places.
-/
import Derived.Test.YtldbnfbfhbkclaaDoorLyB
namespace Go.Proofs.YtldbnfbfhbkclaaDoor
open Go.RowKit Go.Shelf

theorem lastIdx_congr (s t : ByteArray) (c : Int) : ∀ (k : Nat), (∀ j, j < k → s.data[j]! = t.data[j]!) → Lib.lastIdx s c k = Lib.lastIdx t c k
  | 0, _ => rfl
  | k + 1, h => by
    unfold Lib.lastIdx
    rw [h k (by omega), lastIdx_congr s t c k (fun j hj => h j (by omega))]
theorem get!_bt (s : ByteArray) (i : Nat) : (s.data[i]!).toNat = bt s i := by
  unfold bt
  simp only [Array.getD, getElem!_def]
  split <;> rename_i h
  · rename_i x
    obtain ⟨h1, h2⟩ := Array.getElem?_eq_some_iff.1 h
    rw [dif_pos h1]
    show _ = (s.data[i]'h1).toNat
    rw [h2]
  · rw [dif_neg (by have := Array.getElem?_eq_none_iff.1 h; omega)]
    rfl
theorem place_law (s : ByteArray) (i : Nat) (hi : i ≤ s.size) : 1 + ((s.data.toList.take i).count 10 : Int) = ((plTo s (1, 1) 0 i).1 : Int) ∧ (i : Int) - Lib.lastIdx s 10 i = ((plTo s (1, 1) 0 i).2 : Int) := by
  induction i with
  | zero => rw [plTo_self]; exact ⟨rfl, rfl⟩
  | succ i ih =>
    obtain ⟨h1, h2⟩ := ih (by omega)
    rw [plTo_succ _ _ _ _ (Nat.zero_le _)]
    have hsz : i < s.data.toList.length := by simp; exact hi
    rw [List.take_succ_eq_append_getElem hsz, List.count_append]
    have hb := get!_bt s i
    have hg : s.data.toList[i] = s.data[i]! := by
      have : i < s.data.size := by simpa using hsz
      rw [getElem!_pos s.data i this]; simp
    unfold Lib.lastIdx stepPl
    rw [hg]
    by_cases h10 : bt s i = 10
    · have e : s.data[i]! = 10 := by apply UInt8.toNat_inj.1; rw [hb, h10]; rfl
      rw [if_pos h10, hb, h10, e]
      rw [if_pos (by rfl)]
      constructor
      · have : List.count (10 : UInt8) [10] = 1 := by decide
        rw [this]; omega
      · show ((i + 1 : Nat) : Int) - (i : Int) = ((1 : Nat) : Int); omega
    · have e : s.data[i]! ≠ 10 := fun e => h10 (by rw [← hb, e]; rfl)
      rw [if_neg h10, hb, if_neg (by omega)]
      constructor
      · have : List.count (10 : UInt8) [s.data[i]!] = 0 := List.count_eq_zero.2 (by simp; exact fun h => e h.symm)
        rw [this]; exact h1
      · show ((i + 1 : Nat) : Int) - Lib.lastIdx s 10 i = (((plTo s (1, 1) 0 i).2 + 1 : Nat) : Int); omega

set_option maxRecDepth 100000 in
set_option maxHeartbeats 2000000 in
theorem place_any (s : ByteArray) (i : Nat) (w : World) (hi : i ≤ s.size) (hs : s.size ≤ 100000) :
    Calls Tryd.prog 11 #[.string s, .int .i64 (i : Int)] w fun e w' => e = .returned (.tuple #[.int .i64 ((plTo s (1, 1) 0 i).1 : Int), .int .i64 ((plTo s (1, 1) 0 i).2 : Int)]) ∧ w = w' := by
  obtain ⟨p1, p2⟩ := place_law s i hi
  have hle := plTo_le s (1, 1) 0 i
  have t1 : decide ((i : Int) < 0) = false := by simp
  have t2 : decide (s.size < i) = false := by simp [hi]
  have t2' : decide ((s.size : Int) < (i : Int)) = false := by simp; omega
  have P1 := Lib.hid p1; have P2 := Lib.hid p2
  clear p1 p2
  go_enter Tryd.func11, Tryd.ntmps11
  go_wp2_with (fail)
  refine (Tryd.strings_Count_one (s.extract 0 i) 10 w).mono ?_
  rintro e w1 ⟨rfl, rfl⟩
  have hex : (s.extract 0 i).data.toList = s.data.toList.take i := by simp [ByteArray.data_extract, Array.toList_extract]
  obtain ⟨c, hc⟩ : ∃ c, c = Lib.countByte (s.extract 0 i).data.toList 10 := ⟨_, rfl⟩
  have hci : c ≤ i := by
    rw [hc, hex]
    exact Nat.le_trans List.count_le_length (by rw [List.length_take]; omega)
  have hP : 1 + (c : Int) = ((plTo s (1, 1) 0 i).1 : Int) := by rw [hc, hex]; exact P1.out
  rw [← hc]
  have HP := Lib.hid hP
  clear hc hP hex
  go_wp2_with (fail)
  have hsx : (s.extract 0 i).size = i := by rw [ByteArray.size_extract]; omega
  refine (Tryd.strings_LastIndexByte (s.extract 0 i) 10 (by rw [hsx]; omega) _).mono ?_
  rintro e w1 ⟨rfl, rfl⟩
  obtain ⟨q, hq⟩ : ∃ q, q = Lib.lastIndexByte (s.extract 0 i) 10 := ⟨_, rfl⟩
  have hQ : (i : Int) - q = ((plTo s (1, 1) 0 i).2 : Int) := by
    rw [hq, ← P2.out]
    unfold Lib.lastIndexByte
    rw [hsx, lastIdx_congr (s.extract 0 i) s 10 i (fun j hj => by
      apply UInt8.toNat_inj.1
      rw [get!_bt, get!_bt]
      have h1 := bt_at (s.extract 0 i) j (by rw [hsx]; exact hj)
      have h2 := bt_at s j (by omega)
      rw [← h1, ← h2]
      simp [ByteArray.getElem_eq_getElem_data, ByteArray.data_extract])]
  have hq1 : -200000 ≤ q ∧ q ≤ 200000 := by omega
  obtain ⟨hq2, hq3⟩ := hq1
  rw [← hq]
  have HQ := Lib.hid hQ
  clear hq hQ hsx
  go_wp2_with (fail)
  go_ret2
  exact ⟨by rw [← HP.out, ← HQ.out]; rfl, rfl⟩
set_option maxRecDepth 100000 in
set_option maxHeartbeats 2000000 in
theorem refPlace_any (s : ByteArray) (m : Nat) (w : World) (hs : m ≤ s.size) (hm : m ≤ 100000) :
    Calls Tryd.prog 21 #[.string s, .int .i64 (m : Int)] w fun e w' => e = .returned (.tuple #[.int .i64 ((plTo s (1, 1) 0 m).1 : Int), .int .i64 ((plTo s (1, 1) 0 m).2 : Int)]) ∧ w = w' := by
  have t1 : decide ((m : Int) < 0) = false := by simp
  have t2 : decide (s.size < m) = false := by simp [hs]
  have t2' : decide ((s.size : Int) < (m : Int)) = false := by simp; omega
  go_enter Tryd.func21, Tryd.ntmps21
  go_wp2
  go_loop [6, 7, 8] (fun sl sc si => ∃ j : Nat, j ≤ m ∧ si = .int .i64 (j : Int) ∧ sl = .int .i64 ((plTo s (1, 1) 0 j).1 : Int) ∧ sc = .int .i64 ((plTo s (1, 1) 0 j).2 : Int)) (fun _ _ si => m - (intOf si).toNat)
  case atStart => exact ⟨0, by omega, rfl, by rw [plTo_self]; rfl, by rw [plTo_self]; rfl⟩
  case round =>
    obtain ⟨j, hj2, rfl, rfl, rfl⟩ := hrel
    by_cases hlt : j < m
    · have hq := bt_at s j (by omega)
      obtain ⟨q, hqe⟩ : ∃ q, q = bt s j := ⟨_, rfl⟩
      have hst := plTo_succ s (1, 1) 0 j (Nat.zero_le _)
      have hle := plTo_le s (1, 1) 0 j
      obtain ⟨L, hLe⟩ : ∃ L, L = (plTo s (1, 1) 0 j).1 := ⟨_, rfl⟩
      obtain ⟨C, hCe⟩ : ∃ C, C = (plTo s (1, 1) 0 j).2 := ⟨_, rfl⟩
      unfold stepPl at hst
      rw [← hqe, ← hLe, ← hCe] at hst
      rw [← hqe] at hq
      rw [← hLe, ← hCe] at hle ⊢
      simp only at hle
      have hL2 : L ≤ 30000000000 := by omega
      have hC2 : C ≤ 30000000000 := by omega
      have HST := Lib.hid hst
      clear hst hqe hLe hCe hle
      by_cases h10 : q = 10
      · subst h10
        go_wp2
        refine ⟨⟨j + 1, by omega, by go_num, by rw [HST.out]; simp, by rw [HST.out]; simp⟩, ?_⟩
        simp [intOf]; omega
      · have t10 : ((q : Int) == 10) = false := by simp; omega
        have t10' : (q == 10) = false := by simp; omega
        go_wp2
        refine ⟨⟨j + 1, by omega, by go_num, by rw [HST.out]; simp [h10], by rw [HST.out]; simp [h10]⟩, ?_⟩
        simp [intOf]; omega
    · obtain rfl : j = m := by omega
      go_wp2
      go_ret2
      exact ⟨rfl, rfl⟩
end Go.Proofs.YtldbnfbfhbkclaaDoor
