/-
  Chapter 6: the program's numerals: strconv.FormatUint at base 16.
-/
import Derived.Test.YtldbnfbfhbkclaaDoorLxF
namespace Go.Proofs.YtldbnfbfhbkclaaDoor
open Go.RowKit Go.Shelf Go.Sort

theorem pow2_any (w : World) : Calls Tryd.prog 93 #[.int .i64 16] w fun e w' => e = .returned (.bool true) ∧ w = w' := by
  go_enter Tryd.func93, Tryd.ntmps93
  have hb : bits .and .i64 16 15 = 0 := by decide
  go_wp2
  go_ret
  exact ⟨rfl, rfl⟩
theorem tz64_any (w : World) (h : w.cell? ⟨5, 15, none⟩ = some (.int .u8 4)) : Calls Tryd.prog 97 #[.int .u64 16] w fun e w' => e = .returned (.int .i64 4) ∧ w = w' := by
  go_enter Tryd.func97, Tryd.ntmps97
  have h1 : IntKind.u64.wrap (-16) = 18446744073709551600 := by decide
  have h2 : bits .and .u64 16 18446744073709551600 = 16 := by decide
  have h3 : IntKind.u64.wrap 4573923408821661840 = 4573923408821661840 := by decide
  go_wp2
  go_ret
  exact ⟨rfl, rfl⟩
theorem tz_any (w : World) (h : w.cell? ⟨5, 15, none⟩ = some (.int .u8 4)) : Calls Tryd.prog 94 #[.int .u64 16] w fun e w' => e = .returned (.int .i64 4) ∧ w = w' := by
  go_enter Tryd.func94, Tryd.ntmps94
  go_wp2_with (fail)
  refine (tz64_any w h).mono ?_
  rintro e w' ⟨rfl, rfl⟩
  go_wp2_with (fail)
  go_ret
  exact ⟨rfl, rfl⟩
theorem acc_step {A : Array Value} {acc : List UInt8} {i : Nat} (c : UInt8) (hs : A.size = 65) (hi : i + 1 ≤ 65) (hl : acc.length = 65 - (i + 1)) (h : ∀ (j : Nat) (b : UInt8), acc[j]? = some b → A[i + 1 + j]? = some (.int .u8 (b.toNat : Int))) :
    (A.setIfInBounds i (.int .u8 (c.toNat : Int))).size = 65 ∧ (c :: acc).length = 65 - i ∧ ∀ (j : Nat) (b : UInt8), (c :: acc)[j]? = some b → (A.setIfInBounds i (.int .u8 (c.toNat : Int)))[i + j]? = some (.int .u8 (b.toNat : Int)) := by
  refine ⟨by simpa using hs, by simp; omega, fun j b hj => ?_⟩
  cases j with
  | zero =>
    simp only [List.getElem?_cons_zero, Option.some.injEq] at hj
    subst hj
    rw [Nat.add_zero, Array.getElem?_setIfInBounds_self_of_lt (by omega)]
  | succ j =>
    rw [Array.getElem?_setIfInBounds_ne (by omega), show i + (j + 1) = i + 1 + j from by omega]
    exact h j b (by simpa using hj)
theorem hexs36_ix (d : Nat) (h : d < 16) (h' : d < (ByteArray.mk #[48, 49, 50, 51, 52, 53, 54, 55, 56, 57, 97, 98, 99, 100, 101, 102, 103, 104, 105, 106, 107, 108, 109, 110, 111, 112, 113, 114, 115, 116, 117, 118, 119, 120, 121, 122]).size) : (ByteArray.mk #[48, 49, 50, 51, 52, 53, 54, 55, 56, 57, 97, 98, 99, 100, 101, 102, 103, 104, 105, 106, 107, 108, 109, 110, 111, 112, 113, 114, 115, 116, 117, 118, 119, 120, 121, 122])[d]'h' = dch d := by
  have : ∀ d : Fin 16, (ByteArray.mk #[48, 49, 50, 51, 52, 53, 54, 55, 56, 57, 97, 98, 99, 100, 101, 102, 103, 104, 105, 106, 107, 108, 109, 110, 111, 112, 113, 114, 115, 116, 117, 118, 119, 120, 121, 122])[d.val]'(Nat.lt_trans d.isLt (by decide)) = dch d.val := by decide +kernel
  exact this ⟨d, h⟩
theorem hexs36_at (d : Nat) (h : d < 16) : (#[48, 49, 50, 51, 52, 53, 54, 55, 56, 57, 97, 98, 99, 100, 101, 102, 103, 104, 105, 106, 107, 108, 109, 110, 111, 112, 113, 114, 115, 116, 117, 118, 119, 120, 121, 122] : Array UInt8)[d]? = some (dch d) := by
  have : ∀ d : Fin 16, (#[48, 49, 50, 51, 52, 53, 54, 55, 56, 57, 97, 98, 99, 100, 101, 102, 103, 104, 105, 106, 107, 108, 109, 110, 111, 112, 113, 114, 115, 116, 117, 118, 119, 120, 121, 122] : Array UInt8)[d.val]? = some (dch d.val) := by decide +kernel
  exact this ⟨d, h⟩
set_option maxRecDepth 100000 in
set_option maxHeartbeats 6400000 in
theorem fmtBits_any (u : Nat) (hu64 : u < 18446744073709551616) (w : World) (h : w.cell? ⟨5, 15, none⟩ = some (.int .u8 4)) :
    Calls Tryd.prog 85 #[.slice none 0 0, .int .u64 (u : Int), .int .i64 16, .bool false, .bool false] w fun e w' => e = .returned (.tuple #[.slice none 0 0, .string ⟨(digs 16 u).toArray⟩]) ∧ Below w.heap.size w w' := by
  go_enter Tryd.func85, Tryd.ntmps85
  go_wp2_with (fail)
  refine (pow2_any _).mono ?_
  rintro e w' ⟨rfl, rfl⟩
  go_wp2_with (fail)
  have hlt5 : 5 < w.heap.size := Lib.lt_of_cell h
  have hbel : Below w.heap.size w (w.alloc (.cells Tryd.zeroCells116 116)) := (Below.refl _ w).alloc (Nat.le_refl _) _
  have h' := (hbel.cell (show (⟨5, 15, none⟩ : Addr).block < w.heap.size from hlt5)).trans h
  refine (tz_any _ h').mono ?_
  rintro e w' ⟨rfl, rfl⟩
  have hrow : (w.alloc (.cells Tryd.zeroCells116 116)).heap[w.heap.size]? = some (.cells Tryd.zeroCells116 116 (0, 0)) := heap_alloc_new w _
  have hsz : (Tryd.zeroCells116).size = 65 := by rfl
  obtain ⟨Z, hZ⟩ : ∃ Z, Z = Tryd.zeroCells116 := ⟨_, rfl⟩
  rw [← hZ] at hbel hrow hsz
  obtain ⟨W0, hW0⟩ : ∃ W0, W0 = w.alloc (.cells Z 116) := ⟨_, rfl⟩
  rw [← hZ, ← hW0]
  rw [← hW0] at hbel hrow
  have HR := Lib.hid hrow; have HB := Lib.hid hbel
  clear hW0 hZ hrow hbel h h' hlt5
  go_wp2_with (fail)
  go_loopw [1, 13] (fun vx vi wr => ∃ (x i : Nat) (A : Array Value) (acc : List UInt8), vx = .int .u64 (x : Int) ∧ vi = .int .i64 (i : Int) ∧ x < 18446744073709551616 ∧ i ≤ 65 ∧ Hid (wr.heap[w.heap.size]? = some (.cells A 116 (0, 0)) ∧ A.size = 65 ∧ Below w.heap.size w wr) ∧ Hid (acc.length = 65 - i ∧ (∀ (j : Nat) (b : UInt8), acc[j]? = some b → A[i + j]? = some (.int .u8 (b.toNat : Int))) ∧ digs 16 u = digs 16 x ++ acc)) (fun vx _ _ => (intOf vx).toNat)
  case atStart => exact ⟨u, 65, Z, [], rfl, rfl, hu64, by omega, Lib.hid ⟨HR.out, hsz, HB.out⟩, Lib.hid ⟨rfl, fun j b hj => by simp at hj, by simp⟩⟩
  case round =>
    obtain ⟨x, i, A, acc, rfl, rfl, hx, hi, HA, HD⟩ := hrel
    have hlen := digs_len 16 (by omega) 16 u (by omega) (by omega)
    rw [HD.out.2.2, List.length_append] at hlen
    have hd1 : 1 ≤ (digs 16 x).length := by cases hd : digs 16 x with | nil => exact absurd hd (digs_ne 16 x) | cons a t => simp
    have hi49 : 50 ≤ i := by have := HD.out.1; omega
    obtain ⟨i', hi'⟩ : ∃ i', i = i' + 1 := ⟨i - 1, by omega⟩
    subst hi'
    have hcell : ∀ v, A[i']? = some v → wr.cell? ⟨w.heap.size, i', none⟩ = some v := fun v hv => by rw [cell_of_row _ _ _ _ _ _ HA.out.1]; exact hv
    obtain ⟨v0, hv0⟩ : ∃ v, A[i']? = some v := ⟨A[i']'(by rw [HA.out.2.1]; omega), Array.getElem?_eq_getElem _⟩
    have hc := hcell v0 hv0
    have hfz := frozen_of_row wr w.heap.size i' _ _ HA.out.1
    have i1 : (0 : Int) ≤ (i' : Int) := by omega
    have i2 : (i' : Int) < 65 := by omega
    clear hcell hv0 hlen hd1
    have wI : IntKind.i64.wrap (((i' + 1 : Nat) : Int) - 1) = (i' : Int) := by rw [IntKind.wrap_i64]; omega
    by_cases hlt : 16 ≤ x
    · have t1 : decide (16 ≤ (x : Int)) = true := by simp; omega
      have t1' : decide (16 ≤ x) = true := by simp; omega
      have hand : bits .and .u64 (x : Int) 15 = ((x % 16 : Nat) : Int) := by
        have h1 := bits_and_u64_nat x 15 hx (by omega)
        rw [show x &&& 15 = x % 16 from Nat.and_two_pow_sub_one_eq_mod x 4] at h1
        exact h1
      have hr16 : x % 16 < 16 := by omega
      obtain ⟨r, hr⟩ : ∃ r, r = x % 16 := ⟨_, rfl⟩
      rw [← hr] at hand hr16
      have hh := hexs36_at r hr16
      have HRR := Lib.hid hr
      clear hr
      go_wp2_with (fail)
      rw [hexs36_ix r hr16]
      obtain ⟨s1, s2, s3⟩ := acc_step (dch r) HA.out.2.1 hi HD.out.1 HD.out.2.1
      refine ⟨⟨x / 16, i', A.setIfInBounds i' (.int .u8 ((dch r).toNat : Int)), dch r :: acc, by simp, rfl, by omega, by omega, Lib.hid ⟨?_, s1, HA.out.2.2.setCell (Nat.le_refl _) _⟩, Lib.hid ⟨s2, s3, ?_⟩⟩, by simp [intOf]; omega⟩
      · exact Lib.heap_setCell_same HA.out.1 _
      · rw [HD.out.2.2, digs_big hlt (by omega), ← HRR.out, List.append_assoc]; rfl
    · have t1 : decide (16 ≤ (x : Int)) = false := by simp; omega
      have t1' : decide (16 ≤ x) = false := by simp; omega
      have hr16 : x < 16 := by omega
      have hh := hexs36_ix x hr16
      obtain ⟨s1, s2, s3⟩ := acc_step (dch x) HA.out.2.1 hi HD.out.1 HD.out.2.1
      obtain ⟨W9, hW9⟩ : ∃ W9, W9 = wr.setCell ⟨w.heap.size, i', none⟩ (.int .u8 ((dch x).toNat : Int)) := ⟨_, rfl⟩
      have hrow9 : W9.heap[w.heap.size]? = some (.cells (A.setIfInBounds i' (.int .u8 ((dch x).toNat : Int))) 116 (0, 0)) := by rw [hW9]; exact Lib.heap_setCell_same HA.out.1 _
      have hb9 : Below w.heap.size w W9 := by rw [hW9]; exact HA.out.2.2.setCell (Nat.le_refl _) _
      have hsl1 : ∀ W, (Instr.sliceAt 116 (.pointer (some ⟨w.heap.size, 0, none⟩)) (some (.int .i64 (i' : Int))) none none).run Tryd.prog W = .ok (.slice (some ⟨w.heap.size, i', none⟩) (65 - i') (65 - i')) W := fun W => by
        rw [run_sliceAt_array_l W 116 ⟨w.heap.size, 0, none⟩ (Tryd.underlying116) .i64 (i' : Int) (by omega) (by show (i' : Int) ≤ ((65 : Nat) : Int); omega)]
        go_simp
        omega
      have hcv : (convert 88 9 (.slice (some ⟨w.heap.size, i', none⟩) (65 - i') (65 - i'))).run Tryd.prog W9 = .ok (.string ⟨(dch x :: acc).toArray⟩) W9 := by
        have h := run_convert_bytes_back (P := Tryd.prog) W9 88 9 5 ⟨w.heap.size, i', none⟩ (65 - i') (dch x :: acc) Tryd.underlying88 Tryd.underlying5 Tryd.underlying9 (fun j hj => by
          rw [Lib.add_plain, cell_of_row _ _ _ _ _ _ hrow9]
          exact s3 j _ (List.getElem?_eq_getElem hj))
        rw [s2] at h
        exact h
      have HF : Hid (digs 16 u = dch x :: acc) := Lib.hid (by rw [HD.out.2.2, digs_small hr16]; rfl)
      have HB9 := Lib.hid hb9; have HW9 := Lib.hid hW9
      rw [hW9] at hcv
      clear hW9 hrow9 hb9 s1 s2 s3
      go_wp2_with (fail)
      go_ret2
      refine ⟨by rw [HF.out]; rfl, ?_⟩
      have := HB9.out
      rw [HW9.out] at this
      exact this

theorem fmt16_any (u : Nat) (hu64 : u < 18446744073709551616) (w : World) (h : w.cell? ⟨5, 15, none⟩ = some (.int .u8 4)) :
    Calls Tryd.prog 73 #[.int .u64 (u : Int), .int .i64 16] w fun e w' => e = .returned (.string ⟨(digs 16 u).toArray⟩) ∧ Below w.heap.size w w' := by
  go_enter Tryd.func73, Tryd.ntmps73
  go_wp2_with (fail)
  refine (fmtBits_any u hu64 w h).mono ?_
  rintro e w' ⟨rfl, hb⟩
  go_wp2_with (fail)
  go_ret
  exact ⟨rfl, hb⟩
theorem pubFmt16_any (u : Nat) (hu64 : u < 18446744073709551616) (w : World) (h : w.cell? ⟨5, 15, none⟩ = some (.int .u8 4)) :
    Calls Tryd.prog 66 #[.int .u64 (u : Int), .int .i64 16] w fun e w' => e = .returned (.string ⟨(digs 16 u).toArray⟩) ∧ Below w.heap.size w w' := by
  go_enter Tryd.func66, Tryd.ntmps66
  go_wp2_with (fail)
  refine (fmt16_any u hu64 w h).mono ?_
  rintro e w' ⟨rfl, hb⟩
  go_wp2_with (fail)
  go_ret
  exact ⟨rfl, hb⟩
theorem numHex_any (u : Nat) (hu64 : u < 18446744073709551616) (w : World) (h : w.cell? ⟨5, 15, none⟩ = some (.int .u8 4)) :
    Calls Tryd.prog 62 #[.int .u64 (u : Int)] w fun e w' => e = .returned (.string ⟨(48 :: 120 :: digs 16 u).toArray⟩) ∧ Below w.heap.size w w' := by
  have hl := digs_len 16 (by omega) 16 u (by omega) (by omega)
  have he : (ByteArray.mk #[48, 120]) ++ ⟨(digs 16 u).toArray⟩ = ⟨(48 :: 120 :: digs 16 u).toArray⟩ := by
    apply ByteArray.ext
    rw [ByteArray.data_append]
    simp
  obtain ⟨t, ht⟩ : ∃ t : ByteArray, t = ⟨(digs 16 u).toArray⟩ := ⟨_, rfl⟩
  have hsz : t.size ≤ 16 := by rw [ht]; exact hl
  have hac : ¬ 9223372036854775807 < 2 + t.size := by omega
  rw [← ht] at he
  rw [← he]
  have HT := Lib.hid ht
  clear ht he hl
  go_enter Tryd.func62, Tryd.ntmps62
  go_wp2_with (fail)
  refine (pubFmt16_any u hu64 w h).mono ?_
  rintro e w1 ⟨rfl, hb⟩
  rw [← HT.out]
  go_wp2_with (fail)
  go_ret
  exact ⟨rfl, hb⟩
end Go.Proofs.YtldbnfbfhbkclaaDoor
