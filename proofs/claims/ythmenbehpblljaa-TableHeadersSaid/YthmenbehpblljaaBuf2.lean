/-
  The builder's methods that append bytes and numbers.
-/
import Derived.Test.YthmenbehpblljaaBuf
namespace Go.Proofs.Ythmenbehpblljaa
set_option linter.unusedVariables false
open Go.RowKit

set_option maxRecDepth 100000 in
theorem add_any (n₀ B : Nat) (ad : Addr) (c : Nat) (xs ys : List Value) (w : World) (h : IsBuf n₀ B xs w) (hs : Src w (some ad) ys) (hx : xs.length ≤ 100000000) (hy : ys.length ≤ 100000000) :
    Calls Try.prog 47 #[.pointer (some ⟨B, 0, none⟩), .slice (some ad) ys.length c] w fun e w' => e = .returned (.tuple #[]) ∧ IsBuf n₀ B (xs ++ ys) w' ∧ Below n₀ w w' := by
  have HI := Lib.hid h
  obtain ⟨a1, c1, hc, hf, hB, hBs, hown, hne⟩ := h.open
  obtain ⟨i0, hi, hz0, hz1, hz2⟩ := info_parts infoU8
  obtain ⟨h0, h1, h2⟩ := hs
  have hc1 : (xs.length + ys.length) * 1 ≤ 140737488355328 := by omega
  have hc3 : xs.length + ys.length ≤ maxLen := by unfold maxLen; omega
  have hc2 : n₀ ≤ w.heap.size := by omega
  have HC1 := Lib.hid hc1; have HC3 := Lib.hid hc3
  have H1 := Lib.hid h1; clear hc1 hc3 h1
  have H2 := Lib.hid (h2 ad rfl); clear h2 h0
  go_enter Try.func47, Try.ntmps47
  go_wp2_with (at_builtin; (refine wpList_append_own _ rfl _ _ 53 rfl n₀ 5 i0 (.int .u8 0) 1 1 Try.underlying53 hi hz0 hz1 hz2 rfl (by decide) _ _ xs rfl hown ad ys.length c ys rfl (by simp) H2.out H1.out HC3.out HC1.out hc2 ?_); intro v' w1 hown' hgrow hnil; obtain ⟨a2, c2, rfl⟩ := ownsRow_slice hown'; obtain ⟨hc1, hf1⟩ := cell_grown hc hf hBs hne hgrow; have HF := Lib.hid (IsBuf.store HI.out hc hgrow hown' (by simp)); clear hgrow hown' hnil)
  go_end0
  exact ⟨rfl, HF.out⟩

theorem src_box {w : World} {v : Value} {t : TypeId} (h1 : v.oneCell' = true) : Src (w.alloc (.cells #[v] t)) (some ⟨w.heap.size, 0, none⟩) [v] := by
  refine ⟨fun h => (by cases h), fun u hu => ?_, fun ad had j u hu => ?_⟩
  · simp at hu; subst hu; exact h1
  · obtain rfl := Option.some.inj had
    cases j with
    | zero => simp at hu; subst hu; exact cell_newbox w v t
    | succ j => simp at hu

/-- The first n bytes of a number, the least one first. -/
def leVals (x : Int) (n : Nat) : List Value := (List.range n).map fun k => .int .u8 (x / 2 ^ (8 * k) % 256)
theorem leVals_length (x : Int) (n : Nat) : (leVals x n).length = n := by simp [leVals]
theorem leVals_succ (x : Int) (n : Nat) : leVals x (n + 1) = leVals x n ++ [.int .u8 (x / 2 ^ (8 * n) % 256)] := by simp [leVals, List.range_succ]

theorem IsBuf.le {n₀ B : Nat} {xs : List Value} {w : World} (h : IsBuf n₀ B xs w) : n₀ ≤ w.heap.size := by
  obtain ⟨a, c, hb, hB, _⟩ := h
  have := lt_of_block hb
  omega

set_option maxHeartbeats 1000000 in
set_option maxRecDepth 100000 in
theorem put16_any (n₀ B : Nat) (x : Int) (xs : List Value) (w : World) (h : IsBuf n₀ B xs w) (h0 : 0 ≤ x) (h1 : x ≤ 65535) (hx : xs.length ≤ 90000000) :
    Calls Try.prog 56 #[.pointer (some ⟨B, 0, none⟩), .int .u16 x, .int .i64 2, .func (.func 47) #[] #[]] w fun e w' => e = .returned (.tuple #[]) ∧ IsBuf n₀ B (xs ++ leVals x 2) w' ∧ Below n₀ w w' := by
  have HI := Lib.hid h; clear h
  go_enter Try.func56, Try.ntmps56
  go_wp2
  go_loopw [10] (fun i wr => ∃ k : Nat, k ≤ 2 ∧ i = .int .i64 k ∧ Hid (IsBuf n₀ B (xs ++ leVals x k) wr) ∧ Hid (Below n₀ w wr)) (fun i _ => 2 - (intOf i).toNat)
  case atStart => exact ⟨0, by omega, rfl, by simpa [leVals] using HI, Below.refl _ _⟩
  case round =>
    obtain ⟨k, hk, rfl, HB, HL⟩ := hrel
    by_cases hlt : k < 2
    · have hz : n₀ ≤ wr.heap.size := HB.out.le
      have hl : (xs ++ leVals x k).length ≤ 100000000 := by rw [List.length_append, leVals_length]; omega
      have HLL := Lib.hid hl; clear hl
      go_wp2_with (go_at_call 47; go_loud (refine (add_any n₀ B ⟨wr.heap.size, 0, none⟩ 1 _ [.int .u8 (x / 2 ^ (8 * k) % 256)] _ (HB.out.alloc _) (src_box rfl) HLL.out (by simp)).mono ?_); rintro e w1 ⟨rfl, hb1, hl1⟩; have HB1 := Lib.hid hb1; have HL1 := Lib.hid ((HL.out.alloc hz _).trans hl1); clear hb1 hl1)
      go_roundw
      case rel => exact ⟨k + 1, by omega, by go_num, by rw [leVals_succ, ← List.append_assoc]; exact HB1, HL1⟩
      case measure => simp [intOf]; omega
    · obtain rfl : k = 2 := by omega
      go_wp2
      go_end0
      exact ⟨rfl, HB.out, HL.out⟩

theorem u16_any (n₀ B : Nat) (x : Int) (xs : List Value) (w : World) (h : IsBuf n₀ B xs w) (h0 : 0 ≤ x) (h1 : x ≤ 65535) (hx : xs.length ≤ 90000000) :
    Calls Try.prog 39 #[.pointer (some ⟨B, 0, none⟩), .int .u16 x] w fun e w' => e = .returned (.tuple #[]) ∧ IsBuf n₀ B (xs ++ leVals x 2) w' ∧ Below n₀ w w' := by
  have HI := Lib.hid h; clear h
  go_enter Try.func39, Try.ntmps39
  go_wp2_with (go_at_call 56; refine (put16_any n₀ B _ xs _ HI.out h0 h1 hx).mono ?_; rintro e w1 ⟨rfl, hb1, hl1⟩; have HB1 := Lib.hid hb1; have HL1 := Lib.hid hl1; clear hb1 hl1)
  go_end0
  exact ⟨rfl, HB1.out, HL1.out⟩

set_option maxHeartbeats 1000000 in
set_option maxRecDepth 100000 in
theorem put32_any (n₀ B : Nat) (x : Int) (xs : List Value) (w : World) (h : IsBuf n₀ B xs w) (h0 : 0 ≤ x) (h1 : x ≤ 4294967295) (hx : xs.length ≤ 90000000) :
    Calls Try.prog 62 #[.pointer (some ⟨B, 0, none⟩), .int .u32 x, .int .i64 4, .func (.func 47) #[] #[]] w fun e w' => e = .returned (.tuple #[]) ∧ IsBuf n₀ B (xs ++ leVals x 4) w' ∧ Below n₀ w w' := by
  have HI := Lib.hid h; clear h
  go_enter Try.func62, Try.ntmps62
  go_wp2
  go_loopw [10] (fun i wr => ∃ k : Nat, k ≤ 4 ∧ i = .int .i64 k ∧ Hid (IsBuf n₀ B (xs ++ leVals x k) wr) ∧ Hid (Below n₀ w wr)) (fun i _ => 4 - (intOf i).toNat)
  case atStart => exact ⟨0, by omega, rfl, by simpa [leVals] using HI, Below.refl _ _⟩
  case round =>
    obtain ⟨k, hk, rfl, HB, HL⟩ := hrel
    by_cases hlt : k < 4
    · have hz : n₀ ≤ wr.heap.size := HB.out.le
      have hl : (xs ++ leVals x k).length ≤ 100000000 := by rw [List.length_append, leVals_length]; omega
      have HLL := Lib.hid hl; clear hl
      go_wp2_with (go_at_call 47; go_loud (refine (add_any n₀ B ⟨wr.heap.size, 0, none⟩ 1 _ [.int .u8 (x / 2 ^ (8 * k) % 256)] _ (HB.out.alloc _) (src_box rfl) HLL.out (by simp)).mono ?_); rintro e w1 ⟨rfl, hb1, hl1⟩; have HB1 := Lib.hid hb1; have HL1 := Lib.hid ((HL.out.alloc hz _).trans hl1); clear hb1 hl1)
      go_roundw
      case rel => exact ⟨k + 1, by omega, by go_num, by rw [leVals_succ, ← List.append_assoc]; exact HB1, HL1⟩
      case measure => simp [intOf]; omega
    · obtain rfl : k = 4 := by omega
      go_wp2
      go_end0
      exact ⟨rfl, HB.out, HL.out⟩

theorem u32_any (n₀ B : Nat) (x : Int) (xs : List Value) (w : World) (h : IsBuf n₀ B xs w) (h0 : 0 ≤ x) (h1 : x ≤ 4294967295) (hx : xs.length ≤ 90000000) :
    Calls Try.prog 48 #[.pointer (some ⟨B, 0, none⟩), .int .u32 x] w fun e w' => e = .returned (.tuple #[]) ∧ IsBuf n₀ B (xs ++ leVals x 4) w' ∧ Below n₀ w w' := by
  have HI := Lib.hid h; clear h
  go_enter Try.func48, Try.ntmps48
  go_wp2_with (go_at_call 62; refine (put32_any n₀ B _ xs _ HI.out h0 h1 hx).mono ?_; rintro e w1 ⟨rfl, hb1, hl1⟩; have HB1 := Lib.hid hb1; have HL1 := Lib.hid hl1; clear hb1 hl1)
  go_end0
  exact ⟨rfl, HB1.out, HL1.out⟩

set_option maxHeartbeats 1000000 in
set_option maxRecDepth 100000 in
theorem put64_any (n₀ B : Nat) (x : Int) (xs : List Value) (w : World) (h : IsBuf n₀ B xs w) (h0 : 0 ≤ x) (h1 : x ≤ 18446744073709551615) (hx : xs.length ≤ 90000000) :
    Calls Try.prog 63 #[.pointer (some ⟨B, 0, none⟩), .int .u64 x, .int .i64 8, .func (.func 47) #[] #[]] w fun e w' => e = .returned (.tuple #[]) ∧ IsBuf n₀ B (xs ++ leVals x 8) w' ∧ Below n₀ w w' := by
  have HI := Lib.hid h; clear h
  go_enter Try.func63, Try.ntmps63
  go_wp2
  go_loopw [10] (fun i wr => ∃ k : Nat, k ≤ 8 ∧ i = .int .i64 k ∧ Hid (IsBuf n₀ B (xs ++ leVals x k) wr) ∧ Hid (Below n₀ w wr)) (fun i _ => 8 - (intOf i).toNat)
  case atStart => exact ⟨0, by omega, rfl, by simpa [leVals] using HI, Below.refl _ _⟩
  case round =>
    obtain ⟨k, hk, rfl, HB, HL⟩ := hrel
    by_cases hlt : k < 8
    · have hz : n₀ ≤ wr.heap.size := HB.out.le
      have hl : (xs ++ leVals x k).length ≤ 100000000 := by rw [List.length_append, leVals_length]; omega
      have HLL := Lib.hid hl; clear hl
      go_wp2_with (go_at_call 47; go_loud (refine (add_any n₀ B ⟨wr.heap.size, 0, none⟩ 1 _ [.int .u8 (x / 2 ^ (8 * k) % 256)] _ (HB.out.alloc _) (src_box rfl) HLL.out (by simp)).mono ?_); rintro e w1 ⟨rfl, hb1, hl1⟩; have HB1 := Lib.hid hb1; have HL1 := Lib.hid ((HL.out.alloc hz _).trans hl1); clear hb1 hl1)
      go_roundw
      case rel => exact ⟨k + 1, by omega, by go_num, by rw [leVals_succ, ← List.append_assoc]; exact HB1, HL1⟩
      case measure => simp [intOf]; omega
    · obtain rfl : k = 8 := by omega
      go_wp2
      go_end0
      exact ⟨rfl, HB.out, HL.out⟩

theorem u64_any (n₀ B : Nat) (x : Int) (xs : List Value) (w : World) (h : IsBuf n₀ B xs w) (h0 : 0 ≤ x) (h1 : x ≤ 18446744073709551615) (hx : xs.length ≤ 90000000) :
    Calls Try.prog 49 #[.pointer (some ⟨B, 0, none⟩), .int .u64 x] w fun e w' => e = .returned (.tuple #[]) ∧ IsBuf n₀ B (xs ++ leVals x 8) w' ∧ Below n₀ w w' := by
  have HI := Lib.hid h; clear h
  go_enter Try.func49, Try.ntmps49
  go_wp2_with (go_at_call 63; refine (put64_any n₀ B _ xs _ HI.out h0 h1 hx).mono ?_; rintro e w1 ⟨rfl, hb1, hl1⟩; have HB1 := Lib.hid hb1; have HL1 := Lib.hid hl1; clear hb1 hl1)
  go_end0
  exact ⟨rfl, HB1.out, HL1.out⟩

end Go.Proofs.Ythmenbehpblljaa
