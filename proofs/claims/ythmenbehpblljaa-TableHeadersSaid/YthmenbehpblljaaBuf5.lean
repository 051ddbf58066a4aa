/-
  The builder's methods once more, with a frame that reaches above the builder: what is not the builder and no row of bytes stands as it stood.
-/
import Derived.Test.YthmenbehpblljaaBuf2
import Derived.Lib.OthersKept
import Derived.RangeFuncOwn
namespace Go.Proofs.Ythmenbehpblljaa
set_option linter.unusedVariables false
open Go.RowKit

structure BK (n₀ B : Nat) (w w' : World) : Prop where
  below : Below n₀ w w'
  others : Lib.OthersKept 5 (some B) w w'
theorem BK.refl (n₀ B : Nat) (w : World) : BK n₀ B w w := ⟨Below.refl _ _, Lib.OthersKept.refl _ _ _⟩
theorem BK.trans {n₀ B : Nat} {a b c : World} (h : BK n₀ B a b) (k : BK n₀ B b c) : BK n₀ B a c := ⟨h.1.trans k.1, h.2.trans k.2⟩
theorem BK.alloc {n₀ B : Nat} {a b : World} (h : BK n₀ B a b) (hz : n₀ ≤ b.heap.size) (o : Obj) : BK n₀ B a (b.alloc o) := ⟨h.1.alloc hz o, h.2.alloc o⟩
theorem BK.drewN {n₀ B : Nat} {a b : World} (h : BK n₀ B a b) (n : Nat) : BK n₀ B a (b.drewN n) := ⟨below_drewN h.1 n, h.2⟩
theorem BK.size {n₀ B : Nat} {a b : World} (h : BK n₀ B a b) : a.heap.size ≤ b.heap.size := h.1.size
/-- A block that is not the builder and no row of bytes. -/
theorem BK.row {n₀ B : Nat} {a b : World} (h : BK n₀ B a b) {k : Nat} {cs : Array Value} {t : TypeId} {fr : Nat × Nat} (hk : a.heap[k]? = some (.cells cs t fr)) (hB : k ≠ B) (ht : t ≠ 5) : b.heap[k]? = some (.cells cs t fr) :=
  h.2 k _ hk (by simpa using hB) (fun c fz e => by cases e; exact ht rfl)
theorem BK.keeps {n₀ B : Nat} {a b : World} (h : BK n₀ B a b) {cs : Array Value} {t : TypeId} {fr : Nat × Nat} (hk : a.heap[B]? = some (.cells cs t fr)) : KeepsOthers a b :=
  ⟨h.1.size, fun k o ho hc => h.2 k o ho (fun e => by cases e; rw [hk] at ho; cases ho; cases hc) (fun c fz e => by subst e; cases hc)⟩

theorem IsBuf.storek {n₀ B : Nat} {xs ys : List Value} {w w1 : World} {a : Option Addr} {n c : Nat} (h : IsBuf n₀ B xs w) (hc : w.cell? ⟨B, 0, none⟩ = some (.slice a xs.length c)) (hw : w.grownBy w1 (Value.ownBlock (.slice a xs.length c)) ) {a2 : Option Addr} {c2 : Nat} (hv : w1.ownsRow n₀ 5 1 (.slice a2 n c2) n ys) (hn : n = ys.length) :
    IsBuf n₀ B ys (w1.setCell ⟨B, 0, none⟩ (.slice a2 n c2)) ∧ BK n₀ B w (w1.setCell ⟨B, 0, none⟩ (.slice a2 n c2)) := by
  obtain ⟨h1, h2⟩ := IsBuf.store h hc hw hv hn
  refine ⟨h1, h2, ?_⟩
  obtain ⟨a', c', hb, hB, ho⟩ := h
  have hc' := cell_of_one hb
  rw [hc'] at hc
  obtain ⟨rfl, rfl⟩ : a' = a ∧ c' = c := by simpa using hc
  refine ((Lib.OthersKept.refl _ _ w).grown hw fun g hg => ?_).setCell ⟨B, 0, none⟩ rfl _
  rcases ho.2 with ⟨he, _⟩ | ⟨g', cap, cur, he, _, hgg, _⟩
  · rw [he] at hg; simp [Value.ownBlock] at hg
  · rw [he] at hg
    simp [Value.ownBlock] at hg
    subst hg
    exact ⟨cur, (0, 0), hgg⟩

set_option maxRecDepth 100000 in
theorem add_k (n₀ B : Nat) (ad : Addr) (c : Nat) (xs ys : List Value) (w : World) (h : IsBuf n₀ B xs w) (hs : Src w (some ad) ys) (hx : xs.length ≤ 100000000) (hy : ys.length ≤ 100000000) :
    Calls Try.prog 47 #[.pointer (some ⟨B, 0, none⟩), .slice (some ad) ys.length c] w fun e w' => e = .returned (.tuple #[]) ∧ IsBuf n₀ B (xs ++ ys) w' ∧ BK n₀ B w w' := by
  have HI := Lib.hid h
  obtain ⟨a1, c1, hc, hf, hB, hBs, hown, hne⟩ := h.open
  obtain ⟨i0, hi, hz0, hz1, hz2⟩ := info_parts infoU8
  obtain ⟨h0, h1, h2⟩ := hs
  have hc1 : (xs.length + ys.length) * 1 ≤ 140737488355328 := by omega
  have hc3 : xs.length + ys.length ≤ maxLen := by unfold maxLen; omega
  have hc2 : n₀ ≤ w.heap.size := by omega
  have HC1 := Lib.hid hc1; have HC3 := Lib.hid hc3
  have H1 := Lib.hid h1; clear hc1 hc3 h1
  have H2 := Lib.hid (h2 ad rfl); clear h2 h0
  go_enter Try.func47, Try.ntmps47
  go_wp2_with (at_builtin; (refine wpList_append_own _ rfl _ _ 53 rfl n₀ 5 i0 (.int .u8 0) 1 1 Try.underlying53 hi hz0 hz1 hz2 rfl (by decide) _ _ xs rfl hown ad ys.length c ys rfl (by simp) H2.out H1.out HC3.out HC1.out hc2 ?_); intro v' w1 hown' hgrow hnil; obtain ⟨a2, c2, rfl⟩ := ownsRow_slice hown'; obtain ⟨hc1, hf1⟩ := cell_grown hc hf hBs hne hgrow; have HF := Lib.hid (IsBuf.storek HI.out hc hgrow hown' (by simp)); clear hgrow hown' hnil)
  go_end0
  exact ⟨rfl, HF.out⟩

set_option maxHeartbeats 1000000 in
set_option maxRecDepth 100000 in
theorem put16_k (n₀ B : Nat) (x : Int) (xs : List Value) (w : World) (h : IsBuf n₀ B xs w) (h0 : 0 ≤ x) (h1 : x ≤ 65535) (hx : xs.length ≤ 90000000) :
    Calls Try.prog 56 #[.pointer (some ⟨B, 0, none⟩), .int .u16 x, .int .i64 2, .func (.func 47) #[] #[]] w fun e w' => e = .returned (.tuple #[]) ∧ IsBuf n₀ B (xs ++ leVals x 2) w' ∧ BK n₀ B w w' := by
  have HI := Lib.hid h; clear h
  go_enter Try.func56, Try.ntmps56
  go_wp2
  go_loopw [10] (fun i wr => ∃ k : Nat, k ≤ 2 ∧ i = .int .i64 k ∧ Hid (IsBuf n₀ B (xs ++ leVals x k) wr) ∧ Hid (BK n₀ B w wr)) (fun i _ => 2 - (intOf i).toNat)
  case atStart => exact ⟨0, by omega, rfl, by simpa [leVals] using HI, BK.refl _ _ _⟩
  case round =>
    obtain ⟨k, hk, rfl, HB, HL⟩ := hrel
    by_cases hlt : k < 2
    · have hz : n₀ ≤ wr.heap.size := HB.out.le
      have hl : (xs ++ leVals x k).length ≤ 100000000 := by rw [List.length_append, leVals_length]; omega
      have HLL := Lib.hid hl; clear hl
      go_wp2_with (go_at_call 47; go_loud (refine (add_k n₀ B ⟨wr.heap.size, 0, none⟩ 1 _ [.int .u8 (x / 2 ^ (8 * k) % 256)] _ (HB.out.alloc _) (src_box rfl) HLL.out (by simp)).mono ?_); rintro e w1 ⟨rfl, hb1, hl1⟩; have HB1 := Lib.hid hb1; have HL1 := Lib.hid ((HL.out.alloc hz _).trans hl1); clear hb1 hl1)
      go_roundw
      case rel => exact ⟨k + 1, by omega, by go_num, by rw [leVals_succ, ← List.append_assoc]; exact HB1, HL1⟩
      case measure => simp [intOf]; omega
    · obtain rfl : k = 2 := by omega
      go_wp2
      go_end0
      exact ⟨rfl, HB.out, HL.out⟩

theorem u16_k (n₀ B : Nat) (x : Int) (xs : List Value) (w : World) (h : IsBuf n₀ B xs w) (h0 : 0 ≤ x) (h1 : x ≤ 65535) (hx : xs.length ≤ 90000000) :
    Calls Try.prog 39 #[.pointer (some ⟨B, 0, none⟩), .int .u16 x] w fun e w' => e = .returned (.tuple #[]) ∧ IsBuf n₀ B (xs ++ leVals x 2) w' ∧ BK n₀ B w w' := by
  have HI := Lib.hid h; clear h
  go_enter Try.func39, Try.ntmps39
  go_wp2_with (go_at_call 56; refine (put16_k n₀ B _ xs _ HI.out h0 h1 hx).mono ?_; rintro e w1 ⟨rfl, hb1, hl1⟩; have HB1 := Lib.hid hb1; have HL1 := Lib.hid hl1; clear hb1 hl1)
  go_end0
  exact ⟨rfl, HB1.out, HL1.out⟩

set_option maxHeartbeats 1000000 in
set_option maxRecDepth 100000 in
theorem put32_k (n₀ B : Nat) (x : Int) (xs : List Value) (w : World) (h : IsBuf n₀ B xs w) (h0 : 0 ≤ x) (h1 : x ≤ 4294967295) (hx : xs.length ≤ 90000000) :
    Calls Try.prog 62 #[.pointer (some ⟨B, 0, none⟩), .int .u32 x, .int .i64 4, .func (.func 47) #[] #[]] w fun e w' => e = .returned (.tuple #[]) ∧ IsBuf n₀ B (xs ++ leVals x 4) w' ∧ BK n₀ B w w' := by
  have HI := Lib.hid h; clear h
  go_enter Try.func62, Try.ntmps62
  go_wp2
  go_loopw [10] (fun i wr => ∃ k : Nat, k ≤ 4 ∧ i = .int .i64 k ∧ Hid (IsBuf n₀ B (xs ++ leVals x k) wr) ∧ Hid (BK n₀ B w wr)) (fun i _ => 4 - (intOf i).toNat)
  case atStart => exact ⟨0, by omega, rfl, by simpa [leVals] using HI, BK.refl _ _ _⟩
  case round =>
    obtain ⟨k, hk, rfl, HB, HL⟩ := hrel
    by_cases hlt : k < 4
    · have hz : n₀ ≤ wr.heap.size := HB.out.le
      have hl : (xs ++ leVals x k).length ≤ 100000000 := by rw [List.length_append, leVals_length]; omega
      have HLL := Lib.hid hl; clear hl
      go_wp2_with (go_at_call 47; go_loud (refine (add_k n₀ B ⟨wr.heap.size, 0, none⟩ 1 _ [.int .u8 (x / 2 ^ (8 * k) % 256)] _ (HB.out.alloc _) (src_box rfl) HLL.out (by simp)).mono ?_); rintro e w1 ⟨rfl, hb1, hl1⟩; have HB1 := Lib.hid hb1; have HL1 := Lib.hid ((HL.out.alloc hz _).trans hl1); clear hb1 hl1)
      go_roundw
      case rel => exact ⟨k + 1, by omega, by go_num, by rw [leVals_succ, ← List.append_assoc]; exact HB1, HL1⟩
      case measure => simp [intOf]; omega
    · obtain rfl : k = 4 := by omega
      go_wp2
      go_end0
      exact ⟨rfl, HB.out, HL.out⟩

theorem u32_k (n₀ B : Nat) (x : Int) (xs : List Value) (w : World) (h : IsBuf n₀ B xs w) (h0 : 0 ≤ x) (h1 : x ≤ 4294967295) (hx : xs.length ≤ 90000000) :
    Calls Try.prog 48 #[.pointer (some ⟨B, 0, none⟩), .int .u32 x] w fun e w' => e = .returned (.tuple #[]) ∧ IsBuf n₀ B (xs ++ leVals x 4) w' ∧ BK n₀ B w w' := by
  have HI := Lib.hid h; clear h
  go_enter Try.func48, Try.ntmps48
  go_wp2_with (go_at_call 62; refine (put32_k n₀ B _ xs _ HI.out h0 h1 hx).mono ?_; rintro e w1 ⟨rfl, hb1, hl1⟩; have HB1 := Lib.hid hb1; have HL1 := Lib.hid hl1; clear hb1 hl1)
  go_end0
  exact ⟨rfl, HB1.out, HL1.out⟩

set_option maxHeartbeats 1000000 in
set_option maxRecDepth 100000 in
theorem put64_k (n₀ B : Nat) (x : Int) (xs : List Value) (w : World) (h : IsBuf n₀ B xs w) (h0 : 0 ≤ x) (h1 : x ≤ 18446744073709551615) (hx : xs.length ≤ 90000000) :
    Calls Try.prog 63 #[.pointer (some ⟨B, 0, none⟩), .int .u64 x, .int .i64 8, .func (.func 47) #[] #[]] w fun e w' => e = .returned (.tuple #[]) ∧ IsBuf n₀ B (xs ++ leVals x 8) w' ∧ BK n₀ B w w' := by
  have HI := Lib.hid h; clear h
  go_enter Try.func63, Try.ntmps63
  go_wp2
  go_loopw [10] (fun i wr => ∃ k : Nat, k ≤ 8 ∧ i = .int .i64 k ∧ Hid (IsBuf n₀ B (xs ++ leVals x k) wr) ∧ Hid (BK n₀ B w wr)) (fun i _ => 8 - (intOf i).toNat)
  case atStart => exact ⟨0, by omega, rfl, by simpa [leVals] using HI, BK.refl _ _ _⟩
  case round =>
    obtain ⟨k, hk, rfl, HB, HL⟩ := hrel
    by_cases hlt : k < 8
    · have hz : n₀ ≤ wr.heap.size := HB.out.le
      have hl : (xs ++ leVals x k).length ≤ 100000000 := by rw [List.length_append, leVals_length]; omega
      have HLL := Lib.hid hl; clear hl
      go_wp2_with (go_at_call 47; go_loud (refine (add_k n₀ B ⟨wr.heap.size, 0, none⟩ 1 _ [.int .u8 (x / 2 ^ (8 * k) % 256)] _ (HB.out.alloc _) (src_box rfl) HLL.out (by simp)).mono ?_); rintro e w1 ⟨rfl, hb1, hl1⟩; have HB1 := Lib.hid hb1; have HL1 := Lib.hid ((HL.out.alloc hz _).trans hl1); clear hb1 hl1)
      go_roundw
      case rel => exact ⟨k + 1, by omega, by go_num, by rw [leVals_succ, ← List.append_assoc]; exact HB1, HL1⟩
      case measure => simp [intOf]; omega
    · obtain rfl : k = 8 := by omega
      go_wp2
      go_end0
      exact ⟨rfl, HB.out, HL.out⟩

theorem u64_k (n₀ B : Nat) (x : Int) (xs : List Value) (w : World) (h : IsBuf n₀ B xs w) (h0 : 0 ≤ x) (h1 : x ≤ 18446744073709551615) (hx : xs.length ≤ 90000000) :
    Calls Try.prog 49 #[.pointer (some ⟨B, 0, none⟩), .int .u64 x] w fun e w' => e = .returned (.tuple #[]) ∧ IsBuf n₀ B (xs ++ leVals x 8) w' ∧ BK n₀ B w w' := by
  have HI := Lib.hid h; clear h
  go_enter Try.func49, Try.ntmps49
  go_wp2_with (go_at_call 63; refine (put64_k n₀ B _ xs _ HI.out h0 h1 hx).mono ?_; rintro e w1 ⟨rfl, hb1, hl1⟩; have HB1 := Lib.hid hb1; have HL1 := Lib.hid hl1; clear hb1 hl1)
  go_end0
  exact ⟨rfl, HB1.out, HL1.out⟩

end Go.Proofs.Ythmenbehpblljaa
