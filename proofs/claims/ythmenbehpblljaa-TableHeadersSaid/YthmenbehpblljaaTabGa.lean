/-
  The header is read: the fixed fields.
-/
import Derived.Test.YthmenbehpblljaaTabHd
import Derived.Laws.BytesArg
namespace Go.Proofs.Ythmenbehpblljaa
open Go.RowKit Go.Shelf

set_option maxRecDepth 100000 in
theorem bytesEqual_same (b1 o1 c1 b2 o2 c2 : Nat) (n : Nat) (l : List Int) (w : World) (hn : n = l.length) (h1 : ∀ j, j < n → w.cell? ⟨b1, o1 + j, none⟩ = some (.int .u8 (l.getD j 0))) (h2 : ∀ j, j < n → w.cell? ⟨b2, o2 + j, none⟩ = some (.int .u8 (l.getD j 0))) :
    Calls Try.prog 69 #[.slice (some ⟨b1, o1, none⟩) n c1, .slice (some ⟨b2, o2, none⟩) n c2] w fun e w' => e = .returned (.bool true) ∧ w = w' := by
  have k1 := run_convert_bytes_arg (P := Try.prog) w 53 5 Try.underlying53 Try.underlying5 b1 o1 n c1 l hn.symm h1 9 Try.underlying9
  have k2 := run_convert_bytes_arg (P := Try.prog) w 53 5 Try.underlying53 Try.underlying5 b2 o2 n c2 l hn.symm h2 9 Try.underlying9
  clear h1 h2 hn
  go_enter Try.func69, Try.ntmps69
  go_wp2
  go_ret
  exact ⟨by simp, rfl⟩

set_option maxRecDepth 100000 in
theorem hasPrefix_yes (b1 o1 c1 b2 o2 c2 L : Nat) (n : Nat) (l : List Int) (w : World) (hn : n = l.length) (hL : n ≤ L) (hc : L ≤ c1) (h1 : ∀ j, j < n → w.cell? ⟨b1, o1 + j, none⟩ = some (.int .u8 (l.getD j 0))) (h2 : ∀ j, j < n → w.cell? ⟨b2, o2 + j, none⟩ = some (.int .u8 (l.getD j 0))) :
    Calls Try.prog 64 #[.slice (some ⟨b1, o1, none⟩) L c1, .slice (some ⟨b2, o2, none⟩) n c2] w fun e w' => e = .returned (.bool true) ∧ w = w' := by
  have H1 := Lib.hid h1; have H2 := Lib.hid h2; have HN := Lib.hid hn; clear h1 h2 hn
  have hLb : decide (n ≤ L) = true := by simp [hL]
  have hc1 : n ≤ c1 := by omega
  go_enter Try.func64, Try.ntmps64
  go_wp2_with (fail)
  refine (bytesEqual_same b1 o1 c1 b2 o2 c2 n l w HN.out H1.out H2.out).mono ?_
  rintro e w1 ⟨rfl, rfl⟩
  go_wp2_with (fail)
  go_ret
  exact ⟨rfl, rfl⟩

def NoBits (l : List Int) (x n : Nat) : Prop := ∀ j, j < n → l.getD (x + j) 0 = 0

theorem dirty1_zero (w : World) : Calls Try.prog 71 #[.int .u8 0] w fun e w' => e = .returned (.bool false) ∧ w = w' := by
  go_enter Try.func71, Try.ntmps71
  go_wp2
  go_ret
  exact ⟨rfl, rfl⟩

set_option maxRecDepth 100000 in
set_option maxHeartbeats 1000000 in
theorem indexFunc_none (b o c n : Nat) (w : World) (hs : ∀ j, j < n → w.cell? ⟨b, o + j, none⟩ = some (.int .u8 0)) (hn9 : n ≤ 1000000000) :
    Calls Try.prog 70 #[.slice (some ⟨b, o, none⟩) n c, .func (.func 71) #[] #[]] w fun e w' => e = .returned (.int .i64 (-1)) ∧ Drawn w w' := by
  have HS := Lib.hid hs; clear hs
  go_enter Try.func70, Try.ntmps70
  go_wp2
  go_loopw [8] (fun i wr => ∃ k : Nat, k ≤ n ∧ i = .int .i64 (k : Int) ∧ ∃ d, wr = w.drewN d) (fun i _ => n - (intOf i).toNat)
  case atStart => exact ⟨0, by omega, rfl, 0, rfl⟩
  case round =>
    obtain ⟨k, hk, rfl, d, rfl⟩ := hrel
    by_cases hlt : k < n
    · have hcell := HS.out k hlt
      go_wp2_with (fail)
      refine (dirty1_zero _).mono ?_
      rintro e w1 ⟨rfl, rfl⟩
      go_wp2_with (fail)
      refine ⟨⟨k + 1, by omega, by go_num, d, rfl⟩, ?_⟩
      simp [intOf]; omega
    · obtain rfl : k = n := by omega
      go_wp2_with (fail)
      go_ret
      exact ⟨rfl, d, rfl⟩

set_option maxRecDepth 100000 in
set_option maxHeartbeats 1000000 in
theorem dirty_none (b o c L x n : Nat) (w : World) (hs : ∀ j, j < n → w.cell? ⟨b, o + x + j, none⟩ = some (.int .u8 0)) (hx : x + n ≤ L) (hxl : x < L) (hL : L ≤ 1000000000) (hc : L ≤ c) :
    Calls Try.prog 65 #[.slice (some ⟨b, o, none⟩) L c, .int .i64 (x : Int), .int .i64 (n : Int)] w fun e w' => e = .returned (.int .i64 (-1)) ∧ Drawn w w' := by
  have HS := Lib.hid hs; clear hs
  have hxc : x < c := by omega
  have hnc : x + n ≤ c := by omega
  have w1 : IntKind.i64.wrap ((x : Int) + (n : Int)) = (x : Int) + (n : Int) := by rw [IntKind.wrap_i64]; omega
  go_enter Try.func65, Try.ntmps65
  go_wp2_with (fail)
  refine (exists_yes _ _ _ _ _ _ (by omega) (by omega) (by omega) hL).mono ?_
  rintro e w1 ⟨rfl, rfl⟩
  go_wp2_with (fail)
  refine (indexFunc_none b (o + x) (c - x) n w HS.out (by omega)).mono ?_
  rintro e w1 ⟨rfl, d, rfl⟩
  go_wp2_with (fail)
  go_ret
  exact ⟨rfl, d, rfl⟩
end Go.Proofs.Ythmenbehpblljaa
