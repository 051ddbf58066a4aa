/-
  The readers of package buf.
-/
import Derived.Test.YthmenbehpblljaaBuf2
import Derived.Test.YthmenbehpblljaaNum
import Derived.Deep.QuietTactic
import Derived.BigQuiet
namespace Go.Proofs.Ythmenbehpblljaa
open Go.RowKit

theorem exists_yes (a : Option Addr) (n c : Nat) (x y : Int) (w : World) (h0 : 0 ≤ x) (h1 : 0 ≤ y) (h2 : x + y ≤ n) (hn : n ≤ 1000000000) :
    Calls Try.prog 68 #[.slice a n c, .int .i64 x, .int .i64 y] w fun e w' => e = .returned (.bool true) ∧ w = w' := by
  have hm : 0 ≤ min x y := by omega
  have hd : decide (x ≤ (n : Int)) = true := by simp; omega
  have hd2 : decide (y ≤ (n : Int) - x) = true := by simp; omega
  go_enter Try.func68, Try.ntmps68
  go_wp2_with (fail)
  all_goals (go_ret; exact ⟨rfl, rfl⟩)


set_option maxHeartbeats 1000000 in
set_option maxRecDepth 100000 in
theorem number16_yes (b o c : Nat) (l : List Int) (x : Int) (w : World) (hs : ∀ j, j < l.length → w.cell? ⟨b, o + j, none⟩ = some (.int .u8 (l.getD j 0))) (hl : ∀ j, 0 ≤ l.getD j 0 ∧ l.getD j 0 ≤ 255) (hn : l.length ≤ 1000000000) (hc : l.length ≤ c) (h0 : 0 ≤ x) (hx : x + 2 ≤ l.length) :
    Calls Try.prog 57 #[.slice (some ⟨b, o, none⟩) l.length c, .int .i64 x, .int .i64 2] w fun e w' => e = .returned (.tuple #[.int .u16 (leSum (fun i => l.getD (x.toNat + i) 0) 2), .bool true]) ∧ w = w' := by
  obtain ⟨x, rfl⟩ := Int.eq_ofNat_of_zero_le h0
  have hxc : x < c := by omega
  obtain ⟨f, hf⟩ : ∃ f : Nat → Int, f = fun i => l.getD (x + i) 0 := ⟨_, rfl⟩
  have hfe : ∀ i, l.getD (x + i) 0 = f i := fun i => by rw [hf]
  have hfb : ∀ i, 0 ≤ f i ∧ f i ≤ 255 := fun i => by rw [← hfe]; exact hl _
  have hcell : ∀ k, k < 2 → w.cell? ⟨b, o + x + k, none⟩ = some (.int .u8 (f k)) := fun k hk => by rw [← hfe, Nat.add_assoc]; exact hs (x + k) (by omega)
  simp only [Int.toNat_natCast]
  rw [← hf]
  have HC := Lib.hid hcell
  clear hf hfe hs hl hcell
  have HFB := Lib.hid hfb; clear hfb
  have hend := leSum_bd f HFB.out 2
  obtain ⟨S, hS⟩ : ∃ S, S = leSum f 2 := ⟨_, rfl⟩
  rw [← hS] at hend ⊢
  have hw : IntKind.u16.wrap S = S := by simp [IntKind.wrap, IntKind.bits, IntKind.signed]; omega
  have HS := Lib.hid hS; have HE := Lib.hid hend; have HW := Lib.hid hw
  clear hS hend hw
  go_enter Try.func57, Try.ntmps57
  go_wp2_with (go_at_call 68; go_loud (refine (exists_yes _ _ _ _ _ _ (by omega) (by omega) (by omega) hn).mono ?_); rintro e w1 ⟨rfl, rfl⟩)
  go_loop [8, 23] (fun s i => ∃ k : Nat, k ≤ 2 ∧ i = .int .i64 k ∧ s = .int .u64 (leSum f k)) (fun _ i => 2 - (intOf i).toNat)
  case atStart => exact ⟨0, by omega, rfl, rfl⟩
  case round =>
    obtain ⟨k, hk, rfl, rfl⟩ := hrel
    by_cases hlt : k < 2
    · have hcell := HC.out k hlt
      have hq := HFB.out k
      obtain ⟨hq0, hq1⟩ := hq
      obtain ⟨q, hq⟩ : ∃ q, q = f k := ⟨_, rfl⟩
      have hA := leSum_bd f HFB.out k
      have HA := Lib.hid hA; clear hA
      rw [← hq] at hcell hq0 hq1
      have HQ := Lib.hid hq; clear hq
      go_wp2
      go_round
      case rel => exact ⟨k + 1, by omega, by go_num, by rw [or_step _ _ _ HA.out.1 HA.out.2 (by omega) (by omega) (by omega), leSum, HQ.out]⟩
      case measure => simp [intOf]; omega
    · have hge : 2 ≤ k := by omega
      go_wp2
      go_ret2
      obtain rfl : k = 2 := by omega
      exact ⟨by first | (rw [← HS.out, HW.out]; rfl) | (rw [← HS.out]; rfl) | (rw [← HS.out, show S % 4294967296 = S by have := HE.out; omega]; rfl), rfl⟩

theorem viewU16_yes (b o c : Nat) (l : List Int) (x : Int) (w : World) (hs : ∀ j, j < l.length → w.cell? ⟨b, o + j, none⟩ = some (.int .u8 (l.getD j 0))) (hl : ∀ j, 0 ≤ l.getD j 0 ∧ l.getD j 0 ≤ 255) (hn : l.length ≤ 1000000000) (hc : l.length ≤ c) (h0 : 0 ≤ x) (hx : x + 2 ≤ l.length) :
    Calls Try.prog 40 #[.slice (some ⟨b, o, none⟩) l.length c, .int .i64 x] w fun e w' => e = .returned (.tuple #[.int .u16 (leSum (fun i => l.getD (x.toNat + i) 0) 2), .bool true]) ∧ w = w' := by
  have HS := Lib.hid hs; have HL := Lib.hid hl; clear hs hl
  obtain ⟨S, hS⟩ : ∃ S, S = leSum (fun i => l.getD (x.toNat + i) 0) 2 := ⟨_, rfl⟩
  rw [← hS]
  have HSS := Lib.hid hS; clear hS
  go_enter Try.func40, Try.ntmps40
  go_wp2_with (go_at_call 57; go_loud (refine (number16_yes b o c l x _ HS.out HL.out hn hc h0 hx).mono ?_); rw [← HSS.out]; rintro e w1 ⟨rfl, rfl⟩)
  go_ret2
  exact ⟨rfl, rfl⟩

set_option maxHeartbeats 1000000 in
set_option maxRecDepth 100000 in
theorem number32_yes (b o c : Nat) (l : List Int) (x : Int) (w : World) (hs : ∀ j, j < l.length → w.cell? ⟨b, o + j, none⟩ = some (.int .u8 (l.getD j 0))) (hl : ∀ j, 0 ≤ l.getD j 0 ∧ l.getD j 0 ≤ 255) (hn : l.length ≤ 1000000000) (hc : l.length ≤ c) (h0 : 0 ≤ x) (hx : x + 4 ≤ l.length) :
    Calls Try.prog 67 #[.slice (some ⟨b, o, none⟩) l.length c, .int .i64 x, .int .i64 4] w fun e w' => e = .returned (.tuple #[.int .u32 (leSum (fun i => l.getD (x.toNat + i) 0) 4), .bool true]) ∧ w = w' := by
  obtain ⟨x, rfl⟩ := Int.eq_ofNat_of_zero_le h0
  have hxc : x < c := by omega
  obtain ⟨f, hf⟩ : ∃ f : Nat → Int, f = fun i => l.getD (x + i) 0 := ⟨_, rfl⟩
  have hfe : ∀ i, l.getD (x + i) 0 = f i := fun i => by rw [hf]
  have hfb : ∀ i, 0 ≤ f i ∧ f i ≤ 255 := fun i => by rw [← hfe]; exact hl _
  have hcell : ∀ k, k < 4 → w.cell? ⟨b, o + x + k, none⟩ = some (.int .u8 (f k)) := fun k hk => by rw [← hfe, Nat.add_assoc]; exact hs (x + k) (by omega)
  simp only [Int.toNat_natCast]
  rw [← hf]
  have HC := Lib.hid hcell
  clear hf hfe hs hl hcell
  have HFB := Lib.hid hfb; clear hfb
  have hend := leSum_bd f HFB.out 4
  obtain ⟨S, hS⟩ : ∃ S, S = leSum f 4 := ⟨_, rfl⟩
  rw [← hS] at hend ⊢
  have hw : IntKind.u32.wrap S = S := by simp [IntKind.wrap, IntKind.bits, IntKind.signed]; omega
  have HS := Lib.hid hS; have HE := Lib.hid hend; have HW := Lib.hid hw
  clear hS hend hw
  go_enter Try.func67, Try.ntmps67
  go_wp2_with (go_at_call 68; go_loud (refine (exists_yes _ _ _ _ _ _ (by omega) (by omega) (by omega) hn).mono ?_); rintro e w1 ⟨rfl, rfl⟩)
  go_loop [8, 23] (fun s i => ∃ k : Nat, k ≤ 4 ∧ i = .int .i64 k ∧ s = .int .u64 (leSum f k)) (fun _ i => 4 - (intOf i).toNat)
  case atStart => exact ⟨0, by omega, rfl, rfl⟩
  case round =>
    obtain ⟨k, hk, rfl, rfl⟩ := hrel
    by_cases hlt : k < 4
    · have hcell := HC.out k hlt
      have hq := HFB.out k
      obtain ⟨hq0, hq1⟩ := hq
      obtain ⟨q, hq⟩ : ∃ q, q = f k := ⟨_, rfl⟩
      have hA := leSum_bd f HFB.out k
      have HA := Lib.hid hA; clear hA
      rw [← hq] at hcell hq0 hq1
      have HQ := Lib.hid hq; clear hq
      go_wp2
      go_round
      case rel => exact ⟨k + 1, by omega, by go_num, by rw [or_step _ _ _ HA.out.1 HA.out.2 (by omega) (by omega) (by omega), leSum, HQ.out]⟩
      case measure => simp [intOf]; omega
    · have hge : 4 ≤ k := by omega
      go_wp2
      go_ret2
      obtain rfl : k = 4 := by omega
      exact ⟨by first | (rw [← HS.out, HW.out]; rfl) | (rw [← HS.out]; rfl) | (rw [← HS.out, show S % 4294967296 = S by have := HE.out; omega]; rfl), rfl⟩

theorem viewU32_yes (b o c : Nat) (l : List Int) (x : Int) (w : World) (hs : ∀ j, j < l.length → w.cell? ⟨b, o + j, none⟩ = some (.int .u8 (l.getD j 0))) (hl : ∀ j, 0 ≤ l.getD j 0 ∧ l.getD j 0 ≤ 255) (hn : l.length ≤ 1000000000) (hc : l.length ≤ c) (h0 : 0 ≤ x) (hx : x + 4 ≤ l.length) :
    Calls Try.prog 53 #[.slice (some ⟨b, o, none⟩) l.length c, .int .i64 x] w fun e w' => e = .returned (.tuple #[.int .u32 (leSum (fun i => l.getD (x.toNat + i) 0) 4), .bool true]) ∧ w = w' := by
  have HS := Lib.hid hs; have HL := Lib.hid hl; clear hs hl
  obtain ⟨S, hS⟩ : ∃ S, S = leSum (fun i => l.getD (x.toNat + i) 0) 4 := ⟨_, rfl⟩
  rw [← hS]
  have HSS := Lib.hid hS; clear hS
  go_enter Try.func53, Try.ntmps53
  go_wp2_with (go_at_call 67; go_loud (refine (number32_yes b o c l x _ HS.out HL.out hn hc h0 hx).mono ?_); rw [← HSS.out]; rintro e w1 ⟨rfl, rfl⟩)
  go_ret2
  exact ⟨rfl, rfl⟩

set_option maxHeartbeats 1000000 in
set_option maxRecDepth 100000 in
theorem number64_yes (b o c : Nat) (l : List Int) (x : Int) (w : World) (hs : ∀ j, j < l.length → w.cell? ⟨b, o + j, none⟩ = some (.int .u8 (l.getD j 0))) (hl : ∀ j, 0 ≤ l.getD j 0 ∧ l.getD j 0 ≤ 255) (hn : l.length ≤ 1000000000) (hc : l.length ≤ c) (h0 : 0 ≤ x) (hx : x + 8 ≤ l.length) :
    Calls Try.prog 66 #[.slice (some ⟨b, o, none⟩) l.length c, .int .i64 x, .int .i64 8] w fun e w' => e = .returned (.tuple #[.int .u64 (leSum (fun i => l.getD (x.toNat + i) 0) 8), .bool true]) ∧ w = w' := by
  obtain ⟨x, rfl⟩ := Int.eq_ofNat_of_zero_le h0
  have hxc : x < c := by omega
  obtain ⟨f, hf⟩ : ∃ f : Nat → Int, f = fun i => l.getD (x + i) 0 := ⟨_, rfl⟩
  have hfe : ∀ i, l.getD (x + i) 0 = f i := fun i => by rw [hf]
  have hfb : ∀ i, 0 ≤ f i ∧ f i ≤ 255 := fun i => by rw [← hfe]; exact hl _
  have hcell : ∀ k, k < 8 → w.cell? ⟨b, o + x + k, none⟩ = some (.int .u8 (f k)) := fun k hk => by rw [← hfe, Nat.add_assoc]; exact hs (x + k) (by omega)
  simp only [Int.toNat_natCast]
  rw [← hf]
  have HC := Lib.hid hcell
  clear hf hfe hs hl hcell
  have HFB := Lib.hid hfb; clear hfb
  have hend := leSum_bd f HFB.out 8
  obtain ⟨S, hS⟩ : ∃ S, S = leSum f 8 := ⟨_, rfl⟩
  rw [← hS] at hend ⊢
  have hw : IntKind.u64.wrap S = S := by simp [IntKind.wrap, IntKind.bits, IntKind.signed]; omega
  have HS := Lib.hid hS; have HE := Lib.hid hend; have HW := Lib.hid hw
  clear hS hend hw
  go_enter Try.func66, Try.ntmps66
  go_wp2_with (go_at_call 68; go_loud (refine (exists_yes _ _ _ _ _ _ (by omega) (by omega) (by omega) hn).mono ?_); rintro e w1 ⟨rfl, rfl⟩)
  go_loop [8, 23] (fun s i => ∃ k : Nat, k ≤ 8 ∧ i = .int .i64 k ∧ s = .int .u64 (leSum f k)) (fun _ i => 8 - (intOf i).toNat)
  case atStart => exact ⟨0, by omega, rfl, rfl⟩
  case round =>
    obtain ⟨k, hk, rfl, rfl⟩ := hrel
    by_cases hlt : k < 8
    · have hcell := HC.out k hlt
      have hq := HFB.out k
      obtain ⟨hq0, hq1⟩ := hq
      obtain ⟨q, hq⟩ : ∃ q, q = f k := ⟨_, rfl⟩
      have hA := leSum_bd f HFB.out k
      have HA := Lib.hid hA; clear hA
      rw [← hq] at hcell hq0 hq1
      have HQ := Lib.hid hq; clear hq
      go_wp2
      go_round
      case rel => exact ⟨k + 1, by omega, by go_num, by rw [or_step _ _ _ HA.out.1 HA.out.2 (by omega) (by omega) (by omega), leSum, HQ.out]⟩
      case measure => simp [intOf]; omega
    · have hge : 8 ≤ k := by omega
      go_wp2
      go_ret2
      obtain rfl : k = 8 := by omega
      exact ⟨by first | (rw [← HS.out, HW.out]; rfl) | (rw [← HS.out]; rfl) | (rw [← HS.out, show S % 4294967296 = S by have := HE.out; omega]; rfl), rfl⟩

theorem viewU64_yes (b o c : Nat) (l : List Int) (x : Int) (w : World) (hs : ∀ j, j < l.length → w.cell? ⟨b, o + j, none⟩ = some (.int .u8 (l.getD j 0))) (hl : ∀ j, 0 ≤ l.getD j 0 ∧ l.getD j 0 ≤ 255) (hn : l.length ≤ 1000000000) (hc : l.length ≤ c) (h0 : 0 ≤ x) (hx : x + 8 ≤ l.length) :
    Calls Try.prog 52 #[.slice (some ⟨b, o, none⟩) l.length c, .int .i64 x] w fun e w' => e = .returned (.tuple #[.int .u64 (leSum (fun i => l.getD (x.toNat + i) 0) 8), .bool true]) ∧ w = w' := by
  have HS := Lib.hid hs; have HL := Lib.hid hl; clear hs hl
  obtain ⟨S, hS⟩ : ∃ S, S = leSum (fun i => l.getD (x.toNat + i) 0) 8 := ⟨_, rfl⟩
  rw [← hS]
  have HSS := Lib.hid hS; clear hS
  go_enter Try.func52, Try.ntmps52
  go_wp2_with (go_at_call 66; go_loud (refine (number64_yes b o c l x _ HS.out HL.out hn hc h0 hx).mono ?_); rw [← HSS.out]; rintro e w1 ⟨rfl, rfl⟩)
  go_ret2
  exact ⟨rfl, rfl⟩
end Go.Proofs.Ythmenbehpblljaa
