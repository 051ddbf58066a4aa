/-
  Chapter 6: the classes that the cursor runs over; spacing.
-/
import Derived.Test.YtldbnfbfhbkclaaDoorLxD
import Derived.Test.YtldbnfbfhbkclaaDoorShelf
namespace Go.Proofs.YtldbnfbfhbkclaaDoor
open Go.RowKit Go.Shelf

theorem sp_index : ∀ b : Fin 256, (decide ((0 : Int) ≤ Lib.indexByte [32, 9, 13, 10] b.val.toUInt8)) = isSp b.val := by decide +kernel

theorem sp1_any (b : Nat) (w : World) (hb : b < 256) : Calls Tryd.prog 33 #[.int .u8 (b : Int)] w fun e w' => e = .returned (.bool (isSp b)) ∧ w = w' := by
  have hx := sp_index ⟨b, hb⟩
  simp only at hx
  rw [← hx]
  clear hx
  go_enter Tryd.func33, Tryd.ntmps33
  go_wp2_with (fail)
  refine (Tryd.strings_IndexByte _ _ w).mono ?_
  rintro e w1 ⟨rfl, rfl⟩
  go_wp2
  go_ret
  exact ⟨rfl, rfl⟩
theorem sp2_any (b : Nat) (w : World) (_hb : b < 256) : Calls Tryd.prog 35 #[.int .u8 (b : Int)] w fun e w' => e = .returned (.bool (notFeed b)) ∧ w = w' := by
  have h : notFeed b = ((b : Int) != 10) := by
    unfold notFeed
    by_cases h : b = 10
    · subst h; rfl
    · have h1 : (b != 10) = true := by simpa using h
      have h2 : ((b : Int) != 10) = true := by simp; omega
      rw [h1, h2]
  rw [h]
  clear h
  go_enter Tryd.func35, Tryd.ntmps35
  go_wp2
  go_ret
  exact ⟨rfl, rfl⟩
theorem num1_any (b : Nat) (w : World) (_hb : b < 256) : Calls Tryd.prog 52 #[.int .u8 (b : Int)] w fun e w' => e = .returned (.bool (clsRun true b)) ∧ w = w' := by
  unfold clsRun
  cases hl : isLet b with
  | true =>
    go_enter Tryd.func52, Tryd.ntmps52
    go_wp2_with (fail)
    refine (isLetter_any b w).mono ?_
    rintro e w1 ⟨rfl, rfl⟩
    rw [hl]
    go_wp2_with (fail)
    go_ret
    exact ⟨rfl, rfl⟩
  | false =>
    go_enter Tryd.func52, Tryd.ntmps52
    go_wp2_with (fail)
    refine (isLetter_any b w).mono ?_
    rintro e w1 ⟨rfl, rfl⟩
    rw [hl]
    go_wp2_with (fail)
    refine (isDigit_any b w).mono ?_
    rintro e w1 ⟨rfl, rfl⟩
    go_wp2_with (fail)
    go_ret
    exact ⟨by simp, rfl⟩

theorem cf_sp1 (v : Value) (w : World) : (callFunc 33 #[v]).run Tryd.prog w = .ok (.enter 33 #[v]) w := enters_of Tryd.func33 (by kernel_rfl) rfl _ _
theorem cf_sp2 (v : Value) (w : World) : (callFunc 35 #[v]).run Tryd.prog w = .ok (.enter 35 #[v]) w := enters_of Tryd.func35 (by kernel_rfl) rfl _ _
theorem cf_num1 (v : Value) (w : World) : (callFunc 52 #[v]).run Tryd.prog w = .ok (.enter 52 #[v]) w := enters_of Tryd.func52 (by kernel_rfl) rfl _ _
theorem cf_let (v : Value) (w : World) : (callFunc 37 #[v]).run Tryd.prog w = .ok (.enter 37 #[v]) w := enters_of Tryd.func37 (by kernel_rfl) rfl _ _

set_option maxRecDepth 100000 in
set_option maxHeartbeats 2000000 in
theorem spacing_any (C : Nat) (s : ByteArray) (i : Nat) (p : Nat × Nat) (w : World) (h : IsCur C s i p w) (hi : i ≤ s.size) (hs : s.size ≤ 10000000000) (hp : Okp i p) :
    Calls Tryd.prog 22 #[.pointer (some ⟨C, 0, none⟩)] w fun e w' => ∃ j : Nat, e = .returned (.tuple #[]) ∧ Skip s i j ∧ i ≤ j ∧ j ≤ s.size ∧ IsCur C s j (plTo s p i j) w' ∧ Only C w w' := by
  have H := Lib.hid h; have HP := Lib.hid hp
  have c3 := h.c3
  clear h hp
  go_enter Tryd.func22, Tryd.ntmps22
  go_wp2_with (fail)
  go_loopw [4] (fun _ wr => ∃ j : Nat, i ≤ j ∧ j ≤ s.size ∧ Hid (IsCur C s j (plTo s p i j) wr ∧ Only C w wr ∧ ∀ k, Skip s j k → Skip s i k)) (fun _ wr => s.size - (match wr.cell? ⟨C, 3, none⟩ with | some v => (intOf v).toNat | none => 0))
  case atStart => exact ⟨i, by omega, by omega, Lib.hid ⟨by rw [plTo_self]; exact H.out, Only.refl C w, fun _ h => h⟩⟩
  case round =>
    obtain ⟨j, hj1, hj2, HR⟩ := hrel
    have D3 := Lib.hid HR.out.1.c3
    have hok := HP.out.to (s := s) hj1
    have HOK := Lib.hid hok
    clear c3 hok
    go_wp2_with (fail)
    refine (while_any C s j (plTo s p i j) wr 33 isSp (fun b w hb => sp1_any b w hb) cf_sp1 HR.out.1 hj2 hs HOK.out).mono ?_
    rintro e w1 ⟨rfl, hc1, ho1⟩
    obtain ⟨k, hk⟩ : ∃ k, k = runTo isSp s j := ⟨_, rfl⟩
    have hkl := runTo_le isSp s j hj2
    have hst := runTo_stop isSp s j
    rw [← hk] at hc1 hkl hst ⊢
    rw [plTo_trans s p i j k hj1 hkl.1] at hc1
    have d2 := hc1.c2
    have d3 := hc1.c3
    have HC1 := Lib.hid hc1; have HO1 := Lib.hid (HR.out.2.1.trans ho1); have HK := Lib.hid hk; have HST := Lib.hid hst
    have HS : Hid (∀ m, Skip s k m → Skip s i m) := Lib.hid (fun m hm => HR.out.2.2 m (Skip.run j m (by rw [← hk]; exact hm)))
    obtain ⟨hk1, hk2⟩ := hkl
    have hok := HP.out.to (s := s) (show i ≤ k by omega)
    have HOK1 := Lib.hid hok
    clear hc1 ho1 hk hst HR HOK hok
    by_cases hke : k = s.size
    · subst hke
      go_wp2_with (fail)
      go_quiet (fail)
      go_wp2_with (fail)
      refine bodyPost_ret (results_none rfl _ _ _) rfl ⟨s.size, rfl, HS.out _ (.fin _ (Nat.le_refl _)), hi, Nat.le_refl _, HC1.out, HO1.out.drewN _⟩
    · have hlt : k < s.size := by omega
      have te : ((k : Int) == (s.size : Int)) = false := by simp; omega
      have te' : (k == s.size) = false := by simp; omega
      obtain ⟨q, hqe⟩ : ∃ q, q = bt s k := ⟨_, rfl⟩
      have hq := bt_at s k hlt
      rw [← hqe] at hq
      have HQ := Lib.hid hqe
      clear hqe hke
      by_cases h35 : q = 35
      · subst h35
        go_wp2_with (fail)
        go_quiet (fail)
        go_wp2_with (fail)
        have hyes := runTo_yes notFeed s k hlt (by rw [← HQ.out]; decide)
        have hle := runTo_le notFeed s (k + 1) (by omega)
        rw [← hyes] at hle
        have HY := Lib.hid hyes
        clear hyes
        refine (while_any C s k (plTo s p i k) (w1.drewN nq) 35 notFeed (fun b w hb => sp2_any b w hb) cf_sp2 HC1.out (by omega) hs HOK1.out).mono ?_
        rintro e w2 ⟨rfl, hc2, ho2⟩
        rw [plTo_trans s p i k _ (by omega) (by omega)] at hc2
        have HC2 := Lib.hid hc2; have HO2 := Lib.hid ((HO1.out.drewN nq).trans ho2)
        clear hc2 ho2
        go_wp2
        refine ⟨⟨runTo notFeed s k, by omega, by omega, Lib.hid ⟨HC2.out, HO2.out, fun m hm => HS.out m (.com k m hlt HQ.out.symm hm)⟩⟩, ?_⟩
        rw [HC2.out.c3, D3.out]; simp [intOf]; omega
      · have t35 : ((q : Int) != 35) = true := by simp; omega
        have t35' : (q != 35) = true := by simp; omega
        go_wp2_with (fail)
        go_quiet (fail)
        go_wp2_with (fail)
        refine bodyPost_ret (results_none rfl _ _ _) rfl ⟨k, rfl, HS.out _ (.stop _ hlt (HST.out hlt) (by rw [← HQ.out]; exact h35)), by omega, hk2, HC1.out, HO1.out.drewN _⟩
end Go.Proofs.YtldbnfbfhbkclaaDoor
