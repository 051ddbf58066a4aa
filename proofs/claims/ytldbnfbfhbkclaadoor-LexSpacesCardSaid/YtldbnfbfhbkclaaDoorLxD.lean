/-
  Chapter 6: the cursor runs over bytes of a class.
-/
import Derived.Test.YtldbnfbfhbkclaaDoorLxC
namespace Go.Proofs.YtldbnfbfhbkclaaDoor
open Go.RowKit Go.Shelf

/-- A place that fits its offset. -/
def Okp (i : Nat) (p : Nat × Nat) : Prop := p.1 ≤ i + 1 ∧ p.2 ≤ i + 1
theorem Okp.to {s : ByteArray} {i j : Nat} {p : Nat × Nat} (h : Okp i p) (hij : i ≤ j) : Okp j (plTo s p i j) := by
  obtain ⟨n, rfl⟩ : ∃ n, j = i + n := ⟨j - i, by omega⟩
  induction n with
  | zero => rw [Nat.add_zero, plTo_self]; exact h
  | succ n ih =>
    rw [← Nat.add_assoc, plTo_succ _ _ _ _ (by omega)]
    have h1 := ih (by omega)
    unfold Okp stepPl at *
    split <;> (simp only; omega)

set_option maxRecDepth 100000 in
set_option maxHeartbeats 2000000 in
theorem while_any (C : Nat) (s : ByteArray) (i : Nat) (p : Nat × Nat) (w : World) (g : Nat) (pr : Nat → Bool) (hacc : ∀ (b : Nat) (w : World), b < 256 → Calls Tryd.prog g #[.int .u8 (b : Int)] w fun e w' => e = .returned (.bool (pr b)) ∧ w = w')
    (hcf : ∀ (v : Value) (w : World), (callFunc g #[v]).run Tryd.prog w = .ok (.enter g #[v]) w) (h : IsCur C s i p w) (hi : i ≤ s.size) (hs : s.size ≤ 10000000000) (hp : Okp i p) :
    Calls Tryd.prog 32 #[.pointer (some ⟨C, 0, none⟩), .func (.func g) #[] #[]] w fun e w' => e = .returned (.string (s.extract i (runTo pr s i))) ∧ IsCur C s (runTo pr s i) (plTo s p i (runTo pr s i)) w' ∧ Only C w w' := by
  have c3 := h.c3
  have H := Lib.hid h; have HP := Lib.hid hp; have HA := Lib.hid hacc
  clear h hp hacc
  go_enter Tryd.func32, Tryd.ntmps32
  go_wp2_with (fail)
  go_loopw [10] (fun _ wr => ∃ j : Nat, i ≤ j ∧ j ≤ s.size ∧ Hid (IsCur C s j (plTo s p i j) wr ∧ Only C w wr ∧ runTo pr s i = runTo pr s j)) (fun _ wr => s.size - (match wr.cell? ⟨C, 3, none⟩ with | some v => (intOf v).toNat | none => 0))
  case atStart => exact ⟨i, by omega, by omega, Lib.hid ⟨by rw [plTo_self]; exact H.out, Only.refl C w, rfl⟩⟩
  case round =>
    obtain ⟨j, hj1, hj2, HR⟩ := hrel
    have d2 := HR.out.1.c2
    have d3 := HR.out.1.c3
    have D3 := Lib.hid d3
    clear c3
    by_cases hlt : j < s.size
    · have tl : decide ((j : Int) < (s.size : Int)) = true := by simp; omega
      have tl' : decide (j < s.size) = true := by simp; omega
      obtain ⟨q, hqe⟩ : ∃ q, q = bt s j := ⟨_, rfl⟩
      have hq := bt_at s j hlt
      have hq256 := bt_lt s j
      have hyes := runTo_yes pr s j hlt
      have hno := runTo_no pr s j
      rw [← hqe] at hq hq256 hyes hno
      have HY := Lib.hid hyes; have HN := Lib.hid hno
      clear hqe hyes hno
      cases hpr : pr q with
      | true =>
        have hA : ∀ w, Calls Tryd.prog g #[.int .u8 (q : Int)] w fun e w' => e = .returned (.bool true) ∧ w = w' := fun w => by rw [← hpr]; exact HA.out q w hq256
        have HA2 := Lib.hid hA
        clear hA
        go_wp2_with (fail)
        go_quiet (go_loud (refine (HA2.out _).mono ?_; rintro e w2 ⟨rfl, rfl⟩; exact ⟨rfl, _, rfl⟩))
        obtain ⟨wq, hwq⟩ : ∃ wq, wq = wr.drewN nq := ⟨_, rfl⟩
        have hc : IsCur C s j (plTo s p i j) wq := by rw [hwq]; exact HR.out.1
        have ho : Only C w wq := by rw [hwq]; exact HR.out.2.1.drewN nq
        have HC := Lib.hid hc; have HO := Lib.hid ho; have HE := Lib.hid HR.out.2.2
        rw [← hwq]
        clear hc ho hwq HR d2 d3
        go_wp2_with (fail)
        have hok := HP.out.to (s := s) hj1
        refine (step_any C s j (plTo s p i j) wq HC.out hlt hs (by have := hok.1; omega) (by have := hok.2; omega)).mono ?_
        rintro e w3 ⟨rfl, hc3, ho3⟩
        have HC3 := Lib.hid hc3; have HO3 := Lib.hid ho3
        clear hc3 ho3 hok
        go_wp2
        refine ⟨⟨j + 1, by omega, by omega, Lib.hid ⟨?_, ?_, ?_⟩⟩, ?_⟩
        · rw [plTo_succ _ _ _ _ hj1]; exact HC3.out
        · exact HO.out.trans HO3.out
        · rw [HE.out]; exact HY.out hpr
        · rw [HC3.out.c3, D3.out]; simp [intOf]; omega
      | false =>
        have hA : ∀ w, Calls Tryd.prog g #[.int .u8 (q : Int)] w fun e w' => e = .returned (.bool false) ∧ w = w' := fun w => by rw [← hpr]; exact HA.out q w hq256
        have HA2 := Lib.hid hA
        clear hA
        go_wp2_with (fail)
        go_quiet (go_loud (refine (HA2.out _).mono ?_; rintro e w2 ⟨rfl, rfl⟩; exact ⟨rfl, _, rfl⟩))
        obtain ⟨wq, hwq⟩ : ∃ wq, wq = wr.drewN nq := ⟨_, rfl⟩
        have hc : IsCur C s j (plTo s p i j) wq := by rw [hwq]; exact HR.out.1
        have ho : Only C w wq := by rw [hwq]; exact HR.out.2.1.drewN nq
        have hre : runTo pr s i = j := by rw [HR.out.2.2]; exact HN.out hpr
        have HC := Lib.hid hc; have HO := Lib.hid ho; have HE := Lib.hid hre
        have d2 := hc.c2
        have d3 := hc.c3
        rw [← hwq]
        clear hc ho hwq HR hre
        go_wp2_with (fail)
        go_quiet (fail)
        go_wp2
        go_ret
        refine ⟨by rw [HE.out]; rfl, ?_, ?_⟩
        · rw [HE.out]; exact HC.out
        · exact HO.out.drewN _
    · obtain rfl : j = s.size := by omega
      have tl : decide ((s.size : Int) < (s.size : Int)) = false := by simp
      have tl' : decide (s.size < s.size) = false := by simp
      go_wp2_with (fail)
      go_quiet (fail)
      obtain ⟨wq, hwq⟩ : ∃ wq, wq = wr.drewN nq := ⟨_, rfl⟩
      have hc : IsCur C s s.size (plTo s p i s.size) wq := by rw [hwq]; exact HR.out.1
      have ho : Only C w wq := by rw [hwq]; exact HR.out.2.1.drewN nq
      have hre : runTo pr s i = s.size := by rw [HR.out.2.2]; exact runTo_end pr s s.size (Nat.le_refl _)
      have HC := Lib.hid hc; have HO := Lib.hid ho; have HE := Lib.hid hre
      have d2 := hc.c2
      have d3 := hc.c3
      rw [← hwq]
      clear hc ho hwq HR hre
      go_wp2_with (fail)
      go_quiet (fail)
      go_wp2
      go_ret
      refine ⟨by rw [HE.out]; rfl, ?_, ?_⟩
      · rw [HE.out]; exact HC.out
      · exact HO.out.drewN _
end Go.Proofs.YtldbnfbfhbkclaaDoor
