/-
  Chapter 6: quoted names: the program's Scan.
-/
import Derived.Test.YtldbnfbfhbkclaaDoorLxM
namespace Go.Proofs.YtldbnfbfhbkclaaDoor
open Go.RowKit Go.Shelf

theorem run_neq_func_nil {P : Program} (w : World) {t : TypeId} {d : TypeDesc} (ht : P.underlying t = some d) (hd : (match d with | .func _ _ _ => true | _ => false) = true) (f : Fn) (a b : Array Value) : (binOp .neq t (.func f a b) .nilFunc).run P w = .ok (.bool true) w := by
  have h : ∀ k : Nat, (Op.equalIn (k + 1) t (.func f a b) .nilFunc).run P w = .ok false w := fun k => by
    cases d <;> simp at hd
    simp [Op.equalIn, run_underlying ht]
  simp only [binOp]
  simp [Op.equal, Op.maxDepth, h 9999]
theorem run_neq_nil_nil {P : Program} (w : World) {t : TypeId} {d : TypeDesc} (ht : P.underlying t = some d) (hd : (match d with | .func _ _ _ => true | _ => false) = true) : (binOp .neq t .nilFunc .nilFunc).run P w = .ok (.bool false) w := by
  have h : ∀ k : Nat, (Op.equalIn (k + 1) t .nilFunc .nilFunc).run P w = .ok true w := fun k => by
    cases d <;> simp at hd
    simp [Op.equalIn, run_underlying ht]
  simp only [binOp]
  simp [Op.equal, Op.maxDepth, h 9999]

/-- What a state of the scanner says: R, what is read in the end. -/
def ScnSt (s : ByteArray) (R : Option (List UInt8 × Nat)) (i : Nat) (xs : List UInt8) (done ok st : Bool) : Prop :=
  (ok = false → R = none) ∧ (done = true → st = false ∧ (ok = true → R = some (xs, i))) ∧ (done = false → st = false → ok = true → R = scn s i xs) ∧
  (done = false → st = true → ok = true → 1 ≤ i ∧ bt s (i - 1) = 92 ∧ R = scn s (i - 1) xs)

set_option maxRecDepth 100000 in
set_option maxHeartbeats 8000000 in
theorem scan_any (s : ByteArray) (i : Nat) (w : World) (hi : i < s.size) (hq : bt s i = 34) (hs : s.size ≤ 100000000) :
    Calls Tryd.prog 54 #[.string s, .int .i64 (i : Int)] w fun e w' => e = .returned (scanV (qName s i)) ∧ Below w.heap.size w w' := by
  have hq0 := bt_at s i hi
  rw [hq] at hq0
  have ti : decide (i < s.size) = true := by simp [hi]
  have ti2 : ¬ (s.size ≤ i) := by omega
  have ti3 : ¬ ((s.size : Int) ≤ (i : Int)) := by omega
  have hcf : ∀ a b w, (callFunc 70 #[a, b]).run Tryd.prog w = .ok (.enter 70 #[a, b]) w := fun a b w => enters_of Tryd.func70 (by kernel_rfl) rfl _ _
  have hnf : ∀ w a b, (binOp .neq 80 (.func (.func 70) a b) .nilFunc).run Tryd.prog w = .ok (.bool true) w := fun w a b => run_neq_func_nil w Tryd.underlying80 rfl _ a b
  have hnn : ∀ w, (binOp .neq 80 .nilFunc .nilFunc).run Tryd.prog w = .ok (.bool false) w := fun w => run_neq_nil_nil w Tryd.underlying80 rfl
  obtain ⟨R, hR⟩ : ∃ R, R = scn s (i + 1) [] := ⟨_, rfl⟩
  have HRR := Lib.hid hR
  clear hR
  have hI0 : IsScn w.heap.size w.heap.size [] false true (w.alloc (.cells #[.slice none 0 0, .bool false, .bool true] 90)) := ⟨none, 0, heap_alloc_new w _, Nat.le_refl _, World.ownsRow_nil _ _ _ _⟩
  have hb0 : Below w.heap.size w (w.alloc (.cells #[.slice none 0 0, .bool false, .bool true] 90)) := (Below.refl _ w).alloc (Nat.le_refl _) _
  have HI0 := Lib.hid hI0; have HB0 := Lib.hid hb0
  clear hI0 hb0
  go_enter Tryd.func54, Tryd.ntmps54
  go_wp2_with (fail)
  go_loopw [8, 9] (fun va vi wr => ∃ (j : Nat) (xs : List UInt8) (done ok st : Bool), vi = .int .i64 (j : Int) ∧ va = (if st then .func (.func 70) #[.pointer (some ⟨w.heap.size, 0, none⟩)] #[] else .nilFunc) ∧ j ≤ s.size ∧ xs.length ≤ j ∧ Hid (IsScn w.heap.size w.heap.size xs done ok wr ∧ Below w.heap.size w wr ∧ ScnSt s R j xs done ok st)) (fun _ vi _ => s.size - (intOf vi).toNat)
  case atStart =>
    refine ⟨i + 1, [], false, true, false, by go_num, rfl, by omega, by simp, Lib.hid ⟨HI0.out, HB0.out, ?_⟩⟩
    refine ⟨(fun h => by cases h), (fun h => by cases h), (fun _ _ _ => HRR.out), (fun _ h => by cases h)⟩
  case round =>
    obtain ⟨j, xs, done, ok, st, rfl, rfl, hj, hxl, HR⟩ := hrel
    obtain ⟨a, cp, hb, hX, ho⟩ := HR.out.1
    have c1 : wr.cell? ⟨w.heap.size, 1, none⟩ = some (.bool done) := by rw [cell_of_row _ _ _ _ _ _ hb]; rfl
    have c2 : wr.cell? ⟨w.heap.size, 2, none⟩ = some (.bool ok) := by rw [cell_of_row _ _ _ _ _ _ hb]; rfl
    clear hb hX ho hq0
    by_cases hgo : j < s.size ∧ done = false
    · obtain ⟨hlt, rfl⟩ := hgo
      have tl : decide (j < s.size) = true := by simp [hlt]
      have hqj := bt_at s j hlt
      obtain ⟨q, hqe⟩ : ∃ q, q = (byt s j) := ⟨_, rfl⟩
      rw [← byt_nat, ← hqe] at hqj
      have HQ := Lib.hid hqe
      clear hqe
      cases st with
      | true =>
        go_wp2_with (fail)
        refine (escaped_any w.heap.size w.heap.size xs ok q wr HR.out.1 (by omega)).mono ?_
        rintro e w1 ⟨rfl, hb1, hs1⟩
        have hst : ScnSt s R (j + 1) (xs ++ [q]) false (ok && (q.toNat == 34 || q.toNat == 92)) false := by
          obtain ⟨h1, h2, h3, h4⟩ := HR.out.2.2
          refine ⟨fun hf => ?_, (fun h => by cases h), fun _ _ hok => ?_, (fun _ h => by cases h)⟩
          · cases ok with
            | false => exact h1 rfl
            | true =>
              obtain ⟨k1, k2, k3⟩ := h4 rfl rfl rfl
              rw [k3]
              refine scn_esc_bad s (j - 1) xs (by omega) k2 ?_
              rw [show j - 1 + 1 = j from by omega, ← byt_nat, ← HQ.out]
              simpa using hf
          · cases ok with
            | false => cases hok
            | true =>
              obtain ⟨k1, k2, k3⟩ := h4 rfl rfl rfl
              rw [k3, scn_esc s (j - 1) xs (by omega) k2 (by rw [show j - 1 + 1 = j from by omega, ← byt_nat, ← HQ.out]; simpa using hok)]
              rw [show j - 1 + 2 = j + 1 from by omega, show j - 1 + 1 = j from by omega, ← HQ.out]
        have HS := Lib.hid hst; have HI := Lib.hid hs1; have HB := Lib.hid (HR.out.2.1.trans hb1)
        clear hst hs1 hb1
        go_wp2_with (fail)
        refine ⟨⟨j + 1, xs ++ [q], false, _, false, by go_num, rfl, by omega, by simp; omega, Lib.hid ⟨HI.out, HB.out, HS.out⟩⟩, ?_⟩
        simp [intOf]; omega
      | false =>
        go_wp2_with (fail)
        refine (plain_any w.heap.size w.heap.size xs ok q wr HR.out.1 (by omega)).mono ?_
        rintro e w1 ⟨hb1, hcase⟩
        have HB := Lib.hid (HR.out.2.1.trans hb1)
        obtain ⟨h1, h2, h3, h4⟩ := HR.out.2.2
        rcases hcase with ⟨hq34, rfl, hs1⟩ | ⟨hq92, rfl, hs1⟩ | ⟨hn34, hn92, rfl, hs1⟩
        · have hst : ScnSt s R (j + 1) xs true ok false := by
            refine ⟨h1, fun _ => ⟨rfl, fun hok => ?_⟩, (fun h => by cases h), (fun h => by cases h)⟩
            rw [h3 rfl rfl hok, scn_quote s j xs hlt (by rw [← byt_nat, ← HQ.out]; exact hq34)]
          have HS := Lib.hid hst; have HI := Lib.hid hs1
          clear hst hs1 hb1 h1 h2 h3 h4
          go_wp2_with (fail)
          refine ⟨⟨j + 1, xs, true, ok, false, by go_num, rfl, by omega, by omega, Lib.hid ⟨HI.out, HB.out, HS.out⟩⟩, ?_⟩
          simp [intOf]; omega
        · have hst : ScnSt s R (j + 1) xs false ok true := by
            refine ⟨h1, (fun h => by cases h), (fun _ h => by cases h), fun _ _ hok => ⟨by omega, ?_, ?_⟩⟩
            · rw [show j + 1 - 1 = j from rfl, ← byt_nat, ← HQ.out]; exact hq92
            · rw [show j + 1 - 1 = j from rfl]; exact h3 rfl rfl hok
          have HS := Lib.hid hst; have HI := Lib.hid hs1
          clear hst hs1 hb1 h1 h2 h3 h4
          go_wp2_with (fail)
          refine ⟨⟨j + 1, xs, false, ok, true, by go_num, rfl, by omega, by omega, Lib.hid ⟨HI.out, HB.out, HS.out⟩⟩, ?_⟩
          simp [intOf]; omega
        · have hst : ScnSt s R (j + 1) (xs ++ [q]) false ok false := by
            refine ⟨h1, (fun h => by cases h), fun _ _ hok => ?_, (fun _ h => by cases h)⟩
            rw [h3 rfl rfl hok, scn_plain s j xs hlt (by rw [← byt_nat, ← HQ.out]; exact hn34) (by rw [← byt_nat, ← HQ.out]; exact hn92), ← HQ.out]
          have HS := Lib.hid hst; have HI := Lib.hid hs1
          clear hst hs1 hb1 h1 h2 h3 h4
          go_wp2_with (fail)
          refine ⟨⟨j + 1, xs ++ [q], false, ok, false, by go_num, rfl, by omega, by simp; omega, Lib.hid ⟨HI.out, HB.out, HS.out⟩⟩, ?_⟩
          simp [intOf]; omega
    · cases done with
      | true =>
        obtain ⟨h1, h2, _, _⟩ := HR.out.2.2
        obtain ⟨rfl, h3⟩ := h2 rfl
        cases ok with
        | true =>
          have hRx := h3 rfl
          obtain ⟨a2, c3, hs0, hs1⟩ := HR.out.1.str
          have HSC := Lib.hid HR.out
          clear h1 h2 h3 hgo HR
          have hx : xs.length ≤ s.size := by omega
          have HV := Lib.hid (valid_any ⟨xs.toArray⟩ wr (by show xs.toArray.size ≤ _; simp; omega))
          cases hv : nameOk ⟨xs.toArray⟩ with
          | true =>
            have HQN : Hid (qName s i = some (xs, j)) := Lib.hid (by unfold qName; rw [← HRR.out, hRx]; simp only; rw [if_pos hv])
            have HVV := Lib.hid hv
            by_cases hlt : j < s.size
            · have tl : decide (j < s.size) = true := by simp [hlt]
              go_wp2_with (fail)
              refine HV.out.mono ?_
              rintro e w2 ⟨rfl, hb2⟩
              rw [HVV.out]
              obtain ⟨a4, c5, hs2, hs3⟩ := (IsScn.below HSC.out.1 (Nat.le_refl _) hb2).str
              have HB2 := Lib.hid (HSC.out.2.1.trans (hb2.mono HSC.out.2.1.size))
              clear hb2 hs0 hs1
              go_wp2_with (fail)
              go_ret3
              exact ⟨by rw [HQN.out]; rfl, HB2.out⟩
            · have tl : decide (j < s.size) = false := by simp [hlt]
              go_wp2_with (fail)
              refine HV.out.mono ?_
              rintro e w2 ⟨rfl, hb2⟩
              rw [HVV.out]
              obtain ⟨a4, c5, hs2, hs3⟩ := (IsScn.below HSC.out.1 (Nat.le_refl _) hb2).str
              have HB2 := Lib.hid (HSC.out.2.1.trans (hb2.mono HSC.out.2.1.size))
              clear hb2 hs0 hs1
              go_wp2_with (fail)
              go_ret3
              exact ⟨by rw [HQN.out]; rfl, HB2.out⟩
          | false =>
            have HQN : Hid (qName s i = none) := Lib.hid (by unfold qName; rw [← HRR.out, hRx]; simp only; rw [if_neg (by rw [hv]; decide)])
            have HVV := Lib.hid hv
            by_cases hlt : j < s.size
            · have tl : decide (j < s.size) = true := by simp [hlt]
              go_wp2_with (fail)
              refine HV.out.mono ?_
              rintro e w2 ⟨rfl, hb2⟩
              rw [HVV.out]
              have HB2 := Lib.hid (HSC.out.2.1.trans (hb2.mono HSC.out.2.1.size))
              clear hb2 hs0 hs1
              go_wp2_with (fail)
              go_ret3
              exact ⟨by rw [HQN.out]; rfl, HB2.out⟩
            · have tl : decide (j < s.size) = false := by simp [hlt]
              go_wp2_with (fail)
              refine HV.out.mono ?_
              rintro e w2 ⟨rfl, hb2⟩
              rw [HVV.out]
              have HB2 := Lib.hid (HSC.out.2.1.trans (hb2.mono HSC.out.2.1.size))
              clear hb2 hs0 hs1
              go_wp2_with (fail)
              go_ret3
              exact ⟨by rw [HQN.out]; rfl, HB2.out⟩
        | false =>
          have HQN : Hid (qName s i = none) := Lib.hid (by unfold qName; rw [← HRR.out, h1 rfl])
          have HB := Lib.hid HR.out.2.1
          clear h1 h2 h3 hgo HR
          by_cases hlt : j < s.size
          · have tl : decide (j < s.size) = true := by simp [hlt]
            go_wp2_with (fail)
            go_ret3
            exact ⟨by rw [HQN.out]; rfl, HB.out⟩
          · have tl : decide (j < s.size) = false := by simp [hlt]
            go_wp2_with (fail)
            go_ret3
            exact ⟨by rw [HQN.out]; rfl, HB.out⟩
      | false =>
        obtain rfl : j = s.size := by
          rcases Nat.lt_or_ge j s.size with h | h
          · exact absurd ⟨h, rfl⟩ hgo
          · omega
        have tl : decide (s.size < s.size) = false := by simp
        have HQN : Hid (qName s i = none) := Lib.hid (by
          obtain ⟨h1, h2, h3, h4⟩ := HR.out.2.2
          have hnone : R = none := by
            cases ok with
            | false => exact h1 rfl
            | true =>
              cases st with
              | false => rw [h3 rfl rfl rfl, scn_end s _ _ (Nat.le_refl _)]
              | true =>
                obtain ⟨k1, k2, k3⟩ := h4 rfl rfl rfl
                rw [k3, scn_esc_end s _ _ (by omega) k2 (by omega)]
          unfold qName
          rw [← HRR.out, hnone])
        have HB := Lib.hid HR.out.2.1
        clear HR hgo
        cases st <;> (go_wp2_with (fail); go_ret3; exact ⟨by rw [HQN.out]; rfl, HB.out⟩)
end Go.Proofs.YtldbnfbfhbkclaaDoor
