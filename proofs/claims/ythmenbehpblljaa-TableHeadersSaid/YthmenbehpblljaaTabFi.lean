/-
  The law TableFinds: the walk.
-/
import Derived.Test.YthmenbehpblljaaTabL
namespace Go.Proofs.Ythmenbehpblljaa
open Go.RowKit Go.Shelf

theorem rec_pos (c : Nat → Nat) (a b R : Int) (h : R = recOf c a b) (h0 : 0 ≤ R) : 1 ≤ a ∧ a ≤ 6 := by
  unfold recOf at h
  split at h
  · rename_i hh; exact ⟨hh.1, hh.2.1⟩
  · omega
theorem rec_spec (c : Nat → Nat) (a b R : Int) (h : R = recOf c a b) (h0 : 0 ≤ R) :
    ∃ k j : Nat, a = (k : Int) ∧ b = (j : Int) ∧ 1 ≤ k ∧ k ≤ 6 ∧ j < c k ∧ R = ((nextOf c (k - 1) + j * secSize k : Nat) : Int) := by
  unfold recOf at h
  split at h
  · rename_i hh
    refine ⟨a.toNat, b.toNat, by omega, by omega, by omega, by omega, by omega, ?_⟩
    rw [h]
    push_cast
    rw [show ((b.toNat : Nat) : Int) = b from by omega]
  · omega
theorem secIs_rec (c : Nat → Nat) (a b R : Int) (h : R = recOf c a b) (h0 : 0 ≤ R) : SecIs c R a b ∧ SecIs c (R + (secSize a.toNat : Int) - 1) a b := by
  obtain ⟨k, j, rfl, rfl, h1, h2, h3, rfl⟩ := rec_spec c a b R h h0
  have hS : 0 < secSize k := by have := secSize_pos k; omega
  have h80 := nextOf_ge c (k - 1)
  have hend := end_le c k h1
  have hmono := nextOf_mono c h2
  have h5 : (j + 1) * secSize k ≤ c k * secSize k := Nat.mul_le_mul_right _ h3
  rw [Nat.succ_mul] at h5
  rw [Int.toNat_natCast]
  obtain ⟨S, hSe⟩ : ∃ S, S = secSize k := ⟨_, rfl⟩
  obtain ⟨O, hO⟩ : ∃ O, O = nextOf c (k - 1) := ⟨_, rfl⟩
  rw [← hSe] at hS hend h5 ⊢
  rw [← hO] at h80 hend ⊢
  have key : ∀ p, O + j * S ≤ p → p < O + j * S + S → SecIs c (p : Int) (k : Int) (j : Int) := by
    intro p hp1 hp2
    refine .inr (.inr (.inr ⟨p, rfl, by omega, by omega, .inl ⟨k, h1, h2, ⟨by rw [← hO]; omega, by rw [← hO, ← hSe]; omega⟩, rfl, ?_⟩⟩))
    rw [← hO, ← hSe, rec_index O S j p hS hp1 hp2]
  constructor
  · exact key _ (by omega) (by omega)
  · have := key (O + j * S + S - 1) (by omega) (by omega)
    rwa [show ((O + j * S + S - 1 : Nat) : Int) = ((O + j * S : Nat) : Int) + (S : Int) - 1 from by omega] at this
theorem rec_le (c : Nat → Nat) (a b R : Int) (hc : CountsOk c) (h : R = recOf c a b) (h0 : 0 ≤ R) : R ≤ 1000000 := by
  obtain ⟨k, j, rfl, rfl, h1, h2, h3, rfl⟩ := rec_spec c a b R h h0
  have hO := nextOf_le c (fun s => Nat.le_trans (hc s) (secLimit_le s)) (k - 1)
  have hm : j * secSize k ≤ 1024 * 56 := Nat.mul_le_mul (by have := hc k; have := secLimit_le k; omega) (secSize_le k)
  omega

section laws
variable {P : Program}
/-- A whole struct out of its row, by an operation that is guarded and wanted. -/
theorem wpList_load_row_w {ops : Array Oper} {rest : List Oper} {o : Oper} {a : Act} {w : World} {Q : Exit → Act → World → Prop} (hw : Region.wanted o (yielded ops a.tmps) = true) (ty : TypeId) (x : Operand) (ho : o.op = .load ty x)
    (g : Nat) (hx : a.eval x = .pointer (some ⟨g, 0, none⟩)) (t : TypeId) (cs : Array Value) (fr : Nat × Nat) (d : TypeDesc) (hg : w.heap[g]? = some (.cells cs t fr))
    (hu : P.underlying ty = some d) (hd : (match d with | .struct _ | .array _ _ => true | _ => false) = true) (hi : (P.info? ty).map (·.size) = some cs.size)
    (h : wpList P ops Q rest (a.put o.dst (.agg cs)) w) : wpList P ops Q (o :: rest) a w :=
  wpList_step fun _ hK => by simp only [hw, if_true]; exact wp_load_row ty x ho g hx t cs fr d hg hu hd hi (hK _ _ h)
end laws

set_option maxRecDepth 100000 in
set_option maxHeartbeats 8000000 in
theorem finds_walk (z : Nat → Int) (x a b : Int) (w : World) :
    Calls Try.prog 3 #[.agg (zCells z), .int .i64 x, .agg #[.int .i64 a, .int .i64 b]] w fun e w' => e = .returned (.bool true) ∧ Below w.heap.size w w' := by
  obtain ⟨W0, hW0⟩ : ∃ W0, (w.alloc (.cells (zCells z) 22)).alloc (.cells #[.int .i64 a, .int .i64 b] 23) = W0 := ⟨_, rfl⟩
  have rz : W0.heap[w.heap.size]? = some (.cells (zCells z) 22 (0, 0)) := by
    rw [← hW0, Below.heap_alloc _ _ _ (by simp)]; exact alloc_at rfl
  have rx : W0.heap[w.heap.size + 1]? = some (.cells #[.int .i64 a, .int .i64 b] 23 (0, 0)) := by
    rw [← hW0]; exact alloc_at (by simp)
  have hB : Below w.heap.size w W0 := by
    rw [← hW0]; exact (((Below.refl _ w).alloc (Nat.le_refl _) _).alloc (by simp) _)
  have RZ := Lib.hid rz; have RX := Lib.hid rx; have HB := Lib.hid hB; have HW0 := Lib.hid hW0
  clear rz rx hB hW0
  go_enter Try.func3, Try.ntmps3
  go_wp2_with (refine wpList_load_row rfl 22 (.tmp 3) rfl w.heap.size rfl 22 (zCells z) (0, 0) _ (by rw [HW0.out]; exact RZ.out) rfl rfl rfl ?_)
  show Calls _ _ _ ((w.alloc (.cells (zCells z) 22)).alloc (.cells #[.int .i64 a, .int .i64 b] 23)) _
  rw [HW0.out]
  refine (right_any z W0).mono ?_
  rintro e W1 ⟨ok, rfl, hok, hb⟩
  have RZ1 := Lib.hid ((hb.block _ (lt_of_block RZ.out)).trans RZ.out)
  have RX1 := Lib.hid ((hb.block _ (lt_of_block RX.out)).trans RX.out)
  have HB1 := Lib.hid (HB.out.trans (hb.mono HB.out.size))
  clear RZ RX HB HW0 hb
  cases ok with
  | false =>
    clear hok
    go_wp2_with (fail)
    refine (alive10_any W1).mono ?_
    rintro e W2 ⟨rfl, hb⟩
    go_wp2
    go_ret
    exact ⟨rfl, HB1.out.trans (hb.mono HB1.out.size)⟩
  | true =>
    obtain ⟨c, hc, hzc⟩ := counts_of_right z (hok.1 rfl)
    rw [hzc] at RZ1
    have HC := Lib.hid hc
    clear hok hzc hc
    go_wp2_with (refine wpList_load_row rfl 22 (.tmp 3) rfl w.heap.size rfl 22 (countCells (z 0) c) (0, 0) _ RZ1.out rfl rfl rfl ?_)
    refine (for_any c (z 0) 1 W1 HC.out).mono ?_
    rintro e W2 ⟨rfl, hb⟩
    have RZ2 := Lib.hid ((hb.block _ (lt_of_block RZ1.out)).trans RZ1.out)
    have RX2 := Lib.hid ((hb.block _ (lt_of_block RX1.out)).trans RX1.out)
    have HB2 := Lib.hid (HB1.out.trans (hb.mono HB1.out.size))
    clear RZ1 RX1 HB1 hb
    obtain ⟨W3, hW3⟩ : ∃ W3, W3 = (W2.alloc (.cells (zeroTab 0) 28)).setRow W2.heap.size (tabCells c 1) := ⟨_, rfl⟩
    have rt : W3.heap[W2.heap.size]? = some (.cells (tabCells c 1) 28 (0, 0)) := by rw [hW3]; exact setRow_heap _ _ _ _ _ (0, 0) (alloc_at rfl)
    have l1 := lt_of_block RZ2.out; have l2 := lt_of_block RX2.out
    have RZ3 : Hid (W3.heap[w.heap.size]? = some (.cells (countCells (z 0) c) 22 (0, 0))) := Lib.hid (by rw [hW3, setRow_other _ _ _ _ (by omega), Below.heap_alloc _ _ _ (by omega)]; exact RZ2.out)
    have RX3 : Hid (W3.heap[w.heap.size + 1]? = some (.cells #[.int .i64 a, .int .i64 b] 23 (0, 0))) := Lib.hid (by rw [hW3, setRow_other _ _ _ _ (by omega), Below.heap_alloc _ _ _ (by omega)]; exact RX2.out)
    have HB3 : Hid (Below w.heap.size w W3) := Lib.hid (by rw [hW3]; exact below_setRow (HB2.out.alloc HB2.out.size _) (by have := HB2.out.size; omega) _)
    have RT := Lib.hid rt; have HW3 := Lib.hid hW3
    clear rt hW3 RZ2 RX2 HB2 l1 l2
    go_wp2_with (first
      | (refine wpList_store_row rfl 28 (.tmp 7) (.tmp 27) rfl W2.heap.size (tabCells c 1) rfl rfl 28 _ (alloc_at rfl) rfl rfl (by simp [tabCells, Value.oneCell']) ?_)
      | (refine wpList_load_row rfl 22 (.tmp 3) rfl w.heap.size rfl 22 (countCells (z 0) c) (0, 0) _ (by have h := RZ3.out; rw [HW3.out] at h; exact h) rfl rfl rfl ?_))
    show Calls _ _ _ ((W2.alloc (.cells (zeroTab 0) 28)).setRow W2.heap.size (tabCells c 1)) _
    rw [← HW3.out]
    refine (refFor_any c (z 0) 1 W3 HC.out).mono ?_
    rintro e W4 ⟨rfl, hb⟩
    have RT4 := Lib.hid ((hb.block _ (lt_of_block RT.out)).trans RT.out)
    have RX4 := Lib.hid ((hb.block _ (lt_of_block RX3.out)).trans RX3.out)
    have HB4 := Lib.hid (HB3.out.trans (hb.mono HB3.out.size))
    clear RZ3 RX3 RT HB3 HW3 hb
    obtain ⟨W5, hW5⟩ : ∃ W5, W5 = (W4.alloc (.cells (zeroTab 0) 31)).setRow W4.heap.size (tabCells c 1) := ⟨_, rfl⟩
    have ru : W5.heap[W4.heap.size]? = some (.cells (tabCells c 1) 31 (0, 0)) := by rw [hW5]; exact setRow_heap _ _ _ _ _ (0, 0) (alloc_at rfl)
    have l1 := lt_of_block RT4.out; have l2 := lt_of_block RX4.out
    have RT5 : Hid (W5.heap[W2.heap.size]? = some (.cells (tabCells c 1) 28 (0, 0))) := Lib.hid (by rw [hW5, setRow_other _ _ _ _ (by omega), Below.heap_alloc _ _ _ (by omega)]; exact RT4.out)
    have RX5 : Hid (W5.heap[w.heap.size + 1]? = some (.cells #[.int .i64 a, .int .i64 b] 23 (0, 0))) := Lib.hid (by rw [hW5, setRow_other _ _ _ _ (by omega), Below.heap_alloc _ _ _ (by omega)]; exact RX4.out)
    have HB5 : Hid (Below w.heap.size w W5) := Lib.hid (by rw [hW5]; exact below_setRow (HB4.out.alloc HB4.out.size _) (by have := HB4.out.size; omega) _)
    have RU5 := Lib.hid ru; have HW5 := Lib.hid hW5
    clear ru hW5 RT4 RX4 HB4 l1 l2
    go_wp2_with (first
      | (refine wpList_store_row rfl 31 (.tmp 9) (.tmp 32) rfl W4.heap.size (tabCells c 1) rfl rfl 31 _ (alloc_at rfl) rfl rfl (by simp [tabCells, Value.oneCell']) ?_)
      | (refine wpList_load_row rfl 28 (.tmp 7) rfl W2.heap.size rfl 28 (tabCells c 1) (0, 0) _ (by have h := RT5.out; rw [HW5.out] at h; exact h) rfl rfl rfl ?_))
    show Calls _ _ _ ((W4.alloc (.cells (zeroTab 0) 31)).setRow W4.heap.size (tabCells c 1)) _
    rw [← HW5.out]
    refine (section_any c 1 x W5 HC.out).mono ?_
    rintro e W6 ⟨s1, i1, rfl, hs1, hb⟩
    have RT6 := Lib.hid ((hb.block _ (lt_of_block RT5.out)).trans RT5.out)
    have RX6 := Lib.hid ((hb.block _ (lt_of_block RX5.out)).trans RX5.out)
    have RU6 := Lib.hid ((hb.block _ (lt_of_block RU5.out)).trans RU5.out)
    have HB6 := Lib.hid (HB5.out.trans (hb.mono HB5.out.size))
    have HS1 := Lib.hid hs1
    clear RT5 RX5 RU5 HB5 HW5 hb hs1
    go_wp2_with (refine wpList_load_row rfl 31 (.tmp 9) rfl W4.heap.size rfl 31 (tabCells c 1) (0, 0) _ RU6.out rfl rfl rfl ?_)
    refine (refSection_any c 1 x W6 HC.out).mono ?_
    rintro e W7 ⟨s2, i2, rfl, hs2, hb⟩
    obtain ⟨rfl, rfl⟩ := secIs_unique c x _ _ _ _ HS1.out hs2
    have RT7 := Lib.hid ((hb.block _ (lt_of_block RT6.out)).trans RT6.out)
    have RX7 := Lib.hid ((hb.block _ (lt_of_block RX6.out)).trans RX6.out)
    have RU7 := Lib.hid ((hb.block _ (lt_of_block RU6.out)).trans RU6.out)
    have HB7 := Lib.hid (HB6.out.trans (hb.mono HB6.out.size))
    clear RT6 RX6 RU6 HB6 hb hs2
    have xa : W7.cell? ⟨w.heap.size + 1, 0, none⟩ = some (.int .i64 a) := by rw [cell_of_row _ _ _ _ _ _ RX7.out]; rfl
    have xb : W7.cell? ⟨w.heap.size + 1, 1, none⟩ = some (.int .i64 b) := by rw [cell_of_row _ _ _ _ _ _ RX7.out]; rfl
    go_wp2_with (refine wpList_load_row rfl 28 (.tmp 7) rfl W2.heap.size rfl 28 (tabCells c 1) (0, 0) _ RT7.out rfl rfl rfl ?_)
    refine (record_any c 1 a b W7 HC.out).mono ?_
    rintro e W8 ⟨rfl, hb⟩
    have RT8 := Lib.hid ((hb.block _ (lt_of_block RT7.out)).trans RT7.out)
    have RX8 := Lib.hid ((hb.block _ (lt_of_block RX7.out)).trans RX7.out)
    have RU8 := Lib.hid ((hb.block _ (lt_of_block RU7.out)).trans RU7.out)
    have HB8 := Lib.hid (HB7.out.trans (hb.mono HB7.out.size))
    clear RT7 RX7 RU7 HB7 hb xa xb
    have xa : W8.cell? ⟨w.heap.size + 1, 0, none⟩ = some (.int .i64 a) := by rw [cell_of_row _ _ _ _ _ _ RX8.out]; rfl
    have xb : W8.cell? ⟨w.heap.size + 1, 1, none⟩ = some (.int .i64 b) := by rw [cell_of_row _ _ _ _ _ _ RX8.out]; rfl
    obtain ⟨R, hR⟩ : ∃ R, R = recOf c a b := ⟨_, rfl⟩
    have hrr := refRecord_any c 1 a b W8 HC.out
    rw [← hR] at hrr ⊢
    have HRR := Lib.hid hrr; have HR := Lib.hid hR
    clear hrr hR
    have ne1 : (s1 != s1) = false := by simp
    have ne2 : (i1 != i1) = false := by simp
    go_wp2_with (refine wpList_load_row_w (by kernel_rfl) 31 (.tmp 9) rfl W4.heap.size rfl 31 (tabCells c 1) (0, 0) _ RU8.out rfl rfl rfl ?_)
    refine (HRR.out).mono ?_
    rintro e W9 ⟨rfl, hb⟩
    have RT9 := Lib.hid ((hb.block _ (lt_of_block RT8.out)).trans RT8.out)
    have RX9 := Lib.hid ((hb.block _ (lt_of_block RX8.out)).trans RX8.out)
    have HB9 := Lib.hid (HB8.out.trans (hb.mono HB8.out.size))
    clear RT8 RX8 RU8 HB8 hb xa xb
    have ne3 : (R != R) = false := by simp
    by_cases hR0 : 0 ≤ R
    · have t0 : decide (0 ≤ R) = true := by simp [hR0]
      obtain ⟨hs1, hs2⟩ := secIs_rec c a b R HR.out hR0
      have hsz : ∀ W', Calls Try.prog 16 #[.int .i64 a] W' fun e w' => e = .returned (.int .i64 (secSize a.toNat : Int)) ∧ w' = W' := fun W' => by
        have hk := rec_pos c a b R HR.out hR0
        have := refSize_any a.toNat W' (by omega) (by omega)
        rwa [show ((a.toNat : Nat) : Int) = a from by omega] at this
      have hle := rec_le c a b R HC.out HR.out hR0
      have hzle := secSize_le a.toNat
      obtain ⟨S, hS⟩ : ∃ S, S = secSize a.toNat := ⟨_, rfl⟩
      rw [← hS] at hs2 hsz hzle
      have hsec1 : Calls Try.prog 12 #[.agg (tabCells c 1), .int .i64 R] W9 fun e w' => e = .returned (.tuple #[.int .i64 a, .int .i64 b]) ∧ Below W9.heap.size W9 w' := by
        refine (section_any c 1 R W9 HC.out).mono ?_
        rintro e w' ⟨s3, i3, rfl, h3, h4⟩
        obtain ⟨rfl, rfl⟩ := secIs_unique c R _ _ _ _ h3 hs1
        exact ⟨rfl, h4⟩
      have hsec2 : ∀ W', Calls Try.prog 12 #[.agg (tabCells c 1), .int .i64 (R + (S : Int) - 1)] W' fun e w' => e = .returned (.tuple #[.int .i64 a, .int .i64 b]) ∧ Below W'.heap.size W' w' := fun W' => by
        refine (section_any c 1 (R + (S : Int) - 1) W' HC.out).mono ?_
        rintro e w' ⟨s3, i3, rfl, h3, h4⟩
        obtain ⟨rfl, rfl⟩ := secIs_unique c _ _ _ _ _ h3 hs2
        exact ⟨rfl, h4⟩
      have w1 : IntKind.i64.wrap (R + (S : Int)) = R + (S : Int) := by rw [IntKind.wrap_i64]; omega
      have w2 : IntKind.i64.wrap (R + (S : Int) - 1) = R + (S : Int) - 1 := by rw [IntKind.wrap_i64]; omega
      have HSZ := Lib.hid hsz; have HSEC1 := Lib.hid hsec1; have HSEC2 := Lib.hid hsec2; have HSS := Lib.hid hS
      clear hs1 hs2 hsz hsec1 hsec2 hS
      go_wp2_with (refine wpList_load_row rfl 28 (.tmp 7) rfl W2.heap.size rfl 28 (tabCells c 1) (0, 0) _ RT9.out rfl rfl rfl ?_)
      refine (HSEC1.out).mono ?_
      rintro e W10 ⟨rfl, hb⟩
      have RT10 := Lib.hid ((hb.block _ (lt_of_block RT9.out)).trans RT9.out)
      have RX10 := Lib.hid ((hb.block _ (lt_of_block RX9.out)).trans RX9.out)
      have HB10 := Lib.hid (HB9.out.trans (hb.mono HB9.out.size))
      clear RT9 RX9 HB9 hb
      have xa : W10.cell? ⟨w.heap.size + 1, 0, none⟩ = some (.int .i64 a) := by rw [cell_of_row _ _ _ _ _ _ RX10.out]; rfl
      go_wp2_with (fail)
      refine wp_region_quiet_class (C := fun W' => Below W10.heap.size W10 W') (by kernel_rfl) (by kernel_rfl) ((Below.refl _ W10).drew) ?_
      repeat (first
        | go_big_quiet_skip
        | (go_big_quiet_want; first
          | (go_big_quiet_op; first
            | go_big_quiet_on
            | (refine ⟨_, fun w' hw' => rfl, ?_⟩; go_big_quiet_on)
            | (apply Exists.intro; refine ⟨fun w' hw' => ?_, ?_⟩; (rw [(hw'.cell (block_lt_of_cell xa)).trans xa]; exact ⟨rfl, rfl⟩); go_big_quiet_on)
            | (apply Exists.intro; refine ⟨fun w' hw' => ?_, ?_⟩; (refine (HSZ.out w').mono ?_; rintro e w2 ⟨rfl, rfl⟩; exact ⟨rfl, hw'⟩); go_big_quiet_on)
            | (apply Exists.intro; refine ⟨fun w' hw' => ?_, ?_⟩; (refine (HSEC2.out w').mono ?_; rintro e w2 ⟨rfl, hb⟩; exact ⟨rfl, hw'.trans (hb.mono hw'.size)⟩); go_big_quiet_on))
          | (refine quiet_load_row 28 (.tmp 7) rfl W2.heap.size rfl 28 (tabCells c 1) (0, 0) _ (fun w' hw' => (hw'.block _ (lt_of_block RT10.out)).trans RT10.out) rfl rfl rfl ?_; simp only [Act.put, List.setIfInBounds_toArray, List.set_cons_succ, List.set_cons_zero]; go_big_quiet_on)))
      refine wpQuiet_nil ?_
      intro W11 hb
      have RX11 := Lib.hid ((hb.block _ (lt_of_block RX10.out)).trans RX10.out)
      have HB11 := Lib.hid (HB10.out.trans (hb.mono HB10.out.size))
      clear RT10 RX10 HB10 hb xa
      go_wp2_with (fail)
      refine (alive10_any W11).mono ?_
      rintro e W12 ⟨rfl, hb⟩
      have xa : W12.cell? ⟨w.heap.size + 1, 0, none⟩ = some (.int .i64 a) := by rw [cell_of_row _ _ _ _ _ _ ((hb.block _ (lt_of_block RX11.out)).trans RX11.out)]; rfl
      have xb : W12.cell? ⟨w.heap.size + 1, 1, none⟩ = some (.int .i64 b) := by rw [cell_of_row _ _ _ _ _ _ ((hb.block _ (lt_of_block RX11.out)).trans RX11.out)]; rfl
      have ea : (a == a) = true := by simp
      have eb : (b == b) = true := by simp
      go_wp2_with (fail)
      go_ret
      exact ⟨rfl, HB11.out.trans (hb.mono HB11.out.size)⟩
    · have t0 : decide (0 ≤ R) = false := by simp; omega
      go_wp2_with (fail)
      refine (alive10_any W9).mono ?_
      rintro e W10 ⟨rfl, hb⟩
      go_wp2_with (fail)
      go_ret
      exact ⟨rfl, HB9.out.trans (hb.mono HB9.out.size)⟩
theorem finds_list (z0 : List Int) (x : Int) (z2 : List Int) (w : World) (l0 : z0.length = 7) (l2 : z2.length = 2) :
    Calls Try.prog 3 #[.agg (z0.map (Value.int .i64)).toArray, .int .i64 x, .agg (z2.map (Value.int .i64)).toArray] w fun e w' => e = .returned (.bool true) ∧ Below w.heap.size w w' := by
  match z0, l0 with
  | [t0, t1, t2, t3, t4, t5, t6], _ =>
    match z2, l2 with
    | [a, b], _ => exact finds_walk (fun s => match s with | 0 => t0 | 1 => t1 | 2 => t2 | 3 => t3 | 4 => t4 | 5 => t5 | _ => t6) x a b w
end Go.Proofs.Ythmenbehpblljaa
