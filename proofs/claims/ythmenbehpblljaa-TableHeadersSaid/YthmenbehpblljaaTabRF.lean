/-
  The reference of the layout: For.
-/
import Derived.Test.YthmenbehpblljaaTabR
namespace Go.Proofs.Ythmenbehpblljaa
open Go.RowKit Go.Shelf

theorem results_row_tmp {P : Program} {fn : Func} {p q : Tmp} {ty : TypeId} (h : fn.results = #[.cell p ty, .tmp q]) (tmps : Array Value) (w : World) (g : Nat) (t : TypeId) (cs : Array Value) (fr : Nat × Nat) (d : TypeDesc)
    (hp : tmps.getD p undef = .pointer (some ⟨g, 0, none⟩)) (hg : w.heap[g]? = some (.cells cs t fr))
    (hu : P.underlying ty = some d) (hd : (match d with | .struct _ | .array _ _ => true | _ => false) = true) (hi : (P.info? ty).map (·.size) = some cs.size)
    (u : Value) (hq : tmps.getD q undef = u) : (results fn tmps).run P w = .ok (.tuple #[.agg cs, u]) w := by
  have hp' : tmps[p]?.getD undef = .pointer (some ⟨g, 0, none⟩) := by simpa using hp
  have hq' : tmps[q]?.getD undef = u := by simpa using hq
  simp [results, h, hp', hq', asAddr, run_loadVar_row w g t ty cs fr d hg hu hd hi]

theorem secUpto_step (k : Nat) (h1 : 1 ≤ k) (h2 : k ≤ 6) : secUpto k = secUpto (k - 1) ++ [⟨k, h1, h2⟩] := by
  obtain ⟨j, rfl⟩ : ∃ j, k = j + 1 := ⟨k - 1, by omega⟩
  exact secUpto_succ j (by omega)

structure RForI (c : Nat → Nat) (z0 frame : Int) (N : Nat) (pre : List Sec) (W : World) : Prop where
  b0 : W.heap[N]? = some (.cells (countCells z0 c) 22 (0, 0))
  b1 : W.heap[N + 1]? = some (.cells (zeroTab 0) 31 (0, 0))
  b2 : W.heap[N + 2]? = some (.cells (stOf c (zeroTab frame) pre).2 31 (0, 0))

set_option maxRecDepth 100000 in
set_option maxHeartbeats 6000000 in
theorem refFor_any (c : Nat → Nat) (z0 frame : Int) (w : World) (hc : CountsOk c) :
    Calls Try.prog 11 #[.int .u64 frame, .agg (countCells z0 c)] w (RetFor c frame w) := by
  have hcm : ∀ s, c s ≤ 1024 := fun s => Nat.le_trans (hc s) (secLimit_le s)
  go_enter Try.func11, Try.ntmps11
  go_wp2
  have hI0 : RForI c z0 frame w.heap.size [] (((w.alloc (.cells (countCells z0 c) 22)).alloc (.cells (zeroTab 0) 31)).alloc (.cells (zeroTab frame) 31)) := by
    refine ⟨?_, ?_, ?_⟩
    · rw [Below.heap_alloc _ _ _ (by simp; omega), Below.heap_alloc _ _ _ (by simp)]
      exact alloc_at rfl
    · rw [Below.heap_alloc _ _ _ (by simp)]
      exact alloc_at (by simp)
    · exact alloc_at (by simp)
  have hB0 : Below w.heap.size w (((w.alloc (.cells (countCells z0 c) 22)).alloc (.cells (zeroTab 0) 31)).alloc (.cells (zeroTab frame) 31)) :=
    ((((Below.refl _ w).alloc (Nat.le_refl _) _).alloc (by simp) _).alloc (by simp; omega) _)
  obtain ⟨W0, hW0⟩ : ∃ W0, (((w.alloc (.cells (countCells z0 c) 22)).alloc (.cells (zeroTab 0) 31)).alloc (.cells (zeroTab frame) 31)) = W0 := ⟨_, rfl⟩
  rw [hW0] at hI0 hB0
  show Code.wp _ _ _ _ (((w.alloc (.cells (countCells z0 c) 22)).alloc (.cells (zeroTab 0) 31)).alloc (.cells (zeroTab frame) 31))
  rw [hW0]
  have HI0 := Lib.hid hI0; have HB0 := Lib.hid hB0; have HCM := Lib.hid hcm; have HC := Lib.hid hc
  clear hI0 hB0 hW0 hcm hc
  go_loopw [7, 8] (fun v i wr => ∃ k : Nat, 1 ≤ k ∧ k ≤ 7 ∧ i = .int .i64 (k : Int) ∧ v = .int .i64 ((stOf c (zeroTab frame) (secUpto (k - 1))).1 : Int) ∧ Hid (RForI c z0 frame w.heap.size (secUpto (k - 1)) wr) ∧ Hid (Below w.heap.size w wr)) (fun _ i _ => 7 - (intOf i).toNat)
  case atStart => exact ⟨1, by omega, by omega, rfl, rfl, HI0, HB0⟩
  case round =>
    obtain ⟨k, hk, hk2, rfl, rfl, HI, HB⟩ := hrel
    have hA := stOf_le c (zeroTab frame) HCM.out (secUpto (k - 1))
    rw [secUpto_len] at hA
    have hcsz := stOf_size c (zeroTab frame) (secUpto (k - 1))
    by_cases hlt : k ≤ 6
    · have hsn : stOf c (zeroTab frame) (secUpto k) = stStep c (stOf c (zeroTab frame) (secUpto (k - 1))) ⟨k, hk, hlt⟩ := by
        rw [← stOf_snoc, ← secUpto_step k hk hlt]
      have f0 := HI.out.b0; have f1 := HI.out.b1; have f2 := HI.out.b2
      obtain ⟨A, hAe⟩ : ∃ A, A = (stOf c (zeroTab frame) (secUpto (k - 1))).1 := ⟨_, rfl⟩
      obtain ⟨cs, hcse⟩ : ∃ cs, cs = (stOf c (zeroTab frame) (secUpto (k - 1))).2 := ⟨_, rfl⟩
      obtain ⟨C, hC⟩ : ∃ C, C = c k := ⟨_, rfl⟩
      rw [← hAe] at hA ⊢
      rw [← hcse] at hcsz f2
      have hcs16 : cs.size = 16 := hcsz
      have hA2 : A ≤ 400000 := by omega
      have hC2 : C ≤ 1024 := by rw [hC]; exact HCM.out k
      have hCl : C ≤ secLimit k := by rw [hC]; exact HC.out k
      have g0 : wr.cell? ⟨w.heap.size, k, none⟩ = some (.int .i64 (C : Int)) := by rw [cell_of_row _ _ _ _ _ _ f0, hC]; exact countCells_get z0 c k hk hlt
      obtain ⟨v1, g5⟩ : ∃ v, wr.cell? ⟨w.heap.size + 1 + 1, 2 + k, none⟩ = some v := ⟨cs[2 + k]'(by omega), by rw [cell_of_row _ _ _ _ _ _ f2]; simp⟩
      obtain ⟨v2, g6⟩ : ∃ v, wr.cell? ⟨w.heap.size + 1 + 1, 9 + k, none⟩ = some v := ⟨cs[9 + k]'(by omega), by rw [cell_of_row _ _ _ _ _ _ f2]; simp⟩
      have z5 := frozen_of_row wr (w.heap.size + 1 + 1) (2 + k) cs _ f2
      have z6 := frozen_of_row wr (w.heap.size + 1 + 1) (9 + k) cs _ f2
      have hd1 : decide ((C : Int) < 0) = false := by simp
      have hd2 : decide (secLimit k < C) = false := by simp; omega
      have hlim : ∀ W', Calls Try.prog 31 #[.int .i64 (k : Int)] W' fun e w' => e = .returned (.int .i64 (secLimit k : Int)) ∧ w' = W' := fun W' => refLimit_any k W' hk hlt
      have HL := Lib.hid hlim; clear hlim
      have s7 : (k : Int) < 7 := by omega
      have s70 : (0 : Int) ≤ k := by omega
      have F0 := Lib.hid f0; have F1 := Lib.hid f1; have F2 := Lib.hid f2; have HSN := Lib.hid hsn; have HAE := Lib.hid hAe; have HCSE := Lib.hid hcse; have HCE := Lib.hid hC; have HS16 := Lib.hid hcs16
      clear f0 f1 f2 hsn hAe hcse hC hcs16 hcsz hA hCl
      go_wp2
      refine wp_region_quiet_class (C := fun w' => ∃ m, w' = wr.drewN m) (by kernel_rfl) (by kernel_rfl) ⟨1, rfl⟩ ?_
      repeat (first
        | go_big_quiet_skip
        | (go_big_quiet_want; go_big_quiet_op; first
          | go_big_quiet_on
          | (refine ⟨_, fun w' m hw' => rfl, ?_⟩; go_big_quiet_on)
          | (refine ⟨_, fun m => rfl, ?_⟩; go_big_quiet_on)
          | (apply Exists.intro; refine ⟨?_, ?_⟩; (first | (intro w' m hw'; refine (HL.out _).mono ?_; rintro e w2 ⟨rfl, rfl⟩; exact ⟨rfl, _, hw'⟩) | (intro m; refine (HL.out _).mono ?_; rintro e w2 ⟨rfl, rfl⟩; exact ⟨rfl, _, rfl⟩)); go_big_quiet_on)))
      refine wpQuiet_nil ?_
      rintro _ ⟨nq, rfl⟩
      have g6' : ((wr.drewN nq).setCell ⟨w.heap.size + 1 + 1, 2 + k, none⟩ (.int .i64 (A : Int))).cell? ⟨w.heap.size + 1 + 1, 9 + k, none⟩ = some v2 := by
        rw [World.cell?_setCell_other _ _ _ _ (by simp <;> omega)]; exact g6
      go_wp2_with (fail)
      obtain ⟨W2, hW2⟩ : ∃ W2, W2 = (((wr.drewN nq).setCell ⟨w.heap.size + 1 + 1, 2 + k, none⟩ (.int .i64 (A : Int))).setCell ⟨w.heap.size + 1 + 1, 9 + k, none⟩ (.int .i64 (C : Int))) := ⟨_, rfl⟩
      obtain ⟨cs2, hcs2⟩ : ∃ cs2, cs2 = (cs.setIfInBounds (2 + k) (.int .i64 (A : Int))).setIfInBounds (9 + k) (.int .i64 (C : Int)) := ⟨_, rfl⟩
      have hother : ∀ j, j ≠ w.heap.size + 2 → W2.heap[j]? = wr.heap[j]? := by
        intro j hj
        rw [hW2, heap_setCell_other _ _ _ _ hj, heap_setCell_other _ _ _ _ hj]
        rfl
      have k2 : W2.heap[w.heap.size + 2]? = some (.cells cs2 31 (0, 0)) := by
        rw [hW2, hcs2]
        exact heap_setCell_same _ _ _ _ _ _ (heap_setCell_same _ _ _ _ _ _ F2.out)
      have k0 : W2.heap[w.heap.size]? = some (.cells (countCells z0 c) 22 (0, 0)) := (hother _ (by omega)).trans F0.out
      have k1 : W2.heap[w.heap.size + 1]? = some (.cells (zeroTab 0) 31 (0, 0)) := (hother _ (by omega)).trans F1.out
      have kB : Below w.heap.size w W2 := by
        rw [hW2]
        exact ((below_drewN HB.out _).setCell (p := ⟨w.heap.size + 1 + 1, 2 + k, none⟩) (by simp; omega) _).setCell (p := ⟨w.heap.size + 1 + 1, 9 + k, none⟩) (by simp; omega) _
      have g0' : W2.cell? ⟨w.heap.size, k, none⟩ = some (.int .i64 (C : Int)) := by rw [cell_of_row _ _ _ _ _ _ k0, HCE.out]; exact countCells_get z0 c k hk hlt
      rw [← hW2]
      have hz := secSize_le k
      obtain ⟨S, hS⟩ : ∃ S, S = secSize k := ⟨_, rfl⟩
      have hsz : ∀ W', Calls Try.prog 16 #[.int .i64 (k : Int)] W' fun e w' => e = .returned (.int .i64 (S : Int)) ∧ w' = W' := fun W' => by rw [hS]; exact refSize_any k W' hk hlt
      rw [← hS] at hz
      have hm : C * S ≤ 1024 * 56 := Nat.mul_le_mul hC2 hz
      obtain ⟨M, hM⟩ : ∃ M, M = C * S := ⟨_, rfl⟩
      have hM2 : (C : Int) * (S : Int) = (M : Int) := by rw [hM]; push_cast; rfl
      rw [← hM] at hm
      have hal : ∀ W', Calls Try.prog 36 #[.int .i64 ((A : Int) + (M : Int))] W' fun e w' => e = .returned (.int .i64 (alignUp (A + M) : Int)) ∧ w' = W' := fun W' => by
        have := refAlign_any (A + M) W' (by omega)
        rwa [show ((A + M : Nat) : Int) = (A : Int) + (M : Int) from by omega] at this
      have hw1 : IntKind.i64.wrap ((C : Int) * (S : Int)) = (M : Int) := by rw [hM2, IntKind.wrap_i64]; omega
      have hw2 : IntKind.i64.wrap ((A : Int) + (M : Int)) = (A : Int) + (M : Int) := by rw [IntKind.wrap_i64]; omega
      have HSZ := Lib.hid hsz; have HAL := Lib.hid hal; have K0 := Lib.hid k0; have K1 := Lib.hid k1; have K2 := Lib.hid k2; have KB := Lib.hid kB; have HCS2 := Lib.hid hcs2; have HM := Lib.hid hM; have HSS := Lib.hid hS
      clear hsz hal k0 k1 k2 kB hother hcs2 hW2 hM hM2 hm g0 g5 g6 g6' z5 z6 hd1 hd2 hS
      refine wp_region_quiet_class (C := fun w' => ∃ m, w' = W2.drewN m) (by kernel_rfl) (by kernel_rfl) ⟨1, rfl⟩ ?_
      repeat (first
        | go_big_quiet_skip
        | (go_big_quiet_want; go_big_quiet_op; first
          | go_big_quiet_on
          | (refine ⟨_, fun w' m hw' => rfl, ?_⟩; go_big_quiet_on)
          | (refine ⟨_, fun m => rfl, ?_⟩; go_big_quiet_on)
          | (apply Exists.intro; refine ⟨?_, ?_⟩; (first | (intro w' m hw'; refine (HSZ.out _).mono ?_; rintro e w2 ⟨rfl, rfl⟩; exact ⟨rfl, _, hw'⟩) | (intro m; refine (HSZ.out _).mono ?_; rintro e w2 ⟨rfl, rfl⟩; exact ⟨rfl, _, rfl⟩)); go_big_quiet_on)
          | (apply Exists.intro; refine ⟨?_, ?_⟩; (first | (intro w' m hw'; refine (HAL.out _).mono ?_; rintro e w2 ⟨rfl, rfl⟩; exact ⟨rfl, _, hw'⟩) | (intro m; refine (HAL.out _).mono ?_; rintro e w2 ⟨rfl, rfl⟩; exact ⟨rfl, _, rfl⟩)); go_big_quiet_on)))
      refine wpQuiet_nil ?_
      rintro _ ⟨nq2, rfl⟩
      go_wp2_with (fail)
      have hst : stOf c (zeroTab frame) (secUpto k) = (alignUp (A + M), cs2) := by
        rw [HSN.out, stStep, ← HAE.out, ← HCSE.out, HCS2.out, HM.out, HCE.out, HSS.out]
      go_roundw
      case rel => exact ⟨k + 1, by omega, by omega, by go_num, by rw [show k + 1 - 1 = k from rfl, hst], ⟨K0.out, K1.out, by rw [show k + 1 - 1 = k from rfl, hst]; exact K2.out⟩, below_drewN KB.out _⟩
      case measure => simp [intOf]; omega
    · obtain rfl : k = 7 := by omega
      have hst := stOf_all c frame
      have f0 := HI.out.b0; have f1 := HI.out.b1; have f2 := HI.out.b2
      rw [show 7 - 1 = 6 from rfl] at hA hcsz f2 ⊢
      obtain ⟨cs, hcse⟩ : ∃ cs, cs = (stOf c (zeroTab frame) (secUpto 6)).2 := ⟨_, rfl⟩
      rw [← hcse] at f2 hcsz
      have hst2 := hst.2
      rw [← hcse] at hst2
      rw [hst.1] at hA ⊢
      obtain ⟨A, hAe⟩ : ∃ A, A = nextOf c 6 := ⟨_, rfl⟩
      rw [← hAe] at hA hst2 ⊢
      have hsz : cs.size = 16 := hcsz
      obtain ⟨v3, g3⟩ : ∃ v3, wr.cell? ⟨w.heap.size + 1 + 1, 1, none⟩ = some v3 := ⟨cs[1], by rw [cell_of_row _ _ _ _ _ _ f2]; simp [hsz]⟩
      have z3 := frozen_of_row wr (w.heap.size + 1 + 1) 1 cs _ f2
      have f2' : (wr.setCell ⟨w.heap.size + 1 + 1, 1, none⟩ (.int .i64 ((A : Int) + 4))).heap[w.heap.size + 2]? = some (.cells (tabCells c frame) 31 (0, 0)) := by
        rw [heap_setCell_same _ _ _ _ _ _ f2, ← hst2]
        rfl
      have f1' := (heap_setCell_other wr ⟨w.heap.size + 1 + 1, 1, none⟩ (w.heap.size + 1) (.int .i64 ((A : Int) + 4)) (by simp)).trans f1
      have hB' := HB.out.setCell (p := ⟨w.heap.size + 1 + 1, 1, none⟩) (by simp; omega) (.int .i64 ((A : Int) + 4))
      have HF1 := Lib.hid f1'; have HF2 := Lib.hid f2'; have HB' := Lib.hid hB'
      have hA3 : A ≤ 1000000 := by omega
      clear f0 f1 f2 hst hst2 hcse hAe f1' f2' hB' hsz hA hcsz
      go_wp2_with (first
        | (refine wpList_load_row rfl 31 (.tmp 6) rfl (w.heap.size + 2) rfl 31 (tabCells c frame) (0, 0) _ HF2.out rfl rfl rfl ?_)
        | (refine wpList_store_row rfl 31 (.tmp 4) (.tmp 50) rfl (w.heap.size + 1) (tabCells c frame) rfl rfl 31 (zeroTab 0) HF1.out rfl rfl (by simp [tabCells, Value.oneCell']) ?_))
      refine bodyPost_ret (v := .tuple #[.agg (tabCells c frame), .bool true]) (results_row_tmp rfl _ _ (w.heap.size + 1) 31 (tabCells c frame) (0, 0) _ rfl (setRow_heap _ _ _ _ _ (0, 0) HF1.out) rfl rfl rfl _ rfl) rfl ?_
      exact ⟨rfl, below_setRow HB'.out (by omega) _⟩
end Go.Proofs.Ythmenbehpblljaa
