/-
  The law TableCovers: the walk.
-/
import Derived.Test.YthmenbehpblljaaTabCo
import Derived.Test.YthmenbehpblljaaTabFi
namespace Go.Proofs.Ythmenbehpblljaa
open Go.RowKit Go.Shelf

section laws
variable {P : Program}
/-- A pair out of a row, wherever it lies. -/
theorem run_loadVar_pair (w : World) (p : Addr) (ty : TypeId) (a b : Value) (d : TypeDesc) (h0 : w.cell? p = some a) (h1 : w.cell? (p.add 1) = some b)
    (hu : P.underlying ty = some d) (hd : (match d with | .struct _ | .array _ _ => true | _ => false) = true) (hi : (P.info? ty).map (·.size) = some 2) :
    (loadVar ty p).run P w = .ok (.agg #[a, b]) w := by
  have hl : (loadCells p [a, b].length).run P w = .ok [a, b].toArray w :=
    run_loadCells_list (P := P) w p [a, b] (fun j v hv => by
      match j with
      | 0 => simp at hv; subst hv; exact h0
      | 1 => simp at hv; subst hv; exact h1
      | j + 2 => simp at hv)
  cases hq : P.info? ty with
  | none => simp [hq] at hi
  | some i =>
    have hs : i.size = 2 := by simpa [hq] using hi
    have hagg : (isAgg ty).run P w = .ok true w := by
      unfold isAgg
      rw [Sem.run_bind, run_underlying hu w]
      cases d <;> simp_all
    simp only [List.length_cons, List.length_nil] at hl
    simp [loadVar, Sem.run_bind, hagg, sizeOf, typeInfo, hq, hs, hl]
theorem wpList_load_pair {ops : Array Oper} {rest : List Oper} {o : Oper} {a : Act} {w : World} {Q : Exit → Act → World → Prop} (hgd : o.guard = none) (ty : TypeId) (x : Operand) (ho : o.op = .load ty x)
    (p : Addr) (hx : a.eval x = .pointer (some p)) (u v : Value) (d : TypeDesc) (h0 : w.cell? p = some u) (h1 : w.cell? (p.add 1) = some v)
    (hu : P.underlying ty = some d) (hd : (match d with | .struct _ | .array _ _ => true | _ => false) = true) (hi : (P.info? ty).map (·.size) = some 2)
    (h : wpList P ops Q rest (a.put o.dst (.agg #[u, v])) w) : wpList P ops Q (o :: rest) a w :=
  wpList_plain hgd fun _ hK => by
    unfold Oper.wp execOp
    simp only [ho, hx, Instr.loadAt, Instr.sureAddr, Sem.run_bind, Sem.run_pure, Result.andThen_ok, run_loadVar_pair w p ty u v d h0 h1 hu hd hi]
    exact hK _ _ h
theorem ownsRow_base0 {w : World} {B e size n : Nat} {v : Value} {xs : List Value} (h : w.ownsRow B e size v n xs) : w.ownsRow 0 e size v n xs := by
  refine ⟨h.1, ?_⟩
  rcases h.2 with ⟨h1, h2⟩ | ⟨g, cap, cur, h1, h2, h3, h4⟩
  · exact .inl ⟨h1, h2⟩
  · exact .inr ⟨g, cap, cur, h1, Nat.zero_le _, h3, h4⟩
end laws

set_option maxRecDepth 100000 in
set_option maxHeartbeats 8000000 in
theorem covers_walk (z : Nat → Int) (w : World) :
    Calls Try.prog 4 #[.agg (zCells z)] w fun e w' => e = .returned (.bool true) ∧ Below w.heap.size w w' := by
  obtain ⟨W0, hW0⟩ : ∃ W0, w.alloc (.cells (zCells z) 22) = W0 := ⟨_, rfl⟩
  have rz : W0.heap[w.heap.size]? = some (.cells (zCells z) 22 (0, 0)) := by
    rw [← hW0]; exact alloc_at rfl
  have hB : Below w.heap.size w W0 := by
    rw [← hW0]; exact (Below.refl _ w).alloc (Nat.le_refl _) _
  have RZ := Lib.hid rz; have HB := Lib.hid hB; have HW0 := Lib.hid hW0
  clear rz hB hW0
  go_enter Try.func4, Try.ntmps4
  go_wp2_with (refine wpList_load_row rfl 22 (.tmp 1) rfl w.heap.size rfl 22 (zCells z) (0, 0) _ (by rw [HW0.out]; exact RZ.out) rfl rfl rfl ?_)
  show Calls _ _ _ (w.alloc (.cells (zCells z) 22)) _
  rw [HW0.out]
  refine (right_any z W0).mono ?_
  rintro e W1 ⟨ok, rfl, hok, hb⟩
  have RZ1 := Lib.hid ((hb.block _ (lt_of_block RZ.out)).trans RZ.out)
  have HB1 := Lib.hid (HB.out.trans (hb.mono HB.out.size))
  clear RZ HB HW0 hb
  cases ok with
  | false =>
    clear hok
    go_wp2_with (fail)
    refine (alive10_any W1).mono ?_
    rintro e W2 ⟨rfl, hb⟩
    go_wp2
    go_ret
    exact ⟨rfl, HB1.out.trans (hb.mono HB1.out.size)⟩
  | true =>
    obtain ⟨c, hc, hzc⟩ := counts_of_right z (hok.1 rfl)
    rw [hzc] at RZ1
    have HC := Lib.hid hc
    clear hok hzc hc
    go_wp2_with (refine wpList_load_row rfl 22 (.tmp 1) rfl w.heap.size rfl 22 (countCells (z 0) c) (0, 0) _ RZ1.out rfl rfl rfl ?_)
    refine (for_any c (z 0) 1 W1 HC.out).mono ?_
    rintro e W2 ⟨rfl, hb⟩
    have RZ2 := Lib.hid ((hb.block _ (lt_of_block RZ1.out)).trans RZ1.out)
    have HB2 := Lib.hid (HB1.out.trans (hb.mono HB1.out.size))
    clear RZ1 HB1 hb
    obtain ⟨W3, hW3⟩ : ∃ W3, W3 = (W2.alloc (.cells (zeroTab 0) 28)).setRow W2.heap.size (tabCells c 1) := ⟨_, rfl⟩
    have rt : W3.heap[W2.heap.size]? = some (.cells (tabCells c 1) 28 (0, 0)) := by rw [hW3]; exact setRow_heap _ _ _ _ _ (0, 0) (alloc_at rfl)
    have l1 := lt_of_block RZ2.out
    have RZ3 : Hid (W3.heap[w.heap.size]? = some (.cells (countCells (z 0) c) 22 (0, 0))) := Lib.hid (by rw [hW3, setRow_other _ _ _ _ (by omega), Below.heap_alloc _ _ _ (by omega)]; exact RZ2.out)
    have HB3 : Hid (Below w.heap.size w W3) := Lib.hid (by rw [hW3]; exact below_setRow (HB2.out.alloc HB2.out.size _) (by have := HB2.out.size; omega) _)
    have RT := Lib.hid rt; have HW3 := Lib.hid hW3
    clear rt hW3 RZ2 HB2 l1
    go_wp2_with (first
      | (refine wpList_store_row rfl 28 (.tmp 3) (.tmp 22) rfl W2.heap.size (tabCells c 1) rfl rfl 28 _ (alloc_at rfl) rfl rfl (by simp [tabCells, Value.oneCell']) ?_)
      | (refine wpList_load_row rfl 22 (.tmp 1) rfl w.heap.size rfl 22 (countCells (z 0) c) (0, 0) _ (by have h := RZ3.out; rw [HW3.out] at h; exact h) rfl rfl rfl ?_))
    show Calls _ _ _ ((W2.alloc (.cells (zeroTab 0) 28)).setRow W2.heap.size (tabCells c 1)) _
    rw [← HW3.out]
    refine (refFor_any c (z 0) 1 W3 HC.out).mono ?_
    rintro e W4 ⟨rfl, hb⟩
    have RT4 := Lib.hid ((hb.block _ (lt_of_block RT.out)).trans RT.out)
    have RZ4 := Lib.hid ((hb.block _ (lt_of_block RZ3.out)).trans RZ3.out)
    have HB4 := Lib.hid (HB3.out.trans (hb.mono HB3.out.size))
    clear RZ3 RT HB3 HW3 hb
    obtain ⟨W5, hW5⟩ : ∃ W5, W5 = (W4.alloc (.cells (zeroTab 0) 31)).setRow W4.heap.size (tabCells c 1) := ⟨_, rfl⟩
    have ru : W5.heap[W4.heap.size]? = some (.cells (tabCells c 1) 31 (0, 0)) := by rw [hW5]; exact setRow_heap _ _ _ _ _ (0, 0) (alloc_at rfl)
    have l1 := lt_of_block RT4.out; have l2 := lt_of_block RZ4.out
    have RT5 : Hid (W5.heap[W2.heap.size]? = some (.cells (tabCells c 1) 28 (0, 0))) := Lib.hid (by rw [hW5, setRow_other _ _ _ _ (by omega), Below.heap_alloc _ _ _ (by omega)]; exact RT4.out)
    have RZ5 : Hid (W5.heap[w.heap.size]? = some (.cells (countCells (z 0) c) 22 (0, 0))) := Lib.hid (by rw [hW5, setRow_other _ _ _ _ (by omega), Below.heap_alloc _ _ _ (by omega)]; exact RZ4.out)
    have HB5 : Hid (Below w.heap.size w W5) := Lib.hid (by rw [hW5]; exact below_setRow (HB4.out.alloc HB4.out.size _) (by have := HB4.out.size; omega) _)
    have RU5 := Lib.hid ru; have HW5 := Lib.hid hW5
    clear ru hW5 RT4 RZ4 HB4 l1 l2
    have one1 : (1 : Int) < 7 := by omega
    go_wp2_with (refine wpList_store_row rfl 31 (.tmp 5) (.tmp 27) rfl W4.heap.size (tabCells c 1) rfl rfl 31 _ (alloc_at rfl) rfl rfl (by simp [tabCells, Value.oneCell']) ?_)
    go_loopw [7, 8] (fun n i wr => ∃ k : Nat, 1 ≤ k ∧ k ≤ 7 ∧ i = .int .i64 (k : Int) ∧ n = .int .i64 ((84 + sumTo c (k - 1) : Nat) : Int) ∧ Hid (wr.heap[w.heap.size]? = some (.cells (countCells (z 0) c) 22 (0, 0))) ∧ Hid (wr.heap[W2.heap.size]? = some (.cells (tabCells c 1) 28 (0, 0))) ∧ Hid (wr.heap[W4.heap.size]? = some (.cells (tabCells c 1) 31 (0, 0))) ∧ Hid (Below w.heap.size w wr)) (fun _ i _ => 7 - (intOf i).toNat)
    case atStart =>
      refine ⟨1, by omega, by omega, rfl, rfl, ?_, ?_, ?_, ?_⟩
      · have h := RZ5; rw [HW5.out] at h; exact h
      · have h := RT5; rw [HW5.out] at h; exact h
      · have h := RU5; rw [HW5.out] at h; exact h
      · have h := HB5; rw [HW5.out] at h; exact h
    case round =>
      clear RZ5 RT5 RU5 HB5 HW5
      obtain ⟨k, hk1, hk2, rfl, rfl, RZ, RT, RU, HB⟩ := hrel
      by_cases hlt : k ≤ 6
      · have s7 : (k : Int) < 7 := by omega
        have t1 : decide ((k : Int) ≤ 6) = true := by simp; omega
        have hcm : c k ≤ 1024 := Nat.le_trans (HC.out k) (secLimit_le k)
        have hS := secSize_le k
        have hT := sumTo_le c (fun s => Nat.le_trans (HC.out s) (secLimit_le s)) (k - 1)
        have hTs : sumTo c (k - 1) + c k * secSize k = sumTo c k := by
          obtain ⟨j, rfl⟩ : ∃ j, k = j + 1 := ⟨k - 1, by omega⟩
          rfl
        have g1 : wr.cell? ⟨w.heap.size, k, none⟩ = some (.int .i64 (c k : Int)) := by
          rw [cell_of_row _ _ _ _ _ _ RZ.out]
          rcases six k hk1 hlt with rfl | rfl | rfl | rfl | rfl | rfl <;> rfl
        have hsz : ∀ W', Calls Try.prog 16 #[.int .i64 (k : Int)] W' fun e w' => e = .returned (.int .i64 (secSize k : Int)) ∧ w' = W' := fun W' => refSize_any k W' hk1 hlt
        have hm : c k * secSize k ≤ 1024 * 56 := Nat.mul_le_mul hcm hS
        obtain ⟨C, hCe⟩ : ∃ C, C = c k := ⟨_, rfl⟩
        obtain ⟨S, hSe⟩ : ∃ S, S = secSize k := ⟨_, rfl⟩
        rw [← hCe, ← hSe] at hTs hm
        rw [← hCe] at g1 hcm
        rw [← hSe] at hsz hS
        obtain ⟨M, hM⟩ : ∃ M, M = C * S := ⟨_, rfl⟩
        have hM2 : (C : Int) * (S : Int) = (M : Int) := by rw [hM]; push_cast; rfl
        rw [← hM] at hTs hm
        obtain ⟨T, hTe⟩ : ∃ T, T = 84 + sumTo c (k - 1) := ⟨_, rfl⟩
        rw [← hTe]
        have hT2 : T ≤ 400000 := by omega
        have hTs2 : T + M = 84 + sumTo c k := by omega
        have w1 : IntKind.i64.wrap ((C : Int) * (S : Int)) = (M : Int) := by rw [hM2, IntKind.wrap_i64]; omega
        have w2 : IntKind.i64.wrap ((T : Int) + (M : Int)) = (T : Int) + (M : Int) := by rw [IntKind.wrap_i64]; omega
        have HSZ := Lib.hid hsz; have HTS := Lib.hid hTs2
        clear hCe hSe hM hM2 hTe hTs hT hTs2 hsz
        go_wp2_with (fail)
        refine wp_region_quiet_class (C := fun W' => ∃ m, W' = wr.drewN m) (by kernel_rfl) (by kernel_rfl) ⟨1, rfl⟩ ?_
        repeat (first
          | go_big_quiet_skip
          | (go_big_quiet_want; go_big_quiet_op; first
            | go_big_quiet_on
            | (refine ⟨_, fun w' hw' => rfl, ?_⟩; go_big_quiet_on)
            | (apply Exists.intro; refine ⟨fun w' hw' => ?_, ?_⟩; (obtain ⟨m, rfl⟩ := hw'; rw [World.cell?_drewN, g1]; exact ⟨rfl, rfl⟩); go_big_quiet_on)
            | (apply Exists.intro; refine ⟨fun m => ?_, ?_⟩; (refine (HSZ.out _).mono ?_; rintro e w2 ⟨rfl, rfl⟩; exact ⟨rfl, m, rfl⟩); go_big_quiet_on)))
        refine wpQuiet_nil ?_
        rintro W6 ⟨m, rfl⟩
        go_wp2_with (fail)
        refine ⟨⟨k + 1, by omega, by omega, by go_num, ?_, by exact RZ, by exact RT, by exact RU, Lib.hid (below_drewN HB.out m)⟩, ?_⟩
        · rw [show k + 1 - 1 = k from by omega, ← HTS.out]; go_num
        · simp [intOf]; omega
      · obtain rfl : k = 7 := by omega
        have t1 : decide ((7 : Int) ≤ 6) = false := by decide
        clear hk1 hk2 hlt
        go_wp2_with (refine wpList_load_row rfl 28 (.tmp 3) rfl W2.heap.size rfl 28 (tabCells c 1) (0, 0) _ RT.out rfl rfl rfl ?_)
        refine (gaps_any c 1 wr HC.out).mono ?_
        rintro e W6 ⟨v, rfl, hown, hb⟩
        have RT6 := Lib.hid ((hb.block _ (lt_of_block RT.out)).trans RT.out)
        have RU6 := Lib.hid ((hb.block _ (lt_of_block RU.out)).trans RU.out)
        have HB6 := Lib.hid (HB.out.trans (hb.mono HB.out.size))
        have hGl := gapsOf_length c (secUpto 6)
        rw [secUpto_len] at hGl
        have hsum := gaps_total c 6 (by omega)
        have hall : ∀ k g, (gapsOf c (secUpto 6))[k]? = some g → endT (gapsOf c (secUpto 6)) k ≤ g.1 ∧ 80 ≤ g.1 ∧ 1 ≤ g.2 ∧ g.2 ≤ 15 ∧ (g.1 + g.2) % 16 = 0 ∧ g.1 + g.2 ≤ nextOf c 6 ∧ ∀ p : Nat, g.1 ≤ p → p < g.1 + g.2 → SecIs c (p : Int) (-1) (-1) := fun k g h => ⟨endT_le c k g h, gap_ok c g (List.mem_of_getElem? h)⟩
        have hN := nextOf_le c (fun s => Nat.le_trans (HC.out s) (secLimit_le s)) 6
        obtain ⟨G, hG⟩ : ∃ G, G = gapsOf c (secUpto 6) := ⟨_, rfl⟩
        rw [← hG] at hown hGl hsum hall
        obtain ⟨N, hNe⟩ : ∃ N, N = nextOf c 6 := ⟨_, rfl⟩
        rw [← hNe] at hsum hall hN
        obtain ⟨sl, cap, rfl⟩ := ownsRow_slice hown
        have HO6 := Lib.hid (ownsRow_base0 hown); have HSUM := Lib.hid hsum; have HALL := Lib.hid hall; have HNE := Lib.hid hNe
        clear RT RU HB hb RZ hown hsum hall hG hNe
        go_wp2_with (fail)
        go_loopw [7, 9, 44] (fun n e i wr' => ∃ k : Nat, k ≤ G.length ∧ i = .int .i64 (k : Int) ∧ n = .int .i64 ((84 + sumTo c 6 + gapSum (G.take k) : Nat) : Int) ∧ e = .int .i64 ((endT G k : Nat) : Int) ∧ Hid (wr'.ownsRow 0 23 2 (.slice sl G.length cap) G.length (pairCells G)) ∧ Hid (wr'.heap[W2.heap.size]? = some (.cells (tabCells c 1) 28 (0, 0))) ∧ Hid (wr'.heap[W4.heap.size]? = some (.cells (tabCells c 1) 31 (0, 0))) ∧ Hid (Below w.heap.size w wr')) (fun _ _ i _ => G.length - (intOf i).toNat)
        case atStart => exact ⟨0, by omega, rfl, rfl, rfl, HO6, RT6, RU6, HB6⟩
        case round =>
          clear HO6 RT6 RU6 HB6
          obtain ⟨k, hk, rfl, rfl, rfl, HO, RT, RU, HB⟩ := hrel
          by_cases hlt : k < G.length
          · obtain ⟨g, hg⟩ : ∃ g, G[k]? = some g := ⟨_, List.getElem?_eq_getElem hlt⟩
            obtain ⟨i1, i2, i3, i4, i5, i6, i7⟩ := HALL.out k g hg
            have hstep := gapSum_take G k g hg
            have hcells := pairCells_at G k g hg
            have hend : endT G (k + 1) = g.1 + g.2 := by simp only [endT, hg]
            obtain ⟨g1, g2⟩ := g
            simp only at i1 i2 i3 i4 i5 i6 i7 hstep hcells hend
            obtain ⟨gb, rfl, hgb⟩ : ∃ gb, sl = some ⟨gb, 0, none⟩ ∧ ∃ cur, wr.heap[gb]? = some (.cells cur 23 (0, 0)) ∧ cur.toList.take (G.length * 2) = pairCells G := by
              rcases HO.out.2 with ⟨h1, h2⟩ | ⟨gb, cap', cur, h1, _, h2, _, _, _, h3⟩
              · omega
              · cases h1; exact ⟨gb, rfl, cur, h2, h3⟩
            obtain ⟨cur, hgb, htake⟩ := hgb
            have hc0 : wr.cell? ⟨gb, k * 2, none⟩ = some (.int .i64 (g1 : Int)) := by
              rw [cell_of_row _ _ _ _ _ _ hgb]
              have := hcells.1
              rw [← htake, List.getElem?_take_of_lt (by omega)] at this
              simpa using this
            have hc1 : wr.cell? ⟨gb, k * 2 + 1, none⟩ = some (.int .i64 (g2 : Int)) := by
              rw [cell_of_row _ _ _ _ _ _ hgb]
              have := hcells.2
              rw [← htake, List.getElem?_take_of_lt (by omega)] at this
              simpa using this
            have t1 : decide (k < G.length) = true := by simp [hlt]
            clear hgb htake hcells
            obtain ⟨n0, hn0⟩ : ∃ n0, n0 = 84 + sumTo c 6 + gapSum (G.take k) := ⟨_, rfl⟩
            obtain ⟨e0, he0⟩ : ∃ e0, e0 = endT G k := ⟨_, rfl⟩
            have hn2 : n0 + g2 = 84 + sumTo c 6 + gapSum (G.take (k + 1)) := by omega
            have hn3 : n0 + g2 ≤ 1000000 := by have := gapSum_take_le G (k + 1); have := HSUM.out; omega
            rw [← hn0, ← he0]
            rw [← he0] at i1
            clear hn0 he0 hstep
            have htot : (wr.alloc (.cells #[.int .i64 (g1 : Int), .int .i64 (g2 : Int)] 23)).cell? ⟨W4.heap.size, 1, none⟩ = some (.int .i64 ((N : Int) + 4)) := by
              rw [cell_of_row _ _ _ _ _ _ ((Below.heap_alloc _ _ _ (lt_of_block RU.out)).trans RU.out), HNE.out]; rfl
            have f1 : decide (g1 < e0) = false := by simp; omega
            have f2 : decide ((g2 : Int) < 1) = false := by simp; omega
            have f3 : decide (15 < (g2 : Int)) = false := by simp; omega
            have w1 : IntKind.i64.wrap ((g1 : Int) + (g2 : Int)) = (g1 : Int) + (g2 : Int) := by rw [IntKind.wrap_i64]; omega
            have w2 : IntKind.i64.wrap ((N : Int) + 4 - 4) = (N : Int) := by rw [IntKind.wrap_i64]; omega
            have f4 : decide ((N : Int) < (g1 : Int) + (g2 : Int)) = false := by simp; omega
            have f5 : Int.tmod ((g1 : Int) + (g2 : Int)) 16 = 0 := by rw [Int.tmod_eq_emod_of_nonneg (by omega)]; omega
            go_wp2_with (refine wpList_load_pair rfl 23 (.tmp 46) rfl ⟨gb, k * 2, none⟩ rfl (.int .i64 (g1 : Int)) (.int .i64 (g2 : Int)) _ hc0 hc1 rfl rfl rfl ?_)
            have RG8 : Hid ((wr.alloc (.cells #[.int .i64 (g1 : Int), .int .i64 (g2 : Int)] 23)).heap[wr.heap.size]? = some (.cells #[.int .i64 (g1 : Int), .int .i64 (g2 : Int)] 23 (0, 0))) := Lib.hid (alloc_at rfl)
            have RT8 : Hid ((wr.alloc (.cells #[.int .i64 (g1 : Int), .int .i64 (g2 : Int)] 23)).heap[W2.heap.size]? = _) := Lib.hid ((Below.heap_alloc _ _ _ (lt_of_block RT.out)).trans RT.out)
            have RU8 : Hid ((wr.alloc (.cells #[.int .i64 (g1 : Int), .int .i64 (g2 : Int)] 23)).heap[W4.heap.size]? = _) := Lib.hid ((Below.heap_alloc _ _ _ (lt_of_block RU.out)).trans RU.out)
            have HO8 := Lib.hid (World.ownsRow.alloc HO.out (.cells #[.int .i64 (g1 : Int), .int .i64 (g2 : Int)] 23))
            have HB8 := Lib.hid (HB.out.alloc HB.out.size (.cells #[.int .i64 (g1 : Int), .int .i64 (g2 : Int)] 23))
            have HI7 := Lib.hid i7; have HN2 := Lib.hid hn2; have HEND := Lib.hid hend
            obtain ⟨B, hB⟩ : ∃ B, B = wr.heap.size := ⟨_, rfl⟩
            obtain ⟨W8, hW8⟩ : ∃ W8, W8 = (wr.alloc (.cells #[.int .i64 (g1 : Int), .int .i64 (g2 : Int)] 23)) := ⟨_, rfl⟩
            rw [← hB, ← hW8]
            rw [← hB, ← hW8] at RG8
            rw [← hW8] at RT8 RU8 HO8 HB8
            clear RT RU HO HB f1 f2 f3 f4 f5 hc0 hc1 htot hW8 hB i7 hn2 hend w2
            go_loopw [12] (fun i wr' => ∃ p : Nat, g1 ≤ p ∧ p ≤ g1 + g2 ∧ i = .int .i64 (p : Int) ∧ Hid (wr'.ownsRow 0 23 2 (.slice (some ⟨gb, 0, none⟩) G.length cap) G.length (pairCells G)) ∧ Hid (wr'.heap[B]? = some (.cells #[.int .i64 (g1 : Int), .int .i64 (g2 : Int)] 23 (0, 0))) ∧ Hid (wr'.heap[W2.heap.size]? = some (.cells (tabCells c 1) 28 (0, 0))) ∧ Hid (wr'.heap[W4.heap.size]? = some (.cells (tabCells c 1) 31 (0, 0))) ∧ Hid (Below w.heap.size w wr')) (fun i _ => g1 + g2 - (intOf i).toNat)
            case atStart => exact ⟨g1, by omega, by omega, rfl, HO8, RG8, RT8, RU8, HB8⟩
            case round =>
              clear HO8 RG8 RT8 RU8 HB8
              obtain ⟨p, hp1, hp2, rfl, HO, RG, RT, RU, HB⟩ := hrel
              have hg0 : wr.cell? ⟨B, 0, none⟩ = some (.int .i64 (g1 : Int)) := by rw [cell_of_row _ _ _ _ _ _ RG.out]; rfl
              have hg1 : wr.cell? ⟨B, 1, none⟩ = some (.int .i64 (g2 : Int)) := by rw [cell_of_row _ _ _ _ _ _ RG.out]; rfl
              by_cases q : p < g1 + g2
              · have t2 : decide ((p : Int) < (g1 : Int) + (g2 : Int)) = true := by simp; omega
                go_wp2_with (refine wpList_load_row rfl 28 (.tmp 3) rfl W2.heap.size rfl 28 (tabCells c 1) (0, 0) _ RT.out rfl rfl rfl ?_)
                refine (section_any c 1 (p : Int) wr HC.out).mono ?_
                rintro e W9 ⟨s1, j1, rfl, hs1, hb⟩
                obtain ⟨rfl, rfl⟩ := secIs_unique c _ _ _ _ _ hs1 (HI7.out p hp1 q)
                have HO9 := Lib.hid (own_keeps HO.out hb)
                have RG9 := Lib.hid ((hb.block _ (lt_of_block RG.out)).trans RG.out)
                have RT9 := Lib.hid ((hb.block _ (lt_of_block RT.out)).trans RT.out)
                have RU9 := Lib.hid ((hb.block _ (lt_of_block RU.out)).trans RU.out)
                have HB9 := Lib.hid (HB.out.trans (hb.mono HB.out.size))
                clear HO RG RT RU HB hb hs1 hg0 hg1
                go_wp2_with (fail)
                refine ⟨⟨p + 1, by omega, by omega, by go_num, HO9, RG9, RT9, RU9, HB9⟩, ?_⟩
                simp [intOf]; omega
              · obtain rfl : p = g1 + g2 := by omega
                have t2 : decide ((g1 : Int) + (g2 : Int) < (g1 : Int) + (g2 : Int)) = false := by simp
                have w3 : IntKind.i64.wrap ((n0 : Int) + (g2 : Int)) = (n0 : Int) + (g2 : Int) := by rw [IntKind.wrap_i64]; omega
                go_wp2_with (fail)
                refine ⟨⟨k + 1, by omega, by go_num, by rw [← HN2.out]; go_num, by rw [HEND.out]; go_num, HO, RT, RU, HB⟩, ?_⟩
                simp [intOf]; omega
          · obtain rfl : k = G.length := by omega
            have t1 : decide (G.length < G.length) = false := by simp
            have hn : 84 + sumTo c 6 + gapSum (G.take G.length) = N + 4 := by rw [List.take_length]; have := HSUM.out; omega
            rw [hn]
            clear hn hlt
            go_wp2_with (fail)
            refine (alive10_any wr).mono ?_
            rintro e W7 ⟨rfl, hb⟩
            have k1 : W7.cell? ⟨W4.heap.size, 1, none⟩ = some (.int .i64 ((N : Int) + 4)) := by
              rw [cell_of_row _ _ _ _ _ _ ((hb.block _ (lt_of_block RU.out)).trans RU.out), HNE.out]; rfl
            have k2 : W7.cell? ⟨W2.heap.size, 1, none⟩ = some (.int .i64 ((N : Int) + 4)) := by
              rw [cell_of_row _ _ _ _ _ _ ((hb.block _ (lt_of_block RT.out)).trans RT.out), HNE.out]; rfl
            have eq1 : (((N : Int) + 4) == ((N : Int) + 4)) = true := by simp
            have hB := HB.out.trans (hb.mono HB.out.size)
            go_wp2_with (fail)
            go_ret
            exact ⟨rfl, hB⟩
theorem covers_list (z0 : List Int) (w : World) (l0 : z0.length = 7) :
    Calls Try.prog 4 #[.agg (z0.map (Value.int .i64)).toArray] w fun e w' => e = .returned (.bool true) ∧ Below w.heap.size w w' := by
  match z0, l0 with
  | [t0, t1, t2, t3, t4, t5, t6], _ => exact covers_walk (fun s => match s with | 0 => t0 | 1 => t1 | 2 => t2 | 3 => t3 | 4 => t4 | 5 => t5 | _ => t6) w
end Go.Proofs.Ythmenbehpblljaa
