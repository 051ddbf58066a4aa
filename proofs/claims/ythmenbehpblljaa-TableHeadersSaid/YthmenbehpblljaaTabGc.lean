/-
  The header is read: Get.
-/
import Derived.Test.YthmenbehpblljaaTabGb
import Derived.ChangeKeysEq
namespace Go.Proofs.Ythmenbehpblljaa
open Go.RowKit Go.Shelf
attribute [local go_sem] Oper.semAt_some

theorem eqItems_same (w : World) (xs : Array Value) : ∀ (is : List Nat), (∀ i ∈ is, ∃ x : Int, xs[i]? = some (.int .i64 x)) → (Op.eqItems 9998 3 1 xs xs is).run Try.prog w = .ok true w
  | [], _ => by simp [Op.eqItems]
  | i :: is, h => by
    obtain ⟨x, hx⟩ := h i (by simp)
    have hp : (part 3 xs (i * 1)).run Try.prog w = .ok (.int .i64 x) w := run_part_plain w (by kernel_rfl) (by rw [Nat.mul_one]; exact hx)
    have he : (Op.equalIn 9998 3 (.int .i64 x) (.int .i64 x)).run Try.prog w = .ok true w := by
      rw [run_equalIn_int w 9997 3 .i64 .i64 x x Try.underlying3]; simp
    simp only [Op.eqItems, Sem.run_bind, hp, he, Result.andThen_ok, Bool.not_true, Bool.false_eq_true, if_false]
    exact eqItems_same w xs is (fun j hj => h j (by simp [hj]))
set_option maxRecDepth 100000 in
theorem eq7 (w : World) (x0 x1 x2 x3 x4 x5 x6 : Int) : (Op.equalIn 9999 22 (.agg #[.int .i64 x0, .int .i64 x1, .int .i64 x2, .int .i64 x3, .int .i64 x4, .int .i64 x5, .int .i64 x6]) (.agg #[.int .i64 x0, .int .i64 x1, .int .i64 x2, .int .i64 x3, .int .i64 x4, .int .i64 x5, .int .i64 x6])).run Try.prog w = .ok true w := by
  obtain ⟨i, hi⟩ : ∃ i, Try.prog.info? 3 = some i := ⟨_, rfl⟩
  have hc : Try.prog.cellsOf 3 = 1 := by kernel_rfl
  rw [run_equalIn_array w 9998 _ _ Try.underlying22 hi, hc]
  refine eqItems_same w _ _ fun i hi => ?_
  have hi := List.mem_range.1 hi
  match i, hi with
  | 0, _ => exact ⟨_, rfl⟩
  | 1, _ => exact ⟨_, rfl⟩
  | 2, _ => exact ⟨_, rfl⟩
  | 3, _ => exact ⟨_, rfl⟩
  | 4, _ => exact ⟨_, rfl⟩
  | 5, _ => exact ⟨_, rfl⟩
  | 6, _ => exact ⟨_, rfl⟩

theorem results_rows2 {P : Program} {fn : Func} {p q : Tmp} {ty tb : TypeId} (h : fn.results = #[.cell p ty, .cell q tb]) (tmps : Array Value) (w : World) (g : Nat) (t : TypeId) (cs : Array Value) (fr : Nat × Nat) (d : TypeDesc)
    (hp : tmps.getD p undef = .pointer (some ⟨g, 0, none⟩)) (hg : w.heap[g]? = some (.cells cs t fr))
    (hu : P.underlying ty = some d) (hd : (match d with | .struct _ | .array _ _ => true | _ => false) = true) (hi : (P.info? ty).map (·.size) = some cs.size)
    (g2 : Nat) (t2 : TypeId) (cs2 : Array Value) (fr2 : Nat × Nat) (d2 : TypeDesc) (hq : tmps.getD q undef = .pointer (some ⟨g2, 0, none⟩)) (hg2 : w.heap[g2]? = some (.cells cs2 t2 fr2))
    (hu2 : P.underlying tb = some d2) (hd2 : (match d2 with | .struct _ | .array _ _ => true | _ => false) = true) (hi2 : (P.info? tb).map (·.size) = some cs2.size) :
    (results fn tmps).run P w = .ok (.tuple #[.agg cs, .agg cs2]) w := by
  have hp' : tmps[p]?.getD undef = .pointer (some ⟨g, 0, none⟩) := by simpa using hp
  have hq' : tmps[q]?.getD undef = .pointer (some ⟨g2, 0, none⟩) := by simpa using hq
  simp [results, h, hp', hq', asAddr, run_loadVar_row w g t ty cs fr d hg hu hd hi, run_loadVar_row w g2 t2 tb cs2 fr2 d2 hg2 hu2 hd2 hi2]

theorem stOf_upto (c : Nat → Nat) (cs : Array Value) (k : Nat) (h : k ≤ 6) : (stOf c cs (secUpto k)).1 = nextOf c k := by
  induction k with
  | zero => rfl
  | succ k ih =>
    rw [secUpto_succ k (by omega), stOf_snoc]
    simp only [stStep, ih (by omega), nextOf]

structure ImgOk (c : Nat → Nat) (frame : Int) (l : List Int) : Prop where
  head : HeadOk l
  fr : leSum (fun i => l.getD ((16 : Int).toNat + i) 0) 8 = frame
  e1 : ∀ s : Nat, 1 ≤ s → s ≤ 6 → leSum (fun i => l.getD ((32 + 8 * ((s : Int) - 1)).toNat + i) 0) 4 = (nextOf c (s - 1) : Int)
  e2 : ∀ s : Nat, 1 ≤ s → s ≤ 6 → leSum (fun i => l.getD ((32 + 8 * ((s : Int) - 1) + 4).toNat + i) 0) 4 = (c s : Int)
  tot : l.length = nextOf c 6 + 4

def RetGet (c : Nat → Nat) (frame : Int) (w : World) (e : Ending) (w' : World) : Prop :=
  e = .returned (.tuple #[.agg (tabCells c frame), .agg #[.int .i64 0, .int .i64 0, .int .i64 0]]) ∧ Below w.heap.size w w'

structure GetI (c : Nat → Nat) (frame : Int) (sl : Value) (N M : Nat) (pre : List Sec) (W : World) : Prop where
  b0 : W.heap[N]? = some (.cells #[sl] 61 (0, 0))
  b1 : W.heap[N + 1]? = some (.cells (zeroTab 0) 28 (0, 0))
  b2 : W.heap[N + 2]? = some (.cells #[.int .i64 0, .int .i64 0, .int .i64 0] 58 (0, 0))
  b3 : W.heap[M + 1]? = some (.cells (stOf c (zeroTab frame) pre).2 28 (0, 0))
  b4 : W.heap[M + 2]? = some (.cells #[.int .i64 ((stOf c (zeroTab frame) pre).1 : Int)] 3 (0, 0))
theorem getI_own (c : Nat → Nat) (frame : Int) (sl : Value) (N M : Nat) : Own (GetI c frame sl N M) := fun _ _ _ _ hs hg hr =>
  ⟨row_kept hs.b0 hg hr, row_kept hs.b1 hg hr, row_kept hs.b2 hg hr, row_kept hs.b3 hg hr, row_kept hs.b4 hg hr⟩
theorem GetI.below {c : Nat → Nat} {frame : Int} {sl : Value} {N M : Nat} {pre : List Sec} {W W1 : World} (h : GetI c frame sl N M pre W) (hb : Below W.heap.size W W1) : GetI c frame sl N M pre W1 :=
  ⟨(hb.block _ (lt_of_block h.b0)).trans h.b0, (hb.block _ (lt_of_block h.b1)).trans h.b1, (hb.block _ (lt_of_block h.b2)).trans h.b2, (hb.block _ (lt_of_block h.b3)).trans h.b3, (hb.block _ (lt_of_block h.b4)).trans h.b4⟩

section laws
variable {F : Fence} {n : Nat} {P : Program}
/-- A struct or an array out of a row, wherever it lies. -/
theorem run_loadVar_list (w : World) (p : Addr) (ty : TypeId) (cs : List Value) (d : TypeDesc) (h : ∀ j v, cs[j]? = some v → w.cell? (p.add j) = some v)
    (hu : P.underlying ty = some d) (hd : (match d with | .struct _ | .array _ _ => true | _ => false) = true) (hi : (P.info? ty).map (·.size) = some cs.length) :
    (loadVar ty p).run P w = .ok (.agg cs.toArray) w := by
  have hl : (loadCells p cs.length).run P w = .ok cs.toArray w := run_loadCells_list (P := P) w p cs h
  cases hq : P.info? ty with
  | none => simp [hq] at hi
  | some i =>
    have hs : i.size = cs.length := by simpa [hq] using hi
    have hagg : (isAgg ty).run P w = .ok true w := by
      unfold isAgg
      rw [Sem.run_bind, run_underlying hu w]
      cases d <;> simp_all
    simp [loadVar, Sem.run_bind, hagg, sizeOf, typeInfo, hq, hs, hl]
theorem wpListIn_load_list {ops : Array Oper} {rest : List Oper} {o : Oper} {a : Act} {w : World} {Q : Exit → Act → World → Prop} (hgd : o.guard = none) (ty : TypeId) (x : Operand) (ho : o.op = .load ty x)
    (p : Addr) (hx : a.eval x = .pointer (some p)) (cs : List Value) (d : TypeDesc) (h : ∀ j v, cs[j]? = some v → w.cell? (p.add j) = some v)
    (hu : P.underlying ty = some d) (hd : (match d with | .struct _ | .array _ _ => true | _ => false) = true) (hi : (P.info? ty).map (·.size) = some cs.length)
    (hK : wpListIn F n P ops Q rest (a.put o.dst (.agg cs.toArray)) w) : wpListIn F n P ops Q (o :: rest) a w := by
  refine wpListIn_plain hgd fun K hK' => ?_
  unfold Oper.wpIn
  refine ⟨?_, ?_⟩
  · simp [Oper.about, ho]
  · rw [Oper.semAt_plain F _ _ (by rw [ho]; intro c hc'; cases hc')]
    unfold execOp
    simp only [ho, hx, Instr.loadAt, Instr.sureAddr, Sem.run_bind, Sem.run_pure, Result.andThen_ok, run_loadVar_list w p ty cs d h hu hd hi]
    exact hK' _ _ hK
end laws

theorem keepsOthers_setRow {W : World} {g : Nat} {cs : Array Value} {t : TypeId} {fr : Nat × Nat} (h : W.heap[g]? = some (.cells cs t fr)) (arr : Array Value) : KeepsOthers W (W.setRow g arr) :=
  ⟨by simp [World.setRow], fun k o hk ho => by
    have hkg : k ≠ g := fun e => by subst e; rw [h] at hk; cases hk; cases ho
    rw [setRow_other _ _ _ _ hkg]; exact hk⟩

theorem upto_snoc (c : Nat → Nat) (cs : Array Value) (pre : List Sec) (x : Sec) (h : ∃ k, k ≤ 6 ∧ pre ++ [x] = secUpto k) : (stOf c cs pre).1 = nextOf c (x.1 - 1) := by
  obtain ⟨k, hk, he⟩ := h
  cases k with
  | zero => simp [secUpto] at he
  | succ k =>
    rw [secUpto_succ k (by omega)] at he
    obtain ⟨h1, h2⟩ := List.append_inj' he rfl
    simp at h2
    rw [h1, h2, stOf_upto c cs k (by omega)]
    simp

set_option maxRecDepth 100000 in
set_option maxHeartbeats 8000000 in
theorem get_any (b o cap : Nat) (c : Nat → Nat) (frame : Int) (l : List Int) (w : World) (hc : CountsOk c) (h : ImgOk c frame l) (hs : ∀ j, j < l.length → w.cell? ⟨b, o + j, none⟩ = some (.int .u8 (l.getD j 0))) (hcap : l.length ≤ cap) :
    Calls Try.prog 27 #[.slice (some ⟨b, o, none⟩) l.length cap] w (RetGet c frame w) := by
  have H := Lib.hid h; have HS := Lib.hid hs; have HCAP := Lib.hid hcap; have HC := Lib.hid hc
  have hbw : b < w.heap.size := block_lt_of_cell (hs 0 (by have := h.head.len1; omega))
  obtain ⟨L, hL⟩ : ∃ L, L = l.length := ⟨_, rfl⟩
  have HL := Lib.hid hL
  have hl1 := h.head.len1
  have hl2 := h.head.len2
  rw [← hL] at hl1 hl2 ⊢
  clear h hs hcap hL hc
  obtain ⟨W0, hW0⟩ : ∃ W0, ((w.alloc (.cells #[.slice (some ⟨b, o, none⟩) L cap] 61)).alloc (.cells (zeroTab 0) 28)).alloc (.cells #[.int .i64 0, .int .i64 0, .int .i64 0] 58) = W0 := ⟨_, rfl⟩
  have hb0 : Below w.heap.size w W0 := by rw [← hW0]; exact ((((Below.refl _ w).alloc (Nat.le_refl _) _).alloc (by simp) _).alloc (by simp; omega) _)
  have hz0 : W0.heap.size = w.heap.size + 3 := by rw [← hW0]; simp
  have r0 : W0.heap[w.heap.size]? = some (.cells #[.slice (some ⟨b, o, none⟩) L cap] 61 (0, 0)) := by
    rw [← hW0, Below.heap_alloc _ _ _ (by simp; omega), Below.heap_alloc _ _ _ (by simp)]; exact alloc_at rfl
  have r1 : W0.heap[w.heap.size + 1]? = some (.cells (zeroTab 0) 28 (0, 0)) := by
    rw [← hW0, Below.heap_alloc _ _ _ (by simp)]; exact alloc_at (by simp)
  have r2 : W0.heap[w.heap.size + 2]? = some (.cells #[.int .i64 0, .int .i64 0, .int .i64 0] 58 (0, 0)) := by
    rw [← hW0]; exact alloc_at (by simp)
  have hs0 : ∀ j, j < l.length → W0.cell? ⟨b, o + j, none⟩ = some (.int .u8 (l.getD j 0)) := fun j hj => (hb0.cell (p := ⟨b, o + j, none⟩) hbw).trans (HS.out j hj)
  have HS0 := Lib.hid hs0; have HB0 := Lib.hid hb0; have R0 := Lib.hid r0; have R1 := Lib.hid r1; have R2 := Lib.hid r2; have HW0 := Lib.hid hW0; have HZ0 := Lib.hid hz0
  clear hs0 hb0 r0 r1 r2 hW0 hz0
  refine (callsIn_wide (n := 5)).1 ?_
  refine callsIn_of_wp_marks Try.func27 rfl trivial ?_ rfl
  simp only [Try.ntmps27, List.size_toArray, List.length_cons, List.length_nil, Nat.reduceAdd, Nat.reduceSub, Array.replicate_succ, Array.replicate_zero, List.push_toArray, List.append_toArray, List.nil_append, List.cons_append]
  gi_wp2_with (fail)
  refine ⟨trivial, ?_⟩
  show CallsIn _ _ _ _ _ (((w.alloc (.cells #[.slice (some ⟨b, o, none⟩) L cap] 61)).alloc (.cells (zeroTab 0) 28)).alloc (.cells #[.int .i64 0, .int .i64 0, .int .i64 0] 58)) _
  rw [HW0.out, HL.out]
  refine (callsIn_wide.2 (head_any b o cap l W0 H.out.head HS0.out HCAP.out)).mono ?_
  rw [← HL.out]
  rintro e W1 ⟨rfl, hb⟩
  have hz1 : w.heap.size + 3 ≤ W1.heap.size := by have := hb.size; have := HZ0.out; omega
  have hs1 : ∀ j, j < l.length → W1.cell? ⟨b, o + j, none⟩ = some (.int .u8 (l.getD j 0)) := fun j hj => (hb.cell (p := ⟨b, o + j, none⟩) (block_lt_of_cell (HS0.out j hj))).trans (HS0.out j hj)
  have HS1 := Lib.hid hs1
  have R01 := Lib.hid ((hb.block _ (lt_of_block R0.out)).trans R0.out)
  have R11 := Lib.hid ((hb.block _ (lt_of_block R1.out)).trans R1.out)
  have R21 := Lib.hid ((hb.block _ (lt_of_block R2.out)).trans R2.out)
  have HB1 := Lib.hid (HB0.out.trans (hb.mono HB0.out.size))
  clear HS0 HB0 R0 R1 R2 HW0 HZ0 hb hs1
  have q0 : ∀ o1 o2, ((W1.alloc o1).alloc o2).cell? ⟨w.heap.size, 0, none⟩ = some (.slice (some ⟨b, o, none⟩) L cap) := fun o1 o2 => Lib.cell?_alloc_some _ (Lib.cell?_alloc_some _ (cell_of_one R01.out))
  obtain ⟨M, hM⟩ : ∃ M, M = W1.heap.size := ⟨_, rfl⟩
  gi_wp2_with (fail)
  refine ⟨trivial, ?_⟩
  obtain ⟨W2, hW2⟩ : ∃ W2, W2 = ((W1.alloc (.cells #[.int .i64 0, .int .i64 0, .int .i64 0] 58)).alloc (.cells (zeroTab 0) 28)) := ⟨_, rfl⟩
  have hs2 : ∀ j, j < l.length → W2.cell? ⟨b, o + j, none⟩ = some (.int .u8 (l.getD j 0)) := fun j hj => by rw [hW2]; exact Lib.cell?_alloc_some _ (Lib.cell?_alloc_some _ (HS1.out j hj))
  have r02 : W2.heap[w.heap.size]? = some (.cells #[.slice (some ⟨b, o, none⟩) L cap] 61 (0, 0)) := by
    rw [hW2, Below.heap_alloc _ _ _ (by simp; omega), Below.heap_alloc _ _ _ (by omega)]; exact R01.out
  have r12 : W2.heap[w.heap.size + 1]? = some (.cells (zeroTab 0) 28 (0, 0)) := by
    rw [hW2, Below.heap_alloc _ _ _ (by simp; omega), Below.heap_alloc _ _ _ (by omega)]; exact R11.out
  have r22 : W2.heap[w.heap.size + 2]? = some (.cells #[.int .i64 0, .int .i64 0, .int .i64 0] 58 (0, 0)) := by
    rw [hW2, Below.heap_alloc _ _ _ (by simp; omega), Below.heap_alloc _ _ _ (by omega)]; exact R21.out
  have r52 : W2.heap[M + 1]? = some (.cells (zeroTab 0) 28 (0, 0)) := by rw [hW2]; exact alloc_at (by simp [hM])
  have hb2 : Below w.heap.size w W2 := by rw [hW2]; exact (HB1.out.alloc HB1.out.size _).alloc (by have := HB1.out.size; simp; omega) _
  have hz2 : W2.heap.size = M + 2 := by rw [hW2, hM]; simp
  have HS2 := Lib.hid hs2; have R02 := Lib.hid r02; have R12 := Lib.hid r12; have R22 := Lib.hid r22; have R52 := Lib.hid r52; have HB2 := Lib.hid hb2; have HZ2 := Lib.hid hz2
  show CallsIn _ _ _ _ _ ((W1.alloc (.cells #[.int .i64 0, .int .i64 0, .int .i64 0] 58)).alloc (.cells (zeroTab 0) 28)) _
  rw [← hW2, HL.out, ← hM]
  have HM := Lib.hid hM
  clear hs2 r02 r12 r22 r52 hb2 hz2 HS1 R01 R11 R21 HB1 hW2 q0 hM
  refine (callsIn_wide.2 (viewU64_yes b o cap l 16 W2 HS2.out H.out.head.bd (by have := HL.out; omega) HCAP.out (by omega) (by have := HL.out; omega))).mono ?_
  rw [H.out.fr, ← HL.out]
  rintro e w' ⟨rfl, rfl⟩
  have z52 := frozen_of_row W2 (M + 1) 0 _ _ R52.out
  have c52 : W2.cell? ⟨M + 1, 0, none⟩ = some (.int .u64 0) := by rw [cell_of_row _ _ _ _ _ _ R52.out]; rfl
  gi_wp2_with (fail)
  refine ⟨trivial, ?_⟩
  refine (callsIn_wide.2 (sections_any _)).mono ?_
  rintro e w' ⟨rfl, rfl⟩
  gi_wp2_with (fail)
  rw [HZ2.out]
  obtain ⟨W3, hW3⟩ : ∃ W3, W3 = (W2.setCell ⟨M + 1, 0, none⟩ (.int .u64 frame)).alloc (.cells #[.int .i64 80] 3) := ⟨_, rfl⟩
  have hzs : (W2.setCell ⟨M + 1, 0, none⟩ (.int .u64 frame)).heap.size = M + 2 := by
    have := HZ2.out
    show (W2.heap.modify _ _).size = _
    simp [this]
  have hold : ∀ k o, k ≠ M + 1 → W2.heap[k]? = some o → W3.heap[k]? = some o := fun k o hk h => by
    rw [hW3, Below.heap_alloc _ _ _ (by rw [hzs]; have := lt_of_block h; have := HZ2.out; omega), heap_setCell_other _ _ _ _ hk]; exact h
  have hz1M : w.heap.size + 3 ≤ M := by rw [HM.out]; exact hz1
  have hI0 : GetI c frame (.slice (some ⟨b, o, none⟩) L cap) w.heap.size M [] W3 := by
    refine ⟨hold _ _ (by omega) R02.out, hold _ _ (by omega) R12.out, hold _ _ (by omega) R22.out, ?_, ?_⟩
    · rw [hW3, Below.heap_alloc _ _ _ (by rw [hzs]; omega)]
      exact heap_setCell_same _ _ _ _ _ _ R52.out
    · rw [hW3]
      exact alloc_at (by rw [hzs])
  have hB0 : Below w.heap.size w W3 := by
    rw [hW3]
    exact (HB2.out.setCell (p := ⟨M + 1, 0, none⟩) (by simp; omega) _).alloc (by rw [hzs]; omega) _
  have hz3 : W3.heap.size = M + 3 := by rw [hW3, World.size_alloc, hzs]
  rw [← hW3]
  clear hW3 hold hzs z52 c52 HS2 R02 R12 R22 R52 HB2 HM
  refine wpIn_rangeFunc_ownF rfl (by omega) (gf := 55) (lb := #[]) rfl trivial (enters_of Try.func55 (by kernel_rfl) rfl)
    (sections_stops Fence.wide (5 - 1) trivial rfl (by omega) W3) walksK_t walksK_b (Below.refl _ _) (fun _ => rfl)
    (fun pre W => GetI c frame (.slice (some ⟨b, o, none⟩) L cap) w.heap.size M pre W ∧ Below w.heap.size w W)
    (fun _ pre _ => ¬ ∃ k, k ≤ 6 ∧ pre = secUpto k)
    (OwnFrom.and (Own.from (getI_own c frame (.slice (some ⟨b, o, none⟩) L cap) w.heap.size M) _) (ownFrom_below (Nat.le_refl _) (by omega)))
    (fun _ _ _ _ _ hs _ _ => hs)
    ⟨hI0, hB0⟩
    (fun x => { tmps := #[.slice (some ⟨b, o, none⟩) L cap, .pointer (some ⟨w.heap.size, 0, none⟩), .pointer (some ⟨w.heap.size + 1, 0, none⟩), .pointer (some ⟨w.heap.size + 1 + 1, 0, none⟩), .pointer (some ⟨M, 0, none⟩), .pointer (some ⟨M + 1, 0, none⟩), .pointer (some ⟨M + 2, 0, none⟩), .int .i64 (x.1 : Int), .int .i64 (32 + 8 * ((x.1 : Int) - 1)), undef, undef, undef, undef, undef, undef, .slice (some ⟨b, o, none⟩) L cap, .agg #[.int .i64 0, .int .i64 0, .int .i64 0], .agg #[.int .i64 0, .int .i64 0, .int .i64 0], .agg #[.int .i64 0, .int .i64 0, .int .i64 0], .bool false, undef, undef, .tuple #[.int .u64 frame, .bool true], .slice (some ⟨b, o, none⟩) L cap, .tuple #[.int .u64 frame, .bool true], .int .u64 frame, .bool true, .pointer (some ⟨M + 1, 0, none⟩), .func (.func 55) #[] #[], .int .i64 (x.1 : Int), .int .i64 (32 + 8 * ((x.1 : Int) - 1)), undef, undef, undef, undef, undef, undef, undef, undef, undef, undef, undef, undef, undef, undef, undef, undef, undef, undef, undef, undef, undef, undef, undef, undef, undef, undef, undef, undef, undef, undef, undef, undef, undef, undef, undef, undef, undef, undef, undef, undef, undef, undef, undef, undef, undef, undef, undef, undef, undef, undef, undef, undef, undef, undef, undef, undef, undef, undef, undef, undef, undef, undef, undef, undef, undef, undef, undef, undef, undef, undef], defers := [] }) ?assign ?body ?done ?stop
  case assign =>
    intro l x W K hK
    gi_wp2
    exact hK
  case body =>
    rintro lv pre ⟨s, hs1, hs2⟩ W ⟨hI, hB⟩ hlt
    have hE1 := H.out.e1 s hs1 hs2
    have hE2 := H.out.e2 s hs1 hs2
    have hcm : c s ≤ 1024 := Nat.le_trans (HC.out s) (secLimit_le s)
    have hCl := HC.out s
    have hO := nextOf_le c (fun s => Nat.le_trans (HC.out s) (secLimit_le s)) (s - 1)
    have hA := stOf_le c (zeroTab frame) (fun s => Nat.le_trans (HC.out s) (secLimit_le s)) pre
    have hlt6 : pre.length < 6 := hlt
    obtain ⟨O, hOe⟩ : ∃ O, O = nextOf c (s - 1) := ⟨_, rfl⟩
    obtain ⟨C, hCe⟩ : ∃ C, C = c s := ⟨_, rfl⟩
    obtain ⟨A, hAe⟩ : ∃ A, A = (stOf c (zeroTab frame) pre).1 := ⟨_, rfl⟩
    rw [← hOe] at hE1 hO
    rw [← hCe] at hE2 hcm hCl
    rw [← hAe] at hA
    have hO2 : O ≤ 400000 := by omega
    have hA2 : A ≤ 500000 := by omega
    have HE1 := Lib.hid hE1; have HE2 := Lib.hid hE2; have HI := Lib.hid hI; have HB := Lib.hid hB; have HOE := Lib.hid hOe; have HCE := Lib.hid hCe; have HAE := Lib.hid hAe; have HCL := Lib.hid hCl
    clear hE1 hE2 hI hB hOe hCe hAe hCl hO hA hI0 hB0 hlt
    have q0 : W.cell? ⟨w.heap.size, 0, none⟩ = some (.slice (some ⟨b, o, none⟩) L cap) := cell_of_one HI.out.b0
    have hsW : ∀ j, j < l.length → W.cell? ⟨b, o + j, none⟩ = some (.int .u8 (l.getD j 0)) := fun j hj => (HB.out.cell (p := ⟨b, o + j, none⟩) hbw).trans (HS.out j hj)
    have HSW := Lib.hid hsW
    clear hsW
    gi_wp2_with (fail)
    refine ⟨trivial, ?_⟩
    rw [HL.out]
    refine (CallsIn.inRound lv (callsIn_wide.2 (viewU32_yes b o cap l (32 + 8 * ((s : Int) - 1)) W HSW.out H.out.head.bd (by have := HL.out; omega) HCAP.out (by omega) (by have := HL.out; omega)))).mono ?_
    rw [HE1.out, ← HL.out]
    rintro e w' ⟨rfl, rfl⟩
    gi_wp2_with (fail)
    refine ⟨trivial, ?_⟩
    rw [HL.out]
    refine (CallsIn.inRound lv (callsIn_wide.2 (viewU32_yes b o cap l (32 + 8 * ((s : Int) - 1) + 4) W HSW.out H.out.head.bd (by have := HL.out; omega) HCAP.out (by omega) (by have := HL.out; omega)))).mono ?_
    rw [HE2.out, ← HL.out]
    rintro e w' ⟨rfl, rfl⟩
    gi_wp2_with (fail)
    refine ⟨trivial, ?_⟩
    refine (CallsIn.inRound lv (callsIn_wide.2 (limits_any W))).mono ?_
    rintro e W4 ⟨rfl, hb4⟩
    have HI4 := Lib.hid (HI.out.below hb4)
    have HB4 := Lib.hid (HB.out.trans (hb4.mono HB.out.size))
    have HK4 := Lib.hid (keepsOthers_below hb4)
    clear HSW q0 hb4
    have hidx := limit_index s hs1 hs2
    have hsl := secLimit_le s
    have hCl := HCL.out
    obtain ⟨X, hX⟩ : ∃ X, X = secLimit s := ⟨_, rfl⟩
    rw [← hX] at hidx hsl hCl
    clear hX
    have wX : IntKind.u64.wrap (X : Int) = (X : Int) := by rw [IntKind.wrap_u64]; omega
    have wC1 : IntKind.u64.wrap (C : Int) = (C : Int) := by rw [IntKind.wrap_u64]; omega
    have wO1 : IntKind.u64.wrap (O : Int) = (O : Int) := by rw [IntKind.wrap_u64]; omega
    have wA1 : IntKind.u64.wrap (A : Int) = (A : Int) := by rw [IntKind.wrap_u64]; omega
    have wC2 : IntKind.i64.wrap (C : Int) = (C : Int) := by rw [IntKind.wrap_i64]; omega
    have d1 : decide (X < C) = false := by simp; omega
    have f3 := HI4.out.b3
    have f4 := HI4.out.b4
    rw [← HAE.out] at f4
    have q4 : W4.cell? ⟨M + 2, 0, none⟩ = some (.int .i64 (A : Int)) := cell_of_one f4
    have s7 : (s : Int) < 7 := by omega
    have s70 : (0 : Int) ≤ s := by omega
    by_cases qa : O = A
    · subst qa
      have d2 : ((O : Int) != (O : Int)) = false := by simp
      have d2' : (O != O) = false := by simp
      have hcsz := stOf_size c (zeroTab frame) pre
      have hsn := stOf_snoc c (zeroTab frame) pre ⟨s, hs1, hs2⟩
      obtain ⟨cs, hcse⟩ : ∃ cs, cs = (stOf c (zeroTab frame) pre).2 := ⟨_, rfl⟩
      rw [← hcse] at hcsz f3
      have hcs16 : cs.size = 16 := hcsz
      obtain ⟨v1, g5⟩ : ∃ v, W4.cell? ⟨M + 1, 2 + s, none⟩ = some v := ⟨cs[2 + s]'(by omega), by rw [cell_of_row _ _ _ _ _ _ f3]; simp⟩
      obtain ⟨v2, g6⟩ : ∃ v, W4.cell? ⟨M + 1, 9 + s, none⟩ = some v := ⟨cs[9 + s]'(by omega), by rw [cell_of_row _ _ _ _ _ _ f3]; simp⟩
      have z5 := frozen_of_row W4 (M + 1) (2 + s) cs _ f3
      have z6 := frozen_of_row W4 (M + 1) (9 + s) cs _ f3
      have g6' : (W4.setCell ⟨M + 1, 2 + s, none⟩ (.int .i64 (O : Int))).cell? ⟨M + 1, 9 + s, none⟩ = some v2 := by
        rw [World.cell?_setCell_other _ _ _ _ (by simp <;> omega)]; exact g6
      have z6' : (W4.setCell ⟨M + 1, 2 + s, none⟩ (.int .i64 (O : Int))).frozen? ⟨M + 1, 9 + s, none⟩ = false := by
        rw [World.frozen?_setCell]; exact z6
      have HSN := Lib.hid hsn; have HCSE := Lib.hid hcse; have F3 := Lib.hid f3; have F4 := Lib.hid f4; have HS16 := Lib.hid hcs16
      obtain ⟨cs2, hcs2⟩ : ∃ cs2, cs2 = (cs.setIfInBounds (2 + s) (.int .i64 (O : Int))).setIfInBounds (9 + s) (.int .i64 (C : Int)) := ⟨_, rfl⟩
      have f3' : ((W4.setCell ⟨M + 1, 2 + s, none⟩ (.int .i64 (O : Int))).setCell ⟨M + 1, 9 + s, none⟩ (.int .i64 (C : Int))).heap[M + 1]? = some (.cells cs2 28 (0, 0)) := by
        rw [hcs2]
        exact heap_setCell_same _ _ _ _ _ _ (heap_setCell_same _ _ _ _ _ _ F3.out)
      have hT : TabAt cs2 s O C := by
        refine ⟨by rw [hcs2]; simp [hcs16], ?_, ?_⟩
        · rw [hcs2, Array.getElem?_setIfInBounds_ne (by omega), Array.getElem?_setIfInBounds_self_of_lt (by rw [hcs16]; omega)]
        · rw [hcs2, Array.getElem?_setIfInBounds_self_of_lt (by rw [Array.size_setIfInBounds, hcs16]; omega)]
      have hsz2 : cs2.size = 16 := hT.1
      have hle : O + C * secSize s ≤ 1000000 := by
        have h2 : C * secSize s ≤ 1024 * 56 := Nat.mul_le_mul hcm (secSize_le _)
        omega
      have hend : ∀ W', Calls Try.prog 35 #[.agg cs2, .int .i64 (s : Int)] W' fun e w' => e = .returned (.int .i64 ((O + C * secSize s : Nat) : Int)) ∧ Below W'.heap.size W' w' := fun W' => end_any cs2 s O C W' hT hs1 hs2 (by omega) hcm
      have hal : ∀ W', Calls Try.prog 34 #[.int .i64 ((O + C * secSize s : Nat) : Int)] W' fun e w' => e = .returned (.int .i64 (alignUp (O + C * secSize s) : Int)) ∧ w' = W' := fun W' => align_any _ W' (by omega)
      have hst : stOf c (zeroTab frame) (pre ++ [⟨s, hs1, hs2⟩]) = (alignUp (O + C * secSize s), cs2) := by
        rw [HSN.out, stStep, ← HAE.out, ← HCSE.out, hcs2, HCE.out]
      obtain ⟨E, hE⟩ : ∃ E, E = O + C * secSize s := ⟨_, rfl⟩
      rw [← hE] at hend hal hst
      have HEND := Lib.hid hend; have HAL := Lib.hid hal; have HST := Lib.hid hst; have F3' := Lib.hid f3'; have HCS2 := Lib.hid hcs2; have SZ2 := Lib.hid hsz2
      clear hsn hcse f3 f4 hcsz hcs16 hcs2 f3' hT hsz2 hle hend hal hst hE g6
      gi_wp2_with (refine wpListIn_load_row rfl 28 (.tmp 5) rfl (M + 1) rfl 28 cs2 (0, 0) _ F3'.out rfl rfl (by rw [SZ2.out]; rfl) ?_)
      refine ⟨trivial, ?_⟩
      refine (CallsIn.inRound lv (callsIn_wide.2 (HEND.out _))).mono ?_
      rintro e W5 ⟨rfl, hb5⟩
      obtain ⟨WS, hWS⟩ : ∃ WS, WS = ((W4.setCell ⟨M + 1, 2 + s, none⟩ (.int .i64 (O : Int))).setCell ⟨M + 1, 9 + s, none⟩ (.int .i64 (C : Int))) := ⟨_, rfl⟩
      rw [← hWS] at hb5
      have hother : ∀ k o, k ≠ M + 1 → W4.heap[k]? = some o → W5.heap[k]? = some o := by
        intro k o hk h
        have h1 : WS.heap[k]? = some o := by rw [hWS, heap_setCell_other _ _ _ _ hk, heap_setCell_other _ _ _ _ hk]; exact h
        exact (hb5.block _ (lt_of_block h1)).trans h1
      have e4 : W5.heap[M + 2]? = some (.cells #[.int .i64 (O : Int)] 3 (0, 0)) := hother _ _ (by omega) F4.out
      have e3 : W5.heap[M + 1]? = some (.cells cs2 28 (0, 0)) := by
        have h1 := F3'.out
        rw [← hWS] at h1
        exact (hb5.block _ (lt_of_block h1)).trans h1
      have hk5 : KeepsOthers W W5 := by
        refine (HK4.out.trans ?_).trans (keepsOthers_below hb5)
        rw [hWS]
        exact (KeepsOthers.setCell W4 ⟨M + 1, 2 + s, none⟩ (.int .i64 (O : Int))).trans (KeepsOthers.setCell _ ⟨M + 1, 9 + s, none⟩ (.int .i64 (C : Int)))
      have hB5 : Below w.heap.size w W5 := by
        have h1 := (HB4.out.setCell (p := ⟨M + 1, 2 + s, none⟩) (by simp; omega) (.int .i64 (O : Int))).setCell (p := ⟨M + 1, 9 + s, none⟩) (by simp; omega) (.int .i64 (C : Int))
        rw [← hWS] at h1
        exact h1.trans (hb5.mono h1.size)
      have p0 := hother _ _ (by omega) HI4.out.b0
      have p1 := hother _ _ (by omega) HI4.out.b1
      have p2 := hother _ _ (by omega) HI4.out.b2
      have P0 := Lib.hid p0; have P1 := Lib.hid p1; have P2 := Lib.hid p2; have E3 := Lib.hid e3; have E4 := Lib.hid e4; have HK5 := Lib.hid hk5; have HB5 := Lib.hid hB5
      have q5 : W5.cell? ⟨M + 2, 0, none⟩ = some (.int .i64 (O : Int)) := cell_of_one e4
      have z7 := frozen_of_row W5 (M + 2) 0 _ _ e4
      clear hother e3 e4 hk5 hB5 p0 p1 p2 hb5 hWS F3' F3 F4 HI4 HB4 HK4 z5 z6 g5 g6' z6' q4
      gi_wp2_with (fail)
      refine ⟨trivial, ?_⟩
      refine (CallsIn.inRound lv (callsIn_wide.2 (HAL.out _))).mono ?_
      rintro e W6 ⟨rfl, rfl⟩
      gi_wp2_with (fail)
      have hk6 := HK5.out.trans (KeepsOthers.setCell W6 ⟨M + 2, 0, none⟩ (.int .i64 (alignUp E : Int)))
      have hk : ∀ k o, k ≠ M + 2 → W6.heap[k]? = some o → (W6.setCell ⟨M + 2, 0, none⟩ (.int .i64 (alignUp E : Int))).heap[k]? = some o := by
        intro k o hk h
        rw [heap_setCell_other _ _ _ _ hk]; exact h
      refine ⟨hk6, hk6.walks, ⟨hk _ _ (by omega) P0.out, hk _ _ (by omega) P1.out, hk _ _ (by omega) P2.out, ?_, ?_⟩, ?_⟩
      · rw [HST.out]; exact hk _ _ (by omega) E3.out
      · rw [HST.out]; exact heap_setCell_same _ _ _ _ _ _ E4.out
      · exact HB5.out.setCell (p := ⟨M + 2, 0, none⟩) (by simp; omega) _
    · have d2 : ((O : Int) != (A : Int)) = true := by simp; omega
      have d2' : (O != A) = true := by simp; omega
      clear f3 f4
      gi_wp2_with (first
        | (refine wpListIn_store_row rfl 28 (.tmp 2) (.tmp 60) rfl (w.heap.size + 1) (zeroTab 0) rfl rfl 28 (zeroTab 0) HI4.out.b1 rfl rfl (by simp [zeroTab, Value.oneCell']) ?_)
        | (refine wpListIn_store_row rfl 58 (.tmp 3) (.tmp 62) rfl (w.heap.size + 1 + 1) #[.int .i64 13, .int .i64 0, .int .i64 (32 + 8 * ((s : Int) - 1))] rfl rfl 58 #[.int .i64 0, .int .i64 0, .int .i64 0] ((setRow_other _ _ _ _ (by omega)).trans HI4.out.b2) rfl rfl (by simp [Value.oneCell']) ?_))
      have hnp : ¬ ∃ k, k ≤ 6 ∧ pre ++ [(⟨s, hs1, hs2⟩ : Sec)] = secUpto k := fun h => qa (by rw [HOE.out, HAE.out, upto_snoc c (zeroTab frame) pre _ h])
      have hk1 := keepsOthers_setRow HI4.out.b1 (zeroTab 0)
      have hk2 : KeepsOthers (W4.setRow (w.heap.size + 1) (zeroTab 0)) _ := keepsOthers_setRow ((setRow_other _ _ _ _ (by omega)).trans HI4.out.b2) #[.int .i64 13, .int .i64 0, .int .i64 (32 + 8 * ((s : Int) - 1))]
      exact ⟨(HK4.out.trans hk1).trans hk2, hnp⟩
  case done =>
    rintro D ys W hD rfl ⟨hI, hB⟩ hK
    have hst := stOf_all c frame
    have hsz : (stOf c (zeroTab frame) (secUpto 6)).2.size = 16 := stOf_size c (zeroTab frame) (secUpto 6)
    have hN := nextOf_le c (fun s => Nat.le_trans (HC.out s) (secLimit_le s)) 6
    have htot := H.out.tot
    have f3 := hI.b3; have f4 := hI.b4
    rw [hst.1] at f4
    obtain ⟨cs, hcse⟩ : ∃ cs, cs = (stOf c (zeroTab frame) (secUpto 6)).2 := ⟨_, rfl⟩
    have hst2 := hst.2
    rw [← hcse] at hst2 hsz f3
    obtain ⟨N, hNe⟩ : ∃ N, N = nextOf c 6 := ⟨_, rfl⟩
    rw [← hNe] at f4 hN hst2 htot
    have hLN : L = N + 4 := by have := HL.out; omega
    obtain ⟨v3, g3⟩ : ∃ v3, W.cell? ⟨M + 1, 1, none⟩ = some v3 := ⟨cs[1], by rw [cell_of_row _ _ _ _ _ _ f3]; simp [hsz]⟩
    have z3 := frozen_of_row W (M + 1) 1 cs _ f3
    have g4 : W.cell? ⟨M + 2, 0, none⟩ = some (.int .i64 (N : Int)) := cell_of_one f4
    obtain ⟨V, hV⟩ : ∃ V, V = W.setCell ⟨M + 1, 1, none⟩ (.int .i64 ((N : Int) + 4)) := ⟨_, rfl⟩
    have f3' : V.heap[M + 1]? = some (.cells (tabCells c frame) 28 (0, 0)) := by
      rw [hV, heap_setCell_same _ _ _ _ _ _ f3, ← hst2]
      rfl
    have hKV : V.heap[D]? = some (.deferred (some [])) := by rw [hV]; exact (KeepsOthers.setCell W ⟨M + 1, 1, none⟩ (.int .i64 ((N : Int) + 4))).same D _ hK rfl
    have hBV : Below w.heap.size w V := by rw [hV]; exact hB.setCell (p := ⟨M + 1, 1, none⟩) (by simp; omega) _
    have hoth : ∀ k o, k ≠ M + 1 → W.heap[k]? = some o → V.heap[k]? = some o := fun k o hk h => by rw [hV, heap_setCell_other _ _ _ _ hk]; exact h
    have p0 := hoth _ _ (by omega) hI.b0
    have p1 := hoth _ _ (by omega) hI.b1
    have p2 := hoth _ _ (by omega) hI.b2
    have HLN := Lib.hid hLN; have HNE := Lib.hid hNe; have F3 := Lib.hid f3'; have HKV := Lib.hid hKV; have HBV := Lib.hid hBV; have P0 := Lib.hid p0; have P1 := Lib.hid p1; have P2 := Lib.hid p2; have HV := Lib.hid hV
    have hVs : D < V.heap.size := lt_of_block hKV
    clear hst hsz htot f3 f4 hcse hst2 hNe hLN f3' hKV hBV hoth p0 p1 p2 hV hI hB hK hI0 hB0
    have g0 : (W.setCell ⟨M + 1, 1, none⟩ (.int .i64 ((N : Int) + 4))).cell? ⟨M + 1, 0, none⟩ = some (.int .u64 frame) := by
      rw [← HV.out, cell_of_row _ _ _ _ _ _ F3.out]; rfl
    have hload : ∀ j v, [Value.int .i64 0, .int .i64 (c 1 : Int), .int .i64 (c 2 : Int), .int .i64 (c 3 : Int), .int .i64 (c 4 : Int), .int .i64 (c 5 : Int), .int .i64 (c 6 : Int)][j]? = some v → (W.setCell ⟨M + 1, 1, none⟩ (.int .i64 ((N : Int) + 4))).cell? ((⟨M + 1, 9, none⟩ : Addr).add j) = some v := by
      intro j v hv
      rw [← HV.out, Addr.add_lit, cell_of_row _ _ _ _ _ _ F3.out]
      match j with
      | 0 | 1 | 2 | 3 | 4 | 5 | 6 => exact hv
      | j + 7 => simp at hv
    have HLOAD := Lib.hid hload
    clear hload
    gi_wp2_with (refine wpListIn_load_list rfl 22 (.tmp 82) rfl ⟨M + 1, 9, none⟩ rfl _ _ HLOAD.out rfl rfl rfl ?_)
    refine ⟨trivial, ?_⟩
    rw [← HV.out]
    refine (callsIn_wide.2 (for_any c 0 frame V HC.out)).mono ?_
    rintro e V1 ⟨rfl, hb⟩
    have P01 := Lib.hid ((hb.block _ (lt_of_block P0.out)).trans P0.out)
    have P11 := Lib.hid ((hb.block _ (lt_of_block P1.out)).trans P1.out)
    have P21 := Lib.hid ((hb.block _ (lt_of_block P2.out)).trans P2.out)
    have F31 := Lib.hid ((hb.block _ (lt_of_block F3.out)).trans F3.out)
    have HK1 := Lib.hid ((hb.block _ (lt_of_block HKV.out)).trans HKV.out)
    have HB1 := Lib.hid (HBV.out.trans (hb.mono HBV.out.size))
    clear P0 P1 P2 F3 HKV HBV HLOAD g0 g3 g4 z3 HV hVs hb
    have l0 := lt_of_block P01.out; have l1 := lt_of_block P11.out; have l2 := lt_of_block P21.out; have l3 := lt_of_block F31.out; have l4 := lt_of_block HK1.out
    obtain ⟨V2, hV2⟩ : ∃ V2, V2 = (V1.alloc (.cells (zeroTab 0) 28)).setRow V1.heap.size (tabCells c frame) := ⟨_, rfl⟩
    have hoth : ∀ k o, V1.heap[k]? = some o → V2.heap[k]? = some o := fun k o h => by
      have := lt_of_block h
      rw [hV2, setRow_other _ _ _ _ (by omega), Below.heap_alloc _ _ _ this]; exact h
    have P02 := Lib.hid (hoth _ _ P01.out); have P12 := Lib.hid (hoth _ _ P11.out); have P22 := Lib.hid (hoth _ _ P21.out); have F32 := Lib.hid (hoth _ _ F31.out); have HK2 := Lib.hid (hoth _ _ HK1.out)
    have hT13 : V2.heap[V1.heap.size]? = some (.cells (tabCells c frame) 28 (0, 0)) := by rw [hV2]; exact setRow_heap _ _ _ _ _ (0, 0) (alloc_at rfl)
    have hB2 : Below w.heap.size w V2 := by rw [hV2]; exact below_setRow (HB1.out.alloc HB1.out.size _) HB1.out.size _
    have HT13 := Lib.hid hT13; have HB2 := Lib.hid hB2; have HV2 := Lib.hid hV2
    clear hoth hT13 hB2 hV2 P01 P11 P21 F31 HK1 HB1 l0 l1 l2 l3 l4
    have k1 : ((V1.alloc (.cells (zeroTab 0) 28)).setRow V1.heap.size (tabCells c frame)).cell? ⟨M + 1, 1, none⟩ = some (.int .i64 ((N : Int) + 4)) := by
      rw [← HV2.out, cell_of_row _ _ _ _ _ _ F32.out, HNE.out]; rfl
    have k2 : ((V1.alloc (.cells (zeroTab 0) 28)).setRow V1.heap.size (tabCells c frame)).cell? ⟨w.heap.size, 0, none⟩ = some (.slice (some ⟨b, o, none⟩) L cap) := by
      rw [← HV2.out]; exact cell_of_one P02.out
    simp only [zeroTab] at k1 k2
    have L1 := F32.out; have L2 := HT13.out
    rw [HV2.out] at L1 L2
    obtain ⟨tc, htc⟩ : ∃ tc, tc = tabCells c frame := ⟨_, rfl⟩
    obtain ⟨x0, x1, x2, x3, x4, x5, x6, x7, x8, x9, x10, x11, x12, x13, x14, x15, hx⟩ : ∃ x0 x1 x2 x3 x4 x5 x6 x7 x8 x9 x10 x11 x12 x13 x14 x15 : Int, tabCells c frame = #[.int .u64 x0, .int .i64 x1, .int .i64 x2, .int .i64 x3, .int .i64 x4, .int .i64 x5, .int .i64 x6, .int .i64 x7, .int .i64 x8, .int .i64 x9, .int .i64 x10, .int .i64 x11, .int .i64 x12, .int .i64 x13, .int .i64 x14, .int .i64 x15] := ⟨_, _, _, _, _, _, _, _, _, _, _, _, _, _, _, _, rfl⟩
    rw [← htc] at L1 L2 k1 k2 ⊢
    have HTC := Lib.hid htc
    rw [hx] at htc
    have L1' := Lib.hid L1; have L2' := Lib.hid L2
    have hstore : tc.all (·.oneCell') = true := by rw [htc]; simp [Value.oneCell']
    have heq7 := fun (w : World) (x0 x1 x2 x3 x4 x5 x6 : Int) => eq7 w x0 x1 x2 x3 x4 x5 x6
    have hsize : tc.size = 16 := by rw [htc]; rfl
    have HX := Lib.hid hx; have HTL := Lib.hid htc
    have S1 := P12.out; have S2 := P22.out
    rw [HV2.out, ← HTC.out] at S1 S2
    have S1' := Lib.hid S1; have S2' := Lib.hid S2
    have dL : (((N : Int) + 4) != (L : Int)) = false := by rw [HLN.out]; simp
    clear L1 L2 htc hx S1 S2
    gi_wp2_with (first
      | (refine wpListIn_store_row rfl 28 (.tmp 13) (.tmp 85) rfl V1.heap.size tc rfl rfl 28 _ (alloc_at rfl) (by rw [hsize]; rfl) (by rw [hsize]; rfl) hstore ?_)
      | (refine wpListIn_load_row rfl 28 (.tmp 5) rfl (M + 1) rfl 28 _ (0, 0) _ (by have h := L1'.out; rw [HTL.out] at h; rw [HTL.out]; exact h) rfl rfl rfl ?_)
      | (refine wpListIn_load_row rfl 28 (.tmp 13) rfl V1.heap.size rfl 28 _ (0, 0) _ (by have h := L2'.out; rw [HTL.out] at h; rw [HTL.out]; exact h) rfl rfl rfl ?_)
      | (refine wpListIn_store_row rfl 28 (.tmp 2) (.tmp 99) rfl (w.heap.size + 1) _ rfl rfl 28 (zeroTab 0) S1'.out rfl rfl (by simp [Value.oneCell']) ?_)
      | (refine wpListIn_store_row rfl 58 (.tmp 3) (.tmp 100) rfl (w.heap.size + 1 + 1) #[.int .i64 0, .int .i64 0, .int .i64 0] rfl rfl 58 #[.int .i64 0, .int .i64 0, .int .i64 0] ((setRow_other _ _ _ _ (by omega)).trans S2'.out) rfl rfl (by simp [Value.oneCell']) ?_))
    show bodyPostM _ _ _ _ _ _ _ ((((V1.alloc (.cells (zeroTab 0) 28)).setRow V1.heap.size tc).setRow (w.heap.size + 1) #[.int .u64 x0, .int .i64 x1, .int .i64 x2, .int .i64 x3, .int .i64 x4, .int .i64 x5, .int .i64 x6, .int .i64 x7, .int .i64 x8, .int .i64 x9, .int .i64 x10, .int .i64 x11, .int .i64 x12, .int .i64 x13, .int .i64 x14, .int .i64 x15]).setRow (w.heap.size + 1 + 1) #[.int .i64 0, .int .i64 0, .int .i64 0])
    rw [HTC.out, ← HV2.out, ← HX.out]
    have e1 : ((V2.setRow (w.heap.size + 1) (tabCells c frame)).setRow (w.heap.size + 1 + 1) #[.int .i64 0, .int .i64 0, .int .i64 0]).heap[w.heap.size + 1]? = some (.cells (tabCells c frame) 28 (0, 0)) := by
      rw [setRow_other _ _ _ _ (by omega)]; exact setRow_heap _ _ _ _ _ _ P12.out
    have e2 : ((V2.setRow (w.heap.size + 1) (tabCells c frame)).setRow (w.heap.size + 1 + 1) #[.int .i64 0, .int .i64 0, .int .i64 0]).heap[w.heap.size + 1 + 1]? = some (.cells #[.int .i64 0, .int .i64 0, .int .i64 0] 58 (0, 0)) :=
      setRow_heap _ _ _ _ _ _ ((setRow_other _ _ _ _ (by omega)).trans P22.out)
    have eD : ((V2.setRow (w.heap.size + 1) (tabCells c frame)).setRow (w.heap.size + 1 + 1) #[.int .i64 0, .int .i64 0, .int .i64 0]).heap[D]? = some (.deferred (some [])) := by
      rw [setRow_other _ _ _ _ (by omega), setRow_other _ _ _ _ (by omega)]; exact HK2.out
    have eB : Below w.heap.size w ((V2.setRow (w.heap.size + 1) (tabCells c frame)).setRow (w.heap.size + 1 + 1) #[.int .i64 0, .int .i64 0, .int .i64 0]) :=
      below_setRow (below_setRow HB2.out (by omega) _) (by omega) _
    obtain ⟨VE, hVE⟩ : ∃ VE, VE = ((V2.setRow (w.heap.size + 1) (tabCells c frame)).setRow (w.heap.size + 1 + 1) #[.int .i64 0, .int .i64 0, .int .i64 0]) := ⟨_, rfl⟩
    rw [← hVE] at e1 e2 eD eB ⊢
    refine ⟨by simp, .inl ⟨_, _, rfl, run_takeDeferred eD, ?_⟩⟩
    have k1 : (VE.putObj D (.deferred none)).heap[w.heap.size + 1]? = some (.cells (tabCells c frame) 28 (0, 0)) := (World.putObj_heap_other (by omega)).trans e1
    have k2 : (VE.putObj D (.deferred none)).heap[w.heap.size + 1 + 1]? = some (.cells #[.int .i64 0, .int .i64 0, .int .i64 0] 58 (0, 0)) := (World.putObj_heap_other (by omega)).trans e2
    have kB : Below w.heap.size w (VE.putObj D (.deferred none)) := by
      exact ⟨eB.os, eB.tape, eB.output, by simp only [World.putObj, Array.size_setIfInBounds]; exact eB.size, fun k hk => (World.putObj_heap_other (by omega)).trans (eB.block k hk)⟩
    exact ⟨_, results_rows2 rfl _ _ (w.heap.size + 1) _ (tabCells c frame) (0, 0) _ rfl k1 rfl rfl rfl (w.heap.size + 1 + 1) _ _ (0, 0) _ rfl k2 rfl rfl rfl, rfl, kB⟩
  case stop =>
    rintro D cc pre W _ hSp h _
    exact absurd hSp h
end Go.Proofs.Ythmenbehpblljaa
