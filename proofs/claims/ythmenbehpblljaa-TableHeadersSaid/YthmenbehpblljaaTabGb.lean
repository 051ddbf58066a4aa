/-
  The header is read: head.
-/
import Derived.Test.YthmenbehpblljaaTabGa
namespace Go.Proofs.Ythmenbehpblljaa
open Go.RowKit Go.Shelf

section laws
variable {P : Program}
/-- A pair out of a row, wherever it lies. -/
theorem run_loadVar_pair' (w : World) (p : Addr) (ty : TypeId) (a b : Value) (d : TypeDesc) (h0 : w.cell? p = some a) (h1 : w.cell? (p.add 1) = some b)
    (hu : P.underlying ty = some d) (hd : (match d with | .struct _ | .array _ _ => true | _ => false) = true) (hi : (P.info? ty).map (·.size) = some 2) :
    (loadVar ty p).run P w = .ok (.agg #[a, b]) w := by
  have hl : (loadCells p [a, b].length).run P w = .ok [a, b].toArray w :=
    run_loadCells_list (P := P) w p [a, b] (fun j v hv => by
      match j with
      | 0 => simp at hv; subst hv; exact h0
      | 1 => simp at hv; subst hv; exact h1
      | j + 2 => simp at hv)
  cases hq : P.info? ty with
  | none => simp [hq] at hi
  | some i =>
    have hs : i.size = 2 := by simpa [hq] using hi
    have hagg : (isAgg ty).run P w = .ok true w := by
      unfold isAgg
      rw [Sem.run_bind, run_underlying hu w]
      cases d <;> simp_all
    simp only [List.length_cons, List.length_nil] at hl
    simp [loadVar, Sem.run_bind, hagg, sizeOf, typeInfo, hq, hs, hl]
theorem wpList_load_pair' {ops : Array Oper} {rest : List Oper} {o : Oper} {a : Act} {w : World} {Q : Exit → Act → World → Prop} (hgd : o.guard = none) (ty : TypeId) (x : Operand) (ho : o.op = .load ty x)
    (p : Addr) (hx : a.eval x = .pointer (some p)) (u v : Value) (d : TypeDesc) (h0 : w.cell? p = some u) (h1 : w.cell? (p.add 1) = some v)
    (hu : P.underlying ty = some d) (hd : (match d with | .struct _ | .array _ _ => true | _ => false) = true) (hi : (P.info? ty).map (·.size) = some 2)
    (h : wpList P ops Q rest (a.put o.dst (.agg #[u, v])) w) : wpList P ops Q (o :: rest) a w :=
  wpList_plain hgd fun _ hK => by
    unfold Oper.wp execOp
    simp only [ho, hx, Instr.loadAt, Instr.sureAddr, Sem.run_bind, Sem.run_pure, Result.andThen_ok, run_loadVar_pair' w p ty u v d h0 h1 hu hd hi]
    exact hK _ _ h
end laws

structure HeadOk (l : List Int) : Prop where
  len1 : 84 ≤ l.length
  len2 : l.length ≤ 1000000
  bd : ∀ j, 0 ≤ l.getD j 0 ∧ l.getD j 0 ≤ 255
  magic : ∀ j, j < 4 → l.getD j 0 = [(70 : Int), 78, 83, 84].getD j 0
  v4 : leSum (fun i => l.getD ((4 : Int).toNat + i) 0) 2 = 1
  v6 : leSum (fun i => l.getD ((6 : Int).toNat + i) 0) 2 = 80
  v8 : leSum (fun i => l.getD ((8 : Int).toNat + i) 0) 4 = (l.length : Int)
  z1 : NoBits l 12 4
  z2 : NoBits l 24 8

def RetHead (w : World) (e : Ending) (w' : World) : Prop := e = .returned (.agg #[.int .i64 0, .int .i64 0, .int .i64 0]) ∧ Below w.heap.size w w'

set_option maxRecDepth 100000 in
set_option maxHeartbeats 6000000 in
theorem head_any (b o c : Nat) (l : List Int) (w : World) (h : HeadOk l) (hs : ∀ j, j < l.length → w.cell? ⟨b, o + j, none⟩ = some (.int .u8 (l.getD j 0))) (hc : l.length ≤ c) :
    Calls Try.prog 51 #[.slice (some ⟨b, o, none⟩) l.length c] w (RetHead w) := by
  have H := Lib.hid h; have HS := Lib.hid hs; have HC := Lib.hid hc
  have hl1 := h.len1
  have hl2 := h.len2
  have hbw : b < w.heap.size := block_lt_of_cell (hs 0 (by omega))
  obtain ⟨L, hL⟩ : ∃ L, L = l.length := ⟨_, rfl⟩
  have HL := Lib.hid hL
  rw [← hL] at hl1 hl2 ⊢
  clear h hs hc hL
  have t1 : decide (L < 84) = false := by simp; omega
  obtain ⟨W0, hW0⟩ : ∃ W0, w.alloc (.cells #[.int .i64 0, .int .i64 0, .int .i64 0] 58) = W0 := ⟨_, rfl⟩
  have hb0 : Below w.heap.size w W0 := by rw [← hW0]; exact (Below.refl _ w).alloc (Nat.le_refl _) _
  have r0 : W0.heap[w.heap.size]? = some (.cells #[.int .i64 0, .int .i64 0, .int .i64 0] 58 (0, 0)) := by rw [← hW0]; exact alloc_at rfl
  have hs0 : ∀ j, j < l.length → W0.cell? ⟨b, o + j, none⟩ = some (.int .u8 (l.getD j 0)) := fun j hj => (hb0.cell (p := ⟨b, o + j, none⟩) hbw).trans (HS.out j hj)
  have HS0 := Lib.hid hs0; have HB0 := Lib.hid hb0; have R0 := Lib.hid r0; have HW0 := Lib.hid hW0
  clear hs0 hb0 r0 hW0 HS
  go_enter Try.func51, Try.ntmps51
  go_wp2_with (fail)
  show Calls _ _ _ (w.alloc (.cells #[.int .i64 0, .int .i64 0, .int .i64 0] 58)) _
  rw [HW0.out, HL.out]
  refine (viewU16_yes b o c l 4 W0 HS0.out H.out.bd (by have := HL.out; omega) HC.out (by omega) (by have := HL.out; omega)).mono ?_
  rw [H.out.v4, ← HL.out]
  rintro e w1 ⟨rfl, rfl⟩
  go_wp2_with (fail)
  rw [HL.out]
  refine (viewU16_yes b o c l 6 W0 HS0.out H.out.bd (by have := HL.out; omega) HC.out (by omega) (by have := HL.out; omega)).mono ?_
  rw [H.out.v6, ← HL.out]
  rintro e w1 ⟨rfl, rfl⟩
  go_wp2_with (fail)
  rw [HL.out]
  refine (viewU32_yes b o c l 8 W0 HS0.out H.out.bd (by have := HL.out; omega) HC.out (by omega) (by have := HL.out; omega)).mono ?_
  rw [H.out.v8, ← HL.out]
  rintro e w1 ⟨rfl, rfl⟩
  have kc := fun (w : World) (C : Array Value) (n c : Nat) => Lib.run_convert_bytes_const (P := Try.prog) w 53 5 C n c Try.underlying53 Try.underlying5
  go_wp2_with (fail)
  rw [HL.out]
  refine (hasPrefix_yes b o c W0.heap.size 0 4 l.length 4 [70, 78, 83, 84] _ rfl (by have := HL.out; omega) HC.out ?pre1 ?pre2).mono ?_
  case pre1 =>
    intro j hj
    rw [← H.out.magic j hj]
    exact Lib.cell?_alloc_some _ (HS0.out j (by have := HL.out; omega))
  case pre2 =>
    intro j hj
    rw [cell_of_row _ _ _ _ _ _ (heap_alloc_new W0 _)]
    match j, hj with
    | 0, _ => rfl
    | 1, _ => rfl
    | 2, _ => rfl
    | 3, _ => rfl
  rintro e w1 ⟨rfl, rfl⟩
  rw [← HL.out]
  obtain ⟨W1, hW1⟩ : ∃ W1, W1 = (W0.alloc (.cells #[.int .u8 70, .int .u8 78, .int .u8 83, .int .u8 84] 5 (4, 5))) := ⟨_, rfl⟩
  have hb1 : Below w.heap.size w W1 := by rw [hW1]; exact HB0.out.alloc HB0.out.size _
  have r1 : W1.heap[w.heap.size]? = some (.cells #[.int .i64 0, .int .i64 0, .int .i64 0] 58 (0, 0)) := by rw [hW1, Below.heap_alloc _ _ _ (lt_of_block R0.out)]; exact R0.out
  have hs1 : ∀ j, j < l.length → W1.cell? ⟨b, o + j, none⟩ = some (.int .u8 (l.getD j 0)) := fun j hj => by rw [hW1]; exact Lib.cell?_alloc_some _ (HS0.out j hj)
  have HS1 := Lib.hid hs1; have HB1 := Lib.hid hb1; have R1 := Lib.hid r1
  rw [← hW1]
  clear HS0 HB0 R0 HW0 hs1 hb1 r1 hW1
  have wL : IntKind.u64.wrap (L : Int) = (L : Int) := by rw [IntKind.wrap_u64]; omega
  go_wp2_with (fail)
  have hb2 : Below w.heap.size w (W1.alloc (.cells #[.int .i64 12, .int .i64 4, .int .i64 24, .int .i64 8] 23)) := HB1.out.alloc HB1.out.size _
  have r2 : (W1.alloc (.cells #[.int .i64 12, .int .i64 4, .int .i64 24, .int .i64 8] 23)).heap[w.heap.size]? = some (.cells #[.int .i64 0, .int .i64 0, .int .i64 0] 58 (0, 0)) := by rw [Below.heap_alloc _ _ _ (lt_of_block R1.out)]; exact R1.out
  have rz : (W1.alloc (.cells #[.int .i64 12, .int .i64 4, .int .i64 24, .int .i64 8] 23)).heap[W1.heap.size]? = some (.cells #[.int .i64 12, .int .i64 4, .int .i64 24, .int .i64 8] 23 (0, 0)) := alloc_at rfl
  have hs2 : ∀ j, j < l.length → (W1.alloc (.cells #[.int .i64 12, .int .i64 4, .int .i64 24, .int .i64 8] 23)).cell? ⟨b, o + j, none⟩ = some (.int .u8 (l.getD j 0)) := fun j hj => Lib.cell?_alloc_some _ (HS1.out j hj)
  have HS2 := Lib.hid hs2; have HB2 := Lib.hid hb2; have R2 := Lib.hid r2; have RZ := Lib.hid rz
  obtain ⟨A, hA⟩ : ∃ A, A = W1.heap.size := ⟨_, rfl⟩
  obtain ⟨W2, hW2⟩ : ∃ W2, W2 = (W1.alloc (.cells #[.int .i64 12, .int .i64 4, .int .i64 24, .int .i64 8] 23)) := ⟨_, rfl⟩
  rw [← hA, ← hW2] at RZ ⊢
  rw [← hW2] at HS2 HB2 R2
  clear hb2 r2 rz hs2 HS1 HB1 R1 hW2 hA kc t1
  go_loopw [11, 60] (fun d i wr => ∃ k : Nat, k ≤ 2 ∧ i = .int .i64 (k : Int) ∧ Hid (∀ j, j < l.length → wr.cell? ⟨b, o + j, none⟩ = some (.int .u8 (l.getD j 0))) ∧ Hid (Below w.heap.size w wr) ∧ Hid (wr.heap[w.heap.size]? = some (.cells #[.int .i64 0, .int .i64 0, .int .i64 0] 58 (0, 0))) ∧ Hid (wr.heap[A]? = some (.cells #[.int .i64 12, .int .i64 4, .int .i64 24, .int .i64 8] 23 (0, 0)))) (fun _ i _ => 2 - (intOf i).toNat)
  case atStart => exact ⟨0, by omega, rfl, HS2, HB2, R2, RZ⟩
  case round =>
    clear HS2 HB2 R2 RZ
    obtain ⟨k, hk, rfl, HS, HB, HR, HZ⟩ := hrel
    by_cases hlt : k < 2
    · obtain ⟨x, n, hx0, hx1, hx2, hx3, hzn⟩ : ∃ x n : Nat, wr.cell? ⟨A, k * 2, none⟩ = some (.int .i64 (x : Int)) ∧ wr.cell? ⟨A, k * 2 + 1, none⟩ = some (.int .i64 (n : Int)) ∧ x + n ≤ 80 ∧ x < 80 ∧ NoBits l x n := by
        rcases (by omega : k = 0 ∨ k = 1) with rfl | rfl
        · exact ⟨12, 4, by rw [cell_of_row _ _ _ _ _ _ HZ.out]; rfl, by rw [cell_of_row _ _ _ _ _ _ HZ.out]; rfl, by omega, by omega, H.out.z1⟩
        · exact ⟨24, 8, by rw [cell_of_row _ _ _ _ _ _ HZ.out]; rfl, by rw [cell_of_row _ _ _ _ _ _ HZ.out]; rfl, by omega, by omega, H.out.z2⟩
      have HZN := Lib.hid hzn
      clear hzn
      go_wp2_with (refine wpList_load_pair' rfl 23 (.tmp 62) rfl ⟨A, k * 2, none⟩ rfl (.int .i64 (x : Int)) (.int .i64 (n : Int)) _ hx0 hx1 rfl rfl rfl ?_)
      have hzero : ∀ j, j < n → (wr.alloc (.cells #[.int .i64 (x : Int), .int .i64 (n : Int)] 23)).cell? ⟨b, o + x + j, none⟩ = some (.int .u8 0) := fun j hj => by
        have h1 := HS.out (x + j) (by have := HL.out; omega)
        rw [HZN.out j hj, ← Nat.add_assoc] at h1
        exact Lib.cell?_alloc_some _ h1
      refine (dirty_none b o c L x n _ hzero (by omega) (by omega) (by omega) (by have := HC.out; have := HL.out; omega)).mono ?_
      rintro e W3 ⟨rfl, d, rfl⟩
      have hs3 : ∀ j, j < l.length → ((wr.alloc (.cells #[.int .i64 (x : Int), .int .i64 (n : Int)] 23)).drewN d).cell? ⟨b, o + j, none⟩ = some (.int .u8 (l.getD j 0)) := fun j hj => Lib.cell?_alloc_some _ (HS.out j hj)
      have hb3 : Below w.heap.size w ((wr.alloc (.cells #[.int .i64 (x : Int), .int .i64 (n : Int)] 23)).drewN d) := below_drewN (HB.out.alloc HB.out.size _) d
      have r3 : ((wr.alloc (.cells #[.int .i64 (x : Int), .int .i64 (n : Int)] 23)).drewN d).heap[w.heap.size]? = some (.cells #[.int .i64 0, .int .i64 0, .int .i64 0] 58 (0, 0)) := (Below.heap_alloc _ _ _ (lt_of_block HR.out)).trans HR.out
      have z3 : ((wr.alloc (.cells #[.int .i64 (x : Int), .int .i64 (n : Int)] 23)).drewN d).heap[A]? = some (.cells #[.int .i64 12, .int .i64 4, .int .i64 24, .int .i64 8] 23 (0, 0)) := (Below.heap_alloc _ _ _ (lt_of_block HZ.out)).trans HZ.out
      have HS3 := Lib.hid hs3; have HB3 := Lib.hid hb3; have R3 := Lib.hid r3; have Z3 := Lib.hid z3
      clear hs3 hb3 r3 z3 HS HB HR HZ hx0 hx1
      go_wp2_with (fail)
      refine ⟨⟨k + 1, by omega, by go_num, HS3, HB3, R3, Z3⟩, ?_⟩
      simp [intOf]; omega
    · obtain rfl : k = 2 := by omega
      have fz := frozen_of_row wr w.heap.size 0 _ _ HR.out
      go_wp2_with (refine wpList_store_row rfl 58 (.tmp 2) (.tmp 75) rfl w.heap.size #[.int .i64 0, .int .i64 0, .int .i64 0] rfl rfl 58 _ HR.out rfl rfl (by simp [Value.oneCell']) ?_)
      have e1 : (wr.setRow w.heap.size #[.int .i64 0, .int .i64 0, .int .i64 0]).heap[w.heap.size]? = some (.cells #[.int .i64 0, .int .i64 0, .int .i64 0] 58 (0, 0)) := setRow_heap _ _ _ _ _ _ HR.out
      refine bodyPost_ret (v := .agg #[.int .i64 0, .int .i64 0, .int .i64 0]) (results_cell_row rfl _ _ w.heap.size 58 _ (0, 0) _ rfl e1 rfl rfl rfl) rfl ?_
      exact ⟨rfl, below_setRow HB.out (Nat.le_refl _) _⟩
end Go.Proofs.Ythmenbehpblljaa
