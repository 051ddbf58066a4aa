/-
  Put of the table.
-/
import Derived.Test.YthmenbehpblljaaStageW
import Derived.Test.YthmenbehpblljaaTabF
import Derived.Test.YthmenbehpblljaaBuf5
import Derived.Lib.SlBytesConst
namespace Go.Proofs.Ythmenbehpblljaa
open Go.RowKit Go.Shelf
attribute [local go_sem] Oper.semAt_some

def magicVals : List Value := [.int .u8 70, .int .u8 78, .int .u8 83, .int .u8 84]
def entVals (c : Nat → Nat) (s : Nat) : List Value := leVals (nextOf c (s - 1) : Int) 4 ++ leVals (c s : Int) 4
def headVals (N : Nat) (frame : Int) : List Value := magicVals ++ leVals 1 2 ++ leVals 80 2 ++ leVals ((N : Int) + 4) 4 ++ leVals 0 4 ++ leVals frame 8 ++ leVals 0 8
def entsVals (c : Nat → Nat) (pre : List Sec) : List Value := pre.flatMap fun x => entVals c x.1
def hdrVals (c : Nat → Nat) (frame : Int) : List Value := headVals (nextOf c 6) frame ++ entsVals c (secUpto 6)
theorem headVals_length (N : Nat) (frame : Int) : (headVals N frame).length = 32 := by simp [headVals, magicVals, leVals_length]
theorem entsVals_length (c : Nat → Nat) (pre : List Sec) : (entsVals c pre).length = 8 * pre.length := by
  induction pre with
  | nil => rfl
  | cons x pre ih => rw [show entsVals c (x :: pre) = entVals c x.1 ++ entsVals c pre from rfl, List.length_append, ih]; simp [entVals, leVals_length]; omega
theorem entsVals_snoc (c : Nat → Nat) (pre : List Sec) (x : Sec) : entsVals c (pre ++ [x]) = entsVals c pre ++ entVals c x.1 := by simp [entsVals]

theorem isBuf_own (n₀ B : Nat) (f : List Sec → List Value) : Own (fun pre W => IsBuf n₀ B (f pre) W) := by
  rintro s X Y row ⟨a, c, hb, hB, ho⟩ hg hrow
  refine ⟨a, c, row_kept hb hg hrow, hB, ho.kept hg ?_⟩
  rcases ho.2 with ⟨he, _⟩ | ⟨g, cap, cur, he, _, hgb, _⟩
  · rw [he]; exact .inl rfl
  · rw [he]
    refine .inr fun e' => ?_
    obtain ⟨o, ho, hc⟩ := hrow g (by simpa [Value.ownBlock] using e'.symm)
    rw [hgb] at ho; cases ho; cases hc

structure PutI (c : Nat → Nat) (frame : Int) (n₀ B N : Nat) (ys : List Value) (pre : List Sec) (W : World) : Prop where
  buf : IsBuf n₀ B (ys ++ entsVals c pre) W
  b0 : W.heap[N]? = some (.cells #[.pointer (some ⟨B, 0, none⟩)] 43 (0, 0))
  b1 : W.heap[N + 1]? = some (.cells (tabCells c frame) 28 (0, 0))
theorem putI_own (c : Nat → Nat) (frame : Int) (n₀ B N : Nat) (ys : List Value) : Own (PutI c frame n₀ B N ys) := fun pre X Y row hs hg hr =>
  ⟨isBuf_own n₀ B (fun pre => ys ++ entsVals c pre) pre X Y row hs.buf hg hr, row_kept hs.b0 hg hr, row_kept hs.b1 hg hr⟩

theorem src_row4 (w : World) (t : TypeId) (fr : Nat × Nat) : Src (w.alloc (.cells #[.int .u8 70, .int .u8 78, .int .u8 83, .int .u8 84] t fr)) (some ⟨w.heap.size, 0, none⟩) magicVals := by
  refine ⟨fun h => (by cases h), fun u hu => ?_, fun ad had j u hu => ?_⟩
  · simp [magicVals] at hu; rcases hu with rfl | rfl | rfl | rfl <;> rfl
  · obtain rfl := Option.some.inj had
    rw [show (⟨w.heap.size, 0, none⟩ : Addr).add j = ⟨w.heap.size, 0 + j, none⟩ from Addr.add_lit _ _ _, cell_of_row _ _ _ _ _ _ (heap_alloc_new w _)]
    simpa [magicVals] using hu

def chP (o : Oper) : Bool := match o.op with | .call c => (match c.callee with | .value _ => true | _ => false) | _ => false

set_option maxRecDepth 100000 in
set_option maxHeartbeats 6000000 in
theorem put_any (n₀ B : Nat) (c : Nat → Nat) (frame : Int) (xs : List Value) (w : World) (hc : CountsOk c) (h : IsBuf n₀ B xs w) (hf0 : 0 ≤ frame) (hf1 : frame ≤ 18446744073709551615) (hx : xs.length ≤ 100000) :
    Calls Try.prog 25 #[.pointer (some ⟨B, 0, none⟩), .agg (tabCells c frame)] w fun e w' => e = .returned (.tuple #[]) ∧ IsBuf n₀ B (xs ++ hdrVals c frame) w' ∧ Below n₀ w w' := by
  have hBs : B < w.heap.size := by obtain ⟨a, c, hb, _⟩ := h; exact lt_of_block hb
  have hn0 : n₀ ≤ w.heap.size := h.le
  have hcm : ∀ s, c s ≤ 1024 := fun s => Nat.le_trans (hc s) (secLimit_le s)
  have HC := Lib.hid hcm
  have hN := nextOf_le c hcm 6
  obtain ⟨W0, hW0⟩ : ∃ W0, (w.alloc (.cells #[.pointer (some ⟨B, 0, none⟩)] 43)).alloc (.cells (tabCells c frame) 28) = W0 := ⟨_, rfl⟩
  have hz0 : W0.heap.size = w.heap.size + 2 := by rw [← hW0]; simp
  have hI : IsBuf n₀ B xs W0 := by rw [← hW0]; exact (h.alloc _).alloc _
  have hk : BK n₀ B w W0 := by rw [← hW0]; exact ((BK.refl _ _ w).alloc hn0 _).alloc (by simp; omega) _
  have r0 : W0.heap[w.heap.size]? = some (.cells #[.pointer (some ⟨B, 0, none⟩)] 43 (0, 0)) := by
    rw [← hW0, Below.heap_alloc _ _ _ (by simp)]; exact alloc_at rfl
  have r1 : W0.heap[w.heap.size + 1]? = some (.cells (tabCells c frame) 28 (0, 0)) := by
    rw [← hW0]; exact alloc_at (by simp)
  have hBne0 : w.heap.size ≠ B := by omega
  have hBne1 : w.heap.size + 1 ≠ B := by omega
  have HI := Lib.hid hI; have HK := Lib.hid hk; have R0 := Lib.hid r0; have R1 := Lib.hid r1; have HW0 := Lib.hid hW0
  clear hI hk r0 r1 hW0 h hc
  refine (callsIn_wide (n := 5)).1 ?_
  refine callsIn_of_wp_marks Try.func25 rfl trivial ?_ rfl
  simp only [Try.ntmps25, List.size_toArray, List.length_cons, List.length_nil, Nat.reduceAdd, Nat.reduceSub, Array.replicate_succ, Array.replicate_zero, List.push_toArray, List.append_toArray, List.nil_append, List.cons_append]
  have kc : (convert 53 53 (.slice (some ⟨w.heap.size + 1 + 1, 0, none⟩) 4 4)).run Try.prog (((w.alloc (.cells #[.pointer (some ⟨B, 0, none⟩)] 43)).alloc (.cells (tabCells c frame) 28)).alloc (.cells #[.int .u8 70, .int .u8 78, .int .u8 83, .int .u8 84] 5))
      = .ok (.slice (some ⟨w.heap.size + 1 + 1, 0, none⟩) 4 4) (((w.alloc (.cells #[.pointer (some ⟨B, 0, none⟩)] 43)).alloc (.cells (tabCells c frame) 28)).alloc (.cells #[.int .u8 70, .int .u8 78, .int .u8 83, .int .u8 84] 5 (4, 5))) := by
    have h := Lib.run_convert_bytes_const (P := Try.prog) ((w.alloc (.cells #[.pointer (some ⟨B, 0, none⟩)] 43)).alloc (.cells (tabCells c frame) 28)) 53 5 #[.int .u8 70, .int .u8 78, .int .u8 83, .int .u8 84] 4 4 Try.underlying53 Try.underlying5
    rw [show ((w.alloc (.cells #[.pointer (some ⟨B, 0, none⟩)] 43)).alloc (.cells (tabCells c frame) 28)).heap.size = w.heap.size + 1 + 1 from by simp] at h
    exact h
  gi_wp2_with (fail)
  refine ⟨trivial, ?_⟩
  show CallsIn _ _ _ _ _ (((w.alloc (.cells #[.pointer (some ⟨B, 0, none⟩)] 43)).alloc (.cells (tabCells c frame) 28)).alloc _) _
  have ez : w.heap.size + 1 + 1 = W0.heap.size := by omega
  rw [HW0.out, ez]
  refine (callsIn_wide.2 (add_k n₀ B ⟨W0.heap.size, 0, none⟩ 4 xs magicVals _ (HI.out.alloc _) (src_row4 _ _ _) (by omega) (by simp [magicVals]))).mono ?_
  rintro e W1 ⟨rfl, hI, hk⟩
  have R0' := hk.row ((Below.heap_alloc _ _ _ (lt_of_block R0.out)).trans R0.out) hBne0 (by decide)
  have R1' := hk.row ((Below.heap_alloc _ _ _ (lt_of_block R1.out)).trans R1.out) hBne1 (by decide)
  have HI1 := Lib.hid hI; have HK1 := Lib.hid ((HK.out.alloc (by omega) _).trans hk); have R01 := Lib.hid R0'; have R11 := Lib.hid R1'
  clear HI HK R0 R1 HW0 hI hk R0' R1' ez hz0
  obtain ⟨N, hNe⟩ : ∃ N, N = nextOf c 6 := ⟨_, rfl⟩
  rw [← hNe] at hN
  have HNE := Lib.hid hNe
  clear hNe
  have c0 : W1.cell? ⟨w.heap.size, 0, none⟩ = some (.pointer (some ⟨B, 0, none⟩)) := cell_of_one R01.out
  gi_wp2_with (fail)
  refine ⟨trivial, ?_⟩
  refine (callsIn_wide.2 (u16_k n₀ B 1 (xs ++ magicVals) W1 HI1.out (by omega) (by omega) (by simp [magicVals, leVals_length]; omega))).mono ?_
  rintro e W2 ⟨rfl, hI, hk⟩
  have R02 := Lib.hid (hk.row R01.out hBne0 (by decide))
  have R12 := Lib.hid (hk.row R11.out hBne1 (by decide))
  have HI2 := Lib.hid hI; have HK2 := Lib.hid (HK1.out.trans hk)
  clear HI1 HK1 R01 R11 hI hk c0
  have c0 : W2.cell? ⟨w.heap.size, 0, none⟩ = some (.pointer (some ⟨B, 0, none⟩)) := cell_of_one R02.out
  gi_wp2_with (fail)
  refine ⟨trivial, ?_⟩
  refine (callsIn_wide.2 (u16_k n₀ B 80 (xs ++ magicVals ++ leVals 1 2) W2 HI2.out (by omega) (by omega) (by simp [magicVals, leVals_length]; omega))).mono ?_
  rintro e W3 ⟨rfl, hI, hk⟩
  have R03 := Lib.hid (hk.row R02.out hBne0 (by decide))
  have R13 := Lib.hid (hk.row R12.out hBne1 (by decide))
  have HI3 := Lib.hid hI; have HK3 := Lib.hid (HK2.out.trans hk)
  clear HI2 HK2 R02 R12 hI hk c0
  have c0 : W3.cell? ⟨w.heap.size, 0, none⟩ = some (.pointer (some ⟨B, 0, none⟩)) := cell_of_one R03.out
  have c1 : W3.cell? ⟨w.heap.size + 1, 1, none⟩ = some (.int .i64 ((N : Int) + 4)) := by rw [cell_of_row _ _ _ _ _ _ R13.out, HNE.out]; rfl
  have wN : IntKind.u32.wrap ((N : Int) + 4) = (N : Int) + 4 := by rw [IntKind.wrap_u32]; omega
  gi_wp2_with (fail)
  refine ⟨trivial, ?_⟩
  refine (callsIn_wide.2 (u32_k n₀ B ((N : Int) + 4) (xs ++ magicVals ++ leVals 1 2 ++ leVals 80 2) W3 HI3.out (by omega) (by omega) (by simp [magicVals, leVals_length]; omega))).mono ?_
  rintro e W4 ⟨rfl, hI, hk⟩
  have R04 := Lib.hid (hk.row R03.out hBne0 (by decide))
  have R14 := Lib.hid (hk.row R13.out hBne1 (by decide))
  have HI4 := Lib.hid hI; have HK4 := Lib.hid (HK3.out.trans hk)
  clear HI3 HK3 R03 R13 hI hk c0 c1
  have c0 : W4.cell? ⟨w.heap.size, 0, none⟩ = some (.pointer (some ⟨B, 0, none⟩)) := cell_of_one R04.out
  gi_wp2_with (fail)
  refine ⟨trivial, ?_⟩
  refine (callsIn_wide.2 (u32_k n₀ B 0 (xs ++ magicVals ++ leVals 1 2 ++ leVals 80 2 ++ leVals ((N : Int) + 4) 4) W4 HI4.out (by omega) (by omega) (by simp [magicVals, leVals_length]; omega))).mono ?_
  rintro e W5 ⟨rfl, hI, hk⟩
  have R05 := Lib.hid (hk.row R04.out hBne0 (by decide))
  have R15 := Lib.hid (hk.row R14.out hBne1 (by decide))
  have HI5 := Lib.hid hI; have HK5 := Lib.hid (HK4.out.trans hk)
  clear HI4 HK4 R04 R14 hI hk c0
  have c0 : W5.cell? ⟨w.heap.size, 0, none⟩ = some (.pointer (some ⟨B, 0, none⟩)) := cell_of_one R05.out
  have c1 : W5.cell? ⟨w.heap.size + 1, 0, none⟩ = some (.int .u64 frame) := by rw [cell_of_row _ _ _ _ _ _ R15.out]; rfl
  gi_wp2_with (fail)
  refine ⟨trivial, ?_⟩
  refine (callsIn_wide.2 (u64_k n₀ B frame (xs ++ magicVals ++ leVals 1 2 ++ leVals 80 2 ++ leVals ((N : Int) + 4) 4 ++ leVals 0 4) W5 HI5.out (by omega) (by omega) (by simp [magicVals, leVals_length]; omega))).mono ?_
  rintro e W6 ⟨rfl, hI, hk⟩
  have R06 := Lib.hid (hk.row R05.out hBne0 (by decide))
  have R16 := Lib.hid (hk.row R15.out hBne1 (by decide))
  have HI6 := Lib.hid hI; have HK6 := Lib.hid (HK5.out.trans hk)
  clear HI5 HK5 R05 R15 hI hk c0 c1
  have c0 : W6.cell? ⟨w.heap.size, 0, none⟩ = some (.pointer (some ⟨B, 0, none⟩)) := cell_of_one R06.out
  gi_wp2_with (fail)
  refine ⟨trivial, ?_⟩
  refine (callsIn_wide.2 (u64_k n₀ B 0 (xs ++ magicVals ++ leVals 1 2 ++ leVals 80 2 ++ leVals ((N : Int) + 4) 4 ++ leVals 0 4 ++ leVals frame 8) W6 HI6.out (by omega) (by omega) (by simp [magicVals, leVals_length]; omega))).mono ?_
  rintro e W7 ⟨rfl, hI, hk⟩
  have R07 := Lib.hid (hk.row R06.out hBne0 (by decide))
  have R17 := Lib.hid (hk.row R16.out hBne1 (by decide))
  have HI7 := Lib.hid hI; have HK7 := Lib.hid (HK6.out.trans hk)
  clear HI6 HK6 R06 R16 hI hk c0
  gi_wp2_with (fail)
  refine ⟨trivial, ?_⟩
  refine (callsIn_wide.2 (sections_any W7)).mono ?_
  rintro e w' ⟨rfl, rfl⟩
  gi_wp2_with (fail)
  obtain ⟨ys, hys⟩ : ∃ ys, ys = xs ++ headVals N frame := ⟨_, rfl⟩
  have hyl : ys.length ≤ 100100 := by rw [hys, List.length_append, headVals_length]; omega
  have hI0 : PutI c frame n₀ B w.heap.size ys [] W7 := ⟨by
    have h := HI7.out
    rw [hys, show entsVals c [] = [] from rfl, List.append_nil]
    simpa [headVals, List.append_assoc] using h, R07.out, R17.out⟩
  have HYS := Lib.hid hys
  clear hys
  have hB0 := HK7.out.below
  have hz7 := HK7.out.size
  clear HI7 R07 R17
  refine wpIn_rangeFunc_ownF rfl (by omega) (gf := 55) (lb := #[]) rfl trivial (enters_of Try.func55 (by kernel_rfl) rfl)
    (sections_stops Fence.wide (5 - 1) trivial rfl (by omega) W7) walksK_t walksK_b (Below.refl _ _) (fun _ => rfl)
    (fun pre W => PutI c frame n₀ B w.heap.size ys pre W ∧ Below n₀ w W)
    (fun _ _ _ => False)
    (OwnFrom.and (Own.from (putI_own c frame n₀ B w.heap.size ys) _) (ownFrom_below hn0 (by omega)))
    (fun _ _ _ _ _ hs _ _ => hs)
    ⟨hI0, hB0⟩
    (fun x => { tmps := #[.pointer (some ⟨B, 0, none⟩), .agg (tabCells c frame), .pointer (some ⟨w.heap.size, 0, none⟩), .pointer (some ⟨w.heap.size + 1, 0, none⟩), .int .i64 (x.1 : Int), .pointer (some ⟨B, 0, none⟩), .slice (some ⟨W0.heap.size, 0, none⟩) 4 4, .slice (some ⟨W0.heap.size, 0, none⟩) 4 4, .tuple #[], .pointer (some ⟨B, 0, none⟩), .tuple #[], .pointer (some ⟨B, 0, none⟩), .tuple #[], .pointer (some ⟨B, 0, none⟩), .pointer (some ⟨w.heap.size + 1, 1, none⟩), .int .i64 ((N : Int) + 4), .int .u32 ((N : Int) + 4), .tuple #[], .pointer (some ⟨B, 0, none⟩), .tuple #[], .pointer (some ⟨B, 0, none⟩), .pointer (some ⟨w.heap.size + 1, 0, none⟩), .int .u64 frame, .tuple #[], .pointer (some ⟨B, 0, none⟩), .tuple #[], .func (.func 55) #[] #[], .int .i64 (x.1 : Int), .int .i64 (32 + 8 * ((x.1 : Int) - 1)), undef, undef, undef, undef, undef, undef, undef, undef, undef, undef, undef, undef, undef, undef], defers := [] }) ?assign ?body ?done ?stop
  case assign =>
    intro l x W K hK
    gi_wp2
    exact hK
  case body =>
    rintro l pre ⟨s, hs1, hs2⟩ W ⟨hI, hB⟩ hlt
    have hlt6 : pre.length < 6 := hlt
    have hT := tabAt_tab c frame s hs1 hs2
    have c0 : W.cell? ⟨w.heap.size, 0, none⟩ = some (.pointer (some ⟨B, 0, none⟩)) := cell_of_one hI.b0
    have hO := nextOf_le c HC.out (s - 1)
    have hCm := HC.out s
    obtain ⟨O, hOe⟩ : ∃ O, O = nextOf c (s - 1) := ⟨_, rfl⟩
    obtain ⟨C, hCe⟩ : ∃ C, C = c s := ⟨_, rfl⟩
    rw [← hOe] at hO hT
    rw [← hCe] at hCm hT
    have hO2 : O ≤ 400000 := by omega
    have c1 : W.cell? ⟨w.heap.size + 1, 2 + s, none⟩ = some (.int .i64 (O : Int)) := by rw [cell_of_row _ _ _ _ _ _ hI.b1]; exact hT.2.1
    have wO : IntKind.u32.wrap (O : Int) = (O : Int) := by rw [IntKind.wrap_u32]; omega
    have wC : IntKind.u32.wrap (C : Int) = (C : Int) := by rw [IntKind.wrap_u32]; omega
    have hel := entsVals_length c pre
    have HI := Lib.hid hI.buf; have R0 := Lib.hid hI.b0; have R1 := Lib.hid hI.b1; have HB := Lib.hid hB; have HT := Lib.hid hT; have HOE := Lib.hid hOe; have HCE := Lib.hid hCe
    have hmx : Try.prog.follows .mixedOrders = true := by kernel_rfl
    have s7 : (s : Int) < 7 := by omega
    have s70 : (0 : Int) ≤ s := by omega
    clear hI hB hT hOe hCe hI0 hB0 hO
    gi_wp2_with (fail)
    refine wpIn_region_stageV_round (σ := World) (C := fun s w => ∃ n, w = s.drewN n) (L := fun s' => s'.cell? ⟨w.heap.size, 0, none⟩ = some (.pointer (some ⟨B, 0, none⟩)) ∧ s'.cell? ⟨w.heap.size + 1, 2 + s, none⟩ = some (.int .i64 (O : Int))) (ch := chP) (fin := fun _ => false) W hmx (by kernel_rfl) (by kernel_rfl) ⟨1, rfl⟩ ?_
    iterate 6 (refine wpStageV_step ⟨c0, c1⟩ rfl rfl ?_; go_big_quiet_want; go_big_quiet_op; first
      | (go_big_quiet_on; refine wpQuiet_nil ?_)
      | (refine ⟨_, fun w' s' hL1 hL2 n hn => rfl, ?_⟩; go_big_quiet_on; refine wpQuiet_nil ?_)
      | (apply Exists.intro; refine ⟨?_, ?_⟩; (intro w' s' hL1 hL2 n hn; subst hn; rw [World.cell?_drewN, hL1]; exact ⟨rfl, rfl⟩); go_big_quiet_on; refine wpQuiet_nil ?_)
      | (apply Exists.intro; refine ⟨?_, ?_⟩; (intro w' s' hL1 hL2 n hn; subst hn; rw [World.cell?_drewN, hL2]; exact ⟨rfl, rfl⟩); go_big_quiet_on; refine wpQuiet_nil ?_))
    refine wpStageV_enter 48 #[.pointer (some ⟨B, 0, none⟩), .int .u32 (O : Int)] ⟨c0, c1⟩ rfl rfl (fun w' => by simp [execOp, go_sem]) ?_
    rintro _ ⟨n, rfl⟩
    refine (u32_k n₀ B (O : Int) (ys ++ entsVals c pre) (W.drewN n) (by exact HI.out) (by omega) (by omega) (by simp [leVals_length]; omega)).mono ?_
    rintro e W1 ⟨rfl, hI, hk'⟩
    have hk := (BK.drewN (BK.refl n₀ B W) n).trans hk'
    have R0W1 := Lib.hid (hk.row R0.out hBne0 (by decide))
    have R1W1 := Lib.hid (hk.row R1.out hBne1 (by decide))
    refine ⟨_, rfl, W1, ⟨0, rfl⟩, fun _ => ⟨cell_of_one R0W1.out, by rw [cell_of_row _ _ _ _ _ _ R1W1.out]; exact HT.out.2.1⟩, ?_⟩
    simp only [Act.put, List.setIfInBounds_toArray, List.set_cons_succ, List.set_cons_zero]
    refine wpStageV_nil ?_
    rintro _ ⟨m, rfl⟩
    obtain ⟨W2, hW2⟩ : ∃ W2, W2 = W1.drewN m := ⟨_, rfl⟩
    have hI2 : IsBuf n₀ B (ys ++ entsVals c pre ++ leVals (O : Int) 4) W2 := by rw [hW2]; exact hI
    have hk2 : BK n₀ B W W2 := by rw [hW2]; exact hk.drewN m
    have R0W2 : Hid (W2.heap[w.heap.size]? = some (.cells #[.pointer (some ⟨B, 0, none⟩)] 43 (0, 0))) := by rw [hW2]; exact R0W1
    have R1W2 : Hid (W2.heap[w.heap.size + 1]? = some (.cells (tabCells c frame) 28 (0, 0))) := by rw [hW2]; exact R1W1
    have HI2 := Lib.hid hI2; have HK2 := Lib.hid hk2
    rw [← hW2]
    clear hI hk hk' hW2 R0W1 R1W1 hI2 hk2 c0 c1 wO
    have c0 : W2.cell? ⟨w.heap.size, 0, none⟩ = some (.pointer (some ⟨B, 0, none⟩)) := cell_of_one R0W2.out
    have c1 : W2.cell? ⟨w.heap.size + 1, 9 + s, none⟩ = some (.int .i64 (C : Int)) := by rw [cell_of_row _ _ _ _ _ _ R1W2.out]; exact HT.out.2.2
    gi_wp2_with (fail)
    refine wpIn_region_stageV_round (σ := World) (C := fun s w => ∃ n, w = s.drewN n) (L := fun s' => s'.cell? ⟨w.heap.size, 0, none⟩ = some (.pointer (some ⟨B, 0, none⟩)) ∧ s'.cell? ⟨w.heap.size + 1, 9 + s, none⟩ = some (.int .i64 (C : Int))) (ch := chP) (fin := fun _ => false) W2 hmx (by kernel_rfl) (by kernel_rfl) ⟨1, rfl⟩ ?_
    iterate 6 (refine wpStageV_step ⟨c0, c1⟩ rfl rfl ?_; go_big_quiet_want; go_big_quiet_op; first
      | (go_big_quiet_on; refine wpQuiet_nil ?_)
      | (refine ⟨_, fun w' s' hL1 hL2 n hn => rfl, ?_⟩; go_big_quiet_on; refine wpQuiet_nil ?_)
      | (apply Exists.intro; refine ⟨?_, ?_⟩; (intro w' s' hL1 hL2 n hn; subst hn; rw [World.cell?_drewN, hL1]; exact ⟨rfl, rfl⟩); go_big_quiet_on; refine wpQuiet_nil ?_)
      | (apply Exists.intro; refine ⟨?_, ?_⟩; (intro w' s' hL1 hL2 n hn; subst hn; rw [World.cell?_drewN, hL2]; exact ⟨rfl, rfl⟩); go_big_quiet_on; refine wpQuiet_nil ?_))
    refine wpStageV_enter 48 #[.pointer (some ⟨B, 0, none⟩), .int .u32 (C : Int)] ⟨c0, c1⟩ rfl rfl (fun w' => by simp [execOp, go_sem]) ?_
    rintro _ ⟨n, rfl⟩
    refine (u32_k n₀ B (C : Int) (ys ++ entsVals c pre ++ leVals (O : Int) 4) (W2.drewN n) (by exact HI2.out) (by omega) (by omega) (by simp [leVals_length]; omega)).mono ?_
    rintro e W3 ⟨rfl, hI, hk'⟩
    have hk := (BK.drewN (BK.refl n₀ B W2) n).trans hk'
    have R0W3 := Lib.hid (hk.row R0W2.out hBne0 (by decide))
    have R1W3 := Lib.hid (hk.row R1W2.out hBne1 (by decide))
    refine ⟨_, rfl, W3, ⟨0, rfl⟩, fun _ => ⟨cell_of_one R0W3.out, by rw [cell_of_row _ _ _ _ _ _ R1W3.out]; exact HT.out.2.2⟩, ?_⟩
    simp only [Act.put, List.setIfInBounds_toArray, List.set_cons_succ, List.set_cons_zero]
    refine wpStageV_nil ?_
    rintro _ ⟨m, rfl⟩
    have hkk : BK n₀ B W (W3.drewN m) := (HK2.out.trans hk).drewN m
    obtain ⟨a0, c00, hb00, _⟩ := HI.out
    have hko := hkk.keeps hb00
    have hpre : entsVals c (pre ++ [⟨s, hs1, hs2⟩]) = entsVals c pre ++ (leVals (O : Int) 4 ++ leVals (C : Int) 4) := by
      rw [entsVals_snoc]; unfold entVals; rw [HOE.out, HCE.out]
    refine ⟨hko, hko.walks, ⟨?_, by exact R0W3.out, by exact R1W3.out⟩, HB.out.trans hkk.below⟩
    rw [hpre]
    have hI' : IsBuf n₀ B (ys ++ (entsVals c pre ++ (leVals (O : Int) 4 ++ leVals (C : Int) 4))) W3 := by simpa [List.append_assoc] using hI
    exact hI'
  case done =>
    rintro D zs W hD rfl ⟨hI, hB⟩ hK
    have HI := Lib.hid hI.buf; have HB := Lib.hid hB; have HK := Lib.hid hK
    clear hI0 hB0 hI hB hK
    gi_wp2
    refine ⟨by simp, .inl ⟨_, _, rfl, run_takeDeferred HK.out, ?_⟩⟩
    have eB := HB.out
    have kB : Below n₀ w (W.putObj D (.deferred none)) :=
      ⟨eB.os, eB.tape, eB.output, by simp only [World.putObj, Array.size_setIfInBounds]; exact eB.size, fun k hk => (World.putObj_heap_other (by omega)).trans (eB.block k hk)⟩
    refine ⟨_, results_none rfl _ _ _, rfl, ?_, kB⟩
    have h1 : IsBuf n₀ B (ys ++ entsVals c (secUpto 6)) (W.putObj D (.deferred none)) :=
      isBuf_own n₀ B (fun _ => ys ++ entsVals c (secUpto 6)) [] W _ (some D) HI.out (grownBy_putObj' W D _) (fun r e => by cases e; exact ⟨_, HK.out, rfl⟩)
    rw [HYS.out, List.append_assoc, HNE.out] at h1
    exact h1
  case stop =>
    rintro D cc pre W _ _ h _
    exact h.elim
end Go.Proofs.Ythmenbehpblljaa
