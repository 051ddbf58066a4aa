/-
  The reference's header.
-/
import Derived.Test.YthmenbehpblljaaTabPut
import Derived.Test.YthmenbehpblljaaCrcA
import Derived.Lib.FrozenHead
namespace Go.Proofs.Ythmenbehpblljaa
open Go.RowKit Go.Shelf

set_option maxRecDepth 100000 in
set_option maxHeartbeats 4000000 in
theorem refAppend_any (ad : Addr) (c : Nat) (xs : List Value) (x : Int) (n : Nat) (w : World) (hs : Src w (some ad) xs) (h0 : 0 ≤ x) (h1 : x ≤ 18446744073709551615) (hn : n ≤ 8) (hl : xs.length ≤ 1000000) :
    Calls Try.prog 50 #[.slice (some ad) xs.length c, .int .u64 x, .int .i64 (n : Int)] w (RetRow w.heap.size (xs ++ leVals x n) w) := by
  obtain ⟨k0, k1, k2⟩ := hs
  obtain ⟨i0, hi, hz0, hz1, hz2⟩ := info_parts infoU8
  have hown := World.ownsRow_made (base := w.heap.size) (e := 5) (size := 1) w #[] 0 (Nat.le_refl _) (by decide) rfl
  have hsrc : ∀ j u, xs[j]? = some u → (w.alloc (.cells #[] 5)).cell? (ad.add j) = some u := fun j u hu => Lib.cell?_alloc_some _ (k2 ad rfl j u hu)
  have hb : (0 + xs.length) * 1 ≤ 140737488355328 := by omega
  have hm : 0 + xs.length ≤ maxLen := by unfold maxLen; omega
  have hs2 : w.heap.size ≤ (w.alloc (.cells #[] 5)).heap.size := by simp
  have HB := Lib.hid hb; have HM := Lib.hid hm; have HS2 := Lib.hid hs2; have H1 := Lib.hid k1
  have HSR := Lib.hid hsrc; have HOW := Lib.hid hown
  clear hb hm hs2 hsrc hown k1 k2 k0
  go_enter Try.func50, Try.ntmps50
  go_wp2_with (at_builtin; go_loud (refine wpList_append_own _ rfl _ _ 53 rfl w.heap.size 5 i0 (.int .u8 0) 1 1 Try.underlying53 hi hz0 hz1 hz2 rfl (by decide) _ 0 [] rfl HOW.out ad xs.length c xs rfl (by simp) HSR.out H1.out HM.out HB.out HS2.out ?_); intro v' w1 hown' hgrow hnil; obtain ⟨a2, c2, rfl⟩ := ownsRow_slice hown'; have HW := Lib.hid hgrow; have HO := Lib.hid hown'; clear hgrow hown' hnil)
  have hb1 : Below w.heap.size w w1 := ((Below.refl w.heap.size w).alloc (Nat.le_refl _) _).grown HW.out HS2.out (fun k hk => by have e := Option.some.inj hk; simp at e; omega)
  have e0 : 0 + xs.length = xs.length := Nat.zero_add _
  have HO2 := HO.out
  rw [e0, List.nil_append] at HO2
  have HO3 := Lib.hid HO2; have HB1 := Lib.hid hb1
  clear HO HO2 hb1 HW e0 HSR HOW
  go_loopw [1, 7, 8] (fun xv v i wr => ∃ k : Nat, k ≤ n ∧ i = .int .i64 (k : Int) ∧ xv = .int .u64 (x / 2 ^ (8 * k)) ∧ ∃ a c, v = .slice a (xs ++ leVals x k).length c ∧ Hid (wr.ownsRow w.heap.size 5 1 (.slice a (xs ++ leVals x k).length c) (xs ++ leVals x k).length (xs ++ leVals x k)) ∧ Hid (Below w.heap.size w wr)) (fun _ _ i _ => n - (intOf i).toNat)
  case atStart =>
    refine ⟨0, by omega, rfl, by simp, a2, c2, by simp [leVals], ?_, HB1⟩
    have := HO3.out
    exact Lib.hid (by simpa [leVals] using this)
  case round =>
    clear HO3 HB1
    obtain ⟨k, hk, rfl, rfl, a, c, rfl, HO, HB⟩ := hrel
    by_cases hlt : k < n
    · obtain ⟨X, hX⟩ : ∃ X, X = x / 2 ^ (8 * k) := ⟨_, rfl⟩
      have hX0 : 0 ≤ X := by rw [hX]; exact Int.ediv_nonneg h0 (Int.le_of_lt (Int.pow_pos (by omega)))
      have hX1 : X ≤ 18446744073709551615 := by rw [hX]; exact Int.le_trans (Int.ediv_le_self _ h0) h1
      have hXs : x / 2 ^ (8 * (k + 1)) = X / 256 := by rw [hX, show 8 * (k + 1) = 8 * k + 8 from by omega, Int.pow_add, ← Int.ediv_ediv_of_nonneg (Int.le_of_lt (Int.pow_pos (by omega)))]; rfl
      have hvs := leVals_succ x k
      rw [← hX] at hvs ⊢
      obtain ⟨ys, hys⟩ : ∃ ys, ys = xs ++ leVals x k := ⟨_, rfl⟩
      have hyl : ys.length ≤ 1000100 := by rw [hys, List.length_append, leVals_length]; omega
      have hys2 : xs ++ leVals x (k + 1) = ys ++ [.int .u8 (X % 256)] := by rw [hvs, hys, List.append_assoc]
      rw [← hys]
      rw [← hys] at HO
      have HYS := Lib.hid hys2; have HXS := Lib.hid hXs
      have hc1 : (ys.length + 1) * 1 ≤ 140737488355328 := by omega
      have hc3 : ys.length + 1 ≤ maxLen := by unfold maxLen; omega
      have HC1 := Lib.hid hc1; have HC3 := Lib.hid hc3
      have hz : w.heap.size ≤ (wr.alloc (.cells #[.int .u8 (X % 256)] 5)).heap.size := by have := HB.out.size; simp; omega
      have HZ := Lib.hid hz
      have HOA := Lib.hid (World.ownsRow.alloc HO.out (.cells #[.int .u8 (X % 256)] 5))
      obtain ⟨q0, q1, q2⟩ := src_box (w := wr) (v := .int .u8 (X % 256)) (t := 5) rfl
      have Q1 := Lib.hid q1; have Q2 := Lib.hid (q2 _ rfl)
      clear hX hXs hvs hys hys2 hc1 hc3 hz q0 q1 q2
      go_wp2_with (at_builtin; go_loud (refine wpList_append_own _ rfl _ _ 53 rfl w.heap.size 5 i0 (.int .u8 0) 1 1 Try.underlying53 hi hz0 hz1 hz2 rfl (by decide) _ ys.length ys rfl HOA.out ⟨wr.heap.size, 0, none⟩ 1 1 [.int .u8 (X % 256)] rfl (by simp) Q2.out Q1.out HC3.out HC1.out HZ.out ?_); intro v' w3 hown' hgrow hnil; obtain ⟨a4, c4, rfl⟩ := ownsRow_slice hown'; have HW := Lib.hid hgrow; have HO4 := Lib.hid hown'; clear hgrow hown' hnil)
      have hlen : ys.length + 1 = (xs ++ leVals x (k + 1)).length := by rw [HYS.out]; simp
      have hbb := (HB.out.alloc HB.out.size (.cells #[.int .u8 (X % 256)] 5)).grown HW.out HZ.out (fun g hg => (HO.out.lt g hg).1)
      refine ⟨⟨k + 1, by omega, by go_num, by rw [HXS.out], a4, c4, by rw [hlen], Lib.hid ?_, Lib.hid hbb⟩, ?_⟩
      · rw [← hlen, HYS.out]; exact HO4.out
      · simp [intOf]; omega
    · obtain rfl : k = n := by omega
      go_wp2_with (fail)
      go_ret
      exact ⟨a, c, rfl, HO.out, HB.out⟩

theorem src_own {w : World} {n₀ n c : Nat} {a : Option Addr} {xs : List Value} (h : w.ownsRow n₀ 5 1 (.slice a n c) n xs) (h1 : ∀ u ∈ xs, u.oneCell' = true) (hn : n = xs.length) : Src w a xs := by
  subst hn
  refine ⟨fun ha => ?_, h1, fun ad had j u hu => ?_⟩
  · subst ha
    rcases h.2 with ⟨_, h0⟩ | ⟨g, cap, cur, he, _⟩
    · exact List.eq_nil_of_length_eq_zero h0
    · cases he
  · subst had
    obtain ⟨o, off, r⟩ := ad
    rcases h.2 with ⟨he, _⟩ | ⟨g, cap, cur, he, _⟩
    · cases he
    · cases he
      exact h.cells rfl j u hu
theorem one_leVals (x : Int) (n : Nat) : ∀ u ∈ leVals x n, u.oneCell' = true := by
  intro u hu
  obtain ⟨k, _, rfl⟩ := List.mem_map.1 hu
  rfl
theorem one_append {xs ys : List Value} (h : ∀ u ∈ xs, u.oneCell' = true) (k : ∀ u ∈ ys, u.oneCell' = true) : ∀ u ∈ xs ++ ys, u.oneCell' = true := by
  intro u hu
  rcases List.mem_append.1 hu with hu | hu
  · exact h u hu
  · exact k u hu
theorem one_ents (c : Nat → Nat) (pre : List Sec) : ∀ u ∈ entsVals c pre, u.oneCell' = true := by
  intro u hu
  obtain ⟨x, _, hx⟩ := List.mem_flatMap.1 hu
  exact one_append (one_leVals _ _) (one_leVals _ _) u hx
theorem one_magic : ∀ u ∈ magicVals, u.oneCell' = true := by
  intro u hu
  simp [magicVals] at hu
  rcases hu with rfl | rfl | rfl | rfl <;> rfl
theorem one_head (N : Nat) (frame : Int) : ∀ u ∈ headVals N frame, u.oneCell' = true :=
  one_append (one_append (one_append (one_append (one_append (one_append one_magic (one_leVals _ _)) (one_leVals _ _)) (one_leVals _ _)) (one_leVals _ _)) (one_leVals _ _)) (one_leVals _ _)

def RetRowB (n₀ : Nat) (xs : List Value) (w : World) (e : Ending) (w' : World) : Prop :=
  ∃ a c, e = .returned (.slice a xs.length c) ∧ w'.ownsRow n₀ 5 1 (.slice a xs.length c) xs.length xs ∧ Below w.heap.size w w'
theorem refAppend_own (n₀ : Nat) (a : Option Addr) (m c : Nat) (xs : List Value) (hm : m = xs.length) (x : Int) (n : Nat) (w : World) (ho : w.ownsRow n₀ 5 1 (.slice a m c) m xs) (hx : 0 < xs.length) (h1 : ∀ u ∈ xs, u.oneCell' = true)
    (h0 : 0 ≤ x) (h2 : x ≤ 18446744073709551615) (hn : n ≤ 8) (hl : xs.length ≤ 1000000) (hz : n₀ ≤ w.heap.size) :
    Calls Try.prog 50 #[.slice a m c, .int .u64 x, .int .i64 (n : Int)] w (RetRowB n₀ (xs ++ leVals x n) w) := by
  subst hm
  obtain ⟨g, rfl⟩ := ownsRow_some ho hx
  refine (refAppend_any _ c xs x n w (src_own ho h1 rfl) h0 h2 hn hl).mono ?_
  rintro e w' ⟨a', c', rfl, h3, h4⟩
  exact ⟨a', c', rfl, ownsRow_base h3 hz, h4⟩

theorem src_row1080 (w : World) (t : TypeId) (fr : Nat × Nat) : Src (w.alloc (.cells #[.int .u8 1, .int .u8 0, .int .u8 80, .int .u8 0] t fr)) (some ⟨w.heap.size, 0, none⟩) (leVals 1 2 ++ leVals 80 2) := by
  refine ⟨fun h => (by cases h), one_append (one_leVals _ _) (one_leVals _ _), fun ad had j u hu => ?_⟩
  obtain rfl := Option.some.inj had
  rw [show (⟨w.heap.size, 0, none⟩ : Addr).add j = ⟨w.heap.size, 0 + j, none⟩ from Addr.add_lit _ _ _, cell_of_row _ _ _ _ _ _ (heap_alloc_new w _)]
  rw [show leVals 1 2 ++ leVals 80 2 = [.int .u8 1, .int .u8 0, .int .u8 80, .int .u8 0] from by kernel_rfl] at hu
  simpa using hu

set_option maxRecDepth 100000 in
set_option maxHeartbeats 20000000 in
theorem refHeader_any (c : Nat → Nat) (frame : Int) (w : World) (hc : CountsOk c) (hf0 : 0 ≤ frame) (hf1 : frame ≤ 18446744073709551615) :
    Calls Try.prog 26 #[.agg (tabCells c frame)] w (RetRow w.heap.size (hdrVals c frame) w) := by
  have hcm : ∀ s, c s ≤ 1024 := fun s => Nat.le_trans (hc s) (secLimit_le s)
  have HC := Lib.hid hcm
  have hN := nextOf_le c hcm 6
  obtain ⟨i0, hi, hz0, hz1, hz2⟩ := info_parts infoU8
  have kc : (convert 53 53 (.slice (some ⟨w.heap.size + 1, 0, none⟩) 4 4)).run Try.prog ((w.alloc (.cells (tabCells c frame) 31)).alloc (.cells #[.int .u8 70, .int .u8 78, .int .u8 83, .int .u8 84] 5))
      = .ok (.slice (some ⟨w.heap.size + 1, 0, none⟩) 4 4) ((w.alloc (.cells (tabCells c frame) 31)).alloc (.cells #[.int .u8 70, .int .u8 78, .int .u8 83, .int .u8 84] 5 (4, 5))) := by
    have h := Lib.run_convert_bytes_const (P := Try.prog) (w.alloc (.cells (tabCells c frame) 31)) 53 5 #[.int .u8 70, .int .u8 78, .int .u8 83, .int .u8 84] 4 4 Try.underlying53 Try.underlying5
    rw [show (w.alloc (.cells (tabCells c frame) 31)).heap.size = w.heap.size + 1 from by simp] at h
    exact h
  obtain ⟨W0, hW0⟩ : ∃ W0, W0 = w.alloc (.cells (tabCells c frame) 31) := ⟨_, rfl⟩
  have hz : W0.heap.size = w.heap.size + 1 := by rw [hW0]; simp
  have r0 : W0.heap[w.heap.size]? = some (.cells (tabCells c frame) 31 (0, 0)) := by rw [hW0]; exact alloc_at rfl
  have hb0 : Below w.heap.size w W0 := by rw [hW0]; exact (Below.refl _ w).alloc (Nat.le_refl _) _
  obtain ⟨m0, m1, m2⟩ := src_row4 W0 5 (4, 5)
  obtain ⟨n0, n1, n2⟩ := src_row1080 (W0.alloc (.cells #[.int .u8 70, .int .u8 78, .int .u8 83, .int .u8 84] 5 (4, 5))) 5 (0, 0)
  rw [show (W0.alloc (.cells #[.int .u8 70, .int .u8 78, .int .u8 83, .int .u8 84] 5 (4, 5))).heap.size = w.heap.size + 1 + 1 from by simp [hz]] at n2
  rw [hz] at m2
  have M2 := Lib.hid (m2 _ rfl); have N2 := Lib.hid (n2 _ rfl); have N1 := Lib.hid n1; have R0 := Lib.hid r0; have B0 := Lib.hid hb0; have HW0 := Lib.hid hW0
  clear m0 m1 m2 n0 n1 n2 r0 hb0 hW0 hc
  go_enter Try.func26, Try.ntmps26
  go_wp2_with (at_builtin; go_loud (refine wpList_append_grows _ rfl _ _ 53 rfl 5 i0 (.int .u8 0) 1 1 Try.underlying53 hi hz0 hz1 hz2 rfl (by decide) (some ⟨w.heap.size + 1, 0, none⟩) 4 4 magicVals rfl (fun h => by cases h) (by simp [magicVals]) (fun b hb j u hu => ?old) ⟨w.heap.size + 1 + 1, 0, none⟩ 4 4 (leVals 1 2 ++ leVals 80 2) rfl (by simp [leVals_length]) ?new N1.out (by decide) (by unfold maxLen; omega) (by omega) ?_))
  case old =>
    cases hb
    rw [← HW0.out]
    exact Lib.cell?_alloc_some _ (M2.out j u hu)
  case new =>
    rw [← HW0.out]
    exact N2.out
  intro v1 W1 ho hg
  obtain ⟨a1, c1, rfl⟩ := ownsRow_slice ho
  have hbig : Below w.heap.size w W1 := by
    have hb2 := (((Below.refl w.heap.size w).alloc (Nat.le_refl _) (.cells (tabCells c frame) 31)).alloc (by simp) (.cells #[.int .u8 70, .int .u8 78, .int .u8 83, .int .u8 84] 5 (4, 5))).alloc (by simp; omega) (.cells #[.int .u8 1, .int .u8 0, .int .u8 80, .int .u8 0] 5)
    exact hb2.grown hg (by simp; omega) (fun k hk => by cases hk)
  have r1 : W1.heap[w.heap.size]? = some (.cells (tabCells c frame) 31 (0, 0)) := by
    rw [hg.block _ (by simp; omega) (by simp), Below.heap_alloc _ _ _ (by simp; omega), Below.heap_alloc _ _ _ (by simp)]
    exact alloc_at rfl
  have ho' := ownsRow_base ho (show w.heap.size ≤ w.heap.size + 1 + 1 + 1 by omega)
  obtain ⟨xs, hxs⟩ : ∃ xs, xs = magicVals ++ (leVals 1 2 ++ leVals 80 2) := ⟨_, rfl⟩
  have hl : xs.length = 8 := by rw [hxs]; simp [magicVals, leVals_length]
  have h1x : ∀ u ∈ xs, u.oneCell' = true := by rw [hxs]; exact one_append one_magic (one_append (one_leVals _ _) (one_leVals _ _))
  rw [← hxs] at ho'
  obtain ⟨N, hNe⟩ : ∃ N, N = nextOf c 6 := ⟨_, rfl⟩
  rw [← hNe] at hN
  have HO1 := Lib.hid ho'; have R1 := Lib.hid r1; have B1 := Lib.hid hbig; have HX1 := Lib.hid hxs; have HO1x := Lib.hid h1x; have HNE := Lib.hid hNe
  clear ho ho' hg hbig r1 hxs h1x hNe M2 N2 N1 R0 B0 HW0 kc hz
  have q1 : W1.cell? ⟨w.heap.size, 1, none⟩ = some (.int .i64 ((N : Int) + 4)) := by rw [cell_of_row _ _ _ _ _ _ R1.out, HNE.out]; rfl
  have wN : IntKind.u64.wrap ((N : Int) + 4) = (N : Int) + 4 := by rw [IntKind.wrap_u64]; omega
  go_wp2_with (fail)
  refine (refAppend_own w.heap.size a1 8 c1 xs hl.symm (((N : Int) + 4)) 4 W1 HO1.out (by omega) HO1x.out (by omega) (by omega) (by omega) (by omega) B1.out.size).mono ?_
  rintro e W2 ⟨a2, c2, rfl, ho, hb⟩
  have r1 := (hb.block _ (lt_of_block R1.out)).trans R1.out
  obtain ⟨y1, hy1⟩ : ∃ y, y = xs ++ leVals (((N : Int) + 4)) 4 := ⟨_, rfl⟩
  have hl1 : y1.length = 12 := by rw [hy1, List.length_append, leVals_length]; omega
  have h1x : ∀ u ∈ y1, u.oneCell' = true := by rw [hy1]; exact one_append HO1x.out (one_leVals _ _)
  rw [← hy1] at ho ⊢
  rw [hl1] at ho
  have HO2 := Lib.hid ho; have R2 := Lib.hid r1; have B2 := Lib.hid (B1.out.trans (hb.mono B1.out.size)); have HX2 := Lib.hid hy1; have HO2x := Lib.hid h1x
  clear ho hb r1 hy1 h1x HO1 R1 B1 HO1x q1
  go_wp2_with (fail)
  refine (refAppend_own w.heap.size a2 12 c2 y1 hl1.symm (0) 4 W2 HO2.out (by omega) HO2x.out (by omega) (by omega) (by omega) (by omega) B2.out.size).mono ?_
  rintro e W3 ⟨a3, c3, rfl, ho, hb⟩
  have r1 := (hb.block _ (lt_of_block R2.out)).trans R2.out
  obtain ⟨y2, hy2⟩ : ∃ y, y = y1 ++ leVals (0) 4 := ⟨_, rfl⟩
  have hl2 : y2.length = 16 := by rw [hy2, List.length_append, leVals_length]; omega
  have h1x : ∀ u ∈ y2, u.oneCell' = true := by rw [hy2]; exact one_append HO2x.out (one_leVals _ _)
  rw [← hy2] at ho ⊢
  rw [hl2] at ho
  have HO3 := Lib.hid ho; have R3 := Lib.hid r1; have B3 := Lib.hid (B2.out.trans (hb.mono B2.out.size)); have HX3 := Lib.hid hy2; have HO3x := Lib.hid h1x
  clear ho hb r1 hy2 h1x HO2 R2 B2 HO2x
  have q1 : W3.cell? ⟨w.heap.size, 0, none⟩ = some (.int .u64 frame) := by rw [cell_of_row _ _ _ _ _ _ R3.out]; rfl
  go_wp2_with (fail)
  refine (refAppend_own w.heap.size a3 16 c3 y2 hl2.symm (frame) 8 W3 HO3.out (by omega) HO3x.out (by omega) (by omega) (by omega) (by omega) B3.out.size).mono ?_
  rintro e W4 ⟨a4, c4, rfl, ho, hb⟩
  have r1 := (hb.block _ (lt_of_block R3.out)).trans R3.out
  obtain ⟨y3, hy3⟩ : ∃ y, y = y2 ++ leVals (frame) 8 := ⟨_, rfl⟩
  have hl3 : y3.length = 24 := by rw [hy3, List.length_append, leVals_length]; omega
  have h1x : ∀ u ∈ y3, u.oneCell' = true := by rw [hy3]; exact one_append HO3x.out (one_leVals _ _)
  rw [← hy3] at ho ⊢
  rw [hl3] at ho
  have HO4 := Lib.hid ho; have R4 := Lib.hid r1; have B4 := Lib.hid (B3.out.trans (hb.mono B3.out.size)); have HX4 := Lib.hid hy3; have HO4x := Lib.hid h1x
  clear ho hb r1 hy3 h1x HO3 R3 B3 HO3x q1
  go_wp2_with (fail)
  refine (refAppend_own w.heap.size a4 24 c4 y3 hl3.symm (0) 8 W4 HO4.out (by omega) HO4x.out (by omega) (by omega) (by omega) (by omega) B4.out.size).mono ?_
  rintro e W5 ⟨a5, c5, rfl, ho, hb⟩
  have r1 := (hb.block _ (lt_of_block R4.out)).trans R4.out
  obtain ⟨y4, hy4⟩ : ∃ y, y = y3 ++ leVals (0) 8 := ⟨_, rfl⟩
  have hl4 : y4.length = 32 := by rw [hy4, List.length_append, leVals_length]; omega
  have h1x : ∀ u ∈ y4, u.oneCell' = true := by rw [hy4]; exact one_append HO4x.out (one_leVals _ _)
  rw [← hy4] at ho ⊢
  rw [hl4] at ho
  have HO5 := Lib.hid ho; have R5 := Lib.hid r1; have B5 := Lib.hid (B4.out.trans (hb.mono B4.out.size)); have HX5 := Lib.hid hy4; have HO5x := Lib.hid h1x
  clear ho hb r1 hy4 h1x HO4 R4 B4 HO4x
  obtain ⟨zs, hzs⟩ : ∃ zs, zs = y4 := ⟨_, rfl⟩
  have hz4 : zs = headVals N frame := by
    rw [hzs, HX5.out, HX4.out, HX3.out, HX2.out, HX1.out]
    simp [headVals, List.append_assoc]
  go_wp2_with (fail)
  rw [← hzs] at HO5 HO5x hl4
  have HZ4 := Lib.hid hz4
  clear hzs hz4
  go_loopw [3, 4] (fun v i wr => ∃ k : Nat, 1 ≤ k ∧ k ≤ 7 ∧ i = .int .i64 (k : Int) ∧ ∃ a cc, v = .slice a (32 + 8 * (k - 1)) cc ∧ Hid (wr.ownsRow w.heap.size 5 1 (.slice a (32 + 8 * (k - 1)) cc) (32 + 8 * (k - 1)) (zs ++ entsVals c (secUpto (k - 1)))) ∧ Hid (wr.heap[w.heap.size]? = some (.cells (tabCells c frame) 31 (0, 0))) ∧ Hid (Below w.heap.size w wr)) (fun _ i _ => 7 - (intOf i).toNat)
  case atStart => exact ⟨1, by omega, by omega, rfl, a5, c5, rfl, Lib.hid (by have := HO5.out; simpa [entsVals, secUpto] using this), R5, B5⟩
  case round =>
    clear HO5 R5 B5
    obtain ⟨k, hk1, hk2, rfl, a, cc, rfl, HO, HR, HB⟩ := hrel
    by_cases hlt : k ≤ 6
    · have s7 : (k : Int) < 7 := by omega
      have t1 : decide ((k : Int) ≤ 6) = true := by simp; omega
      have hT := tabAt_tab c frame k hk1 hlt
      have hO := nextOf_le c HC.out (k - 1)
      have hCm := HC.out k
      have hents : entsVals c (secUpto k) = entsVals c (secUpto (k - 1)) ++ (leVals (nextOf c (k - 1) : Int) 4 ++ leVals (c k : Int) 4) := by
        obtain ⟨j, rfl⟩ : ∃ j, k = j + 1 := ⟨k - 1, by omega⟩
        rw [secUpto_succ j (by omega), entsVals_snoc]
        rfl
      obtain ⟨O, hOe⟩ : ∃ O, O = nextOf c (k - 1) := ⟨_, rfl⟩
      obtain ⟨C, hCe⟩ : ∃ C, C = c k := ⟨_, rfl⟩
      rw [← hOe] at hO hT hents
      rw [← hCe] at hCm hT hents
      have hO2 : O ≤ 400000 := by omega
      obtain ⟨ys, hys⟩ : ∃ ys, ys = zs ++ entsVals c (secUpto (k - 1)) := ⟨_, rfl⟩
      obtain ⟨L, hL⟩ : ∃ L, L = 32 + 8 * (k - 1) := ⟨_, rfl⟩
      have hyl : L = ys.length := by rw [hys, List.length_append, entsVals_length, secUpto_len, hl4, hL]
      have h1y : ∀ u ∈ ys, u.oneCell' = true := by rw [hys]; exact one_append HO5x.out (one_ents c _)
      have hL2 : L ≤ 100 := by omega
      rw [← hys, ← hL] at HO
      rw [← hL]
      have q0 : wr.cell? ⟨w.heap.size, 2 + k, none⟩ = some (.int .i64 (O : Int)) := by rw [cell_of_row _ _ _ _ _ _ HR.out]; exact hT.2.1
      have wO : IntKind.u64.wrap (O : Int) = (O : Int) := by rw [IntKind.wrap_u64]; omega
      have wC : IntKind.u64.wrap (C : Int) = (C : Int) := by rw [IntKind.wrap_u64]; omega
      have HT := Lib.hid hT; have HEN := Lib.hid hents; have HYS := Lib.hid hys; have HLL := Lib.hid hL; have HYL := Lib.hid hyl; have H1Y := Lib.hid h1y
      clear hT hents hys hL hyl h1y hOe hCe hO
      go_wp2_with (fail)
      refine (refAppend_own w.heap.size a L cc ys HYL.out (O : Int) 4 wr HO.out (by have := HYL.out; have := HLL.out; omega) H1Y.out (by omega) (by omega) (by omega) (by have := HYL.out; omega) HB.out.size).mono ?_
      rintro e V1 ⟨b1, d1, rfl, ho, hb⟩
      obtain ⟨ys1, hys1⟩ : ∃ y, y = ys ++ leVals (O : Int) 4 := ⟨_, rfl⟩
      have hl1' : ys1.length = L + 4 := by rw [hys1, List.length_append, leVals_length, HYL.out]
      have h1y1 : ∀ u ∈ ys1, u.oneCell' = true := by rw [hys1]; exact one_append H1Y.out (one_leVals _ _)
      rw [← hys1] at ho ⊢
      rw [hl1'] at ho
      have HL1' := Lib.hid hl1'
      rw [hl1']
      clear hl1'
      have HR1 := Lib.hid ((hb.block _ (lt_of_block HR.out)).trans HR.out)
      have HB1 := Lib.hid (HB.out.trans (hb.mono HB.out.size))
      have q1 : V1.cell? ⟨w.heap.size, 9 + k, none⟩ = some (.int .i64 (C : Int)) := by rw [cell_of_row _ _ _ _ _ _ HR1.out]; exact HT.out.2.2
      have HO1 := Lib.hid ho; have HYS1 := Lib.hid hys1; have H1Y1 := Lib.hid h1y1
      clear ho hb hys1 h1y1 q0 HO HR HB
      go_wp2_with (fail)
      refine (refAppend_own w.heap.size b1 (L + 4) d1 ys1 HL1'.out.symm (C : Int) 4 V1 HO1.out (by have := HL1'.out; omega) H1Y1.out (by omega) (by omega) (by omega) (by have := HL1'.out; omega) HB1.out.size).mono ?_
      rintro e V2 ⟨b2, d2, rfl, ho, hb⟩
      have hl2' : (ys1 ++ leVals (C : Int) 4).length = 32 + 8 * (k + 1 - 1) := by rw [List.length_append, leVals_length, HL1'.out, HLL.out]; omega
      have hfin : ys1 ++ leVals (C : Int) 4 = zs ++ entsVals c (secUpto (k + 1 - 1)) := by
        rw [show k + 1 - 1 = k from by omega, HEN.out, HYS1.out, HYS.out]
        simp [List.append_assoc]
      rw [hl2', hfin] at ho
      rw [hl2']
      have HO2 := Lib.hid ho
      have HR2 := Lib.hid ((hb.block _ (lt_of_block HR1.out)).trans HR1.out)
      have HB2 := Lib.hid (HB1.out.trans (hb.mono HB1.out.size))
      clear ho hb hl2' hfin q1 HO1 HR1 HB1
      go_wp2_with (fail)
      refine ⟨⟨k + 1, by omega, by omega, by go_num, b2, d2, rfl, HO2, HR2, HB2⟩, ?_⟩
      simp [intOf]; omega
    · obtain rfl : k = 7 := by omega
      have t1 : decide ((7 : Int) ≤ 6) = false := by decide
      go_wp2_with (fail)
      go_ret
      have hh : zs ++ entsVals c (secUpto (7 - 1)) = hdrVals c frame := by rw [HZ4.out, HNE.out]; rfl
      have hlen : (hdrVals c frame).length = 80 := by rw [← hh, List.length_append, entsVals_length, secUpto_len, hl4]
      have ho := HO.out
      rw [hh] at ho
      refine ⟨a, cc, ?_, ?_, HB.out⟩
      · rw [hlen]; rfl
      · rw [hlen]; exact ho
end Go.Proofs.Ythmenbehpblljaa
