/-
  Chapter 6: the law LexSpaces, the walk.
-/
import Derived.Test.YtldbnfbfhbkclaaDoorLyI
import Derived.Deep.Cut
namespace Go.Proofs.YtldbnfbfhbkclaaDoor
open Go.RowKit Go.Shelf

theorem TR.code {s : ByteArray} {i : Nat} {p : Nat × Nat} {R : TkR} (h : TR s i p R) : match R with | .inl _ => True | .inr f => f.1 ≠ 0 := by
  induction h with
  | bad i p j hj hc => exact hc
  | fin => trivial
  | more i p j R hj hc hk h ih =>
    cases R with
    | inl l => trivial
    | inr f => exact ih
theorem TR.lines {s : ByteArray} {i : Nat} {p : Nat × Nat} {R : TkR} (h : TR s i p R) (hi : i ≤ s.size) (hp : Okp i p) : match R with | .inl l => ∀ t ∈ l, ∀ r q, t = tokV r q → q.1 ≤ s.size + 1 | .inr _ => True := by
  have key : ∀ (r r' : Rd) (q q' : Nat × Nat), tokV r q = tokV r' q' → q.1 = q'.1 := fun r r' q q' e => by
    simp only [tokV, Array.mk.injEq, List.cons.injEq, Value.int.injEq, Value.string.injEq, true_and, and_true] at e
    omega
  induction h with
  | bad => trivial
  | fin i p j hj hc hk =>
    intro t ht r q e
    simp at ht
    subst ht
    have h1 := (hp.to (s := s) hj.le).1
    have h2 := hj.top hi
    rw [key _ _ _ _ e] at h1
    omega
  | more i p j R hj hc hk h ih =>
    have h1 := (hp.to (s := s) hj.le).1
    have h2 := hj.top hi
    have h3 := rdAt_kind s j h2 hc hk
    have h4 := rdAt_le s j h2 hc hk
    have ih := ih h4 (hp.to (by have := hj.le; omega))
    cases R with
    | inr f => trivial
    | inl l =>
      intro t ht r q e
      rcases List.mem_cons.1 ht with rfl | ht
      · rw [key _ _ _ _ e] at h1
        omega
      · exact ih t ht r q e
theorem cut_size (a : ByteArray) : (a.extract 0 (min (a.size : Int) 1000).toNat).size ≤ 1000 := by
  rw [ByteArray.size_extract]; omega
theorem cut_all (a : ByteArray) (h : ¬ 1000 < a.size) : a.extract 0 (min (a.size : Int) 1000).toNat = a := by
  rw [show (min (a.size : Int) 1000).toNat = a.size from by omega]
  apply ByteArray.ext
  rw [ByteArray.data_extract]
  exact Array.extract_size

theorem ok_inl {s : ByteArray} {R : TkR} (h : TR s 0 (1, 1) R) (hc : R.f.1 = 0) : ∃ X, R = .inl X := by
  cases R with
  | inl X => exact ⟨X, rfl⟩
  | inr f => exact absurd hc h.code
theorem spaces_pure {a b : ByteArray} {x y : List (Array Value)} (hx : TR a 0 (1, 1) (.inl x)) (hy : TR b 0 (1, 1) (.inl y)) (ha : a.size ≤ 1000) (hb : b.size ≤ 1000) :
    ∃ (L Z : List (Array Value)) (pe : Nat × Nat) (N : Nat), N = 1 + a.data.toList.count 10 ∧ N ≤ 1001 ∧ x = L ++ [endV pe] ∧ Z = L ++ y.map (shT N) ∧ TR (a ++ ⟨#[10]⟩ ++ b) 0 (1, 1) (.inl Z) ∧ (∀ t ∈ x, IsTok t) ∧ (∀ t ∈ y, IsTok t) ∧ (∀ t ∈ Z, IsTok t) ∧
      Z.length + 1 = x.length + y.length ∧ 0 < y.length ∧ x.length ≤ 1001 ∧ y.length ≤ 1001 ∧ (a ++ (⟨#[10]⟩ : ByteArray) ++ b).size ≤ 2001 ∧ (∀ t ∈ Z, ∀ r q, t = tokV r q → q.1 ≤ 3000) := by
  obtain ⟨L, pe, hXL, hbo⟩ := TR.both hx hy
  have hlx := hx.len (Nat.zero_le _)
  have hly := hy.len (Nat.zero_le _)
  have hZ := hbo.toks
  have hsz : (a ++ (⟨#[10]⟩ : ByteArray) ++ b).size ≤ 2001 := by
    rw [ByteArray.size_append, ByteArray.size_append]
    have : (⟨#[10]⟩ : ByteArray).size = 1 := rfl
    omega
  have hln := hbo.lines (Nat.zero_le _) ⟨by decide, by decide⟩
  refine ⟨L, _, pe, _, rfl, ?_, hXL, rfl, hbo, hx.toks, hy.toks, hZ, ?_, ?_, ?_, ?_, hsz, fun t ht r q e => Nat.le_trans (hln t ht r q e) (by omega)⟩
  · have : a.data.toList.count 10 ≤ a.data.toList.length := List.count_le_length
    have e1 : a.data.toList.length = a.size := by simp
    omega
  · rw [hXL]; simp [Nat.add_assoc, Nat.add_comm]
  · have := (TR.inside (s := b) (t := b) (o := 0) (n := 0) ⟨fun i _ => by rw [Nat.zero_add], by omega, .inl (by omega)⟩ hy (Nat.zero_le _))
    obtain ⟨M, hM, _⟩ := this
    rw [hM]; simp
  · simp only at hlx; omega
  · simp only at hly; omega
theorem shT_length (n : Nat) (l : List (Array Value)) : (l.map (shT n)).length = l.length := List.length_map _
set_option maxRecDepth 100000 in
set_option maxHeartbeats 8000000 in
theorem lexSpaces_walk (a b : ByteArray) (w : World) (ha : a.size ≤ maxLen) (hb : b.size ≤ maxLen) (hG : Glob w) : Calls Tryd.prog 4 #[.string a, .string b] w fun e w' => e = .returned (.bool true) ∧ Below w.heap.size w w' := by
  unfold maxLen at ha hb
  have HG := Lib.hid hG
  clear hG
  go_enter Tryd.func4, Tryd.ntmps4
  go_wp2_with (fail)
  obtain ⟨ta, hta⟩ : ∃ ta, ta = a.extract 0 (min (a.size : Int) 1000).toNat := ⟨_, rfl⟩
  have hta1 : ta.size ≤ 1000 := by rw [hta]; exact cut_size a
  have HTA : Hid (¬ 1000 < a.size → ta = a) := Lib.hid (fun h => by rw [hta]; exact cut_all a h)
  rw [← hta]
  clear hta
  refine (refTokens_any ta w (by omega)).mono ?_
  rintro e w1 ⟨R1, hR1, he⟩
  obtain ⟨hb1, x, rfl, hx⟩ := he.out
  obtain ⟨⟨c1, l1, k1⟩, hf1⟩ : ∃ f, f = R1.f := ⟨_, rfl⟩
  rw [← hf1]
  simp only
  have HX := Lib.hid hx; have HB1 := Lib.hid hb1; have HF1 := Lib.hid hf1; have HR1 := Lib.hid hR1
  clear hx hb1 hf1 hR1 he
  go_wp2_with (fail)
  obtain ⟨tb, htb⟩ : ∃ tb, tb = b.extract 0 (min (b.size : Int) 1000).toNat := ⟨_, rfl⟩
  have htb1 : tb.size ≤ 1000 := by rw [htb]; exact cut_size b
  have HTB : Hid (¬ 1000 < b.size → tb = b) := Lib.hid (fun h => by rw [htb]; exact cut_all b h)
  rw [← htb]
  clear htb
  refine (refTokens_any tb w1 (by omega)).mono ?_
  rintro e w2 ⟨R2, hR2, he⟩
  obtain ⟨hb2, y, rfl, hy⟩ := he.out
  obtain ⟨⟨c2, l2, k2⟩, hf2⟩ : ∃ f, f = R2.f := ⟨_, rfl⟩
  rw [← hf2]
  simp only
  have HX2 := Lib.hid (own_below0 HX.out hb2); have HY := Lib.hid (own_base hy HB1.out.size); have HB2 := Lib.hid (HB1.out.trans (hb2.mono HB1.out.size)); have HF2 := Lib.hid hf2; have HR2 := Lib.hid hR2
  have HG2 := Lib.hid (HG.out.from0 HB2.out)
  clear hy hb2 hf2 hR2 he HX HB1
  by_cases hA : 1000 < a.size
  · have t1 : decide (1000 < a.size) = true := by simp [hA]
    have t1' : decide (1000 < (a.size : Int)) = true := by simp; omega
    go_wp2_with (fail)
    refine (alive6_any w2 HG2.out).mono ?_
    rintro e w3 ⟨rfl, hb⟩
    go_wp2_with (fail)
    go_ret
    exact ⟨rfl, HB2.out.trans (hb.mono HB2.out.size)⟩
  by_cases hBb : 1000 < b.size
  · have t1 : decide (1000 < a.size) = false := by simp; omega
    have t1' : decide (1000 < (a.size : Int)) = false := by simp; omega
    have t2 : decide (1000 < b.size) = true := by simp [hBb]
    have t2' : decide (1000 < (b.size : Int)) = true := by simp; omega
    go_wp2_with (fail)
    refine (alive6_any w2 HG2.out).mono ?_
    rintro e w3 ⟨rfl, hb⟩
    go_wp2_with (fail)
    go_ret
    exact ⟨rfl, HB2.out.trans (hb.mono HB2.out.size)⟩
  have t1 : decide (1000 < a.size) = false := by simp; omega
  have t1' : decide (1000 < (a.size : Int)) = false := by simp; omega
  have t2 : decide (1000 < b.size) = false := by simp; omega
  have t2' : decide (1000 < (b.size : Int)) = false := by simp; omega
  obtain rfl := HTA.out hA
  obtain rfl := HTB.out hBb
  by_cases hc1 : c1 = 0
  · by_cases hc2 : c2 = 0
    · have t3 : ((c1 : Int) != 0) = false := by rw [hc1]; rfl
      have t4 : ((c2 : Int) != 0) = false := by rw [hc2]; rfl
      go_wp2_with (fail)
      have hR1 := HR1.out
      have hR2 := HR2.out
      obtain ⟨X, hX⟩ := ok_inl hR1 (by rw [← HF1.out]; exact hc1)
      obtain ⟨Y, hY⟩ := ok_inl hR2 (by rw [← HF2.out]; exact hc2)
      rw [hX] at hR1
      rw [hY] at hR2
      obtain ⟨L, Z, pe, N, hN, hN2, hXL, hZ, hbo, htkX, htkY, htkZ, hlZ, hYpos, hlX, hlY, hsz, hln⟩ := spaces_pure hR1 hR2 hta1 htb1
      have hx2 : TokRow 38 w.heap.size X x w2 := by have := HX2.out; rw [hX] at this; exact this
      have hy2 : TokRow 38 w.heap.size Y y w2 := by have := HY.out; rw [hY] at this; exact this
      have HX2' := Lib.hid hx2; have HY2' := Lib.hid hy2; have HBO := Lib.hid hbo; have HLN := Lib.hid hln
      have HTX := Lib.hid htkX; have HTY := Lib.hid htkY; have HTZ := Lib.hid htkZ; have HZ := Lib.hid hZ; have HXL := Lib.hid hXL; have HN := Lib.hid hN
      clear hR1 hR2 hX hY hx2 hy2 hbo hln htkX htkY htkZ hZ hXL hN HX2 HY HR1 HR2 HF1 HF2 HTA HTB
      refine (tokens_any _ w2 (Nat.le_trans hsz (by decide)) HG2.out).mono ?_
      rintro e w3 ⟨R, hR, hb3, hm⟩
      have hRe := hR.unique HBO.out
      subst hRe
      obtain ⟨u, rfl, hu⟩ := hm
      obtain ⟨ax, cx, rfl⟩ := ownsRow_slice HX2'.out
      obtain ⟨ay, cy, rfl⟩ := ownsRow_slice HY2'.out
      obtain ⟨au, cu, rfl⟩ := ownsRow_slice hu
      have HXX := Lib.hid (own_below0 HX2'.out hb3); have HYY := Lib.hid (own_below0 HY2'.out hb3); have HUU := Lib.hid (own_base hu HB2.out.size); have HB3 := Lib.hid (HB2.out.trans (hb3.mono HB2.out.size))
      have HG3 := Lib.hid (HG2.out.from0 hb3)
      clear hu hb3 hR HX2' HY2' HB2 HG2 HBO hsz
      obtain ⟨W4, hW4⟩ : ∃ W4, W4 = (w3.alloc (.cells (fltV 0 0 0) 26)).setRow w3.heap.size (fltV 0 0 0) := ⟨_, rfl⟩
      have h6 : W4.heap[w3.heap.size]? = some (.cells (fltV 0 0 0) 26 (0, 0)) := by rw [hW4]; exact setRow_heap _ _ _ _ _ _ (heap_alloc_new w3 _)
      have hb4 : Below w3.heap.size w3 W4 := by rw [hW4]; exact below_setRow ((Below.refl _ _).alloc (Nat.le_refl _) _) (Nat.le_refl _) _
      have q0 : W4.cell? ⟨w3.heap.size, 0, none⟩ = some (.int .i64 0) := by rw [cell_of_row _ _ _ _ _ _ h6]; rfl
      have q1 : W4.cell? ⟨w3.heap.size, 1, none⟩ = some (.int .i64 0) := by rw [cell_of_row _ _ _ _ _ _ h6]; rfl
      have q2 : W4.cell? ⟨w3.heap.size, 2, none⟩ = some (.int .i64 0) := by rw [cell_of_row _ _ _ _ _ _ h6]; rfl
      have HX4 := Lib.hid (own_below0 HXX.out hb4); have HY4 := Lib.hid (own_below0 HYY.out hb4); have HU4 := Lib.hid (own_below0 HUU.out hb4); have HB4 := Lib.hid (HB3.out.trans (hb4.mono HB3.out.size)); have HG4 := Lib.hid (HG3.out.from0 hb4); have HW4 := Lib.hid hW4
      clear h6 hb4 hW4 HXX HYY HUU HB3 HG3
      have tlen : ((Z.length : Int) != (X.length : Int) + (Y.length : Int) - 1) = false := by simp; omega
      go_wp2_with (refine wpList_store_row rfl 26 (.tmp 14) (.tmp 65) rfl w3.heap.size (fltV 0 0 0) rfl rfl 26 (fltV 0 0 0) (heap_alloc_new w3 _) rfl rfl (by simp [fltV, Value.oneCell']) ?_; show wpList _ _ _ _ _ ((w3.alloc (.cells (fltV 0 0 0) 26)).setRow w3.heap.size (fltV 0 0 0)); rw [← HW4.out])
      refine (Tryd.strings_Count_one _ 10 W4).mono ?_
      rintro e w5 ⟨rfl, rfl⟩
      have hNc : 1 + (Lib.countByte ta.data.toList 10 : Int) = (N : Int) := by rw [HN.out]; unfold Lib.countByte; omega
      have HNC := Lib.hid hNc
      have hcle : Lib.countByte ta.data.toList 10 ≤ 1000 := by omega
      obtain ⟨c0, hc0⟩ : ∃ c0, c0 = Lib.countByte ta.data.toList 10 := ⟨_, rfl⟩
      rw [← hc0] at HNC hcle ⊢
      clear hc0 hNc q0 q1 q2
      go_wp2_with (fail)
      rw [HNC.out]
      clear HNC hcle tlen
      have hl1 : X.length ≤ L.length + 1 := by rw [HXL.out]; simp
      have hl2 : L.length + 1 ≤ X.length := by rw [HXL.out]; simp
      go_loopw [85] (fun i wr => ∃ k : Nat, k ≤ Z.length ∧ i = .int .i64 (k : Int) ∧ Hid (Below w5.heap.size w5 wr)) (fun i _ => Z.length - (intOf i).toNat)
      case atStart => exact ⟨0, by omega, rfl, Lib.hid (Below.refl _ _)⟩
      case round =>
        obtain ⟨k, hk, rfl, HB⟩ := hrel
        by_cases hlt : k < Z.length
        · have tl : decide ((k : Int) < (Z.length : Int)) = true := by simp; omega
          have tl' : decide (k < Z.length) = true := by simp; omega
          obtain ⟨gx, rfl⟩ := ownsRow_someT HX4.out (by omega)
          obtain ⟨gy, rfl⟩ := ownsRow_someT HY4.out (by omega)
          obtain ⟨gu, rfl⟩ := ownsRow_someT HU4.out (by omega)
          have hgx := (HX4.out.lt gx rfl).2; have hgy := (HY4.out.lt gy rfl).2; have hgu := (HU4.out.lt gu rfl).2
          have hsz := HB.out.size
          obtain ⟨r, p, hrp, a0, a1, a2, a3, a4⟩ := tokRow_cells HTZ.out HU4.out k hlt
          have hp3 : p.1 ≤ 3000 := HLN.out _ (List.getElem_mem hlt) r p hrp
          have hold : ∀ (B o : Nat) (x : Value), B < w5.heap.size → w5.cell? ⟨B, o, none⟩ = some x → wr.cell? ⟨B, o, none⟩ = some x := fun B o x hB hx => (HB.out.cell (p := ⟨B, o, none⟩) hB).trans hx
          replace a0 := hold _ _ _ hgu a0; replace a1 := hold _ _ _ hgu a1; replace a2 := hold _ _ _ hgu a2; replace a3 := hold _ _ _ hgu a3; replace a4 := hold _ _ _ hgu a4
          obtain ⟨W6, hW6⟩ : ∃ W6, W6 = wr.alloc (.cells #[.int .i64 (r.kind : Int), .string r.text, .int .u64 (r.val : Int), .int .i64 (p.1 : Int), .int .i64 (p.2 : Int)] 37) := ⟨_, rfl⟩
          have h6 : W6.heap[wr.heap.size]? = some (.cells #[.int .i64 (r.kind : Int), .string r.text, .int .u64 (r.val : Int), .int .i64 (p.1 : Int), .int .i64 (p.2 : Int)] 37 (0, 0)) := by rw [hW6]; exact heap_alloc_new _ _
          have hB6 : Below w5.heap.size w5 W6 := by rw [hW6]; exact HB.out.alloc hsz _
          have q0 : W6.cell? ⟨wr.heap.size, 0, none⟩ = some (.int .i64 (r.kind : Int)) := by rw [cell_of_row _ _ _ _ _ _ h6]; rfl
          have q1 : W6.cell? ⟨wr.heap.size, 1, none⟩ = some (.string r.text) := by rw [cell_of_row _ _ _ _ _ _ h6]; rfl
          have q2 : W6.cell? ⟨wr.heap.size, 2, none⟩ = some (.int .u64 (r.val : Int)) := by rw [cell_of_row _ _ _ _ _ _ h6]; rfl
          have q3 : W6.cell? ⟨wr.heap.size, 3, none⟩ = some (.int .i64 (p.1 : Int)) := by rw [cell_of_row _ _ _ _ _ _ h6]; rfl
          have q4 : W6.cell? ⟨wr.heap.size, 4, none⟩ = some (.int .i64 (p.2 : Int)) := by rw [cell_of_row _ _ _ _ _ _ h6]; rfl
          have hold6 : ∀ (B o : Nat) (x : Value), B < w5.heap.size → w5.cell? ⟨B, o, none⟩ = some x → W6.cell? ⟨B, o, none⟩ = some x := fun B o x hB hx => (hB6.cell (p := ⟨B, o, none⟩) hB).trans hx
          have HOLD := Lib.hid hold6; have HB6 := Lib.hid hB6; have HRP := Lib.hid hrp; have HW6 := Lib.hid hW6
          have hsz6 := lt_of_block h6
          clear hold hold6 hB6 hrp h6 hW6
          by_cases hkx : k < L.length
          · have tk : decide ((k : Int) < (X.length : Int) - 1) = true := by simp; omega
            have hkX : k < X.length := by omega
            have tkX : decide (k < X.length) = true := by simp; omega
            obtain ⟨r2, p2, hrp2, b0, b1, b2, b3, b4⟩ := tokRow_cells HTX.out HX4.out k hkX
            have e : Z[k]'hlt = X[k]'hkX := by
              have h1 : Z[k]? = X[k]? := by rw [HZ.out, HXL.out, List.getElem?_append_left hkx, List.getElem?_append_left hkx]
              rw [List.getElem?_eq_getElem hlt, List.getElem?_eq_getElem hkX] at h1
              exact Option.some.inj h1
            rw [← e, HRP.out] at hrp2
            simp only [tokV, Array.mk.injEq, List.cons.injEq, Value.int.injEq, Value.string.injEq, true_and, and_true] at hrp2
            obtain ⟨e1, e2, e3, e4, e5⟩ := hrp2
            rw [← e1] at b0; rw [← e2] at b1; rw [← e3] at b2; rw [← e4] at b3; rw [← e5] at b4
            replace b0 := HOLD.out _ _ _ hgx b0; replace b1 := HOLD.out _ _ _ hgx b1; replace b2 := HOLD.out _ _ _ hgx b2; replace b3 := HOLD.out _ _ _ hgx b3; replace b4 := HOLD.out _ _ _ hgx b4
            clear e e1 e2 e3 e4 e5 r2 p2
            go_wp2_with (fail)
            show Code.wp _ _ _ _ (wr.alloc (.cells #[.int .i64 (r.kind : Int), .string r.text, .int .u64 (r.val : Int), .int .i64 (p.1 : Int), .int .i64 (p.2 : Int)] 37))
            rw [← HW6.out]
            clear a0 a1 a2 a3 a4 hgx hgy hgu
            go_quiet (fail)
            go_wp2_with (fail)
            refine ⟨⟨k + 1, by omega, by go_num, Lib.hid ⟨HB6.out.os, HB6.out.tape, HB6.out.output, HB6.out.size, HB6.out.block⟩⟩, ?_⟩
            simp [intOf]; omega
          · have tk : decide ((k : Int) < (X.length : Int) - 1) = false := by simp; omega
            obtain ⟨m, hm⟩ : ∃ m, m = k - L.length := ⟨_, rfl⟩
            have hmY : m < Y.length := by omega
            have tmY : decide (m < Y.length) = true := by simp; omega
            have hkm : (k : Int) - (X.length : Int) + 1 = (m : Int) := by omega
            obtain ⟨r2, p2, hrp2, b0, b1, b2, b3, b4⟩ := tokRow_cells HTY.out HY4.out m hmY
            have e : Z[k]'hlt = shT N (Y[m]'hmY) := by
              have h1 : Z[k]? = (Y.map (shT N))[m]? := by rw [HZ.out, List.getElem?_append_right (by omega), hm]
              rw [List.getElem?_eq_getElem hlt, List.getElem?_map, List.getElem?_eq_getElem hmY] at h1
              exact Option.some.inj h1
            rw [hrp2, shT_tok, HRP.out] at e
            simp only [tokV, Array.mk.injEq, List.cons.injEq, Value.int.injEq, Value.string.injEq, true_and, and_true] at e
            obtain ⟨e1, e2, e3, e4, e5⟩ := e
            rw [← e1] at b0; rw [← e2] at b1; rw [← e3] at b2; rw [← e5] at b4
            replace b0 := HOLD.out _ _ _ hgy b0; replace b1 := HOLD.out _ _ _ hgy b1; replace b2 := HOLD.out _ _ _ hgy b2; replace b3 := HOLD.out _ _ _ hgy b3; replace b4 := HOLD.out _ _ _ hgy b4
            have e6 : (p2.1 : Int) + (N : Int) = (p.1 : Int) := by omega
            clear e1 e2 e3 e4 e5 hm
            go_upto_region 15 with (fail)
            show Code.wp _ _ _ _ (wr.alloc (.cells #[.int .i64 (r.kind : Int), .string r.text, .int .u64 (r.val : Int), .int .i64 (p.1 : Int), .int .i64 (p.2 : Int)] 37))
            rw [← HW6.out]
            clear a0 a1 a2 a3 a4 hgx hgu
            go_wp2_with (fail)
            refine ⟨⟨k + 1, by omega, by go_num, Lib.hid (HB6.out.alloc HB6.out.size _)⟩, ?_⟩
            simp [intOf]; omega
        · obtain rfl : k = Z.length := by omega
          have tl : decide ((Z.length : Int) < (Z.length : Int)) = false := by simp
          have tl' : decide (Z.length < Z.length) = false := by simp
          have hbr := HB4.out.trans (HB.out.mono HB4.out.size)
          have HBR := Lib.hid hbr
          clear hbr
          go_wp2_with (fail)
          refine (alive6_any wr (HG4.out.from0 HB.out)).mono ?_
          rintro e w6 ⟨rfl, hb⟩
          go_wp2_with (fail)
          go_ret
          exact ⟨rfl, HBR.out.trans (hb.mono HBR.out.size)⟩
    · have t3 : ((c1 : Int) != 0) = false := by rw [hc1]; rfl
      have t4 : ((c2 : Int) != 0) = true := by simp; omega
      go_wp2_with (fail)
      refine (alive6_any w2 HG2.out).mono ?_
      rintro e w3 ⟨rfl, hb⟩
      go_wp2_with (fail)
      go_ret
      exact ⟨rfl, HB2.out.trans (hb.mono HB2.out.size)⟩
  · have t3 : ((c1 : Int) != 0) = true := by simp; omega
    go_wp2_with (fail)
    refine (alive6_any w2 HG2.out).mono ?_
    rintro e w3 ⟨rfl, hb⟩
    go_wp2_with (fail)
    go_ret
    exact ⟨rfl, HB2.out.trans (hb.mono HB2.out.size)⟩
end Go.Proofs.YtldbnfbfhbkclaaDoor
