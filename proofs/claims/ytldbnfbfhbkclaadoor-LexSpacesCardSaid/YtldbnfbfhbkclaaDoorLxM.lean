/-
  Chapter 6: quoted names: the program's Scan.
-/
import Derived.Test.YtldbnfbfhbkclaaDoorLxL
namespace Go.Proofs.YtldbnfbfhbkclaaDoor
open Go.RowKit Go.Shelf

def bv (c : UInt8) : Value := .int .u8 (c.toNat : Int)
/-- Block X is a scanner with the bytes xs. -/
def IsScn (n₀ X : Nat) (xs : List UInt8) (done ok : Bool) (w : World) : Prop :=
  ∃ a c, w.heap[X]? = some (.cells #[.slice a xs.length c, .bool done, .bool ok] 90 (0, 0)) ∧ n₀ ≤ X ∧ w.ownsRow n₀ 5 1 (.slice a xs.length c) xs.length (xs.map bv)
theorem scn_ne {w : World} {n₀ X : Nat} {v : Value} {cs : Array Value} {n : Nat} {xs : List Value} (h : w.ownsRow n₀ 5 1 v n xs) (hb : w.heap[X]? = some (.cells cs 90 (0, 0))) : v.ownBlock ≠ some X := by
  rcases h.2 with ⟨rfl, _⟩ | ⟨g, cap, cur, rfl, _, hg, _⟩
  · simp [Value.ownBlock]
  · intro e
    simp [Value.ownBlock] at e
    subst e
    rw [hg] at hb
    simp at hb
theorem infoU8s : (Tryd.prog.info? 5).map (fun i => (i.zero, i.size, i.bytes)) = some (some (.int .u8 0), 1, 1) := by kernel_rfl
theorem IsScn.below {n₀ X : Nat} {xs : List UInt8} {done ok : Bool} {w w' : World} (h : IsScn n₀ X xs done ok w) {B : Nat} (hB : w.heap.size ≤ B) (hb : Below B w w') : IsScn n₀ X xs done ok w' := by
  obtain ⟨a, c, h1, h2, h3⟩ := h
  refine ⟨a, c, (hb.block X (Nat.lt_of_lt_of_le (lt_of_block h1) hB)).trans h1, h2, h3.1, ?_⟩
  rcases h3.2 with ⟨e1, e2⟩ | ⟨g, cap, cur, e1, e2, e3, e4⟩
  · exact .inl ⟨e1, e2⟩
  · exact .inr ⟨g, cap, cur, e1, e2, (hb.block g (Nat.lt_of_lt_of_le (lt_of_block e3) hB)).trans e3, e4⟩
set_option maxRecDepth 100000 in
/-- The name as a string. -/
theorem IsScn.str {n₀ X : Nat} {xs : List UInt8} {done ok : Bool} {w : World} (h : IsScn n₀ X xs done ok w) : ∃ a c, w.cell? ⟨X, 0, none⟩ = some (.slice a xs.length c) ∧ (convert 88 9 (.slice a xs.length c)).run Tryd.prog w = .ok (.string ⟨xs.toArray⟩) w := by
  obtain ⟨a, c, h1, _, h3⟩ := h
  refine ⟨a, c, by rw [cell_of_row _ _ _ _ _ _ h1]; rfl, ?_⟩
  cases a with
  | none =>
    rcases h3.2 with ⟨e1, e2⟩ | ⟨g, cap, cur, e1, _⟩
    · have hx : xs = [] := List.eq_nil_of_length_eq_zero (by injection e1 with _ e1 _)
      rw [hx]
      exact run_convert_bytes_nil (P := Tryd.prog) w 88 5 Tryd.underlying88 Tryd.underlying5 0 c 9 Tryd.underlying9
    · injection e1 with e1 _ _; cases e1
  | some ad =>
    obtain ⟨g, hg⟩ : ∃ g, ad = ⟨g, 0, none⟩ := by
      rcases h3.2 with ⟨e1, e2⟩ | ⟨g, cap, cur, e1, _⟩
      · injection e1 with e1 _ _; cases e1
      · injection e1 with e1 _ _; injection e1 with e1; exact ⟨g, e1⟩
    subst hg
    refine run_convert_bytes_back (P := Tryd.prog) w 88 9 5 ⟨g, 0, none⟩ c xs Tryd.underlying88 Tryd.underlying5 Tryd.underlying9 (fun j hj => ?_)
    exact h3.cells rfl j _ (by rw [List.getElem?_map, List.getElem?_eq_getElem hj]; rfl)

/-- The slot of the name takes the appended slice. -/
theorem IsScn.store {n₀ X : Nat} {xs ys : List UInt8} {done ok : Bool} {w w1 : World} {a : Option Addr} {c : Nat} (hb : w.heap[X]? = some (.cells #[.slice a xs.length c, .bool done, .bool ok] 90 (0, 0))) (hX : n₀ ≤ X) (ho : w.ownsRow n₀ 5 1 (.slice a xs.length c) xs.length (xs.map bv))
    (hw : w.grownBy w1 (Value.ownBlock (.slice a xs.length c))) {a2 : Option Addr} {c2 n : Nat} (hv : w1.ownsRow n₀ 5 1 (.slice a2 n c2) n (ys.map bv)) (hn : n = ys.length) :
    IsScn n₀ X ys done ok (w1.setCell ⟨X, 0, none⟩ (.slice a2 n c2)) ∧ Below n₀ w (w1.setCell ⟨X, 0, none⟩ (.slice a2 n c2)) := by
  subst hn
  have hb1 : w1.heap[X]? = some (.cells #[.slice a xs.length c, .bool done, .bool ok] 90 (0, 0)) := by rw [hw.block X (lt_of_block hb) (fun e => scn_ne ho hb e.symm)]; exact hb
  have hbel : Below n₀ w w1 := (Below.refl n₀ w).grown hw (Nat.le_trans hX (Nat.le_of_lt (lt_of_block hb))) (fun k hk => (ho.lt k hk).1)
  exact ⟨⟨a2, c2, by rw [Lib.heap_setCell_same hb1 _]; rfl, hX, ownsRow_setCell_ne hv (scn_ne hv hb1) _⟩, hbel.setCell (p := ⟨X, 0, none⟩) hX _⟩

set_option maxRecDepth 100000 in
set_option maxHeartbeats 4000000 in
theorem plain_any (n₀ X : Nat) (xs : List UInt8) (ok : Bool) (c : UInt8) (w : World) (h : IsScn n₀ X xs false ok w) (hl : xs.length ≤ 100000000) :
    Calls Tryd.prog 64 #[.pointer (some ⟨X, 0, none⟩), .int .u8 (c.toNat : Int)] w fun e w' => Below n₀ w w' ∧
      ((c.toNat = 34 ∧ e = .returned .nilFunc ∧ IsScn n₀ X xs true ok w') ∨ (c.toNat = 92 ∧ e = .returned (.func (.func 70) #[.pointer (some ⟨X, 0, none⟩)] #[]) ∧ IsScn n₀ X xs false ok w') ∨
        (c.toNat ≠ 34 ∧ c.toNat ≠ 92 ∧ e = .returned .nilFunc ∧ IsScn n₀ X (xs ++ [c]) false ok w')) := by
  obtain ⟨a, cp, hb, hX, ho⟩ := h
  obtain ⟨i0, hi, hz0, hz1, hz2⟩ := info_parts infoU8s
  obtain ⟨q, hq⟩ : ∃ q, q = c.toNat := ⟨_, rfl⟩
  rw [← hq]
  have HQ := Lib.hid hq
  have c0 : w.cell? ⟨X, 0, none⟩ = some (.slice a xs.length cp) := by rw [cell_of_row _ _ _ _ _ _ hb]; rfl
  have c1 : w.cell? ⟨X, 1, none⟩ = some (.bool false) := by rw [cell_of_row _ _ _ _ _ _ hb]; rfl
  have f0 := frozen_of_row w X 0 _ _ hb
  have f1 := frozen_of_row w X 1 _ _ hb
  have hXs := lt_of_block hb
  have HB := Lib.hid hb; have HO := Lib.hid ho
  clear hq hb ho
  by_cases h34 : q = 34
  · subst h34
    go_enter Tryd.func64, Tryd.ntmps64
    go_wp2_with (fail)
    go_ret
    refine ⟨(Below.refl n₀ w).setCell (p := ⟨X, 1, none⟩) hX _, .inl ⟨by simp, rfl, a, cp, ?_, hX, ownsRow_setCell_ne HO.out (scn_ne HO.out HB.out) _⟩⟩
    rw [Lib.heap_setCell_same HB.out _]
    rfl
  · have t34 : ((q : Int) == 34) = false := by simp; omega
    have t34' : (q == 34) = false := by simp; omega
    by_cases h92 : q = 92
    · subst h92
      go_enter Tryd.func64, Tryd.ntmps64
      go_wp2_with (fail)
      go_ret
      exact ⟨Below.refl n₀ w, (.inr (.inl ⟨by simp, rfl, a, cp, HB.out, hX, HO.out⟩))⟩
    · have t92 : ((q : Int) == 92) = false := by simp; omega
      have t92' : (q == 92) = false := by simp; omega
      have hown := HO.out.alloc (.cells #[.int .u8 (q : Int)] 5)
      have hX0 : n₀ ≤ w.heap.size := by omega
      have hsrc : ∀ (j : Nat) (u : Value), ([Value.int .u8 (q : Int)] : List Value)[j]? = some u → (w.alloc (.cells #[.int .u8 (q : Int)] 5)).cell? ((⟨w.heap.size, 0, none⟩ : Addr).add j) = some u := by
        intro j u hj
        cases j with
        | zero =>
          simp only [List.getElem?_cons_zero, Option.some.injEq] at hj
          subst hj
          exact cell_newbox w _ _
        | succ j => simp at hj
      have hone : ∀ u ∈ ([Value.int .u8 (q : Int)] : List Value), u.oneCell' = true := by intro u hu; rw [List.mem_singleton] at hu; subst hu; rfl
      have hmx : xs.length + 1 ≤ maxLen := by unfold maxLen; omega
      have hby : (xs.length + 1) * 1 ≤ 140737488355328 := by omega
      have hbs : n₀ ≤ (w.alloc (.cells #[.int .u8 (q : Int)] 5)).heap.size := by simp; omega
      have HOW := Lib.hid hown; have HSR := Lib.hid hsrc; have HON := Lib.hid hone; have HMX := Lib.hid hmx; have HBY := Lib.hid hby; have HBS := Lib.hid hbs
      have HBL : Hid (Below n₀ w (w.alloc (.cells #[.int .u8 (q : Int)] 5))) := Lib.hid ((Below.refl n₀ w).alloc hX0 _)
      have HB1 : Hid ((w.alloc (.cells #[.int .u8 (q : Int)] 5)).heap[X]? = some (.cells #[.slice a xs.length cp, .bool false, .bool ok] 90 (0, 0))) := Lib.hid (by rw [Below.heap_alloc _ _ _ hXs]; exact HB.out)
      clear hown hsrc hone hmx hby hbs
      go_enter Tryd.func64, Tryd.ntmps64
      go_wp2_with (at_builtin; go_loud (refine wpList_append_own _ rfl _ _ 88 rfl n₀ 5 i0 (.int .u8 0) 1 1 Tryd.underlying88 hi hz0 hz1 hz2 rfl (by decide) _ xs.length (xs.map bv) rfl HOW.out ⟨w.heap.size, 0, none⟩ 1 1 [.int .u8 (q : Int)] rfl (by simp) HSR.out HON.out HMX.out HBY.out HBS.out ?_); intro v' w1 hown' hgrow hnil; obtain ⟨a2, c2, rfl⟩ := ownsRow_slice hown'; have HF := Lib.hid (IsScn.store (ys := xs ++ [c]) HB1.out hX HOW.out hgrow (by rw [List.map_append]; show World.ownsRow _ _ _ _ _ _ (xs.map bv ++ [.int .u8 (c.toNat : Int)]); rw [← HQ.out]; exact hown') (by simp)); have hb1 : w1.heap[X]? = some (.cells #[.slice a xs.length cp, .bool false, .bool ok] 90 (0, 0)) := (hgrow.block X (lt_of_block HB1.out) (fun e => scn_ne HOW.out HB1.out e.symm)).trans HB1.out; have c10 : w1.cell? ⟨X, 0, none⟩ = some (.slice a xs.length cp) := (by rw [cell_of_row _ _ _ _ _ _ hb1]; rfl); have f10 := frozen_of_row w1 X 0 _ _ hb1; clear hown' hgrow hnil hb1)
      go_ret
      exact ⟨HBL.out.trans HF.out.2, .inr (.inr ⟨h34, h92, rfl, HF.out.1⟩)⟩

set_option maxRecDepth 100000 in
set_option maxHeartbeats 4000000 in
theorem escaped_any (n₀ X : Nat) (xs : List UInt8) (ok : Bool) (c : UInt8) (w : World) (h : IsScn n₀ X xs false ok w) (hl : xs.length ≤ 100000000) :
    Calls Tryd.prog 70 #[.pointer (some ⟨X, 0, none⟩), .int .u8 (c.toNat : Int)] w fun e w' => e = .returned (.tuple #[]) ∧ Below n₀ w w' ∧ IsScn n₀ X (xs ++ [c]) false (ok && (c.toNat == 34 || c.toNat == 92)) w' := by
  obtain ⟨a, cp, hb, hX, ho⟩ := h
  obtain ⟨i0, hi, hz0, hz1, hz2⟩ := info_parts infoU8s
  obtain ⟨q, hq⟩ : ∃ q, q = c.toNat := ⟨_, rfl⟩
  rw [← hq]
  have HQ := Lib.hid hq
  obtain ⟨ok2, hok2⟩ : ∃ ok2, ok2 = (ok && (q == 34 || q == 92)) := ⟨_, rfl⟩
  rw [← hok2]
  have HOK := Lib.hid hok2
  have c0 : w.cell? ⟨X, 0, none⟩ = some (.slice a xs.length cp) := by rw [cell_of_row _ _ _ _ _ _ hb]; rfl
  have c2 : w.cell? ⟨X, 2, none⟩ = some (.bool ok) := by rw [cell_of_row _ _ _ _ _ _ hb]; rfl
  have f0 := frozen_of_row w X 0 _ _ hb
  have f2 := frozen_of_row w X 2 _ _ hb
  have hXs := lt_of_block hb
  have HB := Lib.hid hb; have HO := Lib.hid ho
  clear hq hb ho hok2
  cases ok with
  | false =>
    obtain rfl : ok2 = false := by rw [HOK.out]; rfl
    obtain ⟨W1, hW1⟩ : ∃ W1, W1 = w.setCell ⟨X, 2, none⟩ (.bool false) := ⟨_, rfl⟩
    have hbX : W1.heap[X]? = some (.cells #[.slice a xs.length cp, .bool false, .bool false] 90 (0, 0)) := by rw [hW1, Lib.heap_setCell_same HB.out _]; rfl
    have hoX : W1.ownsRow n₀ 5 1 (.slice a xs.length cp) xs.length (xs.map bv) := by rw [hW1]; exact ownsRow_setCell_ne HO.out (scn_ne HO.out HB.out) _
    have hbel : Below n₀ w W1 := by rw [hW1]; exact (Below.refl n₀ w).setCell (p := ⟨X, 2, none⟩) hX _
    have hX1 : X < W1.heap.size := lt_of_block hbX
    have hsz : W1.heap.size = w.heap.size := by rw [hW1]; simp [World.setCell]
    have hown := hoX.alloc (.cells #[.int .u8 (q : Int)] 5)
    have hX0 : n₀ ≤ W1.heap.size := by omega
    have hsrc : ∀ (j : Nat) (u : Value), ([Value.int .u8 (q : Int)] : List Value)[j]? = some u → (W1.alloc (.cells #[.int .u8 (q : Int)] 5)).cell? ((⟨w.heap.size, 0, none⟩ : Addr).add j) = some u := by
      intro j u hj
      cases j with
      | zero =>
        simp only [List.getElem?_cons_zero, Option.some.injEq] at hj
        subst hj
        rw [← hsz]; exact cell_newbox W1 _ _
      | succ j => simp at hj
    have hone : ∀ u ∈ ([Value.int .u8 (q : Int)] : List Value), u.oneCell' = true := by intro u hu; rw [List.mem_singleton] at hu; subst hu; rfl
    have hmx : xs.length + 1 ≤ maxLen := by unfold maxLen; omega
    have hby : (xs.length + 1) * 1 ≤ 140737488355328 := by omega
    have hbs : n₀ ≤ (W1.alloc (.cells #[.int .u8 (q : Int)] 5)).heap.size := by simp; omega
    have HBL : Hid (Below n₀ w (W1.alloc (.cells #[.int .u8 (q : Int)] 5))) := Lib.hid (hbel.alloc hX0 _)
    have hB1 : (W1.alloc (.cells #[.int .u8 (q : Int)] 5)).heap[X]? = some (.cells #[.slice a xs.length cp, .bool false, .bool false] 90 (0, 0)) := by rw [Below.heap_alloc _ _ _ hX1]; exact hbX
    have c10 : W1.cell? ⟨X, 0, none⟩ = some (.slice a xs.length cp) := by rw [cell_of_row _ _ _ _ _ _ hbX]; rfl
    rw [hW1] at hown hsrc hbs HBL hB1 c10
    have HOW := Lib.hid hown; have HSR := Lib.hid hsrc; have HON := Lib.hid hone; have HMX := Lib.hid hmx; have HBY := Lib.hid hby; have HBS := Lib.hid hbs; have HB1 := Lib.hid hB1
    clear hown hsrc hone hmx hby hbs hB1 hW1 hbX hoX hbel hX1 hX0 hsz
    go_enter Tryd.func70, Tryd.ntmps70
    go_wp2_with (at_builtin; go_loud (refine wpList_append_own _ rfl _ _ 88 rfl n₀ 5 i0 (.int .u8 0) 1 1 Tryd.underlying88 hi hz0 hz1 hz2 rfl (by decide) _ xs.length (xs.map bv) rfl HOW.out ⟨w.heap.size, 0, none⟩ 1 1 [.int .u8 (q : Int)] rfl (by simp) HSR.out HON.out HMX.out HBY.out HBS.out ?_); intro v' w1 hown' hgrow hnil; obtain ⟨a2, c2', rfl⟩ := ownsRow_slice hown'; have HF := Lib.hid (IsScn.store (ys := xs ++ [c]) HB1.out hX HOW.out hgrow (by rw [List.map_append]; show World.ownsRow _ _ _ _ _ _ (xs.map bv ++ [.int .u8 (c.toNat : Int)]); rw [← HQ.out]; exact hown') (by simp)); have hb1 : w1.heap[X]? = some (.cells #[.slice a xs.length cp, .bool false, .bool false] 90 (0, 0)) := (hgrow.block X (lt_of_block HB1.out) (fun e => scn_ne HOW.out HB1.out e.symm)).trans HB1.out; have c11 : w1.cell? ⟨X, 0, none⟩ = some (.slice a xs.length cp) := (by rw [cell_of_row _ _ _ _ _ _ hb1]; rfl); have f10 := frozen_of_row w1 X 0 _ _ hb1; clear hown' hgrow hnil hb1)
    go_end0
    exact ⟨rfl, HBL.out.trans HF.out.2, HF.out.1⟩
  | true =>
    by_cases h34 : q = 34
    · subst h34
      rw [show ((34 : Nat) : Int) = (34 : Int) from rfl]
      obtain rfl : ok2 = true := by rw [HOK.out]; rfl
      obtain ⟨W1, hW1⟩ : ∃ W1, W1 = w.setCell ⟨X, 2, none⟩ (.bool true) := ⟨_, rfl⟩
      have hbX : W1.heap[X]? = some (.cells #[.slice a xs.length cp, .bool false, .bool true] 90 (0, 0)) := by rw [hW1, Lib.heap_setCell_same HB.out _]; rfl
      have hoX : W1.ownsRow n₀ 5 1 (.slice a xs.length cp) xs.length (xs.map bv) := by rw [hW1]; exact ownsRow_setCell_ne HO.out (scn_ne HO.out HB.out) _
      have hbel : Below n₀ w W1 := by rw [hW1]; exact (Below.refl n₀ w).setCell (p := ⟨X, 2, none⟩) hX _
      have hX1 : X < W1.heap.size := lt_of_block hbX
      have hsz : W1.heap.size = w.heap.size := by rw [hW1]; simp [World.setCell]
      have hown := hoX.alloc (.cells #[.int .u8 34] 5)
      have hX0 : n₀ ≤ W1.heap.size := by omega
      have hsrc : ∀ (j : Nat) (u : Value), ([Value.int .u8 34] : List Value)[j]? = some u → (W1.alloc (.cells #[.int .u8 34] 5)).cell? ((⟨w.heap.size, 0, none⟩ : Addr).add j) = some u := by
        intro j u hj
        cases j with
        | zero =>
          simp only [List.getElem?_cons_zero, Option.some.injEq] at hj
          subst hj
          rw [← hsz]; exact cell_newbox W1 _ _
        | succ j => simp at hj
      have hone : ∀ u ∈ ([Value.int .u8 34] : List Value), u.oneCell' = true := by intro u hu; rw [List.mem_singleton] at hu; subst hu; rfl
      have hmx : xs.length + 1 ≤ maxLen := by unfold maxLen; omega
      have hby : (xs.length + 1) * 1 ≤ 140737488355328 := by omega
      have hbs : n₀ ≤ (W1.alloc (.cells #[.int .u8 34] 5)).heap.size := by simp; omega
      have HBL : Hid (Below n₀ w (W1.alloc (.cells #[.int .u8 34] 5))) := Lib.hid (hbel.alloc hX0 _)
      have hB1 : (W1.alloc (.cells #[.int .u8 34] 5)).heap[X]? = some (.cells #[.slice a xs.length cp, .bool false, .bool true] 90 (0, 0)) := by rw [Below.heap_alloc _ _ _ hX1]; exact hbX
      have c10 : W1.cell? ⟨X, 0, none⟩ = some (.slice a xs.length cp) := by rw [cell_of_row _ _ _ _ _ _ hbX]; rfl
      rw [hW1] at hown hsrc hbs HBL hB1 c10
      have HOW := Lib.hid hown; have HSR := Lib.hid hsrc; have HON := Lib.hid hone; have HMX := Lib.hid hmx; have HBY := Lib.hid hby; have HBS := Lib.hid hbs; have HB1 := Lib.hid hB1
      clear hown hsrc hone hmx hby hbs hB1 hW1 hbX hoX hbel hX1 hX0 hsz
      go_enter Tryd.func70, Tryd.ntmps70
      go_wp2_with (at_builtin; go_loud (refine wpList_append_own _ rfl _ _ 88 rfl n₀ 5 i0 (.int .u8 0) 1 1 Tryd.underlying88 hi hz0 hz1 hz2 rfl (by decide) _ xs.length (xs.map bv) rfl HOW.out ⟨w.heap.size, 0, none⟩ 1 1 [.int .u8 34] rfl (by simp) HSR.out HON.out HMX.out HBY.out HBS.out ?_); intro v' w1 hown' hgrow hnil; obtain ⟨a2, c2', rfl⟩ := ownsRow_slice hown'; have HF := Lib.hid (IsScn.store (ys := xs ++ [c]) HB1.out hX HOW.out hgrow (by rw [List.map_append]; show World.ownsRow _ _ _ _ _ _ (xs.map bv ++ [.int .u8 (c.toNat : Int)]); rw [← HQ.out]; exact hown') (by simp)); have hb1 : w1.heap[X]? = some (.cells #[.slice a xs.length cp, .bool false, .bool true] 90 (0, 0)) := (hgrow.block X (lt_of_block HB1.out) (fun e => scn_ne HOW.out HB1.out e.symm)).trans HB1.out; have c11 : w1.cell? ⟨X, 0, none⟩ = some (.slice a xs.length cp) := (by rw [cell_of_row _ _ _ _ _ _ hb1]; rfl); have f10 := frozen_of_row w1 X 0 _ _ hb1; clear hown' hgrow hnil hb1)
      go_end0
      exact ⟨rfl, HBL.out.trans HF.out.2, HF.out.1⟩
    · have t34 : ((q : Int) == 34) = false := by simp; omega
      have t34' : (q == 34) = false := by simp; omega
      by_cases h92 : q = 92
      · subst h92
        rw [show ((92 : Nat) : Int) = (92 : Int) from rfl]
        obtain rfl : ok2 = true := by rw [HOK.out]; rfl
        obtain ⟨W1, hW1⟩ : ∃ W1, W1 = w.setCell ⟨X, 2, none⟩ (.bool true) := ⟨_, rfl⟩
        have hbX : W1.heap[X]? = some (.cells #[.slice a xs.length cp, .bool false, .bool true] 90 (0, 0)) := by rw [hW1, Lib.heap_setCell_same HB.out _]; rfl
        have hoX : W1.ownsRow n₀ 5 1 (.slice a xs.length cp) xs.length (xs.map bv) := by rw [hW1]; exact ownsRow_setCell_ne HO.out (scn_ne HO.out HB.out) _
        have hbel : Below n₀ w W1 := by rw [hW1]; exact (Below.refl n₀ w).setCell (p := ⟨X, 2, none⟩) hX _
        have hX1 : X < W1.heap.size := lt_of_block hbX
        have hsz : W1.heap.size = w.heap.size := by rw [hW1]; simp [World.setCell]
        have hown := hoX.alloc (.cells #[.int .u8 92] 5)
        have hX0 : n₀ ≤ W1.heap.size := by omega
        have hsrc : ∀ (j : Nat) (u : Value), ([Value.int .u8 92] : List Value)[j]? = some u → (W1.alloc (.cells #[.int .u8 92] 5)).cell? ((⟨w.heap.size, 0, none⟩ : Addr).add j) = some u := by
          intro j u hj
          cases j with
          | zero =>
            simp only [List.getElem?_cons_zero, Option.some.injEq] at hj
            subst hj
            rw [← hsz]; exact cell_newbox W1 _ _
          | succ j => simp at hj
        have hone : ∀ u ∈ ([Value.int .u8 92] : List Value), u.oneCell' = true := by intro u hu; rw [List.mem_singleton] at hu; subst hu; rfl
        have hmx : xs.length + 1 ≤ maxLen := by unfold maxLen; omega
        have hby : (xs.length + 1) * 1 ≤ 140737488355328 := by omega
        have hbs : n₀ ≤ (W1.alloc (.cells #[.int .u8 92] 5)).heap.size := by simp; omega
        have HBL : Hid (Below n₀ w (W1.alloc (.cells #[.int .u8 92] 5))) := Lib.hid (hbel.alloc hX0 _)
        have hB1 : (W1.alloc (.cells #[.int .u8 92] 5)).heap[X]? = some (.cells #[.slice a xs.length cp, .bool false, .bool true] 90 (0, 0)) := by rw [Below.heap_alloc _ _ _ hX1]; exact hbX
        have c10 : W1.cell? ⟨X, 0, none⟩ = some (.slice a xs.length cp) := by rw [cell_of_row _ _ _ _ _ _ hbX]; rfl
        rw [hW1] at hown hsrc hbs HBL hB1 c10
        have HOW := Lib.hid hown; have HSR := Lib.hid hsrc; have HON := Lib.hid hone; have HMX := Lib.hid hmx; have HBY := Lib.hid hby; have HBS := Lib.hid hbs; have HB1 := Lib.hid hB1
        clear hown hsrc hone hmx hby hbs hB1 hW1 hbX hoX hbel hX1 hX0 hsz
        go_enter Tryd.func70, Tryd.ntmps70
        go_wp2_with (at_builtin; go_loud (refine wpList_append_own _ rfl _ _ 88 rfl n₀ 5 i0 (.int .u8 0) 1 1 Tryd.underlying88 hi hz0 hz1 hz2 rfl (by decide) _ xs.length (xs.map bv) rfl HOW.out ⟨w.heap.size, 0, none⟩ 1 1 [.int .u8 92] rfl (by simp) HSR.out HON.out HMX.out HBY.out HBS.out ?_); intro v' w1 hown' hgrow hnil; obtain ⟨a2, c2', rfl⟩ := ownsRow_slice hown'; have HF := Lib.hid (IsScn.store (ys := xs ++ [c]) HB1.out hX HOW.out hgrow (by rw [List.map_append]; show World.ownsRow _ _ _ _ _ _ (xs.map bv ++ [.int .u8 (c.toNat : Int)]); rw [← HQ.out]; exact hown') (by simp)); have hb1 : w1.heap[X]? = some (.cells #[.slice a xs.length cp, .bool false, .bool true] 90 (0, 0)) := (hgrow.block X (lt_of_block HB1.out) (fun e => scn_ne HOW.out HB1.out e.symm)).trans HB1.out; have c11 : w1.cell? ⟨X, 0, none⟩ = some (.slice a xs.length cp) := (by rw [cell_of_row _ _ _ _ _ _ hb1]; rfl); have f10 := frozen_of_row w1 X 0 _ _ hb1; clear hown' hgrow hnil hb1)
        go_end0
        exact ⟨rfl, HBL.out.trans HF.out.2, HF.out.1⟩
      · have t92 : ((q : Int) == 92) = false := by simp; omega
        have t92' : (q == 92) = false := by simp; omega
        obtain rfl : ok2 = false := by rw [HOK.out]; simp [t34', t92']
        obtain ⟨W1, hW1⟩ : ∃ W1, W1 = w.setCell ⟨X, 2, none⟩ (.bool false) := ⟨_, rfl⟩
        have hbX : W1.heap[X]? = some (.cells #[.slice a xs.length cp, .bool false, .bool false] 90 (0, 0)) := by rw [hW1, Lib.heap_setCell_same HB.out _]; rfl
        have hoX : W1.ownsRow n₀ 5 1 (.slice a xs.length cp) xs.length (xs.map bv) := by rw [hW1]; exact ownsRow_setCell_ne HO.out (scn_ne HO.out HB.out) _
        have hbel : Below n₀ w W1 := by rw [hW1]; exact (Below.refl n₀ w).setCell (p := ⟨X, 2, none⟩) hX _
        have hX1 : X < W1.heap.size := lt_of_block hbX
        have hsz : W1.heap.size = w.heap.size := by rw [hW1]; simp [World.setCell]
        have hown := hoX.alloc (.cells #[.int .u8 (q : Int)] 5)
        have hX0 : n₀ ≤ W1.heap.size := by omega
        have hsrc : ∀ (j : Nat) (u : Value), ([Value.int .u8 (q : Int)] : List Value)[j]? = some u → (W1.alloc (.cells #[.int .u8 (q : Int)] 5)).cell? ((⟨w.heap.size, 0, none⟩ : Addr).add j) = some u := by
          intro j u hj
          cases j with
          | zero =>
            simp only [List.getElem?_cons_zero, Option.some.injEq] at hj
            subst hj
            rw [← hsz]; exact cell_newbox W1 _ _
          | succ j => simp at hj
        have hone : ∀ u ∈ ([Value.int .u8 (q : Int)] : List Value), u.oneCell' = true := by intro u hu; rw [List.mem_singleton] at hu; subst hu; rfl
        have hmx : xs.length + 1 ≤ maxLen := by unfold maxLen; omega
        have hby : (xs.length + 1) * 1 ≤ 140737488355328 := by omega
        have hbs : n₀ ≤ (W1.alloc (.cells #[.int .u8 (q : Int)] 5)).heap.size := by simp; omega
        have HBL : Hid (Below n₀ w (W1.alloc (.cells #[.int .u8 (q : Int)] 5))) := Lib.hid (hbel.alloc hX0 _)
        have hB1 : (W1.alloc (.cells #[.int .u8 (q : Int)] 5)).heap[X]? = some (.cells #[.slice a xs.length cp, .bool false, .bool false] 90 (0, 0)) := by rw [Below.heap_alloc _ _ _ hX1]; exact hbX
        have c10 : W1.cell? ⟨X, 0, none⟩ = some (.slice a xs.length cp) := by rw [cell_of_row _ _ _ _ _ _ hbX]; rfl
        rw [hW1] at hown hsrc hbs HBL hB1 c10
        have HOW := Lib.hid hown; have HSR := Lib.hid hsrc; have HON := Lib.hid hone; have HMX := Lib.hid hmx; have HBY := Lib.hid hby; have HBS := Lib.hid hbs; have HB1 := Lib.hid hB1
        clear hown hsrc hone hmx hby hbs hB1 hW1 hbX hoX hbel hX1 hX0 hsz
        go_enter Tryd.func70, Tryd.ntmps70
        go_wp2_with (at_builtin; go_loud (refine wpList_append_own _ rfl _ _ 88 rfl n₀ 5 i0 (.int .u8 0) 1 1 Tryd.underlying88 hi hz0 hz1 hz2 rfl (by decide) _ xs.length (xs.map bv) rfl HOW.out ⟨w.heap.size, 0, none⟩ 1 1 [.int .u8 (q : Int)] rfl (by simp) HSR.out HON.out HMX.out HBY.out HBS.out ?_); intro v' w1 hown' hgrow hnil; obtain ⟨a2, c2', rfl⟩ := ownsRow_slice hown'; have HF := Lib.hid (IsScn.store (ys := xs ++ [c]) HB1.out hX HOW.out hgrow (by rw [List.map_append]; show World.ownsRow _ _ _ _ _ _ (xs.map bv ++ [.int .u8 (c.toNat : Int)]); rw [← HQ.out]; exact hown') (by simp)); have hb1 : w1.heap[X]? = some (.cells #[.slice a xs.length cp, .bool false, .bool false] 90 (0, 0)) := (hgrow.block X (lt_of_block HB1.out) (fun e => scn_ne HOW.out HB1.out e.symm)).trans HB1.out; have c11 : w1.cell? ⟨X, 0, none⟩ = some (.slice a xs.length cp) := (by rw [cell_of_row _ _ _ _ _ _ hb1]; rfl); have f10 := frozen_of_row w1 X 0 _ _ hb1; clear hown' hgrow hnil hb1)
        go_end0
        exact ⟨rfl, HBL.out.trans HF.out.2, HF.out.1⟩
end Go.Proofs.YtldbnfbfhbkclaaDoor
