/-
  Contracts of the builder of package buf: bytes that are appended to, in a world of which only what lies from a block number on may change.
-/
import Derived.Test.YthmenbehpblljaaProg
import Derived.Test.YthmenbehpblljaaAid
namespace Go.Proofs.Ythmenbehpblljaa
open Go.RowKit

/-- Block B is a builder of the bytes xs. -/
def IsBuf (n₀ B : Nat) (xs : List Value) (w : World) : Prop :=
  ∃ a c, w.heap[B]? = some (.cells #[.slice a xs.length c] 72 (0, 0)) ∧ n₀ ≤ B ∧ w.ownsRow n₀ 5 1 (.slice a xs.length c) xs.length xs

/-- A row of bytes and a builder lie in different blocks. -/
theorem row_ne {w : World} {n₀ B : Nat} {v u : Value} {n : Nat} {xs : List Value} (h : w.ownsRow n₀ 5 1 v n xs) (hb : w.heap[B]? = some (.cells #[u] 72 (0, 0))) : v.ownBlock ≠ some B := by
  rcases h.2 with ⟨rfl, _⟩ | ⟨g, cap, cur, rfl, _, hg, _⟩
  · simp [Value.ownBlock]
  · intro e
    simp [Value.ownBlock] at e
    subst e
    rw [hg] at hb
    simp at hb

theorem IsBuf.open {n₀ B : Nat} {xs : List Value} {w : World} (h : IsBuf n₀ B xs w) : ∃ a c, w.cell? ⟨B, 0, none⟩ = some (.slice a xs.length c) ∧ w.frozen? ⟨B, 0, none⟩ = false ∧ n₀ ≤ B ∧ B < w.heap.size ∧ w.ownsRow n₀ 5 1 (.slice a xs.length c) xs.length xs ∧ Value.ownBlock (.slice a xs.length c) ≠ some B := by
  obtain ⟨a, c, hb, hB, ho⟩ := h
  exact ⟨a, c, cell_of_one hb, free_of_one hb, hB, lt_of_block hb, ho, row_ne ho hb⟩

theorem IsBuf.alloc {n₀ B : Nat} {xs : List Value} {w : World} (h : IsBuf n₀ B xs w) (o : Obj) : IsBuf n₀ B xs (w.alloc o) := by
  obtain ⟨a, c, hb, hB, ho⟩ := h
  exact ⟨a, c, by rw [Below.heap_alloc _ _ _ (lt_of_block hb)]; exact hb, hB, ho.alloc _⟩

theorem infoU8 : (Try.prog.info? 5).map (fun i => (i.zero, i.size, i.bytes)) = some (some (.int .u8 0), 1, 1) := by kernel_rfl

theorem len_any (n₀ B : Nat) (xs : List Value) (w : World) (h : IsBuf n₀ B xs w) :
    Calls Try.prog 21 #[.pointer (some ⟨B, 0, none⟩)] w fun e w' => e = .returned (.int .i64 xs.length) ∧ w = w' := by
  obtain ⟨a, c, hc, hf, hB, hBs, hown, hne⟩ := h.open
  go_enter Try.func21, Try.ntmps21
  go_wp2
  go_ret
  exact ⟨rfl, rfl⟩

theorem zeros_no (n₀ B : Nat) (xs : List Value) (w : World) (m : Int) (h : IsBuf n₀ B xs w) (hx : xs.length ≤ 16777216) (hm : m < 0 ∨ 16777216 - (xs.length : Int) < m) :
    Calls Try.prog 19 #[.pointer (some ⟨B, 0, none⟩), .int .i64 m] w fun e w' => e = .returned (.bool false) ∧ w = w' := by
  obtain ⟨a, c, hc, hf, hB, hBs, hown, hne⟩ := h.open
  by_cases h0 : m < 0
  · go_enter Try.func19, Try.ntmps19
    go_wp2
    go_ret
    exact ⟨rfl, rfl⟩
  · have h1 : 16777216 - (xs.length : Int) < m := by omega
    go_enter Try.func19, Try.ntmps19
    go_wp2
    go_ret
    exact ⟨rfl, rfl⟩

theorem IsBuf.store {n₀ B : Nat} {xs ys : List Value} {w w1 : World} {a : Option Addr} {n c : Nat} (h : IsBuf n₀ B xs w) (hc : w.cell? ⟨B, 0, none⟩ = some (.slice a xs.length c)) (hw : w.grownBy w1 (Value.ownBlock (.slice a xs.length c)) ) {a2 : Option Addr} {c2 : Nat} (hv : w1.ownsRow n₀ 5 1 (.slice a2 n c2) n ys) (hn : n = ys.length) :
    IsBuf n₀ B ys (w1.setCell ⟨B, 0, none⟩ (.slice a2 n c2)) ∧ Below n₀ w (w1.setCell ⟨B, 0, none⟩ (.slice a2 n c2)) := by
  subst hn
  obtain ⟨a', c', hb, hB, ho⟩ := h
  have hc' := cell_of_one hb
  rw [hc'] at hc
  obtain ⟨rfl, rfl⟩ : a' = a ∧ c' = c := by simpa using hc
  have hb1 : w1.heap[B]? = some (.cells #[.slice a' xs.length c'] 72 (0, 0)) := by rw [hw.block B (lt_of_block hb) (fun e => row_ne ho hb e.symm)]; exact hb
  have hbel : Below n₀ w w1 := (Below.refl n₀ w).grown hw (Nat.le_trans hB (Nat.le_of_lt (lt_of_block hb))) (fun k hk => (ho.lt k hk).1)
  exact ⟨⟨a2, c2, one_setCell hb1, hB, ownsRow_setCell_ne hv (row_ne hv hb1) _⟩, hbel.setCell (p := ⟨B, 0, none⟩) hB _⟩

/-- What an append that grows the builder's slice leaves of the builder's own cell. -/
theorem cell_grown {B : Nat} {xs : List Value} {w w1 : World} {a : Option Addr} {c : Nat} (hc : w.cell? ⟨B, 0, none⟩ = some (.slice a xs.length c)) (hf : w.frozen? ⟨B, 0, none⟩ = false) (hBs : B < w.heap.size) (hne : Value.ownBlock (.slice a xs.length c) ≠ some B)
    (hw : w.grownBy w1 (Value.ownBlock (.slice a xs.length c))) : w1.cell? ⟨B, 0, none⟩ = some (.slice a xs.length c) ∧ w1.frozen? ⟨B, 0, none⟩ = false :=
  ⟨hw.cell hc (fun e => hne e.symm), (World.frozen?_of_block (w := w) (hw.block B hBs (fun e => hne e.symm))).trans hf⟩

set_option maxRecDepth 100000 in
theorem zeros_yes (n₀ B : Nat) (xs : List Value) (w : World) (m : Int) (h : IsBuf n₀ B xs w) (h0 : 0 ≤ m) (hm : (xs.length : Int) + m ≤ 16777216) :
    Calls Try.prog 19 #[.pointer (some ⟨B, 0, none⟩), .int .i64 m] w fun e w' => e = .returned (.bool true) ∧ IsBuf n₀ B (xs ++ List.replicate m.toNat (.int .u8 0)) w' ∧ Below n₀ w w' := by
  have hI := h
  obtain ⟨a, c, hc, hf, hB, hBs, hown, hne⟩ := h.open
  obtain ⟨i0, hi, hz0, hz1, hz2⟩ := info_parts infoU8
  have hx : xs.length ≤ 16777216 := by omega
  have hd : decide (16777216 - (xs.length : Int) < m) = false := by simp; omega
  have hd0 : decide (m < 0) = false := by simp; omega
  have hM : (m.toNat : Int) = m := by omega
  have hc1 : (xs.length + m.toNat) * 1 ≤ 140737488355328 := by omega
  have hc2 : n₀ ≤ w.heap.size := by omega
  have HC1 := Lib.hid hc1; clear hc1
  have HM := Lib.hid hm; clear hm
  have HMM := Lib.hid hM; clear hM
  have HI := Lib.hid hI; clear hI
  go_enter Try.func19, Try.ntmps19
  go_wp2_with (at_builtin; (refine wpList_append_zeros_own rfl _ _ 53 3 rfl n₀ 5 i0 (.int .u8 0) 1 Try.underlying53 Try.underlying3 hi hz0 hz1 hz2 rfl rfl (by decide) _ _ xs rfl hown .i64 m.toNat m rfl HMM.out.symm HC1.out hc2 ?_); intro v' w1 hown' hgrow hat; obtain ⟨a2, c2, rfl⟩ := ownsRow_slice hown'; obtain ⟨hc1, hf1⟩ := cell_grown hc hf hBs hne hgrow; have HF := Lib.hid (IsBuf.store HI.out hc hgrow hown' (by simp)); clear hown' hgrow hat)
  go_ret
  exact ⟨rfl, HF.out⟩

/-- What a slice that is read holds. -/
def Src (w : World) (a : Option Addr) (xs : List Value) : Prop :=
  (a = none → xs = []) ∧ (∀ u ∈ xs, u.oneCell' = true) ∧ ∀ ad, a = some ad → ∀ j u, xs[j]? = some u → w.cell? (ad.add j) = some u

def RetRow (n₀ : Nat) (xs : List Value) (w : World) (e : Ending) (w' : World) : Prop :=
  ∃ a c, e = .returned (.slice a xs.length c) ∧ w'.ownsRow n₀ 5 1 (.slice a xs.length c) xs.length xs ∧ Below n₀ w w'

set_option maxRecDepth 100000 in
theorem clone_any (n₀ : Nat) (a : Option Addr) (c : Nat) (xs : List Value) (w : World) (hs : Src w a xs) (hn : n₀ ≤ w.heap.size) (hl : xs.length ≤ 100000000) :
    Calls Try.prog 38 #[.slice a xs.length c] w (RetRow n₀ xs w) := by
  obtain ⟨h0, h1, h2⟩ := hs
  have he := fun (wx : World) (n c : Nat) => Lib.run_eql_slice_nil (P := Try.prog) wx 53 5 a n c 0 0 Try.underlying53
  obtain ⟨i0, hi, hz0, hz1, hz2⟩ := info_parts infoU8
  cases a with
  | none =>
    obtain rfl := h0 rfl
    go_enter Try.func38, Try.ntmps38
    go_wp2_with (fail)
    go_ret
    exact ⟨none, 0, rfl, World.ownsRow_nil _ _ _ _, Below.refl _ _⟩
  | some ad =>
    have hown := World.ownsRow_made (base := n₀) (e := 5) (size := 1) w #[] 0 hn (by decide) rfl
    have hsrc : ∀ j u, xs[j]? = some u → (w.alloc (.cells #[] 5)).cell? (ad.add j) = some u := fun j u hu => Lib.cell?_alloc_some _ (h2 ad rfl j u hu)
    have hb : (0 + xs.length) * 1 ≤ 140737488355328 := by omega
    have hm : 0 + xs.length ≤ maxLen := by unfold maxLen; omega
    have hs2 : n₀ ≤ (w.alloc (.cells #[] 5)).heap.size := by simp; omega
    have HB := Lib.hid hb; have HM := Lib.hid hm; have HS2 := Lib.hid hs2; have H1 := Lib.hid h1; have HN := Lib.hid hn
    have HSR := Lib.hid hsrc; have HOW := Lib.hid hown
    clear hb hm hs2 hsrc hown h1 h2 hn
    go_enter Try.func38, Try.ntmps38
    go_wp2_with (at_builtin; go_loud (refine wpList_append_own _ rfl _ _ 53 rfl n₀ 5 i0 (.int .u8 0) 1 1 Try.underlying53 hi hz0 hz1 hz2 rfl (by decide) _ 0 [] rfl HOW.out ad xs.length c xs rfl (by simp) HSR.out H1.out HM.out HB.out HS2.out ?_); intro v' w1 hown' hgrow hnil; obtain ⟨a2, c2, rfl⟩ := ownsRow_slice hown'; have HW := Lib.hid hgrow; have HO := Lib.hid hown'; clear hgrow hown' hnil)
    go_ret
    have hb1 : Below n₀ w w1 := ((Below.refl n₀ w).alloc HN.out _).grown HW.out HS2.out (fun k hk => by have e := Option.some.inj hk; have := HN.out; simp at e; omega)
    have e0 : 0 + xs.length = xs.length := Nat.zero_add _
    have HO2 := HO.out
    rw [e0, List.nil_append] at HO2
    exact ⟨a2, c2, rfl, HO2, hb1⟩

def RetBuf (n₀ : Nat) (xs : List Value) (w : World) (e : Ending) (w' : World) : Prop :=
  ∃ B, e = .returned (.pointer (some ⟨B, 0, none⟩)) ∧ IsBuf n₀ B xs w' ∧ Below n₀ w w'

/-- A slice of the call's own in a new block of its own: a builder. -/
theorem IsBuf.new {n₀ : Nat} {xs : List Value} {w1 : World} {a : Option Addr} {c : Nat} (hn : n₀ ≤ w1.heap.size) (h : w1.ownsRow n₀ 5 1 (.slice a xs.length c) xs.length xs) :
    IsBuf n₀ w1.heap.size xs (w1.alloc (.cells #[.slice a xs.length c] 72)) :=
  ⟨a, c, heap_alloc_new w1 _, hn, h.alloc _⟩

set_option maxRecDepth 100000 in
theorem new_any (n₀ : Nat) (a : Option Addr) (c : Nat) (xs : List Value) (w : World) (hs : Src w a xs) (hn : n₀ ≤ w.heap.size) (hl : xs.length ≤ 100000000) :
    Calls Try.prog 18 #[.slice a xs.length c] w (RetBuf n₀ xs w) := by
  have HS := Lib.hid hs; clear hs
  go_enter Try.func18, Try.ntmps18
  go_wp2_with (go_at_call 38; refine (clone_any n₀ _ _ xs _ HS.out hn hl).mono ?_; rintro e w1 ⟨a2, c2, rfl, ho, hb⟩; have HO := Lib.hid ho; have HB := Lib.hid hb; clear ho hb)
  go_ret
  have hn1 : n₀ ≤ w1.heap.size := Nat.le_trans hn HB.out.size
  exact ⟨w1.heap.size, rfl, IsBuf.new hn1 HO.out, HB.out.alloc hn1 _⟩

theorem align_zero (n₀ B : Nat) (xs : List Value) (w : World) (m : Int) (h : IsBuf n₀ B xs w) (h0 : 1 ≤ m) (hx : xs.length ≤ 16777216) (hm : (xs.length : Int) % m = 0) :
    Calls Try.prog 20 #[.pointer (some ⟨B, 0, none⟩), .int .i64 m] w fun e w' => e = .returned (.bool true) ∧ w = w' := by
  obtain ⟨a, c, hc, hf, hB, hBs, hown, hne⟩ := h.open
  have hd : decide (m < 1) = false := by simp; omega
  have hr : decide (0 < (xs.length : Int) % m) = false := by simp; omega
  have HM := Lib.hid hm; clear hm
  go_enter Try.func20, Try.ntmps20
  go_wp2_with (fail)
  go_ret
  exact ⟨rfl, rfl⟩

theorem align_no (n₀ B : Nat) (xs : List Value) (w : World) (m : Int) (h : IsBuf n₀ B xs w) (h0 : 1 ≤ m) (h9 : m ≤ 1000000000) (hx : xs.length ≤ 16777216) (hm : 0 < (xs.length : Int) % m) (hb : 16777216 - (xs.length : Int) < m - (xs.length : Int) % m) :
    Calls Try.prog 20 #[.pointer (some ⟨B, 0, none⟩), .int .i64 m] w fun e w' => e = .returned (.bool false) ∧ w = w' := by
  have HI := Lib.hid h
  obtain ⟨a, c, hc, hf, hB, hBs, hown, hne⟩ := h.open
  have hd : decide (m < 1) = false := by simp; omega
  have hr : decide (0 < (xs.length : Int) % m) = true := by simp; omega
  have h2 : (xs.length : Int) % m < m := Int.emod_lt_of_pos _ (by omega)
  go_enter Try.func20, Try.ntmps20
  go_wp2_with (go_at_call 19; refine (zeros_no n₀ B xs _ _ HI.out hx (Or.inr hb)).mono ?_; rintro e w1 ⟨rfl, rfl⟩)
  go_ret
  exact ⟨rfl, rfl⟩
end Go.Proofs.Ythmenbehpblljaa
