/-
  The law TableHeaders: the image is made and read in an order that is drawn: what each operation leaves.
-/
import Derived.Test.YthmenbehpblljaaTabIm
import Derived.Test.YthmenbehpblljaaStageI
namespace Go.Proofs.Ythmenbehpblljaa
open Go.RowKit Go.Shelf

def slot (a : Act) (k : Nat) : Value := a.tmps.getD k undef
theorem slot_put_ne (a : Act) (v : Value) {K k : Nat} (h : k ≠ K) : slot (a.put (some K) v) k = slot a k := by
  simp [slot, Act.put, Array.getElem?_setIfInBounds_ne (Ne.symm h)]
theorem slot_put_self (a : Act) (v : Value) {K : Nat} (h : K < a.tmps.size) : slot (a.put (some K) v) K = v := by
  simp [slot, Act.put, h]
theorem size_put (a : Act) (v : Value) (K : Nat) : (a.put (some K) v).tmps.size = a.tmps.size := by simp [Act.put]
theorem slot_get {a : Act} {k : Nat} {v : Value} (h : slot a k = v) : a.tmps[k]?.getD undef = v := by rw [← h]; simp [slot]
def dsts8 : List Nat := [13, 14, 43, 44, 45, 46, 47, 48, 49, 50, 51, 52, 53]
theorem fold_set (f : Nat → Value) : ∀ (l : List Nat) (T : Array Value) (i : Nat), (l.foldl (fun A k => A.setIfInBounds k (f k)) T)[i]? = if i ∈ l ∧ i < T.size then some (f i) else T[i]?
  | [], T, i => by simp
  | k :: l, T, i => by
    rw [List.foldl_cons, fold_set f l]
    by_cases h : i ∈ l
    · simp [h]
      by_cases h2 : i < T.size
      · simp [h2]
      · simp [h2, Array.getElem?_eq_none (show (T.setIfInBounds k (f k)).size ≤ i by simp; omega)]
    · by_cases h3 : i = k
      · subst h3
        by_cases h2 : i < T.size
        · simp [h, h2]
        · simp [h, h2]
      · simp [h, h3, Array.getElem?_setIfInBounds_ne (Ne.symm h3)]
theorem tmps_of (a : Act) (T : Array Value) (hs : a.tmps.size = 74) (hT : T.size = 74) (hr : ∀ k, k ∉ dsts8 → slot a k = T.getD k undef) : a.tmps = dsts8.foldl (fun A k => A.setIfInBounds k (slot a k)) T := by
  apply Array.ext_getElem?
  intro i
  rw [fold_set]
  by_cases hi : i < 74
  · have h1 : a.tmps[i]? = some (slot a i) := by simp [slot, Array.getElem?_eq_getElem (show i < a.tmps.size by omega)]
    have h2 : T[i]? = some (T.getD i undef) := by simp [Array.getElem?_eq_getElem (show i < T.size by omega)]
    by_cases hm : i ∈ dsts8
    · rw [if_pos ⟨hm, by omega⟩, h1]
    · rw [if_neg (fun h => hm h.1), h1, h2, hr i hm]
  · rw [if_neg (fun h => hi (by omega)), Array.getElem?_eq_none (by omega), Array.getElem?_eq_none (by omega)]
def flt0 : Array Value := #[.int .i64 0, .int .i64 0, .int .i64 0]
theorem own_below {w w' : World} {B e size n : Nat} {v : Value} {xs : List Value} (h : w.ownsRow B e size v n xs) (hb : Below w.heap.size w w') : w'.ownsRow B e size v n xs := by
  refine ⟨h.1, ?_⟩
  rcases h.2 with ⟨h1, h2⟩ | ⟨g, cap, cur, h1, h2, h3, h4⟩
  · exact .inl ⟨h1, h2⟩
  · exact .inr ⟨g, cap, cur, h1, h2, (hb.block g (lt_of_block h3)).trans h3, h4⟩
theorem row_not_own {W : World} {B : Nat} {t e : TypeId} {cs : Array Value} (h : W.heap[B]? = some (.cells cs t (0, 0))) (hte : t ≠ e) {base size k : Nat} {v : Value} {xs : List Value} (hr : W.ownsRow base e size v k xs) : some B ≠ v.ownBlock := by
  rcases hr.2 with ⟨rfl, _⟩ | ⟨g, cap, cur, rfl, _, hgb, _⟩
  · simp [Value.ownBlock]
  · intro e'
    obtain rfl : B = g := by simpa [Value.ownBlock] using e'
    have := h.symm.trans hgb
    simp at this
    exact hte this.2

section j8
variable (w8 : World) (T : Array Value) (tab : Array Value) (hsl : Value) (t9 : Nat) (hdr img : List Value) (tot : Int)
structure J8 (d : Nat → Bool) (a : Act) (w : World) : Prop where
  defs : a.defers = []
  size : a.tmps.size = 74
  rest : ∀ k, k ∉ dsts8 → slot a k = T.getD k undef
  below : Below w8.heap.size w8 w
  f0 : d 0 = true → d 2 = false → w.ownsRow w8.heap.size 5 1 (slot a 44) 0 []
  f1 : d 1 = true → slot a 45 = hsl
  f2 : d 2 = true → d 6 = false → w.ownsRow w8.heap.size 5 1 (slot a 46) hdr.length hdr
  f3 : d 3 = true → slot a 47 = .pointer (some ⟨t9, 1, none⟩)
  f4 : d 4 = true → slot a 48 = .int .i64 tot
  f5 : d 5 = true → slot a 49 = .int .i64 (tot - 80)
  f6 : d 6 = true → d 7 = false → w.ownsRow w8.heap.size 5 1 (slot a 50) img.length img
  f7 : d 7 = true → slot a 51 = .tuple #[.agg tab, .agg flt0]
  f8 : d 8 = true → slot a 43 = .tuple #[.agg tab, .agg flt0]
  f9 : d 9 = true → slot a 52 = .agg tab
  f10 : d 10 = true → slot a 53 = .agg flt0
  f11 : d 11 = true → ∃ g, slot a 13 = .pointer (some ⟨g, 0, none⟩) ∧ w8.heap.size ≤ g ∧ w.heap[g]? = some (.cells (if d 13 then tab else zeroTab 0) 28 (0, 0))
  f12 : d 12 = true → ∃ g, slot a 14 = .pointer (some ⟨g, 0, none⟩) ∧ w8.heap.size ≤ g ∧ w.heap[g]? = some (.cells flt0 58 (0, 0))
end j8
section steps
variable {w8 : World} {T : Array Value} {tab : Array Value} {hsl : Value} {t9 : Nat} {hdr img : List Value} {tot : Int} {d : Nat → Bool} {a : Act} {w : World}

theorem J8.s1 (h : J8 w8 T tab hsl t9 hdr img tot d a w)  : J8 w8 T tab hsl t9 hdr img tot (upd d 1) (a.put (some 45) (hsl)) w := by
  have hsl' : slot (a.put (some 45) (hsl)) 45 = (hsl) := slot_put_self a _ (by rw [h.size]; decide)
  refine ⟨h.defs, by rw [size_put]; exact h.size, fun k hk => ?_, h.below,
    fun hd hq => by
      have t := h.f0 (by simpa [upd] using hd) (by simpa [upd] using hq)
      rw [slot_put_ne a _ (show 44 ≠ 45 by decide)]
      exact t,
    ?new,
    fun hd hq => by
      have t := h.f2 (by simpa [upd] using hd) (by simpa [upd] using hq)
      rw [slot_put_ne a _ (show 46 ≠ 45 by decide)]
      exact t,
    fun hd => by rw [slot_put_ne a _ (show 47 ≠ 45 by decide)]; exact h.f3 (by simpa [upd] using hd),
    fun hd => by rw [slot_put_ne a _ (show 48 ≠ 45 by decide)]; exact h.f4 (by simpa [upd] using hd),
    fun hd => by rw [slot_put_ne a _ (show 49 ≠ 45 by decide)]; exact h.f5 (by simpa [upd] using hd),
    fun hd hq => by
      have t := h.f6 (by simpa [upd] using hd) (by simpa [upd] using hq)
      rw [slot_put_ne a _ (show 50 ≠ 45 by decide)]
      exact t,
    fun hd => by rw [slot_put_ne a _ (show 51 ≠ 45 by decide)]; exact h.f7 (by simpa [upd] using hd),
    fun hd => by rw [slot_put_ne a _ (show 43 ≠ 45 by decide)]; exact h.f8 (by simpa [upd] using hd),
    fun hd => by rw [slot_put_ne a _ (show 52 ≠ 45 by decide)]; exact h.f9 (by simpa [upd] using hd),
    fun hd => by rw [slot_put_ne a _ (show 53 ≠ 45 by decide)]; exact h.f10 (by simpa [upd] using hd),
    fun hd => by
      obtain ⟨g, e1, e2, e3⟩ := h.f11 (by simpa [upd] using hd)
      rw [slot_put_ne a _ (show 13 ≠ 45 by decide)]
      rw [show upd d 1 13 = d 13 from by simp [upd]]
      exact ⟨g, e1, e2, e3⟩,
    fun hd => by
      obtain ⟨g, e1, e2, e3⟩ := h.f12 (by simpa [upd] using hd)
      rw [slot_put_ne a _ (show 14 ≠ 45 by decide)]
      exact ⟨g, e1, e2, e3⟩⟩
  · rw [slot_put_ne a _ (fun e => hk (by rw [e]; decide))]; exact h.rest k hk
  case new =>
    exact fun _ => hsl'

theorem J8.s3 (h : J8 w8 T tab hsl t9 hdr img tot d a w)  : J8 w8 T tab hsl t9 hdr img tot (upd d 3) (a.put (some 47) (.pointer (some ⟨t9, 1, none⟩))) w := by
  have hsl' : slot (a.put (some 47) (.pointer (some ⟨t9, 1, none⟩))) 47 = (.pointer (some ⟨t9, 1, none⟩)) := slot_put_self a _ (by rw [h.size]; decide)
  refine ⟨h.defs, by rw [size_put]; exact h.size, fun k hk => ?_, h.below,
    fun hd hq => by
      have t := h.f0 (by simpa [upd] using hd) (by simpa [upd] using hq)
      rw [slot_put_ne a _ (show 44 ≠ 47 by decide)]
      exact t,
    fun hd => by rw [slot_put_ne a _ (show 45 ≠ 47 by decide)]; exact h.f1 (by simpa [upd] using hd),
    fun hd hq => by
      have t := h.f2 (by simpa [upd] using hd) (by simpa [upd] using hq)
      rw [slot_put_ne a _ (show 46 ≠ 47 by decide)]
      exact t,
    ?new,
    fun hd => by rw [slot_put_ne a _ (show 48 ≠ 47 by decide)]; exact h.f4 (by simpa [upd] using hd),
    fun hd => by rw [slot_put_ne a _ (show 49 ≠ 47 by decide)]; exact h.f5 (by simpa [upd] using hd),
    fun hd hq => by
      have t := h.f6 (by simpa [upd] using hd) (by simpa [upd] using hq)
      rw [slot_put_ne a _ (show 50 ≠ 47 by decide)]
      exact t,
    fun hd => by rw [slot_put_ne a _ (show 51 ≠ 47 by decide)]; exact h.f7 (by simpa [upd] using hd),
    fun hd => by rw [slot_put_ne a _ (show 43 ≠ 47 by decide)]; exact h.f8 (by simpa [upd] using hd),
    fun hd => by rw [slot_put_ne a _ (show 52 ≠ 47 by decide)]; exact h.f9 (by simpa [upd] using hd),
    fun hd => by rw [slot_put_ne a _ (show 53 ≠ 47 by decide)]; exact h.f10 (by simpa [upd] using hd),
    fun hd => by
      obtain ⟨g, e1, e2, e3⟩ := h.f11 (by simpa [upd] using hd)
      rw [slot_put_ne a _ (show 13 ≠ 47 by decide)]
      rw [show upd d 3 13 = d 13 from by simp [upd]]
      exact ⟨g, e1, e2, e3⟩,
    fun hd => by
      obtain ⟨g, e1, e2, e3⟩ := h.f12 (by simpa [upd] using hd)
      rw [slot_put_ne a _ (show 14 ≠ 47 by decide)]
      exact ⟨g, e1, e2, e3⟩⟩
  · rw [slot_put_ne a _ (fun e => hk (by rw [e]; decide))]; exact h.rest k hk
  case new =>
    exact fun _ => hsl'

theorem J8.s4 (h : J8 w8 T tab hsl t9 hdr img tot d a w)  : J8 w8 T tab hsl t9 hdr img tot (upd d 4) (a.put (some 48) (.int .i64 tot)) w := by
  have hsl' : slot (a.put (some 48) (.int .i64 tot)) 48 = (.int .i64 tot) := slot_put_self a _ (by rw [h.size]; decide)
  refine ⟨h.defs, by rw [size_put]; exact h.size, fun k hk => ?_, h.below,
    fun hd hq => by
      have t := h.f0 (by simpa [upd] using hd) (by simpa [upd] using hq)
      rw [slot_put_ne a _ (show 44 ≠ 48 by decide)]
      exact t,
    fun hd => by rw [slot_put_ne a _ (show 45 ≠ 48 by decide)]; exact h.f1 (by simpa [upd] using hd),
    fun hd hq => by
      have t := h.f2 (by simpa [upd] using hd) (by simpa [upd] using hq)
      rw [slot_put_ne a _ (show 46 ≠ 48 by decide)]
      exact t,
    fun hd => by rw [slot_put_ne a _ (show 47 ≠ 48 by decide)]; exact h.f3 (by simpa [upd] using hd),
    ?new,
    fun hd => by rw [slot_put_ne a _ (show 49 ≠ 48 by decide)]; exact h.f5 (by simpa [upd] using hd),
    fun hd hq => by
      have t := h.f6 (by simpa [upd] using hd) (by simpa [upd] using hq)
      rw [slot_put_ne a _ (show 50 ≠ 48 by decide)]
      exact t,
    fun hd => by rw [slot_put_ne a _ (show 51 ≠ 48 by decide)]; exact h.f7 (by simpa [upd] using hd),
    fun hd => by rw [slot_put_ne a _ (show 43 ≠ 48 by decide)]; exact h.f8 (by simpa [upd] using hd),
    fun hd => by rw [slot_put_ne a _ (show 52 ≠ 48 by decide)]; exact h.f9 (by simpa [upd] using hd),
    fun hd => by rw [slot_put_ne a _ (show 53 ≠ 48 by decide)]; exact h.f10 (by simpa [upd] using hd),
    fun hd => by
      obtain ⟨g, e1, e2, e3⟩ := h.f11 (by simpa [upd] using hd)
      rw [slot_put_ne a _ (show 13 ≠ 48 by decide)]
      rw [show upd d 4 13 = d 13 from by simp [upd]]
      exact ⟨g, e1, e2, e3⟩,
    fun hd => by
      obtain ⟨g, e1, e2, e3⟩ := h.f12 (by simpa [upd] using hd)
      rw [slot_put_ne a _ (show 14 ≠ 48 by decide)]
      exact ⟨g, e1, e2, e3⟩⟩
  · rw [slot_put_ne a _ (fun e => hk (by rw [e]; decide))]; exact h.rest k hk
  case new =>
    exact fun _ => hsl'

theorem J8.s5 (h : J8 w8 T tab hsl t9 hdr img tot d a w)  : J8 w8 T tab hsl t9 hdr img tot (upd d 5) (a.put (some 49) (.int .i64 (tot - 80))) w := by
  have hsl' : slot (a.put (some 49) (.int .i64 (tot - 80))) 49 = (.int .i64 (tot - 80)) := slot_put_self a _ (by rw [h.size]; decide)
  refine ⟨h.defs, by rw [size_put]; exact h.size, fun k hk => ?_, h.below,
    fun hd hq => by
      have t := h.f0 (by simpa [upd] using hd) (by simpa [upd] using hq)
      rw [slot_put_ne a _ (show 44 ≠ 49 by decide)]
      exact t,
    fun hd => by rw [slot_put_ne a _ (show 45 ≠ 49 by decide)]; exact h.f1 (by simpa [upd] using hd),
    fun hd hq => by
      have t := h.f2 (by simpa [upd] using hd) (by simpa [upd] using hq)
      rw [slot_put_ne a _ (show 46 ≠ 49 by decide)]
      exact t,
    fun hd => by rw [slot_put_ne a _ (show 47 ≠ 49 by decide)]; exact h.f3 (by simpa [upd] using hd),
    fun hd => by rw [slot_put_ne a _ (show 48 ≠ 49 by decide)]; exact h.f4 (by simpa [upd] using hd),
    ?new,
    fun hd hq => by
      have t := h.f6 (by simpa [upd] using hd) (by simpa [upd] using hq)
      rw [slot_put_ne a _ (show 50 ≠ 49 by decide)]
      exact t,
    fun hd => by rw [slot_put_ne a _ (show 51 ≠ 49 by decide)]; exact h.f7 (by simpa [upd] using hd),
    fun hd => by rw [slot_put_ne a _ (show 43 ≠ 49 by decide)]; exact h.f8 (by simpa [upd] using hd),
    fun hd => by rw [slot_put_ne a _ (show 52 ≠ 49 by decide)]; exact h.f9 (by simpa [upd] using hd),
    fun hd => by rw [slot_put_ne a _ (show 53 ≠ 49 by decide)]; exact h.f10 (by simpa [upd] using hd),
    fun hd => by
      obtain ⟨g, e1, e2, e3⟩ := h.f11 (by simpa [upd] using hd)
      rw [slot_put_ne a _ (show 13 ≠ 49 by decide)]
      rw [show upd d 5 13 = d 13 from by simp [upd]]
      exact ⟨g, e1, e2, e3⟩,
    fun hd => by
      obtain ⟨g, e1, e2, e3⟩ := h.f12 (by simpa [upd] using hd)
      rw [slot_put_ne a _ (show 14 ≠ 49 by decide)]
      exact ⟨g, e1, e2, e3⟩⟩
  · rw [slot_put_ne a _ (fun e => hk (by rw [e]; decide))]; exact h.rest k hk
  case new =>
    exact fun _ => hsl'

theorem J8.s8 (h : J8 w8 T tab hsl t9 hdr img tot d a w)  : J8 w8 T tab hsl t9 hdr img tot (upd d 8) (a.put (some 43) (.tuple #[.agg tab, .agg flt0])) w := by
  have hsl' : slot (a.put (some 43) (.tuple #[.agg tab, .agg flt0])) 43 = (.tuple #[.agg tab, .agg flt0]) := slot_put_self a _ (by rw [h.size]; decide)
  refine ⟨h.defs, by rw [size_put]; exact h.size, fun k hk => ?_, h.below,
    fun hd hq => by
      have t := h.f0 (by simpa [upd] using hd) (by simpa [upd] using hq)
      rw [slot_put_ne a _ (show 44 ≠ 43 by decide)]
      exact t,
    fun hd => by rw [slot_put_ne a _ (show 45 ≠ 43 by decide)]; exact h.f1 (by simpa [upd] using hd),
    fun hd hq => by
      have t := h.f2 (by simpa [upd] using hd) (by simpa [upd] using hq)
      rw [slot_put_ne a _ (show 46 ≠ 43 by decide)]
      exact t,
    fun hd => by rw [slot_put_ne a _ (show 47 ≠ 43 by decide)]; exact h.f3 (by simpa [upd] using hd),
    fun hd => by rw [slot_put_ne a _ (show 48 ≠ 43 by decide)]; exact h.f4 (by simpa [upd] using hd),
    fun hd => by rw [slot_put_ne a _ (show 49 ≠ 43 by decide)]; exact h.f5 (by simpa [upd] using hd),
    fun hd hq => by
      have t := h.f6 (by simpa [upd] using hd) (by simpa [upd] using hq)
      rw [slot_put_ne a _ (show 50 ≠ 43 by decide)]
      exact t,
    fun hd => by rw [slot_put_ne a _ (show 51 ≠ 43 by decide)]; exact h.f7 (by simpa [upd] using hd),
    ?new,
    fun hd => by rw [slot_put_ne a _ (show 52 ≠ 43 by decide)]; exact h.f9 (by simpa [upd] using hd),
    fun hd => by rw [slot_put_ne a _ (show 53 ≠ 43 by decide)]; exact h.f10 (by simpa [upd] using hd),
    fun hd => by
      obtain ⟨g, e1, e2, e3⟩ := h.f11 (by simpa [upd] using hd)
      rw [slot_put_ne a _ (show 13 ≠ 43 by decide)]
      rw [show upd d 8 13 = d 13 from by simp [upd]]
      exact ⟨g, e1, e2, e3⟩,
    fun hd => by
      obtain ⟨g, e1, e2, e3⟩ := h.f12 (by simpa [upd] using hd)
      rw [slot_put_ne a _ (show 14 ≠ 43 by decide)]
      exact ⟨g, e1, e2, e3⟩⟩
  · rw [slot_put_ne a _ (fun e => hk (by rw [e]; decide))]; exact h.rest k hk
  case new =>
    exact fun _ => hsl'

theorem J8.s9 (h : J8 w8 T tab hsl t9 hdr img tot d a w)  : J8 w8 T tab hsl t9 hdr img tot (upd d 9) (a.put (some 52) (.agg tab)) w := by
  have hsl' : slot (a.put (some 52) (.agg tab)) 52 = (.agg tab) := slot_put_self a _ (by rw [h.size]; decide)
  refine ⟨h.defs, by rw [size_put]; exact h.size, fun k hk => ?_, h.below,
    fun hd hq => by
      have t := h.f0 (by simpa [upd] using hd) (by simpa [upd] using hq)
      rw [slot_put_ne a _ (show 44 ≠ 52 by decide)]
      exact t,
    fun hd => by rw [slot_put_ne a _ (show 45 ≠ 52 by decide)]; exact h.f1 (by simpa [upd] using hd),
    fun hd hq => by
      have t := h.f2 (by simpa [upd] using hd) (by simpa [upd] using hq)
      rw [slot_put_ne a _ (show 46 ≠ 52 by decide)]
      exact t,
    fun hd => by rw [slot_put_ne a _ (show 47 ≠ 52 by decide)]; exact h.f3 (by simpa [upd] using hd),
    fun hd => by rw [slot_put_ne a _ (show 48 ≠ 52 by decide)]; exact h.f4 (by simpa [upd] using hd),
    fun hd => by rw [slot_put_ne a _ (show 49 ≠ 52 by decide)]; exact h.f5 (by simpa [upd] using hd),
    fun hd hq => by
      have t := h.f6 (by simpa [upd] using hd) (by simpa [upd] using hq)
      rw [slot_put_ne a _ (show 50 ≠ 52 by decide)]
      exact t,
    fun hd => by rw [slot_put_ne a _ (show 51 ≠ 52 by decide)]; exact h.f7 (by simpa [upd] using hd),
    fun hd => by rw [slot_put_ne a _ (show 43 ≠ 52 by decide)]; exact h.f8 (by simpa [upd] using hd),
    ?new,
    fun hd => by rw [slot_put_ne a _ (show 53 ≠ 52 by decide)]; exact h.f10 (by simpa [upd] using hd),
    fun hd => by
      obtain ⟨g, e1, e2, e3⟩ := h.f11 (by simpa [upd] using hd)
      rw [slot_put_ne a _ (show 13 ≠ 52 by decide)]
      rw [show upd d 9 13 = d 13 from by simp [upd]]
      exact ⟨g, e1, e2, e3⟩,
    fun hd => by
      obtain ⟨g, e1, e2, e3⟩ := h.f12 (by simpa [upd] using hd)
      rw [slot_put_ne a _ (show 14 ≠ 52 by decide)]
      exact ⟨g, e1, e2, e3⟩⟩
  · rw [slot_put_ne a _ (fun e => hk (by rw [e]; decide))]; exact h.rest k hk
  case new =>
    exact fun _ => hsl'

theorem J8.s10 (h : J8 w8 T tab hsl t9 hdr img tot d a w)  : J8 w8 T tab hsl t9 hdr img tot (upd d 10) (a.put (some 53) (.agg flt0)) w := by
  have hsl' : slot (a.put (some 53) (.agg flt0)) 53 = (.agg flt0) := slot_put_self a _ (by rw [h.size]; decide)
  refine ⟨h.defs, by rw [size_put]; exact h.size, fun k hk => ?_, h.below,
    fun hd hq => by
      have t := h.f0 (by simpa [upd] using hd) (by simpa [upd] using hq)
      rw [slot_put_ne a _ (show 44 ≠ 53 by decide)]
      exact t,
    fun hd => by rw [slot_put_ne a _ (show 45 ≠ 53 by decide)]; exact h.f1 (by simpa [upd] using hd),
    fun hd hq => by
      have t := h.f2 (by simpa [upd] using hd) (by simpa [upd] using hq)
      rw [slot_put_ne a _ (show 46 ≠ 53 by decide)]
      exact t,
    fun hd => by rw [slot_put_ne a _ (show 47 ≠ 53 by decide)]; exact h.f3 (by simpa [upd] using hd),
    fun hd => by rw [slot_put_ne a _ (show 48 ≠ 53 by decide)]; exact h.f4 (by simpa [upd] using hd),
    fun hd => by rw [slot_put_ne a _ (show 49 ≠ 53 by decide)]; exact h.f5 (by simpa [upd] using hd),
    fun hd hq => by
      have t := h.f6 (by simpa [upd] using hd) (by simpa [upd] using hq)
      rw [slot_put_ne a _ (show 50 ≠ 53 by decide)]
      exact t,
    fun hd => by rw [slot_put_ne a _ (show 51 ≠ 53 by decide)]; exact h.f7 (by simpa [upd] using hd),
    fun hd => by rw [slot_put_ne a _ (show 43 ≠ 53 by decide)]; exact h.f8 (by simpa [upd] using hd),
    fun hd => by rw [slot_put_ne a _ (show 52 ≠ 53 by decide)]; exact h.f9 (by simpa [upd] using hd),
    ?new,
    fun hd => by
      obtain ⟨g, e1, e2, e3⟩ := h.f11 (by simpa [upd] using hd)
      rw [slot_put_ne a _ (show 13 ≠ 53 by decide)]
      rw [show upd d 10 13 = d 13 from by simp [upd]]
      exact ⟨g, e1, e2, e3⟩,
    fun hd => by
      obtain ⟨g, e1, e2, e3⟩ := h.f12 (by simpa [upd] using hd)
      rw [slot_put_ne a _ (show 14 ≠ 53 by decide)]
      exact ⟨g, e1, e2, e3⟩⟩
  · rw [slot_put_ne a _ (fun e => hk (by rw [e]; decide))]; exact h.rest k hk
  case new =>
    exact fun _ => hsl'

theorem J8.s0 (h : J8 w8 T tab hsl t9 hdr img tot d a w)  : J8 w8 T tab hsl t9 hdr img tot (upd d 0) (a.put (some 44) (.slice (some ⟨w.heap.size, 0, none⟩) 0 0)) (w.alloc (.cells #[] 5)) := by
  have hsl' : slot (a.put (some 44) (.slice (some ⟨w.heap.size, 0, none⟩) 0 0)) 44 = (.slice (some ⟨w.heap.size, 0, none⟩) 0 0) := slot_put_self a _ (by rw [h.size]; decide)
  refine ⟨h.defs, by rw [size_put]; exact h.size, fun k hk => ?_, h.below.alloc h.below.size _,
    ?new,
    fun hd => by rw [slot_put_ne a _ (show 45 ≠ 44 by decide)]; exact h.f1 (by simpa [upd] using hd),
    fun hd hq => by
      have t := h.f2 (by simpa [upd] using hd) (by simpa [upd] using hq)
      rw [slot_put_ne a _ (show 46 ≠ 44 by decide)]
      exact t.alloc _,
    fun hd => by rw [slot_put_ne a _ (show 47 ≠ 44 by decide)]; exact h.f3 (by simpa [upd] using hd),
    fun hd => by rw [slot_put_ne a _ (show 48 ≠ 44 by decide)]; exact h.f4 (by simpa [upd] using hd),
    fun hd => by rw [slot_put_ne a _ (show 49 ≠ 44 by decide)]; exact h.f5 (by simpa [upd] using hd),
    fun hd hq => by
      have t := h.f6 (by simpa [upd] using hd) (by simpa [upd] using hq)
      rw [slot_put_ne a _ (show 50 ≠ 44 by decide)]
      exact t.alloc _,
    fun hd => by rw [slot_put_ne a _ (show 51 ≠ 44 by decide)]; exact h.f7 (by simpa [upd] using hd),
    fun hd => by rw [slot_put_ne a _ (show 43 ≠ 44 by decide)]; exact h.f8 (by simpa [upd] using hd),
    fun hd => by rw [slot_put_ne a _ (show 52 ≠ 44 by decide)]; exact h.f9 (by simpa [upd] using hd),
    fun hd => by rw [slot_put_ne a _ (show 53 ≠ 44 by decide)]; exact h.f10 (by simpa [upd] using hd),
    fun hd => by
      obtain ⟨g, e1, e2, e3⟩ := h.f11 (by simpa [upd] using hd)
      rw [slot_put_ne a _ (show 13 ≠ 44 by decide)]
      rw [show upd d 0 13 = d 13 from by simp [upd]]
      exact ⟨g, e1, e2, (Below.heap_alloc _ _ _ (lt_of_block e3)).trans e3⟩,
    fun hd => by
      obtain ⟨g, e1, e2, e3⟩ := h.f12 (by simpa [upd] using hd)
      rw [slot_put_ne a _ (show 14 ≠ 44 by decide)]
      exact ⟨g, e1, e2, (Below.heap_alloc _ _ _ (lt_of_block e3)).trans e3⟩⟩
  · rw [slot_put_ne a _ (fun e => hk (by rw [e]; decide))]; exact h.rest k hk
  case new =>
    intro _ _
    rw [hsl']
    exact World.ownsRow_made w #[] 0 h.below.size (by decide) rfl

theorem J8.s2 (h : J8 w8 T tab hsl t9 hdr img tot d a w) {v' : Value} {w' : World} (hdi : d 2 = false) (cl6 : d 6 = true → d 2 = true) (ho : w.ownsRow w8.heap.size 5 1 (slot a 44) 0 []) (hg : w.grownBy w' (slot a 44).ownBlock) (hn : w'.ownsRow w8.heap.size 5 1 v' hdr.length hdr) : J8 w8 T tab hsl t9 hdr img tot (upd d 2) (a.put (some 46) v') w' := by
  have hsl' : slot (a.put (some 46) v') 46 = v' := slot_put_self a _ (by rw [h.size]; decide)
  refine ⟨h.defs, by rw [size_put]; exact h.size, fun k hk => ?_, h.below.grown hg h.below.size (fun g e => (ho.lt g e).1),
    fun _ hq => absurd hq (by simp [upd]),
    fun hd => by rw [slot_put_ne a _ (show 45 ≠ 46 by decide)]; exact h.f1 (by simpa [upd] using hd),
    ?new,
    fun hd => by rw [slot_put_ne a _ (show 47 ≠ 46 by decide)]; exact h.f3 (by simpa [upd] using hd),
    fun hd => by rw [slot_put_ne a _ (show 48 ≠ 46 by decide)]; exact h.f4 (by simpa [upd] using hd),
    fun hd => by rw [slot_put_ne a _ (show 49 ≠ 46 by decide)]; exact h.f5 (by simpa [upd] using hd),
    fun hd _ => absurd (cl6 (by simpa [upd] using hd)) (by simp [hdi]),
    fun hd => by rw [slot_put_ne a _ (show 51 ≠ 46 by decide)]; exact h.f7 (by simpa [upd] using hd),
    fun hd => by rw [slot_put_ne a _ (show 43 ≠ 46 by decide)]; exact h.f8 (by simpa [upd] using hd),
    fun hd => by rw [slot_put_ne a _ (show 52 ≠ 46 by decide)]; exact h.f9 (by simpa [upd] using hd),
    fun hd => by rw [slot_put_ne a _ (show 53 ≠ 46 by decide)]; exact h.f10 (by simpa [upd] using hd),
    fun hd => by
      obtain ⟨g, e1, e2, e3⟩ := h.f11 (by simpa [upd] using hd)
      rw [slot_put_ne a _ (show 13 ≠ 46 by decide)]
      rw [show upd d 2 13 = d 13 from by simp [upd]]
      exact ⟨g, e1, e2, (hg.block _ (lt_of_block e3) (row_not_own e3 (by decide) ho)).trans e3⟩,
    fun hd => by
      obtain ⟨g, e1, e2, e3⟩ := h.f12 (by simpa [upd] using hd)
      rw [slot_put_ne a _ (show 14 ≠ 46 by decide)]
      exact ⟨g, e1, e2, (hg.block _ (lt_of_block e3) (row_not_own e3 (by decide) ho)).trans e3⟩⟩
  · rw [slot_put_ne a _ (fun e => hk (by rw [e]; decide))]; exact h.rest k hk
  case new =>
    intro _ _
    rw [hsl']
    exact hn

theorem J8.s6 (h : J8 w8 T tab hsl t9 hdr img tot d a w) {v' : Value} {w' : World} (dp : d 2 = true) (ho : w.ownsRow w8.heap.size 5 1 (slot a 46) hdr.length hdr) (hg : w.grownBy w' (slot a 46).ownBlock) (hn : w'.ownsRow w8.heap.size 5 1 v' img.length img) : J8 w8 T tab hsl t9 hdr img tot (upd d 6) (a.put (some 50) v') w' := by
  have hsl' : slot (a.put (some 50) v') 50 = v' := slot_put_self a _ (by rw [h.size]; decide)
  refine ⟨h.defs, by rw [size_put]; exact h.size, fun k hk => ?_, h.below.grown hg h.below.size (fun g e => (ho.lt g e).1),
    fun _ hq => absurd hq (by simp [upd, dp]),
    fun hd => by rw [slot_put_ne a _ (show 45 ≠ 50 by decide)]; exact h.f1 (by simpa [upd] using hd),
    fun _ hq => absurd hq (by simp [upd]),
    fun hd => by rw [slot_put_ne a _ (show 47 ≠ 50 by decide)]; exact h.f3 (by simpa [upd] using hd),
    fun hd => by rw [slot_put_ne a _ (show 48 ≠ 50 by decide)]; exact h.f4 (by simpa [upd] using hd),
    fun hd => by rw [slot_put_ne a _ (show 49 ≠ 50 by decide)]; exact h.f5 (by simpa [upd] using hd),
    ?new,
    fun hd => by rw [slot_put_ne a _ (show 51 ≠ 50 by decide)]; exact h.f7 (by simpa [upd] using hd),
    fun hd => by rw [slot_put_ne a _ (show 43 ≠ 50 by decide)]; exact h.f8 (by simpa [upd] using hd),
    fun hd => by rw [slot_put_ne a _ (show 52 ≠ 50 by decide)]; exact h.f9 (by simpa [upd] using hd),
    fun hd => by rw [slot_put_ne a _ (show 53 ≠ 50 by decide)]; exact h.f10 (by simpa [upd] using hd),
    fun hd => by
      obtain ⟨g, e1, e2, e3⟩ := h.f11 (by simpa [upd] using hd)
      rw [slot_put_ne a _ (show 13 ≠ 50 by decide)]
      rw [show upd d 6 13 = d 13 from by simp [upd]]
      exact ⟨g, e1, e2, (hg.block _ (lt_of_block e3) (row_not_own e3 (by decide) ho)).trans e3⟩,
    fun hd => by
      obtain ⟨g, e1, e2, e3⟩ := h.f12 (by simpa [upd] using hd)
      rw [slot_put_ne a _ (show 14 ≠ 50 by decide)]
      exact ⟨g, e1, e2, (hg.block _ (lt_of_block e3) (row_not_own e3 (by decide) ho)).trans e3⟩⟩
  · rw [slot_put_ne a _ (fun e => hk (by rw [e]; decide))]; exact h.rest k hk
  case new =>
    intro _ _
    rw [hsl']
    exact hn

theorem J8.s7 (h : J8 w8 T tab hsl t9 hdr img tot d a w) {w' : World} (hb : Below w.heap.size w w') : J8 w8 T tab hsl t9 hdr img tot (upd d 7) (a.put (some 51) (.tuple #[.agg tab, .agg flt0])) w' := by
  have hsl' : slot (a.put (some 51) (.tuple #[.agg tab, .agg flt0])) 51 = (.tuple #[.agg tab, .agg flt0]) := slot_put_self a _ (by rw [h.size]; decide)
  refine ⟨h.defs, by rw [size_put]; exact h.size, fun k hk => ?_, h.below.trans (hb.mono h.below.size),
    fun hd hq => by
      have t := h.f0 (by simpa [upd] using hd) (by simpa [upd] using hq)
      rw [slot_put_ne a _ (show 44 ≠ 51 by decide)]
      exact own_below t hb,
    fun hd => by rw [slot_put_ne a _ (show 45 ≠ 51 by decide)]; exact h.f1 (by simpa [upd] using hd),
    fun hd hq => by
      have t := h.f2 (by simpa [upd] using hd) (by simpa [upd] using hq)
      rw [slot_put_ne a _ (show 46 ≠ 51 by decide)]
      exact own_below t hb,
    fun hd => by rw [slot_put_ne a _ (show 47 ≠ 51 by decide)]; exact h.f3 (by simpa [upd] using hd),
    fun hd => by rw [slot_put_ne a _ (show 48 ≠ 51 by decide)]; exact h.f4 (by simpa [upd] using hd),
    fun hd => by rw [slot_put_ne a _ (show 49 ≠ 51 by decide)]; exact h.f5 (by simpa [upd] using hd),
    fun _ hq => absurd hq (by simp [upd]),
    ?new,
    fun hd => by rw [slot_put_ne a _ (show 43 ≠ 51 by decide)]; exact h.f8 (by simpa [upd] using hd),
    fun hd => by rw [slot_put_ne a _ (show 52 ≠ 51 by decide)]; exact h.f9 (by simpa [upd] using hd),
    fun hd => by rw [slot_put_ne a _ (show 53 ≠ 51 by decide)]; exact h.f10 (by simpa [upd] using hd),
    fun hd => by
      obtain ⟨g, e1, e2, e3⟩ := h.f11 (by simpa [upd] using hd)
      rw [slot_put_ne a _ (show 13 ≠ 51 by decide)]
      rw [show upd d 7 13 = d 13 from by simp [upd]]
      exact ⟨g, e1, e2, (hb.block _ (lt_of_block e3)).trans e3⟩,
    fun hd => by
      obtain ⟨g, e1, e2, e3⟩ := h.f12 (by simpa [upd] using hd)
      rw [slot_put_ne a _ (show 14 ≠ 51 by decide)]
      exact ⟨g, e1, e2, (hb.block _ (lt_of_block e3)).trans e3⟩⟩
  · rw [slot_put_ne a _ (fun e => hk (by rw [e]; decide))]; exact h.rest k hk
  case new =>
    exact fun _ => hsl'

theorem J8.s11 (h : J8 w8 T tab hsl t9 hdr img tot d a w) (hd13 : d 13 = false) : J8 w8 T tab hsl t9 hdr img tot (upd d 11) (a.put (some 13) (.pointer (some ⟨w.heap.size, 0, none⟩))) (w.alloc (.cells (zeroTab 0) 28)) := by
  have hsl' : slot (a.put (some 13) (.pointer (some ⟨w.heap.size, 0, none⟩))) 13 = (.pointer (some ⟨w.heap.size, 0, none⟩)) := slot_put_self a _ (by rw [h.size]; decide)
  refine ⟨h.defs, by rw [size_put]; exact h.size, fun k hk => ?_, h.below.alloc h.below.size _,
    fun hd hq => by
      have t := h.f0 (by simpa [upd] using hd) (by simpa [upd] using hq)
      rw [slot_put_ne a _ (show 44 ≠ 13 by decide)]
      exact t.alloc _,
    fun hd => by rw [slot_put_ne a _ (show 45 ≠ 13 by decide)]; exact h.f1 (by simpa [upd] using hd),
    fun hd hq => by
      have t := h.f2 (by simpa [upd] using hd) (by simpa [upd] using hq)
      rw [slot_put_ne a _ (show 46 ≠ 13 by decide)]
      exact t.alloc _,
    fun hd => by rw [slot_put_ne a _ (show 47 ≠ 13 by decide)]; exact h.f3 (by simpa [upd] using hd),
    fun hd => by rw [slot_put_ne a _ (show 48 ≠ 13 by decide)]; exact h.f4 (by simpa [upd] using hd),
    fun hd => by rw [slot_put_ne a _ (show 49 ≠ 13 by decide)]; exact h.f5 (by simpa [upd] using hd),
    fun hd hq => by
      have t := h.f6 (by simpa [upd] using hd) (by simpa [upd] using hq)
      rw [slot_put_ne a _ (show 50 ≠ 13 by decide)]
      exact t.alloc _,
    fun hd => by rw [slot_put_ne a _ (show 51 ≠ 13 by decide)]; exact h.f7 (by simpa [upd] using hd),
    fun hd => by rw [slot_put_ne a _ (show 43 ≠ 13 by decide)]; exact h.f8 (by simpa [upd] using hd),
    fun hd => by rw [slot_put_ne a _ (show 52 ≠ 13 by decide)]; exact h.f9 (by simpa [upd] using hd),
    fun hd => by rw [slot_put_ne a _ (show 53 ≠ 13 by decide)]; exact h.f10 (by simpa [upd] using hd),
    ?new,
    fun hd => by
      obtain ⟨g, e1, e2, e3⟩ := h.f12 (by simpa [upd] using hd)
      rw [slot_put_ne a _ (show 14 ≠ 13 by decide)]
      exact ⟨g, e1, e2, (Below.heap_alloc _ _ _ (lt_of_block e3)).trans e3⟩⟩
  · rw [slot_put_ne a _ (fun e => hk (by rw [e]; decide))]; exact h.rest k hk
  case new =>
    intro _
    refine ⟨w.heap.size, hsl', h.below.size, ?_⟩
    rw [show upd d 11 13 = d 13 from by simp [upd], hd13]
    exact alloc_at rfl

theorem J8.s12 (h : J8 w8 T tab hsl t9 hdr img tot d a w)  : J8 w8 T tab hsl t9 hdr img tot (upd d 12) (a.put (some 14) (.pointer (some ⟨w.heap.size, 0, none⟩))) (w.alloc (.cells flt0 58)) := by
  have hsl' : slot (a.put (some 14) (.pointer (some ⟨w.heap.size, 0, none⟩))) 14 = (.pointer (some ⟨w.heap.size, 0, none⟩)) := slot_put_self a _ (by rw [h.size]; decide)
  refine ⟨h.defs, by rw [size_put]; exact h.size, fun k hk => ?_, h.below.alloc h.below.size _,
    fun hd hq => by
      have t := h.f0 (by simpa [upd] using hd) (by simpa [upd] using hq)
      rw [slot_put_ne a _ (show 44 ≠ 14 by decide)]
      exact t.alloc _,
    fun hd => by rw [slot_put_ne a _ (show 45 ≠ 14 by decide)]; exact h.f1 (by simpa [upd] using hd),
    fun hd hq => by
      have t := h.f2 (by simpa [upd] using hd) (by simpa [upd] using hq)
      rw [slot_put_ne a _ (show 46 ≠ 14 by decide)]
      exact t.alloc _,
    fun hd => by rw [slot_put_ne a _ (show 47 ≠ 14 by decide)]; exact h.f3 (by simpa [upd] using hd),
    fun hd => by rw [slot_put_ne a _ (show 48 ≠ 14 by decide)]; exact h.f4 (by simpa [upd] using hd),
    fun hd => by rw [slot_put_ne a _ (show 49 ≠ 14 by decide)]; exact h.f5 (by simpa [upd] using hd),
    fun hd hq => by
      have t := h.f6 (by simpa [upd] using hd) (by simpa [upd] using hq)
      rw [slot_put_ne a _ (show 50 ≠ 14 by decide)]
      exact t.alloc _,
    fun hd => by rw [slot_put_ne a _ (show 51 ≠ 14 by decide)]; exact h.f7 (by simpa [upd] using hd),
    fun hd => by rw [slot_put_ne a _ (show 43 ≠ 14 by decide)]; exact h.f8 (by simpa [upd] using hd),
    fun hd => by rw [slot_put_ne a _ (show 52 ≠ 14 by decide)]; exact h.f9 (by simpa [upd] using hd),
    fun hd => by rw [slot_put_ne a _ (show 53 ≠ 14 by decide)]; exact h.f10 (by simpa [upd] using hd),
    fun hd => by
      obtain ⟨g, e1, e2, e3⟩ := h.f11 (by simpa [upd] using hd)
      rw [slot_put_ne a _ (show 13 ≠ 14 by decide)]
      rw [show upd d 12 13 = d 13 from by simp [upd]]
      exact ⟨g, e1, e2, (Below.heap_alloc _ _ _ (lt_of_block e3)).trans e3⟩,
    ?new⟩
  · rw [slot_put_ne a _ (fun e => hk (by rw [e]; decide))]; exact h.rest k hk
  case new =>
    intro _
    exact ⟨w.heap.size, hsl', h.below.size, alloc_at rfl⟩

theorem J8.s13 (h : J8 w8 T tab hsl t9 hdr img tot d a w) {g : Nat} {old : Array Value} (dp2 : d 2 = true) (dp6 : d 6 = true) (dp7 : d 7 = true) (hp : slot a 13 = .pointer (some ⟨g, 0, none⟩)) (hle : w8.heap.size ≤ g) (hg : w.heap[g]? = some (.cells old 28 (0, 0))) (NE : ∀ {k cs}, w.heap[k]? = some (.cells cs 58 (0, 0)) → k ≠ g) : J8 w8 T tab hsl t9 hdr img tot (upd d 13) a (w.setRow g tab) := by
  refine ⟨h.defs, h.size, fun k hk => ?_, below_setRow h.below hle _,
    fun _ hq => absurd hq (by simp [upd, dp2]),
    fun hd => by exact h.f1 (by simpa [upd] using hd),
    fun _ hq => absurd hq (by simp [upd, dp6]),
    fun hd => by exact h.f3 (by simpa [upd] using hd),
    fun hd => by exact h.f4 (by simpa [upd] using hd),
    fun hd => by exact h.f5 (by simpa [upd] using hd),
    fun _ hq => absurd hq (by simp [upd, dp7]),
    fun hd => by exact h.f7 (by simpa [upd] using hd),
    fun hd => by exact h.f8 (by simpa [upd] using hd),
    fun hd => by exact h.f9 (by simpa [upd] using hd),
    fun hd => by exact h.f10 (by simpa [upd] using hd),
    ?new,
    fun hd => by
      obtain ⟨g, e1, e2, e3⟩ := h.f12 (by simpa [upd] using hd)
      exact ⟨g, e1, e2, (setRow_other _ _ _ _ (fun e => NE e3 e)).trans e3⟩⟩
  · exact h.rest k hk
  case new =>
    intro _
    exact ⟨g, hp, hle, by rw [show upd d 13 13 = true from by simp [upd]]; exact setRow_heap _ _ _ _ _ _ hg⟩

theorem J8.s14 (h : J8 w8 T tab hsl t9 hdr img tot d a w) {g : Nat} (dp2 : d 2 = true) (dp6 : d 6 = true) (dp7 : d 7 = true) (hp : slot a 14 = .pointer (some ⟨g, 0, none⟩)) (hle : w8.heap.size ≤ g) (hg : w.heap[g]? = some (.cells flt0 58 (0, 0))) (NE : ∀ {k cs}, w.heap[k]? = some (.cells cs 28 (0, 0)) → k ≠ g) : J8 w8 T tab hsl t9 hdr img tot (upd d 14) a (w.setRow g flt0) := by
  refine ⟨h.defs, h.size, fun k hk => h.rest k hk, below_setRow h.below hle _,
    fun _ hq => absurd hq (by simp [upd, dp2]),
    fun hd => by exact h.f1 (by simpa [upd] using hd),
    fun _ hq => absurd hq (by simp [upd, dp6]),
    fun hd => by exact h.f3 (by simpa [upd] using hd),
    fun hd => by exact h.f4 (by simpa [upd] using hd),
    fun hd => by exact h.f5 (by simpa [upd] using hd),
    fun _ hq => absurd hq (by simp [upd, dp7]),
    fun hd => by exact h.f7 (by simpa [upd] using hd),
    fun hd => by exact h.f8 (by simpa [upd] using hd),
    fun hd => by exact h.f9 (by simpa [upd] using hd),
    fun hd => by exact h.f10 (by simpa [upd] using hd),
    fun hd => by
      obtain ⟨g, e1, e2, e3⟩ := h.f11 (by simpa [upd] using hd)
      rw [show upd d 14 13 = d 13 from by simp [upd]]
      exact ⟨g, e1, e2, (setRow_other _ _ _ _ (fun e => NE e3 e)).trans e3⟩,
    ?new⟩
  case new =>
    intro _
    exact ⟨g, hp, hle, setRow_heap _ _ _ _ _ _ hg⟩

end steps
end Go.Proofs.Ythmenbehpblljaa
