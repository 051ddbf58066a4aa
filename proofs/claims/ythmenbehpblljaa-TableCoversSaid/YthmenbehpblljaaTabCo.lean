/-
  The law TableCovers: the plain part.
-/
import Derived.Test.YthmenbehpblljaaTabG
namespace Go.Proofs.Ythmenbehpblljaa
open Go.RowKit Go.Shelf

def sumTo (c : Nat → Nat) : Nat → Nat
  | 0 => 0
  | k + 1 => sumTo c k + c (k + 1) * secSize (k + 1)
theorem sumTo_le (c : Nat → Nat) (hc : ∀ s, c s ≤ 1024) (k : Nat) : sumTo c k ≤ k * 57344 := by
  induction k with
  | zero => simp [sumTo]
  | succ k ih =>
    have h2 : c (k + 1) * secSize (k + 1) ≤ 1024 * 56 := Nat.mul_le_mul (hc _) (secSize_le _)
    simp only [sumTo]
    omega
def gapSum (L : List (Nat × Nat)) : Nat := (L.map fun g => g.2).sum
theorem gapSum_append (a b : List (Nat × Nat)) : gapSum (a ++ b) = gapSum a + gapSum b := by simp [gapSum]
theorem gapSum_gapOf (c : Nat → Nat) (s : Nat) : gapSum (gapOf c s) = nextOf c s - endOf c s := by
  unfold gapOf
  split
  · simp [gapSum]
  · simp [gapSum]; omega
theorem gaps_total (c : Nat → Nat) (k : Nat) (hk : k ≤ 6) : 80 + sumTo c k + gapSum (gapsOf c (secUpto k)) = nextOf c k := by
  induction k with
  | zero => rfl
  | succ k ih =>
    have ih := ih (by omega)
    have h1 := nextOf_step c k
    rw [secUpto_succ k (by omega), gapsOf_snoc, gapSum_append, gapSum_gapOf c (k + 1)]
    simp only [sumTo]
    have : endOf c (k + 1) = nextOf c k + c (k + 1) * secSize (k + 1) := rfl
    omega

theorem gap_mem (c : Nat → Nat) (g : Nat × Nat) (h : g ∈ gapsOf c (secUpto 6)) : ∃ s, 1 ≤ s ∧ s ≤ 6 ∧ endOf c s < nextOf c s ∧ g = (endOf c s, nextOf c s - endOf c s) := by
  unfold gapsOf at h
  obtain ⟨x, _, hx⟩ := List.mem_flatMap.1 h
  unfold gapOf at hx
  split at hx
  · rename_i hq
    simp at hx
    exact ⟨x.1, x.2.1, x.2.2, hq, hx⟩
  · simp at hx

theorem gap_ok (c : Nat → Nat) (g : Nat × Nat) (h : g ∈ gapsOf c (secUpto 6)) :
    80 ≤ g.1 ∧ 1 ≤ g.2 ∧ g.2 ≤ 15 ∧ (g.1 + g.2) % 16 = 0 ∧ g.1 + g.2 ≤ nextOf c 6 ∧ ∀ p : Nat, g.1 ≤ p → p < g.1 + g.2 → SecIs c (p : Int) (-1) (-1) := by
  obtain ⟨s, h1, h2, h3, rfl⟩ := gap_mem c g h
  have hA := alignUp_endOf c s h1
  have hle := alignUp_le (endOf c s)
  rw [hA] at hle
  have h80 := nextOf_ge c (s - 1)
  have hm := nextOf_mono c h2
  have hE : endOf c s = nextOf c (s - 1) + c s * secSize s := rfl
  have hmod : nextOf c s % 16 = 0 := by rw [← hA]; unfold alignUp; omega
  refine ⟨by simp only; omega, by simp only; omega, by simp only; omega, ?_, by simp only; omega, fun p hp1 hp2 => ?_⟩
  · simp only; rw [show endOf c s + (nextOf c s - endOf c s) = nextOf c s from by omega]; exact hmod
  · simp only at hp1 hp2
    refine .inr (.inr (.inr ⟨p, rfl, by omega, by omega, .inr ⟨fun t ht1 ht2 hin => ?_, rfl, rfl⟩⟩))
    rcases Nat.lt_trichotomy t s with q | rfl | q
    · have e1 := end_le c t ht1
      have e2 := nextOf_mono c (show t ≤ s - 1 by omega)
      have := hin.2
      omega
    · have := hin.2
      omega
    · have e2 := nextOf_mono c (show s ≤ t - 1 by omega)
      have := hin.1
      omega

theorem gaps_sorted (c : Nat → Nat) : List.Pairwise (fun g h : Nat × Nat => g.1 + g.2 ≤ h.1) (gapsOf c (secUpto 6)) := by
  unfold gapsOf
  rw [List.pairwise_flatMap]
  constructor
  · intro x _
    unfold gapOf
    split <;> simp
  · have hP : List.Pairwise (fun a b : Sec => a.1 < b.1) (secUpto 6) := by decide
    refine hP.imp fun {a b} hab g hg h hh => ?_
    unfold gapOf at hg hh
    split at hg
    · split at hh
      · simp at hg hh
        subst hg hh
        have e := nextOf_mono c (show a.1 ≤ b.1 - 1 by omega)
        have hE : endOf c b.1 = nextOf c (b.1 - 1) + c b.1 * secSize b.1 := rfl
        simp only
        omega
      · simp at hh
    · simp at hg

/-- The end behind the first k gaps. -/
def endT (G : List (Nat × Nat)) : Nat → Nat
  | 0 => 80
  | k + 1 => match G[k]? with | some g => g.1 + g.2 | none => 0
theorem endT_le (c : Nat → Nat) (k : Nat) (g : Nat × Nat) (h : (gapsOf c (secUpto 6))[k]? = some g) : endT (gapsOf c (secUpto 6)) k ≤ g.1 := by
  cases k with
  | zero => exact (gap_ok c g (List.mem_of_getElem? h)).1
  | succ k =>
    obtain ⟨hk, hg⟩ := List.getElem?_eq_some_iff.1 h
    have := (List.pairwise_iff_getElem.1 (gaps_sorted c)) k (k + 1) (by omega) hk (by omega)
    rw [hg] at this
    simp only [endT]
    rw [List.getElem?_eq_getElem (by omega)]
    exact this
theorem gapSum_take (G : List (Nat × Nat)) (k : Nat) (g : Nat × Nat) (h : G[k]? = some g) : gapSum (G.take (k + 1)) = gapSum (G.take k) + g.2 := by
  rw [List.take_add_one, h, gapSum_append]
  simp [gapSum]
theorem gapSum_take_le (G : List (Nat × Nat)) (k : Nat) : gapSum (G.take k) ≤ gapSum G := by
  conv => rhs; rw [← List.take_append_drop k G, gapSum_append]
  omega
theorem pairCells_at (G : List (Nat × Nat)) (k : Nat) (g : Nat × Nat) (h : G[k]? = some g) : (pairCells G)[k * 2]? = some (.int .i64 (g.1 : Int)) ∧ (pairCells G)[k * 2 + 1]? = some (.int .i64 (g.2 : Int)) := by
  induction G generalizing k with
  | nil => simp at h
  | cons x G ih =>
    cases k with
    | zero => simp at h; subst h; exact ⟨rfl, rfl⟩
    | succ k =>
      have := ih k (by simpa using h)
      rw [show (k + 1) * 2 = k * 2 + 2 from by omega]
      exact this
end Go.Proofs.Ythmenbehpblljaa
