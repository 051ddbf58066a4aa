/-
  Small laws for the step from a walk to a row: an array of integers by value.
-/
import Derived.ProofKit
import Derived.OpenShut
import Derived.ShutString
import Derived.ChangeOld
import Derived.Below
namespace Go.Proofs.Ythmenbehpblljaa
open Go Go.RowKit Go.ChangeShapes Go.WideShapes

theorem list_of_cells {k : IntKind} : ∀ (cs : List Value), (∀ i, i < cs.length → ∃ z, (cs.drop i).take 1 = [Value.int k z] ∧ (Lit.int k z).wf = true) → ∃ zs : List Int, zs.length = cs.length ∧ cs = zs.map (Value.int k) ∧ ∀ z ∈ zs, (Lit.int k z).wf = true
  | [], _ => ⟨[], rfl, rfl, fun _ h => by cases h⟩
  | c :: cs, h => by
    obtain ⟨z, h0, hz⟩ := h 0 (by simp)
    obtain ⟨zs, h1, h2, h3⟩ := list_of_cells cs (fun i hi => by
      obtain ⟨z, h4, h5⟩ := h (i + 1) (by simp; omega)
      exact ⟨z, by simpa using h4, h5⟩)
    refine ⟨z :: zs, by simp [h1], ?_, fun y hy => ?_⟩
    · simp at h0
      rw [h0, h2]; simp
    · rcases List.mem_cons.1 hy with rfl | hy
      · exact hz
      · exact h3 y hy

/-- An array of integers by value. -/
theorem open_intarray {P : Program} {H : Type} {enc : TypeId × Value → H} {w : World} {base b0 : Nat} {r : Reach} {spare : Nat → Bool} {held : Bool} {t e : TypeId} {n : Nat} {k : IntKind} {v : Value} {d : DataW H} {p : List MemPlace}
    (ht : P.underlying t = some (.array n e)) (he : P.underlying e = some (.int k)) (hce : P.cellsOf e = 1) (hct : P.cellsOf t = n)
    (hv : Value.okWide P w r b0 t v) (h : DataW.Trod enc P w base spare held t v d p) :
    ∃ zs : List Int, zs.length = n ∧ v = .agg (zs.map (Value.int k)).toArray ∧ ∀ z ∈ zs, (Lit.int k z).wf = true := by
  obtain ⟨cs, rfl⟩ : ∃ cs, v = .agg cs := by
    have : ∃ cs, v = .agg cs ∧ cs.size = P.cellsOf t ∧ Row.okWide P w r b0 t cs := by simpa [Value.okWide, ht] using hv
    obtain ⟨cs, h, _⟩ := this
    exact ⟨cs, h⟩
  obtain ⟨fuel, hf⟩ := h
  obtain ⟨xs, m, rfl, ex, hl, hn, hel⟩ := DataW.trod_array ht hf
  have hl2 : cs.toList.length = n := by rw [← hct, ← hl]; simp [Value.cells]
  obtain ⟨zs, h1, h2, h3⟩ := list_of_cells (k := k) cs.toList (fun i hi => by
    have h4 := hel i (by omega)
    rw [hce] at h4
    have h5 : xs[i]? = some (xs[i]'(by omega)) := by simp
    rw [h5] at h4
    obtain ⟨z, h6, _, h7⟩ := DataW.trod_int he h4
    exact ⟨z, by simpa [Value.cells] using h6, h7⟩)
  exact ⟨zs, by omega, by rw [← h2], h3⟩
end Go.Proofs.Ythmenbehpblljaa
