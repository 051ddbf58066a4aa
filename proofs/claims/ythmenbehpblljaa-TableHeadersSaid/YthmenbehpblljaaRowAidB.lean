/-
  Small laws for the step from a walk to a row: bytes that are handed in.
-/
import Derived.Test.YthmenbehpblljaaRowAid
import Derived.Test.YthmenbehpblljaaTabHW
namespace Go.Proofs.Ythmenbehpblljaa
open Go Go.RowKit Go.ChangeShapes Go.WideShapes

/-- A slice of integers of one cell, as it comes in. -/
def IsRow (k : IntKind) (W : World) (a : Option Addr) (len cap : Nat) (zs : List Int) : Prop :=
  (a = none ∧ len = 0 ∧ cap = 0 ∧ zs = []) ∨
  ∃ x, a = some x ∧ len ≤ cap ∧ cap ≤ maxLen ∧ zs.length = cap ∧ (∀ i, i < zs.length → W.cell? (x.add i) = some (.int k (zs.getD i 0))) ∧ ∀ n ∈ zs, (Lit.int k n).wf = true

theorem IsRow.src {W : World} {a : Option Addr} {len cap : Nat} {zs : List Int} (h : IsRow .u8 W a len cap zs) : Src W a ((zs.take len).map (Value.int .u8)) ∧ (zs.take len).length = len ∧ (a = none → cap = 0) := by
  rcases h with ⟨rfl, rfl, rfl, rfl⟩ | ⟨x, rfl, hl, hm, hz, hcell, _⟩
  · exact ⟨⟨fun _ => rfl, fun u hu => by simp at hu, fun ad had => by cases had⟩, rfl, fun _ => rfl⟩
  · refine ⟨⟨(fun h => by cases h), fun u hu => ?_, fun ad had j u hu => ?_⟩, by simp; omega, (fun h => by cases h)⟩
    · obtain ⟨y, _, rfl⟩ := List.mem_map.1 hu
      rfl
    · obtain rfl := Option.some.inj had
      obtain ⟨hj, hu⟩ := List.getElem?_eq_some_iff.1 hu
      have hj2 : j < zs.length := by simp at hj; omega
      rw [hcell j hj2, ← hu]
      simp [List.getD, hj2]

theorem u64_bounds {a : Int} (h : (Lit.int .u64 a).wf = true) : 0 ≤ a ∧ a ≤ 18446744073709551615 := by
  simp [Lit.wf, IntKind.min, IntKind.max, IntKind.bits, IntKind.signed] at h
  omega

theorem headers_list (a0 : Int) (z1 : List Int) (a2 : Option Addr) (len cap : Nat) (zs : List Int) (W : World) (l1 : z1.length = 7) (w0 : (Lit.int .u64 a0).wf = true) (h : IsRow .u8 W a2 len cap zs) :
    Calls Try.prog 7 #[.int .u64 a0, .agg (z1.map (Value.int .i64)).toArray, .slice a2 len cap] W fun e w' => e = .returned (.bool true) ∧ Below W.heap.size W w' := by
  obtain ⟨hs, hl, hc⟩ := h.src
  obtain ⟨b0, b1⟩ := u64_bounds w0
  match z1, l1 with
  | [t0, t1, t2, t3, t4, t5, t6], _ =>
    have := headers_walk (fun s => match s with | 0 => t0 | 1 => t1 | 2 => t2 | 3 => t3 | 4 => t4 | 5 => t5 | _ => t6) a0 a2 cap (zs.take len) W b0 b1 hs hc
    rw [hl] at this
    exact this
end Go.Proofs.Ythmenbehpblljaa
