/-
  Package table: the iterator over the sections; the size of a record; the next multiple of sixteen.
-/
import Derived.RangeFuncNested
import Derived.RangeFuncBound
import Derived.RangeFuncCalls
import Derived.RangeFuncLeaves
import Derived.Shelf.Abstract
import Derived.Shelf.RegionOpen
import Derived.WalkKit
import Derived.OwnWalkIn
import Derived.TacticsInMore
import Derived.LoopNIn
import Derived.LoopIn
import Derived.Test.YthmenbehpblljaaProg
import Derived.Test.YthmenbehpblljaaAid
namespace Go.Proofs.Ythmenbehpblljaa
open Go.RowKit Go.Shelf
attribute [local go_sem] Oper.semAt_some

/-- The sections 1 to 6. -/
abbrev Sec := { s : Nat // 1 ≤ s ∧ s ≤ 6 }
abbrev secEncs (x : Sec) : Array Value := #[.int .i64 (x.1 : Int), .int .i64 (32 + 8 * ((x.1 : Int) - 1))]
/-- The first k sections. -/
def secUpto (k : Nat) : List Sec := (List.range k).map fun i => if h : i < 6 then ⟨i + 1, by omega, by omega⟩ else ⟨1, by omega, by omega⟩
theorem secUpto_succ (k : Nat) (h : k < 6) : secUpto (k + 1) = secUpto k ++ [⟨k + 1, by omega, by omega⟩] := by
  simp [secUpto, List.range_succ, h]
theorem secUpto_len (k : Nat) : (secUpto k).length = k := by simp [secUpto]

set_option maxHeartbeats 1000000 in
theorem sections_stops (F : Fence) (n : Nat) (hf : F.fn 55) (hro : F.round = none) (hn : 1 ≤ n) (w : World) :
    SeqStopsK F n Try.prog 55 #[] secEncs KeepsWalks (fun xs => xs = secUpto 6) (fun pre => ∃ k, k ≤ 6 ∧ pre = secUpto k) 6 w := fun l J Jx W hW hJ hJx hY h0 => by
  refine callsIn_of_wp Try.func55 rfl hf ?_ hro
  simp only [Try.ntmps55, List.size_toArray, List.length_cons, List.length_nil, Nat.reduceAdd, Nat.reduceSub, Array.replicate_succ, Array.replicate_zero, List.push_toArray, List.append_toArray, List.nil_append, List.cons_append]
  gi_wp2
  gi_loopw [2] (fun i wr => ∃ k : Nat, k ≤ 6 ∧ i = .int .i64 ((k : Int) + 1) ∧ Hid (J (secUpto k) wr)) (fun i _ => (7 - intOf i).toNat)
  case atStart => exact ⟨0, by omega, rfl, h0⟩
  case round =>
    obtain ⟨k, hk, rfl, HJ⟩ := hrel
    by_cases hlt : k < 6
    · obtain ⟨fn, tmps, assign, body, hy, hR⟩ := hY (secUpto k) ⟨k + 1, by omega, by omega⟩ wr HJ.out (by rw [secUpto_len]; exact hlt)
      dsimp only [secEncs] at hy
      rw [show ((k + 1 : Nat) : Int) - 1 = (k : Int) from by omega, show ((k + 1 : Nat) : Int) = (k : Int) + 1 from by omega] at hy
      gi_wp2
      refine hR.mono ?_
      rintro e W3 (⟨rfl, hJ3, _⟩ | ⟨rfl, hJx3⟩)
      · rw [← secUpto_succ k hlt] at hJ3
        have HJ3 := Lib.hid hJ3; clear hJ3
        gi_wp2
        go_roundw
        case rel => exact ⟨k + 1, by omega, by go_num, HJ3⟩
        case measure => simp [intOf]; omega
      · rw [← secUpto_succ k hlt] at hJx3
        have HJ3 := Lib.hid hJx3; clear hJx3
        gi_wp2
        refine bodyPost_ret (results_none rfl _ _ _) rfl ?_
        exact ⟨⟨_, rfl⟩, .inr ⟨_, ⟨k + 1, by omega, rfl⟩, HJ3.out⟩⟩
    · obtain rfl : k = 6 := by omega
      gi_wp2
      go_end0
      exact ⟨⟨_, rfl⟩, .inl ⟨_, rfl, HJ.out⟩⟩
end Go.Proofs.Ythmenbehpblljaa
