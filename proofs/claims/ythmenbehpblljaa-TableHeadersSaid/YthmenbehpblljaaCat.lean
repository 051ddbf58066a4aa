/-
  slices.Concat and slices.Grow at bytes.
-/
import Derived.Test.YthmenbehpblljaaBufL
namespace Go.Proofs.Ythmenbehpblljaa
open Go.RowKit

theorem ownsRow_shrink {w : World} {n₀ n c m : Nat} {e : TypeId} {a : Option Addr} {xs : List Value} (h : w.ownsRow n₀ e 1 (.slice a n c) n xs) (hm : m ≤ n) : w.ownsRow n₀ e 1 (.slice a m c) m (xs.take m) := by
  obtain ⟨hl, h2⟩ := h
  rcases h2 with ⟨hv, h0⟩ | ⟨g, cap, cur, hv, hg, hh, hn, hc, hcs, ht⟩
  · have e1 : m = 0 := by omega
    subst e1
    have e2 : a = none ∧ n = 0 ∧ c = 0 := by simpa using hv
    obtain ⟨rfl, _, rfl⟩ := e2
    exact ⟨by simp, .inl ⟨rfl, rfl⟩⟩
  · have e2 : a = some ⟨g, 0, none⟩ ∧ c = cap := by simpa using hv
    obtain ⟨rfl, rfl⟩ := e2
    refine ⟨by simp; omega, .inr ⟨g, c, cur, rfl, hg, hh, by omega, hc, hcs, ?_⟩⟩
    rw [← ht, List.take_take]
    congr 1
    omega

def RetRow0 (n₀ : Nat) (w : World) (e : Ending) (w' : World) : Prop :=
  ∃ a c, e = .returned (.slice a 0 c) ∧ w'.ownsRow n₀ 5 1 (.slice a 0 c) 0 [] ∧ Below n₀ w w'

set_option maxHeartbeats 1000000 in
set_option maxRecDepth 100000 in
theorem grow_nil (n₀ : Nat) (n : Int) (w : World) (hn0 : n₀ ≤ w.heap.size) (h0 : 0 ≤ n) (h1 : n ≤ 1000000000) :
    Calls Try.prog 54 #[.slice none 0 0, .int .i64 n] w (RetRow0 n₀ w) := by
  obtain ⟨i0, hi, hz0, hz1, hz2⟩ := info_parts infoU8
  by_cases hp : 0 < n
  · obtain ⟨N, hN⟩ : ∃ N : Nat, n = (N : Int) := Int.eq_ofNat_of_zero_le h0
    have hb : (0 + N) * 1 ≤ 140737488355328 := by omega
    have HN := Lib.hid hN; have HB := Lib.hid hb
    clear hN hb
    go_enter Try.func54, Try.ntmps54
    go_wp2_with (at_builtin; go_loud (refine wpList_append_zeros_own rfl _ _ 53 3 rfl n₀ 5 i0 (.int .u8 0) 1 Try.underlying53 Try.underlying3 hi hz0 hz1 hz2 rfl rfl (by decide) _ 0 [] rfl (World.ownsRow_nil _ _ _ _) .i64 N n rfl HN.out HB.out hn0 ?_); intro v' w1 hown' hgrow hat; obtain ⟨a2, c2, rfl⟩ := ownsRow_slice hown'; have HC := Lib.hid (ownsRow_cap hown'); have HW := Lib.hid hgrow; have HO := Lib.hid hown'; clear hgrow hown' hat)
    go_ret
    have hsh := ownsRow_shrink HO.out (Nat.zero_le _)
    exact ⟨a2, c2, rfl, by simpa using hsh, (Below.refl n₀ w).grown HW.out hn0 (fun k hk => by cases hk)⟩
  · obtain rfl : n = 0 := by omega
    go_enter Try.func54, Try.ntmps54
    go_wp2
    go_ret
    exact ⟨none, 0, rfl, World.ownsRow_nil _ _ _ _, Below.refl _ _⟩

/-- The parts that Concat is handed: of each its address, its capacity and its cells. -/
abbrev Part := Option Addr × Nat × List Value
def partsLen (ps : List Part) : Nat := (ps.map fun p => p.2.2.length).sum
def partsAll (ps : List Part) : List Value := ps.flatMap fun p => p.2.2
theorem partsLen_take (ps : List Part) (k : Nat) : partsLen (ps.take k) ≤ partsLen ps := by
  unfold partsLen
  conv => rhs; rw [← List.take_append_drop k ps]
  rw [List.map_append, List.sum_append]
  omega
theorem partsAll_len (ps : List Part) : (partsAll ps).length = partsLen ps := by
  unfold partsAll partsLen
  rw [List.length_flatMap]
theorem partsLen_succ (ps : List Part) (k : Nat) (h : k < ps.length) : partsLen (ps.take (k + 1)) = partsLen (ps.take k) + (ps[k]).2.2.length := by
  unfold partsLen
  rw [List.take_succ_eq_append_getElem h, List.map_append, List.sum_append]
  simp only [List.map_cons, List.map_nil, List.sum_cons, List.sum_nil, Nat.add_zero]
theorem partsAll_succ (ps : List Part) (k : Nat) (h : k < ps.length) : partsAll (ps.take (k + 1)) = partsAll (ps.take k) ++ (ps[k]).2.2 := by
  unfold partsAll
  rw [List.take_succ_eq_append_getElem h, List.flatMap_append]
  simp only [List.flatMap_cons, List.flatMap_nil, List.append_nil]

/-- What lies before a block number stays readable. -/
theorem Src.below {w w1 : World} {a : Option Addr} {xs : List Value} (h : Src w a xs) (hb : Below w.heap.size w w1) : Src w1 a xs := by
  obtain ⟨h0, h1, h2⟩ := h
  refine ⟨h0, h1, fun ad had j u hu => ?_⟩
  have hc := h2 ad had j u hu
  exact (hb.cell (block_lt_of_cell hc)).trans hc

set_option maxHeartbeats 2000000 in
set_option maxRecDepth 100000 in
theorem concat_any (pb po pc : Nat) (ps : List Part) (w : World) (hp : ∀ i (h : i < ps.length), w.cell? ⟨pb, po + i, none⟩ = some (.slice ps[i].1 ps[i].2.2.length ps[i].2.1)) (hs : ∀ i (h : i < ps.length), Src w ps[i].1 ps[i].2.2 ∧ (ps[i].1 = none → ps[i].2.1 = 0)) (hl : partsLen ps ≤ 100000000) (hn : ps.length ≤ 1000000) :
    Calls Try.prog 30 #[.slice (some ⟨pb, po, none⟩) ps.length pc] w (RetRow w.heap.size (partsAll ps) w) := by
  obtain ⟨i0, hi, hz0, hz1, hz2⟩ := info_parts infoU8
  have HP := Lib.hid hp; have HS := Lib.hid hs; have HL := Lib.hid hl
  clear hp hs hl
  go_enter Try.func30, Try.ntmps30
  go_wp2
  go_loop [3, 11] (fun s i => ∃ k : Nat, k ≤ ps.length ∧ i = .int .i64 k ∧ s = .int .i64 (partsLen (ps.take k))) (fun _ i => ps.length - (intOf i).toNat)
  case atStart => exact ⟨0, by omega, rfl, rfl⟩
  case round =>
    obtain ⟨k, hk, rfl, rfl⟩ := hrel
    by_cases hlt : k < ps.length
    · have hc := HP.out k hlt
      have hstep := partsLen_succ ps k hlt
      have hb1 := partsLen_take ps k
      have hb2 := partsLen_take ps (k + 1)
      have hb3 := HL.out
      obtain ⟨n, hn1⟩ : ∃ n, n = (ps[k]).2.2.length := ⟨_, rfl⟩
      rw [← hn1] at hc hstep
      have hb4 : n ≤ 100000000 := by omega
      have hb5 : partsLen (ps.take k) ≤ 100000000 := by omega
      obtain ⟨pa, hpa⟩ : ∃ pa, pa = (ps[k]).1 := ⟨_, rfl⟩
      obtain ⟨pcc, hpc⟩ : ∃ pc, pc = (ps[k]).2.1 := ⟨_, rfl⟩
      rw [← hpa, ← hpc] at hc
      have HST := Lib.hid hstep
      clear hn1 hstep hb1 hb2 hb3 hpa hpc
      go_wp2
      go_round
      case rel => exact ⟨k + 1, by omega, by go_num, by rw [HST.out]; go_num⟩
      case measure => simp [intOf]; omega
    · have hge : ps.length ≤ k := by omega
      have hk2 : k = ps.length := by omega
      have hb3 : partsLen (ps.take k) ≤ 100000000 := Nat.le_trans (partsLen_take ps k) HL.out
      clear hk2
      go_wp2_with (fail)
      refine (grow_nil w.heap.size _ _ (Nat.le_refl _) (by omega) (by omega)).mono ?_
      rintro e w1 ⟨a1, c1, rfl, ho, hb⟩
      have HO := Lib.hid ho; have HB := Lib.hid hb; clear ho hb
      go_wp2_with (fail)
      go_loopw [6, 27] (fun v i wr => ∃ k : Nat, k ≤ ps.length ∧ i = .int .i64 k ∧ ∃ a c, v = .slice a (partsLen (ps.take k)) c ∧ Hid (wr.ownsRow w.heap.size 5 1 (.slice a (partsLen (ps.take k)) c) (partsLen (ps.take k)) (partsAll (ps.take k))) ∧ Hid (Below w.heap.size w wr)) (fun _ i _ => ps.length - (intOf i).toNat)
      case atStart => exact ⟨0, by omega, rfl, a1, c1, rfl, HO, HB⟩
      case round =>
        obtain ⟨k, hk, rfl, a, c, rfl, HO, HB⟩ := hrel
        by_cases hlt : k < ps.length
        · have hc := (HB.out.cell (p := ⟨pb, po + k, none⟩) (block_lt_of_cell (HP.out k hlt))).trans (HP.out k hlt)
          have hs := (HS.out k hlt).1.below HB.out
          have hs0 := (HS.out k hlt).2
          have hstep := partsLen_succ ps k hlt
          have hstep2 := partsAll_succ ps k hlt
          have hb2 := partsLen_take ps (k + 1)
          have hb3 := HL.out
          obtain ⟨p, hp⟩ : ∃ p, p = ps[k] := ⟨_, rfl⟩
          rw [← hp] at hc hs hs0 hstep hstep2
          obtain ⟨pa, pcap, pxs⟩ := p
          obtain ⟨N, hN⟩ : ∃ N, N = partsLen (ps.take k) := ⟨_, rfl⟩
          rw [← hN] at hstep ⊢
          rw [← hN] at HO
          have hc1 : (N + pxs.length) * 1 ≤ 140737488355328 := by simp at hstep; omega
          have hc3 : N + pxs.length ≤ maxLen := by unfold maxLen; omega
          have hc2 : w.heap.size ≤ wr.heap.size := HB.out.size
          have HC1 := Lib.hid hc1; have HC3 := Lib.hid hc3; have HST := Lib.hid hstep; have HST2 := Lib.hid hstep2; have HSS := Lib.hid hs
          have HNN := Lib.hid hN
          clear hc1 hc3 hstep hstep2 hs hb2 hb3 hp hN
          cases pa with
          | none =>
            obtain rfl : pxs = [] := HSS.out.1 rfl
            obtain rfl : pcap = 0 := hs0 rfl
            clear hs0
            go_wp2_with (at_builtin; go_loud (refine wpList_append_own_none rfl _ _ 53 rfl w.heap.size 5 i0 1 Try.underlying53 hi _ N _ rfl HO.out rfl ?_))
            go_roundw
            case rel => exact ⟨k + 1, by omega, by go_num, a, c, by rw [HST.out]; rfl, by rw [HST.out, HST2.out]; simp only [List.length_nil, Nat.add_zero, List.append_nil]; exact HO, HB⟩
            case measure => simp [intOf]; omega
          | some ad =>
            clear hs0
            go_wp2_with (at_builtin; go_loud (refine wpList_append_own _ rfl _ _ 53 rfl w.heap.size 5 i0 (.int .u8 0) 1 1 Try.underlying53 hi hz0 hz1 hz2 rfl (by decide) _ N _ rfl HO.out ad pxs.length pcap pxs rfl (by simp) (HSS.out.2.2 ad rfl) HSS.out.2.1 HC3.out HC1.out hc2 ?_); intro v' w2 hown' hgrow hnil; obtain ⟨a2, c2, rfl⟩ := ownsRow_slice hown'; have HO2 := Lib.hid hown'; have HB2 := Lib.hid (HB.out.grown hgrow hc2 (fun j hj => (HO.out.lt j hj).1)); clear hown' hgrow hnil)
            go_roundw
            case rel => exact ⟨k + 1, by omega, by go_num, a2, c2, by rw [HST.out], by rw [HST.out, HST2.out]; exact HO2, HB2⟩
            case measure => simp [intOf]; omega
        · have hge2 : ps.length ≤ k := by omega
          go_wp2
          go_ret
          rw [List.take_of_length_le hge2] at HO
          have HO3 := HO.out
          rw [← partsAll_len] at HO3
          exact ⟨a, c, by rw [List.take_of_length_le hge2, partsAll_len]; rfl, HO3, HB.out⟩
end Go.Proofs.Ythmenbehpblljaa
