/-
  The checksum of package crc.
-/
import Derived.Test.YthmenbehpblljaaCrcT
namespace Go.Proofs.Ythmenbehpblljaa
open Go.RowKit

/-- A byte taken into the register. -/
def updB (r : Crc.B32) (c : Nat) : Crc.B32 := (r >>> 8) ^^^ tabE (r.toNat % 256 ^^^ c)
def crcOf (l : List Nat) : Crc.B32 := ~~~ l.foldl updB 0xFFFFFFFF#32

theorem bits_xor_u8 (a b : Nat) (ha : a < 256) (hb : b < 256) : bits .xor .u8 (a : Int) (b : Int) = ((a ^^^ b : Nat) : Int) := by
  have hx : a ^^^ b < 2 ^ 8 := Nat.xor_lt_two_pow (by omega) (by omega)
  have h1 : (BitVec.ofInt 8 (a : Int)).toNat = a := by
    rw [BitVec.ofInt_natCast, BitVec.toNat_ofNat]; exact Nat.mod_eq_of_lt (by omega)
  have h2 : (BitVec.ofInt 8 (b : Int)).toNat = b := by
    rw [BitVec.ofInt_natCast, BitVec.toNat_ofNat]; exact Nat.mod_eq_of_lt (by omega)
  show IntKind.u8.wrap ((BitVec.ofInt 8 (a : Int) ^^^ BitVec.ofInt 8 (b : Int)).toNat : Int) = _
  rw [BitVec.toNat_xor, h1, h2, IntKind.wrap_u8]
  omega

theorem reg_shr8 (r : Crc.B32) : ((r.toNat : Int) / (256 : Int)) = ((r >>> 8).toNat : Int) := by
  rw [BitVec.toNat_ushiftRight, Nat.shiftRight_eq_div_pow]
  omega

/-- Block M is a machine. -/
def IsMachine (M : Nat) (w : World) : Prop := ∃ cs, IsTab cs 256 ∧ w.heap[M]? = some (.cells cs 104 (0, 0))

theorem next_any (M : Nat) (r : Crc.B32) (c : Nat) (w : World) (h : IsMachine M w) (hc : c < 256) :
    Calls Try.prog 59 #[.pointer (some ⟨M, 0, none⟩), reg r, .int .u8 (c : Int)] w fun e w' => e = .returned (reg (updB r c)) ∧ w = w' := by
  obtain ⟨cs, ht, hm⟩ := h
  have h1 := r.isLt
  obtain ⟨X, hX⟩ : ∃ X : Nat, X = r.toNat % 256 ^^^ c := ⟨_, rfl⟩
  have hX2 : X < 256 := by rw [hX]; exact Nat.xor_lt_two_pow (n := 8) (by omega) (by omega)
  have hidx : bits .xor .u8 ((r.toNat : Int) % 256) (c : Int) = (X : Int) := by
    have := bits_xor_u8 (r.toNat % 256) c (by omega) hc
    rw [hX, ← this]
    congr 1
  have hcell : w.cell? ⟨M, X, none⟩ = some (reg (tabE X)) := by rw [cell_of_row _ _ _ _ _ _ hm]; exact ht.2.1 X hX2
  have hval := bits_xor_reg (r >>> 8) (tabE X)
  have hsh := reg_shr8 r
  rw [← hsh] at hval
  have hu : updB r c = (r >>> 8) ^^^ tabE X := by rw [updB, hX]
  rw [hu]
  have HV := Lib.hid hval
  clear hval hX hsh hu hm ht
  go_enter Try.func59, Try.ntmps59
  go_wp2
  go_ret
  exact ⟨congrArg (fun n => Ending.returned (.int .u32 n)) HV.out, rfl⟩

set_option maxHeartbeats 1000000 in
set_option maxRecDepth 100000 in
theorem feed_any (M b o c : Nat) (r : Crc.B32) (l : List Nat) (w : World) (h : IsMachine M w) (hl : ∀ j, l.getD j 0 < 256) (hs : ∀ j, j < l.length → w.cell? ⟨b, o + j, none⟩ = some (.int .u8 ((l.getD j 0 : Nat) : Int))) (hn : l.length ≤ 1000000000) :
    Calls Try.prog 60 #[reg r, .func (.func 59) #[.pointer (some ⟨M, 0, none⟩)] #[], .slice (some ⟨b, o, none⟩) l.length c] w fun e w' => e = .returned (reg (l.foldl updB r)) ∧ w = w' := by
  have HH := Lib.hid h; have HL := Lib.hid hl; have HS := Lib.hid hs
  clear h hl hs
  go_enter Try.func60, Try.ntmps60
  go_wp2
  go_loop [0, 11] (fun s i => ∃ k : Nat, k ≤ l.length ∧ i = .int .i64 k ∧ s = reg ((l.take k).foldl updB r)) (fun _ i => l.length - (intOf i).toNat)
  case atStart => exact ⟨0, by omega, rfl, rfl⟩
  case round =>
    obtain ⟨k, hk, rfl, rfl⟩ := hrel
    by_cases hlt : k < l.length
    · have hc := HS.out k hlt
      have hq := HL.out k
      obtain ⟨q, hqe⟩ : ∃ q, q = l.getD k 0 := ⟨_, rfl⟩
      have hstep : (l.take (k + 1)).foldl updB r = updB ((l.take k).foldl updB r) q := by
        rw [hqe, List.take_succ_eq_append_getElem hlt, List.foldl_append]
        simp [List.getD, hlt]
      rw [← hqe] at hc hq
      have HST := Lib.hid hstep; clear hstep hqe
      go_wp2_with (fail)
      refine (next_any M _ q _ HH.out hq).mono ?_
      rintro e w1 ⟨rfl, rfl⟩
      go_wp2_with (fail)
      go_round
      case rel => exact ⟨k + 1, by omega, by go_num, by rw [HST.out]⟩
      case measure => simp [intOf]; omega
    · have hge : l.length ≤ k := by omega
      go_wp2
      go_ret
      exact ⟨by rw [List.take_of_length_le hge]; rfl, rfl⟩

theorem not_reg (r : Crc.B32) : bits .xor .u32 IntKind.u32.max (r.toNat : Int) = ((~~~ r).toNat : Int) := by
  have h := bits_xor_reg (BitVec.allOnes 32) r
  rw [BitVec.allOnes_xor] at h
  rw [← h]
  congr 1

def RetSum (l : List Nat) (w : World) (e : Ending) (w' : World) : Prop := e = .returned (reg (crcOf l)) ∧ Below w.heap.size w w'

theorem fold_list : ∀ (l : List Value) (k : Nat) (A : Array Value) (j : Nat), ((l.zipIdx k).foldl (fun (a : Array Value) (x : Value × Nat) => a.setIfInBounds x.2 x.1) A)[j]? = if k ≤ j ∧ j < k + l.length ∧ j < A.size then l[j - k]? else A[j]?
  | [], k, A, j => by
    simp
    omega
  | v :: l, k, A, j => by
    rw [List.zipIdx_cons, List.foldl_cons, fold_list l (k + 1) _ j]
    simp only [Array.size_setIfInBounds, List.length_cons]
    by_cases h : k = j
    · subst h
      rw [if_neg (by omega), Array.getElem?_setIfInBounds, if_pos rfl]
      by_cases h2 : k < A.size
      · rw [if_pos h2, if_pos ⟨by omega, by omega, h2⟩]; simp
      · rw [if_neg h2, if_neg (by omega)]; simp; omega
    · rw [Array.getElem?_setIfInBounds, if_neg h]
      by_cases h2 : k + 1 ≤ j ∧ j < k + 1 + l.length ∧ j < A.size
      · rw [if_pos h2, if_pos ⟨by omega, by omega, h2.2.2⟩]
        rw [show j - k = (j - (k + 1)) + 1 by omega]
        simp
      · rw [if_neg h2, if_neg (by omega)]
/-- A struct built of one array: the array. -/
theorem fold_all (Z cs : Array Value) (n : Nat) (hz : Z.size = n) (hc : cs.size = n) : Array.foldl (fun (a : Array Value) (x : Value × Nat) => a.setIfInBounds x.2 x.1) Z cs.zipIdx 0 n = cs := by
  have e : Array.foldl (fun (a : Array Value) (x : Value × Nat) => a.setIfInBounds x.2 x.1) Z cs.zipIdx 0 n = (cs.toList.zipIdx 0).foldl (fun (a : Array Value) (x : Value × Nat) => a.setIfInBounds x.2 x.1) Z := by
    have : n = cs.zipIdx.size := by simp [hc]
    subst this
    rw [← Array.foldl_toList]
    congr 1
    simp
  rw [e]
  apply Array.ext_getElem?
  intro j
  rw [fold_list]
  by_cases h : j < n
  · rw [if_pos ⟨by omega, by simp; omega, by omega⟩]; simp
  · rw [if_neg (by omega), Array.getElem?_eq_none (by omega), Array.getElem?_eq_none (by omega)]

theorem machine_new (w1 : World) (cs : Array Value) (ht : IsTab cs 256) : IsMachine w1.heap.size (w1.alloc (.cells cs 104)) := ⟨cs, ht, heap_alloc_new w1 _⟩

set_option maxHeartbeats 1000000 in
set_option maxRecDepth 100000 in
theorem sum_none (w : World) : Calls Try.prog 41 #[.slice none 0 0] w (RetSum [] w) := by
  go_enter Try.func41, Try.ntmps41
  go_wp2_with (fail)
  refine (table_any _).mono ?_
  rintro e w1 ⟨cs, rfl, ht, hb⟩
  have hsz : cs.size = 256 := ht.1
  have hfold := fold_all Try.zeroCells104 cs 256 (by kernel_rfl) hsz
  have HT := Lib.hid ht; have HB := Lib.hid hb; clear ht hb
  go_wp2_with (fail)
  refine wp_loop_rounds 1 ?_; rw [rounds_succ]
  go_wp2
  go_ret
  exact ⟨by kernel_rfl, HB.out.alloc HB.out.size _⟩

set_option maxHeartbeats 1000000 in
set_option maxRecDepth 100000 in
theorem sum_one (pb po pc b o c : Nat) (l : List Nat) (w : World) (hp : w.cell? ⟨pb, po, none⟩ = some (.slice (some ⟨b, o, none⟩) l.length c)) (hl : ∀ j, l.getD j 0 < 256) (hs : ∀ j, j < l.length → w.cell? ⟨b, o + j, none⟩ = some (.int .u8 ((l.getD j 0 : Nat) : Int))) (hn : l.length ≤ 1000000000) :
    Calls Try.prog 41 #[.slice (some ⟨pb, po, none⟩) 1 pc] w (RetSum l w) := by
  have HP := Lib.hid hp; have HL := Lib.hid hl; have HS := Lib.hid hs
  clear hp hl hs
  have hlt := block_lt_of_cell HP.out
  go_enter Try.func41, Try.ntmps41
  go_wp2_with (fail)
  refine (table_any _).mono ?_
  rintro e w1 ⟨cs, rfl, ht, hb⟩
  have hsz : cs.size = 256 := ht.1
  have hfold := fold_all Try.zeroCells104 cs 256 (by kernel_rfl) hsz
  have HM := Lib.hid (machine_new w1 cs ht)
  have hcp : (w1.alloc (.cells cs 104)).cell? ⟨pb, po, none⟩ = some (.slice (some ⟨b, o, none⟩) l.length c) := Lib.cell?_alloc_some _ ((hb.cell (p := ⟨pb, po, none⟩) hlt).trans HP.out)
  have hcs : ∀ j, j < l.length → (w1.alloc (.cells cs 104)).cell? ⟨b, o + j, none⟩ = some (.int .u8 ((l.getD j 0 : Nat) : Int)) := fun j hj => Lib.cell?_alloc_some _ ((hb.cell (p := ⟨b, o + j, none⟩) (block_lt_of_cell (HS.out j hj))).trans (HS.out j hj))
  have hbl : Below w.heap.size w (w1.alloc (.cells cs 104)) := hb.alloc hb.size _
  have HCS := Lib.hid hcs; have HBL := Lib.hid hbl
  clear ht hb hcs hbl
  go_wp2_with (fail)
  obtain ⟨w2, hw2⟩ : ∃ w2, w2 = w1.alloc (.cells cs 104) := ⟨_, rfl⟩
  rw [← hw2] at hcp HCS HBL HM ⊢
  clear hw2
  have hcp' := Lib.hid hcp
  go_loop [5, 15] (fun s i => ∃ k : Nat, k ≤ 1 ∧ i = .int .i64 k ∧ s = reg (if k = 0 then 0xFFFFFFFF#32 else l.foldl updB 0xFFFFFFFF#32)) (fun _ i => 1 - (intOf i).toNat)
  case atStart => exact ⟨0, by omega, rfl, rfl⟩
  case round =>
    obtain ⟨k, hk, rfl, rfl⟩ := hrel
    by_cases hlt : k < 1
    · obtain rfl : k = 0 := by omega
      go_wp2_with (fail)
      refine (feed_any w1.heap.size b o c _ l _ HM.out HL.out HCS.out hn).mono ?_
      rintro e w3 ⟨rfl, rfl⟩
      go_wp2_with (fail)
      go_round
      case rel => exact ⟨1, by omega, by rfl, rfl⟩
      case measure => simp [intOf]
    · obtain rfl : k = 1 := by omega
      go_wp2
      go_ret
      exact ⟨congrArg (fun n => Ending.returned (.int .u32 n)) (not_reg _), HBL.out⟩
end Go.Proofs.Ythmenbehpblljaa
