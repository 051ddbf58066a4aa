/-
  Chapter 6: the program's Parse: the number of a text, if it is a numeral.
-/
import Derived.Test.YtldbnfbfhbkclaaDoorLxH
import Derived.Test.YtldbnfbfhbkclaaDoorLxC
import Derived.ChangeVars
import Derived.ChangeBears2
namespace Go.Proofs.YtldbnfbfhbkclaaDoor
open Go.RowKit Go.Shelf Go.Sort

/-- What the library's tables and errors hold. -/
structure Glob (w : World) : Prop where
  pow : Lib.TabIs Tryd.prog w "internal/strconv.uint64pow10" .u64 Lib.pow10Tab
  db : ∃ cs : Array Value, w.var? Tryd.prog "math/bits.deBruijn64tab" = some cs ∧ cs[15]? = some (.int .u8 4)
  syn : ∃ tp p, w.var? Tryd.prog "strconv.ErrSyntax" = some #[.iface tp p]
  rng : ∃ tp p, w.var? Tryd.prog "strconv.ErrRange" = some #[.iface tp p]
def gl : List Nat := [3, 5, 1, 2]
theorem gn_pow : Tryd.prog.globalNamed "internal/strconv.uint64pow10" = some 3 := by kernel_rfl
theorem gn_db : Tryd.prog.globalNamed "math/bits.deBruijn64tab" = some 5 := by kernel_rfl
theorem gn_syn : Tryd.prog.globalNamed "strconv.ErrSyntax" = some 1 := by kernel_rfl
theorem gn_rng : Tryd.prog.globalNamed "strconv.ErrRange" = some 2 := by kernel_rfl
theorem var?_same {w w' : World} {n : String} {g : Nat} (hg : Tryd.prog.globalNamed n = some g) (hb : w'.heap[g]? = w.heap[g]?) : w'.var? Tryd.prog n = w.var? Tryd.prog n := by
  unfold World.var?
  simp only [hg, Option.bind_some, hb]
theorem var?_lt {w : World} {n : String} {g : Nat} {cs : Array Value} (hg : Tryd.prog.globalNamed n = some g) (h : w.var? Tryd.prog n = some cs) : g < w.heap.size := by
  unfold World.var? at h
  simp only [hg, Option.bind_some] at h
  rcases Nat.lt_or_ge g w.heap.size with h' | h'
  · exact h'
  · rw [Array.getElem?_eq_none h'] at h; simp at h
theorem Glob.lt {w : World} (h : Glob w) : ∀ k ∈ gl, k < w.heap.size := by
  obtain ⟨cs, hd, _⟩ := h.db
  obtain ⟨_, _, hs⟩ := h.syn
  obtain ⟨_, _, hr⟩ := h.rng
  intro k hk
  simp only [gl, List.mem_cons, List.not_mem_nil, or_false] at hk
  rcases hk with rfl | rfl | rfl | rfl
  · exact var?_lt gn_pow h.pow
  · exact var?_lt gn_db hd
  · exact var?_lt gn_syn hs
  · exact var?_lt gn_rng hr
theorem Glob.keep {w w' : World} (h : Glob w) (hk : ∀ k ∈ gl, w'.heap[k]? = w.heap[k]?) : Glob w' := by
  obtain ⟨cs, hd, hd2⟩ := h.db
  obtain ⟨tp, p, hs⟩ := h.syn
  obtain ⟨tp2, p2, hr⟩ := h.rng
  refine ⟨?_, ⟨cs, ?_, hd2⟩, ⟨tp, p, ?_⟩, ⟨tp2, p2, ?_⟩⟩
  · show w'.var? _ _ = _
    rw [var?_same gn_pow (hk _ (by simp [gl]))]; exact h.pow
  · rw [var?_same gn_db (hk _ (by simp [gl]))]; exact hd
  · rw [var?_same gn_syn (hk _ (by simp [gl]))]; exact hs
  · rw [var?_same gn_rng (hk _ (by simp [gl]))]; exact hr
theorem Glob.below {w w' : World} (h : Glob w) {B : Nat} (hB : ∀ k ∈ gl, k < B) (hb : Below B w w') : Glob w' := h.keep fun k hk => hb.block k (hB k hk)
theorem Glob.only {w w' : World} {C : Nat} (h : Glob w) (hC : C ∉ gl) (hb : Only C w w') : Glob w' := h.keep fun k hk => hb.block k (h.lt k hk) (fun e => hC (by injection e with e; rw [← e]; exact hk))
theorem Glob.dbc {w : World} (h : Glob w) : w.cell? ⟨5, 15, none⟩ = some (.int .u8 4) := by
  obtain ⟨cs, hd, hd2⟩ := h.db
  rw [var?_cell gn_db hd]; exact hd2

/-- What a parse hands back: at a numeral its number, and no error. -/
def PuEnd (b : Nat) (t : ByteArray) (w : World) (e : Ending) (w' : World) : Prop :=
  ∃ (n : Nat) (v : Value), e = .returned (.tuple #[.int .u64 (n : Int), v]) ∧ n < 18446744073709551616 ∧ (v = .nilIface ∨ ∃ p, v = .iface 99 p) ∧ (∀ m, m < 18446744073709551616 → t.data.toList = digs b m → v = .nilIface ∧ n = m) ∧ Below w.heap.size w w'

theorem toErr_syn (fn s : ByteArray) (base bits : Int) (w : World) (hlim : s.size ≤ 281474976710656) (hG : Glob w) :
    Calls Tryd.prog 69 #[.string fn, .string s, .int .i64 base, .int .i64 bits, .iface 97 (.int .i64 2)] w fun e w' => ∃ N, e = .returned (.iface 99 (.pointer (some ⟨N, 0, none⟩))) ∧ Below w.heap.size w w' := by
  obtain ⟨tp, p, hs⟩ := hG.syn
  have hv : w.cell? ⟨1, 0, none⟩ = some (.iface tp p) := by rw [var?_cell gn_syn hs]; rfl
  refine (AnyPu.strconv_toError_syntax (ρ := Tryd.laysPu14_ren) { Tryd.laysPu14 with } fn s base bits (.iface tp p) w hlim hv (.inr ⟨_, _, rfl⟩)).mono ?_
  rintro e w' ⟨N, rfl, _, _, hb⟩
  exact ⟨N, rfl, hb⟩
theorem toErr_rng (fn s : ByteArray) (base bits : Int) (w : World) (hlim : s.size ≤ 281474976710656) (hG : Glob w) :
    Calls Tryd.prog 69 #[.string fn, .string s, .int .i64 base, .int .i64 bits, .iface 97 (.int .i64 1)] w fun e w' => ∃ N, e = .returned (.iface 99 (.pointer (some ⟨N, 0, none⟩))) ∧ Below w.heap.size w w' := by
  obtain ⟨tp, p, hs⟩ := hG.rng
  have hv : w.cell? ⟨2, 0, none⟩ = some (.iface tp p) := by rw [var?_cell gn_rng hs]; rfl
  refine (AnyPu.strconv_toError_range (ρ := Tryd.laysPu14_ren) { Tryd.laysPu14 with } fn s base bits (.iface tp p) w hlim hv (.inr ⟨_, _, rfl⟩)).mono ?_
  rintro e w' ⟨N, rfl, _, _, hb⟩
  exact ⟨N, rfl, hb⟩

set_option maxHeartbeats 4000000 in
set_option maxRecDepth 100000 in
theorem pubPu16_any (t : ByteArray) (hlim : t.size ≤ 281474976710656) (w : World) (hG : Glob w) :
    Calls Tryd.prog 63 #[.string t, .int .i64 16, .int .i64 64] w (PuEnd 16 t w) := by
  have HG := Lib.hid hG
  clear hG
  go_enter Tryd.func63, Tryd.ntmps63
  go_wp2_with (fail)
  refine (pu16_any t (by omega) w).mono ?_
  rintro e w1 ⟨r, rfl, hr1, hr2, hw⟩
  have hb1 : Below w.heap.size w w1 := by
    rcases hw with rfl | rfl
    · exact Below.refl _ _
    · exact Lib.bytesWorld_below _ _ _
  have HG1 := Lib.hid (HG.out.below HG.out.lt hb1)
  have HB1 := Lib.hid hb1; have H1 := Lib.hid hr1; have H2 := Lib.hid hr2
  clear hw hb1 hr1 hr2
  cases r with
  | ok n =>
    simp only [Lib.uintTuple]
    go_wp2_with (fail)
    go_ret2
    exact ⟨n, .nilIface, rfl, H1.out n rfl, .inl rfl, (fun m hm he => ⟨rfl, by have := H2.out m hm he; injection this⟩), HB1.out⟩
  | range =>
    simp only [Lib.uintTuple]
    go_wp2_with (fail)
    refine (toErr_rng _ t 16 64 w1 hlim HG1.out).mono ?_
    rintro e w2 ⟨N, rfl, hb2⟩
    have HB2 := Lib.hid (HB1.out.trans (hb2.mono HB1.out.size))
    go_wp2_with (fail)
    go_ret2
    exact ⟨18446744073709551615, _, rfl, by omega, .inr ⟨_, rfl⟩, (fun m hm he => by have := H2.out m hm he; cases this), HB2.out⟩
  | _ =>
    simp only [Lib.uintTuple]
    go_wp2_with (fail)
    refine (toErr_syn _ t 16 64 w1 hlim HG1.out).mono ?_
    rintro e w2 ⟨N, rfl, hb2⟩
    have HB2 := Lib.hid (HB1.out.trans (hb2.mono HB1.out.size))
    go_wp2_with (fail)
    go_ret2
    exact ⟨0, _, rfl, by omega, .inr ⟨_, rfl⟩, (fun m hm he => by have := H2.out m hm he; cases this), HB2.out⟩
theorem pubPu10_any (t : ByteArray) (hlim : t.size ≤ 281474976710656) (w : World) (hG : Glob w) :
    Calls Tryd.prog 63 #[.string t, .int .i64 10, .int .i64 64] w (PuEnd 10 t w) := by
  obtain ⟨tp, p, hs⟩ := hG.syn
  obtain ⟨tp2, p2, hr⟩ := hG.rng
  have hpd : ∀ m, m < 18446744073709551616 → t.data.toList = digs 10 m → Lib.parseUintB 64 t.data.toList = .ok m := fun m hm he => by rw [he]; exact parse_dec m hm
  cases hp : Lib.parseUintB 64 t.data.toList with
  | ok u =>
    refine (Tryd.strconv_ParseUint_10_at64_ok t (by omega) u hp w).mono ?_
    rintro e w' ⟨rfl, hw⟩
    have hu : u < 18446744073709551616 := by
      unfold Lib.parseUintB at hp
      split at hp
      · cases hp
      · exact parse_lt _ 0 u (by omega) hp
    refine ⟨u, .nilIface, rfl, hu, .inl rfl, (fun m hm he => ⟨rfl, by have := hpd m hm he; rw [hp] at this; injection this⟩), ?_⟩
    rcases hw with rfl | rfl
    · exact Below.refl _ _
    · exact Lib.bytesWorld_below _ _ _
  | range =>
    refine (Tryd.strconv_ParseUint_10_at64_range_var t hlim hp tp2 p2 w hr).mono ?_
    rintro e w' ⟨N, rfl, _, _, hb⟩
    exact ⟨18446744073709551615, _, rfl, by omega, .inr ⟨_, rfl⟩, (fun m hm he => by have := hpd m hm he; rw [hp] at this; cases this), hb⟩
  | _ =>
    refine (Any.strconv_ParseUint_10_at64_syntax_var Tryd.laysPu14 t hlim hp tp p w hs).mono ?_
    rintro e w' ⟨N, rfl, _, _, hb⟩
    exact ⟨0, _, rfl, by omega, .inr ⟨_, rfl⟩, (fun m hm he => by have := hpd m hm he; rw [hp] at this; cases this), hb⟩
end Go.Proofs.YtldbnfbfhbkclaaDoor
