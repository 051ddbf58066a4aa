/-
  Chapter 6: what is read at an offset; the cursor's readers.
-/
import Derived.Test.YtldbnfbfhbkclaaDoorLxE
import Derived.Test.YtldbnfbfhbkclaaDoorLxJ
import Derived.Test.YtldbnfbfhbkclaaDoorLxQ
import Derived.Deep.WholeRow
namespace Go.Proofs.YtldbnfbfhbkclaaDoor
open Go.RowKit Go.Shelf

structure Rd where
  kind : Nat
  text : ByteArray
  val : Nat
  stop : Nat
  code : Nat
def rdBad (c : Nat) : Rd := ⟨0, ⟨#[]⟩, 0, 0, c⟩
def isSign (b : Nat) : Bool := b == 123 || b == 125 || b == 59 || b == 44
/-- What is read at an offset behind spacing. -/
noncomputable def rdAt (s : ByteArray) (i : Nat) : Rd :=
  if s.size ≤ i then ⟨0, ⟨#[]⟩, 0, i, 0⟩
  else if isLet (bt s i) then ⟨1, s.extract i (runTo isLet s i), 0, runTo isLet s i, 0⟩
  else if isDig (bt s i) then (match numR (s.extract i (runTo (clsRun true) s i)).data.toList with
    | (n, true) => ⟨2, s.extract i (runTo (clsRun true) s i), n, runTo (clsRun true) s i, 0⟩
    | (_, false) => rdBad 5)
  else if bt s i = 34 then (match qName s i with
    | some (l, e) => ⟨3, ⟨l.toArray⟩, 0, e, 0⟩
    | none => rdBad 6)
  else if isSign (bt s i) then ⟨4, s.extract i (i + 1), 0, i + 1, 0⟩
  else rdBad 3
def tokV (r : Rd) (p : Nat × Nat) : Array Value := #[.int .i64 (r.kind : Int), .string r.text, .int .u64 (r.val : Int), .int .i64 (p.1 : Int), .int .i64 (p.2 : Int)]
def tok0 : Array Value := #[.int .i64 0, .string ⟨#[]⟩, .int .u64 0, .int .i64 0, .int .i64 0]

theorem results_row_tmp {P : Program} {fn : Func} {p q : Tmp} {ty : TypeId} (h : fn.results = #[.cell p ty, .tmp q]) (tmps : Array Value) (w : World) (g : Nat) (t : TypeId) (cs : Array Value) (fr : Nat × Nat) (d : TypeDesc)
    (hp : tmps.getD p undef = .pointer (some ⟨g, 0, none⟩)) (hg : w.heap[g]? = some (.cells cs t fr))
    (hu : P.underlying ty = some d) (hd : (match d with | .struct _ | .array _ _ => true | _ => false) = true) (hi : (P.info? ty).map (·.size) = some cs.size)
    (u : Value) (hq : tmps.getD q undef = u) : (results fn tmps).run P w = .ok (.tuple #[.agg cs, u]) w := by
  have hp' : tmps[p]?.getD undef = .pointer (some ⟨g, 0, none⟩) := by simpa using hp
  have hq' : tmps[q]?.getD undef = u := by simpa using hq
  simp [results, h, hp', hq', asAddr, run_loadVar_row w g t ty cs fr d hg hu hd hi]

theorem Only.alloc {C : Nat} {a b : World} (h : Only C a b) (o : Obj) : Only C a (b.alloc o) :=
  h.trans ⟨rfl, rfl, rfl, by simp, fun k hk _ => Below.heap_alloc _ _ _ hk⟩
theorem Only.setRow {C : Nat} {a b : World} (h : Only C a b) {g : Nat} (hg : a.heap.size ≤ g) (cs : Array Value) : Only C a (b.setRow g cs) :=
  ⟨h.os, h.tape, h.output, by simp only [World.setRow, Array.size_modify]; exact h.size, fun k hk hne => (setRow_other _ _ _ _ (by omega)).trans (h.block k hk hne)⟩
theorem Only.setCellNew {C : Nat} {a b : World} (h : Only C a b) {g : Nat} (hg : a.heap.size ≤ g) (o : Nat) (v : Value) : Only C a (b.setCell ⟨g, o, none⟩ v) :=
  ⟨h.os, h.tape, h.output, by simp only [World.setCell, Array.size_modify]; exact h.size, fun k hk hne => (Below.heap_setCell _ _ _ _ (show k ≠ g by omega)).trans (h.block k hk hne)⟩
theorem Only.below {C : Nat} {a b c : World} (h : Only C a b) (hb : Below b.heap.size b c) : Only C a c :=
  h.trans ⟨hb.os, hb.tape, hb.output, hb.size, fun k hk _ => hb.block k hk⟩
theorem Only.row {C : Nat} {a b : World} (h : Only C a b) {k : Nat} (hk : k ≠ C) {o : Obj} (ho : a.heap[k]? = some o) : b.heap[k]? = some o :=
  (h.block k (Array.getElem?_eq_some_iff.1 ho).1 (fun e => hk (Option.some.inj e))).trans ho
theorem IsCur.lt {C : Nat} {s : ByteArray} {i : Nat} {p : Nat × Nat} {w : World} (h : IsCur C s i p w) : C < w.heap.size := (Array.getElem?_eq_some_iff.1 h).1
theorem IsCur.alloc {C : Nat} {s : ByteArray} {i : Nat} {p : Nat × Nat} {w : World} (h : IsCur C s i p w) (o : Obj) : IsCur C s i p (w.alloc o) := by
  unfold IsCur; rw [Below.heap_alloc _ _ _ h.lt]; exact h
theorem IsCur.below {C : Nat} {s : ByteArray} {i : Nat} {p : Nat × Nat} {w w' : World} (h : IsCur C s i p w) (hb : Below w.heap.size w w') : IsCur C s i p w' := (hb.block C h.lt).trans h
theorem IsCur.setRow {C : Nat} {s : ByteArray} {i : Nat} {p : Nat × Nat} {w : World} (h : IsCur C s i p w) {g : Nat} (hg : g ≠ C) (cs : Array Value) : IsCur C s i p (w.setRow g cs) := by
  unfold IsCur; rw [setRow_other _ _ _ _ (Ne.symm hg)]; exact h
theorem IsCur.setCell {C : Nat} {s : ByteArray} {i : Nat} {p : Nat × Nat} {w : World} (h : IsCur C s i p w) {g : Nat} (hg : g ≠ C) (o : Nat) (v : Value) : IsCur C s i p (w.setCell ⟨g, o, none⟩ v) := by
  unfold IsCur; rw [Below.heap_setCell _ _ _ _ (Ne.symm hg)]; exact h

/-- How a reader ends. -/
def RdEnd (C : Nat) (s : ByteArray) (i : Nat) (p : Nat × Nat) (r : Rd) (w : World) (e : Ending) (w' : World) : Prop :=
  e = .returned (.tuple #[.agg (tokV r (0, 0)), .int .i64 (r.code : Int)]) ∧ Only C w w' ∧ (r.code = 0 → IsCur C s r.stop (plTo s p i r.stop) w' ∧ i ≤ r.stop ∧ r.stop ≤ s.size)

set_option maxRecDepth 100000 in
theorem end_any (C : Nat) (s : ByteArray) (p : Nat × Nat) (w : World) (h : IsCur C s s.size p w) :
    Calls Tryd.prog 36 #[.pointer (some ⟨C, 0, none⟩)] w (RdEnd C s s.size p ⟨0, ⟨#[]⟩, 0, s.size, 0⟩ w) := by
  have hlt := h.lt
  have H := Lib.hid h
  clear h
  go_enter Tryd.func36, Tryd.ntmps36
  go_wp2_with (refine wpList_store_row rfl 37 (.tmp 2) (.tmp 4) rfl w.heap.size tok0 rfl rfl 37 tok0 (heap_alloc_new w _) rfl rfl (by simp [tok0, Value.oneCell']) ?_)
  refine bodyPost_ret (results_row_tmp rfl _ _ w.heap.size 37 tok0 (0, 0) _ rfl (setRow_heap _ _ _ _ _ _ (heap_alloc_new w _)) Tryd.underlying37 rfl rfl _ rfl) rfl ⟨rfl, ((Only.refl C w).alloc _).setRow (Nat.le_refl _) _, fun _ => ⟨?_, Nat.le_refl _, Nat.le_refl _⟩⟩
  rw [plTo_self]
  exact (H.out.alloc _).setRow (by omega) _

set_option maxRecDepth 100000 in
theorem word_any (C : Nat) (s : ByteArray) (i : Nat) (p : Nat × Nat) (w : World) (h : IsCur C s i p w) (hi : i ≤ s.size) (hs : s.size ≤ 100000000) (hp : Okp i p) :
    Calls Tryd.prog 38 #[.pointer (some ⟨C, 0, none⟩)] w (RdEnd C s i p ⟨1, s.extract i (runTo isLet s i), 0, runTo isLet s i, 0⟩ w) := by
  have hlt := h.lt
  have H := Lib.hid h; have HP := Lib.hid hp
  clear h hp
  go_enter Tryd.func38, Tryd.ntmps38
  go_wp2_with (fail)
  refine (while_any C s i p _ 37 isLet (fun b w _ => isLetter_any b w) cf_let (H.out.alloc _) hi (by omega) HP.out).mono ?_
  rintro e w1 ⟨rfl, hc, ho⟩
  obtain ⟨t, ht⟩ : ∃ t, t = s.extract i (runTo isLet s i) := ⟨_, rfl⟩
  rw [← ht]
  have HT := Lib.hid ht
  have hro : w1.heap[w.heap.size]? = some (.cells tok0 37 (0, 0)) := ho.row (by omega) (heap_alloc_new w _)
  have HR := Lib.hid hro; have HC := Lib.hid hc; have HO := Lib.hid (((Only.refl C w).alloc _).trans ho)
  have HL := Lib.hid (runTo_le isLet s i hi)
  clear hro hc ho ht
  go_wp2_with (refine wpList_store_row rfl 37 (.tmp 2) (.tmp 6) rfl w.heap.size #[.int .i64 1, .string t, .int .u64 0, .int .i64 0, .int .i64 0] rfl rfl 37 tok0 HR.out rfl rfl (by simp [Value.oneCell']) ?_)
  refine bodyPost_ret (results_row_tmp rfl _ _ w.heap.size 37 #[.int .i64 1, .string t, .int .u64 0, .int .i64 0, .int .i64 0] (0, 0) _ rfl (setRow_heap _ _ _ _ _ _ HR.out) Tryd.underlying37 rfl rfl _ rfl) rfl ⟨by rw [HT.out]; rfl, HO.out.setRow (Nat.le_refl _) _, fun _ => ⟨HC.out.setRow (by omega) _, HL.out.1, HL.out.2⟩⟩

set_option maxRecDepth 100000 in
set_option maxHeartbeats 1000000 in
theorem number_any (C : Nat) (s : ByteArray) (i : Nat) (p : Nat × Nat) (w : World) (h : IsCur C s i p w) (hi : i ≤ s.size) (hs : s.size ≤ 100000000) (hp : Okp i p) (hG : Glob w) (hCg : C ∉ gl) :
    Calls Tryd.prog 40 #[.pointer (some ⟨C, 0, none⟩)] w (RdEnd C s i p (match numR (s.extract i (runTo (clsRun true) s i)).data.toList with
    | (n, true) => ⟨2, s.extract i (runTo (clsRun true) s i), n, runTo (clsRun true) s i, 0⟩
    | (_, false) => rdBad 5) w) := by
  have hlt := h.lt
  have H := Lib.hid h; have HP := Lib.hid hp; have HG := Lib.hid hG
  clear h hp hG
  obtain ⟨r, hr⟩ : ∃ r, r = numR (s.extract i (runTo (clsRun true) s i)).data.toList := ⟨_, rfl⟩
  rw [← hr]
  have HRR := Lib.hid hr
  clear hr
  go_enter Tryd.func40, Tryd.ntmps40
  go_wp2_with (fail)
  refine (while_any C s i p _ 52 (clsRun true) (fun b w hb => num1_any b w hb) cf_num1 (H.out.alloc _) hi (by omega) HP.out).mono ?_
  rintro e w1 ⟨rfl, hc, ho⟩
  have HL := Lib.hid (runTo_le (clsRun true) s i hi)
  obtain ⟨t, ht⟩ : ∃ t, t = s.extract i (runTo (clsRun true) s i) := ⟨_, rfl⟩
  rw [← ht]
  have HT := Lib.hid ht
  have hts : t.size ≤ s.size := by rw [ht, ByteArray.size_extract]; omega
  have hro : w1.heap[w.heap.size]? = some (.cells tok0 37 (0, 0)) := ho.row (by omega) (heap_alloc_new w _)
  have HO := Lib.hid (((Only.refl C w).alloc _).trans ho)
  have HG1 := Lib.hid (HG.out.only hCg HO.out)
  have HR := Lib.hid hro; have HC := Lib.hid hc
  clear hro hc ho ht
  go_wp2_with (fail)
  refine (numParse_any t (by omega) w1 HG1.out).mono ?_
  rintro e w2 ⟨rfl, hb⟩
  have hr2 : numR t.data.toList = r := by rw [HT.out]; exact HRR.out.symm
  rw [hr2]
  have hro : w2.heap[w.heap.size]? = some (.cells tok0 37 (0, 0)) := (hb.block _ (lt_of_block HR.out)).trans HR.out
  have HR2 := Lib.hid hro; have HC2 := Lib.hid (HC.out.below hb); have HO2 := Lib.hid (HO.out.below hb)
  clear hro hb hr2
  obtain ⟨n, b⟩ := r
  cases b with
  | true =>
    go_wp2_with (refine wpList_store_row rfl 37 (.tmp 2) (.tmp 19) rfl w.heap.size #[.int .i64 2, .string t, .int .u64 (n : Int), .int .i64 0, .int .i64 0] rfl rfl 37 tok0 HR2.out rfl rfl (by simp [Value.oneCell']) ?_)
    refine bodyPost_ret (results_row_tmp rfl _ _ w.heap.size 37 #[.int .i64 2, .string t, .int .u64 (n : Int), .int .i64 0, .int .i64 0] (0, 0) _ rfl (setRow_heap _ _ _ _ _ _ HR2.out) Tryd.underlying37 rfl rfl _ rfl) rfl ⟨by rw [HT.out]; rfl, HO2.out.setRow (Nat.le_refl _) _, fun _ => ⟨HC2.out.setRow (by omega) _, HL.out.1, HL.out.2⟩⟩
  | false =>
    go_wp2_with (refine wpList_store_row rfl 37 (.tmp 2) (.tmp 16) rfl w.heap.size tok0 rfl rfl 37 tok0 HR2.out rfl rfl (by simp [tok0, Value.oneCell']) ?_)
    refine bodyPost_ret (results_row_tmp rfl _ _ w.heap.size 37 tok0 (0, 0) _ rfl (setRow_heap _ _ _ _ _ _ HR2.out) Tryd.underlying37 rfl rfl _ rfl) rfl ⟨rfl, HO2.out.setRow (Nat.le_refl _) _, (fun h => by cases h)⟩

theorem sign_index : ∀ b : Fin 256, (decide ((0 : Int) ≤ Lib.indexByte [123, 125, 59, 44] b.val.toUInt8)) = isSign b.val := by decide +kernel
set_option maxRecDepth 100000 in
set_option maxHeartbeats 2000000 in
theorem sign_any (C : Nat) (s : ByteArray) (i : Nat) (p : Nat × Nat) (w : World) (h : IsCur C s i p w) (hi : i < s.size) (hs : s.size ≤ 100000000) (hp : Okp i p) :
    Calls Tryd.prog 42 #[.pointer (some ⟨C, 0, none⟩)] w (RdEnd C s i p (if isSign (bt s i) then ⟨4, s.extract i (i + 1), 0, i + 1, 0⟩ else rdBad 3) w) := by
  have hlt := h.lt
  have c2 := (h.alloc (.cells tok0 37)).c2
  have c3 := (h.alloc (.cells tok0 37)).c3
  have H := Lib.hid h; have HP := Lib.hid hp
  have hsi := sign_index ⟨bt s i, bt_lt s i⟩
  simp only at hsi
  have hbu : (bt s i).toUInt8 = byt s i := by rw [← byt_nat]; simp
  rw [hbu] at hsi
  obtain ⟨sg, hsg⟩ : ∃ sg, sg = isSign (bt s i) := ⟨_, rfl⟩
  rw [← hsg] at hsi ⊢
  have HSI := Lib.hid hsi
  obtain ⟨t, ht⟩ : ∃ t, s.extract i (i + 1) = t := ⟨_, rfl⟩
  rw [ht]
  obtain ⟨r, hr⟩ : ∃ r, r = (if sg = true then (⟨4, t, 0, i + 1, 0⟩ : Rd) else rdBad 3) := ⟨_, rfl⟩
  rw [← hr]
  have HRD := Lib.hid hr
  have hex := extract_one s i hi
  rw [ht] at hex
  have HEX := Lib.hid hex
  obtain ⟨W0, hW0⟩ : ∃ W0, W0 = w.alloc (.cells tok0 37) := ⟨_, rfl⟩
  have hro : W0.heap[w.heap.size]? = some (.cells tok0 37 (0, 0)) := by rw [hW0]; exact heap_alloc_new w _
  have hcu : IsCur C s i p W0 := by rw [hW0]; exact h.alloc _
  have hon : Only C w W0 := by rw [hW0]; exact (Only.refl C w).alloc _
  have HRO := Lib.hid hro; have HCU := Lib.hid hcu; have HON := Lib.hid hon; have HW0 := Lib.hid hW0
  have i1 : (i : Int) ≤ (i : Int) + 1 := by omega
  have i2 : (i : Int) + 1 ≤ (s.size : Int) := by omega
  have i3 : (i : Int) ≤ (s.size : Int) := by omega
  rw [← hW0] at c2 c3
  clear h hp hsi hsg hex hW0 hro hcu hon hbu hr
  go_enter Tryd.func42, Tryd.ntmps42
  go_wp2_with (fail)
  show Code.wp _ _ _ _ (w.alloc (.cells tok0 37))
  rw [← HW0.out]
  go_quiet (fail)
  go_wp2_with (fail)
  rw [HEX.out]
  refine (Tryd.strings_Contains_one ⟨#[123, 125, 59, 44]⟩ (byt s i) _).mono ?_
  rintro e w1 ⟨rfl, rfl⟩
  have hsi2 : decide (0 ≤ Lib.indexByte (ByteArray.mk #[123, 125, 59, 44]).data.toList (byt s i)) = sg := HSI.out
  rw [hsi2]
  obtain ⟨W1, hW1⟩ : ∃ W1, W1 = W0.drewN nq := ⟨_, rfl⟩
  have hro : W1.heap[w.heap.size]? = some (.cells tok0 37 (0, 0)) := by rw [hW1]; exact HRO.out
  have hcu : IsCur C s i p W1 := by rw [hW1]; exact HCU.out
  have hon : Only C w W1 := by rw [hW1]; exact HON.out.drewN nq
  have HRO1 := Lib.hid hro; have HCU1 := Lib.hid hcu; have HON1 := Lib.hid hon
  rw [← hW1]
  clear hro hcu hon hW1 c2 c3 hsi2
  cases sg with
  | true =>
    go_wp2_with (fail)
    refine (step_any C s i p W1 HCU1.out hi (by omega) (by have := HP.out.1; omega) (by have := HP.out.2; omega)).mono ?_
    rintro e w2 ⟨rfl, hc2, ho2⟩
    have hro : w2.heap[w.heap.size]? = some (.cells tok0 37 (0, 0)) := ho2.row (by omega) HRO1.out
    have HRO2 := Lib.hid hro; have HCU2 := Lib.hid hc2; have HON2 := Lib.hid (HON1.out.trans ho2)
    clear hro hc2 ho2
    go_wp2_with (refine wpList_store_row rfl 37 (.tmp 2) (.tmp 26) rfl w.heap.size #[.int .i64 4, .string ⟨#[byt s i]⟩, .int .u64 0, .int .i64 0, .int .i64 0] rfl rfl 37 tok0 HRO2.out rfl rfl (by simp [Value.oneCell']) ?_)
    refine bodyPost_ret (results_row_tmp rfl _ _ w.heap.size 37 #[.int .i64 4, .string ⟨#[byt s i]⟩, .int .u64 0, .int .i64 0, .int .i64 0] (0, 0) _ rfl (setRow_heap _ _ _ _ _ _ HRO2.out) Tryd.underlying37 rfl rfl _ rfl) rfl ⟨by rw [HRD.out, HEX.out]; rfl, HON2.out.setRow (Nat.le_refl _) _, fun _ => ?_⟩
    rw [HRD.out]
    show IsCur C s (i + 1) (plTo s p i (i + 1)) _ ∧ i ≤ i + 1 ∧ i + 1 ≤ s.size
    rw [plTo_succ _ _ _ _ (Nat.le_refl i), plTo_self]
    exact ⟨HCU2.out.setRow (by omega) _, by omega, by omega⟩
  | false =>
    go_wp2_with (refine wpList_store_row rfl 37 (.tmp 2) (.tmp 22) rfl w.heap.size tok0 rfl rfl 37 tok0 HRO1.out rfl rfl (by simp [tok0, Value.oneCell']) ?_)
    refine bodyPost_ret (results_row_tmp rfl _ _ w.heap.size 37 tok0 (0, 0) _ rfl (setRow_heap _ _ _ _ _ _ HRO1.out) Tryd.underlying37 rfl rfl _ rfl) rfl ⟨by rw [HRD.out]; rfl, HON1.out.setRow (Nat.le_refl _) _, (fun h => by rw [HRD.out] at h; cases h)⟩
end Go.Proofs.YtldbnfbfhbkclaaDoor
