/-
  Chapter 6: the tokens of a text that stands inside another one.
-/
import Derived.Test.YtldbnfbfhbkclaaDoorLyF
namespace Go.Proofs.YtldbnfbfhbkclaaDoor
open Go.RowKit Go.Shelf

/-- The text t stands in s from o on; behind it s ends, or a line feed stands. -/
structure In (s t : ByteArray) (o : Nat) : Prop where
  byte : ∀ i, i < t.size → byt s (o + i) = byt t i
  size : o + t.size ≤ s.size
  stop : o + t.size = s.size ∨ bt s (o + t.size) = 10
theorem In.bt {s t : ByteArray} {o : Nat} (h : In s t o) {i : Nat} (hi : i < t.size) : bt s (o + i) = Go.Proofs.YtldbnfbfhbkclaaDoor.bt t i := by
  rw [← byt_nat, ← byt_nat, h.byte i hi]
theorem In.run {s t : ByteArray} {o : Nat} (h : In s t o) {p : Nat → Bool} (hp : p 10 = false) (i : Nat) (hi : i ≤ t.size) : runTo p s (o + i) = o + runTo p t i := by
  obtain ⟨n, hn⟩ : ∃ n, n = t.size - i := ⟨_, rfl⟩
  induction n generalizing i with
  | zero =>
    obtain rfl : i = t.size := by omega
    rw [runTo_end p t t.size (Nat.le_refl _)]
    rcases h.stop with e | e
    · rw [e, runTo_end p s s.size (Nat.le_refl _)]
    · rw [runTo_no p s _ (by rw [e]; exact hp)]
  | succ n ih =>
    have hlt : i < t.size := by omega
    have hb := h.bt hlt
    have hsz := h.size
    cases hq : p (Go.Proofs.YtldbnfbfhbkclaaDoor.bt t i) with
    | false => rw [runTo_no p t i hq, runTo_no p s (o + i) (by rw [hb]; exact hq)]
    | true =>
      rw [runTo_yes p t i hlt hq, runTo_yes p s (o + i) (by omega) (by rw [hb]; exact hq), show o + i + 1 = o + (i + 1) from by omega]
      exact ih (i + 1) (by omega) (by omega)
theorem notFeed_10 : notFeed 10 = false := by decide
theorem isLet_10 : isLet 10 = false := by decide
theorem clsRun_10 : clsRun true 10 = false := by decide
theorem In.skip {s t : ByteArray} {o : Nat} (h : In s t o) {i j : Nat} (hs : Skip t i j) (hi : i ≤ t.size) : (j < t.size → Skip s (o + i) (o + j)) ∧ (t.size ≤ j → ∀ k, Skip s (o + t.size) k → Skip s (o + i) k) := by
  have hsz := h.size
  induction hs with
  | fin i h1 =>
    obtain rfl : i = t.size := by omega
    exact ⟨fun h2 => by omega, fun _ k hk => hk⟩
  | stop i h1 h2 h3 =>
    exact ⟨fun _ => .stop _ (by omega) (by rw [h.bt h1]; exact h2) (by rw [h.bt h1]; exact h3), fun h4 => by omega⟩
  | sp i j h1 h2 r ih =>
    obtain ⟨g1, g2⟩ := ih (by omega)
    rw [show o + (i + 1) = o + i + 1 from by omega] at g1 g2
    exact ⟨fun h3 => .sp _ _ (by omega) (by rw [h.bt h1]; exact h2) (g1 h3), fun h3 k hk => .sp _ _ (by omega) (by rw [h.bt h1]; exact h2) (g2 h3 k hk)⟩
  | com i j h1 h2 r ih =>
    have hle := runTo_le notFeed t i (by omega)
    obtain ⟨g1, g2⟩ := ih hle.2
    rw [← h.run notFeed_10 i (by omega)] at g1 g2
    exact ⟨fun h3 => .com _ _ (by omega) (by rw [h.bt h1]; exact h2) (g1 h3), fun h3 k hk => .com _ _ (by omega) (by rw [h.bt h1]; exact h2) (g2 h3 k hk)⟩
theorem In.scn {s t : ByteArray} {o : Nat} (h : In s t o) : ∀ (n i : Nat) (acc l : List UInt8) (e : Nat), t.size - i = n → Go.Proofs.YtldbnfbfhbkclaaDoor.scn t i acc = some (l, e) → Go.Proofs.YtldbnfbfhbkclaaDoor.scn s (o + i) acc = some (l, o + e) := by
  have hsz := h.size
  intro n
  induction n using Nat.strongRecOn with
  | ind n ih =>
    intro i acc l e hn hsc
    by_cases hlt : i < t.size
    · have hb := h.bt hlt
      by_cases h34 : Go.Proofs.YtldbnfbfhbkclaaDoor.bt t i = 34
      · rw [scn_quote t i acc hlt h34] at hsc
        injection hsc with hsc; injection hsc with h1 h2; subst h1; subst h2
        rw [scn_quote s (o + i) acc (by omega) (by rw [hb]; exact h34)]
        rfl
      · by_cases h92 : Go.Proofs.YtldbnfbfhbkclaaDoor.bt t i = 92
        · by_cases hl2 : i + 1 < t.size
          · by_cases hq : Go.Proofs.YtldbnfbfhbkclaaDoor.bt t (i + 1) = 34 ∨ Go.Proofs.YtldbnfbfhbkclaaDoor.bt t (i + 1) = 92
            · rw [scn_esc t i acc hl2 h92 hq] at hsc
              have hb1 := h.bt hl2
              rw [show o + (i + 1) = o + i + 1 from by omega] at hb1
              have hy1 := h.byte (i + 1) hl2
              rw [show o + (i + 1) = o + i + 1 from by omega] at hy1
              rw [scn_esc s (o + i) acc (by omega) (by rw [hb]; exact h92) (by rw [hb1]; exact hq), hy1, show o + i + 2 = o + (i + 2) from by omega]
              exact ih (t.size - (i + 2)) (by omega) (i + 2) _ l e rfl hsc
            · rw [scn_esc_bad t i acc hl2 h92 hq] at hsc; cases hsc
          · rw [scn_esc_end t i acc hlt h92 (by omega)] at hsc; cases hsc
        · rw [scn_plain t i acc hlt h34 h92] at hsc
          rw [scn_plain s (o + i) acc (by omega) (by rw [hb]; exact h34) (by rw [hb]; exact h92), h.byte i hlt, show o + i + 1 = o + (i + 1) from by omega]
          exact ih (t.size - (i + 1)) (by omega) (i + 1) _ l e rfl hsc
    · rw [scn_end t i acc (by omega)] at hsc; cases hsc
theorem In.extract {s t : ByteArray} {o : Nat} (h : In s t o) (i j : Nat) (hj : j ≤ t.size) : s.extract (o + i) (o + j) = t.extract i j := by
  have hsz := h.size
  apply ByteArray.ext
  rw [ByteArray.data_extract, ByteArray.data_extract]
  have e1 : s.data.size = s.size := rfl
  have e2 : t.data.size = t.size := rfl
  apply Array.ext
  · simp only [Array.size_extract]; omega
  · intro k h1 h2
    simp only [Array.size_extract] at h1 h2
    simp only [Array.getElem_extract]
    have hb := h.byte (i + k) (by omega)
    unfold byt at hb
    rw [← Nat.add_assoc] at hb
    simp only [Array.getD] at hb
    rw [dif_pos (by omega), dif_pos (by omega)] at hb
    exact hb
/-- A reading moved by o. -/
def Rd.at (r : Rd) (o : Nat) : Rd := { r with stop := o + r.stop }
theorem rdAt_word {s : ByteArray} {i : Nat} (h : i < s.size) (h1 : isLet (bt s i) = true) : rdAt s i = ⟨1, s.extract i (runTo isLet s i), 0, runTo isLet s i, 0⟩ := by
  unfold rdAt; rw [if_neg (by omega), if_pos h1]
theorem rdAt_num {s : ByteArray} {i : Nat} (h : i < s.size) (h1 : isLet (bt s i) = false) (h2 : isDig (bt s i) = true) : rdAt s i = (match numR (s.extract i (runTo (clsRun true) s i)).data.toList with
    | (n, true) => ⟨2, s.extract i (runTo (clsRun true) s i), n, runTo (clsRun true) s i, 0⟩
    | (_, false) => rdBad 5) := by
  unfold rdAt; rw [if_neg (by omega), if_neg (by rw [h1]; decide), if_pos h2]; rfl
theorem rdAt_name {s : ByteArray} {i : Nat} (h : i < s.size) (h1 : isLet (bt s i) = false) (h2 : isDig (bt s i) = false) (h3 : bt s i = 34) : rdAt s i = (match qName s i with
    | some (l, e) => ⟨3, ⟨l.toArray⟩, 0, e, 0⟩
    | none => rdBad 6) := by
  unfold rdAt; rw [if_neg (by omega), if_neg (by rw [h1]; decide), if_neg (by rw [h2]; decide), if_pos h3]; rfl
theorem rdAt_sign {s : ByteArray} {i : Nat} (h : i < s.size) (h1 : isLet (bt s i) = false) (h2 : isDig (bt s i) = false) (h3 : bt s i ≠ 34) (h4 : isSign (bt s i) = true) : rdAt s i = ⟨4, s.extract i (i + 1), 0, i + 1, 0⟩ := by
  unfold rdAt; rw [if_neg (by omega), if_neg (by rw [h1]; decide), if_neg (by rw [h2]; decide), if_neg h3, if_pos h4]
theorem rdAt_none {s : ByteArray} {i : Nat} (h : i < s.size) (h1 : isLet (bt s i) = false) (h2 : isDig (bt s i) = false) (h3 : bt s i ≠ 34) (h4 : isSign (bt s i) = false) : rdAt s i = rdBad 3 := by
  unfold rdAt; rw [if_neg (by omega), if_neg (by rw [h1]; decide), if_neg (by rw [h2]; decide), if_neg h3, if_neg (by rw [h4]; decide)]
theorem rdAt_fin {s : ByteArray} {i : Nat} (h : s.size ≤ i) : rdAt s i = ⟨0, ⟨#[]⟩, 0, i, 0⟩ := by unfold rdAt; rw [if_pos h]
theorem In.rd {s t : ByteArray} {o : Nat} (h : In s t o) {j : Nat} (hj : j < t.size) (hc : (rdAt t j).code = 0) : rdAt s (o + j) = (rdAt t j).at o := by
  have hsz := h.size
  have hb := h.bt hj
  have hlt : o + j < s.size := by omega
  cases h1 : isLet (Go.Proofs.YtldbnfbfhbkclaaDoor.bt t j) with
  | true =>
    rw [rdAt_word hj h1, rdAt_word hlt (by rw [hb]; exact h1), h.run isLet_10 j (by omega), h.extract j _ (runTo_le isLet t j (by omega)).2]
    rfl
  | false =>
    cases h2 : isDig (Go.Proofs.YtldbnfbfhbkclaaDoor.bt t j) with
    | true =>
      rw [rdAt_num hj h1 h2] at hc ⊢
      rw [rdAt_num hlt (by rw [hb]; exact h1) (by rw [hb]; exact h2), h.run clsRun_10 j (by omega), h.extract j _ (runTo_le (clsRun true) t j (by omega)).2]
      revert hc
      generalize numR (t.extract j (runTo (clsRun true) t j)).data.toList = r
      intro hc
      obtain ⟨n, b⟩ := r
      cases b with
      | true => rfl
      | false => cases hc
    | false =>
      by_cases h3 : Go.Proofs.YtldbnfbfhbkclaaDoor.bt t j = 34
      · rw [rdAt_name hj h1 h2 h3] at hc ⊢
        rw [rdAt_name hlt (by rw [hb]; exact h1) (by rw [hb]; exact h2) (by rw [hb]; exact h3)]
        unfold qName at *
        cases hq : Go.Proofs.YtldbnfbfhbkclaaDoor.scn t (j + 1) [] with
        | none => rw [hq] at hc; cases hc
        | some le =>
          obtain ⟨l, e⟩ := le
          have hs := h.scn _ (j + 1) [] l e rfl hq
          rw [show o + (j + 1) = o + j + 1 from by omega] at hs
          rw [hq] at hc
          cases h4 : nameOk ⟨l.toArray⟩ with
          | true => simp only [hs, hq, h4, if_true]; rfl
          | false => simp only [h4] at hc; cases hc
      · cases h4 : isSign (Go.Proofs.YtldbnfbfhbkclaaDoor.bt t j) with
        | true =>
          have he := h.extract j (j + 1) (by omega)
          rw [show o + (j + 1) = o + j + 1 from by omega] at he
          rw [rdAt_sign hj h1 h2 h3 h4, rdAt_sign hlt (by rw [hb]; exact h1) (by rw [hb]; exact h2) (by rw [hb]; exact h3) (by rw [hb]; exact h4), he]
          rfl
        | false => rw [rdAt_none hj h1 h2 h3 h4] at hc; cases hc
theorem In.pl {s t : ByteArray} {o : Nat} (h : In s t o) (p : Nat × Nat) (n i j : Nat) (hij : i ≤ j) (hj : j ≤ t.size) : plTo s (p.1 + n, p.2) (o + i) (o + j) = ((plTo t p i j).1 + n, (plTo t p i j).2) := by
  obtain ⟨k, rfl⟩ : ∃ k, j = i + k := ⟨j - i, by omega⟩
  induction k with
  | zero => rw [Nat.add_zero, plTo_self, plTo_self]
  | succ k ih =>
    have e1 : o + (i + (k + 1)) = (o + (i + k)) + 1 := by omega
    have e2 : i + (k + 1) = (i + k) + 1 := by omega
    rw [e1, e2, plTo_succ _ _ _ _ (by omega), plTo_succ _ _ _ _ (by omega), ih (by omega) (by omega)]
    unfold stepPl
    rw [h.bt (by omega)]
    split <;> simp <;> omega
/-- A token moved by n lines. -/
def shT (n : Nat) (a : Array Value) : Array Value := match a.toList with
  | [k, x, v, .int .i64 l, c] => #[k, x, v, .int .i64 (l + (n : Int)), c]
  | _ => a
theorem shT_tok (n : Nat) (r : Rd) (p : Nat × Nat) : shT n (tokV r p) = tokV r (p.1 + n, p.2) := by
  show #[_, _, _, Value.int .i64 ((p.1 : Int) + (n : Int)), _] = _
  unfold tokV
  simp
theorem tokV_at (r : Rd) (o : Nat) (p : Nat × Nat) : tokV (r.at o) p = tokV r p := rfl
theorem rd_end {s : ByteArray} {j : Nat} (hj : j ≤ s.size) (hc : (rdAt s j).code = 0) (hk : (rdAt s j).kind = 0) : j = s.size := by
  rcases Nat.lt_or_ge j s.size with h | h
  · exfalso
    cases h1 : isLet (bt s j) with
    | true => rw [rdAt_word h h1] at hk; cases hk
    | false =>
      cases h2 : isDig (bt s j) with
      | true =>
        rw [rdAt_num h h1 h2] at hk hc
        revert hc hk
        generalize numR (s.extract j (runTo (clsRun true) s j)).data.toList = r
        intro h8 h9
        obtain ⟨n, b⟩ := r
        cases b with
        | true => first | (cases h8; done) | (cases h9; done)
        | false => first | (cases h8; done) | (cases h9; done)
      | false =>
        by_cases h3 : bt s j = 34
        · rw [rdAt_name h h1 h2 h3] at hk hc
          cases hq : qName s j with
          | none => rw [hq] at hc; cases hc
          | some le => rw [hq] at hk; cases hk
        · cases h4 : isSign (bt s j) with
          | true => rw [rdAt_sign h h1 h2 h3 h4] at hk; cases hk
          | false => rw [rdAt_none h h1 h2 h3 h4] at hc; cases hc
  · omega
/-- The token at the end. -/
def endV (p : Nat × Nat) : Array Value := tokV ⟨0, ⟨#[]⟩, 0, 0, 0⟩ p
theorem TR.inside {s t : ByteArray} {o n : Nat} (h : In s t o) {i : Nat} {p : Nat × Nat} {R : TkR} (hR : TR t i p R) (hi : i ≤ t.size) : match R with
    | .inr _ => True
    | .inl l => ∃ L, l = L ++ [endV (plTo t p i t.size)] ∧ ∀ Y, TR s (o + t.size) ((plTo t p i t.size).1 + n, (plTo t p i t.size).2) (.inl Y) → TR s (o + i) (p.1 + n, p.2) (.inl (L.map (shT n) ++ Y)) := by
  induction hR with
  | bad => trivial
  | fin i p j hj hc hk =>
    have hjt := hj.top hi
    obtain rfl := rd_end hjt hc hk
    refine ⟨[], ?_, fun Y hY => ?_⟩
    · have : rdAt t t.size = ⟨0, ⟨#[]⟩, 0, t.size, 0⟩ := by unfold rdAt; rw [if_pos (Nat.le_refl _)]
      rw [this]; rfl
    · have hsk := (h.skip hj hi).2 (Nat.le_refl _)
      have hpl := h.pl p n i t.size hi (Nat.le_refl _)
      rw [← hpl] at hY
      show TR s (o + i) (p.1 + n, p.2) (.inl ([] ++ Y))
      rw [List.nil_append]
      generalize hYe : (Sum.inl Y : TkR) = Z at hY ⊢
      have hle : ∀ k, Skip s (o + t.size) k → plTo s (plTo s (p.1 + n, p.2) (o + i) (o + t.size)) (o + t.size) k = plTo s (p.1 + n, p.2) (o + i) k := fun k hk => plTo_trans _ _ _ _ _ (by omega) hk.le
      cases hY with
      | bad _ _ j' hj' hc' => cases hYe
      | fin _ _ j' hj' hc' hk' => rw [hle j' hj']; exact .fin _ _ j' (hsk j' hj') hc' hk'
      | more _ _ j' R' hj' hc' hk' h' =>
        rw [hle j' hj']
        refine .more _ _ j' R' (hsk j' hj') hc' hk' ?_
        have h3 := rdAt_kind s j' (hj'.top h.size) hc' hk'
        have h4 := hj'.le
        rw [plTo_trans _ _ _ _ _ (by omega) (by omega)] at h'
        exact h'
  | more i p j R hj hc hk h1 ih =>
    have hjt := hj.top hi
    have hlt : j < t.size := by
      rcases Nat.lt_or_ge j t.size with h2 | h2
      · exact h2
      · exfalso
        have : rdAt t j = ⟨0, ⟨#[]⟩, 0, j, 0⟩ := by unfold rdAt; rw [if_pos h2]
        rw [this] at hk; exact hk rfl
    have hst := rdAt_kind t j hjt hc hk
    have hle := rdAt_le t j hjt hc hk
    have hij := hj.le
    cases R with
    | inr f => trivial
    | inl l =>
      obtain ⟨L, hl, hY⟩ := ih hle
      rw [plTo_trans _ _ _ _ _ (by omega) hle] at hl hY
      refine ⟨tokV (rdAt t j) (plTo t p i j) :: L, by rw [hl]; rfl, fun Y hYs => ?_⟩
      have h2 := hY Y hYs
      have hsk := (h.skip hj hi).1 hlt
      have hrd := h.rd hlt hc
      have hpl := h.pl p n i j hij hjt
      have hpl2 := h.pl p n i (rdAt t j).stop (by omega) hle
      have h5 := TR.more (s := s) (o + i) (p.1 + n, p.2) (o + j) (.inl (L.map (shT n) ++ Y)) hsk (by rw [hrd]; exact hc) (by rw [hrd]; exact hk) (by rw [hrd]; show TR s (o + (rdAt t j).stop) (plTo s (p.1 + n, p.2) (o + i) (o + (rdAt t j).stop)) _; rw [hpl2]; exact h2)
      rw [hrd, tokV_at, hpl] at h5
      show TR s (o + i) (p.1 + n, p.2) (.inl (shT n (tokV (rdAt t j) (plTo t p i j)) :: (L.map (shT n) ++ Y)))
      rw [shT_tok]
      exact h5
/-- Two texts with a line feed between them. -/
theorem TR.both {a b : ByteArray} {x y : List (Array Value)} (hx : TR a 0 (1, 1) (.inl x)) (hy : TR b 0 (1, 1) (.inl y)) :
    ∃ (L : List (Array Value)) (pe : Nat × Nat), x = L ++ [endV pe] ∧ TR (a ++ ⟨#[10]⟩ ++ b) 0 (1, 1) (.inl (L ++ y.map (shT (1 + a.data.toList.count 10)))) := by
  obtain ⟨s, hs⟩ : ∃ s, s = a ++ (⟨#[10]⟩ : ByteArray) ++ b := ⟨_, rfl⟩
  rw [← hs]
  have hd : s.data = a.data ++ #[10] ++ b.data := by rw [hs]; simp [ByteArray.data_append]
  have hsz : s.size = a.size + 1 + b.size := by
    show s.data.size = a.data.size + 1 + b.data.size
    rw [hd]; simp
  have e1 : a.data.size = a.size := rfl
  have e2 : b.data.size = b.size := rfl
  have hby : ∀ (t : ByteArray) (i : Nat), byt t i = (t.data[i]?).getD 0 := fun t i => by unfold byt; rw [Array.getD_eq_getD_getElem?]
  have hb10 : bt s a.size = 10 := by
    rw [← byt_nat, hby, hd, Array.getElem?_append_left (by rw [Array.size_append]; simp), Array.getElem?_append_right (by omega)]
    simp
  have ha : In s a 0 := by
    refine ⟨fun i hi => ?_, by omega, .inr (by rw [Nat.zero_add]; exact hb10)⟩
    rw [hby, hby, hd, Array.append_assoc, Nat.zero_add, Array.getElem?_append_left hi]
  have hb : In s b (a.size + 1) := by
    refine ⟨fun i hi => ?_, by omega, .inl (by omega)⟩
    have e4 : (a.data ++ #[10]).size = a.size + 1 := by rw [Array.size_append]; rfl
    rw [hby, hby, hd, Array.getElem?_append_right (by omega), e4, show a.size + 1 + i - (a.size + 1) = i from by omega]
  obtain ⟨L, hL, hLY⟩ := TR.inside (n := 0) ha hx (Nat.zero_le _)
  refine ⟨L, _, hL, ?_⟩
  have hpl := (place_law a a.size (Nat.le_refl _)).1
  rw [List.take_of_length_le (by simp [e1])] at hpl
  obtain ⟨M, hM, hMY⟩ := TR.inside (n := 1 + a.data.toList.count 10) hb hy (Nat.zero_le _)
  have hend : TR s (a.size + 1 + b.size) ((plTo b (1, 1) 0 b.size).1 + (1 + a.data.toList.count 10), (plTo b (1, 1) 0 b.size).2) (.inl [endV ((plTo b (1, 1) 0 b.size).1 + (1 + a.data.toList.count 10), (plTo b (1, 1) 0 b.size).2)]) := by
    have hr : rdAt s s.size = ⟨0, ⟨#[]⟩, 0, s.size, 0⟩ := by unfold rdAt; rw [if_pos (Nat.le_refl _)]
    have h1 := TR.fin (s := s) s.size ((plTo b (1, 1) 0 b.size).1 + (1 + a.data.toList.count 10), (plTo b (1, 1) 0 b.size).2) s.size (.fin _ (Nat.le_refl _)) (by rw [hr]) (by rw [hr])
    rw [hr, plTo_self] at h1
    rw [← hsz]
    exact h1
  have h2 := hMY _ hend
  have e3 : M.map (shT (1 + a.data.toList.count 10)) ++ [endV ((plTo b (1, 1) 0 b.size).1 + (1 + a.data.toList.count 10), (plTo b (1, 1) 0 b.size).2)] = y.map (shT (1 + a.data.toList.count 10)) := by
    rw [hM, List.map_append]
    unfold endV
    simp only [List.map_cons, List.map_nil, shT_tok]
  rw [e3] at h2
  have h3 : TR s a.size ((plTo a (1, 1) 0 a.size).1 + 0, (plTo a (1, 1) 0 a.size).2) (.inl (y.map (shT (1 + a.data.toList.count 10)))) := by
    have hst : stepPl s ((plTo a (1, 1) 0 a.size).1 + 0, (plTo a (1, 1) 0 a.size).2) a.size = (1 + (1 + a.data.toList.count 10), 1) := by
      unfold stepPl
      rw [if_pos hb10]
      simp only [Prod.mk.injEq, and_true]
      omega
    rw [Nat.add_zero, ← hst] at h2
    have hsp : ∀ k, Skip s (a.size + 1) k → Skip s a.size k := fun k hk => .sp _ _ (by omega) (by rw [hb10]; decide) hk
    have h1p : stepPl s ((plTo a (1, 1) 0 a.size).1 + 0, (plTo a (1, 1) 0 a.size).2) a.size = plTo s ((plTo a (1, 1) 0 a.size).1 + 0, (plTo a (1, 1) 0 a.size).2) a.size (a.size + 1) := by
      rw [plTo_succ _ _ _ _ (Nat.le_refl _), plTo_self]
    rw [h1p] at h2
    generalize ((plTo a (1, 1) 0 a.size).1 + 0, (plTo a (1, 1) 0 a.size).2) = q at h2 ⊢
    have hle : ∀ k, Skip s (a.size + 1) k → plTo s (plTo s q a.size (a.size + 1)) (a.size + 1) k = plTo s q a.size k := fun k hk => plTo_trans _ _ _ _ _ (by omega) hk.le
    generalize hYe : (Sum.inl (y.map (shT (1 + a.data.toList.count 10))) : TkR) = Z at h2 ⊢
    cases h2 with
    | bad _ _ j' hj' hc' => cases hYe
    | fin _ _ j' hj' hc' hk' => rw [hle j' hj']; exact .fin _ _ j' (hsp j' hj') hc' hk'
    | more _ _ j' R' hj' hc' hk' h' =>
      rw [hle j' hj']
      refine .more _ _ j' R' (hsp j' hj') hc' hk' ?_
      have h3 := rdAt_kind s j' (hj'.top (by omega)) hc' hk'
      have h4 := hj'.le
      rw [plTo_trans _ _ _ _ _ (by omega) (by omega)] at h'
      exact h'
  have h4 := hLY _ (by rw [Nat.zero_add]; exact h3)
  have e4 : L.map (shT 0) = L := by
    have htk := hx.toks
    simp only [hL] at htk
    conv => rhs; rw [← List.map_id L]
    apply List.map_congr_left
    intro t ht
    obtain ⟨r, p, rfl⟩ := htk t (by simp [ht])
    rw [shT_tok]; rfl
  rw [e4] at h4
  exact h4
end Go.Proofs.YtldbnfbfhbkclaaDoor
