/-
  Chapter 6: strconv.ParseUint at base 16: what it hands back at a numeral.
-/
import Derived.Test.YtldbnfbfhbkclaaDoorLxG
import Derived.Lib.ConvBytes
import Derived.Lib.AtoiAllMem
import Derived.Laws.Closers25b
namespace Go.Proofs.YtldbnfbfhbkclaaDoor
open Go.RowKit Go.Shelf Go.Sort

theorem low_hex (c : Nat) (h : 97 ≤ c ∧ c ≤ 102) : bits .or .u8 (c : Int) 32 = (c : Int) := by
  have : ∀ d : Fin 6, bits .or .u8 ((97 + d.val : Nat) : Int) 32 = ((97 + d.val : Nat) : Int) := by decide +kernel
  have h1 := this ⟨c - 97, by omega⟩
  simp only at h1
  rw [show 97 + (c - 97) = c from by omega] at h1
  exact h1
theorem dval_hex {c : Nat} (h : dval c < 16) : (48 ≤ c ∧ c ≤ 57 ∧ dval c = c - 48) ∨ (97 ≤ c ∧ c ≤ 102 ∧ dval c = c - 87) := by
  unfold dval at *
  split at h
  · rename_i h1; rw [if_pos h1]; exact .inl ⟨h1.1, h1.2, rfl⟩
  · rename_i h1
    split at h
    · rename_i h2; rw [if_neg h1, if_pos h2]; exact .inr ⟨h2.1, h2.2, rfl⟩
    · omega

/-- What is kept of the reading up to k. -/
def P16 (bs : List UInt8) (acc k : Nat) : Prop := ∀ m, m < 18446744073709551616 → bs = digs 16 m → acc = val 16 (bs.take k)
theorem P16.next {bs : List UInt8} {acc k d : Nat} (h : P16 bs acc k) (hk : k < bs.length) (hd : dval (bs[k]).toNat < 16 → d = dval (bs[k]).toNat) : P16 bs (acc * 16 + d) (k + 1) := by
  intro m hm he
  rw [val_take_succ 16 bs k hk, ← h m hm he]
  have := digs_all 16 m (by omega) (by omega) bs[k] (by rw [← he]; exact List.getElem_mem hk)
  rw [hd this]
theorem P16.big {bs : List UInt8} {acc k : Nat} (h : P16 bs acc k) (hk : k < bs.length) (hb : 1152921504606846976 ≤ acc) (m : Nat) (hm : m < 18446744073709551616) : bs ≠ digs 16 m := by
  intro he
  have h1 := val_take_le 16 (by omega) bs (k + 1)
  rw [val_take_succ 16 bs k hk, ← h m hm he] at h1
  have h2 := val_digs 16 m (by omega) (by omega)
  rw [← he] at h2
  omega
theorem P16.bad {bs : List UInt8} {k : Nat} (hk : k < bs.length) (hd : ¬ dval (bs[k]).toNat < 16) (m : Nat) : bs ≠ digs 16 m := by
  intro he
  exact hd (digs_all 16 m (by omega) (by omega) bs[k] (by rw [← he]; exact List.getElem_mem hk))

/-- What no numeral ends in. -/
def badNum : Lib.NumEnd Nat := Lib.parseMag []
theorem badNum_ne (n : Nat) : badNum ≠ .ok n := by
  unfold badNum Lib.parseMag
  rw [if_pos rfl]
  intro h
  cases h
set_option maxHeartbeats 32000000 in
set_option maxRecDepth 100000 in
theorem pu16_any (t : ByteArray) (hmax : t.size ≤ 9223372036854775806) (w : World) :
    Calls Tryd.prog 68 #[.string t, .int .i64 16, .int .i64 64] w fun e w' => ∃ r : Lib.NumEnd Nat, e = .returned (Lib.uintTuple 97 r) ∧ (∀ n, r = .ok n → n < 18446744073709551616) ∧ (∀ m, m < 18446744073709551616 → t.data.toList = digs 16 m → r = .ok m) ∧ (w' = w ∨ w' = Lib.bytesWorld w 5 t) := by
  by_cases hne : t.size = 0
  · have he : t = ⟨#[]⟩ := by
      apply ByteArray.ext
      exact Array.eq_empty_of_size_eq_zero hne
    rw [he]
    refine (Tryd.internal_strconv_ParseUint_empty 16 64 w).mono ?_
    rintro e w' ⟨rfl, rfl⟩
    exact ⟨badNum, rfl, (fun n h => absurd h (badNum_ne n)), (fun m _ h => absurd h.symm (digs_ne 16 m)), .inl rfl⟩
  · have e75 : ∀ args w, (callFunc 75 args).run Tryd.prog w = .ok (.enter 75 args) w := enters_of Tryd.func75 (by kernel_rfl) rfl
    have hemp : t.toList.isEmpty = false := by
      rw [← decide_eq_emptyBytes]
      exact decide_eq_false (fun h => hne (by rw [h]; rfl))
    have hcv := Lib.run_convert_string_bytes (P := Tryd.prog) w 9 88 5 t Tryd.underlying9 Tryd.underlying88 Tryd.underlying5
    have hB : ∀ j, j < t.size → (Lib.bytesWorld w 5 t).cell? ⟨w.heap.size, j, none⟩ = some (.int .u8 (t.data.toList.getD j 0).toNat) := fun j hj => Lib.bytesWorld_cell w 5 t j hj
    obtain ⟨W1, hW1⟩ : ∃ W1, W1 = Lib.bytesWorld w 5 t := ⟨_, rfl⟩
    rw [← hW1] at hcv hB ⊢
    clear hW1
    obtain ⟨bs, hL⟩ : ∃ bs, bs = t.data.toList := ⟨_, rfl⟩
    have hLn : bs.length = t.size := by rw [hL, Lib.size_eq]
    rw [← hL] at hB ⊢
    clear hL
    have hmv : IntKind.u64.wrap (IntKind.u64.wrap 18446744073709551616 - 1) = 18446744073709551615 := by
      rw [IntKind.wrap_u64, IntKind.wrap_u64]
      decide
    go_enter Tryd.func68, Tryd.ntmps68
    go_wp2_with (fail)
    go_loop [12, 13, 101] (fun vu vn vi => ∃ (k acc : Nat) (a : Int), vu = .bool false ∧ vn = .int .u64 a ∧ vi = .int .i64 k ∧ k ≤ t.size ∧ Hid (a = (acc : Int) ∧ acc < 18446744073709551616 ∧ P16 bs acc k))
      (fun _ _ vi => t.size - (intOf vi).toNat)
    case atStart => exact ⟨0, 0, 0, rfl, rfl, rfl, by omega, rfl, by omega, fun m _ _ => rfl⟩
    case round =>
      obtain ⟨k, acc, a, rfl, rfl, rfl, hk, hh⟩ := hrel
      obtain ⟨ha, hacc, hP⟩ := hh.out
      clear hh
      have a0 : 0 ≤ a := by omega
      have a1 : a < 18446744073709551616 := by omega
      by_cases hkn : k < t.size
      · have hkl : k < bs.length := by omega
        have hc := hB k hkn
        have hget : bs.getD k 0 = bs[k] := by simp [List.getD, List.getElem?_eq_getElem hkl]
        rw [hget] at hc
        have hnx := fun d => P16.next (d := d) hP hkl
        have hbig := P16.big hP hkl
        have hbad := P16.bad (bs := bs) hkl
        obtain ⟨c, hce⟩ : ∃ c, c = (bs[k]).toNat := ⟨_, rfl⟩
        have hc256 : c < 256 := by rw [hce]; exact (bs[k]).toNat_lt
        rw [← hce] at hc hnx hbad
        have HNX := Lib.hid hnx; have HBIG := Lib.hid hbig; have HBAD := Lib.hid hbad; have HP := Lib.hid hP
        clear hB hget hnx hbig hbad hce hP
        by_cases hdig : 48 ≤ c ∧ c ≤ 57
        · obtain ⟨hd0, hd1⟩ := hdig
          have i1 : (48 : Int) ≤ (c : Int) := by omega
          have i2 : (c : Int) ≤ 57 := by omega
          have wd : IntKind.u8.wrap ((c : Int) - 48) = (c : Int) - 48 := by rw [IntKind.wrap_u8]; omega
          have n95 : ¬ (c : Int) = 95 := by omega
          have td : ¬ (16 : Int) ≤ (c : Int) - 48 := by omega
          by_cases hcut : 1152921504606846976 ≤ acc
          · have icut : 1152921504606846976 ≤ a := by omega
            have HF : Hid (∀ m, m < 18446744073709551616 → bs = digs 16 m → (Lib.NumEnd.range : Lib.NumEnd Nat) = .ok m) := Lib.hid (fun m hm he => absurd he (HBIG.out hcut m hm))
            clear hcut hacc ha
            go_wp2_with (fail)
            go_ret2
            exact ⟨.range, rfl, (fun n h => by cases h), HF.out, .inr rfl⟩
          · have icut : ¬ 1152921504606846976 ≤ a := by omega
            have HN : Hid (a * 16 + ((c : Int) - 48) = ((acc * 16 + (c - 48) : Nat) : Int) ∧ acc * 16 + (c - 48) < 18446744073709551616 ∧ P16 bs (acc * 16 + (c - 48)) (k + 1)) := Lib.hid ⟨by omega, by omega, HNX.out _ (fun h => by rcases dval_hex h with h | h <;> omega)⟩
            have w2 : IntKind.u64.wrap (a * 16) = a * 16 := by rw [IntKind.wrap_u64]; omega
            have w3 : IntKind.u64.wrap (a * 16 + ((c : Int) - 48)) = a * 16 + ((c : Int) - 48) := by rw [IntKind.wrap_u64]; omega
            have o1 : ¬ a * 16 + ((c : Int) - 48) < a * 16 := by omega
            have o2 : ¬ 18446744073709551615 < a * 16 + ((c : Int) - 48) := by omega
            clear hcut hacc ha
            go_wp2_with (fail)
            refine ⟨⟨k + 1, _, _, rfl, rfl, by go_num, by omega, HN⟩, by simp [intOf]; omega⟩
        · have hLL : ∃ l : Int, bits .or .u8 (c : Int) 32 = l := ⟨_, rfl⟩
          obtain ⟨l, hl⟩ := hLL
          have l0 : 0 ≤ l := by rw [← hl]; exact bits_lo_u8 _ _ _
          have l1 : l ≤ 255 := by rw [← hl]; exact bits_hi_u8 _ _ _
          have hlow : 97 ≤ c ∧ c ≤ 102 → l = (c : Int) := fun h => by rw [← hl]; exact low_hex c h
          have HL := Lib.hid hl; have HLO := Lib.hid hlow
          have HDG : Hid (¬ (48 ≤ c ∧ c ≤ 57)) := Lib.hid hdig
          have tg : (decide ((48 : Int) ≤ (c : Int)) && decide ((c : Int) ≤ 57)) = false := by simp; omega
          clear hlow
          by_cases h95 : c = 95
          · subst h95
            have hl2 : l = 127 := by rw [← hl]; decide
            subst hl2
            have HF : Hid (∀ m, m < 18446744073709551616 → bs = digs 16 m → badNum = .ok m) := Lib.hid (fun m hm he => absurd he (HBAD.out (by decide) m))
            clear hdig hacc ha tg hl
            go_wp2_with (go_at_call 75; go_loud (refine (Tryd.internal_strconv_lower _ _).mono ?_; rintro e w' ⟨rfl, rfl⟩))
            all_goals
              go_ret2
              exact ⟨badNum, rfl, (fun n h => absurd h (badNum_ne n)), HF.out, .inr rfl⟩
          · have n95 : ¬ (c : Int) = 95 := by omega
            by_cases h48 : 48 ≤ c
            · have t48 : (48 : Int) ≤ (c : Int) := by omega
              have t57 : ¬ (c : Int) ≤ 57 := by omega
              by_cases h97 : 97 ≤ l
              · by_cases h122 : l ≤ 122
                · have wa : IntKind.u8.wrap (l - 97) = l - 97 := by rw [IntKind.wrap_u8]; omega
                  have wb : IntKind.u8.wrap (l - 97 + 10) = l - 97 + 10 := by rw [IntKind.wrap_u8]; omega
                  by_cases h16 : 16 ≤ l - 97 + 10
                  · have HF : Hid (∀ m, m < 18446744073709551616 → bs = digs 16 m → badNum = .ok m) := Lib.hid (fun m hm he => absurd he (HBAD.out (fun h => by
                      rcases dval_hex h with h | h
                      · exact hdig ⟨h.1, h.2.1⟩
                      · have := HLO.out ⟨h.1, h.2.1⟩; omega) m))
                    clear hdig hacc ha hl tg h48
                    go_wp2_with (go_at_call 75; go_loud (refine (Tryd.internal_strconv_lower _ _).mono ?_; rintro e w' ⟨rfl, rfl⟩; rw [HL.out]))
                    go_ret2
                    exact ⟨badNum, rfl, (fun n h => absurd h (badNum_ne n)), HF.out, .inr rfl⟩
                  · obtain ⟨d, hd⟩ : ∃ d : Nat, l - 97 + 10 = (d : Int) := ⟨(l - 97 + 10).toNat, by omega⟩
                    by_cases hcut : 1152921504606846976 ≤ acc
                    · have icut : 1152921504606846976 ≤ a := by omega
                      have HF : Hid (∀ m, m < 18446744073709551616 → bs = digs 16 m → (Lib.NumEnd.range : Lib.NumEnd Nat) = .ok m) := Lib.hid (fun m hm he => absurd he (HBIG.out hcut m hm))
                      clear hcut hacc ha hdig hl tg hd h48
                      go_wp2_with (go_at_call 75; go_loud (refine (Tryd.internal_strconv_lower _ _).mono ?_; rintro e w' ⟨rfl, rfl⟩; rw [HL.out]))
                      go_ret2
                      exact ⟨.range, rfl, (fun n h => by cases h), HF.out, .inr rfl⟩
                    · have icut : ¬ 1152921504606846976 ≤ a := by omega
                      have HN : Hid (a * 16 + (l - 97 + 10) = ((acc * 16 + d : Nat) : Int) ∧ acc * 16 + d < 18446744073709551616 ∧ P16 bs (acc * 16 + d) (k + 1)) := Lib.hid ⟨by omega, by omega, HNX.out _ (fun h => by
                        rcases dval_hex h with h | h
                        · exact absurd ⟨h.1, h.2.1⟩ hdig
                        · have := HLO.out ⟨h.1, h.2.1⟩; omega)⟩
                      have w2 : IntKind.u64.wrap (a * 16) = a * 16 := by rw [IntKind.wrap_u64]; omega
                      have w3 : IntKind.u64.wrap (a * 16 + (l - 97 + 10)) = a * 16 + (l - 97 + 10) := by rw [IntKind.wrap_u64]; omega
                      have w4 : IntKind.u64.wrap (l - 97 + 10) = l - 97 + 10 := by rw [IntKind.wrap_u64]; omega
                      have o1 : ¬ a * 16 + (l - 97 + 10) < a * 16 := by omega
                      have o2 : ¬ 18446744073709551615 < a * 16 + (l - 97 + 10) := by omega
                      clear hcut hacc ha hdig hl tg hd h48
                      go_wp2_with (go_at_call 75; go_loud (refine (Tryd.internal_strconv_lower _ _).mono ?_; rintro e w' ⟨rfl, rfl⟩; rw [HL.out]))
                      refine ⟨⟨k + 1, _, _, rfl, rfl, by go_num, by omega, HN⟩, by simp [intOf]; omega⟩
                · have HF : Hid (∀ m, m < 18446744073709551616 → bs = digs 16 m → badNum = .ok m) := Lib.hid (fun m hm he => absurd he (HBAD.out (fun h => by
                    rcases dval_hex h with h | h
                    · exact hdig ⟨h.1, h.2.1⟩
                    · have := HLO.out ⟨h.1, h.2.1⟩; omega) m))
                  clear hdig hacc ha hl tg h48
                  go_wp2_with (go_at_call 75; go_loud (refine (Tryd.internal_strconv_lower _ _).mono ?_; rintro e w' ⟨rfl, rfl⟩; rw [HL.out]))
                  go_ret2
                  exact ⟨badNum, rfl, (fun n h => absurd h (badNum_ne n)), HF.out, .inr rfl⟩
              · have HF : Hid (∀ m, m < 18446744073709551616 → bs = digs 16 m → badNum = .ok m) := Lib.hid (fun m hm he => absurd he (HBAD.out (fun h => by
                  rcases dval_hex h with h | h
                  · exact hdig ⟨h.1, h.2.1⟩
                  · have := HLO.out ⟨h.1, h.2.1⟩; omega) m))
                clear hdig hacc ha hl tg h48
                go_wp2_with (go_at_call 75; go_loud (refine (Tryd.internal_strconv_lower _ _).mono ?_; rintro e w' ⟨rfl, rfl⟩; rw [HL.out]))
                go_ret2
                exact ⟨badNum, rfl, (fun n h => absurd h (badNum_ne n)), HF.out, .inr rfl⟩
            · have t48 : ¬ (48 : Int) ≤ (c : Int) := by omega
              by_cases h97 : 97 ≤ l
              · by_cases h122 : l ≤ 122
                · have wa : IntKind.u8.wrap (l - 97) = l - 97 := by rw [IntKind.wrap_u8]; omega
                  have wb : IntKind.u8.wrap (l - 97 + 10) = l - 97 + 10 := by rw [IntKind.wrap_u8]; omega
                  by_cases h16 : 16 ≤ l - 97 + 10
                  · have HF : Hid (∀ m, m < 18446744073709551616 → bs = digs 16 m → badNum = .ok m) := Lib.hid (fun m hm he => absurd he (HBAD.out (fun h => by
                      rcases dval_hex h with h | h
                      · exact hdig ⟨h.1, h.2.1⟩
                      · have := HLO.out ⟨h.1, h.2.1⟩; omega) m))
                    clear hdig hacc ha hl tg h48
                    go_wp2_with (go_at_call 75; go_loud (refine (Tryd.internal_strconv_lower _ _).mono ?_; rintro e w' ⟨rfl, rfl⟩; rw [HL.out]))
                    go_ret2
                    exact ⟨badNum, rfl, (fun n h => absurd h (badNum_ne n)), HF.out, .inr rfl⟩
                  · obtain ⟨d, hd⟩ : ∃ d : Nat, l - 97 + 10 = (d : Int) := ⟨(l - 97 + 10).toNat, by omega⟩
                    by_cases hcut : 1152921504606846976 ≤ acc
                    · have icut : 1152921504606846976 ≤ a := by omega
                      have HF : Hid (∀ m, m < 18446744073709551616 → bs = digs 16 m → (Lib.NumEnd.range : Lib.NumEnd Nat) = .ok m) := Lib.hid (fun m hm he => absurd he (HBIG.out hcut m hm))
                      clear hcut hacc ha hdig hl tg hd h48
                      go_wp2_with (go_at_call 75; go_loud (refine (Tryd.internal_strconv_lower _ _).mono ?_; rintro e w' ⟨rfl, rfl⟩; rw [HL.out]))
                      go_ret2
                      exact ⟨.range, rfl, (fun n h => by cases h), HF.out, .inr rfl⟩
                    · have icut : ¬ 1152921504606846976 ≤ a := by omega
                      have HN : Hid (a * 16 + (l - 97 + 10) = ((acc * 16 + d : Nat) : Int) ∧ acc * 16 + d < 18446744073709551616 ∧ P16 bs (acc * 16 + d) (k + 1)) := Lib.hid ⟨by omega, by omega, HNX.out _ (fun h => by
                        rcases dval_hex h with h | h
                        · exact absurd ⟨h.1, h.2.1⟩ hdig
                        · have := HLO.out ⟨h.1, h.2.1⟩; omega)⟩
                      have w2 : IntKind.u64.wrap (a * 16) = a * 16 := by rw [IntKind.wrap_u64]; omega
                      have w3 : IntKind.u64.wrap (a * 16 + (l - 97 + 10)) = a * 16 + (l - 97 + 10) := by rw [IntKind.wrap_u64]; omega
                      have w4 : IntKind.u64.wrap (l - 97 + 10) = l - 97 + 10 := by rw [IntKind.wrap_u64]; omega
                      have o1 : ¬ a * 16 + (l - 97 + 10) < a * 16 := by omega
                      have o2 : ¬ 18446744073709551615 < a * 16 + (l - 97 + 10) := by omega
                      clear hcut hacc ha hdig hl tg hd h48
                      go_wp2_with (go_at_call 75; go_loud (refine (Tryd.internal_strconv_lower _ _).mono ?_; rintro e w' ⟨rfl, rfl⟩; rw [HL.out]))
                      refine ⟨⟨k + 1, _, _, rfl, rfl, by go_num, by omega, HN⟩, by simp [intOf]; omega⟩
                · have HF : Hid (∀ m, m < 18446744073709551616 → bs = digs 16 m → badNum = .ok m) := Lib.hid (fun m hm he => absurd he (HBAD.out (fun h => by
                    rcases dval_hex h with h | h
                    · exact hdig ⟨h.1, h.2.1⟩
                    · have := HLO.out ⟨h.1, h.2.1⟩; omega) m))
                  clear hdig hacc ha hl tg h48
                  go_wp2_with (go_at_call 75; go_loud (refine (Tryd.internal_strconv_lower _ _).mono ?_; rintro e w' ⟨rfl, rfl⟩; rw [HL.out]))
                  go_ret2
                  exact ⟨badNum, rfl, (fun n h => absurd h (badNum_ne n)), HF.out, .inr rfl⟩
              · have HF : Hid (∀ m, m < 18446744073709551616 → bs = digs 16 m → badNum = .ok m) := Lib.hid (fun m hm he => absurd he (HBAD.out (fun h => by
                  rcases dval_hex h with h | h
                  · exact hdig ⟨h.1, h.2.1⟩
                  · have := HLO.out ⟨h.1, h.2.1⟩; omega) m))
                clear hdig hacc ha hl tg h48
                go_wp2_with (go_at_call 75; go_loud (refine (Tryd.internal_strconv_lower _ _).mono ?_; rintro e w' ⟨rfl, rfl⟩; rw [HL.out]))
                go_ret2
                exact ⟨badNum, rfl, (fun n h => absurd h (badNum_ne n)), HF.out, .inr rfl⟩
      · have hkk : k = t.size := by omega
        subst hkk
        have hall : bs.take t.size = bs := List.take_of_length_le (by omega)
        have HF : Hid (∀ m, m < 18446744073709551616 → bs = digs 16 m → (Lib.NumEnd.ok acc : Lib.NumEnd Nat) = .ok m) := Lib.hid (fun m hm he => by
          have h1 := hP m hm he
          rw [hall] at h1
          have h2 := val_digs 16 m (by omega) (by omega)
          rw [← he] at h2
          rw [h1, h2])
        subst ha
        have HC := Lib.hid hacc
        clear hP hall hacc a0 a1
        go_wp2_with (fail)
        go_ret2
        exact ⟨.ok acc, rfl, (fun n h => by injection h with h; rw [← h]; exact HC.out), HF.out, .inr rfl⟩
end Go.Proofs.YtldbnfbfhbkclaaDoor
