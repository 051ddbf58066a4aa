/-
  The image that the law makes: its bytes.
-/
import Derived.Test.YthmenbehpblljaaTabGc
namespace Go.Proofs.Ythmenbehpblljaa
open Go.RowKit Go.Shelf

def leInts (x : Int) (n : Nat) : List Int := (List.range n).map fun k => x / 2 ^ (8 * k) % 256
theorem leInts_length (x : Int) (n : Nat) : (leInts x n).length = n := by simp [leInts]
theorem leVals_map (x : Int) (n : Nat) : leVals x n = (leInts x n).map (Value.int .u8) := by simp [leVals, leInts]
theorem leInts_get (x : Int) (n i : Nat) (h : i < n) : (leInts x n).getD i 0 = x / 2 ^ (8 * i) % 256 := by simp [leInts, List.getD, h]
theorem leInts_bd (x : Int) (n : Nat) : ∀ y ∈ leInts x n, 0 ≤ y ∧ y ≤ 255 := by
  intro y hy
  obtain ⟨k, _, rfl⟩ := List.mem_map.1 hy
  omega

theorem leSum_congr (f g : Nat → Int) (n : Nat) (h : ∀ i, i < n → f i = g i) : leSum f n = leSum g n := by
  induction n with
  | zero => rfl
  | succ n ih =>
    simp only [leSum]
    rw [ih (fun i hi => h i (by omega)), h n (by omega)]
theorem leSum_le (v : Nat) (n : Nat) : leSum (fun i => (v : Int) / 2 ^ (8 * i) % 256) n = ((v % 2 ^ (8 * n) : Nat) : Int) := by
  induction n with
  | zero => simp [leSum, Nat.mod_one]
  | succ n ih =>
    rw [show leSum (fun i => (v : Int) / 2 ^ (8 * i) % 256) (n + 1) = leSum (fun i => (v : Int) / 2 ^ (8 * i) % 256) n + (v : Int) / 2 ^ (8 * n) % 256 * 2 ^ (8 * n) from rfl, ih, show 2 ^ (8 * (n + 1)) = 2 ^ (8 * n) * 256 from by rw [show 8 * (n + 1) = 8 * n + 8 from by omega, Nat.pow_add], Nat.mod_mul]
    rw [Int.natCast_add, Int.natCast_mul, Int.natCast_emod (v / 2 ^ (8 * n)), Int.natCast_ediv, Int.natCast_pow, Int.mul_comm (((2 : Nat) : Int) ^ (8 * n))]
    rfl
theorem seg (l A B : List Int) (v : Int) (n x : Nat) (hl : l = A ++ (leInts v n ++ B)) (hx : x = A.length) (h0 : 0 ≤ v) (h1 : v < 2 ^ (8 * n)) : leSum (fun i => l.getD (x + i) 0) n = v := by
  obtain ⟨m, rfl⟩ := Int.eq_ofNat_of_zero_le h0
  rw [leSum_congr _ (fun i => (m : Int) / 2 ^ (8 * i) % 256) n (fun i hi => ?_), leSum_le, Nat.mod_eq_of_lt (by exact_mod_cast h1)]
  rw [← leInts_get (m : Int) n i hi, hl, hx]
  simp only [List.getD]
  rw [List.getElem?_append_right (by omega), Nat.add_sub_cancel_left, List.getElem?_append_left (by rw [leInts_length]; exact hi)]
theorem seg0 (l A B : List Int) (n x : Nat) (hl : l = A ++ (leInts 0 n ++ B)) (hx : x = A.length) : NoBits l x n := by
  intro i hi
  have : (leInts 0 n).getD i 0 = 0 := by rw [leInts_get 0 n i hi]; simp
  refine Eq.trans ?_ this
  rw [hl, hx]
  simp only [List.getD]
  rw [List.getElem?_append_right (by omega), Nat.add_sub_cancel_left, List.getElem?_append_left (by rw [leInts_length]; exact hi)]

def magicInts : List Int := [70, 78, 83, 84]
def entInts (c : Nat → Nat) (s : Nat) : List Int := leInts (nextOf c (s - 1) : Int) 4 ++ leInts (c s : Int) 4
def headInts (N : Nat) (frame : Int) : List Int := magicInts ++ leInts 1 2 ++ leInts 80 2 ++ leInts ((N : Int) + 4) 4 ++ leInts 0 4 ++ leInts frame 8 ++ leInts 0 8
def hdrInts (c : Nat → Nat) (frame : Int) : List Int := headInts (nextOf c 6) frame ++ (secUpto 6).flatMap fun x => entInts c x.1
def imgInts (c : Nat → Nat) (frame : Int) : List Int := hdrInts c frame ++ List.replicate (nextOf c 6 + 4 - 80) 0

theorem hdrVals_map (c : Nat → Nat) (frame : Int) : hdrVals c frame = (hdrInts c frame).map (Value.int .u8) := by
  simp only [hdrVals, hdrInts, headVals, headInts, entsVals, entVals, entInts, leVals_map, List.map_append, List.map_flatMap]
  rfl
theorem hdrInts_length (c : Nat → Nat) (frame : Int) : (hdrInts c frame).length = 80 := by
  have := congrArg List.length (hdrVals_map c frame)
  rw [List.length_map] at this
  rw [← this, hdrVals, List.length_append, headVals_length, entsVals_length, secUpto_len]
theorem imgInts_length (c : Nat → Nat) (frame : Int) : (imgInts c frame).length = nextOf c 6 + 4 := by
  have := nextOf_ge c 6
  rw [imgInts, List.length_append, hdrInts_length, List.length_replicate]
  omega
theorem bd_append {a b : List Int} (h : ∀ y ∈ a, 0 ≤ y ∧ y ≤ 255) (k : ∀ y ∈ b, 0 ≤ y ∧ y ≤ 255) : ∀ y ∈ a ++ b, 0 ≤ y ∧ y ≤ 255 := fun y hy => (List.mem_append.1 hy).elim (h y) (k y)
theorem imgInts_bd (c : Nat → Nat) (frame : Int) : ∀ y ∈ imgInts c frame, 0 ≤ y ∧ y ≤ 255 := by
  refine bd_append (bd_append ?_ ?_) ?_
  · unfold headInts
    refine bd_append (bd_append (bd_append (bd_append (bd_append (bd_append ?_ (leInts_bd _ _)) (leInts_bd _ _)) (leInts_bd _ _)) (leInts_bd _ _)) (leInts_bd _ _)) (leInts_bd _ _)
    intro y hy
    simp [magicInts] at hy
    omega
  · intro y hy
    obtain ⟨x, _, hx⟩ := List.mem_flatMap.1 hy
    exact bd_append (leInts_bd _ _) (leInts_bd _ _) y hx
  · intro y hy
    have := (List.mem_replicate.1 hy).2
    omega

theorem img_ents (c : Nat → Nat) (frame : Int) (s : Nat) (h1 : 1 ≤ s) (h2 : s ≤ 6) : ∃ A B : List Int, A.length = 32 + 8 * (s - 1) ∧ imgInts c frame = A ++ (leInts (nextOf c (s - 1) : Int) 4 ++ (leInts (c s : Int) 4 ++ B)) := by
  have hh : ∀ N, (headInts N frame).length = 32 := fun N => by simp [headInts, magicInts, leInts_length]
  rcases six s h1 h2 with rfl | rfl | rfl | rfl | rfl | rfl
  · exact ⟨headInts (nextOf c 6) frame, entInts c 2 ++ entInts c 3 ++ entInts c 4 ++ entInts c 5 ++ entInts c 6 ++ List.replicate (nextOf c 6 + 4 - 80) 0, by simp [hh], by simp [imgInts, hdrInts, secUpto6, entInts]⟩
  · exact ⟨headInts (nextOf c 6) frame ++ entInts c 1, entInts c 3 ++ entInts c 4 ++ entInts c 5 ++ entInts c 6 ++ List.replicate (nextOf c 6 + 4 - 80) 0, by simp [hh, entInts, leInts_length], by simp [imgInts, hdrInts, secUpto6, entInts]⟩
  · exact ⟨headInts (nextOf c 6) frame ++ entInts c 1 ++ entInts c 2, entInts c 4 ++ entInts c 5 ++ entInts c 6 ++ List.replicate (nextOf c 6 + 4 - 80) 0, by simp [hh, entInts, leInts_length], by simp [imgInts, hdrInts, secUpto6, entInts]⟩
  · exact ⟨headInts (nextOf c 6) frame ++ entInts c 1 ++ entInts c 2 ++ entInts c 3, entInts c 5 ++ entInts c 6 ++ List.replicate (nextOf c 6 + 4 - 80) 0, by simp [hh, entInts, leInts_length], by simp [imgInts, hdrInts, secUpto6, entInts]⟩
  · exact ⟨headInts (nextOf c 6) frame ++ entInts c 1 ++ entInts c 2 ++ entInts c 3 ++ entInts c 4, entInts c 6 ++ List.replicate (nextOf c 6 + 4 - 80) 0, by simp [hh, entInts, leInts_length], by simp [imgInts, hdrInts, secUpto6, entInts]⟩
  · exact ⟨headInts (nextOf c 6) frame ++ entInts c 1 ++ entInts c 2 ++ entInts c 3 ++ entInts c 4 ++ entInts c 5, List.replicate (nextOf c 6 + 4 - 80) 0, by simp [hh, entInts, leInts_length], by simp [imgInts, hdrInts, secUpto6, entInts]⟩

theorem img_ok (c : Nat → Nat) (frame : Int) (hc : CountsOk c) (hf0 : 0 ≤ frame) (hf1 : frame ≤ 18446744073709551615) : ImgOk c frame (imgInts c frame) := by
  have hcm : ∀ s, c s ≤ 1024 := fun s => Nat.le_trans (hc s) (secLimit_le s)
  have hN := nextOf_le c hcm 6
  have h80 := nextOf_ge c 6
  have hlen := imgInts_length c frame
  obtain ⟨R, hR⟩ : ∃ R, R = ((secUpto 6).flatMap fun x => entInts c x.1) ++ List.replicate (nextOf c 6 + 4 - 80) 0 := ⟨_, rfl⟩
  have himg : imgInts c frame = magicInts ++ (leInts 1 2 ++ (leInts 80 2 ++ (leInts ((nextOf c 6 : Int) + 4) 4 ++ (leInts 0 4 ++ (leInts frame 8 ++ (leInts 0 8 ++ R)))))) := by
    rw [hR]; simp [imgInts, hdrInts, headInts, List.append_assoc]
  refine ⟨⟨by omega, by omega, fun j => ?_, fun j hj => ?_, ?_, ?_, ?_, ?_, ?_⟩, ?_, fun s h1 h2 => ?_, fun s h1 h2 => ?_, hlen⟩
  · simp only [List.getD]
    cases hq : (imgInts c frame)[j]? with
    | none => simp
    | some y => exact imgInts_bd c frame y (List.mem_of_getElem? hq)
  · rw [himg]
    match j, hj with
    | 0, _ => rfl
    | 1, _ => rfl
    | 2, _ => rfl
    | 3, _ => rfl
  · exact seg _ magicInts _ 1 2 4 himg rfl (by omega) (by omega)
  · exact seg _ (magicInts ++ leInts 1 2) _ 80 2 6 (by rw [himg]; simp [List.append_assoc]; rfl) (by simp [magicInts, leInts_length]) (by omega) (by omega)
  · rw [hlen]
    have := seg (imgInts c frame) (magicInts ++ leInts 1 2 ++ leInts 80 2) _ ((nextOf c 6 : Int) + 4) 4 8 (by rw [himg]; simp [List.append_assoc]; rfl) (by simp [magicInts, leInts_length]) (by omega) (by omega)
    rw [show ((8 : Int).toNat) = 8 from rfl, this]
    push_cast; rfl
  · exact seg0 _ (magicInts ++ leInts 1 2 ++ leInts 80 2 ++ leInts ((nextOf c 6 : Int) + 4) 4) _ 4 12 (by rw [himg]; simp [List.append_assoc]; rfl) (by simp [magicInts, leInts_length])
  · exact seg0 _ (magicInts ++ leInts 1 2 ++ leInts 80 2 ++ leInts ((nextOf c 6 : Int) + 4) 4 ++ leInts 0 4 ++ leInts frame 8) _ 8 24 (by rw [himg]; simp [List.append_assoc]; rfl) (by simp [magicInts, leInts_length])
  · exact seg _ (magicInts ++ leInts 1 2 ++ leInts 80 2 ++ leInts ((nextOf c 6 : Int) + 4) 4 ++ leInts 0 4) _ frame 8 16 (by rw [himg]; simp [List.append_assoc]; rfl) (by simp [magicInts, leInts_length]) hf0 (by omega)
  · obtain ⟨A, B, hA, he⟩ := img_ents c frame s h1 h2
    have hO := nextOf_le c hcm (s - 1)
    exact seg _ A _ _ 4 _ he (by rw [hA]; omega) (by omega) (by omega)
  · obtain ⟨A, B, hA, he⟩ := img_ents c frame s h1 h2
    have hO := hcm s
    exact seg _ (A ++ leInts (nextOf c (s - 1) : Int) 4) _ _ 4 _ (by rw [he, List.append_assoc]) (by rw [List.length_append, leInts_length, hA]; omega) (by omega) (by omega)
end Go.Proofs.Ythmenbehpblljaa
