/-
  Plain mathematics of the checksum: polynomials over two elements as 32 bits; the product is commutative and associative; powers add.
-/
namespace Go.Proofs.Ythmenbehpblljaa.Crc

abbrev B32 := BitVec 32
def poly : B32 := 0xEDB88320#32
/-- The register shifted by one bit. -/
def sh (r : B32) : B32 := (r >>> 1) ^^^ (if r.getLsbD 0 then poly else 0#32)
/-- .. by k bits. -/
def shN : Nat → B32 → B32
  | 0, r => r
  | k + 1, r => sh (shN k r)
/-- The product, k rounds of it. -/
def mulN (a b : B32) : Nat → B32
  | 0 => 0#32
  | k + 1 => mulN a b k ^^^ (if a.getLsbD (31 - k) then shN k b else 0#32)
def mul (a b : B32) : B32 := mulN a b 32
def e0 : B32 := 0x80000000#32
def pw (q : B32) : Nat → B32
  | 0 => e0
  | n + 1 => mul (pw q n) q

theorem ite_xor (c : Bool) (x y : B32) : (if c then x ^^^ y else 0#32) = (if c then x else 0#32) ^^^ (if c then y else 0#32) := by cases c <;> simp
theorem xor4 (a b c d : B32) : (a ^^^ b) ^^^ (c ^^^ d) = (a ^^^ c) ^^^ (b ^^^ d) := by
  rw [BitVec.xor_assoc, BitVec.xor_assoc, ← BitVec.xor_assoc b, ← BitVec.xor_assoc c, BitVec.xor_comm b c]

theorem sh_xor (a b : B32) : sh (a ^^^ b) = sh a ^^^ sh b := by
  unfold sh
  rw [BitVec.ushiftRight_xor_distrib, BitVec.getLsbD_xor, xor4]
  congr 1
  cases a.getLsbD 0 <;> cases b.getLsbD 0 <;> simp
theorem sh_zero : sh 0#32 = 0#32 := by decide
theorem sh_ite (c : Bool) (x : B32) : sh (if c then x else 0#32) = if c then sh x else 0#32 := by cases c <;> simp [sh_zero]
theorem shN_xor (k : Nat) (a b : B32) : shN k (a ^^^ b) = shN k a ^^^ shN k b := by
  induction k with
  | zero => rfl
  | succ k ih => simp only [shN, ih, sh_xor]
theorem shN_sh (k : Nat) (a : B32) : shN k (sh a) = sh (shN k a) := by
  induction k with
  | zero => rfl
  | succ k ih => simp only [shN, ih]

theorem mulN_xor_left (a a' b : B32) (k : Nat) : mulN (a ^^^ a') b k = mulN a b k ^^^ mulN a' b k := by
  induction k with
  | zero => simp [mulN]
  | succ k ih =>
    simp only [mulN, ih, BitVec.getLsbD_xor]
    rw [xor4]
    congr 1
    cases a.getLsbD (31 - k) <;> cases a'.getLsbD (31 - k) <;> simp
theorem mul_xor_left (a a' b : B32) : mul (a ^^^ a') b = mul a b ^^^ mul a' b := mulN_xor_left a a' b 32
theorem mulN_xor_right (a b b' : B32) (k : Nat) : mulN a (b ^^^ b') k = mulN a b k ^^^ mulN a b' k := by
  induction k with
  | zero => simp [mulN]
  | succ k ih => simp only [mulN, ih, shN_xor, ite_xor, xor4]
theorem mul_xor_right (a b b' : B32) : mul a (b ^^^ b') = mul a b ^^^ mul a b' := mulN_xor_right a b b' 32
theorem mulN_sh (a b : B32) (k : Nat) : mulN a (sh b) k = sh (mulN a b k) := by
  induction k with
  | zero => simp [mulN, sh_zero]
  | succ k ih => simp only [mulN, ih, shN_sh, sh_xor, sh_ite]
theorem mul_sh (a b : B32) : mul a (sh b) = sh (mul a b) := mulN_sh a b 32
theorem mul_shN (a b : B32) (k : Nat) : mul a (shN k b) = shN k (mul a b) := by
  induction k with
  | zero => rfl
  | succ k ih => simp only [shN, mul_sh, ih]
theorem mulN_zero (a : B32) (k : Nat) : mulN a 0#32 k = 0#32 := by
  have h : ∀ k, shN k 0#32 = 0#32 := by
    intro k
    induction k with
    | zero => rfl
    | succ k ih => rw [shN, ih, sh_zero]
  induction k with
  | zero => rfl
  | succ k ih => rw [mulN, ih, h]; simp
theorem mul_ite (a x : B32) (c : Bool) : mul a (if c then x else 0#32) = if c then mul a x else 0#32 := by
  cases c
  · simpa [mul] using mulN_zero a 32
  · simp
/-- a product taken into a product -/
theorem mul_mulN (a b c : B32) (k : Nat) : mul a (mulN b c k) = mulN b (mul a c) k := by
  induction k with
  | zero => exact mulN_zero a 32
  | succ k ih => simp only [mulN, mul_xor_right, ih, mul_ite, mul_shN]
theorem mul_mul (a b c : B32) : mul a (mul b c) = mul b (mul a c) := mul_mulN a b c 32

theorem shN_e0 : ∀ k, k < 32 → shN k e0 = BitVec.twoPow 32 (31 - k) := by decide
theorem mulN_e0_bit (a : B32) : ∀ k, k ≤ 32 → ∀ j, j < 32 → (mulN a e0 k).getLsbD j = (decide (32 - k ≤ j) && a.getLsbD j) := by
  intro k
  induction k with
  | zero =>
    intro _ j hj
    simp [mulN]
    omega
  | succ k ih =>
    intro hk j hj
    rw [mulN, BitVec.getLsbD_xor, ih (by omega) j hj, shN_e0 k (by omega)]
    by_cases h : j = 31 - k
    · subst h
      have h1 : decide (32 - k ≤ 31 - k) = false := decide_eq_false (by omega)
      have h2 : decide (32 - (k + 1) ≤ 31 - k) = true := decide_eq_true (by omega)
      rw [h1, h2]
      cases hb : a.getLsbD (31 - k)
      · simp
      · simp only [if_true, BitVec.getLsbD_twoPow]
        simp
        omega
    · have h2 : decide (32 - (k + 1) ≤ j) = decide (32 - k ≤ j) := by
        rw [Bool.eq_iff_iff]; simp; omega
      rw [h2]
      have h3 : (if a.getLsbD (31 - k) then BitVec.twoPow 32 (31 - k) else 0#32).getLsbD j = false := by
        cases a.getLsbD (31 - k)
        · simp
        · simp only [if_true, BitVec.getLsbD_twoPow]
          simp
          omega
      rw [h3]
      simp
theorem mul_e0 (a : B32) : mul a e0 = a := by
  apply BitVec.eq_of_getLsbD_eq
  intro j hj
  rw [mul, mulN_e0_bit a 32 (Nat.le_refl _) j hj]
  simp
theorem mul_comm (a b : B32) : mul a b = mul b a := by
  have h := mul_mul a b e0
  rwa [mul_e0, mul_e0] at h
theorem mul_assoc (a b c : B32) : mul (mul a b) c = mul a (mul b c) := by
  rw [mul_comm (mul a b) c, mul_mul c a b, mul_comm c b]
theorem e0_mul (a : B32) : mul e0 a = a := by rw [mul_comm, mul_e0]

theorem pw_add (q : B32) (m n : Nat) : pw q (m + n) = mul (pw q m) (pw q n) := by
  induction n with
  | zero => rw [Nat.add_zero, pw, mul_e0]
  | succ n ih => rw [← Nat.add_assoc, pw, ih, pw, mul_assoc]
theorem pw_sq (q : B32) (n : Nat) : pw (mul q q) n = pw q (2 * n) := by
  induction n with
  | zero => rfl
  | succ n ih =>
    rw [pw, ih, show 2 * (n + 1) = 2 * n + 1 + 1 by omega, pw, pw, mul_assoc]

/-- The eighth shift of the one. -/
def q8 : B32 := shN 8 e0
def join (a b : B32) (n : Nat) : B32 := mul a (pw q8 n) ^^^ b

theorem join_chain (a b c : B32) (x y : Nat) : join (join a b x) c y = join a (join b c y) (x + y) := by
  unfold join
  rw [mul_xor_left, mul_assoc, ← pw_add, BitVec.xor_assoc]

/-- One round of the loop over the bits of n. -/
theorem round_odd (p q : B32) (n : Nat) (h : n % 2 = 1) : mul (mul p q) (pw (mul q q) (n / 2)) = mul p (pw q n) := by
  rw [pw_sq, mul_assoc]
  congr 1
  rw [mul_comm, ← pw, Nat.succ_eq_add_one, show 2 * (n / 2) + 1 = n by omega]
theorem round_even (p q : B32) (n : Nat) (h : n % 2 = 0) : mul p (pw (mul q q) (n / 2)) = mul p (pw q n) := by
  rw [pw_sq, show 2 * (n / 2) = n by omega]
end Go.Proofs.Ythmenbehpblljaa.Crc
