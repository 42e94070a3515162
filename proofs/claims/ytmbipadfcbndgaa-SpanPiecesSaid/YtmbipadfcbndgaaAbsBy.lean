import Derived.Test.YtmbipadfcbndgaaAbsSl
set_option linter.all false
/-
  Bytes of words, in plain numbers.
-/
namespace Go.Abs

/-- Byte j of a word. -/
def getB (v : Int) (j : Nat) : Int := (v / 2 ^ (8 * j)) % 256
/-- The word with byte j turned to c. -/
def setB (v : Int) (j : Nat) (c : Int) : Int :=
  ((((BitVec.ofInt 64 v) &&& ~~~(BitVec.ofNat 64 (255 * 2 ^ (8 * j)))) ||| (BitVec.ofNat 64 (c.toNat * 2 ^ (8 * j)))).toNat : Int)

theorem setB_range (v : Int) (j : Nat) (c : Int) : 0 ≤ setB v j c ∧ setB v j c ≤ 18446744073709551615 := by
  unfold setB
  have := (((BitVec.ofInt 64 v) &&& ~~~(BitVec.ofNat 64 (255 * 2 ^ (8 * j)))) ||| (BitVec.ofNat 64 (c.toNat * 2 ^ (8 * j)))).isLt
  omega

theorem getB_nat (n j : Nat) : getB (n : Int) j = ((n / 2 ^ (8 * j)) % 256 : Nat) := by
  unfold getB
  rw [Int.natCast_emod, Int.natCast_ediv, Int.natCast_pow]
  rfl

theorem testBit_byte (n j t : Nat) : ((n / 2 ^ (8 * j)) % 256).testBit t = (decide (t < 8) && n.testBit (8 * j + t)) := by
  have : (256 : Nat) = 2 ^ 8 := rfl
  rw [this, Nat.testBit_mod_two_pow, Nat.testBit_div_two_pow, Nat.add_comm]

theorem getB_setB_same {v c : Int} {j : Nat} (hj : j < 8) (hc : 0 ≤ c ∧ c ≤ 255) : getB (setB v j c) j = c := by
  obtain ⟨n, rfl⟩ := Int.eq_ofNat_of_zero_le hc.1
  unfold setB
  rw [getB_nat]
  congr 1
  apply Nat.eq_of_testBit_eq
  intro t
  rw [testBit_byte, BitVec.testBit_toNat]
  simp only [Int.toNat_natCast]
  have hn : n < 2 ^ 8 := by omega
  by_cases ht : t < 8
  · have h64 : 8 * j + t < 64 := by omega
    simp only [ht, decide_true, Bool.true_and, BitVec.getLsbD_or, BitVec.getLsbD_and, BitVec.getLsbD_not, BitVec.getLsbD_ofNat, h64, Nat.testBit_mul_two_pow]
    rw [show decide (8 * j + t ≥ 8 * j) = true from by simp, show 8 * j + t - 8 * j = t from by omega]
    have h255 : Nat.testBit 255 t = true := by
      have : (255 : Nat) = 2 ^ 8 - 1 := rfl
      rw [this, Nat.testBit_two_pow_sub_one]; simpa using ht
    simp [h255]
  · have : n.testBit t = false := Nat.testBit_lt_two_pow (Nat.lt_of_lt_of_le hn (Nat.pow_le_pow_right (by omega) (by omega)))
    simp [ht, this]

theorem getB_setB_other {v c : Int} {j i : Nat} (hv : 0 ≤ v ∧ v ≤ 18446744073709551615) (hj : j < 8) (hi : i < 8) (hij : i ≠ j) (hc : 0 ≤ c ∧ c ≤ 255) : getB (setB v j c) i = getB v i := by
  obtain ⟨n, rfl⟩ := Int.eq_ofNat_of_zero_le hc.1
  obtain ⟨m, rfl⟩ := Int.eq_ofNat_of_zero_le hv.1
  unfold setB
  rw [getB_nat, getB_nat]
  congr 1
  apply Nat.eq_of_testBit_eq
  intro t
  rw [testBit_byte, testBit_byte, BitVec.testBit_toNat]
  simp only [Int.toNat_natCast]
  have hn : n < 2 ^ 8 := by omega
  by_cases ht : t < 8
  · have h64 : 8 * i + t < 64 := by omega
    simp only [ht, decide_true, Bool.true_and, BitVec.getLsbD_or, BitVec.getLsbD_and, BitVec.getLsbD_not, BitVec.getLsbD_ofNat, h64, Nat.testBit_mul_two_pow, BitVec.ofInt_natCast]
    have hz : ∀ q : Nat, q < 2 ^ 8 → (decide (8 * i + t ≥ 8 * j) && q.testBit (8 * i + t - 8 * j)) = false := by
      intro q hq
      by_cases hge : 8 * i + t ≥ 8 * j
      · have : 8 ≤ 8 * i + t - 8 * j := by omega
        rw [Nat.testBit_lt_two_pow (Nat.lt_of_lt_of_le hq (Nat.pow_le_pow_right (by omega) this))]; simp
      · simp [hge]
    rw [hz 255 (by omega), hz n hn]
    simp
  · simp [ht]

/-- What the program computes for a byte of a word. -/
theorem word_get {v : Int} (hv : 0 ≤ v ∧ v ≤ 18446744073709551615) {j : Nat} (hj : j < 8) : IntKind.wrap .u8 (shrI .u64 v (8 * (j : Int))) = getB v j := by
  unfold shrI getB
  rw [show (min ((8 * (j : Int)).toNat) (IntKind.bits .u64)) = 8 * j from by simp [IntKind.bits]; omega]
  rw [Int.fdiv_eq_ediv_of_nonneg _ (Int.pow_nonneg (by omega))]
  simp only [IntKind.wrap, IntKind.bits, IntKind.signed, Bool.false_and, Int.reducePow, Bool.false_eq_true, if_false]

theorem bv_ofInt_wrap (x : Int) : BitVec.ofInt 64 (IntKind.wrap .u64 x) = BitVec.ofInt 64 x := by
  simp only [IntKind.wrap, IntKind.bits, IntKind.signed, Bool.false_and, Bool.false_eq_true, if_false]
  apply BitVec.eq_of_toInt_eq
  simp only [BitVec.toInt_ofInt]
  exact Int.emod_bmod x (2 ^ 64)

theorem wrap_nat (n : Nat) (h : n < 2 ^ 64) : IntKind.wrap .u64 (n : Int) = n := wrap_u64 (by omega) (by omega)

theorem word_set {v c : Int} (hc : 0 ≤ c ∧ c ≤ 255) {j : Nat} (hj : j < 8) :
    orI .u64 (andNotI .u64 v (shlI .u64 255 (8 * (j : Int)))) (shlI .u64 (IntKind.wrap .u64 c) (8 * (j : Int))) = setB v j c := by
  have h1 : ∀ x : Int, shlI .u64 x (8 * (j : Int)) = IntKind.wrap .u64 (x * 2 ^ (8 * j)) := by
    intro x
    unfold shlI
    rw [show (min ((8 * (j : Int)).toNat) (IntKind.bits .u64)) = 8 * j from by simp [IntKind.bits]; omega]
  have h2 : ∀ a b : Int, andNotI .u64 a b = IntKind.wrap .u64 ((BitVec.ofInt 64 a &&& ~~~(BitVec.ofInt 64 b)).toNat : Int) := fun _ _ => rfl
  have h3 : ∀ a b : Int, orI .u64 a b = IntKind.wrap .u64 ((BitVec.ofInt 64 a ||| BitVec.ofInt 64 b).toNat : Int) := fun _ _ => rfl
  rw [h3, h2, h1, h1, wrap_u64 (n := c) (by omega) (by omega), bv_ofInt_wrap, bv_ofInt_wrap, bv_ofInt_wrap, wrap_nat _ (BitVec.isLt _)]
  unfold setB
  obtain ⟨n, rfl⟩ := Int.eq_ofNat_of_zero_le hc.1
  have e1 : (255 : Int) * 2 ^ (8 * j) = ((255 * 2 ^ (8 * j) : Nat) : Int) := by rw [Int.natCast_mul, Int.natCast_pow]; rfl
  have e2 : (n : Int) * 2 ^ (8 * j) = ((n * 2 ^ (8 * j) : Nat) : Int) := by rw [Int.natCast_mul, Int.natCast_pow]; rfl
  rw [e1, e2]
  simp only [BitVec.ofInt_natCast, Int.toNat_natCast, BitVec.ofNat_toNat, BitVec.setWidth_eq]

end Go.Abs
