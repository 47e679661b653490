/- What is computed at values, in plain terms. -/
import Derived.Test.YtiiopgancdgioaaVbA
set_option linter.unusedVariables false
set_option linter.unusedSimpArgs false
namespace Go.Ns

/-! ### Shifts -/
theorem vleft_lt {v : BitVec 128} {n : Nat} (h : n < 64) : NV.agg [nb (hiOf v <<< n ||| loOf v >>> (64 - n)), nb (loOf v <<< n)] = vnv (v <<< n) := by
  apply vnv_eq
  · intro i hi
    simp only [BitVec.getLsbD_or, BitVec.getLsbD_shiftLeft, BitVec.getLsbD_ushiftRight, hiOf_get, loOf_get]
    by_cases h1 : i < n
    · simp [h1, hi, show 64 - n + i = 64 + i - n by omega, show 64 + i - n < 64 by omega, show 64 + i < 128 by omega, show ¬ 64 + i < n by omega]
    · simp [h1, hi, show ¬ 64 - n + i < 64 by omega, show 64 + i < 128 by omega, show ¬ 64 + i < n by omega, show i - n < 64 by omega, show 64 + (i - n) = 64 + i - n by omega]
  · intro i hi
    simp only [BitVec.getLsbD_shiftLeft, loOf_get]
    by_cases h1 : i < n
    · simp [h1]
    · simp [h1, hi, show i < 128 by omega, show i - n < 64 by omega]
theorem vleft_ge {v : BitVec 128} {n : Nat} (h : 64 ≤ n) : NV.agg [nb (loOf v <<< (n - 64)), nb 0#64] = vnv (v <<< n) := by
  apply vnv_eq
  · intro i hi
    simp only [BitVec.getLsbD_shiftLeft, loOf_get]
    by_cases h1 : i < n - 64
    · simp [h1, show 64 + i < n by omega]
    · simp [h1, hi, show ¬ 64 + i < n by omega, show 64 + i < 128 by omega, show i - (n - 64) = 64 + i - n by omega, show 64 + i - n < 64 by omega]
  · intro i hi
    simp only [BitVec.getLsbD_shiftLeft]
    simp [show i < n by omega]
theorem vright_lt {v : BitVec 128} {n : Nat} (h : n < 64) : NV.agg [nb (hiOf v >>> n), nb (loOf v >>> n ||| hiOf v <<< (64 - n))] = vnv (v >>> n) := by
  apply vnv_eq
  · intro i hi
    simp only [BitVec.getLsbD_ushiftRight, hiOf_get]
    by_cases h1 : n + i < 64
    · simp [h1, show 64 + (n + i) = n + (64 + i) by omega]
    · rw [decide_eq_false h1, Bool.false_and, BitVec.getLsbD_of_ge v (n + (64 + i)) (by omega)]
  · intro i hi
    simp only [BitVec.getLsbD_or, BitVec.getLsbD_shiftLeft, BitVec.getLsbD_ushiftRight, hiOf_get, loOf_get]
    by_cases h1 : n + i < 64
    · simp [h1, show i < 64 - n by omega]
    · simp [h1, hi, show ¬ i < 64 - n by omega, show i - (64 - n) < 64 by omega, show 64 + (i - (64 - n)) = n + i by omega]
theorem vright_ge {v : BitVec 128} {n : Nat} (h : 64 ≤ n) : NV.agg [nb 0#64, nb (hiOf v >>> (n - 64))] = vnv (v >>> n) := by
  apply vnv_eq
  · intro i hi
    simp only [BitVec.getLsbD_ushiftRight]
    rw [BitVec.getLsbD_of_ge v (n + (64 + i)) (by omega)]; simp
  · intro i hi
    simp only [BitVec.getLsbD_ushiftRight, hiOf_get]
    by_cases h1 : n - 64 + i < 64
    · simp [h1, show 64 + (n - 64 + i) = n + i by omega]
    · rw [decide_eq_false h1, Bool.false_and, BitVec.getLsbD_of_ge v (n + i) (by omega)]
theorem vnv_zero : NV.agg [nb 0#64, nb 0#64] = vnv 0#128 := vnv_eq (by simp) (by simp)

/-- The last bit of a word. -/
theorem bit_and {x : BitVec 64} : (x &&& 1#64 == 1#64) = x.getLsbD 0 := by
  by_cases h : x.getLsbD 0 = true
  · have : x &&& 1#64 = 1#64 := by
      apply BitVec.eq_of_getLsbD_eq
      intro i hi
      simp only [BitVec.getLsbD_and, BitVec.getLsbD_one]
      by_cases h0 : i = 0
      · subst h0; simp only [h, Bool.true_and]
      · simp [h0]
    rw [this, h]; simp
  · have h' : x.getLsbD 0 = false := by simpa using h
    have : x &&& 1#64 = 0#64 := by
      apply BitVec.eq_of_getLsbD_eq
      intro i hi
      simp only [BitVec.getLsbD_and, BitVec.getLsbD_one, BitVec.getLsbD_zero]
      by_cases h0 : i = 0
      · subst h0; simp only [h', Bool.false_and]
      · simp [h0]
    rw [this, h']; decide
theorem bit_at {x : BitVec 64} {n : Nat} : (x >>> n &&& 1#64 == 1#64) = x.getLsbD n := by
  rw [bit_and, BitVec.getLsbD_ushiftRight, Nat.add_zero]

theorem bit_ofInt {x : BitVec 64} {n : Nat} : (x >>> n &&& BitVec.ofInt 64 1 == BitVec.ofInt 64 1) = x.getLsbD n := bit_at

theorem or_bit {y : BitVec 64} {i j : Nat} (hi : i < 64) (hj : j < 64) : (y ||| (BitVec.ofInt 64 1 <<< j)).getLsbD i = (y.getLsbD i || decide (i = j)) := by
  rw [BitVec.getLsbD_or, BitVec.getLsbD_shiftLeft, show BitVec.ofInt 64 1 = 1#64 by decide, BitVec.getLsbD_one]
  congr 1
  by_cases h : i = j
  · subst h; simp [hi]
  · by_cases h1 : i < j
    · simp [h, h1]
    · simp [h, h1, show i - j ≠ 0 by omega]
theorem ofB_eq {f : Nat → Bool} {v : BitVec 128} (h : ∀ i, i < 128 → f i = v.getLsbD i) : ofB f 128 = v := by
  apply BitVec.eq_of_getLsbD_eq
  intro i hi
  rw [ofB_get, h i hi]; simp [hi]
theorem shl_clamp {v : BitVec 128} {n : Int} : v <<< clampN n = v <<< n.toNat := by
  by_cases h : n ≤ 128
  · rw [show clampN n = n.toNat by unfold clampN; omega]
  · rw [show clampN n = 128 by unfold clampN; omega]
    apply BitVec.eq_of_getLsbD_eq
    intro i hi
    simp only [BitVec.getLsbD_shiftLeft]
    simp [hi, show i < n.toNat by omega]
theorem shr_clamp {v : BitVec 128} {n : Int} : v >>> clampN n = v >>> n.toNat := by
  by_cases h : n ≤ 128
  · rw [show clampN n = n.toNat by unfold clampN; omega]
  · rw [show clampN n = 128 by unfold clampN; omega]
    apply BitVec.eq_of_getLsbD_eq
    intro i hi
    simp only [BitVec.getLsbD_ushiftRight]
    rw [BitVec.getLsbD_of_ge v (128 + i) (by omega), BitVec.getLsbD_of_ge v (n.toNat + i) (by omega)]
theorem clampN_le (n : Int) : clampN n ≤ 128 := by unfold clampN; omega

/-! ### Sums -/
theorem top_bit {z : BitVec 64} : z >>> 63 = if z.getLsbD 63 then 1#64 else 0#64 := by
  apply BitVec.eq_of_getLsbD_eq
  intro i hi
  rw [BitVec.getLsbD_ushiftRight]
  by_cases h0 : i = 0
  · subst h0
    cases z.getLsbD 63 <;> simp
  · rw [BitVec.getLsbD_of_ge _ _ (by omega)]
    split <;> simp [BitVec.getLsbD_one, h0]
def carryW (x y s : BitVec 64) : BitVec 64 := ((x &&& y) ||| ((x ||| y) &&& ~~~ s)) >>> 63
def borrowW (x y d : BitVec 64) : BitVec 64 := ((~~~ x &&& y) ||| (~~~ (x ^^^ y) &&& d)) >>> 63
theorem carry_top (x y : BitVec 64) : carryW x y (x + y) = if 18446744073709551616 ≤ x.toNat + y.toNat then 1#64 else 0#64 := by
  unfold carryW
  rw [top_bit]
  have h1 := BitVec.carry_succ 63 x y false
  have h2 : (x + y).getLsbD 63 = (x.getLsbD 63 ^^ (y.getLsbD 63 ^^ BitVec.carry 63 x y false)) := BitVec.getLsbD_add (by omega) x y
  have h3 : BitVec.carry (63 + 1) x y false = decide (18446744073709551616 ≤ x.toNat + y.toNat) := by
    unfold BitVec.carry
    have := x.isLt; have := y.isLt
    rw [Nat.mod_eq_of_lt (by omega), Nat.mod_eq_of_lt (by omega)]
    simp
  have : (((x &&& y) ||| ((x ||| y) &&& ~~~ (x + y))).getLsbD 63) = decide (18446744073709551616 ≤ x.toNat + y.toNat) := by
    rw [← h3, h1]
    simp only [BitVec.getLsbD_or, BitVec.getLsbD_and, BitVec.getLsbD_not, h2, show (63 : Nat) < 64 by omega, decide_true, Bool.true_and]
    cases x.getLsbD 63 <;> cases y.getLsbD 63 <;> cases BitVec.carry 63 x y false <;> rfl
  rw [this]
  simp only [decide_eq_true_eq]
theorem borrow_top (x y : BitVec 64) : borrowW x y (x - y) = if x.toNat < y.toNat then 1#64 else 0#64 := by
  unfold borrowW
  rw [top_bit]
  have h0 : x - y = x + ~~~ y + BitVec.setWidth 64 (BitVec.ofBool true) := by
    rw [BitVec.sub_eq_add_neg, BitVec.neg_eq_not_add, ← BitVec.add_assoc]; rfl
  have h1 := BitVec.carry_succ 63 x (~~~ y) true
  have h2 : (x - y).getLsbD 63 = (x.getLsbD 63 ^^ ((~~~ y).getLsbD 63 ^^ BitVec.carry 63 x (~~~ y) true)) := by
    rw [h0]; exact BitVec.getLsbD_add_add_bool (by omega) x (~~~ y) true
  have h3 : BitVec.carry (63 + 1) x (~~~ y) true = decide (¬ x.toNat < y.toNat) := by
    unfold BitVec.carry
    have := x.isLt; have := y.isLt
    rw [Nat.mod_eq_of_lt (by omega), Nat.mod_eq_of_lt (by have := (~~~ y).isLt; omega), BitVec.toNat_not]
    simp only [Bool.toNat_true, decide_eq_decide]
    omega
  have : (((~~~ x &&& y) ||| (~~~ (x ^^^ y) &&& (x - y))).getLsbD 63) = decide (x.toNat < y.toNat) := by
    have h4 : decide (x.toNat < y.toNat) = !(BitVec.carry (63 + 1) x (~~~ y) true) := by rw [h3, decide_not, Bool.not_not]
    rw [h4, h1]
    simp only [BitVec.getLsbD_or, BitVec.getLsbD_and, BitVec.getLsbD_xor, BitVec.getLsbD_not, h2, show (63 : Nat) < 64 by omega, decide_true, Bool.true_and]
    cases x.getLsbD 63 <;> cases y.getLsbD 63 <;> cases BitVec.carry 63 x (~~~ y) true <;> rfl
  rw [this]
  simp only [decide_eq_true_eq]

theorem hiOf_nat (v : BitVec 128) : (hiOf v).toNat = v.toNat / 18446744073709551616 := by
  unfold hiOf
  rw [BitVec.extractLsb'_toNat, Nat.shiftRight_eq_div_pow]
  have := v.isLt
  omega
theorem loOf_nat (v : BitVec 128) : (loOf v).toNat = v.toNat % 18446744073709551616 := by
  unfold loOf
  rw [BitVec.extractLsb'_toNat, Nat.shiftRight_eq_div_pow]
  omega
theorem vnv_nat {v : BitVec 128} {x y : BitVec 64} (h1 : x.toNat = v.toNat / 18446744073709551616) (h2 : y.toNat = v.toNat % 18446744073709551616) : NV.agg [nb x, nb y] = vnv v := by
  unfold vnv
  rw [show x = hiOf v from BitVec.eq_of_toNat_eq (by rw [h1, hiOf_nat]), show y = loOf v from BitVec.eq_of_toNat_eq (by rw [h2, loOf_nat])]
theorem add_words (a b : BitVec 128) : NV.agg [nb (hiOf a + hiOf b + carryW (loOf a) (loOf b) (loOf a + loOf b)), nb (loOf a + loOf b)] = vnv (a + b) := by
  rw [carry_top]
  have h1 := a.isLt; have h2 := b.isLt
  apply vnv_nat
  · rw [BitVec.toNat_add, BitVec.toNat_add, BitVec.toNat_add, hiOf_nat, hiOf_nat, loOf_nat, loOf_nat]
    split
    · simp; omega
    · simp; omega
  · rw [BitVec.toNat_add, BitVec.toNat_add, loOf_nat, loOf_nat]; omega
theorem sub_words (a b : BitVec 128) : NV.agg [nb (hiOf a - hiOf b - borrowW (loOf a) (loOf b) (loOf a - loOf b)), nb (loOf a - loOf b)] = vnv (a - b) := by
  rw [borrow_top]
  have h1 := a.isLt; have h2 := b.isLt
  apply vnv_nat
  · rw [BitVec.toNat_sub, BitVec.toNat_sub, BitVec.toNat_sub, hiOf_nat, hiOf_nat, loOf_nat, loOf_nat]
    split
    · simp; omega
    · simp; omega
  · rw [BitVec.toNat_sub, BitVec.toNat_sub, loOf_nat, loOf_nat]; omega

/-- The bits of a sum of so many bits, one after the other. -/
theorem sum_bit (x y : BitVec 128) (c : Bool) {i : Nat} (h : i < 128) : (x + y + BitVec.setWidth 128 (BitVec.ofBool c)).getLsbD i = (x.getLsbD i ^^ (y.getLsbD i ^^ BitVec.carry i x y c)) := BitVec.getLsbD_add_add_bool h x y c
theorem sub_as (a b : BitVec 128) : a - b = a + ~~~ b + BitVec.setWidth 128 (BitVec.ofBool true) := by
  rw [BitVec.sub_eq_add_neg, BitVec.neg_eq_not_add, ← BitVec.add_assoc]; rfl
theorem add_as (a b : BitVec 128) : a + b = a + b + BitVec.setWidth 128 (BitVec.ofBool false) := by
  simp

/-! ### Lengths -/
def bl (n : Nat) : Nat := if n = 0 then 0 else n.log2 + 1
theorem bl_shift {n k : Nat} (h : 2 ^ k ≤ n) : bl n = k + bl (n / 2 ^ k) := by
  have hp : 0 < 2 ^ k := Nat.two_pow_pos k
  have hd : 0 < n / 2 ^ k := Nat.div_pos h hp
  unfold bl
  rw [if_neg (by omega), if_neg (by omega)]
  have h1 : n.log2 = k + (n / 2 ^ k).log2 := by
    rw [Nat.log2_eq_iff (by omega)]
    have h2 := Nat.log2_self_le (n := n / 2 ^ k) (by omega)
    have h3 := Nat.lt_log2_self (n := n / 2 ^ k)
    constructor
    · rw [Nat.pow_add, Nat.mul_comm]
      exact (Nat.le_div_iff_mul_le hp).1 h2
    · rw [show k + (n / 2 ^ k).log2 + 1 = ((n / 2 ^ k).log2 + 1) + k by omega, Nat.pow_add]
      exact (Nat.div_lt_iff_lt_mul hp).1 h3
  omega
theorem bl_le {n m : Nat} : bl n ≤ m ↔ n < 2 ^ m := by
  unfold bl
  by_cases h : n = 0
  · rw [if_pos h]; have := Nat.two_pow_pos m; omega
  · rw [if_neg h, Nat.succ_le_iff, Nat.log2_lt h]
theorem bl_top {v : BitVec 128} {i : Nat} (h : v.getLsbD i = true) (ho : ∀ j, i < j → j < 128 → v.getLsbD j = false) : bl v.toNat = i + 1 := by
  have hi : i < 128 := by
    by_cases h1 : i < 128
    · exact h1
    · rw [BitVec.getLsbD_of_ge _ _ (by omega)] at h; cases h
  apply Nat.le_antisymm
  · rw [bl_le]
    apply Nat.lt_pow_two_of_testBit
    intro j hj
    by_cases h2 : j < 128
    · have := ho j (by omega) h2
      exact this
    · have := v.isLt
      apply Nat.testBit_lt_two_pow
      exact Nat.lt_of_lt_of_le this (Nat.pow_le_pow_right (by omega) (by omega))
  · have h3 : ¬ bl v.toNat ≤ i := by
      rw [bl_le]
      intro h4
      have := Nat.testBit_lt_two_pow h4
      have h5 : v.getLsbD i = v.toNat.testBit i := rfl
      rw [h5, this] at h; cases h
    omega
theorem bl_zero {v : BitVec 128} (ho : ∀ j, j < 128 → v.getLsbD j = false) : bl v.toNat = 0 := by
  have : v = 0#128 := BitVec.eq_of_getLsbD_eq (by intro i hi; rw [ho i hi]; simp)
  subst this; rfl
theorem bl_words {v : BitVec 128} : bl v.toNat = if hiOf v = 0#64 then bl (loOf v).toNat else 64 + bl (hiOf v).toNat := by
  have hh : v.toNat = (hiOf v).toNat * 18446744073709551616 + (loOf v).toNat := by rw [hiOf_nat, loOf_nat]; omega
  split
  · rename_i h
    have : (hiOf v).toNat = 0 := by rw [h]; rfl
    rw [hh, this]; simp
  · rename_i h
    have h1 : (hiOf v).toNat ≠ 0 := fun e => h (BitVec.eq_of_toNat_eq (by rw [e]; rfl))
    rw [bl_shift (n := v.toNat) (k := 64) (by omega), hiOf_nat]
theorem bl_128 (v : BitVec 128) : bl v.toNat ≤ 128 := by rw [bl_le]; exact v.isLt

/-! ### Order -/
def cmpV (a b : BitVec 128) : Int := if a = b then 0 else if a.toNat < b.toNat then -1 else 1
theorem lt_words (a b : BitVec 128) : a.toNat < b.toNat ↔ ((hiOf a).toNat < (hiOf b).toNat ∨ hiOf a = hiOf b ∧ (loOf a).toNat < (loOf b).toNat) := by
  have e : hiOf a = hiOf b ↔ (hiOf a).toNat = (hiOf b).toNat := ⟨fun h => by rw [h], BitVec.eq_of_toNat_eq⟩
  rw [e, hiOf_nat, hiOf_nat, loOf_nat, loOf_nat]
  omega
theorem lt_of_bit {x y : Nat} {i : Nat} (hx : x.testBit i = false) (hy : y.testBit i = true) (h : ∀ j, i < j → x.testBit j = y.testBit j) : x < y := by
  have e : x / 2 ^ (i + 1) = y / 2 ^ (i + 1) := by
    apply Nat.eq_of_testBit_eq
    intro j
    rw [Nat.testBit_div_two_pow, Nat.testBit_div_two_pow, h _ (by omega)]
  rw [Nat.testBit_eq_decide_div_mod_eq] at hx hy
  rw [Nat.pow_succ, ← Nat.div_div_eq_div_mul, ← Nat.div_div_eq_div_mul] at e
  have h1 : x / 2 ^ i < y / 2 ^ i := by
    simp only [decide_eq_false_iff_not, decide_eq_true_eq] at hx hy
    omega
  exact Nat.lt_of_div_lt_div h1
theorem cmp_top {a b : BitVec 128} {i : Nat} (hi : i < 128) (h : a.getLsbD i ≠ b.getLsbD i) (ho : ∀ j, i < j → j < 128 → a.getLsbD j = b.getLsbD j) : cmpV a b = if b.getLsbD i = true then -1 else 1 := by
  have hall : ∀ j, i < j → a.toNat.testBit j = b.toNat.testBit j := by
    intro j hj
    by_cases h2 : j < 128
    · exact ho j hj h2
    · have h3 := a.getLsbD_of_ge j (by omega)
      have h4 := b.getLsbD_of_ge j (by omega)
      exact h3.trans h4.symm
  have hne : a ≠ b := fun e => h (by rw [e])
  unfold cmpV
  rw [if_neg hne]
  cases hb : b.getLsbD i with
  | true =>
    have ha : a.getLsbD i = false := by rw [hb] at h; simpa using h
    have := lt_of_bit ha hb hall
    rw [if_pos this]; simp
  | false =>
    have ha : a.getLsbD i = true := by rw [hb] at h; simpa using h
    have := lt_of_bit hb ha fun j hj => (hall j hj).symm
    rw [if_neg (by omega)]; simp
theorem cmp_same {a b : BitVec 128} (ho : ∀ j, j < 128 → a.getLsbD j = b.getLsbD j) : cmpV a b = 0 := by
  unfold cmpV; rw [if_pos (BitVec.eq_of_getLsbD_eq ho)]
theorem cmp_neg (a b : BitVec 128) : cmpV b a = - cmpV a b := by
  unfold cmpV
  by_cases h : a = b
  · subst h; simp
  · rw [if_neg h, if_neg (fun e => h e.symm)]
    have : a.toNat ≠ b.toNat := fun e => h (BitVec.eq_of_toNat_eq e)
    by_cases h1 : a.toNat < b.toNat
    · rw [if_pos h1, if_neg (by omega)]; rfl
    · rw [if_neg h1, if_pos (by omega)]
theorem cmp_self (a : BitVec 128) : cmpV a a = 0 := by unfold cmpV; simp
theorem cmp_add (a b : BitVec 128) (z : BitVec 128) (hz : z.toNat < 18446744073709551616) : cmpV (a >>> 1 + z) (b >>> 1 + z) = cmpV (a >>> 1) (b >>> 1) := by
  have h1 := a.isLt; have h2 := b.isLt
  have e1 : (a >>> 1 + z).toNat = a.toNat / 2 + z.toNat := by rw [BitVec.toNat_add, BitVec.toNat_ushiftRight, Nat.shiftRight_eq_div_pow]; omega
  have e2 : (b >>> 1 + z).toNat = b.toNat / 2 + z.toNat := by rw [BitVec.toNat_add, BitVec.toNat_ushiftRight, Nat.shiftRight_eq_div_pow]; omega
  have e3 : (a >>> 1).toNat = a.toNat / 2 := by rw [BitVec.toNat_ushiftRight, Nat.shiftRight_eq_div_pow]
  have e4 : (b >>> 1).toNat = b.toNat / 2 := by rw [BitVec.toNat_ushiftRight, Nat.shiftRight_eq_div_pow]
  have he : (a >>> 1 + z = b >>> 1 + z) ↔ (a >>> 1 = b >>> 1) := by
    rw [← BitVec.toNat_inj, ← BitVec.toNat_inj, e1, e2, e3, e4]; omega
  unfold cmpV
  rw [e1, e2, e3, e4]
  by_cases h : a >>> 1 = b >>> 1
  · rw [if_pos h, if_pos (he.2 h)]
  · rw [if_neg h, if_neg (fun e => h (he.1 e))]
    by_cases h3 : a.toNat / 2 < b.toNat / 2
    · rw [if_pos h3, if_pos (by omega)]
    · rw [if_neg h3, if_neg (by omega)]

/-! ### Rings -/
theorem onesV_nat (n : Int) : (onesV n).toNat = 2 ^ clampN n - 1 := by
  have hc : clampN n ≤ 128 := by unfold clampN; omega
  have : onesV n = BitVec.ofNat 128 (2 ^ clampN n - 1) := by
    apply BitVec.eq_of_getLsbD_eq
    intro i hi
    rw [onesV_get hi, BitVec.getLsbD_ofNat, Nat.testBit_two_pow_sub_one]; simp [hi]
  rw [this, BitVec.toNat_ofNat, Nat.mod_eq_of_lt]
  have := Nat.pow_le_pow_right (n := 2) (by omega) hc
  have := Nat.two_pow_pos (clampN n)
  omega
theorem and_ones (v : BitVec 128) (n : Int) : (v &&& onesV n).toNat = v.toNat % 2 ^ clampN n := by
  rw [BitVec.toNat_and, onesV_nat, Nat.and_two_pow_sub_one_eq_mod]
theorem onesV_all (n : Int) (h : 128 ≤ n) (v : BitVec 128) : v &&& onesV n = v := by
  apply BitVec.eq_of_getLsbD_eq
  intro i hi
  rw [BitVec.getLsbD_and, onesV_get hi, show clampN n = 128 by unfold clampN; omega]; simp [hi]
theorem ring_assoc (a b c : BitVec 128) (n : Int) : ((a + b) &&& onesV n) + c &&& onesV n = a + ((b + c) &&& onesV n) &&& onesV n := by
  have hc : clampN n ≤ 128 := by unfold clampN; omega
  have hd : 2 ^ clampN n ∣ 2 ^ 128 := Nat.pow_dvd_pow 2 hc
  apply BitVec.eq_of_toNat_eq
  rw [and_ones, and_ones, BitVec.toNat_add, BitVec.toNat_add, and_ones, and_ones, BitVec.toNat_add, BitVec.toNat_add, Nat.mod_mod_of_dvd _ hd, Nat.mod_mod_of_dvd _ hd, Nat.mod_mod_of_dvd _ hd, Nat.mod_mod_of_dvd _ hd, Nat.mod_add_mod, Nat.add_mod_mod, Nat.add_assoc]
theorem shl_one (a : BitVec 128) : a <<< 1 = a + a := by
  apply BitVec.eq_of_toNat_eq
  rw [BitVec.toNat_shiftLeft, BitVec.toNat_add, Nat.shiftLeft_eq]; congr 1; omega
end Go.Ns
