/- Words of 64 bits, and lists of 128 bits: the rules of the operations at them. -/
import Derived.Test.YtiiopgancdgioaaFsI
set_option linter.unusedVariables false
set_option linter.unusedSimpArgs false
namespace Go.Ns

/-- A word. -/
def nb (x : BitVec 64) : NV := .int .u64 (x.toNat : Int)
theorem nb_one {x : BitVec 64} : (nb x).one = true := (rfl)
theorem nb_flat {x : BitVec 64} : (nb x).flat = true := (rfl)
theorem nb_cells {x : BitVec 64} : (nb x).cells = [nb x] := (rfl)
theorem nb_lo {x : BitVec 64} {n : Nat} : (nb x).lo n := trivial

theorem wu_mod (n : Int) : IntKind.u64.wrap n = n % 18446744073709551616 := by simp [IntKind.wrap, IntKind.bits, IntKind.signed]
theorem wu_nat (n : Nat) : IntKind.u64.wrap (n : Int) = ((BitVec.ofNat 64 n).toNat : Int) := by
  rw [wu_mod, BitVec.toNat_ofNat]; omega
theorem wu_int (n : Int) : IntKind.u64.wrap n = ((BitVec.ofInt 64 n).toNat : Int) := by
  rw [wu_mod, BitVec.toNat_ofInt]; omega
theorem ofInt_nat (x : BitVec 64) : BitVec.ofInt 64 (x.toNat : Int) = x := by
  apply BitVec.eq_of_toNat_eq
  rw [BitVec.toNat_ofInt]
  have := x.isLt
  omega
theorem wu_bv (x : BitVec 64) : IntKind.u64.wrap (x.toNat : Int) = (x.toNat : Int) := by rw [wu_int, ofInt_nat]
theorem nb_of (c : Int) (h : 0 ≤ c ∧ c < 18446744073709551616) : NV.int .u64 c = nb (BitVec.ofInt 64 c) := by
  unfold nb
  rw [BitVec.toNat_ofInt]
  congr 1
  omega
theorem nb_inj {x y : BitVec 64} (h : nb x = nb y) : x = y := by
  unfold nb at h
  injection h with _ h
  exact BitVec.eq_of_toNat_eq (by omega)

theorem nb_and {x y : BitVec 64} : nbin .and (nb x) (nb y) = some (nb (x &&& y)) := by
  simp only [nb, nbin, nbits, if_true, Option.map_some]
  rw [show IntKind.u64.bits = 64 from rfl, ofInt_nat, ofInt_nat, wu_bv]
theorem nb_and_c {x : BitVec 64} {c : Int} : nbin .and (nb x) (.int .u64 c) = some (nb (x &&& BitVec.ofInt 64 c)) := by
  simp only [nb, nbin, nbits, if_true, Option.map_some]
  rw [show IntKind.u64.bits = 64 from rfl, ofInt_nat, wu_bv]
theorem nb_c_and {x : BitVec 64} {c : Int} : nbin .and (.int .u64 c) (nb x) = some (nb (BitVec.ofInt 64 c &&& x)) := by
  simp only [nb, nbin, nbits, if_true, Option.map_some]
  rw [show IntKind.u64.bits = 64 from rfl, ofInt_nat, wu_bv]
theorem nb_or {x y : BitVec 64} : nbin .or (nb x) (nb y) = some (nb (x ||| y)) := by
  simp only [nb, nbin, nbits, if_true, Option.map_some]
  rw [show IntKind.u64.bits = 64 from rfl, ofInt_nat, ofInt_nat, wu_bv]
theorem nb_or_c {x : BitVec 64} {c : Int} : nbin .or (nb x) (.int .u64 c) = some (nb (x ||| BitVec.ofInt 64 c)) := by
  simp only [nb, nbin, nbits, if_true, Option.map_some]
  rw [show IntKind.u64.bits = 64 from rfl, ofInt_nat, wu_bv]
theorem nb_c_or {x : BitVec 64} {c : Int} : nbin .or (.int .u64 c) (nb x) = some (nb (BitVec.ofInt 64 c ||| x)) := by
  simp only [nb, nbin, nbits, if_true, Option.map_some]
  rw [show IntKind.u64.bits = 64 from rfl, ofInt_nat, wu_bv]
theorem nb_xor {x y : BitVec 64} : nbin .xor (nb x) (nb y) = some (nb (x ^^^ y)) := by
  simp only [nb, nbin, nbits, if_true, Option.map_some]
  rw [show IntKind.u64.bits = 64 from rfl, ofInt_nat, ofInt_nat, wu_bv]
theorem nb_xor_c {x : BitVec 64} {c : Int} : nbin .xor (nb x) (.int .u64 c) = some (nb (x ^^^ BitVec.ofInt 64 c)) := by
  simp only [nb, nbin, nbits, if_true, Option.map_some]
  rw [show IntKind.u64.bits = 64 from rfl, ofInt_nat, wu_bv]
theorem nb_c_xor {x : BitVec 64} {c : Int} : nbin .xor (.int .u64 c) (nb x) = some (nb (BitVec.ofInt 64 c ^^^ x)) := by
  simp only [nb, nbin, nbits, if_true, Option.map_some]
  rw [show IntKind.u64.bits = 64 from rfl, ofInt_nat, wu_bv]
theorem nb_andNot {x y : BitVec 64} : nbin .andNot (nb x) (nb y) = some (nb (x &&& ~~~ y)) := by
  simp only [nb, nbin, nbits, if_true, Option.map_some]
  rw [show IntKind.u64.bits = 64 from rfl, ofInt_nat, ofInt_nat, wu_bv]
theorem nb_compl {x : BitVec 64} : nun .xor (nb x) = some (nb (~~~ x)) := by
  simp only [nb, nun, nbits, Option.map_some]
  rw [show IntKind.u64.bits = 64 from rfl, ofInt_nat, wu_bv, show IntKind.u64.signed = false from rfl, if_neg (by simp), show BitVec.ofInt 64 IntKind.u64.max = BitVec.allOnes 64 by decide]
  rw [BitVec.allOnes_xor]
theorem nb_add {x y : BitVec 64} : nbin .add (nb x) (nb y) = some (nb (x + y)) := by
  simp only [nb, nbin, if_true]
  rw [← Int.natCast_add, wu_nat, BitVec.ofNat_add, BitVec.ofNat_toNat, BitVec.ofNat_toNat, BitVec.setWidth_eq, BitVec.setWidth_eq]
theorem nb_sub {x y : BitVec 64} : nbin .sub (nb x) (nb y) = some (nb (x - y)) := by
  simp only [nb, nbin, if_true]
  rw [wu_mod, BitVec.toNat_sub]
  congr 2
  have := x.isLt; have := y.isLt
  omega
theorem nb_shl_nat {x : BitVec 64} {n : Nat} : IntKind.u64.wrap ((x.toNat : Int) * 2 ^ (min n 64)) = ((x <<< n).toNat : Int) := by
  rw [show (x.toNat : Int) * 2 ^ (min n 64) = ((x.toNat * 2 ^ (min n 64) : Nat) : Int) by push_cast; rfl, wu_nat, BitVec.toNat_ofNat, BitVec.toNat_shiftLeft, Nat.shiftLeft_eq]
  congr 1
  rcases Nat.lt_or_ge n 64 with h | h
  · rw [Nat.min_eq_left (by omega)]
  · rw [Nat.min_eq_right h, show n = 64 + (n - 64) by omega, Nat.pow_add, ← Nat.mul_assoc, Nat.mul_right_comm, Nat.mul_mod_left, Nat.mul_mod_left]
theorem nb_shr_nat {x : BitVec 64} {n : Nat} : (x.toNat : Int).fdiv (2 ^ (min n 64)) = ((x >>> n).toNat : Int) := by
  rw [show (2 : Int) ^ (min n 64) = ((2 ^ (min n 64) : Nat) : Int) by push_cast; rfl, Int.fdiv_eq_ediv_of_nonneg _ (Int.natCast_nonneg _), ← Int.natCast_ediv, BitVec.toNat_ushiftRight, Nat.shiftRight_eq_div_pow]
  congr 1
  rcases Nat.lt_or_ge n 64 with h | h
  · rw [Nat.min_eq_left (by omega)]
  · rw [Nat.min_eq_right h, Nat.div_eq_of_lt x.isLt, Nat.div_eq_of_lt (Nat.lt_of_lt_of_le x.isLt (Nat.pow_le_pow_right (by omega) h))]
theorem nb_shl {x : BitVec 64} {k : IntKind} {b : Int} (h : 0 ≤ b) : nbin .shl (nb x) (.int k b) = some (nb (x <<< b.toNat)) := by
  simp only [nb, nbin]
  rw [if_neg (by omega), show IntKind.u64.bits = 64 from rfl, nb_shl_nat]
theorem nb_shr {x : BitVec 64} {k : IntKind} {b : Int} (h : 0 ≤ b) : nbin .shr (nb x) (.int k b) = some (nb (x >>> b.toNat)) := by
  simp only [nb, nbin]
  rw [if_neg (by omega), show IntKind.u64.bits = 64 from rfl, nb_shr_nat]
theorem nb_c_shl {k : IntKind} {c b : Int} (hc : 0 ≤ c ∧ c < 18446744073709551616) (h : 0 ≤ b) : nbin .shl (.int .u64 c) (.int k b) = some (nb (BitVec.ofInt 64 c <<< b.toNat)) := by
  rw [nb_of c hc, nb_shl h]
theorem nb_eql {x y : BitVec 64} : nbin .eql (nb x) (nb y) = some (.bool (x == y)) := by
  simp only [nb, nbin, if_true]
  congr 2
  by_cases h : x = y
  · subst h; simp
  · rw [beq_false_of_ne h, beq_false_of_ne (fun e => h (BitVec.eq_of_toNat_eq (by omega)))]
theorem nb_neq {x y : BitVec 64} : nbin .neq (nb x) (nb y) = some (.bool (x != y)) := by
  have := nb_eql (x := x) (y := y)
  simp only [nb, nbin, if_true, Option.some.injEq, NV.bool.injEq] at this ⊢
  simp only [bne, this]
theorem nb_eql_c {x : BitVec 64} {c : Int} (hc : 0 ≤ c ∧ c < 18446744073709551616) : nbin .eql (nb x) (.int .u64 c) = some (.bool (x == BitVec.ofInt 64 c)) := by
  rw [nb_of c hc, nb_eql]
theorem nb_neq_c {x : BitVec 64} {c : Int} (hc : 0 ≤ c ∧ c < 18446744073709551616) : nbin .neq (nb x) (.int .u64 c) = some (.bool (x != BitVec.ofInt 64 c)) := by
  rw [nb_of c hc, nb_neq]
theorem nb_lss {x y : BitVec 64} : nbin .lss (nb x) (nb y) = some (.bool (decide (x.toNat < y.toNat))) := by
  simp only [nb, nbin, if_true, Int.ofNat_lt]
theorem nb_geq_c {x : BitVec 64} {c : Int} : nbin .geq (nb x) (.int .u64 c) = some (.bool (decide (c ≤ (x.toNat : Int)))) := by
  simp only [nb, nbin, if_true, ge_iff_le]
theorem nb_conv8 {x : BitVec 64} : nconv .u8 (nb x) = some (.int .u8 (((x.setWidth 8).toNat : Nat) : Int)) := by
  simp only [nb, nconv]
  congr 2
theorem nb_convi {x : BitVec 64} (h : x.toNat < 9223372036854775808) : nconv .i64 (nb x) = some (.int .i64 (x.toNat : Int)) := by
  simp only [nb, nconv]
  rw [IntWalk.i64_in _ (by omega)]
theorem eqCell_nb {x y : BitVec 64} : eqCell .int (nb x) (nb y) = some (x == y) := by
  have := nb_eql (x := x) (y := y)
  simp only [nb, nbin, if_true, Option.some.injEq, NV.bool.injEq] at this
  simp only [nb, eqCell, if_true, this]

theorem v_i64_add {a b : Int} : nbin .add (.int .i64 a) (.int .i64 b) = some (.int .i64 (IntKind.i64.wrap (a + b))) := (rfl)
theorem v_i64_sub {a b : Int} : nbin .sub (.int .i64 a) (.int .i64 b) = some (.int .i64 (IntKind.i64.wrap (a - b))) := (rfl)
theorem v_i64_mul {a b : Int} : nbin .mul (.int .i64 a) (.int .i64 b) = some (.int .i64 (IntKind.i64.wrap (a * b))) := (rfl)
theorem v_i64_quo {a b : Int} : nbin .quo (.int .i64 a) (.int .i64 b) = if b = 0 then none else some (.int .i64 (IntKind.i64.wrap (a.tdiv b))) := (rfl)
theorem v_i64_rem {a b : Int} : nbin .rem (.int .i64 a) (.int .i64 b) = if b = 0 then none else some (.int .i64 (a.tmod b)) := (rfl)
theorem v_i64_eql {a b : Int} : nbin .eql (.int .i64 a) (.int .i64 b) = some (.bool (a == b)) := (rfl)
theorem v_i64_neq {a b : Int} : nbin .neq (.int .i64 a) (.int .i64 b) = some (.bool (a != b)) := (rfl)
theorem v_i64_lss {a b : Int} : nbin .lss (.int .i64 a) (.int .i64 b) = some (.bool (decide (a < b))) := (rfl)
theorem v_i64_leq {a b : Int} : nbin .leq (.int .i64 a) (.int .i64 b) = some (.bool (decide (a ≤ b))) := (rfl)
theorem v_i64_gtr {a b : Int} : nbin .gtr (.int .i64 a) (.int .i64 b) = some (.bool (decide (a > b))) := (rfl)
theorem v_i64_geq {a b : Int} : nbin .geq (.int .i64 a) (.int .i64 b) = some (.bool (decide (a ≥ b))) := (rfl)
theorem v_i64_and {a b : Int} : nbin .and (.int .i64 a) (.int .i64 b) = (nbits .and .i64 a b).map (.int .i64) := (rfl)
theorem v_i64_or {a b : Int} : nbin .or (.int .i64 a) (.int .i64 b) = (nbits .or .i64 a b).map (.int .i64) := (rfl)
theorem v_i64_xor {a b : Int} : nbin .xor (.int .i64 a) (.int .i64 b) = (nbits .xor .i64 a b).map (.int .i64) := (rfl)
theorem v_i64_andNot {a b : Int} : nbin .andNot (.int .i64 a) (.int .i64 b) = (nbits .andNot .i64 a b).map (.int .i64) := (rfl)
theorem v_i64_shl {a b : Int} {yk : IntKind} : nbin .shl (.int .i64 a) (.int yk b) = if b < 0 then none else some (.int .i64 (IntKind.i64.wrap (a * 2 ^ (min b.toNat IntKind.i64.bits)))) := (rfl)
theorem v_i64_shr {a b : Int} {yk : IntKind} : nbin .shr (.int .i64 a) (.int yk b) = if b < 0 then none else some (.int .i64 (a.fdiv (2 ^ (min b.toNat IntKind.i64.bits)))) := (rfl)
theorem v_i64_neg {a : Int} : nun .neg (.int .i64 a) = some (.int .i64 (IntKind.i64.wrap (0 - a))) := (rfl)
theorem v_u8_add {a b : Int} : nbin .add (.int .u8 a) (.int .u8 b) = some (.int .u8 (IntKind.u8.wrap (a + b))) := (rfl)
theorem v_u8_sub {a b : Int} : nbin .sub (.int .u8 a) (.int .u8 b) = some (.int .u8 (IntKind.u8.wrap (a - b))) := (rfl)
theorem v_u8_mul {a b : Int} : nbin .mul (.int .u8 a) (.int .u8 b) = some (.int .u8 (IntKind.u8.wrap (a * b))) := (rfl)
theorem v_u8_quo {a b : Int} : nbin .quo (.int .u8 a) (.int .u8 b) = if b = 0 then none else some (.int .u8 (IntKind.u8.wrap (a.tdiv b))) := (rfl)
theorem v_u8_rem {a b : Int} : nbin .rem (.int .u8 a) (.int .u8 b) = if b = 0 then none else some (.int .u8 (a.tmod b)) := (rfl)
theorem v_u8_eql {a b : Int} : nbin .eql (.int .u8 a) (.int .u8 b) = some (.bool (a == b)) := (rfl)
theorem v_u8_neq {a b : Int} : nbin .neq (.int .u8 a) (.int .u8 b) = some (.bool (a != b)) := (rfl)
theorem v_u8_lss {a b : Int} : nbin .lss (.int .u8 a) (.int .u8 b) = some (.bool (decide (a < b))) := (rfl)
theorem v_u8_leq {a b : Int} : nbin .leq (.int .u8 a) (.int .u8 b) = some (.bool (decide (a ≤ b))) := (rfl)
theorem v_u8_gtr {a b : Int} : nbin .gtr (.int .u8 a) (.int .u8 b) = some (.bool (decide (a > b))) := (rfl)
theorem v_u8_geq {a b : Int} : nbin .geq (.int .u8 a) (.int .u8 b) = some (.bool (decide (a ≥ b))) := (rfl)
theorem v_u8_and {a b : Int} : nbin .and (.int .u8 a) (.int .u8 b) = (nbits .and .u8 a b).map (.int .u8) := (rfl)
theorem v_u8_or {a b : Int} : nbin .or (.int .u8 a) (.int .u8 b) = (nbits .or .u8 a b).map (.int .u8) := (rfl)
theorem v_u8_xor {a b : Int} : nbin .xor (.int .u8 a) (.int .u8 b) = (nbits .xor .u8 a b).map (.int .u8) := (rfl)
theorem v_u8_andNot {a b : Int} : nbin .andNot (.int .u8 a) (.int .u8 b) = (nbits .andNot .u8 a b).map (.int .u8) := (rfl)
theorem v_u8_shl {a b : Int} {yk : IntKind} : nbin .shl (.int .u8 a) (.int yk b) = if b < 0 then none else some (.int .u8 (IntKind.u8.wrap (a * 2 ^ (min b.toNat IntKind.u8.bits)))) := (rfl)
theorem v_u8_shr {a b : Int} {yk : IntKind} : nbin .shr (.int .u8 a) (.int yk b) = if b < 0 then none else some (.int .u8 (a.fdiv (2 ^ (min b.toNat IntKind.u8.bits)))) := (rfl)
theorem v_u8_neg {a : Int} : nun .neg (.int .u8 a) = some (.int .u8 (IntKind.u8.wrap (0 - a))) := (rfl)
theorem v_eqc_bool {a b : Bool} : eqCell .bool (.bool a) (.bool b) = some (a == b) := (rfl)
theorem v_eqc_int {j k : IntKind} {a b : Int} : eqCell .int (.int j a) (.int k b) = if j = k then some (a == b) else none := (rfl)
theorem v_eqc_str {a b : ByteArray} : eqCell .str (.str a) (.str b) = some (a == b) := (rfl)
theorem v_not {a : Bool} : nun .not (.bool a) = some (.bool !a) := (rfl)
theorem v_str_eql {a b : ByteArray} : nbin .eql (.str a) (.str b) = some (.bool (a.toList == b.toList)) := (rfl)
theorem v_str_neq {a b : ByteArray} : nbin .neq (.str a) (.str b) = some (.bool (!(a.toList == b.toList))) := (rfl)
theorem v_conv_i64_i64 {a : Int} : nconv .i64 (.int .i64 a) = some (.int .i64 (IntKind.i64.wrap a)) := (rfl)
theorem v_conv_i64_u8 {a : Int} : nconv .i64 (.int .u8 a) = some (.int .i64 (IntKind.i64.wrap a)) := (rfl)
theorem v_conv_u8_i64 {a : Int} : nconv .u8 (.int .i64 a) = some (.int .u8 (IntKind.u8.wrap a)) := (rfl)
theorem v_conv_u8_u8 {a : Int} : nconv .u8 (.int .u8 a) = some (.int .u8 (IntKind.u8.wrap a)) := (rfl)
theorem v_conv_u64_i64 {a : Int} : nconv .u64 (.int .i64 a) = some (.int .u64 (IntKind.u64.wrap a)) := (rfl)
theorem v_conv_u64_u8 {a : Int} : nconv .u64 (.int .u8 a) = some (.int .u64 (IntKind.u64.wrap a)) := (rfl)

theorem toNat_add_c {j : Nat} {c : Int} (h : 0 ≤ c) : ((j : Int) + c).toNat = j + c.toNat := by omega
theorem nb_zero : NV.int .u64 0 = nb 0#64 := (rfl)
theorem toNat_i64 {n : Nat} : ((n : Int)).toNat = n := Int.toNat_natCast n
/-- The and of a number with 127. -/
theorem and127 (n : Int) : nbits .and .i64 n 127 = some (n % 128) := by
  simp only [nbits]
  rw [show IntKind.i64.bits = 64 from rfl]
  have e : (BitVec.ofInt 64 n &&& BitVec.ofInt 64 127).toNat = (n % 128).toNat := by
    rw [BitVec.toNat_and, show (BitVec.ofInt 64 127).toNat = 2 ^ 7 - 1 by decide, Nat.and_two_pow_sub_one_eq_mod, BitVec.toNat_ofInt]
    omega
  rw [e, IntWalk.i64_in _ (by omega)]
  congr 1; omega

theorem ext_add {x y c : BitVec 64} (h : c.toNat ≤ 1) : next3 "math/bits.Add64" [nb x, nb y, nb c] = some (.tup [nb (x + y + c), nb (BitVec.ofNat 64 ((x.toNat + y.toNat + c.toNat) / 18446744073709551616))]) := by
  unfold nb next3
  simp only [Int.toNat_natCast, if_true]
  rw [if_neg (by omega)]
  congr 4
  · rw [BitVec.toNat_add, BitVec.toNat_add, Nat.mod_add_mod]; rfl
  · congr 1
    rw [BitVec.toNat_ofNat, Nat.mod_eq_of_lt]
    · rfl
    · have := x.isLt; have := y.isLt; omega
theorem ext_sub {x y c : BitVec 64} (h : c.toNat ≤ 1) : next3 "math/bits.Sub64" [nb x, nb y, nb c] = some (.tup [nb (x - y - c), nb (if x.toNat < y.toNat + c.toNat then 1#64 else 0#64)]) := by
  unfold nb next3
  simp only [Int.toNat_natCast]
  rw [if_neg (by omega), if_neg (by decide), if_pos trivial]
  have := x.isLt; have := y.isLt
  congr 4
  · rw [BitVec.toNat_sub, BitVec.toNat_sub]
    simp only [m64, Int.ofNat_eq_natCast, Int.natCast_inj]
    omega
  · congr 1
    split <;> rfl

theorem heap_ext {H L : Heap} (hl : H.length ≤ L.length) (o : ∀ b, b < H.length → hget L b = hget H b) : ∃ J, L = H ++ J := by
  refine ⟨L.drop H.length, ?_⟩
  apply List.ext_getElem (by simp; omega)
  intro i h1 h2
  by_cases hi : i < H.length
  · have := o i hi
    rw [List.getElem_append_left hi]
    simpa [hget, hi, h1] using this
  · rw [List.getElem_append_right (by omega)]
    simp only [List.getElem_drop]
    congr 1; omega

/-! ### Lists of bits -/
def bitsC (f : Nat → Bool) : List NV := (List.range 128).map fun i => .bool (f i)
theorem bitsC_length {f : Nat → Bool} : (bitsC f).length = 128 := by simp [bitsC]
theorem bitsC_get {f : Nat → Bool} {i : Nat} (h : i < 128) : (bitsC f)[i]? = some (.bool (f i)) := by simp [bitsC, h]
theorem bitsC_congr {f g : Nat → Bool} (h : ∀ i, i < 128 → f i = g i) : bitsC f = bitsC g := by
  apply List.ext_getElem?
  intro i
  by_cases hi : i < 128
  · rw [bitsC_get hi, bitsC_get hi, h i hi]
  · rw [List.getElem?_eq_none (by rw [bitsC_length]; omega), List.getElem?_eq_none (by rw [bitsC_length]; omega)]
def updB (f : Nat → Bool) (i : Nat) (b : Bool) : Nat → Bool := fun j => if j = i then b else f j
theorem bitsC_splice {f : Nat → Bool} {i : Nat} {b : Bool} (h : i < 128) : splice (bitsC f) i [.bool b] = bitsC (updB f i b) := by
  have hl : (splice (bitsC f) i [.bool b]).length = 128 := by
    unfold splice; simp only [List.length_append, List.length_take, List.length_drop, bitsC_length, List.length_cons, List.length_nil]; omega
  apply List.ext_getElem?
  intro j
  by_cases hj : j < 128
  · rw [bitsC_get hj]
    unfold splice updB
    by_cases h1 : j < i
    · rw [List.getElem?_append_left (by rw [List.length_take, bitsC_length]; omega), List.getElem?_take_of_lt h1, bitsC_get hj, if_neg (by omega)]
    · rw [List.getElem?_append_right (by rw [List.length_take, bitsC_length]; omega), List.length_take, bitsC_length, Nat.min_eq_left (by omega)]
      by_cases h2 : j = i
      · subst h2; rw [Nat.sub_self, if_pos rfl]; rfl
      · obtain ⟨k, rfl⟩ : ∃ k, j = i + 1 + k := ⟨j - (i + 1), by omega⟩
        rw [show i + 1 + k - i = k + 1 by omega, List.cons_append, List.getElem?_cons_succ, List.nil_append, List.getElem?_drop, if_neg h2]
        simp only [List.length_cons, List.length_nil]
        rw [bitsC_get hj]
  · rw [List.getElem?_eq_none (by rw [hl]; omega), List.getElem?_eq_none (by rw [bitsC_length]; omega)]
theorem bitsC_cut {f : Nat → Bool} : cut (bitsC f) 0 128 = some (bitsC f) := cut_all bitsC_length
theorem bitsC_splice_all {f g : Nat → Bool} : splice (bitsC f) 0 (bitsC g) = bitsC g := by
  rw [splice_zero, bitsC_length, List.drop_of_length_le (Nat.le_of_eq bitsC_length), List.append_nil]
theorem bitsC_one {f : Nat → Bool} : (bitsC f).all NV.one = true := by simp [bitsC, NV.one]
theorem bitsC_flat {f : Nat → Bool} : (NV.agg (bitsC f)).flat = true := bitsC_one
theorem bitsC_lo {f : Nat → Bool} {n : Nat} : NV.lows n (bitsC f) := by
  apply NV.lows_mem
  intro v hv
  simp only [bitsC, List.mem_map] at hv
  obtain ⟨_, _, rfl⟩ := hv
  trivial
theorem bitsC_zero : List.replicate 128 (NV.bool false) = bitsC fun _ => false := by
  apply List.ext_getElem?
  intro i
  by_cases hi : i < 128
  · rw [bitsC_get hi, List.getElem?_replicate, if_pos hi]
  · rw [List.getElem?_eq_none (by rw [List.length_replicate]; omega), List.getElem?_eq_none (by rw [bitsC_length]; omega)]

/-! ### Values of 128 bits -/
/-- The value of bits. -/
def ofB (f : Nat → Bool) : (n : Nat) → BitVec n
  | 0 => 0#0
  | n + 1 => BitVec.cons (f n) (ofB f n)
theorem ofB_get {f : Nat → Bool} {i : Nat} : ∀ {n : Nat}, (ofB f n).getLsbD i = (decide (i < n) && f i)
  | 0 => by simp [ofB]
  | n + 1 => by
    rw [ofB, BitVec.getLsbD_cons, ofB_get]
    by_cases h : i = n
    · subst h; simp
    · rw [if_neg h]
      by_cases h1 : i < n
      · simp [h1, Nat.lt_succ_of_lt h1]
      · simp [h1, show ¬ i < n + 1 by omega]
def hiOf (v : BitVec 128) : BitVec 64 := v.extractLsb' 64 64
def loOf (v : BitVec 128) : BitVec 64 := v.extractLsb' 0 64
theorem hiOf_get {v : BitVec 128} {i : Nat} : (hiOf v).getLsbD i = (decide (i < 64) && v.getLsbD (64 + i)) := by
  unfold hiOf; rw [BitVec.getLsbD_extractLsb']
theorem loOf_get {v : BitVec 128} {i : Nat} : (loOf v).getLsbD i = (decide (i < 64) && v.getLsbD i) := by
  unfold loOf; rw [BitVec.getLsbD_extractLsb', Nat.zero_add]
/-- The cells of a value. -/
def vc (v : BitVec 128) : List NV := [nb (hiOf v), nb (loOf v)]
def vnv (v : BitVec 128) : NV := .agg [nb (hiOf v), nb (loOf v)]
theorem hi_eq {v : BitVec 128} {x : BitVec 64} (h : ∀ i, i < 64 → x.getLsbD i = v.getLsbD (64 + i)) : x = hiOf v := by
  apply BitVec.eq_of_getLsbD_eq
  intro i hi
  rw [h i hi, hiOf_get]; simp [hi]
theorem lo_eq {v : BitVec 128} {x : BitVec 64} (h : ∀ i, i < 64 → x.getLsbD i = v.getLsbD i) : x = loOf v := by
  apply BitVec.eq_of_getLsbD_eq
  intro i hi
  rw [h i hi, loOf_get]; simp [hi]
theorem vnv_eq {v : BitVec 128} {x y : BitVec 64} (h1 : ∀ i, i < 64 → x.getLsbD i = v.getLsbD (64 + i)) (h2 : ∀ i, i < 64 → y.getLsbD i = v.getLsbD i) : NV.agg [nb x, nb y] = vnv v := by
  unfold vnv; rw [← hi_eq h1, ← lo_eq h2]
theorem vnv_lo {v : BitVec 128} {n : Nat} : (vnv v).lo n := ⟨trivial, trivial, trivial⟩
theorem val_of (x y : Int) (hx : 0 ≤ x ∧ x < 18446744073709551616) (hy : 0 ≤ y ∧ y < 18446744073709551616) : ∃ v : BitVec 128, NV.agg [.int .u64 x, .int .u64 y] = vnv v := by
  refine ⟨ofB (fun i => if i < 64 then (BitVec.ofInt 64 y).getLsbD i else (BitVec.ofInt 64 x).getLsbD (i - 64)) 128, ?_⟩
  rw [nb_of x hx, nb_of y hy]
  apply vnv_eq
  · intro i hi
    rw [ofB_get, if_neg (by omega), Nat.add_sub_cancel_left]
    simp [show 64 + i < 128 by omega]
  · intro i hi
    rw [ofB_get, if_pos hi]
    simp [show i < 128 by omega]
theorem vnv_inj {a b : BitVec 128} (h : vnv a = vnv b) : a = b := by
  unfold vnv at h
  simp only [NV.agg.injEq, List.cons.injEq, and_true] at h
  have h1 := nb_inj h.1
  have h2 := nb_inj h.2
  apply BitVec.eq_of_getLsbD_eq
  intro i hi
  by_cases hl : i < 64
  · have := congrArg (fun x => x.getLsbD i) h2
    simp only [loOf_get, hl, decide_true, Bool.true_and] at this
    exact this
  · have := congrArg (fun x => x.getLsbD (i - 64)) h1
    simp only [hiOf_get, show i - 64 < 64 by omega, show 64 + (i - 64) = i by omega, decide_true, Bool.true_and] at this
    exact this
theorem words_eq {a b : BitVec 128} : ((hiOf a == hiOf b) && (loOf a == loOf b)) = (a == b) := by
  by_cases h : a = b
  · subst h; simp
  · rw [beq_false_of_ne h]
    by_cases h1 : hiOf a = hiOf b
    · by_cases h2 : loOf a = loOf b
      · exact absurd (vnv_inj (by unfold vnv; rw [h1, h2])) h
      · rw [beq_false_of_ne h2, Bool.and_false]
    · rw [beq_false_of_ne h1, Bool.false_and]
/-- A number of bits in its range. -/
def clampN (n : Int) : Nat := (max 0 (min n 128)).toNat
def onesV (n : Int) : BitVec 128 := ofB (fun i => decide (i < clampN n)) 128
theorem onesV_get {n : Int} {i : Nat} (h : i < 128) : (onesV n).getLsbD i = decide (i < clampN n) := by
  unfold onesV; rw [ofB_get]; simp [h]

end Go.Ns
