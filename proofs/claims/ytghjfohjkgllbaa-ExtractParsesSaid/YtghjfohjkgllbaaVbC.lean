/- Bytes: the rules of the operations at them; lists of cells by a function; what byte strings of values are. -/
import Derived.Test.YtghjfohjkgllbaaVbB
set_option linter.unusedVariables false
set_option linter.unusedSimpArgs false
namespace Go.Ns

/-- A byte. -/
def n8 (x : BitVec 8) : NV := .int .u8 (x.toNat : Int)
theorem n8_one {x : BitVec 8} : (n8 x).one = true := (rfl)
theorem n8_flat {x : BitVec 8} : (n8 x).flat = true := (rfl)
theorem n8_cells {x : BitVec 8} : (n8 x).cells = [n8 x] := (rfl)
theorem w8_mod (n : Int) : IntKind.u8.wrap n = n % 256 := by simp [IntKind.wrap, IntKind.bits, IntKind.signed]
theorem w8_bv (x : BitVec 8) : IntKind.u8.wrap (x.toNat : Int) = (x.toNat : Int) := by rw [w8_mod]; have := x.isLt; omega
theorem ofInt8_nat (x : BitVec 8) : BitVec.ofInt 8 (x.toNat : Int) = x := by
  apply BitVec.eq_of_toNat_eq
  rw [BitVec.toNat_ofInt]
  have := x.isLt
  omega
theorem n8_of (c : Int) (h : 0 ≤ c ∧ c ≤ 255) : NV.int .u8 c = n8 (BitVec.ofInt 8 c) := by
  unfold n8
  rw [BitVec.toNat_ofInt]
  congr 1
  omega
theorem n8_inj {x y : BitVec 8} (h : n8 x = n8 y) : x = y := by
  unfold n8 at h
  injection h with _ h
  exact BitVec.eq_of_toNat_eq (by omega)
theorem n8_or {x y : BitVec 8} : nbin .or (n8 x) (n8 y) = some (n8 (x ||| y)) := by
  simp only [n8, nbin, nbits, if_true, Option.map_some]
  rw [show IntKind.u8.bits = 8 from rfl, ofInt8_nat, ofInt8_nat, w8_bv]
theorem n8_and_c {x : BitVec 8} {c : Int} : nbin .and (n8 x) (.int .u8 c) = some (n8 (x &&& BitVec.ofInt 8 c)) := by
  simp only [n8, nbin, nbits, if_true, Option.map_some]
  rw [show IntKind.u8.bits = 8 from rfl, ofInt8_nat, w8_bv]
theorem n8_eql_c {x : BitVec 8} {c : Int} (hc : 0 ≤ c ∧ c ≤ 255) : nbin .eql (n8 x) (.int .u8 c) = some (.bool (x == BitVec.ofInt 8 c)) := by
  rw [n8_of c hc]
  simp only [n8, nbin, if_true]
  congr 2
  by_cases h : x = BitVec.ofInt 8 c
  · rw [h]; simp
  · rw [beq_false_of_ne h, beq_false_of_ne (fun e => h (BitVec.eq_of_toNat_eq (by omega)))]
theorem n8_shr {x : BitVec 8} {k : IntKind} {b : Int} (h : 0 ≤ b) : nbin .shr (n8 x) (.int k b) = some (n8 (x >>> b.toNat)) := by
  simp only [n8, nbin]
  rw [if_neg (by omega), show IntKind.u8.bits = 8 from rfl]
  congr 2
  rw [show (2 : Int) ^ (min b.toNat 8) = ((2 ^ (min b.toNat 8) : Nat) : Int) by push_cast; rfl, Int.fdiv_eq_ediv_of_nonneg _ (Int.natCast_nonneg _), ← Int.natCast_ediv, BitVec.toNat_ushiftRight, Nat.shiftRight_eq_div_pow]
  congr 1
  rcases Nat.lt_or_ge b.toNat 8 with h | h
  · rw [Nat.min_eq_left (by omega)]
  · rw [Nat.min_eq_right h, Nat.div_eq_of_lt x.isLt, Nat.div_eq_of_lt (Nat.lt_of_lt_of_le x.isLt (Nat.pow_le_pow_right (by omega) h))]
theorem n8_one_shl {k : IntKind} {b : Int} (h : 0 ≤ b ∧ b < 8) : nbin .shl (.int .u8 1) (.int k b) = some (n8 (1#8 <<< b.toNat)) := by
  simp only [n8, nbin]
  rw [if_neg (by omega), show IntKind.u8.bits = 8 from rfl]
  obtain ⟨m, rfl⟩ : ∃ m : Nat, b = m := ⟨b.toNat, by omega⟩
  have hm : m < 8 := by omega
  rw [Int.toNat_natCast]
  match m, hm with
  | 0, _ => rfl
  | 1, _ => rfl
  | 2, _ => rfl
  | 3, _ => rfl
  | 4, _ => rfl
  | 5, _ => rfl
  | 6, _ => rfl
  | 7, _ => rfl
theorem n8_conv64 {x : BitVec 8} : nconv .u64 (n8 x) = some (.int .u64 (x.toNat : Int)) := by
  simp only [n8, nconv]
  have := x.isLt
  rw [IntWalk.u64_in _ (by omega)]
theorem n8_fold {x : BitVec 8} : NV.int .u8 (x.toNat : Int) = n8 x := (rfl)
theorem bit8_at {x : BitVec 8} {n : Nat} : (x >>> n &&& BitVec.ofInt 8 1 == BitVec.ofInt 8 1) = x.getLsbD n := by
  rw [show BitVec.ofInt 8 1 = 1#8 by decide]
  have key : ∀ y : BitVec 8, (y &&& 1#8 == 1#8) = y.getLsbD 0 := by
    intro y
    by_cases h : y.getLsbD 0 = true
    · have : y &&& 1#8 = 1#8 := by
        apply BitVec.eq_of_getLsbD_eq
        intro i hi
        simp only [BitVec.getLsbD_and, BitVec.getLsbD_one]
        by_cases h0 : i = 0
        · subst h0; simp only [h, Bool.true_and]
        · simp [h0]
      rw [this, h]; simp
    · have h' : y.getLsbD 0 = false := by simpa using h
      have : y &&& 1#8 = 0#8 := by
        apply BitVec.eq_of_getLsbD_eq
        intro i hi
        simp only [BitVec.getLsbD_and, BitVec.getLsbD_one, BitVec.getLsbD_zero]
        by_cases h0 : i = 0
        · subst h0; simp only [h', Bool.false_and]
        · simp [h0]
      rw [this, h']; decide
  rw [key, BitVec.getLsbD_ushiftRight, Nat.add_zero]

theorem or_bit8 {y : BitVec 8} {i j : Nat} (hi : i < 8) (hj : j < 8) : (y ||| (1#8 <<< j)).getLsbD i = (y.getLsbD i || decide (i = j)) := by
  rw [BitVec.getLsbD_or, BitVec.getLsbD_shiftLeft, BitVec.getLsbD_one]
  congr 1
  by_cases h : i = j
  · subst h; simp [hi]
  · by_cases h1 : i < j
    · simp [h, h1]
    · simp [h, h1, show i - j ≠ 0 by omega]
theorem blk3 {H : Heap} {a b : Option NBlk} {x y : List NV} (h : x = y) : H ++ [a, b, some (.cells x false)] = H ++ [a, b, some (.cells y false)] := by rw [h]

theorem nread_toStr {ρ : NOpd → NV} {h : Heap} {x : NOpd} : nread ρ h (.toStr x) = (sliceCells h 1 (ρ x)).bind fun cs => (bytesOf cs).map fun bs => .str ⟨bs.toArray⟩ := (rfl)

/-! ### Lists of cells -/
def arrC (n : Nat) (f : Nat → NV) : List NV := (List.range n).map f
theorem arrC_length {n : Nat} {f : Nat → NV} : (arrC n f).length = n := by simp [arrC]
theorem arrC_get {n : Nat} {f : Nat → NV} {i : Nat} (h : i < n) : (arrC n f)[i]? = some (f i) := by simp [arrC, h]
theorem arrC_congr {n : Nat} {f g : Nat → NV} (h : ∀ i, i < n → f i = g i) : arrC n f = arrC n g := by
  apply List.ext_getElem?
  intro i
  by_cases hi : i < n
  · rw [arrC_get hi, arrC_get hi, h i hi]
  · rw [List.getElem?_eq_none (by rw [arrC_length]; omega), List.getElem?_eq_none (by rw [arrC_length]; omega)]
def updC (f : Nat → NV) (i : Nat) (b : NV) : Nat → NV := fun j => if j = i then b else f j
theorem arrC_splice {n : Nat} {f : Nat → NV} {i : Nat} {b : NV} (h : i < n) : splice (arrC n f) i [b] = arrC n (updC f i b) := by
  have hl : (splice (arrC n f) i [b]).length = n := by
    unfold splice; simp only [List.length_append, List.length_take, List.length_drop, arrC_length, List.length_cons, List.length_nil]; omega
  apply List.ext_getElem?
  intro j
  by_cases hj : j < n
  · rw [arrC_get hj]
    unfold splice updC
    by_cases h1 : j < i
    · rw [List.getElem?_append_left (by rw [List.length_take, arrC_length]; omega), List.getElem?_take_of_lt h1, arrC_get hj, if_neg (by omega)]
    · rw [List.getElem?_append_right (by rw [List.length_take, arrC_length]; omega), List.length_take, arrC_length, Nat.min_eq_left (by omega)]
      by_cases h2 : j = i
      · subst h2; rw [Nat.sub_self, if_pos rfl]; rfl
      · obtain ⟨k, rfl⟩ : ∃ k, j = i + 1 + k := ⟨j - (i + 1), by omega⟩
        rw [show i + 1 + k - i = k + 1 by omega, List.cons_append, List.getElem?_cons_succ, List.nil_append, List.getElem?_drop, if_neg h2]
        simp only [List.length_cons, List.length_nil]
        rw [arrC_get hj]
  · rw [List.getElem?_eq_none (by rw [hl]; omega), List.getElem?_eq_none (by rw [arrC_length]; omega)]
theorem arrC_splice_all {n : Nat} {f g : Nat → NV} : splice (arrC n f) 0 (arrC n g) = arrC n g := by
  rw [splice_zero, arrC_length, List.drop_of_length_le (Nat.le_of_eq arrC_length), List.append_nil]
theorem arrC_cut {n o m : Nat} {f : Nat → NV} (h : o + m ≤ n) : cut (arrC n f) o m = some (arrC m fun i => f (o + i)) := by
  unfold cut
  rw [if_pos (by rw [arrC_length]; exact h)]
  congr 1
  apply List.ext_getElem?
  intro i
  by_cases hi : i < m
  · rw [List.getElem?_take_of_lt hi, List.getElem?_drop, arrC_get (by omega), arrC_get hi]
  · rw [List.getElem?_eq_none (by rw [List.length_take]; omega), List.getElem?_eq_none (by rw [arrC_length]; omega)]
theorem arrC_rep {n : Nat} {x : NV} : (List.replicate n [x]).flatten = arrC n fun _ => x := by
  apply List.ext_getElem?
  intro i
  have e : (List.replicate n [x]).flatten = List.replicate n x := by
    rw [← List.map_replicate (f := fun y => [y])]
    induction n with
    | zero => rfl
    | succ n ih => simp only [List.replicate_succ, List.map_cons, List.flatten_cons, ih]; rfl
  rw [e]
  by_cases hi : i < n
  · rw [arrC_get hi, List.getElem?_replicate, if_pos hi]
  · rw [List.getElem?_eq_none (by rw [List.length_replicate]; omega), List.getElem?_eq_none (by rw [arrC_length]; omega)]
theorem arrC_one {n : Nat} {f : Nat → NV} (h : ∀ i, i < n → (f i).one = true) : (arrC n f).all NV.one = true := by
  simp only [arrC, List.all_map, List.all_eq_true, List.mem_range]; exact h
theorem arrC_lo {n m : Nat} {f : Nat → NV} (h : ∀ i, (f i).lo m) : NV.lows m (arrC n f) := by
  apply NV.lows_mem
  intro v hv
  simp only [arrC, List.mem_map] at hv
  obtain ⟨i, _, rfl⟩ := hv
  exact h i

/-! ### Byte strings of values -/
/-- Byte 'k' of a value, counted from the lowest one. -/
def byteV (v : BitVec 128) (k : Nat) : BitVec 8 := v.extractLsb' (8 * k) 8
theorem byteV_get {v : BitVec 128} {k i : Nat} : (byteV v k).getLsbD i = (decide (i < 8) && v.getLsbD (8 * k + i)) := by
  unfold byteV; rw [BitVec.getLsbD_extractLsb']
/-- How many bytes a value has. -/
def lenV (v : BitVec 128) : Nat := max 1 ((bl v.toNat + 7) / 8)
theorem lenV_range (v : BitVec 128) : 1 ≤ lenV v ∧ lenV v ≤ 16 := by
  have := bl_128 v
  unfold lenV; omega
/-- The bytes of a value, the highest one first. -/
def bytesC (v : BitVec 128) : List NV := arrC (lenV v) fun i => n8 (byteV v (lenV v - 1 - i))
theorem high_zero {v : BitVec 128} {i : Nat} (h : 8 * lenV v ≤ i) : v.getLsbD i = false := by
  by_cases hi : i < 128
  · have h1 : bl v.toNat ≤ i := by unfold lenV at h; omega
    rw [bl_le] at h1
    exact Nat.testBit_lt_two_pow h1
  · exact BitVec.getLsbD_of_ge _ _ (by omega)
/-- The value of bytes, the highest one first. -/
def bigV (n : Nat) (bs : Nat → BitVec 8) : BitVec 128 := ofB (fun i => decide (i < 8 * n) && (bs (n - 1 - i / 8)).getLsbD (i % 8)) 128
theorem bigV_congr {n : Nat} {bs cs : Nat → BitVec 8} (h : ∀ i, i < n → bs i = cs i) : bigV n bs = bigV n cs := by
  refine ofB_eq fun i hi => ?_
  unfold bigV
  rw [ofB_get]
  by_cases h1 : i < 8 * n
  · rw [h (n - 1 - i / 8) (by omega)]; simp [hi]
  · simp [h1]
theorem bigV_zero (bs : Nat → BitVec 8) : bigV 0 bs = 0#128 := ofB_eq fun i hi => by simp
theorem bigV_succ (n : Nat) (bs : Nat → BitVec 8) : bigV (n + 1) bs = (bigV n bs) <<< 8 ||| (bs n).setWidth 128 := by
  refine ofB_eq fun i hi => ?_
  rw [BitVec.getLsbD_or, BitVec.getLsbD_shiftLeft, BitVec.getLsbD_setWidth]
  unfold bigV
  rw [ofB_get]
  by_cases h : i < 8
  · simp [h, hi, show i < 8 * (n + 1) by omega, show i / 8 = 0 by omega, show i % 8 = i by omega]
  · rw [BitVec.getLsbD_of_ge (bs n) i (by omega)]
    have e1 : n + 1 - 1 - i / 8 = n - 1 - (i - 8) / 8 := by omega
    have e2 : i % 8 = (i - 8) % 8 := by omega
    rw [e1, e2]
    by_cases h1 : i < 8 * (n + 1)
    · simp [h, hi, h1, show i - 8 < 8 * n by omega, show i - 8 < 128 by omega]
    · simp [h, h1, show ¬ i - 8 < 8 * n by omega]
/-- The value of the bytes of a value. -/
theorem big_bytes (v : BitVec 128) : bigV (lenV v) (fun i => byteV v (lenV v - 1 - i)) = v := by
  refine ofB_eq fun i hi => ?_
  obtain ⟨h0, h1⟩ := lenV_range v
  by_cases h : i < 8 * lenV v
  · rw [byteV_get]
    have e : 8 * (lenV v - 1 - (lenV v - 1 - i / 8)) + i % 8 = i := by omega
    rw [e]; simp [h, Nat.mod_lt]
  · rw [high_zero (by omega)]; simp [h]
/-- The first byte of a longer string of a value is not 0. -/
theorem first_byte (v : BitVec 128) (h : 1 < lenV v) : byteV v (lenV v - 1) ≠ 0#8 := by
  intro e
  have hb : bl v.toNat ≤ 8 * (lenV v - 1) := by
    rw [bl_le]
    apply Nat.lt_pow_two_of_testBit
    intro j hj
    by_cases h1 : j < 8 * lenV v
    · have := congrArg (fun x => x.getLsbD (j - 8 * (lenV v - 1))) e
      simp only [byteV_get, BitVec.getLsbD_zero] at this
      rw [show 8 * (lenV v - 1) + (j - 8 * (lenV v - 1)) = j by omega] at this
      have h5 : v.getLsbD j = false := by simpa [show j - 8 * (lenV v - 1) < 8 by omega] using this
      exact h5
    · exact high_zero (v := v) (by omega)
  unfold lenV at h hb
  omega
/-- The bytes of the value of bytes. -/
theorem bytes_big (n : Nat) (bs : Nat → BitVec 8) (h0 : 1 ≤ n) (h1 : n ≤ 16) (h2 : 1 < n → bs 0 ≠ 0#8) : lenV (bigV n bs) = n ∧ ∀ i, i < n → byteV (bigV n bs) (n - 1 - i) = bs i := by
  have hg : ∀ i, i < 8 * n → (bigV n bs).getLsbD i = (bs (n - 1 - i / 8)).getLsbD (i % 8) := by
    intro i hi
    unfold bigV
    rw [ofB_get]; simp [hi, show i < 128 by omega]
  have hz : ∀ i, 8 * n ≤ i → (bigV n bs).getLsbD i = false := by
    intro i hi
    unfold bigV
    rw [ofB_get]; simp [show ¬ i < 8 * n by omega]
  have hb1 : bl (bigV n bs).toNat ≤ 8 * n := by
    rw [bl_le]
    apply Nat.lt_pow_two_of_testBit
    intro j hj
    exact hz j hj
  refine ⟨?_, ?_⟩
  · unfold lenV
    by_cases hn : n = 1
    · subst hn; omega
    · have hne := h2 (by omega)
      have hb2 : ¬ bl (bigV n bs).toNat ≤ 8 * (n - 1) := by
        rw [bl_le]
        intro hlt
        apply hne
        apply BitVec.eq_of_getLsbD_eq
        intro i hi
        have h3 := hg (8 * (n - 1) + i) (by omega)
        rw [show n - 1 - (8 * (n - 1) + i) / 8 = 0 by omega, show (8 * (n - 1) + i) % 8 = i by omega] at h3
        rw [← h3, BitVec.getLsbD_zero]
        have : (bigV n bs).getLsbD (8 * (n - 1) + i) = (bigV n bs).toNat.testBit (8 * (n - 1) + i) := rfl
        rw [this]
        exact Nat.testBit_lt_two_pow (Nat.lt_of_lt_of_le hlt (Nat.pow_le_pow_right (by omega) (by omega)))
      omega
  · intro i hi
    apply BitVec.eq_of_getLsbD_eq
    intro k hk
    rw [byteV_get, hg _ (by omega), show n - 1 - (8 * (n - 1 - i) + k) / 8 = i by omega, show (8 * (n - 1 - i) + k) % 8 = k by omega]
    simp [hk]
/-- A longer string is of a greater value. -/
theorem longer (a b : BitVec 128) (h : lenV b < lenV a) : cmpV a b = 1 := by
  have h1 : ¬ bl a.toNat ≤ 8 * lenV b := by
    intro e
    have := lenV_range b
    unfold lenV at h e this
    omega
  have h2 : bl b.toNat ≤ 8 * lenV b := by unfold lenV; omega
  rw [bl_le] at h1 h2
  unfold cmpV
  rw [if_neg (by intro e; subst e; omega), if_neg (by omega)]
end Go.Ns
