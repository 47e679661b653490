/- Ent1, Ent2, Ent3 in one text. -/
import Derived.Test.YtimimfbiejijdaaRCSchY
import Derived.Test.YtimimfbiejijdaaVbA
import Derived.Test.YtimimfbiejijdaaFsJ
set_option linter.unusedSimpArgs false
set_option linter.unusedVariables false
set_option maxRecDepth 10000
namespace Go.Proofs
open Go.Ns

/-! ### Numbers of which nothing is known -/
def jadd (a b : Int) : Int := IntKind.u64.wrap (a + b)
def jsub (a b : Int) : Int := IntKind.u64.wrap (a - b)
def jand (a b : Int) : Int := (nbits .and .u64 a b).getD 0
def jor (a b : Int) : Int := (nbits .or .u64 a b).getD 0
def jshl (a b : Int) : Int := IntKind.u64.wrap (a * 2 ^ (min b.toNat IntKind.u64.bits))
def jconv (a : Int) : Int := IntKind.u64.wrap a
theorem jconv_pos (a : Int) : 0 ≤ jconv a := by unfold jconv; rw [wu_mod]; omega
theorem j_add {a b : Int} : nbin .add (.int .u64 a) (.int .u64 b) = some (.int .u64 (jadd a b)) := (rfl)
theorem j_sub {a b : Int} : nbin .sub (.int .u64 a) (.int .u64 b) = some (.int .u64 (jsub a b)) := (rfl)
theorem j_and {a b : Int} : nbin .and (.int .u64 a) (.int .u64 b) = some (.int .u64 (jand a b)) := (rfl)
theorem j_or {a b : Int} : nbin .or (.int .u64 a) (.int .u64 b) = some (.int .u64 (jor a b)) := (rfl)
theorem j_shl_c {k : IntKind} {a b : Int} (h : 0 ≤ b) : nbin .shl (.int .u64 a) (.int k b) = some (.int .u64 (jshl a b)) := by
  simp only [nbin]; rw [if_neg (by omega)]; rfl
theorem j_shl_j {k : IntKind} {a n : Int} : nbin .shl (.int .u64 a) (.int k (jconv n)) = some (.int .u64 (jshl a (jconv n))) := j_shl_c (jconv_pos n)
theorem j_conv {a : Int} : nconv .u64 (.int .i64 a) = some (.int .u64 (jconv a)) := (rfl)
theorem j_eql {a b : Int} : nbin .eql (.int .u64 a) (.int .u64 b) = some (.bool (a == b)) := (rfl)
theorem j_neq {a b : Int} : nbin .neq (.int .u64 a) (.int .u64 b) = some (.bool (a != b)) := (rfl)

def U64 (n : Int) : Prop := 0 ≤ n ∧ n < 18446744073709551616
theorem u64_wrap (n : Int) : U64 (IntKind.u64.wrap n) := by unfold U64; rw [wu_mod]; omega
theorem jadd_u (a b : Int) : U64 (jadd a b) := u64_wrap _
theorem jsub_u (a b : Int) : U64 (jsub a b) := u64_wrap _
theorem jand_u (a b : Int) : U64 (jand a b) := u64_wrap _
theorem jor_u (a b : Int) : U64 (jor a b) := u64_wrap _
theorem jshl_u (a b : Int) : U64 (jshl a b) := u64_wrap _
theorem jconv_u (a : Int) : U64 (jconv a) := u64_wrap _
theorem u64_zero : U64 0 := by unfold U64; omega
theorem u64_one : U64 1 := by unfold U64; omega
def lowV (a b k : Int) : Int × Int := if 128 ≤ k then (a, b) else if 64 ≤ k then (jand a (jsub (jshl 1 (jconv (k - 64))) 1), b) else if k ≤ 0 then (0, 0) else (0, jand b (jsub (jshl 1 (jconv k)) 1))
theorem lowV_u (a b k : Int) (hk : k ≤ 63) : U64 (lowV a b k).1 ∧ U64 (lowV a b k).2 := by
  unfold lowV
  rw [if_neg (by omega), if_neg (by omega)]
  split
  · exact ⟨u64_zero, u64_zero⟩
  · exact ⟨u64_zero, jand_u _ _⟩
theorem vjGen : (type_of% @v_i64_add) ∧ (type_of% @v_i64_sub) ∧ (type_of% @v_i64_mul) ∧ (type_of% @v_i64_quo) ∧ (type_of% @v_i64_rem) ∧ (type_of% @v_i64_eql) ∧ (type_of% @v_i64_neq) ∧ (type_of% @v_i64_lss) ∧ (type_of% @v_i64_leq) ∧ (type_of% @v_i64_gtr) ∧ (type_of% @v_i64_geq) ∧ (type_of% @v_i64_and) ∧ (type_of% @v_i64_or) ∧ (type_of% @v_i64_xor) ∧ (type_of% @v_i64_andNot) ∧ (type_of% @v_i64_shl) ∧ (type_of% @v_i64_shr) ∧ (type_of% @v_i64_neg) ∧ (type_of% @v_u8_add) ∧ (type_of% @v_u8_sub) ∧ (type_of% @v_u8_mul) ∧ (type_of% @v_u8_quo) ∧ (type_of% @v_u8_rem) ∧ (type_of% @v_u8_eql) ∧ (type_of% @v_u8_neq) ∧ (type_of% @v_u8_lss) ∧ (type_of% @v_u8_leq) ∧ (type_of% @v_u8_gtr) ∧ (type_of% @v_u8_geq) ∧ (type_of% @v_u8_and) ∧ (type_of% @v_u8_or) ∧ (type_of% @v_u8_xor) ∧ (type_of% @v_u8_andNot) ∧ (type_of% @v_u8_shl) ∧ (type_of% @v_u8_shr) ∧ (type_of% @v_u8_neg) ∧ (type_of% @v_eqc_bool) ∧ (type_of% @v_eqc_int) ∧ (type_of% @v_eqc_str) ∧ (type_of% @v_not) ∧ (type_of% @v_str_eql) ∧ (type_of% @v_str_neq) ∧ (type_of% @v_conv_i64_i64) ∧ (type_of% @v_conv_i64_u8) ∧ (type_of% @v_conv_u8_i64) ∧ (type_of% @v_conv_u8_u8) ∧ (type_of% @nbool_undef) ∧ (type_of% @guardK_none) ∧ (type_of% @j_add) ∧ (type_of% @j_sub) ∧ (type_of% @j_and) ∧ (type_of% @j_or) ∧ (type_of% @j_shl_c) ∧ (type_of% @j_shl_j) ∧ (type_of% @j_conv) ∧ (type_of% @j_eql) ∧ (type_of% @j_neq) :=
  ⟨@v_i64_add, @v_i64_sub, @v_i64_mul, @v_i64_quo, @v_i64_rem, @v_i64_eql, @v_i64_neq, @v_i64_lss, @v_i64_leq, @v_i64_gtr, @v_i64_geq, @v_i64_and, @v_i64_or, @v_i64_xor, @v_i64_andNot, @v_i64_shl, @v_i64_shr, @v_i64_neg, @v_u8_add, @v_u8_sub, @v_u8_mul, @v_u8_quo, @v_u8_rem, @v_u8_eql, @v_u8_neq, @v_u8_lss, @v_u8_leq, @v_u8_gtr, @v_u8_geq, @v_u8_and, @v_u8_or, @v_u8_xor, @v_u8_andNot, @v_u8_shl, @v_u8_shr, @v_u8_neg, @v_eqc_bool, @v_eqc_int, @v_eqc_str, @v_not, @v_str_eql, @v_str_neq, @v_conv_i64_i64, @v_conv_i64_u8, @v_conv_u8_i64, @v_conv_u8_u8, @nbool_undef, @guardK_none, @j_add, @j_sub, @j_and, @j_or, @j_shl_c, @j_shl_j, @j_conv, @j_eql, @j_neq⟩
theorem low_ok (H : Heap) (a b k : Int) (hk : -9223372036854775808 ≤ k ∧ k ≤ 9223372036854775807) : NCall Try.prog 35 [.agg [.int .u64 a, .int .u64 b], .int .i64 k] H fun r => r = (.agg [.int .u64 (lowV a b k).1, .int .u64 (lowV a b k).2], H) := by
  refine call_pure E0 mixed t35_ok (by kernel_rfl) ⟨trivial, trivial, trivial⟩ ?_
  simp only [t35]
  simp (disch := first | omega | (simp only [fsLen]; omega)) only [↓fsPre, fsPost, fsGen, fsDefs, vjGen, Nat.reduceEqDiff, ↓reduceIte]
  refine condK_dec (fun e1 => ?_) (fun e1 => ?_)
  · simp (disch := first | omega | (simp only [fsLen]; omega)) only [↓fsPre, fsPost, fsCond, fsGen, fsDefs, Nat.reduceAdd, Nat.reduceEqDiff, ↓reduceIte]
    refine ⟨?_, _, rfl⟩
    unfold lowV; rw [if_pos e1]
  · simp (disch := first | omega | (simp only [fsLen]; omega)) only [↓fsPre, fsPost, fsDefs, vjGen, Nat.reduceEqDiff, ↓reduceIte]
    refine condK_dec (fun e2 => ?_) (fun e2 => ?_)
    · simp (disch := first | omega | (simp only [fsLen]; omega)) only [↓fsPre, fsPost, fsCond, fsGen, fsDefs, vjGen, Nat.reduceAdd, Nat.reduceLeDiff, Nat.reduceEqDiff, ↓reduceIte]
      refine ⟨?_, _, rfl⟩
      unfold lowV; rw [if_neg e1, if_pos e2]
    · simp (disch := first | omega | (simp only [fsLen]; omega)) only [↓fsPre, fsPost, vjGen, Nat.reduceEqDiff, ↓reduceIte]
      refine condK_dec (fun e3 => ?_) (fun e3 => ?_)
      · simp (disch := first | omega | (simp only [fsLen]; omega)) only [↓fsPre, fsPost, fsCond, fsGen, fsDefs, Nat.reduceAdd, Nat.reduceEqDiff, ↓reduceIte]
        refine ⟨?_, _, rfl⟩
        unfold lowV; rw [if_neg e1, if_neg e2, if_pos e3]
      · simp (disch := first | omega | (simp only [fsLen]; omega)) only [↓fsPre, fsPost, fsCond, fsGen, fsDefs, vjGen, Nat.reduceAdd, Nat.reduceEqDiff, ↓reduceIte]
        refine ⟨?_, _, rfl⟩
        unfold lowV; rw [if_neg e1, if_neg e2, if_neg e3]

def maskV (a b : Int) : Int := jsub (jsub (jshl 1 (jconv a)) 1) (jsub (jshl 1 (jconv (a - b))) 1)
theorem mask_ok (H : Heap) (a b : Int) (ha : 0 ≤ a ∧ a ≤ 1000) (hb : 0 ≤ b ∧ b ≤ 1000) : NCall Try.prog 50 [.int .i64 a, .int .i64 b] H fun r => r = (.agg [.int .u64 0, .int .u64 (maskV a b)], H) := by
  refine call_pure E0 mixed t50_ok (by kernel_rfl) ⟨trivial, trivial, trivial⟩ ?_
  simp only [t50]
  simp (disch := first | omega | (simp only [fsLen]; omega)) only [↓fsPre, fsPost, fsCond, fsGen, fsDefs, vjGen, reduceCtorEq, Nat.reduceAdd, Nat.reduceEqDiff, ↓reduceIte]
  exact ⟨rfl, _, rfl⟩

/-! ### Fields -/
/-- How many bits a field of the schemas has. -/
def fb (i : Int) : Int := if i = 1 then 16 else if i = 2 then 16 else if i = 3 then 8 else if i = 4 then 4 else if i = 5 then 4 else if i = 6 then 8 else if i = 7 then 32 else if i = 8 then 12 else if i = 9 then 4 else 0
theorem fb_range (i : Int) : 0 ≤ fb i ∧ fb i ≤ 32 := by unfold fb; repeat (first | omega | split)
theorem fb_pos (i : Int) (h : 1 ≤ i ∧ i ≤ 9) : 1 ≤ fb i := by unfold fb; repeat (first | omega | split)
theorem field_row : ∀ (j : Nat) (hj : j < fieldRows.length), ∃ nm, fieldRows[j] = [ti (j + 1 : Nat), ts nm, ti (fb (j + 1 : Nat))]
  | 0, _ => ⟨_, rfl⟩
  | 1, _ => ⟨_, rfl⟩
  | 2, _ => ⟨_, rfl⟩
  | 3, _ => ⟨_, rfl⟩
  | 4, _ => ⟨_, rfl⟩
  | 5, _ => ⟨_, rfl⟩
  | 6, _ => ⟨_, rfl⟩
  | 7, _ => ⟨_, rfl⟩
  | 8, _ => ⟨_, rfl⟩

/-- The ten values of a schema, as the entries need them. -/
structure ScV (N : Nat) (h : Heap) (t : TP) (acs : List (List Tr)) (z0 z1 z2 z3 z4 z5 z6 z7 z8 z9 : NV) : Prop where
  rf : (Tr.rows 3 fieldRows).rep N h z0
  ra : (Tr.rows 5 acs).rep N h z3
  rt : (Tr.rows 8 t.rows).rep N h z4
  ao : ActionsOK acs
  to : t.OK
  o : z1.one = true ∧ z2.one = true ∧ z5.one = true ∧ z6.one = true ∧ z7.one = true ∧ z8.one = true ∧ z9.one = true
theorem ScV.ext {N : Nat} {h h' : Heap} {t : TP} {acs : List (List Tr)} {z0 z1 z2 z3 z4 z5 z6 z7 z8 z9 : NV} (s : ScV N h t acs z0 z1 z2 z3 z4 z5 z6 z7 z8 z9) (e : Ext N h h') : ScV N h' t acs z0 z1 z2 z3 z4 z5 z6 z7 z8 z9 :=
  ⟨Tr.rep_ext e s.rf, Tr.rep_ext e s.ra, Tr.rep_ext e s.rt, s.ao, s.to, s.o⟩

theorem bitsOf_ok (N : Nat) (H : Heap) (t : TP) (acs : List (List Tr)) (z0 z1 z2 z3 z4 z5 z6 z7 z8 z9 : NV) (s : ScV N H t acs z0 z1 z2 z3 z4 z5 z6 z7 z8 z9) (i : Int) (hi : 1 ≤ i ∧ i ≤ 9) :
    NCall Try.prog 49 [.agg [z0, z1, z2, z3, z4, z5, z6, z7, z8, z9], .int .i64 i] H fun r => r = (.int .i64 (fb i), H) := by
  obtain ⟨f, a, tt, ao, to, o1, o2, o5, o6, o7, o8, o9⟩ := s
  have o0 := Tr.rep_one f
  have o3 := Tr.rep_one a
  have o4 := Tr.rep_one tt
  refine call_pure E0 mixed t49_ok (by kernel_rfl) trivial ?_
  simp only [t49]
  simp only [Tr.rep] at f
  rcases f with ⟨_, h⟩ | ⟨b, c, cs, ro, rfl, hN, hb, hrows⟩
  · cases h
  have hbl := hget_some_lt hb
  simp (disch := first | omega | (simp only [fsLen]; omega)) only [↓fsPre, fsPost, fsCond, fsGen, fsDefs, Nat.reduceEqDiff, ↓reduceIte, o1, o2, o3, o4, o5, o6, o7, o8, o9]
  refine wloop (fun j F h => F 1 = .int .i64 i ∧ F 8 = .slice (some (b, 0)) 9 c ∧ F 9 = .int .i64 9 ∧ F 10 = .int .i64 j ∧ (∃ J, h = H ++ J) ∧ (j : Int) < i) 9 ?_ ?_ ?_
  · simp (disch := first | omega | (simp only [fsLen]; omega)) only [↓fsPre, fsGen, Nat.reduceEqDiff, ↓reduceIte]
    exact ⟨rfl, rfl, ⟨_, rfl⟩, by omega⟩
  · rintro j F h hj ⟨f1, f8, f9, f10, ⟨J, rfl⟩, hlt⟩
    obtain ⟨xs, hc, hx⟩ := Tr.rep_row hrows (j := j) hj
    obtain ⟨nm, hr⟩ := field_row j hj
    rw [hr] at hx
    simp only [Tr.repCells, rep_ti, rep_ts] at hx
    obtain ⟨_, _, rfl, rfl, _, _, rfl, rfl, _, _, rfl, rfl, rfl⟩ := hx
    simp (disch := first | omega | (simp only [fsLen]; omega)) only [↓fsPre, fsPost, fsCond, fsGen, fsDefs, fsDefX, Nat.reduceAdd, Nat.reduceEqDiff, ↓reduceIte, f1, f8, f9, f10, hb, hc]
    refine condK_dec (fun e => ?_) (fun e => ?_)
    · simp (disch := first | omega | (simp only [fsLen]; omega)) only [↓fsPre, fsPost, fsCond, fsGen, fsDefs, Nat.reduceEqDiff, ↓reduceIte]
      refine ⟨?_, _, rfl⟩
      have e2 : i = ((j + 1 : Nat) : Int) := by omega
      rw [e2]; simp
    · simp (disch := first | omega | (simp only [fsLen]; omega)) only [↓fsPre, fsPost, fsCond, fsGen, fsDefX, Nat.reduceEqDiff, ↓reduceIte, f1, f8, f9, f10]
      exact ⟨⟨_, rfl⟩, by omega⟩
  · rintro F h ⟨f1, f8, f9, f10, ⟨J, rfl⟩, hlt⟩
    omega

/-! ### Matches -/
structure Mt where
  p : Bool
  v1 : Int
  v2 : Int
  m1 : Int
  m2 : Int
  n : Int
  h1 : Int
  h2 : Int
def Mt.cells (m : Mt) : List NV := [.bool m.p, .int .u64 m.v1, .int .u64 m.v2, .int .u64 m.m1, .int .u64 m.m2, .int .i64 m.n, .int .u64 m.h1, .int .u64 m.h2]
def Mt.OK (m : Mt) : Prop := U64 m.v1 ∧ U64 m.v2
theorem Mt.cells_length (m : Mt) : m.cells.length = 8 := rfl
theorem pick5 (a0 a1 a2 a3 a4 x : Int) (h0 : 0 ≤ x) (h1 : x < 5) : ∃ r, ([.int .i64 a0, .int .i64 a1, .int .i64 a2, .int .i64 a3, .int .i64 a4] : List NV)[x.toNat]? = some (.int .i64 r) ∧ (r = a0 ∨ r = a1 ∨ r = a2 ∨ r = a3 ∨ r = a4) := by
  have : x = 0 ∨ x = 1 ∨ x = 2 ∨ x = 3 ∨ x = 4 := by omega
  rcases this with rfl | rfl | rfl | rfl | rfl
  · exact ⟨_, rfl, by simp⟩
  · exact ⟨_, rfl, by simp⟩
  · exact ⟨_, rfl, by simp⟩
  · exact ⟨_, rfl, by simp⟩
  · exact ⟨_, rfl, by simp⟩

set_option maxHeartbeats 4000000 in
theorem match_ok (N : Nat) (H : Heap) (p n : Nat) (sl : NV) (hc : CodesSt H H p n sl) (t : TP) (acs : List (List Tr)) (z0 z1 z2 z3 z4 z5 z6 z7 z8 z9 : NV) (s : ScV N H t acs z0 z1 z2 z3 z4 z5 z6 z7 z8 z9) (nm : ByteArray) (i k : Int) (hi : 1 ≤ i ∧ i ≤ 9) :
    DCall Try.prog 33 [.ptr (some (p, 0)), .agg [z0, z1, z2, z3, z4, z5, z6, z7, z8, z9], .agg [.str nm, .int .i64 i, .int .i64 k]] H fun r => ∃ m : Mt, r.1 = .agg m.cells ∧ m.OK ∧ CodesSt H r.2 p n sl := by
  obtain ⟨_, _, ⟨a0, hp, hb0, hb1⟩, hs⟩ := hc
  have hpl := hget_some_lt hp
  obtain ⟨o1, o2, o5, o6, o7, o8, o9⟩ := s.o
  have o0 := Tr.rep_one s.rf
  have o3 := Tr.rep_one s.ra
  have o4 := Tr.rep_one s.rt
  have hbits := fun L => bitsOf_ok N (H ++ L) t acs z0 z1 z2 z3 z4 z5 z6 z7 z8 z9 (s.ext Ext.app) i hi
  have fr := fb_range i
  have fp := fb_pos i hi
  generalize fb i = bits at *
  refine call_det E0 rfl mixed t33_ok (by kernel_rfl) (by rintro q ⟨_, _, _, h⟩; exact h.len) ?_
  simp only [t33]
  simp (disch := first | omega | (simp only [fsLen]; omega)) only [↓fsPre, fsPost, fsCond, fsGen, fsDefs, Nat.reduceAdd, Nat.reduceEqDiff, ↓reduceIte, o0, o1, o2, o3, o4, o5, o6, o7, o8, o9]
  refine callT_one (hbits _) rfl ?_
  simp (disch := first | omega | (simp only [fsLen]; omega)) only [↓fsPre, fsPost, fsGen, reduceCtorEq, ↓reduceIte]
  refine callT_D (next_ok _ p n 256 sl a0 (by simp (disch := first | omega | (simp only [fsLen]; omega)) only [fsCond, hp]) (by repeat (first | exact hs | apply CodesSl.app | apply CodesSl.set)) hb0 hb1 (by omega) (by omega)) rfl ?_
  rintro v h' ⟨x1, a1, e, x1a, x1b, hb0, hb1⟩
  cases e
  simp (disch := first | omega | (simp only [fsLen]; omega)) only [↓fsPre, fsPost, fsGen, vjGen, reduceCtorEq, ↓reduceIte]
  refine callT_D (next_ok _ p n 16 sl a1 (by simp (disch := first | omega | (simp only [fsLen]; omega)) only [fsCond]) (by repeat (first | exact hs | apply CodesSl.app | apply CodesSl.set)) hb0 hb1 (by omega) (by omega)) rfl ?_
  rintro v h' ⟨x2, a2, e, x2a, x2b, hb0, hb1⟩
  cases e
  simp (disch := first | omega | (simp only [fsLen]; omega)) only [↓fsPre, fsPost, fsGen, vjGen, reduceCtorEq, Nat.reduceEqDiff, ↓reduceIte]
  refine callT_D (next_ok _ p n 16 sl a2 (by simp (disch := first | omega | (simp only [fsLen]; omega)) only [fsPost, fsCond]) (by repeat (first | exact hs | apply CodesSl.app | apply CodesSl.set)) hb0 hb1 (by omega) (by omega)) rfl ?_
  rintro v h' ⟨x3, a3, e, x3a, x3b, hb0, hb1⟩
  cases e
  simp (disch := first | omega | (simp only [fsLen]; omega)) only [↓fsPre, fsPost, fsGen, fsDefs, vjGen, Nat.reduceAdd, Nat.reduceEqDiff, ↓reduceIte]
  refine callT_one (low_ok _ _ _ bits (by omega)) rfl ?_
  generalize hL : lowV _ _ bits = w
  have hw1 : U64 w.1 := by rw [← hL]; exact (lowV_u _ _ _ (by omega)).1
  have hw2 : U64 w.2 := by rw [← hL]; exact (lowV_u _ _ _ (by omega)).2
  clear hL
  obtain ⟨w1, w2⟩ := w
  simp only at hw1 hw2
  simp (disch := first | omega | (simp only [fsLen]; omega)) only [↓fsPre, fsPost, fsCond, fsGen, fsDefs, vjGen, Nat.reduceAdd, Nat.reduceEqDiff, ↓reduceIte]
  obtain ⟨bn, rfl⟩ : ∃ bn : Nat, bits = bn := ⟨bits.toNat, by omega⟩
  refine condK_dec (fun e1 => ?_) (fun e1 => ?_)
  · simp (disch := first | omega | (simp only [fsLen]; omega)) only [↓fsPre, fsPost, fsGen, reduceCtorEq, ↓reduceIte]
    refine callT_D (next_ok _ p n 5 sl a3 (by simp (disch := first | omega | (simp only [fsLen]; omega)) only [fsCond]) (by repeat (first | exact hs | apply CodesSl.app | apply CodesSl.set)) hb0 hb1 (by omega) (by omega)) rfl ?_
    rintro v h' ⟨x4, a4, e, x4a, x4b, hb0, hb1⟩
    cases e
    simp (disch := first | omega | (simp only [fsLen]; omega)) only [↓fsPre, fsPost, fsDefs, vjGen, ↓reduceIte]
    refine condK_dec (fun e2 => ?_) (fun e2 => ?_)
    · simp (disch := first | omega | (simp only [fsLen]; omega)) only [↓fsPre, fsPost, fsGen, reduceCtorEq, Nat.reduceEqDiff, ↓reduceIte]
      refine callT_D (next_ok _ p n bn sl a4 (by simp (disch := first | omega | (simp only [fsLen]; omega)) only [fsPost, fsCond]) (by repeat (first | exact hs | apply CodesSl.app | apply CodesSl.set)) hb0 hb1 (by omega) (by omega)) rfl ?_
      rintro v h' ⟨x5, a5, e, x5a, x5b, hb0, hb1⟩
      cases e
      simp (disch := first | omega | (simp only [fsLen]; omega)) only [↓fsPre, fsPost, fsCond, fsGen, fsDefs, vjGen, reduceCtorEq, Nat.reduceAdd, Nat.reduceLeDiff, Nat.reduceEqDiff, ↓reduceIte]
      refine callT_D (next_ok _ p n 5 sl a5 (by simp (disch := first | omega | (simp only [fsLen]; omega)) only [fsCond]) (by repeat (first | exact hs | apply CodesSl.app | apply CodesSl.set)) hb0 hb1 (by omega) (by omega)) rfl ?_
      rintro v h' ⟨x6, a6, e, x6a, x6b, hb0, hb1⟩
      cases e
      obtain ⟨r, hr, hr2⟩ := pick5 bn 8 16 1 (1 + x5) x6 x6a x6b
      simp (disch := first | omega | (simp only [fsLen]; omega)) only [↓fsPre, fsPost, fsCond, fsGen, fsDefs, cls, Nat.reduceAdd, Nat.reduceEqDiff, ↓reduceIte, hr]
      refine callDT_one (mask_ok _ bn r (by omega) (by omega)) rfl ?_
      simp (disch := first | omega | (simp only [fsLen]; omega)) only [↓fsPre, fsPost, fsCond, fsGen, fsDefs, cls, vjGen, Nat.reduceAdd, Nat.reduceLeDiff, Nat.reduceEqDiff, Nat.reduceBEq, ↓reduceIte]
      exact ⟨⟨_, _, _, _, _, _, _, _⟩, rfl, ⟨by first | assumption | exact jand_u _ _ | exact jor_u _ _ | exact jsub_u _ _ | exact jadd_u _ _ | exact u64_zero | exact u64_one, by first | assumption | exact jand_u _ _ | exact jor_u _ _ | exact jsub_u _ _ | exact jadd_u _ _ | exact u64_zero | exact u64_one⟩, CodesSt.mk' hpl hb0 hb1 hs⟩
    · simp (disch := first | omega | (simp only [fsLen]; omega)) only [↓fsPre, fsPost, fsCond, fsGen, fsDefs, Nat.reduceAdd, Nat.reduceEqDiff, ↓reduceIte]
      exact ⟨⟨_, _, _, _, _, _, _, _⟩, rfl, ⟨by first | assumption | exact jand_u _ _ | exact jor_u _ _ | exact jsub_u _ _ | exact jadd_u _ _ | exact u64_zero | exact u64_one, by first | assumption | exact jand_u _ _ | exact jor_u _ _ | exact jsub_u _ _ | exact jadd_u _ _ | exact u64_zero | exact u64_one⟩, CodesSt.mk' hpl hb0 hb1 hs⟩
  · simp (disch := first | omega | (simp only [fsLen]; omega)) only [↓fsPre, fsPost, vjGen, Nat.reduceEqDiff, ↓reduceIte]
    refine condK_dec (fun e2 => ?_) (fun e2 => ?_)
    · simp (disch := first | omega | (simp only [fsLen]; omega)) only [↓fsPre, fsPost, fsGen, reduceCtorEq, ↓reduceIte]
      refine callT_D (next_ok _ p n 256 sl a3 (by simp (disch := first | omega | (simp only [fsLen]; omega)) only [fsCond]) (by repeat (first | exact hs | apply CodesSl.app | apply CodesSl.set)) hb0 hb1 (by omega) (by omega)) rfl ?_
      rintro v h' ⟨x4, a4, e, x4a, x4b, hb0, hb1⟩
      cases e
      simp (disch := first | omega | (simp only [fsLen]; omega)) only [↓fsPre, fsPost, fsCond, fsGen, fsDefs, reduceCtorEq, Nat.reduceAdd, Nat.reduceLeDiff, ↓reduceIte]
      refine callT_D (next_ok _ p n 5 sl a4 (by simp (disch := first | omega | (simp only [fsLen]; omega)) only [fsCond]) (by repeat (first | exact hs | apply CodesSl.app | apply CodesSl.set)) hb0 hb1 (by omega) (by omega)) rfl ?_
      rintro v h' ⟨x5, a5, e, x5a, x5b, hb0, hb1⟩
      cases e
      obtain ⟨r, hr, hr2⟩ := pick5 255 15 1 12 x4 x5 x5a x5b
      simp (disch := first | omega | (simp only [fsLen]; omega)) only [↓fsPre, fsPost, fsCond, fsGen, fsDefs, vjGen, Nat.reduceAdd, Nat.reduceEqDiff, ↓reduceIte, hr]
      refine callT_one (low_ok _ _ _ bn (by omega)) rfl ?_
      generalize hL : lowV _ _ (bn : Int) = w
      have hw3 : U64 w.1 := by rw [← hL]; exact (lowV_u _ _ _ (by omega)).1
      have hw4 : U64 w.2 := by rw [← hL]; exact (lowV_u _ _ _ (by omega)).2
      clear hL
      obtain ⟨w3, w4⟩ := w
      simp only at hw3 hw4
      simp (disch := first | omega | (simp only [fsLen]; omega)) only [↓fsPre, fsPost, fsCond, fsGen, fsDefs, vjGen, Nat.reduceAdd, Nat.reduceEqDiff, ↓reduceIte]
      refine condK_bool (fun e3 => ?_) (fun e3 => ?_)
      · simp (disch := first | omega | (simp only [fsLen]; omega)) only [↓fsPre, fsPost, fsCond, fsGen, fsDefs, vjGen, Nat.reduceAdd, Nat.reduceLeDiff, Nat.reduceEqDiff, ↓reduceIte]
        exact ⟨⟨_, _, _, _, _, _, _, _⟩, rfl, ⟨by first | assumption | exact jand_u _ _ | exact jor_u _ _ | exact jsub_u _ _ | exact jadd_u _ _ | exact u64_zero | exact u64_one, by first | assumption | exact jand_u _ _ | exact jor_u _ _ | exact jsub_u _ _ | exact jadd_u _ _ | exact u64_zero | exact u64_one⟩, CodesSt.mk' hpl hb0 hb1 hs⟩
      · simp (disch := first | omega | (simp only [fsLen]; omega)) only [↓fsPre, fsPost, fsCond, fsGen, fsDefs, Nat.reduceAdd, Nat.reduceEqDiff, ↓reduceIte]
        exact ⟨⟨_, _, _, _, _, _, _, _⟩, rfl, ⟨by first | assumption | exact jand_u _ _ | exact jor_u _ _ | exact jsub_u _ _ | exact jadd_u _ _ | exact u64_zero | exact u64_one, by first | assumption | exact jand_u _ _ | exact jor_u _ _ | exact jsub_u _ _ | exact jadd_u _ _ | exact u64_zero | exact u64_one⟩, CodesSt.mk' hpl hb0 hb1 hs⟩
    · simp (disch := first | omega | (simp only [fsLen]; omega)) only [↓fsPre, fsPost, vjGen, Nat.reduceEqDiff, ↓reduceIte]
      refine condK_dec (fun e3 => ?_) (fun e3 => ?_)
      · simp (disch := first | omega | (simp only [fsLen]; omega)) only [↓fsPre, fsPost, fsCond, fsGen, fsDefs, cls, reduceCtorEq, Nat.reduceAdd, Nat.reduceEqDiff, ↓reduceIte]
        refine callDT_D (next_ok _ p n 256 sl a3 (by simp (disch := first | omega | (simp only [fsLen]; omega)) only [fsCond]) (by repeat (first | exact hs | apply CodesSl.app | apply CodesSl.set)) hb0 hb1 (by omega) (by omega)) rfl ?_
        rintro v h' ⟨x4, a4, e, x4a, x4b, hb0, hb1⟩
        cases e
        simp (disch := first | omega | (simp only [fsLen]; omega)) only [↓fsPre, fsPost, fsCond, fsGen, fsDefs, cls, vjGen, reduceCtorEq, Nat.reduceAdd, Nat.reduceEqDiff, Nat.reduceBEq, ↓reduceIte]
        refine callT_D (next_ok _ p n 5 sl a4 (by simp (disch := first | omega | (simp only [fsLen]; omega)) only [fsCond]) (by repeat (first | exact hs | apply CodesSl.app | apply CodesSl.set)) hb0 hb1 (by omega) (by omega)) rfl ?_
        rintro v h' ⟨x5, a5, e, x5a, x5b, hb0, hb1⟩
        cases e
        by_cases g1 : 0 < x5
        · by_cases g2 : w2 = 0
          · simp (disch := first | omega | (simp only [fsLen]; omega)) only [↓fsPre, fsPost, fsCond, fsGen, fsDefs, vjGen, Nat.reduceEqDiff, ↓reduceIte, decide_eq_true g1, g2]
            refine condK_bool (fun e4 => ?_) (fun e4 => ?_)
            · simp (disch := first | omega | (simp only [fsLen]; omega)) only [↓fsPre, fsPost, fsCond, fsGen, fsDefs, Nat.reduceAdd, Nat.reduceLeDiff, Nat.reduceEqDiff, ↓reduceIte]
              exact ⟨⟨_, _, _, _, _, _, _, _⟩, rfl, ⟨by first | assumption | exact jand_u _ _ | exact jor_u _ _ | exact jsub_u _ _ | exact jadd_u _ _ | exact u64_zero | exact u64_one, by first | assumption | exact jand_u _ _ | exact jor_u _ _ | exact jsub_u _ _ | exact jadd_u _ _ | exact u64_zero | exact u64_one⟩, CodesSt.mk' hpl hb0 hb1 hs⟩
            · simp (disch := first | omega | (simp only [fsLen]; omega)) only [↓fsPre, fsPost, fsCond, fsGen, fsDefs, Nat.reduceAdd, Nat.reduceEqDiff, ↓reduceIte]
              exact ⟨⟨_, _, _, _, _, _, _, _⟩, rfl, ⟨by first | assumption | exact jand_u _ _ | exact jor_u _ _ | exact jsub_u _ _ | exact jadd_u _ _ | exact u64_zero | exact u64_one, by first | assumption | exact jand_u _ _ | exact jor_u _ _ | exact jsub_u _ _ | exact jadd_u _ _ | exact u64_zero | exact u64_one⟩, CodesSt.mk' hpl hb0 hb1 hs⟩
          · simp (disch := first | omega | (simp only [fsLen]; omega)) only [↓fsPre, fsPost, fsCond, fsGen, fsDefs, vjGen, Nat.reduceAdd, Nat.reduceLeDiff, Nat.reduceEqDiff, ↓reduceIte, decide_eq_true g1, decide_eq_false g2]
            exact ⟨⟨_, _, _, _, _, _, _, _⟩, rfl, ⟨by first | assumption | exact jand_u _ _ | exact jor_u _ _ | exact jsub_u _ _ | exact jadd_u _ _ | exact u64_zero | exact u64_one, by first | assumption | exact jand_u _ _ | exact jor_u _ _ | exact jsub_u _ _ | exact jadd_u _ _ | exact u64_zero | exact u64_one⟩, CodesSt.mk' hpl hb0 hb1 hs⟩
        · simp (disch := first | omega | (simp only [fsLen]; omega)) only [↓fsPre, fsPost, fsCond, fsGen, fsDefs, vjGen, Nat.reduceAdd, Nat.reduceEqDiff, ↓reduceIte, decide_eq_false g1]
          exact ⟨⟨_, _, _, _, _, _, _, _⟩, rfl, ⟨by first | assumption | exact jand_u _ _ | exact jor_u _ _ | exact jsub_u _ _ | exact jadd_u _ _ | exact u64_zero | exact u64_one, by first | assumption | exact jand_u _ _ | exact jor_u _ _ | exact jsub_u _ _ | exact jadd_u _ _ | exact u64_zero | exact u64_one⟩, CodesSt.mk' hpl hb0 hb1 hs⟩
      · simp (disch := first | omega | (simp only [fsLen]; omega)) only [↓fsPre, fsPost, fsCond, fsGen, fsDefs, Nat.reduceAdd, Nat.reduceLeDiff, Nat.reduceEqDiff, ↓reduceIte]
        exact ⟨⟨_, _, _, _, _, _, _, _⟩, rfl, ⟨by first | assumption | exact jand_u _ _ | exact jor_u _ _ | exact jsub_u _ _ | exact jadd_u _ _ | exact u64_zero | exact u64_one, by first | assumption | exact jand_u _ _ | exact jor_u _ _ | exact jsub_u _ _ | exact jadd_u _ _ | exact u64_zero | exact u64_one⟩, CodesSt.mk' hpl hb0 hb1 hs⟩

def modN (x n : Int) : Int := (x.tmod n + n).tmod n
theorem modN_range {x n : Int} (h : 0 < n) : 0 ≤ modN x n ∧ modN x n < n := by
  unfold modN
  have h1 : -n < x.tmod n := by have := Int.lt_tmod_of_pos x h; omega
  exact ⟨Int.tmod_nonneg _ (by omega), Int.tmod_lt_of_pos _ h⟩
theorem modN_same {x n : Int} (h0 : 0 ≤ x) (h1 : x < n) : modN x n = x := by
  unfold modN
  rw [Int.tmod_eq_of_lt h0 h1, Int.tmod_eq_emod_of_nonneg (by omega)]
  have : (x + n) % n = x % n := by simp
  rw [this, Int.emod_eq_of_lt h0 h1]
theorem mod_ok (H : Heap) (x n : Int) (hn : 1 ≤ n) (hn2 : n ≤ 1000000000) : NCall Try.prog 27 [.int .i64 x, .int .i64 n] H fun r => r = (.int .i64 (modN x n), H) := by
  refine call_of E0 mixed t27_ok (by kernel_rfl) (by rintro q rfl; simp) ?_
  simp only [t27]
  have n0 : ¬ n = 0 := by omega
  have n1 : ¬ n < 1 := by omega
  have h1 := Int.lt_tmod_of_pos x (show 0 < n by omega)
  have h2 := Int.tmod_lt_of_pos x (show 0 < n by omega)
  have h3 := modN_range (x := x) (show 0 < n by omega)
  unfold modN at h3
  simp (disch := first | omega | (simp only [fsLen]; omega)) only [↓fsPre, fsPost, fsCond, fsGen, fsDefs, fsDefX, reduceCtorEq, Nat.reduceEqDiff, ↓reduceIte, n0, n1]
  rfl

theorem rows_lo {k n m : Nat} {H : Heap} {l : List (List Tr)} {v : NV} (h : (Tr.rows k l).rep n H v) (hm : H.length ≤ m) : v.lo m := by
  obtain ⟨a, c, rfl⟩ := Tr.rep_len h
  cases a with
  | none => trivial
  | some q =>
    obtain ⟨b, o⟩ := q
    simp only [Tr.rep] at h
    rcases h with ⟨h, _⟩ | ⟨b', c', cs, ro, h1, h2, h3, _⟩
    · cases h
    · cases h1
      exact Nat.lt_of_lt_of_le (hget_lt h3) hm

/-! ### Actions -/
def parR (i : Int) : List (List Tr) := if i = 3 then [[ts ⟨#[112, 111, 114, 116]⟩, ti 16]] else if i = 4 then [[ts ⟨#[120]⟩, ti 4]] else if i = 5 then [[ts ⟨#[120]⟩, ti 4], [ts ⟨#[121]⟩, ti 12]] else []
theorem act_row (s2 s4 : ByteArray) (d c : Int) : ∀ (j : Nat) (hj : j < (acts s2 s4 d c).length), ∃ nm bd r, (acts s2 s4 d c)[j] = [ti (j + 1 : Nat), ts nm, .rows 2 (parR (j + 1 : Nat)), .rows 6 bd, ts r]
  | 0, _ => ⟨_, _, _, rfl⟩
  | 1, _ => ⟨_, _, _, rfl⟩
  | 2, _ => ⟨_, _, _, rfl⟩
  | 3, _ => ⟨_, _, _, rfl⟩
  | 4, _ => ⟨_, _, _, rfl⟩
  | 5, _ => ⟨_, _, _, rfl⟩
theorem par_row (i : Int) : ∀ (j : Nat) (hj : j < (parR i).length), ∃ nm k, (parR i)[j] = [ts nm, ti k] ∧ 0 ≤ k ∧ k ≤ 32 := by
  unfold parR
  split
  · intro j hj
    match j, hj with
    | 0, _ => exact ⟨_, _, rfl, by omega⟩
  · split
    · intro j hj
      match j, hj with
      | 0, _ => exact ⟨_, _, rfl, by omega⟩
    · split
      · intro j hj
        match j, hj with
        | 0, _ => exact ⟨_, _, rfl, by omega⟩
        | 1, _ => exact ⟨_, _, rfl, by omega⟩
      · intro j hj
        simp at hj
theorem parR_le (i : Int) : (parR i).length ≤ 2 := by unfold parR; split; simp; split; simp; split <;> simp

theorem actionIn_ok (N : Nat) (H : Heap) (t : TP) (acs : List (List Tr)) (z0 z1 z2 z3 z4 z5 z6 z7 z8 z9 : NV) (s : ScV N H t acs z0 z1 z2 z3 z4 z5 z6 z7 z8 z9) (i : Int) (hi : 1 ≤ i ∧ i ≤ 6) :
    ∃ nm pv bv r, (Tr.rows 2 (parR i)).rep N H pv ∧ bv.one = true ∧ NCall Try.prog 34 [.agg [z0, z1, z2, z3, z4, z5, z6, z7, z8, z9], .int .i64 i] H fun q => q = (.agg [.int .i64 i, .str nm, pv, bv, .str r], H) := by
  obtain ⟨f, a, tt, ⟨s2, s4, d, c, rfl, _⟩, to, o1, o2, o5, o6, o7, o8, o9⟩ := s
  have o0 := Tr.rep_one f
  have o3 := Tr.rep_one a
  have o4 := Tr.rep_one tt
  have hall : (acts s2 s4 d c).length = 6 := rfl
  simp only [Tr.rep] at a
  rcases a with ⟨_, h⟩ | ⟨b, cc, cs, ro, rfl, hN, hb, hrows⟩
  · cases h
  have row : ∀ j (hj : j < 6), ∃ nm pv bv r, cut cs (j * 5) 5 = some [.int .i64 (j + 1 : Nat), .str nm, pv, bv, .str r] ∧ (Tr.rows 2 (parR (j + 1 : Nat))).rep N H pv ∧ bv.one = true ∧ bv.lo H.length := by
    intro j hj
    obtain ⟨xs, hc, hx⟩ := Tr.rep_row hrows (j := j) (by omega)
    obtain ⟨nm, bd, r, hr⟩ := act_row s2 s4 d c j (by omega)
    rw [hr] at hx
    simp only [Tr.repCells, rep_ti, rep_ts] at hx
    obtain ⟨_, _, rfl, rfl, _, _, rfl, rfl, pv, _, rfl, hp, bv, _, rfl, hbv, _, _, rfl, rfl, rfl⟩ := hx
    exact ⟨nm, pv, bv, r, hc, hp, Tr.rep_one hbv, rows_lo hbv (Nat.le_refl _)⟩
  have hbl := hget_some_lt hb
  obtain ⟨k, rfl⟩ : ∃ k : Nat, i = (k + 1 : Nat) := ⟨(i - 1).toNat, by omega⟩
  have hk : k < 6 := by omega
  obtain ⟨nm, pv, bv, r, hck, hp, hbv, hbl2⟩ := row k hk
  refine ⟨nm, pv, bv, r, hp, hbv, ?_⟩
  have op := Tr.rep_one hp
  refine call_pure E0 mixed t34_ok (by kernel_rfl) ⟨trivial, trivial, rows_lo hp (Nat.le_refl _), hbl2, trivial, trivial⟩ ?_
  simp only [t34]
  simp (disch := first | omega | (simp only [fsLen]; omega)) only [↓fsPre, fsPost, fsCond, fsGen, fsDefs, Nat.reduceEqDiff, ↓reduceIte, o0, o1, o2, o4, o5, o6, o7, o8, o9, hall]
  refine wloop (fun j F h => F 1 = .int .i64 ((k : Int) + 1) ∧ F 4 = .ptr (some (H.length + 1, 0)) ∧ F 8 = .slice (some (b, 0)) 6 cc ∧ F 9 = .int .i64 6 ∧ F 10 = .int .i64 j ∧ (∃ J, h = H ++ some (.cells [z0, z1, z2, .slice (some (b, 0)) 6 cc, z4, z5, z6, z7, z8, z9] false) :: some (.cells [.int .i64 0, .str ⟨#[]⟩, .slice none 0 (.fix 0), .slice none 0 (.fix 0), .str ⟨#[]⟩] false) :: J) ∧ j ≤ k) 6 ?_ ?_ ?_
  · simp (disch := first | omega | (simp only [fsLen]; omega)) only [↓fsPre, fsGen, Nat.reduceEqDiff, ↓reduceIte]
    exact ⟨⟨_, rfl⟩, by omega⟩
  · rintro j F h hj ⟨f1, f4, f8, f9, f10, ⟨J, rfl⟩, hlt⟩
    by_cases hjk : j = k
    · subst hjk
      have e1 : decide ((j : Int) + 1 = (j : Int) + 1) = true := by simp
      have hck' := hck
      simp only [Int.natCast_add, Int.cast_ofNat_Int] at hck'
      simp (disch := first | omega | (simp only [fsLen]; omega)) only [↓fsPre, fsPost, fsCond, fsGen, fsDefs, vjGen, Nat.reduceAdd, Nat.reduceEqDiff, ↓reduceIte, f1, f4, f8, f9, f10, hb, hck', op, hbv]
      exact ⟨_, rfl⟩
    · obtain ⟨nm2, pv2, bv2, r2, hcj, hp2, hbv2, _⟩ := row j hj
      have op2 := Tr.rep_one hp2
      simp only [Int.natCast_add, Int.cast_ofNat_Int] at hcj
      have e1 : ¬ ((j : Int) + 1 = (k : Int) + 1) := by omega
      simp (disch := first | omega | (simp only [fsLen]; omega)) only [↓fsPre, fsPost, fsCond, fsGen, fsDefs, vjGen, Nat.reduceAdd, Nat.reduceEqDiff, ↓reduceIte, f1, f4, f8, f9, f10, hb, hcj, op2, hbv2, e1]
      exact ⟨⟨_, rfl⟩, by omega⟩
  · rintro F h ⟨f1, f4, f8, f9, f10, ⟨J, rfl⟩, hlt⟩
    omega

/-! ### Tables -/
def keysOf (t : TP) (j : Nat) : List (List Tr) := match j with | 0 => keys1 | 1 => keys2 t.m2 | 2 => keys3 t.m3 | _ => keys4 t.m4
def actsOf (j : Nat) : List Int := match j with | 0 => [1, 2, 4] | 1 => [1, 2, 3, 4] | 2 => [1, 2, 3, 5, 6] | _ => [1, 3, 5]
theorem tab_row (t : TP) : ∀ (j : Nat) (hj : j < t.rows.length), ∃ nm d da sz r, t.rows[j] = [ti (j + 1 : Nat), ts nm, .rows 3 (keysOf t j), .rows 1 ((actsOf j).map fun a => [ti a]), ti d, .rows 2 da, ti sz, ts r]
  | 0, _ => ⟨_, _, _, _, _, rfl⟩
  | 1, _ => ⟨_, _, _, _, _, rfl⟩
  | 2, _ => ⟨_, _, _, _, _, rfl⟩
  | 3, _ => ⟨_, _, _, _, _, rfl⟩
theorem keys2_row : ∀ (m : Bool) (i : Nat) (hi : i < (keys2 m).length), ∃ nm f k, (keys2 m)[i] = [ts nm, ti f, ti k] ∧ 1 ≤ f ∧ f ≤ 9
  | true, 0, _ => ⟨_, _, _, rfl, by omega, by omega⟩
  | true, 1, _ => ⟨_, _, _, rfl, by omega, by omega⟩
  | false, 0, _ => ⟨_, _, _, rfl, by omega, by omega⟩
theorem keys3_row : ∀ (m : Bool) (i : Nat) (hi : i < (keys3 m).length), ∃ nm f k, (keys3 m)[i] = [ts nm, ti f, ti k] ∧ 1 ≤ f ∧ f ≤ 9
  | true, 0, _ => ⟨_, _, _, rfl, by omega, by omega⟩
  | true, 1, _ => ⟨_, _, _, rfl, by omega, by omega⟩
  | true, 2, _ => ⟨_, _, _, rfl, by omega, by omega⟩
  | false, 0, _ => ⟨_, _, _, rfl, by omega, by omega⟩
  | false, 1, _ => ⟨_, _, _, rfl, by omega, by omega⟩
theorem keys4_row : ∀ (m : Bool) (i : Nat) (hi : i < (keys4 m).length), ∃ nm f k, (keys4 m)[i] = [ts nm, ti f, ti k] ∧ 1 ≤ f ∧ f ≤ 9
  | true, 0, _ => ⟨_, _, _, rfl, by omega, by omega⟩
  | true, 1, _ => ⟨_, _, _, rfl, by omega, by omega⟩
  | true, 2, _ => ⟨_, _, _, rfl, by omega, by omega⟩
  | false, 0, _ => ⟨_, _, _, rfl, by omega, by omega⟩
theorem key_row (t : TP) : ∀ (j i : Nat) (hi : i < (keysOf t j).length), ∃ nm f k, (keysOf t j)[i] = [ts nm, ti f, ti k] ∧ 1 ≤ f ∧ f ≤ 9
  | 0, 0, _ => ⟨_, _, _, rfl, by omega, by omega⟩
  | 1, i, hi => keys2_row t.m2 i hi
  | 2, i, hi => keys3_row t.m3 i hi
  | _ + 3, i, hi => keys4_row t.m4 i hi
theorem keysOf_pos (t : TP) : ∀ j, 0 < (keysOf t j).length
  | 0 => by simp [keysOf, keys1]
  | 1 => by simp [keysOf, keys2]
  | 2 => by simp [keysOf, keys3]
  | _ + 3 => by simp [keysOf, keys4]
theorem keysOf_le (t : TP) (j : Nat) : (keysOf t j).length ≤ 3 := by
  unfold keysOf
  split
  · simp [keys1]
  · unfold keys2; split <;> simp
  · unfold keys3; split <;> simp
  · unfold keys4; split <;> simp
theorem actsOf_le (j : Nat) : 1 ≤ (actsOf j).length ∧ (actsOf j).length ≤ 5 := by
  unfold actsOf; split <;> simp
theorem actsOf_range (j : Nat) : ∀ a ∈ actsOf j, 1 ≤ a ∧ a ≤ 6 := by
  unfold actsOf
  split <;> (intro a ha; simp at ha; omega)

/-! ### Entries -/
structure En where
  tab : Int
  ms : List Mt
  pr : Int
  act : Int
  args : List (Int × Int)
def argC (a : Int × Int) : List NV := [.int .u64 a.1, .int .u64 a.2]
def mtC (ms : List Mt) : List NV := ms.flatMap Mt.cells
def arC (l : List (Int × Int)) : List NV := l.flatMap argC
theorem mtC_length (ms : List Mt) : (mtC ms).length = ms.length * 8 := length_flatMap_enc Mt.cells_length ms
theorem arC_length (l : List (Int × Int)) : (arC l).length = l.length * 2 := length_flatMap_enc (fun a => (rfl : (argC a).length = 2)) l
theorem mtC_snoc (ms : List Mt) (m : Mt) : mtC (ms ++ [m]) = mtC ms ++ m.cells := by simp [mtC]
theorem arC_snoc (l : List (Int × Int)) (a : Int × Int) : arC (l ++ [a]) = arC l ++ argC a := by simp [arC]
def EnAt (h : Heap) (N : Nat) (row : List NV) (e : En) : Prop := ∃ mv av, row = [.int .i64 e.tab, mv, .int .i64 e.pr, .int .i64 e.act, av] ∧ GrC h N (mtC e.ms) 8 mv ∧ GrC h N (arC e.args) 2 av
def EnOK (t : TP) (e : En) : Prop := ∃ j, j < 4 ∧ e.tab = (j + 1 : Nat) ∧ e.ms.length = (keysOf t j).length ∧ e.act ∈ actsOf j ∧ e.args.length = (parR e.act).length ∧ (∀ m ∈ e.ms, m.OK) ∧ ∀ a ∈ e.args, U64 a.1 ∧ U64 a.2

structure EyI (H : Heap) (p n : Nat) (sl : NV) (zs : List NV) (tb : List NV) (h : Heap) : Prop where
  st : CodesSt H h p n sl
  len : H.length + 4 ≤ h.length
  b4 : hget h H.length = some (.cells zs false)
  b6 : hget h (H.length + 1) = some (.cells [.int .i64 0, .slice none 0 (.fix 0), .int .i64 0, .int .i64 0, .slice none 0 (.fix 0)] false)
  b7 : hget h (H.length + 2) = some (.cells tb false)

set_option maxHeartbeats 4000000 in
theorem entry_ok (N : Nat) (H : Heap) (p n : Nat) (sl : NV) (hc : CodesSt H H p n sl) (t : TP) (acs : List (List Tr)) (z0 z1 z2 z3 z4 z5 z6 z7 z8 z9 : NV) (hSc : ∀ h, CodesSt H h p n sl → ScV N h t acs z0 z1 z2 z3 z4 z5 z6 z7 z8 z9) (x : Int) (hx0 : 0 ≤ x) (hx1 : x < 4) :
    DCall Try.prog 22 [.ptr (some (p, 0)), .agg [z0, z1, z2, z3, z4, z5, z6, z7, z8, z9], .int .i64 x] H fun r => ∃ e row, r.1 = .agg row ∧ EnAt r.2 H.length row e ∧ EnOK t e ∧ CodesSt H r.2 p n sl := by
  have s := hSc H hc
  have hc' := hc
  obtain ⟨_, _, ⟨a0, hp, hb0, hb1⟩, hs⟩ := hc
  have hpl := hget_some_lt hp
  obtain ⟨o1, o2, o5, o6, o7, o8, o9⟩ := s.o
  have o0 := Tr.rep_one s.rf
  have o3 := Tr.rep_one s.ra
  have hall : t.rows.length = 4 := rfl
  refine call_det E0 rfl mixed t22_ok (by kernel_rfl) (by rintro q ⟨_, _, _, _, _, h⟩; exact h.len) ?_
  simp only [t22]
  have rt := s.rt
  simp only [Tr.rep] at rt
  rcases rt with ⟨_, h⟩ | ⟨b, c, cs, ro, rfl, hN, hb, hrows⟩
  · cases h
  obtain ⟨j, rfl⟩ : ∃ j : Nat, x = j := ⟨x.toNat, by omega⟩
  have hj : j < 4 := by omega
  have hbl := hget_some_lt hb
  simp only [hall] at hSc
  obtain ⟨xs, hcj, hxr⟩ := Tr.rep_row hrows (j := j) (by omega)
  obtain ⟨nm, d, da, sz, r, hr⟩ := tab_row t j (by omega)
  rw [hr] at hxr
  simp only [Tr.repCells, rep_ti, rep_ts] at hxr
  obtain ⟨_, _, rfl, rfl, _, _, rfl, rfl, kv, _, rfl, hkv, avv, _, rfl, hav, _, _, rfl, rfl, dv, _, rfl, hdv, _, _, rfl, rfl, _, _, rfl, rfl, rfl⟩ := hxr
  have ok := Tr.rep_one hkv
  have oa := Tr.rep_one hav
  have od := Tr.rep_one hdv
  have hkp := keysOf_pos t j
  have hkle := keysOf_le t j
  simp only [Tr.rep] at hkv
  rcases hkv with ⟨_, h⟩ | ⟨bk, ck, csk, rok, rfl, _, hbk, hkrows⟩
  · rw [h] at hkp; simp at hkp
  have hbkl := hget_some_lt hbk
  simp (disch := first | omega | (simp only [fsLen]; omega)) only [↓fsPre, fsPost, fsCond, fsGen, fsDefs, cls, Nat.reduceAdd, Nat.reduceEqDiff, ↓reduceIte, o0, o1, o2, o3, o5, o6, o7, o8, o9, hall]
  refine callDT_one (mod_ok _ j 4 (by omega) (by omega)) rfl ?_
  rw [modN_same (by omega) (by omega)]
  simp (disch := first | omega | (simp only [fsLen]; omega)) only [↓fsPre, fsPost, fsCond, fsGen, fsDefs, cls, reduceCtorEq, Nat.reduceAdd, Nat.reduceLeDiff, Nat.reduceEqDiff, Nat.reduceBEq, ↓reduceIte, hb, hcj, oa, od]
  have pne : H.length ≠ p ∧ H.length + 1 ≠ p ∧ H.length + 2 ≠ p ∧ H.length + 3 ≠ p := by omega
  refine wloop (fun k F h => F 0 = .ptr (some (p, 0)) ∧ F 4 = .ptr (some (H.length, 0)) ∧ F 6 = .ptr (some (H.length + 1, 0)) ∧ F 7 = .ptr (some (H.length + 2, 0)) ∧ F 8 = .ptr (some (H.length + 3, 0)) ∧ F 26 = .slice (some (bk, 0)) (keysOf t j).length ck ∧ F 27 = .int .i64 (keysOf t j).length ∧ F 28 = .int .i64 k ∧
    EyI H p n sl [z0, z1, z2, z3, .slice (some (b, 0)) 4 c, z5, z6, z7, z8, z9] [.int .i64 ((j : Int) + 1), .str nm, .slice (some (bk, 0)) (keysOf t j).length ck, avv, .int .i64 d, dv, .int .i64 sz, .str r] h ∧
    ∃ ms pr mv, ms.length = k ∧ (∀ m ∈ ms, Mt.OK m) ∧ hget h (H.length + 3) = some (.cells [.int .i64 ((j : Int) + 1), mv, .int .i64 pr, .int .i64 0, .slice none 0 (.fix 0)] false) ∧ GrC h (H.length + 4) (mtC ms) 8 mv) (keysOf t j).length ?_ ?_ ?_
  · simp (disch := first | omega | (simp only [fsLen]; omega)) only [↓fsPre, fsPost, fsCond, fsGen, reduceCtorEq, Nat.reduceEqDiff, ↓reduceIte]
    exact ⟨⟨hc'.app0, by simp, by simp (disch := first | omega | (simp only [fsLen]; omega)) only [fsPost, fsCond, fsGen], by simp (disch := first | omega | (simp only [fsLen]; omega)) only [fsPost, fsCond, fsGen], by simp (disch := first | omega | (simp only [fsLen]; omega)) only [fsPost, fsCond, fsGen]⟩, [], 0, _, rfl, by simp, rfl, .nil⟩
  · rintro k F h hk ⟨f0, f4, f6, f7, f8, f26, f27, f28, ⟨st, hl4, b4, b6, b7⟩, ms, pr, mv, hms, hmo, b8, hg⟩
    obtain ⟨nk, fk, kk, hkr, hf1, hf2⟩ := key_row t j k hk
    obtain ⟨ys, hck, hyr⟩ := Tr.rep_row hkrows hk
    rw [hkr] at hyr
    simp only [Tr.repCells, rep_ti, rep_ts] at hyr
    obtain ⟨_, _, rfl, rfl, _, _, rfl, rfl, _, _, rfl, rfl, rfl⟩ := hyr
    have bkp : hget h bk = some (.cells csk rok) := by
      by_cases e : bk = p
      · subst e; rw [hp] at hbk; cases hbk
        exfalso
        obtain ⟨us, hu, _⟩ := Tr.rep_row hkrows hkp
        simp [cut] at hu
      · rw [st.old bk hbkl e]; exact hbk
    have om := hg.one
    have stA := st.app0 (L := [some (.cells [.str nk, .int .i64 fk, .int .i64 kk] false), none])
    simp (disch := first | omega | (simp only [fsLen]; omega)) only [↓fsPre, fsPost, fsCond, fsGen, fsDefs, cls, vjGen, reduceCtorEq, Nat.reduceAdd, Nat.reduceEqDiff, ↓reduceIte, f0, f4, f8, f26, f27, f28, bkp, hck, b4, b8]
    refine callDT_D (match_ok N _ p n sl stA.self t acs z0 z1 z2 z3 (.slice (some (b, 0)) 4 c) z5 z6 z7 z8 z9 (hSc _ stA) nk fk kk ⟨hf1, hf2⟩) rfl ?_
    rintro v h' ⟨m, e, hmk, st2⟩
    simp only at e st2
    have hmo2 : ∀ x ∈ ms ++ [m], Mt.OK x := fun x hx => by
      rcases List.mem_append.1 hx with hx | hx
      · exact hmo x hx
      · rw [List.mem_singleton.1 hx]; exact hmk
    subst e
    have hl2 := st2.len
    simp only [List.length_append, List.length_cons, List.length_nil] at hl2
    have keep : ∀ q, q < h.length → q ≠ p → hget h' q = hget h q := fun q h1 h2 => by rw [st2.old q (by simp; omega) h2, hget_appl h1]
    have k4 := (keep _ (by omega) pne.1).trans b4
    have k6 := (keep _ (by omega) pne.2.1).trans b6
    have k7 := (keep _ (by omega) pne.2.2.1).trans b7
    have k8 := (keep _ (by omega) pne.2.2.2).trans b8
    have kx : hget h' h.length = some (.cells [.str nk, .int .i64 fk, .int .i64 kk] false) := by
      rw [st2.old _ (by simp) (by omega)]; simp (disch := first | omega | (simp only [fsLen]; omega)) only [fsPost, fsCond, fsGen]
    have ks : hget h' (h.length + 1) = none := by
      rw [st2.old _ (by simp) (by omega)]; simp (disch := first | omega | (simp only [fsLen]; omega)) only [fsPost, fsCond, fsGen]
    have hg2 : GrC h' (H.length + 4) (mtC ms) 8 mv := (hg.ext Ext.app).ext (st2.ext.mono (by omega))
    have hg3 : GrC (hset h' (h.length + 1) (.cells m.cells false)) (H.length + 4) (mtC ms) 8 mv := hg2.ext (ext_slot ks)
    have stB := stA.trans st2
    have omc : m.cells.all NV.one = true := rfl
    simp (disch := first | omega | (simp only [fsLen]; omega)) only [↓fsPre, fsPost, fsGen, fsDefs, cls, Nat.reduceAdd, Nat.reduceEqDiff, Nat.reduceBEq, ↓reduceIte, ks, Mt.cells, hl2]
    refine grc_app3 (N := H.length + 4) (new := m.cells) hg3 (by rw [length_hset]; omega) (sliceCells_at (by simp (disch := first | omega | (simp only [fsLen]; omega)) only [fsCond] <;> rfl) rfl) rfl (by omega) (by omega) rfl (by rw [mtC_length]; omega) (by omega) (by omega) ?_
    intro w2 g hg4 hl5 old5 keep5 new5
    rw [length_hset] at hl5 keep5
    have low : ∀ q, q < H.length + 4 → hget g q = hget h' q := fun q hq => (old5 q hq).trans (hget_hset_ne (by omega))
    have e4 := (low _ (by omega)).trans k4
    have e6 := (low _ (by omega)).trans k6
    have e7 := (low _ (by omega)).trans k7
    have e8 := (low _ (by omega)).trans k8
    have ex : hget g h.length = some (.cells [.str nk, .int .i64 fk, .int .i64 kk] false) := by
      rw [keep5 _ (by omega) (hg.lt (Nat.le_refl _)), hget_hset_ne (by omega)]; exact kx
    have ow2 := hg4.one
    have l8 := hget_some_lt e8
    have hlg : h.length + 2 ≤ g.length := by omega
    have stC : CodesSt H g p n sl := stB.grow hpl hs (by omega) fun q hq => low q (by omega)
    simp (disch := first | omega | (simp only [fsLen]; omega)) only [↓fsPre, fsPost, fsCond, fsGen, fsDefs, cls, vjGen, Nat.reduceAdd, Nat.reduceLeDiff, Nat.reduceEqDiff, Nat.reduceBEq, ↓reduceIte, f8, k8, e8, ex, flat_one ow2, cells_one ow2, hlg]
    have stD : CodesSt H (hset g (H.length + 3) (.cells [.int .i64 ((j : Int) + 1), w2, .int .i64 pr, .int .i64 0, .slice none 0 (.fix 0)] false)) p n sl := stC.grow hpl hs (by rw [length_hset]; omega) fun q hq => hget_hset_ne (by omega)
    have hgD : GrC (hset g (H.length + 3) (.cells [.int .i64 ((j : Int) + 1), w2, .int .i64 pr, .int .i64 0, .slice none 0 (.fix 0)] false)) (H.length + 4) (mtC ms ++ m.cells) 8 w2 := hg4.ext (Ext.set (by omega))
    have withp : ∀ (x : Int) (a : Int), 0 ≤ a → a ≤ n → EyI H p n sl [z0, z1, z2, z3, .slice (some (b, 0)) 4 c, z5, z6, z7, z8, z9] [.int .i64 ((j : Int) + 1), .str nm, .slice (some (bk, 0)) (keysOf t j).length ck, avv, .int .i64 d, dv, .int .i64 sz, .str r]
        (hset (hset (hset g (H.length + 3) (.cells [.int .i64 ((j : Int) + 1), w2, .int .i64 pr, .int .i64 0, .slice none 0 (.fix 0)] false)) p (.cells [sl, .int .i64 a] false)) (H.length + 3) (.cells [.int .i64 ((j : Int) + 1), w2, .int .i64 x, .int .i64 0, .slice none 0 (.fix 0)] false)) := by
      intro x a ha hb
      have stE := stD.next ha hb
      refine ⟨stE.grow hpl hs (by simp only [length_hset]; omega) fun q hq => hget_hset_ne (by omega), by simp only [length_hset]; omega, ?_, ?_, ?_⟩
      · rw [hget_hset_ne (by omega), hget_hset_ne (by omega), hget_hset_ne (by omega)]; exact e4
      · rw [hget_hset_ne (by omega), hget_hset_ne (by omega), hget_hset_ne (by omega)]; exact e6
      · rw [hget_hset_ne (by omega), hget_hset_ne (by omega), hget_hset_ne (by omega)]; exact e7
    by_cases g3 : kk = 3
    · simp (disch := first | omega | (simp only [fsLen]; omega)) only [↓fsPre, fsPost, fsGen, fsDefs, reduceCtorEq, Nat.reduceEqDiff, ↓reduceIte, f0, flat_one ow2, cells_one ow2, g3]
      obtain ⟨_, _, ⟨a5, hp5, hb05, hb15⟩, hs5⟩ := stD
      refine callT_D (next_ok _ p n 5 sl a5 hp5 hs5 hb05 hb15 (by omega) (by omega)) rfl ?_
      rintro v h' ⟨x6, a6, e, x6a, x6b, hb06, hb16⟩
      cases e
      have hpl5 : p < g.length := by omega
      simp (disch := first | omega | (simp only [fsLen]; omega)) only [↓fsPre, fsPost, fsCond, fsGen, fsDefs, vjGen, reduceCtorEq, Nat.reduceAdd, Nat.reduceLeDiff, Nat.reduceEqDiff, ↓reduceIte, f0, f4, f6, f7, f8, f26, f27, f28, flat_one ow2, cells_one ow2]
      exact ⟨withp _ a6 hb06 hb16, ms ++ [m], 1 + x6, w2, by simp [hms], hmo2, rfl, by rw [mtC_snoc]; exact ((hgD.ext (Ext.set (by omega))).ext (Ext.set (by omega)))⟩
    · by_cases g4 : kk = 4
      · simp (disch := first | omega | (simp only [fsLen]; omega)) only [↓fsPre, fsPost, fsCond, fsGen, fsDefs, vjGen, reduceCtorEq, Nat.reduceEqDiff, Int.reduceEq, ↓reduceIte, f0, ex, flat_one ow2, cells_one ow2, g4]
        obtain ⟨_, _, ⟨a5, hp5, hb05, hb15⟩, hs5⟩ := stD
        refine callT_D (next_ok _ p n 5 sl a5 hp5 hs5 hb05 hb15 (by omega) (by omega)) rfl ?_
        rintro v h' ⟨x6, a6, e, x6a, x6b, hb06, hb16⟩
        cases e
        have hpl5 : p < g.length := by omega
        simp (disch := first | omega | (simp only [fsLen]; omega)) only [↓fsPre, fsPost, fsCond, fsGen, fsDefs, vjGen, reduceCtorEq, Nat.reduceAdd, Nat.reduceLeDiff, Nat.reduceEqDiff, ↓reduceIte, f0, f4, f6, f7, f8, f26, f27, f28, flat_one ow2, cells_one ow2]
        exact ⟨withp _ a6 hb06 hb16, ms ++ [m], 1 + x6, w2, by simp [hms], hmo2, rfl, by rw [mtC_snoc]; exact ((hgD.ext (Ext.set (by omega))).ext (Ext.set (by omega)))⟩
      · simp (disch := first | omega | (simp only [fsLen]; omega)) only [↓fsPre, fsPost, fsCond, fsGen, fsDefs, vjGen, reduceCtorEq, Nat.reduceEqDiff, ↓reduceIte, f0, f4, f6, f7, f8, f26, f27, f28, ex, flat_one ow2, cells_one ow2, g3, g4]
        refine ⟨⟨stD, by rw [length_hset]; omega, by simp (disch := first | omega | (simp only [fsLen]; omega)) only [fsCond, e4], by simp (disch := first | omega | (simp only [fsLen]; omega)) only [fsCond, e6], by simp (disch := first | omega | (simp only [fsLen]; omega)) only [fsCond, e7]⟩, ms ++ [m], pr, w2, by simp [hms], hmo2, ?_, by rw [mtC_snoc]; exact hgD⟩
        simp (disch := first | omega | (simp only [fsLen]; omega)) only [↓fsPre, fsPost, fsCond, fsGen, fsDefs, fsDefX, cls, eqVal, reduceCtorEq, Nat.reduceAdd, Nat.reduceMul, Nat.reduceSub, Nat.reduceLT, Nat.reduceLeDiff, Nat.reduceEqDiff, Nat.reduceBEq, Nat.reduceBNe, Int.reduceLT, Int.reduceLE, Int.reduceEq, Int.reduceNe, Int.reduceAdd, Int.reduceSub, Int.reduceNeg, Int.reduceToNat, Int.reduceMul, ↓reduceIte, Int.reduceGT, Int.reduceGE]
  · rintro F h ⟨f0, f4, f6, f7, f8, f26, f27, f28, ⟨st, hl4, b4, b6, b7⟩, ms, pr, mv, hms, hmo, b8, hg⟩
    have om := hg.one
    obtain ⟨al1, al2⟩ := actsOf_le j
    have har := actsOf_range j
    simp only [Tr.rep] at hav
    rcases hav with ⟨_, h⟩ | ⟨ba, ca, csa, roa, rfl, _, hba, harows⟩
    · have := congrArg List.length h
      simp at this; rw [this] at al1; simp at al1
    simp only [List.length_map] at b7
    have hbal := hget_some_lt hba
    have arow : ∀ i (hi : i < (actsOf j).length), csa[i]? = some (.int .i64 (actsOf j)[i]) := by
      intro i hi
      obtain ⟨us, hu, hur⟩ := Tr.rep_row harows (j := i) (by simpa using hi)
      simp only [List.getElem_map, Tr.repCells, rep_ti] at hur
      obtain ⟨_, _, rfl, rfl, rfl⟩ := hur
      have := cut_get hu (i := 0) (by omega)
      simpa using this
    have bap : hget h ba = some (.cells csa roa) := by
      by_cases e : ba = p
      · subst e; rw [hp] at hba; cases hba
        exfalso
        have := arow 0 (by omega)
        rcases hs with ⟨rfl, _⟩ | ⟨_, _, _, _, rfl, _⟩ <;> simp at this
      · rw [st.old ba hbal e]; exact hba
    obtain ⟨_, _, ⟨a5, hp5, hb05, hb15⟩, hs5⟩ := id st
    have hpl5 := hget_some_lt hp5
    simp (disch := first | omega | (simp only [fsLen]; omega)) only [↓fsPre, fsPost, fsGen, fsDefs, cls, vjGen, reduceCtorEq, Nat.reduceAdd, Nat.reduceEqDiff, ↓reduceIte, f0, f7, f27, f28, b7]
    refine callDT_D (next_ok _ p n (actsOf j).length sl a5 hp5 hs5 hb05 hb15 (by omega) (by omega)) rfl ?_
    rintro v h' ⟨x6, a6, e, x6a, x6b, hb06, hb16⟩
    cases e
    have bne : ba ≠ p := by
      intro e
      rw [e, hp5] at bap
      cases bap
      have := arow 0 (by omega)
      rcases hs with ⟨rfl, _⟩ | ⟨_, _, _, _, rfl, _⟩ <;> simp at this
    have hx6 := arow x6.toNat (by omega)
    obtain ⟨act, hact, hmem⟩ : ∃ act, (actsOf j)[x6.toNat]? = some act ∧ act ∈ actsOf j := ⟨_, List.getElem?_eq_getElem (by omega), List.getElem_mem _⟩
    rw [(List.getElem?_eq_some_iff.1 hact).2] at hx6
    obtain ⟨ha1, ha2⟩ := har act hmem
    have bap2 : hget (hset h p (.cells [sl, .int .i64 a6] false)) ba = some (.cells csa roa) := by rw [hget_hset_ne (Ne.symm bne)]; exact bap
    simp (disch := first | omega | (simp only [fsLen]; omega)) only [↓fsPre, fsPost, fsCond, fsGen, fsDefs, cls, Nat.reduceAdd, Nat.reduceLeDiff, Nat.reduceEqDiff, Nat.reduceBEq, ↓reduceIte, f4, f8, b4, b7, b8, bap2, hx6]
    have stF : CodesSt H (hset (hset h p (.cells [sl, .int .i64 a6] false)) (H.length + 3) (.cells [.int .i64 ((j : Int) + 1), mv, .int .i64 pr, .int .i64 act, .slice none 0 (.fix 0)] false)) p n sl :=
      (st.next hb06 hb16).grow hpl hs (by simp only [length_hset]; omega) fun q hq => hget_hset_ne (by omega)
    obtain ⟨nm2, pv, bv, r2, hpv, obv, hcall⟩ := actionIn_ok N _ t acs z0 z1 z2 z3 (.slice (some (b, 0)) 4 c) z5 z6 z7 z8 z9 (hSc _ stF) act ⟨ha1, ha2⟩
    have opv := Tr.rep_one hpv
    obtain ⟨pa, pc, epv⟩ := Tr.rep_len hpv
    refine callT_one hcall rfl ?_
    have hgF : GrC (hset (hset h p (.cells [sl, .int .i64 a6] false)) (H.length + 3) (.cells [.int .i64 ((j : Int) + 1), mv, .int .i64 pr, .int .i64 act, .slice none 0 (.fix 0)] false)) (H.length + 4) (mtC ms) 8 mv := (hg.ext (Ext.set (by omega))).ext (Ext.set (by omega))
    have c4 : hget (hset (hset h p (.cells [sl, .int .i64 a6] false)) (H.length + 3) (.cells [.int .i64 ((j : Int) + 1), mv, .int .i64 pr, .int .i64 act, .slice none 0 (.fix 0)] false)) H.length = some (.cells [z0, z1, z2, z3, .slice (some (b, 0)) 4 c, z5, z6, z7, z8, z9] false) := by
      rw [hget_hset_ne (by omega), hget_hset_ne (by omega)]; exact b4
    have c6 : hget (hset (hset h p (.cells [sl, .int .i64 a6] false)) (H.length + 3) (.cells [.int .i64 ((j : Int) + 1), mv, .int .i64 pr, .int .i64 act, .slice none 0 (.fix 0)] false)) (H.length + 1) = some (.cells [.int .i64 0, .slice none 0 (.fix 0), .int .i64 0, .int .i64 0, .slice none 0 (.fix 0)] false) := by
      rw [hget_hset_ne (by omega), hget_hset_ne (by omega)]; exact b6
    have c8 : hget (hset (hset h p (.cells [sl, .int .i64 a6] false)) (H.length + 3) (.cells [.int .i64 ((j : Int) + 1), mv, .int .i64 pr, .int .i64 act, .slice none 0 (.fix 0)] false)) (H.length + 3) = some (.cells [.int .i64 ((j : Int) + 1), mv, .int .i64 pr, .int .i64 act, .slice none 0 (.fix 0)] false) :=
      hget_hset_same (by rw [length_hset]; omega)
    have cl : (hset (hset h p (.cells [sl, .int .i64 a6] false)) (H.length + 3) (.cells [.int .i64 ((j : Int) + 1), mv, .int .i64 pr, .int .i64 act, .slice none 0 (.fix 0)] false)).length = h.length := by simp only [length_hset]
    generalize hset (hset h p (.cells [sl, .int .i64 a6] false)) (H.length + 3) (.cells [.int .i64 ((j : Int) + 1), mv, .int .i64 pr, .int .i64 act, .slice none 0 (.fix 0)] false) = hF at *
    have hpar := par_row act
    have hparl := parR_le act
    simp (disch := first | omega | (simp only [fsLen]; omega)) only [↓fsPre, fsPost, fsGen, fsDefs, ↓reduceIte, epv]
    have lF4 := hget_some_lt c4
    have lF8 := hget_some_lt c8
    refine wloop (fun k F h => F 0 = .ptr (some (p, 0)) ∧ F 4 = .ptr (some (H.length, 0)) ∧ F 6 = .ptr (some (H.length + 1, 0)) ∧ F 8 = .ptr (some (H.length + 3, 0)) ∧ F 68 = .slice pa (parR act).length pc ∧ F 69 = .int .i64 (parR act).length ∧ F 70 = .int .i64 k ∧
      CodesSt H h p n sl ∧ hF.length ≤ h.length ∧ (∀ q, q < hF.length → q ≠ p → q ≠ H.length + 3 → hget h q = hget hF q) ∧
      ∃ args av, args.length = k ∧ (∀ a ∈ args, U64 a.1 ∧ U64 a.2) ∧ hget h (H.length + 3) = some (.cells [.int .i64 ((j : Int) + 1), mv, .int .i64 pr, .int .i64 act, av] false) ∧ GrC h hF.length (arC args) 2 av) (parR act).length ?_ ?_ ?_
    · simp (disch := first | omega | (simp only [fsLen]; omega)) only [↓fsPre, fsGen, reduceCtorEq, Nat.reduceEqDiff, ↓reduceIte, f0, f4, f6, f8]
      exact ⟨stF, [], _, rfl, by simp, c8, .nil⟩
    · clear f0 f4 f6 f7 f8 f26 f27 f28 b4 b6 b7 b8 F
      rintro k F h1 hk ⟨f0, f4, f6, f8, f68, f69, f70, st1, hl1, same1, args, av, hargs, hao, b8, hga⟩
      have hpv2 := hpv
      rw [epv] at hpv2
      simp only [Tr.rep] at hpv2
      rcases hpv2 with ⟨_, h⟩ | ⟨bp, cp, csp, rop, hbp0, _, hbp, hprows⟩
      · rw [h] at hk; simp at hk
      cases hbp0
      obtain ⟨nmk, bits, hrk, hbit1, hbit2⟩ := hpar k hk
      obtain ⟨ys, hcut, hyr⟩ := Tr.rep_row hprows hk
      rw [hrk] at hyr
      simp only [Tr.repCells, rep_ti, rep_ts] at hyr
      obtain ⟨_, _, rfl, rfl, _, _, rfl, rfl, rfl⟩ := hyr
      obtain ⟨us, hu, hur⟩ := Tr.rep_row hprows (j := 0) (by omega)
      obtain ⟨nm0, bits0, hr0, _⟩ := hpar 0 (by omega)
      rw [hr0] at hur
      simp only [Tr.repCells, rep_ti, rep_ts] at hur
      obtain ⟨_, _, rfl, rfl, _, _, rfl, rfl, rfl⟩ := hur
      have hc0 := cut_get hu (i := 0) (by omega)
      simp only [Nat.zero_mul, Nat.add_zero, List.getElem?_cons_zero] at hc0
      obtain ⟨_, _, ⟨aF, hpF, _, _⟩, _⟩ := id stF
      have bpne : bp ≠ p := by
        intro e
        rw [e, hpF] at hbp
        cases hbp
        rcases hs with ⟨rfl, _⟩ | ⟨_, _, _, _, rfl, _⟩ <;> simp at hc0
      have bpne2 : bp ≠ H.length + 3 := by
        intro e
        rw [e, c8] at hbp
        cases hbp
        simp at hc0
      have hbpl := hget_some_lt hbp
      have bpp : hget h1 bp = some (.cells csp rop) := by rw [same1 bp hbpl bpne bpne2]; exact hbp
      have b4 := (same1 H.length (by omega) pne.1 (by omega)).trans c4
      have b6 := (same1 (H.length + 1) (by omega) pne.2.1 (by omega)).trans c6
      have oav := hga.one
      obtain ⟨_, _, ⟨a5, hp5, hb05, hb15⟩, hs5⟩ := id st1
      have hpl5 := hget_some_lt hp5
      simp (disch := first | omega | (simp only [fsLen]; omega)) only [↓fsPre, fsPost, fsCond, fsGen, fsDefs, cls, vjGen, reduceCtorEq, Nat.reduceAdd, Nat.reduceEqDiff, ↓reduceIte, f0, f8, f68, f69, f70, b8, bpp, hcut, flat_one oav, cells_one oav]
      refine callDT_D (next_ok _ p n 256 sl a5 (by simp (disch := first | omega | (simp only [fsLen]; omega)) only [fsCond, hp5]) hs5.app hb05 hb15 (by omega) (by omega)) rfl ?_
      rintro v h' ⟨x6, a6, e, x6a, x6b, hb06, hb16⟩
      cases e
      have b4' : hget (hset h1 p (.cells [sl, .int .i64 a6] false)) H.length = _ := (hget_hset_ne (by omega)).trans b4
      have b8' : hget (hset h1 p (.cells [sl, .int .i64 a6] false)) (H.length + 3) = _ := (hget_hset_ne (by omega)).trans b8
      simp (disch := first | omega | (simp only [fsLen]; omega)) only [↓fsPre, fsPost, fsCond, fsGen, fsDefs, cls, vjGen, Nat.reduceAdd, Nat.reduceEqDiff, Nat.reduceBEq, ↓reduceIte, flat_one oav, cells_one oav]
      refine callDT_one (low_ok _ _ _ bits (by omega)) rfl ?_
      generalize hL : lowV _ _ bits = w
      have hw12 : U64 w.1 ∧ U64 w.2 := by rw [← hL]; exact lowV_u _ _ _ (by omega)
      clear hL
      obtain ⟨w1, w2⟩ := w
      simp only at hw12
      have hao2 : ∀ a ∈ args ++ [(w1, w2)], U64 a.1 ∧ U64 a.2 := fun a ha => by
        rcases List.mem_append.1 ha with ha | ha
        · exact hao a ha
        · rw [List.mem_singleton.1 ha]; exact hw12
      have hgb : GrC (hset h1 p (.cells [sl, .int .i64 a6] false) ++ [some (.cells [.str nmk, .int .i64 bits] false), some (.cells [.int .u64 w1, .int .u64 w2] false)]) hF.length (arC args) 2 av := (hga.ext (Ext.set (by omega))).ext Ext.app
      simp (disch := first | omega | (simp only [fsLen]; omega)) only [↓fsPre, fsPost, fsCond, fsGen, fsDefs, cls, Nat.reduceAdd, Nat.reduceEqDiff, Nat.reduceBEq, ↓reduceIte, flat_one oav, cells_one oav]
      refine grc_app3 (N := hF.length) (new := [.int .u64 w1, .int .u64 w2]) hgb (by simp only [List.length_append, length_hset]; omega) (sliceCells_at (by simp (disch := first | omega | (simp only [fsLen]; omega)) only [fsPost, fsCond, fsGen] <;> rfl) rfl) rfl (by omega) (by omega) rfl (by rw [arC_length]; omega) (by omega) (by omega) ?_
      intro w3 g hg4 hl5 old5 keep5 new5
      simp only [List.length_append, List.length_cons, List.length_nil, length_hset] at hl5
      have low : ∀ q, q < hF.length → q ≠ p → hget g q = hget h1 q := fun q hq hne => by rw [old5 q hq, hget_appl (by rw [length_hset]; omega), hget_hset_ne (Ne.symm hne)]
      have e8 := (low _ lF8 (by omega)).trans b8
      have l8 := hget_some_lt e8
      have ow3 := hg4.one
      have gp : hget g p = some (.cells [sl, .int .i64 a6] false) := by
        rw [old5 p (by omega), hget_appl (by rw [length_hset]; omega), hget_hset_same hpl5]
      have stG : CodesSt H g p n sl := ((st1.next hb06 hb16).app0).grow hpl hs (by omega) fun q hq => old5 q (by omega)
      have hlg : h1.length + 2 ≤ g.length := by omega
      simp (disch := first | omega | (simp only [fsLen]; omega)) only [↓fsPre, fsPost, fsCond, fsGen, fsDefs, cls, vjGen, reduceCtorEq, Nat.reduceAdd, Nat.reduceEqDiff, Nat.reduceBEq, ↓reduceIte, f0, f4, f6, f8, f68, f69, f70, flat_one oav, cells_one oav, b8', e8, flat_one ow3, cells_one ow3, hlg]
      refine ⟨stG.grow hpl hs (by rw [length_hset]; omega) fun q hq => hget_hset_ne (by omega), by omega, fun q h1 h2 h3 => ?_, args ++ [(w1, w2)], w3, by simp [hargs], hao2, rfl, by rw [arC_snoc]; exact hg4.ext (Ext.set (by omega))⟩
      rw [hget_hset_ne (Ne.symm h3), low q h1 h2]; exact same1 q h1 h2 h3
    · rintro F h1 ⟨f0, f4, f6, f8, f68, f69, f70, st1, hl1, same1, args, av, hargs, hao, b8, hga⟩
      have b4 := (same1 H.length (by omega) pne.1 (by omega)).trans c4
      have b6 := (same1 (H.length + 1) (by omega) pne.2.1 (by omega)).trans c6
      have oav := hga.one
      have l6 := hget_some_lt b6
      simp (disch := first | omega | (simp only [fsLen]; omega)) only [↓fsPre, fsPost, fsCond, fsGen, fsDefs, vjGen, Nat.reduceAdd, Nat.reduceEqDiff, ↓reduceIte, f6, f8, f69, f70, b6, b8, oav, om]
      refine ⟨⟨(j : Int) + 1, ms, pr, act, args⟩, _, rfl, ⟨mv, av, rfl, ?_, (hga.ext (Ext.set (by omega))).low (by omega)⟩, ⟨j, by omega, rfl, hms, hmem, hargs, hmo, hao⟩, ?_⟩
      · rcases hgF with g0 | ⟨bm, lm, rfl, hm1, hm2, hm3⟩
        · exact .inl g0
        · have hbml := hget_some_lt hm2
          exact .inr ⟨bm, lm, rfl, by omega, by rw [hget_hset_ne (by omega), same1 bm hbml (by omega) (by omega)]; exact hm2, hm3⟩
      · exact st1.grow hpl hs (by rw [length_hset]; omega) fun q hq => hget_hset_ne (by omega)

theorem EnAt.ext {h h' : Heap} {N : Nat} {row : List NV} {e : En} (x : EnAt h N row e) (k : Ext N h h') : EnAt h' N row e := by
  obtain ⟨mv, av, h1, h2, h3⟩ := x
  exact ⟨mv, av, h1, h2.ext k, h3.ext k⟩
theorem EnAt.low {h : Heap} {N M : Nat} {row : List NV} {e : En} (x : EnAt h N row e) (k : M ≤ N) : EnAt h M row e := by
  obtain ⟨mv, av, h1, h2, h3⟩ := x
  exact ⟨mv, av, h1, h2.low k, h3.low k⟩
def EnSep (row : List NV) (w : NV) : Prop := ∀ x ∈ row, Sep x w
theorem EnAt.keep {h h' : Heap} {N : Nat} {row : List NV} {e : En} {w : NV} (x : EnAt h N row e) (k : ∀ b, b < h.length → (∀ o n c, w ≠ .slice (some (b, o)) n c) → hget h' b = hget h b) (s : EnSep row w) : EnAt h' N row e := by
  obtain ⟨mv, av, rfl, h2, h3⟩ := x
  exact ⟨mv, av, rfl, h2.keep k (s _ (by simp)), h3.keep k (s _ (by simp))⟩
theorem EnAt.sep {h : Heap} {N : Nat} {row : List NV} {e : En} {w : NV} (x : EnAt h N row e) (k : ∀ b, b < h.length → ∀ o n c, w ≠ .slice (some (b, o)) n c) : EnSep row w := by
  obtain ⟨mv, av, rfl, h2, h3⟩ := x
  intro y hy
  simp only [List.mem_cons, List.not_mem_nil, or_false] at hy
  rcases hy with rfl | rfl | rfl | rfl | rfl
  · intro b o n c o' n' c' e; cases e
  · exact h2.sep k
  · intro b o n c o' n' c' e; cases e
  · intro b o n c o' n' c' e; cases e
  · exact h3.sep k
theorem grc_sep2 {h : Heap} {N e : Nat} {C : List NV} {v w : NV} (g : GrC h N C e v) (k : ∀ b, N ≤ b → ∀ o n c, w ≠ .slice (some (b, o)) n c) : Sep v w := by
  intro b o n c o' n' c' e
  rcases g with ⟨_, rfl⟩ | ⟨b2, l, rfl, h2, h3, _⟩
  · cases e
  · cases e
    exact k _ h2 _ _ _
theorem EnAt.sep2 {h : Heap} {N : Nat} {row : List NV} {e : En} {w : NV} (x : EnAt h N row e) (k : ∀ b, N ≤ b → ∀ o n c, w ≠ .slice (some (b, o)) n c) : EnSep row w := by
  obtain ⟨mv, av, rfl, h2, h3⟩ := x
  intro y hy
  simp only [List.mem_cons, List.not_mem_nil, or_false] at hy
  rcases hy with rfl | rfl | rfl | rfl | rfl
  · intro b o n c o' n' c' e; cases e
  · exact grc_sep2 h2 k
  · intro b o n c o' n' c' e; cases e
  · intro b o n c o' n' c' e; cases e
  · exact grc_sep2 h3 k
theorem EnAt.length {h : Heap} {N : Nat} {row : List NV} {e : En} (x : EnAt h N row e) : row.length = 5 := by
  obtain ⟨mv, av, rfl, _⟩ := x; rfl

/-- A list of entries. -/
def EnL (h : Heap) (N : Nat) (t : TP) (v : NV) (es : List En) : Prop :=
  ∃ rows : List (List NV), rows.length = es.length ∧ GrC h N rows.flatten 5 v ∧ ∀ i (h1 : i < rows.length) (h2 : i < es.length), EnAt h N rows[i] es[i] ∧ EnOK t es[i] ∧ EnSep rows[i] v
theorem flat5 {rows : List (List NV)} (h : ∀ r ∈ rows, r.length = 5) : rows.flatten.length = rows.length * 5 := by
  induction rows with
  | nil => rfl
  | cons r rows ih =>
    rw [List.flatten_cons, List.length_append, h r (List.mem_cons_self ..), ih fun x hx => h x (List.mem_cons_of_mem _ hx), List.length_cons]; omega

end Go.Proofs
