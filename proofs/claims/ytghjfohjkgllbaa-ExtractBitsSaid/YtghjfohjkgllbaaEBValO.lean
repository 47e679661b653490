/- Values: Of. -/
import Derived.Test.YtghjfohjkgllbaaEBVal1
set_option linter.unusedSimpArgs false
set_option linter.unusedVariables false
set_option maxRecDepth 10000
namespace Go.Proofs
open Go.Ns

/-- A number as a value. -/
def ofV (k : Int) : BitVec 128 := BitVec.ofNat 128 k.toNat
theorem ofV_nv {k : Int} (h : 0 ≤ k ∧ k < 18446744073709551616) : NV.agg [nb 0#64, nb (BitVec.ofInt 64 k)] = vnv (ofV k) := by
  have h1 : (ofV k).toNat = k.toNat := by unfold ofV; rw [BitVec.toNat_ofNat, Nat.mod_eq_of_lt (by omega)]
  apply vnv_nat
  · rw [h1]; simp; omega
  · rw [h1, BitVec.toNat_ofInt]; omega
theorem of_ok (H : Heap) (k : Int) (h : 0 ≤ k ∧ k < 18446744073709551616) : NCall Try.prog 33 [.int .u64 k] H fun r => r = (vnv (ofV k), H) := by
  refine call_pure E0 mixed t33_ok (by kernel_rfl) vnv_lo ?_
  rw [nb_of k h]
  generalize hw : vnv (ofV k) = w
  simp only [t33]
  simp (disch := first | omega | (simp only [List.length_append, List.length_cons, List.length_nil, length_hset, length_hkill]; omega)) only [↓fsPre, fsPost, fsCond, fsGen, npick, nnilCheck, noff, nidxArr, nidxSl, nfield, npart, nindex, nextract, nlenSl, nlenStr, ncap, mmx, minmax2, nslice, nsliceArr, nbounds, obound, bound, adv, eqVal, eqCells, nfill, lenOfSl, cls, fresults, fresl, fres1, gt_iff_lt, ge_iff_le, nb_one, nb_flat, nb_cells, nb_and, nb_and_c, nb_c_and, nb_or, nb_or_c, nb_c_or, nb_xor, nb_xor_c, nb_c_xor, nb_andNot, nb_compl, nb_add, nb_sub, nb_shl, nb_shr, nb_c_shl, nb_eql, nb_neq, nb_eql_c, nb_neq_c, nb_lss, nb_geq_c, nb_conv8, nb_convi, eqCell_nb, bitsC_length, bitsC_get, bitsC_splice, bitsC_cut, bitsC_one, bitsC_flat, bitsC_splice_all, bit_ofInt, toNat_add_c, nb_zero, fill_bits, v_i64_add, v_i64_sub, v_i64_mul, v_i64_quo, v_i64_rem, v_i64_eql, v_i64_neq, v_i64_lss, v_i64_leq, v_i64_gtr, v_i64_geq, v_i64_and, v_i64_or, v_i64_xor, v_i64_andNot, v_i64_shl, v_i64_shr, v_i64_neg, v_u8_add, v_u8_sub, v_u8_mul, v_u8_quo, v_u8_rem, v_u8_eql, v_u8_neq, v_u8_lss, v_u8_leq, v_u8_gtr, v_u8_geq, v_u8_and, v_u8_or, v_u8_xor, v_u8_andNot, v_u8_shl, v_u8_shr, v_u8_neg, v_eqc_bool, v_eqc_int, v_eqc_str, v_not, nbool_undef, guardK_none, v_str_eql, v_str_neq, v_conv_i64_i64, v_conv_i64_u8, v_conv_u8_i64, v_conv_u8_u8, v_conv_u64_i64, v_conv_u64_u8, reduceCtorEq, Nat.reduceAdd, Nat.reduceMul, Nat.reduceSub, Nat.reduceLT, Nat.reduceLeDiff, Nat.reduceEqDiff, Nat.reduceBEq, Nat.reduceBNe, Int.reduceLT, Int.reduceLE, Int.reduceEq, Int.reduceNe, Int.reduceAdd, Int.reduceSub, Int.reduceNeg, Int.reduceToNat, Int.reduceMul, ↓reduceIte, Int.reduceGT, Int.reduceGE]
  exact ⟨by rw [← hw]; exact ofV_nv h, _, rfl⟩

end Go.Proofs
