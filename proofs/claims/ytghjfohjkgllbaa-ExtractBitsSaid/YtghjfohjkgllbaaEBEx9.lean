/- Extract: Start. -/
import Derived.Test.YtghjfohjkgllbaaEBEx8
set_option linter.unusedSimpArgs false
set_option linter.unusedVariables false
set_option maxRecDepth 10000
namespace Go.Proofs
open Go.Ns

theorem port_u (x : Int) : IntKind.u64.wrap ((BitVec.ofInt IntKind.u64.bits (IntKind.u64.wrap x) &&& BitVec.ofInt IntKind.u64.bits 65535).toNat : Int) = x % 65536 := by
  have h1 : (BitVec.ofInt IntKind.u64.bits 65535).toNat = 2 ^ 16 - 1 := by decide
  rw [BitVec.toNat_and, h1, Nat.and_two_pow_sub_one_eq_mod, BitVec.toNat_ofInt]
  simp only [IntKind.wrap, IntKind.bits, IntKind.signed]
  simp
  omega
theorem vals_zero (n : Nat) : (List.replicate n [NV.int .u64 0, .int .u64 0]).flatten = vals (List.replicate n 0#128) := by
  induction n with
  | zero => rfl
  | succ n ih => rw [List.replicate_succ, List.flatten_cons, ih, List.replicate_succ]; rfl
theorem bools_false (n : Nat) : (List.replicate n [NV.bool false]).flatten = bools (List.replicate n false) := by
  induction n with
  | zero => rfl
  | succ n ih => rw [List.replicate_succ, List.flatten_cons, ih, List.replicate_succ]; rfl
theorem tail5 {H L : Heap} {a b c d e a' b' c' d' e' : Option NBlk} {k : Nat} (hk : H.length + 5 ≤ k) : hget (H ++ a :: b :: c :: d :: e :: L) k = hget (H ++ [a', b', c', d', e'] ++ L) k := by
  obtain ⟨i, rfl⟩ : ∃ i, k = H.length + (i + 5) := ⟨k - (H.length + 5), by omega⟩
  unfold hget
  rw [List.getElem?_append_right (by omega), List.append_assoc, List.getElem?_append_right (by omega), Nat.add_sub_cancel_left]
  rfl
def XA.start (A : XA) (port : Int) : List (BitVec 128) := (List.replicate A.l.length 0#128).set (A.l.idxOf 1) (ofV (port % 65536))

set_option maxHeartbeats 2000000 in
theorem start_ok {A : XA} {H : Heap} {z0 z1 z2 z3 z4 z5 z6 z7 z8 z9 : NV} (x : XAt A H z0 z1 z2 z3 z4 z5 z6 z7 z8 z9) (port : Int) (m : Nat) (d : Nat → BitVec 8) (v : NV) (hb : BytesAt H v m d) (hm : m ≤ 1000) (h1 : 1 ∈ A.l) :
    DCall Try.prog 10 [.agg [z0, z1, z2, z3, z4, z5, z6, z7, z8, z9], .int .i64 port, v] H fun r => (∃ L, r.2 = H ++ L) ∧ CxAt A r.2 H.length m d (A.start port) (List.replicate A.hl.length false) 0 0 r.1 := by
  obtain ⟨o0, o1, o2, o3, o4, o5, o6, o7, o8, o9⟩ := x.ones
  have ok := x.ok
  have nl := ok.nl
  have nh := ok.nh
  have hix := ixI_mem h1
  have hlt := List.idxOf_lt_length_of_mem h1
  have ov := hb.one
  obtain ⟨b0, c0, cs0, ro0, rfl, _⟩ := id x.f
  obtain ⟨b1, c1, cs1, ro1, rfl, _⟩ := id x.g
  have hcl := fun L => cloneY_ok (H ++ L) v m d (.inl (hb.mono fun b hb => hget_appl hb)) hm
  refine call_det E0 rfl mixed t10_ok (by kernel_rfl) (by rintro q ⟨⟨L, h⟩, _⟩; rw [h]; simp) ?_
  simp only [t10]
  simp (disch := first | omega | (simp only [List.length_append, List.length_cons, List.length_nil, length_hset, length_hkill]; omega)) only [↓fsPre, fsPost, fsCond, fsGen, npick, nbin, nun, nconv, nnilCheck, noff, nidxArr, nidxSl, nfield, npart, nindex, nextract, nlenSl, nlenStr, ncap, mmx, minmax2, nslice, nsliceArr, nbounds, obound, bound, adv, nbits, eqVal, eqCell, eqCells, nfill, lenOfSl, cls, fresults, fresl, fres1, gt_iff_lt, ge_iff_le, reduceCtorEq, Nat.reduceAdd, Nat.reduceMul, Nat.reduceSub, Nat.reduceLT, Nat.reduceLeDiff, Nat.reduceEqDiff, Nat.reduceBEq, Nat.reduceBNe, Int.reduceLT, Int.reduceLE, Int.reduceEq, Int.reduceNe, Int.reduceAdd, Int.reduceSub, Int.reduceNeg, Int.reduceToNat, Int.reduceMul, ↓reduceIte, Int.reduceGT, Int.reduceGE, ov, o2, o3, o4, o5, o6, o7, o8, o9, vals_zero, bools_false]
  refine ⟨by omega, by omega, ?_⟩
  refine callDT_D (hcl _) rfl ?_
  rintro w h' ⟨⟨L, e⟩, hr⟩
  simp only at e hr
  subst e
  have ow := hr.one
  obtain ⟨of, oc⟩ := hr.flat
  simp only [List.length_append, List.length_cons, List.length_nil] at hr
  simp (disch := first | omega | (simp only [List.length_append, List.length_cons, List.length_nil, length_hset, length_hkill]; omega)) only [↓fsPre, fsPost, fsCond, fsGen, npick, nbin, nun, nconv, nnilCheck, noff, nidxArr, nidxSl, nfield, npart, nindex, nextract, nlenSl, nlenStr, ncap, mmx, minmax2, nslice, nsliceArr, nbounds, obound, bound, adv, nbits, eqVal, eqCell, eqCells, nfill, lenOfSl, cls, fresults, fresl, fres1, gt_iff_lt, ge_iff_le, reduceCtorEq, Nat.reduceAdd, Nat.reduceMul, Nat.reduceSub, Nat.reduceLT, Nat.reduceLeDiff, Nat.reduceEqDiff, Nat.reduceBEq, Nat.reduceBNe, Int.reduceLT, Int.reduceLE, Int.reduceEq, Int.reduceNe, Int.reduceAdd, Int.reduceSub, Int.reduceNeg, Int.reduceToNat, Int.reduceMul, ↓reduceIte, Int.reduceGT, Int.reduceGE, ov, o2, o3, o4, o5, o6, o7, o8, o9, vals_zero, bools_false, ow, of, oc]
  refine callT_one (xfield_ok (x.mono fun b hb => by simp (disch := first | omega | (simp only [List.length_append, List.length_cons, List.length_nil, length_hset, length_hkill]; omega)) only [↓fsPre, fsPost, fsCond, fsGen, npick, nbin, nun, nconv, nnilCheck, noff, nidxArr, nidxSl, nfield, npart, nindex, nextract, nlenSl, nlenStr, ncap, mmx, minmax2, nslice, nsliceArr, nbounds, obound, bound, adv, nbits, eqVal, eqCell, eqCells, nfill, lenOfSl, cls, fresults, fresl, fres1, gt_iff_lt, ge_iff_le, reduceCtorEq, Nat.reduceAdd, Nat.reduceMul, Nat.reduceSub, Nat.reduceLT, Nat.reduceLeDiff, Nat.reduceEqDiff, Nat.reduceBEq, Nat.reduceBNe, Int.reduceLT, Int.reduceLE, Int.reduceEq, Int.reduceNe, Int.reduceAdd, Int.reduceSub, Int.reduceNeg, Int.reduceToNat, Int.reduceMul, ↓reduceIte, Int.reduceGT, Int.reduceGE]) 1) rfl ?_
  simp (disch := first | omega | (simp only [List.length_append, List.length_cons, List.length_nil, length_hset, length_hkill]; omega)) only [↓fsPre, fsPost, fsCond, fsGen, npick, nbin, nun, nconv, nnilCheck, noff, nidxArr, nidxSl, nfield, npart, nindex, nextract, nlenSl, nlenStr, ncap, mmx, minmax2, nslice, nsliceArr, nbounds, obound, bound, adv, nbits, eqVal, eqCell, eqCells, nfill, lenOfSl, cls, fresults, fresl, fres1, gt_iff_lt, ge_iff_le, reduceCtorEq, Nat.reduceAdd, Nat.reduceMul, Nat.reduceSub, Nat.reduceLT, Nat.reduceLeDiff, Nat.reduceEqDiff, Nat.reduceBEq, Nat.reduceBNe, Int.reduceLT, Int.reduceLE, Int.reduceEq, Int.reduceNe, Int.reduceAdd, Int.reduceSub, Int.reduceNeg, Int.reduceToNat, Int.reduceMul, ↓reduceIte, Int.reduceGT, Int.reduceGE, ov, o2, o3, o4, o5, o6, o7, o8, o9, vals_zero, bools_false, ow, of, oc, hix]
  rw [port_u]
  have hof := fun H => of_ok H (port % 65536) (by omega)
  unfold vnv at hof
  refine callDT_one (hof _) rfl ?_
  simp (disch := first | omega | (simp only [List.length_append, List.length_cons, List.length_nil, length_hset, length_hkill]; omega)) only [↓fsPre, fsPost, fsCond, fsGen, npick, nbin, nun, nconv, nnilCheck, noff, nidxArr, nidxSl, nfield, npart, nindex, nextract, nlenSl, nlenStr, ncap, mmx, minmax2, nslice, nsliceArr, nbounds, obound, bound, adv, nbits, eqVal, eqCell, eqCells, nfill, lenOfSl, cls, fresults, fresl, fres1, gt_iff_lt, ge_iff_le, reduceCtorEq, Nat.reduceAdd, Nat.reduceMul, Nat.reduceSub, Nat.reduceLT, Nat.reduceLeDiff, Nat.reduceEqDiff, Nat.reduceBEq, Nat.reduceBNe, Int.reduceLT, Int.reduceLE, Int.reduceEq, Int.reduceNe, Int.reduceAdd, Int.reduceSub, Int.reduceNeg, Int.reduceToNat, Int.reduceMul, ↓reduceIte, Int.reduceGT, Int.reduceGE, ov, o2, o3, o4, o5, o6, o7, o8, o9, ow, of, oc, hix, nb_one, vals_length, List.length_replicate, vals_set]
  rw [vals_set (by rw [List.length_replicate]; exact hlt)]
  refine ⟨⟨_, rfl⟩, H.length + 2, H.length + 3, _, _, w, rfl, by omega, by omega, by omega, by simp (disch := first | omega | (simp only [List.length_append, List.length_cons, List.length_nil, length_hset, length_hkill]; omega)) only [↓fsPre, fsPost, fsCond, fsGen, npick, nbin, nun, nconv, nnilCheck, noff, nidxArr, nidxSl, nfield, npart, nindex, nextract, nlenSl, nlenStr, ncap, mmx, minmax2, nslice, nsliceArr, nbounds, obound, bound, adv, nbits, eqVal, eqCell, eqCells, nfill, lenOfSl, cls, fresults, fresl, fres1, gt_iff_lt, ge_iff_le, reduceCtorEq, Nat.reduceAdd, Nat.reduceMul, Nat.reduceSub, Nat.reduceLT, Nat.reduceLeDiff, Nat.reduceEqDiff, Nat.reduceBEq, Nat.reduceBNe, Int.reduceLT, Int.reduceLE, Int.reduceEq, Int.reduceNe, Int.reduceAdd, Int.reduceSub, Int.reduceNeg, Int.reduceToNat, Int.reduceMul, ↓reduceIte, Int.reduceGT, Int.reduceGE]; rfl, by simp (disch := first | omega | (simp only [List.length_append, List.length_cons, List.length_nil, length_hset, length_hkill]; omega)) only [↓fsPre, fsPost, fsCond, fsGen, npick, nbin, nun, nconv, nnilCheck, noff, nidxArr, nidxSl, nfield, npart, nindex, nextract, nlenSl, nlenStr, ncap, mmx, minmax2, nslice, nsliceArr, nbounds, obound, bound, adv, nbits, eqVal, eqCell, eqCells, nfill, lenOfSl, cls, fresults, fresl, fres1, gt_iff_lt, ge_iff_le, reduceCtorEq, Nat.reduceAdd, Nat.reduceMul, Nat.reduceSub, Nat.reduceLT, Nat.reduceLeDiff, Nat.reduceEqDiff, Nat.reduceBEq, Nat.reduceBNe, Int.reduceLT, Int.reduceLE, Int.reduceEq, Int.reduceNe, Int.reduceAdd, Int.reduceSub, Int.reduceNeg, Int.reduceToNat, Int.reduceMul, ↓reduceIte, Int.reduceGT, Int.reduceGE], by unfold XA.start; rw [List.length_set, List.length_replicate], by rw [List.length_replicate], hr.keep (by omega) ?_, ?_⟩
  · rintro b ⟨o, n, c, e⟩
    exact tail5 (hr.low e)
  · intro b o n c e
    have := hr.low e
    omega
end Go.Proofs
