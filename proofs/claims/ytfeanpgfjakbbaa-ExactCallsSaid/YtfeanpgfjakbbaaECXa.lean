/- Exact: the order of the pairs; the sort. -/
import Derived.Test.YtfeanpgfjakbbaaECVal4
import Derived.Test.YtfeanpgfjakbbaaVbP
import Derived.Test.YtfeanpgfjakbbaaNsU
import Derived.Test.YtfeanpgfjakbbaaECXl
set_option linter.unusedSimpArgs false
set_option linter.unusedVariables false
set_option maxRecDepth 10000
namespace Go.Proofs
open Go.Ns

def pv (p : Pt) : Nat → BitVec 128
  | 0 => p.1
  | 1 => p.2.1
  | 2 => p.2.2.1
  | _ => p.2.2.2
theorem prC_cut (x : Pt × Int) {j : Nat} (hj : j < 4) : cut (prC x) (j * 2) 2 = some [nb (hiOf (pv x.1 j)), nb (loOf (pv x.1 j))] := by
  match j, hj with
  | 0, _ => rfl
  | 1, _ => rfl
  | 2, _ => rfl
  | 3, _ => rfl
theorem cmpP_at {p q : Pt} {j : Nat} (hj : j < 4) (he : ∀ i, i < j → pv p i = pv q i) (hn : pv p j ≠ pv q j) : cmpP p q = cmpV (pv p j) (pv q j) := by
  rw [cmpP_steps]
  have z : ∀ i, i < j → cmpV (pv p i) (pv q i) = 0 := fun i hi => cmpV_zero.2 (he i hi)
  have nz : cmpV (pv p j) (pv q j) ≠ 0 := fun e => hn (cmpV_zero.1 e)
  match j, hj with
  | 0, _ =>
    have nz : cmpV p.1 q.1 ≠ 0 := nz
    rw [if_pos nz]; rfl
  | 1, _ =>
    have z0 : cmpV p.1 q.1 = 0 := z 0 (by omega)
    have nz : cmpV p.2.1 q.2.1 ≠ 0 := nz
    rw [if_neg (by simp [z0]), if_pos nz]; rfl
  | 2, _ =>
    have z0 : cmpV p.1 q.1 = 0 := z 0 (by omega)
    have z1 : cmpV p.2.1 q.2.1 = 0 := z 1 (by omega)
    have nz : cmpV p.2.2.1 q.2.2.1 ≠ 0 := nz
    rw [if_neg (by simp [z0]), if_neg (by simp [z1]), if_pos nz]; rfl
  | 3, _ =>
    have z0 : cmpV p.1 q.1 = 0 := z 0 (by omega)
    have z1 : cmpV p.2.1 q.2.1 = 0 := z 1 (by omega)
    have z2 : cmpV p.2.2.1 q.2.2.1 = 0 := z 2 (by omega)
    rw [if_neg (by simp [z0]), if_neg (by simp [z1]), if_neg (by simp [z2])]; rfl
theorem cmpP_all {p q : Pt} (he : ∀ i, i < 4 → pv p i = pv q i) : cmpP p q = 0 := by
  have : p = q := Prod.ext (he 0 (by omega)) (Prod.ext (he 1 (by omega)) (Prod.ext (he 2 (by omega)) (he 3 (by omega))))
  unfold cmpP
  rw [if_pos this]

set_option maxHeartbeats 1000000 in
theorem cmpf_ok (H : Heap) (b1 b2 : Nat) (x y : Pt × Int) (ro1 ro2 : Bool) (h1 : hget H b1 = some (.cells (prC x) ro1)) (h2 : hget H b2 = some (.cells (prC y) ro2)) :
    NCall Try.prog 20 [.slice (some (b1, 0)) 4 (.fix 4), .slice (some (b2, 0)) 4 (.fix 4), .func (.func 21) [] []] H fun r => r = (.int .i64 (cmpP x.1 y.1), H) := by
  have l1 := hget_some_lt h1
  have l2 := hget_some_lt h2
  refine call_pure E0 mixed t20_ok (by kernel_rfl) trivial ?_
  have hc := fun H a b => cmp_ok H a b
  simp only [t20, vnv] at hc ⊢
  simp (disch := first | omega | (simp only [List.length_append, List.length_cons, List.length_nil, length_hset, length_hkill]; omega)) only [↓fsPre, fsPost, fsCond, fsGen, npick, nbin, nun, nconv, nnilCheck, noff, nidxArr, nidxSl, nfield, npart, nindex, nextract, nlenSl, nlenStr, ncap, mmx, minmax2, nslice, nsliceArr, nbounds, obound, bound, adv, nbits, eqVal, eqCell, eqCells, nfill, lenOfSl, cls, fresults, fresl, fres1, gt_iff_lt, ge_iff_le, reduceCtorEq, Nat.reduceAdd, Nat.reduceMul, Nat.reduceSub, Nat.reduceLT, Nat.reduceLeDiff, Nat.reduceEqDiff, Nat.reduceBEq, Nat.reduceBNe, Int.reduceLT, Int.reduceLE, Int.reduceEq, Int.reduceNe, Int.reduceAdd, Int.reduceSub, Int.reduceNeg, Int.reduceToNat, Int.reduceMul, ↓reduceIte, Int.reduceGT, Int.reduceGE]
  refine wloop (fun j F h => F 0 = .slice (some (b1, 0)) 4 (.fix 4) ∧ F 1 = .slice (some (b2, 0)) 4 (.fix 4) ∧ F 2 = .func (.func 21) [] [] ∧ F 11 = .slice (some (b1, 0)) 4 (.fix 4) ∧ F 12 = .int .i64 4 ∧ F 13 = .int .i64 j ∧ (∀ i, i < j → pv x.1 i = pv y.1 i) ∧ ∃ L, h = H ++ L) 4 ?_ ?_ ?_
  · simp (disch := first | omega | (simp only [List.length_append, List.length_cons, List.length_nil, length_hset, length_hkill]; omega)) only [↓fsPre, fsPost, fsCond, fsGen, npick, nbin, nun, nconv, nnilCheck, noff, nidxArr, nidxSl, nfield, npart, nindex, nextract, nlenSl, nlenStr, ncap, mmx, minmax2, nslice, nsliceArr, nbounds, obound, bound, adv, nbits, eqVal, eqCell, eqCells, nfill, lenOfSl, cls, fresults, fresl, fres1, gt_iff_lt, ge_iff_le, reduceCtorEq, Nat.reduceAdd, Nat.reduceMul, Nat.reduceSub, Nat.reduceLT, Nat.reduceLeDiff, Nat.reduceEqDiff, Nat.reduceBEq, Nat.reduceBNe, Int.reduceLT, Int.reduceLE, Int.reduceEq, Int.reduceNe, Int.reduceAdd, Int.reduceSub, Int.reduceNeg, Int.reduceToNat, Int.reduceMul, ↓reduceIte, Int.reduceGT, Int.reduceGE]
    exact ⟨fun i hi => absurd hi (Nat.not_lt_zero i), [], by simp⟩
  · rintro j F h hj ⟨f0, f1, f2, f11, f12, f13, he, L, rfl⟩
    have c1 := prC_cut x hj
    have c2 := prC_cut y hj
    simp (disch := first | omega | (simp only [List.length_append, List.length_cons, List.length_nil, length_hset, length_hkill]; omega)) only [↓fsPre, fsPost, fsCond, fsGen, npick, nnilCheck, noff, nidxArr, nidxSl, nfield, npart, nindex, nextract, nlenSl, nlenStr, ncap, mmx, minmax2, nslice, nsliceArr, nbounds, obound, bound, adv, eqVal, eqCells, nfill, lenOfSl, cls, fresults, fresl, fres1, gt_iff_lt, ge_iff_le, nb_one, nb_flat, nb_cells, nb_and, nb_and_c, nb_c_and, nb_or, nb_or_c, nb_c_or, nb_xor, nb_xor_c, nb_c_xor, nb_andNot, nb_compl, nb_add, nb_sub, nb_shl, nb_shr, nb_c_shl, nb_eql, nb_neq, nb_eql_c, nb_neq_c, nb_lss, nb_geq_c, nb_conv8, nb_convi, eqCell_nb, bitsC_length, bitsC_get, bitsC_splice, bitsC_cut, bitsC_one, bitsC_flat, bitsC_splice_all, bit_ofInt, toNat_add_c, nb_zero, fill_bits, v_i64_add, v_i64_sub, v_i64_mul, v_i64_quo, v_i64_rem, v_i64_eql, v_i64_neq, v_i64_lss, v_i64_leq, v_i64_gtr, v_i64_geq, v_i64_and, v_i64_or, v_i64_xor, v_i64_andNot, v_i64_shl, v_i64_shr, v_i64_neg, v_u8_add, v_u8_sub, v_u8_mul, v_u8_quo, v_u8_rem, v_u8_eql, v_u8_neq, v_u8_lss, v_u8_leq, v_u8_gtr, v_u8_geq, v_u8_and, v_u8_or, v_u8_xor, v_u8_andNot, v_u8_shl, v_u8_shr, v_u8_neg, v_eqc_bool, v_eqc_int, v_eqc_str, v_not, nbool_undef, guardK_none, v_str_eql, v_str_neq, v_conv_i64_i64, v_conv_i64_u8, v_conv_u8_i64, v_conv_u8_u8, v_conv_u64_i64, v_conv_u64_u8, reduceCtorEq, Nat.reduceAdd, Nat.reduceMul, Nat.reduceSub, Nat.reduceLT, Nat.reduceLeDiff, Nat.reduceEqDiff, Nat.reduceBEq, Nat.reduceBNe, Int.reduceLT, Int.reduceLE, Int.reduceEq, Int.reduceNe, Int.reduceAdd, Int.reduceSub, Int.reduceNeg, Int.reduceToNat, Int.reduceMul, ↓reduceIte, Int.reduceGT, Int.reduceGE, f0, f1, f2, f11, f12, f13, h1, h2, c1, c2, nb_one]
    refine callT_one (hc _ _ _) rfl ?_
    simp (disch := first | omega | (simp only [List.length_append, List.length_cons, List.length_nil, length_hset, length_hkill]; omega)) only [↓fsPre, fsPost, fsCond, fsGen, npick, nbin, nun, nconv, nnilCheck, noff, nidxArr, nidxSl, nfield, npart, nindex, nextract, nlenSl, nlenStr, ncap, mmx, minmax2, nslice, nsliceArr, nbounds, obound, bound, adv, nbits, eqVal, eqCell, eqCells, nfill, lenOfSl, cls, fresults, fresl, fres1, gt_iff_lt, ge_iff_le, reduceCtorEq, Nat.reduceAdd, Nat.reduceMul, Nat.reduceSub, Nat.reduceLT, Nat.reduceLeDiff, Nat.reduceEqDiff, Nat.reduceBEq, Nat.reduceBNe, Int.reduceLT, Int.reduceLE, Int.reduceEq, Int.reduceNe, Int.reduceAdd, Int.reduceSub, Int.reduceNeg, Int.reduceToNat, Int.reduceMul, ↓reduceIte, Int.reduceGT, Int.reduceGE, f0, f1, f2, f11, f12, f13]
    refine condK_dec (fun hz => ?_) (fun hz => ?_)
    · simp (disch := first | omega | (simp only [List.length_append, List.length_cons, List.length_nil, length_hset, length_hkill]; omega)) only [↓fsPre, fsPost, fsCond, fsGen, npick, nbin, nun, nconv, nnilCheck, noff, nidxArr, nidxSl, nfield, npart, nindex, nextract, nlenSl, nlenStr, ncap, mmx, minmax2, nslice, nsliceArr, nbounds, obound, bound, adv, nbits, eqVal, eqCell, eqCells, nfill, lenOfSl, cls, fresults, fresl, fres1, gt_iff_lt, ge_iff_le, reduceCtorEq, Nat.reduceAdd, Nat.reduceMul, Nat.reduceSub, Nat.reduceLT, Nat.reduceLeDiff, Nat.reduceEqDiff, Nat.reduceBEq, Nat.reduceBNe, Int.reduceLT, Int.reduceLE, Int.reduceEq, Int.reduceNe, Int.reduceAdd, Int.reduceSub, Int.reduceNeg, Int.reduceToNat, Int.reduceMul, ↓reduceIte, Int.reduceGT, Int.reduceGE, f0, f1, f2, f11, f12, f13]
      exact ⟨by rw [cmpP_at hj he fun e => hz (cmpV_zero.2 e)], _, rfl⟩
    · simp (disch := first | omega | (simp only [List.length_append, List.length_cons, List.length_nil, length_hset, length_hkill]; omega)) only [↓fsPre, fsPost, fsCond, fsGen, npick, nbin, nun, nconv, nnilCheck, noff, nidxArr, nidxSl, nfield, npart, nindex, nextract, nlenSl, nlenStr, ncap, mmx, minmax2, nslice, nsliceArr, nbounds, obound, bound, adv, nbits, eqVal, eqCell, eqCells, nfill, lenOfSl, cls, fresults, fresl, fres1, gt_iff_lt, ge_iff_le, reduceCtorEq, Nat.reduceAdd, Nat.reduceMul, Nat.reduceSub, Nat.reduceLT, Nat.reduceLeDiff, Nat.reduceEqDiff, Nat.reduceBEq, Nat.reduceBNe, Int.reduceLT, Int.reduceLE, Int.reduceEq, Int.reduceNe, Int.reduceAdd, Int.reduceSub, Int.reduceNeg, Int.reduceToNat, Int.reduceMul, ↓reduceIte, Int.reduceGT, Int.reduceGE, f0, f1, f2, f11, f12, f13]
      have hz := cmpV_zero.1 (Classical.not_not.1 hz)
      refine ⟨fun i hi => ?_, _, rfl⟩
      by_cases h3 : i = j
      · subst h3; exact hz
      · exact he i (by omega)
  · rintro F h ⟨f0, f1, f2, f11, f12, f13, he, L, rfl⟩
    simp (disch := first | omega | (simp only [List.length_append, List.length_cons, List.length_nil, length_hset, length_hkill]; omega)) only [↓fsPre, fsPost, fsCond, fsGen, npick, nbin, nun, nconv, nnilCheck, noff, nidxArr, nidxSl, nfield, npart, nindex, nextract, nlenSl, nlenStr, ncap, mmx, minmax2, nslice, nsliceArr, nbounds, obound, bound, adv, nbits, eqVal, eqCell, eqCells, nfill, lenOfSl, cls, fresults, fresl, fres1, gt_iff_lt, ge_iff_le, reduceCtorEq, Nat.reduceAdd, Nat.reduceMul, Nat.reduceSub, Nat.reduceLT, Nat.reduceLeDiff, Nat.reduceEqDiff, Nat.reduceBEq, Nat.reduceBNe, Int.reduceLT, Int.reduceLE, Int.reduceEq, Int.reduceNe, Int.reduceAdd, Int.reduceSub, Int.reduceNeg, Int.reduceToNat, Int.reduceMul, ↓reduceIte, Int.reduceGT, Int.reduceGE, f0, f1, f2, f11, f12, f13]
    exact ⟨by rw [cmpP_all he], _, rfl⟩

theorem clos_ok (H : Heap) (x y : Pt × Int) : NCall Try.prog 19 [.agg (prC x), .agg (prC y)] H fun r => r = (.int .i64 (cmpP x.1 y.1), H) := by
  refine call_pure E0 mixed t19_ok (by kernel_rfl) trivial ?_
  have o1 : (prC x).all NV.one = true := rfl
  have o2 : (prC y).all NV.one = true := rfl
  simp only [t19]
  simp (disch := first | omega | (simp only [List.length_append, List.length_cons, List.length_nil, length_hset, length_hkill]; omega)) only [↓fsPre, fsPost, fsCond, fsGen, npick, nbin, nun, nconv, nnilCheck, noff, nidxArr, nidxSl, nfield, npart, nindex, nextract, nlenSl, nlenStr, ncap, mmx, minmax2, nslice, nsliceArr, nbounds, obound, bound, adv, nbits, eqVal, eqCell, eqCells, nfill, lenOfSl, cls, fresults, fresl, fres1, gt_iff_lt, ge_iff_le, reduceCtorEq, Nat.reduceAdd, Nat.reduceMul, Nat.reduceSub, Nat.reduceLT, Nat.reduceLeDiff, Nat.reduceEqDiff, Nat.reduceBEq, Nat.reduceBNe, Int.reduceLT, Int.reduceLE, Int.reduceEq, Int.reduceNe, Int.reduceAdd, Int.reduceSub, Int.reduceNeg, Int.reduceToNat, Int.reduceMul, ↓reduceIte, Int.reduceGT, Int.reduceGE, o1, o2]
  refine callDT_one (cmpf_ok _ (H.length) (H.length + 1) x y false false (by simp (disch := first | omega | (simp only [List.length_append, List.length_cons, List.length_nil, length_hset, length_hkill]; omega)) only [↓fsPre, fsPost, fsCond, fsGen, npick, nbin, nun, nconv, nnilCheck, noff, nidxArr, nidxSl, nfield, npart, nindex, nextract, nlenSl, nlenStr, ncap, mmx, minmax2, nslice, nsliceArr, nbounds, obound, bound, adv, nbits, eqVal, eqCell, eqCells, nfill, lenOfSl, cls, fresults, fresl, fres1, gt_iff_lt, ge_iff_le, reduceCtorEq, Nat.reduceAdd, Nat.reduceMul, Nat.reduceSub, Nat.reduceLT, Nat.reduceLeDiff, Nat.reduceEqDiff, Nat.reduceBEq, Nat.reduceBNe, Int.reduceLT, Int.reduceLE, Int.reduceEq, Int.reduceNe, Int.reduceAdd, Int.reduceSub, Int.reduceNeg, Int.reduceToNat, Int.reduceMul, ↓reduceIte, Int.reduceGT, Int.reduceGE]) (by simp (disch := first | omega | (simp only [List.length_append, List.length_cons, List.length_nil, length_hset, length_hkill]; omega)) only [↓fsPre, fsPost, fsCond, fsGen, npick, nbin, nun, nconv, nnilCheck, noff, nidxArr, nidxSl, nfield, npart, nindex, nextract, nlenSl, nlenStr, ncap, mmx, minmax2, nslice, nsliceArr, nbounds, obound, bound, adv, nbits, eqVal, eqCell, eqCells, nfill, lenOfSl, cls, fresults, fresl, fres1, gt_iff_lt, ge_iff_le, reduceCtorEq, Nat.reduceAdd, Nat.reduceMul, Nat.reduceSub, Nat.reduceLT, Nat.reduceLeDiff, Nat.reduceEqDiff, Nat.reduceBEq, Nat.reduceBNe, Int.reduceLT, Int.reduceLE, Int.reduceEq, Int.reduceNe, Int.reduceAdd, Int.reduceSub, Int.reduceNeg, Int.reduceToNat, Int.reduceMul, ↓reduceIte, Int.reduceGT, Int.reduceGE])) rfl ?_
  simp (disch := first | omega | (simp only [List.length_append, List.length_cons, List.length_nil, length_hset, length_hkill]; omega)) only [↓fsPre, fsPost, fsCond, fsGen, npick, nbin, nun, nconv, nnilCheck, noff, nidxArr, nidxSl, nfield, npart, nindex, nextract, nlenSl, nlenStr, ncap, mmx, minmax2, nslice, nsliceArr, nbounds, obound, bound, adv, nbits, eqVal, eqCell, eqCells, nfill, lenOfSl, cls, fresults, fresl, fres1, gt_iff_lt, ge_iff_le, reduceCtorEq, Nat.reduceAdd, Nat.reduceMul, Nat.reduceSub, Nat.reduceLT, Nat.reduceLeDiff, Nat.reduceEqDiff, Nat.reduceBEq, Nat.reduceBNe, Int.reduceLT, Int.reduceLE, Int.reduceEq, Int.reduceNe, Int.reduceAdd, Int.reduceSub, Int.reduceNeg, Int.reduceToNat, Int.reduceMul, ↓reduceIte, Int.reduceGT, Int.reduceGE]
  exact ⟨_, rfl⟩

theorem ltOf_pr (x y : Pt × Int) : ltOf (fun x y : Pt × Int => cmpP x.1 y.1) x y = decide (ptN x.1 < ptN y.1) := by
  unfold ltOf
  rw [decide_eq_decide]
  exact cmpP_neg
theorem swo_pr : Go.Sort.SWO (ltOf fun x y : Pt × Int => cmpP x.1 y.1) where
  irrefl x := by rw [ltOf_pr]; simp
  trans x y z h1 h2 := by rw [ltOf_pr] at *; simp at *; omega
  ntrans x y z h1 h2 := by rw [ltOf_pr] at *; simp at *; omega
theorem prC_plain (x : Pt × Int) : (prC x).all plainV = true := rfl

/-- The sort of pairs: the list that is sorted. -/
theorem sort_ok (H : Heap) (b : Nat) (c : Cap) (l m : List (Pt × Int)) (hb : hget H b = some (.cells (l.flatMap prC) false)) (hm : SortedP m) (hp : m.Perm l) (hl : l.length < 1000000) :
    NCall Try.prog 18 [.slice (some (b, 0)) l.length c, .func (.func 19) [] []] H fun r => r = (.tup [], hset H b (.cells (m.flatMap prC) false)) := by
  refine NCall.of t18_ok.1 ?_ (by rintro q rfl; simp)
  have key := nfun_sort (P := Try.prog) (f := 18) (g := 19) (encN := prC) (k := 9) prC_length prC_plain (fun x y => cmpP x.1 y.1)
    (fun blk off cap d w hc hH hblk hsz => AnyQ.slices_SortFunc Try.sortL 9 Try.isAgg38 Try.sizeOf38 (encV prC) (fun _ => rfl) (fun x v hv => by
      simp only [encV, prC, ptC, List.cons_append, List.nil_append, List.map_cons, List.map_nil, List.mem_cons, List.not_mem_nil, or_false] at hv
      rcases hv with rfl | rfl | rfl | rfl | rfl | rfl | rfl | rfl | rfl <;> rfl) (fun x y => cmpP x.1 y.1) swo_pr 19 #[] blk off cap d w (enters_of Try.func19 (by kernel_rfl) rfl) hc hH hblk hsz)
    (fun x y => by
      have := (clos_ok [] x y).2
      exact fun C φ w vargs hv r => Calls.mono (this C φ w vargs hv r) fun ex w' ⟨v, e, nv, k, φ', hq, rest⟩ => ⟨v, e, nv, k, φ', by rw [hq.1], rest⟩) H b c l hb (by omega)
  refine fun C φ w vargs hv r => Calls.mono (key C φ w vargs hv r) ?_
  rintro ex w' ⟨v, e, nv, k, φ', ⟨l', h1, h2, h3⟩, rest⟩
  refine ⟨v, e, nv, k, φ', ?_, rest⟩
  have hnd : (l'.map (·.1)).Nodup := (List.Perm.map _ (h1.trans hp.symm)).nodup_iff.2 hm.nodup
  have hs : SortedP l' := by
    unfold SortedP
    unfold List.Nodup at hnd
    rw [List.pairwise_map] at hnd
    rw [List.pairwise_iff_getElem] at h2 hnd ⊢
    intro i j hi hj hij
    have e1 := h2 i j hi hj hij
    have e2 := hnd i j hi hj hij
    rw [ltOf_pr] at e1
    simp only [decide_eq_false_iff_not] at e1
    have e3 : ptN l'[i].1 ≠ ptN l'[j].1 := fun e => e2 (ptN_inj e)
    omega
  rw [h3, SortedP.eq hs hm (h1.trans hp.symm)]

def saysUnit : Res (NV × Heap) → Bool
  | .ok (.tup [], _) => true
  | _ => false
/-- A closed call that answers nothing, run in the kernel. -/
theorem call_run0 {P : Program} {tbl : Nat → Option NFn} (hm : P.follows .mixedOrders = true) (ht : ∀ f fn, tbl f = some fn → goodFn P f = true ∧ cfn P f = fn) {N D f : Nat} {args : List NV} (ha : NV.lows 0 args) (e : saysUnit (nprog tbl N D f args []) = true) (h : Heap) :
    NCall P f args h (fun q => q = (.tup [], h)) := by
  have h1 : (nprog tbl N D f args []).all fun q => q.1 = .tup [] := by
    revert e
    generalize nprog tbl N D f args [] = r
    intro e
    cases r with
    | ok q =>
      obtain ⟨v, k⟩ := q
      cases v with
      | tup l => cases l with
        | nil => rfl
        | cons a l => cases e
      | _ => cases e
    | _ => cases e
  obtain ⟨hg, t⟩ := nprog_ok hm ht D f args [] _ h1
  refine NCall.of hg (NFun.anywhere ha (v := .tup []) trivial ?_ h) (by rintro q rfl; exact Nat.le_refl _)
  intro C φ w vargs hv r
  refine Calls.mono (t C φ w vargs hv r) ?_
  rintro ex w' ⟨v, rfl, nv, k, φ', hq, rest⟩
  exact ⟨v, rfl, nv, k, φ', hq.1, rest⟩
theorem sort_nil (H : Heap) : NCall Try.prog 18 [.slice none 0 (.fix 0), .func (.func 19) [] []] H fun r => r = (.tup [], H) :=
  call_run0 mixed (lk_ok tab_ok) (N := 200) (D := 20) (args := [.slice none 0 (.fix 0), .func (.func 19) [] []]) ⟨trivial, ⟨trivial, trivial⟩, trivial⟩ (by kernel_rfl) H
end Go.Proofs
