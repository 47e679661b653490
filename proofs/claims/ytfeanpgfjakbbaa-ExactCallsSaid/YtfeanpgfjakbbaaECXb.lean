/- Exact: the index (program). -/
import Derived.Test.YtfeanpgfjakbbaaECXa
set_option linter.unusedSimpArgs false
set_option linter.unusedVariables false
set_option maxRecDepth 10000
namespace Go.Proofs
open Go.Ns

noncomputable def E1 : Env := ⟨Try.prog, failS, failS_ok _, false⟩
theorem E1_det : E1.det = false := rfl
def iv (n : Int) : NV := .int .i64 n
/-- An index whose struct lies in block 'p' and whose map in block 'm'. -/
structure IxAt (H : Heap) (p m : Nat) (M : List (Pt × Int)) : Prop where
  hp : hget H p = some (.cells [.map (some m)] false)
  hm : MapAt ptV iv H m M
  ne : p ≠ m
theorem IxAt.mono {H h : Heap} {p m : Nat} {M : List (Pt × Int)} (x : IxAt H p m M) (e1 : hget h p = hget H p) (e2 : hget h m = hget H m) : IxAt h p m M := ⟨by rw [e1]; exact x.hp, x.hm.mono e2, x.ne⟩
theorem ptC_cut (k : Pt) : cut (ptC k) 0 8 = some (ptC k) := rfl
theorem ptC_one (k : Pt) : (ptC k).all NV.one = true := rfl

theorem xnew_ok (H : Heap) : NCall Try.prog 6 [] H fun r => r = (.ptr (some (H.length + 1, 0)), H ++ [some (.map [] 0), some (.cells [.map (some H.length)] false)]) := by
  refine call_of E0 mixed t6_ok (by kernel_rfl) (by rintro q rfl; simp) ?_
  simp only [t6]
  simp (disch := first | omega | (simp only [List.length_append, List.length_cons, List.length_nil, length_hset, length_hkill]; omega)) only [↓fsPre, fsPost, fsCond, fsGen, npick, nbin, nun, nconv, nnilCheck, noff, nidxArr, nidxSl, nfield, npart, nindex, nextract, nlenSl, nlenStr, ncap, mmx, minmax2, nslice, nsliceArr, nbounds, obound, bound, adv, nbits, eqVal, eqCell, eqCells, nfill, lenOfSl, cls, fresults, fresl, fres1, gt_iff_lt, ge_iff_le, reduceCtorEq, Nat.reduceAdd, Nat.reduceMul, Nat.reduceSub, Nat.reduceLT, Nat.reduceLeDiff, Nat.reduceEqDiff, Nat.reduceBEq, Nat.reduceBNe, Int.reduceLT, Int.reduceLE, Int.reduceEq, Int.reduceNe, Int.reduceAdd, Int.reduceSub, Int.reduceNeg, Int.reduceToNat, Int.reduceMul, ↓reduceIte, Int.reduceGT, Int.reduceGE]
theorem IxAt.new (H : Heap) : IxAt (H ++ [some (.map [] 0), some (.cells [.map (some H.length)] false)]) (H.length + 1) H.length [] :=
  ⟨by simp (disch := first | omega | (simp only [List.length_append, List.length_cons, List.length_nil, length_hset, length_hkill]; omega)) only [↓fsPre, fsPost, fsCond, fsGen, npick, nbin, nun, nconv, nnilCheck, noff, nidxArr, nidxSl, nfield, npart, nindex, nextract, nlenSl, nlenStr, ncap, mmx, minmax2, nslice, nsliceArr, nbounds, obound, bound, adv, nbits, eqVal, eqCell, eqCells, nfill, lenOfSl, cls, fresults, fresl, fres1, gt_iff_lt, ge_iff_le, reduceCtorEq, Nat.reduceAdd, Nat.reduceMul, Nat.reduceSub, Nat.reduceLT, Nat.reduceLeDiff, Nat.reduceEqDiff, Nat.reduceBEq, Nat.reduceBNe, Int.reduceLT, Int.reduceLE, Int.reduceEq, Int.reduceNe, Int.reduceAdd, Int.reduceSub, Int.reduceNeg, Int.reduceToNat, Int.reduceMul, ↓reduceIte, Int.reduceGT, Int.reduceGE], ⟨[], 0, by simp (disch := first | omega | (simp only [List.length_append, List.length_cons, List.length_nil, length_hset, length_hkill]; omega)) only [↓fsPre, fsPost, fsCond, fsGen, npick, nbin, nun, nconv, nnilCheck, noff, nidxArr, nidxSl, nfield, npart, nindex, nextract, nlenSl, nlenStr, ncap, mmx, minmax2, nslice, nsliceArr, nbounds, obound, bound, adv, nbits, eqVal, eqCell, eqCells, nfill, lenOfSl, cls, fresults, fresl, fres1, gt_iff_lt, ge_iff_le, reduceCtorEq, Nat.reduceAdd, Nat.reduceMul, Nat.reduceSub, Nat.reduceLT, Nat.reduceLeDiff, Nat.reduceEqDiff, Nat.reduceBEq, Nat.reduceBNe, Int.reduceLT, Int.reduceLE, Int.reduceEq, Int.reduceNe, Int.reduceAdd, Int.reduceSub, Int.reduceNeg, Int.reduceToNat, Int.reduceMul, ↓reduceIte, Int.reduceGT, Int.reduceGE], rfl, List.nodup_nil, by simp⟩, by omega⟩

theorem xput_new (H : Heap) (p m : Nat) (M : List (Pt × Int)) (x : IxAt H p m M) (k : Pt) (i : Int) (hk : k ∉ M.map (·.1)) :
    DCall Try.prog 7 [.ptr (some (p, 0)), .agg (ptC k), .int .i64 i] H fun r => r.1 = .bool true ∧ H.length ≤ r.2.length ∧ (∀ b, b < H.length → b ≠ m → hget r.2 b = hget H b) ∧ IxAt r.2 p m (M ++ [(k, i)]) := by
  have lp := hget_some_lt x.hp
  have lm := x.hm.lt
  refine call_det E0 rfl mixed t7_ok (by kernel_rfl) (by rintro q ⟨_, h, _⟩; exact h) ?_
  have hf : findL M k 0 = none := findL_none.2 hk
  have hl := fun L => ((x.hm.mono (h' := H ++ L) (hget_appl lm)).look keyPt k (.int .i64 0) true)
  have hu := (x.hm.mono (h' := H ++ [some (.cells (ptC k) false)]) (hget_appl lm)).put keyPt k i
  simp only [hf, Option.map_none, lookupRes, ptV, k8, if_true, putL, iv] at hl hu
  obtain ⟨y, hu1, hu2⟩ := hu
  have hp := x.hp
  simp only [t7]
  simp (disch := first | omega | (simp only [List.length_append, List.length_cons, List.length_nil, length_hset, length_hkill]; omega)) only [↓fsPre, fsPost, fsCond, fsGen, npick, nbin, nun, nconv, nnilCheck, noff, nidxArr, nidxSl, nfield, npart, nindex, nextract, nlenSl, nlenStr, ncap, mmx, minmax2, nslice, nsliceArr, nbounds, obound, bound, adv, nbits, eqVal, eqCell, eqCells, nfill, lenOfSl, cls, fresults, fresl, fres1, gt_iff_lt, ge_iff_le, reduceCtorEq, Nat.reduceAdd, Nat.reduceMul, Nat.reduceSub, Nat.reduceLT, Nat.reduceLeDiff, Nat.reduceEqDiff, Nat.reduceBEq, Nat.reduceBNe, Int.reduceLT, Int.reduceLE, Int.reduceEq, Int.reduceNe, Int.reduceAdd, Int.reduceSub, Int.reduceNeg, Int.reduceToNat, Int.reduceMul, ↓reduceIte, Int.reduceGT, Int.reduceGE, ptC_one, ptC_cut, hp, hl, hu1]
  refine ⟨fun b hb hne => by simp (disch := first | omega | (simp only [List.length_append, List.length_cons, List.length_nil, length_hset, length_hkill]; omega)) only [↓fsPre, fsPost, fsCond, fsGen, npick, nbin, nun, nconv, nnilCheck, noff, nidxArr, nidxSl, nfield, npart, nindex, nextract, nlenSl, nlenStr, ncap, mmx, minmax2, nslice, nsliceArr, nbounds, obound, bound, adv, nbits, eqVal, eqCell, eqCells, nfill, lenOfSl, cls, fresults, fresl, fres1, gt_iff_lt, ge_iff_le, reduceCtorEq, Nat.reduceAdd, Nat.reduceMul, Nat.reduceSub, Nat.reduceLT, Nat.reduceLeDiff, Nat.reduceEqDiff, Nat.reduceBEq, Nat.reduceBNe, Int.reduceLT, Int.reduceLE, Int.reduceEq, Int.reduceNe, Int.reduceAdd, Int.reduceSub, Int.reduceNeg, Int.reduceToNat, Int.reduceMul, ↓reduceIte, Int.reduceGT, Int.reduceGE], ?_, ?_, x.ne⟩
  · rw [hget_appl (by rw [length_hset]; exact lp), hget_hset_ne (Ne.symm x.ne)]; exact hp
  · rw [← hset_appl lm]; exact hu2
theorem xput_old (H : Heap) (p m : Nat) (M : List (Pt × Int)) (x : IxAt H p m M) (k : Pt) (i : Int) (hk : k ∈ M.map (·.1)) :
    NCall Try.prog 7 [.ptr (some (p, 0)), .agg (ptC k), .int .i64 i] H fun r => r = (.bool false, H) := by
  have lp := hget_some_lt x.hp
  have lm := x.hm.lt
  refine call_pure E0 mixed t7_ok (by kernel_rfl) trivial ?_
  obtain ⟨w, hf⟩ : ∃ w, findL M k 0 = some w := by
    cases h : findL M k 0 with
    | none => exact absurd hk (findL_none.1 h)
    | some w => exact ⟨w, rfl⟩
  have hl := fun L => ((x.hm.mono (h' := H ++ L) (hget_appl lm)).look keyPt k (.int .i64 0) true)
  simp only [hf, Option.map_some, lookupRes, ptV, k8, if_true, iv] at hl
  have hp := x.hp
  simp only [t7]
  simp (disch := first | omega | (simp only [List.length_append, List.length_cons, List.length_nil, length_hset, length_hkill]; omega)) only [↓fsPre, fsPost, fsCond, fsGen, npick, nbin, nun, nconv, nnilCheck, noff, nidxArr, nidxSl, nfield, npart, nindex, nextract, nlenSl, nlenStr, ncap, mmx, minmax2, nslice, nsliceArr, nbounds, obound, bound, adv, nbits, eqVal, eqCell, eqCells, nfill, lenOfSl, cls, fresults, fresl, fres1, gt_iff_lt, ge_iff_le, reduceCtorEq, Nat.reduceAdd, Nat.reduceMul, Nat.reduceSub, Nat.reduceLT, Nat.reduceLeDiff, Nat.reduceEqDiff, Nat.reduceBEq, Nat.reduceBNe, Int.reduceLT, Int.reduceLE, Int.reduceEq, Int.reduceNe, Int.reduceAdd, Int.reduceSub, Int.reduceNeg, Int.reduceToNat, Int.reduceMul, ↓reduceIte, Int.reduceGT, Int.reduceGE, ptC_one, ptC_cut, hp, hl]
  exact ⟨_, rfl⟩
/-- What a look-up answers. -/
def getL (M : List (Pt × Int)) (k : Pt) : Int × Bool := match findL M k 0 with | some (_, i) => (i, true) | none => (0, false)
theorem xget_ok (H : Heap) (p m : Nat) (M : List (Pt × Int)) (x : IxAt H p m M) (k : Pt) :
    NCall Try.prog 14 [.ptr (some (p, 0)), .agg (ptC k)] H fun r => r = (.tup [.int .i64 (getL M k).1, .bool (getL M k).2], H) := by
  have lp := hget_some_lt x.hp
  have lm := x.hm.lt
  refine call_pure E0 mixed t14_ok (by kernel_rfl) ⟨trivial, trivial, trivial⟩ ?_
  have hl := fun L => ((x.hm.mono (h' := H ++ L) (hget_appl lm)).look keyPt k (.int .i64 0) true)
  have hp := x.hp
  simp only [t14]
  unfold getL
  cases hf : findL M k 0 with
  | none =>
    simp only [hf, Option.map_none, lookupRes, ptV, k8, if_true] at hl
    simp (disch := first | omega | (simp only [List.length_append, List.length_cons, List.length_nil, length_hset, length_hkill]; omega)) only [↓fsPre, fsPost, fsCond, fsGen, npick, nbin, nun, nconv, nnilCheck, noff, nidxArr, nidxSl, nfield, npart, nindex, nextract, nlenSl, nlenStr, ncap, mmx, minmax2, nslice, nsliceArr, nbounds, obound, bound, adv, nbits, eqVal, eqCell, eqCells, nfill, lenOfSl, cls, fresults, fresl, fres1, gt_iff_lt, ge_iff_le, reduceCtorEq, Nat.reduceAdd, Nat.reduceMul, Nat.reduceSub, Nat.reduceLT, Nat.reduceLeDiff, Nat.reduceEqDiff, Nat.reduceBEq, Nat.reduceBNe, Int.reduceLT, Int.reduceLE, Int.reduceEq, Int.reduceNe, Int.reduceAdd, Int.reduceSub, Int.reduceNeg, Int.reduceToNat, Int.reduceMul, ↓reduceIte, Int.reduceGT, Int.reduceGE, ptC_one, ptC_cut, hp, hl]
    exact ⟨_, rfl⟩
  | some w =>
    simp only [hf, Option.map_some, lookupRes, ptV, k8, if_true, iv] at hl
    simp (disch := first | omega | (simp only [List.length_append, List.length_cons, List.length_nil, length_hset, length_hkill]; omega)) only [↓fsPre, fsPost, fsCond, fsGen, npick, nbin, nun, nconv, nnilCheck, noff, nidxArr, nidxSl, nfield, npart, nindex, nextract, nlenSl, nlenStr, ncap, mmx, minmax2, nslice, nsliceArr, nbounds, obound, bound, adv, nbits, eqVal, eqCell, eqCells, nfill, lenOfSl, cls, fresults, fresl, fres1, gt_iff_lt, ge_iff_le, reduceCtorEq, Nat.reduceAdd, Nat.reduceMul, Nat.reduceSub, Nat.reduceLT, Nat.reduceLeDiff, Nat.reduceEqDiff, Nat.reduceBEq, Nat.reduceBNe, Int.reduceLT, Int.reduceLE, Int.reduceEq, Int.reduceNe, Int.reduceAdd, Int.reduceSub, Int.reduceNeg, Int.reduceToNat, Int.reduceMul, ↓reduceIte, Int.reduceGT, Int.reduceGE, ptC_one, ptC_cut, hp, hl]
    exact ⟨_, rfl⟩
theorem xrem_there (H : Heap) (p m : Nat) (M : List (Pt × Int)) (x : IxAt H p m M) (k : Pt) (hk : k ∈ M.map (·.1)) :
    DCall Try.prog 9 [.ptr (some (p, 0)), .agg (ptC k)] H fun r => r.1 = .bool true ∧ H.length ≤ r.2.length ∧ (∀ b, b < H.length → b ≠ m → hget r.2 b = hget H b) ∧ IxAt r.2 p m (delL M k) := by
  have lp := hget_some_lt x.hp
  have lm := x.hm.lt
  refine call_det E0 rfl mixed t9_ok (by kernel_rfl) (by rintro q ⟨_, h, _⟩; exact h) ?_
  obtain ⟨w, hf⟩ : ∃ w, findL M k 0 = some w := by
    cases h : findL M k 0 with
    | none => exact absurd hk (findL_none.1 h)
    | some w => exact ⟨w, rfl⟩
  have hg : getL M k = (w.2, true) := by unfold getL; rw [hf]
  have hd := (x.hm.mono (h' := H ++ [some (.cells (ptC k) false)]) (hget_appl lm)).del keyPt k
  simp only [ptV, k8] at hd
  obtain ⟨y, hd1, hd2⟩ := hd
  have hp := x.hp
  simp only [t9]
  simp (disch := first | omega | (simp only [List.length_append, List.length_cons, List.length_nil, length_hset, length_hkill]; omega)) only [↓fsPre, fsPost, fsCond, fsGen, npick, nbin, nun, nconv, nnilCheck, noff, nidxArr, nidxSl, nfield, npart, nindex, nextract, nlenSl, nlenStr, ncap, mmx, minmax2, nslice, nsliceArr, nbounds, obound, bound, adv, nbits, eqVal, eqCell, eqCells, nfill, lenOfSl, cls, fresults, fresl, fres1, gt_iff_lt, ge_iff_le, reduceCtorEq, Nat.reduceAdd, Nat.reduceMul, Nat.reduceSub, Nat.reduceLT, Nat.reduceLeDiff, Nat.reduceEqDiff, Nat.reduceBEq, Nat.reduceBNe, Int.reduceLT, Int.reduceLE, Int.reduceEq, Int.reduceNe, Int.reduceAdd, Int.reduceSub, Int.reduceNeg, Int.reduceToNat, Int.reduceMul, ↓reduceIte, Int.reduceGT, Int.reduceGE, ptC_one, ptC_cut]
  refine callT_one (xget_ok _ p m M (x.mono (hget_appl lp) (hget_appl lm)) k) rfl ?_
  rw [hg]
  simp (disch := first | omega | (simp only [List.length_append, List.length_cons, List.length_nil, length_hset, length_hkill]; omega)) only [↓fsPre, fsPost, fsCond, fsGen, npick, nbin, nun, nconv, nnilCheck, noff, nidxArr, nidxSl, nfield, npart, nindex, nextract, nlenSl, nlenStr, ncap, mmx, minmax2, nslice, nsliceArr, nbounds, obound, bound, adv, nbits, eqVal, eqCell, eqCells, nfill, lenOfSl, cls, fresults, fresl, fres1, gt_iff_lt, ge_iff_le, reduceCtorEq, Nat.reduceAdd, Nat.reduceMul, Nat.reduceSub, Nat.reduceLT, Nat.reduceLeDiff, Nat.reduceEqDiff, Nat.reduceBEq, Nat.reduceBNe, Int.reduceLT, Int.reduceLE, Int.reduceEq, Int.reduceNe, Int.reduceAdd, Int.reduceSub, Int.reduceNeg, Int.reduceToNat, Int.reduceMul, ↓reduceIte, Int.reduceGT, Int.reduceGE, ptC_one, ptC_cut, hp, hd1]
  refine ⟨fun b hb hne => by simp (disch := first | omega | (simp only [List.length_append, List.length_cons, List.length_nil, length_hset, length_hkill]; omega)) only [↓fsPre, fsPost, fsCond, fsGen, npick, nbin, nun, nconv, nnilCheck, noff, nidxArr, nidxSl, nfield, npart, nindex, nextract, nlenSl, nlenStr, ncap, mmx, minmax2, nslice, nsliceArr, nbounds, obound, bound, adv, nbits, eqVal, eqCell, eqCells, nfill, lenOfSl, cls, fresults, fresl, fres1, gt_iff_lt, ge_iff_le, reduceCtorEq, Nat.reduceAdd, Nat.reduceMul, Nat.reduceSub, Nat.reduceLT, Nat.reduceLeDiff, Nat.reduceEqDiff, Nat.reduceBEq, Nat.reduceBNe, Int.reduceLT, Int.reduceLE, Int.reduceEq, Int.reduceNe, Int.reduceAdd, Int.reduceSub, Int.reduceNeg, Int.reduceToNat, Int.reduceMul, ↓reduceIte, Int.reduceGT, Int.reduceGE], ?_, ?_, x.ne⟩
  · rw [hget_appl (by rw [length_hset]; exact lp), hget_hset_ne (Ne.symm x.ne)]; exact hp
  · rw [← hset_appl lm]; exact hd2
theorem xrem_not (H : Heap) (p m : Nat) (M : List (Pt × Int)) (x : IxAt H p m M) (k : Pt) (hk : k ∉ M.map (·.1)) :
    NCall Try.prog 9 [.ptr (some (p, 0)), .agg (ptC k)] H fun r => r = (.bool false, H) := by
  have lp := hget_some_lt x.hp
  have lm := x.hm.lt
  refine call_pure E0 mixed t9_ok (by kernel_rfl) trivial ?_
  have hf : findL M k 0 = none := findL_none.2 hk
  have hg : getL M k = (0, false) := by unfold getL; rw [hf]
  simp only [t9]
  simp (disch := first | omega | (simp only [List.length_append, List.length_cons, List.length_nil, length_hset, length_hkill]; omega)) only [↓fsPre, fsPost, fsCond, fsGen, npick, nbin, nun, nconv, nnilCheck, noff, nidxArr, nidxSl, nfield, npart, nindex, nextract, nlenSl, nlenStr, ncap, mmx, minmax2, nslice, nsliceArr, nbounds, obound, bound, adv, nbits, eqVal, eqCell, eqCells, nfill, lenOfSl, cls, fresults, fresl, fres1, gt_iff_lt, ge_iff_le, reduceCtorEq, Nat.reduceAdd, Nat.reduceMul, Nat.reduceSub, Nat.reduceLT, Nat.reduceLeDiff, Nat.reduceEqDiff, Nat.reduceBEq, Nat.reduceBNe, Int.reduceLT, Int.reduceLE, Int.reduceEq, Int.reduceNe, Int.reduceAdd, Int.reduceSub, Int.reduceNeg, Int.reduceToNat, Int.reduceMul, ↓reduceIte, Int.reduceGT, Int.reduceGE, ptC_one, ptC_cut]
  refine callT_one (xget_ok _ p m M (x.mono (hget_appl lp) (hget_appl lm)) k) rfl ?_
  rw [hg]
  simp (disch := first | omega | (simp only [List.length_append, List.length_cons, List.length_nil, length_hset, length_hkill]; omega)) only [↓fsPre, fsPost, fsCond, fsGen, npick, nbin, nun, nconv, nnilCheck, noff, nidxArr, nidxSl, nfield, npart, nindex, nextract, nlenSl, nlenStr, ncap, mmx, minmax2, nslice, nsliceArr, nbounds, obound, bound, adv, nbits, eqVal, eqCell, eqCells, nfill, lenOfSl, cls, fresults, fresl, fres1, gt_iff_lt, ge_iff_le, reduceCtorEq, Nat.reduceAdd, Nat.reduceMul, Nat.reduceSub, Nat.reduceLT, Nat.reduceLeDiff, Nat.reduceEqDiff, Nat.reduceBEq, Nat.reduceBNe, Int.reduceLT, Int.reduceLE, Int.reduceEq, Int.reduceNe, Int.reduceAdd, Int.reduceSub, Int.reduceNeg, Int.reduceToNat, Int.reduceMul, ↓reduceIte, Int.reduceGT, Int.reduceGE, ptC_one, ptC_cut]
  exact ⟨_, rfl⟩
theorem xlen_ok (H : Heap) (p m : Nat) (M : List (Pt × Int)) (x : IxAt H p m M) : NCall Try.prog 16 [.ptr (some (p, 0))] H fun r => r = (.int .i64 M.length, H) := by
  refine call_of E0 mixed t16_ok (by kernel_rfl) (by rintro q rfl; simp) ?_
  have hp := x.hp
  have hl := x.hm.len
  simp only [t16]
  simp (disch := first | omega | (simp only [List.length_append, List.length_cons, List.length_nil, length_hset, length_hkill]; omega)) only [↓fsPre, fsPost, fsCond, fsGen, npick, nbin, nun, nconv, nnilCheck, noff, nidxArr, nidxSl, nfield, npart, nindex, nextract, nlenSl, nlenStr, ncap, mmx, minmax2, nslice, nsliceArr, nbounds, obound, bound, adv, nbits, eqVal, eqCell, eqCells, nfill, lenOfSl, cls, fresults, fresl, fres1, gt_iff_lt, ge_iff_le, reduceCtorEq, Nat.reduceAdd, Nat.reduceMul, Nat.reduceSub, Nat.reduceLT, Nat.reduceLeDiff, Nat.reduceEqDiff, Nat.reduceBEq, Nat.reduceBNe, Int.reduceLT, Int.reduceLE, Int.reduceEq, Int.reduceNe, Int.reduceAdd, Int.reduceSub, Int.reduceNeg, Int.reduceToNat, Int.reduceMul, ↓reduceIte, Int.reduceGT, Int.reduceGE, hp, hl]

theorem prs_length (l : List (Pt × Int)) : (l.flatMap prC).length = l.length * 9 := length_flatMap_enc prC_length l
theorem prs_lo {l : List (Pt × Int)} {n : Nat} : NV.lows n (l.flatMap prC) := by
  apply NV.lows_mem
  intro v hv
  obtain ⟨x, _, hx⟩ := List.mem_flatMap.1 hv
  simp only [prC, ptC, List.cons_append, List.nil_append, List.mem_cons, List.not_mem_nil, or_false] at hx
  rcases hx with rfl | rfl | rfl | rfl | rfl | rfl | rfl | rfl | rfl <;> trivial

theorem fend_mono {rs : List NRes} {Q Q' : NV × Heap → Prop} (hq : ∀ q, Q q → Q' q) {c : Ctl} {F : FF} {h : Heap} (e : fend rs Q c F h) : fend rs Q' c F h := by
  cases c with
  | nrm => obtain ⟨v, h1, h2⟩ := e; exact ⟨v, h1, hq _ h2⟩
  | ret => obtain ⟨v, h1, h2⟩ := e; exact ⟨v, h1, hq _ h2⟩
  | exit i => exact e

set_option maxHeartbeats 1000000 in
theorem xall_fwp (H : Heap) (p m : Nat) (M L : List (Pt × Int)) (x : IxAt H p m M) (hs : SortedP L) (hp' : L.Perm M) (hM : M.length ≤ 100) :
    fwpT E1 t10.body (fend t10.res fun q => (M = [] ∧ q.1 = .slice none 0 (.fix 0) ∧ ∃ J, q.2 = H ++ J) ∨ (M ≠ [] ∧ ∃ J r, q.2 = H ++ J ∧ hget J r = some (.cells (L.flatMap prC) false) ∧ q.1 = .slice (some (H.length + r, 0)) L.length (.opn 9))) (toF [.ptr (some (p, 0))]) H .mk := by
  have lp := hget_some_lt x.hp
  have lm := x.hm.lt
  have hp := x.hp
  obtain ⟨y, hr, hit⟩ := x.hm.range
  simp only [t10]
  simp (disch := first | omega | (simp only [List.length_append, List.length_cons, List.length_nil, length_hset, length_hkill]; omega)) only [↓fsPre, fsPost, fsCond, fsGen, npick, nbin, nun, nconv, nnilCheck, noff, nidxArr, nidxSl, nfield, npart, nindex, nextract, nlenSl, nlenStr, ncap, mmx, minmax2, nslice, nsliceArr, nbounds, obound, bound, adv, nbits, eqVal, eqCell, eqCells, nfill, lenOfSl, cls, fresults, fresl, fres1, gt_iff_lt, ge_iff_le, reduceCtorEq, Nat.reduceAdd, Nat.reduceMul, Nat.reduceSub, Nat.reduceLT, Nat.reduceLeDiff, Nat.reduceEqDiff, Nat.reduceBEq, Nat.reduceBNe, Int.reduceLT, Int.reduceLE, Int.reduceEq, Int.reduceNe, Int.reduceAdd, Int.reduceSub, Int.reduceNeg, Int.reduceToNat, Int.reduceMul, ↓reduceIte, Int.reduceGT, Int.reduceGE, hp, hr]
  refine wloopm (fun k F h => ∃ acc rem v, rem.length = k ∧ (acc ++ rem).Perm M ∧ F 3 = v ∧ F 12 = .ptr (some (H.length, 0)) ∧ ItAt ptV iv h H.length m rem ∧ H.length + 1 ≤ h.length ∧ (∀ b, b < H.length → hget h b = hget H b) ∧ GrC h (H.length + 1) (acc.flatMap prC) 9 v) M.length ?_ ?_
  · refine ⟨[], M, .slice none 0 (.fix 0), rfl, List.Perm.refl _, ?_⟩
    simp (disch := first | omega | (simp only [List.length_append, List.length_cons, List.length_nil, length_hset, length_hkill]; omega)) only [↓fsPre, fsPost, fsCond, fsGen, npick, nbin, nun, nconv, nnilCheck, noff, nidxArr, nidxSl, nfield, npart, nindex, nextract, nlenSl, nlenStr, ncap, mmx, minmax2, nslice, nsliceArr, nbounds, obound, bound, adv, nbits, eqVal, eqCell, eqCells, nfill, lenOfSl, cls, fresults, fresl, fres1, gt_iff_lt, ge_iff_le, reduceCtorEq, Nat.reduceAdd, Nat.reduceMul, Nat.reduceSub, Nat.reduceLT, Nat.reduceLeDiff, Nat.reduceEqDiff, Nat.reduceBEq, Nat.reduceBNe, Int.reduceLT, Int.reduceLE, Int.reduceEq, Int.reduceNe, Int.reduceAdd, Int.reduceSub, Int.reduceNeg, Int.reduceToNat, Int.reduceMul, ↓reduceIte, Int.reduceGT, Int.reduceGE]
    exact ⟨hit, fun b hb => hget_appl hb, GrC.nil⟩
  · rintro k F h ⟨acc, rem, v, hk, hperm, f3, f12, hI, hlen, hold, hg⟩
    simp (disch := first | omega | (simp only [List.length_append, List.length_cons, List.length_nil, length_hset, length_hkill]; omega)) only [↓fsPre, fsPost, fsCond, fsGen, npick, nbin, nun, nconv, nnilCheck, noff, nidxArr, nidxSl, nfield, npart, nindex, nextract, nlenSl, nlenStr, ncap, mmx, minmax2, nslice, nsliceArr, nbounds, obound, bound, adv, nbits, eqVal, eqCell, eqCells, nfill, lenOfSl, cls, fresults, fresl, fres1, gt_iff_lt, ge_iff_le, reduceCtorEq, Nat.reduceAdd, Nat.reduceMul, Nat.reduceSub, Nat.reduceLT, Nat.reduceLeDiff, Nat.reduceEqDiff, Nat.reduceBEq, Nat.reduceBNe, Int.reduceLT, Int.reduceLE, Int.reduceEq, Int.reduceNe, Int.reduceAdd, Int.reduceSub, Int.reduceNeg, Int.reduceToNat, Int.reduceMul, ↓reduceIte, Int.reduceGT, Int.reduceGE, f3, f12, E1_det]
    refine hI.next (fun h0 => ?_) (fun j hj h' ho hl' hI' hent => ?_)
    · subst h0
      rw [List.append_nil] at hperm
      have hlen2 := hperm.length_eq
      simp (disch := first | omega | (simp only [List.length_append, List.length_cons, List.length_nil, length_hset, length_hkill]; omega)) only [↓fsPre, fsPost, fsCond, fsGen, npick, nbin, nun, nconv, nnilCheck, noff, nidxArr, nidxSl, nfield, npart, nindex, nextract, nlenSl, nlenStr, ncap, mmx, minmax2, nslice, nsliceArr, nbounds, obound, bound, adv, nbits, eqVal, eqCell, eqCells, nfill, lenOfSl, cls, fresults, fresl, fres1, gt_iff_lt, ge_iff_le, reduceCtorEq, Nat.reduceAdd, Nat.reduceMul, Nat.reduceSub, Nat.reduceLT, Nat.reduceLeDiff, Nat.reduceEqDiff, Nat.reduceBEq, Nat.reduceBNe, Int.reduceLT, Int.reduceLE, Int.reduceEq, Int.reduceNe, Int.reduceAdd, Int.reduceSub, Int.reduceNeg, Int.reduceToNat, Int.reduceMul, ↓reduceIte, Int.reduceGT, Int.reduceGE, f3, f12]
      rcases hg with ⟨hC, rfl⟩ | ⟨b, n, rfl, hb1, hb2, hb3, hb4⟩
      · have hacc : acc = [] := by
          cases acc with
          | nil => rfl
          | cons a l => simp [prC] at hC
        subst hacc
        have hM0 : M = [] := by simpa using hlen2.symm
        refine callT_one (sort_nil h) rfl ?_
        simp (disch := first | omega | (simp only [List.length_append, List.length_cons, List.length_nil, length_hset, length_hkill]; omega)) only [↓fsPre, fsPost, fsCond, fsGen, npick, nbin, nun, nconv, nnilCheck, noff, nidxArr, nidxSl, nfield, npart, nindex, nextract, nlenSl, nlenStr, ncap, mmx, minmax2, nslice, nsliceArr, nbounds, obound, bound, adv, nbits, eqVal, eqCell, eqCells, nfill, lenOfSl, cls, fresults, fresl, fres1, gt_iff_lt, ge_iff_le, reduceCtorEq, Nat.reduceAdd, Nat.reduceMul, Nat.reduceSub, Nat.reduceLT, Nat.reduceLeDiff, Nat.reduceEqDiff, Nat.reduceBEq, Nat.reduceBNe, Int.reduceLT, Int.reduceLE, Int.reduceEq, Int.reduceNe, Int.reduceAdd, Int.reduceSub, Int.reduceNeg, Int.reduceToNat, Int.reduceMul, ↓reduceIte, Int.reduceGT, Int.reduceGE, f3]
        exact .inl ⟨hM0, heap_ext (by omega) hold⟩
      · rw [prs_length] at hb3
        have hn : n = acc.length := by omega
        subst hn
        have hLn : acc.length = L.length := by rw [hlen2, hp'.length_eq]
        refine callT_one (sort_ok h b (.opn 9) acc L hb2 hs (hp'.trans hperm.symm) (by omega)) rfl ?_
        simp (disch := first | omega | (simp only [List.length_append, List.length_cons, List.length_nil, length_hset, length_hkill]; omega)) only [↓fsPre, fsPost, fsCond, fsGen, npick, nbin, nun, nconv, nnilCheck, noff, nidxArr, nidxSl, nfield, npart, nindex, nextract, nlenSl, nlenStr, ncap, mmx, minmax2, nslice, nsliceArr, nbounds, obound, bound, adv, nbits, eqVal, eqCell, eqCells, nfill, lenOfSl, cls, fresults, fresl, fres1, gt_iff_lt, ge_iff_le, reduceCtorEq, Nat.reduceAdd, Nat.reduceMul, Nat.reduceSub, Nat.reduceLT, Nat.reduceLeDiff, Nat.reduceEqDiff, Nat.reduceBEq, Nat.reduceBNe, Int.reduceLT, Int.reduceLE, Int.reduceEq, Int.reduceNe, Int.reduceAdd, Int.reduceSub, Int.reduceNeg, Int.reduceToNat, Int.reduceMul, ↓reduceIte, Int.reduceGT, Int.reduceGE, f3]
        have hbl := hget_some_lt hb2
        obtain ⟨J, hJ⟩ := heap_ext (H := H) (L := hset h b (.cells (L.flatMap prC) false)) (by rw [length_hset]; omega) fun c hc => by rw [hget_hset_ne (by omega)]; exact hold c hc
        refine .inr ⟨?_, J, b - H.length, hJ, ?_, by rw [hLn, show H.length + (b - H.length) = b by omega]⟩
        · intro h
          have : acc.length = 0 := by rw [hlen2, h]; rfl
          omega
        have e1 : hget (H ++ J) b = some (.cells (L.flatMap prC) false) := by rw [← hJ, hget_hset_same hbl]
        rw [hget_appr (by omega)] at e1
        exact e1
    · have hent1 := fun L => hent (h' ++ L) (hget_appl (by omega)) (hget_appl (by have := x.hm.lt; omega))
      have hent0 := hent h' rfl rfl
      simp only [ptV, iv, ptC] at hent1 hent0
      simp (disch := first | omega | (simp only [List.length_append, List.length_cons, List.length_nil, length_hset, length_hkill]; omega)) only [↓fsPre, fsPost, fsCond, fsGen, npick, nbin, nun, nconv, nnilCheck, noff, nidxArr, nidxSl, nfield, npart, nindex, nextract, nlenSl, nlenStr, ncap, mmx, minmax2, nslice, nsliceArr, nbounds, obound, bound, adv, nbits, eqVal, eqCell, eqCells, nfill, lenOfSl, cls, fresults, fresl, fres1, gt_iff_lt, ge_iff_le, reduceCtorEq, Nat.reduceAdd, Nat.reduceMul, Nat.reduceSub, Nat.reduceLT, Nat.reduceLeDiff, Nat.reduceEqDiff, Nat.reduceBEq, Nat.reduceBNe, Int.reduceLT, Int.reduceLE, Int.reduceEq, Int.reduceNe, Int.reduceAdd, Int.reduceSub, Int.reduceNeg, Int.reduceToNat, Int.reduceMul, ↓reduceIte, Int.reduceGT, Int.reduceGE, f3, f12, hent0, nb_one, nb_cells, nb_flat]
      have ext1 : Ext (H.length + 1) h h' := fun c y hc hy => by rw [ho c (by omega)]; exact hy
      have hlp := hperm.length_eq
      rw [List.length_append] at hlp
      have lm := x.hm.lt
      refine grc_app (N := H.length + 1) (new := prC rem[j]) (m := 1) ((hg.ext ext1).ext Ext.app) (by rw [List.length_append]; omega) (sliceCells_at (by simp (disch := first | omega | (simp only [List.length_append, List.length_cons, List.length_nil, length_hset, length_hkill]; omega)) only [↓fsPre, fsPost, fsCond, fsGen, npick, nbin, nun, nconv, nnilCheck, noff, nidxArr, nidxSl, nfield, npart, nindex, nextract, nlenSl, nlenStr, ncap, mmx, minmax2, nslice, nsliceArr, nbounds, obound, bound, adv, nbits, eqVal, eqCell, eqCells, nfill, lenOfSl, cls, fresults, fresl, fres1, gt_iff_lt, ge_iff_le, reduceCtorEq, Nat.reduceAdd, Nat.reduceMul, Nat.reduceSub, Nat.reduceLT, Nat.reduceLeDiff, Nat.reduceEqDiff, Nat.reduceBEq, Nat.reduceBNe, Int.reduceLT, Int.reduceLE, Int.reduceEq, Int.reduceNe, Int.reduceAdd, Int.reduceSub, Int.reduceNeg, Int.reduceToNat, Int.reduceMul, ↓reduceIte, Int.reduceGT, Int.reduceGE] <;> rfl) rfl) rfl (by omega) (by omega) rfl (by rw [prs_length]; omega) (by omega) (by omega) ?_
      intro v' h'' g' hl'' ho''
      simp only [List.length_append, List.length_cons, List.length_nil] at hl''
      simp (disch := first | omega | (simp only [List.length_append, List.length_cons, List.length_nil, length_hset, length_hkill]; omega)) only [↓fsPre, fsPost, fsCond, fsGen, npick, nbin, nun, nconv, nnilCheck, noff, nidxArr, nidxSl, nfield, npart, nindex, nextract, nlenSl, nlenStr, ncap, mmx, minmax2, nslice, nsliceArr, nbounds, obound, bound, adv, nbits, eqVal, eqCell, eqCells, nfill, lenOfSl, cls, fresults, fresl, fres1, gt_iff_lt, ge_iff_le, reduceCtorEq, Nat.reduceAdd, Nat.reduceMul, Nat.reduceSub, Nat.reduceLT, Nat.reduceLeDiff, Nat.reduceEqDiff, Nat.reduceBEq, Nat.reduceBNe, Int.reduceLT, Int.reduceLE, Int.reduceEq, Int.reduceNe, Int.reduceAdd, Int.reduceSub, Int.reduceNeg, Int.reduceToNat, Int.reduceMul, ↓reduceIte, Int.reduceGT, Int.reduceGE, f3, f12]
      refine ⟨rem.length - 1, by omega, acc ++ [rem[j]], rem.eraseIdx j, v', ?_⟩
      simp (disch := first | omega | (simp only [List.length_append, List.length_cons, List.length_nil, length_hset, length_hkill]; omega)) only [↓fsPre, fsPost, fsCond, fsGen, npick, nbin, nun, nconv, nnilCheck, noff, nidxArr, nidxSl, nfield, npart, nindex, nextract, nlenSl, nlenStr, ncap, mmx, minmax2, nslice, nsliceArr, nbounds, obound, bound, adv, nbits, eqVal, eqCell, eqCells, nfill, lenOfSl, cls, fresults, fresl, fres1, gt_iff_lt, ge_iff_le, reduceCtorEq, Nat.reduceAdd, Nat.reduceMul, Nat.reduceSub, Nat.reduceLT, Nat.reduceLeDiff, Nat.reduceEqDiff, Nat.reduceBEq, Nat.reduceBNe, Int.reduceLT, Int.reduceLE, Int.reduceEq, Int.reduceNe, Int.reduceAdd, Int.reduceSub, Int.reduceNeg, Int.reduceToNat, Int.reduceMul, ↓reduceIte, Int.reduceGT, Int.reduceGE, f3, f12]
      refine ⟨by rw [List.length_eraseIdx, if_pos hj], ?_, hI'.mono ?_ ?_, by omega, fun b hb => ?_, ?_⟩
      · refine List.Perm.trans ?_ hperm
        exact List.Perm.append_left acc (erase_perm hj)
      · rw [ho'' _ (by omega), hget_appl (by omega)]
      · rw [ho'' _ (by omega), hget_appl (by omega)]
      · rw [ho'' _ (by omega), hget_appl (by omega), ho b (by omega)]; exact hold b hb
      · rw [List.flatMap_append, List.flatMap_cons, List.flatMap_nil, List.append_nil]; exact g'

theorem xall_nil (H : Heap) (p m : Nat) (x : IxAt H p m []) : NCall Try.prog 10 [.ptr (some (p, 0))] H fun r => r = (.slice none 0 (.fix 0), H) := by
  refine call_pure E1 mixed t10_ok (by kernel_rfl) trivial ?_
  refine fwp_mono _ (xall_fwp H p m [] [] x List.Pairwise.nil (List.Perm.refl _) (by simp)) fun c F h e => fend_mono ?_ e
  rintro q (⟨_, h1, h2⟩ | ⟨h0, _⟩)
  · exact ⟨h1, h2⟩
  · exact absurd rfl h0
theorem xall_ok (H : Heap) (p m : Nat) (M L : List (Pt × Int)) (x : IxAt H p m M) (hs : SortedP L) (hp : L.Perm M) (hM : M.length ≤ 100) (h0 : M ≠ []) :
    NCall Try.prog 10 [.ptr (some (p, 0))] H fun r => r = (.slice (some (H.length, 0)) L.length (.opn 9), H ++ [some (.cells (L.flatMap prC) false)]) := by
  refine call_new1 E1 mixed t10_ok (fun b => .slice (some (b, 0)) L.length (.opn 9)) (.cells (L.flatMap prC) false) (by kernel_rfl) (fun g _ => rfl) prs_lo ?_
  refine fwp_mono _ (xall_fwp H p m M L x hs hp hM) fun c F h e => fend_mono ?_ e
  rintro q (⟨h1, _⟩ | ⟨_, J, r, h1, h2, h3⟩)
  · exact absurd h1 h0
  · exact ⟨J, r, h1, h2, h3⟩
end Go.Proofs
