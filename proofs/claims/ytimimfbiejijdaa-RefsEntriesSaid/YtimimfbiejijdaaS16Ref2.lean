/- References: Provides of both sides. -/
import Derived.Test.YtimimfbiejijdaaS16Ref1
set_option linter.unusedSimpArgs false
set_option linter.unusedVariables false
set_option maxRecDepth 10000
namespace Go.Proofs
open Go.Ns

/-- A list of targets, as it lies in a heap. -/
theorem grc_list {h : Heap} {N : Nat} {l : List T4} {v : NV} (g : GrC h N (tC l) 4 v) : ∃ a c, v = .slice a l.length c ∧ ∀ k (hk : k < l.length), ∃ b, a = some (b, 0) ∧ hget h b = some (.cells (tC l) false) ∧ cut (tC l) (k * 4) 4 = some l[k].cells := by
  rcases g with ⟨h1, rfl⟩ | ⟨b, n, rfl, _, h3, h4, _⟩
  · have := congrArg List.length h1
    rw [tC_length] at this
    have h0 : l.length = 0 := by simp at this; omega
    exact ⟨none, .fix 0, by rw [h0], fun k hk => by omega⟩
  · rw [tC_length] at h4
    have : n = l.length := by omega
    subst this
    exact ⟨some (b, 0), .opn 4, rfl, fun k hk => ⟨b, rfl, h3, tC_cut l k hk⟩⟩
theorem t4_eq (a b : T4) : (a.tab = b.tab ∧ a.key = b.key ∧ a.v1 = b.v1 ∧ a.v2 = b.v2) ↔ a = b := by
  cases a; cases b; simp
theorem mem_take_succ (l : List T4) (t : T4) (k : Nat) (hk : k < l.length) : t ∈ l.take (k + 1) ↔ t ∈ l.take k ∨ t = l[k] := by
  rw [List.take_add_one, List.getElem?_eq_getElem hk]
  simp only [Option.toList_some, List.mem_append, List.mem_singleton]

theorem tindex_ok (N : Nat) (H : Heap) (l : List T4) (v : NV) (t : T4) (g : GrC H N (tC l) 4 v) (hl : l.length ≤ 1000) : DCall Try.prog 47 [v, .agg t.cells] H fun r => ∃ i L, r = (.int .i64 i, H ++ L) ∧ (0 ≤ i ↔ t ∈ l) := by
  obtain ⟨a, c, rfl, hrow⟩ := grc_list g
  refine call_det E0 rfl mixed t47_ok (by kernel_rfl) (by rintro q ⟨_, _, rfl, _⟩; simp) ?_
  simp only [t47]
  simp (disch := first | omega | (simp only [List.length_append, List.length_cons, List.length_nil, length_hset, length_hkill]; omega)) only [↓fsPre, fsPost, fsCond, fsGen, npick, nbin, nun, nconv, nnilCheck, noff, nidxArr, nidxSl, nfield, npart, nindex, nextract, nlenSl, nlenStr, ncap, mmx, minmax2, nslice, nsliceArr, nbounds, obound, bound, adv, nbits, eqVal, eqCell, eqCells, nfill, lenOfSl, cls, fresults, fresl, fres1, gt_iff_lt, ge_iff_le, reduceCtorEq, Nat.reduceAdd, Nat.reduceMul, Nat.reduceSub, Nat.reduceLT, Nat.reduceLeDiff, Nat.reduceEqDiff, Nat.reduceBEq, Nat.reduceBNe, Int.reduceLT, Int.reduceLE, Int.reduceEq, Int.reduceNe, Int.reduceAdd, Int.reduceSub, Int.reduceNeg, Int.reduceToNat, Int.reduceMul, ↓reduceIte, Int.reduceGT, Int.reduceGE, T4.cells]
  refine wloop (fun k F h => F 0 = .slice a l.length c ∧ F 3 = .ptr (some (H.length, 0)) ∧ F 7 = .int .i64 l.length ∧ F 8 = .int .i64 k ∧ h = H ++ [some (.cells [.int .i64 t.tab, .int .i64 t.key, .int .u64 t.v1, .int .u64 t.v2] false)] ∧ ¬ t ∈ l.take k) l.length ?_ ?_ ?_
  · simp (disch := first | omega | (simp only [List.length_append, List.length_cons, List.length_nil, length_hset, length_hkill]; omega)) only [↓fsPre, fsPost, fsCond, fsGen, npick, nbin, nun, nconv, nnilCheck, noff, nidxArr, nidxSl, nfield, npart, nindex, nextract, nlenSl, nlenStr, ncap, mmx, minmax2, nslice, nsliceArr, nbounds, obound, bound, adv, nbits, eqVal, eqCell, eqCells, nfill, lenOfSl, cls, fresults, fresl, fres1, gt_iff_lt, ge_iff_le, reduceCtorEq, Nat.reduceAdd, Nat.reduceMul, Nat.reduceSub, Nat.reduceLT, Nat.reduceLeDiff, Nat.reduceEqDiff, Nat.reduceBEq, Nat.reduceBNe, Int.reduceLT, Int.reduceLE, Int.reduceEq, Int.reduceNe, Int.reduceAdd, Int.reduceSub, Int.reduceNeg, Int.reduceToNat, Int.reduceMul, ↓reduceIte, Int.reduceGT, Int.reduceGE]
  · rintro k F h hk ⟨f0, f3, f7, f8, rfl, hn⟩
    obtain ⟨b, rfl, hb, hc⟩ := hrow k hk
    have hbl := hget_some_lt hb
    have hm := mem_take_succ l t k hk
    have hin := List.getElem_mem hk
    generalize l[k] = x at *
    simp (disch := first | omega | (simp only [List.length_append, List.length_cons, List.length_nil, length_hset, length_hkill]; omega)) only [↓fsPre, fsPost, fsCond, fsGen, npick, nbin, nun, nconv, nnilCheck, noff, nidxArr, nidxSl, nfield, npart, nindex, nextract, nlenSl, nlenStr, ncap, mmx, minmax2, nslice, nsliceArr, nbounds, obound, bound, adv, nbits, eqVal, eqCell, eqCells, nfill, lenOfSl, cls, fresults, fresl, fres1, gt_iff_lt, ge_iff_le, reduceCtorEq, Nat.reduceAdd, Nat.reduceMul, Nat.reduceSub, Nat.reduceLT, Nat.reduceLeDiff, Nat.reduceEqDiff, Nat.reduceBEq, Nat.reduceBNe, Int.reduceLT, Int.reduceLE, Int.reduceEq, Int.reduceNe, Int.reduceAdd, Int.reduceSub, Int.reduceNeg, Int.reduceToNat, Int.reduceMul, ↓reduceIte, Int.reduceGT, Int.reduceGE, f0, f3, f7, f8, hb, hc, T4.cells]
    refine condK_dec (fun he => ?_) (fun he => ?_)
    · simp (disch := first | omega | (simp only [List.length_append, List.length_cons, List.length_nil, length_hset, length_hkill]; omega)) only [↓fsPre, fsPost, fsCond, fsGen, npick, nbin, nun, nconv, nnilCheck, noff, nidxArr, nidxSl, nfield, npart, nindex, nextract, nlenSl, nlenStr, ncap, mmx, minmax2, nslice, nsliceArr, nbounds, obound, bound, adv, nbits, eqVal, eqCell, eqCells, nfill, lenOfSl, cls, fresults, fresl, fres1, gt_iff_lt, ge_iff_le, reduceCtorEq, Nat.reduceAdd, Nat.reduceMul, Nat.reduceSub, Nat.reduceLT, Nat.reduceLeDiff, Nat.reduceEqDiff, Nat.reduceBEq, Nat.reduceBNe, Int.reduceLT, Int.reduceLE, Int.reduceEq, Int.reduceNe, Int.reduceAdd, Int.reduceSub, Int.reduceNeg, Int.reduceToNat, Int.reduceMul, ↓reduceIte, Int.reduceGT, Int.reduceGE, f0, f3, f7, f8]
      have := (t4_eq t x).1 he
      refine ⟨k, _, rfl, ?_⟩
      rw [this]
      exact ⟨fun _ => hin, fun _ => by omega⟩
    · simp (disch := first | omega | (simp only [List.length_append, List.length_cons, List.length_nil, length_hset, length_hkill]; omega)) only [↓fsPre, fsPost, fsCond, fsGen, npick, nbin, nun, nconv, nnilCheck, noff, nidxArr, nidxSl, nfield, npart, nindex, nextract, nlenSl, nlenStr, ncap, mmx, minmax2, nslice, nsliceArr, nbounds, obound, bound, adv, nbits, eqVal, eqCell, eqCells, nfill, lenOfSl, cls, fresults, fresl, fres1, gt_iff_lt, ge_iff_le, reduceCtorEq, Nat.reduceAdd, Nat.reduceMul, Nat.reduceSub, Nat.reduceLT, Nat.reduceLeDiff, Nat.reduceEqDiff, Nat.reduceBEq, Nat.reduceBNe, Int.reduceLT, Int.reduceLE, Int.reduceEq, Int.reduceNe, Int.reduceAdd, Int.reduceSub, Int.reduceNeg, Int.reduceToNat, Int.reduceMul, ↓reduceIte, Int.reduceGT, Int.reduceGE, f0, f3, f7, f8]
      rw [hm]
      rintro (h | h)
      · exact hn h
      · exact he ((t4_eq t x).2 h)
  · rintro F h ⟨f0, f3, f7, f8, rfl, hn⟩
    rw [List.take_length] at hn
    simp (disch := first | omega | (simp only [List.length_append, List.length_cons, List.length_nil, length_hset, length_hkill]; omega)) only [↓fsPre, fsPost, fsCond, fsGen, npick, nbin, nun, nconv, nnilCheck, noff, nidxArr, nidxSl, nfield, npart, nindex, nextract, nlenSl, nlenStr, ncap, mmx, minmax2, nslice, nsliceArr, nbounds, obound, bound, adv, nbits, eqVal, eqCell, eqCells, nfill, lenOfSl, cls, fresults, fresl, fres1, gt_iff_lt, ge_iff_le, reduceCtorEq, Nat.reduceAdd, Nat.reduceMul, Nat.reduceSub, Nat.reduceLT, Nat.reduceLeDiff, Nat.reduceEqDiff, Nat.reduceBEq, Nat.reduceBNe, Int.reduceLT, Int.reduceLE, Int.reduceEq, Int.reduceNe, Int.reduceAdd, Int.reduceSub, Int.reduceNeg, Int.reduceToNat, Int.reduceMul, ↓reduceIte, Int.reduceGT, Int.reduceGE, f0, f3, f7, f8]
    exact ⟨-1, _, rfl, ⟨fun h => by omega, fun h => absurd h hn⟩⟩

theorem contains_ok (N : Nat) (H : Heap) (l : List T4) (v : NV) (t : T4) (g : GrC H N (tC l) 4 v) (hl : l.length ≤ 1000) : NCall Try.prog 31 [v, .agg t.cells] H fun r => r = (.bool (decide (t ∈ l)), H) := by
  refine call_pure E0 mixed t31_ok (by kernel_rfl) trivial ?_
  have hi := fun L => tindex_ok N (H ++ L) l v t (g.ext Ext.app) hl
  simp only [t31, T4.cells] at hi ⊢
  simp (disch := first | omega | (simp only [List.length_append, List.length_cons, List.length_nil, length_hset, length_hkill]; omega)) only [↓fsPre, fsPost, fsCond, fsGen, npick, nbin, nun, nconv, nnilCheck, noff, nidxArr, nidxSl, nfield, npart, nindex, nextract, nlenSl, nlenStr, ncap, mmx, minmax2, nslice, nsliceArr, nbounds, obound, bound, adv, nbits, eqVal, eqCell, eqCells, nfill, lenOfSl, cls, fresults, fresl, fres1, gt_iff_lt, ge_iff_le, reduceCtorEq, Nat.reduceAdd, Nat.reduceMul, Nat.reduceSub, Nat.reduceLT, Nat.reduceLeDiff, Nat.reduceEqDiff, Nat.reduceBEq, Nat.reduceBNe, Int.reduceLT, Int.reduceLE, Int.reduceEq, Int.reduceNe, Int.reduceAdd, Int.reduceSub, Int.reduceNeg, Int.reduceToNat, Int.reduceMul, ↓reduceIte, Int.reduceGT, Int.reduceGE]
  refine callT_D (hi _) rfl ?_
  rintro v' h' ⟨i, L, e, hiff⟩
  cases e
  simp (disch := first | omega | (simp only [List.length_append, List.length_cons, List.length_nil, length_hset, length_hkill]; omega)) only [↓fsPre, fsPost, fsCond, fsGen, npick, nbin, nun, nconv, nnilCheck, noff, nidxArr, nidxSl, nfield, npart, nindex, nextract, nlenSl, nlenStr, ncap, mmx, minmax2, nslice, nsliceArr, nbounds, obound, bound, adv, nbits, eqVal, eqCell, eqCells, nfill, lenOfSl, cls, fresults, fresl, fres1, gt_iff_lt, ge_iff_le, reduceCtorEq, Nat.reduceAdd, Nat.reduceMul, Nat.reduceSub, Nat.reduceLT, Nat.reduceLeDiff, Nat.reduceEqDiff, Nat.reduceBEq, Nat.reduceBNe, Int.reduceLT, Int.reduceLE, Int.reduceEq, Int.reduceNe, Int.reduceAdd, Int.reduceSub, Int.reduceNeg, Int.reduceToNat, Int.reduceMul, ↓reduceIte, Int.reduceGT, Int.reduceGE]
  exact ⟨by rw [decide_eq_decide.2 hiff], _, rfl⟩

def tgt (r : Rf) (e : En) : T4 := ⟨r.tt, r.tk, (mV e r.tk).1, (mV e r.tk).2⟩
def provL (R : List Rf) (e : En) : List T4 := R.foldl (fun out r => if r.tt = e.tab ∧ ¬ tgt r e ∈ out then out ++ [tgt r e] else out) []
theorem provL_snoc (R : List Rf) (r : Rf) (e : En) : provL (R ++ [r]) e = if r.tt = e.tab ∧ ¬ tgt r e ∈ provL R e then provL R e ++ [tgt r e] else provL R e := by
  unfold provL; rw [List.foldl_append]; rfl
theorem provL_le (R : List Rf) (e : En) : (provL R e).length ≤ R.length := by
  have key : ∀ (R : List Rf) (o : List T4), (R.foldl (fun out r => if r.tt = e.tab ∧ ¬ tgt r e ∈ out then out ++ [tgt r e] else out) o).length ≤ o.length + R.length := by
    intro R
    induction R with
    | nil => intro o; simp
    | cons r R ih =>
      intro o
      rw [List.foldl_cons]
      refine Nat.le_trans (ih _) ?_
      split
      · simp only [List.length_append, List.length_cons, List.length_nil]; omega
      · simp only [List.length_cons]; omega
  have := key R []
  simpa [provL] using this

set_option maxHeartbeats 2000000 in
theorem provides_ok (N : Nat) (H : Heap) (R : List Rf) (z0 z1 z2 z3 z4 z5 z6 z7 z8 z9 : NV) (s : RfV H R z0 z1 z2 z3 z4 z5 z6 z7 z8 z9) (hR : R.length ≤ 10) (row : List NV) (e : En) (xE : EnAt H N row e) (hok : ∀ r ∈ R, RfOK r e) :
    DCall Try.prog 13 [.agg [z0, z1, z2, z3, z4, z5, z6, z7, z8, z9], .agg row] H (listQ H (provL R e)) := by
  obtain ⟨⟨o0, o1, o2, o3, o4, o5, o6, o8, o9⟩, b, c, cs, ro, rfl, hb, hcut⟩ := s
  obtain ⟨mv, av, rfl, om, oa, hms, has, hm, ha⟩ := xE.parts
  have hbl := hget_some_lt hb
  refine call_det E0 rfl mixed t13_ok (by kernel_rfl) (by rintro q ⟨h, _⟩; exact h) ?_
  simp only [t13]
  simp (disch := first | omega | (simp only [List.length_append, List.length_cons, List.length_nil, length_hset, length_hkill]; omega)) only [↓fsPre, fsPost, fsCond, fsGen, npick, nbin, nun, nconv, nnilCheck, noff, nidxArr, nidxSl, nfield, npart, nindex, nextract, nlenSl, nlenStr, ncap, mmx, minmax2, nslice, nsliceArr, nbounds, obound, bound, adv, nbits, eqVal, eqCell, eqCells, nfill, lenOfSl, cls, fresults, fresl, fres1, gt_iff_lt, ge_iff_le, reduceCtorEq, Nat.reduceAdd, Nat.reduceMul, Nat.reduceSub, Nat.reduceLT, Nat.reduceLeDiff, Nat.reduceEqDiff, Nat.reduceBEq, Nat.reduceBNe, Int.reduceLT, Int.reduceLE, Int.reduceEq, Int.reduceNe, Int.reduceAdd, Int.reduceSub, Int.reduceNeg, Int.reduceToNat, Int.reduceMul, ↓reduceIte, Int.reduceGT, Int.reduceGE, o0, o1, o2, o3, o4, o5, o6, o8, o9, om, oa]
  refine wloop (fun k F h => F 2 = .ptr (some (H.length, 0)) ∧ F 3 = .ptr (some (H.length + 1, 0)) ∧ F 10 = .slice (some (b, 0)) R.length c ∧ F 11 = .int .i64 R.length ∧ F 12 = .int .i64 k ∧
    NdI H [z0, z1, z2, z3, z4, z5, z6, .slice (some (b, 0)) R.length c, z8, z9] [.int .i64 e.tab, mv, .int .i64 e.pr, .int .i64 e.act, av] h ∧ GrC h (H.length + 2) (tC (provL (R.take k) e)) 4 (F 5)) R.length ?_ ?_ ?_
  · simp (disch := first | omega | (simp only [List.length_append, List.length_cons, List.length_nil, length_hset, length_hkill]; omega)) only [↓fsPre, fsPost, fsCond, fsGen, npick, nbin, nun, nconv, nnilCheck, noff, nidxArr, nidxSl, nfield, npart, nindex, nextract, nlenSl, nlenStr, ncap, mmx, minmax2, nslice, nsliceArr, nbounds, obound, bound, adv, nbits, eqVal, eqCell, eqCells, nfill, lenOfSl, cls, fresults, fresl, fres1, gt_iff_lt, ge_iff_le, reduceCtorEq, Nat.reduceAdd, Nat.reduceMul, Nat.reduceSub, Nat.reduceLT, Nat.reduceLeDiff, Nat.reduceEqDiff, Nat.reduceBEq, Nat.reduceBNe, Int.reduceLT, Int.reduceLE, Int.reduceEq, Int.reduceNe, Int.reduceAdd, Int.reduceSub, Int.reduceNeg, Int.reduceToNat, Int.reduceMul, ↓reduceIte, Int.reduceGT, Int.reduceGE]
    exact ⟨⟨by simp, fun q hq => hget_appl hq, by simp (disch := first | omega | (simp only [List.length_append, List.length_cons, List.length_nil, length_hset, length_hkill]; omega)) only [↓fsPre, fsPost, fsCond, fsGen, npick, nbin, nun, nconv, nnilCheck, noff, nidxArr, nidxSl, nfield, npart, nindex, nextract, nlenSl, nlenStr, ncap, mmx, minmax2, nslice, nsliceArr, nbounds, obound, bound, adv, nbits, eqVal, eqCell, eqCells, nfill, lenOfSl, cls, fresults, fresl, fres1, gt_iff_lt, ge_iff_le, reduceCtorEq, Nat.reduceAdd, Nat.reduceMul, Nat.reduceSub, Nat.reduceLT, Nat.reduceLeDiff, Nat.reduceEqDiff, Nat.reduceBEq, Nat.reduceBNe, Int.reduceLT, Int.reduceLE, Int.reduceEq, Int.reduceNe, Int.reduceAdd, Int.reduceSub, Int.reduceNeg, Int.reduceToNat, Int.reduceMul, ↓reduceIte, Int.reduceGT, Int.reduceGE], by simp (disch := first | omega | (simp only [List.length_append, List.length_cons, List.length_nil, length_hset, length_hkill]; omega)) only [↓fsPre, fsPost, fsCond, fsGen, npick, nbin, nun, nconv, nnilCheck, noff, nidxArr, nidxSl, nfield, npart, nindex, nextract, nlenSl, nlenStr, ncap, mmx, minmax2, nslice, nsliceArr, nbounds, obound, bound, adv, nbits, eqVal, eqCell, eqCells, nfill, lenOfSl, cls, fresults, fresl, fres1, gt_iff_lt, ge_iff_le, reduceCtorEq, Nat.reduceAdd, Nat.reduceMul, Nat.reduceSub, Nat.reduceLT, Nat.reduceLeDiff, Nat.reduceEqDiff, Nat.reduceBEq, Nat.reduceBNe, Int.reduceLT, Int.reduceLE, Int.reduceEq, Int.reduceNe, Int.reduceAdd, Int.reduceSub, Int.reduceNeg, Int.reduceToNat, Int.reduceMul, ↓reduceIte, Int.reduceGT, Int.reduceGE]⟩, .nil⟩
  · rintro k F h hk ⟨f2, f3, f10, f11, f12, ⟨len, old, b2, b3⟩, out⟩
    have hb' : hget h b = some (.cells cs ro) := by rw [old b hbl]; exact hb
    have hcr := hcut k hk
    have hr := hok _ (List.getElem_mem hk)
    have hstep := provL_snoc (R.take k) R[k] e
    have htk : R.take (k + 1) = R.take k ++ [R[k]] := by rw [List.take_add_one, List.getElem?_eq_getElem hk]; rfl
    rw [← htk] at hstep
    have hle := provL_le (R.take k) e
    rw [List.length_take] at hle
    generalize R[k] = r at *
    generalize hv5 : F 5 = v5 at *
    have o5v := out.one
    have hma := fun L => matched_ok N (h ++ L) _ e (xE.mono fun q hq => by rw [hget_appl (by omega), old q hq]) r.tk hr.t
    have hco := fun L => contains_ok (H.length + 2) (h ++ L) _ v5 (tgt r e) (out.ext Ext.app) (by omega)
    simp (disch := first | omega | (simp only [List.length_append, List.length_cons, List.length_nil, length_hset, length_hkill]; omega)) only [↓fsPre, fsPost, fsCond, fsGen, npick, nbin, nun, nconv, nnilCheck, noff, nidxArr, nidxSl, nfield, npart, nindex, nextract, nlenSl, nlenStr, ncap, mmx, minmax2, nslice, nsliceArr, nbounds, obound, bound, adv, nbits, eqVal, eqCell, eqCells, nfill, lenOfSl, cls, fresults, fresl, fres1, gt_iff_lt, ge_iff_le, reduceCtorEq, Nat.reduceAdd, Nat.reduceMul, Nat.reduceSub, Nat.reduceLT, Nat.reduceLeDiff, Nat.reduceEqDiff, Nat.reduceBEq, Nat.reduceBNe, Int.reduceLT, Int.reduceLE, Int.reduceEq, Int.reduceNe, Int.reduceAdd, Int.reduceSub, Int.reduceNeg, Int.reduceToNat, Int.reduceMul, ↓reduceIte, Int.reduceGT, Int.reduceGE, f2, f3, f10, f11, f12, b2, b3, hv5, hb', hcr, Rf.cells, o0, o1, o2, o3, o4, o5, o6, o8, o9, om, oa]
    refine callDT_one (hma _) rfl ?_
    have fin : ∀ (L : Heap), NdI H [z0, z1, z2, z3, z4, z5, z6, .slice (some (b, 0)) R.length c, z8, z9] [.int .i64 e.tab, mv, .int .i64 e.pr, .int .i64 e.act, av] (h ++ L) := fun L => ⟨by rw [List.length_append]; omega, fun q hq => (hget_appl (by omega)).trans (old q hq), (hget_appl (by omega)).trans b2, (hget_appl (by omega)).trans b3⟩
    by_cases h1 : r.tt = e.tab
    · simp (disch := first | omega | (simp only [List.length_append, List.length_cons, List.length_nil, length_hset, length_hkill]; omega)) only [↓fsPre, fsPost, fsCond, fsGen, npick, nbin, nun, nconv, nnilCheck, noff, nidxArr, nidxSl, nfield, npart, nindex, nextract, nlenSl, nlenStr, ncap, mmx, minmax2, nslice, nsliceArr, nbounds, obound, bound, adv, nbits, eqVal, eqCell, eqCells, nfill, lenOfSl, cls, fresults, fresl, fres1, gt_iff_lt, ge_iff_le, reduceCtorEq, Nat.reduceAdd, Nat.reduceMul, Nat.reduceSub, Nat.reduceLT, Nat.reduceLeDiff, Nat.reduceEqDiff, Nat.reduceBEq, Nat.reduceBNe, Int.reduceLT, Int.reduceLE, Int.reduceEq, Int.reduceNe, Int.reduceAdd, Int.reduceSub, Int.reduceNeg, Int.reduceToNat, Int.reduceMul, ↓reduceIte, Int.reduceGT, Int.reduceGE, f2, f3, f10, f11, f12, b2, b3, hv5, hb', hcr, Rf.cells, o0, o1, o2, o3, o4, o5, o6, o8, o9, om, oa, h1]
      have hco' := hco [some (.cells [.int .i64 r.tab, .int .i64 r.key, .int .i64 r.act, .int .i64 r.par, .int .i64 e.tab, .int .i64 r.tk] false), some (.cells [.int .i64 e.tab, .int .i64 r.tk, .int .u64 (mV e r.tk).1, .int .u64 (mV e r.tk).2] false)]
      simp only [tgt, T4.cells, h1] at hco'
      refine callT_one hco' rfl ?_
      by_cases h2 : tgt r e ∈ provL (R.take k) e
      · have h2' := h2
        simp only [tgt, h1] at h2'
        simp (disch := first | omega | (simp only [List.length_append, List.length_cons, List.length_nil, length_hset, length_hkill]; omega)) only [↓fsPre, fsPost, fsCond, fsGen, npick, nbin, nun, nconv, nnilCheck, noff, nidxArr, nidxSl, nfield, npart, nindex, nextract, nlenSl, nlenStr, ncap, mmx, minmax2, nslice, nsliceArr, nbounds, obound, bound, adv, nbits, eqVal, eqCell, eqCells, nfill, lenOfSl, cls, fresults, fresl, fres1, gt_iff_lt, ge_iff_le, reduceCtorEq, Nat.reduceAdd, Nat.reduceMul, Nat.reduceSub, Nat.reduceLT, Nat.reduceLeDiff, Nat.reduceEqDiff, Nat.reduceBEq, Nat.reduceBNe, Int.reduceLT, Int.reduceLE, Int.reduceEq, Int.reduceNe, Int.reduceAdd, Int.reduceSub, Int.reduceNeg, Int.reduceToNat, Int.reduceMul, ↓reduceIte, Int.reduceGT, Int.reduceGE, f2, f3, f10, f11, f12, b2, b3, hv5, h1, decide_eq_true h2']
        rw [if_neg (fun h => h.2 h2)] at hstep
        refine ⟨fin _, ?_⟩
        rw [hstep]; exact out.ext Ext.app
      · have h2' := h2
        simp only [tgt, h1] at h2'
        simp (disch := first | omega | (simp only [List.length_append, List.length_cons, List.length_nil, length_hset, length_hkill]; omega)) only [↓fsPre, fsPost, fsCond, fsGen, npick, nbin, nun, nconv, nnilCheck, noff, nidxArr, nidxSl, nfield, npart, nindex, nextract, nlenSl, nlenStr, ncap, mmx, minmax2, nslice, nsliceArr, nbounds, obound, bound, adv, nbits, eqVal, eqCell, eqCells, nfill, lenOfSl, cls, fresults, fresl, fres1, gt_iff_lt, ge_iff_le, reduceCtorEq, Nat.reduceAdd, Nat.reduceMul, Nat.reduceSub, Nat.reduceLT, Nat.reduceLeDiff, Nat.reduceEqDiff, Nat.reduceBEq, Nat.reduceBNe, Int.reduceLT, Int.reduceLE, Int.reduceEq, Int.reduceNe, Int.reduceAdd, Int.reduceSub, Int.reduceNeg, Int.reduceToNat, Int.reduceMul, ↓reduceIte, Int.reduceGT, Int.reduceGE, f2, f3, f10, f11, f12, b2, b3, hv5, h1, decide_eq_false h2']
        refine grc_app (N := H.length + 2) (new := [.int .i64 e.tab, .int .i64 r.tk, .int .u64 (mV e r.tk).1, .int .u64 (mV e r.tk).2]) (out.ext Ext.app) (by simp only [List.length_append]; omega) (sliceCells_at (by simp (disch := first | omega | (simp only [List.length_append, List.length_cons, List.length_nil, length_hset, length_hkill]; omega)) only [↓fsPre, fsPost, fsCond, fsGen, npick, nbin, nun, nconv, nnilCheck, noff, nidxArr, nidxSl, nfield, npart, nindex, nextract, nlenSl, nlenStr, ncap, mmx, minmax2, nslice, nsliceArr, nbounds, obound, bound, adv, nbits, eqVal, eqCell, eqCells, nfill, lenOfSl, cls, fresults, fresl, fres1, gt_iff_lt, ge_iff_le, reduceCtorEq, Nat.reduceAdd, Nat.reduceMul, Nat.reduceSub, Nat.reduceLT, Nat.reduceLeDiff, Nat.reduceEqDiff, Nat.reduceBEq, Nat.reduceBNe, Int.reduceLT, Int.reduceLE, Int.reduceEq, Int.reduceNe, Int.reduceAdd, Int.reduceSub, Int.reduceNeg, Int.reduceToNat, Int.reduceMul, ↓reduceIte, Int.reduceGT, Int.reduceGE] <;> rfl) rfl) rfl (by omega) (by omega) rfl (by rw [tC_length]; omega) (by omega) (by omega) ?_
        intro v' h' hg' hl' old'
        simp only [List.length_append, List.length_cons, List.length_nil] at hl'
        rw [if_pos ⟨h1, h2⟩] at hstep
        simp (disch := first | omega | (simp only [List.length_append, List.length_cons, List.length_nil, length_hset, length_hkill]; omega)) only [↓fsPre, fsPost, fsCond, fsGen, npick, nbin, nun, nconv, nnilCheck, noff, nidxArr, nidxSl, nfield, npart, nindex, nextract, nlenSl, nlenStr, ncap, mmx, minmax2, nslice, nsliceArr, nbounds, obound, bound, adv, nbits, eqVal, eqCell, eqCells, nfill, lenOfSl, cls, fresults, fresl, fres1, gt_iff_lt, ge_iff_le, reduceCtorEq, Nat.reduceAdd, Nat.reduceMul, Nat.reduceSub, Nat.reduceLT, Nat.reduceLeDiff, Nat.reduceEqDiff, Nat.reduceBEq, Nat.reduceBNe, Int.reduceLT, Int.reduceLE, Int.reduceEq, Int.reduceNe, Int.reduceAdd, Int.reduceSub, Int.reduceNeg, Int.reduceToNat, Int.reduceMul, ↓reduceIte, Int.reduceGT, Int.reduceGE, f2, f3, f10, f11, f12]
        refine ⟨⟨by omega, fun q hq => (old' q (by omega)).trans ((hget_appl (by omega)).trans (old q hq)), (old' _ (by omega)).trans ((hget_appl (by omega)).trans b2), (old' _ (by omega)).trans ((hget_appl (by omega)).trans b3)⟩, ?_⟩
        rw [hstep, tC_append]
        have : tC [tgt r e] = [.int .i64 e.tab, .int .i64 r.tk, .int .u64 (mV e r.tk).1, .int .u64 (mV e r.tk).2] := by simp [tC, tgt, T4.cells, h1]
        rw [this]; exact hg'
    · simp (disch := first | omega | (simp only [List.length_append, List.length_cons, List.length_nil, length_hset, length_hkill]; omega)) only [↓fsPre, fsPost, fsCond, fsGen, npick, nbin, nun, nconv, nnilCheck, noff, nidxArr, nidxSl, nfield, npart, nindex, nextract, nlenSl, nlenStr, ncap, mmx, minmax2, nslice, nsliceArr, nbounds, obound, bound, adv, nbits, eqVal, eqCell, eqCells, nfill, lenOfSl, cls, fresults, fresl, fres1, gt_iff_lt, ge_iff_le, reduceCtorEq, Nat.reduceAdd, Nat.reduceMul, Nat.reduceSub, Nat.reduceLT, Nat.reduceLeDiff, Nat.reduceEqDiff, Nat.reduceBEq, Nat.reduceBNe, Int.reduceLT, Int.reduceLE, Int.reduceEq, Int.reduceNe, Int.reduceAdd, Int.reduceSub, Int.reduceNeg, Int.reduceToNat, Int.reduceMul, ↓reduceIte, Int.reduceGT, Int.reduceGE, f2, f3, f10, f11, f12, b2, b3, hv5, hb', hcr, Rf.cells, o0, o1, o2, o3, o4, o5, o6, o8, o9, om, oa, h1, nbool_undef, guardK_none]
      rw [if_neg (fun h => h1 h.1)] at hstep
      refine ⟨fin _, ?_⟩
      rw [hstep]; exact out.ext Ext.app
  · rintro F h ⟨f2, f3, f10, f11, f12, ⟨len, old, b2, b3⟩, out⟩
    rw [List.take_length] at out
    simp (disch := first | omega | (simp only [List.length_append, List.length_cons, List.length_nil, length_hset, length_hkill]; omega)) only [↓fsPre, fsPost, fsCond, fsGen, npick, nbin, nun, nconv, nnilCheck, noff, nidxArr, nidxSl, nfield, npart, nindex, nextract, nlenSl, nlenStr, ncap, mmx, minmax2, nslice, nsliceArr, nbounds, obound, bound, adv, nbits, eqVal, eqCell, eqCells, nfill, lenOfSl, cls, fresults, fresl, fres1, gt_iff_lt, ge_iff_le, reduceCtorEq, Nat.reduceAdd, Nat.reduceMul, Nat.reduceSub, Nat.reduceLT, Nat.reduceLeDiff, Nat.reduceEqDiff, Nat.reduceBEq, Nat.reduceBNe, Int.reduceLT, Int.reduceLE, Int.reduceEq, Int.reduceNe, Int.reduceAdd, Int.reduceSub, Int.reduceNeg, Int.reduceToNat, Int.reduceMul, ↓reduceIte, Int.reduceGT, Int.reduceGE, f2, f3, f10, f11, f12]
    exact ⟨Nat.le_trans (Nat.le_add_right _ 2) len, old, out.low (by omega)⟩

set_option maxHeartbeats 2000000 in
theorem rprovides_ok (N : Nat) (H : Heap) (R : List Rf) (z0 z1 z2 z3 z4 z5 z6 z7 z8 z9 : NV) (s : RfV H R z0 z1 z2 z3 z4 z5 z6 z7 z8 z9) (hR : R.length ≤ 10) (row : List NV) (e : En) (xE : EnAt H N row e) (hok : ∀ r ∈ R, RfOK r e) :
    DCall Try.prog 14 [.agg [z0, z1, z2, z3, z4, z5, z6, z7, z8, z9], .agg row] H (listQ H (provL R e)) := by
  obtain ⟨⟨o0, o1, o2, o3, o4, o5, o6, o8, o9⟩, b, c, cs, ro, rfl, hb, hcut⟩ := s
  obtain ⟨mv, av, rfl, om, oa, hms, has, hm, ha⟩ := xE.parts
  have hbl := hget_some_lt hb
  refine call_det E0 rfl mixed t14_ok (by kernel_rfl) (by rintro q ⟨h, _⟩; exact h) ?_
  simp only [t14]
  simp (disch := first | omega | (simp only [List.length_append, List.length_cons, List.length_nil, length_hset, length_hkill]; omega)) only [↓fsPre, fsPost, fsCond, fsGen, npick, nbin, nun, nconv, nnilCheck, noff, nidxArr, nidxSl, nfield, npart, nindex, nextract, nlenSl, nlenStr, ncap, mmx, minmax2, nslice, nsliceArr, nbounds, obound, bound, adv, nbits, eqVal, eqCell, eqCells, nfill, lenOfSl, cls, fresults, fresl, fres1, gt_iff_lt, ge_iff_le, reduceCtorEq, Nat.reduceAdd, Nat.reduceMul, Nat.reduceSub, Nat.reduceLT, Nat.reduceLeDiff, Nat.reduceEqDiff, Nat.reduceBEq, Nat.reduceBNe, Int.reduceLT, Int.reduceLE, Int.reduceEq, Int.reduceNe, Int.reduceAdd, Int.reduceSub, Int.reduceNeg, Int.reduceToNat, Int.reduceMul, ↓reduceIte, Int.reduceGT, Int.reduceGE, o0, o1, o2, o3, o4, o5, o6, o8, o9, om, oa]
  refine wloop (fun k F h => F 2 = .ptr (some (H.length, 0)) ∧ F 3 = .ptr (some (H.length + 1, 0)) ∧ F 13 = .slice (some (b, 0)) R.length c ∧ F 14 = .int .i64 R.length ∧ F 15 = .int .i64 k ∧
    NdI H [z0, z1, z2, z3, z4, z5, z6, .slice (some (b, 0)) R.length c, z8, z9] [.int .i64 e.tab, mv, .int .i64 e.pr, .int .i64 e.act, av] h ∧ GrC h (H.length + 2) (tC (provL (R.take k) e)) 4 (F 5)) R.length ?_ ?_ ?_
  · simp (disch := first | omega | (simp only [List.length_append, List.length_cons, List.length_nil, length_hset, length_hkill]; omega)) only [↓fsPre, fsPost, fsCond, fsGen, npick, nbin, nun, nconv, nnilCheck, noff, nidxArr, nidxSl, nfield, npart, nindex, nextract, nlenSl, nlenStr, ncap, mmx, minmax2, nslice, nsliceArr, nbounds, obound, bound, adv, nbits, eqVal, eqCell, eqCells, nfill, lenOfSl, cls, fresults, fresl, fres1, gt_iff_lt, ge_iff_le, reduceCtorEq, Nat.reduceAdd, Nat.reduceMul, Nat.reduceSub, Nat.reduceLT, Nat.reduceLeDiff, Nat.reduceEqDiff, Nat.reduceBEq, Nat.reduceBNe, Int.reduceLT, Int.reduceLE, Int.reduceEq, Int.reduceNe, Int.reduceAdd, Int.reduceSub, Int.reduceNeg, Int.reduceToNat, Int.reduceMul, ↓reduceIte, Int.reduceGT, Int.reduceGE]
    exact ⟨⟨by simp, fun q hq => hget_appl hq, by simp (disch := first | omega | (simp only [List.length_append, List.length_cons, List.length_nil, length_hset, length_hkill]; omega)) only [↓fsPre, fsPost, fsCond, fsGen, npick, nbin, nun, nconv, nnilCheck, noff, nidxArr, nidxSl, nfield, npart, nindex, nextract, nlenSl, nlenStr, ncap, mmx, minmax2, nslice, nsliceArr, nbounds, obound, bound, adv, nbits, eqVal, eqCell, eqCells, nfill, lenOfSl, cls, fresults, fresl, fres1, gt_iff_lt, ge_iff_le, reduceCtorEq, Nat.reduceAdd, Nat.reduceMul, Nat.reduceSub, Nat.reduceLT, Nat.reduceLeDiff, Nat.reduceEqDiff, Nat.reduceBEq, Nat.reduceBNe, Int.reduceLT, Int.reduceLE, Int.reduceEq, Int.reduceNe, Int.reduceAdd, Int.reduceSub, Int.reduceNeg, Int.reduceToNat, Int.reduceMul, ↓reduceIte, Int.reduceGT, Int.reduceGE], by simp (disch := first | omega | (simp only [List.length_append, List.length_cons, List.length_nil, length_hset, length_hkill]; omega)) only [↓fsPre, fsPost, fsCond, fsGen, npick, nbin, nun, nconv, nnilCheck, noff, nidxArr, nidxSl, nfield, npart, nindex, nextract, nlenSl, nlenStr, ncap, mmx, minmax2, nslice, nsliceArr, nbounds, obound, bound, adv, nbits, eqVal, eqCell, eqCells, nfill, lenOfSl, cls, fresults, fresl, fres1, gt_iff_lt, ge_iff_le, reduceCtorEq, Nat.reduceAdd, Nat.reduceMul, Nat.reduceSub, Nat.reduceLT, Nat.reduceLeDiff, Nat.reduceEqDiff, Nat.reduceBEq, Nat.reduceBNe, Int.reduceLT, Int.reduceLE, Int.reduceEq, Int.reduceNe, Int.reduceAdd, Int.reduceSub, Int.reduceNeg, Int.reduceToNat, Int.reduceMul, ↓reduceIte, Int.reduceGT, Int.reduceGE]⟩, .nil⟩
  · rintro k F h hk ⟨f2, f3, f13, f14, f15, ⟨len, old, b2, b3⟩, out⟩
    have hb' : hget h b = some (.cells cs ro) := by rw [old b hbl]; exact hb
    have hcr := hcut k hk
    have hr := hok _ (List.getElem_mem hk)
    have hstep := provL_snoc (R.take k) R[k] e
    have htk : R.take (k + 1) = R.take k ++ [R[k]] := by rw [List.take_add_one, List.getElem?_eq_getElem hk]; rfl
    rw [← htk] at hstep
    have hle := provL_le (R.take k) e
    rw [List.length_take] at hle
    generalize R[k] = r at *
    generalize hv5 : F 5 = v5 at *
    have o5v := out.one
    obtain ⟨ht1, ht2⟩ := hr.t
    obtain ⟨bm, csm, hmv, hbm, hcm⟩ := hm _ hr.t
    have hbml := hget_some_lt hbm
    have hbm' : hget h bm = some (.cells csm false) := by rw [old bm hbml]; exact hbm
    have fin : ∀ (L : Heap), NdI H [z0, z1, z2, z3, z4, z5, z6, .slice (some (b, 0)) R.length c, z8, z9] [.int .i64 e.tab, mv, .int .i64 e.pr, .int .i64 e.act, av] (h ++ L) := fun L => ⟨by rw [List.length_append]; omega, fun q hq => (hget_appl (by omega)).trans (old q hq), (hget_appl (by omega)).trans b2, (hget_appl (by omega)).trans b3⟩
    have b3' := b3
    rw [hmv] at b3'
    by_cases h1 : r.tt = e.tab
    · obtain ⟨a5, c5, hv5s, hrow5⟩ := grc_list out
      simp (disch := first | omega | (simp only [List.length_append, List.length_cons, List.length_nil, length_hset, length_hkill]; omega)) only [↓fsPre, fsPost, fsCond, fsGen, npick, nbin, nun, nconv, nnilCheck, noff, nidxArr, nidxSl, nfield, npart, nindex, nextract, nlenSl, nlenStr, ncap, mmx, minmax2, nslice, nsliceArr, nbounds, obound, bound, adv, nbits, eqVal, eqCell, eqCells, nfill, lenOfSl, cls, fresults, fresl, fres1, gt_iff_lt, ge_iff_le, reduceCtorEq, Nat.reduceAdd, Nat.reduceMul, Nat.reduceSub, Nat.reduceLT, Nat.reduceLeDiff, Nat.reduceEqDiff, Nat.reduceBEq, Nat.reduceBNe, Int.reduceLT, Int.reduceLE, Int.reduceEq, Int.reduceNe, Int.reduceAdd, Int.reduceSub, Int.reduceNeg, Int.reduceToNat, Int.reduceMul, ↓reduceIte, Int.reduceGT, Int.reduceGE, f2, f3, f13, f14, f15, b2, b3', hv5, hb', hcr, Rf.cells, o0, o1, o2, o3, o4, o5, o6, o8, o9, om, oa, h1, hbm', hcm, hv5s]
      have htl : tgt r e = ⟨e.tab, r.tk, (mV e r.tk).1, (mV e r.tk).2⟩ := by simp [tgt, h1]
      generalize hP : provL (R.take k) e = P at *
      refine wloop (fun i F h' => F 2 = .ptr (some (H.length, 0)) ∧ F 3 = .ptr (some (H.length + 1, 0)) ∧ F 13 = .slice (some (b, 0)) R.length c ∧ F 14 = .int .i64 R.length ∧ F 15 = .int .i64 k ∧ F 5 = v5 ∧ F 8 = .ptr (some (h.length + 1, 0)) ∧ F 36 = .slice a5 P.length c5 ∧ F 37 = .int .i64 P.length ∧ F 38 = .int .i64 i ∧
        F 9 = .bool (decide (tgt r e ∈ P.take i)) ∧ ∃ J, h' = h ++ some (.cells [.int .i64 r.tab, .int .i64 r.key, .int .i64 r.act, .int .i64 r.par, .int .i64 e.tab, .int .i64 r.tk] false) :: some (.cells [.int .i64 e.tab, .int .i64 r.tk, .int .u64 (mV e r.tk).1, .int .u64 (mV e r.tk).2] false) :: J) P.length ?_ ?_ ?_
      · simp (disch := first | omega | (simp only [List.length_append, List.length_cons, List.length_nil, length_hset, length_hkill]; omega)) only [↓fsPre, fsPost, fsCond, fsGen, npick, nbin, nun, nconv, nnilCheck, noff, nidxArr, nidxSl, nfield, npart, nindex, nextract, nlenSl, nlenStr, ncap, mmx, minmax2, nslice, nsliceArr, nbounds, obound, bound, adv, nbits, eqVal, eqCell, eqCells, nfill, lenOfSl, cls, fresults, fresl, fres1, gt_iff_lt, ge_iff_le, reduceCtorEq, Nat.reduceAdd, Nat.reduceMul, Nat.reduceSub, Nat.reduceLT, Nat.reduceLeDiff, Nat.reduceEqDiff, Nat.reduceBEq, Nat.reduceBNe, Int.reduceLT, Int.reduceLE, Int.reduceEq, Int.reduceNe, Int.reduceAdd, Int.reduceSub, Int.reduceNeg, Int.reduceToNat, Int.reduceMul, ↓reduceIte, Int.reduceGT, Int.reduceGE, f2, f3, f13, f14, f15, hv5]
        first | exact ⟨hv5s.symm, by simp, _, rfl⟩ | exact ⟨by simp, _, rfl⟩ | exact ⟨_, rfl⟩ | exact ⟨hv5s.symm, _, rfl⟩
      · clear f2 f3 f13 f14 f15 hv5 F
        rintro i F h' hi ⟨f2, f3, f13, f14, f15, f5, f8, f36, f37, f38, f9, J, rfl⟩
        obtain ⟨b5, rfl, hb5, hc5⟩ := hrow5 i hi
        have hb5l := hget_some_lt hb5
        have hmt := mem_take_succ P (tgt r e) i hi
        rw [htl] at hmt f9 ⊢
        generalize P[i] = x at *
        by_cases h2 : (⟨e.tab, r.tk, (mV e r.tk).1, (mV e r.tk).2⟩ : T4) ∈ P.take i
        · have h3 := hmt.2 (.inl h2)
          simp (disch := first | omega | (simp only [List.length_append, List.length_cons, List.length_nil, length_hset, length_hkill]; omega)) only [↓fsPre, fsPost, fsCond, fsGen, npick, nbin, nun, nconv, nnilCheck, noff, nidxArr, nidxSl, nfield, npart, nindex, nextract, nlenSl, nlenStr, ncap, mmx, minmax2, nslice, nsliceArr, nbounds, obound, bound, adv, nbits, eqVal, eqCell, eqCells, nfill, lenOfSl, cls, fresults, fresl, fres1, gt_iff_lt, ge_iff_le, reduceCtorEq, Nat.reduceAdd, Nat.reduceMul, Nat.reduceSub, Nat.reduceLT, Nat.reduceLeDiff, Nat.reduceEqDiff, Nat.reduceBEq, Nat.reduceBNe, Int.reduceLT, Int.reduceLE, Int.reduceEq, Int.reduceNe, Int.reduceAdd, Int.reduceSub, Int.reduceNeg, Int.reduceToNat, Int.reduceMul, ↓reduceIte, Int.reduceGT, Int.reduceGE, f2, f3, f13, f14, f15, f5, f8, f36, f37, f38, f9, hb5, hc5, T4.cells, decide_eq_true h2, decide_eq_true h3]
          exact ⟨_, rfl⟩
        · have hd : decide ((⟨e.tab, r.tk, (mV e r.tk).1, (mV e r.tk).2⟩ : T4) ∈ P.take (i + 1)) = decide (x.tab = e.tab ∧ x.key = r.tk ∧ x.v1 = (mV e r.tk).1 ∧ x.v2 = (mV e r.tk).2) := by
            rw [decide_eq_decide, hmt]
            constructor
            · rintro (h | h)
              · exact absurd h h2
              · rw [← h]; exact ⟨rfl, rfl, rfl, rfl⟩
            · intro h
              right
              exact ((t4_eq x ⟨e.tab, r.tk, (mV e r.tk).1, (mV e r.tk).2⟩).1 h).symm
          simp (disch := first | omega | (simp only [List.length_append, List.length_cons, List.length_nil, length_hset, length_hkill]; omega)) only [↓fsPre, fsPost, fsCond, fsGen, npick, nbin, nun, nconv, nnilCheck, noff, nidxArr, nidxSl, nfield, npart, nindex, nextract, nlenSl, nlenStr, ncap, mmx, minmax2, nslice, nsliceArr, nbounds, obound, bound, adv, nbits, eqVal, eqCell, eqCells, nfill, lenOfSl, cls, fresults, fresl, fres1, gt_iff_lt, ge_iff_le, reduceCtorEq, Nat.reduceAdd, Nat.reduceMul, Nat.reduceSub, Nat.reduceLT, Nat.reduceLeDiff, Nat.reduceEqDiff, Nat.reduceBEq, Nat.reduceBNe, Int.reduceLT, Int.reduceLE, Int.reduceEq, Int.reduceNe, Int.reduceAdd, Int.reduceSub, Int.reduceNeg, Int.reduceToNat, Int.reduceMul, ↓reduceIte, Int.reduceGT, Int.reduceGE, f2, f3, f13, f14, f15, f5, f8, f36, f37, f38, f9, hb5, hc5, T4.cells, decide_eq_false h2, hd]
          exact ⟨_, rfl⟩
      · clear f2 f3 f13 f14 f15 hv5 F
        rintro F h' ⟨f2, f3, f13, f14, f15, f5, f8, f36, f37, f38, f9, J, rfl⟩
        rw [List.take_length] at f9
        by_cases h2 : tgt r e ∈ P
        · simp (disch := first | omega | (simp only [List.length_append, List.length_cons, List.length_nil, length_hset, length_hkill]; omega)) only [↓fsPre, fsPost, fsCond, fsGen, npick, nbin, nun, nconv, nnilCheck, noff, nidxArr, nidxSl, nfield, npart, nindex, nextract, nlenSl, nlenStr, ncap, mmx, minmax2, nslice, nsliceArr, nbounds, obound, bound, adv, nbits, eqVal, eqCell, eqCells, nfill, lenOfSl, cls, fresults, fresl, fres1, gt_iff_lt, ge_iff_le, reduceCtorEq, Nat.reduceAdd, Nat.reduceMul, Nat.reduceSub, Nat.reduceLT, Nat.reduceLeDiff, Nat.reduceEqDiff, Nat.reduceBEq, Nat.reduceBNe, Int.reduceLT, Int.reduceLE, Int.reduceEq, Int.reduceNe, Int.reduceAdd, Int.reduceSub, Int.reduceNeg, Int.reduceToNat, Int.reduceMul, ↓reduceIte, Int.reduceGT, Int.reduceGE, f2, f3, f13, f14, f15, f5, f8, f36, f37, f38, f9, decide_eq_true h2]
          rw [if_neg (fun h => h.2 h2)] at hstep
          refine ⟨fin _, ?_⟩
          rw [hstep]; exact out.ext Ext.app
        · simp (disch := first | omega | (simp only [List.length_append, List.length_cons, List.length_nil, length_hset, length_hkill]; omega)) only [↓fsPre, fsPost, fsCond, fsGen, npick, nbin, nun, nconv, nnilCheck, noff, nidxArr, nidxSl, nfield, npart, nindex, nextract, nlenSl, nlenStr, ncap, mmx, minmax2, nslice, nsliceArr, nbounds, obound, bound, adv, nbits, eqVal, eqCell, eqCells, nfill, lenOfSl, cls, fresults, fresl, fres1, gt_iff_lt, ge_iff_le, reduceCtorEq, Nat.reduceAdd, Nat.reduceMul, Nat.reduceSub, Nat.reduceLT, Nat.reduceLeDiff, Nat.reduceEqDiff, Nat.reduceBEq, Nat.reduceBNe, Int.reduceLT, Int.reduceLE, Int.reduceEq, Int.reduceNe, Int.reduceAdd, Int.reduceSub, Int.reduceNeg, Int.reduceToNat, Int.reduceMul, ↓reduceIte, Int.reduceGT, Int.reduceGE, f2, f3, f13, f14, f15, f5, f8, f36, f37, f38, f9, decide_eq_false h2]
          refine grc_app (N := H.length + 2) (new := [.int .i64 e.tab, .int .i64 r.tk, .int .u64 (mV e r.tk).1, .int .u64 (mV e r.tk).2]) (out.ext Ext.app) (by simp only [List.length_append]; omega) (sliceCells_at (by simp (disch := first | omega | (simp only [List.length_append, List.length_cons, List.length_nil, length_hset, length_hkill]; omega)) only [↓fsPre, fsPost, fsCond, fsGen, npick, nbin, nun, nconv, nnilCheck, noff, nidxArr, nidxSl, nfield, npart, nindex, nextract, nlenSl, nlenStr, ncap, mmx, minmax2, nslice, nsliceArr, nbounds, obound, bound, adv, nbits, eqVal, eqCell, eqCells, nfill, lenOfSl, cls, fresults, fresl, fres1, gt_iff_lt, ge_iff_le, reduceCtorEq, Nat.reduceAdd, Nat.reduceMul, Nat.reduceSub, Nat.reduceLT, Nat.reduceLeDiff, Nat.reduceEqDiff, Nat.reduceBEq, Nat.reduceBNe, Int.reduceLT, Int.reduceLE, Int.reduceEq, Int.reduceNe, Int.reduceAdd, Int.reduceSub, Int.reduceNeg, Int.reduceToNat, Int.reduceMul, ↓reduceIte, Int.reduceGT, Int.reduceGE] <;> rfl) rfl) rfl (by omega) (by omega) rfl (by rw [tC_length]; omega) (by omega) (by omega) ?_
          intro v' h' hg' hl' old'
          simp only [List.length_append, List.length_cons, List.length_nil] at hl'
          rw [if_pos ⟨h1, h2⟩] at hstep
          simp (disch := first | omega | (simp only [List.length_append, List.length_cons, List.length_nil, length_hset, length_hkill]; omega)) only [↓fsPre, fsPost, fsCond, fsGen, npick, nbin, nun, nconv, nnilCheck, noff, nidxArr, nidxSl, nfield, npart, nindex, nextract, nlenSl, nlenStr, ncap, mmx, minmax2, nslice, nsliceArr, nbounds, obound, bound, adv, nbits, eqVal, eqCell, eqCells, nfill, lenOfSl, cls, fresults, fresl, fres1, gt_iff_lt, ge_iff_le, reduceCtorEq, Nat.reduceAdd, Nat.reduceMul, Nat.reduceSub, Nat.reduceLT, Nat.reduceLeDiff, Nat.reduceEqDiff, Nat.reduceBEq, Nat.reduceBNe, Int.reduceLT, Int.reduceLE, Int.reduceEq, Int.reduceNe, Int.reduceAdd, Int.reduceSub, Int.reduceNeg, Int.reduceToNat, Int.reduceMul, ↓reduceIte, Int.reduceGT, Int.reduceGE, f2, f3, f13, f14, f15]
          refine ⟨⟨by omega, fun q hq => (old' q (by omega)).trans ((hget_appl (by omega) : hget _ q = hget h q).trans (old q hq)), (old' _ (by omega)).trans ((hget_appl (by omega) : hget _ H.length = hget h H.length).trans b2), (old' _ (by omega)).trans ((hget_appl (by omega) : hget _ (H.length + 1) = hget h (H.length + 1)).trans b3)⟩, ?_⟩
          rw [hstep, tC_append]
          have : tC [tgt r e] = [.int .i64 e.tab, .int .i64 r.tk, .int .u64 (mV e r.tk).1, .int .u64 (mV e r.tk).2] := by simp [tC, tgt, T4.cells, h1]
          rw [this]; exact hg'
    · simp (disch := first | omega | (simp only [List.length_append, List.length_cons, List.length_nil, length_hset, length_hkill]; omega)) only [↓fsPre, fsPost, fsCond, fsGen, npick, nbin, nun, nconv, nnilCheck, noff, nidxArr, nidxSl, nfield, npart, nindex, nextract, nlenSl, nlenStr, ncap, mmx, minmax2, nslice, nsliceArr, nbounds, obound, bound, adv, nbits, eqVal, eqCell, eqCells, nfill, lenOfSl, cls, fresults, fresl, fres1, gt_iff_lt, ge_iff_le, reduceCtorEq, Nat.reduceAdd, Nat.reduceMul, Nat.reduceSub, Nat.reduceLT, Nat.reduceLeDiff, Nat.reduceEqDiff, Nat.reduceBEq, Nat.reduceBNe, Int.reduceLT, Int.reduceLE, Int.reduceEq, Int.reduceNe, Int.reduceAdd, Int.reduceSub, Int.reduceNeg, Int.reduceToNat, Int.reduceMul, ↓reduceIte, Int.reduceGT, Int.reduceGE, f2, f3, f13, f14, f15, b2, b3', hv5, hb', hcr, Rf.cells, o0, o1, o2, o3, o4, o5, o6, o8, o9, om, oa, h1]
      rw [if_neg (fun h => h1 h.1)] at hstep
      refine ⟨fin _, ?_⟩
      rw [hstep]; exact out.ext Ext.app
  · rintro F h ⟨f2, f3, f13, f14, f15, ⟨len, old, b2, b3⟩, out⟩
    rw [List.take_length] at out
    simp (disch := first | omega | (simp only [List.length_append, List.length_cons, List.length_nil, length_hset, length_hkill]; omega)) only [↓fsPre, fsPost, fsCond, fsGen, npick, nbin, nun, nconv, nnilCheck, noff, nidxArr, nidxSl, nfield, npart, nindex, nextract, nlenSl, nlenStr, ncap, mmx, minmax2, nslice, nsliceArr, nbounds, obound, bound, adv, nbits, eqVal, eqCell, eqCells, nfill, lenOfSl, cls, fresults, fresl, fres1, gt_iff_lt, ge_iff_le, reduceCtorEq, Nat.reduceAdd, Nat.reduceMul, Nat.reduceSub, Nat.reduceLT, Nat.reduceLeDiff, Nat.reduceEqDiff, Nat.reduceBEq, Nat.reduceBNe, Int.reduceLT, Int.reduceLE, Int.reduceEq, Int.reduceNe, Int.reduceAdd, Int.reduceSub, Int.reduceNeg, Int.reduceToNat, Int.reduceMul, ↓reduceIte, Int.reduceGT, Int.reduceGE, f2, f3, f13, f14, f15]
    exact ⟨Nat.le_trans (Nat.le_add_right _ 2) len, old, out.low (by omega)⟩
end Go.Proofs
