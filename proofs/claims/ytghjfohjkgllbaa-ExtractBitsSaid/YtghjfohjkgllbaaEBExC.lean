/- Ex6, Ex7 in one text. -/
import Derived.Test.YtghjfohjkgllbaaEBEx5
set_option linter.unusedSimpArgs false
set_option linter.unusedVariables false
set_option maxRecDepth 10000
namespace Go.Proofs
open Go.Ns

/-- Bytes that lie somewhere. -/
def BytesAt (h : Heap) (v : NV) (m : Nat) (d : Nat → BitVec 8) : Prop :=
  (m = 0 ∧ v = .slice none 0 (.fix 0)) ∨ ∃ b o c cs ro, v = .slice (some (b, o)) m c ∧ hget h b = some (.cells cs ro) ∧ cut cs o m = some (arrC m fun i => n8 (d i))
theorem BytesAt.one {h : Heap} {v : NV} {m : Nat} {d : Nat → BitVec 8} (x : BytesAt h v m d) : v.one = true := by
  rcases x with ⟨_, rfl⟩ | ⟨_, _, _, _, _, rfl, _⟩ <;> rfl
theorem BytesAt.mono {h h' : Heap} {v : NV} {m : Nat} {d : Nat → BitVec 8} (x : BytesAt h v m d) (e : ∀ b, b < h.length → hget h' b = hget h b) : BytesAt h' v m d := by
  rcases x with x | ⟨b, o, c, cs, ro, h1, h2, h3⟩
  · exact .inl x
  · exact .inr ⟨b, o, c, cs, ro, h1, by rw [e b (hget_lt h2)]; exact h2, h3⟩
/-- What is left of a packet of 'm' bytes behind 'o'. -/
def RestAt (h : Heap) (N : Nat) (v : NV) (m : Nat) (d : Nat → BitVec 8) (o : Nat) : Prop :=
  (m = 0 ∧ o = 0 ∧ ∃ a, v = .slice a 0 (.fix 0) ∧ ∀ b o, a = some (b, o) → N ≤ b) ∨ ∃ b, N ≤ b ∧ v = .slice (some (b, o)) (m - o) (.opn 1) ∧ o ≤ m ∧ hget h b = some (.cells (arrC m fun i => n8 (d i)) false)
theorem RestAt.one {h : Heap} {N : Nat} {v : NV} {m : Nat} {d : Nat → BitVec 8} {o : Nat} (x : RestAt h N v m d o) : v.one = true := by
  rcases x with ⟨_, _, _, rfl, _⟩ | ⟨_, _, rfl, _⟩ <;> rfl
theorem RestAt.flat {h : Heap} {N : Nat} {v : NV} {m : Nat} {d : Nat → BitVec 8} {o : Nat} (x : RestAt h N v m d o) : v.flat = true ∧ v.cells = [v] := by
  rcases x with ⟨_, _, _, rfl, _⟩ | ⟨_, _, rfl, _⟩ <;> exact ⟨rfl, rfl⟩
theorem RestAt.bytes {h : Heap} {N : Nat} {v : NV} {m : Nat} {d : Nat → BitVec 8} (x : RestAt h N v m d 0) (hn : v ≠ .slice none 0 (.fix 0) ∨ True) : (m = 0 ∧ ∃ a, v = .slice a 0 (.fix 0)) ∨ BytesAt h v m d := by
  rcases x with ⟨h1, _, a, h2, _⟩ | ⟨b, _, h2, _, h3⟩
  · exact .inl ⟨h1, a, h2⟩
  · exact .inr (.inr ⟨b, 0, _, _, _, h2, h3, by rw [arrC_cut (by omega)]; simp⟩)

theorem RestAt.keep {h h' : Heap} {N N' : Nat} {v : NV} {m : Nat} {d : Nat → BitVec 8} {o : Nat} (x : RestAt h N v m d o) (hn : N' ≤ N) (e : ∀ b, (∃ o n c, v = .slice (some (b, o)) n c) → hget h' b = hget h b) : RestAt h' N' v m d o := by
  rcases x with ⟨h1, h2, a, h3, h4⟩ | ⟨b, h1, h2, h3, h4⟩
  · exact .inl ⟨h1, h2, a, h3, fun b o e => Nat.le_trans hn (h4 b o e)⟩
  · exact .inr ⟨b, by omega, h2, h3, by rw [e b ⟨_, _, _, h2⟩]; exact h4⟩
theorem RestAt.low {h : Heap} {N : Nat} {v : NV} {m : Nat} {d : Nat → BitVec 8} {o : Nat} (x : RestAt h N v m d o) {b o' n : Nat} {c : Cap} (e : v = .slice (some (b, o')) n c) : N ≤ b := by
  rcases x with ⟨h1, h2, a, h3, h4⟩ | ⟨b', h1, h2, h3, h4⟩
  · rw [h3] at e; cases e; exact h4 _ _ rfl
  · rw [h2] at e; cases e; exact h1

theorem cloneV_ok (H : Heap) (b n : Nat) (c : Cap) (fl : List (BitVec 128)) (hb : hget H b = some (.cells (vals fl) false)) (hn : fl.length = n) (h0 : 0 < n) (h1 : n ≤ 1000) :
    NCall Try.prog 53 [.slice (some (b, 0)) n c] H fun r => r = (.slice (some (H.length, 0)) n (.opn 2), H ++ [some (.cells (vals fl) false)]) := by
  have hbl := hget_some_lt hb
  refine call_new1 E0 mixed t53_ok (fun b => .slice (some (b, 0)) n (.opn 2)) (.cells (vals fl) false) (by kernel_rfl) (fun g _ => rfl) vals_lo ?_
  simp only [t53]
  simp (disch := first | omega | (simp only [List.length_append, List.length_cons, List.length_nil, length_hset, length_hkill]; omega)) only [↓fsPre, fsPost, fsCond, fsGen, npick, nbin, nun, nconv, nnilCheck, noff, nidxArr, nidxSl, nfield, npart, nindex, nextract, nlenSl, nlenStr, ncap, mmx, minmax2, nslice, nsliceArr, nbounds, obound, bound, adv, nbits, eqVal, eqCell, eqCells, nfill, lenOfSl, cls, fresults, fresl, fres1, gt_iff_lt, ge_iff_le, reduceCtorEq, Nat.reduceAdd, Nat.reduceMul, Nat.reduceSub, Nat.reduceLT, Nat.reduceLeDiff, Nat.reduceEqDiff, Nat.reduceBEq, Nat.reduceBNe, Int.reduceLT, Int.reduceLE, Int.reduceEq, Int.reduceNe, Int.reduceAdd, Int.reduceSub, Int.reduceNeg, Int.reduceToNat, Int.reduceMul, ↓reduceIte, Int.reduceGT, Int.reduceGE]
  refine app_fix (n := n) (new := vals fl) (sliceCells_at (by simp (disch := first | omega | (simp only [List.length_append, List.length_cons, List.length_nil, length_hset, length_hkill]; omega)) only [↓fsPre, fsPost, fsCond, fsGen, npick, nbin, nun, nconv, nnilCheck, noff, nidxArr, nidxSl, nfield, npart, nindex, nextract, nlenSl, nlenStr, ncap, mmx, minmax2, nslice, nsliceArr, nbounds, obound, bound, adv, nbits, eqVal, eqCell, eqCells, nfill, lenOfSl, cls, fresults, fresl, fres1, gt_iff_lt, ge_iff_le, reduceCtorEq, Nat.reduceAdd, Nat.reduceMul, Nat.reduceSub, Nat.reduceLT, Nat.reduceLeDiff, Nat.reduceEqDiff, Nat.reduceBEq, Nat.reduceBNe, Int.reduceLT, Int.reduceLE, Int.reduceEq, Int.reduceNe, Int.reduceAdd, Int.reduceSub, Int.reduceNeg, Int.reduceToNat, Int.reduceMul, ↓reduceIte, Int.reduceGT, Int.reduceGE, hb] <;> rfl) (by unfold cut; rw [if_pos (by rw [vals_length]; omega)]; simp [List.take_of_length_le, vals_length, hn])) rfl (by omega) (by omega) (old := []) (by simp [sliceCells]) ?_
  simp (disch := first | omega | (simp only [List.length_append, List.length_cons, List.length_nil, length_hset, length_hkill]; omega)) only [↓fsPre, fsPost, fsCond, fsGen, npick, nbin, nun, nconv, nnilCheck, noff, nidxArr, nidxSl, nfield, npart, nindex, nextract, nlenSl, nlenStr, ncap, mmx, minmax2, nslice, nsliceArr, nbounds, obound, bound, adv, nbits, eqVal, eqCell, eqCells, nfill, lenOfSl, cls, fresults, fresl, fres1, gt_iff_lt, ge_iff_le, reduceCtorEq, Nat.reduceAdd, Nat.reduceMul, Nat.reduceSub, Nat.reduceLT, Nat.reduceLeDiff, Nat.reduceEqDiff, Nat.reduceBEq, Nat.reduceBNe, Int.reduceLT, Int.reduceLE, Int.reduceEq, Int.reduceNe, Int.reduceAdd, Int.reduceSub, Int.reduceNeg, Int.reduceToNat, Int.reduceMul, ↓reduceIte, Int.reduceGT, Int.reduceGE]
  exact ⟨_, 1, rfl, rfl, rfl⟩
theorem cloneB_ok (H : Heap) (b n : Nat) (c : Cap) (vl : List Bool) (hb : hget H b = some (.cells (bools vl) false)) (hn : vl.length = n) (h0 : 0 < n) (h1 : n ≤ 1000) :
    NCall Try.prog 54 [.slice (some (b, 0)) n c] H fun r => r = (.slice (some (H.length, 0)) n (.opn 1), H ++ [some (.cells (bools vl) false)]) := by
  have hbl := hget_some_lt hb
  refine call_new1 E0 mixed t54_ok (fun b => .slice (some (b, 0)) n (.opn 1)) (.cells (bools vl) false) (by kernel_rfl) (fun g _ => rfl) bools_lo ?_
  simp only [t54]
  simp (disch := first | omega | (simp only [List.length_append, List.length_cons, List.length_nil, length_hset, length_hkill]; omega)) only [↓fsPre, fsPost, fsCond, fsGen, npick, nbin, nun, nconv, nnilCheck, noff, nidxArr, nidxSl, nfield, npart, nindex, nextract, nlenSl, nlenStr, ncap, mmx, minmax2, nslice, nsliceArr, nbounds, obound, bound, adv, nbits, eqVal, eqCell, eqCells, nfill, lenOfSl, cls, fresults, fresl, fres1, gt_iff_lt, ge_iff_le, reduceCtorEq, Nat.reduceAdd, Nat.reduceMul, Nat.reduceSub, Nat.reduceLT, Nat.reduceLeDiff, Nat.reduceEqDiff, Nat.reduceBEq, Nat.reduceBNe, Int.reduceLT, Int.reduceLE, Int.reduceEq, Int.reduceNe, Int.reduceAdd, Int.reduceSub, Int.reduceNeg, Int.reduceToNat, Int.reduceMul, ↓reduceIte, Int.reduceGT, Int.reduceGE]
  refine app_fix (n := n) (new := bools vl) (sliceCells_at (by simp (disch := first | omega | (simp only [List.length_append, List.length_cons, List.length_nil, length_hset, length_hkill]; omega)) only [↓fsPre, fsPost, fsCond, fsGen, npick, nbin, nun, nconv, nnilCheck, noff, nidxArr, nidxSl, nfield, npart, nindex, nextract, nlenSl, nlenStr, ncap, mmx, minmax2, nslice, nsliceArr, nbounds, obound, bound, adv, nbits, eqVal, eqCell, eqCells, nfill, lenOfSl, cls, fresults, fresl, fres1, gt_iff_lt, ge_iff_le, reduceCtorEq, Nat.reduceAdd, Nat.reduceMul, Nat.reduceSub, Nat.reduceLT, Nat.reduceLeDiff, Nat.reduceEqDiff, Nat.reduceBEq, Nat.reduceBNe, Int.reduceLT, Int.reduceLE, Int.reduceEq, Int.reduceNe, Int.reduceAdd, Int.reduceSub, Int.reduceNeg, Int.reduceToNat, Int.reduceMul, ↓reduceIte, Int.reduceGT, Int.reduceGE, hb] <;> rfl) (by unfold cut; rw [if_pos (by rw [bools_length]; omega)]; simp [List.take_of_length_le, bools_length, hn])) rfl (by omega) (by omega) (old := []) (by simp [sliceCells]) ?_
  simp (disch := first | omega | (simp only [List.length_append, List.length_cons, List.length_nil, length_hset, length_hkill]; omega)) only [↓fsPre, fsPost, fsCond, fsGen, npick, nbin, nun, nconv, nnilCheck, noff, nidxArr, nidxSl, nfield, npart, nindex, nextract, nlenSl, nlenStr, ncap, mmx, minmax2, nslice, nsliceArr, nbounds, obound, bound, adv, nbits, eqVal, eqCell, eqCells, nfill, lenOfSl, cls, fresults, fresl, fres1, gt_iff_lt, ge_iff_le, reduceCtorEq, Nat.reduceAdd, Nat.reduceMul, Nat.reduceSub, Nat.reduceLT, Nat.reduceLeDiff, Nat.reduceEqDiff, Nat.reduceBEq, Nat.reduceBNe, Int.reduceLT, Int.reduceLE, Int.reduceEq, Int.reduceNe, Int.reduceAdd, Int.reduceSub, Int.reduceNeg, Int.reduceToNat, Int.reduceMul, ↓reduceIte, Int.reduceGT, Int.reduceGE]
  exact ⟨_, 1, rfl, rfl, rfl⟩
theorem cloneY_ok (H : Heap) (v : NV) (n : Nat) (d : Nat → BitVec 8) (hb : BytesAt H v n d ∨ n = 0 ∧ ∃ a, v = .slice a 0 (.fix 0)) (h1 : n ≤ 1000) :
    DCall Try.prog 31 [v] H fun r => (∃ L, r.2 = H ++ L) ∧ RestAt r.2 H.length r.1 n d 0 := by
  refine call_det E0 rfl mixed t31_ok (by kernel_rfl) (by rintro q ⟨⟨L, h⟩, _⟩; rw [h]; simp) ?_
  simp only [t31]
  rcases hb with (⟨rfl, rfl⟩ | ⟨b, o, c, cs, ro, rfl, hb, hc⟩) | ⟨rfl, a, rfl⟩
  · simp (disch := first | omega | (simp only [List.length_append, List.length_cons, List.length_nil, length_hset, length_hkill]; omega)) only [↓fsPre, fsPost, fsCond, fsGen, npick, nbin, nun, nconv, nnilCheck, noff, nidxArr, nidxSl, nfield, npart, nindex, nextract, nlenSl, nlenStr, ncap, mmx, minmax2, nslice, nsliceArr, nbounds, obound, bound, adv, nbits, eqVal, eqCell, eqCells, nfill, lenOfSl, cls, fresults, fresl, fres1, gt_iff_lt, ge_iff_le, reduceCtorEq, Nat.reduceAdd, Nat.reduceMul, Nat.reduceSub, Nat.reduceLT, Nat.reduceLeDiff, Nat.reduceEqDiff, Nat.reduceBEq, Nat.reduceBNe, Int.reduceLT, Int.reduceLE, Int.reduceEq, Int.reduceNe, Int.reduceAdd, Int.reduceSub, Int.reduceNeg, Int.reduceToNat, Int.reduceMul, ↓reduceIte, Int.reduceGT, Int.reduceGE]
    exact ⟨⟨[], by simp⟩, .inl ⟨rfl, rfl, _, rfl, fun _ _ e => by cases e⟩⟩
  · have hbl := hget_some_lt hb
    simp (disch := first | omega | (simp only [List.length_append, List.length_cons, List.length_nil, length_hset, length_hkill]; omega)) only [↓fsPre, fsPost, fsCond, fsGen, npick, nbin, nun, nconv, nnilCheck, noff, nidxArr, nidxSl, nfield, npart, nindex, nextract, nlenSl, nlenStr, ncap, mmx, minmax2, nslice, nsliceArr, nbounds, obound, bound, adv, nbits, eqVal, eqCell, eqCells, nfill, lenOfSl, cls, fresults, fresl, fres1, gt_iff_lt, ge_iff_le, reduceCtorEq, Nat.reduceAdd, Nat.reduceMul, Nat.reduceSub, Nat.reduceLT, Nat.reduceLeDiff, Nat.reduceEqDiff, Nat.reduceBEq, Nat.reduceBNe, Int.reduceLT, Int.reduceLE, Int.reduceEq, Int.reduceNe, Int.reduceAdd, Int.reduceSub, Int.reduceNeg, Int.reduceToNat, Int.reduceMul, ↓reduceIte, Int.reduceGT, Int.reduceGE]
    by_cases h0 : n = 0
    · subst h0
      refine app_fix0 (by simp [sliceCells]) rfl (by omega) ?_
      simp (disch := first | omega | (simp only [List.length_append, List.length_cons, List.length_nil, length_hset, length_hkill]; omega)) only [↓fsPre, fsPost, fsCond, fsGen, npick, nbin, nun, nconv, nnilCheck, noff, nidxArr, nidxSl, nfield, npart, nindex, nextract, nlenSl, nlenStr, ncap, mmx, minmax2, nslice, nsliceArr, nbounds, obound, bound, adv, nbits, eqVal, eqCell, eqCells, nfill, lenOfSl, cls, fresults, fresl, fres1, gt_iff_lt, ge_iff_le, reduceCtorEq, Nat.reduceAdd, Nat.reduceMul, Nat.reduceSub, Nat.reduceLT, Nat.reduceLeDiff, Nat.reduceEqDiff, Nat.reduceBEq, Nat.reduceBNe, Int.reduceLT, Int.reduceLE, Int.reduceEq, Int.reduceNe, Int.reduceAdd, Int.reduceSub, Int.reduceNeg, Int.reduceToNat, Int.reduceMul, ↓reduceIte, Int.reduceGT, Int.reduceGE]
      exact ⟨⟨_, rfl⟩, .inl ⟨rfl, rfl, _, rfl, fun _ _ e => by cases e; exact Nat.le_refl _⟩⟩
    refine app_fix (n := n) (new := arrC n fun i => n8 (d i)) (sliceCells_at (by simp (disch := first | omega | (simp only [List.length_append, List.length_cons, List.length_nil, length_hset, length_hkill]; omega)) only [↓fsPre, fsPost, fsCond, fsGen, npick, nbin, nun, nconv, nnilCheck, noff, nidxArr, nidxSl, nfield, npart, nindex, nextract, nlenSl, nlenStr, ncap, mmx, minmax2, nslice, nsliceArr, nbounds, obound, bound, adv, nbits, eqVal, eqCell, eqCells, nfill, lenOfSl, cls, fresults, fresl, fres1, gt_iff_lt, ge_iff_le, reduceCtorEq, Nat.reduceAdd, Nat.reduceMul, Nat.reduceSub, Nat.reduceLT, Nat.reduceLeDiff, Nat.reduceEqDiff, Nat.reduceBEq, Nat.reduceBNe, Int.reduceLT, Int.reduceLE, Int.reduceEq, Int.reduceNe, Int.reduceAdd, Int.reduceSub, Int.reduceNeg, Int.reduceToNat, Int.reduceMul, ↓reduceIte, Int.reduceGT, Int.reduceGE, hb] <;> rfl) (by rw [Nat.mul_one]; exact hc)) rfl (by omega) (by omega) (old := []) (by simp [sliceCells]) ?_
    simp (disch := first | omega | (simp only [List.length_append, List.length_cons, List.length_nil, length_hset, length_hkill]; omega)) only [↓fsPre, fsPost, fsCond, fsGen, npick, nbin, nun, nconv, nnilCheck, noff, nidxArr, nidxSl, nfield, npart, nindex, nextract, nlenSl, nlenStr, ncap, mmx, minmax2, nslice, nsliceArr, nbounds, obound, bound, adv, nbits, eqVal, eqCell, eqCells, nfill, lenOfSl, cls, fresults, fresl, fres1, gt_iff_lt, ge_iff_le, reduceCtorEq, Nat.reduceAdd, Nat.reduceMul, Nat.reduceSub, Nat.reduceLT, Nat.reduceLeDiff, Nat.reduceEqDiff, Nat.reduceBEq, Nat.reduceBNe, Int.reduceLT, Int.reduceLE, Int.reduceEq, Int.reduceNe, Int.reduceAdd, Int.reduceSub, Int.reduceNeg, Int.reduceToNat, Int.reduceMul, ↓reduceIte, Int.reduceGT, Int.reduceGE]
    exact ⟨⟨_, rfl⟩, .inr ⟨_, by omega, rfl, by omega, by simp (disch := first | omega | (simp only [List.length_append, List.length_cons, List.length_nil, length_hset, length_hkill]; omega)) only [↓fsPre, fsPost, fsCond, fsGen, npick, nbin, nun, nconv, nnilCheck, noff, nidxArr, nidxSl, nfield, npart, nindex, nextract, nlenSl, nlenStr, ncap, mmx, minmax2, nslice, nsliceArr, nbounds, obound, bound, adv, nbits, eqVal, eqCell, eqCells, nfill, lenOfSl, cls, fresults, fresl, fres1, gt_iff_lt, ge_iff_le, reduceCtorEq, Nat.reduceAdd, Nat.reduceMul, Nat.reduceSub, Nat.reduceLT, Nat.reduceLeDiff, Nat.reduceEqDiff, Nat.reduceBEq, Nat.reduceBNe, Int.reduceLT, Int.reduceLE, Int.reduceEq, Int.reduceNe, Int.reduceAdd, Int.reduceSub, Int.reduceNeg, Int.reduceToNat, Int.reduceMul, ↓reduceIte, Int.reduceGT, Int.reduceGE]⟩⟩
  · rcases a with _ | ⟨b, o⟩
    · simp (disch := first | omega | (simp only [List.length_append, List.length_cons, List.length_nil, length_hset, length_hkill]; omega)) only [↓fsPre, fsPost, fsCond, fsGen, npick, nbin, nun, nconv, nnilCheck, noff, nidxArr, nidxSl, nfield, npart, nindex, nextract, nlenSl, nlenStr, ncap, mmx, minmax2, nslice, nsliceArr, nbounds, obound, bound, adv, nbits, eqVal, eqCell, eqCells, nfill, lenOfSl, cls, fresults, fresl, fres1, gt_iff_lt, ge_iff_le, reduceCtorEq, Nat.reduceAdd, Nat.reduceMul, Nat.reduceSub, Nat.reduceLT, Nat.reduceLeDiff, Nat.reduceEqDiff, Nat.reduceBEq, Nat.reduceBNe, Int.reduceLT, Int.reduceLE, Int.reduceEq, Int.reduceNe, Int.reduceAdd, Int.reduceSub, Int.reduceNeg, Int.reduceToNat, Int.reduceMul, ↓reduceIte, Int.reduceGT, Int.reduceGE]
      exact ⟨⟨[], by simp⟩, .inl ⟨rfl, rfl, _, rfl, fun _ _ e => by cases e⟩⟩
    · simp (disch := first | omega | (simp only [List.length_append, List.length_cons, List.length_nil, length_hset, length_hkill]; omega)) only [↓fsPre, fsPost, fsCond, fsGen, npick, nbin, nun, nconv, nnilCheck, noff, nidxArr, nidxSl, nfield, npart, nindex, nextract, nlenSl, nlenStr, ncap, mmx, minmax2, nslice, nsliceArr, nbounds, obound, bound, adv, nbits, eqVal, eqCell, eqCells, nfill, lenOfSl, cls, fresults, fresl, fres1, gt_iff_lt, ge_iff_le, reduceCtorEq, Nat.reduceAdd, Nat.reduceMul, Nat.reduceSub, Nat.reduceLT, Nat.reduceLeDiff, Nat.reduceEqDiff, Nat.reduceBEq, Nat.reduceBNe, Int.reduceLT, Int.reduceLE, Int.reduceEq, Int.reduceNe, Int.reduceAdd, Int.reduceSub, Int.reduceNeg, Int.reduceToNat, Int.reduceMul, ↓reduceIte, Int.reduceGT, Int.reduceGE]
      refine app_fix0 (by simp [sliceCells]) rfl (by omega) ?_
      simp (disch := first | omega | (simp only [List.length_append, List.length_cons, List.length_nil, length_hset, length_hkill]; omega)) only [↓fsPre, fsPost, fsCond, fsGen, npick, nbin, nun, nconv, nnilCheck, noff, nidxArr, nidxSl, nfield, npart, nindex, nextract, nlenSl, nlenStr, ncap, mmx, minmax2, nslice, nsliceArr, nbounds, obound, bound, adv, nbits, eqVal, eqCell, eqCells, nfill, lenOfSl, cls, fresults, fresl, fres1, gt_iff_lt, ge_iff_le, reduceCtorEq, Nat.reduceAdd, Nat.reduceMul, Nat.reduceSub, Nat.reduceLT, Nat.reduceLeDiff, Nat.reduceEqDiff, Nat.reduceBEq, Nat.reduceBNe, Int.reduceLT, Int.reduceLE, Int.reduceEq, Int.reduceNe, Int.reduceAdd, Int.reduceSub, Int.reduceNeg, Int.reduceToNat, Int.reduceMul, ↓reduceIte, Int.reduceGT, Int.reduceGE]
      exact ⟨⟨_, rfl⟩, .inl ⟨rfl, rfl, _, rfl, fun _ _ e => by cases e; exact Nat.le_refl _⟩⟩

/-- A context that lies in a heap, in blocks from N on. -/
def CxAt (A : XA) (h : Heap) (N : Nat) (m : Nat) (d : Nat → BitVec 8) (fl : List (BitVec 128)) (vl : List Bool) (o : Nat) (st : Int) (v : NV) : Prop :=
  ∃ bF bV cF cV vR, v = .agg (cxCells (.slice (some (bF, 0)) A.l.length cF) (.slice (some (bV, 0)) A.hl.length cV) vR st) ∧ N ≤ bF ∧ N ≤ bV ∧ bF ≠ bV ∧ hget h bF = some (.cells (vals fl) false) ∧ hget h bV = some (.cells (bools vl) false) ∧
    fl.length = A.l.length ∧ vl.length = A.hl.length ∧ RestAt h N vR m d o ∧ ∀ b o n c, vR = .slice (some (b, o)) n c → b ≠ bF ∧ b ≠ bV

set_option maxHeartbeats 1000000 in
theorem copied_ok (A : XA) (H : Heap) (N m : Nat) (d : Nat → BitVec 8) (fl : List (BitVec 128)) (vl : List Bool) (st : Int) (v : NV) (hc : CxAt A H N m d fl vl 0 st v) (h1 : 0 < A.l.length ∧ A.l.length ≤ 100 ∧ 0 < A.hl.length ∧ A.hl.length ≤ 100 ∧ m ≤ 1000) :
    DCall Try.prog 34 [v] H fun r => (∃ L, r.2 = H ++ L) ∧ CxAt A r.2 H.length m d fl vl 0 st r.1 := by
  obtain ⟨bF, bV, cF, cV, vR, rfl, _, _, _, hF, hV, lF, lV, hR, _⟩ := hc
  obtain ⟨k1, k2, k3, k4, k5⟩ := h1
  have lF' := hget_some_lt hF
  have lV' := hget_some_lt hV
  have oR := hR.one
  have hR' : BytesAt H vR m d ∨ m = 0 ∧ ∃ a, vR = .slice a 0 (.fix 0) := (hR.bytes (.inr trivial)).symm
  refine call_det E0 rfl mixed t34_ok (by kernel_rfl) (by rintro q ⟨⟨L, h⟩, _⟩; rw [h]; simp) ?_
  simp only [t34, cxCells]
  simp (disch := first | omega | (simp only [List.length_append, List.length_cons, List.length_nil, length_hset, length_hkill]; omega)) only [↓fsPre, fsPost, fsCond, fsGen, npick, nbin, nun, nconv, nnilCheck, noff, nidxArr, nidxSl, nfield, npart, nindex, nextract, nlenSl, nlenStr, ncap, mmx, minmax2, nslice, nsliceArr, nbounds, obound, bound, adv, nbits, eqVal, eqCell, eqCells, nfill, lenOfSl, cls, fresults, fresl, fres1, gt_iff_lt, ge_iff_le, reduceCtorEq, Nat.reduceAdd, Nat.reduceMul, Nat.reduceSub, Nat.reduceLT, Nat.reduceLeDiff, Nat.reduceEqDiff, Nat.reduceBEq, Nat.reduceBNe, Int.reduceLT, Int.reduceLE, Int.reduceEq, Int.reduceNe, Int.reduceAdd, Int.reduceSub, Int.reduceNeg, Int.reduceToNat, Int.reduceMul, ↓reduceIte, Int.reduceGT, Int.reduceGE, oR]
  refine callDT_one (cloneV_ok _ bF _ cF fl (by simp (disch := first | omega | (simp only [List.length_append, List.length_cons, List.length_nil, length_hset, length_hkill]; omega)) only [↓fsPre, fsPost, fsCond, fsGen, npick, nbin, nun, nconv, nnilCheck, noff, nidxArr, nidxSl, nfield, npart, nindex, nextract, nlenSl, nlenStr, ncap, mmx, minmax2, nslice, nsliceArr, nbounds, obound, bound, adv, nbits, eqVal, eqCell, eqCells, nfill, lenOfSl, cls, fresults, fresl, fres1, gt_iff_lt, ge_iff_le, reduceCtorEq, Nat.reduceAdd, Nat.reduceMul, Nat.reduceSub, Nat.reduceLT, Nat.reduceLeDiff, Nat.reduceEqDiff, Nat.reduceBEq, Nat.reduceBNe, Int.reduceLT, Int.reduceLE, Int.reduceEq, Int.reduceNe, Int.reduceAdd, Int.reduceSub, Int.reduceNeg, Int.reduceToNat, Int.reduceMul, ↓reduceIte, Int.reduceGT, Int.reduceGE, hF]) lF k1 (by omega)) rfl ?_
  simp (disch := first | omega | (simp only [List.length_append, List.length_cons, List.length_nil, length_hset, length_hkill]; omega)) only [↓fsPre, fsPost, fsCond, fsGen, npick, nbin, nun, nconv, nnilCheck, noff, nidxArr, nidxSl, nfield, npart, nindex, nextract, nlenSl, nlenStr, ncap, mmx, minmax2, nslice, nsliceArr, nbounds, obound, bound, adv, nbits, eqVal, eqCell, eqCells, nfill, lenOfSl, cls, fresults, fresl, fres1, gt_iff_lt, ge_iff_le, reduceCtorEq, Nat.reduceAdd, Nat.reduceMul, Nat.reduceSub, Nat.reduceLT, Nat.reduceLeDiff, Nat.reduceEqDiff, Nat.reduceBEq, Nat.reduceBNe, Int.reduceLT, Int.reduceLE, Int.reduceEq, Int.reduceNe, Int.reduceAdd, Int.reduceSub, Int.reduceNeg, Int.reduceToNat, Int.reduceMul, ↓reduceIte, Int.reduceGT, Int.reduceGE, oR]
  refine callDT_one (cloneB_ok _ bV _ cV vl (by simp (disch := first | omega | (simp only [List.length_append, List.length_cons, List.length_nil, length_hset, length_hkill]; omega)) only [↓fsPre, fsPost, fsCond, fsGen, npick, nbin, nun, nconv, nnilCheck, noff, nidxArr, nidxSl, nfield, npart, nindex, nextract, nlenSl, nlenStr, ncap, mmx, minmax2, nslice, nsliceArr, nbounds, obound, bound, adv, nbits, eqVal, eqCell, eqCells, nfill, lenOfSl, cls, fresults, fresl, fres1, gt_iff_lt, ge_iff_le, reduceCtorEq, Nat.reduceAdd, Nat.reduceMul, Nat.reduceSub, Nat.reduceLT, Nat.reduceLeDiff, Nat.reduceEqDiff, Nat.reduceBEq, Nat.reduceBNe, Int.reduceLT, Int.reduceLE, Int.reduceEq, Int.reduceNe, Int.reduceAdd, Int.reduceSub, Int.reduceNeg, Int.reduceToNat, Int.reduceMul, ↓reduceIte, Int.reduceGT, Int.reduceGE, hV]) lV k3 (by omega)) rfl ?_
  simp (disch := first | omega | (simp only [List.length_append, List.length_cons, List.length_nil, length_hset, length_hkill]; omega)) only [↓fsPre, fsPost, fsCond, fsGen, npick, nbin, nun, nconv, nnilCheck, noff, nidxArr, nidxSl, nfield, npart, nindex, nextract, nlenSl, nlenStr, ncap, mmx, minmax2, nslice, nsliceArr, nbounds, obound, bound, adv, nbits, eqVal, eqCell, eqCells, nfill, lenOfSl, cls, fresults, fresl, fres1, gt_iff_lt, ge_iff_le, reduceCtorEq, Nat.reduceAdd, Nat.reduceMul, Nat.reduceSub, Nat.reduceLT, Nat.reduceLeDiff, Nat.reduceEqDiff, Nat.reduceBEq, Nat.reduceBNe, Int.reduceLT, Int.reduceLE, Int.reduceEq, Int.reduceNe, Int.reduceAdd, Int.reduceSub, Int.reduceNeg, Int.reduceToNat, Int.reduceMul, ↓reduceIte, Int.reduceGT, Int.reduceGE, oR]
  refine callDT_D (cloneY_ok _ vR m d (hR'.imp (fun x => x.mono fun b hb => by simp (disch := first | omega | (simp only [List.length_append, List.length_cons, List.length_nil, length_hset, length_hkill]; omega)) only [↓fsPre, fsPost, fsCond, fsGen, npick, nbin, nun, nconv, nnilCheck, noff, nidxArr, nidxSl, nfield, npart, nindex, nextract, nlenSl, nlenStr, ncap, mmx, minmax2, nslice, nsliceArr, nbounds, obound, bound, adv, nbits, eqVal, eqCell, eqCells, nfill, lenOfSl, cls, fresults, fresl, fres1, gt_iff_lt, ge_iff_le, reduceCtorEq, Nat.reduceAdd, Nat.reduceMul, Nat.reduceSub, Nat.reduceLT, Nat.reduceLeDiff, Nat.reduceEqDiff, Nat.reduceBEq, Nat.reduceBNe, Int.reduceLT, Int.reduceLE, Int.reduceEq, Int.reduceNe, Int.reduceAdd, Int.reduceSub, Int.reduceNeg, Int.reduceToNat, Int.reduceMul, ↓reduceIte, Int.reduceGT, Int.reduceGE]) id) k5) rfl ?_
  rintro v h' ⟨⟨L, e⟩, hr⟩
  simp only at e hr
  subst e
  have ov := hr.one
  obtain ⟨of, oc⟩ := hr.flat
  simp (disch := first | omega | (simp only [List.length_append, List.length_cons, List.length_nil, length_hset, length_hkill]; omega)) only [↓fsPre, fsPost, fsCond, fsGen, npick, nbin, nun, nconv, nnilCheck, noff, nidxArr, nidxSl, nfield, npart, nindex, nextract, nlenSl, nlenStr, ncap, mmx, minmax2, nslice, nsliceArr, nbounds, obound, bound, adv, nbits, eqVal, eqCell, eqCells, nfill, lenOfSl, cls, fresults, fresl, fres1, gt_iff_lt, ge_iff_le, reduceCtorEq, Nat.reduceAdd, Nat.reduceMul, Nat.reduceSub, Nat.reduceLT, Nat.reduceLeDiff, Nat.reduceEqDiff, Nat.reduceBEq, Nat.reduceBNe, Int.reduceLT, Int.reduceLE, Int.reduceEq, Int.reduceNe, Int.reduceAdd, Int.reduceSub, Int.reduceNeg, Int.reduceToNat, Int.reduceMul, ↓reduceIte, Int.reduceGT, Int.reduceGE, oR, ov, of, oc]
  simp only [List.length_append, List.length_cons, List.length_nil] at hr
  refine ⟨⟨_, rfl⟩, H.length + 2, H.length + 3, _, _, v, rfl, by omega, by omega, by omega, by simp (disch := first | omega | (simp only [List.length_append, List.length_cons, List.length_nil, length_hset, length_hkill]; omega)) only [↓fsPre, fsPost, fsCond, fsGen, npick, nbin, nun, nconv, nnilCheck, noff, nidxArr, nidxSl, nfield, npart, nindex, nextract, nlenSl, nlenStr, ncap, mmx, minmax2, nslice, nsliceArr, nbounds, obound, bound, adv, nbits, eqVal, eqCell, eqCells, nfill, lenOfSl, cls, fresults, fresl, fres1, gt_iff_lt, ge_iff_le, reduceCtorEq, Nat.reduceAdd, Nat.reduceMul, Nat.reduceSub, Nat.reduceLT, Nat.reduceLeDiff, Nat.reduceEqDiff, Nat.reduceBEq, Nat.reduceBNe, Int.reduceLT, Int.reduceLE, Int.reduceEq, Int.reduceNe, Int.reduceAdd, Int.reduceSub, Int.reduceNeg, Int.reduceToNat, Int.reduceMul, ↓reduceIte, Int.reduceGT, Int.reduceGE], by simp (disch := first | omega | (simp only [List.length_append, List.length_cons, List.length_nil, length_hset, length_hkill]; omega)) only [↓fsPre, fsPost, fsCond, fsGen, npick, nbin, nun, nconv, nnilCheck, noff, nidxArr, nidxSl, nfield, npart, nindex, nextract, nlenSl, nlenStr, ncap, mmx, minmax2, nslice, nsliceArr, nbounds, obound, bound, adv, nbits, eqVal, eqCell, eqCells, nfill, lenOfSl, cls, fresults, fresl, fres1, gt_iff_lt, ge_iff_le, reduceCtorEq, Nat.reduceAdd, Nat.reduceMul, Nat.reduceSub, Nat.reduceLT, Nat.reduceLeDiff, Nat.reduceEqDiff, Nat.reduceBEq, Nat.reduceBNe, Int.reduceLT, Int.reduceLE, Int.reduceEq, Int.reduceNe, Int.reduceAdd, Int.reduceSub, Int.reduceNeg, Int.reduceToNat, Int.reduceMul, ↓reduceIte, Int.reduceGT, Int.reduceGE], lF, lV, hr.keep (by omega) ?_, ?_⟩
  · rintro b ⟨o, n, c, e⟩
    have := hr.low e
    obtain ⟨q, rfl⟩ : ∃ q, b = H.length + 4 + q := ⟨b - (H.length + 4), by omega⟩
    simp (disch := first | omega | (simp only [List.length_append, List.length_cons, List.length_nil, length_hset, length_hkill]; omega)) only [↓fsPre, fsPost, fsCond, fsGen, npick, nbin, nun, nconv, nnilCheck, noff, nidxArr, nidxSl, nfield, npart, nindex, nextract, nlenSl, nlenStr, ncap, mmx, minmax2, nslice, nsliceArr, nbounds, obound, bound, adv, nbits, eqVal, eqCell, eqCells, nfill, lenOfSl, cls, fresults, fresl, fres1, gt_iff_lt, ge_iff_le, reduceCtorEq, Nat.reduceAdd, Nat.reduceMul, Nat.reduceSub, Nat.reduceLT, Nat.reduceLeDiff, Nat.reduceEqDiff, Nat.reduceBEq, Nat.reduceBNe, Int.reduceLT, Int.reduceLE, Int.reduceEq, Int.reduceNe, Int.reduceAdd, Int.reduceSub, Int.reduceNeg, Int.reduceToNat, Int.reduceMul, ↓reduceIte, Int.reduceGT, Int.reduceGE]
    rw [Nat.add_comm 4 q]; rfl
  · intro b o n c e
    have := hr.low e
    omega

structure Cx where
  fl : List (BitVec 128)
  vl : List Bool
  o : Nat
  st : Nat
def XA.hdr (A : XA) (d : Nat → BitVec 8) (c : Cx) (k : Nat) : Cx := ⟨(A.run (fun i => d (c.o + i)) c.fl (A.hf k)).1, c.vl.set k true, c.o + A.sum (A.hf k) / 8, c.st⟩
def XA.fits (A : XA) (m : Nat) (c : Cx) (hd : Int) : Prop := hd = 0 ∨ A.sum (A.hf (A.hl.idxOf hd)) / 8 ≤ m - c.o
instance {A : XA} {m : Nat} {c : Cx} {hd : Int} : Decidable (A.fits m c hd) := by unfold XA.fits; infer_instance
def XA.ext (A : XA) (d : Nat → BitVec 8) (c : Cx) (hd : Int) : Cx := if hd = 0 then c else A.hdr d c (A.hl.idxOf hd)
def Cx.tick (c : Cx) : Cx := ⟨c.fl, c.vl, c.o, c.st + 1⟩
/-- What Parse comes to. -/
def XA.go (A : XA) (m : Nat) (d : Nat → BitVec 8) : Nat → Cx → Nat → Cx × Int
  | 0, c, _ => (c, 4)
  | k + 1, c, a => if A.fits m c.tick (A.sd a).hd then
      (let c2 := A.ext d c.tick (A.sd a).hd
       let id := A.next c2.fl (A.sd a)
       if id = 0 then (c2, 0) else if id = 65535 then (c2, 3) else A.go m d k c2 (A.sl.idxOf id))
    else (c.tick, 2)
def XA.parse (A : XA) (m : Nat) (d : Nat → BitVec 8) (c : Cx) : Cx × Int := if A.sl.length = 0 then (c, 0) else A.go m d (A.bud.toNat - c.st) c 0

structure CxP (A : XA) (h : Heap) (N p bF bV : Nat) (cF cV : Cap) (m : Nat) (d : Nat → BitVec 8) (c : Cx) : Prop where
  gp : p < N
  gF : N ≤ bF
  gV : N ≤ bV
  ne : bF ≠ bV
  hF : hget h bF = some (.cells (vals c.fl) false)
  hV : hget h bV = some (.cells (bools c.vl) false)
  lF : c.fl.length = A.l.length
  lV : c.vl.length = A.hl.length
  hp : ∃ vR, hget h p = some (.cells (cxCells (.slice (some (bF, 0)) A.l.length cF) (.slice (some (bV, 0)) A.hl.length cV) vR c.st) false) ∧ RestAt h N vR m d c.o ∧ ∀ b o n c, vR = .slice (some (b, o)) n c → b ≠ bF ∧ b ≠ bV

theorem CxP.keep {A : XA} {h h' : Heap} {N p bF bV : Nat} {cF cV : Cap} {m : Nat} {d : Nat → BitVec 8} {c : Cx} (x : CxP A h N p bF bV cF cV m d c) (e : ∀ b, b < h.length → hget h' b = hget h b) : CxP A h' N p bF bV cF cV m d c := by
  obtain ⟨vR, h1, h2, h3⟩ := x.hp
  refine ⟨x.gp, x.gF, x.gV, x.ne, by rw [e _ (hget_lt x.hF)]; exact x.hF, by rw [e _ (hget_lt x.hV)]; exact x.hV, x.lF, x.lV, vR, by rw [e _ (hget_lt h1)]; exact h1, ?_, h3⟩
  rcases h2 with h2 | ⟨b, h4, h5, h6, h7⟩
  · exact .inl h2
  · exact .inr ⟨b, h4, h5, h6, by rw [e _ (hget_lt h7)]; exact h7⟩

theorem XA.run_full (A : XA) (d : Nat → BitVec 8) (fl : List (BitVec 128)) (ids : List Int) : (A.run d fl ids).1.length = fl.length := by
  have := A.run_len d fl ids ids.length (Nat.le_refl _)
  rwa [List.take_length] at this

theorem header_D {A : XA} {H0 : Heap} {z0 z1 z2 z3 z4 z5 z6 z7 z8 z9 : NV} (x : XAt A H0 z0 z1 z2 z3 z4 z5 z6 z7 z8 z9) (H : Heap) (old : ∀ b, b < H0.length → hget H b = hget H0 b) {N p bF bV : Nat} {cF cV : Cap} {m : Nat} {d : Nat → BitVec 8} {c : Cx}
    (y : CxP A H N p bF bV cF cV m d c) (gp : H0.length ≤ p) (k : Nat) (hk : k < A.hl.length) (hm : m ≤ 1000) (hs : A.sum (A.hf k) / 8 ≤ m - c.o) :
    DCall Try.prog 35 [.agg [z0, z1, z2, z3, z4, z5, z6, z7, z8, z9], .ptr (some (p, 0)), .int .i64 k] H fun r => r.1 = .bool true ∧ r.2.length = H.length ∧ (∀ b, b ≠ p → b ≠ bF → b ≠ bV → hget r.2 b = hget H b) ∧ CxP A r.2 N p bF bV cF cV m d (A.hdr d c k) := by
  obtain ⟨g1, g2, g3, g4, hF, hV, lF, lV, vR, hp, hR, hsep⟩ := y
  have h8 := (x.ok.hf k hk).2.2.1
  rcases hR with ⟨h1, h2, _⟩ | ⟨b, h1, rfl, h3, h4⟩
  · exfalso; omega
  obtain ⟨n1, n2⟩ := hsep b c.o _ _ rfl
  have lp := hget_some_lt hp
  have lF' := hget_some_lt hF
  have lV' := hget_some_lt hV
  have lb := hget_some_lt h4
  refine ⟨_, _, header_ok x H old p bF bV b c.o m k cF cV c.st c.fl c.vl d gp (by omega) (by omega) (by omega) (by omega) (by omega) g4 (by omega) n1 n2 hp hF hV h4 lF lV hk h3 hm hs, rfl, by simp only [length_hset], fun b' e1 e2 e3 => ?_, ⟨g1, g2, g3, g4, ?_, ?_, ?_, ?_, .slice (some (b, c.o + A.sum (A.hf k) / 8)) (m - c.o - A.sum (A.hf k) / 8) (.opn 1), ?_, .inr ⟨b, h1, ?_, ?_, ?_⟩, ?_⟩⟩
  · show hget (hset (hset (hset H bF _) bV _) p _) b' = _
    rw [hget_hset_ne (Ne.symm e1), hget_hset_ne (Ne.symm e3), hget_hset_ne (Ne.symm e2)]
  · show hget (hset (hset (hset H bF _) bV _) p _) bF = _
    rw [hget_hset_ne (by omega), hget_hset_ne (Ne.symm g4), hget_hset_same lF']; rfl
  · show hget (hset (hset (hset H bF _) bV _) p _) bV = _
    rw [hget_hset_ne (by omega), hget_hset_same (by rw [length_hset]; exact lV')]; rfl
  · show (A.run _ _ _).1.length = _
    rw [A.run_full]; exact lF
  · show (c.vl.set k true).length = _
    rw [List.length_set]; exact lV
  · show hget (hset (hset (hset H bF _) bV _) p _) p = _
    rw [hget_hset_same (by rw [length_hset, length_hset]; exact lp)]; rfl
  · show NV.slice (some (b, c.o + A.sum (A.hf k) / 8)) (m - c.o - A.sum (A.hf k) / 8) (.opn 1) = .slice (some (b, c.o + A.sum (A.hf k) / 8)) (m - (c.o + A.sum (A.hf k) / 8)) (.opn 1)
    rw [Nat.sub_sub]
  · show c.o + A.sum (A.hf k) / 8 ≤ m
    omega
  · show hget (hset (hset (hset H bF _) bV _) p _) b = _
    rw [hget_hset_ne (by omega), hget_hset_ne (Ne.symm n2), hget_hset_ne (Ne.symm n1)]; exact h4
  · intro b' o' n' c' e
    cases e
    exact ⟨n1, n2⟩
theorem header_N {A : XA} {H0 : Heap} {z0 z1 z2 z3 z4 z5 z6 z7 z8 z9 : NV} (x : XAt A H0 z0 z1 z2 z3 z4 z5 z6 z7 z8 z9) (H : Heap) (old : ∀ b, b < H0.length → hget H b = hget H0 b) {N p bF bV : Nat} {cF cV : Cap} {m : Nat} {d : Nat → BitVec 8} {c : Cx}
    (y : CxP A H N p bF bV cF cV m d c) (gp : H0.length ≤ p) (k : Nat) (hk : k < A.hl.length) (hm : m ≤ 1000) (hs : ¬ A.sum (A.hf k) / 8 ≤ m - c.o) :
    NCall Try.prog 35 [.agg [z0, z1, z2, z3, z4, z5, z6, z7, z8, z9], .ptr (some (p, 0)), .int .i64 k] H fun r => r = (.bool false, H) := by
  obtain ⟨vR, hp, hR, hsep⟩ := y.hp
  rcases hR with ⟨h1, h2, a, rfl, _⟩ | ⟨b, h1, rfl, h3, h4⟩
  · exact header_short x H old p _ k _ _ _ _ _ gp hp hk (by omega) (by omega)
  · exact header_short x H old p _ k _ _ _ _ _ gp hp hk (by omega) (by omega)

theorem nextD {A : XA} {H : Heap} {z0 z1 z2 z3 z4 z5 z6 z7 z8 z9 : NV} (x : XAt A H z0 z1 z2 z3 z4 z5 z6 z7 z8 z9) {N p bF bV : Nat} {cF cV : Cap} {m : Nat} {d : Nat → BitVec 8} {c : Cx} (y : CxP A H N p bF bV cF cV m d c) (vR cv : NV) (id : Int) (s : XSt)
    (oR : vR.one = true) (hc : CasesAt H cv s.cases) (hs : s.sel = 0 ∨ s.sel ∈ A.l) (hl : s.cases.length ≤ 100) :
    NCall Try.prog 37 [.agg [z0, z1, z2, z3, z4, z5, z6, z7, z8, z9], .agg (cxCells (.slice (some (bF, 0)) A.l.length cF) (.slice (some (bV, 0)) A.hl.length cV) vR c.st), .agg [.int .i64 id, .int .i64 s.hd, .int .i64 s.sel, cv, .int .i64 s.dflt]] H
      fun r => r = (.int .i64 (A.next c.fl s), H) := by
  unfold XA.next
  by_cases h0 : s.sel = 0
  · rw [if_pos h0, h0]
    exact next0_ok x _ _ _ _ _ _ _ _ ⟨rfl, rfl, oR, hc.one⟩
  · rw [if_neg h0]
    exact next_ok' x bF cF _ _ _ _ _ _ _ _ _ _ ⟨rfl, oR⟩ y.hF y.lF (hs.resolve_left h0) h0 hc hl
end Go.Proofs
