/- Extract: a header. -/
import Derived.Test.YtghjfohjkgllbaaEBExB
set_option linter.unusedSimpArgs false
set_option linter.unusedVariables false
set_option maxRecDepth 10000
namespace Go.Proofs
open Go.Ns

def vcell (v : BitVec 128) : List NV := [nb (hiOf v), nb (loOf v)]
theorem vcell_length (v : BitVec 128) : (vcell v).length = 2 := rfl
def vals (l : List (BitVec 128)) : List NV := l.flatMap vcell
theorem vals_length (l : List (BitVec 128)) : (vals l).length = l.length * 2 := length_flatMap_enc vcell_length l
theorem vals_cut {l : List (BitVec 128)} {i : Nat} (hi : i < l.length) : cut (vals l) (i * 2) 2 = some [nb (hiOf l[i]), nb (loOf l[i])] := cut_flatMap vcell_length hi
theorem vals_set {l : List (BitVec 128)} {i : Nat} {v : BitVec 128} (hi : i < l.length) : splice (vals l) (i * 2) [nb (hiOf v), nb (loOf v)] = vals (l.set i v) := by
  unfold splice vals
  rw [take_flatMap vcell_length, List.set_eq_take_append_cons_drop, if_pos hi, List.flatMap_append, List.flatMap_cons]
  show _ ++ (vcell v ++ _) = _
  congr 2
  show (l.flatMap vcell).drop (i * 2 + 2) = _
  rw [show i * 2 + 2 = (i + 1) * 2 by omega, drop_flatMap vcell_length]
theorem vals_lo {l : List (BitVec 128)} {n : Nat} : NV.lows n (vals l) := by
  induction l with
  | nil => trivial
  | cons a l ih => exact ⟨trivial, trivial, ih⟩
def bools (l : List Bool) : List NV := l.map .bool
theorem bools_length (l : List Bool) : (bools l).length = l.length := by simp [bools]
theorem bools_get {l : List Bool} {i : Nat} (hi : i < l.length) : (bools l)[i]? = some (.bool l[i]) := by simp [bools, hi]
theorem bools_set {l : List Bool} {i : Nat} {b : Bool} (hi : i < l.length) : splice (bools l) i [.bool b] = bools (l.set i b) := by
  unfold splice bools
  rw [List.set_eq_take_append_cons_drop, if_pos hi, List.map_append, List.map_cons, List.map_take, List.map_drop]
  rfl
theorem bools_lo {l : List Bool} {n : Nat} : NV.lows n (bools l) := by
  induction l with
  | nil => trivial
  | cons a l ih => exact ⟨trivial, ih⟩

def XA.step (A : XA) (d : Nat → BitVec 8) (s : List (BitVec 128) × Nat) (id : Int) : List (BitVec 128) × Nat := (s.1.set (A.l.idxOf id) (takeV d s.2 (A.bits id)), s.2 + A.bits id)
def XA.run (A : XA) (d : Nat → BitVec 8) (fl : List (BitVec 128)) (ids : List Int) : List (BitVec 128) × Nat := ids.foldl (A.step d) (fl, 0)
theorem XA.run_step (A : XA) (d : Nat → BitVec 8) (fl : List (BitVec 128)) {ids : List Int} {j : Nat} (hj : j < ids.length) : A.run d fl (ids.take (j + 1)) = A.step d (A.run d fl (ids.take j)) ids[j] := by
  unfold XA.run
  rw [List.take_add_one, List.getElem?_eq_getElem hj, List.foldl_append]; rfl
theorem XA.run_2 (A : XA) (d : Nat → BitVec 8) (fl : List (BitVec 128)) (ids : List Int) : ∀ j, j ≤ ids.length → (A.run d fl (ids.take j)).2 = A.sum (ids.take j)
  | 0, _ => rfl
  | j + 1, h => by rw [A.run_step d fl (by omega), A.sum_step (by omega)]; show (A.run d fl (ids.take j)).2 + _ = _; rw [A.run_2 d fl ids j (by omega)]
theorem XA.run_len (A : XA) (d : Nat → BitVec 8) (fl : List (BitVec 128)) (ids : List Int) : ∀ j, j ≤ ids.length → (A.run d fl (ids.take j)).1.length = fl.length
  | 0, _ => rfl
  | j + 1, h => by rw [A.run_step d fl (by omega)]; show ((A.run d fl (ids.take j)).1.set _ _).length = _; rw [List.length_set, A.run_len d fl ids j (by omega)]

set_option maxHeartbeats 4000000 in
theorem header_ok {A : XA} {H0 : Heap} {z0 z1 z2 z3 z4 z5 z6 z7 z8 z9 : NV} (x : XAt A H0 z0 z1 z2 z3 z4 z5 z6 z7 z8 z9) (H : Heap) (old : ∀ b, b < H0.length → hget H b = hget H0 b)
    (p bF bV bR o nR k : Nat) (cF cV : Cap) (st : Int) (fl : List (BitVec 128)) (vl : List Bool) (d : Nat → BitVec 8) (gp : H0.length ≤ p) (gF : H0.length ≤ bF) (gV : H0.length ≤ bV) (gR : H0.length ≤ bR)
    (n1 : p ≠ bF) (n2 : p ≠ bV) (n3 : bF ≠ bV) (n4 : bR ≠ p) (n5 : bR ≠ bF) (n6 : bR ≠ bV)
    (hp : hget H p = some (.cells (cxCells (.slice (some (bF, 0)) A.l.length cF) (.slice (some (bV, 0)) A.hl.length cV) (.slice (some (bR, o)) (nR - o) (.opn 1)) st) false))
    (hF : hget H bF = some (.cells (vals fl) false)) (hV : hget H bV = some (.cells (bools vl) false)) (hR : hget H bR = some (.cells (arrC nR fun i => n8 (d i)) false)) (lF : fl.length = A.l.length) (lV : vl.length = A.hl.length)
    (hk : k < A.hl.length) (ho : o ≤ nR) (hN : nR ≤ 1000) (hsz : A.sum (A.hf k) / 8 ≤ nR - o) :
    NCall Try.prog 35 [.agg [z0, z1, z2, z3, z4, z5, z6, z7, z8, z9], .ptr (some (p, 0)), .int .i64 k] H fun r => r = (.bool true,
      hset (hset (hset H bF (.cells (vals (A.run (fun i => d (o + i)) fl (A.hf k)).1) false)) bV (.cells (bools (vl.set k true)) false)) p
        (.cells (cxCells (.slice (some (bF, 0)) A.l.length cF) (.slice (some (bV, 0)) A.hl.length cV) (.slice (some (bR, o + A.sum (A.hf k) / 8)) (nR - o - A.sum (A.hf k) / 8) (.opn 1)) st) false)) := by
  obtain ⟨o0, o1, o2, o3, o4, o5, o6, o7, o8, o9⟩ := x.ones
  have lp := hget_some_lt hp
  have lF' := hget_some_lt hF
  have lV' := hget_some_lt hV
  have lR := hget_some_lt hR
  obtain ⟨hl, hm, hs0, hs1, hs8⟩ := x.ok.hf k hk
  obtain ⟨bH, cH, csH, roH, rfl, hH, hrH⟩ := x.g
  obtain ⟨s, bI, cI, csI, roI, hcI, hI, hIc⟩ := hrH k hk
  have lH := hget_some_lt hH
  have lI := hget_some_lt hI
  have h0 : H0.length ≤ H.length := by
    rcases Nat.lt_or_ge H.length H0.length with h | h
    · exfalso; omega
    · exact h
  have hH' := (old _ lH).trans hH
  have hI' := (old _ lI).trans hI
  refine call_mod E0 mixed t35_ok _ _ (by kernel_rfl) (by simp only [length_hset]) trivial ?_ ?_
  · intro b y hy
    rcases hget_hset_or hy with hy | rfl
    · rcases hget_hset_or hy with hy | rfl
      · rcases hget_hset_or hy with hy | rfl
        · exact .inl hy
        · exact .inr vals_lo
      · exact .inr bools_lo
    · exact .inr ⟨lF', lV', lR, trivial, trivial, trivial⟩
  have xm := fun h (e : ∀ b, b < H0.length → hget h b = hget H0 b) => x.mono (h' := h) e
  have hb := fun h e hI => bitsOf_ok (xm h e) A.hl[k] s (A.hf k) bI cI csI roI hI hIc hl hm hs1
  have hfi := fun h e id => xfield_ok (xm h e) id
  have dq : Int.tdiv ((A.sum (A.hf k) : Nat) : Int) 8 = ((A.sum (A.hf k) / 8 : Nat) : Int) := by rw [Int.tdiv_eq_ediv_of_nonneg (by omega)]; omega
  have hh := fun i hi => cut_get (i := i) hcI hi
  have hh2 := hh 2 (by omega)
  have hlen : ((nR - o : Nat) : Int) = (nR : Int) - o := by omega
  simp only [t35, cxCells]
  unfold cxCells at hp
  simp (disch := first | omega | (simp only [List.length_append, List.length_cons, List.length_nil, length_hset, length_hkill]; omega)) only [↓fsPre, fsPost, fsCond, fsGen, npick, nbin, nun, nconv, nnilCheck, noff, nidxArr, nidxSl, nfield, npart, nindex, nextract, nlenSl, nlenStr, ncap, mmx, minmax2, nslice, nsliceArr, nbounds, obound, bound, adv, nbits, eqVal, eqCell, eqCells, nfill, lenOfSl, cls, fresults, fresl, fres1, gt_iff_lt, ge_iff_le, reduceCtorEq, Nat.reduceAdd, Nat.reduceMul, Nat.reduceSub, Nat.reduceLT, Nat.reduceLeDiff, Nat.reduceEqDiff, Nat.reduceBEq, Nat.reduceBNe, Int.reduceLT, Int.reduceLE, Int.reduceEq, Int.reduceNe, Int.reduceAdd, Int.reduceSub, Int.reduceNeg, Int.reduceToNat, Int.reduceMul, ↓reduceIte, Int.reduceGT, Int.reduceGE, o0, o2, o3, o4, o5, o6, o7, o8, o9, hH', hcI]
  refine callT_one (hb _ (fun b hb => by simp (disch := first | omega | (simp only [List.length_append, List.length_cons, List.length_nil, length_hset, length_hkill]; omega)) only [↓fsPre, fsPost, fsCond, fsGen, npick, nbin, nun, nconv, nnilCheck, noff, nidxArr, nidxSl, nfield, npart, nindex, nextract, nlenSl, nlenStr, ncap, mmx, minmax2, nslice, nsliceArr, nbounds, obound, bound, adv, nbits, eqVal, eqCell, eqCells, nfill, lenOfSl, cls, fresults, fresl, fres1, gt_iff_lt, ge_iff_le, reduceCtorEq, Nat.reduceAdd, Nat.reduceMul, Nat.reduceSub, Nat.reduceLT, Nat.reduceLeDiff, Nat.reduceEqDiff, Nat.reduceBEq, Nat.reduceBNe, Int.reduceLT, Int.reduceLE, Int.reduceEq, Int.reduceNe, Int.reduceAdd, Int.reduceSub, Int.reduceNeg, Int.reduceToNat, Int.reduceMul, ↓reduceIte, Int.reduceGT, Int.reduceGE]; exact old b hb) (by simp (disch := first | omega | (simp only [List.length_append, List.length_cons, List.length_nil, length_hset, length_hkill]; omega)) only [↓fsPre, fsPost, fsCond, fsGen, npick, nbin, nun, nconv, nnilCheck, noff, nidxArr, nidxSl, nfield, npart, nindex, nextract, nlenSl, nlenStr, ncap, mmx, minmax2, nslice, nsliceArr, nbounds, obound, bound, adv, nbits, eqVal, eqCell, eqCells, nfill, lenOfSl, cls, fresults, fresl, fres1, gt_iff_lt, ge_iff_le, reduceCtorEq, Nat.reduceAdd, Nat.reduceMul, Nat.reduceSub, Nat.reduceLT, Nat.reduceLeDiff, Nat.reduceEqDiff, Nat.reduceBEq, Nat.reduceBNe, Int.reduceLT, Int.reduceLE, Int.reduceEq, Int.reduceNe, Int.reduceAdd, Int.reduceSub, Int.reduceNeg, Int.reduceToNat, Int.reduceMul, ↓reduceIte, Int.reduceGT, Int.reduceGE, hI'])) rfl ?_
  simp (disch := first | omega | (simp only [List.length_append, List.length_cons, List.length_nil, length_hset, length_hkill]; omega)) only [↓fsPre, fsPost, fsCond, fsGen, npick, nbin, nun, nconv, nnilCheck, noff, nidxArr, nidxSl, nfield, npart, nindex, nextract, nlenSl, nlenStr, ncap, mmx, minmax2, nslice, nsliceArr, nbounds, obound, bound, adv, nbits, eqVal, eqCell, eqCells, nfill, lenOfSl, cls, fresults, fresl, fres1, gt_iff_lt, ge_iff_le, reduceCtorEq, Nat.reduceAdd, Nat.reduceMul, Nat.reduceSub, Nat.reduceLT, Nat.reduceLeDiff, Nat.reduceEqDiff, Nat.reduceBEq, Nat.reduceBNe, Int.reduceLT, Int.reduceLE, Int.reduceEq, Int.reduceNe, Int.reduceAdd, Int.reduceSub, Int.reduceNeg, Int.reduceToNat, Int.reduceMul, ↓reduceIte, Int.reduceGT, Int.reduceGE, dq, hp]
  refine wloop (fun j F h => F 2 = .int .i64 k ∧ F 3 = .ptr (some (H.length, 0)) ∧ F 4 = .ptr (some (H.length + 1, 0)) ∧ F 7 = .ptr (some (H.length + 2, 0)) ∧ F 8 = .int .i64 (A.sum (A.hf k) / 8 : Nat) ∧
    F 10 = .func (.func 56) [] [.ptr (some (H.length + 1, 0)), .ptr (some (H.length + 3, 0))] ∧ F 32 = .slice (some (bI, 0)) (A.hf k).length cI ∧ F 33 = .int .i64 (A.hf k).length ∧ F 34 = .int .i64 j ∧
    h = hset H bF (.cells (vals (A.run (fun i => d (o + i)) fl ((A.hf k).take j)).1) false) ++ [some (.cells [z0, .slice (some (bH, 0)) A.hl.length cH, z2, z3, z4, z5, z6, z7, z8, z9] false), some (.cells [.ptr (some (p, 0))] false), some (.cells [.int .i64 A.hl[k], .str s, .slice (some (bI, 0)) (A.hf k).length cI] false), some (.cells [.int .i64 (A.sum ((A.hf k).take j))] false)]) (A.hf k).length ?_ ?_ ?_
  · simp (disch := first | omega | (simp only [List.length_append, List.length_cons, List.length_nil, length_hset, length_hkill]; omega)) only [↓fsPre, fsPost, fsCond, fsGen, npick, nbin, nun, nconv, nnilCheck, noff, nidxArr, nidxSl, nfield, npart, nindex, nextract, nlenSl, nlenStr, ncap, mmx, minmax2, nslice, nsliceArr, nbounds, obound, bound, adv, nbits, eqVal, eqCell, eqCells, nfill, lenOfSl, cls, fresults, fresl, fres1, gt_iff_lt, ge_iff_le, reduceCtorEq, Nat.reduceAdd, Nat.reduceMul, Nat.reduceSub, Nat.reduceLT, Nat.reduceLeDiff, Nat.reduceEqDiff, Nat.reduceBEq, Nat.reduceBNe, Int.reduceLT, Int.reduceLE, Int.reduceEq, Int.reduceNe, Int.reduceAdd, Int.reduceSub, Int.reduceNeg, Int.reduceToNat, Int.reduceMul, ↓reduceIte, Int.reduceGT, Int.reduceGE]
    rw [show (A.run (fun i => d (o + i)) fl []).1 = fl from rfl, hset_same hF]
    rfl
  · rintro j F h hj ⟨f2, f3, f4, f7, f8, f10, f32, f33, f34, rfl⟩
    have hg := hIc j hj
    have hmem := hm _ (List.getElem_mem hj)
    have hix := ixI_mem hmem
    have hlt := List.idxOf_lt_length_of_mem hmem
    have hst := A.sum_step hj
    have hle := A.sum_le (A.hf k) j
    have hle' := A.sum_le (A.hf k) (j + 1)
    have hwd : A.bits (A.hf k)[j] = A.w (A.l.idxOf (A.hf k)[j]) := rfl
    have hr2 := A.run_2 (fun i => d (o + i)) fl (A.hf k) j (by omega)
    have hrl := A.run_len (fun i => d (o + i)) fl (A.hf k) j (by omega)
    have hrs := A.run_step (fun i => d (o + i)) fl hj
    generalize hrun : A.run (fun i => d (o + i)) fl ((A.hf k).take j) = rr at *
    obtain ⟨b1, c1, cs1, ro1, rfl, hb1, hr1⟩ := x.f
    obtain ⟨s1, hc⟩ := hr1 _ hlt
    have hb1l := hget_some_lt hb1
    have hb1' := (old _ hb1l).trans hb1
    have hcell := fun k hk => cut_get (i := k) hc hk
    have h2 := hcell 2 (by omega)
    simp (disch := first | omega | (simp only [List.length_append, List.length_cons, List.length_nil, length_hset, length_hkill]; omega)) only [↓fsPre, fsPost, fsCond, fsGen, npick, nbin, nun, nconv, nnilCheck, noff, nidxArr, nidxSl, nfield, npart, nindex, nextract, nlenSl, nlenStr, ncap, mmx, minmax2, nslice, nsliceArr, nbounds, obound, bound, adv, nbits, eqVal, eqCell, eqCells, nfill, lenOfSl, cls, fresults, fresl, fres1, gt_iff_lt, ge_iff_le, reduceCtorEq, Nat.reduceAdd, Nat.reduceMul, Nat.reduceSub, Nat.reduceLT, Nat.reduceLeDiff, Nat.reduceEqDiff, Nat.reduceBEq, Nat.reduceBNe, Int.reduceLT, Int.reduceLE, Int.reduceEq, Int.reduceNe, Int.reduceAdd, Int.reduceSub, Int.reduceNeg, Int.reduceToNat, Int.reduceMul, ↓reduceIte, Int.reduceGT, Int.reduceGE, f2, f3, f4, f7, f8, f10, f32, f33, f34, hI', hg, o0, o2, o3, o4, o5, o6, o7, o8, o9]
    refine callT_one (hfi _ (fun b hb => by simp (disch := first | omega | (simp only [List.length_append, List.length_cons, List.length_nil, length_hset, length_hkill]; omega)) only [↓fsPre, fsPost, fsCond, fsGen, npick, nbin, nun, nconv, nnilCheck, noff, nidxArr, nidxSl, nfield, npart, nindex, nextract, nlenSl, nlenStr, ncap, mmx, minmax2, nslice, nsliceArr, nbounds, obound, bound, adv, nbits, eqVal, eqCell, eqCells, nfill, lenOfSl, cls, fresults, fresl, fres1, gt_iff_lt, ge_iff_le, reduceCtorEq, Nat.reduceAdd, Nat.reduceMul, Nat.reduceSub, Nat.reduceLT, Nat.reduceLeDiff, Nat.reduceEqDiff, Nat.reduceBEq, Nat.reduceBNe, Int.reduceLT, Int.reduceLE, Int.reduceEq, Int.reduceNe, Int.reduceAdd, Int.reduceSub, Int.reduceNeg, Int.reduceToNat, Int.reduceMul, ↓reduceIte, Int.reduceGT, Int.reduceGE]; exact old b hb) _) rfl ?_
    simp (disch := first | omega | (simp only [List.length_append, List.length_cons, List.length_nil, length_hset, length_hkill]; omega)) only [↓fsPre, fsPost, fsCond, fsGen, npick, nbin, nun, nconv, nnilCheck, noff, nidxArr, nidxSl, nfield, npart, nindex, nextract, nlenSl, nlenStr, ncap, mmx, minmax2, nslice, nsliceArr, nbounds, obound, bound, adv, nbits, eqVal, eqCell, eqCells, nfill, lenOfSl, cls, fresults, fresl, fres1, gt_iff_lt, ge_iff_le, reduceCtorEq, Nat.reduceAdd, Nat.reduceMul, Nat.reduceSub, Nat.reduceLT, Nat.reduceLeDiff, Nat.reduceEqDiff, Nat.reduceBEq, Nat.reduceBNe, Int.reduceLT, Int.reduceLE, Int.reduceEq, Int.reduceNe, Int.reduceAdd, Int.reduceSub, Int.reduceNeg, Int.reduceToNat, Int.reduceMul, ↓reduceIte, Int.reduceGT, Int.reduceGE, f2, f3, f4, f7, f8, f10, f32, f33, f34, hix, hb1', h2, hp, o0, o2, o3, o4, o5, o6, o7, o8, o9]
    refine callDT_one (take_ok _ (H.length + 1) (H.length + 3) p bR o (nR - o) nR (A.w (A.l.idxOf (A.hf k)[j])) (A.sum ((A.hf k).take j)) (.opn 1) false (.slice (some (bF, 0)) A.l.length cF) (.slice (some (bV, 0)) A.hl.length cV) st d (by simp (disch := first | omega | (simp only [List.length_append, List.length_cons, List.length_nil, length_hset, length_hkill]; omega)) only [↓fsPre, fsPost, fsCond, fsGen, npick, nbin, nun, nconv, nnilCheck, noff, nidxArr, nidxSl, nfield, npart, nindex, nextract, nlenSl, nlenStr, ncap, mmx, minmax2, nslice, nsliceArr, nbounds, obound, bound, adv, nbits, eqVal, eqCell, eqCells, nfill, lenOfSl, cls, fresults, fresl, fres1, gt_iff_lt, ge_iff_le, reduceCtorEq, Nat.reduceAdd, Nat.reduceMul, Nat.reduceSub, Nat.reduceLT, Nat.reduceLeDiff, Nat.reduceEqDiff, Nat.reduceBEq, Nat.reduceBNe, Int.reduceLT, Int.reduceLE, Int.reduceEq, Int.reduceNe, Int.reduceAdd, Int.reduceSub, Int.reduceNeg, Int.reduceToNat, Int.reduceMul, ↓reduceIte, Int.reduceGT, Int.reduceGE]) (by simp (disch := first | omega | (simp only [List.length_append, List.length_cons, List.length_nil, length_hset, length_hkill]; omega)) only [↓fsPre, fsPost, fsCond, fsGen, npick, nbin, nun, nconv, nnilCheck, noff, nidxArr, nidxSl, nfield, npart, nindex, nextract, nlenSl, nlenStr, ncap, mmx, minmax2, nslice, nsliceArr, nbounds, obound, bound, adv, nbits, eqVal, eqCell, eqCells, nfill, lenOfSl, cls, fresults, fresl, fres1, gt_iff_lt, ge_iff_le, reduceCtorEq, Nat.reduceAdd, Nat.reduceMul, Nat.reduceSub, Nat.reduceLT, Nat.reduceLeDiff, Nat.reduceEqDiff, Nat.reduceBEq, Nat.reduceBNe, Int.reduceLT, Int.reduceLE, Int.reduceEq, Int.reduceNe, Int.reduceAdd, Int.reduceSub, Int.reduceNeg, Int.reduceToNat, Int.reduceMul, ↓reduceIte, Int.reduceGT, Int.reduceGE]) (by simp (disch := first | omega | (simp only [List.length_append, List.length_cons, List.length_nil, length_hset, length_hkill]; omega)) only [↓fsPre, fsPost, fsCond, fsGen, npick, nbin, nun, nconv, nnilCheck, noff, nidxArr, nidxSl, nfield, npart, nindex, nextract, nlenSl, nlenStr, ncap, mmx, minmax2, nslice, nsliceArr, nbounds, obound, bound, adv, nbits, eqVal, eqCell, eqCells, nfill, lenOfSl, cls, fresults, fresl, fres1, gt_iff_lt, ge_iff_le, reduceCtorEq, Nat.reduceAdd, Nat.reduceMul, Nat.reduceSub, Nat.reduceLT, Nat.reduceLeDiff, Nat.reduceEqDiff, Nat.reduceBEq, Nat.reduceBNe, Int.reduceLT, Int.reduceLE, Int.reduceEq, Int.reduceNe, Int.reduceAdd, Int.reduceSub, Int.reduceNeg, Int.reduceToNat, Int.reduceMul, ↓reduceIte, Int.reduceGT, Int.reduceGE, hp, cxCells]) (by simp (disch := first | omega | (simp only [List.length_append, List.length_cons, List.length_nil, length_hset, length_hkill]; omega)) only [↓fsPre, fsPost, fsCond, fsGen, npick, nbin, nun, nconv, nnilCheck, noff, nidxArr, nidxSl, nfield, npart, nindex, nextract, nlenSl, nlenStr, ncap, mmx, minmax2, nslice, nsliceArr, nbounds, obound, bound, adv, nbits, eqVal, eqCell, eqCells, nfill, lenOfSl, cls, fresults, fresl, fres1, gt_iff_lt, ge_iff_le, reduceCtorEq, Nat.reduceAdd, Nat.reduceMul, Nat.reduceSub, Nat.reduceLT, Nat.reduceLeDiff, Nat.reduceEqDiff, Nat.reduceBEq, Nat.reduceBNe, Int.reduceLT, Int.reduceLE, Int.reduceEq, Int.reduceNe, Int.reduceAdd, Int.reduceSub, Int.reduceNeg, Int.reduceToNat, Int.reduceMul, ↓reduceIte, Int.reduceGT, Int.reduceGE, hR]) (by omega) (by omega) (by omega) (by omega) (by omega) (by omega)) rfl ?_
    simp (disch := first | omega | (simp only [List.length_append, List.length_cons, List.length_nil, length_hset, length_hkill]; omega)) only [↓fsPre, fsPost, fsCond, fsGen, npick, nbin, nun, nconv, nnilCheck, noff, nidxArr, nidxSl, nfield, npart, nindex, nextract, nlenSl, nlenStr, ncap, mmx, minmax2, nslice, nsliceArr, nbounds, obound, bound, adv, nbits, eqVal, eqCell, eqCells, nfill, lenOfSl, cls, fresults, fresl, fres1, gt_iff_lt, ge_iff_le, reduceCtorEq, Nat.reduceAdd, Nat.reduceMul, Nat.reduceSub, Nat.reduceLT, Nat.reduceLeDiff, Nat.reduceEqDiff, Nat.reduceBEq, Nat.reduceBNe, Int.reduceLT, Int.reduceLE, Int.reduceEq, Int.reduceNe, Int.reduceAdd, Int.reduceSub, Int.reduceNeg, Int.reduceToNat, Int.reduceMul, ↓reduceIte, Int.reduceGT, Int.reduceGE, f2, f3, f4, f7, f8, f10, f32, f33, f34, hp, vnv, vals_length, vals_set, hrl, lF, nb_one]
    rw [hrs, hst]
    show _ = hset H bF (.cells (vals (rr.1.set (A.l.idxOf (A.hf k)[j]) (takeV (fun i => d (o + i)) rr.2 (A.bits (A.hf k)[j])))) false) ++ _
    rw [hr2, hwd, Int.natCast_add]
  · rintro F h ⟨f2, f3, f4, f7, f8, f10, f32, f33, f34, rfl⟩
    simp (disch := first | omega | (simp only [List.length_append, List.length_cons, List.length_nil, length_hset, length_hkill]; omega)) only [↓fsPre, fsPost, fsCond, fsGen, npick, nbin, nun, nconv, nnilCheck, noff, nidxArr, nidxSl, nfield, npart, nindex, nextract, nlenSl, nlenStr, ncap, mmx, minmax2, nslice, nsliceArr, nbounds, obound, bound, adv, nbits, eqVal, eqCell, eqCells, nfill, lenOfSl, cls, fresults, fresl, fres1, gt_iff_lt, ge_iff_le, reduceCtorEq, Nat.reduceAdd, Nat.reduceMul, Nat.reduceSub, Nat.reduceLT, Nat.reduceLeDiff, Nat.reduceEqDiff, Nat.reduceBEq, Nat.reduceBNe, Int.reduceLT, Int.reduceLE, Int.reduceEq, Int.reduceNe, Int.reduceAdd, Int.reduceSub, Int.reduceNeg, Int.reduceToNat, Int.reduceMul, ↓reduceIte, Int.reduceGT, Int.reduceGE, f2, f3, f4, f7, f8, f10, f32, f33, f34, hp, hF, hV, hR, vals_length, bools_length, bools_set, lF, lV]
    rw [List.take_length]
    exact ⟨_, rfl⟩
end Go.Proofs
