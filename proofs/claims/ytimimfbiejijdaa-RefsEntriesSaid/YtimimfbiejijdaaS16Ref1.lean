/- References: Needs of both sides. -/
import Derived.Test.YtimimfbiejijdaaS16Ent3
set_option linter.unusedSimpArgs false
set_option linter.unusedVariables false
set_option maxRecDepth 10000
namespace Go.Proofs
open Go.Ns

structure Rf where
  tab : Int
  key : Int
  act : Int
  par : Int
  tt : Int
  tk : Int
def Rf.cells (r : Rf) : List NV := [.int .i64 r.tab, .int .i64 r.key, .int .i64 r.act, .int .i64 r.par, .int .i64 r.tt, .int .i64 r.tk]
def rfC (R : List Rf) : List NV := R.flatMap Rf.cells
theorem rfC_length (R : List Rf) : (rfC R).length = R.length * 6 := length_flatMap_enc (fun r => (rfl : r.cells.length = 6)) R
theorem rf_cut (R : List Rf) (k : Nat) (hk : k < R.length) : cut (rfC R) (k * 6) 6 = some R[k].cells := cut_flatMap (fun r => (rfl : r.cells.length = 6)) hk
structure T4 where
  tab : Int
  key : Int
  v1 : Int
  v2 : Int
  deriving DecidableEq
def T4.cells (t : T4) : List NV := [.int .i64 t.tab, .int .i64 t.key, .int .u64 t.v1, .int .u64 t.v2]
def tC (l : List T4) : List NV := l.flatMap T4.cells
theorem tC_length (l : List T4) : (tC l).length = l.length * 4 := length_flatMap_enc (fun r => (rfl : r.cells.length = 4)) l
theorem tC_append (a b : List T4) : tC (a ++ b) = tC a ++ tC b := by simp [tC]
theorem tC_cut (l : List T4) (k : Nat) (hk : k < l.length) : cut (tC l) (k * 4) 4 = some l[k].cells := cut_flatMap (fun r => (rfl : r.cells.length = 4)) hk
def mV (e : En) (k : Int) : Int × Int := match e.ms[k.toNat]? with | some m => (m.v1, m.v2) | none => (0, 0)
def aV (e : En) (k : Int) : Int × Int := match e.args[k.toNat]? with | some a => a | none => (0, 0)
def need1 (r : Rf) (e : En) : Option T4 := if r.tab = e.tab then (if r.act = 0 then some ⟨r.tt, r.tk, (mV e r.key).1, (mV e r.key).2⟩ else if r.act = e.act then some ⟨r.tt, r.tk, (aV e r.par).1, (aV e r.par).2⟩ else none) else none
def needsL (R : List Rf) (e : En) : List T4 := R.filterMap fun r => need1 r e
theorem needsL_snoc (R : List Rf) (r : Rf) (e : En) : needsL (R ++ [r]) e = needsL R e ++ (match need1 r e with | some t => [t] | none => []) := by
  unfold needsL
  rw [List.filterMap_append, List.filterMap_cons, List.filterMap_nil]
  cases need1 r e <;> rfl
theorem needsL_le (R : List Rf) (e : En) : (needsL R e).length ≤ R.length := by unfold needsL; exact List.length_filterMap_le _ _
structure RfOK (r : Rf) (e : En) : Prop where
  k : r.tab = e.tab → r.act = 0 → 0 ≤ r.key ∧ r.key < e.ms.length
  p : r.tab = e.tab → ¬ r.act = 0 → r.act = e.act → 0 ≤ r.par ∧ r.par < e.args.length
  t : 0 ≤ r.tk ∧ r.tk < e.ms.length

theorem cut_sub {cs row : List NV} {o k a n : Nat} (h : cut cs o k = some row) (hn : a + n ≤ k) : cut cs (o + a) n = some ((row.drop a).take n) := by
  unfold cut at h ⊢
  split at h
  · cases h
    rw [if_pos (by omega)]
    congr 1
    apply List.ext_getElem?
    intro i
    by_cases hi : i < n
    · rw [List.getElem?_take_of_lt hi, List.getElem?_take_of_lt hi, List.getElem?_drop, List.getElem?_drop, List.getElem?_take_of_lt (by omega), List.getElem?_drop]
      congr 1; omega
    · rw [List.getElem?_eq_none (by rw [List.length_take]; omega), List.getElem?_eq_none (by rw [List.length_take]; omega)]
  · cases h
/-- Where the matches and the arguments of an entry lie. -/
theorem EnAt.parts {h : Heap} {N : Nat} {row : List NV} {e : En} (x : EnAt h N row e) : ∃ mv av, row = [.int .i64 e.tab, mv, .int .i64 e.pr, .int .i64 e.act, av] ∧ mv.one = true ∧ av.one = true ∧ (∃ a c, mv = .slice a e.ms.length c) ∧ (∃ a c, av = .slice a e.args.length c) ∧
    (∀ k : Int, 0 ≤ k ∧ k < e.ms.length → ∃ b cs, mv = .slice (some (b, 0)) e.ms.length (.opn 8) ∧ hget h b = some (.cells cs false) ∧ cut cs (k.toNat * 8 + 1) 2 = some [.int .u64 (mV e k).1, .int .u64 (mV e k).2]) ∧
    (∀ k : Int, 0 ≤ k ∧ k < e.args.length → ∃ b cs, av = .slice (some (b, 0)) e.args.length (.opn 2) ∧ hget h b = some (.cells cs false) ∧ cut cs (k.toNat * 2) 2 = some [.int .u64 (aV e k).1, .int .u64 (aV e k).2]) := by
  obtain ⟨mv, av, hr, g1, g2⟩ := x
  refine ⟨mv, av, hr, g1.one, g2.one, ?_, ?_, ?_, ?_⟩
  · obtain ⟨a, c, n, h1, h2⟩ := g1.shape (by omega)
    rw [mtC_length] at h2
    exact ⟨a, c, by rw [h1]; congr 1; omega⟩
  · obtain ⟨a, c, n, h1, h2⟩ := g2.shape (by omega)
    rw [arC_length] at h2
    exact ⟨a, c, by rw [h1]; congr 1; omega⟩
  · intro k hk
    rcases g1 with ⟨h1, _⟩ | ⟨b, n, h1, _, h3, h4, _⟩
    · have := congrArg List.length h1
      rw [mtC_length] at this
      simp at this; omega
    · rw [mtC_length] at h4
      have : n = e.ms.length := by omega
      subst this
      refine ⟨b, _, h1, h3, ?_⟩
      have hk2 : k.toNat < e.ms.length := by omega
      have hc := cut_sub (a := 1) (n := 2) (cut_flatMap Mt.cells_length hk2 : cut (mtC e.ms) (k.toNat * 8) 8 = _) (by omega)
      refine hc.trans ?_
      unfold mV
      rw [List.getElem?_eq_getElem hk2]; rfl
  · intro k hk
    rcases g2 with ⟨h1, _⟩ | ⟨b, n, h1, _, h3, h4, _⟩
    · have := congrArg List.length h1
      rw [arC_length] at this
      simp at this; omega
    · rw [arC_length] at h4
      have : n = e.args.length := by omega
      subst this
      refine ⟨b, _, h1, h3, ?_⟩
      have hk2 : k.toNat < e.args.length := by omega
      rw [show cut (arC e.args) (k.toNat * 2) 2 = _ from cut_flatMap (fun a => (rfl : (argC a).length = 2)) hk2]
      unfold aV
      rw [List.getElem?_eq_getElem hk2]; rfl

theorem matched_ok (N : Nat) (H : Heap) (row : List NV) (e : En) (x : EnAt H N row e) (k : Int) (hk : 0 ≤ k ∧ k < e.ms.length) : NCall Try.prog 29 [.agg row, .int .i64 k] H fun r => r = (.agg [.int .u64 (mV e k).1, .int .u64 (mV e k).2], H) := by
  obtain ⟨mv, av, rfl, om, oa, _, _, hm, _⟩ := x.parts
  obtain ⟨b, cs, rfl, hb, hc⟩ := hm k hk
  have hbl := hget_some_lt hb
  refine call_pure E0 mixed t29_ok (by kernel_rfl) ⟨trivial, trivial, trivial⟩ ?_
  simp only [t29]
  have e1 : decide (k < 0) = false := decide_eq_false (by omega)
  have e2 : decide ((e.ms.length : Int) ≤ k) = false := decide_eq_false (by omega)
  simp (disch := first | omega | (simp only [List.length_append, List.length_cons, List.length_nil, length_hset, length_hkill]; omega)) only [↓fsPre, fsPost, fsCond, fsGen, npick, nbin, nun, nconv, nnilCheck, noff, nidxArr, nidxSl, nfield, npart, nindex, nextract, nlenSl, nlenStr, ncap, mmx, minmax2, nslice, nsliceArr, nbounds, obound, bound, adv, nbits, eqVal, eqCell, eqCells, nfill, lenOfSl, cls, fresults, fresl, fres1, gt_iff_lt, ge_iff_le, reduceCtorEq, Nat.reduceAdd, Nat.reduceMul, Nat.reduceSub, Nat.reduceLT, Nat.reduceLeDiff, Nat.reduceEqDiff, Nat.reduceBEq, Nat.reduceBNe, Int.reduceLT, Int.reduceLE, Int.reduceEq, Int.reduceNe, Int.reduceAdd, Int.reduceSub, Int.reduceNeg, Int.reduceToNat, Int.reduceMul, ↓reduceIte, Int.reduceGT, Int.reduceGE, oa, e1, e2, hb, hc]
  exact ⟨_, rfl⟩
theorem argument_ok (N : Nat) (H : Heap) (row : List NV) (e : En) (x : EnAt H N row e) (k : Int) (hk : 0 ≤ k ∧ k < e.args.length) : NCall Try.prog 30 [.agg row, .int .i64 k] H fun r => r = (.agg [.int .u64 (aV e k).1, .int .u64 (aV e k).2], H) := by
  obtain ⟨mv, av, rfl, om, oa, _, _, _, hm⟩ := x.parts
  obtain ⟨b, cs, rfl, hb, hc⟩ := hm k hk
  have hbl := hget_some_lt hb
  refine call_pure E0 mixed t30_ok (by kernel_rfl) ⟨trivial, trivial, trivial⟩ ?_
  simp only [t30]
  have e1 : decide (k < 0) = false := decide_eq_false (by omega)
  have e2 : decide ((e.args.length : Int) ≤ k) = false := decide_eq_false (by omega)
  simp (disch := first | omega | (simp only [List.length_append, List.length_cons, List.length_nil, length_hset, length_hkill]; omega)) only [↓fsPre, fsPost, fsCond, fsGen, npick, nbin, nun, nconv, nnilCheck, noff, nidxArr, nidxSl, nfield, npart, nindex, nextract, nlenSl, nlenStr, ncap, mmx, minmax2, nslice, nsliceArr, nbounds, obound, bound, adv, nbits, eqVal, eqCell, eqCells, nfill, lenOfSl, cls, fresults, fresl, fres1, gt_iff_lt, ge_iff_le, reduceCtorEq, Nat.reduceAdd, Nat.reduceMul, Nat.reduceSub, Nat.reduceLT, Nat.reduceLeDiff, Nat.reduceEqDiff, Nat.reduceBEq, Nat.reduceBNe, Int.reduceLT, Int.reduceLE, Int.reduceEq, Int.reduceNe, Int.reduceAdd, Int.reduceSub, Int.reduceNeg, Int.reduceToNat, Int.reduceMul, ↓reduceIte, Int.reduceGT, Int.reduceGE, om, e1, e2, hb, hc]
  exact ⟨_, rfl⟩

/-- A schema with references, as the references need it. -/
structure RfV (h : Heap) (R : List Rf) (z0 z1 z2 z3 z4 z5 z6 z7 z8 z9 : NV) : Prop where
  o : z0.one = true ∧ z1.one = true ∧ z2.one = true ∧ z3.one = true ∧ z4.one = true ∧ z5.one = true ∧ z6.one = true ∧ z8.one = true ∧ z9.one = true
  r : ∃ b c cs ro, z7 = .slice (some (b, 0)) R.length c ∧ hget h b = some (.cells cs ro) ∧ ∀ k (hk : k < R.length), cut cs (k * 6) 6 = some R[k].cells
theorem RfV.mono {h h' : Heap} {R : List Rf} {z0 z1 z2 z3 z4 z5 z6 z7 z8 z9 : NV} (s : RfV h R z0 z1 z2 z3 z4 z5 z6 z7 z8 z9) (k : ∀ b, b < h.length → hget h' b = hget h b) : RfV h' R z0 z1 z2 z3 z4 z5 z6 z7 z8 z9 := by
  obtain ⟨o, b, c, cs, ro, h1, h2, h3⟩ := s
  exact ⟨o, b, c, cs, ro, h1, by rw [k b (hget_lt h2)]; exact h2, h3⟩
theorem EnAt.mono {h h' : Heap} {N : Nat} {row : List NV} {e : En} (x : EnAt h N row e) (k : ∀ b, b < h.length → hget h' b = hget h b) : EnAt h' N row e := x.ext fun b y _ hb => by rw [k b (hget_lt hb)]; exact hb

structure NdI (H : Heap) (zs row : List NV) (h : Heap) : Prop where
  len : H.length + 2 ≤ h.length
  old : ∀ b, b < H.length → hget h b = hget H b
  b2 : hget h H.length = some (.cells zs false)
  b3 : hget h (H.length + 1) = some (.cells row false)
def listQ (H : Heap) (l : List T4) (r : NV × Heap) : Prop := H.length ≤ r.2.length ∧ (∀ b, b < H.length → hget r.2 b = hget H b) ∧ GrC r.2 H.length (tC l) 4 r.1

set_option maxHeartbeats 2000000 in
theorem needs_ok (N : Nat) (H : Heap) (R : List Rf) (z0 z1 z2 z3 z4 z5 z6 z7 z8 z9 : NV) (s : RfV H R z0 z1 z2 z3 z4 z5 z6 z7 z8 z9) (hR : R.length ≤ 10) (row : List NV) (e : En) (xE : EnAt H N row e) (hok : ∀ r ∈ R, RfOK r e) :
    DCall Try.prog 11 [.agg [z0, z1, z2, z3, z4, z5, z6, z7, z8, z9], .agg row] H (listQ H (needsL R e)) := by
  obtain ⟨⟨o0, o1, o2, o3, o4, o5, o6, o8, o9⟩, b, c, cs, ro, rfl, hb, hcut⟩ := s
  obtain ⟨mv, av, rfl, om, oa, hms, has, hm, ha⟩ := xE.parts
  have hbl := hget_some_lt hb
  refine call_det E0 rfl mixed t11_ok (by kernel_rfl) (by rintro q ⟨h, _⟩; exact h) ?_
  simp only [t11]
  simp (disch := first | omega | (simp only [List.length_append, List.length_cons, List.length_nil, length_hset, length_hkill]; omega)) only [↓fsPre, fsPost, fsCond, fsGen, npick, nbin, nun, nconv, nnilCheck, noff, nidxArr, nidxSl, nfield, npart, nindex, nextract, nlenSl, nlenStr, ncap, mmx, minmax2, nslice, nsliceArr, nbounds, obound, bound, adv, nbits, eqVal, eqCell, eqCells, nfill, lenOfSl, cls, fresults, fresl, fres1, gt_iff_lt, ge_iff_le, reduceCtorEq, Nat.reduceAdd, Nat.reduceMul, Nat.reduceSub, Nat.reduceLT, Nat.reduceLeDiff, Nat.reduceEqDiff, Nat.reduceBEq, Nat.reduceBNe, Int.reduceLT, Int.reduceLE, Int.reduceEq, Int.reduceNe, Int.reduceAdd, Int.reduceSub, Int.reduceNeg, Int.reduceToNat, Int.reduceMul, ↓reduceIte, Int.reduceGT, Int.reduceGE, o0, o1, o2, o3, o4, o5, o6, o8, o9, om, oa]
  refine wloop (fun k F h => F 2 = .ptr (some (H.length, 0)) ∧ F 3 = .ptr (some (H.length + 1, 0)) ∧ F 9 = .slice (some (b, 0)) R.length c ∧ F 10 = .int .i64 R.length ∧ F 11 = .int .i64 k ∧
    NdI H [z0, z1, z2, z3, z4, z5, z6, .slice (some (b, 0)) R.length c, z8, z9] [.int .i64 e.tab, mv, .int .i64 e.pr, .int .i64 e.act, av] h ∧ GrC h (H.length + 2) (tC (needsL (R.take k) e)) 4 (F 5)) R.length ?_ ?_ ?_
  · simp (disch := first | omega | (simp only [List.length_append, List.length_cons, List.length_nil, length_hset, length_hkill]; omega)) only [↓fsPre, fsPost, fsCond, fsGen, npick, nbin, nun, nconv, nnilCheck, noff, nidxArr, nidxSl, nfield, npart, nindex, nextract, nlenSl, nlenStr, ncap, mmx, minmax2, nslice, nsliceArr, nbounds, obound, bound, adv, nbits, eqVal, eqCell, eqCells, nfill, lenOfSl, cls, fresults, fresl, fres1, gt_iff_lt, ge_iff_le, reduceCtorEq, Nat.reduceAdd, Nat.reduceMul, Nat.reduceSub, Nat.reduceLT, Nat.reduceLeDiff, Nat.reduceEqDiff, Nat.reduceBEq, Nat.reduceBNe, Int.reduceLT, Int.reduceLE, Int.reduceEq, Int.reduceNe, Int.reduceAdd, Int.reduceSub, Int.reduceNeg, Int.reduceToNat, Int.reduceMul, ↓reduceIte, Int.reduceGT, Int.reduceGE]
    exact ⟨⟨by simp, fun q hq => hget_appl hq, by simp (disch := first | omega | (simp only [List.length_append, List.length_cons, List.length_nil, length_hset, length_hkill]; omega)) only [↓fsPre, fsPost, fsCond, fsGen, npick, nbin, nun, nconv, nnilCheck, noff, nidxArr, nidxSl, nfield, npart, nindex, nextract, nlenSl, nlenStr, ncap, mmx, minmax2, nslice, nsliceArr, nbounds, obound, bound, adv, nbits, eqVal, eqCell, eqCells, nfill, lenOfSl, cls, fresults, fresl, fres1, gt_iff_lt, ge_iff_le, reduceCtorEq, Nat.reduceAdd, Nat.reduceMul, Nat.reduceSub, Nat.reduceLT, Nat.reduceLeDiff, Nat.reduceEqDiff, Nat.reduceBEq, Nat.reduceBNe, Int.reduceLT, Int.reduceLE, Int.reduceEq, Int.reduceNe, Int.reduceAdd, Int.reduceSub, Int.reduceNeg, Int.reduceToNat, Int.reduceMul, ↓reduceIte, Int.reduceGT, Int.reduceGE], by simp (disch := first | omega | (simp only [List.length_append, List.length_cons, List.length_nil, length_hset, length_hkill]; omega)) only [↓fsPre, fsPost, fsCond, fsGen, npick, nbin, nun, nconv, nnilCheck, noff, nidxArr, nidxSl, nfield, npart, nindex, nextract, nlenSl, nlenStr, ncap, mmx, minmax2, nslice, nsliceArr, nbounds, obound, bound, adv, nbits, eqVal, eqCell, eqCells, nfill, lenOfSl, cls, fresults, fresl, fres1, gt_iff_lt, ge_iff_le, reduceCtorEq, Nat.reduceAdd, Nat.reduceMul, Nat.reduceSub, Nat.reduceLT, Nat.reduceLeDiff, Nat.reduceEqDiff, Nat.reduceBEq, Nat.reduceBNe, Int.reduceLT, Int.reduceLE, Int.reduceEq, Int.reduceNe, Int.reduceAdd, Int.reduceSub, Int.reduceNeg, Int.reduceToNat, Int.reduceMul, ↓reduceIte, Int.reduceGT, Int.reduceGE]⟩, .nil⟩
  · rintro k F h hk ⟨f2, f3, f9, f10, f11, ⟨len, old, b2, b3⟩, out⟩
    have hb' : hget h b = some (.cells cs ro) := by rw [old b hbl]; exact hb
    have hcr := hcut k hk
    have hr := hok _ (List.getElem_mem hk)
    have hstep := needsL_snoc (R.take k) R[k] e
    have htk : R.take (k + 1) = R.take k ++ [R[k]] := by rw [List.take_add_one, List.getElem?_eq_getElem hk]; rfl
    rw [← htk] at hstep
    have hle := needsL_le (R.take k) e
    rw [List.length_take] at hle
    generalize R[k] = r at *
    generalize hv5 : F 5 = v5 at *
    have o5v := out.one
    by_cases h1 : r.tab = e.tab
    · by_cases h2 : r.act = 0
      · have hrk := hr.k h1 h2
        obtain ⟨bm, csm, hmv, hbm, hcm⟩ := hm _ hrk
        have hbml := hget_some_lt hbm
        have hbm' : hget h bm = some (.cells csm false) := by rw [old bm hbml]; exact hbm
        simp (disch := first | omega | (simp only [List.length_append, List.length_cons, List.length_nil, length_hset, length_hkill]; omega)) only [↓fsPre, fsPost, fsCond, fsGen, npick, nbin, nun, nconv, nnilCheck, noff, nidxArr, nidxSl, nfield, npart, nindex, nextract, nlenSl, nlenStr, ncap, mmx, minmax2, nslice, nsliceArr, nbounds, obound, bound, adv, nbits, eqVal, eqCell, eqCells, nfill, lenOfSl, cls, fresults, fresl, fres1, gt_iff_lt, ge_iff_le, reduceCtorEq, Nat.reduceAdd, Nat.reduceMul, Nat.reduceSub, Nat.reduceLT, Nat.reduceLeDiff, Nat.reduceEqDiff, Nat.reduceBEq, Nat.reduceBNe, Int.reduceLT, Int.reduceLE, Int.reduceEq, Int.reduceNe, Int.reduceAdd, Int.reduceSub, Int.reduceNeg, Int.reduceToNat, Int.reduceMul, ↓reduceIte, Int.reduceGT, Int.reduceGE, f2, f3, f9, f10, f11, b2, b3, hv5, hb', hcr, Rf.cells, o0, o1, o2, o3, o4, o5, o6, o8, o9, om, oa, h1, h2]
        refine callDT_one (matched_ok N _ _ e (xE.mono fun q hq => by rw [hget_appl (by omega), old q hq]) _ hrk) rfl ?_
        simp (disch := first | omega | (simp only [List.length_append, List.length_cons, List.length_nil, length_hset, length_hkill]; omega)) only [↓fsPre, fsPost, fsCond, fsGen, npick, nbin, nun, nconv, nnilCheck, noff, nidxArr, nidxSl, nfield, npart, nindex, nextract, nlenSl, nlenStr, ncap, mmx, minmax2, nslice, nsliceArr, nbounds, obound, bound, adv, nbits, eqVal, eqCell, eqCells, nfill, lenOfSl, cls, fresults, fresl, fres1, gt_iff_lt, ge_iff_le, reduceCtorEq, Nat.reduceAdd, Nat.reduceMul, Nat.reduceSub, Nat.reduceLT, Nat.reduceLeDiff, Nat.reduceEqDiff, Nat.reduceBEq, Nat.reduceBNe, Int.reduceLT, Int.reduceLE, Int.reduceEq, Int.reduceNe, Int.reduceAdd, Int.reduceSub, Int.reduceNeg, Int.reduceToNat, Int.reduceMul, ↓reduceIte, Int.reduceGT, Int.reduceGE, f2, f3, f9, f10, f11, b2, b3, hv5, hb', hcr, Rf.cells, o0, o1, o2, o3, o4, o5, o6, o8, o9, om, oa, h1, h2]
        refine grc_app (N := H.length + 2) (new := [.int .i64 r.tt, .int .i64 r.tk, .int .u64 (mV e r.key).1, .int .u64 (mV e r.key).2]) (out.ext Ext.app) (by simp only [List.length_append]; omega) (sliceCells_at (by simp (disch := first | omega | (simp only [List.length_append, List.length_cons, List.length_nil, length_hset, length_hkill]; omega)) only [↓fsPre, fsPost, fsCond, fsGen, npick, nbin, nun, nconv, nnilCheck, noff, nidxArr, nidxSl, nfield, npart, nindex, nextract, nlenSl, nlenStr, ncap, mmx, minmax2, nslice, nsliceArr, nbounds, obound, bound, adv, nbits, eqVal, eqCell, eqCells, nfill, lenOfSl, cls, fresults, fresl, fres1, gt_iff_lt, ge_iff_le, reduceCtorEq, Nat.reduceAdd, Nat.reduceMul, Nat.reduceSub, Nat.reduceLT, Nat.reduceLeDiff, Nat.reduceEqDiff, Nat.reduceBEq, Nat.reduceBNe, Int.reduceLT, Int.reduceLE, Int.reduceEq, Int.reduceNe, Int.reduceAdd, Int.reduceSub, Int.reduceNeg, Int.reduceToNat, Int.reduceMul, ↓reduceIte, Int.reduceGT, Int.reduceGE] <;> rfl) rfl) rfl (by omega) (by omega) rfl (by rw [tC_length]; omega) (by omega) (by omega) ?_
        intro v' h' hg' hl' old'
        have hn : need1 r e = some ⟨r.tt, r.tk, (mV e r.key).1, (mV e r.key).2⟩ := by unfold need1; rw [if_pos h1, if_pos h2]
        rw [hn] at hstep
        simp only [List.length_append, List.length_cons, List.length_nil] at hl'
        have hlg : h.length + 1 ≤ h'.length := by omega
        have d2 := (old' H.length (by omega)).trans ((hget_appl (by omega)).trans b2)
        have d3 := (old' (H.length + 1) (by omega)).trans ((hget_appl (by omega)).trans b3)
        have hlg2 : h.length + 2 ≤ h'.length := by omega
        simp (disch := first | omega | (simp only [List.length_append, List.length_cons, List.length_nil, length_hset, length_hkill]; omega)) only [↓fsPre, fsPost, fsCond, fsGen, npick, nbin, nun, nconv, nnilCheck, noff, nidxArr, nidxSl, nfield, npart, nindex, nextract, nlenSl, nlenStr, ncap, mmx, minmax2, nslice, nsliceArr, nbounds, obound, bound, adv, nbits, eqVal, eqCell, eqCells, nfill, lenOfSl, cls, fresults, fresl, fres1, gt_iff_lt, ge_iff_le, reduceCtorEq, Nat.reduceAdd, Nat.reduceMul, Nat.reduceSub, Nat.reduceLT, Nat.reduceLeDiff, Nat.reduceEqDiff, Nat.reduceBEq, Nat.reduceBNe, Int.reduceLT, Int.reduceLE, Int.reduceEq, Int.reduceNe, Int.reduceAdd, Int.reduceSub, Int.reduceNeg, Int.reduceToNat, Int.reduceMul, ↓reduceIte, Int.reduceGT, Int.reduceGE, f2, f3, f9, f10, f11, b2, b3, hv5, hb', hcr, Rf.cells, o0, o1, o2, o3, o4, o5, o6, o8, o9, om, oa, h1, h2, d2, d3, hlg, hlg2]
        refine ⟨⟨by omega, fun q hq => (old' q (by omega)).trans ((hget_appl (by omega)).trans (old q hq)), d2, d3⟩, ?_⟩
        rw [hstep, tC_append]
        exact hg'
      · by_cases h3 : r.act = e.act
        · have hrk := hr.p h1 h2 h3
          obtain ⟨bm, csm, hmv, hbm, hcm⟩ := ha _ hrk
          have hbml := hget_some_lt hbm
          have hbm' : hget h bm = some (.cells csm false) := by rw [old bm hbml]; exact hbm
          simp (disch := first | omega | (simp only [List.length_append, List.length_cons, List.length_nil, length_hset, length_hkill]; omega)) only [↓fsPre, fsPost, fsCond, fsGen, npick, nbin, nun, nconv, nnilCheck, noff, nidxArr, nidxSl, nfield, npart, nindex, nextract, nlenSl, nlenStr, ncap, mmx, minmax2, nslice, nsliceArr, nbounds, obound, bound, adv, nbits, eqVal, eqCell, eqCells, nfill, lenOfSl, cls, fresults, fresl, fres1, gt_iff_lt, ge_iff_le, reduceCtorEq, Nat.reduceAdd, Nat.reduceMul, Nat.reduceSub, Nat.reduceLT, Nat.reduceLeDiff, Nat.reduceEqDiff, Nat.reduceBEq, Nat.reduceBNe, Int.reduceLT, Int.reduceLE, Int.reduceEq, Int.reduceNe, Int.reduceAdd, Int.reduceSub, Int.reduceNeg, Int.reduceToNat, Int.reduceMul, ↓reduceIte, Int.reduceGT, Int.reduceGE, f2, f3, f9, f10, f11, b2, b3, hv5, hb', hcr, Rf.cells, o0, o1, o2, o3, o4, o5, o6, o8, o9, om, oa, h1, h2, h3]
          refine callDT_one (argument_ok N _ _ e (xE.mono fun q hq => by rw [hget_appl (by omega), old q hq]) _ hrk) rfl ?_
          simp (disch := first | omega | (simp only [List.length_append, List.length_cons, List.length_nil, length_hset, length_hkill]; omega)) only [↓fsPre, fsPost, fsCond, fsGen, npick, nbin, nun, nconv, nnilCheck, noff, nidxArr, nidxSl, nfield, npart, nindex, nextract, nlenSl, nlenStr, ncap, mmx, minmax2, nslice, nsliceArr, nbounds, obound, bound, adv, nbits, eqVal, eqCell, eqCells, nfill, lenOfSl, cls, fresults, fresl, fres1, gt_iff_lt, ge_iff_le, reduceCtorEq, Nat.reduceAdd, Nat.reduceMul, Nat.reduceSub, Nat.reduceLT, Nat.reduceLeDiff, Nat.reduceEqDiff, Nat.reduceBEq, Nat.reduceBNe, Int.reduceLT, Int.reduceLE, Int.reduceEq, Int.reduceNe, Int.reduceAdd, Int.reduceSub, Int.reduceNeg, Int.reduceToNat, Int.reduceMul, ↓reduceIte, Int.reduceGT, Int.reduceGE, f2, f3, f9, f10, f11, b2, b3, hv5, hb', hcr, Rf.cells, o0, o1, o2, o3, o4, o5, o6, o8, o9, om, oa, h1, h2, h3]
          refine grc_app (N := H.length + 2) (new := [.int .i64 r.tt, .int .i64 r.tk, .int .u64 (aV e r.par).1, .int .u64 (aV e r.par).2]) (out.ext Ext.app) (by simp only [List.length_append]; omega) (sliceCells_at (by simp (disch := first | omega | (simp only [List.length_append, List.length_cons, List.length_nil, length_hset, length_hkill]; omega)) only [↓fsPre, fsPost, fsCond, fsGen, npick, nbin, nun, nconv, nnilCheck, noff, nidxArr, nidxSl, nfield, npart, nindex, nextract, nlenSl, nlenStr, ncap, mmx, minmax2, nslice, nsliceArr, nbounds, obound, bound, adv, nbits, eqVal, eqCell, eqCells, nfill, lenOfSl, cls, fresults, fresl, fres1, gt_iff_lt, ge_iff_le, reduceCtorEq, Nat.reduceAdd, Nat.reduceMul, Nat.reduceSub, Nat.reduceLT, Nat.reduceLeDiff, Nat.reduceEqDiff, Nat.reduceBEq, Nat.reduceBNe, Int.reduceLT, Int.reduceLE, Int.reduceEq, Int.reduceNe, Int.reduceAdd, Int.reduceSub, Int.reduceNeg, Int.reduceToNat, Int.reduceMul, ↓reduceIte, Int.reduceGT, Int.reduceGE] <;> rfl) rfl) rfl (by omega) (by omega) rfl (by rw [tC_length]; omega) (by omega) (by omega) ?_
          intro v' h' hg' hl' old'
          have hn : need1 r e = some ⟨r.tt, r.tk, (aV e r.par).1, (aV e r.par).2⟩ := by unfold need1; rw [if_pos h1, if_neg h2, if_pos h3]
          rw [hn] at hstep
          simp only [List.length_append, List.length_cons, List.length_nil] at hl'
          have hlg : h.length + 1 ≤ h'.length := by omega
          have d2 := (old' H.length (by omega)).trans ((hget_appl (by omega)).trans b2)
          have d3 := (old' (H.length + 1) (by omega)).trans ((hget_appl (by omega)).trans b3)
          have hlg2 : h.length + 2 ≤ h'.length := by omega
          simp (disch := first | omega | (simp only [List.length_append, List.length_cons, List.length_nil, length_hset, length_hkill]; omega)) only [↓fsPre, fsPost, fsCond, fsGen, npick, nbin, nun, nconv, nnilCheck, noff, nidxArr, nidxSl, nfield, npart, nindex, nextract, nlenSl, nlenStr, ncap, mmx, minmax2, nslice, nsliceArr, nbounds, obound, bound, adv, nbits, eqVal, eqCell, eqCells, nfill, lenOfSl, cls, fresults, fresl, fres1, gt_iff_lt, ge_iff_le, reduceCtorEq, Nat.reduceAdd, Nat.reduceMul, Nat.reduceSub, Nat.reduceLT, Nat.reduceLeDiff, Nat.reduceEqDiff, Nat.reduceBEq, Nat.reduceBNe, Int.reduceLT, Int.reduceLE, Int.reduceEq, Int.reduceNe, Int.reduceAdd, Int.reduceSub, Int.reduceNeg, Int.reduceToNat, Int.reduceMul, ↓reduceIte, Int.reduceGT, Int.reduceGE, f2, f3, f9, f10, f11, b2, b3, hv5, hb', hcr, Rf.cells, o0, o1, o2, o3, o4, o5, o6, o8, o9, om, oa, h1, h2, h3, d2, d3, hlg, hlg2]
          refine ⟨⟨by omega, fun q hq => (old' q (by omega)).trans ((hget_appl (by omega)).trans (old q hq)), d2, d3⟩, ?_⟩
          rw [hstep, tC_append]
          exact hg'
        · simp (disch := first | omega | (simp only [List.length_append, List.length_cons, List.length_nil, length_hset, length_hkill]; omega)) only [↓fsPre, fsPost, fsCond, fsGen, npick, nbin, nun, nconv, nnilCheck, noff, nidxArr, nidxSl, nfield, npart, nindex, nextract, nlenSl, nlenStr, ncap, mmx, minmax2, nslice, nsliceArr, nbounds, obound, bound, adv, nbits, eqVal, eqCell, eqCells, nfill, lenOfSl, cls, fresults, fresl, fres1, gt_iff_lt, ge_iff_le, reduceCtorEq, Nat.reduceAdd, Nat.reduceMul, Nat.reduceSub, Nat.reduceLT, Nat.reduceLeDiff, Nat.reduceEqDiff, Nat.reduceBEq, Nat.reduceBNe, Int.reduceLT, Int.reduceLE, Int.reduceEq, Int.reduceNe, Int.reduceAdd, Int.reduceSub, Int.reduceNeg, Int.reduceToNat, Int.reduceMul, ↓reduceIte, Int.reduceGT, Int.reduceGE, f2, f3, f9, f10, f11, b2, b3, hv5, hb', hcr, Rf.cells, o0, o1, o2, o3, o4, o5, o6, o8, o9, om, oa, h1, h2, h3]
          have hn : need1 r e = none := by unfold need1; rw [if_pos h1, if_neg h2, if_neg h3]
          rw [hn, List.append_nil] at hstep
          refine ⟨⟨by simp only [List.length_append]; omega, fun q hq => (hget_appl (by omega)).trans (old q hq), (hget_appl (by omega)).trans b2, (hget_appl (by omega)).trans b3⟩, ?_⟩
          rw [hstep]; exact out.ext Ext.app
    · simp (disch := first | omega | (simp only [List.length_append, List.length_cons, List.length_nil, length_hset, length_hkill]; omega)) only [↓fsPre, fsPost, fsCond, fsGen, npick, nbin, nun, nconv, nnilCheck, noff, nidxArr, nidxSl, nfield, npart, nindex, nextract, nlenSl, nlenStr, ncap, mmx, minmax2, nslice, nsliceArr, nbounds, obound, bound, adv, nbits, eqVal, eqCell, eqCells, nfill, lenOfSl, cls, fresults, fresl, fres1, gt_iff_lt, ge_iff_le, reduceCtorEq, Nat.reduceAdd, Nat.reduceMul, Nat.reduceSub, Nat.reduceLT, Nat.reduceLeDiff, Nat.reduceEqDiff, Nat.reduceBEq, Nat.reduceBNe, Int.reduceLT, Int.reduceLE, Int.reduceEq, Int.reduceNe, Int.reduceAdd, Int.reduceSub, Int.reduceNeg, Int.reduceToNat, Int.reduceMul, ↓reduceIte, Int.reduceGT, Int.reduceGE, f2, f3, f9, f10, f11, b2, b3, hv5, hb', hcr, Rf.cells, o0, o1, o2, o3, o4, o5, o6, o8, o9, om, oa, h1]
      have hn : need1 r e = none := by unfold need1; rw [if_neg h1]
      rw [hn, List.append_nil] at hstep
      refine ⟨⟨by simp only [List.length_append]; omega, fun q hq => (hget_appl (by omega)).trans (old q hq), (hget_appl (by omega)).trans b2, (hget_appl (by omega)).trans b3⟩, ?_⟩
      rw [hstep]; exact out.ext Ext.app
  · rintro F h ⟨f2, f3, f9, f10, f11, ⟨len, old, b2, b3⟩, out⟩
    rw [List.take_length] at out
    simp (disch := first | omega | (simp only [List.length_append, List.length_cons, List.length_nil, length_hset, length_hkill]; omega)) only [↓fsPre, fsPost, fsCond, fsGen, npick, nbin, nun, nconv, nnilCheck, noff, nidxArr, nidxSl, nfield, npart, nindex, nextract, nlenSl, nlenStr, ncap, mmx, minmax2, nslice, nsliceArr, nbounds, obound, bound, adv, nbits, eqVal, eqCell, eqCells, nfill, lenOfSl, cls, fresults, fresl, fres1, gt_iff_lt, ge_iff_le, reduceCtorEq, Nat.reduceAdd, Nat.reduceMul, Nat.reduceSub, Nat.reduceLT, Nat.reduceLeDiff, Nat.reduceEqDiff, Nat.reduceBEq, Nat.reduceBNe, Int.reduceLT, Int.reduceLE, Int.reduceEq, Int.reduceNe, Int.reduceAdd, Int.reduceSub, Int.reduceNeg, Int.reduceToNat, Int.reduceMul, ↓reduceIte, Int.reduceGT, Int.reduceGE, f2, f3, f9, f10, f11]
    exact ⟨Nat.le_trans (Nat.le_add_right _ 2) len, old, out.low (by omega)⟩

set_option maxHeartbeats 2000000 in
theorem rneeds_ok (N : Nat) (H : Heap) (R : List Rf) (z0 z1 z2 z3 z4 z5 z6 z7 z8 z9 : NV) (s : RfV H R z0 z1 z2 z3 z4 z5 z6 z7 z8 z9) (hR : R.length ≤ 10) (row : List NV) (e : En) (xE : EnAt H N row e) (hok : ∀ r ∈ R, RfOK r e) :
    DCall Try.prog 12 [.agg [z0, z1, z2, z3, z4, z5, z6, z7, z8, z9], .agg row] H (listQ H (needsL R e)) := by
  obtain ⟨⟨o0, o1, o2, o3, o4, o5, o6, o8, o9⟩, b, c, cs, ro, rfl, hb, hcut⟩ := s
  obtain ⟨mv, av, rfl, om, oa, hms, has, hm, ha⟩ := xE.parts
  have hbl := hget_some_lt hb
  refine call_det E0 rfl mixed t12_ok (by kernel_rfl) (by rintro q ⟨h, _⟩; exact h) ?_
  simp only [t12]
  simp (disch := first | omega | (simp only [List.length_append, List.length_cons, List.length_nil, length_hset, length_hkill]; omega)) only [↓fsPre, fsPost, fsCond, fsGen, npick, nbin, nun, nconv, nnilCheck, noff, nidxArr, nidxSl, nfield, npart, nindex, nextract, nlenSl, nlenStr, ncap, mmx, minmax2, nslice, nsliceArr, nbounds, obound, bound, adv, nbits, eqVal, eqCell, eqCells, nfill, lenOfSl, cls, fresults, fresl, fres1, gt_iff_lt, ge_iff_le, reduceCtorEq, Nat.reduceAdd, Nat.reduceMul, Nat.reduceSub, Nat.reduceLT, Nat.reduceLeDiff, Nat.reduceEqDiff, Nat.reduceBEq, Nat.reduceBNe, Int.reduceLT, Int.reduceLE, Int.reduceEq, Int.reduceNe, Int.reduceAdd, Int.reduceSub, Int.reduceNeg, Int.reduceToNat, Int.reduceMul, ↓reduceIte, Int.reduceGT, Int.reduceGE, o0, o1, o2, o3, o4, o5, o6, o8, o9, om, oa]
  refine wloop (fun k F h => F 2 = .ptr (some (H.length, 0)) ∧ F 3 = .ptr (some (H.length + 1, 0)) ∧ F 9 = .slice (some (b, 0)) R.length c ∧ F 10 = .int .i64 R.length ∧ F 11 = .int .i64 k ∧
    NdI H [z0, z1, z2, z3, z4, z5, z6, .slice (some (b, 0)) R.length c, z8, z9] [.int .i64 e.tab, mv, .int .i64 e.pr, .int .i64 e.act, av] h ∧ GrC h (H.length + 2) (tC (needsL (R.take k) e)) 4 (F 5)) R.length ?_ ?_ ?_
  · simp (disch := first | omega | (simp only [List.length_append, List.length_cons, List.length_nil, length_hset, length_hkill]; omega)) only [↓fsPre, fsPost, fsCond, fsGen, npick, nbin, nun, nconv, nnilCheck, noff, nidxArr, nidxSl, nfield, npart, nindex, nextract, nlenSl, nlenStr, ncap, mmx, minmax2, nslice, nsliceArr, nbounds, obound, bound, adv, nbits, eqVal, eqCell, eqCells, nfill, lenOfSl, cls, fresults, fresl, fres1, gt_iff_lt, ge_iff_le, reduceCtorEq, Nat.reduceAdd, Nat.reduceMul, Nat.reduceSub, Nat.reduceLT, Nat.reduceLeDiff, Nat.reduceEqDiff, Nat.reduceBEq, Nat.reduceBNe, Int.reduceLT, Int.reduceLE, Int.reduceEq, Int.reduceNe, Int.reduceAdd, Int.reduceSub, Int.reduceNeg, Int.reduceToNat, Int.reduceMul, ↓reduceIte, Int.reduceGT, Int.reduceGE]
    exact ⟨⟨by simp, fun q hq => hget_appl hq, by simp (disch := first | omega | (simp only [List.length_append, List.length_cons, List.length_nil, length_hset, length_hkill]; omega)) only [↓fsPre, fsPost, fsCond, fsGen, npick, nbin, nun, nconv, nnilCheck, noff, nidxArr, nidxSl, nfield, npart, nindex, nextract, nlenSl, nlenStr, ncap, mmx, minmax2, nslice, nsliceArr, nbounds, obound, bound, adv, nbits, eqVal, eqCell, eqCells, nfill, lenOfSl, cls, fresults, fresl, fres1, gt_iff_lt, ge_iff_le, reduceCtorEq, Nat.reduceAdd, Nat.reduceMul, Nat.reduceSub, Nat.reduceLT, Nat.reduceLeDiff, Nat.reduceEqDiff, Nat.reduceBEq, Nat.reduceBNe, Int.reduceLT, Int.reduceLE, Int.reduceEq, Int.reduceNe, Int.reduceAdd, Int.reduceSub, Int.reduceNeg, Int.reduceToNat, Int.reduceMul, ↓reduceIte, Int.reduceGT, Int.reduceGE], by simp (disch := first | omega | (simp only [List.length_append, List.length_cons, List.length_nil, length_hset, length_hkill]; omega)) only [↓fsPre, fsPost, fsCond, fsGen, npick, nbin, nun, nconv, nnilCheck, noff, nidxArr, nidxSl, nfield, npart, nindex, nextract, nlenSl, nlenStr, ncap, mmx, minmax2, nslice, nsliceArr, nbounds, obound, bound, adv, nbits, eqVal, eqCell, eqCells, nfill, lenOfSl, cls, fresults, fresl, fres1, gt_iff_lt, ge_iff_le, reduceCtorEq, Nat.reduceAdd, Nat.reduceMul, Nat.reduceSub, Nat.reduceLT, Nat.reduceLeDiff, Nat.reduceEqDiff, Nat.reduceBEq, Nat.reduceBNe, Int.reduceLT, Int.reduceLE, Int.reduceEq, Int.reduceNe, Int.reduceAdd, Int.reduceSub, Int.reduceNeg, Int.reduceToNat, Int.reduceMul, ↓reduceIte, Int.reduceGT, Int.reduceGE]⟩, .nil⟩
  · rintro k F h hk ⟨f2, f3, f9, f10, f11, ⟨len, old, b2, b3⟩, out⟩
    have hb' : hget h b = some (.cells cs ro) := by rw [old b hbl]; exact hb
    have hcr := hcut k hk
    have hr := hok _ (List.getElem_mem hk)
    have hstep := needsL_snoc (R.take k) R[k] e
    have htk : R.take (k + 1) = R.take k ++ [R[k]] := by rw [List.take_add_one, List.getElem?_eq_getElem hk]; rfl
    rw [← htk] at hstep
    have hle := needsL_le (R.take k) e
    rw [List.length_take] at hle
    generalize R[k] = r at *
    generalize hv5 : F 5 = v5 at *
    have o5v := out.one
    by_cases h1 : r.tab = e.tab
    · by_cases h2 : r.act = 0
      · have hrk := hr.k h1 h2
        obtain ⟨bm, csm, hmv, hbm, hcm⟩ := hm _ hrk
        have hbml := hget_some_lt hbm
        have hbm' : hget h bm = some (.cells csm false) := by rw [old bm hbml]; exact hbm
        rw [hmv] at b3
        simp (disch := first | omega | (simp only [List.length_append, List.length_cons, List.length_nil, length_hset, length_hkill]; omega)) only [↓fsPre, fsPost, fsCond, fsGen, npick, nbin, nun, nconv, nnilCheck, noff, nidxArr, nidxSl, nfield, npart, nindex, nextract, nlenSl, nlenStr, ncap, mmx, minmax2, nslice, nsliceArr, nbounds, obound, bound, adv, nbits, eqVal, eqCell, eqCells, nfill, lenOfSl, cls, fresults, fresl, fres1, gt_iff_lt, ge_iff_le, reduceCtorEq, Nat.reduceAdd, Nat.reduceMul, Nat.reduceSub, Nat.reduceLT, Nat.reduceLeDiff, Nat.reduceEqDiff, Nat.reduceBEq, Nat.reduceBNe, Int.reduceLT, Int.reduceLE, Int.reduceEq, Int.reduceNe, Int.reduceAdd, Int.reduceSub, Int.reduceNeg, Int.reduceToNat, Int.reduceMul, ↓reduceIte, Int.reduceGT, Int.reduceGE, f2, f3, f9, f10, f11, b2, b3, hv5, hb', hcr, Rf.cells, o0, o1, o2, o3, o4, o5, o6, o8, o9, om, oa, h1, h2, hbm', hcm]
        refine grc_app (N := H.length + 2) (new := [.int .i64 r.tt, .int .i64 r.tk, .int .u64 (mV e r.key).1, .int .u64 (mV e r.key).2]) (out.ext Ext.app) (by simp only [List.length_append]; omega) (sliceCells_at (by simp (disch := first | omega | (simp only [List.length_append, List.length_cons, List.length_nil, length_hset, length_hkill]; omega)) only [↓fsPre, fsPost, fsCond, fsGen, npick, nbin, nun, nconv, nnilCheck, noff, nidxArr, nidxSl, nfield, npart, nindex, nextract, nlenSl, nlenStr, ncap, mmx, minmax2, nslice, nsliceArr, nbounds, obound, bound, adv, nbits, eqVal, eqCell, eqCells, nfill, lenOfSl, cls, fresults, fresl, fres1, gt_iff_lt, ge_iff_le, reduceCtorEq, Nat.reduceAdd, Nat.reduceMul, Nat.reduceSub, Nat.reduceLT, Nat.reduceLeDiff, Nat.reduceEqDiff, Nat.reduceBEq, Nat.reduceBNe, Int.reduceLT, Int.reduceLE, Int.reduceEq, Int.reduceNe, Int.reduceAdd, Int.reduceSub, Int.reduceNeg, Int.reduceToNat, Int.reduceMul, ↓reduceIte, Int.reduceGT, Int.reduceGE] <;> rfl) rfl) rfl (by omega) (by omega) rfl (by rw [tC_length]; omega) (by omega) (by omega) ?_
        intro v' h' hg' hl' old'
        have hbm2 := (old' bm (by omega)).trans ((hget_appl (by omega)).trans hbm')
        have hn : need1 r e = some ⟨r.tt, r.tk, (mV e r.key).1, (mV e r.key).2⟩ := by unfold need1; rw [if_pos h1, if_pos h2]
        rw [hn] at hstep
        simp only [List.length_append, List.length_cons, List.length_nil] at hl'
        have hlg : h.length + 1 ≤ h'.length := by omega
        have d2 := (old' H.length (by omega)).trans ((hget_appl (by omega)).trans b2)
        have d3 := (old' (H.length + 1) (by omega)).trans ((hget_appl (by omega)).trans b3)
        have hlg2 : h.length + 2 ≤ h'.length := by omega
        simp (disch := first | omega | (simp only [List.length_append, List.length_cons, List.length_nil, length_hset, length_hkill]; omega)) only [↓fsPre, fsPost, fsCond, fsGen, npick, nbin, nun, nconv, nnilCheck, noff, nidxArr, nidxSl, nfield, npart, nindex, nextract, nlenSl, nlenStr, ncap, mmx, minmax2, nslice, nsliceArr, nbounds, obound, bound, adv, nbits, eqVal, eqCell, eqCells, nfill, lenOfSl, cls, fresults, fresl, fres1, gt_iff_lt, ge_iff_le, reduceCtorEq, Nat.reduceAdd, Nat.reduceMul, Nat.reduceSub, Nat.reduceLT, Nat.reduceLeDiff, Nat.reduceEqDiff, Nat.reduceBEq, Nat.reduceBNe, Int.reduceLT, Int.reduceLE, Int.reduceEq, Int.reduceNe, Int.reduceAdd, Int.reduceSub, Int.reduceNeg, Int.reduceToNat, Int.reduceMul, ↓reduceIte, Int.reduceGT, Int.reduceGE, f2, f3, f9, f10, f11, b2, b3, hv5, hb', hcr, Rf.cells, o0, o1, o2, o3, o4, o5, o6, o8, o9, om, oa, h1, h2, d2, d3, hlg, hlg2, hbm', hcm, hbm2]
        refine ⟨⟨by omega, fun q hq => (old' q (by omega)).trans ((hget_appl (by omega)).trans (old q hq)), d2, by rw [hmv]; exact d3⟩, ?_⟩
        rw [hstep, tC_append]
        exact hg'
      · by_cases h3 : r.act = e.act
        · have hrk := hr.p h1 h2 h3
          obtain ⟨bm, csm, hmv, hbm, hcm⟩ := ha _ hrk
          have hbml := hget_some_lt hbm
          have hbm' : hget h bm = some (.cells csm false) := by rw [old bm hbml]; exact hbm
          rw [hmv] at b3
          simp (disch := first | omega | (simp only [List.length_append, List.length_cons, List.length_nil, length_hset, length_hkill]; omega)) only [↓fsPre, fsPost, fsCond, fsGen, npick, nbin, nun, nconv, nnilCheck, noff, nidxArr, nidxSl, nfield, npart, nindex, nextract, nlenSl, nlenStr, ncap, mmx, minmax2, nslice, nsliceArr, nbounds, obound, bound, adv, nbits, eqVal, eqCell, eqCells, nfill, lenOfSl, cls, fresults, fresl, fres1, gt_iff_lt, ge_iff_le, reduceCtorEq, Nat.reduceAdd, Nat.reduceMul, Nat.reduceSub, Nat.reduceLT, Nat.reduceLeDiff, Nat.reduceEqDiff, Nat.reduceBEq, Nat.reduceBNe, Int.reduceLT, Int.reduceLE, Int.reduceEq, Int.reduceNe, Int.reduceAdd, Int.reduceSub, Int.reduceNeg, Int.reduceToNat, Int.reduceMul, ↓reduceIte, Int.reduceGT, Int.reduceGE, f2, f3, f9, f10, f11, b2, b3, hv5, hb', hcr, Rf.cells, o0, o1, o2, o3, o4, o5, o6, o8, o9, om, oa, h1, h2, h3, hbm', hcm]
          refine grc_app (N := H.length + 2) (new := [.int .i64 r.tt, .int .i64 r.tk, .int .u64 (aV e r.par).1, .int .u64 (aV e r.par).2]) (out.ext Ext.app) (by simp only [List.length_append]; omega) (sliceCells_at (by simp (disch := first | omega | (simp only [List.length_append, List.length_cons, List.length_nil, length_hset, length_hkill]; omega)) only [↓fsPre, fsPost, fsCond, fsGen, npick, nbin, nun, nconv, nnilCheck, noff, nidxArr, nidxSl, nfield, npart, nindex, nextract, nlenSl, nlenStr, ncap, mmx, minmax2, nslice, nsliceArr, nbounds, obound, bound, adv, nbits, eqVal, eqCell, eqCells, nfill, lenOfSl, cls, fresults, fresl, fres1, gt_iff_lt, ge_iff_le, reduceCtorEq, Nat.reduceAdd, Nat.reduceMul, Nat.reduceSub, Nat.reduceLT, Nat.reduceLeDiff, Nat.reduceEqDiff, Nat.reduceBEq, Nat.reduceBNe, Int.reduceLT, Int.reduceLE, Int.reduceEq, Int.reduceNe, Int.reduceAdd, Int.reduceSub, Int.reduceNeg, Int.reduceToNat, Int.reduceMul, ↓reduceIte, Int.reduceGT, Int.reduceGE] <;> rfl) rfl) rfl (by omega) (by omega) rfl (by rw [tC_length]; omega) (by omega) (by omega) ?_
          intro v' h' hg' hl' old'
          have hbm2 := (old' bm (by omega)).trans ((hget_appl (by omega)).trans hbm')
          have hn : need1 r e = some ⟨r.tt, r.tk, (aV e r.par).1, (aV e r.par).2⟩ := by unfold need1; rw [if_pos h1, if_neg h2, if_pos h3]
          rw [hn] at hstep
          simp only [List.length_append, List.length_cons, List.length_nil] at hl'
          have hlg : h.length + 1 ≤ h'.length := by omega
          have d2 := (old' H.length (by omega)).trans ((hget_appl (by omega)).trans b2)
          have d3 := (old' (H.length + 1) (by omega)).trans ((hget_appl (by omega)).trans b3)
          have hlg2 : h.length + 2 ≤ h'.length := by omega
          simp (disch := first | omega | (simp only [List.length_append, List.length_cons, List.length_nil, length_hset, length_hkill]; omega)) only [↓fsPre, fsPost, fsCond, fsGen, npick, nbin, nun, nconv, nnilCheck, noff, nidxArr, nidxSl, nfield, npart, nindex, nextract, nlenSl, nlenStr, ncap, mmx, minmax2, nslice, nsliceArr, nbounds, obound, bound, adv, nbits, eqVal, eqCell, eqCells, nfill, lenOfSl, cls, fresults, fresl, fres1, gt_iff_lt, ge_iff_le, reduceCtorEq, Nat.reduceAdd, Nat.reduceMul, Nat.reduceSub, Nat.reduceLT, Nat.reduceLeDiff, Nat.reduceEqDiff, Nat.reduceBEq, Nat.reduceBNe, Int.reduceLT, Int.reduceLE, Int.reduceEq, Int.reduceNe, Int.reduceAdd, Int.reduceSub, Int.reduceNeg, Int.reduceToNat, Int.reduceMul, ↓reduceIte, Int.reduceGT, Int.reduceGE, f2, f3, f9, f10, f11, b2, b3, hv5, hb', hcr, Rf.cells, o0, o1, o2, o3, o4, o5, o6, o8, o9, om, oa, h1, h2, h3, d2, d3, hlg, hlg2, hbm', hcm, hbm2]
          refine ⟨⟨by omega, fun q hq => (old' q (by omega)).trans ((hget_appl (by omega)).trans (old q hq)), d2, by rw [hmv]; exact d3⟩, ?_⟩
          rw [hstep, tC_append]
          exact hg'
        · simp (disch := first | omega | (simp only [List.length_append, List.length_cons, List.length_nil, length_hset, length_hkill]; omega)) only [↓fsPre, fsPost, fsCond, fsGen, npick, nbin, nun, nconv, nnilCheck, noff, nidxArr, nidxSl, nfield, npart, nindex, nextract, nlenSl, nlenStr, ncap, mmx, minmax2, nslice, nsliceArr, nbounds, obound, bound, adv, nbits, eqVal, eqCell, eqCells, nfill, lenOfSl, cls, fresults, fresl, fres1, gt_iff_lt, ge_iff_le, reduceCtorEq, Nat.reduceAdd, Nat.reduceMul, Nat.reduceSub, Nat.reduceLT, Nat.reduceLeDiff, Nat.reduceEqDiff, Nat.reduceBEq, Nat.reduceBNe, Int.reduceLT, Int.reduceLE, Int.reduceEq, Int.reduceNe, Int.reduceAdd, Int.reduceSub, Int.reduceNeg, Int.reduceToNat, Int.reduceMul, ↓reduceIte, Int.reduceGT, Int.reduceGE, f2, f3, f9, f10, f11, b2, b3, hv5, hb', hcr, Rf.cells, o0, o1, o2, o3, o4, o5, o6, o8, o9, om, oa, h1, h2, h3]
          have hn : need1 r e = none := by unfold need1; rw [if_pos h1, if_neg h2, if_neg h3]
          rw [hn, List.append_nil] at hstep
          refine ⟨⟨by simp only [List.length_append]; omega, fun q hq => (hget_appl (by omega)).trans (old q hq), (hget_appl (by omega)).trans b2, (hget_appl (by omega)).trans b3⟩, ?_⟩
          rw [hstep]; exact out.ext Ext.app
    · simp (disch := first | omega | (simp only [List.length_append, List.length_cons, List.length_nil, length_hset, length_hkill]; omega)) only [↓fsPre, fsPost, fsCond, fsGen, npick, nbin, nun, nconv, nnilCheck, noff, nidxArr, nidxSl, nfield, npart, nindex, nextract, nlenSl, nlenStr, ncap, mmx, minmax2, nslice, nsliceArr, nbounds, obound, bound, adv, nbits, eqVal, eqCell, eqCells, nfill, lenOfSl, cls, fresults, fresl, fres1, gt_iff_lt, ge_iff_le, reduceCtorEq, Nat.reduceAdd, Nat.reduceMul, Nat.reduceSub, Nat.reduceLT, Nat.reduceLeDiff, Nat.reduceEqDiff, Nat.reduceBEq, Nat.reduceBNe, Int.reduceLT, Int.reduceLE, Int.reduceEq, Int.reduceNe, Int.reduceAdd, Int.reduceSub, Int.reduceNeg, Int.reduceToNat, Int.reduceMul, ↓reduceIte, Int.reduceGT, Int.reduceGE, f2, f3, f9, f10, f11, b2, b3, hv5, hb', hcr, Rf.cells, o0, o1, o2, o3, o4, o5, o6, o8, o9, om, oa, h1]
      have hn : need1 r e = none := by unfold need1; rw [if_neg h1]
      rw [hn, List.append_nil] at hstep
      refine ⟨⟨by simp only [List.length_append]; omega, fun q hq => (hget_appl (by omega)).trans (old q hq), (hget_appl (by omega)).trans b2, (hget_appl (by omega)).trans b3⟩, ?_⟩
      rw [hstep]; exact out.ext Ext.app
  · rintro F h ⟨f2, f3, f9, f10, f11, ⟨len, old, b2, b3⟩, out⟩
    rw [List.take_length] at out
    simp (disch := first | omega | (simp only [List.length_append, List.length_cons, List.length_nil, length_hset, length_hkill]; omega)) only [↓fsPre, fsPost, fsCond, fsGen, npick, nbin, nun, nconv, nnilCheck, noff, nidxArr, nidxSl, nfield, npart, nindex, nextract, nlenSl, nlenStr, ncap, mmx, minmax2, nslice, nsliceArr, nbounds, obound, bound, adv, nbits, eqVal, eqCell, eqCells, nfill, lenOfSl, cls, fresults, fresl, fres1, gt_iff_lt, ge_iff_le, reduceCtorEq, Nat.reduceAdd, Nat.reduceMul, Nat.reduceSub, Nat.reduceLT, Nat.reduceLeDiff, Nat.reduceEqDiff, Nat.reduceBEq, Nat.reduceBNe, Int.reduceLT, Int.reduceLE, Int.reduceEq, Int.reduceNe, Int.reduceAdd, Int.reduceSub, Int.reduceNeg, Int.reduceToNat, Int.reduceMul, ↓reduceIte, Int.reduceGT, Int.reduceGE, f2, f3, f9, f10, f11]
    exact ⟨Nat.le_trans (Nat.le_add_right _ 2) len, old, out.low (by omega)⟩

end Go.Proofs
