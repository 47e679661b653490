/- QuotaApart. -/
import Derived.Test.YtlnkiclnofgagaaS1SchQ
import Derived.Test.YtlnkiclnofgagaaS1B
import Derived.Test.YtlnkiclnofgagaaFsG
set_option linter.unusedSimpArgs false
set_option linter.unusedVariables false
set_option maxRecDepth 10000
namespace Go.Proofs
open Go.Ns

theorem bytesArg_mono {H H' : Heap} {v : NV} {xs : List Int} (h : BytesArg H v xs) (o : ∀ b, b < H.length → hget H' b = hget H b) : BytesArg H' v xs := by
  rcases h with h | ⟨b, m, cs, ro, h0, h1, h2⟩
  · exact .inl h
  · exact .inr ⟨b, m, cs, ro, h0, by rw [o _ (hget_lt h1)]; exact h1, h2⟩

def stepA (q k : Nat → Int) (i : Int) : Nat → Int := if addOk q k i then bump k i.toNat 1 else k
def stepD (k : Nat → Int) (i : Int) : Nat → Int := if dropOk k i then bump k i.toNat (-1) else k
def cntQ (H : Heap) (c b : Nat) (ok : Bool) (k' : Nat → Int) (r : NV × Heap) : Prop := r.1 = .bool ok ∧ CntAt r.2 c b k' ∧ r.2.length = H.length ∧ ∀ e, e ≠ c → hget r.2 e = hget H e
theorem addD (H : Heap) (c b : Nat) (q k : Nat → Int) (id : Int) (hr : RolesAt H b q) (hc : CntAt H c b k) (hk : ∀ i, 0 ≤ k i ∧ k i ≤ 40) (hq : ∀ i, q i ≤ 40) :
    DCall Try.prog 20 [.ptr (some (c, 0)), .int .i64 id] H (cntQ H c b (addOk q k (rix id)) (stepA q k (rix id))) := by
  refine ⟨_, _, add_ok H c b q k id hr hc (fun i => ⟨(hk i).1, by have := (hk i).2; omega⟩) (fun i => by have := hq i; omega), rfl, ?_, ?_, fun e he => ?_⟩
  · unfold stepA
    split
    · exact hget_hset_same (hget_lt hc)
    · exact hc
  · split <;> simp
  · split
    · exact hget_hset_ne (Ne.symm he)
    · rfl
theorem dropD (H : Heap) (c b : Nat) (q k : Nat → Int) (id : Int) (hr : RolesAt H b q) (hc : CntAt H c b k) (hk : ∀ i, 0 ≤ k i ∧ k i ≤ 40) (hq : ∀ i, q i ≤ 40) :
    DCall Try.prog 22 [.ptr (some (c, 0)), .int .i64 id] H (cntQ H c b (dropOk k (rix id)) (stepD k (rix id))) := by
  refine ⟨_, _, drop_ok H c b q k id hr hc (fun i => ⟨(hk i).1, by have := (hk i).2; omega⟩) (fun i => by have := hq i; omega), rfl, ?_, ?_, fun e he => ?_⟩
  · unfold stepD
    split
    · exact hget_hset_same (hget_lt hc)
    · exact hc
  · split <;> simp
  · split
    · exact hget_hset_ne (Ne.symm he)
    · rfl
theorem stepA_range {q k : Nat → Int} {i : Int} (hk : ∀ i, 0 ≤ k i ∧ k i ≤ 40) (hq : ∀ i, q i ≤ 40) : ∀ j, 0 ≤ stepA q k i j ∧ stepA q k i j ≤ 40 := by
  intro j
  unfold stepA
  have h1 := hk j
  have h2 := hq i.toNat
  split
  · rename_i h
    simp [addOk] at h
    unfold bump
    split
    · rename_i e; subst e; omega
    · exact h1
  · exact h1
theorem stepD_range {k : Nat → Int} {i : Int} (hk : ∀ i, 0 ≤ k i ∧ k i ≤ 40) : ∀ j, 0 ≤ stepD k i j ∧ stepD k i j ≤ 40 := by
  intro j
  unfold stepD
  have h1 := hk j
  split
  · rename_i h
    simp [dropOk] at h
    unfold bump
    split
    · rename_i e; subst e; omega
    · exact h1
  · exact h1
theorem stepA_other {q k : Nat → Int} {i : Int} (h0 : 0 ≤ i) (h : i ≠ 1) : stepA q k i 1 = k 1 := by
  unfold stepA
  split
  · unfold bump; rw [if_neg (by omega)]
  · rfl
theorem stepD_other {k : Nat → Int} {i : Int} (h0 : 0 ≤ i) (h : i ≠ 1) : stepD k i 1 = k 1 := by
  unfold stepD
  split
  · unfold bump; rw [if_neg (by omega)]
  · rfl
theorem stepA_same {q k k' : Nat → Int} (h : k 1 = k' 1) : stepA q k 1 1 = stepA q k' 1 1 := by
  simp [stepA, addOk, h]
  split <;> simp [bump, h]
theorem stepD_same {k k' : Nat → Int} (h : k 1 = k' 1) : stepD k 1 1 = stepD k' 1 1 := by
  simp [stepD, dropOk, h]
  split <;> simp [bump, h]
theorem ids_at (t : Int) (h0 : 0 ≤ t) (h1 : t < 3) : ∃ id, ([NV.int .i64 1, .int .i64 2, .int .i64 7] : List NV)[t.toNat]? = some (.int .i64 id) ∧ (id = 1 ∨ id = 2 ∨ id = 7) := by
  have : t = 0 ∨ t = 1 ∨ t = 2 := by omega
  rcases this with rfl | rfl | rfl
  · exact ⟨1, rfl, .inl rfl⟩
  · exact ⟨2, rfl, .inr (.inl rfl)⟩
  · exact ⟨7, rfl, .inr (.inr rfl)⟩

theorem apart_ok (H : Heap) (v w : NV) (xs ys : List Int) (hv : BytesArg H v xs) (hw : BytesArg H w ys) : NFun Try.prog 5 [v, w] H fun q => q.1 = .bool true := by
  have ov : v.one = true := by rcases hv with ⟨rfl, _⟩ | ⟨_, _, _, _, rfl, _⟩ <;> rfl
  refine fun_of_fwp E0 mixed t5_ok.2 (by kernel_rfl) ?_
  rw [fwp_T]
  simp only [t5]
  simp (disch := first | omega | (simp only [List.length_append, List.length_cons, List.length_nil, length_hset, length_hkill]; omega)) only [↓fsPre, fsPost, fsCond, fsGen, npick, nbin, nun, nconv, nnilCheck, noff, nidxArr, nidxSl, nfield, npart, nindex, nextract, nlenSl, nlenStr, ncap, mmx, minmax2, nslice, nsliceArr, nbounds, obound, bound, adv, nbits, eqVal, eqCell, eqCells, nfill, lenOfSl, cls, fresults, fresl, fres1, gt_iff_lt, ge_iff_le, reduceCtorEq, Nat.reduceAdd, Nat.reduceMul, Nat.reduceSub, Nat.reduceLT, Nat.reduceLeDiff, Nat.reduceEqDiff, Nat.reduceBEq, Nat.reduceBNe, Int.reduceLT, Int.reduceLE, Int.reduceEq, Int.reduceNe, Int.reduceAdd, Int.reduceSub, Int.reduceNeg, Int.reduceToNat, Int.reduceMul, ↓reduceIte, Int.reduceGT, Int.reduceGE]
  refine callT_D (codes_ok H v xs 120 hv (by omega)) rfl ?_
  rintro v1 g1 ⟨sl, m, e, hs⟩
  cases e
  simp (disch := first | omega | (simp only [List.length_append, List.length_cons, List.length_nil, length_hset, length_hkill]; omega)) only [↓fsPre, fsPost, fsCond, fsGen, npick, nbin, nun, nconv, nnilCheck, noff, nidxArr, nidxSl, nfield, npart, nindex, nextract, nlenSl, nlenStr, ncap, mmx, minmax2, nslice, nsliceArr, nbounds, obound, bound, adv, nbits, eqVal, eqCell, eqCells, nfill, lenOfSl, cls, fresults, fresl, fres1, gt_iff_lt, ge_iff_le, reduceCtorEq, Nat.reduceAdd, Nat.reduceMul, Nat.reduceSub, Nat.reduceLT, Nat.reduceLeDiff, Nat.reduceEqDiff, Nat.reduceBEq, Nat.reduceBNe, Int.reduceLT, Int.reduceLE, Int.reduceEq, Int.reduceNe, Int.reduceAdd, Int.reduceSub, Int.reduceNeg, Int.reduceToNat, Int.reduceMul, ↓reduceIte, Int.reduceGT, Int.reduceGE]
  refine callT_D (schema_ok _ _ m sl (CodesSt.refl hget_append_new (by omega) (by omega) hs)) rfl ?_
  rintro v2 g2 hq
  obtain ⟨b, q, z0, z1, z2, z3, z4, z5, z7, z8, z9, rfl, sch, hb, hqr, hg2, hold⟩ := hq.roles
  have hw2 : BytesArg g2 w ys := bytesArg_mono hw fun c hc => by rw [hold c (by simp; omega) (by omega), hget_appl hc]
  have hwB : ∀ b' m c', w = .slice (some (b', 0)) m c' → b' < g2.length := by
    intro b' m c' e
    rcases hw2 with ⟨e1, _⟩ | ⟨B, mm, cs, ro, e1, h1, _⟩
    · rw [e1] at e; cases e
    · rw [e1] at e; cases e; exact hget_lt h1
  obtain ⟨o0, o1, o2, o3, o4, o5, o7, o8, o9⟩ := sch.2.2.2.2.2.2.2
  have rol := sch.2.2.2.2.2.2.1
  clear hq hs hold sch
  simp (disch := first | omega | (simp only [List.length_append, List.length_cons, List.length_nil, length_hset, length_hkill]; omega)) only [↓fsPre, fsPost, fsCond, fsGen, npick, nbin, nun, nconv, nnilCheck, noff, nidxArr, nidxSl, nfield, npart, nindex, nextract, nlenSl, nlenStr, ncap, mmx, minmax2, nslice, nsliceArr, nbounds, obound, bound, adv, nbits, eqVal, eqCell, eqCells, nfill, lenOfSl, cls, fresults, fresl, fres1, gt_iff_lt, ge_iff_le, reduceCtorEq, Nat.reduceAdd, Nat.reduceMul, Nat.reduceSub, Nat.reduceLT, Nat.reduceLeDiff, Nat.reduceEqDiff, Nat.reduceBEq, Nat.reduceBNe, Int.reduceLT, Int.reduceLE, Int.reduceEq, Int.reduceNe, Int.reduceAdd, Int.reduceSub, Int.reduceNeg, Int.reduceToNat, Int.reduceMul, ↓reduceIte, Int.reduceGT, Int.reduceGE, o0, o1, o2, o3, o4, o5, o7, o8, o9]
  refine callDT_D (cnew_ok _ b z0 z1 z2 z3 z4 z5 z7 z8 z9 ⟨o0, o1, o2, o3, o4, o5, o7, o8, o9⟩) rfl ?_
  rintro v3 g3 ⟨L1, c, e, hc, cnt1⟩
  cases e
  simp (disch := first | omega | (simp only [List.length_append, List.length_cons, List.length_nil, length_hset, length_hkill]; omega)) only [↓fsPre, fsPost, fsCond, fsGen, npick, nbin, nun, nconv, nnilCheck, noff, nidxArr, nidxSl, nfield, npart, nindex, nextract, nlenSl, nlenStr, ncap, mmx, minmax2, nslice, nsliceArr, nbounds, obound, bound, adv, nbits, eqVal, eqCell, eqCells, nfill, lenOfSl, cls, fresults, fresl, fres1, gt_iff_lt, ge_iff_le, reduceCtorEq, Nat.reduceAdd, Nat.reduceMul, Nat.reduceSub, Nat.reduceLT, Nat.reduceLeDiff, Nat.reduceEqDiff, Nat.reduceBEq, Nat.reduceBNe, Int.reduceLT, Int.reduceLE, Int.reduceEq, Int.reduceNe, Int.reduceAdd, Int.reduceSub, Int.reduceNeg, Int.reduceToNat, Int.reduceMul, ↓reduceIte, Int.reduceGT, Int.reduceGE, o0, o1, o2, o3, o4, o5, o7, o8, o9]
  refine callDT_D (cnew_ok _ b z0 z1 z2 z3 z4 z5 z7 z8 z9 ⟨o0, o1, o2, o3, o4, o5, o7, o8, o9⟩) rfl ?_
  rintro v4 g4 ⟨L2, d, e, hd, cnt2⟩
  cases e
  simp (disch := first | omega | (simp only [List.length_append, List.length_cons, List.length_nil, length_hset, length_hkill]; omega)) only [↓fsPre, fsPost, fsCond, fsGen, npick, nbin, nun, nconv, nnilCheck, noff, nidxArr, nidxSl, nfield, npart, nindex, nextract, nlenSl, nlenStr, ncap, mmx, minmax2, nslice, nsliceArr, nbounds, obound, bound, adv, nbits, eqVal, eqCell, eqCells, nfill, lenOfSl, cls, fresults, fresl, fres1, gt_iff_lt, ge_iff_le, reduceCtorEq, Nat.reduceAdd, Nat.reduceMul, Nat.reduceSub, Nat.reduceLT, Nat.reduceLeDiff, Nat.reduceEqDiff, Nat.reduceBEq, Nat.reduceBNe, Int.reduceLT, Int.reduceLE, Int.reduceEq, Int.reduceNe, Int.reduceAdd, Int.reduceSub, Int.reduceNeg, Int.reduceToNat, Int.reduceMul, ↓reduceIte, Int.reduceGT, Int.reduceGE, o0, o1, o2, o3, o4, o5, o7, o8, o9]
  refine ⟨by omega, ?_⟩
  have hbl := rol.lt
  have rol2 : RolesAt (g2 ++ some (.cells [z0, z1, z2, z3, z4, z5, .slice (some (b, 0)) 3 (.fix 3), z7, z8, z9] false) :: (L1 ++ L2)) b q := rol.mono (hget_appl hbl)
  have hw3 : BytesArg (g2 ++ some (.cells [z0, z1, z2, z3, z4, z5, .slice (some (b, 0)) 3 (.fix 3), z7, z8, z9] false) :: (L1 ++ L2)) w ys := hw2.app
  have hcl := hget_some_lt cnt1
  simp only [List.length_append, List.length_cons, List.length_nil] at hc hd hcl
  have hcd : c < d := by omega
  have cn2 : CntAt (g2 ++ some (.cells [z0, z1, z2, z3, z4, z5, .slice (some (b, 0)) 3 (.fix 3), z7, z8, z9] false) :: (L1 ++ L2)) d b (fun _ => 0) := by simpa [List.append_assoc] using cnt2
  have cn1 : CntAt (g2 ++ some (.cells [z0, z1, z2, z3, z4, z5, .slice (some (b, 0)) 3 (.fix 3), z7, z8, z9] false) :: (L1 ++ L2)) c b (fun _ => 0) := by
    have h1 := hget_some_lt cnt1
    have : CntAt ((g2 ++ some (.cells [z0, z1, z2, z3, z4, z5, .slice (some (b, 0)) 3 (.fix 3), z7, z8, z9] false) :: L1) ++ L2) c b (fun _ => 0) := by
      unfold CntAt
      rw [hget_appl (by simpa using h1)]
      simpa [CntAt, List.append_assoc] using cnt1
    simpa [List.append_assoc] using this
  have hbc : b ≠ c := by omega
  have hbd : b ≠ d := by omega
  generalize g2 ++ some _ :: (L1 ++ L2) = M at *
  have hbM := rol2.lt
  have hcM := hget_some_lt cn1
  have hdM := hget_some_lt cn2
  rcases hw3 with ⟨rfl, rfl⟩ | ⟨B, mm, cs, ro, rfl, w1, w2, w3, w4, w5⟩
  · simp (disch := first | omega | (simp only [List.length_append, List.length_cons, List.length_nil, length_hset, length_hkill]; omega)) only [↓fsPre, fsPost, fsCond, fsGen, npick, nbin, nun, nconv, nnilCheck, noff, nidxArr, nidxSl, nfield, npart, nindex, nextract, nlenSl, nlenStr, ncap, mmx, minmax2, nslice, nsliceArr, nbounds, obound, bound, adv, nbits, eqVal, eqCell, eqCells, nfill, lenOfSl, cls, fresults, fresl, fres1, gt_iff_lt, ge_iff_le, reduceCtorEq, Nat.reduceAdd, Nat.reduceMul, Nat.reduceSub, Nat.reduceLT, Nat.reduceLeDiff, Nat.reduceEqDiff, Nat.reduceBEq, Nat.reduceBNe, Int.reduceLT, Int.reduceLE, Int.reduceEq, Int.reduceNe, Int.reduceAdd, Int.reduceSub, Int.reduceNeg, Int.reduceToNat, Int.reduceMul, ↓reduceIte, Int.reduceGT, Int.reduceGE]
    refine wloop (fun j F h => F 6 = .ptr (some (c, 0)) ∧ F 7 = .ptr (some (d, 0)) ∧ F 22 = .slice none 0 (.fix 0) ∧ F 23 = .int .i64 0 ∧ F 24 = .int .i64 j ∧ M.length ≤ h.length ∧ (∀ e, e < M.length → e ≠ c → e ≠ d → hget h e = hget M e) ∧ ∃ kc kd, CntAt h c b kc ∧ CntAt h d b kd ∧ kc 1 = kd 1 ∧ (∀ i, 0 ≤ kc i ∧ kc i ≤ 40) ∧ (∀ i, 0 ≤ kd i ∧ kd i ≤ 40)) 0 ?_ (fun j F h hj => by omega) ?_
    · simp (disch := first | omega | (simp only [List.length_append, List.length_cons, List.length_nil, length_hset, length_hkill]; omega)) only [↓fsPre, fsPost, fsCond, fsGen, npick, nbin, nun, nconv, nnilCheck, noff, nidxArr, nidxSl, nfield, npart, nindex, nextract, nlenSl, nlenStr, ncap, mmx, minmax2, nslice, nsliceArr, nbounds, obound, bound, adv, nbits, eqVal, eqCell, eqCells, nfill, lenOfSl, cls, fresults, fresl, fres1, gt_iff_lt, ge_iff_le, reduceCtorEq, Nat.reduceAdd, Nat.reduceMul, Nat.reduceSub, Nat.reduceLT, Nat.reduceLeDiff, Nat.reduceEqDiff, Nat.reduceBEq, Nat.reduceBNe, Int.reduceLT, Int.reduceLE, Int.reduceEq, Int.reduceNe, Int.reduceAdd, Int.reduceSub, Int.reduceNeg, Int.reduceToNat, Int.reduceMul, ↓reduceIte, Int.reduceGT, Int.reduceGE]
      exact ⟨_, _, cn1, cn2, rfl, fun _ => ⟨by omega, by omega⟩, fun _ => ⟨by omega, by omega⟩⟩
    rintro F h ⟨f6, f7, f22, f23, f24, hl, ho, kc, kd, h1, h2, hk, _, _⟩
    have rh : RolesAt h b q := rol2.mono (ho b hbM hbc hbd)
    simp (disch := first | omega | (simp only [List.length_append, List.length_cons, List.length_nil, length_hset, length_hkill]; omega)) only [↓fsPre, fsPost, fsCond, fsGen, npick, nbin, nun, nconv, nnilCheck, noff, nidxArr, nidxSl, nfield, npart, nindex, nextract, nlenSl, nlenStr, ncap, mmx, minmax2, nslice, nsliceArr, nbounds, obound, bound, adv, nbits, eqVal, eqCell, eqCells, nfill, lenOfSl, cls, fresults, fresl, fres1, gt_iff_lt, ge_iff_le, reduceCtorEq, Nat.reduceAdd, Nat.reduceMul, Nat.reduceSub, Nat.reduceLT, Nat.reduceLeDiff, Nat.reduceEqDiff, Nat.reduceBEq, Nat.reduceBNe, Int.reduceLT, Int.reduceLE, Int.reduceEq, Int.reduceNe, Int.reduceAdd, Int.reduceSub, Int.reduceNeg, Int.reduceToNat, Int.reduceMul, ↓reduceIte, Int.reduceGT, Int.reduceGE, f6, f7, f22, f23, f24]
    have c1 := count_ok h c b q kc 2 rh h1
    have c2 := count_ok h d b q kd 2 rh h2
    rw [show rix 2 = 1 from rfl, show cntOf kc 1 = kc 1 from rfl] at c1
    rw [show rix 2 = 1 from rfl, show cntOf kd 1 = kd 1 from rfl] at c2
    refine callT_one c1 rfl ?_
    simp (disch := first | omega | (simp only [List.length_append, List.length_cons, List.length_nil, length_hset, length_hkill]; omega)) only [↓fsPre, fsPost, fsCond, fsGen, npick, nbin, nun, nconv, nnilCheck, noff, nidxArr, nidxSl, nfield, npart, nindex, nextract, nlenSl, nlenStr, ncap, mmx, minmax2, nslice, nsliceArr, nbounds, obound, bound, adv, nbits, eqVal, eqCell, eqCells, nfill, lenOfSl, cls, fresults, fresl, fres1, gt_iff_lt, ge_iff_le, reduceCtorEq, Nat.reduceAdd, Nat.reduceMul, Nat.reduceSub, Nat.reduceLT, Nat.reduceLeDiff, Nat.reduceEqDiff, Nat.reduceBEq, Nat.reduceBNe, Int.reduceLT, Int.reduceLE, Int.reduceEq, Int.reduceNe, Int.reduceAdd, Int.reduceSub, Int.reduceNeg, Int.reduceToNat, Int.reduceMul, ↓reduceIte, Int.reduceGT, Int.reduceGE, f6, f7, f22, f23, f24]
    refine callT_one c2 rfl ?_
    simp (disch := first | omega | (simp only [List.length_append, List.length_cons, List.length_nil, length_hset, length_hkill]; omega)) only [↓fsPre, fsPost, fsCond, fsGen, npick, nbin, nun, nconv, nnilCheck, noff, nidxArr, nidxSl, nfield, npart, nindex, nextract, nlenSl, nlenStr, ncap, mmx, minmax2, nslice, nsliceArr, nbounds, obound, bound, adv, nbits, eqVal, eqCell, eqCells, nfill, lenOfSl, cls, fresults, fresl, fres1, gt_iff_lt, ge_iff_le, reduceCtorEq, Nat.reduceAdd, Nat.reduceMul, Nat.reduceSub, Nat.reduceLT, Nat.reduceLeDiff, Nat.reduceEqDiff, Nat.reduceBEq, Nat.reduceBNe, Int.reduceLT, Int.reduceLE, Int.reduceEq, Int.reduceNe, Int.reduceAdd, Int.reduceSub, Int.reduceNeg, Int.reduceToNat, Int.reduceMul, ↓reduceIte, Int.reduceGT, Int.reduceGE, f6, f7, f22, f23, f24, hk]
    refine callT_one (begun17_ok h) rfl ?_
    simp (disch := first | omega | (simp only [List.length_append, List.length_cons, List.length_nil, length_hset, length_hkill]; omega)) only [↓fsPre, fsPost, fsCond, fsGen, npick, nbin, nun, nconv, nnilCheck, noff, nidxArr, nidxSl, nfield, npart, nindex, nextract, nlenSl, nlenStr, ncap, mmx, minmax2, nslice, nsliceArr, nbounds, obound, bound, adv, nbits, eqVal, eqCell, eqCells, nfill, lenOfSl, cls, fresults, fresl, fres1, gt_iff_lt, ge_iff_le, reduceCtorEq, Nat.reduceAdd, Nat.reduceMul, Nat.reduceSub, Nat.reduceLT, Nat.reduceLeDiff, Nat.reduceEqDiff, Nat.reduceBEq, Nat.reduceBNe, Int.reduceLT, Int.reduceLE, Int.reduceEq, Int.reduceNe, Int.reduceAdd, Int.reduceSub, Int.reduceNeg, Int.reduceToNat, Int.reduceMul, ↓reduceIte, Int.reduceGT, Int.reduceGE]
  · have e1 : (if (60 : Int) < ys.length then (60 : Int) else ys.length) = (min 60 ys.length : Nat) := by split <;> omega
    have e2 : min 60 ys.length ≤ ys.length := by omega
    have e3 : min 60 ys.length ≤ 60 := by omega
    generalize min 60 ys.length = N at *
    have hBg := hwB _ _ _ rfl
    have hBc : B ≠ c := by omega
    have hBd : B ≠ d := by omega
    have hBM := hget_some_lt w1
    simp (disch := first | omega | (simp only [List.length_append, List.length_cons, List.length_nil, length_hset, length_hkill]; omega)) only [↓fsPre, fsPost, fsCond, fsGen, npick, nbin, nun, nconv, nnilCheck, noff, nidxArr, nidxSl, nfield, npart, nindex, nextract, nlenSl, nlenStr, ncap, mmx, minmax2, nslice, nsliceArr, nbounds, obound, bound, adv, nbits, eqVal, eqCell, eqCells, nfill, lenOfSl, cls, fresults, fresl, fres1, gt_iff_lt, ge_iff_le, reduceCtorEq, Nat.reduceAdd, Nat.reduceMul, Nat.reduceSub, Nat.reduceLT, Nat.reduceLeDiff, Nat.reduceEqDiff, Nat.reduceBEq, Nat.reduceBNe, Int.reduceLT, Int.reduceLE, Int.reduceEq, Int.reduceNe, Int.reduceAdd, Int.reduceSub, Int.reduceNeg, Int.reduceToNat, Int.reduceMul, ↓reduceIte, Int.reduceGT, Int.reduceGE, e1]
    refine wloop (fun j F h => F 6 = .ptr (some (c, 0)) ∧ F 7 = .ptr (some (d, 0)) ∧ F 22 = .slice (some (B, 0)) N (.fix mm) ∧ F 23 = .int .i64 N ∧ F 24 = .int .i64 j ∧ M.length ≤ h.length ∧ (∀ e, e < M.length → e ≠ c → e ≠ d → hget h e = hget M e) ∧ ∃ kc kd, CntAt h c b kc ∧ CntAt h d b kd ∧ kc 1 = kd 1 ∧ (∀ i, 0 ≤ kc i ∧ kc i ≤ 40) ∧ (∀ i, 0 ≤ kd i ∧ kd i ≤ 40)) N ?_ ?_ ?_
    · simp (disch := first | omega | (simp only [List.length_append, List.length_cons, List.length_nil, length_hset, length_hkill]; omega)) only [↓fsPre, fsPost, fsCond, fsGen, npick, nbin, nun, nconv, nnilCheck, noff, nidxArr, nidxSl, nfield, npart, nindex, nextract, nlenSl, nlenStr, ncap, mmx, minmax2, nslice, nsliceArr, nbounds, obound, bound, adv, nbits, eqVal, eqCell, eqCells, nfill, lenOfSl, cls, fresults, fresl, fres1, gt_iff_lt, ge_iff_le, reduceCtorEq, Nat.reduceAdd, Nat.reduceMul, Nat.reduceSub, Nat.reduceLT, Nat.reduceLeDiff, Nat.reduceEqDiff, Nat.reduceBEq, Nat.reduceBNe, Int.reduceLT, Int.reduceLE, Int.reduceEq, Int.reduceNe, Int.reduceAdd, Int.reduceSub, Int.reduceNeg, Int.reduceToNat, Int.reduceMul, ↓reduceIte, Int.reduceGT, Int.reduceGE]
      exact ⟨_, _, cn1, cn2, rfl, fun _ => ⟨by omega, by omega⟩, fun _ => ⟨by omega, by omega⟩⟩
    · rintro j F h hj ⟨f6, f7, f22, f23, f24, hl, ho, kc, kd, h1, h2, hk, r1, r2⟩
      have rh : RolesAt h b q := rol2.mono (ho b hbM hbc hbd)
      have hB := ho B hBM hBc hBd
      rw [w1] at hB
      have g1 := w4 j (by omega)
      obtain ⟨x0, x1⟩ := w5 _ (List.getElem_mem (show j < ys.length by omega))
      generalize ys[j]'(by omega) = x at *
      have d0 : 0 ≤ x.tdiv 2 := Int.tdiv_nonneg x0 (by omega)
      have d1 : x.tdiv 2 ≤ x := Int.tdiv_le_self _ x0
      have d2 := Int.tmod_nonneg 3 d0
      have d3 := Int.tmod_lt_of_pos (x.tdiv 2) (show (0 : Int) < 3 by omega)
      have d4 := Int.tmod_nonneg 2 x0
      have d5 := Int.tmod_lt_of_pos x (show (0 : Int) < 2 by omega)
      obtain ⟨id, hids, hid⟩ := ids_at _ d2 d3
      have qr : ∀ i, q i ≤ 40 := fun i => (hqr i).2
      have hbh := rh.lt
      have hch := hget_some_lt h1
      have hdh := hget_some_lt h2
      simp (disch := first | omega | (simp only [List.length_append, List.length_cons, List.length_nil, length_hset, length_hkill]; omega)) only [↓fsPre, fsPost, fsCond, fsGen, npick, nbin, nun, nconv, nnilCheck, noff, nidxArr, nidxSl, nfield, npart, nindex, nextract, nlenSl, nlenStr, ncap, mmx, minmax2, nslice, nsliceArr, nbounds, obound, bound, adv, nbits, eqVal, eqCell, eqCells, nfill, lenOfSl, cls, fresults, fresl, fres1, gt_iff_lt, ge_iff_le, reduceCtorEq, Nat.reduceAdd, Nat.reduceMul, Nat.reduceSub, Nat.reduceLT, Nat.reduceLeDiff, Nat.reduceEqDiff, Nat.reduceBEq, Nat.reduceBNe, Int.reduceLT, Int.reduceLE, Int.reduceEq, Int.reduceNe, Int.reduceAdd, Int.reduceSub, Int.reduceNeg, Int.reduceToNat, Int.reduceMul, ↓reduceIte, Int.reduceGT, Int.reduceGE, f6, f7, f22, f23, f24, hB, g1, hids]
      refine condK_dec (fun hp => ?_) (fun hp => ?_)
      · simp (disch := first | omega | (simp only [List.length_append, List.length_cons, List.length_nil, length_hset, length_hkill]; omega)) only [↓fsPre, fsPost, fsCond, fsGen, npick, nbin, nun, nconv, nnilCheck, noff, nidxArr, nidxSl, nfield, npart, nindex, nextract, nlenSl, nlenStr, ncap, mmx, minmax2, nslice, nsliceArr, nbounds, obound, bound, adv, nbits, eqVal, eqCell, eqCells, nfill, lenOfSl, cls, fresults, fresl, fres1, gt_iff_lt, ge_iff_le, reduceCtorEq, Nat.reduceAdd, Nat.reduceMul, Nat.reduceSub, Nat.reduceLT, Nat.reduceLeDiff, Nat.reduceEqDiff, Nat.reduceBEq, Nat.reduceBNe, Int.reduceLT, Int.reduceLE, Int.reduceEq, Int.reduceNe, Int.reduceAdd, Int.reduceSub, Int.reduceNeg, Int.reduceToNat, Int.reduceMul, ↓reduceIte, Int.reduceGT, Int.reduceGE, f6, f7, f22, f23, f24]
        refine callT_D (addD _ c b q kc id (rh.mono (hget_appl hbh)) (by unfold CntAt; rw [hget_appl hch]; exact h1) r1 qr) rfl ?_
        rintro v5 h5 ⟨e5, cc, l5, oo⟩
        have e5 : v5 = _ := e5
        subst e5
        have l5 : h5.length = _ := l5
        simp only [List.length_append, List.length_cons, List.length_nil] at l5
        have ow : ∀ e, e < h.length → e ≠ c → hget h5 e = hget h e := fun e he hne => (oo e hne).trans (hget_appl he)
        have cd5 : CntAt h5 d b kd := by unfold CntAt; rw [ow d hdh (by omega)]; exact h2
        simp (disch := first | omega | (simp only [List.length_append, List.length_cons, List.length_nil, length_hset, length_hkill]; omega)) only [↓fsPre, fsPost, fsCond, fsGen, npick, nbin, nun, nconv, nnilCheck, noff, nidxArr, nidxSl, nfield, npart, nindex, nextract, nlenSl, nlenStr, ncap, mmx, minmax2, nslice, nsliceArr, nbounds, obound, bound, adv, nbits, eqVal, eqCell, eqCells, nfill, lenOfSl, cls, fresults, fresl, fres1, gt_iff_lt, ge_iff_le, reduceCtorEq, Nat.reduceAdd, Nat.reduceMul, Nat.reduceSub, Nat.reduceLT, Nat.reduceLeDiff, Nat.reduceEqDiff, Nat.reduceBEq, Nat.reduceBNe, Int.reduceLT, Int.reduceLE, Int.reduceEq, Int.reduceNe, Int.reduceAdd, Int.reduceSub, Int.reduceNeg, Int.reduceToNat, Int.reduceMul, ↓reduceIte, Int.reduceGT, Int.reduceGE, f6, f7, f22, f23, f24]
        rcases hid with rfl | rfl | rfl
        · simp (disch := first | omega | (simp only [List.length_append, List.length_cons, List.length_nil, length_hset, length_hkill]; omega)) only [↓fsPre, fsPost, fsCond, fsGen, npick, nbin, nun, nconv, nnilCheck, noff, nidxArr, nidxSl, nfield, npart, nindex, nextract, nlenSl, nlenStr, ncap, mmx, minmax2, nslice, nsliceArr, nbounds, obound, bound, adv, nbits, eqVal, eqCell, eqCells, nfill, lenOfSl, cls, fresults, fresl, fres1, gt_iff_lt, ge_iff_le, reduceCtorEq, Nat.reduceAdd, Nat.reduceMul, Nat.reduceSub, Nat.reduceLT, Nat.reduceLeDiff, Nat.reduceEqDiff, Nat.reduceBEq, Nat.reduceBNe, Int.reduceLT, Int.reduceLE, Int.reduceEq, Int.reduceNe, Int.reduceAdd, Int.reduceSub, Int.reduceNeg, Int.reduceToNat, Int.reduceMul, ↓reduceIte, Int.reduceGT, Int.reduceGE, f6, f7, f22, f23, f24]
          exact ⟨by omega, fun e he n1 n2 => by rw [ow e (by omega) n1]; exact ho e he n1 n2, _, _, cc, cd5, by rw [show rix 1 = 0 from rfl, stepA_other (by omega) (by omega)]; exact hk, stepA_range r1 qr, r2⟩
        · simp (disch := first | omega | (simp only [List.length_append, List.length_cons, List.length_nil, length_hset, length_hkill]; omega)) only [↓fsPre, fsPost, fsCond, fsGen, npick, nbin, nun, nconv, nnilCheck, noff, nidxArr, nidxSl, nfield, npart, nindex, nextract, nlenSl, nlenStr, ncap, mmx, minmax2, nslice, nsliceArr, nbounds, obound, bound, adv, nbits, eqVal, eqCell, eqCells, nfill, lenOfSl, cls, fresults, fresl, fres1, gt_iff_lt, ge_iff_le, reduceCtorEq, Nat.reduceAdd, Nat.reduceMul, Nat.reduceSub, Nat.reduceLT, Nat.reduceLeDiff, Nat.reduceEqDiff, Nat.reduceBEq, Nat.reduceBNe, Int.reduceLT, Int.reduceLE, Int.reduceEq, Int.reduceNe, Int.reduceAdd, Int.reduceSub, Int.reduceNeg, Int.reduceToNat, Int.reduceMul, ↓reduceIte, Int.reduceGT, Int.reduceGE, f6, f7, f22, f23, f24, hp]
          refine callT_D (addD h5 d b q kd 2 (rh.mono (ow b hbh hbc)) cd5 r2 qr) rfl ?_
          rintro v6 h6 ⟨e6, cc6, l6, oo6⟩
          have e6 : v6 = _ := e6
          subst e6
          have l6 : h6.length = _ := l6
          have oo6 : ∀ e, e ≠ d → hget h6 e = hget h5 e := oo6
          simp (disch := first | omega | (simp only [List.length_append, List.length_cons, List.length_nil, length_hset, length_hkill]; omega)) only [↓fsPre, fsPost, fsCond, fsGen, npick, nbin, nun, nconv, nnilCheck, noff, nidxArr, nidxSl, nfield, npart, nindex, nextract, nlenSl, nlenStr, ncap, mmx, minmax2, nslice, nsliceArr, nbounds, obound, bound, adv, nbits, eqVal, eqCell, eqCells, nfill, lenOfSl, cls, fresults, fresl, fres1, gt_iff_lt, ge_iff_le, reduceCtorEq, Nat.reduceAdd, Nat.reduceMul, Nat.reduceSub, Nat.reduceLT, Nat.reduceLeDiff, Nat.reduceEqDiff, Nat.reduceBEq, Nat.reduceBNe, Int.reduceLT, Int.reduceLE, Int.reduceEq, Int.reduceNe, Int.reduceAdd, Int.reduceSub, Int.reduceNeg, Int.reduceToNat, Int.reduceMul, ↓reduceIte, Int.reduceGT, Int.reduceGE, f6, f7, f22, f23, f24]
          exact ⟨by omega, fun e he n1 n2 => by rw [oo6 e n2, ow e (by omega) n1]; exact ho e he n1 n2, _, _, (show hget h6 c = _ from (oo6 c (by omega)).trans cc), cc6, by rw [show rix 2 = 1 from rfl]; exact stepA_same hk, stepA_range r1 qr, stepA_range r2 qr⟩
        · simp (disch := first | omega | (simp only [List.length_append, List.length_cons, List.length_nil, length_hset, length_hkill]; omega)) only [↓fsPre, fsPost, fsCond, fsGen, npick, nbin, nun, nconv, nnilCheck, noff, nidxArr, nidxSl, nfield, npart, nindex, nextract, nlenSl, nlenStr, ncap, mmx, minmax2, nslice, nsliceArr, nbounds, obound, bound, adv, nbits, eqVal, eqCell, eqCells, nfill, lenOfSl, cls, fresults, fresl, fres1, gt_iff_lt, ge_iff_le, reduceCtorEq, Nat.reduceAdd, Nat.reduceMul, Nat.reduceSub, Nat.reduceLT, Nat.reduceLeDiff, Nat.reduceEqDiff, Nat.reduceBEq, Nat.reduceBNe, Int.reduceLT, Int.reduceLE, Int.reduceEq, Int.reduceNe, Int.reduceAdd, Int.reduceSub, Int.reduceNeg, Int.reduceToNat, Int.reduceMul, ↓reduceIte, Int.reduceGT, Int.reduceGE, f6, f7, f22, f23, f24]
          exact ⟨by omega, fun e he n1 n2 => by rw [ow e (by omega) n1]; exact ho e he n1 n2, _, _, cc, cd5, by rw [show rix 7 = 2 from rfl, stepA_other (by omega) (by omega)]; exact hk, stepA_range r1 qr, r2⟩
      · simp (disch := first | omega | (simp only [List.length_append, List.length_cons, List.length_nil, length_hset, length_hkill]; omega)) only [↓fsPre, fsPost, fsCond, fsGen, npick, nbin, nun, nconv, nnilCheck, noff, nidxArr, nidxSl, nfield, npart, nindex, nextract, nlenSl, nlenStr, ncap, mmx, minmax2, nslice, nsliceArr, nbounds, obound, bound, adv, nbits, eqVal, eqCell, eqCells, nfill, lenOfSl, cls, fresults, fresl, fres1, gt_iff_lt, ge_iff_le, reduceCtorEq, Nat.reduceAdd, Nat.reduceMul, Nat.reduceSub, Nat.reduceLT, Nat.reduceLeDiff, Nat.reduceEqDiff, Nat.reduceBEq, Nat.reduceBNe, Int.reduceLT, Int.reduceLE, Int.reduceEq, Int.reduceNe, Int.reduceAdd, Int.reduceSub, Int.reduceNeg, Int.reduceToNat, Int.reduceMul, ↓reduceIte, Int.reduceGT, Int.reduceGE, f6, f7, f22, f23, f24]
        refine callT_D (dropD _ c b q kc id (rh.mono (hget_appl hbh)) (by unfold CntAt; rw [hget_appl hch]; exact h1) r1 qr) rfl ?_
        rintro v5 h5 ⟨e5, cc, l5, oo⟩
        have e5 : v5 = _ := e5
        subst e5
        have l5 : h5.length = _ := l5
        simp only [List.length_append, List.length_cons, List.length_nil] at l5
        have ow : ∀ e, e < h.length → e ≠ c → hget h5 e = hget h e := fun e he hne => (oo e hne).trans (hget_appl he)
        have cd5 : CntAt h5 d b kd := by unfold CntAt; rw [ow d hdh (by omega)]; exact h2
        simp (disch := first | omega | (simp only [List.length_append, List.length_cons, List.length_nil, length_hset, length_hkill]; omega)) only [↓fsPre, fsPost, fsCond, fsGen, npick, nbin, nun, nconv, nnilCheck, noff, nidxArr, nidxSl, nfield, npart, nindex, nextract, nlenSl, nlenStr, ncap, mmx, minmax2, nslice, nsliceArr, nbounds, obound, bound, adv, nbits, eqVal, eqCell, eqCells, nfill, lenOfSl, cls, fresults, fresl, fres1, gt_iff_lt, ge_iff_le, reduceCtorEq, Nat.reduceAdd, Nat.reduceMul, Nat.reduceSub, Nat.reduceLT, Nat.reduceLeDiff, Nat.reduceEqDiff, Nat.reduceBEq, Nat.reduceBNe, Int.reduceLT, Int.reduceLE, Int.reduceEq, Int.reduceNe, Int.reduceAdd, Int.reduceSub, Int.reduceNeg, Int.reduceToNat, Int.reduceMul, ↓reduceIte, Int.reduceGT, Int.reduceGE, f6, f7, f22, f23, f24]
        rcases hid with rfl | rfl | rfl
        · simp (disch := first | omega | (simp only [List.length_append, List.length_cons, List.length_nil, length_hset, length_hkill]; omega)) only [↓fsPre, fsPost, fsCond, fsGen, npick, nbin, nun, nconv, nnilCheck, noff, nidxArr, nidxSl, nfield, npart, nindex, nextract, nlenSl, nlenStr, ncap, mmx, minmax2, nslice, nsliceArr, nbounds, obound, bound, adv, nbits, eqVal, eqCell, eqCells, nfill, lenOfSl, cls, fresults, fresl, fres1, gt_iff_lt, ge_iff_le, reduceCtorEq, Nat.reduceAdd, Nat.reduceMul, Nat.reduceSub, Nat.reduceLT, Nat.reduceLeDiff, Nat.reduceEqDiff, Nat.reduceBEq, Nat.reduceBNe, Int.reduceLT, Int.reduceLE, Int.reduceEq, Int.reduceNe, Int.reduceAdd, Int.reduceSub, Int.reduceNeg, Int.reduceToNat, Int.reduceMul, ↓reduceIte, Int.reduceGT, Int.reduceGE, f6, f7, f22, f23, f24]
          exact ⟨by omega, fun e he n1 n2 => by rw [ow e (by omega) n1]; exact ho e he n1 n2, _, _, cc, cd5, by rw [show rix 1 = 0 from rfl, stepD_other (by omega) (by omega)]; exact hk, stepD_range r1, r2⟩
        · simp (disch := first | omega | (simp only [List.length_append, List.length_cons, List.length_nil, length_hset, length_hkill]; omega)) only [↓fsPre, fsPost, fsCond, fsGen, npick, nbin, nun, nconv, nnilCheck, noff, nidxArr, nidxSl, nfield, npart, nindex, nextract, nlenSl, nlenStr, ncap, mmx, minmax2, nslice, nsliceArr, nbounds, obound, bound, adv, nbits, eqVal, eqCell, eqCells, nfill, lenOfSl, cls, fresults, fresl, fres1, gt_iff_lt, ge_iff_le, reduceCtorEq, Nat.reduceAdd, Nat.reduceMul, Nat.reduceSub, Nat.reduceLT, Nat.reduceLeDiff, Nat.reduceEqDiff, Nat.reduceBEq, Nat.reduceBNe, Int.reduceLT, Int.reduceLE, Int.reduceEq, Int.reduceNe, Int.reduceAdd, Int.reduceSub, Int.reduceNeg, Int.reduceToNat, Int.reduceMul, ↓reduceIte, Int.reduceGT, Int.reduceGE, f6, f7, f22, f23, f24, hp]
          refine callT_D (dropD h5 d b q kd 2 (rh.mono (ow b hbh hbc)) cd5 r2 qr) rfl ?_
          rintro v6 h6 ⟨e6, cc6, l6, oo6⟩
          have e6 : v6 = _ := e6
          subst e6
          have l6 : h6.length = _ := l6
          have oo6 : ∀ e, e ≠ d → hget h6 e = hget h5 e := oo6
          simp (disch := first | omega | (simp only [List.length_append, List.length_cons, List.length_nil, length_hset, length_hkill]; omega)) only [↓fsPre, fsPost, fsCond, fsGen, npick, nbin, nun, nconv, nnilCheck, noff, nidxArr, nidxSl, nfield, npart, nindex, nextract, nlenSl, nlenStr, ncap, mmx, minmax2, nslice, nsliceArr, nbounds, obound, bound, adv, nbits, eqVal, eqCell, eqCells, nfill, lenOfSl, cls, fresults, fresl, fres1, gt_iff_lt, ge_iff_le, reduceCtorEq, Nat.reduceAdd, Nat.reduceMul, Nat.reduceSub, Nat.reduceLT, Nat.reduceLeDiff, Nat.reduceEqDiff, Nat.reduceBEq, Nat.reduceBNe, Int.reduceLT, Int.reduceLE, Int.reduceEq, Int.reduceNe, Int.reduceAdd, Int.reduceSub, Int.reduceNeg, Int.reduceToNat, Int.reduceMul, ↓reduceIte, Int.reduceGT, Int.reduceGE, f6, f7, f22, f23, f24]
          exact ⟨by omega, fun e he n1 n2 => by rw [oo6 e n2, ow e (by omega) n1]; exact ho e he n1 n2, _, _, (show hget h6 c = _ from (oo6 c (by omega)).trans cc), cc6, by rw [show rix 2 = 1 from rfl]; exact stepD_same hk, stepD_range r1, stepD_range r2⟩
        · simp (disch := first | omega | (simp only [List.length_append, List.length_cons, List.length_nil, length_hset, length_hkill]; omega)) only [↓fsPre, fsPost, fsCond, fsGen, npick, nbin, nun, nconv, nnilCheck, noff, nidxArr, nidxSl, nfield, npart, nindex, nextract, nlenSl, nlenStr, ncap, mmx, minmax2, nslice, nsliceArr, nbounds, obound, bound, adv, nbits, eqVal, eqCell, eqCells, nfill, lenOfSl, cls, fresults, fresl, fres1, gt_iff_lt, ge_iff_le, reduceCtorEq, Nat.reduceAdd, Nat.reduceMul, Nat.reduceSub, Nat.reduceLT, Nat.reduceLeDiff, Nat.reduceEqDiff, Nat.reduceBEq, Nat.reduceBNe, Int.reduceLT, Int.reduceLE, Int.reduceEq, Int.reduceNe, Int.reduceAdd, Int.reduceSub, Int.reduceNeg, Int.reduceToNat, Int.reduceMul, ↓reduceIte, Int.reduceGT, Int.reduceGE, f6, f7, f22, f23, f24]
          exact ⟨by omega, fun e he n1 n2 => by rw [ow e (by omega) n1]; exact ho e he n1 n2, _, _, cc, cd5, by rw [show rix 7 = 2 from rfl, stepD_other (by omega) (by omega)]; exact hk, stepD_range r1, r2⟩
    · rintro F h ⟨f6, f7, f22, f23, f24, hl, ho, kc, kd, h1, h2, hk, _, _⟩
      have rh : RolesAt h b q := rol2.mono (ho b hbM hbc hbd)
      simp (disch := first | omega | (simp only [List.length_append, List.length_cons, List.length_nil, length_hset, length_hkill]; omega)) only [↓fsPre, fsPost, fsCond, fsGen, npick, nbin, nun, nconv, nnilCheck, noff, nidxArr, nidxSl, nfield, npart, nindex, nextract, nlenSl, nlenStr, ncap, mmx, minmax2, nslice, nsliceArr, nbounds, obound, bound, adv, nbits, eqVal, eqCell, eqCells, nfill, lenOfSl, cls, fresults, fresl, fres1, gt_iff_lt, ge_iff_le, reduceCtorEq, Nat.reduceAdd, Nat.reduceMul, Nat.reduceSub, Nat.reduceLT, Nat.reduceLeDiff, Nat.reduceEqDiff, Nat.reduceBEq, Nat.reduceBNe, Int.reduceLT, Int.reduceLE, Int.reduceEq, Int.reduceNe, Int.reduceAdd, Int.reduceSub, Int.reduceNeg, Int.reduceToNat, Int.reduceMul, ↓reduceIte, Int.reduceGT, Int.reduceGE, f6, f7, f22, f23, f24]
      have c1 := count_ok h c b q kc 2 rh h1
      have c2 := count_ok h d b q kd 2 rh h2
      rw [show rix 2 = 1 from rfl, show cntOf kc 1 = kc 1 from rfl] at c1
      rw [show rix 2 = 1 from rfl, show cntOf kd 1 = kd 1 from rfl] at c2
      refine callT_one c1 rfl ?_
      simp (disch := first | omega | (simp only [List.length_append, List.length_cons, List.length_nil, length_hset, length_hkill]; omega)) only [↓fsPre, fsPost, fsCond, fsGen, npick, nbin, nun, nconv, nnilCheck, noff, nidxArr, nidxSl, nfield, npart, nindex, nextract, nlenSl, nlenStr, ncap, mmx, minmax2, nslice, nsliceArr, nbounds, obound, bound, adv, nbits, eqVal, eqCell, eqCells, nfill, lenOfSl, cls, fresults, fresl, fres1, gt_iff_lt, ge_iff_le, reduceCtorEq, Nat.reduceAdd, Nat.reduceMul, Nat.reduceSub, Nat.reduceLT, Nat.reduceLeDiff, Nat.reduceEqDiff, Nat.reduceBEq, Nat.reduceBNe, Int.reduceLT, Int.reduceLE, Int.reduceEq, Int.reduceNe, Int.reduceAdd, Int.reduceSub, Int.reduceNeg, Int.reduceToNat, Int.reduceMul, ↓reduceIte, Int.reduceGT, Int.reduceGE, f6, f7, f22, f23, f24]
      refine callT_one c2 rfl ?_
      simp (disch := first | omega | (simp only [List.length_append, List.length_cons, List.length_nil, length_hset, length_hkill]; omega)) only [↓fsPre, fsPost, fsCond, fsGen, npick, nbin, nun, nconv, nnilCheck, noff, nidxArr, nidxSl, nfield, npart, nindex, nextract, nlenSl, nlenStr, ncap, mmx, minmax2, nslice, nsliceArr, nbounds, obound, bound, adv, nbits, eqVal, eqCell, eqCells, nfill, lenOfSl, cls, fresults, fresl, fres1, gt_iff_lt, ge_iff_le, reduceCtorEq, Nat.reduceAdd, Nat.reduceMul, Nat.reduceSub, Nat.reduceLT, Nat.reduceLeDiff, Nat.reduceEqDiff, Nat.reduceBEq, Nat.reduceBNe, Int.reduceLT, Int.reduceLE, Int.reduceEq, Int.reduceNe, Int.reduceAdd, Int.reduceSub, Int.reduceNeg, Int.reduceToNat, Int.reduceMul, ↓reduceIte, Int.reduceGT, Int.reduceGE, f6, f7, f22, f23, f24, hk]
      refine callT_one (begun17_ok h) rfl ?_
      simp (disch := first | omega | (simp only [List.length_append, List.length_cons, List.length_nil, length_hset, length_hkill]; omega)) only [↓fsPre, fsPost, fsCond, fsGen, npick, nbin, nun, nconv, nnilCheck, noff, nidxArr, nidxSl, nfield, npart, nindex, nextract, nlenSl, nlenStr, ncap, mmx, minmax2, nslice, nsliceArr, nbounds, obound, bound, adv, nbits, eqVal, eqCell, eqCells, nfill, lenOfSl, cls, fresults, fresl, fres1, gt_iff_lt, ge_iff_le, reduceCtorEq, Nat.reduceAdd, Nat.reduceMul, Nat.reduceSub, Nat.reduceLT, Nat.reduceLeDiff, Nat.reduceEqDiff, Nat.reduceBEq, Nat.reduceBNe, Int.reduceLT, Int.reduceLE, Int.reduceEq, Int.reduceNe, Int.reduceAdd, Int.reduceSub, Int.reduceNeg, Int.reduceToNat, Int.reduceMul, ↓reduceIte, Int.reduceGT, Int.reduceGE]

def kindsApart : List PK := [.sl [.int .u8], .sl [.int .u8]]
theorem walkApart (nvs : List NV) (h : Heap) (ok : argsOK kindsApart 0 nvs h) : NFun Try.prog 5 nvs h (fun q => q.1 = .bool true) := by
  obtain ⟨v, vs, x, h, rfl, rfl, h1, ok⟩ := argsOK_cons ok
  obtain ⟨w, vs, y, h, rfl, rfl, h2, ok⟩ := argsOK_cons ok
  obtain ⟨rfl, rfl⟩ := argsOK_nil ok
  obtain ⟨xs, hv⟩ := argOK_bytes (H := [x, y]) h1 (by rw [hget_zero])
  obtain ⟨ys, hw⟩ := argOK_bytes (H := [x, y]) h2 (by rw [hget_succ, hget_zero])
  exact apart_ok _ _ _ _ _ hv hw
end Go.Proofs
