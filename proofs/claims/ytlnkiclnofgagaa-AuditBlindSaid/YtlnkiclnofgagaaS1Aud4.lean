/- Audit: AuditBlind. -/
import Derived.Test.YtlnkiclnofgagaaS1Aud2
set_option linter.unusedSimpArgs false
set_option linter.unusedVariables false
set_option maxRecDepth 10000
namespace Go.Proofs
open Go.Ns

/-- A list of records as an argument. -/
def OthArg (H : Heap) (v : NV) (os : List Rec) : Prop :=
  (v = .slice none 0 (.fix 0) ∧ os = []) ∨ ∃ b k cs ro, v = .slice (some (b, 0)) os.length (.fix k) ∧ hget H b = some (.cells cs ro) ∧ ∀ i (hi : i < os.length), cut cs (i * 7) 7 = some os[i].cells
theorem OthArg.mono {H h : Heap} {v : NV} {os : List Rec} (r : OthArg H v os) (o : ∀ b, b < H.length → hget h b = hget H b) : OthArg h v os := by
  rcases r with r | ⟨b, k, cs, ro, h1, h2, h3⟩
  · exact .inl r
  · exact .inr ⟨b, k, cs, ro, h1, by rw [o b (hget_lt h2)]; exact h2, h3⟩
theorem OthArg.len {H : Heap} {v : NV} {os : List Rec} (r : OthArg H v os) : ∃ a c, v = .slice a os.length c := by
  rcases r with ⟨rfl, rfl⟩ | ⟨b, k, cs, ro, rfl, _⟩
  · exact ⟨_, _, rfl⟩
  · exact ⟨_, _, rfl⟩
theorem rows_recs : ∀ {rows : List (List NV)}, (∀ r ∈ rows, typeds [.int .i64, .int .i64, .int .i64, .int .i64, .int .i64, .int .i64, .int .i64] r) → ∃ zs : List Rec, rows = zs.map Rec.cells
  | [], _ => ⟨[], rfl⟩
  | r :: rows, h => by
    obtain ⟨zs, hz⟩ := rows_recs fun x hx => h x (List.mem_cons_of_mem _ hx)
    obtain ⟨z, hr⟩ := typeds7 (h r (List.mem_cons_self ..))
    exact ⟨z :: zs, by rw [hz, hr]; rfl⟩
theorem argOK_recs {H : Heap} {b : Nat} {v : NV} {x : Option NBlk} (h : argOK (.sl [.int .i64, .int .i64, .int .i64, .int .i64, .int .i64, .int .i64, .int .i64]) b v x) (hx : hget H b = x) : ∃ os, OthArg H v os ∧ os.length ≤ 9223372036854775807 := by
  rcases h with ⟨rfl, _⟩ | ⟨n, c, rows, rfl, rfl, hn, hc, hl, hr⟩
  · exact ⟨[], .inl ⟨rfl, rfl⟩, by simp⟩
  · obtain ⟨zs, rfl⟩ := rows_recs hr
    have hm : maxLen ≤ 9223372036854775807 := by decide
    have hzl : zs.length = c := by simpa using hl
    have hlen : (zs.take n).length = n := by simp; omega
    have hfl : (zs.map Rec.cells).flatten = recs zs := by simp [recs, List.flatMap_def]
    refine ⟨zs.take n, .inr ⟨b, c, _, true, by rw [hlen], hx, fun i hi => ?_⟩, by omega⟩
    rw [hfl, recs_cut zs i (by omega)]
    simp

/-- What role 2 sees of a record. -/
def key (r : Rec) : Option Rec := if r.role = 2 then some r else none
theorem sel_key (rs : List Rec) (fr : Int) : rs.filter (selP 2 fr) = (rs.filterMap key).filter fun y => decide (fr ≤ y.num) := by
  induction rs with
  | nil => rfl
  | cons r rs ih =>
    rw [List.filter_cons, List.filterMap_cons, ih]
    unfold selP key
    by_cases h : r.role = 2
    · by_cases h1 : fr ≤ r.num
      · simp [h, h1]
      · simp [h, h1]
    · simp [h]
theorem sel_same {X Y : List Rec} (h : X.map key = Y.map key) (fr c : Int) : selR X 2 fr c = selR Y 2 fr c := by
  unfold selR
  rw [sel_key, sel_key]
  have : X.filterMap key = Y.filterMap key := by
    have e : ∀ l : List Rec, l.filterMap key = (l.map key).filterMap id := fun l => by rw [List.filterMap_map]; rfl
    rw [e, e, h]
  rw [this]
theorem last24_key {X Y : List Rec} (h : X.map key = Y.map key) : (last24 X).map key = (last24 Y).map key := by
  have hl : X.length = Y.length := by simpa using congrArg List.length h
  unfold last24
  rw [List.map_drop, List.map_drop, h, hl]

def rawB (x : Int) : Rec := ⟨0, 0, roleOf x, Int.tmod (Int.tdiv x 4) 7, 0, 0, 0⟩
def three (r : Int) : Int := if r = 2 then 3 else r
/-- The record that the other log gets. -/
def othR (os : List Rec) (j : Nat) (z : Rec) : Rec := if z.role = 2 then z else match os[j]? with | some o => { o with role := three o.role } | none => z
theorem othR_key (os : List Rec) (j : Nat) (z : Rec) (n : Int) : Go.Proofs.key (z.withNum n) = Go.Proofs.key ((othR os j z).withNum n) := by
  unfold othR
  by_cases h : z.role = 2
  · rw [if_pos h]
  · rw [if_neg h]
    cases os[j]? with
    | none => rfl
    | some o =>
      unfold Go.Proofs.key Rec.withNum three
      simp only
      rw [if_neg h]
      by_cases h1 : o.role = 2
      · rw [if_pos h1, if_neg (by omega)]
      · rw [if_neg h1, if_neg h1]
def nxt (j : Nat) : Int := if j = 0 then 0 else j + 1
theorem nxt_succ (j : Nat) : (if 1 < nxt j then nxt j else 1) + 1 = nxt (j + 1) := by
  unfold nxt
  by_cases h : j = 0
  · subst h; rfl
  · rw [if_neg h, if_pos (by omega), if_neg (by omega)]; omega

set_option maxHeartbeats 4000000 in
theorem blind_ok (H : Heap) (v w ov : NV) (xs ys : List Int) (os : List Rec) (hv : BytesArg H v xs) (hw : BytesArg H w ys) (hoth : OthArg H ov os) (fr : Int) (hos : os.length ≤ 9223372036854775807) : NFun Try.prog 8 [v, w, ov, .int .i64 fr] H fun q => q.1 = .bool true := by
  refine fun_of_fwp E0 mixed t8_ok.2 (by kernel_rfl) ?_
  rw [fwp_T]
  simp only [t8]
  refine fwp_seqJ (fun F h => F 0 = v ∧ F 1 = w ∧ F 2 = ov ∧ F 3 = .int .i64 fr ∧ h = H) (by simp (disch := first | omega | (simp only [List.length_append, List.length_cons, List.length_nil, length_hset, length_hkill]; omega)) only [↓fsPre, fsPost, fsCond, fsGen, npick, nbin, nun, nconv, nnilCheck, noff, nidxArr, nidxSl, nfield, npart, nindex, nextract, nlenSl, nlenStr, ncap, mmx, minmax2, nslice, nsliceArr, nbounds, obound, bound, adv, nbits, eqVal, eqCell, eqCells, nfill, lenOfSl, cls, fresults, fresl, fres1, gt_iff_lt, ge_iff_le, reduceCtorEq, Nat.reduceAdd, Nat.reduceMul, Nat.reduceSub, Nat.reduceLT, Nat.reduceLeDiff, Nat.reduceEqDiff, Nat.reduceBEq, Nat.reduceBNe, Int.reduceLT, Int.reduceLE, Int.reduceEq, Int.reduceNe, Int.reduceAdd, Int.reduceSub, Int.reduceNeg, Int.reduceToNat, Int.reduceMul, ↓reduceIte, Int.reduceGT, Int.reduceGE]) ?_
  rintro F h ⟨f0, f1, f2, f3, rfl⟩
  refine fwp_seqJ (fun F h => F 1 = w ∧ F 2 = ov ∧ F 3 = .int .i64 fr ∧ BytesArg h w ys ∧ OthArg h ov os ∧ ∃ p9 b q z0 z1 z2 z3 z4 z5 z7 z8 z9, F 9 = .ptr (some (p9, 0)) ∧ hget h p9 = some (.cells [z0, z1, z2, z3, z4, z5, .slice (some (b, 0)) 3 (.fix 3), z7, z8, z9] false) ∧ RSch h b q z0 z1 z2 z3 z4 z5 z7 z8 z9) ?_ ?_
  · simp (disch := first | omega | (simp only [List.length_append, List.length_cons, List.length_nil, length_hset, length_hkill]; omega)) only [↓fsPre, fsPost, fsCond, fsGen, npick, nbin, nun, nconv, nnilCheck, noff, nidxArr, nidxSl, nfield, npart, nindex, nextract, nlenSl, nlenStr, ncap, mmx, minmax2, nslice, nsliceArr, nbounds, obound, bound, adv, nbits, eqVal, eqCell, eqCells, nfill, lenOfSl, cls, fresults, fresl, fres1, gt_iff_lt, ge_iff_le, reduceCtorEq, Nat.reduceAdd, Nat.reduceMul, Nat.reduceSub, Nat.reduceLT, Nat.reduceLeDiff, Nat.reduceEqDiff, Nat.reduceBEq, Nat.reduceBNe, Int.reduceLT, Int.reduceLE, Int.reduceEq, Int.reduceNe, Int.reduceAdd, Int.reduceSub, Int.reduceNeg, Int.reduceToNat, Int.reduceMul, ↓reduceIte, Int.reduceGT, Int.reduceGE, f0, f1, f2, f3]
    refine callT_D (codes_ok h v xs 120 hv (by omega)) rfl ?_
    rintro v1 g1 ⟨sl, m, e, hs⟩
    cases e
    simp (disch := first | omega | (simp only [List.length_append, List.length_cons, List.length_nil, length_hset, length_hkill]; omega)) only [↓fsPre, fsPost, fsCond, fsGen, npick, nbin, nun, nconv, nnilCheck, noff, nidxArr, nidxSl, nfield, npart, nindex, nextract, nlenSl, nlenStr, ncap, mmx, minmax2, nslice, nsliceArr, nbounds, obound, bound, adv, nbits, eqVal, eqCell, eqCells, nfill, lenOfSl, cls, fresults, fresl, fres1, gt_iff_lt, ge_iff_le, reduceCtorEq, Nat.reduceAdd, Nat.reduceMul, Nat.reduceSub, Nat.reduceLT, Nat.reduceLeDiff, Nat.reduceEqDiff, Nat.reduceBEq, Nat.reduceBNe, Int.reduceLT, Int.reduceLE, Int.reduceEq, Int.reduceNe, Int.reduceAdd, Int.reduceSub, Int.reduceNeg, Int.reduceToNat, Int.reduceMul, ↓reduceIte, Int.reduceGT, Int.reduceGE]
    refine callT_D (schema_ok _ _ m sl (CodesSt.refl hget_append_new (by omega) (by omega) hs)) rfl ?_
    rintro v2 g2 hq
    obtain ⟨b, q, z0, z1, z2, z3, z4, z5, z7, z8, z9, rfl, sch, hb, hqr, hg2, hold⟩ := hq.roles
    obtain ⟨o0, o1, o2, o3, o4, o5, o7, o8, o9⟩ := sch.2.2.2.2.2.2.2
    simp only [List.length_append, List.length_cons, List.length_nil] at hg2 hold
    have hw2 : BytesArg g2 w ys := bytes_mono hw fun b hb => by rw [hold b (by omega) (by omega), hget_appl hb]
    have ho2 : OthArg g2 ov os := hoth.mono fun b hb => by rw [hold b (by omega) (by omega), hget_appl hb]
    clear hq hs hold
    simp (disch := first | omega | (simp only [List.length_append, List.length_cons, List.length_nil, length_hset, length_hkill]; omega)) only [↓fsPre, fsPost, fsCond, fsGen, npick, nbin, nun, nconv, nnilCheck, noff, nidxArr, nidxSl, nfield, npart, nindex, nextract, nlenSl, nlenStr, ncap, mmx, minmax2, nslice, nsliceArr, nbounds, obound, bound, adv, nbits, eqVal, eqCell, eqCells, nfill, lenOfSl, cls, fresults, fresl, fres1, gt_iff_lt, ge_iff_le, reduceCtorEq, Nat.reduceAdd, Nat.reduceMul, Nat.reduceSub, Nat.reduceLT, Nat.reduceLeDiff, Nat.reduceEqDiff, Nat.reduceBEq, Nat.reduceBNe, Int.reduceLT, Int.reduceLE, Int.reduceEq, Int.reduceNe, Int.reduceAdd, Int.reduceSub, Int.reduceNeg, Int.reduceToNat, Int.reduceMul, ↓reduceIte, Int.reduceGT, Int.reduceGE, o0, o1, o2, o3, o4, o5, o7, o8, o9, f0, f1, f2, f3]
    exact ⟨hw2.app, ho2.mono fun b hb => hget_appl hb, g2.length, b, q, z0, z1, z2, z3, z4, z5, z7, z8, z9, rfl, by simp (disch := first | omega | (simp only [List.length_append, List.length_cons, List.length_nil, length_hset, length_hkill]; omega)) only [↓fsPre, fsPost, fsCond, fsGen, npick, nbin, nun, nconv, nnilCheck, noff, nidxArr, nidxSl, nfield, npart, nindex, nextract, nlenSl, nlenStr, ncap, mmx, minmax2, nslice, nsliceArr, nbounds, obound, bound, adv, nbits, eqVal, eqCell, eqCells, nfill, lenOfSl, cls, fresults, fresl, fres1, gt_iff_lt, ge_iff_le, reduceCtorEq, Nat.reduceAdd, Nat.reduceMul, Nat.reduceSub, Nat.reduceLT, Nat.reduceLeDiff, Nat.reduceEqDiff, Nat.reduceBEq, Nat.reduceBNe, Int.reduceLT, Int.reduceLE, Int.reduceEq, Int.reduceNe, Int.reduceAdd, Int.reduceSub, Int.reduceNeg, Int.reduceToNat, Int.reduceMul, ↓reduceIte, Int.reduceGT, Int.reduceGE], sch.mono fun b hb => hget_appl hb⟩
  clear f0 f1 f2 f3 hv hw hoth F h
  rintro F h0 ⟨f1, f2, f3, hw, hoth, p9, b, q, z0, z1, z2, z3, z4, z5, z7, z8, z9, f9, b9, sch⟩
  have l9 := hget_some_lt b9
  refine fwp_seqJ (fun F h => F 1 = w ∧ F 2 = ov ∧ F 3 = .int .i64 fr ∧ F 9 = .ptr (some (p9, 0)) ∧ F 10 = .ptr (some (h0.length, 0)) ∧ F 11 = .ptr (some (h0.length + 1, 0)) ∧ h = h0 ++ [some (.cells [.int .i64 0, .slice none 0 (.fix 0)] false), some (.cells [.int .i64 0, .slice none 0 (.fix 0)] false)]) (by simp (disch := first | omega | (simp only [List.length_append, List.length_cons, List.length_nil, length_hset, length_hkill]; omega)) only [↓fsPre, fsPost, fsCond, fsGen, npick, nbin, nun, nconv, nnilCheck, noff, nidxArr, nidxSl, nfield, npart, nindex, nextract, nlenSl, nlenStr, ncap, mmx, minmax2, nslice, nsliceArr, nbounds, obound, bound, adv, nbits, eqVal, eqCell, eqCells, nfill, lenOfSl, cls, fresults, fresl, fres1, gt_iff_lt, ge_iff_le, reduceCtorEq, Nat.reduceAdd, Nat.reduceMul, Nat.reduceSub, Nat.reduceLT, Nat.reduceLeDiff, Nat.reduceEqDiff, Nat.reduceBEq, Nat.reduceBNe, Int.reduceLT, Int.reduceLE, Int.reduceEq, Int.reduceNe, Int.reduceAdd, Int.reduceSub, Int.reduceNeg, Int.reduceToNat, Int.reduceMul, ↓reduceIte, Int.reduceGT, Int.reduceGE, f1, f2, f3, f9]) ?_
  clear f1 f2 f3 f9 F
  rintro F h ⟨f1, f2, f3, f9, f10, f11, rfl⟩
  refine fwp_seqJ (fun F h => F 3 = .int .i64 fr ∧ F 9 = .ptr (some (p9, 0)) ∧ F 10 = .ptr (some (h0.length, 0)) ∧ F 11 = .ptr (some (h0.length + 1, 0)) ∧ h0.length + 2 ≤ h.length ∧ (∀ b, b < h0.length → hget h b = hget h0 b) ∧
    ∃ nx s1 s2 X Y, hget h h0.length = some (.cells [.int .i64 nx, s1] false) ∧ hget h (h0.length + 1) = some (.cells [.int .i64 nx, s2] false) ∧ RecsFrom (h0.length + 2) h s1 (last24 X) ∧ RecsFrom (h0.length + 2) h s2 (last24 Y) ∧ X.map key = Y.map key) ?_ ?_
  · have hinit : ∃ X Y : List Rec, X.length = 0 ∧ X.map key = Y.map key := ⟨[], [], rfl, rfl⟩
    clear hinit
    rcases hw with ⟨rfl, rfl⟩ | ⟨bw, m, cs, ro, rfl, hbw, hm, hm2, hcs, hx⟩
    · simp (disch := first | omega | (simp only [List.length_append, List.length_cons, List.length_nil, length_hset, length_hkill]; omega)) only [↓fsPre, fsPost, fsCond, fsGen, npick, nbin, nun, nconv, nnilCheck, noff, nidxArr, nidxSl, nfield, npart, nindex, nextract, nlenSl, nlenStr, ncap, mmx, minmax2, nslice, nsliceArr, nbounds, obound, bound, adv, nbits, eqVal, eqCell, eqCells, nfill, lenOfSl, cls, fresults, fresl, fres1, gt_iff_lt, ge_iff_le, reduceCtorEq, Nat.reduceAdd, Nat.reduceMul, Nat.reduceSub, Nat.reduceLT, Nat.reduceLeDiff, Nat.reduceEqDiff, Nat.reduceBEq, Nat.reduceBNe, Int.reduceLT, Int.reduceLE, Int.reduceEq, Int.reduceNe, Int.reduceAdd, Int.reduceSub, Int.reduceNeg, Int.reduceToNat, Int.reduceMul, ↓reduceIte, Int.reduceGT, Int.reduceGE, f1, f2, f3, f9, f10, f11]
      refine wloop (fun j F h => F 3 = .int .i64 fr ∧ F 9 = .ptr (some (p9, 0)) ∧ F 10 = .ptr (some (h0.length, 0)) ∧ F 11 = .ptr (some (h0.length + 1, 0)) ∧ F 28 = .int .i64 0 ∧ F 29 = .int .i64 0 ∧ h = h0 ++ [some (.cells [.int .i64 0, .slice none 0 (.fix 0)] false), some (.cells [.int .i64 0, .slice none 0 (.fix 0)] false)]) 0 ?_ ?_ ?_
      · simp (disch := first | omega | (simp only [List.length_append, List.length_cons, List.length_nil, length_hset, length_hkill]; omega)) only [↓fsPre, fsPost, fsCond, fsGen, npick, nbin, nun, nconv, nnilCheck, noff, nidxArr, nidxSl, nfield, npart, nindex, nextract, nlenSl, nlenStr, ncap, mmx, minmax2, nslice, nsliceArr, nbounds, obound, bound, adv, nbits, eqVal, eqCell, eqCells, nfill, lenOfSl, cls, fresults, fresl, fres1, gt_iff_lt, ge_iff_le, reduceCtorEq, Nat.reduceAdd, Nat.reduceMul, Nat.reduceSub, Nat.reduceLT, Nat.reduceLeDiff, Nat.reduceEqDiff, Nat.reduceBEq, Nat.reduceBNe, Int.reduceLT, Int.reduceLE, Int.reduceEq, Int.reduceNe, Int.reduceAdd, Int.reduceSub, Int.reduceNeg, Int.reduceToNat, Int.reduceMul, ↓reduceIte, Int.reduceGT, Int.reduceGE, f3, f9, f10, f11]
      · intro j F h hj; omega
      · rintro F h ⟨f3, f9, f10, f11, f28, f29, rfl⟩
        simp (disch := first | omega | (simp only [List.length_append, List.length_cons, List.length_nil, length_hset, length_hkill]; omega)) only [↓fsPre, fsPost, fsCond, fsGen, npick, nbin, nun, nconv, nnilCheck, noff, nidxArr, nidxSl, nfield, npart, nindex, nextract, nlenSl, nlenStr, ncap, mmx, minmax2, nslice, nsliceArr, nbounds, obound, bound, adv, nbits, eqVal, eqCell, eqCells, nfill, lenOfSl, cls, fresults, fresl, fres1, gt_iff_lt, ge_iff_le, reduceCtorEq, Nat.reduceAdd, Nat.reduceMul, Nat.reduceSub, Nat.reduceLT, Nat.reduceLeDiff, Nat.reduceEqDiff, Nat.reduceBEq, Nat.reduceBNe, Int.reduceLT, Int.reduceLE, Int.reduceEq, Int.reduceNe, Int.reduceAdd, Int.reduceSub, Int.reduceNeg, Int.reduceToNat, Int.reduceMul, ↓reduceIte, Int.reduceGT, Int.reduceGE, f3, f9, f10, f11, f28, f29]
        exact ⟨fun b hb => hget_appl hb, 0, .slice none 0 (.fix 0), .slice none 0 (.fix 0), [], [], rfl, rfl, .inl ⟨rfl, rfl⟩, .inl ⟨rfl, rfl⟩, rfl⟩
    · have hN : (if (40 : Int) < ys.length then (40 : Int) else ys.length) = (min ys.length 40 : Nat) := by split <;> omega
      have hN1 : min ys.length 40 ≤ ys.length := by omega
      have hN2 : min ys.length 40 ≤ 40 := by omega
      have hbwl := hget_some_lt hbw
      generalize hNd : min ys.length 40 = N at *
      simp (disch := first | omega | (simp only [List.length_append, List.length_cons, List.length_nil, length_hset, length_hkill]; omega)) only [↓fsPre, fsPost, fsCond, fsGen, npick, nbin, nun, nconv, nnilCheck, noff, nidxArr, nidxSl, nfield, npart, nindex, nextract, nlenSl, nlenStr, ncap, mmx, minmax2, nslice, nsliceArr, nbounds, obound, bound, adv, nbits, eqVal, eqCell, eqCells, nfill, lenOfSl, cls, fresults, fresl, fres1, gt_iff_lt, ge_iff_le, reduceCtorEq, Nat.reduceAdd, Nat.reduceMul, Nat.reduceSub, Nat.reduceLT, Nat.reduceLeDiff, Nat.reduceEqDiff, Nat.reduceBEq, Nat.reduceBNe, Int.reduceLT, Int.reduceLE, Int.reduceEq, Int.reduceNe, Int.reduceAdd, Int.reduceSub, Int.reduceNeg, Int.reduceToNat, Int.reduceMul, ↓reduceIte, Int.reduceGT, Int.reduceGE, f1, f2, f3, f9, f10, f11, hN, Nat.sub_zero]
      refine wloop (fun j F h => F 2 = ov ∧ F 3 = .int .i64 fr ∧ F 9 = .ptr (some (p9, 0)) ∧ F 10 = .ptr (some (h0.length, 0)) ∧ F 11 = .ptr (some (h0.length + 1, 0)) ∧ F 27 = .slice (some (bw, 0)) N (.fix m) ∧ F 28 = .int .i64 N ∧ F 29 = .int .i64 j ∧ h0.length + 2 ≤ h.length ∧ (∀ b, b < h0.length → hget h b = hget h0 b) ∧
        ∃ s1 s2 X Y, hget h h0.length = some (.cells [.int .i64 (nxt j), s1] false) ∧ hget h (h0.length + 1) = some (.cells [.int .i64 (nxt j), s2] false) ∧ RecsFrom (h0.length + 2) h s1 (last24 X) ∧ RecsFrom (h0.length + 2) h s2 (last24 Y) ∧ X.map key = Y.map key ∧ X.length = j) N ?_ ?_ ?_
      · simp (disch := first | omega | (simp only [List.length_append, List.length_cons, List.length_nil, length_hset, length_hkill]; omega)) only [↓fsPre, fsPost, fsCond, fsGen, npick, nbin, nun, nconv, nnilCheck, noff, nidxArr, nidxSl, nfield, npart, nindex, nextract, nlenSl, nlenStr, ncap, mmx, minmax2, nslice, nsliceArr, nbounds, obound, bound, adv, nbits, eqVal, eqCell, eqCells, nfill, lenOfSl, cls, fresults, fresl, fres1, gt_iff_lt, ge_iff_le, reduceCtorEq, Nat.reduceAdd, Nat.reduceMul, Nat.reduceSub, Nat.reduceLT, Nat.reduceLeDiff, Nat.reduceEqDiff, Nat.reduceBEq, Nat.reduceBNe, Int.reduceLT, Int.reduceLE, Int.reduceEq, Int.reduceNe, Int.reduceAdd, Int.reduceSub, Int.reduceNeg, Int.reduceToNat, Int.reduceMul, ↓reduceIte, Int.reduceGT, Int.reduceGE, f2, f3, f9, f10, f11]
        exact ⟨fun b hb => hget_appl hb, .slice none 0 (.fix 0), .slice none 0 (.fix 0), [], [], rfl, rfl, .inl ⟨rfl, rfl⟩, .inl ⟨rfl, rfl⟩, rfl, rfl⟩
      · clear f1 f2 f3 f9 f10 f11 F
        rintro j F h hj ⟨f2, f3, f9, f10, f11, f27, f28, f29, len, old, s1, s2, X, Y, b10, b11, r1, r2, hkey, hX⟩
        have hY : Y.length = j := by
          have := congrArg List.length hkey
          simp at this; omega
        have hjx : j < ys.length := by omega
        have eB : hget h bw = some (.cells cs ro) := by rw [old bw hbwl]; exact hbw
        have e2 := hcs j hjx
        obtain ⟨g1, g2⟩ := hx _ (List.getElem_mem hjx)
        generalize ys[j] = x at *
        obtain ⟨m1, m2⟩ := tmod_bounds x 4 g1 (by omega)
        have q1 : 0 ≤ Int.tdiv x 4 := Int.tdiv_nonneg g1 (by omega)
        have q2 : Int.tdiv x 4 ≤ 255 := Int.le_trans (Int.tdiv_le_self _ g1) g2
        obtain ⟨m3, m4⟩ := tmod_bounds (Int.tdiv x 4) 7 q1 (by omega)
        have o1 := r1.at.one
        have o2 := r2.at.one
        have l10 := hget_some_lt b10
        have l11 := hget_some_lt b11
        have ho := hoth.mono (h := h) (fun b hb => old b hb)
        obtain ⟨oa, oc, hov⟩ := ho.len
        simp (disch := first | omega | (simp only [List.length_append, List.length_cons, List.length_nil, length_hset, length_hkill]; omega)) only [↓fsPre, fsPost, fsCond, fsGen, npick, nbin, nun, nconv, nnilCheck, noff, nidxArr, nidxSl, nfield, npart, nindex, nextract, nlenSl, nlenStr, ncap, mmx, minmax2, nslice, nsliceArr, nbounds, obound, bound, adv, nbits, eqVal, eqCell, eqCells, nfill, lenOfSl, cls, fresults, fresl, fres1, gt_iff_lt, ge_iff_le, reduceCtorEq, Nat.reduceAdd, Nat.reduceMul, Nat.reduceSub, Nat.reduceLT, Nat.reduceLeDiff, Nat.reduceEqDiff, Nat.reduceBEq, Nat.reduceBNe, Int.reduceLT, Int.reduceLE, Int.reduceEq, Int.reduceNe, Int.reduceAdd, Int.reduceSub, Int.reduceNeg, Int.reduceToNat, Int.reduceMul, ↓reduceIte, Int.reduceGT, Int.reduceGE, f2, f3, f9, f10, f11, f27, f28, f29, eB, e2, role_at x g1, b10, b11, o1, o2]
        refine callT_one (append_ok _ (nxt j) s1 (last24 X) (rawB x) r1.app.at (by rw [last24_length]; omega) (by unfold nxt; split <;> omega)) rfl ?_
        by_cases hr : roleOf x = 2
        · simp (disch := first | omega | (simp only [List.length_append, List.length_cons, List.length_nil, length_hset, length_hkill]; omega)) only [↓fsPre, fsPost, fsCond, fsGen, npick, nbin, nun, nconv, nnilCheck, noff, nidxArr, nidxSl, nfield, npart, nindex, nextract, nlenSl, nlenStr, ncap, mmx, minmax2, nslice, nsliceArr, nbounds, obound, bound, adv, nbits, eqVal, eqCell, eqCells, nfill, lenOfSl, cls, fresults, fresl, fres1, gt_iff_lt, ge_iff_le, reduceCtorEq, Nat.reduceAdd, Nat.reduceMul, Nat.reduceSub, Nat.reduceLT, Nat.reduceLeDiff, Nat.reduceEqDiff, Nat.reduceBEq, Nat.reduceBNe, Int.reduceLT, Int.reduceLE, Int.reduceEq, Int.reduceNe, Int.reduceAdd, Int.reduceSub, Int.reduceNeg, Int.reduceToNat, Int.reduceMul, ↓reduceIte, Int.reduceGT, Int.reduceGE, f2, f3, f9, f10, f11, f27, f28, f29, b10, b11, o1, o2, hr, nxt_succ, nbool_undef, guardK_none]
          have hz : othR os j (rawB x) = (⟨0, 0, 2, Int.tmod (Int.tdiv x 4) 7, 0, 0, 0⟩ : Rec) := by unfold othR; rw [if_pos (show (rawB x).role = 2 from hr)]; unfold rawB; rw [hr]

          refine callT_one (append_ok _ (nxt j) s2 (last24 Y) (⟨0, 0, 2, Int.tmod (Int.tdiv x 4) 7, 0, 0, 0⟩ : Rec) (by first | exact ((r2.set (by omega)).app).at | exact (r2.app).at) (by rw [last24_length]; omega) (by unfold nxt; split <;> omega)) rfl ?_
          simp (disch := first | omega | (simp only [List.length_append, List.length_cons, List.length_nil, length_hset, length_hkill]; omega)) only [↓fsPre, fsPost, fsCond, fsGen, npick, nbin, nun, nconv, nnilCheck, noff, nidxArr, nidxSl, nfield, npart, nindex, nextract, nlenSl, nlenStr, ncap, mmx, minmax2, nslice, nsliceArr, nbounds, obound, bound, adv, nbits, eqVal, eqCell, eqCells, nfill, lenOfSl, cls, fresults, fresl, fres1, gt_iff_lt, ge_iff_le, reduceCtorEq, Nat.reduceAdd, Nat.reduceMul, Nat.reduceSub, Nat.reduceLT, Nat.reduceLeDiff, Nat.reduceEqDiff, Nat.reduceBEq, Nat.reduceBNe, Int.reduceLT, Int.reduceLE, Int.reduceEq, Int.reduceNe, Int.reduceAdd, Int.reduceSub, Int.reduceNeg, Int.reduceToNat, Int.reduceMul, ↓reduceIte, Int.reduceGT, Int.reduceGE, f2, f3, f9, f10, f11, f27, f28, f29, b10, b11, o1, o2, nxt_succ]
          have hkX : last24 (X ++ [(rawB x).withNum (if 1 < nxt j then nxt j else 1)]) = kept (last24 X) ++ [(rawB x).withNum (if 1 < nxt j then nxt j else 1)] := last24_snoc _ _
          have hkY : last24 (Y ++ [((⟨0, 0, 2, Int.tmod (Int.tdiv x 4) 7, 0, 0, 0⟩ : Rec)).withNum (if 1 < nxt j then nxt j else 1)]) = kept (last24 Y) ++ [((⟨0, 0, 2, Int.tmod (Int.tdiv x 4) 7, 0, 0, 0⟩ : Rec)).withNum (if 1 < nxt j then nxt j else 1)] := last24_snoc _ _
          refine ⟨by omega, fun c hc => ?_, _, _, X ++ [(rawB x).withNum (if 1 < nxt j then nxt j else 1)], Y ++ [((⟨0, 0, 2, Int.tmod (Int.tdiv x 4) 7, 0, 0, 0⟩ : Rec)).withNum (if 1 < nxt j then nxt j else 1)], rfl, rfl, .inr ⟨h.length + 2, ?_, by omega, ?_⟩, .inr ⟨h.length + 3, ?_, by omega, ?_⟩, ?_, by simp [hX]⟩
          · simp (disch := first | omega | (simp only [List.length_append, List.length_cons, List.length_nil, length_hset, length_hkill]; omega)) only [↓fsPre, fsPost, fsCond, fsGen, npick, nbin, nun, nconv, nnilCheck, noff, nidxArr, nidxSl, nfield, npart, nindex, nextract, nlenSl, nlenStr, ncap, mmx, minmax2, nslice, nsliceArr, nbounds, obound, bound, adv, nbits, eqVal, eqCell, eqCells, nfill, lenOfSl, cls, fresults, fresl, fres1, gt_iff_lt, ge_iff_le, reduceCtorEq, Nat.reduceAdd, Nat.reduceMul, Nat.reduceSub, Nat.reduceLT, Nat.reduceLeDiff, Nat.reduceEqDiff, Nat.reduceBEq, Nat.reduceBNe, Int.reduceLT, Int.reduceLE, Int.reduceEq, Int.reduceNe, Int.reduceAdd, Int.reduceSub, Int.reduceNeg, Int.reduceToNat, Int.reduceMul, ↓reduceIte, Int.reduceGT, Int.reduceGE]
            exact old c hc
          · rw [hkX]; simp
          · rw [hkX]; simp (disch := first | omega | (simp only [List.length_append, List.length_cons, List.length_nil, length_hset, length_hkill]; omega)) only [↓fsPre, fsPost, fsCond, fsGen, npick, nbin, nun, nconv, nnilCheck, noff, nidxArr, nidxSl, nfield, npart, nindex, nextract, nlenSl, nlenStr, ncap, mmx, minmax2, nslice, nsliceArr, nbounds, obound, bound, adv, nbits, eqVal, eqCell, eqCells, nfill, lenOfSl, cls, fresults, fresl, fres1, gt_iff_lt, ge_iff_le, reduceCtorEq, Nat.reduceAdd, Nat.reduceMul, Nat.reduceSub, Nat.reduceLT, Nat.reduceLeDiff, Nat.reduceEqDiff, Nat.reduceBEq, Nat.reduceBNe, Int.reduceLT, Int.reduceLE, Int.reduceEq, Int.reduceNe, Int.reduceAdd, Int.reduceSub, Int.reduceNeg, Int.reduceToNat, Int.reduceMul, ↓reduceIte, Int.reduceGT, Int.reduceGE]
          · rw [hkY]; simp
          · rw [hkY]; simp (disch := first | omega | (simp only [List.length_append, List.length_cons, List.length_nil, length_hset, length_hkill]; omega)) only [↓fsPre, fsPost, fsCond, fsGen, npick, nbin, nun, nconv, nnilCheck, noff, nidxArr, nidxSl, nfield, npart, nindex, nextract, nlenSl, nlenStr, ncap, mmx, minmax2, nslice, nsliceArr, nbounds, obound, bound, adv, nbits, eqVal, eqCell, eqCells, nfill, lenOfSl, cls, fresults, fresl, fres1, gt_iff_lt, ge_iff_le, reduceCtorEq, Nat.reduceAdd, Nat.reduceMul, Nat.reduceSub, Nat.reduceLT, Nat.reduceLeDiff, Nat.reduceEqDiff, Nat.reduceBEq, Nat.reduceBNe, Int.reduceLT, Int.reduceLE, Int.reduceEq, Int.reduceNe, Int.reduceAdd, Int.reduceSub, Int.reduceNeg, Int.reduceToNat, Int.reduceMul, ↓reduceIte, Int.reduceGT, Int.reduceGE]
          · rw [List.map_append, List.map_append, hkey]
            have := othR_key os j (rawB x) (if 1 < nxt j then nxt j else 1)
            rw [hz] at this
            simp only [List.map_cons, List.map_nil, this]
        · by_cases hjo : j < os.length
          · rcases hoth with ⟨_, rfl⟩ | ⟨bo, ko, co, roo, hovv, hbo0, hco⟩
            · simp at hjo
            have lbo := hget_some_lt hbo0
            have hbo := (old bo lbo).trans hbo0
            clear hov ho
            subst hovv
            have hd : decide ((j : Int) < os.length) = true := decide_eq_true (by omega)
            have hcj := hco j hjo
            have hget0 : os[j]? = some os[j] := List.getElem?_eq_getElem hjo
            generalize os[j] = o at *
            have hc2 : co[j * 7 + 2]? = some (.int .i64 o.role) := by rw [cut_get hcj (i := 2) (by omega)]; rfl
            simp (disch := first | omega | (simp only [List.length_append, List.length_cons, List.length_nil, length_hset, length_hkill]; omega)) only [↓fsPre, fsPost, fsCond, fsGen, npick, nbin, nun, nconv, nnilCheck, noff, nidxArr, nidxSl, nfield, npart, nindex, nextract, nlenSl, nlenStr, ncap, mmx, minmax2, nslice, nsliceArr, nbounds, obound, bound, adv, nbits, eqVal, eqCell, eqCells, nfill, lenOfSl, cls, fresults, fresl, fres1, gt_iff_lt, ge_iff_le, reduceCtorEq, Nat.reduceAdd, Nat.reduceMul, Nat.reduceSub, Nat.reduceLT, Nat.reduceLeDiff, Nat.reduceEqDiff, Nat.reduceBEq, Nat.reduceBNe, Int.reduceLT, Int.reduceLE, Int.reduceEq, Int.reduceNe, Int.reduceAdd, Int.reduceSub, Int.reduceNeg, Int.reduceToNat, Int.reduceMul, ↓reduceIte, Int.reduceGT, Int.reduceGE, f2, f3, f9, f10, f11, f27, f28, f29, b10, b11, o1, o2, hr, nxt_succ, hd, hbo, hc2]
            by_cases ho2 : o.role = 2
            · simp (disch := first | omega | (simp only [List.length_append, List.length_cons, List.length_nil, length_hset, length_hkill]; omega)) only [↓fsPre, fsPost, fsCond, fsGen, npick, nbin, nun, nconv, nnilCheck, noff, nidxArr, nidxSl, nfield, npart, nindex, nextract, nlenSl, nlenStr, ncap, mmx, minmax2, nslice, nsliceArr, nbounds, obound, bound, adv, nbits, eqVal, eqCell, eqCells, nfill, lenOfSl, cls, fresults, fresl, fres1, gt_iff_lt, ge_iff_le, reduceCtorEq, Nat.reduceAdd, Nat.reduceMul, Nat.reduceSub, Nat.reduceLT, Nat.reduceLeDiff, Nat.reduceEqDiff, Nat.reduceBEq, Nat.reduceBNe, Int.reduceLT, Int.reduceLE, Int.reduceEq, Int.reduceNe, Int.reduceAdd, Int.reduceSub, Int.reduceNeg, Int.reduceToNat, Int.reduceMul, ↓reduceIte, Int.reduceGT, Int.reduceGE, f2, f3, f9, f10, f11, f27, f28, f29, b10, b11, o1, o2, hbo, hc2, hcj, ho2, Rec.cells]
              have hz : othR os j (rawB x) = (⟨o.num, o.ctl, 3, o.kind, o.code, o.failed, o.upd⟩ : Rec) := by unfold othR; rw [if_neg (show ¬ (rawB x).role = 2 from hr), hget0]; simp [three, ho2]

              refine callT_one (append_ok _ (nxt j) s2 (last24 Y) (⟨o.num, o.ctl, 3, o.kind, o.code, o.failed, o.upd⟩ : Rec) (by first | exact ((r2.set (by omega)).app).at | exact (r2.app).at) (by rw [last24_length]; omega) (by unfold nxt; split <;> omega)) rfl ?_
              simp (disch := first | omega | (simp only [List.length_append, List.length_cons, List.length_nil, length_hset, length_hkill]; omega)) only [↓fsPre, fsPost, fsCond, fsGen, npick, nbin, nun, nconv, nnilCheck, noff, nidxArr, nidxSl, nfield, npart, nindex, nextract, nlenSl, nlenStr, ncap, mmx, minmax2, nslice, nsliceArr, nbounds, obound, bound, adv, nbits, eqVal, eqCell, eqCells, nfill, lenOfSl, cls, fresults, fresl, fres1, gt_iff_lt, ge_iff_le, reduceCtorEq, Nat.reduceAdd, Nat.reduceMul, Nat.reduceSub, Nat.reduceLT, Nat.reduceLeDiff, Nat.reduceEqDiff, Nat.reduceBEq, Nat.reduceBNe, Int.reduceLT, Int.reduceLE, Int.reduceEq, Int.reduceNe, Int.reduceAdd, Int.reduceSub, Int.reduceNeg, Int.reduceToNat, Int.reduceMul, ↓reduceIte, Int.reduceGT, Int.reduceGE, f2, f3, f9, f10, f11, f27, f28, f29, b10, b11, o1, o2, nxt_succ]
              have hkX : last24 (X ++ [(rawB x).withNum (if 1 < nxt j then nxt j else 1)]) = kept (last24 X) ++ [(rawB x).withNum (if 1 < nxt j then nxt j else 1)] := last24_snoc _ _
              have hkY : last24 (Y ++ [((⟨o.num, o.ctl, 3, o.kind, o.code, o.failed, o.upd⟩ : Rec)).withNum (if 1 < nxt j then nxt j else 1)]) = kept (last24 Y) ++ [((⟨o.num, o.ctl, 3, o.kind, o.code, o.failed, o.upd⟩ : Rec)).withNum (if 1 < nxt j then nxt j else 1)] := last24_snoc _ _
              refine ⟨by omega, fun c hc => ?_, _, _, X ++ [(rawB x).withNum (if 1 < nxt j then nxt j else 1)], Y ++ [((⟨o.num, o.ctl, 3, o.kind, o.code, o.failed, o.upd⟩ : Rec)).withNum (if 1 < nxt j then nxt j else 1)], rfl, rfl, .inr ⟨h.length + 2, ?_, by omega, ?_⟩, .inr ⟨h.length + 3, ?_, by omega, ?_⟩, ?_, by simp [hX]⟩
              · simp (disch := first | omega | (simp only [List.length_append, List.length_cons, List.length_nil, length_hset, length_hkill]; omega)) only [↓fsPre, fsPost, fsCond, fsGen, npick, nbin, nun, nconv, nnilCheck, noff, nidxArr, nidxSl, nfield, npart, nindex, nextract, nlenSl, nlenStr, ncap, mmx, minmax2, nslice, nsliceArr, nbounds, obound, bound, adv, nbits, eqVal, eqCell, eqCells, nfill, lenOfSl, cls, fresults, fresl, fres1, gt_iff_lt, ge_iff_le, reduceCtorEq, Nat.reduceAdd, Nat.reduceMul, Nat.reduceSub, Nat.reduceLT, Nat.reduceLeDiff, Nat.reduceEqDiff, Nat.reduceBEq, Nat.reduceBNe, Int.reduceLT, Int.reduceLE, Int.reduceEq, Int.reduceNe, Int.reduceAdd, Int.reduceSub, Int.reduceNeg, Int.reduceToNat, Int.reduceMul, ↓reduceIte, Int.reduceGT, Int.reduceGE]
                exact old c hc
              · rw [hkX]; simp
              · rw [hkX]; simp (disch := first | omega | (simp only [List.length_append, List.length_cons, List.length_nil, length_hset, length_hkill]; omega)) only [↓fsPre, fsPost, fsCond, fsGen, npick, nbin, nun, nconv, nnilCheck, noff, nidxArr, nidxSl, nfield, npart, nindex, nextract, nlenSl, nlenStr, ncap, mmx, minmax2, nslice, nsliceArr, nbounds, obound, bound, adv, nbits, eqVal, eqCell, eqCells, nfill, lenOfSl, cls, fresults, fresl, fres1, gt_iff_lt, ge_iff_le, reduceCtorEq, Nat.reduceAdd, Nat.reduceMul, Nat.reduceSub, Nat.reduceLT, Nat.reduceLeDiff, Nat.reduceEqDiff, Nat.reduceBEq, Nat.reduceBNe, Int.reduceLT, Int.reduceLE, Int.reduceEq, Int.reduceNe, Int.reduceAdd, Int.reduceSub, Int.reduceNeg, Int.reduceToNat, Int.reduceMul, ↓reduceIte, Int.reduceGT, Int.reduceGE]
              · rw [hkY]; simp
              · rw [hkY]; simp (disch := first | omega | (simp only [List.length_append, List.length_cons, List.length_nil, length_hset, length_hkill]; omega)) only [↓fsPre, fsPost, fsCond, fsGen, npick, nbin, nun, nconv, nnilCheck, noff, nidxArr, nidxSl, nfield, npart, nindex, nextract, nlenSl, nlenStr, ncap, mmx, minmax2, nslice, nsliceArr, nbounds, obound, bound, adv, nbits, eqVal, eqCell, eqCells, nfill, lenOfSl, cls, fresults, fresl, fres1, gt_iff_lt, ge_iff_le, reduceCtorEq, Nat.reduceAdd, Nat.reduceMul, Nat.reduceSub, Nat.reduceLT, Nat.reduceLeDiff, Nat.reduceEqDiff, Nat.reduceBEq, Nat.reduceBNe, Int.reduceLT, Int.reduceLE, Int.reduceEq, Int.reduceNe, Int.reduceAdd, Int.reduceSub, Int.reduceNeg, Int.reduceToNat, Int.reduceMul, ↓reduceIte, Int.reduceGT, Int.reduceGE]
              · rw [List.map_append, List.map_append, hkey]
                have := othR_key os j (rawB x) (if 1 < nxt j then nxt j else 1)
                rw [hz] at this
                simp only [List.map_cons, List.map_nil, this]
            · simp (disch := first | omega | (simp only [List.length_append, List.length_cons, List.length_nil, length_hset, length_hkill]; omega)) only [↓fsPre, fsPost, fsCond, fsGen, npick, nbin, nun, nconv, nnilCheck, noff, nidxArr, nidxSl, nfield, npart, nindex, nextract, nlenSl, nlenStr, ncap, mmx, minmax2, nslice, nsliceArr, nbounds, obound, bound, adv, nbits, eqVal, eqCell, eqCells, nfill, lenOfSl, cls, fresults, fresl, fres1, gt_iff_lt, ge_iff_le, reduceCtorEq, Nat.reduceAdd, Nat.reduceMul, Nat.reduceSub, Nat.reduceLT, Nat.reduceLeDiff, Nat.reduceEqDiff, Nat.reduceBEq, Nat.reduceBNe, Int.reduceLT, Int.reduceLE, Int.reduceEq, Int.reduceNe, Int.reduceAdd, Int.reduceSub, Int.reduceNeg, Int.reduceToNat, Int.reduceMul, ↓reduceIte, Int.reduceGT, Int.reduceGE, f2, f3, f9, f10, f11, f27, f28, f29, b10, b11, o1, o2, hbo, hc2, hcj, ho2, Rec.cells]
              have hz : othR os j (rawB x) = (⟨o.num, o.ctl, o.role, o.kind, o.code, o.failed, o.upd⟩ : Rec) := by unfold othR; rw [if_neg (show ¬ (rawB x).role = 2 from hr), hget0]; simp [three, ho2]

              refine callT_one (append_ok _ (nxt j) s2 (last24 Y) (⟨o.num, o.ctl, o.role, o.kind, o.code, o.failed, o.upd⟩ : Rec) (by first | exact ((r2.set (by omega)).app).at | exact (r2.app).at) (by rw [last24_length]; omega) (by unfold nxt; split <;> omega)) rfl ?_
              simp (disch := first | omega | (simp only [List.length_append, List.length_cons, List.length_nil, length_hset, length_hkill]; omega)) only [↓fsPre, fsPost, fsCond, fsGen, npick, nbin, nun, nconv, nnilCheck, noff, nidxArr, nidxSl, nfield, npart, nindex, nextract, nlenSl, nlenStr, ncap, mmx, minmax2, nslice, nsliceArr, nbounds, obound, bound, adv, nbits, eqVal, eqCell, eqCells, nfill, lenOfSl, cls, fresults, fresl, fres1, gt_iff_lt, ge_iff_le, reduceCtorEq, Nat.reduceAdd, Nat.reduceMul, Nat.reduceSub, Nat.reduceLT, Nat.reduceLeDiff, Nat.reduceEqDiff, Nat.reduceBEq, Nat.reduceBNe, Int.reduceLT, Int.reduceLE, Int.reduceEq, Int.reduceNe, Int.reduceAdd, Int.reduceSub, Int.reduceNeg, Int.reduceToNat, Int.reduceMul, ↓reduceIte, Int.reduceGT, Int.reduceGE, f2, f3, f9, f10, f11, f27, f28, f29, b10, b11, o1, o2, nxt_succ]
              have hkX : last24 (X ++ [(rawB x).withNum (if 1 < nxt j then nxt j else 1)]) = kept (last24 X) ++ [(rawB x).withNum (if 1 < nxt j then nxt j else 1)] := last24_snoc _ _
              have hkY : last24 (Y ++ [((⟨o.num, o.ctl, o.role, o.kind, o.code, o.failed, o.upd⟩ : Rec)).withNum (if 1 < nxt j then nxt j else 1)]) = kept (last24 Y) ++ [((⟨o.num, o.ctl, o.role, o.kind, o.code, o.failed, o.upd⟩ : Rec)).withNum (if 1 < nxt j then nxt j else 1)] := last24_snoc _ _
              refine ⟨by omega, fun c hc => ?_, _, _, X ++ [(rawB x).withNum (if 1 < nxt j then nxt j else 1)], Y ++ [((⟨o.num, o.ctl, o.role, o.kind, o.code, o.failed, o.upd⟩ : Rec)).withNum (if 1 < nxt j then nxt j else 1)], rfl, rfl, .inr ⟨h.length + 2, ?_, by omega, ?_⟩, .inr ⟨h.length + 3, ?_, by omega, ?_⟩, ?_, by simp [hX]⟩
              · simp (disch := first | omega | (simp only [List.length_append, List.length_cons, List.length_nil, length_hset, length_hkill]; omega)) only [↓fsPre, fsPost, fsCond, fsGen, npick, nbin, nun, nconv, nnilCheck, noff, nidxArr, nidxSl, nfield, npart, nindex, nextract, nlenSl, nlenStr, ncap, mmx, minmax2, nslice, nsliceArr, nbounds, obound, bound, adv, nbits, eqVal, eqCell, eqCells, nfill, lenOfSl, cls, fresults, fresl, fres1, gt_iff_lt, ge_iff_le, reduceCtorEq, Nat.reduceAdd, Nat.reduceMul, Nat.reduceSub, Nat.reduceLT, Nat.reduceLeDiff, Nat.reduceEqDiff, Nat.reduceBEq, Nat.reduceBNe, Int.reduceLT, Int.reduceLE, Int.reduceEq, Int.reduceNe, Int.reduceAdd, Int.reduceSub, Int.reduceNeg, Int.reduceToNat, Int.reduceMul, ↓reduceIte, Int.reduceGT, Int.reduceGE]
                exact old c hc
              · rw [hkX]; simp
              · rw [hkX]; simp (disch := first | omega | (simp only [List.length_append, List.length_cons, List.length_nil, length_hset, length_hkill]; omega)) only [↓fsPre, fsPost, fsCond, fsGen, npick, nbin, nun, nconv, nnilCheck, noff, nidxArr, nidxSl, nfield, npart, nindex, nextract, nlenSl, nlenStr, ncap, mmx, minmax2, nslice, nsliceArr, nbounds, obound, bound, adv, nbits, eqVal, eqCell, eqCells, nfill, lenOfSl, cls, fresults, fresl, fres1, gt_iff_lt, ge_iff_le, reduceCtorEq, Nat.reduceAdd, Nat.reduceMul, Nat.reduceSub, Nat.reduceLT, Nat.reduceLeDiff, Nat.reduceEqDiff, Nat.reduceBEq, Nat.reduceBNe, Int.reduceLT, Int.reduceLE, Int.reduceEq, Int.reduceNe, Int.reduceAdd, Int.reduceSub, Int.reduceNeg, Int.reduceToNat, Int.reduceMul, ↓reduceIte, Int.reduceGT, Int.reduceGE]
              · rw [hkY]; simp
              · rw [hkY]; simp (disch := first | omega | (simp only [List.length_append, List.length_cons, List.length_nil, length_hset, length_hkill]; omega)) only [↓fsPre, fsPost, fsCond, fsGen, npick, nbin, nun, nconv, nnilCheck, noff, nidxArr, nidxSl, nfield, npart, nindex, nextract, nlenSl, nlenStr, ncap, mmx, minmax2, nslice, nsliceArr, nbounds, obound, bound, adv, nbits, eqVal, eqCell, eqCells, nfill, lenOfSl, cls, fresults, fresl, fres1, gt_iff_lt, ge_iff_le, reduceCtorEq, Nat.reduceAdd, Nat.reduceMul, Nat.reduceSub, Nat.reduceLT, Nat.reduceLeDiff, Nat.reduceEqDiff, Nat.reduceBEq, Nat.reduceBNe, Int.reduceLT, Int.reduceLE, Int.reduceEq, Int.reduceNe, Int.reduceAdd, Int.reduceSub, Int.reduceNeg, Int.reduceToNat, Int.reduceMul, ↓reduceIte, Int.reduceGT, Int.reduceGE]
              · rw [List.map_append, List.map_append, hkey]
                have := othR_key os j (rawB x) (if 1 < nxt j then nxt j else 1)
                rw [hz] at this
                simp only [List.map_cons, List.map_nil, this]
          · have hd : decide ((j : Int) < os.length) = false := decide_eq_false (by omega)
            subst hov
            simp (disch := first | omega | (simp only [List.length_append, List.length_cons, List.length_nil, length_hset, length_hkill]; omega)) only [↓fsPre, fsPost, fsCond, fsGen, npick, nbin, nun, nconv, nnilCheck, noff, nidxArr, nidxSl, nfield, npart, nindex, nextract, nlenSl, nlenStr, ncap, mmx, minmax2, nslice, nsliceArr, nbounds, obound, bound, adv, nbits, eqVal, eqCell, eqCells, nfill, lenOfSl, cls, fresults, fresl, fres1, gt_iff_lt, ge_iff_le, reduceCtorEq, Nat.reduceAdd, Nat.reduceMul, Nat.reduceSub, Nat.reduceLT, Nat.reduceLeDiff, Nat.reduceEqDiff, Nat.reduceBEq, Nat.reduceBNe, Int.reduceLT, Int.reduceLE, Int.reduceEq, Int.reduceNe, Int.reduceAdd, Int.reduceSub, Int.reduceNeg, Int.reduceToNat, Int.reduceMul, ↓reduceIte, Int.reduceGT, Int.reduceGE, f2, f3, f9, f10, f11, f27, f28, f29, b10, b11, o1, o2, hr, nxt_succ, hd]
            have hz : othR os j (rawB x) = (⟨0, 0, roleOf x, Int.tmod (Int.tdiv x 4) 7, 0, 0, 0⟩ : Rec) := by unfold othR; rw [if_neg (show ¬ (rawB x).role = 2 from hr), List.getElem?_eq_none (by omega)]; rfl

            refine callT_one (append_ok _ (nxt j) s2 (last24 Y) (⟨0, 0, roleOf x, Int.tmod (Int.tdiv x 4) 7, 0, 0, 0⟩ : Rec) (by first | exact ((r2.set (by omega)).app).at | exact (r2.app).at) (by rw [last24_length]; omega) (by unfold nxt; split <;> omega)) rfl ?_
            simp (disch := first | omega | (simp only [List.length_append, List.length_cons, List.length_nil, length_hset, length_hkill]; omega)) only [↓fsPre, fsPost, fsCond, fsGen, npick, nbin, nun, nconv, nnilCheck, noff, nidxArr, nidxSl, nfield, npart, nindex, nextract, nlenSl, nlenStr, ncap, mmx, minmax2, nslice, nsliceArr, nbounds, obound, bound, adv, nbits, eqVal, eqCell, eqCells, nfill, lenOfSl, cls, fresults, fresl, fres1, gt_iff_lt, ge_iff_le, reduceCtorEq, Nat.reduceAdd, Nat.reduceMul, Nat.reduceSub, Nat.reduceLT, Nat.reduceLeDiff, Nat.reduceEqDiff, Nat.reduceBEq, Nat.reduceBNe, Int.reduceLT, Int.reduceLE, Int.reduceEq, Int.reduceNe, Int.reduceAdd, Int.reduceSub, Int.reduceNeg, Int.reduceToNat, Int.reduceMul, ↓reduceIte, Int.reduceGT, Int.reduceGE, f2, f3, f9, f10, f11, f27, f28, f29, b10, b11, o1, o2, nxt_succ]
            have hkX : last24 (X ++ [(rawB x).withNum (if 1 < nxt j then nxt j else 1)]) = kept (last24 X) ++ [(rawB x).withNum (if 1 < nxt j then nxt j else 1)] := last24_snoc _ _
            have hkY : last24 (Y ++ [((⟨0, 0, roleOf x, Int.tmod (Int.tdiv x 4) 7, 0, 0, 0⟩ : Rec)).withNum (if 1 < nxt j then nxt j else 1)]) = kept (last24 Y) ++ [((⟨0, 0, roleOf x, Int.tmod (Int.tdiv x 4) 7, 0, 0, 0⟩ : Rec)).withNum (if 1 < nxt j then nxt j else 1)] := last24_snoc _ _
            refine ⟨by omega, fun c hc => ?_, _, _, X ++ [(rawB x).withNum (if 1 < nxt j then nxt j else 1)], Y ++ [((⟨0, 0, roleOf x, Int.tmod (Int.tdiv x 4) 7, 0, 0, 0⟩ : Rec)).withNum (if 1 < nxt j then nxt j else 1)], rfl, rfl, .inr ⟨h.length + 2, ?_, by omega, ?_⟩, .inr ⟨h.length + 3, ?_, by omega, ?_⟩, ?_, by simp [hX]⟩
            · simp (disch := first | omega | (simp only [List.length_append, List.length_cons, List.length_nil, length_hset, length_hkill]; omega)) only [↓fsPre, fsPost, fsCond, fsGen, npick, nbin, nun, nconv, nnilCheck, noff, nidxArr, nidxSl, nfield, npart, nindex, nextract, nlenSl, nlenStr, ncap, mmx, minmax2, nslice, nsliceArr, nbounds, obound, bound, adv, nbits, eqVal, eqCell, eqCells, nfill, lenOfSl, cls, fresults, fresl, fres1, gt_iff_lt, ge_iff_le, reduceCtorEq, Nat.reduceAdd, Nat.reduceMul, Nat.reduceSub, Nat.reduceLT, Nat.reduceLeDiff, Nat.reduceEqDiff, Nat.reduceBEq, Nat.reduceBNe, Int.reduceLT, Int.reduceLE, Int.reduceEq, Int.reduceNe, Int.reduceAdd, Int.reduceSub, Int.reduceNeg, Int.reduceToNat, Int.reduceMul, ↓reduceIte, Int.reduceGT, Int.reduceGE]
              exact old c hc
            · rw [hkX]; simp
            · rw [hkX]; simp (disch := first | omega | (simp only [List.length_append, List.length_cons, List.length_nil, length_hset, length_hkill]; omega)) only [↓fsPre, fsPost, fsCond, fsGen, npick, nbin, nun, nconv, nnilCheck, noff, nidxArr, nidxSl, nfield, npart, nindex, nextract, nlenSl, nlenStr, ncap, mmx, minmax2, nslice, nsliceArr, nbounds, obound, bound, adv, nbits, eqVal, eqCell, eqCells, nfill, lenOfSl, cls, fresults, fresl, fres1, gt_iff_lt, ge_iff_le, reduceCtorEq, Nat.reduceAdd, Nat.reduceMul, Nat.reduceSub, Nat.reduceLT, Nat.reduceLeDiff, Nat.reduceEqDiff, Nat.reduceBEq, Nat.reduceBNe, Int.reduceLT, Int.reduceLE, Int.reduceEq, Int.reduceNe, Int.reduceAdd, Int.reduceSub, Int.reduceNeg, Int.reduceToNat, Int.reduceMul, ↓reduceIte, Int.reduceGT, Int.reduceGE]
            · rw [hkY]; simp
            · rw [hkY]; simp (disch := first | omega | (simp only [List.length_append, List.length_cons, List.length_nil, length_hset, length_hkill]; omega)) only [↓fsPre, fsPost, fsCond, fsGen, npick, nbin, nun, nconv, nnilCheck, noff, nidxArr, nidxSl, nfield, npart, nindex, nextract, nlenSl, nlenStr, ncap, mmx, minmax2, nslice, nsliceArr, nbounds, obound, bound, adv, nbits, eqVal, eqCell, eqCells, nfill, lenOfSl, cls, fresults, fresl, fres1, gt_iff_lt, ge_iff_le, reduceCtorEq, Nat.reduceAdd, Nat.reduceMul, Nat.reduceSub, Nat.reduceLT, Nat.reduceLeDiff, Nat.reduceEqDiff, Nat.reduceBEq, Nat.reduceBNe, Int.reduceLT, Int.reduceLE, Int.reduceEq, Int.reduceNe, Int.reduceAdd, Int.reduceSub, Int.reduceNeg, Int.reduceToNat, Int.reduceMul, ↓reduceIte, Int.reduceGT, Int.reduceGE]
            · rw [List.map_append, List.map_append, hkey]
              have := othR_key os j (rawB x) (if 1 < nxt j then nxt j else 1)
              rw [hz] at this
              simp only [List.map_cons, List.map_nil, this]
      · rintro F h ⟨f2, f3, f9, f10, f11, f27, f28, f29, len, old, s1, s2, X, Y, b10, b11, r1, r2, hkey, hX⟩
        simp (disch := first | omega | (simp only [List.length_append, List.length_cons, List.length_nil, length_hset, length_hkill]; omega)) only [↓fsPre, fsPost, fsCond, fsGen, npick, nbin, nun, nconv, nnilCheck, noff, nidxArr, nidxSl, nfield, npart, nindex, nextract, nlenSl, nlenStr, ncap, mmx, minmax2, nslice, nsliceArr, nbounds, obound, bound, adv, nbits, eqVal, eqCell, eqCells, nfill, lenOfSl, cls, fresults, fresl, fres1, gt_iff_lt, ge_iff_le, reduceCtorEq, Nat.reduceAdd, Nat.reduceMul, Nat.reduceSub, Nat.reduceLT, Nat.reduceLeDiff, Nat.reduceEqDiff, Nat.reduceBEq, Nat.reduceBNe, Int.reduceLT, Int.reduceLE, Int.reduceEq, Int.reduceNe, Int.reduceAdd, Int.reduceSub, Int.reduceNeg, Int.reduceToNat, Int.reduceMul, ↓reduceIte, Int.reduceGT, Int.reduceGE, f2, f3, f9, f10, f11, f27, f28, f29]
        exact ⟨len, old, _, s1, s2, X, Y, b10, b11, r1, r2, hkey⟩
  · clear f1 f2 f3 f9 f10 f11 F
    rintro F h ⟨f3, f9, f10, f11, len, old, nx, s1, s2, X, Y, b10, b11, r1, r2, hkey⟩
    have b9' : hget h p9 = _ := (old p9 l9).trans b9
    have schh := sch.mono (h' := h) old
    have l10 := hget_some_lt b10
    have l11 := hget_some_lt b11
    have l9' := hget_some_lt b9'
    simp (disch := first | omega | (simp only [List.length_append, List.length_cons, List.length_nil, length_hset, length_hkill]; omega)) only [↓fsPre, fsPost, fsCond, fsGen, npick, nbin, nun, nconv, nnilCheck, noff, nidxArr, nidxSl, nfield, npart, nindex, nextract, nlenSl, nlenStr, ncap, mmx, minmax2, nslice, nsliceArr, nbounds, obound, bound, adv, nbits, eqVal, eqCell, eqCells, nfill, lenOfSl, cls, fresults, fresl, fres1, gt_iff_lt, ge_iff_le, reduceCtorEq, Nat.reduceAdd, Nat.reduceMul, Nat.reduceSub, Nat.reduceLT, Nat.reduceLeDiff, Nat.reduceEqDiff, Nat.reduceBEq, Nat.reduceBNe, Int.reduceLT, Int.reduceLE, Int.reduceEq, Int.reduceNe, Int.reduceAdd, Int.reduceSub, Int.reduceNeg, Int.reduceToNat, Int.reduceMul, ↓reduceIte, Int.reduceGT, Int.reduceGE, f3, f9, f10, f11, b9', b10, b11]
    refine callDT_one (mod_ok _ fr 50 (by omega) (by omega)) rfl ?_
    have hfr2 := (modN_range (x := fr) (n := 50) (by omega)).1
    generalize hmod : modN fr 50 = fr2 at *
    have he : recE 2 fr2 24 = 0 := by
      unfold recE
      rw [if_neg (by decide), if_neg (by omega)]
    have hL : ∀ rs, recL rs 2 fr2 24 = selR rs 2 fr2 24 := fun rs => by unfold recL; rw [if_pos he]
    have hsel := sel_same (last24_key hkey) fr2 24
    have hsl : (selR (last24 Y) 2 fr2 24).length ≤ 1000 := by
      have := selR_le (last24 Y) 2 fr2 24
      rw [last24_length] at this; omega
    simp (disch := first | omega | (simp only [List.length_append, List.length_cons, List.length_nil, length_hset, length_hkill]; omega)) only [↓fsPre, fsPost, fsCond, fsGen, npick, nbin, nun, nconv, nnilCheck, noff, nidxArr, nidxSl, nfield, npart, nindex, nextract, nlenSl, nlenStr, ncap, mmx, minmax2, nslice, nsliceArr, nbounds, obound, bound, adv, nbits, eqVal, eqCell, eqCells, nfill, lenOfSl, cls, fresults, fresl, fres1, gt_iff_lt, ge_iff_le, reduceCtorEq, Nat.reduceAdd, Nat.reduceMul, Nat.reduceSub, Nat.reduceLT, Nat.reduceLeDiff, Nat.reduceEqDiff, Nat.reduceBEq, Nat.reduceBNe, Int.reduceLT, Int.reduceLE, Int.reduceEq, Int.reduceNe, Int.reduceAdd, Int.reduceSub, Int.reduceNeg, Int.reduceToNat, Int.reduceMul, ↓reduceIte, Int.reduceGT, Int.reduceGE, f3, f9, f10, f11, b9', b10, b11]
    refine callDT_D (records_ok h nx s1 (last24 X) b q z0 z1 z2 z3 z4 z5 z7 z8 z9 2 fr2 24 schh r1.at.rows (by rw [last24_length]; omega)) rfl ?_
    rintro v4 g4 ⟨w1, L1, e, hw1⟩
    cases e
    rw [hL, hsel] at hw1
    rw [he]
    have schh2 := schh.mono (h' := h ++ L1) fun b hb => hget_appl hb
    simp (disch := first | omega | (simp only [List.length_append, List.length_cons, List.length_nil, length_hset, length_hkill]; omega)) only [↓fsPre, fsPost, fsCond, fsGen, npick, nbin, nun, nconv, nnilCheck, noff, nidxArr, nidxSl, nfield, npart, nindex, nextract, nlenSl, nlenStr, ncap, mmx, minmax2, nslice, nsliceArr, nbounds, obound, bound, adv, nbits, eqVal, eqCell, eqCells, nfill, lenOfSl, cls, fresults, fresl, fres1, gt_iff_lt, ge_iff_le, reduceCtorEq, Nat.reduceAdd, Nat.reduceMul, Nat.reduceSub, Nat.reduceLT, Nat.reduceLeDiff, Nat.reduceEqDiff, Nat.reduceBEq, Nat.reduceBNe, Int.reduceLT, Int.reduceLE, Int.reduceEq, Int.reduceNe, Int.reduceAdd, Int.reduceSub, Int.reduceNeg, Int.reduceToNat, Int.reduceMul, ↓reduceIte, Int.reduceGT, Int.reduceGE, f3, f9, f10, f11, b9', b10, b11]
    refine callDT_one (mod_ok _ fr 50 (by omega) (by omega)) rfl ?_
    rw [hmod]
    simp (disch := first | omega | (simp only [List.length_append, List.length_cons, List.length_nil, length_hset, length_hkill]; omega)) only [↓fsPre, fsPost, fsCond, fsGen, npick, nbin, nun, nconv, nnilCheck, noff, nidxArr, nidxSl, nfield, npart, nindex, nextract, nlenSl, nlenStr, ncap, mmx, minmax2, nslice, nsliceArr, nbounds, obound, bound, adv, nbits, eqVal, eqCell, eqCells, nfill, lenOfSl, cls, fresults, fresl, fres1, gt_iff_lt, ge_iff_le, reduceCtorEq, Nat.reduceAdd, Nat.reduceMul, Nat.reduceSub, Nat.reduceLT, Nat.reduceLeDiff, Nat.reduceEqDiff, Nat.reduceBEq, Nat.reduceBNe, Int.reduceLT, Int.reduceLE, Int.reduceEq, Int.reduceNe, Int.reduceAdd, Int.reduceSub, Int.reduceNeg, Int.reduceToNat, Int.reduceMul, ↓reduceIte, Int.reduceGT, Int.reduceGE, f3, f9, f10, f11, b9', b10, b11]
    refine callDT_D (records_ok (h ++ L1) nx s2 (last24 Y) b q z0 z1 z2 z3 z4 z5 z7 z8 z9 2 fr2 24 schh2 (r2.app).at.rows (by rw [last24_length]; omega)) rfl ?_
    rintro v5 g5 ⟨w2, L2, e, hw2⟩
    cases e
    rw [hL] at hw2
    rw [he]
    have hsame := sameE_ok (h ++ L1 ++ L2) w1 w2 (selR (last24 Y) 2 fr2 24) hw1.app.at hw2.at hsl
    simp only [List.append_assoc] at hsame
    simp (disch := first | omega | (simp only [List.length_append, List.length_cons, List.length_nil, length_hset, length_hkill]; omega)) only [↓fsPre, fsPost, fsCond, fsGen, npick, nbin, nun, nconv, nnilCheck, noff, nidxArr, nidxSl, nfield, npart, nindex, nextract, nlenSl, nlenStr, ncap, mmx, minmax2, nslice, nsliceArr, nbounds, obound, bound, adv, nbits, eqVal, eqCell, eqCells, nfill, lenOfSl, cls, fresults, fresl, fres1, gt_iff_lt, ge_iff_le, reduceCtorEq, Nat.reduceAdd, Nat.reduceMul, Nat.reduceSub, Nat.reduceLT, Nat.reduceLeDiff, Nat.reduceEqDiff, Nat.reduceBEq, Nat.reduceBNe, Int.reduceLT, Int.reduceLE, Int.reduceEq, Int.reduceNe, Int.reduceAdd, Int.reduceSub, Int.reduceNeg, Int.reduceToNat, Int.reduceMul, ↓reduceIte, Int.reduceGT, Int.reduceGE, f3, f9, f10, f11, b9', b10, b11]
    refine callT_one hsame rfl ?_
    simp (disch := first | omega | (simp only [List.length_append, List.length_cons, List.length_nil, length_hset, length_hkill]; omega)) only [↓fsPre, fsPost, fsCond, fsGen, npick, nbin, nun, nconv, nnilCheck, noff, nidxArr, nidxSl, nfield, npart, nindex, nextract, nlenSl, nlenStr, ncap, mmx, minmax2, nslice, nsliceArr, nbounds, obound, bound, adv, nbits, eqVal, eqCell, eqCells, nfill, lenOfSl, cls, fresults, fresl, fres1, gt_iff_lt, ge_iff_le, reduceCtorEq, Nat.reduceAdd, Nat.reduceMul, Nat.reduceSub, Nat.reduceLT, Nat.reduceLeDiff, Nat.reduceEqDiff, Nat.reduceBEq, Nat.reduceBNe, Int.reduceLT, Int.reduceLE, Int.reduceEq, Int.reduceNe, Int.reduceAdd, Int.reduceSub, Int.reduceNeg, Int.reduceToNat, Int.reduceMul, ↓reduceIte, Int.reduceGT, Int.reduceGE]
    refine callT_one (begun24_ok _) rfl ?_
    simp (disch := first | omega | (simp only [List.length_append, List.length_cons, List.length_nil, length_hset, length_hkill]; omega)) only [↓fsPre, fsPost, fsCond, fsGen, npick, nbin, nun, nconv, nnilCheck, noff, nidxArr, nidxSl, nfield, npart, nindex, nextract, nlenSl, nlenStr, ncap, mmx, minmax2, nslice, nsliceArr, nbounds, obound, bound, adv, nbits, eqVal, eqCell, eqCells, nfill, lenOfSl, cls, fresults, fresl, fres1, gt_iff_lt, ge_iff_le, reduceCtorEq, Nat.reduceAdd, Nat.reduceMul, Nat.reduceSub, Nat.reduceLT, Nat.reduceLeDiff, Nat.reduceEqDiff, Nat.reduceBEq, Nat.reduceBNe, Int.reduceLT, Int.reduceLE, Int.reduceEq, Int.reduceNe, Int.reduceAdd, Int.reduceSub, Int.reduceNeg, Int.reduceToNat, Int.reduceMul, ↓reduceIte, Int.reduceGT, Int.reduceGE]

def kindsBlind : List PK := [.sl [.int .u8], .sl [.int .u8], .sl [.int .i64, .int .i64, .int .i64, .int .i64, .int .i64, .int .i64, .int .i64], .flat [.int .i64] false]
theorem walkBlind (nvs : List NV) (h : Heap) (ok : argsOK kindsBlind 0 nvs h) : NFun Try.prog 8 nvs h (fun q => q.1 = .bool true) := by
  obtain ⟨v, vs, x, h, rfl, rfl, h1, ok⟩ := argsOK_cons ok
  obtain ⟨w, vs, y, h, rfl, rfl, h2, ok⟩ := argsOK_cons ok
  obtain ⟨u, vs, x3, h, rfl, rfl, h3, ok⟩ := argsOK_cons ok
  obtain ⟨u, vs, x4, h, rfl, rfl, h4, ok⟩ := argsOK_cons ok
  obtain ⟨rfl, rfl⟩ := argsOK_nil ok
  obtain ⟨a, rfl, ha, rfl⟩ := argOK_int h4
  obtain ⟨xs, hx⟩ := argOK_bytes (H := [x, y, x3, none]) h1 rfl
  obtain ⟨ys, hy⟩ := argOK_bytes (H := [x, y, x3, none]) h2 rfl
  obtain ⟨os, ho, hl⟩ := argOK_recs (H := [x, y, x3, none]) h3 rfl
  exact blind_ok _ _ _ _ xs ys os hx hy ho a hl
end Go.Proofs
