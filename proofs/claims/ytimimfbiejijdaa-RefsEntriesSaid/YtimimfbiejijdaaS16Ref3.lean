/- References: the schema of the statements, targets. -/
import Derived.Test.YtimimfbiejijdaaS16Ref2
import Derived.Test.YtimimfbiejijdaaFsG
set_option linter.unusedSimpArgs false
set_option linter.unusedVariables false
set_option maxRecDepth 10000
namespace Go.Proofs
open Go.Ns

theorem targets_ok (N M : Nat) (H : Heap) (l : List T4) (v w : NV) (g1 : GrC H N (tC l) 4 v) (g2 : GrC H M (tC l) 4 w) (hl : l.length ≤ 1000) : NCall Try.prog 10 [v, w] H fun r => r = (.bool true, H) := by
  obtain ⟨a1, c1, rfl, h1⟩ := grc_list g1
  obtain ⟨a2, c2, rfl, h2⟩ := grc_list g2
  refine call_pure E0 mixed t10_ok (by kernel_rfl) trivial ?_
  simp only [t10]
  simp (disch := first | omega | (simp only [List.length_append, List.length_cons, List.length_nil, length_hset, length_hkill]; omega)) only [↓fsPre, fsPost, fsCond, fsGen, npick, nbin, nun, nconv, nnilCheck, noff, nidxArr, nidxSl, nfield, npart, nindex, nextract, nlenSl, nlenStr, ncap, mmx, minmax2, nslice, nsliceArr, nbounds, obound, bound, adv, nbits, eqVal, eqCell, eqCells, nfill, lenOfSl, cls, fresults, fresl, fres1, gt_iff_lt, ge_iff_le, reduceCtorEq, Nat.reduceAdd, Nat.reduceMul, Nat.reduceSub, Nat.reduceLT, Nat.reduceLeDiff, Nat.reduceEqDiff, Nat.reduceBEq, Nat.reduceBNe, Int.reduceLT, Int.reduceLE, Int.reduceEq, Int.reduceNe, Int.reduceAdd, Int.reduceSub, Int.reduceNeg, Int.reduceToNat, Int.reduceMul, ↓reduceIte, Int.reduceGT, Int.reduceGE]
  refine wloop (fun k F h => F 0 = .slice a1 l.length c1 ∧ F 1 = .slice a2 l.length c2 ∧ F 12 = .slice a1 l.length c1 ∧ F 13 = .int .i64 l.length ∧ F 14 = .int .i64 k ∧ ∃ J, h = H ++ J) l.length ?_ ?_ ?_
  · simp (disch := first | omega | (simp only [List.length_append, List.length_cons, List.length_nil, length_hset, length_hkill]; omega)) only [↓fsPre, fsPost, fsCond, fsGen, npick, nbin, nun, nconv, nnilCheck, noff, nidxArr, nidxSl, nfield, npart, nindex, nextract, nlenSl, nlenStr, ncap, mmx, minmax2, nslice, nsliceArr, nbounds, obound, bound, adv, nbits, eqVal, eqCell, eqCells, nfill, lenOfSl, cls, fresults, fresl, fres1, gt_iff_lt, ge_iff_le, reduceCtorEq, Nat.reduceAdd, Nat.reduceMul, Nat.reduceSub, Nat.reduceLT, Nat.reduceLeDiff, Nat.reduceEqDiff, Nat.reduceBEq, Nat.reduceBNe, Int.reduceLT, Int.reduceLE, Int.reduceEq, Int.reduceNe, Int.reduceAdd, Int.reduceSub, Int.reduceNeg, Int.reduceToNat, Int.reduceMul, ↓reduceIte, Int.reduceGT, Int.reduceGE]
    exact ⟨[], by simp⟩
  · rintro k F h hk ⟨f0, f1, f12, f13, f14, J, rfl⟩
    obtain ⟨b1, rfl, hb1, hc1⟩ := h1 k hk
    obtain ⟨b2, rfl, hb2, hc2⟩ := h2 k hk
    have hb1l := hget_some_lt hb1
    have hb2l := hget_some_lt hb2
    generalize l[k] = x at *
    simp (disch := first | omega | (simp only [List.length_append, List.length_cons, List.length_nil, length_hset, length_hkill]; omega)) only [↓fsPre, fsPost, fsCond, fsGen, npick, nbin, nun, nconv, nnilCheck, noff, nidxArr, nidxSl, nfield, npart, nindex, nextract, nlenSl, nlenStr, ncap, mmx, minmax2, nslice, nsliceArr, nbounds, obound, bound, adv, nbits, eqVal, eqCell, eqCells, nfill, lenOfSl, cls, fresults, fresl, fres1, gt_iff_lt, ge_iff_le, reduceCtorEq, Nat.reduceAdd, Nat.reduceMul, Nat.reduceSub, Nat.reduceLT, Nat.reduceLeDiff, Nat.reduceEqDiff, Nat.reduceBEq, Nat.reduceBNe, Int.reduceLT, Int.reduceLE, Int.reduceEq, Int.reduceNe, Int.reduceAdd, Int.reduceSub, Int.reduceNeg, Int.reduceToNat, Int.reduceMul, ↓reduceIte, Int.reduceGT, Int.reduceGE, f0, f1, f12, f13, f14, hb1, hb2, hc1, hc2, T4.cells]
    exact ⟨_, rfl⟩
  · rintro F h ⟨f0, f1, f12, f13, f14, J, rfl⟩
    simp (disch := first | omega | (simp only [List.length_append, List.length_cons, List.length_nil, length_hset, length_hkill]; omega)) only [↓fsPre, fsPost, fsCond, fsGen, npick, nbin, nun, nconv, nnilCheck, noff, nidxArr, nidxSl, nfield, npart, nindex, nextract, nlenSl, nlenStr, ncap, mmx, minmax2, nslice, nsliceArr, nbounds, obound, bound, adv, nbits, eqVal, eqCell, eqCells, nfill, lenOfSl, cls, fresults, fresl, fres1, gt_iff_lt, ge_iff_le, reduceCtorEq, Nat.reduceAdd, Nat.reduceMul, Nat.reduceSub, Nat.reduceLT, Nat.reduceLeDiff, Nat.reduceEqDiff, Nat.reduceBEq, Nat.reduceBNe, Int.reduceLT, Int.reduceLE, Int.reduceEq, Int.reduceNe, Int.reduceAdd, Int.reduceSub, Int.reduceNeg, Int.reduceToNat, Int.reduceMul, ↓reduceIte, Int.reduceGT, Int.reduceGE, f0, f1, f12, f13, f14]
    exact ⟨_, rfl⟩

def refsOf (t : TP) : List Rf := [⟨2, 0, 4, 0, 1, 0⟩] ++ ((if t.m3 then [⟨3, 2, 0, 0, 1, 0⟩, ⟨3, 0, 5, 0, 1, 0⟩] else []) ++ (if t.m4 then [⟨4, 1, 0, 0, 1, 0⟩, ⟨4, 0, 5, 0, 1, 0⟩, ⟨4, 1, 0, 0, 1, 0⟩] else []))
theorem refsOf_le (t : TP) : (refsOf t).length ≤ 10 := by
  unfold refsOf
  cases t.m3 <;> cases t.m4 <;> simp
theorem refsOf_ok (t : TP) (e : En) (h : EnOK t e) : ∀ r ∈ refsOf t, RfOK r e := by
  obtain ⟨j, hj, ht, hm, ha, hp⟩ := h
  have hk := keysOf_pos t j
  have k3 : t.m3 = true → (keysOf t 2).length = 3 := fun h => by unfold keysOf keys3; rw [h]; rfl
  have k4 : t.m4 = true → (keysOf t 3).length = 3 := fun h => by unfold keysOf keys4; rw [h]; rfl
  intro r hr
  have a4 : e.act = 4 → e.args.length = 1 := fun h => by rw [hp, h]; rfl
  have a5 : e.act = 5 → e.args.length = 2 := fun h => by rw [hp, h]; rfl
  have j2 : (3 : Int) = e.tab → e.ms.length = (keysOf t 2).length := fun h => by rw [hm, show j = 2 by omega]
  have j3 : (4 : Int) = e.tab → e.ms.length = (keysOf t 3).length := fun h => by rw [hm, show j = 3 by omega]
  unfold refsOf at hr
  simp only [List.mem_append, List.mem_singleton] at hr
  rcases hr with rfl | hr | hr
  · refine ⟨fun _ h => absurd h (by simp), fun _ _ h => ?_, ?_⟩
    · have := a4 h.symm
      simp only; omega
    · simp only; omega
  · by_cases h3 : t.m3 = true
    · rw [if_pos h3] at hr
      have := k3 h3
      simp only [List.mem_cons, List.not_mem_nil, or_false] at hr
      rcases hr with rfl | rfl
      · refine ⟨fun h _ => ?_, fun _ h => absurd rfl h, ?_⟩
        · have := j2 h
          simp only; omega
        · simp only; omega
      · refine ⟨fun _ h => absurd h (by simp), fun _ _ h => ?_, ?_⟩
        · have := a5 h.symm
          simp only; omega
        · simp only; omega
    · rw [if_neg h3] at hr; simp at hr
  · by_cases h4 : t.m4 = true
    · rw [if_pos h4] at hr
      have := k4 h4
      simp only [List.mem_cons, List.not_mem_nil, or_false] at hr
      rcases hr with rfl | rfl | rfl
      · refine ⟨fun h _ => ?_, fun _ h => absurd rfl h, ?_⟩
        · have := j3 h
          simp only; omega
        · simp only; omega
      · refine ⟨fun _ h => absurd h (by simp), fun _ _ h => ?_, ?_⟩
        · have := a5 h.symm
          simp only; omega
        · simp only; omega
      · refine ⟨fun h _ => ?_, fun _ h => absurd rfl h, ?_⟩
        · have := j3 h
          simp only; omega
        · simp only; omega
    · rw [if_neg h4] at hr; simp at hr

def refQ (H : Heap) (r : NV × Heap) : Prop := ∃ N t acs z0 z1 z2 z3 z4 z5 z6 z7 z8 z9, r.1 = .agg [z0, z1, z2, z3, z4, z5, z6, z7, z8, z9] ∧ ScV N r.2 t acs z0 z1 z2 z3 z4 z5 z6 z7 z8 z9 ∧ RfV r.2 (refsOf t) z0 z1 z2 z3 z4 z5 z6 z7 z8 z9 ∧ H.length ≤ r.2.length ∧ ∀ b, b < H.length → hget r.2 b = hget H b

set_option maxHeartbeats 4000000 in
theorem referring_ok (H : Heap) (v : NV) (xs : List Int) (hv : BytesArg H v xs) : DCall Try.prog 7 [v] H (refQ H) := by
  refine call_det E0 rfl mixed t7_ok (by kernel_rfl) (by rintro q ⟨_, _, _, _, _, _, _, _, _, _, _, _, _, _, _, _, h, _⟩; exact h) ?_
  simp only [t7]
  simp (disch := first | omega | (simp only [List.length_append, List.length_cons, List.length_nil, length_hset, length_hkill]; omega)) only [↓fsPre, fsPost, fsCond, fsGen, npick, nbin, nun, nconv, nnilCheck, noff, nidxArr, nidxSl, nfield, npart, nindex, nextract, nlenSl, nlenStr, ncap, mmx, minmax2, nslice, nsliceArr, nbounds, obound, bound, adv, nbits, eqVal, eqCell, eqCells, nfill, lenOfSl, cls, fresults, fresl, fres1, gt_iff_lt, ge_iff_le, reduceCtorEq, Nat.reduceAdd, Nat.reduceMul, Nat.reduceSub, Nat.reduceLT, Nat.reduceLeDiff, Nat.reduceEqDiff, Nat.reduceBEq, Nat.reduceBNe, Int.reduceLT, Int.reduceLE, Int.reduceEq, Int.reduceNe, Int.reduceAdd, Int.reduceSub, Int.reduceNeg, Int.reduceToNat, Int.reduceMul, ↓reduceIte, Int.reduceGT, Int.reduceGE]
  refine callT_D (codes_ok _ v xs 120 hv.app (by omega)) rfl ?_
  rintro v1 g1 ⟨sl, m, e, hs⟩
  cases e
  simp (disch := first | omega | (simp only [List.length_append, List.length_cons, List.length_nil, length_hset, length_hkill]; omega)) only [↓fsPre, fsPost, fsCond, fsGen, npick, nbin, nun, nconv, nnilCheck, noff, nidxArr, nidxSl, nfield, npart, nindex, nextract, nlenSl, nlenStr, ncap, mmx, minmax2, nslice, nsliceArr, nbounds, obound, bound, adv, nbits, eqVal, eqCell, eqCells, nfill, lenOfSl, cls, fresults, fresl, fres1, gt_iff_lt, ge_iff_le, reduceCtorEq, Nat.reduceAdd, Nat.reduceMul, Nat.reduceSub, Nat.reduceLT, Nat.reduceLeDiff, Nat.reduceEqDiff, Nat.reduceBEq, Nat.reduceBNe, Int.reduceLT, Int.reduceLE, Int.reduceEq, Int.reduceNe, Int.reduceAdd, Int.reduceSub, Int.reduceNeg, Int.reduceToNat, Int.reduceMul, ↓reduceIte, Int.reduceGT, Int.reduceGE]
  simp only [List.length_append, List.length_cons, List.length_nil] at hs
  refine callT_D (schema_ok _ (H.length + 1) m sl (CodesSt.refl (a := 0) (by simp (disch := first | omega | (simp only [List.length_append, List.length_cons, List.length_nil, length_hset, length_hkill]; omega)) only [↓fsPre, fsPost, fsCond, fsGen, npick, nbin, nun, nconv, nnilCheck, noff, nidxArr, nidxSl, nfield, npart, nindex, nextract, nlenSl, nlenStr, ncap, mmx, minmax2, nslice, nsliceArr, nbounds, obound, bound, adv, nbits, eqVal, eqCell, eqCells, nfill, lenOfSl, cls, fresults, fresl, fres1, gt_iff_lt, ge_iff_le, reduceCtorEq, Nat.reduceAdd, Nat.reduceMul, Nat.reduceSub, Nat.reduceLT, Nat.reduceLeDiff, Nat.reduceEqDiff, Nat.reduceBEq, Nat.reduceBNe, Int.reduceLT, Int.reduceLE, Int.reduceEq, Int.reduceNe, Int.reduceAdd, Int.reduceSub, Int.reduceNeg, Int.reduceToNat, Int.reduceMul, ↓reduceIte, Int.reduceGT, Int.reduceGE]) (by omega) (by omega) (by simpa using hs))) rfl ?_
  rintro v2 g2 hq
  obtain ⟨cs, row, t, x, y, z, w, mb, bud, sts, acs, rls, b6, rcs, rfl, hcs6, hb6, hrc, hrl, hap, hrep, ok, st⟩ := hq
  rw [ok.row] at hrep
  simp only [Tr.repCells, rep_ti] at hrep
  obtain ⟨z0, _, rfl, e0, z1, _, rfl, e1, z2, _, rfl, e2, z3, _, rfl, e3, z4, _, rfl, e4, z5, _, rfl, e5, z6, _, rfl, e6, z7, _, rfl, e7, _, _, rfl, rfl, _, _, rfl, rfl, rfl⟩ := hrep
  have st : CodesSt _ g2 (H.length + 1) m sl := st
  have hg2 := st.len
  simp only [List.length_append, List.length_cons, List.length_nil] at hg2
  have hold : ∀ b, b < H.length → hget g2 b = hget H b := fun b hb => by
    rw [st.old b (by simp; omega) (by omega), hget_appl (by simp; omega), hget_appl hb]
  have sc : ScV _ g2 t acs z0 z1 z2 z3 z4 z5 z6 z7 (.int .i64 mb) (.int .i64 bud) := ⟨e0, e3, e4, ok.actions, ok.tables, Tr.rep_one e1, Tr.rep_one e2, Tr.rep_one e5, Tr.rep_one e6, Tr.rep_one e7, rfl, rfl⟩
  have o0 := Tr.rep_one e0
  have o1 := Tr.rep_one e1
  have o2 := Tr.rep_one e2
  have o3 := Tr.rep_one e3
  have o4 := Tr.rep_one e4
  have o5 := Tr.rep_one e5
  have o6 := Tr.rep_one e6
  have o7 := Tr.rep_one e7
  have hall : t.rows.length = 4 := rfl
  have e4' := e4
  simp only [Tr.rep] at e4'
  rcases e4' with ⟨_, h⟩ | ⟨b4, c4, cs4, ro4, hz4, _, hb4, hrows4⟩
  · cases h
  have hb4l := hget_some_lt hb4
  have keyAt : ∀ j, j < 4 → ∃ kv, cs4[j * 8 + 2]? = some kv ∧ ∃ a c, kv = .slice a (keysOf t j).length c := by
    intro j hj
    obtain ⟨us, hu, hur⟩ := Tr.rep_row hrows4 (j := j) (by omega)
    obtain ⟨nm, d, da, sz, r, hr⟩ := tab_row t j (by omega)
    rw [hr] at hur
    simp only [Tr.repCells, rep_ti, rep_ts] at hur
    obtain ⟨_, _, rfl, rfl, _, _, rfl, rfl, kv, _, rfl, hkv, avv, _, rfl, hav, _, _, rfl, rfl, dv, _, rfl, hdv, _, _, rfl, rfl, _, _, rfl, rfl, rfl⟩ := hur
    exact ⟨kv, (cut_get hu (i := 2) (by omega)).trans rfl, Tr.rep_len hkv⟩
  obtain ⟨k3, hk3, a3, c3, rfl⟩ := keyAt 2 (by omega)
  obtain ⟨k4, hk4, a4, c4', rfl⟩ := keyAt 3 (by omega)
  have hk3' : cs4[18]? = _ := hk3
  have hk4' : cs4[26]? = _ := hk4
  subst hz4
  rw [hall] at sc
  have fin : ∀ (X : NBlk) (L : Heap) (b : Nat) (c : Cap) (ro : Bool), hget (hset g2 H.length X ++ L) b = some (.cells (rfC (refsOf t)) ro) →
      refQ H (.agg [z0, z1, z2, z3, .slice (some (b4, 0)) 4 c4, z5, z6, .slice (some (b, 0)) (refsOf t).length c, .int .i64 mb, .int .i64 bud], hset g2 H.length X ++ L) := by
    intro X L b c ro h1
    have sc2 := (sc.ext (Ext.set (x := X) (p := H.length) (by simp only [List.length_append, List.length_cons, List.length_nil]; omega))).ext (Ext.app (L := L))
    obtain ⟨q1, q2, q5, q6, q7, q8, q9⟩ := sc2.o
    exact ⟨_, t, acs, _, _, _, _, _, _, _, _, _, _, rfl, ⟨sc2.rf, sc2.ra, sc2.rt, sc2.ao, sc2.to, q1, q2, q5, q6, rfl, q8, q9⟩, ⟨⟨o0, o1, o2, o3, rfl, o5, o6, rfl, rfl⟩, b, c, _, ro, rfl, h1, fun k hk => rf_cut _ k hk⟩, by show H.length ≤ (hset g2 H.length X ++ L).length; simp only [List.length_append, length_hset]; omega, fun q hq => by rw [hget_appl (by rw [length_hset]; omega), hget_hset_ne (by omega)]; exact hold q hq⟩
  have hb0 : hget g2 H.length = some (.cells [.slice none 0 (.fix 0), .slice none 0 (.fix 0), .slice none 0 (.fix 0), .slice none 0 (.fix 0), .slice none 0 (.fix 0), .slice none 0 (.fix 0), .slice none 0 (.fix 0), .slice none 0 (.fix 0), .int .i64 0, .int .i64 0] false) := by
    rw [st.old _ (by simp only [List.length_append, List.length_cons, List.length_nil]; omega) (by omega)]; simp (disch := first | omega | (simp only [List.length_append, List.length_cons, List.length_nil, length_hset, length_hkill]; omega)) only [↓fsPre, fsPost, fsCond, fsGen, npick, nbin, nun, nconv, nnilCheck, noff, nidxArr, nidxSl, nfield, npart, nindex, nextract, nlenSl, nlenStr, ncap, mmx, minmax2, nslice, nsliceArr, nbounds, obound, bound, adv, nbits, eqVal, eqCell, eqCells, nfill, lenOfSl, cls, fresults, fresl, fres1, gt_iff_lt, ge_iff_le, reduceCtorEq, Nat.reduceAdd, Nat.reduceMul, Nat.reduceSub, Nat.reduceLT, Nat.reduceLeDiff, Nat.reduceEqDiff, Nat.reduceBEq, Nat.reduceBNe, Int.reduceLT, Int.reduceLE, Int.reduceEq, Int.reduceNe, Int.reduceAdd, Int.reduceSub, Int.reduceNeg, Int.reduceToNat, Int.reduceMul, ↓reduceIte, Int.reduceGT, Int.reduceGE]
  have hb0l := hget_some_lt hb0
  cases h3 : t.m3 with
  | false =>
    have n3 : (keysOf t 2).length = 2 := by unfold keysOf keys3; rw [h3]; rfl
    cases h4 : t.m4 with
    | false =>
      have n4 : (keysOf t 3).length = 1 := by unfold keysOf keys4; rw [h4]; rfl
      have hR : refsOf t = [⟨2, 0, 4, 0, 1, 0⟩] := by unfold refsOf; rw [h3, h4]; rfl
      rw [hR] at fin
      simp (disch := first | omega | (simp only [List.length_append, List.length_cons, List.length_nil, length_hset, length_hkill]; omega)) only [↓fsPre, fsPost, fsCond, fsGen, npick, nbin, nun, nconv, nnilCheck, noff, nidxArr, nidxSl, nfield, npart, nindex, nextract, nlenSl, nlenStr, ncap, mmx, minmax2, nslice, nsliceArr, nbounds, obound, bound, adv, nbits, eqVal, eqCell, eqCells, nfill, lenOfSl, cls, fresults, fresl, fres1, gt_iff_lt, ge_iff_le, reduceCtorEq, Nat.reduceAdd, Nat.reduceMul, Nat.reduceSub, Nat.reduceLT, Nat.reduceLeDiff, Nat.reduceEqDiff, Nat.reduceBEq, Nat.reduceBNe, Int.reduceLT, Int.reduceLE, Int.reduceEq, Int.reduceNe, Int.reduceAdd, Int.reduceSub, Int.reduceNeg, Int.reduceToNat, Int.reduceMul, ↓reduceIte, Int.reduceGT, Int.reduceGE, o0, o1, o2, o3, o5, o6, o7, hb4, hk3', hk4', n3, n4, hb0, hall, hb0l]
      exact fin _ _ _ _ false (by simp (disch := first | omega | (simp only [List.length_append, List.length_cons, List.length_nil, length_hset, length_hkill]; omega)) only [↓fsPre, fsPost, fsCond, fsGen, npick, nbin, nun, nconv, nnilCheck, noff, nidxArr, nidxSl, nfield, npart, nindex, nextract, nlenSl, nlenStr, ncap, mmx, minmax2, nslice, nsliceArr, nbounds, obound, bound, adv, nbits, eqVal, eqCell, eqCells, nfill, lenOfSl, cls, fresults, fresl, fres1, gt_iff_lt, ge_iff_le, reduceCtorEq, Nat.reduceAdd, Nat.reduceMul, Nat.reduceSub, Nat.reduceLT, Nat.reduceLeDiff, Nat.reduceEqDiff, Nat.reduceBEq, Nat.reduceBNe, Int.reduceLT, Int.reduceLE, Int.reduceEq, Int.reduceNe, Int.reduceAdd, Int.reduceSub, Int.reduceNeg, Int.reduceToNat, Int.reduceMul, ↓reduceIte, Int.reduceGT, Int.reduceGE] <;> rfl)
    | true =>
      have n4 : (keysOf t 3).length = 3 := by unfold keysOf keys4; rw [h4]; rfl
      have hR : refsOf t = [⟨2, 0, 4, 0, 1, 0⟩, ⟨4, 1, 0, 0, 1, 0⟩, ⟨4, 0, 5, 0, 1, 0⟩, ⟨4, 1, 0, 0, 1, 0⟩] := by unfold refsOf; rw [h3, h4]; rfl
      rw [hR] at fin
      simp (disch := first | omega | (simp only [List.length_append, List.length_cons, List.length_nil, length_hset, length_hkill]; omega)) only [↓fsPre, fsPost, fsCond, fsGen, npick, nbin, nun, nconv, nnilCheck, noff, nidxArr, nidxSl, nfield, npart, nindex, nextract, nlenSl, nlenStr, ncap, mmx, minmax2, nslice, nsliceArr, nbounds, obound, bound, adv, nbits, eqVal, eqCell, eqCells, nfill, lenOfSl, cls, fresults, fresl, fres1, gt_iff_lt, ge_iff_le, reduceCtorEq, Nat.reduceAdd, Nat.reduceMul, Nat.reduceSub, Nat.reduceLT, Nat.reduceLeDiff, Nat.reduceEqDiff, Nat.reduceBEq, Nat.reduceBNe, Int.reduceLT, Int.reduceLE, Int.reduceEq, Int.reduceNe, Int.reduceAdd, Int.reduceSub, Int.reduceNeg, Int.reduceToNat, Int.reduceMul, ↓reduceIte, Int.reduceGT, Int.reduceGE, o0, o1, o2, o3, o5, o6, o7, hb4, hk3', hk4', n3, n4, hb0, hall, hb0l]
      refine app_fix (new := [.int .i64 4, .int .i64 1, .int .i64 0, .int .i64 0, .int .i64 1, .int .i64 0, .int .i64 4, .int .i64 0, .int .i64 5, .int .i64 0, .int .i64 1, .int .i64 0, .int .i64 4, .int .i64 1, .int .i64 0, .int .i64 0, .int .i64 1, .int .i64 0]) (old := [.int .i64 2, .int .i64 0, .int .i64 4, .int .i64 0, .int .i64 1, .int .i64 0]) (sliceCells_at (by simp (disch := first | omega | (simp only [List.length_append, List.length_cons, List.length_nil, length_hset, length_hkill]; omega)) only [↓fsPre, fsPost, fsCond, fsGen, npick, nbin, nun, nconv, nnilCheck, noff, nidxArr, nidxSl, nfield, npart, nindex, nextract, nlenSl, nlenStr, ncap, mmx, minmax2, nslice, nsliceArr, nbounds, obound, bound, adv, nbits, eqVal, eqCell, eqCells, nfill, lenOfSl, cls, fresults, fresl, fres1, gt_iff_lt, ge_iff_le, reduceCtorEq, Nat.reduceAdd, Nat.reduceMul, Nat.reduceSub, Nat.reduceLT, Nat.reduceLeDiff, Nat.reduceEqDiff, Nat.reduceBEq, Nat.reduceBNe, Int.reduceLT, Int.reduceLE, Int.reduceEq, Int.reduceNe, Int.reduceAdd, Int.reduceSub, Int.reduceNeg, Int.reduceToNat, Int.reduceMul, ↓reduceIte, Int.reduceGT, Int.reduceGE] <;> rfl) rfl) rfl (by omega) ⟨by omega, by omega⟩ (sliceCells_at (by simp (disch := first | omega | (simp only [List.length_append, List.length_cons, List.length_nil, length_hset, length_hkill]; omega)) only [↓fsPre, fsPost, fsCond, fsGen, npick, nbin, nun, nconv, nnilCheck, noff, nidxArr, nidxSl, nfield, npart, nindex, nextract, nlenSl, nlenStr, ncap, mmx, minmax2, nslice, nsliceArr, nbounds, obound, bound, adv, nbits, eqVal, eqCell, eqCells, nfill, lenOfSl, cls, fresults, fresl, fres1, gt_iff_lt, ge_iff_le, reduceCtorEq, Nat.reduceAdd, Nat.reduceMul, Nat.reduceSub, Nat.reduceLT, Nat.reduceLeDiff, Nat.reduceEqDiff, Nat.reduceBEq, Nat.reduceBNe, Int.reduceLT, Int.reduceLE, Int.reduceEq, Int.reduceNe, Int.reduceAdd, Int.reduceSub, Int.reduceNeg, Int.reduceToNat, Int.reduceMul, ↓reduceIte, Int.reduceGT, Int.reduceGE] <;> rfl) rfl) ?_
      simp (disch := first | omega | (simp only [List.length_append, List.length_cons, List.length_nil, length_hset, length_hkill]; omega)) only [↓fsPre, fsPost, fsCond, fsGen, npick, nbin, nun, nconv, nnilCheck, noff, nidxArr, nidxSl, nfield, npart, nindex, nextract, nlenSl, nlenStr, ncap, mmx, minmax2, nslice, nsliceArr, nbounds, obound, bound, adv, nbits, eqVal, eqCell, eqCells, nfill, lenOfSl, cls, fresults, fresl, fres1, gt_iff_lt, ge_iff_le, reduceCtorEq, Nat.reduceAdd, Nat.reduceMul, Nat.reduceSub, Nat.reduceLT, Nat.reduceLeDiff, Nat.reduceEqDiff, Nat.reduceBEq, Nat.reduceBNe, Int.reduceLT, Int.reduceLE, Int.reduceEq, Int.reduceNe, Int.reduceAdd, Int.reduceSub, Int.reduceNeg, Int.reduceToNat, Int.reduceMul, ↓reduceIte, Int.reduceGT, Int.reduceGE, o0, o1, o2, o3, o5, o6, o7, hb4, hk3', hk4', n3, n4, hb0, hall, hb0l]
      exact fin _ _ _ _ false (by simp (disch := first | omega | (simp only [List.length_append, List.length_cons, List.length_nil, length_hset, length_hkill]; omega)) only [↓fsPre, fsPost, fsCond, fsGen, npick, nbin, nun, nconv, nnilCheck, noff, nidxArr, nidxSl, nfield, npart, nindex, nextract, nlenSl, nlenStr, ncap, mmx, minmax2, nslice, nsliceArr, nbounds, obound, bound, adv, nbits, eqVal, eqCell, eqCells, nfill, lenOfSl, cls, fresults, fresl, fres1, gt_iff_lt, ge_iff_le, reduceCtorEq, Nat.reduceAdd, Nat.reduceMul, Nat.reduceSub, Nat.reduceLT, Nat.reduceLeDiff, Nat.reduceEqDiff, Nat.reduceBEq, Nat.reduceBNe, Int.reduceLT, Int.reduceLE, Int.reduceEq, Int.reduceNe, Int.reduceAdd, Int.reduceSub, Int.reduceNeg, Int.reduceToNat, Int.reduceMul, ↓reduceIte, Int.reduceGT, Int.reduceGE] <;> rfl)
  | true =>
    have n3 : (keysOf t 2).length = 3 := by unfold keysOf keys3; rw [h3]; rfl
    cases h4 : t.m4 with
    | false =>
      have n4 : (keysOf t 3).length = 1 := by unfold keysOf keys4; rw [h4]; rfl
      have hR : refsOf t = [⟨2, 0, 4, 0, 1, 0⟩, ⟨3, 2, 0, 0, 1, 0⟩, ⟨3, 0, 5, 0, 1, 0⟩] := by unfold refsOf; rw [h3, h4]; rfl
      rw [hR] at fin
      simp (disch := first | omega | (simp only [List.length_append, List.length_cons, List.length_nil, length_hset, length_hkill]; omega)) only [↓fsPre, fsPost, fsCond, fsGen, npick, nbin, nun, nconv, nnilCheck, noff, nidxArr, nidxSl, nfield, npart, nindex, nextract, nlenSl, nlenStr, ncap, mmx, minmax2, nslice, nsliceArr, nbounds, obound, bound, adv, nbits, eqVal, eqCell, eqCells, nfill, lenOfSl, cls, fresults, fresl, fres1, gt_iff_lt, ge_iff_le, reduceCtorEq, Nat.reduceAdd, Nat.reduceMul, Nat.reduceSub, Nat.reduceLT, Nat.reduceLeDiff, Nat.reduceEqDiff, Nat.reduceBEq, Nat.reduceBNe, Int.reduceLT, Int.reduceLE, Int.reduceEq, Int.reduceNe, Int.reduceAdd, Int.reduceSub, Int.reduceNeg, Int.reduceToNat, Int.reduceMul, ↓reduceIte, Int.reduceGT, Int.reduceGE, o0, o1, o2, o3, o5, o6, o7, hb4, hk3', hk4', n3, n4, hb0, hall, hb0l]
      refine app_fix (new := [.int .i64 3, .int .i64 2, .int .i64 0, .int .i64 0, .int .i64 1, .int .i64 0, .int .i64 3, .int .i64 0, .int .i64 5, .int .i64 0, .int .i64 1, .int .i64 0]) (old := [.int .i64 2, .int .i64 0, .int .i64 4, .int .i64 0, .int .i64 1, .int .i64 0]) (sliceCells_at (by simp (disch := first | omega | (simp only [List.length_append, List.length_cons, List.length_nil, length_hset, length_hkill]; omega)) only [↓fsPre, fsPost, fsCond, fsGen, npick, nbin, nun, nconv, nnilCheck, noff, nidxArr, nidxSl, nfield, npart, nindex, nextract, nlenSl, nlenStr, ncap, mmx, minmax2, nslice, nsliceArr, nbounds, obound, bound, adv, nbits, eqVal, eqCell, eqCells, nfill, lenOfSl, cls, fresults, fresl, fres1, gt_iff_lt, ge_iff_le, reduceCtorEq, Nat.reduceAdd, Nat.reduceMul, Nat.reduceSub, Nat.reduceLT, Nat.reduceLeDiff, Nat.reduceEqDiff, Nat.reduceBEq, Nat.reduceBNe, Int.reduceLT, Int.reduceLE, Int.reduceEq, Int.reduceNe, Int.reduceAdd, Int.reduceSub, Int.reduceNeg, Int.reduceToNat, Int.reduceMul, ↓reduceIte, Int.reduceGT, Int.reduceGE] <;> rfl) rfl) rfl (by omega) ⟨by omega, by omega⟩ (sliceCells_at (by simp (disch := first | omega | (simp only [List.length_append, List.length_cons, List.length_nil, length_hset, length_hkill]; omega)) only [↓fsPre, fsPost, fsCond, fsGen, npick, nbin, nun, nconv, nnilCheck, noff, nidxArr, nidxSl, nfield, npart, nindex, nextract, nlenSl, nlenStr, ncap, mmx, minmax2, nslice, nsliceArr, nbounds, obound, bound, adv, nbits, eqVal, eqCell, eqCells, nfill, lenOfSl, cls, fresults, fresl, fres1, gt_iff_lt, ge_iff_le, reduceCtorEq, Nat.reduceAdd, Nat.reduceMul, Nat.reduceSub, Nat.reduceLT, Nat.reduceLeDiff, Nat.reduceEqDiff, Nat.reduceBEq, Nat.reduceBNe, Int.reduceLT, Int.reduceLE, Int.reduceEq, Int.reduceNe, Int.reduceAdd, Int.reduceSub, Int.reduceNeg, Int.reduceToNat, Int.reduceMul, ↓reduceIte, Int.reduceGT, Int.reduceGE] <;> rfl) rfl) ?_
      simp (disch := first | omega | (simp only [List.length_append, List.length_cons, List.length_nil, length_hset, length_hkill]; omega)) only [↓fsPre, fsPost, fsCond, fsGen, npick, nbin, nun, nconv, nnilCheck, noff, nidxArr, nidxSl, nfield, npart, nindex, nextract, nlenSl, nlenStr, ncap, mmx, minmax2, nslice, nsliceArr, nbounds, obound, bound, adv, nbits, eqVal, eqCell, eqCells, nfill, lenOfSl, cls, fresults, fresl, fres1, gt_iff_lt, ge_iff_le, reduceCtorEq, Nat.reduceAdd, Nat.reduceMul, Nat.reduceSub, Nat.reduceLT, Nat.reduceLeDiff, Nat.reduceEqDiff, Nat.reduceBEq, Nat.reduceBNe, Int.reduceLT, Int.reduceLE, Int.reduceEq, Int.reduceNe, Int.reduceAdd, Int.reduceSub, Int.reduceNeg, Int.reduceToNat, Int.reduceMul, ↓reduceIte, Int.reduceGT, Int.reduceGE, o0, o1, o2, o3, o5, o6, o7, hb4, hk3', hk4', n3, n4, hb0, hall, hb0l]
      exact fin _ _ _ _ false (by simp (disch := first | omega | (simp only [List.length_append, List.length_cons, List.length_nil, length_hset, length_hkill]; omega)) only [↓fsPre, fsPost, fsCond, fsGen, npick, nbin, nun, nconv, nnilCheck, noff, nidxArr, nidxSl, nfield, npart, nindex, nextract, nlenSl, nlenStr, ncap, mmx, minmax2, nslice, nsliceArr, nbounds, obound, bound, adv, nbits, eqVal, eqCell, eqCells, nfill, lenOfSl, cls, fresults, fresl, fres1, gt_iff_lt, ge_iff_le, reduceCtorEq, Nat.reduceAdd, Nat.reduceMul, Nat.reduceSub, Nat.reduceLT, Nat.reduceLeDiff, Nat.reduceEqDiff, Nat.reduceBEq, Nat.reduceBNe, Int.reduceLT, Int.reduceLE, Int.reduceEq, Int.reduceNe, Int.reduceAdd, Int.reduceSub, Int.reduceNeg, Int.reduceToNat, Int.reduceMul, ↓reduceIte, Int.reduceGT, Int.reduceGE] <;> rfl)
    | true =>
      have n4 : (keysOf t 3).length = 3 := by unfold keysOf keys4; rw [h4]; rfl
      have hR : refsOf t = [⟨2, 0, 4, 0, 1, 0⟩, ⟨3, 2, 0, 0, 1, 0⟩, ⟨3, 0, 5, 0, 1, 0⟩, ⟨4, 1, 0, 0, 1, 0⟩, ⟨4, 0, 5, 0, 1, 0⟩, ⟨4, 1, 0, 0, 1, 0⟩] := by unfold refsOf; rw [h3, h4]; rfl
      rw [hR] at fin
      simp (disch := first | omega | (simp only [List.length_append, List.length_cons, List.length_nil, length_hset, length_hkill]; omega)) only [↓fsPre, fsPost, fsCond, fsGen, npick, nbin, nun, nconv, nnilCheck, noff, nidxArr, nidxSl, nfield, npart, nindex, nextract, nlenSl, nlenStr, ncap, mmx, minmax2, nslice, nsliceArr, nbounds, obound, bound, adv, nbits, eqVal, eqCell, eqCells, nfill, lenOfSl, cls, fresults, fresl, fres1, gt_iff_lt, ge_iff_le, reduceCtorEq, Nat.reduceAdd, Nat.reduceMul, Nat.reduceSub, Nat.reduceLT, Nat.reduceLeDiff, Nat.reduceEqDiff, Nat.reduceBEq, Nat.reduceBNe, Int.reduceLT, Int.reduceLE, Int.reduceEq, Int.reduceNe, Int.reduceAdd, Int.reduceSub, Int.reduceNeg, Int.reduceToNat, Int.reduceMul, ↓reduceIte, Int.reduceGT, Int.reduceGE, o0, o1, o2, o3, o5, o6, o7, hb4, hk3', hk4', n3, n4, hb0, hall, hb0l]
      refine app_fix (new := [.int .i64 3, .int .i64 2, .int .i64 0, .int .i64 0, .int .i64 1, .int .i64 0, .int .i64 3, .int .i64 0, .int .i64 5, .int .i64 0, .int .i64 1, .int .i64 0]) (old := [.int .i64 2, .int .i64 0, .int .i64 4, .int .i64 0, .int .i64 1, .int .i64 0]) (sliceCells_at (by simp (disch := first | omega | (simp only [List.length_append, List.length_cons, List.length_nil, length_hset, length_hkill]; omega)) only [↓fsPre, fsPost, fsCond, fsGen, npick, nbin, nun, nconv, nnilCheck, noff, nidxArr, nidxSl, nfield, npart, nindex, nextract, nlenSl, nlenStr, ncap, mmx, minmax2, nslice, nsliceArr, nbounds, obound, bound, adv, nbits, eqVal, eqCell, eqCells, nfill, lenOfSl, cls, fresults, fresl, fres1, gt_iff_lt, ge_iff_le, reduceCtorEq, Nat.reduceAdd, Nat.reduceMul, Nat.reduceSub, Nat.reduceLT, Nat.reduceLeDiff, Nat.reduceEqDiff, Nat.reduceBEq, Nat.reduceBNe, Int.reduceLT, Int.reduceLE, Int.reduceEq, Int.reduceNe, Int.reduceAdd, Int.reduceSub, Int.reduceNeg, Int.reduceToNat, Int.reduceMul, ↓reduceIte, Int.reduceGT, Int.reduceGE] <;> rfl) rfl) rfl (by omega) ⟨by omega, by omega⟩ (sliceCells_at (by simp (disch := first | omega | (simp only [List.length_append, List.length_cons, List.length_nil, length_hset, length_hkill]; omega)) only [↓fsPre, fsPost, fsCond, fsGen, npick, nbin, nun, nconv, nnilCheck, noff, nidxArr, nidxSl, nfield, npart, nindex, nextract, nlenSl, nlenStr, ncap, mmx, minmax2, nslice, nsliceArr, nbounds, obound, bound, adv, nbits, eqVal, eqCell, eqCells, nfill, lenOfSl, cls, fresults, fresl, fres1, gt_iff_lt, ge_iff_le, reduceCtorEq, Nat.reduceAdd, Nat.reduceMul, Nat.reduceSub, Nat.reduceLT, Nat.reduceLeDiff, Nat.reduceEqDiff, Nat.reduceBEq, Nat.reduceBNe, Int.reduceLT, Int.reduceLE, Int.reduceEq, Int.reduceNe, Int.reduceAdd, Int.reduceSub, Int.reduceNeg, Int.reduceToNat, Int.reduceMul, ↓reduceIte, Int.reduceGT, Int.reduceGE] <;> rfl) rfl) ?_
      simp (disch := first | omega | (simp only [List.length_append, List.length_cons, List.length_nil, length_hset, length_hkill]; omega)) only [↓fsPre, fsPost, fsCond, fsGen, npick, nbin, nun, nconv, nnilCheck, noff, nidxArr, nidxSl, nfield, npart, nindex, nextract, nlenSl, nlenStr, ncap, mmx, minmax2, nslice, nsliceArr, nbounds, obound, bound, adv, nbits, eqVal, eqCell, eqCells, nfill, lenOfSl, cls, fresults, fresl, fres1, gt_iff_lt, ge_iff_le, reduceCtorEq, Nat.reduceAdd, Nat.reduceMul, Nat.reduceSub, Nat.reduceLT, Nat.reduceLeDiff, Nat.reduceEqDiff, Nat.reduceBEq, Nat.reduceBNe, Int.reduceLT, Int.reduceLE, Int.reduceEq, Int.reduceNe, Int.reduceAdd, Int.reduceSub, Int.reduceNeg, Int.reduceToNat, Int.reduceMul, ↓reduceIte, Int.reduceGT, Int.reduceGE, o0, o1, o2, o3, o5, o6, o7, hb4, hk3', hk4', n3, n4, hb0, hall, hb0l]
      refine app_grow (new := [.int .i64 4, .int .i64 1, .int .i64 0, .int .i64 0, .int .i64 1, .int .i64 0, .int .i64 4, .int .i64 0, .int .i64 5, .int .i64 0, .int .i64 1, .int .i64 0, .int .i64 4, .int .i64 1, .int .i64 0, .int .i64 0, .int .i64 1, .int .i64 0]) (cs := [.int .i64 2, .int .i64 0, .int .i64 4, .int .i64 0, .int .i64 1, .int .i64 0] ++ [.int .i64 3, .int .i64 2, .int .i64 0, .int .i64 0, .int .i64 1, .int .i64 0, .int .i64 3, .int .i64 0, .int .i64 5, .int .i64 0, .int .i64 1, .int .i64 0]) (sliceCells_at (by simp (disch := first | omega | (simp only [List.length_append, List.length_cons, List.length_nil, length_hset, length_hkill]; omega)) only [↓fsPre, fsPost, fsCond, fsGen, npick, nbin, nun, nconv, nnilCheck, noff, nidxArr, nidxSl, nfield, npart, nindex, nextract, nlenSl, nlenStr, ncap, mmx, minmax2, nslice, nsliceArr, nbounds, obound, bound, adv, nbits, eqVal, eqCell, eqCells, nfill, lenOfSl, cls, fresults, fresl, fres1, gt_iff_lt, ge_iff_le, reduceCtorEq, Nat.reduceAdd, Nat.reduceMul, Nat.reduceSub, Nat.reduceLT, Nat.reduceLeDiff, Nat.reduceEqDiff, Nat.reduceBEq, Nat.reduceBNe, Int.reduceLT, Int.reduceLE, Int.reduceEq, Int.reduceNe, Int.reduceAdd, Int.reduceSub, Int.reduceNeg, Int.reduceToNat, Int.reduceMul, ↓reduceIte, Int.reduceGT, Int.reduceGE] <;> rfl) rfl) rfl (by simp (disch := first | omega | (simp only [List.length_append, List.length_cons, List.length_nil, length_hset, length_hkill]; omega)) only [↓fsPre, fsPost, fsCond, fsGen, npick, nbin, nun, nconv, nnilCheck, noff, nidxArr, nidxSl, nfield, npart, nindex, nextract, nlenSl, nlenStr, ncap, mmx, minmax2, nslice, nsliceArr, nbounds, obound, bound, adv, nbits, eqVal, eqCell, eqCells, nfill, lenOfSl, cls, fresults, fresl, fres1, gt_iff_lt, ge_iff_le, reduceCtorEq, Nat.reduceAdd, Nat.reduceMul, Nat.reduceSub, Nat.reduceLT, Nat.reduceLeDiff, Nat.reduceEqDiff, Nat.reduceBEq, Nat.reduceBNe, Int.reduceLT, Int.reduceLE, Int.reduceEq, Int.reduceNe, Int.reduceAdd, Int.reduceSub, Int.reduceNeg, Int.reduceToNat, Int.reduceMul, ↓reduceIte, Int.reduceGT, Int.reduceGE]) (by simp) (by simp) (by simp) ⟨by omega, by omega⟩ ?_
      simp (disch := first | omega | (simp only [List.length_append, List.length_cons, List.length_nil, length_hset, length_hkill]; omega)) only [↓fsPre, fsPost, fsCond, fsGen, npick, nbin, nun, nconv, nnilCheck, noff, nidxArr, nidxSl, nfield, npart, nindex, nextract, nlenSl, nlenStr, ncap, mmx, minmax2, nslice, nsliceArr, nbounds, obound, bound, adv, nbits, eqVal, eqCell, eqCells, nfill, lenOfSl, cls, fresults, fresl, fres1, gt_iff_lt, ge_iff_le, reduceCtorEq, Nat.reduceAdd, Nat.reduceMul, Nat.reduceSub, Nat.reduceLT, Nat.reduceLeDiff, Nat.reduceEqDiff, Nat.reduceBEq, Nat.reduceBNe, Int.reduceLT, Int.reduceLE, Int.reduceEq, Int.reduceNe, Int.reduceAdd, Int.reduceSub, Int.reduceNeg, Int.reduceToNat, Int.reduceMul, ↓reduceIte, Int.reduceGT, Int.reduceGE, o0, o1, o2, o3, o5, o6, o7, hb4, hk3', hk4', n3, n4, hb0, hall, hb0l]
      exact fin _ _ _ _ false (by simp (disch := first | omega | (simp only [List.length_append, List.length_cons, List.length_nil, length_hset, length_hkill]; omega)) only [↓fsPre, fsPost, fsCond, fsGen, npick, nbin, nun, nconv, nnilCheck, noff, nidxArr, nidxSl, nfield, npart, nindex, nextract, nlenSl, nlenStr, ncap, mmx, minmax2, nslice, nsliceArr, nbounds, obound, bound, adv, nbits, eqVal, eqCell, eqCells, nfill, lenOfSl, cls, fresults, fresl, fres1, gt_iff_lt, ge_iff_le, reduceCtorEq, Nat.reduceAdd, Nat.reduceMul, Nat.reduceSub, Nat.reduceLT, Nat.reduceLeDiff, Nat.reduceEqDiff, Nat.reduceBEq, Nat.reduceBNe, Int.reduceLT, Int.reduceLE, Int.reduceEq, Int.reduceNe, Int.reduceAdd, Int.reduceSub, Int.reduceNeg, Int.reduceToNat, Int.reduceMul, ↓reduceIte, Int.reduceGT, Int.reduceGE] <;> rfl)
end Go.Proofs
