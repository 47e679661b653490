/- Exact: ExactCalls. -/
import Derived.Test.YtfeanpgfjakbbaaECXi
set_option linter.unusedSimpArgs false
set_option linter.unusedVariables false
set_option maxRecDepth 100000
namespace Go.Proofs
open Go.Ns

theorem fwp_partJ {S : Env} {a : NCode} {K : FK} {F : FF} {h : Heap} (J : FF → Heap → Prop) (h1 : fwpT S a (joinK J) F h .mk) (h2 : ∀ F h, J F h → K .nrm F h) : fwpT S a K F h .mk := by
  refine fwp_mono a h1 ?_
  intro c F h hc
  cases c with
  | nrm => exact h2 F h hc
  | exit i => exact hc.elim
  | ret => exact hc.elim
theorem GrE.mono2 {h h' : Heap} {m : Nat} {C : List NV} {v : NV} (g : GrE h C v) (hm : ∃ es cl, hget h m = some (.map es cl)) (e : ∀ b, b < h.length → b ≠ m → hget h' b = hget h b) : GrE h' C v := by
  rcases g with g | ⟨b, k, h1, h2, h3⟩
  · exact .inl g
  · refine .inr ⟨b, k, h1, ?_, h3⟩
    rw [e b (hget_lt h2) ?_]
    · exact h2
    · rintro rfl
      obtain ⟨es, cl, hm⟩ := hm
      rw [hm] at h2
      cases h2
theorem IxAt.map {H : Heap} {p m : Nat} {M : List (Pt × Int)} (x : IxAt H p m M) : ∃ es cl, hget H m = some (.map es cl) := by
  obtain ⟨es, cl, h1, _⟩ := x.hm
  exact ⟨es, cl, h1⟩
theorem keys_unique {M : List (Pt × Int)} (hn : (M.map (·.1)).Nodup) {k : Pt} {a b : Int} (ha : (k, a) ∈ M) (hb : (k, b) ∈ M) : a = b := by
  induction M with
  | nil => cases ha
  | cons x M ih =>
    simp only [List.map_cons, List.nodup_cons] at hn
    rcases List.mem_cons.1 ha with rfl | ha'
    · rcases List.mem_cons.1 hb with h | hb'
      · exact (Prod.mk.inj h).2.symm
      · exact absurd (List.mem_map_of_mem hb') hn.1
    · rcases List.mem_cons.1 hb with rfl | hb'
      · exact absurd (List.mem_map_of_mem ha') hn.1
      · exact ih hn.2 ha' hb'
theorem there_perm {L M : List (Pt × Int)} (hs : SortedP L) (hp : L.Perm M) (k : Pt) : thereP L k = true ↔ k ∈ M.map (·.1) := by
  rw [thereP_iff hs, (hp.map _).mem_iff]
theorem there_at {L : List (Pt × Int)} {k : Pt} (ht : thereP L k = true) : ∃ v, L[placeP L k]? = some (k, v) := by
  have hlt := thereP_lt ht
  unfold thereP at ht
  rw [List.getElem?_eq_getElem hlt] at ht ⊢
  simp only [decide_eq_true_eq] at ht
  exact ⟨L[placeP L k].2, congrArg some (Prod.ext ht rfl)⟩
/-- Both sides look up the same. -/
theorem get_same {L M : List (Pt × Int)} (hs : SortedP L) (hp : L.Perm M) (k : Pt) : getL M k = ((if thereP L k = true then (L[placeP L k]?.map (·.2)).getD 0 else 0), thereP L k) := by
  have hn : (M.map (·.1)).Nodup := (hp.map _).nodup_iff.1 hs.nodup
  unfold getL
  cases hf : findL M k 0 with
  | none =>
    have h1 : ¬ thereP L k = true := fun h => findL_none.1 hf ((there_perm hs hp k).1 h)
    rw [if_neg h1]
    simp only [Bool.not_eq_true] at h1
    rw [h1]
  | some w =>
    obtain ⟨i, v⟩ := w
    obtain ⟨_, hi, hM⟩ := findL_some hf
    have hmem : (k, v) ∈ M := by rw [← hM]; exact List.getElem_mem _
    have ht : thereP L k = true := (there_perm hs hp k).2 (List.mem_map_of_mem (f := (·.1)) hmem)
    obtain ⟨u, hu⟩ := there_at ht
    have hmem2 : (k, u) ∈ M := hp.mem_iff.1 (List.mem_of_getElem? hu)
    have := keys_unique hn hmem hmem2
    subst this
    rw [ht, if_pos rfl, hu]
    rfl
theorem perm_cons_erase {α : Type} {l : List α} {j : Nat} {x : α} (h : l[j]? = some x) : (x :: l.eraseIdx j).Perm l := by
  obtain ⟨hj, rfl⟩ := List.getElem?_eq_some_iff.1 h
  exact erase_perm hj
theorem del_same {L M : List (Pt × Int)} (hs : SortedP L) (hp : L.Perm M) {k : Pt} (ht : thereP L k = true) : (L.take (placeP L k) ++ L.drop (placeP L k + 1)).Perm (delL M k) ∧ SortedP (L.take (placeP L k) ++ L.drop (placeP L k + 1)) := by
  have hn : (M.map (·.1)).Nodup := (hp.map _).nodup_iff.1 hs.nodup
  rw [← List.eraseIdx_eq_take_drop_succ]
  refine ⟨?_, hs.sub (List.eraseIdx_sublist _ _)⟩
  obtain ⟨u, hu⟩ := there_at ht
  have hk : k ∈ M.map (·.1) := (there_perm hs hp k).1 ht
  unfold delL
  cases hf : findL M k 0 with
  | none => exact absurd hk (findL_none.1 hf)
  | some w =>
    obtain ⟨i, v⟩ := w
    obtain ⟨_, hi, hM⟩ := findL_some hf
    simp only [Nat.sub_zero] at hi hM
    have hmem : (k, v) ∈ M := by rw [← hM]; exact List.getElem_mem _
    have hmem2 : (k, u) ∈ M := hp.mem_iff.1 (List.mem_of_getElem? hu)
    have := keys_unique hn hmem hmem2
    subst this
    have h1 := perm_cons_erase hu
    have h2 := perm_cons_erase (l := M) (j := i) (x := (k, v)) (by rw [List.getElem?_eq_getElem hi, hM])
    exact List.Perm.cons_inv (h1.trans (hp.trans h2.symm))
theorem delL_len {M : List (Pt × Int)} {k : Pt} : (delL M k).length ≤ M.length := by
  unfold delL
  split
  · exact (List.eraseIdx_sublist _ _).length_le
  · exact Nat.le_refl _

theorem opC_kind (o : XOp) : (opC o)[0]? = some (.int .i64 o.kind) := rfl
/-- Both indexes after some calls. -/
structure Two (G h : Heap) (m n : Nat) : Prop where
  ex : ∃ M L sl, M.length ≤ n ∧ IxAt h (m + 1) m M ∧ hget h (m + 2) = some (.cells [sl] false) ∧ GrE h (L.flatMap prC) sl ∧ SortedP L ∧ L.Perm M
  len : G.length ≤ h.length
  old : ∀ b, b < m → hget h b = hget G b

set_option maxHeartbeats 4000000 in
theorem calls_ok (H : Heap) (v : NV) (os : List XOp) (h1 : OpsArg H v os) : NFun Try.prog 4 [v] H fun q => q.1 = .bool true := by
  refine fun_of_fwp E0 mixed t4_ok.2 (by kernel_rfl) ?_
  rw [fwp_T]
  simp only [t4]
  rw [← d4_eq]
  obtain ⟨A1, m1, rfl, hm1, hm1', hA1⟩ := h1.shape
  have eN : ∀ n : Nat, (if (60 : Int) < n then (60 : Int) else n) = (min 60 n : Nat) := by intro n; split <;> omega
  have hN1 : min 60 os.length ≤ 60 ∧ min 60 os.length ≤ os.length := by omega
  have eN1 := eN os.length
  generalize min 60 os.length = N1 at *
  have eA1 : (if m1 = 0 then A1 else Option.map (fun x => (x.fst, x.snd)) A1) = A1 := by cases A1 <;> simp
  have o1 : OIn (fun b => b < H.length) H A1 os := fun h0 => by
    obtain ⟨b, cs, ro, x1, x2, x3⟩ := hA1 h0
    exact ⟨b, cs, ro, x1, hget_lt x2, x2, x3⟩
  clear eN hA1 h1
  simp (disch := first | omega | (simp only [List.length_append, List.length_cons, List.length_nil, length_hset, length_hkill]; omega)) only [↓fsPre, fsPost, fsCond, fsGen, npick, nbin, nun, nconv, nnilCheck, noff, nidxArr, nidxSl, nfield, npart, nindex, nextract, nlenSl, nlenStr, ncap, mmx, minmax2, nslice, nsliceArr, nbounds, obound, bound, adv, nbits, eqVal, eqCell, eqCells, nfill, lenOfSl, cls, fresults, fresl, fres1, gt_iff_lt, ge_iff_le, reduceCtorEq, Nat.reduceAdd, Nat.reduceMul, Nat.reduceSub, Nat.reduceLT, Nat.reduceLeDiff, Nat.reduceEqDiff, Nat.reduceBEq, Nat.reduceBNe, Int.reduceLT, Int.reduceLE, Int.reduceEq, Int.reduceNe, Int.reduceAdd, Int.reduceSub, Int.reduceNeg, Int.reduceToNat, Int.reduceMul, ↓reduceIte, Int.reduceGT, Int.reduceGE]
  refine callT_one (xnew_ok _) rfl ?_
  simp (disch := first | omega | (simp only [List.length_append, List.length_cons, List.length_nil, length_hset, length_hkill]; omega)) only [↓fsPre, fsPost, fsCond, fsGen, npick, nbin, nun, nconv, nnilCheck, noff, nidxArr, nidxSl, nfield, npart, nindex, nextract, nlenSl, nlenStr, ncap, mmx, minmax2, nslice, nsliceArr, nbounds, obound, bound, adv, nbits, eqVal, eqCell, eqCells, nfill, lenOfSl, cls, fresults, fresl, fres1, gt_iff_lt, ge_iff_le, reduceCtorEq, Nat.reduceAdd, Nat.reduceMul, Nat.reduceSub, Nat.reduceLT, Nat.reduceLeDiff, Nat.reduceEqDiff, Nat.reduceBEq, Nat.reduceBNe, Int.reduceLT, Int.reduceLE, Int.reduceEq, Int.reduceNe, Int.reduceAdd, Int.reduceSub, Int.reduceNeg, Int.reduceToNat, Int.reduceMul, ↓reduceIte, Int.reduceGT, Int.reduceGE, eN1, eA1]
  refine wloop (fun j F h => F 3 = .ptr (some (H.length + 1, 0)) ∧ F 4 = .ptr (some (H.length + 2, 0)) ∧ F 19 = .slice A1 N1 (.fix m1) ∧ F 20 = .int .i64 N1 ∧ F 21 = .int .i64 j ∧ Two H h H.length j) N1 ?_ ?_ ?_
  · simp (disch := first | omega | (simp only [List.length_append, List.length_cons, List.length_nil, length_hset, length_hkill]; omega)) only [↓fsPre, fsPost, fsCond, fsGen, npick, nbin, nun, nconv, nnilCheck, noff, nidxArr, nidxSl, nfield, npart, nindex, nextract, nlenSl, nlenStr, ncap, mmx, minmax2, nslice, nsliceArr, nbounds, obound, bound, adv, nbits, eqVal, eqCell, eqCells, nfill, lenOfSl, cls, fresults, fresl, fres1, gt_iff_lt, ge_iff_le, reduceCtorEq, Nat.reduceAdd, Nat.reduceMul, Nat.reduceSub, Nat.reduceLT, Nat.reduceLeDiff, Nat.reduceEqDiff, Nat.reduceBEq, Nat.reduceBNe, Int.reduceLT, Int.reduceLE, Int.reduceEq, Int.reduceNe, Int.reduceAdd, Int.reduceSub, Int.reduceNeg, Int.reduceToNat, Int.reduceMul, ↓reduceIte, Int.reduceGT, Int.reduceGE]
    refine ⟨⟨[], [], .slice none 0 (.fix 0), by simp, ⟨by simp (disch := first | omega | (simp only [List.length_append, List.length_cons, List.length_nil, length_hset, length_hkill]; omega)) only [↓fsPre, fsPost, fsCond, fsGen, npick, nbin, nun, nconv, nnilCheck, noff, nidxArr, nidxSl, nfield, npart, nindex, nextract, nlenSl, nlenStr, ncap, mmx, minmax2, nslice, nsliceArr, nbounds, obound, bound, adv, nbits, eqVal, eqCell, eqCells, nfill, lenOfSl, cls, fresults, fresl, fres1, gt_iff_lt, ge_iff_le, reduceCtorEq, Nat.reduceAdd, Nat.reduceMul, Nat.reduceSub, Nat.reduceLT, Nat.reduceLeDiff, Nat.reduceEqDiff, Nat.reduceBEq, Nat.reduceBNe, Int.reduceLT, Int.reduceLE, Int.reduceEq, Int.reduceNe, Int.reduceAdd, Int.reduceSub, Int.reduceNeg, Int.reduceToNat, Int.reduceMul, ↓reduceIte, Int.reduceGT, Int.reduceGE], ⟨[], 0, by simp (disch := first | omega | (simp only [List.length_append, List.length_cons, List.length_nil, length_hset, length_hkill]; omega)) only [↓fsPre, fsPost, fsCond, fsGen, npick, nbin, nun, nconv, nnilCheck, noff, nidxArr, nidxSl, nfield, npart, nindex, nextract, nlenSl, nlenStr, ncap, mmx, minmax2, nslice, nsliceArr, nbounds, obound, bound, adv, nbits, eqVal, eqCell, eqCells, nfill, lenOfSl, cls, fresults, fresl, fres1, gt_iff_lt, ge_iff_le, reduceCtorEq, Nat.reduceAdd, Nat.reduceMul, Nat.reduceSub, Nat.reduceLT, Nat.reduceLeDiff, Nat.reduceEqDiff, Nat.reduceBEq, Nat.reduceBNe, Int.reduceLT, Int.reduceLE, Int.reduceEq, Int.reduceNe, Int.reduceAdd, Int.reduceSub, Int.reduceNeg, Int.reduceToNat, Int.reduceMul, ↓reduceIte, Int.reduceGT, Int.reduceGE], rfl, List.nodup_nil, by simp⟩, by omega⟩, by simp (disch := first | omega | (simp only [List.length_append, List.length_cons, List.length_nil, length_hset, length_hkill]; omega)) only [↓fsPre, fsPost, fsCond, fsGen, npick, nbin, nun, nconv, nnilCheck, noff, nidxArr, nidxSl, nfield, npart, nindex, nextract, nlenSl, nlenStr, ncap, mmx, minmax2, nslice, nsliceArr, nbounds, obound, bound, adv, nbits, eqVal, eqCell, eqCells, nfill, lenOfSl, cls, fresults, fresl, fres1, gt_iff_lt, ge_iff_le, reduceCtorEq, Nat.reduceAdd, Nat.reduceMul, Nat.reduceSub, Nat.reduceLT, Nat.reduceLeDiff, Nat.reduceEqDiff, Nat.reduceBEq, Nat.reduceBNe, Int.reduceLT, Int.reduceLE, Int.reduceEq, Int.reduceNe, Int.reduceAdd, Int.reduceSub, Int.reduceNeg, Int.reduceToNat, Int.reduceMul, ↓reduceIte, Int.reduceGT, Int.reduceGE], .inl ⟨rfl, none, rfl⟩, List.Pairwise.nil, List.Perm.refl _⟩, by simp, fun b hb => by simp (disch := first | omega | (simp only [List.length_append, List.length_cons, List.length_nil, length_hset, length_hkill]; omega)) only [↓fsPre, fsPost, fsCond, fsGen, npick, nbin, nun, nconv, nnilCheck, noff, nidxArr, nidxSl, nfield, npart, nindex, nextract, nlenSl, nlenStr, ncap, mmx, minmax2, nslice, nsliceArr, nbounds, obound, bound, adv, nbits, eqVal, eqCell, eqCells, nfill, lenOfSl, cls, fresults, fresl, fres1, gt_iff_lt, ge_iff_le, reduceCtorEq, Nat.reduceAdd, Nat.reduceMul, Nat.reduceSub, Nat.reduceLT, Nat.reduceLeDiff, Nat.reduceEqDiff, Nat.reduceBEq, Nat.reduceBNe, Int.reduceLT, Int.reduceLE, Int.reduceEq, Int.reduceNe, Int.reduceAdd, Int.reduceSub, Int.reduceNeg, Int.reduceToNat, Int.reduceMul, ↓reduceIte, Int.reduceGT, Int.reduceGE]⟩
  · rintro j F h hj ⟨f3, f4, f19, f20, f21, ⟨M, L, sl, hMl, hI, hy, hg, hs, hp⟩, hlen, hold⟩
    obtain ⟨b, cs, ro, rfl, hbm, hb, hcut⟩ := o1 (by omega)
    have hbh : hget h b = some (.cells cs ro) := by rw [hold b hbm]; exact hb
    have hbl := hget_some_lt hbh
    have hc := hcut j (by omega)
    have lm := hI.hm.lt
    have lp := hget_some_lt hI.hp
    have ly := hget_some_lt hy
    simp (disch := first | omega | (simp only [List.length_append, List.length_cons, List.length_nil, length_hset, length_hkill]; omega)) only [↓fsPre, fsPost, fsCond, fsGen, npick, nbin, nun, nconv, nnilCheck, noff, nidxArr, nidxSl, nfield, npart, nindex, nextract, nlenSl, nlenStr, ncap, mmx, minmax2, nslice, nsliceArr, nbounds, obound, bound, adv, nbits, eqVal, eqCell, eqCells, nfill, lenOfSl, cls, fresults, fresl, fres1, gt_iff_lt, ge_iff_le, reduceCtorEq, Nat.reduceAdd, Nat.reduceMul, Nat.reduceSub, Nat.reduceLT, Nat.reduceLeDiff, Nat.reduceEqDiff, Nat.reduceBEq, Nat.reduceBNe, Int.reduceLT, Int.reduceLE, Int.reduceEq, Int.reduceNe, Int.reduceAdd, Int.reduceSub, Int.reduceNeg, Int.reduceToNat, Int.reduceMul, ↓reduceIte, Int.reduceGT, Int.reduceGE, f3, f4, f19, f20, f21, hbh, hc, opC_one, opC_cut, opC_length, opC_fill, opC_id]
    refine callT_one (point_ok _ _) rfl ?_
    simp (disch := first | omega | (simp only [List.length_append, List.length_cons, List.length_nil, length_hset, length_hkill]; omega)) only [↓fsPre, fsPost, fsCond, fsGen, npick, nbin, nun, nconv, nnilCheck, noff, nidxArr, nidxSl, nfield, npart, nindex, nextract, nlenSl, nlenStr, ncap, mmx, minmax2, nslice, nsliceArr, nbounds, obound, bound, adv, nbits, eqVal, eqCell, eqCells, nfill, lenOfSl, cls, fresults, fresl, fres1, gt_iff_lt, ge_iff_le, reduceCtorEq, Nat.reduceAdd, Nat.reduceMul, Nat.reduceSub, Nat.reduceLT, Nat.reduceLeDiff, Nat.reduceEqDiff, Nat.reduceBEq, Nat.reduceBNe, Int.reduceLT, Int.reduceLE, Int.reduceEq, Int.reduceNe, Int.reduceAdd, Int.reduceSub, Int.reduceNeg, Int.reduceToNat, Int.reduceMul, ↓reduceIte, Int.reduceGT, Int.reduceGE, f3, f4, f19, f20, f21, opC_one, opC_cut, opC_length, opC_fill, opC_id, ptC_one, ptC_cut, ptC_length]
    obtain ⟨o, ho⟩ : ∃ o, o = os[j] := ⟨_, rfl⟩
    rw [← ho]
    have hI1 := hI.mono (h := h ++ [some (.cells (opC o) false), some (.cells (ptC o.point) false)]) (hget_appl lp) (hget_appl lm)
    have hy1 : hget (h ++ [some (.cells (opC o) false), some (.cells (ptC o.point) false)]) (H.length + 2) = some (.cells [sl] false) := by rw [hget_appl ly]; exact hy
    have hg1 : GrE (h ++ [some (.cells (opC o) false), some (.cells (ptC o.point) false)]) (L.flatMap prC) sl := hg.mono fun b hb => hget_appl hb
    have hold1 : ∀ b, b < H.length → hget (h ++ [some (.cells (opC o) false), some (.cells (ptC o.point) false)]) b = hget H b := fun b hb => by rw [hget_appl (by omega)]; exact hold b hb
    have hx6 : hget (h ++ [some (.cells (opC o) false), some (.cells (ptC o.point) false)]) h.length = some (.cells (opC o) false) := by simp (disch := first | omega | (simp only [List.length_append, List.length_cons, List.length_nil, length_hset, length_hkill]; omega)) only [↓fsPre, fsPost, fsCond, fsGen, npick, nbin, nun, nconv, nnilCheck, noff, nidxArr, nidxSl, nfield, npart, nindex, nextract, nlenSl, nlenStr, ncap, mmx, minmax2, nslice, nsliceArr, nbounds, obound, bound, adv, nbits, eqVal, eqCell, eqCells, nfill, lenOfSl, cls, fresults, fresl, fres1, gt_iff_lt, ge_iff_le, reduceCtorEq, Nat.reduceAdd, Nat.reduceMul, Nat.reduceSub, Nat.reduceLT, Nat.reduceLeDiff, Nat.reduceEqDiff, Nat.reduceBEq, Nat.reduceBNe, Int.reduceLT, Int.reduceLE, Int.reduceEq, Int.reduceNe, Int.reduceAdd, Int.reduceSub, Int.reduceNeg, Int.reduceToNat, Int.reduceMul, ↓reduceIte, Int.reduceGT, Int.reduceGE]
    have hx7 : hget (h ++ [some (.cells (opC o) false), some (.cells (ptC o.point) false)]) (h.length + 1) = some (.cells (ptC o.point) false) := by simp (disch := first | omega | (simp only [List.length_append, List.length_cons, List.length_nil, length_hset, length_hkill]; omega)) only [↓fsPre, fsPost, fsCond, fsGen, npick, nbin, nun, nconv, nnilCheck, noff, nidxArr, nidxSl, nfield, npart, nindex, nextract, nlenSl, nlenStr, ncap, mmx, minmax2, nslice, nsliceArr, nbounds, obound, bound, adv, nbits, eqVal, eqCell, eqCells, nfill, lenOfSl, cls, fresults, fresl, fres1, gt_iff_lt, ge_iff_le, reduceCtorEq, Nat.reduceAdd, Nat.reduceMul, Nat.reduceSub, Nat.reduceLT, Nat.reduceLeDiff, Nat.reduceEqDiff, Nat.reduceBEq, Nat.reduceBNe, Int.reduceLT, Int.reduceLE, Int.reduceEq, Int.reduceNe, Int.reduceAdd, Int.reduceSub, Int.reduceNeg, Int.reduceToNat, Int.reduceMul, ↓reduceIte, Int.reduceGT, Int.reduceGE]
    have hlG : (h ++ [some (NBlk.cells (opC o) false), some (NBlk.cells (ptC o.point) false)]).length = h.length + 2 := by simp
    have hLM := hp.length_eq
    obtain ⟨G, hG⟩ : ∃ G, G = h ++ [some (.cells (opC o) false), some (.cells (ptC o.point) false)] := ⟨_, rfl⟩
    rw [← hG] at hI1 hy1 hg1 hold1 hx6 hx7 hlG ⊢
    clear hG hI hy hg hold hbh hbl hb hcut hc ho
    refine fwp_partJ (fun F h => F 3 = .ptr (some (H.length + 1, 0)) ∧ F 4 = .ptr (some (H.length + 2, 0)) ∧ F 19 = .slice (some (b, 0)) N1 (.fix m1) ∧ F 20 = .int .i64 N1 ∧ F 21 = .int .i64 j ∧ Two H h H.length (j + 1)) ?_ ?_
    · rw [d4_eq]
      have lx6 := hget_some_lt hx6
      have lx7 := hget_some_lt hx7
      by_cases hput : o.kind.tmod 4 = 0 ∨ o.kind.tmod 4 = 1
      · rcases hput with hk | hk
        · simp (disch := first | omega | (simp only [List.length_append, List.length_cons, List.length_nil, length_hset, length_hkill]; omega)) only [↓fsPre, fsPost, fsCond, fsGen, npick, nbin, nun, nconv, nnilCheck, noff, nidxArr, nidxSl, nfield, npart, nindex, nextract, nlenSl, nlenStr, ncap, mmx, minmax2, nslice, nsliceArr, nbounds, obound, bound, adv, nbits, eqVal, eqCell, eqCells, nfill, lenOfSl, cls, fresults, fresl, fres1, gt_iff_lt, ge_iff_le, reduceCtorEq, Nat.reduceAdd, Nat.reduceMul, Nat.reduceSub, Nat.reduceLT, Nat.reduceLeDiff, Nat.reduceEqDiff, Nat.reduceBEq, Nat.reduceBNe, Int.reduceLT, Int.reduceLE, Int.reduceEq, Int.reduceNe, Int.reduceAdd, Int.reduceSub, Int.reduceNeg, Int.reduceToNat, Int.reduceMul, ↓reduceIte, Int.reduceGT, Int.reduceGE, f3, f4, f19, f20, f21, hx6, hx7, opC_one, opC_cut, opC_length, opC_fill, opC_id, opC_kind, ptC_one, ptC_cut, ptC_length, hk]
          by_cases hin : o.point ∈ M.map (·.1)
          · have ht : thereP L o.point = true := (there_perm hs hp _).2 hin
            refine callDT_one (xput_old _ _ _ _ hI1 _ _ hin) rfl ?_
            simp (disch := first | omega | (simp only [List.length_append, List.length_cons, List.length_nil, length_hset, length_hkill]; omega)) only [↓fsPre, fsPost, fsCond, fsGen, npick, nbin, nun, nconv, nnilCheck, noff, nidxArr, nidxSl, nfield, npart, nindex, nextract, nlenSl, nlenStr, ncap, mmx, minmax2, nslice, nsliceArr, nbounds, obound, bound, adv, nbits, eqVal, eqCell, eqCells, nfill, lenOfSl, cls, fresults, fresl, fres1, gt_iff_lt, ge_iff_le, reduceCtorEq, Nat.reduceAdd, Nat.reduceMul, Nat.reduceSub, Nat.reduceLT, Nat.reduceLeDiff, Nat.reduceEqDiff, Nat.reduceBEq, Nat.reduceBNe, Int.reduceLT, Int.reduceLE, Int.reduceEq, Int.reduceNe, Int.reduceAdd, Int.reduceSub, Int.reduceNeg, Int.reduceToNat, Int.reduceMul, ↓reduceIte, Int.reduceGT, Int.reduceGE, f3, f4, f19, f20, f21, hx6, hx7, opC_one, opC_cut, opC_length, opC_fill, opC_id, opC_kind, ptC_one, ptC_cut, ptC_length]
            refine callDT_one (rput_old _ _ _ _ _ _ hy1 hg1 (by omega) ht) rfl ?_
            simp (disch := first | omega | (simp only [List.length_append, List.length_cons, List.length_nil, length_hset, length_hkill]; omega)) only [↓fsPre, fsPost, fsCond, fsGen, npick, nbin, nun, nconv, nnilCheck, noff, nidxArr, nidxSl, nfield, npart, nindex, nextract, nlenSl, nlenStr, ncap, mmx, minmax2, nslice, nsliceArr, nbounds, obound, bound, adv, nbits, eqVal, eqCell, eqCells, nfill, lenOfSl, cls, fresults, fresl, fres1, gt_iff_lt, ge_iff_le, reduceCtorEq, Nat.reduceAdd, Nat.reduceMul, Nat.reduceSub, Nat.reduceLT, Nat.reduceLeDiff, Nat.reduceEqDiff, Nat.reduceBEq, Nat.reduceBNe, Int.reduceLT, Int.reduceLE, Int.reduceEq, Int.reduceNe, Int.reduceAdd, Int.reduceSub, Int.reduceNeg, Int.reduceToNat, Int.reduceMul, ↓reduceIte, Int.reduceGT, Int.reduceGE, f3, f4, f19, f20, f21]
            exact ⟨⟨by rw [hx7]; rfl, by rw [hx6]; rfl⟩, ⟨⟨M, L, sl, by omega, hI1, hy1, hg1, hs, hp⟩, by omega, hold1⟩⟩
          · have ht : thereP L o.point = false := by
              have := mt (there_perm hs hp o.point).1 hin
              simpa using this
            refine callDT_D (xput_new _ _ _ _ hI1 _ _ hin) rfl ?_
            rintro w g ⟨hw, hlg, hog, hIg⟩
            simp only at hw hlg hog hIg
            subst hw
            have hx6g : hget g h.length = some (.cells (opC o) false) := by rw [hog _ (by omega) (by omega)]; exact hx6
            have hx7g : hget g (h.length + 1) = some (.cells (ptC o.point) false) := by rw [hog _ (by omega) (by omega)]; exact hx7
            have hyg : hget g (H.length + 2) = some (.cells [sl] false) := by rw [hog _ (by omega) (by omega)]; exact hy1
            have hgg : GrE g (L.flatMap prC) sl := hg1.mono2 hI1.map hog
            have lx6g := hget_some_lt hx6g
            have lx7g := hget_some_lt hx7g
            simp (disch := first | omega | (simp only [List.length_append, List.length_cons, List.length_nil, length_hset, length_hkill]; omega)) only [↓fsPre, fsPost, fsCond, fsGen, npick, nbin, nun, nconv, nnilCheck, noff, nidxArr, nidxSl, nfield, npart, nindex, nextract, nlenSl, nlenStr, ncap, mmx, minmax2, nslice, nsliceArr, nbounds, obound, bound, adv, nbits, eqVal, eqCell, eqCells, nfill, lenOfSl, cls, fresults, fresl, fres1, gt_iff_lt, ge_iff_le, reduceCtorEq, Nat.reduceAdd, Nat.reduceMul, Nat.reduceSub, Nat.reduceLT, Nat.reduceLeDiff, Nat.reduceEqDiff, Nat.reduceBEq, Nat.reduceBNe, Int.reduceLT, Int.reduceLE, Int.reduceEq, Int.reduceNe, Int.reduceAdd, Int.reduceSub, Int.reduceNeg, Int.reduceToNat, Int.reduceMul, ↓reduceIte, Int.reduceGT, Int.reduceGE, f3, f4, f19, f20, f21, hx6, hx7, hx6g, hx7g, opC_one, opC_cut, opC_length, opC_fill, opC_id, opC_kind, ptC_one, ptC_cut, ptC_length]
            refine ⟨by omega, ?_⟩
            refine callDT_D (rput_new _ _ _ _ _ o.id hyg hgg (by omega) ht) rfl ?_
            rintro w g2 ⟨hw, hlg2, hog2, sl2, hy2, hg2⟩
            simp only at hw hlg2 hog2 hy2 hg2
            subst hw
            have lpg := hget_some_lt hIg.hp
            have lmg := hIg.hm.lt
            simp (disch := first | omega | (simp only [List.length_append, List.length_cons, List.length_nil, length_hset, length_hkill]; omega)) only [↓fsPre, fsPost, fsCond, fsGen, npick, nbin, nun, nconv, nnilCheck, noff, nidxArr, nidxSl, nfield, npart, nindex, nextract, nlenSl, nlenStr, ncap, mmx, minmax2, nslice, nsliceArr, nbounds, obound, bound, adv, nbits, eqVal, eqCell, eqCells, nfill, lenOfSl, cls, fresults, fresl, fres1, gt_iff_lt, ge_iff_le, reduceCtorEq, Nat.reduceAdd, Nat.reduceMul, Nat.reduceSub, Nat.reduceLT, Nat.reduceLeDiff, Nat.reduceEqDiff, Nat.reduceBEq, Nat.reduceBNe, Int.reduceLT, Int.reduceLE, Int.reduceEq, Int.reduceNe, Int.reduceAdd, Int.reduceSub, Int.reduceNeg, Int.reduceToNat, Int.reduceMul, ↓reduceIte, Int.reduceGT, Int.reduceGE, f3, f4, f19, f20, f21]
            have hkL : o.point ∉ L.map (·.1) := fun h => hin ((hp.map _).mem_iff.1 h)
            refine ⟨by omega, ⟨by rw [hx7g]; rfl, by rw [hx6g]; rfl⟩, ⟨M ++ [(o.point, o.id)], insP L o.point o.id, sl2, by simp; omega, hIg.mono (hog2 _ (by omega) (by omega)) (hog2 _ (by omega) (by omega)), hy2, hg2, hs.ins _ hkL, ?_⟩, by omega, fun b hb => by rw [hog2 b (by omega) (by omega), hog b (by omega) (by omega)]; exact hold1 b hb⟩
            exact (insP_perm _ _ _).trans ((List.Perm.cons _ hp).trans (List.perm_append_comm (l₁ := [(o.point, o.id)]) (l₂ := M)))
        · simp (disch := first | omega | (simp only [List.length_append, List.length_cons, List.length_nil, length_hset, length_hkill]; omega)) only [↓fsPre, fsPost, fsCond, fsGen, npick, nbin, nun, nconv, nnilCheck, noff, nidxArr, nidxSl, nfield, npart, nindex, nextract, nlenSl, nlenStr, ncap, mmx, minmax2, nslice, nsliceArr, nbounds, obound, bound, adv, nbits, eqVal, eqCell, eqCells, nfill, lenOfSl, cls, fresults, fresl, fres1, gt_iff_lt, ge_iff_le, reduceCtorEq, Nat.reduceAdd, Nat.reduceMul, Nat.reduceSub, Nat.reduceLT, Nat.reduceLeDiff, Nat.reduceEqDiff, Nat.reduceBEq, Nat.reduceBNe, Int.reduceLT, Int.reduceLE, Int.reduceEq, Int.reduceNe, Int.reduceAdd, Int.reduceSub, Int.reduceNeg, Int.reduceToNat, Int.reduceMul, ↓reduceIte, Int.reduceGT, Int.reduceGE, f3, f4, f19, f20, f21, hx6, hx7, opC_one, opC_cut, opC_length, opC_fill, opC_id, opC_kind, ptC_one, ptC_cut, ptC_length, hk]
          by_cases hin : o.point ∈ M.map (·.1)
          · have ht : thereP L o.point = true := (there_perm hs hp _).2 hin
            refine callDT_one (xput_old _ _ _ _ hI1 _ _ hin) rfl ?_
            simp (disch := first | omega | (simp only [List.length_append, List.length_cons, List.length_nil, length_hset, length_hkill]; omega)) only [↓fsPre, fsPost, fsCond, fsGen, npick, nbin, nun, nconv, nnilCheck, noff, nidxArr, nidxSl, nfield, npart, nindex, nextract, nlenSl, nlenStr, ncap, mmx, minmax2, nslice, nsliceArr, nbounds, obound, bound, adv, nbits, eqVal, eqCell, eqCells, nfill, lenOfSl, cls, fresults, fresl, fres1, gt_iff_lt, ge_iff_le, reduceCtorEq, Nat.reduceAdd, Nat.reduceMul, Nat.reduceSub, Nat.reduceLT, Nat.reduceLeDiff, Nat.reduceEqDiff, Nat.reduceBEq, Nat.reduceBNe, Int.reduceLT, Int.reduceLE, Int.reduceEq, Int.reduceNe, Int.reduceAdd, Int.reduceSub, Int.reduceNeg, Int.reduceToNat, Int.reduceMul, ↓reduceIte, Int.reduceGT, Int.reduceGE, f3, f4, f19, f20, f21, hx6, hx7, opC_one, opC_cut, opC_length, opC_fill, opC_id, opC_kind, ptC_one, ptC_cut, ptC_length]
            refine callDT_one (rput_old _ _ _ _ _ _ hy1 hg1 (by omega) ht) rfl ?_
            simp (disch := first | omega | (simp only [List.length_append, List.length_cons, List.length_nil, length_hset, length_hkill]; omega)) only [↓fsPre, fsPost, fsCond, fsGen, npick, nbin, nun, nconv, nnilCheck, noff, nidxArr, nidxSl, nfield, npart, nindex, nextract, nlenSl, nlenStr, ncap, mmx, minmax2, nslice, nsliceArr, nbounds, obound, bound, adv, nbits, eqVal, eqCell, eqCells, nfill, lenOfSl, cls, fresults, fresl, fres1, gt_iff_lt, ge_iff_le, reduceCtorEq, Nat.reduceAdd, Nat.reduceMul, Nat.reduceSub, Nat.reduceLT, Nat.reduceLeDiff, Nat.reduceEqDiff, Nat.reduceBEq, Nat.reduceBNe, Int.reduceLT, Int.reduceLE, Int.reduceEq, Int.reduceNe, Int.reduceAdd, Int.reduceSub, Int.reduceNeg, Int.reduceToNat, Int.reduceMul, ↓reduceIte, Int.reduceGT, Int.reduceGE, f3, f4, f19, f20, f21]
            exact ⟨⟨by rw [hx7]; rfl, by rw [hx6]; rfl⟩, ⟨⟨M, L, sl, by omega, hI1, hy1, hg1, hs, hp⟩, by omega, hold1⟩⟩
          · have ht : thereP L o.point = false := by
              have := mt (there_perm hs hp o.point).1 hin
              simpa using this
            refine callDT_D (xput_new _ _ _ _ hI1 _ _ hin) rfl ?_
            rintro w g ⟨hw, hlg, hog, hIg⟩
            simp only at hw hlg hog hIg
            subst hw
            have hx6g : hget g h.length = some (.cells (opC o) false) := by rw [hog _ (by omega) (by omega)]; exact hx6
            have hx7g : hget g (h.length + 1) = some (.cells (ptC o.point) false) := by rw [hog _ (by omega) (by omega)]; exact hx7
            have hyg : hget g (H.length + 2) = some (.cells [sl] false) := by rw [hog _ (by omega) (by omega)]; exact hy1
            have hgg : GrE g (L.flatMap prC) sl := hg1.mono2 hI1.map hog
            have lx6g := hget_some_lt hx6g
            have lx7g := hget_some_lt hx7g
            simp (disch := first | omega | (simp only [List.length_append, List.length_cons, List.length_nil, length_hset, length_hkill]; omega)) only [↓fsPre, fsPost, fsCond, fsGen, npick, nbin, nun, nconv, nnilCheck, noff, nidxArr, nidxSl, nfield, npart, nindex, nextract, nlenSl, nlenStr, ncap, mmx, minmax2, nslice, nsliceArr, nbounds, obound, bound, adv, nbits, eqVal, eqCell, eqCells, nfill, lenOfSl, cls, fresults, fresl, fres1, gt_iff_lt, ge_iff_le, reduceCtorEq, Nat.reduceAdd, Nat.reduceMul, Nat.reduceSub, Nat.reduceLT, Nat.reduceLeDiff, Nat.reduceEqDiff, Nat.reduceBEq, Nat.reduceBNe, Int.reduceLT, Int.reduceLE, Int.reduceEq, Int.reduceNe, Int.reduceAdd, Int.reduceSub, Int.reduceNeg, Int.reduceToNat, Int.reduceMul, ↓reduceIte, Int.reduceGT, Int.reduceGE, f3, f4, f19, f20, f21, hx6, hx7, hx6g, hx7g, opC_one, opC_cut, opC_length, opC_fill, opC_id, opC_kind, ptC_one, ptC_cut, ptC_length]
            refine ⟨by omega, ?_⟩
            refine callDT_D (rput_new _ _ _ _ _ o.id hyg hgg (by omega) ht) rfl ?_
            rintro w g2 ⟨hw, hlg2, hog2, sl2, hy2, hg2⟩
            simp only at hw hlg2 hog2 hy2 hg2
            subst hw
            have lpg := hget_some_lt hIg.hp
            have lmg := hIg.hm.lt
            simp (disch := first | omega | (simp only [List.length_append, List.length_cons, List.length_nil, length_hset, length_hkill]; omega)) only [↓fsPre, fsPost, fsCond, fsGen, npick, nbin, nun, nconv, nnilCheck, noff, nidxArr, nidxSl, nfield, npart, nindex, nextract, nlenSl, nlenStr, ncap, mmx, minmax2, nslice, nsliceArr, nbounds, obound, bound, adv, nbits, eqVal, eqCell, eqCells, nfill, lenOfSl, cls, fresults, fresl, fres1, gt_iff_lt, ge_iff_le, reduceCtorEq, Nat.reduceAdd, Nat.reduceMul, Nat.reduceSub, Nat.reduceLT, Nat.reduceLeDiff, Nat.reduceEqDiff, Nat.reduceBEq, Nat.reduceBNe, Int.reduceLT, Int.reduceLE, Int.reduceEq, Int.reduceNe, Int.reduceAdd, Int.reduceSub, Int.reduceNeg, Int.reduceToNat, Int.reduceMul, ↓reduceIte, Int.reduceGT, Int.reduceGE, f3, f4, f19, f20, f21]
            have hkL : o.point ∉ L.map (·.1) := fun h => hin ((hp.map _).mem_iff.1 h)
            refine ⟨by omega, ⟨by rw [hx7g]; rfl, by rw [hx6g]; rfl⟩, ⟨M ++ [(o.point, o.id)], insP L o.point o.id, sl2, by simp; omega, hIg.mono (hog2 _ (by omega) (by omega)) (hog2 _ (by omega) (by omega)), hy2, hg2, hs.ins _ hkL, ?_⟩, by omega, fun b hb => by rw [hog2 b (by omega) (by omega), hog b (by omega) (by omega)]; exact hold1 b hb⟩
            exact (insP_perm _ _ _).trans ((List.Perm.cons _ hp).trans (List.perm_append_comm (l₁ := [(o.point, o.id)]) (l₂ := M)))
      · by_cases hk : o.kind.tmod 4 = 2
        · simp (disch := first | omega | (simp only [List.length_append, List.length_cons, List.length_nil, length_hset, length_hkill]; omega)) only [↓fsPre, fsPost, fsCond, fsGen, npick, nbin, nun, nconv, nnilCheck, noff, nidxArr, nidxSl, nfield, npart, nindex, nextract, nlenSl, nlenStr, ncap, mmx, minmax2, nslice, nsliceArr, nbounds, obound, bound, adv, nbits, eqVal, eqCell, eqCells, nfill, lenOfSl, cls, fresults, fresl, fres1, gt_iff_lt, ge_iff_le, reduceCtorEq, Nat.reduceAdd, Nat.reduceMul, Nat.reduceSub, Nat.reduceLT, Nat.reduceLeDiff, Nat.reduceEqDiff, Nat.reduceBEq, Nat.reduceBNe, Int.reduceLT, Int.reduceLE, Int.reduceEq, Int.reduceNe, Int.reduceAdd, Int.reduceSub, Int.reduceNeg, Int.reduceToNat, Int.reduceMul, ↓reduceIte, Int.reduceGT, Int.reduceGE, f3, f4, f19, f20, f21, hx6, hx7, opC_one, opC_cut, opC_length, opC_fill, opC_id, opC_kind, ptC_one, ptC_cut, ptC_length, hk]
          by_cases hin : o.point ∈ M.map (·.1)
          · have ht : thereP L o.point = true := (there_perm hs hp _).2 hin
            refine callDT_D (xrem_there _ _ _ _ hI1 _ hin) rfl ?_
            rintro w g ⟨hw, hlg, hog, hIg⟩
            simp only at hw hlg hog hIg
            subst hw
            have hx7g : hget g (h.length + 1) = some (.cells (ptC o.point) false) := by rw [hog _ (by omega) (by omega)]; exact hx7
            have hyg : hget g (H.length + 2) = some (.cells [sl] false) := by rw [hog _ (by omega) (by omega)]; exact hy1
            have hgg : GrE g (L.flatMap prC) sl := hg1.mono2 hI1.map hog
            have lx7g := hget_some_lt hx7g
            simp (disch := first | omega | (simp only [List.length_append, List.length_cons, List.length_nil, length_hset, length_hkill]; omega)) only [↓fsPre, fsPost, fsCond, fsGen, npick, nbin, nun, nconv, nnilCheck, noff, nidxArr, nidxSl, nfield, npart, nindex, nextract, nlenSl, nlenStr, ncap, mmx, minmax2, nslice, nsliceArr, nbounds, obound, bound, adv, nbits, eqVal, eqCell, eqCells, nfill, lenOfSl, cls, fresults, fresl, fres1, gt_iff_lt, ge_iff_le, reduceCtorEq, Nat.reduceAdd, Nat.reduceMul, Nat.reduceSub, Nat.reduceLT, Nat.reduceLeDiff, Nat.reduceEqDiff, Nat.reduceBEq, Nat.reduceBNe, Int.reduceLT, Int.reduceLE, Int.reduceEq, Int.reduceNe, Int.reduceAdd, Int.reduceSub, Int.reduceNeg, Int.reduceToNat, Int.reduceMul, ↓reduceIte, Int.reduceGT, Int.reduceGE, f3, f4, f19, f20, f21, hx7, hx7g, ptC_one, ptC_cut, ptC_length]
            refine ⟨by omega, ?_⟩
            refine callDT_D (rrem_there _ _ _ _ _ hyg hgg (by omega) ht) rfl ?_
            rintro w g2 ⟨hw, hlg2, hog2, sl2, hy2, hg2⟩
            simp only at hw hlg2 hog2 hy2 hg2
            subst hw
            have lpg := hget_some_lt hIg.hp
            have lmg := hIg.hm.lt
            simp (disch := first | omega | (simp only [List.length_append, List.length_cons, List.length_nil, length_hset, length_hkill]; omega)) only [↓fsPre, fsPost, fsCond, fsGen, npick, nbin, nun, nconv, nnilCheck, noff, nidxArr, nidxSl, nfield, npart, nindex, nextract, nlenSl, nlenStr, ncap, mmx, minmax2, nslice, nsliceArr, nbounds, obound, bound, adv, nbits, eqVal, eqCell, eqCells, nfill, lenOfSl, cls, fresults, fresl, fres1, gt_iff_lt, ge_iff_le, reduceCtorEq, Nat.reduceAdd, Nat.reduceMul, Nat.reduceSub, Nat.reduceLT, Nat.reduceLeDiff, Nat.reduceEqDiff, Nat.reduceBEq, Nat.reduceBNe, Int.reduceLT, Int.reduceLE, Int.reduceEq, Int.reduceNe, Int.reduceAdd, Int.reduceSub, Int.reduceNeg, Int.reduceToNat, Int.reduceMul, ↓reduceIte, Int.reduceGT, Int.reduceGE, f3, f4, f19, f20, f21]
            obtain ⟨d1, d2⟩ := del_same hs hp ht
            have dl := delL_len (M := M) (k := o.point)
            exact ⟨by omega, by rw [hx7g]; rfl, ⟨delL M o.point, _, sl2, by omega, hIg.mono (hog2 _ (by omega) (by omega)) (hog2 _ (by omega) (by omega)), hy2, hg2, d2, d1⟩, by omega, fun b hb => by rw [hog2 b (by omega) (by omega), hog b (by omega) (by omega)]; exact hold1 b hb⟩
          · have ht : thereP L o.point = false := by
              have := mt (there_perm hs hp o.point).1 hin
              simpa using this
            refine callDT_one (xrem_not _ _ _ _ hI1 _ hin) rfl ?_
            simp (disch := first | omega | (simp only [List.length_append, List.length_cons, List.length_nil, length_hset, length_hkill]; omega)) only [↓fsPre, fsPost, fsCond, fsGen, npick, nbin, nun, nconv, nnilCheck, noff, nidxArr, nidxSl, nfield, npart, nindex, nextract, nlenSl, nlenStr, ncap, mmx, minmax2, nslice, nsliceArr, nbounds, obound, bound, adv, nbits, eqVal, eqCell, eqCells, nfill, lenOfSl, cls, fresults, fresl, fres1, gt_iff_lt, ge_iff_le, reduceCtorEq, Nat.reduceAdd, Nat.reduceMul, Nat.reduceSub, Nat.reduceLT, Nat.reduceLeDiff, Nat.reduceEqDiff, Nat.reduceBEq, Nat.reduceBNe, Int.reduceLT, Int.reduceLE, Int.reduceEq, Int.reduceNe, Int.reduceAdd, Int.reduceSub, Int.reduceNeg, Int.reduceToNat, Int.reduceMul, ↓reduceIte, Int.reduceGT, Int.reduceGE, f3, f4, f19, f20, f21, hx7, ptC_one, ptC_cut, ptC_length]
            refine callDT_one (rrem_not _ _ _ _ _ hy1 hg1 (by omega) ht) rfl ?_
            simp (disch := first | omega | (simp only [List.length_append, List.length_cons, List.length_nil, length_hset, length_hkill]; omega)) only [↓fsPre, fsPost, fsCond, fsGen, npick, nbin, nun, nconv, nnilCheck, noff, nidxArr, nidxSl, nfield, npart, nindex, nextract, nlenSl, nlenStr, ncap, mmx, minmax2, nslice, nsliceArr, nbounds, obound, bound, adv, nbits, eqVal, eqCell, eqCells, nfill, lenOfSl, cls, fresults, fresl, fres1, gt_iff_lt, ge_iff_le, reduceCtorEq, Nat.reduceAdd, Nat.reduceMul, Nat.reduceSub, Nat.reduceLT, Nat.reduceLeDiff, Nat.reduceEqDiff, Nat.reduceBEq, Nat.reduceBNe, Int.reduceLT, Int.reduceLE, Int.reduceEq, Int.reduceNe, Int.reduceAdd, Int.reduceSub, Int.reduceNeg, Int.reduceToNat, Int.reduceMul, ↓reduceIte, Int.reduceGT, Int.reduceGE, f3, f4, f19, f20, f21]
            exact ⟨by rw [hx7]; rfl, ⟨⟨M, L, sl, by omega, hI1, hy1, hg1, hs, hp⟩, by omega, hold1⟩⟩
        · have k0 : ¬ o.kind.tmod 4 = 0 := fun e => hput (.inl e)
          have k1 : ¬ o.kind.tmod 4 = 1 := fun e => hput (.inr e)
          simp (disch := first | omega | (simp only [List.length_append, List.length_cons, List.length_nil, length_hset, length_hkill]; omega)) only [↓fsPre, fsPost, fsCond, fsGen, npick, nbin, nun, nconv, nnilCheck, noff, nidxArr, nidxSl, nfield, npart, nindex, nextract, nlenSl, nlenStr, ncap, mmx, minmax2, nslice, nsliceArr, nbounds, obound, bound, adv, nbits, eqVal, eqCell, eqCells, nfill, lenOfSl, cls, fresults, fresl, fres1, gt_iff_lt, ge_iff_le, reduceCtorEq, Nat.reduceAdd, Nat.reduceMul, Nat.reduceSub, Nat.reduceLT, Nat.reduceLeDiff, Nat.reduceEqDiff, Nat.reduceBEq, Nat.reduceBNe, Int.reduceLT, Int.reduceLE, Int.reduceEq, Int.reduceNe, Int.reduceAdd, Int.reduceSub, Int.reduceNeg, Int.reduceToNat, Int.reduceMul, ↓reduceIte, Int.reduceGT, Int.reduceGE, f3, f4, f19, f20, f21, hx6, hx7, opC_one, opC_cut, opC_length, opC_fill, opC_id, opC_kind, ptC_one, ptC_cut, ptC_length, hk, k0, k1]
          refine callT_one (xget_ok _ _ _ _ hI1 _) rfl ?_
          simp (disch := first | omega | (simp only [List.length_append, List.length_cons, List.length_nil, length_hset, length_hkill]; omega)) only [↓fsPre, fsPost, fsCond, fsGen, npick, nbin, nun, nconv, nnilCheck, noff, nidxArr, nidxSl, nfield, npart, nindex, nextract, nlenSl, nlenStr, ncap, mmx, minmax2, nslice, nsliceArr, nbounds, obound, bound, adv, nbits, eqVal, eqCell, eqCells, nfill, lenOfSl, cls, fresults, fresl, fres1, gt_iff_lt, ge_iff_le, reduceCtorEq, Nat.reduceAdd, Nat.reduceMul, Nat.reduceSub, Nat.reduceLT, Nat.reduceLeDiff, Nat.reduceEqDiff, Nat.reduceBEq, Nat.reduceBNe, Int.reduceLT, Int.reduceLE, Int.reduceEq, Int.reduceNe, Int.reduceAdd, Int.reduceSub, Int.reduceNeg, Int.reduceToNat, Int.reduceMul, ↓reduceIte, Int.reduceGT, Int.reduceGE, f3, f4, f19, f20, f21, hx7, ptC_one, ptC_cut, ptC_length]
          refine callT_one (rget_ok _ _ _ _ _ hy1 hg1 (by omega)) rfl ?_
          rw [get_same hs hp]
          simp (disch := first | omega | (simp only [List.length_append, List.length_cons, List.length_nil, length_hset, length_hkill]; omega)) only [↓fsPre, fsPost, fsCond, fsGen, npick, nbin, nun, nconv, nnilCheck, noff, nidxArr, nidxSl, nfield, npart, nindex, nextract, nlenSl, nlenStr, ncap, mmx, minmax2, nslice, nsliceArr, nbounds, obound, bound, adv, nbits, eqVal, eqCell, eqCells, nfill, lenOfSl, cls, fresults, fresl, fres1, gt_iff_lt, ge_iff_le, reduceCtorEq, Nat.reduceAdd, Nat.reduceMul, Nat.reduceSub, Nat.reduceLT, Nat.reduceLeDiff, Nat.reduceEqDiff, Nat.reduceBEq, Nat.reduceBNe, Int.reduceLT, Int.reduceLE, Int.reduceEq, Int.reduceNe, Int.reduceAdd, Int.reduceSub, Int.reduceNeg, Int.reduceToNat, Int.reduceMul, ↓reduceIte, Int.reduceGT, Int.reduceGE, f3, f4, f19, f20, f21]
          exact ⟨⟨M, L, sl, by omega, hI1, hy1, hg1, hs, hp⟩, by omega, hold1⟩
    · clear f3 f4 f19 f20 f21 F
      rintro F g ⟨f3, f4, f19, f20, f21, ⟨M, L, sl, hMl, hI, hy, hg, hs, hp⟩, hlen, hold⟩
      simp (disch := first | omega | (simp only [List.length_append, List.length_cons, List.length_nil, length_hset, length_hkill]; omega)) only [↓fsPre, fsPost, fsCond, fsGen, npick, nbin, nun, nconv, nnilCheck, noff, nidxArr, nidxSl, nfield, npart, nindex, nextract, nlenSl, nlenStr, ncap, mmx, minmax2, nslice, nsliceArr, nbounds, obound, bound, adv, nbits, eqVal, eqCell, eqCells, nfill, lenOfSl, cls, fresults, fresl, fres1, gt_iff_lt, ge_iff_le, reduceCtorEq, Nat.reduceAdd, Nat.reduceMul, Nat.reduceSub, Nat.reduceLT, Nat.reduceLeDiff, Nat.reduceEqDiff, Nat.reduceBEq, Nat.reduceBNe, Int.reduceLT, Int.reduceLE, Int.reduceEq, Int.reduceNe, Int.reduceAdd, Int.reduceSub, Int.reduceNeg, Int.reduceToNat, Int.reduceMul, ↓reduceIte, Int.reduceGT, Int.reduceGE, f3, f4, f19, f20, f21]
      have lm := hI.hm.lt
      have lp := hget_some_lt hI.hp
      have ly := hget_some_lt hy
      have hLM := hp.length_eq
      refine callDT_one (xlen_ok _ _ _ _ hI) rfl ?_
      obtain ⟨B, d, hsl, hB⟩ := hg.prs
      rw [hsl] at hy
      simp (disch := first | omega | (simp only [List.length_append, List.length_cons, List.length_nil, length_hset, length_hkill]; omega)) only [↓fsPre, fsPost, fsCond, fsGen, npick, nbin, nun, nconv, nnilCheck, noff, nidxArr, nidxSl, nfield, npart, nindex, nextract, nlenSl, nlenStr, ncap, mmx, minmax2, nslice, nsliceArr, nbounds, obound, bound, adv, nbits, eqVal, eqCell, eqCells, nfill, lenOfSl, cls, fresults, fresl, fres1, gt_iff_lt, ge_iff_le, reduceCtorEq, Nat.reduceAdd, Nat.reduceMul, Nat.reduceSub, Nat.reduceLT, Nat.reduceLeDiff, Nat.reduceEqDiff, Nat.reduceBEq, Nat.reduceBNe, Int.reduceLT, Int.reduceLE, Int.reduceEq, Int.reduceNe, Int.reduceAdd, Int.reduceSub, Int.reduceNeg, Int.reduceToNat, Int.reduceMul, ↓reduceIte, Int.reduceGT, Int.reduceGE, f3, f4, f19, f20, f21, hy, hLM]
      rw [hsl] at hg
      by_cases h0 : M = []
      · subst h0
        have hL0 : L = [] := by simpa using hLM
        subst hL0
        refine callDT_one (xall_nil _ _ _ hI) rfl ?_
        simp (disch := first | omega | (simp only [List.length_append, List.length_cons, List.length_nil, length_hset, length_hkill]; omega)) only [↓fsPre, fsPost, fsCond, fsGen, npick, nbin, nun, nconv, nnilCheck, noff, nidxArr, nidxSl, nfield, npart, nindex, nextract, nlenSl, nlenStr, ncap, mmx, minmax2, nslice, nsliceArr, nbounds, obound, bound, adv, nbits, eqVal, eqCell, eqCells, nfill, lenOfSl, cls, fresults, fresl, fres1, gt_iff_lt, ge_iff_le, reduceCtorEq, Nat.reduceAdd, Nat.reduceMul, Nat.reduceSub, Nat.reduceLT, Nat.reduceLeDiff, Nat.reduceEqDiff, Nat.reduceBEq, Nat.reduceBNe, Int.reduceLT, Int.reduceLE, Int.reduceEq, Int.reduceNe, Int.reduceAdd, Int.reduceSub, Int.reduceNeg, Int.reduceToNat, Int.reduceMul, ↓reduceIte, Int.reduceGT, Int.reduceGE, f3, f4, f19, f20, f21, hy]
        refine callDT_one (same11_ok _ _ _ [] (.inl ⟨rfl, none, rfl⟩) hg (by simp)) rfl ?_
        simp (disch := first | omega | (simp only [List.length_append, List.length_cons, List.length_nil, length_hset, length_hkill]; omega)) only [↓fsPre, fsPost, fsCond, fsGen, npick, nbin, nun, nconv, nnilCheck, noff, nidxArr, nidxSl, nfield, npart, nindex, nextract, nlenSl, nlenStr, ncap, mmx, minmax2, nslice, nsliceArr, nbounds, obound, bound, adv, nbits, eqVal, eqCell, eqCells, nfill, lenOfSl, cls, fresults, fresl, fres1, gt_iff_lt, ge_iff_le, reduceCtorEq, Nat.reduceAdd, Nat.reduceMul, Nat.reduceSub, Nat.reduceLT, Nat.reduceLeDiff, Nat.reduceEqDiff, Nat.reduceBEq, Nat.reduceBNe, Int.reduceLT, Int.reduceLE, Int.reduceEq, Int.reduceNe, Int.reduceAdd, Int.reduceSub, Int.reduceNeg, Int.reduceToNat, Int.reduceMul, ↓reduceIte, Int.reduceGT, Int.reduceGE, f3, f4, f19, f20, f21, hy]
        exact ⟨⟨[], [], _, by simp, hI, hy, hg, hs, hp⟩, hlen, hold⟩
      · have hM0 : 0 < M.length := List.length_pos_iff.2 h0
        refine callDT_one (xall_ok _ _ _ _ L hI hs hp (by omega) h0) rfl ?_
        simp (disch := first | omega | (simp only [List.length_append, List.length_cons, List.length_nil, length_hset, length_hkill]; omega)) only [↓fsPre, fsPost, fsCond, fsGen, npick, nbin, nun, nconv, nnilCheck, noff, nidxArr, nidxSl, nfield, npart, nindex, nextract, nlenSl, nlenStr, ncap, mmx, minmax2, nslice, nsliceArr, nbounds, obound, bound, adv, nbits, eqVal, eqCell, eqCells, nfill, lenOfSl, cls, fresults, fresl, fres1, gt_iff_lt, ge_iff_le, reduceCtorEq, Nat.reduceAdd, Nat.reduceMul, Nat.reduceSub, Nat.reduceLT, Nat.reduceLeDiff, Nat.reduceEqDiff, Nat.reduceBEq, Nat.reduceBNe, Int.reduceLT, Int.reduceLE, Int.reduceEq, Int.reduceNe, Int.reduceAdd, Int.reduceSub, Int.reduceNeg, Int.reduceToNat, Int.reduceMul, ↓reduceIte, Int.reduceGT, Int.reduceGE, f3, f4, f19, f20, f21, hy]
        refine callDT_one (same11_ok _ _ _ L (.inr ⟨_, _, rfl, hget_append_new, prs_length L, by omega⟩) (hg.mono fun b hb => hget_appl hb) (by omega)) rfl ?_
        simp (disch := first | omega | (simp only [List.length_append, List.length_cons, List.length_nil, length_hset, length_hkill]; omega)) only [↓fsPre, fsPost, fsCond, fsGen, npick, nbin, nun, nconv, nnilCheck, noff, nidxArr, nidxSl, nfield, npart, nindex, nextract, nlenSl, nlenStr, ncap, mmx, minmax2, nslice, nsliceArr, nbounds, obound, bound, adv, nbits, eqVal, eqCell, eqCells, nfill, lenOfSl, cls, fresults, fresl, fres1, gt_iff_lt, ge_iff_le, reduceCtorEq, Nat.reduceAdd, Nat.reduceMul, Nat.reduceSub, Nat.reduceLT, Nat.reduceLeDiff, Nat.reduceEqDiff, Nat.reduceBEq, Nat.reduceBNe, Int.reduceLT, Int.reduceLE, Int.reduceEq, Int.reduceNe, Int.reduceAdd, Int.reduceSub, Int.reduceNeg, Int.reduceToNat, Int.reduceMul, ↓reduceIte, Int.reduceGT, Int.reduceGE, f3, f4, f19, f20, f21, hy]
        exact ⟨by rw [hLM], ⟨⟨M, L, _, by omega, hI.mono (hget_appl lp) (hget_appl lm), by rw [hget_appl ly]; exact hy, hg.mono fun b hb => hget_appl hb, hs, hp⟩, by simp; omega, fun b hb => by rw [hget_appl (by omega)]; exact hold b hb⟩⟩
  · rintro F h ⟨f3, f4, f19, f20, f21, _⟩
    simp (disch := first | omega | (simp only [List.length_append, List.length_cons, List.length_nil, length_hset, length_hkill]; omega)) only [↓fsPre, fsPost, fsCond, fsGen, npick, nbin, nun, nconv, nnilCheck, noff, nidxArr, nidxSl, nfield, npart, nindex, nextract, nlenSl, nlenStr, ncap, mmx, minmax2, nslice, nsliceArr, nbounds, obound, bound, adv, nbits, eqVal, eqCell, eqCells, nfill, lenOfSl, cls, fresults, fresl, fres1, gt_iff_lt, ge_iff_le, reduceCtorEq, Nat.reduceAdd, Nat.reduceMul, Nat.reduceSub, Nat.reduceLT, Nat.reduceLeDiff, Nat.reduceEqDiff, Nat.reduceBEq, Nat.reduceBNe, Int.reduceLT, Int.reduceLE, Int.reduceEq, Int.reduceNe, Int.reduceAdd, Int.reduceSub, Int.reduceNeg, Int.reduceToNat, Int.reduceMul, ↓reduceIte, Int.reduceGT, Int.reduceGE, f3, f4, f19, f20, f21]
    refine callT_one (begun11_ok _) rfl ?_
    simp (disch := first | omega | (simp only [List.length_append, List.length_cons, List.length_nil, length_hset, length_hkill]; omega)) only [↓fsPre, fsPost, fsCond, fsGen, npick, nbin, nun, nconv, nnilCheck, noff, nidxArr, nidxSl, nfield, npart, nindex, nextract, nlenSl, nlenStr, ncap, mmx, minmax2, nslice, nsliceArr, nbounds, obound, bound, adv, nbits, eqVal, eqCell, eqCells, nfill, lenOfSl, cls, fresults, fresl, fres1, gt_iff_lt, ge_iff_le, reduceCtorEq, Nat.reduceAdd, Nat.reduceMul, Nat.reduceSub, Nat.reduceLT, Nat.reduceLeDiff, Nat.reduceEqDiff, Nat.reduceBEq, Nat.reduceBNe, Int.reduceLT, Int.reduceLE, Int.reduceEq, Int.reduceNe, Int.reduceAdd, Int.reduceSub, Int.reduceNeg, Int.reduceToNat, Int.reduceMul, ↓reduceIte, Int.reduceGT, Int.reduceGE]

def kindsEC : List PK := [.sl kOp]
theorem walkEC (nvs : List NV) (h : Heap) (ok : argsOK kindsEC 0 nvs h) : NFun Try.prog 4 nvs h (fun q => q.1 = .bool true) := by
  obtain ⟨v, vs, x, h, rfl, rfl, h1, ok⟩ := argsOK_cons ok
  obtain ⟨rfl, rfl⟩ := argsOK_nil ok
  obtain ⟨xs, hx⟩ := argOK_ops (H := [x]) h1 rfl
  exact calls_ok _ _ xs hx
end Go.Proofs
