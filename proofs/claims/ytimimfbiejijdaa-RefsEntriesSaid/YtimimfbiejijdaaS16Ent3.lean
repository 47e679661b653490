/- Entries that are made of codes: Entries. -/
import Derived.Test.YtimimfbiejijdaaS16Ent2
set_option linter.unusedSimpArgs false
set_option linter.unusedVariables false
set_option maxRecDepth 10000
namespace Go.Proofs
open Go.Ns

theorem EnAt.ext {h h' : Heap} {N : Nat} {row : List NV} {e : En} (x : EnAt h N row e) (k : Ext N h h') : EnAt h' N row e := by
  obtain ⟨mv, av, h1, h2, h3⟩ := x
  exact ⟨mv, av, h1, h2.ext k, h3.ext k⟩
theorem EnAt.low {h : Heap} {N M : Nat} {row : List NV} {e : En} (x : EnAt h N row e) (k : M ≤ N) : EnAt h M row e := by
  obtain ⟨mv, av, h1, h2, h3⟩ := x
  exact ⟨mv, av, h1, h2.low k, h3.low k⟩
def EnSep (row : List NV) (w : NV) : Prop := ∀ x ∈ row, Sep x w
theorem EnAt.keep {h h' : Heap} {N : Nat} {row : List NV} {e : En} {w : NV} (x : EnAt h N row e) (k : ∀ b, b < h.length → (∀ o n c, w ≠ .slice (some (b, o)) n c) → hget h' b = hget h b) (s : EnSep row w) : EnAt h' N row e := by
  obtain ⟨mv, av, rfl, h2, h3⟩ := x
  exact ⟨mv, av, rfl, h2.keep k (s _ (by simp)), h3.keep k (s _ (by simp))⟩
theorem EnAt.sep {h : Heap} {N : Nat} {row : List NV} {e : En} {w : NV} (x : EnAt h N row e) (k : ∀ b, b < h.length → ∀ o n c, w ≠ .slice (some (b, o)) n c) : EnSep row w := by
  obtain ⟨mv, av, rfl, h2, h3⟩ := x
  intro y hy
  simp only [List.mem_cons, List.not_mem_nil, or_false] at hy
  rcases hy with rfl | rfl | rfl | rfl | rfl
  · intro b o n c o' n' c' e; cases e
  · exact h2.sep k
  · intro b o n c o' n' c' e; cases e
  · intro b o n c o' n' c' e; cases e
  · exact h3.sep k
theorem grc_sep2 {h : Heap} {N e : Nat} {C : List NV} {v w : NV} (g : GrC h N C e v) (k : ∀ b, N ≤ b → ∀ o n c, w ≠ .slice (some (b, o)) n c) : Sep v w := by
  intro b o n c o' n' c' e
  rcases g with ⟨_, rfl⟩ | ⟨b2, l, rfl, h2, h3, _⟩
  · cases e
  · cases e
    exact k _ h2 _ _ _
theorem EnAt.sep2 {h : Heap} {N : Nat} {row : List NV} {e : En} {w : NV} (x : EnAt h N row e) (k : ∀ b, N ≤ b → ∀ o n c, w ≠ .slice (some (b, o)) n c) : EnSep row w := by
  obtain ⟨mv, av, rfl, h2, h3⟩ := x
  intro y hy
  simp only [List.mem_cons, List.not_mem_nil, or_false] at hy
  rcases hy with rfl | rfl | rfl | rfl | rfl
  · intro b o n c o' n' c' e; cases e
  · exact grc_sep2 h2 k
  · intro b o n c o' n' c' e; cases e
  · intro b o n c o' n' c' e; cases e
  · exact grc_sep2 h3 k
theorem EnAt.length {h : Heap} {N : Nat} {row : List NV} {e : En} (x : EnAt h N row e) : row.length = 5 := by
  obtain ⟨mv, av, rfl, _⟩ := x; rfl

/-- A list of entries. -/
def EnL (h : Heap) (N : Nat) (t : TP) (v : NV) (es : List En) : Prop :=
  ∃ rows : List (List NV), rows.length = es.length ∧ GrC h N rows.flatten 5 v ∧ ∀ i (h1 : i < rows.length) (h2 : i < es.length), EnAt h N rows[i] es[i] ∧ EnOK t es[i] ∧ EnSep rows[i] v
theorem flat5 {rows : List (List NV)} (h : ∀ r ∈ rows, r.length = 5) : rows.flatten.length = rows.length * 5 := by
  induction rows with
  | nil => rfl
  | cons r rows ih =>
    rw [List.flatten_cons, List.length_append, h r (List.mem_cons_self ..), ih fun x hx => h x (List.mem_cons_of_mem _ hx), List.length_cons]; omega

set_option maxHeartbeats 4000000 in
theorem entries_ok (N : Nat) (H : Heap) (p n : Nat) (sl : NV) (hc : CodesSt H H p n sl) (t : TP) (acs : List (List Tr)) (z0 z1 z2 z3 z4 z5 z6 z7 z8 z9 : NV) (hSc : ∀ h, CodesSt H h p n sl → ScV N h t acs z0 z1 z2 z3 z4 z5 z6 z7 z8 z9) (m : Nat) (hm : m ≤ 20) :
    DCall Try.prog 9 [.ptr (some (p, 0)), .agg [z0, z1, z2, z3, z4, z5, z6, z7, z8, z9], .int .i64 m] H fun r => ∃ es, EnL r.2 H.length t r.1 es ∧ es.length ≤ m ∧ CodesSt H r.2 p n sl := by
  have s := hSc H hc
  have hc' := hc
  obtain ⟨_, _, ⟨a0, hp, hb0, hb1⟩, hs⟩ := hc
  have hpl := hget_some_lt hp
  obtain ⟨o1, o2, o5, o6, o7, o8, o9⟩ := s.o
  have o0 := Tr.rep_one s.rf
  have o3 := Tr.rep_one s.ra
  have o4 := Tr.rep_one s.rt
  refine call_det E0 rfl mixed t9_ok (by kernel_rfl) (by rintro q ⟨_, _, _, h⟩; exact h.len) ?_
  simp only [t9]
  simp (disch := first | omega | (simp only [List.length_append, List.length_cons, List.length_nil, length_hset, length_hkill]; omega)) only [↓fsPre, fsPost, fsCond, fsGen, npick, nnilCheck, noff, nidxArr, nidxSl, nfield, npart, nindex, nextract, nlenSl, nlenStr, ncap, mmx, minmax2, nslice, nsliceArr, nbounds, obound, bound, adv, eqVal, eqCells, nfill, lenOfSl, cls, fresults, fresl, fres1, gt_iff_lt, ge_iff_le, v_i64_add, v_i64_sub, v_i64_mul, v_i64_quo, v_i64_rem, v_i64_eql, v_i64_neq, v_i64_lss, v_i64_leq, v_i64_gtr, v_i64_geq, v_i64_and, v_i64_or, v_i64_xor, v_i64_andNot, v_i64_shl, v_i64_shr, v_i64_neg, v_u8_add, v_u8_sub, v_u8_mul, v_u8_quo, v_u8_rem, v_u8_eql, v_u8_neq, v_u8_lss, v_u8_leq, v_u8_gtr, v_u8_geq, v_u8_and, v_u8_or, v_u8_xor, v_u8_andNot, v_u8_shl, v_u8_shr, v_u8_neg, v_eqc_bool, v_eqc_int, v_eqc_str, v_not, v_str_eql, v_str_neq, v_conv_i64_i64, v_conv_i64_u8, v_conv_u8_i64, v_conv_u8_u8, nbool_undef, guardK_none, j_add, j_sub, j_and, j_or, j_shl_c, j_shl_j, j_conv, j_eql, j_neq, reduceCtorEq, Nat.reduceAdd, Nat.reduceMul, Nat.reduceSub, Nat.reduceLT, Nat.reduceLeDiff, Nat.reduceEqDiff, Nat.reduceBEq, Nat.reduceBNe, Int.reduceLT, Int.reduceLE, Int.reduceEq, Int.reduceNe, Int.reduceAdd, Int.reduceSub, Int.reduceNeg, Int.reduceToNat, Int.reduceMul, ↓reduceIte, Int.reduceGT, Int.reduceGE, o0, o1, o2, o3, o4, o5, o6, o7, o8, o9]
  have pne : H.length ≠ p := by omega
  refine wloop (fun k F h => F 0 = .ptr (some (p, 0)) ∧ F 2 = .int .i64 m ∧ F 4 = .ptr (some (H.length, 0)) ∧ CodesSt H h p n sl ∧ H.length + 1 ≤ h.length ∧ hget h H.length = some (.cells [z0, z1, z2, z3, z4, z5, z6, z7, z8, z9] false) ∧ ∃ es, es.length = k ∧ EnL h (H.length + 1) t (F 7) es) m ?_ ?_ ?_
  · simp (disch := first | omega | (simp only [List.length_append, List.length_cons, List.length_nil, length_hset, length_hkill]; omega)) only [↓fsPre, fsPost, fsCond, fsGen, npick, nnilCheck, noff, nidxArr, nidxSl, nfield, npart, nindex, nextract, nlenSl, nlenStr, ncap, mmx, minmax2, nslice, nsliceArr, nbounds, obound, bound, adv, eqVal, eqCells, nfill, lenOfSl, cls, fresults, fresl, fres1, gt_iff_lt, ge_iff_le, v_i64_add, v_i64_sub, v_i64_mul, v_i64_quo, v_i64_rem, v_i64_eql, v_i64_neq, v_i64_lss, v_i64_leq, v_i64_gtr, v_i64_geq, v_i64_and, v_i64_or, v_i64_xor, v_i64_andNot, v_i64_shl, v_i64_shr, v_i64_neg, v_u8_add, v_u8_sub, v_u8_mul, v_u8_quo, v_u8_rem, v_u8_eql, v_u8_neq, v_u8_lss, v_u8_leq, v_u8_gtr, v_u8_geq, v_u8_and, v_u8_or, v_u8_xor, v_u8_andNot, v_u8_shl, v_u8_shr, v_u8_neg, v_eqc_bool, v_eqc_int, v_eqc_str, v_not, v_str_eql, v_str_neq, v_conv_i64_i64, v_conv_i64_u8, v_conv_u8_i64, v_conv_u8_u8, nbool_undef, guardK_none, j_add, j_sub, j_and, j_or, j_shl_c, j_shl_j, j_conv, j_eql, j_neq, reduceCtorEq, Nat.reduceAdd, Nat.reduceMul, Nat.reduceSub, Nat.reduceLT, Nat.reduceLeDiff, Nat.reduceEqDiff, Nat.reduceBEq, Nat.reduceBNe, Int.reduceLT, Int.reduceLE, Int.reduceEq, Int.reduceNe, Int.reduceAdd, Int.reduceSub, Int.reduceNeg, Int.reduceToNat, Int.reduceMul, ↓reduceIte, Int.reduceGT, Int.reduceGE]
    exact ⟨hc'.app0, [], rfl, [], rfl, .nil, by intro i h1; simp at h1⟩
  · rintro k F h hk ⟨f0, f2, f4, st, hl, b4, es, hes, rows, hrl, hg, hrow⟩
    obtain ⟨_, _, ⟨a5, hp5, hb05, hb15⟩, hs5⟩ := id st
    have hpl5 := hget_some_lt hp5
    have hr5 : ∀ r ∈ rows, r.length = 5 := by
      intro r hr
      obtain ⟨i, hi, rfl⟩ := List.getElem_of_mem hr
      exact (hrow i hi (by omega)).1.length
    have hfl := flat5 hr5
    obtain ⟨oa, oc, on, hv7, hon⟩ := hg.shape (by omega)
    have hon2 : on = k := by omega
    subst hon2
    have hd : decide ((on : Int) < m) = true := decide_eq_true (by omega)
    simp (disch := first | omega | (simp only [List.length_append, List.length_cons, List.length_nil, length_hset, length_hkill]; omega)) only [↓fsPre, fsPost, fsCond, fsGen, npick, nnilCheck, noff, nidxArr, nidxSl, nfield, npart, nindex, nextract, nlenSl, nlenStr, ncap, mmx, minmax2, nslice, nsliceArr, nbounds, obound, bound, adv, eqVal, eqCells, nfill, lenOfSl, cls, fresults, fresl, fres1, gt_iff_lt, ge_iff_le, v_i64_add, v_i64_sub, v_i64_mul, v_i64_quo, v_i64_rem, v_i64_eql, v_i64_neq, v_i64_lss, v_i64_leq, v_i64_gtr, v_i64_geq, v_i64_and, v_i64_or, v_i64_xor, v_i64_andNot, v_i64_shl, v_i64_shr, v_i64_neg, v_u8_add, v_u8_sub, v_u8_mul, v_u8_quo, v_u8_rem, v_u8_eql, v_u8_neq, v_u8_lss, v_u8_leq, v_u8_gtr, v_u8_geq, v_u8_and, v_u8_or, v_u8_xor, v_u8_andNot, v_u8_shl, v_u8_shr, v_u8_neg, v_eqc_bool, v_eqc_int, v_eqc_str, v_not, v_str_eql, v_str_neq, v_conv_i64_i64, v_conv_i64_u8, v_conv_u8_i64, v_conv_u8_u8, nbool_undef, guardK_none, j_add, j_sub, j_and, j_or, j_shl_c, j_shl_j, j_conv, j_eql, j_neq, reduceCtorEq, Nat.reduceAdd, Nat.reduceMul, Nat.reduceSub, Nat.reduceLT, Nat.reduceLeDiff, Nat.reduceEqDiff, Nat.reduceBEq, Nat.reduceBNe, Int.reduceLT, Int.reduceLE, Int.reduceEq, Int.reduceNe, Int.reduceAdd, Int.reduceSub, Int.reduceNeg, Int.reduceToNat, Int.reduceMul, ↓reduceIte, Int.reduceGT, Int.reduceGE, f0, f2, f4, hv7, hd]
    refine callT_one (left_ok h p n sl a5 hp5 hs5) rfl ?_
    by_cases hleft : a5 < n
    · simp (disch := first | omega | (simp only [List.length_append, List.length_cons, List.length_nil, length_hset, length_hkill]; omega)) only [↓fsPre, fsPost, fsCond, fsGen, npick, nnilCheck, noff, nidxArr, nidxSl, nfield, npart, nindex, nextract, nlenSl, nlenStr, ncap, mmx, minmax2, nslice, nsliceArr, nbounds, obound, bound, adv, eqVal, eqCells, nfill, lenOfSl, cls, fresults, fresl, fres1, gt_iff_lt, ge_iff_le, v_i64_add, v_i64_sub, v_i64_mul, v_i64_quo, v_i64_rem, v_i64_eql, v_i64_neq, v_i64_lss, v_i64_leq, v_i64_gtr, v_i64_geq, v_i64_and, v_i64_or, v_i64_xor, v_i64_andNot, v_i64_shl, v_i64_shr, v_i64_neg, v_u8_add, v_u8_sub, v_u8_mul, v_u8_quo, v_u8_rem, v_u8_eql, v_u8_neq, v_u8_lss, v_u8_leq, v_u8_gtr, v_u8_geq, v_u8_and, v_u8_or, v_u8_xor, v_u8_andNot, v_u8_shl, v_u8_shr, v_u8_neg, v_eqc_bool, v_eqc_int, v_eqc_str, v_not, v_str_eql, v_str_neq, v_conv_i64_i64, v_conv_i64_u8, v_conv_u8_i64, v_conv_u8_u8, nbool_undef, guardK_none, j_add, j_sub, j_and, j_or, j_shl_c, j_shl_j, j_conv, j_eql, j_neq, reduceCtorEq, Nat.reduceAdd, Nat.reduceMul, Nat.reduceSub, Nat.reduceLT, Nat.reduceLeDiff, Nat.reduceEqDiff, Nat.reduceBEq, Nat.reduceBNe, Int.reduceLT, Int.reduceLE, Int.reduceEq, Int.reduceNe, Int.reduceAdd, Int.reduceSub, Int.reduceNeg, Int.reduceToNat, Int.reduceMul, ↓reduceIte, Int.reduceGT, Int.reduceGE, f0, f2, f4, hv7, b4, decide_eq_true hleft, o0, o1, o2, o3, o4, o5, o6, o7, o8, o9]
      refine callDT_D (next_ok _ p n 4 sl a5 (by simp (disch := first | omega | (simp only [List.length_append, List.length_cons, List.length_nil, length_hset, length_hkill]; omega)) only [↓fsPre, fsPost, fsCond, fsGen, npick, nbin, nun, nconv, nnilCheck, noff, nidxArr, nidxSl, nfield, npart, nindex, nextract, nlenSl, nlenStr, ncap, mmx, minmax2, nslice, nsliceArr, nbounds, obound, bound, adv, nbits, eqVal, eqCell, eqCells, nfill, lenOfSl, cls, fresults, fresl, fres1, gt_iff_lt, ge_iff_le, reduceCtorEq, Nat.reduceAdd, Nat.reduceMul, Nat.reduceSub, Nat.reduceLT, Nat.reduceLeDiff, Nat.reduceEqDiff, Nat.reduceBEq, Nat.reduceBNe, Int.reduceLT, Int.reduceLE, Int.reduceEq, Int.reduceNe, Int.reduceAdd, Int.reduceSub, Int.reduceNeg, Int.reduceToNat, Int.reduceMul, ↓reduceIte, Int.reduceGT, Int.reduceGE, hp5]) hs5.app hb05 hb15 (by omega) (by omega)) rfl ?_
      rintro v h' ⟨x6, a6, e, x6a, x6b, hb06, hb16⟩
      cases e
      have b4' : hget (hset h p (.cells [sl, .int .i64 a6] false)) H.length = _ := (hget_hset_ne (by omega)).trans b4
      simp (disch := first | omega | (simp only [List.length_append, List.length_cons, List.length_nil, length_hset, length_hkill]; omega)) only [↓fsPre, fsPost, fsCond, fsGen, npick, nnilCheck, noff, nidxArr, nidxSl, nfield, npart, nindex, nextract, nlenSl, nlenStr, ncap, mmx, minmax2, nslice, nsliceArr, nbounds, obound, bound, adv, eqVal, eqCells, nfill, lenOfSl, cls, fresults, fresl, fres1, gt_iff_lt, ge_iff_le, v_i64_add, v_i64_sub, v_i64_mul, v_i64_quo, v_i64_rem, v_i64_eql, v_i64_neq, v_i64_lss, v_i64_leq, v_i64_gtr, v_i64_geq, v_i64_and, v_i64_or, v_i64_xor, v_i64_andNot, v_i64_shl, v_i64_shr, v_i64_neg, v_u8_add, v_u8_sub, v_u8_mul, v_u8_quo, v_u8_rem, v_u8_eql, v_u8_neq, v_u8_lss, v_u8_leq, v_u8_gtr, v_u8_geq, v_u8_and, v_u8_or, v_u8_xor, v_u8_andNot, v_u8_shl, v_u8_shr, v_u8_neg, v_eqc_bool, v_eqc_int, v_eqc_str, v_not, v_str_eql, v_str_neq, v_conv_i64_i64, v_conv_i64_u8, v_conv_u8_i64, v_conv_u8_u8, nbool_undef, guardK_none, j_add, j_sub, j_and, j_or, j_shl_c, j_shl_j, j_conv, j_eql, j_neq, reduceCtorEq, Nat.reduceAdd, Nat.reduceMul, Nat.reduceSub, Nat.reduceLT, Nat.reduceLeDiff, Nat.reduceEqDiff, Nat.reduceBEq, Nat.reduceBNe, Int.reduceLT, Int.reduceLE, Int.reduceEq, Int.reduceNe, Int.reduceAdd, Int.reduceSub, Int.reduceNeg, Int.reduceToNat, Int.reduceMul, ↓reduceIte, Int.reduceGT, Int.reduceGE, f0, f2, f4, hv7, b4, b4', o0, o1, o2, o3, o4, o5, o6, o7, o8, o9]
      have stN : CodesSt H (hset h p (.cells [sl, .int .i64 a6] false) ++ [none]) p n sl := (st.next hb06 hb16).app0
      refine callDT_D (entry_ok N _ p n sl stN.self t acs z0 z1 z2 z3 z4 z5 z6 z7 z8 z9 (fun h2 st2 => hSc h2 (stN.trans st2)) x6 x6a x6b) rfl ?_
      rintro v h' ⟨e, row, hv, hen, hok, st2⟩
      simp only at hv hen st2
      subst hv
      have hl2 := st2.len
      simp only [List.length_append, List.length_cons, List.length_nil, length_hset] at hl2 hen
      have stB := stN.trans st2
      have k4 : hget h' H.length = _ := (st2.old _ (by simp; omega) pne).trans ((hget_appl (by rw [length_hset]; omega)).trans b4')
      have ks : hget h' h.length = none := by
        rw [st2.old _ (by simp) (by omega)]; simp (disch := first | omega | (simp only [List.length_append, List.length_cons, List.length_nil, length_hset, length_hkill]; omega)) only [↓fsPre, fsPost, fsCond, fsGen, npick, nbin, nun, nconv, nnilCheck, noff, nidxArr, nidxSl, nfield, npart, nindex, nextract, nlenSl, nlenStr, ncap, mmx, minmax2, nslice, nsliceArr, nbounds, obound, bound, adv, nbits, eqVal, eqCell, eqCells, nfill, lenOfSl, cls, fresults, fresl, fres1, gt_iff_lt, ge_iff_le, reduceCtorEq, Nat.reduceAdd, Nat.reduceMul, Nat.reduceSub, Nat.reduceLT, Nat.reduceLeDiff, Nat.reduceEqDiff, Nat.reduceBEq, Nat.reduceBNe, Int.reduceLT, Int.reduceLE, Int.reduceEq, Int.reduceNe, Int.reduceAdd, Int.reduceSub, Int.reduceNeg, Int.reduceToNat, Int.reduceMul, ↓reduceIte, Int.reduceGT, Int.reduceGE]
      have hext : Ext (H.length + 1) h h' := ((Ext.set (by omega)).trans Ext.app).trans (st2.ext.mono (by omega))
      have hext2 : Ext (H.length + 1) h (hset h' h.length (.cells row false)) := hext.trans (ext_slot ks)
      have hg2 := hg.ext hext2
      have hlen5 := hen.length
      have hen2 : EnAt (hset h' h.length (.cells row false)) (H.length + 1) row e := (hen.low (by omega)).ext (ext_slot ks)
      obtain ⟨mv, av, hrw, q1, q2⟩ := id hen
      have om := q1.one
      have oav := q2.one
      subst hrw
      simp (disch := first | omega | (simp only [List.length_append, List.length_cons, List.length_nil, length_hset, length_hkill]; omega)) only [↓fsPre, fsPost, fsCond, fsGen, npick, nnilCheck, noff, nidxArr, nidxSl, nfield, npart, nindex, nextract, nlenSl, nlenStr, ncap, mmx, minmax2, nslice, nsliceArr, nbounds, obound, bound, adv, eqVal, eqCells, nfill, lenOfSl, cls, fresults, fresl, fres1, gt_iff_lt, ge_iff_le, v_i64_add, v_i64_sub, v_i64_mul, v_i64_quo, v_i64_rem, v_i64_eql, v_i64_neq, v_i64_lss, v_i64_leq, v_i64_gtr, v_i64_geq, v_i64_and, v_i64_or, v_i64_xor, v_i64_andNot, v_i64_shl, v_i64_shr, v_i64_neg, v_u8_add, v_u8_sub, v_u8_mul, v_u8_quo, v_u8_rem, v_u8_eql, v_u8_neq, v_u8_lss, v_u8_leq, v_u8_gtr, v_u8_geq, v_u8_and, v_u8_or, v_u8_xor, v_u8_andNot, v_u8_shl, v_u8_shr, v_u8_neg, v_eqc_bool, v_eqc_int, v_eqc_str, v_not, v_str_eql, v_str_neq, v_conv_i64_i64, v_conv_i64_u8, v_conv_u8_i64, v_conv_u8_u8, nbool_undef, guardK_none, j_add, j_sub, j_and, j_or, j_shl_c, j_shl_j, j_conv, j_eql, j_neq, reduceCtorEq, Nat.reduceAdd, Nat.reduceMul, Nat.reduceSub, Nat.reduceLT, Nat.reduceLeDiff, Nat.reduceEqDiff, Nat.reduceBEq, Nat.reduceBNe, Int.reduceLT, Int.reduceLE, Int.reduceEq, Int.reduceNe, Int.reduceAdd, Int.reduceSub, Int.reduceNeg, Int.reduceToNat, Int.reduceMul, ↓reduceIte, Int.reduceGT, Int.reduceGE, f0, f2, f4, hv7, b4, b4', k4, ks, om, oav, hl2]
      rw [← hv7]
      refine grc_app3 (N := H.length + 1) (new := [.int .i64 e.tab, mv, .int .i64 e.pr, .int .i64 e.act, av]) hg2 (by rw [length_hset]; omega) (sliceCells_at (by simp (disch := first | omega | (simp only [List.length_append, List.length_cons, List.length_nil, length_hset, length_hkill]; omega)) only [↓fsPre, fsPost, fsCond, fsGen, npick, nbin, nun, nconv, nnilCheck, noff, nidxArr, nidxSl, nfield, npart, nindex, nextract, nlenSl, nlenStr, ncap, mmx, minmax2, nslice, nsliceArr, nbounds, obound, bound, adv, nbits, eqVal, eqCell, eqCells, nfill, lenOfSl, cls, fresults, fresl, fres1, gt_iff_lt, ge_iff_le, reduceCtorEq, Nat.reduceAdd, Nat.reduceMul, Nat.reduceSub, Nat.reduceLT, Nat.reduceLeDiff, Nat.reduceEqDiff, Nat.reduceBEq, Nat.reduceBNe, Int.reduceLT, Int.reduceLE, Int.reduceEq, Int.reduceNe, Int.reduceAdd, Int.reduceSub, Int.reduceNeg, Int.reduceToNat, Int.reduceMul, ↓reduceIte, Int.reduceGT, Int.reduceGE] <;> rfl) rfl) rfl (by omega) (by omega) rfl (by omega) (by omega) (by omega) ?_
      intro w2 g hg4 hl5 old5 keep5 new5
      rw [length_hset] at hl5 keep5 new5
      have e4 : hget g H.length = _ := (old5 _ (by omega)).trans ((hget_hset_ne (by omega)).trans k4)
      have stC : CodesSt H g p n sl := stB.grow hpl hs (by omega) fun q hq => (old5 q (by omega)).trans (hget_hset_ne (by omega))
      have hlg : h.length + 1 ≤ g.length := by omega
      have keep6 : ∀ b, b < (hset h' h.length (.cells [.int .i64 e.tab, mv, .int .i64 e.pr, .int .i64 e.act, av] false)).length → (∀ o n c, F 7 ≠ .slice (some (b, o)) n c) → hget g b = hget (hset h' h.length (.cells [.int .i64 e.tab, mv, .int .i64 e.pr, .int .i64 e.act, av] false)) b := fun b hb => keep5 b (by rw [length_hset] at hb; exact hb)
      have new6 : ∀ b, b < (hset h' h.length (.cells [.int .i64 e.tab, mv, .int .i64 e.pr, .int .i64 e.act, av] false)).length → ∀ o n c, w2 ≠ .slice (some (b, o)) n c := fun b hb => new5 b (by rw [length_hset] at hb; exact hb)
      simp (disch := first | omega | (simp only [List.length_append, List.length_cons, List.length_nil, length_hset, length_hkill]; omega)) only [↓fsPre, fsPost, fsCond, fsGen, npick, nnilCheck, noff, nidxArr, nidxSl, nfield, npart, nindex, nextract, nlenSl, nlenStr, ncap, mmx, minmax2, nslice, nsliceArr, nbounds, obound, bound, adv, eqVal, eqCells, nfill, lenOfSl, cls, fresults, fresl, fres1, gt_iff_lt, ge_iff_le, v_i64_add, v_i64_sub, v_i64_mul, v_i64_quo, v_i64_rem, v_i64_eql, v_i64_neq, v_i64_lss, v_i64_leq, v_i64_gtr, v_i64_geq, v_i64_and, v_i64_or, v_i64_xor, v_i64_andNot, v_i64_shl, v_i64_shr, v_i64_neg, v_u8_add, v_u8_sub, v_u8_mul, v_u8_quo, v_u8_rem, v_u8_eql, v_u8_neq, v_u8_lss, v_u8_leq, v_u8_gtr, v_u8_geq, v_u8_and, v_u8_or, v_u8_xor, v_u8_andNot, v_u8_shl, v_u8_shr, v_u8_neg, v_eqc_bool, v_eqc_int, v_eqc_str, v_not, v_str_eql, v_str_neq, v_conv_i64_i64, v_conv_i64_u8, v_conv_u8_i64, v_conv_u8_u8, nbool_undef, guardK_none, j_add, j_sub, j_and, j_or, j_shl_c, j_shl_j, j_conv, j_eql, j_neq, reduceCtorEq, Nat.reduceAdd, Nat.reduceMul, Nat.reduceSub, Nat.reduceLT, Nat.reduceLeDiff, Nat.reduceEqDiff, Nat.reduceBEq, Nat.reduceBNe, Int.reduceLT, Int.reduceLE, Int.reduceEq, Int.reduceNe, Int.reduceAdd, Int.reduceSub, Int.reduceNeg, Int.reduceToNat, Int.reduceMul, ↓reduceIte, Int.reduceGT, Int.reduceGE, f0, f2, f4, hv7, b4, b4', k4, e4, hlg]
      refine ⟨stC, by omega, es ++ [e], by simp [hes], rows ++ [[.int .i64 e.tab, mv, .int .i64 e.pr, .int .i64 e.act, av]], by simp [hrl], by rw [List.flatten_append]; simpa using hg4, ?_⟩
      intro i h1 h2
      by_cases hi : i < rows.length
      · obtain ⟨x1, x2, x3⟩ := hrow i hi (by omega)
        rw [List.getElem_append_left hi, List.getElem_append_left (by omega)]
        have x4 := x1.ext hext2
        exact ⟨x4.keep keep6 x3, x2, x4.sep new6⟩
      · simp only [List.length_append, List.length_cons, List.length_nil] at h1
        have hi2 : i = rows.length := by omega
        subst hi2
        rw [List.getElem_append_right (Nat.le_refl _), List.getElem_append_right (by omega)]
        simp only [Nat.sub_self, hrl, List.getElem_cons_zero]
        have x3 : EnSep [.int .i64 e.tab, mv, .int .i64 e.pr, .int .i64 e.act, av] (F 7) := by
          exact EnAt.sep2 hen fun b hb => hg.lt (by omega)
        exact ⟨hen2.keep keep6 x3, hok, hen2.sep new6⟩
    · simp (disch := first | omega | (simp only [List.length_append, List.length_cons, List.length_nil, length_hset, length_hkill]; omega)) only [↓fsPre, fsPost, fsCond, fsGen, npick, nnilCheck, noff, nidxArr, nidxSl, nfield, npart, nindex, nextract, nlenSl, nlenStr, ncap, mmx, minmax2, nslice, nsliceArr, nbounds, obound, bound, adv, eqVal, eqCells, nfill, lenOfSl, cls, fresults, fresl, fres1, gt_iff_lt, ge_iff_le, v_i64_add, v_i64_sub, v_i64_mul, v_i64_quo, v_i64_rem, v_i64_eql, v_i64_neq, v_i64_lss, v_i64_leq, v_i64_gtr, v_i64_geq, v_i64_and, v_i64_or, v_i64_xor, v_i64_andNot, v_i64_shl, v_i64_shr, v_i64_neg, v_u8_add, v_u8_sub, v_u8_mul, v_u8_quo, v_u8_rem, v_u8_eql, v_u8_neq, v_u8_lss, v_u8_leq, v_u8_gtr, v_u8_geq, v_u8_and, v_u8_or, v_u8_xor, v_u8_andNot, v_u8_shl, v_u8_shr, v_u8_neg, v_eqc_bool, v_eqc_int, v_eqc_str, v_not, v_str_eql, v_str_neq, v_conv_i64_i64, v_conv_i64_u8, v_conv_u8_i64, v_conv_u8_u8, nbool_undef, guardK_none, j_add, j_sub, j_and, j_or, j_shl_c, j_shl_j, j_conv, j_eql, j_neq, reduceCtorEq, Nat.reduceAdd, Nat.reduceMul, Nat.reduceSub, Nat.reduceLT, Nat.reduceLeDiff, Nat.reduceEqDiff, Nat.reduceBEq, Nat.reduceBNe, Int.reduceLT, Int.reduceLE, Int.reduceEq, Int.reduceNe, Int.reduceAdd, Int.reduceSub, Int.reduceNeg, Int.reduceToNat, Int.reduceMul, ↓reduceIte, Int.reduceGT, Int.reduceGE, f0, f2, f4, hv7, decide_eq_false hleft]
      rw [← hv7]
      refine ⟨es, ⟨rows, hrl, hg.low (by omega), fun i h1 h2 => ?_⟩, by omega, st⟩
      obtain ⟨x1, x2, x3⟩ := hrow i h1 h2
      exact ⟨x1.low (by omega), x2, x3⟩
  · rintro F h ⟨f0, f2, f4, st, hl, b4, es, hes, rows, hrl, hg, hrow⟩
    have hr5 : ∀ r ∈ rows, r.length = 5 := by
      intro r hr
      obtain ⟨i, hi, rfl⟩ := List.getElem_of_mem hr
      exact (hrow i hi (by omega)).1.length
    have hfl := flat5 hr5
    obtain ⟨oa, oc, on, hv7, hon⟩ := hg.shape (by omega)
    have hon2 : on = m := by omega
    subst hon2
    simp (disch := first | omega | (simp only [List.length_append, List.length_cons, List.length_nil, length_hset, length_hkill]; omega)) only [↓fsPre, fsPost, fsCond, fsGen, npick, nnilCheck, noff, nidxArr, nidxSl, nfield, npart, nindex, nextract, nlenSl, nlenStr, ncap, mmx, minmax2, nslice, nsliceArr, nbounds, obound, bound, adv, eqVal, eqCells, nfill, lenOfSl, cls, fresults, fresl, fres1, gt_iff_lt, ge_iff_le, v_i64_add, v_i64_sub, v_i64_mul, v_i64_quo, v_i64_rem, v_i64_eql, v_i64_neq, v_i64_lss, v_i64_leq, v_i64_gtr, v_i64_geq, v_i64_and, v_i64_or, v_i64_xor, v_i64_andNot, v_i64_shl, v_i64_shr, v_i64_neg, v_u8_add, v_u8_sub, v_u8_mul, v_u8_quo, v_u8_rem, v_u8_eql, v_u8_neq, v_u8_lss, v_u8_leq, v_u8_gtr, v_u8_geq, v_u8_and, v_u8_or, v_u8_xor, v_u8_andNot, v_u8_shl, v_u8_shr, v_u8_neg, v_eqc_bool, v_eqc_int, v_eqc_str, v_not, v_str_eql, v_str_neq, v_conv_i64_i64, v_conv_i64_u8, v_conv_u8_i64, v_conv_u8_u8, nbool_undef, guardK_none, j_add, j_sub, j_and, j_or, j_shl_c, j_shl_j, j_conv, j_eql, j_neq, reduceCtorEq, Nat.reduceAdd, Nat.reduceMul, Nat.reduceSub, Nat.reduceLT, Nat.reduceLeDiff, Nat.reduceEqDiff, Nat.reduceBEq, Nat.reduceBNe, Int.reduceLT, Int.reduceLE, Int.reduceEq, Int.reduceNe, Int.reduceAdd, Int.reduceSub, Int.reduceNeg, Int.reduceToNat, Int.reduceMul, ↓reduceIte, Int.reduceGT, Int.reduceGE, f0, f2, f4, hv7, nbool_undef, guardK_none]
    rw [← hv7]
    refine ⟨es, ⟨rows, hrl, hg.low (by omega), fun i h1 h2 => ?_⟩, by omega, st⟩
    obtain ⟨x1, x2, x3⟩ := hrow i h1 h2
    exact ⟨x1.low (by omega), x2, x3⟩
end Go.Proofs
