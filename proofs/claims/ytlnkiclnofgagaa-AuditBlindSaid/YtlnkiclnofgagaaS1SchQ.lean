/- A schema as the laws about roles see it; Mod. -/
import Derived.Test.YtlnkiclnofgagaaS1Ids
set_option linter.unusedSimpArgs false
set_option linter.unusedVariables false
set_option maxRecDepth 10000
namespace Go.Proofs
open Go.Ns

/-- The ten values of a schema with its roles in block 'b'. -/
def RSch (h : Heap) (b : Nat) (q : Nat → Int) (z0 z1 z2 z3 z4 z5 z7 z8 z9 : NV) : Prop :=
  (∀ v ∈ [z0, z1, z2, z3, z4], ∀ b' m c, v = .slice (some (b', 0)) m c → b' < b) ∧ RowsOf h 3 z0 ∧ RowsOf h 3 z1 ∧ RowsOf h 5 z2 ∧ RowsOf h 5 z3 ∧ RowsOf h 8 z4 ∧ RolesAt h b q ∧ (z0.one = true ∧ z1.one = true ∧ z2.one = true ∧ z3.one = true ∧ z4.one = true ∧ z5.one = true ∧ z7.one = true ∧ z8.one = true ∧ z9.one = true)

theorem RSch.mono {h h' : Heap} {b : Nat} {q : Nat → Int} {z0 z1 z2 z3 z4 z5 z7 z8 z9 : NV} (r : RSch h b q z0 z1 z2 z3 z4 z5 z7 z8 z9) (o : ∀ b, b < h.length → hget h' b = hget h b) : RSch h' b q z0 z1 z2 z3 z4 z5 z7 z8 z9 := by
  obtain ⟨ra, r0, r1, r2, r3, r4, r6, hz⟩ := r
  exact ⟨ra, r0.mono o, r1.mono o, r2.mono o, r3.mono o, r4.mono o, r6.mono (o _ r6.lt), hz⟩

theorem RowsOf.set {h : Heap} {e b : Nat} {v : NV} {x : NBlk} (r : RowsOf h e v) (o : ∀ b' m c, v = .slice (some (b', 0)) m c → b' < b) : RowsOf (hset h b x) e v := by
  obtain ⟨a, n, c, rfl, h2, h3⟩ := r
  refine ⟨a, n, c, rfl, h2, fun hn => ?_⟩
  obtain ⟨b', cs, ro, rfl, g2, g3⟩ := h3 hn
  have := o b' n c rfl
  exact ⟨b', cs, ro, rfl, by rw [hget_hset_ne (by omega)]; exact g2, g3⟩
theorem RSch.set {h : Heap} {b : Nat} {q q' : Nat → Int} {z0 z1 z2 z3 z4 z5 z7 z8 z9 : NV} {x : NBlk} (r : RSch h b q z0 z1 z2 z3 z4 z5 z7 z8 z9) (r' : RolesAt (hset h b x) b q') : RSch (hset h b x) b q' z0 z1 z2 z3 z4 z5 z7 z8 z9 := by
  obtain ⟨ra, r0, r1, r2, r3, r4, r6, hz⟩ := r
  exact ⟨ra, r0.set (ra _ (by simp)), r1.set (ra _ (by simp)), r2.set (ra _ (by simp)), r3.set (ra _ (by simp)), r4.set (ra _ (by simp)), r', hz⟩
theorem states_rows {sts : List (List Tr)} (h : StatesOK sts) : sts.length ≤ 20 ∧ ∀ j (hj : j < sts.length), sts[j].length = 5 := by
  obtain ⟨d1, d2, c1, c3, rfl, _⟩ := h
  refine ⟨by simp, fun j hj => ?_⟩
  match j, hj with
  | 0, _ => rfl
  | 1, _ => rfl
  | 2, _ => rfl
theorem actions_rows {acs : List (List Tr)} (h : ActionsOK acs) : acs.length ≤ 20 ∧ ∀ j (hj : j < acs.length), acs[j].length = 5 := by
  obtain ⟨s2, s4, d, c, rfl, _⟩ := h
  refine ⟨by simp [acts], fun j hj => ?_⟩
  match j, hj with
  | 0, _ => rfl
  | 1, _ => rfl
  | 2, _ => rfl
  | 3, _ => rfl
  | 4, _ => rfl
  | 5, _ => rfl
theorem tables_rows (t : TP) : t.rows.length ≤ 20 ∧ ∀ j (hj : j < t.rows.length), t.rows[j].length = 8 := by
  refine ⟨by simp [TP.rows], fun j hj => ?_⟩
  match j, hj with
  | 0, _ => rfl
  | 1, _ => rfl
  | 2, _ => rfl
  | 3, _ => rfl
theorem field_rows : fieldRows.length ≤ 20 ∧ ∀ j (hj : j < fieldRows.length), fieldRows[j].length = 3 := by
  refine ⟨by simp [fieldRows], fun j hj => ?_⟩
  match j, hj with
  | 0, _ => rfl
  | 1, _ => rfl
  | 2, _ => rfl
  | 3, _ => rfl
  | 4, _ => rfl
  | 5, _ => rfl
  | 6, _ => rfl
  | 7, _ => rfl
  | 8, _ => rfl
theorem header_rows : headerRows.length ≤ 20 ∧ ∀ j (hj : j < headerRows.length), headerRows[j].length = 3 := by
  refine ⟨by simp [headerRows], fun j hj => ?_⟩
  match j, hj with
  | 0, _ => rfl
  | 1, _ => rfl
  | 2, _ => rfl

def qOf (a c : Int) (i : Nat) : Int := if i = 0 then 40 else if i = 1 then a else if i = 2 then c else 0
theorem schemaQ.roles {H : Heap} {p n : Nat} {sl : NV} {v : NV} {g : Heap} (h : schemaQ H p n sl (v, g)) :
    ∃ b q z0 z1 z2 z3 z4 z5 z7 z8 z9, v = .agg [z0, z1, z2, z3, z4, z5, .slice (some (b, 0)) 3 (.fix 3), z7, z8, z9] ∧ RSch g b q z0 z1 z2 z3 z4 z5 z7 z8 z9 ∧ H.length ≤ b ∧ (∀ i, 0 ≤ q i ∧ q i ≤ 40) ∧ H.length ≤ g.length ∧ (∀ c, c < H.length → c ≠ p → hget g c = hget H c) := by
  obtain ⟨cs, row, t, x, y, z, w, mb, bud, sts, acs, rls, b, rcs, rfl, hcs, hb, hrc, hrl, hap, hrep, ok, st⟩ := h
  have hrc : hget g b = some (.cells rcs false) := hrc
  rw [ok.row] at hrep
  simp only [Tr.repCells, rep_ti] at hrep
  obtain ⟨z0, _, rfl, e0, z1, _, rfl, e1, z2, _, rfl, e2, z3, _, rfl, e3, z4, _, rfl, e4, z5, _, rfl, e5, z6, _, rfl, e6, z7, _, rfl, e7, _, _, rfl, rfl, _, _, rfl, rfl, rfl⟩ := hrep
  cases hcs
  obtain ⟨rx, q2, ry, q3, rfl, _, _, hq2, hq2', _, _, hq3, hq3'⟩ := ok.roles
  rw [Tr.rep_sl, hrc, Tr.repB_cells] at e6
  obtain ⟨_, _, e6⟩ := e6
  refine ⟨b, qOf q2 q3, z0, z1, z2, z3, z4, z5, z7, .int .i64 mb, .int .i64 bud, rfl, ⟨hap, RowsOf.of e0 (by omega) field_rows.1 field_rows.2, RowsOf.of e1 (by omega) header_rows.1 header_rows.2, RowsOf.of e2 (by omega) (states_rows ok.states).1 (states_rows ok.states).2, RowsOf.of e3 (by omega) (actions_rows ok.actions).1 (actions_rows ok.actions).2, RowsOf.of e4 (by omega) (tables_rows t).1 (tables_rows t).2, ?_, Tr.rep_one e0, Tr.rep_one e1, Tr.rep_one e2, Tr.rep_one e3, Tr.rep_one e4, Tr.rep_one e5, Tr.rep_one e7, rfl, rfl⟩, hb, ?_, st.len, fun c hc hne => st.old c hc hne⟩
  · match rcs, hrl with
    | [c0, c1, c2, c3, c4, c5, d0, d1, d2, d3, d4, d5, e0, e1, e2, e3, e4, e5], _ =>
      simp (disch := first | omega | (simp only [List.length_append, List.length_cons, List.length_nil, length_hset, length_hkill]; omega)) only [↓fsPre, fsPost, fsCond, fsGen, npick, nbin, nun, nconv, nnilCheck, noff, nidxArr, nidxSl, nfield, npart, nindex, nextract, nlenSl, nlenStr, ncap, mmx, minmax2, nslice, nsliceArr, nbounds, obound, bound, adv, nbits, eqVal, eqCell, eqCells, nfill, lenOfSl, cls, fresults, fresl, fres1, gt_iff_lt, ge_iff_le, reduceCtorEq, Nat.reduceAdd, Nat.reduceMul, Nat.reduceSub, Nat.reduceLT, Nat.reduceLeDiff, Nat.reduceEqDiff, Nat.reduceBEq, Nat.reduceBNe, Int.reduceLT, Int.reduceLE, Int.reduceEq, Int.reduceNe, Int.reduceAdd, Int.reduceSub, Int.reduceNeg, Int.reduceToNat, Int.reduceMul, ↓reduceIte, Int.reduceGT, Int.reduceGE, Tr.rep_sl, Tr.rep_none, Tr.repB_cells, Tr.repFlat_nil, Tr.repFlat_cons, Tr.repCells_nil, Tr.repCells_cons, rep_ti, rep_tu, rep_tb, rep_ts, rep_any, rolesOf] at e6
      obtain ⟨⟨rfl, rfl, h1, h2, rfl, rfl⟩, ⟨rfl, rfl, h3, h4, rfl, rfl⟩, ⟨rfl, rfl, h5, h6, rfl, rfl⟩⟩ := e6
      exact ⟨_, _, _, _, _, _, _, _, _, hrc, h1, Tr.rep_one h2, h3, Tr.rep_one h4, h5, Tr.rep_one h6⟩
  · intro i
    unfold qOf
    repeat (first | omega | split)

def modN (x n : Int) : Int := (x.tmod n + n).tmod n
theorem modN_range {x n : Int} (h : 0 < n) : 0 ≤ modN x n ∧ modN x n < n := by
  unfold modN
  have h1 : -n < x.tmod n := by have := Int.lt_tmod_of_pos x h; omega
  exact ⟨Int.tmod_nonneg _ (by omega), Int.tmod_lt_of_pos _ h⟩
theorem mod_ok (H : Heap) (x n : Int) (hn : 1 ≤ n) (hn2 : n ≤ 1000000000) : NCall Try.prog 18 [.int .i64 x, .int .i64 n] H fun r => r = (.int .i64 (modN x n), H) := by
  refine call_of E0 mixed t18_ok (by kernel_rfl) (by rintro q rfl; simp) ?_
  simp only [t18]
  have n0 : ¬ n = 0 := by omega
  have n1 : ¬ n < 1 := by omega
  have h1 := Int.lt_tmod_of_pos x (show 0 < n by omega)
  have h2 := Int.tmod_lt_of_pos x (show 0 < n by omega)
  have h3 := modN_range (x := x) (show 0 < n by omega)
  unfold modN at h3
  simp (disch := first | omega | (simp only [List.length_append, List.length_cons, List.length_nil, length_hset, length_hkill]; omega)) only [↓fsPre, fsPost, fsCond, fsGen, npick, nbin, nun, nconv, nnilCheck, noff, nidxArr, nidxSl, nfield, npart, nindex, nextract, nlenSl, nlenStr, ncap, mmx, minmax2, nslice, nsliceArr, nbounds, obound, bound, adv, nbits, eqVal, eqCell, eqCells, nfill, lenOfSl, cls, fresults, fresl, fres1, gt_iff_lt, ge_iff_le, reduceCtorEq, Nat.reduceAdd, Nat.reduceMul, Nat.reduceSub, Nat.reduceLT, Nat.reduceLeDiff, Nat.reduceEqDiff, Nat.reduceBEq, Nat.reduceBNe, Int.reduceLT, Int.reduceLE, Int.reduceEq, Int.reduceNe, Int.reduceAdd, Int.reduceSub, Int.reduceNeg, Int.reduceToNat, Int.reduceMul, ↓reduceIte, Int.reduceGT, Int.reduceGE, n0, n1]
  rfl
end Go.Proofs
