/- Exact: the calls of the statements. -/
import Derived.Test.YtfeanpgfjakbbaaECXb
import Derived.Test.YtfeanpgfjakbbaaFsG
set_option linter.unusedSimpArgs false
set_option linter.unusedVariables false
set_option maxRecDepth 10000
namespace Go.Proofs
open Go.Ns

structure XOp where
  kind : Int
  like : Int
  pt : Pt
  id : Int
instance : Inhabited XOp := ⟨⟨0, 0, default, 0⟩⟩
def opC (o : XOp) : List NV := [.int .i64 o.kind, .int .u8 o.like] ++ (ptC o.pt ++ [.int .i64 o.id])
theorem opC_length (o : XOp) : (opC o).length = 11 := rfl
def XOp.OK (o : XOp) : Prop := 0 ≤ o.like ∧ o.like ≤ 255
def kOp : List FKd := [.int .i64, .int .u8, .int .u64, .int .u64, .int .u64, .int .u64, .int .u64, .int .u64, .int .u64, .int .u64, .int .i64]

theorem typed_int {k : IntKind} {v : NV} (h : typed1 (.int k) v) : ∃ n, v = .int k n ∧ (Lit.int k n).wf = true := by
  cases v <;> first | (obtain ⟨rfl, h⟩ := h; exact ⟨_, rfl, h⟩) | exact h.elim
theorem wf_u64 {n : Int} (h : (Lit.int .u64 n).wf = true) : 0 ≤ n ∧ n < 18446744073709551616 := by
  simp [Lit.wf, IntKind.min, IntKind.max, IntKind.signed, IntKind.bits] at h; omega
theorem pair_val {a b : NV} (ha : typed1 (.int .u64) a) (hb : typed1 (.int .u64) b) : ∃ v : BitVec 128, a = nb (hiOf v) ∧ b = nb (loOf v) := by
  obtain ⟨x, rfl, hx⟩ := typed_int ha
  obtain ⟨y, rfl, hy⟩ := typed_int hb
  obtain ⟨v, hv⟩ := val_of x y (wf_u64 hx) (wf_u64 hy)
  simp only [vnv, NV.agg.injEq, List.cons.injEq, and_true] at hv
  exact ⟨v, hv.1, hv.2⟩
theorem op_row {r : List NV} (h : typeds kOp r) : ∃ o : XOp, o.OK ∧ r = opC o := by
  have hl := typeds_length h
  match r, hl with
  | [a, b, c0, c1, c2, c3, c4, c5, c6, c7, d], _ =>
    obtain ⟨ha, hb, h0, h1, h2, h3, h4, h5, h6, h7, hd, _⟩ := h
    obtain ⟨x, rfl, _⟩ := typed_int ha
    obtain ⟨y, rfl, hy⟩ := typed_int hb
    obtain ⟨z, rfl, _⟩ := typed_int hd
    obtain ⟨v0, rfl, rfl⟩ := pair_val h0 h1
    obtain ⟨v1, rfl, rfl⟩ := pair_val h2 h3
    obtain ⟨v2, rfl, rfl⟩ := pair_val h4 h5
    obtain ⟨v3, rfl, rfl⟩ := pair_val h6 h7
    exact ⟨⟨x, y, (v0, v1, v2, v3), z⟩, bounds_u8 hy, rfl⟩
theorem op_rows : ∀ {rows : List (List NV)}, (∀ r ∈ rows, typeds kOp r) → ∃ os : List XOp, (∀ o ∈ os, o.OK) ∧ rows.flatten = os.flatMap opC ∧ os.length = rows.length
  | [], _ => ⟨[], by simp, rfl, rfl⟩
  | r :: rows, h => by
    obtain ⟨o, ho, rfl⟩ := op_row (h r (List.mem_cons_self ..))
    obtain ⟨os, h1, h2, h3⟩ := op_rows fun x hx => h x (List.mem_cons_of_mem _ hx)
    refine ⟨o :: os, fun x hx => ?_, by simp [h2], by simp [h3]⟩
    rcases List.mem_cons.1 hx with rfl | hx
    · exact ho
    · exact h1 x hx

/-- An argument of calls. -/
def OpsArg (H : Heap) (v : NV) (os : List XOp) : Prop := (∀ o ∈ os, o.OK) ∧ ((v = .slice none 0 (.fix 0) ∧ os = []) ∨ ∃ b m cs ro, v = .slice (some (b, 0)) os.length (.fix m) ∧ hget H b = some (.cells cs ro) ∧ os.length ≤ m ∧ m ≤ 9223372036854775807 ∧ ∀ i (hi : i < os.length), cut cs (i * 11) 11 = some (opC os[i]))
theorem argOK_ops {H : Heap} {b : Nat} {v : NV} {x : Option NBlk} (h : argOK (.sl kOp) b v x) (hx : hget H b = x) : ∃ os, OpsArg H v os := by
  rcases h with ⟨rfl, _⟩ | ⟨n, c, rows, rfl, rfl, hn, hc, hl, hr⟩
  · exact ⟨[], by simp, .inl ⟨rfl, rfl⟩⟩
  · obtain ⟨os, h0, h1, h2⟩ := op_rows hr
    have hm : maxLen ≤ 9223372036854775807 := by decide
    have hlen : (os.take n).length = n := by simp; omega
    refine ⟨os.take n, fun o ho => h0 o (List.mem_of_mem_take ho), .inr ⟨b, c, _, true, by rw [hlen], hx, by omega, by omega, fun i hi => ?_⟩⟩
    rw [h1, cut_flatMap opC_length (by omega), List.getElem_take]

/-- The point of a call. -/
theorem point_ex (o : XOp) : ∃ k : Pt, ∀ H, NCall Try.prog 8 [.agg (opC o)] H fun r => r = (.agg (ptC k), H) := by
  by_cases hl : 0 < Int.tmod o.like 4
  · have wr : ∀ n : Int, 0 ≤ IntKind.u64.wrap n ∧ IntKind.u64.wrap n < 18446744073709551616 := fun n => by rw [wu_mod]; omega
    obtain ⟨v0, hv0⟩ := val_of 0 (IntKind.u64.wrap ((IntKind.u8.wrap (o.like.tdiv 4)).tmod 3)) (by omega) (wr _)
    obtain ⟨v1, hv1⟩ := val_of (IntKind.u64.wrap ((IntKind.u8.wrap (o.like.tdiv 16)).tmod 2)) 0 (wr _) (by omega)
    obtain ⟨v2, hv2⟩ := val_of 0 0 (by omega) (by omega)
    obtain ⟨v3, hv3⟩ := val_of 0 (IntKind.u64.wrap (IntKind.u8.wrap (o.like.tdiv 64))) (by omega) (wr _)
    simp only [vnv, NV.agg.injEq, List.cons.injEq, and_true] at hv0 hv1 hv2 hv3
    refine ⟨(v0, v1, v2, v3), fun H => ?_⟩
    refine call_pure E0 mixed t8_ok (by kernel_rfl) ⟨trivial, trivial, trivial, trivial, trivial, trivial, trivial, trivial, trivial⟩ ?_
    simp only [t8, opC, ptC]
    simp (disch := first | omega | (simp only [List.length_append, List.length_cons, List.length_nil, length_hset, length_hkill]; omega)) only [↓fsPre, fsPost, fsCond, fsGen, npick, nbin, nun, nconv, nnilCheck, noff, nidxArr, nidxSl, nfield, npart, nindex, nextract, nlenSl, nlenStr, ncap, mmx, minmax2, nslice, nsliceArr, nbounds, obound, bound, adv, nbits, eqVal, eqCell, eqCells, nfill, lenOfSl, cls, fresults, fresl, fres1, gt_iff_lt, ge_iff_le, reduceCtorEq, Nat.reduceAdd, Nat.reduceMul, Nat.reduceSub, Nat.reduceLT, Nat.reduceLeDiff, Nat.reduceEqDiff, Nat.reduceBEq, Nat.reduceBNe, Int.reduceLT, Int.reduceLE, Int.reduceEq, Int.reduceNe, Int.reduceAdd, Int.reduceSub, Int.reduceNeg, Int.reduceToNat, Int.reduceMul, ↓reduceIte, Int.reduceGT, Int.reduceGE, hl, nb_one, nb_cells, nb_flat]
    exact ⟨by rw [← hv0.1, ← hv0.2, ← hv1.1, ← hv1.2, ← hv2.1, ← hv2.2, ← hv3.1, ← hv3.2], _, rfl⟩
  · refine ⟨o.pt, fun H => ?_⟩
    refine call_pure E0 mixed t8_ok (by kernel_rfl) ⟨trivial, trivial, trivial, trivial, trivial, trivial, trivial, trivial, trivial⟩ ?_
    simp only [t8, opC, ptC]
    simp (disch := first | omega | (simp only [List.length_append, List.length_cons, List.length_nil, length_hset, length_hkill]; omega)) only [↓fsPre, fsPost, fsCond, fsGen, npick, nbin, nun, nconv, nnilCheck, noff, nidxArr, nidxSl, nfield, npart, nindex, nextract, nlenSl, nlenStr, ncap, mmx, minmax2, nslice, nsliceArr, nbounds, obound, bound, adv, nbits, eqVal, eqCell, eqCells, nfill, lenOfSl, cls, fresults, fresl, fres1, gt_iff_lt, ge_iff_le, reduceCtorEq, Nat.reduceAdd, Nat.reduceMul, Nat.reduceSub, Nat.reduceLT, Nat.reduceLeDiff, Nat.reduceEqDiff, Nat.reduceBEq, Nat.reduceBNe, Int.reduceLT, Int.reduceLE, Int.reduceEq, Int.reduceNe, Int.reduceAdd, Int.reduceSub, Int.reduceNeg, Int.reduceToNat, Int.reduceMul, ↓reduceIte, Int.reduceGT, Int.reduceGE, hl, nb_one, nb_cells, nb_flat]
    exact ⟨_, rfl⟩
noncomputable def XOp.point (o : XOp) : Pt := Classical.choose (point_ex o)
theorem point_ok (o : XOp) (H : Heap) : NCall Try.prog 8 [.agg (opC o)] H fun r => r = (.agg (ptC o.point), H) := Classical.choose_spec (point_ex o) H

theorem begun11_ok (h : Heap) : NCall Try.prog 11 [] h fun q => q = (.bool true, h) := call_run mixed (lk_ok tab_ok) (N := 1000) (D := 40) (by kernel_rfl) h

/-- Each list of distinct points can be sorted. -/
theorem sorted_ex : ∀ (M : List (Pt × Int)), (M.map (·.1)).Nodup → ∃ L, SortedP L ∧ L.Perm M
  | [], _ => ⟨[], List.Pairwise.nil, List.Perm.refl _⟩
  | x :: M, h => by
    simp only [List.map_cons, List.nodup_cons] at h
    obtain ⟨L, h1, h2⟩ := sorted_ex M h.2
    refine ⟨insP L x.1 x.2, h1.ins x.2 ?_, (insP_perm L x.1 x.2).trans (h2.cons x)⟩
    intro hx
    exact h.1 ((h2.map _).mem_iff.1 hx)
theorem opC_one (o : XOp) : (opC o).all NV.one = true := rfl
theorem opC_cut (o : XOp) : cut (opC o) 0 11 = some (opC o) := rfl
end Go.Proofs
