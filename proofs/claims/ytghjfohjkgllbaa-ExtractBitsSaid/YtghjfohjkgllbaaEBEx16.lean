/- Extract: the schema of ExtractBits, with a header of two fields of any bits. -/
import Derived.Test.YtghjfohjkgllbaaEBEx11
set_option linter.unusedSimpArgs false
set_option linter.unusedVariables false
set_option maxRecDepth 10000
namespace Go.Proofs
open Go.Ns

def modX (x n : Int) : Int := (x.tmod n + n).tmod n
theorem modX_range {x n : Int} (h : 0 < n) : 0 ≤ modX x n ∧ modX x n < n := by
  unfold modX
  have h1 : -n < x.tmod n := by have := Int.lt_tmod_of_pos x h; omega
  exact ⟨Int.tmod_nonneg _ (by omega), Int.tmod_lt_of_pos _ h⟩
theorem modX_ok (H : Heap) (x n : Int) (hn : 1 ≤ n) (hn2 : n ≤ 1000000000) : NCall Try.prog 22 [.int .i64 x, .int .i64 n] H fun r => r = (.int .i64 (modX x n), H) := by
  refine call_of E0 mixed t22_ok (by kernel_rfl) (by rintro q rfl; simp) ?_
  simp only [t22]
  have n0 : ¬ n = 0 := by omega
  have n1 : ¬ n < 1 := by omega
  have h1 := Int.lt_tmod_of_pos x (show 0 < n by omega)
  have h2 := Int.tmod_lt_of_pos x (show 0 < n by omega)
  have h3 := modX_range (x := x) (show 0 < n by omega)
  unfold modX at h3
  simp (disch := first | omega | (simp only [List.length_append, List.length_cons, List.length_nil, length_hset, length_hkill]; omega)) only [↓fsPre, fsPost, fsCond, fsGen, npick, nbin, nun, nconv, nnilCheck, noff, nidxArr, nidxSl, nfield, npart, nindex, nextract, nlenSl, nlenStr, ncap, mmx, minmax2, nslice, nsliceArr, nbounds, obound, bound, adv, nbits, eqVal, eqCell, eqCells, nfill, lenOfSl, cls, fresults, fresl, fres1, gt_iff_lt, ge_iff_le, reduceCtorEq, Nat.reduceAdd, Nat.reduceMul, Nat.reduceSub, Nat.reduceLT, Nat.reduceLeDiff, Nat.reduceEqDiff, Nat.reduceBEq, Nat.reduceBNe, Int.reduceLT, Int.reduceLE, Int.reduceEq, Int.reduceNe, Int.reduceAdd, Int.reduceSub, Int.reduceNeg, Int.reduceToNat, Int.reduceMul, ↓reduceIte, Int.reduceGT, Int.reduceGE, n0, n1]
  rfl

theorem cut_rows {cs : List NV} {k : Nat} {f : Nat → List NV} : ∀ (n : Nat), (∀ j, j < n → cut cs (j * k) k = some (f j)) → cut cs 0 (n * k) = some ((List.range n).flatMap f)
  | 0, _ => by simp [cut]
  | n + 1, h => by
    have h1 := cut_rows n fun j hj => h j (by omega)
    have h2 := h n (by omega)
    unfold cut at *
    split at h2
    · rename_i hl
      rw [if_pos (by omega)] at h1
      simp only [Option.some.injEq] at h2
      rw [if_pos (by rw [Nat.succ_mul]; omega), List.range_succ, List.flatMap_append, Nat.succ_mul]
      simp only [List.drop_zero, Option.some.injEq] at h1 ⊢
      rw [List.take_add, h1, h2]
      simp
    · cases h2
theorem pick_row {α : Type} (d0 : α) {n : Nat} {p : Nat → α → Prop} (h : ∀ j, j < n → ∃ a, p j a) : ∃ f : Nat → α, ∀ j, j < n → p j (f j) := by
  refine ⟨fun j => if hj : j < n then Classical.choose (h j hj) else d0, fun j hj => ?_⟩
  dsimp only
  rw [dif_pos hj]
  exact Classical.choose_spec (h j hj)
theorem row_at {k : Nat} {f : Nat → List NV} (hk : ∀ j, (f j).length = k) {m j : Nat} (hj : j < m) : cut ((List.range m).flatMap f) (j * k) k = some (f j) := by
  have := cut_flatMap (f := f) hk (l := List.range m) (i := j) (by simpa using hj)
  rw [this]; simp

theorem cut_left {a b : List NV} {o k : Nat} (h : o + k ≤ a.length) : cut (a ++ b) o k = cut a o k := by
  unfold cut
  rw [if_pos h, if_pos (by rw [List.length_append]; omega), List.drop_append_of_le_length (by omega), List.take_append_of_le_length (by rw [List.length_drop]; omega)]
theorem cut_right {a b : List NV} {o k : Nat} : cut (a ++ b) (a.length + o) k = cut b o k := by
  unfold cut
  rw [List.length_append, List.drop_append, List.drop_eq_nil_of_le (by omega), Nat.add_sub_cancel_left, List.nil_append]
  by_cases h : o + k ≤ b.length
  · rw [if_pos h, if_pos (by omega)]
  · rw [if_neg h, if_neg (by omega)]

def XA.wide (a : Nat) (bud : Int) : XA :=
  ⟨[1, 2, 3, 4, 5, 6, 7, 8, 9, 20, 21], fun j => [16, 16, 8, 4, 4, 8, 32, 12, 4, a, 128 - a].getD j 0, [1, 2, 3, 9], fun j => [[4, 5, 6], [7], [8, 9], [20, 21]].getD j [], [9], fun _ => ⟨9, 0, [], 0⟩, bud⟩
theorem XA.wide_ok {a : Nat} {bud : Int} (h : a ≤ 127) (hb : 0 ≤ bud ∧ bud ≤ 1000) : (XA.wide a bud).OK := by
  have e0 : (XA.wide a bud).sum [4, 5, 6] = 16 := rfl
  have e1 : (XA.wide a bud).sum [7] = 32 := rfl
  have e2 : (XA.wide a bud).sum [8, 9] = 16 := rfl
  have e3 : (XA.wide a bud).sum [20, 21] = 128 := by
    show a + (128 - a + 0) = 128
    omega
  refine ⟨by simp [XA.wide], by simp [XA.wide], by simp [XA.wide], ?_, ?_, ?_, ?_, ?_, ?_, hb⟩
  · intro j hj
    have hj : j < 4 := hj
    match j, hj with
    | 0, _ => exact ⟨by simp [XA.wide], by simp [XA.wide], by show 8 ≤ (XA.wide a bud).sum [4, 5, 6] ∧ (XA.wide a bud).sum [4, 5, 6] ≤ 10000 ∧ (XA.wide a bud).sum [4, 5, 6] % 8 = 0; rw [e0]; omega⟩
    | 1, _ => exact ⟨by simp [XA.wide], by simp [XA.wide], by show 8 ≤ (XA.wide a bud).sum [7] ∧ (XA.wide a bud).sum [7] ≤ 10000 ∧ (XA.wide a bud).sum [7] % 8 = 0; rw [e1]; omega⟩
    | 2, _ => exact ⟨by simp [XA.wide], by simp [XA.wide], by show 8 ≤ (XA.wide a bud).sum [8, 9] ∧ (XA.wide a bud).sum [8, 9] ≤ 10000 ∧ (XA.wide a bud).sum [8, 9] % 8 = 0; rw [e2]; omega⟩
    | 3, _ => exact ⟨by simp [XA.wide], by simp [XA.wide], by show 8 ≤ (XA.wide a bud).sum [20, 21] ∧ (XA.wide a bud).sum [20, 21] ≤ 10000 ∧ (XA.wide a bud).sum [20, 21] % 8 = 0; rw [e3]; omega⟩
  · intro j _
    exact .inr (by simp [XA.wide])
  · intro j _
    exact .inl rfl
  · intro j _
    exact Nat.zero_le _
  · intro j _ c hc
    exact absurd hc (by simp [XA.wide])
  · intro j _
    exact .inl rfl
theorem schemaQ.bud {H : Heap} {p n : Nat} {sl : NV} {z0 z1 z2 z3 z4 z5 z6 z7 z8 : NV} {bud : Int} {g : Heap} (h : schemaQ H p n sl (.agg [z0, z1, z2, z3, z4, z5, z6, z7, z8, .int .i64 bud], g)) : 12 ≤ bud := by
  obtain ⟨cs, row, t, x, y, z, w, mb, bud', sts, acs, rls, b, rcs, e, hcs, hb, hrc, hrl, hap, hrep, ok, st⟩ := h
  cases e
  rw [ok.row] at hrep
  simp only [Tr.repCells, rep_ti] at hrep
  obtain ⟨z0, _, e0, _, z1, _, rfl, e1, z2, _, rfl, e2, z3, _, rfl, e3, z4, _, rfl, e4, z5, _, rfl, e5, z6, _, rfl, e6, z7, _, rfl, e7, _, _, rfl, rfl, _, _, rfl, rfl, rfl⟩ := hrep
  simp only [List.cons.injEq, NV.int.injEq, and_true, true_and] at e0
  have := ok.bud
  omega

set_option maxHeartbeats 4000000 in
theorem wide_ok (H : Heap) (x : Int) : DCall Try.prog 17 [.int .i64 x] H fun r => ∃ (a : Nat) (bud : Int) (z0 z1 z2 z3 z4 z5 z6 z7 z8 : NV), r.1 = .tup [.agg [z0, z1, z2, z3, z4, z5, z6, z7, z8, .int .i64 bud], .int .i64 a] ∧ 1 ≤ a ∧ a ≤ 127 ∧ 12 ≤ bud ∧
    XAt (XA.wide a bud) r.2 z0 z1 z2 z3 z4 z5 z6 z7 z8 (.int .i64 bud) ∧ H.length ≤ r.2.length ∧ ∀ b, b < H.length → hget r.2 b = hget H b := by
  refine call_det E0 rfl mixed t17_ok (by kernel_rfl) (by rintro q ⟨_, _, _, _, _, _, _, _, _, _, _, _, _, _, _, _, h, _⟩; exact h) ?_
  simp only [t17]
  simp (disch := first | omega | (simp only [List.length_append, List.length_cons, List.length_nil, length_hset, length_hkill]; omega)) only [↓fsPre, fsPost, fsCond, fsGen, npick, nbin, nun, nconv, nnilCheck, noff, nidxArr, nidxSl, nfield, npart, nindex, nextract, nlenSl, nlenStr, ncap, mmx, minmax2, nslice, nsliceArr, nbounds, obound, bound, adv, nbits, eqVal, eqCell, eqCells, nfill, lenOfSl, cls, fresults, fresl, fres1, gt_iff_lt, ge_iff_le, reduceCtorEq, Nat.reduceAdd, Nat.reduceMul, Nat.reduceSub, Nat.reduceLT, Nat.reduceLeDiff, Nat.reduceEqDiff, Nat.reduceBEq, Nat.reduceBNe, Int.reduceLT, Int.reduceLE, Int.reduceEq, Int.reduceNe, Int.reduceAdd, Int.reduceSub, Int.reduceNeg, Int.reduceToNat, Int.reduceMul, ↓reduceIte, Int.reduceGT, Int.reduceGE]
  refine callT_one (modX_ok _ x 127 (by omega) (by omega)) rfl ?_
  have hmk := modX_range (x := x) (n := 127) (by omega)
  generalize modX x 127 = K at *
  obtain ⟨a, rfl⟩ : ∃ a : Nat, K = (a : Int) - 1 := ⟨(K + 1).toNat, by omega⟩
  have e1 : (1 : Int) + ((a : Int) - 1) = a := by omega
  simp (disch := first | omega | (simp only [List.length_append, List.length_cons, List.length_nil, length_hset, length_hkill]; omega)) only [↓fsPre, fsPost, fsCond, fsGen, npick, nbin, nun, nconv, nnilCheck, noff, nidxArr, nidxSl, nfield, npart, nindex, nextract, nlenSl, nlenStr, ncap, mmx, minmax2, nslice, nsliceArr, nbounds, obound, bound, adv, nbits, eqVal, eqCell, eqCells, nfill, lenOfSl, cls, fresults, fresl, fres1, gt_iff_lt, ge_iff_le, reduceCtorEq, Nat.reduceAdd, Nat.reduceMul, Nat.reduceSub, Nat.reduceLT, Nat.reduceLeDiff, Nat.reduceEqDiff, Nat.reduceBEq, Nat.reduceBNe, Int.reduceLT, Int.reduceLE, Int.reduceEq, Int.reduceNe, Int.reduceAdd, Int.reduceSub, Int.reduceNeg, Int.reduceToNat, Int.reduceMul, ↓reduceIte, Int.reduceGT, Int.reduceGE, e1]
  refine callT_D (codes_ok _ (.slice none 0 (.fix 0)) [] 0 (.inl ⟨rfl, rfl⟩) (by omega)) rfl ?_
  rintro c1 g1 ⟨sl1, n1, e, hs1⟩
  cases e
  simp (disch := first | omega | (simp only [List.length_append, List.length_cons, List.length_nil, length_hset, length_hkill]; omega)) only [↓fsPre, fsPost, fsCond, fsGen, npick, nbin, nun, nconv, nnilCheck, noff, nidxArr, nidxSl, nfield, npart, nindex, nextract, nlenSl, nlenStr, ncap, mmx, minmax2, nslice, nsliceArr, nbounds, obound, bound, adv, nbits, eqVal, eqCell, eqCells, nfill, lenOfSl, cls, fresults, fresl, fres1, gt_iff_lt, ge_iff_le, reduceCtorEq, Nat.reduceAdd, Nat.reduceMul, Nat.reduceSub, Nat.reduceLT, Nat.reduceLeDiff, Nat.reduceEqDiff, Nat.reduceBEq, Nat.reduceBNe, Int.reduceLT, Int.reduceLE, Int.reduceEq, Int.reduceNe, Int.reduceAdd, Int.reduceSub, Int.reduceNeg, Int.reduceToNat, Int.reduceMul, ↓reduceIte, Int.reduceGT, Int.reduceGE]
  refine callT_D (schema_ok _ (H.length + 1) n1 sl1 (CodesSt.refl (a := 0) (by simp (disch := first | omega | (simp only [List.length_append, List.length_cons, List.length_nil, length_hset, length_hkill]; omega)) only [↓fsPre, fsPost, fsCond, fsGen, npick, nbin, nun, nconv, nnilCheck, noff, nidxArr, nidxSl, nfield, npart, nindex, nextract, nlenSl, nlenStr, ncap, mmx, minmax2, nslice, nsliceArr, nbounds, obound, bound, adv, nbits, eqVal, eqCell, eqCells, nfill, lenOfSl, cls, fresults, fresl, fres1, gt_iff_lt, ge_iff_le, reduceCtorEq, Nat.reduceAdd, Nat.reduceMul, Nat.reduceSub, Nat.reduceLT, Nat.reduceLeDiff, Nat.reduceEqDiff, Nat.reduceBEq, Nat.reduceBNe, Int.reduceLT, Int.reduceLE, Int.reduceEq, Int.reduceNe, Int.reduceAdd, Int.reduceSub, Int.reduceNeg, Int.reduceToNat, Int.reduceMul, ↓reduceIte, Int.reduceGT, Int.reduceGE]) (by omega) (by omega) (by simpa using hs1))) rfl ?_
  rintro s g hq
  obtain ⟨d1, d2, k1, k3, bud, z0, z1, z2, z3, z4, z5, z6, z7, z8, rfl, x, hC, st⟩ := hq.xat
  have hbud := hq.bud
  have hgl := st.len
  simp only [List.length_append, List.length_cons, List.length_nil] at hgl
  have oldg : ∀ b, b < H.length → hget g b = hget H b := fun b hb => (st.old b (by simp; omega) (by omega)).trans (by simp (disch := first | omega | (simp only [List.length_append, List.length_cons, List.length_nil, length_hset, length_hkill]; omega)) only [↓fsPre, fsPost, fsCond, fsGen, npick, nbin, nun, nconv, nnilCheck, noff, nidxArr, nidxSl, nfield, npart, nindex, nextract, nlenSl, nlenStr, ncap, mmx, minmax2, nslice, nsliceArr, nbounds, obound, bound, adv, nbits, eqVal, eqCell, eqCells, nfill, lenOfSl, cls, fresults, fresl, fres1, gt_iff_lt, ge_iff_le, reduceCtorEq, Nat.reduceAdd, Nat.reduceMul, Nat.reduceSub, Nat.reduceLT, Nat.reduceLeDiff, Nat.reduceEqDiff, Nat.reduceBEq, Nat.reduceBNe, Int.reduceLT, Int.reduceLE, Int.reduceEq, Int.reduceNe, Int.reduceAdd, Int.reduceSub, Int.reduceNeg, Int.reduceToNat, Int.reduceMul, ↓reduceIte, Int.reduceGT, Int.reduceGE])
  have old2 : hget g H.length = some (.cells [NV.slice none 0 (Cap.fix 0), NV.slice none 0 (Cap.fix 0), NV.slice none 0 (Cap.fix 0), NV.slice none 0 (Cap.fix 0), NV.slice none 0 (Cap.fix 0), NV.slice none 0 (Cap.fix 0), NV.slice none 0 (Cap.fix 0), NV.slice none 0 (Cap.fix 0), NV.int IntKind.i64 0, NV.int IntKind.i64 0] false) := (st.old _ (by simp) (by omega)).trans (by simp (disch := first | omega | (simp only [List.length_append, List.length_cons, List.length_nil, length_hset, length_hkill]; omega)) only [↓fsPre, fsPost, fsCond, fsGen, npick, nbin, nun, nconv, nnilCheck, noff, nidxArr, nidxSl, nfield, npart, nindex, nextract, nlenSl, nlenStr, ncap, mmx, minmax2, nslice, nsliceArr, nbounds, obound, bound, adv, nbits, eqVal, eqCell, eqCells, nfill, lenOfSl, cls, fresults, fresl, fres1, gt_iff_lt, ge_iff_le, reduceCtorEq, Nat.reduceAdd, Nat.reduceMul, Nat.reduceSub, Nat.reduceLT, Nat.reduceLeDiff, Nat.reduceEqDiff, Nat.reduceBEq, Nat.reduceBNe, Int.reduceLT, Int.reduceLE, Int.reduceEq, Int.reduceNe, Int.reduceAdd, Int.reduceSub, Int.reduceNeg, Int.reduceToNat, Int.reduceMul, ↓reduceIte, Int.reduceGT, Int.reduceGE])
  obtain ⟨o0, o1, o2, o3, o4, o5, o6, o7, o8, o9⟩ := x.ones
  obtain ⟨bf, cf, csf, rof, ez0, hbf, hrf⟩ := id x.f
  obtain ⟨bh, ch, csh, roh, ez1, hbh, hrh⟩ := id x.g
  have ez0 : z0 = .slice (some (bf, 0)) 9 cf := ez0
  have ez1 : z1 = .slice (some (bh, 0)) 3 ch := ez1
  subst ez0 ez1
  have lbf := hget_some_lt hbf
  have lbh := hget_some_lt hbh
  have l2 := hget_some_lt old2
  obtain ⟨sf, hsf⟩ := pick_row (⟨#[]⟩ : ByteArray) (n := 9) (p := fun j s => cut csf (j * 3) 3 = some [.int .i64 ((XA.code d1 d2 0 k1 k3 bud).l.getD j 0), .str s, .int .i64 ((XA.code d1 d2 0 k1 k3 bud).w j)]) (fun j hj => by
    obtain ⟨s, e⟩ := hrf j hj
    exact ⟨s, by rw [e, List.getD_eq_getElem?_getD, List.getElem?_eq_getElem hj]; rfl⟩)
  obtain ⟨C9, hC9⟩ : ∃ C, C = (List.range 9).flatMap fun j => [NV.int .i64 ((XA.code d1 d2 0 k1 k3 bud).l.getD j 0), .str (sf j), .int .i64 ((XA.code d1 d2 0 k1 k3 bud).w j)] := ⟨_, rfl⟩
  have hcf := cut_rows 9 hsf
  rw [← hC9] at hcf
  have lC9 : C9.length = 27 := by rw [hC9]; rfl
  obtain ⟨sh, hsh⟩ := pick_row ((⟨#[]⟩ : ByteArray), 0, Cap.fix 0, ([] : List NV), false) (n := 3) (p := fun j (y : ByteArray × Nat × Cap × List NV × Bool) => cut csh (j * 3) 3 = some [.int .i64 ((XA.code d1 d2 0 k1 k3 bud).hl.getD j 0), .str y.1, .slice (some (y.2.1, 0)) ((XA.code d1 d2 0 k1 k3 bud).hf j).length y.2.2.1] ∧ hget g y.2.1 = some (.cells y.2.2.2.1 y.2.2.2.2) ∧ ∀ i (hi : i < ((XA.code d1 d2 0 k1 k3 bud).hf j).length), y.2.2.2.1[i]? = some (.int .i64 ((XA.code d1 d2 0 k1 k3 bud).hf j)[i])) (fun j hj => by
    obtain ⟨s, b', c', cs', ro', e1, e2, e3⟩ := hrh j hj
    exact ⟨(s, b', c', cs', ro'), by rw [e1, List.getD_eq_getElem?_getD, List.getElem?_eq_getElem hj]; rfl, e2, e3⟩)
  obtain ⟨C3, hC3⟩ : ∃ C, C = (List.range 3).flatMap fun j => [NV.int .i64 ((XA.code d1 d2 0 k1 k3 bud).hl.getD j 0), .str (sh j).1, .slice (some ((sh j).2.1, 0)) ((XA.code d1 d2 0 k1 k3 bud).hf j).length (sh j).2.2.1] := ⟨_, rfl⟩
  have hch := cut_rows 3 fun j hj => (hsh j hj).1
  rw [← hC3] at hch
  have lC3 : C3.length = 9 := by rw [hC3]; rfl
  have t9 : List.take 27 C9 = C9 := List.take_of_length_le (by omega)
  have t3 : List.take 9 C3 = C3 := List.take_of_length_le (by omega)
  simp (disch := first | omega | (simp only [List.length_append, List.length_cons, List.length_nil, length_hset, length_hkill]; omega)) only [↓fsPre, fsPost, fsCond, fsGen, npick, nbin, nun, nconv, nnilCheck, noff, nidxArr, nidxSl, nfield, npart, nindex, nextract, nlenSl, nlenStr, ncap, mmx, minmax2, nslice, nsliceArr, nbounds, obound, bound, adv, nbits, eqVal, eqCell, eqCells, nfill, lenOfSl, cls, fresults, fresl, fres1, gt_iff_lt, ge_iff_le, reduceCtorEq, Nat.reduceAdd, Nat.reduceMul, Nat.reduceSub, Nat.reduceLT, Nat.reduceLeDiff, Nat.reduceEqDiff, Nat.reduceBEq, Nat.reduceBNe, Int.reduceLT, Int.reduceLE, Int.reduceEq, Int.reduceNe, Int.reduceAdd, Int.reduceSub, Int.reduceNeg, Int.reduceToNat, Int.reduceMul, ↓reduceIte, Int.reduceGT, Int.reduceGE, o2, o3, o4, o5, o6, o7, o8, o9]
  refine app_fix (n := 9) (sliceCells_at (ro := rof) (by simp (disch := first | omega | (simp only [List.length_append, List.length_cons, List.length_nil, length_hset, length_hkill]; omega)) only [↓fsPre, fsPost, fsCond, fsGen, npick, nbin, nun, nconv, nnilCheck, noff, nidxArr, nidxSl, nfield, npart, nindex, nextract, nlenSl, nlenStr, ncap, mmx, minmax2, nslice, nsliceArr, nbounds, obound, bound, adv, nbits, eqVal, eqCell, eqCells, nfill, lenOfSl, cls, fresults, fresl, fres1, gt_iff_lt, ge_iff_le, reduceCtorEq, Nat.reduceAdd, Nat.reduceMul, Nat.reduceSub, Nat.reduceLT, Nat.reduceLeDiff, Nat.reduceEqDiff, Nat.reduceBEq, Nat.reduceBNe, Int.reduceLT, Int.reduceLE, Int.reduceEq, Int.reduceNe, Int.reduceAdd, Int.reduceSub, Int.reduceNeg, Int.reduceToNat, Int.reduceMul, ↓reduceIte, Int.reduceGT, Int.reduceGE, hbf] <;> rfl) hcf) rfl (by omega) (by omega) (old := []) (by simp [sliceCells]) ?_
  simp (disch := first | omega | (simp only [List.length_append, List.length_cons, List.length_nil, length_hset, length_hkill]; omega)) only [↓fsPre, fsPost, fsCond, fsGen, npick, nbin, nun, nconv, nnilCheck, noff, nidxArr, nidxSl, nfield, npart, nindex, nextract, nlenSl, nlenStr, ncap, mmx, minmax2, nslice, nsliceArr, nbounds, obound, bound, adv, nbits, eqVal, eqCell, eqCells, nfill, lenOfSl, cls, fresults, fresl, fres1, gt_iff_lt, ge_iff_le, reduceCtorEq, Nat.reduceAdd, Nat.reduceMul, Nat.reduceSub, Nat.reduceLT, Nat.reduceLeDiff, Nat.reduceEqDiff, Nat.reduceBEq, Nat.reduceBNe, Int.reduceLT, Int.reduceLE, Int.reduceEq, Int.reduceNe, Int.reduceAdd, Int.reduceSub, Int.reduceNeg, Int.reduceToNat, Int.reduceMul, ↓reduceIte, Int.reduceGT, Int.reduceGE, o2, o3, o4, o5, o6, o7, o8, o9]
  refine app_grow (n := 2) (cs := C9) (sliceCells_at (by simp (disch := first | omega | (simp only [List.length_append, List.length_cons, List.length_nil, length_hset, length_hkill]; omega)) only [↓fsPre, fsPost, fsCond, fsGen, npick, nbin, nun, nconv, nnilCheck, noff, nidxArr, nidxSl, nfield, npart, nindex, nextract, nlenSl, nlenStr, ncap, mmx, minmax2, nslice, nsliceArr, nbounds, obound, bound, adv, nbits, eqVal, eqCell, eqCells, nfill, lenOfSl, cls, fresults, fresl, fres1, gt_iff_lt, ge_iff_le, reduceCtorEq, Nat.reduceAdd, Nat.reduceMul, Nat.reduceSub, Nat.reduceLT, Nat.reduceLeDiff, Nat.reduceEqDiff, Nat.reduceBEq, Nat.reduceBNe, Int.reduceLT, Int.reduceLE, Int.reduceEq, Int.reduceNe, Int.reduceAdd, Int.reduceSub, Int.reduceNeg, Int.reduceToNat, Int.reduceMul, ↓reduceIte, Int.reduceGT, Int.reduceGE] <;> rfl) rfl) rfl (by simp (disch := first | omega | (simp only [List.length_append, List.length_cons, List.length_nil, length_hset, length_hkill]; omega)) only [↓fsPre, fsPost, fsCond, fsGen, npick, nbin, nun, nconv, nnilCheck, noff, nidxArr, nidxSl, nfield, npart, nindex, nextract, nlenSl, nlenStr, ncap, mmx, minmax2, nslice, nsliceArr, nbounds, obound, bound, adv, nbits, eqVal, eqCell, eqCells, nfill, lenOfSl, cls, fresults, fresl, fres1, gt_iff_lt, ge_iff_le, reduceCtorEq, Nat.reduceAdd, Nat.reduceMul, Nat.reduceSub, Nat.reduceLT, Nat.reduceLeDiff, Nat.reduceEqDiff, Nat.reduceBEq, Nat.reduceBNe, Int.reduceLT, Int.reduceLE, Int.reduceEq, Int.reduceNe, Int.reduceAdd, Int.reduceSub, Int.reduceNeg, Int.reduceToNat, Int.reduceMul, ↓reduceIte, Int.reduceGT, Int.reduceGE]) (by simp) (by omega) (by omega) (by omega) ?_
  simp (disch := first | omega | (simp only [List.length_append, List.length_cons, List.length_nil, length_hset, length_hkill]; omega)) only [↓fsPre, fsPost, fsCond, fsGen, npick, nbin, nun, nconv, nnilCheck, noff, nidxArr, nidxSl, nfield, npart, nindex, nextract, nlenSl, nlenStr, ncap, mmx, minmax2, nslice, nsliceArr, nbounds, obound, bound, adv, nbits, eqVal, eqCell, eqCells, nfill, lenOfSl, cls, fresults, fresl, fres1, gt_iff_lt, ge_iff_le, reduceCtorEq, Nat.reduceAdd, Nat.reduceMul, Nat.reduceSub, Nat.reduceLT, Nat.reduceLeDiff, Nat.reduceEqDiff, Nat.reduceBEq, Nat.reduceBNe, Int.reduceLT, Int.reduceLE, Int.reduceEq, Int.reduceNe, Int.reduceAdd, Int.reduceSub, Int.reduceNeg, Int.reduceToNat, Int.reduceMul, ↓reduceIte, Int.reduceGT, Int.reduceGE, o2, o3, o4, o5, o6, o7, o8, o9, t9]
  refine app_fix (n := 3) (sliceCells_at (ro := roh) (by simp (disch := first | omega | (simp only [List.length_append, List.length_cons, List.length_nil, length_hset, length_hkill]; omega)) only [↓fsPre, fsPost, fsCond, fsGen, npick, nbin, nun, nconv, nnilCheck, noff, nidxArr, nidxSl, nfield, npart, nindex, nextract, nlenSl, nlenStr, ncap, mmx, minmax2, nslice, nsliceArr, nbounds, obound, bound, adv, nbits, eqVal, eqCell, eqCells, nfill, lenOfSl, cls, fresults, fresl, fres1, gt_iff_lt, ge_iff_le, reduceCtorEq, Nat.reduceAdd, Nat.reduceMul, Nat.reduceSub, Nat.reduceLT, Nat.reduceLeDiff, Nat.reduceEqDiff, Nat.reduceBEq, Nat.reduceBNe, Int.reduceLT, Int.reduceLE, Int.reduceEq, Int.reduceNe, Int.reduceAdd, Int.reduceSub, Int.reduceNeg, Int.reduceToNat, Int.reduceMul, ↓reduceIte, Int.reduceGT, Int.reduceGE, hbh] <;> rfl) hch) rfl (by omega) (by omega) (old := []) (by simp [sliceCells]) ?_
  simp (disch := first | omega | (simp only [List.length_append, List.length_cons, List.length_nil, length_hset, length_hkill]; omega)) only [↓fsPre, fsPost, fsCond, fsGen, npick, nbin, nun, nconv, nnilCheck, noff, nidxArr, nidxSl, nfield, npart, nindex, nextract, nlenSl, nlenStr, ncap, mmx, minmax2, nslice, nsliceArr, nbounds, obound, bound, adv, nbits, eqVal, eqCell, eqCells, nfill, lenOfSl, cls, fresults, fresl, fres1, gt_iff_lt, ge_iff_le, reduceCtorEq, Nat.reduceAdd, Nat.reduceMul, Nat.reduceSub, Nat.reduceLT, Nat.reduceLeDiff, Nat.reduceEqDiff, Nat.reduceBEq, Nat.reduceBNe, Int.reduceLT, Int.reduceLE, Int.reduceEq, Int.reduceNe, Int.reduceAdd, Int.reduceSub, Int.reduceNeg, Int.reduceToNat, Int.reduceMul, ↓reduceIte, Int.reduceGT, Int.reduceGE, o2, o3, o4, o5, o6, o7, o8, o9, t9]
  refine app_grow (n := 1) (cs := C3) (sliceCells_at (by simp (disch := first | omega | (simp only [List.length_append, List.length_cons, List.length_nil, length_hset, length_hkill]; omega)) only [↓fsPre, fsPost, fsCond, fsGen, npick, nbin, nun, nconv, nnilCheck, noff, nidxArr, nidxSl, nfield, npart, nindex, nextract, nlenSl, nlenStr, ncap, mmx, minmax2, nslice, nsliceArr, nbounds, obound, bound, adv, nbits, eqVal, eqCell, eqCells, nfill, lenOfSl, cls, fresults, fresl, fres1, gt_iff_lt, ge_iff_le, reduceCtorEq, Nat.reduceAdd, Nat.reduceMul, Nat.reduceSub, Nat.reduceLT, Nat.reduceLeDiff, Nat.reduceEqDiff, Nat.reduceBEq, Nat.reduceBNe, Int.reduceLT, Int.reduceLE, Int.reduceEq, Int.reduceNe, Int.reduceAdd, Int.reduceSub, Int.reduceNeg, Int.reduceToNat, Int.reduceMul, ↓reduceIte, Int.reduceGT, Int.reduceGE] <;> rfl) rfl) rfl (by simp (disch := first | omega | (simp only [List.length_append, List.length_cons, List.length_nil, length_hset, length_hkill]; omega)) only [↓fsPre, fsPost, fsCond, fsGen, npick, nbin, nun, nconv, nnilCheck, noff, nidxArr, nidxSl, nfield, npart, nindex, nextract, nlenSl, nlenStr, ncap, mmx, minmax2, nslice, nsliceArr, nbounds, obound, bound, adv, nbits, eqVal, eqCell, eqCells, nfill, lenOfSl, cls, fresults, fresl, fres1, gt_iff_lt, ge_iff_le, reduceCtorEq, Nat.reduceAdd, Nat.reduceMul, Nat.reduceSub, Nat.reduceLT, Nat.reduceLeDiff, Nat.reduceEqDiff, Nat.reduceBEq, Nat.reduceBNe, Int.reduceLT, Int.reduceLE, Int.reduceEq, Int.reduceNe, Int.reduceAdd, Int.reduceSub, Int.reduceNeg, Int.reduceToNat, Int.reduceMul, ↓reduceIte, Int.reduceGT, Int.reduceGE]) (by simp) (by omega) (by omega) (by omega) ?_
  simp (disch := first | omega | (simp only [List.length_append, List.length_cons, List.length_nil, length_hset, length_hkill]; omega)) only [↓fsPre, fsPost, fsCond, fsGen, npick, nbin, nun, nconv, nnilCheck, noff, nidxArr, nidxSl, nfield, npart, nindex, nextract, nlenSl, nlenStr, ncap, mmx, minmax2, nslice, nsliceArr, nbounds, obound, bound, adv, nbits, eqVal, eqCell, eqCells, nfill, lenOfSl, cls, fresults, fresl, fres1, gt_iff_lt, ge_iff_le, reduceCtorEq, Nat.reduceAdd, Nat.reduceMul, Nat.reduceSub, Nat.reduceLT, Nat.reduceLeDiff, Nat.reduceEqDiff, Nat.reduceBEq, Nat.reduceBNe, Int.reduceLT, Int.reduceLE, Int.reduceEq, Int.reduceNe, Int.reduceAdd, Int.reduceSub, Int.reduceNeg, Int.reduceToNat, Int.reduceMul, ↓reduceIte, Int.reduceGT, Int.reduceGE, o2, o3, o4, o5, o6, o7, o8, o9, t9, t3, old2]
  obtain ⟨G, hG⟩ : ∃ G, G = hset g (List.length H) (NBlk.cells [NV.slice (some (List.length g + 4, 0)) 11 (Cap.opn 3), NV.slice (some (List.length g + 9, 0)) 4 (Cap.opn 3), NV.slice (some (List.length g + 10, 0)) 1 (Cap.fix 1), z3, z4, z5, z6, z7, z8, NV.int IntKind.i64 bud] false) ++
    [some (NBlk.cells [NV.slice (some (List.length g + 4, 0)) 11 (Cap.opn 3), NV.slice (some (List.length g + 9, 0)) 4 (Cap.opn 3), NV.slice (some (List.length g + 10, 0)) 1 (Cap.fix 1), z3, z4, z5, z6, z7, z8, NV.int IntKind.i64 bud] false),
      some (NBlk.cells [] false), none, some (NBlk.cells [NV.int IntKind.i64 20, NV.str { data := #[117] }, NV.int IntKind.i64 ↑a, NV.int IntKind.i64 21, NV.str { data := #[118] }, NV.int IntKind.i64 (128 - ↑a)] false),
      some (NBlk.cells (C9 ++ [NV.int IntKind.i64 20, NV.str { data := #[117] }, NV.int IntKind.i64 ↑a, NV.int IntKind.i64 21, NV.str { data := #[118] }, NV.int IntKind.i64 (128 - ↑a)]) false),
      some (NBlk.cells [] false), none, some (NBlk.cells [NV.int IntKind.i64 20, NV.int IntKind.i64 21] false),
      some (NBlk.cells [NV.int IntKind.i64 9, NV.str { data := #[119, 105, 100, 101] }, NV.slice (some (List.length g + 7, 0)) 2 (Cap.fix 2)] false),
      some (NBlk.cells (C3 ++ [NV.int IntKind.i64 9, NV.str { data := #[119, 105, 100, 101] }, NV.slice (some (List.length g + 7, 0)) 2 (Cap.fix 2)]) false),
      some (NBlk.cells [NV.int IntKind.i64 9, NV.int IntKind.i64 9, NV.int IntKind.i64 0, NV.slice none 0 (Cap.fix 0), NV.int IntKind.i64 0] false)] := ⟨_, rfl⟩
  rw [← hG]
  have k4 : hget G (g.length + 4) = some (.cells (C9 ++ [NV.int IntKind.i64 20, NV.str { data := #[117] }, NV.int IntKind.i64 ↑a, NV.int IntKind.i64 21, NV.str { data := #[118] }, NV.int IntKind.i64 (128 - ↑a)]) false) := by rw [hG]; simp (disch := first | omega | (simp only [List.length_append, List.length_cons, List.length_nil, length_hset, length_hkill]; omega)) only [↓fsPre, fsPost, fsCond, fsGen, npick, nbin, nun, nconv, nnilCheck, noff, nidxArr, nidxSl, nfield, npart, nindex, nextract, nlenSl, nlenStr, ncap, mmx, minmax2, nslice, nsliceArr, nbounds, obound, bound, adv, nbits, eqVal, eqCell, eqCells, nfill, lenOfSl, cls, fresults, fresl, fres1, gt_iff_lt, ge_iff_le, reduceCtorEq, Nat.reduceAdd, Nat.reduceMul, Nat.reduceSub, Nat.reduceLT, Nat.reduceLeDiff, Nat.reduceEqDiff, Nat.reduceBEq, Nat.reduceBNe, Int.reduceLT, Int.reduceLE, Int.reduceEq, Int.reduceNe, Int.reduceAdd, Int.reduceSub, Int.reduceNeg, Int.reduceToNat, Int.reduceMul, ↓reduceIte, Int.reduceGT, Int.reduceGE]
  have k9 : hget G (g.length + 9) = some (.cells (C3 ++ [NV.int IntKind.i64 9, NV.str { data := #[119, 105, 100, 101] }, NV.slice (some (List.length g + 7, 0)) 2 (Cap.fix 2)]) false) := by rw [hG]; simp (disch := first | omega | (simp only [List.length_append, List.length_cons, List.length_nil, length_hset, length_hkill]; omega)) only [↓fsPre, fsPost, fsCond, fsGen, npick, nbin, nun, nconv, nnilCheck, noff, nidxArr, nidxSl, nfield, npart, nindex, nextract, nlenSl, nlenStr, ncap, mmx, minmax2, nslice, nsliceArr, nbounds, obound, bound, adv, nbits, eqVal, eqCell, eqCells, nfill, lenOfSl, cls, fresults, fresl, fres1, gt_iff_lt, ge_iff_le, reduceCtorEq, Nat.reduceAdd, Nat.reduceMul, Nat.reduceSub, Nat.reduceLT, Nat.reduceLeDiff, Nat.reduceEqDiff, Nat.reduceBEq, Nat.reduceBNe, Int.reduceLT, Int.reduceLE, Int.reduceEq, Int.reduceNe, Int.reduceAdd, Int.reduceSub, Int.reduceNeg, Int.reduceToNat, Int.reduceMul, ↓reduceIte, Int.reduceGT, Int.reduceGE]
  have k7 : hget G (g.length + 7) = some (.cells [NV.int IntKind.i64 20, NV.int IntKind.i64 21] false) := by rw [hG]; simp (disch := first | omega | (simp only [List.length_append, List.length_cons, List.length_nil, length_hset, length_hkill]; omega)) only [↓fsPre, fsPost, fsCond, fsGen, npick, nbin, nun, nconv, nnilCheck, noff, nidxArr, nidxSl, nfield, npart, nindex, nextract, nlenSl, nlenStr, ncap, mmx, minmax2, nslice, nsliceArr, nbounds, obound, bound, adv, nbits, eqVal, eqCell, eqCells, nfill, lenOfSl, cls, fresults, fresl, fres1, gt_iff_lt, ge_iff_le, reduceCtorEq, Nat.reduceAdd, Nat.reduceMul, Nat.reduceSub, Nat.reduceLT, Nat.reduceLeDiff, Nat.reduceEqDiff, Nat.reduceBEq, Nat.reduceBNe, Int.reduceLT, Int.reduceLE, Int.reduceEq, Int.reduceNe, Int.reduceAdd, Int.reduceSub, Int.reduceNeg, Int.reduceToNat, Int.reduceMul, ↓reduceIte, Int.reduceGT, Int.reduceGE]
  have k10 : hget G (g.length + 10) = some (.cells [NV.int IntKind.i64 9, NV.int IntKind.i64 9, NV.int IntKind.i64 0, NV.slice none 0 (Cap.fix 0), NV.int IntKind.i64 0] false) := by rw [hG]; simp (disch := first | omega | (simp only [List.length_append, List.length_cons, List.length_nil, length_hset, length_hkill]; omega)) only [↓fsPre, fsPost, fsCond, fsGen, npick, nbin, nun, nconv, nnilCheck, noff, nidxArr, nidxSl, nfield, npart, nindex, nextract, nlenSl, nlenStr, ncap, mmx, minmax2, nslice, nsliceArr, nbounds, obound, bound, adv, nbits, eqVal, eqCell, eqCells, nfill, lenOfSl, cls, fresults, fresl, fres1, gt_iff_lt, ge_iff_le, reduceCtorEq, Nat.reduceAdd, Nat.reduceMul, Nat.reduceSub, Nat.reduceLT, Nat.reduceLeDiff, Nat.reduceEqDiff, Nat.reduceBEq, Nat.reduceBNe, Int.reduceLT, Int.reduceLE, Int.reduceEq, Int.reduceNe, Int.reduceAdd, Int.reduceSub, Int.reduceNeg, Int.reduceToNat, Int.reduceMul, ↓reduceIte, Int.reduceGT, Int.reduceGE]
  have kold : ∀ b, b < g.length → b ≠ H.length → hget G b = hget g b := fun b hb hne => by rw [hG]; simp (disch := first | omega | (simp only [List.length_append, List.length_cons, List.length_nil, length_hset, length_hkill]; omega)) only [↓fsPre, fsPost, fsCond, fsGen, npick, nbin, nun, nconv, nnilCheck, noff, nidxArr, nidxSl, nfield, npart, nindex, nextract, nlenSl, nlenStr, ncap, mmx, minmax2, nslice, nsliceArr, nbounds, obound, bound, adv, nbits, eqVal, eqCell, eqCells, nfill, lenOfSl, cls, fresults, fresl, fres1, gt_iff_lt, ge_iff_le, reduceCtorEq, Nat.reduceAdd, Nat.reduceMul, Nat.reduceSub, Nat.reduceLT, Nat.reduceLeDiff, Nat.reduceEqDiff, Nat.reduceBEq, Nat.reduceBNe, Int.reduceLT, Int.reduceLE, Int.reduceEq, Int.reduceNe, Int.reduceAdd, Int.reduceSub, Int.reduceNeg, Int.reduceToNat, Int.reduceMul, ↓reduceIte, Int.reduceGT, Int.reduceGE]
  have klen : G.length = g.length + 11 := by rw [hG]; simp
  clear hG
  refine ⟨a, bud, _, _, _, z3, z4, z5, z6, z7, z8, rfl, by omega, by omega, hbud, ⟨⟨_, _, _, false, rfl, k4, fun j hj => ?_⟩, ⟨_, _, _, false, rfl, k9, fun j hj => ?_⟩, ⟨_, _, rfl, fun _ => ⟨_, _, false, rfl, k10, fun j hj => ?_⟩⟩, ⟨o3, o4, o5, o6, o7, o8⟩, rfl, XA.wide_ok (by omega) hC.bud⟩, by omega, fun b hb => by rw [kold b (by omega) (by omega)]; exact oldg b hb⟩
  · have hj : j < 11 := hj
    rcases Nat.lt_or_ge j 9 with h9 | h9
    · rw [cut_left (by omega), hC9, row_at (k := 3) (fun _ => rfl) h9]
      refine ⟨sf j, ?_⟩
      match j, h9 with
      | 0, _ => rfl
      | 1, _ => rfl
      | 2, _ => rfl
      | 3, _ => rfl
      | 4, _ => rfl
      | 5, _ => rfl
      | 6, _ => rfl
      | 7, _ => rfl
      | 8, _ => rfl
    · obtain ⟨i, rfl⟩ : ∃ i, j = 9 + i := ⟨j - 9, by omega⟩
      rw [show (9 + i) * 3 = C9.length + i * 3 by omega, cut_right]
      have e128 : (128 : Int) - (a : Int) = ((128 - a : Nat) : Int) := by omega
      rw [e128]
      have hi : i < 2 := by omega
      match i, hi with
      | 0, _ => exact ⟨_, rfl⟩
      | 1, _ => exact ⟨_, rfl⟩
  · have hj : j < 4 := hj
    rcases Nat.lt_or_ge j 3 with h9 | h9
    · rw [cut_left (by omega), hC3, row_at (k := 3) (fun _ => rfl) h9]
      obtain ⟨_, e2, e3⟩ := hsh j h9
      have hne : (sh j).2.1 ≠ H.length := by
        intro e
        rw [e, old2] at e2
        simp only [Option.some.injEq, NBlk.cells.injEq] at e2
        rw [← e2.1] at e3
        match j, h9 with
        | 0, _ => exact absurd (e3 0 (by simp [XA.code])) (by simp)
        | 1, _ => exact absurd (e3 0 (by simp [XA.code])) (by simp)
        | 2, _ => exact absurd (e3 0 (by simp [XA.code])) (by simp)
      rw [← kold _ (hget_lt e2) hne] at e2
      match j, h9 with
      | 0, _ => exact ⟨_, _, _, _, _, rfl, e2, e3⟩
      | 1, _ => exact ⟨_, _, _, _, _, rfl, e2, e3⟩
      | 2, _ => exact ⟨_, _, _, _, _, rfl, e2, e3⟩
    · have : j = 3 := by omega
      subst this
      rw [show 3 * 3 = C3.length + 0 by omega, cut_right]
      refine ⟨_, _, _, _, _, rfl, k7, fun i hi => ?_⟩
      have hi : i < 2 := hi
      match i, hi with
      | 0, _ => rfl
      | 1, _ => rfl
  · have hj : j < 1 := hj
    have : j = 0 := by omega
    subst this
    exact ⟨_, rfl, none, .fix 0, rfl, fun h => absurd h (by simp [XA.wide])⟩
end Go.Proofs
