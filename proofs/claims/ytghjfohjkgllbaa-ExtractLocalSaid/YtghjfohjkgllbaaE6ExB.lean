/- Ex14, Ex15 in one text. -/
import Derived.Test.YtghjfohjkgllbaaE6Ex11
import Derived.Test.YtghjfohjkgllbaaE6Ex12
import Derived.Test.YtghjfohjkgllbaaE6IdxB
import Derived.Test.YtghjfohjkgllbaaFsF
set_option linter.unusedSimpArgs false
set_option linter.unusedVariables false
set_option maxRecDepth 100000
namespace Go.Proofs
open Go.Ns

theorem XA.run_keep (A : XA) (d : Nat → BitVec 8) (fl : List (BitVec 128)) (ids : List Int) (i : Nat) (h : ∀ id ∈ ids, A.l.idxOf id ≠ i) : ∀ j, j ≤ ids.length → (A.run d fl (ids.take j)).1[i]? = fl[i]?
  | 0, _ => rfl
  | j + 1, hj => by
    rw [A.run_step d fl (by omega)]
    show ((A.run d fl (ids.take j)).1.set _ _)[i]? = _
    rw [List.getElem?_set_ne (h _ (List.getElem_mem (by omega)))]
    exact A.run_keep d fl ids i h j (by omega)
theorem XA.hdr_keep (A : XA) (d : Nat → BitVec 8) (c : Cx) (k i : Nat) (h : ∀ id ∈ A.hf k, A.l.idxOf id ≠ i) : (A.hdr d c k).fl[i]? = c.fl[i]? := by
  have := A.run_keep (fun i => d (c.o + i)) c.fl (A.hf k) i h (A.hf k).length (Nat.le_refl _)
  rw [List.take_length] at this
  exact this
/-- What was extracted is valid; the fields of other headers are as they were. -/
structure Keep (A : XA) (c c' : Cx) : Prop where
  vl : ∀ k : Nat, k < c.vl.length → c'.vl[k]? = some false → c.vl[k]? = some false
  lv : c'.vl.length = c.vl.length
  lf : c'.fl.length = c.fl.length
  fl : ∀ i : Nat, (∀ k : Nat, k < c.vl.length → c'.vl[k]? = some false ∨ ∀ id ∈ A.hf k, A.l.idxOf id ≠ i) → c'.fl[i]? = c.fl[i]?
theorem Keep.of {A : XA} {c c' : Cx} (h1 : c'.vl = c.vl) (h2 : c'.fl = c.fl) : Keep A c c' :=
  ⟨fun k _ h => by rw [← h1]; exact h, by rw [h1], by rw [h2], fun i _ => by rw [h2]⟩
theorem Keep.trans {A : XA} {a b c : Cx} (x : Keep A a b) (y : Keep A b c) : Keep A a c := by
  refine ⟨fun k hk h => x.vl k hk (y.vl k (by rw [x.lv]; exact hk) h), by rw [y.lv, x.lv], by rw [y.lf, x.lf], fun i h => ?_⟩
  rw [y.fl i fun k hk => h k (by rw [← x.lv]; exact hk), x.fl i fun k hk => (h k hk).imp (y.vl k (by rw [x.lv]; exact hk)) id]
theorem XA.ext_keep (A : XA) (d : Nat → BitVec 8) (c : Cx) (hd : Int) (hl : hd = 0 ∨ A.hl.idxOf hd < c.vl.length) : Keep A c (A.ext d c.tick hd) := by
  unfold XA.ext
  split
  · exact Keep.of rfl rfl
  · rename_i h0
    have hl := hl.resolve_left h0
    refine ⟨fun k hk h => ?_, by show (c.vl.set _ _).length = _; rw [List.length_set], A.run_full _ _ _, fun i h => ?_⟩
    · have h' : (c.vl.set (A.hl.idxOf hd) true)[k]? = some false := h
      by_cases e : A.hl.idxOf hd = k
      · subst e
        rw [List.getElem?_set_self hk] at h'; cases h'
      · rw [List.getElem?_set_ne e] at h'; exact h'
    · refine A.hdr_keep d c.tick _ i ?_
      rcases h _ hl with h | h
      · have h' : (c.vl.set (A.hl.idxOf hd) true)[A.hl.idxOf hd]? = some false := h
        rw [List.getElem?_set_self hl] at h'; cases h'
      · exact h
theorem XA.go_keep {A : XA} (ok : A.OK) (m : Nat) (d : Nat → BitVec 8) : ∀ (n : Nat) (c : Cx) (a : Nat), a < A.sl.length → c.vl.length = A.hl.length → Keep A c (A.go m d n c a).1
  | 0, c, a, _, _ => Keep.of rfl rfl
  | n + 1, c, a, ha, hv => by
    have hh : (A.sd a).hd = 0 ∨ A.hl.idxOf (A.sd a).hd < c.vl.length := (ok.hd a ha).imp id fun h => by rw [hv]; exact List.idxOf_lt_length_of_mem h
    have k1 := A.ext_keep d c _ hh
    have hn := XA.next_mem ok ha (A.ext d c.tick (A.sd a).hd).fl
    unfold XA.go
    split
    · dsimp only
      split
      · exact k1
      · rename_i h0
        split
        · exact k1
        · rename_i h1
          exact k1.trans (A.go_keep ok m d n _ _ (List.idxOf_lt_length_of_mem ((hn.resolve_left h0).resolve_left h1)) (by rw [k1.lv, hv]))
    · exact Keep.of rfl rfl

theorem begun28_ok (h : Heap) : NCall Try.prog 16 [] h fun q => q = (.bool true, h) := call_run mixed (lk_ok tab_ok) (N := 2000) (D := 40) (by kernel_rfl) h

def inUp (A : XA) (id : Int) : Nat → Int
  | 0 => -1
  | k + 1 => if id ∈ A.hf k then k else inUp A id k

theorem ofv_cells {k : Int} (h : 0 ≤ k ∧ k < 18446744073709551616) : ([nb (hiOf (ofV k)), nb (loOf (ofV k))] : List NV) = [.int .u64 0, .int .u64 k] := by
  have h1 := ofV_nv h
  simp only [vnv, NV.agg.injEq] at h1
  rw [← h1, nb_of k h]
  rfl
theorem port_i (x : Int) : IntKind.u64.wrap (IntKind.i64.wrap ((BitVec.ofInt IntKind.i64.bits x &&& BitVec.ofInt IntKind.i64.bits 65535).toNat : Int)) = x % 65536 := by
  have h1 : (BitVec.ofInt IntKind.i64.bits 65535).toNat = 2 ^ 16 - 1 := by decide
  rw [BitVec.toNat_and, h1, Nat.and_two_pow_sub_one_eq_mod, BitVec.toNat_ofInt]
  simp only [IntKind.wrap, IntKind.bits, IntKind.signed]
  simp
  omega
def inOf (j : Nat) : Option Nat := if j < 3 then none else if j < 6 then some 0 else if j = 6 then some 1 else some 2
theorem inUp_code (d1 d2 : Int) (k1 k3 : List XCase) (bud : Int) (j : Nat) (hj : j < 9) : inUp (XA.code d1 d2 0 k1 k3 bud) ((j : Int) + 1) 3 = match inOf j with | none => -1 | some k => (k : Int) := by
  match j, hj with
  | 0, _ => simp [inUp, XA.code, inOf]
  | 1, _ => simp [inUp, XA.code, inOf]
  | 2, _ => simp [inUp, XA.code, inOf]
  | 3, _ => simp [inUp, XA.code, inOf]
  | 4, _ => simp [inUp, XA.code, inOf]
  | 5, _ => simp [inUp, XA.code, inOf]
  | 6, _ => simp [inUp, XA.code, inOf]
  | 7, _ => simp [inUp, XA.code, inOf]
  | 8, _ => simp [inUp, XA.code, inOf]
theorem code_l (d1 d2 : Int) (k1 k3 : List XCase) (bud : Int) (j : Nat) (hj : j < (XA.code d1 d2 0 k1 k3 bud).l.length) : (XA.code d1 d2 0 k1 k3 bud).l[j] = (j : Int) + 1 := by
  have hj' : j < 9 := hj
  match j, hj' with
  | 0, _ => rfl
  | 1, _ => rfl
  | 2, _ => rfl
  | 3, _ => rfl
  | 4, _ => rfl
  | 5, _ => rfl
  | 6, _ => rfl
  | 7, _ => rfl
  | 8, _ => rfl
theorem code_apart (d1 d2 : Int) (k1 k3 : List XCase) (bud : Int) (j k : Nat) (hj : j < 9) (hk : k < 3) (h : inOf j ≠ some k) : ∀ id ∈ (XA.code d1 d2 0 k1 k3 bud).hf k, (XA.code d1 d2 0 k1 k3 bud).l.idxOf id ≠ j := by
  have key : ∀ k, k < 3 → ∀ j, j < 9 → inOf j ≠ some k → ∀ id ∈ ([[4, 5, 6], [7], [8, 9]] : List (List Int)).getD k [], ([1, 2, 3, 4, 5, 6, 7, 8, 9] : List Int).idxOf id ≠ j := by decide
  exact key k hk j hj h
theorem start_get (d1 d2 : Int) (k1 k3 : List XCase) (bud port : Int) (j : Nat) (hj : j < 9) : ((XA.code d1 d2 0 k1 k3 bud).start port)[j]? = some (ofV (if j = 0 then port % 65536 else 0)) := by
  match j, hj with
  | 0, _ => rfl
  | 1, _ => rfl
  | 2, _ => rfl
  | 3, _ => rfl
  | 4, _ => rfl
  | 5, _ => rfl
  | 6, _ => rfl
  | 7, _ => rfl
  | 8, _ => rfl

set_option maxHeartbeats 4000000 in
theorem local_ok (H : Heap) (v1 v2 : NV) (xs ys : List Int) (port : Int) (h1 : BytesArg H v1 xs) (h2 : BytesArg H v2 ys) : NFun Try.prog 6 [v1, v2, .int .i64 port] H fun q => q.1 = .bool true := by
  refine fun_of_fwp E0 mixed t6_ok.2 (by kernel_rfl) ?_
  rw [fwp_T]
  simp only [t6]
  simp (disch := first | omega | (simp only [List.length_append, List.length_cons, List.length_nil, length_hset, length_hkill]; omega)) only [↓fsPre, fsPost, fsCond, fsGen, npick, nbin, nun, nconv, nnilCheck, noff, nidxArr, nidxSl, nfield, npart, nindex, nextract, nlenSl, nlenStr, ncap, mmx, minmax2, nslice, nsliceArr, nbounds, obound, bound, adv, nbits, eqVal, eqCell, eqCells, nfill, lenOfSl, cls, fresults, fresl, fres1, gt_iff_lt, ge_iff_le, reduceCtorEq, Nat.reduceAdd, Nat.reduceMul, Nat.reduceSub, Nat.reduceLT, Nat.reduceLeDiff, Nat.reduceEqDiff, Nat.reduceBEq, Nat.reduceBNe, Int.reduceLT, Int.reduceLE, Int.reduceEq, Int.reduceNe, Int.reduceAdd, Int.reduceSub, Int.reduceNeg, Int.reduceToNat, Int.reduceMul, ↓reduceIte, Int.reduceGT, Int.reduceGE]
  refine callT_D (codes_ok H v1 xs 120 h1 (by omega)) rfl ?_
  rintro c1 g1 ⟨sl1, n1, e, hs1⟩
  cases e
  simp (disch := first | omega | (simp only [List.length_append, List.length_cons, List.length_nil, length_hset, length_hkill]; omega)) only [↓fsPre, fsPost, fsCond, fsGen, npick, nbin, nun, nconv, nnilCheck, noff, nidxArr, nidxSl, nfield, npart, nindex, nextract, nlenSl, nlenStr, ncap, mmx, minmax2, nslice, nsliceArr, nbounds, obound, bound, adv, nbits, eqVal, eqCell, eqCells, nfill, lenOfSl, cls, fresults, fresl, fres1, gt_iff_lt, ge_iff_le, reduceCtorEq, Nat.reduceAdd, Nat.reduceMul, Nat.reduceSub, Nat.reduceLT, Nat.reduceLeDiff, Nat.reduceEqDiff, Nat.reduceBEq, Nat.reduceBNe, Int.reduceLT, Int.reduceLE, Int.reduceEq, Int.reduceNe, Int.reduceAdd, Int.reduceSub, Int.reduceNeg, Int.reduceToNat, Int.reduceMul, ↓reduceIte, Int.reduceGT, Int.reduceGE]
  refine callT_D (schema_ok _ H.length n1 sl1 (CodesSt.refl (a := 0) (by simp (disch := first | omega | (simp only [List.length_append, List.length_cons, List.length_nil, length_hset, length_hkill]; omega)) only [↓fsPre, fsPost, fsCond, fsGen, npick, nbin, nun, nconv, nnilCheck, noff, nidxArr, nidxSl, nfield, npart, nindex, nextract, nlenSl, nlenStr, ncap, mmx, minmax2, nslice, nsliceArr, nbounds, obound, bound, adv, nbits, eqVal, eqCell, eqCells, nfill, lenOfSl, cls, fresults, fresl, fres1, gt_iff_lt, ge_iff_le, reduceCtorEq, Nat.reduceAdd, Nat.reduceMul, Nat.reduceSub, Nat.reduceLT, Nat.reduceLeDiff, Nat.reduceEqDiff, Nat.reduceBEq, Nat.reduceBNe, Int.reduceLT, Int.reduceLE, Int.reduceEq, Int.reduceNe, Int.reduceAdd, Int.reduceSub, Int.reduceNeg, Int.reduceToNat, Int.reduceMul, ↓reduceIte, Int.reduceGT, Int.reduceGE]) (by omega) (by omega) hs1)) rfl ?_
  rintro s g hq
  obtain ⟨d1, d2, k1, k3, bud, z0, z1, z2, z3, z4, z5, z6, z7, z8, l3, l4, l5, rfl, x, hC, st, i3, i4, i5⟩ := hq.xids
  have oldg : ∀ b, b < H.length → hget g b = hget H b := fun b hb => (st.old b (by simp; omega) (by omega)).trans (hget_appl hb)
  have hgl := st.len
  simp only [List.length_append, List.length_cons, List.length_nil] at hgl
  obtain ⟨o0, o1, o2, o3, o4, o5, o6, o7, o8, o9⟩ := x.ones
  obtain ⟨bf0, cf0, csf, rof, ez0, hbf0, hrf⟩ := id x.f
  obtain ⟨bh0, ch0, csh, roh, ez1, hbh0, hrh⟩ := id x.g
  have ez0 : z0 = .slice (some (bf0, 0)) 9 cf0 := ez0
  have ez1 : z1 = .slice (some (bh0, 0)) 3 ch0 := ez1
  subst ez0 ez1
  have hl9 : (XA.code d1 d2 0 k1 k3 bud).l.length = 9 := rfl
  have hl3 : (XA.code d1 d2 0 k1 k3 bud).hl.length = 3 := rfl
  simp (disch := first | omega | (simp only [List.length_append, List.length_cons, List.length_nil, length_hset, length_hkill]; omega)) only [↓fsPre, fsPost, fsCond, fsGen, npick, nbin, nun, nconv, nnilCheck, noff, nidxArr, nidxSl, nfield, npart, nindex, nextract, nlenSl, nlenStr, ncap, mmx, minmax2, nslice, nsliceArr, nbounds, obound, bound, adv, nbits, eqVal, eqCell, eqCells, nfill, lenOfSl, cls, fresults, fresl, fres1, gt_iff_lt, ge_iff_le, reduceCtorEq, Nat.reduceAdd, Nat.reduceMul, Nat.reduceSub, Nat.reduceLT, Nat.reduceLeDiff, Nat.reduceEqDiff, Nat.reduceBEq, Nat.reduceBNe, Int.reduceLT, Int.reduceLE, Int.reduceEq, Int.reduceNe, Int.reduceAdd, Int.reduceSub, Int.reduceNeg, Int.reduceToNat, Int.reduceMul, ↓reduceIte, Int.reduceGT, Int.reduceGE]
  refine callT_D (codes_ok g v2 ys 60 (by
    rcases h2 with h | ⟨b, m, cs, ro, e1, e2, e3⟩
    · exact .inl h
    · exact .inr ⟨b, m, cs, ro, e1, by rw [oldg b (hget_lt e2)]; exact e2, e3⟩) (by omega)) rfl ?_
  rintro c2 g2 ⟨sl2, n2, e, hs2⟩
  cases e
  simp (disch := first | omega | (simp only [List.length_append, List.length_cons, List.length_nil, length_hset, length_hkill]; omega)) only [↓fsPre, fsPost, fsCond, fsGen, npick, nbin, nun, nconv, nnilCheck, noff, nidxArr, nidxSl, nfield, npart, nindex, nextract, nlenSl, nlenStr, ncap, mmx, minmax2, nslice, nsliceArr, nbounds, obound, bound, adv, nbits, eqVal, eqCell, eqCells, nfill, lenOfSl, cls, fresults, fresl, fres1, gt_iff_lt, ge_iff_le, reduceCtorEq, Nat.reduceAdd, Nat.reduceMul, Nat.reduceSub, Nat.reduceLT, Nat.reduceLeDiff, Nat.reduceEqDiff, Nat.reduceBEq, Nat.reduceBNe, Int.reduceLT, Int.reduceLE, Int.reduceEq, Int.reduceNe, Int.reduceAdd, Int.reduceSub, Int.reduceNeg, Int.reduceToNat, Int.reduceMul, ↓reduceIte, Int.reduceGT, Int.reduceGE, o2, o3, o4, o5, o6, o7, o8]
  have hn2 : n2 ≤ 1000 := by
    rcases hs2 with ⟨_, h⟩ | ⟨_, _, _, _, _, _, _, h, _⟩ <;> omega
  obtain ⟨G, hG⟩ : ∃ G, G = g ++ [some (NBlk.cells [sl2, .int .i64 0] false), some (.cells [(.slice (some (bf0, 0)) 9 cf0), (.slice (some (bh0, 0)) 3 ch0), z2, z3, z4, z5, z6, z7, z8, .int .i64 bud] false), none] := ⟨_, rfl⟩
  rw [← hG]
  have hKg : ∀ b, b < g.length → hget G b = hget g b := fun b hb => by rw [hG]; exact hget_appl hb
  have hKl : G.length = g.length + 3 := by rw [hG]; simp
  have b9 : hget G (g.length + 1) = some (.cells [(.slice (some (bf0, 0)) 9 cf0), (.slice (some (bh0, 0)) 3 ch0), z2, z3, z4, z5, z6, z7, z8, .int .i64 bud] false) := by rw [hG]; simp (disch := first | omega | (simp only [List.length_append, List.length_cons, List.length_nil, length_hset, length_hkill]; omega)) only [↓fsPre, fsPost, fsCond, fsGen, npick, nbin, nun, nconv, nnilCheck, noff, nidxArr, nidxSl, nfield, npart, nindex, nextract, nlenSl, nlenStr, ncap, mmx, minmax2, nslice, nsliceArr, nbounds, obound, bound, adv, nbits, eqVal, eqCell, eqCells, nfill, lenOfSl, cls, fresults, fresl, fres1, gt_iff_lt, ge_iff_le, reduceCtorEq, Nat.reduceAdd, Nat.reduceMul, Nat.reduceSub, Nat.reduceLT, Nat.reduceLeDiff, Nat.reduceEqDiff, Nat.reduceBEq, Nat.reduceBNe, Int.reduceLT, Int.reduceLE, Int.reduceEq, Int.reduceNe, Int.reduceAdd, Int.reduceSub, Int.reduceNeg, Int.reduceToNat, Int.reduceMul, ↓reduceIte, Int.reduceGT, Int.reduceGE]
  have b8 : hget G g.length = some (.cells [sl2, .int .i64 0] false) := by rw [hG]; simp (disch := first | omega | (simp only [List.length_append, List.length_cons, List.length_nil, length_hset, length_hkill]; omega)) only [↓fsPre, fsPost, fsCond, fsGen, npick, nbin, nun, nconv, nnilCheck, noff, nidxArr, nidxSl, nfield, npart, nindex, nextract, nlenSl, nlenStr, ncap, mmx, minmax2, nslice, nsliceArr, nbounds, obound, bound, adv, nbits, eqVal, eqCell, eqCells, nfill, lenOfSl, cls, fresults, fresl, fres1, gt_iff_lt, ge_iff_le, reduceCtorEq, Nat.reduceAdd, Nat.reduceMul, Nat.reduceSub, Nat.reduceLT, Nat.reduceLeDiff, Nat.reduceEqDiff, Nat.reduceBEq, Nat.reduceBNe, Int.reduceLT, Int.reduceLE, Int.reduceEq, Int.reduceNe, Int.reduceAdd, Int.reduceSub, Int.reduceNeg, Int.reduceToNat, Int.reduceMul, ↓reduceIte, Int.reduceGT, Int.reduceGE]
  have b7 : hget G (g.length + 2) = none := by rw [hG]; simp (disch := first | omega | (simp only [List.length_append, List.length_cons, List.length_nil, length_hset, length_hkill]; omega)) only [↓fsPre, fsPost, fsCond, fsGen, npick, nbin, nun, nconv, nnilCheck, noff, nidxArr, nidxSl, nfield, npart, nindex, nextract, nlenSl, nlenStr, ncap, mmx, minmax2, nslice, nsliceArr, nbounds, obound, bound, adv, nbits, eqVal, eqCell, eqCells, nfill, lenOfSl, cls, fresults, fresl, fres1, gt_iff_lt, ge_iff_le, reduceCtorEq, Nat.reduceAdd, Nat.reduceMul, Nat.reduceSub, Nat.reduceLT, Nat.reduceLeDiff, Nat.reduceEqDiff, Nat.reduceBEq, Nat.reduceBNe, Int.reduceLT, Int.reduceLE, Int.reduceEq, Int.reduceNe, Int.reduceAdd, Int.reduceSub, Int.reduceNeg, Int.reduceToNat, Int.reduceMul, ↓reduceIte, Int.reduceGT, Int.reduceGE]
  have hs3 : CodesSl G g.length sl2 n2 := by
    rw [hG]
    rcases hs2 with h | ⟨b, m, cs, ro, e1, e2, e3⟩
    · exact .inl h
    · refine .inr ⟨b, m, cs, ro, e1, ?_, e3⟩
      have := hget_lt e2
      simp only [List.length_append, List.length_singleton] at this
      rw [hget_appl (by omega)] at e2 ⊢
      exact e2
  clear hG
  have st0 : CodesSt G G g.length n2 sl2 := CodesSt.refl (a := 0) b8 (by omega) (by omega) hs3
  refine callDT_D (frame_ok _ g.length n2 sl2 st0 hn2) rfl ?_
  rintro v3 g3 ⟨bf, mf, df, e, hmf, hbf, hbd, st3⟩
  simp only at e hbd st3
  subst e
  have b93 : hget g3 (g.length + 1) = some (.cells [(.slice (some (bf0, 0)) 9 cf0), (.slice (some (bh0, 0)) 3 ch0), z2, z3, z4, z5, z6, z7, z8, .int .i64 bud] false) := by rw [st3.old _ (by omega) (by omega)]; exact b9
  have b73 : hget g3 (g.length + 2) = none := by rw [st3.old _ (by omega) (by omega)]; exact b7
  have l3' := st3.len
  have lbf := hget_some_lt hbd
  have hg3 : ∀ b, b < g.length → hget g3 b = hget g b := fun b hb => by rw [st3.old b (by omega) (by omega), hKg b hb]
  have xm : ∀ h, (∀ b, b < g.length → hget h b = hget g b) → XAt (XA.code d1 d2 0 k1 k3 bud) h (.slice (some (bf0, 0)) 9 cf0) (.slice (some (bh0, 0)) 3 ch0) z2 z3 z4 z5 z6 z7 z8 (.int .i64 bud) := fun h e => x.mono e
  simp (disch := first | omega | (simp only [List.length_append, List.length_cons, List.length_nil, length_hset, length_hkill]; omega)) only [↓fsPre, fsPost, fsCond, fsGen, npick, nbin, nun, nconv, nnilCheck, noff, nidxArr, nidxSl, nfield, npart, nindex, nextract, nlenSl, nlenStr, ncap, mmx, minmax2, nslice, nsliceArr, nbounds, obound, bound, adv, nbits, eqVal, eqCell, eqCells, nfill, lenOfSl, cls, fresults, fresl, fres1, gt_iff_lt, ge_iff_le, reduceCtorEq, Nat.reduceAdd, Nat.reduceMul, Nat.reduceSub, Nat.reduceLT, Nat.reduceLeDiff, Nat.reduceEqDiff, Nat.reduceBEq, Nat.reduceBNe, Int.reduceLT, Int.reduceLE, Int.reduceEq, Int.reduceNe, Int.reduceAdd, Int.reduceSub, Int.reduceNeg, Int.reduceToNat, Int.reduceMul, ↓reduceIte, Int.reduceGT, Int.reduceGE, b93, b9, o2, o3, o4, o5, o6, o7, o8]
  refine ⟨⟨by omega, b73⟩, ?_⟩
  refine callDT_D (start_ok (xm g3 hg3) port mf df _ (.inr ⟨bf, 0, .fix mf, _, false, rfl, hbd, by rw [arrC_cut (by omega)]; simp only [Nat.zero_add]⟩) (by omega) (by simp [XA.code])) rfl ?_
  rintro v6 g6 ⟨⟨L6, e6⟩, hc6⟩
  simp only at e6 hc6
  have hg6 : ∀ b, b < g3.length → hget g6 b = hget g3 b := fun b hb => by rw [e6]; exact hget_appl hb
  have l6 : g3.length ≤ g6.length := by rw [e6]; simp
  clear e6
  have b96 : hget g6 (g.length + 1) = _ := (hg6 _ (by omega)).trans b93
  have b76 : hget g6 (g.length + 2) = none := (hg6 _ (by omega)).trans b73
  have l6' : G.length ≤ g6.length := by omega
  simp (disch := first | omega | (simp only [List.length_append, List.length_cons, List.length_nil, length_hset, length_hkill]; omega)) only [↓fsPre, fsPost, fsCond, fsGen, npick, nbin, nun, nconv, nnilCheck, noff, nidxArr, nidxSl, nfield, npart, nindex, nextract, nlenSl, nlenStr, ncap, mmx, minmax2, nslice, nsliceArr, nbounds, obound, bound, adv, nbits, eqVal, eqCell, eqCells, nfill, lenOfSl, cls, fresults, fresl, fres1, gt_iff_lt, ge_iff_le, reduceCtorEq, Nat.reduceAdd, Nat.reduceMul, Nat.reduceSub, Nat.reduceLT, Nat.reduceLeDiff, Nat.reduceEqDiff, Nat.reduceBEq, Nat.reduceBNe, Int.reduceLT, Int.reduceLE, Int.reduceEq, Int.reduceNe, Int.reduceAdd, Int.reduceSub, Int.reduceNeg, Int.reduceToNat, Int.reduceMul, ↓reduceIte, Int.reduceGT, Int.reduceGE, b93, b9, b96, o2, o3, o4, o5, o6, o7, o8]
  refine ⟨⟨by omega, b76⟩, ?_⟩
  refine callDT_D (parse_ok (xm g6 fun b hb => by rw [hg6 b (by omega)]; exact hg3 b hb) _ mf df _ _ _ hc6 (by omega) ⟨by simp [XA.code], by simp [XA.code]⟩) rfl ?_
  rintro v7 g7 ⟨⟨L7, e7⟩, w7, e8, hc7⟩
  simp only at e7 e8 hc7
  subst e8
  have hg7 : ∀ b, b < g6.length → hget g7 b = hget g6 b := fun b hb => by rw [e7]; exact hget_appl hb
  have l7 : g6.length ≤ g7.length := by rw [e7]; simp
  clear e7
  have hK : Keep (XA.code d1 d2 0 k1 k3 bud) ⟨(XA.code d1 d2 0 k1 k3 bud).start port, List.replicate (XA.code d1 d2 0 k1 k3 bud).hl.length false, 0, 0⟩ ((XA.code d1 d2 0 k1 k3 bud).parse mf df ⟨(XA.code d1 d2 0 k1 k3 bud).start port, List.replicate (XA.code d1 d2 0 k1 k3 bud).hl.length false, 0, 0⟩).1 := by
    unfold XA.parse
    rw [if_neg (by simp [XA.code])]
    exact XA.go_keep x.ok mf df _ _ 0 (by simp [XA.code]) (by simp)
  generalize (XA.code d1 d2 0 k1 k3 bud).parse mf df ⟨(XA.code d1 d2 0 k1 k3 bud).start port, List.replicate (XA.code d1 d2 0 k1 k3 bud).hl.length false, 0, 0⟩ = P at *
  obtain ⟨⟨fl7, vl7, o7', st7⟩, r7⟩ := P
  dsimp only at hc7 hK
  obtain ⟨bF, bV, cF, cV, vR, rfl, gF, gV, hne, hF, hV, lF, lV, hR, hsep⟩ := hc7
  have ovR := hR.one
  obtain ⟨ofR, ocR⟩ := hR.flat
  have b97 : hget g7 (g.length + 1) = _ := (hg7 _ (by omega)).trans b96
  have b77 : hget g7 (g.length + 2) = none := (hg7 _ (by omega)).trans b76
  have l7' : G.length ≤ g7.length := by omega
  simp (disch := first | omega | (simp only [List.length_append, List.length_cons, List.length_nil, length_hset, length_hkill]; omega)) only [↓fsPre, fsPost, fsCond, fsGen, npick, nbin, nun, nconv, nnilCheck, noff, nidxArr, nidxSl, nfield, npart, nindex, nextract, nlenSl, nlenStr, ncap, mmx, minmax2, nslice, nsliceArr, nbounds, obound, bound, adv, nbits, eqVal, eqCell, eqCells, nfill, lenOfSl, cls, fresults, fresl, fres1, gt_iff_lt, ge_iff_le, reduceCtorEq, Nat.reduceAdd, Nat.reduceMul, Nat.reduceSub, Nat.reduceLT, Nat.reduceLeDiff, Nat.reduceEqDiff, Nat.reduceBEq, Nat.reduceBNe, Int.reduceLT, Int.reduceLE, Int.reduceEq, Int.reduceNe, Int.reduceAdd, Int.reduceSub, Int.reduceNeg, Int.reduceToNat, Int.reduceMul, ↓reduceIte, Int.reduceGT, Int.reduceGE, b93, b9, b96, b97, o2, o3, o4, o5, o6, o7, o8, ovR, ofR, ocR, cxCells, hl9, hl3]
  refine ⟨⟨by omega, b77⟩, by omega, ?_⟩
  obtain ⟨E, hE⟩ : ∃ E, E = hset g7 (g.length + 2) (.cells [.slice (some (bF, 0)) 9 cF, .slice (some (bV, 0)) 3 cV, vR, .int .i64 st7, .bool false] false) := ⟨_, rfl⟩
  rw [← hE]
  have e9 : hget E (g.length + 1) = some (.cells [.slice (some (bf0, 0)) 9 cf0, .slice (some (bh0, 0)) 3 ch0, z2, z3, z4, z5, z6, z7, z8, .int .i64 bud] false) := by rw [hE, hget_hset_ne (by omega)]; exact b97
  have e2 : hget E (g.length + 2) = some (.cells [.slice (some (bF, 0)) 9 cF, .slice (some (bV, 0)) 3 cV, vR, .int .i64 st7, .bool false] false) := by rw [hE, hget_hset_same (by omega)]
  have eF : hget E bF = some (.cells (vals fl7) false) := by rw [hE, hget_hset_ne (by omega)]; exact hF
  have eV : hget E bV = some (.cells (bools vl7) false) := by rw [hE, hget_hset_ne (by omega)]; exact hV
  have eg : ∀ b, b < g.length → hget E b = hget g b := fun b hb => by rw [hE, hget_hset_ne (by omega), hg7 b (by omega), hg6 b (by omega), hg3 b hb]
  have hEl : g.length + 3 ≤ E.length := by rw [hE, length_hset]; omega
  have lbF := hget_some_lt eF
  have lbV := hget_some_lt eV
  clear hE hF hV
  have lbf0 := hget_some_lt hbf0
  have lbh0 := hget_some_lt hbh0
  have ef0 : hget E bf0 = some (.cells csf rof) := (eg _ lbf0).trans hbf0
  have eh0 : hget E bh0 = some (.cells csh roh) := (eg _ lbh0).trans hbh0
  rw [hl9] at lF
  rw [hl3] at lV
  refine wloop (fun j F h => F 2 = .int .i64 port ∧ F 7 = .ptr (some (g.length + 1, 0)) ∧ F 9 = .ptr (some (g.length + 2, 0)) ∧ F 51 = .slice (some (bf0, 0)) 9 cf0 ∧ F 52 = .int .i64 9 ∧ F 53 = .int .i64 j ∧ E.length ≤ h.length ∧ ∀ b, b < E.length → hget h b = hget E b) 9 ?_ ?_ ?_
  · simp (disch := first | omega | (simp only [List.length_append, List.length_cons, List.length_nil, length_hset, length_hkill]; omega)) only [↓fsPre, fsPost, fsCond, fsGen, npick, nbin, nun, nconv, nnilCheck, noff, nidxArr, nidxSl, nfield, npart, nindex, nextract, nlenSl, nlenStr, ncap, mmx, minmax2, nslice, nsliceArr, nbounds, obound, bound, adv, nbits, eqVal, eqCell, eqCells, nfill, lenOfSl, cls, fresults, fresl, fres1, gt_iff_lt, ge_iff_le, reduceCtorEq, Nat.reduceAdd, Nat.reduceMul, Nat.reduceSub, Nat.reduceLT, Nat.reduceLeDiff, Nat.reduceEqDiff, Nat.reduceBEq, Nat.reduceBNe, Int.reduceLT, Int.reduceLE, Int.reduceEq, Int.reduceNe, Int.reduceAdd, Int.reduceSub, Int.reduceNeg, Int.reduceToNat, Int.reduceMul, ↓reduceIte, Int.reduceGT, Int.reduceGE]
  · rintro j F h hj ⟨f2, f7, f9, f51, f52, f53, hlen, hold⟩
    obtain ⟨s, hcj⟩ := hrf j hj
    have h9 : hget h (g.length + 1) = _ := (hold _ (by omega)).trans e9
    have hf0 : hget h bf0 = _ := (hold _ (by omega)).trans ef0
    have hh0 : hget h bh0 = _ := (hold _ (by omega)).trans eh0
    simp (disch := first | omega | (simp only [List.length_append, List.length_cons, List.length_nil, length_hset, length_hkill]; omega)) only [↓fsPre, fsPost, fsCond, fsGen, npick, nbin, nun, nconv, nnilCheck, noff, nidxArr, nidxSl, nfield, npart, nindex, nextract, nlenSl, nlenStr, ncap, mmx, minmax2, nslice, nsliceArr, nbounds, obound, bound, adv, nbits, eqVal, eqCell, eqCells, nfill, lenOfSl, cls, fresults, fresl, fres1, gt_iff_lt, ge_iff_le, reduceCtorEq, Nat.reduceAdd, Nat.reduceMul, Nat.reduceSub, Nat.reduceLT, Nat.reduceLeDiff, Nat.reduceEqDiff, Nat.reduceBEq, Nat.reduceBNe, Int.reduceLT, Int.reduceLE, Int.reduceEq, Int.reduceNe, Int.reduceAdd, Int.reduceSub, Int.reduceNeg, Int.reduceToNat, Int.reduceMul, ↓reduceIte, Int.reduceGT, Int.reduceGE, f2, f7, f9, f51, f52, f53, hf0, hcj, h9]
    refine wloop (fun k F h1 => F 2 = .int .i64 port ∧ F 7 = .ptr (some (g.length + 1, 0)) ∧ F 9 = .ptr (some (g.length + 2, 0)) ∧ F 51 = .slice (some (bf0, 0)) 9 cf0 ∧ F 52 = .int .i64 9 ∧ F 53 = .int .i64 j ∧ F 11 = .int .i64 j ∧ F 12 = .ptr (some (h.length, 0)) ∧
      F 13 = .int .i64 (inUp (XA.code d1 d2 0 k1 k3 bud) (XA.code d1 d2 0 k1 k3 bud).l[j] k) ∧ F 59 = .slice (some (bh0, 0)) 3 ch0 ∧ F 60 = .int .i64 3 ∧ F 61 = .int .i64 k ∧ h.length + 1 ≤ h1.length ∧ (∀ b, b < h.length → hget h1 b = hget h b) ∧
      hget h1 h.length = some (.cells [.int .i64 (XA.code d1 d2 0 k1 k3 bud).l[j], .str s, .int .i64 ((XA.code d1 d2 0 k1 k3 bud).w j)] false)) 3 ?_ ?_ ?_
    · simp (disch := first | omega | (simp only [List.length_append, List.length_cons, List.length_nil, length_hset, length_hkill]; omega)) only [↓fsPre, fsPost, fsCond, fsGen, npick, nbin, nun, nconv, nnilCheck, noff, nidxArr, nidxSl, nfield, npart, nindex, nextract, nlenSl, nlenStr, ncap, mmx, minmax2, nslice, nsliceArr, nbounds, obound, bound, adv, nbits, eqVal, eqCell, eqCells, nfill, lenOfSl, cls, fresults, fresl, fres1, gt_iff_lt, ge_iff_le, reduceCtorEq, Nat.reduceAdd, Nat.reduceMul, Nat.reduceSub, Nat.reduceLT, Nat.reduceLeDiff, Nat.reduceEqDiff, Nat.reduceBEq, Nat.reduceBNe, Int.reduceLT, Int.reduceLE, Int.reduceEq, Int.reduceNe, Int.reduceAdd, Int.reduceSub, Int.reduceNeg, Int.reduceToNat, Int.reduceMul, ↓reduceIte, Int.reduceGT, Int.reduceGE, f2, f7, f9, f51, f52, f53]
      exact ⟨rfl, fun b hb => hget_appl hb⟩
    · rintro k F h1 hk ⟨f2, f7, f9, f51, f52, f53, f11, f12, f13, f59, f60, f61, hl1, hold1, hrow1⟩
      obtain ⟨s', b', c', cs', ro', hck, hb', hcs'⟩ := hrh k hk
      have lb' := hget_some_lt hb'
      have hh1 : hget h1 bh0 = _ := (hold1 _ (by omega)).trans hh0
      have hb1 : hget h1 b' = some (.cells cs' ro') := by rw [hold1 _ (by omega), hold _ (by omega), eg _ lb']; exact hb'
      simp (disch := first | omega | (simp only [List.length_append, List.length_cons, List.length_nil, length_hset, length_hkill]; omega)) only [↓fsPre, fsPost, fsCond, fsGen, npick, nbin, nun, nconv, nnilCheck, noff, nidxArr, nidxSl, nfield, npart, nindex, nextract, nlenSl, nlenStr, ncap, mmx, minmax2, nslice, nsliceArr, nbounds, obound, bound, adv, nbits, eqVal, eqCell, eqCells, nfill, lenOfSl, cls, fresults, fresl, fres1, gt_iff_lt, ge_iff_le, reduceCtorEq, Nat.reduceAdd, Nat.reduceMul, Nat.reduceSub, Nat.reduceLT, Nat.reduceLeDiff, Nat.reduceEqDiff, Nat.reduceBEq, Nat.reduceBNe, Int.reduceLT, Int.reduceLE, Int.reduceEq, Int.reduceNe, Int.reduceAdd, Int.reduceSub, Int.reduceNeg, Int.reduceToNat, Int.reduceMul, ↓reduceIte, Int.reduceGT, Int.reduceGE, f2, f7, f9, f51, f52, f53, f11, f12, f13, f59, f60, f61, hh1, hck]
      have hln : ((XA.code d1 d2 0 k1 k3 bud).hf k).length ≤ 100 := (x.ok.hf k hk).1
      refine wloop (fun i F h' => F 2 = .int .i64 port ∧ F 7 = .ptr (some (g.length + 1, 0)) ∧ F 9 = .ptr (some (g.length + 2, 0)) ∧ F 51 = .slice (some (bf0, 0)) 9 cf0 ∧ F 52 = .int .i64 9 ∧ F 53 = .int .i64 j ∧ F 11 = .int .i64 j ∧ F 12 = .ptr (some (h.length, 0)) ∧
        F 13 = .int .i64 (if (XA.code d1 d2 0 k1 k3 bud).l[j] ∈ ((XA.code d1 d2 0 k1 k3 bud).hf k).take i then (k : Int) else inUp (XA.code d1 d2 0 k1 k3 bud) (XA.code d1 d2 0 k1 k3 bud).l[j] k) ∧ F 59 = .slice (some (bh0, 0)) 3 ch0 ∧ F 60 = .int .i64 3 ∧ F 61 = .int .i64 k ∧
        F 14 = .int .i64 k ∧ F 67 = .slice (some (b', 0)) ((XA.code d1 d2 0 k1 k3 bud).hf k).length c' ∧ F 68 = .int .i64 ((XA.code d1 d2 0 k1 k3 bud).hf k).length ∧ F 69 = .int .i64 i ∧
        h' = h1 ++ [some (.cells [.int .i64 (XA.code d1 d2 0 k1 k3 bud).hl[k], .str s', .slice (some (b', 0)) ((XA.code d1 d2 0 k1 k3 bud).hf k).length c'] false)]) ((XA.code d1 d2 0 k1 k3 bud).hf k).length ?_ ?_ ?_
      · simp (disch := first | omega | (simp only [List.length_append, List.length_cons, List.length_nil, length_hset, length_hkill]; omega)) only [↓fsPre, fsPost, fsCond, fsGen, npick, nbin, nun, nconv, nnilCheck, noff, nidxArr, nidxSl, nfield, npart, nindex, nextract, nlenSl, nlenStr, ncap, mmx, minmax2, nslice, nsliceArr, nbounds, obound, bound, adv, nbits, eqVal, eqCell, eqCells, nfill, lenOfSl, cls, fresults, fresl, fres1, gt_iff_lt, ge_iff_le, reduceCtorEq, Nat.reduceAdd, Nat.reduceMul, Nat.reduceSub, Nat.reduceLT, Nat.reduceLeDiff, Nat.reduceEqDiff, Nat.reduceBEq, Nat.reduceBNe, Int.reduceLT, Int.reduceLE, Int.reduceEq, Int.reduceNe, Int.reduceAdd, Int.reduceSub, Int.reduceNeg, Int.reduceToNat, Int.reduceMul, ↓reduceIte, Int.reduceGT, Int.reduceGE, f2, f7, f9, f51, f52, f53, f11, f12, f13, f59, f60, f61]
        first | done | simp
      · rintro i F h' hi ⟨f2, f7, f9, f51, f52, f53, f11, f12, f13, f59, f60, f61, f14, f67, f68, f69, rfl⟩
        have hci := hcs' i hi
        have htk : ((XA.code d1 d2 0 k1 k3 bud).hf k).take (i + 1) = ((XA.code d1 d2 0 k1 k3 bud).hf k).take i ++ [((XA.code d1 d2 0 k1 k3 bud).hf k)[i]] := by rw [List.take_add_one, List.getElem?_eq_getElem hi]; rfl
        simp (disch := first | omega | (simp only [List.length_append, List.length_cons, List.length_nil, length_hset, length_hkill]; omega)) only [↓fsPre, fsPost, fsCond, fsGen, npick, nbin, nun, nconv, nnilCheck, noff, nidxArr, nidxSl, nfield, npart, nindex, nextract, nlenSl, nlenStr, ncap, mmx, minmax2, nslice, nsliceArr, nbounds, obound, bound, adv, nbits, eqVal, eqCell, eqCells, nfill, lenOfSl, cls, fresults, fresl, fres1, gt_iff_lt, ge_iff_le, reduceCtorEq, Nat.reduceAdd, Nat.reduceMul, Nat.reduceSub, Nat.reduceLT, Nat.reduceLeDiff, Nat.reduceEqDiff, Nat.reduceBEq, Nat.reduceBNe, Int.reduceLT, Int.reduceLE, Int.reduceEq, Int.reduceNe, Int.reduceAdd, Int.reduceSub, Int.reduceNeg, Int.reduceToNat, Int.reduceMul, ↓reduceIte, Int.reduceGT, Int.reduceGE, f2, f7, f9, f51, f52, f53, f11, f12, f13, f59, f60, f61, f14, f67, f68, f69, hb1, hci, hrow1]
        refine condK_dec (fun he => ?_) (fun he => ?_)
        · simp (disch := first | omega | (simp only [List.length_append, List.length_cons, List.length_nil, length_hset, length_hkill]; omega)) only [↓fsPre, fsPost, fsCond, fsGen, npick, nbin, nun, nconv, nnilCheck, noff, nidxArr, nidxSl, nfield, npart, nindex, nextract, nlenSl, nlenStr, ncap, mmx, minmax2, nslice, nsliceArr, nbounds, obound, bound, adv, nbits, eqVal, eqCell, eqCells, nfill, lenOfSl, cls, fresults, fresl, fres1, gt_iff_lt, ge_iff_le, reduceCtorEq, Nat.reduceAdd, Nat.reduceMul, Nat.reduceSub, Nat.reduceLT, Nat.reduceLeDiff, Nat.reduceEqDiff, Nat.reduceBEq, Nat.reduceBNe, Int.reduceLT, Int.reduceLE, Int.reduceEq, Int.reduceNe, Int.reduceAdd, Int.reduceSub, Int.reduceNeg, Int.reduceToNat, Int.reduceMul, ↓reduceIte, Int.reduceGT, Int.reduceGE, f2, f7, f9, f51, f52, f53, f11, f12, f13, f59, f60, f61, f14, f67, f68, f69]
          rw [if_pos (by rw [htk, he]; simp)]
        · simp (disch := first | omega | (simp only [List.length_append, List.length_cons, List.length_nil, length_hset, length_hkill]; omega)) only [↓fsPre, fsPost, fsCond, fsGen, npick, nbin, nun, nconv, nnilCheck, noff, nidxArr, nidxSl, nfield, npart, nindex, nextract, nlenSl, nlenStr, ncap, mmx, minmax2, nslice, nsliceArr, nbounds, obound, bound, adv, nbits, eqVal, eqCell, eqCells, nfill, lenOfSl, cls, fresults, fresl, fres1, gt_iff_lt, ge_iff_le, reduceCtorEq, Nat.reduceAdd, Nat.reduceMul, Nat.reduceSub, Nat.reduceLT, Nat.reduceLeDiff, Nat.reduceEqDiff, Nat.reduceBEq, Nat.reduceBNe, Int.reduceLT, Int.reduceLE, Int.reduceEq, Int.reduceNe, Int.reduceAdd, Int.reduceSub, Int.reduceNeg, Int.reduceToNat, Int.reduceMul, ↓reduceIte, Int.reduceGT, Int.reduceGE, f2, f7, f9, f51, f52, f53, f11, f12, f13, f59, f60, f61, f14, f67, f68, f69]
          have hiff : ((XA.code d1 d2 0 k1 k3 bud).l[j] ∈ ((XA.code d1 d2 0 k1 k3 bud).hf k).take (i + 1)) ↔ ((XA.code d1 d2 0 k1 k3 bud).l[j] ∈ ((XA.code d1 d2 0 k1 k3 bud).hf k).take i) := by
            rw [htk, List.mem_append, List.mem_singleton]
            exact ⟨fun h => h.resolve_right (fun e => he e.symm), .inl⟩
          simp only [hiff]
      · rintro F h' ⟨f2, f7, f9, f51, f52, f53, f11, f12, f13, f59, f60, f61, f14, f67, f68, f69, rfl⟩
        rw [List.take_length] at f13
        simp (disch := first | omega | (simp only [List.length_append, List.length_cons, List.length_nil, length_hset, length_hkill]; omega)) only [↓fsPre, fsPost, fsCond, fsGen, npick, nbin, nun, nconv, nnilCheck, noff, nidxArr, nidxSl, nfield, npart, nindex, nextract, nlenSl, nlenStr, ncap, mmx, minmax2, nslice, nsliceArr, nbounds, obound, bound, adv, nbits, eqVal, eqCell, eqCells, nfill, lenOfSl, cls, fresults, fresl, fres1, gt_iff_lt, ge_iff_le, reduceCtorEq, Nat.reduceAdd, Nat.reduceMul, Nat.reduceSub, Nat.reduceLT, Nat.reduceLeDiff, Nat.reduceEqDiff, Nat.reduceBEq, Nat.reduceBNe, Int.reduceLT, Int.reduceLE, Int.reduceEq, Int.reduceNe, Int.reduceAdd, Int.reduceSub, Int.reduceNeg, Int.reduceToNat, Int.reduceMul, ↓reduceIte, Int.reduceGT, Int.reduceGE, f2, f7, f9, f51, f52, f53, f11, f12, f13, f59, f60, f61, f14, f67, f68, f69, hrow1]
        refine ⟨rfl, by omega, fun b hb => ?_⟩
        simp (disch := first | omega | (simp only [List.length_append, List.length_cons, List.length_nil, length_hset, length_hkill]; omega)) only [↓fsPre, fsPost, fsCond, fsGen, npick, nbin, nun, nconv, nnilCheck, noff, nidxArr, nidxSl, nfield, npart, nindex, nextract, nlenSl, nlenStr, ncap, mmx, minmax2, nslice, nsliceArr, nbounds, obound, bound, adv, nbits, eqVal, eqCell, eqCells, nfill, lenOfSl, cls, fresults, fresl, fres1, gt_iff_lt, ge_iff_le, reduceCtorEq, Nat.reduceAdd, Nat.reduceMul, Nat.reduceSub, Nat.reduceLT, Nat.reduceLeDiff, Nat.reduceEqDiff, Nat.reduceBEq, Nat.reduceBNe, Int.reduceLT, Int.reduceLE, Int.reduceEq, Int.reduceNe, Int.reduceAdd, Int.reduceSub, Int.reduceNeg, Int.reduceToNat, Int.reduceMul, ↓reduceIte, Int.reduceGT, Int.reduceGE]
        exact hold1 b hb
    · rintro F h1 ⟨f2, f7, f9, f51, f52, f53, f11, f12, f13, f59, f60, f61, hl1, hold1, hrow1⟩
      simp (disch := first | omega | (simp only [List.length_append, List.length_cons, List.length_nil, length_hset, length_hkill]; omega)) only [↓fsPre, fsPost, fsCond, fsGen, npick, nbin, nun, nconv, nnilCheck, noff, nidxArr, nidxSl, nfield, npart, nindex, nextract, nlenSl, nlenStr, ncap, mmx, minmax2, nslice, nsliceArr, nbounds, obound, bound, adv, nbits, eqVal, eqCell, eqCells, nfill, lenOfSl, cls, fresults, fresl, fres1, gt_iff_lt, ge_iff_le, reduceCtorEq, Nat.reduceAdd, Nat.reduceMul, Nat.reduceSub, Nat.reduceLT, Nat.reduceLeDiff, Nat.reduceEqDiff, Nat.reduceBEq, Nat.reduceBNe, Int.reduceLT, Int.reduceLE, Int.reduceEq, Int.reduceNe, Int.reduceAdd, Int.reduceSub, Int.reduceNeg, Int.reduceToNat, Int.reduceMul, ↓reduceIte, Int.reduceGT, Int.reduceGE, f2, f7, f9, f51, f52, f53, f11, f12, f13, f59, f60, f61, hrow1]
      have hlj := code_l d1 d2 k1 k3 bud j hj
      have hin := inUp_code d1 d2 k1 k3 bud j hj
      have hc2 : hget h1 (g.length + 2) = _ := (hold1 _ (by omega)).trans ((hold _ (by omega)).trans e2)
      have hcF : hget h1 bF = _ := (hold1 _ (by omega)).trans ((hold _ (by omega)).trans eF)
      have hcV : hget h1 bV = _ := (hold1 _ (by omega)).trans ((hold _ (by omega)).trans eV)
      have hjf : j < fl7.length := by rw [lF]; exact hj
      have hfl : (∀ k, inOf j = some k → vl7[k]? = some false) → fl7[j]? = some (ofV (if j = 0 then port % 65536 else 0)) := fun hv =>
        (hK.fl j fun k hk => (Classical.em (inOf j = some k)).imp (hv k) (code_apart d1 d2 k1 k3 bud j k hj (by simpa [XA.code] using hk))).trans (start_get d1 d2 k1 k3 bud port j hj)
      have hvl := vals_cut hjf
      have hnew : ∀ b, b < E.length → hget h1 b = hget E b := fun b hb => (hold1 _ (by omega)).trans (hold b hb)
      simp only [hlj] at f13 hrow1 ⊢
      rw [hin] at f13
      cases hio : inOf j with
      | none =>
        rw [hio] at f13
        have hfv := hfl (fun k hk => by rw [hio] at hk; cases hk)
        rw [List.getElem?_eq_getElem hjf, Option.some.injEq] at hfv
        rw [hfv, ofv_cells (by split <;> omega)] at hvl
        refine condK_dec (fun he => ?_) (fun he => ?_)
        · have hj0 : j = 0 := by omega
          subst hj0
          simp (disch := first | omega | (simp only [List.length_append, List.length_cons, List.length_nil, length_hset, length_hkill]; omega)) only [↓fsPre, fsPost, fsCond, fsGen, npick, nbin, nun, nconv, nnilCheck, noff, nidxArr, nidxSl, nfield, npart, nindex, nextract, nlenSl, nlenStr, ncap, mmx, minmax2, nslice, nsliceArr, nbounds, obound, bound, adv, nbits, eqVal, eqCell, eqCells, nfill, lenOfSl, cls, fresults, fresl, fres1, gt_iff_lt, ge_iff_le, reduceCtorEq, Nat.reduceAdd, Nat.reduceMul, Nat.reduceSub, Nat.reduceLT, Nat.reduceLeDiff, Nat.reduceEqDiff, Nat.reduceBEq, Nat.reduceBNe, Int.reduceLT, Int.reduceLE, Int.reduceEq, Int.reduceNe, Int.reduceAdd, Int.reduceSub, Int.reduceNeg, Int.reduceToNat, Int.reduceMul, ↓reduceIte, Int.reduceGT, Int.reduceGE, f2, f7, f9, f51, f52, f53, f11, f12, f13, f59, f60, f61, hrow1, hc2, hcF, hcV, hvl, nbool_undef, guardK_none]
          rw [port_i]
          simp (disch := first | omega | (simp only [List.length_append, List.length_cons, List.length_nil, length_hset, length_hkill]; omega)) only [↓fsPre, fsPost, fsCond, fsGen, npick, nbin, nun, nconv, nnilCheck, noff, nidxArr, nidxSl, nfield, npart, nindex, nextract, nlenSl, nlenStr, ncap, mmx, minmax2, nslice, nsliceArr, nbounds, obound, bound, adv, nbits, eqVal, eqCell, eqCells, nfill, lenOfSl, cls, fresults, fresl, fres1, gt_iff_lt, ge_iff_le, reduceCtorEq, Nat.reduceAdd, Nat.reduceMul, Nat.reduceSub, Nat.reduceLT, Nat.reduceLeDiff, Nat.reduceEqDiff, Nat.reduceBEq, Nat.reduceBNe, Int.reduceLT, Int.reduceLE, Int.reduceEq, Int.reduceNe, Int.reduceAdd, Int.reduceSub, Int.reduceNeg, Int.reduceToNat, Int.reduceMul, ↓reduceIte, Int.reduceGT, Int.reduceGE, f2, f7, f9, f51, f52, f53]
          exact ⟨by omega, fun b hb => by simp (disch := first | omega | (simp only [List.length_append, List.length_cons, List.length_nil, length_hset, length_hkill]; omega)) only [↓fsPre, fsPost, fsCond, fsGen, npick, nbin, nun, nconv, nnilCheck, noff, nidxArr, nidxSl, nfield, npart, nindex, nextract, nlenSl, nlenStr, ncap, mmx, minmax2, nslice, nsliceArr, nbounds, obound, bound, adv, nbits, eqVal, eqCell, eqCells, nfill, lenOfSl, cls, fresults, fresl, fres1, gt_iff_lt, ge_iff_le, reduceCtorEq, Nat.reduceAdd, Nat.reduceMul, Nat.reduceSub, Nat.reduceLT, Nat.reduceLeDiff, Nat.reduceEqDiff, Nat.reduceBEq, Nat.reduceBNe, Int.reduceLT, Int.reduceLE, Int.reduceEq, Int.reduceNe, Int.reduceAdd, Int.reduceSub, Int.reduceNeg, Int.reduceToNat, Int.reduceMul, ↓reduceIte, Int.reduceGT, Int.reduceGE]; exact hnew b hb⟩
        · have hj0 : ¬ j = 0 := by omega
          rw [if_neg hj0] at hvl
          simp (disch := first | omega | (simp only [List.length_append, List.length_cons, List.length_nil, length_hset, length_hkill]; omega)) only [↓fsPre, fsPost, fsCond, fsGen, npick, nbin, nun, nconv, nnilCheck, noff, nidxArr, nidxSl, nfield, npart, nindex, nextract, nlenSl, nlenStr, ncap, mmx, minmax2, nslice, nsliceArr, nbounds, obound, bound, adv, nbits, eqVal, eqCell, eqCells, nfill, lenOfSl, cls, fresults, fresl, fres1, gt_iff_lt, ge_iff_le, reduceCtorEq, Nat.reduceAdd, Nat.reduceMul, Nat.reduceSub, Nat.reduceLT, Nat.reduceLeDiff, Nat.reduceEqDiff, Nat.reduceBEq, Nat.reduceBNe, Int.reduceLT, Int.reduceLE, Int.reduceEq, Int.reduceNe, Int.reduceAdd, Int.reduceSub, Int.reduceNeg, Int.reduceToNat, Int.reduceMul, ↓reduceIte, Int.reduceGT, Int.reduceGE, f2, f7, f9, f51, f52, f53, f11, f12, f13, f59, f60, f61, hrow1, hc2, hcF, hcV, hvl, nbool_undef, guardK_none]
          exact ⟨by omega, fun b hb => by simp (disch := first | omega | (simp only [List.length_append, List.length_cons, List.length_nil, length_hset, length_hkill]; omega)) only [↓fsPre, fsPost, fsCond, fsGen, npick, nbin, nun, nconv, nnilCheck, noff, nidxArr, nidxSl, nfield, npart, nindex, nextract, nlenSl, nlenStr, ncap, mmx, minmax2, nslice, nsliceArr, nbounds, obound, bound, adv, nbits, eqVal, eqCell, eqCells, nfill, lenOfSl, cls, fresults, fresl, fres1, gt_iff_lt, ge_iff_le, reduceCtorEq, Nat.reduceAdd, Nat.reduceMul, Nat.reduceSub, Nat.reduceLT, Nat.reduceLeDiff, Nat.reduceEqDiff, Nat.reduceBEq, Nat.reduceBNe, Int.reduceLT, Int.reduceLE, Int.reduceEq, Int.reduceNe, Int.reduceAdd, Int.reduceSub, Int.reduceNeg, Int.reduceToNat, Int.reduceMul, ↓reduceIte, Int.reduceGT, Int.reduceGE]; exact hnew b hb⟩
      | some k =>
        rw [hio] at f13
        have hk3 : k < 3 ∧ ¬ j = 0 := by
          unfold inOf at hio
          split at hio
          · cases hio
          · split at hio
            · cases hio; omega
            · split at hio <;> (cases hio; omega)
        have hj0 := hk3.2
        have hk0 : ¬ (k : Int) < 0 := by omega
        have hj1 : ¬ (j : Int) + 1 = 1 := by omega
        have hkl : k < vl7.length := by rw [lV]; exact hk3.1
        have hbk := bools_get hkl
        cases hvk : vl7[k] with
        | true =>
          rw [hvk] at hbk
          simp (disch := first | omega | (simp only [List.length_append, List.length_cons, List.length_nil, length_hset, length_hkill]; omega)) only [↓fsPre, fsPost, fsCond, fsGen, npick, nbin, nun, nconv, nnilCheck, noff, nidxArr, nidxSl, nfield, npart, nindex, nextract, nlenSl, nlenStr, ncap, mmx, minmax2, nslice, nsliceArr, nbounds, obound, bound, adv, nbits, eqVal, eqCell, eqCells, nfill, lenOfSl, cls, fresults, fresl, fres1, gt_iff_lt, ge_iff_le, reduceCtorEq, Nat.reduceAdd, Nat.reduceMul, Nat.reduceSub, Nat.reduceLT, Nat.reduceLeDiff, Nat.reduceEqDiff, Nat.reduceBEq, Nat.reduceBNe, Int.reduceLT, Int.reduceLE, Int.reduceEq, Int.reduceNe, Int.reduceAdd, Int.reduceSub, Int.reduceNeg, Int.reduceToNat, Int.reduceMul, ↓reduceIte, Int.reduceGT, Int.reduceGE, f2, f7, f9, f51, f52, f53, f11, f12, f13, f59, f60, f61, hrow1, hc2, hcF, hcV, hvl, hbk, decide_eq_false hj1, decide_eq_false hk0, nbool_undef, guardK_none]
          exact ⟨by omega, fun b hb => by simp (disch := first | omega | (simp only [List.length_append, List.length_cons, List.length_nil, length_hset, length_hkill]; omega)) only [↓fsPre, fsPost, fsCond, fsGen, npick, nbin, nun, nconv, nnilCheck, noff, nidxArr, nidxSl, nfield, npart, nindex, nextract, nlenSl, nlenStr, ncap, mmx, minmax2, nslice, nsliceArr, nbounds, obound, bound, adv, nbits, eqVal, eqCell, eqCells, nfill, lenOfSl, cls, fresults, fresl, fres1, gt_iff_lt, ge_iff_le, reduceCtorEq, Nat.reduceAdd, Nat.reduceMul, Nat.reduceSub, Nat.reduceLT, Nat.reduceLeDiff, Nat.reduceEqDiff, Nat.reduceBEq, Nat.reduceBNe, Int.reduceLT, Int.reduceLE, Int.reduceEq, Int.reduceNe, Int.reduceAdd, Int.reduceSub, Int.reduceNeg, Int.reduceToNat, Int.reduceMul, ↓reduceIte, Int.reduceGT, Int.reduceGE]; exact hnew b hb⟩
        | false =>
          rw [hvk] at hbk
          have hfv := hfl (fun k' hk' => by rw [hio] at hk'; cases hk'; rw [List.getElem?_eq_getElem hkl, hvk])
          rw [List.getElem?_eq_getElem hjf, Option.some.injEq] at hfv
          rw [hfv, if_neg hj0, ofv_cells (by omega)] at hvl
          simp (disch := first | omega | (simp only [List.length_append, List.length_cons, List.length_nil, length_hset, length_hkill]; omega)) only [↓fsPre, fsPost, fsCond, fsGen, npick, nbin, nun, nconv, nnilCheck, noff, nidxArr, nidxSl, nfield, npart, nindex, nextract, nlenSl, nlenStr, ncap, mmx, minmax2, nslice, nsliceArr, nbounds, obound, bound, adv, nbits, eqVal, eqCell, eqCells, nfill, lenOfSl, cls, fresults, fresl, fres1, gt_iff_lt, ge_iff_le, reduceCtorEq, Nat.reduceAdd, Nat.reduceMul, Nat.reduceSub, Nat.reduceLT, Nat.reduceLeDiff, Nat.reduceEqDiff, Nat.reduceBEq, Nat.reduceBNe, Int.reduceLT, Int.reduceLE, Int.reduceEq, Int.reduceNe, Int.reduceAdd, Int.reduceSub, Int.reduceNeg, Int.reduceToNat, Int.reduceMul, ↓reduceIte, Int.reduceGT, Int.reduceGE, f2, f7, f9, f51, f52, f53, f11, f12, f13, f59, f60, f61, hrow1, hc2, hcF, hcV, hvl, hbk, decide_eq_false hj1, decide_eq_false hk0, nbool_undef, guardK_none]
          exact ⟨by omega, fun b hb => by simp (disch := first | omega | (simp only [List.length_append, List.length_cons, List.length_nil, length_hset, length_hkill]; omega)) only [↓fsPre, fsPost, fsCond, fsGen, npick, nbin, nun, nconv, nnilCheck, noff, nidxArr, nidxSl, nfield, npart, nindex, nextract, nlenSl, nlenStr, ncap, mmx, minmax2, nslice, nsliceArr, nbounds, obound, bound, adv, nbits, eqVal, eqCell, eqCells, nfill, lenOfSl, cls, fresults, fresl, fres1, gt_iff_lt, ge_iff_le, reduceCtorEq, Nat.reduceAdd, Nat.reduceMul, Nat.reduceSub, Nat.reduceLT, Nat.reduceLeDiff, Nat.reduceEqDiff, Nat.reduceBEq, Nat.reduceBNe, Int.reduceLT, Int.reduceLE, Int.reduceEq, Int.reduceNe, Int.reduceAdd, Int.reduceSub, Int.reduceNeg, Int.reduceToNat, Int.reduceMul, ↓reduceIte, Int.reduceGT, Int.reduceGE]; exact hnew b hb⟩
  · rintro F h ⟨f2, f7, f9, f51, f52, f53, hlen, hold⟩
    have h9 : hget h (g.length + 1) = _ := (hold _ (by omega)).trans e9
    simp (disch := first | omega | (simp only [List.length_append, List.length_cons, List.length_nil, length_hset, length_hkill]; omega)) only [↓fsPre, fsPost, fsCond, fsGen, npick, nbin, nun, nconv, nnilCheck, noff, nidxArr, nidxSl, nfield, npart, nindex, nextract, nlenSl, nlenStr, ncap, mmx, minmax2, nslice, nsliceArr, nbounds, obound, bound, adv, nbits, eqVal, eqCell, eqCells, nfill, lenOfSl, cls, fresults, fresl, fres1, gt_iff_lt, ge_iff_le, reduceCtorEq, Nat.reduceAdd, Nat.reduceMul, Nat.reduceSub, Nat.reduceLT, Nat.reduceLeDiff, Nat.reduceEqDiff, Nat.reduceBEq, Nat.reduceBNe, Int.reduceLT, Int.reduceLE, Int.reduceEq, Int.reduceNe, Int.reduceAdd, Int.reduceSub, Int.reduceNeg, Int.reduceToNat, Int.reduceMul, ↓reduceIte, Int.reduceGT, Int.reduceGE, f2, f7, f9, f51, f52, f53, h9, o2, o3, o4, o5, o6, o7, o8]
    have hidx : ∀ b, b < g.length → hget h b = hget g b := fun b hb => (hold b (by omega)).trans (eg b hb)
    refine callT_one (rFieldOf_ok h _ _ _ _ _ _ _ _ _ _ _ _ _ _ _ _ (x.f.ids (by simp [XA.code])|>.mono hidx) (x.g.ids (by simp [XA.code])|>.mono hidx) (x.s.ids (by simp [XA.code])|>.mono hidx) (i3.mono hidx) (i4.mono hidx) (i5.mono hidx) ⟨o5, o7, o8, o9⟩ 1) rfl ?_
    have hx1 : ixI (XA.code d1 d2 0 k1 k3 bud).l 1 = 0 := by show ixI [1, 2, 3, 4, 5, 6, 7, 8, 9] 1 = 0; decide
    simp (disch := first | omega | (simp only [List.length_append, List.length_cons, List.length_nil, length_hset, length_hkill]; omega)) only [↓fsPre, fsPost, fsCond, fsGen, npick, nbin, nun, nconv, nnilCheck, noff, nidxArr, nidxSl, nfield, npart, nindex, nextract, nlenSl, nlenStr, ncap, mmx, minmax2, nslice, nsliceArr, nbounds, obound, bound, adv, nbits, eqVal, eqCell, eqCells, nfill, lenOfSl, cls, fresults, fresl, fres1, gt_iff_lt, ge_iff_le, reduceCtorEq, Nat.reduceAdd, Nat.reduceMul, Nat.reduceSub, Nat.reduceLT, Nat.reduceLeDiff, Nat.reduceEqDiff, Nat.reduceBEq, Nat.reduceBNe, Int.reduceLT, Int.reduceLE, Int.reduceEq, Int.reduceNe, Int.reduceAdd, Int.reduceSub, Int.reduceNeg, Int.reduceToNat, Int.reduceMul, ↓reduceIte, Int.reduceGT, Int.reduceGE, hx1]
    refine callT_one (begun28_ok _) rfl ?_
    simp (disch := first | omega | (simp only [List.length_append, List.length_cons, List.length_nil, length_hset, length_hkill]; omega)) only [↓fsPre, fsPost, fsCond, fsGen, npick, nbin, nun, nconv, nnilCheck, noff, nidxArr, nidxSl, nfield, npart, nindex, nextract, nlenSl, nlenStr, ncap, mmx, minmax2, nslice, nsliceArr, nbounds, obound, bound, adv, nbits, eqVal, eqCell, eqCells, nfill, lenOfSl, cls, fresults, fresl, fres1, gt_iff_lt, ge_iff_le, reduceCtorEq, Nat.reduceAdd, Nat.reduceMul, Nat.reduceSub, Nat.reduceLT, Nat.reduceLeDiff, Nat.reduceEqDiff, Nat.reduceBEq, Nat.reduceBNe, Int.reduceLT, Int.reduceLE, Int.reduceEq, Int.reduceNe, Int.reduceAdd, Int.reduceSub, Int.reduceNeg, Int.reduceToNat, Int.reduceMul, ↓reduceIte, Int.reduceGT, Int.reduceGE]

def kindsEL : List PK := [.sl [.int .u8], .sl [.int .u8], .flat [.int .i64] false]
theorem walkEL (nvs : List NV) (h : Heap) (ok : argsOK kindsEL 0 nvs h) : NFun Try.prog 6 nvs h (fun q => q.1 = .bool true) := by
  obtain ⟨v, vs, x, h, rfl, rfl, h1, ok⟩ := argsOK_cons ok
  obtain ⟨w, vs, y, h, rfl, rfl, h2, ok⟩ := argsOK_cons ok
  obtain ⟨u, vs, z, h, rfl, rfl, h3, ok⟩ := argsOK_cons ok
  obtain ⟨rfl, rfl⟩ := argsOK_nil ok
  obtain ⟨n, rfl, hn, rfl⟩ := argOK_int h3
  obtain ⟨xs, hx⟩ := argOK_bytes (H := [x, y, none]) h1 rfl
  obtain ⟨ys, hy⟩ := argOK_bytes (H := [x, y, none]) h2 rfl
  exact local_ok _ _ _ xs ys n hx hy
end Go.Proofs
