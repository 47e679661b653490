/- Extract: ExtractBits. -/
import Derived.Test.YtghjfohjkgllbaaEBEx16
import Derived.Test.YtghjfohjkgllbaaEBVal2
import Derived.Test.YtghjfohjkgllbaaEBVal6
import Derived.Test.YtghjfohjkgllbaaEBExBg
set_option linter.unusedSimpArgs false
set_option linter.unusedVariables false
set_option maxRecDepth 100000
namespace Go.Proofs
open Go.Ns

theorem cut_arr {cs : List NV} {W : Nat} {f : Nat → NV} (h : ∀ i, i < W → cs[i]? = some (f i)) : cut cs 0 W = some (arrC W f) := by
  have hl : W ≤ cs.length := by
    rcases Nat.lt_or_ge cs.length W with h1 | h1
    · have := h cs.length h1
      rw [List.getElem?_eq_none (Nat.le_refl _)] at this
      cases this
    · exact h1
  unfold cut
  rw [if_pos (by omega)]
  congr 1
  apply List.ext_getElem?
  intro i
  rw [List.drop_zero]
  by_cases hi : i < W
  · rw [List.getElem?_take_of_lt hi, h i hi, arrC_get hi]
  · rw [List.getElem?_eq_none (by rw [List.length_take]; omega), List.getElem?_eq_none (by rw [arrC_length]; omega)]
theorem takeV_get (d : Nat → BitVec 8) (nx : Nat) : ∀ (n i : Nat), i < 128 → (takeV d nx n).getLsbD i = (decide (i < n) && bitAt d (nx + n - 1 - i))
  | 0, i, _ => by simp [takeV]
  | n + 1, 0, _ => by
    unfold takeV
    rw [BitVec.getLsbD_or, BitVec.getLsbD_shiftLeft]
    cases h : bitAt d (nx + n) <;> simp [h]
  | n + 1, i + 1, hi => by
    unfold takeV
    rw [BitVec.getLsbD_or, BitVec.getLsbD_shiftLeft]
    have h1 := takeV_get d nx n i (by omega)
    have h2 : (if bitAt d (nx + n) then 1#128 else 0#128 : BitVec 128).getLsbD (i + 1) = false := by
      cases bitAt d (nx + n) <;> simp
    rw [h2, show i + 1 - 1 = i by omega, h1]
    by_cases hn : i < n
    · rw [show nx + (n + 1) - 1 - (i + 1) = nx + n - 1 - i by omega]
      simp [hn, hi]
    · simp [hn]
theorem takeV_fits (d : Nat → BitVec 8) (nx n : Nat) : bl (takeV d nx n).toNat ≤ n := by
  rw [bl_le]
  refine Nat.lt_pow_two_of_testBit _ fun i hi => ?_
  rw [BitVec.testBit_toNat]
  by_cases h : i < 128
  · rw [takeV_get d nx n i h]
    simp; omega
  · exact BitVec.getLsbD_of_ge _ _ (by omega)
theorem wide_byte (d : Nat → BitVec 8) {a i : Nat} (ha : 1 ≤ a ∧ a ≤ 127) (hi : i < 16) : (loOf ((takeV d 0 a <<< (128 - a) ||| takeV d a (128 - a)) >>> (8 * (15 - i)))).setWidth 8 = d i := by
  apply BitVec.eq_of_getLsbD_eq
  intro j hj
  rw [BitVec.getLsbD_setWidth, loOf_get, BitVec.getLsbD_ushiftRight, BitVec.getLsbD_or, BitVec.getLsbD_shiftLeft, takeV_get d a _ _ (by omega), takeV_get d 0 _ _ (by omega)]
  have hb : bitAt d (127 - (8 * (15 - i) + j)) = (d i).getLsbD j := by
    unfold bitAt
    rw [show (127 - (8 * (15 - i) + j)) / 8 = i by omega, show 7 - (127 - (8 * (15 - i) + j)) % 8 = j by omega]
  by_cases hk : 8 * (15 - i) + j < 128 - a
  · rw [show a + (128 - a) - 1 - (8 * (15 - i) + j) = 127 - (8 * (15 - i) + j) by omega, hb]
    simp [hk, hj, show j < 64 by omega]
  · rw [show 0 + a - 1 - (8 * (15 - i) + j - (128 - a)) = 127 - (8 * (15 - i) + j) by omega, hb]
    rw [show decide (8 * (15 - i) + j - (128 - a) < a) = true by simp; omega, show decide (8 * (15 - i) + j < 128) = true by simp; omega]
    simp [hk, hj, show j < 64 by omega]

theorem arrC_append {n k : Nat} {f e : Nat → BitVec 8} : (arrC n fun i => n8 (f i)) ++ (arrC k fun i => n8 (e i)) = arrC (n + k) fun i => n8 (if i < n then f i else e (i - n)) := by
  apply List.ext_getElem?
  intro i
  by_cases h1 : i < n
  · rw [List.getElem?_append_left (by rw [arrC_length]; exact h1), arrC_get h1, arrC_get (by omega), if_pos h1]
  · by_cases h2 : i < n + k
    · rw [List.getElem?_append_right (by rw [arrC_length]; omega), arrC_length, arrC_get (by omega), arrC_get h2, if_neg h1]
    · rw [List.getElem?_eq_none (by rw [List.length_append, arrC_length, arrC_length]; omega), List.getElem?_eq_none (by rw [arrC_length]; omega)]

theorem wide_parse {a : Nat} {bud : Int} (D : Nat → BitVec 8) (ha : a ≤ 127) (hb : 12 ≤ bud) : ∃ fl vl, (XA.wide a bud).parse 17 D ⟨(XA.wide a bud).start 0, List.replicate (XA.wide a bud).hl.length false, 0, 0⟩ = (⟨fl, vl, 16, 1⟩, 0) ∧ fl.length = 11 ∧ fl[9]? = some (takeV D 0 a) ∧ fl[10]? = some (takeV D a (128 - a)) := by
  obtain ⟨k, hk⟩ : ∃ k, bud.toNat - 0 = k + 1 := ⟨bud.toNat - 1, by omega⟩
  have hs : (XA.wide a bud).sum [20, 21] / 8 = 16 := by
    show (a + (128 - a + 0)) / 8 = 16
    omega
  have e1 : (XA.wide a bud).parse 17 D ⟨(XA.wide a bud).start 0, List.replicate (XA.wide a bud).hl.length false, 0, 0⟩ = (XA.wide a bud).go 17 D (k + 1) ⟨(XA.wide a bud).start 0, List.replicate (XA.wide a bud).hl.length false, 0, 0⟩ 0 := by
    unfold XA.parse
    rw [if_neg (by simp [XA.wide])]
    show (XA.wide a bud).go 17 D (bud.toNat - 0) _ 0 = _
    rw [hk]
  rw [e1]
  unfold XA.go
  have hfit : (XA.wide a bud).fits 17 (Cx.tick ⟨(XA.wide a bud).start 0, List.replicate (XA.wide a bud).hl.length false, 0, 0⟩) ((XA.wide a bud).sd 0).hd := Or.inr (by show (XA.wide a bud).sum [20, 21] / 8 ≤ 17 - 0; rw [hs]; omega)
  rw [if_pos hfit]
  have e2 : (XA.wide a bud).ext D (Cx.tick ⟨(XA.wide a bud).start 0, List.replicate (XA.wide a bud).hl.length false, 0, 0⟩) ((XA.wide a bud).sd 0).hd = ⟨((XA.wide a bud).run D ((XA.wide a bud).start 0) [20, 21]).1, (List.replicate 4 false).set 3 true, 16, 1⟩ := by
    unfold XA.ext
    rw [if_neg (by simp [XA.wide])]
    show (⟨((XA.wide a bud).run (fun i => D (0 + i)) ((XA.wide a bud).start 0) [20, 21]).1, (List.replicate 4 false).set 3 true, 0 + (XA.wide a bud).sum [20, 21] / 8, 1⟩ : Cx) = _
    rw [hs]
    simp only [Nat.zero_add]
  rw [e2]
  refine ⟨_, _, by rw [if_pos (show (XA.wide a bud).next _ ((XA.wide a bud).sd 0) = 0 from rfl)], ?_, ?_, ?_⟩
  · rw [XA.run_full]; rfl
  · rfl
  · show _ = some (takeV D a (128 - a))
    have : takeV D a (128 - a) = takeV D (0 + a) (128 - a) := by rw [Nat.zero_add]
    rw [this]; rfl
theorem n8_ne_self {x : BitVec 8} : nbin .neq (n8 x) (n8 x) = some (.bool false) := by simp [n8, nbin]
theorem app_one {h : Heap} {b N : Nat} {x : NV} {d : Nat → BitVec 8} {K : NV → Heap → Prop} {t : Tg K} (hb : hget h b = some (.cells [] false)) (hx : sliceCells h 1 x = some (arrC N fun i => n8 (d i))) (hl : lenOfSl x = some N) (hN : N ≤ 1000)
    (k : ∀ h' b' c, (N = 0 ∧ c = .fix 0 ∨ c = .opn 1) → hget h' b' = some (.cells (arrC N fun i => n8 (d i)) false) → h.length ≤ h'.length → (∀ b, b < h.length → hget h' b = hget h b) → (b' = b ∨ h.length ≤ b') → K (.slice (some (b', 0)) N c) h') : optB (nappendS h 1 1 (.slice (some (b, 0)) 0 (.fix 0)) x) K t := by
  by_cases h0 : N = 0
  · subst h0
    exact app_fix0 hx hl (Nat.le_refl _) (k h b _ (.inl ⟨rfl, rfl⟩) hb (Nat.le_refl _) (fun _ _ => rfl) (.inl rfl))
  · refine app_fix (n := N) hx hl (by omega) (by omega) (old := []) (by simp [sliceCells]) ?_
    rw [Nat.zero_add]
    exact k _ _ _ (.inr rfl) hget_append_new (by simp) (fun b hb => hget_appl hb) (.inr (Nat.le_refl _))
theorem app_zeros {h : Heap} {b N : Nat} {c : Cap} {d : Nat → BitVec 8} {K : NV → Heap → Prop} {t : Tg K} (hc : N = 0 ∧ c = .fix 0 ∨ c = .opn 1) (hb : hget h b = some (.cells (arrC N fun i => n8 (d i)) false)) (hN : N ≤ 1000)
    (k : ∀ h' b', hget h' b' = some (.cells (arrC (N + 17) fun i => n8 (if i < N then d i else 0#8)) false) → h.length ≤ h'.length → (∀ c, c < h.length → c ≠ b → hget h' c = hget h c) → K (.slice (some (b', 0)) (N + 17) (.opn 1)) h') :
    optB (nappend h 1 1 (.slice (some (b, 0)) N c) 17 (List.replicate 17 [NV.int .u8 0]).flatten) K t := by
  have ez : (List.replicate 17 [NV.int .u8 0]).flatten = arrC 17 fun _ => n8 0#8 := arrC_rep
  have e2 : (arrC N fun i => n8 (d i)) ++ (arrC 17 fun _ => n8 0#8) = arrC (N + 17) fun i => n8 (if i < N then d i else 0#8) := arrC_append
  have lb := hget_some_lt hb
  rw [ez]
  rcases hc with ⟨rfl, rfl⟩ | rfl
  · refine ⟨(_, _), ?_, k (h ++ [some (.cells (arrC 17 fun _ => n8 0#8) false)]) h.length ?_ (by simp) (fun c hc _ => hget_appl hc)⟩
    · simp only [nappend]
      rw [if_neg (by omega)]
      simp
    · rw [hget_append_new, ← e2]; rfl
  · refine ⟨(_, _), ?_, k (hkill h b ++ [some (.cells (arrC (N + 17) fun i => n8 (if i < N then d i else 0#8)) false)]) h.length ?_ (by simp) (fun c hc hne => ?_)⟩
    · simp only [nappend, hb]
      rw [if_neg (by simp), if_neg (by simp [arrC_length]), if_neg (by rw [arrC_length]; omega), if_pos (by rw [arrC_length]; omega)]
      rw [← e2, List.drop_zero, List.take_of_length_le (by rw [arrC_length]; omega)]
    · have := hget_append_new (h := hkill h b) (o := some (NBlk.cells (arrC (N + 17) fun i => n8 (if i < N then d i else 0#8)) false))
      rw [length_hkill] at this
      exact this
    · rw [hget_appl (by rw [length_hkill]; exact hc), hget_hkill_ne (Ne.symm hne)]
set_option maxHeartbeats 4000000 in
theorem bits_ok (H : Heap) (x : Int) (v : NV) (xs : List Int) (h1 : BytesArg H v xs) : NFun Try.prog 4 [.int .i64 x, v] H fun q => q.1 = .bool true := by
  refine fun_of_fwp E0 mixed t4_ok.2 (by kernel_rfl) ?_
  rw [fwp_T]
  simp only [t4]
  simp (disch := first | omega | (simp only [List.length_append, List.length_cons, List.length_nil, length_hset, length_hkill]; omega)) only [↓fsPre, fsPost, fsCond, fsGen, npick, nbin, nun, nconv, nnilCheck, noff, nidxArr, nidxSl, nfield, npart, nindex, nextract, nlenSl, nlenStr, ncap, mmx, minmax2, nslice, nsliceArr, nbounds, obound, bound, adv, nbits, eqVal, eqCell, eqCells, nfill, lenOfSl, cls, fresults, fresl, fres1, gt_iff_lt, ge_iff_le, reduceCtorEq, Nat.reduceAdd, Nat.reduceMul, Nat.reduceSub, Nat.reduceLT, Nat.reduceLeDiff, Nat.reduceEqDiff, Nat.reduceBEq, Nat.reduceBNe, Int.reduceLT, Int.reduceLE, Int.reduceEq, Int.reduceNe, Int.reduceAdd, Int.reduceSub, Int.reduceNeg, Int.reduceToNat, Int.reduceMul, ↓reduceIte, Int.reduceGT, Int.reduceGE]
  refine callT_D (wide_ok H x) rfl ?_
  rintro w g ⟨a, bud, z0, z1, z2, z3, z4, z5, z6, z7, z8, e, ha1, ha2, hbud, xt, hgl, oldg⟩
  simp only at e xt hgl oldg
  subst e
  obtain ⟨o0, o1, o2, o3, o4, o5, o6, o7, o8, o9⟩ := xt.ones
  have hA : ∃ A m, v = .slice A xs.length (.fix m) ∧ xs.length ≤ m ∧ m ≤ 9223372036854775807 ∧ (A = none ∨ ∃ b, A = some (b, 0)) ∧ ∃ d : Nat → BitVec 8, ∀ n, n ≤ xs.length → ∀ L c, sliceCells (g ++ L) 1 (.slice A n c) = some (arrC n fun i => n8 (d i)) := by
    rcases h1 with ⟨rfl, rfl⟩ | ⟨b, m, cs, ro, rfl, e1, e2, e3, e4, e5⟩
    · exact ⟨none, 0, rfl, by simp, by omega, .inl rfl, fun _ => 0#8, fun n hn L c => by
        have : n = 0 := by simpa using hn
        subst this
        rfl⟩
    · refine ⟨some (b, 0), m, rfl, e2, e3, .inr ⟨b, rfl⟩, fun i => BitVec.ofInt 8 (xs.getD i 0), fun n hn L c => ?_⟩
      have lb := hget_some_lt e1
      refine sliceCells_at (ro := ro) (by rw [hget_appl (by omega), oldg b lb]; exact e1) ?_
      rw [Nat.mul_one]
      refine cut_arr fun i hi => ?_
      rw [e4 i (by omega), n8_of _ (e5 _ (List.getElem_mem _)), show xs[i] = xs.getD i 0 by rw [List.getD_eq_getElem?_getD, List.getElem?_eq_getElem (by omega)]; rfl]
  obtain ⟨A, m, rfl, hm1, hm2, hA, d, hd⟩ := hA
  have eN : (if (16 : Int) < xs.length then (16 : Int) else xs.length) = (min 16 xs.length : Nat) := by split <;> omega
  have hN1 : min 16 xs.length ≤ 16 := by omega
  have hN2 : min 16 xs.length ≤ xs.length := by omega
  generalize min 16 xs.length = N at *
  have eA : (if m = 0 then A else Option.map (fun x => (x.fst, x.snd)) A) = A := by cases A <;> simp
  simp (disch := first | omega | (simp only [List.length_append, List.length_cons, List.length_nil, length_hset, length_hkill]; omega)) only [↓fsPre, fsPost, fsCond, fsGen, npick, nbin, nun, nconv, nnilCheck, noff, nidxArr, nidxSl, nfield, npart, nindex, nextract, nlenSl, nlenStr, ncap, mmx, minmax2, nslice, nsliceArr, nbounds, obound, bound, adv, nbits, eqVal, eqCell, eqCells, nfill, lenOfSl, cls, fresults, fresl, fres1, gt_iff_lt, ge_iff_le, reduceCtorEq, Nat.reduceAdd, Nat.reduceMul, Nat.reduceSub, Nat.reduceLT, Nat.reduceLeDiff, Nat.reduceEqDiff, Nat.reduceBEq, Nat.reduceBNe, Int.reduceLT, Int.reduceLE, Int.reduceEq, Int.reduceNe, Int.reduceAdd, Int.reduceSub, Int.reduceNeg, Int.reduceToNat, Int.reduceMul, ↓reduceIte, Int.reduceGT, Int.reduceGE, o0, o1, o2, o3, o4, o5, o6, o7, o8, o9, eN, eA]
  refine app_one (by simp (disch := first | omega | (simp only [List.length_append, List.length_cons, List.length_nil, length_hset, length_hkill]; omega)) only [↓fsPre, fsPost, fsCond, fsGen, npick, nbin, nun, nconv, nnilCheck, noff, nidxArr, nidxSl, nfield, npart, nindex, nextract, nlenSl, nlenStr, ncap, mmx, minmax2, nslice, nsliceArr, nbounds, obound, bound, adv, nbits, eqVal, eqCell, eqCells, nfill, lenOfSl, cls, fresults, fresl, fres1, gt_iff_lt, ge_iff_le, reduceCtorEq, Nat.reduceAdd, Nat.reduceMul, Nat.reduceSub, Nat.reduceLT, Nat.reduceLeDiff, Nat.reduceEqDiff, Nat.reduceBEq, Nat.reduceBNe, Int.reduceLT, Int.reduceLE, Int.reduceEq, Int.reduceNe, Int.reduceAdd, Int.reduceSub, Int.reduceNeg, Int.reduceToNat, Int.reduceMul, ↓reduceIte, Int.reduceGT, Int.reduceGE]) (hd N hN2 _ _) rfl (by omega) ?_
  rintro h2 b2 c2 hc2 hb2 l2 k2 hbn
  simp only [List.length_append, List.length_cons, List.length_nil] at l2 k2 hbn
  simp (disch := first | omega | (simp only [List.length_append, List.length_cons, List.length_nil, length_hset, length_hkill]; omega)) only [↓fsPre, fsPost, fsCond, fsGen, npick, nbin, nun, nconv, nnilCheck, noff, nidxArr, nidxSl, nfield, npart, nindex, nextract, nlenSl, nlenStr, ncap, mmx, minmax2, nslice, nsliceArr, nbounds, obound, bound, adv, nbits, eqVal, eqCell, eqCells, nfill, lenOfSl, cls, fresults, fresl, fres1, gt_iff_lt, ge_iff_le, reduceCtorEq, Nat.reduceAdd, Nat.reduceMul, Nat.reduceSub, Nat.reduceLT, Nat.reduceLeDiff, Nat.reduceEqDiff, Nat.reduceBEq, Nat.reduceBNe, Int.reduceLT, Int.reduceLE, Int.reduceEq, Int.reduceNe, Int.reduceAdd, Int.reduceSub, Int.reduceNeg, Int.reduceToNat, Int.reduceMul, ↓reduceIte, Int.reduceGT, Int.reduceGE, o0, o1, o2, o3, o4, o5, o6, o7, o8, o9, eN, eA]
  refine app_zeros hc2 hb2 (by omega) ?_
  rintro h3 b3 hb3 l3 k3
  have m0 : hget h3 g.length = some (.cells [z0, z1, z2, z3, z4, z5, z6, z7, z8, .int .i64 bud] false) := by
    rw [k3 _ (by omega) (by omega), k2 _ (by omega)]; simp (disch := first | omega | (simp only [List.length_append, List.length_cons, List.length_nil, length_hset, length_hkill]; omega)) only [↓fsPre, fsPost, fsCond, fsGen, npick, nbin, nun, nconv, nnilCheck, noff, nidxArr, nidxSl, nfield, npart, nindex, nextract, nlenSl, nlenStr, ncap, mmx, minmax2, nslice, nsliceArr, nbounds, obound, bound, adv, nbits, eqVal, eqCell, eqCells, nfill, lenOfSl, cls, fresults, fresl, fres1, gt_iff_lt, ge_iff_le, reduceCtorEq, Nat.reduceAdd, Nat.reduceMul, Nat.reduceSub, Nat.reduceLT, Nat.reduceLeDiff, Nat.reduceEqDiff, Nat.reduceBEq, Nat.reduceBNe, Int.reduceLT, Int.reduceLE, Int.reduceEq, Int.reduceNe, Int.reduceAdd, Int.reduceSub, Int.reduceNeg, Int.reduceToNat, Int.reduceMul, ↓reduceIte, Int.reduceGT, Int.reduceGE]
  have mold : ∀ b, b < g.length → hget h3 b = hget g b := fun b hb => by
    rw [k3 _ (by omega) (by omega), k2 _ (by omega), hget_appl hb]
  obtain ⟨D, hD⟩ : ∃ D : Nat → BitVec 8, D = fun i => if i < N then d i else 0#8 := ⟨_, rfl⟩
  have hb3 : hget h3 b3 = some (.cells (arrC (N + 17) fun i => n8 (D i)) false) := by rw [hD]; exact hb3
  clear hD
  clear k2 k3 hd hb2
  have lb3 := hget_some_lt hb3
  obtain ⟨G, hG⟩ : ∃ G, G = h3 ++ [none] := ⟨_, rfl⟩
  have m0' : hget G g.length = some (.cells [z0, z1, z2, z3, z4, z5, z6, z7, z8, .int .i64 bud] false) := by rw [hG, hget_appl (hget_lt m0)]; exact m0
  have mold' : ∀ b, b < g.length → hget G b = hget g b := fun b hb => by rw [hG, hget_appl (by have := hget_lt m0; omega)]; exact mold b hb
  have hb3' : hget G b3 = some (.cells (arrC (N + 17) fun i => n8 (D i)) false) := by rw [hG, hget_appl lb3]; exact hb3
  have b7 : hget G h3.length = none := by rw [hG]; simp (disch := first | omega | (simp only [List.length_append, List.length_cons, List.length_nil, length_hset, length_hkill]; omega)) only [↓fsPre, fsPost, fsCond, fsGen, npick, nbin, nun, nconv, nnilCheck, noff, nidxArr, nidxSl, nfield, npart, nindex, nextract, nlenSl, nlenStr, ncap, mmx, minmax2, nslice, nsliceArr, nbounds, obound, bound, adv, nbits, eqVal, eqCell, eqCells, nfill, lenOfSl, cls, fresults, fresl, fres1, gt_iff_lt, ge_iff_le, reduceCtorEq, Nat.reduceAdd, Nat.reduceMul, Nat.reduceSub, Nat.reduceLT, Nat.reduceLeDiff, Nat.reduceEqDiff, Nat.reduceBEq, Nat.reduceBNe, Int.reduceLT, Int.reduceLE, Int.reduceEq, Int.reduceNe, Int.reduceAdd, Int.reduceSub, Int.reduceNeg, Int.reduceToNat, Int.reduceMul, ↓reduceIte, Int.reduceGT, Int.reduceGE]
  have lG : G.length = h3.length + 1 := by rw [hG]; simp
  have l0 := hget_some_lt m0
  have xm : ∀ h, (∀ b, b < g.length → hget h b = hget g b) → XAt (XA.wide a bud) h z0 z1 z2 z3 z4 z5 z6 z7 z8 (.int .i64 bud) := fun h e => xt.mono e
  have hP := wide_parse (a := a) (bud := bud) D ha2 hbud
  simp (disch := first | omega | (simp only [List.length_append, List.length_cons, List.length_nil, length_hset, length_hkill]; omega)) only [↓fsPre, fsPost, fsCond, fsGen, npick, nbin, nun, nconv, nnilCheck, noff, nidxArr, nidxSl, nfield, npart, nindex, nextract, nlenSl, nlenStr, ncap, mmx, minmax2, nslice, nsliceArr, nbounds, obound, bound, adv, nbits, eqVal, eqCell, eqCells, nfill, lenOfSl, cls, fresults, fresl, fres1, gt_iff_lt, ge_iff_le, reduceCtorEq, Nat.reduceAdd, Nat.reduceMul, Nat.reduceSub, Nat.reduceLT, Nat.reduceLeDiff, Nat.reduceEqDiff, Nat.reduceBEq, Nat.reduceBNe, Int.reduceLT, Int.reduceLE, Int.reduceEq, Int.reduceNe, Int.reduceAdd, Int.reduceSub, Int.reduceNeg, Int.reduceToNat, Int.reduceMul, ↓reduceIte, Int.reduceGT, Int.reduceGE, m0, o0, o1, o2, o3, o4, o5, o6, o7, o8, o9]
  rw [← hG]
  clear hG
  refine callDT_D (start_ok (xm G mold') 0 17 D _ (.inr ⟨b3, 0, .opn 1, _, false, rfl, hb3', by rw [arrC_cut (by omega)]; simp only [Nat.zero_add]⟩) (by omega) (by simp [XA.wide])) rfl ?_
  rintro v6 g6 ⟨⟨L6, e6⟩, hc6⟩
  simp only at e6 hc6
  have hg6 : ∀ b, b < G.length → hget g6 b = hget G b := fun b hb => by rw [e6]; exact hget_appl hb
  have l6 : G.length ≤ g6.length := by rw [e6]; simp
  clear e6
  have m06 : hget g6 g.length = _ := (hg6 _ (by omega)).trans m0'
  have b76 : hget g6 h3.length = none := (hg6 _ (by omega)).trans b7
  simp (disch := first | omega | (simp only [List.length_append, List.length_cons, List.length_nil, length_hset, length_hkill]; omega)) only [↓fsPre, fsPost, fsCond, fsGen, npick, nbin, nun, nconv, nnilCheck, noff, nidxArr, nidxSl, nfield, npart, nindex, nextract, nlenSl, nlenStr, ncap, mmx, minmax2, nslice, nsliceArr, nbounds, obound, bound, adv, nbits, eqVal, eqCell, eqCells, nfill, lenOfSl, cls, fresults, fresl, fres1, gt_iff_lt, ge_iff_le, reduceCtorEq, Nat.reduceAdd, Nat.reduceMul, Nat.reduceSub, Nat.reduceLT, Nat.reduceLeDiff, Nat.reduceEqDiff, Nat.reduceBEq, Nat.reduceBNe, Int.reduceLT, Int.reduceLE, Int.reduceEq, Int.reduceNe, Int.reduceAdd, Int.reduceSub, Int.reduceNeg, Int.reduceToNat, Int.reduceMul, ↓reduceIte, Int.reduceGT, Int.reduceGE, m0, m0', m06, o0, o1, o2, o3, o4, o5, o6, o7, o8, o9]
  refine ⟨⟨l6, b76⟩, ?_⟩
  refine callDT_D (parse_ok (xm g6 fun b hb => by rw [hg6 b (by omega)]; exact mold' b hb) _ 17 D _ _ _ hc6 (by omega) ⟨by simp [XA.wide], by simp [XA.wide]⟩) rfl ?_
  rintro v7 g7 ⟨⟨L7, e7⟩, w7, e8, hc7⟩
  simp only at e7 e8 hc7
  subst e8
  obtain ⟨fl7, vl7, hP, lf, f9, f10⟩ := hP
  rw [hP] at hc7 ⊢
  dsimp only at hc7 ⊢
  have hg7 : ∀ b, b < g6.length → hget g7 b = hget g6 b := fun b hb => by rw [e7]; exact hget_appl hb
  have l7 : g6.length ≤ g7.length := by rw [e7]; simp
  clear e7
  obtain ⟨bF, bV, cF, cV, vR, rfl, gF, gV, hne, hF, hV, lF, lV, hR, hsep⟩ := hc7
  have m07 : hget g7 g.length = _ := (hg7 _ (by omega)).trans m06
  have b77 : hget g7 h3.length = none := (hg7 _ (by omega)).trans b76
  have b37 : hget g7 b3 = _ := (hg7 _ (by omega)).trans ((hg6 _ (by omega)).trans hb3')
  obtain ⟨bR, gR, rfl, _, hbR⟩ : ∃ bR, g6.length ≤ bR ∧ vR = .slice (some (bR, 16)) (17 - 16) (.opn 1) ∧ 16 ≤ 17 ∧ hget g7 bR = some (.cells (arrC 17 fun i => n8 (D i)) false) := by
    rcases hR with ⟨h, _⟩ | ⟨b, h1, h2, h3, h4⟩
    · exact absurd h (by omega)
    · exact ⟨b, h1, h2, h3, h4⟩
  have hl11 : (XA.wide a bud).l.length = 11 := rfl
  have hl4 : (XA.wide a bud).hl.length = 4 := rfl
  have l77 : G.length ≤ g7.length := by omega
  simp (disch := first | omega | (simp only [List.length_append, List.length_cons, List.length_nil, length_hset, length_hkill]; omega)) only [↓fsPre, fsPost, fsCond, fsGen, npick, nbin, nun, nconv, nnilCheck, noff, nidxArr, nidxSl, nfield, npart, nindex, nextract, nlenSl, nlenStr, ncap, mmx, minmax2, nslice, nsliceArr, nbounds, obound, bound, adv, nbits, eqVal, eqCell, eqCells, nfill, lenOfSl, cls, fresults, fresl, fres1, gt_iff_lt, ge_iff_le, reduceCtorEq, Nat.reduceAdd, Nat.reduceMul, Nat.reduceSub, Nat.reduceLT, Nat.reduceLeDiff, Nat.reduceEqDiff, Nat.reduceBEq, Nat.reduceBNe, Int.reduceLT, Int.reduceLE, Int.reduceEq, Int.reduceNe, Int.reduceAdd, Int.reduceSub, Int.reduceNeg, Int.reduceToNat, Int.reduceMul, ↓reduceIte, Int.reduceGT, Int.reduceGE, m0, m0', m06, m07, o0, o1, o2, o3, o4, o5, o6, o7, o8, o9, cxCells, hl11, hl4]
  refine ⟨⟨l77, b77⟩, by omega, ?_⟩
  obtain ⟨E, hE⟩ : ∃ E, E = hset g7 h3.length (.cells [.slice (some (bF, 0)) 11 cF, .slice (some (bV, 0)) 4 cV, .slice (some (bR, 16)) 1 (.opn 1), .int .i64 1, .bool false] false) := ⟨_, rfl⟩
  have q6 : hget E h3.length = some (.cells [.slice (some (bF, 0)) 11 cF, .slice (some (bV, 0)) 4 cV, .slice (some (bR, 16)) 1 (.opn 1), .int .i64 1, .bool false] false) := by rw [hE, hget_hset_same (by omega)]
  have qF : hget E bF = some (.cells (vals fl7) false) := by rw [hE, hget_hset_ne (by omega)]; exact hF
  have q3 : hget E b3 = some (.cells (arrC (N + 17) fun i => n8 (D i)) false) := by rw [hE, hget_hset_ne (by omega)]; exact b37
  rw [← hE]
  have lE : g7.length = E.length := by rw [hE, length_hset]
  clear hE
  have lF' := hget_some_lt qF
  have l3' := hget_some_lt q3
  have l6' := hget_some_lt q6
  have c9 := vals_cut (l := fl7) (i := 9) (by omega)
  have c10 := vals_cut (l := fl7) (i := 10) (by omega)
  have e9 : fl7[9] = takeV D 0 a := by rw [List.getElem?_eq_getElem (by omega)] at f9; exact Option.some.inj f9
  have e10 : fl7[10] = takeV D a (128 - a) := by rw [List.getElem?_eq_getElem (by omega)] at f10; exact Option.some.inj f10
  rw [e9] at c9
  rw [e10] at c10
  simp only [Nat.reduceMul] at c9 c10
  have hle := fun H v n => rleft_ok H v n
  have hor := fun H v w => ror_ok H v w
  have hfi := fun H v n => rfits_ok H v n
  have hri := fun H v n => rright_ok H v n
  have et : ((128 : Int) - (a : Int)).toNat = 128 - a := by omega
  simp only [vnv] at hle hor hfi hri
  have ff1 : decide ((bl (takeV D 0 a).toNat : Int) ≤ (a : Int)) = true := decide_eq_true (by have := takeV_fits D 0 a; omega)
  have ff2 : decide ((bl (takeV D a (128 - a)).toNat : Int) ≤ 128 - (a : Int)) = true := decide_eq_true (by have := takeV_fits D a (128 - a); omega)
  have hW : ∀ i, i < 16 → (loOf ((takeV D 0 a <<< (128 - a) ||| takeV D a (128 - a)) >>> (8 * (15 - i)))).setWidth 8 = D i := fun i hi => wide_byte D ⟨ha1, ha2⟩ hi
  simp (disch := first | omega | (simp only [List.length_append, List.length_cons, List.length_nil, length_hset, length_hkill]; omega)) only [↓fsPre, fsPost, fsCond, fsGen, npick, nnilCheck, noff, nidxArr, nidxSl, nfield, npart, nindex, nextract, nlenSl, nlenStr, ncap, mmx, minmax2, nslice, nsliceArr, nbounds, obound, bound, adv, eqVal, eqCells, nfill, lenOfSl, cls, fresults, fresl, fres1, gt_iff_lt, ge_iff_le, nb_one, nb_flat, nb_cells, nb_and, nb_and_c, nb_c_and, nb_or, nb_or_c, nb_c_or, nb_xor, nb_xor_c, nb_c_xor, nb_andNot, nb_compl, nb_add, nb_sub, nb_shl, nb_shr, nb_c_shl, nb_eql, nb_neq, nb_eql_c, nb_neq_c, nb_lss, nb_geq_c, nb_conv8, nb_convi, eqCell_nb, bitsC_length, bitsC_get, bitsC_splice, bitsC_cut, bitsC_one, bitsC_flat, bitsC_splice_all, bit_ofInt, toNat_add_c, nb_zero, fill_bits, v_i64_add, v_i64_sub, v_i64_mul, v_i64_quo, v_i64_rem, v_i64_eql, v_i64_neq, v_i64_lss, v_i64_leq, v_i64_gtr, v_i64_geq, v_i64_and, v_i64_or, v_i64_xor, v_i64_andNot, v_i64_shl, v_i64_shr, v_i64_neg, v_u8_add, v_u8_sub, v_u8_mul, v_u8_quo, v_u8_rem, v_u8_eql, v_u8_neq, v_u8_lss, v_u8_leq, v_u8_gtr, v_u8_geq, v_u8_and, v_u8_or, v_u8_xor, v_u8_andNot, v_u8_shl, v_u8_shr, v_u8_neg, v_eqc_bool, v_eqc_int, v_eqc_str, v_not, nbool_undef, guardK_none, v_str_eql, v_str_neq, v_conv_i64_i64, v_conv_i64_u8, v_conv_u8_i64, v_conv_u8_u8, v_conv_u64_i64, v_conv_u64_u8, reduceCtorEq, Nat.reduceAdd, Nat.reduceMul, Nat.reduceSub, Nat.reduceLT, Nat.reduceLeDiff, Nat.reduceEqDiff, Nat.reduceBEq, Nat.reduceBNe, Int.reduceLT, Int.reduceLE, Int.reduceEq, Int.reduceNe, Int.reduceAdd, Int.reduceSub, Int.reduceNeg, Int.reduceToNat, Int.reduceMul, ↓reduceIte, Int.reduceGT, Int.reduceGE, q6, qF, q3, c9, c10, nbool_undef, guardK_none, lE]
  refine callDT_one (hle _ _ _) rfl ?_
  rw [et]
  simp (disch := first | omega | (simp only [List.length_append, List.length_cons, List.length_nil, length_hset, length_hkill]; omega)) only [↓fsPre, fsPost, fsCond, fsGen, npick, nnilCheck, noff, nidxArr, nidxSl, nfield, npart, nindex, nextract, nlenSl, nlenStr, ncap, mmx, minmax2, nslice, nsliceArr, nbounds, obound, bound, adv, eqVal, eqCells, nfill, lenOfSl, cls, fresults, fresl, fres1, gt_iff_lt, ge_iff_le, nb_one, nb_flat, nb_cells, nb_and, nb_and_c, nb_c_and, nb_or, nb_or_c, nb_c_or, nb_xor, nb_xor_c, nb_c_xor, nb_andNot, nb_compl, nb_add, nb_sub, nb_shl, nb_shr, nb_c_shl, nb_eql, nb_neq, nb_eql_c, nb_neq_c, nb_lss, nb_geq_c, nb_conv8, nb_convi, eqCell_nb, bitsC_length, bitsC_get, bitsC_splice, bitsC_cut, bitsC_one, bitsC_flat, bitsC_splice_all, bit_ofInt, toNat_add_c, nb_zero, fill_bits, v_i64_add, v_i64_sub, v_i64_mul, v_i64_quo, v_i64_rem, v_i64_eql, v_i64_neq, v_i64_lss, v_i64_leq, v_i64_gtr, v_i64_geq, v_i64_and, v_i64_or, v_i64_xor, v_i64_andNot, v_i64_shl, v_i64_shr, v_i64_neg, v_u8_add, v_u8_sub, v_u8_mul, v_u8_quo, v_u8_rem, v_u8_eql, v_u8_neq, v_u8_lss, v_u8_leq, v_u8_gtr, v_u8_geq, v_u8_and, v_u8_or, v_u8_xor, v_u8_andNot, v_u8_shl, v_u8_shr, v_u8_neg, v_eqc_bool, v_eqc_int, v_eqc_str, v_not, nbool_undef, guardK_none, v_str_eql, v_str_neq, v_conv_i64_i64, v_conv_i64_u8, v_conv_u8_i64, v_conv_u8_u8, v_conv_u64_i64, v_conv_u64_u8, reduceCtorEq, Nat.reduceAdd, Nat.reduceMul, Nat.reduceSub, Nat.reduceLT, Nat.reduceLeDiff, Nat.reduceEqDiff, Nat.reduceBEq, Nat.reduceBNe, Int.reduceLT, Int.reduceLE, Int.reduceEq, Int.reduceNe, Int.reduceAdd, Int.reduceSub, Int.reduceNeg, Int.reduceToNat, Int.reduceMul, ↓reduceIte, Int.reduceGT, Int.reduceGE, q6, qF, q3, c9, c10, nbool_undef, guardK_none, lE]
  refine callDT_one (hor _ _ _) rfl ?_
  generalize (takeV D 0 a <<< (128 - a) ||| takeV D a (128 - a)) = W at *
  simp (disch := first | omega | (simp only [List.length_append, List.length_cons, List.length_nil, length_hset, length_hkill]; omega)) only [↓fsPre, fsPost, fsCond, fsGen, npick, nnilCheck, noff, nidxArr, nidxSl, nfield, npart, nindex, nextract, nlenSl, nlenStr, ncap, mmx, minmax2, nslice, nsliceArr, nbounds, obound, bound, adv, eqVal, eqCells, nfill, lenOfSl, cls, fresults, fresl, fres1, gt_iff_lt, ge_iff_le, nb_one, nb_flat, nb_cells, nb_and, nb_and_c, nb_c_and, nb_or, nb_or_c, nb_c_or, nb_xor, nb_xor_c, nb_c_xor, nb_andNot, nb_compl, nb_add, nb_sub, nb_shl, nb_shr, nb_c_shl, nb_eql, nb_neq, nb_eql_c, nb_neq_c, nb_lss, nb_geq_c, nb_conv8, nb_convi, eqCell_nb, bitsC_length, bitsC_get, bitsC_splice, bitsC_cut, bitsC_one, bitsC_flat, bitsC_splice_all, bit_ofInt, toNat_add_c, nb_zero, fill_bits, v_i64_add, v_i64_sub, v_i64_mul, v_i64_quo, v_i64_rem, v_i64_eql, v_i64_neq, v_i64_lss, v_i64_leq, v_i64_gtr, v_i64_geq, v_i64_and, v_i64_or, v_i64_xor, v_i64_andNot, v_i64_shl, v_i64_shr, v_i64_neg, v_u8_add, v_u8_sub, v_u8_mul, v_u8_quo, v_u8_rem, v_u8_eql, v_u8_neq, v_u8_lss, v_u8_leq, v_u8_gtr, v_u8_geq, v_u8_and, v_u8_or, v_u8_xor, v_u8_andNot, v_u8_shl, v_u8_shr, v_u8_neg, v_eqc_bool, v_eqc_int, v_eqc_str, v_not, nbool_undef, guardK_none, v_str_eql, v_str_neq, v_conv_i64_i64, v_conv_i64_u8, v_conv_u8_i64, v_conv_u8_u8, v_conv_u64_i64, v_conv_u64_u8, reduceCtorEq, Nat.reduceAdd, Nat.reduceMul, Nat.reduceSub, Nat.reduceLT, Nat.reduceLeDiff, Nat.reduceEqDiff, Nat.reduceBEq, Nat.reduceBNe, Int.reduceLT, Int.reduceLE, Int.reduceEq, Int.reduceNe, Int.reduceAdd, Int.reduceSub, Int.reduceNeg, Int.reduceToNat, Int.reduceMul, ↓reduceIte, Int.reduceGT, Int.reduceGE, q6, qF, q3, c9, c10, nbool_undef, guardK_none, lE]
  refine callT_one (hfi _ _ _) rfl ?_
  rw [ff1]
  simp (disch := first | omega | (simp only [List.length_append, List.length_cons, List.length_nil, length_hset, length_hkill]; omega)) only [↓fsPre, fsPost, fsCond, fsGen, npick, nnilCheck, noff, nidxArr, nidxSl, nfield, npart, nindex, nextract, nlenSl, nlenStr, ncap, mmx, minmax2, nslice, nsliceArr, nbounds, obound, bound, adv, eqVal, eqCells, nfill, lenOfSl, cls, fresults, fresl, fres1, gt_iff_lt, ge_iff_le, nb_one, nb_flat, nb_cells, nb_and, nb_and_c, nb_c_and, nb_or, nb_or_c, nb_c_or, nb_xor, nb_xor_c, nb_c_xor, nb_andNot, nb_compl, nb_add, nb_sub, nb_shl, nb_shr, nb_c_shl, nb_eql, nb_neq, nb_eql_c, nb_neq_c, nb_lss, nb_geq_c, nb_conv8, nb_convi, eqCell_nb, bitsC_length, bitsC_get, bitsC_splice, bitsC_cut, bitsC_one, bitsC_flat, bitsC_splice_all, bit_ofInt, toNat_add_c, nb_zero, fill_bits, v_i64_add, v_i64_sub, v_i64_mul, v_i64_quo, v_i64_rem, v_i64_eql, v_i64_neq, v_i64_lss, v_i64_leq, v_i64_gtr, v_i64_geq, v_i64_and, v_i64_or, v_i64_xor, v_i64_andNot, v_i64_shl, v_i64_shr, v_i64_neg, v_u8_add, v_u8_sub, v_u8_mul, v_u8_quo, v_u8_rem, v_u8_eql, v_u8_neq, v_u8_lss, v_u8_leq, v_u8_gtr, v_u8_geq, v_u8_and, v_u8_or, v_u8_xor, v_u8_andNot, v_u8_shl, v_u8_shr, v_u8_neg, v_eqc_bool, v_eqc_int, v_eqc_str, v_not, nbool_undef, guardK_none, v_str_eql, v_str_neq, v_conv_i64_i64, v_conv_i64_u8, v_conv_u8_i64, v_conv_u8_u8, v_conv_u64_i64, v_conv_u64_u8, reduceCtorEq, Nat.reduceAdd, Nat.reduceMul, Nat.reduceSub, Nat.reduceLT, Nat.reduceLeDiff, Nat.reduceEqDiff, Nat.reduceBEq, Nat.reduceBNe, Int.reduceLT, Int.reduceLE, Int.reduceEq, Int.reduceNe, Int.reduceAdd, Int.reduceSub, Int.reduceNeg, Int.reduceToNat, Int.reduceMul, ↓reduceIte, Int.reduceGT, Int.reduceGE, q6, qF, q3, c9, c10, nbool_undef, guardK_none, lE]
  refine callT_one (hfi _ _ _) rfl ?_
  rw [ff2]
  simp (disch := first | omega | (simp only [List.length_append, List.length_cons, List.length_nil, length_hset, length_hkill]; omega)) only [↓fsPre, fsPost, fsCond, fsGen, npick, nnilCheck, noff, nidxArr, nidxSl, nfield, npart, nindex, nextract, nlenSl, nlenStr, ncap, mmx, minmax2, nslice, nsliceArr, nbounds, obound, bound, adv, eqVal, eqCells, nfill, lenOfSl, cls, fresults, fresl, fres1, gt_iff_lt, ge_iff_le, nb_one, nb_flat, nb_cells, nb_and, nb_and_c, nb_c_and, nb_or, nb_or_c, nb_c_or, nb_xor, nb_xor_c, nb_c_xor, nb_andNot, nb_compl, nb_add, nb_sub, nb_shl, nb_shr, nb_c_shl, nb_eql, nb_neq, nb_eql_c, nb_neq_c, nb_lss, nb_geq_c, nb_conv8, nb_convi, eqCell_nb, bitsC_length, bitsC_get, bitsC_splice, bitsC_cut, bitsC_one, bitsC_flat, bitsC_splice_all, bit_ofInt, toNat_add_c, nb_zero, fill_bits, v_i64_add, v_i64_sub, v_i64_mul, v_i64_quo, v_i64_rem, v_i64_eql, v_i64_neq, v_i64_lss, v_i64_leq, v_i64_gtr, v_i64_geq, v_i64_and, v_i64_or, v_i64_xor, v_i64_andNot, v_i64_shl, v_i64_shr, v_i64_neg, v_u8_add, v_u8_sub, v_u8_mul, v_u8_quo, v_u8_rem, v_u8_eql, v_u8_neq, v_u8_lss, v_u8_leq, v_u8_gtr, v_u8_geq, v_u8_and, v_u8_or, v_u8_xor, v_u8_andNot, v_u8_shl, v_u8_shr, v_u8_neg, v_eqc_bool, v_eqc_int, v_eqc_str, v_not, nbool_undef, guardK_none, v_str_eql, v_str_neq, v_conv_i64_i64, v_conv_i64_u8, v_conv_u8_i64, v_conv_u8_u8, v_conv_u64_i64, v_conv_u64_u8, reduceCtorEq, Nat.reduceAdd, Nat.reduceMul, Nat.reduceSub, Nat.reduceLT, Nat.reduceLeDiff, Nat.reduceEqDiff, Nat.reduceBEq, Nat.reduceBNe, Int.reduceLT, Int.reduceLE, Int.reduceEq, Int.reduceNe, Int.reduceAdd, Int.reduceSub, Int.reduceNeg, Int.reduceToNat, Int.reduceMul, ↓reduceIte, Int.reduceGT, Int.reduceGE, q6, qF, q3, c9, c10, nbool_undef, guardK_none, lE]
  refine wloop (fun j F h => F 1 = .slice (some (b3, 0)) 17 (.opn 1) ∧ F 8 = .ptr (some (E.length, 0)) ∧ F 9 = .int .i64 j ∧ h = E ++ [some (.cells [nb (hiOf W), nb (loOf W)] false)]) 16 ?_ ?_ ?_
  · simp (disch := first | omega | (simp only [List.length_append, List.length_cons, List.length_nil, length_hset, length_hkill]; omega)) only [↓fsPre, fsPost, fsCond, fsGen, npick, nnilCheck, noff, nidxArr, nidxSl, nfield, npart, nindex, nextract, nlenSl, nlenStr, ncap, mmx, minmax2, nslice, nsliceArr, nbounds, obound, bound, adv, eqVal, eqCells, nfill, lenOfSl, cls, fresults, fresl, fres1, gt_iff_lt, ge_iff_le, nb_one, nb_flat, nb_cells, nb_and, nb_and_c, nb_c_and, nb_or, nb_or_c, nb_c_or, nb_xor, nb_xor_c, nb_c_xor, nb_andNot, nb_compl, nb_add, nb_sub, nb_shl, nb_shr, nb_c_shl, nb_eql, nb_neq, nb_eql_c, nb_neq_c, nb_lss, nb_geq_c, nb_conv8, nb_convi, eqCell_nb, bitsC_length, bitsC_get, bitsC_splice, bitsC_cut, bitsC_one, bitsC_flat, bitsC_splice_all, bit_ofInt, toNat_add_c, nb_zero, fill_bits, v_i64_add, v_i64_sub, v_i64_mul, v_i64_quo, v_i64_rem, v_i64_eql, v_i64_neq, v_i64_lss, v_i64_leq, v_i64_gtr, v_i64_geq, v_i64_and, v_i64_or, v_i64_xor, v_i64_andNot, v_i64_shl, v_i64_shr, v_i64_neg, v_u8_add, v_u8_sub, v_u8_mul, v_u8_quo, v_u8_rem, v_u8_eql, v_u8_neq, v_u8_lss, v_u8_leq, v_u8_gtr, v_u8_geq, v_u8_and, v_u8_or, v_u8_xor, v_u8_andNot, v_u8_shl, v_u8_shr, v_u8_neg, v_eqc_bool, v_eqc_int, v_eqc_str, v_not, nbool_undef, guardK_none, v_str_eql, v_str_neq, v_conv_i64_i64, v_conv_i64_u8, v_conv_u8_i64, v_conv_u8_u8, v_conv_u64_i64, v_conv_u64_u8, reduceCtorEq, Nat.reduceAdd, Nat.reduceMul, Nat.reduceSub, Nat.reduceLT, Nat.reduceLeDiff, Nat.reduceEqDiff, Nat.reduceBEq, Nat.reduceBNe, Int.reduceLT, Int.reduceLE, Int.reduceEq, Int.reduceNe, Int.reduceAdd, Int.reduceSub, Int.reduceNeg, Int.reduceToNat, Int.reduceMul, ↓reduceIte, Int.reduceGT, Int.reduceGE]
  · rintro j F h hj ⟨f1, f8, f9, rfl⟩
    have hg : (arrC (N + 17) fun i => n8 (D i))[j]? = some (n8 (D j)) := arrC_get (by omega)
    have e1 : ((8 : Int) * (15 - (j : Int))).toNat = 8 * (15 - j) := by omega
    simp (disch := first | omega | (simp only [List.length_append, List.length_cons, List.length_nil, length_hset, length_hkill]; omega)) only [↓fsPre, fsPost, fsCond, fsGen, npick, nnilCheck, noff, nidxArr, nidxSl, nfield, npart, nindex, nextract, nlenSl, nlenStr, ncap, mmx, minmax2, nslice, nsliceArr, nbounds, obound, bound, adv, eqVal, eqCells, nfill, lenOfSl, cls, fresults, fresl, fres1, gt_iff_lt, ge_iff_le, nb_one, nb_flat, nb_cells, nb_and, nb_and_c, nb_c_and, nb_or, nb_or_c, nb_c_or, nb_xor, nb_xor_c, nb_c_xor, nb_andNot, nb_compl, nb_add, nb_sub, nb_shl, nb_shr, nb_c_shl, nb_eql, nb_neq, nb_eql_c, nb_neq_c, nb_lss, nb_geq_c, nb_conv8, nb_convi, eqCell_nb, bitsC_length, bitsC_get, bitsC_splice, bitsC_cut, bitsC_one, bitsC_flat, bitsC_splice_all, bit_ofInt, toNat_add_c, nb_zero, fill_bits, v_i64_add, v_i64_sub, v_i64_mul, v_i64_quo, v_i64_rem, v_i64_eql, v_i64_neq, v_i64_lss, v_i64_leq, v_i64_gtr, v_i64_geq, v_i64_and, v_i64_or, v_i64_xor, v_i64_andNot, v_i64_shl, v_i64_shr, v_i64_neg, v_u8_add, v_u8_sub, v_u8_mul, v_u8_quo, v_u8_rem, v_u8_eql, v_u8_neq, v_u8_lss, v_u8_leq, v_u8_gtr, v_u8_geq, v_u8_and, v_u8_or, v_u8_xor, v_u8_andNot, v_u8_shl, v_u8_shr, v_u8_neg, v_eqc_bool, v_eqc_int, v_eqc_str, v_not, nbool_undef, guardK_none, v_str_eql, v_str_neq, v_conv_i64_i64, v_conv_i64_u8, v_conv_u8_i64, v_conv_u8_u8, v_conv_u64_i64, v_conv_u64_u8, reduceCtorEq, Nat.reduceAdd, Nat.reduceMul, Nat.reduceSub, Nat.reduceLT, Nat.reduceLeDiff, Nat.reduceEqDiff, Nat.reduceBEq, Nat.reduceBNe, Int.reduceLT, Int.reduceLE, Int.reduceEq, Int.reduceNe, Int.reduceAdd, Int.reduceSub, Int.reduceNeg, Int.reduceToNat, Int.reduceMul, ↓reduceIte, Int.reduceGT, Int.reduceGE, f1, f8, f9, q3, hg]
    refine callDT_one (hri _ _ _) rfl ?_
    rw [e1]
    simp (disch := first | omega | (simp only [List.length_append, List.length_cons, List.length_nil, length_hset, length_hkill]; omega)) only [↓fsPre, fsPost, fsCond, fsGen, npick, nnilCheck, noff, nidxArr, nidxSl, nfield, npart, nindex, nextract, nlenSl, nlenStr, ncap, mmx, minmax2, nslice, nsliceArr, nbounds, obound, bound, adv, eqVal, eqCells, nfill, lenOfSl, cls, fresults, fresl, fres1, gt_iff_lt, ge_iff_le, nb_one, nb_flat, nb_cells, nb_and, nb_and_c, nb_c_and, nb_or, nb_or_c, nb_c_or, nb_xor, nb_xor_c, nb_c_xor, nb_andNot, nb_compl, nb_add, nb_sub, nb_shl, nb_shr, nb_c_shl, nb_eql, nb_neq, nb_eql_c, nb_neq_c, nb_lss, nb_geq_c, nb_conv8, nb_convi, eqCell_nb, bitsC_length, bitsC_get, bitsC_splice, bitsC_cut, bitsC_one, bitsC_flat, bitsC_splice_all, bit_ofInt, toNat_add_c, nb_zero, fill_bits, v_i64_add, v_i64_sub, v_i64_mul, v_i64_quo, v_i64_rem, v_i64_eql, v_i64_neq, v_i64_lss, v_i64_leq, v_i64_gtr, v_i64_geq, v_i64_and, v_i64_or, v_i64_xor, v_i64_andNot, v_i64_shl, v_i64_shr, v_i64_neg, v_u8_add, v_u8_sub, v_u8_mul, v_u8_quo, v_u8_rem, v_u8_eql, v_u8_neq, v_u8_lss, v_u8_leq, v_u8_gtr, v_u8_geq, v_u8_and, v_u8_or, v_u8_xor, v_u8_andNot, v_u8_shl, v_u8_shr, v_u8_neg, v_eqc_bool, v_eqc_int, v_eqc_str, v_not, nbool_undef, guardK_none, v_str_eql, v_str_neq, v_conv_i64_i64, v_conv_i64_u8, v_conv_u8_i64, v_conv_u8_u8, v_conv_u64_i64, v_conv_u64_u8, reduceCtorEq, Nat.reduceAdd, Nat.reduceMul, Nat.reduceSub, Nat.reduceLT, Nat.reduceLeDiff, Nat.reduceEqDiff, Nat.reduceBEq, Nat.reduceBNe, Int.reduceLT, Int.reduceLE, Int.reduceEq, Int.reduceNe, Int.reduceAdd, Int.reduceSub, Int.reduceNeg, Int.reduceToNat, Int.reduceMul, ↓reduceIte, Int.reduceGT, Int.reduceGE, f1, f8, f9, q3, hg, hW j hj, n8_fold, n8_ne_self]
  · rintro F h ⟨f1, f8, f9, rfl⟩
    simp (disch := first | omega | (simp only [List.length_append, List.length_cons, List.length_nil, length_hset, length_hkill]; omega)) only [↓fsPre, fsPost, fsCond, fsGen, npick, nnilCheck, noff, nidxArr, nidxSl, nfield, npart, nindex, nextract, nlenSl, nlenStr, ncap, mmx, minmax2, nslice, nsliceArr, nbounds, obound, bound, adv, eqVal, eqCells, nfill, lenOfSl, cls, fresults, fresl, fres1, gt_iff_lt, ge_iff_le, nb_one, nb_flat, nb_cells, nb_and, nb_and_c, nb_c_and, nb_or, nb_or_c, nb_c_or, nb_xor, nb_xor_c, nb_c_xor, nb_andNot, nb_compl, nb_add, nb_sub, nb_shl, nb_shr, nb_c_shl, nb_eql, nb_neq, nb_eql_c, nb_neq_c, nb_lss, nb_geq_c, nb_conv8, nb_convi, eqCell_nb, bitsC_length, bitsC_get, bitsC_splice, bitsC_cut, bitsC_one, bitsC_flat, bitsC_splice_all, bit_ofInt, toNat_add_c, nb_zero, fill_bits, v_i64_add, v_i64_sub, v_i64_mul, v_i64_quo, v_i64_rem, v_i64_eql, v_i64_neq, v_i64_lss, v_i64_leq, v_i64_gtr, v_i64_geq, v_i64_and, v_i64_or, v_i64_xor, v_i64_andNot, v_i64_shl, v_i64_shr, v_i64_neg, v_u8_add, v_u8_sub, v_u8_mul, v_u8_quo, v_u8_rem, v_u8_eql, v_u8_neq, v_u8_lss, v_u8_leq, v_u8_gtr, v_u8_geq, v_u8_and, v_u8_or, v_u8_xor, v_u8_andNot, v_u8_shl, v_u8_shr, v_u8_neg, v_eqc_bool, v_eqc_int, v_eqc_str, v_not, nbool_undef, guardK_none, v_str_eql, v_str_neq, v_conv_i64_i64, v_conv_i64_u8, v_conv_u8_i64, v_conv_u8_u8, v_conv_u64_i64, v_conv_u64_u8, reduceCtorEq, Nat.reduceAdd, Nat.reduceMul, Nat.reduceSub, Nat.reduceLT, Nat.reduceLeDiff, Nat.reduceEqDiff, Nat.reduceBEq, Nat.reduceBNe, Int.reduceLT, Int.reduceLE, Int.reduceEq, Int.reduceNe, Int.reduceAdd, Int.reduceSub, Int.reduceNeg, Int.reduceToNat, Int.reduceMul, ↓reduceIte, Int.reduceGT, Int.reduceGE, f1, f8, f9]
    refine callT_one (begun28_ok _) rfl ?_
    simp (disch := first | omega | (simp only [List.length_append, List.length_cons, List.length_nil, length_hset, length_hkill]; omega)) only [↓fsPre, fsPost, fsCond, fsGen, npick, nbin, nun, nconv, nnilCheck, noff, nidxArr, nidxSl, nfield, npart, nindex, nextract, nlenSl, nlenStr, ncap, mmx, minmax2, nslice, nsliceArr, nbounds, obound, bound, adv, nbits, eqVal, eqCell, eqCells, nfill, lenOfSl, cls, fresults, fresl, fres1, gt_iff_lt, ge_iff_le, reduceCtorEq, Nat.reduceAdd, Nat.reduceMul, Nat.reduceSub, Nat.reduceLT, Nat.reduceLeDiff, Nat.reduceEqDiff, Nat.reduceBEq, Nat.reduceBNe, Int.reduceLT, Int.reduceLE, Int.reduceEq, Int.reduceNe, Int.reduceAdd, Int.reduceSub, Int.reduceNeg, Int.reduceToNat, Int.reduceMul, ↓reduceIte, Int.reduceGT, Int.reduceGE]

def kindsEB : List PK := [.flat [.int .i64] false, .sl [.int .u8]]
theorem walkEB (nvs : List NV) (h : Heap) (ok : argsOK kindsEB 0 nvs h) : NFun Try.prog 4 nvs h (fun q => q.1 = .bool true) := by
  obtain ⟨v, vs, x, h, rfl, rfl, h1, ok⟩ := argsOK_cons ok
  obtain ⟨w, vs, y, h, rfl, rfl, h2, ok⟩ := argsOK_cons ok
  obtain ⟨rfl, rfl⟩ := argsOK_nil ok
  obtain ⟨n, rfl, hn, rfl⟩ := argOK_int h1
  obtain ⟨xs, hx⟩ := argOK_bytes (H := [none, y]) h2 rfl
  exact bits_ok _ n _ xs hx
end Go.Proofs
