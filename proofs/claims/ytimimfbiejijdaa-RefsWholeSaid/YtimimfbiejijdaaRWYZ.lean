/- Yd, Ye, Yf, Yh, Yi, Wb, Wa, Wc, Wd, We in one text. -/
import Derived.Test.YtimimfbiejijdaaRWYA
import Derived.Test.YtimimfbiejijdaaRWRefX
set_option linter.unusedSimpArgs false
set_option linter.unusedVariables false
set_option maxRecDepth 100000
namespace Go.Proofs
open Go.Ns

/-- Tallies after an entry was counted n times. -/
noncomputable def entT (T : TK → Int × Int) (R : List Rf) (e : En) (n : Int) : TK → Int × Int := sumT (sumT T (needsK R e) (n, 0)) (provK R e) (0, n)
structure EntQ (H : Heap) (zs : List NV) (p m : Nat) (M : List (TK × (Int × Int))) (T' : TK → Int × Int) (k : Nat) (r : NV × Heap) : Prop where
  v : r.1 = .tup []
  len : H.length ≤ r.2.length
  old : ∀ c, c < H.length → c ≠ m → hget r.2 c = hget H c
  ex : ∃ M', CtAt r.2 zs p m M' ∧ RepT M' T' ∧ M'.length ≤ M.length + k

set_option maxHeartbeats 4000000 in
theorem enter_ok (N : Nat) (H : Heap) (R : List Rf) (z0 z1 z2 z3 z4 z5 z6 z7 z8 z9 : NV) (p m : Nat) (M : List (TK × (Int × Int))) (T : TK → Int × Int) (x : CtAt H [z0, z1, z2, z3, z4, z5, z6, z7, z8, z9] p m M) (r : RepT M T)
    (s : RfV H R z0 z1 z2 z3 z4 z5 z6 z7 z8 z9) (hR : R.length ≤ 10) (row : List NV) (e : En) (xE : EnAt H N row e) (hok : ∀ r ∈ R, RfOK r e) (hu : EnU e) (n : Int) (hn : n = 1 ∨ n = -1) (B : Int) (hB : ∀ k, -B ≤ (T k).1 ∧ (T k).1 ≤ B ∧ -B ≤ (T k).2 ∧ (T k).2 ≤ B) (hB2 : B ≤ 100000) :
    DCall Try.prog 32 [.ptr (some (p, 0)), .agg row, .int .i64 n] H (EntQ H [z0, z1, z2, z3, z4, z5, z6, z7, z8, z9] p m M (entT T R e n) ((needsK R e).length + (provK R e).length)) := by
  unfold entT
  have hn1 : -1 ≤ n ∧ n ≤ 1 := by omega
  have h01 : (-1 : Int) ≤ 0 ∧ (0 : Int) ≤ 1 := by omega
  have hp := x.hp
  simp only [List.cons_append, List.nil_append] at hp
  have lp := hget_some_lt hp
  have lm := x.hm.lt
  obtain ⟨p0, p1, p2, p3, p4, p5, p6, p8, p9⟩ := s.o
  have p7 : z7.one = true := by obtain ⟨b, c, _, _, rfl, _⟩ := s.r; rfl
  have hnl : (needsK R e).length ≤ 10 := by unfold needsK; rw [List.length_map]; have := needsL_le R e; omega
  have hpl : (provK R e).length ≤ 10 := by unfold provK; rw [List.length_map]; have := provL_le R e; omega
  have en : tC (needsL R e) = (needsK R e).flatMap tkC := tC_tk (needs_u hu R)
  have ep : tC (provL R e) = (provK R e).flatMap tkC := tC_tk (prov_u hu R)
  refine call_det E0 rfl mixed t32_ok (by kernel_rfl) (by rintro q ⟨_, h, _⟩; exact h) ?_
  simp only [t32]
  obtain ⟨mv, av, hrw, om, oav, _⟩ := xE.parts
  subst hrw
  simp (disch := first | omega | (simp only [fsLen]; omega)) only [↓fsPre, fsPost, fsCond, fsGen, fsDefs, fsDefX, cls, eqVal, reduceCtorEq, Nat.reduceAdd, Nat.reduceMul, Nat.reduceSub, Nat.reduceLT, Nat.reduceLeDiff, Nat.reduceEqDiff, Nat.reduceBEq, Nat.reduceBNe, Int.reduceLT, Int.reduceLE, Int.reduceEq, Int.reduceNe, Int.reduceAdd, Int.reduceSub, Int.reduceNeg, Int.reduceToNat, Int.reduceMul, ↓reduceIte, Int.reduceGT, Int.reduceGE, om, oav, hp, p0, p1, p2, p3, p4, p5, p6, p7, p8, p9]
  have x0 := x.mono (h := H ++ [some (.cells [.int .i64 e.tab, mv, .int .i64 e.pr, .int .i64 e.act, av] false)]) (hget_appl lp) (hget_appl lm)
  have s0 := s.mono (h' := H ++ [some (.cells [.int .i64 e.tab, mv, .int .i64 e.pr, .int .i64 e.act, av] false)]) fun b hb => hget_appl hb
  have xE0 := xE.mono (h' := H ++ [some (.cells [.int .i64 e.tab, mv, .int .i64 e.pr, .int .i64 e.act, av] false)]) fun b hb => hget_appl hb
  refine callDT_D (needs_ok N _ R z0 z1 z2 z3 z4 z5 z6 z7 z8 z9 s0 hR _ e xE0 hok) rfl ?_
  rintro va h1 ⟨l1, o1, ga⟩
  simp only [List.length_append, List.length_cons, List.length_nil] at l1 o1 ga
  rw [en] at ga
  obtain ⟨A, c, rfl, hA⟩ := tks_shape ga
  simp (disch := first | omega | (simp only [fsLen]; omega)) only [↓fsPre, fsPost, fsCond, fsGen, fsDefs, fsDefX, cls, eqVal, reduceCtorEq, Nat.reduceAdd, Nat.reduceMul, Nat.reduceSub, Nat.reduceLT, Nat.reduceLeDiff, Nat.reduceEqDiff, Nat.reduceBEq, Nat.reduceBNe, Int.reduceLT, Int.reduceLE, Int.reduceEq, Int.reduceNe, Int.reduceAdd, Int.reduceSub, Int.reduceNeg, Int.reduceToNat, Int.reduceMul, ↓reduceIte, Int.reduceGT, Int.reduceGE]
  refine ⟨by omega, ?_⟩
  have hrow1 : hget h1 H.length = some (.cells [.int .i64 e.tab, mv, .int .i64 e.pr, .int .i64 e.act, av] false) := by rw [o1 _ (by omega)]; simp (disch := first | omega | (simp only [fsLen]; omega)) only [↓fsPre, fsPost, fsCond, fsGen, fsDefs, fsDefX, cls, eqVal, reduceCtorEq, Nat.reduceAdd, Nat.reduceMul, Nat.reduceSub, Nat.reduceLT, Nat.reduceLeDiff, Nat.reduceEqDiff, Nat.reduceBEq, Nat.reduceBNe, Int.reduceLT, Int.reduceLE, Int.reduceEq, Int.reduceNe, Int.reduceAdd, Int.reduceSub, Int.reduceNeg, Int.reduceToNat, Int.reduceMul, ↓reduceIte, Int.reduceGT, Int.reduceGE]
  have o1' : ∀ b, b < H.length → hget h1 b = hget H b := fun b hb => by rw [o1 b (by omega), hget_appl hb]
  have x1 : CtAt h1 [z0, z1, z2, z3, z4, z5, z6, z7, z8, z9] p m M := x.mono (o1' _ lp) (o1' _ lm)
  have hmap1 := x1.map
  have s1 : RfV h1 R z0 z1 z2 z3 z4 z5 z6 z7 z8 z9 := s.mono o1'
  have xE1 : EnAt h1 N _ e := xE.mono o1'
  clear x0 s0 xE0 o1 ga
  have lp1 : p < h1.length := by omega
  have lm1 : m < h1.length := by omega
  refine wloop (fun j F h => F 0 = .ptr (some (p, 0)) ∧ F 2 = .int .i64 n ∧ F 4 = .ptr (some (H.length, 0)) ∧ F 17 = .slice A (needsK R e).length c ∧ F 18 = .int .i64 (needsK R e).length ∧ F 19 = .int .i64 j ∧ h1.length ≤ h.length ∧ (∀ c, c < h1.length → c ≠ m → hget h c = hget h1 c) ∧
    ∃ M', CtAt h [z0, z1, z2, z3, z4, z5, z6, z7, z8, z9] p m M' ∧ RepT M' (sumT (T) ((needsK R e).take j) (n, 0)) ∧ M'.length ≤ M.length + j) (needsK R e).length ?_ ?_ ?_
  · simp (disch := first | omega | (simp only [fsLen]; omega)) only [↓fsPre, fsPost, fsCond, fsGen, fsDefs, fsDefX, cls, eqVal, reduceCtorEq, Nat.reduceAdd, Nat.reduceMul, Nat.reduceSub, Nat.reduceLT, Nat.reduceLeDiff, Nat.reduceEqDiff, Nat.reduceBEq, Nat.reduceBNe, Int.reduceLT, Int.reduceLE, Int.reduceEq, Int.reduceNe, Int.reduceAdd, Int.reduceSub, Int.reduceNeg, Int.reduceToNat, Int.reduceMul, ↓reduceIte, Int.reduceGT, Int.reduceGE]
    refine ⟨M, x1, ?_, by omega⟩
    rw [sumT_nil]; exact r
  · rintro j F h hj ⟨f0, f2, f4, f17, f18, f19, hl, old, M', xM, rM, hM'⟩
    obtain ⟨b, rfl, hNb, hb⟩ := hA (by omega)
    have hbl1 := hget_lt hb
    have hbm : b ≠ m := by omega
    have hbh : hget h b = some (.cells ((needsK R e).flatMap tkC) false) := by rw [old b hbl1 hbm]; exact hb
    have hbl := hget_some_lt hbh
    have hc : cut ((needsK R e).flatMap tkC) (j * 4) 4 = some (tkC (needsK R e)[j]) := cut_flatMap tkC_length hj
    have htk : (needsK R e).take (j + 1) = (needsK R e).take j ++ [(needsK R e)[j]] := by rw [List.take_add_one, List.getElem?_eq_getElem hj]; rfl
    have lpM := hget_some_lt xM.hp
    have lmM := xM.hm.lt
    simp (disch := first | omega | (simp only [fsLen]; omega)) only [↓fsPre, fsPost, fsCond, fsGen, fsDefs, fsDefX, cls, eqVal, reduceCtorEq, Nat.reduceAdd, Nat.reduceMul, Nat.reduceSub, Nat.reduceLT, Nat.reduceLeDiff, Nat.reduceEqDiff, Nat.reduceBEq, Nat.reduceBNe, Int.reduceLT, Int.reduceLE, Int.reduceEq, Int.reduceNe, Int.reduceAdd, Int.reduceSub, Int.reduceNeg, Int.reduceToNat, Int.reduceMul, ↓reduceIte, Int.reduceGT, Int.reduceGE, f0, f2, f4, f17, f18, f19, hbh, hc, tkC_one, tkC_cut, tkC_length, tkC_fill]
    have bd := sumT_bound (T := T) (l := (needsK R e).take j) (a := n) (b := 0) (B := B) hn1 h01 hB (needsK R e)[j]
    have hlt : ((needsK R e).take j).length ≤ 10 := by rw [List.length_take]; omega
    have i1 : i64R ((sumT T ((needsK R e).take j) (n, 0) (needsK R e)[j]).1 + n) := by unfold i64R; omega
    have i2 : i64R ((sumT T ((needsK R e).take j) (n, 0) (needsK R e)[j]).2 + 0) := by unfold i64R; omega
    refine callT_D (count_ok _ z0 z1 z2 z3 z4 z5 z6 z7 z8 z9 p m M' _ (xM.mono (hget_appl lpM) (hget_appl lmM)) rM (needsK R e)[j] n 0 i1 i2) rfl ?_
    rintro w h2 ⟨hw, hl2, ho2, M2, xM2, rM2, hM2⟩
    simp only [List.length_append, List.length_cons, List.length_nil] at hw hl2 ho2 xM2
    subst hw
    rw [← sumT_snoc, ← htk] at rM2
    simp (disch := first | omega | (simp only [fsLen]; omega)) only [↓fsPre, fsPost, fsCond, fsGen, fsDefs, fsDefX, cls, eqVal, reduceCtorEq, Nat.reduceAdd, Nat.reduceMul, Nat.reduceSub, Nat.reduceLT, Nat.reduceLeDiff, Nat.reduceEqDiff, Nat.reduceBEq, Nat.reduceBNe, Int.reduceLT, Int.reduceLE, Int.reduceEq, Int.reduceNe, Int.reduceAdd, Int.reduceSub, Int.reduceNeg, Int.reduceToNat, Int.reduceMul, ↓reduceIte, Int.reduceGT, Int.reduceGE, f0, f2, f4, f17, f18, f19]
    exact ⟨by omega, fun c hc hne => by rw [ho2 c (by omega) hne, hget_appl (by omega)]; exact old c hc hne, M2, xM2, rM2, by omega⟩
  · rintro F h ⟨f0, f2, f4, f17, f18, f19, hl, old, M', xM, rM, hM'⟩
    rw [List.take_of_length_le (Nat.le_refl _)] at rM
    have hrowh : hget h H.length = some (.cells [.int .i64 e.tab, mv, .int .i64 e.pr, .int .i64 e.act, av] false) := by rw [old _ (by omega) (by omega)]; exact hrow1
    have sh := s1.mono2 hmap1 old
    have xEh := xE1.mono2 hmap1 old
    have oldH : ∀ c, c < H.length → c ≠ m → hget h c = hget H c := fun c hc hne => by rw [old c (by omega) hne]; exact o1' c hc
    clear old hrow1 o1' x1 hmap1 s1 xE1 hA
    have hpM := xM.hp
    simp only [List.cons_append, List.nil_append] at hpM
    have lpM := hget_some_lt hpM
    have lmM := xM.hm.lt
    have lrow := hget_some_lt hrowh
    simp (disch := first | omega | (simp only [fsLen]; omega)) only [↓fsPre, fsPost, fsCond, fsGen, fsDefs, fsDefX, cls, eqVal, reduceCtorEq, Nat.reduceAdd, Nat.reduceMul, Nat.reduceSub, Nat.reduceLT, Nat.reduceLeDiff, Nat.reduceEqDiff, Nat.reduceBEq, Nat.reduceBNe, Int.reduceLT, Int.reduceLE, Int.reduceEq, Int.reduceNe, Int.reduceAdd, Int.reduceSub, Int.reduceNeg, Int.reduceToNat, Int.reduceMul, ↓reduceIte, Int.reduceGT, Int.reduceGE, f0, f2, f4, f17, f18, f19, om, oav, hpM, hrowh, p0, p1, p2, p3, p4, p5, p6, p7, p8, p9]
    refine callDT_D (provides_ok N _ R z0 z1 z2 z3 z4 z5 z6 z7 z8 z9 sh hR _ e xEh hok) rfl ?_
    rintro vb h3 ⟨l3, o3, gb⟩
    simp only at l3 o3 gb
    rw [ep] at gb
    obtain ⟨A, c, rfl, hA⟩ := tks_shape gb
    simp (disch := first | omega | (simp only [fsLen]; omega)) only [↓fsPre, fsPost, fsCond, fsGen, fsDefs, fsDefX, cls, eqVal, reduceCtorEq, Nat.reduceAdd, Nat.reduceMul, Nat.reduceSub, Nat.reduceLT, Nat.reduceLeDiff, Nat.reduceEqDiff, Nat.reduceBEq, Nat.reduceBNe, Int.reduceLT, Int.reduceLE, Int.reduceEq, Int.reduceNe, Int.reduceAdd, Int.reduceSub, Int.reduceNeg, Int.reduceToNat, Int.reduceMul, ↓reduceIte, Int.reduceGT, Int.reduceGE]
    refine ⟨by omega, ?_⟩
    have x3 : CtAt h3 [z0, z1, z2, z3, z4, z5, z6, z7, z8, z9] p m M' := xM.mono (o3 _ lpM) (o3 _ lmM)
    have old3 : ∀ c, c < H.length → c ≠ m → hget h3 c = hget H c := fun c hc hne => by rw [o3 c (by omega)]; exact oldH c hc hne
    have hB3 : ∀ k, -(B + 10) ≤ (sumT T (needsK R e) (n, 0) k).1 ∧ (sumT T (needsK R e) (n, 0) k).1 ≤ B + 10 ∧ -(B + 10) ≤ (sumT T (needsK R e) (n, 0) k).2 ∧ (sumT T (needsK R e) (n, 0) k).2 ≤ B + 10 := fun k => by
      have := sumT_bound (T := T) (l := needsK R e) (a := n) (b := 0) (B := B) hn1 h01 hB k
      omega
    clear oldH sh xEh hrowh o3 gb f17 f18 f19
    generalize sumT T (needsK R e) (n, 0) = T1 at *
    refine wloop (fun j F h => F 0 = .ptr (some (p, 0)) ∧ F 2 = .int .i64 n ∧ F 4 = .ptr (some (H.length, 0)) ∧ F 33 = .slice A (provK R e).length c ∧ F 34 = .int .i64 (provK R e).length ∧ F 35 = .int .i64 j ∧ h3.length ≤ h.length ∧ (∀ c, c < h3.length → c ≠ m → hget h c = hget h3 c) ∧
      ∃ M2, CtAt h [z0, z1, z2, z3, z4, z5, z6, z7, z8, z9] p m M2 ∧ RepT M2 (sumT (T1) ((provK R e).take j) (0, n)) ∧ M2.length ≤ M'.length + j) (provK R e).length ?_ ?_ ?_
    · simp (disch := first | omega | (simp only [fsLen]; omega)) only [↓fsPre, fsPost, fsCond, fsGen, fsDefs, fsDefX, cls, eqVal, reduceCtorEq, Nat.reduceAdd, Nat.reduceMul, Nat.reduceSub, Nat.reduceLT, Nat.reduceLeDiff, Nat.reduceEqDiff, Nat.reduceBEq, Nat.reduceBNe, Int.reduceLT, Int.reduceLE, Int.reduceEq, Int.reduceNe, Int.reduceAdd, Int.reduceSub, Int.reduceNeg, Int.reduceToNat, Int.reduceMul, ↓reduceIte, Int.reduceGT, Int.reduceGE, f0, f2, f4]
      refine ⟨M', x3, ?_, by omega⟩
      rw [sumT_nil]; exact rM
    · clear f0 f2 f4 F
      rintro j F h' hj ⟨f0, f2, f4, f33, f34, f35, hl', old, M2, xM2, rM2, hM2⟩
      obtain ⟨b, rfl, hNb, hb⟩ := hA (by omega)
      have hbl1 := hget_lt hb
      have hbm : b ≠ m := by omega
      have hbh : hget h' b = some (.cells ((provK R e).flatMap tkC) false) := by rw [old b hbl1 hbm]; exact hb
      have hbl := hget_some_lt hbh
      have hc : cut ((provK R e).flatMap tkC) (j * 4) 4 = some (tkC (provK R e)[j]) := cut_flatMap tkC_length hj
      have htk : (provK R e).take (j + 1) = (provK R e).take j ++ [(provK R e)[j]] := by rw [List.take_add_one, List.getElem?_eq_getElem hj]; rfl
      have lpM := hget_some_lt xM2.hp
      have lmM := xM2.hm.lt
      simp (disch := first | omega | (simp only [fsLen]; omega)) only [↓fsPre, fsPost, fsCond, fsGen, fsDefs, fsDefX, cls, eqVal, reduceCtorEq, Nat.reduceAdd, Nat.reduceMul, Nat.reduceSub, Nat.reduceLT, Nat.reduceLeDiff, Nat.reduceEqDiff, Nat.reduceBEq, Nat.reduceBNe, Int.reduceLT, Int.reduceLE, Int.reduceEq, Int.reduceNe, Int.reduceAdd, Int.reduceSub, Int.reduceNeg, Int.reduceToNat, Int.reduceMul, ↓reduceIte, Int.reduceGT, Int.reduceGE, f0, f2, f4, f33, f34, f35, hbh, hc, tkC_one, tkC_cut, tkC_length, tkC_fill]
      have bd := sumT_bound (T := T1) (l := (provK R e).take j) (a := 0) (b := n) (B := B + 10) h01 hn1 hB3 (provK R e)[j]
      have hlt : ((provK R e).take j).length ≤ 10 := by rw [List.length_take]; omega
      have i1 : i64R ((sumT T1 ((provK R e).take j) (0, n) (provK R e)[j]).1 + 0) := by unfold i64R; omega
      have i2 : i64R ((sumT T1 ((provK R e).take j) (0, n) (provK R e)[j]).2 + n) := by unfold i64R; omega
      refine callT_D (count_ok _ z0 z1 z2 z3 z4 z5 z6 z7 z8 z9 p m M2 _ (xM2.mono (hget_appl lpM) (hget_appl lmM)) rM2 (provK R e)[j] 0 n i1 i2) rfl ?_
      rintro w h2 ⟨hw, hl2, ho2, M3, xM3, rM3, hM3⟩
      simp only [List.length_append, List.length_cons, List.length_nil] at hw hl2 ho2 xM3
      subst hw
      rw [← sumT_snoc, ← htk] at rM3
      simp (disch := first | omega | (simp only [fsLen]; omega)) only [↓fsPre, fsPost, fsCond, fsGen, fsDefs, fsDefX, cls, eqVal, reduceCtorEq, Nat.reduceAdd, Nat.reduceMul, Nat.reduceSub, Nat.reduceLT, Nat.reduceLeDiff, Nat.reduceEqDiff, Nat.reduceBEq, Nat.reduceBNe, Int.reduceLT, Int.reduceLE, Int.reduceEq, Int.reduceNe, Int.reduceAdd, Int.reduceSub, Int.reduceNeg, Int.reduceToNat, Int.reduceMul, ↓reduceIte, Int.reduceGT, Int.reduceGE, f0, f2, f4, f33, f34, f35]
      exact ⟨by omega, fun c hc hne => by rw [ho2 c (by omega) hne, hget_appl (by omega)]; exact old c hc hne, M3, xM3, rM3, by omega⟩
    · clear f0 f2 f4 F
      rintro F h' ⟨f0, f2, f4, f33, f34, f35, hl', old, M2, xM2, rM2, hM2⟩
      rw [List.take_of_length_le (Nat.le_refl _)] at rM2
      simp (disch := first | omega | (simp only [fsLen]; omega)) only [↓fsPre, fsPost, fsCond, fsGen, fsDefs, fsDefX, cls, eqVal, reduceCtorEq, Nat.reduceAdd, Nat.reduceMul, Nat.reduceSub, Nat.reduceLT, Nat.reduceLeDiff, Nat.reduceEqDiff, Nat.reduceBEq, Nat.reduceBNe, Int.reduceLT, Int.reduceLE, Int.reduceEq, Int.reduceNe, Int.reduceAdd, Int.reduceSub, Int.reduceNeg, Int.reduceToNat, Int.reduceMul, ↓reduceIte, Int.reduceGT, Int.reduceGE, f0, f2, f4, f33, f34, f35]
      exact ⟨rfl, by show H.length ≤ h'.length; omega, fun c hc hne => by rw [old c (by omega) hne]; exact old3 c hc hne, M2, xM2, rM2, by omega⟩

theorem add_ok (N : Nat) (H : Heap) (R : List Rf) (z0 z1 z2 z3 z4 z5 z6 z7 z8 z9 : NV) (p m : Nat) (M : List (TK × (Int × Int))) (T : TK → Int × Int) (x : CtAt H [z0, z1, z2, z3, z4, z5, z6, z7, z8, z9] p m M) (r : RepT M T)
    (s : RfV H R z0 z1 z2 z3 z4 z5 z6 z7 z8 z9) (hR : R.length ≤ 10) (row : List NV) (e : En) (xE : EnAt H N row e) (hok : ∀ r ∈ R, RfOK r e) (hu : EnU e) (B : Int) (hB : ∀ k, -B ≤ (T k).1 ∧ (T k).1 ≤ B ∧ -B ≤ (T k).2 ∧ (T k).2 ≤ B) (hB2 : B ≤ 100000) :
    DCall Try.prog 17 [.ptr (some (p, 0)), .agg row] H (EntQ H [z0, z1, z2, z3, z4, z5, z6, z7, z8, z9] p m M (entT T R e (1)) ((needsK R e).length + (provK R e).length)) := by
  have lp := hget_some_lt x.hp
  have lm := x.hm.lt
  refine call_det E0 rfl mixed t17_ok (by kernel_rfl) (by rintro q ⟨_, h, _⟩; exact h) ?_
  simp only [t17]
  obtain ⟨mv, av, hrw, om, oav, _⟩ := xE.parts
  subst hrw
  simp (disch := first | omega | (simp only [fsLen]; omega)) only [↓fsPre, fsPost, fsCond, fsGen, fsDefs, fsDefX, cls, eqVal, reduceCtorEq, Nat.reduceAdd, Nat.reduceMul, Nat.reduceSub, Nat.reduceLT, Nat.reduceLeDiff, Nat.reduceEqDiff, Nat.reduceBEq, Nat.reduceBNe, Int.reduceLT, Int.reduceLE, Int.reduceEq, Int.reduceNe, Int.reduceAdd, Int.reduceSub, Int.reduceNeg, Int.reduceToNat, Int.reduceMul, ↓reduceIte, Int.reduceGT, Int.reduceGE, om, oav]
  refine callT_D (enter_ok N _ R z0 z1 z2 z3 z4 z5 z6 z7 z8 z9 p m M T (x.mono (hget_appl lp) (hget_appl lm)) r (s.mono fun b hb => hget_appl hb) hR _ e (xE.mono fun b hb => hget_appl hb) hok hu (1) (by omega) B hB hB2) rfl ?_
  rintro v g ⟨hv, hl, ho, M', xM, rM, hM⟩
  simp only [List.length_append, List.length_cons, List.length_nil] at hv hl ho xM
  subst hv
  simp (disch := first | omega | (simp only [fsLen]; omega)) only [↓fsPre, fsPost, fsCond, fsGen, fsDefs, fsDefX, cls, eqVal, reduceCtorEq, Nat.reduceAdd, Nat.reduceMul, Nat.reduceSub, Nat.reduceLT, Nat.reduceLeDiff, Nat.reduceEqDiff, Nat.reduceBEq, Nat.reduceBNe, Int.reduceLT, Int.reduceLE, Int.reduceEq, Int.reduceNe, Int.reduceAdd, Int.reduceSub, Int.reduceNeg, Int.reduceToNat, Int.reduceMul, ↓reduceIte, Int.reduceGT, Int.reduceGE]
  exact ⟨rfl, by show H.length ≤ g.length; omega, fun c hc hne => by show hget g c = hget H c; rw [ho c (by omega) hne, hget_appl hc], M', xM, rM, hM⟩


def dangB (x : TK × (Int × Int)) : Bool := decide (0 < x.2.1 ∧ x.2.2 = 0)
def dangK (L : List (TK × (Int × Int))) : List TK := (L.filter dangB).map (·.1)
theorem dangK_snoc (L : List (TK × (Int × Int))) (x : TK × (Int × Int)) : dangK (L ++ [x]) = dangK L ++ (if dangB x = true then [x.1] else []) := by
  unfold dangK
  rw [List.filter_append, List.map_append]
  congr 1
  by_cases h : dangB x = true
  · rw [if_pos h, List.filter_cons_of_pos h]; rfl
  · rw [if_neg h, List.filter_cons_of_neg h]; rfl
theorem dangK_le (L : List (TK × (Int × Int))) : (dangK L).length ≤ L.length := by
  unfold dangK
  rw [List.length_map]
  exact List.length_filter_le _ _
theorem cnC_fill (x : TK × (Int × Int)) : cnC x ++ List.drop (cnC x).length [NV.int .i64 0, NV.int .i64 0, NV.int .u64 0, NV.int .u64 0, NV.int .i64 0, NV.int .i64 0] = cnC x := by
  rw [cnC_length]; exact List.append_nil _
theorem cnC_one (x : TK × (Int × Int)) : (cnC x).all NV.one = true := rfl
theorem cnC_n (x : TK × (Int × Int)) : (cnC x)[4]? = some (.int .i64 x.2.1) := rfl
theorem cnC_p (x : TK × (Int × Int)) : (cnC x)[5]? = some (.int .i64 x.2.2) := rfl
theorem cnC_k (x : TK × (Int × Int)) : cut (cnC x) 0 4 = some (tkC x.1) := rfl
def dangQ (H : Heap) (l : List TK) (r : NV × Heap) : Prop := H.length ≤ r.2.length ∧ (∀ b, b < H.length → hget r.2 b = hget H b) ∧ GrC r.2 H.length (l.flatMap tkC) 4 r.1

set_option maxHeartbeats 1000000 in
theorem dang_ok (H : Heap) (z0 z1 z2 z3 z4 z5 z6 z7 z8 z9 : NV) (p m : Nat) (M L : List (TK × (Int × Int))) (x : CtAt H [z0, z1, z2, z3, z4, z5, z6, z7, z8, z9] p m M) (hs : SortedK ltK L) (hp : L.Perm M) (hM : M.length ≤ 150) :
    DCall Try.prog 18 [.ptr (some (p, 0))] H (dangQ H (dangK L)) := by
  refine call_det E0 rfl mixed t18_ok (by kernel_rfl) (by rintro q ⟨h, _⟩; exact h) ?_
  simp only [t18]
  simp (disch := first | omega | (simp only [fsLen]; omega)) only [↓fsPre, fsPost, fsCond, fsGen, fsDefs, fsDefX, cls, eqVal, reduceCtorEq, Nat.reduceAdd, Nat.reduceMul, Nat.reduceSub, Nat.reduceLT, Nat.reduceLeDiff, Nat.reduceEqDiff, Nat.reduceBEq, Nat.reduceBNe, Int.reduceLT, Int.reduceLE, Int.reduceEq, Int.reduceNe, Int.reduceAdd, Int.reduceSub, Int.reduceNeg, Int.reduceToNat, Int.reduceMul, ↓reduceIte, Int.reduceGT, Int.reduceGE]
  by_cases h0 : M = []
  · subst h0
    have hL : L = [] := by simpa using hp.length_eq
    subst hL
    refine callT_one (call_nil _ _ _ _ _ _ _ _ _ _ _ _ _ x) rfl ?_
    simp (disch := first | omega | (simp only [fsLen]; omega)) only [↓fsPre, fsPost, fsCond, fsGen, fsDefs, fsDefX, cls, eqVal, reduceCtorEq, Nat.reduceAdd, Nat.reduceMul, Nat.reduceSub, Nat.reduceLT, Nat.reduceLeDiff, Nat.reduceEqDiff, Nat.reduceBEq, Nat.reduceBNe, Int.reduceLT, Int.reduceLE, Int.reduceEq, Int.reduceNe, Int.reduceAdd, Int.reduceSub, Int.reduceNeg, Int.reduceToNat, Int.reduceMul, ↓reduceIte, Int.reduceGT, Int.reduceGE]
    refine wloop (fun j F h => F 3 = .slice none 0 (.fix 0) ∧ F 8 = .int .i64 0 ∧ F 9 = .int .i64 0 ∧ h = H) 0 ?_ ?_ ?_
    · simp (disch := first | omega | (simp only [fsLen]; omega)) only [↓fsPre, fsPost, fsCond, fsGen, fsDefs, fsDefX, cls, eqVal, reduceCtorEq, Nat.reduceAdd, Nat.reduceMul, Nat.reduceSub, Nat.reduceLT, Nat.reduceLeDiff, Nat.reduceEqDiff, Nat.reduceBEq, Nat.reduceBNe, Int.reduceLT, Int.reduceLE, Int.reduceEq, Int.reduceNe, Int.reduceAdd, Int.reduceSub, Int.reduceNeg, Int.reduceToNat, Int.reduceMul, ↓reduceIte, Int.reduceGT, Int.reduceGE]
    · intro j F h hj; omega
    · rintro F h ⟨f3, f8, f9, rfl⟩
      simp (disch := first | omega | (simp only [fsLen]; omega)) only [↓fsPre, fsPost, fsCond, fsGen, fsDefs, fsDefX, cls, eqVal, reduceCtorEq, Nat.reduceAdd, Nat.reduceMul, Nat.reduceSub, Nat.reduceLT, Nat.reduceLeDiff, Nat.reduceEqDiff, Nat.reduceBEq, Nat.reduceBNe, Int.reduceLT, Int.reduceLE, Int.reduceEq, Int.reduceNe, Int.reduceAdd, Int.reduceSub, Int.reduceNeg, Int.reduceToNat, Int.reduceMul, ↓reduceIte, Int.reduceGT, Int.reduceGE, f3, f8, f9]
      exact ⟨Nat.le_refl _, fun b _ => rfl, GrC.nil⟩
  · refine callT_one (call_some _ _ _ _ _ _ _ _ _ _ _ _ _ M L x hs hp hM h0) rfl ?_
    simp (disch := first | omega | (simp only [fsLen]; omega)) only [↓fsPre, fsPost, fsCond, fsGen, fsDefs, fsDefX, cls, eqVal, reduceCtorEq, Nat.reduceAdd, Nat.reduceMul, Nat.reduceSub, Nat.reduceLT, Nat.reduceLeDiff, Nat.reduceEqDiff, Nat.reduceBEq, Nat.reduceBNe, Int.reduceLT, Int.reduceLE, Int.reduceEq, Int.reduceNe, Int.reduceAdd, Int.reduceSub, Int.reduceNeg, Int.reduceToNat, Int.reduceMul, ↓reduceIte, Int.reduceGT, Int.reduceGE]
    have hlen := hp.length_eq
    refine wloop (fun j F h => ∃ v, F 3 = v ∧ F 7 = .slice (some (H.length, 0)) L.length (.opn 6) ∧ F 8 = .int .i64 L.length ∧ F 9 = .int .i64 j ∧ H.length + 1 ≤ h.length ∧ (∀ b, b < H.length → hget h b = hget H b) ∧ hget h H.length = some (.cells (L.flatMap cnC) false) ∧ GrC h (H.length + 1) ((dangK (L.take j)).flatMap tkC) 4 v) L.length ?_ ?_ ?_
    · refine ⟨.slice none 0 (.fix 0), ?_⟩
      simp (disch := first | omega | (simp only [fsLen]; omega)) only [↓fsPre, fsPost, fsCond, fsGen, fsDefs, fsDefX, cls, eqVal, reduceCtorEq, Nat.reduceAdd, Nat.reduceMul, Nat.reduceSub, Nat.reduceLT, Nat.reduceLeDiff, Nat.reduceEqDiff, Nat.reduceBEq, Nat.reduceBNe, Int.reduceLT, Int.reduceLE, Int.reduceEq, Int.reduceNe, Int.reduceAdd, Int.reduceSub, Int.reduceNeg, Int.reduceToNat, Int.reduceMul, ↓reduceIte, Int.reduceGT, Int.reduceGE]
      exact ⟨fun b hb => hget_appl hb, GrC.nil⟩
    · rintro j F h hj ⟨v, f3, f7, f8, f9, hl, old, hb, hg⟩
      have hbl := hget_some_lt hb
      have hc : cut (L.flatMap cnC) (j * 6) 6 = some (cnC L[j]) := cut_flatMap cnC_length hj
      have htk : L.take (j + 1) = L.take j ++ [L[j]] := by rw [List.take_add_one, List.getElem?_eq_getElem hj]; rfl
      have hdl := dangK_le (L.take j)
      rw [List.length_take] at hdl
      have hsn := dangK_snoc (L.take j) L[j]
      rw [← htk] at hsn
      by_cases g1 : 0 < L[j].2.1
      · by_cases g2 : L[j].2.2 = 0
        · have hd : dangB L[j] = true := by unfold dangB; simp [g1, g2]
          rw [if_pos hd] at hsn
          simp (disch := first | omega | (simp only [fsLen]; omega)) only [↓fsPre, fsPost, fsCond, fsGen, fsDefs, fsDefX, cls, eqVal, reduceCtorEq, Nat.reduceAdd, Nat.reduceMul, Nat.reduceSub, Nat.reduceLT, Nat.reduceLeDiff, Nat.reduceEqDiff, Nat.reduceBEq, Nat.reduceBNe, Int.reduceLT, Int.reduceLE, Int.reduceEq, Int.reduceNe, Int.reduceAdd, Int.reduceSub, Int.reduceNeg, Int.reduceToNat, Int.reduceMul, ↓reduceIte, Int.reduceGT, Int.reduceGE, f3, f7, f8, f9, hb, hc, cnC_one, cnC_length, cnC_fill, cnC_n, cnC_p, cnC_k, decide_eq_true g1, g2, tkC_one, tkC_length]
          refine grc_app (N := H.length + 1) (new := tkC L[j].1) (m := 1) (hg.ext Ext.app) (by rw [List.length_append]; omega) (sliceCells_at (by simp (disch := first | omega | (simp only [fsLen]; omega)) only [↓fsPre, fsPost, fsCond, fsGen, fsDefs, fsDefX, cls, eqVal, reduceCtorEq, Nat.reduceAdd, Nat.reduceMul, Nat.reduceSub, Nat.reduceLT, Nat.reduceLeDiff, Nat.reduceEqDiff, Nat.reduceBEq, Nat.reduceBNe, Int.reduceLT, Int.reduceLE, Int.reduceEq, Int.reduceNe, Int.reduceAdd, Int.reduceSub, Int.reduceNeg, Int.reduceToNat, Int.reduceMul, ↓reduceIte, Int.reduceGT, Int.reduceGE] <;> rfl) rfl) rfl (by omega) (by omega) rfl (by rw [tks_length]; omega) (by omega) (by omega) ?_
          intro v' h'' g' hl'' ho''
          simp only [List.length_append, List.length_cons, List.length_nil] at hl''
          simp (disch := first | omega | (simp only [fsLen]; omega)) only [↓fsPre, fsPost, fsCond, fsGen, fsDefs, fsDefX, cls, eqVal, reduceCtorEq, Nat.reduceAdd, Nat.reduceMul, Nat.reduceSub, Nat.reduceLT, Nat.reduceLeDiff, Nat.reduceEqDiff, Nat.reduceBEq, Nat.reduceBNe, Int.reduceLT, Int.reduceLE, Int.reduceEq, Int.reduceNe, Int.reduceAdd, Int.reduceSub, Int.reduceNeg, Int.reduceToNat, Int.reduceMul, ↓reduceIte, Int.reduceGT, Int.reduceGE, f3, f7, f8, f9]
          refine ⟨v', ?_⟩
          simp (disch := first | omega | (simp only [fsLen]; omega)) only [↓fsPre, fsPost, fsCond, fsGen, fsDefs, fsDefX, cls, eqVal, reduceCtorEq, Nat.reduceAdd, Nat.reduceMul, Nat.reduceSub, Nat.reduceLT, Nat.reduceLeDiff, Nat.reduceEqDiff, Nat.reduceBEq, Nat.reduceBNe, Int.reduceLT, Int.reduceLE, Int.reduceEq, Int.reduceNe, Int.reduceAdd, Int.reduceSub, Int.reduceNeg, Int.reduceToNat, Int.reduceMul, ↓reduceIte, Int.reduceGT, Int.reduceGE, f3, f7, f8, f9]
          refine ⟨by omega, fun b hb' => ?_, ?_, ?_⟩
          · rw [ho'' _ (by omega), hget_appl (by omega)]; exact old b hb'
          · rw [ho'' _ (by omega), hget_appl (by omega)]; exact hb
          · rw [hsn, List.flatMap_append, List.flatMap_cons, List.flatMap_nil, List.append_nil]; exact g'
        · have hd : ¬ dangB L[j] = true := by unfold dangB; simp [g2]
          rw [if_neg hd, List.append_nil] at hsn
          simp (disch := first | omega | (simp only [fsLen]; omega)) only [↓fsPre, fsPost, fsCond, fsGen, fsDefs, fsDefX, cls, eqVal, reduceCtorEq, Nat.reduceAdd, Nat.reduceMul, Nat.reduceSub, Nat.reduceLT, Nat.reduceLeDiff, Nat.reduceEqDiff, Nat.reduceBEq, Nat.reduceBNe, Int.reduceLT, Int.reduceLE, Int.reduceEq, Int.reduceNe, Int.reduceAdd, Int.reduceSub, Int.reduceNeg, Int.reduceToNat, Int.reduceMul, ↓reduceIte, Int.reduceGT, Int.reduceGE, f3, f7, f8, f9, hb, hc, cnC_one, cnC_length, cnC_fill, cnC_n, cnC_p, cnC_k, decide_eq_true g1, g2, tkC_one, tkC_length]
          rw [hsn]
          refine ⟨v, ?_⟩
          simp (disch := first | omega | (simp only [fsLen]; omega)) only [↓fsPre, fsPost, fsCond, fsGen, fsDefs, fsDefX, cls, eqVal, reduceCtorEq, Nat.reduceAdd, Nat.reduceMul, Nat.reduceSub, Nat.reduceLT, Nat.reduceLeDiff, Nat.reduceEqDiff, Nat.reduceBEq, Nat.reduceBNe, Int.reduceLT, Int.reduceLE, Int.reduceEq, Int.reduceNe, Int.reduceAdd, Int.reduceSub, Int.reduceNeg, Int.reduceToNat, Int.reduceMul, ↓reduceIte, Int.reduceGT, Int.reduceGE, f3, f7, f8, f9, hb]
          exact ⟨by omega, fun b hb' => by rw [hget_appl (by omega)]; exact old b hb', hg.ext Ext.app⟩
      · have hd : ¬ dangB L[j] = true := by unfold dangB; simp [g1]
        rw [if_neg hd, List.append_nil] at hsn
        simp (disch := first | omega | (simp only [fsLen]; omega)) only [↓fsPre, fsPost, fsCond, fsGen, fsDefs, fsDefX, cls, eqVal, reduceCtorEq, Nat.reduceAdd, Nat.reduceMul, Nat.reduceSub, Nat.reduceLT, Nat.reduceLeDiff, Nat.reduceEqDiff, Nat.reduceBEq, Nat.reduceBNe, Int.reduceLT, Int.reduceLE, Int.reduceEq, Int.reduceNe, Int.reduceAdd, Int.reduceSub, Int.reduceNeg, Int.reduceToNat, Int.reduceMul, ↓reduceIte, Int.reduceGT, Int.reduceGE, f3, f7, f8, f9, hb, hc, cnC_one, cnC_length, cnC_fill, cnC_n, cnC_p, cnC_k, decide_eq_false g1, nbool_undef, guardK_none, tkC_one, tkC_length]
        rw [hsn]
        refine ⟨v, ?_⟩
        simp (disch := first | omega | (simp only [fsLen]; omega)) only [↓fsPre, fsPost, fsCond, fsGen, fsDefs, fsDefX, cls, eqVal, reduceCtorEq, Nat.reduceAdd, Nat.reduceMul, Nat.reduceSub, Nat.reduceLT, Nat.reduceLeDiff, Nat.reduceEqDiff, Nat.reduceBEq, Nat.reduceBNe, Int.reduceLT, Int.reduceLE, Int.reduceEq, Int.reduceNe, Int.reduceAdd, Int.reduceSub, Int.reduceNeg, Int.reduceToNat, Int.reduceMul, ↓reduceIte, Int.reduceGT, Int.reduceGE, f3, f7, f8, f9, hb]
        exact ⟨by omega, fun b hb' => by rw [hget_appl (by omega)]; exact old b hb', hg.ext Ext.app⟩
    · rintro F h ⟨v, f3, f7, f8, f9, hl, old, hb, hg⟩
      rw [List.take_of_length_le (Nat.le_refl _)] at hg
      have ov := hg.one
      simp (disch := first | omega | (simp only [fsLen]; omega)) only [↓fsPre, fsPost, fsCond, fsGen, fsDefs, fsDefX, cls, eqVal, reduceCtorEq, Nat.reduceAdd, Nat.reduceMul, Nat.reduceSub, Nat.reduceLT, Nat.reduceLeDiff, Nat.reduceEqDiff, Nat.reduceBEq, Nat.reduceBNe, Int.reduceLT, Int.reduceLE, Int.reduceEq, Int.reduceNe, Int.reduceAdd, Int.reduceSub, Int.reduceNeg, Int.reduceToNat, Int.reduceMul, ↓reduceIte, Int.reduceGT, Int.reduceGE, f3, f7, f8, f9, ov]
      exact ⟨by show H.length ≤ h.length; omega, old, hg.low (by omega)⟩

noncomputable def c1 (R : List Rf) (e : En) (k : TK) : Int := ((needsK R e).count k : Nat)
noncomputable def c2 (R : List Rf) (e : En) (k : TK) : Int := ((provK R e).count k : Nat)
theorem entT_eq (T : TK → Int × Int) (R : List Rf) (e : En) (n : Int) (k : TK) : entT T R e n k = ((T k).1 + c1 R e k * n, (T k).2 + c2 R e k * n) := by
  unfold entT sumT c1 c2
  simp
noncomputable def accT (R : List Rf) : List En → TK → Int × Int
  | [], _ => (0, 0)
  | e :: es, k => ((accT R es k).1 + c1 R e k, (accT R es k).2 + c2 R e k)
theorem accT_perm {R : List Rf} {l l' : List En} (p : l.Perm l') : accT R l = accT R l' := by
  induction p with
  | nil => rfl
  | cons e p ih => funext k; unfold accT; rw [ih]
  | swap a b l =>
    funext k
    simp only [accT]
    exact Prod.ext (by simp only; omega) (by simp only; omega)
  | trans _ _ h1 h2 => rw [h1, h2]
theorem accT_snoc (R : List Rf) (l : List En) (e : En) : accT R (l ++ [e]) = entT (accT R l) R e 1 := by
  funext k
  rw [accT_perm (List.perm_append_comm (l₁ := l) (l₂ := [e])), entT_eq]
  show accT R (e :: l) k = _
  simp only [accT, Int.mul_one]
theorem accT_drop (R : List Rf) (l : List En) (e : En) : entT (accT R (e :: l)) R e (-1) = accT R l := by
  funext k
  rw [entT_eq]
  simp only [accT]
  exact Prod.ext (by simp only; omega) (by simp only; omega)
theorem accT_bound (R : List Rf) (hR : R.length ≤ 10) : ∀ (l : List En) (k : TK), 0 ≤ (accT R l k).1 ∧ (accT R l k).1 ≤ 10 * l.length ∧ 0 ≤ (accT R l k).2 ∧ (accT R l k).2 ≤ 10 * l.length
  | [], k => by simp [accT]
  | e :: l, k => by
    have ih := accT_bound R hR l k
    have h1 : (needsK R e).count k ≤ 10 := Nat.le_trans List.count_le_length (by unfold needsK; rw [List.length_map]; have := needsL_le R e; omega)
    have h2 : (provK R e).count k ≤ 10 := Nat.le_trans List.count_le_length (by unfold provK; rw [List.length_map]; have := provL_le R e; omega)
    simp only [accT, c1, c2, List.length_cons]
    omega
theorem RepT.zero {M : List (TK × (Int × Int))} {T : TK → Int × Int} (r : RepT M T) (h : ∀ k, T k = (0, 0)) : M = [] := by
  cases M with
  | nil => rfl
  | cons x M =>
    obtain ⟨k, v⟩ := x
    have := (r.mem k v).1 (List.mem_cons_self ..)
    rw [h k] at this
    exact absurd this.1.symm this.2
/-- Two maps of the same tallies, in order. -/
theorem RepT.same {M M' L L' : List (TK × (Int × Int))} {T : TK → Int × Int} (r : RepT M T) (r' : RepT M' T) (s : SortedK ltK L) (s' : SortedK ltK L') (p : L.Perm M) (p' : L'.Perm M') : L = L' := by
  have q := r.perm p
  have q' := r'.perm p'
  refine SortedK.eq ltK_ord s s' ?_
  have n1 : L.Nodup := List.Pairwise.imp (fun h e => h (by rw [e])) (List.pairwise_map.1 q.nd)
  have n2 : L'.Nodup := List.Pairwise.imp (fun h e => h (by rw [e])) (List.pairwise_map.1 q'.nd)
  rw [List.perm_ext_iff_of_nodup n1 n2]
  rintro ⟨k, v⟩
  rw [q.mem, q'.mem]
theorem refsOf_le6 (t : TP) : (refsOf t).length ≤ 6 := by
  unfold refsOf
  cases t.m3 <;> cases t.m4 <;> simp
/-- The entries from one on, downwards and around. -/
def turned (es : List En) (t : Nat) : List En := (es.take (t + 1)).reverse ++ (es.drop (t + 1)).reverse
theorem turned_perm (es : List En) (t : Nat) : (turned es t).Perm es := by
  unfold turned
  have := (List.reverse_perm (es.take (t + 1))).append (List.reverse_perm (es.drop (t + 1)))
  rwa [List.take_append_drop] at this
theorem turned_length (es : List En) (t : Nat) : (turned es t).length = es.length := (turned_perm es t).length_eq
theorem turned_at {es : List En} {t i : Nat} (ht : t < es.length) (hi : i < es.length) : (turned es t)[i]? = es[(modN ((t : Int) - i) es.length).toNat]? := by
  have hmod : modN ((t : Int) - i) es.length = if i ≤ t then (t : Int) - i else (t : Int) - i + es.length := by
    unfold modN
    split
    · rename_i h
      have h1 : ((t : Int) - i).tmod es.length = (t : Int) - i := Int.tmod_eq_of_lt (by omega) (by omega)
      rw [h1, Int.tmod_eq_emod_of_nonneg (by omega), Int.add_emod_right, Int.emod_eq_of_lt (by omega) (by omega)]
    · rename_i h
      have h1 : ((t : Int) - i).tmod es.length = (t : Int) - i := by
        have h2 : ((i : Int) - t).tmod es.length = (i : Int) - t := Int.tmod_eq_of_lt (by omega) (by omega)
        have h3 := Int.neg_tmod ((i : Int) - t) es.length
        rw [h2] at h3
        rw [show (t : Int) - i = -((i : Int) - t) by omega]
        exact h3
      rw [h1]
      exact Int.tmod_eq_of_lt (by omega) (by omega)
  rw [hmod]
  unfold turned
  split
  · rename_i h
    rw [List.getElem?_append_left (by simp; omega), List.getElem?_reverse (by simp; omega), List.getElem?_take_of_lt (by simp; omega)]
    congr 1
    simp
    omega
  · rename_i h
    rw [List.getElem?_append_right (by simp; omega), List.getElem?_reverse (by simp; omega), List.getElem?_drop]
    congr 1
    simp
    omega

/-- All blocks of cells are kept. -/
def KeepC (G h : Heap) : Prop := ∀ b cs ro, hget G b = some (.cells cs ro) → hget h b = some (.cells cs ro)
theorem RfV.keepC {h h' : Heap} {R : List Rf} {z0 z1 z2 z3 z4 z5 z6 z7 z8 z9 : NV} (s : RfV h R z0 z1 z2 z3 z4 z5 z6 z7 z8 z9) (k : KeepC h h') : RfV h' R z0 z1 z2 z3 z4 z5 z6 z7 z8 z9 := by
  obtain ⟨o, b, c, cs, ro, h1, h2, h3⟩ := s
  exact ⟨o, b, c, cs, ro, h1, k _ _ _ h2, h3⟩
theorem grc_keepC {h h' : Heap} {N e : Nat} {C : List NV} {v : NV} (g : GrC h N C e v) (k : KeepC h h') : GrC h' N C e v := by
  rcases g with g | ⟨b, n, h1, h2, h3, h4⟩
  · exact .inl g
  · exact .inr ⟨b, n, h1, h2, k _ _ _ h3, h4⟩
theorem EnAt.keepC {h h' : Heap} {N : Nat} {row : List NV} {e : En} (x : EnAt h N row e) (k : KeepC h h') : EnAt h' N row e := by
  obtain ⟨mv, av, h1, h2, h3⟩ := x
  exact ⟨mv, av, h1, grc_keepC h2 k, grc_keepC h3 k⟩
theorem keepC_of {G h : Heap} {mx my : Nat} (hx : ∃ es cl, hget G mx = some (.map es cl)) (hy : ∃ es cl, hget G my = some (.map es cl)) (k : ∀ b, b < G.length → b ≠ mx → b ≠ my → hget h b = hget G b) : KeepC G h := by
  intro b cs ro hb
  obtain ⟨_, _, hx⟩ := hx
  obtain ⟨_, _, hy⟩ := hy
  rw [k b (hget_lt hb) (by rintro rfl; rw [hx] at hb; cases hb) (by rintro rfl; rw [hy] at hb; cases hb)]
  exact hb

theorem mem_prov {R : List Rf} {e : En} {t : T4} : t ∈ provL R e ↔ ∃ r ∈ R, r.tt = e.tab ∧ t = tgt r e := by
  unfold provL
  have : ∀ (R : List Rf) (out : List T4), t ∈ R.foldl (fun out r => if r.tt = e.tab ∧ ¬ tgt r e ∈ out then out ++ [tgt r e] else out) out ↔ t ∈ out ∨ ∃ r ∈ R, r.tt = e.tab ∧ t = tgt r e := by
    intro R
    induction R with
    | nil => intro out; simp
    | cons r R ih =>
      intro out
      rw [List.foldl_cons, ih]
      by_cases h1 : r.tt = e.tab
      · by_cases h2 : tgt r e ∈ out
        · rw [if_neg (by simp [h2])]
          constructor
          · rintro (h | ⟨r', h, h'⟩)
            · exact .inl h
            · exact .inr ⟨r', List.mem_cons_of_mem _ h, h'⟩
          · rintro (h | ⟨r', h, h', h''⟩)
            · exact .inl h
            · rcases List.mem_cons.1 h with rfl | h
              · left; rw [h'']; exact h2
              · exact .inr ⟨r', h, h', h''⟩
        · rw [if_pos ⟨h1, h2⟩]
          constructor
          · rintro (h | ⟨r', h, h'⟩)
            · rcases List.mem_append.1 h with h | h
              · exact .inl h
              · exact .inr ⟨r, List.mem_cons_self .., h1, List.mem_singleton.1 h⟩
            · exact .inr ⟨r', List.mem_cons_of_mem _ h, h'⟩
          · rintro (h | ⟨r', h, h', h''⟩)
            · exact .inl (List.mem_append_left _ h)
            · rcases List.mem_cons.1 h with rfl | h
              · left; rw [h'']; exact List.mem_append_right _ (List.mem_singleton.2 rfl)
              · exact .inr ⟨r', h, h', h''⟩
      · rw [if_neg (fun h => h1 h.1)]
        constructor
        · rintro (h | ⟨r', h, h'⟩)
          · exact .inl h
          · exact .inr ⟨r', List.mem_cons_of_mem _ h, h'⟩
        · rintro (h | ⟨r', h, h', h''⟩)
          · exact .inl h
          · rcases List.mem_cons.1 h with rfl | h
            · exact absurd h' h1
            · exact .inr ⟨r', h, h', h''⟩
  rw [this]; simp
theorem need1_tt {r : Rf} {e : En} {t : T4} (h : need1 r e = some t) : t.tab = r.tt ∧ t.key = r.tk := by
  unfold need1 at h
  split at h
  · split at h
    · cases h; exact ⟨rfl, rfl⟩
    · split at h
      · cases h; exact ⟨rfl, rfl⟩
      · cases h
  · cases h
theorem tkOf_inj {s t : T4} (hs : s.OK) (ht : t.OK) (h : tkOf s = tkOf t) : s = t := by
  have : s.cells = t.cells := by rw [tkOf_cells hs, tkOf_cells ht, h]
  cases s; cases t
  simp only [T4.cells, List.cons.injEq, NV.int.injEq, true_and, and_true] at this
  obtain ⟨h1, h2, h3, h4⟩ := this
  subst h1 h2 h3 h4
  rfl
/-- Is a target a key value of one of the entries? -/
def fnd (es : List En) (t : T4) : Bool := es.any fun f => decide (f.tab = t.tab ∧ mV f t.key = (t.v1, t.v2))
theorem fnd_iff {R : List Rf} {e : En} {es : List En} (hu : ∀ f ∈ es, EnU f) (hue : EnU e) {t : T4} (ht : t ∈ needsL R e) : fnd es t = true ↔ ∃ f ∈ es, tkOf t ∈ provK R f := by
  have hto : t.OK := needs_u hue R t ht
  unfold needsL at ht
  obtain ⟨r, hr, hrt⟩ := List.mem_filterMap.1 ht
  obtain ⟨e1, e2⟩ := need1_tt hrt
  unfold fnd
  rw [List.any_eq_true]
  constructor
  · rintro ⟨f, hf, h⟩
    obtain ⟨h1, h2⟩ := of_decide_eq_true h
    refine ⟨f, hf, List.mem_map.2 ⟨t, mem_prov.2 ⟨r, hr, by rw [h1, e1], ?_⟩, rfl⟩⟩
    unfold tgt
    rw [e2] at h2
    cases t
    simp only at e1 e2 h2
    rw [h2]
    simp [e1, e2]
  · rintro ⟨f, hf, h⟩
    obtain ⟨s, hs, hst⟩ := List.mem_map.1 h
    have hso := prov_u (hu f hf) R s hs
    have := tkOf_inj hso hto hst
    subst this
    obtain ⟨r', hr', h1, h2⟩ := mem_prov.1 hs
    refine ⟨f, hf, decide_eq_true ?_⟩
    rw [h2]
    unfold tgt
    exact ⟨h1.symm, rfl⟩
theorem acc_needs {R : List Rf} {k : TK} : ∀ {es : List En}, 0 < (accT R es k).1 ↔ ∃ e ∈ es, k ∈ needsK R e
  | [] => by simp [accT]
  | e :: es => by
    have ih := acc_needs (R := R) (k := k) (es := es)
    have hb : ∀ (es : List En), 0 ≤ (accT R es k).1 := by
      intro es
      induction es with
      | nil => simp [accT]
      | cons a l ih => simp only [accT, c1]; omega
    have h0 := hb es
    have hc : 0 < c1 R e k ↔ k ∈ needsK R e := by
      unfold c1
      rw [Int.natCast_pos, List.count_pos_iff]
    have hc0 : 0 ≤ c1 R e k := by unfold c1; omega
    simp only [accT]
    constructor
    · intro h
      by_cases g : 0 < c1 R e k
      · exact ⟨e, List.mem_cons_self .., hc.1 g⟩
      · obtain ⟨f, hf, h'⟩ := ih.1 (by omega)
        exact ⟨f, List.mem_cons_of_mem _ hf, h'⟩
    · rintro ⟨f, hf, h'⟩
      rcases List.mem_cons.1 hf with rfl | hf
      · have := hc.2 h'; omega
      · have := ih.2 ⟨f, hf, h'⟩; omega
theorem acc_prov {R : List Rf} {k : TK} : ∀ {es : List En}, 0 < (accT R es k).2 ↔ ∃ e ∈ es, k ∈ provK R e
  | [] => by simp [accT]
  | e :: es => by
    have ih := acc_prov (R := R) (k := k) (es := es)
    have hb : ∀ (es : List En), 0 ≤ (accT R es k).2 := by
      intro es
      induction es with
      | nil => simp [accT]
      | cons a l ih => simp only [accT, c2]; omega
    have h0 := hb es
    have hc : 0 < c2 R e k ↔ k ∈ provK R e := by
      unfold c2
      rw [Int.natCast_pos, List.count_pos_iff]
    have hc0 : 0 ≤ c2 R e k := by unfold c2; omega
    simp only [accT]
    constructor
    · intro h
      by_cases g : 0 < c2 R e k
      · exact ⟨e, List.mem_cons_self .., hc.1 g⟩
      · obtain ⟨f, hf, h'⟩ := ih.1 (by omega)
        exact ⟨f, List.mem_cons_of_mem _ hf, h'⟩
    · rintro ⟨f, hf, h'⟩
      rcases List.mem_cons.1 hf with rfl | hf
      · have := hc.2 h'; omega
      · have := ih.2 ⟨f, hf, h'⟩; omega
theorem acc_prov0 {R : List Rf} {k : TK} {es : List En} : 0 ≤ (accT R es k).2 := by
  induction es with
  | nil => simp [accT]
  | cons a l ih => simp only [accT, c2]; omega
/-- Nothing dangles exactly if every need is found. -/
theorem whole_eq {R : List Rf} {es : List En} {M L : List (TK × (Int × Int))} (hu : ∀ f ∈ es, EnU f) (r : RepT M (accT R es)) (p : L.Perm M) : (es.all fun e => (needsL R e).all (fnd es)) = decide ((dangK L).length = 0) := by
  rw [Bool.eq_iff_iff, decide_eq_true_eq, List.all_eq_true, List.length_eq_zero_iff]
  unfold dangK
  rw [List.map_eq_nil_iff, List.filter_eq_nil_iff]
  constructor
  · rintro h ⟨k, v⟩ hx hd
    have hm := (r.mem k v).1 (p.mem_iff.1 hx)
    unfold dangB at hd
    obtain ⟨d1, d2⟩ := of_decide_eq_true hd
    simp only at d1 d2
    rw [← hm.1] at d1 d2
    obtain ⟨e, he, hk⟩ := acc_needs.1 d1
    obtain ⟨t, ht, rfl⟩ := List.mem_map.1 hk
    have := List.all_eq_true.1 (h e he) t ht
    have := acc_prov.2 ((fnd_iff hu (hu e he) ht).1 this)
    omega
  · intro h e he
    rw [List.all_eq_true]
    intro t ht
    rw [fnd_iff hu (hu e he) ht]
    refine acc_prov.1 ?_
    have d1 : 0 < (accT R es (tkOf t)).1 := acc_needs.2 ⟨e, he, List.mem_map.2 ⟨t, ht, rfl⟩⟩
    have hmem : (tkOf t, accT R es (tkOf t)) ∈ M := (r.mem _ _).2 ⟨rfl, fun e => by rw [e] at d1; simp at d1⟩
    have hd := h _ (p.mem_iff.2 hmem)
    unfold dangB at hd
    simp only [decide_eq_true_eq, not_and] at hd
    have := hd d1
    have := acc_prov0 (R := R) (k := tkOf t) (es := es)
    omega
def d9 : NCode := (.seq
 (.ops [
 ⟨(some 85), .move (.tmp 8), none⟩,
 ⟨(some 86), .lenSl (.tmp 85), none⟩,
 ⟨(some 87), .move (.const (.int .i64 0)), none⟩])
 (.block 6
 (.loop
 (.seq
 (.ops [
 ⟨(some 88), .bin .lss (.tmp 87) (.tmp 86), none⟩])
 (.seq
 (.cond (.tmp 88)
 .skip
 (.exit 6))
 (.seq
 (.block 7
 (.seq
 (.ops [
 ⟨(some 89), .idxSl (.tmp 85) (.tmp 87) 5, none⟩,
 ⟨(some 90), .load 5 true (.tmp 89), none⟩,
 ⟨(some 19), .alloc [(.int .i64 0), (.slice none 0 (.fix 0)), (.int .i64 0), (.int .i64 0), (.slice none 0 (.fix 0))], none⟩,
 ⟨none, .store 5 (.tmp 19) (.tmp 90), none⟩])
 (.draw 0 [
 ⟨0, ⟨(some 91), .move (.tmp 17), none⟩, [], 0⟩,
 ⟨1, ⟨(some 92), .move (.tmp 91), none⟩, [0], 0⟩,
 ⟨2, ⟨(some 93), .off (.tmp 19) 0, (some (92, false))⟩, [1, 0], 0⟩,
 ⟨3, ⟨(some 94), .load 1 false (.tmp 93), (some (92, false))⟩, [2, 1, 0], 0⟩,
 ⟨4, ⟨(some 95), .off (.tmp 15) 4, (some (92, false))⟩, [1, 0], 0⟩,
 ⟨5, ⟨(some 96), .load 1 false (.tmp 95), (some (92, false))⟩, [4, 1, 0], 0⟩,
 ⟨6, ⟨(some 97), .bin .eql (.tmp 94) (.tmp 96), (some (92, false))⟩, [3, 2, 1, 0, 5, 4], 0⟩,
 ⟨7, ⟨(some 98), .move (.tmp 97), (some (92, false))⟩, [6, 3, 2, 1, 0, 5, 4], 0⟩,
 ⟨8, ⟨(some 99), .off (.tmp 19) 1, (some (98, true))⟩, [7, 6, 3, 2, 1, 0, 5, 4], 0⟩,
 ⟨9, ⟨(some 100), .load 1 false (.tmp 99), (some (98, true))⟩, [8, 7, 6, 3, 2, 1, 0, 5, 4], 0⟩,
 ⟨10, ⟨(some 101), .off (.tmp 15) 5, (some (98, true))⟩, [7, 6, 3, 2, 1, 0, 5, 4], 0⟩,
 ⟨11, ⟨(some 102), .load 1 false (.tmp 101), (some (98, true))⟩, [10, 7, 6, 3, 2, 1, 0, 5, 4], 0⟩,
 ⟨12, ⟨(some 103), .idxSl (.tmp 100) (.tmp 102) 8, (some (98, true))⟩, [9, 8, 7, 6, 3, 2, 1, 0, 5, 4, 11, 10], 0⟩,
 ⟨13, ⟨(some 104), .off (.tmp 103) 1, (some (98, true))⟩, [12, 9, 8, 7, 6, 3, 2, 1, 0, 5, 4, 11, 10], 0⟩,
 ⟨14, ⟨(some 105), .load 2 true (.tmp 104), (some (98, true))⟩, [13, 12, 9, 8, 7, 6, 3, 2, 1, 0, 5, 4, 11, 10], 0⟩,
 ⟨15, ⟨(some 106), .load 2 true (.tmp 16), (some (98, true))⟩, [7, 6, 3, 2, 1, 0, 5, 4], 0⟩,
 ⟨16, ⟨(some 107), .eq false true [.int, .int] (.tmp 105) (.tmp 106), (some (98, true))⟩, [14, 13, 12, 9, 8, 7, 6, 3, 2, 1, 0, 5, 4, 11, 10, 15], 0⟩,
 ⟨17, ⟨(some 108), .pick (.tmp 98) (.tmp 107) (.const (.bool false)), (some (92, false))⟩, [7, 6, 3, 2, 1, 0, 5, 4, 16, 14, 13, 12, 9, 8, 11, 10, 15], 0⟩,
 ⟨18, ⟨(some 109), .pick (.tmp 92) (.const (.bool true)) (.tmp 108), none⟩, [1, 0, 17, 7, 6, 3, 2, 5, 4, 16, 14, 13, 12, 9, 8, 11, 10, 15], 0⟩,
 ⟨19, ⟨(some 17), .move (.tmp 109), none⟩, [18, 1, 0, 17, 7, 6, 3, 2, 5, 4, 16, 14, 13, 12, 9, 8, 11, 10, 15], 0⟩])))
 (.ops [
 ⟨(some 110), .bin .add (.tmp 87) (.const (.int .i64 1)), none⟩,
 ⟨(some 87), .move (.tmp 110), none⟩])))))))
theorem d9_eq : d9 = (.seq
 (.ops [
 ⟨(some 85), .move (.tmp 8), none⟩,
 ⟨(some 86), .lenSl (.tmp 85), none⟩,
 ⟨(some 87), .move (.const (.int .i64 0)), none⟩])
 (.block 6
 (.loop
 (.seq
 (.ops [
 ⟨(some 88), .bin .lss (.tmp 87) (.tmp 86), none⟩])
 (.seq
 (.cond (.tmp 88)
 .skip
 (.exit 6))
 (.seq
 (.block 7
 (.seq
 (.ops [
 ⟨(some 89), .idxSl (.tmp 85) (.tmp 87) 5, none⟩,
 ⟨(some 90), .load 5 true (.tmp 89), none⟩,
 ⟨(some 19), .alloc [(.int .i64 0), (.slice none 0 (.fix 0)), (.int .i64 0), (.int .i64 0), (.slice none 0 (.fix 0))], none⟩,
 ⟨none, .store 5 (.tmp 19) (.tmp 90), none⟩])
 (.draw 0 [
 ⟨0, ⟨(some 91), .move (.tmp 17), none⟩, [], 0⟩,
 ⟨1, ⟨(some 92), .move (.tmp 91), none⟩, [0], 0⟩,
 ⟨2, ⟨(some 93), .off (.tmp 19) 0, (some (92, false))⟩, [1, 0], 0⟩,
 ⟨3, ⟨(some 94), .load 1 false (.tmp 93), (some (92, false))⟩, [2, 1, 0], 0⟩,
 ⟨4, ⟨(some 95), .off (.tmp 15) 4, (some (92, false))⟩, [1, 0], 0⟩,
 ⟨5, ⟨(some 96), .load 1 false (.tmp 95), (some (92, false))⟩, [4, 1, 0], 0⟩,
 ⟨6, ⟨(some 97), .bin .eql (.tmp 94) (.tmp 96), (some (92, false))⟩, [3, 2, 1, 0, 5, 4], 0⟩,
 ⟨7, ⟨(some 98), .move (.tmp 97), (some (92, false))⟩, [6, 3, 2, 1, 0, 5, 4], 0⟩,
 ⟨8, ⟨(some 99), .off (.tmp 19) 1, (some (98, true))⟩, [7, 6, 3, 2, 1, 0, 5, 4], 0⟩,
 ⟨9, ⟨(some 100), .load 1 false (.tmp 99), (some (98, true))⟩, [8, 7, 6, 3, 2, 1, 0, 5, 4], 0⟩,
 ⟨10, ⟨(some 101), .off (.tmp 15) 5, (some (98, true))⟩, [7, 6, 3, 2, 1, 0, 5, 4], 0⟩,
 ⟨11, ⟨(some 102), .load 1 false (.tmp 101), (some (98, true))⟩, [10, 7, 6, 3, 2, 1, 0, 5, 4], 0⟩,
 ⟨12, ⟨(some 103), .idxSl (.tmp 100) (.tmp 102) 8, (some (98, true))⟩, [9, 8, 7, 6, 3, 2, 1, 0, 5, 4, 11, 10], 0⟩,
 ⟨13, ⟨(some 104), .off (.tmp 103) 1, (some (98, true))⟩, [12, 9, 8, 7, 6, 3, 2, 1, 0, 5, 4, 11, 10], 0⟩,
 ⟨14, ⟨(some 105), .load 2 true (.tmp 104), (some (98, true))⟩, [13, 12, 9, 8, 7, 6, 3, 2, 1, 0, 5, 4, 11, 10], 0⟩,
 ⟨15, ⟨(some 106), .load 2 true (.tmp 16), (some (98, true))⟩, [7, 6, 3, 2, 1, 0, 5, 4], 0⟩,
 ⟨16, ⟨(some 107), .eq false true [.int, .int] (.tmp 105) (.tmp 106), (some (98, true))⟩, [14, 13, 12, 9, 8, 7, 6, 3, 2, 1, 0, 5, 4, 11, 10, 15], 0⟩,
 ⟨17, ⟨(some 108), .pick (.tmp 98) (.tmp 107) (.const (.bool false)), (some (92, false))⟩, [7, 6, 3, 2, 1, 0, 5, 4, 16, 14, 13, 12, 9, 8, 11, 10, 15], 0⟩,
 ⟨18, ⟨(some 109), .pick (.tmp 92) (.const (.bool true)) (.tmp 108), none⟩, [1, 0, 17, 7, 6, 3, 2, 5, 4, 16, 14, 13, 12, 9, 8, 11, 10, 15], 0⟩,
 ⟨19, ⟨(some 17), .move (.tmp 109), none⟩, [18, 1, 0, 17, 7, 6, 3, 2, 5, 4, 16, 14, 13, 12, 9, 8, 11, 10, 15], 0⟩])))
 (.ops [
 ⟨(some 110), .bin .add (.tmp 87) (.const (.int .i64 1)), none⟩,
 ⟨(some 87), .move (.tmp 110), none⟩]))))))) := rfl
def d7 : NCode := (.seq
 (.ops [
 ⟨(some 11), .move (.const (.bool true)), none⟩])
 (.seq
 (.seq
 (.ops [
 ⟨(some 39), .move (.tmp 8), none⟩,
 ⟨(some 40), .lenSl (.tmp 39), none⟩,
 ⟨(some 41), .move (.const (.int .i64 0)), none⟩])
 (.block 2
 (.loop
 (.seq
 (.ops [
 ⟨(some 42), .bin .lss (.tmp 41) (.tmp 40), none⟩])
 (.seq
 (.cond (.tmp 42)
 .skip
 (.exit 2))
 (.seq
 (.block 3
 (.seq
 (.ops [
 ⟨(some 43), .idxSl (.tmp 39) (.tmp 41) 5, none⟩,
 ⟨(some 44), .load 5 true (.tmp 43), none⟩,
 ⟨(some 13), .alloc [(.int .i64 0), (.slice none 0 (.fix 0)), (.int .i64 0), (.int .i64 0), (.slice none 0 (.fix 0))], none⟩,
 ⟨none, .store 5 (.tmp 13) (.tmp 44), none⟩])
 (.seq
 (.ops [
 ⟨(some 45), .off (.tmp 5) 7, none⟩,
 ⟨(some 46), .load 1 false (.tmp 45), none⟩,
 ⟨(some 47), .lenSl (.tmp 46), none⟩,
 ⟨(some 48), .move (.const (.int .i64 0)), none⟩])
 (.block 4
 (.loop
 (.seq
 (.ops [
 ⟨(some 49), .bin .lss (.tmp 48) (.tmp 47), none⟩])
 (.seq
 (.cond (.tmp 49)
 .skip
 (.exit 4))
 (.seq
 (.block 5
 (.seq
 (.ops [
 ⟨(some 50), .idxSl (.tmp 46) (.tmp 48) 6, none⟩,
 ⟨(some 51), .load 6 true (.tmp 50), none⟩,
 ⟨(some 15), .alloc [(.int .i64 0), (.int .i64 0), (.int .i64 0), (.int .i64 0), (.int .i64 0), (.int .i64 0)], none⟩,
 ⟨none, .store 6 (.tmp 15) (.tmp 51), none⟩])
 (.seq
 (.seq
 (.ops [
 ⟨(some 52), .off (.tmp 15) 0, none⟩,
 ⟨(some 53), .load 1 false (.tmp 52), none⟩,
 ⟨(some 54), .off (.tmp 13) 0, none⟩,
 ⟨(some 55), .load 1 false (.tmp 54), none⟩,
 ⟨(some 56), .bin .neq (.tmp 53) (.tmp 55), none⟩,
 ⟨(some 57), .move (.tmp 56), none⟩,
 ⟨(some 58), .off (.tmp 15) 2, (some (57, false))⟩,
 ⟨(some 59), .load 1 false (.tmp 58), (some (57, false))⟩,
 ⟨(some 60), .bin .neq (.tmp 59) (.const (.int .i64 0)), (some (57, false))⟩,
 ⟨(some 61), .move (.tmp 60), (some (57, false))⟩,
 ⟨(some 62), .off (.tmp 15) 2, (some (61, true))⟩,
 ⟨(some 63), .load 1 false (.tmp 62), (some (61, true))⟩,
 ⟨(some 64), .off (.tmp 13) 3, (some (61, true))⟩,
 ⟨(some 65), .load 1 false (.tmp 64), (some (61, true))⟩,
 ⟨(some 66), .bin .neq (.tmp 63) (.tmp 65), (some (61, true))⟩,
 ⟨(some 67), .pick (.tmp 61) (.tmp 66) (.const (.bool false)), (some (57, false))⟩,
 ⟨(some 68), .pick (.tmp 57) (.const (.bool true)) (.tmp 67), none⟩])
 (.cond (.tmp 68)
 (.exit 5)
 .skip))
 (.seq
 (.ops [
 ⟨(some 16), .alloc [(.int .u64 0), (.int .u64 0)], none⟩])
 (.seq
 (.seq
 (.ops [
 ⟨(some 69), .off (.tmp 15) 2, none⟩,
 ⟨(some 70), .load 1 false (.tmp 69), none⟩,
 ⟨(some 71), .bin .eql (.tmp 70) (.const (.int .i64 0)), none⟩])
 (.cond (.tmp 71)
 (.ops [
 ⟨(some 72), .off (.tmp 13) 1, none⟩,
 ⟨(some 73), .load 1 false (.tmp 72), none⟩,
 ⟨(some 74), .off (.tmp 15) 1, none⟩,
 ⟨(some 75), .load 1 false (.tmp 74), none⟩,
 ⟨(some 76), .idxSl (.tmp 73) (.tmp 75) 8, none⟩,
 ⟨(some 77), .off (.tmp 76) 1, none⟩,
 ⟨(some 78), .load 2 true (.tmp 77), none⟩,
 ⟨none, .store 2 (.tmp 16) (.tmp 78), none⟩])
 (.ops [
 ⟨(some 79), .off (.tmp 13) 4, none⟩,
 ⟨(some 80), .load 1 false (.tmp 79), none⟩,
 ⟨(some 81), .off (.tmp 15) 3, none⟩,
 ⟨(some 82), .load 1 false (.tmp 81), none⟩,
 ⟨(some 83), .idxSl (.tmp 80) (.tmp 82) 2, none⟩,
 ⟨(some 84), .load 2 true (.tmp 83), none⟩,
 ⟨none, .store 2 (.tmp 16) (.tmp 84), none⟩])))
 (.seq
 (.ops [
 ⟨(some 17), .move (.const (.bool false)), none⟩])
 (.seq
 d9
 (.ops [
 ⟨(some 111), .move (.tmp 11), none⟩,
 ⟨(some 112), .move (.tmp 111), none⟩,
 ⟨(some 113), .move (.tmp 17), (some (112, true))⟩,
 ⟨(some 114), .pick (.tmp 112) (.tmp 113) (.const (.bool false)), none⟩,
 ⟨(some 11), .move (.tmp 114), none⟩]))))))))
 (.ops [
 ⟨(some 115), .bin .add (.tmp 48) (.const (.int .i64 1)), none⟩,
 ⟨(some 48), .move (.tmp 115), none⟩])))))))))
 (.ops [
 ⟨(some 116), .bin .add (.tmp 41) (.const (.int .i64 1)), none⟩,
 ⟨(some 41), .move (.tmp 116), none⟩])))))))
 (.seq
 (.ops [
 ⟨(some 117), .move (.tmp 11), none⟩,
 ⟨(some 118), .move (.tmp 7), none⟩,
 ⟨(some 119), .call 18 [(.tmp 118)], none⟩,
 ⟨(some 120), .lenSl (.tmp 119), none⟩,
 ⟨(some 121), .bin .eql (.tmp 120) (.const (.int .i64 0)), none⟩,
 ⟨(some 122), .eq false false [.bool] (.tmp 117) (.tmp 121), none⟩,
 ⟨(some 123), .move (.tmp 122), none⟩,
 ⟨(some 124), .call 15 [], (some (123, true))⟩,
 ⟨(some 125), .pick (.tmp 123) (.tmp 124) (.const (.bool false)), none⟩,
 ⟨(some 4), .move (.tmp 125), none⟩])
 .ret)))
theorem d7_eq : d7 = (.seq
 (.ops [
 ⟨(some 11), .move (.const (.bool true)), none⟩])
 (.seq
 (.seq
 (.ops [
 ⟨(some 39), .move (.tmp 8), none⟩,
 ⟨(some 40), .lenSl (.tmp 39), none⟩,
 ⟨(some 41), .move (.const (.int .i64 0)), none⟩])
 (.block 2
 (.loop
 (.seq
 (.ops [
 ⟨(some 42), .bin .lss (.tmp 41) (.tmp 40), none⟩])
 (.seq
 (.cond (.tmp 42)
 .skip
 (.exit 2))
 (.seq
 (.block 3
 (.seq
 (.ops [
 ⟨(some 43), .idxSl (.tmp 39) (.tmp 41) 5, none⟩,
 ⟨(some 44), .load 5 true (.tmp 43), none⟩,
 ⟨(some 13), .alloc [(.int .i64 0), (.slice none 0 (.fix 0)), (.int .i64 0), (.int .i64 0), (.slice none 0 (.fix 0))], none⟩,
 ⟨none, .store 5 (.tmp 13) (.tmp 44), none⟩])
 (.seq
 (.ops [
 ⟨(some 45), .off (.tmp 5) 7, none⟩,
 ⟨(some 46), .load 1 false (.tmp 45), none⟩,
 ⟨(some 47), .lenSl (.tmp 46), none⟩,
 ⟨(some 48), .move (.const (.int .i64 0)), none⟩])
 (.block 4
 (.loop
 (.seq
 (.ops [
 ⟨(some 49), .bin .lss (.tmp 48) (.tmp 47), none⟩])
 (.seq
 (.cond (.tmp 49)
 .skip
 (.exit 4))
 (.seq
 (.block 5
 (.seq
 (.ops [
 ⟨(some 50), .idxSl (.tmp 46) (.tmp 48) 6, none⟩,
 ⟨(some 51), .load 6 true (.tmp 50), none⟩,
 ⟨(some 15), .alloc [(.int .i64 0), (.int .i64 0), (.int .i64 0), (.int .i64 0), (.int .i64 0), (.int .i64 0)], none⟩,
 ⟨none, .store 6 (.tmp 15) (.tmp 51), none⟩])
 (.seq
 (.seq
 (.ops [
 ⟨(some 52), .off (.tmp 15) 0, none⟩,
 ⟨(some 53), .load 1 false (.tmp 52), none⟩,
 ⟨(some 54), .off (.tmp 13) 0, none⟩,
 ⟨(some 55), .load 1 false (.tmp 54), none⟩,
 ⟨(some 56), .bin .neq (.tmp 53) (.tmp 55), none⟩,
 ⟨(some 57), .move (.tmp 56), none⟩,
 ⟨(some 58), .off (.tmp 15) 2, (some (57, false))⟩,
 ⟨(some 59), .load 1 false (.tmp 58), (some (57, false))⟩,
 ⟨(some 60), .bin .neq (.tmp 59) (.const (.int .i64 0)), (some (57, false))⟩,
 ⟨(some 61), .move (.tmp 60), (some (57, false))⟩,
 ⟨(some 62), .off (.tmp 15) 2, (some (61, true))⟩,
 ⟨(some 63), .load 1 false (.tmp 62), (some (61, true))⟩,
 ⟨(some 64), .off (.tmp 13) 3, (some (61, true))⟩,
 ⟨(some 65), .load 1 false (.tmp 64), (some (61, true))⟩,
 ⟨(some 66), .bin .neq (.tmp 63) (.tmp 65), (some (61, true))⟩,
 ⟨(some 67), .pick (.tmp 61) (.tmp 66) (.const (.bool false)), (some (57, false))⟩,
 ⟨(some 68), .pick (.tmp 57) (.const (.bool true)) (.tmp 67), none⟩])
 (.cond (.tmp 68)
 (.exit 5)
 .skip))
 (.seq
 (.ops [
 ⟨(some 16), .alloc [(.int .u64 0), (.int .u64 0)], none⟩])
 (.seq
 (.seq
 (.ops [
 ⟨(some 69), .off (.tmp 15) 2, none⟩,
 ⟨(some 70), .load 1 false (.tmp 69), none⟩,
 ⟨(some 71), .bin .eql (.tmp 70) (.const (.int .i64 0)), none⟩])
 (.cond (.tmp 71)
 (.ops [
 ⟨(some 72), .off (.tmp 13) 1, none⟩,
 ⟨(some 73), .load 1 false (.tmp 72), none⟩,
 ⟨(some 74), .off (.tmp 15) 1, none⟩,
 ⟨(some 75), .load 1 false (.tmp 74), none⟩,
 ⟨(some 76), .idxSl (.tmp 73) (.tmp 75) 8, none⟩,
 ⟨(some 77), .off (.tmp 76) 1, none⟩,
 ⟨(some 78), .load 2 true (.tmp 77), none⟩,
 ⟨none, .store 2 (.tmp 16) (.tmp 78), none⟩])
 (.ops [
 ⟨(some 79), .off (.tmp 13) 4, none⟩,
 ⟨(some 80), .load 1 false (.tmp 79), none⟩,
 ⟨(some 81), .off (.tmp 15) 3, none⟩,
 ⟨(some 82), .load 1 false (.tmp 81), none⟩,
 ⟨(some 83), .idxSl (.tmp 80) (.tmp 82) 2, none⟩,
 ⟨(some 84), .load 2 true (.tmp 83), none⟩,
 ⟨none, .store 2 (.tmp 16) (.tmp 84), none⟩])))
 (.seq
 (.ops [
 ⟨(some 17), .move (.const (.bool false)), none⟩])
 (.seq
 d9
 (.ops [
 ⟨(some 111), .move (.tmp 11), none⟩,
 ⟨(some 112), .move (.tmp 111), none⟩,
 ⟨(some 113), .move (.tmp 17), (some (112, true))⟩,
 ⟨(some 114), .pick (.tmp 112) (.tmp 113) (.const (.bool false)), none⟩,
 ⟨(some 11), .move (.tmp 114), none⟩]))))))))
 (.ops [
 ⟨(some 115), .bin .add (.tmp 48) (.const (.int .i64 1)), none⟩,
 ⟨(some 48), .move (.tmp 115), none⟩])))))))))
 (.ops [
 ⟨(some 116), .bin .add (.tmp 41) (.const (.int .i64 1)), none⟩,
 ⟨(some 41), .move (.tmp 116), none⟩])))))))
 (.seq
 (.ops [
 ⟨(some 117), .move (.tmp 11), none⟩,
 ⟨(some 118), .move (.tmp 7), none⟩,
 ⟨(some 119), .call 18 [(.tmp 118)], none⟩,
 ⟨(some 120), .lenSl (.tmp 119), none⟩,
 ⟨(some 121), .bin .eql (.tmp 120) (.const (.int .i64 0)), none⟩,
 ⟨(some 122), .eq false false [.bool] (.tmp 117) (.tmp 121), none⟩,
 ⟨(some 123), .move (.tmp 122), none⟩,
 ⟨(some 124), .call 15 [], (some (123, true))⟩,
 ⟨(some 125), .pick (.tmp 123) (.tmp 124) (.const (.bool false)), none⟩,
 ⟨(some 4), .move (.tmp 125), none⟩])
 .ret))) := rfl
theorem d7_code : d7 = (.seq
 (.ops [
 ⟨(some 11), .move (.const (.bool true)), none⟩])
 (.seq
 (.seq
 (.ops [
 ⟨(some 39), .move (.tmp 8), none⟩,
 ⟨(some 40), .lenSl (.tmp 39), none⟩,
 ⟨(some 41), .move (.const (.int .i64 0)), none⟩])
 (.block 2
 (.loop
 (.seq
 (.ops [
 ⟨(some 42), .bin .lss (.tmp 41) (.tmp 40), none⟩])
 (.seq
 (.cond (.tmp 42)
 .skip
 (.exit 2))
 (.seq
 (.block 3
 (.seq
 (.ops [
 ⟨(some 43), .idxSl (.tmp 39) (.tmp 41) 5, none⟩,
 ⟨(some 44), .load 5 true (.tmp 43), none⟩,
 ⟨(some 13), .alloc [(.int .i64 0), (.slice none 0 (.fix 0)), (.int .i64 0), (.int .i64 0), (.slice none 0 (.fix 0))], none⟩,
 ⟨none, .store 5 (.tmp 13) (.tmp 44), none⟩])
 (.seq
 (.ops [
 ⟨(some 45), .off (.tmp 5) 7, none⟩,
 ⟨(some 46), .load 1 false (.tmp 45), none⟩,
 ⟨(some 47), .lenSl (.tmp 46), none⟩,
 ⟨(some 48), .move (.const (.int .i64 0)), none⟩])
 (.block 4
 (.loop
 (.seq
 (.ops [
 ⟨(some 49), .bin .lss (.tmp 48) (.tmp 47), none⟩])
 (.seq
 (.cond (.tmp 49)
 .skip
 (.exit 4))
 (.seq
 (.block 5
 (.seq
 (.ops [
 ⟨(some 50), .idxSl (.tmp 46) (.tmp 48) 6, none⟩,
 ⟨(some 51), .load 6 true (.tmp 50), none⟩,
 ⟨(some 15), .alloc [(.int .i64 0), (.int .i64 0), (.int .i64 0), (.int .i64 0), (.int .i64 0), (.int .i64 0)], none⟩,
 ⟨none, .store 6 (.tmp 15) (.tmp 51), none⟩])
 (.seq
 (.seq
 (.ops [
 ⟨(some 52), .off (.tmp 15) 0, none⟩,
 ⟨(some 53), .load 1 false (.tmp 52), none⟩,
 ⟨(some 54), .off (.tmp 13) 0, none⟩,
 ⟨(some 55), .load 1 false (.tmp 54), none⟩,
 ⟨(some 56), .bin .neq (.tmp 53) (.tmp 55), none⟩,
 ⟨(some 57), .move (.tmp 56), none⟩,
 ⟨(some 58), .off (.tmp 15) 2, (some (57, false))⟩,
 ⟨(some 59), .load 1 false (.tmp 58), (some (57, false))⟩,
 ⟨(some 60), .bin .neq (.tmp 59) (.const (.int .i64 0)), (some (57, false))⟩,
 ⟨(some 61), .move (.tmp 60), (some (57, false))⟩,
 ⟨(some 62), .off (.tmp 15) 2, (some (61, true))⟩,
 ⟨(some 63), .load 1 false (.tmp 62), (some (61, true))⟩,
 ⟨(some 64), .off (.tmp 13) 3, (some (61, true))⟩,
 ⟨(some 65), .load 1 false (.tmp 64), (some (61, true))⟩,
 ⟨(some 66), .bin .neq (.tmp 63) (.tmp 65), (some (61, true))⟩,
 ⟨(some 67), .pick (.tmp 61) (.tmp 66) (.const (.bool false)), (some (57, false))⟩,
 ⟨(some 68), .pick (.tmp 57) (.const (.bool true)) (.tmp 67), none⟩])
 (.cond (.tmp 68)
 (.exit 5)
 .skip))
 (.seq
 (.ops [
 ⟨(some 16), .alloc [(.int .u64 0), (.int .u64 0)], none⟩])
 (.seq
 (.seq
 (.ops [
 ⟨(some 69), .off (.tmp 15) 2, none⟩,
 ⟨(some 70), .load 1 false (.tmp 69), none⟩,
 ⟨(some 71), .bin .eql (.tmp 70) (.const (.int .i64 0)), none⟩])
 (.cond (.tmp 71)
 (.ops [
 ⟨(some 72), .off (.tmp 13) 1, none⟩,
 ⟨(some 73), .load 1 false (.tmp 72), none⟩,
 ⟨(some 74), .off (.tmp 15) 1, none⟩,
 ⟨(some 75), .load 1 false (.tmp 74), none⟩,
 ⟨(some 76), .idxSl (.tmp 73) (.tmp 75) 8, none⟩,
 ⟨(some 77), .off (.tmp 76) 1, none⟩,
 ⟨(some 78), .load 2 true (.tmp 77), none⟩,
 ⟨none, .store 2 (.tmp 16) (.tmp 78), none⟩])
 (.ops [
 ⟨(some 79), .off (.tmp 13) 4, none⟩,
 ⟨(some 80), .load 1 false (.tmp 79), none⟩,
 ⟨(some 81), .off (.tmp 15) 3, none⟩,
 ⟨(some 82), .load 1 false (.tmp 81), none⟩,
 ⟨(some 83), .idxSl (.tmp 80) (.tmp 82) 2, none⟩,
 ⟨(some 84), .load 2 true (.tmp 83), none⟩,
 ⟨none, .store 2 (.tmp 16) (.tmp 84), none⟩])))
 (.seq
 (.ops [
 ⟨(some 17), .move (.const (.bool false)), none⟩])
 (.seq
 (.seq
 (.ops [
 ⟨(some 85), .move (.tmp 8), none⟩,
 ⟨(some 86), .lenSl (.tmp 85), none⟩,
 ⟨(some 87), .move (.const (.int .i64 0)), none⟩])
 (.block 6
 (.loop
 (.seq
 (.ops [
 ⟨(some 88), .bin .lss (.tmp 87) (.tmp 86), none⟩])
 (.seq
 (.cond (.tmp 88)
 .skip
 (.exit 6))
 (.seq
 (.block 7
 (.seq
 (.ops [
 ⟨(some 89), .idxSl (.tmp 85) (.tmp 87) 5, none⟩,
 ⟨(some 90), .load 5 true (.tmp 89), none⟩,
 ⟨(some 19), .alloc [(.int .i64 0), (.slice none 0 (.fix 0)), (.int .i64 0), (.int .i64 0), (.slice none 0 (.fix 0))], none⟩,
 ⟨none, .store 5 (.tmp 19) (.tmp 90), none⟩])
 (.draw 0 [
 ⟨0, ⟨(some 91), .move (.tmp 17), none⟩, [], 0⟩,
 ⟨1, ⟨(some 92), .move (.tmp 91), none⟩, [0], 0⟩,
 ⟨2, ⟨(some 93), .off (.tmp 19) 0, (some (92, false))⟩, [1, 0], 0⟩,
 ⟨3, ⟨(some 94), .load 1 false (.tmp 93), (some (92, false))⟩, [2, 1, 0], 0⟩,
 ⟨4, ⟨(some 95), .off (.tmp 15) 4, (some (92, false))⟩, [1, 0], 0⟩,
 ⟨5, ⟨(some 96), .load 1 false (.tmp 95), (some (92, false))⟩, [4, 1, 0], 0⟩,
 ⟨6, ⟨(some 97), .bin .eql (.tmp 94) (.tmp 96), (some (92, false))⟩, [3, 2, 1, 0, 5, 4], 0⟩,
 ⟨7, ⟨(some 98), .move (.tmp 97), (some (92, false))⟩, [6, 3, 2, 1, 0, 5, 4], 0⟩,
 ⟨8, ⟨(some 99), .off (.tmp 19) 1, (some (98, true))⟩, [7, 6, 3, 2, 1, 0, 5, 4], 0⟩,
 ⟨9, ⟨(some 100), .load 1 false (.tmp 99), (some (98, true))⟩, [8, 7, 6, 3, 2, 1, 0, 5, 4], 0⟩,
 ⟨10, ⟨(some 101), .off (.tmp 15) 5, (some (98, true))⟩, [7, 6, 3, 2, 1, 0, 5, 4], 0⟩,
 ⟨11, ⟨(some 102), .load 1 false (.tmp 101), (some (98, true))⟩, [10, 7, 6, 3, 2, 1, 0, 5, 4], 0⟩,
 ⟨12, ⟨(some 103), .idxSl (.tmp 100) (.tmp 102) 8, (some (98, true))⟩, [9, 8, 7, 6, 3, 2, 1, 0, 5, 4, 11, 10], 0⟩,
 ⟨13, ⟨(some 104), .off (.tmp 103) 1, (some (98, true))⟩, [12, 9, 8, 7, 6, 3, 2, 1, 0, 5, 4, 11, 10], 0⟩,
 ⟨14, ⟨(some 105), .load 2 true (.tmp 104), (some (98, true))⟩, [13, 12, 9, 8, 7, 6, 3, 2, 1, 0, 5, 4, 11, 10], 0⟩,
 ⟨15, ⟨(some 106), .load 2 true (.tmp 16), (some (98, true))⟩, [7, 6, 3, 2, 1, 0, 5, 4], 0⟩,
 ⟨16, ⟨(some 107), .eq false true [.int, .int] (.tmp 105) (.tmp 106), (some (98, true))⟩, [14, 13, 12, 9, 8, 7, 6, 3, 2, 1, 0, 5, 4, 11, 10, 15], 0⟩,
 ⟨17, ⟨(some 108), .pick (.tmp 98) (.tmp 107) (.const (.bool false)), (some (92, false))⟩, [7, 6, 3, 2, 1, 0, 5, 4, 16, 14, 13, 12, 9, 8, 11, 10, 15], 0⟩,
 ⟨18, ⟨(some 109), .pick (.tmp 92) (.const (.bool true)) (.tmp 108), none⟩, [1, 0, 17, 7, 6, 3, 2, 5, 4, 16, 14, 13, 12, 9, 8, 11, 10, 15], 0⟩,
 ⟨19, ⟨(some 17), .move (.tmp 109), none⟩, [18, 1, 0, 17, 7, 6, 3, 2, 5, 4, 16, 14, 13, 12, 9, 8, 11, 10, 15], 0⟩])))
 (.ops [
 ⟨(some 110), .bin .add (.tmp 87) (.const (.int .i64 1)), none⟩,
 ⟨(some 87), .move (.tmp 110), none⟩])))))))
 (.ops [
 ⟨(some 111), .move (.tmp 11), none⟩,
 ⟨(some 112), .move (.tmp 111), none⟩,
 ⟨(some 113), .move (.tmp 17), (some (112, true))⟩,
 ⟨(some 114), .pick (.tmp 112) (.tmp 113) (.const (.bool false)), none⟩,
 ⟨(some 11), .move (.tmp 114), none⟩]))))))))
 (.ops [
 ⟨(some 115), .bin .add (.tmp 48) (.const (.int .i64 1)), none⟩,
 ⟨(some 48), .move (.tmp 115), none⟩])))))))))
 (.ops [
 ⟨(some 116), .bin .add (.tmp 41) (.const (.int .i64 1)), none⟩,
 ⟨(some 41), .move (.tmp 116), none⟩])))))))
 (.seq
 (.ops [
 ⟨(some 117), .move (.tmp 11), none⟩,
 ⟨(some 118), .move (.tmp 7), none⟩,
 ⟨(some 119), .call 18 [(.tmp 118)], none⟩,
 ⟨(some 120), .lenSl (.tmp 119), none⟩,
 ⟨(some 121), .bin .eql (.tmp 120) (.const (.int .i64 0)), none⟩,
 ⟨(some 122), .eq false false [.bool] (.tmp 117) (.tmp 121), none⟩,
 ⟨(some 123), .move (.tmp 122), none⟩,
 ⟨(some 124), .call 15 [], (some (123, true))⟩,
 ⟨(some 125), .pick (.tmp 123) (.tmp 124) (.const (.bool false)), none⟩,
 ⟨(some 4), .move (.tmp 125), none⟩])
 .ret))) := rfl

theorem fwp_partJ {S : Env} {a : NCode} {K : FK} {F : FF} {h : Heap} (J : FF → Heap → Prop) (h1 : fwpT S a (joinK J) F h .mk) (h2 : ∀ F h, J F h → K .nrm F h) : fwpT S a K F h .mk := by
  refine fwp_mono a h1 ?_
  intro c F h hc
  cases c with
  | nrm => exact h2 F h hc
  | exit i => exact hc.elim
  | ret => exact hc.elim
theorem fnd_snoc (l : List En) (f : En) (t : T4) : fnd (l ++ [f]) t = (fnd l t || decide (f.tab = t.tab ∧ mV f t.key = (t.v1, t.v2))) := by
  unfold fnd; simp [List.any_append]

/-- Entries that lie in a heap as a list's rows. -/
structure RowsAt (G : Heap) (N : Nat) (rows : List (List NV)) (es : List En) (oa : Option (Nat × Nat)) : Prop where
  len : rows.length = es.length
  r5 : ∀ r ∈ rows, r.length = 5
  blk : 0 < rows.length → ∃ bo, oa = some (bo, 0) ∧ hget G bo = some (.cells rows.flatten false)
  row : ∀ i (h1 : i < rows.length) (h2 : i < es.length), EnAt G N rows[i] es[i]
theorem RowsAt.keepC {G h : Heap} {N : Nat} {rows : List (List NV)} {es : List En} {oa : Option (Nat × Nat)} (x : RowsAt G N rows es oa) (k : KeepC G h) : RowsAt h N rows es oa :=
  ⟨x.len, x.r5, fun h0 => by obtain ⟨bo, h1, h2⟩ := x.blk h0; exact ⟨bo, h1, k _ _ _ h2⟩, fun i h1 h2 => (x.row i h1 h2).keepC k⟩
theorem keepC_old {G h : Heap} (k : ∀ b, b < G.length → hget h b = hget G b) : KeepC G h := fun b cs ro hb => by rw [k b (hget_lt hb)]; exact hb

set_option maxHeartbeats 4000000 in
theorem found_ok (N : Nat) (G : Heap) (rows : List (List NV)) (es : List En) (oa : Option (Nat × Nat)) (oc : Cap) (x : RowsAt G N rows es oa) (hle : es.length ≤ 10) (r : Rf) (hr : ∀ f ∈ es, RfOK r f) (v1 v2 : Int) (b15 b16 : Nat) (hb15 : hget G b15 = some (.cells r.cells false)) (hb16 : hget G b16 = some (.cells [.int .u64 v1, .int .u64 v2] false))
    (F : FF) (P5 P7 P11 P13 P39 P40 P41 P46 P47 P48 : NV) (f5 : F 5 = P5) (f7 : F 7 = P7) (f8 : F 8 = .slice oa rows.length oc) (f11 : F 11 = P11) (f13 : F 13 = P13) (f15 : F 15 = .ptr (some (b15, 0))) (f16 : F 16 = .ptr (some (b16, 0))) (f17 : F 17 = .bool false) (f39 : F 39 = P39) (f40 : F 40 = P40) (f41 : F 41 = P41) (f46 : F 46 = P46) (f47 : F 47 = P47) (f48 : F 48 = P48) :
    fwpT E0 d9 (joinK fun F h => F 5 = P5 ∧ F 7 = P7 ∧ F 8 = .slice oa rows.length oc ∧ F 11 = P11 ∧ F 13 = P13 ∧ F 17 = .bool (fnd es ⟨r.tt, r.tk, v1, v2⟩) ∧ F 39 = P39 ∧ F 40 = P40 ∧ F 41 = P41 ∧ F 46 = P46 ∧ F 47 = P47 ∧ F 48 = P48 ∧ G.length ≤ h.length ∧ ∀ b, b < G.length → hget h b = hget G b) F G .mk := by
  rw [d9_eq]
  simp (disch := first | omega | (simp only [fsLen]; omega)) only [↓fsPre, fsPost, fsCond, fsGen, fsDefs, fsDefX, cls, eqVal, reduceCtorEq, Nat.reduceAdd, Nat.reduceMul, Nat.reduceSub, Nat.reduceLT, Nat.reduceLeDiff, Nat.reduceEqDiff, Nat.reduceBEq, Nat.reduceBNe, Int.reduceLT, Int.reduceLE, Int.reduceEq, Int.reduceNe, Int.reduceAdd, Int.reduceSub, Int.reduceNeg, Int.reduceToNat, Int.reduceMul, ↓reduceIte, Int.reduceGT, Int.reduceGE, f8]
  refine wloop (fun j F h => F 5 = P5 ∧ F 7 = P7 ∧ F 8 = .slice oa rows.length oc ∧ F 11 = P11 ∧ F 13 = P13 ∧ F 15 = .ptr (some (b15, 0)) ∧ F 16 = .ptr (some (b16, 0)) ∧ F 17 = .bool (fnd (es.take j) ⟨r.tt, r.tk, v1, v2⟩) ∧ F 39 = P39 ∧ F 40 = P40 ∧ F 41 = P41 ∧ F 46 = P46 ∧ F 47 = P47 ∧ F 48 = P48 ∧ F 85 = .slice oa rows.length oc ∧ F 86 = .int .i64 rows.length ∧ F 87 = .int .i64 j ∧ G.length ≤ h.length ∧ ∀ b, b < G.length → hget h b = hget G b) rows.length ?_ ?_ ?_
  · simp (disch := first | omega | (simp only [fsLen]; omega)) only [↓fsPre, fsPost, fsCond, fsGen, fsDefs, fsDefX, cls, eqVal, reduceCtorEq, Nat.reduceAdd, Nat.reduceMul, Nat.reduceSub, Nat.reduceLT, Nat.reduceLeDiff, Nat.reduceEqDiff, Nat.reduceBEq, Nat.reduceBNe, Int.reduceLT, Int.reduceLE, Int.reduceEq, Int.reduceNe, Int.reduceAdd, Int.reduceSub, Int.reduceNeg, Int.reduceToNat, Int.reduceMul, ↓reduceIte, Int.reduceGT, Int.reduceGE, f5, f7, f8, f11, f13, f15, f16, f17, f39, f40, f41, f46, f47, f48]
    rfl
  · clear f5 f7 f8 f11 f13 f15 f16 f17 f39 f40 f41 f46 f47 f48
    rintro j F h hj ⟨f5, f7, f8, f11, f13, f15, f16, f17, f39, f40, f41, f46, f47, f48, f85, f86, f87, hl, old⟩
    obtain ⟨bo, hoa, hbo⟩ := x.blk (by omega)
    subst hoa
    have kc : KeepC G h := keepC_old old
    have hboh := kc _ _ _ hbo
    have hbol := hget_some_lt hboh
    have hck : cut rows.flatten (j * 5) 5 = some rows[j] := flat_cut x.r5 j hj
    have hje : j < es.length := by rw [← x.len]; exact hj
    have xe := (x.row j hj hje).keepC kc
    obtain ⟨mv, av, hrw, om, oav, _, _, hm, _⟩ := xe.parts
    have hrf := hr es[j] (List.getElem_mem hje)
    obtain ⟨bm, csm, hmv, hbm, hcm⟩ := hm r.tk hrf.t
    have hbml := hget_some_lt hbm
    have l15 := hget_some_lt hb15
    have l16 := hget_some_lt hb16
    have g15 : hget h b15 = some (.cells r.cells false) := by rw [old _ l15]; exact hb15
    have g16 : hget h b16 = some (.cells [.int .u64 v1, .int .u64 v2] false) := by rw [old _ l16]; exact hb16
    subst hmv
    rw [hrw] at hck
    have htx : es.take (j + 1) = es.take j ++ [es[j]] := by rw [List.take_add_one, List.getElem?_eq_getElem hje]; rfl
    have hsn := fnd_snoc (es.take j) es[j] ⟨r.tt, r.tk, v1, v2⟩
    rw [← htx] at hsn
    have l15h : b15 < h.length := by omega
    have l16h : b16 < h.length := by omega
    have hk0 := hrf.t
    generalize es[j] = e at *
    generalize fnd (es.take (j + 1)) ⟨r.tt, r.tk, v1, v2⟩ = y at *
    cases hx : fnd (es.take j) ⟨r.tt, r.tk, v1, v2⟩ with
    | true =>
      rw [hx] at f17 hsn
      simp (disch := first | omega | (simp only [fsLen]; omega)) only [↓fsPre, fsPost, fsCond, fsGen, fsDefs, fsDefX, cls, eqVal, reduceCtorEq, Nat.reduceAdd, Nat.reduceMul, Nat.reduceSub, Nat.reduceLT, Nat.reduceLeDiff, Nat.reduceEqDiff, Nat.reduceBEq, Nat.reduceBNe, Int.reduceLT, Int.reduceLE, Int.reduceEq, Int.reduceNe, Int.reduceAdd, Int.reduceSub, Int.reduceNeg, Int.reduceToNat, Int.reduceMul, ↓reduceIte, Int.reduceGT, Int.reduceGE, f5, f7, f8, f11, f13, f15, f16, f17, f39, f40, f41, f46, f47, f48, f85, f86, f87, hboh, hck, oav, nbool_undef, guardK_none]
      exact ⟨by rw [hsn]; rfl, by omega, fun b hb => by rw [hget_appl (by omega)]; exact old b hb⟩
    | false =>
      rw [hx] at f17 hsn
      by_cases ht : e.tab = r.tt
      · simp (disch := first | omega | (simp only [fsLen]; omega)) only [↓fsPre, fsPost, fsCond, fsGen, fsDefs, fsDefX, cls, eqVal, reduceCtorEq, Nat.reduceAdd, Nat.reduceMul, Nat.reduceSub, Nat.reduceLT, Nat.reduceLeDiff, Nat.reduceEqDiff, Nat.reduceBEq, Nat.reduceBNe, Int.reduceLT, Int.reduceLE, Int.reduceEq, Int.reduceNe, Int.reduceAdd, Int.reduceSub, Int.reduceNeg, Int.reduceToNat, Int.reduceMul, ↓reduceIte, Int.reduceGT, Int.reduceGE, f5, f7, f8, f11, f13, f15, f16, f17, f39, f40, f41, f46, f47, f48, f85, f86, f87, hboh, hck, oav, nbool_undef, guardK_none, g15, g16, Rf.cells, ht, hbm, hcm]
        refine ⟨?_, by omega, fun b hb => by rw [hget_appl (by omega)]; exact old b hb⟩
        rw [hsn, Bool.false_or]
        refine congrArg NV.bool (decide_eq_decide.2 ?_)
        simp only [ht, true_and, Prod.ext_iff]
      · simp (disch := first | omega | (simp only [fsLen]; omega)) only [↓fsPre, fsPost, fsCond, fsGen, fsDefs, fsDefX, cls, eqVal, reduceCtorEq, Nat.reduceAdd, Nat.reduceMul, Nat.reduceSub, Nat.reduceLT, Nat.reduceLeDiff, Nat.reduceEqDiff, Nat.reduceBEq, Nat.reduceBNe, Int.reduceLT, Int.reduceLE, Int.reduceEq, Int.reduceNe, Int.reduceAdd, Int.reduceSub, Int.reduceNeg, Int.reduceToNat, Int.reduceMul, ↓reduceIte, Int.reduceGT, Int.reduceGE, f5, f7, f8, f11, f13, f15, f16, f17, f39, f40, f41, f46, f47, f48, f85, f86, f87, hboh, hck, oav, nbool_undef, guardK_none, g15, g16, Rf.cells, ht]
        refine ⟨?_, by omega, fun b hb => by rw [hget_appl (by omega)]; exact old b hb⟩
        rw [hsn, Bool.false_or, decide_eq_false (fun h => ht h.1)]
  · rintro F h ⟨f5, f7, f8, f11, f13, f15, f16, f17, f39, f40, f41, f46, f47, f48, f85, f86, f87, hl, old⟩
    rw [List.take_of_length_le (by have := x.len; omega)] at f17
    simp (disch := first | omega | (simp only [fsLen]; omega)) only [↓fsPre, fsPost, fsCond, fsGen, fsDefs, fsDefX, cls, eqVal, reduceCtorEq, Nat.reduceAdd, Nat.reduceMul, Nat.reduceSub, Nat.reduceLT, Nat.reduceLeDiff, Nat.reduceEqDiff, Nat.reduceBEq, Nat.reduceBNe, Int.reduceLT, Int.reduceLE, Int.reduceEq, Int.reduceNe, Int.reduceAdd, Int.reduceSub, Int.reduceNeg, Int.reduceToNat, Int.reduceMul, ↓reduceIte, Int.reduceGT, Int.reduceGE, f5, f7, f8, f11, f13, f15, f16, f17, f39, f40, f41, f46, f47, f48, f85, f86, f87]
    exact ⟨hl, old⟩

set_option maxHeartbeats 4000000 in
theorem whole_ok (N : Nat) (G : Heap) (R : List Rf) (rows : List (List NV)) (es : List En) (oa : Option (Nat × Nat)) (oc : Cap) (x : RowsAt G N rows es oa) (hle : es.length ≤ 10) (hR : R.length ≤ 10) (hr : ∀ f ∈ es, ∀ r ∈ R, RfOK r f) (hu : ∀ f ∈ es, EnU f)
    (z0 z1 z2 z3 z4 z5 z6 z7 z8 z9 : NV) (rv : RfV G R z0 z1 z2 z3 z4 z5 z6 z7 z8 z9) (b5 : Nat) (hb5 : hget G b5 = some (.cells [z0, z1, z2, z3, z4, z5, z6, z7, z8, z9] false))
    (px mx : Nat) (M : List (TK × (Int × Int))) (ax : CtAt G [z0, z1, z2, z3, z4, z5, z6, z7, z8, z9] px mx M) (bx : RepT M (accT R es)) (hM : M.length ≤ 150)
    (F : FF) (f5 : F 5 = .ptr (some (b5, 0))) (f7 : F 7 = .ptr (some (px, 0))) (f8 : F 8 = .slice oa rows.length oc) :
    fwpT E0 d7 (fend [.tmp 4] fun q => q.1 = .bool true) F G .mk := by
  rw [d7_eq]
  obtain ⟨L, sx, qx⟩ := sortedK_ex ltK_ord M bx.nd
  have hwh := whole_eq hu bx qx
  obtain ⟨⟨o0, o1, o2, o3, o4, o5, o6, o8, o9⟩, bR, c, cs, ro, rfl, hbR, hcut⟩ := rv
  have lb5 := hget_some_lt hb5
  have lbR := hget_some_lt hbR
  simp (disch := first | omega | (simp only [fsLen]; omega)) only [↓fsPre, fsPost, fsCond, fsGen, fsDefs, fsDefX, cls, eqVal, reduceCtorEq, Nat.reduceAdd, Nat.reduceMul, Nat.reduceSub, Nat.reduceLT, Nat.reduceLeDiff, Nat.reduceEqDiff, Nat.reduceBEq, Nat.reduceBNe, Int.reduceLT, Int.reduceLE, Int.reduceEq, Int.reduceNe, Int.reduceAdd, Int.reduceSub, Int.reduceNeg, Int.reduceToNat, Int.reduceMul, ↓reduceIte, Int.reduceGT, Int.reduceGE, f5, f7, f8]
  refine wloop (fun j F h => F 5 = .ptr (some (b5, 0)) ∧ F 7 = .ptr (some (px, 0)) ∧ F 8 = .slice oa rows.length oc ∧ F 11 = .bool ((es.take j).all fun e => (needsL R e).all (fnd es)) ∧ F 39 = .slice oa rows.length oc ∧ F 40 = .int .i64 rows.length ∧ F 41 = .int .i64 j ∧ G.length ≤ h.length ∧ ∀ b, b < G.length → hget h b = hget G b) rows.length ?_ ?_ ?_
  · simp (disch := first | omega | (simp only [fsLen]; omega)) only [↓fsPre, fsPost, fsCond, fsGen, fsDefs, fsDefX, cls, eqVal, reduceCtorEq, Nat.reduceAdd, Nat.reduceMul, Nat.reduceSub, Nat.reduceLT, Nat.reduceLeDiff, Nat.reduceEqDiff, Nat.reduceBEq, Nat.reduceBNe, Int.reduceLT, Int.reduceLE, Int.reduceEq, Int.reduceNe, Int.reduceAdd, Int.reduceSub, Int.reduceNeg, Int.reduceToNat, Int.reduceMul, ↓reduceIte, Int.reduceGT, Int.reduceGE, f5, f7, f8]
  · clear f5 f7 f8
    rintro j F h hj ⟨f5, f7, f8, f11, f39, f40, f41, hl, old⟩
    obtain ⟨bo, hoa, hbo⟩ := x.blk (by omega)
    subst hoa
    have kc : KeepC G h := keepC_old old
    have hboh := kc _ _ _ hbo
    have hbol := hget_some_lt hboh
    have hck : cut rows.flatten (j * 5) 5 = some rows[j] := flat_cut x.r5 j hj
    have hje : j < es.length := by rw [← x.len]; exact hj
    have xe := (x.row j hj hje).keepC kc
    obtain ⟨mv, av, hrw, om, oav, _, _, hm, ha⟩ := xe.parts
    have hrf := hr es[j] (List.getElem_mem hje)
    rw [hrw] at hck
    have htx : es.take (j + 1) = es.take j ++ [es[j]] := by rw [List.take_add_one, List.getElem?_eq_getElem hje]; rfl
    have hb5h := kc _ _ _ hb5
    have lb5h := hget_some_lt hb5h
    simp (disch := first | omega | (simp only [fsLen]; omega)) only [↓fsPre, fsPost, fsCond, fsGen, fsDefs, fsDefX, cls, eqVal, reduceCtorEq, Nat.reduceAdd, Nat.reduceMul, Nat.reduceSub, Nat.reduceLT, Nat.reduceLeDiff, Nat.reduceEqDiff, Nat.reduceBEq, Nat.reduceBNe, Int.reduceLT, Int.reduceLE, Int.reduceEq, Int.reduceNe, Int.reduceAdd, Int.reduceSub, Int.reduceNeg, Int.reduceToNat, Int.reduceMul, ↓reduceIte, Int.reduceGT, Int.reduceGE, f5, f7, f8, f11, f39, f40, f41, hboh, hck, om, oav, hb5h, o0, o1, o2, o3, o4, o5, o6, o8, o9]
    have hb13 : hget (h ++ [some (NBlk.cells [.int .i64 es[j].tab, mv, .int .i64 es[j].pr, .int .i64 es[j].act, av] false)]) h.length = some (.cells [.int .i64 es[j].tab, mv, .int .i64 es[j].pr, .int .i64 es[j].act, av] false) := hget_append_new
    have old1 : ∀ b, b < h.length → hget (h ++ [some (NBlk.cells [.int .i64 es[j].tab, mv, .int .i64 es[j].pr, .int .i64 es[j].act, av] false)]) b = hget h b := fun b hb => hget_appl hb
    have hl1 : (h ++ [some (NBlk.cells [.int .i64 es[j].tab, mv, .int .i64 es[j].pr, .int .i64 es[j].act, av] false)]).length = h.length + 1 := by simp
    generalize h ++ [some (NBlk.cells [.int .i64 es[j].tab, mv, .int .i64 es[j].pr, .int .i64 es[j].act, av] false)] = h1 at *
    have hall : (es.take (j + 1)).all (fun e => (needsL R e).all (fnd es)) = ((es.take j).all (fun e => (needsL R e).all (fnd es)) && (needsL R es[j]).all (fnd es)) := by rw [htx, List.all_append]; simp
    generalize (es.take (j + 1)).all (fun e => (needsL R e).all (fnd es)) = w1 at *
    generalize (es.take j).all (fun e => (needsL R e).all (fnd es)) = w0 at *
    generalize es[j] = e at *
    refine wloop (fun k F g => F 5 = .ptr (some (b5, 0)) ∧ F 7 = .ptr (some (px, 0)) ∧ F 8 = .slice (some (bo, 0)) rows.length oc ∧ F 11 = .bool (w0 && (needsL (R.take k) e).all (fnd es)) ∧ F 13 = .ptr (some (h.length, 0)) ∧ F 39 = .slice (some (bo, 0)) rows.length oc ∧ F 40 = .int .i64 rows.length ∧ F 41 = .int .i64 j ∧ F 46 = .slice (some (bR, 0)) R.length c ∧ F 47 = .int .i64 R.length ∧ F 48 = .int .i64 k ∧ h1.length ≤ g.length ∧ ∀ b, b < h1.length → hget g b = hget h1 b) R.length ?_ ?_ ?_
    · simp (disch := first | omega | (simp only [fsLen]; omega)) only [↓fsPre, fsPost, fsCond, fsGen, fsDefs, fsDefX, cls, eqVal, reduceCtorEq, Nat.reduceAdd, Nat.reduceMul, Nat.reduceSub, Nat.reduceLT, Nat.reduceLeDiff, Nat.reduceEqDiff, Nat.reduceBEq, Nat.reduceBNe, Int.reduceLT, Int.reduceLE, Int.reduceEq, Int.reduceNe, Int.reduceAdd, Int.reduceSub, Int.reduceNeg, Int.reduceToNat, Int.reduceMul, ↓reduceIte, Int.reduceGT, Int.reduceGE, f5, f7, f8, f11, f39, f40, f41]
      simp [needsL]
    · clear f5 f7 f8 f11 f39 f40 f41
      rintro k F g hk ⟨f5, f7, f8, f11, f13, f39, f40, f41, f46, f47, f48, hlg, oldg⟩
      have oldG : ∀ b, b < G.length → hget g b = hget G b := fun b hb => by rw [oldg b (by omega), old1 b (by omega), old b hb]
      have kG : KeepC G g := keepC_old oldG
      have hbRg := kG _ _ _ hbR
      have lbRg := hget_some_lt hbRg
      have hb13g : hget g h.length = some (.cells [.int .i64 e.tab, mv, .int .i64 e.pr, .int .i64 e.act, av] false) := by rw [oldg _ (by omega)]; exact hb13
      have lhg : h.length < g.length := by omega
      have hcr := hcut k hk
      have hrk := hrf _ (List.getElem_mem hk)
      have hallr : ∀ f ∈ es, RfOK R[k] f := fun f hf => hr f hf _ (List.getElem_mem hk)
      have hstep := needsL_snoc (R.take k) R[k] e
      have htk : R.take (k + 1) = R.take k ++ [R[k]] := by rw [List.take_add_one, List.getElem?_eq_getElem hk]; rfl
      rw [← htk] at hstep
      generalize R[k] = r at *
      have hwk : ∀ (t : T4), need1 r e = some t → (w0 && (needsL (R.take (k + 1)) e).all (fnd es)) = (w0 && (needsL (R.take k) e).all (fnd es) && fnd es t) := by
        intro t ht
        rw [hstep, ht, List.all_append]
        simp [Bool.and_assoc]
      generalize hw2 : (w0 && (needsL (R.take k) e).all (fnd es)) = w2 at *
      have skip : need1 r e = none → (w0 && (needsL (R.take (k + 1)) e).all (fnd es)) = w2 := by
        intro hn
        rw [hstep, hn, List.append_nil, hw2]
      generalize (w0 && (needsL (R.take (k + 1)) e).all (fnd es)) = w3 at *
      by_cases h1' : r.tab = e.tab
      · by_cases h2 : r.act = 0
        · have hk0 := hrk.k h1' h2
          obtain ⟨bm, csm, hmv, hbm, hcm⟩ := hm _ hk0
          have hbml := hget_some_lt hbm
          have hbmg : hget g bm = some (.cells csm false) := by rw [oldg bm (by omega), old1 bm (by omega)]; exact hbm
          have hbmgl := hget_some_lt hbmg
          rw [hmv] at hb13g
          have hn : need1 r e = some ⟨r.tt, r.tk, (mV e r.key).1, (mV e r.key).2⟩ := by unfold need1; rw [if_pos h1', if_pos h2]
          have hw3 := hwk _ hn
          simp (disch := first | omega | (simp only [fsLen]; omega)) only [↓fsPre, fsPost, fsCond, fsGen, fsDefs, fsDefX, cls, eqVal, reduceCtorEq, Nat.reduceAdd, Nat.reduceMul, Nat.reduceSub, Nat.reduceLT, Nat.reduceLeDiff, Nat.reduceEqDiff, Nat.reduceBEq, Nat.reduceBNe, Int.reduceLT, Int.reduceLE, Int.reduceEq, Int.reduceNe, Int.reduceAdd, Int.reduceSub, Int.reduceNeg, Int.reduceToNat, Int.reduceMul, ↓reduceIte, Int.reduceGT, Int.reduceGE, f5, f7, f8, f11, f13, f39, f40, f41, f46, f47, f48, hbRg, hb13g, hcr, Rf.cells, h1', h2, hbmg, hcm, nbool_undef, guardK_none, om, oav]
          refine fwp_partJ _ (found_ok N _ rows es _ oc ((x.keepC kG).keepC (keepC_old fun b hb => hget_appl hb)) hle r hallr (mV e r.key).1 (mV e r.key).2 g.length (g.length + 1) ?_ ?_ _ (.ptr (some (b5, 0))) (.ptr (some (px, 0))) (.bool w2) (.ptr (some (h.length, 0))) (.slice (some (bo, 0)) rows.length oc) (.int .i64 rows.length) (.int .i64 j) (.slice (some (bR, 0)) R.length c) (.int .i64 R.length) (.int .i64 k) ?_ ?_ ?_ ?_ ?_ ?_ ?_ ?_ ?_ ?_ ?_ ?_ ?_ ?_) ?_
          · simp (disch := first | omega | (simp only [fsLen]; omega)) only [↓fsPre, fsPost, fsCond, fsGen, fsDefs, fsDefX, cls, eqVal, reduceCtorEq, Nat.reduceAdd, Nat.reduceMul, Nat.reduceSub, Nat.reduceLT, Nat.reduceLeDiff, Nat.reduceEqDiff, Nat.reduceBEq, Nat.reduceBNe, Int.reduceLT, Int.reduceLE, Int.reduceEq, Int.reduceNe, Int.reduceAdd, Int.reduceSub, Int.reduceNeg, Int.reduceToNat, Int.reduceMul, ↓reduceIte, Int.reduceGT, Int.reduceGE, h1', h2, Rf.cells]
          · simp (disch := first | omega | (simp only [fsLen]; omega)) only [↓fsPre, fsPost, fsCond, fsGen, fsDefs, fsDefX, cls, eqVal, reduceCtorEq, Nat.reduceAdd, Nat.reduceMul, Nat.reduceSub, Nat.reduceLT, Nat.reduceLeDiff, Nat.reduceEqDiff, Nat.reduceBEq, Nat.reduceBNe, Int.reduceLT, Int.reduceLE, Int.reduceEq, Int.reduceNe, Int.reduceAdd, Int.reduceSub, Int.reduceNeg, Int.reduceToNat, Int.reduceMul, ↓reduceIte, Int.reduceGT, Int.reduceGE]
          · exact f5
          · exact f7
          · exact f8
          · exact f11
          · exact f13
          · exact rfl
          · exact rfl
          · exact rfl
          · exact f39
          · exact f40
          · exact f41
          · exact f46
          · exact f47
          · exact f48
          · rintro F2 g2 ⟨f5, f7, f8, f11, f13, f17, f39, f40, f41, f46, f47, f48, hl2, old2⟩
            simp only [List.length_append, List.length_cons, List.length_nil] at hl2 old2
            have oldg2 : ∀ b, b < h1.length → hget g2 b = hget h1 b := fun b hb => by rw [old2 b (by omega), hget_appl (by omega)]; exact oldg b hb
            cases hw : w2 with
            | true =>
              rw [hw] at f11 hw3
              simp (disch := first | omega | (simp only [fsLen]; omega)) only [↓fsPre, fsPost, fsCond, fsGen, fsDefs, fsDefX, cls, eqVal, reduceCtorEq, Nat.reduceAdd, Nat.reduceMul, Nat.reduceSub, Nat.reduceLT, Nat.reduceLeDiff, Nat.reduceEqDiff, Nat.reduceBEq, Nat.reduceBNe, Int.reduceLT, Int.reduceLE, Int.reduceEq, Int.reduceNe, Int.reduceAdd, Int.reduceSub, Int.reduceNeg, Int.reduceToNat, Int.reduceMul, ↓reduceIte, Int.reduceGT, Int.reduceGE, f5, f7, f8, f11, f13, f17, f39, f40, f41, f46, f47, f48]
              exact ⟨by rw [hw3]; rfl, by omega, oldg2⟩
            | false =>
              rw [hw] at f11 hw3
              simp (disch := first | omega | (simp only [fsLen]; omega)) only [↓fsPre, fsPost, fsCond, fsGen, fsDefs, fsDefX, cls, eqVal, reduceCtorEq, Nat.reduceAdd, Nat.reduceMul, Nat.reduceSub, Nat.reduceLT, Nat.reduceLeDiff, Nat.reduceEqDiff, Nat.reduceBEq, Nat.reduceBNe, Int.reduceLT, Int.reduceLE, Int.reduceEq, Int.reduceNe, Int.reduceAdd, Int.reduceSub, Int.reduceNeg, Int.reduceToNat, Int.reduceMul, ↓reduceIte, Int.reduceGT, Int.reduceGE, f5, f7, f8, f11, f13, f17, f39, f40, f41, f46, f47, f48, nbool_undef, guardK_none]
              exact ⟨by rw [hw3]; rfl, by omega, oldg2⟩
        · by_cases h3 : r.act = e.act
          · have hk0 := hrk.p h1' h2 h3
            have h2e : ¬ e.act = 0 := by rw [← h3]; exact h2
            obtain ⟨bm, csm, hmv, hbm, hcm⟩ := ha _ hk0
            have hbml := hget_some_lt hbm
            have hbmg : hget g bm = some (.cells csm false) := by rw [oldg bm (by omega), old1 bm (by omega)]; exact hbm
            have hbmgl := hget_some_lt hbmg
            rw [hmv] at hb13g
            have hn : need1 r e = some ⟨r.tt, r.tk, (aV e r.par).1, (aV e r.par).2⟩ := by unfold need1; rw [if_pos h1', if_neg h2, if_pos h3]
            have hw3 := hwk _ hn
            simp (disch := first | omega | (simp only [fsLen]; omega)) only [↓fsPre, fsPost, fsCond, fsGen, fsDefs, fsDefX, cls, eqVal, reduceCtorEq, Nat.reduceAdd, Nat.reduceMul, Nat.reduceSub, Nat.reduceLT, Nat.reduceLeDiff, Nat.reduceEqDiff, Nat.reduceBEq, Nat.reduceBNe, Int.reduceLT, Int.reduceLE, Int.reduceEq, Int.reduceNe, Int.reduceAdd, Int.reduceSub, Int.reduceNeg, Int.reduceToNat, Int.reduceMul, ↓reduceIte, Int.reduceGT, Int.reduceGE, f5, f7, f8, f11, f13, f39, f40, f41, f46, f47, f48, hbRg, hb13g, hcr, Rf.cells, h1', h2e, h3, hbmg, hcm, nbool_undef, guardK_none, om, oav]
            refine fwp_partJ _ (found_ok N _ rows es _ oc ((x.keepC kG).keepC (keepC_old fun b hb => hget_appl hb)) hle r hallr (aV e r.par).1 (aV e r.par).2 g.length (g.length + 1) ?_ ?_ _ (.ptr (some (b5, 0))) (.ptr (some (px, 0))) (.bool w2) (.ptr (some (h.length, 0))) (.slice (some (bo, 0)) rows.length oc) (.int .i64 rows.length) (.int .i64 j) (.slice (some (bR, 0)) R.length c) (.int .i64 R.length) (.int .i64 k) ?_ ?_ ?_ ?_ ?_ ?_ ?_ ?_ ?_ ?_ ?_ ?_ ?_ ?_) ?_
            · simp (disch := first | omega | (simp only [fsLen]; omega)) only [↓fsPre, fsPost, fsCond, fsGen, fsDefs, fsDefX, cls, eqVal, reduceCtorEq, Nat.reduceAdd, Nat.reduceMul, Nat.reduceSub, Nat.reduceLT, Nat.reduceLeDiff, Nat.reduceEqDiff, Nat.reduceBEq, Nat.reduceBNe, Int.reduceLT, Int.reduceLE, Int.reduceEq, Int.reduceNe, Int.reduceAdd, Int.reduceSub, Int.reduceNeg, Int.reduceToNat, Int.reduceMul, ↓reduceIte, Int.reduceGT, Int.reduceGE, h1', h3, Rf.cells]
            · simp (disch := first | omega | (simp only [fsLen]; omega)) only [↓fsPre, fsPost, fsCond, fsGen, fsDefs, fsDefX, cls, eqVal, reduceCtorEq, Nat.reduceAdd, Nat.reduceMul, Nat.reduceSub, Nat.reduceLT, Nat.reduceLeDiff, Nat.reduceEqDiff, Nat.reduceBEq, Nat.reduceBNe, Int.reduceLT, Int.reduceLE, Int.reduceEq, Int.reduceNe, Int.reduceAdd, Int.reduceSub, Int.reduceNeg, Int.reduceToNat, Int.reduceMul, ↓reduceIte, Int.reduceGT, Int.reduceGE]
            · exact f5
            · exact f7
            · exact f8
            · exact f11
            · exact f13
            · exact rfl
            · exact rfl
            · exact rfl
            · exact f39
            · exact f40
            · exact f41
            · exact f46
            · exact f47
            · exact f48
            · rintro F2 g2 ⟨f5, f7, f8, f11, f13, f17, f39, f40, f41, f46, f47, f48, hl2, old2⟩
              simp only [List.length_append, List.length_cons, List.length_nil] at hl2 old2
              have oldg2 : ∀ b, b < h1.length → hget g2 b = hget h1 b := fun b hb => by rw [old2 b (by omega), hget_appl (by omega)]; exact oldg b hb
              cases hw : w2 with
              | true =>
                rw [hw] at f11 hw3
                simp (disch := first | omega | (simp only [fsLen]; omega)) only [↓fsPre, fsPost, fsCond, fsGen, fsDefs, fsDefX, cls, eqVal, reduceCtorEq, Nat.reduceAdd, Nat.reduceMul, Nat.reduceSub, Nat.reduceLT, Nat.reduceLeDiff, Nat.reduceEqDiff, Nat.reduceBEq, Nat.reduceBNe, Int.reduceLT, Int.reduceLE, Int.reduceEq, Int.reduceNe, Int.reduceAdd, Int.reduceSub, Int.reduceNeg, Int.reduceToNat, Int.reduceMul, ↓reduceIte, Int.reduceGT, Int.reduceGE, f5, f7, f8, f11, f13, f17, f39, f40, f41, f46, f47, f48]
                exact ⟨by rw [hw3]; rfl, by omega, oldg2⟩
              | false =>
                rw [hw] at f11 hw3
                simp (disch := first | omega | (simp only [fsLen]; omega)) only [↓fsPre, fsPost, fsCond, fsGen, fsDefs, fsDefX, cls, eqVal, reduceCtorEq, Nat.reduceAdd, Nat.reduceMul, Nat.reduceSub, Nat.reduceLT, Nat.reduceLeDiff, Nat.reduceEqDiff, Nat.reduceBEq, Nat.reduceBNe, Int.reduceLT, Int.reduceLE, Int.reduceEq, Int.reduceNe, Int.reduceAdd, Int.reduceSub, Int.reduceNeg, Int.reduceToNat, Int.reduceMul, ↓reduceIte, Int.reduceGT, Int.reduceGE, f5, f7, f8, f11, f13, f17, f39, f40, f41, f46, f47, f48, nbool_undef, guardK_none]
                exact ⟨by rw [hw3]; rfl, by omega, oldg2⟩
          · have hn : need1 r e = none := by unfold need1; rw [if_pos h1', if_neg h2, if_neg h3]
            simp (disch := first | omega | (simp only [fsLen]; omega)) only [↓fsPre, fsPost, fsCond, fsGen, fsDefs, fsDefX, cls, eqVal, reduceCtorEq, Nat.reduceAdd, Nat.reduceMul, Nat.reduceSub, Nat.reduceLT, Nat.reduceLeDiff, Nat.reduceEqDiff, Nat.reduceBEq, Nat.reduceBNe, Int.reduceLT, Int.reduceLE, Int.reduceEq, Int.reduceNe, Int.reduceAdd, Int.reduceSub, Int.reduceNeg, Int.reduceToNat, Int.reduceMul, ↓reduceIte, Int.reduceGT, Int.reduceGE, f5, f7, f8, f11, f13, f39, f40, f41, f46, f47, f48, hbRg, hb13g, hcr, Rf.cells, h1', h2, h3, nbool_undef, guardK_none, om, oav]
            exact ⟨by rw [skip hn], by omega, fun b hb => by rw [hget_appl (by omega)]; exact oldg b hb⟩
      · have hn : need1 r e = none := by unfold need1; rw [if_neg h1']
        simp (disch := first | omega | (simp only [fsLen]; omega)) only [↓fsPre, fsPost, fsCond, fsGen, fsDefs, fsDefX, cls, eqVal, reduceCtorEq, Nat.reduceAdd, Nat.reduceMul, Nat.reduceSub, Nat.reduceLT, Nat.reduceLeDiff, Nat.reduceEqDiff, Nat.reduceBEq, Nat.reduceBNe, Int.reduceLT, Int.reduceLE, Int.reduceEq, Int.reduceNe, Int.reduceAdd, Int.reduceSub, Int.reduceNeg, Int.reduceToNat, Int.reduceMul, ↓reduceIte, Int.reduceGT, Int.reduceGE, f5, f7, f8, f11, f13, f39, f40, f41, f46, f47, f48, hbRg, hb13g, hcr, Rf.cells, h1', nbool_undef, guardK_none]
        exact ⟨by rw [skip hn], by omega, fun b hb => by rw [hget_appl (by omega)]; exact oldg b hb⟩
    · clear f5 f7 f8 f11 f39 f40 f41
      rintro F g ⟨f5, f7, f8, f11, f13, f39, f40, f41, f46, f47, f48, hlg, oldg⟩
      rw [List.take_length, ← hall] at f11
      simp (disch := first | omega | (simp only [fsLen]; omega)) only [↓fsPre, fsPost, fsCond, fsGen, fsDefs, fsDefX, cls, eqVal, reduceCtorEq, Nat.reduceAdd, Nat.reduceMul, Nat.reduceSub, Nat.reduceLT, Nat.reduceLeDiff, Nat.reduceEqDiff, Nat.reduceBEq, Nat.reduceBNe, Int.reduceLT, Int.reduceLE, Int.reduceEq, Int.reduceNe, Int.reduceAdd, Int.reduceSub, Int.reduceNeg, Int.reduceToNat, Int.reduceMul, ↓reduceIte, Int.reduceGT, Int.reduceGE, f5, f7, f8, f11, f13, f39, f40, f41, f46, f47, f48]
      exact ⟨by omega, fun b hb => by rw [oldg b (by omega), old1 b (by omega)]; exact old b hb⟩
  · clear f5 f7 f8
    rintro F h ⟨f5, f7, f8, f11, f39, f40, f41, hl, old⟩
    rw [List.take_of_length_le (by rw [x.len]; omega), hwh] at f11
    have a1 : CtAt h _ px mx M := ax.mono (old _ (hget_some_lt ax.hp)) (old _ ax.hm.lt)
    simp (disch := first | omega | (simp only [fsLen]; omega)) only [↓fsPre, fsPost, fsCond, fsGen, fsDefs, fsDefX, cls, eqVal, reduceCtorEq, Nat.reduceAdd, Nat.reduceMul, Nat.reduceSub, Nat.reduceLT, Nat.reduceLeDiff, Nat.reduceEqDiff, Nat.reduceBEq, Nat.reduceBNe, Int.reduceLT, Int.reduceLE, Int.reduceEq, Int.reduceNe, Int.reduceAdd, Int.reduceSub, Int.reduceNeg, Int.reduceToNat, Int.reduceMul, ↓reduceIte, Int.reduceGT, Int.reduceGE, f5, f7, f8, f11, f39, f40, f41]
    refine callT_D (dang_ok h z0 z1 z2 z3 z4 z5 z6 _ z8 z9 px mx M L a1 sx qx hM) rfl ?_
    rintro vd h2 ⟨l2, o2, gd⟩
    obtain ⟨A, c', rfl, _⟩ := tks_shape gd
    have hq : (decide ((dangK L).length = 0) == decide (((dangK L).length : Int) = 0)) = true := by
      have : decide (((dangK L).length : Int) = 0) = decide ((dangK L).length = 0) := decide_eq_decide.2 (by omega)
      rw [this]; simp
    simp (disch := first | omega | (simp only [fsLen]; omega)) only [↓fsPre, fsPost, fsCond, fsGen, fsDefs, fsDefX, cls, eqVal, reduceCtorEq, Nat.reduceAdd, Nat.reduceMul, Nat.reduceSub, Nat.reduceLT, Nat.reduceLeDiff, Nat.reduceEqDiff, Nat.reduceBEq, Nat.reduceBNe, Int.reduceLT, Int.reduceLE, Int.reduceEq, Int.reduceNe, Int.reduceAdd, Int.reduceSub, Int.reduceNeg, Int.reduceToNat, Int.reduceMul, ↓reduceIte, Int.reduceGT, Int.reduceGE, f5, f7, f8, f11, f39, f40, f41, hq]
    refine callT_one (begun16_ok _) rfl ?_
    simp (disch := first | omega | (simp only [fsLen]; omega)) only [↓fsPre, fsPost, fsCond, fsGen, fsDefs, fsDefX, cls, eqVal, reduceCtorEq, Nat.reduceAdd, Nat.reduceMul, Nat.reduceSub, Nat.reduceLT, Nat.reduceLeDiff, Nat.reduceEqDiff, Nat.reduceBEq, Nat.reduceBNe, Int.reduceLT, Int.reduceLE, Int.reduceEq, Int.reduceNe, Int.reduceAdd, Int.reduceSub, Int.reduceNeg, Int.reduceToNat, Int.reduceMul, ↓reduceIte, Int.reduceGT, Int.reduceGE]

set_option maxHeartbeats 4000000 in
theorem rwhole_ok (H : Heap) (v w : NV) (xs ys : List Int) (hv : BytesArg H v xs) (hw : BytesArg H w ys) : NFun Try.prog 4 [v, w] H fun q => q.1 = .bool true := by
  refine fun_of_fwp E0 mixed t4_ok.2 (by kernel_rfl) ?_
  rw [fwp_T]
  simp only [t4]
  rw [← d7_code]
  simp (disch := first | omega | (simp only [fsLen]; omega)) only [↓fsPre, fsPost, fsCond, fsGen, fsDefs, fsDefX, cls, eqVal, reduceCtorEq, Nat.reduceAdd, Nat.reduceMul, Nat.reduceSub, Nat.reduceLT, Nat.reduceLeDiff, Nat.reduceEqDiff, Nat.reduceBEq, Nat.reduceBNe, Int.reduceLT, Int.reduceLE, Int.reduceEq, Int.reduceNe, Int.reduceAdd, Int.reduceSub, Int.reduceNeg, Int.reduceToNat, Int.reduceMul, ↓reduceIte, Int.reduceGT, Int.reduceGE]
  refine callT_D (referring_ok H v xs hv) rfl ?_
  rintro v1 g1 ⟨N, t, acs, z0, z1, z2, z3, z4, z5, z6, z7, z8, z9, e, sc, rv, hl1, old1⟩
  simp only at e sc rv hl1 old1
  subst e
  have hw1 : BytesArg g1 w ys := by
    rcases hw with r | ⟨b, m, cs, ro, h0, h1, h2⟩
    · exact .inl r
    · exact .inr ⟨b, m, cs, ro, h0, by rw [old1 b (hget_lt h1)]; exact h1, h2⟩
  simp (disch := first | omega | (simp only [fsLen]; omega)) only [↓fsPre, fsPost, fsCond, fsGen, fsDefs, fsDefX, cls, eqVal, reduceCtorEq, Nat.reduceAdd, Nat.reduceMul, Nat.reduceSub, Nat.reduceLT, Nat.reduceLeDiff, Nat.reduceEqDiff, Nat.reduceBEq, Nat.reduceBNe, Int.reduceLT, Int.reduceLE, Int.reduceEq, Int.reduceNe, Int.reduceAdd, Int.reduceSub, Int.reduceNeg, Int.reduceToNat, Int.reduceMul, ↓reduceIte, Int.reduceGT, Int.reduceGE]
  refine callT_D (codes_ok g1 w ys 150 hw1 (by omega)) rfl ?_
  rintro v2 g2 ⟨sl, m, e, hs⟩
  cases e
  have hR6 := refsOf_le6 t
  have hR : (refsOf t).length ≤ 10 := by omega
  obtain ⟨p0, p1, p2, p3, p4, p5, p6, p8, p9⟩ := rv.o
  have p7 : z7.one = true := by obtain ⟨b, c, _, _, rfl, _⟩ := rv.r; rfl
  simp (disch := first | omega | (simp only [fsLen]; omega)) only [↓fsPre, fsPost, fsCond, fsGen, fsDefs, fsDefX, cls, eqVal, reduceCtorEq, Nat.reduceAdd, Nat.reduceMul, Nat.reduceSub, Nat.reduceLT, Nat.reduceLeDiff, Nat.reduceEqDiff, Nat.reduceBEq, Nat.reduceBNe, Int.reduceLT, Int.reduceLE, Int.reduceEq, Int.reduceNe, Int.reduceAdd, Int.reduceSub, Int.reduceNeg, Int.reduceToNat, Int.reduceMul, ↓reduceIte, Int.reduceGT, Int.reduceGE, p0, p1, p2, p3, p4, p5, p6, p7, p8, p9]
  have hG : ∀ b, b < g1.length → hget (g1 ++ [some (.cells [sl, .int .i64 0] false), some (.cells [z0, z1, z2, z3, z4, z5, z6, z7, z8, z9] false)]) b = hget g1 b := fun b hb => hget_appl hb
  have hs' : CodesSl (g1 ++ [some (NBlk.cells [sl, .int .i64 0] false), some (NBlk.cells [z0, z1, z2, z3, z4, z5, z6, z7, z8, z9] false)]) g1.length sl m := by have := hs.app (L := [some (.cells [z0, z1, z2, z3, z4, z5, z6, z7, z8, z9] false)]); simpa using this
  have hb4 : hget (g1 ++ [some (.cells [sl, .int .i64 0] false), some (.cells [z0, z1, z2, z3, z4, z5, z6, z7, z8, z9] false)]) g1.length = some (.cells [sl, .int .i64 0] false) := by simp (disch := first | omega | (simp only [fsLen]; omega)) only [↓fsPre, fsPost, fsCond, fsGen, fsDefs, fsDefX, cls, eqVal, reduceCtorEq, Nat.reduceAdd, Nat.reduceMul, Nat.reduceSub, Nat.reduceLT, Nat.reduceLeDiff, Nat.reduceEqDiff, Nat.reduceBEq, Nat.reduceBNe, Int.reduceLT, Int.reduceLE, Int.reduceEq, Int.reduceNe, Int.reduceAdd, Int.reduceSub, Int.reduceNeg, Int.reduceToNat, Int.reduceMul, ↓reduceIte, Int.reduceGT, Int.reduceGE]
  have hb5 : hget (g1 ++ [some (.cells [sl, .int .i64 0] false), some (.cells [z0, z1, z2, z3, z4, z5, z6, z7, z8, z9] false)]) (g1.length + 1) = some (.cells [z0, z1, z2, z3, z4, z5, z6, z7, z8, z9] false) := by simp (disch := first | omega | (simp only [fsLen]; omega)) only [↓fsPre, fsPost, fsCond, fsGen, fsDefs, fsDefX, cls, eqVal, reduceCtorEq, Nat.reduceAdd, Nat.reduceMul, Nat.reduceSub, Nat.reduceLT, Nat.reduceLeDiff, Nat.reduceEqDiff, Nat.reduceBEq, Nat.reduceBNe, Int.reduceLT, Int.reduceLE, Int.reduceEq, Int.reduceNe, Int.reduceAdd, Int.reduceSub, Int.reduceNeg, Int.reduceToNat, Int.reduceMul, ↓reduceIte, Int.reduceGT, Int.reduceGE]
  have hKl : (g1 ++ [some (NBlk.cells [sl, .int .i64 0] false), some (.cells [z0, z1, z2, z3, z4, z5, z6, z7, z8, z9] false)]).length = g1.length + 2 := by simp
  generalize g1 ++ [some (NBlk.cells [sl, .int .i64 0] false), some (.cells [z0, z1, z2, z3, z4, z5, z6, z7, z8, z9] false)] = K at *
  refine callT_D (cnew_ok K z0 z1 z2 z3 z4 z5 z6 z7 z8 z9 p0 p1 p2 p3 p4 p5 p6 p7 p8 p9) rfl ?_
  rintro v3 K2 ⟨lK1, oK, px, mx, rfl, hpx, hmx, cx⟩
  simp only at lK1 oK cx
  have lpx := hget_some_lt cx.hp
  have lmx := cx.hm.lt
  have hb52 : hget K2 (g1.length + 1) = _ := (oK _ (by omega)).trans hb5
  have hb42 : hget K2 g1.length = _ := (oK _ (by omega)).trans hb4
  simp (disch := first | omega | (simp only [fsLen]; omega)) only [↓fsPre, fsPost, fsCond, fsGen, fsDefs, fsDefX, cls, eqVal, reduceCtorEq, Nat.reduceAdd, Nat.reduceMul, Nat.reduceSub, Nat.reduceLT, Nat.reduceLeDiff, Nat.reduceEqDiff, Nat.reduceBEq, Nat.reduceBNe, Int.reduceLT, Int.reduceLE, Int.reduceEq, Int.reduceNe, Int.reduceAdd, Int.reduceSub, Int.reduceNeg, Int.reduceToNat, Int.reduceMul, ↓reduceIte, Int.reduceGT, Int.reduceGE, p0, p1, p2, p3, p4, p5, p6, p7, p8, p9, hb5, hb52]
  have hs2 : CodesSl K2 g1.length sl m := by
    rcases hs' with h | ⟨b, c, cs, ro, h1, h2, h3, h4⟩
    · exact .inl h
    · exact .inr ⟨b, c, cs, ro, h1, by rw [oK _ (hget_lt h2)]; exact h2, h3, h4⟩
  have st0 : CodesSt K2 K2 g1.length m sl := CodesSt.refl (a := 0) hb42 (by omega) (by omega) hs2
  have keepG : ∀ h, CodesSt K2 h g1.length m sl → ∀ b, b < g1.length → hget h b = hget g1 b := fun h st b hb => (st.old b (by omega) (by omega)).trans ((oK b (by omega)).trans (hG b hb))
  refine callT_D (entries_ok N K2 g1.length m sl st0 t acs z0 z1 z2 z3 z4 z5 z6 z7 z8 z9 (fun h st => sc.ext fun b x _ hb => by rw [keepG h st b (hget_lt hb)]; exact hb) 10 (by omega)) rfl ?_
  rintro vo G ⟨es, ⟨rows, hrl, hg, hrow⟩, hle, stG⟩
  simp only at hg hrow stG
  have lG := stG.len
  have rvG : RfV G (refsOf t) z0 z1 z2 z3 z4 z5 z6 z7 z8 z9 := rv.mono (keepG G stG)
  have oG : ∀ b, b < K2.length → b ≠ g1.length → hget G b = hget K2 b := fun b hb hne => stG.old b hb hne
  have cxG : CtAt G [z0, z1, z2, z3, z4, z5, z6, z7, z8, z9] px mx [] := cx.mono (oG _ (by omega) (by omega)) (oG _ (by omega) (by omega))
  have hb5G : hget G (g1.length + 1) = _ := (oG _ (by omega) (by omega)).trans hb52
  have hr5 : ∀ r ∈ rows, r.length = 5 := by
    intro r hr
    obtain ⟨i, hi, rfl⟩ := List.getElem_of_mem hr
    exact (hrow i hi (by omega)).1.length
  have hfl := flat5 hr5
  obtain ⟨oa, oc, on, hvo, hon⟩ := hg.shape (by omega)
  have hon2 : on = rows.length := by omega
  subst hon2
  subst hvo
  have xG : RowsAt G K2.length rows es oa := ⟨hrl, hr5, fun h0 => by
    rcases hg with ⟨h1, h2⟩ | ⟨bo, n, h2, _, h3, _⟩
    · have := congrArg List.length h1
      rw [hfl] at this
      simp at this; omega
    · cases h2
      exact ⟨bo, rfl, h3⟩, fun i h1 h2 => (hrow i h1 h2).1⟩
  have hEnU : ∀ e ∈ es, EnU e := fun e he => by
    obtain ⟨i, hi, rfl⟩ := List.getElem_of_mem he
    obtain ⟨_, _, _, _, _, _, h1, h2⟩ := (hrow i (by omega) hi).2.1
    exact ⟨h1, h2⟩
  have hEnR : ∀ e ∈ es, ∀ r ∈ refsOf t, RfOK r e := fun e he => by
    obtain ⟨i, hi, rfl⟩ := List.getElem_of_mem he
    exact refsOf_ok t es[i] (hrow i (by omega) hi).2.1
  have hnp : ∀ e, (needsK (refsOf t) e).length + (provK (refsOf t) e).length ≤ 12 := fun e => by
    unfold needsK provK
    rw [List.length_map, List.length_map]
    have := needsL_le (refsOf t) e
    have := provL_le (refsOf t) e
    omega
  have mapx := cxG.map
  have lmxG := cxG.hm.lt
  have lpxG := hget_some_lt cxG.hp
  have lb5G := hget_some_lt hb5G
  have hBd : ∀ l : List En, l.length ≤ 10 → ∀ k, -(100 : Int) ≤ (accT (refsOf t) l k).1 ∧ (accT (refsOf t) l k).1 ≤ 100 ∧ -(100 : Int) ≤ (accT (refsOf t) l k).2 ∧ (accT (refsOf t) l k).2 ≤ 100 := fun l hl k => by
    have := accT_bound (refsOf t) hR l k
    omega
  simp (disch := first | omega | (simp only [fsLen]; omega)) only [↓fsPre, fsPost, fsCond, fsGen, fsDefs, fsDefX, cls, eqVal, reduceCtorEq, Nat.reduceAdd, Nat.reduceMul, Nat.reduceSub, Nat.reduceLT, Nat.reduceLeDiff, Nat.reduceEqDiff, Nat.reduceBEq, Nat.reduceBNe, Int.reduceLT, Int.reduceLE, Int.reduceEq, Int.reduceNe, Int.reduceAdd, Int.reduceSub, Int.reduceNeg, Int.reduceToNat, Int.reduceMul, ↓reduceIte, Int.reduceGT, Int.reduceGE]
  refine wloop (fun j F h => F 5 = .ptr (some (g1.length + 1, 0)) ∧ F 7 = .ptr (some (px, 0)) ∧ F 8 = .slice oa rows.length oc ∧ F 29 = .slice oa rows.length oc ∧ F 30 = .int .i64 rows.length ∧ F 31 = .int .i64 j ∧ G.length ≤ h.length ∧ (∀ b, b < G.length → b ≠ mx → hget h b = hget G b) ∧
    ∃ Mx, CtAt h [z0, z1, z2, z3, z4, z5, z6, z7, z8, z9] px mx Mx ∧ RepT Mx (accT (refsOf t) (es.take j)) ∧ Mx.length ≤ 12 * j) rows.length ?_ ?_ ?_
  · simp (disch := first | omega | (simp only [fsLen]; omega)) only [↓fsPre, fsPost, fsCond, fsGen, fsDefs, fsDefX, cls, eqVal, reduceCtorEq, Nat.reduceAdd, Nat.reduceMul, Nat.reduceSub, Nat.reduceLT, Nat.reduceLeDiff, Nat.reduceEqDiff, Nat.reduceBEq, Nat.reduceBNe, Int.reduceLT, Int.reduceLE, Int.reduceEq, Int.reduceNe, Int.reduceAdd, Int.reduceSub, Int.reduceNeg, Int.reduceToNat, Int.reduceMul, ↓reduceIte, Int.reduceGT, Int.reduceGE]
    exact ⟨[], cxG, RepT.nil fun _ => rfl, by simp⟩
  · rintro j F h hj ⟨f5, f7, f8, f29, f30, f31, hl, old, Mx, ax, bx, lx⟩
    obtain ⟨bo, hoa, hbo⟩ := xG.blk (by omega)
    subst hoa
    have kc : KeepC G h := keepC_of mapx mapx fun b hb h1 _ => old b hb h1
    have hboh := kc _ _ _ hbo
    have hbol := hget_some_lt hboh
    have hck : cut rows.flatten (j * 5) 5 = some rows[j] := flat_cut hr5 j hj
    have hje : j < es.length := by omega
    have xe := (hrow j hj hje).1.keepC kc
    obtain ⟨mv, av, hrw, om, oav, _⟩ := xe.parts
    rw [hrw] at hck xe
    simp (disch := first | omega | (simp only [fsLen]; omega)) only [↓fsPre, fsPost, fsCond, fsGen, fsDefs, fsDefX, cls, eqVal, reduceCtorEq, Nat.reduceAdd, Nat.reduceMul, Nat.reduceSub, Nat.reduceLT, Nat.reduceLeDiff, Nat.reduceEqDiff, Nat.reduceBEq, Nat.reduceBNe, Int.reduceLT, Int.reduceLE, Int.reduceEq, Int.reduceNe, Int.reduceAdd, Int.reduceSub, Int.reduceNeg, Int.reduceToNat, Int.reduceMul, ↓reduceIte, Int.reduceGT, Int.reduceGE, f5, f7, f8, f29, f30, f31, hboh, hck, om, oav]
    have lpx1 := hget_some_lt ax.hp
    have lmx1 := ax.hm.lt
    have htx : es.take (j + 1) = es.take j ++ [es[j]] := by rw [List.take_add_one, List.getElem?_eq_getElem hje]; rfl
    refine callT_D (add_ok _ _ (refsOf t) z0 z1 z2 z3 z4 z5 z6 z7 z8 z9 px mx Mx _ (ax.mono (hget_appl lpx1) (hget_appl lmx1)) bx ((rvG.keepC kc).mono fun b hb => hget_appl hb) hR _ es[j] (xe.mono fun b hb => hget_appl hb) (hEnR _ (List.getElem_mem hje)) (hEnU _ (List.getElem_mem hje)) 100 (hBd _ (by rw [List.length_take]; omega)) (by omega)) rfl ?_
    rintro v5 h2 ⟨hv5, hl2, ho2, Mx2, ax2, bx2, lx2⟩
    simp only [List.length_append, List.length_cons, List.length_nil] at hv5 hl2 ho2 ax2
    subst hv5
    rw [← accT_snoc, ← htx] at bx2
    have n1 := hnp es[j]
    simp (disch := first | omega | (simp only [fsLen]; omega)) only [↓fsPre, fsPost, fsCond, fsGen, fsDefs, fsDefX, cls, eqVal, reduceCtorEq, Nat.reduceAdd, Nat.reduceMul, Nat.reduceSub, Nat.reduceLT, Nat.reduceLeDiff, Nat.reduceEqDiff, Nat.reduceBEq, Nat.reduceBNe, Int.reduceLT, Int.reduceLE, Int.reduceEq, Int.reduceNe, Int.reduceAdd, Int.reduceSub, Int.reduceNeg, Int.reduceToNat, Int.reduceMul, ↓reduceIte, Int.reduceGT, Int.reduceGE, f5, f7, f8, f29, f30, f31]
    exact ⟨by omega, fun b hb h1 => by rw [ho2 b (by omega) h1, hget_appl (by omega)]; exact old b hb h1, Mx2, ax2, bx2, by omega⟩
  · rintro F h ⟨f5, f7, f8, f29, f30, f31, hl, old, Mx, ax, bx, lx⟩
    rw [List.take_of_length_le (by omega)] at bx
    have kc : KeepC G h := keepC_of mapx mapx fun b hb h1 _ => old b hb h1
    simp (disch := first | omega | (simp only [fsLen]; omega)) only [↓fsPre, fsPost, fsCond, fsGen, fsDefs, fsDefX, cls, eqVal, reduceCtorEq, Nat.reduceAdd, Nat.reduceMul, Nat.reduceSub, Nat.reduceLT, Nat.reduceLeDiff, Nat.reduceEqDiff, Nat.reduceBEq, Nat.reduceBNe, Int.reduceLT, Int.reduceLE, Int.reduceEq, Int.reduceNe, Int.reduceAdd, Int.reduceSub, Int.reduceNeg, Int.reduceToNat, Int.reduceMul, ↓reduceIte, Int.reduceGT, Int.reduceGE, f5, f7, f8, f29, f30, f31]
    exact whole_ok _ h (refsOf t) rows es oa oc (xG.keepC kc) (by omega) hR hEnR hEnU z0 z1 z2 z3 z4 z5 z6 z7 z8 z9 (rvG.keepC kc) (g1.length + 1) (kc _ _ _ hb5G) px mx Mx ax bx (by omega) _ f5 f7 f8

def kindsRW : List PK := [.sl [.int .u8], .sl [.int .u8]]
theorem walkRW (nvs : List NV) (h : Heap) (ok : argsOK kindsRW 0 nvs h) : NFun Try.prog 4 nvs h (fun q => q.1 = .bool true) := by
  obtain ⟨v, vs, x, h, rfl, rfl, h1, ok⟩ := argsOK_cons ok
  obtain ⟨w, vs, y, h, rfl, rfl, h2, ok⟩ := argsOK_cons ok
  obtain ⟨rfl, rfl⟩ := argsOK_nil ok
  obtain ⟨xs, hx⟩ := argOK_bytes (H := [x, y]) h1 rfl
  obtain ⟨ys, hy⟩ := argOK_bytes (H := [x, y]) h2 rfl
  exact rwhole_ok _ _ _ xs ys hx hy
end Go.Proofs
