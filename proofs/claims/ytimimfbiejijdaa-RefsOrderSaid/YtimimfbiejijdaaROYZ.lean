/- Yd, Ye, Yf, Yh, Yi, Yj, Yg in one text. -/
import Derived.Test.YtimimfbiejijdaaROYA
import Derived.Test.YtimimfbiejijdaaRORefX
set_option linter.unusedSimpArgs false
set_option linter.unusedVariables false
set_option maxRecDepth 100000
namespace Go.Proofs
open Go.Ns

/-- Tallies after an entry was counted n times. -/
noncomputable def entT (T : TK → Int × Int) (R : List Rf) (e : En) (n : Int) : TK → Int × Int := sumT (sumT T (needsK R e) (n, 0)) (provK R e) (0, n)
structure EntQ (H : Heap) (zs : List NV) (p m : Nat) (M : List (TK × (Int × Int))) (T' : TK → Int × Int) (k : Nat) (r : NV × Heap) : Prop where
  v : r.1 = .tup []
  len : H.length ≤ r.2.length
  old : ∀ c, c < H.length → c ≠ m → hget r.2 c = hget H c
  ex : ∃ M', CtAt r.2 zs p m M' ∧ RepT M' T' ∧ M'.length ≤ M.length + k

set_option maxHeartbeats 4000000 in
theorem enter_ok (N : Nat) (H : Heap) (R : List Rf) (z0 z1 z2 z3 z4 z5 z6 z7 z8 z9 : NV) (p m : Nat) (M : List (TK × (Int × Int))) (T : TK → Int × Int) (x : CtAt H [z0, z1, z2, z3, z4, z5, z6, z7, z8, z9] p m M) (r : RepT M T)
    (s : RfV H R z0 z1 z2 z3 z4 z5 z6 z7 z8 z9) (hR : R.length ≤ 10) (row : List NV) (e : En) (xE : EnAt H N row e) (hok : ∀ r ∈ R, RfOK r e) (hu : EnU e) (n : Int) (hn : n = 1 ∨ n = -1) (B : Int) (hB : ∀ k, -B ≤ (T k).1 ∧ (T k).1 ≤ B ∧ -B ≤ (T k).2 ∧ (T k).2 ≤ B) (hB2 : B ≤ 100000) :
    DCall Try.prog 32 [.ptr (some (p, 0)), .agg row, .int .i64 n] H (EntQ H [z0, z1, z2, z3, z4, z5, z6, z7, z8, z9] p m M (entT T R e n) ((needsK R e).length + (provK R e).length)) := by
  unfold entT
  have hn1 : -1 ≤ n ∧ n ≤ 1 := by omega
  have h01 : (-1 : Int) ≤ 0 ∧ (0 : Int) ≤ 1 := by omega
  have hp := x.hp
  simp only [List.cons_append, List.nil_append] at hp
  have lp := hget_some_lt hp
  have lm := x.hm.lt
  obtain ⟨p0, p1, p2, p3, p4, p5, p6, p8, p9⟩ := s.o
  have p7 : z7.one = true := by obtain ⟨b, c, _, _, rfl, _⟩ := s.r; rfl
  have hnl : (needsK R e).length ≤ 10 := by unfold needsK; rw [List.length_map]; have := needsL_le R e; omega
  have hpl : (provK R e).length ≤ 10 := by unfold provK; rw [List.length_map]; have := provL_le R e; omega
  have en : tC (needsL R e) = (needsK R e).flatMap tkC := tC_tk (needs_u hu R)
  have ep : tC (provL R e) = (provK R e).flatMap tkC := tC_tk (prov_u hu R)
  refine call_det E0 rfl mixed t32_ok (by kernel_rfl) (by rintro q ⟨_, h, _⟩; exact h) ?_
  simp only [t32]
  obtain ⟨mv, av, hrw, om, oav, _⟩ := xE.parts
  subst hrw
  simp (disch := first | omega | (simp only [fsLen]; omega)) only [↓fsPre, fsPost, fsCond, fsGen, fsDefs, fsDefX, cls, eqVal, reduceCtorEq, Nat.reduceAdd, Nat.reduceMul, Nat.reduceSub, Nat.reduceLT, Nat.reduceLeDiff, Nat.reduceEqDiff, Nat.reduceBEq, Nat.reduceBNe, Int.reduceLT, Int.reduceLE, Int.reduceEq, Int.reduceNe, Int.reduceAdd, Int.reduceSub, Int.reduceNeg, Int.reduceToNat, Int.reduceMul, ↓reduceIte, Int.reduceGT, Int.reduceGE, om, oav, hp, p0, p1, p2, p3, p4, p5, p6, p7, p8, p9]
  have x0 := x.mono (h := H ++ [some (.cells [.int .i64 e.tab, mv, .int .i64 e.pr, .int .i64 e.act, av] false)]) (hget_appl lp) (hget_appl lm)
  have s0 := s.mono (h' := H ++ [some (.cells [.int .i64 e.tab, mv, .int .i64 e.pr, .int .i64 e.act, av] false)]) fun b hb => hget_appl hb
  have xE0 := xE.mono (h' := H ++ [some (.cells [.int .i64 e.tab, mv, .int .i64 e.pr, .int .i64 e.act, av] false)]) fun b hb => hget_appl hb
  refine callDT_D (needs_ok N _ R z0 z1 z2 z3 z4 z5 z6 z7 z8 z9 s0 hR _ e xE0 hok) rfl ?_
  rintro va h1 ⟨l1, o1, ga⟩
  simp only [List.length_append, List.length_cons, List.length_nil] at l1 o1 ga
  rw [en] at ga
  obtain ⟨A, c, rfl, hA⟩ := tks_shape ga
  simp (disch := first | omega | (simp only [fsLen]; omega)) only [↓fsPre, fsPost, fsCond, fsGen, fsDefs, fsDefX, cls, eqVal, reduceCtorEq, Nat.reduceAdd, Nat.reduceMul, Nat.reduceSub, Nat.reduceLT, Nat.reduceLeDiff, Nat.reduceEqDiff, Nat.reduceBEq, Nat.reduceBNe, Int.reduceLT, Int.reduceLE, Int.reduceEq, Int.reduceNe, Int.reduceAdd, Int.reduceSub, Int.reduceNeg, Int.reduceToNat, Int.reduceMul, ↓reduceIte, Int.reduceGT, Int.reduceGE]
  refine ⟨by omega, ?_⟩
  have hrow1 : hget h1 H.length = some (.cells [.int .i64 e.tab, mv, .int .i64 e.pr, .int .i64 e.act, av] false) := by rw [o1 _ (by omega)]; simp (disch := first | omega | (simp only [fsLen]; omega)) only [↓fsPre, fsPost, fsCond, fsGen, fsDefs, fsDefX, cls, eqVal, reduceCtorEq, Nat.reduceAdd, Nat.reduceMul, Nat.reduceSub, Nat.reduceLT, Nat.reduceLeDiff, Nat.reduceEqDiff, Nat.reduceBEq, Nat.reduceBNe, Int.reduceLT, Int.reduceLE, Int.reduceEq, Int.reduceNe, Int.reduceAdd, Int.reduceSub, Int.reduceNeg, Int.reduceToNat, Int.reduceMul, ↓reduceIte, Int.reduceGT, Int.reduceGE]
  have o1' : ∀ b, b < H.length → hget h1 b = hget H b := fun b hb => by rw [o1 b (by omega), hget_appl hb]
  have x1 : CtAt h1 [z0, z1, z2, z3, z4, z5, z6, z7, z8, z9] p m M := x.mono (o1' _ lp) (o1' _ lm)
  have hmap1 := x1.map
  have s1 : RfV h1 R z0 z1 z2 z3 z4 z5 z6 z7 z8 z9 := s.mono o1'
  have xE1 : EnAt h1 N _ e := xE.mono o1'
  clear x0 s0 xE0 o1 ga
  have lp1 : p < h1.length := by omega
  have lm1 : m < h1.length := by omega
  refine wloop (fun j F h => F 0 = .ptr (some (p, 0)) ∧ F 2 = .int .i64 n ∧ F 4 = .ptr (some (H.length, 0)) ∧ F 17 = .slice A (needsK R e).length c ∧ F 18 = .int .i64 (needsK R e).length ∧ F 19 = .int .i64 j ∧ h1.length ≤ h.length ∧ (∀ c, c < h1.length → c ≠ m → hget h c = hget h1 c) ∧
    ∃ M', CtAt h [z0, z1, z2, z3, z4, z5, z6, z7, z8, z9] p m M' ∧ RepT M' (sumT (T) ((needsK R e).take j) (n, 0)) ∧ M'.length ≤ M.length + j) (needsK R e).length ?_ ?_ ?_
  · simp (disch := first | omega | (simp only [fsLen]; omega)) only [↓fsPre, fsPost, fsCond, fsGen, fsDefs, fsDefX, cls, eqVal, reduceCtorEq, Nat.reduceAdd, Nat.reduceMul, Nat.reduceSub, Nat.reduceLT, Nat.reduceLeDiff, Nat.reduceEqDiff, Nat.reduceBEq, Nat.reduceBNe, Int.reduceLT, Int.reduceLE, Int.reduceEq, Int.reduceNe, Int.reduceAdd, Int.reduceSub, Int.reduceNeg, Int.reduceToNat, Int.reduceMul, ↓reduceIte, Int.reduceGT, Int.reduceGE]
    refine ⟨M, x1, ?_, by omega⟩
    rw [sumT_nil]; exact r
  · rintro j F h hj ⟨f0, f2, f4, f17, f18, f19, hl, old, M', xM, rM, hM'⟩
    obtain ⟨b, rfl, hNb, hb⟩ := hA (by omega)
    have hbl1 := hget_lt hb
    have hbm : b ≠ m := by omega
    have hbh : hget h b = some (.cells ((needsK R e).flatMap tkC) false) := by rw [old b hbl1 hbm]; exact hb
    have hbl := hget_some_lt hbh
    have hc : cut ((needsK R e).flatMap tkC) (j * 4) 4 = some (tkC (needsK R e)[j]) := cut_flatMap tkC_length hj
    have htk : (needsK R e).take (j + 1) = (needsK R e).take j ++ [(needsK R e)[j]] := by rw [List.take_add_one, List.getElem?_eq_getElem hj]; rfl
    have lpM := hget_some_lt xM.hp
    have lmM := xM.hm.lt
    simp (disch := first | omega | (simp only [fsLen]; omega)) only [↓fsPre, fsPost, fsCond, fsGen, fsDefs, fsDefX, cls, eqVal, reduceCtorEq, Nat.reduceAdd, Nat.reduceMul, Nat.reduceSub, Nat.reduceLT, Nat.reduceLeDiff, Nat.reduceEqDiff, Nat.reduceBEq, Nat.reduceBNe, Int.reduceLT, Int.reduceLE, Int.reduceEq, Int.reduceNe, Int.reduceAdd, Int.reduceSub, Int.reduceNeg, Int.reduceToNat, Int.reduceMul, ↓reduceIte, Int.reduceGT, Int.reduceGE, f0, f2, f4, f17, f18, f19, hbh, hc, tkC_one, tkC_cut, tkC_length, tkC_fill]
    have bd := sumT_bound (T := T) (l := (needsK R e).take j) (a := n) (b := 0) (B := B) hn1 h01 hB (needsK R e)[j]
    have hlt : ((needsK R e).take j).length ≤ 10 := by rw [List.length_take]; omega
    have i1 : i64R ((sumT T ((needsK R e).take j) (n, 0) (needsK R e)[j]).1 + n) := by unfold i64R; omega
    have i2 : i64R ((sumT T ((needsK R e).take j) (n, 0) (needsK R e)[j]).2 + 0) := by unfold i64R; omega
    refine callT_D (count_ok _ z0 z1 z2 z3 z4 z5 z6 z7 z8 z9 p m M' _ (xM.mono (hget_appl lpM) (hget_appl lmM)) rM (needsK R e)[j] n 0 i1 i2) rfl ?_
    rintro w h2 ⟨hw, hl2, ho2, M2, xM2, rM2, hM2⟩
    simp only [List.length_append, List.length_cons, List.length_nil] at hw hl2 ho2 xM2
    subst hw
    rw [← sumT_snoc, ← htk] at rM2
    simp (disch := first | omega | (simp only [fsLen]; omega)) only [↓fsPre, fsPost, fsCond, fsGen, fsDefs, fsDefX, cls, eqVal, reduceCtorEq, Nat.reduceAdd, Nat.reduceMul, Nat.reduceSub, Nat.reduceLT, Nat.reduceLeDiff, Nat.reduceEqDiff, Nat.reduceBEq, Nat.reduceBNe, Int.reduceLT, Int.reduceLE, Int.reduceEq, Int.reduceNe, Int.reduceAdd, Int.reduceSub, Int.reduceNeg, Int.reduceToNat, Int.reduceMul, ↓reduceIte, Int.reduceGT, Int.reduceGE, f0, f2, f4, f17, f18, f19]
    exact ⟨by omega, fun c hc hne => by rw [ho2 c (by omega) hne, hget_appl (by omega)]; exact old c hc hne, M2, xM2, rM2, by omega⟩
  · rintro F h ⟨f0, f2, f4, f17, f18, f19, hl, old, M', xM, rM, hM'⟩
    rw [List.take_of_length_le (Nat.le_refl _)] at rM
    have hrowh : hget h H.length = some (.cells [.int .i64 e.tab, mv, .int .i64 e.pr, .int .i64 e.act, av] false) := by rw [old _ (by omega) (by omega)]; exact hrow1
    have sh := s1.mono2 hmap1 old
    have xEh := xE1.mono2 hmap1 old
    have oldH : ∀ c, c < H.length → c ≠ m → hget h c = hget H c := fun c hc hne => by rw [old c (by omega) hne]; exact o1' c hc
    clear old hrow1 o1' x1 hmap1 s1 xE1 hA
    have hpM := xM.hp
    simp only [List.cons_append, List.nil_append] at hpM
    have lpM := hget_some_lt hpM
    have lmM := xM.hm.lt
    have lrow := hget_some_lt hrowh
    simp (disch := first | omega | (simp only [fsLen]; omega)) only [↓fsPre, fsPost, fsCond, fsGen, fsDefs, fsDefX, cls, eqVal, reduceCtorEq, Nat.reduceAdd, Nat.reduceMul, Nat.reduceSub, Nat.reduceLT, Nat.reduceLeDiff, Nat.reduceEqDiff, Nat.reduceBEq, Nat.reduceBNe, Int.reduceLT, Int.reduceLE, Int.reduceEq, Int.reduceNe, Int.reduceAdd, Int.reduceSub, Int.reduceNeg, Int.reduceToNat, Int.reduceMul, ↓reduceIte, Int.reduceGT, Int.reduceGE, f0, f2, f4, f17, f18, f19, om, oav, hpM, hrowh, p0, p1, p2, p3, p4, p5, p6, p7, p8, p9]
    refine callDT_D (provides_ok N _ R z0 z1 z2 z3 z4 z5 z6 z7 z8 z9 sh hR _ e xEh hok) rfl ?_
    rintro vb h3 ⟨l3, o3, gb⟩
    simp only at l3 o3 gb
    rw [ep] at gb
    obtain ⟨A, c, rfl, hA⟩ := tks_shape gb
    simp (disch := first | omega | (simp only [fsLen]; omega)) only [↓fsPre, fsPost, fsCond, fsGen, fsDefs, fsDefX, cls, eqVal, reduceCtorEq, Nat.reduceAdd, Nat.reduceMul, Nat.reduceSub, Nat.reduceLT, Nat.reduceLeDiff, Nat.reduceEqDiff, Nat.reduceBEq, Nat.reduceBNe, Int.reduceLT, Int.reduceLE, Int.reduceEq, Int.reduceNe, Int.reduceAdd, Int.reduceSub, Int.reduceNeg, Int.reduceToNat, Int.reduceMul, ↓reduceIte, Int.reduceGT, Int.reduceGE]
    refine ⟨by omega, ?_⟩
    have x3 : CtAt h3 [z0, z1, z2, z3, z4, z5, z6, z7, z8, z9] p m M' := xM.mono (o3 _ lpM) (o3 _ lmM)
    have old3 : ∀ c, c < H.length → c ≠ m → hget h3 c = hget H c := fun c hc hne => by rw [o3 c (by omega)]; exact oldH c hc hne
    have hB3 : ∀ k, -(B + 10) ≤ (sumT T (needsK R e) (n, 0) k).1 ∧ (sumT T (needsK R e) (n, 0) k).1 ≤ B + 10 ∧ -(B + 10) ≤ (sumT T (needsK R e) (n, 0) k).2 ∧ (sumT T (needsK R e) (n, 0) k).2 ≤ B + 10 := fun k => by
      have := sumT_bound (T := T) (l := needsK R e) (a := n) (b := 0) (B := B) hn1 h01 hB k
      omega
    clear oldH sh xEh hrowh o3 gb f17 f18 f19
    generalize sumT T (needsK R e) (n, 0) = T1 at *
    refine wloop (fun j F h => F 0 = .ptr (some (p, 0)) ∧ F 2 = .int .i64 n ∧ F 4 = .ptr (some (H.length, 0)) ∧ F 33 = .slice A (provK R e).length c ∧ F 34 = .int .i64 (provK R e).length ∧ F 35 = .int .i64 j ∧ h3.length ≤ h.length ∧ (∀ c, c < h3.length → c ≠ m → hget h c = hget h3 c) ∧
      ∃ M2, CtAt h [z0, z1, z2, z3, z4, z5, z6, z7, z8, z9] p m M2 ∧ RepT M2 (sumT (T1) ((provK R e).take j) (0, n)) ∧ M2.length ≤ M'.length + j) (provK R e).length ?_ ?_ ?_
    · simp (disch := first | omega | (simp only [fsLen]; omega)) only [↓fsPre, fsPost, fsCond, fsGen, fsDefs, fsDefX, cls, eqVal, reduceCtorEq, Nat.reduceAdd, Nat.reduceMul, Nat.reduceSub, Nat.reduceLT, Nat.reduceLeDiff, Nat.reduceEqDiff, Nat.reduceBEq, Nat.reduceBNe, Int.reduceLT, Int.reduceLE, Int.reduceEq, Int.reduceNe, Int.reduceAdd, Int.reduceSub, Int.reduceNeg, Int.reduceToNat, Int.reduceMul, ↓reduceIte, Int.reduceGT, Int.reduceGE, f0, f2, f4]
      refine ⟨M', x3, ?_, by omega⟩
      rw [sumT_nil]; exact rM
    · clear f0 f2 f4 F
      rintro j F h' hj ⟨f0, f2, f4, f33, f34, f35, hl', old, M2, xM2, rM2, hM2⟩
      obtain ⟨b, rfl, hNb, hb⟩ := hA (by omega)
      have hbl1 := hget_lt hb
      have hbm : b ≠ m := by omega
      have hbh : hget h' b = some (.cells ((provK R e).flatMap tkC) false) := by rw [old b hbl1 hbm]; exact hb
      have hbl := hget_some_lt hbh
      have hc : cut ((provK R e).flatMap tkC) (j * 4) 4 = some (tkC (provK R e)[j]) := cut_flatMap tkC_length hj
      have htk : (provK R e).take (j + 1) = (provK R e).take j ++ [(provK R e)[j]] := by rw [List.take_add_one, List.getElem?_eq_getElem hj]; rfl
      have lpM := hget_some_lt xM2.hp
      have lmM := xM2.hm.lt
      simp (disch := first | omega | (simp only [fsLen]; omega)) only [↓fsPre, fsPost, fsCond, fsGen, fsDefs, fsDefX, cls, eqVal, reduceCtorEq, Nat.reduceAdd, Nat.reduceMul, Nat.reduceSub, Nat.reduceLT, Nat.reduceLeDiff, Nat.reduceEqDiff, Nat.reduceBEq, Nat.reduceBNe, Int.reduceLT, Int.reduceLE, Int.reduceEq, Int.reduceNe, Int.reduceAdd, Int.reduceSub, Int.reduceNeg, Int.reduceToNat, Int.reduceMul, ↓reduceIte, Int.reduceGT, Int.reduceGE, f0, f2, f4, f33, f34, f35, hbh, hc, tkC_one, tkC_cut, tkC_length, tkC_fill]
      have bd := sumT_bound (T := T1) (l := (provK R e).take j) (a := 0) (b := n) (B := B + 10) h01 hn1 hB3 (provK R e)[j]
      have hlt : ((provK R e).take j).length ≤ 10 := by rw [List.length_take]; omega
      have i1 : i64R ((sumT T1 ((provK R e).take j) (0, n) (provK R e)[j]).1 + 0) := by unfold i64R; omega
      have i2 : i64R ((sumT T1 ((provK R e).take j) (0, n) (provK R e)[j]).2 + n) := by unfold i64R; omega
      refine callT_D (count_ok _ z0 z1 z2 z3 z4 z5 z6 z7 z8 z9 p m M2 _ (xM2.mono (hget_appl lpM) (hget_appl lmM)) rM2 (provK R e)[j] 0 n i1 i2) rfl ?_
      rintro w h2 ⟨hw, hl2, ho2, M3, xM3, rM3, hM3⟩
      simp only [List.length_append, List.length_cons, List.length_nil] at hw hl2 ho2 xM3
      subst hw
      rw [← sumT_snoc, ← htk] at rM3
      simp (disch := first | omega | (simp only [fsLen]; omega)) only [↓fsPre, fsPost, fsCond, fsGen, fsDefs, fsDefX, cls, eqVal, reduceCtorEq, Nat.reduceAdd, Nat.reduceMul, Nat.reduceSub, Nat.reduceLT, Nat.reduceLeDiff, Nat.reduceEqDiff, Nat.reduceBEq, Nat.reduceBNe, Int.reduceLT, Int.reduceLE, Int.reduceEq, Int.reduceNe, Int.reduceAdd, Int.reduceSub, Int.reduceNeg, Int.reduceToNat, Int.reduceMul, ↓reduceIte, Int.reduceGT, Int.reduceGE, f0, f2, f4, f33, f34, f35]
      exact ⟨by omega, fun c hc hne => by rw [ho2 c (by omega) hne, hget_appl (by omega)]; exact old c hc hne, M3, xM3, rM3, by omega⟩
    · clear f0 f2 f4 F
      rintro F h' ⟨f0, f2, f4, f33, f34, f35, hl', old, M2, xM2, rM2, hM2⟩
      rw [List.take_of_length_le (Nat.le_refl _)] at rM2
      simp (disch := first | omega | (simp only [fsLen]; omega)) only [↓fsPre, fsPost, fsCond, fsGen, fsDefs, fsDefX, cls, eqVal, reduceCtorEq, Nat.reduceAdd, Nat.reduceMul, Nat.reduceSub, Nat.reduceLT, Nat.reduceLeDiff, Nat.reduceEqDiff, Nat.reduceBEq, Nat.reduceBNe, Int.reduceLT, Int.reduceLE, Int.reduceEq, Int.reduceNe, Int.reduceAdd, Int.reduceSub, Int.reduceNeg, Int.reduceToNat, Int.reduceMul, ↓reduceIte, Int.reduceGT, Int.reduceGE, f0, f2, f4, f33, f34, f35]
      exact ⟨rfl, by show H.length ≤ h'.length; omega, fun c hc hne => by rw [old c (by omega) hne]; exact old3 c hc hne, M2, xM2, rM2, by omega⟩

theorem add_ok (N : Nat) (H : Heap) (R : List Rf) (z0 z1 z2 z3 z4 z5 z6 z7 z8 z9 : NV) (p m : Nat) (M : List (TK × (Int × Int))) (T : TK → Int × Int) (x : CtAt H [z0, z1, z2, z3, z4, z5, z6, z7, z8, z9] p m M) (r : RepT M T)
    (s : RfV H R z0 z1 z2 z3 z4 z5 z6 z7 z8 z9) (hR : R.length ≤ 10) (row : List NV) (e : En) (xE : EnAt H N row e) (hok : ∀ r ∈ R, RfOK r e) (hu : EnU e) (B : Int) (hB : ∀ k, -B ≤ (T k).1 ∧ (T k).1 ≤ B ∧ -B ≤ (T k).2 ∧ (T k).2 ≤ B) (hB2 : B ≤ 100000) :
    DCall Try.prog 17 [.ptr (some (p, 0)), .agg row] H (EntQ H [z0, z1, z2, z3, z4, z5, z6, z7, z8, z9] p m M (entT T R e (1)) ((needsK R e).length + (provK R e).length)) := by
  have lp := hget_some_lt x.hp
  have lm := x.hm.lt
  refine call_det E0 rfl mixed t17_ok (by kernel_rfl) (by rintro q ⟨_, h, _⟩; exact h) ?_
  simp only [t17]
  obtain ⟨mv, av, hrw, om, oav, _⟩ := xE.parts
  subst hrw
  simp (disch := first | omega | (simp only [fsLen]; omega)) only [↓fsPre, fsPost, fsCond, fsGen, fsDefs, fsDefX, cls, eqVal, reduceCtorEq, Nat.reduceAdd, Nat.reduceMul, Nat.reduceSub, Nat.reduceLT, Nat.reduceLeDiff, Nat.reduceEqDiff, Nat.reduceBEq, Nat.reduceBNe, Int.reduceLT, Int.reduceLE, Int.reduceEq, Int.reduceNe, Int.reduceAdd, Int.reduceSub, Int.reduceNeg, Int.reduceToNat, Int.reduceMul, ↓reduceIte, Int.reduceGT, Int.reduceGE, om, oav]
  refine callT_D (enter_ok N _ R z0 z1 z2 z3 z4 z5 z6 z7 z8 z9 p m M T (x.mono (hget_appl lp) (hget_appl lm)) r (s.mono fun b hb => hget_appl hb) hR _ e (xE.mono fun b hb => hget_appl hb) hok hu (1) (by omega) B hB hB2) rfl ?_
  rintro v g ⟨hv, hl, ho, M', xM, rM, hM⟩
  simp only [List.length_append, List.length_cons, List.length_nil] at hv hl ho xM
  subst hv
  simp (disch := first | omega | (simp only [fsLen]; omega)) only [↓fsPre, fsPost, fsCond, fsGen, fsDefs, fsDefX, cls, eqVal, reduceCtorEq, Nat.reduceAdd, Nat.reduceMul, Nat.reduceSub, Nat.reduceLT, Nat.reduceLeDiff, Nat.reduceEqDiff, Nat.reduceBEq, Nat.reduceBNe, Int.reduceLT, Int.reduceLE, Int.reduceEq, Int.reduceNe, Int.reduceAdd, Int.reduceSub, Int.reduceNeg, Int.reduceToNat, Int.reduceMul, ↓reduceIte, Int.reduceGT, Int.reduceGE]
  exact ⟨rfl, by show H.length ≤ g.length; omega, fun c hc hne => by show hget g c = hget H c; rw [ho c (by omega) hne, hget_appl hc], M', xM, rM, hM⟩

theorem remove_ok (N : Nat) (H : Heap) (R : List Rf) (z0 z1 z2 z3 z4 z5 z6 z7 z8 z9 : NV) (p m : Nat) (M : List (TK × (Int × Int))) (T : TK → Int × Int) (x : CtAt H [z0, z1, z2, z3, z4, z5, z6, z7, z8, z9] p m M) (r : RepT M T)
    (s : RfV H R z0 z1 z2 z3 z4 z5 z6 z7 z8 z9) (hR : R.length ≤ 10) (row : List NV) (e : En) (xE : EnAt H N row e) (hok : ∀ r ∈ R, RfOK r e) (hu : EnU e) (B : Int) (hB : ∀ k, -B ≤ (T k).1 ∧ (T k).1 ≤ B ∧ -B ≤ (T k).2 ∧ (T k).2 ≤ B) (hB2 : B ≤ 100000) :
    DCall Try.prog 21 [.ptr (some (p, 0)), .agg row] H (EntQ H [z0, z1, z2, z3, z4, z5, z6, z7, z8, z9] p m M (entT T R e (-1)) ((needsK R e).length + (provK R e).length)) := by
  have lp := hget_some_lt x.hp
  have lm := x.hm.lt
  refine call_det E0 rfl mixed t21_ok (by kernel_rfl) (by rintro q ⟨_, h, _⟩; exact h) ?_
  simp only [t21]
  obtain ⟨mv, av, hrw, om, oav, _⟩ := xE.parts
  subst hrw
  simp (disch := first | omega | (simp only [fsLen]; omega)) only [↓fsPre, fsPost, fsCond, fsGen, fsDefs, fsDefX, cls, eqVal, reduceCtorEq, Nat.reduceAdd, Nat.reduceMul, Nat.reduceSub, Nat.reduceLT, Nat.reduceLeDiff, Nat.reduceEqDiff, Nat.reduceBEq, Nat.reduceBNe, Int.reduceLT, Int.reduceLE, Int.reduceEq, Int.reduceNe, Int.reduceAdd, Int.reduceSub, Int.reduceNeg, Int.reduceToNat, Int.reduceMul, ↓reduceIte, Int.reduceGT, Int.reduceGE, om, oav]
  refine callT_D (enter_ok N _ R z0 z1 z2 z3 z4 z5 z6 z7 z8 z9 p m M T (x.mono (hget_appl lp) (hget_appl lm)) r (s.mono fun b hb => hget_appl hb) hR _ e (xE.mono fun b hb => hget_appl hb) hok hu (-1) (by omega) B hB hB2) rfl ?_
  rintro v g ⟨hv, hl, ho, M', xM, rM, hM⟩
  simp only [List.length_append, List.length_cons, List.length_nil] at hv hl ho xM
  subst hv
  simp (disch := first | omega | (simp only [fsLen]; omega)) only [↓fsPre, fsPost, fsCond, fsGen, fsDefs, fsDefX, cls, eqVal, reduceCtorEq, Nat.reduceAdd, Nat.reduceMul, Nat.reduceSub, Nat.reduceLT, Nat.reduceLeDiff, Nat.reduceEqDiff, Nat.reduceBEq, Nat.reduceBNe, Int.reduceLT, Int.reduceLE, Int.reduceEq, Int.reduceNe, Int.reduceAdd, Int.reduceSub, Int.reduceNeg, Int.reduceToNat, Int.reduceMul, ↓reduceIte, Int.reduceGT, Int.reduceGE]
  exact ⟨rfl, by show H.length ≤ g.length; omega, fun c hc hne => by show hget g c = hget H c; rw [ho c (by omega) hne, hget_appl hc], M', xM, rM, hM⟩

def dangB (x : TK × (Int × Int)) : Bool := decide (0 < x.2.1 ∧ x.2.2 = 0)
def dangK (L : List (TK × (Int × Int))) : List TK := (L.filter dangB).map (·.1)
theorem dangK_snoc (L : List (TK × (Int × Int))) (x : TK × (Int × Int)) : dangK (L ++ [x]) = dangK L ++ (if dangB x = true then [x.1] else []) := by
  unfold dangK
  rw [List.filter_append, List.map_append]
  congr 1
  by_cases h : dangB x = true
  · rw [if_pos h, List.filter_cons_of_pos h]; rfl
  · rw [if_neg h, List.filter_cons_of_neg h]; rfl
theorem dangK_le (L : List (TK × (Int × Int))) : (dangK L).length ≤ L.length := by
  unfold dangK
  rw [List.length_map]
  exact List.length_filter_le _ _
theorem cnC_fill (x : TK × (Int × Int)) : cnC x ++ List.drop (cnC x).length [NV.int .i64 0, NV.int .i64 0, NV.int .u64 0, NV.int .u64 0, NV.int .i64 0, NV.int .i64 0] = cnC x := by
  rw [cnC_length]; exact List.append_nil _
theorem cnC_one (x : TK × (Int × Int)) : (cnC x).all NV.one = true := rfl
theorem cnC_n (x : TK × (Int × Int)) : (cnC x)[4]? = some (.int .i64 x.2.1) := rfl
theorem cnC_p (x : TK × (Int × Int)) : (cnC x)[5]? = some (.int .i64 x.2.2) := rfl
theorem cnC_k (x : TK × (Int × Int)) : cut (cnC x) 0 4 = some (tkC x.1) := rfl
def dangQ (H : Heap) (l : List TK) (r : NV × Heap) : Prop := H.length ≤ r.2.length ∧ (∀ b, b < H.length → hget r.2 b = hget H b) ∧ GrC r.2 H.length (l.flatMap tkC) 4 r.1

set_option maxHeartbeats 1000000 in
theorem dang_ok (H : Heap) (z0 z1 z2 z3 z4 z5 z6 z7 z8 z9 : NV) (p m : Nat) (M L : List (TK × (Int × Int))) (x : CtAt H [z0, z1, z2, z3, z4, z5, z6, z7, z8, z9] p m M) (hs : SortedK ltK L) (hp : L.Perm M) (hM : M.length ≤ 150) :
    DCall Try.prog 18 [.ptr (some (p, 0))] H (dangQ H (dangK L)) := by
  refine call_det E0 rfl mixed t18_ok (by kernel_rfl) (by rintro q ⟨h, _⟩; exact h) ?_
  simp only [t18]
  simp (disch := first | omega | (simp only [fsLen]; omega)) only [↓fsPre, fsPost, fsCond, fsGen, fsDefs, fsDefX, cls, eqVal, reduceCtorEq, Nat.reduceAdd, Nat.reduceMul, Nat.reduceSub, Nat.reduceLT, Nat.reduceLeDiff, Nat.reduceEqDiff, Nat.reduceBEq, Nat.reduceBNe, Int.reduceLT, Int.reduceLE, Int.reduceEq, Int.reduceNe, Int.reduceAdd, Int.reduceSub, Int.reduceNeg, Int.reduceToNat, Int.reduceMul, ↓reduceIte, Int.reduceGT, Int.reduceGE]
  by_cases h0 : M = []
  · subst h0
    have hL : L = [] := by simpa using hp.length_eq
    subst hL
    refine callT_one (call_nil _ _ _ _ _ _ _ _ _ _ _ _ _ x) rfl ?_
    simp (disch := first | omega | (simp only [fsLen]; omega)) only [↓fsPre, fsPost, fsCond, fsGen, fsDefs, fsDefX, cls, eqVal, reduceCtorEq, Nat.reduceAdd, Nat.reduceMul, Nat.reduceSub, Nat.reduceLT, Nat.reduceLeDiff, Nat.reduceEqDiff, Nat.reduceBEq, Nat.reduceBNe, Int.reduceLT, Int.reduceLE, Int.reduceEq, Int.reduceNe, Int.reduceAdd, Int.reduceSub, Int.reduceNeg, Int.reduceToNat, Int.reduceMul, ↓reduceIte, Int.reduceGT, Int.reduceGE]
    refine wloop (fun j F h => F 3 = .slice none 0 (.fix 0) ∧ F 8 = .int .i64 0 ∧ F 9 = .int .i64 0 ∧ h = H) 0 ?_ ?_ ?_
    · simp (disch := first | omega | (simp only [fsLen]; omega)) only [↓fsPre, fsPost, fsCond, fsGen, fsDefs, fsDefX, cls, eqVal, reduceCtorEq, Nat.reduceAdd, Nat.reduceMul, Nat.reduceSub, Nat.reduceLT, Nat.reduceLeDiff, Nat.reduceEqDiff, Nat.reduceBEq, Nat.reduceBNe, Int.reduceLT, Int.reduceLE, Int.reduceEq, Int.reduceNe, Int.reduceAdd, Int.reduceSub, Int.reduceNeg, Int.reduceToNat, Int.reduceMul, ↓reduceIte, Int.reduceGT, Int.reduceGE]
    · intro j F h hj; omega
    · rintro F h ⟨f3, f8, f9, rfl⟩
      simp (disch := first | omega | (simp only [fsLen]; omega)) only [↓fsPre, fsPost, fsCond, fsGen, fsDefs, fsDefX, cls, eqVal, reduceCtorEq, Nat.reduceAdd, Nat.reduceMul, Nat.reduceSub, Nat.reduceLT, Nat.reduceLeDiff, Nat.reduceEqDiff, Nat.reduceBEq, Nat.reduceBNe, Int.reduceLT, Int.reduceLE, Int.reduceEq, Int.reduceNe, Int.reduceAdd, Int.reduceSub, Int.reduceNeg, Int.reduceToNat, Int.reduceMul, ↓reduceIte, Int.reduceGT, Int.reduceGE, f3, f8, f9]
      exact ⟨Nat.le_refl _, fun b _ => rfl, GrC.nil⟩
  · refine callT_one (call_some _ _ _ _ _ _ _ _ _ _ _ _ _ M L x hs hp hM h0) rfl ?_
    simp (disch := first | omega | (simp only [fsLen]; omega)) only [↓fsPre, fsPost, fsCond, fsGen, fsDefs, fsDefX, cls, eqVal, reduceCtorEq, Nat.reduceAdd, Nat.reduceMul, Nat.reduceSub, Nat.reduceLT, Nat.reduceLeDiff, Nat.reduceEqDiff, Nat.reduceBEq, Nat.reduceBNe, Int.reduceLT, Int.reduceLE, Int.reduceEq, Int.reduceNe, Int.reduceAdd, Int.reduceSub, Int.reduceNeg, Int.reduceToNat, Int.reduceMul, ↓reduceIte, Int.reduceGT, Int.reduceGE]
    have hlen := hp.length_eq
    refine wloop (fun j F h => ∃ v, F 3 = v ∧ F 7 = .slice (some (H.length, 0)) L.length (.opn 6) ∧ F 8 = .int .i64 L.length ∧ F 9 = .int .i64 j ∧ H.length + 1 ≤ h.length ∧ (∀ b, b < H.length → hget h b = hget H b) ∧ hget h H.length = some (.cells (L.flatMap cnC) false) ∧ GrC h (H.length + 1) ((dangK (L.take j)).flatMap tkC) 4 v) L.length ?_ ?_ ?_
    · refine ⟨.slice none 0 (.fix 0), ?_⟩
      simp (disch := first | omega | (simp only [fsLen]; omega)) only [↓fsPre, fsPost, fsCond, fsGen, fsDefs, fsDefX, cls, eqVal, reduceCtorEq, Nat.reduceAdd, Nat.reduceMul, Nat.reduceSub, Nat.reduceLT, Nat.reduceLeDiff, Nat.reduceEqDiff, Nat.reduceBEq, Nat.reduceBNe, Int.reduceLT, Int.reduceLE, Int.reduceEq, Int.reduceNe, Int.reduceAdd, Int.reduceSub, Int.reduceNeg, Int.reduceToNat, Int.reduceMul, ↓reduceIte, Int.reduceGT, Int.reduceGE]
      exact ⟨fun b hb => hget_appl hb, GrC.nil⟩
    · rintro j F h hj ⟨v, f3, f7, f8, f9, hl, old, hb, hg⟩
      have hbl := hget_some_lt hb
      have hc : cut (L.flatMap cnC) (j * 6) 6 = some (cnC L[j]) := cut_flatMap cnC_length hj
      have htk : L.take (j + 1) = L.take j ++ [L[j]] := by rw [List.take_add_one, List.getElem?_eq_getElem hj]; rfl
      have hdl := dangK_le (L.take j)
      rw [List.length_take] at hdl
      have hsn := dangK_snoc (L.take j) L[j]
      rw [← htk] at hsn
      by_cases g1 : 0 < L[j].2.1
      · by_cases g2 : L[j].2.2 = 0
        · have hd : dangB L[j] = true := by unfold dangB; simp [g1, g2]
          rw [if_pos hd] at hsn
          simp (disch := first | omega | (simp only [fsLen]; omega)) only [↓fsPre, fsPost, fsCond, fsGen, fsDefs, fsDefX, cls, eqVal, reduceCtorEq, Nat.reduceAdd, Nat.reduceMul, Nat.reduceSub, Nat.reduceLT, Nat.reduceLeDiff, Nat.reduceEqDiff, Nat.reduceBEq, Nat.reduceBNe, Int.reduceLT, Int.reduceLE, Int.reduceEq, Int.reduceNe, Int.reduceAdd, Int.reduceSub, Int.reduceNeg, Int.reduceToNat, Int.reduceMul, ↓reduceIte, Int.reduceGT, Int.reduceGE, f3, f7, f8, f9, hb, hc, cnC_one, cnC_length, cnC_fill, cnC_n, cnC_p, cnC_k, decide_eq_true g1, g2, tkC_one, tkC_length]
          refine grc_app (N := H.length + 1) (new := tkC L[j].1) (m := 1) (hg.ext Ext.app) (by rw [List.length_append]; omega) (sliceCells_at (by simp (disch := first | omega | (simp only [fsLen]; omega)) only [↓fsPre, fsPost, fsCond, fsGen, fsDefs, fsDefX, cls, eqVal, reduceCtorEq, Nat.reduceAdd, Nat.reduceMul, Nat.reduceSub, Nat.reduceLT, Nat.reduceLeDiff, Nat.reduceEqDiff, Nat.reduceBEq, Nat.reduceBNe, Int.reduceLT, Int.reduceLE, Int.reduceEq, Int.reduceNe, Int.reduceAdd, Int.reduceSub, Int.reduceNeg, Int.reduceToNat, Int.reduceMul, ↓reduceIte, Int.reduceGT, Int.reduceGE] <;> rfl) rfl) rfl (by omega) (by omega) rfl (by rw [tks_length]; omega) (by omega) (by omega) ?_
          intro v' h'' g' hl'' ho''
          simp only [List.length_append, List.length_cons, List.length_nil] at hl''
          simp (disch := first | omega | (simp only [fsLen]; omega)) only [↓fsPre, fsPost, fsCond, fsGen, fsDefs, fsDefX, cls, eqVal, reduceCtorEq, Nat.reduceAdd, Nat.reduceMul, Nat.reduceSub, Nat.reduceLT, Nat.reduceLeDiff, Nat.reduceEqDiff, Nat.reduceBEq, Nat.reduceBNe, Int.reduceLT, Int.reduceLE, Int.reduceEq, Int.reduceNe, Int.reduceAdd, Int.reduceSub, Int.reduceNeg, Int.reduceToNat, Int.reduceMul, ↓reduceIte, Int.reduceGT, Int.reduceGE, f3, f7, f8, f9]
          refine ⟨v', ?_⟩
          simp (disch := first | omega | (simp only [fsLen]; omega)) only [↓fsPre, fsPost, fsCond, fsGen, fsDefs, fsDefX, cls, eqVal, reduceCtorEq, Nat.reduceAdd, Nat.reduceMul, Nat.reduceSub, Nat.reduceLT, Nat.reduceLeDiff, Nat.reduceEqDiff, Nat.reduceBEq, Nat.reduceBNe, Int.reduceLT, Int.reduceLE, Int.reduceEq, Int.reduceNe, Int.reduceAdd, Int.reduceSub, Int.reduceNeg, Int.reduceToNat, Int.reduceMul, ↓reduceIte, Int.reduceGT, Int.reduceGE, f3, f7, f8, f9]
          refine ⟨by omega, fun b hb' => ?_, ?_, ?_⟩
          · rw [ho'' _ (by omega), hget_appl (by omega)]; exact old b hb'
          · rw [ho'' _ (by omega), hget_appl (by omega)]; exact hb
          · rw [hsn, List.flatMap_append, List.flatMap_cons, List.flatMap_nil, List.append_nil]; exact g'
        · have hd : ¬ dangB L[j] = true := by unfold dangB; simp [g2]
          rw [if_neg hd, List.append_nil] at hsn
          simp (disch := first | omega | (simp only [fsLen]; omega)) only [↓fsPre, fsPost, fsCond, fsGen, fsDefs, fsDefX, cls, eqVal, reduceCtorEq, Nat.reduceAdd, Nat.reduceMul, Nat.reduceSub, Nat.reduceLT, Nat.reduceLeDiff, Nat.reduceEqDiff, Nat.reduceBEq, Nat.reduceBNe, Int.reduceLT, Int.reduceLE, Int.reduceEq, Int.reduceNe, Int.reduceAdd, Int.reduceSub, Int.reduceNeg, Int.reduceToNat, Int.reduceMul, ↓reduceIte, Int.reduceGT, Int.reduceGE, f3, f7, f8, f9, hb, hc, cnC_one, cnC_length, cnC_fill, cnC_n, cnC_p, cnC_k, decide_eq_true g1, g2, tkC_one, tkC_length]
          rw [hsn]
          refine ⟨v, ?_⟩
          simp (disch := first | omega | (simp only [fsLen]; omega)) only [↓fsPre, fsPost, fsCond, fsGen, fsDefs, fsDefX, cls, eqVal, reduceCtorEq, Nat.reduceAdd, Nat.reduceMul, Nat.reduceSub, Nat.reduceLT, Nat.reduceLeDiff, Nat.reduceEqDiff, Nat.reduceBEq, Nat.reduceBNe, Int.reduceLT, Int.reduceLE, Int.reduceEq, Int.reduceNe, Int.reduceAdd, Int.reduceSub, Int.reduceNeg, Int.reduceToNat, Int.reduceMul, ↓reduceIte, Int.reduceGT, Int.reduceGE, f3, f7, f8, f9, hb]
          exact ⟨by omega, fun b hb' => by rw [hget_appl (by omega)]; exact old b hb', hg.ext Ext.app⟩
      · have hd : ¬ dangB L[j] = true := by unfold dangB; simp [g1]
        rw [if_neg hd, List.append_nil] at hsn
        simp (disch := first | omega | (simp only [fsLen]; omega)) only [↓fsPre, fsPost, fsCond, fsGen, fsDefs, fsDefX, cls, eqVal, reduceCtorEq, Nat.reduceAdd, Nat.reduceMul, Nat.reduceSub, Nat.reduceLT, Nat.reduceLeDiff, Nat.reduceEqDiff, Nat.reduceBEq, Nat.reduceBNe, Int.reduceLT, Int.reduceLE, Int.reduceEq, Int.reduceNe, Int.reduceAdd, Int.reduceSub, Int.reduceNeg, Int.reduceToNat, Int.reduceMul, ↓reduceIte, Int.reduceGT, Int.reduceGE, f3, f7, f8, f9, hb, hc, cnC_one, cnC_length, cnC_fill, cnC_n, cnC_p, cnC_k, decide_eq_false g1, nbool_undef, guardK_none, tkC_one, tkC_length]
        rw [hsn]
        refine ⟨v, ?_⟩
        simp (disch := first | omega | (simp only [fsLen]; omega)) only [↓fsPre, fsPost, fsCond, fsGen, fsDefs, fsDefX, cls, eqVal, reduceCtorEq, Nat.reduceAdd, Nat.reduceMul, Nat.reduceSub, Nat.reduceLT, Nat.reduceLeDiff, Nat.reduceEqDiff, Nat.reduceBEq, Nat.reduceBNe, Int.reduceLT, Int.reduceLE, Int.reduceEq, Int.reduceNe, Int.reduceAdd, Int.reduceSub, Int.reduceNeg, Int.reduceToNat, Int.reduceMul, ↓reduceIte, Int.reduceGT, Int.reduceGE, f3, f7, f8, f9, hb]
        exact ⟨by omega, fun b hb' => by rw [hget_appl (by omega)]; exact old b hb', hg.ext Ext.app⟩
    · rintro F h ⟨v, f3, f7, f8, f9, hl, old, hb, hg⟩
      rw [List.take_of_length_le (Nat.le_refl _)] at hg
      have ov := hg.one
      simp (disch := first | omega | (simp only [fsLen]; omega)) only [↓fsPre, fsPost, fsCond, fsGen, fsDefs, fsDefX, cls, eqVal, reduceCtorEq, Nat.reduceAdd, Nat.reduceMul, Nat.reduceSub, Nat.reduceLT, Nat.reduceLeDiff, Nat.reduceEqDiff, Nat.reduceBEq, Nat.reduceBNe, Int.reduceLT, Int.reduceLE, Int.reduceEq, Int.reduceNe, Int.reduceAdd, Int.reduceSub, Int.reduceNeg, Int.reduceToNat, Int.reduceMul, ↓reduceIte, Int.reduceGT, Int.reduceGE, f3, f7, f8, f9, ov]
      exact ⟨by show H.length ≤ h.length; omega, old, hg.low (by omega)⟩

noncomputable def c1 (R : List Rf) (e : En) (k : TK) : Int := ((needsK R e).count k : Nat)
noncomputable def c2 (R : List Rf) (e : En) (k : TK) : Int := ((provK R e).count k : Nat)
theorem entT_eq (T : TK → Int × Int) (R : List Rf) (e : En) (n : Int) (k : TK) : entT T R e n k = ((T k).1 + c1 R e k * n, (T k).2 + c2 R e k * n) := by
  unfold entT sumT c1 c2
  simp
noncomputable def accT (R : List Rf) : List En → TK → Int × Int
  | [], _ => (0, 0)
  | e :: es, k => ((accT R es k).1 + c1 R e k, (accT R es k).2 + c2 R e k)
theorem accT_perm {R : List Rf} {l l' : List En} (p : l.Perm l') : accT R l = accT R l' := by
  induction p with
  | nil => rfl
  | cons e p ih => funext k; unfold accT; rw [ih]
  | swap a b l =>
    funext k
    simp only [accT]
    exact Prod.ext (by simp only; omega) (by simp only; omega)
  | trans _ _ h1 h2 => rw [h1, h2]
theorem accT_snoc (R : List Rf) (l : List En) (e : En) : accT R (l ++ [e]) = entT (accT R l) R e 1 := by
  funext k
  rw [accT_perm (List.perm_append_comm (l₁ := l) (l₂ := [e])), entT_eq]
  show accT R (e :: l) k = _
  simp only [accT, Int.mul_one]
theorem accT_drop (R : List Rf) (l : List En) (e : En) : entT (accT R (e :: l)) R e (-1) = accT R l := by
  funext k
  rw [entT_eq]
  simp only [accT]
  exact Prod.ext (by simp only; omega) (by simp only; omega)
theorem accT_bound (R : List Rf) (hR : R.length ≤ 10) : ∀ (l : List En) (k : TK), 0 ≤ (accT R l k).1 ∧ (accT R l k).1 ≤ 10 * l.length ∧ 0 ≤ (accT R l k).2 ∧ (accT R l k).2 ≤ 10 * l.length
  | [], k => by simp [accT]
  | e :: l, k => by
    have ih := accT_bound R hR l k
    have h1 : (needsK R e).count k ≤ 10 := Nat.le_trans List.count_le_length (by unfold needsK; rw [List.length_map]; have := needsL_le R e; omega)
    have h2 : (provK R e).count k ≤ 10 := Nat.le_trans List.count_le_length (by unfold provK; rw [List.length_map]; have := provL_le R e; omega)
    simp only [accT, c1, c2, List.length_cons]
    omega
theorem RepT.zero {M : List (TK × (Int × Int))} {T : TK → Int × Int} (r : RepT M T) (h : ∀ k, T k = (0, 0)) : M = [] := by
  cases M with
  | nil => rfl
  | cons x M =>
    obtain ⟨k, v⟩ := x
    have := (r.mem k v).1 (List.mem_cons_self ..)
    rw [h k] at this
    exact absurd this.1.symm this.2
/-- Two maps of the same tallies, in order. -/
theorem RepT.same {M M' L L' : List (TK × (Int × Int))} {T : TK → Int × Int} (r : RepT M T) (r' : RepT M' T) (s : SortedK ltK L) (s' : SortedK ltK L') (p : L.Perm M) (p' : L'.Perm M') : L = L' := by
  have q := r.perm p
  have q' := r'.perm p'
  refine SortedK.eq ltK_ord s s' ?_
  have n1 : L.Nodup := List.Pairwise.imp (fun h e => h (by rw [e])) (List.pairwise_map.1 q.nd)
  have n2 : L'.Nodup := List.Pairwise.imp (fun h e => h (by rw [e])) (List.pairwise_map.1 q'.nd)
  rw [List.perm_ext_iff_of_nodup n1 n2]
  rintro ⟨k, v⟩
  rw [q.mem, q'.mem]
theorem refsOf_le6 (t : TP) : (refsOf t).length ≤ 6 := by
  unfold refsOf
  cases t.m3 <;> cases t.m4 <;> simp
/-- The entries from one on, downwards and around. -/
def turned (es : List En) (t : Nat) : List En := (es.take (t + 1)).reverse ++ (es.drop (t + 1)).reverse
theorem turned_perm (es : List En) (t : Nat) : (turned es t).Perm es := by
  unfold turned
  have := (List.reverse_perm (es.take (t + 1))).append (List.reverse_perm (es.drop (t + 1)))
  rwa [List.take_append_drop] at this
theorem turned_length (es : List En) (t : Nat) : (turned es t).length = es.length := (turned_perm es t).length_eq
theorem turned_at {es : List En} {t i : Nat} (ht : t < es.length) (hi : i < es.length) : (turned es t)[i]? = es[(modN ((t : Int) - i) es.length).toNat]? := by
  have hmod : modN ((t : Int) - i) es.length = if i ≤ t then (t : Int) - i else (t : Int) - i + es.length := by
    unfold modN
    split
    · rename_i h
      have h1 : ((t : Int) - i).tmod es.length = (t : Int) - i := Int.tmod_eq_of_lt (by omega) (by omega)
      rw [h1, Int.tmod_eq_emod_of_nonneg (by omega), Int.add_emod_right, Int.emod_eq_of_lt (by omega) (by omega)]
    · rename_i h
      have h1 : ((t : Int) - i).tmod es.length = (t : Int) - i := by
        have h2 : ((i : Int) - t).tmod es.length = (i : Int) - t := Int.tmod_eq_of_lt (by omega) (by omega)
        have h3 := Int.neg_tmod ((i : Int) - t) es.length
        rw [h2] at h3
        rw [show (t : Int) - i = -((i : Int) - t) by omega]
        exact h3
      rw [h1]
      exact Int.tmod_eq_of_lt (by omega) (by omega)
  rw [hmod]
  unfold turned
  split
  · rename_i h
    rw [List.getElem?_append_left (by simp; omega), List.getElem?_reverse (by simp; omega), List.getElem?_take_of_lt (by simp; omega)]
    congr 1
    simp
    omega
  · rename_i h
    rw [List.getElem?_append_right (by simp; omega), List.getElem?_reverse (by simp; omega), List.getElem?_drop]
    congr 1
    simp
    omega
def d6 : NCode := (.seq
 (.seq
 (.ops [
 ⟨(some 81), .move (.tmp 11), none⟩,
 ⟨(some 82), .lenSl (.tmp 81), none⟩,
 ⟨(some 83), .move (.const (.int .i64 0)), none⟩])
 (.block 4
 (.loop
 (.seq
 (.ops [
 ⟨(some 84), .bin .lss (.tmp 83) (.tmp 82), none⟩])
 (.seq
 (.cond (.tmp 84)
 .skip
 (.exit 4))
 (.seq
 (.block 5
 (.seq
 (.ops [
 ⟨(some 85), .idxSl (.tmp 81) (.tmp 83) 5, none⟩,
 ⟨(some 86), .load 5 true (.tmp 85), none⟩,
 ⟨(some 18), .alloc [(.int .i64 0), (.slice none 0 (.fix 0)), (.int .i64 0), (.int .i64 0), (.slice none 0 (.fix 0))], none⟩,
 ⟨none, .store 5 (.tmp 18) (.tmp 86), none⟩])
 (.ops [
 ⟨(some 87), .move (.tmp 9), none⟩,
 ⟨(some 88), .load 5 true (.tmp 18), none⟩,
 ⟨(some 89), .call 21 [(.tmp 87), (.tmp 88)], none⟩])))
 (.ops [
 ⟨(some 90), .bin .add (.tmp 83) (.const (.int .i64 1)), none⟩,
 ⟨(some 83), .move (.tmp 90), none⟩])))))))
 (.seq
 (.ops [
 ⟨(some 91), .move (.tmp 9), none⟩,
 ⟨(some 92), .call 24 [(.tmp 91)], none⟩,
 ⟨(some 93), .lenSl (.tmp 92), none⟩,
 ⟨(some 94), .bin .eql (.tmp 93) (.const (.int .i64 0)), none⟩,
 ⟨(some 95), .move (.tmp 94), none⟩,
 ⟨(some 96), .move (.tmp 9), (some (95, true))⟩,
 ⟨(some 97), .call 18 [(.tmp 96)], (some (95, true))⟩,
 ⟨(some 98), .lenSl (.tmp 97), (some (95, true))⟩,
 ⟨(some 99), .bin .eql (.tmp 98) (.const (.int .i64 0)), (some (95, true))⟩,
 ⟨(some 100), .pick (.tmp 95) (.tmp 99) (.const (.bool false)), none⟩,
 ⟨(some 101), .move (.tmp 100), none⟩,
 ⟨(some 102), .call 15 [], (some (101, true))⟩,
 ⟨(some 103), .pick (.tmp 101) (.tmp 102) (.const (.bool false)), none⟩,
 ⟨(some 6), .move (.tmp 103), none⟩])
 .ret))
theorem d6_eq : d6 = (.seq
 (.seq
 (.ops [
 ⟨(some 81), .move (.tmp 11), none⟩,
 ⟨(some 82), .lenSl (.tmp 81), none⟩,
 ⟨(some 83), .move (.const (.int .i64 0)), none⟩])
 (.block 4
 (.loop
 (.seq
 (.ops [
 ⟨(some 84), .bin .lss (.tmp 83) (.tmp 82), none⟩])
 (.seq
 (.cond (.tmp 84)
 .skip
 (.exit 4))
 (.seq
 (.block 5
 (.seq
 (.ops [
 ⟨(some 85), .idxSl (.tmp 81) (.tmp 83) 5, none⟩,
 ⟨(some 86), .load 5 true (.tmp 85), none⟩,
 ⟨(some 18), .alloc [(.int .i64 0), (.slice none 0 (.fix 0)), (.int .i64 0), (.int .i64 0), (.slice none 0 (.fix 0))], none⟩,
 ⟨none, .store 5 (.tmp 18) (.tmp 86), none⟩])
 (.ops [
 ⟨(some 87), .move (.tmp 9), none⟩,
 ⟨(some 88), .load 5 true (.tmp 18), none⟩,
 ⟨(some 89), .call 21 [(.tmp 87), (.tmp 88)], none⟩])))
 (.ops [
 ⟨(some 90), .bin .add (.tmp 83) (.const (.int .i64 1)), none⟩,
 ⟨(some 83), .move (.tmp 90), none⟩])))))))
 (.seq
 (.ops [
 ⟨(some 91), .move (.tmp 9), none⟩,
 ⟨(some 92), .call 24 [(.tmp 91)], none⟩,
 ⟨(some 93), .lenSl (.tmp 92), none⟩,
 ⟨(some 94), .bin .eql (.tmp 93) (.const (.int .i64 0)), none⟩,
 ⟨(some 95), .move (.tmp 94), none⟩,
 ⟨(some 96), .move (.tmp 9), (some (95, true))⟩,
 ⟨(some 97), .call 18 [(.tmp 96)], (some (95, true))⟩,
 ⟨(some 98), .lenSl (.tmp 97), (some (95, true))⟩,
 ⟨(some 99), .bin .eql (.tmp 98) (.const (.int .i64 0)), (some (95, true))⟩,
 ⟨(some 100), .pick (.tmp 95) (.tmp 99) (.const (.bool false)), none⟩,
 ⟨(some 101), .move (.tmp 100), none⟩,
 ⟨(some 102), .call 15 [], (some (101, true))⟩,
 ⟨(some 103), .pick (.tmp 101) (.tmp 102) (.const (.bool false)), none⟩,
 ⟨(some 6), .move (.tmp 103), none⟩])
 .ret)) := rfl

/-- All blocks of cells are kept. -/
def KeepC (G h : Heap) : Prop := ∀ b cs ro, hget G b = some (.cells cs ro) → hget h b = some (.cells cs ro)
theorem RfV.keepC {h h' : Heap} {R : List Rf} {z0 z1 z2 z3 z4 z5 z6 z7 z8 z9 : NV} (s : RfV h R z0 z1 z2 z3 z4 z5 z6 z7 z8 z9) (k : KeepC h h') : RfV h' R z0 z1 z2 z3 z4 z5 z6 z7 z8 z9 := by
  obtain ⟨o, b, c, cs, ro, h1, h2, h3⟩ := s
  exact ⟨o, b, c, cs, ro, h1, k _ _ _ h2, h3⟩
theorem grc_keepC {h h' : Heap} {N e : Nat} {C : List NV} {v : NV} (g : GrC h N C e v) (k : KeepC h h') : GrC h' N C e v := by
  rcases g with g | ⟨b, n, h1, h2, h3, h4⟩
  · exact .inl g
  · exact .inr ⟨b, n, h1, h2, k _ _ _ h3, h4⟩
theorem EnAt.keepC {h h' : Heap} {N : Nat} {row : List NV} {e : En} (x : EnAt h N row e) (k : KeepC h h') : EnAt h' N row e := by
  obtain ⟨mv, av, h1, h2, h3⟩ := x
  exact ⟨mv, av, h1, grc_keepC h2 k, grc_keepC h3 k⟩
theorem keepC_of {G h : Heap} {mx my : Nat} (hx : ∃ es cl, hget G mx = some (.map es cl)) (hy : ∃ es cl, hget G my = some (.map es cl)) (k : ∀ b, b < G.length → b ≠ mx → b ≠ my → hget h b = hget G b) : KeepC G h := by
  intro b cs ro hb
  obtain ⟨_, _, hx⟩ := hx
  obtain ⟨_, _, hy⟩ := hy
  rw [k b (hget_lt hb) (by rintro rfl; rw [hx] at hb; cases hb) (by rintro rfl; rw [hy] at hb; cases hb)]
  exact hb

set_option maxHeartbeats 4000000 in
theorem rest_ok (t : TP) (N : Nat) (z0 z1 z2 z3 z4 z5 z6 z7 z8 z9 : NV) (G : Heap) (px mx : Nat) (Mx : List (TK × (Int × Int))) (rows : List (List NV)) (es : List En) (oa : Option (Nat × Nat)) (oc : Cap) (hrl : rows.length = es.length) (hle : es.length ≤ 10) (hR : (refsOf t).length ≤ 10)
    (hr5 : ∀ r ∈ rows, r.length = 5) (ho : 0 < rows.length → ∃ bo, oa = some (bo, 0) ∧ hget G bo = some (.cells rows.flatten false)) (hrow : ∀ i (h1 : i < rows.length) (h2 : i < es.length), EnAt G N rows[i] es[i] ∧ EnU es[i] ∧ ∀ r ∈ refsOf t, RfOK r es[i])
    (rvG : RfV G (refsOf t) z0 z1 z2 z3 z4 z5 z6 z7 z8 z9) (ax : CtAt G [z0, z1, z2, z3, z4, z5, z6, z7, z8, z9] px mx Mx) (bx : RepT Mx (accT (refsOf t) es))
    (F : FF) (f9 : F 9 = .ptr (some (px, 0))) (f11 : F 11 = .slice oa rows.length oc) : fwpT E0 d6 (fend [.tmp 6] fun q => q.1 = .bool true) F G .mk := by
  rw [d6_eq]
  have mapx := ax.map
  have hnp : ∀ e, (needsK (refsOf t) e).length + (provK (refsOf t) e).length ≤ 12 := fun e => by
    unfold needsK provK
    rw [List.length_map, List.length_map]
    have := needsL_le (refsOf t) e
    have := provL_le (refsOf t) e
    have := refsOf_le6 t
    omega
  have hBd : ∀ l : List En, l.length ≤ 10 → ∀ k, -(100 : Int) ≤ (accT (refsOf t) l k).1 ∧ (accT (refsOf t) l k).1 ≤ 100 ∧ -(100 : Int) ≤ (accT (refsOf t) l k).2 ∧ (accT (refsOf t) l k).2 ≤ 100 := fun l hl k => by
    have := accT_bound (refsOf t) hR l k
    omega
  simp (disch := first | omega | (simp only [fsLen]; omega)) only [↓fsPre, fsPost, fsCond, fsGen, fsDefs, fsDefX, cls, eqVal, reduceCtorEq, Nat.reduceAdd, Nat.reduceMul, Nat.reduceSub, Nat.reduceLT, Nat.reduceLeDiff, Nat.reduceEqDiff, Nat.reduceBEq, Nat.reduceBNe, Int.reduceLT, Int.reduceLE, Int.reduceEq, Int.reduceNe, Int.reduceAdd, Int.reduceSub, Int.reduceNeg, Int.reduceToNat, Int.reduceMul, ↓reduceIte, Int.reduceGT, Int.reduceGE, f9, f11]
  refine wloop (fun j F h => F 9 = .ptr (some (px, 0)) ∧ F 81 = .slice oa rows.length oc ∧ F 82 = .int .i64 rows.length ∧ F 83 = .int .i64 j ∧ G.length ≤ h.length ∧ (∀ b, b < G.length → b ≠ mx → hget h b = hget G b) ∧
    ∃ M, CtAt h [z0, z1, z2, z3, z4, z5, z6, z7, z8, z9] px mx M ∧ RepT M (accT (refsOf t) (es.drop j))) rows.length ?_ ?_ ?_
  · simp (disch := first | omega | (simp only [fsLen]; omega)) only [↓fsPre, fsPost, fsCond, fsGen, fsDefs, fsDefX, cls, eqVal, reduceCtorEq, Nat.reduceAdd, Nat.reduceMul, Nat.reduceSub, Nat.reduceLT, Nat.reduceLeDiff, Nat.reduceEqDiff, Nat.reduceBEq, Nat.reduceBNe, Int.reduceLT, Int.reduceLE, Int.reduceEq, Int.reduceNe, Int.reduceAdd, Int.reduceSub, Int.reduceNeg, Int.reduceToNat, Int.reduceMul, ↓reduceIte, Int.reduceGT, Int.reduceGE, f9, f11]
    exact ⟨Mx, ax, bx⟩
  · rintro j F h hj ⟨f9, f81, f82, f83, hl, old, M, a1, b1⟩
    obtain ⟨bo, hoa, hbo⟩ := ho (by omega)
    subst hoa
    have kc : KeepC G h := keepC_of mapx mapx fun b hb h1 _ => old b hb h1
    have hboh := kc _ _ _ hbo
    have hbol := hget_some_lt hboh
    have hck : cut rows.flatten (j * 5) 5 = some rows[j] := flat_cut hr5 j hj
    have hje : j < es.length := by omega
    obtain ⟨x1, x2, x3⟩ := hrow j hj hje
    have xe := x1.keepC kc
    obtain ⟨mv, av, hrw, om, oav, _⟩ := xe.parts
    rw [hrw] at hck xe
    simp (disch := first | omega | (simp only [fsLen]; omega)) only [↓fsPre, fsPost, fsCond, fsGen, fsDefs, fsDefX, cls, eqVal, reduceCtorEq, Nat.reduceAdd, Nat.reduceMul, Nat.reduceSub, Nat.reduceLT, Nat.reduceLeDiff, Nat.reduceEqDiff, Nat.reduceBEq, Nat.reduceBNe, Int.reduceLT, Int.reduceLE, Int.reduceEq, Int.reduceNe, Int.reduceAdd, Int.reduceSub, Int.reduceNeg, Int.reduceToNat, Int.reduceMul, ↓reduceIte, Int.reduceGT, Int.reduceGE, f9, f81, f82, f83, hboh, hck, om, oav]
    have lpx1 := hget_some_lt a1.hp
    have lmx1 := a1.hm.lt
    have hdj : es.drop j = es[j] :: es.drop (j + 1) := List.drop_eq_getElem_cons hje
    refine callT_D (remove_ok _ _ (refsOf t) z0 z1 z2 z3 z4 z5 z6 z7 z8 z9 px mx M _ (a1.mono (hget_appl lpx1) (hget_appl lmx1)) b1 ((rvG.keepC kc).mono fun b hb => hget_appl hb) hR _ es[j] (xe.mono fun b hb => hget_appl hb) x3 x2 100 (hBd _ (by rw [List.length_drop]; omega)) (by omega)) rfl ?_
    rintro v5 h2 ⟨hv5, hl2, ho2, M2, a2, b2, l2⟩
    simp only [List.length_append, List.length_cons, List.length_nil] at hv5 hl2 ho2 a2
    subst hv5
    rw [hdj, accT_drop] at b2
    simp (disch := first | omega | (simp only [fsLen]; omega)) only [↓fsPre, fsPost, fsCond, fsGen, fsDefs, fsDefX, cls, eqVal, reduceCtorEq, Nat.reduceAdd, Nat.reduceMul, Nat.reduceSub, Nat.reduceLT, Nat.reduceLeDiff, Nat.reduceEqDiff, Nat.reduceBEq, Nat.reduceBNe, Int.reduceLT, Int.reduceLE, Int.reduceEq, Int.reduceNe, Int.reduceAdd, Int.reduceSub, Int.reduceNeg, Int.reduceToNat, Int.reduceMul, ↓reduceIte, Int.reduceGT, Int.reduceGE, f9, f81, f82, f83]
    exact ⟨by omega, fun b hb h1 => by rw [ho2 b (by omega) h1, hget_appl (by omega)]; exact old b hb h1, M2, a2, b2⟩
  · rintro F h ⟨f9, f81, f82, f83, hl, old, M, a1, b1⟩
    rw [List.drop_of_length_le (by omega)] at b1
    have hM0 : M = [] := RepT.zero b1 fun k => rfl
    subst hM0
    simp (disch := first | omega | (simp only [fsLen]; omega)) only [↓fsPre, fsPost, fsCond, fsGen, fsDefs, fsDefX, cls, eqVal, reduceCtorEq, Nat.reduceAdd, Nat.reduceMul, Nat.reduceSub, Nat.reduceLT, Nat.reduceLeDiff, Nat.reduceEqDiff, Nat.reduceBEq, Nat.reduceBNe, Int.reduceLT, Int.reduceLE, Int.reduceEq, Int.reduceNe, Int.reduceAdd, Int.reduceSub, Int.reduceNeg, Int.reduceToNat, Int.reduceMul, ↓reduceIte, Int.reduceGT, Int.reduceGE, f9, f81, f82, f83]
    refine callT_one (call_nil _ _ _ _ _ _ _ _ _ _ _ _ _ a1) rfl ?_
    simp (disch := first | omega | (simp only [fsLen]; omega)) only [↓fsPre, fsPost, fsCond, fsGen, fsDefs, fsDefX, cls, eqVal, reduceCtorEq, Nat.reduceAdd, Nat.reduceMul, Nat.reduceSub, Nat.reduceLT, Nat.reduceLeDiff, Nat.reduceEqDiff, Nat.reduceBEq, Nat.reduceBNe, Int.reduceLT, Int.reduceLE, Int.reduceEq, Int.reduceNe, Int.reduceAdd, Int.reduceSub, Int.reduceNeg, Int.reduceToNat, Int.reduceMul, ↓reduceIte, Int.reduceGT, Int.reduceGE, f9, f81, f82, f83]
    refine callT_D (dang_ok h z0 z1 z2 z3 z4 z5 z6 z7 z8 z9 px mx [] [] a1 List.Pairwise.nil (List.Perm.refl _) (by simp)) rfl ?_
    rintro vd h2 ⟨l2, o2, gd⟩
    have hvd : vd = .slice none 0 (.fix 0) := by
      rcases gd with ⟨_, h⟩ | ⟨b, k, h1, h2, h3, h4, h5⟩
      · exact h
      · simp [dangK] at h4; omega
    subst hvd
    simp (disch := first | omega | (simp only [fsLen]; omega)) only [↓fsPre, fsPost, fsCond, fsGen, fsDefs, fsDefX, cls, eqVal, reduceCtorEq, Nat.reduceAdd, Nat.reduceMul, Nat.reduceSub, Nat.reduceLT, Nat.reduceLeDiff, Nat.reduceEqDiff, Nat.reduceBEq, Nat.reduceBNe, Int.reduceLT, Int.reduceLE, Int.reduceEq, Int.reduceNe, Int.reduceAdd, Int.reduceSub, Int.reduceNeg, Int.reduceToNat, Int.reduceMul, ↓reduceIte, Int.reduceGT, Int.reduceGE, f9, f81, f82, f83]
    refine callT_one (begun16_ok _) rfl ?_
    simp (disch := first | omega | (simp only [fsLen]; omega)) only [↓fsPre, fsPost, fsCond, fsGen, fsDefs, fsDefX, cls, eqVal, reduceCtorEq, Nat.reduceAdd, Nat.reduceMul, Nat.reduceSub, Nat.reduceLT, Nat.reduceLeDiff, Nat.reduceEqDiff, Nat.reduceBEq, Nat.reduceBNe, Int.reduceLT, Int.reduceLE, Int.reduceEq, Int.reduceNe, Int.reduceAdd, Int.reduceSub, Int.reduceNeg, Int.reduceToNat, Int.reduceMul, ↓reduceIte, Int.reduceGT, Int.reduceGE]

theorem eq_cn (x : TK × (Int × Int)) : eqCells [.int, .int, .int, .int, .int, .int] (cnC x) (cnC x) = some true := by
  simp only [cnC, tkC, List.cons_append, List.nil_append, eqCells, eqCell_nb]
  simp [eqCell]

set_option maxHeartbeats 4000000 in
theorem rorder_ok (H : Heap) (v w : NV) (xs ys : List Int) (n : Int) (hn : -9223372036854775808 ≤ n ∧ n ≤ 9223372036854775807) (hv : BytesArg H v xs) (hw : BytesArg H w ys) : NFun Try.prog 6 [v, w, .int .i64 n] H fun q => q.1 = .bool true := by
  refine fun_of_fwp E0 mixed t6_ok.2 (by kernel_rfl) ?_
  rw [fwp_T]
  simp only [t6]
  rw [← d6_eq]
  simp (disch := first | omega | (simp only [fsLen]; omega)) only [↓fsPre, fsPost, fsCond, fsGen, fsDefs, fsDefX, cls, eqVal, reduceCtorEq, Nat.reduceAdd, Nat.reduceMul, Nat.reduceSub, Nat.reduceLT, Nat.reduceLeDiff, Nat.reduceEqDiff, Nat.reduceBEq, Nat.reduceBNe, Int.reduceLT, Int.reduceLE, Int.reduceEq, Int.reduceNe, Int.reduceAdd, Int.reduceSub, Int.reduceNeg, Int.reduceToNat, Int.reduceMul, ↓reduceIte, Int.reduceGT, Int.reduceGE]
  refine callT_D (referring_ok H v xs hv) rfl ?_
  rintro v1 g1 ⟨N, t, acs, z0, z1, z2, z3, z4, z5, z6, z7, z8, z9, e, sc, rv, hl1, old1⟩
  simp only at e sc rv hl1 old1
  subst e
  have hw1 : BytesArg g1 w ys := by
    rcases hw with r | ⟨b, m, cs, ro, h0, h1, h2⟩
    · exact .inl r
    · exact .inr ⟨b, m, cs, ro, h0, by rw [old1 b (hget_lt h1)]; exact h1, h2⟩
  simp (disch := first | omega | (simp only [fsLen]; omega)) only [↓fsPre, fsPost, fsCond, fsGen, fsDefs, fsDefX, cls, eqVal, reduceCtorEq, Nat.reduceAdd, Nat.reduceMul, Nat.reduceSub, Nat.reduceLT, Nat.reduceLeDiff, Nat.reduceEqDiff, Nat.reduceBEq, Nat.reduceBNe, Int.reduceLT, Int.reduceLE, Int.reduceEq, Int.reduceNe, Int.reduceAdd, Int.reduceSub, Int.reduceNeg, Int.reduceToNat, Int.reduceMul, ↓reduceIte, Int.reduceGT, Int.reduceGE]
  refine callT_D (codes_ok g1 w ys 150 hw1 (by omega)) rfl ?_
  rintro v2 g2 ⟨sl, m, e, hs⟩
  cases e
  have hR6 := refsOf_le6 t
  have hR : (refsOf t).length ≤ 10 := by omega
  obtain ⟨p0, p1, p2, p3, p4, p5, p6, p8, p9⟩ := rv.o
  have p7 : z7.one = true := by obtain ⟨b, c, _, _, rfl, _⟩ := rv.r; rfl
  simp (disch := first | omega | (simp only [fsLen]; omega)) only [↓fsPre, fsPost, fsCond, fsGen, fsDefs, fsDefX, cls, eqVal, reduceCtorEq, Nat.reduceAdd, Nat.reduceMul, Nat.reduceSub, Nat.reduceLT, Nat.reduceLeDiff, Nat.reduceEqDiff, Nat.reduceBEq, Nat.reduceBNe, Int.reduceLT, Int.reduceLE, Int.reduceEq, Int.reduceNe, Int.reduceAdd, Int.reduceSub, Int.reduceNeg, Int.reduceToNat, Int.reduceMul, ↓reduceIte, Int.reduceGT, Int.reduceGE, p0, p1, p2, p3, p4, p5, p6, p7, p8, p9]
  have hG : ∀ b, b < g1.length → hget (g1 ++ [some (.cells [sl, .int .i64 0] false), some (.cells [z0, z1, z2, z3, z4, z5, z6, z7, z8, z9] false)]) b = hget g1 b := fun b hb => hget_appl hb
  have hs' : CodesSl (g1 ++ [some (NBlk.cells [sl, .int .i64 0] false), some (NBlk.cells [z0, z1, z2, z3, z4, z5, z6, z7, z8, z9] false)]) g1.length sl m := by have := hs.app (L := [some (.cells [z0, z1, z2, z3, z4, z5, z6, z7, z8, z9] false)]); simpa using this
  have hb4 : hget (g1 ++ [some (.cells [sl, .int .i64 0] false), some (.cells [z0, z1, z2, z3, z4, z5, z6, z7, z8, z9] false)]) g1.length = some (.cells [sl, .int .i64 0] false) := by simp (disch := first | omega | (simp only [fsLen]; omega)) only [↓fsPre, fsPost, fsCond, fsGen, fsDefs, fsDefX, cls, eqVal, reduceCtorEq, Nat.reduceAdd, Nat.reduceMul, Nat.reduceSub, Nat.reduceLT, Nat.reduceLeDiff, Nat.reduceEqDiff, Nat.reduceBEq, Nat.reduceBNe, Int.reduceLT, Int.reduceLE, Int.reduceEq, Int.reduceNe, Int.reduceAdd, Int.reduceSub, Int.reduceNeg, Int.reduceToNat, Int.reduceMul, ↓reduceIte, Int.reduceGT, Int.reduceGE]
  have hb5 : hget (g1 ++ [some (.cells [sl, .int .i64 0] false), some (.cells [z0, z1, z2, z3, z4, z5, z6, z7, z8, z9] false)]) (g1.length + 1) = some (.cells [z0, z1, z2, z3, z4, z5, z6, z7, z8, z9] false) := by simp (disch := first | omega | (simp only [fsLen]; omega)) only [↓fsPre, fsPost, fsCond, fsGen, fsDefs, fsDefX, cls, eqVal, reduceCtorEq, Nat.reduceAdd, Nat.reduceMul, Nat.reduceSub, Nat.reduceLT, Nat.reduceLeDiff, Nat.reduceEqDiff, Nat.reduceBEq, Nat.reduceBNe, Int.reduceLT, Int.reduceLE, Int.reduceEq, Int.reduceNe, Int.reduceAdd, Int.reduceSub, Int.reduceNeg, Int.reduceToNat, Int.reduceMul, ↓reduceIte, Int.reduceGT, Int.reduceGE]
  have hKl : (g1 ++ [some (NBlk.cells [sl, .int .i64 0] false), some (.cells [z0, z1, z2, z3, z4, z5, z6, z7, z8, z9] false)]).length = g1.length + 2 := by simp
  generalize g1 ++ [some (NBlk.cells [sl, .int .i64 0] false), some (.cells [z0, z1, z2, z3, z4, z5, z6, z7, z8, z9] false)] = K at *
  refine callDT_D (cnew_ok K z0 z1 z2 z3 z4 z5 z6 z7 z8 z9 p0 p1 p2 p3 p4 p5 p6 p7 p8 p9) rfl ?_
  rintro v3 K1 ⟨lK1, oK1, px, mx, rfl, hpx, hmx, cx⟩
  simp only at lK1 oK1 cx
  have hb51 : hget K1 (g1.length + 1) = _ := (oK1 _ (by omega)).trans hb5
  simp (disch := first | omega | (simp only [fsLen]; omega)) only [↓fsPre, fsPost, fsCond, fsGen, fsDefs, fsDefX, cls, eqVal, reduceCtorEq, Nat.reduceAdd, Nat.reduceMul, Nat.reduceSub, Nat.reduceLT, Nat.reduceLeDiff, Nat.reduceEqDiff, Nat.reduceBEq, Nat.reduceBNe, Int.reduceLT, Int.reduceLE, Int.reduceEq, Int.reduceNe, Int.reduceAdd, Int.reduceSub, Int.reduceNeg, Int.reduceToNat, Int.reduceMul, ↓reduceIte, Int.reduceGT, Int.reduceGE, p0, p1, p2, p3, p4, p5, p6, p7, p8, p9, hb5, hb51]
  refine ⟨by omega, ?_⟩
  refine callDT_D (cnew_ok K1 z0 z1 z2 z3 z4 z5 z6 z7 z8 z9 p0 p1 p2 p3 p4 p5 p6 p7 p8 p9) rfl ?_
  rintro v4 K2 ⟨lK2, oK2, py, my, rfl, hpy, hmy, cy⟩
  simp only at lK2 oK2 cy
  have oK : ∀ b, b < K.length → hget K2 b = hget K b := fun b hb => (oK2 b (by omega)).trans (oK1 b hb)
  have lpx := hget_some_lt cx.hp
  have lmx := cx.hm.lt
  have cx2 : CtAt K2 [z0, z1, z2, z3, z4, z5, z6, z7, z8, z9] px mx [] := cx.mono (oK2 _ (by omega)) (oK2 _ (by omega))
  have hb52 : hget K2 (g1.length + 1) = _ := (oK _ (by omega)).trans hb5
  have hb42 : hget K2 g1.length = _ := (oK _ (by omega)).trans hb4
  have lpy := hget_some_lt cy.hp
  have lmy := cy.hm.lt
  simp (disch := first | omega | (simp only [fsLen]; omega)) only [↓fsPre, fsPost, fsCond, fsGen, fsDefs, fsDefX, cls, eqVal, reduceCtorEq, Nat.reduceAdd, Nat.reduceMul, Nat.reduceSub, Nat.reduceLT, Nat.reduceLeDiff, Nat.reduceEqDiff, Nat.reduceBEq, Nat.reduceBNe, Int.reduceLT, Int.reduceLE, Int.reduceEq, Int.reduceNe, Int.reduceAdd, Int.reduceSub, Int.reduceNeg, Int.reduceToNat, Int.reduceMul, ↓reduceIte, Int.reduceGT, Int.reduceGE, p0, p1, p2, p3, p4, p5, p6, p7, p8, p9, hb5, hb51, hb52]
  refine ⟨by omega, ?_⟩
  have hs2 : CodesSl K2 g1.length sl m := by
    rcases hs' with h | ⟨b, c, cs, ro, h1, h2, h3, h4⟩
    · exact .inl h
    · exact .inr ⟨b, c, cs, ro, h1, by rw [oK _ (hget_lt h2)]; exact h2, h3, h4⟩
  have st0 : CodesSt K2 K2 g1.length m sl := CodesSt.refl (a := 0) hb42 (by omega) (by omega) hs2
  have keepG : ∀ h, CodesSt K2 h g1.length m sl → ∀ b, b < g1.length → hget h b = hget g1 b := fun h st b hb => (st.old b (by omega) (by omega)).trans ((oK b (by omega)).trans (hG b hb))
  refine callT_D (entries_ok N K2 g1.length m sl st0 t acs z0 z1 z2 z3 z4 z5 z6 z7 z8 z9 (fun h st => sc.ext fun b x _ hb => by rw [keepG h st b (hget_lt hb)]; exact hb) 10 (by omega)) rfl ?_
  rintro vo G ⟨es, ⟨rows, hrl, hg, hrow⟩, hle, stG⟩
  simp only at hg hrow stG
  have lG := stG.len
  have rvG : RfV G (refsOf t) z0 z1 z2 z3 z4 z5 z6 z7 z8 z9 := rv.mono (keepG G stG)
  have oG : ∀ b, b < K2.length → b ≠ g1.length → hget G b = hget K2 b := fun b hb hne => stG.old b hb hne
  have cxG : CtAt G [z0, z1, z2, z3, z4, z5, z6, z7, z8, z9] px mx [] := cx2.mono (oG _ (by omega) (by omega)) (oG _ (by omega) (by omega))
  have cyG : CtAt G [z0, z1, z2, z3, z4, z5, z6, z7, z8, z9] py my [] := cy.mono (oG _ (by omega) (by omega)) (oG _ (by omega) (by omega))
  have hr5 : ∀ r ∈ rows, r.length = 5 := by
    intro r hr
    obtain ⟨i, hi, rfl⟩ := List.getElem_of_mem hr
    exact (hrow i hi (by omega)).1.length
  have hfl := flat5 hr5
  obtain ⟨oa, oc, on, hvo, hon⟩ := hg.shape (by omega)
  have hon2 : on = rows.length := by omega
  subst hon2
  subst hvo
  have eM : (if (rows.length : Int) < 1 then (1 : Int) else rows.length) = ((max rows.length 1 : Nat) : Int) := by split <;> omega
  simp (disch := first | omega | (simp only [fsLen]; omega)) only [↓fsPre, fsPost, fsCond, fsGen, fsDefs, fsDefX, cls, eqVal, reduceCtorEq, Nat.reduceAdd, Nat.reduceMul, Nat.reduceSub, Nat.reduceLT, Nat.reduceLeDiff, Nat.reduceEqDiff, Nat.reduceBEq, Nat.reduceBNe, Int.reduceLT, Int.reduceLE, Int.reduceEq, Int.reduceNe, Int.reduceAdd, Int.reduceSub, Int.reduceNeg, Int.reduceToNat, Int.reduceMul, ↓reduceIte, Int.reduceGT, Int.reduceGE, eM]
  refine callT_one (mod_ok _ n _ (by omega) (by omega)) rfl ?_
  obtain ⟨tn, htn, htn2⟩ : ∃ tn : Nat, modN n ((max rows.length 1 : Nat) : Int) = tn ∧ tn < max rows.length 1 := by
    have := modN_range (x := n) (n := ((max rows.length 1 : Nat) : Int)) (by omega)
    exact ⟨(modN n ((max rows.length 1 : Nat) : Int)).toNat, by omega, by omega⟩
  rw [htn]
  simp (disch := first | omega | (simp only [fsLen]; omega)) only [↓fsPre, fsPost, fsCond, fsGen, fsDefs, fsDefX, cls, eqVal, reduceCtorEq, Nat.reduceAdd, Nat.reduceMul, Nat.reduceSub, Nat.reduceLT, Nat.reduceLeDiff, Nat.reduceEqDiff, Nat.reduceBEq, Nat.reduceBNe, Int.reduceLT, Int.reduceLE, Int.reduceEq, Int.reduceNe, Int.reduceAdd, Int.reduceSub, Int.reduceNeg, Int.reduceToNat, Int.reduceMul, ↓reduceIte, Int.reduceGT, Int.reduceGE]
  have lG2 : K2.length ≤ G.length := by omega
  have hEnU : ∀ i (hi : i < es.length), EnU es[i] := fun i hi => by
    obtain ⟨_, _, _, _, _, _, h1, h2⟩ := (hrow i (by omega) hi).2.1
    exact ⟨h1, h2⟩
  have hEnR : ∀ i (hi : i < es.length), ∀ r ∈ refsOf t, RfOK r es[i] := fun i hi => refsOf_ok t es[i] (hrow i (by omega) hi).2.1
  have hnp : ∀ e, (needsK (refsOf t) e).length + (provK (refsOf t) e).length ≤ 12 := fun e => by
    unfold needsK provK
    rw [List.length_map, List.length_map]
    have := needsL_le (refsOf t) e
    have := provL_le (refsOf t) e
    omega
  have mapx := cxG.map
  have mapy := cyG.map
  have lmxG := cxG.hm.lt
  have lmyG := cyG.hm.lt
  have lpxG := hget_some_lt cxG.hp
  have lpyG := hget_some_lt cyG.hp
  have hBd : ∀ l : List En, l.length ≤ 10 → ∀ k, -(100 : Int) ≤ (accT (refsOf t) l k).1 ∧ (accT (refsOf t) l k).1 ≤ 100 ∧ -(100 : Int) ≤ (accT (refsOf t) l k).2 ∧ (accT (refsOf t) l k).2 ≤ 100 := fun l hl k => by
    have := accT_bound (refsOf t) hR l k
    omega
  have mxy : mx ≠ my := by omega
  have pxy : px ≠ my ∧ py ≠ mx := by have := cyG.ne; have := cxG.ne; omega
  refine wloop (fun j F h => F 2 = .int .i64 tn ∧ F 9 = .ptr (some (px, 0)) ∧ F 10 = .ptr (some (py, 0)) ∧ F 11 = .slice oa rows.length oc ∧ F 35 = .slice oa rows.length oc ∧ F 36 = .int .i64 rows.length ∧ F 37 = .int .i64 j ∧ G.length ≤ h.length ∧ (∀ b, b < G.length → b ≠ mx → b ≠ my → hget h b = hget G b) ∧
    ∃ Mx My, CtAt h [z0, z1, z2, z3, z4, z5, z6, z7, z8, z9] px mx Mx ∧ RepT Mx (accT (refsOf t) (es.take j)) ∧ Mx.length ≤ 12 * j ∧ CtAt h [z0, z1, z2, z3, z4, z5, z6, z7, z8, z9] py my My ∧ RepT My (accT (refsOf t) ((turned es tn).take j)) ∧ My.length ≤ 12 * j) rows.length ?_ ?_ ?_
  · simp (disch := first | omega | (simp only [fsLen]; omega)) only [↓fsPre, fsPost, fsCond, fsGen, fsDefs, fsDefX, cls, eqVal, reduceCtorEq, Nat.reduceAdd, Nat.reduceMul, Nat.reduceSub, Nat.reduceLT, Nat.reduceLeDiff, Nat.reduceEqDiff, Nat.reduceBEq, Nat.reduceBNe, Int.reduceLT, Int.reduceLE, Int.reduceEq, Int.reduceNe, Int.reduceAdd, Int.reduceSub, Int.reduceNeg, Int.reduceToNat, Int.reduceMul, ↓reduceIte, Int.reduceGT, Int.reduceGE]
    exact ⟨[], [], cxG, RepT.nil fun _ => rfl, by simp, cyG, RepT.nil fun _ => rfl, by simp⟩
  · rintro j F h hj ⟨f2, f9, f10, f11, f35, f36, f37, hl, old, Mx, My, ax, bx, lx, ay, by', ly⟩
    obtain ⟨bo, hoa, hbo⟩ : ∃ bo, oa = some (bo, 0) ∧ hget G bo = some (.cells rows.flatten false) := by
      rcases hg with ⟨h1, h2⟩ | ⟨bo, n, h2, _, h3, _⟩
      · have := congrArg List.length h1
        rw [hfl] at this
        simp at this; omega
      · cases h2
        exact ⟨bo, rfl, h3⟩
    subst hoa
    have kc : KeepC G h := keepC_of mapx mapy old
    have hboh := kc _ _ _ hbo
    have hbol := hget_some_lt hboh
    have hck : cut rows.flatten (j * 5) 5 = some rows[j] := flat_cut hr5 j hj
    have hje : j < es.length := by omega
    have xe := (hrow j hj hje).1.keepC kc
    obtain ⟨mv, av, hrw, om, oav, _⟩ := xe.parts
    rw [hrw] at hck xe
    simp (disch := first | omega | (simp only [fsLen]; omega)) only [↓fsPre, fsPost, fsCond, fsGen, fsDefs, fsDefX, cls, eqVal, reduceCtorEq, Nat.reduceAdd, Nat.reduceMul, Nat.reduceSub, Nat.reduceLT, Nat.reduceLeDiff, Nat.reduceEqDiff, Nat.reduceBEq, Nat.reduceBNe, Int.reduceLT, Int.reduceLE, Int.reduceEq, Int.reduceNe, Int.reduceAdd, Int.reduceSub, Int.reduceNeg, Int.reduceToNat, Int.reduceMul, ↓reduceIte, Int.reduceGT, Int.reduceGE, f2, f9, f10, f11, f35, f36, f37, hboh, hck, om, oav]
    have lpx1 := hget_some_lt ax.hp
    have lmx1 := ax.hm.lt
    have lpy1 := hget_some_lt ay.hp
    have lmy1 := ay.hm.lt
    have htx : es.take (j + 1) = es.take j ++ [es[j]] := by rw [List.take_add_one, List.getElem?_eq_getElem hje]; rfl
    refine callT_D (add_ok _ _ (refsOf t) z0 z1 z2 z3 z4 z5 z6 z7 z8 z9 px mx Mx _ (ax.mono (hget_appl lpx1) (hget_appl lmx1)) bx ((rvG.keepC kc).mono fun b hb => hget_appl hb) hR _ es[j] (xe.mono fun b hb => hget_appl hb) (hEnR j hje) (hEnU j hje) 100 (hBd _ (by rw [List.length_take]; omega)) (by omega)) rfl ?_
    rintro v5 h2 ⟨hv5, hl2, ho2, Mx2, ax2, bx2, lx2⟩
    simp only [List.length_append, List.length_cons, List.length_nil] at hv5 hl2 ho2 ax2
    subst hv5
    rw [← accT_snoc, ← htx] at bx2
    have ay2 : CtAt h2 [z0, z1, z2, z3, z4, z5, z6, z7, z8, z9] py my My := ay.mono ((ho2 _ (by omega) (by omega)).trans (hget_appl (by omega))) ((ho2 _ (by omega) (by omega)).trans (hget_appl (by omega)))
    have old2 : ∀ b, b < G.length → b ≠ mx → b ≠ my → hget h2 b = hget G b := fun b hb h1 h2' => by rw [ho2 b (by omega) h1, hget_appl (by omega)]; exact old b hb h1 h2'
    have kc2 : KeepC G h2 := keepC_of mapx mapy old2
    have hboh2 := kc2 _ _ _ hbo
    have hbol2 := hget_some_lt hboh2
    simp (disch := first | omega | (simp only [fsLen]; omega)) only [↓fsPre, fsPost, fsCond, fsGen, fsDefs, fsDefX, cls, eqVal, reduceCtorEq, Nat.reduceAdd, Nat.reduceMul, Nat.reduceSub, Nat.reduceLT, Nat.reduceLeDiff, Nat.reduceEqDiff, Nat.reduceBEq, Nat.reduceBNe, Int.reduceLT, Int.reduceLE, Int.reduceEq, Int.reduceNe, Int.reduceAdd, Int.reduceSub, Int.reduceNeg, Int.reduceToNat, Int.reduceMul, ↓reduceIte, Int.reduceGT, Int.reduceGE, f2, f9, f10, f11, f35, f36, f37, hboh2]
    refine callT_one (mod_ok _ _ _ (by omega) (by omega)) rfl ?_
    have htn3 : tn < es.length := by omega
    have hat := turned_at htn3 hje
    rw [← hrl] at hat
    obtain ⟨i, hi1, hi2⟩ : ∃ i : Nat, modN ((tn : Int) - j) rows.length = i ∧ i < rows.length := by
      have := modN_range (x := (tn : Int) - j) (n := rows.length) (by omega)
      exact ⟨(modN ((tn : Int) - j) rows.length).toNat, by omega, by omega⟩
    rw [hi1] at hat ⊢
    have hie : i < es.length := by omega
    rw [Int.toNat_natCast, List.getElem?_eq_getElem hie] at hat
    have hty : (turned es tn).take (j + 1) = (turned es tn).take j ++ [es[i]] := by rw [List.take_add_one, hat]; rfl
    have hci : cut rows.flatten (i * 5) 5 = some rows[i] := flat_cut hr5 i hi2
    have xi := (hrow i hi2 hie).1.keepC kc2
    obtain ⟨mv2, av2, hrw2, om2, oav2, _⟩ := xi.parts
    rw [hrw2] at hci xi
    have lpy2 := hget_some_lt ay2.hp
    have lmy2 := ay2.hm.lt
    simp (disch := first | omega | (simp only [fsLen]; omega)) only [↓fsPre, fsPost, fsCond, fsGen, fsDefs, fsDefX, cls, eqVal, reduceCtorEq, Nat.reduceAdd, Nat.reduceMul, Nat.reduceSub, Nat.reduceLT, Nat.reduceLeDiff, Nat.reduceEqDiff, Nat.reduceBEq, Nat.reduceBNe, Int.reduceLT, Int.reduceLE, Int.reduceEq, Int.reduceNe, Int.reduceAdd, Int.reduceSub, Int.reduceNeg, Int.reduceToNat, Int.reduceMul, ↓reduceIte, Int.reduceGT, Int.reduceGE, f2, f9, f10, f11, f35, f36, f37, hboh2, hci, om2, oav2]
    refine callT_D (add_ok _ _ (refsOf t) z0 z1 z2 z3 z4 z5 z6 z7 z8 z9 py my My _ ay2 by' (rvG.keepC kc2) hR _ es[i] xi (hEnR i hie) (hEnU i hie) 100 (hBd _ (by rw [List.length_take, turned_length]; omega)) (by omega)) rfl ?_
    rintro v6 h3 ⟨hv6, hl3, ho3, My2, ay3, by3, ly3⟩
    simp only at hv6 hl3 ho3 ay3
    subst hv6
    rw [← accT_snoc, ← hty] at by3
    have n1 := hnp es[j]
    have n2 := hnp es[i]
    simp (disch := first | omega | (simp only [fsLen]; omega)) only [↓fsPre, fsPost, fsCond, fsGen, fsDefs, fsDefX, cls, eqVal, reduceCtorEq, Nat.reduceAdd, Nat.reduceMul, Nat.reduceSub, Nat.reduceLT, Nat.reduceLeDiff, Nat.reduceEqDiff, Nat.reduceBEq, Nat.reduceBNe, Int.reduceLT, Int.reduceLE, Int.reduceEq, Int.reduceNe, Int.reduceAdd, Int.reduceSub, Int.reduceNeg, Int.reduceToNat, Int.reduceMul, ↓reduceIte, Int.reduceGT, Int.reduceGE, f2, f9, f10, f11, f35, f36, f37]
    exact ⟨by omega, fun b hb h1 h2' => by rw [ho3 b (by omega) h2']; exact old2 b hb h1 h2', Mx2, My2, ax2.mono (ho3 _ (by omega) (by omega)) (ho3 _ (by omega) mxy), bx2, by omega, ay3, by3, by omega⟩
  · rintro F G2 ⟨f2, f9, f10, f11, f35, f36, f37, hl, old, Mx, My, ax, bx, lx, ay, by', ly⟩
    rw [List.take_of_length_le (by omega)] at bx
    rw [List.take_of_length_le (by rw [turned_length]; omega), accT_perm (turned_perm es tn)] at by'
    obtain ⟨Lx, sx, qx⟩ := sortedK_ex ltK_ord Mx bx.nd
    obtain ⟨Ly, sy, qy⟩ := sortedK_ex ltK_ord My by'.nd
    have hLL : Lx = Ly := RepT.same bx by' sx sy qx qy
    subst hLL
    simp (disch := first | omega | (simp only [fsLen]; omega)) only [↓fsPre, fsPost, fsCond, fsGen, fsDefs, fsDefX, cls, eqVal, reduceCtorEq, Nat.reduceAdd, Nat.reduceMul, Nat.reduceSub, Nat.reduceLT, Nat.reduceLeDiff, Nat.reduceEqDiff, Nat.reduceBEq, Nat.reduceBNe, Int.reduceLT, Int.reduceLE, Int.reduceEq, Int.reduceNe, Int.reduceAdd, Int.reduceSub, Int.reduceNeg, Int.reduceToNat, Int.reduceMul, ↓reduceIte, Int.reduceGT, Int.reduceGE, f2, f9, f10, f11, f35, f36, f37]
    have hMx := qx.length_eq
    have hMy := qy.length_eq
    have fin : ∀ (F : FF) (h : Heap) (M : List (TK × (Int × Int))), F 9 = .ptr (some (px, 0)) → F 11 = .slice oa rows.length oc → G.length ≤ h.length → (∀ b, b < G.length → b ≠ mx → b ≠ my → hget h b = hget G b) → CtAt h [z0, z1, z2, z3, z4, z5, z6, z7, z8, z9] px mx M → RepT M (accT (refsOf t) es) → fwpT E0 d6 (fend [.tmp 6] fun q => q.1 = .bool true) F h .mk := by
      intro F h M f9 f11 hl old ax bx
      have kc : KeepC G h := keepC_of mapx mapy old
      refine rest_ok t K2.length z0 z1 z2 z3 z4 z5 z6 z7 z8 z9 h px mx M rows es oa oc hrl (by omega) hR hr5 ?_ ?_ (rvG.keepC kc) ax bx F f9 f11
      · intro h0
        rcases hg with ⟨h1, h2⟩ | ⟨bo, n, h2, _, h3, _⟩
        · have := congrArg List.length h1
          rw [hfl] at this
          simp at this; omega
        · cases h2
          exact ⟨bo, rfl, kc _ _ _ h3⟩
      · intro i h1 h2
        exact ⟨(hrow i h1 h2).1.keepC kc, hEnU i h2, hEnR i h2⟩
    by_cases h0 : Mx = []
    · subst h0
      have hL0 : Lx = [] := by simpa using hMx
      subst hL0
      have hMy0 : My = [] := by simpa using hMy.symm
      subst hMy0
      refine callT_one (call_nil _ _ _ _ _ _ _ _ _ _ _ _ _ ax) rfl ?_
      simp (disch := first | omega | (simp only [fsLen]; omega)) only [↓fsPre, fsPost, fsCond, fsGen, fsDefs, fsDefX, cls, eqVal, reduceCtorEq, Nat.reduceAdd, Nat.reduceMul, Nat.reduceSub, Nat.reduceLT, Nat.reduceLeDiff, Nat.reduceEqDiff, Nat.reduceBEq, Nat.reduceBNe, Int.reduceLT, Int.reduceLE, Int.reduceEq, Int.reduceNe, Int.reduceAdd, Int.reduceSub, Int.reduceNeg, Int.reduceToNat, Int.reduceMul, ↓reduceIte, Int.reduceGT, Int.reduceGE, f2, f9, f10, f11, f35, f36, f37]
      refine callT_one (call_nil _ _ _ _ _ _ _ _ _ _ _ _ _ ay) rfl ?_
      simp (disch := first | omega | (simp only [fsLen]; omega)) only [↓fsPre, fsPost, fsCond, fsGen, fsDefs, fsDefX, cls, eqVal, reduceCtorEq, Nat.reduceAdd, Nat.reduceMul, Nat.reduceSub, Nat.reduceLT, Nat.reduceLeDiff, Nat.reduceEqDiff, Nat.reduceBEq, Nat.reduceBNe, Int.reduceLT, Int.reduceLE, Int.reduceEq, Int.reduceNe, Int.reduceAdd, Int.reduceSub, Int.reduceNeg, Int.reduceToNat, Int.reduceMul, ↓reduceIte, Int.reduceGT, Int.reduceGE, f2, f9, f10, f11, f35, f36, f37]
      refine wloop (fun j F h => F 9 = .ptr (some (px, 0)) ∧ F 11 = .slice oa rows.length oc ∧ F 67 = .int .i64 0 ∧ F 68 = .int .i64 j ∧ h = G2) 0 ?_ ?_ ?_
      · simp (disch := first | omega | (simp only [fsLen]; omega)) only [↓fsPre, fsPost, fsCond, fsGen, fsDefs, fsDefX, cls, eqVal, reduceCtorEq, Nat.reduceAdd, Nat.reduceMul, Nat.reduceSub, Nat.reduceLT, Nat.reduceLeDiff, Nat.reduceEqDiff, Nat.reduceBEq, Nat.reduceBNe, Int.reduceLT, Int.reduceLE, Int.reduceEq, Int.reduceNe, Int.reduceAdd, Int.reduceSub, Int.reduceNeg, Int.reduceToNat, Int.reduceMul, ↓reduceIte, Int.reduceGT, Int.reduceGE, f9, f11]
      · intro j F h hj; omega
      · rintro F h ⟨f9, f11, f67, f68, rfl⟩
        simp (disch := first | omega | (simp only [fsLen]; omega)) only [↓fsPre, fsPost, fsCond, fsGen, fsDefs, fsDefX, cls, eqVal, reduceCtorEq, Nat.reduceAdd, Nat.reduceMul, Nat.reduceSub, Nat.reduceLT, Nat.reduceLeDiff, Nat.reduceEqDiff, Nat.reduceBEq, Nat.reduceBNe, Int.reduceLT, Int.reduceLE, Int.reduceEq, Int.reduceNe, Int.reduceAdd, Int.reduceSub, Int.reduceNeg, Int.reduceToNat, Int.reduceMul, ↓reduceIte, Int.reduceGT, Int.reduceGE, f9, f11, f67, f68]
        exact fin _ h _ f9 f11 hl old ax bx
    · have h1 : My ≠ [] := fun e => h0 (by subst e; simpa using hMx.symm.trans hMy)
      refine callT_one (call_some _ _ _ _ _ _ _ _ _ _ _ _ _ Mx Lx ax sx qx (by omega) h0) rfl ?_
      simp (disch := first | omega | (simp only [fsLen]; omega)) only [↓fsPre, fsPost, fsCond, fsGen, fsDefs, fsDefX, cls, eqVal, reduceCtorEq, Nat.reduceAdd, Nat.reduceMul, Nat.reduceSub, Nat.reduceLT, Nat.reduceLeDiff, Nat.reduceEqDiff, Nat.reduceBEq, Nat.reduceBNe, Int.reduceLT, Int.reduceLE, Int.reduceEq, Int.reduceNe, Int.reduceAdd, Int.reduceSub, Int.reduceNeg, Int.reduceToNat, Int.reduceMul, ↓reduceIte, Int.reduceGT, Int.reduceGE, f2, f9, f10, f11, f35, f36, f37]
      have lpy1 := hget_some_lt ay.hp
      have lmy1 := ay.hm.lt
      refine callT_one (call_some _ _ _ _ _ _ _ _ _ _ _ _ _ My Lx (ay.mono (hget_appl lpy1) (hget_appl lmy1)) sy qy (by omega) h1) rfl ?_
      simp (disch := first | omega | (simp only [fsLen]; omega)) only [↓fsPre, fsPost, fsCond, fsGen, fsDefs, fsDefX, cls, eqVal, reduceCtorEq, Nat.reduceAdd, Nat.reduceMul, Nat.reduceSub, Nat.reduceLT, Nat.reduceLeDiff, Nat.reduceEqDiff, Nat.reduceBEq, Nat.reduceBNe, Int.reduceLT, Int.reduceLE, Int.reduceEq, Int.reduceNe, Int.reduceAdd, Int.reduceSub, Int.reduceNeg, Int.reduceToNat, Int.reduceMul, ↓reduceIte, Int.reduceGT, Int.reduceGE, f2, f9, f10, f11, f35, f36, f37]
      refine wloop (fun j F h => F 9 = .ptr (some (px, 0)) ∧ F 11 = .slice oa rows.length oc ∧ F 14 = .slice (some (G2.length, 0)) Lx.length (.opn 6) ∧ F 15 = .slice (some (G2.length + 1, 0)) Lx.length (.opn 6) ∧ F 67 = .int .i64 Lx.length ∧ F 68 = .int .i64 j ∧ h = G2 ++ [some (.cells (Lx.flatMap cnC) false), some (.cells (Lx.flatMap cnC) false)]) Lx.length ?_ ?_ ?_
      · simp (disch := first | omega | (simp only [fsLen]; omega)) only [↓fsPre, fsPost, fsCond, fsGen, fsDefs, fsDefX, cls, eqVal, reduceCtorEq, Nat.reduceAdd, Nat.reduceMul, Nat.reduceSub, Nat.reduceLT, Nat.reduceLeDiff, Nat.reduceEqDiff, Nat.reduceBEq, Nat.reduceBNe, Int.reduceLT, Int.reduceLE, Int.reduceEq, Int.reduceNe, Int.reduceAdd, Int.reduceSub, Int.reduceNeg, Int.reduceToNat, Int.reduceMul, ↓reduceIte, Int.reduceGT, Int.reduceGE, f9, f11]
      · rintro j F h hj ⟨f9, f11, f14, f15, f67, f68, rfl⟩
        have hb1 : hget (G2 ++ [some (.cells (Lx.flatMap cnC) false), some (.cells (Lx.flatMap cnC) false)]) G2.length = some (.cells (Lx.flatMap cnC) false) := by simp (disch := first | omega | (simp only [fsLen]; omega)) only [↓fsPre, fsPost, fsCond, fsGen, fsDefs, fsDefX, cls, eqVal, reduceCtorEq, Nat.reduceAdd, Nat.reduceMul, Nat.reduceSub, Nat.reduceLT, Nat.reduceLeDiff, Nat.reduceEqDiff, Nat.reduceBEq, Nat.reduceBNe, Int.reduceLT, Int.reduceLE, Int.reduceEq, Int.reduceNe, Int.reduceAdd, Int.reduceSub, Int.reduceNeg, Int.reduceToNat, Int.reduceMul, ↓reduceIte, Int.reduceGT, Int.reduceGE]
        have hb2 : hget (G2 ++ [some (.cells (Lx.flatMap cnC) false), some (.cells (Lx.flatMap cnC) false)]) (G2.length + 1) = some (.cells (Lx.flatMap cnC) false) := by simp (disch := first | omega | (simp only [fsLen]; omega)) only [↓fsPre, fsPost, fsCond, fsGen, fsDefs, fsDefX, cls, eqVal, reduceCtorEq, Nat.reduceAdd, Nat.reduceMul, Nat.reduceSub, Nat.reduceLT, Nat.reduceLeDiff, Nat.reduceEqDiff, Nat.reduceBEq, Nat.reduceBNe, Int.reduceLT, Int.reduceLE, Int.reduceEq, Int.reduceNe, Int.reduceAdd, Int.reduceSub, Int.reduceNeg, Int.reduceToNat, Int.reduceMul, ↓reduceIte, Int.reduceGT, Int.reduceGE]
        have hc : cut (Lx.flatMap cnC) (j * 6) 6 = some (cnC Lx[j]) := cut_flatMap cnC_length hj
        simp (disch := first | omega | (simp only [fsLen]; omega)) only [↓fsPre, fsPost, fsCond, fsGen, fsDefs, fsDefX, cls, eqVal, reduceCtorEq, Nat.reduceAdd, Nat.reduceMul, Nat.reduceSub, Nat.reduceLT, Nat.reduceLeDiff, Nat.reduceEqDiff, Nat.reduceBEq, Nat.reduceBNe, Int.reduceLT, Int.reduceLE, Int.reduceEq, Int.reduceNe, Int.reduceAdd, Int.reduceSub, Int.reduceNeg, Int.reduceToNat, Int.reduceMul, ↓reduceIte, Int.reduceGT, Int.reduceGE, f9, f11, f14, f15, f67, f68, hb1, hb2, hc, eq_cn, cnC_one, cnC_length]
      · rintro F h ⟨f9, f11, f14, f15, f67, f68, rfl⟩
        simp (disch := first | omega | (simp only [fsLen]; omega)) only [↓fsPre, fsPost, fsCond, fsGen, fsDefs, fsDefX, cls, eqVal, reduceCtorEq, Nat.reduceAdd, Nat.reduceMul, Nat.reduceSub, Nat.reduceLT, Nat.reduceLeDiff, Nat.reduceEqDiff, Nat.reduceBEq, Nat.reduceBNe, Int.reduceLT, Int.reduceLE, Int.reduceEq, Int.reduceNe, Int.reduceAdd, Int.reduceSub, Int.reduceNeg, Int.reduceToNat, Int.reduceMul, ↓reduceIte, Int.reduceGT, Int.reduceGE, f9, f11, f14, f15, f67, f68]
        have lpx1 := hget_some_lt ax.hp
        have lmx1 := ax.hm.lt
        refine fin _ (G2 ++ [some (.cells (Lx.flatMap cnC) false), some (.cells (Lx.flatMap cnC) false)]) _ ?_ ?_ (by rw [List.length_append]; omega) (fun b hb h1 h2 => by rw [hget_appl (by omega)]; exact old b hb h1 h2) (ax.mono (hget_appl lpx1) (hget_appl lmx1)) bx
        · exact f9
        · exact f11

theorem wf_i64r {n : Int} (h : (Lit.int .i64 n).wf = true) : -9223372036854775808 ≤ n ∧ n ≤ 9223372036854775807 := by
  simp [Lit.wf, IntKind.min, IntKind.max, IntKind.signed, IntKind.bits] at h; omega
def kindsRO : List PK := [.sl [.int .u8], .sl [.int .u8], .flat [.int .i64] false]
theorem walkRO (nvs : List NV) (h : Heap) (ok : argsOK kindsRO 0 nvs h) : NFun Try.prog 6 nvs h (fun q => q.1 = .bool true) := by
  obtain ⟨v, vs, x, h, rfl, rfl, h1, ok⟩ := argsOK_cons ok
  obtain ⟨w, vs, y, h, rfl, rfl, h2, ok⟩ := argsOK_cons ok
  obtain ⟨u, vs, z, h, rfl, rfl, h3, ok⟩ := argsOK_cons ok
  obtain ⟨rfl, rfl⟩ := argsOK_nil ok
  obtain ⟨n, rfl, hn, rfl⟩ := argOK_int h3
  obtain ⟨xs, hx⟩ := argOK_bytes (H := [x, y, none]) h1 rfl
  obtain ⟨ys, hy⟩ := argOK_bytes (H := [x, y, none]) h2 rfl
  exact rorder_ok _ _ _ xs ys n (wf_i64r hn) hx hy
end Go.Proofs
