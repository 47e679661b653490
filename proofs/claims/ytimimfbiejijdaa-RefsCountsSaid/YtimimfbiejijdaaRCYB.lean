/- Yd, Ye, Yf, Zw in one text. -/
import Derived.Test.YtimimfbiejijdaaRCYA
import Derived.Test.YtimimfbiejijdaaRCRefX
set_option linter.unusedSimpArgs false
set_option linter.unusedVariables false
set_option maxRecDepth 100000
namespace Go.Proofs
open Go.Ns

/-- Tallies after an entry was counted n times. -/
noncomputable def entT (T : TK → Int × Int) (R : List Rf) (e : En) (n : Int) : TK → Int × Int := sumT (sumT T (needsK R e) (n, 0)) (provK R e) (0, n)
structure EntQ (H : Heap) (zs : List NV) (p m : Nat) (M : List (TK × (Int × Int))) (T' : TK → Int × Int) (k : Nat) (r : NV × Heap) : Prop where
  v : r.1 = .tup []
  len : H.length ≤ r.2.length
  old : ∀ c, c < H.length → c ≠ m → hget r.2 c = hget H c
  ex : ∃ M', CtAt r.2 zs p m M' ∧ RepT M' T' ∧ M'.length ≤ M.length + k

set_option maxHeartbeats 4000000 in
theorem enter_ok (N : Nat) (H : Heap) (R : List Rf) (z0 z1 z2 z3 z4 z5 z6 z7 z8 z9 : NV) (p m : Nat) (M : List (TK × (Int × Int))) (T : TK → Int × Int) (x : CtAt H [z0, z1, z2, z3, z4, z5, z6, z7, z8, z9] p m M) (r : RepT M T)
    (s : RfV H R z0 z1 z2 z3 z4 z5 z6 z7 z8 z9) (hR : R.length ≤ 10) (row : List NV) (e : En) (xE : EnAt H N row e) (hok : ∀ r ∈ R, RfOK r e) (hu : EnU e) (n : Int) (hn : n = 1 ∨ n = -1) (B : Int) (hB : ∀ k, -B ≤ (T k).1 ∧ (T k).1 ≤ B ∧ -B ≤ (T k).2 ∧ (T k).2 ≤ B) (hB2 : B ≤ 100000) :
    DCall Try.prog 32 [.ptr (some (p, 0)), .agg row, .int .i64 n] H (EntQ H [z0, z1, z2, z3, z4, z5, z6, z7, z8, z9] p m M (entT T R e n) ((needsK R e).length + (provK R e).length)) := by
  unfold entT
  have hn1 : -1 ≤ n ∧ n ≤ 1 := by omega
  have h01 : (-1 : Int) ≤ 0 ∧ (0 : Int) ≤ 1 := by omega
  have hp := x.hp
  simp only [List.cons_append, List.nil_append] at hp
  have lp := hget_some_lt hp
  have lm := x.hm.lt
  obtain ⟨p0, p1, p2, p3, p4, p5, p6, p8, p9⟩ := s.o
  have p7 : z7.one = true := by obtain ⟨b, c, _, _, rfl, _⟩ := s.r; rfl
  have hnl : (needsK R e).length ≤ 10 := by unfold needsK; rw [List.length_map]; have := needsL_le R e; omega
  have hpl : (provK R e).length ≤ 10 := by unfold provK; rw [List.length_map]; have := provL_le R e; omega
  have en : tC (needsL R e) = (needsK R e).flatMap tkC := tC_tk (needs_u hu R)
  have ep : tC (provL R e) = (provK R e).flatMap tkC := tC_tk (prov_u hu R)
  refine call_det E0 rfl mixed t32_ok (by kernel_rfl) (by rintro q ⟨_, h, _⟩; exact h) ?_
  simp only [t32]
  obtain ⟨mv, av, hrw, om, oav, _⟩ := xE.parts
  subst hrw
  simp (disch := first | omega | (simp only [fsLen]; omega)) only [↓fsPre, fsPost, fsCond, fsGen, fsDefs, fsDefX, cls, eqVal, reduceCtorEq, Nat.reduceAdd, Nat.reduceLeDiff, Nat.reduceEqDiff, ↓reduceIte, om, oav, hp]
  have x0 := x.mono (h := H ++ [some (.cells [.int .i64 e.tab, mv, .int .i64 e.pr, .int .i64 e.act, av] false)]) (hget_appl lp) (hget_appl lm)
  have s0 := s.mono (h' := H ++ [some (.cells [.int .i64 e.tab, mv, .int .i64 e.pr, .int .i64 e.act, av] false)]) fun b hb => hget_appl hb
  have xE0 := xE.mono (h' := H ++ [some (.cells [.int .i64 e.tab, mv, .int .i64 e.pr, .int .i64 e.act, av] false)]) fun b hb => hget_appl hb
  refine callDT_D (needs_ok N _ R z0 z1 z2 z3 z4 z5 z6 z7 z8 z9 s0 hR _ e xE0 hok) rfl ?_
  rintro va h1 ⟨l1, o1, ga⟩
  simp only [List.length_append, List.length_cons, List.length_nil] at l1 o1 ga
  rw [en] at ga
  obtain ⟨A, c, rfl, hA⟩ := tks_shape ga
  simp (disch := first | omega | (simp only [fsLen]; omega)) only [↓fsPre, fsPost, fsGen, fsDefs, cls, Nat.reduceBEq, ↓reduceIte]
  refine ⟨by omega, ?_⟩
  have hrow1 : hget h1 H.length = some (.cells [.int .i64 e.tab, mv, .int .i64 e.pr, .int .i64 e.act, av] false) := by rw [o1 _ (by omega)]; simp (disch := first | omega | (simp only [fsLen]; omega)) only [fsPost, fsCond, fsGen]
  have o1' : ∀ b, b < H.length → hget h1 b = hget H b := fun b hb => by rw [o1 b (by omega), hget_appl hb]
  have x1 : CtAt h1 [z0, z1, z2, z3, z4, z5, z6, z7, z8, z9] p m M := x.mono (o1' _ lp) (o1' _ lm)
  have hmap1 := x1.map
  have s1 : RfV h1 R z0 z1 z2 z3 z4 z5 z6 z7 z8 z9 := s.mono o1'
  have xE1 : EnAt h1 N _ e := xE.mono o1'
  clear x0 s0 xE0 o1 ga
  have lp1 : p < h1.length := by omega
  have lm1 : m < h1.length := by omega
  refine wloop (fun j F h => F 0 = .ptr (some (p, 0)) ∧ F 2 = .int .i64 n ∧ F 4 = .ptr (some (H.length, 0)) ∧ F 17 = .slice A (needsK R e).length c ∧ F 18 = .int .i64 (needsK R e).length ∧ F 19 = .int .i64 j ∧ h1.length ≤ h.length ∧ (∀ c, c < h1.length → c ≠ m → hget h c = hget h1 c) ∧
    ∃ M', CtAt h [z0, z1, z2, z3, z4, z5, z6, z7, z8, z9] p m M' ∧ RepT M' (sumT (T) ((needsK R e).take j) (n, 0)) ∧ M'.length ≤ M.length + j) (needsK R e).length ?_ ?_ ?_
  · simp (disch := first | omega | (simp only [fsLen]; omega)) only [↓fsPre, fsGen, reduceCtorEq, Nat.reduceEqDiff, ↓reduceIte]
    refine ⟨M, x1, ?_, by omega⟩
    rw [sumT_nil]; exact r
  · rintro j F h hj ⟨f0, f2, f4, f17, f18, f19, hl, old, M', xM, rM, hM'⟩
    obtain ⟨b, rfl, hNb, hb⟩ := hA (by omega)
    have hbl1 := hget_lt hb
    have hbm : b ≠ m := by omega
    have hbh : hget h b = some (.cells ((needsK R e).flatMap tkC) false) := by rw [old b hbl1 hbm]; exact hb
    have hbl := hget_some_lt hbh
    have hc : cut ((needsK R e).flatMap tkC) (j * 4) 4 = some (tkC (needsK R e)[j]) := cut_flatMap tkC_length hj
    have htk : (needsK R e).take (j + 1) = (needsK R e).take j ++ [(needsK R e)[j]] := by rw [List.take_add_one, List.getElem?_eq_getElem hj]; rfl
    have lpM := hget_some_lt xM.hp
    have lmM := xM.hm.lt
    simp (disch := first | omega | (simp only [fsLen]; omega)) only [↓fsPre, fsPost, fsCond, fsGen, fsDefs, fsDefX, reduceCtorEq, Nat.reduceAdd, Nat.reduceEqDiff, ↓reduceIte, f0, f2, f17, f18, f19, hbh, hc, tkC_one, tkC_cut, tkC_length]
    have bd := sumT_bound (T := T) (l := (needsK R e).take j) (a := n) (b := 0) (B := B) hn1 h01 hB (needsK R e)[j]
    have hlt : ((needsK R e).take j).length ≤ 10 := by rw [List.length_take]; omega
    have i1 : i64R ((sumT T ((needsK R e).take j) (n, 0) (needsK R e)[j]).1 + n) := by unfold i64R; omega
    have i2 : i64R ((sumT T ((needsK R e).take j) (n, 0) (needsK R e)[j]).2 + 0) := by unfold i64R; omega
    refine callT_D (count_ok _ z0 z1 z2 z3 z4 z5 z6 z7 z8 z9 p m M' _ (xM.mono (hget_appl lpM) (hget_appl lmM)) rM (needsK R e)[j] n 0 i1 i2) rfl ?_
    rintro w h2 ⟨hw, hl2, ho2, M2, xM2, rM2, hM2⟩
    simp only [List.length_append, List.length_cons, List.length_nil] at hw hl2 ho2 xM2
    subst hw
    rw [← sumT_snoc, ← htk] at rM2
    simp (disch := first | omega | (simp only [fsLen]; omega)) only [↓fsPre, fsPost, fsCond, fsGen, fsDefX, reduceCtorEq, Nat.reduceEqDiff, ↓reduceIte, f0, f2, f4, f17, f18, f19]
    exact ⟨by omega, fun c hc hne => by rw [ho2 c (by omega) hne, hget_appl (by omega)]; exact old c hc hne, M2, xM2, rM2, by omega⟩
  · rintro F h ⟨f0, f2, f4, f17, f18, f19, hl, old, M', xM, rM, hM'⟩
    rw [List.take_of_length_le (Nat.le_refl _)] at rM
    have hrowh : hget h H.length = some (.cells [.int .i64 e.tab, mv, .int .i64 e.pr, .int .i64 e.act, av] false) := by rw [old _ (by omega) (by omega)]; exact hrow1
    have sh := s1.mono2 hmap1 old
    have xEh := xE1.mono2 hmap1 old
    have oldH : ∀ c, c < H.length → c ≠ m → hget h c = hget H c := fun c hc hne => by rw [old c (by omega) hne]; exact o1' c hc
    clear old hrow1 o1' x1 hmap1 s1 xE1 hA
    have hpM := xM.hp
    simp only [List.cons_append, List.nil_append] at hpM
    have lpM := hget_some_lt hpM
    have lmM := xM.hm.lt
    have lrow := hget_some_lt hrowh
    simp (disch := first | omega | (simp only [fsLen]; omega)) only [↓fsPre, fsPost, fsGen, fsDefs, fsDefX, cls, reduceCtorEq, Nat.reduceAdd, Nat.reduceLeDiff, Nat.reduceEqDiff, ↓reduceIte, f0, f4, f18, f19, hpM, hrowh]
    refine callDT_D (provides_ok N _ R z0 z1 z2 z3 z4 z5 z6 z7 z8 z9 sh hR _ e xEh hok) rfl ?_
    rintro vb h3 ⟨l3, o3, gb⟩
    simp only at l3 o3 gb
    rw [ep] at gb
    obtain ⟨A, c, rfl, hA⟩ := tks_shape gb
    simp (disch := first | omega | (simp only [fsLen]; omega)) only [↓fsPre, fsPost, fsGen, fsDefs, cls, Nat.reduceBEq, ↓reduceIte]
    refine ⟨by omega, ?_⟩
    have x3 : CtAt h3 [z0, z1, z2, z3, z4, z5, z6, z7, z8, z9] p m M' := xM.mono (o3 _ lpM) (o3 _ lmM)
    have old3 : ∀ c, c < H.length → c ≠ m → hget h3 c = hget H c := fun c hc hne => by rw [o3 c (by omega)]; exact oldH c hc hne
    have hB3 : ∀ k, -(B + 10) ≤ (sumT T (needsK R e) (n, 0) k).1 ∧ (sumT T (needsK R e) (n, 0) k).1 ≤ B + 10 ∧ -(B + 10) ≤ (sumT T (needsK R e) (n, 0) k).2 ∧ (sumT T (needsK R e) (n, 0) k).2 ≤ B + 10 := fun k => by
      have := sumT_bound (T := T) (l := needsK R e) (a := n) (b := 0) (B := B) hn1 h01 hB k
      omega
    clear oldH sh xEh hrowh o3 gb f17 f18 f19
    generalize sumT T (needsK R e) (n, 0) = T1 at *
    refine wloop (fun j F h => F 0 = .ptr (some (p, 0)) ∧ F 2 = .int .i64 n ∧ F 4 = .ptr (some (H.length, 0)) ∧ F 33 = .slice A (provK R e).length c ∧ F 34 = .int .i64 (provK R e).length ∧ F 35 = .int .i64 j ∧ h3.length ≤ h.length ∧ (∀ c, c < h3.length → c ≠ m → hget h c = hget h3 c) ∧
      ∃ M2, CtAt h [z0, z1, z2, z3, z4, z5, z6, z7, z8, z9] p m M2 ∧ RepT M2 (sumT (T1) ((provK R e).take j) (0, n)) ∧ M2.length ≤ M'.length + j) (provK R e).length ?_ ?_ ?_
    · simp (disch := first | omega | (simp only [fsLen]; omega)) only [↓fsPre, fsGen, reduceCtorEq, Nat.reduceEqDiff, ↓reduceIte, f0, f2, f4]
      refine ⟨M', x3, ?_, by omega⟩
      rw [sumT_nil]; exact rM
    · clear f0 f2 f4 F
      rintro j F h' hj ⟨f0, f2, f4, f33, f34, f35, hl', old, M2, xM2, rM2, hM2⟩
      obtain ⟨b, rfl, hNb, hb⟩ := hA (by omega)
      have hbl1 := hget_lt hb
      have hbm : b ≠ m := by omega
      have hbh : hget h' b = some (.cells ((provK R e).flatMap tkC) false) := by rw [old b hbl1 hbm]; exact hb
      have hbl := hget_some_lt hbh
      have hc : cut ((provK R e).flatMap tkC) (j * 4) 4 = some (tkC (provK R e)[j]) := cut_flatMap tkC_length hj
      have htk : (provK R e).take (j + 1) = (provK R e).take j ++ [(provK R e)[j]] := by rw [List.take_add_one, List.getElem?_eq_getElem hj]; rfl
      have lpM := hget_some_lt xM2.hp
      have lmM := xM2.hm.lt
      simp (disch := first | omega | (simp only [fsLen]; omega)) only [↓fsPre, fsPost, fsCond, fsGen, fsDefs, fsDefX, reduceCtorEq, Nat.reduceAdd, Nat.reduceEqDiff, ↓reduceIte, f0, f2, f33, f34, f35, hbh, hc, tkC_one, tkC_cut, tkC_length]
      have bd := sumT_bound (T := T1) (l := (provK R e).take j) (a := 0) (b := n) (B := B + 10) h01 hn1 hB3 (provK R e)[j]
      have hlt : ((provK R e).take j).length ≤ 10 := by rw [List.length_take]; omega
      have i1 : i64R ((sumT T1 ((provK R e).take j) (0, n) (provK R e)[j]).1 + 0) := by unfold i64R; omega
      have i2 : i64R ((sumT T1 ((provK R e).take j) (0, n) (provK R e)[j]).2 + n) := by unfold i64R; omega
      refine callT_D (count_ok _ z0 z1 z2 z3 z4 z5 z6 z7 z8 z9 p m M2 _ (xM2.mono (hget_appl lpM) (hget_appl lmM)) rM2 (provK R e)[j] 0 n i1 i2) rfl ?_
      rintro w h2 ⟨hw, hl2, ho2, M3, xM3, rM3, hM3⟩
      simp only [List.length_append, List.length_cons, List.length_nil] at hw hl2 ho2 xM3
      subst hw
      rw [← sumT_snoc, ← htk] at rM3
      simp (disch := first | omega | (simp only [fsLen]; omega)) only [↓fsPre, fsPost, fsCond, fsGen, fsDefX, reduceCtorEq, Nat.reduceEqDiff, ↓reduceIte, f0, f2, f4, f33, f34, f35]
      exact ⟨by omega, fun c hc hne => by rw [ho2 c (by omega) hne, hget_appl (by omega)]; exact old c hc hne, M3, xM3, rM3, by omega⟩
    · clear f0 f2 f4 F
      rintro F h' ⟨f0, f2, f4, f33, f34, f35, hl', old, M2, xM2, rM2, hM2⟩
      rw [List.take_of_length_le (Nat.le_refl _)] at rM2
      simp (disch := first | omega | (simp only [fsLen]; omega)) only [↓fsPre, fsPost, fsGen, fsDefs, fsDefX, ↓reduceIte, f34, f35]
      exact ⟨rfl, by show H.length ≤ h'.length; omega, fun c hc hne => by rw [old c (by omega) hne]; exact old3 c hc hne, M2, xM2, rM2, by omega⟩

theorem add_ok (N : Nat) (H : Heap) (R : List Rf) (z0 z1 z2 z3 z4 z5 z6 z7 z8 z9 : NV) (p m : Nat) (M : List (TK × (Int × Int))) (T : TK → Int × Int) (x : CtAt H [z0, z1, z2, z3, z4, z5, z6, z7, z8, z9] p m M) (r : RepT M T)
    (s : RfV H R z0 z1 z2 z3 z4 z5 z6 z7 z8 z9) (hR : R.length ≤ 10) (row : List NV) (e : En) (xE : EnAt H N row e) (hok : ∀ r ∈ R, RfOK r e) (hu : EnU e) (B : Int) (hB : ∀ k, -B ≤ (T k).1 ∧ (T k).1 ≤ B ∧ -B ≤ (T k).2 ∧ (T k).2 ≤ B) (hB2 : B ≤ 100000) :
    DCall Try.prog 17 [.ptr (some (p, 0)), .agg row] H (EntQ H [z0, z1, z2, z3, z4, z5, z6, z7, z8, z9] p m M (entT T R e (1)) ((needsK R e).length + (provK R e).length)) := by
  have lp := hget_some_lt x.hp
  have lm := x.hm.lt
  refine call_det E0 rfl mixed t17_ok (by kernel_rfl) (by rintro q ⟨_, h, _⟩; exact h) ?_
  simp only [t17]
  obtain ⟨mv, av, hrw, om, oav, _⟩ := xE.parts
  subst hrw
  simp (disch := first | omega | (simp only [fsLen]; omega)) only [↓fsPre, fsPost, fsCond, fsGen, reduceCtorEq, Nat.reduceAdd, Nat.reduceEqDiff, ↓reduceIte, om, oav]
  refine callT_D (enter_ok N _ R z0 z1 z2 z3 z4 z5 z6 z7 z8 z9 p m M T (x.mono (hget_appl lp) (hget_appl lm)) r (s.mono fun b hb => hget_appl hb) hR _ e (xE.mono fun b hb => hget_appl hb) hok hu (1) (by omega) B hB hB2) rfl ?_
  rintro v g ⟨hv, hl, ho, M', xM, rM, hM⟩
  simp only [List.length_append, List.length_cons, List.length_nil] at hv hl ho xM
  subst hv
  simp (disch := first | omega | (simp only [fsLen]; omega)) only [↓fsPre, fsPost, fsGen, fsDefs]
  exact ⟨rfl, by show H.length ≤ g.length; omega, fun c hc hne => by show hget g c = hget H c; rw [ho c (by omega) hne, hget_appl hc], M', xM, rM, hM⟩

theorem remove_ok (N : Nat) (H : Heap) (R : List Rf) (z0 z1 z2 z3 z4 z5 z6 z7 z8 z9 : NV) (p m : Nat) (M : List (TK × (Int × Int))) (T : TK → Int × Int) (x : CtAt H [z0, z1, z2, z3, z4, z5, z6, z7, z8, z9] p m M) (r : RepT M T)
    (s : RfV H R z0 z1 z2 z3 z4 z5 z6 z7 z8 z9) (hR : R.length ≤ 10) (row : List NV) (e : En) (xE : EnAt H N row e) (hok : ∀ r ∈ R, RfOK r e) (hu : EnU e) (B : Int) (hB : ∀ k, -B ≤ (T k).1 ∧ (T k).1 ≤ B ∧ -B ≤ (T k).2 ∧ (T k).2 ≤ B) (hB2 : B ≤ 100000) :
    DCall Try.prog 21 [.ptr (some (p, 0)), .agg row] H (EntQ H [z0, z1, z2, z3, z4, z5, z6, z7, z8, z9] p m M (entT T R e (-1)) ((needsK R e).length + (provK R e).length)) := by
  have lp := hget_some_lt x.hp
  have lm := x.hm.lt
  refine call_det E0 rfl mixed t21_ok (by kernel_rfl) (by rintro q ⟨_, h, _⟩; exact h) ?_
  simp only [t21]
  obtain ⟨mv, av, hrw, om, oav, _⟩ := xE.parts
  subst hrw
  simp (disch := first | omega | (simp only [fsLen]; omega)) only [↓fsPre, fsPost, fsCond, fsGen, reduceCtorEq, Nat.reduceAdd, Nat.reduceEqDiff, Int.reduceNeg, ↓reduceIte, om, oav]
  refine callT_D (enter_ok N _ R z0 z1 z2 z3 z4 z5 z6 z7 z8 z9 p m M T (x.mono (hget_appl lp) (hget_appl lm)) r (s.mono fun b hb => hget_appl hb) hR _ e (xE.mono fun b hb => hget_appl hb) hok hu (-1) (by omega) B hB hB2) rfl ?_
  rintro v g ⟨hv, hl, ho, M', xM, rM, hM⟩
  simp only [List.length_append, List.length_cons, List.length_nil] at hv hl ho xM
  subst hv
  simp (disch := first | omega | (simp only [fsLen]; omega)) only [↓fsPre, fsPost, fsGen, fsDefs, Int.reduceNeg]
  exact ⟨rfl, by show H.length ≤ g.length; omega, fun c hc hne => by show hget g c = hget H c; rw [ho c (by omega) hne, hget_appl hc], M', xM, rM, hM⟩

def dangB (x : TK × (Int × Int)) : Bool := decide (0 < x.2.1 ∧ x.2.2 = 0)
def dangK (L : List (TK × (Int × Int))) : List TK := (L.filter dangB).map (·.1)
theorem dangK_snoc (L : List (TK × (Int × Int))) (x : TK × (Int × Int)) : dangK (L ++ [x]) = dangK L ++ (if dangB x = true then [x.1] else []) := by
  unfold dangK
  rw [List.filter_append, List.map_append]
  congr 1
  by_cases h : dangB x = true
  · rw [if_pos h, List.filter_cons_of_pos h]; rfl
  · rw [if_neg h, List.filter_cons_of_neg h]; rfl
theorem dangK_le (L : List (TK × (Int × Int))) : (dangK L).length ≤ L.length := by
  unfold dangK
  rw [List.length_map]
  exact List.length_filter_le _ _
theorem cnC_fill (x : TK × (Int × Int)) : cnC x ++ List.drop (cnC x).length [NV.int .i64 0, NV.int .i64 0, NV.int .u64 0, NV.int .u64 0, NV.int .i64 0, NV.int .i64 0] = cnC x := by
  rw [cnC_length]; exact List.append_nil _
theorem cnC_one (x : TK × (Int × Int)) : (cnC x).all NV.one = true := rfl
theorem cnC_n (x : TK × (Int × Int)) : (cnC x)[4]? = some (.int .i64 x.2.1) := rfl
theorem cnC_p (x : TK × (Int × Int)) : (cnC x)[5]? = some (.int .i64 x.2.2) := rfl
theorem cnC_k (x : TK × (Int × Int)) : cut (cnC x) 0 4 = some (tkC x.1) := rfl
def dangQ (H : Heap) (l : List TK) (r : NV × Heap) : Prop := H.length ≤ r.2.length ∧ (∀ b, b < H.length → hget r.2 b = hget H b) ∧ GrC r.2 H.length (l.flatMap tkC) 4 r.1

set_option maxHeartbeats 1000000 in
theorem dang_ok (H : Heap) (z0 z1 z2 z3 z4 z5 z6 z7 z8 z9 : NV) (p m : Nat) (M L : List (TK × (Int × Int))) (x : CtAt H [z0, z1, z2, z3, z4, z5, z6, z7, z8, z9] p m M) (hs : SortedK ltK L) (hp : L.Perm M) (hM : M.length ≤ 150) :
    DCall Try.prog 18 [.ptr (some (p, 0))] H (dangQ H (dangK L)) := by
  refine call_det E0 rfl mixed t18_ok (by kernel_rfl) (by rintro q ⟨h, _⟩; exact h) ?_
  simp only [t18]
  simp (disch := first | omega | (simp only [fsLen]; omega)) only [↓fsPre, fsPost, fsGen, reduceCtorEq, ↓reduceIte]
  by_cases h0 : M = []
  · subst h0
    have hL : L = [] := by simpa using hp.length_eq
    subst hL
    refine callT_one (call_nil _ _ _ _ _ _ _ _ _ _ _ _ _ x) rfl ?_
    simp (disch := first | omega | (simp only [fsLen]; omega)) only [↓fsPre, fsPost, fsGen, fsDefs, ↓reduceIte]
    refine wloop (fun j F h => F 3 = .slice none 0 (.fix 0) ∧ F 8 = .int .i64 0 ∧ F 9 = .int .i64 0 ∧ h = H) 0 ?_ ?_ ?_
    · simp (disch := first | omega | (simp only [fsLen]; omega)) only [↓fsPre, fsGen, Nat.reduceEqDiff, ↓reduceIte]
    · intro j F h hj; omega
    · rintro F h ⟨f3, f8, f9, rfl⟩
      simp (disch := first | omega | (simp only [fsLen]; omega)) only [↓fsPre, fsPost, fsGen, fsDefs, fsDefX, Nat.reduceEqDiff, ↓reduceIte, f3, f8, f9]
      exact ⟨Nat.le_refl _, fun b _ => rfl, GrC.nil⟩
  · refine callT_one (call_some _ _ _ _ _ _ _ _ _ _ _ _ _ M L x hs hp hM h0) rfl ?_
    simp (disch := first | omega | (simp only [fsLen]; omega)) only [↓fsPre, fsPost, fsDefs, ↓reduceIte]
    have hlen := hp.length_eq
    refine wloop (fun j F h => ∃ v, F 3 = v ∧ F 7 = .slice (some (H.length, 0)) L.length (.opn 6) ∧ F 8 = .int .i64 L.length ∧ F 9 = .int .i64 j ∧ H.length + 1 ≤ h.length ∧ (∀ b, b < H.length → hget h b = hget H b) ∧ hget h H.length = some (.cells (L.flatMap cnC) false) ∧ GrC h (H.length + 1) ((dangK (L.take j)).flatMap tkC) 4 v) L.length ?_ ?_ ?_
    · refine ⟨.slice none 0 (.fix 0), ?_⟩
      simp (disch := first | omega | (simp only [fsLen]; omega)) only [↓fsPre, fsPost, fsCond, fsGen, Nat.reduceEqDiff, ↓reduceIte]
      exact ⟨fun b hb => hget_appl hb, GrC.nil⟩
    · rintro j F h hj ⟨v, f3, f7, f8, f9, hl, old, hb, hg⟩
      have hbl := hget_some_lt hb
      have hc : cut (L.flatMap cnC) (j * 6) 6 = some (cnC L[j]) := cut_flatMap cnC_length hj
      have htk : L.take (j + 1) = L.take j ++ [L[j]] := by rw [List.take_add_one, List.getElem?_eq_getElem hj]; rfl
      have hdl := dangK_le (L.take j)
      rw [List.length_take] at hdl
      have hsn := dangK_snoc (L.take j) L[j]
      rw [← htk] at hsn
      by_cases g1 : 0 < L[j].2.1
      · by_cases g2 : L[j].2.2 = 0
        · have hd : dangB L[j] = true := by unfold dangB; simp [g1, g2]
          rw [if_pos hd] at hsn
          simp (disch := first | omega | (simp only [fsLen]; omega)) only [↓fsPre, fsPost, fsCond, fsGen, fsDefs, fsDefX, Nat.reduceAdd, Nat.reduceEqDiff, ↓reduceIte, f3, f7, f8, f9, hb, hc, cnC_one, cnC_length, cnC_n, cnC_p, cnC_k, decide_eq_true g1, g2, tkC_one, tkC_length]
          refine grc_app (N := H.length + 1) (new := tkC L[j].1) (m := 1) (hg.ext Ext.app) (by rw [List.length_append]; omega) (sliceCells_at (by simp (disch := first | omega | (simp only [fsLen]; omega)) only [fsPost, fsCond, fsGen] <;> rfl) rfl) rfl (by omega) (by omega) rfl (by rw [tks_length]; omega) (by omega) (by omega) ?_
          intro v' h'' g' hl'' ho''
          simp only [List.length_append, List.length_cons, List.length_nil] at hl''
          simp (disch := first | omega | (simp only [fsLen]; omega)) only [↓fsPre, fsPost, fsCond, fsGen, fsDefX, Nat.reduceEqDiff, ↓reduceIte, f7, f8, f9]
          refine ⟨v', ?_⟩
          simp (disch := first | omega | (simp only [fsLen]; omega)) only [fsGen]
          refine ⟨by omega, fun b hb' => ?_, ?_, ?_⟩
          · rw [ho'' _ (by omega), hget_appl (by omega)]; exact old b hb'
          · rw [ho'' _ (by omega), hget_appl (by omega)]; exact hb
          · rw [hsn, List.flatMap_append, List.flatMap_cons, List.flatMap_nil, List.append_nil]; exact g'
        · have hd : ¬ dangB L[j] = true := by unfold dangB; simp [g2]
          rw [if_neg hd, List.append_nil] at hsn
          simp (disch := first | omega | (simp only [fsLen]; omega)) only [↓fsPre, fsPost, fsCond, fsGen, fsDefs, fsDefX, Nat.reduceAdd, Nat.reduceLeDiff, Nat.reduceEqDiff, ↓reduceIte, f3, f7, f8, f9, hb, hc, cnC_one, cnC_length, cnC_n, cnC_p, decide_eq_true g1, g2]
          rw [hsn]
          refine ⟨v, ?_⟩
          simp (disch := first | omega | (simp only [fsLen]; omega)) only [fsGen]
          exact ⟨by omega, fun b hb' => by rw [hget_appl (by omega)]; exact old b hb', hg.ext Ext.app⟩
      · have hd : ¬ dangB L[j] = true := by unfold dangB; simp [g1]
        rw [if_neg hd, List.append_nil] at hsn
        simp (disch := first | omega | (simp only [fsLen]; omega)) only [↓fsPre, fsPost, fsCond, fsGen, fsDefs, fsDefX, Nat.reduceAdd, Nat.reduceLeDiff, Nat.reduceEqDiff, ↓reduceIte, f3, f7, f8, f9, hb, hc, cnC_one, cnC_length, cnC_n, decide_eq_false g1]
        rw [hsn]
        refine ⟨v, ?_⟩
        simp (disch := first | omega | (simp only [fsLen]; omega)) only [fsGen]
        exact ⟨by omega, fun b hb' => by rw [hget_appl (by omega)]; exact old b hb', hg.ext Ext.app⟩
    · rintro F h ⟨v, f3, f7, f8, f9, hl, old, hb, hg⟩
      rw [List.take_of_length_le (Nat.le_refl _)] at hg
      have ov := hg.one
      simp (disch := first | omega | (simp only [fsLen]; omega)) only [↓fsPre, fsPost, fsGen, fsDefs, fsDefX, Nat.reduceEqDiff, ↓reduceIte, f3, f8, f9]
      exact ⟨by show H.length ≤ h.length; omega, old, hg.low (by omega)⟩

noncomputable def c1 (R : List Rf) (e : En) (k : TK) : Int := ((needsK R e).count k : Nat)
noncomputable def c2 (R : List Rf) (e : En) (k : TK) : Int := ((provK R e).count k : Nat)
theorem entT_eq (T : TK → Int × Int) (R : List Rf) (e : En) (n : Int) (k : TK) : entT T R e n k = ((T k).1 + c1 R e k * n, (T k).2 + c2 R e k * n) := by
  unfold entT sumT c1 c2
  simp
noncomputable def accT (R : List Rf) : List En → TK → Int × Int
  | [], _ => (0, 0)
  | e :: es, k => ((accT R es k).1 + c1 R e k, (accT R es k).2 + c2 R e k)
theorem accT_perm {R : List Rf} {l l' : List En} (p : l.Perm l') : accT R l = accT R l' := by
  induction p with
  | nil => rfl
  | cons e p ih => funext k; unfold accT; rw [ih]
  | swap a b l =>
    funext k
    simp only [accT]
    exact Prod.ext (by simp only; omega) (by simp only; omega)
  | trans _ _ h1 h2 => rw [h1, h2]
theorem accT_snoc (R : List Rf) (l : List En) (e : En) : accT R (l ++ [e]) = entT (accT R l) R e 1 := by
  funext k
  rw [accT_perm (List.perm_append_comm (l₁ := l) (l₂ := [e])), entT_eq]
  show accT R (e :: l) k = _
  simp only [accT, Int.mul_one]
theorem accT_drop (R : List Rf) (l : List En) (e : En) : entT (accT R (e :: l)) R e (-1) = accT R l := by
  funext k
  rw [entT_eq]
  simp only [accT]
  exact Prod.ext (by simp only; omega) (by simp only; omega)
theorem accT_bound (R : List Rf) (hR : R.length ≤ 10) : ∀ (l : List En) (k : TK), 0 ≤ (accT R l k).1 ∧ (accT R l k).1 ≤ 10 * l.length ∧ 0 ≤ (accT R l k).2 ∧ (accT R l k).2 ≤ 10 * l.length
  | [], k => by simp [accT]
  | e :: l, k => by
    have ih := accT_bound R hR l k
    have h1 : (needsK R e).count k ≤ 10 := Nat.le_trans List.count_le_length (by unfold needsK; rw [List.length_map]; have := needsL_le R e; omega)
    have h2 : (provK R e).count k ≤ 10 := Nat.le_trans List.count_le_length (by unfold provK; rw [List.length_map]; have := provL_le R e; omega)
    simp only [accT, c1, c2, List.length_cons]
    omega
theorem RepT.zero {M : List (TK × (Int × Int))} {T : TK → Int × Int} (r : RepT M T) (h : ∀ k, T k = (0, 0)) : M = [] := by
  cases M with
  | nil => rfl
  | cons x M =>
    obtain ⟨k, v⟩ := x
    have := (r.mem k v).1 (List.mem_cons_self ..)
    rw [h k] at this
    exact absurd this.1.symm this.2
/-- Two maps of the same tallies, in order. -/
theorem RepT.same {M M' L L' : List (TK × (Int × Int))} {T : TK → Int × Int} (r : RepT M T) (r' : RepT M' T) (s : SortedK ltK L) (s' : SortedK ltK L') (p : L.Perm M) (p' : L'.Perm M') : L = L' := by
  have q := r.perm p
  have q' := r'.perm p'
  refine SortedK.eq ltK_ord s s' ?_
  have n1 : L.Nodup := List.Pairwise.imp (fun h e => h (by rw [e])) (List.pairwise_map.1 q.nd)
  have n2 : L'.Nodup := List.Pairwise.imp (fun h e => h (by rw [e])) (List.pairwise_map.1 q'.nd)
  rw [List.perm_ext_iff_of_nodup n1 n2]
  rintro ⟨k, v⟩
  rw [q.mem, q'.mem]
theorem refsOf_le6 (t : TP) : (refsOf t).length ≤ 6 := by
  unfold refsOf
  cases t.m3 <;> cases t.m4 <;> simp
/-- The entries from one on, downwards and around. -/
def turned (es : List En) (t : Nat) : List En := (es.take (t + 1)).reverse ++ (es.drop (t + 1)).reverse
theorem turned_perm (es : List En) (t : Nat) : (turned es t).Perm es := by
  unfold turned
  have := (List.reverse_perm (es.take (t + 1))).append (List.reverse_perm (es.drop (t + 1)))
  rwa [List.take_append_drop] at this
theorem turned_length (es : List En) (t : Nat) : (turned es t).length = es.length := (turned_perm es t).length_eq
theorem turned_at {es : List En} {t i : Nat} (ht : t < es.length) (hi : i < es.length) : (turned es t)[i]? = es[(modN ((t : Int) - i) es.length).toNat]? := by
  have hmod : modN ((t : Int) - i) es.length = if i ≤ t then (t : Int) - i else (t : Int) - i + es.length := by
    unfold modN
    split
    · rename_i h
      have h1 : ((t : Int) - i).tmod es.length = (t : Int) - i := Int.tmod_eq_of_lt (by omega) (by omega)
      rw [h1, Int.tmod_eq_emod_of_nonneg (by omega), Int.add_emod_right, Int.emod_eq_of_lt (by omega) (by omega)]
    · rename_i h
      have h1 : ((t : Int) - i).tmod es.length = (t : Int) - i := by
        have h2 : ((i : Int) - t).tmod es.length = (i : Int) - t := Int.tmod_eq_of_lt (by omega) (by omega)
        have h3 := Int.neg_tmod ((i : Int) - t) es.length
        rw [h2] at h3
        rw [show (t : Int) - i = -((i : Int) - t) by omega]
        exact h3
      rw [h1]
      exact Int.tmod_eq_of_lt (by omega) (by omega)
  rw [hmod]
  unfold turned
  split
  · rename_i h
    rw [List.getElem?_append_left (by simp; omega), List.getElem?_reverse (by simp; omega), List.getElem?_take_of_lt (by simp; omega)]
    congr 1
    simp
    omega
  · rename_i h
    rw [List.getElem?_append_right (by simp; omega), List.getElem?_reverse (by simp; omega), List.getElem?_drop]
    congr 1
    simp
    omega

/-- All blocks of cells are kept. -/
def KeepC (G h : Heap) : Prop := ∀ b cs ro, hget G b = some (.cells cs ro) → hget h b = some (.cells cs ro)
theorem RfV.keepC {h h' : Heap} {R : List Rf} {z0 z1 z2 z3 z4 z5 z6 z7 z8 z9 : NV} (s : RfV h R z0 z1 z2 z3 z4 z5 z6 z7 z8 z9) (k : KeepC h h') : RfV h' R z0 z1 z2 z3 z4 z5 z6 z7 z8 z9 := by
  obtain ⟨o, b, c, cs, ro, h1, h2, h3⟩ := s
  exact ⟨o, b, c, cs, ro, h1, k _ _ _ h2, h3⟩
theorem grc_keepC {h h' : Heap} {N e : Nat} {C : List NV} {v : NV} (g : GrC h N C e v) (k : KeepC h h') : GrC h' N C e v := by
  rcases g with g | ⟨b, n, h1, h2, h3, h4⟩
  · exact .inl g
  · exact .inr ⟨b, n, h1, h2, k _ _ _ h3, h4⟩
theorem EnAt.keepC {h h' : Heap} {N : Nat} {row : List NV} {e : En} (x : EnAt h N row e) (k : KeepC h h') : EnAt h' N row e := by
  obtain ⟨mv, av, h1, h2, h3⟩ := x
  exact ⟨mv, av, h1, grc_keepC h2 k, grc_keepC h3 k⟩
theorem keepC_of {G h : Heap} {mx my : Nat} (hx : ∃ es cl, hget G mx = some (.map es cl)) (hy : ∃ es cl, hget G my = some (.map es cl)) (k : ∀ b, b < G.length → b ≠ mx → b ≠ my → hget h b = hget G b) : KeepC G h := by
  intro b cs ro hb
  obtain ⟨_, _, hx⟩ := hx
  obtain ⟨_, _, hy⟩ := hy
  rw [k b (hget_lt hb) (by rintro rfl; rw [hx] at hb; cases hb) (by rintro rfl; rw [hy] at hb; cases hb)]
  exact hb
theorem fwp_partJ {S : Env} {a : NCode} {K : FK} {F : FF} {h : Heap} (J : FF → Heap → Prop) (h1 : fwpT S a (joinK J) F h .mk) (h2 : ∀ F h, J F h → K .nrm F h) : fwpT S a K F h .mk := by
  refine fwp_mono a h1 ?_
  intro c F h hc
  cases c with
  | nrm => exact h2 F h hc
  | exit i => exact hc.elim
  | ret => exact hc.elim
/-- Entries that lie in a heap as a list's rows. -/
structure RowsAt (G : Heap) (N : Nat) (rows : List (List NV)) (es : List En) (oa : Option (Nat × Nat)) : Prop where
  len : rows.length = es.length
  r5 : ∀ r ∈ rows, r.length = 5
  blk : 0 < rows.length → ∃ bo, oa = some (bo, 0) ∧ hget G bo = some (.cells rows.flatten false)
  row : ∀ i (h1 : i < rows.length) (h2 : i < es.length), EnAt G N rows[i] es[i]
theorem RowsAt.keepC {G h : Heap} {N : Nat} {rows : List (List NV)} {es : List En} {oa : Option (Nat × Nat)} (x : RowsAt G N rows es oa) (k : KeepC G h) : RowsAt h N rows es oa :=
  ⟨x.len, x.r5, fun h0 => by obtain ⟨bo, h1, h2⟩ := x.blk h0; exact ⟨bo, h1, k _ _ _ h2⟩, fun i h1 h2 => (x.row i h1 h2).keepC k⟩
theorem keepC_old {G h : Heap} (k : ∀ b, b < G.length → hget h b = hget G b) : KeepC G h := fun b cs ro hb => by rw [k b (hget_lt hb)]; exact hb

end Go.Proofs
