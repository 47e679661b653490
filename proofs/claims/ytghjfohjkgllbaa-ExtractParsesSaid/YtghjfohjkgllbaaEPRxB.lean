/- Rx5, Rx6, Rx7 in one text. -/
import Derived.Test.YtghjfohjkgllbaaEPRxA
import Derived.Test.YtghjfohjkgllbaaEPExQ
import Derived.Test.YtghjfohjkgllbaaVbD
set_option linter.unusedSimpArgs false
set_option linter.unusedVariables false
set_option maxRecDepth 10000
namespace Go.Proofs
open Go.Ns

/-- The rest of a packet lies in the heap. -/
def RestLow (n : Nat) (v : NV) : Prop := ∀ vF vV vR st, v = .agg (cxCells vF vV vR st) → ∀ b o k c, vR = .slice (some (b, o)) k c → b < n

set_option maxHeartbeats 4000000 in
theorem rparse_ok {A : XA} {H : Heap} {z0 z1 z2 z3 z4 z5 z6 z7 z8 z9 : NV} (y : YAt A H z0 z1 z2 z3 z4 z5 z6 z7 z8 z9) (N0 m : Nat) (d : Nat → BitVec 8) (fl : List (BitVec 128)) (vl : List Bool) (v : NV) (hc : CxAt A H N0 m d fl vl 0 0 v) (hlow : RestLow H.length v) (hN0 : N0 ≤ H.length) (hm : m ≤ 1000) (hl : 0 < A.l.length ∧ 0 < A.hl.length)
    (hw : ∀ k, k < A.hl.length → ∀ id ∈ A.hf k, A.bits id ≤ 128) :
    DCall Try.prog 15 [.agg [z0, z1, z2, z3, z4, z5, z6, z7, z8, z9], v] H fun r => (∃ L, r.2 = H ++ L) ∧ ∃ w, r.1 = .tup [w, .int .i64 (A.parse m d ⟨fl, vl, 0, 0⟩).2] ∧
      CxAt A r.2 N0 m d (A.parse m d ⟨fl, vl, 0, 0⟩).1.fl (A.parse m d ⟨fl, vl, 0, 0⟩).1.vl (A.parse m d ⟨fl, vl, 0, 0⟩).1.o (A.parse m d ⟨fl, vl, 0, 0⟩).1.st w := by
  obtain ⟨o0, o1, o2, o3, o4, o5, o6, o7, o8, o9⟩ := y.x.ones
  have ok := y.x.ok
  obtain ⟨k1, k2⟩ := hl
  have nl := ok.nl
  have nh := ok.nh
  obtain ⟨bF0, bV0, cF0, cV0, vR, rfl, _, _, g0, hF0, hV0, lF, lV, hR, hsep0⟩ := hc
  have q3 := hR.one
  have lF0 := hget_some_lt hF0
  have lV0 := hget_some_lt hV0
  have hRl : ∀ b o n c, vR = .slice (some (b, o)) n c → b < H.length := hlow _ _ _ _ rfl
  refine call_det E0 rfl mixed t15_ok (by kernel_rfl) (by rintro q ⟨⟨L, h⟩, _⟩; rw [h]; simp) ?_
  simp only [t15, cxCells]
  simp (disch := first | omega | (simp only [fsLen]; omega)) only [↓fsPre, fsPost, fsCond, fsGen, fsDefs, fsDefX, cls, eqVal, reduceCtorEq, Nat.reduceAdd, Nat.reduceMul, Nat.reduceSub, Nat.reduceLT, Nat.reduceLeDiff, Nat.reduceEqDiff, Nat.reduceBEq, Nat.reduceBNe, Int.reduceLT, Int.reduceLE, Int.reduceEq, Int.reduceNe, Int.reduceAdd, Int.reduceSub, Int.reduceNeg, Int.reduceToNat, Int.reduceMul, ↓reduceIte, Int.reduceGT, Int.reduceGE, o0, o1, o2, o3, o4, o5, o6, o7, o8, o9, q3]
  refine app_fix (n := A.l.length) (new := vals fl) (sliceCells_at (by simp (disch := first | omega | (simp only [fsLen]; omega)) only [↓fsPre, fsPost, fsCond, fsGen, fsDefs, fsDefX, cls, eqVal, reduceCtorEq, Nat.reduceAdd, Nat.reduceMul, Nat.reduceSub, Nat.reduceLT, Nat.reduceLeDiff, Nat.reduceEqDiff, Nat.reduceBEq, Nat.reduceBNe, Int.reduceLT, Int.reduceLE, Int.reduceEq, Int.reduceNe, Int.reduceAdd, Int.reduceSub, Int.reduceNeg, Int.reduceToNat, Int.reduceMul, ↓reduceIte, Int.reduceGT, Int.reduceGE, hF0] <;> rfl) (by unfold cut; rw [if_pos (by rw [vals_length]; omega)]; simp [List.take_of_length_le, vals_length, lF])) rfl (by omega) (by omega) (old := []) (by simp [sliceCells]) ?_
  simp (disch := first | omega | (simp only [fsLen]; omega)) only [↓fsPre, fsPost, fsCond, fsGen, fsDefs, fsDefX, cls, eqVal, reduceCtorEq, Nat.reduceAdd, Nat.reduceMul, Nat.reduceSub, Nat.reduceLT, Nat.reduceLeDiff, Nat.reduceEqDiff, Nat.reduceBEq, Nat.reduceBNe, Int.reduceLT, Int.reduceLE, Int.reduceEq, Int.reduceNe, Int.reduceAdd, Int.reduceSub, Int.reduceNeg, Int.reduceToNat, Int.reduceMul, ↓reduceIte, Int.reduceGT, Int.reduceGE, o0, o1, o2, o3, o4, o5, o6, o7, o8, o9, q3]
  refine app_fix (n := A.hl.length) (new := bools vl) (sliceCells_at (by simp (disch := first | omega | (simp only [fsLen]; omega)) only [↓fsPre, fsPost, fsCond, fsGen, fsDefs, fsDefX, cls, eqVal, reduceCtorEq, Nat.reduceAdd, Nat.reduceMul, Nat.reduceSub, Nat.reduceLT, Nat.reduceLeDiff, Nat.reduceEqDiff, Nat.reduceBEq, Nat.reduceBNe, Int.reduceLT, Int.reduceLE, Int.reduceEq, Int.reduceNe, Int.reduceAdd, Int.reduceSub, Int.reduceNeg, Int.reduceToNat, Int.reduceMul, ↓reduceIte, Int.reduceGT, Int.reduceGE, hV0] <;> rfl) (by unfold cut; rw [if_pos (by rw [bools_length]; omega)]; simp [List.take_of_length_le, bools_length, lV])) rfl (by omega) (by omega) (old := []) (by simp [sliceCells]) ?_
  simp (disch := first | omega | (simp only [fsLen]; omega)) only [↓fsPre, fsPost, fsCond, fsGen, fsDefs, fsDefX, cls, eqVal, reduceCtorEq, Nat.reduceAdd, Nat.reduceMul, Nat.reduceSub, Nat.reduceLT, Nat.reduceLeDiff, Nat.reduceEqDiff, Nat.reduceBEq, Nat.reduceBNe, Int.reduceLT, Int.reduceLE, Int.reduceEq, Int.reduceNe, Int.reduceAdd, Int.reduceSub, Int.reduceNeg, Int.reduceToNat, Int.reduceMul, ↓reduceIte, Int.reduceGT, Int.reduceGE, o0, o1, o2, o3, o4, o5, o6, o7, o8, o9, q3]
  obtain ⟨sa, sc, rfl, hS⟩ := y.x.s
  simp (disch := first | omega | (simp only [fsLen]; omega)) only [↓fsPre, fsPost, fsCond, fsGen, fsDefs, fsDefX, cls, eqVal, reduceCtorEq, Nat.reduceAdd, Nat.reduceMul, Nat.reduceSub, Nat.reduceLT, Nat.reduceLeDiff, Nat.reduceEqDiff, Nat.reduceBEq, Nat.reduceBNe, Int.reduceLT, Int.reduceLE, Int.reduceEq, Int.reduceNe, Int.reduceAdd, Int.reduceSub, Int.reduceNeg, Int.reduceToNat, Int.reduceMul, ↓reduceIte, Int.reduceGT, Int.reduceGE, o0, o1, o2, o3, o4, o5, o6, o7, o8, o9, q3]
  refine condK_dec (fun he => ?_) (fun he => ?_)
  · simp (disch := first | omega | (simp only [fsLen]; omega)) only [↓fsPre, fsPost, fsCond, fsGen, fsDefs, fsDefX, cls, eqVal, reduceCtorEq, Nat.reduceAdd, Nat.reduceMul, Nat.reduceSub, Nat.reduceLT, Nat.reduceLeDiff, Nat.reduceEqDiff, Nat.reduceBEq, Nat.reduceBNe, Int.reduceLT, Int.reduceLE, Int.reduceEq, Int.reduceNe, Int.reduceAdd, Int.reduceSub, Int.reduceNeg, Int.reduceToNat, Int.reduceMul, ↓reduceIte, Int.reduceGT, Int.reduceGE, q3]
    have hp : A.parse m d ⟨fl, vl, 0, 0⟩ = (⟨fl, vl, 0, 0⟩, 0) := by unfold XA.parse; rw [if_pos (by omega)]
    rw [hp]
    refine ⟨⟨_, rfl⟩, _, rfl, H.length + 5, H.length + 6, _, _, vR, rfl, by omega, by omega, by omega, by simp (disch := first | omega | (simp only [fsLen]; omega)) only [↓fsPre, fsPost, fsCond, fsGen, fsDefs, fsDefX, cls, eqVal, reduceCtorEq, Nat.reduceAdd, Nat.reduceMul, Nat.reduceSub, Nat.reduceLT, Nat.reduceLeDiff, Nat.reduceEqDiff, Nat.reduceBEq, Nat.reduceBNe, Int.reduceLT, Int.reduceLE, Int.reduceEq, Int.reduceNe, Int.reduceAdd, Int.reduceSub, Int.reduceNeg, Int.reduceToNat, Int.reduceMul, ↓reduceIte, Int.reduceGT, Int.reduceGE], by simp (disch := first | omega | (simp only [fsLen]; omega)) only [↓fsPre, fsPost, fsCond, fsGen, fsDefs, fsDefX, cls, eqVal, reduceCtorEq, Nat.reduceAdd, Nat.reduceMul, Nat.reduceSub, Nat.reduceLT, Nat.reduceLeDiff, Nat.reduceEqDiff, Nat.reduceBEq, Nat.reduceBNe, Int.reduceLT, Int.reduceLE, Int.reduceEq, Int.reduceNe, Int.reduceAdd, Int.reduceSub, Int.reduceNeg, Int.reduceToNat, Int.reduceMul, ↓reduceIte, Int.reduceGT, Int.reduceGE], lF, lV, hR.keep (Nat.le_refl _) ?_, ?_⟩
    · rintro b ⟨o, n, c, e⟩
      have := hRl _ _ _ _ e
      simp (disch := first | omega | (simp only [fsLen]; omega)) only [↓fsPre, fsPost, fsCond, fsGen, fsDefs, fsDefX, cls, eqVal, reduceCtorEq, Nat.reduceAdd, Nat.reduceMul, Nat.reduceSub, Nat.reduceLT, Nat.reduceLeDiff, Nat.reduceEqDiff, Nat.reduceBEq, Nat.reduceBNe, Int.reduceLT, Int.reduceLE, Int.reduceEq, Int.reduceNe, Int.reduceAdd, Int.reduceSub, Int.reduceNeg, Int.reduceToNat, Int.reduceMul, ↓reduceIte, Int.reduceGT, Int.reduceGE]
    · intro b o n c e
      have := hRl _ _ _ _ e
      omega
  · have hs0 : 0 < A.sl.length := by omega
    obtain ⟨bS, csS, roS, rfl, hbS, hrS⟩ := hS hs0
    have lS := hget_some_lt hbS
    have hz9 := y.x.b
    subst hz9
    obtain ⟨cv0, hcut0, hcases0⟩ := hrS 0 hs0
    have ocv0 := hcases0.one
    have hcut0' := hcut0
    rw [Nat.zero_mul] at hcut0'
    simp (disch := first | omega | (simp only [fsLen]; omega)) only [↓fsPre, fsPost, fsCond, fsGen, fsDefs, fsDefX, cls, eqVal, reduceCtorEq, Nat.reduceAdd, Nat.reduceMul, Nat.reduceSub, Nat.reduceLT, Nat.reduceLeDiff, Nat.reduceEqDiff, Nat.reduceBEq, Nat.reduceBNe, Int.reduceLT, Int.reduceLE, Int.reduceEq, Int.reduceNe, Int.reduceAdd, Int.reduceSub, Int.reduceNeg, Int.reduceToNat, Int.reduceMul, ↓reduceIte, Int.reduceGT, Int.reduceGE, q3, hbS, hcut0', ocv0]
    have hp : A.parse m d ⟨fl, vl, 0, 0⟩ = A.go m d A.bud.toNat ⟨fl, vl, 0, 0⟩ 0 := by unfold XA.parse; rw [if_neg (by omega)]; rfl
    rw [hp]
    generalize hR0 : A.go m d A.bud.toNat ⟨fl, vl, 0, 0⟩ 0 = R
    have fin : ∀ (G : Heap) (c : Cx) (vR : NV) (r : Int), H.length + 3 ≤ G.length → (∀ b, b < H.length → hget G b = hget H b) →
        (∀ h', (∀ b, b < H.length ∨ H.length + 3 ≤ b → b < G.length → hget h' b = hget G b) → CxAt A h' N0 m d c.fl c.vl c.o c.st (.agg (cxCells (.slice (some (H.length + 5, 0)) A.l.length (.opn 2)) (.slice (some (H.length + 6, 0)) A.hl.length (.opn 1)) vR c.st))) → (c, r) = R →
        (∃ L, hset G (H.length + 2) (.cells [.slice (some (H.length + 5, 0)) A.l.length (.opn 2), .slice (some (H.length + 6, 0)) A.hl.length (.opn 1), vR, .int .i64 c.st, .bool false] false) = H ++ L) ∧
        ∃ w, NV.tup [.agg [.slice (some (H.length + 5, 0)) A.l.length (.opn 2), .slice (some (H.length + 6, 0)) A.hl.length (.opn 1), vR, .int .i64 c.st, .bool false], .int .i64 r] = .tup [w, .int .i64 R.2] ∧
          CxAt A (hset G (H.length + 2) (.cells [.slice (some (H.length + 5, 0)) A.l.length (.opn 2), .slice (some (H.length + 6, 0)) A.hl.length (.opn 1), vR, .int .i64 c.st, .bool false] false)) N0 m d R.1.fl R.1.vl R.1.o R.1.st w := by
      rintro G c vR r h1 h2 h3 rfl
      refine ⟨heap_grow (by rw [length_hset]; omega) fun b hb => by rw [hget_hset_ne (by omega)]; exact h2 b hb, _, rfl, h3 _ fun b k1 k2 => by rw [hget_hset_ne (by omega)]⟩
    refine wloopm (fun k F h => ∃ (c : Cx) (a : Nat) (cv : NV), F 2 = .ptr (some (H.length, 0)) ∧ F 3 = .ptr (some (H.length + 1, 0)) ∧ F 4 = .ptr (some (H.length + 2, 0)) ∧ F 6 = .ptr (some (H.length + 7, 0)) ∧ a < A.sl.length ∧ H.length + 8 ≤ h.length ∧
      (∀ b, b < H.length → hget h b = hget H b) ∧ hget h H.length = some (.cells [z0, z1, .slice (some (bS, 0)) A.sl.length sc, z3, z4, z5, z6, z7, z8, .int .i64 A.bud] false) ∧
      hget h (H.length + 2) = some (.cells (cxCells (.slice none 0 (.fix 0)) (.slice none 0 (.fix 0)) (.slice none 0 (.fix 0)) 0) false) ∧
      hget h (H.length + 7) = some (.cells [.int .i64 (A.sl.getD a 0), .int .i64 (A.sd a).hd, .int .i64 (A.sd a).sel, cv, .int .i64 (A.sd a).dflt] false) ∧ CasesAt H cv (A.sd a).cases ∧
      CxR A h N0 H.length (H.length + 3) (H.length + 1) (H.length + 5) (H.length + 6) (.opn 2) (.opn 1) m d c ∧ (c.st : Int) + k = A.bud ∧ A.go m d k c a = R) A.bud.toNat ?_ ?_
    · refine ⟨⟨fl, vl, 0, 0⟩, 0, cv0, ?_⟩
      simp (disch := first | omega | (simp only [fsLen]; omega)) only [↓fsPre, fsPost, fsCond, fsGen, fsDefs, fsDefX, cls, eqVal, reduceCtorEq, Nat.reduceAdd, Nat.reduceMul, Nat.reduceSub, Nat.reduceLT, Nat.reduceLeDiff, Nat.reduceEqDiff, Nat.reduceBEq, Nat.reduceBNe, Int.reduceLT, Int.reduceLE, Int.reduceEq, Int.reduceNe, Int.reduceAdd, Int.reduceSub, Int.reduceNeg, Int.reduceToNat, Int.reduceMul, ↓reduceIte, Int.reduceGT, Int.reduceGE, cxCells]
      refine ⟨hs0, fun b hb => by simp (disch := first | omega | (simp only [fsLen]; omega)) only [↓fsPre, fsPost, fsCond, fsGen, fsDefs, fsDefX, cls, eqVal, reduceCtorEq, Nat.reduceAdd, Nat.reduceMul, Nat.reduceSub, Nat.reduceLT, Nat.reduceLeDiff, Nat.reduceEqDiff, Nat.reduceBEq, Nat.reduceBNe, Int.reduceLT, Int.reduceLE, Int.reduceEq, Int.reduceNe, Int.reduceAdd, Int.reduceSub, Int.reduceNeg, Int.reduceToNat, Int.reduceMul, ↓reduceIte, Int.reduceGT, Int.reduceGE], by rw [List.getD_eq_getElem?_getD, List.getElem?_eq_getElem hs0]; rfl, hcases0, ⟨hN0, Nat.le_succ _, by omega, by omega, by omega, by omega, by simp (disch := first | omega | (simp only [fsLen]; omega)) only [↓fsPre, fsPost, fsCond, fsGen, fsDefs, fsDefX, cls, eqVal, reduceCtorEq, Nat.reduceAdd, Nat.reduceMul, Nat.reduceSub, Nat.reduceLT, Nat.reduceLeDiff, Nat.reduceEqDiff, Nat.reduceBEq, Nat.reduceBNe, Int.reduceLT, Int.reduceLE, Int.reduceEq, Int.reduceNe, Int.reduceAdd, Int.reduceSub, Int.reduceNeg, Int.reduceToNat, Int.reduceMul, ↓reduceIte, Int.reduceGT, Int.reduceGE], by simp (disch := first | omega | (simp only [fsLen]; omega)) only [↓fsPre, fsPost, fsCond, fsGen, fsDefs, fsDefX, cls, eqVal, reduceCtorEq, Nat.reduceAdd, Nat.reduceMul, Nat.reduceSub, Nat.reduceLT, Nat.reduceLeDiff, Nat.reduceEqDiff, Nat.reduceBEq, Nat.reduceBNe, Int.reduceLT, Int.reduceLE, Int.reduceEq, Int.reduceNe, Int.reduceAdd, Int.reduceSub, Int.reduceNeg, Int.reduceToNat, Int.reduceMul, ↓reduceIte, Int.reduceGT, Int.reduceGE], lF, lV, vR, by simp (disch := first | omega | (simp only [fsLen]; omega)) only [↓fsPre, fsPost, fsCond, fsGen, fsDefs, fsDefX, cls, eqVal, reduceCtorEq, Nat.reduceAdd, Nat.reduceMul, Nat.reduceSub, Nat.reduceLT, Nat.reduceLeDiff, Nat.reduceEqDiff, Nat.reduceBEq, Nat.reduceBNe, Int.reduceLT, Int.reduceLE, Int.reduceEq, Int.reduceNe, Int.reduceAdd, Int.reduceSub, Int.reduceNeg, Int.reduceToNat, Int.reduceMul, ↓reduceIte, Int.reduceGT, Int.reduceGE, cxCells], hR.keep (Nat.le_refl _) ?_, hRl⟩, by have := ok.bud; omega, hR0⟩
      rintro b ⟨o, n, c, e⟩
      have := hRl _ _ _ _ e
      simp (disch := first | omega | (simp only [fsLen]; omega)) only [↓fsPre, fsPost, fsCond, fsGen, fsDefs, fsDefX, cls, eqVal, reduceCtorEq, Nat.reduceAdd, Nat.reduceMul, Nat.reduceSub, Nat.reduceLT, Nat.reduceLeDiff, Nat.reduceEqDiff, Nat.reduceBEq, Nat.reduceBNe, Int.reduceLT, Int.reduceLE, Int.reduceEq, Int.reduceNe, Int.reduceAdd, Int.reduceSub, Int.reduceNeg, Int.reduceToNat, Int.reduceMul, ↓reduceIte, Int.reduceGT, Int.reduceGE]
    · rintro k F h ⟨c, a, cv, f2, f3, f4, f6, ha, hlen, hold, b0, b2, b7, hcases, hP, hst, hgo⟩
      obtain ⟨vR', e1, ov, hat⟩ := hP.at
      have e1' := e1
      unfold cxCells at e1 b2
      have hbud := ok.bud
      have hbS' := (hold _ lS).trans hbS
      have ocv := hcases.one
      cases k with
      | zero =>
        simp (disch := first | omega | (simp only [fsLen]; omega)) only [↓fsPre, fsPost, fsCond, fsGen, fsDefs, fsDefX, cls, eqVal, reduceCtorEq, Nat.reduceAdd, Nat.reduceMul, Nat.reduceSub, Nat.reduceLT, Nat.reduceLeDiff, Nat.reduceEqDiff, Nat.reduceBEq, Nat.reduceBNe, Int.reduceLT, Int.reduceLE, Int.reduceEq, Int.reduceNe, Int.reduceAdd, Int.reduceSub, Int.reduceNeg, Int.reduceToNat, Int.reduceMul, ↓reduceIte, Int.reduceGT, Int.reduceGE, f2, f3, f4, f6, b0, b2, b7, e1, ov]
        exact fin h c vR' 4 (by omega) hold hat hgo
      | succ k =>
        have lp := hget_some_lt e1
        have htk : ((c.st : Int) + 1) = (c.tick.st : Int) := by show _ = ((c.st + 1 : Nat) : Int); omega
        have hPt := hP.tick e1'
        unfold cxCells at hPt
        unfold XA.go at hgo
        simp (disch := first | omega | (simp only [fsLen]; omega)) only [↓fsPre, fsPost, fsCond, fsGen, fsDefs, fsDefX, cls, eqVal, reduceCtorEq, Nat.reduceAdd, Nat.reduceMul, Nat.reduceSub, Nat.reduceLT, Nat.reduceLeDiff, Nat.reduceEqDiff, Nat.reduceBEq, Nat.reduceBNe, Int.reduceLT, Int.reduceLE, Int.reduceEq, Int.reduceNe, Int.reduceAdd, Int.reduceSub, Int.reduceNeg, Int.reduceToNat, Int.reduceMul, ↓reduceIte, Int.reduceGT, Int.reduceGE, f2, f3, f4, f6, b0, b2, b7, e1, ov, htk]
        by_cases hd0 : (A.sd a).hd = 0
        · have hfit : A.fits m c.tick (A.sd a).hd := .inl hd0
          rw [if_pos hfit, show A.ext d c.tick (A.sd a).hd = c.tick from if_pos hd0] at hgo
          have hdd : decide (¬ (A.sd a).hd = 0) = false := decide_eq_false (fun e => e hd0)
          obtain ⟨vR2, q1, q2, q3⟩ := hPt.at
          have e3 : vR2 = vR' := by
            have := q1.symm.trans (by simp (disch := first | omega | (simp only [fsLen]; omega)) only [↓fsPre, fsPost, fsCond, fsGen, fsDefs, fsDefX, cls, eqVal, reduceCtorEq, Nat.reduceAdd, Nat.reduceMul, Nat.reduceSub, Nat.reduceLT, Nat.reduceLeDiff, Nat.reduceEqDiff, Nat.reduceBEq, Nat.reduceBNe, Int.reduceLT, Int.reduceLE, Int.reduceEq, Int.reduceNe, Int.reduceAdd, Int.reduceSub, Int.reduceNeg, Int.reduceToNat, Int.reduceMul, ↓reduceIte, Int.reduceGT, Int.reduceGE, cxCells] <;> rfl)
            simpa [cxCells] using this
          subst e3
          simp (disch := first | omega | (simp only [fsLen]; omega)) only [↓fsPre, fsPost, fsCond, fsGen, fsDefs, fsDefX, cls, eqVal, reduceCtorEq, Nat.reduceAdd, Nat.reduceMul, Nat.reduceSub, Nat.reduceLT, Nat.reduceLeDiff, Nat.reduceEqDiff, Nat.reduceBEq, Nat.reduceBNe, Int.reduceLT, Int.reduceLE, Int.reduceEq, Int.reduceNe, Int.reduceAdd, Int.reduceSub, Int.reduceNeg, Int.reduceToNat, Int.reduceMul, ↓reduceIte, Int.reduceGT, Int.reduceGE, f2, f3, f4, f6, b0, b2, b7, e1, ov, hbS', ocv, nbool_undef, guardK_none, hdd]
          refine callT_one (rnextD (y.mono fun b hb => by rw [hget_hset_ne (by omega)]; exact hold b hb) hPt _ _ _ (A.sd a) ov (hcases.mono fun b hb => by rw [hget_hset_ne (by omega)]; exact hold b hb) (ok.sel a ha) (ok.cl a ha)) rfl ?_
          dsimp only at hgo
          have hnm := XA.next_mem ok ha c.tick.fl
          generalize hid : A.next c.tick.fl (A.sd a) = id at *
          simp (disch := first | omega | (simp only [fsLen]; omega)) only [↓fsPre, fsPost, fsCond, fsGen, fsDefs, fsDefX, cls, eqVal, reduceCtorEq, Nat.reduceAdd, Nat.reduceMul, Nat.reduceSub, Nat.reduceLT, Nat.reduceLeDiff, Nat.reduceEqDiff, Nat.reduceBEq, Nat.reduceBNe, Int.reduceLT, Int.reduceLE, Int.reduceEq, Int.reduceNe, Int.reduceAdd, Int.reduceSub, Int.reduceNeg, Int.reduceToNat, Int.reduceMul, ↓reduceIte, Int.reduceGT, Int.reduceGE, f2, f3, f4, f6, b0, b2, b7, e1, ov, hbS', ocv, nbool_undef, guardK_none, hdd]
          refine condK_dec (fun hz => ?_) (fun hz => ?_)
          · simp (disch := first | omega | (simp only [fsLen]; omega)) only [↓fsPre, fsPost, fsCond, fsGen, fsDefs, fsDefX, cls, eqVal, reduceCtorEq, Nat.reduceAdd, Nat.reduceMul, Nat.reduceSub, Nat.reduceLT, Nat.reduceLeDiff, Nat.reduceEqDiff, Nat.reduceBEq, Nat.reduceBNe, Int.reduceLT, Int.reduceLE, Int.reduceEq, Int.reduceNe, Int.reduceAdd, Int.reduceSub, Int.reduceNeg, Int.reduceToNat, Int.reduceMul, ↓reduceIte, Int.reduceGT, Int.reduceGE, f2, f3, f4, f6, b0, b2, b7, e1, ov, hbS', ocv, nbool_undef, guardK_none, hdd]
            rw [if_pos hz] at hgo
            exact fin _ c.tick vR2 0 (by rw [length_hset]; omega) (fun b hb => by rw [hget_hset_ne (by omega)]; exact hold b hb) q3 hgo
          · simp (disch := first | omega | (simp only [fsLen]; omega)) only [↓fsPre, fsPost, fsCond, fsGen, fsDefs, fsDefX, cls, eqVal, reduceCtorEq, Nat.reduceAdd, Nat.reduceMul, Nat.reduceSub, Nat.reduceLT, Nat.reduceLeDiff, Nat.reduceEqDiff, Nat.reduceBEq, Nat.reduceBNe, Int.reduceLT, Int.reduceLE, Int.reduceEq, Int.reduceNe, Int.reduceAdd, Int.reduceSub, Int.reduceNeg, Int.reduceToNat, Int.reduceMul, ↓reduceIte, Int.reduceGT, Int.reduceGE, f2, f3, f4, f6, b0, b2, b7, e1, ov, hbS', ocv, nbool_undef, guardK_none, hdd]
            rw [if_neg hz] at hgo
            refine condK_dec (fun hw2 => ?_) (fun hw2 => ?_)
            · simp (disch := first | omega | (simp only [fsLen]; omega)) only [↓fsPre, fsPost, fsCond, fsGen, fsDefs, fsDefX, cls, eqVal, reduceCtorEq, Nat.reduceAdd, Nat.reduceMul, Nat.reduceSub, Nat.reduceLT, Nat.reduceLeDiff, Nat.reduceEqDiff, Nat.reduceBEq, Nat.reduceBNe, Int.reduceLT, Int.reduceLE, Int.reduceEq, Int.reduceNe, Int.reduceAdd, Int.reduceSub, Int.reduceNeg, Int.reduceToNat, Int.reduceMul, ↓reduceIte, Int.reduceGT, Int.reduceGE, f2, f3, f4, f6, b0, b2, b7, e1, ov, hbS', ocv, nbool_undef, guardK_none, hdd]
              rw [if_pos hw2] at hgo
              exact fin _ c.tick vR2 3 (by rw [length_hset]; omega) (fun b hb => by rw [hget_hset_ne (by omega)]; exact hold b hb) q3 hgo
            · rw [if_neg hw2] at hgo
              have hmem2 := (hnm.resolve_left hz).resolve_left hw2
              have hix2 := ixI_mem hmem2
              have hlt2 := List.idxOf_lt_length_of_mem hmem2
              obtain ⟨cv2, hcut2, hcases2⟩ := hrS _ hlt2
              have ocv2 := hcases2.one
              have hgd2 : A.sl.getD (A.sl.idxOf id) 0 = A.sl[A.sl.idxOf id] := by rw [List.getD_eq_getElem?_getD, List.getElem?_eq_getElem hlt2]; rfl
              simp (disch := first | omega | (simp only [fsLen]; omega)) only [↓fsPre, fsPost, fsCond, fsGen, fsDefs, fsDefX, cls, eqVal, reduceCtorEq, Nat.reduceAdd, Nat.reduceMul, Nat.reduceSub, Nat.reduceLT, Nat.reduceLeDiff, Nat.reduceEqDiff, Nat.reduceBEq, Nat.reduceBNe, Int.reduceLT, Int.reduceLE, Int.reduceEq, Int.reduceNe, Int.reduceAdd, Int.reduceSub, Int.reduceNeg, Int.reduceToNat, Int.reduceMul, ↓reduceIte, Int.reduceGT, Int.reduceGE, f2, f3, f4, f6, b0, b2, b7, e1, ov, hbS', ocv, nbool_undef, guardK_none, hdd]
              refine callDT_one (ystate_ok (y.mono (fun b hb => by rw [hget_hset_ne (by omega)]; exact hold b hb)) id) rfl ?_
              simp (disch := first | omega | (simp only [fsLen]; omega)) only [↓fsPre, fsPost, fsCond, fsGen, fsDefs, fsDefX, cls, eqVal, reduceCtorEq, Nat.reduceAdd, Nat.reduceMul, Nat.reduceSub, Nat.reduceLT, Nat.reduceLeDiff, Nat.reduceEqDiff, Nat.reduceBEq, Nat.reduceBNe, Int.reduceLT, Int.reduceLE, Int.reduceEq, Int.reduceNe, Int.reduceAdd, Int.reduceSub, Int.reduceNeg, Int.reduceToNat, Int.reduceMul, ↓reduceIte, Int.reduceGT, Int.reduceGE, f2, f3, f4, f6, b0, b2, b7, e1, ov, hbS', ocv, nbool_undef, guardK_none, hdd, hix2, hcut2, ocv2]
              have hst2 : c.tick.st = c.st + 1 := rfl
              exact ⟨k, by omega, c.tick, A.sl.idxOf id, cv2, hlt2, by omega, (fun b hb => by rw [hget_hset_ne (by omega), hget_hset_ne (by omega)]; exact hold b hb), rfl, by rw [hgd2], hcases2, hPt.keep (fun b hb h3 => hget_hset_ne (by omega)), by omega, hgo⟩
        · have hmem := (ok.hd a ha).resolve_left hd0
          have hix := ixI_mem hmem
          have hlt := List.idxOf_lt_length_of_mem hmem
          simp (disch := first | omega | (simp only [fsLen]; omega)) only [↓fsPre, fsPost, fsCond, fsGen, fsDefs, fsDefX, cls, eqVal, reduceCtorEq, Nat.reduceAdd, Nat.reduceMul, Nat.reduceSub, Nat.reduceLT, Nat.reduceLeDiff, Nat.reduceEqDiff, Nat.reduceBEq, Nat.reduceBNe, Int.reduceLT, Int.reduceLE, Int.reduceEq, Int.reduceNe, Int.reduceAdd, Int.reduceSub, Int.reduceNeg, Int.reduceToNat, Int.reduceMul, ↓reduceIte, Int.reduceGT, Int.reduceGE, f2, f3, f4, f6, b0, b2, b7, e1, ov, hbS', ocv, nbool_undef, guardK_none, decide_eq_true hd0]
          refine callDT_one (yhdr_ok (y.mono fun b hb => by rw [hget_hset_ne (by omega)]; exact hold b hb) _) rfl ?_
          simp (disch := first | omega | (simp only [fsLen]; omega)) only [↓fsPre, fsPost, fsCond, fsGen, fsDefs, fsDefX, cls, eqVal, reduceCtorEq, Nat.reduceAdd, Nat.reduceMul, Nat.reduceSub, Nat.reduceLT, Nat.reduceLeDiff, Nat.reduceEqDiff, Nat.reduceBEq, Nat.reduceBNe, Int.reduceLT, Int.reduceLE, Int.reduceEq, Int.reduceNe, Int.reduceAdd, Int.reduceSub, Int.reduceNeg, Int.reduceToNat, Int.reduceMul, ↓reduceIte, Int.reduceGT, Int.reduceGE, f2, f3, f4, f6, b0, b2, b7, e1, ov, hbS', ocv, nbool_undef, guardK_none, decide_eq_true hd0, hix]
          by_cases hsz : A.sum (A.hf (A.hl.idxOf (A.sd a).hd)) / 8 ≤ m - c.tick.o
          · have hfit : A.fits m c.tick (A.sd a).hd := .inr hsz
            rw [if_pos hfit, show A.ext d c.tick (A.sd a).hd = A.hdr d c.tick (A.hl.idxOf (A.sd a).hd) from if_neg hd0] at hgo
            refine callDT_D (rheader_D y _ (fun b hb => by rw [hget_hset_ne (by omega)]; exact hold b hb) hPt (Nat.le_refl _) _ hlt hm hsz (hw _ hlt)) rfl ?_
            rintro v g ⟨e, hgl, hgo2, hP2⟩
            simp only at e hgl hgo2 hP2
            subst e
            rw [length_hset] at hgl
            have m0 : hget g H.length = some (.cells [z0, z1, .slice (some (bS, 0)) A.sl.length sc, z3, z4, z5, z6, z7, z8, .int .i64 A.bud] false) := by
              rw [hgo2 _ (by omega) (by omega) (by omega), hget_hset_ne (by omega)]; exact b0
            have m2 : hget g (H.length + 2) = some (.cells [.slice none 0 (.fix 0), .slice none 0 (.fix 0), .slice none 0 (.fix 0), .int .i64 0, .bool false] false) := by
              rw [hgo2 _ (by omega) (by omega) (by omega), hget_hset_ne (by omega)]; exact b2
            have m7 : hget g (H.length + 7) = some (.cells [.int .i64 (A.sl.getD a 0), .int .i64 (A.sd a).hd, .int .i64 (A.sd a).sel, cv, .int .i64 (A.sd a).dflt] false) := by
              rw [hgo2 _ (by omega) (by omega) (by omega), hget_hset_ne (by omega)]; exact b7
            have mold : ∀ b, b < H.length → hget g b = hget H b := fun b hb => by
              rw [hgo2 _ (by omega) (by omega) (by omega), hget_hset_ne (by omega)]; exact hold b hb
            have hst2 : (A.hdr d c.tick (A.hl.idxOf (A.sd a).hd)).st = c.st + 1 := rfl
            have mS := (mold _ lS).trans hbS
            dsimp only at hgo
            generalize A.hdr d c.tick (A.hl.idxOf (A.sd a).hd) = C at *
            obtain ⟨vR2, q1, q2, q3⟩ := hP2.at
            unfold cxCells at q1
            have hle2 : h.length ≤ g.length := by omega
            simp (disch := first | omega | (simp only [fsLen]; omega)) only [↓fsPre, fsPost, fsCond, fsGen, fsDefs, fsDefX, cls, eqVal, reduceCtorEq, Nat.reduceAdd, Nat.reduceMul, Nat.reduceSub, Nat.reduceLT, Nat.reduceLeDiff, Nat.reduceEqDiff, Nat.reduceBEq, Nat.reduceBNe, Int.reduceLT, Int.reduceLE, Int.reduceEq, Int.reduceNe, Int.reduceAdd, Int.reduceSub, Int.reduceNeg, Int.reduceToNat, Int.reduceMul, ↓reduceIte, Int.reduceGT, Int.reduceGE, f2, f3, f4, f6, m0, m2, m7, mS, q1, q2, ocv, decide_eq_true hd0, hle2, nbool_undef, guardK_none, b0]
            refine callT_one (rnextD (y.mono fun b hb => by exact mold b hb) hP2 _ _ _ (A.sd a) q2 (hcases.mono fun b hb => by exact mold b hb) (ok.sel a ha) (ok.cl a ha)) rfl ?_
            have hnm := XA.next_mem ok ha C.fl
            generalize hid : A.next C.fl (A.sd a) = id at *
            simp (disch := first | omega | (simp only [fsLen]; omega)) only [↓fsPre, fsPost, fsCond, fsGen, fsDefs, fsDefX, cls, eqVal, reduceCtorEq, Nat.reduceAdd, Nat.reduceMul, Nat.reduceSub, Nat.reduceLT, Nat.reduceLeDiff, Nat.reduceEqDiff, Nat.reduceBEq, Nat.reduceBNe, Int.reduceLT, Int.reduceLE, Int.reduceEq, Int.reduceNe, Int.reduceAdd, Int.reduceSub, Int.reduceNeg, Int.reduceToNat, Int.reduceMul, ↓reduceIte, Int.reduceGT, Int.reduceGE, f2, f3, f4, f6, m0, m2, m7, mS, q1, q2, ocv, decide_eq_true hd0, nbool_undef, guardK_none]
            refine condK_dec (fun hz => ?_) (fun hz => ?_)
            · simp (disch := first | omega | (simp only [fsLen]; omega)) only [↓fsPre, fsPost, fsCond, fsGen, fsDefs, fsDefX, cls, eqVal, reduceCtorEq, Nat.reduceAdd, Nat.reduceMul, Nat.reduceSub, Nat.reduceLT, Nat.reduceLeDiff, Nat.reduceEqDiff, Nat.reduceBEq, Nat.reduceBNe, Int.reduceLT, Int.reduceLE, Int.reduceEq, Int.reduceNe, Int.reduceAdd, Int.reduceSub, Int.reduceNeg, Int.reduceToNat, Int.reduceMul, ↓reduceIte, Int.reduceGT, Int.reduceGE, f2, f3, f4, f6, m0, m2, m7, mS, q1, q2, ocv, decide_eq_true hd0, nbool_undef, guardK_none]
              rw [if_pos hz] at hgo
              exact fin _ C vR2 0 (by omega) (fun b hb => by exact mold b hb) q3 hgo
            · simp (disch := first | omega | (simp only [fsLen]; omega)) only [↓fsPre, fsPost, fsCond, fsGen, fsDefs, fsDefX, cls, eqVal, reduceCtorEq, Nat.reduceAdd, Nat.reduceMul, Nat.reduceSub, Nat.reduceLT, Nat.reduceLeDiff, Nat.reduceEqDiff, Nat.reduceBEq, Nat.reduceBNe, Int.reduceLT, Int.reduceLE, Int.reduceEq, Int.reduceNe, Int.reduceAdd, Int.reduceSub, Int.reduceNeg, Int.reduceToNat, Int.reduceMul, ↓reduceIte, Int.reduceGT, Int.reduceGE, f2, f3, f4, f6, m0, m2, m7, mS, q1, q2, ocv, decide_eq_true hd0, nbool_undef, guardK_none]
              rw [if_neg hz] at hgo
              refine condK_dec (fun hw2 => ?_) (fun hw2 => ?_)
              · simp (disch := first | omega | (simp only [fsLen]; omega)) only [↓fsPre, fsPost, fsCond, fsGen, fsDefs, fsDefX, cls, eqVal, reduceCtorEq, Nat.reduceAdd, Nat.reduceMul, Nat.reduceSub, Nat.reduceLT, Nat.reduceLeDiff, Nat.reduceEqDiff, Nat.reduceBEq, Nat.reduceBNe, Int.reduceLT, Int.reduceLE, Int.reduceEq, Int.reduceNe, Int.reduceAdd, Int.reduceSub, Int.reduceNeg, Int.reduceToNat, Int.reduceMul, ↓reduceIte, Int.reduceGT, Int.reduceGE, f2, f3, f4, f6, m0, m2, m7, mS, q1, q2, ocv, decide_eq_true hd0, nbool_undef, guardK_none]
                rw [if_pos hw2] at hgo
                exact fin _ C vR2 3 (by omega) (fun b hb => by exact mold b hb) q3 hgo
              · rw [if_neg hw2] at hgo
                have hmem2 := (hnm.resolve_left hz).resolve_left hw2
                have hix2 := ixI_mem hmem2
                have hlt2 := List.idxOf_lt_length_of_mem hmem2
                obtain ⟨cv2, hcut2, hcases2⟩ := hrS _ hlt2
                have ocv2 := hcases2.one
                have hgd2 : A.sl.getD (A.sl.idxOf id) 0 = A.sl[A.sl.idxOf id] := by rw [List.getD_eq_getElem?_getD, List.getElem?_eq_getElem hlt2]; rfl
                simp (disch := first | omega | (simp only [fsLen]; omega)) only [↓fsPre, fsPost, fsCond, fsGen, fsDefs, fsDefX, cls, eqVal, reduceCtorEq, Nat.reduceAdd, Nat.reduceMul, Nat.reduceSub, Nat.reduceLT, Nat.reduceLeDiff, Nat.reduceEqDiff, Nat.reduceBEq, Nat.reduceBNe, Int.reduceLT, Int.reduceLE, Int.reduceEq, Int.reduceNe, Int.reduceAdd, Int.reduceSub, Int.reduceNeg, Int.reduceToNat, Int.reduceMul, ↓reduceIte, Int.reduceGT, Int.reduceGE, f2, f3, f4, f6, m0, m2, m7, mS, q1, q2, ocv, decide_eq_true hd0, nbool_undef, guardK_none]
                refine callDT_one (ystate_ok (y.mono (fun b hb => by exact mold b hb)) id) rfl ?_
                simp (disch := first | omega | (simp only [fsLen]; omega)) only [↓fsPre, fsPost, fsCond, fsGen, fsDefs, fsDefX, cls, eqVal, reduceCtorEq, Nat.reduceAdd, Nat.reduceMul, Nat.reduceSub, Nat.reduceLT, Nat.reduceLeDiff, Nat.reduceEqDiff, Nat.reduceBEq, Nat.reduceBNe, Int.reduceLT, Int.reduceLE, Int.reduceEq, Int.reduceNe, Int.reduceAdd, Int.reduceSub, Int.reduceNeg, Int.reduceToNat, Int.reduceMul, ↓reduceIte, Int.reduceGT, Int.reduceGE, f2, f3, f4, f6, m0, m2, m7, mS, q1, q2, ocv, decide_eq_true hd0, nbool_undef, guardK_none, hix2, hcut2, ocv2]
                have hst2 : C.st = c.st + 1 := hst2
                exact ⟨k, by omega, C, A.sl.idxOf id, cv2, hlt2, by omega, (fun b hb => by rw [hget_hset_ne (by omega)]; exact mold b hb), rfl, by rw [hgd2], hcases2, hP2.keep (fun b hb h3 => hget_hset_ne (by have := hP2.gp; omega)), by omega, hgo⟩
          · have hfit : ¬ A.fits m c.tick (A.sd a).hd := fun h => h.elim hd0 hsz
            rw [if_neg hfit] at hgo
            refine callDT_one (rheader_N y _ (fun b hb => by rw [hget_hset_ne (by omega)]; exact hold b hb) hPt (by omega) _ hlt hm hsz) rfl ?_
            simp (disch := first | omega | (simp only [fsLen]; omega)) only [↓fsPre, fsPost, fsCond, fsGen, fsDefs, fsDefX, cls, eqVal, reduceCtorEq, Nat.reduceAdd, Nat.reduceMul, Nat.reduceSub, Nat.reduceLT, Nat.reduceLeDiff, Nat.reduceEqDiff, Nat.reduceBEq, Nat.reduceBNe, Int.reduceLT, Int.reduceLE, Int.reduceEq, Int.reduceNe, Int.reduceAdd, Int.reduceSub, Int.reduceNeg, Int.reduceToNat, Int.reduceMul, ↓reduceIte, Int.reduceGT, Int.reduceGE, f2, f3, f4, f6, b0, b2, b7, e1, ov, hbS', ocv, nbool_undef, guardK_none, decide_eq_true hd0, hix]
            obtain ⟨vR2, q1, q2, q3⟩ := hPt.at
            have e3 : vR2 = vR' := by
              have := q1.symm.trans (by simp (disch := first | omega | (simp only [fsLen]; omega)) only [↓fsPre, fsPost, fsCond, fsGen, fsDefs, fsDefX, cls, eqVal, reduceCtorEq, Nat.reduceAdd, Nat.reduceMul, Nat.reduceSub, Nat.reduceLT, Nat.reduceLeDiff, Nat.reduceEqDiff, Nat.reduceBEq, Nat.reduceBNe, Int.reduceLT, Int.reduceLE, Int.reduceEq, Int.reduceNe, Int.reduceAdd, Int.reduceSub, Int.reduceNeg, Int.reduceToNat, Int.reduceMul, ↓reduceIte, Int.reduceGT, Int.reduceGE, cxCells] <;> rfl)
              simpa [cxCells] using this
            subst e3
            exact fin _ c.tick vR2 2 (by rw [length_hset]; omega) (fun b hb => by rw [hget_hset_ne (by omega)]; exact hold b hb) q3 hgo

theorem ofv_cells {k : Int} (h : 0 ≤ k ∧ k < 18446744073709551616) : ([nb (hiOf (ofV k)), nb (loOf (ofV k))] : List NV) = [.int .u64 0, .int .u64 k] := by
  have h1 := ofV_nv h
  simp only [vnv, NV.agg.injEq] at h1
  rw [← h1, nb_of k h]
  rfl
theorem port_i (x : Int) : IntKind.u64.wrap (IntKind.i64.wrap ((BitVec.ofInt IntKind.i64.bits x &&& BitVec.ofInt IntKind.i64.bits 65535).toNat : Int)) = x % 65536 := by
  have h1 : (BitVec.ofInt IntKind.i64.bits 65535).toNat = 2 ^ 16 - 1 := by decide
  rw [BitVec.toNat_and, h1, Nat.and_two_pow_sub_one_eq_mod, BitVec.toNat_ofInt]
  simp only [IntKind.wrap, IntKind.bits, IntKind.signed]
  simp
  omega

theorem app_bytes {h : Heap} {b N m : Nat} {d : Nat → BitVec 8} {v : NV} {K : NV → Heap → Prop} {t : Tg K} (hb : hget h b = some (.cells [] false)) (hN : N ≤ b) (hv : BytesAt h v m d) (hm : m ≤ 1000)
    (k : ∀ w L, RestAt (h ++ L) N w m d 0 → (∀ b' o n c, w = .slice (some (b', o)) n c → b' < (h ++ L).length ∧ (b' = b ∨ h.length ≤ b')) → K w (h ++ L)) : optB (nappendS h 1 1 (.slice (some (b, 0)) 0 (.fix 0)) v) K t := by
  have lb := hget_some_lt hb
  have zero : m = 0 → sliceCells h 1 v = some [] → lenOfSl v = some 0 → optB (nappendS h 1 1 (.slice (some (b, 0)) 0 (.fix 0)) v) K t := by
    intro h0 hx hl
    refine app_fix0 hx hl (Nat.le_refl _) ?_
    have := k (.slice (some (b, 0)) 0 (.fix 0)) [] (.inl ⟨h0, rfl, _, rfl, fun b' o e => by cases e; exact hN⟩) (fun b' o n c e => by cases e; exact ⟨by rw [List.append_nil]; exact lb, .inl rfl⟩)
    rwa [List.append_nil] at this
  rcases hv with ⟨rfl, rfl⟩ | ⟨b', o, c, cs, ro, rfl, hb', hc⟩
  · exact zero rfl rfl rfl
  · by_cases h0 : m = 0
    · subst h0
      exact zero rfl (by simp [sliceCells]) rfl
    · refine app_fix (n := m) (sliceCells_at hb' (by rw [Nat.mul_one]; exact hc)) rfl (by omega) (by omega) (old := []) (by simp [sliceCells]) ?_
      rw [Nat.zero_add, List.nil_append]
      exact k _ _ (.inr ⟨h.length, by omega, rfl, by omega, hget_append_new⟩) (fun b' o n c e => by cases e; exact ⟨by simp, .inr (Nat.le_refl _)⟩)

set_option maxHeartbeats 2000000 in
theorem rstart_ok {A : XA} {H : Heap} {z0 z1 z2 z3 z4 z5 z6 z7 z8 z9 : NV} (y : YAt A H z0 z1 z2 z3 z4 z5 z6 z7 z8 z9) (port : Int) (m : Nat) (d : Nat → BitVec 8) (v : NV) (hb : BytesAt H v m d) (hm : m ≤ 1000) (h1 : 1 ∈ A.l) :
    DCall Try.prog 11 [.agg [z0, z1, z2, z3, z4, z5, z6, z7, z8, z9], .int .i64 port, v] H fun r => (∃ L, r.2 = H ++ L) ∧ CxAt A r.2 H.length m d (A.start port) (List.replicate A.hl.length false) 0 0 r.1 ∧ RestLow r.2.length r.1 := by
  obtain ⟨o0, o1, o2, o3, o4, o5, o6, o7, o8, o9⟩ := y.x.ones
  have ok := y.x.ok
  have nl := ok.nl
  have nh := ok.nh
  have hix := ixI_mem h1
  have hlt := List.idxOf_lt_length_of_mem h1
  have ov := hb.one
  obtain ⟨b0, c0, cs0, ro0, rfl, _⟩ := id y.x.f
  obtain ⟨b1, c1, cs1, ro1, rfl, _⟩ := id y.x.g
  refine call_det E0 rfl mixed t11_ok (by kernel_rfl) (by rintro q ⟨⟨L, h⟩, _⟩; rw [h]; simp) ?_
  simp only [t11]
  simp (disch := first | omega | (simp only [fsLen]; omega)) only [↓fsPre, fsPost, fsCond, fsGen, fsDefs, fsDefX, cls, eqVal, reduceCtorEq, Nat.reduceAdd, Nat.reduceMul, Nat.reduceSub, Nat.reduceLT, Nat.reduceLeDiff, Nat.reduceEqDiff, Nat.reduceBEq, Nat.reduceBNe, Int.reduceLT, Int.reduceLE, Int.reduceEq, Int.reduceNe, Int.reduceAdd, Int.reduceSub, Int.reduceNeg, Int.reduceToNat, Int.reduceMul, ↓reduceIte, Int.reduceGT, Int.reduceGE, ov, o2, o3, o4, o5, o6, o7, o8, o9, vals_zero, bools_false]
  refine ⟨by omega, by omega, ?_⟩
  refine app_bytes (N := H.length) (by simp (disch := first | omega | (simp only [fsLen]; omega)) only [↓fsPre, fsPost, fsCond, fsGen, fsDefs, fsDefX, cls, eqVal, reduceCtorEq, Nat.reduceAdd, Nat.reduceMul, Nat.reduceSub, Nat.reduceLT, Nat.reduceLeDiff, Nat.reduceEqDiff, Nat.reduceBEq, Nat.reduceBNe, Int.reduceLT, Int.reduceLE, Int.reduceEq, Int.reduceNe, Int.reduceAdd, Int.reduceSub, Int.reduceNeg, Int.reduceToNat, Int.reduceMul, ↓reduceIte, Int.reduceGT, Int.reduceGE]) (by omega) (hb.mono fun b hb => by simp (disch := first | omega | (simp only [fsLen]; omega)) only [↓fsPre, fsPost, fsCond, fsGen, fsDefs, fsDefX, cls, eqVal, reduceCtorEq, Nat.reduceAdd, Nat.reduceMul, Nat.reduceSub, Nat.reduceLT, Nat.reduceLeDiff, Nat.reduceEqDiff, Nat.reduceBEq, Nat.reduceBNe, Int.reduceLT, Int.reduceLE, Int.reduceEq, Int.reduceNe, Int.reduceAdd, Int.reduceSub, Int.reduceNeg, Int.reduceToNat, Int.reduceMul, ↓reduceIte, Int.reduceGT, Int.reduceGE]) hm ?_
  rintro w L hr hlow
  have ow := hr.one
  obtain ⟨of, oc⟩ := hr.flat
  simp only [List.length_append, List.length_cons, List.length_nil] at hlow
  simp (disch := first | omega | (simp only [fsLen]; omega)) only [↓fsPre, fsPost, fsCond, fsGen, fsDefs, fsDefX, cls, eqVal, reduceCtorEq, Nat.reduceAdd, Nat.reduceMul, Nat.reduceSub, Nat.reduceLT, Nat.reduceLeDiff, Nat.reduceEqDiff, Nat.reduceBEq, Nat.reduceBNe, Int.reduceLT, Int.reduceLE, Int.reduceEq, Int.reduceNe, Int.reduceAdd, Int.reduceSub, Int.reduceNeg, Int.reduceToNat, Int.reduceMul, ↓reduceIte, Int.reduceGT, Int.reduceGE, ov, o2, o3, o4, o5, o6, o7, o8, o9, vals_zero, bools_false, ow, of, oc]
  refine callDT_one (yfield_ok (y.mono fun b hb => by simp (disch := first | omega | (simp only [fsLen]; omega)) only [↓fsPre, fsPost, fsCond, fsGen, fsDefs, fsDefX, cls, eqVal, reduceCtorEq, Nat.reduceAdd, Nat.reduceMul, Nat.reduceSub, Nat.reduceLT, Nat.reduceLeDiff, Nat.reduceEqDiff, Nat.reduceBEq, Nat.reduceBNe, Int.reduceLT, Int.reduceLE, Int.reduceEq, Int.reduceNe, Int.reduceAdd, Int.reduceSub, Int.reduceNeg, Int.reduceToNat, Int.reduceMul, ↓reduceIte, Int.reduceGT, Int.reduceGE]) 1) rfl ?_
  have hpc := ofv_cells (k := port % 65536) (by omega)
  have hvs := fun i (hi : i < (List.replicate A.l.length 0#128).length) => vals_set (l := List.replicate A.l.length 0#128) (v := ofV (port % 65536)) hi
  rw [hpc] at hvs
  have hvs := hvs (A.l.idxOf 1) (by rw [List.length_replicate]; exact hlt)
  simp (disch := first | omega | (simp only [fsLen]; omega)) only [↓fsPre, fsPost, fsCond, fsGen, fsDefs, fsDefX, cls, eqVal, reduceCtorEq, Nat.reduceAdd, Nat.reduceMul, Nat.reduceSub, Nat.reduceLT, Nat.reduceLeDiff, Nat.reduceEqDiff, Nat.reduceBEq, Nat.reduceBNe, Int.reduceLT, Int.reduceLE, Int.reduceEq, Int.reduceNe, Int.reduceAdd, Int.reduceSub, Int.reduceNeg, Int.reduceToNat, Int.reduceMul, ↓reduceIte, Int.reduceGT, Int.reduceGE, ov, o2, o3, o4, o5, o6, o7, o8, o9, vals_zero, bools_false, ow, of, oc, hix, port_i, vals_length, List.length_replicate, hvs]
  refine ⟨⟨_, rfl⟩, ⟨H.length + 2, H.length + 3, _, _, w, rfl, by omega, by omega, by omega, by simp (disch := first | omega | (simp only [fsLen]; omega)) only [↓fsPre, fsPost, fsCond, fsGen, fsDefs, fsDefX, cls, eqVal, reduceCtorEq, Nat.reduceAdd, Nat.reduceMul, Nat.reduceSub, Nat.reduceLT, Nat.reduceLeDiff, Nat.reduceEqDiff, Nat.reduceBEq, Nat.reduceBNe, Int.reduceLT, Int.reduceLE, Int.reduceEq, Int.reduceNe, Int.reduceAdd, Int.reduceSub, Int.reduceNeg, Int.reduceToNat, Int.reduceMul, ↓reduceIte, Int.reduceGT, Int.reduceGE]; rfl, by simp (disch := first | omega | (simp only [fsLen]; omega)) only [↓fsPre, fsPost, fsCond, fsGen, fsDefs, fsDefX, cls, eqVal, reduceCtorEq, Nat.reduceAdd, Nat.reduceMul, Nat.reduceSub, Nat.reduceLT, Nat.reduceLeDiff, Nat.reduceEqDiff, Nat.reduceBEq, Nat.reduceBNe, Int.reduceLT, Int.reduceLE, Int.reduceEq, Int.reduceNe, Int.reduceAdd, Int.reduceSub, Int.reduceNeg, Int.reduceToNat, Int.reduceMul, ↓reduceIte, Int.reduceGT, Int.reduceGE], by unfold XA.start; rw [List.length_set, List.length_replicate], by rw [List.length_replicate], hr.keep (Nat.le_refl _) ?_, ?_⟩, ?_⟩
  · rintro b ⟨o, n, c, e⟩
    obtain ⟨h1, h2⟩ := hlow _ _ _ _ e
    rcases h2 with rfl | h2
    · simp (disch := first | omega | (simp only [fsLen]; omega)) only [↓fsPre, fsPost, fsCond, fsGen, fsDefs, fsDefX, cls, eqVal, reduceCtorEq, Nat.reduceAdd, Nat.reduceMul, Nat.reduceSub, Nat.reduceLT, Nat.reduceLeDiff, Nat.reduceEqDiff, Nat.reduceBEq, Nat.reduceBNe, Int.reduceLT, Int.reduceLE, Int.reduceEq, Int.reduceNe, Int.reduceAdd, Int.reduceSub, Int.reduceNeg, Int.reduceToNat, Int.reduceMul, ↓reduceIte, Int.reduceGT, Int.reduceGE]
    · obtain ⟨q, rfl⟩ : ∃ q, b = H.length + (q + 6) := ⟨b - (H.length + 6), by omega⟩
      unfold hget
      rw [List.getElem?_append_right (by omega), List.append_assoc, List.getElem?_append_right (by omega), Nat.add_sub_cancel_left]
      rfl
  · intro b o n c e
    have := hlow _ _ _ _ e
    omega
  · intro vF vV vR st e b o n c e2
    cases e
    have := hlow _ _ _ _ e2
    omega

theorem slice0 {h : Heap} {a : Option (Nat × Nat)} {c : Cap} : sliceCells h 1 (.slice a 0 c) = some [] := by
  rcases a with _ | ⟨b, o⟩ <;> simp [sliceCells]
theorem RestAt.cells {h : Heap} {N : Nat} {v : NV} {m : Nat} {d : Nat → BitVec 8} {o : Nat} (x : RestAt h N v m d o) : sliceCells h 1 v = some (arrC (m - o) fun i => n8 (d (o + i))) := by
  rcases x with ⟨rfl, rfl, a, rfl, _⟩ | ⟨b, _, rfl, h3, h4⟩
  · exact slice0
  · exact sliceCells_at h4 (by rw [Nat.mul_one, arrC_cut (by omega)])
theorem xbytesOf_arr (n : Nat) (bs : Nat → BitVec 8) : ∃ l, bytesOf (arrC n fun i => n8 (bs i)) = some l := by
  have : ∀ (cs : List NV), (∀ x ∈ cs, ∃ b, x = n8 b) → ∃ l, bytesOf cs = some l := by
    intro cs
    induction cs with
    | nil => intro _; exact ⟨_, rfl⟩
    | cons x cs ih =>
      intro h
      obtain ⟨b, rfl⟩ := h x (List.mem_cons_self ..)
      obtain ⟨l, hl⟩ := ih fun y hy => h y (List.mem_cons_of_mem _ hy)
      exact ⟨_, by unfold n8 bytesOf; rw [hl]; rfl⟩
  refine this _ fun x hx => ?_
  simp only [arrC, List.mem_map] at hx
  obtain ⟨i, _, rfl⟩ := hx
  exact ⟨_, rfl⟩

theorem CxAt.keep {A : XA} {h h' : Heap} {N m : Nat} {d : Nat → BitVec 8} {fl : List (BitVec 128)} {vl : List Bool} {o : Nat} {st : Int} {v : NV} (x : CxAt A h N m d fl vl o st v) (e : ∀ b, N ≤ b → b < h.length → hget h' b = hget h b) : CxAt A h' N m d fl vl o st v := by
  obtain ⟨bF, bV, cF, cV, vR, rfl, g1, g2, g3, hF, hV, lF, lV, hR, hs⟩ := x
  refine ⟨bF, bV, cF, cV, vR, rfl, g1, g2, g3, by rw [e _ g1 (hget_lt hF)]; exact hF, by rw [e _ g2 (hget_lt hV)]; exact hV, lF, lV, ?_, hs⟩
  rcases hR with hR | ⟨b, h4, h5, h6, h7⟩
  · exact .inl hR
  · exact .inr ⟨b, h4, h5, h6, by rw [e _ h4 (hget_lt h7)]; exact h7⟩
theorem CxAt.ones {A : XA} {h : Heap} {N m : Nat} {d : Nat → BitVec 8} {fl : List (BitVec 128)} {vl : List Bool} {o : Nat} {st : Int} {v : NV} (x : CxAt A h N m d fl vl o st v) : ∃ a b c, v = .agg [a, b, c, .int .i64 st, .bool false] ∧ a.one = true ∧ b.one = true ∧ c.one = true := by
  obtain ⟨bF, bV, cF, cV, vR, rfl, g1, g2, g3, hF, hV, lF, lV, hR, hs⟩ := x
  exact ⟨_, _, _, rfl, rfl, rfl, hR.one⟩
theorem context_ok (H : Heap) (vF vV vR : NV) (st : Int) (ho : vF.one = true ∧ vV.one = true ∧ vR.one = true) : DCall Try.prog 13 [.agg (cxCells vF vV vR st)] H fun r => r.1 = .agg (cxCells vF vV vR st) ∧ ∃ L, r.2 = H ++ L := by
  obtain ⟨o1, o2, o3⟩ := ho
  refine call_det E0 rfl mixed t13_ok (by kernel_rfl) (by rintro q ⟨_, L, h⟩; rw [h]; simp) ?_
  simp only [t13, cxCells]
  simp (disch := first | omega | (simp only [fsLen]; omega)) only [↓fsPre, fsPost, fsCond, fsGen, fsDefs, fsDefX, cls, eqVal, reduceCtorEq, Nat.reduceAdd, Nat.reduceMul, Nat.reduceSub, Nat.reduceLT, Nat.reduceLeDiff, Nat.reduceEqDiff, Nat.reduceBEq, Nat.reduceBNe, Int.reduceLT, Int.reduceLE, Int.reduceEq, Int.reduceNe, Int.reduceAdd, Int.reduceSub, Int.reduceNeg, Int.reduceToNat, Int.reduceMul, ↓reduceIte, Int.reduceGT, Int.reduceGE, o1, o2, o3, flat_one o1, flat_one o2, flat_one o3, cells_one o1, cells_one o2, cells_one o3]
  exact ⟨_, rfl⟩

set_option maxHeartbeats 2000000 in
theorem same_ok {A : XA} {H : Heap} {N M m : Nat} {d : Nat → BitVec 8} {fl : List (BitVec 128)} {vl : List Bool} {o : Nat} {st : Int} {v w : NV} (hv : CxAt A H N m d fl vl o st v) (hw : CxAt A H M m d fl vl o st w) (hn : A.l.length ≤ 100 ∧ A.hl.length ≤ 100) :
    NCall Try.prog 12 [v, w] H fun r => r = (.bool true, H) := by
  obtain ⟨bF, bV, cF, cV, vR, rfl, _, _, _, hF, hV, lF, lV, hR, _⟩ := hv
  obtain ⟨bF2, bV2, cF2, cV2, vR2, rfl, _, _, _, hF2, hV2, _, _, hR2, _⟩ := hw
  have o1 := hR.one
  have o2 := hR2.one
  have e1 := hR.cells
  have e2 := hR2.cells
  obtain ⟨l, hl⟩ := xbytesOf_arr (m - o) fun i => d (o + i)
  have a1 := fun L => sliceCells_app (L := L) e1
  have a2 := fun L => sliceCells_app (L := L) e2
  have lF' := hget_some_lt hF
  have lV' := hget_some_lt hV
  have lF2 := hget_some_lt hF2
  have lV2 := hget_some_lt hV2
  refine call_pure E0 mixed t12_ok (by kernel_rfl) trivial ?_
  simp only [t12, cxCells]
  simp (disch := first | omega | (simp only [fsLen]; omega)) only [↓fsPre, fsPost, fsCond, fsGen, fsDefs, cls, eqVal, vbGen, fill_bits, reduceCtorEq, Nat.reduceAdd, Nat.reduceMul, Nat.reduceSub, Nat.reduceLT, Nat.reduceLeDiff, Nat.reduceEqDiff, Nat.reduceBEq, Nat.reduceBNe, Int.reduceLT, Int.reduceLE, Int.reduceEq, Int.reduceNe, Int.reduceAdd, Int.reduceSub, Int.reduceNeg, Int.reduceToNat, Int.reduceMul, ↓reduceIte, Int.reduceGT, Int.reduceGE, o1, o2, nread_toStr, a1, a2, hl, nbool_undef, guardK_none]
  obtain ⟨G, hG⟩ : ∃ G, G = H ++ [some (NBlk.cells (cxCells (.slice (some (bF, 0)) A.l.length cF) (.slice (some (bV, 0)) A.hl.length cV) vR st) false), some (.cells (cxCells (.slice (some (bF2, 0)) A.l.length cF2) (.slice (some (bV2, 0)) A.hl.length cV2) vR2 st) false)] := ⟨_, rfl⟩
  refine wloop (fun j F h => F 2 = .ptr (some (H.length, 0)) ∧ F 3 = .ptr (some (H.length + 1, 0)) ∧ F 48 = .int .i64 A.l.length ∧ F 49 = .int .i64 j ∧ h = G) A.l.length ?_ ?_ ?_
  · rw [hG]
    simp (disch := first | omega | (simp only [fsLen]; omega)) only [↓fsPre, fsPost, fsCond, fsGen, fsDefs, fsDefX, cls, eqVal, reduceCtorEq, Nat.reduceAdd, Nat.reduceMul, Nat.reduceSub, Nat.reduceLT, Nat.reduceLeDiff, Nat.reduceEqDiff, Nat.reduceBEq, Nat.reduceBNe, Int.reduceLT, Int.reduceLE, Int.reduceEq, Int.reduceNe, Int.reduceAdd, Int.reduceSub, Int.reduceNeg, Int.reduceToNat, Int.reduceMul, ↓reduceIte, Int.reduceGT, Int.reduceGE, cxCells]
  · rintro j F h hj ⟨f2, f3, f48, f49, hh⟩
    rw [hh, hG]
    have c1 := vals_cut (l := fl) (i := j) (by omega)
    simp (disch := first | omega | (simp only [fsLen]; omega)) only [↓fsPre, fsPost, fsCond, fsGen, fsDefs, cls, eqVal, vbGen, fill_bits, reduceCtorEq, Nat.reduceAdd, Nat.reduceMul, Nat.reduceSub, Nat.reduceLT, Nat.reduceLeDiff, Nat.reduceEqDiff, Nat.reduceBEq, Nat.reduceBNe, Int.reduceLT, Int.reduceLE, Int.reduceEq, Int.reduceNe, Int.reduceAdd, Int.reduceSub, Int.reduceNeg, Int.reduceToNat, Int.reduceMul, ↓reduceIte, Int.reduceGT, Int.reduceGE, f2, f3, f48, f49, cxCells, hF, hF2, c1, nb_one]
  · rintro F h ⟨f2, f3, f48, f49, hh⟩
    rw [hh, hG]
    simp (disch := first | omega | (simp only [fsLen]; omega)) only [↓fsPre, fsPost, fsCond, fsGen, fsDefs, cls, eqVal, vbGen, fill_bits, reduceCtorEq, Nat.reduceAdd, Nat.reduceMul, Nat.reduceSub, Nat.reduceLT, Nat.reduceLeDiff, Nat.reduceEqDiff, Nat.reduceBEq, Nat.reduceBNe, Int.reduceLT, Int.reduceLE, Int.reduceEq, Int.reduceNe, Int.reduceAdd, Int.reduceSub, Int.reduceNeg, Int.reduceToNat, Int.reduceMul, ↓reduceIte, Int.reduceGT, Int.reduceGE, f2, f3, f48, f49, cxCells]
    refine wloop (fun j F h => F 2 = .ptr (some (H.length, 0)) ∧ F 3 = .ptr (some (H.length + 1, 0)) ∧ F 66 = .int .i64 A.hl.length ∧ F 67 = .int .i64 j ∧ h = G) A.hl.length ?_ ?_ ?_
    · rw [hG]
      simp (disch := first | omega | (simp only [fsLen]; omega)) only [↓fsPre, fsPost, fsCond, fsGen, fsDefs, fsDefX, cls, eqVal, reduceCtorEq, Nat.reduceAdd, Nat.reduceMul, Nat.reduceSub, Nat.reduceLT, Nat.reduceLeDiff, Nat.reduceEqDiff, Nat.reduceBEq, Nat.reduceBNe, Int.reduceLT, Int.reduceLE, Int.reduceEq, Int.reduceNe, Int.reduceAdd, Int.reduceSub, Int.reduceNeg, Int.reduceToNat, Int.reduceMul, ↓reduceIte, Int.reduceGT, Int.reduceGE, cxCells, f2, f3]
    · rintro j F h hj ⟨f2, f3, f66, f67, hh⟩
      rw [hh, hG]
      have c1 := bools_get (l := vl) (i := j) (by omega)
      simp (disch := first | omega | (simp only [fsLen]; omega)) only [↓fsPre, fsPost, fsCond, fsGen, fsDefs, cls, eqVal, vbGen, fill_bits, reduceCtorEq, Nat.reduceAdd, Nat.reduceMul, Nat.reduceSub, Nat.reduceLT, Nat.reduceLeDiff, Nat.reduceEqDiff, Nat.reduceBEq, Nat.reduceBNe, Int.reduceLT, Int.reduceLE, Int.reduceEq, Int.reduceNe, Int.reduceAdd, Int.reduceSub, Int.reduceNeg, Int.reduceToNat, Int.reduceMul, ↓reduceIte, Int.reduceGT, Int.reduceGE, f2, f3, f66, f67, cxCells, hV, hV2, c1]
    · rintro F h ⟨f2, f3, f66, f67, hh⟩
      rw [hh, hG]
      simp (disch := first | omega | (simp only [fsLen]; omega)) only [↓fsPre, fsPost, fsCond, fsGen, fsDefs, cls, eqVal, vbGen, fill_bits, reduceCtorEq, Nat.reduceAdd, Nat.reduceMul, Nat.reduceSub, Nat.reduceLT, Nat.reduceLeDiff, Nat.reduceEqDiff, Nat.reduceBEq, Nat.reduceBNe, Int.reduceLT, Int.reduceLE, Int.reduceEq, Int.reduceNe, Int.reduceAdd, Int.reduceSub, Int.reduceNeg, Int.reduceToNat, Int.reduceMul, ↓reduceIte, Int.reduceGT, Int.reduceGE, f2, f3, f66, f67, cxCells]
      exact ⟨_, rfl⟩
end Go.Proofs
