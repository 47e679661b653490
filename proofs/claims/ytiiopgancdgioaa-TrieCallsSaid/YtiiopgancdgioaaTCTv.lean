/- Trie: TrieCalls, the check after an operation. -/
import Derived.Test.YtiiopgancdgioaaVbE
import Derived.Test.YtiiopgancdgioaaTCTu
set_option linter.unusedSimpArgs false
set_option linter.unusedVariables false
set_option maxRecDepth 100000
namespace Go.Proofs
open Go.Ns

/-- Where the check leaves all. -/
structure ClQ (N qx qy bits : Nat) (tx : TT) (sl : NV) (g g' : Heap) (F F' : FF) : Prop where
  st : StD N g' qx qy bits tx (tx.er.items bits) sl
  keep : ∀ b, b < N → hget g' b = hget g b
  f6 : F' 1 = F 1
  f7 : F' 7 = F 7
  f8 : F' 8 = F 8
  f21 : F' 21 = F 21
  f22 : F' 22 = F 22
  f23 : F' 23 = F 23
  f35 : F' 35 = F 35
  f36 : F' 36 = F 36
  f37 : F' 37 = F 37

set_option maxHeartbeats 2000000 in
theorem cl_check {N qx qy bits : Nat} {tx : TT} {sl : NV} (hb : bits ≤ 128) {g : Heap} {F : FF} (S : StD N g qx qy bits tx (tx.er.items bits) sl) (hn : (tx.er.items bits).length ≤ 100) (f7 : F 7 = .ptr (some (qx, 0))) (f8 : F 8 = .ptr (some (qy, 0))) : fwpT E0 clD4 (joinK fun F' g' => ClQ N qx qy bits tx sl g g' F F') F g .mk := by
  simp only [clD4, clD, clI, clP, clO, t4, NCode.a1, NCode.a2, NCode.bk, NCode.lp, NCode.ct, NCode.cf]
  have hy := S.hy
  have ly := hget_some_lt hy
  obtain ⟨B, c, hsl, hB⟩ := S.gy.prs
  have hy' := hy
  rw [hsl] at hy'
  have hlen := tlen_ok g qx bits tx hb S.x S.ox.fit (by omega)
  have hall := tall_ok g qx bits tx hb S.x S.ox.fit (by omega)
  simp (disch := first | omega | (simp only [fsLen]; omega)) only [↓fsPre, fsPost, fsCond, fsGen, fsDefs, cls, eqVal, vbGen, fill_bits, reduceCtorEq, Nat.reduceAdd, Nat.reduceMul, Nat.reduceSub, Nat.reduceLT, Nat.reduceLeDiff, Nat.reduceEqDiff, Nat.reduceBEq, Nat.reduceBNe, Int.reduceLT, Int.reduceLE, Int.reduceEq, Int.reduceNe, Int.reduceAdd, Int.reduceSub, Int.reduceNeg, Int.reduceToNat, Int.reduceMul, ↓reduceIte, Int.reduceGT, Int.reduceGE, f7, f8, hy', nb_one]
  refine callDT_one hlen rfl ?_
  simp (disch := first | omega | (simp only [fsLen]; omega)) only [↓fsPre, fsPost, fsCond, fsGen, fsDefs, cls, eqVal, vbGen, fill_bits, reduceCtorEq, Nat.reduceAdd, Nat.reduceMul, Nat.reduceSub, Nat.reduceLT, Nat.reduceLeDiff, Nat.reduceEqDiff, Nat.reduceBEq, Nat.reduceBNe, Int.reduceLT, Int.reduceLE, Int.reduceEq, Int.reduceNe, Int.reduceAdd, Int.reduceSub, Int.reduceNeg, Int.reduceToNat, Int.reduceMul, ↓reduceIte, Int.reduceGT, Int.reduceGE, f7, f8, hy', nb_one]
  refine callDT_D hall rfl ?_
  rintro x h1 ⟨l1, k1, gr⟩
  have S1 := S.keep l1 fun b _ hb => k1 b hb
  have hy1 := S1.hy
  have ly1 := hget_some_lt hy1
  rw [hsl] at hy1
  have hs := same12_ok h1 x sl g.length (tx.er.items bits) gr S1.gy (by omega)
  rw [hsl] at hs
  simp (disch := first | omega | (simp only [fsLen]; omega)) only [↓fsPre, fsPost, fsCond, fsGen, fsDefs, cls, eqVal, vbGen, fill_bits, reduceCtorEq, Nat.reduceAdd, Nat.reduceMul, Nat.reduceSub, Nat.reduceLT, Nat.reduceLeDiff, Nat.reduceEqDiff, Nat.reduceBEq, Nat.reduceBNe, Int.reduceLT, Int.reduceLE, Int.reduceEq, Int.reduceNe, Int.reduceAdd, Int.reduceSub, Int.reduceNeg, Int.reduceToNat, Int.reduceMul, ↓reduceIte, Int.reduceGT, Int.reduceGE, f7, f8, hy', hy1, nb_one, List.nil_append]
  refine ⟨l1, ?_⟩
  refine callDT_one hs rfl ?_
  simp (disch := first | omega | (simp only [fsLen]; omega)) only [↓fsPre, fsPost, fsCond, fsGen, fsDefs, cls, eqVal, vbGen, fill_bits, reduceCtorEq, Nat.reduceAdd, Nat.reduceMul, Nat.reduceSub, Nat.reduceLT, Nat.reduceLeDiff, Nat.reduceEqDiff, Nat.reduceBEq, Nat.reduceBNe, Int.reduceLT, Int.reduceLE, Int.reduceEq, Int.reduceNe, Int.reduceAdd, Int.reduceSub, Int.reduceNeg, Int.reduceToNat, Int.reduceMul, ↓reduceIte, Int.reduceGT, Int.reduceGE, f7, f8, hy', hy1, nb_one, List.nil_append]
  refine ⟨l1, S1, fun b hb => k1 b (by have := S.hN; omega), ?_, ?_, ?_, ?_, ?_, ?_, ?_, ?_, ?_⟩ <;> simp (disch := first | omega | (simp only [fsLen]; omega)) only [↓fsPre, fsPost, fsCond, fsGen, fsDefs, cls, eqVal, vbGen, fill_bits, reduceCtorEq, Nat.reduceAdd, Nat.reduceMul, Nat.reduceSub, Nat.reduceLT, Nat.reduceLeDiff, Nat.reduceEqDiff, Nat.reduceBEq, Nat.reduceBNe, Int.reduceLT, Int.reduceLE, Int.reduceEq, Int.reduceNe, Int.reduceAdd, Int.reduceSub, Int.reduceNeg, Int.reduceToNat, Int.reduceMul, ↓reduceIte, Int.reduceGT, Int.reduceGE]

theorem StD.init (H : Heap) (bits : Nat) : StD H.length (H ++ [some (.cells [.int .i64 bits, .ptr none] false), some (.cells [.int .i64 bits, .slice none 0 (.fix 0)] false)]) H.length (H.length + 1) bits .nil (TT.nil.er.items bits) (.slice none 0 (.fix 0)) := by
  refine ⟨⟨by simp (disch := first | omega | (simp only [fsLen]; omega)) only [↓fsPre, fsPost, fsCond, fsGen, fsDefs, cls, eqVal, vbGen, fill_bits, reduceCtorEq, Nat.reduceAdd, Nat.reduceMul, Nat.reduceSub, Nat.reduceLT, Nat.reduceLeDiff, Nat.reduceEqDiff, Nat.reduceBEq, Nat.reduceBNe, Int.reduceLT, Int.reduceLE, Int.reduceEq, Int.reduceNe, Int.reduceAdd, Int.reduceSub, Int.reduceNeg, Int.reduceToNat, Int.reduceMul, ↓reduceIte, Int.reduceGT, Int.reduceGE, ptr_nl], trivial, by simp [TT.bl]⟩, T.ok.nil, by simp (disch := first | omega | (simp only [fsLen]; omega)) only [↓fsPre, fsPost, fsCond, fsGen, fsDefs, cls, eqVal, vbGen, fill_bits, reduceCtorEq, Nat.reduceAdd, Nat.reduceMul, Nat.reduceSub, Nat.reduceLT, Nat.reduceLeDiff, Nat.reduceEqDiff, Nat.reduceBEq, Nat.reduceBNe, Int.reduceLT, Int.reduceLE, Int.reduceEq, Int.reduceNe, Int.reduceAdd, Int.reduceSub, Int.reduceNeg, Int.reduceToNat, Int.reduceMul, ↓reduceIte, Int.reduceGT, Int.reduceGE], .inl ⟨rfl, none, rfl⟩, fun b hb => ?_, ⟨by omega, ?_, ?_⟩, by simp⟩
  · rcases hb with rfl | hb
    · refine ⟨by omega, by omega, ?_⟩
      rintro ⟨_, h⟩; cases h
    · cases hb
  · rintro ⟨_, h⟩; cases h
  · rintro b ⟨_, h⟩; cases h

def clL : NCode := clP.a2.a2.a1
theorem clL_eq : clL = .seq clQ1 (.block 2 (.loop (.seq clI1 (.seq clI2 (.seq (.block 3 (.seq clD1 (.seq clD2 (.seq clD3 clD4)))) clI3))))) := rfl
/-- Where the operations leave all. -/
structure ClL (N bits : Nat) (g g' : Heap) (F F' : FF) : Prop where
  ex : ∃ tx sl, StD N g' N (N + 1) bits tx (tx.er.items bits) sl ∧ (tx.er.items bits).length ≤ 24 ∧ tx.er.nodes ≤ 24 * 129
  keep : ∀ b, b < N → hget g' b = hget g b
  f1 : F' 1 = F 1
  f7 : F' 7 = .ptr (some (N, 0))
  f8 : F' 8 = .ptr (some (N + 1, 0))
  f21 : F' 21 = F 21
  f22 : F' 22 = F 22
  f23 : F' 23 = F 23

set_option maxHeartbeats 2000000 in
theorem cl_inner (N0 N bits : Nat) (hb1 : 1 ≤ bits) (hb2 : bits ≤ 128) (os : List OpD) (hok : ∀ o ∈ os, o.OK) (A : Option (Nat × Nat)) (m : Nat) (hm1 : os.length ≤ m) (hm2 : m ≤ 9223372036854775807) (F : FF) (g : Heap) (sl : NV)
    (f1 : F 1 = .slice A os.length (.fix m)) (f7 : F 7 = .ptr (some (N, 0))) (f8 : F 8 = .ptr (some (N + 1, 0))) (S : StD N g N (N + 1) bits .nil (TT.nil.er.items bits) sl) (hN : N0 ≤ N) (hO : OIn (fun b => b < N0) g A os) :
    fwpT E0 clL (joinK fun F' g' => ClL N bits g g' F F') F g .mk := by
  have eN : (if (24 : Int) < os.length then (24 : Int) else os.length) = (min 24 os.length : Nat) := by split <;> omega
  have hN1 : min 24 os.length ≤ 24 ∧ min 24 os.length ≤ os.length := by omega
  generalize min 24 os.length = N1 at *
  have eA1 : (if m = 0 then A else Option.map (fun x => (x.fst, x.snd)) A) = A := by cases A <;> simp
  rw [clL_eq]
  simp (disch := first | omega | (simp only [fsLen]; omega)) only [↓fsPre, fsPost, fsCond, fsGen, fsDefs, cls, eqVal, vbGen, fill_bits, reduceCtorEq, Nat.reduceAdd, Nat.reduceMul, Nat.reduceSub, Nat.reduceLT, Nat.reduceLeDiff, Nat.reduceEqDiff, Nat.reduceBEq, Nat.reduceBNe, Int.reduceLT, Int.reduceLE, Int.reduceEq, Int.reduceNe, Int.reduceAdd, Int.reduceSub, Int.reduceNeg, Int.reduceToNat, Int.reduceMul, ↓reduceIte, Int.reduceGT, Int.reduceGE]
  simp only [clQ1, clP, clO, t4, NCode.a1, NCode.a2, NCode.bk, NCode.lp]
  simp (disch := first | omega | (simp only [fsLen]; omega)) only [↓fsPre, fsPost, fsCond, fsGen, fsDefs, cls, eqVal, vbGen, fill_bits, reduceCtorEq, Nat.reduceAdd, Nat.reduceMul, Nat.reduceSub, Nat.reduceLT, Nat.reduceLeDiff, Nat.reduceEqDiff, Nat.reduceBEq, Nat.reduceBNe, Int.reduceLT, Int.reduceLE, Int.reduceEq, Int.reduceNe, Int.reduceAdd, Int.reduceSub, Int.reduceNeg, Int.reduceToNat, Int.reduceMul, ↓reduceIte, Int.reduceGT, Int.reduceGE, f1, eN, eA1]
  refine wloop (fun j F' g' => F' 35 = .slice A N1 (.fix m) ∧ F' 36 = .int .i64 N1 ∧ F' 37 = .int .i64 j ∧ F' 1 = F 1 ∧ F' 21 = F 21 ∧ F' 22 = F 22 ∧ F' 23 = F 23 ∧ F' 7 = .ptr (some (N, 0)) ∧ F' 8 = .ptr (some (N + 1, 0)) ∧ ∃ tx sl, StD N g' N (N + 1) bits tx (tx.er.items bits) sl ∧ (∀ b, b < N → hget g' b = hget g b) ∧ OIn (fun b => b < N0) g' A os ∧ (tx.er.items bits).length ≤ j ∧ tx.er.nodes ≤ j * 129) N1 ?_ ?_ ?_
  · simp (disch := first | omega | (simp only [fsLen]; omega)) only [↓fsPre, fsPost, fsCond, fsGen, fsDefs, cls, eqVal, vbGen, fill_bits, reduceCtorEq, Nat.reduceAdd, Nat.reduceMul, Nat.reduceSub, Nat.reduceLT, Nat.reduceLeDiff, Nat.reduceEqDiff, Nat.reduceBEq, Nat.reduceBNe, Int.reduceLT, Int.reduceLE, Int.reduceEq, Int.reduceNe, Int.reduceAdd, Int.reduceSub, Int.reduceNeg, Int.reduceToNat, Int.reduceMul, ↓reduceIte, Int.reduceGT, Int.reduceGE, f1, f7, f8]
    refine ⟨.nil, sl, S, hO, ?_, ?_⟩ <;> simp [TT.er, T.items, T.itemsAt, T.nodes]
  · clear S hO f7 f8
    rintro j F1 g1 hj ⟨f35, f36, f37, k1, k21, k22, k23, f7, f8, tx, sl, S, k0, hO, hn, hnd⟩
    obtain ⟨b, cs, ro, rfl, hbH, hb, hcut⟩ := hO (by omega)
    have lb := hget_some_lt hb
    have hc := hcut j (by omega)
    have hoj := hok os[j] (List.getElem_mem _)
    generalize os[j] = o at *
    have hpr := fun H => prefix_ok H o hoj bits ⟨hb1, hb2⟩
    simp only [opC, vnv] at hc hpr
    have hd : decide ((j : Int) < (N1 : Int)) = true := by simp; omega
    have hy := S.hy
    have ly := hget_some_lt hy
    obtain ⟨Bs, cc, hsl, hBs⟩ := S.gy.prs
    simp only [clI1, clI, clP, clO, t4, NCode.a1, NCode.a2, NCode.bk, NCode.lp]
    simp (disch := first | omega | (simp only [fsLen]; omega)) only [↓fsPre, fsPost, fsCond, fsGen, fsDefs, cls, eqVal, vbGen, fill_bits, reduceCtorEq, Nat.reduceAdd, Nat.reduceMul, Nat.reduceSub, Nat.reduceLT, Nat.reduceLeDiff, Nat.reduceEqDiff, Nat.reduceBEq, Nat.reduceBNe, Int.reduceLT, Int.reduceLE, Int.reduceEq, Int.reduceNe, Int.reduceAdd, Int.reduceSub, Int.reduceNeg, Int.reduceToNat, Int.reduceMul, ↓reduceIte, Int.reduceGT, Int.reduceGE, f36, f37, hd]
    simp only [clI2, clI, clP, clO, t4, NCode.a1, NCode.a2, NCode.bk, NCode.lp]
    simp (disch := first | omega | (simp only [fsLen]; omega)) only [↓fsPre, fsPost, fsCond, fsGen, fsDefs, cls, eqVal, vbGen, fill_bits, reduceCtorEq, Nat.reduceAdd, Nat.reduceMul, Nat.reduceSub, Nat.reduceLT, Nat.reduceLeDiff, Nat.reduceEqDiff, Nat.reduceBEq, Nat.reduceBNe, Int.reduceLT, Int.reduceLE, Int.reduceEq, Int.reduceNe, Int.reduceAdd, Int.reduceSub, Int.reduceNeg, Int.reduceToNat, Int.reduceMul, ↓reduceIte, Int.reduceGT, Int.reduceGE, f36, f37, hd]
    simp only [clD1, clD, clI, clP, clO, t4, NCode.a1, NCode.a2, NCode.bk, NCode.lp]
    simp (disch := first | omega | (simp only [fsLen]; omega)) only [↓fsPre, fsPost, fsCond, fsGen, fsDefs, cls, eqVal, vbGen, fill_bits, reduceCtorEq, Nat.reduceAdd, Nat.reduceMul, Nat.reduceSub, Nat.reduceLT, Nat.reduceLeDiff, Nat.reduceEqDiff, Nat.reduceBEq, Nat.reduceBNe, Int.reduceLT, Int.reduceLE, Int.reduceEq, Int.reduceNe, Int.reduceAdd, Int.reduceSub, Int.reduceNeg, Int.reduceToNat, Int.reduceMul, ↓reduceIte, Int.reduceGT, Int.reduceGE, f35, f37, hb, hc, nb_one]
    rw [hsl] at hy
    simp only [clD2, clD, clI, clP, clO, t4, NCode.a1, NCode.a2, NCode.bk, NCode.lp]
    simp (disch := first | omega | (simp only [fsLen]; omega)) only [↓fsPre, fsPost, fsCond, fsGen, fsDefs, cls, eqVal, vbGen, fill_bits, reduceCtorEq, Nat.reduceAdd, Nat.reduceMul, Nat.reduceSub, Nat.reduceLT, Nat.reduceLeDiff, Nat.reduceEqDiff, Nat.reduceBEq, Nat.reduceBNe, Int.reduceLT, Int.reduceLE, Int.reduceEq, Int.reduceNe, Int.reduceAdd, Int.reduceSub, Int.reduceNeg, Int.reduceToNat, Int.reduceMul, ↓reduceIte, Int.reduceGT, Int.reduceGE, f8, hy, nb_one]
    refine callDT_one (hpr _) rfl ?_
    simp (disch := first | omega | (simp only [fsLen]; omega)) only [↓fsPre, fsPost, fsCond, fsGen, fsDefs, cls, eqVal, vbGen, fill_bits, reduceCtorEq, Nat.reduceAdd, Nat.reduceMul, Nat.reduceSub, Nat.reduceLT, Nat.reduceLeDiff, Nat.reduceEqDiff, Nat.reduceBEq, Nat.reduceBNe, Int.reduceLT, Int.reduceLE, Int.reduceEq, Int.reduceNe, Int.reduceAdd, Int.reduceSub, Int.reduceNeg, Int.reduceToNat, Int.reduceMul, ↓reduceIte, Int.reduceGT, Int.reduceGE, f8, hy, nb_one, List.nil_append]
    have S1 := S.app [some (.cells [.int .i64 o.k, .int .u8 o.raw, nb (hiOf o.v), nb (loOf o.v), .int .i64 o.n, .int .i64 o.id] false), some (.cells [nb (hiOf (prefO bits o).1), nb (loOf (prefO bits o).1)] false)]
    refine fwp_cutJ _ (cl_switch (N := N) (qx := N) (qy := N + 1) (tx := tx) (sl := sl) (o := o) (v := (prefO bits o).1) (n := (prefO bits o).2) (g := g1) hb2 ⟨S1, by simp (disch := first | omega | (simp only [fsLen]; omega)) only [↓fsPre, fsPost, fsCond, fsGen, fsDefs, cls, eqVal, vbGen, fill_bits, reduceCtorEq, Nat.reduceAdd, Nat.reduceMul, Nat.reduceSub, Nat.reduceLT, Nat.reduceLeDiff, Nat.reduceEqDiff, Nat.reduceBEq, Nat.reduceBNe, Int.reduceLT, Int.reduceLE, Int.reduceEq, Int.reduceNe, Int.reduceAdd, Int.reduceSub, Int.reduceNeg, Int.reduceToNat, Int.reduceMul, ↓reduceIte, Int.reduceGT, Int.reduceGE], by simp (disch := first | omega | (simp only [fsLen]; omega)) only [↓fsPre, fsPost, fsCond, fsGen, fsDefs, cls, eqVal, vbGen, fill_bits, reduceCtorEq, Nat.reduceAdd, Nat.reduceMul, Nat.reduceSub, Nat.reduceLT, Nat.reduceLeDiff, Nat.reduceEqDiff, Nat.reduceBEq, Nat.reduceBNe, Int.reduceLT, Int.reduceLE, Int.reduceEq, Int.reduceNe, Int.reduceAdd, Int.reduceSub, Int.reduceNeg, Int.reduceToNat, Int.reduceMul, ↓reduceIte, Int.reduceGT, Int.reduceGE], fun b hb => hget_appl (by have := S.hN; omega), fun b hb => S.x.lt hb, ly, by simp, by omega, by simp (disch := first | omega | (simp only [fsLen]; omega)) only [↓fsPre, fsPost, fsCond, fsGen, fsDefs, cls, eqVal, vbGen, fill_bits, reduceCtorEq, Nat.reduceAdd, Nat.reduceMul, Nat.reduceSub, Nat.reduceLT, Nat.reduceLeDiff, Nat.reduceEqDiff, Nat.reduceBEq, Nat.reduceBNe, Int.reduceLT, Int.reduceLE, Int.reduceEq, Int.reduceNe, Int.reduceAdd, Int.reduceSub, Int.reduceNeg, Int.reduceToNat, Int.reduceMul, ↓reduceIte, Int.reduceGT, Int.reduceGE, f7], by simp (disch := first | omega | (simp only [fsLen]; omega)) only [↓fsPre, fsPost, fsCond, fsGen, fsDefs, cls, eqVal, vbGen, fill_bits, reduceCtorEq, Nat.reduceAdd, Nat.reduceMul, Nat.reduceSub, Nat.reduceLT, Nat.reduceLeDiff, Nat.reduceEqDiff, Nat.reduceBEq, Nat.reduceBNe, Int.reduceLT, Int.reduceLE, Int.reduceEq, Int.reduceNe, Int.reduceAdd, Int.reduceSub, Int.reduceNeg, Int.reduceToNat, Int.reduceMul, ↓reduceIte, Int.reduceGT, Int.reduceGE, f8], by simp (disch := first | omega | (simp only [fsLen]; omega)) only [↓fsPre, fsPost, fsCond, fsGen, fsDefs, cls, eqVal, vbGen, fill_bits, reduceCtorEq, Nat.reduceAdd, Nat.reduceMul, Nat.reduceSub, Nat.reduceLT, Nat.reduceLeDiff, Nat.reduceEqDiff, Nat.reduceBEq, Nat.reduceBNe, Int.reduceLT, Int.reduceLE, Int.reduceEq, Int.reduceNe, Int.reduceAdd, Int.reduceSub, Int.reduceNeg, Int.reduceToNat, Int.reduceMul, ↓reduceIte, Int.reduceGT, Int.reduceGE], by simp (disch := first | omega | (simp only [fsLen]; omega)) only [↓fsPre, fsPost, fsCond, fsGen, fsDefs, cls, eqVal, vbGen, fill_bits, reduceCtorEq, Nat.reduceAdd, Nat.reduceMul, Nat.reduceSub, Nat.reduceLT, Nat.reduceLeDiff, Nat.reduceEqDiff, Nat.reduceBEq, Nat.reduceBNe, Int.reduceLT, Int.reduceLE, Int.reduceEq, Int.reduceNe, Int.reduceAdd, Int.reduceSub, Int.reduceNeg, Int.reduceToNat, Int.reduceMul, ↓reduceIte, Int.reduceGT, Int.reduceGE], by simp (disch := first | omega | (simp only [fsLen]; omega)) only [↓fsPre, fsPost, fsCond, fsGen, fsDefs, cls, eqVal, vbGen, fill_bits, reduceCtorEq, Nat.reduceAdd, Nat.reduceMul, Nat.reduceSub, Nat.reduceLT, Nat.reduceLeDiff, Nat.reduceEqDiff, Nat.reduceBEq, Nat.reduceBNe, Int.reduceLT, Int.reduceLE, Int.reduceEq, Int.reduceNe, Int.reduceAdd, Int.reduceSub, Int.reduceNeg, Int.reduceToNat, Int.reduceMul, ↓reduceIte, Int.reduceGT, Int.reduceGE]⟩) ?_
    rintro F2 g2 ⟨⟨tx2, sl2, S2, hn2, hi2⟩, k2, e1, e7, e8, e21, e22, e23, e35, e36, e37⟩
    have e1 := e1.trans (c := F1 1) (by simp (disch := first | omega | (simp only [fsLen]; omega)) only [↓fsPre, fsPost, fsCond, fsGen, fsDefs, cls, eqVal, vbGen, fill_bits, reduceCtorEq, Nat.reduceAdd, Nat.reduceMul, Nat.reduceSub, Nat.reduceLT, Nat.reduceLeDiff, Nat.reduceEqDiff, Nat.reduceBEq, Nat.reduceBNe, Int.reduceLT, Int.reduceLE, Int.reduceEq, Int.reduceNe, Int.reduceAdd, Int.reduceSub, Int.reduceNeg, Int.reduceToNat, Int.reduceMul, ↓reduceIte, Int.reduceGT, Int.reduceGE])
    have e7 := e7.trans (c := .ptr (some (N, 0))) (by simp (disch := first | omega | (simp only [fsLen]; omega)) only [↓fsPre, fsPost, fsCond, fsGen, fsDefs, cls, eqVal, vbGen, fill_bits, reduceCtorEq, Nat.reduceAdd, Nat.reduceMul, Nat.reduceSub, Nat.reduceLT, Nat.reduceLeDiff, Nat.reduceEqDiff, Nat.reduceBEq, Nat.reduceBNe, Int.reduceLT, Int.reduceLE, Int.reduceEq, Int.reduceNe, Int.reduceAdd, Int.reduceSub, Int.reduceNeg, Int.reduceToNat, Int.reduceMul, ↓reduceIte, Int.reduceGT, Int.reduceGE, f7])
    have e8 := e8.trans (c := .ptr (some (N + 1, 0))) (by simp (disch := first | omega | (simp only [fsLen]; omega)) only [↓fsPre, fsPost, fsCond, fsGen, fsDefs, cls, eqVal, vbGen, fill_bits, reduceCtorEq, Nat.reduceAdd, Nat.reduceMul, Nat.reduceSub, Nat.reduceLT, Nat.reduceLeDiff, Nat.reduceEqDiff, Nat.reduceBEq, Nat.reduceBNe, Int.reduceLT, Int.reduceLE, Int.reduceEq, Int.reduceNe, Int.reduceAdd, Int.reduceSub, Int.reduceNeg, Int.reduceToNat, Int.reduceMul, ↓reduceIte, Int.reduceGT, Int.reduceGE, f8])
    have e21 := e21.trans (c := F1 21) (by simp (disch := first | omega | (simp only [fsLen]; omega)) only [↓fsPre, fsPost, fsCond, fsGen, fsDefs, cls, eqVal, vbGen, fill_bits, reduceCtorEq, Nat.reduceAdd, Nat.reduceMul, Nat.reduceSub, Nat.reduceLT, Nat.reduceLeDiff, Nat.reduceEqDiff, Nat.reduceBEq, Nat.reduceBNe, Int.reduceLT, Int.reduceLE, Int.reduceEq, Int.reduceNe, Int.reduceAdd, Int.reduceSub, Int.reduceNeg, Int.reduceToNat, Int.reduceMul, ↓reduceIte, Int.reduceGT, Int.reduceGE])
    have e22 := e22.trans (c := F1 22) (by simp (disch := first | omega | (simp only [fsLen]; omega)) only [↓fsPre, fsPost, fsCond, fsGen, fsDefs, cls, eqVal, vbGen, fill_bits, reduceCtorEq, Nat.reduceAdd, Nat.reduceMul, Nat.reduceSub, Nat.reduceLT, Nat.reduceLeDiff, Nat.reduceEqDiff, Nat.reduceBEq, Nat.reduceBNe, Int.reduceLT, Int.reduceLE, Int.reduceEq, Int.reduceNe, Int.reduceAdd, Int.reduceSub, Int.reduceNeg, Int.reduceToNat, Int.reduceMul, ↓reduceIte, Int.reduceGT, Int.reduceGE])
    have e23 := e23.trans (c := F1 23) (by simp (disch := first | omega | (simp only [fsLen]; omega)) only [↓fsPre, fsPost, fsCond, fsGen, fsDefs, cls, eqVal, vbGen, fill_bits, reduceCtorEq, Nat.reduceAdd, Nat.reduceMul, Nat.reduceSub, Nat.reduceLT, Nat.reduceLeDiff, Nat.reduceEqDiff, Nat.reduceBEq, Nat.reduceBNe, Int.reduceLT, Int.reduceLE, Int.reduceEq, Int.reduceNe, Int.reduceAdd, Int.reduceSub, Int.reduceNeg, Int.reduceToNat, Int.reduceMul, ↓reduceIte, Int.reduceGT, Int.reduceGE])
    have e35 := e35.trans (c := F1 35) (by simp (disch := first | omega | (simp only [fsLen]; omega)) only [↓fsPre, fsPost, fsCond, fsGen, fsDefs, cls, eqVal, vbGen, fill_bits, reduceCtorEq, Nat.reduceAdd, Nat.reduceMul, Nat.reduceSub, Nat.reduceLT, Nat.reduceLeDiff, Nat.reduceEqDiff, Nat.reduceBEq, Nat.reduceBNe, Int.reduceLT, Int.reduceLE, Int.reduceEq, Int.reduceNe, Int.reduceAdd, Int.reduceSub, Int.reduceNeg, Int.reduceToNat, Int.reduceMul, ↓reduceIte, Int.reduceGT, Int.reduceGE])
    have e36 := e36.trans (c := F1 36) (by simp (disch := first | omega | (simp only [fsLen]; omega)) only [↓fsPre, fsPost, fsCond, fsGen, fsDefs, cls, eqVal, vbGen, fill_bits, reduceCtorEq, Nat.reduceAdd, Nat.reduceMul, Nat.reduceSub, Nat.reduceLT, Nat.reduceLeDiff, Nat.reduceEqDiff, Nat.reduceBEq, Nat.reduceBNe, Int.reduceLT, Int.reduceLE, Int.reduceEq, Int.reduceNe, Int.reduceAdd, Int.reduceSub, Int.reduceNeg, Int.reduceToNat, Int.reduceMul, ↓reduceIte, Int.reduceGT, Int.reduceGE])
    have e37 := e37.trans (c := F1 37) (by simp (disch := first | omega | (simp only [fsLen]; omega)) only [↓fsPre, fsPost, fsCond, fsGen, fsDefs, cls, eqVal, vbGen, fill_bits, reduceCtorEq, Nat.reduceAdd, Nat.reduceMul, Nat.reduceSub, Nat.reduceLT, Nat.reduceLeDiff, Nat.reduceEqDiff, Nat.reduceBEq, Nat.reduceBNe, Int.reduceLT, Int.reduceLE, Int.reduceEq, Int.reduceNe, Int.reduceAdd, Int.reduceSub, Int.reduceNeg, Int.reduceToNat, Int.reduceMul, ↓reduceIte, Int.reduceGT, Int.reduceGE])
    simp (disch := first | omega | (simp only [fsLen]; omega)) only [↓fsPre, fsPost, fsCond, fsGen, fsDefs, cls, eqVal, vbGen, fill_bits, reduceCtorEq, Nat.reduceAdd, Nat.reduceMul, Nat.reduceSub, Nat.reduceLT, Nat.reduceLeDiff, Nat.reduceEqDiff, Nat.reduceBEq, Nat.reduceBNe, Int.reduceLT, Int.reduceLE, Int.reduceEq, Int.reduceNe, Int.reduceAdd, Int.reduceSub, Int.reduceNeg, Int.reduceToNat, Int.reduceMul, ↓reduceIte, Int.reduceGT, Int.reduceGE]
    refine fwp_cutJ _ (cl_check hb2 S2 (by omega) e7 e8) ?_
    rintro F3 g3 ⟨S3, k3, d1, d7, d8, d21, d22, d23, d35, d36, d37⟩
    have d1 := (d1.trans e1).trans k1
    have d7 := d7.trans e7
    have d8 := d8.trans e8
    have d21 := (d21.trans e21).trans k21
    have d22 := (d22.trans e22).trans k22
    have d23 := (d23.trans e23).trans k23
    have d35 := (d35.trans e35).trans f35
    have d36 := (d36.trans e36).trans f36
    have d37 := (d37.trans e37).trans f37
    have kk : ∀ b, b < N → hget g3 b = hget g1 b := fun b hb => (k3 b hb).trans (k2 b hb)
    simp (disch := first | omega | (simp only [fsLen]; omega)) only [↓fsPre, fsPost, fsCond, fsGen, fsDefs, cls, eqVal, vbGen, fill_bits, reduceCtorEq, Nat.reduceAdd, Nat.reduceMul, Nat.reduceSub, Nat.reduceLT, Nat.reduceLeDiff, Nat.reduceEqDiff, Nat.reduceBEq, Nat.reduceBNe, Int.reduceLT, Int.reduceLE, Int.reduceEq, Int.reduceNe, Int.reduceAdd, Int.reduceSub, Int.reduceNeg, Int.reduceToNat, Int.reduceMul, ↓reduceIte, Int.reduceGT, Int.reduceGE]
    simp only [clI3, clI, clP, clO, t4, NCode.a1, NCode.a2, NCode.bk, NCode.lp]
    simp (disch := first | omega | (simp only [fsLen]; omega)) only [↓fsPre, fsPost, fsCond, fsGen, fsDefs, cls, eqVal, vbGen, fill_bits, reduceCtorEq, Nat.reduceAdd, Nat.reduceMul, Nat.reduceSub, Nat.reduceLT, Nat.reduceLeDiff, Nat.reduceEqDiff, Nat.reduceBEq, Nat.reduceBNe, Int.reduceLT, Int.reduceLE, Int.reduceEq, Int.reduceNe, Int.reduceAdd, Int.reduceSub, Int.reduceNeg, Int.reduceToNat, Int.reduceMul, ↓reduceIte, Int.reduceGT, Int.reduceGE, d1, d7, d8, d21, d22, d23, d35, d36, d37]
    exact ⟨tx2, sl2, S3, fun b hb => (kk b hb).trans (k0 b hb), hO.keep (fun b hb _ => kk b (by omega)) (fun b hb => hb), by omega, by omega⟩
  · rintro F1 g1 ⟨f35, f36, f37, k1, k21, k22, k23, f7, f8, tx, sl, S, k0, hO, hn, hnd⟩
    simp only [clI1, clI, clP, clO, t4, NCode.a1, NCode.a2, NCode.bk, NCode.lp]
    simp (disch := first | omega | (simp only [fsLen]; omega)) only [↓fsPre, fsPost, fsCond, fsGen, fsDefs, cls, eqVal, vbGen, fill_bits, reduceCtorEq, Nat.reduceAdd, Nat.reduceMul, Nat.reduceSub, Nat.reduceLT, Nat.reduceLeDiff, Nat.reduceEqDiff, Nat.reduceBEq, Nat.reduceBNe, Int.reduceLT, Int.reduceLE, Int.reduceEq, Int.reduceNe, Int.reduceAdd, Int.reduceSub, Int.reduceNeg, Int.reduceToNat, Int.reduceMul, ↓reduceIte, Int.reduceGT, Int.reduceGE, f36, f37]
    simp only [clI2, clI, clP, clO, t4, NCode.a1, NCode.a2, NCode.bk, NCode.lp]
    simp (disch := first | omega | (simp only [fsLen]; omega)) only [↓fsPre, fsPost, fsCond, fsGen, fsDefs, cls, eqVal, vbGen, fill_bits, reduceCtorEq, Nat.reduceAdd, Nat.reduceMul, Nat.reduceSub, Nat.reduceLT, Nat.reduceLeDiff, Nat.reduceEqDiff, Nat.reduceBEq, Nat.reduceBNe, Int.reduceLT, Int.reduceLE, Int.reduceEq, Int.reduceNe, Int.reduceAdd, Int.reduceSub, Int.reduceNeg, Int.reduceToNat, Int.reduceMul, ↓reduceIte, Int.reduceGT, Int.reduceGE, f36, f37]
    refine ⟨⟨tx, sl, S, by omega, by omega⟩, k0, ?_, ?_, ?_, ?_, ?_, ?_⟩ <;> simp (disch := first | omega | (simp only [fsLen]; omega)) only [↓fsPre, fsPost, fsCond, fsGen, fsDefs, cls, eqVal, vbGen, fill_bits, reduceCtorEq, Nat.reduceAdd, Nat.reduceMul, Nat.reduceSub, Nat.reduceLT, Nat.reduceLeDiff, Nat.reduceEqDiff, Nat.reduceBEq, Nat.reduceBNe, Int.reduceLT, Int.reduceLE, Int.reduceEq, Int.reduceNe, Int.reduceAdd, Int.reduceSub, Int.reduceNeg, Int.reduceToNat, Int.reduceMul, ↓reduceIte, Int.reduceGT, Int.reduceGE, k1, f7, f8, k21, k22, k23]
end Go.Proofs
