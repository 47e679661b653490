/- Trie: TrieCalls. -/
import Derived.Test.YtiiopgancdgioaaVbE
import Derived.Test.YtiiopgancdgioaaTCTs
set_option linter.unusedSimpArgs false
set_option linter.unusedVariables false
set_option maxRecDepth 100000
namespace Go.Proofs
open Go.Ns

theorem and7 (n : Int) : nbits .and .i64 n 7 = some (n % 8) := by
  simp only [nbits]
  rw [show IntKind.i64.bits = 64 from rfl]
  have e : (BitVec.ofInt 64 n &&& BitVec.ofInt 64 7).toNat = (n % 8).toNat := by
    rw [BitVec.toNat_and, show (BitVec.ofInt 64 7).toNat = 2 ^ 3 - 1 by decide, Nat.and_two_pow_sub_one_eq_mod, BitVec.toNat_ofInt]
    omega
  rw [e, IntWalk.i64_in _ (by omega)]
  congr 1; omega

theorem same12_ok (H : Heap) (v w : NV) (N : Nat) (L : List PfT) (hv : GrC H N (L.flatMap pfC) 4 v) (hw : GrE H (L.flatMap pfC) w) (hL : L.length ≤ 1000) :
    NCall Try.prog 22 [v, w] H fun r => r = (.bool true, H) := by
  refine call_pure E0 mixed t22_ok (by kernel_rfl) trivial ?_
  obtain ⟨A, c, rfl, hA⟩ := grc_pfs hv
  obtain ⟨B, d, rfl, hB⟩ := hw.prs
  simp only [t22]
  simp (disch := first | omega | (simp only [fsLen]; omega)) only [↓fsPre, fsPost, fsCond, fsGen, fsDefs, cls, eqVal, vbGen, fill_bits, reduceCtorEq, Nat.reduceAdd, Nat.reduceMul, Nat.reduceSub, Nat.reduceLT, Nat.reduceLeDiff, Nat.reduceEqDiff, Nat.reduceBEq, Nat.reduceBNe, Int.reduceLT, Int.reduceLE, Int.reduceEq, Int.reduceNe, Int.reduceAdd, Int.reduceSub, Int.reduceNeg, Int.reduceToNat, Int.reduceMul, ↓reduceIte, Int.reduceGT, Int.reduceGE]
  refine wloop (fun j F h => F 1 = .slice B L.length d ∧ F 12 = .slice A L.length c ∧ F 13 = .int .i64 L.length ∧ F 14 = .int .i64 j ∧ ∃ J, h = H ++ J) L.length ?_ ?_ ?_
  · simp (disch := first | omega | (simp only [fsLen]; omega)) only [↓fsPre, fsPost, fsCond, fsGen, fsDefs, cls, eqVal, vbGen, fill_bits, reduceCtorEq, Nat.reduceAdd, Nat.reduceMul, Nat.reduceSub, Nat.reduceLT, Nat.reduceLeDiff, Nat.reduceEqDiff, Nat.reduceBEq, Nat.reduceBNe, Int.reduceLT, Int.reduceLE, Int.reduceEq, Int.reduceNe, Int.reduceAdd, Int.reduceSub, Int.reduceNeg, Int.reduceToNat, Int.reduceMul, ↓reduceIte, Int.reduceGT, Int.reduceGE]
    exact ⟨[], by simp⟩
  · rintro j F h hj ⟨f1, f12, f13, f14, J, rfl⟩
    obtain ⟨b, rfl, hb⟩ := hA (by omega)
    rcases hB with ⟨_, rfl⟩ | ⟨rfl, h0, b', rfl, hb'⟩
    · simp at hj
    have lb := hget_some_lt hb
    have lb' := hget_some_lt hb'
    have hc : cut (L.flatMap pfC) (j * 4) 4 = some (pfC L[j]) := cut_flatMap pfC_length hj
    have hd : decide ((j : Int) < (L.length : Int)) = true := by simp; omega
    simp only [pfC] at hc
    simp (disch := first | omega | (simp only [fsLen]; omega)) only [↓fsPre, fsPost, fsCond, fsGen, fsDefs, cls, eqVal, vbGen, fill_bits, reduceCtorEq, Nat.reduceAdd, Nat.reduceMul, Nat.reduceSub, Nat.reduceLT, Nat.reduceLeDiff, Nat.reduceEqDiff, Nat.reduceBEq, Nat.reduceBNe, Int.reduceLT, Int.reduceLE, Int.reduceEq, Int.reduceNe, Int.reduceAdd, Int.reduceSub, Int.reduceNeg, Int.reduceToNat, Int.reduceMul, ↓reduceIte, Int.reduceGT, Int.reduceGE, f1, f12, f13, f14, hb, hb', hc, hd, nb_one]
    exact ⟨_, rfl⟩
  · rintro F h ⟨f1, f12, f13, f14, J, rfl⟩
    simp (disch := first | omega | (simp only [fsLen]; omega)) only [↓fsPre, fsPost, fsCond, fsGen, fsDefs, cls, eqVal, vbGen, fill_bits, reduceCtorEq, Nat.reduceAdd, Nat.reduceMul, Nat.reduceSub, Nat.reduceLT, Nat.reduceLeDiff, Nat.reduceEqDiff, Nat.reduceBEq, Nat.reduceBNe, Int.reduceLT, Int.reduceLE, Int.reduceEq, Int.reduceNe, Int.reduceAdd, Int.reduceSub, Int.reduceNeg, Int.reduceToNat, Int.reduceMul, ↓reduceIte, Int.reduceGT, Int.reduceGE, f1, f12, f13, f14]
    exact ⟨_, rfl⟩

def clA : NCode := t4.body.a1
def clB : NCode := t4.body.a2.a1.a1
def clO : NCode := t4.body.a2.a1.a2.bk.lp
def clE : NCode := t4.body.a2.a2
def clO1 : NCode := clO.a1
def clO2 : NCode := clO.a2.a1
def clP : NCode := clO.a2.a2.a1.bk
def clO3 : NCode := clO.a2.a2.a2
def clP1 : NCode := clP.a1
def clP2 : NCode := clP.a2.a1
def clQ1 : NCode := clP.a2.a2.a1.a1
def clI : NCode := clP.a2.a2.a1.a2.bk.lp
def clQ3 : NCode := clP.a2.a2.a2
def clI1 : NCode := clI.a1
def clI2 : NCode := clI.a2.a1
def clD : NCode := clI.a2.a2.a1.bk
def clI3 : NCode := clI.a2.a2.a2
def clD1 : NCode := clD.a1
def clD2 : NCode := clD.a2.a1
def clD3 : NCode := clD.a2.a2.a1
def clD4 : NCode := clD.a2.a2.a2
theorem cl_body : t4.body = .seq clA (.seq (.seq clB (.block 0 (.loop (.seq clO1 (.seq clO2 (.seq (.block 1 (.seq clP1 (.seq clP2 (.seq (.seq clQ1 (.block 2 (.loop (.seq clI1 (.seq clI2 (.seq (.block 3 (.seq clD1 (.seq clD2 (.seq clD3 clD4)))) clI3)))))) clQ3)))) clO3)))))) clE) := rfl
theorem cl_res : t4.res = [.tmp 4] := rfl
/-- Where an operation has come to. -/
structure SwQ (N qx qy bits : Nat) (tx : TT) (g g' : Heap) (F F' : FF) : Prop where
  ex : ∃ tx' sl', StD N g' qx qy bits tx' (tx'.er.items bits) sl' ∧ tx'.er.nodes ≤ tx.er.nodes + 129 ∧ (tx'.er.items bits).length ≤ (tx.er.items bits).length + 1
  keep : ∀ b, b < N → hget g' b = hget g b
  f6 : F' 1 = F 1
  f7 : F' 7 = F 7
  f8 : F' 8 = F 8
  f21 : F' 21 = F 21
  f22 : F' 22 = F 22
  f23 : F' 23 = F 23
  f35 : F' 35 = F 35
  f36 : F' 36 = F 36
  f37 : F' 37 = F 37

end Go.Proofs
namespace Go.Ns
def NCode.ct : NCode → NCode | .cond _ a _ => a | c => c
def NCode.cf : NCode → NCode | .cond _ _ b => b | c => c
end Go.Ns
namespace Go.Proofs
open Go.Ns
def swA : NCode := clD3.a1
def swB : NCode := clD3.a2.bk.a1
def swPut : NCode := clD3.a2.bk.a2.ct
def swC : NCode := clD3.a2.bk.a2.cf.a1
def swRem : NCode := clD3.a2.bk.a2.cf.a2.ct
def swGet : NCode := clD3.a2.bk.a2.cf.a2.cf
theorem sw_body : clD3 = .seq swA (.block 4 (.seq swB (.cond (.tmp 75) swPut (.seq swC (.cond (.tmp 93) swRem swGet))))) := rfl

/-- The heap ahead of an operation: the call and its prefix's value lie behind all else. -/
structure SwI (N qx qy bits : Nat) (tx : TT) (sl : NV) (o : OpD) (v : BitVec 128) (n : Int) (g G : Heap) (F : FF) : Prop where
  S : StD N G qx qy bits tx (tx.er.items bits) sl
  h10 : hget G g.length = some (.cells [.int .i64 o.k, .int .u8 o.raw, nb (hiOf o.v), nb (loOf o.v), .int .i64 o.n, .int .i64 o.id] false)
  h11 : hget G (g.length + 1) = some (.cells [nb (hiOf v), nb (loOf v)] false)
  k0 : ∀ b, b < N → hget G b = hget g b
  lo : ∀ b, b = qx ∨ b ∈ tx.bl → b < g.length
  loy : qy < g.length
  gl : G.length = g.length + 2
  hn : (tx.er.items bits).length ≤ 90
  f7 : F 7 = .ptr (some (qx, 0))
  f8 : F 8 = .ptr (some (qy, 0))
  f10 : F 10 = .ptr (some (g.length, 0))
  f11 : F 11 = .ptr (some (g.length + 1, 0))
  f12 : F 12 = .int .i64 n

set_option maxHeartbeats 2000000 in
theorem sw_put {N qx qy bits : Nat} {tx : TT} {sl : NV} {o : OpD} {v : BitVec 128} {n : Int} (hb : bits ≤ 128) {g G : Heap} {F : FF} (I : SwI N qx qy bits tx sl o v n g G F) : fwpT E0 swPut (joinK fun F' g' => SwQ N qx qy bits tx g g' F F') F G .mk := by
  obtain ⟨S, h10, h11, k0, lo, loy, gl, hn, f7, f8, f10, f11, f12⟩ := I
  simp only [swPut, clD3, clD, clI, clP, clO, t4, NCode.a1, NCode.a2, NCode.bk, NCode.lp, NCode.ct, NCode.cf]
  have l10 := hget_some_lt h10
  have l11 := hget_some_lt h11
  have hpx := tput_any G qx bits tx v n o.id hb S.x
  simp only [vnv] at hpx
  simp (disch := first | omega | (simp only [fsLen]; omega)) only [↓fsPre, fsPost, fsCond, fsGen, fsDefs, cls, eqVal, vbGen, fill_bits, reduceCtorEq, Nat.reduceAdd, Nat.reduceMul, Nat.reduceSub, Nat.reduceLT, Nat.reduceLeDiff, Nat.reduceEqDiff, Nat.reduceBEq, Nat.reduceBNe, Int.reduceLT, Int.reduceLE, Int.reduceEq, Int.reduceNe, Int.reduceAdd, Int.reduceSub, Int.reduceNeg, Int.reduceToNat, Int.reduceMul, ↓reduceIte, Int.reduceGT, Int.reduceGE, f7, f8, f10, f11, f12, h10, h11, nb_one]
  refine callDT_D hpx rfl ?_
  rintro x h1 ⟨rfl, tx', P⟩
  obtain ⟨S2, k2⟩ := S.putX P (putO_ok S.ox _ _ _)
  have er := P.er
  have hni := putO_items hb S.ox v n o.id
  have hnn := putO_nodes (t := tx.er) hb v n o.id
  have h10' : hget h1 g.length = some (.cells [.int .i64 o.k, .int .u8 o.raw, nb (hiOf o.v), nb (loOf o.v), .int .i64 o.n, .int .i64 o.id] false) := by
    rw [P.keep _ l10 (by have := lo qx (.inl rfl); omega) (fun hm => by have := lo _ (.inr hm); omega)]; exact h10
  have h11' : hget h1 (g.length + 1) = some (.cells [nb (hiOf v), nb (loOf v)] false) := by
    rw [P.keep _ l11 (by have := lo qx (.inl rfl); omega) (fun hm => by have := lo _ (.inr hm); omega)]; exact h11
  have l10' := hget_some_lt h10'
  have l11' := hget_some_lt h11'
  have le1 : G.length ≤ h1.length := P.len
  have hdp := dput_any h1 qy bits sl tx.er v n o.id hb S.ox S2.hy S2.gy (by omega)
  simp only [vnv] at hdp
  simp (disch := first | omega | (simp only [fsLen]; omega)) only [↓fsPre, fsPost, fsCond, fsGen, fsDefs, cls, eqVal, vbGen, fill_bits, reduceCtorEq, Nat.reduceAdd, Nat.reduceMul, Nat.reduceSub, Nat.reduceLT, Nat.reduceLeDiff, Nat.reduceEqDiff, Nat.reduceBEq, Nat.reduceBNe, Int.reduceLT, Int.reduceLE, Int.reduceEq, Int.reduceNe, Int.reduceAdd, Int.reduceSub, Int.reduceNeg, Int.reduceToNat, Int.reduceMul, ↓reduceIte, Int.reduceGT, Int.reduceGE, f7, f8, f10, f11, f12, h10, h11, h10', h11', nb_one]
  refine ⟨le1, ?_⟩
  refine callDT_D hdp rfl ?_
  rintro x h2 ⟨hx, D⟩
  cases hx
  obtain ⟨sl', S3, k3⟩ := S2.doc D
  obtain ⟨le2, D2, _⟩ := D
  have le2 : h1.length ≤ h2.length := le2
  rw [← er] at S3 hni hnn
  have h10'' : hget h2 g.length = some (.cells [.int .i64 o.k, .int .u8 o.raw, nb (hiOf o.v), nb (loOf o.v), .int .i64 o.n, .int .i64 o.id] false) := by rw [D2 _ l10' (by omega)]; exact h10'
  have h11'' : hget h2 (g.length + 1) = some (.cells [nb (hiOf v), nb (loOf v)] false) := by rw [D2 _ l11' (by omega)]; exact h11'
  have hne : eqCell .bool (.bool (okP bits v n && (getP bits tx.er v n).isNone)) (.bool (okP bits v n && (getP bits tx.er v n).isNone)) = some true := by rw [v_eqc_bool, beq_self_eq_true]
  simp (disch := first | omega | (simp only [fsLen]; omega)) only [↓fsPre, fsPost, fsCond, fsGen, fsDefs, cls, eqVal, vbGen, fill_bits, reduceCtorEq, Nat.reduceAdd, Nat.reduceMul, Nat.reduceSub, Nat.reduceLT, Nat.reduceLeDiff, Nat.reduceEqDiff, Nat.reduceBEq, Nat.reduceBNe, Int.reduceLT, Int.reduceLE, Int.reduceEq, Int.reduceNe, Int.reduceAdd, Int.reduceSub, Int.reduceNeg, Int.reduceToNat, Int.reduceMul, ↓reduceIte, Int.reduceGT, Int.reduceGE, f7, f8, f10, f11, f12, h10, h11, h10', h11', h10'', h11'', nb_one, hne]
  refine ⟨Nat.le_trans le1 le2, ⟨tx', sl', S3, by omega, by omega⟩, fun b hb => (k3 b hb).trans ((k2 b hb).trans (k0 b hb)), ?_, ?_, ?_, ?_, ?_, ?_, ?_, ?_, ?_⟩ <;> simp (disch := first | omega | (simp only [fsLen]; omega)) only [↓fsPre, fsPost, fsCond, fsGen, fsDefs, cls, eqVal, vbGen, fill_bits, reduceCtorEq, Nat.reduceAdd, Nat.reduceMul, Nat.reduceSub, Nat.reduceLT, Nat.reduceLeDiff, Nat.reduceEqDiff, Nat.reduceBEq, Nat.reduceBNe, Int.reduceLT, Int.reduceLE, Int.reduceEq, Int.reduceNe, Int.reduceAdd, Int.reduceSub, Int.reduceNeg, Int.reduceToNat, Int.reduceMul, ↓reduceIte, Int.reduceGT, Int.reduceGE]
theorem remO_itemsC {bits : Nat} {t : T} (hb : bits ≤ 128) (h : t.ok bits) (v : BitVec 128) (n : Int) : ((remO bits t v n).items bits).length ≤ (t.items bits).length := by
  unfold remO
  split
  · rename_i hs
    have ho : okP bits v n = true := by
      by_cases ho : okP bits v n = true
      · exact ho
      · unfold getP at hs; rw [if_neg ho] at hs; cases hs
    obtain ⟨i, hi⟩ := Option.isSome_iff_exists.1 hs
    have hm := (getP_items hb h.fit v n i).1 hi
    obtain ⟨j, hj, e⟩ := List.getElem_of_mem hm
    obtain ⟨m, rfl, hmb⟩ := okP_nat ho
    have hv := okP_val hb ho
    rw [Int.toNat_natCast, T.items_rem hb h.fit (p := pathB bits m v) (j := j) (by rw [pathB_length]; exact hmb) hj (by rw [e, pathB_length]; exact Prod.ext hv.2 rfl)]
    simp; omega
  · exact Nat.le_refl _

set_option maxHeartbeats 2000000 in
theorem sw_rem {N qx qy bits : Nat} {tx : TT} {sl : NV} {o : OpD} {v : BitVec 128} {n : Int} (hb : bits ≤ 128) {g G : Heap} {F : FF} (I : SwI N qx qy bits tx sl o v n g G F) : fwpT E0 swRem (joinK fun F' g' => SwQ N qx qy bits tx g g' F F') F G .mk := by
  obtain ⟨S, h10, h11, k0, lo, loy, gl, hn, f7, f8, f10, f11, f12⟩ := I
  simp only [swRem, clD3, clD, clI, clP, clO, t4, NCode.a1, NCode.a2, NCode.bk, NCode.lp, NCode.ct, NCode.cf]
  have l11 := hget_some_lt h11
  have hpx := trem_any G qx bits tx v n hb S.x
  simp only [vnv] at hpx
  simp (disch := first | omega | (simp only [fsLen]; omega)) only [↓fsPre, fsPost, fsCond, fsGen, fsDefs, cls, eqVal, vbGen, fill_bits, reduceCtorEq, Nat.reduceAdd, Nat.reduceMul, Nat.reduceSub, Nat.reduceLT, Nat.reduceLeDiff, Nat.reduceEqDiff, Nat.reduceBEq, Nat.reduceBNe, Int.reduceLT, Int.reduceLE, Int.reduceEq, Int.reduceNe, Int.reduceAdd, Int.reduceSub, Int.reduceNeg, Int.reduceToNat, Int.reduceMul, ↓reduceIte, Int.reduceGT, Int.reduceGE, f7, f8, f11, f12, h11, nb_one]
  refine callDT_D hpx rfl ?_
  rintro x h1 ⟨rfl, tx', P⟩
  obtain ⟨S2, k2⟩ := S.putX P (remO_ok S.ox _ _)
  have er := P.er
  have hni := remO_itemsC hb S.ox v n
  have hnn := remO_nodes (bits := bits) (t := tx.er) v n
  have h11' : hget h1 (g.length + 1) = some (.cells [nb (hiOf v), nb (loOf v)] false) := by
    rw [P.keep _ l11 (by have := lo qx (.inl rfl); omega) (fun hm => by have := lo _ (.inr hm); omega)]; exact h11
  have l11' := hget_some_lt h11'
  have le1 : G.length ≤ h1.length := P.len
  have hdp := drem_any h1 qy bits sl tx.er v n hb S.ox S2.hy S2.gy (by omega)
  simp only [vnv] at hdp
  simp (disch := first | omega | (simp only [fsLen]; omega)) only [↓fsPre, fsPost, fsCond, fsGen, fsDefs, cls, eqVal, vbGen, fill_bits, reduceCtorEq, Nat.reduceAdd, Nat.reduceMul, Nat.reduceSub, Nat.reduceLT, Nat.reduceLeDiff, Nat.reduceEqDiff, Nat.reduceBEq, Nat.reduceBNe, Int.reduceLT, Int.reduceLE, Int.reduceEq, Int.reduceNe, Int.reduceAdd, Int.reduceSub, Int.reduceNeg, Int.reduceToNat, Int.reduceMul, ↓reduceIte, Int.reduceGT, Int.reduceGE, f7, f8, f11, f12, h11, h11', nb_one]
  refine ⟨le1, ?_⟩
  refine callDT_D hdp rfl ?_
  rintro x h2 ⟨hx, D⟩
  cases hx
  obtain ⟨sl', S3, k3⟩ := S2.doc D
  obtain ⟨le2, D2, _⟩ := D
  have le2 : h1.length ≤ h2.length := le2
  rw [← er] at S3 hni hnn
  have h11'' : hget h2 (g.length + 1) = some (.cells [nb (hiOf v), nb (loOf v)] false) := by rw [D2 _ l11' (by omega)]; exact h11'
  have hne : eqCell .bool (.bool (getP bits tx.er v n).isSome) (.bool (getP bits tx.er v n).isSome) = some true := by rw [v_eqc_bool, beq_self_eq_true]
  simp (disch := first | omega | (simp only [fsLen]; omega)) only [↓fsPre, fsPost, fsCond, fsGen, fsDefs, cls, eqVal, vbGen, fill_bits, reduceCtorEq, Nat.reduceAdd, Nat.reduceMul, Nat.reduceSub, Nat.reduceLT, Nat.reduceLeDiff, Nat.reduceEqDiff, Nat.reduceBEq, Nat.reduceBNe, Int.reduceLT, Int.reduceLE, Int.reduceEq, Int.reduceNe, Int.reduceAdd, Int.reduceSub, Int.reduceNeg, Int.reduceToNat, Int.reduceMul, ↓reduceIte, Int.reduceGT, Int.reduceGE, f7, f8, f11, f12, h11, h11', h11'', nb_one, hne]
  refine ⟨Nat.le_trans le1 le2, ⟨tx', sl', S3, by omega, by omega⟩, fun b hb => (k3 b hb).trans ((k2 b hb).trans (k0 b hb)), ?_, ?_, ?_, ?_, ?_, ?_, ?_, ?_, ?_⟩ <;> simp (disch := first | omega | (simp only [fsLen]; omega)) only [↓fsPre, fsPost, fsCond, fsGen, fsDefs, cls, eqVal, vbGen, fill_bits, reduceCtorEq, Nat.reduceAdd, Nat.reduceMul, Nat.reduceSub, Nat.reduceLT, Nat.reduceLeDiff, Nat.reduceEqDiff, Nat.reduceBEq, Nat.reduceBNe, Int.reduceLT, Int.reduceLE, Int.reduceEq, Int.reduceNe, Int.reduceAdd, Int.reduceSub, Int.reduceNeg, Int.reduceToNat, Int.reduceMul, ↓reduceIte, Int.reduceGT, Int.reduceGE]

set_option maxHeartbeats 2000000 in
theorem sw_get {N qx qy bits : Nat} {tx : TT} {sl : NV} {o : OpD} {v : BitVec 128} {n : Int} (hb : bits ≤ 128) {g G : Heap} {F : FF} (I : SwI N qx qy bits tx sl o v n g G F) : fwpT E0 swGet (joinK fun F' g' => SwQ N qx qy bits tx g g' F F') F G .mk := by
  obtain ⟨S, h10, h11, k0, lo, loy, gl, hn, f7, f8, f10, f11, f12⟩ := I
  simp only [swGet, clD3, clD, clI, clP, clO, t4, NCode.a1, NCode.a2, NCode.bk, NCode.lp, NCode.ct, NCode.cf]
  have l11 := hget_some_lt h11
  have hpx := tget_ok G qx bits tx v n hb S.x
  have hdp := dget_any G qy bits sl tx.er v n hb S.ox S.hy S.gy (by omega)
  simp only [vnv] at hpx hdp
  generalize getP bits tx.er v n = p at *
  have hne : eqCell .bool (.bool p.isSome) (.bool p.isSome) = some true := by rw [v_eqc_bool, beq_self_eq_true]
  simp (disch := first | omega | (simp only [fsLen]; omega)) only [↓fsPre, fsPost, fsCond, fsGen, fsDefs, cls, eqVal, vbGen, fill_bits, reduceCtorEq, Nat.reduceAdd, Nat.reduceMul, Nat.reduceSub, Nat.reduceLT, Nat.reduceLeDiff, Nat.reduceEqDiff, Nat.reduceBEq, Nat.reduceBNe, Int.reduceLT, Int.reduceLE, Int.reduceEq, Int.reduceNe, Int.reduceAdd, Int.reduceSub, Int.reduceNeg, Int.reduceToNat, Int.reduceMul, ↓reduceIte, Int.reduceGT, Int.reduceGE, f7, f8, f11, f12, h11, nb_one]
  refine callT_one hpx rfl ?_
  simp (disch := first | omega | (simp only [fsLen]; omega)) only [↓fsPre, fsPost, fsCond, fsGen, fsDefs, cls, eqVal, vbGen, fill_bits, reduceCtorEq, Nat.reduceAdd, Nat.reduceMul, Nat.reduceSub, Nat.reduceLT, Nat.reduceLeDiff, Nat.reduceEqDiff, Nat.reduceBEq, Nat.reduceBNe, Int.reduceLT, Int.reduceLE, Int.reduceEq, Int.reduceNe, Int.reduceAdd, Int.reduceSub, Int.reduceNeg, Int.reduceToNat, Int.reduceMul, ↓reduceIte, Int.reduceGT, Int.reduceGE, f7, f8, f11, f12, h11, nb_one]
  refine callT_one hdp rfl ?_
  simp (disch := first | omega | (simp only [fsLen]; omega)) only [↓fsPre, fsPost, fsCond, fsGen, fsDefs, cls, eqVal, vbGen, fill_bits, reduceCtorEq, Nat.reduceAdd, Nat.reduceMul, Nat.reduceSub, Nat.reduceLT, Nat.reduceLeDiff, Nat.reduceEqDiff, Nat.reduceBEq, Nat.reduceBNe, Int.reduceLT, Int.reduceLE, Int.reduceEq, Int.reduceNe, Int.reduceAdd, Int.reduceSub, Int.reduceNeg, Int.reduceToNat, Int.reduceMul, ↓reduceIte, Int.reduceGT, Int.reduceGE, f7, f8, f11, f12, h11, nb_one, hne]
  refine ⟨⟨tx, sl, S, by omega, by omega⟩, k0, ?_, ?_, ?_, ?_, ?_, ?_, ?_, ?_, ?_⟩ <;> simp (disch := first | omega | (simp only [fsLen]; omega)) only [↓fsPre, fsPost, fsCond, fsGen, fsDefs, cls, eqVal, vbGen, fill_bits, reduceCtorEq, Nat.reduceAdd, Nat.reduceMul, Nat.reduceSub, Nat.reduceLT, Nat.reduceLeDiff, Nat.reduceEqDiff, Nat.reduceBEq, Nat.reduceBNe, Int.reduceLT, Int.reduceLE, Int.reduceEq, Int.reduceNe, Int.reduceAdd, Int.reduceSub, Int.reduceNeg, Int.reduceToNat, Int.reduceMul, ↓reduceIte, Int.reduceGT, Int.reduceGE]
end Go.Proofs
