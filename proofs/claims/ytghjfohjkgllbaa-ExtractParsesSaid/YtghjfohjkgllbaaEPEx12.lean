/- Extract: packets that are made of codes. -/
import Derived.Test.YtghjfohjkgllbaaVbD
import Derived.Test.YtghjfohjkgllbaaEPSchX
import Derived.Test.YtghjfohjkgllbaaEPValX
import Derived.Test.YtghjfohjkgllbaaVbC
set_option linter.unusedSimpArgs false
set_option linter.unusedVariables false
set_option maxRecDepth 10000
namespace Go.Proofs
open Go.Ns

def frameQ (H : Heap) (p n : Nat) (sl : NV) (k : Nat) (r : NV × Heap) : Prop := ∃ (b m : Nat) (d : Nat → BitVec 8), r.1 = .slice (some (b, 0)) m (.fix m) ∧ m ≤ k ∧ H.length ≤ b ∧ hget r.2 b = some (.cells (arrC m fun i => n8 (d i)) false) ∧ CodesSt H r.2 p n sl
theorem step_ok (H : Heap) (p : Nat) (sl : NV) (a : Int) (hp : hget H p = some (.cells [sl, .int .i64 a] false)) (ha : 0 ≤ a ∧ a ≤ 1000) : NCall Try.prog 50 [.ptr (some (p, 0))] H fun q => q = (.int .i64 (2 * a + 1), H) := by
  refine call_of E0 mixed t50_ok (by kernel_rfl) (by rintro q rfl; simp) ?_
  simp only [t50]
  simp (disch := first | omega | (simp only [fsLen]; omega)) only [↓fsPre, fsPost, fsCond, fsGen, fsDefs, fsDefX, cls, eqVal, reduceCtorEq, Nat.reduceAdd, Nat.reduceMul, Nat.reduceSub, Nat.reduceLT, Nat.reduceLeDiff, Nat.reduceEqDiff, Nat.reduceBEq, Nat.reduceBNe, Int.reduceLT, Int.reduceLE, Int.reduceEq, Int.reduceNe, Int.reduceAdd, Int.reduceSub, Int.reduceNeg, Int.reduceToNat, Int.reduceMul, ↓reduceIte, Int.reduceGT, Int.reduceGE, hp]
theorem wrap8_n8 (e : Int) : NV.int .u8 (IntKind.u8.wrap e) = n8 (BitVec.ofInt 8 e) := by
  rw [w8_mod, n8_of _ (by omega)]
  congr 1
  apply BitVec.eq_of_toNat_eq
  rw [BitVec.toNat_ofInt, BitVec.toNat_ofInt]
  omega

set_option maxHeartbeats 1000000 in
theorem cbytes_ok (H : Heap) (p n : Nat) (sl : NV) (hc : CodesSt H H p n sl) (hn : n ≤ 1000) (k : Nat) (hk : k ≤ 1000) : DCall Try.prog 30 [.ptr (some (p, 0)), .int .i64 k] H fun r => frameQ H p n sl k r ∧ ∃ b, r.1 = .slice (some (b, 0)) k (.fix k) := by
  obtain ⟨_, _, ⟨a0, hp, hb0, hb1⟩, hs⟩ := hc
  have hpl := hget_some_lt hp
  have hz : (List.replicate k [NV.int .u8 0]).flatten = arrC k fun _ => n8 0#8 := arrC_rep
  refine call_det E0 rfl mixed t30_ok (by kernel_rfl) (by rintro q ⟨⟨_, _, _, _, _, _, _, h⟩, _⟩; exact h.len) ?_
  simp only [t30]
  simp (disch := first | omega | (simp only [fsLen]; omega)) only [↓fsPre, fsPost, fsCond, fsGen, fsDefs, fsDefX, cls, eqVal, reduceCtorEq, Nat.reduceAdd, Nat.reduceMul, Nat.reduceSub, Nat.reduceLT, Nat.reduceLeDiff, Nat.reduceEqDiff, Nat.reduceBEq, Nat.reduceBNe, Int.reduceLT, Int.reduceLE, Int.reduceEq, Int.reduceNe, Int.reduceAdd, Int.reduceSub, Int.reduceNeg, Int.reduceToNat, Int.reduceMul, ↓reduceIte, Int.reduceGT, Int.reduceGE, hz]
  refine callT_D (next_ok _ p n 256 sl a0 (by simp (disch := first | omega | (simp only [fsLen]; omega)) only [↓fsPre, fsPost, fsCond, fsGen, fsDefs, fsDefX, cls, eqVal, reduceCtorEq, Nat.reduceAdd, Nat.reduceMul, Nat.reduceSub, Nat.reduceLT, Nat.reduceLeDiff, Nat.reduceEqDiff, Nat.reduceBEq, Nat.reduceBNe, Int.reduceLT, Int.reduceLE, Int.reduceEq, Int.reduceNe, Int.reduceAdd, Int.reduceSub, Int.reduceNeg, Int.reduceToNat, Int.reduceMul, ↓reduceIte, Int.reduceGT, Int.reduceGE, hp]) hs.app hb0 hb1 (by omega) (by omega)) rfl ?_
  rintro v h' ⟨x1, a1, e, x1a, x1b, hb0, hb1⟩
  cases e
  simp (disch := first | omega | (simp only [fsLen]; omega)) only [↓fsPre, fsPost, fsCond, fsGen, fsDefs, fsDefX, cls, eqVal, reduceCtorEq, Nat.reduceAdd, Nat.reduceMul, Nat.reduceSub, Nat.reduceLT, Nat.reduceLeDiff, Nat.reduceEqDiff, Nat.reduceBEq, Nat.reduceBNe, Int.reduceLT, Int.reduceLE, Int.reduceEq, Int.reduceNe, Int.reduceAdd, Int.reduceSub, Int.reduceNeg, Int.reduceToNat, Int.reduceMul, ↓reduceIte, Int.reduceGT, Int.reduceGE]
  refine wloop (fun j F h => F 0 = .ptr (some (p, 0)) ∧ F 5 = .slice (some (H.length, 0)) k (.fix k) ∧ F 6 = .int .i64 x1 ∧ F 13 = .int .i64 k ∧ F 14 = .int .i64 j ∧ ∃ d : Nat → BitVec 8, h = hset H p (.cells [sl, .int .i64 a1] false) ++ [some (.cells (arrC k fun i => n8 (d i)) false)]) k ?_ ?_ ?_
  · simp (disch := first | omega | (simp only [fsLen]; omega)) only [↓fsPre, fsPost, fsCond, fsGen, fsDefs, fsDefX, cls, eqVal, reduceCtorEq, Nat.reduceAdd, Nat.reduceMul, Nat.reduceSub, Nat.reduceLT, Nat.reduceLeDiff, Nat.reduceEqDiff, Nat.reduceBEq, Nat.reduceBNe, Int.reduceLT, Int.reduceLE, Int.reduceEq, Int.reduceNe, Int.reduceAdd, Int.reduceSub, Int.reduceNeg, Int.reduceToNat, Int.reduceMul, ↓reduceIte, Int.reduceGT, Int.reduceGE, hz]
    exact ⟨fun _ => 0#8, rfl⟩
  · rintro j F h hj ⟨f0, f5, f6, f13, f14, d, rfl⟩
    simp (disch := first | omega | (simp only [fsLen]; omega)) only [↓fsPre, fsPost, fsCond, fsGen, fsDefs, fsDefX, cls, eqVal, reduceCtorEq, Nat.reduceAdd, Nat.reduceMul, Nat.reduceSub, Nat.reduceLT, Nat.reduceLeDiff, Nat.reduceEqDiff, Nat.reduceBEq, Nat.reduceBNe, Int.reduceLT, Int.reduceLE, Int.reduceEq, Int.reduceNe, Int.reduceAdd, Int.reduceSub, Int.reduceNeg, Int.reduceToNat, Int.reduceMul, ↓reduceIte, Int.reduceGT, Int.reduceGE, f0, f5, f6, f13, f14]
    refine callT_one (step_ok _ p sl a1 (by simp (disch := first | omega | (simp only [fsLen]; omega)) only [↓fsPre, fsPost, fsCond, fsGen, fsDefs, fsDefX, cls, eqVal, reduceCtorEq, Nat.reduceAdd, Nat.reduceMul, Nat.reduceSub, Nat.reduceLT, Nat.reduceLeDiff, Nat.reduceEqDiff, Nat.reduceBEq, Nat.reduceBNe, Int.reduceLT, Int.reduceLE, Int.reduceEq, Int.reduceNe, Int.reduceAdd, Int.reduceSub, Int.reduceNeg, Int.reduceToNat, Int.reduceMul, ↓reduceIte, Int.reduceGT, Int.reduceGE, hp]) (by omega)) rfl ?_
    simp (disch := first | omega | (simp only [fsLen]; omega)) only [↓fsPre, fsPost, fsCond, fsGen, fsDefs, fsDefX, cls, eqVal, reduceCtorEq, Nat.reduceAdd, Nat.reduceMul, Nat.reduceSub, Nat.reduceLT, Nat.reduceLeDiff, Nat.reduceEqDiff, Nat.reduceBEq, Nat.reduceBNe, Int.reduceLT, Int.reduceLE, Int.reduceEq, Int.reduceNe, Int.reduceAdd, Int.reduceSub, Int.reduceNeg, Int.reduceToNat, Int.reduceMul, ↓reduceIte, Int.reduceGT, Int.reduceGE, f0, f5, f6, f13, f14, wrap8_n8, n8_one, n8_flat, n8_cells, arrC_length, arrC_splice]
    refine ⟨fun i => if i = j then BitVec.ofInt 8 (IntKind.i64.wrap (x1 + IntKind.i64.wrap ((j : Int) * (2 * a1 + 1)))) else d i, ?_⟩
    congr 4
    refine arrC_congr fun i hi => ?_
    simp only [updC]
    split <;> rfl
  · rintro F h ⟨f0, f5, f6, f13, f14, d, rfl⟩
    simp (disch := first | omega | (simp only [fsLen]; omega)) only [↓fsPre, fsPost, fsCond, fsGen, fsDefs, fsDefX, cls, eqVal, reduceCtorEq, Nat.reduceAdd, Nat.reduceMul, Nat.reduceSub, Nat.reduceLT, Nat.reduceLeDiff, Nat.reduceEqDiff, Nat.reduceBEq, Nat.reduceBNe, Int.reduceLT, Int.reduceLE, Int.reduceEq, Int.reduceNe, Int.reduceAdd, Int.reduceSub, Int.reduceNeg, Int.reduceToNat, Int.reduceMul, ↓reduceIte, Int.reduceGT, Int.reduceGE, f0, f5, f6, f13, f14]
    exact ⟨⟨H.length, k, d, rfl, Nat.le_refl _, Nat.le_refl _, by simp (disch := first | omega | (simp only [fsLen]; omega)) only [↓fsPre, fsPost, fsCond, fsGen, fsDefs, fsDefX, cls, eqVal, reduceCtorEq, Nat.reduceAdd, Nat.reduceMul, Nat.reduceSub, Nat.reduceLT, Nat.reduceLeDiff, Nat.reduceEqDiff, Nat.reduceBEq, Nat.reduceBNe, Int.reduceLT, Int.reduceLE, Int.reduceEq, Int.reduceNe, Int.reduceAdd, Int.reduceSub, Int.reduceNeg, Int.reduceToNat, Int.reduceMul, ↓reduceIte, Int.reduceGT, Int.reduceGE], CodesSt.mk' hpl hb0 hb1 hs⟩, _, rfl⟩

set_option maxHeartbeats 1000000 in
theorem frame_ok (H : Heap) (p n : Nat) (sl : NV) (hc : CodesSt H H p n sl) (hn : n ≤ 1000) : DCall Try.prog 9 [.ptr (some (p, 0))] H (frameQ H p n sl 14) := by
  obtain ⟨_, _, ⟨a0, hp, hb0, hb1⟩, hs⟩ := hc
  have hpl := hget_some_lt hp
  refine call_det E0 rfl mixed t9_ok (by kernel_rfl) (by rintro q ⟨_, _, _, _, _, _, _, h⟩; exact h.len) ?_
  simp only [t9]
  simp (disch := first | omega | (simp only [fsLen]; omega)) only [↓fsPre, fsPost, fsCond, fsGen, fsDefs, fsDefX, cls, eqVal, reduceCtorEq, Nat.reduceAdd, Nat.reduceMul, Nat.reduceSub, Nat.reduceLT, Nat.reduceLeDiff, Nat.reduceEqDiff, Nat.reduceBEq, Nat.reduceBNe, Int.reduceLT, Int.reduceLE, Int.reduceEq, Int.reduceNe, Int.reduceAdd, Int.reduceSub, Int.reduceNeg, Int.reduceToNat, Int.reduceMul, ↓reduceIte, Int.reduceGT, Int.reduceGE]
  refine callT_D (next_ok _ p n 14 sl a0 hp hs hb0 hb1 (by omega) (by omega)) rfl ?_
  rintro v h' ⟨x1, a1, e, x1a, x1b, hb0, hb1⟩
  cases e
  obtain ⟨k, rfl⟩ : ∃ k : Nat, x1 = k := ⟨x1.toNat, by omega⟩
  have hc1 : CodesSt H (hset H p (.cells [sl, .int .i64 a1] false)) p n sl := by have := CodesSt.mk' (L := []) hpl hb0 hb1 hs; rwa [List.append_nil] at this
  simp (disch := first | omega | (simp only [fsLen]; omega)) only [↓fsPre, fsPost, fsCond, fsGen, fsDefs, fsDefX, cls, eqVal, reduceCtorEq, Nat.reduceAdd, Nat.reduceMul, Nat.reduceSub, Nat.reduceLT, Nat.reduceLeDiff, Nat.reduceEqDiff, Nat.reduceBEq, Nat.reduceBNe, Int.reduceLT, Int.reduceLE, Int.reduceEq, Int.reduceNe, Int.reduceAdd, Int.reduceSub, Int.reduceNeg, Int.reduceToNat, Int.reduceMul, ↓reduceIte, Int.reduceGT, Int.reduceGE]
  refine callT_D (cbytes_ok _ p n sl hc1.self hn k (by omega)) rfl ?_
  rintro v h' ⟨⟨b, m, d, e, hm, hb, hbd, st⟩, b2, e2⟩
  simp only at e e2 hbd st
  subst e
  cases e2
  rw [length_hset] at hb
  have st2 : CodesSt H h' p n sl := hc1.trans st
  obtain ⟨_, _, ⟨a2, hp2, hb20, hb21⟩, hs2⟩ := st2
  have hpl2 := hget_some_lt hp2
  have hbl := hget_some_lt hbd
  by_cases h0 : k = 0
  · subst h0
    simp (disch := first | omega | (simp only [fsLen]; omega)) only [↓fsPre, fsPost, fsCond, fsGen, fsDefs, fsDefX, cls, eqVal, reduceCtorEq, Nat.reduceAdd, Nat.reduceMul, Nat.reduceSub, Nat.reduceLT, Nat.reduceLeDiff, Nat.reduceEqDiff, Nat.reduceBEq, Nat.reduceBNe, Int.reduceLT, Int.reduceLE, Int.reduceEq, Int.reduceNe, Int.reduceAdd, Int.reduceSub, Int.reduceNeg, Int.reduceToNat, Int.reduceMul, ↓reduceIte, Int.reduceGT, Int.reduceGE, nbool_undef, guardK_none]
    exact ⟨b, 0, d, rfl, by omega, hb, hbd, hc1.trans st⟩
  · have hk0 : (0 : Int) < k := by omega
    simp (disch := first | omega | (simp only [fsLen]; omega)) only [↓fsPre, fsPost, fsCond, fsGen, fsDefs, fsDefX, cls, eqVal, reduceCtorEq, Nat.reduceAdd, Nat.reduceMul, Nat.reduceSub, Nat.reduceLT, Nat.reduceLeDiff, Nat.reduceEqDiff, Nat.reduceBEq, Nat.reduceBNe, Int.reduceLT, Int.reduceLE, Int.reduceEq, Int.reduceNe, Int.reduceAdd, Int.reduceSub, Int.reduceNeg, Int.reduceToNat, Int.reduceMul, ↓reduceIte, Int.reduceGT, Int.reduceGE, decide_eq_true hk0]
    refine callT_D (bool_ok _ p n sl a2 hp2 hs2 hb20 hb21) rfl ?_
    rintro v g ⟨y, a3, e, hb30, hb31⟩
    cases e
    have st3 : CodesSt H (hset h' p (.cells [sl, .int .i64 a3] false)) p n sl := (hc1.trans st).trans (by have := CodesSt.mk' (L := []) hpl2 hb30 hb31 hs2; rwa [List.append_nil] at this)
    have hbp : b ≠ p := by omega
    have hbd' : hget (hset h' p (.cells [sl, .int .i64 a3] false)) b = some (.cells (arrC k fun i => n8 (d i)) false) := by rw [hget_hset_ne (Ne.symm hbp)]; exact hbd
    simp (disch := first | omega | (simp only [fsLen]; omega)) only [↓fsPre, fsPost, fsCond, fsGen, fsDefs, fsDefX, cls, eqVal, reduceCtorEq, Nat.reduceAdd, Nat.reduceMul, Nat.reduceSub, Nat.reduceLT, Nat.reduceLeDiff, Nat.reduceEqDiff, Nat.reduceBEq, Nat.reduceBNe, Int.reduceLT, Int.reduceLE, Int.reduceEq, Int.reduceNe, Int.reduceAdd, Int.reduceSub, Int.reduceNeg, Int.reduceToNat, Int.reduceMul, ↓reduceIte, Int.reduceGT, Int.reduceGE]
    refine condK_bool (fun hy => ?_) (fun hy => ?_)
    · have hg0 : (arrC k fun i => n8 (d i))[0]? = some (n8 (d 0)) := arrC_get (by omega)
      simp (disch := first | omega | (simp only [fsLen]; omega)) only [↓fsPre, fsPost, fsCond, fsGen, fsDefs, cls, eqVal, vbGen, fill_bits, reduceCtorEq, Nat.reduceAdd, Nat.reduceMul, Nat.reduceSub, Nat.reduceLT, Nat.reduceLeDiff, Nat.reduceEqDiff, Nat.reduceBEq, Nat.reduceBNe, Int.reduceLT, Int.reduceLE, Int.reduceEq, Int.reduceNe, Int.reduceAdd, Int.reduceSub, Int.reduceNeg, Int.reduceToNat, Int.reduceMul, ↓reduceIte, Int.reduceGT, Int.reduceGE, hbd, hbd', hg0, n8_and_c, n8_one, n8_flat]
      refine callDT_D (next_ok _ p n 4 sl a3 (by simp (disch := first | omega | (simp only [fsLen]; omega)) only [↓fsPre, fsPost, fsCond, fsGen, fsDefs, fsDefX, cls, eqVal, reduceCtorEq, Nat.reduceAdd, Nat.reduceMul, Nat.reduceSub, Nat.reduceLT, Nat.reduceLeDiff, Nat.reduceEqDiff, Nat.reduceBEq, Nat.reduceBNe, Int.reduceLT, Int.reduceLE, Int.reduceEq, Int.reduceNe, Int.reduceAdd, Int.reduceSub, Int.reduceNeg, Int.reduceToNat, Int.reduceMul, ↓reduceIte, Int.reduceGT, Int.reduceGE]) hs2.set.app hb30 hb31 (by omega) (by omega)) rfl ?_
      rintro v g ⟨x4, a4, e, x4a, x4b, hb40, hb41⟩
      cases e
      have hx4 : ([NV.int .i64 16, .int .i64 32, .int .i64 96, .int .i64 160] : List NV)[x4.toNat]? = some (.int .i64 ([16, 32, 96, 160].getD x4.toNat 0)) := by
        have : x4 = 0 ∨ x4 = 1 ∨ x4 = 2 ∨ x4 = 3 := by omega
        rcases this with rfl | rfl | rfl | rfl <;> rfl
      simp (disch := first | omega | (simp only [fsLen]; omega)) only [↓fsPre, fsPost, fsCond, fsGen, fsDefs, cls, eqVal, vbGen, fill_bits, reduceCtorEq, Nat.reduceAdd, Nat.reduceMul, Nat.reduceSub, Nat.reduceLT, Nat.reduceLeDiff, Nat.reduceEqDiff, Nat.reduceBEq, Nat.reduceBNe, Int.reduceLT, Int.reduceLE, Int.reduceEq, Int.reduceNe, Int.reduceAdd, Int.reduceSub, Int.reduceNeg, Int.reduceToNat, Int.reduceMul, ↓reduceIte, Int.reduceGT, Int.reduceGE, hbd, hbd', hg0, n8_and_c, n8_one, n8_flat, hx4, n8_cells, wrap8_n8, n8_or, arrC_length, arrC_splice]
      refine ⟨b, k, fun i => if i = 0 then d 0 &&& BitVec.ofInt 8 15 ||| BitVec.ofInt 8 ([16, 32, 96, 160].getD x4.toNat 0) else d i, rfl, by omega, hb, ?_, ?_⟩
      · show hget (hset (hset h' p _) b _ ++ _) b = _
        rw [hget_appl (by rw [length_hset, length_hset]; exact hbl), hget_hset_same (by rw [length_hset]; exact hbl)]
        congr 2
        refine arrC_congr fun i hi => ?_
        simp only [updC]
        split <;> rfl
      · have st4 : CodesSt H (hset h' p (.cells [sl, .int .i64 a4] false)) p n sl := (hc1.trans st).trans (by have := CodesSt.mk' (L := []) hpl2 hb40 hb41 hs2; rwa [List.append_nil] at this)
        exact (st4.setAt hs hb hbp).app0
    · simp (disch := first | omega | (simp only [fsLen]; omega)) only [↓fsPre, fsPost, fsCond, fsGen, fsDefs, fsDefX, cls, eqVal, reduceCtorEq, Nat.reduceAdd, Nat.reduceMul, Nat.reduceSub, Nat.reduceLT, Nat.reduceLeDiff, Nat.reduceEqDiff, Nat.reduceBEq, Nat.reduceBNe, Int.reduceLT, Int.reduceLE, Int.reduceEq, Int.reduceNe, Int.reduceAdd, Int.reduceSub, Int.reduceNeg, Int.reduceToNat, Int.reduceMul, ↓reduceIte, Int.reduceGT, Int.reduceGE]
      exact ⟨b, k, d, rfl, by omega, hb, hbd', st3⟩
end Go.Proofs
