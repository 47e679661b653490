/- Ex6, Ex7, Ex8, Ex9 in one text. -/
import Derived.Test.YtghjfohjkgllbaaEPExP
set_option linter.unusedSimpArgs false
set_option linter.unusedVariables false
set_option maxRecDepth 10000
namespace Go.Proofs
open Go.Ns

/-- Bytes that lie somewhere. -/
def BytesAt (h : Heap) (v : NV) (m : Nat) (d : Nat → BitVec 8) : Prop :=
  (m = 0 ∧ v = .slice none 0 (.fix 0)) ∨ ∃ b o c cs ro, v = .slice (some (b, o)) m c ∧ hget h b = some (.cells cs ro) ∧ cut cs o m = some (arrC m fun i => n8 (d i))
theorem BytesAt.one {h : Heap} {v : NV} {m : Nat} {d : Nat → BitVec 8} (x : BytesAt h v m d) : v.one = true := by
  rcases x with ⟨_, rfl⟩ | ⟨_, _, _, _, _, rfl, _⟩ <;> rfl
theorem BytesAt.mono {h h' : Heap} {v : NV} {m : Nat} {d : Nat → BitVec 8} (x : BytesAt h v m d) (e : ∀ b, b < h.length → hget h' b = hget h b) : BytesAt h' v m d := by
  rcases x with x | ⟨b, o, c, cs, ro, h1, h2, h3⟩
  · exact .inl x
  · exact .inr ⟨b, o, c, cs, ro, h1, by rw [e b (hget_lt h2)]; exact h2, h3⟩
/-- What is left of a packet of 'm' bytes behind 'o'. -/
def RestAt (h : Heap) (N : Nat) (v : NV) (m : Nat) (d : Nat → BitVec 8) (o : Nat) : Prop :=
  (m = 0 ∧ o = 0 ∧ ∃ a, v = .slice a 0 (.fix 0) ∧ ∀ b o, a = some (b, o) → N ≤ b) ∨ ∃ b, N ≤ b ∧ v = .slice (some (b, o)) (m - o) (.opn 1) ∧ o ≤ m ∧ hget h b = some (.cells (arrC m fun i => n8 (d i)) false)
theorem RestAt.one {h : Heap} {N : Nat} {v : NV} {m : Nat} {d : Nat → BitVec 8} {o : Nat} (x : RestAt h N v m d o) : v.one = true := by
  rcases x with ⟨_, _, _, rfl, _⟩ | ⟨_, _, rfl, _⟩ <;> rfl
theorem RestAt.flat {h : Heap} {N : Nat} {v : NV} {m : Nat} {d : Nat → BitVec 8} {o : Nat} (x : RestAt h N v m d o) : v.flat = true ∧ v.cells = [v] := by
  rcases x with ⟨_, _, _, rfl, _⟩ | ⟨_, _, rfl, _⟩ <;> exact ⟨rfl, rfl⟩
theorem RestAt.bytes {h : Heap} {N : Nat} {v : NV} {m : Nat} {d : Nat → BitVec 8} (x : RestAt h N v m d 0) (hn : v ≠ .slice none 0 (.fix 0) ∨ True) : (m = 0 ∧ ∃ a, v = .slice a 0 (.fix 0)) ∨ BytesAt h v m d := by
  rcases x with ⟨h1, _, a, h2, _⟩ | ⟨b, _, h2, _, h3⟩
  · exact .inl ⟨h1, a, h2⟩
  · exact .inr (.inr ⟨b, 0, _, _, _, h2, h3, by rw [arrC_cut (by omega)]; simp⟩)

theorem RestAt.keep {h h' : Heap} {N N' : Nat} {v : NV} {m : Nat} {d : Nat → BitVec 8} {o : Nat} (x : RestAt h N v m d o) (hn : N' ≤ N) (e : ∀ b, (∃ o n c, v = .slice (some (b, o)) n c) → hget h' b = hget h b) : RestAt h' N' v m d o := by
  rcases x with ⟨h1, h2, a, h3, h4⟩ | ⟨b, h1, h2, h3, h4⟩
  · exact .inl ⟨h1, h2, a, h3, fun b o e => Nat.le_trans hn (h4 b o e)⟩
  · exact .inr ⟨b, by omega, h2, h3, by rw [e b ⟨_, _, _, h2⟩]; exact h4⟩
theorem RestAt.low {h : Heap} {N : Nat} {v : NV} {m : Nat} {d : Nat → BitVec 8} {o : Nat} (x : RestAt h N v m d o) {b o' n : Nat} {c : Cap} (e : v = .slice (some (b, o')) n c) : N ≤ b := by
  rcases x with ⟨h1, h2, a, h3, h4⟩ | ⟨b', h1, h2, h3, h4⟩
  · rw [h3] at e; cases e; exact h4 _ _ rfl
  · rw [h2] at e; cases e; exact h1

theorem cloneV_ok (H : Heap) (b n : Nat) (c : Cap) (fl : List (BitVec 128)) (hb : hget H b = some (.cells (vals fl) false)) (hn : fl.length = n) (h0 : 0 < n) (h1 : n ≤ 1000) :
    NCall Try.prog 53 [.slice (some (b, 0)) n c] H fun r => r = (.slice (some (H.length, 0)) n (.opn 2), H ++ [some (.cells (vals fl) false)]) := by
  have hbl := hget_some_lt hb
  refine call_new1 E0 mixed t53_ok (fun b => .slice (some (b, 0)) n (.opn 2)) (.cells (vals fl) false) (by kernel_rfl) (fun g _ => rfl) vals_lo ?_
  simp only [t53]
  simp (disch := first | omega | (simp only [fsLen]; omega)) only [↓fsPre, fsPost, fsCond, fsGen, fsDefs, fsDefX, cls, eqVal, reduceCtorEq, Nat.reduceAdd, Nat.reduceMul, Nat.reduceSub, Nat.reduceLT, Nat.reduceLeDiff, Nat.reduceEqDiff, Nat.reduceBEq, Nat.reduceBNe, Int.reduceLT, Int.reduceLE, Int.reduceEq, Int.reduceNe, Int.reduceAdd, Int.reduceSub, Int.reduceNeg, Int.reduceToNat, Int.reduceMul, ↓reduceIte, Int.reduceGT, Int.reduceGE]
  refine app_fix (n := n) (new := vals fl) (sliceCells_at (by simp (disch := first | omega | (simp only [fsLen]; omega)) only [↓fsPre, fsPost, fsCond, fsGen, fsDefs, fsDefX, cls, eqVal, reduceCtorEq, Nat.reduceAdd, Nat.reduceMul, Nat.reduceSub, Nat.reduceLT, Nat.reduceLeDiff, Nat.reduceEqDiff, Nat.reduceBEq, Nat.reduceBNe, Int.reduceLT, Int.reduceLE, Int.reduceEq, Int.reduceNe, Int.reduceAdd, Int.reduceSub, Int.reduceNeg, Int.reduceToNat, Int.reduceMul, ↓reduceIte, Int.reduceGT, Int.reduceGE, hb] <;> rfl) (by unfold cut; rw [if_pos (by rw [vals_length]; omega)]; simp [List.take_of_length_le, vals_length, hn])) rfl (by omega) (by omega) (old := []) (by simp [sliceCells]) ?_
  simp (disch := first | omega | (simp only [fsLen]; omega)) only [↓fsPre, fsPost, fsCond, fsGen, fsDefs, fsDefX, cls, eqVal, reduceCtorEq, Nat.reduceAdd, Nat.reduceMul, Nat.reduceSub, Nat.reduceLT, Nat.reduceLeDiff, Nat.reduceEqDiff, Nat.reduceBEq, Nat.reduceBNe, Int.reduceLT, Int.reduceLE, Int.reduceEq, Int.reduceNe, Int.reduceAdd, Int.reduceSub, Int.reduceNeg, Int.reduceToNat, Int.reduceMul, ↓reduceIte, Int.reduceGT, Int.reduceGE]
  exact ⟨_, 1, rfl, rfl, rfl⟩
theorem cloneB_ok (H : Heap) (b n : Nat) (c : Cap) (vl : List Bool) (hb : hget H b = some (.cells (bools vl) false)) (hn : vl.length = n) (h0 : 0 < n) (h1 : n ≤ 1000) :
    NCall Try.prog 54 [.slice (some (b, 0)) n c] H fun r => r = (.slice (some (H.length, 0)) n (.opn 1), H ++ [some (.cells (bools vl) false)]) := by
  have hbl := hget_some_lt hb
  refine call_new1 E0 mixed t54_ok (fun b => .slice (some (b, 0)) n (.opn 1)) (.cells (bools vl) false) (by kernel_rfl) (fun g _ => rfl) bools_lo ?_
  simp only [t54]
  simp (disch := first | omega | (simp only [fsLen]; omega)) only [↓fsPre, fsPost, fsCond, fsGen, fsDefs, fsDefX, cls, eqVal, reduceCtorEq, Nat.reduceAdd, Nat.reduceMul, Nat.reduceSub, Nat.reduceLT, Nat.reduceLeDiff, Nat.reduceEqDiff, Nat.reduceBEq, Nat.reduceBNe, Int.reduceLT, Int.reduceLE, Int.reduceEq, Int.reduceNe, Int.reduceAdd, Int.reduceSub, Int.reduceNeg, Int.reduceToNat, Int.reduceMul, ↓reduceIte, Int.reduceGT, Int.reduceGE]
  refine app_fix (n := n) (new := bools vl) (sliceCells_at (by simp (disch := first | omega | (simp only [fsLen]; omega)) only [↓fsPre, fsPost, fsCond, fsGen, fsDefs, fsDefX, cls, eqVal, reduceCtorEq, Nat.reduceAdd, Nat.reduceMul, Nat.reduceSub, Nat.reduceLT, Nat.reduceLeDiff, Nat.reduceEqDiff, Nat.reduceBEq, Nat.reduceBNe, Int.reduceLT, Int.reduceLE, Int.reduceEq, Int.reduceNe, Int.reduceAdd, Int.reduceSub, Int.reduceNeg, Int.reduceToNat, Int.reduceMul, ↓reduceIte, Int.reduceGT, Int.reduceGE, hb] <;> rfl) (by unfold cut; rw [if_pos (by rw [bools_length]; omega)]; simp [List.take_of_length_le, bools_length, hn])) rfl (by omega) (by omega) (old := []) (by simp [sliceCells]) ?_
  simp (disch := first | omega | (simp only [fsLen]; omega)) only [↓fsPre, fsPost, fsCond, fsGen, fsDefs, fsDefX, cls, eqVal, reduceCtorEq, Nat.reduceAdd, Nat.reduceMul, Nat.reduceSub, Nat.reduceLT, Nat.reduceLeDiff, Nat.reduceEqDiff, Nat.reduceBEq, Nat.reduceBNe, Int.reduceLT, Int.reduceLE, Int.reduceEq, Int.reduceNe, Int.reduceAdd, Int.reduceSub, Int.reduceNeg, Int.reduceToNat, Int.reduceMul, ↓reduceIte, Int.reduceGT, Int.reduceGE]
  exact ⟨_, 1, rfl, rfl, rfl⟩
theorem cloneY_ok (H : Heap) (v : NV) (n : Nat) (d : Nat → BitVec 8) (hb : BytesAt H v n d ∨ n = 0 ∧ ∃ a, v = .slice a 0 (.fix 0)) (h1 : n ≤ 1000) :
    DCall Try.prog 31 [v] H fun r => (∃ L, r.2 = H ++ L) ∧ RestAt r.2 H.length r.1 n d 0 := by
  refine call_det E0 rfl mixed t31_ok (by kernel_rfl) (by rintro q ⟨⟨L, h⟩, _⟩; rw [h]; simp) ?_
  simp only [t31]
  rcases hb with (⟨rfl, rfl⟩ | ⟨b, o, c, cs, ro, rfl, hb, hc⟩) | ⟨rfl, a, rfl⟩
  · simp (disch := first | omega | (simp only [fsLen]; omega)) only [↓fsPre, fsPost, fsCond, fsGen, fsDefs, fsDefX, cls, eqVal, reduceCtorEq, Nat.reduceAdd, Nat.reduceMul, Nat.reduceSub, Nat.reduceLT, Nat.reduceLeDiff, Nat.reduceEqDiff, Nat.reduceBEq, Nat.reduceBNe, Int.reduceLT, Int.reduceLE, Int.reduceEq, Int.reduceNe, Int.reduceAdd, Int.reduceSub, Int.reduceNeg, Int.reduceToNat, Int.reduceMul, ↓reduceIte, Int.reduceGT, Int.reduceGE]
    exact ⟨⟨[], by simp⟩, .inl ⟨rfl, rfl, _, rfl, fun _ _ e => by cases e⟩⟩
  · have hbl := hget_some_lt hb
    simp (disch := first | omega | (simp only [fsLen]; omega)) only [↓fsPre, fsPost, fsCond, fsGen, fsDefs, fsDefX, cls, eqVal, reduceCtorEq, Nat.reduceAdd, Nat.reduceMul, Nat.reduceSub, Nat.reduceLT, Nat.reduceLeDiff, Nat.reduceEqDiff, Nat.reduceBEq, Nat.reduceBNe, Int.reduceLT, Int.reduceLE, Int.reduceEq, Int.reduceNe, Int.reduceAdd, Int.reduceSub, Int.reduceNeg, Int.reduceToNat, Int.reduceMul, ↓reduceIte, Int.reduceGT, Int.reduceGE]
    by_cases h0 : n = 0
    · subst h0
      refine app_fix0 (by simp [sliceCells]) rfl (by omega) ?_
      simp (disch := first | omega | (simp only [fsLen]; omega)) only [↓fsPre, fsPost, fsCond, fsGen, fsDefs, fsDefX, cls, eqVal, reduceCtorEq, Nat.reduceAdd, Nat.reduceMul, Nat.reduceSub, Nat.reduceLT, Nat.reduceLeDiff, Nat.reduceEqDiff, Nat.reduceBEq, Nat.reduceBNe, Int.reduceLT, Int.reduceLE, Int.reduceEq, Int.reduceNe, Int.reduceAdd, Int.reduceSub, Int.reduceNeg, Int.reduceToNat, Int.reduceMul, ↓reduceIte, Int.reduceGT, Int.reduceGE]
      exact ⟨⟨_, rfl⟩, .inl ⟨rfl, rfl, _, rfl, fun _ _ e => by cases e; exact Nat.le_refl _⟩⟩
    refine app_fix (n := n) (new := arrC n fun i => n8 (d i)) (sliceCells_at (by simp (disch := first | omega | (simp only [fsLen]; omega)) only [↓fsPre, fsPost, fsCond, fsGen, fsDefs, fsDefX, cls, eqVal, reduceCtorEq, Nat.reduceAdd, Nat.reduceMul, Nat.reduceSub, Nat.reduceLT, Nat.reduceLeDiff, Nat.reduceEqDiff, Nat.reduceBEq, Nat.reduceBNe, Int.reduceLT, Int.reduceLE, Int.reduceEq, Int.reduceNe, Int.reduceAdd, Int.reduceSub, Int.reduceNeg, Int.reduceToNat, Int.reduceMul, ↓reduceIte, Int.reduceGT, Int.reduceGE, hb] <;> rfl) (by rw [Nat.mul_one]; exact hc)) rfl (by omega) (by omega) (old := []) (by simp [sliceCells]) ?_
    simp (disch := first | omega | (simp only [fsLen]; omega)) only [↓fsPre, fsPost, fsCond, fsGen, fsDefs, fsDefX, cls, eqVal, reduceCtorEq, Nat.reduceAdd, Nat.reduceMul, Nat.reduceSub, Nat.reduceLT, Nat.reduceLeDiff, Nat.reduceEqDiff, Nat.reduceBEq, Nat.reduceBNe, Int.reduceLT, Int.reduceLE, Int.reduceEq, Int.reduceNe, Int.reduceAdd, Int.reduceSub, Int.reduceNeg, Int.reduceToNat, Int.reduceMul, ↓reduceIte, Int.reduceGT, Int.reduceGE]
    exact ⟨⟨_, rfl⟩, .inr ⟨_, by omega, rfl, by omega, by simp (disch := first | omega | (simp only [fsLen]; omega)) only [↓fsPre, fsPost, fsCond, fsGen, fsDefs, fsDefX, cls, eqVal, reduceCtorEq, Nat.reduceAdd, Nat.reduceMul, Nat.reduceSub, Nat.reduceLT, Nat.reduceLeDiff, Nat.reduceEqDiff, Nat.reduceBEq, Nat.reduceBNe, Int.reduceLT, Int.reduceLE, Int.reduceEq, Int.reduceNe, Int.reduceAdd, Int.reduceSub, Int.reduceNeg, Int.reduceToNat, Int.reduceMul, ↓reduceIte, Int.reduceGT, Int.reduceGE]⟩⟩
  · rcases a with _ | ⟨b, o⟩
    · simp (disch := first | omega | (simp only [fsLen]; omega)) only [↓fsPre, fsPost, fsCond, fsGen, fsDefs, fsDefX, cls, eqVal, reduceCtorEq, Nat.reduceAdd, Nat.reduceMul, Nat.reduceSub, Nat.reduceLT, Nat.reduceLeDiff, Nat.reduceEqDiff, Nat.reduceBEq, Nat.reduceBNe, Int.reduceLT, Int.reduceLE, Int.reduceEq, Int.reduceNe, Int.reduceAdd, Int.reduceSub, Int.reduceNeg, Int.reduceToNat, Int.reduceMul, ↓reduceIte, Int.reduceGT, Int.reduceGE]
      exact ⟨⟨[], by simp⟩, .inl ⟨rfl, rfl, _, rfl, fun _ _ e => by cases e⟩⟩
    · simp (disch := first | omega | (simp only [fsLen]; omega)) only [↓fsPre, fsPost, fsCond, fsGen, fsDefs, fsDefX, cls, eqVal, reduceCtorEq, Nat.reduceAdd, Nat.reduceMul, Nat.reduceSub, Nat.reduceLT, Nat.reduceLeDiff, Nat.reduceEqDiff, Nat.reduceBEq, Nat.reduceBNe, Int.reduceLT, Int.reduceLE, Int.reduceEq, Int.reduceNe, Int.reduceAdd, Int.reduceSub, Int.reduceNeg, Int.reduceToNat, Int.reduceMul, ↓reduceIte, Int.reduceGT, Int.reduceGE]
      refine app_fix0 (by simp [sliceCells]) rfl (by omega) ?_
      simp (disch := first | omega | (simp only [fsLen]; omega)) only [↓fsPre, fsPost, fsCond, fsGen, fsDefs, fsDefX, cls, eqVal, reduceCtorEq, Nat.reduceAdd, Nat.reduceMul, Nat.reduceSub, Nat.reduceLT, Nat.reduceLeDiff, Nat.reduceEqDiff, Nat.reduceBEq, Nat.reduceBNe, Int.reduceLT, Int.reduceLE, Int.reduceEq, Int.reduceNe, Int.reduceAdd, Int.reduceSub, Int.reduceNeg, Int.reduceToNat, Int.reduceMul, ↓reduceIte, Int.reduceGT, Int.reduceGE]
      exact ⟨⟨_, rfl⟩, .inl ⟨rfl, rfl, _, rfl, fun _ _ e => by cases e; exact Nat.le_refl _⟩⟩

/-- A context that lies in a heap, in blocks from N on. -/
def CxAt (A : XA) (h : Heap) (N : Nat) (m : Nat) (d : Nat → BitVec 8) (fl : List (BitVec 128)) (vl : List Bool) (o : Nat) (st : Int) (v : NV) : Prop :=
  ∃ bF bV cF cV vR, v = .agg (cxCells (.slice (some (bF, 0)) A.l.length cF) (.slice (some (bV, 0)) A.hl.length cV) vR st) ∧ N ≤ bF ∧ N ≤ bV ∧ bF ≠ bV ∧ hget h bF = some (.cells (vals fl) false) ∧ hget h bV = some (.cells (bools vl) false) ∧
    fl.length = A.l.length ∧ vl.length = A.hl.length ∧ RestAt h N vR m d o ∧ ∀ b o n c, vR = .slice (some (b, o)) n c → b ≠ bF ∧ b ≠ bV

set_option maxHeartbeats 1000000 in
theorem copied_ok (A : XA) (H : Heap) (N m : Nat) (d : Nat → BitVec 8) (fl : List (BitVec 128)) (vl : List Bool) (st : Int) (v : NV) (hc : CxAt A H N m d fl vl 0 st v) (h1 : 0 < A.l.length ∧ A.l.length ≤ 100 ∧ 0 < A.hl.length ∧ A.hl.length ≤ 100 ∧ m ≤ 1000) :
    DCall Try.prog 34 [v] H fun r => (∃ L, r.2 = H ++ L) ∧ CxAt A r.2 H.length m d fl vl 0 st r.1 := by
  obtain ⟨bF, bV, cF, cV, vR, rfl, _, _, _, hF, hV, lF, lV, hR, _⟩ := hc
  obtain ⟨k1, k2, k3, k4, k5⟩ := h1
  have lF' := hget_some_lt hF
  have lV' := hget_some_lt hV
  have oR := hR.one
  have hR' : BytesAt H vR m d ∨ m = 0 ∧ ∃ a, vR = .slice a 0 (.fix 0) := (hR.bytes (.inr trivial)).symm
  refine call_det E0 rfl mixed t34_ok (by kernel_rfl) (by rintro q ⟨⟨L, h⟩, _⟩; rw [h]; simp) ?_
  simp only [t34, cxCells]
  simp (disch := first | omega | (simp only [fsLen]; omega)) only [↓fsPre, fsPost, fsCond, fsGen, fsDefs, fsDefX, cls, eqVal, reduceCtorEq, Nat.reduceAdd, Nat.reduceMul, Nat.reduceSub, Nat.reduceLT, Nat.reduceLeDiff, Nat.reduceEqDiff, Nat.reduceBEq, Nat.reduceBNe, Int.reduceLT, Int.reduceLE, Int.reduceEq, Int.reduceNe, Int.reduceAdd, Int.reduceSub, Int.reduceNeg, Int.reduceToNat, Int.reduceMul, ↓reduceIte, Int.reduceGT, Int.reduceGE, oR]
  refine callDT_one (cloneV_ok _ bF _ cF fl (by simp (disch := first | omega | (simp only [fsLen]; omega)) only [↓fsPre, fsPost, fsCond, fsGen, fsDefs, fsDefX, cls, eqVal, reduceCtorEq, Nat.reduceAdd, Nat.reduceMul, Nat.reduceSub, Nat.reduceLT, Nat.reduceLeDiff, Nat.reduceEqDiff, Nat.reduceBEq, Nat.reduceBNe, Int.reduceLT, Int.reduceLE, Int.reduceEq, Int.reduceNe, Int.reduceAdd, Int.reduceSub, Int.reduceNeg, Int.reduceToNat, Int.reduceMul, ↓reduceIte, Int.reduceGT, Int.reduceGE, hF]) lF k1 (by omega)) rfl ?_
  simp (disch := first | omega | (simp only [fsLen]; omega)) only [↓fsPre, fsPost, fsCond, fsGen, fsDefs, fsDefX, cls, eqVal, reduceCtorEq, Nat.reduceAdd, Nat.reduceMul, Nat.reduceSub, Nat.reduceLT, Nat.reduceLeDiff, Nat.reduceEqDiff, Nat.reduceBEq, Nat.reduceBNe, Int.reduceLT, Int.reduceLE, Int.reduceEq, Int.reduceNe, Int.reduceAdd, Int.reduceSub, Int.reduceNeg, Int.reduceToNat, Int.reduceMul, ↓reduceIte, Int.reduceGT, Int.reduceGE, oR]
  refine callDT_one (cloneB_ok _ bV _ cV vl (by simp (disch := first | omega | (simp only [fsLen]; omega)) only [↓fsPre, fsPost, fsCond, fsGen, fsDefs, fsDefX, cls, eqVal, reduceCtorEq, Nat.reduceAdd, Nat.reduceMul, Nat.reduceSub, Nat.reduceLT, Nat.reduceLeDiff, Nat.reduceEqDiff, Nat.reduceBEq, Nat.reduceBNe, Int.reduceLT, Int.reduceLE, Int.reduceEq, Int.reduceNe, Int.reduceAdd, Int.reduceSub, Int.reduceNeg, Int.reduceToNat, Int.reduceMul, ↓reduceIte, Int.reduceGT, Int.reduceGE, hV]) lV k3 (by omega)) rfl ?_
  simp (disch := first | omega | (simp only [fsLen]; omega)) only [↓fsPre, fsPost, fsCond, fsGen, fsDefs, fsDefX, cls, eqVal, reduceCtorEq, Nat.reduceAdd, Nat.reduceMul, Nat.reduceSub, Nat.reduceLT, Nat.reduceLeDiff, Nat.reduceEqDiff, Nat.reduceBEq, Nat.reduceBNe, Int.reduceLT, Int.reduceLE, Int.reduceEq, Int.reduceNe, Int.reduceAdd, Int.reduceSub, Int.reduceNeg, Int.reduceToNat, Int.reduceMul, ↓reduceIte, Int.reduceGT, Int.reduceGE, oR]
  refine callDT_D (cloneY_ok _ vR m d (hR'.imp (fun x => x.mono fun b hb => by simp (disch := first | omega | (simp only [fsLen]; omega)) only [↓fsPre, fsPost, fsCond, fsGen, fsDefs, fsDefX, cls, eqVal, reduceCtorEq, Nat.reduceAdd, Nat.reduceMul, Nat.reduceSub, Nat.reduceLT, Nat.reduceLeDiff, Nat.reduceEqDiff, Nat.reduceBEq, Nat.reduceBNe, Int.reduceLT, Int.reduceLE, Int.reduceEq, Int.reduceNe, Int.reduceAdd, Int.reduceSub, Int.reduceNeg, Int.reduceToNat, Int.reduceMul, ↓reduceIte, Int.reduceGT, Int.reduceGE]) id) k5) rfl ?_
  rintro v h' ⟨⟨L, e⟩, hr⟩
  simp only at e hr
  subst e
  have ov := hr.one
  obtain ⟨of, oc⟩ := hr.flat
  simp (disch := first | omega | (simp only [fsLen]; omega)) only [↓fsPre, fsPost, fsCond, fsGen, fsDefs, fsDefX, cls, eqVal, reduceCtorEq, Nat.reduceAdd, Nat.reduceMul, Nat.reduceSub, Nat.reduceLT, Nat.reduceLeDiff, Nat.reduceEqDiff, Nat.reduceBEq, Nat.reduceBNe, Int.reduceLT, Int.reduceLE, Int.reduceEq, Int.reduceNe, Int.reduceAdd, Int.reduceSub, Int.reduceNeg, Int.reduceToNat, Int.reduceMul, ↓reduceIte, Int.reduceGT, Int.reduceGE, oR, ov, of, oc]
  simp only [List.length_append, List.length_cons, List.length_nil] at hr
  refine ⟨⟨_, rfl⟩, H.length + 2, H.length + 3, _, _, v, rfl, by omega, by omega, by omega, by simp (disch := first | omega | (simp only [fsLen]; omega)) only [↓fsPre, fsPost, fsCond, fsGen, fsDefs, fsDefX, cls, eqVal, reduceCtorEq, Nat.reduceAdd, Nat.reduceMul, Nat.reduceSub, Nat.reduceLT, Nat.reduceLeDiff, Nat.reduceEqDiff, Nat.reduceBEq, Nat.reduceBNe, Int.reduceLT, Int.reduceLE, Int.reduceEq, Int.reduceNe, Int.reduceAdd, Int.reduceSub, Int.reduceNeg, Int.reduceToNat, Int.reduceMul, ↓reduceIte, Int.reduceGT, Int.reduceGE], by simp (disch := first | omega | (simp only [fsLen]; omega)) only [↓fsPre, fsPost, fsCond, fsGen, fsDefs, fsDefX, cls, eqVal, reduceCtorEq, Nat.reduceAdd, Nat.reduceMul, Nat.reduceSub, Nat.reduceLT, Nat.reduceLeDiff, Nat.reduceEqDiff, Nat.reduceBEq, Nat.reduceBNe, Int.reduceLT, Int.reduceLE, Int.reduceEq, Int.reduceNe, Int.reduceAdd, Int.reduceSub, Int.reduceNeg, Int.reduceToNat, Int.reduceMul, ↓reduceIte, Int.reduceGT, Int.reduceGE], lF, lV, hr.keep (by omega) ?_, ?_⟩
  · rintro b ⟨o, n, c, e⟩
    have := hr.low e
    obtain ⟨q, rfl⟩ : ∃ q, b = H.length + 4 + q := ⟨b - (H.length + 4), by omega⟩
    simp (disch := first | omega | (simp only [fsLen]; omega)) only [↓fsPre, fsPost, fsCond, fsGen, fsDefs, fsDefX, cls, eqVal, reduceCtorEq, Nat.reduceAdd, Nat.reduceMul, Nat.reduceSub, Nat.reduceLT, Nat.reduceLeDiff, Nat.reduceEqDiff, Nat.reduceBEq, Nat.reduceBNe, Int.reduceLT, Int.reduceLE, Int.reduceEq, Int.reduceNe, Int.reduceAdd, Int.reduceSub, Int.reduceNeg, Int.reduceToNat, Int.reduceMul, ↓reduceIte, Int.reduceGT, Int.reduceGE]
    rw [Nat.add_comm 4 q]; rfl
  · intro b o n c e
    have := hr.low e
    omega

structure Cx where
  fl : List (BitVec 128)
  vl : List Bool
  o : Nat
  st : Nat
def XA.hdr (A : XA) (d : Nat → BitVec 8) (c : Cx) (k : Nat) : Cx := ⟨(A.run (fun i => d (c.o + i)) c.fl (A.hf k)).1, c.vl.set k true, c.o + A.sum (A.hf k) / 8, c.st⟩
def XA.fits (A : XA) (m : Nat) (c : Cx) (hd : Int) : Prop := hd = 0 ∨ A.sum (A.hf (A.hl.idxOf hd)) / 8 ≤ m - c.o
instance {A : XA} {m : Nat} {c : Cx} {hd : Int} : Decidable (A.fits m c hd) := by unfold XA.fits; infer_instance
def XA.ext (A : XA) (d : Nat → BitVec 8) (c : Cx) (hd : Int) : Cx := if hd = 0 then c else A.hdr d c (A.hl.idxOf hd)
def Cx.tick (c : Cx) : Cx := ⟨c.fl, c.vl, c.o, c.st + 1⟩
/-- What Parse comes to. -/
def XA.go (A : XA) (m : Nat) (d : Nat → BitVec 8) : Nat → Cx → Nat → Cx × Int
  | 0, c, _ => (c, 4)
  | k + 1, c, a => if A.fits m c.tick (A.sd a).hd then
      (let c2 := A.ext d c.tick (A.sd a).hd
       let id := A.next c2.fl (A.sd a)
       if id = 0 then (c2, 0) else if id = 65535 then (c2, 3) else A.go m d k c2 (A.sl.idxOf id))
    else (c.tick, 2)
def XA.parse (A : XA) (m : Nat) (d : Nat → BitVec 8) (c : Cx) : Cx × Int := if A.sl.length = 0 then (c, 0) else A.go m d (A.bud.toNat - c.st) c 0

structure CxP (A : XA) (h : Heap) (N p bF bV : Nat) (cF cV : Cap) (m : Nat) (d : Nat → BitVec 8) (c : Cx) : Prop where
  gp : p < N
  gF : N ≤ bF
  gV : N ≤ bV
  ne : bF ≠ bV
  hF : hget h bF = some (.cells (vals c.fl) false)
  hV : hget h bV = some (.cells (bools c.vl) false)
  lF : c.fl.length = A.l.length
  lV : c.vl.length = A.hl.length
  hp : ∃ vR, hget h p = some (.cells (cxCells (.slice (some (bF, 0)) A.l.length cF) (.slice (some (bV, 0)) A.hl.length cV) vR c.st) false) ∧ RestAt h N vR m d c.o ∧ ∀ b o n c, vR = .slice (some (b, o)) n c → b ≠ bF ∧ b ≠ bV

theorem CxP.keep {A : XA} {h h' : Heap} {N p bF bV : Nat} {cF cV : Cap} {m : Nat} {d : Nat → BitVec 8} {c : Cx} (x : CxP A h N p bF bV cF cV m d c) (e : ∀ b, b < h.length → hget h' b = hget h b) : CxP A h' N p bF bV cF cV m d c := by
  obtain ⟨vR, h1, h2, h3⟩ := x.hp
  refine ⟨x.gp, x.gF, x.gV, x.ne, by rw [e _ (hget_lt x.hF)]; exact x.hF, by rw [e _ (hget_lt x.hV)]; exact x.hV, x.lF, x.lV, vR, by rw [e _ (hget_lt h1)]; exact h1, ?_, h3⟩
  rcases h2 with h2 | ⟨b, h4, h5, h6, h7⟩
  · exact .inl h2
  · exact .inr ⟨b, h4, h5, h6, by rw [e _ (hget_lt h7)]; exact h7⟩

theorem XA.run_full (A : XA) (d : Nat → BitVec 8) (fl : List (BitVec 128)) (ids : List Int) : (A.run d fl ids).1.length = fl.length := by
  have := A.run_len d fl ids ids.length (Nat.le_refl _)
  rwa [List.take_length] at this

theorem header_D {A : XA} {H0 : Heap} {z0 z1 z2 z3 z4 z5 z6 z7 z8 z9 : NV} (x : XAt A H0 z0 z1 z2 z3 z4 z5 z6 z7 z8 z9) (H : Heap) (old : ∀ b, b < H0.length → hget H b = hget H0 b) {N p bF bV : Nat} {cF cV : Cap} {m : Nat} {d : Nat → BitVec 8} {c : Cx}
    (y : CxP A H N p bF bV cF cV m d c) (gp : H0.length ≤ p) (k : Nat) (hk : k < A.hl.length) (hm : m ≤ 1000) (hs : A.sum (A.hf k) / 8 ≤ m - c.o) :
    DCall Try.prog 35 [.agg [z0, z1, z2, z3, z4, z5, z6, z7, z8, z9], .ptr (some (p, 0)), .int .i64 k] H fun r => r.1 = .bool true ∧ r.2.length = H.length ∧ (∀ b, b ≠ p → b ≠ bF → b ≠ bV → hget r.2 b = hget H b) ∧ CxP A r.2 N p bF bV cF cV m d (A.hdr d c k) := by
  obtain ⟨g1, g2, g3, g4, hF, hV, lF, lV, vR, hp, hR, hsep⟩ := y
  have h8 := (x.ok.hf k hk).2.2.1
  rcases hR with ⟨h1, h2, _⟩ | ⟨b, h1, rfl, h3, h4⟩
  · exfalso; omega
  obtain ⟨n1, n2⟩ := hsep b c.o _ _ rfl
  have lp := hget_some_lt hp
  have lF' := hget_some_lt hF
  have lV' := hget_some_lt hV
  have lb := hget_some_lt h4
  refine ⟨_, _, header_ok x H old p bF bV b c.o m k cF cV c.st c.fl c.vl d gp (by omega) (by omega) (by omega) (by omega) (by omega) g4 (by omega) n1 n2 hp hF hV h4 lF lV hk h3 hm hs, rfl, by simp only [length_hset], fun b' e1 e2 e3 => ?_, ⟨g1, g2, g3, g4, ?_, ?_, ?_, ?_, .slice (some (b, c.o + A.sum (A.hf k) / 8)) (m - c.o - A.sum (A.hf k) / 8) (.opn 1), ?_, .inr ⟨b, h1, ?_, ?_, ?_⟩, ?_⟩⟩
  · show hget (hset (hset (hset H bF _) bV _) p _) b' = _
    rw [hget_hset_ne (Ne.symm e1), hget_hset_ne (Ne.symm e3), hget_hset_ne (Ne.symm e2)]
  · show hget (hset (hset (hset H bF _) bV _) p _) bF = _
    rw [hget_hset_ne (by omega), hget_hset_ne (Ne.symm g4), hget_hset_same lF']; rfl
  · show hget (hset (hset (hset H bF _) bV _) p _) bV = _
    rw [hget_hset_ne (by omega), hget_hset_same (by rw [length_hset]; exact lV')]; rfl
  · show (A.run _ _ _).1.length = _
    rw [A.run_full]; exact lF
  · show (c.vl.set k true).length = _
    rw [List.length_set]; exact lV
  · show hget (hset (hset (hset H bF _) bV _) p _) p = _
    rw [hget_hset_same (by rw [length_hset, length_hset]; exact lp)]; rfl
  · show NV.slice (some (b, c.o + A.sum (A.hf k) / 8)) (m - c.o - A.sum (A.hf k) / 8) (.opn 1) = .slice (some (b, c.o + A.sum (A.hf k) / 8)) (m - (c.o + A.sum (A.hf k) / 8)) (.opn 1)
    rw [Nat.sub_sub]
  · show c.o + A.sum (A.hf k) / 8 ≤ m
    omega
  · show hget (hset (hset (hset H bF _) bV _) p _) b = _
    rw [hget_hset_ne (by omega), hget_hset_ne (Ne.symm n2), hget_hset_ne (Ne.symm n1)]; exact h4
  · intro b' o' n' c' e
    cases e
    exact ⟨n1, n2⟩
theorem header_N {A : XA} {H0 : Heap} {z0 z1 z2 z3 z4 z5 z6 z7 z8 z9 : NV} (x : XAt A H0 z0 z1 z2 z3 z4 z5 z6 z7 z8 z9) (H : Heap) (old : ∀ b, b < H0.length → hget H b = hget H0 b) {N p bF bV : Nat} {cF cV : Cap} {m : Nat} {d : Nat → BitVec 8} {c : Cx}
    (y : CxP A H N p bF bV cF cV m d c) (gp : H0.length ≤ p) (k : Nat) (hk : k < A.hl.length) (hm : m ≤ 1000) (hs : ¬ A.sum (A.hf k) / 8 ≤ m - c.o) :
    NCall Try.prog 35 [.agg [z0, z1, z2, z3, z4, z5, z6, z7, z8, z9], .ptr (some (p, 0)), .int .i64 k] H fun r => r = (.bool false, H) := by
  obtain ⟨vR, hp, hR, hsep⟩ := y.hp
  rcases hR with ⟨h1, h2, a, rfl, _⟩ | ⟨b, h1, rfl, h3, h4⟩
  · exact header_short x H old p _ k _ _ _ _ _ gp hp hk (by omega) (by omega)
  · exact header_short x H old p _ k _ _ _ _ _ gp hp hk (by omega) (by omega)

theorem nextD {A : XA} {H : Heap} {z0 z1 z2 z3 z4 z5 z6 z7 z8 z9 : NV} (x : XAt A H z0 z1 z2 z3 z4 z5 z6 z7 z8 z9) {N p bF bV : Nat} {cF cV : Cap} {m : Nat} {d : Nat → BitVec 8} {c : Cx} (y : CxP A H N p bF bV cF cV m d c) (vR cv : NV) (id : Int) (s : XSt)
    (oR : vR.one = true) (hc : CasesAt H cv s.cases) (hs : s.sel = 0 ∨ s.sel ∈ A.l) (hl : s.cases.length ≤ 100) :
    NCall Try.prog 37 [.agg [z0, z1, z2, z3, z4, z5, z6, z7, z8, z9], .agg (cxCells (.slice (some (bF, 0)) A.l.length cF) (.slice (some (bV, 0)) A.hl.length cV) vR c.st), .agg [.int .i64 id, .int .i64 s.hd, .int .i64 s.sel, cv, .int .i64 s.dflt]] H
      fun r => r = (.int .i64 (A.next c.fl s), H) := by
  unfold XA.next
  by_cases h0 : s.sel = 0
  · rw [if_pos h0, h0]
    exact next0_ok x _ _ _ _ _ _ _ _ ⟨rfl, rfl, oR, hc.one⟩
  · rw [if_neg h0]
    exact next_ok' x bF cF _ _ _ _ _ _ _ _ _ _ ⟨rfl, oR⟩ y.hF y.lF (hs.resolve_left h0) h0 hc hl

theorem CxP.at {A : XA} {h : Heap} {N p bF bV : Nat} {cF cV : Cap} {m : Nat} {d : Nat → BitVec 8} {c : Cx} (y : CxP A h N p bF bV cF cV m d c) {M : Nat} (hM : M ≤ N) : ∃ vR, hget h p = some (.cells (cxCells (.slice (some (bF, 0)) A.l.length cF) (.slice (some (bV, 0)) A.hl.length cV) vR c.st) false) ∧ vR.one = true ∧
    ∀ h', (∀ b, N ≤ b → b < h.length → hget h' b = hget h b) → CxAt A h' M m d c.fl c.vl c.o c.st (.agg (cxCells (.slice (some (bF, 0)) A.l.length cF) (.slice (some (bV, 0)) A.hl.length cV) vR c.st)) := by
  obtain ⟨g1, g2, g3, g4, hF, hV, lF, lV, vR, hp, hR, hsep⟩ := y
  refine ⟨vR, hp, hR.one, fun h' e => ⟨bF, bV, cF, cV, vR, rfl, by omega, by omega, g4, by rw [e _ g2 (hget_lt hF)]; exact hF, by rw [e _ g3 (hget_lt hV)]; exact hV, lF, lV, ?_, hsep⟩⟩
  rcases hR with ⟨h1, h2, a, h3, h4⟩ | ⟨b, h4, h5, h6, h7⟩
  · exact .inl ⟨h1, h2, a, h3, fun b o e => Nat.le_trans hM (h4 b o e)⟩
  · exact .inr ⟨b, by omega, h5, h6, by rw [e _ h4 (hget_lt h7)]; exact h7⟩
theorem CxP.tick {A : XA} {h : Heap} {N p bF bV : Nat} {cF cV : Cap} {m : Nat} {d : Nat → BitVec 8} {c : Cx} (y : CxP A h N p bF bV cF cV m d c) {vR : NV} (e : hget h p = some (.cells (cxCells (.slice (some (bF, 0)) A.l.length cF) (.slice (some (bV, 0)) A.hl.length cV) vR c.st) false)) :
    CxP A (hset h p (.cells (cxCells (.slice (some (bF, 0)) A.l.length cF) (.slice (some (bV, 0)) A.hl.length cV) vR (c.tick.st)) false)) N p bF bV cF cV m d c.tick := by
  obtain ⟨g1, g2, g3, g4, hF, hV, lF, lV, vR', hp, hR, hsep⟩ := y
  have e2 := hp.symm.trans e
  simp only [Option.some.injEq, NBlk.cells.injEq, cxCells, List.cons.injEq, and_true, true_and] at e2
  subst e2
  refine ⟨g1, g2, g3, g4, by rw [hget_hset_ne (by omega)]; exact hF, by rw [hget_hset_ne (by omega)]; exact hV, lF, lV, vR', by rw [hget_hset_same (hget_lt hp)], ?_, hsep⟩
  rcases hR with h2 | ⟨b, h4, h5, h6, h7⟩
  · exact .inl h2
  · exact .inr ⟨b, h4, h5, h6, by rw [hget_hset_ne (by omega)]; exact h7⟩

theorem pick_mem {A : XA} {v : BitVec 128} {d : Int} (hd : d = 0 ∨ d = 65535 ∨ d ∈ A.sl) : ∀ {ks : List XCase}, (∀ c ∈ ks, c.next = 0 ∨ c.next = 65535 ∨ c.next ∈ A.sl) → pick v d ks = 0 ∨ pick v d ks = 65535 ∨ pick v d ks ∈ A.sl
  | [], _ => hd
  | c :: cs, h => by
    unfold pick
    split
    · exact h c (List.mem_cons_self ..)
    · exact pick_mem hd fun x hx => h x (List.mem_cons_of_mem _ hx)
theorem XA.next_mem {A : XA} (ok : A.OK) {a : Nat} (ha : a < A.sl.length) (fl : List (BitVec 128)) : A.next fl (A.sd a) = 0 ∨ A.next fl (A.sd a) = 65535 ∨ A.next fl (A.sd a) ∈ A.sl := by
  unfold XA.next
  split
  · exact ok.df a ha
  · exact pick_mem (ok.df a ha) (ok.nx a ha)

theorem tail3 {H L : Heap} {a b c a' b' c' : Option NBlk} {k : Nat} (hk : H.length + 3 ≤ k) : hget (H ++ a :: b :: c :: L) k = hget (H ++ [a', b', c'] ++ L) k := by
  obtain ⟨i, rfl⟩ : ∃ i, k = H.length + (i + 3) := ⟨k - (H.length + 3), by omega⟩
  unfold hget
  rw [List.getElem?_append_right (by omega), List.append_assoc, List.getElem?_append_right (by omega), Nat.add_sub_cancel_left]
  rfl

set_option maxHeartbeats 4000000 in
theorem parse_ok {A : XA} {H : Heap} {z0 z1 z2 z3 z4 z5 z6 z7 z8 z9 : NV} (x : XAt A H z0 z1 z2 z3 z4 z5 z6 z7 z8 z9) (N0 m : Nat) (d : Nat → BitVec 8) (fl : List (BitVec 128)) (vl : List Bool) (v : NV) (hc : CxAt A H N0 m d fl vl 0 0 v) (hm : m ≤ 1000) (hl : 0 < A.l.length ∧ 0 < A.hl.length) :
    DCall Try.prog 14 [.agg [z0, z1, z2, z3, z4, z5, z6, z7, z8, z9], v] H fun r => (∃ L, r.2 = H ++ L) ∧ ∃ w, r.1 = .tup [w, .int .i64 (A.parse m d ⟨fl, vl, 0, 0⟩).2] ∧
      CxAt A r.2 H.length m d (A.parse m d ⟨fl, vl, 0, 0⟩).1.fl (A.parse m d ⟨fl, vl, 0, 0⟩).1.vl (A.parse m d ⟨fl, vl, 0, 0⟩).1.o (A.parse m d ⟨fl, vl, 0, 0⟩).1.st w := by
  obtain ⟨o0, o1, o2, o3, o4, o5, o6, o7, o8, o9⟩ := x.ones
  have ok := x.ok
  have hcp := fun L => copied_ok A (H ++ L) 0 m d fl vl 0 v (by
    obtain ⟨bF, bV, cF, cV, vR, rfl, _, _, g, hF, hV, lF, lV, hR, hsep⟩ := hc
    exact ⟨bF, bV, cF, cV, vR, rfl, by omega, by omega, g, by rw [hget_appl (hget_lt hF)]; exact hF, by rw [hget_appl (hget_lt hV)]; exact hV, lF, lV, (by
      rcases hR with ⟨h1, h2, a, h3, h4⟩ | ⟨b, h4, h5, h6, h7⟩
      · exact .inl ⟨h1, h2, a, h3, fun b o e => Nat.zero_le _⟩
      · exact .inr ⟨b, by omega, h5, h6, by rw [hget_appl (hget_lt h7)]; exact h7⟩), hsep⟩) ⟨hl.1, ok.nl, hl.2, ok.nh, hm⟩
  have hv : ∃ a b c, v = .agg (cxCells a b c 0) ∧ a.one = true ∧ b.one = true ∧ c.one = true := by
    obtain ⟨bF, bV, cF, cV, vR, rfl, _, _, g, hF, hV, lF, lV, hR, hsep⟩ := hc
    exact ⟨_, _, _, rfl, rfl, rfl, hR.one⟩
  clear hc
  obtain ⟨wa, wb, wc, rfl, p1, p2, p3⟩ := hv
  refine call_det E0 rfl mixed t14_ok (by kernel_rfl) (by rintro q ⟨⟨L, h⟩, _⟩; rw [h]; simp) ?_
  simp only [t14, cxCells] at hcp ⊢
  simp (disch := first | omega | (simp only [fsLen]; omega)) only [↓fsPre, fsPost, fsCond, fsGen, fsDefs, fsDefX, cls, eqVal, reduceCtorEq, Nat.reduceAdd, Nat.reduceMul, Nat.reduceSub, Nat.reduceLT, Nat.reduceLeDiff, Nat.reduceEqDiff, Nat.reduceBEq, Nat.reduceBNe, Int.reduceLT, Int.reduceLE, Int.reduceEq, Int.reduceNe, Int.reduceAdd, Int.reduceSub, Int.reduceNeg, Int.reduceToNat, Int.reduceMul, ↓reduceIte, Int.reduceGT, Int.reduceGE, o0, o1, o2, o3, o4, o5, o6, o7, o8, o9, p1, p2, p3]
  refine callT_D (hcp _) rfl ?_
  rintro v h' ⟨⟨L, e⟩, hr⟩
  simp only at e hr
  subst e
  obtain ⟨bF, bV, cF, cV, vR, rfl, gF, gV, g, hF, hV, lF, lV, hR, hsep⟩ := hr
  have q3 := hR.one
  have hS := x.s
  obtain ⟨sa, sc, rfl, hS⟩ := hS
  simp only [List.length_append, List.length_cons, List.length_nil] at gF gV hR
  simp (disch := first | omega | (simp only [fsLen]; omega)) only [↓fsPre, fsPost, fsCond, fsGen, fsDefs, fsDefX, cls, eqVal, reduceCtorEq, Nat.reduceAdd, Nat.reduceMul, Nat.reduceSub, Nat.reduceLT, Nat.reduceLeDiff, Nat.reduceEqDiff, Nat.reduceBEq, Nat.reduceBNe, Int.reduceLT, Int.reduceLE, Int.reduceEq, Int.reduceNe, Int.reduceAdd, Int.reduceSub, Int.reduceNeg, Int.reduceToNat, Int.reduceMul, ↓reduceIte, Int.reduceGT, Int.reduceGE, q3, cxCells]
  refine condK_dec (fun he => ?_) (fun he => ?_)
  · simp (disch := first | omega | (simp only [fsLen]; omega)) only [↓fsPre, fsPost, fsCond, fsGen, fsDefs, fsDefX, cls, eqVal, reduceCtorEq, Nat.reduceAdd, Nat.reduceMul, Nat.reduceSub, Nat.reduceLT, Nat.reduceLeDiff, Nat.reduceEqDiff, Nat.reduceBEq, Nat.reduceBNe, Int.reduceLT, Int.reduceLE, Int.reduceEq, Int.reduceNe, Int.reduceAdd, Int.reduceSub, Int.reduceNeg, Int.reduceToNat, Int.reduceMul, ↓reduceIte, Int.reduceGT, Int.reduceGE, q3, cxCells]
    have hp : A.parse m d ⟨fl, vl, 0, 0⟩ = (⟨fl, vl, 0, 0⟩, 0) := by unfold XA.parse; rw [if_pos (by omega)]
    rw [hp]
    refine ⟨⟨_, rfl⟩, _, rfl, bF, bV, cF, cV, vR, rfl, by omega, by omega, g, by rw [← hF]; exact tail3 gF, by rw [← hV]; exact tail3 gV, lF, lV, hR.keep (by omega) ?_, hsep⟩
    rintro b ⟨o, n, c, e⟩
    exact tail3 (hR.low e)
  · have hs0 : 0 < A.sl.length := by omega
    obtain ⟨bS, csS, roS, rfl, hbS, hrS⟩ := hS hs0
    have lS := hget_some_lt hbS
    have hz9 := x.b
    subst hz9
    simp (disch := first | omega | (simp only [fsLen]; omega)) only [↓fsPre, fsPost, fsCond, fsGen, fsDefs, fsDefX, cls, eqVal, reduceCtorEq, Nat.reduceAdd, Nat.reduceMul, Nat.reduceSub, Nat.reduceLT, Nat.reduceLeDiff, Nat.reduceEqDiff, Nat.reduceBEq, Nat.reduceBNe, Int.reduceLT, Int.reduceLE, Int.reduceEq, Int.reduceNe, Int.reduceAdd, Int.reduceSub, Int.reduceNeg, Int.reduceToNat, Int.reduceMul, ↓reduceIte, Int.reduceGT, Int.reduceGE, q3, cxCells]
    have hp : A.parse m d ⟨fl, vl, 0, 0⟩ = A.go m d A.bud.toNat ⟨fl, vl, 0, 0⟩ 0 := by unfold XA.parse; rw [if_neg (by omega)]; rfl
    rw [hp]
    generalize hR0 : A.go m d A.bud.toNat ⟨fl, vl, 0, 0⟩ 0 = R
    have fin : ∀ (G : Heap) (c : Cx) (vR : NV) (r : Int), H.length + 3 ≤ G.length → (∀ b, b < H.length → hget G b = hget H b) →
        (∀ h', (∀ b, H.length + 3 ≤ b → b < G.length → hget h' b = hget G b) → CxAt A h' H.length m d c.fl c.vl c.o c.st (.agg (cxCells (.slice (some (bF, 0)) A.l.length cF) (.slice (some (bV, 0)) A.hl.length cV) vR c.st))) → (c, r) = R →
        (∃ L, hset G (H.length + 2) (.cells [.slice (some (bF, 0)) A.l.length cF, .slice (some (bV, 0)) A.hl.length cV, vR, .int .i64 c.st, .bool false] false) = H ++ L) ∧
        ∃ w, NV.tup [.agg [.slice (some (bF, 0)) A.l.length cF, .slice (some (bV, 0)) A.hl.length cV, vR, .int .i64 c.st, .bool false], .int .i64 r] = .tup [w, .int .i64 R.2] ∧
          CxAt A (hset G (H.length + 2) (.cells [.slice (some (bF, 0)) A.l.length cF, .slice (some (bV, 0)) A.hl.length cV, vR, .int .i64 c.st, .bool false] false)) H.length m d R.1.fl R.1.vl R.1.o R.1.st w := by
      rintro G c vR r h1 h2 h3 rfl
      refine ⟨heap_grow (by rw [length_hset]; omega) fun b hb => by rw [hget_hset_ne (by omega)]; exact h2 b hb, _, rfl, h3 _ fun b k1 k2 => by rw [hget_hset_ne (by omega)]⟩
    refine wloopm (fun k F h => ∃ (c : Cx) (a : Nat), F 2 = .ptr (some (H.length, 0)) ∧ F 3 = .ptr (some (H.length + 1, 0)) ∧ F 4 = .ptr (some (H.length + 2, 0)) ∧ F 6 = .int .i64 0 ∧ F 7 = .int .i64 a ∧ a < A.sl.length ∧ H.length + 3 ≤ h.length ∧
      (∀ b, b < H.length → hget h b = hget H b) ∧ hget h H.length = some (.cells [z0, z1, .slice (some (bS, 0)) A.sl.length sc, z3, z4, z5, z6, z7, z8, .int .i64 A.bud] false) ∧
      hget h (H.length + 2) = some (.cells (cxCells (.slice none 0 (.fix 0)) (.slice none 0 (.fix 0)) (.slice none 0 (.fix 0)) 0) false) ∧ CxP A h (H.length + 3) (H.length + 1) bF bV cF cV m d c ∧ (c.st : Int) + k = A.bud ∧ A.go m d k c a = R) A.bud.toNat ?_ ?_
    · refine ⟨⟨fl, vl, 0, 0⟩, 0, ?_⟩
      simp (disch := first | omega | (simp only [fsLen]; omega)) only [↓fsPre, fsPost, fsCond, fsGen, fsDefs, fsDefX, cls, eqVal, reduceCtorEq, Nat.reduceAdd, Nat.reduceMul, Nat.reduceSub, Nat.reduceLT, Nat.reduceLeDiff, Nat.reduceEqDiff, Nat.reduceBEq, Nat.reduceBNe, Int.reduceLT, Int.reduceLE, Int.reduceEq, Int.reduceNe, Int.reduceAdd, Int.reduceSub, Int.reduceNeg, Int.reduceToNat, Int.reduceMul, ↓reduceIte, Int.reduceGT, Int.reduceGE, cxCells]
      refine ⟨hs0, fun b hb => by simp (disch := first | omega | (simp only [fsLen]; omega)) only [↓fsPre, fsPost, fsCond, fsGen, fsDefs, fsDefX, cls, eqVal, reduceCtorEq, Nat.reduceAdd, Nat.reduceMul, Nat.reduceSub, Nat.reduceLT, Nat.reduceLeDiff, Nat.reduceEqDiff, Nat.reduceBEq, Nat.reduceBNe, Int.reduceLT, Int.reduceLE, Int.reduceEq, Int.reduceNe, Int.reduceAdd, Int.reduceSub, Int.reduceNeg, Int.reduceToNat, Int.reduceMul, ↓reduceIte, Int.reduceGT, Int.reduceGE], ⟨by omega, by omega, by omega, g, by rw [← hF]; exact tail3 gF, by rw [← hV]; exact tail3 gV, lF, lV, vR, by simp (disch := first | omega | (simp only [fsLen]; omega)) only [↓fsPre, fsPost, fsCond, fsGen, fsDefs, fsDefX, cls, eqVal, reduceCtorEq, Nat.reduceAdd, Nat.reduceMul, Nat.reduceSub, Nat.reduceLT, Nat.reduceLeDiff, Nat.reduceEqDiff, Nat.reduceBEq, Nat.reduceBNe, Int.reduceLT, Int.reduceLE, Int.reduceEq, Int.reduceNe, Int.reduceAdd, Int.reduceSub, Int.reduceNeg, Int.reduceToNat, Int.reduceMul, ↓reduceIte, Int.reduceGT, Int.reduceGE, cxCells], hR.keep (by omega) ?_, hsep⟩, by have := ok.bud; omega, hR0⟩
      rintro b ⟨o, n, c, e⟩
      exact tail3 (hR.low e)
    · rintro k F h ⟨c, a, f2, f3, f4, f6, f7, ha, hlen, hold, b0, b2, hP, hst, hgo⟩
      obtain ⟨vR', e1, ov, hat⟩ := hP.at (M := H.length) (by omega)
      have e1' := e1
      unfold cxCells at e1 b2
      have hbud := ok.bud
      cases k with
      | zero =>
        simp (disch := first | omega | (simp only [fsLen]; omega)) only [↓fsPre, fsPost, fsCond, fsGen, fsDefs, fsDefX, cls, eqVal, reduceCtorEq, Nat.reduceAdd, Nat.reduceMul, Nat.reduceSub, Nat.reduceLT, Nat.reduceLeDiff, Nat.reduceEqDiff, Nat.reduceBEq, Nat.reduceBNe, Int.reduceLT, Int.reduceLE, Int.reduceEq, Int.reduceNe, Int.reduceAdd, Int.reduceSub, Int.reduceNeg, Int.reduceToNat, Int.reduceMul, ↓reduceIte, Int.reduceGT, Int.reduceGE, f2, f3, f4, f6, f7, b0, b2, e1, ov]
        exact fin h c vR' 4 hlen hold hat hgo
      | succ k =>
        obtain ⟨cv, hcut, hcases⟩ := hrS a ha
        have hbS' := (hold _ lS).trans hbS
        have ocv := hcases.one
        have lp := hget_some_lt e1
        have htk : ((c.st : Int) + 1) = (c.tick.st : Int) := by show _ = ((c.st + 1 : Nat) : Int); omega
        have hPt := (hP.tick e1').keep (h' := hset h (H.length + 1) (.cells (cxCells (.slice (some (bF, 0)) A.l.length cF) (.slice (some (bV, 0)) A.hl.length cV) vR' (c.tick.st)) false) ++
          [some (.cells [.int .i64 A.sl[a], .int .i64 (A.sd a).hd, .int .i64 (A.sd a).sel, cv, .int .i64 (A.sd a).dflt] false)]) fun b hb => hget_appl hb
        unfold cxCells at hPt
        unfold XA.go at hgo
        simp (disch := first | omega | (simp only [fsLen]; omega)) only [↓fsPre, fsPost, fsCond, fsGen, fsDefs, fsDefX, cls, eqVal, reduceCtorEq, Nat.reduceAdd, Nat.reduceMul, Nat.reduceSub, Nat.reduceLT, Nat.reduceLeDiff, Nat.reduceEqDiff, Nat.reduceBEq, Nat.reduceBNe, Int.reduceLT, Int.reduceLE, Int.reduceEq, Int.reduceNe, Int.reduceAdd, Int.reduceSub, Int.reduceNeg, Int.reduceToNat, Int.reduceMul, ↓reduceIte, Int.reduceGT, Int.reduceGE, f2, f3, f4, f6, f7, b0, b2, e1, ov, hbS', hcut, ocv, htk]
        by_cases hd0 : (A.sd a).hd = 0
        · have hfit : A.fits m c.tick (A.sd a).hd := .inl hd0
          rw [if_pos hfit, show A.ext d c.tick (A.sd a).hd = c.tick from if_pos hd0] at hgo
          have hdd : decide (¬ (A.sd a).hd = 0) = false := decide_eq_false (fun e => e hd0)
          simp (disch := first | omega | (simp only [fsLen]; omega)) only [↓fsPre, fsPost, fsCond, fsGen, fsDefs, fsDefX, cls, eqVal, reduceCtorEq, Nat.reduceAdd, Nat.reduceMul, Nat.reduceSub, Nat.reduceLT, Nat.reduceLeDiff, Nat.reduceEqDiff, Nat.reduceBEq, Nat.reduceBNe, Int.reduceLT, Int.reduceLE, Int.reduceEq, Int.reduceNe, Int.reduceAdd, Int.reduceSub, Int.reduceNeg, Int.reduceToNat, Int.reduceMul, ↓reduceIte, Int.reduceGT, Int.reduceGE, f2, f3, f4, f6, f7, b0, b2, e1, ov, hbS', hcut, ocv, hdd, nbool_undef, guardK_none]
          obtain ⟨vR2, q1, q2, q3⟩ := hPt.at (M := H.length) (by omega)
          have e3 : vR2 = vR' := by
            have := q1.symm.trans (by simp (disch := first | omega | (simp only [fsLen]; omega)) only [↓fsPre, fsPost, fsCond, fsGen, fsDefs, fsDefX, cls, eqVal, reduceCtorEq, Nat.reduceAdd, Nat.reduceMul, Nat.reduceSub, Nat.reduceLT, Nat.reduceLeDiff, Nat.reduceEqDiff, Nat.reduceBEq, Nat.reduceBNe, Int.reduceLT, Int.reduceLE, Int.reduceEq, Int.reduceNe, Int.reduceAdd, Int.reduceSub, Int.reduceNeg, Int.reduceToNat, Int.reduceMul, ↓reduceIte, Int.reduceGT, Int.reduceGE, cxCells] <;> rfl)
            simpa [cxCells] using this
          subst e3
          refine callT_one (nextD (x.mono fun b hb => by simp (disch := first | omega | (simp only [fsLen]; omega)) only [↓fsPre, fsPost, fsCond, fsGen, fsDefs, fsDefX, cls, eqVal, reduceCtorEq, Nat.reduceAdd, Nat.reduceMul, Nat.reduceSub, Nat.reduceLT, Nat.reduceLeDiff, Nat.reduceEqDiff, Nat.reduceBEq, Nat.reduceBNe, Int.reduceLT, Int.reduceLE, Int.reduceEq, Int.reduceNe, Int.reduceAdd, Int.reduceSub, Int.reduceNeg, Int.reduceToNat, Int.reduceMul, ↓reduceIte, Int.reduceGT, Int.reduceGE]; exact hold b hb) hPt _ _ _ (A.sd a) ov (hcases.mono fun b hb => by simp (disch := first | omega | (simp only [fsLen]; omega)) only [↓fsPre, fsPost, fsCond, fsGen, fsDefs, fsDefX, cls, eqVal, reduceCtorEq, Nat.reduceAdd, Nat.reduceMul, Nat.reduceSub, Nat.reduceLT, Nat.reduceLeDiff, Nat.reduceEqDiff, Nat.reduceBEq, Nat.reduceBNe, Int.reduceLT, Int.reduceLE, Int.reduceEq, Int.reduceNe, Int.reduceAdd, Int.reduceSub, Int.reduceNeg, Int.reduceToNat, Int.reduceMul, ↓reduceIte, Int.reduceGT, Int.reduceGE]; exact hold b hb) (ok.sel a ha) (ok.cl a ha)) rfl ?_
          dsimp only at hgo
          have hnm := XA.next_mem ok ha c.tick.fl
          generalize hid : A.next c.tick.fl (A.sd a) = id at *
          simp (disch := first | omega | (simp only [fsLen]; omega)) only [↓fsPre, fsPost, fsCond, fsGen, fsDefs, fsDefX, cls, eqVal, reduceCtorEq, Nat.reduceAdd, Nat.reduceMul, Nat.reduceSub, Nat.reduceLT, Nat.reduceLeDiff, Nat.reduceEqDiff, Nat.reduceBEq, Nat.reduceBNe, Int.reduceLT, Int.reduceLE, Int.reduceEq, Int.reduceNe, Int.reduceAdd, Int.reduceSub, Int.reduceNeg, Int.reduceToNat, Int.reduceMul, ↓reduceIte, Int.reduceGT, Int.reduceGE, f2, f3, f4, f6, f7, b0, b2, e1, ov, hbS', hcut, ocv]
          refine condK_dec (fun hz => ?_) (fun hz => ?_)
          · simp (disch := first | omega | (simp only [fsLen]; omega)) only [↓fsPre, fsPost, fsCond, fsGen, fsDefs, fsDefX, cls, eqVal, reduceCtorEq, Nat.reduceAdd, Nat.reduceMul, Nat.reduceSub, Nat.reduceLT, Nat.reduceLeDiff, Nat.reduceEqDiff, Nat.reduceBEq, Nat.reduceBNe, Int.reduceLT, Int.reduceLE, Int.reduceEq, Int.reduceNe, Int.reduceAdd, Int.reduceSub, Int.reduceNeg, Int.reduceToNat, Int.reduceMul, ↓reduceIte, Int.reduceGT, Int.reduceGE, f2, f3, f4, f6, f7, b0, b2, e1, ov, hbS', hcut, ocv]
            rw [if_pos hz] at hgo
            rw [← hset_appl (by rw [length_hset]; omega)]
            exact fin _ c.tick vR2 0 (by simp (disch := first | omega | (simp only [fsLen]; omega)) only [↓fsPre, fsPost, fsCond, fsGen, fsDefs, fsDefX, cls, eqVal, reduceCtorEq, Nat.reduceAdd, Nat.reduceMul, Nat.reduceSub, Nat.reduceLT, Nat.reduceLeDiff, Nat.reduceEqDiff, Nat.reduceBEq, Nat.reduceBNe, Int.reduceLT, Int.reduceLE, Int.reduceEq, Int.reduceNe, Int.reduceAdd, Int.reduceSub, Int.reduceNeg, Int.reduceToNat, Int.reduceMul, ↓reduceIte, Int.reduceGT, Int.reduceGE]; omega) (fun b hb => by simp (disch := first | omega | (simp only [fsLen]; omega)) only [↓fsPre, fsPost, fsCond, fsGen, fsDefs, fsDefX, cls, eqVal, reduceCtorEq, Nat.reduceAdd, Nat.reduceMul, Nat.reduceSub, Nat.reduceLT, Nat.reduceLeDiff, Nat.reduceEqDiff, Nat.reduceBEq, Nat.reduceBNe, Int.reduceLT, Int.reduceLE, Int.reduceEq, Int.reduceNe, Int.reduceAdd, Int.reduceSub, Int.reduceNeg, Int.reduceToNat, Int.reduceMul, ↓reduceIte, Int.reduceGT, Int.reduceGE]; exact hold b hb) q3 hgo
          · simp (disch := first | omega | (simp only [fsLen]; omega)) only [↓fsPre, fsPost, fsCond, fsGen, fsDefs, fsDefX, cls, eqVal, reduceCtorEq, Nat.reduceAdd, Nat.reduceMul, Nat.reduceSub, Nat.reduceLT, Nat.reduceLeDiff, Nat.reduceEqDiff, Nat.reduceBEq, Nat.reduceBNe, Int.reduceLT, Int.reduceLE, Int.reduceEq, Int.reduceNe, Int.reduceAdd, Int.reduceSub, Int.reduceNeg, Int.reduceToNat, Int.reduceMul, ↓reduceIte, Int.reduceGT, Int.reduceGE, f2, f3, f4, f6, f7, b0, b2, e1, ov, hbS', hcut, ocv]
            rw [if_neg hz] at hgo
            refine condK_dec (fun hw => ?_) (fun hw => ?_)
            · simp (disch := first | omega | (simp only [fsLen]; omega)) only [↓fsPre, fsPost, fsCond, fsGen, fsDefs, fsDefX, cls, eqVal, reduceCtorEq, Nat.reduceAdd, Nat.reduceMul, Nat.reduceSub, Nat.reduceLT, Nat.reduceLeDiff, Nat.reduceEqDiff, Nat.reduceBEq, Nat.reduceBNe, Int.reduceLT, Int.reduceLE, Int.reduceEq, Int.reduceNe, Int.reduceAdd, Int.reduceSub, Int.reduceNeg, Int.reduceToNat, Int.reduceMul, ↓reduceIte, Int.reduceGT, Int.reduceGE, f2, f3, f4, f6, f7, b0, b2, e1, ov, hbS', hcut, ocv]
              rw [if_pos hw] at hgo
              rw [← hset_appl (by rw [length_hset]; omega)]
              exact fin _ c.tick vR2 3 (by simp (disch := first | omega | (simp only [fsLen]; omega)) only [↓fsPre, fsPost, fsCond, fsGen, fsDefs, fsDefX, cls, eqVal, reduceCtorEq, Nat.reduceAdd, Nat.reduceMul, Nat.reduceSub, Nat.reduceLT, Nat.reduceLeDiff, Nat.reduceEqDiff, Nat.reduceBEq, Nat.reduceBNe, Int.reduceLT, Int.reduceLE, Int.reduceEq, Int.reduceNe, Int.reduceAdd, Int.reduceSub, Int.reduceNeg, Int.reduceToNat, Int.reduceMul, ↓reduceIte, Int.reduceGT, Int.reduceGE]; omega) (fun b hb => by simp (disch := first | omega | (simp only [fsLen]; omega)) only [↓fsPre, fsPost, fsCond, fsGen, fsDefs, fsDefX, cls, eqVal, reduceCtorEq, Nat.reduceAdd, Nat.reduceMul, Nat.reduceSub, Nat.reduceLT, Nat.reduceLeDiff, Nat.reduceEqDiff, Nat.reduceBEq, Nat.reduceBNe, Int.reduceLT, Int.reduceLE, Int.reduceEq, Int.reduceNe, Int.reduceAdd, Int.reduceSub, Int.reduceNeg, Int.reduceToNat, Int.reduceMul, ↓reduceIte, Int.reduceGT, Int.reduceGE]; exact hold b hb) q3 hgo
            · rw [if_neg hw] at hgo
              have hmem2 := (hnm.resolve_left hz).resolve_left hw
              have hix2 := ixI_mem hmem2
              have hlt2 := List.idxOf_lt_length_of_mem hmem2
              simp (disch := first | omega | (simp only [fsLen]; omega)) only [↓fsPre, fsPost, fsCond, fsGen, fsDefs, fsDefX, cls, eqVal, reduceCtorEq, Nat.reduceAdd, Nat.reduceMul, Nat.reduceSub, Nat.reduceLT, Nat.reduceLeDiff, Nat.reduceEqDiff, Nat.reduceBEq, Nat.reduceBNe, Int.reduceLT, Int.reduceLE, Int.reduceEq, Int.reduceNe, Int.reduceAdd, Int.reduceSub, Int.reduceNeg, Int.reduceToNat, Int.reduceMul, ↓reduceIte, Int.reduceGT, Int.reduceGE, f2, f3, f4, f6, f7, b0, b2, e1, ov, hbS', hcut, ocv]
              refine callT_one (xstate_ok (x.mono (fun b hb => by simp (disch := first | omega | (simp only [fsLen]; omega)) only [↓fsPre, fsPost, fsCond, fsGen, fsDefs, fsDefX, cls, eqVal, reduceCtorEq, Nat.reduceAdd, Nat.reduceMul, Nat.reduceSub, Nat.reduceLT, Nat.reduceLeDiff, Nat.reduceEqDiff, Nat.reduceBEq, Nat.reduceBNe, Int.reduceLT, Int.reduceLE, Int.reduceEq, Int.reduceNe, Int.reduceAdd, Int.reduceSub, Int.reduceNeg, Int.reduceToNat, Int.reduceMul, ↓reduceIte, Int.reduceGT, Int.reduceGE]; exact hold b hb)) id hs0) rfl ?_
              simp (disch := first | omega | (simp only [fsLen]; omega)) only [↓fsPre, fsPost, fsCond, fsGen, fsDefs, fsDefX, cls, eqVal, reduceCtorEq, Nat.reduceAdd, Nat.reduceMul, Nat.reduceSub, Nat.reduceLT, Nat.reduceLeDiff, Nat.reduceEqDiff, Nat.reduceBEq, Nat.reduceBNe, Int.reduceLT, Int.reduceLE, Int.reduceEq, Int.reduceNe, Int.reduceAdd, Int.reduceSub, Int.reduceNeg, Int.reduceToNat, Int.reduceMul, ↓reduceIte, Int.reduceGT, Int.reduceGE, f2, f3, f4, f6, f7, b0, b2, e1, ov, hbS', hcut, ocv]
              have hst2 : c.tick.st = c.st + 1 := rfl
              exact ⟨k, by omega, c.tick, A.sl.idxOf id, by rw [hix2], hlt2, by omega, (fun b hb => by simp (disch := first | omega | (simp only [fsLen]; omega)) only [↓fsPre, fsPost, fsCond, fsGen, fsDefs, fsDefX, cls, eqVal, reduceCtorEq, Nat.reduceAdd, Nat.reduceMul, Nat.reduceSub, Nat.reduceLT, Nat.reduceLeDiff, Nat.reduceEqDiff, Nat.reduceBEq, Nat.reduceBNe, Int.reduceLT, Int.reduceLE, Int.reduceEq, Int.reduceNe, Int.reduceAdd, Int.reduceSub, Int.reduceNeg, Int.reduceToNat, Int.reduceMul, ↓reduceIte, Int.reduceGT, Int.reduceGE]; exact hold b hb), rfl, hPt, by omega, hgo⟩
        · have hmem := (ok.hd a ha).resolve_left hd0
          have hix := ixI_mem hmem
          have hlt := List.idxOf_lt_length_of_mem hmem
          simp (disch := first | omega | (simp only [fsLen]; omega)) only [↓fsPre, fsPost, fsCond, fsGen, fsDefs, fsDefX, cls, eqVal, reduceCtorEq, Nat.reduceAdd, Nat.reduceMul, Nat.reduceSub, Nat.reduceLT, Nat.reduceLeDiff, Nat.reduceEqDiff, Nat.reduceBEq, Nat.reduceBNe, Int.reduceLT, Int.reduceLE, Int.reduceEq, Int.reduceNe, Int.reduceAdd, Int.reduceSub, Int.reduceNeg, Int.reduceToNat, Int.reduceMul, ↓reduceIte, Int.reduceGT, Int.reduceGE, f2, f3, f4, f6, f7, b0, b2, e1, ov, hbS', hcut, ocv, decide_eq_true hd0]
          refine callDT_one (xhdr_ok (x.mono fun b hb => by simp (disch := first | omega | (simp only [fsLen]; omega)) only [↓fsPre, fsPost, fsCond, fsGen, fsDefs, fsDefX, cls, eqVal, reduceCtorEq, Nat.reduceAdd, Nat.reduceMul, Nat.reduceSub, Nat.reduceLT, Nat.reduceLeDiff, Nat.reduceEqDiff, Nat.reduceBEq, Nat.reduceBNe, Int.reduceLT, Int.reduceLE, Int.reduceEq, Int.reduceNe, Int.reduceAdd, Int.reduceSub, Int.reduceNeg, Int.reduceToNat, Int.reduceMul, ↓reduceIte, Int.reduceGT, Int.reduceGE]; exact hold b hb) _) rfl ?_
          simp (disch := first | omega | (simp only [fsLen]; omega)) only [↓fsPre, fsPost, fsCond, fsGen, fsDefs, fsDefX, cls, eqVal, reduceCtorEq, Nat.reduceAdd, Nat.reduceMul, Nat.reduceSub, Nat.reduceLT, Nat.reduceLeDiff, Nat.reduceEqDiff, Nat.reduceBEq, Nat.reduceBNe, Int.reduceLT, Int.reduceLE, Int.reduceEq, Int.reduceNe, Int.reduceAdd, Int.reduceSub, Int.reduceNeg, Int.reduceToNat, Int.reduceMul, ↓reduceIte, Int.reduceGT, Int.reduceGE, f2, f3, f4, f6, f7, b0, b2, e1, ov, hbS', hcut, ocv, decide_eq_true hd0, hix]
          by_cases hsz : A.sum (A.hf (A.hl.idxOf (A.sd a).hd)) / 8 ≤ m - c.tick.o
          · have hfit : A.fits m c.tick (A.sd a).hd := .inr hsz
            rw [if_pos hfit, show A.ext d c.tick (A.sd a).hd = A.hdr d c.tick (A.hl.idxOf (A.sd a).hd) from if_neg hd0] at hgo
            refine callDT_D (header_D x _ (fun b hb => by simp (disch := first | omega | (simp only [fsLen]; omega)) only [↓fsPre, fsPost, fsCond, fsGen, fsDefs, fsDefX, cls, eqVal, reduceCtorEq, Nat.reduceAdd, Nat.reduceMul, Nat.reduceSub, Nat.reduceLT, Nat.reduceLeDiff, Nat.reduceEqDiff, Nat.reduceBEq, Nat.reduceBNe, Int.reduceLT, Int.reduceLE, Int.reduceEq, Int.reduceNe, Int.reduceAdd, Int.reduceSub, Int.reduceNeg, Int.reduceToNat, Int.reduceMul, ↓reduceIte, Int.reduceGT, Int.reduceGE]; exact hold b hb) hPt (by omega) _ hlt hm hsz) rfl ?_
            rintro v g ⟨e, hgl, hgo2, hP2⟩
            simp only at e hgl hgo2 hP2
            subst e
            have lF' := hget_lt hP.hF
            have lV' := hget_lt hP.hV
            have gF' := hP.gF
            have gV' := hP.gV
            have hgl2 : g.length = h.length + 1 := by rw [hgl]; simp [length_hset]
            have m0 : hget g H.length = some (.cells [z0, z1, .slice (some (bS, 0)) A.sl.length sc, z3, z4, z5, z6, z7, z8, .int .i64 A.bud] false) := by
              rw [hgo2 _ (by omega) (by omega) (by omega)]; simp (disch := first | omega | (simp only [fsLen]; omega)) only [↓fsPre, fsPost, fsCond, fsGen, fsDefs, fsDefX, cls, eqVal, reduceCtorEq, Nat.reduceAdd, Nat.reduceMul, Nat.reduceSub, Nat.reduceLT, Nat.reduceLeDiff, Nat.reduceEqDiff, Nat.reduceBEq, Nat.reduceBNe, Int.reduceLT, Int.reduceLE, Int.reduceEq, Int.reduceNe, Int.reduceAdd, Int.reduceSub, Int.reduceNeg, Int.reduceToNat, Int.reduceMul, ↓reduceIte, Int.reduceGT, Int.reduceGE, b0]
            have m2 : hget g (H.length + 2) = some (.cells [.slice none 0 (.fix 0), .slice none 0 (.fix 0), .slice none 0 (.fix 0), .int .i64 0, .bool false] false) := by
              rw [hgo2 _ (by omega) (by omega) (by omega)]; simp (disch := first | omega | (simp only [fsLen]; omega)) only [↓fsPre, fsPost, fsCond, fsGen, fsDefs, fsDefX, cls, eqVal, reduceCtorEq, Nat.reduceAdd, Nat.reduceMul, Nat.reduceSub, Nat.reduceLT, Nat.reduceLeDiff, Nat.reduceEqDiff, Nat.reduceBEq, Nat.reduceBNe, Int.reduceLT, Int.reduceLE, Int.reduceEq, Int.reduceNe, Int.reduceAdd, Int.reduceSub, Int.reduceNeg, Int.reduceToNat, Int.reduceMul, ↓reduceIte, Int.reduceGT, Int.reduceGE, b2]
            have m8 : hget g h.length = some (.cells [.int .i64 A.sl[a], .int .i64 (A.sd a).hd, .int .i64 (A.sd a).sel, cv, .int .i64 (A.sd a).dflt] false) := by
              rw [hgo2 _ (by omega) (by omega) (by omega)]; simp (disch := first | omega | (simp only [fsLen]; omega)) only [↓fsPre, fsPost, fsCond, fsGen, fsDefs, fsDefX, cls, eqVal, reduceCtorEq, Nat.reduceAdd, Nat.reduceMul, Nat.reduceSub, Nat.reduceLT, Nat.reduceLeDiff, Nat.reduceEqDiff, Nat.reduceBEq, Nat.reduceBNe, Int.reduceLT, Int.reduceLE, Int.reduceEq, Int.reduceNe, Int.reduceAdd, Int.reduceSub, Int.reduceNeg, Int.reduceToNat, Int.reduceMul, ↓reduceIte, Int.reduceGT, Int.reduceGE]
            have mold : ∀ b, b < H.length → hget g b = hget H b := fun b hb => by
              rw [hgo2 _ (by omega) (by omega) (by omega)]; simp (disch := first | omega | (simp only [fsLen]; omega)) only [↓fsPre, fsPost, fsCond, fsGen, fsDefs, fsDefX, cls, eqVal, reduceCtorEq, Nat.reduceAdd, Nat.reduceMul, Nat.reduceSub, Nat.reduceLT, Nat.reduceLeDiff, Nat.reduceEqDiff, Nat.reduceBEq, Nat.reduceBNe, Int.reduceLT, Int.reduceLE, Int.reduceEq, Int.reduceNe, Int.reduceAdd, Int.reduceSub, Int.reduceNeg, Int.reduceToNat, Int.reduceMul, ↓reduceIte, Int.reduceGT, Int.reduceGE]; exact hold b hb
            have hst2 : (A.hdr d c.tick (A.hl.idxOf (A.sd a).hd)).st = c.st + 1 := rfl
            dsimp only at hgo
            generalize A.hdr d c.tick (A.hl.idxOf (A.sd a).hd) = C at *
            have hnm := XA.next_mem ok ha C.fl
            obtain ⟨vR2, q1, q2, q3⟩ := hP2.at (M := H.length) (by omega)
            unfold cxCells at q1
            have hle2 : h.length + 1 ≤ g.length := by omega
            simp (disch := first | omega | (simp only [fsLen]; omega)) only [↓fsPre, fsPost, fsCond, fsGen, fsDefs, fsDefX, cls, eqVal, reduceCtorEq, Nat.reduceAdd, Nat.reduceMul, Nat.reduceSub, Nat.reduceLT, Nat.reduceLeDiff, Nat.reduceEqDiff, Nat.reduceBEq, Nat.reduceBNe, Int.reduceLT, Int.reduceLE, Int.reduceEq, Int.reduceNe, Int.reduceAdd, Int.reduceSub, Int.reduceNeg, Int.reduceToNat, Int.reduceMul, ↓reduceIte, Int.reduceGT, Int.reduceGE, f2, f3, f4, f6, f7, m0, m2, m8, q1, q2, hbS', hcut, ocv, decide_eq_true hd0, hle2, b0]
            refine callT_one (nextD (x.mono fun b hb => mold b hb) hP2 _ _ _ (A.sd a) q2 (hcases.mono fun b hb => mold b hb) (ok.sel a ha) (ok.cl a ha)) rfl ?_
            generalize hid : A.next C.fl (A.sd a) = id at *
            simp (disch := first | omega | (simp only [fsLen]; omega)) only [↓fsPre, fsPost, fsCond, fsGen, fsDefs, fsDefX, cls, eqVal, reduceCtorEq, Nat.reduceAdd, Nat.reduceMul, Nat.reduceSub, Nat.reduceLT, Nat.reduceLeDiff, Nat.reduceEqDiff, Nat.reduceBEq, Nat.reduceBNe, Int.reduceLT, Int.reduceLE, Int.reduceEq, Int.reduceNe, Int.reduceAdd, Int.reduceSub, Int.reduceNeg, Int.reduceToNat, Int.reduceMul, ↓reduceIte, Int.reduceGT, Int.reduceGE, f2, f3, f4, f6, f7, m0, m2, m8, q1, q2, hbS', hcut, ocv, decide_eq_true hd0]
            refine condK_dec (fun hz => ?_) (fun hz => ?_)
            · simp (disch := first | omega | (simp only [fsLen]; omega)) only [↓fsPre, fsPost, fsCond, fsGen, fsDefs, fsDefX, cls, eqVal, reduceCtorEq, Nat.reduceAdd, Nat.reduceMul, Nat.reduceSub, Nat.reduceLT, Nat.reduceLeDiff, Nat.reduceEqDiff, Nat.reduceBEq, Nat.reduceBNe, Int.reduceLT, Int.reduceLE, Int.reduceEq, Int.reduceNe, Int.reduceAdd, Int.reduceSub, Int.reduceNeg, Int.reduceToNat, Int.reduceMul, ↓reduceIte, Int.reduceGT, Int.reduceGE, f2, f3, f4, f6, f7, m0, m2, m8, q1, q2, hbS', hcut, ocv, decide_eq_true hd0]
              rw [if_pos hz] at hgo
              exact fin _ C vR2 0 (by omega) mold q3 hgo
            · simp (disch := first | omega | (simp only [fsLen]; omega)) only [↓fsPre, fsPost, fsCond, fsGen, fsDefs, fsDefX, cls, eqVal, reduceCtorEq, Nat.reduceAdd, Nat.reduceMul, Nat.reduceSub, Nat.reduceLT, Nat.reduceLeDiff, Nat.reduceEqDiff, Nat.reduceBEq, Nat.reduceBNe, Int.reduceLT, Int.reduceLE, Int.reduceEq, Int.reduceNe, Int.reduceAdd, Int.reduceSub, Int.reduceNeg, Int.reduceToNat, Int.reduceMul, ↓reduceIte, Int.reduceGT, Int.reduceGE, f2, f3, f4, f6, f7, m0, m2, m8, q1, q2, hbS', hcut, ocv, decide_eq_true hd0]
              rw [if_neg hz] at hgo
              refine condK_dec (fun hw => ?_) (fun hw => ?_)
              · simp (disch := first | omega | (simp only [fsLen]; omega)) only [↓fsPre, fsPost, fsCond, fsGen, fsDefs, fsDefX, cls, eqVal, reduceCtorEq, Nat.reduceAdd, Nat.reduceMul, Nat.reduceSub, Nat.reduceLT, Nat.reduceLeDiff, Nat.reduceEqDiff, Nat.reduceBEq, Nat.reduceBNe, Int.reduceLT, Int.reduceLE, Int.reduceEq, Int.reduceNe, Int.reduceAdd, Int.reduceSub, Int.reduceNeg, Int.reduceToNat, Int.reduceMul, ↓reduceIte, Int.reduceGT, Int.reduceGE, f2, f3, f4, f6, f7, m0, m2, m8, q1, q2, hbS', hcut, ocv, decide_eq_true hd0]
                rw [if_pos hw] at hgo
                exact fin _ C vR2 3 (by omega) mold q3 hgo
              · rw [if_neg hw] at hgo
                have hmem2 := (hnm.resolve_left hz).resolve_left hw
                have hix2 := ixI_mem hmem2
                have hlt2 := List.idxOf_lt_length_of_mem hmem2
                simp (disch := first | omega | (simp only [fsLen]; omega)) only [↓fsPre, fsPost, fsCond, fsGen, fsDefs, fsDefX, cls, eqVal, reduceCtorEq, Nat.reduceAdd, Nat.reduceMul, Nat.reduceSub, Nat.reduceLT, Nat.reduceLeDiff, Nat.reduceEqDiff, Nat.reduceBEq, Nat.reduceBNe, Int.reduceLT, Int.reduceLE, Int.reduceEq, Int.reduceNe, Int.reduceAdd, Int.reduceSub, Int.reduceNeg, Int.reduceToNat, Int.reduceMul, ↓reduceIte, Int.reduceGT, Int.reduceGE, f2, f3, f4, f6, f7, m0, m2, m8, q1, q2, hbS', hcut, ocv, decide_eq_true hd0]
                refine callT_one (xstate_ok (x.mono fun b hb => mold b hb) id hs0) rfl ?_
                simp (disch := first | omega | (simp only [fsLen]; omega)) only [↓fsPre, fsPost, fsCond, fsGen, fsDefs, fsDefX, cls, eqVal, reduceCtorEq, Nat.reduceAdd, Nat.reduceMul, Nat.reduceSub, Nat.reduceLT, Nat.reduceLeDiff, Nat.reduceEqDiff, Nat.reduceBEq, Nat.reduceBNe, Int.reduceLT, Int.reduceLE, Int.reduceEq, Int.reduceNe, Int.reduceAdd, Int.reduceSub, Int.reduceNeg, Int.reduceToNat, Int.reduceMul, ↓reduceIte, Int.reduceGT, Int.reduceGE, f2, f3, f4, f6, f7, m0, m2, m8, q1, q2, hbS', hcut, ocv, decide_eq_true hd0]
                exact ⟨k, by omega, C, A.sl.idxOf id, by rw [hix2], hlt2, by omega, mold, rfl, hP2, by omega, hgo⟩
          · have hfit : ¬ A.fits m c.tick (A.sd a).hd := fun h => h.elim hd0 hsz
            rw [if_neg hfit] at hgo
            refine callDT_one (header_N x _ (fun b hb => by simp (disch := first | omega | (simp only [fsLen]; omega)) only [↓fsPre, fsPost, fsCond, fsGen, fsDefs, fsDefX, cls, eqVal, reduceCtorEq, Nat.reduceAdd, Nat.reduceMul, Nat.reduceSub, Nat.reduceLT, Nat.reduceLeDiff, Nat.reduceEqDiff, Nat.reduceBEq, Nat.reduceBNe, Int.reduceLT, Int.reduceLE, Int.reduceEq, Int.reduceNe, Int.reduceAdd, Int.reduceSub, Int.reduceNeg, Int.reduceToNat, Int.reduceMul, ↓reduceIte, Int.reduceGT, Int.reduceGE]; exact hold b hb) hPt (by omega) _ hlt hm hsz) rfl ?_
            simp (disch := first | omega | (simp only [fsLen]; omega)) only [↓fsPre, fsPost, fsCond, fsGen, fsDefs, fsDefX, cls, eqVal, reduceCtorEq, Nat.reduceAdd, Nat.reduceMul, Nat.reduceSub, Nat.reduceLT, Nat.reduceLeDiff, Nat.reduceEqDiff, Nat.reduceBEq, Nat.reduceBNe, Int.reduceLT, Int.reduceLE, Int.reduceEq, Int.reduceNe, Int.reduceAdd, Int.reduceSub, Int.reduceNeg, Int.reduceToNat, Int.reduceMul, ↓reduceIte, Int.reduceGT, Int.reduceGE, f2, f3, f4, f6, f7, b0, b2, e1, ov, hbS', hcut, ocv, decide_eq_true hd0, hix]
            obtain ⟨vR2, q1, q2, q3⟩ := hPt.at (M := H.length) (by omega)
            have e3 : vR2 = vR' := by
              have := q1.symm.trans (by simp (disch := first | omega | (simp only [fsLen]; omega)) only [↓fsPre, fsPost, fsCond, fsGen, fsDefs, fsDefX, cls, eqVal, reduceCtorEq, Nat.reduceAdd, Nat.reduceMul, Nat.reduceSub, Nat.reduceLT, Nat.reduceLeDiff, Nat.reduceEqDiff, Nat.reduceBEq, Nat.reduceBNe, Int.reduceLT, Int.reduceLE, Int.reduceEq, Int.reduceNe, Int.reduceAdd, Int.reduceSub, Int.reduceNeg, Int.reduceToNat, Int.reduceMul, ↓reduceIte, Int.reduceGT, Int.reduceGE, cxCells] <;> rfl)
              simpa [cxCells] using this
            subst e3
            rw [← hset_appl (by rw [length_hset]; omega)]
            exact fin _ c.tick vR2 2 (by simp (disch := first | omega | (simp only [fsLen]; omega)) only [↓fsPre, fsPost, fsCond, fsGen, fsDefs, fsDefX, cls, eqVal, reduceCtorEq, Nat.reduceAdd, Nat.reduceMul, Nat.reduceSub, Nat.reduceLT, Nat.reduceLeDiff, Nat.reduceEqDiff, Nat.reduceBEq, Nat.reduceBNe, Int.reduceLT, Int.reduceLE, Int.reduceEq, Int.reduceNe, Int.reduceAdd, Int.reduceSub, Int.reduceNeg, Int.reduceToNat, Int.reduceMul, ↓reduceIte, Int.reduceGT, Int.reduceGE]; omega) (fun b hb => by simp (disch := first | omega | (simp only [fsLen]; omega)) only [↓fsPre, fsPost, fsCond, fsGen, fsDefs, fsDefX, cls, eqVal, reduceCtorEq, Nat.reduceAdd, Nat.reduceMul, Nat.reduceSub, Nat.reduceLT, Nat.reduceLeDiff, Nat.reduceEqDiff, Nat.reduceBEq, Nat.reduceBNe, Int.reduceLT, Int.reduceLE, Int.reduceEq, Int.reduceNe, Int.reduceAdd, Int.reduceSub, Int.reduceNeg, Int.reduceToNat, Int.reduceMul, ↓reduceIte, Int.reduceGT, Int.reduceGE]; exact hold b hb) q3 hgo

theorem port_u (x : Int) : IntKind.u64.wrap ((BitVec.ofInt IntKind.u64.bits (IntKind.u64.wrap x) &&& BitVec.ofInt IntKind.u64.bits 65535).toNat : Int) = x % 65536 := by
  have h1 : (BitVec.ofInt IntKind.u64.bits 65535).toNat = 2 ^ 16 - 1 := by decide
  rw [BitVec.toNat_and, h1, Nat.and_two_pow_sub_one_eq_mod, BitVec.toNat_ofInt]
  simp only [IntKind.wrap, IntKind.bits, IntKind.signed]
  simp
  omega
theorem vals_zero (n : Nat) : (List.replicate n [NV.int .u64 0, .int .u64 0]).flatten = vals (List.replicate n 0#128) := by
  induction n with
  | zero => rfl
  | succ n ih => rw [List.replicate_succ, List.flatten_cons, ih, List.replicate_succ]; rfl
theorem bools_false (n : Nat) : (List.replicate n [NV.bool false]).flatten = bools (List.replicate n false) := by
  induction n with
  | zero => rfl
  | succ n ih => rw [List.replicate_succ, List.flatten_cons, ih, List.replicate_succ]; rfl
theorem tail5 {H L : Heap} {a b c d e a' b' c' d' e' : Option NBlk} {k : Nat} (hk : H.length + 5 ≤ k) : hget (H ++ a :: b :: c :: d :: e :: L) k = hget (H ++ [a', b', c', d', e'] ++ L) k := by
  obtain ⟨i, rfl⟩ : ∃ i, k = H.length + (i + 5) := ⟨k - (H.length + 5), by omega⟩
  unfold hget
  rw [List.getElem?_append_right (by omega), List.append_assoc, List.getElem?_append_right (by omega), Nat.add_sub_cancel_left]
  rfl
def XA.start (A : XA) (port : Int) : List (BitVec 128) := (List.replicate A.l.length 0#128).set (A.l.idxOf 1) (ofV (port % 65536))

set_option maxHeartbeats 2000000 in
theorem start_ok {A : XA} {H : Heap} {z0 z1 z2 z3 z4 z5 z6 z7 z8 z9 : NV} (x : XAt A H z0 z1 z2 z3 z4 z5 z6 z7 z8 z9) (port : Int) (m : Nat) (d : Nat → BitVec 8) (v : NV) (hb : BytesAt H v m d) (hm : m ≤ 1000) (h1 : 1 ∈ A.l) :
    DCall Try.prog 10 [.agg [z0, z1, z2, z3, z4, z5, z6, z7, z8, z9], .int .i64 port, v] H fun r => (∃ L, r.2 = H ++ L) ∧ CxAt A r.2 H.length m d (A.start port) (List.replicate A.hl.length false) 0 0 r.1 := by
  obtain ⟨o0, o1, o2, o3, o4, o5, o6, o7, o8, o9⟩ := x.ones
  have ok := x.ok
  have nl := ok.nl
  have nh := ok.nh
  have hix := ixI_mem h1
  have hlt := List.idxOf_lt_length_of_mem h1
  have ov := hb.one
  obtain ⟨b0, c0, cs0, ro0, rfl, _⟩ := id x.f
  obtain ⟨b1, c1, cs1, ro1, rfl, _⟩ := id x.g
  have hcl := fun L => cloneY_ok (H ++ L) v m d (.inl (hb.mono fun b hb => hget_appl hb)) hm
  refine call_det E0 rfl mixed t10_ok (by kernel_rfl) (by rintro q ⟨⟨L, h⟩, _⟩; rw [h]; simp) ?_
  simp only [t10]
  simp (disch := first | omega | (simp only [fsLen]; omega)) only [↓fsPre, fsPost, fsCond, fsGen, fsDefs, fsDefX, cls, eqVal, reduceCtorEq, Nat.reduceAdd, Nat.reduceMul, Nat.reduceSub, Nat.reduceLT, Nat.reduceLeDiff, Nat.reduceEqDiff, Nat.reduceBEq, Nat.reduceBNe, Int.reduceLT, Int.reduceLE, Int.reduceEq, Int.reduceNe, Int.reduceAdd, Int.reduceSub, Int.reduceNeg, Int.reduceToNat, Int.reduceMul, ↓reduceIte, Int.reduceGT, Int.reduceGE, ov, o2, o3, o4, o5, o6, o7, o8, o9, vals_zero, bools_false]
  refine ⟨by omega, by omega, ?_⟩
  refine callDT_D (hcl _) rfl ?_
  rintro w h' ⟨⟨L, e⟩, hr⟩
  simp only at e hr
  subst e
  have ow := hr.one
  obtain ⟨of, oc⟩ := hr.flat
  simp only [List.length_append, List.length_cons, List.length_nil] at hr
  simp (disch := first | omega | (simp only [fsLen]; omega)) only [↓fsPre, fsPost, fsCond, fsGen, fsDefs, fsDefX, cls, eqVal, reduceCtorEq, Nat.reduceAdd, Nat.reduceMul, Nat.reduceSub, Nat.reduceLT, Nat.reduceLeDiff, Nat.reduceEqDiff, Nat.reduceBEq, Nat.reduceBNe, Int.reduceLT, Int.reduceLE, Int.reduceEq, Int.reduceNe, Int.reduceAdd, Int.reduceSub, Int.reduceNeg, Int.reduceToNat, Int.reduceMul, ↓reduceIte, Int.reduceGT, Int.reduceGE, ov, o2, o3, o4, o5, o6, o7, o8, o9, vals_zero, bools_false, ow, of, oc]
  refine callT_one (xfield_ok (x.mono fun b hb => by simp (disch := first | omega | (simp only [fsLen]; omega)) only [↓fsPre, fsPost, fsCond, fsGen, fsDefs, fsDefX, cls, eqVal, reduceCtorEq, Nat.reduceAdd, Nat.reduceMul, Nat.reduceSub, Nat.reduceLT, Nat.reduceLeDiff, Nat.reduceEqDiff, Nat.reduceBEq, Nat.reduceBNe, Int.reduceLT, Int.reduceLE, Int.reduceEq, Int.reduceNe, Int.reduceAdd, Int.reduceSub, Int.reduceNeg, Int.reduceToNat, Int.reduceMul, ↓reduceIte, Int.reduceGT, Int.reduceGE]) 1) rfl ?_
  simp (disch := first | omega | (simp only [fsLen]; omega)) only [↓fsPre, fsPost, fsCond, fsGen, fsDefs, fsDefX, cls, eqVal, reduceCtorEq, Nat.reduceAdd, Nat.reduceMul, Nat.reduceSub, Nat.reduceLT, Nat.reduceLeDiff, Nat.reduceEqDiff, Nat.reduceBEq, Nat.reduceBNe, Int.reduceLT, Int.reduceLE, Int.reduceEq, Int.reduceNe, Int.reduceAdd, Int.reduceSub, Int.reduceNeg, Int.reduceToNat, Int.reduceMul, ↓reduceIte, Int.reduceGT, Int.reduceGE, ov, o2, o3, o4, o5, o6, o7, o8, o9, vals_zero, bools_false, ow, of, oc, hix]
  rw [port_u]
  have hof := fun H => of_ok H (port % 65536) (by omega)
  unfold vnv at hof
  refine callDT_one (hof _) rfl ?_
  simp (disch := first | omega | (simp only [fsLen]; omega)) only [↓fsPre, fsPost, fsCond, fsGen, fsDefs, fsDefX, cls, eqVal, reduceCtorEq, Nat.reduceAdd, Nat.reduceMul, Nat.reduceSub, Nat.reduceLT, Nat.reduceLeDiff, Nat.reduceEqDiff, Nat.reduceBEq, Nat.reduceBNe, Int.reduceLT, Int.reduceLE, Int.reduceEq, Int.reduceNe, Int.reduceAdd, Int.reduceSub, Int.reduceNeg, Int.reduceToNat, Int.reduceMul, ↓reduceIte, Int.reduceGT, Int.reduceGE, ov, o2, o3, o4, o5, o6, o7, o8, o9, ow, of, oc, hix, nb_one, vals_length, List.length_replicate, vals_set]
  rw [vals_set (by rw [List.length_replicate]; exact hlt)]
  refine ⟨⟨_, rfl⟩, H.length + 2, H.length + 3, _, _, w, rfl, by omega, by omega, by omega, by simp (disch := first | omega | (simp only [fsLen]; omega)) only [↓fsPre, fsPost, fsCond, fsGen, fsDefs, fsDefX, cls, eqVal, reduceCtorEq, Nat.reduceAdd, Nat.reduceMul, Nat.reduceSub, Nat.reduceLT, Nat.reduceLeDiff, Nat.reduceEqDiff, Nat.reduceBEq, Nat.reduceBNe, Int.reduceLT, Int.reduceLE, Int.reduceEq, Int.reduceNe, Int.reduceAdd, Int.reduceSub, Int.reduceNeg, Int.reduceToNat, Int.reduceMul, ↓reduceIte, Int.reduceGT, Int.reduceGE]; rfl, by simp (disch := first | omega | (simp only [fsLen]; omega)) only [↓fsPre, fsPost, fsCond, fsGen, fsDefs, fsDefX, cls, eqVal, reduceCtorEq, Nat.reduceAdd, Nat.reduceMul, Nat.reduceSub, Nat.reduceLT, Nat.reduceLeDiff, Nat.reduceEqDiff, Nat.reduceBEq, Nat.reduceBNe, Int.reduceLT, Int.reduceLE, Int.reduceEq, Int.reduceNe, Int.reduceAdd, Int.reduceSub, Int.reduceNeg, Int.reduceToNat, Int.reduceMul, ↓reduceIte, Int.reduceGT, Int.reduceGE], by unfold XA.start; rw [List.length_set, List.length_replicate], by rw [List.length_replicate], hr.keep (by omega) ?_, ?_⟩
  · rintro b ⟨o, n, c, e⟩
    exact tail5 (hr.low e)
  · intro b o n c e
    have := hr.low e
    omega
end Go.Proofs
