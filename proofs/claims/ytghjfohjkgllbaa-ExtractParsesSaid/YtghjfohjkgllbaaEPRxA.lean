/- Rx1, Rx2, Rx3, Rx4 in one text. -/
import Derived.Test.YtghjfohjkgllbaaEPIdxB
import Derived.Test.YtghjfohjkgllbaaEPExQ
import Derived.Test.YtghjfohjkgllbaaVbD
set_option linter.unusedSimpArgs false
set_option linter.unusedVariables false
set_option maxRecDepth 10000
namespace Go.Proofs
open Go.Ns

/-- A schema as the parser sees it, with the IDs of its other lists. -/
structure YAt (A : XA) (h : Heap) (z0 z1 z2 z3 z4 z5 z6 z7 z8 z9 : NV) : Prop where
  x : XAt A h z0 z1 z2 z3 z4 z5 z6 z7 z8 z9
  s : A.l.length ≤ 20 ∧ A.hl.length ≤ 20 ∧ A.sl.length ≤ 20
  e : ∃ l3 l4 l5, IdRows h 5 z3 l3 ∧ IdRows h 8 z4 l4 ∧ IdRows h 6 z6 l5
theorem YAt.mono {A : XA} {h h' : Heap} {z0 z1 z2 z3 z4 z5 z6 z7 z8 z9 : NV} (y : YAt A h z0 z1 z2 z3 z4 z5 z6 z7 z8 z9) (o : ∀ b, b < h.length → hget h' b = hget h b) : YAt A h' z0 z1 z2 z3 z4 z5 z6 z7 z8 z9 := by
  obtain ⟨l3, l4, l5, e3, e4, e5⟩ := y.e
  exact ⟨y.x.mono o, y.s, l3, l4, l5, e3.mono o, e4.mono o, e5.mono o⟩
theorem yfield_ok {A : XA} {H : Heap} {z0 z1 z2 z3 z4 z5 z6 z7 z8 z9 : NV} (y : YAt A H z0 z1 z2 z3 z4 z5 z6 z7 z8 z9) (id : Int) : NCall Try.prog 23 [.agg [z0, z1, z2, z3, z4, z5, z6, z7, z8, z9], .int .i64 id] H fun r => r = (.int .i64 (ixI A.l id), H) := by
  obtain ⟨_, _, _, _, _, o5, _, o7, o8, o9⟩ := y.x.ones
  obtain ⟨l3, l4, l5, e3, e4, e5⟩ := y.e
  exact rFieldOf_ok H _ _ _ _ _ _ _ _ _ _ _ _ _ _ _ _ (y.x.f.ids y.s.1) (y.x.g.ids y.s.2.1) (y.x.s.ids y.s.2.2) e3 e4 e5 ⟨o5, o7, o8, o9⟩ id
theorem yhdr_ok {A : XA} {H : Heap} {z0 z1 z2 z3 z4 z5 z6 z7 z8 z9 : NV} (y : YAt A H z0 z1 z2 z3 z4 z5 z6 z7 z8 z9) (id : Int) : NCall Try.prog 40 [.agg [z0, z1, z2, z3, z4, z5, z6, z7, z8, z9], .int .i64 id] H fun r => r = (.int .i64 (ixI A.hl id), H) := by
  obtain ⟨_, _, _, _, _, o5, _, o7, o8, o9⟩ := y.x.ones
  obtain ⟨l3, l4, l5, e3, e4, e5⟩ := y.e
  exact rHeaderOf_ok H _ _ _ _ _ _ _ _ _ _ _ _ _ _ _ _ (y.x.f.ids y.s.1) (y.x.g.ids y.s.2.1) (y.x.s.ids y.s.2.2) e3 e4 e5 ⟨o5, o7, o8, o9⟩ id
theorem ystate_ok {A : XA} {H : Heap} {z0 z1 z2 z3 z4 z5 z6 z7 z8 z9 : NV} (y : YAt A H z0 z1 z2 z3 z4 z5 z6 z7 z8 z9) (id : Int) : NCall Try.prog 42 [.agg [z0, z1, z2, z3, z4, z5, z6, z7, z8, z9], .int .i64 id] H fun r => r = (.int .i64 (ixI A.sl id), H) := by
  obtain ⟨_, _, _, _, _, o5, _, o7, o8, o9⟩ := y.x.ones
  obtain ⟨l3, l4, l5, e3, e4, e5⟩ := y.e
  exact rStateOf_ok H _ _ _ _ _ _ _ _ _ _ _ _ _ _ _ _ (y.x.f.ids y.s.1) (y.x.g.ids y.s.2.1) (y.x.s.ids y.s.2.2) e3 e4 e5 ⟨o5, o7, o8, o9⟩ id

theorem ybits_ok {A : XA} {H : Heap} {z0 z1 z2 z3 z4 z5 z6 z7 z8 z9 : NV} (y : YAt A H z0 z1 z2 z3 z4 z5 z6 z7 z8 z9) (id : Int) (hm : id ∈ A.l) : NCall Try.prog 65 [.agg [z0, z1, z2, z3, z4, z5, z6, z7, z8, z9], .int .i64 id] H fun r => r = (.int .i64 (A.bits id), H) := by
  obtain ⟨o0, o1, o2, o3, o4, o5, o6, o7, o8, o9⟩ := y.x.ones
  have hix := ixI_mem hm
  have hlt := List.idxOf_lt_length_of_mem hm
  have ym := fun L => y.mono (h' := H ++ L) fun b hb => hget_appl hb
  obtain ⟨b1, c1, cs1, ro1, rfl, hb1, hr1⟩ := y.x.f
  obtain ⟨s1, hc⟩ := hr1 _ hlt
  have hb1l := hget_some_lt hb1
  have hcell := fun k hk => cut_get (i := k) hc hk
  have h2 := hcell 2 (by omega)
  refine call_pure E0 mixed t65_ok (by kernel_rfl) trivial ?_
  simp only [t65]
  simp (disch := first | omega | (simp only [fsLen]; omega)) only [↓fsPre, fsPost, fsCond, fsGen, fsDefs, fsDefX, cls, eqVal, reduceCtorEq, Nat.reduceAdd, Nat.reduceMul, Nat.reduceSub, Nat.reduceLT, Nat.reduceLeDiff, Nat.reduceEqDiff, Nat.reduceBEq, Nat.reduceBNe, Int.reduceLT, Int.reduceLE, Int.reduceEq, Int.reduceNe, Int.reduceAdd, Int.reduceSub, Int.reduceNeg, Int.reduceToNat, Int.reduceMul, ↓reduceIte, Int.reduceGT, Int.reduceGE, o0, o1, o2, o3, o4, o5, o6, o7, o8, o9]
  refine callDT_one (yfield_ok (ym _) id) rfl ?_
  simp (disch := first | omega | (simp only [fsLen]; omega)) only [↓fsPre, fsPost, fsCond, fsGen, fsDefs, fsDefX, cls, eqVal, reduceCtorEq, Nat.reduceAdd, Nat.reduceMul, Nat.reduceSub, Nat.reduceLT, Nat.reduceLeDiff, Nat.reduceEqDiff, Nat.reduceBEq, Nat.reduceBNe, Int.reduceLT, Int.reduceLE, Int.reduceEq, Int.reduceNe, Int.reduceAdd, Int.reduceSub, Int.reduceNeg, Int.reduceToNat, Int.reduceMul, ↓reduceIte, Int.reduceGT, Int.reduceGE, hix, hb1, h2, o0, o1, o2, o3, o4, o5, o6, o7, o8, o9]
  exact ⟨rfl, _, rfl⟩

set_option maxHeartbeats 1000000 in
theorem ysum_ok {A : XA} {H : Heap} {z0 z1 z2 z3 z4 z5 z6 z7 z8 z9 : NV} (y : YAt A H z0 z1 z2 z3 z4 z5 z6 z7 z8 z9) (id : Int) (s : ByteArray) (ids : List Int) (b : Nat) (c : Cap) (cs : List NV) (ro : Bool) (hb : hget H b = some (.cells cs ro)) (hcs : ∀ i (hi : i < ids.length), cs[i]? = some (.int .i64 ids[i]))
    (hl : ids.length ≤ 100) (hm : ∀ i ∈ ids, i ∈ A.l) (hs : A.sum ids ≤ 10000) :
    NCall Try.prog 64 [.agg [z0, z1, z2, z3, z4, z5, z6, z7, z8, z9], .agg [.int .i64 id, .str s, .slice (some (b, 0)) ids.length c]] H fun r => r = (.int .i64 (A.sum ids), H) := by
  obtain ⟨o0, o1, o2, o3, o4, o5, o6, o7, o8, o9⟩ := y.x.ones
  have hbl := hget_some_lt hb
  have ym := fun L => y.mono (h' := H ++ L) fun b hb => hget_appl hb
  refine call_pure E0 mixed t64_ok (by kernel_rfl) trivial ?_
  simp only [t64]
  simp (disch := first | omega | (simp only [fsLen]; omega)) only [↓fsPre, fsPost, fsCond, fsGen, fsDefs, fsDefX, cls, eqVal, reduceCtorEq, Nat.reduceAdd, Nat.reduceMul, Nat.reduceSub, Nat.reduceLT, Nat.reduceLeDiff, Nat.reduceEqDiff, Nat.reduceBEq, Nat.reduceBNe, Int.reduceLT, Int.reduceLE, Int.reduceEq, Int.reduceNe, Int.reduceAdd, Int.reduceSub, Int.reduceNeg, Int.reduceToNat, Int.reduceMul, ↓reduceIte, Int.reduceGT, Int.reduceGE, o0, o1, o2, o3, o4, o5, o6, o7, o8, o9]
  refine wloop (fun j F h => F 2 = .ptr (some (H.length, 0)) ∧ F 5 = .int .i64 (A.sum (ids.take j)) ∧ F 9 = .slice (some (b, 0)) ids.length c ∧ F 10 = .int .i64 ids.length ∧ F 11 = .int .i64 j ∧
    h = H ++ [some (.cells [z0, z1, z2, z3, z4, z5, z6, z7, z8, z9] false), some (.cells [.int .i64 id, .str s, .slice (some (b, 0)) ids.length c] false)]) ids.length ?_ ?_ ?_
  · simp (disch := first | omega | (simp only [fsLen]; omega)) only [↓fsPre, fsPost, fsCond, fsGen, fsDefs, fsDefX, cls, eqVal, reduceCtorEq, Nat.reduceAdd, Nat.reduceMul, Nat.reduceSub, Nat.reduceLT, Nat.reduceLeDiff, Nat.reduceEqDiff, Nat.reduceBEq, Nat.reduceBNe, Int.reduceLT, Int.reduceLE, Int.reduceEq, Int.reduceNe, Int.reduceAdd, Int.reduceSub, Int.reduceNeg, Int.reduceToNat, Int.reduceMul, ↓reduceIte, Int.reduceGT, Int.reduceGE]
    rfl
  · rintro j F h hj ⟨f2, f5, f9, f10, f11, rfl⟩
    have hg := hcs j hj
    have hmem := hm _ (List.getElem_mem hj)
    have hst := A.sum_step hj
    have hle := A.sum_le ids j
    have hle' := A.sum_le ids (j + 1)
    simp (disch := first | omega | (simp only [fsLen]; omega)) only [↓fsPre, fsPost, fsCond, fsGen, fsDefs, fsDefX, cls, eqVal, reduceCtorEq, Nat.reduceAdd, Nat.reduceMul, Nat.reduceSub, Nat.reduceLT, Nat.reduceLeDiff, Nat.reduceEqDiff, Nat.reduceBEq, Nat.reduceBNe, Int.reduceLT, Int.reduceLE, Int.reduceEq, Int.reduceNe, Int.reduceAdd, Int.reduceSub, Int.reduceNeg, Int.reduceToNat, Int.reduceMul, ↓reduceIte, Int.reduceGT, Int.reduceGE, f2, f5, f9, f10, f11, hb, hg]
    refine callT_one (ybits_ok (ym _) _ hmem) rfl ?_
    simp (disch := first | omega | (simp only [fsLen]; omega)) only [↓fsPre, fsPost, fsCond, fsGen, fsDefs, fsDefX, cls, eqVal, reduceCtorEq, Nat.reduceAdd, Nat.reduceMul, Nat.reduceSub, Nat.reduceLT, Nat.reduceLeDiff, Nat.reduceEqDiff, Nat.reduceBEq, Nat.reduceBNe, Int.reduceLT, Int.reduceLE, Int.reduceEq, Int.reduceNe, Int.reduceAdd, Int.reduceSub, Int.reduceNeg, Int.reduceToNat, Int.reduceMul, ↓reduceIte, Int.reduceGT, Int.reduceGE, f2, f5, f9, f10, f11, hb, hg]
    rw [hst]; push_cast; rfl
  · rintro F h ⟨f2, f5, f9, f10, f11, rfl⟩
    simp (disch := first | omega | (simp only [fsLen]; omega)) only [↓fsPre, fsPost, fsCond, fsGen, fsDefs, fsDefX, cls, eqVal, reduceCtorEq, Nat.reduceAdd, Nat.reduceMul, Nat.reduceSub, Nat.reduceLT, Nat.reduceLeDiff, Nat.reduceEqDiff, Nat.reduceBEq, Nat.reduceBNe, Int.reduceLT, Int.reduceLE, Int.reduceEq, Int.reduceNe, Int.reduceAdd, Int.reduceSub, Int.reduceNeg, Int.reduceToNat, Int.reduceMul, ↓reduceIte, Int.reduceGT, Int.reduceGE, f2, f5, f9, f10, f11]
    exact ⟨by rw [List.take_length], _, rfl⟩

theorem takeV_bit (d : Nat → BitVec 8) (nx : Nat) : ∀ (n i : Nat), i < 128 → (takeV d nx n).getLsbD i = (decide (i < n) && bitAt d (nx + n - 1 - i))
  | 0, i, _ => by simp [takeV]
  | n + 1, 0, _ => by
    unfold takeV
    rw [BitVec.getLsbD_or, BitVec.getLsbD_shiftLeft]
    cases h : bitAt d (nx + n) <;> simp [h]
  | n + 1, i + 1, hi => by
    unfold takeV
    rw [BitVec.getLsbD_or, BitVec.getLsbD_shiftLeft]
    have h1 := takeV_bit d nx n i (by omega)
    have h2 : (if bitAt d (nx + n) then 1#128 else 0#128 : BitVec 128).getLsbD (i + 1) = false := by
      cases bitAt d (nx + n) <;> simp
    rw [h2, show i + 1 - 1 = i by omega, h1]
    by_cases hn : i < n
    · rw [show nx + (n + 1) - 1 - (i + 1) = nx + n - 1 - i by omega]
      simp [hn, hi]
    · simp [hn]
/-- The first 'j' of 'n' bits, the highest first. -/
def bitsTo (d : Nat → BitVec 8) (nx n j : Nat) : Nat → Bool := fun t => decide (n - j ≤ t ∧ t < n) && bitAt d (nx + n - 1 - t)
theorem bitsTo_zero (d : Nat → BitVec 8) (nx n : Nat) : bitsC (bitsTo d nx n 0) = bitsC fun _ => false := bitsC_congr fun i hi => by
  unfold bitsTo
  rw [decide_eq_false (by omega), Bool.false_and]
theorem bitsTo_step (d : Nat → BitVec 8) {nx n j : Nat} (hj : j < n) : bitsC (updB (bitsTo d nx n j) (n - 1 - j) (bitAt d (nx + j))) = bitsC (bitsTo d nx n (j + 1)) := bitsC_congr fun i hi => by
  unfold updB bitsTo
  by_cases h : i = n - 1 - j
  · rw [if_pos h, h, decide_eq_true (by omega), show nx + n - 1 - (n - 1 - j) = nx + j by omega, Bool.true_and]
  · rw [if_neg h]
    by_cases h2 : n - j ≤ i ∧ i < n
    · rw [decide_eq_true h2, decide_eq_true (by omega)]
    · rw [decide_eq_false h2, decide_eq_false (by omega)]
theorem bitsTo_all (d : Nat → BitVec 8) (nx n : Nat) : ofB (bitsTo d nx n n) 128 = takeV d nx n := ofB_eq fun i hi => by
  unfold bitsTo
  rw [takeV_bit d nx n i hi]
  congr 1
  simp

set_option maxHeartbeats 4000000 in
theorem rheader_ok {A : XA} {H0 : Heap} {z0 z1 z2 z3 z4 z5 z6 z7 z8 z9 : NV} (y : YAt A H0 z0 z1 z2 z3 z4 z5 z6 z7 z8 z9) (H : Heap) (old : ∀ b, b < H0.length → hget H b = hget H0 b)
    (p bF bV bR o nR k : Nat) (cF cV : Cap) (st : Int) (fl : List (BitVec 128)) (vl : List Bool) (d : Nat → BitVec 8) (gp : H0.length ≤ p) (gF : H0.length ≤ bF) (gV : H0.length ≤ bV)
    (n1 : p ≠ bF) (n2 : p ≠ bV) (n3 : bF ≠ bV) (n4 : bR ≠ p) (n5 : bR ≠ bF) (n6 : bR ≠ bV)
    (hp : hget H p = some (.cells (cxCells (.slice (some (bF, 0)) A.l.length cF) (.slice (some (bV, 0)) A.hl.length cV) (.slice (some (bR, o)) (nR - o) (.opn 1)) st) false))
    (hF : hget H bF = some (.cells (vals fl) false)) (hV : hget H bV = some (.cells (bools vl) false)) (hR : hget H bR = some (.cells (arrC nR fun i => n8 (d i)) false)) (lF : fl.length = A.l.length) (lV : vl.length = A.hl.length)
    (hk : k < A.hl.length) (ho : o ≤ nR) (hN : nR ≤ 1000) (hsz : A.sum (A.hf k) / 8 ≤ nR - o) (hw : ∀ id ∈ A.hf k, A.bits id ≤ 128) :
    NCall Try.prog 39 [.agg [z0, z1, z2, z3, z4, z5, z6, z7, z8, z9], .ptr (some (p, 0)), .int .i64 k] H fun r => r = (.bool true,
      hset (hset (hset H bF (.cells (vals (A.run (fun i => d (o + i)) fl (A.hf k)).1) false)) bV (.cells (bools (vl.set k true)) false)) p
        (.cells (cxCells (.slice (some (bF, 0)) A.l.length cF) (.slice (some (bV, 0)) A.hl.length cV) (.slice (some (bR, o + A.sum (A.hf k) / 8)) (nR - o - A.sum (A.hf k) / 8) (.opn 1)) st) false)) := by
  obtain ⟨o0, o1, o2, o3, o4, o5, o6, o7, o8, o9⟩ := y.x.ones
  have lp := hget_some_lt hp
  have lF' := hget_some_lt hF
  have lV' := hget_some_lt hV
  have lR := hget_some_lt hR
  obtain ⟨hl, hm, hs0, hs1, hs8⟩ := y.x.ok.hf k hk
  obtain ⟨bH, cH, csH, roH, rfl, hH, hrH⟩ := y.x.g
  obtain ⟨s, bI, cI, csI, roI, hcI, hI, hIc⟩ := hrH k hk
  have lH := hget_some_lt hH
  have lI := hget_some_lt hI
  have h0 : H0.length ≤ H.length := by
    rcases Nat.lt_or_ge H.length H0.length with h | h
    · exfalso; omega
    · exact h
  have hH' := (old _ lH).trans hH
  have hI' := (old _ lI).trans hI
  refine call_mod E0 mixed t39_ok _ _ (by kernel_rfl) (by simp only [length_hset]) trivial ?_ ?_
  · intro b y hy
    rcases hget_hset_or hy with hy | rfl
    · rcases hget_hset_or hy with hy | rfl
      · rcases hget_hset_or hy with hy | rfl
        · exact .inl hy
        · exact .inr vals_lo
      · exact .inr bools_lo
    · exact .inr ⟨lF', lV', lR, trivial, trivial, trivial⟩
  have ym := fun h (e : ∀ b, b < H0.length → hget h b = hget H0 b) => y.mono (h' := h) e
  have hb := fun h e hI => ysum_ok (ym h e) A.hl[k] s (A.hf k) bI cI csI roI hI hIc hl hm hs1
  have hfi := fun h e id => yfield_ok (ym h e) id
  have hbi := fun h e id hm => ybits_ok (ym h e) id hm
  have dq : Int.tdiv ((A.sum (A.hf k) : Nat) : Int) 8 = ((A.sum (A.hf k) / 8 : Nat) : Int) := by rw [Int.tdiv_eq_ediv_of_nonneg (by omega)]; omega
  have hh := fun i hi => cut_get (i := i) hcI hi
  have hh2 := hh 2 (by omega)
  have hlen : ((nR - o : Nat) : Int) = (nR : Int) - o := by omega
  simp only [t39, cxCells]
  unfold cxCells at hp
  simp (disch := first | omega | (simp only [fsLen]; omega)) only [↓fsPre, fsPost, fsCond, fsGen, fsDefs, fsDefX, cls, eqVal, reduceCtorEq, Nat.reduceAdd, Nat.reduceMul, Nat.reduceSub, Nat.reduceLT, Nat.reduceLeDiff, Nat.reduceEqDiff, Nat.reduceBEq, Nat.reduceBNe, Int.reduceLT, Int.reduceLE, Int.reduceEq, Int.reduceNe, Int.reduceAdd, Int.reduceSub, Int.reduceNeg, Int.reduceToNat, Int.reduceMul, ↓reduceIte, Int.reduceGT, Int.reduceGE, o0, o2, o3, o4, o5, o6, o7, o8, o9, hH', hcI]
  refine callDT_one (hb _ (fun b hb => by simp (disch := first | omega | (simp only [fsLen]; omega)) only [↓fsPre, fsPost, fsCond, fsGen, fsDefs, fsDefX, cls, eqVal, reduceCtorEq, Nat.reduceAdd, Nat.reduceMul, Nat.reduceSub, Nat.reduceLT, Nat.reduceLeDiff, Nat.reduceEqDiff, Nat.reduceBEq, Nat.reduceBNe, Int.reduceLT, Int.reduceLE, Int.reduceEq, Int.reduceNe, Int.reduceAdd, Int.reduceSub, Int.reduceNeg, Int.reduceToNat, Int.reduceMul, ↓reduceIte, Int.reduceGT, Int.reduceGE]; exact old b hb) (by simp (disch := first | omega | (simp only [fsLen]; omega)) only [↓fsPre, fsPost, fsCond, fsGen, fsDefs, fsDefX, cls, eqVal, reduceCtorEq, Nat.reduceAdd, Nat.reduceMul, Nat.reduceSub, Nat.reduceLT, Nat.reduceLeDiff, Nat.reduceEqDiff, Nat.reduceBEq, Nat.reduceBNe, Int.reduceLT, Int.reduceLE, Int.reduceEq, Int.reduceNe, Int.reduceAdd, Int.reduceSub, Int.reduceNeg, Int.reduceToNat, Int.reduceMul, ↓reduceIte, Int.reduceGT, Int.reduceGE, hI'])) rfl ?_
  simp (disch := first | omega | (simp only [fsLen]; omega)) only [↓fsPre, fsPost, fsCond, fsGen, fsDefs, fsDefX, cls, eqVal, reduceCtorEq, Nat.reduceAdd, Nat.reduceMul, Nat.reduceSub, Nat.reduceLT, Nat.reduceLeDiff, Nat.reduceEqDiff, Nat.reduceBEq, Nat.reduceBNe, Int.reduceLT, Int.reduceLE, Int.reduceEq, Int.reduceNe, Int.reduceAdd, Int.reduceSub, Int.reduceNeg, Int.reduceToNat, Int.reduceMul, ↓reduceIte, Int.reduceGT, Int.reduceGE, dq, hp, o0, o2, o3, o4, o5, o6, o7, o8, o9, hH', hh2]
  refine wloop (fun j F h => F 1 = .ptr (some (p, 0)) ∧ F 2 = .int .i64 k ∧ F 3 = .ptr (some (H.length, 0)) ∧ F 7 = .int .i64 (A.sum (A.hf k) / 8 : Nat) ∧ F 8 = .int .i64 (A.sum ((A.hf k).take j) : Nat) ∧
    F 34 = .slice (some (bI, 0)) (A.hf k).length cI ∧ F 35 = .int .i64 (A.hf k).length ∧ F 36 = .int .i64 j ∧ H.length + 1 ≤ h.length ∧ hget h H.length = some (.cells [z0, .slice (some (bH, 0)) A.hl.length cH, z2, z3, z4, z5, z6, z7, z8, z9] false) ∧
    ∀ b, b < H.length → hget h b = hget (hset H bF (.cells (vals (A.run (fun i => d (o + i)) fl ((A.hf k).take j)).1) false)) b) (A.hf k).length ?_ ?_ ?_
  · simp (disch := first | omega | (simp only [fsLen]; omega)) only [↓fsPre, fsPost, fsCond, fsGen, fsDefs, fsDefX, cls, eqVal, reduceCtorEq, Nat.reduceAdd, Nat.reduceMul, Nat.reduceSub, Nat.reduceLT, Nat.reduceLeDiff, Nat.reduceEqDiff, Nat.reduceBEq, Nat.reduceBNe, Int.reduceLT, Int.reduceLE, Int.reduceEq, Int.reduceNe, Int.reduceAdd, Int.reduceSub, Int.reduceNeg, Int.reduceToNat, Int.reduceMul, ↓reduceIte, Int.reduceGT, Int.reduceGE]
    exact ⟨rfl, fun b hb => by rw [show (A.run (fun i => d (o + i)) fl []).1 = fl from rfl, hset_same hF]; exact hget_appl hb⟩
  · rintro j F h hj ⟨f1, f2, f3, f7, f8, f34, f35, f36, hlen2, hbox, hold⟩
    have hg := hIc j hj
    have hmem := hm _ (List.getElem_mem hj)
    have hwid := hw _ (List.getElem_mem hj)
    have hix := ixI_mem hmem
    have hlt := List.idxOf_lt_length_of_mem hmem
    have hst := A.sum_step hj
    have hle := A.sum_le (A.hf k) j
    have hle' := A.sum_le (A.hf k) (j + 1)
    have hr2 := A.run_2 (fun i => d (o + i)) fl (A.hf k) j (by omega)
    have hrl := A.run_len (fun i => d (o + i)) fl (A.hf k) j (by omega)
    have hrs := A.run_step (fun i => d (o + i)) fl hj
    generalize hrun : A.run (fun i => d (o + i)) fl ((A.hf k).take j) = rr at *
    have hI2 : hget h bI = some (.cells csI roI) := by rw [hold _ (by omega), hget_hset_ne (by omega)]; exact hI'
    have hp2 := (hold _ lp).trans ((hget_hset_ne (by omega)).trans hp)
    have hR2 := (hold _ lR).trans ((hget_hset_ne (by omega)).trans hR)
    have hF2 : hget h bF = some (.cells (vals rr.1) false) := by rw [hold _ lF', hget_hset_same lF']
    have old2 : ∀ b, b < H0.length → hget h b = hget H0 b := fun b hb => by rw [hold _ (by omega), hget_hset_ne (by omega)]; exact old b hb
    simp (disch := first | omega | (simp only [fsLen]; omega)) only [↓fsPre, fsPost, fsCond, fsGen, fsDefs, fsDefX, cls, eqVal, reduceCtorEq, Nat.reduceAdd, Nat.reduceMul, Nat.reduceSub, Nat.reduceLT, Nat.reduceLeDiff, Nat.reduceEqDiff, Nat.reduceBEq, Nat.reduceBNe, Int.reduceLT, Int.reduceLE, Int.reduceEq, Int.reduceNe, Int.reduceAdd, Int.reduceSub, Int.reduceNeg, Int.reduceToNat, Int.reduceMul, ↓reduceIte, Int.reduceGT, Int.reduceGE, f1, f2, f3, f7, f8, f34, f35, f36, hI2, hg, hbox, fill_bits]
    refine callT_one (hbi _ (fun b hb => by simp (disch := first | omega | (simp only [fsLen]; omega)) only [↓fsPre, fsPost, fsCond, fsGen, fsDefs, fsDefX, cls, eqVal, reduceCtorEq, Nat.reduceAdd, Nat.reduceMul, Nat.reduceSub, Nat.reduceLT, Nat.reduceLeDiff, Nat.reduceEqDiff, Nat.reduceBEq, Nat.reduceBNe, Int.reduceLT, Int.reduceLE, Int.reduceEq, Int.reduceNe, Int.reduceAdd, Int.reduceSub, Int.reduceNeg, Int.reduceToNat, Int.reduceMul, ↓reduceIte, Int.reduceGT, Int.reduceGE]; exact old2 b hb) _ hmem) rfl ?_
    obtain ⟨n, hn⟩ : ∃ n, n = A.bits (A.hf k)[j] := ⟨_, rfl⟩
    obtain ⟨nx, hnx⟩ : ∃ nx, nx = A.sum ((A.hf k).take j) := ⟨_, rfl⟩
    rw [← hn] at hwid hst ⊢
    rw [← hnx] at hst hle hr2 f8
    simp (disch := first | omega | (simp only [fsLen]; omega)) only [↓fsPre, fsPost, fsCond, fsGen, fsDefs, fsDefX, cls, eqVal, reduceCtorEq, Nat.reduceAdd, Nat.reduceMul, Nat.reduceSub, Nat.reduceLT, Nat.reduceLeDiff, Nat.reduceEqDiff, Nat.reduceBEq, Nat.reduceBNe, Int.reduceLT, Int.reduceLE, Int.reduceEq, Int.reduceNe, Int.reduceAdd, Int.reduceSub, Int.reduceNeg, Int.reduceToNat, Int.reduceMul, ↓reduceIte, Int.reduceGT, Int.reduceGE, f1, f2, f3, f7, f8, f34, f35, f36, hI2, hg, hbox, fill_bits]
    refine wloop (fun i F h1 => F 1 = .ptr (some (p, 0)) ∧ F 2 = .int .i64 k ∧ F 3 = .ptr (some (H.length, 0)) ∧ F 7 = .int .i64 (A.sum (A.hf k) / 8 : Nat) ∧ F 8 = .int .i64 (nx + i : Nat) ∧
      F 34 = .slice (some (bI, 0)) (A.hf k).length cI ∧ F 35 = .int .i64 (A.hf k).length ∧ F 36 = .int .i64 j ∧ F 10 = .int .i64 (A.hf k)[j] ∧ F 11 = .ptr (some (h.length, 0)) ∧ F 13 = .int .i64 ((n : Int) - 1 - i) ∧
      h1 = h ++ [some (.cells (bitsC (bitsTo (fun i => d (o + i)) nx n i)) false)]) n ?_ ?_ ?_
    · simp (disch := first | omega | (simp only [fsLen]; omega)) only [↓fsPre, fsPost, fsCond, fsGen, fsDefs, fsDefX, cls, eqVal, reduceCtorEq, Nat.reduceAdd, Nat.reduceMul, Nat.reduceSub, Nat.reduceLT, Nat.reduceLeDiff, Nat.reduceEqDiff, Nat.reduceBEq, Nat.reduceBNe, Int.reduceLT, Int.reduceLE, Int.reduceEq, Int.reduceNe, Int.reduceAdd, Int.reduceSub, Int.reduceNeg, Int.reduceToNat, Int.reduceMul, ↓reduceIte, Int.reduceGT, Int.reduceGE, f1, f2, f3, f7, f8, f34, f35, f36, bitsTo_zero]
    · rintro i F h1 hi ⟨f1, f2, f3, f7, f8, f34, f35, f36, f10, f11, f13, rfl⟩
      obtain ⟨q, hq⟩ : ∃ q, q = nx + i := ⟨_, rfl⟩
      rw [← hq] at f8
      have d1 : Int.tdiv (q : Int) 8 = ((q / 8 : Nat) : Int) := by rw [Int.tdiv_eq_ediv_of_nonneg (by omega)]; omega
      have d2 : Int.tmod (q : Int) 8 = ((q % 8 : Nat) : Int) := by rw [Int.tmod_eq_emod_of_nonneg (by omega)]; omega
      have d3 : (7 : Int) - ((q % 8 : Nat) : Int) = ((7 - q % 8 : Nat) : Int) := by omega
      have hR' : (arrC nR fun i => n8 (d i))[o + q / 8]? = some (n8 (d (o + q / 8))) := arrC_get (by omega)
      have hsh := n8_shr (x := d (o + q / 8)) (k := .u64) (b := ((7 - q % 8 : Nat) : Int)) (by omega)
      rw [Int.toNat_natCast] at hsh
      have e13 : ((n : Int) - 1 - i).toNat = n - 1 - i := by omega
      have hge : (0 : Int) ≤ (n : Int) - 1 - i := by omega
      have hbt := bitsTo_step (fun i => d (o + i)) (nx := nx) hi
      have hbv : bitAt (fun i => d (o + i)) (nx + i) = (d (o + q / 8)).getLsbD (7 - q % 8) := by rw [← hq]; rfl
      rw [hbv] at hbt
      have hq8 : ((q : Nat) : Int) + 1 = ((nx + (i + 1) : Nat) : Int) := by omega
      have e14 : (n : Int) - 1 - i - 1 = (n : Int) - 1 - ((i + 1 : Nat) : Int) := by omega
      simp (disch := first | omega | (simp only [fsLen]; omega)) only [↓fsPre, fsPost, fsCond, fsGen, fsDefs, cls, eqVal, vbGen, fill_bits, reduceCtorEq, Nat.reduceAdd, Nat.reduceMul, Nat.reduceSub, Nat.reduceLT, Nat.reduceLeDiff, Nat.reduceEqDiff, Nat.reduceBEq, Nat.reduceBNe, Int.reduceLT, Int.reduceLE, Int.reduceEq, Int.reduceNe, Int.reduceAdd, Int.reduceSub, Int.reduceNeg, Int.reduceToNat, Int.reduceMul, ↓reduceIte, Int.reduceGT, Int.reduceGE, f1, f2, f3, f7, f8, f34, f35, f36, f10, f11, f13, hp2, hR2, hR', d1, d2, d3, hsh, n8_and_c, n8_eql_c, bit8_at, e13, hbt, n8_one, n8_flat]
      exact ⟨by first | (congr 1; done) | (congr 1; omega), by first | (congr 1; done) | (congr 1; omega)⟩
    · rintro F h1 ⟨f1, f2, f3, f7, f8, f34, f35, f36, f10, f11, f13, rfl⟩
      have hge : ¬ (0 : Int) ≤ (n : Int) - 1 - n := by omega
      have hmk := fun H f => make_ok H f
      simp only [vnv] at hmk
      simp (disch := first | omega | (simp only [fsLen]; omega)) only [↓fsPre, fsPost, fsCond, fsGen, fsDefs, cls, eqVal, vbGen, fill_bits, reduceCtorEq, Nat.reduceAdd, Nat.reduceMul, Nat.reduceSub, Nat.reduceLT, Nat.reduceLeDiff, Nat.reduceEqDiff, Nat.reduceBEq, Nat.reduceBNe, Int.reduceLT, Int.reduceLE, Int.reduceEq, Int.reduceNe, Int.reduceAdd, Int.reduceSub, Int.reduceNeg, Int.reduceToNat, Int.reduceMul, ↓reduceIte, Int.reduceGT, Int.reduceGE, f1, f2, f3, f7, f8, f34, f35, f36, f10, f11, f13, hp2, hbox, hge]
      refine callDT_one (hfi _ (fun b hb => by simp (disch := first | omega | (simp only [fsLen]; omega)) only [↓fsPre, fsPost, fsCond, fsGen, fsDefs, fsDefX, cls, eqVal, reduceCtorEq, Nat.reduceAdd, Nat.reduceMul, Nat.reduceSub, Nat.reduceLT, Nat.reduceLeDiff, Nat.reduceEqDiff, Nat.reduceBEq, Nat.reduceBNe, Int.reduceLT, Int.reduceLE, Int.reduceEq, Int.reduceNe, Int.reduceAdd, Int.reduceSub, Int.reduceNeg, Int.reduceToNat, Int.reduceMul, ↓reduceIte, Int.reduceGT, Int.reduceGE]; exact old2 b hb) _) rfl ?_
      simp (disch := first | omega | (simp only [fsLen]; omega)) only [↓fsPre, fsPost, fsCond, fsGen, fsDefs, cls, eqVal, vbGen, fill_bits, reduceCtorEq, Nat.reduceAdd, Nat.reduceMul, Nat.reduceSub, Nat.reduceLT, Nat.reduceLeDiff, Nat.reduceEqDiff, Nat.reduceBEq, Nat.reduceBNe, Int.reduceLT, Int.reduceLE, Int.reduceEq, Int.reduceNe, Int.reduceAdd, Int.reduceSub, Int.reduceNeg, Int.reduceToNat, Int.reduceMul, ↓reduceIte, Int.reduceGT, Int.reduceGE, f1, f2, f3, f7, f8, f34, f35, f36, f10, f11, f13, hp2, hbox, hge, hix]
      refine callDT_one (hmk _ _) rfl ?_
      rw [bitsTo_all]
      simp (disch := first | omega | (simp only [fsLen]; omega)) only [↓fsPre, fsPost, fsCond, fsGen, fsDefs, cls, eqVal, vbGen, fill_bits, reduceCtorEq, Nat.reduceAdd, Nat.reduceMul, Nat.reduceSub, Nat.reduceLT, Nat.reduceLeDiff, Nat.reduceEqDiff, Nat.reduceBEq, Nat.reduceBNe, Int.reduceLT, Int.reduceLE, Int.reduceEq, Int.reduceNe, Int.reduceAdd, Int.reduceSub, Int.reduceNeg, Int.reduceToNat, Int.reduceMul, ↓reduceIte, Int.reduceGT, Int.reduceGE, f1, f2, f3, f7, f8, f34, f35, f36, f10, f11, f13, hp2, hF2, hbox, hge, hix, vals_length, vals_set, hrl, lF]
      refine ⟨by rw [hst, hnx]; push_cast; rfl, by omega, fun b hb => ?_⟩
      have e1 : (A.run (fun i => d (o + i)) fl (List.take (j + 1) (A.hf k))).1 = rr.1.set (List.idxOf (A.hf k)[j] A.l) (takeV (fun i => d (o + i)) nx n) := by
        rw [hrs]
        show rr.1.set _ (takeV _ rr.2 (A.bits (A.hf k)[j])) = _
        rw [hr2, hn]
      rw [hget_appl (by rw [length_hset]; omega), e1]
      by_cases h1 : b = bF
      · subst h1
        rw [hget_hset_same (by omega), hget_hset_same lF']
      · rw [hget_hset_ne (Ne.symm h1), hget_hset_ne (Ne.symm h1), hold b hb, hget_hset_ne (Ne.symm h1)]
  · rintro F h ⟨f1, f2, f3, f7, f8, f34, f35, f36, hlen2, hbox, hold⟩
    rw [List.take_length] at hold
    have hp2 := (hold _ lp).trans ((hget_hset_ne (by omega)).trans hp)
    have hV2 := (hold _ lV').trans ((hget_hset_ne (by omega)).trans hV)
    simp (disch := first | omega | (simp only [fsLen]; omega)) only [↓fsPre, fsPost, fsCond, fsGen, fsDefs, fsDefX, cls, eqVal, reduceCtorEq, Nat.reduceAdd, Nat.reduceMul, Nat.reduceSub, Nat.reduceLT, Nat.reduceLeDiff, Nat.reduceEqDiff, Nat.reduceBEq, Nat.reduceBNe, Int.reduceLT, Int.reduceLE, Int.reduceEq, Int.reduceNe, Int.reduceAdd, Int.reduceSub, Int.reduceNeg, Int.reduceToNat, Int.reduceMul, ↓reduceIte, Int.reduceGT, Int.reduceGE, f1, f2, f3, f7, f8, f34, f35, f36, hp2, hV2, hbox, bools_length, bools_set, lV]
    refine heap_grow2 (by simp only [length_hset]; omega) fun b hb => ?_
    simp only [length_hset] at hb
    by_cases h1 : b = p
    · subst h1
      rw [hget_hset_same (by rw [length_hset]; omega), hget_hset_same (by simp only [length_hset]; omega)]
    · rw [hget_hset_ne (Ne.symm h1), hget_hset_ne (Ne.symm h1)]
      by_cases h2 : b = bV
      · subst h2
        rw [hget_hset_same (by omega), hget_hset_same (by rw [length_hset]; omega)]
      · rw [hget_hset_ne (Ne.symm h2), hget_hset_ne (Ne.symm h2), hold b hb]

theorem rheader_short {A : XA} {H0 : Heap} {z0 z1 z2 z3 z4 z5 z6 z7 z8 z9 : NV} (y : YAt A H0 z0 z1 z2 z3 z4 z5 z6 z7 z8 z9) (H : Heap) (old : ∀ b, b < H0.length → hget H b = hget H0 b)
    (p m k : Nat) (a : Option (Nat × Nat)) (c : Cap) (vF vV : NV) (st : Int) (gp : H0.length ≤ p)
    (hp : hget H p = some (.cells (cxCells vF vV (.slice a m c) st) false)) (hk : k < A.hl.length) (hN : m ≤ 1000) (hsz : m < A.sum (A.hf k) / 8) :
    NCall Try.prog 39 [.agg [z0, z1, z2, z3, z4, z5, z6, z7, z8, z9], .ptr (some (p, 0)), .int .i64 k] H fun r => r = (.bool false, H) := by
  obtain ⟨o0, o1, o2, o3, o4, o5, o6, o7, o8, o9⟩ := y.x.ones
  have lp := hget_some_lt hp
  obtain ⟨hl, hm, hs0, hs1, hs8⟩ := y.x.ok.hf k hk
  obtain ⟨bH, cH, csH, roH, rfl, hH, hrH⟩ := y.x.g
  obtain ⟨s, bI, cI, csI, roI, hcI, hI, hIc⟩ := hrH k hk
  have lH := hget_some_lt hH
  have lI := hget_some_lt hI
  have hH' := (old _ lH).trans hH
  have hI' := (old _ lI).trans hI
  refine call_pure E0 mixed t39_ok (by kernel_rfl) trivial ?_
  have xm := fun h (e : ∀ b, b < H0.length → hget h b = hget H0 b) => y.mono (h' := h) e
  have hb := fun h e hI => ysum_ok (xm h e) A.hl[k] s (A.hf k) bI cI csI roI hI hIc hl hm hs1
  have dq : Int.tdiv ((A.sum (A.hf k) : Nat) : Int) 8 = ((A.sum (A.hf k) / 8 : Nat) : Int) := by rw [Int.tdiv_eq_ediv_of_nonneg (by omega)]; omega
  simp only [t39, cxCells]
  unfold cxCells at hp
  simp (disch := first | omega | (simp only [fsLen]; omega)) only [↓fsPre, fsPost, fsCond, fsGen, fsDefs, fsDefX, cls, eqVal, reduceCtorEq, Nat.reduceAdd, Nat.reduceMul, Nat.reduceSub, Nat.reduceLT, Nat.reduceLeDiff, Nat.reduceEqDiff, Nat.reduceBEq, Nat.reduceBNe, Int.reduceLT, Int.reduceLE, Int.reduceEq, Int.reduceNe, Int.reduceAdd, Int.reduceSub, Int.reduceNeg, Int.reduceToNat, Int.reduceMul, ↓reduceIte, Int.reduceGT, Int.reduceGE, o0, o2, o3, o4, o5, o6, o7, o8, o9, hH', hcI]
  refine callDT_one (hb _ (fun b hb => by simp (disch := first | omega | (simp only [fsLen]; omega)) only [↓fsPre, fsPost, fsCond, fsGen, fsDefs, fsDefX, cls, eqVal, reduceCtorEq, Nat.reduceAdd, Nat.reduceMul, Nat.reduceSub, Nat.reduceLT, Nat.reduceLeDiff, Nat.reduceEqDiff, Nat.reduceBEq, Nat.reduceBNe, Int.reduceLT, Int.reduceLE, Int.reduceEq, Int.reduceNe, Int.reduceAdd, Int.reduceSub, Int.reduceNeg, Int.reduceToNat, Int.reduceMul, ↓reduceIte, Int.reduceGT, Int.reduceGE]; exact old b hb) (by simp (disch := first | omega | (simp only [fsLen]; omega)) only [↓fsPre, fsPost, fsCond, fsGen, fsDefs, fsDefX, cls, eqVal, reduceCtorEq, Nat.reduceAdd, Nat.reduceMul, Nat.reduceSub, Nat.reduceLT, Nat.reduceLeDiff, Nat.reduceEqDiff, Nat.reduceBEq, Nat.reduceBNe, Int.reduceLT, Int.reduceLE, Int.reduceEq, Int.reduceNe, Int.reduceAdd, Int.reduceSub, Int.reduceNeg, Int.reduceToNat, Int.reduceMul, ↓reduceIte, Int.reduceGT, Int.reduceGE, hI'])) rfl ?_
  simp (disch := first | omega | (simp only [fsLen]; omega)) only [↓fsPre, fsPost, fsCond, fsGen, fsDefs, fsDefX, cls, eqVal, reduceCtorEq, Nat.reduceAdd, Nat.reduceMul, Nat.reduceSub, Nat.reduceLT, Nat.reduceLeDiff, Nat.reduceEqDiff, Nat.reduceBEq, Nat.reduceBNe, Int.reduceLT, Int.reduceLE, Int.reduceEq, Int.reduceNe, Int.reduceAdd, Int.reduceSub, Int.reduceNeg, Int.reduceToNat, Int.reduceMul, ↓reduceIte, Int.reduceGT, Int.reduceGE, dq, hp]
  exact ⟨_, rfl⟩

set_option maxHeartbeats 1000000 in
theorem rnext0_ok {A : XA} {H : Heap} {z0 z1 z2 z3 z4 z5 z6 z7 z8 z9 : NV} (y : YAt A H z0 z1 z2 z3 z4 z5 z6 z7 z8 z9) (vF vV vR cv : NV) (st id hd df : Int) (ov : vF.one = true ∧ vV.one = true ∧ vR.one = true ∧ cv.one = true) :
    NCall Try.prog 41 [.agg [z0, z1, z2, z3, z4, z5, z6, z7, z8, z9], .agg (cxCells vF vV vR st), .agg [.int .i64 id, .int .i64 hd, .int .i64 0, cv, .int .i64 df]] H fun r => r = (.int .i64 df, H) := by
  obtain ⟨o0, o1, o2, o3, o4, o5, o6, o7, o8, o9⟩ := y.x.ones
  obtain ⟨v1, v2, v3, v4⟩ := ov
  refine call_pure E0 mixed t41_ok (by kernel_rfl) trivial ?_
  simp only [t41, cxCells]
  simp (disch := first | omega | (simp only [fsLen]; omega)) only [↓fsPre, fsPost, fsCond, fsGen, fsDefs, fsDefX, cls, eqVal, reduceCtorEq, Nat.reduceAdd, Nat.reduceMul, Nat.reduceSub, Nat.reduceLT, Nat.reduceLeDiff, Nat.reduceEqDiff, Nat.reduceBEq, Nat.reduceBNe, Int.reduceLT, Int.reduceLE, Int.reduceEq, Int.reduceNe, Int.reduceAdd, Int.reduceSub, Int.reduceNeg, Int.reduceToNat, Int.reduceMul, ↓reduceIte, Int.reduceGT, Int.reduceGE, o0, o1, o2, o3, o4, o5, o6, o7, o8, o9, v1, v2, v3, v4]
  exact ⟨_, rfl⟩

set_option maxHeartbeats 1000000 in
theorem rnext_ok' {A : XA} {H : Heap} {z0 z1 z2 z3 z4 z5 z6 z7 z8 z9 : NV} (y : YAt A H z0 z1 z2 z3 z4 z5 z6 z7 z8 z9) (bF : Nat) (cF : Cap) (vV vR cv : NV) (st id hd sel df : Int) (ks : List XCase) (fl : List (BitVec 128)) (ov : vV.one = true ∧ vR.one = true)
    (hF : hget H bF = some (.cells (vals fl) false)) (lF : fl.length = A.l.length) (hs : sel ∈ A.l) (h0 : sel ≠ 0) (hc : CasesAt H cv ks) (hl : ks.length ≤ 100) :
    NCall Try.prog 41 [.agg [z0, z1, z2, z3, z4, z5, z6, z7, z8, z9], .agg (cxCells (.slice (some (bF, 0)) A.l.length cF) vV vR st), .agg [.int .i64 id, .int .i64 hd, .int .i64 sel, cv, .int .i64 df]] H
      fun r => r = (.int .i64 (pick (fl.getD (A.l.idxOf sel) 0#128) df ks), H) := by
  obtain ⟨o0, o1, o2, o3, o4, o5, o6, o7, o8, o9⟩ := y.x.ones
  obtain ⟨v1, v2⟩ := ov
  have lF' := hget_some_lt hF
  have hix := ixI_mem hs
  have hlt := List.idxOf_lt_length_of_mem hs
  have hlt' : A.l.idxOf sel < fl.length := by omega
  have hcut := vals_cut hlt'
  have hgd : fl.getD (A.l.idxOf sel) 0#128 = fl[A.l.idxOf sel] := by simp [List.getD, hlt']
  rw [hgd]
  generalize fl[A.l.idxOf sel] = v at *
  obtain ⟨a, c, rfl, hks⟩ := hc
  have xm := fun L => y.mono (h' := H ++ L) fun b hb => hget_appl hb
  have hfi := fun L => yfield_ok (xm L) sel
  have ha := fun H a b => rand_ok H a b
  refine call_pure E0 mixed t41_ok (by kernel_rfl) trivial ?_
  simp only [t41, cxCells, vnv] at ha ⊢
  simp (disch := first | omega | (simp only [fsLen]; omega)) only [↓fsPre, fsPost, fsCond, fsGen, fsDefs, cls, eqVal, vbGen, fill_bits, reduceCtorEq, Nat.reduceAdd, Nat.reduceMul, Nat.reduceSub, Nat.reduceLT, Nat.reduceLeDiff, Nat.reduceEqDiff, Nat.reduceBEq, Nat.reduceBNe, Int.reduceLT, Int.reduceLE, Int.reduceEq, Int.reduceNe, Int.reduceAdd, Int.reduceSub, Int.reduceNeg, Int.reduceToNat, Int.reduceMul, ↓reduceIte, Int.reduceGT, Int.reduceGE, o0, o1, o2, o3, o4, o5, o6, o7, o8, o9, v1, v2, h0]
  refine callDT_one (hfi _) rfl ?_
  simp (disch := first | omega | (simp only [fsLen]; omega)) only [↓fsPre, fsPost, fsCond, fsGen, fsDefs, cls, eqVal, vbGen, fill_bits, reduceCtorEq, Nat.reduceAdd, Nat.reduceMul, Nat.reduceSub, Nat.reduceLT, Nat.reduceLeDiff, Nat.reduceEqDiff, Nat.reduceBEq, Nat.reduceBNe, Int.reduceLT, Int.reduceLE, Int.reduceEq, Int.reduceNe, Int.reduceAdd, Int.reduceSub, Int.reduceNeg, Int.reduceToNat, Int.reduceMul, ↓reduceIte, Int.reduceGT, Int.reduceGE, hix, hF, hcut, nb_one]
  refine wloop (fun j F h => F 4 = .ptr (some (H.length + 1, 0)) ∧ F 5 = .ptr (some (H.length + 2, 0)) ∧ F 7 = .ptr (some (H.length + 3, 0)) ∧ F 24 = .slice a ks.length c ∧ F 25 = .int .i64 ks.length ∧ F 26 = .int .i64 j ∧ H.length + 4 ≤ h.length ∧
    (∀ b, b < H.length → hget h b = hget H b) ∧ hget h (H.length + 2) = some (.cells [.int .i64 id, .int .i64 hd, .int .i64 sel, .slice a ks.length c, .int .i64 df] false) ∧ hget h (H.length + 3) = some (.cells [nb (hiOf v), nb (loOf v)] false) ∧
    pick v df (ks.drop j) = pick v df ks) ks.length ?_ ?_ ?_
  · simp (disch := first | omega | (simp only [fsLen]; omega)) only [↓fsPre, fsPost, fsCond, fsGen, fsDefs, cls, eqVal, vbGen, fill_bits, reduceCtorEq, Nat.reduceAdd, Nat.reduceMul, Nat.reduceSub, Nat.reduceLT, Nat.reduceLeDiff, Nat.reduceEqDiff, Nat.reduceBEq, Nat.reduceBNe, Int.reduceLT, Int.reduceLE, Int.reduceEq, Int.reduceNe, Int.reduceAdd, Int.reduceSub, Int.reduceNeg, Int.reduceToNat, Int.reduceMul, ↓reduceIte, Int.reduceGT, Int.reduceGE]
    intro b hb
    simp (disch := first | omega | (simp only [fsLen]; omega)) only [↓fsPre, fsPost, fsCond, fsGen, fsDefs, cls, eqVal, vbGen, fill_bits, reduceCtorEq, Nat.reduceAdd, Nat.reduceMul, Nat.reduceSub, Nat.reduceLT, Nat.reduceLeDiff, Nat.reduceEqDiff, Nat.reduceBEq, Nat.reduceBNe, Int.reduceLT, Int.reduceLE, Int.reduceEq, Int.reduceNe, Int.reduceAdd, Int.reduceSub, Int.reduceNeg, Int.reduceToNat, Int.reduceMul, ↓reduceIte, Int.reduceGT, Int.reduceGE]
  · rintro j F h hj ⟨f4, f5, f7, f24, f25, f26, hlen, hold, g2, g3, hpk⟩
    obtain ⟨bc, cs, ro, rfl, hbc, hrow⟩ := hks (by omega)
    have lbc := hget_some_lt hbc
    have hbc' := (hold _ lbc).trans hbc
    have hcj := hrow j hj
    rw [List.drop_eq_getElem_cons hj] at hpk
    simp only [pick] at hpk
    generalize ks[j] = kj at *
    simp (disch := first | omega | (simp only [fsLen]; omega)) only [↓fsPre, fsPost, fsCond, fsGen, fsDefs, cls, eqVal, vbGen, fill_bits, reduceCtorEq, Nat.reduceAdd, Nat.reduceMul, Nat.reduceSub, Nat.reduceLT, Nat.reduceLeDiff, Nat.reduceEqDiff, Nat.reduceBEq, Nat.reduceBNe, Int.reduceLT, Int.reduceLE, Int.reduceEq, Int.reduceNe, Int.reduceAdd, Int.reduceSub, Int.reduceNeg, Int.reduceToNat, Int.reduceMul, ↓reduceIte, Int.reduceGT, Int.reduceGE, f4, f5, f7, f24, f25, f26, hbc', hcj, XCase.cells, nb_one, g2, g3]
    refine callDT_one (ha _ _ _) rfl ?_
    simp (disch := first | omega | (simp only [fsLen]; omega)) only [↓fsPre, fsPost, fsCond, fsGen, fsDefs, cls, eqVal, vbGen, fill_bits, reduceCtorEq, Nat.reduceAdd, Nat.reduceMul, Nat.reduceSub, Nat.reduceLT, Nat.reduceLeDiff, Nat.reduceEqDiff, Nat.reduceBEq, Nat.reduceBNe, Int.reduceLT, Int.reduceLE, Int.reduceEq, Int.reduceNe, Int.reduceAdd, Int.reduceSub, Int.reduceNeg, Int.reduceToNat, Int.reduceMul, ↓reduceIte, Int.reduceGT, Int.reduceGE, f4, f5, f7, f24, f25, f26, nb_one, g2, g3]
    rw [words_eq, Bool.beq_eq_decide_eq]
    refine condK_dec (fun he => ?_) (fun he => ?_)
    · simp (disch := first | omega | (simp only [fsLen]; omega)) only [↓fsPre, fsPost, fsCond, fsGen, fsDefs, cls, eqVal, vbGen, fill_bits, reduceCtorEq, Nat.reduceAdd, Nat.reduceMul, Nat.reduceSub, Nat.reduceLT, Nat.reduceLeDiff, Nat.reduceEqDiff, Nat.reduceBEq, Nat.reduceBNe, Int.reduceLT, Int.reduceLE, Int.reduceEq, Int.reduceNe, Int.reduceAdd, Int.reduceSub, Int.reduceNeg, Int.reduceToNat, Int.reduceMul, ↓reduceIte, Int.reduceGT, Int.reduceGE, f4, f5, f7, f24, f25, f26]
      rw [if_pos he] at hpk
      refine ⟨by rw [← hpk], heap_grow (by simp only [List.length_append]; omega) fun b hb => ?_⟩
      simp (disch := first | omega | (simp only [fsLen]; omega)) only [↓fsPre, fsPost, fsCond, fsGen, fsDefs, cls, eqVal, vbGen, fill_bits, reduceCtorEq, Nat.reduceAdd, Nat.reduceMul, Nat.reduceSub, Nat.reduceLT, Nat.reduceLeDiff, Nat.reduceEqDiff, Nat.reduceBEq, Nat.reduceBNe, Int.reduceLT, Int.reduceLE, Int.reduceEq, Int.reduceNe, Int.reduceAdd, Int.reduceSub, Int.reduceNeg, Int.reduceToNat, Int.reduceMul, ↓reduceIte, Int.reduceGT, Int.reduceGE]
      exact hold b hb
    · simp (disch := first | omega | (simp only [fsLen]; omega)) only [↓fsPre, fsPost, fsCond, fsGen, fsDefs, cls, eqVal, vbGen, fill_bits, reduceCtorEq, Nat.reduceAdd, Nat.reduceMul, Nat.reduceSub, Nat.reduceLT, Nat.reduceLeDiff, Nat.reduceEqDiff, Nat.reduceBEq, Nat.reduceBNe, Int.reduceLT, Int.reduceLE, Int.reduceEq, Int.reduceNe, Int.reduceAdd, Int.reduceSub, Int.reduceNeg, Int.reduceToNat, Int.reduceMul, ↓reduceIte, Int.reduceGT, Int.reduceGE, f4, f5, f7, f24, f25, f26, g2, g3]
      rw [if_neg he] at hpk
      refine ⟨by omega, fun b hb => ?_, hpk⟩
      simp (disch := first | omega | (simp only [fsLen]; omega)) only [↓fsPre, fsPost, fsCond, fsGen, fsDefs, cls, eqVal, vbGen, fill_bits, reduceCtorEq, Nat.reduceAdd, Nat.reduceMul, Nat.reduceSub, Nat.reduceLT, Nat.reduceLeDiff, Nat.reduceEqDiff, Nat.reduceBEq, Nat.reduceBNe, Int.reduceLT, Int.reduceLE, Int.reduceEq, Int.reduceNe, Int.reduceAdd, Int.reduceSub, Int.reduceNeg, Int.reduceToNat, Int.reduceMul, ↓reduceIte, Int.reduceGT, Int.reduceGE]
      exact hold b hb
  · rintro F h ⟨f4, f5, f7, f24, f25, f26, hlen, hold, g2, g3, hpk⟩
    simp (disch := first | omega | (simp only [fsLen]; omega)) only [↓fsPre, fsPost, fsCond, fsGen, fsDefs, cls, eqVal, vbGen, fill_bits, reduceCtorEq, Nat.reduceAdd, Nat.reduceMul, Nat.reduceSub, Nat.reduceLT, Nat.reduceLeDiff, Nat.reduceEqDiff, Nat.reduceBEq, Nat.reduceBNe, Int.reduceLT, Int.reduceLE, Int.reduceEq, Int.reduceNe, Int.reduceAdd, Int.reduceSub, Int.reduceNeg, Int.reduceToNat, Int.reduceMul, ↓reduceIte, Int.reduceGT, Int.reduceGE, f4, f5, f7, f24, f25, f26, g2]
    rw [List.drop_length] at hpk
    exact ⟨by rw [← hpk]; rfl, heap_grow (by omega) hold⟩

structure CxR (A : XA) (h : Heap) (M L N p bF bV : Nat) (cF cV : Cap) (m : Nat) (d : Nat → BitVec 8) (c : Cx) : Prop where
  gM : M ≤ L
  gL : L ≤ p
  gp : p < N
  gF : N ≤ bF
  gV : N ≤ bV
  ne : bF ≠ bV
  hF : hget h bF = some (.cells (vals c.fl) false)
  hV : hget h bV = some (.cells (bools c.vl) false)
  lF : c.fl.length = A.l.length
  lV : c.vl.length = A.hl.length
  hp : ∃ vR, hget h p = some (.cells (cxCells (.slice (some (bF, 0)) A.l.length cF) (.slice (some (bV, 0)) A.hl.length cV) vR c.st) false) ∧ RestAt h M vR m d c.o ∧ ∀ b o n c, vR = .slice (some (b, o)) n c → b < L

theorem CxR.keep {A : XA} {h h' : Heap} {M L N p bF bV : Nat} {cF cV : Cap} {m : Nat} {d : Nat → BitVec 8} {c : Cx} (x : CxR A h M L N p bF bV cF cV m d c) (e : ∀ b, b < h.length → b < L ∨ b = p ∨ b = bF ∨ b = bV → hget h' b = hget h b) : CxR A h' M L N p bF bV cF cV m d c := by
  obtain ⟨vR, h1, h2, h3⟩ := x.hp
  refine ⟨x.gM, x.gL, x.gp, x.gF, x.gV, x.ne, by rw [e _ (hget_lt x.hF) (.inr (.inr (.inl rfl)))]; exact x.hF, by rw [e _ (hget_lt x.hV) (.inr (.inr (.inr rfl)))]; exact x.hV, x.lF, x.lV, vR, by rw [e _ (hget_lt h1) (.inr (.inl rfl))]; exact h1, ?_, h3⟩
  rcases h2 with h2 | ⟨b, h4, h5, h6, h7⟩
  · exact .inl h2
  · exact .inr ⟨b, h4, h5, h6, by rw [e _ (hget_lt h7) (.inl (h3 _ _ _ _ h5))]; exact h7⟩

theorem rheader_D {A : XA} {H0 : Heap} {z0 z1 z2 z3 z4 z5 z6 z7 z8 z9 : NV} (x : YAt A H0 z0 z1 z2 z3 z4 z5 z6 z7 z8 z9) (H : Heap) (old : ∀ b, b < H0.length → hget H b = hget H0 b) {M L N p bF bV : Nat} {cF cV : Cap} {m : Nat} {d : Nat → BitVec 8} {c : Cx}
    (y : CxR A H M L N p bF bV cF cV m d c) (gp : H0.length ≤ L) (k : Nat) (hk : k < A.hl.length) (hm : m ≤ 1000) (hs : A.sum (A.hf k) / 8 ≤ m - c.o) (hw : ∀ id ∈ A.hf k, A.bits id ≤ 128) :
    DCall Try.prog 39 [.agg [z0, z1, z2, z3, z4, z5, z6, z7, z8, z9], .ptr (some (p, 0)), .int .i64 k] H fun r => r.1 = .bool true ∧ r.2.length = H.length ∧ (∀ b, b ≠ p → b ≠ bF → b ≠ bV → hget r.2 b = hget H b) ∧ CxR A r.2 M L N p bF bV cF cV m d (A.hdr d c k) := by
  obtain ⟨gM, g0, g1, g2, g3, g4, hF, hV, lF, lV, vR, hp, hR, hsep⟩ := y
  have h8 := (x.x.ok.hf k hk).2.2.1
  rcases hR with ⟨h1, h2, _⟩ | ⟨b, h1, rfl, h3, h4⟩
  · exfalso; omega
  have hbL := hsep b c.o _ _ rfl
  have lp := hget_some_lt hp
  have lF' := hget_some_lt hF
  have lV' := hget_some_lt hV
  have lb := hget_some_lt h4
  refine ⟨_, _, rheader_ok x H old p bF bV b c.o m k cF cV c.st c.fl c.vl d (by omega) (by omega) (by omega) (by omega) (by omega) g4 (by omega) (by omega) (by omega) hp hF hV h4 lF lV hk h3 hm hs hw, rfl, by simp only [length_hset], fun b' e1 e2 e3 => ?_, ⟨gM, g0, g1, g2, g3, g4, ?_, ?_, ?_, ?_, .slice (some (b, c.o + A.sum (A.hf k) / 8)) (m - c.o - A.sum (A.hf k) / 8) (.opn 1), ?_, .inr ⟨b, h1, ?_, ?_, ?_⟩, ?_⟩⟩
  · show hget (hset (hset (hset H bF _) bV _) p _) b' = _
    rw [hget_hset_ne (Ne.symm e1), hget_hset_ne (Ne.symm e3), hget_hset_ne (Ne.symm e2)]
  · show hget (hset (hset (hset H bF _) bV _) p _) bF = _
    rw [hget_hset_ne (by omega), hget_hset_ne (Ne.symm g4), hget_hset_same lF']; rfl
  · show hget (hset (hset (hset H bF _) bV _) p _) bV = _
    rw [hget_hset_ne (by omega), hget_hset_same (by rw [length_hset]; exact lV')]; rfl
  · show (A.run _ _ _).1.length = _
    rw [A.run_full]; exact lF
  · show (c.vl.set k true).length = _
    rw [List.length_set]; exact lV
  · show hget (hset (hset (hset H bF _) bV _) p _) p = _
    rw [hget_hset_same (by rw [length_hset, length_hset]; exact lp)]; rfl
  · show NV.slice (some (b, c.o + A.sum (A.hf k) / 8)) (m - c.o - A.sum (A.hf k) / 8) (.opn 1) = .slice (some (b, c.o + A.sum (A.hf k) / 8)) (m - (c.o + A.sum (A.hf k) / 8)) (.opn 1)
    rw [Nat.sub_sub]
  · show c.o + A.sum (A.hf k) / 8 ≤ m
    omega
  · show hget (hset (hset (hset H bF _) bV _) p _) b = _
    rw [hget_hset_ne (by omega), hget_hset_ne (by omega), hget_hset_ne (by omega)]; exact h4
  · intro b' o' n' c' e
    cases e
    exact hbL
theorem rheader_N {A : XA} {H0 : Heap} {z0 z1 z2 z3 z4 z5 z6 z7 z8 z9 : NV} (x : YAt A H0 z0 z1 z2 z3 z4 z5 z6 z7 z8 z9) (H : Heap) (old : ∀ b, b < H0.length → hget H b = hget H0 b) {M L N p bF bV : Nat} {cF cV : Cap} {m : Nat} {d : Nat → BitVec 8} {c : Cx}
    (y : CxR A H M L N p bF bV cF cV m d c) (gp : H0.length ≤ p) (k : Nat) (hk : k < A.hl.length) (hm : m ≤ 1000) (hs : ¬ A.sum (A.hf k) / 8 ≤ m - c.o) :
    NCall Try.prog 39 [.agg [z0, z1, z2, z3, z4, z5, z6, z7, z8, z9], .ptr (some (p, 0)), .int .i64 k] H fun r => r = (.bool false, H) := by
  obtain ⟨vR, hp, hR, hsep⟩ := y.hp
  rcases hR with ⟨h1, h2, a, rfl, _⟩ | ⟨b, h1, rfl, h3, h4⟩
  · exact rheader_short x H old p _ k _ _ _ _ _ gp hp hk (by omega) (by omega)
  · exact rheader_short x H old p _ k _ _ _ _ _ gp hp hk (by omega) (by omega)
theorem rnextD {A : XA} {H : Heap} {z0 z1 z2 z3 z4 z5 z6 z7 z8 z9 : NV} (x : YAt A H z0 z1 z2 z3 z4 z5 z6 z7 z8 z9) {M L N p bF bV : Nat} {cF cV : Cap} {m : Nat} {d : Nat → BitVec 8} {c : Cx} (y : CxR A H M L N p bF bV cF cV m d c) (vR cv : NV) (id : Int) (s : XSt)
    (oR : vR.one = true) (hc : CasesAt H cv s.cases) (hs : s.sel = 0 ∨ s.sel ∈ A.l) (hl : s.cases.length ≤ 100) :
    NCall Try.prog 41 [.agg [z0, z1, z2, z3, z4, z5, z6, z7, z8, z9], .agg (cxCells (.slice (some (bF, 0)) A.l.length cF) (.slice (some (bV, 0)) A.hl.length cV) vR c.st), .agg [.int .i64 id, .int .i64 s.hd, .int .i64 s.sel, cv, .int .i64 s.dflt]] H
      fun r => r = (.int .i64 (A.next c.fl s), H) := by
  unfold XA.next
  by_cases h0 : s.sel = 0
  · rw [if_pos h0, h0]
    exact rnext0_ok x _ _ _ _ _ _ _ _ ⟨rfl, rfl, oR, hc.one⟩
  · rw [if_neg h0]
    exact rnext_ok' x bF cF _ _ _ _ _ _ _ _ _ _ ⟨rfl, oR⟩ y.hF y.lF (hs.resolve_left h0) h0 hc hl
theorem CxR.at {A : XA} {h : Heap} {M L N p bF bV : Nat} {cF cV : Cap} {m : Nat} {d : Nat → BitVec 8} {c : Cx} (y : CxR A h M L N p bF bV cF cV m d c) : ∃ vR, hget h p = some (.cells (cxCells (.slice (some (bF, 0)) A.l.length cF) (.slice (some (bV, 0)) A.hl.length cV) vR c.st) false) ∧ vR.one = true ∧
    ∀ h', (∀ b, b < L ∨ N ≤ b → b < h.length → hget h' b = hget h b) → CxAt A h' M m d c.fl c.vl c.o c.st (.agg (cxCells (.slice (some (bF, 0)) A.l.length cF) (.slice (some (bV, 0)) A.hl.length cV) vR c.st)) := by
  obtain ⟨gM, g0, g1, g2, g3, g4, hF, hV, lF, lV, vR, hp, hR, hsep⟩ := y
  refine ⟨vR, hp, hR.one, fun h' e => ⟨bF, bV, cF, cV, vR, rfl, by omega, by omega, g4, by rw [e _ (.inr g2) (hget_lt hF)]; exact hF, by rw [e _ (.inr g3) (hget_lt hV)]; exact hV, lF, lV, ?_, fun b o n c e => ?_⟩⟩
  · rcases hR with hR | ⟨b, h4, h5, h6, h7⟩
    · exact .inl hR
    · exact .inr ⟨b, h4, h5, h6, by rw [e _ (.inl (hsep _ _ _ _ h5)) (hget_lt h7)]; exact h7⟩
  · have := hsep b o n c e
    omega
theorem CxR.tick {A : XA} {h : Heap} {M L N p bF bV : Nat} {cF cV : Cap} {m : Nat} {d : Nat → BitVec 8} {c : Cx} (y : CxR A h M L N p bF bV cF cV m d c) {vR : NV} (e : hget h p = some (.cells (cxCells (.slice (some (bF, 0)) A.l.length cF) (.slice (some (bV, 0)) A.hl.length cV) vR c.st) false)) :
    CxR A (hset h p (.cells (cxCells (.slice (some (bF, 0)) A.l.length cF) (.slice (some (bV, 0)) A.hl.length cV) vR (c.tick.st)) false)) M L N p bF bV cF cV m d c.tick := by
  obtain ⟨gM, g0, g1, g2, g3, g4, hF, hV, lF, lV, vR', hp, hR, hsep⟩ := y
  have e2 := hp.symm.trans e
  simp only [Option.some.injEq, NBlk.cells.injEq, cxCells, List.cons.injEq, and_true, true_and] at e2
  subst e2
  refine ⟨gM, g0, g1, g2, g3, g4, by rw [hget_hset_ne (by omega)]; exact hF, by rw [hget_hset_ne (by omega)]; exact hV, lF, lV, vR', by rw [hget_hset_same (hget_lt hp)], ?_, hsep⟩
  rcases hR with h2 | ⟨b, h4, h5, h6, h7⟩
  · exact .inl h2
  · have := hsep _ _ _ _ h5
    exact .inr ⟨b, h4, h5, h6, by rw [hget_hset_ne (by omega)]; exact h7⟩
end Go.Proofs
