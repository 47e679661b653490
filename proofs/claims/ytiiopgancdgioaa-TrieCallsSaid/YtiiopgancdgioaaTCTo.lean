/- Trie: the document's calls. -/
import Derived.Test.YtiiopgancdgioaaVbE
import Derived.Test.YtiiopgancdgioaaTCTn
set_option linter.unusedSimpArgs false
set_option linter.unusedVariables false
set_option maxRecDepth 100000
namespace Go.Proofs
open Go.Ns

theorem rnew_ok (H : Heap) (n : Int) (hn : -9223372036854775808 ≤ n ∧ n ≤ 9223372036854775807) : NCall Try.prog 8 [.int .i64 n] H fun r => r = (.ptr (some (H.length, 0)), H ++ [some (.cells [.int .i64 ((min (max 1 n) 128).toNat : Nat), .slice none 0 (.fix 0)] false)]) := by
  refine call_of E0 mixed t8_ok (by kernel_rfl) (by rintro q rfl; simp) ?_
  simp only [t8]
  simp (disch := first | omega | (simp only [fsLen]; omega)) only [↓fsPre, fsPost, fsCond, fsGen, fsDefs, cls, eqVal, vbGen, fill_bits, reduceCtorEq, Nat.reduceAdd, Nat.reduceMul, Nat.reduceSub, Nat.reduceLT, Nat.reduceLeDiff, Nat.reduceEqDiff, Nat.reduceBEq, Nat.reduceBNe, Int.reduceLT, Int.reduceLE, Int.reduceEq, Int.reduceNe, Int.reduceAdd, Int.reduceSub, Int.reduceNeg, Int.reduceToNat, Int.reduceMul, ↓reduceIte, Int.reduceGT, Int.reduceGE]
  have : (((min (max 1 n) 128).toNat : Nat) : Int) = min (max 1 n) 128 := by omega
  rw [this]
  have e : (if 1 < (if 128 < n then 128 else n) then (if 128 < n then 128 else n) else 1) = min (max 1 n) 128 := by
    split <;> (try split at *) <;> omega
  rw [e]
theorem rprefix_ok (H : Heap) (q bits : Nat) (r : NV) (v : BitVec 128) (n : Int) (hq : hget H q = some (.cells [.int .i64 bits, r] false)) : NCall Try.prog 33 [.ptr (some (q, 0)), vnv v, .int .i64 n] H fun r => r = (.bool (okP bits v n), H) := by
  have lq := hget_some_lt hq
  refine call_pure E0 mixed t33_ok (by kernel_rfl) trivial ?_
  have hl := fun H a b => rlead_ok H a b
  have ha := fun H a b => rand_ok H a b
  simp only [t33, vnv] at hl ha ⊢
  unfold okP
  by_cases h1 : 0 ≤ n
  · have d1 : decide (n ≥ 0) = true := by simpa using h1
    have d1' : decide (0 ≤ n) = true := by simpa using h1
    by_cases h2 : n ≤ bits
    · have d2 : decide (n ≤ (bits : Int)) = true := by simpa using h2
      simp (disch := first | omega | (simp only [fsLen]; omega)) only [↓fsPre, fsPost, fsCond, fsGen, fsDefs, cls, eqVal, vbGen, fill_bits, reduceCtorEq, Nat.reduceAdd, Nat.reduceMul, Nat.reduceSub, Nat.reduceLT, Nat.reduceLeDiff, Nat.reduceEqDiff, Nat.reduceBEq, Nat.reduceBNe, Int.reduceLT, Int.reduceLE, Int.reduceEq, Int.reduceNe, Int.reduceAdd, Int.reduceSub, Int.reduceNeg, Int.reduceToNat, Int.reduceMul, ↓reduceIte, Int.reduceGT, Int.reduceGE, eqc_pn, d1, d1', d2, hq]
      refine callDT_one (hl _ _ _) rfl ?_
      simp (disch := first | omega | (simp only [fsLen]; omega)) only [↓fsPre, fsPost, fsCond, fsGen, fsDefs, cls, eqVal, vbGen, fill_bits, reduceCtorEq, Nat.reduceAdd, Nat.reduceMul, Nat.reduceSub, Nat.reduceLT, Nat.reduceLeDiff, Nat.reduceEqDiff, Nat.reduceBEq, Nat.reduceBNe, Int.reduceLT, Int.reduceLE, Int.reduceEq, Int.reduceNe, Int.reduceAdd, Int.reduceSub, Int.reduceNeg, Int.reduceToNat, Int.reduceMul, ↓reduceIte, Int.reduceGT, Int.reduceGE, eqc_pn, d1, d1', d2, hq]
      refine callDT_one (ha _ _ _) rfl ?_
      simp (disch := first | omega | (simp only [fsLen]; omega)) only [↓fsPre, fsPost, fsCond, fsGen, fsDefs, cls, eqVal, vbGen, fill_bits, reduceCtorEq, Nat.reduceAdd, Nat.reduceMul, Nat.reduceSub, Nat.reduceLT, Nat.reduceLeDiff, Nat.reduceEqDiff, Nat.reduceBEq, Nat.reduceBNe, Int.reduceLT, Int.reduceLE, Int.reduceEq, Int.reduceNe, Int.reduceAdd, Int.reduceSub, Int.reduceNeg, Int.reduceToNat, Int.reduceMul, ↓reduceIte, Int.reduceGT, Int.reduceGE, eqc_pn, d1, d1', d2, hq, words_eq]
      exact ⟨_, rfl⟩
    · have d2 : decide (n ≤ (bits : Int)) = false := by simpa using h2
      simp (disch := first | omega | (simp only [fsLen]; omega)) only [↓fsPre, fsPost, fsCond, fsGen, fsDefs, cls, eqVal, vbGen, fill_bits, reduceCtorEq, Nat.reduceAdd, Nat.reduceMul, Nat.reduceSub, Nat.reduceLT, Nat.reduceLeDiff, Nat.reduceEqDiff, Nat.reduceBEq, Nat.reduceBNe, Int.reduceLT, Int.reduceLE, Int.reduceEq, Int.reduceNe, Int.reduceAdd, Int.reduceSub, Int.reduceNeg, Int.reduceToNat, Int.reduceMul, ↓reduceIte, Int.reduceGT, Int.reduceGE, eqc_pn, d1, d1', d2, hq]
      exact ⟨_, rfl⟩
  · have d1 : decide (n ≥ 0) = false := by simpa using h1
    have d1' : decide (0 ≤ n) = false := by simpa using h1
    simp (disch := first | omega | (simp only [fsLen]; omega)) only [↓fsPre, fsPost, fsCond, fsGen, fsDefs, cls, eqVal, vbGen, fill_bits, reduceCtorEq, Nat.reduceAdd, Nat.reduceMul, Nat.reduceSub, Nat.reduceLT, Nat.reduceLeDiff, Nat.reduceEqDiff, Nat.reduceBEq, Nat.reduceBNe, Int.reduceLT, Int.reduceLE, Int.reduceEq, Int.reduceNe, Int.reduceAdd, Int.reduceSub, Int.reduceNeg, Int.reduceToNat, Int.reduceMul, ↓reduceIte, Int.reduceGT, Int.reduceGE, eqc_pn, d1, d1', hq]
    exact ⟨_, rfl⟩
theorem rget_ok (H : Heap) (q bits : Nat) (sl : NV) (L : List PfT) (v : BitVec 128) (n : Int) (hq : hget H q = some (.cells [.int .i64 bits, sl] false)) (hg : GrE H (L.flatMap pfC) sl) (hL : L.length ≤ 100) :
    NCall Try.prog 20 [.ptr (some (q, 0)), vnv v, .int .i64 n] H fun r => r = (.tup [.int .i64 (if thereK L (v, n) = true then (L[placeK ltQ L (v, n)]?.map (·.2)).getD 0 else 0), .bool (thereK L (v, n))], H) := by
  have lq := hget_some_lt hq
  have hpl := fun H h1 h2 h3 => rplace_ok H q bits sl L v n h1 h2 h3
  refine call_pure E0 mixed t20_ok (by kernel_rfl) ⟨trivial, trivial, trivial⟩ ?_
  simp only [t20, vnv] at hpl ⊢
  simp (disch := first | omega | (simp only [fsLen]; omega)) only [↓fsPre, fsPost, fsCond, fsGen, fsDefs, cls, eqVal, vbGen, fill_bits, reduceCtorEq, Nat.reduceAdd, Nat.reduceMul, Nat.reduceSub, Nat.reduceLT, Nat.reduceLeDiff, Nat.reduceEqDiff, Nat.reduceBEq, Nat.reduceBNe, Int.reduceLT, Int.reduceLE, Int.reduceEq, Int.reduceNe, Int.reduceAdd, Int.reduceSub, Int.reduceNeg, Int.reduceToNat, Int.reduceMul, ↓reduceIte, Int.reduceGT, Int.reduceGE]
  refine callT_one (hpl _ (by rw [hget_appl lq]; exact hq) (hg.mono fun b hb => hget_appl hb) hL) rfl ?_
  obtain ⟨A, c, rfl, hAc⟩ := hg.prs
  by_cases ht : thereK L (v, n) = true
  · have hi : placeK ltQ L (v, n) < L.length := by
      rcases Nat.lt_or_ge (placeK ltQ L (v, n)) L.length with h | h
      · exact h
      · unfold thereK at ht
        rw [List.getElem?_eq_none h] at ht
        cases ht
    rcases hAc with ⟨_, rfl⟩ | ⟨rfl, hp0, b, rfl, hb⟩
    · simp at hi
    have hbl := hget_some_lt hb
    have hc : (L.flatMap pfC)[placeK ltQ L (v, n) * 4 + 3]? = some (.int .i64 L[placeK ltQ L (v, n)].2) := by rw [cut_get (cut_flatMap pfC_length hi) (by omega)]; rfl
    rw [ht, if_pos rfl, List.getElem?_eq_getElem hi]
    simp (disch := first | omega | (simp only [fsLen]; omega)) only [↓fsPre, fsPost, fsCond, fsGen, fsDefs, cls, eqVal, vbGen, fill_bits, reduceCtorEq, Nat.reduceAdd, Nat.reduceMul, Nat.reduceSub, Nat.reduceLT, Nat.reduceLeDiff, Nat.reduceEqDiff, Nat.reduceBEq, Nat.reduceBNe, Int.reduceLT, Int.reduceLE, Int.reduceEq, Int.reduceNe, Int.reduceAdd, Int.reduceSub, Int.reduceNeg, Int.reduceToNat, Int.reduceMul, ↓reduceIte, Int.reduceGT, Int.reduceGE, hq, hb, hc]
    exact ⟨rfl, _, rfl⟩
  · have ht : thereK L (v, n) = false := by simpa using ht
    rw [ht, if_neg (by simp)]
    simp (disch := first | omega | (simp only [fsLen]; omega)) only [↓fsPre, fsPost, fsCond, fsGen, fsDefs, cls, eqVal, vbGen, fill_bits, reduceCtorEq, Nat.reduceAdd, Nat.reduceMul, Nat.reduceSub, Nat.reduceLT, Nat.reduceLeDiff, Nat.reduceEqDiff, Nat.reduceBEq, Nat.reduceBNe, Int.reduceLT, Int.reduceLE, Int.reduceEq, Int.reduceNe, Int.reduceAdd, Int.reduceSub, Int.reduceNeg, Int.reduceToNat, Int.reduceMul, ↓reduceIte, Int.reduceGT, Int.reduceGE, hq]
    exact ⟨_, rfl⟩

set_option maxHeartbeats 1000000 in
theorem rput_new (H : Heap) (q bits : Nat) (sl : NV) (L : List PfT) (v : BitVec 128) (n : Int) (i : Int) (hq : hget H q = some (.cells [.int .i64 bits, sl] false)) (hg : GrE H (L.flatMap pfC) sl) (hL : L.length ≤ 100) (ht : thereK L (v, n) = false) (ho : okP bits v n = true) :
    DCall Try.prog 11 [.ptr (some (q, 0)), vnv v, .int .i64 n, .int .i64 i] H fun r => r.1 = .bool true ∧ H.length ≤ r.2.length ∧ (∀ b, b < H.length → b ≠ q → hget r.2 b = hget H b) ∧ ∃ sl', hget r.2 q = some (.cells [.int .i64 bits, sl'] false) ∧ GrE r.2 ((insK ltQ L (v, n) i).flatMap pfC) sl' ∧ ∀ b k, sl' = .slice (some (b, 0)) k (.opn 4) → H.length ≤ b := by
  have lq := hget_some_lt hq
  have hpl := fun H h1 h2 h3 => rplace_ok H q bits sl L v n h1 h2 h3
  have hpf := fun H h1 => rprefix_ok H q bits sl v n h1
  rw [ho] at hpf
  refine call_det E0 rfl mixed t11_ok (by kernel_rfl) (by rintro q ⟨_, h, _⟩; exact h) ?_
  simp only [t11, vnv] at hpl hpf ⊢
  simp (disch := first | omega | (simp only [fsLen]; omega)) only [↓fsPre, fsPost, fsCond, fsGen, fsDefs, cls, eqVal, vbGen, fill_bits, reduceCtorEq, Nat.reduceAdd, Nat.reduceMul, Nat.reduceSub, Nat.reduceLT, Nat.reduceLeDiff, Nat.reduceEqDiff, Nat.reduceBEq, Nat.reduceBNe, Int.reduceLT, Int.reduceLE, Int.reduceEq, Int.reduceNe, Int.reduceAdd, Int.reduceSub, Int.reduceNeg, Int.reduceToNat, Int.reduceMul, ↓reduceIte, Int.reduceGT, Int.reduceGE]
  refine callT_one (hpl _ (by rw [hget_appl lq]; exact hq) (hg.mono fun b hb => hget_appl hb) hL) rfl ?_
  rw [ht]
  simp (disch := first | omega | (simp only [fsLen]; omega)) only [↓fsPre, fsPost, fsCond, fsGen, fsDefs, cls, eqVal, vbGen, fill_bits, reduceCtorEq, Nat.reduceAdd, Nat.reduceMul, Nat.reduceSub, Nat.reduceLT, Nat.reduceLeDiff, Nat.reduceEqDiff, Nat.reduceBEq, Nat.reduceBNe, Int.reduceLT, Int.reduceLE, Int.reduceEq, Int.reduceNe, Int.reduceAdd, Int.reduceSub, Int.reduceNeg, Int.reduceToNat, Int.reduceMul, ↓reduceIte, Int.reduceGT, Int.reduceGE]
  refine callT_one (hpf _ (by rw [hget_appl lq]; exact hq)) rfl ?_
  obtain ⟨A, c, rfl, hAc⟩ := hg.prs
  have hle := placeK_le (lt := ltQ) L (v, n)
  unfold insK
  generalize placeK ltQ L (v, n) = j at *
  rcases hAc with ⟨rfl, rfl⟩ | ⟨rfl, hp0, b, rfl, hb⟩
  · have hj : j = 0 := by simpa using hle
    subst hj
    have hcut : sliceCells (H ++ [some (.cells [nb (hiOf v), nb (loOf v)] false), some (.cells [] false), none]) 4 (.slice A 0 (.fix 0)) = some [] := by cases A <;> simp [sliceCells]
    simp (disch := first | omega | (simp only [fsLen]; omega)) only [↓fsPre, fsPost, fsCond, fsGen, fsDefs, cls, eqVal, vbGen, fill_bits, reduceCtorEq, Nat.reduceAdd, Nat.reduceMul, Nat.reduceSub, Nat.reduceLT, Nat.reduceLeDiff, Nat.reduceEqDiff, Nat.reduceBEq, Nat.reduceBNe, Int.reduceLT, Int.reduceLE, Int.reduceEq, Int.reduceNe, Int.reduceAdd, Int.reduceSub, Int.reduceNeg, Int.reduceToNat, Int.reduceMul, ↓reduceIte, Int.reduceGT, Int.reduceGE, hq]
    refine gre_app (N := H.length + 3) (C := []) (new := []) (.inl ⟨rfl, _, rfl⟩) (by simp) (fun b k e => by cases e) hcut rfl rfl (by simp) (by omega) ?_
    intro v1 h1 g1 l1 n1 o1
    have e0 := o1 H.length (by omega)
    have e2 := o1 (H.length + 2) (by omega)
    have eq := o1 q (by omega)
    simp (disch := first | omega | (simp only [fsLen]; omega)) only [↓fsPre, fsPost, fsCond, fsGen, fsDefs, cls, eqVal, vbGen, fill_bits, reduceCtorEq, Nat.reduceAdd, Nat.reduceMul, Nat.reduceSub, Nat.reduceLT, Nat.reduceLeDiff, Nat.reduceEqDiff, Nat.reduceBEq, Nat.reduceBNe, Int.reduceLT, Int.reduceLE, Int.reduceEq, Int.reduceNe, Int.reduceAdd, Int.reduceSub, Int.reduceNeg, Int.reduceToNat, Int.reduceMul, ↓reduceIte, Int.reduceGT, Int.reduceGE] at e0 e2 eq
    rw [hq] at eq
    simp only [List.length_append, List.length_cons, List.length_nil] at l1
    have e01 := e0
    have eq1 := eq
    simp (disch := first | omega | (simp only [fsLen]; omega)) only [↓fsPre, fsPost, fsCond, fsGen, fsDefs, cls, eqVal, vbGen, fill_bits, reduceCtorEq, Nat.reduceAdd, Nat.reduceMul, Nat.reduceSub, Nat.reduceLT, Nat.reduceLeDiff, Nat.reduceEqDiff, Nat.reduceBEq, Nat.reduceBNe, Int.reduceLT, Int.reduceLE, Int.reduceEq, Int.reduceNe, Int.reduceAdd, Int.reduceSub, Int.reduceNeg, Int.reduceToNat, Int.reduceMul, ↓reduceIte, Int.reduceGT, Int.reduceGE, hq, e0, e2, eq, nb_one]
    refine ⟨by omega, ?_⟩
    refine gre_app (N := H.length + 3) (new := pfC ((v, n), i)) (m := 1) (g1.set (N := H.length + 3) n1 (by omega)) (by rw [length_hset]; omega) n1 (sliceCells_at (by simp (disch := first | omega | (simp only [fsLen]; omega)) only [↓fsPre, fsPost, fsCond, fsGen, fsDefs, cls, eqVal, vbGen, fill_bits, reduceCtorEq, Nat.reduceAdd, Nat.reduceMul, Nat.reduceSub, Nat.reduceLT, Nat.reduceLeDiff, Nat.reduceEqDiff, Nat.reduceBEq, Nat.reduceBNe, Int.reduceLT, Int.reduceLE, Int.reduceEq, Int.reduceNe, Int.reduceAdd, Int.reduceSub, Int.reduceNeg, Int.reduceToNat, Int.reduceMul, ↓reduceIte, Int.reduceGT, Int.reduceGE] <;> rfl) rfl) rfl rfl (by simp) (by omega) ?_
    intro v2 h2 g2 l2 n2 o2
    have e0 := (o2 H.length (by omega)).trans ((hget_hset_ne (by omega)).trans e0)
    have eq := (o2 q (by omega)).trans ((hget_hset_ne (by omega)).trans eq)
    have old2 : ∀ c, c < H.length → hget h2 c = hget H c := fun c hc => by rw [o2 c (by omega), hget_hset_ne (by omega), o1 c (by omega), hget_appl hc]
    rw [length_hset] at l2
    have l2' : H.length + 3 ≤ h2.length := by omega
    clear o1 o2 g1 n1 e2 l1 l2
    have hcut : sliceCells h2 4 (.slice A 0 (.fix 0)) = some [] := by cases A <;> simp [sliceCells]
    simp (disch := first | omega | (simp only [fsLen]; omega)) only [↓fsPre, fsPost, fsCond, fsGen, fsDefs, cls, eqVal, vbGen, fill_bits, reduceCtorEq, Nat.reduceAdd, Nat.reduceMul, Nat.reduceSub, Nat.reduceLT, Nat.reduceLeDiff, Nat.reduceEqDiff, Nat.reduceBEq, Nat.reduceBNe, Int.reduceLT, Int.reduceLE, Int.reduceEq, Int.reduceNe, Int.reduceAdd, Int.reduceSub, Int.reduceNeg, Int.reduceToNat, Int.reduceMul, ↓reduceIte, Int.reduceGT, Int.reduceGE, hq, e0, eq]
    refine ⟨by omega, ?_⟩
    refine gre_app (N := H.length + 3) (new := []) g2 l2' n2 hcut rfl rfl (by simp [pfC_length]) (by omega) ?_
    intro v3 h3 g3 l3 n3 o3
    have eq2 := eq
    have eq := (o3 q (by omega)).trans eq
    have lq3 := hget_some_lt eq
    obtain ⟨o31, o32⟩ := g3.flat
    have hfin : GrE (hset h3 q (.cells [.int .i64 bits, v3] false)) ((([] : List PfT).take 0 ++ ((v, n), i) :: [].drop 0).flatMap pfC) v3 := by
      have : ((([] : List PfT).take 0 ++ ((v, n), i) :: [].drop 0).flatMap pfC) = ([] ++ [] ++ pfC ((v, n), i)) ++ [] := by simp
      rw [this]
      exact g3.set n3 (by omega)
    simp (disch := first | omega | (simp only [fsLen]; omega)) only [↓fsPre, fsPost, fsCond, fsGen, fsDefs, cls, eqVal, vbGen, fill_bits, reduceCtorEq, Nat.reduceAdd, Nat.reduceMul, Nat.reduceSub, Nat.reduceLT, Nat.reduceLeDiff, Nat.reduceEqDiff, Nat.reduceBEq, Nat.reduceBNe, Int.reduceLT, Int.reduceLE, Int.reduceEq, Int.reduceNe, Int.reduceAdd, Int.reduceSub, Int.reduceNeg, Int.reduceToNat, Int.reduceMul, ↓reduceIte, Int.reduceGT, Int.reduceGE, eq, o31, o32]
    refine ⟨by omega, by omega, ⟨by rw [e01]; rfl, by rw [eq1]; rfl, by rw [eq2]; rfl⟩, by omega, fun c hc hne => ?_, _, rfl, hfin, fun b k e => by have := n3 b k e; omega⟩
    rw [hget_hset_ne (Ne.symm hne), o3 c (by omega)]
    exact old2 c hc
  · have hbl := hget_some_lt hb
    have hcut : cut (L.flatMap pfC) 0 (j * 4) = some ((L.take j).flatMap pfC) := cut_take hle
    simp (disch := first | omega | (simp only [fsLen]; omega)) only [↓fsPre, fsPost, fsCond, fsGen, fsDefs, cls, eqVal, vbGen, fill_bits, reduceCtorEq, Nat.reduceAdd, Nat.reduceMul, Nat.reduceSub, Nat.reduceLT, Nat.reduceLeDiff, Nat.reduceEqDiff, Nat.reduceBEq, Nat.reduceBNe, Int.reduceLT, Int.reduceLE, Int.reduceEq, Int.reduceNe, Int.reduceAdd, Int.reduceSub, Int.reduceNeg, Int.reduceToNat, Int.reduceMul, ↓reduceIte, Int.reduceGT, Int.reduceGE, hq]
    refine gre_app (N := H.length + 3) (C := []) (new := (L.take j).flatMap pfC) (.inl ⟨rfl, _, rfl⟩) (by simp) (fun b k e => by cases e) (sliceCells_at (by simp (disch := first | omega | (simp only [fsLen]; omega)) only [↓fsPre, fsPost, fsCond, fsGen, fsDefs, cls, eqVal, vbGen, fill_bits, reduceCtorEq, Nat.reduceAdd, Nat.reduceMul, Nat.reduceSub, Nat.reduceLT, Nat.reduceLeDiff, Nat.reduceEqDiff, Nat.reduceBEq, Nat.reduceBNe, Int.reduceLT, Int.reduceLE, Int.reduceEq, Int.reduceNe, Int.reduceAdd, Int.reduceSub, Int.reduceNeg, Int.reduceToNat, Int.reduceMul, ↓reduceIte, Int.reduceGT, Int.reduceGE, hb] <;> rfl) hcut) rfl (by rw [pfs_length, List.length_take, Nat.min_eq_left hle]) (by simp) (by omega) ?_
    intro v1 h1 g1 l1 n1 o1
    have e0 := o1 H.length (by omega)
    have e2 := o1 (H.length + 2) (by omega)
    have eq := o1 q (by omega)
    have eb := o1 b (by omega)
    simp (disch := first | omega | (simp only [fsLen]; omega)) only [↓fsPre, fsPost, fsCond, fsGen, fsDefs, cls, eqVal, vbGen, fill_bits, reduceCtorEq, Nat.reduceAdd, Nat.reduceMul, Nat.reduceSub, Nat.reduceLT, Nat.reduceLeDiff, Nat.reduceEqDiff, Nat.reduceBEq, Nat.reduceBNe, Int.reduceLT, Int.reduceLE, Int.reduceEq, Int.reduceNe, Int.reduceAdd, Int.reduceSub, Int.reduceNeg, Int.reduceToNat, Int.reduceMul, ↓reduceIte, Int.reduceGT, Int.reduceGE] at e0 e2 eq eb
    rw [hq] at eq
    rw [hb] at eb
    simp only [List.length_append, List.length_cons, List.length_nil] at l1
    have e01 := e0
    have eq1 := eq
    simp (disch := first | omega | (simp only [fsLen]; omega)) only [↓fsPre, fsPost, fsCond, fsGen, fsDefs, cls, eqVal, vbGen, fill_bits, reduceCtorEq, Nat.reduceAdd, Nat.reduceMul, Nat.reduceSub, Nat.reduceLT, Nat.reduceLeDiff, Nat.reduceEqDiff, Nat.reduceBEq, Nat.reduceBNe, Int.reduceLT, Int.reduceLE, Int.reduceEq, Int.reduceNe, Int.reduceAdd, Int.reduceSub, Int.reduceNeg, Int.reduceToNat, Int.reduceMul, ↓reduceIte, Int.reduceGT, Int.reduceGE, hq, e0, e2, eq, eb, nb_one]
    refine ⟨by omega, ?_⟩
    refine gre_app (N := H.length + 3) (new := pfC ((v, n), i)) (m := 1) (g1.set (N := H.length + 3) n1 (by omega)) (by rw [length_hset]; omega) n1 (sliceCells_at (by simp (disch := first | omega | (simp only [fsLen]; omega)) only [↓fsPre, fsPost, fsCond, fsGen, fsDefs, cls, eqVal, vbGen, fill_bits, reduceCtorEq, Nat.reduceAdd, Nat.reduceMul, Nat.reduceSub, Nat.reduceLT, Nat.reduceLeDiff, Nat.reduceEqDiff, Nat.reduceBEq, Nat.reduceBNe, Int.reduceLT, Int.reduceLE, Int.reduceEq, Int.reduceNe, Int.reduceAdd, Int.reduceSub, Int.reduceNeg, Int.reduceToNat, Int.reduceMul, ↓reduceIte, Int.reduceGT, Int.reduceGE] <;> rfl) rfl) rfl rfl (by rw [List.nil_append, pfs_length, List.length_take, Nat.min_eq_left hle]; omega) (by omega) ?_
    intro v2 h2 g2 l2 n2 o2
    have e0 := (o2 H.length (by omega)).trans ((hget_hset_ne (by omega)).trans e0)
    have eq := (o2 q (by omega)).trans ((hget_hset_ne (by omega)).trans eq)
    have eb := (o2 b (by omega)).trans ((hget_hset_ne (by omega)).trans eb)
    have old2 : ∀ c, c < H.length → hget h2 c = hget H c := fun c hc => by rw [o2 c (by omega), hget_hset_ne (by omega), o1 c (by omega), hget_appl hc]
    rw [length_hset] at l2
    have l2' : H.length + 3 ≤ h2.length := by omega
    clear o1 o2 g1 n1 e2 l1 l2
    simp (disch := first | omega | (simp only [fsLen]; omega)) only [↓fsPre, fsPost, fsCond, fsGen, fsDefs, cls, eqVal, vbGen, fill_bits, reduceCtorEq, Nat.reduceAdd, Nat.reduceMul, Nat.reduceSub, Nat.reduceLT, Nat.reduceLeDiff, Nat.reduceEqDiff, Nat.reduceBEq, Nat.reduceBNe, Int.reduceLT, Int.reduceLE, Int.reduceEq, Int.reduceNe, Int.reduceAdd, Int.reduceSub, Int.reduceNeg, Int.reduceToNat, Int.reduceMul, ↓reduceIte, Int.reduceGT, Int.reduceGE, hq, e0, eq, eb]
    refine ⟨by omega, ?_⟩
    refine gre_app (N := H.length + 3) (new := (L.drop j).flatMap pfC) g2 l2' n2 (sliceCells_at (by simp (disch := first | omega | (simp only [fsLen]; omega)) only [↓fsPre, fsPost, fsCond, fsGen, fsDefs, cls, eqVal, vbGen, fill_bits, reduceCtorEq, Nat.reduceAdd, Nat.reduceMul, Nat.reduceSub, Nat.reduceLT, Nat.reduceLeDiff, Nat.reduceEqDiff, Nat.reduceBEq, Nat.reduceBNe, Int.reduceLT, Int.reduceLE, Int.reduceEq, Int.reduceNe, Int.reduceAdd, Int.reduceSub, Int.reduceNeg, Int.reduceToNat, Int.reduceMul, ↓reduceIte, Int.reduceGT, Int.reduceGE, eb] <;> rfl) (cut_drop hle)) rfl (by rw [pfs_length, List.length_drop]) (by rw [List.nil_append, List.length_append, pfs_length, List.length_take, Nat.min_eq_left hle, pfC_length]; omega) (by omega) ?_
    intro v3 h3 g3 l3 n3 o3
    have eq2 := eq
    have eq := (o3 q (by omega)).trans eq
    have lq3 := hget_some_lt eq
    obtain ⟨o31, o32⟩ := g3.flat
    have hfin : GrE (hset h3 q (.cells [.int .i64 bits, v3] false)) ((L.take j ++ ((v, n), i) :: L.drop j).flatMap pfC) v3 := by
      have : ((L.take j ++ ((v, n), i) :: L.drop j).flatMap pfC) = ([] ++ (L.take j).flatMap pfC ++ pfC ((v, n), i)) ++ (L.drop j).flatMap pfC := by simp
      rw [this]
      exact g3.set n3 (by omega)
    simp (disch := first | omega | (simp only [fsLen]; omega)) only [↓fsPre, fsPost, fsCond, fsGen, fsDefs, cls, eqVal, vbGen, fill_bits, reduceCtorEq, Nat.reduceAdd, Nat.reduceMul, Nat.reduceSub, Nat.reduceLT, Nat.reduceLeDiff, Nat.reduceEqDiff, Nat.reduceBEq, Nat.reduceBNe, Int.reduceLT, Int.reduceLE, Int.reduceEq, Int.reduceNe, Int.reduceAdd, Int.reduceSub, Int.reduceNeg, Int.reduceToNat, Int.reduceMul, ↓reduceIte, Int.reduceGT, Int.reduceGE, eq, o31, o32]
    refine ⟨by omega, by omega, ⟨by rw [e01]; rfl, by rw [eq1]; rfl, by rw [eq2]; rfl⟩, by omega, fun c hc hne => ?_, _, rfl, hfin, fun b k e => by have := n3 b k e; omega⟩
    rw [hget_hset_ne (Ne.symm hne), o3 c (by omega)]
    exact old2 c hc

theorem rput_old (H : Heap) (q bits : Nat) (sl : NV) (L : List PfT) (v : BitVec 128) (n : Int) (i : Int) (hq : hget H q = some (.cells [.int .i64 bits, sl] false)) (hg : GrE H (L.flatMap pfC) sl) (hL : L.length ≤ 100) (ht : thereK L (v, n) = true ∨ okP bits v n = false) :
    NCall Try.prog 11 [.ptr (some (q, 0)), vnv v, .int .i64 n, .int .i64 i] H fun r => r = (.bool false, H) := by
  have lq := hget_some_lt hq
  have hpl := fun H h1 h2 h3 => rplace_ok H q bits sl L v n h1 h2 h3
  have hpf := fun H h1 => rprefix_ok H q bits sl v n h1
  refine call_pure E0 mixed t11_ok (by kernel_rfl) trivial ?_
  simp only [t11, vnv] at hpl hpf ⊢
  simp (disch := first | omega | (simp only [fsLen]; omega)) only [↓fsPre, fsPost, fsCond, fsGen, fsDefs, cls, eqVal, vbGen, fill_bits, reduceCtorEq, Nat.reduceAdd, Nat.reduceMul, Nat.reduceSub, Nat.reduceLT, Nat.reduceLeDiff, Nat.reduceEqDiff, Nat.reduceBEq, Nat.reduceBNe, Int.reduceLT, Int.reduceLE, Int.reduceEq, Int.reduceNe, Int.reduceAdd, Int.reduceSub, Int.reduceNeg, Int.reduceToNat, Int.reduceMul, ↓reduceIte, Int.reduceGT, Int.reduceGE]
  refine callT_one (hpl _ (by rw [hget_appl lq]; exact hq) (hg.mono fun b hb => hget_appl hb) hL) rfl ?_
  by_cases ht' : thereK L (v, n) = true
  · rw [ht']
    simp (disch := first | omega | (simp only [fsLen]; omega)) only [↓fsPre, fsPost, fsCond, fsGen, fsDefs, cls, eqVal, vbGen, fill_bits, reduceCtorEq, Nat.reduceAdd, Nat.reduceMul, Nat.reduceSub, Nat.reduceLT, Nat.reduceLeDiff, Nat.reduceEqDiff, Nat.reduceBEq, Nat.reduceBNe, Int.reduceLT, Int.reduceLE, Int.reduceEq, Int.reduceNe, Int.reduceAdd, Int.reduceSub, Int.reduceNeg, Int.reduceToNat, Int.reduceMul, ↓reduceIte, Int.reduceGT, Int.reduceGE]
    exact ⟨_, rfl⟩
  · have ho : okP bits v n = false := by
      rcases ht with h | h
      · exact absurd h ht'
      · exact h
    have ht' : thereK L (v, n) = false := by simpa using ht'
    rw [ht']
    simp (disch := first | omega | (simp only [fsLen]; omega)) only [↓fsPre, fsPost, fsCond, fsGen, fsDefs, cls, eqVal, vbGen, fill_bits, reduceCtorEq, Nat.reduceAdd, Nat.reduceMul, Nat.reduceSub, Nat.reduceLT, Nat.reduceLeDiff, Nat.reduceEqDiff, Nat.reduceBEq, Nat.reduceBNe, Int.reduceLT, Int.reduceLE, Int.reduceEq, Int.reduceNe, Int.reduceAdd, Int.reduceSub, Int.reduceNeg, Int.reduceToNat, Int.reduceMul, ↓reduceIte, Int.reduceGT, Int.reduceGE]
    refine callT_one (hpf _ (by rw [hget_appl lq]; exact hq)) rfl ?_
    rw [ho]
    simp (disch := first | omega | (simp only [fsLen]; omega)) only [↓fsPre, fsPost, fsCond, fsGen, fsDefs, cls, eqVal, vbGen, fill_bits, reduceCtorEq, Nat.reduceAdd, Nat.reduceMul, Nat.reduceSub, Nat.reduceLT, Nat.reduceLeDiff, Nat.reduceEqDiff, Nat.reduceBEq, Nat.reduceBNe, Int.reduceLT, Int.reduceLE, Int.reduceEq, Int.reduceNe, Int.reduceAdd, Int.reduceSub, Int.reduceNeg, Int.reduceToNat, Int.reduceMul, ↓reduceIte, Int.reduceGT, Int.reduceGE]
    exact ⟨_, rfl⟩
theorem rrem_not (H : Heap) (q bits : Nat) (sl : NV) (L : List PfT) (v : BitVec 128) (n : Int) (hq : hget H q = some (.cells [.int .i64 bits, sl] false)) (hg : GrE H (L.flatMap pfC) sl) (hL : L.length ≤ 100) (ht : thereK L (v, n) = false) :
    NCall Try.prog 18 [.ptr (some (q, 0)), vnv v, .int .i64 n] H fun r => r = (.bool false, H) := by
  have lq := hget_some_lt hq
  have hpl := fun H h1 h2 h3 => rplace_ok H q bits sl L v n h1 h2 h3
  refine call_pure E0 mixed t18_ok (by kernel_rfl) trivial ?_
  simp only [t18, vnv] at hpl ⊢
  simp (disch := first | omega | (simp only [fsLen]; omega)) only [↓fsPre, fsPost, fsCond, fsGen, fsDefs, cls, eqVal, vbGen, fill_bits, reduceCtorEq, Nat.reduceAdd, Nat.reduceMul, Nat.reduceSub, Nat.reduceLT, Nat.reduceLeDiff, Nat.reduceEqDiff, Nat.reduceBEq, Nat.reduceBNe, Int.reduceLT, Int.reduceLE, Int.reduceEq, Int.reduceNe, Int.reduceAdd, Int.reduceSub, Int.reduceNeg, Int.reduceToNat, Int.reduceMul, ↓reduceIte, Int.reduceGT, Int.reduceGE]
  refine callT_one (hpl _ (by rw [hget_appl lq]; exact hq) (hg.mono fun b hb => hget_appl hb) hL) rfl ?_
  rw [ht]
  simp (disch := first | omega | (simp only [fsLen]; omega)) only [↓fsPre, fsPost, fsCond, fsGen, fsDefs, cls, eqVal, vbGen, fill_bits, reduceCtorEq, Nat.reduceAdd, Nat.reduceMul, Nat.reduceSub, Nat.reduceLT, Nat.reduceLeDiff, Nat.reduceEqDiff, Nat.reduceBEq, Nat.reduceBNe, Int.reduceLT, Int.reduceLE, Int.reduceEq, Int.reduceNe, Int.reduceAdd, Int.reduceSub, Int.reduceNeg, Int.reduceToNat, Int.reduceMul, ↓reduceIte, Int.reduceGT, Int.reduceGE]
  exact ⟨_, rfl⟩
set_option maxHeartbeats 1000000 in
theorem rrem_there (H : Heap) (q bits : Nat) (sl : NV) (L : List PfT) (v : BitVec 128) (n : Int) (hq : hget H q = some (.cells [.int .i64 bits, sl] false)) (hg : GrE H (L.flatMap pfC) sl) (hL : L.length ≤ 100) (ht : thereK L (v, n) = true) :
    DCall Try.prog 18 [.ptr (some (q, 0)), vnv v, .int .i64 n] H fun r => r.1 = .bool true ∧ H.length ≤ r.2.length ∧ (∀ b, b < H.length → b ≠ q → hget r.2 b = hget H b) ∧ ∃ sl', hget r.2 q = some (.cells [.int .i64 bits, sl'] false) ∧ GrE r.2 ((L.take (placeK ltQ L (v, n)) ++ L.drop (placeK ltQ L (v, n) + 1)).flatMap pfC) sl' ∧ ∀ b k, sl' = .slice (some (b, 0)) k (.opn 4) → H.length ≤ b := by
  have lq := hget_some_lt hq
  have hpl := fun H h1 h2 h3 => rplace_ok H q bits sl L v n h1 h2 h3
  refine call_det E0 rfl mixed t18_ok (by kernel_rfl) (by rintro q ⟨_, h, _⟩; exact h) ?_
  simp only [t18, vnv] at hpl ⊢
  simp (disch := first | omega | (simp only [fsLen]; omega)) only [↓fsPre, fsPost, fsCond, fsGen, fsDefs, cls, eqVal, vbGen, fill_bits, reduceCtorEq, Nat.reduceAdd, Nat.reduceMul, Nat.reduceSub, Nat.reduceLT, Nat.reduceLeDiff, Nat.reduceEqDiff, Nat.reduceBEq, Nat.reduceBNe, Int.reduceLT, Int.reduceLE, Int.reduceEq, Int.reduceNe, Int.reduceAdd, Int.reduceSub, Int.reduceNeg, Int.reduceToNat, Int.reduceMul, ↓reduceIte, Int.reduceGT, Int.reduceGE]
  refine callT_one (hpl _ (by rw [hget_appl lq]; exact hq) (hg.mono fun b hb => hget_appl hb) hL) rfl ?_
  obtain ⟨A, c, rfl, hAc⟩ := hg.prs
  have hlt := thereK_lt ht
  rw [ht]
  generalize placeK ltQ L (v, n) = j at *
  rcases hAc with ⟨rfl, rfl⟩ | ⟨rfl, hp0, b, rfl, hb⟩
  · simp at hlt
  · have hbl := hget_some_lt hb
    have hcut : cut (L.flatMap pfC) 0 (j * 4) = some ((L.take j).flatMap pfC) := cut_take (by omega)
    simp (disch := first | omega | (simp only [fsLen]; omega)) only [↓fsPre, fsPost, fsCond, fsGen, fsDefs, cls, eqVal, vbGen, fill_bits, reduceCtorEq, Nat.reduceAdd, Nat.reduceMul, Nat.reduceSub, Nat.reduceLT, Nat.reduceLeDiff, Nat.reduceEqDiff, Nat.reduceBEq, Nat.reduceBNe, Int.reduceLT, Int.reduceLE, Int.reduceEq, Int.reduceNe, Int.reduceAdd, Int.reduceSub, Int.reduceNeg, Int.reduceToNat, Int.reduceMul, ↓reduceIte, Int.reduceGT, Int.reduceGE, hq]
    refine gre_app (N := H.length + 2) (C := []) (new := (L.take j).flatMap pfC) (.inl ⟨rfl, _, rfl⟩) (by simp) (fun b k e => by cases e) (sliceCells_at (by simp (disch := first | omega | (simp only [fsLen]; omega)) only [↓fsPre, fsPost, fsCond, fsGen, fsDefs, cls, eqVal, vbGen, fill_bits, reduceCtorEq, Nat.reduceAdd, Nat.reduceMul, Nat.reduceSub, Nat.reduceLT, Nat.reduceLeDiff, Nat.reduceEqDiff, Nat.reduceBEq, Nat.reduceBNe, Int.reduceLT, Int.reduceLE, Int.reduceEq, Int.reduceNe, Int.reduceAdd, Int.reduceSub, Int.reduceNeg, Int.reduceToNat, Int.reduceMul, ↓reduceIte, Int.reduceGT, Int.reduceGE, hb] <;> rfl) hcut) rfl (by rw [pfs_length, List.length_take, Nat.min_eq_left (by omega)]) (by simp) (by omega) ?_
    intro v1 h1 g1 l1 n1 o1
    have e0 := o1 H.length (by omega)
    have eq := o1 q (by omega)
    have eb := o1 b (by omega)
    simp (disch := first | omega | (simp only [fsLen]; omega)) only [↓fsPre, fsPost, fsCond, fsGen, fsDefs, cls, eqVal, vbGen, fill_bits, reduceCtorEq, Nat.reduceAdd, Nat.reduceMul, Nat.reduceSub, Nat.reduceLT, Nat.reduceLeDiff, Nat.reduceEqDiff, Nat.reduceBEq, Nat.reduceBNe, Int.reduceLT, Int.reduceLE, Int.reduceEq, Int.reduceNe, Int.reduceAdd, Int.reduceSub, Int.reduceNeg, Int.reduceToNat, Int.reduceMul, ↓reduceIte, Int.reduceGT, Int.reduceGE] at e0 eq eb
    rw [hq] at eq
    rw [hb] at eb
    simp only [List.length_append, List.length_cons, List.length_nil] at l1
    have old2 : ∀ c, c < H.length → hget h1 c = hget H c := fun c hc => by rw [o1 c (by omega), hget_appl hc]
    have eq1 := eq
    have ej : ((j : Int) + 1).toNat = j + 1 := by omega
    simp (disch := first | omega | (simp only [fsLen]; omega)) only [↓fsPre, fsPost, fsCond, fsGen, fsDefs, cls, eqVal, vbGen, fill_bits, reduceCtorEq, Nat.reduceAdd, Nat.reduceMul, Nat.reduceSub, Nat.reduceLT, Nat.reduceLeDiff, Nat.reduceEqDiff, Nat.reduceBEq, Nat.reduceBNe, Int.reduceLT, Int.reduceLE, Int.reduceEq, Int.reduceNe, Int.reduceAdd, Int.reduceSub, Int.reduceNeg, Int.reduceToNat, Int.reduceMul, ↓reduceIte, Int.reduceGT, Int.reduceGE, hq, e0, eq, eb, ej]
    refine ⟨by omega, ?_⟩
    refine gre_app (N := H.length + 2) (new := (L.drop (j + 1)).flatMap pfC) g1 (by omega) n1 (sliceCells_at (by simp (disch := first | omega | (simp only [fsLen]; omega)) only [↓fsPre, fsPost, fsCond, fsGen, fsDefs, cls, eqVal, vbGen, fill_bits, reduceCtorEq, Nat.reduceAdd, Nat.reduceMul, Nat.reduceSub, Nat.reduceLT, Nat.reduceLeDiff, Nat.reduceEqDiff, Nat.reduceBEq, Nat.reduceBNe, Int.reduceLT, Int.reduceLE, Int.reduceEq, Int.reduceNe, Int.reduceAdd, Int.reduceSub, Int.reduceNeg, Int.reduceToNat, Int.reduceMul, ↓reduceIte, Int.reduceGT, Int.reduceGE, eb] <;> rfl) (cut_drop hlt)) rfl (by rw [pfs_length, List.length_drop]) (by rw [List.nil_append, pfs_length, List.length_take, Nat.min_eq_left (by omega)]; omega) (by omega) ?_
    intro v3 h3 g3 l3 n3 o3
    have eq2 := eq
    have eq := (o3 q (by omega)).trans eq
    have lq3 := hget_some_lt eq
    obtain ⟨o31, o32⟩ := g3.flat
    have hfin : GrE (hset h3 q (.cells [.int .i64 bits, v3] false)) ((L.take j ++ L.drop (j + 1)).flatMap pfC) v3 := by
      have : ((L.take j ++ L.drop (j + 1)).flatMap pfC) = ([] ++ (L.take j).flatMap pfC) ++ (L.drop (j + 1)).flatMap pfC := by simp
      rw [this]
      exact g3.set n3 (by omega)
    simp (disch := first | omega | (simp only [fsLen]; omega)) only [↓fsPre, fsPost, fsCond, fsGen, fsDefs, cls, eqVal, vbGen, fill_bits, reduceCtorEq, Nat.reduceAdd, Nat.reduceMul, Nat.reduceSub, Nat.reduceLT, Nat.reduceLeDiff, Nat.reduceEqDiff, Nat.reduceBEq, Nat.reduceBNe, Int.reduceLT, Int.reduceLE, Int.reduceEq, Int.reduceNe, Int.reduceAdd, Int.reduceSub, Int.reduceNeg, Int.reduceToNat, Int.reduceMul, ↓reduceIte, Int.reduceGT, Int.reduceGE, eq, o31, o32]
    refine ⟨by omega, by omega, by rw [eq1]; rfl, by omega, fun c hc hne => ?_, _, rfl, hfin, fun b k e => by have := n3 b k e; omega⟩
    rw [hget_hset_ne (Ne.symm hne), o3 c (by omega)]
    exact old2 c hc
end Go.Proofs
