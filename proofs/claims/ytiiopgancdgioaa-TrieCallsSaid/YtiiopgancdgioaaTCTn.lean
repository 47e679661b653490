/- Trie: the document's list. -/
import Derived.Test.YtiiopgancdgioaaVbE
import Derived.Test.YtiiopgancdgioaaTCTZ
import Derived.Test.YtiiopgancdgioaaTCVX
set_option linter.unusedSimpArgs false
set_option linter.unusedVariables false
set_option maxRecDepth 100000
namespace Go.Proofs
open Go.Ns

/-- Pairs as they lie in a list that is copied. -/
def GrE (h : Heap) (C : List NV) (v : NV) : Prop :=
  (C = [] ∧ ∃ A, v = .slice A 0 (.fix 0)) ∨ ∃ b k, v = .slice (some (b, 0)) k (.opn 4) ∧ hget h b = some (.cells C false) ∧ C.length = k * 4 ∧ 0 < k
theorem GrE.one {h : Heap} {C : List NV} {v : NV} (g : GrE h C v) : v.one = true := by
  rcases g with ⟨_, A, rfl⟩ | ⟨b, k, rfl, _⟩ <;> rfl
theorem GrE.mono {h h' : Heap} {C : List NV} {v : NV} (g : GrE h C v) (e : ∀ b, b < h.length → hget h' b = hget h b) : GrE h' C v := by
  rcases g with g | ⟨b, k, h1, h2, h3⟩
  · exact .inl g
  · exact .inr ⟨b, k, h1, by rw [e b (hget_lt h2)]; exact h2, h3⟩
theorem cut_sub {cs x : List NV} {o n k : Nat} (h : cut cs o n = some x) (hk : k ≤ n) : cut cs o k = some (x.take k) := by
  unfold cut at h ⊢
  split at h
  · cases h
    rw [if_pos (by omega), List.take_take, Nat.min_eq_left hk]
  · cases h
/-- The list of an index. -/
theorem GrE.prs {h : Heap} {L : List PfT} {v : NV} (g : GrE h (L.flatMap pfC) v) : ∃ A c, v = .slice A L.length c ∧ (c = .fix 0 ∧ L = [] ∨ c = .opn 4 ∧ 0 < L.length ∧ ∃ b, A = some (b, 0) ∧ hget h b = some (.cells (L.flatMap pfC) false)) := by
  rcases g with ⟨h1, A, rfl⟩ | ⟨b, k, rfl, h2, h3, h4⟩
  · have : L = [] := by
      cases L with
      | nil => rfl
      | cons a l => simp [pfC] at h1
    subst this
    exact ⟨A, _, rfl, .inl ⟨rfl, rfl⟩⟩
  · rw [pfs_length] at h3
    have : k = L.length := by omega
    subst this
    exact ⟨_, _, rfl, .inr ⟨rfl, h4, b, rfl, h2⟩⟩
theorem gre_app {h : Heap} {N m : Nat} {C new : List NV} {v x : NV} {K : NV → Heap → Prop} {t : Tg K} (g : GrE h C v) (hN : N ≤ h.length) (hgN : ∀ b k, v = .slice (some (b, 0)) k (.opn 4) → N ≤ b) (hx : sliceCells h 4 x = some new) (hm : lenOfSl x = some m) (hnew : new.length = m * 4)
    (hC : C.length ≤ 1000) (hm2 : m ≤ 1000)
    (k : ∀ v' h', GrE h' (C ++ new) v' → h.length ≤ h'.length → (∀ b k, v' = .slice (some (b, 0)) k (.opn 4) → N ≤ b) → (∀ b, b < N → hget h' b = hget h b) → K v' h') : optB (nappendS h 4 32 v x) K t := by
  rcases Nat.eq_zero_or_pos m with h0 | h0
  · subst h0
    have hn : new = [] := by simpa using hnew
    subst hn
    rcases g with ⟨rfl, A, rfl⟩ | ⟨b, l, rfl, h4, h5, h6⟩
    · cases A with
      | none => exact app_nil0 hx hm (k _ _ (.inl ⟨rfl, none, rfl⟩) (Nat.le_refl _) (fun b k e => by cases e) fun b _ => rfl)
      | some a => exact app_fix0 hx hm (Nat.le_refl _) (k _ _ (.inl ⟨rfl, some a, rfl⟩) (Nat.le_refl _) hgN fun b _ => rfl)
    · refine app_fit hx hm h4 (by omega) (k _ _ (.inr ⟨b, l, rfl, ?_, by simpa using h5, h6⟩) (by rw [length_hset]; exact Nat.le_refl _) (fun b' k e => hgN b' _ (by cases e; rfl)) fun b' hb' => ?_)
      · rw [splice_nil, hset_same h4, List.append_nil]; exact h4
      · rw [splice_nil, hset_same h4]
  · have hne : new ≠ [] := by
      intro e1
      rw [e1] at hnew
      simp at hnew
      omega
    rcases g with ⟨rfl, A, rfl⟩ | ⟨b, l, rfl, h4, h5, h6⟩
    · have kk : K (.slice (some (h.length, 0)) m (.opn 4)) (h ++ [some (.cells new false)]) := k _ _ (.inr ⟨h.length, m, rfl, by rw [List.nil_append]; exact hget_append_new, by rw [List.nil_append]; exact hnew, h0⟩) (by simp) (fun b k e => by cases e; exact hN) fun b hb => hget_appl (by omega)
      cases A with
      | none => exact app_nil hx hm h0 ⟨by omega, by omega⟩ kk
      | some a =>
        obtain ⟨b, o⟩ := a
        refine app_fix (old := []) hx hm (by omega) ⟨by omega, by omega⟩ rfl ?_
        rw [Nat.zero_add, List.nil_append]
        exact kk
    · have hml : (l + m) * 4 = C.length + new.length := by omega
      have hpos : 0 < new.length := List.length_pos_iff.2 hne
      refine app_grow hx hm h4 hne (by rw [hml]; omega) (by omega) ⟨by omega, by omega⟩ (k _ _ (.inr ⟨h.length, l + m, rfl, ?_, ?_, by omega⟩) (by simp) (fun b k e => by cases e; exact hN) fun b' hb' => ?_)
      · have := hget_append_new (h := hkill h b) (o := some (NBlk.cells (List.take (l * 4) (List.drop 0 C) ++ new) false))
        rw [length_hkill] at this
        rw [this, List.drop_zero, List.take_of_length_le (by omega)]
      · rw [List.length_append, hml]
      · have := hgN b l rfl
        rw [hget_appl (by rw [length_hkill]; omega), hget_hkill_ne (by omega)]

theorem GrE.flat {h : Heap} {C : List NV} {v : NV} (g : GrE h C v) : v.flat = true ∧ v.cells = [v] := by
  rcases g with ⟨_, A, rfl⟩ | ⟨b, k, rfl, _⟩ <;> exact ⟨rfl, rfl⟩
theorem GrE.set {h : Heap} {N c : Nat} {C : List NV} {v : NV} {x : NBlk} (g : GrE h C v) (n : ∀ b k, v = .slice (some (b, 0)) k (.opn 4) → N ≤ b) (hc : c < N) : GrE (hset h c x) C v := by
  rcases g with g | ⟨b, k, h1, h2, h3⟩
  · exact .inl g
  · have := n b k h1
    exact .inr ⟨b, k, h1, by rw [hget_hset_ne (by omega)]; exact h2, h3⟩
theorem cut_take {L : List PfT} {j : Nat} (hj : j ≤ L.length) : cut (L.flatMap pfC) 0 (j * 4) = some ((L.take j).flatMap pfC) := by
  have e : L.flatMap pfC = (L.take j).flatMap pfC ++ (L.drop j).flatMap pfC := by rw [← List.flatMap_append, List.take_append_drop]
  have hl : ((L.take j).flatMap pfC).length = j * 4 := by rw [pfs_length, List.length_take, Nat.min_eq_left hj]
  unfold cut
  rw [if_pos (by rw [pfs_length]; omega), List.drop_zero, e, List.take_left' hl]
theorem cut_drop {L : List PfT} {j : Nat} (hj : j ≤ L.length) : cut (L.flatMap pfC) (j * 4) ((L.length - j) * 4) = some ((L.drop j).flatMap pfC) := by
  have e : L.flatMap pfC = (L.take j).flatMap pfC ++ (L.drop j).flatMap pfC := by rw [← List.flatMap_append, List.take_append_drop]
  have hl : ((L.take j).flatMap pfC).length = j * 4 := by rw [pfs_length, List.length_take, Nat.min_eq_left hj]
  have hl2 : ((L.drop j).flatMap pfC).length = (L.length - j) * 4 := by rw [pfs_length, List.length_drop]
  unfold cut
  rw [if_pos (by rw [pfs_length]; omega), e, List.drop_left' hl, List.take_of_length_le (by omega)]

/-- Is a prefix in the list? -/
def thereK (L : List PfT) (k : BitVec 128 × Int) : Bool := match L[placeK ltQ L k]? with | some x => decide (x.1 = k) | none => false
theorem thereK_iff {L : List PfT} (hs : SortedK ltQ L) (k : BitVec 128 × Int) : thereK L k = true ↔ k ∈ L.map (·.1) := by
  unfold thereK
  constructor
  · intro h
    split at h
    · rename_i x hx
      simp only [decide_eq_true_eq] at h
      subst h
      exact List.mem_map_of_mem (List.mem_of_getElem? hx)
    · cases h
  · intro h
    obtain ⟨x, hx, rfl⟩ := List.mem_map.1 h
    rw [hs.mem_at ltQ_ord hx]
    simp
theorem thereK_lt {L : List PfT} {k : BitVec 128 × Int} (ht : thereK L k = true) : placeK ltQ L k < L.length := by
  rcases Nat.lt_or_ge (placeK ltQ L k) L.length with h | h
  · exact h
  · unfold thereK at ht
    rw [List.getElem?_eq_none h] at ht
    cases ht
theorem pfs_val {L : List PfT} {j : Nat} (hj : j < L.length) : cut (L.flatMap pfC) (j * 4) 2 = some [nb (hiOf L[j].1.1), nb (loOf L[j].1.1)] := by
  rw [cut_sub (cut_flatMap pfC_length hj) (by omega)]; rfl
theorem pfs_n {L : List PfT} {j : Nat} (hj : j < L.length) : (L.flatMap pfC)[j * 4 + 2]? = some (.int .i64 L[j].1.2) := by rw [cut_get (cut_flatMap pfC_length hj) (by omega)]; rfl
theorem pfs_id {L : List PfT} {j : Nat} (hj : j < L.length) : (L.flatMap pfC)[j * 4 + 3]? = some (.int .i64 L[j].2) := by rw [cut_get (cut_flatMap pfC_length hj) (by omega)]; rfl

set_option maxHeartbeats 1000000 in
theorem rplace_ok (H : Heap) (q bits : Nat) (sl : NV) (L : List PfT) (v : BitVec 128) (n : Int) (hq : hget H q = some (.cells [.int .i64 bits, sl] false)) (hg : GrE H (L.flatMap pfC) sl) (hL : L.length ≤ 100) :
    NCall Try.prog 32 [.ptr (some (q, 0)), vnv v, .int .i64 n] H fun r => r = (.tup [.int .i64 (placeK ltQ L (v, n)), .bool (thereK L (v, n))], H) := by
  have lq := hget_some_lt hq
  refine call_pure E0 mixed t32_ok (by kernel_rfl) ⟨trivial, trivial, trivial⟩ ?_
  have hc := fun H a => rcmp_ok H a v
  obtain ⟨A, c, rfl, hAc⟩ := hg.prs
  simp only [t32, vnv] at hc ⊢
  simp (disch := first | omega | (simp only [fsLen]; omega)) only [↓fsPre, fsPost, fsCond, fsGen, fsDefs, cls, eqVal, vbGen, fill_bits, reduceCtorEq, Nat.reduceAdd, Nat.reduceMul, Nat.reduceSub, Nat.reduceLT, Nat.reduceLeDiff, Nat.reduceEqDiff, Nat.reduceBEq, Nat.reduceBNe, Int.reduceLT, Int.reduceLE, Int.reduceEq, Int.reduceNe, Int.reduceAdd, Int.reduceSub, Int.reduceNeg, Int.reduceToNat, Int.reduceMul, ↓reduceIte, Int.reduceGT, Int.reduceGE]
  have hle := placeK_le (lt := ltQ) L (v, n)
  refine wloop (fun j F h => F 0 = .ptr (some (q, 0)) ∧ F 2 = .int .i64 n ∧ F 4 = .ptr (some (H.length, 0)) ∧ F 8 = .int .i64 j ∧ h = H ++ [some (.cells [nb (hiOf v), nb (loOf v)] false)]) (placeK ltQ L (v, n)) ?_ ?_ ?_
  · simp (disch := first | omega | (simp only [fsLen]; omega)) only [↓fsPre, fsPost, fsCond, fsGen, fsDefs, cls, eqVal, vbGen, fill_bits, reduceCtorEq, Nat.reduceAdd, Nat.reduceMul, Nat.reduceSub, Nat.reduceLT, Nat.reduceLeDiff, Nat.reduceEqDiff, Nat.reduceBEq, Nat.reduceBNe, Int.reduceLT, Int.reduceLE, Int.reduceEq, Int.reduceNe, Int.reduceAdd, Int.reduceSub, Int.reduceNeg, Int.reduceToNat, Int.reduceMul, ↓reduceIte, Int.reduceGT, Int.reduceGE]
  · rintro j F h hj ⟨f0, f2, f4, f8, rfl⟩
    rcases hAc with ⟨_, rfl⟩ | ⟨rfl, hp0, b, rfl, hb⟩
    · exact absurd hj (by simp [placeK])
    have hbl := hget_some_lt hb
    have hd : decide ((j : Int) < (L.length : Int)) = true := by simp; omega
    have hv := pfs_val (L := L) (j := j) (by omega)
    have hn := pfs_n (L := L) (j := j) (by omega)
    have hlt := placeK_lt (lt := ltQ) L (v, n) j (by omega) hj
    simp (disch := first | omega | (simp only [fsLen]; omega)) only [↓fsPre, fsPost, fsCond, fsGen, fsDefs, cls, eqVal, vbGen, fill_bits, reduceCtorEq, Nat.reduceAdd, Nat.reduceMul, Nat.reduceSub, Nat.reduceLT, Nat.reduceLeDiff, Nat.reduceEqDiff, Nat.reduceBEq, Nat.reduceBNe, Int.reduceLT, Int.reduceLE, Int.reduceEq, Int.reduceNe, Int.reduceAdd, Int.reduceSub, Int.reduceNeg, Int.reduceToNat, Int.reduceMul, ↓reduceIte, Int.reduceGT, Int.reduceGE, f0, f2, f4, f8, hq, hb, hd, hv, nb_one]
    refine callDT_one (hc _ _) rfl ?_
    rcases hlt with hlt | ⟨he, hlt⟩
    · have hc1 : cmpV L[j].1.1 v = -1 := by
        unfold cmpV
        rw [if_neg (fun e => by rw [e] at hlt; exact Nat.lt_irrefl _ hlt), if_pos hlt]
      simp (disch := first | omega | (simp only [fsLen]; omega)) only [↓fsPre, fsPost, fsCond, fsGen, fsDefs, cls, eqVal, vbGen, fill_bits, reduceCtorEq, Nat.reduceAdd, Nat.reduceMul, Nat.reduceSub, Nat.reduceLT, Nat.reduceLeDiff, Nat.reduceEqDiff, Nat.reduceBEq, Nat.reduceBNe, Int.reduceLT, Int.reduceLE, Int.reduceEq, Int.reduceNe, Int.reduceAdd, Int.reduceSub, Int.reduceNeg, Int.reduceToNat, Int.reduceMul, ↓reduceIte, Int.reduceGT, Int.reduceGE, f0, f2, f4, f8, hc1]
    · have hc1 : cmpV L[j].1.1 v = 0 := by unfold cmpV; rw [if_pos he]
      have hd2 : decide (L[j].1.2 ≥ n) = false := by simp; exact hlt
      simp (disch := first | omega | (simp only [fsLen]; omega)) only [↓fsPre, fsPost, fsCond, fsGen, fsDefs, cls, eqVal, vbGen, fill_bits, reduceCtorEq, Nat.reduceAdd, Nat.reduceMul, Nat.reduceSub, Nat.reduceLT, Nat.reduceLeDiff, Nat.reduceEqDiff, Nat.reduceBEq, Nat.reduceBNe, Int.reduceLT, Int.reduceLE, Int.reduceEq, Int.reduceNe, Int.reduceAdd, Int.reduceSub, Int.reduceNeg, Int.reduceToNat, Int.reduceMul, ↓reduceIte, Int.reduceGT, Int.reduceGE, f0, f2, f4, f8, hc1, hq, hb, hd, hn, hd2]
  · rintro F h ⟨f0, f2, f4, f8, rfl⟩
    by_cases hend : placeK ltQ L (v, n) < L.length
    · rcases hAc with ⟨_, rfl⟩ | ⟨rfl, hp0, b, rfl, hb⟩
      · simp at hend
      have hbl := hget_some_lt hb
      have hd : decide ((placeK ltQ L (v, n) : Int) < (L.length : Int)) = true := by simp; omega
      have hv := pfs_val hend
      have hn := pfs_n hend
      have hlt := placeK_at (lt := ltQ) L (v, n) hend
      have hth : thereK L (v, n) = decide (L[placeK ltQ L (v, n)].1 = (v, n)) := by unfold thereK; rw [List.getElem?_eq_getElem hend]
      rw [hth]
      generalize placeK ltQ L (v, n) = i at *
      unfold ltQ at hlt
      rw [not_or, not_and] at hlt
      by_cases he : L[i].1.1 = v
      · have hc1 : cmpV L[i].1.1 v = 0 := by unfold cmpV; rw [if_pos he]
        have hd2 : decide (L[i].1.2 ≥ n) = true := by
          have := hlt.2 he
          simp only at this
          simp; omega
        have hx : decide (L[i].1 = (v, n)) = (L[i].1.2 == n) := by
          by_cases h2 : L[i].1.2 = n
          · rw [h2, beq_self_eq_true]; exact decide_eq_true (Prod.ext he h2)
          · rw [beq_false_of_ne h2]; exact decide_eq_false (fun e => h2 (by rw [e]))
        have hw : (hiOf L[i].1.1 == hiOf v && loOf L[i].1.1 == loOf v) = true := by rw [words_eq, he, beq_self_eq_true]
        rw [hx]
        simp (disch := first | omega | (simp only [fsLen]; omega)) only [↓fsPre, fsPost, fsCond, fsGen, fsDefs, cls, eqVal, vbGen, fill_bits, reduceCtorEq, Nat.reduceAdd, Nat.reduceMul, Nat.reduceSub, Nat.reduceLT, Nat.reduceLeDiff, Nat.reduceEqDiff, Nat.reduceBEq, Nat.reduceBNe, Int.reduceLT, Int.reduceLE, Int.reduceEq, Int.reduceNe, Int.reduceAdd, Int.reduceSub, Int.reduceNeg, Int.reduceToNat, Int.reduceMul, ↓reduceIte, Int.reduceGT, Int.reduceGE, f0, f2, f4, f8, hq, hb, hd, hv, hn, nb_one]
        refine callDT_one (hc _ _) rfl ?_
        simp (disch := first | omega | (simp only [fsLen]; omega)) only [↓fsPre, fsPost, fsCond, fsGen, fsDefs, cls, eqVal, vbGen, fill_bits, reduceCtorEq, Nat.reduceAdd, Nat.reduceMul, Nat.reduceSub, Nat.reduceLT, Nat.reduceLeDiff, Nat.reduceEqDiff, Nat.reduceBEq, Nat.reduceBNe, Int.reduceLT, Int.reduceLE, Int.reduceEq, Int.reduceNe, Int.reduceAdd, Int.reduceSub, Int.reduceNeg, Int.reduceToNat, Int.reduceMul, ↓reduceIte, Int.reduceGT, Int.reduceGE, f0, f2, f4, f8, hq, hb, hd, hv, hn, hc1, hd2, hw, nb_one]
        exact ⟨_, rfl⟩
      · have hc1 : cmpV L[i].1.1 v = 1 := by
          unfold cmpV; rw [if_neg he, if_neg (fun h => hlt.1 h)]
        have hx : decide (L[i].1 = (v, n)) = false := decide_eq_false (fun e => he (by rw [e]))
        have hw : (hiOf L[i].1.1 == hiOf v && loOf L[i].1.1 == loOf v) = false := by rw [words_eq]; exact beq_false_of_ne he
        rw [hx]
        simp (disch := first | omega | (simp only [fsLen]; omega)) only [↓fsPre, fsPost, fsCond, fsGen, fsDefs, cls, eqVal, vbGen, fill_bits, reduceCtorEq, Nat.reduceAdd, Nat.reduceMul, Nat.reduceSub, Nat.reduceLT, Nat.reduceLeDiff, Nat.reduceEqDiff, Nat.reduceBEq, Nat.reduceBNe, Int.reduceLT, Int.reduceLE, Int.reduceEq, Int.reduceNe, Int.reduceAdd, Int.reduceSub, Int.reduceNeg, Int.reduceToNat, Int.reduceMul, ↓reduceIte, Int.reduceGT, Int.reduceGE, f0, f2, f4, f8, hq, hb, hd, hv, hn, nb_one]
        refine callDT_one (hc _ _) rfl ?_
        simp (disch := first | omega | (simp only [fsLen]; omega)) only [↓fsPre, fsPost, fsCond, fsGen, fsDefs, cls, eqVal, vbGen, fill_bits, reduceCtorEq, Nat.reduceAdd, Nat.reduceMul, Nat.reduceSub, Nat.reduceLT, Nat.reduceLeDiff, Nat.reduceEqDiff, Nat.reduceBEq, Nat.reduceBNe, Int.reduceLT, Int.reduceLE, Int.reduceEq, Int.reduceNe, Int.reduceAdd, Int.reduceSub, Int.reduceNeg, Int.reduceToNat, Int.reduceMul, ↓reduceIte, Int.reduceGT, Int.reduceGE, f0, f2, f4, f8, hq, hb, hd, hv, hn, hc1, hw, nb_one]
        exact ⟨_, rfl⟩
    · have hd : decide ((placeK ltQ L (v, n) : Int) < (L.length : Int)) = false := by simp; omega
      have hth : thereK L (v, n) = false := by unfold thereK; rw [List.getElem?_eq_none (by omega)]
      rw [hth]
      simp (disch := first | omega | (simp only [fsLen]; omega)) only [↓fsPre, fsPost, fsCond, fsGen, fsDefs, cls, eqVal, vbGen, fill_bits, reduceCtorEq, Nat.reduceAdd, Nat.reduceMul, Nat.reduceSub, Nat.reduceLT, Nat.reduceLeDiff, Nat.reduceEqDiff, Nat.reduceBEq, Nat.reduceBNe, Int.reduceLT, Int.reduceLE, Int.reduceEq, Int.reduceNe, Int.reduceAdd, Int.reduceSub, Int.reduceNeg, Int.reduceToNat, Int.reduceMul, ↓reduceIte, Int.reduceGT, Int.reduceGE, f0, f2, f4, f8, hq, hd]
      exact ⟨_, rfl⟩
end Go.Proofs
