/- Trie: TrieEmpty. -/
import Derived.Test.YtiiopgancdgioaaVbE
import Derived.Test.YtiiopgancdgioaaTETZ
set_option linter.unusedSimpArgs false
set_option linter.unusedVariables false
set_option maxRecDepth 100000
namespace Go.Proofs
open Go.Ns

def empA : NCode := t6.body.a1
def empB : NCode := t6.body.a2.a1
def empC : NCode := t6.body.a2.a2.a1
def empD : NCode := t6.body.a2.a2.a2.a1
def empE : NCode := t6.body.a2.a2.a2.a2.a1
def empF : NCode := t6.body.a2.a2.a2.a2.a2.a1
def empG : NCode := t6.body.a2.a2.a2.a2.a2.a2
theorem emp_body : t6.body = .seq empA (.seq empB (.seq empC (.seq empD (.seq empE (.seq empF empG))))) := rfl
theorem emp_res : t6.res = [.tmp 6] := rfl

theorem rem_head {bits : Nat} (hb : bits ≤ 128) {t : T} (h : t.ok bits) {x : PfT} {l : List PfT} (e : t.items bits = x :: l) : (getP bits t x.1.1 x.1.2).isSome = true ∧ (remO bits t x.1.1 x.1.2).items bits = l := by
  have hg : getP bits t x.1.1 x.1.2 = some x.2 := (getP_items hb h.fit _ _ _).2 (by rw [e]; exact List.mem_cons_self ..)
  refine ⟨by rw [hg]; rfl, ?_⟩
  have ho : okP bits x.1.1 x.1.2 = true := by
    by_cases ho : okP bits x.1.1 x.1.2 = true
    · exact ho
    · unfold getP at hg; rw [if_neg ho] at hg; cases hg
  unfold remO
  rw [hg, if_pos (show (some x.2).isSome = true from rfl)]
  obtain ⟨m, hm, hmb⟩ := okP_nat ho
  rw [hm] at ho ⊢
  have hv := okP_val hb ho
  rw [Int.toNat_natCast, T.items_rem hb h.fit (p := pathB bits m x.1.1) (j := 0) (by rw [pathB_length]; exact hmb) (by rw [e]; simp) (by simp only [e, List.getElem_cons_zero]; rw [← hv.2, pathB_length, ← hm]), e]
  rfl
theorem items_nil {bits : Nat} (hb : bits ≤ 128) {t : T} (h : t.ok bits) (e : t.items bits = []) : t = .nil := by
  by_cases hn : t = .nil
  · exact hn
  · obtain ⟨p, i, hp⟩ := T.wf_some t h.wf hn
    have := (T.mem_items hb h.fit _).2 ⟨p, i, hp, rfl⟩
    rw [e] at this; cases this

theorem put_zero {bits : Nat} (hb : bits ≤ 128) : okP bits 0#128 0 = true ∧ getP bits .nil 0#128 0 = none ∧ putO bits .nil 0#128 0 7 = .node true 7 .nil .nil := by
  have h1 := (valP_okP hb (p := []) (by simp)).1
  rw [valP_nil] at h1
  have h1 : okP bits 0#128 0 = true := h1
  have h2 : getP bits .nil 0#128 0 = none := by unfold getP; rw [if_pos h1, T.get_nil]
  refine ⟨h1, h2, ?_⟩
  unfold putO
  rw [if_pos ⟨h1, h2⟩]
  rfl
theorem bl_low {v : BitVec 128} {b : Nat} (hb : b ≤ 128) : bl (v &&& onesV b).toNat ≤ b := by
  rw [bl_le, and_ones, show clampN (b : Int) = b by unfold clampN; omega]
  exact Nat.mod_lt _ (Nat.two_pow_pos b)

set_option maxHeartbeats 1000000 in
theorem empty_ok (H : Heap) (n : Int) (w : NV) (os : List OpD) (v : BitVec 128) (hw : OpsArg H w os) : NFun Try.prog 6 [.int .i64 n, w, vnv v] H fun q => q.1 = .bool true := by
  refine fun_of_fwp E0 mixed t6_ok.2 (by kernel_rfl) ?_
  rw [fwp_T, emp_body, emp_res]
  obtain ⟨A, m, rfl, hm1, hm2, hA⟩ := hw.shape
  have hok := hw.1
  have a127 := and127 n
  obtain ⟨bits, hbits, hb1, hb2⟩ : ∃ b : Nat, 1 + n % 128 = (b : Int) ∧ 1 ≤ b ∧ b ≤ 128 := ⟨(1 + n % 128).toNat, by omega, by omega, by omega⟩
  have eN : (if (16 : Int) < os.length then (16 : Int) else os.length) = (min 16 os.length : Nat) := by split <;> omega
  have hN1 : min 16 os.length ≤ 16 ∧ min 16 os.length ≤ os.length := by omega
  generalize min 16 os.length = N1 at *
  have eA1 : (if m = 0 then A else Option.map (fun x => (x.fst, x.snd)) A) = A := by cases A <;> simp
  simp only [vnv]
  simp (disch := first | omega | (simp only [fsLen]; omega)) only [↓fsPre, fsPost, fsCond, fsGen, fsDefs, cls, eqVal, vbGen, fill_bits, reduceCtorEq, Nat.reduceAdd, Nat.reduceMul, Nat.reduceSub, Nat.reduceLT, Nat.reduceLeDiff, Nat.reduceEqDiff, Nat.reduceBEq, Nat.reduceBNe, Int.reduceLT, Int.reduceLE, Int.reduceEq, Int.reduceNe, Int.reduceAdd, Int.reduceSub, Int.reduceNeg, Int.reduceToNat, Int.reduceMul, ↓reduceIte, Int.reduceGT, Int.reduceGE]
  simp only [empA, t6, NCode.a1, NCode.a2]
  simp (disch := first | omega | (simp only [fsLen]; omega)) only [↓fsPre, fsPost, fsCond, fsGen, fsDefs, cls, eqVal, vbGen, fill_bits, reduceCtorEq, Nat.reduceAdd, Nat.reduceMul, Nat.reduceSub, Nat.reduceLT, Nat.reduceLeDiff, Nat.reduceEqDiff, Nat.reduceBEq, Nat.reduceBNe, Int.reduceLT, Int.reduceLE, Int.reduceEq, Int.reduceNe, Int.reduceAdd, Int.reduceSub, Int.reduceNeg, Int.reduceToNat, Int.reduceMul, ↓reduceIte, Int.reduceGT, Int.reduceGE]
  simp only [empB, t6, NCode.a1, NCode.a2]
  simp (disch := first | omega | (simp only [fsLen]; omega)) only [↓fsPre, fsPost, fsCond, fsGen, fsDefs, cls, eqVal, vbGen, fill_bits, reduceCtorEq, Nat.reduceAdd, Nat.reduceMul, Nat.reduceSub, Nat.reduceLT, Nat.reduceLeDiff, Nat.reduceEqDiff, Nat.reduceBEq, Nat.reduceBNe, Int.reduceLT, Int.reduceLE, Int.reduceEq, Int.reduceNe, Int.reduceAdd, Int.reduceSub, Int.reduceNeg, Int.reduceToNat, Int.reduceMul, ↓reduceIte, Int.reduceGT, Int.reduceGE, a127, hbits]
  simp only [empC, t6, NCode.a1, NCode.a2]
  simp (disch := first | omega | (simp only [fsLen]; omega)) only [↓fsPre, fsPost, fsCond, fsGen, fsDefs, cls, eqVal, vbGen, fill_bits, reduceCtorEq, Nat.reduceAdd, Nat.reduceMul, Nat.reduceSub, Nat.reduceLT, Nat.reduceLeDiff, Nat.reduceEqDiff, Nat.reduceBEq, Nat.reduceBNe, Int.reduceLT, Int.reduceLE, Int.reduceEq, Int.reduceNe, Int.reduceAdd, Int.reduceSub, Int.reduceNeg, Int.reduceToNat, Int.reduceMul, ↓reduceIte, Int.reduceGT, Int.reduceGE]
  refine callT_one (tnew_ok _ bits (by omega)) rfl ?_
  have e128 : (min (max 1 (bits : Int)) 128).toNat = bits := by omega
  rw [e128]
  have x0 : XAt (H.length + 1) (H ++ [some (.cells [nb (hiOf v), nb (loOf v)] false), some (.cells [.int .i64 bits, .ptr none] false)]) (H.length + 1) bits .nil :=
    ⟨⟨by simp (disch := first | omega | (simp only [fsLen]; omega)) only [↓fsPre, fsPost, fsCond, fsGen, fsDefs, cls, eqVal, vbGen, fill_bits, reduceCtorEq, Nat.reduceAdd, Nat.reduceMul, Nat.reduceSub, Nat.reduceLT, Nat.reduceLeDiff, Nat.reduceEqDiff, Nat.reduceBEq, Nat.reduceBNe, Int.reduceLT, Int.reduceLE, Int.reduceEq, Int.reduceNe, Int.reduceAdd, Int.reduceSub, Int.reduceNeg, Int.reduceToNat, Int.reduceMul, ↓reduceIte, Int.reduceGT, Int.reduceGE, ptr_nl], trivial, by simp [TT.bl]⟩, T.ok.nil, fun b hb => by rcases hb with rfl | hb; omega; cases hb⟩
  simp (disch := first | omega | (simp only [fsLen]; omega)) only [↓fsPre, fsPost, fsCond, fsGen, fsDefs, cls, eqVal, vbGen, fill_bits, reduceCtorEq, Nat.reduceAdd, Nat.reduceMul, Nat.reduceSub, Nat.reduceLT, Nat.reduceLeDiff, Nat.reduceEqDiff, Nat.reduceBEq, Nat.reduceBNe, Int.reduceLT, Int.reduceLE, Int.reduceEq, Int.reduceNe, Int.reduceAdd, Int.reduceSub, Int.reduceNeg, Int.reduceToNat, Int.reduceMul, ↓reduceIte, Int.reduceGT, Int.reduceGE]
  refine fwp_cutJ (fun F g => F 5 = .ptr (some (H.length, 0)) ∧ F 7 = .int .i64 bits ∧ F 8 = .ptr (some (H.length + 1, 0)) ∧ hget g H.length = some (.cells [nb (hiOf v), nb (loOf v)] false) ∧ ∃ tt, XAt (H.length + 1) g (H.length + 1) bits tt ∧ tt.er.nodes ≤ 16 * 129 ∧ (tt.er.items bits).length ≤ 16) ?_ ?_
  · simp only [empD, t6, NCode.a1, NCode.a2]
    simp (disch := first | omega | (simp only [fsLen]; omega)) only [↓fsPre, fsPost, fsCond, fsGen, fsDefs, cls, eqVal, vbGen, fill_bits, reduceCtorEq, Nat.reduceAdd, Nat.reduceMul, Nat.reduceSub, Nat.reduceLT, Nat.reduceLeDiff, Nat.reduceEqDiff, Nat.reduceBEq, Nat.reduceBNe, Int.reduceLT, Int.reduceLE, Int.reduceEq, Int.reduceNe, Int.reduceAdd, Int.reduceSub, Int.reduceNeg, Int.reduceToNat, Int.reduceMul, ↓reduceIte, Int.reduceGT, Int.reduceGE, eN, eA1]
    refine wloop (fun j F g => F 31 = .slice A N1 (.fix m) ∧ F 32 = .int .i64 N1 ∧ F 33 = .int .i64 j ∧ F 5 = .ptr (some (H.length, 0)) ∧ F 7 = .int .i64 bits ∧ F 8 = .ptr (some (H.length + 1, 0)) ∧ OIn (fun b => b < H.length) g A os ∧ hget g H.length = some (.cells [nb (hiOf v), nb (loOf v)] false) ∧ ∃ tt, XAt (H.length + 1) g (H.length + 1) bits tt ∧ tt.er.nodes ≤ j * 129 ∧ (tt.er.items bits).length ≤ j) N1 ?_ ?_ ?_
    · simp (disch := first | omega | (simp only [fsLen]; omega)) only [↓fsPre, fsPost, fsCond, fsGen, fsDefs, cls, eqVal, vbGen, fill_bits, reduceCtorEq, Nat.reduceAdd, Nat.reduceMul, Nat.reduceSub, Nat.reduceLT, Nat.reduceLeDiff, Nat.reduceEqDiff, Nat.reduceBEq, Nat.reduceBNe, Int.reduceLT, Int.reduceLE, Int.reduceEq, Int.reduceNe, Int.reduceAdd, Int.reduceSub, Int.reduceNeg, Int.reduceToNat, Int.reduceMul, ↓reduceIte, Int.reduceGT, Int.reduceGE]
      exact ⟨hA.keep (fun b hb _ => hget_appl hb) (fun b hb => hb), _, x0, by simp [TT.er, T.nodes], by simp [TT.er, T.items, T.itemsAt]⟩
    · rintro j F g hj ⟨f31, f32, f33, f5, f7, f8, hO, hv, tt, X, hn1, hn2⟩
      obtain ⟨b, cs, ro, rfl, hbH, hb, hcut⟩ := hO (by omega)
      have lb := hget_some_lt hb
      have lv := hget_some_lt hv
      have hc := hcut j (by omega)
      have hoj := hok os[j] (List.getElem_mem _)
      have hpr := fun H => prefix_ok H os[j] hoj bits ⟨hb1, hb2⟩
      simp only [opC, vnv] at hc hpr
      have hd : decide ((j : Int) < (N1 : Int)) = true := by simp; omega
      simp (disch := first | omega | (simp only [fsLen]; omega)) only [↓fsPre, fsPost, fsCond, fsGen, fsDefs, cls, eqVal, vbGen, fill_bits, reduceCtorEq, Nat.reduceAdd, Nat.reduceMul, Nat.reduceSub, Nat.reduceLT, Nat.reduceLeDiff, Nat.reduceEqDiff, Nat.reduceBEq, Nat.reduceBNe, Int.reduceLT, Int.reduceLE, Int.reduceEq, Int.reduceNe, Int.reduceAdd, Int.reduceSub, Int.reduceNeg, Int.reduceToNat, Int.reduceMul, ↓reduceIte, Int.reduceGT, Int.reduceGE, f31, f32, f33, f5, f7, f8, hd, hb, hc, nb_one]
      refine callT_one (hpr _) rfl ?_
      simp (disch := first | omega | (simp only [fsLen]; omega)) only [↓fsPre, fsPost, fsCond, fsGen, fsDefs, cls, eqVal, vbGen, fill_bits, reduceCtorEq, Nat.reduceAdd, Nat.reduceMul, Nat.reduceSub, Nat.reduceLT, Nat.reduceLeDiff, Nat.reduceEqDiff, Nat.reduceBEq, Nat.reduceBNe, Int.reduceLT, Int.reduceLE, Int.reduceEq, Int.reduceNe, Int.reduceAdd, Int.reduceSub, Int.reduceNeg, Int.reduceToNat, Int.reduceMul, ↓reduceIte, Int.reduceGT, Int.reduceGE, f31, f32, f33, f5, f7, f8, hd, hb, hc, nb_one]
      have X1 : XAt (H.length + 1) (g ++ [some (.cells [.int .i64 os[j].k, .int .u8 os[j].raw, nb (hiOf os[j].v), nb (loOf os[j].v), .int .i64 os[j].n, .int .i64 os[j].id] false), some (.cells [nb (hiOf (prefO bits os[j]).1), nb (loOf (prefO bits os[j]).1)] false)]) (H.length + 1) bits tt := X.keep fun b _ hb => hget_appl hb
      have hpu := tput_any _ (H.length + 1) bits tt (prefO bits os[j]).1 (prefO bits os[j]).2 os[j].id hb2 X1.tr
      simp only [vnv] at hpu
      refine callT_D hpu rfl ?_
      rintro x h1 ⟨rfl, tt', P⟩
      obtain ⟨X2, k2⟩ := X1.putQ P (putO_ok X1.ok _ _ _) (by simp; omega)
      simp (disch := first | omega | (simp only [fsLen]; omega)) only [↓fsPre, fsPost, fsCond, fsGen, fsDefs, cls, eqVal, vbGen, fill_bits, reduceCtorEq, Nat.reduceAdd, Nat.reduceMul, Nat.reduceSub, Nat.reduceLT, Nat.reduceLeDiff, Nat.reduceEqDiff, Nat.reduceBEq, Nat.reduceBNe, Int.reduceLT, Int.reduceLE, Int.reduceEq, Int.reduceNe, Int.reduceAdd, Int.reduceSub, Int.reduceNeg, Int.reduceToNat, Int.reduceMul, ↓reduceIte, Int.reduceGT, Int.reduceGE, f31, f32, f33, f5, f7, f8]
      refine ⟨hO.keep (fun b hb hbg => by rw [k2 b (by omega), hget_appl hbg]) (fun b hb => hb), by rw [k2 _ (by omega), hget_appl lv]; exact hv, tt', X2, ?_, ?_⟩
      · rw [P.er]
        have := putO_nodes (t := tt.er) hb2 (prefO bits os[j]).1 (prefO bits os[j]).2 os[j].id
        omega
      · rw [P.er]
        have := putO_items hb2 X.ok (prefO bits os[j]).1 (prefO bits os[j]).2 os[j].id
        omega
    · rintro F g ⟨f31, f32, f33, f5, f7, f8, hO, hv, tt, X, hn1, hn2⟩
      simp (disch := first | omega | (simp only [fsLen]; omega)) only [↓fsPre, fsPost, fsCond, fsGen, fsDefs, cls, eqVal, vbGen, fill_bits, reduceCtorEq, Nat.reduceAdd, Nat.reduceMul, Nat.reduceSub, Nat.reduceLT, Nat.reduceLeDiff, Nat.reduceEqDiff, Nat.reduceBEq, Nat.reduceBNe, Int.reduceLT, Int.reduceLE, Int.reduceEq, Int.reduceNe, Int.reduceAdd, Int.reduceSub, Int.reduceNeg, Int.reduceToNat, Int.reduceMul, ↓reduceIte, Int.reduceGT, Int.reduceGE, f31, f32, f33, f5, f7, f8]
      exact ⟨hv, tt, X, by omega, by omega⟩
  rintro F g ⟨f5, f7, f8, hv, tt, X, hn1, hn2⟩
  simp (disch := first | omega | (simp only [fsLen]; omega)) only [↓fsPre, fsPost, fsCond, fsGen, fsDefs, cls, eqVal, vbGen, fill_bits, reduceCtorEq, Nat.reduceAdd, Nat.reduceMul, Nat.reduceSub, Nat.reduceLT, Nat.reduceLeDiff, Nat.reduceEqDiff, Nat.reduceBEq, Nat.reduceBNe, Int.reduceLT, Int.reduceLE, Int.reduceEq, Int.reduceNe, Int.reduceAdd, Int.reduceSub, Int.reduceNeg, Int.reduceToNat, Int.reduceMul, ↓reduceIte, Int.reduceGT, Int.reduceGE]
  refine fwp_cutJ (fun F g => F 5 = .ptr (some (H.length, 0)) ∧ F 7 = .int .i64 bits ∧ F 8 = .ptr (some (H.length + 1, 0)) ∧ hget g H.length = some (.cells [nb (hiOf v), nb (loOf v)] false) ∧ XAt (H.length + 1) g (H.length + 1) bits .nil) ?_ ?_
  · simp only [empE, t6, NCode.a1, NCode.a2]
    have lv := hget_some_lt hv
    simp (disch := first | omega | (simp only [fsLen]; omega)) only [↓fsPre, fsPost, fsCond, fsGen, fsDefs, cls, eqVal, vbGen, fill_bits, reduceCtorEq, Nat.reduceAdd, Nat.reduceMul, Nat.reduceSub, Nat.reduceLT, Nat.reduceLeDiff, Nat.reduceEqDiff, Nat.reduceBEq, Nat.reduceBNe, Int.reduceLT, Int.reduceLE, Int.reduceEq, Int.reduceNe, Int.reduceAdd, Int.reduceSub, Int.reduceNeg, Int.reduceToNat, Int.reduceMul, ↓reduceIte, Int.reduceGT, Int.reduceGE, f8]
    refine callT_D (tall_ok g (H.length + 1) bits tt hb2 X.tr X.ok.fit (by omega)) rfl ?_
    rintro x g1 ⟨l1, k1, gc⟩
    have l1 : g.length ≤ g1.length := l1
    have k1 : ∀ b, b < g.length → hget g1 b = hget g b := k1
    have gc : GrC g1 g.length ((tt.er.items bits).flatMap pfC) 4 x := gc
    have X1 : XAt (H.length + 1) g1 (H.length + 1) bits tt := X.keep fun b _ hb => k1 b hb
    obtain ⟨B, c, rfl, hB⟩ : ∃ B c, x = .slice B (tt.er.items bits).length c ∧ (0 < (tt.er.items bits).length → ∃ b, B = some (b, 0) ∧ g.length ≤ b ∧ hget g1 b = some (.cells ((tt.er.items bits).flatMap pfC) false)) := by
      rcases gc with ⟨h1, h2⟩ | ⟨b, k, h1, h2, h3, h4, h5⟩
      · have := congrArg List.length h1
        rw [pfs_length] at this
        simp only [List.length_nil] at this
        have : (tt.er.items bits).length = 0 := by omega
        exact ⟨none, .fix 0, by rw [this]; exact h2, fun h => by omega⟩
      · rw [pfs_length] at h4
        have : k = (tt.er.items bits).length := by omega
        subst this
        exact ⟨_, _, h1, fun _ => ⟨b, rfl, h2, h3⟩⟩
    obtain ⟨L0, hL0⟩ : ∃ L0, L0 = tt.er.items bits := ⟨_, rfl⟩
    rw [← hL0] at hB hn2 ⊢
    have hn3 : L0.length ≤ 16 := hn2
    simp (disch := first | omega | (simp only [fsLen]; omega)) only [↓fsPre, fsPost, fsCond, fsGen, fsDefs, cls, eqVal, vbGen, fill_bits, reduceCtorEq, Nat.reduceAdd, Nat.reduceMul, Nat.reduceSub, Nat.reduceLT, Nat.reduceLeDiff, Nat.reduceEqDiff, Nat.reduceBEq, Nat.reduceBNe, Int.reduceLT, Int.reduceLE, Int.reduceEq, Int.reduceNe, Int.reduceAdd, Int.reduceSub, Int.reduceNeg, Int.reduceToNat, Int.reduceMul, ↓reduceIte, Int.reduceGT, Int.reduceGE, f8]
    refine wloop (fun j F h => F 5 = .ptr (some (H.length, 0)) ∧ F 7 = .int .i64 bits ∧ F 8 = .ptr (some (H.length + 1, 0)) ∧ F 51 = .slice B L0.length c ∧ F 52 = .int .i64 L0.length ∧ F 53 = .int .i64 j ∧ hget h H.length = some (.cells [nb (hiOf v), nb (loOf v)] false) ∧
      ∃ tt, XAt (H.length + 1) h (H.length + 1) bits tt ∧ tt.er.items bits = L0.drop j ∧ (0 < L0.length → ∃ b, B = some (b, 0) ∧ b ≠ H.length + 1 ∧ b ∉ tt.bl ∧ hget h b = some (.cells (L0.flatMap pfC) false))) L0.length ?_ ?_ ?_
    · simp (disch := first | omega | (simp only [fsLen]; omega)) only [↓fsPre, fsPost, fsCond, fsGen, fsDefs, cls, eqVal, vbGen, fill_bits, reduceCtorEq, Nat.reduceAdd, Nat.reduceMul, Nat.reduceSub, Nat.reduceLT, Nat.reduceLeDiff, Nat.reduceEqDiff, Nat.reduceBEq, Nat.reduceBNe, Int.reduceLT, Int.reduceLE, Int.reduceEq, Int.reduceNe, Int.reduceAdd, Int.reduceSub, Int.reduceNeg, Int.reduceToNat, Int.reduceMul, ↓reduceIte, Int.reduceGT, Int.reduceGE, f5, f7, f8]
      refine ⟨by rw [k1 _ lv]; exact hv, tt, X1, by rw [hL0], fun h0 => ?_⟩
      obtain ⟨b, e1, e2, e3⟩ := hB h0
      have lq := X.tr.lt (.inl rfl)
      exact ⟨b, e1, by omega, fun hm => by have := X.tr.lt (.inr hm); omega, e3⟩
    · clear f5 f7 f8 hv lv X X1 hB gc hn1 hn2 hL0
      rintro j F h hj ⟨f5, f7, f8, f51, f52, f53, hv, tt, X, hit, hB⟩
      obtain ⟨b, rfl, hbq, hbt, hb⟩ := hB (by omega)
      have lb := hget_some_lt hb
      have lv := hget_some_lt hv
      have hc : cut (L0.flatMap pfC) (j * 4) 4 = some (pfC L0[j]) := cut_flatMap pfC_length hj
      have hd : decide ((j : Int) < (L0.length : Int)) = true := by simp; omega
      rw [List.drop_eq_getElem_cons hj] at hit
      obtain ⟨r1, r2⟩ := rem_head hb2 X.ok hit
      simp only [pfC] at hc
      simp (disch := first | omega | (simp only [fsLen]; omega)) only [↓fsPre, fsPost, fsCond, fsGen, fsDefs, cls, eqVal, vbGen, fill_bits, reduceCtorEq, Nat.reduceAdd, Nat.reduceMul, Nat.reduceSub, Nat.reduceLT, Nat.reduceLeDiff, Nat.reduceEqDiff, Nat.reduceBEq, Nat.reduceBNe, Int.reduceLT, Int.reduceLE, Int.reduceEq, Int.reduceNe, Int.reduceAdd, Int.reduceSub, Int.reduceNeg, Int.reduceToNat, Int.reduceMul, ↓reduceIte, Int.reduceGT, Int.reduceGE, f5, f7, f8, f51, f52, f53, hd, hb, hc, nb_one]
      have X1 : XAt (H.length + 1) (h ++ [some (.cells [nb (hiOf L0[j].1.1), nb (loOf L0[j].1.1), .int .i64 L0[j].1.2, .int .i64 L0[j].2] false)]) (H.length + 1) bits tt := X.keep fun b _ hb => hget_appl hb
      have hrm := trem_any _ (H.length + 1) bits tt L0[j].1.1 L0[j].1.2 hb2 X1.tr
      rw [r1] at hrm
      simp only [vnv] at hrm
      refine callT_D hrm rfl ?_
      rintro x h1 ⟨rfl, tt', P⟩
      obtain ⟨X2, k2⟩ := X1.putQ P (remO_ok X1.ok _ _) (by have := X.tr.lt (.inl rfl); simp; omega)
      simp (disch := first | omega | (simp only [fsLen]; omega)) only [↓fsPre, fsPost, fsCond, fsGen, fsDefs, cls, eqVal, vbGen, fill_bits, reduceCtorEq, Nat.reduceAdd, Nat.reduceMul, Nat.reduceSub, Nat.reduceLT, Nat.reduceLeDiff, Nat.reduceEqDiff, Nat.reduceBEq, Nat.reduceBNe, Int.reduceLT, Int.reduceLE, Int.reduceEq, Int.reduceNe, Int.reduceAdd, Int.reduceSub, Int.reduceNeg, Int.reduceToNat, Int.reduceMul, ↓reduceIte, Int.reduceGT, Int.reduceGE, f5, f7, f8, f51, f52, f53]
      refine ⟨by rw [k2 _ (by omega), hget_appl lv]; exact hv, tt', X2, by rw [P.er]; exact r2, fun _ => ⟨b, rfl, hbq, fun hm => ?_, ?_⟩⟩
      · rcases P.new b hm with h | h
        · exact hbt h
        · simp at h; omega
      · rw [P.keep b (by simp; omega) hbq hbt, hget_appl lb]; exact hb
    · clear f5 f7 f8 hv lv X X1 hB gc hn1 hn2 hL0
      rintro F h ⟨f5, f7, f8, f51, f52, f53, hv, tt, X, hit, hB⟩
      rw [List.drop_of_length_le (Nat.le_refl _)] at hit
      have hnil := items_nil hb2 X.ok hit
      rw [TT.er_nil] at hnil
      subst hnil
      simp (disch := first | omega | (simp only [fsLen]; omega)) only [↓fsPre, fsPost, fsCond, fsGen, fsDefs, cls, eqVal, vbGen, fill_bits, reduceCtorEq, Nat.reduceAdd, Nat.reduceMul, Nat.reduceSub, Nat.reduceLT, Nat.reduceLeDiff, Nat.reduceEqDiff, Nat.reduceBEq, Nat.reduceBNe, Int.reduceLT, Int.reduceLE, Int.reduceEq, Int.reduceNe, Int.reduceAdd, Int.reduceSub, Int.reduceNeg, Int.reduceToNat, Int.reduceMul, ↓reduceIte, Int.reduceGT, Int.reduceGE, f5, f7, f8, f51, f52, f53]
      exact ⟨hv, X⟩
  clear f5 f7 f8 hv X hn1 hn2 F g tt
  rintro F g ⟨f5, f7, f8, hv, X⟩
  simp (disch := first | omega | (simp only [fsLen]; omega)) only [↓fsPre, fsPost, fsCond, fsGen, fsDefs, cls, eqVal, vbGen, fill_bits, reduceCtorEq, Nat.reduceAdd, Nat.reduceMul, Nat.reduceSub, Nat.reduceLT, Nat.reduceLeDiff, Nat.reduceEqDiff, Nat.reduceBEq, Nat.reduceBNe, Int.reduceLT, Int.reduceLE, Int.reduceEq, Int.reduceNe, Int.reduceAdd, Int.reduceSub, Int.reduceNeg, Int.reduceToNat, Int.reduceMul, ↓reduceIte, Int.reduceGT, Int.reduceGE]
  simp only [empF, t6, NCode.a1, NCode.a2]
  have lv := hget_some_lt hv
  simp (disch := first | omega | (simp only [fsLen]; omega)) only [↓fsPre, fsPost, fsCond, fsGen, fsDefs, cls, eqVal, vbGen, fill_bits, reduceCtorEq, Nat.reduceAdd, Nat.reduceMul, Nat.reduceSub, Nat.reduceLT, Nat.reduceLeDiff, Nat.reduceEqDiff, Nat.reduceBEq, Nat.reduceBNe, Int.reduceLT, Int.reduceLE, Int.reduceEq, Int.reduceNe, Int.reduceAdd, Int.reduceSub, Int.reduceNeg, Int.reduceToNat, Int.reduceMul, ↓reduceIte, Int.reduceGT, Int.reduceGE, f8]
  refine callT_one (tlen_ok _ _ bits .nil hb2 X.tr X.ok.fit (by simp [TT.er, T.items, T.itemsAt])) rfl ?_
  have z1 : ((((TT.nil).er.items bits).length : Nat) : Int) = 0 := rfl
  have z2 : ((((TT.nil).er.nodes : Nat)) : Int) = 0 := rfl
  rw [z1]
  simp (disch := first | omega | (simp only [fsLen]; omega)) only [↓fsPre, fsPost, fsCond, fsGen, fsDefs, cls, eqVal, vbGen, fill_bits, reduceCtorEq, Nat.reduceAdd, Nat.reduceMul, Nat.reduceSub, Nat.reduceLT, Nat.reduceLeDiff, Nat.reduceEqDiff, Nat.reduceBEq, Nat.reduceBNe, Int.reduceLT, Int.reduceLE, Int.reduceEq, Int.reduceNe, Int.reduceAdd, Int.reduceSub, Int.reduceNeg, Int.reduceToNat, Int.reduceMul, ↓reduceIte, Int.reduceGT, Int.reduceGE, f8]
  refine callT_one (tnodes_ok _ _ bits .nil hb2 X.tr X.ok.fit (by simp [TT.er, T.nodes])) rfl ?_
  rw [z2]
  simp (disch := first | omega | (simp only [fsLen]; omega)) only [↓fsPre, fsPost, fsCond, fsGen, fsDefs, cls, eqVal, vbGen, fill_bits, reduceCtorEq, Nat.reduceAdd, Nat.reduceMul, Nat.reduceSub, Nat.reduceLT, Nat.reduceLeDiff, Nat.reduceEqDiff, Nat.reduceBEq, Nat.reduceBNe, Int.reduceLT, Int.reduceLE, Int.reduceEq, Int.reduceNe, Int.reduceAdd, Int.reduceSub, Int.reduceNeg, Int.reduceToNat, Int.reduceMul, ↓reduceIte, Int.reduceGT, Int.reduceGE, f8]
  refine callT_D (tall_ok _ _ bits .nil hb2 X.tr X.ok.fit (by simp [TT.er, T.items, T.itemsAt])) rfl ?_
  rintro x g1 ⟨l1, k1, gc⟩
  have l1 : g.length ≤ g1.length := l1
  have k1 : ∀ b, b < g.length → hget g1 b = hget g b := k1
  have hx : x = .slice none 0 (.fix 0) := by
    rcases gc with ⟨_, h⟩ | ⟨b, k, h1, h2, h3, h4, h5⟩
    · exact h
    · simp [TT.er, T.items, T.itemsAt] at h4; omega
  subst hx
  have X1 : XAt (H.length + 1) g1 (H.length + 1) bits .nil := X.keep fun b _ hb => k1 b hb
  have hv1 := (k1 _ lv).trans hv
  simp (disch := first | omega | (simp only [fsLen]; omega)) only [↓fsPre, fsPost, fsCond, fsGen, fsDefs, cls, eqVal, vbGen, fill_bits, reduceCtorEq, Nat.reduceAdd, Nat.reduceMul, Nat.reduceSub, Nat.reduceLT, Nat.reduceLeDiff, Nat.reduceEqDiff, Nat.reduceBEq, Nat.reduceBNe, Int.reduceLT, Int.reduceLE, Int.reduceEq, Int.reduceNe, Int.reduceAdd, Int.reduceSub, Int.reduceNeg, Int.reduceToNat, Int.reduceMul, ↓reduceIte, Int.reduceGT, Int.reduceGE, f8]
  have hpu := tput_any g1 (H.length + 1) bits .nil 0#128 0 7 hb2 X1.tr
  obtain ⟨z3, z4, z5⟩ := put_zero hb2
  have z6 : TT.nil.er = T.nil := rfl
  rw [z6, z3, z4, z5] at hpu
  rw [vnv_zero]
  refine callT_D hpu rfl ?_
  rintro x g2 ⟨rfl, tt, P⟩
  have hok2 : (T.node true 7 .nil .nil).ok bits := by rw [← z5]; exact putO_ok T.ok.nil _ _ _
  obtain ⟨X2, k2⟩ := X1.putQ P hok2 (by omega)
  have hv2 := (k2 _ (by omega)).trans hv1
  have e2 := P.er
  simp (disch := first | omega | (simp only [fsLen]; omega)) only [↓fsPre, fsPost, fsCond, fsGen, fsDefs, cls, eqVal, vbGen, fill_bits, reduceCtorEq, Nat.reduceAdd, Nat.reduceMul, Nat.reduceSub, Nat.reduceLT, Nat.reduceLeDiff, Nat.reduceEqDiff, Nat.reduceBEq, Nat.reduceBNe, Int.reduceLT, Int.reduceLE, Int.reduceEq, Int.reduceNe, Int.reduceAdd, Int.reduceSub, Int.reduceNeg, Int.reduceToNat, Int.reduceMul, ↓reduceIte, Int.reduceGT, Int.reduceGE]
  simp only [empG, t6, NCode.a1, NCode.a2]
  have lv2 := hget_some_lt hv2
  have hlo := fun H => low_ok H v bits (by omega)
  have hln := fun q t ht => tlong_ok g2 q bits t (v &&& onesV bits) hb2 ht
  have hlz := fun H => tlong_nil H v
  have hpz := fun H n i => tput_nil H 0#128 n i
  simp only [vnv] at hlo hln hlz
  simp (disch := first | omega | (simp only [fsLen]; omega)) only [↓fsPre, fsPost, fsCond, fsGen, fsDefs, cls, eqVal, vbGen, fill_bits, reduceCtorEq, Nat.reduceAdd, Nat.reduceMul, Nat.reduceSub, Nat.reduceLT, Nat.reduceLeDiff, Nat.reduceEqDiff, Nat.reduceBEq, Nat.reduceBNe, Int.reduceLT, Int.reduceLE, Int.reduceEq, Int.reduceNe, Int.reduceAdd, Int.reduceSub, Int.reduceNeg, Int.reduceToNat, Int.reduceMul, ↓reduceIte, Int.reduceGT, Int.reduceGE, f5, f7, f8, hv2]
  refine callT_one (hlo _) rfl ?_
  simp (disch := first | omega | (simp only [fsLen]; omega)) only [↓fsPre, fsPost, fsCond, fsGen, fsDefs, cls, eqVal, vbGen, fill_bits, reduceCtorEq, Nat.reduceAdd, Nat.reduceMul, Nat.reduceSub, Nat.reduceLT, Nat.reduceLeDiff, Nat.reduceEqDiff, Nat.reduceBEq, Nat.reduceBNe, Int.reduceLT, Int.reduceLE, Int.reduceEq, Int.reduceNe, Int.reduceAdd, Int.reduceSub, Int.reduceNeg, Int.reduceToNat, Int.reduceMul, ↓reduceIte, Int.reduceGT, Int.reduceGE, f5, f7, f8, hv2]
  refine callT_one (hln _ tt P.tr) rfl ?_
  rw [if_pos (bl_low hb2), e2]
  have e3 : ∀ p, (T.node true 7 .nil .nil).long p 0 (0, 0, false) = (0, 7, true) := by
    intro p
    cases p with
    | nil => rfl
    | cons x p => cases x <;> cases p <;> rfl
  rw [e3]
  simp (disch := first | omega | (simp only [fsLen]; omega)) only [↓fsPre, fsPost, fsCond, fsGen, fsDefs, cls, eqVal, vbGen, fill_bits, reduceCtorEq, Nat.reduceAdd, Nat.reduceMul, Nat.reduceSub, Nat.reduceLT, Nat.reduceLeDiff, Nat.reduceEqDiff, Nat.reduceBEq, Nat.reduceBNe, Int.reduceLT, Int.reduceLE, Int.reduceEq, Int.reduceNe, Int.reduceAdd, Int.reduceSub, Int.reduceNeg, Int.reduceToNat, Int.reduceMul, ↓reduceIte, Int.reduceGT, Int.reduceGE, f5, f7, f8, hv2]
  refine callT_one (hlz _) rfl ?_
  simp (disch := first | omega | (simp only [fsLen]; omega)) only [↓fsPre, fsPost, fsCond, fsGen, fsDefs, cls, eqVal, vbGen, fill_bits, reduceCtorEq, Nat.reduceAdd, Nat.reduceMul, Nat.reduceSub, Nat.reduceLT, Nat.reduceLeDiff, Nat.reduceEqDiff, Nat.reduceBEq, Nat.reduceBNe, Int.reduceLT, Int.reduceLE, Int.reduceEq, Int.reduceNe, Int.reduceAdd, Int.reduceSub, Int.reduceNeg, Int.reduceToNat, Int.reduceMul, ↓reduceIte, Int.reduceGT, Int.reduceGE, f5, f7, f8, hv2]
  have hnd := tnodes_ok g2 _ bits tt hb2 P.tr (by rw [e2]; exact hok2.fit) (by rw [e2]; simp [T.nodes])
  rw [e2] at hnd
  refine callT_one hnd rfl ?_
  have z7 : (((T.node true 7 .nil .nil).nodes : Nat) : Int) = 1 := rfl
  rw [z7]
  simp (disch := first | omega | (simp only [fsLen]; omega)) only [↓fsPre, fsPost, fsCond, fsGen, fsDefs, cls, eqVal, vbGen, fill_bits, reduceCtorEq, Nat.reduceAdd, Nat.reduceMul, Nat.reduceSub, Nat.reduceLT, Nat.reduceLeDiff, Nat.reduceEqDiff, Nat.reduceBEq, Nat.reduceBNe, Int.reduceLT, Int.reduceLE, Int.reduceEq, Int.reduceNe, Int.reduceAdd, Int.reduceSub, Int.reduceNeg, Int.reduceToNat, Int.reduceMul, ↓reduceIte, Int.reduceGT, Int.reduceGE, f5, f7, f8, hv2]
  refine callT_one (tlen_nil _) rfl ?_
  simp (disch := first | omega | (simp only [fsLen]; omega)) only [↓fsPre, fsPost, fsCond, fsGen, fsDefs, cls, eqVal, vbGen, fill_bits, reduceCtorEq, Nat.reduceAdd, Nat.reduceMul, Nat.reduceSub, Nat.reduceLT, Nat.reduceLeDiff, Nat.reduceEqDiff, Nat.reduceBEq, Nat.reduceBNe, Int.reduceLT, Int.reduceLE, Int.reduceEq, Int.reduceNe, Int.reduceAdd, Int.reduceSub, Int.reduceNeg, Int.reduceToNat, Int.reduceMul, ↓reduceIte, Int.reduceGT, Int.reduceGE, f5, f7, f8, hv2]
  rw [vnv_zero]
  refine callT_one (hpz _ 0 1) rfl ?_
  simp (disch := first | omega | (simp only [fsLen]; omega)) only [↓fsPre, fsPost, fsCond, fsGen, fsDefs, cls, eqVal, vbGen, fill_bits, reduceCtorEq, Nat.reduceAdd, Nat.reduceMul, Nat.reduceSub, Nat.reduceLT, Nat.reduceLeDiff, Nat.reduceEqDiff, Nat.reduceBEq, Nat.reduceBNe, Int.reduceLT, Int.reduceLE, Int.reduceEq, Int.reduceNe, Int.reduceAdd, Int.reduceSub, Int.reduceNeg, Int.reduceToNat, Int.reduceMul, ↓reduceIte, Int.reduceGT, Int.reduceGE, f5, f7, f8, hv2]
  refine callT_one (begun12_ok _) rfl ?_
  simp (disch := first | omega | (simp only [fsLen]; omega)) only [↓fsPre, fsPost, fsCond, fsGen, fsDefs, cls, eqVal, vbGen, fill_bits, reduceCtorEq, Nat.reduceAdd, Nat.reduceMul, Nat.reduceSub, Nat.reduceLT, Nat.reduceLeDiff, Nat.reduceEqDiff, Nat.reduceBEq, Nat.reduceBNe, Int.reduceLT, Int.reduceLE, Int.reduceEq, Int.reduceNe, Int.reduceAdd, Int.reduceSub, Int.reduceNeg, Int.reduceToNat, Int.reduceMul, ↓reduceIte, Int.reduceGT, Int.reduceGE]

def kindsTE : List PK := [.flat [.int .i64] false, .sl kOp, .flat [.int .u64, .int .u64] true]
theorem walkTE (nvs : List NV) (h : Heap) (ok : argsOK kindsTE 0 nvs h) : NFun Try.prog 6 nvs h (fun q => q.1 = .bool true) := by
  obtain ⟨v, vs, x, h, rfl, rfl, h1, ok⟩ := argsOK_cons ok
  obtain ⟨w, vs, y, h, rfl, rfl, h2, ok⟩ := argsOK_cons ok
  obtain ⟨u, vs, z, h, rfl, rfl, h3, ok⟩ := argsOK_cons ok
  obtain ⟨rfl, rfl⟩ := argsOK_nil ok
  obtain ⟨n, _, rfl, rfl⟩ := argOK_i64 h1
  obtain ⟨a, rfl, rfl⟩ := argOK_val h3
  obtain ⟨os, hos⟩ := argOK_ops (H := [none, y, none]) h2 rfl
  exact empty_ok _ n w os a hos
end Go.Proofs
