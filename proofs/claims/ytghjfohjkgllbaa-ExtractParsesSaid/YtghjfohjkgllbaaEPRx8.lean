/- Extract: ExtractParses. -/
import Derived.Test.YtghjfohjkgllbaaEPRxB
import Derived.Test.YtghjfohjkgllbaaEPEx12
import Derived.Test.YtghjfohjkgllbaaEPExBg
set_option linter.unusedSimpArgs false
set_option linter.unusedVariables false
set_option maxRecDepth 100000
namespace Go.Proofs
open Go.Ns

theorem cut_arr {cs : List NV} {W : Nat} {f : Nat → NV} (h : ∀ i, i < W → cs[i]? = some (f i)) : cut cs 0 W = some (arrC W f) := by
  have hl : W ≤ cs.length := by
    rcases Nat.lt_or_ge cs.length W with h1 | h1
    · have := h cs.length h1
      rw [List.getElem?_eq_none (Nat.le_refl _)] at this
      cases this
    · exact h1
  unfold cut
  rw [if_pos (by omega)]
  congr 1
  apply List.ext_getElem?
  intro i
  rw [List.drop_zero]
  by_cases hi : i < W
  · rw [List.getElem?_take_of_lt hi, h i hi, arrC_get hi]
  · rw [List.getElem?_eq_none (by rw [List.length_take]; omega), List.getElem?_eq_none (by rw [arrC_length]; omega)]
theorem code_bits (d1 d2 : Int) (k1 k3 : List XCase) (bud : Int) (k : Nat) (hk : k < (XA.code d1 d2 0 k1 k3 bud).hl.length) : ∀ id ∈ (XA.code d1 d2 0 k1 k3 bud).hf k, (XA.code d1 d2 0 k1 k3 bud).bits id ≤ 128 := by
  have hk : k < 3 := hk
  intro id hid
  match k, hk with
  | 0, _ =>
    simp only [XA.code, List.getD_cons_zero, List.mem_cons, List.not_mem_nil, or_false] at hid
    rcases hid with rfl | rfl | rfl
    · show (4 : Nat) ≤ 128; omega
    · show (4 : Nat) ≤ 128; omega
    · show (8 : Nat) ≤ 128; omega
  | 1, _ =>
    simp only [XA.code, List.getD_cons_zero, List.getD_cons_succ, List.mem_cons, List.not_mem_nil, or_false] at hid
    rcases hid with rfl
    show (32 : Nat) ≤ 128; omega
  | 2, _ =>
    simp only [XA.code, List.getD_cons_zero, List.getD_cons_succ, List.mem_cons, List.not_mem_nil, or_false] at hid
    rcases hid with rfl | rfl
    · show (12 : Nat) ≤ 128; omega
    · show (4 : Nat) ≤ 128; omega

set_option maxHeartbeats 4000000 in
theorem parses_ok (H : Heap) (v1 v2 v3 : NV) (xs ys zs : List Int) (port : Int) (h1 : BytesArg H v1 xs) (h2 : BytesArg H v2 ys) (h3 : BytesArg H v3 zs) : NFun Try.prog 3 [v1, v2, v3, .int .i64 port] H fun q => q.1 = .bool true := by
  refine fun_of_fwp E0 mixed t3_ok.2 (by kernel_rfl) ?_
  rw [fwp_T]
  simp only [t3]
  have hA : ∃ A m, v3 = .slice A zs.length (.fix m) ∧ zs.length ≤ m ∧ m ≤ 9223372036854775807 ∧ ∃ d : Nat → BitVec 8, ∀ n, n ≤ zs.length → ∀ h, (∀ b, b < H.length → hget h b = hget H b) → BytesAt h (.slice A n (.fix m)) n d := by
    rcases h3 with ⟨rfl, rfl⟩ | ⟨b, m, cs, ro, rfl, e1, e2, e3, e4, e5⟩
    · exact ⟨none, 0, rfl, by simp, by omega, fun _ => 0#8, fun n hn h _ => by
        have : n = 0 := by simpa using hn
        subst this
        exact .inl ⟨rfl, rfl⟩⟩
    · refine ⟨some (b, 0), m, rfl, e2, e3, fun i => BitVec.ofInt 8 (zs.getD i 0), fun n hn h e => .inr ⟨b, 0, _, cs, ro, rfl, by rw [e b (hget_lt e1)]; exact e1, ?_⟩⟩
      refine cut_arr fun i hi => ?_
      rw [e4 i (by omega), n8_of _ (e5 _ (List.getElem_mem _)), show zs[i] = zs.getD i 0 by rw [List.getD_eq_getElem?_getD, List.getElem?_eq_getElem (by omega)]; rfl]
  obtain ⟨A, m, rfl, hm1, hm2, d, hd⟩ := hA
  have eN : (if (60 : Int) < zs.length then (60 : Int) else zs.length) = (min 60 zs.length : Nat) := by split <;> omega
  have hN1 : min 60 zs.length ≤ 60 := by omega
  have hN2 : min 60 zs.length ≤ zs.length := by omega
  generalize min 60 zs.length = N at *
  have eA : (if m = 0 then A else Option.map (fun x => (x.fst, x.snd)) A) = A := by cases A <;> simp
  simp (disch := first | omega | (simp only [fsLen]; omega)) only [↓fsPre, fsPost, fsCond, fsGen, fsDefs, fsDefX, cls, eqVal, reduceCtorEq, Nat.reduceAdd, Nat.reduceMul, Nat.reduceSub, Nat.reduceLT, Nat.reduceLeDiff, Nat.reduceEqDiff, Nat.reduceBEq, Nat.reduceBNe, Int.reduceLT, Int.reduceLE, Int.reduceEq, Int.reduceNe, Int.reduceAdd, Int.reduceSub, Int.reduceNeg, Int.reduceToNat, Int.reduceMul, ↓reduceIte, Int.reduceGT, Int.reduceGE, eN, eA]
  refine callT_D (codes_ok H v1 xs 120 h1 (by omega)) rfl ?_
  rintro c1 g1 ⟨sl1, n1, e, hs1⟩
  cases e
  simp (disch := first | omega | (simp only [fsLen]; omega)) only [↓fsPre, fsPost, fsCond, fsGen, fsDefs, fsDefX, cls, eqVal, reduceCtorEq, Nat.reduceAdd, Nat.reduceMul, Nat.reduceSub, Nat.reduceLT, Nat.reduceLeDiff, Nat.reduceEqDiff, Nat.reduceBEq, Nat.reduceBNe, Int.reduceLT, Int.reduceLE, Int.reduceEq, Int.reduceNe, Int.reduceAdd, Int.reduceSub, Int.reduceNeg, Int.reduceToNat, Int.reduceMul, ↓reduceIte, Int.reduceGT, Int.reduceGE]
  refine callT_D (schema_ok _ H.length n1 sl1 (CodesSt.refl (a := 0) (by simp (disch := first | omega | (simp only [fsLen]; omega)) only [↓fsPre, fsPost, fsCond, fsGen, fsDefs, fsDefX, cls, eqVal, reduceCtorEq, Nat.reduceAdd, Nat.reduceMul, Nat.reduceSub, Nat.reduceLT, Nat.reduceLeDiff, Nat.reduceEqDiff, Nat.reduceBEq, Nat.reduceBNe, Int.reduceLT, Int.reduceLE, Int.reduceEq, Int.reduceNe, Int.reduceAdd, Int.reduceSub, Int.reduceNeg, Int.reduceToNat, Int.reduceMul, ↓reduceIte, Int.reduceGT, Int.reduceGE]) (by omega) (by omega) hs1)) rfl ?_
  rintro s g hq
  obtain ⟨d1, d2, k1, k3, bud, z0, z1, z2, z3, z4, z5, z6, z7, z8, l3, l4, l5, rfl, x, hC, st, i3, i4, i5⟩ := hq.xids
  have yt : YAt (XA.code d1 d2 0 k1 k3 bud) g z0 z1 z2 z3 z4 z5 z6 z7 z8 (.int .i64 bud) := ⟨x, by simp [XA.code], l3, l4, l5, i3, i4, i5⟩
  have oldg : ∀ b, b < H.length → hget g b = hget H b := fun b hb => (st.old b (by simp; omega) (by omega)).trans (hget_appl hb)
  have hgl := st.len
  simp only [List.length_append, List.length_cons, List.length_nil] at hgl
  obtain ⟨o0, o1, o2, o3, o4, o5, o6, o7, o8, o9⟩ := x.ones
  simp (disch := first | omega | (simp only [fsLen]; omega)) only [↓fsPre, fsPost, fsCond, fsGen, fsDefs, fsDefX, cls, eqVal, reduceCtorEq, Nat.reduceAdd, Nat.reduceMul, Nat.reduceSub, Nat.reduceLT, Nat.reduceLeDiff, Nat.reduceEqDiff, Nat.reduceBEq, Nat.reduceBNe, Int.reduceLT, Int.reduceLE, Int.reduceEq, Int.reduceNe, Int.reduceAdd, Int.reduceSub, Int.reduceNeg, Int.reduceToNat, Int.reduceMul, ↓reduceIte, Int.reduceGT, Int.reduceGE]
  refine callT_D (codes_ok g v2 ys 60 (by
    rcases h2 with h | ⟨b, m, cs, ro, e1, e2, e3⟩
    · exact .inl h
    · exact .inr ⟨b, m, cs, ro, e1, by rw [oldg b (hget_lt e2)]; exact e2, e3⟩) (by omega)) rfl ?_
  rintro c2 g2 ⟨sl2, n2, e, hs2⟩
  cases e
  simp (disch := first | omega | (simp only [fsLen]; omega)) only [↓fsPre, fsPost, fsCond, fsGen, fsDefs, fsDefX, cls, eqVal, reduceCtorEq, Nat.reduceAdd, Nat.reduceMul, Nat.reduceSub, Nat.reduceLT, Nat.reduceLeDiff, Nat.reduceEqDiff, Nat.reduceBEq, Nat.reduceBNe, Int.reduceLT, Int.reduceLE, Int.reduceEq, Int.reduceNe, Int.reduceAdd, Int.reduceSub, Int.reduceNeg, Int.reduceToNat, Int.reduceMul, ↓reduceIte, Int.reduceGT, Int.reduceGE, o0, o1, o2, o3, o4, o5, o6, o7, o8]
  have hn2 : n2 ≤ 1000 := by
    rcases hs2 with ⟨_, h⟩ | ⟨_, _, _, _, _, _, _, h, _⟩ <;> omega
  obtain ⟨G, hG⟩ : ∃ G, G = g ++ [some (NBlk.cells [sl2, .int .i64 0] false), some (.cells [z0, z1, z2, z3, z4, z5, z6, z7, z8, .int .i64 bud] false)] := ⟨_, rfl⟩
  have hKg : ∀ b, b < g.length → hget G b = hget g b := fun b hb => by rw [hG]; exact hget_appl hb
  have hKl : G.length = g.length + 2 := by rw [hG]; simp
  have b9 : hget G (g.length + 1) = some (.cells [z0, z1, z2, z3, z4, z5, z6, z7, z8, .int .i64 bud] false) := by rw [hG]; simp (disch := first | omega | (simp only [fsLen]; omega)) only [↓fsPre, fsPost, fsCond, fsGen, fsDefs, fsDefX, cls, eqVal, reduceCtorEq, Nat.reduceAdd, Nat.reduceMul, Nat.reduceSub, Nat.reduceLT, Nat.reduceLeDiff, Nat.reduceEqDiff, Nat.reduceBEq, Nat.reduceBNe, Int.reduceLT, Int.reduceLE, Int.reduceEq, Int.reduceNe, Int.reduceAdd, Int.reduceSub, Int.reduceNeg, Int.reduceToNat, Int.reduceMul, ↓reduceIte, Int.reduceGT, Int.reduceGE]
  have b8 : hget G g.length = some (.cells [sl2, .int .i64 0] false) := by rw [hG]; simp (disch := first | omega | (simp only [fsLen]; omega)) only [↓fsPre, fsPost, fsCond, fsGen, fsDefs, fsDefX, cls, eqVal, reduceCtorEq, Nat.reduceAdd, Nat.reduceMul, Nat.reduceSub, Nat.reduceLT, Nat.reduceLeDiff, Nat.reduceEqDiff, Nat.reduceBEq, Nat.reduceBNe, Int.reduceLT, Int.reduceLE, Int.reduceEq, Int.reduceNe, Int.reduceAdd, Int.reduceSub, Int.reduceNeg, Int.reduceToNat, Int.reduceMul, ↓reduceIte, Int.reduceGT, Int.reduceGE]
  have hs3 : CodesSl G g.length sl2 n2 := by
    rw [hG]
    rcases hs2 with h | ⟨b, m, cs, ro, e1, e2, e3⟩
    · exact .inl h
    · refine .inr ⟨b, m, cs, ro, e1, ?_, e3⟩
      have := hget_lt e2
      simp only [List.length_append, List.length_singleton] at this
      rw [hget_appl (by omega)] at e2 ⊢
      exact e2
  have st0 : CodesSt G G g.length n2 sl2 := CodesSt.refl (a := 0) b8 (by omega) (by omega) hs3
  rw [← hG]
  clear hG
  refine callT_D (frame_ok _ g.length n2 sl2 st0 hn2) rfl ?_
  rintro v3 g3 ⟨bf1, mf1, df1, e, hmf1, hbf1, hbd1, st3⟩
  simp only at e hbd1 st3
  subst e
  simp (disch := first | omega | (simp only [fsLen]; omega)) only [↓fsPre, fsPost, fsCond, fsGen, fsDefs, fsDefX, cls, eqVal, reduceCtorEq, Nat.reduceAdd, Nat.reduceMul, Nat.reduceSub, Nat.reduceLT, Nat.reduceLeDiff, Nat.reduceEqDiff, Nat.reduceBEq, Nat.reduceBNe, Int.reduceLT, Int.reduceLE, Int.reduceEq, Int.reduceNe, Int.reduceAdd, Int.reduceSub, Int.reduceNeg, Int.reduceToNat, Int.reduceMul, ↓reduceIte, Int.reduceGT, Int.reduceGE]
  refine callT_D (frame_ok _ g.length n2 sl2 st3.self hn2) rfl ?_
  rintro v4 g4 ⟨bf2, mf2, df2, e, hmf2, hbf2, hbd2, st4⟩
  simp only at e hbd2 st4
  subst e
  simp (disch := first | omega | (simp only [fsLen]; omega)) only [↓fsPre, fsPost, fsCond, fsGen, fsDefs, fsDefX, cls, eqVal, reduceCtorEq, Nat.reduceAdd, Nat.reduceMul, Nat.reduceSub, Nat.reduceLT, Nat.reduceLeDiff, Nat.reduceEqDiff, Nat.reduceBEq, Nat.reduceBNe, Int.reduceLT, Int.reduceLE, Int.reduceEq, Int.reduceNe, Int.reduceAdd, Int.reduceSub, Int.reduceNeg, Int.reduceToNat, Int.reduceMul, ↓reduceIte, Int.reduceGT, Int.reduceGE]
  refine callT_D (frame_ok _ g.length n2 sl2 st4.self hn2) rfl ?_
  rintro v5 g5 ⟨bf3, mf3, df3, e, hmf3, hbf3, hbd3, st5⟩
  simp only at e hbd3 st5
  subst e
  simp (disch := first | omega | (simp only [fsLen]; omega)) only [↓fsPre, fsPost, fsCond, fsGen, fsDefs, fsDefX, cls, eqVal, reduceCtorEq, Nat.reduceAdd, Nat.reduceMul, Nat.reduceSub, Nat.reduceLT, Nat.reduceLeDiff, Nat.reduceEqDiff, Nat.reduceBEq, Nat.reduceBNe, Int.reduceLT, Int.reduceLE, Int.reduceEq, Int.reduceNe, Int.reduceAdd, Int.reduceSub, Int.reduceNeg, Int.reduceToNat, Int.reduceMul, ↓reduceIte, Int.reduceGT, Int.reduceGE]
  have l3' := st3.len
  have l4' := st4.len
  have l5' := st5.len
  obtain ⟨E, hE⟩ : ∃ E, E = g5 ++ [some (NBlk.cells [.slice A N (.fix m), .slice (some (bf1, 0)) mf1 (.fix mf1), .slice (some (bf2, 0)) mf2 (.fix mf2), .slice (some (bf3, 0)) mf3 (.fix mf3)] false)] := ⟨_, rfl⟩
  have lE : E.length = g5.length + 1 := by rw [hE]; simp
  have e5 : ∀ b, b < g5.length → hget E b = hget g5 b := fun b hb => by rw [hE, hget_appl hb]
  have eq5 : hget E g5.length = some (NBlk.cells [.slice A N (.fix m), .slice (some (bf1, 0)) mf1 (.fix mf1), .slice (some (bf2, 0)) mf2 (.fix mf2), .slice (some (bf3, 0)) mf3 (.fix mf3)] false) := by rw [hE]; exact hget_append_new
  have lbd1 := hget_lt hbd1
  have lbd2 := hget_lt hbd2
  have lbd3 := hget_lt hbd3
  have e9 : hget E (g.length + 1) = some (.cells [z0, z1, z2, z3, z4, z5, z6, z7, z8, .int .i64 bud] false) := by
    rw [e5 _ (by omega), st5.old _ (by omega) (by omega), st4.old _ (by omega) (by omega), st3.old _ (by omega) (by omega)]; exact b9
  have eg : ∀ b, b < g.length → hget E b = hget g b := fun b hb => by
    rw [e5 _ (by omega), st5.old _ (by omega) (by omega), st4.old _ (by omega) (by omega), st3.old _ (by omega) (by omega)]; exact hKg b hb
  have ef1 : hget E bf1 = some (.cells (arrC mf1 fun i => n8 (df1 i)) false) := by rw [e5 _ (by omega), st5.old _ (by omega) (by omega), st4.old _ (by omega) (by omega)]; exact hbd1
  have ef2 : hget E bf2 = some (.cells (arrC mf2 fun i => n8 (df2 i)) false) := by rw [e5 _ (by omega), st5.old _ (by omega) (by omega)]; exact hbd2
  have ef3 : hget E bf3 = some (.cells (arrC mf3 fun i => n8 (df3 i)) false) := by rw [e5 _ (by omega)]; exact hbd3
  have hit : ∀ j, j < 4 → ∃ w mm dd, ([.slice A N (.fix m), .slice (some (bf1, 0)) mf1 (.fix mf1), .slice (some (bf2, 0)) mf2 (.fix mf2), .slice (some (bf3, 0)) mf3 (.fix mf3)] : List NV)[j]? = some w ∧ BytesAt E w mm dd ∧ mm ≤ 60 := by
    intro j hj
    match j, hj with
    | 0, _ => exact ⟨_, N, d, rfl, hd N hN2 E (fun b hb => by rw [eg b (by omega)]; exact oldg b hb), hN1⟩
    | 1, _ => exact ⟨_, mf1, df1, rfl, .inr ⟨_, 0, _, _, _, rfl, ef1, by rw [arrC_cut (by omega)]; simp only [Nat.zero_add]⟩, by omega⟩
    | 2, _ => exact ⟨_, mf2, df2, rfl, .inr ⟨_, 0, _, _, _, rfl, ef2, by rw [arrC_cut (by omega)]; simp only [Nat.zero_add]⟩, by omega⟩
    | 3, _ => exact ⟨_, mf3, df3, rfl, .inr ⟨_, 0, _, _, _, rfl, ef3, by rw [arrC_cut (by omega)]; simp only [Nat.zero_add]⟩, by omega⟩
  have ym : ∀ h, (∀ b, b < g.length → hget h b = hget g b) → YAt (XA.code d1 d2 0 k1 k3 bud) h z0 z1 z2 z3 z4 z5 z6 z7 z8 (.int .i64 bud) := fun h e => yt.mono e
  rw [← hE]
  clear hE
  refine wloop (fun j F h => F 3 = .int .i64 port ∧ F 9 = .ptr (some (g.length + 1, 0)) ∧ F 34 = .slice (some (g5.length, 0)) 4 (.fix 4) ∧ F 35 = .int .i64 4 ∧ F 36 = .int .i64 j ∧ E.length ≤ h.length ∧ ∀ b, b < E.length → hget h b = hget E b) 4 ?_ ?_ ?_
  · simp (disch := first | omega | (simp only [fsLen]; omega)) only [↓fsPre, fsPost, fsCond, fsGen, fsDefs, fsDefX, cls, eqVal, reduceCtorEq, Nat.reduceAdd, Nat.reduceMul, Nat.reduceSub, Nat.reduceLT, Nat.reduceLeDiff, Nat.reduceEqDiff, Nat.reduceBEq, Nat.reduceBNe, Int.reduceLT, Int.reduceLE, Int.reduceEq, Int.reduceNe, Int.reduceAdd, Int.reduceSub, Int.reduceNeg, Int.reduceToNat, Int.reduceMul, ↓reduceIte, Int.reduceGT, Int.reduceGE]
  · rintro j F h hj ⟨f3, f9, f34, f35, f36, hlen, hold⟩
    obtain ⟨w, mm, dd, hrow, hby, hmm⟩ := hit j hj
    have hq5 : hget h g5.length = _ := (hold _ (by omega)).trans eq5
    have h9 : hget h (g.length + 1) = _ := (hold _ (by omega)).trans e9
    have ow := hby.one
    simp (disch := first | omega | (simp only [fsLen]; omega)) only [↓fsPre, fsPost, fsCond, fsGen, fsDefs, fsDefX, cls, eqVal, reduceCtorEq, Nat.reduceAdd, Nat.reduceMul, Nat.reduceSub, Nat.reduceLT, Nat.reduceLeDiff, Nat.reduceEqDiff, Nat.reduceBEq, Nat.reduceBNe, Int.reduceLT, Int.reduceLE, Int.reduceEq, Int.reduceNe, Int.reduceAdd, Int.reduceSub, Int.reduceNeg, Int.reduceToNat, Int.reduceMul, ↓reduceIte, Int.reduceGT, Int.reduceGE, f3, f9, f34, f35, f36, hq5, hrow, h9, ow, o0, o1, o2, o3, o4, o5, o6, o7, o8]
    have hg : ∀ b, b < g.length → hget h b = hget g b := fun b hb => (hold b (by omega)).trans (eg b hb)
    obtain ⟨G0, hG0⟩ : ∃ G, G = h ++ [none, none] := ⟨_, rfl⟩
    have l0 : G0.length = h.length + 2 := by rw [hG0]; simp
    have k0 : ∀ b, b < h.length → hget G0 b = hget h b := fun b hb => by rw [hG0, hget_appl hb]
    have ka : hget G0 h.length = none := by rw [hG0]; simp (disch := first | omega | (simp only [fsLen]; omega)) only [↓fsPre, fsPost, fsCond, fsGen, fsDefs, fsDefX, cls, eqVal, reduceCtorEq, Nat.reduceAdd, Nat.reduceMul, Nat.reduceSub, Nat.reduceLT, Nat.reduceLeDiff, Nat.reduceEqDiff, Nat.reduceBEq, Nat.reduceBNe, Int.reduceLT, Int.reduceLE, Int.reduceEq, Int.reduceNe, Int.reduceAdd, Int.reduceSub, Int.reduceNeg, Int.reduceToNat, Int.reduceMul, ↓reduceIte, Int.reduceGT, Int.reduceGE]
    have kb : hget G0 (h.length + 1) = none := by rw [hG0]; simp (disch := first | omega | (simp only [fsLen]; omega)) only [↓fsPre, fsPost, fsCond, fsGen, fsDefs, fsDefX, cls, eqVal, reduceCtorEq, Nat.reduceAdd, Nat.reduceMul, Nat.reduceSub, Nat.reduceLT, Nat.reduceLeDiff, Nat.reduceEqDiff, Nat.reduceBEq, Nat.reduceBNe, Int.reduceLT, Int.reduceLE, Int.reduceEq, Int.reduceNe, Int.reduceAdd, Int.reduceSub, Int.reduceNeg, Int.reduceToNat, Int.reduceMul, ↓reduceIte, Int.reduceGT, Int.reduceGE]
    rw [← hG0]
    clear hG0
    have hby0 : BytesAt G0 w mm dd := hby.mono fun b hb => (k0 b (by omega)).trans (hold b hb)
    refine callDT_D (start_ok (ym G0 fun b hb => (k0 b (by omega)).trans (hg b hb)).x port mm dd _ hby0 (by omega) (by simp [XA.code])) rfl ?_
    rintro v6 g6 ⟨⟨L6, e6⟩, hc6⟩
    simp only at e6 hc6
    have hg6 : ∀ b, b < G0.length → hget g6 b = hget G0 b := fun b hb => by rw [e6]; exact hget_appl hb
    have l6 : G0.length ≤ g6.length := by rw [e6]; simp
    clear e6
    have h96 : hget g6 (g.length + 1) = _ := (hg6 _ (by omega)).trans ((k0 _ (by omega)).trans h9)
    have ka6 : hget g6 h.length = none := (hg6 _ (by omega)).trans ka
    have kb6 : hget g6 (h.length + 1) = none := (hg6 _ (by omega)).trans kb
    have h90 : hget G0 (g.length + 1) = _ := (k0 _ (by omega)).trans h9
    have o6g : ∀ b, b < g.length → hget g6 b = hget g b := fun b hb => (hg6 b (by omega)).trans ((k0 b (by omega)).trans (hg b hb))
    simp (disch := first | omega | (simp only [fsLen]; omega)) only [↓fsPre, fsPost, fsCond, fsGen, fsDefs, fsDefX, cls, eqVal, reduceCtorEq, Nat.reduceAdd, Nat.reduceMul, Nat.reduceSub, Nat.reduceLT, Nat.reduceLeDiff, Nat.reduceEqDiff, Nat.reduceBEq, Nat.reduceBNe, Int.reduceLT, Int.reduceLE, Int.reduceEq, Int.reduceNe, Int.reduceAdd, Int.reduceSub, Int.reduceNeg, Int.reduceToNat, Int.reduceMul, ↓reduceIte, Int.reduceGT, Int.reduceGE, f3, f9, f34, f35, f36, hq5, hrow, h9, h90, h96, ow, o0, o1, o2, o3, o4, o5, o6, o7, o8]
    refine ⟨⟨l6, ka6, kb6⟩, ?_⟩
    refine callDT_D (rstart_ok (ym g6 o6g) port mm dd _ (hby0.mono fun b hb => hg6 b hb) (by omega) (by simp [XA.code])) rfl ?_
    rintro v7 g7 ⟨⟨L7, e7⟩, hc7, hlow7⟩
    simp only at e7 hc7 hlow7
    have hg7 : ∀ b, b < g6.length → hget g7 b = hget g6 b := fun b hb => by rw [e7]; exact hget_appl hb
    have l7 : g6.length ≤ g7.length := by rw [e7]; simp
    clear e7
    have h97 : hget g7 (g.length + 1) = _ := (hg7 _ (by omega)).trans h96
    have ka7 : hget g7 h.length = none := (hg7 _ (by omega)).trans ka6
    have kb7 : hget g7 (h.length + 1) = none := (hg7 _ (by omega)).trans kb6
    have l70 : G0.length ≤ g7.length := by omega
    have hc6 := hc6.keep (h' := g7) fun b _ hb => hg7 b hb
    obtain ⟨p1, p2, p3, rfl, op1, op2, op3⟩ := hc6.ones
    obtain ⟨q1, q2, q3, rfl, oq1, oq2, oq3⟩ := hc7.ones
    simp (disch := first | omega | (simp only [fsLen]; omega)) only [↓fsPre, fsPost, fsCond, fsGen, fsDefs, fsDefX, cls, eqVal, reduceCtorEq, Nat.reduceAdd, Nat.reduceMul, Nat.reduceSub, Nat.reduceLT, Nat.reduceLeDiff, Nat.reduceEqDiff, Nat.reduceBEq, Nat.reduceBNe, Int.reduceLT, Int.reduceLE, Int.reduceEq, Int.reduceNe, Int.reduceAdd, Int.reduceSub, Int.reduceNeg, Int.reduceToNat, Int.reduceMul, ↓reduceIte, Int.reduceGT, Int.reduceGE, f3, f9, f34, f35, f36, hq5, hrow, h9, h90, h96, h97, ow, o0, o1, o2, o3, o4, o5, o6, o7, o8, op1, op2, op3, oq1, oq2, oq3]
    refine ⟨⟨l70, ka7, kb7⟩, l70, l70, ?_⟩
    have mk : ∀ (g7 : Heap) (x y z w : NBlk), h.length + 2 ≤ g7.length → ∃ K, K = hset (hset (hset (hset g7 h.length x) (h.length + 1) y) h.length z) (h.length + 1) w ∧ hget K h.length = some z ∧ hget K (h.length + 1) = some w ∧ (∀ b, b ≠ h.length → b ≠ h.length + 1 → hget K b = hget g7 b) ∧ K.length = g7.length := by
      intro g7 x y z w hl
      refine ⟨_, rfl, ?_, ?_, fun b h1 h2 => ?_, by simp only [length_hset]⟩
      · rw [hget_hset_ne (by omega), hget_hset_same (by simp only [length_hset]; omega)]
      · rw [hget_hset_same (by simp only [length_hset]; omega)]
      · rw [hget_hset_ne (Ne.symm h2), hget_hset_ne (Ne.symm h1), hget_hset_ne (Ne.symm h2), hget_hset_ne (Ne.symm h1)]
    obtain ⟨K, hK, Ka, Kb, Ko, lK⟩ := mk g7 (NBlk.cells [NV.slice none 0 (Cap.fix 0), NV.slice none 0 (Cap.fix 0), NV.slice none 0 (Cap.fix 0), NV.int IntKind.i64 0, NV.bool false] false) (NBlk.cells [NV.slice none 0 (Cap.fix 0), NV.slice none 0 (Cap.fix 0), NV.slice none 0 (Cap.fix 0), NV.int IntKind.i64 0, NV.bool false] false) (NBlk.cells [p1, p2, p3, NV.int IntKind.i64 0, NV.bool false] false) (NBlk.cells [q1, q2, q3, NV.int IntKind.i64 0, NV.bool false] false) (by omega)
    rw [← hK, ← lK]
    clear hK mk
    have hc6 := hc6.keep (h' := K) fun b hb _ => Ko b (by omega) (by omega)
    have hc7 := hc7.keep (h' := K) fun b hb _ => Ko b (by omega) (by omega)
    have h9K : hget K (g.length + 1) = _ := (Ko _ (by omega) (by omega)).trans h97
    refine callDT_D (context_ok K p1 p2 p3 0 ⟨op1, op2, op3⟩) rfl ?_
    rintro v8 g8 ⟨e8, L8, e8'⟩
    simp only at e8 e8'
    subst e8
    have hg8 : ∀ b, b < K.length → hget g8 b = hget K b := fun b hb => by rw [e8']; exact hget_appl hb
    have l8 : K.length ≤ g8.length := by rw [e8']; simp
    clear e8'
    have Ka8 : hget g8 h.length = _ := (hg8 _ (by omega)).trans Ka
    have Kb8 : hget g8 (h.length + 1) = _ := (hg8 _ (by omega)).trans Kb
    have h98 : hget g8 (g.length + 1) = _ := (hg8 _ (by omega)).trans h9K
    simp (disch := first | omega | (simp only [fsLen]; omega)) only [↓fsPre, fsPost, fsCond, fsGen, fsDefs, fsDefX, cls, eqVal, reduceCtorEq, Nat.reduceAdd, Nat.reduceMul, Nat.reduceSub, Nat.reduceLT, Nat.reduceLeDiff, Nat.reduceEqDiff, Nat.reduceBEq, Nat.reduceBNe, Int.reduceLT, Int.reduceLE, Int.reduceEq, Int.reduceNe, Int.reduceAdd, Int.reduceSub, Int.reduceNeg, Int.reduceToNat, Int.reduceMul, ↓reduceIte, Int.reduceGT, Int.reduceGE, f3, f9, f34, f35, f36, Ka, Kb, Ka8, Kb8, h98, l8, cxCells]
    have hn : (XA.code d1 d2 0 k1 k3 bud).l.length ≤ 100 ∧ (XA.code d1 d2 0 k1 k3 bud).hl.length ≤ 100 := by simp [XA.code]
    have hc6 := hc6.keep (h' := g8) fun b _ hb => hg8 b hb
    have hc7 := hc7.keep (h' := g8) fun b _ hb => hg8 b hb
    refine callDT_one (same_ok hc6 hc7 hn) rfl ?_
    simp (disch := first | omega | (simp only [fsLen]; omega)) only [↓fsPre, fsPost, fsCond, fsGen, fsDefs, fsDefX, cls, eqVal, reduceCtorEq, Nat.reduceAdd, Nat.reduceMul, Nat.reduceSub, Nat.reduceLT, Nat.reduceLeDiff, Nat.reduceEqDiff, Nat.reduceBEq, Nat.reduceBNe, Int.reduceLT, Int.reduceLE, Int.reduceEq, Int.reduceNe, Int.reduceAdd, Int.reduceSub, Int.reduceNeg, Int.reduceToNat, Int.reduceMul, ↓reduceIte, Int.reduceGT, Int.reduceGE, f3, f9, f34, f35, f36, Ka, Kb, Ka8, Kb8, h98, l8, cxCells]
    have o8g : ∀ b, b < g.length → hget g8 b = hget g b := fun b hb => by rw [hg8 b (by omega), Ko b (by omega) (by omega), hg7 b (by omega), o6g b hb]
    refine callT_D (parse_ok (ym g8 o8g).x _ mm dd _ _ _ hc6 (by omega) ⟨by simp [XA.code], by simp [XA.code]⟩) rfl ?_
    rintro v9 g9 ⟨⟨L9, e9'⟩, w9, e9'', hc9⟩
    simp only at e9' e9'' hc9
    subst e9''
    have hg9 : ∀ b, b < g8.length → hget g9 b = hget g8 b := fun b hb => by rw [e9']; exact hget_appl hb
    have l9 : g8.length ≤ g9.length := by rw [e9']; simp
    clear e9'
    generalize hPP : (XA.code d1 d2 0 k1 k3 bud).parse mm dd ⟨(XA.code d1 d2 0 k1 k3 bud).start port, List.replicate (XA.code d1 d2 0 k1 k3 bud).hl.length false, 0, 0⟩ = PP at *
    obtain ⟨⟨flP, vlP, oP, stP⟩, rP⟩ := PP
    dsimp only at hc9
    obtain ⟨r1, r2, r3, rfl, or1, or2, or3⟩ := hc9.ones
    have Ka9 : hget g9 h.length = _ := (hg9 _ (by omega)).trans Ka8
    have Kb9 : hget g9 (h.length + 1) = _ := (hg9 _ (by omega)).trans Kb8
    have h99 : hget g9 (g.length + 1) = _ := (hg9 _ (by omega)).trans h98
    simp (disch := first | omega | (simp only [fsLen]; omega)) only [↓fsPre, fsPost, fsCond, fsGen, fsDefs, fsDefX, cls, eqVal, reduceCtorEq, Nat.reduceAdd, Nat.reduceMul, Nat.reduceSub, Nat.reduceLT, Nat.reduceLeDiff, Nat.reduceEqDiff, Nat.reduceBEq, Nat.reduceBNe, Int.reduceLT, Int.reduceLE, Int.reduceEq, Int.reduceNe, Int.reduceAdd, Int.reduceSub, Int.reduceNeg, Int.reduceToNat, Int.reduceMul, ↓reduceIte, Int.reduceGT, Int.reduceGE, f3, f9, f34, f35, f36, Ka9, Kb9, h99, or1, or2, or3]
    have lh9 : h.length + 2 ≤ g9.length := by omega
    obtain ⟨M, hM⟩ : ∃ M, M = hset g9 h.length (NBlk.cells [r1, r2, r3, NV.int IntKind.i64 stP, NV.bool false] false) := ⟨_, rfl⟩
    have Ma : hget M h.length = some (NBlk.cells [r1, r2, r3, NV.int IntKind.i64 stP, NV.bool false] false) := by rw [hM, hget_hset_same (by omega)]
    have Mo : ∀ b, b ≠ h.length → hget M b = hget g9 b := fun b hb => by rw [hM, hget_hset_ne (Ne.symm hb)]
    have lM : M.length = g9.length := by rw [hM, length_hset]
    rw [← hM]
    clear hM
    have hc9 := hc9.keep (h' := M) fun b hb _ => Mo b (by omega)
    have hc7 := hc7.keep (h' := M) fun b hb hb2 => (Mo b (by omega)).trans (hg9 b hb2)
    have oMg : ∀ b, b < g.length → hget M b = hget g b := fun b hb => by rw [Mo b (by omega), hg9 b (by omega), o8g b hb]
    have hlowM : RestLow M.length (.agg [q1, q2, q3, .int .i64 0, .bool false]) := fun vF vV vR st e b o n c e2 => by
      have := hlow7 vF vV vR st e b o n c e2
      omega
    refine callT_D (rparse_ok (ym M oMg) _ mm dd _ _ _ hc7 hlowM (by omega) (by omega) ⟨by simp [XA.code], by simp [XA.code]⟩ (code_bits d1 d2 k1 k3 bud)) rfl ?_
    rw [hPP]
    dsimp only
    rintro v10 g10 ⟨⟨L10, e10⟩, w10, e10', hc10⟩
    try simp only at e10 e10' hc10
    subst e10'
    have hg10 : ∀ b, b < M.length → hget g10 b = hget M b := fun b hb => by rw [e10]; exact hget_appl hb
    have l10 : M.length ≤ g10.length := by rw [e10]; simp
    clear e10
    obtain ⟨t1, t2, t3, rfl, ot1, ot2, ot3⟩ := hc10.ones
    have Ma10 : hget g10 h.length = _ := (hg10 _ (by omega)).trans Ma
    have Mb10 : hget g10 (h.length + 1) = _ := (hg10 _ (by omega)).trans ((Mo _ (by omega)).trans Kb9)
    simp (disch := first | omega | (simp only [fsLen]; omega)) only [↓fsPre, fsPost, fsCond, fsGen, fsDefs, fsDefX, cls, eqVal, reduceCtorEq, Nat.reduceAdd, Nat.reduceMul, Nat.reduceSub, Nat.reduceLT, Nat.reduceLeDiff, Nat.reduceEqDiff, Nat.reduceBEq, Nat.reduceBNe, Int.reduceLT, Int.reduceLE, Int.reduceEq, Int.reduceNe, Int.reduceAdd, Int.reduceSub, Int.reduceNeg, Int.reduceToNat, Int.reduceMul, ↓reduceIte, Int.reduceGT, Int.reduceGE, f3, f9, f34, f35, f36, Ma10, Mb10, ot1, ot2, ot3, decide_eq_false, nbool_undef, guardK_none]
    obtain ⟨Q, hQ⟩ : ∃ Q, Q = hset g10 (h.length + 1) (NBlk.cells [t1, t2, t3, NV.int IntKind.i64 stP, NV.bool false] false) := ⟨_, rfl⟩
    have Qb : hget Q (h.length + 1) = some (NBlk.cells [t1, t2, t3, NV.int IntKind.i64 stP, NV.bool false] false) := by rw [hQ, hget_hset_same (by omega)]
    have Qo : ∀ b, b ≠ h.length + 1 → hget Q b = hget g10 b := fun b hb => by rw [hQ, hget_hset_ne (Ne.symm hb)]
    have lQ : Q.length = g10.length := by rw [hQ, length_hset]
    rw [← hQ, ← lQ]
    clear hQ
    have Qa : hget Q h.length = _ := (Qo _ (by omega)).trans Ma10
    have hc9 := hc9.keep (h' := Q) fun b hb hb2 => (Qo b (by omega)).trans (hg10 b hb2)
    have hc10 := hc10.keep (h' := Q) fun b hb hb2 => Qo b (by omega)
    refine callDT_D (context_ok Q r1 r2 r3 stP ⟨or1, or2, or3⟩) rfl ?_
    rintro v11 g11 ⟨e11, L11, e11'⟩
    simp only at e11 e11'
    subst e11
    have hg11 : ∀ b, b < Q.length → hget g11 b = hget Q b := fun b hb => by rw [e11']; exact hget_appl hb
    have l11 : Q.length ≤ g11.length := by rw [e11']; simp
    clear e11'
    have Qa11 : hget g11 h.length = _ := (hg11 _ (by omega)).trans Qa
    have Qb11 : hget g11 (h.length + 1) = _ := (hg11 _ (by omega)).trans Qb
    simp (disch := first | omega | (simp only [fsLen]; omega)) only [↓fsPre, fsPost, fsCond, fsGen, fsDefs, fsDefX, cls, eqVal, reduceCtorEq, Nat.reduceAdd, Nat.reduceMul, Nat.reduceSub, Nat.reduceLT, Nat.reduceLeDiff, Nat.reduceEqDiff, Nat.reduceBEq, Nat.reduceBNe, Int.reduceLT, Int.reduceLE, Int.reduceEq, Int.reduceNe, Int.reduceAdd, Int.reduceSub, Int.reduceNeg, Int.reduceToNat, Int.reduceMul, ↓reduceIte, Int.reduceGT, Int.reduceGE, f3, f9, f34, f35, f36, Qa, Qb, Qa11, Qb11, l11, cxCells, nbool_undef, guardK_none]
    have hc9 := hc9.keep (h' := g11) fun b hb hb2 => hg11 b hb2
    have hc10 := hc10.keep (h' := g11) fun b hb hb2 => hg11 b hb2
    refine callDT_one (same_ok hc9 hc10 hn) rfl ?_
    simp (disch := first | omega | (simp only [fsLen]; omega)) only [↓fsPre, fsPost, fsCond, fsGen, fsDefs, fsDefX, cls, eqVal, reduceCtorEq, Nat.reduceAdd, Nat.reduceMul, Nat.reduceSub, Nat.reduceLT, Nat.reduceLeDiff, Nat.reduceEqDiff, Nat.reduceBEq, Nat.reduceBNe, Int.reduceLT, Int.reduceLE, Int.reduceEq, Int.reduceNe, Int.reduceAdd, Int.reduceSub, Int.reduceNeg, Int.reduceToNat, Int.reduceMul, ↓reduceIte, Int.reduceGT, Int.reduceGE, f3, f9, f34, f35, f36, Qa, Qb, Qa11, Qb11, l11, cxCells, nbool_undef, guardK_none]
    refine ⟨by omega, fun b hb => ?_⟩
    rw [hg11 b (by omega), Qo b (by omega), hg10 b (by omega), Mo b (by omega), hg9 b (by omega), hg8 b (by omega), Ko b (by omega) (by omega), hg7 b (by omega), hg6 b (by omega), k0 b (by omega)]
    exact hold b hb
  · rintro F h ⟨f3, f9, f34, f35, f36, hlen, hold⟩
    simp (disch := first | omega | (simp only [fsLen]; omega)) only [↓fsPre, fsPost, fsCond, fsGen, fsDefs, fsDefX, cls, eqVal, reduceCtorEq, Nat.reduceAdd, Nat.reduceMul, Nat.reduceSub, Nat.reduceLT, Nat.reduceLeDiff, Nat.reduceEqDiff, Nat.reduceBEq, Nat.reduceBNe, Int.reduceLT, Int.reduceLE, Int.reduceEq, Int.reduceNe, Int.reduceAdd, Int.reduceSub, Int.reduceNeg, Int.reduceToNat, Int.reduceMul, ↓reduceIte, Int.reduceGT, Int.reduceGE, f3, f9, f34, f35, f36]
    refine callT_one (begun28_ok _) rfl ?_
    simp (disch := first | omega | (simp only [fsLen]; omega)) only [↓fsPre, fsPost, fsCond, fsGen, fsDefs, fsDefX, cls, eqVal, reduceCtorEq, Nat.reduceAdd, Nat.reduceMul, Nat.reduceSub, Nat.reduceLT, Nat.reduceLeDiff, Nat.reduceEqDiff, Nat.reduceBEq, Nat.reduceBNe, Int.reduceLT, Int.reduceLE, Int.reduceEq, Int.reduceNe, Int.reduceAdd, Int.reduceSub, Int.reduceNeg, Int.reduceToNat, Int.reduceMul, ↓reduceIte, Int.reduceGT, Int.reduceGE]

def kindsEP : List PK := [.sl [.int .u8], .sl [.int .u8], .sl [.int .u8], .flat [.int .i64] false]
theorem walkEP (nvs : List NV) (h : Heap) (ok : argsOK kindsEP 0 nvs h) : NFun Try.prog 3 nvs h (fun q => q.1 = .bool true) := by
  obtain ⟨v, vs, x, h, rfl, rfl, h1, ok⟩ := argsOK_cons ok
  obtain ⟨w, vs, y, h, rfl, rfl, h2, ok⟩ := argsOK_cons ok
  obtain ⟨u, vs, z, h, rfl, rfl, h3, ok⟩ := argsOK_cons ok
  obtain ⟨t, vs, z', h, rfl, rfl, h4, ok⟩ := argsOK_cons ok
  obtain ⟨rfl, rfl⟩ := argsOK_nil ok
  obtain ⟨n, rfl, hn, rfl⟩ := argOK_int h4
  obtain ⟨xs, hx⟩ := argOK_bytes (H := [x, y, z, none]) h1 rfl
  obtain ⟨ys, hy⟩ := argOK_bytes (H := [x, y, z, none]) h2 rfl
  obtain ⟨zs, hz⟩ := argOK_bytes (H := [x, y, z, none]) h3 rfl
  exact parses_ok _ _ _ _ xs ys zs n hx hy hz
end Go.Proofs
