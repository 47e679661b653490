/- Trie: the document's Nodes. -/
import Derived.Test.YtiiopgancdgioaaVbE
import Derived.Test.YtiiopgancdgioaaTCTq
set_option linter.unusedSimpArgs false
set_option linter.unusedVariables false
set_option maxRecDepth 100000
namespace Go.Proofs
open Go.Ns

/-! ### Beginnings -/
def addB (M : List PfT) (q : PfT) : List PfT := if q ∈ M then M else M ++ [q]
def begB (bits : Nat) (x : PfT) (n : Nat) : PfT := ((x.1.1 &&& leadV bits n, (n : Int)), 0)
def begs (bits : Nat) (x : PfT) : List PfT := (List.range (x.1.2.toNat + 1)).map (begB bits x)
theorem addB_mem {M : List PfT} {q x : PfT} : x ∈ addB M q ↔ x ∈ M ∨ x = q := by
  unfold addB
  split
  · rename_i h
    constructor
    · exact .inl
    · rintro (h' | rfl)
      · exact h'
      · exact h
  · simp
theorem addB_nodup {M : List PfT} {q : PfT} (h : M.Nodup) : (addB M q).Nodup := by
  unfold addB
  split
  · exact h
  · rename_i hq
    rw [List.nodup_append]
    refine ⟨h, by simp, fun a ha b hb e => ?_⟩
    rw [List.mem_singleton] at hb
    subst hb; subst e
    exact hq ha
theorem addB_len {M : List PfT} {q : PfT} : (addB M q).length ≤ M.length + 1 := by
  unfold addB; split <;> simp
theorem fold_mem : ∀ (L M : List PfT) (x : PfT), x ∈ L.foldl addB M ↔ x ∈ M ∨ x ∈ L
  | [], M, x => by simp
  | q :: L, M, x => by
    rw [List.foldl_cons, fold_mem L, addB_mem, List.mem_cons, or_assoc]
theorem fold_nodup : ∀ (L M : List PfT), M.Nodup → (L.foldl addB M).Nodup
  | [], M, h => h
  | q :: L, M, h => fold_nodup L _ (addB_nodup h)
theorem fold_len : ∀ (L M : List PfT), (L.foldl addB M).length ≤ M.length + L.length
  | [], M => by simp
  | q :: L, M => by
    have := fold_len L (addB M q)
    have := addB_len (M := M) (q := q)
    simp only [List.foldl_cons, List.length_cons]; omega
theorem pathB_val {bits : Nat} (hb : bits ≤ 128) {p : List Bool} (hp : p.length ≤ bits) {n : Nat} (hn : n ≤ p.length) : pathB bits n (valP bits p) = p.take n := by
  rw [← pathB_take hn, (valP_okP hb hp).2]
theorem lead_val {bits : Nat} (hb : bits ≤ 128) {v : BitVec 128} {n : Nat} (hn : n ≤ bits) : v &&& leadV (bits : Int) (n : Int) = valP bits (pathB bits n v) := by
  apply BitVec.eq_of_getLsbD_eq
  intro j hj
  rw [BitVec.getLsbD_and, leadV_get hb hn hj, valP_get hj]
  by_cases hjb : j < bits
  · by_cases hjn : bits - n ≤ j
    · rw [pathB_at (by omega)]
      unfold bitAt
      rw [show bits - 1 - (bits - 1 - j) = j by omega]
      simp [hjb, hjn]
    · rw [List.getElem?_eq_none (by rw [pathB_length]; omega)]; simp [hjn]
  · simp [hjb]
/-- The number of beginnings is the number of nodes. -/
theorem begs_nodes {bits : Nat} (hb : bits ≤ 128) {t : T} (h : t.ok bits) : (((t.items bits).flatMap (begs bits)).foldl addB []).length = t.nodes := by
  rw [← T.paths_length]
  have hlen : ∀ a, a ∈ t.paths → a.length ≤ bits := by
    intro a ha
    obtain ⟨q, hq⟩ := (T.find_iff h.wf a).1 ((T.mem_paths t a).1 ha)
    cases hg : t.get (a ++ q) with
    | none => exact absurd hg hq
    | some i => have := T.get_fit _ h.fit hg; simp at this; omega
  have hmap : (t.paths.map fun a => (((valP bits a, (a.length : Int)), 0) : PfT)).length = t.paths.length := by simp
  rw [← hmap]
  apply List.Perm.length_eq
  have hnd : (t.paths.map fun a => (((valP bits a, (a.length : Int)), 0) : PfT)).Nodup := by
    unfold List.Nodup
    rw [List.pairwise_map]
    refine List.Pairwise.imp_of_mem ?_ (T.paths_nodup t)
    intro a b ha hb' hne e
    simp only [Prod.mk.injEq, and_true] at e
    exact hne (valP_inj hb (hlen a ha) (by omega) e.1)
  rw [List.perm_ext_iff_of_nodup (fold_nodup _ _ List.nodup_nil) hnd]
  intro x
  rw [fold_mem, List.mem_flatMap, List.mem_map]
  constructor
  · rintro (hx | ⟨y, hy, hx⟩)
    · cases hx
    · obtain ⟨p, i, h1, rfl⟩ := (T.mem_items hb h.fit y).1 hy
      have hl := T.get_fit p h.fit h1
      unfold begs at hx
      rw [List.mem_map] at hx
      obtain ⟨n, hn, rfl⟩ := hx
      simp only [List.mem_range, Int.toNat_natCast] at hn
      refine ⟨p.take n, (T.mem_paths t _).2 ((T.find_iff h.wf _).2 ⟨p.drop n, by rw [List.take_append_drop, h1]; simp⟩), ?_⟩
      unfold begB
      rw [lead_val hb (by omega), pathB_val hb (by omega) (by omega), List.length_take, Nat.min_eq_left (by omega)]
  · rintro ⟨a, ha, rfl⟩
    right
    obtain ⟨q, hq⟩ := (T.find_iff h.wf a).1 ((T.mem_paths t a).1 ha)
    cases hg : t.get (a ++ q) with
    | none => exact absurd hg hq
    | some i =>
      have hl := T.get_fit _ h.fit hg
      refine ⟨_, (T.mem_items hb h.fit _).2 ⟨a ++ q, i, hg, rfl⟩, ?_⟩
      unfold begs
      rw [List.mem_map]
      refine ⟨a.length, by simp; omega, ?_⟩
      unfold begB
      simp only
      rw [lead_val hb (hlen a ha), pathB_val hb (by omega) (by simp), List.take_left]

/-! ### The walk -/
structure NodI (H h : Heap) (M : List PfT) (v : NV) : Prop where
  len : H.length ≤ h.length
  keep : ∀ b, b < H.length → hget h b = hget H b
  g : GrC h H.length (M.flatMap pfC) 4 v
theorem NodI.app {H h : Heap} {M : List PfT} {v : NV} (i : NodI H h M v) (L : Heap) : NodI H (h ++ L) M v :=
  ⟨by have := i.len; simp; omega, fun b hb => by rw [hget_appl (by have := i.len; omega)]; exact i.keep b hb, i.g.ext Ext.app⟩
theorem pf_eq (x q : PfT) : (hiOf x.1.1 == hiOf q.1.1 && (loOf x.1.1 == loOf q.1.1 && decide (x.1.2 = q.1.2 ∧ x.2 = q.2))) = decide (x = q) := by
  rw [← Bool.and_assoc, words_eq]
  by_cases h1 : x.1.1 = q.1.1
  · by_cases h2 : x.1.2 = q.1.2
    · by_cases h3 : x.2 = q.2
      · have : x = q := Prod.ext (Prod.ext h1 h2) h3
        subst this; simp
      · rw [decide_eq_false (p := x.1.2 = q.1.2 ∧ x.2 = q.2) (fun e => h3 e.2), decide_eq_false (fun e => h3 (by rw [e]))]; simp
    · rw [decide_eq_false (p := x.1.2 = q.1.2 ∧ x.2 = q.2) (fun e => h2 e.1), decide_eq_false (fun e => h2 (by rw [e]))]; simp
  · rw [beq_false_of_ne h1, decide_eq_false (p := x = q) (fun e => h1 (by rw [e]))]; simp
theorem grc_pfs {h : Heap} {N : Nat} {v : NV} {l : List PfT} (g : GrC h N (l.flatMap pfC) 4 v) : ∃ B c, v = .slice B l.length c ∧ (0 < l.length → ∃ b, B = some (b, 0) ∧ hget h b = some (.cells (l.flatMap pfC) false)) := by
  rcases g with ⟨h1, h2⟩ | ⟨b, k, h1, h2, h3, h4, h5⟩
  · have := congrArg List.length h1
    rw [pfs_length] at this
    simp only [List.length_nil] at this
    have : l.length = 0 := by omega
    exact ⟨none, .fix 0, by rw [this]; exact h2, fun h => by omega⟩
  · rw [pfs_length] at h4
    have : k = l.length := by omega
    subst this
    exact ⟨_, _, h1, fun _ => ⟨b, rfl, h3⟩⟩
def inS (v : NV) (b : Nat) : Prop := ∃ n c, v = .slice (some (b, 0)) n c
def nodBody : NCode := match t25.body.a2.a2.a1.a2 with
  | .block _ (.loop (.seq _ (.seq _ (.seq (.block _ (.seq _ (.seq _ (.block _ (.loop (.seq _ (.seq (.block _ c) _))))))) _)))) => c
  | c => c

set_option maxHeartbeats 1000000 in
theorem nod_body (H : Heap) (q bits : Nat) (sl : NV) (M : List PfT) (v3 : NV) (x : PfT) (c5 n : Nat) (F : FF) (h : Heap) (hb : bits ≤ 128) (hn : n ≤ bits) (hM : M.length ≤ 10000) (hq : hget H q = some (.cells [.int .i64 bits, sl] false)) (I : NodI H h M v3)
    (f0 : F 0 = .ptr (some (q, 0))) (f3 : F 3 = v3) (f5 : F 5 = .ptr (some (c5, 0))) (f6 : F 6 = .int .i64 n) (f14 : F 14 = sl) (f15 : ∃ k, F 15 = .int .i64 k) (f16 : ∃ k, F 16 = .int .i64 k) (h5 : hget h c5 = some (.cells (pfC x) false)) (hc5 : H.length ≤ c5) (hd5 : ¬ inS v3 c5) :
    fwpT E0 nodBody (joinK fun F' h' => ∃ v3', NodI H h' (addB M (begB bits x n)) v3' ∧ F' 0 = F 0 ∧ F' 3 = v3' ∧ F' 5 = F 5 ∧ F' 6 = F 6 ∧ F' 14 = F 14 ∧ F' 15 = F 15 ∧ F' 16 = F 16 ∧ hget h' c5 = some (.cells (pfC x) false) ∧ ¬ inS v3' c5) F h .mk := by
  simp only [nodBody, t25, NCode.a1, NCode.a2]
  have lq := hget_some_lt hq
  have hq1 := (I.keep q lq).trans hq
  have lq1 := hget_some_lt hq1
  have l5 := hget_some_lt h5
  have hl := fun H a b => rlead_ok H a b
  have ha := fun H b => rand_ok H x.1.1 b
  simp only [vnv] at hl ha
  have h5' := h5
  simp only [pfC] at h5
  simp (disch := first | omega | (simp only [fsLen]; omega)) only [↓fsPre, fsPost, fsCond, fsGen, fsDefs, cls, eqVal, vbGen, fill_bits, reduceCtorEq, Nat.reduceAdd, Nat.reduceMul, Nat.reduceSub, Nat.reduceLT, Nat.reduceLeDiff, Nat.reduceEqDiff, Nat.reduceBEq, Nat.reduceBNe, Int.reduceLT, Int.reduceLE, Int.reduceEq, Int.reduceNe, Int.reduceAdd, Int.reduceSub, Int.reduceNeg, Int.reduceToNat, Int.reduceMul, ↓reduceIte, Int.reduceGT, Int.reduceGE, f0, f5, f6, hq1, h5, nb_one]
  refine callDT_one (hl _ _ _) rfl ?_
  simp (disch := first | omega | (simp only [fsLen]; omega)) only [↓fsPre, fsPost, fsCond, fsGen, fsDefs, cls, eqVal, vbGen, fill_bits, reduceCtorEq, Nat.reduceAdd, Nat.reduceMul, Nat.reduceSub, Nat.reduceLT, Nat.reduceLeDiff, Nat.reduceEqDiff, Nat.reduceBEq, Nat.reduceBNe, Int.reduceLT, Int.reduceLE, Int.reduceEq, Int.reduceNe, Int.reduceAdd, Int.reduceSub, Int.reduceNeg, Int.reduceToNat, Int.reduceMul, ↓reduceIte, Int.reduceGT, Int.reduceGE, f0, f5, f6, hq1, h5, nb_one]
  refine callDT_one (ha _ _) rfl ?_
  simp (disch := first | omega | (simp only [fsLen]; omega)) only [↓fsPre, fsPost, fsCond, fsGen, fsDefs, cls, eqVal, vbGen, fill_bits, reduceCtorEq, Nat.reduceAdd, Nat.reduceMul, Nat.reduceSub, Nat.reduceLT, Nat.reduceLeDiff, Nat.reduceEqDiff, Nat.reduceBEq, Nat.reduceBNe, Int.reduceLT, Int.reduceLE, Int.reduceEq, Int.reduceNe, Int.reduceAdd, Int.reduceSub, Int.reduceNeg, Int.reduceToNat, Int.reduceMul, ↓reduceIte, Int.reduceGT, Int.reduceGE, f0, f3, f5, f6, hq1, h5, nb_one]
  obtain ⟨B, c, rfl, hB⟩ := grc_pfs I.g
  have hqc : [nb (hiOf (x.1.1 &&& leadV bits n)), nb (loOf (x.1.1 &&& leadV bits n)), NV.int .i64 n, NV.int .i64 0] = pfC (begB bits x n) := rfl
  rw [hqc]
  generalize hy : begB bits x n = y at *
  simp (disch := first | omega | (simp only [fsLen]; omega)) only [↓fsPre, fsPost, fsCond, fsGen, fsDefs, cls, eqVal, vbGen, fill_bits, reduceCtorEq, Nat.reduceAdd, Nat.reduceMul, Nat.reduceSub, Nat.reduceLT, Nat.reduceLeDiff, Nat.reduceEqDiff, Nat.reduceBEq, Nat.reduceBNe, Int.reduceLT, Int.reduceLE, Int.reduceEq, Int.reduceNe, Int.reduceAdd, Int.reduceSub, Int.reduceNeg, Int.reduceToNat, Int.reduceMul, ↓reduceIte, Int.reduceGT, Int.reduceGE, f0, f3, f5, f6, hq1, h5, nb_one]
  refine wloop (fun k F' g => F' 0 = F 0 ∧ F' 3 = F 3 ∧ F' 5 = F 5 ∧ F' 6 = F 6 ∧ F' 14 = F 14 ∧ F' 15 = F 15 ∧ F' 16 = F 16 ∧ F' 7 = .ptr (some (h.length, 0)) ∧ F' 8 = .bool (decide (y ∈ M.take k)) ∧ F' 37 = .slice B M.length c ∧ F' 38 = .int .i64 M.length ∧ F' 39 = .int .i64 k ∧ ∃ L, g = h ++ (some (.cells (pfC y) false) :: L)) M.length ?_ ?_ ?_
  · simp (disch := first | omega | (simp only [fsLen]; omega)) only [↓fsPre, fsPost, fsCond, fsGen, fsDefs, cls, eqVal, vbGen, fill_bits, reduceCtorEq, Nat.reduceAdd, Nat.reduceMul, Nat.reduceSub, Nat.reduceLT, Nat.reduceLeDiff, Nat.reduceEqDiff, Nat.reduceBEq, Nat.reduceBNe, Int.reduceLT, Int.reduceLE, Int.reduceEq, Int.reduceNe, Int.reduceAdd, Int.reduceSub, Int.reduceNeg, Int.reduceToNat, Int.reduceMul, ↓reduceIte, Int.reduceGT, Int.reduceGE, List.not_mem_nil]
    exact ⟨[], rfl⟩
  · rintro k F' g hk ⟨e0, e3, e5, e6, e14, e15, e16, e7, e8, e37, e38, e39, L, rfl⟩
    obtain ⟨b, rfl, hb'⟩ := hB (by omega)
    have lb := hget_some_lt hb'
    have hc : cut (M.flatMap pfC) (k * 4) 4 = some (pfC M[k]) := cut_flatMap pfC_length hk
    have hd : decide ((k : Int) < (M.length : Int)) = true := by simp; omega
    have hbb : hget (h ++ (some (NBlk.cells (pfC y) false) :: L)) b = some (.cells (M.flatMap pfC) false) := by rw [hget_appl lb]; exact hb'
    have h7 : hget (h ++ (some (NBlk.cells (pfC y) false) :: L)) h.length = some (.cells (pfC y) false) := by rw [hget_appr (Nat.le_refl _), Nat.sub_self]; rfl
    have l7 := hget_some_lt h7
    have lbb := hget_some_lt hbb
    have hJ : ∀ X : Heap, ∃ L', (h ++ (some (NBlk.cells (pfC y) false) :: L)) ++ X = h ++ (some (NBlk.cells (pfC y) false) :: L') := fun X => ⟨L ++ X, by simp⟩
    have hin : decide (y ∈ M.take (k + 1)) = (decide (y ∈ M.take k) || decide (M[k] = y)) := by
      have hp : (y ∈ M.take (k + 1)) ↔ (y ∈ M.take k ∨ M[k] = y) := by
        rw [← List.take_append_getElem hk, List.mem_append, List.mem_singleton, eq_comm (a := y)]
      simp only [hp, Bool.decide_or]
    have hpe := pf_eq M[k] y
    generalize h ++ (some (NBlk.cells (pfC y) false) :: L) = G at *
    simp only [pfC] at hc h7
    rw [hin]
    cases hm : decide (y ∈ M.take k) with
    | true =>
      rw [hm] at e8
      simp (disch := first | omega | (simp only [fsLen]; omega)) only [↓fsPre, fsPost, fsCond, fsGen, fsDefs, cls, eqVal, vbGen, fill_bits, reduceCtorEq, Nat.reduceAdd, Nat.reduceMul, Nat.reduceSub, Nat.reduceLT, Nat.reduceLeDiff, Nat.reduceEqDiff, Nat.reduceBEq, Nat.reduceBNe, Int.reduceLT, Int.reduceLE, Int.reduceEq, Int.reduceNe, Int.reduceAdd, Int.reduceSub, Int.reduceNeg, Int.reduceToNat, Int.reduceMul, ↓reduceIte, Int.reduceGT, Int.reduceGE, e7, e8, e37, e38, e39, hd, hbb, hc, nb_one]
      exact ⟨e0, e3, e5, e6, e14, e15, e16, hJ _⟩
    | false =>
      rw [hm] at e8
      simp (disch := first | omega | (simp only [fsLen]; omega)) only [↓fsPre, fsPost, fsCond, fsGen, fsDefs, cls, eqVal, vbGen, fill_bits, reduceCtorEq, Nat.reduceAdd, Nat.reduceMul, Nat.reduceSub, Nat.reduceLT, Nat.reduceLeDiff, Nat.reduceEqDiff, Nat.reduceBEq, Nat.reduceBNe, Int.reduceLT, Int.reduceLE, Int.reduceEq, Int.reduceNe, Int.reduceAdd, Int.reduceSub, Int.reduceNeg, Int.reduceToNat, Int.reduceMul, ↓reduceIte, Int.reduceGT, Int.reduceGE, e7, e8, e37, e38, e39, hd, hbb, hc, h7, nb_one]
      exact ⟨e0, e3, e5, e6, e14, e15, e16, congrArg NV.bool hpe, hJ _⟩
  · rintro F' g ⟨e0, e3, e5, e6, e14, e15, e16, e7, e8, e37, e38, e39, L, rfl⟩
    rw [List.take_length] at e8
    have I1 := I.app (some (.cells (pfC y) false) :: L)
    have h7 : hget (h ++ (some (NBlk.cells (pfC y) false) :: L)) h.length = some (.cells (pfC y) false) := by rw [hget_appr (Nat.le_refl _), Nat.sub_self]; rfl
    have l7 := hget_some_lt h7
    have h51 : hget (h ++ (some (NBlk.cells (pfC y) false) :: L)) c5 = some (.cells (pfC x) false) := by rw [hget_appl l5]; exact h5'
    generalize h ++ (some (NBlk.cells (pfC y) false) :: L) = G at *
    simp only [pfC] at h7
    unfold addB
    by_cases hm : y ∈ M
    · have e8' : F' 8 = .bool true := by rw [e8]; simp [hm]
      rw [if_pos hm]
      simp (disch := first | omega | (simp only [fsLen]; omega)) only [↓fsPre, fsPost, fsCond, fsGen, fsDefs, cls, eqVal, vbGen, fill_bits, reduceCtorEq, Nat.reduceAdd, Nat.reduceMul, Nat.reduceSub, Nat.reduceLT, Nat.reduceLeDiff, Nat.reduceEqDiff, Nat.reduceBEq, Nat.reduceBNe, Int.reduceLT, Int.reduceLE, Int.reduceEq, Int.reduceNe, Int.reduceAdd, Int.reduceSub, Int.reduceNeg, Int.reduceToNat, Int.reduceMul, ↓reduceIte, Int.reduceGT, Int.reduceGE, e7, e8', e37, e38, e39]
      exact ⟨_, I1, e0, e3.trans f3, e5, e6, e14, e15, e16, h51, hd5⟩
    · have e8' : F' 8 = .bool false := by rw [e8]; simp [hm]
      rw [if_neg hm]
      simp (disch := first | omega | (simp only [fsLen]; omega)) only [↓fsPre, fsPost, fsCond, fsGen, fsDefs, cls, eqVal, vbGen, fill_bits, reduceCtorEq, Nat.reduceAdd, Nat.reduceMul, Nat.reduceSub, Nat.reduceLT, Nat.reduceLeDiff, Nat.reduceEqDiff, Nat.reduceBEq, Nat.reduceBNe, Int.reduceLT, Int.reduceLE, Int.reduceEq, Int.reduceNe, Int.reduceAdd, Int.reduceSub, Int.reduceNeg, Int.reduceToNat, Int.reduceMul, ↓reduceIte, Int.reduceGT, Int.reduceGE, e7, e8', e37, e38, e39, e3, f3, h7, nb_one]
      have I2 := I1.app [some (.cells [nb (hiOf y.1.1), nb (loOf y.1.1), .int .i64 y.1.2, .int .i64 y.2] false)]
      refine grc_app10 (N := H.length) (new := pfC y) (m := 1) I2.g I2.len (sliceCells_at (by simp (disch := first | omega | (simp only [fsLen]; omega)) only [↓fsPre, fsPost, fsCond, fsGen, fsDefs, cls, eqVal, vbGen, fill_bits, reduceCtorEq, Nat.reduceAdd, Nat.reduceMul, Nat.reduceSub, Nat.reduceLT, Nat.reduceLeDiff, Nat.reduceEqDiff, Nat.reduceBEq, Nat.reduceBNe, Int.reduceLT, Int.reduceLE, Int.reduceEq, Int.reduceNe, Int.reduceAdd, Int.reduceSub, Int.reduceNeg, Int.reduceToNat, Int.reduceMul, ↓reduceIte, Int.reduceGT, Int.reduceGE] <;> rfl) rfl) rfl (by omega) (by omega) rfl (by rw [pfs_length]; omega) (by omega) (by omega) ?_
      intro v1 h1 gg ll on1 o1 n1
      simp only [List.length_append, List.length_cons, List.length_nil] at ll n1
      have lG := I1.len
      simp (disch := first | omega | (simp only [fsLen]; omega)) only [↓fsPre, fsPost, fsCond, fsGen, fsDefs, cls, eqVal, vbGen, fill_bits, reduceCtorEq, Nat.reduceAdd, Nat.reduceMul, Nat.reduceSub, Nat.reduceLT, Nat.reduceLeDiff, Nat.reduceEqDiff, Nat.reduceBEq, Nat.reduceBNe, Int.reduceLT, Int.reduceLE, Int.reduceEq, Int.reduceNe, Int.reduceAdd, Int.reduceSub, Int.reduceNeg, Int.reduceToNat, Int.reduceMul, ↓reduceIte, Int.reduceGT, Int.reduceGE]
      have l51 := hget_some_lt h51
      refine ⟨v1, ⟨by omega, fun b hb => ?_, by rw [List.flatMap_append]; simpa using gg⟩, e0, rfl, e5, e6, e14, e15, e16, ?_, ?_⟩
      · rw [on1 b hb, hget_appl (by omega)]; exact I1.keep b hb
      · rw [o1 c5 (by simp; omega) (fun n k e => hd5 ⟨n, k, e⟩), hget_appl l51]; exact h51
      · rintro ⟨n, k, e⟩
        have := n1 c5 n k e
        omega

end Go.Proofs
namespace Go.Ns
def NCode.bk : NCode → NCode | .block _ c => c | c => c
def NCode.lp : NCode → NCode | .loop c => c | c => c
end Go.Ns
namespace Go.Proofs
open Go.Ns
def ndA : NCode := t25.body.a1
def ndB : NCode := t25.body.a2.a1
def ndC : NCode := t25.body.a2.a2.a1.a1
def ndO : NCode := t25.body.a2.a2.a1.a2.bk.lp
def ndE : NCode := t25.body.a2.a2.a2
def ndO1 : NCode := ndO.a1
def ndO2 : NCode := ndO.a2.a1
def ndI1 : NCode := ndO.a2.a2.a1.bk.a1
def ndI2 : NCode := ndO.a2.a2.a1.bk.a2.a1
def ndIn : NCode := ndO.a2.a2.a1.bk.a2.a2.bk.lp
def ndIc : NCode := ndIn.a1
def ndI3 : NCode := ndIn.a2.a2
def ndO3 : NCode := ndO.a2.a2.a2
theorem nd_body : t25.body = .seq ndA (.seq ndB (.seq (.seq ndC (.block 0 (.loop (.seq ndO1 (.seq ndO2 (.seq (.block 1 (.seq ndI1 (.seq ndI2 (.block 2 (.loop (.seq ndIc (.seq (.block 3 nodBody) ndI3))))))) ndO3)))))) ndE)) := rfl
theorem nd_res : t25.res = [.tmp 2] := rfl
theorem begs_take {bits : Nat} {x : PfT} {n : Nat} (hn : n < x.1.2.toNat + 1) {M : List PfT} : ((begs bits x).take (n + 1)).foldl addB M = addB (((begs bits x).take n).foldl addB M) (begB bits x n) := by
  have hl : n < (begs bits x).length := by simp [begs]; omega
  rw [← List.take_append_getElem hl, List.foldl_append]
  simp [begs]

set_option maxHeartbeats 1000000 in
theorem rnodes_ok (H : Heap) (q bits : Nat) (sl : NV) (L : List PfT) (hb : bits ≤ 128) (hL : L.length ≤ 50) (hLn : ∀ x, x ∈ L → 0 ≤ x.1.2 ∧ x.1.2 ≤ bits) (hq : hget H q = some (.cells [.int .i64 bits, sl] false)) (hg : GrE H (L.flatMap pfC) sl) :
    NCall Try.prog 25 [.ptr (some (q, 0))] H fun r => r = (.int .i64 (((L.flatMap (begs bits)).foldl addB []).length : Nat), H) := by
  have lq := hget_some_lt hq
  refine call_pure E0 mixed t25_ok (by kernel_rfl) trivial ?_
  rw [nd_body, nd_res]
  obtain ⟨B, c, rfl, hAc⟩ := hg.prs
  simp (disch := first | omega | (simp only [fsLen]; omega)) only [↓fsPre, fsPost, fsCond, fsGen, fsDefs, cls, eqVal, vbGen, fill_bits, reduceCtorEq, Nat.reduceAdd, Nat.reduceMul, Nat.reduceSub, Nat.reduceLT, Nat.reduceLeDiff, Nat.reduceEqDiff, Nat.reduceBEq, Nat.reduceBNe, Int.reduceLT, Int.reduceLE, Int.reduceEq, Int.reduceNe, Int.reduceAdd, Int.reduceSub, Int.reduceNeg, Int.reduceToNat, Int.reduceMul, ↓reduceIte, Int.reduceGT, Int.reduceGE]
  simp only [ndA, t25, NCode.a1, NCode.a2]
  simp (disch := first | omega | (simp only [fsLen]; omega)) only [↓fsPre, fsPost, fsCond, fsGen, fsDefs, cls, eqVal, vbGen, fill_bits, reduceCtorEq, Nat.reduceAdd, Nat.reduceMul, Nat.reduceSub, Nat.reduceLT, Nat.reduceLeDiff, Nat.reduceEqDiff, Nat.reduceBEq, Nat.reduceBNe, Int.reduceLT, Int.reduceLE, Int.reduceEq, Int.reduceNe, Int.reduceAdd, Int.reduceSub, Int.reduceNeg, Int.reduceToNat, Int.reduceMul, ↓reduceIte, Int.reduceGT, Int.reduceGE]
  simp only [ndB, t25, NCode.a1, NCode.a2]
  simp (disch := first | omega | (simp only [fsLen]; omega)) only [↓fsPre, fsPost, fsCond, fsGen, fsDefs, cls, eqVal, vbGen, fill_bits, reduceCtorEq, Nat.reduceAdd, Nat.reduceMul, Nat.reduceSub, Nat.reduceLT, Nat.reduceLeDiff, Nat.reduceEqDiff, Nat.reduceBEq, Nat.reduceBNe, Int.reduceLT, Int.reduceLE, Int.reduceEq, Int.reduceNe, Int.reduceAdd, Int.reduceSub, Int.reduceNeg, Int.reduceToNat, Int.reduceMul, ↓reduceIte, Int.reduceGT, Int.reduceGE]
  simp only [ndC, t25, NCode.a1, NCode.a2]
  simp (disch := first | omega | (simp only [fsLen]; omega)) only [↓fsPre, fsPost, fsCond, fsGen, fsDefs, cls, eqVal, vbGen, fill_bits, reduceCtorEq, Nat.reduceAdd, Nat.reduceMul, Nat.reduceSub, Nat.reduceLT, Nat.reduceLeDiff, Nat.reduceEqDiff, Nat.reduceBEq, Nat.reduceBNe, Int.reduceLT, Int.reduceLE, Int.reduceEq, Int.reduceNe, Int.reduceAdd, Int.reduceSub, Int.reduceNeg, Int.reduceToNat, Int.reduceMul, ↓reduceIte, Int.reduceGT, Int.reduceGE, hq]
  refine wloop (fun j F h => F 0 = .ptr (some (q, 0)) ∧ F 14 = .slice B L.length c ∧ F 15 = .int .i64 L.length ∧ F 16 = .int .i64 j ∧ NodI H h (((L.take j).flatMap (begs bits)).foldl addB []) (F 3) ∧ (((L.take j).flatMap (begs bits)).foldl addB []).length ≤ j * 129) L.length ?_ ?_ ?_
  · simp (disch := first | omega | (simp only [fsLen]; omega)) only [↓fsPre, fsPost, fsCond, fsGen, fsDefs, cls, eqVal, vbGen, fill_bits, reduceCtorEq, Nat.reduceAdd, Nat.reduceMul, Nat.reduceSub, Nat.reduceLT, Nat.reduceLeDiff, Nat.reduceEqDiff, Nat.reduceBEq, Nat.reduceBNe, Int.reduceLT, Int.reduceLE, Int.reduceEq, Int.reduceNe, Int.reduceAdd, Int.reduceSub, Int.reduceNeg, Int.reduceToNat, Int.reduceMul, ↓reduceIte, Int.reduceGT, Int.reduceGE, List.flatMap_nil, List.foldl_nil]
    exact ⟨Nat.le_refl _, fun b hb => rfl, .inl ⟨rfl, rfl⟩⟩
  · rintro j F h hj ⟨f0, f14, f15, f16, I, hl⟩
    rcases hAc with ⟨_, rfl⟩ | ⟨rfl, hp0, b, rfl, hbl⟩
    · simp at hj
    have lb := hget_some_lt hbl
    have hbh := (I.keep b lb).trans hbl
    have lbh := hget_some_lt hbh
    have hc : cut (L.flatMap pfC) (j * 4) 4 = some (pfC L[j]) := cut_flatMap pfC_length hj
    have hd : decide ((j : Int) < (L.length : Int)) = true := by simp; omega
    obtain ⟨hx0, hx1⟩ := hLn L[j] (List.getElem_mem _)
    have hfm : ((L.take (j + 1)).flatMap (begs bits)).foldl addB [] = (begs bits L[j]).foldl addB (((L.take j).flatMap (begs bits)).foldl addB []) := by
      rw [← List.take_append_getElem hj, List.flatMap_append, List.foldl_append]; simp
    rw [hfm]
    generalize ((L.take j).flatMap (begs bits)).foldl addB [] = M at *
    generalize hx : L[j] = x at *
    obtain ⟨m, hm⟩ := Int.eq_ofNat_of_zero_le hx0
    have hc' := hc
    simp only [pfC] at hc
    generalize hv3 : F 3 = v3 at *
    simp only [ndO1, ndO, t25, NCode.a1, NCode.a2, NCode.bk, NCode.lp]
    simp (disch := first | omega | (simp only [fsLen]; omega)) only [↓fsPre, fsPost, fsCond, fsGen, fsDefs, cls, eqVal, vbGen, fill_bits, reduceCtorEq, Nat.reduceAdd, Nat.reduceMul, Nat.reduceSub, Nat.reduceLT, Nat.reduceLeDiff, Nat.reduceEqDiff, Nat.reduceBEq, Nat.reduceBNe, Int.reduceLT, Int.reduceLE, Int.reduceEq, Int.reduceNe, Int.reduceAdd, Int.reduceSub, Int.reduceNeg, Int.reduceToNat, Int.reduceMul, ↓reduceIte, Int.reduceGT, Int.reduceGE, f14, f15, f16, hd]
    simp only [ndO2, ndO, t25, NCode.a1, NCode.a2, NCode.bk, NCode.lp]
    simp (disch := first | omega | (simp only [fsLen]; omega)) only [↓fsPre, fsPost, fsCond, fsGen, fsDefs, cls, eqVal, vbGen, fill_bits, reduceCtorEq, Nat.reduceAdd, Nat.reduceMul, Nat.reduceSub, Nat.reduceLT, Nat.reduceLeDiff, Nat.reduceEqDiff, Nat.reduceBEq, Nat.reduceBNe, Int.reduceLT, Int.reduceLE, Int.reduceEq, Int.reduceNe, Int.reduceAdd, Int.reduceSub, Int.reduceNeg, Int.reduceToNat, Int.reduceMul, ↓reduceIte, Int.reduceGT, Int.reduceGE, f14, f15, f16, hd]
    simp only [ndI1, ndO, t25, NCode.a1, NCode.a2, NCode.bk, NCode.lp]
    simp (disch := first | omega | (simp only [fsLen]; omega)) only [↓fsPre, fsPost, fsCond, fsGen, fsDefs, cls, eqVal, vbGen, fill_bits, reduceCtorEq, Nat.reduceAdd, Nat.reduceMul, Nat.reduceSub, Nat.reduceLT, Nat.reduceLeDiff, Nat.reduceEqDiff, Nat.reduceBEq, Nat.reduceBNe, Int.reduceLT, Int.reduceLE, Int.reduceEq, Int.reduceNe, Int.reduceAdd, Int.reduceSub, Int.reduceNeg, Int.reduceToNat, Int.reduceMul, ↓reduceIte, Int.reduceGT, Int.reduceGE, f14, f15, f16, hd, hbh, hc, nb_one]
    simp only [ndI2, ndO, t25, NCode.a1, NCode.a2, NCode.bk, NCode.lp]
    simp (disch := first | omega | (simp only [fsLen]; omega)) only [↓fsPre, fsPost, fsCond, fsGen, fsDefs, cls, eqVal, vbGen, fill_bits, reduceCtorEq, Nat.reduceAdd, Nat.reduceMul, Nat.reduceSub, Nat.reduceLT, Nat.reduceLeDiff, Nat.reduceEqDiff, Nat.reduceBEq, Nat.reduceBNe, Int.reduceLT, Int.reduceLE, Int.reduceEq, Int.reduceNe, Int.reduceAdd, Int.reduceSub, Int.reduceNeg, Int.reduceToNat, Int.reduceMul, ↓reduceIte, Int.reduceGT, Int.reduceGE, f14, f15, f16, hd, hbh, hc, nb_one]
    have hd5 : ¬ inS v3 h.length := by
      rintro ⟨n, k, e⟩
      have := (I.g.ltb e).1; omega
    have hlenI := I.len
    have hbg : (begs bits x).length = m + 1 := by simp [begs, hm]
    refine wloop (fun n F' g => F' 0 = .ptr (some (q, 0)) ∧ F' 14 = .slice (some (b, 0)) L.length (.opn 4) ∧ F' 15 = .int .i64 L.length ∧ F' 16 = .int .i64 j ∧ F' 5 = .ptr (some (h.length, 0)) ∧ F' 6 = .int .i64 n ∧ NodI H g (((begs bits x).take n).foldl addB M) (F' 3) ∧ hget g h.length = some (.cells (pfC x) false) ∧ ¬ inS (F' 3) h.length) (m + 1) ?_ ?_ ?_
    · simp (disch := first | omega | (simp only [fsLen]; omega)) only [↓fsPre, fsPost, fsCond, fsGen, fsDefs, cls, eqVal, vbGen, fill_bits, reduceCtorEq, Nat.reduceAdd, Nat.reduceMul, Nat.reduceSub, Nat.reduceLT, Nat.reduceLeDiff, Nat.reduceEqDiff, Nat.reduceBEq, Nat.reduceBNe, Int.reduceLT, Int.reduceLE, Int.reduceEq, Int.reduceNe, Int.reduceAdd, Int.reduceSub, Int.reduceNeg, Int.reduceToNat, Int.reduceMul, ↓reduceIte, Int.reduceGT, Int.reduceGE, f0, f14, f15, f16, hv3, List.foldl_nil]
      exact ⟨I.app _, rfl, hd5⟩
    · rintro n F' g hn ⟨e0, e14, e15, e16, e5, e6, I', h5, hd5'⟩
      have h5' := h5
      simp only [pfC, hm] at h5'
      have l5 := hget_some_lt h5
      have hd3 : decide ((n : Int) ≤ (m : Int)) = true := by simp; omega
      simp only [ndIc, ndIn, ndO, t25, NCode.a1, NCode.a2, NCode.bk, NCode.lp]
      simp (disch := first | omega | (simp only [fsLen]; omega)) only [↓fsPre, fsPost, fsCond, fsGen, fsDefs, cls, eqVal, vbGen, fill_bits, reduceCtorEq, Nat.reduceAdd, Nat.reduceMul, Nat.reduceSub, Nat.reduceLT, Nat.reduceLeDiff, Nat.reduceEqDiff, Nat.reduceBEq, Nat.reduceBNe, Int.reduceLT, Int.reduceLE, Int.reduceEq, Int.reduceNe, Int.reduceAdd, Int.reduceSub, Int.reduceNeg, Int.reduceToNat, Int.reduceMul, ↓reduceIte, Int.reduceGT, Int.reduceGE, e5, e6, h5', hd3, nb_one, hm]
      refine fwp_cutJ _ (nod_body H q bits _ (((begs bits x).take n).foldl addB M) (F' 3) x h.length n _ g hb (by omega) (by have h1 := fold_len ((begs bits x).take n) M; rw [List.length_take, hbg] at h1; omega) hq I' (by simp (disch := first | omega | (simp only [fsLen]; omega)) only [↓fsPre, fsPost, fsCond, fsGen, fsDefs, cls, eqVal, vbGen, fill_bits, reduceCtorEq, Nat.reduceAdd, Nat.reduceMul, Nat.reduceSub, Nat.reduceLT, Nat.reduceLeDiff, Nat.reduceEqDiff, Nat.reduceBEq, Nat.reduceBNe, Int.reduceLT, Int.reduceLE, Int.reduceEq, Int.reduceNe, Int.reduceAdd, Int.reduceSub, Int.reduceNeg, Int.reduceToNat, Int.reduceMul, ↓reduceIte, Int.reduceGT, Int.reduceGE, e0]) (by simp (disch := first | omega | (simp only [fsLen]; omega)) only [↓fsPre, fsPost, fsCond, fsGen, fsDefs, cls, eqVal, vbGen, fill_bits, reduceCtorEq, Nat.reduceAdd, Nat.reduceMul, Nat.reduceSub, Nat.reduceLT, Nat.reduceLeDiff, Nat.reduceEqDiff, Nat.reduceBEq, Nat.reduceBNe, Int.reduceLT, Int.reduceLE, Int.reduceEq, Int.reduceNe, Int.reduceAdd, Int.reduceSub, Int.reduceNeg, Int.reduceToNat, Int.reduceMul, ↓reduceIte, Int.reduceGT, Int.reduceGE]) (by simp (disch := first | omega | (simp only [fsLen]; omega)) only [↓fsPre, fsPost, fsCond, fsGen, fsDefs, cls, eqVal, vbGen, fill_bits, reduceCtorEq, Nat.reduceAdd, Nat.reduceMul, Nat.reduceSub, Nat.reduceLT, Nat.reduceLeDiff, Nat.reduceEqDiff, Nat.reduceBEq, Nat.reduceBNe, Int.reduceLT, Int.reduceLE, Int.reduceEq, Int.reduceNe, Int.reduceAdd, Int.reduceSub, Int.reduceNeg, Int.reduceToNat, Int.reduceMul, ↓reduceIte, Int.reduceGT, Int.reduceGE, e5]) (by simp (disch := first | omega | (simp only [fsLen]; omega)) only [↓fsPre, fsPost, fsCond, fsGen, fsDefs, cls, eqVal, vbGen, fill_bits, reduceCtorEq, Nat.reduceAdd, Nat.reduceMul, Nat.reduceSub, Nat.reduceLT, Nat.reduceLeDiff, Nat.reduceEqDiff, Nat.reduceBEq, Nat.reduceBNe, Int.reduceLT, Int.reduceLE, Int.reduceEq, Int.reduceNe, Int.reduceAdd, Int.reduceSub, Int.reduceNeg, Int.reduceToNat, Int.reduceMul, ↓reduceIte, Int.reduceGT, Int.reduceGE, e6]) (by simp (disch := first | omega | (simp only [fsLen]; omega)) only [↓fsPre, fsPost, fsCond, fsGen, fsDefs, cls, eqVal, vbGen, fill_bits, reduceCtorEq, Nat.reduceAdd, Nat.reduceMul, Nat.reduceSub, Nat.reduceLT, Nat.reduceLeDiff, Nat.reduceEqDiff, Nat.reduceBEq, Nat.reduceBNe, Int.reduceLT, Int.reduceLE, Int.reduceEq, Int.reduceNe, Int.reduceAdd, Int.reduceSub, Int.reduceNeg, Int.reduceToNat, Int.reduceMul, ↓reduceIte, Int.reduceGT, Int.reduceGE, e14]) ⟨L.length, by simp (disch := first | omega | (simp only [fsLen]; omega)) only [↓fsPre, fsPost, fsCond, fsGen, fsDefs, cls, eqVal, vbGen, fill_bits, reduceCtorEq, Nat.reduceAdd, Nat.reduceMul, Nat.reduceSub, Nat.reduceLT, Nat.reduceLeDiff, Nat.reduceEqDiff, Nat.reduceBEq, Nat.reduceBNe, Int.reduceLT, Int.reduceLE, Int.reduceEq, Int.reduceNe, Int.reduceAdd, Int.reduceSub, Int.reduceNeg, Int.reduceToNat, Int.reduceMul, ↓reduceIte, Int.reduceGT, Int.reduceGE, e15]⟩ ⟨j, by simp (disch := first | omega | (simp only [fsLen]; omega)) only [↓fsPre, fsPost, fsCond, fsGen, fsDefs, cls, eqVal, vbGen, fill_bits, reduceCtorEq, Nat.reduceAdd, Nat.reduceMul, Nat.reduceSub, Nat.reduceLT, Nat.reduceLeDiff, Nat.reduceEqDiff, Nat.reduceBEq, Nat.reduceBNe, Int.reduceLT, Int.reduceLE, Int.reduceEq, Int.reduceNe, Int.reduceAdd, Int.reduceSub, Int.reduceNeg, Int.reduceToNat, Int.reduceMul, ↓reduceIte, Int.reduceGT, Int.reduceGE, e16]⟩ h5 hlenI hd5') ?_
      rintro F2 g2 ⟨v3', I2, k0, k3, k5, k6, k14, k15, k16, h52, hd52⟩
      have k0 : F2 0 = .ptr (some (q, 0)) := by rw [k0]; simp (disch := first | omega | (simp only [fsLen]; omega)) only [↓fsPre, fsPost, fsCond, fsGen, fsDefs, cls, eqVal, vbGen, fill_bits, reduceCtorEq, Nat.reduceAdd, Nat.reduceMul, Nat.reduceSub, Nat.reduceLT, Nat.reduceLeDiff, Nat.reduceEqDiff, Nat.reduceBEq, Nat.reduceBNe, Int.reduceLT, Int.reduceLE, Int.reduceEq, Int.reduceNe, Int.reduceAdd, Int.reduceSub, Int.reduceNeg, Int.reduceToNat, Int.reduceMul, ↓reduceIte, Int.reduceGT, Int.reduceGE, e0]
      have k5 : F2 5 = .ptr (some (h.length, 0)) := by rw [k5]; simp (disch := first | omega | (simp only [fsLen]; omega)) only [↓fsPre, fsPost, fsCond, fsGen, fsDefs, cls, eqVal, vbGen, fill_bits, reduceCtorEq, Nat.reduceAdd, Nat.reduceMul, Nat.reduceSub, Nat.reduceLT, Nat.reduceLeDiff, Nat.reduceEqDiff, Nat.reduceBEq, Nat.reduceBNe, Int.reduceLT, Int.reduceLE, Int.reduceEq, Int.reduceNe, Int.reduceAdd, Int.reduceSub, Int.reduceNeg, Int.reduceToNat, Int.reduceMul, ↓reduceIte, Int.reduceGT, Int.reduceGE, e5]
      have k6 : F2 6 = .int .i64 n := by rw [k6]; simp (disch := first | omega | (simp only [fsLen]; omega)) only [↓fsPre, fsPost, fsCond, fsGen, fsDefs, cls, eqVal, vbGen, fill_bits, reduceCtorEq, Nat.reduceAdd, Nat.reduceMul, Nat.reduceSub, Nat.reduceLT, Nat.reduceLeDiff, Nat.reduceEqDiff, Nat.reduceBEq, Nat.reduceBNe, Int.reduceLT, Int.reduceLE, Int.reduceEq, Int.reduceNe, Int.reduceAdd, Int.reduceSub, Int.reduceNeg, Int.reduceToNat, Int.reduceMul, ↓reduceIte, Int.reduceGT, Int.reduceGE, e6]
      have k14 : F2 14 = .slice (some (b, 0)) L.length (.opn 4) := by rw [k14]; simp (disch := first | omega | (simp only [fsLen]; omega)) only [↓fsPre, fsPost, fsCond, fsGen, fsDefs, cls, eqVal, vbGen, fill_bits, reduceCtorEq, Nat.reduceAdd, Nat.reduceMul, Nat.reduceSub, Nat.reduceLT, Nat.reduceLeDiff, Nat.reduceEqDiff, Nat.reduceBEq, Nat.reduceBNe, Int.reduceLT, Int.reduceLE, Int.reduceEq, Int.reduceNe, Int.reduceAdd, Int.reduceSub, Int.reduceNeg, Int.reduceToNat, Int.reduceMul, ↓reduceIte, Int.reduceGT, Int.reduceGE, e14]
      have k15 : F2 15 = .int .i64 L.length := by rw [k15]; simp (disch := first | omega | (simp only [fsLen]; omega)) only [↓fsPre, fsPost, fsCond, fsGen, fsDefs, cls, eqVal, vbGen, fill_bits, reduceCtorEq, Nat.reduceAdd, Nat.reduceMul, Nat.reduceSub, Nat.reduceLT, Nat.reduceLeDiff, Nat.reduceEqDiff, Nat.reduceBEq, Nat.reduceBNe, Int.reduceLT, Int.reduceLE, Int.reduceEq, Int.reduceNe, Int.reduceAdd, Int.reduceSub, Int.reduceNeg, Int.reduceToNat, Int.reduceMul, ↓reduceIte, Int.reduceGT, Int.reduceGE, e15]
      have k16 : F2 16 = .int .i64 j := by rw [k16]; simp (disch := first | omega | (simp only [fsLen]; omega)) only [↓fsPre, fsPost, fsCond, fsGen, fsDefs, cls, eqVal, vbGen, fill_bits, reduceCtorEq, Nat.reduceAdd, Nat.reduceMul, Nat.reduceSub, Nat.reduceLT, Nat.reduceLeDiff, Nat.reduceEqDiff, Nat.reduceBEq, Nat.reduceBNe, Int.reduceLT, Int.reduceLE, Int.reduceEq, Int.reduceNe, Int.reduceAdd, Int.reduceSub, Int.reduceNeg, Int.reduceToNat, Int.reduceMul, ↓reduceIte, Int.reduceGT, Int.reduceGE, e16]
      simp (disch := first | omega | (simp only [fsLen]; omega)) only [↓fsPre, fsPost, fsCond, fsGen, fsDefs, cls, eqVal, vbGen, fill_bits, reduceCtorEq, Nat.reduceAdd, Nat.reduceMul, Nat.reduceSub, Nat.reduceLT, Nat.reduceLeDiff, Nat.reduceEqDiff, Nat.reduceBEq, Nat.reduceBNe, Int.reduceLT, Int.reduceLE, Int.reduceEq, Int.reduceNe, Int.reduceAdd, Int.reduceSub, Int.reduceNeg, Int.reduceToNat, Int.reduceMul, ↓reduceIte, Int.reduceGT, Int.reduceGE]
      simp only [ndI3, ndIn, ndO, t25, NCode.a1, NCode.a2, NCode.bk, NCode.lp]
      simp (disch := first | omega | (simp only [fsLen]; omega)) only [↓fsPre, fsPost, fsCond, fsGen, fsDefs, cls, eqVal, vbGen, fill_bits, reduceCtorEq, Nat.reduceAdd, Nat.reduceMul, Nat.reduceSub, Nat.reduceLT, Nat.reduceLeDiff, Nat.reduceEqDiff, Nat.reduceBEq, Nat.reduceBNe, Int.reduceLT, Int.reduceLE, Int.reduceEq, Int.reduceNe, Int.reduceAdd, Int.reduceSub, Int.reduceNeg, Int.reduceToNat, Int.reduceMul, ↓reduceIte, Int.reduceGT, Int.reduceGE, k0, k5, k6, k14, k15, k16, k3]
      rw [begs_take (by rw [hm]; simpa using hn)]
      exact ⟨I2, h52, hd52⟩
    · rintro F' g ⟨e0, e14, e15, e16, e5, e6, I', h5, hd5'⟩
      have h5' := h5
      simp only [pfC, hm] at h5'
      have l5 := hget_some_lt h5
      have hd3 : decide (((m + 1 : Nat) : Int) ≤ (m : Int)) = false := by simp; omega
      have hall : (begs bits x).take (m + 1) = begs bits x := List.take_of_length_le (by simp [begs, hm])
      rw [hall] at I'
      simp only [ndIc, ndIn, ndO, t25, NCode.a1, NCode.a2, NCode.bk, NCode.lp]
      simp (disch := first | omega | (simp only [fsLen]; omega)) only [↓fsPre, fsPost, fsCond, fsGen, fsDefs, cls, eqVal, vbGen, fill_bits, reduceCtorEq, Nat.reduceAdd, Nat.reduceMul, Nat.reduceSub, Nat.reduceLT, Nat.reduceLeDiff, Nat.reduceEqDiff, Nat.reduceBEq, Nat.reduceBNe, Int.reduceLT, Int.reduceLE, Int.reduceEq, Int.reduceNe, Int.reduceAdd, Int.reduceSub, Int.reduceNeg, Int.reduceToNat, Int.reduceMul, ↓reduceIte, Int.reduceGT, Int.reduceGE, e5, e6, h5', hd3, nb_one, hm]
      simp only [ndO3, ndO, t25, NCode.a1, NCode.a2, NCode.bk, NCode.lp]
      simp (disch := first | omega | (simp only [fsLen]; omega)) only [↓fsPre, fsPost, fsCond, fsGen, fsDefs, cls, eqVal, vbGen, fill_bits, reduceCtorEq, Nat.reduceAdd, Nat.reduceMul, Nat.reduceSub, Nat.reduceLT, Nat.reduceLeDiff, Nat.reduceEqDiff, Nat.reduceBEq, Nat.reduceBNe, Int.reduceLT, Int.reduceLE, Int.reduceEq, Int.reduceNe, Int.reduceAdd, Int.reduceSub, Int.reduceNeg, Int.reduceToNat, Int.reduceMul, ↓reduceIte, Int.reduceGT, Int.reduceGE, e0, e14, e15, e16]
      refine ⟨I', ?_⟩
      have h1 := fold_len (begs bits x) M
      rw [hbg] at h1
      omega
  · rintro F h ⟨f0, f14, f15, f16, I, hl⟩
    rw [List.take_length] at I hl
    simp only [ndO1, ndO, t25, NCode.a1, NCode.a2, NCode.bk, NCode.lp]
    simp (disch := first | omega | (simp only [fsLen]; omega)) only [↓fsPre, fsPost, fsCond, fsGen, fsDefs, cls, eqVal, vbGen, fill_bits, reduceCtorEq, Nat.reduceAdd, Nat.reduceMul, Nat.reduceSub, Nat.reduceLT, Nat.reduceLeDiff, Nat.reduceEqDiff, Nat.reduceBEq, Nat.reduceBNe, Int.reduceLT, Int.reduceLE, Int.reduceEq, Int.reduceNe, Int.reduceAdd, Int.reduceSub, Int.reduceNeg, Int.reduceToNat, Int.reduceMul, ↓reduceIte, Int.reduceGT, Int.reduceGE, f14, f15, f16]
    simp only [ndO2, ndO, t25, NCode.a1, NCode.a2, NCode.bk, NCode.lp]
    simp (disch := first | omega | (simp only [fsLen]; omega)) only [↓fsPre, fsPost, fsCond, fsGen, fsDefs, cls, eqVal, vbGen, fill_bits, reduceCtorEq, Nat.reduceAdd, Nat.reduceMul, Nat.reduceSub, Nat.reduceLT, Nat.reduceLeDiff, Nat.reduceEqDiff, Nat.reduceBEq, Nat.reduceBNe, Int.reduceLT, Int.reduceLE, Int.reduceEq, Int.reduceNe, Int.reduceAdd, Int.reduceSub, Int.reduceNeg, Int.reduceToNat, Int.reduceMul, ↓reduceIte, Int.reduceGT, Int.reduceGE, f14, f15, f16]
    simp only [ndE, t25, NCode.a1, NCode.a2]
    obtain ⟨B3, c3, h3, _⟩ := grc_pfs I.g
    simp (disch := first | omega | (simp only [fsLen]; omega)) only [↓fsPre, fsPost, fsCond, fsGen, fsDefs, cls, eqVal, vbGen, fill_bits, reduceCtorEq, Nat.reduceAdd, Nat.reduceMul, Nat.reduceSub, Nat.reduceLT, Nat.reduceLeDiff, Nat.reduceEqDiff, Nat.reduceBEq, Nat.reduceBNe, Int.reduceLT, Int.reduceLE, Int.reduceEq, Int.reduceNe, Int.reduceAdd, Int.reduceSub, Int.reduceNeg, Int.reduceToNat, Int.reduceMul, ↓reduceIte, Int.reduceGT, Int.reduceGE, h3]
    exact heap_ext I.len I.keep
end Go.Proofs
