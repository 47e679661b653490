/- Tf, Tg, Th in one text. -/
import Derived.Test.YtiiopgancdgioaaVbE
import Derived.Test.YtiiopgancdgioaaTCTY
import Derived.Test.YtiiopgancdgioaaTCVX
import Derived.Test.YtiiopgancdgioaaTrY
import Derived.Test.YtiiopgancdgioaaFsG
set_option linter.unusedSimpArgs false
set_option linter.unusedVariables false
set_option maxRecDepth 100000
namespace Go.Proofs
open Go.Ns

theorem ofV_one : ofV 1 = 1#128 := by unfold ofV; rfl
set_option maxHeartbeats 1000000 in
theorem walk_ok {α : Type} (H : Heap) (q bits : Nat) (root : NV) (f c : Nat) (hgf : goodFn Try.prog f = true) (w : Bool → Nat) (St : Nat → α → Heap → Prop) (Ow : Heap → Nat → Prop) (step : α → Bool → Int → BitVec 128 → Nat → α) (hb : bits ≤ 128) (hq : hget H q = some (.cells [.int .i64 bits, root] false))
    (hm : ∀ k a h L, St k a h → St k a (h ++ L)) (hk : ∀ k a h, St k a h → ∀ b, b < H.length → hget h b = hget H b) (ho : ∀ k a h L b, St k a h → Ow (h ++ L) b → Ow h b) (hol : ∀ k a h b, St k a h → Ow h b → b < h.length)
    (cb : ∀ k a h b u i v d, d ≤ 200 → St (k + w u) a h → (∃ l r : NV, hget h b = some (.cells [l, r, .bool u, .int .i64 i] false)) → DCall Try.prog f [.ptr (some (b, 0)), vnv v, .int .i64 (d : Nat), .ptr (some (c, 0))] h fun r => r.1 = .tup [] ∧ St k (step a u i v d) r.2 ∧ Kp Ow h r.2) :
    ∀ (t : TT) (h : Heap) (k : Nat) (a : α) (v : BitVec 128) (d n : Nat), TAt H t → t.er.fit n → d + n = bits + 1 → St (k + t.er.cost w) a h →
      DCall Try.prog 51 [.ptr (some (q, 0)), t.ptr, vnv v, .int .i64 d, .func (.func f) [] [.ptr (some (c, 0))]] h fun r => r.1 = .tup [] ∧ St k (foldT bits step t.er v d a) r.2 ∧ Kp Ow h r.2
  | .nil, h, k, a, v, d, n, _, _, hd, hs => by
    refine call_det E0 rfl mixed t51_ok (by kernel_rfl) (by rintro q ⟨_, _, h⟩; exact h.1) ?_
    simp only [t51, vnv]
    simp (disch := first | omega | (simp only [fsLen]; omega)) only [↓fsPre, fsPost, fsCond, fsGen, fsDefs, cls, eqVal, vbGen, fill_bits, reduceCtorEq, Nat.reduceAdd, Nat.reduceMul, Nat.reduceSub, Nat.reduceLT, Nat.reduceLeDiff, Nat.reduceEqDiff, Nat.reduceBEq, Nat.reduceBNe, Int.reduceLT, Int.reduceLE, Int.reduceEq, Int.reduceNe, Int.reduceAdd, Int.reduceSub, Int.reduceNeg, Int.reduceToNat, Int.reduceMul, ↓reduceIte, Int.reduceGT, Int.reduceGE, ptr_nl, eqc_nn]
    exact ⟨hm _ _ _ _ hs, Kp.app fun b => ho _ _ _ _ b hs⟩
  | .node b u i l r, h, k, a, v, d, n, ht, hf, hd, hs => by
    refine call_det E0 rfl mixed t51_ok (by kernel_rfl) (by rintro q ⟨_, _, h⟩; exact h.1) ?_
    cases n with
    | zero => exact hf.elim
    | succ n =>
      have ihl := fun h k a v hs => walk_ok H q bits root f c hgf w St Ow step hb hq hm hk ho hol cb l h k a v (d + 1) n ht.2.1 hf.1 (by omega) hs
      have ihr := fun h k a v hs => walk_ok H q bits root f c hgf w St Ow step hb hq hm hk ho hol cb r h k a v (d + 1) n ht.2.2 hf.2 (by omega) hs
      have hcb := fun k a h => cb k a h b u i v d (by omega)
      have hof := fun H => of_ok H 1 (by omega)
      have hle := fun H n hn => left_ok H (ofV 1) n hn
      have hor := fun H x => or_ok H v x
      rw [ofV_one] at hof
      simp only [ofV_one] at hle
      simp only [t51, vnv, Int.natCast_add, Int.cast_ofNat_Int] at ihl ihr hcb hof hle hor ⊢
      have lb := hget_some_lt ht.1
      have lq := hget_some_lt hq
      have hb0 := (hk _ _ _ hs b lb).trans ht.1
      have hlb := hget_some_lt hb0
      simp only [TT.er, T.cost] at hs
      have kp0 : Kp Ow h (h ++ [some (.cells [nb (hiOf v), nb (loOf v)] false)]) := Kp.app fun b => ho _ _ _ _ b hs
      have nb0 : ¬ Ow (h ++ [some (.cells [nb (hiOf v), nb (loOf v)] false)]) h.length := fun e => by
        have := hol _ _ _ _ hs (ho _ _ _ _ _ hs e); omega
      have gb0 : hget (h ++ [some (.cells [nb (hiOf v), nb (loOf v)] false)]) h.length = some (.cells [nb (hiOf v), nb (loOf v)] false) := hget_append_new
      simp (disch := first | omega | (simp only [fsLen]; omega)) only [↓fsPre, fsPost, fsCond, fsGen, fsDefs, cls, eqVal, vbGen, fill_bits, reduceCtorEq, Nat.reduceAdd, Nat.reduceMul, Nat.reduceSub, Nat.reduceLT, Nat.reduceLeDiff, Nat.reduceEqDiff, Nat.reduceBEq, Nat.reduceBNe, Int.reduceLT, Int.reduceLE, Int.reduceEq, Int.reduceNe, Int.reduceAdd, Int.reduceSub, Int.reduceNeg, Int.reduceToNat, Int.reduceMul, ↓reduceIte, Int.reduceGT, Int.reduceGE, ptr_nl, ptr_nd, eqc_pn, hgf]
      refine callT_D (hcb (k + r.er.cost w + l.er.cost w) a _ (by rw [Nat.add_assoc, Nat.add_assoc, ← Nat.add_assoc (r.er.cost w)]; exact hm _ _ _ _ hs) ⟨l.ptr, r.ptr, by rw [hget_appl hlb]; exact hb0⟩) rfl ?_
      rintro x1 h1 ⟨e1, s1, kp1⟩
      cases e1
      have k1 := fun b hb => hk _ _ _ s1 b hb
      have hb1 := (k1 b lb).trans ht.1
      have hq1 := (k1 q lq).trans hq
      have lb1 := hget_some_lt hb1
      have lq1 := hget_some_lt hq1
      have gb1 := (kp1.2.1 h.length (by simp) nb0).trans gb0
      have nb1 := kp1.not (b := h.length) (by simp) nb0
      have lv1 := hget_some_lt gb1
      simp (disch := first | omega | (simp only [fsLen]; omega)) only [↓fsPre, fsPost, fsCond, fsGen, fsDefs, cls, eqVal, vbGen, fill_bits, reduceCtorEq, Nat.reduceAdd, Nat.reduceMul, Nat.reduceSub, Nat.reduceLT, Nat.reduceLeDiff, Nat.reduceEqDiff, Nat.reduceBEq, Nat.reduceBNe, Int.reduceLT, Int.reduceLE, Int.reduceEq, Int.reduceNe, Int.reduceAdd, Int.reduceSub, Int.reduceNeg, Int.reduceToNat, Int.reduceMul, ↓reduceIte, Int.reduceGT, Int.reduceGE, hb1, hq1, gb1, ptr_nd]
      refine callDT_D (ihl _ (k + r.er.cost w) _ v s1) rfl ?_
      rintro x2 h2 ⟨e2, s2, kp2⟩
      cases e2
      have k2 := fun b hb => hk _ _ _ s2 b hb
      have hb2 := (k2 b lb).trans ht.1
      have hq2 := (k2 q lq).trans hq
      have lb2 := hget_some_lt hb2
      have lq2 := hget_some_lt hq2
      have gb2 := (kp2.2.1 h.length lv1 nb1).trans gb1
      have nb2 := kp2.not lv1 nb1
      have lv2 := hget_some_lt gb2
      have le2 := kp2.1
      simp (disch := first | omega | (simp only [fsLen]; omega)) only [↓fsPre, fsPost, fsCond, fsGen, fsDefs, cls, eqVal, vbGen, fill_bits, reduceCtorEq, Nat.reduceAdd, Nat.reduceMul, Nat.reduceSub, Nat.reduceLT, Nat.reduceLeDiff, Nat.reduceEqDiff, Nat.reduceBEq, Nat.reduceBNe, Int.reduceLT, Int.reduceLE, Int.reduceEq, Int.reduceNe, Int.reduceAdd, Int.reduceSub, Int.reduceNeg, Int.reduceToNat, Int.reduceMul, ↓reduceIte, Int.reduceGT, Int.reduceGE, hb1, hq1, gb1, hb2, hq2, gb2, ptr_nd]
      refine ⟨le2, ?_⟩
      refine callDT_one (hof h2) rfl ?_
      simp (disch := first | omega | (simp only [fsLen]; omega)) only [↓fsPre, fsPost, fsCond, fsGen, fsDefs, cls, eqVal, vbGen, fill_bits, reduceCtorEq, Nat.reduceAdd, Nat.reduceMul, Nat.reduceSub, Nat.reduceLT, Nat.reduceLeDiff, Nat.reduceEqDiff, Nat.reduceBEq, Nat.reduceBNe, Int.reduceLT, Int.reduceLE, Int.reduceEq, Int.reduceNe, Int.reduceAdd, Int.reduceSub, Int.reduceNeg, Int.reduceToNat, Int.reduceMul, ↓reduceIte, Int.reduceGT, Int.reduceGE, hb1, hq1, gb1, hb2, hq2, gb2, ptr_nd]
      refine callDT_one (hle h2 ((bits : Int) - 1 - d) (by omega)) rfl ?_
      simp (disch := first | omega | (simp only [fsLen]; omega)) only [↓fsPre, fsPost, fsCond, fsGen, fsDefs, cls, eqVal, vbGen, fill_bits, reduceCtorEq, Nat.reduceAdd, Nat.reduceMul, Nat.reduceSub, Nat.reduceLT, Nat.reduceLeDiff, Nat.reduceEqDiff, Nat.reduceBEq, Nat.reduceBNe, Int.reduceLT, Int.reduceLE, Int.reduceEq, Int.reduceNe, Int.reduceAdd, Int.reduceSub, Int.reduceNeg, Int.reduceToNat, Int.reduceMul, ↓reduceIte, Int.reduceGT, Int.reduceGE, hb1, hq1, gb1, hb2, hq2, gb2, ptr_nd]
      refine callDT_one (hor h2 (1#128 <<< ((bits : Int) - 1 - d).toNat)) rfl ?_
      simp (disch := first | omega | (simp only [fsLen]; omega)) only [↓fsPre, fsPost, fsCond, fsGen, fsDefs, cls, eqVal, vbGen, fill_bits, reduceCtorEq, Nat.reduceAdd, Nat.reduceMul, Nat.reduceSub, Nat.reduceLT, Nat.reduceLeDiff, Nat.reduceEqDiff, Nat.reduceBEq, Nat.reduceBNe, Int.reduceLT, Int.reduceLE, Int.reduceEq, Int.reduceNe, Int.reduceAdd, Int.reduceSub, Int.reduceNeg, Int.reduceToNat, Int.reduceMul, ↓reduceIte, Int.reduceGT, Int.reduceGE, hb1, hq1, gb1, hb2, hq2, gb2, ptr_nd]
      refine callDT_D (ihr _ k _ (upV bits d v) s2) rfl ?_
      rintro x3 h3 ⟨e3, s3, kp3⟩
      cases e3
      have le3 := kp3.1
      simp (disch := first | omega | (simp only [fsLen]; omega)) only [↓fsPre, fsPost, fsCond, fsGen, fsDefs, cls, eqVal, vbGen, fill_bits, reduceCtorEq, Nat.reduceAdd, Nat.reduceMul, Nat.reduceSub, Nat.reduceLT, Nat.reduceLeDiff, Nat.reduceEqDiff, Nat.reduceBEq, Nat.reduceBNe, Int.reduceLT, Int.reduceLE, Int.reduceEq, Int.reduceNe, Int.reduceAdd, Int.reduceSub, Int.reduceNeg, Int.reduceToNat, Int.reduceMul, ↓reduceIte, Int.reduceGT, Int.reduceGE, hb1, hq1, gb1, hb2, hq2, gb2, ptr_nd]
      exact ⟨le3, s3, kp0.trans (kp1.trans (kp2.trans kp3))⟩

theorem nodes_cb (h : Heap) (b : NV) (v : BitVec 128) (d : NV) (c n : Nat) (hn : n ≤ 1000000) (hc : hget h c = some (.cells [.int .i64 n] false)) :
    NCall Try.prog 42 [b, vnv v, d, .ptr (some (c, 0))] h fun r => r = (.tup [], hset (h ++ [some (.cells [nb (hiOf v), nb (loOf v)] false)]) c (.cells [.int .i64 ((n : Int) + 1)] false)) := by
  refine call_of E0 mixed t42_ok (by kernel_rfl) (by rintro q rfl; simp) ?_
  have lc := hget_some_lt hc
  simp only [t42, vnv]
  simp (disch := first | omega | (simp only [fsLen]; omega)) only [↓fsPre, fsPost, fsCond, fsGen, fsDefs, cls, eqVal, vbGen, fill_bits, reduceCtorEq, Nat.reduceAdd, Nat.reduceMul, Nat.reduceSub, Nat.reduceLT, Nat.reduceLeDiff, Nat.reduceEqDiff, Nat.reduceBEq, Nat.reduceBNe, Int.reduceLT, Int.reduceLE, Int.reduceEq, Int.reduceNe, Int.reduceAdd, Int.reduceSub, Int.reduceNeg, Int.reduceToNat, Int.reduceMul, ↓reduceIte, Int.reduceGT, Int.reduceGE, hc]
/-- The walk of a count. -/
def StN (H : Heap) (k n : Nat) (h : Heap) : Prop := (∀ b, b < H.length → hget h b = hget H b) ∧ hget h H.length = some (.cells [.int .i64 n] false) ∧ n + k ≤ 100000
set_option maxHeartbeats 1000000 in
theorem tnodes_ok (H : Heap) (q bits : Nat) (t : TT) (hb : bits ≤ 128) (ht : TrieAt H q bits t) (hf : t.er.fit (bits + 1)) (hn : t.er.nodes ≤ 100000) :
    NCall Try.prog 24 [.ptr (some (q, 0))] H fun r => r = (.int .i64 (t.er.nodes : Nat), H) := by
  have lq := hget_some_lt ht.hd
  refine call_pure E0 mixed t24_ok (by kernel_rfl) trivial ?_
  simp only [t24]
  have key : DCall Try.prog 40 [.ptr (some (q, 0)), .func (.func 42) [] [.ptr (some (H.length, 0))]] (H ++ [some (.cells [.int .i64 0] false)]) fun r => r.1 = .tup [] ∧ StN H 0 t.er.nodes r.2 ∧ H.length + 1 ≤ r.2.length := by
    refine call_det E0 rfl mixed t40_ok (by kernel_rfl) (by rintro q ⟨_, _, h⟩; simpa using h) ?_
    simp only [t40]
    have hq := ht.hd
    simp (disch := first | omega | (simp only [fsLen]; omega)) only [↓fsPre, fsPost, fsCond, fsGen, fsDefs, cls, eqVal, vbGen, fill_bits, reduceCtorEq, Nat.reduceAdd, Nat.reduceMul, Nat.reduceSub, Nat.reduceLT, Nat.reduceLeDiff, Nat.reduceEqDiff, Nat.reduceBEq, Nat.reduceBNe, Int.reduceLT, Int.reduceLE, Int.reduceEq, Int.reduceNe, Int.reduceAdd, Int.reduceSub, Int.reduceNeg, Int.reduceToNat, Int.reduceMul, ↓reduceIte, Int.reduceGT, Int.reduceGE, eqc_pn, hq]
    rw [vnv_zero]
    have W := walk_ok H q bits t.ptr 42 H.length t42_ok.1 (fun _ => 1) (StN H) (fun _ b => b = H.length) (fun a _ _ _ _ => a + 1) hb hq
      (fun k a h L ⟨h1, h2, h3⟩ => ⟨fun b hb => by rw [hget_appl (by have := hget_some_lt h2; omega)]; exact h1 b hb, by rw [hget_appl (hget_some_lt h2)]; exact h2, h3⟩)
      (fun k a h s => s.1) (fun k a h L b _ e => e) (fun k a h b s e => by subst e; exact hget_some_lt s.2.1)
      (fun k a h b u i v d hd s hbb => by
        obtain ⟨s1, s2, s3⟩ := s
        have lc := hget_some_lt s2
        refine ⟨_, _, nodes_cb h _ v _ H.length a (by omega) s2, rfl, ⟨fun b hb => ?_, ?_, by omega⟩, ?_⟩
        · rw [hget_hset_ne (by omega), hget_appl (by omega)]; exact s1 b hb
        · rw [hget_hset_same (by simp; omega)]; rfl
        · refine ⟨by simp, fun b hb hne => ?_, fun b e => .inl e⟩
          rw [hget_hset_ne (Ne.symm hne), hget_appl hb])
    refine callT_D (W t _ 0 0 0#128 0 (bits + 1) ht.at_ hf (by omega) ⟨fun b hb => hget_appl hb, hget_append_new, by rw [T.cost_one]; omega⟩) rfl ?_
    rintro x h1 ⟨rfl, s1, k1⟩
    simp (disch := first | omega | (simp only [fsLen]; omega)) only [↓fsPre, fsPost, fsCond, fsGen, fsDefs, cls, eqVal, vbGen, fill_bits, reduceCtorEq, Nat.reduceAdd, Nat.reduceMul, Nat.reduceSub, Nat.reduceLT, Nat.reduceLeDiff, Nat.reduceEqDiff, Nat.reduceBEq, Nat.reduceBNe, Int.reduceLT, Int.reduceLE, Int.reduceEq, Int.reduceNe, Int.reduceAdd, Int.reduceSub, Int.reduceNeg, Int.reduceToNat, Int.reduceMul, ↓reduceIte, Int.reduceGT, Int.reduceGE]
    rw [foldT_count, Nat.zero_add] at s1
    exact ⟨s1, by have := k1.1; simpa using this⟩
  simp (disch := first | omega | (simp only [fsLen]; omega)) only [↓fsPre, fsPost, fsCond, fsGen, fsDefs, cls, eqVal, vbGen, fill_bits, reduceCtorEq, Nat.reduceAdd, Nat.reduceMul, Nat.reduceSub, Nat.reduceLT, Nat.reduceLeDiff, Nat.reduceEqDiff, Nat.reduceBEq, Nat.reduceBNe, Int.reduceLT, Int.reduceLE, Int.reduceEq, Int.reduceNe, Int.reduceAdd, Int.reduceSub, Int.reduceNeg, Int.reduceToNat, Int.reduceMul, ↓reduceIte, Int.reduceGT, Int.reduceGE]
  refine callT_D key rfl ?_
  rintro x h1 ⟨rfl, ⟨s1, s2, s3⟩, l1⟩
  simp (disch := first | omega | (simp only [fsLen]; omega)) only [↓fsPre, fsPost, fsCond, fsGen, fsDefs, cls, eqVal, vbGen, fill_bits, reduceCtorEq, Nat.reduceAdd, Nat.reduceMul, Nat.reduceSub, Nat.reduceLT, Nat.reduceLeDiff, Nat.reduceEqDiff, Nat.reduceBEq, Nat.reduceBNe, Int.reduceLT, Int.reduceLE, Int.reduceEq, Int.reduceNe, Int.reduceAdd, Int.reduceSub, Int.reduceNeg, Int.reduceToNat, Int.reduceMul, ↓reduceIte, Int.reduceGT, Int.reduceGE, s2]
  have l1 : H.length + 1 ≤ h1.length := l1
  exact heap_ext (by omega) s1

/-! ### All -/
def pfC (x : PfT) : List NV := [nb (hiOf x.1.1), nb (loOf x.1.1), .int .i64 x.1.2, .int .i64 x.2]
theorem pfC_length (x : PfT) : (pfC x).length = 4 := rfl
theorem pfs_length (L : List PfT) : (L.flatMap pfC).length = L.length * 4 := by
  induction L with
  | nil => rfl
  | cons a L ih => rw [List.flatMap_cons, List.length_append, ih, List.length_cons, pfC_length]; omega
set_option maxHeartbeats 1000000 in
theorem all_cb (h : Heap) (N b : Nat) (u : Bool) (i : Int) (v : BitVec 128) (d : Nat) (c : Nat) (l r : NV) (L : List PfT) (sl : NV) (hc : hget h c = some (.cells [sl] false)) (hb : hget h b = some (.cells [l, r, .bool u, .int .i64 i] false))
    (hg : GrC h N (L.flatMap pfC) 4 sl) (hL : L.length ≤ 200) (hN : N ≤ h.length) (hcN : c < N) :
    DCall Try.prog 41 [.ptr (some (b, 0)), vnv v, .int .i64 d, .ptr (some (c, 0))] h fun r => r.1 = .tup [] ∧ h.length ≤ r.2.length ∧ (∀ b, b < N → b ≠ c → hget r.2 b = hget h b) ∧ (∀ b, b < h.length → b ≠ c → (∀ n k, sl ≠ .slice (some (b, 0)) n k) → hget r.2 b = hget h b) ∧
      ∃ sl', hget r.2 c = some (.cells [sl'] false) ∧ GrC r.2 N ((stepA L u i v d).flatMap pfC) 4 sl' ∧ (∀ b n k, sl' = .slice (some (b, 0)) n k → sl = .slice (some (b, 0)) n k ∨ h.length ≤ b) := by
  refine call_det E0 rfl mixed t41_ok (by kernel_rfl) (by rintro q ⟨_, h, _⟩; exact h) ?_
  have lc := hget_some_lt hc
  have lb := hget_some_lt hb
  simp only [t41, vnv]
  cases u with
  | false =>
    simp (disch := first | omega | (simp only [fsLen]; omega)) only [↓fsPre, fsPost, fsCond, fsGen, fsDefs, cls, eqVal, vbGen, fill_bits, reduceCtorEq, Nat.reduceAdd, Nat.reduceMul, Nat.reduceSub, Nat.reduceLT, Nat.reduceLeDiff, Nat.reduceEqDiff, Nat.reduceBEq, Nat.reduceBNe, Int.reduceLT, Int.reduceLE, Int.reduceEq, Int.reduceNe, Int.reduceAdd, Int.reduceSub, Int.reduceNeg, Int.reduceToNat, Int.reduceMul, ↓reduceIte, Int.reduceGT, Int.reduceGE, hb]
    refine ⟨fun b hb _ => hget_appl (by omega), fun b hb _ _ => hget_appl hb, sl, ?_, ?_, fun b n k e => .inl e⟩
    · simp (disch := first | omega | (simp only [fsLen]; omega)) only [↓fsPre, fsPost, fsCond, fsGen, fsDefs, cls, eqVal, vbGen, fill_bits, reduceCtorEq, Nat.reduceAdd, Nat.reduceMul, Nat.reduceSub, Nat.reduceLT, Nat.reduceLeDiff, Nat.reduceEqDiff, Nat.reduceBEq, Nat.reduceBNe, Int.reduceLT, Int.reduceLE, Int.reduceEq, Int.reduceNe, Int.reduceAdd, Int.reduceSub, Int.reduceNeg, Int.reduceToNat, Int.reduceMul, ↓reduceIte, Int.reduceGT, Int.reduceGE, hc]
    · exact hg.ext Ext.app
  | true =>
    simp (disch := first | omega | (simp only [fsLen]; omega)) only [↓fsPre, fsPost, fsCond, fsGen, fsDefs, cls, eqVal, vbGen, fill_bits, reduceCtorEq, Nat.reduceAdd, Nat.reduceMul, Nat.reduceSub, Nat.reduceLT, Nat.reduceLeDiff, Nat.reduceEqDiff, Nat.reduceBEq, Nat.reduceBNe, Int.reduceLT, Int.reduceLE, Int.reduceEq, Int.reduceNe, Int.reduceAdd, Int.reduceSub, Int.reduceNeg, Int.reduceToNat, Int.reduceMul, ↓reduceIte, Int.reduceGT, Int.reduceGE, hb, hc]
    refine grc_app9 (N := N) (new := pfC ((v, (d : Int)), i)) (m := 1) (hg.ext Ext.app) (by simp; omega) (sliceCells_at (by simp (disch := first | omega | (simp only [fsLen]; omega)) only [↓fsPre, fsPost, fsCond, fsGen, fsDefs, cls, eqVal, vbGen, fill_bits, reduceCtorEq, Nat.reduceAdd, Nat.reduceMul, Nat.reduceSub, Nat.reduceLT, Nat.reduceLeDiff, Nat.reduceEqDiff, Nat.reduceBEq, Nat.reduceBNe, Int.reduceLT, Int.reduceLE, Int.reduceEq, Int.reduceNe, Int.reduceAdd, Int.reduceSub, Int.reduceNeg, Int.reduceToNat, Int.reduceMul, ↓reduceIte, Int.reduceGT, Int.reduceGE] <;> rfl) rfl) rfl (by omega) (by omega) rfl (by rw [pfs_length]; omega) (by omega) (by omega) ?_
    intro v1 h1 g1 len1 on1 o1 n1
    simp only [List.length_append, List.length_cons, List.length_nil] at len1 n1
    obtain ⟨q1, q2, q3⟩ : v1.one = true ∧ v1.flat = true ∧ v1.cells = [v1] := by rcases g1 with ⟨_, rfl⟩ | ⟨_, _, rfl, _⟩ <;> exact ⟨rfl, rfl, rfl⟩
    have hc1 : hget h1 c = some (.cells [sl] false) := by rw [on1 c hcN, hget_appl lc]; exact hc
    have lc1 := hget_some_lt hc1
    simp (disch := first | omega | (simp only [fsLen]; omega)) only [↓fsPre, fsPost, fsCond, fsGen, fsDefs, cls, eqVal, vbGen, fill_bits, reduceCtorEq, Nat.reduceAdd, Nat.reduceMul, Nat.reduceSub, Nat.reduceLT, Nat.reduceLeDiff, Nat.reduceEqDiff, Nat.reduceBEq, Nat.reduceBNe, Int.reduceLT, Int.reduceLE, Int.reduceEq, Int.reduceNe, Int.reduceAdd, Int.reduceSub, Int.reduceNeg, Int.reduceToNat, Int.reduceMul, ↓reduceIte, Int.reduceGT, Int.reduceGE, hb, hc, hc1, q1, q2, q3]
    refine ⟨by omega, by omega, by omega, fun b hb hne => ?_, fun b hb hne hn => ?_, v1, rfl, ?_, fun b n k e => ?_⟩
    · rw [hget_hset_ne (Ne.symm hne), on1 b hb, hget_appl (by omega)]
    · rw [hget_hset_ne (Ne.symm hne), o1 b (by simp; omega) hn, hget_appl hb]
    · have e : (stepA L true i v d).flatMap pfC = L.flatMap pfC ++ pfC ((v, (d : Int)), i) := by simp [stepA]
      rw [e]; exact g1.ext (Ext.set hcN)
    · right; have := n1 b n k e; omega

/-- The walk of All. -/
def StA (H : Heap) (k : Nat) (L : List PfT) (h : Heap) : Prop := (∀ b, b < H.length → hget h b = hget H b) ∧ L.length + k ≤ 200 ∧ ∃ sl, hget h H.length = some (.cells [sl] false) ∧ GrC h (H.length + 1) (L.flatMap pfC) 4 sl
def OwA (N : Nat) (h : Heap) (b : Nat) : Prop := b = N ∨ ∃ n k, hget h N = some (.cells [.slice (some (b, 0)) n k] false)
set_option maxHeartbeats 1000000 in
theorem tall_ok (H : Heap) (q bits : Nat) (t : TT) (hb : bits ≤ 128) (ht : TrieAt H q bits t) (hf : t.er.fit (bits + 1)) (hn : (t.er.items bits).length ≤ 200) :
    DCall Try.prog 23 [.ptr (some (q, 0))] H fun r => H.length ≤ r.2.length ∧ (∀ b, b < H.length → hget r.2 b = hget H b) ∧ GrC r.2 H.length ((t.er.items bits).flatMap pfC) 4 r.1 := by
  have lq := hget_some_lt ht.hd
  refine call_det E0 rfl mixed t23_ok (by kernel_rfl) (by rintro q ⟨h, _⟩; exact h) ?_
  simp only [t23]
  have key : DCall Try.prog 40 [.ptr (some (q, 0)), .func (.func 41) [] [.ptr (some (H.length, 0))]] (H ++ [some (.cells [.slice none 0 (.fix 0)] false)]) fun r => r.1 = .tup [] ∧ StA H 0 (t.er.items bits) r.2 ∧ H.length + 1 ≤ r.2.length := by
    refine call_det E0 rfl mixed t40_ok (by kernel_rfl) (by rintro q ⟨_, _, h⟩; simpa using h) ?_
    simp only [t40]
    have hq := ht.hd
    simp (disch := first | omega | (simp only [fsLen]; omega)) only [↓fsPre, fsPost, fsCond, fsGen, fsDefs, cls, eqVal, vbGen, fill_bits, reduceCtorEq, Nat.reduceAdd, Nat.reduceMul, Nat.reduceSub, Nat.reduceLT, Nat.reduceLeDiff, Nat.reduceEqDiff, Nat.reduceBEq, Nat.reduceBNe, Int.reduceLT, Int.reduceLE, Int.reduceEq, Int.reduceNe, Int.reduceAdd, Int.reduceSub, Int.reduceNeg, Int.reduceToNat, Int.reduceMul, ↓reduceIte, Int.reduceGT, Int.reduceGE, eqc_pn, hq]
    rw [vnv_zero]
    have W := walk_ok H q bits t.ptr 41 H.length t41_ok.1 (fun u => if u then 1 else 0) (StA H) (OwA H.length) stepA hb hq
      (fun k a h L ⟨h1, h2, sl, h3, h4⟩ => ⟨fun b hb => by rw [hget_appl (by have := hget_some_lt h3; omega)]; exact h1 b hb, h2, sl, by rw [hget_appl (hget_some_lt h3)]; exact h3, h4.ext Ext.app⟩)
      (fun k a h s => s.1)
      (fun k a h L b ⟨_, _, sl, h3, _⟩ e => by
        rcases e with e | ⟨n, k, e⟩
        · exact .inl e
        · rw [hget_appl (hget_some_lt h3)] at e; exact .inr ⟨n, k, e⟩)
      (fun k a h b ⟨_, _, sl, h3, h4⟩ e => by
        rcases e with rfl | ⟨n, k, e⟩
        · exact hget_some_lt h3
        · rw [h3] at e
          simp only [Option.some.injEq, NBlk.cells.injEq, List.cons.injEq, and_true] at e
          exact (h4.ltb e).1)
      (fun k a h b u i v d hd s hbb => by
        obtain ⟨s1, s2, sl, s3, s4⟩ := s
        obtain ⟨l, r, hbb⟩ := hbb
        have lc := hget_some_lt s3
        obtain ⟨v0, g0, c0, e0, e1, e2, e3, sl', e4, e5, e6⟩ := all_cb h (H.length + 1) b u i v d H.length l r a sl s3 hbb s4 (by omega) (by omega) (by omega)
        refine ⟨v0, g0, c0, e0, ⟨fun b hb => ?_, ?_, sl', e4, e5⟩, e1, fun b hb hne => ?_, fun b e => ?_⟩
        · exact (e2 b (by omega) (by omega)).trans (s1 b hb)
        · unfold stepA; cases u <;> simp at s2 ⊢ <;> omega
        · refine e3 b hb (fun e => hne (.inl e)) fun n k e => hne (.inr ⟨n, k, by rw [s3, e]⟩)
        · rcases e with e | ⟨n, k, e⟩
          · exact .inl (.inl e)
          · rw [e4] at e
            simp only [Option.some.injEq, NBlk.cells.injEq, List.cons.injEq, and_true] at e
            rcases e6 b n k e with h | h
            · exact .inl (.inr ⟨n, k, by rw [s3, h]⟩)
            · exact .inr h)
    refine callT_D (W t _ 0 [] 0#128 0 (bits + 1) ht.at_ hf (by omega) ⟨fun b hb => hget_appl hb, by rw [T.cost_items bits _ 0#128 0]; simpa [T.items] using hn, _, hget_append_new, .inl ⟨rfl, rfl⟩⟩) rfl ?_
    rintro x h1 ⟨rfl, s1, k1⟩
    simp (disch := first | omega | (simp only [fsLen]; omega)) only [↓fsPre, fsPost, fsCond, fsGen, fsDefs, cls, eqVal, vbGen, fill_bits, reduceCtorEq, Nat.reduceAdd, Nat.reduceMul, Nat.reduceSub, Nat.reduceLT, Nat.reduceLeDiff, Nat.reduceEqDiff, Nat.reduceBEq, Nat.reduceBNe, Int.reduceLT, Int.reduceLE, Int.reduceEq, Int.reduceNe, Int.reduceAdd, Int.reduceSub, Int.reduceNeg, Int.reduceToNat, Int.reduceMul, ↓reduceIte, Int.reduceGT, Int.reduceGE]
    rw [foldT_items] at s1
    exact ⟨s1, by have := k1.1; simpa using this⟩
  simp (disch := first | omega | (simp only [fsLen]; omega)) only [↓fsPre, fsPost, fsCond, fsGen, fsDefs, cls, eqVal, vbGen, fill_bits, reduceCtorEq, Nat.reduceAdd, Nat.reduceMul, Nat.reduceSub, Nat.reduceLT, Nat.reduceLeDiff, Nat.reduceEqDiff, Nat.reduceBEq, Nat.reduceBNe, Int.reduceLT, Int.reduceLE, Int.reduceEq, Int.reduceNe, Int.reduceAdd, Int.reduceSub, Int.reduceNeg, Int.reduceToNat, Int.reduceMul, ↓reduceIte, Int.reduceGT, Int.reduceGE]
  refine callT_D key rfl ?_
  rintro x h1 ⟨rfl, ⟨s1, s2, sl, s3, s4⟩, l1⟩
  have l1 : H.length + 1 ≤ h1.length := l1
  simp (disch := first | omega | (simp only [fsLen]; omega)) only [↓fsPre, fsPost, fsCond, fsGen, fsDefs, cls, eqVal, vbGen, fill_bits, reduceCtorEq, Nat.reduceAdd, Nat.reduceMul, Nat.reduceSub, Nat.reduceLT, Nat.reduceLeDiff, Nat.reduceEqDiff, Nat.reduceBEq, Nat.reduceBNe, Int.reduceLT, Int.reduceLE, Int.reduceEq, Int.reduceNe, Int.reduceAdd, Int.reduceSub, Int.reduceNeg, Int.reduceToNat, Int.reduceMul, ↓reduceIte, Int.reduceGT, Int.reduceGE, s3]
  refine ⟨by omega, s1, ?_⟩
  rcases s4 with h | ⟨b, k, h1, h2, h3, h4⟩
  · exact .inl h
  · exact .inr ⟨b, k, h1, by omega, h3, h4⟩
theorem tall_nil (H : Heap) : NCall Try.prog 23 [.ptr none] H fun r => r = (.slice none 0 (.fix 0), H) := by
  refine call_pure E0 mixed t23_ok (by kernel_rfl) trivial ?_
  simp only [t23]
  have key : ∀ (f : NV) (G : Heap), NCall Try.prog 40 [.ptr none, f] G fun r => r = (.tup [], G) := by
    intro f G
    refine call_of E0 mixed t40_ok (by kernel_rfl) (by rintro q rfl; simp) ?_
    simp only [t40]
    simp (disch := first | omega | (simp only [fsLen]; omega)) only [↓fsPre, fsPost, fsCond, fsGen, fsDefs, cls, eqVal, vbGen, fill_bits, reduceCtorEq, Nat.reduceAdd, Nat.reduceMul, Nat.reduceSub, Nat.reduceLT, Nat.reduceLeDiff, Nat.reduceEqDiff, Nat.reduceBEq, Nat.reduceBNe, Int.reduceLT, Int.reduceLE, Int.reduceEq, Int.reduceNe, Int.reduceAdd, Int.reduceSub, Int.reduceNeg, Int.reduceToNat, Int.reduceMul, ↓reduceIte, Int.reduceGT, Int.reduceGE, eqc_nn]
  simp (disch := first | omega | (simp only [fsLen]; omega)) only [↓fsPre, fsPost, fsCond, fsGen, fsDefs, cls, eqVal, vbGen, fill_bits, reduceCtorEq, Nat.reduceAdd, Nat.reduceMul, Nat.reduceSub, Nat.reduceLT, Nat.reduceLeDiff, Nat.reduceEqDiff, Nat.reduceBEq, Nat.reduceBNe, Int.reduceLT, Int.reduceLE, Int.reduceEq, Int.reduceNe, Int.reduceAdd, Int.reduceSub, Int.reduceNeg, Int.reduceToNat, Int.reduceMul, ↓reduceIte, Int.reduceGT, Int.reduceGE]
  refine callT_one (key _ _) rfl ?_
  simp (disch := first | omega | (simp only [fsLen]; omega)) only [↓fsPre, fsPost, fsCond, fsGen, fsDefs, cls, eqVal, vbGen, fill_bits, reduceCtorEq, Nat.reduceAdd, Nat.reduceMul, Nat.reduceSub, Nat.reduceLT, Nat.reduceLeDiff, Nat.reduceEqDiff, Nat.reduceBEq, Nat.reduceBNe, Int.reduceLT, Int.reduceLE, Int.reduceEq, Int.reduceNe, Int.reduceAdd, Int.reduceSub, Int.reduceNeg, Int.reduceToNat, Int.reduceMul, ↓reduceIte, Int.reduceGT, Int.reduceGE]
  exact ⟨_, rfl⟩
theorem tlen_nil (H : Heap) : NCall Try.prog 21 [.ptr none] H fun r => r = (.int .i64 0, H) := by
  refine call_pure E0 mixed t21_ok (by kernel_rfl) trivial ?_
  simp only [t21]
  simp (disch := first | omega | (simp only [fsLen]; omega)) only [↓fsPre, fsPost, fsCond, fsGen, fsDefs, cls, eqVal, vbGen, fill_bits, reduceCtorEq, Nat.reduceAdd, Nat.reduceMul, Nat.reduceSub, Nat.reduceLT, Nat.reduceLeDiff, Nat.reduceEqDiff, Nat.reduceBEq, Nat.reduceBNe, Int.reduceLT, Int.reduceLE, Int.reduceEq, Int.reduceNe, Int.reduceAdd, Int.reduceSub, Int.reduceNeg, Int.reduceToNat, Int.reduceMul, ↓reduceIte, Int.reduceGT, Int.reduceGE]
  refine callT_one (tall_nil _) rfl ?_
  simp (disch := first | omega | (simp only [fsLen]; omega)) only [↓fsPre, fsPost, fsCond, fsGen, fsDefs, cls, eqVal, vbGen, fill_bits, reduceCtorEq, Nat.reduceAdd, Nat.reduceMul, Nat.reduceSub, Nat.reduceLT, Nat.reduceLeDiff, Nat.reduceEqDiff, Nat.reduceBEq, Nat.reduceBNe, Int.reduceLT, Int.reduceLE, Int.reduceEq, Int.reduceNe, Int.reduceAdd, Int.reduceSub, Int.reduceNeg, Int.reduceToNat, Int.reduceMul, ↓reduceIte, Int.reduceGT, Int.reduceGE]
  exact ⟨[], by simp⟩
theorem tlen_ok (H : Heap) (q bits : Nat) (t : TT) (hb : bits ≤ 128) (ht : TrieAt H q bits t) (hf : t.er.fit (bits + 1)) (hn : (t.er.items bits).length ≤ 200) :
    NCall Try.prog 21 [.ptr (some (q, 0))] H fun r => r = (.int .i64 ((t.er.items bits).length : Nat), H) := by
  refine call_pure E0 mixed t21_ok (by kernel_rfl) trivial ?_
  simp only [t21]
  simp (disch := first | omega | (simp only [fsLen]; omega)) only [↓fsPre, fsPost, fsCond, fsGen, fsDefs, cls, eqVal, vbGen, fill_bits, reduceCtorEq, Nat.reduceAdd, Nat.reduceMul, Nat.reduceSub, Nat.reduceLT, Nat.reduceLeDiff, Nat.reduceEqDiff, Nat.reduceBEq, Nat.reduceBNe, Int.reduceLT, Int.reduceLE, Int.reduceEq, Int.reduceNe, Int.reduceAdd, Int.reduceSub, Int.reduceNeg, Int.reduceToNat, Int.reduceMul, ↓reduceIte, Int.reduceGT, Int.reduceGE]
  refine callT_D (tall_ok H q bits t hb ht hf hn) rfl ?_
  rintro x h1 ⟨l1, k1, g⟩
  have l1 : H.length ≤ h1.length := l1
  rcases g with ⟨e1, e2⟩ | ⟨b, k, e2, _, _, e1, _⟩
  · have e2 : x = .slice none 0 (.fix 0) := e2
    subst e2
    have : (t.er.items bits).length = 0 := by
      have := congrArg List.length e1
      rw [pfs_length] at this
      simp only [List.length_nil] at this
      omega
    simp (disch := first | omega | (simp only [fsLen]; omega)) only [↓fsPre, fsPost, fsCond, fsGen, fsDefs, cls, eqVal, vbGen, fill_bits, reduceCtorEq, Nat.reduceAdd, Nat.reduceMul, Nat.reduceSub, Nat.reduceLT, Nat.reduceLeDiff, Nat.reduceEqDiff, Nat.reduceBEq, Nat.reduceBNe, Int.reduceLT, Int.reduceLE, Int.reduceEq, Int.reduceNe, Int.reduceAdd, Int.reduceSub, Int.reduceNeg, Int.reduceToNat, Int.reduceMul, ↓reduceIte, Int.reduceGT, Int.reduceGE]
    rw [this]
    exact ⟨rfl, heap_ext l1 k1⟩
  · have e2 : x = .slice (some (b, 0)) k (.opn 4) := e2
    subst e2
    rw [pfs_length] at e1
    have : (t.er.items bits).length = k := by omega
    simp (disch := first | omega | (simp only [fsLen]; omega)) only [↓fsPre, fsPost, fsCond, fsGen, fsDefs, cls, eqVal, vbGen, fill_bits, reduceCtorEq, Nat.reduceAdd, Nat.reduceMul, Nat.reduceSub, Nat.reduceLT, Nat.reduceLeDiff, Nat.reduceEqDiff, Nat.reduceBEq, Nat.reduceBNe, Int.reduceLT, Int.reduceLE, Int.reduceEq, Int.reduceNe, Int.reduceAdd, Int.reduceSub, Int.reduceNeg, Int.reduceToNat, Int.reduceMul, ↓reduceIte, Int.reduceGT, Int.reduceGE]
    rw [this]
    exact ⟨rfl, heap_ext l1 k1⟩

theorem leadV_get {bits n i : Nat} (hb : bits ≤ 128) (hn : n ≤ bits) (h : i < 128) : (leadV (bits : Int) (n : Int)).getLsbD i = decide (bits - n ≤ i ∧ i < bits) := by
  unfold leadV
  rw [ofB_get]
  have hc : clampN (bits : Int) = bits := by unfold clampN; omega
  rw [hc, show (max 0 (min (n : Int) (bits : Int))).toNat = n by omega]
  simp [h]
theorem pathB_at {bits n j : Nat} {v : BitVec 128} (h : j < n) : (pathB bits n v)[j]? = some (bitAt bits v j) := by
  unfold pathB; rw [List.getElem?_map, List.getElem?_range h]; rfl
/-- A prefix is the value of its path. -/
theorem okP_val {bits : Nat} {v : BitVec 128} {n : Nat} (hb : bits ≤ 128) (h : okP bits v n = true) : n ≤ bits ∧ v = valP bits (pathB bits n v) := by
  unfold okP at h
  simp only [Bool.and_eq_true, decide_eq_true_eq, beq_iff_eq] at h
  obtain ⟨_, h1, h2⟩ := h
  have hn : n ≤ bits := by omega
  refine ⟨hn, ?_⟩
  apply BitVec.eq_of_getLsbD_eq
  intro i hi
  have h3 := congrArg (fun x => x.getLsbD i) h2
  simp only [BitVec.getLsbD_and] at h3
  rw [leadV_get hb hn hi] at h3
  rw [valP_get hi]
  by_cases hib : i < bits
  · by_cases hin : bits - n ≤ i
    · rw [pathB_at (by omega)]
      simp only [hib, decide_true, Bool.true_and, Option.getD_some, bitAt]
      congr 1; omega
    · rw [List.getElem?_eq_none (by rw [pathB_length]; omega)]
      rw [← h3]; simp [hin]
  · rw [← h3]; simp [hib]
theorem valP_okP {bits : Nat} (hb : bits ≤ 128) {p : List Bool} (hp : p.length ≤ bits) : okP bits (valP bits p) (p.length : Nat) = true ∧ pathB bits p.length (valP bits p) = p := by
  constructor
  · unfold okP
    simp only [Bool.and_eq_true, decide_eq_true_eq, beq_iff_eq]
    refine ⟨by omega, by omega, ?_⟩
    apply BitVec.eq_of_getLsbD_eq
    intro i hi
    rw [BitVec.getLsbD_and, leadV_get hb hp hi, valP_get hi]
    by_cases hib : i < bits
    · by_cases hin : bits - p.length ≤ i
      · simp [hib, hin]
      · rw [List.getElem?_eq_none (by omega)]; simp
    · simp [hib]
  · apply List.ext_getElem?
    intro j
    by_cases hj : j < p.length
    · rw [pathB_at hj]
      unfold bitAt
      rw [valP_get (by omega), show bits - 1 - (bits - 1 - j) = j by omega, List.getElem?_eq_getElem hj]
      simp; omega
    · rw [List.getElem?_eq_none (by rw [pathB_length]; omega), List.getElem?_eq_none (by omega)]
theorem getP_items {bits : Nat} (hb : bits ≤ 128) {t : T} (h : t.fit (bits + 1)) (v : BitVec 128) (n i : Int) : getP bits t v n = some i ↔ ((v, n), i) ∈ t.items bits := by
  constructor
  · intro hg
    unfold getP at hg
    split at hg
    · rename_i ho
      obtain ⟨m, rfl, hm⟩ := okP_nat ho
      rw [Int.toNat_natCast] at hg
      have h1 := (T.key_mem hb h (p := pathB bits m v) (by rw [pathB_length]; exact hm)).2 hg
      rw [← (okP_val hb ho).2, pathB_length] at h1
      exact h1
    · cases hg
  · intro hm
    obtain ⟨p, j, h1, h2⟩ := (T.mem_items hb h _).1 hm
    simp only [Prod.mk.injEq] at h2
    obtain ⟨⟨rfl, rfl⟩, rfl⟩ := h2
    have hl := T.get_fit p h h1
    obtain ⟨h3, h4⟩ := valP_okP hb (p := p) (by omega)
    unfold getP
    rw [if_pos h3, Int.toNat_natCast, h4]; exact h1

/-- What Put and Remove come to. -/
def putO (bits : Nat) (t : T) (v : BitVec 128) (n i : Int) : T := if okP bits v n = true ∧ getP bits t v n = none then t.put (pathB bits n.toNat v) i else t
def remO (bits : Nat) (t : T) (v : BitVec 128) (n : Int) : T := if (getP bits t v n).isSome = true then t.rem (pathB bits n.toNat v) else t
theorem PutQ.refl {H : Heap} {q bits : Nat} {t : TT} (ht : TrieAt H q bits t) : PutQ H q bits t t.er H t := ⟨ht, rfl, fun _ _ _ _ => rfl, fun _ h => .inl h, Nat.le_refl _⟩
theorem tput_any (H : Heap) (q bits : Nat) (t : TT) (v : BitVec 128) (n i : Int) (hb : bits ≤ 128) (ht : TrieAt H q bits t) :
    DCall Try.prog 10 [.ptr (some (q, 0)), vnv v, .int .i64 n, .int .i64 i] H fun r => r.1 = .bool (okP bits v n && (getP bits t.er v n).isNone) ∧ ∃ t', PutQ H q bits t (putO bits t.er v n i) r.2 t' := by
  unfold putO
  by_cases h : okP bits v n = true ∧ getP bits t.er v n = none
  · obtain ⟨x, g, c, h1, h2⟩ := tput_new H q bits t v n i hb ht h.1 h.2
    rw [if_pos h]
    exact ⟨x, g, c, by rw [h1, h.1, h.2]; rfl, h2⟩
  · rw [if_neg h]
    have hn : okP bits v n = false ∨ (getP bits t.er v n).isSome = true := by
      by_cases ho : okP bits v n = true
      · right
        cases hg : getP bits t.er v n with
        | none => exact absurd ⟨ho, hg⟩ h
        | some _ => rfl
      · left; simpa using ho
    refine ⟨_, _, tput_not H q bits t v n i hb ht hn, ?_, t, PutQ.refl ht⟩
    rcases hn with hn | hn
    · rw [hn]; rfl
    · cases hg : getP bits t.er v n with
      | none => rw [hg] at hn; cases hn
      | some _ => simp
theorem trem_any (H : Heap) (q bits : Nat) (t : TT) (v : BitVec 128) (n : Int) (hb : bits ≤ 128) (ht : TrieAt H q bits t) :
    DCall Try.prog 17 [.ptr (some (q, 0)), vnv v, .int .i64 n] H fun r => r.1 = .bool (getP bits t.er v n).isSome ∧ ∃ t', PutQ H q bits t (remO bits t.er v n) r.2 t' := by
  unfold remO
  by_cases h : (getP bits t.er v n).isSome = true
  · obtain ⟨x, g, c, h1, h2⟩ := trem_ok H q bits t v n hb ht h
    rw [if_pos h]
    exact ⟨x, g, c, by rw [h1, h], h2⟩
  · rw [if_neg h]
    have hn : getP bits t.er v n = none := by simpa using h
    exact ⟨_, _, trem_not H q bits t v n hb ht hn, by rw [hn]; rfl, t, PutQ.refl ht⟩
theorem tput_nil (H : Heap) (v : BitVec 128) (n i : Int) : NCall Try.prog 10 [.ptr none, vnv v, .int .i64 n, .int .i64 i] H fun r => r = (.bool false, H) := by
  refine call_pure E0 mixed t10_ok (by kernel_rfl) trivial ?_
  have hp := fun H n => tprefix_nil H v n
  simp only [t10, vnv] at hp ⊢
  simp (disch := first | omega | (simp only [fsLen]; omega)) only [↓fsPre, fsPost, fsCond, fsGen, fsDefs, cls, eqVal, vbGen, fill_bits, reduceCtorEq, Nat.reduceAdd, Nat.reduceMul, Nat.reduceSub, Nat.reduceLT, Nat.reduceLeDiff, Nat.reduceEqDiff, Nat.reduceBEq, Nat.reduceBNe, Int.reduceLT, Int.reduceLE, Int.reduceEq, Int.reduceNe, Int.reduceAdd, Int.reduceSub, Int.reduceNeg, Int.reduceToNat, Int.reduceMul, ↓reduceIte, Int.reduceGT, Int.reduceGE]
  refine callT_one (hp _ n) rfl ?_
  simp (disch := first | omega | (simp only [fsLen]; omega)) only [↓fsPre, fsPost, fsCond, fsGen, fsDefs, cls, eqVal, vbGen, fill_bits, reduceCtorEq, Nat.reduceAdd, Nat.reduceMul, Nat.reduceSub, Nat.reduceLT, Nat.reduceLeDiff, Nat.reduceEqDiff, Nat.reduceBEq, Nat.reduceBNe, Int.reduceLT, Int.reduceLE, Int.reduceEq, Int.reduceNe, Int.reduceAdd, Int.reduceSub, Int.reduceNeg, Int.reduceToNat, Int.reduceMul, ↓reduceIte, Int.reduceGT, Int.reduceGE]
  exact ⟨_, rfl⟩
theorem putO_ok {bits : Nat} {t : T} (h : t.ok bits) (v : BitVec 128) (n i : Int) : (putO bits t v n i).ok bits := by
  unfold putO
  split
  · rename_i hh
    obtain ⟨m, rfl, hm⟩ := okP_nat hh.1
    exact h.put i (by rw [pathB_length]; simpa using hm)
  · exact h
theorem remO_ok {bits : Nat} {t : T} (h : t.ok bits) (v : BitVec 128) (n : Int) : (remO bits t v n).ok bits := by
  unfold remO
  split
  · exact h.rem _
  · exact h
theorem putO_nodes {bits : Nat} {t : T} (hb : bits ≤ 128) (v : BitVec 128) (n i : Int) : (putO bits t v n i).nodes ≤ t.nodes + 129 := by
  unfold putO
  split
  · rename_i hh
    obtain ⟨m, rfl, hm⟩ := okP_nat hh.1
    have := T.nodes_put (pathB bits m v) t i
    rw [pathB_length] at this
    rw [Int.toNat_natCast]; omega
  · omega
theorem remO_nodes {bits : Nat} {t : T} (v : BitVec 128) (n : Int) : (remO bits t v n).nodes ≤ t.nodes := by
  unfold remO
  split
  · exact T.nodes_rem _ _
  · exact Nat.le_refl _
theorem putO_items {bits : Nat} {t : T} (hb : bits ≤ 128) (h : t.ok bits) (v : BitVec 128) (n i : Int) : ((putO bits t v n i).items bits).length ≤ (t.items bits).length + 1 := by
  unfold putO
  split
  · rename_i hh
    obtain ⟨m, rfl, hm⟩ := okP_nat hh.1
    have hg := hh.2
    unfold getP at hg
    rw [if_pos hh.1] at hg
    rw [T.items_put_len hb h.fit (by rw [pathB_length]; simpa using hm) hg]
    exact Nat.le_refl _
  · omega
theorem getP_put {bits : Nat} {t : T} (hb : bits ≤ 128) (v w : BitVec 128) (n m i : Int) : getP bits (putO bits t v n i) w m = if okP bits v n = true ∧ getP bits t v n = none ∧ w = v ∧ m = n then some i else getP bits t w m := by
  unfold putO
  by_cases h : okP bits v n = true ∧ getP bits t v n = none
  · rw [if_pos h]
    by_cases hw : okP bits w m = true
    · obtain ⟨a, rfl, ha⟩ := okP_nat h.1
      obtain ⟨b, rfl, hb'⟩ := okP_nat hw
      unfold getP
      rw [if_pos hw, if_pos hw, Int.toNat_natCast, Int.toNat_natCast, T.get_put]
      have h2 := h.2
      unfold getP at h2
      simp only [h.1, if_true, Int.toNat_natCast] at h2
      have e : pathB bits b w = pathB bits a v ↔ w = v ∧ (b : Int) = (a : Int) := by
        constructor
        · intro e
          have hl := congrArg List.length e
          rw [pathB_length, pathB_length] at hl
          subst hl
          exact ⟨by rw [(okP_val hb hw).2, (okP_val hb h.1).2, e], rfl⟩
        · rintro ⟨rfl, e⟩
          have : b = a := by omega
          rw [this]
      by_cases hc : pathB bits b w = pathB bits a v
      · rw [if_pos hc, if_pos ⟨h.1, by simp only [h.1, if_true, Int.toNat_natCast]; exact h2, e.1 hc⟩]
      · rw [if_neg hc, if_neg (fun x => hc (e.2 x.2.2))]
    · have e1 : ∀ t, getP bits t w m = none := fun t => by unfold getP; rw [if_neg hw]
      rw [e1, e1, if_neg (by rintro ⟨_, _, rfl, rfl⟩; exact hw h.1)]
  · rw [if_neg h, if_neg (fun x => h ⟨x.1, x.2.1⟩)]
theorem getP_rem {bits : Nat} {t : T} (hb : bits ≤ 128) (v w : BitVec 128) (n m : Int) : getP bits (remO bits t v n) w m = if w = v ∧ m = n then none else getP bits t w m := by
  unfold remO
  by_cases h : (getP bits t v n).isSome = true
  · rw [if_pos h]
    have ho : okP bits v n = true := by
      by_cases ho : okP bits v n = true
      · exact ho
      · unfold getP at h; rw [if_neg ho] at h; cases h
    by_cases hw : okP bits w m = true
    · obtain ⟨a, rfl, ha⟩ := okP_nat ho
      obtain ⟨b, rfl, hb'⟩ := okP_nat hw
      unfold getP
      rw [if_pos hw, if_pos hw, Int.toNat_natCast, Int.toNat_natCast, T.get_rem]
      have e : pathB bits b w = pathB bits a v ↔ w = v ∧ (b : Int) = (a : Int) := by
        constructor
        · intro e
          have hl := congrArg List.length e
          rw [pathB_length, pathB_length] at hl
          subst hl
          exact ⟨by rw [(okP_val hb hw).2, (okP_val hb ho).2, e], rfl⟩
        · rintro ⟨rfl, e⟩
          have : b = a := by omega
          rw [this]
      by_cases hc : pathB bits b w = pathB bits a v
      · rw [if_pos hc, if_pos (e.1 hc)]
      · rw [if_neg hc, if_neg (fun x => hc (e.2 x))]
    · have e1 : ∀ t, getP bits t w m = none := fun t => by unfold getP; rw [if_neg hw]
      rw [e1, e1]; simp
  · have hn : getP bits t v n = none := by simpa using h
    rw [if_neg h]
    split
    · rename_i hc; obtain ⟨rfl, rfl⟩ := hc; exact hn
    · rfl
/-- A tree is told by what it says of prefixes. -/
theorem getP_ext {bits : Nat} {s t : T} (hb : bits ≤ 128) (hs : s.ok bits) (ht : t.ok bits) (h : ∀ v n, getP bits s v n = getP bits t v n) : s = t := by
  refine T.wf_ext s t hs.wf ht.wf fun p => ?_
  by_cases hp : p.length ≤ bits
  · obtain ⟨h1, h2⟩ := valP_okP hb hp
    have := h (valP bits p) p.length
    unfold getP at this
    rw [if_pos h1, if_pos h1, Int.toNat_natCast, h2] at this
    exact this
  · have e : ∀ {u : T}, u.ok bits → u.get p = none := by
      intro u hu
      cases hg : u.get p with
      | none => rfl
      | some i => have := T.get_fit p hu.fit hg; omega
    rw [e hs, e ht]

/-! ### Calls -/
theorem typed_int {k : IntKind} {v : NV} (h : typed1 (.int k) v) : ∃ n, v = .int k n ∧ (Lit.int k n).wf = true := by
  cases v <;> first | (obtain ⟨rfl, h⟩ := h; exact ⟨_, rfl, h⟩) | exact h.elim
theorem wf_u64 {n : Int} (h : (Lit.int .u64 n).wf = true) : 0 ≤ n ∧ n < 18446744073709551616 := by
  simp [Lit.wf, IntKind.min, IntKind.max, IntKind.signed, IntKind.bits] at h; omega
theorem wf_i64 {n : Int} (h : (Lit.int .i64 n).wf = true) : -9223372036854775808 ≤ n ∧ n ≤ 9223372036854775807 := by
  simp [Lit.wf, IntKind.min, IntKind.max, IntKind.signed, IntKind.bits] at h; omega
theorem pair_val {a b : NV} (ha : typed1 (.int .u64) a) (hb : typed1 (.int .u64) b) : ∃ v : BitVec 128, a = nb (hiOf v) ∧ b = nb (loOf v) := by
  obtain ⟨x, rfl, hx⟩ := typed_int ha
  obtain ⟨y, rfl, hy⟩ := typed_int hb
  obtain ⟨v, hv⟩ := val_of x y (wf_u64 hx) (wf_u64 hy)
  simp only [vnv, NV.agg.injEq, List.cons.injEq, and_true] at hv
  exact ⟨v, hv.1, hv.2⟩
theorem argOK_i64 {b : Nat} {v : NV} {x : Option NBlk} (h : argOK (.flat [.int .i64] false) b v x) : ∃ n : Int, (-9223372036854775808 ≤ n ∧ n ≤ 9223372036854775807) ∧ v = .int .i64 n ∧ x = none := by
  obtain ⟨n, rfl, hn, rfl⟩ := argOK_int h
  exact ⟨n, wf_i64 hn, rfl, rfl⟩
theorem argOK_val {b : Nat} {v : NV} {x : Option NBlk} (h : argOK (.flat [.int .u64, .int .u64] true) b v x) : ∃ a : BitVec 128, v = vnv a ∧ x = none := by
  obtain ⟨h1, h2⟩ := h
  simp only [isFlatV, if_true] at h1
  obtain ⟨cs, rfl, h3⟩ := h1
  have hl := typeds_length h3
  match cs, hl with
  | [p, q], _ =>
    obtain ⟨hp, hq, _⟩ := h3
    obtain ⟨a, rfl, rfl⟩ := pair_val hp hq
    exact ⟨a, rfl, h2⟩
structure OpD where
  k : Int
  raw : Int
  v : BitVec 128
  n : Int
  id : Int
instance : Inhabited OpD := ⟨⟨0, 0, 0, 0, 0⟩⟩
def opC (o : OpD) : List NV := [.int .i64 o.k, .int .u8 o.raw, nb (hiOf o.v), nb (loOf o.v), .int .i64 o.n, .int .i64 o.id]
theorem opC_length (o : OpD) : (opC o).length = 6 := rfl
structure OpD.OK (o : OpD) : Prop where
  raw : 0 ≤ o.raw ∧ o.raw ≤ 255
  n : -9223372036854775808 ≤ o.n ∧ o.n ≤ 9223372036854775807
def kOp : List FKd := [.int .i64, .int .u8, .int .u64, .int .u64, .int .i64, .int .i64]
theorem op_row {r : List NV} (h : typeds kOp r) : ∃ o : OpD, o.OK ∧ r = opC o := by
  have hl := typeds_length h
  match r, hl with
  | [a, b, c0, c1, d, e], _ =>
    obtain ⟨ha, hb, h0, h1, hd, he, _⟩ := h
    obtain ⟨x, rfl, _⟩ := typed_int ha
    obtain ⟨y, rfl, hy⟩ := typed_int hb
    obtain ⟨z, rfl, hz⟩ := typed_int hd
    obtain ⟨w, rfl, _⟩ := typed_int he
    obtain ⟨v0, rfl, rfl⟩ := pair_val h0 h1
    exact ⟨⟨x, y, v0, z, w⟩, ⟨bounds_u8 hy, wf_i64 hz⟩, rfl⟩
theorem op_rows : ∀ {rows : List (List NV)}, (∀ r ∈ rows, typeds kOp r) → ∃ os : List OpD, (∀ o ∈ os, o.OK) ∧ rows.flatten = os.flatMap opC ∧ os.length = rows.length
  | [], _ => ⟨[], by simp, rfl, rfl⟩
  | r :: rows, h => by
    obtain ⟨o, ho, rfl⟩ := op_row (h r (List.mem_cons_self ..))
    obtain ⟨os, h1, h2, h3⟩ := op_rows fun x hx => h x (List.mem_cons_of_mem _ hx)
    refine ⟨o :: os, fun x hx => ?_, by simp [h2], by simp [h3]⟩
    rcases List.mem_cons.1 hx with rfl | hx
    · exact ho
    · exact h1 x hx
/-- An argument of calls. -/
def OpsArg (H : Heap) (v : NV) (os : List OpD) : Prop := (∀ o ∈ os, o.OK) ∧ ((v = .slice none 0 (.fix 0) ∧ os = []) ∨ ∃ b m cs ro, v = .slice (some (b, 0)) os.length (.fix m) ∧ hget H b = some (.cells cs ro) ∧ os.length ≤ m ∧ m ≤ 9223372036854775807 ∧ ∀ i (hi : i < os.length), cut cs (i * 6) 6 = some (opC os[i]))
theorem argOK_ops {H : Heap} {b : Nat} {v : NV} {x : Option NBlk} (h : argOK (.sl kOp) b v x) (hx : hget H b = x) : ∃ os, OpsArg H v os := by
  rcases h with ⟨rfl, _⟩ | ⟨n, c, rows, rfl, rfl, hn, hc, hl, hr⟩
  · exact ⟨[], by simp, .inl ⟨rfl, rfl⟩⟩
  · obtain ⟨os, h0, h1, h2⟩ := op_rows hr
    have hm : maxLen ≤ 9223372036854775807 := by decide
    have hlen : (os.take n).length = n := by simp; omega
    refine ⟨os.take n, fun o ho => h0 o (List.mem_of_mem_take ho), .inr ⟨b, c, _, true, by rw [hlen], hx, by omega, by omega, fun i hi => ?_⟩⟩
    rw [h1, cut_flatMap opC_length (by omega), List.getElem_take]
theorem opC_one (o : OpD) : (opC o).all NV.one = true := rfl
theorem opC_cut (o : OpD) : cut (opC o) 0 6 = some (opC o) := rfl

/-- A list of calls that lies somewhere. -/
def OIn (P : Nat → Prop) (h : Heap) (A : Option (Nat × Nat)) (os : List OpD) : Prop := 0 < os.length → ∃ b cs ro, A = some (b, 0) ∧ P b ∧ hget h b = some (.cells cs ro) ∧ ∀ i (hi : i < os.length), cut cs (i * 6) 6 = some (opC os[i])
theorem OIn.keep {P P' : Nat → Prop} {h h' : Heap} {A : Option (Nat × Nat)} {os : List OpD} (x : OIn P h A os) (k : ∀ b, P b → b < h.length → hget h' b = hget h b) (p : ∀ b, P b → P' b) : OIn P' h' A os := fun h0 => by
  obtain ⟨b, cs, ro, x1, x2, x3, x4⟩ := x h0
  exact ⟨b, cs, ro, x1, p b x2, by rw [k b x2 (hget_lt x3)]; exact x3, x4⟩
theorem OpsArg.shape {H : Heap} {v : NV} {os : List OpD} (h : OpsArg H v os) : ∃ A m, v = .slice A os.length (.fix m) ∧ os.length ≤ m ∧ m ≤ 9223372036854775807 ∧ OIn (fun b => b < H.length) H A os := by
  rcases h with ⟨_, ⟨rfl, rfl⟩ | ⟨b, m, cs, ro, rfl, h1, h2, h3, h4⟩⟩
  · exact ⟨none, 0, rfl, Nat.le_refl _, by omega, fun h => by simp at h⟩
  · exact ⟨_, _, rfl, h2, h3, fun _ => ⟨b, cs, ro, rfl, hget_lt h1, h1, h4⟩⟩
/-- A trie of a statement: it lies from 'N' on. -/
structure XAt (N : Nat) (h : Heap) (q bits : Nat) (tt : TT) : Prop where
  tr : TrieAt h q bits tt
  ok : tt.er.ok bits
  lo : ∀ b, b = q ∨ b ∈ tt.bl → N ≤ b
theorem XAt.keep {N : Nat} {h h' : Heap} {q bits : Nat} {tt : TT} (x : XAt N h q bits tt) (k : ∀ b, N ≤ b → b < h.length → hget h' b = hget h b) : XAt N h' q bits tt :=
  ⟨x.tr.keep fun b hb => k b (x.lo b hb) (x.tr.lt hb), x.ok, x.lo⟩
theorem XAt.putQ {N : Nat} {h h' : Heap} {q bits : Nat} {tt tt' : TT} {t2 : T} (x : XAt N h q bits tt) (p : PutQ h q bits tt t2 h' tt') (ho : t2.ok bits) (hN : N ≤ h.length) : XAt N h' q bits tt' ∧ ∀ b, b < N → hget h' b = hget h b := by
  refine ⟨⟨p.tr, by rw [p.er]; exact ho, fun b hb => ?_⟩, fun b hb => p.keep b (by omega) (fun e => ?_) (fun e => ?_)⟩
  · rcases hb with rfl | hb
    · exact x.lo _ (.inl rfl)
    · rcases p.new b hb with h | h
      · exact x.lo b (.inr h)
      · omega
  · have := x.lo b (.inl e); omega
  · have := x.lo b (.inr e); omega

def modN (x n : Int) : Int := (x.tmod n + n).tmod n
theorem modN_range {x n : Int} (h : 0 < n) : 0 ≤ modN x n ∧ modN x n < n := by
  unfold modN
  have h1 : -n < x.tmod n := by have := Int.lt_tmod_of_pos x h; omega
  exact ⟨Int.tmod_nonneg _ (by omega), Int.tmod_lt_of_pos _ h⟩
theorem mod_ok (H : Heap) (x n : Int) (hn : 1 ≤ n) (hn2 : n ≤ 1000000000) : NCall Try.prog 26 [.int .i64 x, .int .i64 n] H fun r => r = (.int .i64 (modN x n), H) := by
  refine call_of E0 mixed t26_ok (by kernel_rfl) (by rintro q rfl; simp) ?_
  simp only [t26]
  have n0 : ¬ n = 0 := by omega
  have n1 : ¬ n < 1 := by omega
  have h1 := Int.lt_tmod_of_pos x (show 0 < n by omega)
  have h2 := Int.tmod_lt_of_pos x (show 0 < n by omega)
  have h3 := modN_range (x := x) (show 0 < n by omega)
  unfold modN at h3
  simp (disch := first | omega | (simp only [fsLen]; omega)) only [↓fsPre, fsPost, fsCond, fsGen, fsDefs, fsDefX, cls, eqVal, reduceCtorEq, Nat.reduceAdd, Nat.reduceMul, Nat.reduceSub, Nat.reduceLT, Nat.reduceLeDiff, Nat.reduceEqDiff, Nat.reduceBEq, Nat.reduceBNe, Int.reduceLT, Int.reduceLE, Int.reduceEq, Int.reduceNe, Int.reduceAdd, Int.reduceSub, Int.reduceNeg, Int.reduceToNat, Int.reduceMul, ↓reduceIte, Int.reduceGT, Int.reduceGE, n0, n1]
  rfl
/-- The prefix of a call. -/
def prefO (bits : Nat) (o : OpD) : BitVec 128 × Int :=
  if o.raw.tmod 4 = 0 then (o.v, o.n) else
    let n := modN o.n ((min bits 12 : Nat) + 1)
    ((leadV bits ((o.raw.tdiv 4).tmod 8) ^^^ leadV bits (o.raw.tdiv 32)) &&& leadV bits n, n)
theorem prefix_ok (H : Heap) (o : OpD) (ho : o.OK) (bits : Nat) (hb : 1 ≤ bits ∧ bits ≤ 128) :
    NCall Try.prog 9 [.agg (opC o), .int .i64 bits] H fun r => r = (.tup [vnv (prefO bits o).1, .int .i64 (prefO bits o).2], H) := by
  refine call_pure E0 mixed t9_ok (by kernel_rfl) ⟨vnv_lo, trivial, trivial⟩ ?_
  have hl := fun H b => rlead_ok H bits b
  have hx := fun H a b => rxor_ok H a b
  have ha := fun H a b => rand_ok H a b
  unfold prefO
  simp only [t9, vnv, opC] at hl hx ha ⊢
  have r1 := ho.raw
  by_cases h : o.raw.tmod 4 = 0
  · rw [if_pos h]
    simp (disch := first | omega | (simp only [fsLen]; omega)) only [↓fsPre, fsPost, fsCond, fsGen, fsDefs, cls, eqVal, vbGen, fill_bits, reduceCtorEq, Nat.reduceAdd, Nat.reduceMul, Nat.reduceSub, Nat.reduceLT, Nat.reduceLeDiff, Nat.reduceEqDiff, Nat.reduceBEq, Nat.reduceBNe, Int.reduceLT, Int.reduceLE, Int.reduceEq, Int.reduceNe, Int.reduceAdd, Int.reduceSub, Int.reduceNeg, Int.reduceToNat, Int.reduceMul, ↓reduceIte, Int.reduceGT, Int.reduceGE, nb_one, nb_flat, nb_cells, h]
    exact ⟨_, rfl⟩
  · rw [if_neg h]
    have e12 : (if (12 : Int) < (bits : Int) then (12 : Int) else (bits : Int)) = ((min bits 12 : Nat) : Int) := by split <;> omega
    have q4 : 0 ≤ o.raw.tdiv 4 ∧ o.raw.tdiv 4 ≤ 63 := by rw [Int.tdiv_eq_ediv_of_nonneg r1.1]; omega
    have q8 : 0 ≤ (o.raw.tdiv 4).tmod 8 ∧ (o.raw.tdiv 4).tmod 8 ≤ 7 := by rw [Int.tmod_eq_emod_of_nonneg q4.1]; omega
    have q32 : 0 ≤ o.raw.tdiv 32 ∧ o.raw.tdiv 32 ≤ 7 := by rw [Int.tdiv_eq_ediv_of_nonneg r1.1]; omega
    simp (disch := first | omega | (simp only [fsLen]; omega)) only [↓fsPre, fsPost, fsCond, fsGen, fsDefs, cls, eqVal, vbGen, fill_bits, reduceCtorEq, Nat.reduceAdd, Nat.reduceMul, Nat.reduceSub, Nat.reduceLT, Nat.reduceLeDiff, Nat.reduceEqDiff, Nat.reduceBEq, Nat.reduceBNe, Int.reduceLT, Int.reduceLE, Int.reduceEq, Int.reduceNe, Int.reduceAdd, Int.reduceSub, Int.reduceNeg, Int.reduceToNat, Int.reduceMul, ↓reduceIte, Int.reduceGT, Int.reduceGE, nb_one, nb_flat, nb_cells, h, e12]
    refine callT_one (mod_ok _ o.n ((min bits 12 : Nat) + 1) (by omega) (by omega)) rfl ?_
    generalize modN o.n ((min bits 12 : Nat) + 1) = n
    simp (disch := first | omega | (simp only [fsLen]; omega)) only [↓fsPre, fsPost, fsCond, fsGen, fsDefs, cls, eqVal, vbGen, fill_bits, reduceCtorEq, Nat.reduceAdd, Nat.reduceMul, Nat.reduceSub, Nat.reduceLT, Nat.reduceLeDiff, Nat.reduceEqDiff, Nat.reduceBEq, Nat.reduceBNe, Int.reduceLT, Int.reduceLE, Int.reduceEq, Int.reduceNe, Int.reduceAdd, Int.reduceSub, Int.reduceNeg, Int.reduceToNat, Int.reduceMul, ↓reduceIte, Int.reduceGT, Int.reduceGE, nb_one, nb_flat, nb_cells, h, e12]
    refine callDT_one (hl _ ((o.raw.tdiv 4).tmod 8)) rfl ?_
    simp (disch := first | omega | (simp only [fsLen]; omega)) only [↓fsPre, fsPost, fsCond, fsGen, fsDefs, cls, eqVal, vbGen, fill_bits, reduceCtorEq, Nat.reduceAdd, Nat.reduceMul, Nat.reduceSub, Nat.reduceLT, Nat.reduceLeDiff, Nat.reduceEqDiff, Nat.reduceBEq, Nat.reduceBNe, Int.reduceLT, Int.reduceLE, Int.reduceEq, Int.reduceNe, Int.reduceAdd, Int.reduceSub, Int.reduceNeg, Int.reduceToNat, Int.reduceMul, ↓reduceIte, Int.reduceGT, Int.reduceGE, nb_one, nb_flat, nb_cells, h, e12]
    refine callDT_one (hl _ (o.raw.tdiv 32)) rfl ?_
    simp (disch := first | omega | (simp only [fsLen]; omega)) only [↓fsPre, fsPost, fsCond, fsGen, fsDefs, cls, eqVal, vbGen, fill_bits, reduceCtorEq, Nat.reduceAdd, Nat.reduceMul, Nat.reduceSub, Nat.reduceLT, Nat.reduceLeDiff, Nat.reduceEqDiff, Nat.reduceBEq, Nat.reduceBNe, Int.reduceLT, Int.reduceLE, Int.reduceEq, Int.reduceNe, Int.reduceAdd, Int.reduceSub, Int.reduceNeg, Int.reduceToNat, Int.reduceMul, ↓reduceIte, Int.reduceGT, Int.reduceGE, nb_one, nb_flat, nb_cells, h, e12]
    refine callDT_one (hx _ _ _) rfl ?_
    simp (disch := first | omega | (simp only [fsLen]; omega)) only [↓fsPre, fsPost, fsCond, fsGen, fsDefs, cls, eqVal, vbGen, fill_bits, reduceCtorEq, Nat.reduceAdd, Nat.reduceMul, Nat.reduceSub, Nat.reduceLT, Nat.reduceLeDiff, Nat.reduceEqDiff, Nat.reduceBEq, Nat.reduceBNe, Int.reduceLT, Int.reduceLE, Int.reduceEq, Int.reduceNe, Int.reduceAdd, Int.reduceSub, Int.reduceNeg, Int.reduceToNat, Int.reduceMul, ↓reduceIte, Int.reduceGT, Int.reduceGE, nb_one, nb_flat, nb_cells, h, e12]
    refine callDT_one (hl _ n) rfl ?_
    simp (disch := first | omega | (simp only [fsLen]; omega)) only [↓fsPre, fsPost, fsCond, fsGen, fsDefs, cls, eqVal, vbGen, fill_bits, reduceCtorEq, Nat.reduceAdd, Nat.reduceMul, Nat.reduceSub, Nat.reduceLT, Nat.reduceLeDiff, Nat.reduceEqDiff, Nat.reduceBEq, Nat.reduceBNe, Int.reduceLT, Int.reduceLE, Int.reduceEq, Int.reduceNe, Int.reduceAdd, Int.reduceSub, Int.reduceNeg, Int.reduceToNat, Int.reduceMul, ↓reduceIte, Int.reduceGT, Int.reduceGE, nb_one, nb_flat, nb_cells, h, e12]
    refine callDT_one (ha _ _ _) rfl ?_
    simp (disch := first | omega | (simp only [fsLen]; omega)) only [↓fsPre, fsPost, fsCond, fsGen, fsDefs, cls, eqVal, vbGen, fill_bits, reduceCtorEq, Nat.reduceAdd, Nat.reduceMul, Nat.reduceSub, Nat.reduceLT, Nat.reduceLeDiff, Nat.reduceEqDiff, Nat.reduceBEq, Nat.reduceBNe, Int.reduceLT, Int.reduceLE, Int.reduceEq, Int.reduceNe, Int.reduceAdd, Int.reduceSub, Int.reduceNeg, Int.reduceToNat, Int.reduceMul, ↓reduceIte, Int.reduceGT, Int.reduceGE, nb_one, nb_flat, nb_cells, h, e12]
    exact ⟨_, rfl⟩
theorem prefO_range {bits : Nat} {o : OpD} (ho : o.OK) : -9223372036854775808 ≤ (prefO bits o).2 ∧ (prefO bits o).2 ≤ 9223372036854775807 := by
  unfold prefO
  split
  · exact ho.n
  · have := modN_range (x := o.n) (n := (min bits 12 : Nat) + 1) (by omega)
    simp only
    omega

theorem nb_sub_one {x : BitVec 64} : nbin .sub (nb x) (.int .u64 1) = some (nb (x - 1#64)) := nb_sub (y := 1#64)
theorem mask_get {m i : Nat} (hm : m < 64) (hi : i < 64) : ((BitVec.ofInt 64 1 <<< m) - 1#64).getLsbD i = decide (i < m) := by
  have h1 : (BitVec.ofInt 64 1 <<< m).toNat = 2 ^ m := by
    rw [BitVec.toNat_shiftLeft, show (BitVec.ofInt 64 1).toNat = 1 by rfl, Nat.one_shiftLeft, Nat.mod_eq_of_lt (Nat.pow_lt_pow_right (by omega) hm)]
  have h2 : 1 ≤ 2 ^ m := Nat.one_le_two_pow
  have h3 : 2 ^ m < 2 ^ 64 := Nat.pow_lt_pow_right (by omega) hm
  have h4 : ((BitVec.ofInt 64 1 <<< m) - 1#64).toNat = 2 ^ m - 1 := by
    rw [BitVec.toNat_sub, h1, show (1#64).toNat = 1 by rfl]
    omega
  show ((BitVec.ofInt 64 1 <<< m) - 1#64).toNat.testBit i = _
  rw [h4, Nat.testBit_two_pow_sub_one]
/-- The value's low bits. -/
theorem begun12_ok (H : Heap) : NCall Try.prog 16 [] H fun r => r = (.bool true, H) := by
  refine call_pure E0 mixed t16_ok (by kernel_rfl) trivial ?_
  have hn : ∀ H : Heap, NCall Try.prog 7 [.int .i64 32] H fun r => r = (.ptr (some (H.length, 0)), H ++ [some (.cells [.int .i64 32, .ptr none] false)]) := fun H => tnew_ok H 32 (by omega)
  simp only [t16]
  simp (disch := first | omega | (simp only [fsLen]; omega)) only [↓fsPre, fsPost, fsCond, fsGen, fsDefs, cls, eqVal, vbGen, fill_bits, reduceCtorEq, Nat.reduceAdd, Nat.reduceMul, Nat.reduceSub, Nat.reduceLT, Nat.reduceLeDiff, Nat.reduceEqDiff, Nat.reduceBEq, Nat.reduceBNe, Int.reduceLT, Int.reduceLE, Int.reduceEq, Int.reduceNe, Int.reduceAdd, Int.reduceSub, Int.reduceNeg, Int.reduceToNat, Int.reduceMul, ↓reduceIte, Int.reduceGT, Int.reduceGE]
  refine callT_one (hn _) rfl ?_
  have v1 : NV.agg [nb 0#64, NV.int .u64 167772160] = vnv (ofV 167772160) := by rw [nb_of 167772160 (by omega)]; exact ofV_nv (by omega)
  have v2 : NV.agg [nb 0#64, NV.int .u64 167837696] = vnv (ofV 167837696) := by rw [nb_of 167837696 (by omega)]; exact ofV_nv (by omega)
  have v3 : NV.agg [nb 0#64, NV.int .u64 167838211] = vnv (ofV 167838211) := by rw [nb_of 167838211 (by omega)]; exact ofV_nv (by omega)
  simp (disch := first | omega | (simp only [fsLen]; omega)) only [↓fsPre, fsPost, fsCond, fsGen, fsDefs, cls, eqVal, vbGen, fill_bits, reduceCtorEq, Nat.reduceAdd, Nat.reduceMul, Nat.reduceSub, Nat.reduceLT, Nat.reduceLeDiff, Nat.reduceEqDiff, Nat.reduceBEq, Nat.reduceBNe, Int.reduceLT, Int.reduceLE, Int.reduceEq, Int.reduceNe, Int.reduceAdd, Int.reduceSub, Int.reduceNeg, Int.reduceToNat, Int.reduceMul, ↓reduceIte, Int.reduceGT, Int.reduceGE, v1, v2, v3]
  have h0 : TrieAt (H ++ [some (.cells [.int .i64 32, .ptr none] false)]) H.length 32 .nil := ⟨hget_append_new, trivial, by simp [TT.bl]⟩
  obtain ⟨G, hG⟩ : ∃ G, G = H ++ [some (NBlk.cells [.int .i64 32, .ptr none] false)] := ⟨_, rfl⟩
  have gl : G.length = H.length + 1 := by rw [hG]; simp
  have go : ∀ b, b < H.length → hget G b = hget H b := fun b hb => by rw [hG]; exact hget_appl hb
  rw [← hG] at h0
  rw [← hG]
  refine callT_D (tput_any G H.length 32 .nil (ofV 167772160) 8 1 (by omega) h0) rfl ?_
  rintro x h1 ⟨rfl, t1, P1⟩
  simp (disch := first | omega | (simp only [fsLen]; omega)) only [↓fsPre, fsPost, fsCond, fsGen, fsDefs, cls, eqVal, vbGen, fill_bits, reduceCtorEq, Nat.reduceAdd, Nat.reduceMul, Nat.reduceSub, Nat.reduceLT, Nat.reduceLeDiff, Nat.reduceEqDiff, Nat.reduceBEq, Nat.reduceBNe, Int.reduceLT, Int.reduceLE, Int.reduceEq, Int.reduceNe, Int.reduceAdd, Int.reduceSub, Int.reduceNeg, Int.reduceToNat, Int.reduceMul, ↓reduceIte, Int.reduceGT, Int.reduceGE, v1, v2, v3]
  refine callT_D (tput_any h1 H.length 32 t1 (ofV 167837696) 16 2 (by omega) P1.tr) rfl ?_
  rintro x h2 ⟨rfl, t2, P2⟩
  simp (disch := first | omega | (simp only [fsLen]; omega)) only [↓fsPre, fsPost, fsCond, fsGen, fsDefs, cls, eqVal, vbGen, fill_bits, reduceCtorEq, Nat.reduceAdd, Nat.reduceMul, Nat.reduceSub, Nat.reduceLT, Nat.reduceLeDiff, Nat.reduceEqDiff, Nat.reduceBEq, Nat.reduceBNe, Int.reduceLT, Int.reduceLE, Int.reduceEq, Int.reduceNe, Int.reduceAdd, Int.reduceSub, Int.reduceNeg, Int.reduceToNat, Int.reduceMul, ↓reduceIte, Int.reduceGT, Int.reduceGE, v1, v2, v3]
  refine callT_one (tlong_ok h2 H.length 32 t2 (ofV 167838211) (by omega) P2.tr) rfl ?_
  have e1 : t1.er = T.put .nil (pathB 32 8 (ofV 167772160)) 1 := by rw [P1.er]; rfl
  have e2 : t2.er = (T.put .nil (pathB 32 8 (ofV 167772160)) 1).put (pathB 32 16 (ofV 167837696)) 2 := by rw [P2.er, e1]; rfl
  have e3 : (if bl (ofV 167838211).toNat ≤ 32 then t2.er.long (pathB 32 32 (ofV 167838211)) 0 (0, 0, false) else (0, 0, false)) = (16, 2, true) := by rw [e2]; rfl
  have e4 : t2.er.nodes = 17 := by rw [e2]; rfl
  have e5 : t2.er.fit 33 := by rw [e2]; exact T.fit_put _ _ _ _ (T.fit_put _ _ _ _ trivial (by rw [pathB_length]; omega)) (by rw [pathB_length]; omega)
  rw [e3]
  simp (disch := first | omega | (simp only [fsLen]; omega)) only [↓fsPre, fsPost, fsCond, fsGen, fsDefs, cls, eqVal, vbGen, fill_bits, reduceCtorEq, Nat.reduceAdd, Nat.reduceMul, Nat.reduceSub, Nat.reduceLT, Nat.reduceLeDiff, Nat.reduceEqDiff, Nat.reduceBEq, Nat.reduceBNe, Int.reduceLT, Int.reduceLE, Int.reduceEq, Int.reduceNe, Int.reduceAdd, Int.reduceSub, Int.reduceNeg, Int.reduceToNat, Int.reduceMul, ↓reduceIte, Int.reduceGT, Int.reduceGE]
  refine callT_one (tnodes_ok h2 H.length 32 t2 (by omega) P2.tr e5 (by rw [e4]; omega)) rfl ?_
  rw [e4]
  simp (disch := first | omega | (simp only [fsLen]; omega)) only [↓fsPre, fsPost, fsCond, fsGen, fsDefs, cls, eqVal, vbGen, fill_bits, reduceCtorEq, Nat.reduceAdd, Nat.reduceMul, Nat.reduceSub, Nat.reduceLT, Nat.reduceLeDiff, Nat.reduceEqDiff, Nat.reduceBEq, Nat.reduceBNe, Int.reduceLT, Int.reduceLE, Int.reduceEq, Int.reduceNe, Int.reduceAdd, Int.reduceSub, Int.reduceNeg, Int.reduceToNat, Int.reduceMul, ↓reduceIte, Int.reduceGT, Int.reduceGE]
  have l1 : G.length ≤ h1.length := P1.len
  have l2 : h1.length ≤ h2.length := P2.len
  refine heap_ext (by omega) fun b hb => ?_
  have k2 := P2.keep b (by omega) (by omega) (fun hm => by
    rcases P1.new b hm with h | h
    · cases h
    · omega)
  exact k2.trans ((P1.keep b (by omega) (by omega) (fun h => by cases h)).trans (go b hb))
end Go.Proofs
