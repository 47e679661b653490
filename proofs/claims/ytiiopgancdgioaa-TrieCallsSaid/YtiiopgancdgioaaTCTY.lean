/- Td, Te in one text. -/
import Derived.Test.YtiiopgancdgioaaVbE
import Derived.Test.YtiiopgancdgioaaTCTX
import Derived.Test.YtiiopgancdgioaaTrY
set_option linter.unusedSimpArgs false
set_option linter.unusedVariables false
set_option maxRecDepth 100000
namespace Go.Proofs
open Go.Ns

theorem tempty_ok (H : Heap) (b : Nat) (u : Bool) (i : Int) (l r : TT) (hb : hget H b = some (.cells [l.ptr, r.ptr, .bool u, .int .i64 i] false)) :
    NCall Try.prog 39 [.ptr (some (b, 0))] H fun x => x = (.bool (T.node u i l.er r.er).empty, H) := by
  refine call_pure E0 mixed t39_ok (by kernel_rfl) trivial ?_
  have lb := hget_some_lt hb
  simp only [t39]
  cases u with
  | true =>
    simp (disch := first | omega | (simp only [fsLen]; omega)) only [↓fsPre, fsPost, fsCond, fsGen, fsDefs, cls, eqVal, vbGen, fill_bits, reduceCtorEq, Nat.reduceAdd, Nat.reduceMul, Nat.reduceSub, Nat.reduceLT, Nat.reduceLeDiff, Nat.reduceEqDiff, Nat.reduceBEq, Nat.reduceBNe, Int.reduceLT, Int.reduceLE, Int.reduceEq, Int.reduceNe, Int.reduceAdd, Int.reduceSub, Int.reduceNeg, Int.reduceToNat, Int.reduceMul, ↓reduceIte, Int.reduceGT, Int.reduceGE, hb]
    exact ⟨rfl, [], (List.append_nil H).symm⟩
  | false =>
    cases l with
    | nil =>
      cases r with
      | nil =>
        simp (disch := first | omega | (simp only [fsLen]; omega)) only [↓fsPre, fsPost, fsCond, fsGen, fsDefs, cls, eqVal, vbGen, fill_bits, reduceCtorEq, Nat.reduceAdd, Nat.reduceMul, Nat.reduceSub, Nat.reduceLT, Nat.reduceLeDiff, Nat.reduceEqDiff, Nat.reduceBEq, Nat.reduceBNe, Int.reduceLT, Int.reduceLE, Int.reduceEq, Int.reduceNe, Int.reduceAdd, Int.reduceSub, Int.reduceNeg, Int.reduceToNat, Int.reduceMul, ↓reduceIte, Int.reduceGT, Int.reduceGE, hb, ptr_nl, ptr_nd, eqc_nn, eqc_pn]
        exact ⟨rfl, [], (List.append_nil H).symm⟩
      | node b2 u2 i2 l2 r2 =>
        simp (disch := first | omega | (simp only [fsLen]; omega)) only [↓fsPre, fsPost, fsCond, fsGen, fsDefs, cls, eqVal, vbGen, fill_bits, reduceCtorEq, Nat.reduceAdd, Nat.reduceMul, Nat.reduceSub, Nat.reduceLT, Nat.reduceLeDiff, Nat.reduceEqDiff, Nat.reduceBEq, Nat.reduceBNe, Int.reduceLT, Int.reduceLE, Int.reduceEq, Int.reduceNe, Int.reduceAdd, Int.reduceSub, Int.reduceNeg, Int.reduceToNat, Int.reduceMul, ↓reduceIte, Int.reduceGT, Int.reduceGE, hb, ptr_nl, ptr_nd, eqc_nn, eqc_pn]
        exact ⟨rfl, [], (List.append_nil H).symm⟩
    | node b1 u1 i1 l1 r1 =>
      cases r with
      | nil =>
        simp (disch := first | omega | (simp only [fsLen]; omega)) only [↓fsPre, fsPost, fsCond, fsGen, fsDefs, cls, eqVal, vbGen, fill_bits, reduceCtorEq, Nat.reduceAdd, Nat.reduceMul, Nat.reduceSub, Nat.reduceLT, Nat.reduceLeDiff, Nat.reduceEqDiff, Nat.reduceBEq, Nat.reduceBNe, Int.reduceLT, Int.reduceLE, Int.reduceEq, Int.reduceNe, Int.reduceAdd, Int.reduceSub, Int.reduceNeg, Int.reduceToNat, Int.reduceMul, ↓reduceIte, Int.reduceGT, Int.reduceGE, hb, ptr_nl, ptr_nd, eqc_nn, eqc_pn]
        exact ⟨rfl, [], (List.append_nil H).symm⟩
      | node b2 u2 i2 l2 r2 =>
        simp (disch := first | omega | (simp only [fsLen]; omega)) only [↓fsPre, fsPost, fsCond, fsGen, fsDefs, cls, eqVal, vbGen, fill_bits, reduceCtorEq, Nat.reduceAdd, Nat.reduceMul, Nat.reduceSub, Nat.reduceLT, Nat.reduceLeDiff, Nat.reduceEqDiff, Nat.reduceBEq, Nat.reduceBNe, Int.reduceLT, Int.reduceLE, Int.reduceEq, Int.reduceNe, Int.reduceAdd, Int.reduceSub, Int.reduceNeg, Int.reduceToNat, Int.reduceMul, ↓reduceIte, Int.reduceGT, Int.reduceGE, hb, ptr_nl, ptr_nd, eqc_nn, eqc_pn]
        exact ⟨rfl, [], (List.append_nil H).symm⟩
theorem trem_not (H : Heap) (q bits : Nat) (t : TT) (v : BitVec 128) (n : Int) (hb : bits ≤ 128) (ht : TrieAt H q bits t) (hn : getP bits t.er v n = none) :
    NCall Try.prog 17 [.ptr (some (q, 0)), vnv v, .int .i64 n] H fun r => r = (.bool false, H) := by
  refine call_pure E0 mixed t17_ok (by kernel_rfl) trivial ?_
  have hg := fun H ht => tget_ok H q bits t v n hb ht
  rw [hn] at hg
  simp only [t17, vnv] at hg ⊢
  simp (disch := first | omega | (simp only [fsLen]; omega)) only [↓fsPre, fsPost, fsCond, fsGen, fsDefs, cls, eqVal, vbGen, fill_bits, reduceCtorEq, Nat.reduceAdd, Nat.reduceMul, Nat.reduceSub, Nat.reduceLT, Nat.reduceLeDiff, Nat.reduceEqDiff, Nat.reduceBEq, Nat.reduceBNe, Int.reduceLT, Int.reduceLE, Int.reduceEq, Int.reduceNe, Int.reduceAdd, Int.reduceSub, Int.reduceNeg, Int.reduceToNat, Int.reduceMul, ↓reduceIte, Int.reduceGT, Int.reduceGE]
  refine callT_one (hg _ (ht.app _)) rfl ?_
  simp (disch := first | omega | (simp only [fsLen]; omega)) only [↓fsPre, fsPost, fsCond, fsGen, fsDefs, cls, eqVal, vbGen, fill_bits, reduceCtorEq, Nat.reduceAdd, Nat.reduceMul, Nat.reduceSub, Nat.reduceLT, Nat.reduceLeDiff, Nat.reduceEqDiff, Nat.reduceBEq, Nat.reduceBNe, Int.reduceLT, Int.reduceLE, Int.reduceEq, Int.reduceNe, Int.reduceAdd, Int.reduceSub, Int.reduceNeg, Int.reduceToNat, Int.reduceMul, ↓reduceIte, Int.reduceGT, Int.reduceGE]
  exact ⟨_, rfl⟩

def remA : NCode := t17.body.a1
def remB : NCode := t17.body.a2.a1
def remC : NCode := t17.body.a2.a2.a1
def remD : NCode := t17.body.a2.a2.a2.a1
def remE : NCode := t17.body.a2.a2.a2.a2.a1
def remF : NCode := t17.body.a2.a2.a2.a2.a2.a1
def remG : NCode := t17.body.a2.a2.a2.a2.a2.a2.a1
def remH : NCode := t17.body.a2.a2.a2.a2.a2.a2.a2.a1
def remJ : NCode := t17.body.a2.a2.a2.a2.a2.a2.a2.a2
theorem rem_body : t17.body = .seq remA (.seq remB (.seq remC (.seq remD (.seq remE (.seq remF (.seq remG (.seq remH remJ))))))) := rfl
theorem rem_res : t17.res = [.tmp 6] := rfl
/-- The pointers on the way to a prefix. -/
def wayV (bits j : Nat) (v : BitVec 128) (t : TT) : List NV := (List.range (j + 1)).map fun k => (t.find (pathB bits k v)).ptr
theorem wayV_length {bits j : Nat} {v : BitVec 128} {t : TT} : (wayV bits j v t).length = j + 1 := by simp [wayV]
theorem wayV_get {bits j k : Nat} {v : BitVec 128} {t : TT} (h : k ≤ j) : (wayV bits j v t)[k]? = some (t.find (pathB bits k v)).ptr := by
  unfold wayV; rw [List.getElem?_map, List.getElem?_range (by omega)]; rfl
theorem wayV_succ {bits j : Nat} {v : BitVec 128} {t : TT} : wayV bits (j + 1) v t = wayV bits j v t ++ [(t.find (pathB bits (j + 1) v)).ptr] := by
  unfold wayV; rw [List.range_succ, List.map_append]; rfl
theorem pathV_succ {bits j : Nat} {v : BitVec 128} : pathV bits (j + 1) v = pathV bits j v ++ [bitNV (bitAt bits v j)] := by
  unfold pathV; rw [List.range_succ, List.map_append]; rfl
/-- The way, as it is collected. -/
structure WayI (H : Heap) (q bits j : Nat) (v : BitVec 128) (t : TT) (g : Heap) : Prop where
  keep : ∀ b, b < H.length → hget g b = hget H b
  len : H.length + 7 ≤ g.length
  way : ∃ w bw cw, hget g (H.length + 2) = some (.cells [w] false) ∧ w = .slice (some (bw, 0)) (j + 1) cw ∧ (cw = .fix (j + 1) ∨ cw = .opn 1 ∧ H.length + 7 ≤ bw) ∧ (bw = H.length + 1 ∨ H.length + 7 ≤ bw) ∧ hget g bw = some (.cells (wayV bits j v t) false) ∧
    ∃ y, hget g (H.length + 3) = some (.cells [y] false) ∧ GrV g (H.length + 7) (pathV bits j v) y ∧ (∀ b c, y = .slice (some (b, 0)) (pathV bits j v).length c → b ≠ bw ∧ H.length ≤ b)

theorem way_keep {H g g' : Heap} {q bits m : Nat} {v : BitVec 128} (hk : KeepP (H.length + 6) (H.length + 5) (H.length + 4) q bits m v g) (lq : q < H.length) (e : ∀ b, b < H.length + 7 → b ≠ H.length + 2 → b ≠ H.length + 3 → hget g' b = hget g b) : KeepP (H.length + 6) (H.length + 5) (H.length + 4) q bits m v g' := by
  obtain ⟨k1, k2, k3, kr, k4⟩ := hk
  exact ⟨by rw [e _ (by omega) (by omega) (by omega)]; exact k1, by rw [e _ (by omega) (by omega) (by omega)]; exact k2, by rw [e _ (by omega) (by omega) (by omega)]; exact k3, kr, by rw [e _ (by omega) (by omega) (by omega)]; exact k4⟩

/-- The way, as it was collected. -/
structure WayR (H g : Heap) (bits m : Nat) (v : BitVec 128) (t : TT) (bw : Nat) (cw : Cap) (y : NV) : Prop where
  w1 : hget g (H.length + 2) = some (.cells [.slice (some (bw, 0)) (m + 1) cw] false)
  w2 : hget g bw = some (.cells (wayV bits m v t) false)
  w3 : hget g (H.length + 3) = some (.cells [y] false)
  w4 : GrV g (H.length + 7) (pathV bits m v) y
  b1 : H.length ≤ bw
  b2 : ∀ b c, y = .slice (some (b, 0)) (pathV bits m v).length c → H.length ≤ b
theorem WayR.mono {H g g' : Heap} {bits m : Nat} {v : BitVec 128} {t : TT} {bw : Nat} {cw : Cap} {y : NV} (W : WayR H g bits m v t bw cw y) (k : ∀ b, H.length ≤ b → hget g' b = hget g b) : WayR H g' bits m v t bw cw y :=
  ⟨by rw [k _ (by omega)]; exact W.w1, by rw [k _ W.b1]; exact W.w2, by rw [k _ (by omega)]; exact W.w3, W.w4.mono fun b c e => k b (W.b2 b c e), W.b1, W.b2⟩
theorem pathV_at {bits m k : Nat} {v : BitVec 128} (h : k < m) : (pathV bits m v)[k]? = some (bitNV (bitAt bits v k)) := by
  unfold pathV; rw [List.getElem?_map, List.getElem?_range h]; rfl

set_option maxHeartbeats 1000000 in
theorem trem_ok (H : Heap) (q bits : Nat) (t : TT) (v : BitVec 128) (n : Int) (hb : bits ≤ 128) (ht : TrieAt H q bits t) (hn : (getP bits t.er v n).isSome = true) :
    DCall Try.prog 17 [.ptr (some (q, 0)), vnv v, .int .i64 n] H fun r => r.1 = .bool true ∧ ∃ t', PutQ H q bits t (t.er.rem (pathB bits n.toNat v)) r.2 t' := by
  have lq := hget_some_lt ht.hd
  refine call_det E0 rfl mixed t17_ok (by kernel_rfl) (by rintro q ⟨_, t', h⟩; exact h.len) ?_
  have hg := fun H ht => tget_ok H q bits t v n hb ht
  rw [hn] at hg
  have ho : okP bits v n = true := by
    by_cases h : okP bits v n = true
    · exact h
    · unfold getP at hn; rw [if_neg h] at hn; cases hn
  unfold getP at hn
  rw [if_pos ho] at hn
  obtain ⟨m, rfl, hm⟩ := okP_nat ho
  rw [Int.toNat_natCast] at hn
  have hpa := fun H => path_ok H q m v
  rw [rem_body, rem_res]
  simp only [vnv] at hg hpa ⊢
  have hq := ht.hd
  have hlast : ∃ b i l r, t.find (pathB bits m v) = .node b true i l r := by
    have h := hn
    rw [← List.append_nil (pathB bits m v), ← T.get_find, ← TT.er_find] at h
    cases hf : t.find (pathB bits m v) with
    | nil => rw [hf] at h; simp [TT.er, T.get] at h
    | node b u i l r =>
      rw [hf] at h
      cases u with
      | false => simp [TT.er, T.get] at h
      | true => exact ⟨_, _, _, _, rfl⟩
  have hwn : ∀ j, j ≤ m → t.find (pathB bits j v) ≠ .nil := by
    intro j hj
    obtain ⟨b, i, l, r, hf⟩ := hlast
    have : pathB bits m v = pathB bits j v ++ (pathB bits m v).drop j := by conv => lhs; rw [← List.take_append_drop j (pathB bits m v), pathB_take hj]
    exact TT.find_up (q := (pathB bits m v).drop j) (by rw [← this, hf]; simp)
  simp (disch := first | omega | (simp only [fsLen]; omega)) only [↓fsPre, fsPost, fsCond, fsGen, fsDefs, cls, eqVal, vbGen, fill_bits, reduceCtorEq, Nat.reduceAdd, Nat.reduceMul, Nat.reduceSub, Nat.reduceLT, Nat.reduceLeDiff, Nat.reduceEqDiff, Nat.reduceBEq, Nat.reduceBNe, Int.reduceLT, Int.reduceLE, Int.reduceEq, Int.reduceNe, Int.reduceAdd, Int.reduceSub, Int.reduceNeg, Int.reduceToNat, Int.reduceMul, ↓reduceIte, Int.reduceGT, Int.reduceGE]
  simp only [remA, t17, NCode.a1, NCode.a2]
  simp (disch := first | omega | (simp only [fsLen]; omega)) only [↓fsPre, fsPost, fsCond, fsGen, fsDefs, cls, eqVal, vbGen, fill_bits, reduceCtorEq, Nat.reduceAdd, Nat.reduceMul, Nat.reduceSub, Nat.reduceLT, Nat.reduceLeDiff, Nat.reduceEqDiff, Nat.reduceBEq, Nat.reduceBNe, Int.reduceLT, Int.reduceLE, Int.reduceEq, Int.reduceNe, Int.reduceAdd, Int.reduceSub, Int.reduceNeg, Int.reduceToNat, Int.reduceMul, ↓reduceIte, Int.reduceGT, Int.reduceGE]
  simp only [remB, t17, NCode.a1, NCode.a2]
  simp (disch := first | omega | (simp only [fsLen]; omega)) only [↓fsPre, fsPost, fsCond, fsGen, fsDefs, cls, eqVal, vbGen, fill_bits, reduceCtorEq, Nat.reduceAdd, Nat.reduceMul, Nat.reduceSub, Nat.reduceLT, Nat.reduceLeDiff, Nat.reduceEqDiff, Nat.reduceBEq, Nat.reduceBNe, Int.reduceLT, Int.reduceLE, Int.reduceEq, Int.reduceNe, Int.reduceAdd, Int.reduceSub, Int.reduceNeg, Int.reduceToNat, Int.reduceMul, ↓reduceIte, Int.reduceGT, Int.reduceGE]
  refine callT_one (hg _ (ht.app _)) rfl ?_
  simp (disch := first | omega | (simp only [fsLen]; omega)) only [↓fsPre, fsPost, fsCond, fsGen, fsDefs, cls, eqVal, vbGen, fill_bits, reduceCtorEq, Nat.reduceAdd, Nat.reduceMul, Nat.reduceSub, Nat.reduceLT, Nat.reduceLeDiff, Nat.reduceEqDiff, Nat.reduceBEq, Nat.reduceBNe, Int.reduceLT, Int.reduceLE, Int.reduceEq, Int.reduceNe, Int.reduceAdd, Int.reduceSub, Int.reduceNeg, Int.reduceToNat, Int.reduceMul, ↓reduceIte, Int.reduceGT, Int.reduceGE]
  simp only [remC, t17, NCode.a1, NCode.a2]
  simp (disch := first | omega | (simp only [fsLen]; omega)) only [↓fsPre, fsPost, fsCond, fsGen, fsDefs, cls, eqVal, vbGen, fill_bits, reduceCtorEq, Nat.reduceAdd, Nat.reduceMul, Nat.reduceSub, Nat.reduceLT, Nat.reduceLeDiff, Nat.reduceEqDiff, Nat.reduceBEq, Nat.reduceBNe, Int.reduceLT, Int.reduceLE, Int.reduceEq, Int.reduceNe, Int.reduceAdd, Int.reduceSub, Int.reduceNeg, Int.reduceToNat, Int.reduceMul, ↓reduceIte, Int.reduceGT, Int.reduceGE, hq, TT.ptr_flat, TT.ptr_one, TT.ptr_cells]
  refine fwp_cutJ (fun F g => F 0 = .ptr (some (q, 0)) ∧ F 2 = .int .i64 m ∧ F 9 = .ptr (some (H.length + 2, 0)) ∧ F 10 = .ptr (some (H.length + 3, 0)) ∧ WayI H q bits m v t g) ?_ ?_
  · simp only [remD, t17, NCode.a1, NCode.a2]
    simp (disch := first | omega | (simp only [fsLen]; omega)) only [↓fsPre, fsPost, fsCond, fsGen, fsDefs, cls, eqVal, vbGen, fill_bits, reduceCtorEq, Nat.reduceAdd, Nat.reduceMul, Nat.reduceSub, Nat.reduceLT, Nat.reduceLeDiff, Nat.reduceEqDiff, Nat.reduceBEq, Nat.reduceBNe, Int.reduceLT, Int.reduceLE, Int.reduceEq, Int.reduceNe, Int.reduceAdd, Int.reduceSub, Int.reduceNeg, Int.reduceToNat, Int.reduceMul, ↓reduceIte, Int.reduceGT, Int.reduceGE]
    refine callT_one (hpa _) rfl ?_
    simp (disch := first | omega | (simp only [fsLen]; omega)) only [↓fsPre, fsPost, fsCond, fsGen, fsDefs, cls, eqVal, vbGen, fill_bits, reduceCtorEq, Nat.reduceAdd, Nat.reduceMul, Nat.reduceSub, Nat.reduceLT, Nat.reduceLeDiff, Nat.reduceEqDiff, Nat.reduceBEq, Nat.reduceBNe, Int.reduceLT, Int.reduceLE, Int.reduceEq, Int.reduceNe, Int.reduceAdd, Int.reduceSub, Int.reduceNeg, Int.reduceToNat, Int.reduceMul, ↓reduceIte, Int.reduceGT, Int.reduceGE]
    refine wrange (fun j g => KeepP (H.length + 6) (H.length + 5) (H.length + 4) q bits m v g ∧ WayI H q bits j v t g) ?_ (t46_ok).1 (iter_path (H.length + 6) (H.length + 5) (H.length + 4) q bits m v hb hm) ?_ ?_ ?_ ?_
    · simp (disch := first | omega | (simp only [fsLen]; omega)) only [↓fsPre, fsPost, fsCond, fsGen, fsDefs, cls, eqVal, vbGen, fill_bits, reduceCtorEq, Nat.reduceAdd, Nat.reduceMul, Nat.reduceSub, Nat.reduceLT, Nat.reduceLeDiff, Nat.reduceEqDiff, Nat.reduceBEq, Nat.reduceBNe, Int.reduceLT, Int.reduceLE, Int.reduceEq, Int.reduceNe, Int.reduceAdd, Int.reduceSub, Int.reduceNeg, Int.reduceToNat, Int.reduceMul, ↓reduceIte, Int.reduceGT, Int.reduceGE]
    · rw [List.append_assoc]
      refine ⟨⟨by simp (disch := first | omega | (simp only [fsLen]; omega)) only [↓fsPre, fsPost, fsCond, fsGen, fsDefs, cls, eqVal, vbGen, fill_bits, reduceCtorEq, Nat.reduceAdd, Nat.reduceMul, Nat.reduceSub, Nat.reduceLT, Nat.reduceLeDiff, Nat.reduceEqDiff, Nat.reduceBEq, Nat.reduceBNe, Int.reduceLT, Int.reduceLE, Int.reduceEq, Int.reduceNe, Int.reduceAdd, Int.reduceSub, Int.reduceNeg, Int.reduceToNat, Int.reduceMul, ↓reduceIte, Int.reduceGT, Int.reduceGE], by simp (disch := first | omega | (simp only [fsLen]; omega)) only [↓fsPre, fsPost, fsCond, fsGen, fsDefs, cls, eqVal, vbGen, fill_bits, reduceCtorEq, Nat.reduceAdd, Nat.reduceMul, Nat.reduceSub, Nat.reduceLT, Nat.reduceLeDiff, Nat.reduceEqDiff, Nat.reduceBEq, Nat.reduceBNe, Int.reduceLT, Int.reduceLE, Int.reduceEq, Int.reduceNe, Int.reduceAdd, Int.reduceSub, Int.reduceNeg, Int.reduceToNat, Int.reduceMul, ↓reduceIte, Int.reduceGT, Int.reduceGE], by simp (disch := first | omega | (simp only [fsLen]; omega)) only [↓fsPre, fsPost, fsCond, fsGen, fsDefs, cls, eqVal, vbGen, fill_bits, reduceCtorEq, Nat.reduceAdd, Nat.reduceMul, Nat.reduceSub, Nat.reduceLT, Nat.reduceLeDiff, Nat.reduceEqDiff, Nat.reduceBEq, Nat.reduceBNe, Int.reduceLT, Int.reduceLE, Int.reduceEq, Int.reduceNe, Int.reduceAdd, Int.reduceSub, Int.reduceNeg, Int.reduceToNat, Int.reduceMul, ↓reduceIte, Int.reduceGT, Int.reduceGE], ⟨_, by rw [hget_appl lq]; exact hq⟩⟩, fun b hb => hget_appl hb, by simp, _, H.length + 1, .fix 1, ?_, rfl, .inl rfl, .inl rfl, ?_, _, ?_, .inl ⟨rfl, rfl⟩, fun b c e => by cases e⟩
      · simp (disch := first | omega | (simp only [fsLen]; omega)) only [↓fsPre, fsPost, fsCond, fsGen, fsDefs, cls, eqVal, vbGen, fill_bits, reduceCtorEq, Nat.reduceAdd, Nat.reduceMul, Nat.reduceSub, Nat.reduceLT, Nat.reduceLeDiff, Nat.reduceEqDiff, Nat.reduceBEq, Nat.reduceBNe, Int.reduceLT, Int.reduceLE, Int.reduceEq, Int.reduceNe, Int.reduceAdd, Int.reduceSub, Int.reduceNeg, Int.reduceToNat, Int.reduceMul, ↓reduceIte, Int.reduceGT, Int.reduceGE]
      · simp (disch := first | omega | (simp only [fsLen]; omega)) only [↓fsPre, fsPost, fsCond, fsGen, fsDefs, cls, eqVal, vbGen, fill_bits, reduceCtorEq, Nat.reduceAdd, Nat.reduceMul, Nat.reduceSub, Nat.reduceLT, Nat.reduceLeDiff, Nat.reduceEqDiff, Nat.reduceBEq, Nat.reduceBNe, Int.reduceLT, Int.reduceLE, Int.reduceEq, Int.reduceNe, Int.reduceAdd, Int.reduceSub, Int.reduceNeg, Int.reduceToNat, Int.reduceMul, ↓reduceIte, Int.reduceGT, Int.reduceGE]
        simp [wayV, pathB, TT.find_empty]
      · simp (disch := first | omega | (simp only [fsLen]; omega)) only [↓fsPre, fsPost, fsCond, fsGen, fsDefs, cls, eqVal, vbGen, fill_bits, reduceCtorEq, Nat.reduceAdd, Nat.reduceMul, Nat.reduceSub, Nat.reduceLT, Nat.reduceLeDiff, Nat.reduceEqDiff, Nat.reduceBEq, Nat.reduceBNe, Int.reduceLT, Int.reduceLE, Int.reduceEq, Int.reduceNe, Int.reduceAdd, Int.reduceSub, Int.reduceNeg, Int.reduceToNat, Int.reduceMul, ↓reduceIte, Int.reduceGT, Int.reduceGE]
    · rintro j g hj ⟨hk, _⟩
      exact hk
    · rintro j g hj ⟨hk, ⟨wk, wl, w, bw, cw, w1, rfl, w3, w5, w4, y, y1, y2, y3⟩⟩
      rw [pathV_get hj]
      rw [pathV_length] at hj
      have l1 := hget_some_lt w1
      have l2 := hget_some_lt w4
      have l3 := hget_some_lt y1
      have hst := pathB_succ (bits := bits) (n := j) (v := v)
      have hat := ht.at_.find (pathB bits j v)
      have hn := hwn j (by omega)
      have hwg := wayV_get (bits := bits) (v := v) (t := t) (Nat.le_refl j)
      rw [show j = ((j : Int) + 1 - 1).toNat by omega] at hwg
      rw [show wayV bits ((j : Int) + 1 - 1).toNat v t = wayV bits j v t by congr 1; omega, show pathB bits ((j : Int) + 1 - 1).toNat v = pathB bits j v by congr 1; omega] at hwg
      cases hf : t.find (pathB bits j v) with
      | nil => exact absurd hf hn
      | node b u c l r =>
        rw [hf, ptr_nd] at hwg
        rw [hf] at hat
        have hb0 := hat.1
        have lb := hget_some_lt hb0
        have hb := (wk b lb).trans hb0
        cases hx : bitAt bits v j with
        | false =>
          rw [hx] at hst
          simp (disch := first | omega | (simp only [fsLen]; omega)) only [↓fsPre, fsPost, fsCond, fsGen, fsDefs, cls, eqVal, vbGen, fill_bits, reduceCtorEq, Nat.reduceAdd, Nat.reduceMul, Nat.reduceSub, Nat.reduceLT, Nat.reduceLeDiff, Nat.reduceEqDiff, Nat.reduceBEq, Nat.reduceBNe, Int.reduceLT, Int.reduceLE, Int.reduceEq, Int.reduceNe, Int.reduceAdd, Int.reduceSub, Int.reduceNeg, Int.reduceToNat, Int.reduceMul, ↓reduceIte, Int.reduceGT, Int.reduceGE, rngA_nrm, rngB_nrm, rngB_exit, rngB_ret, w1, w4, y1, hb, hwg, bitNV_f, TT.ptr_flat, TT.ptr_one, TT.ptr_cells]
          have e1 : wayV bits (j + 1) v t = wayV bits j v t ++ [l.ptr] := by rw [wayV_succ, hst, TT.find_step hf]; rfl
          have e2 : pathV bits (j + 1) v = pathV bits j v ++ [.int .i64 0] := by rw [pathV_succ, hx]; rfl
          have gw : GrV (g ++ [some (NBlk.cells [l.ptr] false), none]) (H.length + 7) (wayV bits j v t) (.slice (some (bw, 0)) (j + 1) cw) := by
            refine .inr ⟨bw, cw, by rw [wayV_length], ?_, by rw [hget_appl l2]; exact w4, by rw [wayV_length]; omega⟩
            rw [wayV_length]
            exact w3
          refine grv_app2 gw (by simp; omega) (sliceCells_at (by simp (disch := first | omega | (simp only [fsLen]; omega)) only [↓fsPre, fsPost, fsCond, fsGen, fsDefs, cls, eqVal, vbGen, fill_bits, reduceCtorEq, Nat.reduceAdd, Nat.reduceMul, Nat.reduceSub, Nat.reduceLT, Nat.reduceLeDiff, Nat.reduceEqDiff, Nat.reduceBEq, Nat.reduceBNe, Int.reduceLT, Int.reduceLE, Int.reduceEq, Int.reduceNe, Int.reduceAdd, Int.reduceSub, Int.reduceNeg, Int.reduceToNat, Int.reduceMul, ↓reduceIte, Int.reduceGT, Int.reduceGE] <;> rfl) rfl) rfl (by rw [wayV_length]; omega) ?_
          intro v1 h1 g1 n1 len1 on1 o1
          simp only [List.length_append, List.length_cons, List.length_nil] at len1 n1
          obtain ⟨q1, q2, q3⟩ := g1.one
          have keep1 : ∀ b, b < g.length → b ≠ bw → hget h1 b = hget g b := by
            intro b hb hn
            rw [o1 b (by simp; omega) (by intro c e; simp only [NV.slice.injEq, Option.some.injEq, Prod.mk.injEq] at e; exact hn e.1.1.symm), hget_appl hb]
          have low1 : ∀ b, b < H.length + 7 → hget h1 b = hget g b := fun b hb => by rw [on1 b hb, hget_appl (by omega)]
          have d9 := (low1 (H.length + 2) (by omega)).trans w1
          have d10 := (low1 (H.length + 3) (by omega)).trans y1
          simp (disch := first | omega | (simp only [fsLen]; omega)) only [↓fsPre, fsPost, fsCond, fsGen, fsDefs, cls, eqVal, vbGen, fill_bits, reduceCtorEq, Nat.reduceAdd, Nat.reduceMul, Nat.reduceSub, Nat.reduceLT, Nat.reduceLeDiff, Nat.reduceEqDiff, Nat.reduceBEq, Nat.reduceBNe, Int.reduceLT, Int.reduceLE, Int.reduceEq, Int.reduceNe, Int.reduceAdd, Int.reduceSub, Int.reduceNeg, Int.reduceToNat, Int.reduceMul, ↓reduceIte, Int.reduceGT, Int.reduceGE, rngA_nrm, rngB_nrm, rngB_exit, rngB_ret, w1, w4, y1, d9, d10, q1, q2, q3]
          have hnone : hget h1 (g.length + 1) = none := by
            rw [o1 _ (by simp) (by intro c e; simp only [NV.slice.injEq, Option.some.injEq, Prod.mk.injEq] at e; omega), hget_appr (by omega)]
            rw [Nat.add_sub_cancel_left]; rfl
          refine ⟨⟨by omega, hnone⟩, ?_⟩
          have gy : GrV (hset h1 (g.length + 1) (.cells [.int .i64 0] false)) (H.length + 7) (pathV bits j v) y := by
            rcases y2 with ⟨y4, y5⟩ | ⟨b, c, y4, y5, y6, y7⟩
            · exact .inl ⟨y4, y5⟩
            · have lb6 := hget_some_lt y6
              exact .inr ⟨b, c, y4, y5, by rw [hget_hset_ne (by omega), keep1 b lb6 (y3 b c y4).1]; exact y6, y7⟩
          refine grv_app2 gy (by rw [length_hset]; omega) (sliceCells_at (hget_hset_same (by omega)) rfl) rfl (by rw [pathV_length]; omega) ?_
          intro v2 h2 g2 n2 len2 on2 o2
          rw [length_hset] at len2 n2
          obtain ⟨p1, p2, p3⟩ := g2.one
          have low2 : ∀ b, b < H.length + 7 → hget h2 b = hget g b := fun b hb => by rw [on2 b hb, hget_hset_ne (by omega), low1 b hb]
          have d9' := (low2 (H.length + 2) (by omega)).trans w1
          have d10' := (low2 (H.length + 3) (by omega)).trans y1
          simp (disch := first | omega | (simp only [fsLen]; omega)) only [↓fsPre, fsPost, fsCond, fsGen, fsDefs, cls, eqVal, vbGen, fill_bits, reduceCtorEq, Nat.reduceAdd, Nat.reduceMul, Nat.reduceSub, Nat.reduceLT, Nat.reduceLeDiff, Nat.reduceEqDiff, Nat.reduceBEq, Nat.reduceBNe, Int.reduceLT, Int.reduceLE, Int.reduceEq, Int.reduceNe, Int.reduceAdd, Int.reduceSub, Int.reduceNeg, Int.reduceToNat, Int.reduceMul, ↓reduceIte, Int.reduceGT, Int.reduceGE, rngA_nrm, rngB_nrm, rngB_exit, rngB_ret, w1, w4, y1, d9, d10, d9', d10', q1, q2, q3, p1, p2, p3]
          refine ⟨by omega, by omega, by omega, ?_, ?_⟩
          · exact way_keep hk lq (fun b hb h1 h2 => by rw [hget_hset_ne (Ne.symm h2), hget_hset_ne (Ne.symm h1), low2 b hb])
          · have by_ : ∀ b c, y = .slice (some (b, 0)) (pathV bits j v).length c → b < g.length := fun b c e => y2.ltb e
            rw [← e1] at g1
            rw [← e2] at g2 n2
            rcases g1 with ⟨h, _⟩ | ⟨b1, c1, rfl, hc1, hb1, _⟩
            · have := congrArg List.length h; simp [wayV_length] at this
            have hn1 := n1 b1 c1 (by rw [wayV_length, wayV_length])
            rw [wayV_length] at hc1 ⊢
            have hb1' : hget h2 b1 = some (.cells (wayV bits (j + 1) v t) false) := by
              rw [o2 b1 (by rw [length_hset]; omega) (fun c e => by have := by_ _ _ e; omega), hget_hset_ne (by omega)]; exact hb1
            have l2a := hget_some_lt d9'
            have l2b := hget_some_lt d10'
            refine ⟨fun b hb => ?_, by simp only [length_hset]; omega, _, b1, c1, ?_, rfl, hc1.imp id (fun h => ⟨h.1, by omega⟩), .inr (by omega), ?_, v2, ?_, ?_, ?_⟩
            · rw [hget_hset_ne (by omega), hget_hset_ne (by omega), low2 b (by omega)]; exact wk b hb
            · rw [hget_hset_ne (by omega), hget_hset_same l2a]
            · rw [hget_hset_ne (by omega), hget_hset_ne (by omega)]; exact hb1'
            · rw [hget_hset_same (by rw [length_hset]; exact l2b)]
            · exact g2.mono fun b c e => by have := n2 b c e; rw [hget_hset_ne (by omega), hget_hset_ne (by omega)]
            · intro b c e; have := n2 b c e; exact ⟨by omega, by omega⟩
        | true =>
          rw [hx] at hst
          simp (disch := first | omega | (simp only [fsLen]; omega)) only [↓fsPre, fsPost, fsCond, fsGen, fsDefs, cls, eqVal, vbGen, fill_bits, reduceCtorEq, Nat.reduceAdd, Nat.reduceMul, Nat.reduceSub, Nat.reduceLT, Nat.reduceLeDiff, Nat.reduceEqDiff, Nat.reduceBEq, Nat.reduceBNe, Int.reduceLT, Int.reduceLE, Int.reduceEq, Int.reduceNe, Int.reduceAdd, Int.reduceSub, Int.reduceNeg, Int.reduceToNat, Int.reduceMul, ↓reduceIte, Int.reduceGT, Int.reduceGE, rngA_nrm, rngB_nrm, rngB_exit, rngB_ret, w1, w4, y1, hb, hwg, bitNV_t, TT.ptr_flat, TT.ptr_one, TT.ptr_cells]
          have e1 : wayV bits (j + 1) v t = wayV bits j v t ++ [r.ptr] := by rw [wayV_succ, hst, TT.find_step hf]; rfl
          have e2 : pathV bits (j + 1) v = pathV bits j v ++ [.int .i64 1] := by rw [pathV_succ, hx]; rfl
          have gw : GrV (g ++ [some (NBlk.cells [r.ptr] false), none]) (H.length + 7) (wayV bits j v t) (.slice (some (bw, 0)) (j + 1) cw) := by
            refine .inr ⟨bw, cw, by rw [wayV_length], ?_, by rw [hget_appl l2]; exact w4, by rw [wayV_length]; omega⟩
            rw [wayV_length]
            exact w3
          refine grv_app2 gw (by simp; omega) (sliceCells_at (by simp (disch := first | omega | (simp only [fsLen]; omega)) only [↓fsPre, fsPost, fsCond, fsGen, fsDefs, cls, eqVal, vbGen, fill_bits, reduceCtorEq, Nat.reduceAdd, Nat.reduceMul, Nat.reduceSub, Nat.reduceLT, Nat.reduceLeDiff, Nat.reduceEqDiff, Nat.reduceBEq, Nat.reduceBNe, Int.reduceLT, Int.reduceLE, Int.reduceEq, Int.reduceNe, Int.reduceAdd, Int.reduceSub, Int.reduceNeg, Int.reduceToNat, Int.reduceMul, ↓reduceIte, Int.reduceGT, Int.reduceGE] <;> rfl) rfl) rfl (by rw [wayV_length]; omega) ?_
          intro v1 h1 g1 n1 len1 on1 o1
          simp only [List.length_append, List.length_cons, List.length_nil] at len1 n1
          obtain ⟨q1, q2, q3⟩ := g1.one
          have keep1 : ∀ b, b < g.length → b ≠ bw → hget h1 b = hget g b := by
            intro b hb hn
            rw [o1 b (by simp; omega) (by intro c e; simp only [NV.slice.injEq, Option.some.injEq, Prod.mk.injEq] at e; exact hn e.1.1.symm), hget_appl hb]
          have low1 : ∀ b, b < H.length + 7 → hget h1 b = hget g b := fun b hb => by rw [on1 b hb, hget_appl (by omega)]
          have d9 := (low1 (H.length + 2) (by omega)).trans w1
          have d10 := (low1 (H.length + 3) (by omega)).trans y1
          simp (disch := first | omega | (simp only [fsLen]; omega)) only [↓fsPre, fsPost, fsCond, fsGen, fsDefs, cls, eqVal, vbGen, fill_bits, reduceCtorEq, Nat.reduceAdd, Nat.reduceMul, Nat.reduceSub, Nat.reduceLT, Nat.reduceLeDiff, Nat.reduceEqDiff, Nat.reduceBEq, Nat.reduceBNe, Int.reduceLT, Int.reduceLE, Int.reduceEq, Int.reduceNe, Int.reduceAdd, Int.reduceSub, Int.reduceNeg, Int.reduceToNat, Int.reduceMul, ↓reduceIte, Int.reduceGT, Int.reduceGE, rngA_nrm, rngB_nrm, rngB_exit, rngB_ret, w1, w4, y1, d9, d10, q1, q2, q3]
          have hnone : hget h1 (g.length + 1) = none := by
            rw [o1 _ (by simp) (by intro c e; simp only [NV.slice.injEq, Option.some.injEq, Prod.mk.injEq] at e; omega), hget_appr (by omega)]
            rw [Nat.add_sub_cancel_left]; rfl
          refine ⟨⟨by omega, hnone⟩, ?_⟩
          have gy : GrV (hset h1 (g.length + 1) (.cells [.int .i64 1] false)) (H.length + 7) (pathV bits j v) y := by
            rcases y2 with ⟨y4, y5⟩ | ⟨b, c, y4, y5, y6, y7⟩
            · exact .inl ⟨y4, y5⟩
            · have lb6 := hget_some_lt y6
              exact .inr ⟨b, c, y4, y5, by rw [hget_hset_ne (by omega), keep1 b lb6 (y3 b c y4).1]; exact y6, y7⟩
          refine grv_app2 gy (by rw [length_hset]; omega) (sliceCells_at (hget_hset_same (by omega)) rfl) rfl (by rw [pathV_length]; omega) ?_
          intro v2 h2 g2 n2 len2 on2 o2
          rw [length_hset] at len2 n2
          obtain ⟨p1, p2, p3⟩ := g2.one
          have low2 : ∀ b, b < H.length + 7 → hget h2 b = hget g b := fun b hb => by rw [on2 b hb, hget_hset_ne (by omega), low1 b hb]
          have d9' := (low2 (H.length + 2) (by omega)).trans w1
          have d10' := (low2 (H.length + 3) (by omega)).trans y1
          simp (disch := first | omega | (simp only [fsLen]; omega)) only [↓fsPre, fsPost, fsCond, fsGen, fsDefs, cls, eqVal, vbGen, fill_bits, reduceCtorEq, Nat.reduceAdd, Nat.reduceMul, Nat.reduceSub, Nat.reduceLT, Nat.reduceLeDiff, Nat.reduceEqDiff, Nat.reduceBEq, Nat.reduceBNe, Int.reduceLT, Int.reduceLE, Int.reduceEq, Int.reduceNe, Int.reduceAdd, Int.reduceSub, Int.reduceNeg, Int.reduceToNat, Int.reduceMul, ↓reduceIte, Int.reduceGT, Int.reduceGE, rngA_nrm, rngB_nrm, rngB_exit, rngB_ret, w1, w4, y1, d9, d10, d9', d10', q1, q2, q3, p1, p2, p3]
          refine ⟨by omega, by omega, by omega, ?_, ?_⟩
          · exact way_keep hk lq (fun b hb h1 h2 => by rw [hget_hset_ne (Ne.symm h2), hget_hset_ne (Ne.symm h1), low2 b hb])
          · have by_ : ∀ b c, y = .slice (some (b, 0)) (pathV bits j v).length c → b < g.length := fun b c e => y2.ltb e
            rw [← e1] at g1
            rw [← e2] at g2 n2
            rcases g1 with ⟨h, _⟩ | ⟨b1, c1, rfl, hc1, hb1, _⟩
            · have := congrArg List.length h; simp [wayV_length] at this
            have hn1 := n1 b1 c1 (by rw [wayV_length, wayV_length])
            rw [wayV_length] at hc1 ⊢
            have hb1' : hget h2 b1 = some (.cells (wayV bits (j + 1) v t) false) := by
              rw [o2 b1 (by rw [length_hset]; omega) (fun c e => by have := by_ _ _ e; omega), hget_hset_ne (by omega)]; exact hb1
            have l2a := hget_some_lt d9'
            have l2b := hget_some_lt d10'
            refine ⟨fun b hb => ?_, by simp only [length_hset]; omega, _, b1, c1, ?_, rfl, hc1.imp id (fun h => ⟨h.1, by omega⟩), .inr (by omega), ?_, v2, ?_, ?_, ?_⟩
            · rw [hget_hset_ne (by omega), hget_hset_ne (by omega), low2 b (by omega)]; exact wk b hb
            · rw [hget_hset_ne (by omega), hget_hset_same l2a]
            · rw [hget_hset_ne (by omega), hget_hset_ne (by omega)]; exact hb1'
            · rw [hget_hset_same (by rw [length_hset]; exact l2b)]
            · exact g2.mono fun b c e => by have := n2 b c e; rw [hget_hset_ne (by omega), hget_hset_ne (by omega)]
            · intro b c e; have := n2 b c e; exact ⟨by omega, by omega⟩
    · rintro g ⟨hk, W⟩
      rw [pathV_length] at W
      simp (disch := first | omega | (simp only [fsLen]; omega)) only [↓fsPre, fsPost, fsCond, fsGen, fsDefs, cls, eqVal, vbGen, fill_bits, reduceCtorEq, Nat.reduceAdd, Nat.reduceMul, Nat.reduceSub, Nat.reduceLT, Nat.reduceLeDiff, Nat.reduceEqDiff, Nat.reduceBEq, Nat.reduceBNe, Int.reduceLT, Int.reduceLE, Int.reduceEq, Int.reduceNe, Int.reduceAdd, Int.reduceSub, Int.reduceNeg, Int.reduceToNat, Int.reduceMul, ↓reduceIte, Int.reduceGT, Int.reduceGE]
      exact W
  rintro F g ⟨f0, f2, f9, f10, ⟨wk, wl, w, bw, cw, w1, rfl, _, w5, w4, y, y1, y2, y3⟩⟩
  simp (disch := first | omega | (simp only [fsLen]; omega)) only [↓fsPre, fsPost, fsCond, fsGen, fsDefs, cls, eqVal, vbGen, fill_bits, reduceCtorEq, Nat.reduceAdd, Nat.reduceMul, Nat.reduceSub, Nat.reduceLT, Nat.reduceLeDiff, Nat.reduceEqDiff, Nat.reduceBEq, Nat.reduceBNe, Int.reduceLT, Int.reduceLE, Int.reduceEq, Int.reduceNe, Int.reduceAdd, Int.reduceSub, Int.reduceNeg, Int.reduceToNat, Int.reduceMul, ↓reduceIte, Int.reduceGT, Int.reduceGE]
  obtain ⟨bl, il, ll, rl, hfl⟩ := hlast
  have hatl := ht.at_.find (pathB bits m v)
  rw [hfl] at hatl
  have hbl0 := hatl.1
  have lbl := hget_some_lt hbl0
  have hbl := (wk bl lbl).trans hbl0
  have W0 : WayR H g bits m v t bw cw y := ⟨w1, w4, y1, y2, by omega, fun b c e => (y3 b c e).2⟩
  refine fwp_cutJ (fun F g => F 0 = .ptr (some (q, 0)) ∧ F 2 = .int .i64 m ∧ F 9 = .ptr (some (H.length + 2, 0)) ∧ F 10 = .ptr (some (H.length + 3, 0)) ∧ F 12 = .ptr (some (bl, 0)) ∧ (∀ b, b < H.length → hget g b = hget H b) ∧ H.length + 7 ≤ g.length ∧ WayR H g bits m v t bw cw y) ?_ ?_
  · simp only [remE, t17, NCode.a1, NCode.a2]
    have l1 := hget_some_lt w1
    have l2 := hget_some_lt w4
    have hwg := wayV_get (bits := bits) (v := v) (t := t) (Nat.le_refl m)
    rw [hfl, ptr_nd] at hwg
    simp (disch := first | omega | (simp only [fsLen]; omega)) only [↓fsPre, fsPost, fsCond, fsGen, fsDefs, cls, eqVal, vbGen, fill_bits, reduceCtorEq, Nat.reduceAdd, Nat.reduceMul, Nat.reduceSub, Nat.reduceLT, Nat.reduceLeDiff, Nat.reduceEqDiff, Nat.reduceBEq, Nat.reduceBNe, Int.reduceLT, Int.reduceLE, Int.reduceEq, Int.reduceNe, Int.reduceAdd, Int.reduceSub, Int.reduceNeg, Int.reduceToNat, Int.reduceMul, ↓reduceIte, Int.reduceGT, Int.reduceGE, f0, f2, f9, f10, w1, w4, hwg]
    exact ⟨wk, wl, W0⟩
  clear wk wl w1 w5 w4 y1 y2 y3 W0 hbl f0 f2 f9 f10 F g
  rintro F g ⟨f0, f2, f9, f10, f12, wk, wl, W⟩
  simp (disch := first | omega | (simp only [fsLen]; omega)) only [↓fsPre, fsPost, fsCond, fsGen, fsDefs, cls, eqVal, vbGen, fill_bits, reduceCtorEq, Nat.reduceAdd, Nat.reduceMul, Nat.reduceSub, Nat.reduceLT, Nat.reduceLeDiff, Nat.reduceEqDiff, Nat.reduceBEq, Nat.reduceBNe, Int.reduceLT, Int.reduceLE, Int.reduceEq, Int.reduceNe, Int.reduceAdd, Int.reduceSub, Int.reduceNeg, Int.reduceToNat, Int.reduceMul, ↓reduceIte, Int.reduceGT, Int.reduceGE]
  have hbl := (wk bl lbl).trans hbl0
  have lbg := hget_some_lt hbl
  refine fwp_cutJ (fun F g => F 0 = .ptr (some (q, 0)) ∧ F 2 = .int .i64 m ∧ F 9 = .ptr (some (H.length + 2, 0)) ∧ F 10 = .ptr (some (H.length + 3, 0)) ∧ H.length + 7 ≤ g.length ∧ (∃ tt, RemI H q bits t (t.er.rem (pathB bits m v)) (pathB bits m v) g tt) ∧ WayR H g bits m v t bw cw y) ?_ ?_
  · simp only [remF, t17, NCode.a1, NCode.a2]
    simp (disch := first | omega | (simp only [fsLen]; omega)) only [↓fsPre, fsPost, fsCond, fsGen, fsDefs, cls, eqVal, vbGen, fill_bits, reduceCtorEq, Nat.reduceAdd, Nat.reduceMul, Nat.reduceSub, Nat.reduceLT, Nat.reduceLeDiff, Nat.reduceEqDiff, Nat.reduceBEq, Nat.reduceBNe, Int.reduceLT, Int.reduceLE, Int.reduceEq, Int.reduceNe, Int.reduceAdd, Int.reduceSub, Int.reduceNeg, Int.reduceToNat, Int.reduceMul, ↓reduceIte, Int.reduceGT, Int.reduceGE, f0, f2, f9, f10, f12, hbl]
    refine ⟨wl, RemI.start (h := g) (ht.keep fun b hb => wk b (ht.lt hb)) hfl wk (hget_hset_same lbg) (fun c hc h1 => hget_hset_ne (Ne.symm h1)) (by omega), W.mono fun b hb => hget_hset_ne (by omega)⟩
  clear wk wl W hbl f0 f2 f9 f10 f12 F lbg g
  rintro F g ⟨f0, f2, f9, f10, wl, R, W⟩
  simp (disch := first | omega | (simp only [fsLen]; omega)) only [↓fsPre, fsPost, fsCond, fsGen, fsDefs, cls, eqVal, vbGen, fill_bits, reduceCtorEq, Nat.reduceAdd, Nat.reduceMul, Nat.reduceSub, Nat.reduceLT, Nat.reduceLeDiff, Nat.reduceEqDiff, Nat.reduceBEq, Nat.reduceBNe, Int.reduceLT, Int.reduceLE, Int.reduceEq, Int.reduceNe, Int.reduceAdd, Int.reduceSub, Int.reduceNeg, Int.reduceToNat, Int.reduceMul, ↓reduceIte, Int.reduceGT, Int.reduceGE]
  refine fwp_cutJ (fun F g => F 0 = .ptr (some (q, 0)) ∧ H.length + 7 ≤ g.length ∧ (∃ tt, RemI H q bits t (t.er.rem (pathB bits m v)) [] g tt)) ?_ ?_
  · simp only [remG, t17, NCode.a1, NCode.a2]
    simp (disch := first | omega | (simp only [fsLen]; omega)) only [↓fsPre, fsPost, fsCond, fsGen, fsDefs, cls, eqVal, vbGen, fill_bits, reduceCtorEq, Nat.reduceAdd, Nat.reduceMul, Nat.reduceSub, Nat.reduceLT, Nat.reduceLeDiff, Nat.reduceEqDiff, Nat.reduceBEq, Nat.reduceBNe, Int.reduceLT, Int.reduceLE, Int.reduceEq, Int.reduceNe, Int.reduceAdd, Int.reduceSub, Int.reduceNeg, Int.reduceToNat, Int.reduceMul, ↓reduceIte, Int.reduceGT, Int.reduceGE, f2]
    refine wloopm (fun s F g => F 0 = .ptr (some (q, 0)) ∧ F 9 = .ptr (some (H.length + 2, 0)) ∧ F 10 = .ptr (some (H.length + 3, 0)) ∧ F 13 = .int .i64 ((s : Int) - 1) ∧ s ≤ m ∧ H.length + 7 ≤ g.length ∧ (∃ tt, RemI H q bits t (t.er.rem (pathB bits m v)) (pathB bits s v) g tt) ∧ WayR H g bits m v t bw cw y) m ?_ ?_
    · simp (disch := first | omega | (simp only [fsLen]; omega)) only [↓fsPre, fsPost, fsCond, fsGen, fsDefs, cls, eqVal, vbGen, fill_bits, reduceCtorEq, Nat.reduceAdd, Nat.reduceMul, Nat.reduceSub, Nat.reduceLT, Nat.reduceLeDiff, Nat.reduceEqDiff, Nat.reduceBEq, Nat.reduceBNe, Int.reduceLT, Int.reduceLE, Int.reduceEq, Int.reduceNe, Int.reduceAdd, Int.reduceSub, Int.reduceNeg, Int.reduceToNat, Int.reduceMul, ↓reduceIte, Int.reduceGT, Int.reduceGE, f0, f9, f10]
      exact ⟨wl, R, W⟩
    · rintro s F g ⟨f0, f9, f10, f13, hs, wl, ⟨tt, I⟩, W⟩
      cases s with
      | zero =>
        simp (disch := first | omega | (simp only [fsLen]; omega)) only [↓fsPre, fsPost, fsCond, fsGen, fsDefs, cls, eqVal, vbGen, fill_bits, reduceCtorEq, Nat.reduceAdd, Nat.reduceMul, Nat.reduceSub, Nat.reduceLT, Nat.reduceLeDiff, Nat.reduceEqDiff, Nat.reduceBEq, Nat.reduceBNe, Int.reduceLT, Int.reduceLE, Int.reduceEq, Int.reduceNe, Int.reduceAdd, Int.reduceSub, Int.reduceNeg, Int.reduceToNat, Int.reduceMul, ↓reduceIte, Int.reduceGT, Int.reduceGE, f13]
        exact ⟨f0, wl, tt, I⟩
      | succ s =>
        have f13 : F 13 = .int .i64 s := by rw [f13]; congr 1; omega
        have hd : decide ((s : Int) ≥ 0) = true := by simp
        obtain ⟨w1, w2, w3, w4, b1, b2⟩ := id W
        have l1 := hget_some_lt w1
        have l2 := hget_some_lt w2
        have l3 := hget_some_lt w3
        have hst := pathB_succ (bits := bits) (n := s) (v := v)
        have hw1 : (wayV bits m v t)[s + 1]? = some (tt.find (pathB bits (s + 1) v)).ptr := by
          rw [wayV_get hs, I.ab _ [] (by simp)]
        have hw0 : (wayV bits m v t)[s]? = some (tt.find (pathB bits s v)).ptr := by
          rw [wayV_get (by omega), I.ab _ [bitAt bits v s] hst]
        have hn1 := I.ne
        have hn0 : tt.find (pathB bits s v) ≠ .nil := TT.find_up (q := [bitAt bits v s]) (by rw [← hst]; exact I.ne)
        have hat1 := I.tr.at_.find (pathB bits (s + 1) v)
        have hat0 := I.tr.at_.find (pathB bits s v)
        have hfull := I.full
        have hstep := fun g' => RemI.step (h' := g') (p := pathB bits s v) (x := bitAt bits v s) (by rw [← hst]; exact I)
        rw [← hst] at hstep
        cases hf1 : tt.find (pathB bits (s + 1) v) with
        | nil => exact absurd hf1 hn1
        | node b u i l r =>
          rw [hf1] at hat1 hw1 hfull hstep
          rw [ptr_nd] at hw1
          have hb1 := hat1.1
          have lb1 := hget_some_lt hb1
          simp (disch := first | omega | (simp only [fsLen]; omega)) only [↓fsPre, fsPost, fsCond, fsGen, fsDefs, cls, eqVal, vbGen, fill_bits, reduceCtorEq, Nat.reduceAdd, Nat.reduceMul, Nat.reduceSub, Nat.reduceLT, Nat.reduceLeDiff, Nat.reduceEqDiff, Nat.reduceBEq, Nat.reduceBNe, Int.reduceLT, Int.reduceLE, Int.reduceEq, Int.reduceNe, Int.reduceAdd, Int.reduceSub, Int.reduceNeg, Int.reduceToNat, Int.reduceMul, ↓reduceIte, Int.reduceGT, Int.reduceGE, f0, f9, f10, f13, hd, w1, w2, w3, hw1]
          refine callT_one (tempty_ok _ b u i l r hb1) rfl ?_
          simp (disch := first | omega | (simp only [fsLen]; omega)) only [↓fsPre, fsPost, fsCond, fsGen, fsDefs, cls, eqVal, vbGen, fill_bits, reduceCtorEq, Nat.reduceAdd, Nat.reduceMul, Nat.reduceSub, Nat.reduceLT, Nat.reduceLeDiff, Nat.reduceEqDiff, Nat.reduceBEq, Nat.reduceBNe, Int.reduceLT, Int.reduceLE, Int.reduceEq, Int.reduceNe, Int.reduceAdd, Int.reduceSub, Int.reduceNeg, Int.reduceToNat, Int.reduceMul, ↓reduceIte, Int.reduceGT, Int.reduceGE]
          refine condK_bool (fun he => ?_) (fun he => ?_)
          · cases hf0 : tt.find (pathB bits s v) with
            | nil => exact absurd hf0 hn0
            | node b' u' i' l' r' =>
              rw [hf0] at hat0 hw0
              rw [ptr_nd] at hw0
              have hb0 := hat0.1
              have lb0 := hget_some_lt hb0
              have hbH : b' < H.length := ht.lt (.inr (I.new _ (TT.find_bl (pathB bits s v) tt b' (by rw [hf0]; exact List.mem_cons_self ..)))) 
              rcases w4 with ⟨y4, _⟩ | ⟨by_, cy, rfl, y5, y6, y7⟩
              · have := congrArg List.length y4; rw [pathV_length] at this; simp at this; omega
              have ly := hget_some_lt y6
              have hy := pathV_at (bits := bits) (m := m) (v := v) (k := s) (by omega)
              have hlen : (pathV bits m v).length = m := pathV_length
              have hbm : s < m := by omega
              have hW := W
              cases hx : bitAt bits v s with
              | false =>
                rw [hx, bitNV_f] at hy
                rw [hx] at hstep
                simp (disch := first | omega | (simp only [fsLen]; omega)) only [↓fsPre, fsPost, fsCond, fsGen, fsDefs, cls, eqVal, vbGen, fill_bits, reduceCtorEq, Nat.reduceAdd, Nat.reduceMul, Nat.reduceSub, Nat.reduceLT, Nat.reduceLeDiff, Nat.reduceEqDiff, Nat.reduceBEq, Nat.reduceBNe, Int.reduceLT, Int.reduceLE, Int.reduceEq, Int.reduceNe, Int.reduceAdd, Int.reduceSub, Int.reduceNeg, Int.reduceToNat, Int.reduceMul, ↓reduceIte, Int.reduceGT, Int.reduceGE, f0, f9, f10, f13, w1, w2, w3, hw0, y6, hy, hlen, hb0]
                rw [hlen] at hW
                refine ⟨s, by omega, rfl, by omega, wl, hstep _ he hf0 (by rw [hget_hset_same lb0]; rfl) (fun c hc h1 => hget_hset_ne (Ne.symm h1)) (by omega), hW.mono fun c hc => hget_hset_ne (by omega)⟩
              | true =>
                rw [hx, bitNV_t] at hy
                rw [hx] at hstep
                simp (disch := first | omega | (simp only [fsLen]; omega)) only [↓fsPre, fsPost, fsCond, fsGen, fsDefs, cls, eqVal, vbGen, fill_bits, reduceCtorEq, Nat.reduceAdd, Nat.reduceMul, Nat.reduceSub, Nat.reduceLT, Nat.reduceLeDiff, Nat.reduceEqDiff, Nat.reduceBEq, Nat.reduceBNe, Int.reduceLT, Int.reduceLE, Int.reduceEq, Int.reduceNe, Int.reduceAdd, Int.reduceSub, Int.reduceNeg, Int.reduceToNat, Int.reduceMul, ↓reduceIte, Int.reduceGT, Int.reduceGE, f0, f9, f10, f13, w1, w2, w3, hw0, y6, hy, hlen, hb0]
                rw [hlen] at hW
                refine ⟨s, by omega, rfl, by omega, wl, hstep _ he hf0 (by rw [hget_hset_same lb0]; rfl) (fun c hc h1 => hget_hset_ne (Ne.symm h1)) (by omega), hW.mono fun c hc => hget_hset_ne (by omega)⟩
          · simp (disch := first | omega | (simp only [fsLen]; omega)) only [↓fsPre, fsPost, fsCond, fsGen, fsDefs, cls, eqVal, vbGen, fill_bits, reduceCtorEq, Nat.reduceAdd, Nat.reduceMul, Nat.reduceSub, Nat.reduceLT, Nat.reduceLeDiff, Nat.reduceEqDiff, Nat.reduceBEq, Nat.reduceBNe, Int.reduceLT, Int.reduceLE, Int.reduceEq, Int.reduceNe, Int.reduceAdd, Int.reduceSub, Int.reduceNeg, Int.reduceToNat, Int.reduceMul, ↓reduceIte, Int.reduceGT, Int.reduceGE]
            exact ⟨f0, wl, tt, hfull he⟩
  rintro F g ⟨f0, wl, tt, I⟩
  simp (disch := first | omega | (simp only [fsLen]; omega)) only [↓fsPre, fsPost, fsCond, fsGen, fsDefs, cls, eqVal, vbGen, fill_bits, reduceCtorEq, Nat.reduceAdd, Nat.reduceMul, Nat.reduceSub, Nat.reduceLT, Nat.reduceLeDiff, Nat.reduceEqDiff, Nat.reduceBEq, Nat.reduceBNe, Int.reduceLT, Int.reduceLE, Int.reduceEq, Int.reduceNe, Int.reduceAdd, Int.reduceSub, Int.reduceNeg, Int.reduceToNat, Int.reduceMul, ↓reduceIte, Int.reduceGT, Int.reduceGE]
  simp only [remH, t17, NCode.a1, NCode.a2]
  cases tt with
  | nil => exact absurd (TT.find_empty _) I.ne
  | node b u i l r =>
    have hq2 := I.tr.hd
    rw [ptr_nd] at hq2
    have lq2 := hget_some_lt hq2
    have hb2 := I.tr.at_.1
    simp (disch := first | omega | (simp only [fsLen]; omega)) only [↓fsPre, fsPost, fsCond, fsGen, fsDefs, cls, eqVal, vbGen, fill_bits, reduceCtorEq, Nat.reduceAdd, Nat.reduceMul, Nat.reduceSub, Nat.reduceLT, Nat.reduceLeDiff, Nat.reduceEqDiff, Nat.reduceBEq, Nat.reduceBNe, Int.reduceLT, Int.reduceLE, Int.reduceEq, Int.reduceNe, Int.reduceAdd, Int.reduceSub, Int.reduceNeg, Int.reduceToNat, Int.reduceMul, ↓reduceIte, Int.reduceGT, Int.reduceGE, f0, hq2]
    refine callT_one (tempty_ok _ b u i l r hb2) rfl ?_
    simp (disch := first | omega | (simp only [fsLen]; omega)) only [↓fsPre, fsPost, fsCond, fsGen, fsDefs, cls, eqVal, vbGen, fill_bits, reduceCtorEq, Nat.reduceAdd, Nat.reduceMul, Nat.reduceSub, Nat.reduceLT, Nat.reduceLeDiff, Nat.reduceEqDiff, Nat.reduceBEq, Nat.reduceBNe, Int.reduceLT, Int.reduceLE, Int.reduceEq, Int.reduceNe, Int.reduceAdd, Int.reduceSub, Int.reduceNeg, Int.reduceToNat, Int.reduceMul, ↓reduceIte, Int.reduceGT, Int.reduceGE]
    have her := I.er
    have hup : (TT.node b u i l r).er.up [] = (TT.node b u i l r).er.clean := rfl
    rw [hup] at her
    unfold T.clean at her
    refine condK_bool (fun he => ?_) (fun he => ?_)
    · rw [if_pos (show (TT.node b u i l r).er.empty = true from he)] at her
      simp (disch := first | omega | (simp only [fsLen]; omega)) only [↓fsPre, fsPost, fsCond, fsGen, fsDefs, cls, eqVal, vbGen, fill_bits, reduceCtorEq, Nat.reduceAdd, Nat.reduceMul, Nat.reduceSub, Nat.reduceLT, Nat.reduceLeDiff, Nat.reduceEqDiff, Nat.reduceBEq, Nat.reduceBNe, Int.reduceLT, Int.reduceLE, Int.reduceEq, Int.reduceNe, Int.reduceAdd, Int.reduceSub, Int.reduceNeg, Int.reduceToNat, Int.reduceMul, ↓reduceIte, Int.reduceGT, Int.reduceGE, f0, hq2]
      simp only [remJ, t17, NCode.a1, NCode.a2]
      simp (disch := first | omega | (simp only [fsLen]; omega)) only [↓fsPre, fsPost, fsCond, fsGen, fsDefs, cls, eqVal, vbGen, fill_bits, reduceCtorEq, Nat.reduceAdd, Nat.reduceMul, Nat.reduceSub, Nat.reduceLT, Nat.reduceLeDiff, Nat.reduceEqDiff, Nat.reduceBEq, Nat.reduceBNe, Int.reduceLT, Int.reduceLE, Int.reduceEq, Int.reduceNe, Int.reduceAdd, Int.reduceSub, Int.reduceNeg, Int.reduceToNat, Int.reduceMul, ↓reduceIte, Int.reduceGT, Int.reduceGE]
      refine ⟨.nil, ⟨by rw [hget_hset_same lq2]; rfl, trivial, by simp [TT.bl]⟩, her, fun c hc k1 k2 => by rw [hget_hset_ne (Ne.symm k1)]; exact I.keep c hc k1 k2, (fun c hc => by cases hc), by rw [length_hset]; omega⟩
    · rw [if_neg (by rw [show (TT.node b u i l r).er.empty = false from he]; simp)] at her
      simp (disch := first | omega | (simp only [fsLen]; omega)) only [↓fsPre, fsPost, fsCond, fsGen, fsDefs, cls, eqVal, vbGen, fill_bits, reduceCtorEq, Nat.reduceAdd, Nat.reduceMul, Nat.reduceSub, Nat.reduceLT, Nat.reduceLeDiff, Nat.reduceEqDiff, Nat.reduceBEq, Nat.reduceBNe, Int.reduceLT, Int.reduceLE, Int.reduceEq, Int.reduceNe, Int.reduceAdd, Int.reduceSub, Int.reduceNeg, Int.reduceToNat, Int.reduceMul, ↓reduceIte, Int.reduceGT, Int.reduceGE, f0, hq2]
      simp only [remJ, t17, NCode.a1, NCode.a2]
      simp (disch := first | omega | (simp only [fsLen]; omega)) only [↓fsPre, fsPost, fsCond, fsGen, fsDefs, cls, eqVal, vbGen, fill_bits, reduceCtorEq, Nat.reduceAdd, Nat.reduceMul, Nat.reduceSub, Nat.reduceLT, Nat.reduceLeDiff, Nat.reduceEqDiff, Nat.reduceBEq, Nat.reduceBNe, Int.reduceLT, Int.reduceLE, Int.reduceEq, Int.reduceNe, Int.reduceAdd, Int.reduceSub, Int.reduceNeg, Int.reduceToNat, Int.reduceMul, ↓reduceIte, Int.reduceGT, Int.reduceGE]
      exact ⟨_, I.tr, her, I.keep, fun c hc => .inl (I.new c hc), by omega⟩

theorem visit_nil (G : Heap) (B : Nat) (h3 : hget G (B + 3) = some (.cells [.ptr none] false)) :
    NCall Try.prog 37 [.ptr (some (B + 3, 0)), .ptr (some (B + 4, 0)), .ptr (some (B, 0)), .ptr (some (B + 1, 0)), .ptr (some (B + 2, 0))] G fun r => r = (.tup [], G) := by
  refine call_of E0 mixed t37_ok (by kernel_rfl) (by rintro q rfl; simp) ?_
  simp only [t37]
  simp (disch := first | omega | (simp only [fsLen]; omega)) only [↓fsPre, fsPost, fsCond, fsGen, fsDefs, cls, eqVal, vbGen, fill_bits, reduceCtorEq, Nat.reduceAdd, Nat.reduceMul, Nat.reduceSub, Nat.reduceLT, Nat.reduceLeDiff, Nat.reduceEqDiff, Nat.reduceBEq, Nat.reduceBNe, Int.reduceLT, Int.reduceLE, Int.reduceEq, Int.reduceNe, Int.reduceAdd, Int.reduceSub, Int.reduceNeg, Int.reduceToNat, Int.reduceMul, ↓reduceIte, Int.reduceGT, Int.reduceGE, h3, eqc_nn]
theorem visit_no (G : Heap) (B b : Nat) (l r i : NV) (h3 : hget G (B + 3) = some (.cells [.ptr (some (b, 0))] false)) (hb : hget G b = some (.cells [l, r, .bool false, i] false)) :
    NCall Try.prog 37 [.ptr (some (B + 3, 0)), .ptr (some (B + 4, 0)), .ptr (some (B, 0)), .ptr (some (B + 1, 0)), .ptr (some (B + 2, 0))] G fun r => r = (.tup [], G) := by
  refine call_of E0 mixed t37_ok (by kernel_rfl) (by rintro q rfl; simp) ?_
  simp only [t37]
  have lb := hget_some_lt hb
  have l3 := hget_some_lt h3
  simp (disch := first | omega | (simp only [fsLen]; omega)) only [↓fsPre, fsPost, fsCond, fsGen, fsDefs, cls, eqVal, vbGen, fill_bits, reduceCtorEq, Nat.reduceAdd, Nat.reduceMul, Nat.reduceSub, Nat.reduceLT, Nat.reduceLeDiff, Nat.reduceEqDiff, Nat.reduceBEq, Nat.reduceBNe, Int.reduceLT, Int.reduceLE, Int.reduceEq, Int.reduceNe, Int.reduceAdd, Int.reduceSub, Int.reduceNeg, Int.reduceToNat, Int.reduceMul, ↓reduceIte, Int.reduceGT, Int.reduceGE, h3, hb, eqc_pn]
theorem visit_yes (G : Heap) (B b : Nat) (l r : NV) (i d : Int) (x0 x1 x2 : NV) (h0 : hget G B = some (.cells [x0] false)) (h1 : hget G (B + 1) = some (.cells [x1] false)) (h2 : hget G (B + 2) = some (.cells [x2] false)) (h3 : hget G (B + 3) = some (.cells [.ptr (some (b, 0))] false)) (h4 : hget G (B + 4) = some (.cells [.int .i64 d] false))
    (hb : hget G b = some (.cells [l, r, .bool true, .int .i64 i] false)) :
    NCall Try.prog 37 [.ptr (some (B + 3, 0)), .ptr (some (B + 4, 0)), .ptr (some (B, 0)), .ptr (some (B + 1, 0)), .ptr (some (B + 2, 0))] G fun r => r = (.tup [], hset (hset (hset G B (.cells [.int .i64 d] false)) (B + 1) (.cells [.int .i64 i] false)) (B + 2) (.cells [.bool true] false)) := by
  refine call_of E0 mixed t37_ok (by kernel_rfl) (by rintro q rfl; simp) ?_
  simp only [t37]
  have lb := hget_some_lt hb
  have l3 := hget_some_lt h3
  have l0 := hget_some_lt h0
  have l1 := hget_some_lt h1
  have l2 := hget_some_lt h2
  have l4 := hget_some_lt h4
  have ne : ∀ {c : Nat} {x : NV}, hget G c = some (.cells [x] false) → b ≠ c := by
    rintro c x h rfl
    rw [hb] at h; simp at h
  have hb2 : hget (hset G B (.cells [.int .i64 d] false)) b = some (.cells [l, r, .bool true, .int .i64 i] false) := by rw [hget_hset_ne (Ne.symm (ne h0))]; exact hb
  simp (disch := first | omega | (simp only [fsLen]; omega)) only [↓fsPre, fsPost, fsCond, fsGen, fsDefs, cls, eqVal, vbGen, fill_bits, reduceCtorEq, Nat.reduceAdd, Nat.reduceMul, Nat.reduceSub, Nat.reduceLT, Nat.reduceLeDiff, Nat.reduceEqDiff, Nat.reduceBEq, Nat.reduceBNe, Int.reduceLT, Int.reduceLE, Int.reduceEq, Int.reduceNe, Int.reduceAdd, Int.reduceSub, Int.reduceNeg, Int.reduceToNat, Int.reduceMul, ↓reduceIte, Int.reduceGT, Int.reduceGE, h0, h1, h2, h3, h4, hb, hb2, eqc_pn]
theorem tlong_nil (H : Heap) (v : BitVec 128) : NCall Try.prog 14 [.ptr none, vnv v] H fun r => r = (.tup [.int .i64 0, .int .i64 0, .bool false], H) := by
  refine call_pure E0 mixed t14_ok (by kernel_rfl) ⟨trivial, trivial, trivial, trivial⟩ ?_
  simp only [t14, vnv]
  simp (disch := first | omega | (simp only [fsLen]; omega)) only [↓fsPre, fsPost, fsCond, fsGen, fsDefs, cls, eqVal, vbGen, fill_bits, reduceCtorEq, Nat.reduceAdd, Nat.reduceMul, Nat.reduceSub, Nat.reduceLT, Nat.reduceLeDiff, Nat.reduceEqDiff, Nat.reduceBEq, Nat.reduceBNe, Int.reduceLT, Int.reduceLE, Int.reduceEq, Int.reduceNe, Int.reduceAdd, Int.reduceSub, Int.reduceNeg, Int.reduceToNat, Int.reduceMul, ↓reduceIte, Int.reduceGT, Int.reduceGE, eqc_nn]
  exact ⟨_, rfl⟩

def lonA : NCode := t14.body.a1
def lonB : NCode := t14.body.a2.a1
def lonC : NCode := t14.body.a2.a2.a1
def lonD : NCode := t14.body.a2.a2.a2.a1
def lonE : NCode := t14.body.a2.a2.a2.a2.a1
def lonF : NCode := t14.body.a2.a2.a2.a2.a2.a1
def lonG : NCode := t14.body.a2.a2.a2.a2.a2.a2.a1
def lonH : NCode := t14.body.a2.a2.a2.a2.a2.a2.a2
theorem lon_body : t14.body = .seq lonA (.seq lonB (.seq lonC (.seq lonD (.seq lonE (.seq lonF (.seq lonG lonH)))))) := rfl
theorem lon_res : t14.res = [.tmp 4, .tmp 5, .tmp 6] := rfl
/-- What Longest keeps. -/
def lonL (v : BitVec 128) (f : NV) (a : Nat × Int × Bool) (p : NV) (d : Int) : Heap := [some (.cells [nb (hiOf v), nb (loOf v)] false), some (.cells [.int .i64 (a.1 : Nat)] false), some (.cells [.int .i64 a.2.1] false), some (.cells [.bool a.2.2] false), some (.cells [p] false), some (.cells [.int .i64 d] false), some (.cells [f] false)]
def lonBx (q bits : Nat) (v : BitVec 128) : Heap := [some (.cells [.ptr (some (q, 0))] false), some (.cells [nb (hiOf v), nb (loOf v)] false), some (.cells [.int .i64 bits] false)]
def lonF0 (N : Nat) : NV := .func (.func 37) [] [.ptr (some (N + 1 + 3, 0)), .ptr (some (N + 1 + 4, 0)), .ptr (some (N + 1, 0)), .ptr (some (N + 1 + 1, 0)), .ptr (some (N + 1 + 2, 0))]
/-- A visit. -/
theorem visit_ok (H L : Heap) (v : BitVec 128) (f : NV) (a : Nat × Int × Bool) (d : Nat) (t : TT) (ht : TAt H t) :
    NCall Try.prog 37 [.ptr (some (H.length + 1 + 3, 0)), .ptr (some (H.length + 1 + 4, 0)), .ptr (some (H.length + 1, 0)), .ptr (some (H.length + 1 + 1, 0)), .ptr (some (H.length + 1 + 2, 0))] (H ++ (lonL v f a t.ptr d ++ L)) fun r => r = (.tup [], H ++ (lonL v f (t.er.vis d a) t.ptr d ++ L)) := by
  cases t with
  | nil => exact visit_nil _ _ (by unfold lonL; simp (disch := first | omega | (simp only [fsLen]; omega)) only [↓fsPre, fsPost, fsCond, fsGen, fsDefs, cls, eqVal, vbGen, fill_bits, reduceCtorEq, Nat.reduceAdd, Nat.reduceMul, Nat.reduceSub, Nat.reduceLT, Nat.reduceLeDiff, Nat.reduceEqDiff, Nat.reduceBEq, Nat.reduceBNe, Int.reduceLT, Int.reduceLE, Int.reduceEq, Int.reduceNe, Int.reduceAdd, Int.reduceSub, Int.reduceNeg, Int.reduceToNat, Int.reduceMul, ↓reduceIte, Int.reduceGT, Int.reduceGE, ptr_nl])
  | node b u i l r =>
    have hb := ht.1
    have lb := hget_some_lt hb
    cases u with
    | false => exact visit_no _ _ b l.ptr r.ptr (.int .i64 i) (by unfold lonL; simp (disch := first | omega | (simp only [fsLen]; omega)) only [↓fsPre, fsPost, fsCond, fsGen, fsDefs, cls, eqVal, vbGen, fill_bits, reduceCtorEq, Nat.reduceAdd, Nat.reduceMul, Nat.reduceSub, Nat.reduceLT, Nat.reduceLeDiff, Nat.reduceEqDiff, Nat.reduceBEq, Nat.reduceBNe, Int.reduceLT, Int.reduceLE, Int.reduceEq, Int.reduceNe, Int.reduceAdd, Int.reduceSub, Int.reduceNeg, Int.reduceToNat, Int.reduceMul, ↓reduceIte, Int.reduceGT, Int.reduceGE, ptr_nd]) (by rw [hget_appl lb]; exact hb)
    | true =>
      have h := visit_yes (H ++ (lonL v f a (TT.node b true i l r).ptr d ++ L)) (H.length + 1) b l.ptr r.ptr i d (.int .i64 (a.1 : Nat)) (.int .i64 a.2.1) (.bool a.2.2) (by unfold lonL; simp (disch := first | omega | (simp only [fsLen]; omega)) only [↓fsPre, fsPost, fsCond, fsGen, fsDefs, cls, eqVal, vbGen, fill_bits, reduceCtorEq, Nat.reduceAdd, Nat.reduceMul, Nat.reduceSub, Nat.reduceLT, Nat.reduceLeDiff, Nat.reduceEqDiff, Nat.reduceBEq, Nat.reduceBNe, Int.reduceLT, Int.reduceLE, Int.reduceEq, Int.reduceNe, Int.reduceAdd, Int.reduceSub, Int.reduceNeg, Int.reduceToNat, Int.reduceMul, ↓reduceIte, Int.reduceGT, Int.reduceGE]) (by unfold lonL; simp (disch := first | omega | (simp only [fsLen]; omega)) only [↓fsPre, fsPost, fsCond, fsGen, fsDefs, cls, eqVal, vbGen, fill_bits, reduceCtorEq, Nat.reduceAdd, Nat.reduceMul, Nat.reduceSub, Nat.reduceLT, Nat.reduceLeDiff, Nat.reduceEqDiff, Nat.reduceBEq, Nat.reduceBNe, Int.reduceLT, Int.reduceLE, Int.reduceEq, Int.reduceNe, Int.reduceAdd, Int.reduceSub, Int.reduceNeg, Int.reduceToNat, Int.reduceMul, ↓reduceIte, Int.reduceGT, Int.reduceGE]) (by unfold lonL; simp (disch := first | omega | (simp only [fsLen]; omega)) only [↓fsPre, fsPost, fsCond, fsGen, fsDefs, cls, eqVal, vbGen, fill_bits, reduceCtorEq, Nat.reduceAdd, Nat.reduceMul, Nat.reduceSub, Nat.reduceLT, Nat.reduceLeDiff, Nat.reduceEqDiff, Nat.reduceBEq, Nat.reduceBNe, Int.reduceLT, Int.reduceLE, Int.reduceEq, Int.reduceNe, Int.reduceAdd, Int.reduceSub, Int.reduceNeg, Int.reduceToNat, Int.reduceMul, ↓reduceIte, Int.reduceGT, Int.reduceGE]) (by unfold lonL; simp (disch := first | omega | (simp only [fsLen]; omega)) only [↓fsPre, fsPost, fsCond, fsGen, fsDefs, cls, eqVal, vbGen, fill_bits, reduceCtorEq, Nat.reduceAdd, Nat.reduceMul, Nat.reduceSub, Nat.reduceLT, Nat.reduceLeDiff, Nat.reduceEqDiff, Nat.reduceBEq, Nat.reduceBNe, Int.reduceLT, Int.reduceLE, Int.reduceEq, Int.reduceNe, Int.reduceAdd, Int.reduceSub, Int.reduceNeg, Int.reduceToNat, Int.reduceMul, ↓reduceIte, Int.reduceGT, Int.reduceGE, ptr_nd]) (by unfold lonL; simp (disch := first | omega | (simp only [fsLen]; omega)) only [↓fsPre, fsPost, fsCond, fsGen, fsDefs, cls, eqVal, vbGen, fill_bits, reduceCtorEq, Nat.reduceAdd, Nat.reduceMul, Nat.reduceSub, Nat.reduceLT, Nat.reduceLeDiff, Nat.reduceEqDiff, Nat.reduceBEq, Nat.reduceBNe, Int.reduceLT, Int.reduceLE, Int.reduceEq, Int.reduceNe, Int.reduceAdd, Int.reduceSub, Int.reduceNeg, Int.reduceToNat, Int.reduceMul, ↓reduceIte, Int.reduceGT, Int.reduceGE]) (by rw [hget_appl lb]; exact hb)
      have e : hset (hset (hset (H ++ (lonL v f a (TT.node b true i l r).ptr d ++ L)) (H.length + 1) (.cells [.int .i64 d] false)) (H.length + 1 + 1) (.cells [.int .i64 i] false)) (H.length + 1 + 2) (.cells [.bool true] false) = H ++ (lonL v f ((TT.node b true i l r).er.vis d a) (TT.node b true i l r).ptr d ++ L) := by
        unfold lonL TT.er T.vis
        simp (disch := first | omega | (simp only [fsLen]; omega)) only [↓fsPre, fsPost, fsCond, fsGen, fsDefs, cls, eqVal, vbGen, fill_bits, reduceCtorEq, Nat.reduceAdd, Nat.reduceMul, Nat.reduceSub, Nat.reduceLT, Nat.reduceLeDiff, Nat.reduceEqDiff, Nat.reduceBEq, Nat.reduceBNe, Int.reduceLT, Int.reduceLE, Int.reduceEq, Int.reduceNe, Int.reduceAdd, Int.reduceSub, Int.reduceNeg, Int.reduceToNat, Int.reduceMul, ↓reduceIte, Int.reduceGT, Int.reduceGE]
      rw [e] at h
      exact h

set_option maxHeartbeats 1000000 in
theorem tlong_ok (H : Heap) (q bits : Nat) (t : TT) (v : BitVec 128) (hb : bits ≤ 128) (ht : TrieAt H q bits t) :
    NCall Try.prog 14 [.ptr (some (q, 0)), vnv v] H fun r => r = (let a := if bl v.toNat ≤ bits then t.er.long (pathB bits bits v) 0 (0, 0, false) else (0, 0, false); .tup [.int .i64 (a.1 : Nat), .int .i64 a.2.1, .bool a.2.2], H) := by
  have lq := hget_some_lt ht.hd
  refine call_pure E0 mixed t14_ok (by kernel_rfl) ⟨trivial, trivial, trivial, trivial⟩ ?_
  have hpa := fun H => path_ok H q bits v
  have hfi := fun H n => fits_ok H v n
  rw [lon_body, lon_res]
  simp only [vnv] at hpa hfi ⊢
  have hq := ht.hd
  simp (disch := first | omega | (simp only [fsLen]; omega)) only [↓fsPre, fsPost, fsCond, fsGen, fsDefs, cls, eqVal, vbGen, fill_bits, reduceCtorEq, Nat.reduceAdd, Nat.reduceMul, Nat.reduceSub, Nat.reduceLT, Nat.reduceLeDiff, Nat.reduceEqDiff, Nat.reduceBEq, Nat.reduceBNe, Int.reduceLT, Int.reduceLE, Int.reduceEq, Int.reduceNe, Int.reduceAdd, Int.reduceSub, Int.reduceNeg, Int.reduceToNat, Int.reduceMul, ↓reduceIte, Int.reduceGT, Int.reduceGE]
  simp only [lonA, t14, NCode.a1, NCode.a2]
  simp (disch := first | omega | (simp only [fsLen]; omega)) only [↓fsPre, fsPost, fsCond, fsGen, fsDefs, cls, eqVal, vbGen, fill_bits, reduceCtorEq, Nat.reduceAdd, Nat.reduceMul, Nat.reduceSub, Nat.reduceLT, Nat.reduceLeDiff, Nat.reduceEqDiff, Nat.reduceBEq, Nat.reduceBNe, Int.reduceLT, Int.reduceLE, Int.reduceEq, Int.reduceNe, Int.reduceAdd, Int.reduceSub, Int.reduceNeg, Int.reduceToNat, Int.reduceMul, ↓reduceIte, Int.reduceGT, Int.reduceGE]
  simp only [lonB, t14, NCode.a1, NCode.a2]
  simp (disch := first | omega | (simp only [fsLen]; omega)) only [↓fsPre, fsPost, fsCond, fsGen, fsDefs, cls, eqVal, vbGen, fill_bits, reduceCtorEq, Nat.reduceAdd, Nat.reduceMul, Nat.reduceSub, Nat.reduceLT, Nat.reduceLeDiff, Nat.reduceEqDiff, Nat.reduceBEq, Nat.reduceBNe, Int.reduceLT, Int.reduceLE, Int.reduceEq, Int.reduceNe, Int.reduceAdd, Int.reduceSub, Int.reduceNeg, Int.reduceToNat, Int.reduceMul, ↓reduceIte, Int.reduceGT, Int.reduceGE, eqc_pn, hq]
  refine callDT_one (hfi _ _) rfl ?_
  by_cases hfit : bl v.toNat ≤ bits
  · have hd : decide ((bl v.toNat : Int) ≤ (bits : Int)) = true := by simpa using hfit
    rw [if_pos hfit]
    simp (disch := first | omega | (simp only [fsLen]; omega)) only [↓fsPre, fsPost, fsCond, fsGen, fsDefs, cls, eqVal, vbGen, fill_bits, reduceCtorEq, Nat.reduceAdd, Nat.reduceMul, Nat.reduceSub, Nat.reduceLT, Nat.reduceLeDiff, Nat.reduceEqDiff, Nat.reduceBEq, Nat.reduceBNe, Int.reduceLT, Int.reduceLE, Int.reduceEq, Int.reduceNe, Int.reduceAdd, Int.reduceSub, Int.reduceNeg, Int.reduceToNat, Int.reduceMul, ↓reduceIte, Int.reduceGT, Int.reduceGE, eqc_pn, hq, hd]
    have hvis := fun L f a d s ht => visit_ok H L v f a d s ht
    simp only [lonL, List.cons_append, List.nil_append, Nat.add_assoc, Nat.reduceAdd] at hvis
    simp only [lonC, t14, NCode.a1, NCode.a2]
    simp (disch := first | omega | (simp only [fsLen]; omega)) only [↓fsPre, fsPost, fsCond, fsGen, fsDefs, cls, eqVal, vbGen, fill_bits, reduceCtorEq, Nat.reduceAdd, Nat.reduceMul, Nat.reduceSub, Nat.reduceLT, Nat.reduceLeDiff, Nat.reduceEqDiff, Nat.reduceBEq, Nat.reduceBNe, Int.reduceLT, Int.reduceLE, Int.reduceEq, Int.reduceNe, Int.reduceAdd, Int.reduceSub, Int.reduceNeg, Int.reduceToNat, Int.reduceMul, ↓reduceIte, Int.reduceGT, Int.reduceGE]
    simp only [lonD, t14, NCode.a1, NCode.a2]
    simp (disch := first | omega | (simp only [fsLen]; omega)) only [↓fsPre, fsPost, fsCond, fsGen, fsDefs, cls, eqVal, vbGen, fill_bits, reduceCtorEq, Nat.reduceAdd, Nat.reduceMul, Nat.reduceSub, Nat.reduceLT, Nat.reduceLeDiff, Nat.reduceEqDiff, Nat.reduceBEq, Nat.reduceBNe, Int.reduceLT, Int.reduceLE, Int.reduceEq, Int.reduceNe, Int.reduceAdd, Int.reduceSub, Int.reduceNeg, Int.reduceToNat, Int.reduceMul, ↓reduceIte, Int.reduceGT, Int.reduceGE, hq, TT.ptr_flat, TT.ptr_one, TT.ptr_cells]
    simp only [lonE, t14, NCode.a1, NCode.a2]
    simp (disch := first | omega | (simp only [fsLen]; omega)) only [↓fsPre, fsPost, fsCond, fsGen, fsDefs, cls, eqVal, vbGen, fill_bits, reduceCtorEq, Nat.reduceAdd, Nat.reduceMul, Nat.reduceSub, Nat.reduceLT, Nat.reduceLeDiff, Nat.reduceEqDiff, Nat.reduceBEq, Nat.reduceBNe, Int.reduceLT, Int.reduceLE, Int.reduceEq, Int.reduceNe, Int.reduceAdd, Int.reduceSub, Int.reduceNeg, Int.reduceToNat, Int.reduceMul, ↓reduceIte, Int.reduceGT, Int.reduceGE]
    simp only [lonF, t14, NCode.a1, NCode.a2]
    simp (disch := first | omega | (simp only [fsLen]; omega)) only [↓fsPre, fsPost, fsCond, fsGen, fsDefs, cls, eqVal, vbGen, fill_bits, reduceCtorEq, Nat.reduceAdd, Nat.reduceMul, Nat.reduceSub, Nat.reduceLT, Nat.reduceLeDiff, Nat.reduceEqDiff, Nat.reduceBEq, Nat.reduceBNe, Int.reduceLT, Int.reduceLE, Int.reduceEq, Int.reduceNe, Int.reduceAdd, Int.reduceSub, Int.reduceNeg, Int.reduceToNat, Int.reduceMul, ↓reduceIte, Int.reduceGT, Int.reduceGE]
    refine callT_one (hvis [] _ (0, 0, false) 0 t ht.at_) rfl ?_
    simp (disch := first | omega | (simp only [fsLen]; omega)) only [↓fsPre, fsPost, fsCond, fsGen, fsDefs, cls, eqVal, vbGen, fill_bits, reduceCtorEq, Nat.reduceAdd, Nat.reduceMul, Nat.reduceSub, Nat.reduceLT, Nat.reduceLeDiff, Nat.reduceEqDiff, Nat.reduceBEq, Nat.reduceBNe, Int.reduceLT, Int.reduceLE, Int.reduceEq, Int.reduceNe, Int.reduceAdd, Int.reduceSub, Int.reduceNeg, Int.reduceToNat, Int.reduceMul, ↓reduceIte, Int.reduceGT, Int.reduceGE]
    generalize hf0 : NV.func (Fn.func 37) [] [NV.ptr (some (H.length + 4, 0)), NV.ptr (some (H.length + 5, 0)), NV.ptr (some (H.length + 1, 0)), NV.ptr (some (H.length + 2, 0)), NV.ptr (some (H.length + 3, 0))] = f0
    refine fwp_cutJ (fun F g => F 7 = .ptr (some (H.length + 1, 0)) ∧ F 8 = .ptr (some (H.length + 2, 0)) ∧ F 9 = .ptr (some (H.length + 3, 0)) ∧ ∃ p d, g = H ++ (lonL v f0 (t.er.long (pathB bits bits v) 0 (0, 0, false)) p d ++ lonBx q bits v)) ?_ ?_
    · simp only [lonG, t14, NCode.a1, NCode.a2]
      simp (disch := first | omega | (simp only [fsLen]; omega)) only [↓fsPre, fsPost, fsCond, fsGen, fsDefs, cls, eqVal, vbGen, fill_bits, reduceCtorEq, Nat.reduceAdd, Nat.reduceMul, Nat.reduceSub, Nat.reduceLT, Nat.reduceLeDiff, Nat.reduceEqDiff, Nat.reduceBEq, Nat.reduceBNe, Int.reduceLT, Int.reduceLE, Int.reduceEq, Int.reduceNe, Int.reduceAdd, Int.reduceSub, Int.reduceNeg, Int.reduceToNat, Int.reduceMul, ↓reduceIte, Int.reduceGT, Int.reduceGE, hq]
      refine callDT_one (hpa _) rfl ?_
      simp (disch := first | omega | (simp only [fsLen]; omega)) only [↓fsPre, fsPost, fsCond, fsGen, fsDefs, cls, eqVal, vbGen, fill_bits, reduceCtorEq, Nat.reduceAdd, Nat.reduceMul, Nat.reduceSub, Nat.reduceLT, Nat.reduceLeDiff, Nat.reduceEqDiff, Nat.reduceBEq, Nat.reduceBNe, Int.reduceLT, Int.reduceLE, Int.reduceEq, Int.reduceNe, Int.reduceAdd, Int.reduceSub, Int.reduceNeg, Int.reduceToNat, Int.reduceMul, ↓reduceIte, Int.reduceGT, Int.reduceGE]
      refine wrange (fun j g => g = H ++ (lonL v f0 (t.er.long (pathB bits j v) 0 (0, 0, false)) (t.find (pathB bits j v)).ptr j ++ lonBx q bits v)) ?_ (t46_ok).1 (iter_path (H.length + 9) (H.length + 8) (H.length + 7) q bits bits v hb (Nat.le_refl _)) ?_ ?_ ?_ ?_
      · simp (disch := first | omega | (simp only [fsLen]; omega)) only [↓fsPre, fsPost, fsCond, fsGen, fsDefs, cls, eqVal, vbGen, fill_bits, reduceCtorEq, Nat.reduceAdd, Nat.reduceMul, Nat.reduceSub, Nat.reduceLT, Nat.reduceLeDiff, Nat.reduceEqDiff, Nat.reduceBEq, Nat.reduceBNe, Int.reduceLT, Int.reduceLE, Int.reduceEq, Int.reduceNe, Int.reduceAdd, Int.reduceSub, Int.reduceNeg, Int.reduceToNat, Int.reduceMul, ↓reduceIte, Int.reduceGT, Int.reduceGE]
      · simp only [lonL, lonBx, show pathB bits 0 v = [] from rfl, TT.find_empty, T.long_empty]
        simp (disch := first | omega | (simp only [fsLen]; omega)) only [↓fsPre, fsPost, fsCond, fsGen, fsDefs, cls, eqVal, vbGen, fill_bits, reduceCtorEq, Nat.reduceAdd, Nat.reduceMul, Nat.reduceSub, Nat.reduceLT, Nat.reduceLeDiff, Nat.reduceEqDiff, Nat.reduceBEq, Nat.reduceBNe, Int.reduceLT, Int.reduceLE, Int.reduceEq, Int.reduceNe, Int.reduceAdd, Int.reduceSub, Int.reduceNeg, Int.reduceToNat, Int.reduceMul, ↓reduceIte, Int.reduceGT, Int.reduceGE]
      · rintro j g hj rfl
        refine ⟨?_, ?_, ?_, ⟨_, by rw [hget_appl lq]; exact hq⟩⟩
        · simp only [lonL, lonBx]; simp (disch := first | omega | (simp only [fsLen]; omega)) only [↓fsPre, fsPost, fsCond, fsGen, fsDefs, cls, eqVal, vbGen, fill_bits, reduceCtorEq, Nat.reduceAdd, Nat.reduceMul, Nat.reduceSub, Nat.reduceLT, Nat.reduceLeDiff, Nat.reduceEqDiff, Nat.reduceBEq, Nat.reduceBNe, Int.reduceLT, Int.reduceLE, Int.reduceEq, Int.reduceNe, Int.reduceAdd, Int.reduceSub, Int.reduceNeg, Int.reduceToNat, Int.reduceMul, ↓reduceIte, Int.reduceGT, Int.reduceGE]
        · simp only [lonL, lonBx]; simp (disch := first | omega | (simp only [fsLen]; omega)) only [↓fsPre, fsPost, fsCond, fsGen, fsDefs, cls, eqVal, vbGen, fill_bits, reduceCtorEq, Nat.reduceAdd, Nat.reduceMul, Nat.reduceSub, Nat.reduceLT, Nat.reduceLeDiff, Nat.reduceEqDiff, Nat.reduceBEq, Nat.reduceBNe, Int.reduceLT, Int.reduceLE, Int.reduceEq, Int.reduceNe, Int.reduceAdd, Int.reduceSub, Int.reduceNeg, Int.reduceToNat, Int.reduceMul, ↓reduceIte, Int.reduceGT, Int.reduceGE]
        · simp only [lonL, lonBx]; simp (disch := first | omega | (simp only [fsLen]; omega)) only [↓fsPre, fsPost, fsCond, fsGen, fsDefs, cls, eqVal, vbGen, fill_bits, reduceCtorEq, Nat.reduceAdd, Nat.reduceMul, Nat.reduceSub, Nat.reduceLT, Nat.reduceLeDiff, Nat.reduceEqDiff, Nat.reduceBEq, Nat.reduceBNe, Int.reduceLT, Int.reduceLE, Int.reduceEq, Int.reduceNe, Int.reduceAdd, Int.reduceSub, Int.reduceNeg, Int.reduceToNat, Int.reduceMul, ↓reduceIte, Int.reduceGT, Int.reduceGE]
      · rintro j g hj rfl
        rw [pathV_get hj]
        rw [pathV_length] at hj
        have hst := pathB_succ (bits := bits) (n := j) (v := v)
        have hat := ht.at_.find (pathB bits j v)
        have hat1 := ht.at_.find (pathB bits (j + 1) v)
        cases hf : t.find (pathB bits j v) with
        | nil =>
          have hall : t.er.long (pathB bits bits v) 0 (0, 0, false) = t.er.long (pathB bits j v) 0 (0, 0, false) := by
            rw [show pathB bits bits v = pathB bits j v ++ (pathB bits bits v).drop j by
              conv => lhs; rw [← List.take_append_drop j (pathB bits bits v), pathB_take (by omega)]]
            exact T.long_stop _ _ _ _ _ (by rw [← TT.er_find, hf]; rfl)
          simp only [lonL, lonBx]
          simp (disch := first | omega | (simp only [fsLen]; omega)) only [↓fsPre, fsPost, fsCond, fsGen, fsDefs, cls, eqVal, vbGen, fill_bits, reduceCtorEq, Nat.reduceAdd, Nat.reduceMul, Nat.reduceSub, Nat.reduceLT, Nat.reduceLeDiff, Nat.reduceEqDiff, Nat.reduceBEq, Nat.reduceBNe, Int.reduceLT, Int.reduceLE, Int.reduceEq, Int.reduceNe, Int.reduceAdd, Int.reduceSub, Int.reduceNeg, Int.reduceToNat, Int.reduceMul, ↓reduceIte, Int.reduceGT, Int.reduceGE, rngA_nrm, rngB_nrm, rngB_exit, rngB_ret, ptr_nl, eqc_nn]
          rw [hall]
          exact ⟨_, _, rfl⟩
        | node b u i l r =>
          rw [hf] at hat
          have hb := hat.1
          have lb := hget_some_lt hb
          simp only [lonL, lonBx]
          cases hx : bitAt bits v j with
          | false =>
            rw [hx] at hst
            have hf1 : t.find (pathB bits (j + 1) v) = l := by rw [hst, TT.find_step hf]; rfl
            have hacc : t.er.long (pathB bits (j + 1) v) 0 (0, 0, false) = l.er.vis (j + 1) (t.er.long (pathB bits j v) 0 (0, 0, false)) := by
              rw [← hf1, TT.er_find, hst, T.long_snoc, pathB_length, Nat.zero_add]
            have hv1 := hvis (lonBx q bits v) f0 (t.er.long (pathB bits j v) 0 (0, 0, false)) (j + 1) l hat.2.1
            rw [hacc, hf1]
            simp only [lonBx, Int.natCast_add, Int.cast_ofNat_Int, List.cons_append, List.nil_append] at hv1
            simp (disch := first | omega | (simp only [fsLen]; omega)) only [↓fsPre, fsPost, fsCond, fsGen, fsDefs, cls, eqVal, vbGen, fill_bits, reduceCtorEq, Nat.reduceAdd, Nat.reduceMul, Nat.reduceSub, Nat.reduceLT, Nat.reduceLeDiff, Nat.reduceEqDiff, Nat.reduceBEq, Nat.reduceBNe, Int.reduceLT, Int.reduceLE, Int.reduceEq, Int.reduceNe, Int.reduceAdd, Int.reduceSub, Int.reduceNeg, Int.reduceToNat, Int.reduceMul, ↓reduceIte, Int.reduceGT, Int.reduceGE, rngA_nrm, rngB_nrm, rngB_exit, rngB_ret, ptr_nd, eqc_pn, bitNV_f, hb, TT.ptr_flat, TT.ptr_one, TT.ptr_cells]
            subst hf0
            simp (disch := first | omega | (simp only [fsLen]; omega)) only [↓fsPre, fsPost, fsCond, fsGen, fsDefs, cls, eqVal, vbGen, fill_bits, reduceCtorEq, Nat.reduceAdd, Nat.reduceMul, Nat.reduceSub, Nat.reduceLT, Nat.reduceLeDiff, Nat.reduceEqDiff, Nat.reduceBEq, Nat.reduceBNe, Int.reduceLT, Int.reduceLE, Int.reduceEq, Int.reduceNe, Int.reduceAdd, Int.reduceSub, Int.reduceNeg, Int.reduceToNat, Int.reduceMul, ↓reduceIte, Int.reduceGT, Int.reduceGE, rngA_nrm, rngB_nrm, rngB_exit, rngB_ret]
            refine callT_one hv1 rfl ?_
            simp (disch := first | omega | (simp only [fsLen]; omega)) only [↓fsPre, fsPost, fsCond, fsGen, fsDefs, cls, eqVal, vbGen, fill_bits, reduceCtorEq, Nat.reduceAdd, Nat.reduceMul, Nat.reduceSub, Nat.reduceLT, Nat.reduceLeDiff, Nat.reduceEqDiff, Nat.reduceBEq, Nat.reduceBNe, Int.reduceLT, Int.reduceLE, Int.reduceEq, Int.reduceNe, Int.reduceAdd, Int.reduceSub, Int.reduceNeg, Int.reduceToNat, Int.reduceMul, ↓reduceIte, Int.reduceGT, Int.reduceGE, rngA_nrm, rngB_nrm, rngB_exit, rngB_ret]
          | true =>
            rw [hx] at hst
            have hf1 : t.find (pathB bits (j + 1) v) = r := by rw [hst, TT.find_step hf]; rfl
            have hacc : t.er.long (pathB bits (j + 1) v) 0 (0, 0, false) = r.er.vis (j + 1) (t.er.long (pathB bits j v) 0 (0, 0, false)) := by
              rw [← hf1, TT.er_find, hst, T.long_snoc, pathB_length, Nat.zero_add]
            have hv1 := hvis (lonBx q bits v) f0 (t.er.long (pathB bits j v) 0 (0, 0, false)) (j + 1) r hat.2.2
            rw [hacc, hf1]
            simp only [lonBx, Int.natCast_add, Int.cast_ofNat_Int, List.cons_append, List.nil_append] at hv1
            simp (disch := first | omega | (simp only [fsLen]; omega)) only [↓fsPre, fsPost, fsCond, fsGen, fsDefs, cls, eqVal, vbGen, fill_bits, reduceCtorEq, Nat.reduceAdd, Nat.reduceMul, Nat.reduceSub, Nat.reduceLT, Nat.reduceLeDiff, Nat.reduceEqDiff, Nat.reduceBEq, Nat.reduceBNe, Int.reduceLT, Int.reduceLE, Int.reduceEq, Int.reduceNe, Int.reduceAdd, Int.reduceSub, Int.reduceNeg, Int.reduceToNat, Int.reduceMul, ↓reduceIte, Int.reduceGT, Int.reduceGE, rngA_nrm, rngB_nrm, rngB_exit, rngB_ret, ptr_nd, eqc_pn, bitNV_t, hb, TT.ptr_flat, TT.ptr_one, TT.ptr_cells]
            subst hf0
            simp (disch := first | omega | (simp only [fsLen]; omega)) only [↓fsPre, fsPost, fsCond, fsGen, fsDefs, cls, eqVal, vbGen, fill_bits, reduceCtorEq, Nat.reduceAdd, Nat.reduceMul, Nat.reduceSub, Nat.reduceLT, Nat.reduceLeDiff, Nat.reduceEqDiff, Nat.reduceBEq, Nat.reduceBNe, Int.reduceLT, Int.reduceLE, Int.reduceEq, Int.reduceNe, Int.reduceAdd, Int.reduceSub, Int.reduceNeg, Int.reduceToNat, Int.reduceMul, ↓reduceIte, Int.reduceGT, Int.reduceGE, rngA_nrm, rngB_nrm, rngB_exit, rngB_ret]
            refine callT_one hv1 rfl ?_
            simp (disch := first | omega | (simp only [fsLen]; omega)) only [↓fsPre, fsPost, fsCond, fsGen, fsDefs, cls, eqVal, vbGen, fill_bits, reduceCtorEq, Nat.reduceAdd, Nat.reduceMul, Nat.reduceSub, Nat.reduceLT, Nat.reduceLeDiff, Nat.reduceEqDiff, Nat.reduceBEq, Nat.reduceBNe, Int.reduceLT, Int.reduceLE, Int.reduceEq, Int.reduceNe, Int.reduceAdd, Int.reduceSub, Int.reduceNeg, Int.reduceToNat, Int.reduceMul, ↓reduceIte, Int.reduceGT, Int.reduceGE, rngA_nrm, rngB_nrm, rngB_exit, rngB_ret]
      · rintro g rfl
        rw [pathV_length]
        simp (disch := first | omega | (simp only [fsLen]; omega)) only [↓fsPre, fsPost, fsCond, fsGen, fsDefs, cls, eqVal, vbGen, fill_bits, reduceCtorEq, Nat.reduceAdd, Nat.reduceMul, Nat.reduceSub, Nat.reduceLT, Nat.reduceLeDiff, Nat.reduceEqDiff, Nat.reduceBEq, Nat.reduceBNe, Int.reduceLT, Int.reduceLE, Int.reduceEq, Int.reduceNe, Int.reduceAdd, Int.reduceSub, Int.reduceNeg, Int.reduceToNat, Int.reduceMul, ↓reduceIte, Int.reduceGT, Int.reduceGE]
        exact ⟨_, _, rfl⟩
    · rintro F g ⟨f7, f8, f9, p, d, rfl⟩
      simp (disch := first | omega | (simp only [fsLen]; omega)) only [↓fsPre, fsPost, fsCond, fsGen, fsDefs, cls, eqVal, vbGen, fill_bits, reduceCtorEq, Nat.reduceAdd, Nat.reduceMul, Nat.reduceSub, Nat.reduceLT, Nat.reduceLeDiff, Nat.reduceEqDiff, Nat.reduceBEq, Nat.reduceBNe, Int.reduceLT, Int.reduceLE, Int.reduceEq, Int.reduceNe, Int.reduceAdd, Int.reduceSub, Int.reduceNeg, Int.reduceToNat, Int.reduceMul, ↓reduceIte, Int.reduceGT, Int.reduceGE]
      simp only [lonH, t14, NCode.a1, NCode.a2, lonL, lonBx]
      simp (disch := first | omega | (simp only [fsLen]; omega)) only [↓fsPre, fsPost, fsCond, fsGen, fsDefs, cls, eqVal, vbGen, fill_bits, reduceCtorEq, Nat.reduceAdd, Nat.reduceMul, Nat.reduceSub, Nat.reduceLT, Nat.reduceLeDiff, Nat.reduceEqDiff, Nat.reduceBEq, Nat.reduceBNe, Int.reduceLT, Int.reduceLE, Int.reduceEq, Int.reduceNe, Int.reduceAdd, Int.reduceSub, Int.reduceNeg, Int.reduceToNat, Int.reduceMul, ↓reduceIte, Int.reduceGT, Int.reduceGE, f7, f8, f9]
      exact ⟨_, rfl⟩
  · have hd : decide ((bl v.toNat : Int) ≤ (bits : Int)) = false := by simpa using hfit
    rw [if_neg hfit]
    simp (disch := first | omega | (simp only [fsLen]; omega)) only [↓fsPre, fsPost, fsCond, fsGen, fsDefs, cls, eqVal, vbGen, fill_bits, reduceCtorEq, Nat.reduceAdd, Nat.reduceMul, Nat.reduceSub, Nat.reduceLT, Nat.reduceLeDiff, Nat.reduceEqDiff, Nat.reduceBEq, Nat.reduceBNe, Int.reduceLT, Int.reduceLE, Int.reduceEq, Int.reduceNe, Int.reduceAdd, Int.reduceSub, Int.reduceNeg, Int.reduceToNat, Int.reduceMul, ↓reduceIte, Int.reduceGT, Int.reduceGE, eqc_pn, hq, hd]
    exact ⟨_, rfl⟩
end Go.Proofs
