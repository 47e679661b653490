/- Td, Te in one text. -/
import Derived.Test.YtiiopgancdgioaaTLTX
import Derived.Test.YtiiopgancdgioaaTrY
import Derived.Test.YtiiopgancdgioaaVbE
set_option linter.unusedSimpArgs false
set_option linter.unusedVariables false
set_option maxRecDepth 100000
namespace Go.Proofs
open Go.Ns

/-- The pointers on the way to a prefix. -/
def wayV (bits j : Nat) (v : BitVec 128) (t : TT) : List NV := (List.range (j + 1)).map fun k => (t.find (pathB bits k v)).ptr
theorem wayV_length {bits j : Nat} {v : BitVec 128} {t : TT} : (wayV bits j v t).length = j + 1 := by simp [wayV]
theorem wayV_get {bits j k : Nat} {v : BitVec 128} {t : TT} (h : k ≤ j) : (wayV bits j v t)[k]? = some (t.find (pathB bits k v)).ptr := by
  unfold wayV; rw [List.getElem?_map, List.getElem?_range (by omega)]; rfl
theorem wayV_succ {bits j : Nat} {v : BitVec 128} {t : TT} : wayV bits (j + 1) v t = wayV bits j v t ++ [(t.find (pathB bits (j + 1) v)).ptr] := by
  unfold wayV; rw [List.range_succ, List.map_append]; rfl
theorem pathV_succ {bits j : Nat} {v : BitVec 128} : pathV bits (j + 1) v = pathV bits j v ++ [bitNV (bitAt bits v j)] := by
  unfold pathV; rw [List.range_succ, List.map_append]; rfl
/-- The way, as it is collected. -/
structure WayI (H : Heap) (q bits j : Nat) (v : BitVec 128) (t : TT) (g : Heap) : Prop where
  keep : ∀ b, b < H.length → hget g b = hget H b
  len : H.length + 7 ≤ g.length
  way : ∃ w bw cw, hget g (H.length + 2) = some (.cells [w] false) ∧ w = .slice (some (bw, 0)) (j + 1) cw ∧ (cw = .fix (j + 1) ∨ cw = .opn 1 ∧ H.length + 7 ≤ bw) ∧ (bw = H.length + 1 ∨ H.length + 7 ≤ bw) ∧ hget g bw = some (.cells (wayV bits j v t) false) ∧
    ∃ y, hget g (H.length + 3) = some (.cells [y] false) ∧ GrV g (H.length + 7) (pathV bits j v) y ∧ (∀ b c, y = .slice (some (b, 0)) (pathV bits j v).length c → b ≠ bw ∧ H.length ≤ b)

theorem way_keep {H g g' : Heap} {q bits m : Nat} {v : BitVec 128} (hk : KeepP (H.length + 6) (H.length + 5) (H.length + 4) q bits m v g) (lq : q < H.length) (e : ∀ b, b < H.length + 7 → b ≠ H.length + 2 → b ≠ H.length + 3 → hget g' b = hget g b) : KeepP (H.length + 6) (H.length + 5) (H.length + 4) q bits m v g' := by
  obtain ⟨k1, k2, k3, kr, k4⟩ := hk
  exact ⟨by rw [e _ (by omega) (by omega) (by omega)]; exact k1, by rw [e _ (by omega) (by omega) (by omega)]; exact k2, by rw [e _ (by omega) (by omega) (by omega)]; exact k3, kr, by rw [e _ (by omega) (by omega) (by omega)]; exact k4⟩

/-- The way, as it was collected. -/
structure WayR (H g : Heap) (bits m : Nat) (v : BitVec 128) (t : TT) (bw : Nat) (cw : Cap) (y : NV) : Prop where
  w1 : hget g (H.length + 2) = some (.cells [.slice (some (bw, 0)) (m + 1) cw] false)
  w2 : hget g bw = some (.cells (wayV bits m v t) false)
  w3 : hget g (H.length + 3) = some (.cells [y] false)
  w4 : GrV g (H.length + 7) (pathV bits m v) y
  b1 : H.length ≤ bw
  b2 : ∀ b c, y = .slice (some (b, 0)) (pathV bits m v).length c → H.length ≤ b
theorem WayR.mono {H g g' : Heap} {bits m : Nat} {v : BitVec 128} {t : TT} {bw : Nat} {cw : Cap} {y : NV} (W : WayR H g bits m v t bw cw y) (k : ∀ b, H.length ≤ b → hget g' b = hget g b) : WayR H g' bits m v t bw cw y :=
  ⟨by rw [k _ (by omega)]; exact W.w1, by rw [k _ W.b1]; exact W.w2, by rw [k _ (by omega)]; exact W.w3, W.w4.mono fun b c e => k b (W.b2 b c e), W.b1, W.b2⟩
theorem pathV_at {bits m k : Nat} {v : BitVec 128} (h : k < m) : (pathV bits m v)[k]? = some (bitNV (bitAt bits v k)) := by
  unfold pathV; rw [List.getElem?_map, List.getElem?_range h]; rfl


theorem visit_nil (G : Heap) (B : Nat) (h3 : hget G (B + 3) = some (.cells [.ptr none] false)) :
    NCall Try.prog 37 [.ptr (some (B + 3, 0)), .ptr (some (B + 4, 0)), .ptr (some (B, 0)), .ptr (some (B + 1, 0)), .ptr (some (B + 2, 0))] G fun r => r = (.tup [], G) := by
  refine call_of E0 mixed t37_ok (by kernel_rfl) (by rintro q rfl; simp) ?_
  simp only [t37]
  simp (disch := first | omega | (simp only [fsLen]; omega)) only [↓fsPre, fsPost, fsCond, fsGen, fsDefs, cls, eqVal, vbGen, fill_bits, reduceCtorEq, Nat.reduceAdd, Nat.reduceMul, Nat.reduceSub, Nat.reduceLT, Nat.reduceLeDiff, Nat.reduceEqDiff, Nat.reduceBEq, Nat.reduceBNe, Int.reduceLT, Int.reduceLE, Int.reduceEq, Int.reduceNe, Int.reduceAdd, Int.reduceSub, Int.reduceNeg, Int.reduceToNat, Int.reduceMul, ↓reduceIte, Int.reduceGT, Int.reduceGE, h3, eqc_nn]
theorem visit_no (G : Heap) (B b : Nat) (l r i : NV) (h3 : hget G (B + 3) = some (.cells [.ptr (some (b, 0))] false)) (hb : hget G b = some (.cells [l, r, .bool false, i] false)) :
    NCall Try.prog 37 [.ptr (some (B + 3, 0)), .ptr (some (B + 4, 0)), .ptr (some (B, 0)), .ptr (some (B + 1, 0)), .ptr (some (B + 2, 0))] G fun r => r = (.tup [], G) := by
  refine call_of E0 mixed t37_ok (by kernel_rfl) (by rintro q rfl; simp) ?_
  simp only [t37]
  have lb := hget_some_lt hb
  have l3 := hget_some_lt h3
  simp (disch := first | omega | (simp only [fsLen]; omega)) only [↓fsPre, fsPost, fsCond, fsGen, fsDefs, cls, eqVal, vbGen, fill_bits, reduceCtorEq, Nat.reduceAdd, Nat.reduceMul, Nat.reduceSub, Nat.reduceLT, Nat.reduceLeDiff, Nat.reduceEqDiff, Nat.reduceBEq, Nat.reduceBNe, Int.reduceLT, Int.reduceLE, Int.reduceEq, Int.reduceNe, Int.reduceAdd, Int.reduceSub, Int.reduceNeg, Int.reduceToNat, Int.reduceMul, ↓reduceIte, Int.reduceGT, Int.reduceGE, h3, hb, eqc_pn]
theorem visit_yes (G : Heap) (B b : Nat) (l r : NV) (i d : Int) (x0 x1 x2 : NV) (h0 : hget G B = some (.cells [x0] false)) (h1 : hget G (B + 1) = some (.cells [x1] false)) (h2 : hget G (B + 2) = some (.cells [x2] false)) (h3 : hget G (B + 3) = some (.cells [.ptr (some (b, 0))] false)) (h4 : hget G (B + 4) = some (.cells [.int .i64 d] false))
    (hb : hget G b = some (.cells [l, r, .bool true, .int .i64 i] false)) :
    NCall Try.prog 37 [.ptr (some (B + 3, 0)), .ptr (some (B + 4, 0)), .ptr (some (B, 0)), .ptr (some (B + 1, 0)), .ptr (some (B + 2, 0))] G fun r => r = (.tup [], hset (hset (hset G B (.cells [.int .i64 d] false)) (B + 1) (.cells [.int .i64 i] false)) (B + 2) (.cells [.bool true] false)) := by
  refine call_of E0 mixed t37_ok (by kernel_rfl) (by rintro q rfl; simp) ?_
  simp only [t37]
  have lb := hget_some_lt hb
  have l3 := hget_some_lt h3
  have l0 := hget_some_lt h0
  have l1 := hget_some_lt h1
  have l2 := hget_some_lt h2
  have l4 := hget_some_lt h4
  have ne : ∀ {c : Nat} {x : NV}, hget G c = some (.cells [x] false) → b ≠ c := by
    rintro c x h rfl
    rw [hb] at h; simp at h
  have hb2 : hget (hset G B (.cells [.int .i64 d] false)) b = some (.cells [l, r, .bool true, .int .i64 i] false) := by rw [hget_hset_ne (Ne.symm (ne h0))]; exact hb
  simp (disch := first | omega | (simp only [fsLen]; omega)) only [↓fsPre, fsPost, fsCond, fsGen, fsDefs, cls, eqVal, vbGen, fill_bits, reduceCtorEq, Nat.reduceAdd, Nat.reduceMul, Nat.reduceSub, Nat.reduceLT, Nat.reduceLeDiff, Nat.reduceEqDiff, Nat.reduceBEq, Nat.reduceBNe, Int.reduceLT, Int.reduceLE, Int.reduceEq, Int.reduceNe, Int.reduceAdd, Int.reduceSub, Int.reduceNeg, Int.reduceToNat, Int.reduceMul, ↓reduceIte, Int.reduceGT, Int.reduceGE, h0, h1, h2, h3, h4, hb, hb2, eqc_pn]
theorem tlong_nil (H : Heap) (v : BitVec 128) : NCall Try.prog 14 [.ptr none, vnv v] H fun r => r = (.tup [.int .i64 0, .int .i64 0, .bool false], H) := by
  refine call_pure E0 mixed t14_ok (by kernel_rfl) ⟨trivial, trivial, trivial, trivial⟩ ?_
  simp only [t14, vnv]
  simp (disch := first | omega | (simp only [fsLen]; omega)) only [↓fsPre, fsPost, fsCond, fsGen, fsDefs, cls, eqVal, vbGen, fill_bits, reduceCtorEq, Nat.reduceAdd, Nat.reduceMul, Nat.reduceSub, Nat.reduceLT, Nat.reduceLeDiff, Nat.reduceEqDiff, Nat.reduceBEq, Nat.reduceBNe, Int.reduceLT, Int.reduceLE, Int.reduceEq, Int.reduceNe, Int.reduceAdd, Int.reduceSub, Int.reduceNeg, Int.reduceToNat, Int.reduceMul, ↓reduceIte, Int.reduceGT, Int.reduceGE, eqc_nn]
  exact ⟨_, rfl⟩

def lonA : NCode := t14.body.a1
def lonB : NCode := t14.body.a2.a1
def lonC : NCode := t14.body.a2.a2.a1
def lonD : NCode := t14.body.a2.a2.a2.a1
def lonE : NCode := t14.body.a2.a2.a2.a2.a1
def lonF : NCode := t14.body.a2.a2.a2.a2.a2.a1
def lonG : NCode := t14.body.a2.a2.a2.a2.a2.a2.a1
def lonH : NCode := t14.body.a2.a2.a2.a2.a2.a2.a2
theorem lon_body : t14.body = .seq lonA (.seq lonB (.seq lonC (.seq lonD (.seq lonE (.seq lonF (.seq lonG lonH)))))) := rfl
theorem lon_res : t14.res = [.tmp 4, .tmp 5, .tmp 6] := rfl
/-- What Longest keeps. -/
def lonL (v : BitVec 128) (f : NV) (a : Nat × Int × Bool) (p : NV) (d : Int) : Heap := [some (.cells [nb (hiOf v), nb (loOf v)] false), some (.cells [.int .i64 (a.1 : Nat)] false), some (.cells [.int .i64 a.2.1] false), some (.cells [.bool a.2.2] false), some (.cells [p] false), some (.cells [.int .i64 d] false), some (.cells [f] false)]
def lonBx (q bits : Nat) (v : BitVec 128) : Heap := [some (.cells [.ptr (some (q, 0))] false), some (.cells [nb (hiOf v), nb (loOf v)] false), some (.cells [.int .i64 bits] false)]
def lonF0 (N : Nat) : NV := .func (.func 37) [] [.ptr (some (N + 1 + 3, 0)), .ptr (some (N + 1 + 4, 0)), .ptr (some (N + 1, 0)), .ptr (some (N + 1 + 1, 0)), .ptr (some (N + 1 + 2, 0))]
/-- A visit. -/
theorem visit_ok (H L : Heap) (v : BitVec 128) (f : NV) (a : Nat × Int × Bool) (d : Nat) (t : TT) (ht : TAt H t) :
    NCall Try.prog 37 [.ptr (some (H.length + 1 + 3, 0)), .ptr (some (H.length + 1 + 4, 0)), .ptr (some (H.length + 1, 0)), .ptr (some (H.length + 1 + 1, 0)), .ptr (some (H.length + 1 + 2, 0))] (H ++ (lonL v f a t.ptr d ++ L)) fun r => r = (.tup [], H ++ (lonL v f (t.er.vis d a) t.ptr d ++ L)) := by
  cases t with
  | nil => exact visit_nil _ _ (by unfold lonL; simp (disch := first | omega | (simp only [fsLen]; omega)) only [↓fsPre, fsPost, fsCond, fsGen, fsDefs, cls, eqVal, vbGen, fill_bits, reduceCtorEq, Nat.reduceAdd, Nat.reduceMul, Nat.reduceSub, Nat.reduceLT, Nat.reduceLeDiff, Nat.reduceEqDiff, Nat.reduceBEq, Nat.reduceBNe, Int.reduceLT, Int.reduceLE, Int.reduceEq, Int.reduceNe, Int.reduceAdd, Int.reduceSub, Int.reduceNeg, Int.reduceToNat, Int.reduceMul, ↓reduceIte, Int.reduceGT, Int.reduceGE, ptr_nl])
  | node b u i l r =>
    have hb := ht.1
    have lb := hget_some_lt hb
    cases u with
    | false => exact visit_no _ _ b l.ptr r.ptr (.int .i64 i) (by unfold lonL; simp (disch := first | omega | (simp only [fsLen]; omega)) only [↓fsPre, fsPost, fsCond, fsGen, fsDefs, cls, eqVal, vbGen, fill_bits, reduceCtorEq, Nat.reduceAdd, Nat.reduceMul, Nat.reduceSub, Nat.reduceLT, Nat.reduceLeDiff, Nat.reduceEqDiff, Nat.reduceBEq, Nat.reduceBNe, Int.reduceLT, Int.reduceLE, Int.reduceEq, Int.reduceNe, Int.reduceAdd, Int.reduceSub, Int.reduceNeg, Int.reduceToNat, Int.reduceMul, ↓reduceIte, Int.reduceGT, Int.reduceGE, ptr_nd]) (by rw [hget_appl lb]; exact hb)
    | true =>
      have h := visit_yes (H ++ (lonL v f a (TT.node b true i l r).ptr d ++ L)) (H.length + 1) b l.ptr r.ptr i d (.int .i64 (a.1 : Nat)) (.int .i64 a.2.1) (.bool a.2.2) (by unfold lonL; simp (disch := first | omega | (simp only [fsLen]; omega)) only [↓fsPre, fsPost, fsCond, fsGen, fsDefs, cls, eqVal, vbGen, fill_bits, reduceCtorEq, Nat.reduceAdd, Nat.reduceMul, Nat.reduceSub, Nat.reduceLT, Nat.reduceLeDiff, Nat.reduceEqDiff, Nat.reduceBEq, Nat.reduceBNe, Int.reduceLT, Int.reduceLE, Int.reduceEq, Int.reduceNe, Int.reduceAdd, Int.reduceSub, Int.reduceNeg, Int.reduceToNat, Int.reduceMul, ↓reduceIte, Int.reduceGT, Int.reduceGE]) (by unfold lonL; simp (disch := first | omega | (simp only [fsLen]; omega)) only [↓fsPre, fsPost, fsCond, fsGen, fsDefs, cls, eqVal, vbGen, fill_bits, reduceCtorEq, Nat.reduceAdd, Nat.reduceMul, Nat.reduceSub, Nat.reduceLT, Nat.reduceLeDiff, Nat.reduceEqDiff, Nat.reduceBEq, Nat.reduceBNe, Int.reduceLT, Int.reduceLE, Int.reduceEq, Int.reduceNe, Int.reduceAdd, Int.reduceSub, Int.reduceNeg, Int.reduceToNat, Int.reduceMul, ↓reduceIte, Int.reduceGT, Int.reduceGE]) (by unfold lonL; simp (disch := first | omega | (simp only [fsLen]; omega)) only [↓fsPre, fsPost, fsCond, fsGen, fsDefs, cls, eqVal, vbGen, fill_bits, reduceCtorEq, Nat.reduceAdd, Nat.reduceMul, Nat.reduceSub, Nat.reduceLT, Nat.reduceLeDiff, Nat.reduceEqDiff, Nat.reduceBEq, Nat.reduceBNe, Int.reduceLT, Int.reduceLE, Int.reduceEq, Int.reduceNe, Int.reduceAdd, Int.reduceSub, Int.reduceNeg, Int.reduceToNat, Int.reduceMul, ↓reduceIte, Int.reduceGT, Int.reduceGE]) (by unfold lonL; simp (disch := first | omega | (simp only [fsLen]; omega)) only [↓fsPre, fsPost, fsCond, fsGen, fsDefs, cls, eqVal, vbGen, fill_bits, reduceCtorEq, Nat.reduceAdd, Nat.reduceMul, Nat.reduceSub, Nat.reduceLT, Nat.reduceLeDiff, Nat.reduceEqDiff, Nat.reduceBEq, Nat.reduceBNe, Int.reduceLT, Int.reduceLE, Int.reduceEq, Int.reduceNe, Int.reduceAdd, Int.reduceSub, Int.reduceNeg, Int.reduceToNat, Int.reduceMul, ↓reduceIte, Int.reduceGT, Int.reduceGE, ptr_nd]) (by unfold lonL; simp (disch := first | omega | (simp only [fsLen]; omega)) only [↓fsPre, fsPost, fsCond, fsGen, fsDefs, cls, eqVal, vbGen, fill_bits, reduceCtorEq, Nat.reduceAdd, Nat.reduceMul, Nat.reduceSub, Nat.reduceLT, Nat.reduceLeDiff, Nat.reduceEqDiff, Nat.reduceBEq, Nat.reduceBNe, Int.reduceLT, Int.reduceLE, Int.reduceEq, Int.reduceNe, Int.reduceAdd, Int.reduceSub, Int.reduceNeg, Int.reduceToNat, Int.reduceMul, ↓reduceIte, Int.reduceGT, Int.reduceGE]) (by rw [hget_appl lb]; exact hb)
      have e : hset (hset (hset (H ++ (lonL v f a (TT.node b true i l r).ptr d ++ L)) (H.length + 1) (.cells [.int .i64 d] false)) (H.length + 1 + 1) (.cells [.int .i64 i] false)) (H.length + 1 + 2) (.cells [.bool true] false) = H ++ (lonL v f ((TT.node b true i l r).er.vis d a) (TT.node b true i l r).ptr d ++ L) := by
        unfold lonL TT.er T.vis
        simp (disch := first | omega | (simp only [fsLen]; omega)) only [↓fsPre, fsPost, fsCond, fsGen, fsDefs, cls, eqVal, vbGen, fill_bits, reduceCtorEq, Nat.reduceAdd, Nat.reduceMul, Nat.reduceSub, Nat.reduceLT, Nat.reduceLeDiff, Nat.reduceEqDiff, Nat.reduceBEq, Nat.reduceBNe, Int.reduceLT, Int.reduceLE, Int.reduceEq, Int.reduceNe, Int.reduceAdd, Int.reduceSub, Int.reduceNeg, Int.reduceToNat, Int.reduceMul, ↓reduceIte, Int.reduceGT, Int.reduceGE]
      rw [e] at h
      exact h

set_option maxHeartbeats 1000000 in
theorem tlong_ok (H : Heap) (q bits : Nat) (t : TT) (v : BitVec 128) (hb : bits ≤ 128) (ht : TrieAt H q bits t) :
    NCall Try.prog 14 [.ptr (some (q, 0)), vnv v] H fun r => r = (let a := if bl v.toNat ≤ bits then t.er.long (pathB bits bits v) 0 (0, 0, false) else (0, 0, false); .tup [.int .i64 (a.1 : Nat), .int .i64 a.2.1, .bool a.2.2], H) := by
  have lq := hget_some_lt ht.hd
  refine call_pure E0 mixed t14_ok (by kernel_rfl) ⟨trivial, trivial, trivial, trivial⟩ ?_
  have hpa := fun H => path_ok H q bits v
  have hfi := fun H n => fits_ok H v n
  rw [lon_body, lon_res]
  simp only [vnv] at hpa hfi ⊢
  have hq := ht.hd
  simp (disch := first | omega | (simp only [fsLen]; omega)) only [↓fsPre, fsPost, fsCond, fsGen, fsDefs, cls, eqVal, vbGen, fill_bits, reduceCtorEq, Nat.reduceAdd, Nat.reduceMul, Nat.reduceSub, Nat.reduceLT, Nat.reduceLeDiff, Nat.reduceEqDiff, Nat.reduceBEq, Nat.reduceBNe, Int.reduceLT, Int.reduceLE, Int.reduceEq, Int.reduceNe, Int.reduceAdd, Int.reduceSub, Int.reduceNeg, Int.reduceToNat, Int.reduceMul, ↓reduceIte, Int.reduceGT, Int.reduceGE]
  simp only [lonA, t14, NCode.a1, NCode.a2]
  simp (disch := first | omega | (simp only [fsLen]; omega)) only [↓fsPre, fsPost, fsCond, fsGen, fsDefs, cls, eqVal, vbGen, fill_bits, reduceCtorEq, Nat.reduceAdd, Nat.reduceMul, Nat.reduceSub, Nat.reduceLT, Nat.reduceLeDiff, Nat.reduceEqDiff, Nat.reduceBEq, Nat.reduceBNe, Int.reduceLT, Int.reduceLE, Int.reduceEq, Int.reduceNe, Int.reduceAdd, Int.reduceSub, Int.reduceNeg, Int.reduceToNat, Int.reduceMul, ↓reduceIte, Int.reduceGT, Int.reduceGE]
  simp only [lonB, t14, NCode.a1, NCode.a2]
  simp (disch := first | omega | (simp only [fsLen]; omega)) only [↓fsPre, fsPost, fsCond, fsGen, fsDefs, cls, eqVal, vbGen, fill_bits, reduceCtorEq, Nat.reduceAdd, Nat.reduceMul, Nat.reduceSub, Nat.reduceLT, Nat.reduceLeDiff, Nat.reduceEqDiff, Nat.reduceBEq, Nat.reduceBNe, Int.reduceLT, Int.reduceLE, Int.reduceEq, Int.reduceNe, Int.reduceAdd, Int.reduceSub, Int.reduceNeg, Int.reduceToNat, Int.reduceMul, ↓reduceIte, Int.reduceGT, Int.reduceGE, eqc_pn, hq]
  refine callDT_one (hfi _ _) rfl ?_
  by_cases hfit : bl v.toNat ≤ bits
  · have hd : decide ((bl v.toNat : Int) ≤ (bits : Int)) = true := by simpa using hfit
    rw [if_pos hfit]
    simp (disch := first | omega | (simp only [fsLen]; omega)) only [↓fsPre, fsPost, fsCond, fsGen, fsDefs, cls, eqVal, vbGen, fill_bits, reduceCtorEq, Nat.reduceAdd, Nat.reduceMul, Nat.reduceSub, Nat.reduceLT, Nat.reduceLeDiff, Nat.reduceEqDiff, Nat.reduceBEq, Nat.reduceBNe, Int.reduceLT, Int.reduceLE, Int.reduceEq, Int.reduceNe, Int.reduceAdd, Int.reduceSub, Int.reduceNeg, Int.reduceToNat, Int.reduceMul, ↓reduceIte, Int.reduceGT, Int.reduceGE, eqc_pn, hq, hd]
    have hvis := fun L f a d s ht => visit_ok H L v f a d s ht
    simp only [lonL, List.cons_append, List.nil_append, Nat.add_assoc, Nat.reduceAdd] at hvis
    simp only [lonC, t14, NCode.a1, NCode.a2]
    simp (disch := first | omega | (simp only [fsLen]; omega)) only [↓fsPre, fsPost, fsCond, fsGen, fsDefs, cls, eqVal, vbGen, fill_bits, reduceCtorEq, Nat.reduceAdd, Nat.reduceMul, Nat.reduceSub, Nat.reduceLT, Nat.reduceLeDiff, Nat.reduceEqDiff, Nat.reduceBEq, Nat.reduceBNe, Int.reduceLT, Int.reduceLE, Int.reduceEq, Int.reduceNe, Int.reduceAdd, Int.reduceSub, Int.reduceNeg, Int.reduceToNat, Int.reduceMul, ↓reduceIte, Int.reduceGT, Int.reduceGE]
    simp only [lonD, t14, NCode.a1, NCode.a2]
    simp (disch := first | omega | (simp only [fsLen]; omega)) only [↓fsPre, fsPost, fsCond, fsGen, fsDefs, cls, eqVal, vbGen, fill_bits, reduceCtorEq, Nat.reduceAdd, Nat.reduceMul, Nat.reduceSub, Nat.reduceLT, Nat.reduceLeDiff, Nat.reduceEqDiff, Nat.reduceBEq, Nat.reduceBNe, Int.reduceLT, Int.reduceLE, Int.reduceEq, Int.reduceNe, Int.reduceAdd, Int.reduceSub, Int.reduceNeg, Int.reduceToNat, Int.reduceMul, ↓reduceIte, Int.reduceGT, Int.reduceGE, hq, TT.ptr_flat, TT.ptr_one, TT.ptr_cells]
    simp only [lonE, t14, NCode.a1, NCode.a2]
    simp (disch := first | omega | (simp only [fsLen]; omega)) only [↓fsPre, fsPost, fsCond, fsGen, fsDefs, cls, eqVal, vbGen, fill_bits, reduceCtorEq, Nat.reduceAdd, Nat.reduceMul, Nat.reduceSub, Nat.reduceLT, Nat.reduceLeDiff, Nat.reduceEqDiff, Nat.reduceBEq, Nat.reduceBNe, Int.reduceLT, Int.reduceLE, Int.reduceEq, Int.reduceNe, Int.reduceAdd, Int.reduceSub, Int.reduceNeg, Int.reduceToNat, Int.reduceMul, ↓reduceIte, Int.reduceGT, Int.reduceGE]
    simp only [lonF, t14, NCode.a1, NCode.a2]
    simp (disch := first | omega | (simp only [fsLen]; omega)) only [↓fsPre, fsPost, fsCond, fsGen, fsDefs, cls, eqVal, vbGen, fill_bits, reduceCtorEq, Nat.reduceAdd, Nat.reduceMul, Nat.reduceSub, Nat.reduceLT, Nat.reduceLeDiff, Nat.reduceEqDiff, Nat.reduceBEq, Nat.reduceBNe, Int.reduceLT, Int.reduceLE, Int.reduceEq, Int.reduceNe, Int.reduceAdd, Int.reduceSub, Int.reduceNeg, Int.reduceToNat, Int.reduceMul, ↓reduceIte, Int.reduceGT, Int.reduceGE]
    refine callT_one (hvis [] _ (0, 0, false) 0 t ht.at_) rfl ?_
    simp (disch := first | omega | (simp only [fsLen]; omega)) only [↓fsPre, fsPost, fsCond, fsGen, fsDefs, cls, eqVal, vbGen, fill_bits, reduceCtorEq, Nat.reduceAdd, Nat.reduceMul, Nat.reduceSub, Nat.reduceLT, Nat.reduceLeDiff, Nat.reduceEqDiff, Nat.reduceBEq, Nat.reduceBNe, Int.reduceLT, Int.reduceLE, Int.reduceEq, Int.reduceNe, Int.reduceAdd, Int.reduceSub, Int.reduceNeg, Int.reduceToNat, Int.reduceMul, ↓reduceIte, Int.reduceGT, Int.reduceGE]
    generalize hf0 : NV.func (Fn.func 37) [] [NV.ptr (some (H.length + 4, 0)), NV.ptr (some (H.length + 5, 0)), NV.ptr (some (H.length + 1, 0)), NV.ptr (some (H.length + 2, 0)), NV.ptr (some (H.length + 3, 0))] = f0
    refine fwp_cutJ (fun F g => F 7 = .ptr (some (H.length + 1, 0)) ∧ F 8 = .ptr (some (H.length + 2, 0)) ∧ F 9 = .ptr (some (H.length + 3, 0)) ∧ ∃ p d, g = H ++ (lonL v f0 (t.er.long (pathB bits bits v) 0 (0, 0, false)) p d ++ lonBx q bits v)) ?_ ?_
    · simp only [lonG, t14, NCode.a1, NCode.a2]
      simp (disch := first | omega | (simp only [fsLen]; omega)) only [↓fsPre, fsPost, fsCond, fsGen, fsDefs, cls, eqVal, vbGen, fill_bits, reduceCtorEq, Nat.reduceAdd, Nat.reduceMul, Nat.reduceSub, Nat.reduceLT, Nat.reduceLeDiff, Nat.reduceEqDiff, Nat.reduceBEq, Nat.reduceBNe, Int.reduceLT, Int.reduceLE, Int.reduceEq, Int.reduceNe, Int.reduceAdd, Int.reduceSub, Int.reduceNeg, Int.reduceToNat, Int.reduceMul, ↓reduceIte, Int.reduceGT, Int.reduceGE, hq]
      refine callDT_one (hpa _) rfl ?_
      simp (disch := first | omega | (simp only [fsLen]; omega)) only [↓fsPre, fsPost, fsCond, fsGen, fsDefs, cls, eqVal, vbGen, fill_bits, reduceCtorEq, Nat.reduceAdd, Nat.reduceMul, Nat.reduceSub, Nat.reduceLT, Nat.reduceLeDiff, Nat.reduceEqDiff, Nat.reduceBEq, Nat.reduceBNe, Int.reduceLT, Int.reduceLE, Int.reduceEq, Int.reduceNe, Int.reduceAdd, Int.reduceSub, Int.reduceNeg, Int.reduceToNat, Int.reduceMul, ↓reduceIte, Int.reduceGT, Int.reduceGE]
      refine wrange (fun j g => g = H ++ (lonL v f0 (t.er.long (pathB bits j v) 0 (0, 0, false)) (t.find (pathB bits j v)).ptr j ++ lonBx q bits v)) ?_ (t46_ok).1 (iter_path (H.length + 9) (H.length + 8) (H.length + 7) q bits bits v hb (Nat.le_refl _)) ?_ ?_ ?_ ?_
      · simp (disch := first | omega | (simp only [fsLen]; omega)) only [↓fsPre, fsPost, fsCond, fsGen, fsDefs, cls, eqVal, vbGen, fill_bits, reduceCtorEq, Nat.reduceAdd, Nat.reduceMul, Nat.reduceSub, Nat.reduceLT, Nat.reduceLeDiff, Nat.reduceEqDiff, Nat.reduceBEq, Nat.reduceBNe, Int.reduceLT, Int.reduceLE, Int.reduceEq, Int.reduceNe, Int.reduceAdd, Int.reduceSub, Int.reduceNeg, Int.reduceToNat, Int.reduceMul, ↓reduceIte, Int.reduceGT, Int.reduceGE]
      · simp only [lonL, lonBx, show pathB bits 0 v = [] from rfl, TT.find_empty, T.long_empty]
        simp (disch := first | omega | (simp only [fsLen]; omega)) only [↓fsPre, fsPost, fsCond, fsGen, fsDefs, cls, eqVal, vbGen, fill_bits, reduceCtorEq, Nat.reduceAdd, Nat.reduceMul, Nat.reduceSub, Nat.reduceLT, Nat.reduceLeDiff, Nat.reduceEqDiff, Nat.reduceBEq, Nat.reduceBNe, Int.reduceLT, Int.reduceLE, Int.reduceEq, Int.reduceNe, Int.reduceAdd, Int.reduceSub, Int.reduceNeg, Int.reduceToNat, Int.reduceMul, ↓reduceIte, Int.reduceGT, Int.reduceGE]
      · rintro j g hj rfl
        refine ⟨?_, ?_, ?_, ⟨_, by rw [hget_appl lq]; exact hq⟩⟩
        · simp only [lonL, lonBx]; simp (disch := first | omega | (simp only [fsLen]; omega)) only [↓fsPre, fsPost, fsCond, fsGen, fsDefs, cls, eqVal, vbGen, fill_bits, reduceCtorEq, Nat.reduceAdd, Nat.reduceMul, Nat.reduceSub, Nat.reduceLT, Nat.reduceLeDiff, Nat.reduceEqDiff, Nat.reduceBEq, Nat.reduceBNe, Int.reduceLT, Int.reduceLE, Int.reduceEq, Int.reduceNe, Int.reduceAdd, Int.reduceSub, Int.reduceNeg, Int.reduceToNat, Int.reduceMul, ↓reduceIte, Int.reduceGT, Int.reduceGE]
        · simp only [lonL, lonBx]; simp (disch := first | omega | (simp only [fsLen]; omega)) only [↓fsPre, fsPost, fsCond, fsGen, fsDefs, cls, eqVal, vbGen, fill_bits, reduceCtorEq, Nat.reduceAdd, Nat.reduceMul, Nat.reduceSub, Nat.reduceLT, Nat.reduceLeDiff, Nat.reduceEqDiff, Nat.reduceBEq, Nat.reduceBNe, Int.reduceLT, Int.reduceLE, Int.reduceEq, Int.reduceNe, Int.reduceAdd, Int.reduceSub, Int.reduceNeg, Int.reduceToNat, Int.reduceMul, ↓reduceIte, Int.reduceGT, Int.reduceGE]
        · simp only [lonL, lonBx]; simp (disch := first | omega | (simp only [fsLen]; omega)) only [↓fsPre, fsPost, fsCond, fsGen, fsDefs, cls, eqVal, vbGen, fill_bits, reduceCtorEq, Nat.reduceAdd, Nat.reduceMul, Nat.reduceSub, Nat.reduceLT, Nat.reduceLeDiff, Nat.reduceEqDiff, Nat.reduceBEq, Nat.reduceBNe, Int.reduceLT, Int.reduceLE, Int.reduceEq, Int.reduceNe, Int.reduceAdd, Int.reduceSub, Int.reduceNeg, Int.reduceToNat, Int.reduceMul, ↓reduceIte, Int.reduceGT, Int.reduceGE]
      · rintro j g hj rfl
        rw [pathV_get hj]
        rw [pathV_length] at hj
        have hst := pathB_succ (bits := bits) (n := j) (v := v)
        have hat := ht.at_.find (pathB bits j v)
        have hat1 := ht.at_.find (pathB bits (j + 1) v)
        cases hf : t.find (pathB bits j v) with
        | nil =>
          have hall : t.er.long (pathB bits bits v) 0 (0, 0, false) = t.er.long (pathB bits j v) 0 (0, 0, false) := by
            rw [show pathB bits bits v = pathB bits j v ++ (pathB bits bits v).drop j by
              conv => lhs; rw [← List.take_append_drop j (pathB bits bits v), pathB_take (by omega)]]
            exact T.long_stop _ _ _ _ _ (by rw [← TT.er_find, hf]; rfl)
          simp only [lonL, lonBx]
          simp (disch := first | omega | (simp only [fsLen]; omega)) only [↓fsPre, fsPost, fsCond, fsGen, fsDefs, cls, eqVal, vbGen, fill_bits, reduceCtorEq, Nat.reduceAdd, Nat.reduceMul, Nat.reduceSub, Nat.reduceLT, Nat.reduceLeDiff, Nat.reduceEqDiff, Nat.reduceBEq, Nat.reduceBNe, Int.reduceLT, Int.reduceLE, Int.reduceEq, Int.reduceNe, Int.reduceAdd, Int.reduceSub, Int.reduceNeg, Int.reduceToNat, Int.reduceMul, ↓reduceIte, Int.reduceGT, Int.reduceGE, rngA_nrm, rngB_nrm, rngB_exit, rngB_ret, ptr_nl, eqc_nn]
          rw [hall]
          exact ⟨_, _, rfl⟩
        | node b u i l r =>
          rw [hf] at hat
          have hb := hat.1
          have lb := hget_some_lt hb
          simp only [lonL, lonBx]
          cases hx : bitAt bits v j with
          | false =>
            rw [hx] at hst
            have hf1 : t.find (pathB bits (j + 1) v) = l := by rw [hst, TT.find_step hf]; rfl
            have hacc : t.er.long (pathB bits (j + 1) v) 0 (0, 0, false) = l.er.vis (j + 1) (t.er.long (pathB bits j v) 0 (0, 0, false)) := by
              rw [← hf1, TT.er_find, hst, T.long_snoc, pathB_length, Nat.zero_add]
            have hv1 := hvis (lonBx q bits v) f0 (t.er.long (pathB bits j v) 0 (0, 0, false)) (j + 1) l hat.2.1
            rw [hacc, hf1]
            simp only [lonBx, Int.natCast_add, Int.cast_ofNat_Int, List.cons_append, List.nil_append] at hv1
            simp (disch := first | omega | (simp only [fsLen]; omega)) only [↓fsPre, fsPost, fsCond, fsGen, fsDefs, cls, eqVal, vbGen, fill_bits, reduceCtorEq, Nat.reduceAdd, Nat.reduceMul, Nat.reduceSub, Nat.reduceLT, Nat.reduceLeDiff, Nat.reduceEqDiff, Nat.reduceBEq, Nat.reduceBNe, Int.reduceLT, Int.reduceLE, Int.reduceEq, Int.reduceNe, Int.reduceAdd, Int.reduceSub, Int.reduceNeg, Int.reduceToNat, Int.reduceMul, ↓reduceIte, Int.reduceGT, Int.reduceGE, rngA_nrm, rngB_nrm, rngB_exit, rngB_ret, ptr_nd, eqc_pn, bitNV_f, hb, TT.ptr_flat, TT.ptr_one, TT.ptr_cells]
            subst hf0
            simp (disch := first | omega | (simp only [fsLen]; omega)) only [↓fsPre, fsPost, fsCond, fsGen, fsDefs, cls, eqVal, vbGen, fill_bits, reduceCtorEq, Nat.reduceAdd, Nat.reduceMul, Nat.reduceSub, Nat.reduceLT, Nat.reduceLeDiff, Nat.reduceEqDiff, Nat.reduceBEq, Nat.reduceBNe, Int.reduceLT, Int.reduceLE, Int.reduceEq, Int.reduceNe, Int.reduceAdd, Int.reduceSub, Int.reduceNeg, Int.reduceToNat, Int.reduceMul, ↓reduceIte, Int.reduceGT, Int.reduceGE, rngA_nrm, rngB_nrm, rngB_exit, rngB_ret]
            refine callT_one hv1 rfl ?_
            simp (disch := first | omega | (simp only [fsLen]; omega)) only [↓fsPre, fsPost, fsCond, fsGen, fsDefs, cls, eqVal, vbGen, fill_bits, reduceCtorEq, Nat.reduceAdd, Nat.reduceMul, Nat.reduceSub, Nat.reduceLT, Nat.reduceLeDiff, Nat.reduceEqDiff, Nat.reduceBEq, Nat.reduceBNe, Int.reduceLT, Int.reduceLE, Int.reduceEq, Int.reduceNe, Int.reduceAdd, Int.reduceSub, Int.reduceNeg, Int.reduceToNat, Int.reduceMul, ↓reduceIte, Int.reduceGT, Int.reduceGE, rngA_nrm, rngB_nrm, rngB_exit, rngB_ret]
          | true =>
            rw [hx] at hst
            have hf1 : t.find (pathB bits (j + 1) v) = r := by rw [hst, TT.find_step hf]; rfl
            have hacc : t.er.long (pathB bits (j + 1) v) 0 (0, 0, false) = r.er.vis (j + 1) (t.er.long (pathB bits j v) 0 (0, 0, false)) := by
              rw [← hf1, TT.er_find, hst, T.long_snoc, pathB_length, Nat.zero_add]
            have hv1 := hvis (lonBx q bits v) f0 (t.er.long (pathB bits j v) 0 (0, 0, false)) (j + 1) r hat.2.2
            rw [hacc, hf1]
            simp only [lonBx, Int.natCast_add, Int.cast_ofNat_Int, List.cons_append, List.nil_append] at hv1
            simp (disch := first | omega | (simp only [fsLen]; omega)) only [↓fsPre, fsPost, fsCond, fsGen, fsDefs, cls, eqVal, vbGen, fill_bits, reduceCtorEq, Nat.reduceAdd, Nat.reduceMul, Nat.reduceSub, Nat.reduceLT, Nat.reduceLeDiff, Nat.reduceEqDiff, Nat.reduceBEq, Nat.reduceBNe, Int.reduceLT, Int.reduceLE, Int.reduceEq, Int.reduceNe, Int.reduceAdd, Int.reduceSub, Int.reduceNeg, Int.reduceToNat, Int.reduceMul, ↓reduceIte, Int.reduceGT, Int.reduceGE, rngA_nrm, rngB_nrm, rngB_exit, rngB_ret, ptr_nd, eqc_pn, bitNV_t, hb, TT.ptr_flat, TT.ptr_one, TT.ptr_cells]
            subst hf0
            simp (disch := first | omega | (simp only [fsLen]; omega)) only [↓fsPre, fsPost, fsCond, fsGen, fsDefs, cls, eqVal, vbGen, fill_bits, reduceCtorEq, Nat.reduceAdd, Nat.reduceMul, Nat.reduceSub, Nat.reduceLT, Nat.reduceLeDiff, Nat.reduceEqDiff, Nat.reduceBEq, Nat.reduceBNe, Int.reduceLT, Int.reduceLE, Int.reduceEq, Int.reduceNe, Int.reduceAdd, Int.reduceSub, Int.reduceNeg, Int.reduceToNat, Int.reduceMul, ↓reduceIte, Int.reduceGT, Int.reduceGE, rngA_nrm, rngB_nrm, rngB_exit, rngB_ret]
            refine callT_one hv1 rfl ?_
            simp (disch := first | omega | (simp only [fsLen]; omega)) only [↓fsPre, fsPost, fsCond, fsGen, fsDefs, cls, eqVal, vbGen, fill_bits, reduceCtorEq, Nat.reduceAdd, Nat.reduceMul, Nat.reduceSub, Nat.reduceLT, Nat.reduceLeDiff, Nat.reduceEqDiff, Nat.reduceBEq, Nat.reduceBNe, Int.reduceLT, Int.reduceLE, Int.reduceEq, Int.reduceNe, Int.reduceAdd, Int.reduceSub, Int.reduceNeg, Int.reduceToNat, Int.reduceMul, ↓reduceIte, Int.reduceGT, Int.reduceGE, rngA_nrm, rngB_nrm, rngB_exit, rngB_ret]
      · rintro g rfl
        rw [pathV_length]
        simp (disch := first | omega | (simp only [fsLen]; omega)) only [↓fsPre, fsPost, fsCond, fsGen, fsDefs, cls, eqVal, vbGen, fill_bits, reduceCtorEq, Nat.reduceAdd, Nat.reduceMul, Nat.reduceSub, Nat.reduceLT, Nat.reduceLeDiff, Nat.reduceEqDiff, Nat.reduceBEq, Nat.reduceBNe, Int.reduceLT, Int.reduceLE, Int.reduceEq, Int.reduceNe, Int.reduceAdd, Int.reduceSub, Int.reduceNeg, Int.reduceToNat, Int.reduceMul, ↓reduceIte, Int.reduceGT, Int.reduceGE]
        exact ⟨_, _, rfl⟩
    · rintro F g ⟨f7, f8, f9, p, d, rfl⟩
      simp (disch := first | omega | (simp only [fsLen]; omega)) only [↓fsPre, fsPost, fsCond, fsGen, fsDefs, cls, eqVal, vbGen, fill_bits, reduceCtorEq, Nat.reduceAdd, Nat.reduceMul, Nat.reduceSub, Nat.reduceLT, Nat.reduceLeDiff, Nat.reduceEqDiff, Nat.reduceBEq, Nat.reduceBNe, Int.reduceLT, Int.reduceLE, Int.reduceEq, Int.reduceNe, Int.reduceAdd, Int.reduceSub, Int.reduceNeg, Int.reduceToNat, Int.reduceMul, ↓reduceIte, Int.reduceGT, Int.reduceGE]
      simp only [lonH, t14, NCode.a1, NCode.a2, lonL, lonBx]
      simp (disch := first | omega | (simp only [fsLen]; omega)) only [↓fsPre, fsPost, fsCond, fsGen, fsDefs, cls, eqVal, vbGen, fill_bits, reduceCtorEq, Nat.reduceAdd, Nat.reduceMul, Nat.reduceSub, Nat.reduceLT, Nat.reduceLeDiff, Nat.reduceEqDiff, Nat.reduceBEq, Nat.reduceBNe, Int.reduceLT, Int.reduceLE, Int.reduceEq, Int.reduceNe, Int.reduceAdd, Int.reduceSub, Int.reduceNeg, Int.reduceToNat, Int.reduceMul, ↓reduceIte, Int.reduceGT, Int.reduceGE, f7, f8, f9]
      exact ⟨_, rfl⟩
  · have hd : decide ((bl v.toNat : Int) ≤ (bits : Int)) = false := by simpa using hfit
    rw [if_neg hfit]
    simp (disch := first | omega | (simp only [fsLen]; omega)) only [↓fsPre, fsPost, fsCond, fsGen, fsDefs, cls, eqVal, vbGen, fill_bits, reduceCtorEq, Nat.reduceAdd, Nat.reduceMul, Nat.reduceSub, Nat.reduceLT, Nat.reduceLeDiff, Nat.reduceEqDiff, Nat.reduceBEq, Nat.reduceBNe, Int.reduceLT, Int.reduceLE, Int.reduceEq, Int.reduceNe, Int.reduceAdd, Int.reduceSub, Int.reduceNeg, Int.reduceToNat, Int.reduceMul, ↓reduceIte, Int.reduceGT, Int.reduceGE, eqc_pn, hq, hd]
    exact ⟨_, rfl⟩
end Go.Proofs
