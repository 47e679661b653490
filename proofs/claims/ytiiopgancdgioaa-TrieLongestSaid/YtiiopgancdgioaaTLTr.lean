/- Trie: TrieLongest. -/
import Derived.Test.YtiiopgancdgioaaVbE
import Derived.Test.YtiiopgancdgioaaTLTq
set_option linter.unusedSimpArgs false
set_option linter.unusedVariables false
set_option maxRecDepth 100000
namespace Go.Proofs
open Go.Ns

/-! ### Values as an argument -/
def vaC (v : BitVec 128) : List NV := [nb (hiOf v), nb (loOf v)]
theorem vaC_length (v : BitVec 128) : (vaC v).length = 2 := rfl
def kVal : List FKd := [.int .u64, .int .u64]
theorem va_row {r : List NV} (h : typeds kVal r) : ∃ v : BitVec 128, r = vaC v := by
  have hl := typeds_length h
  match r, hl with
  | [a, b], _ =>
    obtain ⟨ha, hb, _⟩ := h
    obtain ⟨v, rfl, rfl⟩ := pair_val ha hb
    exact ⟨v, rfl⟩
theorem va_rows : ∀ {rows : List (List NV)}, (∀ r ∈ rows, typeds kVal r) → ∃ vs : List (BitVec 128), rows.flatten = vs.flatMap vaC ∧ vs.length = rows.length
  | [], _ => ⟨[], rfl, rfl⟩
  | r :: rows, h => by
    obtain ⟨o, rfl⟩ := va_row (h r (List.mem_cons_self ..))
    obtain ⟨os, h2, h3⟩ := va_rows fun x hx => h x (List.mem_cons_of_mem _ hx)
    exact ⟨o :: os, by simp [h2], by simp [h3]⟩
def VIn (P : Nat → Prop) (h : Heap) (A : Option (Nat × Nat)) (vs : List (BitVec 128)) : Prop := 0 < vs.length → ∃ b cs ro, A = some (b, 0) ∧ P b ∧ hget h b = some (.cells cs ro) ∧ ∀ i (hi : i < vs.length), cut cs (i * 2) 2 = some (vaC vs[i])
theorem VIn.keep {P P' : Nat → Prop} {h h' : Heap} {A : Option (Nat × Nat)} {os : List (BitVec 128)} (x : VIn P h A os) (k : ∀ b, P b → b < h.length → hget h' b = hget h b) (p : ∀ b, P b → P' b) : VIn P' h' A os := fun h0 => by
  obtain ⟨b, cs, ro, x1, x2, x3, x4⟩ := x h0
  exact ⟨b, cs, ro, x1, p b x2, by rw [k b x2 (hget_lt x3)]; exact x3, x4⟩
theorem argOK_vals {H : Heap} {b : Nat} {v : NV} {x : Option NBlk} (h : argOK (.sl kVal) b v x) (hx : hget H b = x) : ∃ (vs : List (BitVec 128)) (A : Option (Nat × Nat)) (m : Nat), v = .slice A vs.length (.fix m) ∧ vs.length ≤ m ∧ m ≤ 9223372036854775807 ∧ VIn (fun b => b < H.length) H A vs := by
  rcases h with ⟨rfl, _⟩ | ⟨n, c, rows, rfl, rfl, hn, hc, hl, hr⟩
  · exact ⟨[], none, 0, rfl, Nat.le_refl _, by omega, fun h => by simp at h⟩
  · obtain ⟨os, h1, h2⟩ := va_rows hr
    have hm : maxLen ≤ 9223372036854775807 := by decide
    have hlen : (os.take n).length = n := by simp; omega
    refine ⟨os.take n, some (b, 0), c, by rw [hlen], by omega, by omega, fun _ => ⟨b, _, true, rfl, hget_lt hx, hx, fun i hi => ?_⟩⟩
    rw [h1, cut_flatMap vaC_length (by omega), List.getElem_take]

def lgA : NCode := t3.body.a1
def lgB : NCode := t3.body.a2.a1
def lgC : NCode := t3.body.a2.a2.a1
def lgD : NCode := t3.body.a2.a2.a2.a1
def lgE : NCode := t3.body.a2.a2.a2.a2.a1
def lgF : NCode := t3.body.a2.a2.a2.a2.a2
theorem lg_body : t3.body = .seq lgA (.seq lgB (.seq lgC (.seq lgD (.seq lgE lgF)))) := rfl
theorem lg_res : t3.res = [.tmp 6] := rfl

set_option maxHeartbeats 2000000 in
theorem lg1 (H : Heap) (bits : Nat) (hb1 : 1 ≤ bits) (hb2 : bits ≤ 128) (os : List OpD) (hok : ∀ o ∈ os, o.OK) (A : Option (Nat × Nat)) (m : Nat) (hm1 : os.length ≤ m) (hm2 : m ≤ 9223372036854775807) (F : FF) (g : Heap) (tx : TT) (sl vv : NV)
    (f1 : F 1 = .slice A os.length (.fix m)) (f2 : F 2 = vv) (f7 : F 7 = .int .i64 bits) (f8 : F 8 = .ptr (some (H.length, 0))) (f9 : F 9 = .ptr (some (H.length + 1, 0))) (S : StD H.length g H.length (H.length + 1) bits tx (tx.er.items bits) sl) (hO : OIn (fun b => b < H.length) g A os) (k0 : ∀ b, b < H.length → hget g b = hget H b) (hx : (tx.er.items bits).length ≤ 0) :
    fwpT E0 lgD (joinK fun F' g' => ∃ tx sl, F' 2 = vv ∧ F' 7 = .int .i64 bits ∧ F' 8 = .ptr (some (H.length, 0)) ∧ F' 9 = .ptr (some (H.length + 1, 0)) ∧ StD H.length g' H.length (H.length + 1) bits tx (tx.er.items bits) sl ∧ (∀ b, b < H.length → hget g' b = hget H b) ∧ (tx.er.items bits).length ≤ 24) F g .mk := by
  have eN : (if (24 : Int) < os.length then (24 : Int) else os.length) = (min 24 os.length : Nat) := by split <;> omega
  have hN1 : min 24 os.length ≤ 24 ∧ min 24 os.length ≤ os.length := by omega
  generalize min 24 os.length = N1 at *
  have eA1 : (if m = 0 then A else Option.map (fun x => (x.fst, x.snd)) A) = A := by cases A <;> simp
  simp only [lgD, t3, NCode.a1, NCode.a2]
  simp (disch := first | omega | (simp only [fsLen]; omega)) only [↓fsPre, fsPost, fsCond, fsGen, fsDefs, cls, eqVal, vbGen, fill_bits, reduceCtorEq, Nat.reduceAdd, Nat.reduceMul, Nat.reduceSub, Nat.reduceLT, Nat.reduceLeDiff, Nat.reduceEqDiff, Nat.reduceBEq, Nat.reduceBNe, Int.reduceLT, Int.reduceLE, Int.reduceEq, Int.reduceNe, Int.reduceAdd, Int.reduceSub, Int.reduceNeg, Int.reduceToNat, Int.reduceMul, ↓reduceIte, Int.reduceGT, Int.reduceGE, f1, eN, eA1]
  refine wloop (fun j F g => F 36 = .slice A N1 (.fix m) ∧ F 37 = .int .i64 N1 ∧ F 38 = .int .i64 j ∧ F 2 = vv ∧ F 7 = .int .i64 bits ∧ F 8 = .ptr (some (H.length, 0)) ∧ F 9 = .ptr (some (H.length + 1, 0)) ∧ ∃ tx sl, StD H.length g H.length (H.length + 1) bits tx (tx.er.items bits) sl ∧ (∀ b, b < H.length → hget g b = hget H b) ∧ OIn (fun b => b < H.length) g A os ∧ (tx.er.items bits).length ≤ j) N1 ?_ ?_ ?_
  · simp (disch := first | omega | (simp only [fsLen]; omega)) only [↓fsPre, fsPost, fsCond, fsGen, fsDefs, cls, eqVal, vbGen, fill_bits, reduceCtorEq, Nat.reduceAdd, Nat.reduceMul, Nat.reduceSub, Nat.reduceLT, Nat.reduceLeDiff, Nat.reduceEqDiff, Nat.reduceBEq, Nat.reduceBNe, Int.reduceLT, Int.reduceLE, Int.reduceEq, Int.reduceNe, Int.reduceAdd, Int.reduceSub, Int.reduceNeg, Int.reduceToNat, Int.reduceMul, ↓reduceIte, Int.reduceGT, Int.reduceGE, f2, f7, f8, f9]
    exact ⟨tx, sl, S, k0, hO, hx⟩
  · clear S hO k0 hx f1 f2 f7 f8 f9
    rintro j F g hj ⟨f36, f37, f38, f2, f7, f8, f9, tx, sl, S, k0, hO, hn⟩
    obtain ⟨b, cs, ro, rfl, hbH, hb, hcut⟩ := hO (by omega)
    have lb := hget_some_lt hb
    have hc := hcut j (by omega)
    have hoj := hok os[j] (List.getElem_mem _)
    have hpr := fun H => prefix_ok H os[j] hoj bits ⟨hb1, hb2⟩
    simp only [opC, vnv] at hc hpr
    have hd : decide ((j : Int) < (N1 : Int)) = true := by simp; omega
    simp (disch := first | omega | (simp only [fsLen]; omega)) only [↓fsPre, fsPost, fsCond, fsGen, fsDefs, cls, eqVal, vbGen, fill_bits, reduceCtorEq, Nat.reduceAdd, Nat.reduceMul, Nat.reduceSub, Nat.reduceLT, Nat.reduceLeDiff, Nat.reduceEqDiff, Nat.reduceBEq, Nat.reduceBNe, Int.reduceLT, Int.reduceLE, Int.reduceEq, Int.reduceNe, Int.reduceAdd, Int.reduceSub, Int.reduceNeg, Int.reduceToNat, Int.reduceMul, ↓reduceIte, Int.reduceGT, Int.reduceGE, f36, f37, f38, f7, hd, hb, hc, nb_one]
    refine callT_one (hpr _) rfl ?_
    simp (disch := first | omega | (simp only [fsLen]; omega)) only [↓fsPre, fsPost, fsCond, fsGen, fsDefs, cls, eqVal, vbGen, fill_bits, reduceCtorEq, Nat.reduceAdd, Nat.reduceMul, Nat.reduceSub, Nat.reduceLT, Nat.reduceLeDiff, Nat.reduceEqDiff, Nat.reduceBEq, Nat.reduceBNe, Int.reduceLT, Int.reduceLE, Int.reduceEq, Int.reduceNe, Int.reduceAdd, Int.reduceSub, Int.reduceNeg, Int.reduceToNat, Int.reduceMul, ↓reduceIte, Int.reduceGT, Int.reduceGE, f36, f37, f38, f7, f8, hd, hb, hc, nb_one]
    have S1 := S.app [some (.cells [.int .i64 os[j].k, .int .u8 os[j].raw, nb (hiOf os[j].v), nb (loOf os[j].v), .int .i64 os[j].n, .int .i64 os[j].id] false), some (.cells [nb (hiOf (prefO bits os[j]).1), nb (loOf (prefO bits os[j]).1)] false)]
    have hpu := tput_any _ H.length bits tx (prefO bits os[j]).1 (prefO bits os[j]).2 os[j].id hb2 S1.x
    simp only [vnv] at hpu
    refine callT_D hpu rfl ?_
    rintro x h1 ⟨rfl, tx', P⟩
    obtain ⟨S2, k2⟩ := S1.putX P (putO_ok S1.ox _ _ _)
    have er := P.er
    have hni := putO_items hb2 S.ox (prefO bits os[j]).1 (prefO bits os[j]).2 os[j].id
    have kp : ∀ b, b < g.length + 2 → b ≠ H.length → b ∉ tx.bl → hget h1 b = hget (g ++ [some (.cells [.int .i64 os[j].k, .int .u8 os[j].raw, nb (hiOf os[j].v), nb (loOf os[j].v), .int .i64 os[j].n, .int .i64 os[j].id] false), some (.cells [nb (hiOf (prefO bits os[j]).1), nb (loOf (prefO bits os[j]).1)] false)]) b := fun b hb h1 h2 => P.keep b (by simp; omega) h1 h2
    have lqx := S.x.lt (.inl rfl)
    have hop : hget h1 g.length = some (.cells [.int .i64 os[j].k, .int .u8 os[j].raw, nb (hiOf os[j].v), nb (loOf os[j].v), .int .i64 os[j].n, .int .i64 os[j].id] false) := by
      rw [kp _ (by omega) (by omega) (fun hm => by have := S.x.lt (.inr hm); omega), hget_appr (Nat.le_refl _), Nat.sub_self]; rfl
    have hpv : hget h1 (g.length + 1) = some (.cells [nb (hiOf (prefO bits os[j]).1), nb (loOf (prefO bits os[j]).1)] false) := by
      rw [kp _ (by omega) (by omega) (fun hm => by have := S.x.lt (.inr hm); omega), hget_appr (by omega), Nat.add_sub_cancel_left]; rfl
    have lop := hget_some_lt hop
    have lpv := hget_some_lt hpv
    simp (disch := first | omega | (simp only [fsLen]; omega)) only [↓fsPre, fsPost, fsCond, fsGen, fsDefs, cls, eqVal, vbGen, fill_bits, reduceCtorEq, Nat.reduceAdd, Nat.reduceMul, Nat.reduceSub, Nat.reduceLT, Nat.reduceLeDiff, Nat.reduceEqDiff, Nat.reduceBEq, Nat.reduceBNe, Int.reduceLT, Int.reduceLE, Int.reduceEq, Int.reduceNe, Int.reduceAdd, Int.reduceSub, Int.reduceNeg, Int.reduceToNat, Int.reduceMul, ↓reduceIte, Int.reduceGT, Int.reduceGE, f36, f37, f38, f7, f9, hop, hpv, nb_one]
    have hdp := dput_any h1 (H.length + 1) bits sl tx.er (prefO bits os[j]).1 (prefO bits os[j]).2 os[j].id hb2 S.ox S2.hy S2.gy (by omega)
    simp only [vnv] at hdp
    refine callT_D hdp rfl ?_
    rintro x h2 ⟨_, D⟩
    obtain ⟨sl', S3, k3⟩ := S2.doc D
    rw [← er] at S3 hni
    simp (disch := first | omega | (simp only [fsLen]; omega)) only [↓fsPre, fsPost, fsCond, fsGen, fsDefs, cls, eqVal, vbGen, fill_bits, reduceCtorEq, Nat.reduceAdd, Nat.reduceMul, Nat.reduceSub, Nat.reduceLT, Nat.reduceLeDiff, Nat.reduceEqDiff, Nat.reduceBEq, Nat.reduceBNe, Int.reduceLT, Int.reduceLE, Int.reduceEq, Int.reduceNe, Int.reduceAdd, Int.reduceSub, Int.reduceNeg, Int.reduceToNat, Int.reduceMul, ↓reduceIte, Int.reduceGT, Int.reduceGE, f36, f37, f38, f2, f7, f8, f9]
    refine ⟨tx', sl', S3, fun b hb => ?_, hO.keep (fun b hb hbg => by rw [k3 b hb, k2 b hb, hget_appl hbg]) (fun b hb => hb), by omega⟩
    rw [k3 b hb, k2 b hb, hget_appl (by have := S.hN; omega)]; exact k0 b hb
  · rintro F g ⟨f36, f37, f38, f2, f7, f8, f9, tx, sl, S, k0, hO, hn⟩
    simp (disch := first | omega | (simp only [fsLen]; omega)) only [↓fsPre, fsPost, fsCond, fsGen, fsDefs, cls, eqVal, vbGen, fill_bits, reduceCtorEq, Nat.reduceAdd, Nat.reduceMul, Nat.reduceSub, Nat.reduceLT, Nat.reduceLeDiff, Nat.reduceEqDiff, Nat.reduceBEq, Nat.reduceBNe, Int.reduceLT, Int.reduceLE, Int.reduceEq, Int.reduceNe, Int.reduceAdd, Int.reduceSub, Int.reduceNeg, Int.reduceToNat, Int.reduceMul, ↓reduceIte, Int.reduceGT, Int.reduceGE, f36, f37, f38]
    exact ⟨tx, sl, f2, f7, f8, f9, S, k0, by omega⟩

theorem cut3 (v w z : BitVec 128) (k : Nat) (hk : k < 3) : ∃ u : BitVec 128, cut [nb (hiOf v), nb (loOf v), nb (hiOf w), nb (loOf w), nb (hiOf z), nb (loOf z)] (k * 2) 2 = some [nb (hiOf u), nb (loOf u)] := by
  match k, hk with
  | 0, _ => exact ⟨v, rfl⟩
  | 1, _ => exact ⟨w, rfl⟩
  | 2, _ => exact ⟨z, rfl⟩

set_option maxHeartbeats 2000000 in
theorem lg2 (H : Heap) (bits : Nat) (hb1 : 1 ≤ bits) (hb2 : bits ≤ 128) (vs : List (BitVec 128)) (A : Option (Nat × Nat)) (m : Nat) (hm1 : vs.length ≤ m) (hm2 : m ≤ 9223372036854775807) (F : FF) (g : Heap) (tx : TT) (sl : NV)
    (f2 : F 2 = .slice A vs.length (.fix m)) (f7 : F 7 = .int .i64 bits) (f8 : F 8 = .ptr (some (H.length, 0))) (f9 : F 9 = .ptr (some (H.length + 1, 0))) (S : StD H.length g H.length (H.length + 1) bits tx (tx.er.items bits) sl) (hO : VIn (fun b => b < H.length) g A vs) (hx : (tx.er.items bits).length ≤ 24) :
    fwpT E0 lgE (joinK fun F' g' => True) F g .mk := by
  have eN : (if (12 : Int) < vs.length then (12 : Int) else vs.length) = (min 12 vs.length : Nat) := by split <;> omega
  have hN1 : min 12 vs.length ≤ 12 ∧ min 12 vs.length ≤ vs.length := by omega
  generalize min 12 vs.length = N1 at *
  have eA1 : (if m = 0 then A else Option.map (fun x => (x.fst, x.snd)) A) = A := by cases A <;> simp
  simp only [lgE, t3, NCode.a1, NCode.a2]
  simp (disch := first | omega | (simp only [fsLen]; omega)) only [↓fsPre, fsPost, fsCond, fsGen, fsDefs, cls, eqVal, vbGen, fill_bits, reduceCtorEq, Nat.reduceAdd, Nat.reduceMul, Nat.reduceSub, Nat.reduceLT, Nat.reduceLeDiff, Nat.reduceEqDiff, Nat.reduceBEq, Nat.reduceBNe, Int.reduceLT, Int.reduceLE, Int.reduceEq, Int.reduceNe, Int.reduceAdd, Int.reduceSub, Int.reduceNeg, Int.reduceToNat, Int.reduceMul, ↓reduceIte, Int.reduceGT, Int.reduceGE, f2, eN, eA1]
  refine wloop (fun j F g => F 65 = .slice A N1 (.fix m) ∧ F 66 = .int .i64 N1 ∧ F 67 = .int .i64 j ∧ F 7 = .int .i64 bits ∧ F 8 = .ptr (some (H.length, 0)) ∧ F 9 = .ptr (some (H.length + 1, 0)) ∧ StD H.length g H.length (H.length + 1) bits tx (tx.er.items bits) sl ∧ VIn (fun b => b < H.length) g A vs) N1 ?_ ?_ ?_
  · simp (disch := first | omega | (simp only [fsLen]; omega)) only [↓fsPre, fsPost, fsCond, fsGen, fsDefs, cls, eqVal, vbGen, fill_bits, reduceCtorEq, Nat.reduceAdd, Nat.reduceMul, Nat.reduceSub, Nat.reduceLT, Nat.reduceLeDiff, Nat.reduceEqDiff, Nat.reduceBEq, Nat.reduceBNe, Int.reduceLT, Int.reduceLE, Int.reduceEq, Int.reduceNe, Int.reduceAdd, Int.reduceSub, Int.reduceNeg, Int.reduceToNat, Int.reduceMul, ↓reduceIte, Int.reduceGT, Int.reduceGE, f7, f8, f9]
    exact ⟨S, hO⟩
  · clear S hO f2 f7 f8 f9
    rintro j F g hj ⟨f65, f66, f67, f7, f8, f9, S, hO⟩
    obtain ⟨b, cs, ro, rfl, hbH, hb, hcut⟩ := hO (by omega)
    have lb := hget_some_lt hb
    have hc := hcut j (by omega)
    generalize vs[j] = v at hc
    have hlo := fun H => low_ok H v bits (by omega)
    have hloj := fun H => low_ok H v j (by omega)
    simp only [vaC, vnv] at hc hlo hloj
    have hd : decide ((j : Int) < (N1 : Int)) = true := by simp; omega
    have hy := S.hy
    have ly := hget_some_lt hy
    obtain ⟨B, c, hsl, hB⟩ := S.gy.prs
    rw [hsl] at hy
    simp (disch := first | omega | (simp only [fsLen]; omega)) only [↓fsPre, fsPost, fsCond, fsGen, fsDefs, cls, eqVal, vbGen, fill_bits, reduceCtorEq, Nat.reduceAdd, Nat.reduceMul, Nat.reduceSub, Nat.reduceLT, Nat.reduceLeDiff, Nat.reduceEqDiff, Nat.reduceBEq, Nat.reduceBNe, Int.reduceLT, Int.reduceLE, Int.reduceEq, Int.reduceNe, Int.reduceAdd, Int.reduceSub, Int.reduceNeg, Int.reduceToNat, Int.reduceMul, ↓reduceIte, Int.reduceGT, Int.reduceGE, f65, f66, f67, f7, hd, hb, hc, nb_one]
    refine callT_one (hlo _) rfl ?_
    simp (disch := first | omega | (simp only [fsLen]; omega)) only [↓fsPre, fsPost, fsCond, fsGen, fsDefs, cls, eqVal, vbGen, fill_bits, reduceCtorEq, Nat.reduceAdd, Nat.reduceMul, Nat.reduceSub, Nat.reduceLT, Nat.reduceLeDiff, Nat.reduceEqDiff, Nat.reduceBEq, Nat.reduceBNe, Int.reduceLT, Int.reduceLE, Int.reduceEq, Int.reduceNe, Int.reduceAdd, Int.reduceSub, Int.reduceNeg, Int.reduceToNat, Int.reduceMul, ↓reduceIte, Int.reduceGT, Int.reduceGE, f65, f66, f67, f7, f9, hy, nb_one]
    generalize hz : v &&& onesV bits = z at *
    have hxo := fun H a b => rxor_ok H a b
    simp only [vnv] at hxo
    refine condK_join (fun F h => F 65 = .slice (some (b, 0)) N1 (.fix m) ∧ F 66 = .int .i64 N1 ∧ F 67 = .int .i64 j ∧ F 7 = .int .i64 bits ∧ F 8 = .ptr (some (H.length, 0)) ∧ F 9 = .ptr (some (H.length + 1, 0)) ∧ F 15 = .ptr (some (g.length, 0)) ∧ F 16 = .ptr (some (g.length + 1, 0)) ∧ ∃ w : BitVec 128, h = g ++ [some (.cells [nb (hiOf v), nb (loOf v)] false), some (.cells [nb (hiOf w), nb (loOf w)] false)]) (fun hL => ?_) (fun hL => ?_) ?_
    · have hL : 0 < (tx.er.items bits).length := by simpa using hL
      rcases hB with ⟨_, h0⟩ | ⟨rfl, _, b', rfl, hb'⟩
      · rw [h0] at hL; simp at hL
      have lb' := hget_some_lt hb'
      have em : Int.tmod (j : Int) ((tx.er.items bits).length : Int) = ((j % (tx.er.items bits).length : Nat) : Int) := by
        rw [Int.tmod_eq_emod_of_nonneg (by omega)]; rfl
      have hml := Nat.mod_lt j hL
      have n0 : ¬ ((tx.er.items bits).length : Int) = 0 := by omega
      have hv := pfs_val hml
      generalize (tx.er.items bits)[j % (tx.er.items bits).length].1.1 = y at hv
      simp (disch := first | omega | (simp only [fsLen]; omega)) only [↓fsPre, fsPost, fsCond, fsGen, fsDefs, cls, eqVal, vbGen, fill_bits, reduceCtorEq, Nat.reduceAdd, Nat.reduceMul, Nat.reduceSub, Nat.reduceLT, Nat.reduceLeDiff, Nat.reduceEqDiff, Nat.reduceBEq, Nat.reduceBNe, Int.reduceLT, Int.reduceLE, Int.reduceEq, Int.reduceNe, Int.reduceAdd, Int.reduceSub, Int.reduceNeg, Int.reduceToNat, Int.reduceMul, ↓reduceIte, Int.reduceGT, Int.reduceGE, f65, f66, f67, f7, f8, f9, hy, n0, em, hb', hv, nb_one]
      refine callDT_one (hloj _) rfl ?_
      simp (disch := first | omega | (simp only [fsLen]; omega)) only [↓fsPre, fsPost, fsCond, fsGen, fsDefs, cls, eqVal, vbGen, fill_bits, reduceCtorEq, Nat.reduceAdd, Nat.reduceMul, Nat.reduceSub, Nat.reduceLT, Nat.reduceLeDiff, Nat.reduceEqDiff, Nat.reduceBEq, Nat.reduceBNe, Int.reduceLT, Int.reduceLE, Int.reduceEq, Int.reduceNe, Int.reduceAdd, Int.reduceSub, Int.reduceNeg, Int.reduceToNat, Int.reduceMul, ↓reduceIte, Int.reduceGT, Int.reduceGE, f65, f66, f67, f7, f8, f9, hy, n0, em, hb', hv, nb_one]
      refine callDT_one (hxo _ _ _) rfl ?_
      simp (disch := first | omega | (simp only [fsLen]; omega)) only [↓fsPre, fsPost, fsCond, fsGen, fsDefs, cls, eqVal, vbGen, fill_bits, reduceCtorEq, Nat.reduceAdd, Nat.reduceMul, Nat.reduceSub, Nat.reduceLT, Nat.reduceLeDiff, Nat.reduceEqDiff, Nat.reduceBEq, Nat.reduceBNe, Int.reduceLT, Int.reduceLE, Int.reduceEq, Int.reduceNe, Int.reduceAdd, Int.reduceSub, Int.reduceNeg, Int.reduceToNat, Int.reduceMul, ↓reduceIte, Int.reduceGT, Int.reduceGE, f65, f66, f67, f7, f8, f9, hy, n0, em, hb', hv, nb_one]
      exact ⟨_, rfl⟩
    · simp (disch := first | omega | (simp only [fsLen]; omega)) only [↓fsPre, fsPost, fsCond, fsGen, fsDefs, cls, eqVal, vbGen, fill_bits, reduceCtorEq, Nat.reduceAdd, Nat.reduceMul, Nat.reduceSub, Nat.reduceLT, Nat.reduceLeDiff, Nat.reduceEqDiff, Nat.reduceBEq, Nat.reduceBNe, Int.reduceLT, Int.reduceLE, Int.reduceEq, Int.reduceNe, Int.reduceAdd, Int.reduceSub, Int.reduceNeg, Int.reduceToNat, Int.reduceMul, ↓reduceIte, Int.reduceGT, Int.reduceGE, f65, f66, f67, f7, f8, f9]
      exact ⟨z, rfl⟩
    clear f65 f66 f67 f7 f8 f9
    rintro F h ⟨f65, f66, f67, f7, f8, f9, f15, f16, w, rfl⟩
    simp (disch := first | omega | (simp only [fsLen]; omega)) only [↓fsPre, fsPost, fsCond, fsGen, fsDefs, cls, eqVal, vbGen, fill_bits, reduceCtorEq, Nat.reduceAdd, Nat.reduceMul, Nat.reduceSub, Nat.reduceLT, Nat.reduceLeDiff, Nat.reduceEqDiff, Nat.reduceBEq, Nat.reduceBNe, Int.reduceLT, Int.reduceLE, Int.reduceEq, Int.reduceNe, Int.reduceAdd, Int.reduceSub, Int.reduceNeg, Int.reduceToNat, Int.reduceMul, ↓reduceIte, Int.reduceGT, Int.reduceGE, f15, f16, f7, nb_one]
    refine callDT_one (hlo _) rfl ?_
    simp (disch := first | omega | (simp only [fsLen]; omega)) only [↓fsPre, fsPost, fsCond, fsGen, fsDefs, cls, eqVal, vbGen, fill_bits, reduceCtorEq, Nat.reduceAdd, Nat.reduceMul, Nat.reduceSub, Nat.reduceLT, Nat.reduceLeDiff, Nat.reduceEqDiff, Nat.reduceBEq, Nat.reduceBNe, Int.reduceLT, Int.reduceLE, Int.reduceEq, Int.reduceNe, Int.reduceAdd, Int.reduceSub, Int.reduceNeg, Int.reduceToNat, Int.reduceMul, ↓reduceIte, Int.reduceGT, Int.reduceGE, f15, f16, f7, nb_one]
    refine wloop (fun k F h => F 65 = .slice (some (b, 0)) N1 (.fix m) ∧ F 66 = .int .i64 N1 ∧ F 67 = .int .i64 j ∧ F 7 = .int .i64 bits ∧ F 8 = .ptr (some (H.length, 0)) ∧ F 9 = .ptr (some (H.length + 1, 0)) ∧ F 104 = .slice (some (g.length + 2, 0)) 3 (.fix 3) ∧ F 105 = .int .i64 3 ∧ F 106 = .int .i64 k ∧
      ∃ M, h = g ++ ([some (.cells [nb (hiOf v), nb (loOf v)] false), some (.cells [nb (hiOf w), nb (loOf w)] false), some (.cells [nb (hiOf v), nb (loOf v), nb (hiOf w), nb (loOf w), nb (hiOf z), nb (loOf z)] false)] ++ M)) 3 ?_ ?_ ?_
    · simp (disch := first | omega | (simp only [fsLen]; omega)) only [↓fsPre, fsPost, fsCond, fsGen, fsDefs, cls, eqVal, vbGen, fill_bits, reduceCtorEq, Nat.reduceAdd, Nat.reduceMul, Nat.reduceSub, Nat.reduceLT, Nat.reduceLeDiff, Nat.reduceEqDiff, Nat.reduceBEq, Nat.reduceBNe, Int.reduceLT, Int.reduceLE, Int.reduceEq, Int.reduceNe, Int.reduceAdd, Int.reduceSub, Int.reduceNeg, Int.reduceToNat, Int.reduceMul, ↓reduceIte, Int.reduceGT, Int.reduceGE, f65, f66, f67, f7, f8, f9]
      exact ⟨[], by simp⟩
    · clear f65 f66 f67 f7 f8 f9 f15 f16 F
      rintro k F h hk ⟨f65, f66, f67, f7, f8, f9, f104, f105, f106, M, rfl⟩
      obtain ⟨u, hu⟩ := cut3 v w z k hk
      have hd3 : decide ((k : Int) < 3) = true := by simp; omega
      have hbu : hget (g ++ ([some (.cells [nb (hiOf v), nb (loOf v)] false), some (.cells [nb (hiOf w), nb (loOf w)] false), some (.cells [nb (hiOf v), nb (loOf v), nb (hiOf w), nb (loOf w), nb (hiOf z), nb (loOf z)] false)] ++ M)) (g.length + 2) = some (.cells [nb (hiOf v), nb (loOf v), nb (hiOf w), nb (loOf w), nb (hiOf z), nb (loOf z)] false) := by
        rw [hget_appr (by omega), Nat.add_sub_cancel_left]; rfl
      have S1 := S.app ([some (.cells [nb (hiOf v), nb (loOf v)] false), some (.cells [nb (hiOf w), nb (loOf w)] false), some (.cells [nb (hiOf v), nb (loOf v), nb (hiOf w), nb (loOf w), nb (hiOf z), nb (loOf z)] false)] ++ M)
      have lbu := hget_some_lt hbu
      have hM : ∀ X : Heap, ∃ M', (g ++ ([some (NBlk.cells [nb (hiOf v), nb (loOf v)] false), some (.cells [nb (hiOf w), nb (loOf w)] false), some (.cells [nb (hiOf v), nb (loOf v), nb (hiOf w), nb (loOf w), nb (hiOf z), nb (loOf z)] false)] ++ M)) ++ X = g ++ ([some (.cells [nb (hiOf v), nb (loOf v)] false), some (.cells [nb (hiOf w), nb (loOf w)] false), some (.cells [nb (hiOf v), nb (loOf v), nb (hiOf w), nb (loOf w), nb (hiOf z), nb (loOf z)] false)] ++ M') := fun X => ⟨M ++ X, by simp⟩
      generalize g ++ ([some (NBlk.cells [nb (hiOf v), nb (loOf v)] false), some (.cells [nb (hiOf w), nb (loOf w)] false), some (.cells [nb (hiOf v), nb (loOf v), nb (hiOf w), nb (loOf w), nb (hiOf z), nb (loOf z)] false)] ++ M) = G at *
      have S2 := S1.app [some (.cells [nb (hiOf u), nb (loOf u)] false)]
      have hxl := tlong_ok _ H.length bits tx u hb2 S2.x
      have hdl := dlong_any _ (H.length + 1) bits sl tx.er u hb2 S2.ox S2.hy S2.gy (by omega)
      simp only [vnv] at hxl hdl
      simp (disch := first | omega | (simp only [fsLen]; omega)) only [↓fsPre, fsPost, fsCond, fsGen, fsDefs, cls, eqVal, vbGen, fill_bits, reduceCtorEq, Nat.reduceAdd, Nat.reduceMul, Nat.reduceSub, Nat.reduceLT, Nat.reduceLeDiff, Nat.reduceEqDiff, Nat.reduceBEq, Nat.reduceBNe, Int.reduceLT, Int.reduceLE, Int.reduceEq, Int.reduceNe, Int.reduceAdd, Int.reduceSub, Int.reduceNeg, Int.reduceToNat, Int.reduceMul, ↓reduceIte, Int.reduceGT, Int.reduceGE, f104, f105, f106, hd3, hbu, hu, nb_one, f8, f9]
      refine callT_one hxl rfl ?_
      simp (disch := first | omega | (simp only [fsLen]; omega)) only [↓fsPre, fsPost, fsCond, fsGen, fsDefs, cls, eqVal, vbGen, fill_bits, reduceCtorEq, Nat.reduceAdd, Nat.reduceMul, Nat.reduceSub, Nat.reduceLT, Nat.reduceLeDiff, Nat.reduceEqDiff, Nat.reduceBEq, Nat.reduceBNe, Int.reduceLT, Int.reduceLE, Int.reduceEq, Int.reduceNe, Int.reduceAdd, Int.reduceSub, Int.reduceNeg, Int.reduceToNat, Int.reduceMul, ↓reduceIte, Int.reduceGT, Int.reduceGE, f104, f105, f106, hd3, hbu, hu, nb_one, f8, f9]
      refine callT_one hdl rfl ?_
      simp (disch := first | omega | (simp only [fsLen]; omega)) only [↓fsPre, fsPost, fsCond, fsGen, fsDefs, cls, eqVal, vbGen, fill_bits, reduceCtorEq, Nat.reduceAdd, Nat.reduceMul, Nat.reduceSub, Nat.reduceLT, Nat.reduceLeDiff, Nat.reduceEqDiff, Nat.reduceBEq, Nat.reduceBNe, Int.reduceLT, Int.reduceLE, Int.reduceEq, Int.reduceNe, Int.reduceAdd, Int.reduceSub, Int.reduceNeg, Int.reduceToNat, Int.reduceMul, ↓reduceIte, Int.reduceGT, Int.reduceGE, f65, f66, f67, f7, f104, f105, f106, hd3, hbu, hu, nb_one, f8, f9]
      exact hM _
    · clear f65 f66 f67 f7 f8 f9 f15 f16 F
      rintro F h ⟨f65, f66, f67, f7, f8, f9, f104, f105, f106, M, rfl⟩
      simp (disch := first | omega | (simp only [fsLen]; omega)) only [↓fsPre, fsPost, fsCond, fsGen, fsDefs, cls, eqVal, vbGen, fill_bits, reduceCtorEq, Nat.reduceAdd, Nat.reduceMul, Nat.reduceSub, Nat.reduceLT, Nat.reduceLeDiff, Nat.reduceEqDiff, Nat.reduceBEq, Nat.reduceBNe, Int.reduceLT, Int.reduceLE, Int.reduceEq, Int.reduceNe, Int.reduceAdd, Int.reduceSub, Int.reduceNeg, Int.reduceToNat, Int.reduceMul, ↓reduceIte, Int.reduceGT, Int.reduceGE, f65, f66, f67, f7, f8, f9, f104, f105, f106]
      exact ⟨S.app _, hO.keep (fun b hb hbg => hget_appl hbg) (fun b hb => hb)⟩
  · rintro F g ⟨f65, f66, f67, f7, f8, f9, S, hO⟩
    simp (disch := first | omega | (simp only [fsLen]; omega)) only [↓fsPre, fsPost, fsCond, fsGen, fsDefs, cls, eqVal, vbGen, fill_bits, reduceCtorEq, Nat.reduceAdd, Nat.reduceMul, Nat.reduceSub, Nat.reduceLT, Nat.reduceLeDiff, Nat.reduceEqDiff, Nat.reduceBEq, Nat.reduceBNe, Int.reduceLT, Int.reduceLE, Int.reduceEq, Int.reduceNe, Int.reduceAdd, Int.reduceSub, Int.reduceNeg, Int.reduceToNat, Int.reduceMul, ↓reduceIte, Int.reduceGT, Int.reduceGE, f65, f66, f67]

theorem StD.start (H : Heap) (bits : Nat) : StD H.length (H ++ [some (.cells [.int .i64 bits, .ptr none] false), some (.cells [.int .i64 bits, .slice none 0 (.fix 0)] false)]) H.length (H.length + 1) bits .nil (TT.nil.er.items bits) (.slice none 0 (.fix 0)) := by
  refine ⟨⟨by simp (disch := first | omega | (simp only [fsLen]; omega)) only [↓fsPre, fsPost, fsCond, fsGen, fsDefs, cls, eqVal, vbGen, fill_bits, reduceCtorEq, Nat.reduceAdd, Nat.reduceMul, Nat.reduceSub, Nat.reduceLT, Nat.reduceLeDiff, Nat.reduceEqDiff, Nat.reduceBEq, Nat.reduceBNe, Int.reduceLT, Int.reduceLE, Int.reduceEq, Int.reduceNe, Int.reduceAdd, Int.reduceSub, Int.reduceNeg, Int.reduceToNat, Int.reduceMul, ↓reduceIte, Int.reduceGT, Int.reduceGE, ptr_nl], trivial, by simp [TT.bl]⟩, T.ok.nil, by simp (disch := first | omega | (simp only [fsLen]; omega)) only [↓fsPre, fsPost, fsCond, fsGen, fsDefs, cls, eqVal, vbGen, fill_bits, reduceCtorEq, Nat.reduceAdd, Nat.reduceMul, Nat.reduceSub, Nat.reduceLT, Nat.reduceLeDiff, Nat.reduceEqDiff, Nat.reduceBEq, Nat.reduceBNe, Int.reduceLT, Int.reduceLE, Int.reduceEq, Int.reduceNe, Int.reduceAdd, Int.reduceSub, Int.reduceNeg, Int.reduceToNat, Int.reduceMul, ↓reduceIte, Int.reduceGT, Int.reduceGE], .inl ⟨rfl, none, rfl⟩, fun b hb => ?_, ⟨by omega, ?_, ?_⟩, by simp⟩
  · rcases hb with rfl | hb
    · refine ⟨by omega, by omega, ?_⟩
      rintro ⟨_, h⟩; cases h
    · cases hb
  · rintro ⟨_, h⟩; cases h
  · rintro b ⟨_, h⟩; cases h

set_option maxHeartbeats 1000000 in
theorem longest_law (H : Heap) (n : Int) (w1 : NV) (os : List OpD) (hw1 : OpsArg H w1 os) (vs : List (BitVec 128)) (A2 : Option (Nat × Nat)) (m2 : Nat) (hm2 : vs.length ≤ m2) (hm2' : m2 ≤ 9223372036854775807) (hV : VIn (fun b => b < H.length) H A2 vs) :
    NFun Try.prog 3 [.int .i64 n, w1, .slice A2 vs.length (.fix m2)] H fun q => q.1 = .bool true := by
  refine fun_of_fwp E0 mixed t3_ok.2 (by kernel_rfl) ?_
  rw [fwp_T, lg_body, lg_res]
  obtain ⟨A1, m1, rfl, hm1, hm1', hA1⟩ := hw1.shape
  have a127 := and127 n
  obtain ⟨bits, hbits, hb1, hb2⟩ : ∃ b : Nat, 1 + n % 128 = (b : Int) ∧ 1 ≤ b ∧ b ≤ 128 := ⟨(1 + n % 128).toNat, by omega, by omega, by omega⟩
  have e128 : (min (max 1 (bits : Int)) 128).toNat = bits := by omega
  have hnew := fun H => tnew_ok H bits (by omega)
  have hrn := fun H => rnew_ok H bits (by omega)
  rw [e128] at hnew hrn
  simp (disch := first | omega | (simp only [fsLen]; omega)) only [↓fsPre, fsPost, fsCond, fsGen, fsDefs, cls, eqVal, vbGen, fill_bits, reduceCtorEq, Nat.reduceAdd, Nat.reduceMul, Nat.reduceSub, Nat.reduceLT, Nat.reduceLeDiff, Nat.reduceEqDiff, Nat.reduceBEq, Nat.reduceBNe, Int.reduceLT, Int.reduceLE, Int.reduceEq, Int.reduceNe, Int.reduceAdd, Int.reduceSub, Int.reduceNeg, Int.reduceToNat, Int.reduceMul, ↓reduceIte, Int.reduceGT, Int.reduceGE]
  simp only [lgA, t3, NCode.a1, NCode.a2]
  simp (disch := first | omega | (simp only [fsLen]; omega)) only [↓fsPre, fsPost, fsCond, fsGen, fsDefs, cls, eqVal, vbGen, fill_bits, reduceCtorEq, Nat.reduceAdd, Nat.reduceMul, Nat.reduceSub, Nat.reduceLT, Nat.reduceLeDiff, Nat.reduceEqDiff, Nat.reduceBEq, Nat.reduceBNe, Int.reduceLT, Int.reduceLE, Int.reduceEq, Int.reduceNe, Int.reduceAdd, Int.reduceSub, Int.reduceNeg, Int.reduceToNat, Int.reduceMul, ↓reduceIte, Int.reduceGT, Int.reduceGE]
  simp only [lgB, t3, NCode.a1, NCode.a2]
  simp (disch := first | omega | (simp only [fsLen]; omega)) only [↓fsPre, fsPost, fsCond, fsGen, fsDefs, cls, eqVal, vbGen, fill_bits, reduceCtorEq, Nat.reduceAdd, Nat.reduceMul, Nat.reduceSub, Nat.reduceLT, Nat.reduceLeDiff, Nat.reduceEqDiff, Nat.reduceBEq, Nat.reduceBNe, Int.reduceLT, Int.reduceLE, Int.reduceEq, Int.reduceNe, Int.reduceAdd, Int.reduceSub, Int.reduceNeg, Int.reduceToNat, Int.reduceMul, ↓reduceIte, Int.reduceGT, Int.reduceGE, a127, hbits]
  simp only [lgC, t3, NCode.a1, NCode.a2]
  simp (disch := first | omega | (simp only [fsLen]; omega)) only [↓fsPre, fsPost, fsCond, fsGen, fsDefs, cls, eqVal, vbGen, fill_bits, reduceCtorEq, Nat.reduceAdd, Nat.reduceMul, Nat.reduceSub, Nat.reduceLT, Nat.reduceLeDiff, Nat.reduceEqDiff, Nat.reduceBEq, Nat.reduceBNe, Int.reduceLT, Int.reduceLE, Int.reduceEq, Int.reduceNe, Int.reduceAdd, Int.reduceSub, Int.reduceNeg, Int.reduceToNat, Int.reduceMul, ↓reduceIte, Int.reduceGT, Int.reduceGE]
  refine callT_one (hnew _) rfl ?_
  simp (disch := first | omega | (simp only [fsLen]; omega)) only [↓fsPre, fsPost, fsCond, fsGen, fsDefs, cls, eqVal, vbGen, fill_bits, reduceCtorEq, Nat.reduceAdd, Nat.reduceMul, Nat.reduceSub, Nat.reduceLT, Nat.reduceLeDiff, Nat.reduceEqDiff, Nat.reduceBEq, Nat.reduceBNe, Int.reduceLT, Int.reduceLE, Int.reduceEq, Int.reduceNe, Int.reduceAdd, Int.reduceSub, Int.reduceNeg, Int.reduceToNat, Int.reduceMul, ↓reduceIte, Int.reduceGT, Int.reduceGE]
  refine callT_one (hrn _) rfl ?_
  simp (disch := first | omega | (simp only [fsLen]; omega)) only [↓fsPre, fsPost, fsCond, fsGen, fsDefs, cls, eqVal, vbGen, fill_bits, reduceCtorEq, Nat.reduceAdd, Nat.reduceMul, Nat.reduceSub, Nat.reduceLT, Nat.reduceLeDiff, Nat.reduceEqDiff, Nat.reduceBEq, Nat.reduceBNe, Int.reduceLT, Int.reduceLE, Int.reduceEq, Int.reduceNe, Int.reduceAdd, Int.reduceSub, Int.reduceNeg, Int.reduceToNat, Int.reduceMul, ↓reduceIte, Int.reduceGT, Int.reduceGE]
  refine fwp_cutJ _ (lg1 H bits hb1 hb2 os hw1.1 A1 m1 hm1 hm1' _ _ .nil _ (.slice A2 vs.length (.fix m2)) (by simp (disch := first | omega | (simp only [fsLen]; omega)) only [↓fsPre, fsPost, fsCond, fsGen, fsDefs, cls, eqVal, vbGen, fill_bits, reduceCtorEq, Nat.reduceAdd, Nat.reduceMul, Nat.reduceSub, Nat.reduceLT, Nat.reduceLeDiff, Nat.reduceEqDiff, Nat.reduceBEq, Nat.reduceBNe, Int.reduceLT, Int.reduceLE, Int.reduceEq, Int.reduceNe, Int.reduceAdd, Int.reduceSub, Int.reduceNeg, Int.reduceToNat, Int.reduceMul, ↓reduceIte, Int.reduceGT, Int.reduceGE]) (by simp (disch := first | omega | (simp only [fsLen]; omega)) only [↓fsPre, fsPost, fsCond, fsGen, fsDefs, cls, eqVal, vbGen, fill_bits, reduceCtorEq, Nat.reduceAdd, Nat.reduceMul, Nat.reduceSub, Nat.reduceLT, Nat.reduceLeDiff, Nat.reduceEqDiff, Nat.reduceBEq, Nat.reduceBNe, Int.reduceLT, Int.reduceLE, Int.reduceEq, Int.reduceNe, Int.reduceAdd, Int.reduceSub, Int.reduceNeg, Int.reduceToNat, Int.reduceMul, ↓reduceIte, Int.reduceGT, Int.reduceGE]) (by simp (disch := first | omega | (simp only [fsLen]; omega)) only [↓fsPre, fsPost, fsCond, fsGen, fsDefs, cls, eqVal, vbGen, fill_bits, reduceCtorEq, Nat.reduceAdd, Nat.reduceMul, Nat.reduceSub, Nat.reduceLT, Nat.reduceLeDiff, Nat.reduceEqDiff, Nat.reduceBEq, Nat.reduceBNe, Int.reduceLT, Int.reduceLE, Int.reduceEq, Int.reduceNe, Int.reduceAdd, Int.reduceSub, Int.reduceNeg, Int.reduceToNat, Int.reduceMul, ↓reduceIte, Int.reduceGT, Int.reduceGE]) (by simp (disch := first | omega | (simp only [fsLen]; omega)) only [↓fsPre, fsPost, fsCond, fsGen, fsDefs, cls, eqVal, vbGen, fill_bits, reduceCtorEq, Nat.reduceAdd, Nat.reduceMul, Nat.reduceSub, Nat.reduceLT, Nat.reduceLeDiff, Nat.reduceEqDiff, Nat.reduceBEq, Nat.reduceBNe, Int.reduceLT, Int.reduceLE, Int.reduceEq, Int.reduceNe, Int.reduceAdd, Int.reduceSub, Int.reduceNeg, Int.reduceToNat, Int.reduceMul, ↓reduceIte, Int.reduceGT, Int.reduceGE]) (by simp (disch := first | omega | (simp only [fsLen]; omega)) only [↓fsPre, fsPost, fsCond, fsGen, fsDefs, cls, eqVal, vbGen, fill_bits, reduceCtorEq, Nat.reduceAdd, Nat.reduceMul, Nat.reduceSub, Nat.reduceLT, Nat.reduceLeDiff, Nat.reduceEqDiff, Nat.reduceBEq, Nat.reduceBNe, Int.reduceLT, Int.reduceLE, Int.reduceEq, Int.reduceNe, Int.reduceAdd, Int.reduceSub, Int.reduceNeg, Int.reduceToNat, Int.reduceMul, ↓reduceIte, Int.reduceGT, Int.reduceGE]) (by have := StD.start H bits; simpa only [List.append_assoc, List.cons_append, List.nil_append] using this) (hA1.keep (fun b hb _ => by rw [List.append_assoc, hget_appl hb]) (fun b hb => hb)) (fun b hb => by rw [List.append_assoc, hget_appl hb]) (by simp [TT.er, T.items, T.itemsAt])) ?_
  rintro F g ⟨tx, sl, f2, f7, f8, f9, S, k0, hx⟩
  simp (disch := first | omega | (simp only [fsLen]; omega)) only [↓fsPre, fsPost, fsCond, fsGen, fsDefs, cls, eqVal, vbGen, fill_bits, reduceCtorEq, Nat.reduceAdd, Nat.reduceMul, Nat.reduceSub, Nat.reduceLT, Nat.reduceLeDiff, Nat.reduceEqDiff, Nat.reduceBEq, Nat.reduceBNe, Int.reduceLT, Int.reduceLE, Int.reduceEq, Int.reduceNe, Int.reduceAdd, Int.reduceSub, Int.reduceNeg, Int.reduceToNat, Int.reduceMul, ↓reduceIte, Int.reduceGT, Int.reduceGE]
  refine fwp_cutJ _ (lg2 H bits hb1 hb2 vs A2 m2 hm2 hm2' _ _ tx sl f2 f7 f8 f9 S (hV.keep (fun b hb _ => k0 b hb) (fun b hb => hb)) hx) ?_
  rintro F g _
  simp (disch := first | omega | (simp only [fsLen]; omega)) only [↓fsPre, fsPost, fsCond, fsGen, fsDefs, cls, eqVal, vbGen, fill_bits, reduceCtorEq, Nat.reduceAdd, Nat.reduceMul, Nat.reduceSub, Nat.reduceLT, Nat.reduceLeDiff, Nat.reduceEqDiff, Nat.reduceBEq, Nat.reduceBNe, Int.reduceLT, Int.reduceLE, Int.reduceEq, Int.reduceNe, Int.reduceAdd, Int.reduceSub, Int.reduceNeg, Int.reduceToNat, Int.reduceMul, ↓reduceIte, Int.reduceGT, Int.reduceGE]
  simp only [lgF, t3, NCode.a1, NCode.a2]
  simp (disch := first | omega | (simp only [fsLen]; omega)) only [↓fsPre, fsPost, fsCond, fsGen, fsDefs, cls, eqVal, vbGen, fill_bits, reduceCtorEq, Nat.reduceAdd, Nat.reduceMul, Nat.reduceSub, Nat.reduceLT, Nat.reduceLeDiff, Nat.reduceEqDiff, Nat.reduceBEq, Nat.reduceBNe, Int.reduceLT, Int.reduceLE, Int.reduceEq, Int.reduceNe, Int.reduceAdd, Int.reduceSub, Int.reduceNeg, Int.reduceToNat, Int.reduceMul, ↓reduceIte, Int.reduceGT, Int.reduceGE]
  refine callT_one (begun12_ok _) rfl ?_
  simp (disch := first | omega | (simp only [fsLen]; omega)) only [↓fsPre, fsPost, fsCond, fsGen, fsDefs, cls, eqVal, vbGen, fill_bits, reduceCtorEq, Nat.reduceAdd, Nat.reduceMul, Nat.reduceSub, Nat.reduceLT, Nat.reduceLeDiff, Nat.reduceEqDiff, Nat.reduceBEq, Nat.reduceBNe, Int.reduceLT, Int.reduceLE, Int.reduceEq, Int.reduceNe, Int.reduceAdd, Int.reduceSub, Int.reduceNeg, Int.reduceToNat, Int.reduceMul, ↓reduceIte, Int.reduceGT, Int.reduceGE]

def kindsTL : List PK := [.flat [.int .i64] false, .sl kOp, .sl kVal]
theorem walkTL (nvs : List NV) (h : Heap) (ok : argsOK kindsTL 0 nvs h) : NFun Try.prog 3 nvs h (fun q => q.1 = .bool true) := by
  obtain ⟨v, vs, x, h, rfl, rfl, h1, ok⟩ := argsOK_cons ok
  obtain ⟨w, vs, y, h, rfl, rfl, h2, ok⟩ := argsOK_cons ok
  obtain ⟨u, vs, z, h, rfl, rfl, h3, ok⟩ := argsOK_cons ok
  obtain ⟨rfl, rfl⟩ := argsOK_nil ok
  obtain ⟨n, _, rfl, rfl⟩ := argOK_i64 h1
  obtain ⟨os, hos⟩ := argOK_ops (H := [none, y, z]) h2 rfl
  obtain ⟨vs, A, m, rfl, hm, hm', hV⟩ := argOK_vals (H := [none, y, z]) h3 rfl
  exact longest_law _ n w os hos vs A m hm hm' hV
end Go.Proofs
