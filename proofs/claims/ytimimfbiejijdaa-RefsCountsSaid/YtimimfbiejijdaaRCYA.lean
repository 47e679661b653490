/- Ya, Yb, Yc in one text. -/
import Derived.Test.YtimimfbiejijdaaRCVal4
import Derived.Test.YtimimfbiejijdaaVbK
import Derived.Test.YtimimfbiejijdaaNsU
import Derived.Test.YtimimfbiejijdaaRCYl
import Derived.Test.YtimimfbiejijdaaRCRefX
set_option linter.unusedSimpArgs false
set_option linter.unusedVariables false
set_option maxRecDepth 10000
namespace Go.Proofs
open Go.Ns

theorem isnan_ok (H : Heap) (a : Int) : NCall Try.prog 53 [.int .i64 a] H fun r => r = (.bool false, H) := by
  refine call_pure E0 mixed t53_ok (by kernel_rfl) trivial ?_
  simp only [t53]
  simp (disch := first | omega | (simp only [fsLen]; omega)) only [↓fsPre, fsPost, fsGen, fsDefs, fsDefX, reduceCtorEq, Nat.reduceEqDiff, ↓reduceIte]
  exact ⟨[], by simp⟩
theorem cmpi_ok (H : Heap) (a b : Int) : NCall Try.prog 39 [.int .i64 a, .int .i64 b] H fun r => r = (.int .i64 (cmpI a b), H) := by
  refine call_pure E0 mixed t39_ok (by kernel_rfl) trivial ?_
  simp only [t39]
  simp (disch := first | omega | (simp only [fsLen]; omega)) only [↓fsPre, fsPost, fsGen, reduceCtorEq, Int.reduceNeg, ↓reduceIte]
  refine callT_one (isnan_ok _ _) rfl ?_
  simp (disch := first | omega | (simp only [fsLen]; omega)) only [↓fsPre, fsPost, fsGen, Nat.reduceEqDiff, Int.reduceNeg, ↓reduceIte]
  refine callT_one (isnan_ok _ _) rfl ?_
  simp (disch := first | omega | (simp only [fsLen]; omega)) only [↓fsPre, fsPost, fsDefX, reduceCtorEq, Nat.reduceEqDiff, Int.reduceNeg, ↓reduceIte]
  unfold cmpI
  by_cases h1 : a < b
  · simp (disch := first | omega | (simp only [fsLen]; omega)) only [↓fsPre, fsPost, fsGen, fsDefs, Int.reduceNeg, ↓reduceIte, h1]
    exact ⟨[], by simp⟩
  · by_cases h2 : b < a
    · simp (disch := first | omega | (simp only [fsLen]; omega)) only [↓fsPre, fsPost, fsGen, fsDefs, fsDefX, reduceCtorEq, Nat.reduceEqDiff, Int.reduceNeg, ↓reduceIte, h1, h2]
      exact ⟨[], by simp⟩
    · simp (disch := first | omega | (simp only [fsLen]; omega)) only [↓fsPre, fsPost, fsGen, fsDefs, fsDefX, reduceCtorEq, Nat.reduceEqDiff, Int.reduceNeg, ↓reduceIte, h1, h2]
      exact ⟨[], by simp⟩
theorem or_ok (H : Heap) (b : Nat) (ro : Bool) (x y z : Int) (hb : hget H b = some (.cells [.int .i64 x, .int .i64 y, .int .i64 z] ro)) :
    NCall Try.prog 38 [.slice (some (b, 0)) 3 (.fix 3)] H fun r => r = (.int .i64 (if x ≠ 0 then x else if y ≠ 0 then y else z), H) := by
  have lb := hget_some_lt hb
  refine call_pure E0 mixed t38_ok (by kernel_rfl) trivial ?_
  simp only [t38]
  simp (disch := first | omega | (simp only [fsLen]; omega)) only [↓fsPre, fsPost, fsGen, fsDefs, reduceCtorEq, ↓reduceIte]
  refine wloop (fun j F h => F 3 = .int .i64 0 ∧ F 6 = .slice (some (b, 0)) 3 (.fix 3) ∧ F 7 = .int .i64 3 ∧ F 8 = .int .i64 j ∧ h = H ∧ (1 ≤ j → x = 0) ∧ (2 ≤ j → y = 0) ∧ (3 ≤ j → z = 0)) 3 ?_ ?_ ?_
  · simp (disch := first | omega | (simp only [fsLen]; omega)) only [↓fsPre, fsGen, Nat.reduceLeDiff, Nat.reduceEqDiff, ↓reduceIte]
    refine ⟨fun h => ?_, fun h => ?_, fun h => ?_⟩ <;> first | exact h.elim | omega
  · rintro j F h hj ⟨f3, f6, f7, f8, rfl, h1, h2, h3⟩
    match j, hj with
    | 0, _ =>
      simp (disch := first | omega | (simp only [fsLen]; omega)) only [↓fsPre, fsPost, fsGen, fsDefs, fsDefX, Nat.reduceAdd, Nat.reduceEqDiff, Int.reduceLT, Int.reduceLE, Int.reduceToNat, ↓reduceIte, f3, f6, f7, f8, hb]
      refine condK_dec (fun hz => ?_) (fun hz => ?_)
      · simp (disch := first | omega | (simp only [fsLen]; omega)) only [↓fsPre, fsPost, fsGen, fsDefs, Nat.reduceLeDiff, Nat.reduceEqDiff, ↓reduceIte, hz]
        exact ⟨[], by simp⟩
      · have hz : x = 0 := by simpa using hz
        simp (disch := first | omega | (simp only [fsLen]; omega)) only [↓fsPre, fsPost, fsCond, fsGen, fsDefX, Nat.reduceLeDiff, Nat.reduceEqDiff, ↓reduceIte, f3, f6, f7, f8, hz]
        refine ⟨fun h => ?_, fun h => ?_⟩ <;> first | exact h.elim | omega
    | 1, _ =>
      have hx := h1 (by omega)
      simp (disch := first | omega | (simp only [fsLen]; omega)) only [↓fsPre, fsPost, fsGen, fsDefs, fsDefX, Nat.reduceAdd, Nat.reduceEqDiff, Int.reduceLT, Int.reduceLE, Int.reduceToNat, ↓reduceIte, f3, f6, f7, f8, hb]
      refine condK_dec (fun hz => ?_) (fun hz => ?_)
      · simp (disch := first | omega | (simp only [fsLen]; omega)) only [↓fsPre, fsPost, fsGen, fsDefs, Nat.reduceLeDiff, Nat.reduceEqDiff, ↓reduceIte, hz, hx]
        exact ⟨[], by simp⟩
      · have hz : y = 0 := by simpa using hz
        simp (disch := first | omega | (simp only [fsLen]; omega)) only [↓fsPre, fsPost, fsCond, fsGen, fsDefX, Nat.reduceLeDiff, Nat.reduceEqDiff, Int.reduceAdd, ↓reduceIte, f3, f6, f7, f8, hz, hx]
        intro h
        first | exact h.elim | omega
    | 2, _ =>
      have hx := h1 (by omega)
      have hy := h2 (by omega)
      simp (disch := first | omega | (simp only [fsLen]; omega)) only [↓fsPre, fsPost, fsGen, fsDefs, fsDefX, Nat.reduceAdd, Nat.reduceEqDiff, Int.reduceLT, Int.reduceLE, Int.reduceToNat, ↓reduceIte, f3, f6, f7, f8, hb]
      refine condK_dec (fun hz => ?_) (fun hz => ?_)
      · simp (disch := first | omega | (simp only [fsLen]; omega)) only [↓fsPre, fsPost, fsGen, fsDefs, Nat.reduceLeDiff, Nat.reduceEqDiff, ↓reduceIte, hz, hx, hy]
        exact ⟨[], by simp⟩
      · have hz : z = 0 := by simpa using hz
        simp (disch := first | omega | (simp only [fsLen]; omega)) only [↓fsPre, fsPost, fsCond, fsGen, fsDefX, Nat.reduceLeDiff, Nat.reduceEqDiff, Int.reduceAdd, ↓reduceIte, f3, f6, f7, f8, hz, hx, hy]
        try omega
  · rintro F h ⟨f3, f6, f7, f8, rfl, h1, h2, h3⟩
    have hx := h1 (by omega)
    have hy := h2 (by omega)
    have hz := h3 (by omega)
    simp (disch := first | omega | (simp only [fsLen]; omega)) only [↓fsPre, fsPost, fsGen, fsDefs, fsDefX, Nat.reduceEqDiff, ↓reduceIte, f3, f7, f8, hx, hy, hz]
    exact ⟨[], by simp⟩

set_option maxHeartbeats 1000000 in
theorem closk_ok (H : Heap) (x y : TK × (Int × Int)) : NCall Try.prog 37 [.agg (cnC x), .agg (cnC y)] H fun r => r = (.int .i64 (cmpK x.1 y.1), H) := by
  refine call_pure E0 mixed t37_ok (by kernel_rfl) trivial ?_
  have hc := fun H a b => cmp_ok H a b
  simp only [t37, cnC, tkC, vnv, List.cons_append, List.nil_append] at hc ⊢
  simp (disch := first | omega | (simp only [fsLen]; omega)) only [↓fsPre, fsPost, fsCond, fsGen, fsDefs, cls, Nat.reduceAdd, Nat.reduceEqDiff, ↓reduceIte, nb_one]
  refine callDT_one (cmpi_ok _ _ _) rfl ?_
  simp (disch := first | omega | (simp only [fsLen]; omega)) only [↓fsPre, fsPost, fsCond, fsGen, fsDefs, cls, Nat.reduceAdd, Nat.reduceEqDiff, Nat.reduceBEq, ↓reduceIte]
  refine callDT_one (cmpi_ok _ _ _) rfl ?_
  simp (disch := first | omega | (simp only [fsLen]; omega)) only [↓fsPre, fsPost, fsCond, fsGen, fsDefs, cls, Nat.reduceAdd, Nat.reduceLeDiff, Nat.reduceEqDiff, Nat.reduceBEq, ↓reduceIte]
  refine callDT_one (hc _ _ _) rfl ?_
  simp (disch := first | omega | (simp only [fsLen]; omega)) only [↓fsPre, fsPost, fsCond, fsGen, fsDefs, cls, Nat.reduceAdd, Nat.reduceLeDiff, Nat.reduceEqDiff, Nat.reduceBEq, ↓reduceIte]
  refine callDT_one (or_ok _ (H.length + 2) false (cmpI x.1.1 y.1.1) (cmpI x.1.2.1 y.1.2.1) (cmpV x.1.2.2 y.1.2.2) (by simp (disch := first | omega | (simp only [fsLen]; omega)) only [fsPost, fsCond, fsGen])) rfl ?_
  unfold cmpK
  simp (disch := first | omega | (simp only [fsLen]; omega)) only [↓fsPre, fsPost, fsCond, fsGen, fsDefs, cls, reduceCtorEq, Nat.reduceAdd, Nat.reduceLeDiff, Nat.reduceBEq, ↓reduceIte]
  exact ⟨_, rfl⟩

theorem ltOf_k (x y : TK × (Int × Int)) : ltOf (fun x y : TK × (Int × Int) => cmpK x.1 y.1) x y = decide (ltK x.1 y.1) := by
  unfold ltOf
  rw [decide_eq_decide]
  exact cmpK_neg
theorem swo_k : Go.Sort.SWO (ltOf fun x y : TK × (Int × Int) => cmpK x.1 y.1) where
  irrefl x := by rw [ltOf_k]; simp [ltK_ord.irr]
  trans x y z h1 h2 := by rw [ltOf_k] at *; simp only [decide_eq_true_eq] at *; exact ltK_ord.tr _ _ _ h1 h2
  ntrans x y z h1 h2 := by
    rw [ltOf_k] at *
    simp only [decide_eq_false_iff_not] at *
    intro h
    by_cases e : y.1 = x.1
    · rw [e] at h2; exact h2 h
    · rcases ltK_ord.tri _ _ e with h3 | h3
      · exact h2 (ltK_ord.tr _ _ _ h3 h)
      · exact h1 h3
theorem cnC_plain (x : TK × (Int × Int)) : (cnC x).all plainV = true := rfl

/-- The sort of counts: the list that is sorted. -/
theorem sortk_ok (H : Heap) (b : Nat) (c : Cap) (l m : List (TK × (Int × Int))) (hb : hget H b = some (.cells (l.flatMap cnC) false)) (hm : SortedK ltK m) (hp : m.Perm l) (hl : l.length < 1000000) :
    NCall Try.prog 36 [.slice (some (b, 0)) l.length c, .func (.func 37) [] []] H fun r => r = (.tup [], hset H b (.cells (m.flatMap cnC) false)) := by
  refine NCall.of t36_ok.1 ?_ (by rintro q rfl; simp)
  have key := nfun_sort (P := Try.prog) (f := 36) (g := 37) (encN := cnC) (k := 6) cnC_length cnC_plain (fun x y => cmpK x.1 y.1)
    (fun blk off cap d w hc hH hblk hsz => AnyQ.slices_SortFunc Try.sortL 6 Try.isAgg72 Try.sizeOf72 (encV cnC) (fun _ => rfl) (fun x v hv => by
      simp only [encV, cnC, tkC, List.cons_append, List.nil_append, List.map_cons, List.map_nil, List.mem_cons, List.not_mem_nil, or_false] at hv
      rcases hv with rfl | rfl | rfl | rfl | rfl | rfl <;> rfl) (fun x y => cmpK x.1 y.1) swo_k 37 #[] blk off cap d w (enters_of Try.func37 (by kernel_rfl) rfl) hc hH hblk hsz)
    (fun x y => by
      have := (closk_ok [] x y).2
      exact fun C φ w vargs hv r => Calls.mono (this C φ w vargs hv r) fun ex w' ⟨v, e, nv, k, φ', hq, rest⟩ => ⟨v, e, nv, k, φ', by rw [hq.1], rest⟩) H b c l hb (by omega)
  refine fun C φ w vargs hv r => Calls.mono (key C φ w vargs hv r) ?_
  rintro ex w' ⟨v, e, nv, k, φ', ⟨l', h1, h2, h3⟩, rest⟩
  refine ⟨v, e, nv, k, φ', ?_, rest⟩
  have hnd : (l'.map (·.1)).Nodup := (List.Perm.map _ (h1.trans hp.symm)).nodup_iff.2 (hm.nodup ltK_ord)
  have hs : SortedK ltK l' := by
    unfold SortedK
    unfold List.Nodup at hnd
    rw [List.pairwise_map] at hnd
    rw [List.pairwise_iff_getElem] at h2 hnd ⊢
    intro i j hi hj hij
    have e1 := h2 i j hi hj hij
    have e2 := hnd i j hi hj hij
    rw [ltOf_k] at e1
    simp only [decide_eq_false_iff_not] at e1
    rcases ltK_ord.tri _ _ e2 with h | h
    · exact h
    · exact absurd h e1
  rw [h3, SortedK.eq ltK_ord hs hm (h1.trans hp.symm)]

def saysUnit : Res (NV × Heap) → Bool
  | .ok (.tup [], _) => true
  | _ => false
/-- A closed call that answers nothing, run in the kernel. -/
theorem call_run0 {P : Program} {tbl : Nat → Option NFn} (hm : P.follows .mixedOrders = true) (ht : ∀ f fn, tbl f = some fn → goodFn P f = true ∧ cfn P f = fn) {N D f : Nat} {args : List NV} (ha : NV.lows 0 args) (e : saysUnit (nprog tbl N D f args []) = true) (h : Heap) :
    NCall P f args h (fun q => q = (.tup [], h)) := by
  have h1 : (nprog tbl N D f args []).all fun q => q.1 = .tup [] := by
    revert e
    generalize nprog tbl N D f args [] = r
    intro e
    cases r with
    | ok q =>
      obtain ⟨v, k⟩ := q
      cases v with
      | tup l => cases l with
        | nil => rfl
        | cons a l => cases e
      | _ => cases e
    | _ => cases e
  obtain ⟨hg, t⟩ := nprog_ok hm ht D f args [] _ h1
  refine NCall.of hg (NFun.anywhere ha (v := .tup []) trivial ?_ h) (by rintro q rfl; exact Nat.le_refl _)
  intro C φ w vargs hv r
  refine Calls.mono (t C φ w vargs hv r) ?_
  rintro ex w' ⟨v, rfl, nv, k, φ', hq, rest⟩
  exact ⟨v, rfl, nv, k, φ', hq.1, rest⟩
theorem sortk_nil (H : Heap) : NCall Try.prog 36 [.slice none 0 (.fix 0), .func (.func 37) [] []] H fun r => r = (.tup [], H) :=
  call_run0 mixed (lk_ok tab_ok) (N := 200) (D := 20) (args := [.slice none 0 (.fix 0), .func (.func 37) [] []]) ⟨trivial, ⟨trivial, trivial⟩, trivial⟩ (by kernel_rfl) H

/-- Counts whose struct lies in block 'p' and whose map in block 'm'. -/
structure CtAt (H : Heap) (zs : List NV) (p m : Nat) (M : List (TK × (Int × Int))) : Prop where
  hp : hget H p = some (.cells (zs ++ [.map (some m)]) false)
  hm : MapAt tkV tyV H m M
  ne : p ≠ m
theorem CtAt.mono {H h : Heap} {zs : List NV} {p m : Nat} {M : List (TK × (Int × Int))} (x : CtAt H zs p m M) (e1 : hget h p = hget H p) (e2 : hget h m = hget H m) : CtAt h zs p m M := ⟨by rw [e1]; exact x.hp, x.hm.mono e2, x.ne⟩
theorem tkC_cut (k : TK) : cut (tkC k) 0 4 = some (tkC k) := rfl
theorem tkC_one (k : TK) : (tkC k).all NV.one = true := rfl
theorem look_t {h : Heap} {m : Nat} {M : List (TK × (Int × Int))} (x : MapAt tkV tyV h m M) (k : TK) : nlook h true [.int, .int, .int, .int] (.agg [.int .i64 0, .int .i64 0]) false (.map (some m)) (.agg (tkC k)) = some (.agg [.int .i64 (lookT M k).1, .int .i64 (lookT M k).2]) := by
  have := x.look keyTK k (.agg [.int .i64 0, .int .i64 0]) false
  simp only [tkV, k4] at this
  rw [this]
  unfold lookT
  cases findL M k 0 with
  | none => rfl
  | some w => rfl
theorem putL_len {M : List (TK × (Int × Int))} {k : TK} {v : Int × Int} : (putL M k v).length ≤ M.length + 1 := by
  unfold putL
  split
  · rw [List.length_set]; omega
  · simp
theorem delL_lenK {M : List (TK × (Int × Int))} {k : TK} : (delL M k).length ≤ M.length := by
  unfold delL
  split
  · exact (List.eraseIdx_sublist _ _).length_le
  · exact Nat.le_refl _

def i64R (n : Int) : Prop := -9223372036854775808 ≤ n ∧ n ≤ 9223372036854775807
set_option maxHeartbeats 1000000 in
theorem count_ok (H : Heap) (z0 z1 z2 z3 z4 z5 z6 z7 z8 z9 : NV) (p m : Nat) (M : List (TK × (Int × Int))) (T : TK → Int × Int) (x : CtAt H [z0, z1, z2, z3, z4, z5, z6, z7, z8, z9] p m M) (r : RepT M T) (t : TK) (a b : Int) (ha : i64R ((T t).1 + a)) (hb : i64R ((T t).2 + b)) :
    DCall Try.prog 48 [.ptr (some (p, 0)), .agg (tkC t), .int .i64 a, .int .i64 b] H fun r => r.1 = .tup [] ∧ H.length ≤ r.2.length ∧ (∀ c, c < H.length → c ≠ m → hget r.2 c = hget H c) ∧ ∃ M', CtAt r.2 [z0, z1, z2, z3, z4, z5, z6, z7, z8, z9] p m M' ∧ RepT M' (addT T t (a, b)) ∧ M'.length ≤ M.length + 1 := by
  have hp := x.hp
  simp only [List.cons_append, List.nil_append] at hp
  have lp := hget_some_lt hp
  have lm := x.hm.lt
  refine call_det E0 rfl mixed t48_ok (by kernel_rfl) (by rintro q ⟨_, h, _⟩; exact h) ?_
  have hl := fun L => look_t (x.hm.mono (h' := H ++ L) (hget_appl lm)) t
  rw [r.look t] at hl
  simp only [t48]
  have e1 : IntKind.i64.wrap ((T t).1 + a) = (T t).1 + a := i64_wrap ⟨ha.1, by have := ha.2; omega⟩
  have e2 : IntKind.i64.wrap ((T t).2 + b) = (T t).2 + b := i64_wrap ⟨hb.1, by have := hb.2; omega⟩
  simp (disch := first | omega | (simp only [fsLen]; omega)) only [↓fsPre, fsPost, fsCond, fsGen, fsDefs, fsDefX, cls, eqVal, reduceCtorEq, Nat.reduceAdd, Nat.reduceLeDiff, Nat.reduceEqDiff, Nat.reduceBEq, ↓reduceIte, tkC_one, tkC_cut, hp, hl, e1, e2]
  have hx := x.hm.mono (h' := H ++ [some (.cells (tkC t) false), some (.cells [.int .i64 ((T t).1 + a), .int .i64 ((T t).2 + b)] false)]) (hget_appl lm)
  refine condK_dec (fun hz => ?_) (fun hz => ?_)
  · obtain ⟨y, hd1, hd2⟩ := hx.del keyTK t
    simp only [tkV, k4] at hd1
    simp (disch := first | omega | (simp only [fsLen]; omega)) only [↓fsPre, fsPost, fsCond, fsGen, fsDefs, cls, reduceCtorEq, Nat.reduceAdd, Nat.reduceEqDiff, Nat.reduceBEq, ↓reduceIte, tkC_cut, hp, hd1]
    refine ⟨fun c hc hne => by simp (disch := first | omega | (simp only [fsLen]; omega)) only [fsCond], delL M t, ⟨?_, ?_, x.ne⟩, r.del t (a, b) (by rw [hz.1, hz.2]), by have := delL_lenK (M := M) (k := t); omega⟩
    · rw [hget_appl (by rw [length_hset]; exact lp), hget_hset_ne (Ne.symm x.ne)]; exact hp
    · rw [← hset_appl lm]; exact hd2
  · obtain ⟨y, hd1, hd2⟩ := hx.put keyTK t ((T t).1 + a, (T t).2 + b)
    simp only [tkV, k4, tyV] at hd1
    simp (disch := first | omega | (simp only [fsLen]; omega)) only [↓fsPre, fsPost, fsCond, fsGen, fsDefs, cls, reduceCtorEq, Nat.reduceAdd, Nat.reduceEqDiff, Nat.reduceBEq, ↓reduceIte, tkC_cut, hp, hd1]
    refine ⟨fun c hc hne => by simp (disch := first | omega | (simp only [fsLen]; omega)) only [fsCond], _, ⟨?_, ?_, x.ne⟩, r.put t (a, b) (fun e => hz ⟨(Prod.mk.inj e).1, (Prod.mk.inj e).2⟩), putL_len⟩
    · rw [hget_appl (by rw [length_hset]; exact lp), hget_hset_ne (Ne.symm x.ne)]; exact hp
    · rw [← hset_appl lm]; exact hd2

theorem cnew_ok (H : Heap) (z0 z1 z2 z3 z4 z5 z6 z7 z8 z9 : NV) (o0 : z0.one = true) (o1 : z1.one = true) (o2 : z2.one = true) (o3 : z3.one = true) (o4 : z4.one = true) (o5 : z5.one = true) (o6 : z6.one = true) (o7 : z7.one = true) (o8 : z8.one = true) (o9 : z9.one = true) :
    DCall Try.prog 16 [.agg [z0, z1, z2, z3, z4, z5, z6, z7, z8, z9]] H fun r => H.length ≤ r.2.length ∧ (∀ c, c < H.length → hget r.2 c = hget H c) ∧ ∃ p m, r.1 = .ptr (some (p, 0)) ∧ H.length ≤ p ∧ H.length ≤ m ∧ CtAt r.2 [z0, z1, z2, z3, z4, z5, z6, z7, z8, z9] p m [] := by
  refine call_det E0 rfl mixed t16_ok (by kernel_rfl) (by rintro q ⟨h, _⟩; exact h) ?_
  simp only [t16]
  simp (disch := first | omega | (simp only [fsLen]; omega)) only [↓fsPre, fsPost, fsCond, fsGen, fsDefs, Nat.reduceAdd, Nat.reduceLeDiff, Nat.reduceEqDiff, ↓reduceIte, o0, o1, o2, o3, o4, o5, o6, o7, o8, o9]
  exact ⟨fun c hc => hget_appl hc, H.length + 2, H.length + 1, rfl, by omega, by omega, by simp (disch := first | omega | (simp only [fsLen]; omega)) only [fsPost, fsCond, fsGen], ⟨[], 0, by simp (disch := first | omega | (simp only [fsLen]; omega)) only [fsPost, fsCond, fsGen], rfl, List.nodup_nil, by simp⟩, by omega⟩

theorem cns_length (l : List (TK × (Int × Int))) : (l.flatMap cnC).length = l.length * 6 := length_flatMap_enc cnC_length l
theorem cns_lo {l : List (TK × (Int × Int))} {n : Nat} : NV.lows n (l.flatMap cnC) := by
  apply NV.lows_mem
  intro v hv
  obtain ⟨x, _, hx⟩ := List.mem_flatMap.1 hv
  simp only [cnC, tkC, List.cons_append, List.nil_append, List.mem_cons, List.not_mem_nil, or_false] at hx
  rcases hx with rfl | rfl | rfl | rfl | rfl | rfl <;> trivial
theorem fend_mono {rs : List NRes} {Q Q' : NV × Heap → Prop} (hq : ∀ q, Q q → Q' q) {c : Ctl} {F : FF} {h : Heap} (e : fend rs Q c F h) : fend rs Q' c F h := by
  cases c with
  | nrm => obtain ⟨v, h1, h2⟩ := e; exact ⟨v, h1, hq _ h2⟩
  | ret => obtain ⟨v, h1, h2⟩ := e; exact ⟨v, h1, hq _ h2⟩
  | exit i => exact e
noncomputable def E1 : Env := ⟨Try.prog, failS, failS_ok _, false⟩
theorem E1_det : E1.det = false := rfl

set_option maxHeartbeats 1000000 in
theorem call_fwp (H : Heap) (z0 z1 z2 z3 z4 z5 z6 z7 z8 z9 : NV) (p m : Nat) (M L : List (TK × (Int × Int))) (x : CtAt H [z0, z1, z2, z3, z4, z5, z6, z7, z8, z9] p m M) (hs : SortedK ltK L) (hp' : L.Perm M) (hM : M.length ≤ 150) :
    fwpT E1 t24.body (fend t24.res fun q => (M = [] ∧ q.1 = .slice none 0 (.fix 0) ∧ ∃ J, q.2 = H ++ J) ∨ (M ≠ [] ∧ ∃ J r, q.2 = H ++ J ∧ hget J r = some (.cells (L.flatMap cnC) false) ∧ q.1 = .slice (some (H.length + r, 0)) L.length (.opn 6))) (toF [.ptr (some (p, 0))]) H .mk := by
  have lp := hget_some_lt x.hp
  have lm := x.hm.lt
  have hp := x.hp
  simp only [List.cons_append, List.nil_append] at hp
  obtain ⟨y, hr, hit⟩ := x.hm.range
  simp only [t24]
  simp (disch := first | omega | (simp only [fsLen]; omega)) only [↓fsPre, fsPost, fsGen, fsDefs, fsDefX, eqVal, reduceCtorEq, ↓reduceIte, hp, hr]
  refine wloopm (fun k F h => ∃ acc rem v, rem.length = k ∧ (acc ++ rem).Perm M ∧ F 3 = v ∧ F 12 = .ptr (some (H.length, 0)) ∧ ItAt tkV tyV h H.length m rem ∧ H.length + 1 ≤ h.length ∧ (∀ b, b < H.length → hget h b = hget H b) ∧ GrC h (H.length + 1) (acc.flatMap cnC) 6 v) M.length ?_ ?_
  · refine ⟨[], M, .slice none 0 (.fix 0), rfl, List.Perm.refl _, ?_⟩
    simp (disch := first | omega | (simp only [fsLen]; omega)) only [↓fsPre, fsGen, Nat.reduceEqDiff, ↓reduceIte]
    exact ⟨hit, fun b hb => hget_appl hb, GrC.nil⟩
  · rintro k F h ⟨acc, rem, v, hk, hperm, f3, f12, hI, hlen, hold, hg⟩
    simp (disch := first | omega | (simp only [fsLen]; omega)) only [↓fsPre, fsGen, f12, E1_det]
    refine hI.next (fun h0 => ?_) (fun j hj h' ho hl' hI' hent => ?_)
    · subst h0
      rw [List.append_nil] at hperm
      have hlen2 := hperm.length_eq
      simp (disch := first | omega | (simp only [fsLen]; omega)) only [↓fsPre, fsPost, fsGen, fsDefs, Nat.reduceEqDiff, ↓reduceIte, f3]
      rcases hg with ⟨hC, rfl⟩ | ⟨b, n, rfl, hb1, hb2, hb3, hb4⟩
      · have hacc : acc = [] := by
          cases acc with
          | nil => rfl
          | cons a l => simp [cnC] at hC
        subst hacc
        have hM0 : M = [] := by simpa using hlen2.symm
        refine callT_one (sortk_nil h) rfl ?_
        simp (disch := first | omega | (simp only [fsLen]; omega)) only [↓fsPre, fsPost, fsGen, fsDefs, Nat.reduceEqDiff, ↓reduceIte, f3]
        exact .inl ⟨hM0, heap_ext (by omega) hold⟩
      · rw [cns_length] at hb3
        have hn : n = acc.length := by omega
        subst hn
        have hLn : acc.length = L.length := by rw [hlen2, hp'.length_eq]
        refine callT_one (sortk_ok h b (.opn 6) acc L hb2 hs (hp'.trans hperm.symm) (by omega)) rfl ?_
        simp (disch := first | omega | (simp only [fsLen]; omega)) only [↓fsPre, fsPost, fsGen, fsDefs, Nat.reduceEqDiff, ↓reduceIte, f3]
        have hbl := hget_some_lt hb2
        obtain ⟨J, hJ⟩ := heap_ext (H := H) (L := hset h b (.cells (L.flatMap cnC) false)) (by rw [length_hset]; omega) fun c hc => by rw [hget_hset_ne (by omega)]; exact hold c hc
        refine .inr ⟨?_, J, b - H.length, hJ, ?_, by rw [hLn, show H.length + (b - H.length) = b by omega]⟩
        · intro h
          have : acc.length = 0 := by rw [hlen2, h]; rfl
          omega
        have e1 : hget (H ++ J) b = some (.cells (L.flatMap cnC) false) := by rw [← hJ, hget_hset_same hbl]
        rw [hget_appr (by omega)] at e1
        exact e1
    · have hent1 := fun L => hent (h' ++ L) (hget_appl (by omega)) (hget_appl (by have := x.hm.lt; omega))
      have hent0 := hent h' rfl rfl
      simp only [tkV, tyV, tkC] at hent1 hent0
      simp (disch := first | omega | (simp only [fsLen]; omega)) only [↓fsPre, fsPost, fsCond, fsGen, fsDefs, Nat.reduceAdd, Nat.reduceLeDiff, Nat.reduceEqDiff, ↓reduceIte, f3, f12, hent0, nb_one]
      have ext1 : Ext (H.length + 1) h h' := fun c y hc hy => by rw [ho c (by omega)]; exact hy
      have hlp := hperm.length_eq
      rw [List.length_append] at hlp
      have lm := x.hm.lt
      refine grc_app (N := H.length + 1) (new := cnC rem[j]) (m := 1) ((hg.ext ext1).ext Ext.app) (by rw [List.length_append]; omega) (sliceCells_at (by simp (disch := first | omega | (simp only [fsLen]; omega)) only [fsPost, fsCond, fsGen] <;> rfl) rfl) rfl (by omega) (by omega) rfl (by rw [cns_length]; omega) (by omega) (by omega) ?_
      intro v' h'' g' hl'' ho''
      simp only [List.length_append, List.length_cons, List.length_nil] at hl''
      simp (disch := first | omega | (simp only [fsLen]; omega)) only [↓fsPre, fsPost, fsGen, Nat.reduceEqDiff, ↓reduceIte, f12]
      refine ⟨rem.length - 1, by omega, acc ++ [rem[j]], rem.eraseIdx j, v', ?_⟩
      simp (disch := first | omega | (simp only [fsLen]; omega)) only [fsGen]
      refine ⟨by rw [List.length_eraseIdx, if_pos hj], ?_, hI'.mono ?_ ?_, by omega, fun b hb => ?_, ?_⟩
      · refine List.Perm.trans ?_ hperm
        exact List.Perm.append_left acc (erase_perm hj)
      · rw [ho'' _ (by omega), hget_appl (by omega)]
      · rw [ho'' _ (by omega), hget_appl (by omega)]
      · rw [ho'' _ (by omega), hget_appl (by omega), ho b (by omega)]; exact hold b hb
      · rw [List.flatMap_append, List.flatMap_cons, List.flatMap_nil, List.append_nil]; exact g'

theorem call_nil (H : Heap) (z0 z1 z2 z3 z4 z5 z6 z7 z8 z9 : NV) (p m : Nat) (x : CtAt H [z0, z1, z2, z3, z4, z5, z6, z7, z8, z9] p m []) : NCall Try.prog 24 [.ptr (some (p, 0))] H fun r => r = (.slice none 0 (.fix 0), H) := by
  refine call_pure E1 mixed t24_ok (by kernel_rfl) trivial ?_
  refine fwp_mono _ (call_fwp H _ _ _ _ _ _ _ _ _ _ p m [] [] x List.Pairwise.nil (List.Perm.refl _) (by simp)) fun c F h e => fend_mono ?_ e
  rintro q (⟨_, h1, h2⟩ | ⟨h0, _⟩)
  · exact ⟨h1, h2⟩
  · exact absurd rfl h0
theorem call_some (H : Heap) (z0 z1 z2 z3 z4 z5 z6 z7 z8 z9 : NV) (p m : Nat) (M L : List (TK × (Int × Int))) (x : CtAt H [z0, z1, z2, z3, z4, z5, z6, z7, z8, z9] p m M) (hs : SortedK ltK L) (hp : L.Perm M) (hM : M.length ≤ 150) (h0 : M ≠ []) :
    NCall Try.prog 24 [.ptr (some (p, 0))] H fun r => r = (.slice (some (H.length, 0)) L.length (.opn 6), H ++ [some (.cells (L.flatMap cnC) false)]) := by
  refine call_new1 E1 mixed t24_ok (fun b => .slice (some (b, 0)) L.length (.opn 6)) (.cells (L.flatMap cnC) false) (by kernel_rfl) (fun g _ => rfl) cns_lo ?_
  refine fwp_mono _ (call_fwp H _ _ _ _ _ _ _ _ _ _ p m M L x hs hp hM) fun c F h e => fend_mono ?_ e
  rintro q (⟨h1, _⟩ | ⟨_, J, r, h1, h2, h3⟩)
  · exact absurd h1 h0
  · exact ⟨J, r, h1, h2, h3⟩

noncomputable def vOf (x y : Int) : BitVec 128 := open Classical in if h : U64 x ∧ U64 y then Classical.choose (val_of x y h.1 h.2) else 0
theorem vOf_cells {x y : Int} (hx : U64 x) (hy : U64 y) : [NV.int .u64 x, NV.int .u64 y] = [nb (hiOf (vOf x y)), nb (loOf (vOf x y))] := by
  unfold vOf
  rw [dif_pos ⟨hx, hy⟩]
  have := Classical.choose_spec (val_of x y hx hy)
  exact NV.agg.inj this
noncomputable def tkOf (t : T4) : TK := (t.tab, t.key, vOf t.v1 t.v2)
def T4.OK (t : T4) : Prop := U64 t.v1 ∧ U64 t.v2
theorem tkOf_cells {t : T4} (h : t.OK) : t.cells = tkC (tkOf t) := by
  have := vOf_cells h.1 h.2
  simp only [List.cons.injEq, and_true] at this
  unfold T4.cells tkC tkOf
  rw [this.1, this.2]
theorem tC_tk : ∀ {l : List T4}, (∀ t ∈ l, t.OK) → tC l = (l.map tkOf).flatMap tkC
  | [], _ => rfl
  | t :: l, h => by
    have := tC_tk (l := l) fun x hx => h x (List.mem_cons_of_mem _ hx)
    unfold tC at *
    rw [List.flatMap_cons, this, tkOf_cells (h t (List.mem_cons_self ..))]
    rfl
def EnU (e : En) : Prop := (∀ m ∈ e.ms, Mt.OK m) ∧ ∀ a ∈ e.args, U64 a.1 ∧ U64 a.2
theorem mV_u {e : En} (h : EnU e) (k : Int) : U64 (mV e k).1 ∧ U64 (mV e k).2 := by
  unfold mV
  split
  · rename_i m hm
    exact h.1 m (List.mem_of_getElem? hm)
  · exact ⟨u64_zero, u64_zero⟩
theorem aV_u {e : En} (h : EnU e) (k : Int) : U64 (aV e k).1 ∧ U64 (aV e k).2 := by
  unfold aV
  split
  · rename_i m hm
    exact h.2 m (List.mem_of_getElem? hm)
  · exact ⟨u64_zero, u64_zero⟩
theorem needs_u {e : En} (h : EnU e) (R : List Rf) : ∀ t ∈ needsL R e, T4.OK t := by
  intro t ht
  unfold needsL at ht
  obtain ⟨r, _, hr⟩ := List.mem_filterMap.1 ht
  unfold need1 at hr
  split at hr
  · split at hr
    · cases hr; exact mV_u h _
    · split at hr
      · cases hr; exact aV_u h _
      · cases hr
  · cases hr
theorem prov_u {e : En} (h : EnU e) (R : List Rf) : ∀ t ∈ provL R e, T4.OK t := by
  unfold provL
  have : ∀ (R : List Rf) (out : List T4), (∀ t ∈ out, T4.OK t) → ∀ t ∈ R.foldl (fun out r => if r.tt = e.tab ∧ ¬ tgt r e ∈ out then out ++ [tgt r e] else out) out, T4.OK t := by
    intro R
    induction R with
    | nil => intro out ho; exact ho
    | cons r R ih =>
      intro out ho
      rw [List.foldl_cons]
      apply ih
      split
      · intro t ht
        rcases List.mem_append.1 ht with ht | ht
        · exact ho t ht
        · rw [List.mem_singleton.1 ht]; exact mV_u h _
      · exact ho
  exact this R [] (by simp)
noncomputable def needsK (R : List Rf) (e : En) : List TK := (needsL R e).map tkOf
noncomputable def provK (R : List Rf) (e : En) : List TK := (provL R e).map tkOf

/-- Tallies after a list of targets was counted. -/
def sumT (T : TK → Int × Int) (l : List TK) (d : Int × Int) : TK → Int × Int := fun k => ((T k).1 + (l.count k : Int) * d.1, (T k).2 + (l.count k : Int) * d.2)
theorem sumT_nil (T : TK → Int × Int) (d : Int × Int) : sumT T [] d = T := by
  funext k
  simp [sumT]
theorem sumT_snoc (T : TK → Int × Int) (l : List TK) (t : TK) (d : Int × Int) : sumT T (l ++ [t]) d = addT (sumT T l d) t d := by
  funext k
  unfold addT sumT
  by_cases h : k = t
  · subst h
    rw [if_pos rfl, List.count_append]
    have h1 : [k].count k = 1 := by simp
    rw [h1, Int.natCast_add]
    have e : ∀ a b c : Int, a + (b + ((1 : Nat) : Int)) * c = a + b * c + c := by
      intro a b c
      have : (b + ((1 : Nat) : Int)) * c = b * c + c := by rw [Int.add_mul]; simp
      omega
    rw [e, e]
  · rw [if_neg h, List.count_append]
    have : [t].count k = 0 := by
      rw [List.count_eq_zero]
      simpa using h
    rw [this, Nat.add_zero]
theorem sumT_bound {T : TK → Int × Int} {l : List TK} {a b B : Int} (ha : -1 ≤ a ∧ a ≤ 1) (hb : -1 ≤ b ∧ b ≤ 1) (hT : ∀ k, -B ≤ (T k).1 ∧ (T k).1 ≤ B ∧ -B ≤ (T k).2 ∧ (T k).2 ≤ B) (k : TK) :
    -(B + l.length) ≤ (sumT T l (a, b) k).1 ∧ (sumT T l (a, b) k).1 ≤ B + l.length ∧ -(B + l.length) ≤ (sumT T l (a, b) k).2 ∧ (sumT T l (a, b) k).2 ≤ B + l.length := by
  have hc : (l.count k : Int) ≤ l.length := by have := List.count_le_length (a := k) (l := l); omega
  have h0 : (0 : Int) ≤ (l.count k : Int) := by omega
  have hk := hT k
  unfold sumT
  simp only
  have h1 : ∀ x : Int, -1 ≤ x ∧ x ≤ 1 → -(l.length : Int) ≤ (l.count k : Int) * x ∧ (l.count k : Int) * x ≤ l.length := by
    intro x hx
    have : x = -1 ∨ x = 0 ∨ x = 1 := by omega
    rcases this with rfl | rfl | rfl
    · omega
    · omega
    · omega
  have h2 := h1 a ha
  have h3 := h1 b hb
  omega

theorem RfV.mono2 {h h' : Heap} {m : Nat} {R : List Rf} {z0 z1 z2 z3 z4 z5 z6 z7 z8 z9 : NV} (s : RfV h R z0 z1 z2 z3 z4 z5 z6 z7 z8 z9) (hm : ∃ es cl, hget h m = some (.map es cl)) (k : ∀ b, b < h.length → b ≠ m → hget h' b = hget h b) : RfV h' R z0 z1 z2 z3 z4 z5 z6 z7 z8 z9 := by
  obtain ⟨o, b, c, cs, ro, h1, h2, h3⟩ := s
  refine ⟨o, b, c, cs, ro, h1, ?_, h3⟩
  rw [k b (hget_lt h2) ?_]
  · exact h2
  · rintro rfl
    obtain ⟨es, cl, hm⟩ := hm
    rw [hm] at h2
    cases h2
theorem EnAt.mono2 {h h' : Heap} {N m : Nat} {row : List NV} {e : En} (x : EnAt h N row e) (hm : ∃ es cl, hget h m = some (.map es cl)) (k : ∀ b, b < h.length → b ≠ m → hget h' b = hget h b) : EnAt h' N row e := by
  obtain ⟨es, cl, hm⟩ := hm
  have one : ∀ {N e : Nat} {C : List NV} {v : NV}, GrC h N C e v → GrC h' N C e v := by
    intro N e C v g
    rcases g with g | ⟨b, k', h1, h2, h3, h4⟩
    · exact .inl g
    · refine .inr ⟨b, k', h1, h2, ?_, h4⟩
      rw [k b (hget_lt h3) (by rintro rfl; rw [hm] at h3; cases h3)]
      exact h3
  obtain ⟨mv, av, h1, h2, h3⟩ := x
  exact ⟨mv, av, h1, one h2, one h3⟩
theorem CtAt.map {H : Heap} {zs : List NV} {p m : Nat} {M : List (TK × (Int × Int))} (x : CtAt H zs p m M) : ∃ es cl, hget H m = some (.map es cl) := by
  obtain ⟨es, cl, h1, _⟩ := x.hm
  exact ⟨es, cl, h1⟩
theorem tkC_fill (k : TK) : tkC k ++ List.drop (tkC k).length [NV.int .i64 0, NV.int .i64 0, NV.int .u64 0, NV.int .u64 0] = tkC k := by
  rw [tkC_length]; exact List.append_nil _
theorem tks_length (l : List TK) : (l.flatMap tkC).length = l.length * 4 := length_flatMap_enc tkC_length l
/-- A list of targets. -/
theorem tks_shape {h : Heap} {N : Nat} {l : List TK} {v : NV} (g : GrC h N (l.flatMap tkC) 4 v) : ∃ A c, v = .slice A l.length c ∧ (0 < l.length → ∃ b, A = some (b, 0) ∧ N ≤ b ∧ hget h b = some (.cells (l.flatMap tkC) false)) := by
  rcases g with ⟨h1, rfl⟩ | ⟨b, k, rfl, h2, h3, h4, h5⟩
  · have : l = [] := by
      cases l with
      | nil => rfl
      | cons a l => simp [tkC] at h1
    subst this
    exact ⟨_, _, rfl, fun h => absurd h (by simp)⟩
  · rw [tks_length] at h4
    have : k = l.length := by omega
    subst this
    exact ⟨_, _, rfl, fun _ => ⟨b, rfl, h2, h3⟩⟩
end Go.Proofs
