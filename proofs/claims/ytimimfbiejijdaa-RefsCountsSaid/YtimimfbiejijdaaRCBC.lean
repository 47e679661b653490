/- Base, Codes in one text. -/
import Derived.Test.YtimimfbiejijdaaFsK
import Derived.Test.YtimimfbiejijdaaRCTab
import Derived.Test.YtimimfbiejijdaaFsI
import Derived.Test.YtimimfbiejijdaaFsH
set_option linter.unusedSimpArgs false
set_option linter.unusedVariables false
set_option maxRecDepth 10000
namespace Go.Proofs
open Go.Ns

theorem mixed : Try.prog.follows .mixedOrders = true := by kernel_rfl
noncomputable def E0 : Env := ⟨Try.prog, failS, failS_ok _, true⟩


/-- The slice of a Codes at 'p', with 'n' numbers. -/
def CodesSl (H : Heap) (p : Nat) (sl : NV) (n : Nat) : Prop :=
  (sl = .slice none 0 (.fix 0) ∧ n = 0) ∨ ∃ b m cs ro, sl = .slice (some (b, 0)) n (.fix m) ∧ hget H b = some (.cells cs ro) ∧ b ≠ p ∧ n ≤ 1000 ∧ ∀ i, i < n → ∃ x, cs[i]? = some (.int .u8 x) ∧ 0 ≤ x ∧ x ≤ 255

theorem CodesSl.one {H : Heap} {p n : Nat} {sl : NV} (h : CodesSl H p sl n) : sl.one = true := by
  rcases h with ⟨rfl, _⟩ | ⟨_, _, _, _, rfl, _⟩ <;> rfl
theorem CodesSl.app {H L : Heap} {p n : Nat} {sl : NV} (h : CodesSl H p sl n) : CodesSl (H ++ L) p sl n := by
  rcases h with h | ⟨b, m, cs, ro, h1, h2, h3⟩
  · exact .inl h
  · exact .inr ⟨b, m, cs, ro, h1, by rw [hget_appl (hget_lt h2)]; exact h2, h3⟩
theorem CodesSl.set {H : Heap} {p n : Nat} {sl : NV} {x : NBlk} (h : CodesSl H p sl n) : CodesSl (hset H p x) p sl n := by
  rcases h with h | ⟨b, m, cs, ro, h1, h2, h3, h4⟩
  · exact .inl h
  · exact .inr ⟨b, m, cs, ro, h1, by rw [hget_hset_ne (Ne.symm h3)]; exact h2, h3, h4⟩

theorem cleft_ok (H : Heap) (p n : Nat) (sl : NV) (at' : Int) (hp : hget H p = some (.cells [sl, .int .i64 at'] false)) (hs : CodesSl H p sl n) :
    NCall Try.prog 19 [.ptr (some (p, 0))] H fun q => q = (.bool (decide (at' < n)), H) := by
  refine call_of E0 mixed t19_ok (by kernel_rfl) (by rintro q rfl; simp) ?_
  simp only [t19]
  rcases hs with ⟨rfl, rfl⟩ | ⟨b, m, cs, ro, rfl, h1, h2, h3⟩
  · simp (disch := first | omega | (simp only [fsLen]; omega)) only [↓fsPre, fsPost, fsGen, fsDefs, fsDefX, cls, reduceCtorEq, Nat.reduceAdd, Nat.reduceEqDiff, ↓reduceIte, hp]
  · simp (disch := first | omega | (simp only [fsLen]; omega)) only [↓fsPre, fsPost, fsGen, fsDefs, fsDefX, cls, reduceCtorEq, Nat.reduceAdd, Nat.reduceEqDiff, ↓reduceIte, hp]

theorem next_ok (H : Heap) (p n k : Nat) (sl : NV) (at' : Int) (hp : hget H p = some (.cells [sl, .int .i64 at'] false)) (hs : CodesSl H p sl n) (h0 : 0 ≤ at') (h1 : at' ≤ n) (hk : 1 ≤ k) (hk2 : k ≤ 100000) :
    DCall Try.prog 20 [.ptr (some (p, 0)), .int .i64 k] H fun q => ∃ x a, q = (.int .i64 x, hset H p (.cells [sl, .int .i64 a] false)) ∧ 0 ≤ x ∧ x < k ∧ 0 ≤ a ∧ a ≤ n := by
  have hpl := hget_some_lt hp
  refine call_det E0 rfl mixed t20_ok (by kernel_rfl) (by rintro q ⟨_, _, rfl, _⟩; simp) ?_
  simp only [t20]
  simp (disch := first | omega | (simp only [fsLen]; omega)) only [↓fsPre, fsPost, fsGen, reduceCtorEq, ↓reduceIte]
  refine callT_one (cleft_ok H p n sl at' hp hs) rfl ?_
  have one := hs.one
  rcases hs with ⟨rfl, rfl⟩ | ⟨b, m, cs, ro, rfl, e1, e2, e3, e4⟩
  · have h2 : at' = 0 := by omega
    subst h2
    simp (disch := first | omega | (simp only [fsLen]; omega)) only [↓fsPre, fsPost, fsGen, fsDefs, fsDefX, Nat.reduceEqDiff, ↓reduceIte]
    exact ⟨0, 0, by rw [hset_same hp], by omega, by omega, by omega, by omega⟩
  · by_cases hl : at' < n
    · obtain ⟨x, g1, g2, g3⟩ := e4 at'.toNat (by omega)
      have hb : hget (hset H p (.cells [.slice (some (b, 0)) n (.fix m), .int .i64 (at' + 1)] false)) b = some (.cells cs ro) := by rw [hget_hset_ne (Ne.symm e2)]; exact e1
      have hr1 := Int.tmod_nonneg (k : Int) g2
      have hr2 := Int.tmod_lt_of_pos x (show (0 : Int) < k by omega)
      have hk0 : ¬ (k : Int) = 0 := by omega
      have e5 : at' + 1 - 1 = at' := by omega
      simp (disch := first | omega | (simp only [fsLen]; omega)) only [↓fsPre, fsPost, fsCond, fsGen, fsDefs, fsDefX, cls, reduceCtorEq, Nat.reduceAdd, Nat.reduceEqDiff, ↓reduceIte, hl, hp, hb, g1, e5, hk0]
      exact ⟨_, _, rfl, hr1, hr2, by omega, by omega⟩
    · simp (disch := first | omega | (simp only [fsLen]; omega)) only [↓fsPre, fsPost, fsGen, fsDefs, fsDefX, Nat.reduceEqDiff, ↓reduceIte, hl]
      refine ⟨0, at', by rw [hset_same hp], ?_, ?_, h0, h1⟩ <;> omega

theorem bool_ok (H : Heap) (p n : Nat) (sl : NV) (at' : Int) (hp : hget H p = some (.cells [sl, .int .i64 at'] false)) (hs : CodesSl H p sl n) (h0 : 0 ≤ at') (h1 : at' ≤ n) :
    DCall Try.prog 46 [.ptr (some (p, 0))] H fun q => ∃ x a, q = (.bool x, hset H p (.cells [sl, .int .i64 a] false)) ∧ 0 ≤ a ∧ a ≤ n := by
  refine call_det E0 rfl mixed t46_ok (by kernel_rfl) (by rintro q ⟨_, _, rfl, _⟩; simp) ?_
  simp only [t46]
  simp (disch := first | omega | (simp only [fsLen]; omega)) only [↓fsPre, fsPost, fsGen, reduceCtorEq, ↓reduceIte]
  refine callT_D (next_ok H p n 2 sl at' hp hs h0 h1 (by omega) (by omega)) rfl ?_
  rintro v h' ⟨x, a, e, g1, g2, g3, g4⟩
  cases e
  simp (disch := first | omega | (simp only [fsLen]; omega)) only [↓fsPre, fsPost, fsGen, fsDefs, fsDefX, ↓reduceIte]
  exact ⟨_, _, rfl, g3, g4⟩

/-- New makes a Codes of its own. -/
theorem codes_ok (H : Heap) (v : NV) (xs : List Int) (k : Nat) (hv : BytesArg H v xs) (hk : k ≤ 1000) :
    DCall Try.prog 8 [v, .int .i64 k] H fun q => ∃ sl n, q = (.ptr (some (H.length, 0)), H ++ [some (.cells [sl, .int .i64 0] false)]) ∧ CodesSl q.2 H.length sl n := by
  refine call_det E0 rfl mixed t8_ok (by kernel_rfl) (by rintro q ⟨_, _, rfl, _⟩; simp) ?_
  simp only [t8]
  rcases hv with ⟨rfl, rfl⟩ | ⟨b, m, cs, ro, rfl, h1, h2, h3, h4, h5⟩
  · have e1 : (if (k : Int) < 0 then (k : Int) else 0) = 0 := by rw [if_neg (by omega)]
    simp (disch := first | omega | (simp only [fsLen]; omega)) only [↓fsPre, fsPost, fsCond, fsGen, fsDefs, reduceCtorEq, Nat.reduceAdd, Nat.reduceLeDiff, Nat.reduceEqDiff, Int.reduceLE, Int.reduceToNat, ↓reduceIte]
    exact ⟨_, 0, rfl, .inl ⟨rfl, rfl⟩⟩
  · have hbl := hget_some_lt h1
    have e1 : (if (k : Int) < xs.length then (k : Int) else xs.length) = (min k xs.length : Nat) := by split <;> omega
    have e2 : min k xs.length ≤ xs.length := by omega
    have e3 : min k xs.length ≤ 1000 := by omega
    generalize min k xs.length = N at *
    simp (disch := first | omega | (simp only [fsLen]; omega)) only [↓fsPre, fsPost, fsCond, fsGen, fsDefs, reduceCtorEq, Nat.reduceAdd, Nat.reduceLeDiff, Nat.reduceEqDiff, ↓reduceIte, e1]
    refine ⟨_, N, rfl, .inr ⟨b, m, cs, ro, rfl, by rw [hget_appl hbl]; exact h1, by omega, e3, fun i hi => ?_⟩⟩
    exact ⟨_, h4 i (by omega), h5 _ (List.getElem_mem (by omega))⟩
end Go.Proofs
