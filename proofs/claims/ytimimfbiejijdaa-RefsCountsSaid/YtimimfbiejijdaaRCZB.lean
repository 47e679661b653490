/- Ze, Zf, Zg, Zh in one text. -/
import Derived.Test.YtimimfbiejijdaaRCZA
set_option linter.unusedSimpArgs false
set_option linter.unusedVariables false
set_option maxRecDepth 100000
namespace Go.Proofs
open Go.Ns

def tkT (x : TK) : T4 := ⟨x.1, x.2.1, ((hiOf x.2.2).toNat : Int), ((loOf x.2.2).toNat : Int)⟩
theorem tkT_cells (x : TK) : (tkT x).cells = tkC x := rfl
theorem tkT_tC : ∀ (l : List TK), tC (l.map tkT) = l.flatMap tkC
  | [] => rfl
  | x :: l => by
    have := tkT_tC l
    unfold tC at *
    rw [List.map_cons, List.flatMap_cons, List.flatMap_cons, this, tkT_cells]

theorem targets1_ok (H : Heap) (x : TK) (b1 b2 : Nat) (c1 c2 : Cap) (hb1 : hget H b1 = some (.cells (tkC x) false)) (hb2 : hget H b2 = some (.cells (tkC x) false)) : NCall Try.prog 10 [.slice (some (b1, 0)) 1 c1, .slice (some (b2, 0)) 1 c2] H fun r => r = (.bool true, H) := by
  refine call_pure E0 mixed t10_ok (by kernel_rfl) trivial ?_
  have l1 := hget_some_lt hb1
  have l2 := hget_some_lt hb2
  rw [← tkT_cells] at hb1 hb2
  simp only [t10, T4.cells] at hb1 hb2 ⊢
  simp (disch := first | omega | (simp only [fsLen]; omega)) only [↓fsPre, fsPost, fsGen, fsDefs, fsDefX, reduceCtorEq, Nat.reduceEqDiff, ↓reduceIte]
  refine wloop (fun k F h => F 0 = .slice (some (b1, 0)) 1 c1 ∧ F 1 = .slice (some (b2, 0)) 1 c2 ∧ F 12 = .slice (some (b1, 0)) 1 c1 ∧ F 13 = .int .i64 1 ∧ F 14 = .int .i64 k ∧ ∃ J, h = H ++ J) 1 ?_ ?_ ?_
  · simp (disch := first | omega | (simp only [fsLen]; omega)) only [↓fsPre, fsGen, reduceCtorEq, Nat.reduceEqDiff, ↓reduceIte]
    exact ⟨[], by simp⟩
  · rintro k F h hk ⟨f0, f1, f12, f13, f14, J, rfl⟩
    obtain rfl : k = 0 := by omega
    simp (disch := first | omega | (simp only [fsLen]; omega)) only [↓fsPre, fsPost, fsCond, fsGen, fsDefs, fsDefX, cls, eqVal, reduceCtorEq, Nat.reduceAdd, Nat.reduceLeDiff, Nat.reduceEqDiff, Int.reduceLT, Int.reduceLE, Int.reduceToNat, ↓reduceIte, f0, f1, f12, f13, f14, hb1, hb2]
    exact ⟨_, rfl⟩
  · rintro F h ⟨f0, f1, f12, f13, f14, J, rfl⟩
    simp (disch := first | omega | (simp only [fsLen]; omega)) only [↓fsPre, fsPost, fsGen, fsDefs, fsDefX, ↓reduceIte, f13, f14]
    exact ⟨_, rfl⟩

set_option maxHeartbeats 2000000 in
theorem counts_ok (H : Heap) (L : List (TK × (Int × Int))) (A1 A2 : Option (Nat × Nat)) (c1 c2 : Cap) (hL : L.length ≤ 1000) (h1 : ∀ j, j < L.length → ∃ b, A1 = some (b, 0) ∧ hget H b = some (.cells (L.flatMap cnC) false)) (h2 : ∀ j, j < L.length → ∃ b, A2 = some (b, 0) ∧ hget H b = some (.cells (L.flatMap cnC) false)) :
    NCall Try.prog 23 [.slice A1 L.length c1, .slice A2 L.length c2] H fun r => r = (.bool true, H) := by
  refine call_pure E0 mixed t23_ok (by kernel_rfl) trivial ?_
  simp only [t23]
  simp (disch := first | omega | (simp only [fsLen]; omega)) only [↓fsPre, fsPost, fsGen, fsDefs, fsDefX, reduceCtorEq, Nat.reduceEqDiff, ↓reduceIte]
  refine wloop (fun k F h => F 0 = .slice A1 L.length c1 ∧ F 1 = .slice A2 L.length c2 ∧ F 12 = .slice A1 L.length c1 ∧ F 13 = .int .i64 L.length ∧ F 14 = .int .i64 k ∧ ∃ J, h = H ++ J) L.length ?_ ?_ ?_
  · simp (disch := first | omega | (simp only [fsLen]; omega)) only [↓fsPre, fsGen, reduceCtorEq, Nat.reduceEqDiff, ↓reduceIte]
    exact ⟨[], by simp⟩
  · rintro k F h hk ⟨f0, f1, f12, f13, f14, J, rfl⟩
    obtain ⟨b1, rfl, hb1⟩ := h1 k hk
    obtain ⟨b2, rfl, hb2⟩ := h2 k hk
    have hb1l := hget_some_lt hb1
    have hb2l := hget_some_lt hb2
    have hc : cut (L.flatMap cnC) (k * 6) 6 = some (cnC L[k]) := cut_flatMap cnC_length hk
    have hc4 := cn_cut hk
    obtain ⟨e4, e5⟩ := cn_at hk
    generalize L[k] = x at *
    simp (disch := first | omega | (simp only [fsLen]; omega)) only [↓fsPre, fsPost, fsCond, fsGen, fsDefs, fsDefX, cls, Nat.reduceAdd, Nat.reduceEqDiff, Nat.reduceBEq, ↓reduceIte, f1, f12, f13, f14, hb1, hb2, hc, hc4, e4, e5, cnC_one, cnC_length, cnC_n, cnC_p, cnC_k, tkC_one, tkC_length]
    refine callDT_one (targets1_ok _ x.1 _ _ _ _ (by simp (disch := first | omega | (simp only [fsLen]; omega)) only [fsPost, fsCond, fsGen]) (by simp (disch := first | omega | (simp only [fsLen]; omega)) only [fsPost, fsCond, fsGen])) rfl ?_
    simp (disch := first | omega | (simp only [fsLen]; omega)) only [↓fsPre, fsPost, fsCond, fsGen, fsDefs, fsDefX, cls, reduceCtorEq, Nat.reduceAdd, Nat.reduceEqDiff, Nat.reduceBEq, ↓reduceIte, f0, f1, f12, f13, f14]
    exact ⟨_, rfl⟩
  · rintro F h ⟨f0, f1, f12, f13, f14, J, rfl⟩
    simp (disch := first | omega | (simp only [fsLen]; omega)) only [↓fsPre, fsPost, fsGen, fsDefs, fsDefX, ↓reduceIte, f13, f14]
    exact ⟨_, rfl⟩
def d11 : NCode := (.seq
 (.draw 0 [
 ⟨0, ⟨(some 66), .move (.tmp 7), none⟩, [], 0⟩,
 ⟨1, ⟨(some 67), .call 24 [(.tmp 66)], none⟩, [0], 0⟩,
 ⟨2, ⟨(some 68), .load 10 true (.tmp 5), none⟩, [], 0⟩,
 ⟨3, ⟨(some 69), .move (.tmp 8), none⟩, [], 0⟩,
 ⟨4, ⟨(some 70), .call 25 [(.tmp 68), (.tmp 69)], none⟩, [2, 3, 1, 0], 0⟩,
 ⟨5, ⟨(some 71), .call 23 [(.tmp 67), (.tmp 70)], none⟩, [1, 0, 4, 2, 3], 0⟩,
 ⟨6, ⟨(some 72), .un .not (.tmp 71), none⟩, [5, 1, 0, 4, 2, 3], 0⟩,
 ⟨7, ⟨(some 73), .move (.tmp 72), none⟩, [6, 5, 1, 0, 4, 2, 3], 0⟩,
 ⟨8, ⟨(some 74), .move (.tmp 7), (some (73, false))⟩, [7, 6, 5, 1, 0, 4, 2, 3], 0⟩,
 ⟨9, ⟨(some 75), .call 18 [(.tmp 74)], (some (73, false))⟩, [8, 7, 6, 5, 1, 0, 4, 2, 3], 0⟩,
 ⟨10, ⟨(some 76), .load 10 true (.tmp 5), (some (73, false))⟩, [7, 6, 5, 1, 0, 4, 2, 3], 0⟩,
 ⟨11, ⟨(some 77), .move (.tmp 8), (some (73, false))⟩, [7, 6, 5, 1, 0, 4, 2, 3], 0⟩,
 ⟨12, ⟨(some 78), .call 26 [(.tmp 76), (.tmp 77)], (some (73, false))⟩, [10, 7, 6, 5, 1, 0, 4, 2, 3, 11, 9, 8], 0⟩,
 ⟨13, ⟨(some 79), .call 10 [(.tmp 75), (.tmp 78)], (some (73, false))⟩, [9, 8, 7, 6, 5, 1, 0, 4, 2, 3, 12, 10, 11], 0⟩,
 ⟨14, ⟨(some 80), .un .not (.tmp 79), (some (73, false))⟩, [13, 9, 8, 7, 6, 5, 1, 0, 4, 2, 3, 12, 10, 11], 0⟩,
 ⟨15, ⟨(some 81), .pick (.tmp 73) (.const (.bool true)) (.tmp 80), none⟩, [7, 6, 5, 1, 0, 4, 2, 3, 14, 13, 9, 8, 12, 10, 11], 0⟩])
 (.cond (.tmp 81)
 (.seq
 (.ops [
 ⟨(some 4), .move (.const (.bool false)), none⟩])
 .ret)
 .skip))
theorem d11_eq : d11 = (.seq
 (.draw 0 [
 ⟨0, ⟨(some 66), .move (.tmp 7), none⟩, [], 0⟩,
 ⟨1, ⟨(some 67), .call 24 [(.tmp 66)], none⟩, [0], 0⟩,
 ⟨2, ⟨(some 68), .load 10 true (.tmp 5), none⟩, [], 0⟩,
 ⟨3, ⟨(some 69), .move (.tmp 8), none⟩, [], 0⟩,
 ⟨4, ⟨(some 70), .call 25 [(.tmp 68), (.tmp 69)], none⟩, [2, 3, 1, 0], 0⟩,
 ⟨5, ⟨(some 71), .call 23 [(.tmp 67), (.tmp 70)], none⟩, [1, 0, 4, 2, 3], 0⟩,
 ⟨6, ⟨(some 72), .un .not (.tmp 71), none⟩, [5, 1, 0, 4, 2, 3], 0⟩,
 ⟨7, ⟨(some 73), .move (.tmp 72), none⟩, [6, 5, 1, 0, 4, 2, 3], 0⟩,
 ⟨8, ⟨(some 74), .move (.tmp 7), (some (73, false))⟩, [7, 6, 5, 1, 0, 4, 2, 3], 0⟩,
 ⟨9, ⟨(some 75), .call 18 [(.tmp 74)], (some (73, false))⟩, [8, 7, 6, 5, 1, 0, 4, 2, 3], 0⟩,
 ⟨10, ⟨(some 76), .load 10 true (.tmp 5), (some (73, false))⟩, [7, 6, 5, 1, 0, 4, 2, 3], 0⟩,
 ⟨11, ⟨(some 77), .move (.tmp 8), (some (73, false))⟩, [7, 6, 5, 1, 0, 4, 2, 3], 0⟩,
 ⟨12, ⟨(some 78), .call 26 [(.tmp 76), (.tmp 77)], (some (73, false))⟩, [10, 7, 6, 5, 1, 0, 4, 2, 3, 11, 9, 8], 0⟩,
 ⟨13, ⟨(some 79), .call 10 [(.tmp 75), (.tmp 78)], (some (73, false))⟩, [9, 8, 7, 6, 5, 1, 0, 4, 2, 3, 12, 10, 11], 0⟩,
 ⟨14, ⟨(some 80), .un .not (.tmp 79), (some (73, false))⟩, [13, 9, 8, 7, 6, 5, 1, 0, 4, 2, 3, 12, 10, 11], 0⟩,
 ⟨15, ⟨(some 81), .pick (.tmp 73) (.const (.bool true)) (.tmp 80), none⟩, [7, 6, 5, 1, 0, 4, 2, 3, 14, 13, 9, 8, 12, 10, 11], 0⟩])
 (.cond (.tmp 81)
 (.seq
 (.ops [
 ⟨(some 4), .move (.const (.bool false)), none⟩])
 .ret)
 .skip)) := rfl
def d12 : NCode := (.seq
 (.ops [
 ⟨(some 34), .move (.tmp 6), none⟩,
 ⟨(some 35), .move (.tmp 8), none⟩,
 ⟨(some 36), .lenSl (.tmp 35), none⟩,
 ⟨(some 37), .call 20 [(.tmp 34), (.tmp 36)], none⟩,
 ⟨(some 10), .move (.tmp 37), none⟩])
 (.seq
 (.ops [
 ⟨(some 38), .move (.tmp 7), none⟩,
 ⟨(some 39), .move (.tmp 8), none⟩,
 ⟨(some 40), .move (.tmp 10), none⟩,
 ⟨(some 41), .idxSl (.tmp 39) (.tmp 40) 5, none⟩,
 ⟨(some 42), .load 5 true (.tmp 41), none⟩,
 ⟨(some 43), .call 21 [(.tmp 38), (.tmp 42)], none⟩])
 (.draw 1 [
 ⟨0, ⟨(some 44), .bslice 0 [] [], none⟩, [], 0⟩,
 ⟨1, ⟨(some 45), .move (.tmp 8), none⟩, [], 1⟩,
 ⟨2, ⟨(some 46), .move (.tmp 10), none⟩, [], 1⟩,
 ⟨3, ⟨(some 47), .slice (.tmp 45) none (some (.tmp 46)) none 5, none⟩, [1, 2], 1⟩,
 ⟨4, ⟨(some 48), .append 5 72 (.tmp 44) (.tmp 47), none⟩, [0, 3, 1, 2], 1⟩,
 ⟨5, ⟨(some 49), .move (.tmp 8), none⟩, [], 1⟩,
 ⟨6, ⟨(some 50), .move (.tmp 10), none⟩, [], 1⟩,
 ⟨7, ⟨(some 51), .bin .add (.tmp 50) (.const (.int .i64 1)), none⟩, [6], 1⟩,
 ⟨8, ⟨(some 52), .slice (.tmp 49) (some (.tmp 51)) none none 5, none⟩, [5, 7, 6], 1⟩,
 ⟨9, ⟨(some 53), .append 5 72 (.tmp 48) (.tmp 52), none⟩, [4, 0, 3, 1, 2, 8, 5, 7, 6], 1⟩,
 ⟨10, ⟨(some 8), .move (.tmp 53), none⟩, [9, 4, 0, 3, 1, 2, 8, 5, 7, 6], 1⟩])))
theorem d12_eq : d12 = (.seq
 (.ops [
 ⟨(some 34), .move (.tmp 6), none⟩,
 ⟨(some 35), .move (.tmp 8), none⟩,
 ⟨(some 36), .lenSl (.tmp 35), none⟩,
 ⟨(some 37), .call 20 [(.tmp 34), (.tmp 36)], none⟩,
 ⟨(some 10), .move (.tmp 37), none⟩])
 (.seq
 (.ops [
 ⟨(some 38), .move (.tmp 7), none⟩,
 ⟨(some 39), .move (.tmp 8), none⟩,
 ⟨(some 40), .move (.tmp 10), none⟩,
 ⟨(some 41), .idxSl (.tmp 39) (.tmp 40) 5, none⟩,
 ⟨(some 42), .load 5 true (.tmp 41), none⟩,
 ⟨(some 43), .call 21 [(.tmp 38), (.tmp 42)], none⟩])
 (.draw 1 [
 ⟨0, ⟨(some 44), .bslice 0 [] [], none⟩, [], 0⟩,
 ⟨1, ⟨(some 45), .move (.tmp 8), none⟩, [], 1⟩,
 ⟨2, ⟨(some 46), .move (.tmp 10), none⟩, [], 1⟩,
 ⟨3, ⟨(some 47), .slice (.tmp 45) none (some (.tmp 46)) none 5, none⟩, [1, 2], 1⟩,
 ⟨4, ⟨(some 48), .append 5 72 (.tmp 44) (.tmp 47), none⟩, [0, 3, 1, 2], 1⟩,
 ⟨5, ⟨(some 49), .move (.tmp 8), none⟩, [], 1⟩,
 ⟨6, ⟨(some 50), .move (.tmp 10), none⟩, [], 1⟩,
 ⟨7, ⟨(some 51), .bin .add (.tmp 50) (.const (.int .i64 1)), none⟩, [6], 1⟩,
 ⟨8, ⟨(some 52), .slice (.tmp 49) (some (.tmp 51)) none none 5, none⟩, [5, 7, 6], 1⟩,
 ⟨9, ⟨(some 53), .append 5 72 (.tmp 48) (.tmp 52), none⟩, [4, 0, 3, 1, 2, 8, 5, 7, 6], 1⟩,
 ⟨10, ⟨(some 8), .move (.tmp 53), none⟩, [9, 4, 0, 3, 1, 2, 8, 5, 7, 6], 1⟩]))) := rfl
def d13 : NCode := (.seq
 (.draw 1 [
 ⟨0, ⟨(some 54), .move (.tmp 6), none⟩, [], 0⟩,
 ⟨1, ⟨(some 55), .load 10 true (.tmp 5), none⟩, [], 0⟩,
 ⟨2, ⟨(some 56), .move (.tmp 6), none⟩, [], 0⟩,
 ⟨3, ⟨(some 57), .call 20 [(.tmp 56), (.const (.int .i64 4))], none⟩, [2], 0⟩,
 ⟨4, ⟨(some 58), .call 22 [(.tmp 54), (.tmp 55), (.tmp 57)], none⟩, [0, 1, 3, 2], 0⟩,
 ⟨5, ⟨(some 11), .alloc [(.int .i64 0), (.slice none 0 (.fix 0)), (.int .i64 0), (.int .i64 0), (.slice none 0 (.fix 0))], none⟩, [], 0⟩,
 ⟨6, ⟨none, .store 5 (.tmp 11) (.tmp 58), none⟩, [5, 4, 0, 1, 3, 2], 1⟩])
 (.seq
 (.ops [
 ⟨(some 59), .move (.tmp 7), none⟩,
 ⟨(some 60), .load 5 true (.tmp 11), none⟩,
 ⟨(some 61), .call 17 [(.tmp 59), (.tmp 60)], none⟩])
 (.ops [
 ⟨(some 62), .move (.tmp 8), none⟩,
 ⟨(some 63), .load 5 true (.tmp 11), none⟩,
 ⟨(some 64), .bslice 1 [(.int .i64 0), (.slice none 0 (.fix 0)), (.int .i64 0), (.int .i64 0), (.slice none 0 (.fix 0))] [(0, 5, (.tmp 63))], none⟩,
 ⟨(some 65), .append 5 72 (.tmp 62) (.tmp 64), none⟩,
 ⟨(some 8), .move (.tmp 65), none⟩])))
theorem d13_eq : d13 = (.seq
 (.draw 1 [
 ⟨0, ⟨(some 54), .move (.tmp 6), none⟩, [], 0⟩,
 ⟨1, ⟨(some 55), .load 10 true (.tmp 5), none⟩, [], 0⟩,
 ⟨2, ⟨(some 56), .move (.tmp 6), none⟩, [], 0⟩,
 ⟨3, ⟨(some 57), .call 20 [(.tmp 56), (.const (.int .i64 4))], none⟩, [2], 0⟩,
 ⟨4, ⟨(some 58), .call 22 [(.tmp 54), (.tmp 55), (.tmp 57)], none⟩, [0, 1, 3, 2], 0⟩,
 ⟨5, ⟨(some 11), .alloc [(.int .i64 0), (.slice none 0 (.fix 0)), (.int .i64 0), (.int .i64 0), (.slice none 0 (.fix 0))], none⟩, [], 0⟩,
 ⟨6, ⟨none, .store 5 (.tmp 11) (.tmp 58), none⟩, [5, 4, 0, 1, 3, 2], 1⟩])
 (.seq
 (.ops [
 ⟨(some 59), .move (.tmp 7), none⟩,
 ⟨(some 60), .load 5 true (.tmp 11), none⟩,
 ⟨(some 61), .call 17 [(.tmp 59), (.tmp 60)], none⟩])
 (.ops [
 ⟨(some 62), .move (.tmp 8), none⟩,
 ⟨(some 63), .load 5 true (.tmp 11), none⟩,
 ⟨(some 64), .bslice 1 [(.int .i64 0), (.slice none 0 (.fix 0)), (.int .i64 0), (.int .i64 0), (.slice none 0 (.fix 0))] [(0, 5, (.tmp 63))], none⟩,
 ⟨(some 65), .append 5 72 (.tmp 62) (.tmp 64), none⟩,
 ⟨(some 8), .move (.tmp 65), none⟩]))) := rfl
def d10 : NCode := (.seq
 (.ops [
 ⟨(some 26), .move (.tmp 8), none⟩,
 ⟨(some 27), .lenSl (.tmp 26), none⟩,
 ⟨(some 28), .bin .gtr (.tmp 27) (.const (.int .i64 0)), none⟩,
 ⟨(some 29), .move (.tmp 28), none⟩,
 ⟨(some 30), .move (.tmp 6), (some (29, true))⟩,
 ⟨(some 31), .call 20 [(.tmp 30), (.const (.int .i64 3))], (some (29, true))⟩,
 ⟨(some 32), .bin .eql (.tmp 31) (.const (.int .i64 0)), (some (29, true))⟩,
 ⟨(some 33), .pick (.tmp 29) (.tmp 32) (.const (.bool false)), none⟩])
 (.cond (.tmp 33)
 d12
 d13))
theorem d10_eq : d10 = (.seq
 (.ops [
 ⟨(some 26), .move (.tmp 8), none⟩,
 ⟨(some 27), .lenSl (.tmp 26), none⟩,
 ⟨(some 28), .bin .gtr (.tmp 27) (.const (.int .i64 0)), none⟩,
 ⟨(some 29), .move (.tmp 28), none⟩,
 ⟨(some 30), .move (.tmp 6), (some (29, true))⟩,
 ⟨(some 31), .call 20 [(.tmp 30), (.const (.int .i64 3))], (some (29, true))⟩,
 ⟨(some 32), .bin .eql (.tmp 31) (.const (.int .i64 0)), (some (29, true))⟩,
 ⟨(some 33), .pick (.tmp 29) (.tmp 32) (.const (.bool false)), none⟩])
 (.cond (.tmp 33)
 d12
 d13)) := rfl
theorem d10_code : d10 = (.seq
 (.ops [
 ⟨(some 26), .move (.tmp 8), none⟩,
 ⟨(some 27), .lenSl (.tmp 26), none⟩,
 ⟨(some 28), .bin .gtr (.tmp 27) (.const (.int .i64 0)), none⟩,
 ⟨(some 29), .move (.tmp 28), none⟩,
 ⟨(some 30), .move (.tmp 6), (some (29, true))⟩,
 ⟨(some 31), .call 20 [(.tmp 30), (.const (.int .i64 3))], (some (29, true))⟩,
 ⟨(some 32), .bin .eql (.tmp 31) (.const (.int .i64 0)), (some (29, true))⟩,
 ⟨(some 33), .pick (.tmp 29) (.tmp 32) (.const (.bool false)), none⟩])
 (.cond (.tmp 33)
 (.seq
 (.ops [
 ⟨(some 34), .move (.tmp 6), none⟩,
 ⟨(some 35), .move (.tmp 8), none⟩,
 ⟨(some 36), .lenSl (.tmp 35), none⟩,
 ⟨(some 37), .call 20 [(.tmp 34), (.tmp 36)], none⟩,
 ⟨(some 10), .move (.tmp 37), none⟩])
 (.seq
 (.ops [
 ⟨(some 38), .move (.tmp 7), none⟩,
 ⟨(some 39), .move (.tmp 8), none⟩,
 ⟨(some 40), .move (.tmp 10), none⟩,
 ⟨(some 41), .idxSl (.tmp 39) (.tmp 40) 5, none⟩,
 ⟨(some 42), .load 5 true (.tmp 41), none⟩,
 ⟨(some 43), .call 21 [(.tmp 38), (.tmp 42)], none⟩])
 (.draw 1 [
 ⟨0, ⟨(some 44), .bslice 0 [] [], none⟩, [], 0⟩,
 ⟨1, ⟨(some 45), .move (.tmp 8), none⟩, [], 1⟩,
 ⟨2, ⟨(some 46), .move (.tmp 10), none⟩, [], 1⟩,
 ⟨3, ⟨(some 47), .slice (.tmp 45) none (some (.tmp 46)) none 5, none⟩, [1, 2], 1⟩,
 ⟨4, ⟨(some 48), .append 5 72 (.tmp 44) (.tmp 47), none⟩, [0, 3, 1, 2], 1⟩,
 ⟨5, ⟨(some 49), .move (.tmp 8), none⟩, [], 1⟩,
 ⟨6, ⟨(some 50), .move (.tmp 10), none⟩, [], 1⟩,
 ⟨7, ⟨(some 51), .bin .add (.tmp 50) (.const (.int .i64 1)), none⟩, [6], 1⟩,
 ⟨8, ⟨(some 52), .slice (.tmp 49) (some (.tmp 51)) none none 5, none⟩, [5, 7, 6], 1⟩,
 ⟨9, ⟨(some 53), .append 5 72 (.tmp 48) (.tmp 52), none⟩, [4, 0, 3, 1, 2, 8, 5, 7, 6], 1⟩,
 ⟨10, ⟨(some 8), .move (.tmp 53), none⟩, [9, 4, 0, 3, 1, 2, 8, 5, 7, 6], 1⟩])))
 (.seq
 (.draw 1 [
 ⟨0, ⟨(some 54), .move (.tmp 6), none⟩, [], 0⟩,
 ⟨1, ⟨(some 55), .load 10 true (.tmp 5), none⟩, [], 0⟩,
 ⟨2, ⟨(some 56), .move (.tmp 6), none⟩, [], 0⟩,
 ⟨3, ⟨(some 57), .call 20 [(.tmp 56), (.const (.int .i64 4))], none⟩, [2], 0⟩,
 ⟨4, ⟨(some 58), .call 22 [(.tmp 54), (.tmp 55), (.tmp 57)], none⟩, [0, 1, 3, 2], 0⟩,
 ⟨5, ⟨(some 11), .alloc [(.int .i64 0), (.slice none 0 (.fix 0)), (.int .i64 0), (.int .i64 0), (.slice none 0 (.fix 0))], none⟩, [], 0⟩,
 ⟨6, ⟨none, .store 5 (.tmp 11) (.tmp 58), none⟩, [5, 4, 0, 1, 3, 2], 1⟩])
 (.seq
 (.ops [
 ⟨(some 59), .move (.tmp 7), none⟩,
 ⟨(some 60), .load 5 true (.tmp 11), none⟩,
 ⟨(some 61), .call 17 [(.tmp 59), (.tmp 60)], none⟩])
 (.ops [
 ⟨(some 62), .move (.tmp 8), none⟩,
 ⟨(some 63), .load 5 true (.tmp 11), none⟩,
 ⟨(some 64), .bslice 1 [(.int .i64 0), (.slice none 0 (.fix 0)), (.int .i64 0), (.int .i64 0), (.slice none 0 (.fix 0))] [(0, 5, (.tmp 63))], none⟩,
 ⟨(some 65), .append 5 72 (.tmp 62) (.tmp 64), none⟩,
 ⟨(some 8), .move (.tmp 65), none⟩]))))) := rfl

theorem sum_list {T : TK → Int × Int} {a b : Int} (hab : a = 1 ∧ b = 0 ∨ a = 0 ∧ b = 1) (hT : ∀ k, 0 ≤ (T k).1 ∧ 0 ≤ (T k).2) (ts : List TK) {L : List (TK × (Int × Int))} (hs : SortedK ltK L) (hr : RepT L T) : ∀ j, j ≤ ts.length → ∃ L', SortedK ltK L' ∧ RepT L' (sumT T (ts.take j) (a, b)) ∧ L'.length ≤ L.length + j
  | 0, _ => ⟨L, hs, by rw [List.take_zero, sumT_nil]; exact hr, by omega⟩
  | j + 1, hj => by
    obtain ⟨L', h1, h2, h3⟩ := sum_list hab hT ts hs hr j (by omega)
    have htk : ts.take (j + 1) = ts.take j ++ [ts[j]] := by rw [List.take_add_one, List.getElem?_eq_getElem (by omega)]; rfl
    have h0 := hT ts[j]
    have hc : (0 : Int) ≤ ((ts.take j).count ts[j] : Nat) := by omega
    obtain ⟨p1, p2⟩ := putK_spec h1 h2 ts[j] (a, b) (fun e => by
      have e1 := (Prod.mk.inj e).1
      have e2 := (Prod.mk.inj e).2
      unfold sumT at e1 e2
      simp only at e1 e2
      rcases hab with ⟨rfl, rfl⟩ | ⟨rfl, rfl⟩ <;> omega)
    rw [← sumT_snoc, ← htk] at p2
    have p3 := putK_length L' ts[j] (a, b)
    exact ⟨_, p1, p2, by omega⟩
theorem acc_list {R : List Rf} (hR : R.length ≤ 10) (h3 : ∀ e, (needsL R e).length ≤ 3) (h1 : ∀ e, (provL R e).length ≤ 1) : ∀ es : List En, ∃ L, SortedK ltK L ∧ RepT L (accT R es) ∧ L.length ≤ 4 * es.length
  | [] => ⟨[], List.Pairwise.nil, RepT.nil fun _ => rfl, by simp⟩
  | e :: es => by
    obtain ⟨L, q1, q2, q3⟩ := acc_list hR h3 h1 es
    have hb := accT_bound R hR es
    have hnl : (needsK R e).length ≤ 3 := by unfold needsK; rw [List.length_map]; exact h3 e
    have hpl : (provK R e).length ≤ 1 := by unfold provK; rw [List.length_map]; exact h1 e
    obtain ⟨L1, a1, a2, a3⟩ := sum_list (a := 1) (b := 0) (by omega) (fun k => ⟨(hb k).1, (hb k).2.2.1⟩) (needsK R e) q1 q2 _ (Nat.le_refl _)
    rw [List.take_of_length_le (Nat.le_refl _)] at a2
    obtain ⟨L2, b1, b2, b3⟩ := sum_list (a := 0) (b := 1) (by omega) (fun k => by
      have := hb k
      have hc : (0 : Int) ≤ ((needsK R e).count k : Nat) := by omega
      unfold sumT
      simp only
      omega) (provK R e) a1 a2 _ (Nat.le_refl _)
    rw [List.take_of_length_le (Nat.le_refl _)] at b2
    refine ⟨L2, b1, ?_, by simp only [List.length_cons]; omega⟩
    have e1 : accT R (e :: es) = accT R (es ++ [e]) := accT_perm (List.perm_append_comm (l₁ := [e]) (l₂ := es))
    rw [e1, accT_snoc]
    exact b2
theorem map_len {R : List Rf} (hR : R.length ≤ 10) (h3 : ∀ e, (needsL R e).length ≤ 3) (h1 : ∀ e, (provL R e).length ≤ 1) {es : List En} {M : List (TK × (Int × Int))} (r : RepT M (accT R es)) : ∃ L, SortedK ltK L ∧ L.Perm M ∧ RepT L (accT R es) ∧ M.length ≤ 4 * es.length := by
  obtain ⟨L, q1, q2, q3⟩ := acc_list hR h3 h1 es
  obtain ⟨L', p1, p2⟩ := sortedK_ex ltK_ord M r.nd
  have e : L' = L := RepT.same r q2 p1 q1 p2 (List.Perm.refl _)
  rw [e] at p2
  exact ⟨L, q1, p2, q2, by rw [← p2.length_eq]; exact q3⟩
/-- An entry taken out. -/
theorem accT_out (R : List Rf) (es : List En) (j : Nat) (hj : j < es.length) : entT (accT R es) R es[j] (-1) = accT R (es.take j ++ es.drop (j + 1)) := by
  have p : es.Perm (es[j] :: (es.take j ++ es.drop (j + 1))) := by
    have e : es = es.take j ++ es[j] :: es.drop (j + 1) := by rw [List.getElem_cons_drop, List.take_append_drop]
    conv => lhs; rw [e]
    exact List.perm_middle
  rw [accT_perm p, accT_drop]

/-- The list of entries as it lies in a heap. -/
structure RowsSt (G : Heap) (N : Nat) (t : TP) (rows : List (List NV)) (es : List En) (v : NV) : Prop where
  len : rows.length = es.length
  gr : GrW G N rows.flatten 5 v
  row : ∀ j (h1 : j < rows.length) (h2 : j < es.length), EnAt G N rows[j] es[j] ∧ EnOK t es[j] ∧ EnSep rows[j] v
theorem RowsSt.r5 {G : Heap} {N : Nat} {t : TP} {rows : List (List NV)} {es : List En} {v : NV} (x : RowsSt G N t rows es v) : ∀ r ∈ rows, r.length = 5 := by
  intro r hr
  obtain ⟨i, hi, rfl⟩ := List.getElem_of_mem hr
  exact (x.row i hi (by rw [← x.len]; exact hi)).1.length
theorem RowsSt.shape {G : Heap} {N : Nat} {t : TP} {rows : List (List NV)} {es : List En} {v : NV} (x : RowsSt G N t rows es v) : ∃ oa oc, v = .slice oa rows.length oc ∧ (rows.length = 0 → oc = .fix 0) ∧ (0 < rows.length → oc = .opn 5 ∧ ∃ b, oa = some (b, 0) ∧ N ≤ b ∧ hget G b = some (.cells rows.flatten false)) ∧ RowsAt G N rows es oa := by
  obtain ⟨A, c, h1, h2, h3⟩ := x.gr.shape (by omega) (flat5 x.r5)
  exact ⟨A, c, h1, h2, h3, x.len, x.r5, fun h0 => by obtain ⟨_, b, e1, _, e2⟩ := h3 h0; exact ⟨b, e1, e2⟩, fun i h1 h2 => (x.row i h1 h2).1⟩
theorem RowsSt.ok {G : Heap} {N : Nat} {t : TP} {rows : List (List NV)} {es : List En} {v : NV} (x : RowsSt G N t rows es v) : (∀ e ∈ es, EnU e) ∧ ∀ e ∈ es, ∀ r ∈ refsOf t, RfOK r e := by
  constructor
  · intro e he
    obtain ⟨i, hi, rfl⟩ := List.getElem_of_mem he
    obtain ⟨_, _, _, _, _, _, h1, h2⟩ := (x.row i (by rw [x.len]; exact hi) hi).2.1
    exact ⟨h1, h2⟩
  · intro e he
    obtain ⟨i, hi, rfl⟩ := List.getElem_of_mem he
    exact refsOf_ok t es[i] (x.row i (by rw [x.len]; exact hi) hi).2.1
theorem RowsSt.keep {G h : Heap} {N : Nat} {t : TP} {rows : List (List NV)} {es : List En} {v : NV} (x : RowsSt G N t rows es v) (k : ∀ b cs ro, N ≤ b → hget G b = some (.cells cs ro) → hget h b = some (.cells cs ro)) : RowsSt h N t rows es v :=
  ⟨x.len, x.gr.keep k, fun j h1 h2 => by
    obtain ⟨⟨mv, av, e1, g1, g2⟩, b, c⟩ := x.row j h1 h2
    refine ⟨⟨mv, av, e1, ?_, ?_⟩, b, c⟩
    · rcases g1 with g | ⟨bb, n, q1, q2, q3, q4⟩
      · exact .inl g
      · exact .inr ⟨bb, n, q1, q2, k _ _ _ q2 q3, q4⟩
    · rcases g2 with g | ⟨bb, n, q1, q2, q3, q4⟩
      · exact .inl g
      · exact .inr ⟨bb, n, q1, q2, k _ _ _ q2 q3, q4⟩⟩

/-- A list grows by something. -/
theorem grw_app1 {h : Heap} {N e m bytes : Nat} {C new : List NV} {v x : NV} {K : NV → Heap → Prop} {t : Tg K} (g : GrW h N C e v) (hN : N ≤ h.length) (hx : sliceCells h e x = some new) (hm : lenOfSl x = some m) (he : 0 < e) (h0 : 0 < m) (hnew : new.length = m * e)
    (hC : C.length ≤ 1000) (hm2 : m ≤ 1000) (hb : bytes ≤ 10000)
    (k : ∀ v' h', GrW h' N (C ++ new) e v' → h.length ≤ h'.length → (∀ b, b < N → hget h' b = hget h b) → (∀ b, b < h.length → (C = [] ∨ Off b v) → hget h' b = hget h b) → (∀ b, b < h.length → Off b v') → K v' h') : optB (nappendS h e bytes v x) K t := by
  have hbm : ∀ a : Nat, a ≤ 2000 → a * bytes ≤ 140737488355328 := fun a ha => Nat.le_trans (Nat.mul_le_mul ha hb) (by omega)
  have nw : ∀ l k, ∀ b, b < h.length → Off b (NV.slice (some (h.length, 0)) l k) := by
    intro l k b hb o n c e
    cases e
    omega
  have hne : new ≠ [] := by
    intro e1
    rw [e1] at hnew
    have := Nat.mul_pos h0 he
    simp at hnew
    omega
  rcases g with ⟨rfl, A, rfl⟩ | ⟨b, l, rfl, h3, h4, h5, h6⟩
  · have kk : K (.slice (some (h.length, 0)) m (.opn e)) (h ++ [some (.cells new false)]) := k _ _ (.inr ⟨h.length, m, rfl, hN, by rw [List.nil_append]; exact hget_append_new, by rw [List.nil_append]; exact hnew, h0⟩) (by simp) (fun b hb => hget_appl (by omega)) (fun b hb _ => hget_appl hb) (fun b hb => nw _ _ b hb)
    cases A with
    | none => exact app_nil hx hm h0 ⟨hbm m (by omega), by omega⟩ kk
    | some a =>
      obtain ⟨b, o⟩ := a
      refine app_fix (old := []) hx hm (by omega) ⟨by rw [Nat.zero_add]; exact hbm m (by omega), by omega⟩ (by simp [sliceCells]) ?_
      rw [Nat.zero_add, List.nil_append]
      exact kk
  · have hl : l ≤ C.length := by rw [h5]; exact Nat.le_mul_of_pos_right l he
    have hml : (l + m) * e = C.length + new.length := by rw [Nat.add_mul, h5, hnew]
    have hpos : 0 < new.length := List.length_pos_iff.2 hne
    have hCn : C ≠ [] := by
      intro e1
      rw [e1] at h5
      have := Nat.mul_pos h6 he
      simp at h5
      omega
    refine app_grow hx hm h4 hne (by rw [hml]; omega) (by omega) ⟨hbm _ (by omega), by omega⟩ (k _ _ (.inr ⟨h.length, l + m, rfl, hN, ?_, ?_, by omega⟩) (by simp) (fun b' hb' => ?_) (fun b' hb' ho => ?_) (fun b' hb' => nw _ _ b' hb'))
    · have := hget_append_new (h := hkill h b) (o := some (NBlk.cells (List.take (l * e) (List.drop 0 C) ++ new) false))
      rw [length_hkill] at this
      rw [this, List.drop_zero, List.take_of_length_le (by omega)]
    · rw [List.length_append, hml]
    · rw [hget_appl (by rw [length_hkill]; omega), hget_hkill_ne (by omega)]
    · have : b' ≠ b := by
        rcases ho with ho | ho
        · exact absurd ho hCn
        · exact fun e => ho 0 l (.opn _) (by rw [e])
      rw [hget_appl (by rw [length_hkill]; omega), hget_hkill_ne (by omega)]

structure RcCtx (G : Heap) (q p b5 px mx n : Nat) (sl : NV) (N : Nat) (t : TP) (acs : List (List Tr)) (z0 z1 z2 z3 z4 z5 z6 z7 z8 z9 : NV) : Prop where
  qp : q ≤ p
  qm : q ≤ mx
  pG : p < G.length
  mG : mx < G.length
  sc : ∀ h, (∀ b, b < q → hget h b = hget G b) → ScV N h t acs z0 z1 z2 z3 z4 z5 z6 z7 z8 z9
  rv : ∀ h, (∀ b, b < q → hget h b = hget G b) → RfV h (refsOf t) z0 z1 z2 z3 z4 z5 z6 z7 z8 z9
  cs : ∀ h, (∀ b, b < q → hget h b = hget G b) → CodesSl h p sl n
  h5 : hget G b5 = some (.cells [z0, z1, z2, z3, z4, z5, z6, z7, z8, z9] false)
  n5 : b5 ≠ p
  m5 : b5 ≠ mx
  pm : p ≠ mx
  xp : px ≠ p
  xm : px ≠ mx
  xG : px < G.length
structure RcSt (G : Heap) (p px mx n : Nat) (sl : NV) (zs : List NV) (t : TP) (h : Heap) (es : List En) (rows : List (List NV)) (v : NV) : Prop where
  len : G.length ≤ h.length
  old : ∀ b, b < G.length → b ≠ p → b ≠ mx → hget h b = hget G b
  code : ∃ a, hget h p = some (.cells [sl, .int .i64 a] false) ∧ 0 ≤ a ∧ a ≤ (n : Int)
  cnt : ∃ M, CtAt h zs px mx M ∧ RepT M (accT (refsOf t) es)
  rows : RowsSt h G.length t rows es v
theorem RcSt.all {G : Heap} {p px mx n : Nat} {sl v : NV} {zs : List NV} {t : TP} {h h' : Heap} {es : List En} {rows : List (List NV)} (x : RcSt G p px mx n sl zs t h es rows v) (hp : p < G.length) (hx : px < G.length) (hm : mx < G.length) (hl : h.length ≤ h'.length) (k : ∀ b, b < h.length → hget h' b = hget h b) : RcSt G p px mx n sl zs t h' es rows v := by
  have l := x.len
  refine ⟨by omega, fun b hb h1 h2 => by rw [k b (by omega)]; exact x.old b hb h1 h2, ?_, ?_, x.rows.keep fun b cs ro _ hb => by rw [k b (hget_lt hb)]; exact hb⟩
  · obtain ⟨a, h1, h2⟩ := x.code
    exact ⟨a, by rw [k p (by omega)]; exact h1, h2⟩
  · obtain ⟨M, h1, h2⟩ := x.cnt
    exact ⟨M, h1.mono (k px (by omega)) (k mx (by omega)), h2⟩

set_option maxHeartbeats 2000000 in
theorem checks_ok (G : Heap) (q p b5 px mx n : Nat) (sl : NV) (N : Nat) (t : TP) (acs : List (List Tr)) (z0 z1 z2 z3 z4 z5 z6 z7 z8 z9 : NV) (c : RcCtx G q p b5 px mx n sl N t acs z0 z1 z2 z3 z4 z5 z6 z7 z8 z9)
    (h : Heap) (es : List En) (rows : List (List NV)) (oa : Option (Nat × Nat)) (oc : Cap) (st : RcSt G p px mx n sl [z0, z1, z2, z3, z4, z5, z6, z7, z8, z9] t h es rows (.slice oa rows.length oc)) (hle : es.length ≤ 24)
    (F : FF) (P6 P9 : NV) (f5 : F 5 = .ptr (some (b5, 0))) (f6 : F 6 = P6) (f7 : F 7 = .ptr (some (px, 0))) (f8 : F 8 = .slice oa rows.length oc) (f9 : F 9 = P9) :
    fwpT E0 d11 (joinK fun F h' => F 5 = .ptr (some (b5, 0)) ∧ F 6 = P6 ∧ F 7 = .ptr (some (px, 0)) ∧ F 8 = .slice oa rows.length oc ∧ F 9 = P9 ∧ h.length ≤ h'.length ∧ ∀ b, b < h.length → hget h' b = hget h b) F h .mk := by
  have lG := st.len
  have hR6 := refsOf_le6 t
  have hR : (refsOf t).length ≤ 10 := by omega
  obtain ⟨M, cx, rM⟩ := st.cnt
  obtain ⟨L, sL, pL, rL, lM⟩ := map_len hR (needs_le3 t) (prov_le1 t) rM
  have hq : ∀ h', (∀ b, b < h.length → hget h' b = hget h b) → ∀ b, b < q → hget h' b = hget G b := fun h' k b hb => by
    have := c.qp
    have := c.qm
    have := c.pG
    rw [k b (by omega)]
    exact st.old b (by omega) (by omega) (by omega)
  have l5 := hget_some_lt c.h5
  have hb5 : ∀ h', (∀ b, b < h.length → hget h' b = hget h b) → hget h' b5 = some (.cells [z0, z1, z2, z3, z4, z5, z6, z7, z8, z9] false) := fun h' k => by
    rw [k b5 (by omega), st.old b5 l5 c.n5 c.m5]; exact c.h5
  obtain ⟨oa', oc', e, _, _, xr⟩ := st.rows.shape
  cases e
  obtain ⟨hEnU, hEnR⟩ := st.rows.ok
  have hall : ∃ A1 c1 h1, NCall Try.prog 24 [.ptr (some (px, 0))] h (fun r => r = (.slice A1 L.length c1, h1)) ∧ h.length ≤ h1.length ∧ (∀ b, b < h.length → hget h1 b = hget h b) ∧ ∀ j, j < L.length → ∃ b, A1 = some (b, 0) ∧ hget h1 b = some (.cells (L.flatMap cnC) false) := by
    by_cases h0 : M = []
    · subst h0
      have hL : L = [] := by simpa using pL.length_eq
      subst hL
      exact ⟨none, .fix 0, h, call_nil h _ _ _ _ _ _ _ _ _ _ px mx cx, Nat.le_refl _, fun b _ => rfl, fun j hj => by simp at hj⟩
    · exact ⟨some (h.length, 0), .opn 6, h ++ [some (.cells (L.flatMap cnC) false)], call_some h _ _ _ _ _ _ _ _ _ _ px mx M L cx sL pL (by omega) h0, by simp, fun b hb => hget_appl hb, fun j hj => ⟨h.length, rfl, by simp (disch := first | omega | (simp only [fsLen]; omega)) only [fsPost, fsCond, fsGen]⟩⟩
  obtain ⟨A1, c1, h1, nc, l1, o1, hA1⟩ := hall
  obtain ⟨p0, p1, p2, p3, p4, p5, p6, p8, p9⟩ := (c.rv h (hq h fun b _ => rfl)).o
  have p7 : z7.one = true := by obtain ⟨b, c, _, _, rfl, _⟩ := (c.rv h (hq h fun b _ => rfl)).r; rfl
  have hb5h := hb5 h fun b _ => rfl
  have hb51 := hb5 h1 o1
  rw [d11_eq]
  simp (disch := first | omega | (simp only [fsLen]; omega)) only [↓fsPre, fsPost, fsGen, cls, Nat.reduceAdd, ↓reduceIte, f7]
  refine callDT_one nc rfl ?_
  simp (disch := first | omega | (simp only [fsLen]; omega)) only [↓fsPre, fsPost, fsGen, cls, Nat.reduceAdd, Nat.reduceEqDiff, Nat.reduceBEq, ↓reduceIte, f5, f8, hb5h]
  refine ⟨l1, ?_⟩
  refine callDT_D (rall_ok G.length h1 (refsOf t) z0 z1 z2 z3 z4 z5 z6 z7 z8 z9 (c.rv h1 (hq h1 o1)) hR rows es oa oc (xr.keepC (keepC_old o1)) hle hEnR hEnU (needs_le3 t) (prov_le1 t)) rfl ?_
  rintro v2 g1 ⟨l2, o2, ac⟩
  simp only at l2 o2 ac
  obtain ⟨hL, gL⟩ := ac.is sL rL
  obtain ⟨A2, c2, rfl, hA2⟩ := grc_shape6 gL
  have o12 : ∀ b, b < h.length → hget g1 b = hget h b := fun b hb => by rw [o2 b (by omega)]; exact o1 b hb
  have hb52 := hb5 g1 o12
  simp (disch := first | omega | (simp only [fsLen]; omega)) only [↓fsPre, fsPost, fsGen, cls, Nat.reduceEqDiff, Nat.reduceBEq, ↓reduceIte]
  refine ⟨by omega, ?_⟩
  refine callDT_one (counts_ok g1 L A1 A2 c1 c2 (by omega) (fun j hj => by obtain ⟨b, e1, e2⟩ := hA1 j hj; exact ⟨b, e1, by rw [o2 b (hget_lt e2)]; exact e2⟩) (fun j hj => by obtain ⟨b, e1, _, e2⟩ := hA2 j hj; exact ⟨b, e1, e2⟩)) rfl ?_
  simp (disch := first | omega | (simp only [fsLen]; omega)) only [↓fsPre, fsPost, fsGen, fsDefX, cls, Nat.reduceEqDiff, Nat.reduceBEq, ↓reduceIte, f7]
  refine ⟨by omega, ?_⟩
  refine callDT_D (dang_ok g1 z0 z1 z2 z3 z4 z5 z6 z7 z8 z9 px mx M L (cx.mono (o12 px (hget_some_lt cx.hp)) (o12 mx cx.hm.lt)) sL pL (by omega)) rfl ?_
  rintro v3 g2 ⟨l3, o3, gd⟩
  simp only at l3 o3 gd
  have o13 : ∀ b, b < h.length → hget g2 b = hget h b := fun b hb => by rw [o3 b (by omega)]; exact o12 b hb
  have hb53 := hb5 g2 o13
  simp (disch := first | omega | (simp only [fsLen]; omega)) only [↓fsPre, fsPost, fsGen, cls, Nat.reduceAdd, Nat.reduceEqDiff, Nat.reduceBEq, ↓reduceIte, f5, f8, hb52]
  refine ⟨by omega, ?_⟩
  refine callDT_D (rdang_ok G.length g2 (refsOf t) z0 z1 z2 z3 z4 z5 z6 z7 z8 z9 (c.rv g2 (hq g2 o13)) hR rows es oa oc (xr.keepC (keepC_old o13)) hle hEnR hEnU (needs_le3 t) (prov_le1 t) L sL rL) rfl ?_
  rintro v4 g3 ⟨l4, o4, ge⟩
  simp only at l4 o4 ge
  have o14 : ∀ b, b < h.length → hget g3 b = hget h b := fun b hb => by rw [o4 b (by omega)]; exact o13 b hb
  have hb54 := hb5 g3 o14
  rw [← tkT_tC] at gd ge
  have gd3 : GrC g3 g1.length (tC ((dangK L).map tkT)) 4 v3 := grc_keepC gd (keepC_old o4)
  have hdl := dangK_le L
  simp (disch := first | omega | (simp only [fsLen]; omega)) only [↓fsPre, fsPost, fsGen, cls, Nat.reduceEqDiff, Nat.reduceBEq, ↓reduceIte]
  refine ⟨by omega, ?_⟩
  refine callDT_one (targets_ok _ _ g3 _ v3 v4 gd3 ge (by rw [List.length_map]; omega)) rfl ?_
  simp (disch := first | omega | (simp only [fsLen]; omega)) only [↓fsPre, fsPost, fsGen, fsDefs, fsDefX, cls, Nat.reduceAdd, Nat.reduceEqDiff, Nat.reduceBEq, ↓reduceIte, f5, f6, f7, f8, f9, hb51, hb53]
  exact ⟨by omega, by omega, o14⟩
end Go.Proofs
