/- Sch1, Sch2, Sch3 in one text. -/
import Derived.Test.YtimimfbiejijdaaFsI
import Derived.Test.YtimimfbiejijdaaRCBC
set_option linter.unusedSimpArgs false
set_option linter.unusedVariables false
set_option maxRecDepth 10000
namespace Go.Proofs
open Go.Ns

/-- A Codes at 'p' in a heap 'H' that came out of 'H0': all else that was there is as it was. -/
structure CodesSt (H0 H : Heap) (p n : Nat) (sl : NV) : Prop where
  len : H0.length ≤ H.length
  old : ∀ b, b < H0.length → b ≠ p → hget H b = hget H0 b
  st : ∃ a : Int, hget H p = some (.cells [sl, .int .i64 a] false) ∧ 0 ≤ a ∧ a ≤ n
  cs : CodesSl H p sl n

theorem CodesSt.ext {H0 H : Heap} {p n : Nat} {sl : NV} (h : CodesSt H0 H p n sl) : Ext (p + 1) H0 H := fun b x hb hx => by rw [h.old b (hget_lt hx) (by omega)]; exact hx
theorem CodesSt.refl {H : Heap} {p n : Nat} {sl : NV} {a : Int} (h1 : hget H p = some (.cells [sl, .int .i64 a] false)) (h2 : 0 ≤ a) (h3 : a ≤ n) (h4 : CodesSl H p sl n) : CodesSt H H p n sl := ⟨Nat.le_refl _, fun _ _ _ => rfl, ⟨a, h1, h2, h3⟩, h4⟩
theorem CodesSt.trans {H0 H1 H2 : Heap} {p n : Nat} {sl : NV} (a : CodesSt H0 H1 p n sl) (b : CodesSt H1 H2 p n sl) : CodesSt H0 H2 p n sl :=
  ⟨Nat.le_trans a.len b.len, fun c hc hp => by rw [b.old c (Nat.lt_of_lt_of_le hc a.len) hp, a.old c hc hp], b.st, b.cs⟩
theorem CodesSt.app0 {H G L : Heap} {p n : Nat} {sl : NV} (h : CodesSt H G p n sl) : CodesSt H (G ++ L) p n sl := by
  obtain ⟨h1, h2, ⟨a, h3, h4, h5⟩, h6⟩ := h
  refine ⟨by rw [List.length_append]; omega, fun b hb hne => ?_, ⟨a, by rw [hget_appl (hget_lt h3)]; exact h3, h4, h5⟩, h6.app⟩
  rw [hget_appl (by omega)]; exact h2 b hb hne
theorem CodesSt.next {H G : Heap} {p n : Nat} {sl : NV} {a : Int} (h : CodesSt H G p n sl) (ha : 0 ≤ a) (hb : a ≤ n) : CodesSt H (hset G p (.cells [sl, .int .i64 a] false)) p n sl := by
  obtain ⟨h1, h2, ⟨a', h3, h4, h5⟩, h6⟩ := h
  refine ⟨by rw [length_hset]; omega, fun b hb hne => ?_, ⟨a, hget_hset_same (hget_lt h3), ha, hb⟩, h6.set⟩
  rw [hget_hset_ne (Ne.symm hne)]; exact h2 b hb hne
theorem CodesSt.setAt {H G : Heap} {p n b : Nat} {sl : NV} {x : NBlk} (h : CodesSt H G p n sl) (h0 : CodesSl H p sl n) (hb : H.length ≤ b) (hne : b ≠ p) : CodesSt H (hset G b x) p n sl := by
  obtain ⟨h1, h2, ⟨a, h3, h4, h5⟩, h6⟩ := h
  have old : ∀ c, c < H.length → c ≠ p → hget (hset G b x) c = hget H c := fun c hc hne => by rw [hget_hset_ne (by omega)]; exact h2 c hc hne
  refine ⟨by rw [length_hset]; omega, old, ⟨a, by rw [hget_hset_ne hne]; exact h3, h4, h5⟩, ?_⟩
  rcases h0 with h | ⟨b', m, cs, ro, e1, e2, e3, e4⟩
  · exact .inl h
  · exact .inr ⟨b', m, cs, ro, e1, by rw [old _ (hget_lt e2) e3]; exact e2, e3, e4⟩
theorem CodesSt.self {H G : Heap} {p n : Nat} {sl : NV} (h : CodesSt H G p n sl) : CodesSt G G p n sl := ⟨Nat.le_refl _, fun _ _ _ => rfl, h.st, h.cs⟩
theorem CodesSt.grow {H g g' : Heap} {p n : Nat} {sl : NV} (h : CodesSt H g p n sl) (hp : p < H.length) (hs : CodesSl H p sl n) (hl : H.length ≤ g'.length) (e : ∀ b, b < H.length → hget g' b = hget g b) : CodesSt H g' p n sl := by
  obtain ⟨h1, h2, ⟨a, h3, h4, h5⟩, h6⟩ := h
  have old : ∀ c, c < H.length → c ≠ p → hget g' c = hget H c := fun c hc hne => by rw [e c hc]; exact h2 c hc hne
  refine ⟨hl, old, ⟨a, by rw [e p hp]; exact h3, h4, h5⟩, ?_⟩
  rcases hs with h | ⟨b', m, cs, ro, e1, e2, e3, e4⟩
  · exact .inl h
  · exact .inr ⟨b', m, cs, ro, e1, by rw [old _ (hget_lt e2) e3]; exact e2, e3, e4⟩
theorem CodesSt.grow2 {H g h' : Heap} {p n N c : Nat} {sl : NV} {x : NBlk} (h : CodesSt H g p n sl) (hp : p < H.length) (hs : CodesSl H p sl n) (old : ∀ b, b < N → hget h' b = hget g b) (hN : H.length ≤ N) (hl : H.length ≤ h'.length) (hc : H.length ≤ c) : CodesSt H (hset h' c x) p n sl :=
  h.grow hp hs (by rw [length_hset]; exact hl) fun b hb => by rw [hget_hset_ne (by omega)]; exact old b (by omega)
/-- What a call of Next leaves, with new blocks behind. -/
theorem CodesSt.mk' {H : Heap} {p n : Nat} {sl : NV} {a : Int} {L : Heap} (hp : p < H.length) (h2 : 0 ≤ a) (h3 : a ≤ n) (h4 : CodesSl H p sl n) : CodesSt H (hset H p (.cells [sl, .int .i64 a] false) ++ L) p n sl := by
  refine ⟨by simp, ?_, ⟨a, ?_, h2, h3⟩, h4.set.app⟩
  · intro b hb hne
    rw [hget_appl (by simpa using hb), hget_hset_ne (Ne.symm hne)]
  · rw [hget_appl (by simpa using hp), hget_hset_same hp]

def endOf (x : Int) : Int := if x = 2 then 65535 else if x = 3 then 3 else 0
theorem ends_at (x : Int) (h0 : 0 ≤ x) (h1 : x < 4) : ([NV.int .i64 0, .int .i64 0, .int .i64 65535, .int .i64 3] : List NV)[x.toNat]? = some (.int .i64 (endOf x)) := by
  have : x = 0 ∨ x = 1 ∨ x = 2 ∨ x = 3 := by omega
  rcases this with rfl | rfl | rfl | rfl <;> rfl
def EndOK (d : Int) : Prop := d = 0 ∨ d = 65535 ∨ d = 3
theorem endOf_ok (x : Int) : EndOK (endOf x) := by unfold endOf EndOK; split <;> (try split) <;> omega

def baseCases : List (List Tr) := [[tu 0, tu 1, tu 0, tu 15, ti 2], [tu 0, tu 2, tu 0, tu 3, ti 3]]
def StatesOK (rows : List (List Tr)) : Prop :=
  ∃ d1 d2 c1 c3, rows = [[ti 1, ti 1, ti 4, .rows 5 c1, ti d1], [ti 2, ti 2, ti 0, .rows 5 [], ti d2], [ti 3, ti 3, ti 9, .rows 5 c3, ti 0]] ∧ EndOK d1 ∧ EndOK d2 ∧
    (c1 = baseCases ∨ ∃ v d, c1 = baseCases ++ [[tu 0, tu v, tu 0, tu 8, ti d]] ∧ (v = 0 ∨ v = 8) ∧ EndOK d) ∧ (c3 = [] ∨ ∃ d, c3 = [[tu 0, tu 5, tu 0, tu 15, ti d]] ∧ 1 ≤ d ∧ d ≤ 3)

def statesQ (H : Heap) (p n : Nat) (sl : NV) (q : NV × Heap) : Prop := ∃ rows, (Tr.rows 5 rows).rep H.length q.2 q.1 ∧ StatesOK rows ∧ CodesSt H q.2 p n sl

theorem states_ok (H : Heap) (p n : Nat) (sl : NV) (hc : CodesSt H H p n sl) : DCall Try.prog 42 [.ptr (some (p, 0))] H (statesQ H p n sl) := by
  obtain ⟨_, _, ⟨a0, hp, hb0, hb1⟩, hs⟩ := hc
  have hpl := hget_some_lt hp
  refine call_det E0 rfl mixed t42_ok (by kernel_rfl) (by rintro q ⟨_, _, _, h⟩; exact h.len) ?_
  simp only [t42]
  simp (disch := first | omega | (simp only [fsLen]; omega)) only [↓fsPre, fsPost, fsGen, fsDefs, reduceCtorEq, Nat.reduceAdd, Nat.reduceLeDiff, ↓reduceIte]
  refine callT_D (next_ok _ p n 4 sl a0 (by simp (disch := first | omega | (simp only [fsLen]; omega)) only [fsCond, hp]) hs.app hb0 hb1 (by omega) (by omega)) rfl ?_
  rintro v h' ⟨x1, a1, e, x1a, x1b, hb0, hb1⟩
  cases e
  have hends := ends_at x1 x1a x1b
  simp (disch := first | omega | (simp only [fsLen]; omega)) only [↓fsPre, fsPost, fsCond, fsGen, fsDefs, reduceCtorEq, Nat.reduceAdd, Nat.reduceLeDiff, Nat.reduceEqDiff, ↓reduceIte, hends]
  refine callT_D (bool_ok _ p n sl a1 (by simp (disch := first | omega | (simp only [fsLen]; omega)) only [fsCond]) hs.set.app hb0 hb1) rfl ?_
  rintro v h' ⟨y1, a2, e, hb0, hb1⟩
  cases e
  simp (disch := first | omega | (simp only [fsLen]; omega)) only [↓fsPre, ↓reduceIte]
  refine condK_join (fun F g => F 0 = .ptr (some (p, 0)) ∧ F 3 = .slice (some (H.length, 0)) 4 (.fix 4) ∧ F 4 = .ptr (some (H.length + 1, 0)) ∧ H.length + 3 ≤ g.length ∧ CodesSt H g p n sl ∧
      hget g H.length = some (.cells [.int .i64 0, .int .i64 0, .int .i64 65535, .int .i64 3] false) ∧ ∃ c1 vc, hget g (H.length + 1) = some (.cells [.int .i64 1, .int .i64 1, .int .i64 4, vc, .int .i64 (endOf x1)] false) ∧ (Tr.rows 5 c1).rep H.length g vc ∧
      (c1 = baseCases ∨ ∃ v d, c1 = baseCases ++ [[tu 0, tu v, tu 0, tu 8, ti d]] ∧ (v = 0 ∨ v = 8) ∧ EndOK d)) ?_ ?_ ?_
  · intro hy
    simp (disch := first | omega | (simp only [fsLen]; omega)) only [↓fsPre, fsPost, fsCond, fsGen, fsDefs, cls, reduceCtorEq, Nat.reduceAdd, Nat.reduceEqDiff, ↓reduceIte]
    refine callDT_D (next_ok _ p n 2 sl a2 (by simp (disch := first | omega | (simp only [fsLen]; omega)) only [fsCond]) hs.set.app hb0 hb1 (by omega) (by omega)) rfl ?_
    rintro v h' ⟨x2, a3, e, x2a, x2b, hb0, hb1⟩
    cases e
    simp (disch := first | omega | (simp only [fsLen]; omega)) only [↓fsPre, fsPost, fsCond, fsGen, fsDefs, fsDefX, cls, reduceCtorEq, Nat.reduceAdd, Nat.reduceEqDiff, Nat.reduceBEq, ↓reduceIte]
    refine callDT_D (next_ok _ p n 4 sl a3 (by simp (disch := first | omega | (simp only [fsLen]; omega)) only [fsCond]) hs.set.app hb0 hb1 (by omega) (by omega)) rfl ?_
    rintro v h' ⟨x3, a4, e, x3a, x3b, hb0, hb1⟩
    cases e
    have hends := ends_at x3 x3a x3b
    simp (disch := first | omega | (simp only [fsLen]; omega)) only [↓fsPre, fsPost, fsCond, fsGen, fsDefs, cls, Nat.reduceAdd, Nat.reduceLeDiff, Nat.reduceEqDiff, Nat.reduceBEq, ↓reduceIte, hends]
    refine app_fix (sliceCells_at (by simp (disch := first | omega | (simp only [fsLen]; omega)) only [fsPost, fsCond, fsGen] <;> rfl) rfl) rfl (by omega) ⟨by omega, by omega⟩ (sliceCells_at (by simp (disch := first | omega | (simp only [fsLen]; omega)) only [fsPost, fsCond, fsGen] <;> rfl) rfl) ?_
    simp (disch := first | omega | (simp only [fsLen]; omega)) only [↓fsPre, fsPost, fsCond, fsGen, fsDefs, cls, reduceCtorEq, Nat.reduceAdd, Nat.reduceMul, Nat.reduceLeDiff, Nat.reduceEqDiff, Nat.reduceBEq, ↓reduceIte]
    refine ⟨CodesSt.mk' hpl hb0 hb1 hs, baseCases ++ [[tu 0, tu (8 * x2), tu 0, tu 8, ti (endOf x3)]], _, rfl, ?_, .inr ⟨_, _, rfl, by omega, endOf_ok _⟩⟩
    simp (disch := first | omega | (simp only [fsLen]; omega)) only [fsPost, fsCond, fsGen, Nat.reduceAdd, Nat.reduceLeDiff, Tr.rep_sl, Tr.repB_cells, Tr.repFlat_nil, Tr.repFlat_cons, Tr.repCells_nil, Tr.repCells_cons, rep_ti, rep_tu, baseCases]
  · intro hy
    simp (disch := first | omega | (simp only [fsLen]; omega)) only [↓fsPre, fsPost, fsCond, fsGen, reduceCtorEq, Nat.reduceAdd, Nat.reduceEqDiff, ↓reduceIte]
    refine ⟨CodesSt.mk' hpl hb0 hb1 hs, baseCases, _, rfl, ?_, .inl rfl⟩
    simp (disch := first | omega | (simp only [fsLen]; omega)) only [fsPost, fsCond, fsGen, Nat.reduceAdd, Nat.reduceLeDiff, Tr.rep_sl, Tr.repB_cells, Tr.repFlat_nil, Tr.repFlat_cons, Tr.repCells_nil, Tr.repCells_cons, rep_ti, rep_tu, baseCases]
  · rintro F g ⟨f0, f3, f4, len, st, he, c1, vc, hv, hrep, hc1⟩
    have st' := st
    obtain ⟨l1, o1, ⟨a5, hp5, hb0, hb1⟩, hs5⟩ := st
    have hpg := hget_some_lt hp5
    have hne1 : H.length ≠ p := by omega
    have hne2 : H.length + 1 ≠ p := by omega
    simp (disch := first | omega | (simp only [fsLen]; omega)) only [↓fsPre, fsPost, fsGen, reduceCtorEq, ↓reduceIte, f0, f3]
    refine callT_D (next_ok _ p n 4 sl a5 hp5 hs5 hb0 hb1 (by omega) (by omega)) rfl ?_
    rintro v h' ⟨x4, a6, e, x4a, x4b, hb0, hb1⟩
    cases e
    have hends4 := ends_at x4 x4a x4b
    have hv1 := Tr.rep_one hrep
    simp (disch := first | omega | (simp only [fsLen]; omega)) only [↓fsPre, fsPost, fsCond, fsGen, fsDefs, reduceCtorEq, Nat.reduceAdd, Nat.reduceLeDiff, Nat.reduceEqDiff, ↓reduceIte, he, hends4, f0]
    refine callT_D (next_ok _ p n 3 sl a6 (by simp (disch := first | omega | (simp only [fsLen]; omega)) only [fsCond]) hs5.set.app hb0 hb1 (by omega) (by omega)) rfl ?_
    rintro v h' ⟨x5, a7, e, x5a, x5b, hb0, hb1⟩
    cases e
    simp (disch := first | omega | (simp only [fsLen]; omega)) only [↓fsPre, fsPost, fsDefX, ↓reduceIte]
    refine condK_dec (fun hy => ?_) (fun hy => ?_)
    · simp (disch := first | omega | (simp only [fsLen]; omega)) only [↓fsPre, fsPost, fsGen, fsDefs, reduceCtorEq, Nat.reduceAdd, ↓reduceIte, f0]
      refine callT_D (next_ok _ p n 3 sl a7 (by simp (disch := first | omega | (simp only [fsLen]; omega)) only [fsPost, fsCond]) hs5.set.app.set hb0 hb1 (by omega) (by omega)) rfl ?_
      rintro v h' ⟨x6, a8, e, x6a, x6b, hb0, hb1⟩
      cases e
      simp (disch := first | omega | (simp only [fsLen]; omega)) only [↓fsPre, fsPost, fsCond, fsGen, fsDefs, fsDefX, Nat.reduceAdd, Nat.reduceLeDiff, Nat.reduceEqDiff, ↓reduceIte, f4, hv, hv1]
      refine ⟨[[ti 1, ti 1, ti 4, .rows 5 c1, ti (endOf x1)], [ti 2, ti 2, ti 0, .rows 5 [], ti (endOf x4)], [ti 3, ti 3, ti 9, .rows 5 [[tu 0, tu 5, tu 0, tu 15, ti (1 + x6)]], ti 0]], ?_, ⟨_, _, _, _, rfl, endOf_ok _, endOf_ok _, hc1, .inr ⟨_, rfl, by omega, by omega⟩⟩, st'.trans (CodesSt.mk' hpg hb0 hb1 hs5)⟩
      have hrep' := fun L x => Tr.rep_ext (Ext.sets (L := L) (x := x) hpl) hrep
      simp (disch := first | omega | (simp only [fsLen]; omega)) only [fsPost, fsCond, fsGen, Nat.reduceAdd, Nat.reduceLeDiff, Tr.rep_sl, Tr.rep_none, Tr.repB_cells, Tr.repFlat_nil, Tr.repFlat_cons, Tr.repCells_nil, Tr.repCells_cons, rep_ti, rep_tu, hrep']
      all_goals omega
    · simp (disch := first | omega | (simp only [fsLen]; omega)) only [↓fsPre, fsPost, fsCond, fsGen, fsDefs, Nat.reduceAdd, Nat.reduceLeDiff, Nat.reduceEqDiff, ↓reduceIte, f4, hv, hv1]
      refine ⟨[[ti 1, ti 1, ti 4, .rows 5 c1, ti (endOf x1)], [ti 2, ti 2, ti 0, .rows 5 [], ti (endOf x4)], [ti 3, ti 3, ti 9, .rows 5 [], ti 0]], ?_, ⟨_, _, _, _, rfl, endOf_ok _, endOf_ok _, hc1, .inl rfl⟩, st'.trans (CodesSt.mk' hpg hb0 hb1 hs5)⟩
      have hrep' := fun L x => Tr.rep_ext (Ext.sets (L := L) (x := x) hpl) hrep
      simp (disch := first | omega | (simp only [fsLen]; omega)) only [fsPost, fsCond, fsGen, fsDefs, Nat.reduceAdd, Nat.reduceLeDiff, Tr.rep_sl, Tr.rep_none, Tr.repB_cells, Tr.repFlat_nil, Tr.repFlat_cons, Tr.repCells_nil, Tr.repCells_cons, rep_ti, hrep']
      all_goals omega

def acts (s2 s4 : ByteArray) (d c : Int) : List (List Tr) :=
  [[ti 1, ts ⟨#[110, 111, 112]⟩, .rows 2 [], .rows 6 [], ts ⟨#[]⟩],
    [ti 2, ts ⟨#[100, 114, 111, 112]⟩, .rows 2 [], .rows 6 [[ti 6, ti 0, ti 0, ti 0, tu 0, tu 0]], ts ⟨#[]⟩],
    [ti 3, ts ⟨#[102, 111, 114, 119, 97, 114, 100]⟩, .rows 2 [[ts ⟨#[112, 111, 114, 116]⟩, ti 16]], .rows 6 [[ti 7, ti 0, ti 3, ti 0, tu 0, tu 0]], ts s2],
    [ti 4, ts ⟨#[116, 97, 103]⟩, .rows 2 [[ts ⟨#[120]⟩, ti 4]], .rows 6 [[ti 1, ti 5, ti 3, ti 0, tu 0, tu 0], [ti 2, ti 3, ti 2, ti 5, tu 0, tu 0]], ts ⟨#[]⟩],
    [ti 5, ts ⟨#[119, 114, 97, 112]⟩, .rows 2 [[ts ⟨#[120]⟩, ti 4], [ts ⟨#[121]⟩, ti 12]], .rows 6 [[ti 4, ti 3, ti 0, ti 0, tu 0, tu 0], [ti 1, ti 9, ti 3, ti 0, tu 0, tu 0], [ti 3, ti 8, ti 3, ti 1, tu 0, tu 0]], ts s4],
    [ti 6, ts ⟨#[115, 116, 114, 105, 112]⟩, .rows 2 [], .rows 6 [[ti 5, ti d, ti 0, ti 0, tu 0, tu 0], [ti 2, ti 6, ti 1, ti 0, tu 0, tu c]], ts ⟨#[]⟩]]
def ActionsOK (rows : List (List Tr)) : Prop :=
  ∃ s2 s4 d c, rows = acts s2 s4 d c ∧ (s2 = ⟨#[]⟩ ∨ s2 = ⟨#[112, 111, 114, 116, 32, 33, 61, 32, 48]⟩) ∧ (s4 = ⟨#[]⟩ ∨ s4 = ⟨#[120, 32, 60, 32, 121, 32, 124, 124, 32, 120, 32, 61, 61, 32, 49, 53]⟩) ∧ 2 ≤ d ∧ d ≤ 3 ∧ 0 ≤ c ∧ c ≤ 255

def actionsQ (H : Heap) (p n : Nat) (sl : NV) (q : NV × Heap) : Prop := ∃ rows, (Tr.rows 5 rows).rep H.length q.2 q.1 ∧ ActionsOK rows ∧ CodesSt H q.2 p n sl

theorem actions_ok (H : Heap) (p n : Nat) (sl : NV) (hc : CodesSt H H p n sl) : DCall Try.prog 43 [.ptr (some (p, 0))] H (actionsQ H p n sl) := by
  obtain ⟨_, _, ⟨a0, hp, hb0, hb1⟩, hs⟩ := hc
  have hpl := hget_some_lt hp
  refine call_det E0 rfl mixed t43_ok (by kernel_rfl) (by rintro q ⟨_, _, _, h⟩; exact h.len) ?_
  simp only [t43]
  simp (disch := first | omega | (simp only [fsLen]; omega)) only [↓fsPre, fsPost, fsCond, fsGen, fsDefs, cls, reduceCtorEq, Nat.reduceAdd, Nat.reduceLeDiff, Nat.reduceEqDiff, Nat.reduceBEq, ↓reduceIte]
  refine callDT_D (next_ok _ p n 2 sl a0 (by simp (disch := first | omega | (simp only [fsLen]; omega)) only [fsCond, hp]) (by repeat (first | exact hs | apply CodesSl.app | apply CodesSl.set)) hb0 hb1 (by omega) (by omega)) rfl ?_
  rintro v h' ⟨x1, a1, e, x1a, x1b, hb0, hb1⟩
  cases e
  simp (disch := first | omega | (simp only [fsLen]; omega)) only [↓fsPre, fsPost, fsCond, fsGen, fsDefs, fsDefX, cls, reduceCtorEq, Nat.reduceAdd, Nat.reduceLeDiff, Nat.reduceBEq, ↓reduceIte]
  refine callDT_D (next_ok _ p n 256 sl a1 (by simp (disch := first | omega | (simp only [fsLen]; omega)) only [fsCond]) (by repeat (first | exact hs | apply CodesSl.app | apply CodesSl.set)) hb0 hb1 (by omega) (by omega)) rfl ?_
  rintro v h' ⟨x2, a2, e, x2a, x2b, hb0, hb1⟩
  cases e
  simp (disch := first | omega | (simp only [fsLen]; omega)) only [↓fsPre, fsPost, fsCond, fsGen, fsDefs, fsDefX, cls, reduceCtorEq, Nat.reduceAdd, Nat.reduceLeDiff, Nat.reduceEqDiff, Nat.reduceBEq, ↓reduceIte]
  refine callT_D (bool_ok _ p n sl a2 (by simp (disch := first | omega | (simp only [fsLen]; omega)) only [fsCond]) (by repeat (first | exact hs | apply CodesSl.app | apply CodesSl.set)) hb0 hb1) rfl ?_
  rintro v h' ⟨y3, a3, e, hb0, hb1⟩
  cases e
  simp (disch := first | omega | (simp only [fsLen]; omega)) only [↓fsPre, ↓reduceIte]
  refine condK_bool (fun hy1 => ?_) (fun hy1 => ?_)
  · simp (disch := first | omega | (simp only [fsLen]; omega)) only [↓fsPre, fsPost, fsCond, fsGen, fsDefs, reduceCtorEq, Nat.reduceAdd, Nat.reduceMul, Nat.reduceLeDiff, Nat.reduceEqDiff, Int.reduceLT, Int.reduceLE, Int.reduceToNat, ↓reduceIte]
    refine callT_D (bool_ok _ p n sl a3 (by simp (disch := first | omega | (simp only [fsLen]; omega)) only [fsCond]) (by repeat (first | exact hs | apply CodesSl.app | apply CodesSl.set)) hb0 hb1) rfl ?_
    rintro v h' ⟨y4, a4, e, hb0, hb1⟩
    cases e
    simp (disch := first | omega | (simp only [fsLen]; omega)) only [↓fsPre, ↓reduceIte]
    refine condK_bool (fun hy2 => ?_) (fun hy2 => ?_)
    · simp (disch := first | omega | (simp only [fsLen]; omega)) only [↓fsPre, fsPost, fsCond, fsGen, fsDefs, Nat.reduceAdd, Nat.reduceMul, Nat.reduceLeDiff, Nat.reduceEqDiff, Int.reduceLT, Int.reduceLE, Int.reduceToNat, ↓reduceIte]
      refine ⟨_, ?_, ⟨_, _, (2 + x1), x2, rfl, .inr rfl, .inr rfl, by omega, by omega, by omega, by omega⟩, CodesSt.mk' hpl hb0 hb1 hs⟩
      simp (disch := first | omega | (simp only [fsLen]; omega)) only [fsPost, fsCond, fsGen, Nat.reduceAdd, Nat.reduceLeDiff, Tr.rep_sl, Tr.rep_none, Tr.repB_cells, Tr.repFlat_nil, Tr.repFlat_cons, Tr.repCells_nil, Tr.repCells_cons, rep_ti, rep_tu, rep_ts, acts]
    · simp (disch := first | omega | (simp only [fsLen]; omega)) only [↓fsPre, fsPost, fsCond, fsGen, fsDefs, Nat.reduceEqDiff, ↓reduceIte]
      refine ⟨_, ?_, ⟨_, _, (2 + x1), x2, rfl, .inr rfl, .inl rfl, by omega, by omega, by omega, by omega⟩, CodesSt.mk' hpl hb0 hb1 hs⟩
      simp (disch := first | omega | (simp only [fsLen]; omega)) only [fsPost, fsCond, fsGen, Nat.reduceAdd, Nat.reduceLeDiff, Tr.rep_sl, Tr.rep_none, Tr.repB_cells, Tr.repFlat_nil, Tr.repFlat_cons, Tr.repCells_nil, Tr.repCells_cons, rep_ti, rep_tu, rep_ts, acts]
  · simp (disch := first | omega | (simp only [fsLen]; omega)) only [↓fsPre, fsPost, fsGen, reduceCtorEq, ↓reduceIte]
    refine callT_D (bool_ok _ p n sl a3 (by simp (disch := first | omega | (simp only [fsLen]; omega)) only [fsPost, fsCond]) (by repeat (first | exact hs | apply CodesSl.app | apply CodesSl.set)) hb0 hb1) rfl ?_
    rintro v h' ⟨y4, a4, e, hb0, hb1⟩
    cases e
    simp (disch := first | omega | (simp only [fsLen]; omega)) only [↓fsPre, ↓reduceIte]
    refine condK_bool (fun hy2 => ?_) (fun hy2 => ?_)
    · simp (disch := first | omega | (simp only [fsLen]; omega)) only [↓fsPre, fsPost, fsCond, fsGen, fsDefs, Nat.reduceAdd, Nat.reduceMul, Nat.reduceLeDiff, Nat.reduceEqDiff, Int.reduceLT, Int.reduceLE, Int.reduceToNat, ↓reduceIte]
      refine ⟨_, ?_, ⟨_, _, (2 + x1), x2, rfl, .inl rfl, .inr rfl, by omega, by omega, by omega, by omega⟩, CodesSt.mk' hpl hb0 hb1 hs⟩
      simp (disch := first | omega | (simp only [fsLen]; omega)) only [fsPost, fsCond, fsGen, Nat.reduceAdd, Nat.reduceLeDiff, Tr.rep_sl, Tr.rep_none, Tr.repB_cells, Tr.repFlat_nil, Tr.repFlat_cons, Tr.repCells_nil, Tr.repCells_cons, rep_ti, rep_tu, rep_ts, acts]
    · simp (disch := first | omega | (simp only [fsLen]; omega)) only [↓fsPre, fsPost, fsCond, fsGen, fsDefs, Nat.reduceEqDiff, ↓reduceIte]
      refine ⟨_, ?_, ⟨_, _, (2 + x1), x2, rfl, .inl rfl, .inl rfl, by omega, by omega, by omega, by omega⟩, CodesSt.mk' hpl hb0 hb1 hs⟩
      simp (disch := first | omega | (simp only [fsLen]; omega)) only [fsPost, fsCond, fsGen, Nat.reduceAdd, Nat.reduceLeDiff, Tr.rep_sl, Tr.rep_none, Tr.repB_cells, Tr.repFlat_nil, Tr.repFlat_cons, Tr.repCells_nil, Tr.repCells_cons, rep_ti, rep_tu, rep_ts, acts]

def texts1 : List ByteArray := [⟨#[]⟩, ⟨#[97, 32, 33, 61, 32, 48]⟩, ⟨#[97, 32, 60, 32, 49, 52, 32, 38, 38, 32, 97, 32, 33, 61, 32, 51]⟩]
def texts2 : List ByteArray := [⟨#[]⟩, ⟨#[100, 58, 58, 112, 114, 101, 102, 105, 120, 95, 108, 101, 110, 103, 116, 104, 32, 62, 61, 32, 56]⟩, ⟨#[100, 58, 58, 112, 114, 101, 102, 105, 120, 95, 108, 101, 110, 103, 116, 104, 32, 61, 61, 32, 51, 50, 32, 45, 62, 32, 100, 58, 58, 118, 97, 108, 117, 101, 32, 62, 32, 48, 120, 102, 102]⟩]
def texts3 : List ByteArray := [⟨#[]⟩, ⟨#[112, 114, 105, 111, 114, 105, 116, 121, 32, 60, 32, 49, 48, 48, 32, 38, 38, 32, 40, 101, 58, 58, 109, 97, 115, 107, 32, 33, 61, 32, 48, 32, 124, 124, 32, 97, 58, 58, 109, 97, 115, 107, 32, 33, 61, 32, 48, 41]⟩, ⟨#[101, 58, 58, 109, 97, 115, 107, 32, 61, 61, 32, 48, 32, 45, 62, 32, 112, 114, 105, 111, 114, 105, 116, 121, 32, 62, 32, 53]⟩]
def texts4 : List ByteArray := [⟨#[]⟩, ⟨#[102, 58, 58, 104, 105, 103, 104, 32, 45, 32, 102, 58, 58, 108, 111, 119, 32, 60, 61, 32, 48, 120, 49, 48, 48]⟩, ⟨#[33, 40, 102, 58, 58, 108, 111, 119, 32, 61, 61, 32, 48, 32, 38, 38, 32, 102, 58, 58, 104, 105, 103, 104, 32, 62, 32, 49, 48, 48, 48, 41]⟩]
def keys1 : List (List Tr) := [[ts ⟨#[97]⟩, ti 4, ti 1]]
def keys2 (m : Bool) : List (List Tr) := [ts ⟨#[100]⟩, ti 7, ti 2] :: if m then [[ts ⟨#[109]⟩, ti 3, ti 1]] else []
def keys3 (m : Bool) : List (List Tr) := [ts ⟨#[101]⟩, ti 6, ti 3] :: [ts ⟨#[97]⟩, ti 4, ti 3] :: if m then [[ts ⟨#[98]⟩, ti 5, ti 1]] else []
def keys4 (m : Bool) : List (List Tr) := [ts ⟨#[102]⟩, ti 8, ti 4] :: if m then [[ts ⟨#[103]⟩, ti 9, ti 1], [ts ⟨#[100]⟩, ti 7, ti 2]] else []
def tab1 (d s : Int) (r : ByteArray) : List Tr := [ti 1, ts ⟨#[112, 111, 114, 116, 115]⟩, .rows 3 keys1, .rows 1 [[ti 1], [ti 2], [ti 4]], ti d, .rows 2 [], ti s, ts r]
def tab2 (m : Bool) (s : Int) (r : ByteArray) : List Tr := [ti 2, ts ⟨#[114, 111, 117, 116, 101, 115]⟩, .rows 3 (keys2 m), .rows 1 [[ti 1], [ti 2], [ti 3], [ti 4]], ti 2, .rows 2 [], ti s, ts r]
def tab3 (m : Bool) (s : Int) (r : ByteArray) : List Tr := [ti 3, ts ⟨#[97, 99, 108]⟩, .rows 3 (keys3 m), .rows 1 [[ti 1], [ti 2], [ti 3], [ti 5], [ti 6]], ti 1, .rows 2 [], ti s, ts r]
def tab4 (m : Bool) (s : Int) (r : ByteArray) : List Tr := [ti 4, ts ⟨#[115, 112, 97, 110, 115]⟩, .rows 3 (keys4 m), .rows 1 [[ti 1], [ti 3], [ti 5]], ti 3, .rows 2 [[tu 0, tu 7]], ti s, ts r]

theorem texts_at (s0 s1 s2 : ByteArray) (x : Int) (h0 : 0 ≤ x) (h1 : x < 3) : ∃ r, ([NV.str s0, .str s1, .str s2] : List NV)[x.toNat]? = some (.str r) ∧ r ∈ [s0, s1, s2] := by
  have : x = 0 ∨ x = 1 ∨ x = 2 := by omega
  rcases this with rfl | rfl | rfl
  · exact ⟨_, rfl, by simp⟩
  · exact ⟨_, rfl, by simp⟩
  · exact ⟨_, rfl, by simp⟩
/-- What is chosen in the tables. -/
structure TP where
  d : Int
  s1 : Int
  m2 : Bool
  s2 : Int
  m3 : Bool
  s3 : Int
  m4 : Bool
  s4 : Int
  r1 : ByteArray
  r2 : ByteArray
  r3 : ByteArray
  r4 : ByteArray
def TP.rows (t : TP) : List (List Tr) := [tab1 t.d t.s1 t.r1, tab2 t.m2 t.s2 t.r2, tab3 t.m3 t.s3 t.r3, tab4 t.m4 t.s4 t.r4]
structure TP.OK (t : TP) : Prop where
  d : 1 ≤ t.d ∧ t.d ≤ 2
  s1 : 2 ≤ t.s1 ∧ t.s1 ≤ 6
  s2 : 3 ≤ t.s2 ∧ t.s2 ≤ 8
  s3 : 4 ≤ t.s3 ∧ t.s3 ≤ 9
  s4 : 3 ≤ t.s4 ∧ t.s4 ≤ 7
  r1 : t.r1 ∈ texts1
  r2 : t.r2 ∈ texts2
  r3 : t.r3 ∈ texts3
  r4 : t.r4 ∈ texts4

def tablesQ (H : Heap) (p n : Nat) (sl : NV) (q : NV × Heap) : Prop := ∃ t : TP, (Tr.rows 8 t.rows).rep H.length q.2 q.1 ∧ t.OK ∧ CodesSt H q.2 p n sl

set_option maxHeartbeats 2000000 in
theorem tables_ok (H : Heap) (p n : Nat) (sl : NV) (hc : CodesSt H H p n sl) : DCall Try.prog 44 [.ptr (some (p, 0))] H (tablesQ H p n sl) := by
  obtain ⟨_, _, ⟨a0, hp, hb0, hb1⟩, hs⟩ := hc
  have hpl := hget_some_lt hp
  refine call_det E0 rfl mixed t44_ok (by kernel_rfl) (by rintro q ⟨_, _, _, h⟩; exact h.len) ?_
  simp only [t44]
  simp (disch := first | omega | (simp only [fsLen]; omega)) only [↓fsPre, fsPost, fsGen, fsDefs, reduceCtorEq, Nat.reduceAdd, Nat.reduceLeDiff, ↓reduceIte]
  refine callT_D (next_ok _ p n 2 sl a0 (by simp (disch := first | omega | (simp only [fsLen]; omega)) only [fsCond, hp]) (by repeat (first | exact hs | apply CodesSl.app | apply CodesSl.set)) hb0 hb1 (by omega) (by omega)) rfl ?_
  rintro v h' ⟨x1, a1, e, x1a, x1b, hb0, hb1⟩
  cases e
  simp (disch := first | omega | (simp only [fsLen]; omega)) only [↓fsPre, fsPost, fsCond, fsGen, fsDefX, reduceCtorEq, ↓reduceIte]
  refine callT_D (next_ok _ p n 5 sl a1 (by simp (disch := first | omega | (simp only [fsLen]; omega)) only [fsCond]) (by repeat (first | exact hs | apply CodesSl.app | apply CodesSl.set)) hb0 hb1 (by omega) (by omega)) rfl ?_
  rintro v h' ⟨x2, a2, e, x2a, x2b, hb0, hb1⟩
  cases e
  simp (disch := first | omega | (simp only [fsLen]; omega)) only [↓fsPre, fsPost, fsCond, fsGen, fsDefs, fsDefX, reduceCtorEq, Nat.reduceAdd, Nat.reduceLeDiff, Nat.reduceEqDiff, ↓reduceIte]
  refine callT_D (next_ok _ p n 6 sl a2 (by simp (disch := first | omega | (simp only [fsLen]; omega)) only [fsCond]) (by repeat (first | exact hs | apply CodesSl.app | apply CodesSl.set)) hb0 hb1 (by omega) (by omega)) rfl ?_
  rintro v h' ⟨x3, a3, e, x3a, x3b, hb0, hb1⟩
  cases e
  simp (disch := first | omega | (simp only [fsLen]; omega)) only [↓fsPre, fsPost, fsCond, fsGen, fsDefs, fsDefX, reduceCtorEq, Nat.reduceAdd, Nat.reduceLeDiff, Nat.reduceEqDiff, ↓reduceIte]
  refine callT_D (bool_ok _ p n sl a3 (by simp (disch := first | omega | (simp only [fsLen]; omega)) only [fsCond]) (by repeat (first | exact hs | apply CodesSl.app | apply CodesSl.set)) hb0 hb1) rfl ?_
  rintro v h' ⟨y4, a4, e, hb0, hb1⟩
  cases e
  simp (disch := first | omega | (simp only [fsLen]; omega)) only [↓fsPre, ↓reduceIte]
  refine condK_join (fun F g => F 0 = .ptr (some (p, 0)) ∧ CodesSt H g p n sl ∧ ∃ b1 b2 m2, F 3 = .ptr (some (b1, 0)) ∧ F 4 = .ptr (some (b2, 0)) ∧ RowAt H.length g b1 (tab1 (1 + x1) (2 + x2) ⟨#[]⟩) ∧ RowAt H.length g b2 (tab2 m2 (3 + x3) ⟨#[]⟩)) ?_ ?_ ?_
  · intro hy
    simp (disch := first | omega | (simp only [fsLen]; omega)) only [↓fsPre, fsPost, fsCond, fsGen, fsDefs, Nat.reduceAdd, Nat.reduceLeDiff, Nat.reduceEqDiff, ↓reduceIte]
    refine app_fix (sliceCells_at (by simp (disch := first | omega | (simp only [fsLen]; omega)) only [fsPost, fsCond, fsGen] <;> rfl) rfl) rfl (by omega) ⟨by omega, by omega⟩ (sliceCells_at (by simp (disch := first | omega | (simp only [fsLen]; omega)) only [fsPost, fsCond, fsGen] <;> rfl) rfl) ?_
    simp (disch := first | omega | (simp only [fsLen]; omega)) only [↓fsPre, fsPost, fsCond, fsGen, fsDefs, reduceCtorEq, Nat.reduceAdd, Nat.reduceMul, Nat.reduceLeDiff, Nat.reduceEqDiff, ↓reduceIte]
    refine ⟨CodesSt.mk' hpl hb0 hb1 hs, _, _, true, rfl, rfl, ⟨by omega, _, by simp (disch := first | omega | (simp only [fsLen]; omega)) only [fsPost, fsCond, fsGen] <;> rfl, ?_⟩, ⟨by omega, _, by simp (disch := first | omega | (simp only [fsLen]; omega)) only [fsPost, fsCond, fsGen] <;> rfl, ?_⟩⟩
    · simp (disch := first | omega | (simp only [fsLen]; omega)) only [fsPost, fsCond, fsGen, Nat.reduceAdd, Nat.reduceLeDiff, Tr.rep_sl, Tr.rep_none, Tr.repB_cells, Tr.repFlat_nil, Tr.repFlat_cons, Tr.repCells_nil, Tr.repCells_cons, rep_ti, rep_ts, tab1, keys1]
      all_goals omega
    · simp (disch := first | omega | (simp only [fsLen]; omega)) only [fsPost, fsCond, fsGen, Nat.reduceAdd, Nat.reduceLeDiff, ↓reduceIte, Tr.rep_sl, Tr.rep_none, Tr.repB_cells, Tr.repFlat_nil, Tr.repFlat_cons, Tr.repCells_nil, Tr.repCells_cons, rep_ti, rep_ts, tab2, keys2]
      all_goals omega
  · intro hy
    simp (disch := first | omega | (simp only [fsLen]; omega)) only [↓fsPre, fsPost, fsCond, fsGen, reduceCtorEq, Nat.reduceEqDiff, ↓reduceIte]
    refine ⟨CodesSt.mk' hpl hb0 hb1 hs, _, _, false, rfl, rfl, ⟨by omega, _, by simp (disch := first | omega | (simp only [fsLen]; omega)) only [fsPost, fsCond, fsGen] <;> rfl, ?_⟩, ⟨by omega, _, by simp (disch := first | omega | (simp only [fsLen]; omega)) only [fsPost, fsCond, fsGen] <;> rfl, ?_⟩⟩
    · simp (disch := first | omega | (simp only [fsLen]; omega)) only [fsPost, fsCond, fsGen, Nat.reduceAdd, Nat.reduceLeDiff, Tr.rep_sl, Tr.rep_none, Tr.repB_cells, Tr.repFlat_nil, Tr.repFlat_cons, Tr.repCells_nil, Tr.repCells_cons, rep_ti, rep_ts, tab1, keys1]
      all_goals omega
    · simp (disch := first | omega | (simp only [fsLen]; omega)) only [fsPost, fsCond, fsGen, Nat.reduceAdd, Nat.reduceLeDiff, ↓reduceIte, Tr.rep_sl, Tr.rep_none, Tr.repB_cells, Tr.repFlat_nil, Tr.repFlat_cons, Tr.repCells_nil, Tr.repCells_cons, rep_ti, rep_ts, tab2, keys2]
      all_goals omega
  rintro F g ⟨f0, st, b1, b2, m2, f3, f4, row1, row2⟩
  have st' := st
  obtain ⟨l1, o1, ⟨a5, hp5, hb0, hb1⟩, hs5⟩ := st
  have hpg := hget_some_lt hp5
  simp (disch := first | omega | (simp only [fsLen]; omega)) only [↓fsPre, fsPost, fsGen, fsDefs, reduceCtorEq, Nat.reduceAdd, Nat.reduceLeDiff, Nat.reduceEqDiff, ↓reduceIte, f0]
  refine callT_D (next_ok _ p n 6 sl a5 (by simp (disch := first | omega | (simp only [fsLen]; omega)) only [fsCond, hp5]) (by repeat (first | exact hs5 | apply CodesSl.app | apply CodesSl.set)) hb0 hb1 (by omega) (by omega)) rfl ?_
  rintro v h' ⟨x6, a6, e, x6a, x6b, hb0, hb1⟩
  cases e
  simp (disch := first | omega | (simp only [fsLen]; omega)) only [↓fsPre, fsPost, fsCond, fsGen, fsDefs, fsDefX, reduceCtorEq, Nat.reduceAdd, Nat.reduceLeDiff, Nat.reduceEqDiff, ↓reduceIte, f0]
  refine callT_D (bool_ok _ p n sl a6 (by simp (disch := first | omega | (simp only [fsLen]; omega)) only [fsCond]) (by repeat (first | exact hs5 | apply CodesSl.app | apply CodesSl.set)) hb0 hb1) rfl ?_
  rintro v h' ⟨y7, a7, e, hb0, hb1⟩
  cases e
  simp (disch := first | omega | (simp only [fsLen]; omega)) only [↓fsPre, ↓reduceIte]
  refine condK_join (fun F g => F 0 = .ptr (some (p, 0)) ∧ CodesSt H g p n sl ∧ ∃ b1 b2 b3 m2 m3, F 3 = .ptr (some (b1, 0)) ∧ F 4 = .ptr (some (b2, 0)) ∧ F 5 = .ptr (some (b3, 0)) ∧ RowAt H.length g b1 (tab1 (1 + x1) (2 + x2) ⟨#[]⟩) ∧ RowAt H.length g b2 (tab2 m2 (3 + x3) ⟨#[]⟩) ∧ RowAt H.length g b3 (tab3 m3 (4 + x6) ⟨#[]⟩)) ?_ ?_ ?_
  · intro hy
    simp (disch := first | omega | (simp only [fsLen]; omega)) only [↓fsPre, fsPost, fsCond, fsGen, fsDefs, Nat.reduceAdd, Nat.reduceLeDiff, Nat.reduceEqDiff, ↓reduceIte]
    refine app_fix (sliceCells_at (by simp (disch := first | omega | (simp only [fsLen]; omega)) only [fsPost, fsCond, fsGen] <;> rfl) rfl) rfl (by omega) ⟨by omega, by omega⟩ (sliceCells_at (by simp (disch := first | omega | (simp only [fsLen]; omega)) only [fsPost, fsCond, fsGen] <;> rfl) rfl) ?_
    simp (disch := first | omega | (simp only [fsLen]; omega)) only [↓fsPre, fsPost, fsCond, fsGen, fsDefs, reduceCtorEq, Nat.reduceAdd, Nat.reduceMul, Nat.reduceLeDiff, Nat.reduceEqDiff, ↓reduceIte, f0, f3, f4]
    refine ⟨st'.trans (CodesSt.mk' hpg hb0 hb1 hs5), _, _, _, m2, true, rfl, rfl, rfl, row1.ext (Ext.sets hpl), row2.ext (Ext.sets hpl), ⟨by omega, _, by simp (disch := first | omega | (simp only [fsLen]; omega)) only [fsPost, fsCond, fsGen] <;> rfl, ?_⟩⟩
    simp (disch := first | omega | (simp only [fsLen]; omega)) only [fsPost, fsCond, fsGen, Nat.reduceAdd, Nat.reduceLeDiff, ↓reduceIte, Tr.rep_sl, Tr.rep_none, Tr.repB_cells, Tr.repFlat_nil, Tr.repFlat_cons, Tr.repCells_nil, Tr.repCells_cons, rep_ti, rep_ts, tab3, keys3]
    all_goals omega
  · intro hy
    simp (disch := first | omega | (simp only [fsLen]; omega)) only [↓fsPre, fsPost, fsCond, fsGen, reduceCtorEq, Nat.reduceEqDiff, ↓reduceIte, f0, f3, f4]
    refine ⟨st'.trans (CodesSt.mk' hpg hb0 hb1 hs5), _, _, _, m2, false, rfl, rfl, rfl, row1.ext (Ext.sets hpl), row2.ext (Ext.sets hpl), ⟨by omega, _, by simp (disch := first | omega | (simp only [fsLen]; omega)) only [fsPost, fsCond, fsGen] <;> rfl, ?_⟩⟩
    simp (disch := first | omega | (simp only [fsLen]; omega)) only [fsPost, fsCond, fsGen, Nat.reduceAdd, Nat.reduceLeDiff, ↓reduceIte, Tr.rep_sl, Tr.rep_none, Tr.repB_cells, Tr.repFlat_nil, Tr.repFlat_cons, Tr.repCells_nil, Tr.repCells_cons, rep_ti, rep_ts, tab3, keys3]
    all_goals omega
  clear row1 row2 st' l1 o1 hp5 hs5 hpg f0 f3 f4 m2
  rintro F g ⟨f0, st, b1, b2, b3, m2, m3, f3, f4, f5, row1, row2, row3⟩
  have st' := st
  obtain ⟨l1, o1, ⟨a8, hp5, hb0, hb1⟩, hs5⟩ := st
  have hpg := hget_some_lt hp5
  simp (disch := first | omega | (simp only [fsLen]; omega)) only [↓fsPre, fsPost, fsGen, fsDefs, reduceCtorEq, Nat.reduceAdd, Nat.reduceLeDiff, ↓reduceIte, f0]
  refine callT_D (next_ok _ p n 5 sl a8 (by simp (disch := first | omega | (simp only [fsLen]; omega)) only [fsCond, hp5]) (by repeat (first | exact hs5 | apply CodesSl.app | apply CodesSl.set)) hb0 hb1 (by omega) (by omega)) rfl ?_
  rintro v h' ⟨x9, a9, e, x9a, x9b, hb0, hb1⟩
  cases e
  simp (disch := first | omega | (simp only [fsLen]; omega)) only [↓fsPre, fsPost, fsCond, fsGen, fsDefs, fsDefX, reduceCtorEq, Nat.reduceAdd, Nat.reduceLeDiff, Nat.reduceEqDiff, ↓reduceIte, f0]
  refine callT_D (bool_ok _ p n sl a9 (by simp (disch := first | omega | (simp only [fsLen]; omega)) only [fsCond]) (by repeat (first | exact hs5 | apply CodesSl.app | apply CodesSl.set)) hb0 hb1) rfl ?_
  rintro v h' ⟨y10, a10, e, hb0, hb1⟩
  cases e
  simp (disch := first | omega | (simp only [fsLen]; omega)) only [↓fsPre, ↓reduceIte]
  refine condK_join (fun F g => F 0 = .ptr (some (p, 0)) ∧ CodesSt H g p n sl ∧ ∃ b1 b2 b3 b4 m2 m3 m4, F 3 = .ptr (some (b1, 0)) ∧ F 4 = .ptr (some (b2, 0)) ∧ F 5 = .ptr (some (b3, 0)) ∧ F 6 = .ptr (some (b4, 0)) ∧
    RowAt H.length g b1 (tab1 (1 + x1) (2 + x2) ⟨#[]⟩) ∧ RowAt H.length g b2 (tab2 m2 (3 + x3) ⟨#[]⟩) ∧ RowAt H.length g b3 (tab3 m3 (4 + x6) ⟨#[]⟩) ∧ RowAt H.length g b4 (tab4 m4 (3 + x9) ⟨#[]⟩)) ?_ ?_ ?_
  · intro hy
    simp (disch := first | omega | (simp only [fsLen]; omega)) only [↓fsPre, fsPost, fsCond, fsGen, fsDefs, Nat.reduceAdd, Nat.reduceLeDiff, Nat.reduceEqDiff, ↓reduceIte]
    refine app_fix (sliceCells_at (by simp (disch := first | omega | (simp only [fsLen]; omega)) only [fsPost, fsCond, fsGen] <;> rfl) rfl) rfl (by omega) ⟨by omega, by omega⟩ (sliceCells_at (by simp (disch := first | omega | (simp only [fsLen]; omega)) only [fsPost, fsCond, fsGen] <;> rfl) rfl) ?_
    simp (disch := first | omega | (simp only [fsLen]; omega)) only [↓fsPre, fsPost, fsCond, fsGen, fsDefs, reduceCtorEq, Nat.reduceAdd, Nat.reduceMul, Nat.reduceLeDiff, Nat.reduceEqDiff, ↓reduceIte, f0, f3, f4, f5]
    refine ⟨st'.trans (CodesSt.mk' hpg hb0 hb1 hs5), _, _, _, _, m2, m3, true, rfl, rfl, rfl, rfl, row1.ext (Ext.sets hpl), row2.ext (Ext.sets hpl), row3.ext (Ext.sets hpl), ⟨by omega, _, by simp (disch := first | omega | (simp only [fsLen]; omega)) only [fsPost, fsCond, fsGen] <;> rfl, ?_⟩⟩
    simp (disch := first | omega | (simp only [fsLen]; omega)) only [fsPost, fsCond, fsGen, Nat.reduceAdd, Nat.reduceLeDiff, ↓reduceIte, Tr.rep_sl, Tr.repB_cells, Tr.repFlat_nil, Tr.repFlat_cons, Tr.repCells_nil, Tr.repCells_cons, rep_ti, rep_tu, rep_ts, tab4, keys4]
    all_goals omega
  · intro hy
    simp (disch := first | omega | (simp only [fsLen]; omega)) only [↓fsPre, fsPost, fsCond, fsGen, reduceCtorEq, Nat.reduceEqDiff, ↓reduceIte, f0, f3, f4, f5]
    refine ⟨st'.trans (CodesSt.mk' hpg hb0 hb1 hs5), _, _, _, _, m2, m3, false, rfl, rfl, rfl, rfl, row1.ext (Ext.sets hpl), row2.ext (Ext.sets hpl), row3.ext (Ext.sets hpl), ⟨by omega, _, by simp (disch := first | omega | (simp only [fsLen]; omega)) only [fsPost, fsCond, fsGen] <;> rfl, ?_⟩⟩
    simp (disch := first | omega | (simp only [fsLen]; omega)) only [fsPost, fsCond, fsGen, Nat.reduceAdd, Nat.reduceLeDiff, ↓reduceIte, Tr.rep_sl, Tr.repB_cells, Tr.repFlat_nil, Tr.repFlat_cons, Tr.repCells_nil, Tr.repCells_cons, rep_ti, rep_tu, rep_ts, tab4, keys4]
    all_goals omega
  clear row1 row2 row3 st' l1 o1 hp5 hs5 hpg f0 f3 f4 f5 m2 m3
  rintro F g ⟨f0, st, b1, b2, b3, b4, m2, m3, m4, f3, f4, f5, f6, row1, row2, row3, row4⟩
  have st' := st
  obtain ⟨l1, o1, ⟨a11, hp5, hb0, hb1⟩, hs5⟩ := st
  have hpg := hget_some_lt hp5
  obtain ⟨n1, cs1, e1, row1⟩ := row1
  obtain ⟨n2, cs2, e2, row2⟩ := row2
  obtain ⟨n3, cs3, e3, row3⟩ := row3
  obtain ⟨n4, cs4, e4, row4⟩ := row4
  simp only [tab1, tab2, tab3, tab4, Tr.repCells, rep_ti, rep_ts] at row1 row2 row3 row4
  obtain ⟨_, _, rfl, rfl, _, _, rfl, rfl, k1, _, rfl, kr1, c1, _, rfl, cr1, _, _, rfl, rfl, d1, _, rfl, dr1, _, _, rfl, rfl, _, _, rfl, rfl, rfl⟩ := row1
  have ko1 := Tr.rep_one kr1
  have co1 := Tr.rep_one cr1
  have do1 := Tr.rep_one dr1
  obtain ⟨_, _, rfl, rfl, _, _, rfl, rfl, k2, _, rfl, kr2, c2, _, rfl, cr2, _, _, rfl, rfl, d2, _, rfl, dr2, _, _, rfl, rfl, _, _, rfl, rfl, rfl⟩ := row2
  have ko2 := Tr.rep_one kr2
  have co2 := Tr.rep_one cr2
  have do2 := Tr.rep_one dr2
  obtain ⟨_, _, rfl, rfl, _, _, rfl, rfl, k3, _, rfl, kr3, c3, _, rfl, cr3, _, _, rfl, rfl, d3, _, rfl, dr3, _, _, rfl, rfl, _, _, rfl, rfl, rfl⟩ := row3
  have ko3 := Tr.rep_one kr3
  have co3 := Tr.rep_one cr3
  have do3 := Tr.rep_one dr3
  obtain ⟨_, _, rfl, rfl, _, _, rfl, rfl, k4, _, rfl, kr4, c4, _, rfl, cr4, _, _, rfl, rfl, d4, _, rfl, dr4, _, _, rfl, rfl, _, _, rfl, rfl, rfl⟩ := row4
  have ko4 := Tr.rep_one kr4
  have co4 := Tr.rep_one cr4
  have do4 := Tr.rep_one dr4
  simp (disch := first | omega | (simp only [fsLen]; omega)) only [↓fsPre, fsPost, fsGen, fsDefs, Nat.reduceAdd, Nat.reduceLeDiff, Nat.reduceEqDiff, ↓reduceIte, e1, e2, e3, e4, f3, f4, f5, f6, ko1, ko2, ko3, ko4, co1, co2, co3, co4, do1, do2, do3, do4]
  refine wloop (fun j F h => F 0 = .ptr (some (p, 0)) ∧ F 7 = .slice (some (g.length, 0)) 4 (.fix 4) ∧ F 8 = .slice (some (g.length + 5, 0)) 4 (.fix 4) ∧ F 79 = .slice (some (g.length, 0)) 4 (.fix 4) ∧ F 80 = .int .i64 4 ∧ F 81 = .int .i64 j ∧ g.length + 6 ≤ h.length ∧ CodesSt g h p n sl ∧
      hget h (g.length + 1) = some (.cells [.str ⟨#[]⟩, .str ⟨#[97, 32, 33, 61, 32, 48]⟩, .str ⟨#[97, 32, 60, 32, 49, 52, 32, 38, 38, 32, 97, 32, 33, 61, 32, 51]⟩] false) ∧
      hget h (g.length + 2) = some (.cells [.str ⟨#[]⟩, .str ⟨#[100, 58, 58, 112, 114, 101, 102, 105, 120, 95, 108, 101, 110, 103, 116, 104, 32, 62, 61, 32, 56]⟩, .str ⟨#[100, 58, 58, 112, 114, 101, 102, 105, 120, 95, 108, 101, 110, 103, 116, 104, 32, 61, 61, 32, 51, 50, 32, 45, 62, 32, 100, 58, 58, 118, 97, 108, 117, 101, 32, 62, 32, 48, 120, 102, 102]⟩] false) ∧
      hget h (g.length + 3) = some (.cells [.str ⟨#[]⟩, .str ⟨#[112, 114, 105, 111, 114, 105, 116, 121, 32, 60, 32, 49, 48, 48, 32, 38, 38, 32, 40, 101, 58, 58, 109, 97, 115, 107, 32, 33, 61, 32, 48, 32, 124, 124, 32, 97, 58, 58, 109, 97, 115, 107, 32, 33, 61, 32, 48, 41]⟩, .str ⟨#[101, 58, 58, 109, 97, 115, 107, 32, 61, 61, 32, 48, 32, 45, 62, 32, 112, 114, 105, 111, 114, 105, 116, 121, 32, 62, 32, 53]⟩] false) ∧
      hget h (g.length + 4) = some (.cells [.str ⟨#[]⟩, .str ⟨#[102, 58, 58, 104, 105, 103, 104, 32, 45, 32, 102, 58, 58, 108, 111, 119, 32, 60, 61, 32, 48, 120, 49, 48, 48]⟩, .str ⟨#[33, 40, 102, 58, 58, 108, 111, 119, 32, 61, 61, 32, 48, 32, 38, 38, 32, 102, 58, 58, 104, 105, 103, 104, 32, 62, 32, 49, 48, 48, 48, 41]⟩] false) ∧
      hget h (g.length + 5) = some (.cells [.slice (some (g.length + 1, 0)) 3 (.fix 3), .slice (some (g.length + 2, 0)) 3 (.fix 3), .slice (some (g.length + 3, 0)) 3 (.fix 3), .slice (some (g.length + 4, 0)) 3 (.fix 3)] false) ∧
      ∃ r1 r2 r3 r4, hget h g.length = some (.cells [.int .i64 1, .str ⟨#[112, 111, 114, 116, 115]⟩, k1, c1, .int .i64 (1 + x1), d1, .int .i64 (2 + x2), .str r1, .int .i64 2, .str ⟨#[114, 111, 117, 116, 101, 115]⟩, k2, c2, .int .i64 2, d2, .int .i64 (3 + x3), .str r2, .int .i64 3, .str ⟨#[97, 99, 108]⟩, k3, c3, .int .i64 1, d3, .int .i64 (4 + x6), .str r3, .int .i64 4, .str ⟨#[115, 112, 97, 110, 115]⟩, k4, c4, .int .i64 3, d4, .int .i64 (3 + x9), .str r4] false) ∧ (1 ≤ j → r1 ∈ texts1) ∧ (2 ≤ j → r2 ∈ texts2) ∧ (3 ≤ j → r3 ∈ texts3) ∧ (4 ≤ j → r4 ∈ texts4)) 4 ?_ ?_ ?_
  · simp (disch := first | omega | (simp only [fsLen]; omega)) only [↓fsPre, fsPost, fsCond, fsGen, reduceCtorEq, Nat.reduceAdd, Nat.reduceLeDiff, Nat.reduceEqDiff, ↓reduceIte, f0]
    exact ⟨CodesSt.app0 (CodesSt.refl hp5 hb0 hb1 hs5), ⟨#[]⟩, ⟨#[]⟩, ⟨#[]⟩, ⟨#[]⟩, rfl, False.elim, False.elim, False.elim, False.elim⟩
  · rintro j F h hj ⟨f0, f7, f8, f79, f80, f81, hl, st, t1, t2, t3, t4, tt, r1, r2, r3, r4, hG, q1, q2, q3, q4⟩
    have st0 := st
    obtain ⟨l2, o2, ⟨a12, hp6, hb0, hb1⟩, hs6⟩ := st
    have hpg6 := hget_some_lt hp6
    have hpG : g.length ≠ p := by omega
    match j, hj with
    | 0, _ =>
      simp (disch := first | omega | (simp only [fsLen]; omega)) only [↓fsPre, fsPost, fsGen, fsDefs, fsDefX, cls, reduceCtorEq, Nat.reduceAdd, Nat.reduceEqDiff, Int.reduceLT, Int.reduceLE, Int.reduceToNat, ↓reduceIte, f0, f7, f8, f80, f81, tt]
      refine callDT_D (next_ok _ p n 3 sl a12 (by simp (disch := first | omega | (simp only [fsLen]; omega)) only [hp6]) (by repeat (first | exact hs6 | apply CodesSl.app | apply CodesSl.set)) hb0 hb1 (by omega) (by omega)) rfl ?_
      rintro v h' ⟨x13, a13, e, x13a, x13b, hb0, hb1⟩
      cases e
      obtain ⟨r, hr, hm⟩ := texts_at ⟨#[]⟩ ⟨#[97, 32, 33, 61, 32, 48]⟩ ⟨#[97, 32, 60, 32, 49, 52, 32, 38, 38, 32, 97, 32, 33, 61, 32, 51]⟩ x13 x13a x13b
      simp (disch := first | omega | (simp only [fsLen]; omega)) only [↓fsPre, fsPost, fsCond, fsGen, fsDefs, fsDefX, cls, reduceCtorEq, Nat.reduceAdd, Nat.reduceLeDiff, Nat.reduceEqDiff, Nat.reduceBEq, Int.reduceLT, Int.reduceLE, Int.reduceToNat, ↓reduceIte, f0, f7, f8, f79, f80, f81, tt, hG, t1, t2, t3, t4, hr]
      exact ⟨by omega, (st0.next hb0 hb1).setAt hs5 (Nat.le_refl _) hpG, r, r2, r3, r4, rfl, hm, False.elim, False.elim, False.elim⟩
    | 1, _ =>
      simp (disch := first | omega | (simp only [fsLen]; omega)) only [↓fsPre, fsPost, fsGen, fsDefs, fsDefX, cls, reduceCtorEq, Nat.reduceAdd, Nat.reduceEqDiff, Int.reduceLT, Int.reduceLE, Int.reduceToNat, ↓reduceIte, f0, f7, f8, f80, f81, tt]
      refine callDT_D (next_ok _ p n 3 sl a12 (by simp (disch := first | omega | (simp only [fsLen]; omega)) only [hp6]) (by repeat (first | exact hs6 | apply CodesSl.app | apply CodesSl.set)) hb0 hb1 (by omega) (by omega)) rfl ?_
      rintro v h' ⟨x13, a13, e, x13a, x13b, hb0, hb1⟩
      cases e
      obtain ⟨r, hr, hm⟩ := texts_at ⟨#[]⟩ ⟨#[100, 58, 58, 112, 114, 101, 102, 105, 120, 95, 108, 101, 110, 103, 116, 104, 32, 62, 61, 32, 56]⟩ ⟨#[100, 58, 58, 112, 114, 101, 102, 105, 120, 95, 108, 101, 110, 103, 116, 104, 32, 61, 61, 32, 51, 50, 32, 45, 62, 32, 100, 58, 58, 118, 97, 108, 117, 101, 32, 62, 32, 48, 120, 102, 102]⟩ x13 x13a x13b
      simp (disch := first | omega | (simp only [fsLen]; omega)) only [↓fsPre, fsPost, fsCond, fsGen, fsDefs, fsDefX, cls, reduceCtorEq, Nat.reduceAdd, Nat.reduceLeDiff, Nat.reduceEqDiff, Nat.reduceBEq, Int.reduceLT, Int.reduceLE, Int.reduceAdd, Int.reduceToNat, ↓reduceIte, f0, f7, f8, f79, f80, f81, tt, hG, t1, t2, t3, t4, hr]
      exact ⟨by omega, (st0.next hb0 hb1).setAt hs5 (Nat.le_refl _) hpG, r1, r, r3, r4, rfl, q1 (by omega), hm, False.elim, False.elim⟩
    | 2, _ =>
      simp (disch := first | omega | (simp only [fsLen]; omega)) only [↓fsPre, fsPost, fsGen, fsDefs, fsDefX, cls, reduceCtorEq, Nat.reduceAdd, Nat.reduceEqDiff, Int.reduceLT, Int.reduceLE, Int.reduceToNat, ↓reduceIte, f0, f7, f8, f80, f81, tt]
      refine callDT_D (next_ok _ p n 3 sl a12 (by simp (disch := first | omega | (simp only [fsLen]; omega)) only [hp6]) (by repeat (first | exact hs6 | apply CodesSl.app | apply CodesSl.set)) hb0 hb1 (by omega) (by omega)) rfl ?_
      rintro v h' ⟨x13, a13, e, x13a, x13b, hb0, hb1⟩
      cases e
      obtain ⟨r, hr, hm⟩ := texts_at ⟨#[]⟩ ⟨#[112, 114, 105, 111, 114, 105, 116, 121, 32, 60, 32, 49, 48, 48, 32, 38, 38, 32, 40, 101, 58, 58, 109, 97, 115, 107, 32, 33, 61, 32, 48, 32, 124, 124, 32, 97, 58, 58, 109, 97, 115, 107, 32, 33, 61, 32, 48, 41]⟩ ⟨#[101, 58, 58, 109, 97, 115, 107, 32, 61, 61, 32, 48, 32, 45, 62, 32, 112, 114, 105, 111, 114, 105, 116, 121, 32, 62, 32, 53]⟩ x13 x13a x13b
      simp (disch := first | omega | (simp only [fsLen]; omega)) only [↓fsPre, fsPost, fsCond, fsGen, fsDefs, fsDefX, cls, reduceCtorEq, Nat.reduceAdd, Nat.reduceMul, Nat.reduceLeDiff, Nat.reduceEqDiff, Nat.reduceBEq, Int.reduceLT, Int.reduceLE, Int.reduceAdd, Int.reduceToNat, ↓reduceIte, f0, f7, f8, f79, f80, f81, tt, hG, t1, t2, t3, t4, hr]
      exact ⟨by omega, (st0.next hb0 hb1).setAt hs5 (Nat.le_refl _) hpG, r1, r2, r, r4, rfl, q1 (by omega), q2 (by omega), hm, False.elim⟩
    | 3, _ =>
      simp (disch := first | omega | (simp only [fsLen]; omega)) only [↓fsPre, fsPost, fsGen, fsDefs, fsDefX, cls, reduceCtorEq, Nat.reduceAdd, Nat.reduceEqDiff, Int.reduceLT, Int.reduceLE, Int.reduceToNat, ↓reduceIte, f0, f7, f8, f80, f81, tt]
      refine callDT_D (next_ok _ p n 3 sl a12 (by simp (disch := first | omega | (simp only [fsLen]; omega)) only [hp6]) (by repeat (first | exact hs6 | apply CodesSl.app | apply CodesSl.set)) hb0 hb1 (by omega) (by omega)) rfl ?_
      rintro v h' ⟨x13, a13, e, x13a, x13b, hb0, hb1⟩
      cases e
      obtain ⟨r, hr, hm⟩ := texts_at ⟨#[]⟩ ⟨#[102, 58, 58, 104, 105, 103, 104, 32, 45, 32, 102, 58, 58, 108, 111, 119, 32, 60, 61, 32, 48, 120, 49, 48, 48]⟩ ⟨#[33, 40, 102, 58, 58, 108, 111, 119, 32, 61, 61, 32, 48, 32, 38, 38, 32, 102, 58, 58, 104, 105, 103, 104, 32, 62, 32, 49, 48, 48, 48, 41]⟩ x13 x13a x13b
      simp (disch := first | omega | (simp only [fsLen]; omega)) only [↓fsPre, fsPost, fsCond, fsGen, fsDefs, fsDefX, cls, reduceCtorEq, Nat.reduceAdd, Nat.reduceMul, Nat.reduceLeDiff, Nat.reduceEqDiff, Nat.reduceBEq, Int.reduceLT, Int.reduceLE, Int.reduceAdd, Int.reduceToNat, ↓reduceIte, f0, f7, f8, f79, f80, f81, tt, hG, t1, t2, t3, t4, hr]
      exact ⟨by omega, (st0.next hb0 hb1).setAt hs5 (Nat.le_refl _) hpG, r1, r2, r3, r, rfl, q1 (by omega), q2 (by omega), q3 (by omega), hm⟩
  · rintro F h ⟨f0, f7, f8, f79, f80, f81, hl, st, t1, t2, t3, t4, tt, r1, r2, r3, r4, hG, q1, q2, q3, q4⟩
    simp (disch := first | omega | (simp only [fsLen]; omega)) only [↓fsPre, fsPost, fsGen, fsDefs, fsDefX, Nat.reduceEqDiff, ↓reduceIte, f7, f80, f81]
    refine ⟨⟨1 + x1, 2 + x2, m2, 3 + x3, m3, 4 + x6, m4, 3 + x9, r1, r2, r3, r4⟩, ?_, ⟨⟨by dsimp only; omega, by dsimp only; omega⟩, ⟨by dsimp only; omega, by dsimp only; omega⟩, ⟨by dsimp only; omega, by dsimp only; omega⟩, ⟨by dsimp only; omega, by dsimp only; omega⟩, ⟨by dsimp only; omega, by dsimp only; omega⟩, q1 (by omega), q2 (by omega), q3 (by omega), q4 (by omega)⟩, st'.trans st⟩
    have ext := st.ext.mono (show p + 1 ≤ H.length by omega)
    have kr1 := Tr.rep_ext ext kr1
    have kr2 := Tr.rep_ext ext kr2
    have kr3 := Tr.rep_ext ext kr3
    have kr4 := Tr.rep_ext ext kr4
    have cr1 := Tr.rep_ext ext cr1
    have cr2 := Tr.rep_ext ext cr2
    have cr3 := Tr.rep_ext ext cr3
    have cr4 := Tr.rep_ext ext cr4
    have dr1 := Tr.rep_ext ext dr1
    have dr2 := Tr.rep_ext ext dr2
    have dr3 := Tr.rep_ext ext dr3
    have dr4 := Tr.rep_ext ext dr4
    simp (disch := first | omega | (simp only [fsLen]; omega)) only [fsGen, fsDefs, Nat.reduceAdd, Nat.reduceLeDiff, Tr.rep_sl, Tr.repB_cells, Tr.repFlat_nil, Tr.repFlat_cons, Tr.repCells_nil, Tr.repCells_cons, rep_ti, rep_ts, TP.rows, tab1, tab2, tab3, tab4, hG, kr1, kr2, kr3, kr4, cr1, cr2, cr3, cr4, dr1, dr2, dr3, dr4]
    all_goals omega
end Go.Proofs
