/- Ref1, Ref2, Ref3, Ref4 in one text. -/
import Derived.Test.YtimimfbiejijdaaRCEntX
import Derived.Test.YtimimfbiejijdaaFsG
set_option linter.unusedSimpArgs false
set_option linter.unusedVariables false
set_option maxRecDepth 100000
namespace Go.Proofs
open Go.Ns

structure Rf where
  tab : Int
  key : Int
  act : Int
  par : Int
  tt : Int
  tk : Int
def Rf.cells (r : Rf) : List NV := [.int .i64 r.tab, .int .i64 r.key, .int .i64 r.act, .int .i64 r.par, .int .i64 r.tt, .int .i64 r.tk]
def rfC (R : List Rf) : List NV := R.flatMap Rf.cells
theorem rfC_length (R : List Rf) : (rfC R).length = R.length * 6 := length_flatMap_enc (fun r => (rfl : r.cells.length = 6)) R
theorem rf_cut (R : List Rf) (k : Nat) (hk : k < R.length) : cut (rfC R) (k * 6) 6 = some R[k].cells := cut_flatMap (fun r => (rfl : r.cells.length = 6)) hk
structure T4 where
  tab : Int
  key : Int
  v1 : Int
  v2 : Int
  deriving DecidableEq
def T4.cells (t : T4) : List NV := [.int .i64 t.tab, .int .i64 t.key, .int .u64 t.v1, .int .u64 t.v2]
def tC (l : List T4) : List NV := l.flatMap T4.cells
theorem tC_length (l : List T4) : (tC l).length = l.length * 4 := length_flatMap_enc (fun r => (rfl : r.cells.length = 4)) l
theorem tC_append (a b : List T4) : tC (a ++ b) = tC a ++ tC b := by simp [tC]
theorem tC_cut (l : List T4) (k : Nat) (hk : k < l.length) : cut (tC l) (k * 4) 4 = some l[k].cells := cut_flatMap (fun r => (rfl : r.cells.length = 4)) hk
def mV (e : En) (k : Int) : Int × Int := match e.ms[k.toNat]? with | some m => (m.v1, m.v2) | none => (0, 0)
def aV (e : En) (k : Int) : Int × Int := match e.args[k.toNat]? with | some a => a | none => (0, 0)
def need1 (r : Rf) (e : En) : Option T4 := if r.tab = e.tab then (if r.act = 0 then some ⟨r.tt, r.tk, (mV e r.key).1, (mV e r.key).2⟩ else if r.act = e.act then some ⟨r.tt, r.tk, (aV e r.par).1, (aV e r.par).2⟩ else none) else none
def needsL (R : List Rf) (e : En) : List T4 := R.filterMap fun r => need1 r e
theorem needsL_snoc (R : List Rf) (r : Rf) (e : En) : needsL (R ++ [r]) e = needsL R e ++ (match need1 r e with | some t => [t] | none => []) := by
  unfold needsL
  rw [List.filterMap_append, List.filterMap_cons, List.filterMap_nil]
  cases need1 r e <;> rfl
theorem needsL_le (R : List Rf) (e : En) : (needsL R e).length ≤ R.length := by unfold needsL; exact List.length_filterMap_le _ _
structure RfOK (r : Rf) (e : En) : Prop where
  k : r.tab = e.tab → r.act = 0 → 0 ≤ r.key ∧ r.key < e.ms.length
  p : r.tab = e.tab → ¬ r.act = 0 → r.act = e.act → 0 ≤ r.par ∧ r.par < e.args.length
  t : 0 ≤ r.tk ∧ r.tk < e.ms.length

theorem cut_sub {cs row : List NV} {o k a n : Nat} (h : cut cs o k = some row) (hn : a + n ≤ k) : cut cs (o + a) n = some ((row.drop a).take n) := by
  unfold cut at h ⊢
  split at h
  · cases h
    rw [if_pos (by omega)]
    congr 1
    apply List.ext_getElem?
    intro i
    by_cases hi : i < n
    · rw [List.getElem?_take_of_lt hi, List.getElem?_take_of_lt hi, List.getElem?_drop, List.getElem?_drop, List.getElem?_take_of_lt (by omega), List.getElem?_drop]
      congr 1; omega
    · rw [List.getElem?_eq_none (by rw [List.length_take]; omega), List.getElem?_eq_none (by rw [List.length_take]; omega)]
  · cases h
/-- Where the matches and the arguments of an entry lie. -/
theorem EnAt.parts {h : Heap} {N : Nat} {row : List NV} {e : En} (x : EnAt h N row e) : ∃ mv av, row = [.int .i64 e.tab, mv, .int .i64 e.pr, .int .i64 e.act, av] ∧ mv.one = true ∧ av.one = true ∧ (∃ a c, mv = .slice a e.ms.length c) ∧ (∃ a c, av = .slice a e.args.length c) ∧
    (∀ k : Int, 0 ≤ k ∧ k < e.ms.length → ∃ b cs, mv = .slice (some (b, 0)) e.ms.length (.opn 8) ∧ hget h b = some (.cells cs false) ∧ cut cs (k.toNat * 8 + 1) 2 = some [.int .u64 (mV e k).1, .int .u64 (mV e k).2]) ∧
    (∀ k : Int, 0 ≤ k ∧ k < e.args.length → ∃ b cs, av = .slice (some (b, 0)) e.args.length (.opn 2) ∧ hget h b = some (.cells cs false) ∧ cut cs (k.toNat * 2) 2 = some [.int .u64 (aV e k).1, .int .u64 (aV e k).2]) := by
  obtain ⟨mv, av, hr, g1, g2⟩ := x
  refine ⟨mv, av, hr, g1.one, g2.one, ?_, ?_, ?_, ?_⟩
  · obtain ⟨a, c, n, h1, h2⟩ := g1.shape (by omega)
    rw [mtC_length] at h2
    exact ⟨a, c, by rw [h1]; congr 1; omega⟩
  · obtain ⟨a, c, n, h1, h2⟩ := g2.shape (by omega)
    rw [arC_length] at h2
    exact ⟨a, c, by rw [h1]; congr 1; omega⟩
  · intro k hk
    rcases g1 with ⟨h1, _⟩ | ⟨b, n, h1, _, h3, h4, _⟩
    · have := congrArg List.length h1
      rw [mtC_length] at this
      simp at this; omega
    · rw [mtC_length] at h4
      have : n = e.ms.length := by omega
      subst this
      refine ⟨b, _, h1, h3, ?_⟩
      have hk2 : k.toNat < e.ms.length := by omega
      have hc := cut_sub (a := 1) (n := 2) (cut_flatMap Mt.cells_length hk2 : cut (mtC e.ms) (k.toNat * 8) 8 = _) (by omega)
      refine hc.trans ?_
      unfold mV
      rw [List.getElem?_eq_getElem hk2]; rfl
  · intro k hk
    rcases g2 with ⟨h1, _⟩ | ⟨b, n, h1, _, h3, h4, _⟩
    · have := congrArg List.length h1
      rw [arC_length] at this
      simp at this; omega
    · rw [arC_length] at h4
      have : n = e.args.length := by omega
      subst this
      refine ⟨b, _, h1, h3, ?_⟩
      have hk2 : k.toNat < e.args.length := by omega
      rw [show cut (arC e.args) (k.toNat * 2) 2 = _ from cut_flatMap (fun a => (rfl : (argC a).length = 2)) hk2]
      unfold aV
      rw [List.getElem?_eq_getElem hk2]; rfl

theorem matched_ok (N : Nat) (H : Heap) (row : List NV) (e : En) (x : EnAt H N row e) (k : Int) (hk : 0 ≤ k ∧ k < e.ms.length) : NCall Try.prog 29 [.agg row, .int .i64 k] H fun r => r = (.agg [.int .u64 (mV e k).1, .int .u64 (mV e k).2], H) := by
  obtain ⟨mv, av, rfl, om, oa, _, _, hm, _⟩ := x.parts
  obtain ⟨b, cs, rfl, hb, hc⟩ := hm k hk
  have hbl := hget_some_lt hb
  refine call_pure E0 mixed t29_ok (by kernel_rfl) ⟨trivial, trivial, trivial⟩ ?_
  simp only [t29]
  have e1 : decide (k < 0) = false := decide_eq_false (by omega)
  have e2 : decide ((e.ms.length : Int) ≤ k) = false := decide_eq_false (by omega)
  simp (disch := first | omega | (simp only [fsLen]; omega)) only [↓fsPre, fsPost, fsCond, fsGen, fsDefs, fsDefX, Nat.reduceAdd, Nat.reduceEqDiff, ↓reduceIte, oa, e1, e2, hb, hc]
  exact ⟨_, rfl⟩
theorem argument_ok (N : Nat) (H : Heap) (row : List NV) (e : En) (x : EnAt H N row e) (k : Int) (hk : 0 ≤ k ∧ k < e.args.length) : NCall Try.prog 30 [.agg row, .int .i64 k] H fun r => r = (.agg [.int .u64 (aV e k).1, .int .u64 (aV e k).2], H) := by
  obtain ⟨mv, av, rfl, om, oa, _, _, _, hm⟩ := x.parts
  obtain ⟨b, cs, rfl, hb, hc⟩ := hm k hk
  have hbl := hget_some_lt hb
  refine call_pure E0 mixed t30_ok (by kernel_rfl) ⟨trivial, trivial, trivial⟩ ?_
  simp only [t30]
  have e1 : decide (k < 0) = false := decide_eq_false (by omega)
  have e2 : decide ((e.args.length : Int) ≤ k) = false := decide_eq_false (by omega)
  simp (disch := first | omega | (simp only [fsLen]; omega)) only [↓fsPre, fsPost, fsCond, fsGen, fsDefs, fsDefX, Nat.reduceAdd, Nat.reduceEqDiff, ↓reduceIte, om, e1, e2, hb, hc]
  exact ⟨_, rfl⟩

/-- A schema with references, as the references need it. -/
structure RfV (h : Heap) (R : List Rf) (z0 z1 z2 z3 z4 z5 z6 z7 z8 z9 : NV) : Prop where
  o : z0.one = true ∧ z1.one = true ∧ z2.one = true ∧ z3.one = true ∧ z4.one = true ∧ z5.one = true ∧ z6.one = true ∧ z8.one = true ∧ z9.one = true
  r : ∃ b c cs ro, z7 = .slice (some (b, 0)) R.length c ∧ hget h b = some (.cells cs ro) ∧ ∀ k (hk : k < R.length), cut cs (k * 6) 6 = some R[k].cells
theorem RfV.mono {h h' : Heap} {R : List Rf} {z0 z1 z2 z3 z4 z5 z6 z7 z8 z9 : NV} (s : RfV h R z0 z1 z2 z3 z4 z5 z6 z7 z8 z9) (k : ∀ b, b < h.length → hget h' b = hget h b) : RfV h' R z0 z1 z2 z3 z4 z5 z6 z7 z8 z9 := by
  obtain ⟨o, b, c, cs, ro, h1, h2, h3⟩ := s
  exact ⟨o, b, c, cs, ro, h1, by rw [k b (hget_lt h2)]; exact h2, h3⟩
theorem EnAt.mono {h h' : Heap} {N : Nat} {row : List NV} {e : En} (x : EnAt h N row e) (k : ∀ b, b < h.length → hget h' b = hget h b) : EnAt h' N row e := x.ext fun b y _ hb => by rw [k b (hget_lt hb)]; exact hb

structure NdI (H : Heap) (zs row : List NV) (h : Heap) : Prop where
  len : H.length + 2 ≤ h.length
  old : ∀ b, b < H.length → hget h b = hget H b
  b2 : hget h H.length = some (.cells zs false)
  b3 : hget h (H.length + 1) = some (.cells row false)
def listQ (H : Heap) (l : List T4) (r : NV × Heap) : Prop := H.length ≤ r.2.length ∧ (∀ b, b < H.length → hget r.2 b = hget H b) ∧ GrC r.2 H.length (tC l) 4 r.1

set_option maxHeartbeats 2000000 in
theorem needs_ok (N : Nat) (H : Heap) (R : List Rf) (z0 z1 z2 z3 z4 z5 z6 z7 z8 z9 : NV) (s : RfV H R z0 z1 z2 z3 z4 z5 z6 z7 z8 z9) (hR : R.length ≤ 10) (row : List NV) (e : En) (xE : EnAt H N row e) (hok : ∀ r ∈ R, RfOK r e) :
    DCall Try.prog 11 [.agg [z0, z1, z2, z3, z4, z5, z6, z7, z8, z9], .agg row] H (listQ H (needsL R e)) := by
  obtain ⟨⟨o0, o1, o2, o3, o4, o5, o6, o8, o9⟩, b, c, cs, ro, rfl, hb, hcut⟩ := s
  obtain ⟨mv, av, rfl, om, oa, hms, has, hm, ha⟩ := xE.parts
  have hbl := hget_some_lt hb
  refine call_det E0 rfl mixed t11_ok (by kernel_rfl) (by rintro q ⟨h, _⟩; exact h) ?_
  simp only [t11]
  simp (disch := first | omega | (simp only [fsLen]; omega)) only [↓fsPre, fsPost, fsCond, fsGen, fsDefs, Nat.reduceEqDiff, ↓reduceIte, o0, o1, o2, o3, o4, o5, o6, o8, o9, om, oa]
  refine wloop (fun k F h => F 2 = .ptr (some (H.length, 0)) ∧ F 3 = .ptr (some (H.length + 1, 0)) ∧ F 9 = .slice (some (b, 0)) R.length c ∧ F 10 = .int .i64 R.length ∧ F 11 = .int .i64 k ∧
    NdI H [z0, z1, z2, z3, z4, z5, z6, .slice (some (b, 0)) R.length c, z8, z9] [.int .i64 e.tab, mv, .int .i64 e.pr, .int .i64 e.act, av] h ∧ GrC h (H.length + 2) (tC (needsL (R.take k) e)) 4 (F 5)) R.length ?_ ?_ ?_
  · simp (disch := first | omega | (simp only [fsLen]; omega)) only [↓fsPre, fsGen, Nat.reduceEqDiff, ↓reduceIte]
    exact ⟨⟨by simp, fun q hq => hget_appl hq, by simp (disch := first | omega | (simp only [fsLen]; omega)) only [fsPost, fsCond, fsGen], by simp (disch := first | omega | (simp only [fsLen]; omega)) only [fsPost, fsCond, fsGen]⟩, .nil⟩
  · rintro k F h hk ⟨f2, f3, f9, f10, f11, ⟨len, old, b2, b3⟩, out⟩
    have hb' : hget h b = some (.cells cs ro) := by rw [old b hbl]; exact hb
    have hcr := hcut k hk
    have hr := hok _ (List.getElem_mem hk)
    have hstep := needsL_snoc (R.take k) R[k] e
    have htk : R.take (k + 1) = R.take k ++ [R[k]] := by rw [List.take_add_one, List.getElem?_eq_getElem hk]; rfl
    rw [← htk] at hstep
    have hle := needsL_le (R.take k) e
    rw [List.length_take] at hle
    generalize R[k] = r at *
    generalize hv5 : F 5 = v5 at *
    have o5v := out.one
    by_cases h1 : r.tab = e.tab
    · by_cases h2 : r.act = 0
      · have hrk := hr.k h1 h2
        obtain ⟨bm, csm, hmv, hbm, hcm⟩ := hm _ hrk
        have hbml := hget_some_lt hbm
        have hbm' : hget h bm = some (.cells csm false) := by rw [old bm hbml]; exact hbm
        simp (disch := first | omega | (simp only [fsLen]; omega)) only [↓fsPre, fsPost, fsCond, fsGen, fsDefs, fsDefX, cls, Nat.reduceAdd, Nat.reduceEqDiff, ↓reduceIte, f3, f9, f10, f11, b3, hv5, hb', hcr, Rf.cells, h1, h2]
        refine callDT_one (matched_ok N _ _ e (xE.mono fun q hq => by rw [hget_appl (by omega), old q hq]) _ hrk) rfl ?_
        simp (disch := first | omega | (simp only [fsLen]; omega)) only [↓fsPre, fsPost, fsCond, fsGen, fsDefs, cls, Nat.reduceAdd, Nat.reduceLeDiff, Nat.reduceEqDiff, Nat.reduceBEq, ↓reduceIte]
        refine grc_app (N := H.length + 2) (new := [.int .i64 r.tt, .int .i64 r.tk, .int .u64 (mV e r.key).1, .int .u64 (mV e r.key).2]) (out.ext Ext.app) (by simp only [List.length_append]; omega) (sliceCells_at (by simp (disch := first | omega | (simp only [fsLen]; omega)) only [fsPost, fsCond, fsGen] <;> rfl) rfl) rfl (by omega) (by omega) rfl (by rw [tC_length]; omega) (by omega) (by omega) ?_
        intro v' h' hg' hl' old'
        have hn : need1 r e = some ⟨r.tt, r.tk, (mV e r.key).1, (mV e r.key).2⟩ := by unfold need1; rw [if_pos h1, if_pos h2]
        rw [hn] at hstep
        simp only [List.length_append, List.length_cons, List.length_nil] at hl'
        have hlg : h.length + 1 ≤ h'.length := by omega
        have d2 := (old' H.length (by omega)).trans ((hget_appl (by omega)).trans b2)
        have d3 := (old' (H.length + 1) (by omega)).trans ((hget_appl (by omega)).trans b3)
        have hlg2 : h.length + 2 ≤ h'.length := by omega
        simp (disch := first | omega | (simp only [fsLen]; omega)) only [↓fsPre, fsPost, fsCond, fsGen, fsDefX, cls, Nat.reduceAdd, Nat.reduceEqDiff, Nat.reduceBEq, ↓reduceIte, f2, f3, f9, f10, f11, hlg2]
        refine ⟨⟨by omega, fun q hq => (old' q (by omega)).trans ((hget_appl (by omega)).trans (old q hq)), d2, d3⟩, ?_⟩
        rw [hstep, tC_append]
        exact hg'
      · by_cases h3 : r.act = e.act
        · have hrk := hr.p h1 h2 h3
          obtain ⟨bm, csm, hmv, hbm, hcm⟩ := ha _ hrk
          have hbml := hget_some_lt hbm
          have hbm' : hget h bm = some (.cells csm false) := by rw [old bm hbml]; exact hbm
          simp (disch := first | omega | (simp only [fsLen]; omega)) only [↓fsPre, fsPost, fsCond, fsGen, fsDefs, fsDefX, cls, Nat.reduceAdd, Nat.reduceEqDiff, ↓reduceIte, f3, f9, f10, f11, b3, hv5, hb', hcr, Rf.cells, h1, h3]
          refine callDT_one (argument_ok N _ _ e (xE.mono fun q hq => by rw [hget_appl (by omega), old q hq]) _ hrk) rfl ?_
          simp (disch := first | omega | (simp only [fsLen]; omega)) only [↓fsPre, fsPost, fsCond, fsGen, fsDefs, cls, Nat.reduceAdd, Nat.reduceLeDiff, Nat.reduceEqDiff, Nat.reduceBEq, ↓reduceIte]
          refine grc_app (N := H.length + 2) (new := [.int .i64 r.tt, .int .i64 r.tk, .int .u64 (aV e r.par).1, .int .u64 (aV e r.par).2]) (out.ext Ext.app) (by simp only [List.length_append]; omega) (sliceCells_at (by simp (disch := first | omega | (simp only [fsLen]; omega)) only [fsPost, fsCond, fsGen] <;> rfl) rfl) rfl (by omega) (by omega) rfl (by rw [tC_length]; omega) (by omega) (by omega) ?_
          intro v' h' hg' hl' old'
          have hn : need1 r e = some ⟨r.tt, r.tk, (aV e r.par).1, (aV e r.par).2⟩ := by unfold need1; rw [if_pos h1, if_neg h2, if_pos h3]
          rw [hn] at hstep
          simp only [List.length_append, List.length_cons, List.length_nil] at hl'
          have hlg : h.length + 1 ≤ h'.length := by omega
          have d2 := (old' H.length (by omega)).trans ((hget_appl (by omega)).trans b2)
          have d3 := (old' (H.length + 1) (by omega)).trans ((hget_appl (by omega)).trans b3)
          have hlg2 : h.length + 2 ≤ h'.length := by omega
          simp (disch := first | omega | (simp only [fsLen]; omega)) only [↓fsPre, fsPost, fsCond, fsGen, fsDefX, cls, Nat.reduceAdd, Nat.reduceEqDiff, Nat.reduceBEq, ↓reduceIte, f2, f3, f9, f10, f11, hlg2]
          refine ⟨⟨by omega, fun q hq => (old' q (by omega)).trans ((hget_appl (by omega)).trans (old q hq)), d2, d3⟩, ?_⟩
          rw [hstep, tC_append]
          exact hg'
        · simp (disch := first | omega | (simp only [fsLen]; omega)) only [↓fsPre, fsPost, fsCond, fsGen, fsDefs, fsDefX, Nat.reduceAdd, Nat.reduceEqDiff, ↓reduceIte, f2, f3, f9, f10, f11, b3, hv5, hb', hcr, Rf.cells, h1, h2, h3]
          have hn : need1 r e = none := by unfold need1; rw [if_pos h1, if_neg h2, if_neg h3]
          rw [hn, List.append_nil] at hstep
          refine ⟨⟨by simp only [List.length_append]; omega, fun q hq => (hget_appl (by omega)).trans (old q hq), (hget_appl (by omega)).trans b2, (hget_appl (by omega)).trans b3⟩, ?_⟩
          rw [hstep]; exact out.ext Ext.app
    · simp (disch := first | omega | (simp only [fsLen]; omega)) only [↓fsPre, fsPost, fsCond, fsGen, fsDefs, fsDefX, Nat.reduceAdd, Nat.reduceEqDiff, ↓reduceIte, f2, f3, f9, f10, f11, b3, hv5, hb', hcr, Rf.cells, h1]
      have hn : need1 r e = none := by unfold need1; rw [if_neg h1]
      rw [hn, List.append_nil] at hstep
      refine ⟨⟨by simp only [List.length_append]; omega, fun q hq => (hget_appl (by omega)).trans (old q hq), (hget_appl (by omega)).trans b2, (hget_appl (by omega)).trans b3⟩, ?_⟩
      rw [hstep]; exact out.ext Ext.app
  · rintro F h ⟨f2, f3, f9, f10, f11, ⟨len, old, b2, b3⟩, out⟩
    rw [List.take_length] at out
    simp (disch := first | omega | (simp only [fsLen]; omega)) only [↓fsPre, fsPost, fsGen, fsDefs, fsDefX, Nat.reduceEqDiff, ↓reduceIte, f10, f11]
    exact ⟨Nat.le_trans (Nat.le_add_right _ 2) len, old, out.low (by omega)⟩

set_option maxHeartbeats 2000000 in
theorem rneeds_ok (N : Nat) (H : Heap) (R : List Rf) (z0 z1 z2 z3 z4 z5 z6 z7 z8 z9 : NV) (s : RfV H R z0 z1 z2 z3 z4 z5 z6 z7 z8 z9) (hR : R.length ≤ 10) (row : List NV) (e : En) (xE : EnAt H N row e) (hok : ∀ r ∈ R, RfOK r e) :
    DCall Try.prog 12 [.agg [z0, z1, z2, z3, z4, z5, z6, z7, z8, z9], .agg row] H (listQ H (needsL R e)) := by
  obtain ⟨⟨o0, o1, o2, o3, o4, o5, o6, o8, o9⟩, b, c, cs, ro, rfl, hb, hcut⟩ := s
  obtain ⟨mv, av, rfl, om, oa, hms, has, hm, ha⟩ := xE.parts
  have hbl := hget_some_lt hb
  refine call_det E0 rfl mixed t12_ok (by kernel_rfl) (by rintro q ⟨h, _⟩; exact h) ?_
  simp only [t12]
  simp (disch := first | omega | (simp only [fsLen]; omega)) only [↓fsPre, fsPost, fsCond, fsGen, fsDefs, Nat.reduceEqDiff, ↓reduceIte, o0, o1, o2, o3, o4, o5, o6, o8, o9, om, oa]
  refine wloop (fun k F h => F 2 = .ptr (some (H.length, 0)) ∧ F 3 = .ptr (some (H.length + 1, 0)) ∧ F 9 = .slice (some (b, 0)) R.length c ∧ F 10 = .int .i64 R.length ∧ F 11 = .int .i64 k ∧
    NdI H [z0, z1, z2, z3, z4, z5, z6, .slice (some (b, 0)) R.length c, z8, z9] [.int .i64 e.tab, mv, .int .i64 e.pr, .int .i64 e.act, av] h ∧ GrC h (H.length + 2) (tC (needsL (R.take k) e)) 4 (F 5)) R.length ?_ ?_ ?_
  · simp (disch := first | omega | (simp only [fsLen]; omega)) only [↓fsPre, fsGen, Nat.reduceEqDiff, ↓reduceIte]
    exact ⟨⟨by simp, fun q hq => hget_appl hq, by simp (disch := first | omega | (simp only [fsLen]; omega)) only [fsPost, fsCond, fsGen], by simp (disch := first | omega | (simp only [fsLen]; omega)) only [fsPost, fsCond, fsGen]⟩, .nil⟩
  · rintro k F h hk ⟨f2, f3, f9, f10, f11, ⟨len, old, b2, b3⟩, out⟩
    have hb' : hget h b = some (.cells cs ro) := by rw [old b hbl]; exact hb
    have hcr := hcut k hk
    have hr := hok _ (List.getElem_mem hk)
    have hstep := needsL_snoc (R.take k) R[k] e
    have htk : R.take (k + 1) = R.take k ++ [R[k]] := by rw [List.take_add_one, List.getElem?_eq_getElem hk]; rfl
    rw [← htk] at hstep
    have hle := needsL_le (R.take k) e
    rw [List.length_take] at hle
    generalize R[k] = r at *
    generalize hv5 : F 5 = v5 at *
    have o5v := out.one
    by_cases h1 : r.tab = e.tab
    · by_cases h2 : r.act = 0
      · have hrk := hr.k h1 h2
        obtain ⟨bm, csm, hmv, hbm, hcm⟩ := hm _ hrk
        have hbml := hget_some_lt hbm
        have hbm' : hget h bm = some (.cells csm false) := by rw [old bm hbml]; exact hbm
        rw [hmv] at b3
        simp (disch := first | omega | (simp only [fsLen]; omega)) only [↓fsPre, fsPost, fsCond, fsGen, fsDefs, fsDefX, cls, Nat.reduceAdd, Nat.reduceLeDiff, Nat.reduceEqDiff, Nat.reduceBEq, ↓reduceIte, f3, f9, f10, f11, b3, hv5, hb', hcr, Rf.cells, h1, h2, hbm', hcm]
        refine grc_app (N := H.length + 2) (new := [.int .i64 r.tt, .int .i64 r.tk, .int .u64 (mV e r.key).1, .int .u64 (mV e r.key).2]) (out.ext Ext.app) (by simp only [List.length_append]; omega) (sliceCells_at (by simp (disch := first | omega | (simp only [fsLen]; omega)) only [fsPost, fsCond, fsGen] <;> rfl) rfl) rfl (by omega) (by omega) rfl (by rw [tC_length]; omega) (by omega) (by omega) ?_
        intro v' h' hg' hl' old'
        have hbm2 := (old' bm (by omega)).trans ((hget_appl (by omega)).trans hbm')
        have hn : need1 r e = some ⟨r.tt, r.tk, (mV e r.key).1, (mV e r.key).2⟩ := by unfold need1; rw [if_pos h1, if_pos h2]
        rw [hn] at hstep
        simp only [List.length_append, List.length_cons, List.length_nil] at hl'
        have hlg : h.length + 1 ≤ h'.length := by omega
        have d2 := (old' H.length (by omega)).trans ((hget_appl (by omega)).trans b2)
        have d3 := (old' (H.length + 1) (by omega)).trans ((hget_appl (by omega)).trans b3)
        have hlg2 : h.length + 2 ≤ h'.length := by omega
        simp (disch := first | omega | (simp only [fsLen]; omega)) only [↓fsPre, fsPost, fsCond, fsGen, fsDefX, cls, Nat.reduceAdd, Nat.reduceEqDiff, Nat.reduceBEq, ↓reduceIte, f2, f3, f9, f10, f11, hlg2]
        refine ⟨⟨by omega, fun q hq => (old' q (by omega)).trans ((hget_appl (by omega)).trans (old q hq)), d2, by rw [hmv]; exact d3⟩, ?_⟩
        rw [hstep, tC_append]
        exact hg'
      · by_cases h3 : r.act = e.act
        · have hrk := hr.p h1 h2 h3
          obtain ⟨bm, csm, hmv, hbm, hcm⟩ := ha _ hrk
          have hbml := hget_some_lt hbm
          have hbm' : hget h bm = some (.cells csm false) := by rw [old bm hbml]; exact hbm
          rw [hmv] at b3
          simp (disch := first | omega | (simp only [fsLen]; omega)) only [↓fsPre, fsPost, fsCond, fsGen, fsDefs, fsDefX, cls, Nat.reduceAdd, Nat.reduceLeDiff, Nat.reduceEqDiff, Nat.reduceBEq, ↓reduceIte, f3, f9, f10, f11, b3, hv5, hb', hcr, Rf.cells, h1, h3, hbm', hcm]
          refine grc_app (N := H.length + 2) (new := [.int .i64 r.tt, .int .i64 r.tk, .int .u64 (aV e r.par).1, .int .u64 (aV e r.par).2]) (out.ext Ext.app) (by simp only [List.length_append]; omega) (sliceCells_at (by simp (disch := first | omega | (simp only [fsLen]; omega)) only [fsPost, fsCond, fsGen] <;> rfl) rfl) rfl (by omega) (by omega) rfl (by rw [tC_length]; omega) (by omega) (by omega) ?_
          intro v' h' hg' hl' old'
          have hbm2 := (old' bm (by omega)).trans ((hget_appl (by omega)).trans hbm')
          have hn : need1 r e = some ⟨r.tt, r.tk, (aV e r.par).1, (aV e r.par).2⟩ := by unfold need1; rw [if_pos h1, if_neg h2, if_pos h3]
          rw [hn] at hstep
          simp only [List.length_append, List.length_cons, List.length_nil] at hl'
          have hlg : h.length + 1 ≤ h'.length := by omega
          have d2 := (old' H.length (by omega)).trans ((hget_appl (by omega)).trans b2)
          have d3 := (old' (H.length + 1) (by omega)).trans ((hget_appl (by omega)).trans b3)
          have hlg2 : h.length + 2 ≤ h'.length := by omega
          simp (disch := first | omega | (simp only [fsLen]; omega)) only [↓fsPre, fsPost, fsCond, fsGen, fsDefX, cls, Nat.reduceAdd, Nat.reduceEqDiff, Nat.reduceBEq, ↓reduceIte, f2, f3, f9, f10, f11, hlg2]
          refine ⟨⟨by omega, fun q hq => (old' q (by omega)).trans ((hget_appl (by omega)).trans (old q hq)), d2, by rw [hmv]; exact d3⟩, ?_⟩
          rw [hstep, tC_append]
          exact hg'
        · simp (disch := first | omega | (simp only [fsLen]; omega)) only [↓fsPre, fsPost, fsCond, fsGen, fsDefs, fsDefX, Nat.reduceAdd, Nat.reduceEqDiff, ↓reduceIte, f2, f3, f9, f10, f11, b3, hv5, hb', hcr, Rf.cells, h1, h2, h3]
          have hn : need1 r e = none := by unfold need1; rw [if_pos h1, if_neg h2, if_neg h3]
          rw [hn, List.append_nil] at hstep
          refine ⟨⟨by simp only [List.length_append]; omega, fun q hq => (hget_appl (by omega)).trans (old q hq), (hget_appl (by omega)).trans b2, (hget_appl (by omega)).trans b3⟩, ?_⟩
          rw [hstep]; exact out.ext Ext.app
    · simp (disch := first | omega | (simp only [fsLen]; omega)) only [↓fsPre, fsPost, fsCond, fsGen, fsDefs, fsDefX, Nat.reduceAdd, Nat.reduceEqDiff, ↓reduceIte, f2, f3, f9, f10, f11, b3, hv5, hb', hcr, Rf.cells, h1]
      have hn : need1 r e = none := by unfold need1; rw [if_neg h1]
      rw [hn, List.append_nil] at hstep
      refine ⟨⟨by simp only [List.length_append]; omega, fun q hq => (hget_appl (by omega)).trans (old q hq), (hget_appl (by omega)).trans b2, (hget_appl (by omega)).trans b3⟩, ?_⟩
      rw [hstep]; exact out.ext Ext.app
  · rintro F h ⟨f2, f3, f9, f10, f11, ⟨len, old, b2, b3⟩, out⟩
    rw [List.take_length] at out
    simp (disch := first | omega | (simp only [fsLen]; omega)) only [↓fsPre, fsPost, fsGen, fsDefs, fsDefX, Nat.reduceEqDiff, ↓reduceIte, f10, f11]
    exact ⟨Nat.le_trans (Nat.le_add_right _ 2) len, old, out.low (by omega)⟩


/-- A list of targets, as it lies in a heap. -/
theorem grc_list {h : Heap} {N : Nat} {l : List T4} {v : NV} (g : GrC h N (tC l) 4 v) : ∃ a c, v = .slice a l.length c ∧ ∀ k (hk : k < l.length), ∃ b, a = some (b, 0) ∧ hget h b = some (.cells (tC l) false) ∧ cut (tC l) (k * 4) 4 = some l[k].cells := by
  rcases g with ⟨h1, rfl⟩ | ⟨b, n, rfl, _, h3, h4, _⟩
  · have := congrArg List.length h1
    rw [tC_length] at this
    have h0 : l.length = 0 := by simp at this; omega
    exact ⟨none, .fix 0, by rw [h0], fun k hk => by omega⟩
  · rw [tC_length] at h4
    have : n = l.length := by omega
    subst this
    exact ⟨some (b, 0), .opn 4, rfl, fun k hk => ⟨b, rfl, h3, tC_cut l k hk⟩⟩
theorem t4_eq (a b : T4) : (a.tab = b.tab ∧ a.key = b.key ∧ a.v1 = b.v1 ∧ a.v2 = b.v2) ↔ a = b := by
  cases a; cases b; simp
theorem mem_take_succ (l : List T4) (t : T4) (k : Nat) (hk : k < l.length) : t ∈ l.take (k + 1) ↔ t ∈ l.take k ∨ t = l[k] := by
  rw [List.take_add_one, List.getElem?_eq_getElem hk]
  simp only [Option.toList_some, List.mem_append, List.mem_singleton]

theorem tindex_ok (N : Nat) (H : Heap) (l : List T4) (v : NV) (t : T4) (g : GrC H N (tC l) 4 v) (hl : l.length ≤ 1000) : DCall Try.prog 47 [v, .agg t.cells] H fun r => ∃ i L, r = (.int .i64 i, H ++ L) ∧ (0 ≤ i ↔ t ∈ l) := by
  obtain ⟨a, c, rfl, hrow⟩ := grc_list g
  refine call_det E0 rfl mixed t47_ok (by kernel_rfl) (by rintro q ⟨_, _, rfl, _⟩; simp) ?_
  simp only [t47]
  simp (disch := first | omega | (simp only [fsLen]; omega)) only [↓fsPre, fsPost, fsGen, fsDefs, reduceCtorEq, Int.reduceNeg, ↓reduceIte, T4.cells]
  refine wloop (fun k F h => F 0 = .slice a l.length c ∧ F 3 = .ptr (some (H.length, 0)) ∧ F 7 = .int .i64 l.length ∧ F 8 = .int .i64 k ∧ h = H ++ [some (.cells [.int .i64 t.tab, .int .i64 t.key, .int .u64 t.v1, .int .u64 t.v2] false)] ∧ ¬ t ∈ l.take k) l.length ?_ ?_ ?_
  · simp (disch := first | omega | (simp only [fsLen]; omega)) only [↓fsPre, fsGen, reduceCtorEq, Nat.reduceEqDiff, ↓reduceIte]
  · rintro k F h hk ⟨f0, f3, f7, f8, rfl, hn⟩
    obtain ⟨b, rfl, hb, hc⟩ := hrow k hk
    have hbl := hget_some_lt hb
    have hm := mem_take_succ l t k hk
    have hin := List.getElem_mem hk
    generalize l[k] = x at *
    simp (disch := first | omega | (simp only [fsLen]; omega)) only [↓fsPre, fsPost, fsCond, fsGen, fsDefs, fsDefX, cls, eqVal, reduceCtorEq, Nat.reduceAdd, Nat.reduceEqDiff, Int.reduceNeg, ↓reduceIte, f0, f3, f7, f8, hb, hc, T4.cells]
    refine condK_dec (fun he => ?_) (fun he => ?_)
    · simp (disch := first | omega | (simp only [fsLen]; omega)) only [↓fsPre, fsPost, fsGen, fsDefs, Nat.reduceEqDiff, Int.reduceNeg, ↓reduceIte]
      have := (t4_eq t x).1 he
      refine ⟨k, _, rfl, ?_⟩
      rw [this]
      exact ⟨fun _ => hin, fun _ => by omega⟩
    · simp (disch := first | omega | (simp only [fsLen]; omega)) only [↓fsPre, fsPost, fsCond, fsGen, fsDefX, reduceCtorEq, Nat.reduceEqDiff, Int.reduceNeg, ↓reduceIte, f0, f3, f7, f8]
      rw [hm]
      rintro (h | h)
      · exact hn h
      · exact he ((t4_eq t x).2 h)
  · rintro F h ⟨f0, f3, f7, f8, rfl, hn⟩
    rw [List.take_length] at hn
    simp (disch := first | omega | (simp only [fsLen]; omega)) only [↓fsPre, fsPost, fsGen, fsDefs, fsDefX, Int.reduceNeg, ↓reduceIte, f7, f8]
    exact ⟨-1, _, rfl, ⟨fun h => by omega, fun h => absurd h hn⟩⟩

theorem contains_ok (N : Nat) (H : Heap) (l : List T4) (v : NV) (t : T4) (g : GrC H N (tC l) 4 v) (hl : l.length ≤ 1000) : NCall Try.prog 31 [v, .agg t.cells] H fun r => r = (.bool (decide (t ∈ l)), H) := by
  refine call_pure E0 mixed t31_ok (by kernel_rfl) trivial ?_
  have hi := fun L => tindex_ok N (H ++ L) l v t (g.ext Ext.app) hl
  simp only [t31, T4.cells] at hi ⊢
  simp (disch := first | omega | (simp only [fsLen]; omega)) only [↓fsPre, fsPost, fsCond, fsGen, reduceCtorEq, Nat.reduceAdd, Nat.reduceEqDiff, ↓reduceIte]
  refine callT_D (hi _) rfl ?_
  rintro v' h' ⟨i, L, e, hiff⟩
  cases e
  simp (disch := first | omega | (simp only [fsLen]; omega)) only [↓fsPre, fsPost, fsGen, fsDefs, fsDefX, ↓reduceIte]
  exact ⟨by rw [decide_eq_decide.2 hiff], _, rfl⟩

def tgt (r : Rf) (e : En) : T4 := ⟨r.tt, r.tk, (mV e r.tk).1, (mV e r.tk).2⟩
def provL (R : List Rf) (e : En) : List T4 := R.foldl (fun out r => if r.tt = e.tab ∧ ¬ tgt r e ∈ out then out ++ [tgt r e] else out) []
theorem provL_snoc (R : List Rf) (r : Rf) (e : En) : provL (R ++ [r]) e = if r.tt = e.tab ∧ ¬ tgt r e ∈ provL R e then provL R e ++ [tgt r e] else provL R e := by
  unfold provL; rw [List.foldl_append]; rfl
theorem provL_le (R : List Rf) (e : En) : (provL R e).length ≤ R.length := by
  have key : ∀ (R : List Rf) (o : List T4), (R.foldl (fun out r => if r.tt = e.tab ∧ ¬ tgt r e ∈ out then out ++ [tgt r e] else out) o).length ≤ o.length + R.length := by
    intro R
    induction R with
    | nil => intro o; simp
    | cons r R ih =>
      intro o
      rw [List.foldl_cons]
      refine Nat.le_trans (ih _) ?_
      split
      · simp only [List.length_append, List.length_cons, List.length_nil]; omega
      · simp only [List.length_cons]; omega
  have := key R []
  simpa [provL] using this

set_option maxHeartbeats 2000000 in
theorem provides_ok (N : Nat) (H : Heap) (R : List Rf) (z0 z1 z2 z3 z4 z5 z6 z7 z8 z9 : NV) (s : RfV H R z0 z1 z2 z3 z4 z5 z6 z7 z8 z9) (hR : R.length ≤ 10) (row : List NV) (e : En) (xE : EnAt H N row e) (hok : ∀ r ∈ R, RfOK r e) :
    DCall Try.prog 13 [.agg [z0, z1, z2, z3, z4, z5, z6, z7, z8, z9], .agg row] H (listQ H (provL R e)) := by
  obtain ⟨⟨o0, o1, o2, o3, o4, o5, o6, o8, o9⟩, b, c, cs, ro, rfl, hb, hcut⟩ := s
  obtain ⟨mv, av, rfl, om, oa, hms, has, hm, ha⟩ := xE.parts
  have hbl := hget_some_lt hb
  refine call_det E0 rfl mixed t13_ok (by kernel_rfl) (by rintro q ⟨h, _⟩; exact h) ?_
  simp only [t13]
  simp (disch := first | omega | (simp only [fsLen]; omega)) only [↓fsPre, fsPost, fsCond, fsGen, fsDefs, Nat.reduceEqDiff, ↓reduceIte, o0, o1, o2, o3, o4, o5, o6, o8, o9, om, oa]
  refine wloop (fun k F h => F 2 = .ptr (some (H.length, 0)) ∧ F 3 = .ptr (some (H.length + 1, 0)) ∧ F 10 = .slice (some (b, 0)) R.length c ∧ F 11 = .int .i64 R.length ∧ F 12 = .int .i64 k ∧
    NdI H [z0, z1, z2, z3, z4, z5, z6, .slice (some (b, 0)) R.length c, z8, z9] [.int .i64 e.tab, mv, .int .i64 e.pr, .int .i64 e.act, av] h ∧ GrC h (H.length + 2) (tC (provL (R.take k) e)) 4 (F 5)) R.length ?_ ?_ ?_
  · simp (disch := first | omega | (simp only [fsLen]; omega)) only [↓fsPre, fsGen, Nat.reduceEqDiff, ↓reduceIte]
    exact ⟨⟨by simp, fun q hq => hget_appl hq, by simp (disch := first | omega | (simp only [fsLen]; omega)) only [fsPost, fsCond, fsGen], by simp (disch := first | omega | (simp only [fsLen]; omega)) only [fsPost, fsCond, fsGen]⟩, .nil⟩
  · rintro k F h hk ⟨f2, f3, f10, f11, f12, ⟨len, old, b2, b3⟩, out⟩
    have hb' : hget h b = some (.cells cs ro) := by rw [old b hbl]; exact hb
    have hcr := hcut k hk
    have hr := hok _ (List.getElem_mem hk)
    have hstep := provL_snoc (R.take k) R[k] e
    have htk : R.take (k + 1) = R.take k ++ [R[k]] := by rw [List.take_add_one, List.getElem?_eq_getElem hk]; rfl
    rw [← htk] at hstep
    have hle := provL_le (R.take k) e
    rw [List.length_take] at hle
    generalize R[k] = r at *
    generalize hv5 : F 5 = v5 at *
    have o5v := out.one
    have hma := fun L => matched_ok N (h ++ L) _ e (xE.mono fun q hq => by rw [hget_appl (by omega), old q hq]) r.tk hr.t
    have hco := fun L => contains_ok (H.length + 2) (h ++ L) _ v5 (tgt r e) (out.ext Ext.app) (by omega)
    simp (disch := first | omega | (simp only [fsLen]; omega)) only [↓fsPre, fsPost, fsCond, fsGen, fsDefs, fsDefX, cls, Nat.reduceAdd, Nat.reduceEqDiff, ↓reduceIte, f3, f10, f11, f12, b3, hb', hcr, Rf.cells]
    refine callDT_one (hma _) rfl ?_
    have fin : ∀ (L : Heap), NdI H [z0, z1, z2, z3, z4, z5, z6, .slice (some (b, 0)) R.length c, z8, z9] [.int .i64 e.tab, mv, .int .i64 e.pr, .int .i64 e.act, av] (h ++ L) := fun L => ⟨by rw [List.length_append]; omega, fun q hq => (hget_appl (by omega)).trans (old q hq), (hget_appl (by omega)).trans b2, (hget_appl (by omega)).trans b3⟩
    by_cases h1 : r.tt = e.tab
    · simp (disch := first | omega | (simp only [fsLen]; omega)) only [↓fsPre, fsPost, fsCond, fsGen, fsDefs, fsDefX, cls, reduceCtorEq, Nat.reduceAdd, Nat.reduceLeDiff, Nat.reduceEqDiff, Nat.reduceBEq, ↓reduceIte, f3, b3, hv5, h1]
      have hco' := hco [some (.cells [.int .i64 r.tab, .int .i64 r.key, .int .i64 r.act, .int .i64 r.par, .int .i64 e.tab, .int .i64 r.tk] false), some (.cells [.int .i64 e.tab, .int .i64 r.tk, .int .u64 (mV e r.tk).1, .int .u64 (mV e r.tk).2] false)]
      simp only [tgt, T4.cells, h1] at hco'
      refine callT_one hco' rfl ?_
      by_cases h2 : tgt r e ∈ provL (R.take k) e
      · have h2' := h2
        simp only [tgt, h1] at h2'
        simp (disch := first | omega | (simp only [fsLen]; omega)) only [↓fsPre, fsPost, fsCond, fsGen, fsDefs, fsDefX, Nat.reduceEqDiff, ↓reduceIte, f2, f3, f10, f11, f12, hv5, h1, decide_eq_true h2']
        rw [if_neg (fun h => h.2 h2)] at hstep
        refine ⟨fin _, ?_⟩
        rw [hstep]; exact out.ext Ext.app
      · have h2' := h2
        simp only [tgt, h1] at h2'
        simp (disch := first | omega | (simp only [fsLen]; omega)) only [↓fsPre, fsPost, fsCond, fsGen, fsDefs, fsDefX, Nat.reduceAdd, Nat.reduceEqDiff, ↓reduceIte, hv5, h1, decide_eq_false h2']
        refine grc_app (N := H.length + 2) (new := [.int .i64 e.tab, .int .i64 r.tk, .int .u64 (mV e r.tk).1, .int .u64 (mV e r.tk).2]) (out.ext Ext.app) (by simp only [List.length_append]; omega) (sliceCells_at (by simp (disch := first | omega | (simp only [fsLen]; omega)) only [fsPost, fsCond, fsGen] <;> rfl) rfl) rfl (by omega) (by omega) rfl (by rw [tC_length]; omega) (by omega) (by omega) ?_
        intro v' h' hg' hl' old'
        simp only [List.length_append, List.length_cons, List.length_nil] at hl'
        rw [if_pos ⟨h1, h2⟩] at hstep
        simp (disch := first | omega | (simp only [fsLen]; omega)) only [↓fsPre, fsPost, fsCond, fsGen, fsDefX, Nat.reduceEqDiff, ↓reduceIte, f2, f3, f10, f11, f12]
        refine ⟨⟨by omega, fun q hq => (old' q (by omega)).trans ((hget_appl (by omega)).trans (old q hq)), (old' _ (by omega)).trans ((hget_appl (by omega)).trans b2), (old' _ (by omega)).trans ((hget_appl (by omega)).trans b3)⟩, ?_⟩
        rw [hstep, tC_append]
        have : tC [tgt r e] = [.int .i64 e.tab, .int .i64 r.tk, .int .u64 (mV e r.tk).1, .int .u64 (mV e r.tk).2] := by simp [tC, tgt, T4.cells, h1]
        rw [this]; exact hg'
    · simp (disch := first | omega | (simp only [fsLen]; omega)) only [↓fsPre, fsPost, fsCond, fsGen, fsDefs, fsDefX, cls, reduceCtorEq, Nat.reduceAdd, Nat.reduceLeDiff, Nat.reduceEqDiff, Nat.reduceBEq, ↓reduceIte, f2, f3, f10, f11, f12, b3, hv5, h1]
      rw [if_neg (fun h => h1 h.1)] at hstep
      refine ⟨fin _, ?_⟩
      rw [hstep]; exact out.ext Ext.app
  · rintro F h ⟨f2, f3, f10, f11, f12, ⟨len, old, b2, b3⟩, out⟩
    rw [List.take_length] at out
    simp (disch := first | omega | (simp only [fsLen]; omega)) only [↓fsPre, fsPost, fsGen, fsDefs, fsDefX, Nat.reduceEqDiff, ↓reduceIte, f11, f12]
    exact ⟨Nat.le_trans (Nat.le_add_right _ 2) len, old, out.low (by omega)⟩

set_option maxHeartbeats 2000000 in
theorem rprovides_ok (N : Nat) (H : Heap) (R : List Rf) (z0 z1 z2 z3 z4 z5 z6 z7 z8 z9 : NV) (s : RfV H R z0 z1 z2 z3 z4 z5 z6 z7 z8 z9) (hR : R.length ≤ 10) (row : List NV) (e : En) (xE : EnAt H N row e) (hok : ∀ r ∈ R, RfOK r e) :
    DCall Try.prog 14 [.agg [z0, z1, z2, z3, z4, z5, z6, z7, z8, z9], .agg row] H (listQ H (provL R e)) := by
  obtain ⟨⟨o0, o1, o2, o3, o4, o5, o6, o8, o9⟩, b, c, cs, ro, rfl, hb, hcut⟩ := s
  obtain ⟨mv, av, rfl, om, oa, hms, has, hm, ha⟩ := xE.parts
  have hbl := hget_some_lt hb
  refine call_det E0 rfl mixed t14_ok (by kernel_rfl) (by rintro q ⟨h, _⟩; exact h) ?_
  simp only [t14]
  simp (disch := first | omega | (simp only [fsLen]; omega)) only [↓fsPre, fsPost, fsCond, fsGen, fsDefs, Nat.reduceEqDiff, ↓reduceIte, o0, o1, o2, o3, o4, o5, o6, o8, o9, om, oa]
  refine wloop (fun k F h => F 2 = .ptr (some (H.length, 0)) ∧ F 3 = .ptr (some (H.length + 1, 0)) ∧ F 13 = .slice (some (b, 0)) R.length c ∧ F 14 = .int .i64 R.length ∧ F 15 = .int .i64 k ∧
    NdI H [z0, z1, z2, z3, z4, z5, z6, .slice (some (b, 0)) R.length c, z8, z9] [.int .i64 e.tab, mv, .int .i64 e.pr, .int .i64 e.act, av] h ∧ GrC h (H.length + 2) (tC (provL (R.take k) e)) 4 (F 5)) R.length ?_ ?_ ?_
  · simp (disch := first | omega | (simp only [fsLen]; omega)) only [↓fsPre, fsGen, Nat.reduceEqDiff, ↓reduceIte]
    exact ⟨⟨by simp, fun q hq => hget_appl hq, by simp (disch := first | omega | (simp only [fsLen]; omega)) only [fsPost, fsCond, fsGen], by simp (disch := first | omega | (simp only [fsLen]; omega)) only [fsPost, fsCond, fsGen]⟩, .nil⟩
  · rintro k F h hk ⟨f2, f3, f13, f14, f15, ⟨len, old, b2, b3⟩, out⟩
    have hb' : hget h b = some (.cells cs ro) := by rw [old b hbl]; exact hb
    have hcr := hcut k hk
    have hr := hok _ (List.getElem_mem hk)
    have hstep := provL_snoc (R.take k) R[k] e
    have htk : R.take (k + 1) = R.take k ++ [R[k]] := by rw [List.take_add_one, List.getElem?_eq_getElem hk]; rfl
    rw [← htk] at hstep
    have hle := provL_le (R.take k) e
    rw [List.length_take] at hle
    generalize R[k] = r at *
    generalize hv5 : F 5 = v5 at *
    have o5v := out.one
    obtain ⟨ht1, ht2⟩ := hr.t
    obtain ⟨bm, csm, hmv, hbm, hcm⟩ := hm _ hr.t
    have hbml := hget_some_lt hbm
    have hbm' : hget h bm = some (.cells csm false) := by rw [old bm hbml]; exact hbm
    have fin : ∀ (L : Heap), NdI H [z0, z1, z2, z3, z4, z5, z6, .slice (some (b, 0)) R.length c, z8, z9] [.int .i64 e.tab, mv, .int .i64 e.pr, .int .i64 e.act, av] (h ++ L) := fun L => ⟨by rw [List.length_append]; omega, fun q hq => (hget_appl (by omega)).trans (old q hq), (hget_appl (by omega)).trans b2, (hget_appl (by omega)).trans b3⟩
    have b3' := b3
    rw [hmv] at b3'
    by_cases h1 : r.tt = e.tab
    · obtain ⟨a5, c5, hv5s, hrow5⟩ := grc_list out
      simp (disch := first | omega | (simp only [fsLen]; omega)) only [↓fsPre, fsPost, fsCond, fsGen, fsDefs, fsDefX, cls, reduceCtorEq, Nat.reduceAdd, Nat.reduceLeDiff, Nat.reduceEqDiff, Nat.reduceBEq, ↓reduceIte, f3, f13, f14, f15, b3', hv5, hb', hcr, Rf.cells, h1, hbm', hcm, hv5s]
      have htl : tgt r e = ⟨e.tab, r.tk, (mV e r.tk).1, (mV e r.tk).2⟩ := by simp [tgt, h1]
      generalize hP : provL (R.take k) e = P at *
      refine wloop (fun i F h' => F 2 = .ptr (some (H.length, 0)) ∧ F 3 = .ptr (some (H.length + 1, 0)) ∧ F 13 = .slice (some (b, 0)) R.length c ∧ F 14 = .int .i64 R.length ∧ F 15 = .int .i64 k ∧ F 5 = v5 ∧ F 8 = .ptr (some (h.length + 1, 0)) ∧ F 36 = .slice a5 P.length c5 ∧ F 37 = .int .i64 P.length ∧ F 38 = .int .i64 i ∧
        F 9 = .bool (decide (tgt r e ∈ P.take i)) ∧ ∃ J, h' = h ++ some (.cells [.int .i64 r.tab, .int .i64 r.key, .int .i64 r.act, .int .i64 r.par, .int .i64 e.tab, .int .i64 r.tk] false) :: some (.cells [.int .i64 e.tab, .int .i64 r.tk, .int .u64 (mV e r.tk).1, .int .u64 (mV e r.tk).2] false) :: J) P.length ?_ ?_ ?_
      · simp (disch := first | omega | (simp only [fsLen]; omega)) only [↓fsPre, fsGen, Nat.reduceEqDiff, ↓reduceIte, f2, f3, f13, f14, f15, hv5]
        first | exact ⟨hv5s.symm, by simp, _, rfl⟩ | exact ⟨by simp, _, rfl⟩ | exact ⟨_, rfl⟩ | exact ⟨hv5s.symm, _, rfl⟩
      · clear f2 f3 f13 f14 f15 hv5 F
        rintro i F h' hi ⟨f2, f3, f13, f14, f15, f5, f8, f36, f37, f38, f9, J, rfl⟩
        obtain ⟨b5, rfl, hb5, hc5⟩ := hrow5 i hi
        have hb5l := hget_some_lt hb5
        have hmt := mem_take_succ P (tgt r e) i hi
        rw [htl] at hmt f9 ⊢
        generalize P[i] = x at *
        by_cases h2 : (⟨e.tab, r.tk, (mV e r.tk).1, (mV e r.tk).2⟩ : T4) ∈ P.take i
        · have h3 := hmt.2 (.inl h2)
          simp (disch := first | omega | (simp only [fsLen]; omega)) only [↓fsPre, fsPost, fsCond, fsGen, fsDefs, fsDefX, Nat.reduceAdd, Nat.reduceEqDiff, ↓reduceIte, f2, f3, f13, f14, f15, f5, f8, f36, f37, f38, f9, hb5, hc5, T4.cells, decide_eq_true h2, decide_eq_true h3]
          exact ⟨_, rfl⟩
        · have hd : decide ((⟨e.tab, r.tk, (mV e r.tk).1, (mV e r.tk).2⟩ : T4) ∈ P.take (i + 1)) = decide (x.tab = e.tab ∧ x.key = r.tk ∧ x.v1 = (mV e r.tk).1 ∧ x.v2 = (mV e r.tk).2) := by
            rw [decide_eq_decide, hmt]
            constructor
            · rintro (h | h)
              · exact absurd h h2
              · rw [← h]; exact ⟨rfl, rfl, rfl, rfl⟩
            · intro h
              right
              exact ((t4_eq x ⟨e.tab, r.tk, (mV e r.tk).1, (mV e r.tk).2⟩).1 h).symm
          simp (disch := first | omega | (simp only [fsLen]; omega)) only [↓fsPre, fsPost, fsCond, fsGen, fsDefs, fsDefX, eqVal, Nat.reduceAdd, Nat.reduceEqDiff, ↓reduceIte, f2, f3, f13, f14, f15, f5, f8, f36, f37, f38, f9, hb5, hc5, T4.cells, decide_eq_false h2, hd]
          exact ⟨_, rfl⟩
      · clear f2 f3 f13 f14 f15 hv5 F
        rintro F h' ⟨f2, f3, f13, f14, f15, f5, f8, f36, f37, f38, f9, J, rfl⟩
        rw [List.take_length] at f9
        by_cases h2 : tgt r e ∈ P
        · simp (disch := first | omega | (simp only [fsLen]; omega)) only [↓fsPre, fsPost, fsCond, fsGen, fsDefX, Nat.reduceEqDiff, ↓reduceIte, f2, f3, f13, f14, f15, f5, f37, f38, f9, decide_eq_true h2]
          rw [if_neg (fun h => h.2 h2)] at hstep
          refine ⟨fin _, ?_⟩
          rw [hstep]; exact out.ext Ext.app
        · simp (disch := first | omega | (simp only [fsLen]; omega)) only [↓fsPre, fsPost, fsCond, fsGen, fsDefs, fsDefX, Nat.reduceAdd, Nat.reduceEqDiff, ↓reduceIte, f5, f8, f37, f38, f9, decide_eq_false h2]
          refine grc_app (N := H.length + 2) (new := [.int .i64 e.tab, .int .i64 r.tk, .int .u64 (mV e r.tk).1, .int .u64 (mV e r.tk).2]) (out.ext Ext.app) (by simp only [List.length_append]; omega) (sliceCells_at (by simp (disch := first | omega | (simp only [fsLen]; omega)) only [fsPost, fsCond, fsGen] <;> rfl) rfl) rfl (by omega) (by omega) rfl (by rw [tC_length]; omega) (by omega) (by omega) ?_
          intro v' h' hg' hl' old'
          simp only [List.length_append, List.length_cons, List.length_nil] at hl'
          rw [if_pos ⟨h1, h2⟩] at hstep
          simp (disch := first | omega | (simp only [fsLen]; omega)) only [↓fsPre, fsPost, fsCond, fsGen, fsDefX, Nat.reduceEqDiff, ↓reduceIte, f2, f3, f13, f14, f15]
          refine ⟨⟨by omega, fun q hq => (old' q (by omega)).trans ((hget_appl (by omega) : hget _ q = hget h q).trans (old q hq)), (old' _ (by omega)).trans ((hget_appl (by omega) : hget _ H.length = hget h H.length).trans b2), (old' _ (by omega)).trans ((hget_appl (by omega) : hget _ (H.length + 1) = hget h (H.length + 1)).trans b3)⟩, ?_⟩
          rw [hstep, tC_append]
          have : tC [tgt r e] = [.int .i64 e.tab, .int .i64 r.tk, .int .u64 (mV e r.tk).1, .int .u64 (mV e r.tk).2] := by simp [tC, tgt, T4.cells, h1]
          rw [this]; exact hg'
    · simp (disch := first | omega | (simp only [fsLen]; omega)) only [↓fsPre, fsPost, fsCond, fsGen, fsDefs, fsDefX, Nat.reduceAdd, Nat.reduceEqDiff, ↓reduceIte, f2, f3, f13, f14, f15, b3', hv5, hb', hcr, Rf.cells, h1]
      rw [if_neg (fun h => h1 h.1)] at hstep
      refine ⟨fin _, ?_⟩
      rw [hstep]; exact out.ext Ext.app
  · rintro F h ⟨f2, f3, f13, f14, f15, ⟨len, old, b2, b3⟩, out⟩
    rw [List.take_length] at out
    simp (disch := first | omega | (simp only [fsLen]; omega)) only [↓fsPre, fsPost, fsGen, fsDefs, fsDefX, Nat.reduceEqDiff, ↓reduceIte, f14, f15]
    exact ⟨Nat.le_trans (Nat.le_add_right _ 2) len, old, out.low (by omega)⟩

theorem targets_ok (N M : Nat) (H : Heap) (l : List T4) (v w : NV) (g1 : GrC H N (tC l) 4 v) (g2 : GrC H M (tC l) 4 w) (hl : l.length ≤ 1000) : NCall Try.prog 10 [v, w] H fun r => r = (.bool true, H) := by
  obtain ⟨a1, c1, rfl, h1⟩ := grc_list g1
  obtain ⟨a2, c2, rfl, h2⟩ := grc_list g2
  refine call_pure E0 mixed t10_ok (by kernel_rfl) trivial ?_
  simp only [t10]
  simp (disch := first | omega | (simp only [fsLen]; omega)) only [↓fsPre, fsPost, fsGen, fsDefs, fsDefX, reduceCtorEq, Nat.reduceEqDiff, ↓reduceIte]
  refine wloop (fun k F h => F 0 = .slice a1 l.length c1 ∧ F 1 = .slice a2 l.length c2 ∧ F 12 = .slice a1 l.length c1 ∧ F 13 = .int .i64 l.length ∧ F 14 = .int .i64 k ∧ ∃ J, h = H ++ J) l.length ?_ ?_ ?_
  · simp (disch := first | omega | (simp only [fsLen]; omega)) only [↓fsPre, fsGen, reduceCtorEq, Nat.reduceEqDiff, ↓reduceIte]
    exact ⟨[], by simp⟩
  · rintro k F h hk ⟨f0, f1, f12, f13, f14, J, rfl⟩
    obtain ⟨b1, rfl, hb1, hc1⟩ := h1 k hk
    obtain ⟨b2, rfl, hb2, hc2⟩ := h2 k hk
    have hb1l := hget_some_lt hb1
    have hb2l := hget_some_lt hb2
    generalize l[k] = x at *
    simp (disch := first | omega | (simp only [fsLen]; omega)) only [↓fsPre, fsPost, fsCond, fsGen, fsDefs, fsDefX, cls, eqVal, reduceCtorEq, Nat.reduceAdd, Nat.reduceLeDiff, Nat.reduceEqDiff, ↓reduceIte, f0, f1, f12, f13, f14, hb1, hb2, hc1, T4.cells]
    exact ⟨_, rfl⟩
  · rintro F h ⟨f0, f1, f12, f13, f14, J, rfl⟩
    simp (disch := first | omega | (simp only [fsLen]; omega)) only [↓fsPre, fsPost, fsGen, fsDefs, fsDefX, ↓reduceIte, f13, f14]
    exact ⟨_, rfl⟩

def refsOf (t : TP) : List Rf := [⟨2, 0, 4, 0, 1, 0⟩] ++ ((if t.m3 then [⟨3, 2, 0, 0, 1, 0⟩, ⟨3, 0, 5, 0, 1, 0⟩] else []) ++ (if t.m4 then [⟨4, 1, 0, 0, 1, 0⟩, ⟨4, 0, 5, 0, 1, 0⟩, ⟨4, 1, 0, 0, 1, 0⟩] else []))
theorem refsOf_le (t : TP) : (refsOf t).length ≤ 10 := by
  unfold refsOf
  cases t.m3 <;> cases t.m4 <;> simp
theorem refsOf_ok (t : TP) (e : En) (h : EnOK t e) : ∀ r ∈ refsOf t, RfOK r e := by
  obtain ⟨j, hj, ht, hm, ha, hp, _⟩ := h
  have hk := keysOf_pos t j
  have k3 : t.m3 = true → (keysOf t 2).length = 3 := fun h => by unfold keysOf keys3; rw [h]; rfl
  have k4 : t.m4 = true → (keysOf t 3).length = 3 := fun h => by unfold keysOf keys4; rw [h]; rfl
  intro r hr
  have a4 : e.act = 4 → e.args.length = 1 := fun h => by rw [hp, h]; rfl
  have a5 : e.act = 5 → e.args.length = 2 := fun h => by rw [hp, h]; rfl
  have j2 : (3 : Int) = e.tab → e.ms.length = (keysOf t 2).length := fun h => by rw [hm, show j = 2 by omega]
  have j3 : (4 : Int) = e.tab → e.ms.length = (keysOf t 3).length := fun h => by rw [hm, show j = 3 by omega]
  unfold refsOf at hr
  simp only [List.mem_append, List.mem_singleton] at hr
  rcases hr with rfl | hr | hr
  · refine ⟨fun _ h => absurd h (by simp), fun _ _ h => ?_, ?_⟩
    · have := a4 h.symm
      simp only; omega
    · simp only; omega
  · by_cases h3 : t.m3 = true
    · rw [if_pos h3] at hr
      have := k3 h3
      simp only [List.mem_cons, List.not_mem_nil, or_false] at hr
      rcases hr with rfl | rfl
      · refine ⟨fun h _ => ?_, fun _ h => absurd rfl h, ?_⟩
        · have := j2 h
          simp only; omega
        · simp only; omega
      · refine ⟨fun _ h => absurd h (by simp), fun _ _ h => ?_, ?_⟩
        · have := a5 h.symm
          simp only; omega
        · simp only; omega
    · rw [if_neg h3] at hr; simp at hr
  · by_cases h4 : t.m4 = true
    · rw [if_pos h4] at hr
      have := k4 h4
      simp only [List.mem_cons, List.not_mem_nil, or_false] at hr
      rcases hr with rfl | rfl | rfl
      · refine ⟨fun h _ => ?_, fun _ h => absurd rfl h, ?_⟩
        · have := j3 h
          simp only; omega
        · simp only; omega
      · refine ⟨fun _ h => absurd h (by simp), fun _ _ h => ?_, ?_⟩
        · have := a5 h.symm
          simp only; omega
        · simp only; omega
      · refine ⟨fun h _ => ?_, fun _ h => absurd rfl h, ?_⟩
        · have := j3 h
          simp only; omega
        · simp only; omega
    · rw [if_neg h4] at hr; simp at hr

def refQ (H : Heap) (r : NV × Heap) : Prop := ∃ N t acs z0 z1 z2 z3 z4 z5 z6 z7 z8 z9, r.1 = .agg [z0, z1, z2, z3, z4, z5, z6, z7, z8, z9] ∧ ScV N r.2 t acs z0 z1 z2 z3 z4 z5 z6 z7 z8 z9 ∧ RfV r.2 (refsOf t) z0 z1 z2 z3 z4 z5 z6 z7 z8 z9 ∧ H.length ≤ r.2.length ∧ ∀ b, b < H.length → hget r.2 b = hget H b

set_option maxHeartbeats 4000000 in
theorem referring_ok (H : Heap) (v : NV) (xs : List Int) (hv : BytesArg H v xs) : DCall Try.prog 7 [v] H (refQ H) := by
  refine call_det E0 rfl mixed t7_ok (by kernel_rfl) (by rintro q ⟨_, _, _, _, _, _, _, _, _, _, _, _, _, _, _, _, h, _⟩; exact h) ?_
  simp only [t7]
  simp (disch := first | omega | (simp only [fsLen]; omega)) only [↓fsPre, fsPost, fsGen, reduceCtorEq, ↓reduceIte]
  refine callT_D (codes_ok _ v xs 120 hv.app (by omega)) rfl ?_
  rintro v1 g1 ⟨sl, m, e, hs⟩
  cases e
  simp (disch := first | omega | (simp only [fsLen]; omega)) only [↓fsPre, fsGen, ↓reduceIte]
  simp only [List.length_append, List.length_cons, List.length_nil] at hs
  refine callT_D (schema_ok _ (H.length + 1) m sl (CodesSt.refl (a := 0) (by simp (disch := first | omega | (simp only [fsLen]; omega)) only [fsPost, fsCond, fsGen]) (by omega) (by omega) (by simpa using hs))) rfl ?_
  rintro v2 g2 hq
  obtain ⟨cs, row, t, x, y, z, w, mb, bud, sts, acs, rls, b6, rcs, rfl, hcs6, hb6, hrc, hrl, hap, hrep, ok, st⟩ := hq
  rw [ok.row] at hrep
  simp only [Tr.repCells, rep_ti] at hrep
  obtain ⟨z0, _, rfl, e0, z1, _, rfl, e1, z2, _, rfl, e2, z3, _, rfl, e3, z4, _, rfl, e4, z5, _, rfl, e5, z6, _, rfl, e6, z7, _, rfl, e7, _, _, rfl, rfl, _, _, rfl, rfl, rfl⟩ := hrep
  have st : CodesSt _ g2 (H.length + 1) m sl := st
  have hg2 := st.len
  simp only [List.length_append, List.length_cons, List.length_nil] at hg2
  have hold : ∀ b, b < H.length → hget g2 b = hget H b := fun b hb => by
    rw [st.old b (by simp; omega) (by omega), hget_appl (by simp; omega), hget_appl hb]
  have sc : ScV _ g2 t acs z0 z1 z2 z3 z4 z5 z6 z7 (.int .i64 mb) (.int .i64 bud) := ⟨e0, e3, e4, ok.actions, ok.tables, Tr.rep_one e1, Tr.rep_one e2, Tr.rep_one e5, Tr.rep_one e6, Tr.rep_one e7, rfl, rfl⟩
  have o0 := Tr.rep_one e0
  have o1 := Tr.rep_one e1
  have o2 := Tr.rep_one e2
  have o3 := Tr.rep_one e3
  have o4 := Tr.rep_one e4
  have o5 := Tr.rep_one e5
  have o6 := Tr.rep_one e6
  have o7 := Tr.rep_one e7
  have hall : t.rows.length = 4 := rfl
  have e4' := e4
  simp only [Tr.rep] at e4'
  rcases e4' with ⟨_, h⟩ | ⟨b4, c4, cs4, ro4, hz4, _, hb4, hrows4⟩
  · cases h
  have hb4l := hget_some_lt hb4
  have keyAt : ∀ j, j < 4 → ∃ kv, cs4[j * 8 + 2]? = some kv ∧ ∃ a c, kv = .slice a (keysOf t j).length c := by
    intro j hj
    obtain ⟨us, hu, hur⟩ := Tr.rep_row hrows4 (j := j) (by omega)
    obtain ⟨nm, d, da, sz, r, hr⟩ := tab_row t j (by omega)
    rw [hr] at hur
    simp only [Tr.repCells, rep_ti, rep_ts] at hur
    obtain ⟨_, _, rfl, rfl, _, _, rfl, rfl, kv, _, rfl, hkv, avv, _, rfl, hav, _, _, rfl, rfl, dv, _, rfl, hdv, _, _, rfl, rfl, _, _, rfl, rfl, rfl⟩ := hur
    exact ⟨kv, (cut_get hu (i := 2) (by omega)).trans rfl, Tr.rep_len hkv⟩
  obtain ⟨k3, hk3, a3, c3, rfl⟩ := keyAt 2 (by omega)
  obtain ⟨k4, hk4, a4, c4', rfl⟩ := keyAt 3 (by omega)
  have hk3' : cs4[18]? = _ := hk3
  have hk4' : cs4[26]? = _ := hk4
  subst hz4
  rw [hall] at sc
  have fin : ∀ (X : NBlk) (L : Heap) (b : Nat) (c : Cap) (ro : Bool), hget (hset g2 H.length X ++ L) b = some (.cells (rfC (refsOf t)) ro) →
      refQ H (.agg [z0, z1, z2, z3, .slice (some (b4, 0)) 4 c4, z5, z6, .slice (some (b, 0)) (refsOf t).length c, .int .i64 mb, .int .i64 bud], hset g2 H.length X ++ L) := by
    intro X L b c ro h1
    have sc2 := (sc.ext (Ext.set (x := X) (p := H.length) (by simp only [List.length_append, List.length_cons, List.length_nil]; omega))).ext (Ext.app (L := L))
    obtain ⟨q1, q2, q5, q6, q7, q8, q9⟩ := sc2.o
    exact ⟨_, t, acs, _, _, _, _, _, _, _, _, _, _, rfl, ⟨sc2.rf, sc2.ra, sc2.rt, sc2.ao, sc2.to, q1, q2, q5, q6, rfl, q8, q9⟩, ⟨⟨o0, o1, o2, o3, rfl, o5, o6, rfl, rfl⟩, b, c, _, ro, rfl, h1, fun k hk => rf_cut _ k hk⟩, by show H.length ≤ (hset g2 H.length X ++ L).length; simp only [List.length_append, length_hset]; omega, fun q hq => by rw [hget_appl (by rw [length_hset]; omega), hget_hset_ne (by omega)]; exact hold q hq⟩
  have hb0 : hget g2 H.length = some (.cells [.slice none 0 (.fix 0), .slice none 0 (.fix 0), .slice none 0 (.fix 0), .slice none 0 (.fix 0), .slice none 0 (.fix 0), .slice none 0 (.fix 0), .slice none 0 (.fix 0), .slice none 0 (.fix 0), .int .i64 0, .int .i64 0] false) := by
    rw [st.old _ (by simp only [List.length_append, List.length_cons, List.length_nil]; omega) (by omega)]; simp (disch := first | omega | (simp only [fsLen]; omega)) only [fsPost, fsCond, fsGen]
  have hb0l := hget_some_lt hb0
  cases h3 : t.m3 with
  | false =>
    have n3 : (keysOf t 2).length = 2 := by unfold keysOf keys3; rw [h3]; rfl
    cases h4 : t.m4 with
    | false =>
      have n4 : (keysOf t 3).length = 1 := by unfold keysOf keys4; rw [h4]; rfl
      have hR : refsOf t = [⟨2, 0, 4, 0, 1, 0⟩] := by unfold refsOf; rw [h3, h4]; rfl
      rw [hR] at fin
      simp (disch := first | omega | (simp only [fsLen]; omega)) only [↓fsPre, fsPost, fsCond, fsGen, fsDefs, fsDefX, Nat.reduceAdd, Nat.reduceMul, Nat.reduceLeDiff, Nat.reduceEqDiff, Int.reduceLT, Int.reduceLE, Int.reduceEq, Int.reduceToNat, ↓reduceIte, o0, o1, o2, o3, o5, o6, o7, hb4, hk3', hk4', n3, n4, hb0, hall]
      exact fin _ _ _ _ false (by simp (disch := first | omega | (simp only [fsLen]; omega)) only [fsPost, fsCond, fsGen] <;> rfl)
    | true =>
      have n4 : (keysOf t 3).length = 3 := by unfold keysOf keys4; rw [h4]; rfl
      have hR : refsOf t = [⟨2, 0, 4, 0, 1, 0⟩, ⟨4, 1, 0, 0, 1, 0⟩, ⟨4, 0, 5, 0, 1, 0⟩, ⟨4, 1, 0, 0, 1, 0⟩] := by unfold refsOf; rw [h3, h4]; rfl
      rw [hR] at fin
      simp (disch := first | omega | (simp only [fsLen]; omega)) only [↓fsPre, fsPost, fsCond, fsGen, fsDefs, fsDefX, Nat.reduceAdd, Nat.reduceMul, Nat.reduceLeDiff, Nat.reduceEqDiff, Int.reduceLT, Int.reduceLE, Int.reduceEq, Int.reduceToNat, ↓reduceIte, o0, o1, o2, o3, o5, o6, o7, hb4, hk3', hk4', n3, n4, hall]
      refine app_fix (new := [.int .i64 4, .int .i64 1, .int .i64 0, .int .i64 0, .int .i64 1, .int .i64 0, .int .i64 4, .int .i64 0, .int .i64 5, .int .i64 0, .int .i64 1, .int .i64 0, .int .i64 4, .int .i64 1, .int .i64 0, .int .i64 0, .int .i64 1, .int .i64 0]) (old := [.int .i64 2, .int .i64 0, .int .i64 4, .int .i64 0, .int .i64 1, .int .i64 0]) (sliceCells_at (by simp (disch := first | omega | (simp only [fsLen]; omega)) only [fsPost, fsCond, fsGen] <;> rfl) rfl) rfl (by omega) ⟨by omega, by omega⟩ (sliceCells_at (by simp (disch := first | omega | (simp only [fsLen]; omega)) only [fsPost, fsCond, fsGen] <;> rfl) rfl) ?_
      simp (disch := first | omega | (simp only [fsLen]; omega)) only [↓fsPre, fsPost, fsCond, fsGen, fsDefs, Nat.reduceAdd, Nat.reduceLeDiff, Nat.reduceEqDiff, ↓reduceIte, o0, o1, o2, o3, o5, o6, hb0, hall]
      exact fin _ _ _ _ false (by simp (disch := first | omega | (simp only [fsLen]; omega)) only [fsPost, fsCond, fsGen] <;> rfl)
  | true =>
    have n3 : (keysOf t 2).length = 3 := by unfold keysOf keys3; rw [h3]; rfl
    cases h4 : t.m4 with
    | false =>
      have n4 : (keysOf t 3).length = 1 := by unfold keysOf keys4; rw [h4]; rfl
      have hR : refsOf t = [⟨2, 0, 4, 0, 1, 0⟩, ⟨3, 2, 0, 0, 1, 0⟩, ⟨3, 0, 5, 0, 1, 0⟩] := by unfold refsOf; rw [h3, h4]; rfl
      rw [hR] at fin
      simp (disch := first | omega | (simp only [fsLen]; omega)) only [↓fsPre, fsPost, fsCond, fsGen, fsDefs, fsDefX, Nat.reduceAdd, Nat.reduceMul, Nat.reduceLeDiff, Nat.reduceEqDiff, Int.reduceLT, Int.reduceLE, Int.reduceToNat, ↓reduceIte, o0, o1, o2, o3, o5, o6, o7, hb4, hk3', n3, hall]
      refine app_fix (new := [.int .i64 3, .int .i64 2, .int .i64 0, .int .i64 0, .int .i64 1, .int .i64 0, .int .i64 3, .int .i64 0, .int .i64 5, .int .i64 0, .int .i64 1, .int .i64 0]) (old := [.int .i64 2, .int .i64 0, .int .i64 4, .int .i64 0, .int .i64 1, .int .i64 0]) (sliceCells_at (by simp (disch := first | omega | (simp only [fsLen]; omega)) only [fsPost, fsCond, fsGen] <;> rfl) rfl) rfl (by omega) ⟨by omega, by omega⟩ (sliceCells_at (by simp (disch := first | omega | (simp only [fsLen]; omega)) only [fsPost, fsCond, fsGen] <;> rfl) rfl) ?_
      simp (disch := first | omega | (simp only [fsLen]; omega)) only [↓fsPre, fsPost, fsCond, fsGen, fsDefs, fsDefX, Nat.reduceAdd, Nat.reduceMul, Nat.reduceLeDiff, Nat.reduceEqDiff, Int.reduceLT, Int.reduceLE, Int.reduceEq, Int.reduceToNat, ↓reduceIte, o0, o1, o2, o3, o5, o6, hb4, hk4', n4, hb0, hall]
      exact fin _ _ _ _ false (by simp (disch := first | omega | (simp only [fsLen]; omega)) only [fsPost, fsCond, fsGen] <;> rfl)
    | true =>
      have n4 : (keysOf t 3).length = 3 := by unfold keysOf keys4; rw [h4]; rfl
      have hR : refsOf t = [⟨2, 0, 4, 0, 1, 0⟩, ⟨3, 2, 0, 0, 1, 0⟩, ⟨3, 0, 5, 0, 1, 0⟩, ⟨4, 1, 0, 0, 1, 0⟩, ⟨4, 0, 5, 0, 1, 0⟩, ⟨4, 1, 0, 0, 1, 0⟩] := by unfold refsOf; rw [h3, h4]; rfl
      rw [hR] at fin
      simp (disch := first | omega | (simp only [fsLen]; omega)) only [↓fsPre, fsPost, fsCond, fsGen, fsDefs, fsDefX, Nat.reduceAdd, Nat.reduceMul, Nat.reduceLeDiff, Nat.reduceEqDiff, Int.reduceLT, Int.reduceLE, Int.reduceToNat, ↓reduceIte, o0, o1, o2, o3, o5, o6, o7, hb4, hk3', n3, hall]
      refine app_fix (new := [.int .i64 3, .int .i64 2, .int .i64 0, .int .i64 0, .int .i64 1, .int .i64 0, .int .i64 3, .int .i64 0, .int .i64 5, .int .i64 0, .int .i64 1, .int .i64 0]) (old := [.int .i64 2, .int .i64 0, .int .i64 4, .int .i64 0, .int .i64 1, .int .i64 0]) (sliceCells_at (by simp (disch := first | omega | (simp only [fsLen]; omega)) only [fsPost, fsCond, fsGen] <;> rfl) rfl) rfl (by omega) ⟨by omega, by omega⟩ (sliceCells_at (by simp (disch := first | omega | (simp only [fsLen]; omega)) only [fsPost, fsCond, fsGen] <;> rfl) rfl) ?_
      simp (disch := first | omega | (simp only [fsLen]; omega)) only [↓fsPre, fsPost, fsCond, fsGen, fsDefs, fsDefX, Nat.reduceAdd, Nat.reduceMul, Nat.reduceLeDiff, Nat.reduceEqDiff, Int.reduceLT, Int.reduceLE, Int.reduceToNat, ↓reduceIte, hb4, hk4', n4, hall]
      refine app_grow (new := [.int .i64 4, .int .i64 1, .int .i64 0, .int .i64 0, .int .i64 1, .int .i64 0, .int .i64 4, .int .i64 0, .int .i64 5, .int .i64 0, .int .i64 1, .int .i64 0, .int .i64 4, .int .i64 1, .int .i64 0, .int .i64 0, .int .i64 1, .int .i64 0]) (cs := [.int .i64 2, .int .i64 0, .int .i64 4, .int .i64 0, .int .i64 1, .int .i64 0] ++ [.int .i64 3, .int .i64 2, .int .i64 0, .int .i64 0, .int .i64 1, .int .i64 0, .int .i64 3, .int .i64 0, .int .i64 5, .int .i64 0, .int .i64 1, .int .i64 0]) (sliceCells_at (by simp (disch := first | omega | (simp only [fsLen]; omega)) only [fsPost, fsCond, fsGen] <;> rfl) rfl) rfl (by simp (disch := first | omega | (simp only [fsLen]; omega)) only [fsPost, fsCond, fsGen]) (by simp) (by simp) (by simp) ⟨by omega, by omega⟩ ?_
      simp (disch := first | omega | (simp only [fsLen]; omega)) only [↓fsPre, fsPost, fsCond, fsGen, fsDefs, Nat.reduceAdd, Nat.reduceMul, Nat.reduceLeDiff, Nat.reduceEqDiff, ↓reduceIte, o0, o1, o2, o3, o5, o6, hb0, hall]
      exact fin _ _ _ _ false (by simp (disch := first | omega | (simp only [fsLen]; omega)) only [fsPost, fsCond, fsGen] <;> rfl)

theorem begun16_ok (h : Heap) : NCall Try.prog 15 [] h fun q => q = (.bool true, h) := call_run mixed (lk_ok tab_ok) (N := 1000) (D := 40) (by kernel_rfl) h

theorem flat_cut {rows : List (List NV)} (h : ∀ r ∈ rows, r.length = 5) (i : Nat) (hi : i < rows.length) : cut rows.flatten (i * 5) 5 = some rows[i] := by
  have : ∀ (rows : List (List NV)), (∀ r ∈ rows, r.length = 5) → ∀ i (hi : i < rows.length), (rows.flatten.drop (i * 5)).take 5 = rows[i] := by
    intro rows
    induction rows with
    | nil => intro _ i hi; simp at hi
    | cons r rows ih =>
      intro h i hi
      have hr := h r (List.mem_cons_self ..)
      cases i with
      | zero =>
        rw [List.flatten_cons, Nat.zero_mul, List.drop_zero, List.take_append_of_le_length (by omega), List.take_of_length_le (by omega)]; rfl
      | succ i =>
        rw [List.flatten_cons, List.drop_append, List.drop_eq_nil_of_le (by omega), List.nil_append, show (i + 1) * 5 - r.length = i * 5 by omega]
        exact ih (fun x hx => h x (List.mem_cons_of_mem _ hx)) i (by simpa using hi)
  unfold cut
  rw [if_pos (by rw [flat5 h]; omega), this rows h i hi]

def kindsRE : List PK := [.sl [.int .u8], .sl [.int .u8]]
end Go.Proofs
