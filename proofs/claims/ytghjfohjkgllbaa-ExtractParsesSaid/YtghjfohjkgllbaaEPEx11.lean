/- Extract: the schemas that are made of codes, as the parser sees them. -/
import Derived.Test.YtghjfohjkgllbaaEPExQ
import Derived.Test.YtghjfohjkgllbaaEPSchX
set_option linter.unusedSimpArgs false
set_option linter.unusedVariables false
set_option maxRecDepth 10000
namespace Go.Proofs
open Go.Ns

def xbase : List XCase := [⟨ofV 1, ofV 15, 2⟩, ⟨ofV 2, ofV 3, 3⟩]
def XA.code (d1 d2 d3 : Int) (k1 k3 : List XCase) (bud : Int) : XA :=
  ⟨[1, 2, 3, 4, 5, 6, 7, 8, 9], fun j => [16, 16, 8, 4, 4, 8, 32, 12, 4].getD j 0, [1, 2, 3], fun j => [[4, 5, 6], [7], [8, 9]].getD j [], [1, 2, 3], fun j => [⟨1, 4, k1, d1⟩, ⟨2, 0, [], d2⟩, ⟨3, 9, k3, d3⟩].getD j ⟨0, 0, [], 0⟩, bud⟩
def NxOK (d : Int) : Prop := d = 0 ∨ d = 65535 ∨ d ∈ ([1, 2, 3] : List Int)
theorem EndOK.nx {d : Int} (h : EndOK d) : NxOK d := by
  rcases h with rfl | rfl | rfl
  · exact .inl rfl
  · exact .inr (.inl rfl)
  · exact .inr (.inr (by simp))
structure CodeOK (d1 d2 d3 : Int) (k1 k3 : List XCase) (bud : Int) : Prop where
  d1 : NxOK d1
  d2 : NxOK d2
  d3 : NxOK d3
  k1 : k1.length ≤ 100 ∧ ∀ c ∈ k1, NxOK c.next
  k3 : k3.length ≤ 100 ∧ ∀ c ∈ k3, NxOK c.next
  bud : 0 ≤ bud ∧ bud ≤ 1000
theorem CodeOK.ok {d1 d2 d3 : Int} {k1 k3 : List XCase} {bud : Int} (x : CodeOK d1 d2 d3 k1 k3 bud) : (XA.code d1 d2 d3 k1 k3 bud).OK := by
  refine ⟨by simp [XA.code], by simp [XA.code], by simp [XA.code], ?_, ?_, ?_, ?_, ?_, ?_, x.bud⟩
  · intro j hj
    have hj : j < 3 := hj
    match j, hj with
    | 0, _ => exact ⟨by simp [XA.code], by simp [XA.code], by have e : (XA.code d1 d2 d3 k1 k3 bud).sum [4, 5, 6] = 16 := rfl; show 8 ≤ (XA.code d1 d2 d3 k1 k3 bud).sum [4, 5, 6] ∧ (XA.code d1 d2 d3 k1 k3 bud).sum [4, 5, 6] ≤ 10000 ∧ (XA.code d1 d2 d3 k1 k3 bud).sum [4, 5, 6] % 8 = 0; rw [e]; omega⟩
    | 1, _ => exact ⟨by simp [XA.code], by simp [XA.code], by have e : (XA.code d1 d2 d3 k1 k3 bud).sum [7] = 32 := rfl; show 8 ≤ (XA.code d1 d2 d3 k1 k3 bud).sum [7] ∧ (XA.code d1 d2 d3 k1 k3 bud).sum [7] ≤ 10000 ∧ (XA.code d1 d2 d3 k1 k3 bud).sum [7] % 8 = 0; rw [e]; omega⟩
    | 2, _ => exact ⟨by simp [XA.code], by simp [XA.code], by have e : (XA.code d1 d2 d3 k1 k3 bud).sum [8, 9] = 16 := rfl; show 8 ≤ (XA.code d1 d2 d3 k1 k3 bud).sum [8, 9] ∧ (XA.code d1 d2 d3 k1 k3 bud).sum [8, 9] ≤ 10000 ∧ (XA.code d1 d2 d3 k1 k3 bud).sum [8, 9] % 8 = 0; rw [e]; omega⟩
  · intro j hj
    have hj : j < 3 := hj
    match j, hj with
    | 0, _ => simp [XA.code]
    | 1, _ => simp [XA.code]
    | 2, _ => simp [XA.code]
  · intro j hj
    have hj : j < 3 := hj
    match j, hj with
    | 0, _ => simp [XA.code]
    | 1, _ => simp [XA.code]
    | 2, _ => simp [XA.code]
  · intro j hj
    have hj : j < 3 := hj
    match j, hj with
    | 0, _ => exact x.k1.1
    | 1, _ => simp [XA.code]
    | 2, _ => exact x.k3.1
  · intro j hj
    have hj : j < 3 := hj
    match j, hj with
    | 0, _ => exact x.k1.2
    | 1, _ => simp [XA.code]
    | 2, _ => exact x.k3.2
  · intro j hj
    have hj : j < 3 := hj
    match j, hj with
    | 0, _ => exact x.d1
    | 1, _ => exact x.d2
    | 2, _ => exact x.d3

theorem row3 {n : Nat} {g : Heap} {a b : Int} {s : ByteArray} {xs : List NV} (h : Tr.repCells n g [ti a, ts s, ti b] xs) : xs = [.int .i64 a, .str s, .int .i64 b] := by
  simp only [Tr.repCells, rep_ti, rep_ts] at h
  obtain ⟨_, _, rfl, rfl, _, _, rfl, rfl, _, _, rfl, rfl, rfl⟩ := h
  rfl
theorem row3r {n : Nat} {g : Heap} {a : Int} {s : ByteArray} {l : List (List Tr)} {k : Nat} {xs : List NV} (h : Tr.repCells n g [ti a, ts s, .rows k l] xs) : ∃ v, xs = [.int .i64 a, .str s, v] ∧ (Tr.rows k l).rep n g v := by
  simp only [Tr.repCells, rep_ti, rep_ts] at h
  obtain ⟨_, _, rfl, rfl, _, _, rfl, rfl, v, _, rfl, hv, rfl⟩ := h
  exact ⟨v, rfl, hv⟩
theorem row5r {n : Nat} {g : Heap} {a b c d : Int} {l : List (List Tr)} {k : Nat} {xs : List NV} (h : Tr.repCells n g [ti a, ti b, ti c, .rows k l, ti d] xs) : ∃ v, xs = [.int .i64 a, .int .i64 b, .int .i64 c, v, .int .i64 d] ∧ (Tr.rows k l).rep n g v := by
  simp only [Tr.repCells, rep_ti] at h
  obtain ⟨_, _, rfl, rfl, _, _, rfl, rfl, _, _, rfl, rfl, v, _, rfl, hv, _, _, rfl, rfl, rfl⟩ := h
  exact ⟨v, rfl, hv⟩
theorem rowu5 {n : Nat} {g : Heap} {a b c d e : Int} {xs : List NV} (h : Tr.repCells n g [tu a, tu b, tu c, tu d, ti e] xs) : xs = [.int .u64 a, .int .u64 b, .int .u64 c, .int .u64 d, .int .i64 e] := by
  simp only [Tr.repCells, rep_ti, rep_tu] at h
  obtain ⟨_, _, rfl, rfl, _, _, rfl, rfl, _, _, rfl, rfl, _, _, rfl, rfl, _, _, rfl, rfl, rfl⟩ := h
  rfl
theorem rows1 {n : Nat} {g : Heap} {v : NV} {l : List (List Tr)} {ids : List Int} (h : (Tr.rows 1 l).rep n g v) (e : l = ids.map fun i => [ti i]) (h0 : 0 < ids.length) : ∃ b c cs ro, v = .slice (some (b, 0)) ids.length c ∧ hget g b = some (.cells cs ro) ∧ ∀ i (hi : i < ids.length), cs[i]? = some (.int .i64 ids[i]) := by
  subst e
  simp only [Tr.rep] at h
  rcases h with ⟨_, h⟩ | ⟨b, c, cs, ro, rfl, _, hb, hr⟩
  · exfalso
    have := congrArg List.length h
    rw [List.length_map, List.length_nil] at this
    omega
  refine ⟨b, c, cs, ro, by rw [List.length_map], hb, fun i hi => ?_⟩
  obtain ⟨xs, hc, hx⟩ := Tr.rep_row hr (j := i) (by rw [List.length_map]; exact hi)
  rw [List.getElem_map] at hx
  simp only [Tr.repCells, rep_ti] at hx
  obtain ⟨_, _, rfl, rfl, rfl⟩ := hx
  have := cut_get (i := 0) hc (by omega)
  simpa using this

theorem fs_at {d1 d2 d3 : Int} {k1 k3 : List XCase} {bud : Int} {n : Nat} {g : Heap} {z : NV} (h : (Tr.rows 3 fieldRows).rep n g z) : FsAt (XA.code d1 d2 d3 k1 k3 bud) g z := by
  simp only [Tr.rep] at h
  rcases h with ⟨_, h⟩ | ⟨b, c, cs, ro, rfl, _, hb, hr⟩
  · cases h
  refine ⟨b, c, cs, ro, rfl, hb, fun j hj => ?_⟩
  have hj : j < 9 := hj
  obtain ⟨xs, hc, hx⟩ := Tr.rep_row hr (j := j) hj
  match j, hj with
  | 0, _ => exact ⟨_, hc.trans (congrArg some (row3 hx))⟩
  | 1, _ => exact ⟨_, hc.trans (congrArg some (row3 hx))⟩
  | 2, _ => exact ⟨_, hc.trans (congrArg some (row3 hx))⟩
  | 3, _ => exact ⟨_, hc.trans (congrArg some (row3 hx))⟩
  | 4, _ => exact ⟨_, hc.trans (congrArg some (row3 hx))⟩
  | 5, _ => exact ⟨_, hc.trans (congrArg some (row3 hx))⟩
  | 6, _ => exact ⟨_, hc.trans (congrArg some (row3 hx))⟩
  | 7, _ => exact ⟨_, hc.trans (congrArg some (row3 hx))⟩
  | 8, _ => exact ⟨_, hc.trans (congrArg some (row3 hx))⟩
theorem hs_at {d1 d2 d3 : Int} {k1 k3 : List XCase} {bud : Int} {n : Nat} {g : Heap} {z : NV} (h : (Tr.rows 3 headerRows).rep n g z) : HsAt (XA.code d1 d2 d3 k1 k3 bud) g z := by
  simp only [Tr.rep] at h
  rcases h with ⟨_, h⟩ | ⟨b, c, cs, ro, rfl, _, hb, hr⟩
  · cases h
  refine ⟨b, c, cs, ro, rfl, hb, fun j hj => ?_⟩
  have hj : j < 3 := hj
  obtain ⟨xs, hc, hx⟩ := Tr.rep_row hr (j := j) hj
  match j, hj with
  | 0, _ =>
    obtain ⟨v, rfl, hv⟩ := row3r hx
    obtain ⟨b', c', cs', ro', rfl, h1, h2⟩ := rows1 (ids := [4, 5, 6]) hv rfl (by simp)
    exact ⟨_, b', c', cs', ro', hc, h1, h2⟩
  | 1, _ =>
    obtain ⟨v, rfl, hv⟩ := row3r hx
    obtain ⟨b', c', cs', ro', rfl, h1, h2⟩ := rows1 (ids := [7]) hv rfl (by simp)
    exact ⟨_, b', c', cs', ro', hc, h1, h2⟩
  | 2, _ =>
    obtain ⟨v, rfl, hv⟩ := row3r hx
    obtain ⟨b', c', cs', ro', rfl, h1, h2⟩ := rows1 (ids := [8, 9]) hv rfl (by simp)
    exact ⟨_, b', c', cs', ro', hc, h1, h2⟩

theorem case_cells {v m : Nat} {n : Int} (hv : v < 100) (hm : m < 100) : ([.int .u64 0, .int .u64 (v : Int), .int .u64 0, .int .u64 (m : Int), .int .i64 n] : List NV) = XCase.cells ⟨ofV v, ofV m, n⟩ := by
  have h1 := ofV_nv (k := v) (by omega)
  have h2 := ofV_nv (k := m) (by omega)
  simp only [vnv, NV.agg.injEq, List.cons.injEq, and_true] at h1 h2
  unfold XCase.cells
  show _ = [nb (hiOf (ofV v)), nb (loOf (ofV v)), nb (hiOf (ofV m)), nb (loOf (ofV m)), NV.int .i64 n]
  rw [← h1.1, ← h1.2, ← h2.1, ← h2.2, nb_of (v : Int) (by omega), nb_of (m : Int) (by omega)]
  rfl
theorem cases_at {n : Nat} {g : Heap} {v : NV} {l : List (List Tr)} {ks : List XCase} (h : (Tr.rows 5 l).rep n g v) (hl : l.length = ks.length) (e : ∀ i (h1 : i < l.length) (h2 : i < ks.length) xs, Tr.repCells n g l[i] xs → xs = ks[i].cells) : CasesAt g v ks := by
  simp only [Tr.rep] at h
  rcases h with ⟨rfl, rfl⟩ | ⟨b, c, cs, ro, rfl, _, hb, hr⟩
  · refine ⟨none, .fix 0, by rw [← hl]; rfl, fun h => ?_⟩
    rw [← hl] at h; exact absurd h (by simp)
  · refine ⟨some (b, 0), c, by rw [hl], fun _ => ⟨b, cs, ro, rfl, hb, fun i hi => ?_⟩⟩
    obtain ⟨xs, hc, hx⟩ := Tr.rep_row hr (j := i) (by omega)
    rw [← e i (by omega) hi xs hx]; exact hc

theorem c1_at {g : Heap} {n : Nat} {v : NV} {c1 : List (List Tr)} (h : (Tr.rows 5 c1).rep n g v) (hc : c1 = baseCases ∨ ∃ v d, c1 = baseCases ++ [[tu 0, tu v, tu 0, tu 8, ti d]] ∧ (v = 0 ∨ v = 8) ∧ EndOK d) :
    ∃ ks, CasesAt g v ks ∧ ks.length ≤ 100 ∧ ∀ c ∈ ks, NxOK c.next := by
  rcases hc with rfl | ⟨x, d, rfl, hx, hd⟩
  · refine ⟨xbase, cases_at h rfl ?_, by simp [xbase], ?_⟩
    · intro i h1 h2 xs hr
      have h1 : i < 2 := h1
      match i, h1 with
      | 0, _ => exact (rowu5 hr).trans (case_cells (v := 1) (m := 15) (by omega) (by omega))
      | 1, _ => exact (rowu5 hr).trans (case_cells (v := 2) (m := 3) (by omega) (by omega))
    · intro c hc
      simp only [xbase, List.mem_cons, List.not_mem_nil, or_false] at hc
      rcases hc with rfl | rfl
      · exact .inr (.inr (by simp))
      · exact .inr (.inr (by simp))
  · refine ⟨xbase ++ [⟨ofV x, ofV 8, d⟩], cases_at h rfl ?_, by simp [xbase], ?_⟩
    · intro i h1 h2 xs hr
      have h1 : i < 3 := h1
      match i, h1 with
      | 0, _ => exact (rowu5 hr).trans (case_cells (v := 1) (m := 15) (by omega) (by omega))
      | 1, _ => exact (rowu5 hr).trans (case_cells (v := 2) (m := 3) (by omega) (by omega))
      | 2, _ =>
        rcases hx with rfl | rfl
        · exact (rowu5 hr).trans (case_cells (v := 0) (m := 8) (by omega) (by omega))
        · exact (rowu5 hr).trans (case_cells (v := 8) (m := 8) (by omega) (by omega))
    · intro c hc
      simp only [xbase, List.cons_append, List.nil_append, List.mem_cons, List.not_mem_nil, or_false] at hc
      rcases hc with rfl | rfl | rfl
      · exact .inr (.inr (by simp))
      · exact .inr (.inr (by simp))
      · exact hd.nx
theorem c3_at {g : Heap} {n : Nat} {v : NV} {c3 : List (List Tr)} (h : (Tr.rows 5 c3).rep n g v) (hc : c3 = [] ∨ ∃ d, c3 = [[tu 0, tu 5, tu 0, tu 15, ti d]] ∧ 1 ≤ d ∧ d ≤ 3) :
    ∃ ks, CasesAt g v ks ∧ ks.length ≤ 100 ∧ ∀ c ∈ ks, NxOK c.next := by
  rcases hc with rfl | ⟨d, rfl, h1, h3⟩
  · exact ⟨[], cases_at h rfl (fun i h1 => absurd h1 (by simp)), by simp, by simp⟩
  · refine ⟨[⟨ofV 5, ofV 15, d⟩], cases_at h rfl ?_, by simp, ?_⟩
    · intro i h1 h2 xs hr
      have h1 : i < 1 := h1
      match i, h1 with
      | 0, _ => exact (rowu5 hr).trans (case_cells (v := 5) (m := 15) (by omega) (by omega))
    · intro c hc
      simp only [List.mem_cons, List.not_mem_nil, or_false] at hc
      subst hc
      refine .inr (.inr ?_)
      show d ∈ ([1, 2, 3] : List Int)
      simp; omega
theorem ss_at {bud : Int} {n : Nat} {g : Heap} {z : NV} {sts : List (List Tr)} (h : (Tr.rows 5 sts).rep n g z) (hs : StatesOK sts) (hb : 0 ≤ bud ∧ bud ≤ 1000) : ∃ d1 d2 k1 k3, SsAt (XA.code d1 d2 0 k1 k3 bud) g z ∧ CodeOK d1 d2 0 k1 k3 bud := by
  obtain ⟨d1, d2, c1, c3, rfl, hd1, hd2, hc1, hc3⟩ := hs
  simp only [Tr.rep] at h
  rcases h with ⟨_, h⟩ | ⟨b, c, cs, ro, rfl, _, hb', hr⟩
  · cases h
  have row := fun j (hj : j < 3) => Tr.rep_row hr (j := j) hj
  obtain ⟨x0, e0, r0⟩ := row 0 (by omega)
  obtain ⟨x1, e1, r1⟩ := row 1 (by omega)
  obtain ⟨x2, e2, r2⟩ := row 2 (by omega)
  obtain ⟨v0, rfl, hv0⟩ := row5r r0
  obtain ⟨v1, rfl, hv1⟩ := row5r r1
  obtain ⟨v2, rfl, hv2⟩ := row5r r2
  obtain ⟨k1, a1, a2, a3⟩ := c1_at hv0 hc1
  obtain ⟨k3, b1, b2, b3⟩ := c3_at hv2 hc3
  refine ⟨d1, d2, k1, k3, ⟨some (b, 0), c, rfl, fun _ => ⟨b, cs, ro, rfl, hb', fun j hj => ?_⟩⟩, ⟨hd1.nx, hd2.nx, .inl rfl, ⟨a2, a3⟩, ⟨b2, b3⟩, hb⟩⟩
  have hj : j < 3 := hj
  match j, hj with
  | 0, _ => exact ⟨v0, e0, a1⟩
  | 1, _ => exact ⟨v1, e1, cases_at hv1 rfl fun i h1 => absurd h1 (by simp)⟩
  | 2, _ => exact ⟨v2, e2, b1⟩

theorem schemaQ.xat {H : Heap} {p n : Nat} {sl : NV} {v : NV} {g : Heap} (h : schemaQ H p n sl (v, g)) :
    ∃ d1 d2 k1 k3 bud z0 z1 z2 z3 z4 z5 z6 z7 z8, v = .agg [z0, z1, z2, z3, z4, z5, z6, z7, z8, .int .i64 bud] ∧ XAt (XA.code d1 d2 0 k1 k3 bud) g z0 z1 z2 z3 z4 z5 z6 z7 z8 (.int .i64 bud) ∧ CodeOK d1 d2 0 k1 k3 bud ∧ CodesSt H g p n sl := by
  obtain ⟨cs, row, t, x, y, z, w, mb, bud, sts, acs, rls, b, rcs, rfl, hcs, hb, hrc, hrl, hap, hrep, ok, st⟩ := h
  rw [ok.row] at hrep
  simp only [Tr.repCells, rep_ti] at hrep
  obtain ⟨z0, _, rfl, e0, z1, _, rfl, e1, z2, _, rfl, e2, z3, _, rfl, e3, z4, _, rfl, e4, z5, _, rfl, e5, z6, _, rfl, e6, z7, _, rfl, e7, _, _, rfl, rfl, _, _, rfl, rfl, rfl⟩ := hrep
  have hbud : 0 ≤ bud ∧ bud ≤ 1000 := by have := ok.bud; omega
  obtain ⟨d1, d2, k1, k3, hS, hC⟩ := ss_at e2 ok.states hbud
  exact ⟨d1, d2, k1, k3, bud, z0, z1, z2, z3, z4, z5, z6, z7, _, rfl, ⟨fs_at e0, hs_at e1, hS, ⟨Tr.rep_one e3, Tr.rep_one e4, Tr.rep_one e5, Tr.rep_one e6, Tr.rep_one e7, rfl⟩, rfl, hC.ok⟩, hC, st⟩
end Go.Proofs
