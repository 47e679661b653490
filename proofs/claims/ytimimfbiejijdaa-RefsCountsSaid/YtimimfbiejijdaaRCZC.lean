/- Zi, Zj, Zk in one text. -/
import Derived.Test.YtimimfbiejijdaaRCZB
set_option linter.unusedSimpArgs false
set_option linter.unusedVariables false
set_option maxRecDepth 100000
namespace Go.Proofs
open Go.Ns

theorem flat_take {rows : List (List NV)} (h : ∀ r ∈ rows, r.length = 5) {k : Nat} (hk : k ≤ rows.length) : cut rows.flatten 0 (k * 5) = some (rows.take k).flatten ∧ (rows.take k).flatten.length = k * 5 := by
  have h1 : (rows.take k).flatten.length = k * 5 := by
    rw [flat5 fun r hr => h r (List.mem_of_mem_take hr), List.length_take, Nat.min_eq_left hk]
  refine ⟨?_, h1⟩
  have h2 : rows.flatten = (rows.take k).flatten ++ (rows.drop k).flatten := by rw [← List.flatten_append, List.take_append_drop]
  unfold cut
  rw [if_pos (by rw [flat5 h]; omega), List.drop_zero, h2, List.take_left' h1]
theorem flat_drop {rows : List (List NV)} (h : ∀ r ∈ rows, r.length = 5) {k : Nat} (hk : k ≤ rows.length) : cut rows.flatten (k * 5) ((rows.length - k) * 5) = some (rows.drop k).flatten ∧ (rows.drop k).flatten.length = (rows.length - k) * 5 := by
  have h1 : (rows.drop k).flatten.length = (rows.length - k) * 5 := by
    rw [flat5 fun r hr => h r (List.mem_of_mem_drop hr), List.length_drop]
  refine ⟨?_, h1⟩
  have h0 := (flat_take h hk).2
  have h2 : rows.flatten = (rows.take k).flatten ++ (rows.drop k).flatten := by rw [← List.flatten_append, List.take_append_drop]
  unfold cut
  rw [if_pos (by rw [flat5 h]; omega), h2, List.drop_left' h0, List.take_of_length_le (by omega)]

theorem RcSt.next {G : Heap} {p px mx n : Nat} {sl v : NV} {zs : List NV} {t : TP} {h : Heap} {es : List En} {rows : List (List NV)} (x : RcSt G p px mx n sl zs t h es rows v) (hp : p < G.length) (h1 : px ≠ p) (h2 : p ≠ mx) {a : Int} (ha : 0 ≤ a) (hb : a ≤ n) : RcSt G p px mx n sl zs t (hset h p (.cells [sl, .int .i64 a] false)) es rows v := by
  have l := x.len
  refine ⟨by rw [length_hset]; exact l, fun b hb e1 e2 => by rw [hget_hset_ne (Ne.symm e1)]; exact x.old b hb e1 e2, ⟨a, by rw [hget_hset_same (by omega)], ha, hb⟩, ?_, x.rows.keep fun b cs ro e1 hb => by rw [hget_hset_ne (by omega)]; exact hb⟩
  obtain ⟨M, e1, e2⟩ := x.cnt
  exact ⟨M, e1.mono (hget_hset_ne (Ne.symm h1)) (hget_hset_ne h2), e2⟩

theorem take_drop_at {α : Type} (l : List α) (k j : Nat) (hj : j < (l.take k ++ l.drop (k + 1)).length) (hk : k < l.length) : (l.take k ++ l.drop (k + 1))[j]? = l[if j < k then j else j + 1]? := by
  rw [List.getElem?_append, List.length_take, Nat.min_eq_left (by omega)]
  split
  · rw [List.getElem?_take_of_lt (by assumption)]
  · rw [List.getElem?_drop]
    congr 1
    omega
theorem RowsSt.out {h g : Heap} {N N' k : Nat} {t : TP} {rows : List (List NV)} {es : List En} {v w : NV} (x : RowsSt h N t rows es v) (kk : ∀ b cs ro, N ≤ b → hget h b = some (.cells cs ro) → hget g b = some (.cells cs ro)) (gr : GrW g N' (rows.take k ++ rows.drop (k + 1)).flatten 5 w) (hN : N ≤ N') (hh : h.length ≤ N') (hk : k < rows.length) :
    RowsSt g N t (rows.take k ++ rows.drop (k + 1)) (es.take k ++ es.drop (k + 1)) w := by
  have hl := x.len
  refine ⟨by simp only [List.length_append, List.length_take, List.length_drop]; omega, gr.low hN, fun j h1 h2 => ?_⟩
  have a1 := take_drop_at rows k j h1 hk
  have a2 := take_drop_at es k j h2 (by omega)
  rw [List.getElem?_eq_getElem h1] at a1
  rw [List.getElem?_eq_getElem h2] at a2
  obtain ⟨i1, e1⟩ := List.getElem?_eq_some_iff.1 a1.symm
  obtain ⟨i2, e2⟩ := List.getElem?_eq_some_iff.1 a2.symm
  rw [← e1, ← e2]
  obtain ⟨q1, q2, q3⟩ := x.row _ i1 i2
  have hne : (rows.take k ++ rows.drop (k + 1)).flatten ≠ [] := by
    intro e
    have := congrArg List.length e
    rw [flat5 (fun r hr => x.r5 r (by
      rcases List.mem_append.1 hr with hr | hr
      · exact List.mem_of_mem_take hr
      · exact List.mem_of_mem_drop hr)), List.length_nil] at this
    omega
  exact ⟨(x.keep kk).row _ i1 i2 |>.1, q2, q1.sep fun b hb => gr.off (by omega) hne⟩

def rcJ (G : Heap) (p b5 px mx n : Nat) (sl : NV) (zs : List NV) (t : TP) (k : Nat) (P6 P9 : NV) (F : FF) (h' : Heap) : Prop := ∃ es rows oa oc, F 5 = .ptr (some (b5, 0)) ∧ F 6 = P6 ∧ F 7 = .ptr (some (px, 0)) ∧ F 8 = .slice oa rows.length oc ∧ F 9 = P9 ∧ es.length ≤ k ∧ RcSt G p px mx n sl zs t h' es rows (.slice oa rows.length oc)

set_option maxHeartbeats 2000000 in
theorem rem_ok (G : Heap) (q p b5 px mx n : Nat) (sl : NV) (N : Nat) (t : TP) (acs : List (List Tr)) (z0 z1 z2 z3 z4 z5 z6 z7 z8 z9 : NV) (c : RcCtx G q p b5 px mx n sl N t acs z0 z1 z2 z3 z4 z5 z6 z7 z8 z9)
    (h : Heap) (es : List En) (rows : List (List NV)) (oa : Option (Nat × Nat)) (oc : Cap) (st : RcSt G p px mx n sl [z0, z1, z2, z3, z4, z5, z6, z7, z8, z9] t h es rows (.slice oa rows.length oc)) (hle : es.length ≤ 24) (h0 : 0 < es.length)
    (F : FF) (P9 : NV) (f5 : F 5 = .ptr (some (b5, 0))) (f6 : F 6 = .ptr (some (p, 0))) (f7 : F 7 = .ptr (some (px, 0))) (f8 : F 8 = .slice oa rows.length oc) (f9 : F 9 = P9) :
    fwpT E0 d12 (joinK (rcJ G p b5 px mx n sl [z0, z1, z2, z3, z4, z5, z6, z7, z8, z9] t (es.length) (.ptr (some (p, 0))) P9)) F h .mk := by
  have hR6 := refsOf_le6 t
  have hR : (refsOf t).length ≤ 10 := by omega
  have hrl := st.rows.len
  have kq : ∀ h', RcSt G p px mx n sl [z0, z1, z2, z3, z4, z5, z6, z7, z8, z9] t h' es rows (.slice oa rows.length oc) → ∀ b, b < q → hget h' b = hget G b := fun h' s b hb => by
    have := c.qp
    have := c.qm
    have := c.pG
    exact s.old b (by omega) (by omega) (by omega)
  obtain ⟨a0, hp, ha0, ha1⟩ := st.code
  rw [d12_eq]
  simp (disch := first | omega | (simp only [fsLen]; omega)) only [↓fsPre, fsPost, fsGen, fsDefs, Nat.reduceEqDiff, ↓reduceIte, f6, f8]
  refine callT_D (next_ok h p n rows.length sl a0 hp (c.cs h (kq h st)) ha0 ha1 (by omega) (by omega)) rfl ?_
  rintro v h' ⟨x, a', e, x0, x1, hb0, hb1⟩
  cases e
  obtain ⟨k, rfl⟩ := Int.eq_ofNat_of_zero_le x0
  have hk : k < rows.length := by omega
  have hke : k < es.length := by omega
  have st1 := st.next c.pG c.xp c.pm hb0 hb1
  generalize hset h p (.cells [sl, .int .i64 a'] false) = h1 at *
  obtain ⟨oa', oc', e, _, hsh, xr⟩ := st1.rows.shape
  cases e
  obtain ⟨rfl, bo, rfl, hbo, hbk⟩ := hsh (by omega)
  have hbl := hget_some_lt hbk
  obtain ⟨hEnU, hEnR⟩ := st1.rows.ok
  obtain ⟨xe, xok, xsep⟩ := st1.rows.row k hk hke
  have hck : cut rows.flatten (k * 5) 5 = some rows[k] := flat_cut st1.rows.r5 k hk
  obtain ⟨mv, av, hrw, om, oav, _⟩ := xe.parts
  rw [hrw] at hck xe
  simp (disch := first | omega | (simp only [fsLen]; omega)) only [↓fsPre, fsPost, fsCond, fsGen, fsDefs, Nat.reduceEqDiff, ↓reduceIte, f7, f8, hbk, hck]
  obtain ⟨M, cx, rM⟩ := st1.cnt
  have hB := accT_bound (refsOf t) hR es
  refine callT_D (remove_ok _ _ (refsOf t) z0 z1 z2 z3 z4 z5 z6 z7 z8 z9 px mx M _ cx rM (c.rv h1 (kq h1 st1)) hR _ es[k] xe (hEnR _ (List.getElem_mem hke)) (hEnU _ (List.getElem_mem hke)) 300 (fun k => by have := hB k; omega) (by omega)) rfl ?_
  rintro v5 h2 ⟨hv5, hl2, ho2, M2, ax2, bx2, lx2⟩
  simp only at hv5 hl2 ho2 ax2
  subst hv5
  rw [accT_out (refsOf t) es k hke] at bx2
  have mG := c.mG
  have lG := st1.len
  have hbk2 : hget h2 bo = _ := (ho2 bo hbl (by omega)).trans hbk
  have hbl2 := hget_some_lt hbk2
  obtain ⟨ct, lt⟩ := flat_take st1.rows.r5 (k := k) (by omega)
  obtain ⟨cd, ld⟩ := flat_drop st1.rows.r5 (k := k + 1) (by omega)
  simp (disch := first | omega | (simp only [fsLen]; omega)) only [↓fsPre, fsPost, fsCond, fsGen, fsDefs, cls, Nat.reduceAdd, Nat.reduceEqDiff, Nat.reduceBEq, ↓reduceIte, f8]
  refine grw_app (N := h2.length + 1) (C := []) (new := (rows.take k).flatten) (m := k) (.inl ⟨rfl, _, rfl⟩) (by simp) (sliceCells_at (by simp (disch := first | omega | (simp only [fsLen]; omega)) only [fsCond, hbk2] <;> rfl) ct) rfl (by omega) lt (by simp) (by omega) (by omega) ?_
  intro v1 g1 gg1 l1 n1 _
  have eb := n1 bo (by omega)
  have e0 := n1 h2.length (by omega)
  simp (disch := first | omega | (simp only [fsLen]; omega)) only [fsPost, fsCond, fsGen] at eb e0
  rw [hbk2] at eb
  simp only [List.length_append, List.length_cons, List.length_nil] at l1
  have ej : ((k : Int) + 1).toNat = k + 1 := by omega
  simp (disch := first | omega | (simp only [fsLen]; omega)) only [↓fsPre, fsPost, fsCond, fsGen, fsDefs, fsDefX, cls, Nat.reduceEqDiff, Nat.reduceBEq, ↓reduceIte, f8, ej]
  refine ⟨by omega, ?_⟩
  refine grw_app (N := h2.length + 1) (new := (rows.drop (k + 1)).flatten) (m := rows.length - (k + 1)) gg1 (by omega) (sliceCells_at (by simp (disch := first | omega | (simp only [fsLen]; omega)) only [eb] <;> rfl) cd) rfl (by omega) ld (by rw [List.nil_append, lt]; omega) (by omega) (by omega) ?_
  intro v3 g3 gg3 l3 n3 _
  have hfin : GrW g3 (h2.length + 1) (rows.take k ++ rows.drop (k + 1)).flatten 5 v3 := by rw [List.flatten_append]; simpa using gg3
  have old3 : ∀ b, b < h2.length → hget g3 b = hget h2 b := fun b hb => by rw [n3 b (by omega), n1 b (by omega), hget_appl hb]
  have rows' : RowsSt g3 G.length t (rows.take k ++ rows.drop (k + 1)) (es.take k ++ es.drop (k + 1)) v3 := st1.rows.out (fun b cs ro e1 hb => by rw [old3 b (by have := hget_lt hb; omega), ho2 b (hget_lt hb) (by omega)]; exact hb) hfin (by omega) (by omega) hk
  have hes' : (es.take k ++ es.drop (k + 1)).length ≤ es.length := by simp only [List.length_append, List.length_take, List.length_drop]; omega
  generalize rows.take k ++ rows.drop (k + 1) = rows2 at *
  generalize es.take k ++ es.drop (k + 1) = es2 at *
  obtain ⟨A, c', rfl, _⟩ := rows'.shape
  simp (disch := first | omega | (simp only [fsLen]; omega)) only [↓fsPre, fsPost, fsGen, cls, Nat.reduceBEq, ↓reduceIte]
  refine ⟨by omega, ?_⟩
  have pG := c.pG
  have xG := c.xG
  refine ⟨es2, rows2, A, c', ?_⟩
  simp (disch := first | omega | (simp only [fsLen]; omega)) only [↓fsPre, fsGen, Nat.reduceEqDiff, ↓reduceIte, f5, f6, f7, f9]
  refine ⟨hes', by omega, fun b hb e1 e2 => ?_, ?_, ?_, rows'⟩
  · rw [old3 b (by omega), ho2 b (by omega) e2]; exact st1.old b hb e1 e2
  · obtain ⟨a, e1, e2⟩ := st1.code
    exact ⟨a, by rw [old3 p (by omega), ho2 p (by omega) c.pm]; exact e1, e2⟩
  · exact ⟨M2, ax2.mono (old3 px (hget_some_lt ax2.hp)) (old3 mx ax2.hm.lt), bx2⟩

theorem RowsSt.add {h g : Heap} {N N' : Nat} {t : TP} {rows : List (List NV)} {es : List En} {v w : NV} {row : List NV} {e : En} (x : RowsSt h N t rows es v) (xe : EnAt h N' row e) (hok : EnOK t e) (hN : N ≤ N') (hN' : ∀ b, N' ≤ b → rows.flatten = [] ∨ Off b v) (k : ∀ b, b < h.length → (rows.flatten = [] ∨ Off b v) → hget g b = hget h b) (gr : GrW g N (rows.flatten ++ row) 5 w) (sep : ∀ b, b < h.length → Off b w) :
    RowsSt g N t (rows ++ [row]) (es ++ [e]) w := by
  have hl := x.len
  refine ⟨by simp [hl], by rw [List.flatten_append]; simpa using gr, fun j h1 h2 => ?_⟩
  by_cases hj : j < rows.length
  · rw [List.getElem_append_left hj, List.getElem_append_left (by omega)]
    obtain ⟨q1, q2, q3⟩ := x.row j hj (by omega)
    exact ⟨q1.keep (fun b hb ho => k b hb (.inr ho)) q3, q2, q1.sep sep⟩
  · simp only [List.length_append, List.length_cons, List.length_nil] at h1
    have hj2 : j = rows.length := by omega
    subst hj2
    rw [List.getElem_append_right (Nat.le_refl _), List.getElem_append_right (by omega)]
    simp only [Nat.sub_self, hl, List.getElem_cons_zero]
    exact ⟨(xe.ext fun b y hb hy => by rw [k b (hget_lt hy) (hN' b hb)]; exact hy).low hN, hok, xe.sep sep⟩

set_option maxHeartbeats 4000000 in
theorem addp_ok (G : Heap) (q p b5 px mx n : Nat) (sl : NV) (N : Nat) (t : TP) (acs : List (List Tr)) (z0 z1 z2 z3 z4 z5 z6 z7 z8 z9 : NV) (c : RcCtx G q p b5 px mx n sl N t acs z0 z1 z2 z3 z4 z5 z6 z7 z8 z9)
    (h : Heap) (es : List En) (rows : List (List NV)) (oa : Option (Nat × Nat)) (oc : Cap) (st : RcSt G p px mx n sl [z0, z1, z2, z3, z4, z5, z6, z7, z8, z9] t h es rows (.slice oa rows.length oc)) (hle : es.length ≤ 23)
    (F : FF) (P9 : NV) (f5 : F 5 = .ptr (some (b5, 0))) (f6 : F 6 = .ptr (some (p, 0))) (f7 : F 7 = .ptr (some (px, 0))) (f8 : F 8 = .slice oa rows.length oc) (f9 : F 9 = P9) :
    fwpT E0 d13 (joinK (rcJ G p b5 px mx n sl [z0, z1, z2, z3, z4, z5, z6, z7, z8, z9] t (es.length + 1) (.ptr (some (p, 0))) P9)) F h .mk := by
  have hR6 := refsOf_le6 t
  have hR : (refsOf t).length ≤ 10 := by omega
  have hrl := st.rows.len
  have lG := st.len
  have pG := c.pG
  have mG := c.mG
  have xG := c.xG
  have qp := c.qp
  have qm := c.qm
  have l5 := hget_some_lt c.h5
  have n5 := c.n5
  have m5 := c.m5
  have hq : ∀ b, b < q → hget h b = hget G b := fun b hb => st.old b (by omega) (by omega) (by omega)
  have hb5 : hget h b5 = some (.cells [z0, z1, z2, z3, z4, z5, z6, z7, z8, z9] false) := by rw [st.old b5 l5 c.n5 c.m5]; exact c.h5
  have rv := c.rv h hq
  obtain ⟨p0, p1, p2, p3, p4, p5, p6, p8, p9⟩ := rv.o
  have p7 : z7.one = true := by obtain ⟨b, c, _, _, rfl, _⟩ := rv.r; rfl
  obtain ⟨a0, hp, ha0, ha1⟩ := st.code
  have hpl := hget_some_lt hp
  have hbl5 := hget_some_lt hb5
  rw [d13_eq]
  simp (disch := first | omega | (simp only [fsLen]; omega)) only [↓fsPre, fsPost, fsCond, fsGen, cls, Nat.reduceAdd, Nat.reduceEqDiff, ↓reduceIte, f5, f6, hb5]
  refine callDT_D (next_ok _ p n 4 sl a0 (by simp (disch := first | omega | (simp only [fsLen]; omega)) only [fsCond, hp]) (c.cs _ (fun b hb => by rw [hget_appl (by omega)]; exact hq b hb)) ha0 ha1 (by omega) (by omega)) rfl ?_
  rintro v h' ⟨x, a', e, x0, x1, hb0, hb1⟩
  cases e
  have hb5' : hget (hset h p (.cells [sl, .int .i64 a'] false)) b5 = _ := (hget_hset_ne (Ne.symm n5)).trans hb5
  simp (disch := first | omega | (simp only [fsLen]; omega)) only [↓fsPre, fsPost, fsCond, fsGen, cls, Nat.reduceEqDiff, Nat.reduceBEq, ↓reduceIte]
  have kN : ∀ b, b < h.length → b ≠ p → hget (hset h p (.cells [sl, .int .i64 a'] false) ++ [none]) b = hget h b := fun b hb hne => by rw [hget_appl (by rw [length_hset]; omega), hget_hset_ne (Ne.symm hne)]
  have stN : CodesSt (hset h p (.cells [sl, .int .i64 a'] false) ++ [none]) (hset h p (.cells [sl, .int .i64 a'] false) ++ [none]) p n sl := CodesSt.refl (a := a') (by rw [hget_appl (by rw [length_hset]; omega), hget_hset_same hpl]) hb0 hb1 (c.cs _ fun b hb => by rw [kN b (by omega) (by omega)]; exact hq b hb)
  refine callDT_D (entry_ok N _ p n sl stN t acs z0 z1 z2 z3 z4 z5 z6 z7 z8 z9 (fun h2 st2 => c.sc h2 fun b hb => by rw [st2.old b (by simp; omega) (by omega), kN b (by omega) (by omega)]; exact hq b hb) x x0 x1) rfl ?_
  rintro v h2 ⟨e, row, hv, hen, hok, st2⟩
  simp only at hv hen st2
  subst hv
  have hl2 := st2.len
  simp only [List.length_append, List.length_cons, List.length_nil, length_hset] at hl2 hen
  have o2 : ∀ b, b < h.length → b ≠ p → hget h2 b = hget h b := fun b hb hne => by rw [st2.old b (by simp; omega) hne, kN b hb hne]
  have ks : hget h2 h.length = none := by
    rw [st2.old _ (by simp) (by omega)]; simp (disch := first | omega | (simp only [fsLen]; omega)) only [fsPost, fsCond, fsGen]
  have hb52 : hget h2 b5 = _ := (o2 b5 hbl5 n5).trans hb5
  obtain ⟨mv, av, hrw, q1, q2⟩ := id hen
  have om := q1.one
  have oav := q2.one
  subst hrw
  simp (disch := first | omega | (simp only [fsLen]; omega)) only [↓fsPre, fsPost, fsCond, fsGen, cls, reduceCtorEq, Nat.reduceAdd, Nat.reduceEqDiff, Nat.reduceBEq, ↓reduceIte, f5, f7, hb5', ks, om, oav, hl2]
  have hE : EnU e := by
    obtain ⟨_, _, _, _, _, _, h1, h2⟩ := hok
    exact ⟨h1, h2⟩
  have hEr := refsOf_ok t e hok
  obtain ⟨M, cx, rM⟩ := st.cnt
  have lpx := hget_some_lt cx.hp
  have lmx := cx.hm.lt
  have lk : (hset h2 h.length (.cells [.int .i64 e.tab, mv, .int .i64 e.pr, .int .i64 e.act, av] false)).length = h2.length := length_hset ..
  have ko : ∀ b, b < h.length → b ≠ p → hget (hset h2 h.length (.cells [.int .i64 e.tab, mv, .int .i64 e.pr, .int .i64 e.act, av] false)) b = hget h b := fun b hb hne => by rw [hget_hset_ne (by omega)]; exact o2 b hb hne
  have kp : ∃ a : Int, hget (hset h2 h.length (.cells [.int .i64 e.tab, mv, .int .i64 e.pr, .int .i64 e.act, av] false)) p = some (.cells [sl, .int .i64 a] false) ∧ 0 ≤ a ∧ a ≤ n := by
    obtain ⟨a, e1, e2⟩ := st2.st
    exact ⟨a, by rw [hget_hset_ne (by omega)]; exact e1, e2⟩
  have kr : hget (hset h2 h.length (.cells [.int .i64 e.tab, mv, .int .i64 e.pr, .int .i64 e.act, av] false)) h.length = some (.cells [.int .i64 e.tab, mv, .int .i64 e.pr, .int .i64 e.act, av] false) := hget_hset_same (by omega)
  have xe3 := hen.ext (h' := hset h2 h.length (.cells [.int .i64 e.tab, mv, .int .i64 e.pr, .int .i64 e.act, av] false)) (ext_slot ks)
  generalize hset h2 h.length (.cells [.int .i64 e.tab, mv, .int .i64 e.pr, .int .i64 e.act, av] false) = k3 at *
  clear ks o2 hb52 hen st2 stN kN hb5'
  have hB := accT_bound (refsOf t) hR es
  refine callT_D (add_ok _ _ (refsOf t) z0 z1 z2 z3 z4 z5 z6 z7 z8 z9 px mx M _ (cx.mono (ko px lpx c.xp) (ko mx lmx (Ne.symm c.pm))) rM (c.rv k3 fun b hb => by rw [ko b (by omega) (by omega)]; exact hq b hb) hR _ e xe3 hEr hE 300 (fun k => by have := hB k; omega) (by omega)) rfl ?_
  rintro v5 h4 ⟨hv5, hl4, ho4, M2, ax2, bx2, lx2⟩
  simp only at hv5 hl4 ho4 ax2
  subst hv5
  rw [← accT_snoc] at bx2
  have kr4 : hget h4 h.length = _ := (ho4 _ (by omega) (by omega)).trans kr
  have l4 := hget_some_lt kr4
  have xe4 : EnAt h4 (h.length + 1) _ e := xe3.ext fun b y hb hy => by rw [ho4 b (hget_lt hy) (by omega)]; exact hy
  have rows4 : RowsSt h4 G.length t rows es (.slice oa rows.length oc) := st.rows.keep fun b cs ro hb hy => by
    have := hget_lt hy
    rw [ho4 b (by omega) (by omega), ko b this (by omega)]; exact hy
  simp (disch := first | omega | (simp only [fsLen]; omega)) only [↓fsPre, fsPost, fsGen, fsDefs, Nat.reduceAdd, Nat.reduceEqDiff, ↓reduceIte, f8, kr4, om, oav]
  have rows5 := rows4.keep (h := h4 ++ [some (.cells [.int .i64 e.tab, mv, .int .i64 e.pr, .int .i64 e.act, av] false)]) fun b cs ro _ hy => by rw [hget_appl (hget_lt hy)]; exact hy
  have xe5 := xe4.ext (h' := h4 ++ [some (.cells [.int .i64 e.tab, mv, .int .i64 e.pr, .int .i64 e.act, av] false)]) Ext.app
  have hoff : ∀ b, h.length + 1 ≤ b → rows.flatten = [] ∨ Off b (.slice oa rows.length oc) := fun b hb => by
    rcases st.rows.gr with ⟨e1, _⟩ | ⟨bv, kv, e1, _, e2, _⟩
    · exact .inl e1
    · refine .inr fun o n' c' e3 => ?_
      rw [e1] at e3
      cases e3
      have := hget_lt e2
      omega
  refine grw_app1 (N := G.length) (new := [.int .i64 e.tab, mv, .int .i64 e.pr, .int .i64 e.act, av]) (m := 1) rows5.gr (by rw [List.length_append]; omega) (sliceCells_at (by simp (disch := first | omega | (simp only [fsLen]; omega)) only [fsPost, fsCond, fsGen] <;> rfl) rfl) rfl (by omega) (by omega) rfl (by rw [flat5 rows5.r5]; omega) (by omega) (by omega) ?_
  intro v6 g6 gg6 l6 n6 k6 s6
  have rows6 : RowsSt g6 G.length t _ (es ++ [e]) v6 := rows5.add xe5 hok (by omega) hoff k6 gg6 s6
  have hes2 : (es ++ [e]).length = es.length + 1 := by simp
  generalize rows ++ [[.int .i64 e.tab, mv, .int .i64 e.pr, .int .i64 e.act, av]] = rows2 at *
  generalize es ++ [e] = es2 at *
  obtain ⟨A, c', rfl, _⟩ := rows6.shape
  simp only [List.length_append, List.length_cons, List.length_nil] at l6
  simp (disch := first | omega | (simp only [fsLen]; omega)) only [↓fsPre, fsPost, ↓reduceIte]
  have k7 : ∀ b, b < G.length → hget g6 b = hget h4 b := fun b hb => by rw [n6 b hb, hget_appl (by omega)]
  refine ⟨es2, rows2, A, c', ?_⟩
  simp (disch := first | omega | (simp only [fsLen]; omega)) only [↓fsPre, fsGen, Nat.reduceEqDiff, ↓reduceIte, f5, f6, f7, f9]
  refine ⟨by omega, by omega, fun b hb e1 e2 => ?_, ?_, ?_, rows6⟩
  · rw [k7 b hb, ho4 b (by omega) e2, ko b (by omega) e1]; exact st.old b hb e1 e2
  · obtain ⟨a, e1, e2⟩ := kp
    exact ⟨a, by rw [k7 p pG, ho4 p (by omega) c.pm]; exact e1, e2⟩
  · exact ⟨M2, ax2.mono (k7 px xG) (k7 mx mG), bx2⟩

theorem choice_ok (G : Heap) (q p b5 px mx n : Nat) (sl : NV) (N : Nat) (t : TP) (acs : List (List Tr)) (z0 z1 z2 z3 z4 z5 z6 z7 z8 z9 : NV) (c : RcCtx G q p b5 px mx n sl N t acs z0 z1 z2 z3 z4 z5 z6 z7 z8 z9)
    (h : Heap) (es : List En) (rows : List (List NV)) (oa : Option (Nat × Nat)) (oc : Cap) (st : RcSt G p px mx n sl [z0, z1, z2, z3, z4, z5, z6, z7, z8, z9] t h es rows (.slice oa rows.length oc)) (hle : es.length ≤ 23)
    (F : FF) (P9 : NV) (f5 : F 5 = .ptr (some (b5, 0))) (f6 : F 6 = .ptr (some (p, 0))) (f7 : F 7 = .ptr (some (px, 0))) (f8 : F 8 = .slice oa rows.length oc) (f9 : F 9 = P9) :
    fwpT E0 d10 (joinK (rcJ G p b5 px mx n sl [z0, z1, z2, z3, z4, z5, z6, z7, z8, z9] t (es.length + 1) (.ptr (some (p, 0))) P9)) F h .mk := by
  have hrl := st.rows.len
  rw [d10_eq]
  by_cases h0 : 0 < es.length
  · obtain ⟨a0, hp, ha0, ha1⟩ := st.code
    have hd : decide ((0 : Int) < (rows.length : Int)) = true := by simp; omega
    simp (disch := first | omega | (simp only [fsLen]; omega)) only [↓fsPre, fsPost, fsGen, fsDefs, fsDefX, Nat.reduceEqDiff, ↓reduceIte, f6, f8, hd]
    have pG := c.pG
    have qp := c.qp
    have qm := c.qm
    have lG := st.len
    refine callT_D (next_ok h p n 3 sl a0 hp (c.cs h fun b hb => st.old b (by omega) (by omega) (by omega)) ha0 ha1 (by omega) (by omega)) rfl ?_
    rintro v h' ⟨x, a', e, x0, x1, hb0, hb1⟩
    cases e
    have st1 := st.next c.pG c.xp c.pm hb0 hb1
    generalize hset h p (.cells [sl, .int .i64 a'] false) = h1 at *
    by_cases hx : x = 0
    · subst hx
      simp (disch := first | omega | (simp only [fsLen]; omega)) only [↓fsPre, fsPost, fsGen, fsDefs, fsDefX, Nat.reduceEqDiff, ↓reduceIte]
      refine fwp_partJ _ (rem_ok G q p b5 px mx n sl N t acs z0 z1 z2 z3 z4 z5 z6 z7 z8 z9 c h1 es rows oa oc st1 (by omega) h0 _ P9 ?_ ?_ ?_ ?_ ?_) ?_
      · simp (disch := first | omega | (simp only [fsLen]; omega)) only [↓fsPre, Nat.reduceEqDiff, ↓reduceIte, f5]
      · simp (disch := first | omega | (simp only [fsLen]; omega)) only [↓fsPre, Nat.reduceEqDiff, ↓reduceIte, f6]
      · simp (disch := first | omega | (simp only [fsLen]; omega)) only [↓fsPre, Nat.reduceEqDiff, ↓reduceIte, f7]
      · simp (disch := first | omega | (simp only [fsLen]; omega)) only [↓fsPre, Nat.reduceEqDiff, ↓reduceIte, f8]
      · simp (disch := first | omega | (simp only [fsLen]; omega)) only [↓fsPre, Nat.reduceEqDiff, ↓reduceIte, f9]
      · rintro F h ⟨es2, rows2, A, c', e1, e2, e3, e4, e5, e6, e7⟩
        exact ⟨es2, rows2, A, c', e1, e2, e3, e4, e5, by omega, e7⟩
    · have hd0 : decide (x = 0) = false := by simpa using hx
      simp (disch := first | omega | (simp only [fsLen]; omega)) only [↓fsPre, fsPost, fsGen, fsDefs, fsDefX, Nat.reduceEqDiff, ↓reduceIte, hx]
      refine fwp_partJ _ (addp_ok G q p b5 px mx n sl N t acs z0 z1 z2 z3 z4 z5 z6 z7 z8 z9 c h1 es rows oa oc st1 hle _ P9 ?_ ?_ ?_ ?_ ?_) ?_
      · simp (disch := first | omega | (simp only [fsLen]; omega)) only [↓fsPre, Nat.reduceEqDiff, ↓reduceIte, f5]
      · simp (disch := first | omega | (simp only [fsLen]; omega)) only [↓fsPre, Nat.reduceEqDiff, ↓reduceIte, f6]
      · simp (disch := first | omega | (simp only [fsLen]; omega)) only [↓fsPre, Nat.reduceEqDiff, ↓reduceIte, f7]
      · simp (disch := first | omega | (simp only [fsLen]; omega)) only [↓fsPre, Nat.reduceEqDiff, ↓reduceIte, f8]
      · simp (disch := first | omega | (simp only [fsLen]; omega)) only [↓fsPre, Nat.reduceEqDiff, ↓reduceIte, f9]
      · exact fun F h e => e
  · have hd : decide ((0 : Int) < (rows.length : Int)) = false := decide_eq_false (by omega)
    simp (disch := first | omega | (simp only [fsLen]; omega)) only [↓fsPre, fsPost, fsDefs, fsDefX, Nat.reduceEqDiff, ↓reduceIte, f8, hd]
    refine fwp_partJ _ (addp_ok G q p b5 px mx n sl N t acs z0 z1 z2 z3 z4 z5 z6 z7 z8 z9 c h es rows oa oc st hle _ P9 ?_ ?_ ?_ ?_ ?_) ?_
    · simp (disch := first | omega | (simp only [fsLen]; omega)) only [↓fsPre, Nat.reduceEqDiff, ↓reduceIte, f5]
    · simp (disch := first | omega | (simp only [fsLen]; omega)) only [↓fsPre, Nat.reduceEqDiff, ↓reduceIte, f6]
    · simp (disch := first | omega | (simp only [fsLen]; omega)) only [↓fsPre, Nat.reduceEqDiff, ↓reduceIte, f7]
    · simp (disch := first | omega | (simp only [fsLen]; omega)) only [↓fsPre, Nat.reduceEqDiff, ↓reduceIte, f8]
    · simp (disch := first | omega | (simp only [fsLen]; omega)) only [↓fsPre, Nat.reduceEqDiff, ↓reduceIte, f9]
    · exact fun F h e => e

set_option maxHeartbeats 4000000 in
theorem rcounts_ok (H : Heap) (v w : NV) (xs ys : List Int) (hv : BytesArg H v xs) (hw : BytesArg H w ys) : NFun Try.prog 5 [v, w] H fun q => q.1 = .bool true := by
  refine fun_of_fwp E0 mixed t5_ok.2 (by kernel_rfl) ?_
  rw [fwp_T]
  simp only [t5]
  rw [← d10_code, ← d11_eq]
  simp (disch := first | omega | (simp only [fsLen]; omega)) only [↓fsPre, fsPost, fsGen, reduceCtorEq, ↓reduceIte]
  refine callT_D (referring_ok H v xs hv) rfl ?_
  rintro v1 g1 ⟨N, t, acs, z0, z1, z2, z3, z4, z5, z6, z7, z8, z9, e, sc, rv, hl1, old1⟩
  simp only at e sc rv hl1 old1
  subst e
  have hw1 : BytesArg g1 w ys := by
    rcases hw with r | ⟨b, m, cs, ro, h0, h1, h2⟩
    · exact .inl r
    · exact .inr ⟨b, m, cs, ro, h0, by rw [old1 b (hget_lt h1)]; exact h1, h2⟩
  simp (disch := first | omega | (simp only [fsLen]; omega)) only [↓fsPre, fsPost, fsGen, Nat.reduceEqDiff, ↓reduceIte]
  refine callT_D (codes_ok g1 w ys 200 hw1 (by omega)) rfl ?_
  rintro v2 g2 ⟨sl, m, e, hs⟩
  cases e
  have hR6 := refsOf_le6 t
  have hR : (refsOf t).length ≤ 10 := by omega
  obtain ⟨p0, p1, p2, p3, p4, p5, p6, p8, p9⟩ := rv.o
  have p7 : z7.one = true := by obtain ⟨b, c, _, _, rfl, _⟩ := rv.r; rfl
  simp (disch := first | omega | (simp only [fsLen]; omega)) only [↓fsPre, fsPost, fsCond, fsGen, Nat.reduceAdd, Nat.reduceEqDiff, ↓reduceIte, p0, p1, p2, p3, p4, p5, p6, p7, p8, p9]
  have hG : ∀ b, b < g1.length → hget (g1 ++ [some (.cells [sl, .int .i64 0] false), some (.cells [z0, z1, z2, z3, z4, z5, z6, z7, z8, z9] false)]) b = hget g1 b := fun b hb => hget_appl hb
  have hs' : CodesSl (g1 ++ [some (NBlk.cells [sl, .int .i64 0] false), some (NBlk.cells [z0, z1, z2, z3, z4, z5, z6, z7, z8, z9] false)]) g1.length sl m := by have := hs.app (L := [some (.cells [z0, z1, z2, z3, z4, z5, z6, z7, z8, z9] false)]); simpa using this
  have hb4 : hget (g1 ++ [some (.cells [sl, .int .i64 0] false), some (.cells [z0, z1, z2, z3, z4, z5, z6, z7, z8, z9] false)]) g1.length = some (.cells [sl, .int .i64 0] false) := by simp (disch := first | omega | (simp only [fsLen]; omega)) only [fsPost, fsCond, fsGen]
  have hb5 : hget (g1 ++ [some (.cells [sl, .int .i64 0] false), some (.cells [z0, z1, z2, z3, z4, z5, z6, z7, z8, z9] false)]) (g1.length + 1) = some (.cells [z0, z1, z2, z3, z4, z5, z6, z7, z8, z9] false) := by simp (disch := first | omega | (simp only [fsLen]; omega)) only [fsPost, fsCond, fsGen]
  have hKl : (g1 ++ [some (NBlk.cells [sl, .int .i64 0] false), some (.cells [z0, z1, z2, z3, z4, z5, z6, z7, z8, z9] false)]).length = g1.length + 2 := by simp
  generalize g1 ++ [some (NBlk.cells [sl, .int .i64 0] false), some (.cells [z0, z1, z2, z3, z4, z5, z6, z7, z8, z9] false)] = K at *
  refine callT_D (cnew_ok K z0 z1 z2 z3 z4 z5 z6 z7 z8 z9 p0 p1 p2 p3 p4 p5 p6 p7 p8 p9) rfl ?_
  rintro v3 G ⟨lK1, oK, px, mx, rfl, hpx, hmx, cx⟩
  simp only at lK1 oK cx
  have lpx := hget_some_lt cx.hp
  have lmx := cx.hm.lt
  have xne := cx.ne
  have hb52 : hget G (g1.length + 1) = _ := (oK _ (by omega)).trans hb5
  have hb42 : hget G g1.length = _ := (oK _ (by omega)).trans hb4
  have oG : ∀ b, b < g1.length → hget G b = hget g1 b := fun b hb => (oK b (by omega)).trans (hG b hb)
  have ctx : RcCtx G g1.length g1.length (g1.length + 1) px mx m sl N t acs z0 z1 z2 z3 z4 z5 z6 z7 z8 z9 := by
    refine ⟨Nat.le_refl _, by omega, by omega, lmx, fun h k => ?_, fun h k => ?_, fun h k => ?_, hb52, by omega, fun e => ?_, by omega, by omega, xne, lpx⟩
    · exact sc.ext fun b x _ hb => by rw [k b (hget_lt hb), oG b (hget_lt hb)]; exact hb
    · exact rv.mono fun b hb => by rw [k b hb, oG b hb]
    · rcases hs with h1 | ⟨b, c, cs, ro, h1, h2, h3, h4⟩
      · exact .inl h1
      · have lb := hget_lt h2
        simp only [List.length_append, List.length_cons, List.length_nil] at lb
        refine .inr ⟨b, c, cs, ro, h1, ?_, h3, h4⟩
        rw [k b (by omega), oG b (by omega)]
        rw [hget_appl (by omega)] at h2
        exact h2
    · omega
  clear sc rv hs hs' hb4 hb5 hG old1 hw hv hw1
  have st0 : RcSt G g1.length px mx m sl [z0, z1, z2, z3, z4, z5, z6, z7, z8, z9] t G [] [] (.slice none ([] : List (List NV)).length (.fix 0)) :=
    ⟨Nat.le_refl _, fun b _ _ _ => rfl, ⟨0, hb42, by omega, by omega⟩, ⟨[], cx, RepT.nil fun _ => rfl⟩, rfl, .inl ⟨rfl, none, rfl⟩, fun j h1 => by simp at h1⟩
  simp (disch := first | omega | (simp only [fsLen]; omega)) only [↓fsPre, fsPost, ↓reduceIte]
  refine wloop (fun i F h => ∃ es rows oa oc, F 5 = .ptr (some (g1.length + 1, 0)) ∧ F 6 = .ptr (some (g1.length, 0)) ∧ F 7 = .ptr (some (px, 0)) ∧ F 8 = .slice oa rows.length oc ∧ F 9 = .int .i64 i ∧ es.length ≤ i ∧ RcSt G g1.length px mx m sl [z0, z1, z2, z3, z4, z5, z6, z7, z8, z9] t h es rows (.slice oa rows.length oc)) 24 ?_ ?_ ?_
  · refine ⟨[], [], none, .fix 0, ?_⟩
    simp (disch := first | omega | (simp only [fsLen]; omega)) only [↓fsPre, fsGen, Nat.reduceEqDiff, ↓reduceIte]
    exact st0
  · rintro i F h hi ⟨es, rows, oa, oc, f5, f6, f7, f8, f9, hle, st⟩
    obtain ⟨a0, hp, ha0, ha1⟩ := st.code
    have hd : decide ((i : Int) < 24) = true := decide_eq_true (by omega)
    simp (disch := first | omega | (simp only [fsLen]; omega)) only [↓fsPre, fsPost, fsGen, fsDefX, Nat.reduceEqDiff, ↓reduceIte, f6, f9, hd]
    refine callT_one (cleft_ok h g1.length m sl a0 hp (ctx.cs h fun b hb => st.old b (by omega) (by omega) (by omega))) rfl ?_
    by_cases hleft : a0 < m
    · simp (disch := first | omega | (simp only [fsLen]; omega)) only [↓fsPre, fsPost, fsDefs, Nat.reduceEqDiff, ↓reduceIte, decide_eq_true hleft]
      refine fwp_partJ _ (choice_ok G _ _ _ px mx m sl N t acs z0 z1 z2 z3 z4 z5 z6 z7 z8 z9 ctx h es rows oa oc st (by omega) _ (.int .i64 i) ?_ ?_ ?_ ?_ ?_) ?_
      · simp (disch := first | omega | (simp only [fsLen]; omega)) only [↓fsPre, Nat.reduceEqDiff, ↓reduceIte, f5]
      · simp (disch := first | omega | (simp only [fsLen]; omega)) only [↓fsPre, Nat.reduceEqDiff, ↓reduceIte, f6]
      · simp (disch := first | omega | (simp only [fsLen]; omega)) only [↓fsPre, Nat.reduceEqDiff, ↓reduceIte, f7]
      · simp (disch := first | omega | (simp only [fsLen]; omega)) only [↓fsPre, Nat.reduceEqDiff, ↓reduceIte, f8]
      · simp (disch := first | omega | (simp only [fsLen]; omega)) only [↓fsPre, Nat.reduceEqDiff, ↓reduceIte, f9]
      clear f5 f6 f7 f8 f9 st
      rintro F h' ⟨es2, rows2, A, c', f5, f6, f7, f8, f9, hle2, st2⟩
      simp (disch := first | omega | (simp only [fsLen]; omega)) only [↓fsPre]
      refine fwp_partJ _ (checks_ok G _ _ _ px mx m sl N t acs z0 z1 z2 z3 z4 z5 z6 z7 z8 z9 ctx h' es2 rows2 A c' st2 (by omega) _ _ _ f5 f6 f7 f8 f9) ?_
      clear f5 f6 f7 f8 f9
      rintro F h2 ⟨f5, f6, f7, f8, f9, hl, old⟩
      simp (disch := first | omega | (simp only [fsLen]; omega)) only [↓fsPre, fsPost, fsCond, fsGen, fsDefX, Nat.reduceEqDiff, ↓reduceIte, f5, f6, f7, f8, f9]
      refine ⟨es2, rows2, A, c', ?_⟩
      simp (disch := first | omega | (simp only [fsLen]; omega)) only [fsGen]
      exact ⟨by omega, st2.all ctx.pG ctx.xG ctx.mG hl old⟩
    · simp (disch := first | omega | (simp only [fsLen]; omega)) only [↓fsPre, fsPost, fsGen, fsDefs, Nat.reduceEqDiff, ↓reduceIte, decide_eq_false hleft]
      refine callT_one (begun16_ok _) rfl ?_
      simp (disch := first | omega | (simp only [fsLen]; omega)) only [↓fsPre, fsPost, fsGen, fsDefs, ↓reduceIte]
  · rintro F h ⟨es, rows, oa, oc, f5, f6, f7, f8, f9, hle, st⟩
    simp (disch := first | omega | (simp only [fsLen]; omega)) only [↓fsPre, fsPost, fsGen, fsDefs, fsDefX, Nat.reduceEqDiff, ↓reduceIte, f9]
    refine callT_one (begun16_ok _) rfl ?_
    simp (disch := first | omega | (simp only [fsLen]; omega)) only [↓fsPre, fsPost, fsGen, fsDefs, ↓reduceIte]

def kindsRC : List PK := [.sl [.int .u8], .sl [.int .u8]]
theorem walkRC (nvs : List NV) (h : Heap) (ok : argsOK kindsRC 0 nvs h) : NFun Try.prog 5 nvs h (fun q => q.1 = .bool true) := by
  obtain ⟨v, vs, x, h, rfl, rfl, h1, ok⟩ := argsOK_cons ok
  obtain ⟨w, vs, y, h, rfl, rfl, h2, ok⟩ := argsOK_cons ok
  obtain ⟨rfl, rfl⟩ := argsOK_nil ok
  obtain ⟨xs, hx⟩ := argOK_bytes (H := [x, y]) h1 rfl
  obtain ⟨ys, hy⟩ := argOK_bytes (H := [x, y]) h2 rfl
  exact rcounts_ok _ _ _ xs ys hx hy
end Go.Proofs
