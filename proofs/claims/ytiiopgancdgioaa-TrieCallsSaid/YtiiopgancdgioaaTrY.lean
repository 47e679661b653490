/- TrD, TrE, TrF in one text. -/
import Derived.Test.YtiiopgancdgioaaTrX
import Derived.Test.YtiiopgancdgioaaTrX
import Derived.Test.YtiiopgancdgioaaVbB
set_option linter.unusedVariables false
set_option linter.unusedSimpArgs false
namespace Go.Ns

def T.up : T → List Bool → T
  | t, [] => t.clean
  | .nil, _ :: _ => .nil
  | .node u i l r, x :: p => if x then (T.node u i l (r.up p)).clean else (T.node u i (l.up p) r).clean
theorem T.rem_up : ∀ (p : List Bool) (t : T) {u : Bool} {i : Int} {l r : T}, t.find p = .node u i l r → t.rem p = (t.sub p (.node false 0 l r)).up p
  | [], t, u, i, l, r, h => by rw [T.find_empty] at h; subst h; rfl
  | x :: p, .nil, u, i, l, r, h => by cases h
  | x :: p, .node v j a b, u, i, l, r, h => by
    cases x
    · simp only [T.rem, T.sub, T.up, Bool.false_eq_true, if_false]; rw [T.rem_up p a h]
    · simp only [T.rem, T.sub, T.up, if_true]; rw [T.rem_up p b h]
theorem T.up_step (x : Bool) : ∀ (p : List Bool) (t : T), ((t.find (p ++ [x])).empty = true) → t.up (p ++ [x]) = (t.sub (p ++ [x]) .nil).up p
  | [], .nil, h => by cases x <;> simp [T.find, T.empty] at h
  | [], .node u i l r, h => by
    cases x
    · simp only [List.nil_append, T.find, Bool.false_eq_true, if_false, T.find_empty] at h
      have : l.up [] = .nil := by
        have : l.up [] = l.clean := by cases l <;> rfl
        rw [this]; unfold T.clean; rw [if_pos h]
      have hs : l.sub [] .nil = .nil := by cases l <;> rfl
      simp only [List.nil_append, T.up, T.sub, Bool.false_eq_true, if_false, this, hs]
    · simp only [List.nil_append, T.find, if_true, T.find_empty] at h
      have : r.up [] = .nil := by
        have : r.up [] = r.clean := by cases r <;> rfl
        rw [this]; unfold T.clean; rw [if_pos h]
      have hs : r.sub [] .nil = .nil := by cases r <;> rfl
      simp only [List.nil_append, T.up, T.sub, if_true, this, hs]
  | y :: p, .nil, h => by simp [T.find, T.empty] at h
  | y :: p, .node u i l r, h => by
    cases y
    · simp only [List.cons_append, T.find, T.up, T.sub, Bool.false_eq_true, if_false] at h ⊢; rw [T.up_step x p l h]
    · simp only [List.cons_append, T.find, T.up, T.sub, if_true] at h ⊢; rw [T.up_step x p r h]
theorem T.full_up : ∀ (p : List Bool) (t : T), t.find p ≠ .nil → (t.find p).empty = false → t.empty = false
  | [], t, h, e => by rw [T.find_empty] at e; exact e
  | x :: p, .nil, h, e => rfl
  | x :: p, .node u i l r, h, e => by
    refine T.empty_iff.2 (.inr ?_)
    cases x
    · left; rintro rfl; exact h (T.find_nil p)
    · right; rintro rfl; exact h (T.find_nil p)
theorem T.up_id : ∀ (p : List Bool) (t : T), t.find p ≠ .nil → (t.find p).empty = false → t.up p = t
  | [], t, h, e => by
    rw [T.find_empty] at e
    have : t.up [] = t.clean := by cases t <;> rfl
    rw [this]; unfold T.clean; rw [e]; rfl
  | x :: p, .nil, h, e => rfl
  | x :: p, .node u i l r, h, e => by
    have hf := T.full_up (x :: p) (.node u i l r) h e
    cases x
    · simp only [T.up, Bool.false_eq_true, if_false]
      rw [T.up_id p l h e]
      unfold T.clean; rw [hf]; rfl
    · simp only [T.up, if_true]
      rw [T.up_id p r h e]
      unfold T.clean; rw [hf]; rfl
theorem T.sub_kid (x : Bool) : ∀ (p : List Bool) (t : T) {u : Bool} {i : Int} {l r : T}, t.find p = .node u i l r → t.sub (p ++ [x]) .nil = t.sub p (if x then .node u i l .nil else .node u i .nil r)
  | [], t, u, i, l, r, h => by
    rw [T.find_empty] at h; subst h
    cases x
    · cases l <;> rfl
    · cases r <;> rfl
  | y :: p, .nil, u, i, l, r, h => by cases h
  | y :: p, .node v j a b, u, i, l, r, h => by
    cases y
    · simp only [List.cons_append, T.sub, Bool.false_eq_true, if_false]; rw [T.sub_kid x p a h]
    · simp only [List.cons_append, T.sub, if_true]; rw [T.sub_kid x p b h]

/-- Where a removal has come to: what is below 'p' is done. -/
structure RemI (H : Heap) (q bits : Nat) (t : TT) (t2 : T) (p : List Bool) (h : Heap) (tt : TT) : Prop where
  tr : TrieAt h q bits tt
  er : tt.er.up p = t2
  ne : tt.find p ≠ .nil
  ab : ∀ a b, p = a ++ b → (tt.find a).ptr = (t.find a).ptr
  keep : ∀ b, b < H.length → b ≠ q → b ∉ t.bl → hget h b = hget H b
  new : ∀ b, b ∈ tt.bl → b ∈ t.bl
theorem RemI.start {H h h' : Heap} {q bits : Nat} {t : TT} {p : List Bool} (ht : TrieAt h q bits t) {b : Nat} {u : Bool} {i : Int} {l r : TT} (hf : t.find p = .node b u i l r)
    (k : ∀ b, b < H.length → hget h b = hget H b) (e2 : hget h' b = some (.cells [l.ptr, r.ptr, .bool false, .int .i64 0] false)) (e3 : ∀ c, c < h.length → c ≠ b → hget h' c = hget h c) (hl : H.length ≤ h.length) :
    ∃ tt, RemI H q bits t (t.er.rem p) p h' tt := by
  have hbm : b ∈ t.bl := TT.find_bl p t b (by rw [hf]; exact List.mem_cons_self ..)
  have hat := ht.at_.find p
  have hlt := fun c => TT.find_bl p t c
  have hnd := TT.find_nodup p (List.nodup_cons.1 ht.nd).2
  rw [hf] at hat hnd
  rw [TT.bl_node, List.nodup_cons, List.nodup_append, List.mem_append, not_or] at hnd
  have hh : h.length ∉ t.bl := fun hm => by have := ht.at_.lt _ hm; omega
  have hql := hget_some_lt ht.hd
  have tr := kid_step (n := l) (x := false) (at_ := h.length) (u' := false) (i' := 0) ht hf hh (by omega)
    (hat.2.1.keep fun c hc => e3 c (hat.2.1.lt c hc) (by rintro rfl; exact hnd.1.1 hc)) (by rw [e2]; rfl) (fun c hc h1 _ => e3 c hc h1) hnd.2.1 (fun c hc => .inr hc)
  have hn : t.find p ≠ .nil := by rw [hf]; simp
  refine ⟨_, tr, ?_, ?_, ?_, ?_, ?_⟩
  · have := TT.er_find p t
    rw [hf] at this
    rw [TT.er_sub, T.rem_up p t.er this.symm]
    rfl
  · have := TT.find_sub p [] (s' := kid false b false 0 l r l) t hn
    rw [List.append_nil] at this
    rw [this, TT.find_empty]; simp [kid]
  · rintro a b' rfl
    rw [TT.find_above a b' t hn]
    exact TT.ptr_find_sub b' _ (by rw [← TT.find_append, hf]; rfl)
  · intro c hc k1 k2
    rw [e3 c (by omega) (by rintro rfl; exact k2 hbm)]
    exact k c hc
  · intro c hc
    rcases TT.sub_mem p hc with h | h
    · exact hlt c (by rw [hf]; exact h)
    · exact h
theorem RemI.step {H h h' : Heap} {q bits : Nat} {t tt : TT} {t2 : T} {p : List Bool} {x : Bool} (I : RemI H q bits t t2 (p ++ [x]) h tt) (he : (tt.find (p ++ [x])).er.empty = true) {b : Nat} {u : Bool} {i : Int} {l r : TT} (hf : tt.find p = .node b u i l r)
    (e2 : hget h' b = some (.cells [(if x then l.ptr else .ptr none), (if x then .ptr none else r.ptr), .bool u, .int .i64 i] false)) (e3 : ∀ c, c < h.length → c ≠ b → hget h' c = hget h c) (hl : H.length ≤ h.length) :
    ∃ tt', RemI H q bits t t2 p h' tt' := by
  have hh : h.length ∉ tt.bl := fun hm => by have := I.tr.at_.lt _ hm; omega
  have hql := hget_some_lt I.tr.hd
  have hbm : b ∈ tt.bl := TT.find_bl p tt b (by rw [hf]; exact List.mem_cons_self ..)
  have tr := kid_step (n := .nil) (x := x) (at_ := h.length) (u' := u) (i' := i) I.tr hf hh (by omega) trivial (by rw [e2]; cases x <;> rfl) (fun c hc h1 _ => e3 c hc h1) List.nodup_nil (fun c hc => by cases hc)
  have hn : tt.find p ≠ .nil := by rw [hf]; simp
  refine ⟨_, tr, ?_, ?_, ?_, ?_, ?_⟩
  · have := TT.er_find p tt
    rw [hf] at this
    rw [TT.er_sub, kid_er, ← I.er, T.up_step x p tt.er (by rw [← TT.er_find]; exact he), T.sub_kid x p tt.er this.symm]
    rfl
  · have := TT.find_sub p [] (s' := kid x b u i l r .nil) tt hn
    rw [List.append_nil] at this
    rw [this, TT.find_empty]; cases x <;> simp [kid]
  · rintro a b' rfl
    rw [TT.find_above a b' tt hn, TT.ptr_find_sub b' _ (by rw [← TT.find_append, hf]; cases x <;> rfl)]
    exact I.ab a (b' ++ [x]) (by rw [List.append_assoc])
  · intro c hc k1 k2
    rw [e3 c (by omega) (by rintro rfl; exact k2 (I.new _ hbm))]
    exact I.keep c hc k1 k2
  · intro c hc
    rcases TT.sub_mem p hc with h | h
    · have fnd : c ∈ (tt.find p).bl → c ∈ t.bl := fun h => I.new c (TT.find_bl p tt c h)
      rw [hf, TT.bl_node, List.mem_cons, List.mem_append] at fnd
      unfold kid at h
      cases x <;> simp only [if_true, if_false, Bool.false_eq_true, TT.bl_node, List.mem_cons, List.mem_append, TT.bl, List.not_mem_nil, false_or, or_false] at h
      · exact fnd (h.imp id .inr)
      · exact fnd (h.imp id .inl)
    · exact I.new c h
/-- A part that is not empty: nothing more is to be done. -/
theorem RemI.full {H h : Heap} {q bits : Nat} {t tt : TT} {t2 : T} {p : List Bool} (I : RemI H q bits t t2 p h tt) (he : (tt.find p).er.empty = false) : RemI H q bits t t2 [] h tt := by
  have h1 : tt.er.find p ≠ .nil := by rw [← TT.er_find]; exact fun e => I.ne (TT.er_nil.1 e)
  have h2 : (tt.er.find p).empty = false := by rw [← TT.er_find]; exact he
  have h3 := T.full_up p tt.er h1 h2
  refine ⟨I.tr, ?_, ?_, fun a b e => I.ab a p ?_, I.keep, I.new⟩
  · rw [← I.er, T.up_id p _ h1 h2]
    have : tt.er.up [] = tt.er.clean := by cases tt.er <;> rfl
    rw [this]; unfold T.clean; rw [h3]; rfl
  · rw [TT.find_empty]; intro e; exact I.ne (by rw [e, TT.find_nil])
  · have := List.append_eq_nil_iff.1 e.symm; rw [this.1]; rfl

/-! ### Lists that grow -/
/-- A list of one cell each, that grows: it was made as it stands ('fix'), or lies from 'N' on. -/
def GrV (h : Heap) (N : Nat) (C : List NV) (v : NV) : Prop :=
  (C = [] ∧ v = .slice none 0 (.fix 0)) ∨ ∃ b c, v = .slice (some (b, 0)) C.length c ∧ (c = .fix C.length ∨ c = .opn 1 ∧ N ≤ b) ∧ hget h b = some (.cells C false) ∧ 0 < C.length
theorem GrV.mono {h h' : Heap} {N : Nat} {C : List NV} {v : NV} (g : GrV h N C v) (k : ∀ b c, v = .slice (some (b, 0)) C.length c → hget h' b = hget h b) : GrV h' N C v := by
  rcases g with g | ⟨b, c, h1, h2, h3, h4⟩
  · exact .inl g
  · exact .inr ⟨b, c, h1, h2, by rw [k b c h1]; exact h3, h4⟩
theorem GrV.one {h : Heap} {N : Nat} {C : List NV} {v : NV} (g : GrV h N C v) : v.one = true ∧ v.flat = true ∧ v.cells = [v] := by
  rcases g with ⟨_, rfl⟩ | ⟨_, _, rfl, _⟩ <;> exact ⟨rfl, rfl, rfl⟩
theorem grv_app {h : Heap} {N : Nat} {C : List NV} {v x y : NV} {K : NV → Heap → Prop} {t : Tg K} (g : GrV h N C v) (hN : N ≤ h.length) (hx : sliceCells h 1 x = some [y]) (hm : lenOfSl x = some 1) (hC : C.length ≤ 1000)
    (k : ∀ v' h' , GrV h' N (C ++ [y]) v' → (∀ b c, v' = .slice (some (b, 0)) (C ++ [y]).length c → b = h.length) → h'.length = h.length + 1 → (∀ b, b < h.length → (∀ c, v = .slice (some (b, 0)) C.length c → c ≠ .opn 1) → hget h' b = hget h b) → K v' h') : optB (nappendS h 1 8 v x) K t := by
  rcases g with ⟨rfl, rfl⟩ | ⟨b, c, rfl, hc, h3, h4⟩
  · refine app_nil hx hm (by omega) (by omega) (k _ _ (.inr ⟨h.length, _, rfl, .inr ⟨rfl, hN⟩, ?_, by simp⟩) (fun b c e => by simp only [NV.slice.injEq, Option.some.injEq, Prod.mk.injEq] at e; exact e.1.1.symm) (by simp) fun b hb _ => hget_appl hb)
    exact hget_append_new
  · rcases hc with rfl | ⟨rfl, hb⟩
    · refine app_fix (old := C) hx hm (by omega) (by omega) (sliceCells_at h3 (cut_all (by omega))) (k _ _ (.inr ⟨h.length, _, ?_, .inr ⟨rfl, hN⟩, ?_, by simp⟩) (fun b c e => by simp only [NV.slice.injEq, Option.some.injEq, Prod.mk.injEq] at e; exact e.1.1.symm) (by simp) fun b hb _ => hget_appl hb)
      · simp
      · exact hget_append_new
    · refine app_grow hx hm h3 (by simp) (by omega) (by omega) (by omega) (k _ _ (.inr ⟨h.length, _, ?_, .inr ⟨rfl, hN⟩, ?_, by simp⟩) (fun b c e => by simp only [NV.slice.injEq, Option.some.injEq, Prod.mk.injEq] at e; exact e.1.1.symm) (by simp) fun b' hb' hn => ?_)
      · simp
      · have := hget_append_new (h := hkill h b) (o := some (NBlk.cells (List.take (C.length * 1) (List.drop 0 C) ++ [y]) false))
        rw [length_hkill] at this
        rw [this, List.drop_zero, List.take_of_length_le (by omega)]
      · rw [hget_appl (by rw [length_hkill]; omega), hget_hkill_ne (by rintro rfl; exact hn _ rfl rfl)]
theorem GrV.low {h : Heap} {N : Nat} {C : List NV} {v : NV} (g : GrV h N C v) {b : Nat} (hv : v = .slice (some (b, 0)) C.length (.opn 1)) : N ≤ b := by
  rcases g with ⟨_, rfl⟩ | ⟨b', c, rfl, hc, _, _⟩
  · cases hv
  · simp only [NV.slice.injEq, Option.some.injEq, Prod.mk.injEq] at hv
    obtain ⟨⟨rfl, _⟩, _, rfl⟩ := hv
    rcases hc with h | h
    · cases h
    · exact h.2
/-- The same, with what lies below 'N' kept. -/
theorem grv_app2 {h : Heap} {N : Nat} {C : List NV} {v x y : NV} {K : NV → Heap → Prop} {t : Tg K} (g : GrV h N C v) (hN : N ≤ h.length) (hx : sliceCells h 1 x = some [y]) (hm : lenOfSl x = some 1) (hC : C.length ≤ 1000)
    (k : ∀ v' h' , GrV h' N (C ++ [y]) v' → (∀ b c, v' = .slice (some (b, 0)) (C ++ [y]).length c → b = h.length) → h'.length = h.length + 1 → (∀ b, b < N → hget h' b = hget h b) → (∀ b, b < h.length → (∀ c, v ≠ .slice (some (b, 0)) C.length c) → hget h' b = hget h b) → K v' h') : optB (nappendS h 1 8 v x) K t :=
  grv_app g hN hx hm hC fun v' h' g' n l o => k v' h' g' n l (fun b hb => o b (by omega) fun c hv hc => by subst hc; have := g.low hv; omega) fun b hb hn => o b hb fun c hv => absurd hv (hn c)
theorem GrV.ltb {h : Heap} {N : Nat} {C : List NV} {v : NV} (g : GrV h N C v) {b : Nat} {c : Cap} (hv : v = .slice (some (b, 0)) C.length c) : b < h.length := by
  rcases g with ⟨_, rfl⟩ | ⟨b', c', rfl, _, h3, _⟩
  · cases hv
  · simp only [NV.slice.injEq, Option.some.injEq, Prod.mk.injEq] at hv
    obtain ⟨⟨rfl, _⟩, _⟩ := hv
    exact hget_some_lt h3
/-- A list of rows grows, and the blocks of others stay. -/
theorem grc_app9 {h : Heap} {N e m bytes : Nat} {C new : List NV} {v x : NV} {K : NV → Heap → Prop} {t : Tg K} (g : GrC h N C e v) (hN : N ≤ h.length) (hx : sliceCells h e x = some new) (hm : lenOfSl x = some m) (h0 : 0 < m) (he : 0 < e) (hnew : new.length = m * e)
    (hC : C.length ≤ 1000) (hm2 : m ≤ 1000) (hb : bytes ≤ 10000)
    (k : ∀ v' h', GrC h' N (C ++ new) e v' → h'.length = h.length + 1 → (∀ b, b < N → hget h' b = hget h b) → (∀ b, b < h.length → (∀ n k, v ≠ .slice (some (b, 0)) n k) → hget h' b = hget h b) → (∀ b n k, v' = .slice (some (b, 0)) n k → b = h.length) → K v' h') : optB (nappendS h e bytes v x) K t := by
  have hbm : ∀ a : Nat, a ≤ 2000 → a * bytes ≤ 140737488355328 := fun a ha => Nat.le_trans (Nat.mul_le_mul ha hb) (by omega)
  have hne : new ≠ [] := by
    intro e1
    rw [e1] at hnew
    have := Nat.mul_pos h0 he
    simp at hnew
    omega
  have inj : ∀ {b b' n n' : Nat} {c c' : Cap}, NV.slice (some (b, 0)) n c = .slice (some (b', 0)) n' c' → b' = b := by
    intro b b' n n' c c' h
    simp only [NV.slice.injEq, Option.some.injEq, Prod.mk.injEq] at h
    exact h.1.1.symm
  rcases g with ⟨rfl, rfl⟩ | ⟨b, l, rfl, h3, h4, h5, h6⟩
  · exact app_nil hx hm h0 ⟨hbm m (by omega), by omega⟩ (k _ _ (.inr ⟨h.length, m, rfl, hN, by rw [List.nil_append]; exact hget_append_new, by rw [List.nil_append]; exact hnew, h0⟩) (by simp) (fun b hb => hget_appl (by omega)) (fun b hb _ => hget_appl hb) fun b n c e => inj e)
  · have hl : l ≤ C.length := by rw [h5]; exact Nat.le_mul_of_pos_right l he
    have hml : (l + m) * e = C.length + new.length := by rw [Nat.add_mul, h5, hnew]
    have hpos : 0 < new.length := List.length_pos_iff.2 hne
    refine app_grow hx hm h4 hne (by rw [hml]; omega) (by omega) ⟨hbm _ (by omega), by omega⟩ (k _ _ (.inr ⟨h.length, l + m, rfl, hN, ?_, ?_, by omega⟩) (by simp) (fun b' hb' => ?_) (fun b' hb' hn => ?_) fun b n c e => inj e)
    · have := hget_append_new (h := hkill h b) (o := some (NBlk.cells (List.take (l * e) (List.drop 0 C) ++ new) false))
      rw [length_hkill] at this
      rw [this, List.drop_zero, List.take_of_length_le (by omega)]
    · rw [List.length_append, hml]
    · rw [hget_appl (by rw [length_hkill]; omega), hget_hkill_ne (by omega)]
    · rw [hget_appl (by rw [length_hkill]; omega), hget_hkill_ne (by rintro rfl; exact hn _ _ rfl)]
/-- The same for long lists. -/
theorem grc_app10 {h : Heap} {N e m bytes : Nat} {C new : List NV} {v x : NV} {K : NV → Heap → Prop} {t : Tg K} (g : GrC h N C e v) (hN : N ≤ h.length) (hx : sliceCells h e x = some new) (hm : lenOfSl x = some m) (h0 : 0 < m) (he : 0 < e) (hnew : new.length = m * e)
    (hC : C.length ≤ 1000000) (hm2 : m ≤ 1000) (hb : bytes ≤ 10000)
    (k : ∀ v' h', GrC h' N (C ++ new) e v' → h'.length = h.length + 1 → (∀ b, b < N → hget h' b = hget h b) → (∀ b, b < h.length → (∀ n k, v ≠ .slice (some (b, 0)) n k) → hget h' b = hget h b) → (∀ b n k, v' = .slice (some (b, 0)) n k → b = h.length) → K v' h') : optB (nappendS h e bytes v x) K t := by
  have hbm : ∀ a : Nat, a ≤ 2000000 → a * bytes ≤ 140737488355328 := fun a ha => Nat.le_trans (Nat.mul_le_mul ha hb) (by omega)
  have hne : new ≠ [] := by
    intro e1
    rw [e1] at hnew
    have := Nat.mul_pos h0 he
    simp at hnew
    omega
  have inj : ∀ {b b' n n' : Nat} {c c' : Cap}, NV.slice (some (b, 0)) n c = .slice (some (b', 0)) n' c' → b' = b := by
    intro b b' n n' c c' h
    simp only [NV.slice.injEq, Option.some.injEq, Prod.mk.injEq] at h
    exact h.1.1.symm
  rcases g with ⟨rfl, rfl⟩ | ⟨b, l, rfl, h3, h4, h5, h6⟩
  · exact app_nil hx hm h0 ⟨hbm m (by omega), by omega⟩ (k _ _ (.inr ⟨h.length, m, rfl, hN, by rw [List.nil_append]; exact hget_append_new, by rw [List.nil_append]; exact hnew, h0⟩) (by simp) (fun b hb => hget_appl (by omega)) (fun b hb _ => hget_appl hb) fun b n c e => inj e)
  · have hl : l ≤ C.length := by rw [h5]; exact Nat.le_mul_of_pos_right l he
    have hml : (l + m) * e = C.length + new.length := by rw [Nat.add_mul, h5, hnew]
    have hpos : 0 < new.length := List.length_pos_iff.2 hne
    refine app_grow hx hm h4 hne (by rw [hml]; omega) (by omega) ⟨hbm _ (by omega), by omega⟩ (k _ _ (.inr ⟨h.length, l + m, rfl, hN, ?_, ?_, by omega⟩) (by simp) (fun b' hb' => ?_) (fun b' hb' hn => ?_) fun b n c e => inj e)
    · have := hget_append_new (h := hkill h b) (o := some (NBlk.cells (List.take (l * e) (List.drop 0 C) ++ new) false))
      rw [length_hkill] at this
      rw [this, List.drop_zero, List.take_of_length_le (by omega)]
    · rw [List.length_append, hml]
    · rw [hget_appl (by rw [length_hkill]; omega), hget_hkill_ne (by omega)]
    · rw [hget_appl (by rw [length_hkill]; omega), hget_hkill_ne (by rintro rfl; exact hn _ _ rfl)]
theorem GrC.ltb {h : Heap} {N e : Nat} {C : List NV} {v : NV} (g : GrC h N C e v) {b n : Nat} {c : Cap} (hv : v = .slice (some (b, 0)) n c) : b < h.length ∧ N ≤ b := by
  rcases g with ⟨_, rfl⟩ | ⟨b', c', rfl, h2, h3, _⟩
  · cases hv
  · simp only [NV.slice.injEq, Option.some.injEq, Prod.mk.injEq] at hv
    obtain ⟨⟨rfl, _⟩, _⟩ := hv
    exact ⟨hget_some_lt h3, h2⟩

def ltQ (a b : BitVec 128 × Int) : Prop := a.1.toNat < b.1.toNat ∨ a.1 = b.1 ∧ a.2 < b.2
instance : DecidableRel ltQ := fun a b => inferInstanceAs (Decidable (_ ∨ _))
theorem ltQ_ord : SOrd ltQ where
  irr := fun a h => by rcases h with h | h <;> omega
  tr := fun a b c h k => by
    rcases h with h | ⟨h, h'⟩ <;> rcases k with k | ⟨k, k'⟩
    · exact .inl (by omega)
    · exact .inl (by rw [← k]; exact h)
    · exact .inl (by rw [h]; exact k)
    · exact .inr ⟨h.trans k, by omega⟩
  tri := fun a b h => by
    unfold ltQ
    by_cases h1 : a.1 = b.1
    · rcases Int.lt_or_lt_of_ne (show a.2 ≠ b.2 from fun e => h (Prod.ext h1 e)) with h2 | h2
      · exact .inl (.inr ⟨h1, h2⟩)
      · exact .inr (.inr ⟨h1.symm, h2⟩)
    · have : a.1.toNat ≠ b.1.toNat := fun e => h1 (BitVec.eq_of_toNat_eq e)
      rcases Nat.lt_or_gt_of_ne this with h2 | h2
      · exact .inl (.inl h2)
      · exact .inr (.inl h2)

/-- The value of a path. -/
def valP (bits : Nat) (p : List Bool) : BitVec 128 := ofB (fun i => decide (i < bits) && (p[bits - 1 - i]?).getD false) 128
theorem valP_get {bits : Nat} {p : List Bool} {i : Nat} (h : i < 128) : (valP bits p).getLsbD i = (decide (i < bits) && (p[bits - 1 - i]?).getD false) := by
  unfold valP; rw [ofB_get]; simp [h]
theorem valP_nil {bits : Nat} : valP bits [] = 0#128 := ofB_eq fun i hi => by simp
theorem valP_false {bits : Nat} {p : List Bool} : valP bits (p ++ [false]) = valP bits p := by
  apply BitVec.eq_of_getLsbD_eq
  intro i hi
  rw [valP_get hi, valP_get hi]
  congr 1
  rw [List.getElem?_append]
  split
  · rfl
  · rename_i h
    rw [List.getElem?_eq_none (show p.length ≤ bits - 1 - i by omega)]
    cases bits - 1 - i - p.length <;> rfl
theorem valP_true {bits : Nat} {p : List Bool} (hb : bits ≤ 128) (hp : p.length < bits) : upV bits p.length (valP bits p) = valP bits (p ++ [true]) := by
  apply BitVec.eq_of_getLsbD_eq
  intro i hi
  unfold upV
  rw [BitVec.getLsbD_or, valP_get hi, valP_get hi, BitVec.getLsbD_shiftLeft]
  rw [show ((bits : Int) - 1 - (p.length : Nat)).toNat = bits - 1 - p.length by omega]
  by_cases hib : i < bits
  · simp only [hib, decide_true, Bool.true_and, hi]
    rw [List.getElem?_append]
    by_cases h1 : bits - 1 - i < p.length
    · rw [if_pos h1]
      have : ¬ i = bits - 1 - p.length := by omega
      have h2 : (1#128).getLsbD (i - (bits - 1 - p.length)) = false := by
        rw [BitVec.getLsbD_one]; simp; omega
      simp [h2]
    · rw [if_neg h1, List.getElem?_eq_none (show p.length ≤ bits - 1 - i by omega)]
      by_cases h2 : i = bits - 1 - p.length
      · rw [show bits - 1 - i - p.length = 0 by omega]
        simp [h2]
      · have h3 : i < bits - 1 - p.length := by omega
        have h4 : 0 < bits - 1 - i - p.length := by omega
        obtain ⟨j, hj⟩ : ∃ j, bits - 1 - i - p.length = j + 1 := ⟨_, (Nat.succ_pred_eq_of_pos h4).symm⟩
        rw [hj]; simp [h3]
  · simp only [hib, decide_false, Bool.false_and, Bool.false_or]
    have h2 : (1#128).getLsbD (i - (bits - 1 - p.length)) = false := by
      rw [BitVec.getLsbD_one]; simp; omega
    simp [h2]
theorem T.get_fit : ∀ (p : List Bool) {t : T} {n : Nat} {i : Int}, t.fit n → t.get p = some i → p.length < n
  | p, .nil, n, i, _, h => by rw [T.get_nil] at h; cases h
  | p, .node _ _ _ _, 0, i, h, _ => h.elim
  | [], .node u j l r, n + 1, i, h, _ => by simp
  | x :: p, .node u j l r, n + 1, i, h, hg => by
    cases x
    · have := T.get_fit p h.1 hg; simp; omega
    · have := T.get_fit p h.2 hg; simp; omega
theorem T.mem_itemsAt {bits : Nat} (hb : bits ≤ 128) : ∀ (t : T) (a : List Bool) (n : Nat) (x : PfT), t.fit n → a.length + n = bits + 1 → (x ∈ t.itemsAt bits (valP bits a) a.length ↔ ∃ p i, t.get p = some i ∧ x = ((valP bits (a ++ p), ((a ++ p).length : Int)), i))
  | .nil, a, n, x, _, _ => by simp [T.itemsAt, T.get_nil]
  | .node u j l r, a, 0, x, h, _ => h.elim
  | .node u j l r, a, n + 1, x, h, hn => by
    have hl := T.mem_itemsAt hb l (a ++ [false]) n x h.1 (by simp; omega)
    rw [valP_false, List.length_append, List.length_singleton] at hl
    have hr : x ∈ r.itemsAt bits (upV bits a.length (valP bits a)) (a.length + 1) ↔ ∃ p i, r.get p = some i ∧ x = ((valP bits (a ++ true :: p), ((a ++ true :: p).length : Int)), i) := by
      by_cases hal : a.length < bits
      · have hr := T.mem_itemsAt hb r (a ++ [true]) n x h.2 (by simp; omega)
        rw [← valP_true hb hal, List.length_append, List.length_singleton] at hr
        simpa using hr
      · have : n = 0 := by omega
        subst this
        cases r with
        | nil => simp [T.itemsAt, T.get_nil]
        | node _ _ _ _ => exact h.2.elim
    simp only [T.itemsAt, List.mem_append, hl, hr]
    constructor
    · rintro (h1 | ⟨p, i, h1, h2⟩ | ⟨p, i, h1, h2⟩)
      · cases u with
        | false => simp at h1
        | true =>
          simp only [if_true, List.mem_singleton] at h1
          exact ⟨[], j, rfl, by rw [List.append_nil]; exact h1⟩
      · exact ⟨false :: p, i, h1, by simpa using h2⟩
      · exact ⟨true :: p, i, h1, h2⟩
    · rintro ⟨p, i, h1, h2⟩
      cases p with
      | nil =>
        left
        cases u with
        | false => simp [T.get] at h1
        | true =>
          simp only [T.get, if_true, Option.some.injEq] at h1
          subst h1
          simp only [if_true, List.mem_singleton]
          rw [List.append_nil] at h2; exact h2
      | cons y p =>
        right
        cases y
        · exact .inl ⟨p, i, h1, by simpa using h2⟩
        · exact .inr ⟨p, i, h1, h2⟩
theorem T.mem_items {bits : Nat} (hb : bits ≤ 128) {t : T} (h : t.fit (bits + 1)) (x : PfT) : x ∈ t.items bits ↔ ∃ p i, t.get p = some i ∧ x = ((valP bits p, (p.length : Int)), i) := by
  have := T.mem_itemsAt hb t [] (bits + 1) x h (by simp)
  rw [valP_nil] at this
  exact this
theorem valP_le {bits : Nat} {a p : List Bool} : (valP bits a).toNat ≤ (valP bits (a ++ p)).toNat := by
  have e : valP bits a &&& valP bits (a ++ p) = valP bits a := by
    apply BitVec.eq_of_getLsbD_eq
    intro i hi
    rw [BitVec.getLsbD_and, valP_get hi, valP_get hi]
    by_cases h : bits - 1 - i < a.length
    · rw [List.getElem?_append_left h]; cases (decide (i < bits) && (a[bits - 1 - i]?).getD false) <;> rfl
    · rw [List.getElem?_eq_none (show a.length ≤ bits - 1 - i by omega)]; simp
  rw [← e, BitVec.toNat_and]
  exact Nat.and_le_right
theorem valP_lt {bits : Nat} (hb : bits ≤ 128) {a p q : List Bool} (h : a.length < bits) : (valP bits (a ++ false :: p)).toNat < (valP bits (a ++ true :: q)).toNat := by
  have tb : ∀ (v : BitVec 128) (i : Nat), v.toNat.testBit i = v.getLsbD i := fun v i => rfl
  refine lt_of_bit (i := bits - 1 - a.length) ?_ ?_ fun j hj => ?_
  · rw [tb, valP_get (by omega), show bits - 1 - (bits - 1 - a.length) = a.length by omega, List.getElem?_append_right (Nat.le_refl _)]; simp
  · rw [tb, valP_get (by omega), show bits - 1 - (bits - 1 - a.length) = a.length by omega, List.getElem?_append_right (Nat.le_refl _)]; simp; omega
  · rw [tb, tb]
    by_cases h128 : j < 128
    · rw [valP_get h128, valP_get h128]
      by_cases hjb : j < bits
      · rw [List.getElem?_append_left (by omega), List.getElem?_append_left (by omega)]
      · simp [hjb]
    · rw [BitVec.getLsbD_of_ge _ _ (by omega), BitVec.getLsbD_of_ge _ _ (by omega)]
theorem T.sortedAt {bits : Nat} (hb : bits ≤ 128) : ∀ (t : T) (a : List Bool) (n : Nat), t.fit n → a.length + n = bits + 1 → SortedK ltQ (t.itemsAt bits (valP bits a) a.length)
  | .nil, a, n, _, _ => List.Pairwise.nil
  | .node u j l r, a, 0, h, _ => h.elim
  | .node u j l r, a, n + 1, h, hn => by
    have hl := T.sortedAt hb l (a ++ [false]) n h.1 (by simp; omega)
    have ml := fun x => T.mem_itemsAt hb l (a ++ [false]) n x h.1 (by simp; omega)
    rw [valP_false, List.length_append, List.length_singleton] at hl ml
    have hr : SortedK ltQ (r.itemsAt bits (upV bits a.length (valP bits a)) (a.length + 1)) ∧ ∀ x, x ∈ r.itemsAt bits (upV bits a.length (valP bits a)) (a.length + 1) → a.length < bits ∧ ∃ p i, x = ((valP bits (a ++ true :: p), ((a ++ true :: p).length : Int)), i) := by
      by_cases hal : a.length < bits
      · have h1 := T.sortedAt hb r (a ++ [true]) n h.2 (by simp; omega)
        have h2 := fun x => T.mem_itemsAt hb r (a ++ [true]) n x h.2 (by simp; omega)
        rw [← valP_true hb hal, List.length_append, List.length_singleton] at h1 h2
        refine ⟨h1, fun x hx => ⟨hal, ?_⟩⟩
        obtain ⟨p, i, _, h4⟩ := (h2 x).1 hx
        exact ⟨p, i, by simpa using h4⟩
      · have : n = 0 := by omega
        subst this
        cases r with
        | nil => exact ⟨List.Pairwise.nil, fun x hx => by cases hx⟩
        | node _ _ _ _ => exact h.2.elim
    have self : ∀ (y : Bool) (p : List Bool), ltQ (valP bits a, (a.length : Int)) (valP bits (a ++ y :: p), ((a ++ y :: p).length : Int)) := by
      intro y p
      have := valP_le (bits := bits) (a := a) (p := y :: p)
      rcases Nat.lt_or_ge (valP bits a).toNat (valP bits (a ++ y :: p)).toNat with h | h
      · exact .inl h
      · exact .inr ⟨BitVec.eq_of_toNat_eq (Nat.le_antisymm this h), by simp only [List.length_append, List.length_cons]; omega⟩
    unfold T.itemsAt SortedK
    rw [List.pairwise_append, List.pairwise_append]
    refine ⟨?_, ⟨hl, hr.1, fun x hx y hy => ?_⟩, fun x hx y hy => ?_⟩
    · cases u <;> simp
    · obtain ⟨p, i, _, rfl⟩ := (ml x).1 hx
      obtain ⟨hal, q, k, rfl⟩ := hr.2 y hy
      left
      have := valP_lt hb (p := p) (q := q) hal
      simpa using this
    · cases u with
      | false => simp at hx
      | true =>
        simp only [if_true, List.mem_singleton] at hx
        subst hx
        rcases List.mem_append.1 hy with hy | hy
        · obtain ⟨p, i, _, rfl⟩ := (ml y).1 hy
          have := self false p
          simpa using this
        · obtain ⟨hal, q, k, rfl⟩ := hr.2 y hy
          exact self true q
theorem T.sorted {bits : Nat} (hb : bits ≤ 128) {t : T} (h : t.fit (bits + 1)) : SortedK ltQ (t.items bits) := by
  have := T.sortedAt hb t [] (bits + 1) h (by simp)
  rw [valP_nil] at this
  exact this
theorem T.fit_put : ∀ (p : List Bool) (t : T) (i : Int) (n : Nat), t.fit n → p.length < n → (t.put p i).fit n
  | [], .nil, i, 0, _, h => by simp at h
  | [], .nil, i, n + 1, _, h => ⟨trivial, trivial⟩
  | [], .node _ _ _ _, i, 0, h, _ => h.elim
  | [], .node _ _ _ _, i, n + 1, h, _ => h
  | x :: p, .nil, i, 0, _, h => by simp at h
  | x :: p, .nil, i, n + 1, _, h => by
    have := T.fit_put p .nil i n trivial (by simpa using h)
    cases x
    · exact ⟨this, trivial⟩
    · exact ⟨trivial, this⟩
  | x :: p, .node _ _ _ _, i, 0, h, _ => h.elim
  | x :: p, .node u j l r, i, n + 1, h, hp => by
    cases x
    · exact ⟨T.fit_put p l i n h.1 (by simpa using hp), h.2⟩
    · exact ⟨h.1, T.fit_put p r i n h.2 (by simpa using hp)⟩
theorem T.fit_clean {t : T} {n : Nat} (h : t.fit n) : t.clean.fit n := by
  unfold T.clean; split
  · trivial
  · exact h
theorem T.fit_rem : ∀ (p : List Bool) (t : T) (n : Nat), t.fit n → (t.rem p).fit n
  | p, .nil, n, _ => by cases p <;> exact trivial
  | p, .node _ _ _ _, 0, h => h.elim
  | [], .node _ _ _ _, n + 1, h => T.fit_clean (t := .node _ _ _ _) h
  | x :: p, .node u j l r, n + 1, h => by
    cases x
    · exact T.fit_clean (t := .node _ _ _ _) ⟨T.fit_rem p l n h.1, h.2⟩
    · exact T.fit_clean (t := .node _ _ _ _) ⟨h.1, T.fit_rem p r n h.2⟩
theorem T.nodes_put : ∀ (p : List Bool) (t : T) (i : Int), (t.put p i).nodes ≤ t.nodes + p.length + 1
  | [], .nil, i => by simp [T.put, T.nodes]
  | [], .node _ _ _ _, i => by simp [T.put, T.nodes]
  | x :: p, .nil, i => by
    have := T.nodes_put p .nil i
    cases x <;> simp only [T.put, T.nodes, if_true, if_false, Bool.false_eq_true, List.length_cons] at this ⊢ <;> omega
  | x :: p, .node u j l r, i => by
    have h1 := T.nodes_put p l i
    have h2 := T.nodes_put p r i
    cases x <;> simp only [T.put, T.nodes, if_true, if_false, Bool.false_eq_true, List.length_cons] <;> omega
theorem T.nodes_clean {t : T} : t.clean.nodes ≤ t.nodes := by
  unfold T.clean; split
  · simp [T.nodes]
  · exact Nat.le_refl _
theorem T.nodes_rem : ∀ (p : List Bool) (t : T), (t.rem p).nodes ≤ t.nodes
  | p, .nil => by cases p <;> simp [T.rem, T.nodes]
  | [], .node u i l r => Nat.le_trans T.nodes_clean (by simp [T.nodes])
  | x :: p, .node u i l r => by
    have h1 := T.nodes_rem p l
    have h2 := T.nodes_rem p r
    cases x
    · exact Nat.le_trans (T.nodes_clean (t := .node u i (l.rem p) r)) (by simp only [T.nodes]; omega)
    · exact Nat.le_trans (T.nodes_clean (t := .node u i l (r.rem p))) (by simp only [T.nodes]; omega)
/-- Two sorted lists with the same members are one. -/
theorem sorted_ext {l m : List PfT} (hl : SortedK ltQ l) (hm : SortedK ltQ m) (h : ∀ x, x ∈ l ↔ x ∈ m) : l = m := by
  have nd : ∀ {l : List PfT}, SortedK ltQ l → l.Nodup := fun {l} h => h.imp fun {a b} h e => by rw [e] at h; exact ltQ_ord.irr _ h
  exact hl.eq ltQ_ord hm ((List.perm_ext_iff_of_nodup (nd hl) (nd hm)).2 h)

theorem valP_inj {bits : Nat} {p q : List Bool} (hb : bits ≤ 128) (hp : p.length ≤ bits) (hl : p.length = q.length) (h : valP bits p = valP bits q) : p = q := by
  apply List.ext_getElem hl
  intro i h1 h2
  have := congrArg (fun v => v.getLsbD (bits - 1 - i)) h
  rw [valP_get (by omega), valP_get (by omega), show bits - 1 - (bits - 1 - i) = i by omega, List.getElem?_eq_getElem h1, List.getElem?_eq_getElem h2] at this
  simpa [show bits - 1 - i < bits by omega] using this
/-- What the state must keep. -/
structure T.ok (bits : Nat) (t : T) : Prop where
  wf : t.wf
  fit : t.fit (bits + 1)
theorem T.ok.nil {bits : Nat} : T.ok bits .nil := ⟨trivial, trivial⟩
theorem T.ok.put {bits : Nat} {t : T} (h : t.ok bits) {p : List Bool} (i : Int) (hp : p.length ≤ bits) : (t.put p i).ok bits := ⟨T.wf_put p t i h.wf, T.fit_put p t i _ h.fit (by omega)⟩
theorem T.ok.rem {bits : Nat} {t : T} (h : t.ok bits) (p : List Bool) : (t.rem p).ok bits := ⟨T.wf_rem p t h.wf, T.fit_rem p t _ h.fit⟩
theorem T.key_mem {bits : Nat} (hb : bits ≤ 128) {t : T} (h : t.fit (bits + 1)) {p : List Bool} (hp : p.length ≤ bits) {i : Int} : ((valP bits p, (p.length : Int)), i) ∈ t.items bits ↔ t.get p = some i := by
  rw [T.mem_items hb h]
  constructor
  · rintro ⟨q, j, h1, h2⟩
    simp only [Prod.mk.injEq] at h2
    obtain ⟨⟨h3, h4⟩, rfl⟩ := h2
    rw [valP_inj hb hp (by omega) h3]; exact h1
  · intro h1; exact ⟨p, i, h1, rfl⟩
theorem T.items_put {bits : Nat} (hb : bits ≤ 128) {t : T} (h : t.fit (bits + 1)) {p : List Bool} (hp : p.length ≤ bits) {i : Int} (hn : t.get p = none) : (t.put p i).items bits = insK ltQ (t.items bits) (valP bits p, (p.length : Int)) i := by
  have hnew : (valP bits p, (p.length : Int)) ∉ (t.items bits).map (·.1) := by
    intro hm
    obtain ⟨⟨k, j⟩, hx, e⟩ := List.mem_map.1 hm
    simp only at e
    subst e
    rw [T.key_mem hb h hp, hn] at hx; cases hx
  have hf := T.fit_put p t i _ h (by omega)
  refine sorted_ext (T.sorted hb hf) ((T.sorted hb h).ins ltQ_ord i hnew) fun x => ?_
  rw [(insK_perm _ _ _).mem_iff, List.mem_cons, T.mem_items hb hf, T.mem_items hb h]
  constructor
  · rintro ⟨q, j, h1, rfl⟩
    rw [T.get_put] at h1
    by_cases hq : q = p
    · rw [if_pos hq] at h1
      cases h1
      subst hq
      exact .inl rfl
    · rw [if_neg hq] at h1
      exact .inr ⟨q, j, h1, rfl⟩
  · rintro (rfl | ⟨q, j, h1, rfl⟩)
    · exact ⟨p, i, by rw [T.get_put, if_pos rfl], rfl⟩
    · exact ⟨q, j, by rw [T.get_put, if_neg (by rintro rfl; rw [hn] at h1; cases h1)]; exact h1, rfl⟩
theorem T.items_put_len {bits : Nat} (hb : bits ≤ 128) {t : T} (h : t.fit (bits + 1)) {p : List Bool} (hp : p.length ≤ bits) {i : Int} (hn : t.get p = none) : ((t.put p i).items bits).length = (t.items bits).length + 1 := by
  rw [T.items_put hb h hp hn, (insK_perm _ _ _).length_eq, List.length_cons]
theorem mem_cut {l : List PfT} (hs : SortedK ltQ l) {j : Nat} (hj : j < l.length) (x : PfT) : x ∈ l.take j ++ l.drop (j + 1) ↔ x ∈ l ∧ x.1 ≠ l[j].1 := by
  have hnd := hs.nodup ltQ_ord
  have e : l = l.take j ++ l[j] :: l.drop (j + 1) := by rw [List.getElem_cons_drop]; exact (List.take_append_drop j l).symm
  constructor
  · intro hx
    refine ⟨?_, fun h => ?_⟩
    · rw [e]
      rcases List.mem_append.1 hx with h | h
      · exact List.mem_append_left _ h
      · exact List.mem_append_right _ (List.mem_cons_of_mem _ h)
    · rw [e, List.map_append, List.map_cons, List.nodup_append] at hnd
      obtain ⟨n1, n2, n3⟩ := hnd
      rcases List.mem_append.1 hx with h' | h'
      · exact n3 x.1 (List.mem_map_of_mem h') l[j].1 (List.mem_cons_self ..) h
      · exact (List.nodup_cons.1 n2).1 (by rw [← h]; exact List.mem_map_of_mem h')
  · rintro ⟨hx, hne⟩
    rw [e] at hx
    rcases List.mem_append.1 hx with h | h
    · exact List.mem_append_left _ h
    · rcases List.mem_cons.1 h with rfl | h
      · exact absurd rfl hne
      · exact List.mem_append_right _ h
theorem T.items_rem {bits : Nat} (hb : bits ≤ 128) {t : T} (h : t.fit (bits + 1)) {p : List Bool} (hp : p.length ≤ bits) {j : Nat} (hj : j < (t.items bits).length) (e : (t.items bits)[j].1 = (valP bits p, (p.length : Int))) :
    (t.rem p).items bits = (t.items bits).take j ++ (t.items bits).drop (j + 1) := by
  have hf := T.fit_rem p t _ h
  have hs := T.sorted hb h
  refine sorted_ext (T.sorted hb hf) ?_ fun x => ?_
  · refine List.Pairwise.sublist ?_ hs
    conv => rhs; rw [← List.take_append_drop j (t.items bits)]
    exact List.Sublist.append (List.Sublist.refl _) (by rw [show List.drop (j + 1) (t.items bits) = (List.drop j (t.items bits)).drop 1 by rw [List.drop_drop]]; exact List.drop_sublist _ _)
  · rw [mem_cut hs hj, e, T.mem_items hb hf, T.mem_items hb h]
    constructor
    · rintro ⟨q, i, h1, rfl⟩
      rw [T.get_rem] at h1
      by_cases hq : q = p
      · rw [if_pos hq] at h1; cases h1
      · rw [if_neg hq] at h1
        refine ⟨⟨q, i, h1, rfl⟩, fun he => ?_⟩
        simp only [Prod.mk.injEq] at he
        have := T.get_fit q h h1
        exact hq (valP_inj hb (by omega) (by omega) he.1)
    · rintro ⟨⟨q, i, h1, rfl⟩, hne⟩
      exact ⟨q, i, by rw [T.get_rem, if_neg (by rintro rfl; exact hne rfl)]; exact h1, rfl⟩
end Go.Ns
