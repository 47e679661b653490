/- Za, Zb, Zc, Zd in one text. -/
import Derived.Test.YtimimfbiejijdaaVbK
import Derived.Test.YtimimfbiejijdaaVbT
import Derived.Test.YtimimfbiejijdaaRCVal4
import Derived.Test.YtimimfbiejijdaaRCYB
set_option linter.unusedSimpArgs false
set_option linter.unusedVariables false
set_option maxRecDepth 100000
namespace Go.Proofs
open Go.Ns

/-- A target is counted in a sorted list. -/
def putK (L : List (TK × (Int × Int))) (t : TK) (d : Int × Int) : List (TK × (Int × Int)) :=
  match L[placeK ltK L t]? with
  | some x => if x.1 = t then L.set (placeK ltK L t) (t, (x.2.1 + d.1, x.2.2 + d.2)) else insK ltK L t d
  | none => insK ltK L t d
theorem keys_at {L : List (TK × (Int × Int))} (hs : SortedK ltK L) {t : TK} (ht : t ∈ L.map (·.1)) : ∃ v, L[placeK ltK L t]? = some (t, v) := by
  obtain ⟨x, hx, rfl⟩ := List.mem_map.1 ht
  exact ⟨x.2, hs.mem_at ltK_ord hx⟩
theorem keys_not {L : List (TK × (Int × Int))} (hs : SortedK ltK L) {t : TK} (h : ∀ x, L[placeK ltK L t]? = some x → x.1 ≠ t) : t ∉ L.map (·.1) := by
  intro ht
  obtain ⟨v, hv⟩ := keys_at hs ht
  exact h _ hv rfl
theorem putK_length (L : List (TK × (Int × Int))) (t : TK) (d : Int × Int) : (putK L t d).length ≤ L.length + 1 := by
  have hi : (insK ltK L t d).length = L.length + 1 := (insK_perm L t d).length_eq
  unfold putK
  split
  · split
    · rw [List.length_set]; omega
    · omega
  · omega
theorem putK_spec {L : List (TK × (Int × Int))} {T : TK → Int × Int} (hs : SortedK ltK L) (r : RepT L T) (t : TK) (d : Int × Int) (h : ((T t).1 + d.1, (T t).2 + d.2) ≠ (0, 0)) : SortedK ltK (putK L t d) ∧ RepT (putK L t d) (addT T t d) := by
  have new : t ∉ L.map (·.1) → SortedK ltK (insK ltK L t d) ∧ RepT (insK ltK L t d) (addT T t d) := by
    intro hn
    have hz : T t = (0, 0) := by
      by_cases h0 : T t = (0, 0)
      · exact h0
      · exact absurd (List.mem_map_of_mem ((r.mem t (T t)).2 ⟨rfl, h0⟩)) hn
    refine ⟨hs.ins ltK_ord d hn, ?_⟩
    have e : putL L t ((T t).1 + d.1, (T t).2 + d.2) = L ++ [(t, d)] := by
      unfold putL
      rw [findL_none.2 hn, hz]
      simp
    have p : (insK ltK L t d).Perm (putL L t ((T t).1 + d.1, (T t).2 + d.2)) := by
      rw [e]
      exact (insK_perm L t d).trans (List.perm_append_comm (l₁ := [(t, d)]) (l₂ := L))
    exact (r.put t d h).perm p
  unfold putK
  split
  · rename_i x hx
    obtain ⟨hi, hxi⟩ := List.getElem?_eq_some_iff.1 hx
    by_cases ht : x.1 = t
    · rw [if_pos ht]
      have hmem : (t, x.2) ∈ L := by rw [← ht]; exact hxi ▸ List.getElem_mem hi
      have hT := ((r.mem t x.2).1 hmem).1
      have hkeys : (L.set (placeK ltK L t) (t, (x.2.1 + d.1, x.2.2 + d.2))).map (·.1) = L.map (·.1) := by
        rw [List.map_set]
        apply List.ext_getElem?
        intro j
        rw [List.getElem?_set, List.length_map]
        by_cases hj : placeK ltK L t = j
        · subst hj
          rw [if_pos rfl, if_pos hi, List.getElem?_map, hx]
          simp [ht]
        · rw [if_neg hj]
      constructor
      · unfold SortedK at hs ⊢
        rw [← List.pairwise_map (f := Prod.fst) (R := fun a b => ltK a b)] at hs ⊢
        rw [hkeys]; exact hs
      · refine ⟨by rw [hkeys]; exact r.nd, fun k v => ?_⟩
        unfold addT
        rw [hT]
        have hmi : ∀ y, y ∈ L.set (placeK ltK L t) (t, (x.2.1 + d.1, x.2.2 + d.2)) ↔ y = (t, (x.2.1 + d.1, x.2.2 + d.2)) ∨ (y ∈ L ∧ y.1 ≠ t) := by
          intro y
          constructor
          · intro hy
            obtain ⟨j, hj, rfl⟩ := List.getElem_of_mem hy
            rw [List.length_set] at hj
            by_cases hjp : placeK ltK L t = j
            · left; subst hjp; simp
            · right
              rw [List.getElem_set_ne hjp]
              refine ⟨List.getElem_mem hj, fun e => hjp ?_⟩
              refine keyI r.nd hi hj ?_
              rw [hxi, ht, e]
          · rintro (rfl | ⟨hy, hne⟩)
            · exact List.mem_iff_getElem?.2 ⟨placeK ltK L t, by rw [List.getElem?_set_self hi]⟩
            · obtain ⟨j, hj, rfl⟩ := List.getElem_of_mem hy
              have hjp : placeK ltK L t ≠ j := by
                rintro rfl
                exact hne (by rw [hxi, ht])
              exact List.mem_iff_getElem?.2 ⟨j, by rw [List.getElem?_set_ne hjp, List.getElem?_eq_getElem hj]⟩
        rw [hmi]
        by_cases hk : k = t
        · subst hk
          rw [if_pos rfl]
          rw [hT] at h
          constructor
          · rintro (e | ⟨_, e⟩)
            · cases e; exact ⟨rfl, h⟩
            · exact absurd rfl e
          · rintro ⟨rfl, _⟩; exact .inl rfl
        · rw [if_neg hk, ← r.mem k v]
          constructor
          · rintro (e | ⟨e, _⟩)
            · cases e; exact absurd rfl hk
            · exact e
          · intro e; exact .inr ⟨e, hk⟩
    · rw [if_neg ht]
      exact new (keys_not hs fun y hy => by rw [hx] at hy; cases hy; exact ht)
  · rename_i hx
    exact new (keys_not hs fun y hy => by rw [hx] at hy; cases hy)

/-! ### Lists that are copied -/
def Off (b : Nat) (v : NV) : Prop := ∀ o n c, v ≠ .slice (some (b, o)) n c
def GrW (h : Heap) (N : Nat) (C : List NV) (e : Nat) (v : NV) : Prop :=
  (C = [] ∧ ∃ A, v = .slice A 0 (.fix 0)) ∨ ∃ b k, v = .slice (some (b, 0)) k (.opn e) ∧ N ≤ b ∧ hget h b = some (.cells C false) ∧ C.length = k * e ∧ 0 < k
theorem GrW.one {h : Heap} {N e : Nat} {C : List NV} {v : NV} (g : GrW h N C e v) : v.one = true := by
  rcases g with ⟨_, _, rfl⟩ | ⟨_, _, rfl, _⟩ <;> rfl
theorem GrC.w {h : Heap} {N e : Nat} {C : List NV} {v : NV} (g : GrC h N C e v) : GrW h N C e v := by
  rcases g with ⟨h1, h2⟩ | g
  · exact .inl ⟨h1, none, h2⟩
  · exact .inr g
theorem GrW.keep {h h' : Heap} {N e : Nat} {C : List NV} {v : NV} (g : GrW h N C e v) (k : ∀ b cs ro, N ≤ b → hget h b = some (.cells cs ro) → hget h' b = some (.cells cs ro)) : GrW h' N C e v := by
  rcases g with g | ⟨b, n, h1, h2, h3, h4⟩
  · exact .inl g
  · exact .inr ⟨b, n, h1, h2, k _ _ _ h2 h3, h4⟩
theorem GrW.low {h : Heap} {N M e : Nat} {C : List NV} {v : NV} (g : GrW h N C e v) (hm : M ≤ N) : GrW h M C e v := by
  rcases g with g | ⟨b, k, h1, h2, h3⟩
  · exact .inl g
  · exact .inr ⟨b, k, h1, by omega, h3⟩
theorem GrW.shape {h : Heap} {N e : Nat} {C : List NV} {v : NV} (g : GrW h N C e v) (he : 0 < e) {n : Nat} (hn : C.length = n * e) : ∃ A c, v = .slice A n c ∧ (n = 0 → c = .fix 0) ∧ (0 < n → c = .opn e ∧ ∃ b, A = some (b, 0) ∧ N ≤ b ∧ hget h b = some (.cells C false)) := by
  rcases g with ⟨rfl, A, rfl⟩ | ⟨b, k, rfl, h2, h3, h4, h5⟩
  · have : n = 0 := by
      rcases Nat.eq_zero_or_pos n with h | h
      · exact h
      · have := Nat.mul_pos h he
        simp at hn; omega
    subst this
    exact ⟨A, _, rfl, fun _ => rfl, fun h => absurd h (by omega)⟩
  · have : k = n := Nat.eq_of_mul_eq_mul_right he (by omega)
    subst this
    exact ⟨_, _, rfl, fun h => by omega, fun _ => ⟨rfl, b, rfl, h2, h3⟩⟩
theorem grw_app {h : Heap} {N e m bytes : Nat} {C new : List NV} {v x : NV} {K : NV → Heap → Prop} {t : Tg K} (g : GrW h N C e v) (hN : N ≤ h.length) (hx : sliceCells h e x = some new) (hm : lenOfSl x = some m) (he : 0 < e) (hnew : new.length = m * e)
    (hC : C.length ≤ 1000) (hm2 : m ≤ 1000) (hb : bytes ≤ 10000)
    (k : ∀ v' h', GrW h' N (C ++ new) e v' → h.length ≤ h'.length → (∀ b, b < N → hget h' b = hget h b) → (∀ b, b < h.length → Off b v → hget h' b = hget h b ∧ Off b v') → K v' h') : optB (nappendS h e bytes v x) K t := by
  have hbm : ∀ a : Nat, a ≤ 2000 → a * bytes ≤ 140737488355328 := fun a ha => Nat.le_trans (Nat.mul_le_mul ha hb) (by omega)
  have nw : ∀ l k, ∀ b, b < h.length → Off b (NV.slice (some (h.length, 0)) l k) := by
    intro l k b hb o n c e
    cases e
    omega
  rcases Nat.eq_zero_or_pos m with h0 | h0
  · subst h0
    have hn : new = [] := by simpa using hnew
    subst hn
    rcases g with ⟨rfl, A, rfl⟩ | ⟨b, l, rfl, h3, h4, h5, h6⟩
    · cases A with
      | none => exact app_nil0 hx hm (k _ _ (.inl ⟨rfl, none, rfl⟩) (Nat.le_refl _) (fun b _ => rfl) fun b _ ho => ⟨rfl, fun o n c e => by cases e⟩)
      | some a => exact app_fix0 hx hm (Nat.le_refl _) (k _ _ (.inl ⟨rfl, some a, rfl⟩) (Nat.le_refl _) (fun b _ => rfl) fun b _ ho => ⟨rfl, ho⟩)
    · refine app_fit hx hm h4 (by rw [Nat.add_zero, Nat.zero_add]; omega) (k _ _ (.inr ⟨b, l, rfl, h3, ?_, by rw [List.append_nil]; exact h5, h6⟩) (by rw [length_hset]; exact Nat.le_refl _) (fun b' hb' => ?_) fun b' hb' ho => ⟨?_, ho⟩)
      · rw [splice_nil, hset_same h4, List.append_nil]; exact h4
      · rw [splice_nil, hset_same h4]
      · rw [splice_nil, hset_same h4]
  · have hne : new ≠ [] := by
      intro e1
      rw [e1] at hnew
      have := Nat.mul_pos h0 he
      simp at hnew
      omega
    rcases g with ⟨rfl, A, rfl⟩ | ⟨b, l, rfl, h3, h4, h5, h6⟩
    · have kk : K (.slice (some (h.length, 0)) m (.opn e)) (h ++ [some (.cells new false)]) := k _ _ (.inr ⟨h.length, m, rfl, hN, by rw [List.nil_append]; exact hget_append_new, by rw [List.nil_append]; exact hnew, h0⟩) (by simp) (fun b hb => hget_appl (by omega)) fun b hb _ => ⟨hget_appl hb, nw _ _ b hb⟩
      cases A with
      | none => exact app_nil hx hm h0 ⟨hbm m (by omega), by omega⟩ kk
      | some a =>
        obtain ⟨b, o⟩ := a
        refine app_fix (old := []) hx hm (by omega) ⟨by rw [Nat.zero_add]; exact hbm m (by omega), by omega⟩ (by simp [sliceCells]) ?_
        rw [Nat.zero_add, List.nil_append]
        exact kk
    · have hl : l ≤ C.length := by rw [h5]; exact Nat.le_mul_of_pos_right l he
      have hml : (l + m) * e = C.length + new.length := by rw [Nat.add_mul, h5, hnew]
      have hpos : 0 < new.length := List.length_pos_iff.2 hne
      refine app_grow hx hm h4 hne (by rw [hml]; omega) (by omega) ⟨hbm _ (by omega), by omega⟩ (k _ _ (.inr ⟨h.length, l + m, rfl, hN, ?_, ?_, by omega⟩) (by simp) (fun b' hb' => ?_) fun b' hb' ho => ⟨?_, nw _ _ b' hb'⟩)
      · have := hget_append_new (h := hkill h b) (o := some (NBlk.cells (List.take (l * e) (List.drop 0 C) ++ new) false))
        rw [length_hkill] at this
        rw [this, List.drop_zero, List.take_of_length_le (by omega)]
      · rw [List.length_append, hml]
      · rw [hget_appl (by rw [length_hkill]; omega), hget_hkill_ne (by omega)]
      · have : b' ≠ b := fun e => ho 0 l (.opn _) (by rw [e])
        rw [hget_appl (by rw [length_hkill]; omega), hget_hkill_ne (by omega)]
/-- A part of a list, from its beginning. -/
theorem cutT {α : Type} {f : α → List NV} {e : Nat} (hf : ∀ a, (f a).length = e) (L : List α) (j : Nat) (hj : j ≤ L.length) : cut (L.flatMap f) 0 (j * e) = some ((L.take j).flatMap f) := by
  have h1 := take_flatMap hf L j
  have h2 := length_flatMap_enc hf L
  unfold cut
  rw [if_pos (by rw [h2, Nat.zero_add]; exact Nat.mul_le_mul_right e hj), List.drop_zero, h1]
/-- A part of a list, up to its end. -/
theorem cutD {α : Type} {f : α → List NV} {e : Nat} (hf : ∀ a, (f a).length = e) (L : List α) (j : Nat) (hj : j ≤ L.length) : cut (L.flatMap f) (j * e) ((L.length - j) * e) = some ((L.drop j).flatMap f) := by
  have h1 := drop_flatMap hf L j
  have h2 := length_flatMap_enc hf L
  have h3 := length_flatMap_enc hf (L.drop j)
  rw [List.length_drop] at h3
  have h4 : j * e + (L.length - j) * e = L.length * e := by rw [← Nat.add_mul]; congr 1; omega
  unfold cut
  rw [if_pos (by rw [h2, h4]; exact Nat.le_refl _), h1, List.take_of_length_le (by rw [h3]; exact Nat.le_refl _)]

theorem tkC_c (k : TK) : cut (tkC k) 0 4 = some (tkC k) := rfl
theorem tkC_o (k : TK) : (tkC k).all NV.one = true := rfl
theorem before_ok (H : Heap) (x y : TK) : NCall Try.prog 54 [.agg (tkC x), .agg (tkC y)] H fun r => r = (.bool (decide (ltK x y)), H) := by
  refine call_pure E0 mixed t54_ok (by kernel_rfl) trivial ?_
  have hc := fun H a b => rcmp_ok H a b
  simp only [t54, tkC, vnv] at hc ⊢
  by_cases h1 : x.1 = y.1
  · by_cases h2 : x.2.1 = y.2.1
    · simp (disch := first | omega | (simp only [fsLen]; omega)) only [↓fsPre, fsPost, fsCond, fsGen, fsDefs, fsDefX, Nat.reduceAdd, Nat.reduceEqDiff, ↓reduceIte, nb_one, h1, h2]
      refine callT_one (hc _ _ _) rfl ?_
      have e : decide (cmpV x.2.2 y.2.2 < 0) = decide (ltK x y) := by
        rw [decide_eq_decide, cmpV_neg]
        unfold ltK
        constructor
        · intro h; exact .inr ⟨h1, .inr ⟨h2, h⟩⟩
        · rintro (h | ⟨_, h | ⟨_, h⟩⟩)
          · omega
          · omega
          · exact h
      simp (disch := first | omega | (simp only [fsLen]; omega)) only [↓fsPre, fsPost, fsGen, fsDefs, fsDefX, ↓reduceIte, e]
      exact ⟨_, rfl⟩
    · have e : decide (x.2.1 < y.2.1) = decide (ltK x y) := by
        rw [decide_eq_decide]
        unfold ltK
        constructor
        · intro h; exact .inr ⟨h1, .inl h⟩
        · rintro (h | ⟨_, h | ⟨h, _⟩⟩)
          · omega
          · exact h
          · exact absurd h h2
      simp (disch := first | omega | (simp only [fsLen]; omega)) only [↓fsPre, fsPost, fsCond, fsGen, fsDefs, fsDefX, Nat.reduceEqDiff, ↓reduceIte, nb_one, h1, h2, e]
      exact ⟨_, rfl⟩
  · have e : decide (x.1 < y.1) = decide (ltK x y) := by
      rw [decide_eq_decide]
      unfold ltK
      constructor
      · intro h; exact .inl h
      · rintro (h | ⟨h, _⟩)
        · exact h
        · exact absurd h h1
    simp (disch := first | omega | (simp only [fsLen]; omega)) only [↓fsPre, fsPost, fsCond, fsGen, fsDefs, fsDefX, Nat.reduceEqDiff, ↓reduceIte, nb_one, h1, e]
    exact ⟨_, rfl⟩

theorem splice_app {A R xs : List NV} {o : Nat} : splice (A ++ R) (A.length + o) xs = A ++ splice R o xs := by
  unfold splice
  rw [List.take_append, List.drop_append, List.take_of_length_le (by omega), Nat.add_assoc, List.drop_of_length_le (by omega)]
  simp only [Nat.add_sub_cancel_left, List.nil_append, List.append_assoc]
theorem splice_len {a b : List NV} {o : Nat} (h : o + b.length ≤ a.length) : (splice a o b).length = a.length := by
  unfold splice
  simp only [List.length_append, List.length_take, List.length_drop]
  omega
theorem put_splice : ∀ (L : List (TK × (Int × Int))) (j : Nat) (hj : j < L.length) (a b : Int), splice (splice (L.flatMap cnC) (j * 6 + 4) [.int .i64 a]) (j * 6 + 5) [.int .i64 b] = (L.set j (L[j].1, (a, b))).flatMap cnC
  | [], _, hj, _, _ => by simp at hj
  | x :: L, 0, _, a, b => rfl
  | x :: L, j + 1, hj, a, b => by
    have ih := put_splice L j (by simpa using hj) a b
    have e1 : (j + 1) * 6 + 4 = (cnC x).length + (j * 6 + 4) := by rw [cnC_length]; omega
    have e2 : (j + 1) * 6 + 5 = (cnC x).length + (j * 6 + 5) := by rw [cnC_length]; omega
    rw [List.flatMap_cons, e1, e2, splice_app, splice_app, ih]
    rfl
theorem putK_ins {L : List (TK × (Int × Int))} {t : TK} {d : Int × Int} (h : ∀ x, L[placeK ltK L t]? = some x → x.1 ≠ t) : putK L t d = L.take (placeK ltK L t) ++ ((t, d) :: L.drop (placeK ltK L t)) := by
  unfold putK
  split
  · rename_i x hx
    rw [if_neg (h x hx)]; rfl
  · rfl
theorem putK_set {L : List (TK × (Int × Int))} {t : TK} {d : Int × Int} (hi : placeK ltK L t < L.length) (h : L[placeK ltK L t].1 = t) : putK L t d = L.set (placeK ltK L t) (L[placeK ltK L t].1, (L[placeK ltK L t].2.1 + d.1, L[placeK ltK L t].2.2 + d.2)) := by
  unfold putK
  rw [List.getElem?_eq_getElem hi]
  simp only [h, if_true]
theorem cn_cut {L : List (TK × (Int × Int))} {j : Nat} (hj : j < L.length) : cut (L.flatMap cnC) (j * 6) 4 = some (tkC L[j].1) := by
  have h := cut_flatMap (f := cnC) cnC_length hj
  have h2 := length_flatMap_enc (f := cnC) cnC_length L
  unfold cut at h ⊢
  rw [if_pos (by omega)] at h
  rw [if_pos (by omega)]
  have h3 := Option.some.inj h
  have h4 := congrArg (List.take 4) h3
  rw [List.take_take] at h4
  exact congrArg some h4
theorem cn_at {L : List (TK × (Int × Int))} {j : Nat} (hj : j < L.length) : (L.flatMap cnC)[j * 6 + 4]? = some (.int .i64 L[j].2.1) ∧ (L.flatMap cnC)[j * 6 + 5]? = some (.int .i64 L[j].2.2) := by
  have h := cut_flatMap (f := cnC) cnC_length hj
  exact ⟨cut_get h (i := 4) (by omega), cut_get h (i := 5) (by omega)⟩

theorem cn_b1 {t : TK} {a z w : NV} : (splice (tkC t ++ [z, w]) 4 [a]).length = 6 := rfl
theorem cn_b2 {t : TK} {a b : Int} {z w : NV} : splice (splice (tkC t ++ [z, w]) 4 [.int .i64 a]) 5 [.int .i64 b] = cnC (t, (a, b)) := rfl
theorem cnC_o (x : TK × (Int × Int)) : (cnC x).all NV.one = true := rfl
theorem GrW.off {h : Heap} {N e c : Nat} {C : List NV} {v : NV} (g : GrW h N C e v) (hc : c < N) (hC : C ≠ []) : Off c v := by
  rcases g with ⟨rfl, _⟩ | ⟨b, k, rfl, h2, _⟩
  · exact absurd rfl hC
  · intro o n cc e
    cases e
    omega
theorem eq_tk (p q : TK) : eqCells [.int, .int, .int, .int] (tkC p) (tkC q) = some (decide (p = q)) := eqCells_tk p q
set_option maxHeartbeats 1000000 in
theorem rputk_ok (H : Heap) (N : Nat) (v : NV) (L : List (TK × (Int × Int))) (t : TK) (a b : Int) (hg : GrW H N (L.flatMap cnC) 6 v) (hN : N ≤ H.length) (hL : L.length ≤ 120) (ha : 0 ≤ a ∧ a ≤ 1000) (hb : 0 ≤ b ∧ b ≤ 1000) (hbd : ∀ x ∈ L, (0 ≤ x.2.1 ∧ x.2.1 ≤ 1000) ∧ (0 ≤ x.2.2 ∧ x.2.2 ≤ 1000)) :
    DCall Try.prog 41 [v, .agg (tkC t), .int .i64 a, .int .i64 b] H fun r => GrW r.2 N ((putK L t (a, b)).flatMap cnC) 6 r.1 ∧ H.length ≤ r.2.length ∧ (∀ c, c < N → hget r.2 c = hget H c) ∧ (∀ c, c < H.length → Off c v → hget r.2 c = hget H c ∧ Off c r.1) := by
  refine call_det E0 rfl mixed t41_ok (by kernel_rfl) (by rintro q ⟨_, h, _⟩; exact h) ?_
  have hLc := length_flatMap_enc (f := cnC) cnC_length L
  obtain ⟨A, c, rfl, h0, h1⟩ := hg.shape (by omega) hLc
  have hle := placeK_le (lt := ltK) L t
  simp only [t41]
  have tk1 : (NV.agg (tkC t)).cells = tkC t := rfl
  simp (disch := first | omega | (simp only [fsLen]; omega)) only [↓fsPre, fsPost, tkC_o]
  refine wloop (fun j F h => F 0 = .slice A L.length c ∧ F 2 = .int .i64 a ∧ F 3 = .int .i64 b ∧ F 5 = .ptr (some (H.length, 0)) ∧ F 9 = .int .i64 j ∧ h = H ++ [some (.cells (tkC t) false)]) (placeK ltK L t) ?_ ?_ ?_
  · simp (disch := first | omega | (simp only [fsLen]; omega)) only [↓fsPre, fsGen, reduceCtorEq, Nat.reduceEqDiff, ↓reduceIte]
  · rintro j F h hj ⟨f0, f2, f3, f5, f9, rfl⟩
    obtain ⟨rfl, bb, rfl, hNb, hbk⟩ := h1 (by omega)
    have hbl := hget_some_lt hbk
    have hd : decide ((j : Int) < (L.length : Int)) = true := by simp; omega
    have hc := cn_cut (L := L) (j := j) (by omega)
    have hlt := placeK_lt (lt := ltK) L t j (by omega) hj
    simp (disch := first | omega | (simp only [fsLen]; omega)) only [↓fsPre, fsPost, fsCond, fsGen, fsDefs, fsDefX, cls, reduceCtorEq, Nat.reduceAdd, Nat.reduceEqDiff, ↓reduceIte, f0, f5, f9, hbk, hd, hc, tkC_c]
    refine callDT_one (before_ok _ _ _) rfl ?_
    simp (disch := first | omega | (simp only [fsLen]; omega)) only [↓fsPre, fsPost, fsCond, fsGen, fsDefs, fsDefX, cls, reduceCtorEq, Nat.reduceEqDiff, Nat.reduceBEq, ↓reduceIte, f0, f2, f3, f5, f9, hlt]
  · rintro F h ⟨f0, f2, f3, f5, f9, rfl⟩
    by_cases hend : placeK ltK L t < L.length
    · obtain ⟨rfl, bb, rfl, hNb, hbk⟩ := h1 (by omega)
      have hbl := hget_some_lt hbk
      have hd : decide ((placeK ltK L t : Int) < (L.length : Int)) = true := by simp; omega
      have hc := cn_cut hend
      have hlt := placeK_at (lt := ltK) L t hend
      by_cases hk : L[placeK ltK L t].1 = t
      · have hs := put_splice L _ hend (L[placeK ltK L t].2.1 + a) (L[placeK ltK L t].2.2 + b)
        have hr := putK_set (d := (a, b)) hend hk
        obtain ⟨c4, c5⟩ := cn_at hend
        have hbx := hbd _ (List.getElem_mem hend)
        rw [hr]
        generalize placeK ltK L t = i at *
        simp (disch := first | omega | (simp only [fsLen]; omega)) only [↓fsPre, fsPost, fsCond, fsGen, fsDefs, fsDefX, cls, reduceCtorEq, Nat.reduceAdd, Nat.reduceEqDiff, ↓reduceIte, f0, f5, f9, hbk, hd, hc, tkC_c]
        refine callDT_one (before_ok _ _ _) rfl ?_
        have irr : decide (ltK t t) = false := by simp [ltK_ord.irr]
        simp (disch := first | omega | (simp only [fsLen]; omega)) only [↓fsPre, fsPost, fsCond, fsGen, fsDefs, fsDefX, cls, eqVal, reduceCtorEq, Nat.reduceAdd, Nat.reduceEqDiff, Nat.reduceBEq, ↓reduceIte, f0, f2, f3, f5, f9, hbk, hd, hc, c4, c5, irr, eq_tk, hk, tkC_c]
        have hsl : ((splice (L.flatMap cnC) (i * 6 + 4) [.int .i64 (L[i].2.1 + a)]).length) = L.length * 6 := by rw [splice_len (by rw [hLc]; simp only [List.length_cons, List.length_nil]; omega), hLc]
        have hi6 : i * 6 + 6 ≤ L.length * 6 := by omega
        rw [hk] at hs
        simp (disch := first | omega | (simp only [fsLen]; omega)) only [↓fsPre, fsPost, fsGen, fsDefs, reduceCtorEq, Nat.reduceBEq, ↓reduceIte, f0, hs, hsl, hi6]
        refine ⟨.inr ⟨bb, L.length, rfl, hNb, ?_, by rw [length_flatMap_enc cnC_length, List.length_set], by omega⟩, fun c hc => ?_, fun c hc ho => ⟨?_, ho⟩⟩
        · rw [hget_appl (by rw [length_hset]; omega), hget_hset_same hbl]
        · rw [hget_appl (by rw [length_hset]; omega), hget_hset_ne (by omega)]
        · have : c ≠ bb := fun e => ho 0 L.length (.opn 6) (by rw [e])
          rw [hget_appl (by rw [length_hset]; omega), hget_hset_ne (Ne.symm this)]
      · have hr := putK_ins (d := (a, b)) (L := L) (t := t) (fun x hx => by rw [List.getElem?_eq_getElem hend] at hx; cases hx; exact hk)
        rw [hr]
        generalize placeK ltK L t = i at *
        simp (disch := first | omega | (simp only [fsLen]; omega)) only [↓fsPre, fsPost, fsCond, fsGen, fsDefs, fsDefX, cls, reduceCtorEq, Nat.reduceAdd, Nat.reduceEqDiff, ↓reduceIte, f0, f5, f9, hbk, hd, hc, tkC_c]
        refine callDT_one (before_ok _ _ _) rfl ?_
        have irr : decide (ltK L[i].1 t) = false := by simpa using hlt
        simp (disch := first | omega | (simp only [fsLen]; omega)) only [↓fsPre, fsPost, fsCond, fsGen, fsDefs, fsDefX, cls, eqVal, reduceCtorEq, Nat.reduceAdd, Nat.reduceEqDiff, Nat.reduceBEq, ↓reduceIte, f0, f5, f9, hbk, hd, hc, irr, eq_tk, hk, tkC_c]
        refine grw_app (N := H.length + 3) (C := []) (new := (L.take i).flatMap cnC) (m := i) (.inl ⟨rfl, _, rfl⟩) (by simp) (sliceCells_at (by simp (disch := first | omega | (simp only [fsLen]; omega)) only [fsCond, hbk] <;> rfl) (cutT cnC_length L i hle)) rfl (by omega) (by rw [length_flatMap_enc cnC_length, List.length_take, Nat.min_eq_left hle]) (by simp) (by omega) (by omega) ?_
        intro v1 h1' g1 l1 n1 _
        have e0 := n1 H.length (by omega)
        have e2 := n1 (H.length + 2) (by omega)
        have eb := n1 bb (by omega)
        simp (disch := first | omega | (simp only [fsLen]; omega)) only [fsPost, fsCond, fsGen] at e0 e2 eb
        rw [hbk] at eb
        simp only [List.length_append, List.length_cons, List.length_nil] at l1
        have e01 := e0
        simp (disch := first | omega | (simp only [fsLen]; omega)) only [↓fsPre, fsPost, fsCond, fsGen, fsDefs, cls, Nat.reduceAdd, Nat.reduceLeDiff, Nat.reduceEqDiff, Nat.reduceBEq, ↓reduceIte, f2, f3, f5, e2, tkC_o, tkC_c, tkC_length, cn_b1, cn_b2, cnC_o, cnC_length]
        refine ⟨by omega, ?_⟩
        refine grw_app (N := H.length + 3) (new := cnC (t, (a, b))) (m := 1) (g1.keep fun c cs ro hc h => by rw [hget_hset_ne (by omega)]; exact h) (by rw [length_hset]; omega) (sliceCells_at (by simp (disch := first | omega | (simp only [fsLen]; omega)) only [fsCond] <;> rfl) rfl) rfl (by omega) rfl (by rw [List.nil_append, length_flatMap_enc cnC_length, List.length_take, Nat.min_eq_left hle]; omega) (by omega) (by omega) ?_
        intro v2 h2 g2 l2 n2 _
        have e0 := (n2 H.length (by omega)).trans ((hget_hset_ne (by omega)).trans e0)
        have eb := (n2 bb (by omega)).trans ((hget_hset_ne (by omega)).trans eb)
        have old2 : ∀ c, c < H.length → hget h2 c = hget H c := fun c hc => by rw [n2 c (by omega), hget_hset_ne (by omega), n1 c (by omega), hget_appl hc]
        rw [length_hset] at l2
        have l2' : H.length + 3 ≤ h2.length := by omega
        clear n1 n2 g1 e2 l1 l2
        simp (disch := first | omega | (simp only [fsLen]; omega)) only [↓fsPre, fsPost, fsCond, fsGen, fsDefs, cls, reduceCtorEq, Nat.reduceAdd, Nat.reduceEqDiff, Nat.reduceBEq, ↓reduceIte, f0, f9]
        refine ⟨by omega, ?_⟩
        refine grw_app (N := H.length + 3) (new := (L.drop i).flatMap cnC) (m := L.length - i) g2 l2' (sliceCells_at (by simp (disch := first | omega | (simp only [fsLen]; omega)) only [eb] <;> rfl) (cutD cnC_length L i hle)) rfl (by omega) (by rw [length_flatMap_enc cnC_length, List.length_drop]) (by rw [List.nil_append, List.length_append, length_flatMap_enc cnC_length, List.length_take, Nat.min_eq_left hle, cnC_length]; omega) (by omega) (by omega) ?_
        intro v3 h3 g3 l3 n3 o3
        have hfin : GrW h3 (H.length + 3) ((L.take i ++ (t, (a, b)) :: L.drop i).flatMap cnC) 6 v3 := by
          have : (L.take i ++ (t, (a, b)) :: L.drop i).flatMap cnC = ([] ++ (L.take i).flatMap cnC ++ cnC (t, (a, b))) ++ (L.drop i).flatMap cnC := by simp
          rw [this]
          exact g3
        simp (disch := first | omega | (simp only [fsLen]; omega)) only [↓fsPre, fsPost, fsGen, fsDefs, cls, Nat.reduceAdd, Nat.reduceEqDiff, Nat.reduceBEq, ↓reduceIte, f5]
        refine ⟨by omega, by rw [e01]; rfl, hfin.low (by omega), by omega, fun c hc => by rw [n3 c (by omega)]; exact old2 c (by omega), fun c hc _ => ⟨by rw [n3 c (by omega)]; exact old2 c hc, hfin.off (by omega) (by simp [cnC])⟩⟩
    · have hd : decide ((placeK ltK L t : Int) < (L.length : Int)) = false := by simp; omega
      have hr := putK_ins (d := (a, b)) (L := L) (t := t) (fun x hx => by rw [List.getElem?_eq_none (by omega)] at hx; cases hx)
      rw [hr]
      generalize placeK ltK L t = i at *
      rcases Nat.eq_zero_or_pos L.length with hz | hz
      · obtain rfl : L = [] := List.eq_nil_of_length_eq_zero hz
        obtain rfl := h0 hz
        obtain rfl : i = 0 := by simpa using hle
        have hcut : sliceCells (H ++ [some (.cells (tkC t) false), some (.cells [] false), none]) 6 (.slice A 0 (.fix 0)) = some [] := by cases A <;> simp [sliceCells]
        simp (disch := first | omega | (simp only [fsLen]; omega)) only [↓fsPre, fsPost, fsCond, fsGen, fsDefs, fsDefX, cls, reduceCtorEq, Nat.reduceAdd, Nat.reduceEqDiff, Nat.reduceBEq, Int.reduceLE, Int.reduceToNat, ↓reduceIte, f0, f9]
        refine grw_app (N := H.length + 3) (C := []) (new := (([] : List (TK × (Int × Int))).take 0).flatMap cnC) (m := 0) (.inl ⟨rfl, _, rfl⟩) (by simp) hcut rfl (by omega) rfl (by simp) (by omega) (by omega) ?_
        intro v1 h1' g1 l1 n1 _
        have e0 := n1 H.length (by omega)
        have e2 := n1 (H.length + 2) (by omega)
        simp (disch := first | omega | (simp only [fsLen]; omega)) only [fsPost, fsCond, fsGen] at e0 e2
        simp only [List.length_append, List.length_cons, List.length_nil] at l1
        have e01 := e0
        simp (disch := first | omega | (simp only [fsLen]; omega)) only [↓fsPre, fsPost, fsCond, fsGen, fsDefs, cls, Nat.reduceAdd, Nat.reduceLeDiff, Nat.reduceEqDiff, Nat.reduceBEq, ↓reduceIte, f2, f3, f5, e2, tkC_o, tkC_c, tkC_length, cn_b1, cn_b2, cnC_o, cnC_length]
        refine ⟨by omega, ?_⟩
        refine grw_app (N := H.length + 3) (new := cnC (t, (a, b))) (m := 1) (g1.keep fun c cs ro hc h => by rw [hget_hset_ne (by omega)]; exact h) (by rw [length_hset]; omega) (sliceCells_at (by simp (disch := first | omega | (simp only [fsLen]; omega)) only [fsCond] <;> rfl) rfl) rfl (by omega) rfl (by simp) (by omega) (by omega) ?_
        intro v2 h2 g2 l2 n2 _
        have e0 := (n2 H.length (by omega)).trans ((hget_hset_ne (by omega)).trans e0)
        have old2 : ∀ c, c < H.length → hget h2 c = hget H c := fun c hc => by rw [n2 c (by omega), hget_hset_ne (by omega), n1 c (by omega), hget_appl hc]
        rw [length_hset] at l2
        have l2' : H.length + 3 ≤ h2.length := by omega
        clear n1 n2 g1 e2 l1 l2
        have hcut2 : sliceCells h2 6 (.slice A 0 (.fix 0)) = some [] := by cases A <;> simp [sliceCells]
        simp (disch := first | omega | (simp only [fsLen]; omega)) only [↓fsPre, fsPost, fsCond, fsGen, fsDefs, cls, reduceCtorEq, Nat.reduceAdd, Nat.reduceEqDiff, Nat.reduceBEq, Int.reduceLE, Int.reduceToNat, ↓reduceIte, f0, f9]
        refine ⟨by omega, ?_⟩
        refine grw_app (N := H.length + 3) (new := (([] : List (TK × (Int × Int))).drop 0).flatMap cnC) (m := 0) g2 l2' hcut2 rfl (by omega) rfl (by simp [cnC_length]) (by omega) (by omega) ?_
        intro v3 h3 g3 l3 n3 o3
        have hfin : GrW h3 (H.length + 3) ((([] : List (TK × (Int × Int))).take 0 ++ (t, (a, b)) :: ([] : List (TK × (Int × Int))).drop 0).flatMap cnC) 6 v3 := by
          have : (([] : List (TK × (Int × Int))).take 0 ++ (t, (a, b)) :: ([] : List (TK × (Int × Int))).drop 0).flatMap cnC = ([] ++ (([] : List (TK × (Int × Int))).take 0).flatMap cnC ++ cnC (t, (a, b))) ++ (([] : List (TK × (Int × Int))).drop 0).flatMap cnC := by simp
          rw [this]
          exact g3
        simp (disch := first | omega | (simp only [fsLen]; omega)) only [↓fsPre, fsPost, fsGen, fsDefs, cls, Nat.reduceAdd, Nat.reduceEqDiff, Nat.reduceBEq, ↓reduceIte, f5]
        refine ⟨by omega, by rw [e01]; rfl, hfin.low (by omega), by omega, fun c hc => by rw [n3 c (by omega)]; exact old2 c (by omega), fun c hc _ => ⟨by rw [n3 c (by omega)]; exact old2 c hc, hfin.off (by omega) (by simp [cnC])⟩⟩
      · obtain ⟨rfl, bb, rfl, hNb, hbk⟩ := h1 hz
        have hbl := hget_some_lt hbk
        simp (disch := first | omega | (simp only [fsLen]; omega)) only [↓fsPre, fsPost, fsCond, fsGen, fsDefs, fsDefX, cls, reduceCtorEq, Nat.reduceAdd, Nat.reduceEqDiff, Nat.reduceBEq, ↓reduceIte, f0, f9, hd]
        refine grw_app (N := H.length + 3) (C := []) (new := (L.take i).flatMap cnC) (m := i) (.inl ⟨rfl, _, rfl⟩) (by simp) (sliceCells_at (by simp (disch := first | omega | (simp only [fsLen]; omega)) only [fsCond, hbk] <;> rfl) (cutT cnC_length L i hle)) rfl (by omega) (by rw [length_flatMap_enc cnC_length, List.length_take, Nat.min_eq_left hle]) (by simp) (by omega) (by omega) ?_
        intro v1 h1' g1 l1 n1 _
        have e0 := n1 H.length (by omega)
        have e2 := n1 (H.length + 2) (by omega)
        have eb := n1 bb (by omega)
        simp (disch := first | omega | (simp only [fsLen]; omega)) only [fsPost, fsCond, fsGen] at e0 e2 eb
        rw [hbk] at eb
        simp only [List.length_append, List.length_cons, List.length_nil] at l1
        have e01 := e0
        simp (disch := first | omega | (simp only [fsLen]; omega)) only [↓fsPre, fsPost, fsCond, fsGen, fsDefs, cls, Nat.reduceAdd, Nat.reduceLeDiff, Nat.reduceEqDiff, Nat.reduceBEq, ↓reduceIte, f2, f3, f5, e2, tkC_o, tkC_c, tkC_length, cn_b1, cn_b2, cnC_o, cnC_length]
        refine ⟨by omega, ?_⟩
        refine grw_app (N := H.length + 3) (new := cnC (t, (a, b))) (m := 1) (g1.keep fun c cs ro hc h => by rw [hget_hset_ne (by omega)]; exact h) (by rw [length_hset]; omega) (sliceCells_at (by simp (disch := first | omega | (simp only [fsLen]; omega)) only [fsCond] <;> rfl) rfl) rfl (by omega) rfl (by rw [List.nil_append, length_flatMap_enc cnC_length, List.length_take, Nat.min_eq_left hle]; omega) (by omega) (by omega) ?_
        intro v2 h2 g2 l2 n2 _
        have e0 := (n2 H.length (by omega)).trans ((hget_hset_ne (by omega)).trans e0)
        have eb := (n2 bb (by omega)).trans ((hget_hset_ne (by omega)).trans eb)
        have old2 : ∀ c, c < H.length → hget h2 c = hget H c := fun c hc => by rw [n2 c (by omega), hget_hset_ne (by omega), n1 c (by omega), hget_appl hc]
        rw [length_hset] at l2
        have l2' : H.length + 3 ≤ h2.length := by omega
        clear n1 n2 g1 e2 l1 l2
        simp (disch := first | omega | (simp only [fsLen]; omega)) only [↓fsPre, fsPost, fsCond, fsGen, fsDefs, cls, reduceCtorEq, Nat.reduceAdd, Nat.reduceEqDiff, Nat.reduceBEq, ↓reduceIte, f0, f9]
        refine ⟨by omega, ?_⟩
        refine grw_app (N := H.length + 3) (new := (L.drop i).flatMap cnC) (m := L.length - i) g2 l2' (sliceCells_at (by simp (disch := first | omega | (simp only [fsLen]; omega)) only [eb] <;> rfl) (cutD cnC_length L i hle)) rfl (by omega) (by rw [length_flatMap_enc cnC_length, List.length_drop]) (by rw [List.nil_append, List.length_append, length_flatMap_enc cnC_length, List.length_take, Nat.min_eq_left hle, cnC_length]; omega) (by omega) (by omega) ?_
        intro v3 h3 g3 l3 n3 o3
        have hfin : GrW h3 (H.length + 3) ((L.take i ++ (t, (a, b)) :: L.drop i).flatMap cnC) 6 v3 := by
          have : (L.take i ++ (t, (a, b)) :: L.drop i).flatMap cnC = ([] ++ (L.take i).flatMap cnC ++ cnC (t, (a, b))) ++ (L.drop i).flatMap cnC := by simp
          rw [this]
          exact g3
        simp (disch := first | omega | (simp only [fsLen]; omega)) only [↓fsPre, fsPost, fsGen, fsDefs, cls, Nat.reduceAdd, Nat.reduceEqDiff, Nat.reduceBEq, ↓reduceIte, f5]
        refine ⟨by omega, by rw [e01]; rfl, hfin.low (by omega), by omega, fun c hc => by rw [n3 c (by omega)]; exact old2 c (by omega), fun c hc _ => ⟨by rw [n3 c (by omega)]; exact old2 c hc, hfin.off (by omega) (by simp [cnC])⟩⟩

theorem needs_fm (e : En) : ∀ (R : List Rf), (needsL R e).length ≤ (R.filter fun r => decide (r.tab = e.tab)).length
  | [] => Nat.le_refl _
  | r :: R => by
    have ih := needs_fm e R
    unfold needsL at *
    rw [List.filterMap_cons, List.filter_cons]
    by_cases h : r.tab = e.tab
    · rw [if_pos (by simp [h])]
      split
      · simp only [List.length_cons]; omega
      · simp only [List.length_cons]; omega
    · have h1 : need1 r e = none := by unfold need1; rw [if_neg h]
      rw [h1, if_neg (by simp [h])]
      exact ih
theorem needs_le3 (t : TP) (e : En) : (needsL (refsOf t) e).length ≤ 3 := by
  refine Nat.le_trans (needs_fm e _) ?_
  unfold refsOf
  generalize e.tab = x
  by_cases h2 : (2 : Int) = x
  · subst h2; cases t.m3 <;> cases t.m4 <;> simp [List.filter_cons]
  · by_cases h3 : (3 : Int) = x
    · subst h3; cases t.m3 <;> cases t.m4 <;> simp [List.filter_cons]
    · by_cases h4 : (4 : Int) = x
      · subst h4; cases t.m3 <;> cases t.m4 <;> simp [List.filter_cons]
      · cases t.m3 <;> cases t.m4 <;> simp [List.filter_cons, h2, h3, h4]
theorem prov_le1 (t : TP) (e : En) : (provL (refsOf t) e).length ≤ 1 := by
  have hr : ∀ r ∈ refsOf t, tgt r e = ⟨1, 0, (mV e 0).1, (mV e 0).2⟩ := by
    unfold refsOf
    intro r hr
    have : r.tt = 1 ∧ r.tk = 0 := by
      revert hr
      generalize t.m3 = a
      generalize t.m4 = b
      cases a <;> cases b <;> simp <;> rintro (rfl | rfl | rfl | rfl | rfl | rfl) <;> exact ⟨rfl, rfl⟩
    unfold tgt
    rw [this.1, this.2]
  have key : ∀ (R : List Rf), (∀ r ∈ R, tgt r e = ⟨1, 0, (mV e 0).1, (mV e 0).2⟩) → ∀ out : List T4, (out = [] ∨ out = [⟨1, 0, (mV e 0).1, (mV e 0).2⟩]) → (R.foldl (fun out r => if r.tt = e.tab ∧ ¬ tgt r e ∈ out then out ++ [tgt r e] else out) out).length ≤ 1 := by
    intro R
    induction R with
    | nil => rintro _ out (rfl | rfl) <;> simp
    | cons r R ih =>
      intro hR out ho
      rw [List.foldl_cons]
      refine ih (fun r' h => hR r' (List.mem_cons_of_mem _ h)) _ ?_
      rw [hR r (List.mem_cons_self ..)]
      rcases ho with rfl | rfl
      · split
        · exact .inr rfl
        · exact .inl rfl
      · rw [if_neg (by simp)]; exact .inr rfl
  exact key _ hr [] (.inl rfl)

/-- A list of tallies that was made by copying. -/
def AcSt (N : Nat) (h : Heap) (T : TK → Int × Int) (n : Nat) (v : NV) : Prop := ∃ L, SortedK ltK L ∧ RepT L T ∧ L.length ≤ n ∧ GrC h N (L.flatMap cnC) 6 v
theorem AcSt.one {N n : Nat} {h : Heap} {T : TK → Int × Int} {v : NV} (x : AcSt N h T n v) : v.one = true := by
  obtain ⟨L, _, _, _, g⟩ := x
  exact g.one
theorem AcSt.off {N n : Nat} {h : Heap} {T : TK → Int × Int} {v : NV} (x : AcSt N h T n v) {b : Nat} (hb : h.length ≤ b) : Off b v := by
  obtain ⟨L, _, _, _, g⟩ := x
  exact g.lt hb
theorem AcSt.old {N n : Nat} {h h' : Heap} {T : TK → Int × Int} {v : NV} (x : AcSt N h T n v) (k : ∀ b, b < h.length → hget h' b = hget h b) : AcSt N h' T n v := by
  obtain ⟨L, h1, h2, h3, g⟩ := x
  refine ⟨L, h1, h2, h3, ?_⟩
  rcases g with ⟨e1, rfl⟩ | ⟨b, m, e1, e2, e3, e4⟩
  · exact .inl ⟨e1, rfl⟩
  · exact .inr ⟨b, m, e1, e2, by rw [k b (hget_lt e3)]; exact e3, e4⟩
theorem putK_ne (L : List (TK × (Int × Int))) (t : TK) (d : Int × Int) : putK L t d ≠ [] := by
  intro e
  have hl := congrArg List.length e
  unfold putK at hl
  split at hl
  · rename_i x hx
    have hi := (List.getElem?_eq_some_iff.1 hx).1
    split at hl
    · rw [List.length_set, List.length_nil] at hl; omega
    · rw [(insK_perm L t d).length_eq] at hl; simp at hl
  · rw [(insK_perm L t d).length_eq] at hl; simp at hl
theorem GrW.c {h : Heap} {N e : Nat} {C : List NV} {v : NV} (g : GrW h N C e v) (hC : C ≠ []) : GrC h N C e v := by
  rcases g with ⟨h1, _⟩ | g
  · exact absurd h1 hC
  · exact .inr g

theorem putc_ok (H : Heap) (N : Nat) (v : NV) (T : TK → Int × Int) (n : Nat) (t : TK) (a b : Int) (x : AcSt N H T n v) (hN : N ≤ H.length) (hn : n ≤ 110) (hab : a = 1 ∧ b = 0 ∨ a = 0 ∧ b = 1) (hT : ∀ k, 0 ≤ (T k).1 ∧ (T k).1 ≤ 500 ∧ 0 ≤ (T k).2 ∧ (T k).2 ≤ 500) :
    DCall Try.prog 41 [v, .agg (tkC t), .int .i64 a, .int .i64 b] H fun r => AcSt N r.2 (addT T t (a, b)) (n + 1) r.1 ∧ H.length ≤ r.2.length ∧ (∀ c, c < N → hget r.2 c = hget H c) ∧ (∀ c, c < H.length → Off c v → hget r.2 c = hget H c ∧ Off c r.1) := by
  obtain ⟨L, hs, hr, hL, g⟩ := x
  obtain ⟨v', g', c, q1, q2, q3, q4⟩ := rputk_ok H N v L t a b (GrC.w g) hN (by omega) (by omega) (by omega) fun x hx => by
    obtain ⟨k, w⟩ := x
    have := ((hr.mem k w).1 hx).1
    have h2 := hT k
    rw [this] at h2
    exact ⟨⟨h2.1, Int.le_trans h2.2.1 (by omega)⟩, h2.2.2.1, Int.le_trans h2.2.2.2 (by omega)⟩
  have h0 := hT t
  obtain ⟨p1, p2⟩ := putK_spec hs hr t (a, b) (fun e => by
    have e1 := (Prod.mk.inj e).1
    have e2 := (Prod.mk.inj e).2
    simp only at e1 e2
    omega)
  have p3 := putK_length L t (a, b)
  exact ⟨v', g', c, ⟨_, p1, p2, by omega, q1.c (fun e => putK_ne L t (a, b) (by
    have := congrArg List.length e
    rw [length_flatMap_enc cnC_length] at this
    rw [List.length_nil] at this
    exact List.eq_nil_of_length_eq_zero (by omega)))⟩, q2, q3, q4⟩

def rallQ (H : Heap) (R : List Rf) (es : List En) (r : NV × Heap) : Prop := H.length ≤ r.2.length ∧ (∀ b, b < H.length → hget r.2 b = hget H b) ∧ AcSt H.length r.2 (accT R es) 96 r.1

set_option maxHeartbeats 4000000 in
theorem rall_ok (N : Nat) (H : Heap) (R : List Rf) (z0 z1 z2 z3 z4 z5 z6 z7 z8 z9 : NV) (s : RfV H R z0 z1 z2 z3 z4 z5 z6 z7 z8 z9) (hR : R.length ≤ 10) (rows : List (List NV)) (es : List En) (oa : Option (Nat × Nat)) (oc : Cap) (x : RowsAt H N rows es oa) (hle : es.length ≤ 24)
    (hok : ∀ e ∈ es, ∀ r ∈ R, RfOK r e) (hu : ∀ e ∈ es, EnU e) (h3 : ∀ e, (needsL R e).length ≤ 3) (h1 : ∀ e, (provL R e).length ≤ 1) :
    DCall Try.prog 25 [.agg [z0, z1, z2, z3, z4, z5, z6, z7, z8, z9], .slice oa rows.length oc] H (rallQ H R es) := by
  obtain ⟨p0, p1, p2, p3, p4, p5, p6, p8, p9⟩ := s.o
  have p7 : z7.one = true := by obtain ⟨b, c, _, _, rfl, _⟩ := s.r; rfl
  have hnl : ∀ e, (needsK R e).length ≤ 3 := fun e => by unfold needsK; rw [List.length_map]; exact h3 e
  have hpl : ∀ e, (provK R e).length ≤ 1 := fun e => by unfold provK; rw [List.length_map]; exact h1 e
  have hrl := x.len
  refine call_det E0 rfl mixed t25_ok (by kernel_rfl) (by rintro q ⟨h, _⟩; exact h) ?_
  simp only [t25]
  simp (disch := first | omega | (simp only [fsLen]; omega)) only [↓fsPre, fsPost, fsGen, fsDefs, Nat.reduceEqDiff, ↓reduceIte, p0, p1, p2, p3, p4, p5, p6, p7, p8, p9]
  refine wloop (fun j F h => ∃ v, F 2 = .ptr (some (H.length, 0)) ∧ F 5 = v ∧ F 12 = .slice oa rows.length oc ∧ F 13 = .int .i64 rows.length ∧ F 14 = .int .i64 j ∧ H.length + 1 ≤ h.length ∧ (∀ b, b < H.length → hget h b = hget H b) ∧ hget h H.length = some (.cells [z0, z1, z2, z3, z4, z5, z6, z7, z8, z9] false) ∧ AcSt (H.length + 1) h (accT R (es.take j)) (4 * j) v) rows.length ?_ ?_ ?_
  · refine ⟨.slice none 0 (.fix 0), ?_⟩
    simp (disch := first | omega | (simp only [fsLen]; omega)) only [↓fsPre, fsPost, fsCond, fsGen, Nat.reduceMul, Nat.reduceEqDiff, ↓reduceIte]
    exact ⟨fun b hb => hget_appl hb, [], List.Pairwise.nil, RepT.nil fun _ => rfl, by simp, GrC.nil⟩
  · rintro j F h hj ⟨v, f2, f5, f12, f13, f14, hl, old, hs, ac⟩
    obtain ⟨bo, hoa, hbo⟩ := x.blk (by omega)
    subst hoa
    have lbo := hget_some_lt hbo
    have hboh : hget h bo = _ := (old bo lbo).trans hbo
    have hbohl := hget_some_lt hboh
    have hck : cut rows.flatten (j * 5) 5 = some rows[j] := flat_cut x.r5 j hj
    have hje : j < es.length := by omega
    have xE := (x.row j hj hje)
    have hokj := hok es[j] (List.getElem_mem hje)
    have huj := hu es[j] (List.getElem_mem hje)
    obtain ⟨mv, av, hrw, om, oav, _⟩ := xE.parts
    rw [hrw] at hck xE
    have htx : es.take (j + 1) = es.take j ++ [es[j]] := by rw [List.take_add_one, List.getElem?_eq_getElem hje]; rfl
    have hTb := accT_bound R hR (es.take j)
    have hTl : (es.take j).length ≤ 24 := by rw [List.length_take]; omega
    have hsl := hget_some_lt hs
    have ov := ac.one
    simp (disch := first | omega | (simp only [fsLen]; omega)) only [↓fsPre, fsPost, fsCond, fsGen, fsDefs, fsDefX, Nat.reduceAdd, Nat.reduceEqDiff, ↓reduceIte, f2, f12, f13, f14, hboh, hck, om, oav, hs]
    have oK : ∀ b, b < H.length → hget (h ++ [some (NBlk.cells [.int .i64 es[j].tab, mv, .int .i64 es[j].pr, .int .i64 es[j].act, av] false)]) b = hget H b := fun b hb => by rw [hget_appl (by omega)]; exact old b hb
    refine callT_D (rneeds_ok N _ R z0 z1 z2 z3 z4 z5 z6 z7 z8 z9 (s.mono oK) hR _ es[j] (xE.mono oK) hokj) rfl ?_
    rintro va g1 ⟨l1, o1, ga⟩
    simp only [List.length_append, List.length_cons, List.length_nil] at l1 o1 ga
    rw [tC_tk (needs_u huj R)] at ga
    change GrC g1 _ ((needsK R es[j]).flatMap tkC) 4 va at ga
    obtain ⟨A, c, rfl, hA⟩ := tks_shape ga
    have og : ∀ b, b < h.length → hget g1 b = hget h b := fun b hb => by rw [o1 b (by omega), hget_appl hb]
    have hrow1 : hget g1 h.length = some (.cells [.int .i64 es[j].tab, mv, .int .i64 es[j].pr, .int .i64 es[j].act, av] false) := by rw [o1 _ (by omega)]; simp (disch := first | omega | (simp only [fsLen]; omega)) only [fsPost, fsCond, fsGen]
    have hoff7 : Off h.length v := ac.off (Nat.le_refl _)
    have hoffA : ∀ b, h.length + 1 ≤ b → Off b v := fun b hb => ac.off (by omega)
    have ac1 : AcSt (H.length + 1) g1 (accT R (es.take j)) (4 * j) v := ac.old og
    have n3 := hnl es[j]
    have n1 := hpl es[j]
    have hs1 : hget g1 H.length = _ := (og _ hsl).trans hs
    simp (disch := first | omega | (simp only [fsLen]; omega)) only [↓fsPre, fsPost, fsDefs, ↓reduceIte]
    clear o1 ga ac hs hboh hck
    refine wloop (fun i F h' => ∃ v', F 2 = .ptr (some (H.length, 0)) ∧ F 5 = v' ∧ F 7 = .ptr (some (h.length, 0)) ∧ F 12 = .slice (some (bo, 0)) rows.length oc ∧ F 13 = .int .i64 rows.length ∧ F 14 = .int .i64 j ∧ F 20 = .slice A (needsK R es[j]).length c ∧ F 21 = .int .i64 (needsK R es[j]).length ∧ F 22 = .int .i64 i ∧ g1.length ≤ h'.length ∧ (∀ b, b < H.length + 1 → hget h' b = hget g1 b) ∧ (∀ b, b < g1.length → Off b v → hget h' b = hget g1 b ∧ Off b v') ∧ AcSt (H.length + 1) h' (sumT (accT R (es.take j)) ((needsK R es[j]).take i) (1, 0)) (4 * j + i) v') (needsK R es[j]).length ?_ ?_ ?_
    · refine ⟨v, ?_⟩
      simp (disch := first | omega | (simp only [fsLen]; omega)) only [↓fsPre, fsGen, Nat.reduceEqDiff, ↓reduceIte, f2, f5, f12, f13, f14]
      refine ⟨fun b hb ho => ho, ?_⟩
      rw [sumT_nil]; exact ac1
    · clear f2 f5 f12 f13 f14 F
      rintro i F h' hi ⟨v', f2, f5, f7, f12, f13, f14, f20, f21, f22, hl', lo', of', ac'⟩
      obtain ⟨b, rfl, hNb, hb⟩ := hA (by omega)
      have hbl1 := hget_lt hb
      have hbh : hget h' b = _ := (of' b hbl1 (hoffA b hNb)).1.trans hb
      have hbl := hget_some_lt hbh
      have hc : cut ((needsK R es[j]).flatMap tkC) (i * 4) 4 = some (tkC (needsK R es[j])[i]) := cut_flatMap tkC_length hi
      have htk : (needsK R es[j]).take (i + 1) = (needsK R es[j]).take i ++ [(needsK R es[j])[i]] := by rw [List.take_add_one, List.getElem?_eq_getElem hi]; rfl
      have ov := ac'.one
      simp (disch := first | omega | (simp only [fsLen]; omega)) only [↓fsPre, fsPost, fsCond, fsGen, fsDefs, fsDefX, Nat.reduceAdd, Nat.reduceEqDiff, ↓reduceIte, f5, f20, f21, f22, hbh, hc, tkC_one, tkC_cut, tkC_length]
      refine callT_D (putc_ok _ (H.length + 1) v' _ _ (needsK R es[j])[i] 1 0 (ac'.old fun b hb => hget_appl hb) (by rw [List.length_append]; omega) (by omega) (by omega) (fun k => ?_)) rfl ?_
      · have b1 := hTb k
        have b2 : ((needsK R es[j]).take i).count k ≤ 3 := Nat.le_trans List.count_le_length (by rw [List.length_take]; omega)
        unfold sumT
        simp only
        omega
      rintro v2 h2 ⟨q1, q2, q3, q4⟩
      simp only [List.length_append, List.length_cons, List.length_nil] at q1 q2 q3 q4
      rw [← sumT_snoc, ← htk] at q1
      simp (disch := first | omega | (simp only [fsLen]; omega)) only [↓fsPre, fsPost, fsCond, fsGen, fsDefX, Nat.reduceEqDiff, ↓reduceIte, f2, f7, f12, f13, f14, f20, f21, f22]
      refine ⟨v2, ?_⟩
      simp (disch := first | omega | (simp only [fsLen]; omega)) only [fsGen]
      refine ⟨by omega, fun b hb => ?_, fun b hb ho => ?_, q1⟩
      · rw [q3 b hb, hget_appl (by omega)]; exact lo' b hb
      · obtain ⟨e1, e2⟩ := of' b hb ho
        obtain ⟨e3, e4⟩ := q4 b (by omega) e2
        exact ⟨by rw [e3, hget_appl (by omega)]; exact e1, e4⟩
    · clear f2 f5 f12 f13 f14 F
      rintro F h' ⟨v', f2, f5, f7, f12, f13, f14, f20, f21, f22, hl', lo', of', ac'⟩
      rw [List.take_of_length_le (Nat.le_refl _)] at ac'
      have hrow' : hget h' h.length = _ := (of' _ (by omega) hoff7).1.trans hrow1
      have hrl' := hget_some_lt hrow'
      have hs' : hget h' H.length = _ := (lo' _ (by omega)).trans hs1
      have oH : ∀ b, b < H.length → hget h' b = hget H b := fun b hb => by rw [lo' b (by omega), og b (by omega)]; exact old b hb
      have hT1 : ∀ k, 0 ≤ (sumT (accT R (es.take j)) (needsK R es[j]) (1, 0) k).1 ∧ (sumT (accT R (es.take j)) (needsK R es[j]) (1, 0) k).1 ≤ 300 ∧ 0 ≤ (sumT (accT R (es.take j)) (needsK R es[j]) (1, 0) k).2 ∧ (sumT (accT R (es.take j)) (needsK R es[j]) (1, 0) k).2 ≤ 300 := fun k => by
        have b1 := hTb k
        have b2 : (needsK R es[j]).count k ≤ 3 := Nat.le_trans List.count_le_length (by omega)
        unfold sumT
        simp only
        omega
      have hacc : accT R (es.take (j + 1)) = sumT (sumT (accT R (es.take j)) (needsK R es[j]) (1, 0)) (provK R es[j]) (0, 1) := by rw [htx, accT_snoc]; rfl
      rw [hacc]
      clear hacc of' lo' hrow1 hs1 ac1 hoff7 hoffA hA og
      generalize sumT (accT R (es.take j)) (needsK R es[j]) (1, 0) = T1 at *
      have ov := ac'.one
      have hsl' := hget_some_lt hs'
      simp (disch := first | omega | (simp only [fsLen]; omega)) only [↓fsPre, fsPost, fsGen, fsDefX, Nat.reduceAdd, Nat.reduceEqDiff, ↓reduceIte, f2, f7, f21, f22, hs', hrow']
      refine callT_D (rprovides_ok N _ R z0 z1 z2 z3 z4 z5 z6 z7 z8 z9 (s.mono oH) hR _ es[j] (xE.mono oH) hokj) rfl ?_
      rintro vb g2 ⟨l2, o2, gb⟩
      simp only at l2 o2 gb
      rw [tC_tk (prov_u huj R)] at gb
      change GrC g2 _ ((provK R es[j]).flatMap tkC) 4 vb at gb
      obtain ⟨A2, c2, rfl, hA2⟩ := tks_shape gb
      have hoffB : ∀ b, h'.length ≤ b → Off b v' := fun b hb => ac'.off hb
      have ac2 : AcSt (H.length + 1) g2 T1 (4 * j + (needsK R es[j]).length) v' := ac'.old o2
      simp (disch := first | omega | (simp only [fsLen]; omega)) only [↓fsPre, fsPost, fsDefs, ↓reduceIte]
      clear gb f20 f21 f22 f7
      refine wloop (fun i F h2 => ∃ v2, F 2 = .ptr (some (H.length, 0)) ∧ F 5 = v2 ∧ F 12 = .slice (some (bo, 0)) rows.length oc ∧ F 13 = .int .i64 rows.length ∧ F 14 = .int .i64 j ∧ F 32 = .slice A2 (provK R es[j]).length c2 ∧ F 33 = .int .i64 (provK R es[j]).length ∧ F 34 = .int .i64 i ∧ g2.length ≤ h2.length ∧ (∀ b, b < H.length + 1 → hget h2 b = hget g2 b) ∧ (∀ b, b < g2.length → Off b v' → hget h2 b = hget g2 b ∧ Off b v2) ∧ AcSt (H.length + 1) h2 (sumT T1 ((provK R es[j]).take i) (0, 1)) (4 * j + (needsK R es[j]).length + i) v2) (provK R es[j]).length ?_ ?_ ?_
      · refine ⟨v', ?_⟩
        simp (disch := first | omega | (simp only [fsLen]; omega)) only [↓fsPre, fsGen, Nat.reduceEqDiff, ↓reduceIte, f2, f5, f12, f13, f14]
        refine ⟨fun b hb ho => ho, ?_⟩
        rw [sumT_nil]; exact ac2
      · clear f2 f5 f12 f13 f14 F
        rintro i F h2 hi ⟨v2, f2, f5, f12, f13, f14, f32, f33, f34, hl2, lo2, of2, ac3⟩
        obtain ⟨b, rfl, hNb, hb⟩ := hA2 (by omega)
        have hbl1 := hget_lt hb
        have hbh : hget h2 b = _ := (of2 b hbl1 (hoffB b hNb)).1.trans hb
        have hbl := hget_some_lt hbh
        have hc : cut ((provK R es[j]).flatMap tkC) (i * 4) 4 = some (tkC (provK R es[j])[i]) := cut_flatMap tkC_length hi
        have htk : (provK R es[j]).take (i + 1) = (provK R es[j]).take i ++ [(provK R es[j])[i]] := by rw [List.take_add_one, List.getElem?_eq_getElem hi]; rfl
        have ov := ac3.one
        simp (disch := first | omega | (simp only [fsLen]; omega)) only [↓fsPre, fsPost, fsCond, fsGen, fsDefs, fsDefX, Nat.reduceAdd, Nat.reduceEqDiff, ↓reduceIte, f5, f32, f33, f34, hbh, hc, tkC_one, tkC_cut, tkC_length]
        refine callT_D (putc_ok _ (H.length + 1) v2 _ _ (provK R es[j])[i] 0 1 (ac3.old fun b hb => hget_appl hb) (by rw [List.length_append]; omega) (by omega) (by omega) (fun k => ?_)) rfl ?_
        · have b1 := hT1 k
          have b2 : ((provK R es[j]).take i).count k ≤ 3 := Nat.le_trans List.count_le_length (by rw [List.length_take]; omega)
          unfold sumT
          simp only
          omega
        rintro v3 h3 ⟨q1, q2, q3, q4⟩
        simp only [List.length_append, List.length_cons, List.length_nil] at q1 q2 q3 q4
        rw [← sumT_snoc, ← htk] at q1
        simp (disch := first | omega | (simp only [fsLen]; omega)) only [↓fsPre, fsPost, fsCond, fsGen, fsDefX, Nat.reduceEqDiff, ↓reduceIte, f2, f12, f13, f14, f32, f33, f34]
        refine ⟨v3, ?_⟩
        simp (disch := first | omega | (simp only [fsLen]; omega)) only [fsGen]
        have eN : 4 * j + ((needsK R es[j]).length + (i + 1)) = 4 * j + (needsK R es[j]).length + i + 1 := by omega
        refine ⟨by omega, fun b hb => ?_, fun b hb ho => ?_, by rw [eN]; exact q1⟩
        · rw [q3 b hb, hget_appl (by omega)]; exact lo2 b hb
        · obtain ⟨e1, e2⟩ := of2 b hb ho
          obtain ⟨e3, e4⟩ := q4 b (by omega) e2
          exact ⟨by rw [e3, hget_appl (by omega)]; exact e1, e4⟩
      · clear f2 f5 f12 f13 f14 F
        rintro F h2 ⟨v2, f2, f5, f12, f13, f14, f32, f33, f34, hl2, lo2, of2, ac3⟩
        rw [List.take_of_length_le (Nat.le_refl _)] at ac3
        simp (disch := first | omega | (simp only [fsLen]; omega)) only [↓fsPre, fsPost, fsCond, fsGen, fsDefX, Nat.reduceEqDiff, ↓reduceIte, f2, f5, f12, f13, f14, f33, f34]
        refine ⟨v2, ?_⟩
        simp (disch := first | omega | (simp only [fsLen]; omega)) only [fsGen]
        obtain ⟨L, a1, a2, a3, a4⟩ := ac3
        exact ⟨by omega, fun b hb => by rw [lo2 b (by omega), o2 b (by omega)]; exact oH b hb, by rw [lo2 _ (by omega), o2 _ (by omega)]; exact hs', L, a1, a2, by omega, a4⟩
  · rintro F h ⟨v, f2, f5, f12, f13, f14, hl, old, hs, ac⟩
    have ov := ac.one
    rw [List.take_of_length_le (by omega)] at ac
    simp (disch := first | omega | (simp only [fsLen]; omega)) only [↓fsPre, fsPost, fsGen, fsDefs, fsDefX, Nat.reduceEqDiff, ↓reduceIte, f5, f13, f14]
    obtain ⟨L, a1, a2, a3, a4⟩ := ac
    exact ⟨by show H.length ≤ h.length; omega, old, L, a1, a2, by omega, a4.low (by omega)⟩

theorem grc_shape6 {h : Heap} {N : Nat} {L : List (TK × (Int × Int))} {v : NV} (g : GrC h N (L.flatMap cnC) 6 v) : ∃ A c, v = .slice A L.length c ∧ ∀ j, j < L.length → ∃ b, A = some (b, 0) ∧ N ≤ b ∧ hget h b = some (.cells (L.flatMap cnC) false) := by
  obtain ⟨A, c, h1, h2, h3⟩ := (GrC.w g).shape (by omega) (length_flatMap_enc cnC_length L)
  exact ⟨A, c, h1, fun j hj => by obtain ⟨_, b, e1, e2, e3⟩ := h3 (by omega); exact ⟨b, e1, e2, e3⟩⟩
theorem AcSt.is {N n : Nat} {h : Heap} {T : TK → Int × Int} {v : NV} (x : AcSt N h T n v) {L : List (TK × (Int × Int))} (hs : SortedK ltK L) (r : RepT L T) : L.length ≤ n ∧ GrC h N (L.flatMap cnC) 6 v := by
  obtain ⟨L', h1, h2, h3, h4⟩ := x
  have e : L' = L := RepT.same h2 r h1 hs (List.Perm.refl _) (List.Perm.refl _)
  rw [e] at h3 h4
  exact ⟨h3, h4⟩
theorem dangB_prov {R : List Rf} (hR : R.length ≤ 10) {es : List En} {L : List (TK × (Int × Int))} (r : RepT L (accT R es)) {x : TK × (Int × Int)} (hx : x ∈ L) : dangB x = decide (x.2.2 = 0) := by
  obtain ⟨k, a, b⟩ := x
  have h1 := (r.mem k (a, b)).1 hx
  have h2 := accT_bound R hR es k
  rw [h1.1] at h2
  have h3 : ¬ (a = 0 ∧ b = 0) := fun e => h1.2 (by rw [e.1, e.2])
  unfold dangB
  rw [decide_eq_decide]
  simp only at h2 ⊢
  omega

set_option maxHeartbeats 2000000 in
theorem rdang_ok (N : Nat) (H : Heap) (R : List Rf) (z0 z1 z2 z3 z4 z5 z6 z7 z8 z9 : NV) (s : RfV H R z0 z1 z2 z3 z4 z5 z6 z7 z8 z9) (hR : R.length ≤ 10) (rows : List (List NV)) (es : List En) (oa : Option (Nat × Nat)) (oc : Cap) (x : RowsAt H N rows es oa) (hle : es.length ≤ 24)
    (hok : ∀ e ∈ es, ∀ r ∈ R, RfOK r e) (hu : ∀ e ∈ es, EnU e) (h3 : ∀ e, (needsL R e).length ≤ 3) (h1 : ∀ e, (provL R e).length ≤ 1) (L : List (TK × (Int × Int))) (hs : SortedK ltK L) (r : RepT L (accT R es)) :
    DCall Try.prog 26 [.agg [z0, z1, z2, z3, z4, z5, z6, z7, z8, z9], .slice oa rows.length oc] H (dangQ H (dangK L)) := by
  obtain ⟨p0, p1, p2, p3, p4, p5, p6, p8, p9⟩ := s.o
  have p7 : z7.one = true := by obtain ⟨b, c, _, _, rfl, _⟩ := s.r; rfl
  refine call_det E0 rfl mixed t26_ok (by kernel_rfl) (by rintro q ⟨h, _⟩; exact h) ?_
  simp only [t26]
  simp (disch := first | omega | (simp only [fsLen]; omega)) only [↓fsPre, fsPost, fsCond, fsGen, Nat.reduceAdd, Nat.reduceEqDiff, ↓reduceIte, p0, p1, p2, p3, p4, p5, p6, p7, p8, p9]
  have oK : ∀ b, b < H.length → hget (H ++ [some (NBlk.cells [z0, z1, z2, z3, z4, z5, z6, z7, z8, z9] false)]) b = hget H b := fun b hb => hget_appl hb
  refine callT_D (rall_ok N _ R z0 z1 z2 z3 z4 z5 z6 z7 z8 z9 (s.mono oK) hR rows es oa oc (x.keepC (keepC_old oK)) hle hok hu h3 h1) rfl ?_
  rintro v g1 ⟨l1, o1, ac⟩
  simp only [List.length_append, List.length_cons, List.length_nil] at l1 o1 ac
  obtain ⟨hL, g⟩ := ac.is hs r
  have og : ∀ b, b < H.length → hget g1 b = hget H b := fun b hb => by rw [o1 b (by omega), hget_appl hb]
  obtain ⟨A, c, rfl, hA⟩ := grc_shape6 g
  simp (disch := first | omega | (simp only [fsLen]; omega)) only [↓fsPre, fsPost, fsDefs, ↓reduceIte]
  clear ac g o1
  refine wloop (fun j F h => ∃ v, F 5 = v ∧ F 10 = .slice A L.length c ∧ F 11 = .int .i64 L.length ∧ F 12 = .int .i64 j ∧ g1.length ≤ h.length ∧ (∀ b, b < g1.length → hget h b = hget g1 b) ∧ GrC h g1.length ((dangK (L.take j)).flatMap tkC) 4 v) L.length ?_ ?_ ?_
  · refine ⟨.slice none 0 (.fix 0), ?_⟩
    simp (disch := first | omega | (simp only [fsLen]; omega)) only [↓fsPre, fsGen, Nat.reduceEqDiff, ↓reduceIte]
    exact GrC.nil
  · rintro j F h hj ⟨v, f5, f10, f11, f12, hl, old, hg⟩
    obtain ⟨b, rfl, hNb, hb⟩ := hA j hj
    have hbl1 := hget_lt hb
    have hbh : hget h b = _ := (old b hbl1).trans hb
    have hbl := hget_some_lt hbh
    have hc : cut (L.flatMap cnC) (j * 6) 6 = some (cnC L[j]) := cut_flatMap cnC_length hj
    have htk : L.take (j + 1) = L.take j ++ [L[j]] := by rw [List.take_add_one, List.getElem?_eq_getElem hj]; rfl
    have hdl := dangK_le (L.take j)
    rw [List.length_take] at hdl
    have hsn := dangK_snoc (L.take j) L[j]
    rw [← htk, dangB_prov hR r (List.getElem_mem hj)] at hsn
    have ov := hg.one
    by_cases g2 : L[j].2.2 = 0
    · rw [if_pos (by simp [g2])] at hsn
      simp (disch := first | omega | (simp only [fsLen]; omega)) only [↓fsPre, fsPost, fsCond, fsGen, fsDefs, fsDefX, Nat.reduceAdd, Nat.reduceEqDiff, ↓reduceIte, f5, f10, f11, f12, hbh, hc, cnC_one, cnC_length, cnC_p, cnC_k, g2, tkC_one, tkC_length]
      refine grc_app (N := g1.length) (new := tkC L[j].1) (m := 1) (hg.ext Ext.app) (by rw [List.length_append]; omega) (sliceCells_at (by simp (disch := first | omega | (simp only [fsLen]; omega)) only [fsPost, fsCond, fsGen] <;> rfl) rfl) rfl (by omega) (by omega) rfl (by rw [tks_length]; omega) (by omega) (by omega) ?_
      intro v' h'' g' hl'' ho''
      simp only [List.length_append, List.length_cons, List.length_nil] at hl''
      simp (disch := first | omega | (simp only [fsLen]; omega)) only [↓fsPre, fsPost, fsCond, fsGen, fsDefX, Nat.reduceEqDiff, ↓reduceIte, f10, f11, f12]
      refine ⟨v', ?_⟩
      simp (disch := first | omega | (simp only [fsLen]; omega)) only [fsGen]
      refine ⟨by omega, fun b hb' => ?_, ?_⟩
      · rw [ho'' _ (by omega), hget_appl (by omega)]; exact old b hb'
      · rw [hsn, List.flatMap_append, List.flatMap_cons, List.flatMap_nil, List.append_nil]; exact g'
    · rw [if_neg (by simp [g2]), List.append_nil] at hsn
      simp (disch := first | omega | (simp only [fsLen]; omega)) only [↓fsPre, fsPost, fsCond, fsGen, fsDefs, fsDefX, Nat.reduceAdd, Nat.reduceEqDiff, ↓reduceIte, f5, f10, f11, f12, hbh, hc, cnC_one, cnC_length, cnC_p, g2]
      rw [hsn]
      refine ⟨v, ?_⟩
      simp (disch := first | omega | (simp only [fsLen]; omega)) only [fsGen]
      exact ⟨by omega, fun b hb' => by rw [hget_appl (by omega)]; exact old b hb', hg.ext Ext.app⟩
  · rintro F h ⟨v, f5, f10, f11, f12, hl, old, hg⟩
    rw [List.take_of_length_le (Nat.le_refl _)] at hg
    have ov := hg.one
    simp (disch := first | omega | (simp only [fsLen]; omega)) only [↓fsPre, fsPost, fsGen, fsDefs, fsDefX, Nat.reduceEqDiff, ↓reduceIte, f5, f11, f12]
    exact ⟨by show H.length ≤ h.length; omega, fun b hb => by rw [old b (by omega)]; exact og b hb, hg.low (by omega)⟩
end Go.Proofs
