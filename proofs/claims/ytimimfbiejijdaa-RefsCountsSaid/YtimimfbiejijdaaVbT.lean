/- Sorted lists of pairs by any order; tallies. -/
import Derived.Test.YtimimfbiejijdaaFsM
set_option linter.unusedVariables false
set_option linter.unusedSimpArgs false
set_option linter.unusedSectionVars false
namespace Go.Ns

/-- A strict order on keys. -/
structure SOrd {κ : Type} (lt : κ → κ → Prop) : Prop where
  irr : ∀ a, ¬ lt a a
  tr : ∀ a b c, lt a b → lt b c → lt a c
  tri : ∀ a b, a ≠ b → lt a b ∨ lt b a

section
variable {κ ν : Type} [DecidableEq κ] {lt : κ → κ → Prop} [DecidableRel lt]

def SortedK (lt : κ → κ → Prop) (l : List (κ × ν)) : Prop := l.Pairwise fun x y => lt x.1 y.1
theorem SortedK.eq (o : SOrd lt) : ∀ {l m : List (κ × ν)}, SortedK lt l → SortedK lt m → l.Perm m → l = m
  | [], m, _, _, h => by
    have := h.length_eq
    cases m with
    | nil => rfl
    | cons a m => simp at this
  | a :: l, [], _, _, h => by
    have := h.length_eq
    simp at this
  | a :: l, b :: m, hl, hm, h => by
    unfold SortedK at hl hm
    rw [List.pairwise_cons] at hl hm
    have hab : a = b := by
      have h1 : a ∈ b :: m := h.mem_iff.1 (List.mem_cons_self ..)
      have h2 : b ∈ a :: l := h.mem_iff.2 (List.mem_cons_self ..)
      rcases List.mem_cons.1 h1 with h1 | h1
      · exact h1
      · rcases List.mem_cons.1 h2 with h2 | h2
        · exact h2.symm
        · exact absurd (o.tr _ _ _ (hm.1 a h1) (hl.1 b h2)) (o.irr _)
    subst hab
    rw [SortedK.eq o hl.2 hm.2 (List.Perm.cons_inv h)]
theorem SortedK.nodup (o : SOrd lt) {l : List (κ × ν)} (h : SortedK lt l) : (l.map (·.1)).Nodup := by
  unfold List.Nodup
  rw [List.pairwise_map]
  exact h.imp fun h e => by rw [e] at h; exact o.irr _ h
def placeK (lt : κ → κ → Prop) [DecidableRel lt] : List (κ × ν) → κ → Nat
  | [], _ => 0
  | x :: l, p => if lt x.1 p then placeK lt l p + 1 else 0
theorem placeK_le : ∀ (l : List (κ × ν)) (p : κ), placeK lt l p ≤ l.length
  | [], _ => Nat.le_refl _
  | x :: l, p => by
    unfold placeK
    split
    · have := placeK_le l p; simp; omega
    · exact Nat.zero_le _
theorem placeK_lt : ∀ (l : List (κ × ν)) (p : κ) (i : Nat) (hi : i < l.length), i < placeK lt l p → lt l[i].1 p
  | [], _, i, hi, _ => by simp at hi
  | x :: l, p, i, hi, h => by
    unfold placeK at h
    split at h
    · rename_i hx
      cases i with
      | zero => exact hx
      | succ i => exact placeK_lt l p i (by simpa using hi) (by omega)
    · omega
theorem placeK_at : ∀ (l : List (κ × ν)) (p : κ) (h : placeK lt l p < l.length), ¬ lt l[placeK lt l p].1 p
  | [], _, h => by simp [placeK] at h
  | x :: l, p, h => by
    by_cases hx : lt x.1 p
    · have e : placeK lt (x :: l) p = placeK lt l p + 1 := by simp [placeK, hx]
      have h' : placeK lt l p < l.length := by rw [e] at h; simpa using h
      have := placeK_at l p h'
      simp only [e, List.getElem_cons_succ]
      exact this
    · have e : placeK lt (x :: l) p = 0 := by simp [placeK, hx]
      simp only [e, List.getElem_cons_zero]
      exact hx
theorem SortedK.mem_at (o : SOrd lt) {l : List (κ × ν)} (hs : SortedK lt l) {x : κ × ν} (hx : x ∈ l) : l[placeK lt l x.1]? = some x := by
  obtain ⟨i, hi, rfl⟩ := List.getElem_of_mem hx
  have hs' := List.pairwise_iff_getElem.1 hs
  have h1 : placeK lt l l[i].1 ≤ i := by
    rcases Nat.lt_or_ge i (placeK lt l l[i].1) with h | h
    · exact absurd (placeK_lt l l[i].1 i hi h) (o.irr _)
    · exact h
  rcases Nat.lt_or_ge (placeK lt l l[i].1) i with h | h
  · exact absurd (hs' (placeK lt l l[i].1) i (by omega) hi h) (placeK_at l l[i].1 (by omega))
  · have : placeK lt l l[i].1 = i := by omega
    rw [this, List.getElem?_eq_getElem hi]
def insK (lt : κ → κ → Prop) [DecidableRel lt] (l : List (κ × ν)) (p : κ) (i : ν) : List (κ × ν) := l.take (placeK lt l p) ++ ((p, i) :: l.drop (placeK lt l p))
theorem insK_perm (l : List (κ × ν)) (p : κ) (i : ν) : (insK lt l p i).Perm ((p, i) :: l) := by
  unfold insK
  have := List.perm_middle (a := (p, i)) (l₁ := l.take (placeK lt l p)) (l₂ := l.drop (placeK lt l p))
  rw [List.take_append_drop] at this
  exact this
theorem SortedK.ins (o : SOrd lt) {l : List (κ × ν)} (hs : SortedK lt l) {p : κ} (i : ν) (hp : p ∉ l.map (·.1)) : SortedK lt (insK lt l p i) := by
  unfold insK SortedK
  have hd := List.pairwise_append.1 (show SortedK lt (l.take (placeK lt l p) ++ l.drop (placeK lt l p)) by rw [List.take_append_drop]; exact hs)
  rw [List.pairwise_append, List.pairwise_cons]
  have hlow : ∀ x ∈ l.take (placeK lt l p), lt x.1 p := by
    intro x hx
    obtain ⟨j, hj, rfl⟩ := List.getElem_of_mem hx
    rw [List.length_take] at hj
    rw [List.getElem_take]
    exact placeK_lt l p j (by omega) (by omega)
  have hhigh : ∀ x ∈ l.drop (placeK lt l p), lt p x.1 := by
    intro x hx
    obtain ⟨j, hj, rfl⟩ := List.getElem_of_mem hx
    rw [List.length_drop] at hj
    rw [List.getElem_drop]
    have h0 : placeK lt l p < l.length := by omega
    have h1 := placeK_at l p h0
    have hne : ∀ i (hi : i < l.length), l[i].1 ≠ p := fun i hi e => hp (by rw [← e]; exact List.mem_map_of_mem (List.getElem_mem _))
    have hp0 : lt p l[placeK lt l p].1 := by
      rcases o.tri _ _ (hne _ h0) with h | h
      · exact absurd h h1
      · exact h
    rcases Nat.eq_zero_or_pos j with h | h
    · subst h; exact hp0
    · exact o.tr _ _ _ hp0 (List.pairwise_iff_getElem.1 hs _ _ h0 (by omega) (by omega))
  refine ⟨hd.1, ⟨hhigh, hd.2.1⟩, fun x hx y hy => ?_⟩
  rcases List.mem_cons.1 hy with rfl | hy
  · exact hlow x hx
  · exact o.tr _ _ _ (hlow x hx) (hhigh y hy)
theorem sortedK_ex (o : SOrd lt) : ∀ (M : List (κ × ν)), (M.map (·.1)).Nodup → ∃ L, SortedK lt L ∧ L.Perm M
  | [], _ => ⟨[], List.Pairwise.nil, List.Perm.refl _⟩
  | x :: M, h => by
    simp only [List.map_cons, List.nodup_cons] at h
    obtain ⟨L, h1, h2⟩ := sortedK_ex o M h.2
    refine ⟨insK lt L x.1 x.2, h1.ins o x.2 ?_, (insK_perm L x.1 x.2).trans (h2.cons x)⟩
    intro hx
    exact h.1 ((h2.map _).mem_iff.1 hx)

/-! ### Tallies -/
theorem keyU {M : List (κ × ν)} (hn : (M.map (·.1)).Nodup) {k : κ} {a b : ν} (ha : (k, a) ∈ M) (hb : (k, b) ∈ M) : a = b := by
  induction M with
  | nil => cases ha
  | cons x M ih =>
    simp only [List.map_cons, List.nodup_cons] at hn
    rcases List.mem_cons.1 ha with rfl | ha'
    · rcases List.mem_cons.1 hb with h | hb'
      · exact (Prod.mk.inj h).2.symm
      · exact absurd (List.mem_map_of_mem hb') hn.1
    · rcases List.mem_cons.1 hb with rfl | hb'
      · exact absurd (List.mem_map_of_mem ha') hn.1
      · exact ih hn.2 ha' hb'
theorem keyI : ∀ {M : List (κ × ν)} (hn : (M.map (·.1)).Nodup) {i j : Nat} (hi : i < M.length) (hj : j < M.length), M[i].1 = M[j].1 → i = j
  | [], _, i, _, hi, _, _ => by simp at hi
  | x :: M, hn, i, j, hi, hj, e => by
    simp only [List.map_cons, List.nodup_cons] at hn
    cases i with
    | zero =>
      cases j with
      | zero => rfl
      | succ j =>
        simp only [List.getElem_cons_zero, List.getElem_cons_succ] at e
        exact absurd (by rw [e]; exact List.mem_map_of_mem (List.getElem_mem _)) hn.1
    | succ i =>
      cases j with
      | zero =>
        simp only [List.getElem_cons_zero, List.getElem_cons_succ] at e
        exact absurd (by rw [← e]; exact List.mem_map_of_mem (List.getElem_mem _)) hn.1
      | succ j =>
        simp only [List.getElem_cons_succ] at e
        rw [keyI hn.2 (by simpa using hi) (by simpa using hj) e]
theorem mem_find {M : List (κ × ν)} (hn : (M.map (·.1)).Nodup) {k : κ} {v : ν} : (k, v) ∈ M ↔ (findL M k 0).map (·.2) = some v := by
  cases hf : findL M k 0 with
  | none =>
    have := findL_none.1 hf
    simp only [Option.map_none, reduceCtorEq, iff_false]
    exact fun h => this (List.mem_map_of_mem h)
  | some w =>
    obtain ⟨i, u⟩ := w
    obtain ⟨_, hi, hM⟩ := findL_some hf
    have hm : (k, u) ∈ M := by rw [← hM]; exact List.getElem_mem _
    simp only [Option.map_some, Option.some.injEq]
    constructor
    · intro h
      exact keyU hn hm h
    · rintro rfl; exact hm
theorem putL_keys {M : List (κ × ν)} {k : κ} {v : ν} : (putL M k v).map (·.1) = if k ∈ M.map (·.1) then M.map (·.1) else M.map (·.1) ++ [k] := by
  unfold putL
  cases hf : findL M k 0 with
  | none => rw [if_neg (findL_none.1 hf)]; simp
  | some w =>
    obtain ⟨i, u⟩ := w
    obtain ⟨_, hi, hM⟩ := findL_some hf
    simp only [Nat.sub_zero] at hi hM
    have hm : k ∈ M.map (·.1) := by rw [← (show (k, u).1 = k from rfl), ← hM]; exact List.mem_map_of_mem (List.getElem_mem _)
    rw [if_pos hm]
    simp only [List.map_set]
    apply List.ext_getElem?
    intro j
    rw [List.getElem?_set, List.length_map]
    by_cases hj : i = j
    · subst hj
      rw [if_pos rfl, if_pos hi, List.getElem?_map, List.getElem?_eq_getElem hi, hM]; rfl
    · rw [if_neg hj]
theorem putL_nodup {M : List (κ × ν)} (hn : (M.map (·.1)).Nodup) {k : κ} {v : ν} : ((putL M k v).map (·.1)).Nodup := by
  rw [putL_keys]
  split
  · exact hn
  · rename_i h
    rw [List.nodup_append]
    refine ⟨hn, by simp, fun a ha b hb e => h ?_⟩
    simp only [List.mem_singleton] at hb
    subst hb e
    exact ha
theorem putL_mem {M : List (κ × ν)} (hn : (M.map (·.1)).Nodup) {k k' : κ} {v v' : ν} : (k', v') ∈ putL M k v ↔ if k' = k then v' = v else (k', v') ∈ M := by
  unfold putL
  cases hf : findL M k 0 with
  | none =>
    have h0 := findL_none.1 hf
    simp only [List.mem_append, List.mem_singleton, Prod.mk.injEq]
    by_cases hk : k' = k
    · subst hk
      rw [if_pos rfl]
      exact ⟨fun h => h.elim (fun h => absurd (List.mem_map_of_mem h) h0) (·.2), fun h => .inr ⟨rfl, h⟩⟩
    · rw [if_neg hk]
      exact ⟨fun h => h.elim id fun h => absurd h.1 hk, .inl⟩
  | some w =>
    obtain ⟨i, u⟩ := w
    obtain ⟨_, hi, hM⟩ := findL_some hf
    simp only [Nat.sub_zero] at hi hM
    constructor
    · intro h
      rw [List.mem_iff_getElem?] at h
      obtain ⟨j, hj⟩ := h
      rw [List.getElem?_set] at hj
      by_cases hij : i = j
      · subst hij
        rw [if_pos rfl, if_pos hi] at hj
        cases hj
        rw [if_pos rfl]
      · rw [if_neg hij] at hj
        have hm := List.mem_of_getElem? hj
        by_cases hk : k' = k
        · subst hk
          exfalso
          have hjl : j < M.length := (List.getElem?_eq_some_iff.1 hj).1
          exact hij (keyI hn hi hjl (by rw [hM, (List.getElem?_eq_some_iff.1 hj).2]))
        · rw [if_neg hk]; exact hm
    · intro h
      by_cases hk : k' = k
      · subst hk
        rw [if_pos rfl] at h
        subst h
        rw [List.mem_iff_getElem?]
        exact ⟨i, by rw [List.getElem?_set, if_pos rfl, if_pos hi]⟩
      · rw [if_neg hk] at h
        obtain ⟨j, hj⟩ := List.mem_iff_getElem?.1 h
        rw [List.mem_iff_getElem?]
        refine ⟨j, ?_⟩
        rw [List.getElem?_set]
        by_cases hij : i = j
        · subst hij
          rw [List.getElem?_eq_getElem hi, hM] at hj
          cases hj
          exact absurd rfl hk
        · rw [if_neg hij]; exact hj
theorem delL_mem {M : List (κ × ν)} (hn : (M.map (·.1)).Nodup) {k k' : κ} {v' : ν} : (k', v') ∈ delL M k ↔ k' ≠ k ∧ (k', v') ∈ M := by
  unfold delL
  cases hf : findL M k 0 with
  | none =>
    have h0 := findL_none.1 hf
    exact ⟨fun h => ⟨fun e => h0 (by subst e; exact List.mem_map_of_mem h), h⟩, (·.2)⟩
  | some w =>
    obtain ⟨i, u⟩ := w
    obtain ⟨_, hi, hM⟩ := findL_some hf
    simp only [Nat.sub_zero] at hi hM
    have hp := erase_perm hi
    rw [hM] at hp
    have hn2 := ((hp.map (·.1)).nodup_iff.2 hn)
    simp only [List.map_cons, List.nodup_cons] at hn2
    rw [← hp.mem_iff (a := (k', v'))]
    simp only [List.mem_cons, Prod.mk.injEq]
    constructor
    · intro h
      exact ⟨fun e => hn2.1 (by subst e; exact List.mem_map_of_mem h), .inr h⟩
    · rintro ⟨h1, h2 | h2⟩
      · exact absurd h2.1 h1
      · exact h2
theorem delL_nodup {M : List (κ × ν)} (hn : (M.map (·.1)).Nodup) {k : κ} : ((delL M k).map (·.1)).Nodup := by
  unfold delL
  split
  · rw [map_eraseIdx']; exact hn.sublist (List.eraseIdx_sublist _ _)
  · exact hn

/-- A list of pairs holds the tallies that are not zero. -/
structure RepT (M : List (κ × (Int × Int))) (T : κ → Int × Int) : Prop where
  nd : (M.map (·.1)).Nodup
  mem : ∀ k v, (k, v) ∈ M ↔ T k = v ∧ v ≠ (0, 0)
def addT (T : κ → Int × Int) (k : κ) (d : Int × Int) : κ → Int × Int := fun k' => if k' = k then ((T k).1 + d.1, (T k).2 + d.2) else T k'
def lookT (M : List (κ × (Int × Int))) (k : κ) : Int × Int := ((findL M k 0).map (·.2)).getD (0, 0)
theorem RepT.look {M : List (κ × (Int × Int))} {T : κ → Int × Int} (r : RepT M T) (k : κ) : lookT M k = T k := by
  unfold lookT
  cases hf : (findL M k 0).map (·.2) with
  | none =>
    have hz : T k = (0, 0) := by
      by_cases h : T k = (0, 0)
      · exact h
      · have := (mem_find r.nd).1 ((r.mem k (T k)).2 ⟨rfl, h⟩)
        rw [hf] at this
        cases this
    rw [hz]; rfl
  | some v =>
    have := (r.mem k v).1 ((mem_find r.nd).2 hf)
    exact this.1.symm
theorem RepT.nil {T : κ → Int × Int} (h : ∀ k, T k = (0, 0)) : RepT [] T := ⟨List.nodup_nil, fun k v => by
  constructor
  · intro h; cases h
  · rintro ⟨rfl, h2⟩; exact absurd (h k) h2⟩
theorem RepT.put {M : List (κ × (Int × Int))} {T : κ → Int × Int} (r : RepT M T) (k : κ) (d : Int × Int) (h : ((T k).1 + d.1, (T k).2 + d.2) ≠ (0, 0)) : RepT (putL M k ((T k).1 + d.1, (T k).2 + d.2)) (addT T k d) :=
  ⟨putL_nodup r.nd, fun k' v' => by
    rw [putL_mem r.nd]
    unfold addT
    by_cases hk : k' = k
    · rw [if_pos hk, if_pos hk]
      constructor
      · rintro rfl; exact ⟨rfl, h⟩
      · rintro ⟨h1, _⟩; exact h1.symm
    · rw [if_neg hk, if_neg hk]; exact r.mem k' v'⟩
theorem RepT.del {M : List (κ × (Int × Int))} {T : κ → Int × Int} (r : RepT M T) (k : κ) (d : Int × Int) (h : ((T k).1 + d.1, (T k).2 + d.2) = (0, 0)) : RepT (delL M k) (addT T k d) :=
  ⟨delL_nodup r.nd, fun k' v' => by
    rw [delL_mem r.nd]
    unfold addT
    by_cases hk : k' = k
    · rw [if_pos hk, h]
      constructor
      · rintro ⟨h1, _⟩; exact absurd hk h1
      · rintro ⟨h1, h2⟩; exact absurd h1.symm h2
    · rw [if_neg hk, r.mem k' v']
      exact ⟨fun h => h.2, fun h => ⟨hk, h⟩⟩⟩
theorem RepT.perm {M : List (κ × (Int × Int))} {L : List (κ × (Int × Int))} {T : κ → Int × Int} (r : RepT M T) (p : L.Perm M) : RepT L T := ⟨(p.map _).nodup_iff.2 r.nd, fun k v => by rw [p.mem_iff]; exact r.mem k v⟩
end
end Go.Ns
