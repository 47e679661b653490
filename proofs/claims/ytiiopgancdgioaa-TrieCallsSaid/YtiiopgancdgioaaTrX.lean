/- VbS, TrA, TrB, TrC in one text. -/
import Derived.Test.YtiiopgancdgioaaFsI
set_option linter.unusedVariables false
set_option linter.unusedSimpArgs false
set_option linter.unusedSectionVars false
namespace Go.Ns

/-- A strict order on keys. -/
structure SOrd {κ : Type} (lt : κ → κ → Prop) : Prop where
  irr : ∀ a, ¬ lt a a
  tr : ∀ a b c, lt a b → lt b c → lt a c
  tri : ∀ a b, a ≠ b → lt a b ∨ lt b a

section
variable {κ ν : Type} [DecidableEq κ] {lt : κ → κ → Prop} [DecidableRel lt]

def SortedK (lt : κ → κ → Prop) (l : List (κ × ν)) : Prop := l.Pairwise fun x y => lt x.1 y.1
theorem SortedK.eq (o : SOrd lt) : ∀ {l m : List (κ × ν)}, SortedK lt l → SortedK lt m → l.Perm m → l = m
  | [], m, _, _, h => by
    have := h.length_eq
    cases m with
    | nil => rfl
    | cons a m => simp at this
  | a :: l, [], _, _, h => by
    have := h.length_eq
    simp at this
  | a :: l, b :: m, hl, hm, h => by
    unfold SortedK at hl hm
    rw [List.pairwise_cons] at hl hm
    have hab : a = b := by
      have h1 : a ∈ b :: m := h.mem_iff.1 (List.mem_cons_self ..)
      have h2 : b ∈ a :: l := h.mem_iff.2 (List.mem_cons_self ..)
      rcases List.mem_cons.1 h1 with h1 | h1
      · exact h1
      · rcases List.mem_cons.1 h2 with h2 | h2
        · exact h2.symm
        · exact absurd (o.tr _ _ _ (hm.1 a h1) (hl.1 b h2)) (o.irr _)
    subst hab
    rw [SortedK.eq o hl.2 hm.2 (List.Perm.cons_inv h)]
theorem SortedK.nodup (o : SOrd lt) {l : List (κ × ν)} (h : SortedK lt l) : (l.map (·.1)).Nodup := by
  unfold List.Nodup
  rw [List.pairwise_map]
  exact h.imp fun h e => by rw [e] at h; exact o.irr _ h
def placeK (lt : κ → κ → Prop) [DecidableRel lt] : List (κ × ν) → κ → Nat
  | [], _ => 0
  | x :: l, p => if lt x.1 p then placeK lt l p + 1 else 0
theorem placeK_le : ∀ (l : List (κ × ν)) (p : κ), placeK lt l p ≤ l.length
  | [], _ => Nat.le_refl _
  | x :: l, p => by
    unfold placeK
    split
    · have := placeK_le l p; simp; omega
    · exact Nat.zero_le _
theorem placeK_lt : ∀ (l : List (κ × ν)) (p : κ) (i : Nat) (hi : i < l.length), i < placeK lt l p → lt l[i].1 p
  | [], _, i, hi, _ => by simp at hi
  | x :: l, p, i, hi, h => by
    unfold placeK at h
    split at h
    · rename_i hx
      cases i with
      | zero => exact hx
      | succ i => exact placeK_lt l p i (by simpa using hi) (by omega)
    · omega
theorem placeK_at : ∀ (l : List (κ × ν)) (p : κ) (h : placeK lt l p < l.length), ¬ lt l[placeK lt l p].1 p
  | [], _, h => by simp [placeK] at h
  | x :: l, p, h => by
    by_cases hx : lt x.1 p
    · have e : placeK lt (x :: l) p = placeK lt l p + 1 := by simp [placeK, hx]
      have h' : placeK lt l p < l.length := by rw [e] at h; simpa using h
      have := placeK_at l p h'
      simp only [e, List.getElem_cons_succ]
      exact this
    · have e : placeK lt (x :: l) p = 0 := by simp [placeK, hx]
      simp only [e, List.getElem_cons_zero]
      exact hx
theorem SortedK.mem_at (o : SOrd lt) {l : List (κ × ν)} (hs : SortedK lt l) {x : κ × ν} (hx : x ∈ l) : l[placeK lt l x.1]? = some x := by
  obtain ⟨i, hi, rfl⟩ := List.getElem_of_mem hx
  have hs' := List.pairwise_iff_getElem.1 hs
  have h1 : placeK lt l l[i].1 ≤ i := by
    rcases Nat.lt_or_ge i (placeK lt l l[i].1) with h | h
    · exact absurd (placeK_lt l l[i].1 i hi h) (o.irr _)
    · exact h
  rcases Nat.lt_or_ge (placeK lt l l[i].1) i with h | h
  · exact absurd (hs' (placeK lt l l[i].1) i (by omega) hi h) (placeK_at l l[i].1 (by omega))
  · have : placeK lt l l[i].1 = i := by omega
    rw [this, List.getElem?_eq_getElem hi]
def insK (lt : κ → κ → Prop) [DecidableRel lt] (l : List (κ × ν)) (p : κ) (i : ν) : List (κ × ν) := l.take (placeK lt l p) ++ ((p, i) :: l.drop (placeK lt l p))
theorem insK_perm (l : List (κ × ν)) (p : κ) (i : ν) : (insK lt l p i).Perm ((p, i) :: l) := by
  unfold insK
  have := List.perm_middle (a := (p, i)) (l₁ := l.take (placeK lt l p)) (l₂ := l.drop (placeK lt l p))
  rw [List.take_append_drop] at this
  exact this
theorem SortedK.ins (o : SOrd lt) {l : List (κ × ν)} (hs : SortedK lt l) {p : κ} (i : ν) (hp : p ∉ l.map (·.1)) : SortedK lt (insK lt l p i) := by
  unfold insK SortedK
  have hd := List.pairwise_append.1 (show SortedK lt (l.take (placeK lt l p) ++ l.drop (placeK lt l p)) by rw [List.take_append_drop]; exact hs)
  rw [List.pairwise_append, List.pairwise_cons]
  have hlow : ∀ x ∈ l.take (placeK lt l p), lt x.1 p := by
    intro x hx
    obtain ⟨j, hj, rfl⟩ := List.getElem_of_mem hx
    rw [List.length_take] at hj
    rw [List.getElem_take]
    exact placeK_lt l p j (by omega) (by omega)
  have hhigh : ∀ x ∈ l.drop (placeK lt l p), lt p x.1 := by
    intro x hx
    obtain ⟨j, hj, rfl⟩ := List.getElem_of_mem hx
    rw [List.length_drop] at hj
    rw [List.getElem_drop]
    have h0 : placeK lt l p < l.length := by omega
    have h1 := placeK_at l p h0
    have hne : ∀ i (hi : i < l.length), l[i].1 ≠ p := fun i hi e => hp (by rw [← e]; exact List.mem_map_of_mem (List.getElem_mem _))
    have hp0 : lt p l[placeK lt l p].1 := by
      rcases o.tri _ _ (hne _ h0) with h | h
      · exact absurd h h1
      · exact h
    rcases Nat.eq_zero_or_pos j with h | h
    · subst h; exact hp0
    · exact o.tr _ _ _ hp0 (List.pairwise_iff_getElem.1 hs _ _ h0 (by omega) (by omega))
  refine ⟨hd.1, ⟨hhigh, hd.2.1⟩, fun x hx y hy => ?_⟩
  rcases List.mem_cons.1 hy with rfl | hy
  · exact hlow x hx
  · exact o.tr _ _ _ (hlow x hx) (hhigh y hy)
theorem sortedK_ex (o : SOrd lt) : ∀ (M : List (κ × ν)), (M.map (·.1)).Nodup → ∃ L, SortedK lt L ∧ L.Perm M
  | [], _ => ⟨[], List.Pairwise.nil, List.Perm.refl _⟩
  | x :: M, h => by
    simp only [List.map_cons, List.nodup_cons] at h
    obtain ⟨L, h1, h2⟩ := sortedK_ex o M h.2
    refine ⟨insK lt L x.1 x.2, h1.ins o x.2 ?_, (insK_perm L x.1 x.2).trans (h2.cons x)⟩
    intro hx
    exact h.1 ((h2.map _).mem_iff.1 hx)

/-! ### Tallies -/
theorem keyU {M : List (κ × ν)} (hn : (M.map (·.1)).Nodup) {k : κ} {a b : ν} (ha : (k, a) ∈ M) (hb : (k, b) ∈ M) : a = b := by
  induction M with
  | nil => cases ha
  | cons x M ih =>
    simp only [List.map_cons, List.nodup_cons] at hn
    rcases List.mem_cons.1 ha with rfl | ha'
    · rcases List.mem_cons.1 hb with h | hb'
      · exact (Prod.mk.inj h).2.symm
      · exact absurd (List.mem_map_of_mem hb') hn.1
    · rcases List.mem_cons.1 hb with rfl | hb'
      · exact absurd (List.mem_map_of_mem ha') hn.1
      · exact ih hn.2 ha' hb'
theorem keyI : ∀ {M : List (κ × ν)} (hn : (M.map (·.1)).Nodup) {i j : Nat} (hi : i < M.length) (hj : j < M.length), M[i].1 = M[j].1 → i = j
  | [], _, i, _, hi, _, _ => by simp at hi
  | x :: M, hn, i, j, hi, hj, e => by
    simp only [List.map_cons, List.nodup_cons] at hn
    cases i with
    | zero =>
      cases j with
      | zero => rfl
      | succ j =>
        simp only [List.getElem_cons_zero, List.getElem_cons_succ] at e
        exact absurd (by rw [e]; exact List.mem_map_of_mem (List.getElem_mem _)) hn.1
    | succ i =>
      cases j with
      | zero =>
        simp only [List.getElem_cons_zero, List.getElem_cons_succ] at e
        exact absurd (by rw [← e]; exact List.mem_map_of_mem (List.getElem_mem _)) hn.1
      | succ j =>
        simp only [List.getElem_cons_succ] at e
        rw [keyI hn.2 (by simpa using hi) (by simpa using hj) e]
end

inductive T where
  | nil
  | node (u : Bool) (i : Int) (l r : T)

def T.get : T → List Bool → Option Int
  | .nil, _ => none
  | .node u i _ _, [] => if u then some i else none
  | .node _ _ l r, x :: p => if x then r.get p else l.get p
def T.find : T → List Bool → T
  | t, [] => t
  | .nil, _ :: _ => .nil
  | .node _ _ l r, x :: p => if x then r.find p else l.find p
def T.sub : T → List Bool → T → T
  | _, [], s => s
  | .nil, _ :: _, _ => .nil
  | .node u i l r, x :: p, s => if x then .node u i l (r.sub p s) else .node u i (l.sub p s) r
/-- The nodes of a path, made where they lack. -/
def T.ext : T → List Bool → T
  | .nil, [] => .node false 0 .nil .nil
  | .node u i l r, [] => .node u i l r
  | .nil, x :: p => if x then .node false 0 .nil (T.ext .nil p) else .node false 0 (T.ext .nil p) .nil
  | .node u i l r, x :: p => if x then .node u i l (r.ext p) else .node u i (l.ext p) r
def T.mark : T → Int → T
  | .nil, _ => .nil
  | .node _ _ l r, i => .node true i l r
def T.put : T → List Bool → Int → T
  | .nil, [], i => .node true i .nil .nil
  | .node _ _ l r, [], i => .node true i l r
  | .nil, x :: p, i => if x then .node false 0 .nil (T.put .nil p i) else .node false 0 (T.put .nil p i) .nil
  | .node u j l r, x :: p, i => if x then .node u j l (r.put p i) else .node u j (l.put p i) r
def T.empty : T → Bool
  | .node false _ .nil .nil => true
  | _ => false
def T.clean (t : T) : T := if t.empty then .nil else t
def T.rem : T → List Bool → T
  | .nil, _ => .nil
  | .node _ _ l r, [] => (T.node false 0 l r).clean
  | .node u i l r, x :: p => if x then (T.node u i l (r.rem p)).clean else (T.node u i (l.rem p) r).clean
def T.wf : T → Prop
  | .nil => True
  | .node u i l r => (u = false → i = 0) ∧ (T.node u i l r).empty = false ∧ l.wf ∧ r.wf
def T.paths : T → List (List Bool)
  | .nil => []
  | .node _ _ l r => [] :: (l.paths.map (false :: ·) ++ r.paths.map (true :: ·))
def T.nodes : T → Nat
  | .nil => 0
  | .node _ _ l r => l.nodes + r.nodes + 1
def T.long : T → List Bool → Nat → Nat × Int × Bool → Nat × Int × Bool
  | .nil, _, _, a => a
  | .node u i _ _, [], d, a => if u then (d, i, true) else a
  | .node u i l r, x :: p, d, a => (if x then r else l).long p (d + 1) (if u then (d, i, true) else a)

theorem T.get_nil (p : List Bool) : T.get .nil p = none := by cases p <;> rfl
theorem T.find_nil (p : List Bool) : T.find .nil p = .nil := by cases p <;> rfl
theorem T.find_empty (t : T) : t.find [] = t := by cases t <;> rfl
theorem T.put_eq (i : Int) : ∀ (p : List Bool) (t : T), (t.ext p).sub p (((t.ext p).find p).mark i) = t.put p i
  | [], .nil => rfl
  | [], .node _ _ _ _ => rfl
  | x :: p, .nil => by
    cases x
    · simp only [T.ext, T.find, T.sub, T.put, if_false, Bool.false_eq_true]; rw [T.put_eq i p]
    · simp only [T.ext, T.find, T.sub, T.put, if_true]; rw [T.put_eq i p]
  | x :: p, .node u j l r => by
    cases x
    · simp only [T.ext, T.find, T.sub, T.put, if_false, Bool.false_eq_true]; rw [T.put_eq i p]
    · simp only [T.ext, T.find, T.sub, T.put, if_true]; rw [T.put_eq i p]
theorem T.get_put (i : Int) : ∀ (p : List Bool) (t : T) (q : List Bool), (t.put p i).get q = if q = p then some i else t.get q
  | [], .nil, q => by cases q <;> simp [T.put, T.get, T.get_nil]
  | [], .node _ _ _ _, q => by cases q <;> simp [T.put, T.get]
  | x :: p, .nil, q => by
    cases q with
    | nil => cases x <;> simp [T.put, T.get]
    | cons y q =>
      have := T.get_put i p .nil q
      cases x <;> cases y <;> simp [T.put, T.get, T.get_nil, this]
  | x :: p, .node u j l r, q => by
    cases q with
    | nil => cases x <;> simp [T.put, T.get]
    | cons y q =>
      have h1 := T.get_put i p l q
      have h2 := T.get_put i p r q
      cases x <;> cases y <;> simp [T.put, T.get, h1, h2]
theorem T.get_clean (t : T) (q : List Bool) : t.clean.get q = t.get q := by
  unfold T.clean
  split
  · rename_i h
    cases t with
    | nil => rfl
    | node u i l r =>
      cases u <;> cases l <;> cases r <;> simp [T.empty] at h
      cases q with
      | nil => rfl
      | cons x q => cases x <;> simp [T.get, T.get_nil]
  · rfl
theorem T.get_rem : ∀ (p : List Bool) (t : T) (q : List Bool), (t.rem p).get q = if q = p then none else t.get q
  | p, .nil, q => by cases p <;> simp [T.rem, T.get_nil]
  | [], .node u i l r, q => by
    simp only [T.rem, T.get_clean]
    cases q <;> simp [T.get]
  | x :: p, .node u i l r, q => by
    have h1 := T.get_rem p l
    have h2 := T.get_rem p r
    cases x
    · simp only [T.rem, Bool.false_eq_true, if_false, T.get_clean]
      cases q with
      | nil => simp [T.get]
      | cons y q => cases y <;> simp [T.get, h1]
    · simp only [T.rem, if_true, T.get_clean]
      cases q with
      | nil => simp [T.get]
      | cons y q => cases y <;> simp [T.get, h2]
theorem T.put_ne : ∀ (p : List Bool) (t : T) (i : Int), t.put p i ≠ .nil
  | [], .nil, i => by simp [T.put]
  | [], .node _ _ _ _, i => by simp [T.put]
  | x :: p, .nil, i => by cases x <;> simp [T.put]
  | x :: p, .node _ _ _ _, i => by cases x <;> simp [T.put]
theorem T.empty_iff {u : Bool} {i : Int} {l r : T} : (T.node u i l r).empty = false ↔ u = true ∨ l ≠ .nil ∨ r ≠ .nil := by
  cases u <;> cases l <;> cases r <;> simp [T.empty]
theorem T.wf_put : ∀ (p : List Bool) (t : T) (i : Int), t.wf → (t.put p i).wf
  | [], .nil, i, _ => by simp [T.put, T.wf, T.empty]
  | [], .node u j l r, i, h => by
    obtain ⟨_, _, h3, h4⟩ := h
    exact ⟨fun e => (by cases e), T.empty_iff.2 (.inl rfl), h3, h4⟩
  | x :: p, .nil, i, h => by
    have := T.wf_put p .nil i h
    have hn := T.put_ne p .nil i
    cases x
    · exact ⟨fun _ => rfl, T.empty_iff.2 (.inr (.inl hn)), this, trivial⟩
    · exact ⟨fun _ => rfl, T.empty_iff.2 (.inr (.inr hn)), trivial, this⟩
  | x :: p, .node u j l r, i, h => by
    obtain ⟨h1, _, h3, h4⟩ := h
    cases x
    · exact ⟨h1, T.empty_iff.2 (.inr (.inl (T.put_ne p l i))), T.wf_put p l i h3, h4⟩
    · exact ⟨h1, T.empty_iff.2 (.inr (.inr (T.put_ne p r i))), h3, T.wf_put p r i h4⟩
theorem T.wf_clean {u : Bool} {i : Int} {l r : T} (h : u = false → i = 0) (hl : l.wf) (hr : r.wf) : (T.node u i l r).clean.wf := by
  unfold T.clean
  split
  · trivial
  · rename_i he
    exact ⟨h, by simpa using he, hl, hr⟩
theorem T.wf_rem : ∀ (p : List Bool) (t : T), t.wf → (t.rem p).wf
  | p, .nil, _ => by cases p <;> simp [T.rem, T.wf]
  | [], .node u i l r, ⟨_, _, h3, h4⟩ => T.wf_clean (fun _ => rfl) h3 h4
  | x :: p, .node u i l r, ⟨h1, _, h3, h4⟩ => by
    cases x
    · exact T.wf_clean h1 (T.wf_rem p l h3) h4
    · exact T.wf_clean h1 h3 (T.wf_rem p r h4)
theorem T.wf_some : ∀ (t : T), t.wf → t ≠ .nil → ∃ p i, t.get p = some i
  | .nil, _, h => absurd rfl h
  | .node u i l r, ⟨_, h2, h3, h4⟩, _ => by
    rcases T.empty_iff.1 h2 with h | h | h
    · subst h; exact ⟨[], i, rfl⟩
    · obtain ⟨p, j, hp⟩ := T.wf_some l h3 h
      exact ⟨false :: p, j, hp⟩
    · obtain ⟨p, j, hp⟩ := T.wf_some r h4 h
      exact ⟨true :: p, j, hp⟩
/-- A tree is told by its prefixes. -/
theorem T.wf_ext : ∀ (s t : T), s.wf → t.wf → (∀ p, s.get p = t.get p) → s = t
  | .nil, .nil, _, _, _ => rfl
  | .nil, .node u i l r, _, ht, h => by
    obtain ⟨p, j, hp⟩ := T.wf_some _ ht (by simp)
    rw [← h p, T.get_nil] at hp; cases hp
  | .node u i l r, .nil, hs, _, h => by
    obtain ⟨p, j, hp⟩ := T.wf_some _ hs (by simp)
    rw [h p, T.get_nil] at hp; cases hp
  | .node u i l r, .node v j a b, ⟨s1, _, s3, s4⟩, ⟨t1, _, t3, t4⟩, h => by
    have e1 := T.wf_ext l a s3 t3 fun p => h (false :: p)
    have e2 := T.wf_ext r b s4 t4 fun p => h (true :: p)
    have e3 := h []
    subst e1 e2
    cases u <;> cases v <;> simp [T.get] at e3
    · rw [s1 rfl, t1 rfl]
    · rw [e3]
theorem T.mem_paths : ∀ (t : T) (p : List Bool), p ∈ t.paths ↔ t.find p ≠ .nil
  | .nil, p => by simp [T.paths, T.find_nil]
  | .node u i l r, [] => by simp [T.paths, T.find]
  | .node u i l r, x :: p => by
    have h1 := T.mem_paths l p
    have h2 := T.mem_paths r p
    cases x <;> simp [T.paths, T.find, h1, h2]
theorem T.paths_nodup : ∀ (t : T), t.paths.Nodup
  | .nil => List.nodup_nil
  | .node u i l r => by
    have h1 := T.paths_nodup l
    have h2 := T.paths_nodup r
    unfold T.paths
    rw [List.nodup_cons, List.nodup_append]
    refine ⟨by simp, ?_, ?_, ?_⟩
    · exact List.Pairwise.map _ (fun a b h e => h (List.cons.inj e).2) h1
    · exact List.Pairwise.map _ (fun a b h e => h (List.cons.inj e).2) h2
    · intro a ha b hb
      simp only [List.mem_map] at ha hb
      obtain ⟨_, _, rfl⟩ := ha
      obtain ⟨_, _, rfl⟩ := hb
      simp
theorem T.paths_length : ∀ (t : T), t.paths.length = t.nodes
  | .nil => rfl
  | .node u i l r => by
    simp only [T.paths, T.nodes, List.length_cons, List.length_append, List.length_map, T.paths_length l, T.paths_length r]
theorem T.get_find : ∀ (p : List Bool) (t : T) (q : List Bool), (t.find p).get q = t.get (p ++ q)
  | [], t, q => by rw [T.find_empty]; rfl
  | x :: p, .nil, q => by simp [T.find, T.get_nil]
  | x :: p, .node u i l r, q => by
    cases x
    · simp only [T.find, T.get, List.cons_append, Bool.false_eq_true, if_false]; exact T.get_find p l q
    · simp only [T.find, T.get, List.cons_append, if_true]; exact T.get_find p r q
theorem T.wf_find : ∀ (p : List Bool) (t : T), t.wf → (t.find p).wf
  | [], t, h => by rw [T.find_empty]; exact h
  | x :: p, .nil, h => trivial
  | x :: p, .node u i l r, ⟨_, _, h3, h4⟩ => by
    cases x
    · exact T.wf_find p l h3
    · exact T.wf_find p r h4
/-- The nodes are the beginnings of the prefixes. -/
theorem T.find_iff {t : T} (hw : t.wf) (p : List Bool) : t.find p ≠ .nil ↔ ∃ q, t.get (p ++ q) ≠ none := by
  constructor
  · intro h
    obtain ⟨q, i, hq⟩ := T.wf_some _ (T.wf_find p t hw) h
    exact ⟨q, by rw [← T.get_find, hq]; simp⟩
  · rintro ⟨q, hq⟩ e
    rw [← T.get_find, e, T.get_nil] at hq
    exact hq rfl
/-- What is found for a path, with what was found before. -/
theorem T.long_spec : ∀ (p : List Bool) (t : T) (d : Nat) (a : Nat × Int × Bool), (∃ n i, n ≤ p.length ∧ t.get (p.take n) = some i ∧ (∀ m, n < m → m ≤ p.length → t.get (p.take m) = none) ∧ t.long p d a = (d + n, i, true)) ∨
    ((∀ m, m ≤ p.length → t.get (p.take m) = none) ∧ t.long p d a = a)
  | p, .nil, d, a => .inr ⟨fun m _ => T.get_nil _, by cases p <;> rfl⟩
  | [], .node u i l r, d, a => by
    cases u
    · right
      refine ⟨fun m hm => ?_, by simp [T.long]⟩
      simp [T.get]
    · left
      exact ⟨0, i, Nat.le_refl _, by simp [T.get], fun m h1 h2 => by simp at h2; omega, by simp [T.long]⟩
  | x :: p, .node u i l r, d, a => by
    have step : ∀ m, (T.node u i l r).get ((x :: p).take (m + 1)) = (if x then r else l).get (p.take m) := by
      intro m; cases x <;> simp [T.get]
    have hl : (T.node u i l r).long (x :: p) d a = (if x then r else l).long p (d + 1) (if u then (d, i, true) else a) := rfl
    rw [hl]
    rcases T.long_spec p (if x then r else l) (d + 1) (if u then (d, i, true) else a) with ⟨n, j, h1, h2, h3, h4⟩ | ⟨h1, h2⟩
    · left
      refine ⟨n + 1, j, by simp; omega, by rw [step]; exact h2, fun m hm1 hm2 => ?_, by rw [h4]; congr 1; omega⟩
      cases m with
      | zero => omega
      | succ m => rw [step]; exact h3 m (by omega) (by simpa using hm2)
    · rw [h2]
      cases u
      · right
        refine ⟨fun m hm => ?_, by simp⟩
        cases m with
        | zero => simp [T.get]
        | succ m => rw [step]; exact h1 m (by simpa using hm)
      · left
        refine ⟨0, i, Nat.zero_le _, by simp [T.get], fun m hm1 hm2 => ?_, by simp⟩
        cases m with
        | zero => omega
        | succ m => rw [step]; exact h1 m (by simpa using hm2)
/-- A node is looked at. -/
def T.vis : T → Nat → Nat × Int × Bool → Nat × Int × Bool
  | .nil, _, a => a
  | .node u i _ _, d, a => if u then (d, i, true) else a
theorem T.long_empty (t : T) (d : Nat) (a : Nat × Int × Bool) : t.long [] d a = t.vis d a := by cases t <;> rfl
theorem T.long_snoc (x : Bool) : ∀ (p : List Bool) (t : T) (d : Nat) (a : Nat × Int × Bool), t.long (p ++ [x]) d a = (t.find (p ++ [x])).vis (d + p.length + 1) (t.long p d a)
  | [], .nil, d, a => rfl
  | [], .node u i l r, d, a => by
    simp only [List.nil_append, T.long, T.find, T.find_empty, List.length_nil, Nat.add_zero]
    cases x <;> simp only [if_true, if_false, Bool.false_eq_true] <;> rw [T.long_empty]
  | y :: p, .nil, d, a => rfl
  | y :: p, .node u i l r, d, a => by
    simp only [List.cons_append, T.long, T.find, List.length_cons]
    rw [T.long_snoc x p]
    cases y <;> simp only [if_true, if_false, Bool.false_eq_true] <;> congr 1 <;> omega
theorem T.long_stop : ∀ (p q : List Bool) (t : T) (d : Nat) (a : Nat × Int × Bool), t.find p = .nil → t.long (p ++ q) d a = t.long p d a
  | [], q, t, d, a, h => by rw [T.find_empty] at h; subst h; cases q <;> rfl
  | x :: p, q, .nil, d, a, h => rfl
  | x :: p, q, .node u i l r, d, a, h => by
    simp only [List.cons_append, T.long]
    refine T.long_stop p q _ _ _ ?_
    cases x <;> exact h

/-! ### All nodes, in order -/
/-- The value of the second child. -/
def upV (bits d : Nat) (v : BitVec 128) : BitVec 128 := v ||| (1#128 <<< ((bits : Int) - 1 - d).toNat)
def foldT {α : Type} (bits : Nat) (step : α → Bool → Int → BitVec 128 → Nat → α) : T → BitVec 128 → Nat → α → α
  | .nil, _, _, a => a
  | .node u i l r, v, d, a => foldT bits step r (upV bits d v) (d + 1) (foldT bits step l v (d + 1) (step a u i v d))
def T.cost (w : Bool → Nat) : T → Nat
  | .nil => 0
  | .node u _ l r => T.cost w r + T.cost w l + w u
def T.fit : T → Nat → Prop
  | .nil, _ => True
  | .node _ _ _ _, 0 => False
  | .node _ _ l r, n + 1 => l.fit n ∧ r.fit n
theorem foldT_count (bits : Nat) : ∀ (t : T) (v : BitVec 128) (d a : Nat), foldT bits (fun a _ _ _ _ => a + 1) t v d a = a + t.nodes
  | .nil, v, d, a => rfl
  | .node u i l r, v, d, a => by
    simp only [foldT, T.nodes]
    rw [foldT_count bits l, foldT_count bits r]; omega
theorem T.cost_one : ∀ (t : T), t.cost (fun _ => 1) = t.nodes
  | .nil => rfl
  | .node u i l r => by simp only [T.cost, T.nodes]; rw [T.cost_one l, T.cost_one r]; omega
/-- A prefix with its number, as it is listed. -/
abbrev PfT := (BitVec 128 × Int) × Int
def stepA (L : List PfT) (u : Bool) (i : Int) (v : BitVec 128) (d : Nat) : List PfT := if u then L ++ [((v, (d : Int)), i)] else L
def T.itemsAt (bits : Nat) : T → BitVec 128 → Nat → List PfT
  | .nil, _, _ => []
  | .node u i l r, v, d => (if u then [((v, (d : Int)), i)] else []) ++ (l.itemsAt bits v (d + 1) ++ r.itemsAt bits (upV bits d v) (d + 1))
theorem foldT_items (bits : Nat) : ∀ (t : T) (v : BitVec 128) (d : Nat) (L : List PfT), foldT bits stepA t v d L = L ++ t.itemsAt bits v d
  | .nil, v, d, L => by simp [foldT, T.itemsAt]
  | .node u i l r, v, d, L => by
    simp only [foldT, T.itemsAt]
    rw [foldT_items bits l, foldT_items bits r]
    unfold stepA
    cases u <;> simp
theorem T.cost_items (bits : Nat) : ∀ (t : T) (v : BitVec 128) (d : Nat), t.cost (fun u => if u then 1 else 0) = (t.itemsAt bits v d).length
  | .nil, v, d => rfl
  | .node u i l r, v, d => by
    simp only [T.cost, T.itemsAt, List.length_append]
    rw [T.cost_items bits l v (d + 1), T.cost_items bits r (upV bits d v) (d + 1)]
    cases u <;> simp <;> omega
def T.items (bits : Nat) (t : T) : List PfT := t.itemsAt bits 0#128 0

/-- A tree, with the blocks of its nodes. -/
inductive TT where
  | nil
  | node (b : Nat) (u : Bool) (i : Int) (l r : TT)

def TT.er : TT → T
  | .nil => .nil
  | .node _ u i l r => .node u i l.er r.er
def TT.ptr : TT → NV
  | .nil => .ptr none
  | .node b _ _ _ _ => .ptr (some (b, 0))
def TT.bl : TT → List Nat
  | .nil => []
  | .node b _ _ l r => b :: (l.bl ++ r.bl)
def TT.find : TT → List Bool → TT
  | t, [] => t
  | .nil, _ :: _ => .nil
  | .node _ _ _ l r, x :: p => if x then r.find p else l.find p
def TT.sub : TT → List Bool → TT → TT
  | _, [], s => s
  | .nil, _ :: _, _ => .nil
  | .node b u i l r, x :: p, s => if x then .node b u i l (r.sub p s) else .node b u i (l.sub p s) r
def TAt (h : Heap) : TT → Prop
  | .nil => True
  | .node b u i l r => hget h b = some (.cells [l.ptr, r.ptr, .bool u, .int .i64 i] false) ∧ TAt h l ∧ TAt h r

theorem TT.bl_node {b : Nat} {u : Bool} {i : Int} {l r : TT} : (TT.node b u i l r).bl = b :: (l.bl ++ r.bl) := rfl
theorem TT.ptr_flat {t : TT} : t.ptr.flat = true := by cases t <;> rfl
theorem TT.ptr_one {t : TT} : t.ptr.one = true := by cases t <;> rfl
theorem TT.ptr_cells {t : TT} : t.ptr.cells = [t.ptr] := by cases t <;> rfl
theorem ptr_nl : TT.nil.ptr = .ptr none := (rfl)
theorem ptr_nd {b : Nat} {u : Bool} {i : Int} {l r : TT} : (TT.node b u i l r).ptr = .ptr (some (b, 0)) := (rfl)
theorem TT.find_empty (t : TT) : t.find [] = t := by cases t <;> rfl
theorem TT.find_nil (p : List Bool) : TT.find .nil p = .nil := by cases p <;> rfl
theorem TT.sub_empty (t s : TT) : t.sub [] s = s := by cases t <;> rfl
theorem TT.er_find : ∀ (p : List Bool) (t : TT), (t.find p).er = t.er.find p
  | [], t => by rw [TT.find_empty, T.find_empty]
  | x :: p, .nil => rfl
  | x :: p, .node b u i l r => by cases x <;> simp only [TT.find, TT.er, T.find, if_true, if_false, Bool.false_eq_true] <;> exact TT.er_find p _
theorem TT.er_sub (s : TT) : ∀ (p : List Bool) (t : TT), (t.sub p s).er = t.er.sub p s.er
  | [], t => by cases t <;> rfl
  | x :: p, .nil => rfl
  | x :: p, .node b u i l r => by cases x <;> simp only [TT.sub, TT.er, T.sub, if_true, if_false, Bool.false_eq_true] <;> rw [TT.er_sub s p]
theorem TT.er_nil {t : TT} : t.er = .nil ↔ t = .nil := by cases t <;> simp [TT.er]
theorem TT.ptr_nil {t : TT} : t.ptr = .ptr none ↔ t = .nil := by cases t <;> simp [TT.ptr]
theorem TT.find_append : ∀ (p q : List Bool) (t : TT), t.find (p ++ q) = (t.find p).find q
  | [], q, t => by rw [TT.find_empty]; rfl
  | x :: p, q, .nil => by rw [TT.find_nil, TT.find_nil, TT.find_nil]
  | x :: p, q, .node b u i l r => by cases x <;> simp only [List.cons_append, TT.find, if_true, if_false, Bool.false_eq_true] <;> exact TT.find_append p q _
theorem TT.find_bl : ∀ (p : List Bool) (t : TT) (b : Nat), b ∈ (t.find p).bl → b ∈ t.bl
  | [], t, b, h => by rwa [TT.find_empty] at h
  | x :: p, .nil, b, h => h
  | x :: p, .node c u i l r, b, h => by
    cases x
    · exact List.mem_cons_of_mem _ (List.mem_append_left _ (TT.find_bl p l b h))
    · exact List.mem_cons_of_mem _ (List.mem_append_right _ (TT.find_bl p r b h))
theorem TAt.find {h : Heap} : ∀ (p : List Bool) {t : TT}, TAt h t → TAt h (t.find p)
  | [], t, a => by rw [TT.find_empty]; exact a
  | x :: p, .nil, a => trivial
  | x :: p, .node b u i l r, ⟨_, h2, h3⟩ => by
    cases x
    · exact TAt.find p h2
    · exact TAt.find p h3
theorem TAt.keep {h h' : Heap} : ∀ {t : TT}, TAt h t → (∀ b ∈ t.bl, hget h' b = hget h b) → TAt h' t
  | .nil, _, _ => trivial
  | .node b u i l r, ⟨h1, h2, h3⟩, k => ⟨by rw [k b (List.mem_cons_self ..)]; exact h1, TAt.keep h2 fun c hc => k c (List.mem_cons_of_mem _ (List.mem_append_left _ hc)),
      TAt.keep h3 fun c hc => k c (List.mem_cons_of_mem _ (List.mem_append_right _ hc))⟩
theorem TAt.lt {h : Heap} : ∀ {t : TT}, TAt h t → ∀ b ∈ t.bl, b < h.length
  | .nil, _, b, hb => by cases hb
  | .node c u i l r, ⟨h1, h2, h3⟩, b, hb => by
    rcases List.mem_cons.1 hb with rfl | hb
    · exact hget_lt h1
    · rcases List.mem_append.1 hb with hb | hb
      · exact TAt.lt h2 b hb
      · exact TAt.lt h3 b hb
theorem TT.ptr_find_sub {s' : TT} : ∀ (p : List Bool) (t : TT), (t.find p).ptr = s'.ptr → (t.sub p s').ptr = t.ptr
  | [], t, h => by rw [TT.sub_empty]; rw [TT.find_empty] at h; exact h.symm
  | x :: p, .nil, h => rfl
  | x :: p, .node b u i l r, h => by cases x <;> rfl
/-- A part is replaced, where it lies. -/
theorem TAt.sub {h h' : Heap} {s' : TT} : ∀ (p : List Bool) {t : TT}, TAt h t → t.bl.Nodup → t.find p ≠ .nil → (∀ b, b ∈ t.bl → b ∉ (t.find p).bl → hget h' b = hget h b) → TAt h' s' → s'.ptr = (t.find p).ptr → TAt h' (t.sub p s')
  | [], t, a, nd, hn, k, a', e => by rw [TT.sub_empty]; exact a'
  | x :: p, .nil, a, nd, hn, k, a', e => absurd rfl hn
  | x :: p, .node b u i l r, ⟨h1, h2, h3⟩, nd, hn, k, a', e => by
    rw [TT.bl_node] at nd k
    rw [List.nodup_cons, List.nodup_append] at nd
    obtain ⟨n1, n2, n3, n4⟩ := nd
    rw [List.mem_append, not_or] at n1
    cases x
    · simp only [TT.find, Bool.false_eq_true, if_false] at hn k e
      refine ⟨?_, ?_, ?_⟩
      · rw [k b (List.mem_cons_self ..) (fun hb => n1.1 (TT.find_bl p l b hb)), TT.ptr_find_sub p l e.symm]; exact h1
      · exact TAt.sub p h2 n2 hn (fun c hc hc' => k c (List.mem_cons_of_mem _ (List.mem_append_left _ hc)) hc') a' e
      · exact TAt.keep h3 fun c hc => k c (List.mem_cons_of_mem _ (List.mem_append_right _ hc)) fun hb => n4 c (TT.find_bl p l c hb) c hc rfl
    · simp only [TT.find, if_true] at hn k e
      refine ⟨?_, ?_, ?_⟩
      · rw [k b (List.mem_cons_self ..) (fun hb => n1.2 (TT.find_bl p r b hb)), TT.ptr_find_sub p r e.symm]; exact h1
      · exact TAt.keep h2 fun c hc => k c (List.mem_cons_of_mem _ (List.mem_append_left _ hc)) fun hb => n4 c hc c (TT.find_bl p r c hb) rfl
      · exact TAt.sub p h3 n3 hn (fun c hc hc' => k c (List.mem_cons_of_mem _ (List.mem_append_right _ hc)) hc') a' e
theorem TT.sub_mem {s' : TT} : ∀ (p : List Bool) {t : TT} {b : Nat}, b ∈ (t.sub p s').bl → b ∈ s'.bl ∨ b ∈ t.bl
  | [], t, b, h => by rw [TT.sub_empty] at h; exact .inl h
  | x :: p, .nil, b, h => .inr h
  | x :: p, .node c u i l r, b, h => by
    cases x
    · rcases List.mem_cons.1 h with rfl | h
      · exact .inr (List.mem_cons_self ..)
      · rcases List.mem_append.1 h with h | h
        · exact (TT.sub_mem p h).imp id fun h => List.mem_cons_of_mem _ (List.mem_append_left _ h)
        · exact .inr (List.mem_cons_of_mem _ (List.mem_append_right _ h))
    · rcases List.mem_cons.1 h with rfl | h
      · exact .inr (List.mem_cons_self ..)
      · rcases List.mem_append.1 h with h | h
        · exact .inr (List.mem_cons_of_mem _ (List.mem_append_left _ h))
        · exact (TT.sub_mem p h).imp id fun h => List.mem_cons_of_mem _ (List.mem_append_right _ h)
theorem TT.sub_nodup {s' : TT} (hs : s'.bl.Nodup) : ∀ (p : List Bool) {t : TT}, t.bl.Nodup → (∀ b, b ∈ s'.bl → b ∈ (t.find p).bl ∨ b ∉ t.bl) → (t.sub p s').bl.Nodup
  | [], t, nd, k => by rw [TT.sub_empty]; exact hs
  | x :: p, .nil, nd, k => nd
  | x :: p, .node c u i l r, nd, k => by
    rw [TT.bl_node] at nd k
    rw [List.nodup_cons, List.nodup_append] at nd
    obtain ⟨n1, n2, n3, n4⟩ := nd
    rw [List.mem_append, not_or] at n1
    simp only [TT.bl_node, List.mem_cons, List.mem_append, not_or] at k
    cases x
    · simp only [TT.find, Bool.false_eq_true, if_false] at k
      show (c :: ((l.sub p s').bl ++ r.bl)).Nodup
      rw [List.nodup_cons, List.nodup_append, List.mem_append, not_or]
      refine ⟨⟨fun h => ?_, n1.2⟩, TT.sub_nodup hs p n2 fun b hb => (k b hb).imp id fun h => h.2.1, n3, fun a ha b hb e => ?_⟩
      · rcases TT.sub_mem p h with h | h
        · rcases k c h with h | h
          · exact n1.1 (TT.find_bl p l c h)
          · exact h.1 rfl
        · exact n1.1 h
      · subst e
        rcases TT.sub_mem p ha with h | h
        · rcases k a h with h | h
          · exact n4 a (TT.find_bl p l a h) a hb rfl
          · exact h.2.2 hb
        · exact n4 a h a hb rfl
    · simp only [TT.find, if_true] at k
      show (c :: (l.bl ++ (r.sub p s').bl)).Nodup
      rw [List.nodup_cons, List.nodup_append, List.mem_append, not_or]
      refine ⟨⟨n1.1, fun h => ?_⟩, n2, TT.sub_nodup hs p n3 fun b hb => (k b hb).imp id fun h => h.2.2, fun a ha b hb e => ?_⟩
      · rcases TT.sub_mem p h with h | h
        · rcases k c h with h | h
          · exact n1.2 (TT.find_bl p r c h)
          · exact h.1 rfl
        · exact n1.2 h
      · subst e
        rcases TT.sub_mem p hb with h | h
        · rcases k a h with h | h
          · exact n4 a ha a (TT.find_bl p r a h) rfl
          · exact h.2.1 ha
        · exact n4 a ha a h rfl
theorem TT.find_sub {s' : TT} : ∀ (p q : List Bool) (t : TT), t.find p ≠ .nil → (t.sub p s').find (p ++ q) = s'.find q
  | [], q, t, h => by rw [TT.sub_empty]; rfl
  | x :: p, q, .nil, h => absurd rfl h
  | x :: p, q, .node b u i l r, h => by
    cases x
    · exact TT.find_sub p q l h
    · exact TT.find_sub p q r h
/-- Above the part that is replaced all stays where it is. -/
theorem TT.find_above {s' : TT} : ∀ (p q : List Bool) (t : TT), t.find (p ++ q) ≠ .nil → (t.sub (p ++ q) s').find p = (t.find p).sub q s'
  | [], q, t, _ => by rw [TT.find_empty, TT.find_empty]; rfl
  | x :: p, q, .nil, h => absurd rfl h
  | x :: p, q, .node b u i l r, h => by
    cases x
    · exact TT.find_above p q l h
    · exact TT.find_above p q r h
theorem TT.find_up {p q : List Bool} {t : TT} (h : t.find (p ++ q) ≠ .nil) : t.find p ≠ .nil := by
  intro e; rw [TT.find_append, e, TT.find_nil] at h; exact h rfl
theorem T.ext_snoc (x : Bool) : ∀ (p : List Bool) (t : T), t.ext (p ++ [x]) = (t.ext p).sub p (match (t.ext p).find p with
    | .nil => .nil
    | .node u i l r => if x then .node u i l (r.ext []) else .node u i (l.ext []) r)
  | [], .nil => by cases x <;> rfl
  | [], .node u i l r => by cases x <;> rfl
  | y :: p, .nil => by cases y <;> simp only [List.cons_append, T.ext, T.sub, T.find, if_true, if_false, Bool.false_eq_true] <;> rw [T.ext_snoc x p]
  | y :: p, .node u i l r => by cases y <;> simp only [List.cons_append, T.ext, T.sub, T.find, if_true, if_false, Bool.false_eq_true] <;> rw [T.ext_snoc x p]

/-- A trie in a heap. -/
structure TrieAt (h : Heap) (q bits : Nat) (t : TT) : Prop where
  hd : hget h q = some (.cells [.int .i64 bits, t.ptr] false)
  at_ : TAt h t
  nd : (q :: t.bl).Nodup
theorem TrieAt.app {H : Heap} {q bits : Nat} {t : TT} (ht : TrieAt H q bits t) (L : Heap) : TrieAt (H ++ L) q bits t :=
  ⟨by rw [hget_appl (hget_some_lt ht.hd)]; exact ht.hd, ht.at_.keep fun b hb => hget_appl (ht.at_.lt b hb), ht.nd⟩
theorem TrieAt.keep {H h : Heap} {q bits : Nat} {t : TT} (ht : TrieAt H q bits t) (k : ∀ b, b = q ∨ b ∈ t.bl → hget h b = hget H b) : TrieAt h q bits t :=
  ⟨by rw [k q (.inl rfl)]; exact ht.hd, ht.at_.keep fun b hb => k b (.inr hb), ht.nd⟩
theorem TrieAt.lt {H : Heap} {q bits : Nat} {t : TT} (ht : TrieAt H q bits t) {b : Nat} (hb : b = q ∨ b ∈ t.bl) : b < H.length := by
  rcases hb with rfl | hb
  · exact hget_some_lt ht.hd
  · exact ht.at_.lt b hb
theorem TAt.four {h : Heap} : ∀ {t : TT}, TAt h t → ∀ b, b ∈ t.bl → ∃ cs, hget h b = some (.cells cs false) ∧ cs.length = 4
  | .nil, _, b, hb => by cases hb
  | .node c u i l r, ⟨h1, h2, h3⟩, b, hb => by
    rcases List.mem_cons.1 hb with rfl | hb
    · exact ⟨_, h1, rfl⟩
    · rcases List.mem_append.1 hb with hb | hb
      · exact TAt.four h2 b hb
      · exact TAt.four h3 b hb
/-- A block with other cells is no node. -/
theorem TAt.not_mem {h : Heap} {t : TT} (a : TAt h t) {b : Nat} {cs : List NV} {ro : Bool} (hb : hget h b = some (.cells cs ro)) (hl : cs.length ≠ 4) : b ∉ t.bl := by
  intro hm
  obtain ⟨ds, h1, h2⟩ := a.four b hm
  rw [hb] at h1
  cases h1
  exact hl h2
theorem TrieAt.sub {h h' : Heap} {q bits : Nat} {t s' : TT} {p : List Bool} (ht : TrieAt h q bits t) (hn : t.find p ≠ .nil) (hk : ∀ b, b = q ∨ b ∈ t.bl → b ∉ (t.find p).bl → hget h' b = hget h b)
    (hs : TAt h' s') (hp : s'.ptr = (t.find p).ptr) (hd : s'.bl.Nodup) (hb : ∀ b, b ∈ s'.bl → b ∈ (t.find p).bl ∨ h.length ≤ b) : TrieAt h' q bits (t.sub p s') := by
  have nd := List.nodup_cons.1 ht.nd
  refine ⟨?_, ?_, ?_⟩
  · rw [TT.ptr_find_sub p t hp.symm, hk q (.inl rfl) fun hq => nd.1 (TT.find_bl p t q hq)]; exact ht.hd
  · exact TAt.sub p ht.at_ nd.2 hn (fun b hb => hk b (.inr hb)) hs hp
  · rw [List.nodup_cons]
    refine ⟨fun hq => ?_, TT.sub_nodup hd p nd.2 fun b hbs => (hb b hbs).imp id fun h1 h2 => ?_⟩
    · rcases TT.sub_mem p hq with h1 | h1
      · rcases hb q h1 with h1 | h1
        · exact nd.1 (TT.find_bl p t q h1)
        · have := hget_some_lt ht.hd; omega
      · exact nd.1 h1
    · have := ht.at_.lt b h2; omega
theorem TT.find_nodup : ∀ (p : List Bool) {t : TT}, t.bl.Nodup → (t.find p).bl.Nodup
  | [], t, h => by rw [TT.find_empty]; exact h
  | x :: p, .nil, h => h
  | x :: p, .node b u i l r, h => by
    rw [TT.bl_node, List.nodup_cons, List.nodup_append] at h
    cases x
    · exact TT.find_nodup p h.2.1
    · exact TT.find_nodup p h.2.2.1
theorem TT.sub_ne {s' : TT} (hs : s' ≠ .nil) : ∀ (p : List Bool) {t : TT}, t.find p ≠ .nil → t.sub p s' ≠ .nil
  | [], t, h => by rw [TT.sub_empty]; exact hs
  | x :: p, .nil, h => absurd rfl h
  | x :: p, .node b u i l r, h => by cases x <;> simp [TT.sub]
theorem T.sub_self : ∀ (p : List Bool) (t : T), t.sub p (t.find p) = t
  | [], t => by rw [T.find_empty]; cases t <;> rfl
  | x :: p, .nil => rfl
  | x :: p, .node u i l r => by cases x <;> simp only [T.sub, T.find, if_true, if_false, Bool.false_eq_true] <;> rw [T.sub_self p]
theorem T.ext_ne : ∀ (p : List Bool) (t : T), t.ext p ≠ .nil
  | [], .nil => by simp [T.ext]
  | [], .node _ _ _ _ => by simp [T.ext]
  | x :: p, .nil => by cases x <;> simp [T.ext]
  | x :: p, .node _ _ _ _ => by cases x <;> simp [T.ext]
theorem T.ext_find : ∀ (p : List Bool) (t : T), (t.ext p).find p ≠ .nil
  | [], t => by rw [T.find_empty]; exact T.ext_ne [] t
  | x :: p, .nil => by cases x <;> exact T.ext_find p .nil
  | x :: p, .node _ _ l r => by
    cases x
    · exact T.ext_find p l
    · exact T.ext_find p r

/-- A child is made. -/
def kid (x : Bool) (b : Nat) (u : Bool) (i : Int) (l r n : TT) : TT := if x then .node b u i l n else .node b u i n r
theorem kid_er {x : Bool} {b : Nat} {u : Bool} {i : Int} {l r n : TT} : (kid x b u i l r n).er = if x then .node u i l.er n.er else .node u i n.er r.er := by cases x <;> rfl
theorem kid_step {h h' : Heap} {q bits at_ : Nat} {t n : TT} {p : List Bool} {x : Bool} {b : Nat} {u u' : Bool} {i i' : Int} {l r : TT} (ht : TrieAt h q bits t) (hf : t.find p = .node b u i l r)
    (h1 : at_ ∉ t.bl) (h2 : at_ ≠ q) (e1 : TAt h' n) (e2 : hget h' b = some (.cells [(if x then l else n).ptr, (if x then n else r).ptr, .bool u', .int .i64 i'] false))
    (e3 : ∀ c, c < h.length → c ≠ b → c ≠ at_ → hget h' c = hget h c) (e4 : n.bl.Nodup) (e5 : ∀ c, c ∈ n.bl → h.length ≤ c ∨ c ∈ (if x then r else l).bl) : TrieAt h' q bits (t.sub p (kid x b u' i' l r n)) := by
  have hat := ht.at_.find p
  have hlt := fun c => TT.find_bl p t c
  have hnd := TT.find_nodup p (List.nodup_cons.1 ht.nd).2
  have hq : q ∉ (t.find p).bl := fun hq => (List.nodup_cons.1 ht.nd).1 (hlt q hq)
  rw [hf] at hat hlt hnd hq
  obtain ⟨a1, a2, a3⟩ := hat
  rw [TT.bl_node, List.nodup_cons, List.nodup_append, List.mem_append, not_or] at hnd
  obtain ⟨⟨m1, m2⟩, m3, m4, m5⟩ := hnd
  have hb : b < h.length := hget_some_lt a1
  have hk : ∀ c, c ∈ l.bl ∨ c ∈ r.bl → hget h' c = hget h c := by
    intro c hc
    refine e3 c ?_ ?_ ?_
    · rcases hc with hc | hc
      · exact a2.lt c hc
      · exact a3.lt c hc
    · rintro rfl
      rcases hc with hc | hc
      · exact m1 hc
      · exact m2 hc
    · rintro rfl
      refine h1 (hlt _ ?_)
      rw [TT.bl_node]
      exact List.mem_cons_of_mem _ (List.mem_append.2 hc)
  refine ht.sub (by rw [hf]; simp) ?_ ?_ ?_ ?_ ?_
  · intro c hc hc'
    rw [hf] at hc'
    refine e3 c (ht.lt hc) ?_ ?_
    · rintro rfl; exact hc' (List.mem_cons_self ..)
    · rintro rfl
      rcases hc with hc | hc
      · exact h2 hc
      · exact h1 hc
  · unfold kid
    cases x
    · exact ⟨e2, e1, a3.keep fun c hc => hk c (.inr hc)⟩
    · exact ⟨e2, a2.keep fun c hc => hk c (.inl hc), e1⟩
  · rw [hf]; cases x <;> rfl
  · have far : ∀ c, c ∈ n.bl → c ≠ b := by
      rintro c hc rfl
      rcases e5 c hc with h | h
      · omega
      · cases x
        · exact m1 h
        · exact m2 h
    cases x
    · show (b :: (n.bl ++ r.bl)).Nodup
      rw [List.nodup_cons, List.nodup_append, List.mem_append, not_or]
      refine ⟨⟨fun hc => far b hc rfl, m2⟩, e4, m4, fun c hc d hd e => ?_⟩
      subst e
      rcases e5 c hc with h | h
      · have := a3.lt c hd; omega
      · exact m5 c h c hd rfl
    · show (b :: (l.bl ++ n.bl)).Nodup
      rw [List.nodup_cons, List.nodup_append, List.mem_append, not_or]
      refine ⟨⟨m1, fun hc => far b hc rfl⟩, m3, e4, fun c hc d hd e => ?_⟩
      subst e
      rcases e5 c hd with h | h
      · have := a2.lt c hc; omega
      · exact m5 c hc c h rfl
  · intro c hc
    rw [hf]
    have go : c = b ∨ c ∈ l.bl ∨ c ∈ r.bl ∨ c ∈ n.bl := by
      unfold kid at hc
      cases x <;> simp only [if_true, if_false, Bool.false_eq_true, TT.bl_node, List.mem_cons, List.mem_append] at hc <;> rcases hc with h | h | h <;> simp [h]
    rw [TT.bl_node, List.mem_cons, List.mem_append]
    rcases go with h | h | h | h
    · exact .inl (.inl h)
    · exact .inl (.inr (.inl h))
    · exact .inl (.inr (.inr h))
    · rcases e5 c h with h | h
      · exact .inr h
      · left; right
        cases x
        · exact .inl h
        · exact .inr h

/-- Where a Put has come to: the nodes of a path are there. -/
structure PutI (H : Heap) (q bits : Nat) (t : TT) (p : List Bool) (h : Heap) (tt : TT) : Prop where
  tr : TrieAt h q bits tt
  er : tt.er = t.er.ext p
  keep : ∀ b, b < H.length → b ≠ q → b ∉ t.bl → hget h b = hget H b
  new : ∀ b, b ∈ tt.bl → b ∈ t.bl ∨ H.length ≤ b
  len : H.length ≤ h.length
theorem PutI.find {H h : Heap} {q bits : Nat} {t tt : TT} {p : List Bool} (i : PutI H q bits t p h tt) : tt.find p ≠ .nil := by
  intro e
  have := TT.er_find p tt
  rw [e, i.er] at this
  exact T.ext_find p t.er this.symm
theorem PutI.app {H h : Heap} {q bits : Nat} {t tt : TT} {p : List Bool} (i : PutI H q bits t p h tt) (L : Heap) : PutI H q bits t p (h ++ L) tt :=
  ⟨i.tr.app L, i.er, fun b hb h1 h2 => by rw [hget_appl (by have := i.len; omega)]; exact i.keep b hb h1 h2, i.new, by have := i.len; simp; omega⟩
/-- A block that is no node turns. -/
theorem PutI.set {H h : Heap} {q bits : Nat} {t tt : TT} {p : List Bool} (i : PutI H q bits t p h tt) {a : Nat} {x : NBlk} (h0 : H.length ≤ a) (h1 : a ∉ tt.bl) (hq : q < H.length) : PutI H q bits t p (hset h a x) tt :=
  ⟨i.tr.keep fun b hb => hget_hset_ne (by rintro rfl; rcases hb with h | h; omega; exact h1 h), i.er, fun b hb k1 k2 => by rw [hget_hset_ne (by omega)]; exact i.keep b hb k1 k2, i.new, by have := i.len; rw [length_hset]; omega⟩
theorem T.ext_same {p : List Bool} {x : Bool} {t : T} (h : (t.ext p).find (p ++ [x]) ≠ .nil) : t.ext (p ++ [x]) = t.ext p := by
  rw [T.ext_snoc]
  have key : ∀ (p : List Bool) (t : T), t.find (p ++ [x]) = (t.find p).find [x] := by
    intro p
    induction p with
    | nil => intro t; rw [T.find_empty]; rfl
    | cons y p ih =>
      intro t
      cases t with
      | nil => rw [T.find_nil, T.find_nil, T.find_nil]
      | node u i l r => cases y <;> simp only [List.cons_append, T.find, if_true, if_false, Bool.false_eq_true] <;> exact ih _
  rw [key] at h
  conv => rhs; rw [← T.sub_self p (t.ext p)]
  congr 1
  cases hf : (t.ext p).find p with
  | nil => rfl
  | node u i l r =>
    rw [hf] at h
    cases x
    · simp only [T.find, Bool.false_eq_true, if_false] at h ⊢
      cases l with
      | nil => simp [T.find] at h
      | node _ _ _ _ => rfl
    · simp only [T.find, if_true] at h ⊢
      cases r with
      | nil => simp [T.find] at h
      | node _ _ _ _ => rfl
theorem PutI.same {H h : Heap} {q bits : Nat} {t tt : TT} {p : List Bool} {x : Bool} (i : PutI H q bits t p h tt) (hn : tt.find (p ++ [x]) ≠ .nil) : PutI H q bits t (p ++ [x]) h tt :=
  ⟨i.tr, by rw [T.ext_same (by rw [← i.er, ← TT.er_find]; exact fun e => hn (TT.er_nil.1 e))]; exact i.er, i.keep, i.new, i.len⟩
theorem PutI.kid {H h h' : Heap} {q bits : Nat} {t tt : TT} {p : List Bool} {x : Bool} (I : PutI H q bits t p h tt) {b : Nat} {u : Bool} {i : Int} {l r : TT} {a : Nat} (hf : tt.find p = .node b u i l r) (hc : (if x then r else l) = .nil) (ha : H.length ≤ a) (h1 : a ∉ tt.bl) (hq : q < H.length)
    (e1 : hget h' h.length = some (.cells [.ptr none, .ptr none, .bool false, .int .i64 0] false))
    (e2 : hget h' b = some (.cells [(if x then l.ptr else .ptr (some (h.length, 0))), (if x then .ptr (some (h.length, 0)) else r.ptr), .bool u, .int .i64 i] false))
    (e3 : ∀ c, c < h.length → c ≠ b → c ≠ a → hget h' c = hget h c) (hl : h.length < h'.length) :
    ∃ tt', PutI H q bits t (p ++ [x]) h' tt' ∧ (tt'.find (p ++ [x])).ptr = .ptr (some (h.length, 0)) := by
  let n : TT := .node h.length false 0 .nil .nil
  have tr := kid_step (n := n) (x := x) (u' := u) (i' := i) I.tr hf h1 (by omega) ⟨e1, trivial, trivial⟩ (by rw [e2]; cases x <;> rfl) e3 (by simp [n, TT.bl]) (by intro c hc; simp [n, TT.bl] at hc; omega)
  have hfn : (tt.sub p (Go.Ns.kid x b u i l r n)).find (p ++ [x]) = n := by
    rw [TT.find_sub p [x] tt I.find]
    unfold Go.Ns.kid
    cases x <;> rfl
  have hbm : b ∈ tt.bl := TT.find_bl p tt b (by rw [hf]; exact List.mem_cons_self ..)
  refine ⟨_, ⟨tr, ?_, ?_, ?_, ?_⟩, by rw [hfn]; rfl⟩
  · rw [TT.er_sub, T.ext_snoc, ← I.er, ← TT.er_find, hf, kid_er]
    simp only [TT.er]
    congr 1
    cases x
    · simp only [Bool.false_eq_true, if_false] at hc ⊢
      subst hc; rfl
    · simp only [if_true] at hc ⊢
      subst hc; rfl
  · intro c hc k1 k2
    have := I.len
    rw [e3 c (by omega) (by rintro rfl; rcases I.new c hbm with h | h; exact k2 h; omega) (by omega)]
    exact I.keep c hc k1 k2
  · intro c hc
    have := I.len
    rcases TT.sub_mem p hc with h | h
    · have go : c = b ∨ c ∈ l.bl ∨ c ∈ r.bl ∨ c ∈ n.bl := by
        unfold Go.Ns.kid at h
        cases x <;> simp only [if_true, if_false, Bool.false_eq_true, TT.bl_node, List.mem_cons, List.mem_append] at h <;> rcases h with h | h | h <;> simp [h]
      have fnd : c ∈ (tt.find p).bl → c ∈ t.bl ∨ H.length ≤ c := fun h => I.new c (TT.find_bl p tt c h)
      rw [hf, TT.bl_node, List.mem_cons, List.mem_append] at fnd
      rcases go with h | h | h | h
      · exact fnd (.inl h)
      · exact fnd (.inr (.inl h))
      · exact fnd (.inr (.inr h))
      · simp [n, TT.bl] at h; omega
    · exact I.new c h
  · have := I.len; omega
/-- What a Put leaves. -/
structure PutQ (H : Heap) (q bits : Nat) (t : TT) (t2 : T) (h : Heap) (tt : TT) : Prop where
  tr : TrieAt h q bits tt
  er : tt.er = t2
  keep : ∀ b, b < H.length → b ≠ q → b ∉ t.bl → hget h b = hget H b
  new : ∀ b, b ∈ tt.bl → b ∈ t.bl ∨ H.length ≤ b
  len : H.length ≤ h.length
theorem PutI.mark {H h h' : Heap} {q bits : Nat} {t tt : TT} {p : List Bool} (I : PutI H q bits t p h tt) {b : Nat} {u : Bool} {i j : Int} {l r : TT} (hf : tt.find p = .node b u i l r) (hq : q < H.length)
    (e2 : hget h' b = some (.cells [l.ptr, r.ptr, .bool true, .int .i64 j] false)) (e3 : ∀ c, c < h.length → c ≠ b → hget h' c = hget h c) (hl : h.length ≤ h'.length) :
    ∃ tt', PutQ H q bits t (t.er.put p j) h' tt' := by
  have hbm : b ∈ tt.bl := TT.find_bl p tt b (by rw [hf]; exact List.mem_cons_self ..)
  have hat := I.tr.at_.find p
  have hlt := fun c => TT.find_bl p tt c
  have hnd := TT.find_nodup p (List.nodup_cons.1 I.tr.nd).2
  rw [hf] at hat hnd
  rw [TT.bl_node, List.nodup_cons, List.nodup_append, List.mem_append, not_or] at hnd
  have hh : h.length ∉ tt.bl := fun hm => by have := I.tr.at_.lt _ hm; omega
  have tr := kid_step (n := l) (x := false) (at_ := h.length) (u' := true) (i' := j) I.tr hf hh (by have := I.len; omega)
    (hat.2.1.keep fun c hc => e3 c (hat.2.1.lt c hc) (by rintro rfl; exact hnd.1.1 hc)) (by rw [e2]; rfl) (fun c hc h1 _ => e3 c hc h1) hnd.2.1 (fun c hc => .inr hc)
  refine ⟨_, tr, ?_, ?_, ?_, ?_⟩
  · rw [TT.er_sub, ← T.put_eq, ← I.er, ← TT.er_find, hf]
    rfl
  · intro c hc k1 k2
    have := I.len
    rw [e3 c (by omega) (by rintro rfl; rcases I.new c hbm with h | h; exact k2 h; omega)]
    exact I.keep c hc k1 k2
  · intro c hc
    rcases TT.sub_mem p hc with h | h
    · exact I.new c (hlt c (by rw [hf]; exact h))
    · exact I.new c h
  · have := I.len; omega

/-- A heap turns, but for what is owned. -/
def Kp (Ow : Heap → Nat → Prop) (h h' : Heap) : Prop := h.length ≤ h'.length ∧ (∀ b, b < h.length → ¬ Ow h b → hget h' b = hget h b) ∧ ∀ b, Ow h' b → Ow h b ∨ h.length ≤ b
theorem Kp.not {Ow : Heap → Nat → Prop} {h h' : Heap} (k : Kp Ow h h') {b : Nat} (hb : b < h.length) (hn : ¬ Ow h b) : ¬ Ow h' b := fun ho => by
  rcases k.2.2 b ho with h1 | h1
  · exact hn h1
  · omega
theorem Kp.trans {Ow : Heap → Nat → Prop} {h h1 h2 : Heap} (k : Kp Ow h h1) (l : Kp Ow h1 h2) : Kp Ow h h2 := by
  refine ⟨Nat.le_trans k.1 l.1, fun b hb hn => ?_, fun b ho => ?_⟩
  · rw [l.2.1 b (by have := k.1; omega) (k.not hb hn)]; exact k.2.1 b hb hn
  · rcases l.2.2 b ho with h' | h'
    · exact k.2.2 b h'
    · right; have := k.1; omega
theorem Kp.app {Ow : Heap → Nat → Prop} {h L : Heap} (o : ∀ b, Ow (h ++ L) b → Ow h b) : Kp Ow h (h ++ L) := ⟨by simp, fun b hb _ => hget_appl hb, fun b ho => .inl (o b ho)⟩
end Go.Ns
