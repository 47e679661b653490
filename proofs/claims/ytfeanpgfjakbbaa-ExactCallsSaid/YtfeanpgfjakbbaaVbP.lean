/- Points: four values, their order, sorted lists of them. -/
import Derived.Test.YtfeanpgfjakbbaaVbB
import Derived.Test.YtfeanpgfjakbbaaFsM
set_option linter.unusedVariables false
set_option linter.unusedSimpArgs false
namespace Go.Ns

abbrev Pt := BitVec 128 × BitVec 128 × BitVec 128 × BitVec 128
def ptC (p : Pt) : List NV := [nb (hiOf p.1), nb (loOf p.1), nb (hiOf p.2.1), nb (loOf p.2.1), nb (hiOf p.2.2.1), nb (loOf p.2.2.1), nb (hiOf p.2.2.2), nb (loOf p.2.2.2)]
def ptV (p : Pt) : NV := .agg (ptC p)
theorem ptC_length (p : Pt) : (ptC p).length = 8 := rfl
def prC (x : Pt × Int) : List NV := ptC x.1 ++ [.int .i64 x.2]
theorem prC_length (x : Pt × Int) : (prC x).length = 9 := rfl
def k8 : List CK := [.int, .int, .int, .int, .int, .int, .int, .int]
theorem eqCells_pt (p q : Pt) : eqCells k8 (ptC p) (ptC q) = some (decide (p = q)) := by
  obtain ⟨a, b, c, d⟩ := p
  obtain ⟨a', b', c', d'⟩ := q
  simp only [k8, ptC, eqCells, eqCell_nb]
  congr 1
  have e1 := words_eq (a := a) (b := a')
  have e2 := words_eq (a := b) (b := b')
  have e3 := words_eq (a := c) (b := c')
  have e4 := words_eq (a := d) (b := d')
  have key : (decide ((a, b, c, d) = (a', b', c', d'))) = ((a == a') && ((b == b') && ((c == c') && (d == d')))) := by
    rw [Bool.eq_iff_iff]
    simp
  rw [key, ← e1, ← e2, ← e3, ← e4]
  simp only [Bool.and_assoc, Bool.and_true]
theorem keyPt : KeyEnc true k8 ptV where
  eq x y := by simp only [eqVal, if_true, ptV]; exact eqCells_pt x y
  ok x := rfl

/-- A point as a number. -/
def ptN (p : Pt) : Nat := ((p.1.toNat * 2 ^ 128 + p.2.1.toNat) * 2 ^ 128 + p.2.2.1.toNat) * 2 ^ 128 + p.2.2.2.toNat
def cmpP (p q : Pt) : Int := if p = q then 0 else if ptN p < ptN q then -1 else 1
theorem mix_lt {a a' b b' M : Nat} (hb : b < M) (hb' : b' < M) : a * M + b < a' * M + b' ↔ a < a' ∨ a = a' ∧ b < b' := by
  constructor
  · intro h
    rcases Nat.lt_trichotomy a a' with h1 | h1 | h1
    · exact .inl h1
    · subst h1; exact .inr ⟨rfl, by omega⟩
    · exfalso
      have := Nat.mul_le_mul_right M (show a' + 1 ≤ a from h1)
      rw [Nat.add_mul, Nat.one_mul] at this
      omega
  · rintro (h | ⟨rfl, h⟩)
    · have := Nat.mul_le_mul_right M (show a + 1 ≤ a' from h)
      rw [Nat.add_mul, Nat.one_mul] at this
      omega
    · omega
theorem mix_inj {a a' b b' M : Nat} (hb : b < M) (hb' : b' < M) (h : a * M + b = a' * M + b') : a = a' ∧ b = b' := by
  rcases Nat.lt_trichotomy a a' with h1 | h1 | h1
  · have := (mix_lt hb hb').2 (.inl h1); omega
  · subst h1; exact ⟨rfl, by omega⟩
  · have := (mix_lt hb' hb).2 (.inl h1); omega
theorem ptN_inj {p q : Pt} (h : ptN p = ptN q) : p = q := by
  unfold ptN at h
  obtain ⟨h, h4⟩ := mix_inj p.2.2.2.isLt q.2.2.2.isLt h
  obtain ⟨h, h3⟩ := mix_inj p.2.2.1.isLt q.2.2.1.isLt h
  obtain ⟨h1, h2⟩ := mix_inj p.2.1.isLt q.2.1.isLt h
  obtain ⟨a, b, c, d⟩ := p
  obtain ⟨a', b', c', d'⟩ := q
  simp only at h1 h2 h3 h4
  rw [BitVec.eq_of_toNat_eq h1, BitVec.eq_of_toNat_eq h2, BitVec.eq_of_toNat_eq h3, BitVec.eq_of_toNat_eq h4]
theorem ptN_lt {p q : Pt} : ptN p < ptN q ↔ p.1.toNat < q.1.toNat ∨ p.1 = q.1 ∧ (p.2.1.toNat < q.2.1.toNat ∨ p.2.1 = q.2.1 ∧ (p.2.2.1.toNat < q.2.2.1.toNat ∨ p.2.2.1 = q.2.2.1 ∧ p.2.2.2.toNat < q.2.2.2.toNat)) := by
  unfold ptN
  rw [mix_lt p.2.2.2.isLt q.2.2.2.isLt, mix_lt p.2.2.1.isLt q.2.2.1.isLt, mix_lt p.2.1.isLt q.2.1.isLt]
  have e1 : (p.1.toNat * 2 ^ 128 + p.2.1.toNat) = (q.1.toNat * 2 ^ 128 + q.2.1.toNat) ↔ p.1 = q.1 ∧ p.2.1 = q.2.1 := by
    constructor
    · intro h
      obtain ⟨h1, h2⟩ := mix_inj p.2.1.isLt q.2.1.isLt h
      exact ⟨BitVec.eq_of_toNat_eq h1, BitVec.eq_of_toNat_eq h2⟩
    · rintro ⟨h1, h2⟩; rw [h1, h2]
  have e2 : ((p.1.toNat * 2 ^ 128 + p.2.1.toNat) * 2 ^ 128 + p.2.2.1.toNat) = ((q.1.toNat * 2 ^ 128 + q.2.1.toNat) * 2 ^ 128 + q.2.2.1.toNat) ↔ (p.1 = q.1 ∧ p.2.1 = q.2.1) ∧ p.2.2.1 = q.2.2.1 := by
    constructor
    · intro h
      obtain ⟨h1, h2⟩ := mix_inj p.2.2.1.isLt q.2.2.1.isLt h
      exact ⟨e1.1 h1, BitVec.eq_of_toNat_eq h2⟩
    · rintro ⟨h1, h2⟩; rw [e1.2 h1, h2]
  rw [e1, e2]
  have e3 : p.1.toNat = q.1.toNat ↔ p.1 = q.1 := ⟨BitVec.eq_of_toNat_eq, fun h => by rw [h]⟩
  rw [e3]
  constructor
  · rintro (((h | ⟨h1, h2⟩) | ⟨⟨h1, h2⟩, h3⟩) | ⟨⟨⟨h1, h2⟩, h3⟩, h4⟩)
    · exact .inl h
    · exact .inr ⟨h1, .inl h2⟩
    · exact .inr ⟨h1, .inr ⟨h2, .inl h3⟩⟩
    · exact .inr ⟨h1, .inr ⟨h2, .inr ⟨h3, h4⟩⟩⟩
  · rintro (h | ⟨h1, h | ⟨h2, h | ⟨h3, h4⟩⟩⟩)
    · exact .inl (.inl (.inl h))
    · exact .inl (.inl (.inr ⟨h1, h⟩))
    · exact .inl (.inr ⟨⟨h1, h2⟩, h⟩)
    · exact .inr ⟨⟨⟨h1, h2⟩, h3⟩, h4⟩
theorem cmpV_zero {a b : BitVec 128} : cmpV a b = 0 ↔ a = b := by
  unfold cmpV
  by_cases h : a = b
  · simp [h]
  · by_cases h2 : a.toNat < b.toNat <;> simp [h, h2]
theorem cmpV_lt {a b : BitVec 128} (h : a ≠ b) : cmpV a b = if a.toNat < b.toNat then -1 else 1 := by
  unfold cmpV; rw [if_neg h]
/-- The first value that differs decides. -/
theorem cmpP_steps (p q : Pt) : cmpP p q = if cmpV p.1 q.1 ≠ 0 then cmpV p.1 q.1 else if cmpV p.2.1 q.2.1 ≠ 0 then cmpV p.2.1 q.2.1 else if cmpV p.2.2.1 q.2.2.1 ≠ 0 then cmpV p.2.2.1 q.2.2.1 else cmpV p.2.2.2 q.2.2.2 := by
  unfold cmpP
  simp only [ne_eq, cmpV_zero]
  by_cases h1 : p.1 = q.1
  · by_cases h2 : p.2.1 = q.2.1
    · by_cases h3 : p.2.2.1 = q.2.2.1
      · by_cases h4 : p.2.2.2 = q.2.2.2
        · have : p = q := Prod.ext h1 (Prod.ext h2 (Prod.ext h3 h4))
          subst this
          simp [cmpV_zero.2]
        · have : p ≠ q := fun e => h4 (by rw [e])
          simp only [this, h1, h2, h3, ptN_lt, not_true_eq_false, if_false, cmpV_lt h4, Nat.lt_irrefl, true_and, false_or]
      · have : p ≠ q := fun e => h3 (by rw [e])
        simp only [this, h1, h2, h3, ptN_lt, not_true_eq_false, not_false_eq_true, if_false, if_true, cmpV_lt h3, Nat.lt_irrefl, true_and, false_or, false_and, or_false]
    · have : p ≠ q := fun e => h2 (by rw [e])
      simp only [this, h1, h2, ptN_lt, not_true_eq_false, not_false_eq_true, if_false, if_true, cmpV_lt h2, Nat.lt_irrefl, true_and, false_or, false_and, or_false]
  · have : p ≠ q := fun e => h1 (by rw [e])
    simp only [this, h1, ptN_lt, not_true_eq_false, not_false_eq_true, if_false, if_true, cmpV_lt h1, Nat.lt_irrefl, true_and, false_or, false_and, or_false]
theorem cmpP_neg {p q : Pt} : cmpP p q < 0 ↔ ptN p < ptN q := by
  unfold cmpP
  by_cases h : p = q
  · subst h; simp
  · by_cases h2 : ptN p < ptN q <;> simp [h, h2]
theorem cmpP_range {p q : Pt} : -1 ≤ cmpP p q ∧ cmpP p q ≤ 1 := by
  unfold cmpP
  split
  · omega
  · split <;> omega

/-! ### Sorted lists -/
def SortedP (l : List (Pt × Int)) : Prop := l.Pairwise fun x y => ptN x.1 < ptN y.1
theorem SortedP.eq : ∀ {l m : List (Pt × Int)}, SortedP l → SortedP m → l.Perm m → l = m
  | [], m, _, _, h => by
    have := h.length_eq
    cases m with
    | nil => rfl
    | cons a m => simp at this
  | a :: l, [], _, _, h => by
    have := h.length_eq
    simp at this
  | a :: l, b :: m, hl, hm, h => by
    unfold SortedP at hl hm
    rw [List.pairwise_cons] at hl hm
    have hab : a = b := by
      have h1 : a ∈ b :: m := h.mem_iff.1 (List.mem_cons_self ..)
      have h2 : b ∈ a :: l := h.mem_iff.2 (List.mem_cons_self ..)
      rcases List.mem_cons.1 h1 with h1 | h1
      · exact h1
      · rcases List.mem_cons.1 h2 with h2 | h2
        · exact h2.symm
        · have := hm.1 a h1
          have := hl.1 b h2
          omega
    subst hab
    rw [SortedP.eq hl.2 hm.2 (List.Perm.cons_inv h)]
theorem SortedP.nodup {l : List (Pt × Int)} (h : SortedP l) : (l.map (·.1)).Nodup := by
  unfold List.Nodup
  rw [List.pairwise_map]
  exact h.imp fun h e => by rw [e] at h; exact Nat.lt_irrefl _ h
/-- How many come before. -/
def placeP : List (Pt × Int) → Pt → Nat
  | [], _ => 0
  | x :: l, p => if ptN x.1 < ptN p then placeP l p + 1 else 0
theorem placeP_le : ∀ (l : List (Pt × Int)) (p : Pt), placeP l p ≤ l.length
  | [], _ => Nat.le_refl _
  | x :: l, p => by
    unfold placeP
    split
    · have := placeP_le l p; simp; omega
    · exact Nat.zero_le _
theorem placeP_lt : ∀ (l : List (Pt × Int)) (p : Pt) (i : Nat) (hi : i < l.length), i < placeP l p → ptN l[i].1 < ptN p
  | [], _, i, hi, _ => by simp at hi
  | x :: l, p, i, hi, h => by
    unfold placeP at h
    split at h
    · rename_i hx
      cases i with
      | zero => exact hx
      | succ i => exact placeP_lt l p i (by simpa using hi) (by omega)
    · omega
theorem placeP_at : ∀ (l : List (Pt × Int)) (p : Pt) (h : placeP l p < l.length), ¬ ptN l[placeP l p].1 < ptN p
  | [], _, h => by simp [placeP] at h
  | x :: l, p, h => by
    by_cases hx : ptN x.1 < ptN p
    · have e : placeP (x :: l) p = placeP l p + 1 := by simp [placeP, hx]
      have h' : placeP l p < l.length := by rw [e] at h; simpa using h
      have := placeP_at l p h'
      simp only [e, List.getElem_cons_succ]
      exact this
    · have e : placeP (x :: l) p = 0 := by simp [placeP, hx]
      simp only [e, List.getElem_cons_zero]
      exact hx
/-- Is it there? -/
def thereP (l : List (Pt × Int)) (p : Pt) : Bool := match l[placeP l p]? with | some x => decide (x.1 = p) | none => false
theorem SortedP.mem_at {l : List (Pt × Int)} (hs : SortedP l) {x : Pt × Int} (hx : x ∈ l) : l[placeP l x.1]? = some x := by
  obtain ⟨i, hi, rfl⟩ := List.getElem_of_mem hx
  have hs' := List.pairwise_iff_getElem.1 hs
  have h1 : placeP l l[i].1 ≤ i := by
    rcases Nat.lt_or_ge i (placeP l l[i].1) with h | h
    · have := placeP_lt l l[i].1 i hi h; omega
    · exact h
  rcases Nat.lt_or_ge (placeP l l[i].1) i with h | h
  · exact absurd (hs' (placeP l l[i].1) i (by omega) hi h) (placeP_at l l[i].1 (by omega))
  · have : placeP l l[i].1 = i := by omega
    rw [this, List.getElem?_eq_getElem hi]
theorem thereP_iff {l : List (Pt × Int)} (hs : SortedP l) (p : Pt) : thereP l p = true ↔ p ∈ l.map (·.1) := by
  unfold thereP
  constructor
  · intro h
    split at h
    · rename_i x hx
      simp only [decide_eq_true_eq] at h
      subst h
      exact List.mem_map_of_mem (List.mem_of_getElem? hx)
    · cases h
  · intro h
    obtain ⟨x, hx, rfl⟩ := List.mem_map.1 h
    rw [hs.mem_at hx]
    simp
def insP (l : List (Pt × Int)) (p : Pt) (i : Int) : List (Pt × Int) := l.take (placeP l p) ++ ((p, i) :: l.drop (placeP l p))
theorem insP_perm (l : List (Pt × Int)) (p : Pt) (i : Int) : (insP l p i).Perm ((p, i) :: l) := by
  unfold insP
  have := List.perm_middle (a := (p, i)) (l₁ := l.take (placeP l p)) (l₂ := l.drop (placeP l p))
  rw [List.take_append_drop] at this
  exact this
theorem SortedP.ins {l : List (Pt × Int)} (hs : SortedP l) {p : Pt} (i : Int) (hp : p ∉ l.map (·.1)) : SortedP (insP l p i) := by
  unfold insP SortedP
  have hd := List.pairwise_append.1 (show SortedP (l.take (placeP l p) ++ l.drop (placeP l p)) by rw [List.take_append_drop]; exact hs)
  rw [List.pairwise_append, List.pairwise_cons]
  have hlow : ∀ x ∈ l.take (placeP l p), ptN x.1 < ptN p := by
    intro x hx
    obtain ⟨j, hj, rfl⟩ := List.getElem_of_mem hx
    rw [List.length_take] at hj
    rw [List.getElem_take]
    exact placeP_lt l p j (by omega) (by omega)
  have hhigh : ∀ x ∈ l.drop (placeP l p), ptN p < ptN x.1 := by
    intro x hx
    obtain ⟨j, hj, rfl⟩ := List.getElem_of_mem hx
    rw [List.length_drop] at hj
    rw [List.getElem_drop]
    have h0 : placeP l p < l.length := by omega
    have h1 := placeP_at l p h0
    have hne : ptN l[placeP l p + j].1 ≠ ptN p := fun e => hp (by rw [← ptN_inj e]; exact List.mem_map_of_mem (List.getElem_mem _))
    have h2 : ptN l[placeP l p].1 ≤ ptN l[placeP l p + j].1 := by
      rcases Nat.eq_zero_or_pos j with h | h
      · subst h; exact Nat.le_refl _
      · exact Nat.le_of_lt (List.pairwise_iff_getElem.1 hs _ _ h0 (by omega) (by omega))
    omega
  refine ⟨hd.1, ⟨hhigh, hd.2.1⟩, fun x hx y hy => ?_⟩
  rcases List.mem_cons.1 hy with rfl | hy
  · exact hlow x hx
  · exact Nat.lt_trans (hlow x hx) (hhigh y hy)
theorem SortedP.sub {l m : List (Pt × Int)} (hs : SortedP l) (h : m.Sublist l) : SortedP m := List.Pairwise.sublist h hs
end Go.Ns
