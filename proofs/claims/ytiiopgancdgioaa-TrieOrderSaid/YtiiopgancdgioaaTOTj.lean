/- Trie: TrieOrder, what is said without memory; two tries in a heap. -/
import Derived.Test.YtiiopgancdgioaaTOTZ
set_option linter.unusedSimpArgs false
set_option linter.unusedVariables false
set_option maxRecDepth 100000
namespace Go.Proofs
open Go.Ns

abbrev KeyT := BitVec 128 × Int
/-- What a list of calls says of a prefix. -/
def look (bits : Nat) (K : List OpD) (k : KeyT) : Option Int := (K.find? fun o => decide (prefO bits o = k)).map (·.id)
theorem look_nil {bits : Nat} {k : KeyT} : look bits [] k = none := rfl
theorem look_cons {bits : Nat} {o : OpD} {K : List OpD} {k : KeyT} : look bits (o :: K) k = if prefO bits o = k then some o.id else look bits K k := by
  unfold look
  rw [List.find?_cons]
  by_cases h : prefO bits o = k <;> simp [h]
theorem look_append {bits : Nat} {k : KeyT} : ∀ {K L : List OpD}, look bits (K ++ L) k = (look bits K k).or (look bits L k)
  | [], L => by rw [List.nil_append, look_nil]; rfl
  | o :: K, L => by
    rw [List.cons_append, look_cons, look_cons, look_append]
    split <;> rfl
theorem look_none {bits : Nat} {K : List OpD} {k : KeyT} : look bits K k = none ↔ k ∉ K.map (prefO bits) := by
  induction K with
  | nil => simp [look_nil]
  | cons o K ih =>
    rw [look_cons, List.map_cons, List.mem_cons, not_or]
    by_cases h : prefO bits o = k
    · rw [if_pos h]; simp [h]
    · rw [if_neg h, ih]; simp [Ne.symm h]
theorem look_some {bits : Nat} {K : List OpD} (hn : (K.map (prefO bits)).Nodup) {o : OpD} (ho : o ∈ K) : look bits K (prefO bits o) = some o.id := by
  induction K with
  | nil => cases ho
  | cons a K ih =>
    rw [List.map_cons, List.nodup_cons] at hn
    rw [look_cons]
    rcases List.mem_cons.1 ho with rfl | h
    · rw [if_pos rfl]
    · rw [if_neg (fun e => hn.1 (by rw [e]; exact List.mem_map_of_mem h)), ih hn.2 h]
/-- What a trie says, by a function. -/
def Says (bits : Nat) (t : T) (f : KeyT → Option Int) : Prop := ∀ k : KeyT, getP bits t k.1 k.2 = f k
theorem Says.put {bits : Nat} (hb : bits ≤ 128) {t : T} {f : KeyT → Option Int} (s : Says bits t f) (o : OpD) : Says bits (putO bits t (prefO bits o).1 (prefO bits o).2 o.id) fun k => if okP bits (prefO bits o).1 (prefO bits o).2 = true ∧ f (prefO bits o) = none ∧ k = prefO bits o then some o.id else f k := by
  intro k
  rw [getP_put hb, s (prefO bits o), s k]
  have : (k.1 = (prefO bits o).1 ∧ k.2 = (prefO bits o).2) ↔ k = prefO bits o := Prod.ext_iff.symm
  simp only [this]
theorem Says.rem {bits : Nat} (hb : bits ≤ 128) {t : T} {f : KeyT → Option Int} (s : Says bits t f) (k0 : KeyT) : Says bits (remO bits t k0.1 k0.2) fun k => if k = k0 then none else f k := by
  intro k
  rw [getP_rem hb, s k]
  have : (k.1 = k0.1 ∧ k.2 = k0.2) ↔ k = k0 := Prod.ext_iff.symm
  simp only [this]
theorem Says.congr {bits : Nat} {t : T} {f g : KeyT → Option Int} (s : Says bits t f) (h : ∀ k, f k = g k) : Says bits t g := fun k => (s k).trans (h k)
/-- Calls whose prefixes were put one after the other. -/
structure KInv (bits : Nat) (t : T) (K : List OpD) : Prop where
  says : Says bits t (look bits K)
  okp : ∀ o, o ∈ K → okP bits (prefO bits o).1 (prefO bits o).2 = true
  nd : (K.map (prefO bits)).Nodup
  oks : ∀ o, o ∈ K → o.OK
theorem KInv.nil {bits : Nat} : KInv bits .nil [] := ⟨fun k => by unfold getP; rw [T.get_nil, look_nil]; split <;> rfl, fun o h => (by cases h), List.nodup_nil, fun o h => (by cases h)⟩
theorem KInv.put {bits : Nat} (hb : bits ≤ 128) {t : T} {K : List OpD} (i : KInv bits t K) (o : OpD) (hoo : o.OK) :
    ((okP bits (prefO bits o).1 (prefO bits o).2 && (getP bits t (prefO bits o).1 (prefO bits o).2).isNone) = true → KInv bits (putO bits t (prefO bits o).1 (prefO bits o).2 o.id) (K ++ [o])) ∧
    ((okP bits (prefO bits o).1 (prefO bits o).2 && (getP bits t (prefO bits o).1 (prefO bits o).2).isNone) = false → KInv bits (putO bits t (prefO bits o).1 (prefO bits o).2 o.id) K) := by
  constructor
  · intro h
    simp only [Bool.and_eq_true, Option.isNone_iff_eq_none] at h
    have hl : look bits K (prefO bits o) = none := by rw [← i.says]; exact h.2
    refine ⟨(i.says.put hb o).congr fun k => ?_, fun x hx => ?_, ?_, fun x hx => ?_⟩
    · rw [look_append, look_cons, look_nil]
      by_cases hk : k = prefO bits o
      · rw [if_pos ⟨h.1, hl, hk⟩, hk, hl, if_pos rfl]; rfl
      · rw [if_neg (fun x => hk x.2.2), if_neg (Ne.symm hk)]; simp
    · rcases List.mem_append.1 hx with hx | hx
      · exact i.okp x hx
      · rw [List.mem_singleton.1 hx]; exact h.1
    · rw [List.map_append, List.nodup_append]
      refine ⟨i.nd, by simp, fun a ha b hb' e => ?_⟩
      simp only [List.map_cons, List.map_nil, List.mem_singleton] at hb'
      subst e; subst hb'
      exact look_none.1 hl ha
    · rcases List.mem_append.1 hx with hx | hx
      · exact i.oks x hx
      · rw [List.mem_singleton.1 hx]; exact hoo
  · intro h
    have : putO bits t (prefO bits o).1 (prefO bits o).2 o.id = t := by
      unfold putO
      rw [if_neg]
      rintro ⟨h1, h2⟩
      rw [h1, h2] at h; cases h
    rw [this]; exact i
theorem says3 {bits : Nat} (hb : bits ≤ 128) {t : T} {K A : List OpD} (hok : ∀ o, o ∈ K → okP bits (prefO bits o).1 (prefO bits o).2 = true) (hn : (K.map (prefO bits)).Nodup) {i : Nat} (hi : i < K.length)
    (s : Says bits t fun k => (look bits A k).or (look bits (K.drop (i + 1)) k)) : Says bits (putO bits t (prefO bits K[i]).1 (prefO bits K[i]).2 K[i].id) fun k => (look bits A k).or (look bits (K.drop i) k) := by
  refine (s.put hb K[i]).congr fun k => ?_
  rw [List.drop_eq_getElem_cons hi, look_cons]
  have hx : look bits (K.drop (i + 1)) (prefO bits K[i]) = none := by
    rw [look_none]
    intro hm
    have h := hn
    rw [← List.take_append_drop i K, List.drop_eq_getElem_cons hi, List.map_append, List.nodup_append, List.map_cons, List.nodup_cons] at h
    exact h.2.1.1 hm
  by_cases hk : k = prefO bits K[i]
  · subst hk
    simp only [hx, hok K[i] (List.getElem_mem _), if_true, true_and, and_true]
    cases look bits A (prefO bits K[i]) <;> simp
  · rw [if_neg (fun x => hk x.2.2), if_neg (Ne.symm hk)]
theorem says4 {bits : Nat} (hb : bits ≤ 128) {t : T} {A : List OpD} {f : KeyT → Option Int} {j : Nat} (hj : j < A.length) (s : Says bits t fun k => if k ∈ (A.take j).map (prefO bits) then none else f k) :
    Says bits (remO bits t (prefO bits A[j]).1 (prefO bits A[j]).2) fun k => if k ∈ (A.take (j + 1)).map (prefO bits) then none else f k := by
  refine (s.rem hb (prefO bits A[j])).congr fun k => ?_
  rw [← List.take_append_getElem hj, List.map_append, List.map_cons, List.map_nil]
  simp only [List.mem_append, List.mem_singleton]
  by_cases h : k = prefO bits A[j]
  · simp [h]
  · simp [h]
theorem says5 {bits : Nat} (hb : bits ≤ 128) {t : T} {K : List OpD} {f : KeyT → Option Int} (hok : ∀ o, o ∈ K → okP bits (prefO bits o).1 (prefO bits o).2 = true) {j : Nat} (hj : j < K.length)
    (s : Says bits t fun k => (f k).or (look bits (K.take j) k)) : Says bits (putO bits t (prefO bits K[j]).1 (prefO bits K[j]).2 K[j].id) fun k => (f k).or (look bits (K.take (j + 1)) k) := by
  refine (s.put hb K[j]).congr fun k => ?_
  rw [← List.take_append_getElem hj, look_append, look_cons, look_nil]
  by_cases hk : k = prefO bits K[j]
  · subst hk
    simp only [hok K[j] (List.getElem_mem _), if_true, true_and, and_true]
    cases f (prefO bits K[j]) <;> cases look bits (K.take j) (prefO bits K[j]) <;> simp
  · rw [if_neg (fun x => hk x.2.2), if_neg (Ne.symm hk)]
    simp

/-! ### Two tries and two lists in a heap -/
def inL (v : NV) (b : Nat) : Prop := ∃ n c, v = .slice (some (b, 0)) n c
structure St2 (N : Nat) (h : Heap) (qx qy bits : Nat) (tx ty : TT) (K A : List OpD) (vK vA : NV) : Prop where
  x : TrieAt h qx bits tx
  y : TrieAt h qy bits ty
  ox : tx.er.ok bits
  oy : ty.er.ok bits
  k : GrC h N (K.flatMap opC) 6 vK
  a : GrC h N (A.flatMap opC) 6 vA
  lx : ∀ b, b = qx ∨ b ∈ tx.bl → N ≤ b ∧ ¬ (b = qy ∨ b ∈ ty.bl) ∧ ¬ inL vK b ∧ ¬ inL vA b
  ly : ∀ b, b = qy ∨ b ∈ ty.bl → N ≤ b ∧ ¬ inL vK b ∧ ¬ inL vA b
  lk : ∀ b, inL vK b → ¬ inL vA b
  hN : N ≤ h.length
section
variable {N : Nat} {h h' : Heap} {qx qy bits : Nat} {tx ty : TT} {K A : List OpD} {vK vA : NV}
theorem grc_keep {C : List NV} {e : Nat} {v : NV} (g : GrC h N C e v) (k : ∀ b, inL v b → hget h' b = hget h b) : GrC h' N C e v := by
  rcases g with g | ⟨b, l, h1, h2, h3, h4⟩
  · exact .inl g
  · exact .inr ⟨b, l, h1, h2, by rw [k b ⟨_, _, h1⟩]; exact h3, h4⟩
theorem St2.app (s : St2 N h qx qy bits tx ty K A vK vA) (L : Heap) : St2 N (h ++ L) qx qy bits tx ty K A vK vA :=
  ⟨s.x.app L, s.y.app L, s.ox, s.oy, s.k.ext Ext.app, s.a.ext Ext.app, s.lx, s.ly, s.lk, by have := s.hN; simp; omega⟩
theorem inL_lt {C : List NV} {e : Nat} {v : NV} (g : GrC h N C e v) {b : Nat} (hb : inL v b) : b < h.length ∧ N ≤ b := by
  obtain ⟨n, c, hv⟩ := hb
  exact g.ltb hv
theorem St2.putX (s : St2 N h qx qy bits tx ty K A vK vA) {t2 : T} {tx' : TT} (p : PutQ h qx bits tx t2 h' tx') (ho : t2.ok bits) : St2 N h' qx qy bits tx' ty K A vK vA ∧ ∀ b, b < N → hget h' b = hget h b := by
  have new : ∀ b, b = qx ∨ b ∈ tx'.bl → (b = qx ∨ b ∈ tx.bl) ∨ h.length ≤ b := by
    rintro b (rfl | hb)
    · exact .inl (.inl rfl)
    · exact (p.new b hb).imp .inr id
  have keep : ∀ b, b < h.length → ¬ (b = qx ∨ b ∈ tx.bl) → hget h' b = hget h b := fun b hb hn => p.keep b hb (fun e => hn (.inl e)) (fun e => hn (.inr e))
  refine ⟨⟨p.tr, s.y.keep fun b hb => keep b (s.y.lt hb) fun hx => (s.lx b hx).2.1 hb, by rw [p.er]; exact ho, s.oy, grc_keep s.k fun b hb => keep b (inL_lt s.k hb).1 fun hx => (s.lx b hx).2.2.1 hb, grc_keep s.a fun b hb => keep b (inL_lt s.a hb).1 fun hx => (s.lx b hx).2.2.2 hb,
    fun b hb => ?_, s.ly, s.lk, Nat.le_trans s.hN p.len⟩, fun b hb => keep b (by have := s.hN; omega) fun hx => by have := (s.lx b hx).1; omega⟩
  rcases new b hb with h1 | h1
  · exact s.lx b h1
  · refine ⟨Nat.le_trans s.hN h1, fun hy => ?_, fun hk => ?_, fun ha => ?_⟩
    · have := s.y.lt hy; omega
    · have := (inL_lt s.k hk).1; omega
    · have := (inL_lt s.a ha).1; omega
theorem St2.putY (s : St2 N h qx qy bits tx ty K A vK vA) {t2 : T} {ty' : TT} (p : PutQ h qy bits ty t2 h' ty') (ho : t2.ok bits) : St2 N h' qx qy bits tx ty' K A vK vA ∧ ∀ b, b < N → hget h' b = hget h b := by
  have new : ∀ b, b = qy ∨ b ∈ ty'.bl → (b = qy ∨ b ∈ ty.bl) ∨ h.length ≤ b := by
    rintro b (rfl | hb)
    · exact .inl (.inl rfl)
    · exact (p.new b hb).imp .inr id
  have keep : ∀ b, b < h.length → ¬ (b = qy ∨ b ∈ ty.bl) → hget h' b = hget h b := fun b hb hn => p.keep b hb (fun e => hn (.inl e)) (fun e => hn (.inr e))
  refine ⟨⟨s.x.keep fun b hb => keep b (s.x.lt hb) fun hy => (s.lx b hb).2.1 hy, p.tr, s.ox, by rw [p.er]; exact ho, grc_keep s.k fun b hb => keep b (inL_lt s.k hb).1 fun hx => (s.ly b hx).2.1 hb, grc_keep s.a fun b hb => keep b (inL_lt s.a hb).1 fun hx => (s.ly b hx).2.2 hb,
    fun b hb => ?_, fun b hb => ?_, s.lk, Nat.le_trans s.hN p.len⟩, fun b hb => keep b (by have := s.hN; omega) fun hx => by have := (s.ly b hx).1; omega⟩
  · obtain ⟨h1, h2, h3⟩ := s.lx b hb
    refine ⟨h1, fun hy => ?_, h3⟩
    rcases new b hy with h4 | h4
    · exact h2 h4
    · have := s.x.lt hb; omega
  · rcases new b hb with h1 | h1
    · exact s.ly b h1
    · refine ⟨Nat.le_trans s.hN h1, fun hk => ?_, fun ha => ?_⟩
      · have := (inL_lt s.k hk).1; omega
      · have := (inL_lt s.a ha).1; omega
/-- The first list grows. -/
theorem St2.appK (s : St2 N h qx qy bits tx ty K A vK vA) {o : OpD} {v' : NV} (g : GrC h' N ((K.flatMap opC) ++ opC o) 6 v') (hl : h.length ≤ h'.length) (k : ∀ b, b < h.length → (∀ n c, vK ≠ .slice (some (b, 0)) n c) → hget h' b = hget h b) (n : ∀ b m c, v' = .slice (some (b, 0)) m c → b = h.length) :
    St2 N h' qx qy bits tx ty (K ++ [o]) A v' vA := by
  have keep : ∀ b, b < h.length → ¬ inL vK b → hget h' b = hget h b := fun b hb hn => k b hb fun m c e => hn ⟨m, c, e⟩
  have nv : ∀ b, inL v' b → b = h.length := fun b ⟨m, c, e⟩ => n b m c e
  refine ⟨s.x.keep fun b hb => keep b (s.x.lt hb) (s.lx b hb).2.2.1, s.y.keep fun b hb => keep b (s.y.lt hb) (s.ly b hb).2.1, s.ox, s.oy, by rw [List.flatMap_append]; simpa using g, grc_keep s.a fun b hb => keep b (inL_lt s.a hb).1 fun hk => s.lk b hk hb,
    fun b hb => ?_, fun b hb => ?_, fun b hb ha => ?_, Nat.le_trans s.hN hl⟩
  · obtain ⟨h1, h2, h3, h4⟩ := s.lx b hb
    exact ⟨h1, h2, fun hk => by have := nv b hk; have := s.x.lt hb; omega, h4⟩
  · obtain ⟨h1, h2, h3⟩ := s.ly b hb
    exact ⟨h1, fun hk => by have := nv b hk; have := s.y.lt hb; omega, h3⟩
  · have := nv b hb; have := (inL_lt s.a ha).1; omega
theorem St2.appA (s : St2 N h qx qy bits tx ty K A vK vA) {o : OpD} {v' : NV} (g : GrC h' N ((A.flatMap opC) ++ opC o) 6 v') (hl : h.length ≤ h'.length) (k : ∀ b, b < h.length → (∀ n c, vA ≠ .slice (some (b, 0)) n c) → hget h' b = hget h b) (n : ∀ b m c, v' = .slice (some (b, 0)) m c → b = h.length) :
    St2 N h' qx qy bits tx ty K (A ++ [o]) vK v' := by
  have keep : ∀ b, b < h.length → ¬ inL vA b → hget h' b = hget h b := fun b hb hn => k b hb fun m c e => hn ⟨m, c, e⟩
  have nv : ∀ b, inL v' b → b = h.length := fun b ⟨m, c, e⟩ => n b m c e
  refine ⟨s.x.keep fun b hb => keep b (s.x.lt hb) (s.lx b hb).2.2.2, s.y.keep fun b hb => keep b (s.y.lt hb) (s.ly b hb).2.2, s.ox, s.oy, grc_keep s.k fun b hb => keep b (inL_lt s.k hb).1 (s.lk b hb), by rw [List.flatMap_append]; simpa using g,
    fun b hb => ?_, fun b hb => ?_, fun b hb ha => ?_, Nat.le_trans s.hN hl⟩
  · obtain ⟨h1, h2, h3, h4⟩ := s.lx b hb
    exact ⟨h1, h2, h3, fun hk => by have := nv b hk; have := s.x.lt hb; omega⟩
  · obtain ⟨h1, h2, h3⟩ := s.ly b hb
    exact ⟨h1, h2, fun hk => by have := nv b hk; have := s.y.lt hb; omega⟩
  · have := nv b ha; have := (inL_lt s.k hb).1; omega
theorem ops_len (l : List OpD) : (l.flatMap opC).length = l.length * 6 := by
  induction l with
  | nil => rfl
  | cons a l ih => rw [List.flatMap_cons, List.length_append, ih, List.length_cons, opC_length]; omega
/-- A list of calls, as it is read. -/
theorem grc_ops {v : NV} {l : List OpD} (g : GrC h N (l.flatMap opC) 6 v) : ∃ B c, v = .slice B l.length c ∧ (0 < l.length → ∃ b, B = some (b, 0) ∧ hget h b = some (.cells (l.flatMap opC) false)) := by
  rcases g with ⟨h1, h2⟩ | ⟨b, k, h1, h2, h3, h4, h5⟩
  · have := congrArg List.length h1
    rw [ops_len] at this
    simp only [List.length_nil] at this
    have : l.length = 0 := by omega
    exact ⟨none, .fix 0, by rw [this]; exact h2, fun h => by omega⟩
  · rw [ops_len] at h4
    have : k = l.length := by omega
    subst this
    exact ⟨_, _, h1, fun _ => ⟨b, rfl, h3⟩⟩
theorem op_cut {l : List OpD} {j : Nat} (hj : j < l.length) : cut (l.flatMap opC) (j * 6) 6 = some (opC l[j]) := cut_flatMap opC_length hj
end
end Go.Proofs
