/- Maps as lists of pairs: look-ups, writes, ranges. -/
import Derived.Test.YtimimfbiejijdaaFsJ
set_option linter.unusedVariables false
set_option linter.unusedSimpArgs false
namespace Go.Ns

section
variable {κ ν : Type} [DecidableEq κ]

/-- The first place of a key. -/
def findL : List (κ × ν) → κ → Nat → Option (Nat × ν)
  | [], _, _ => none
  | x :: l, k, i => if k = x.1 then some (i, x.2) else findL l k (i + 1)
def putL (l : List (κ × ν)) (k : κ) (v : ν) : List (κ × ν) := match findL l k 0 with | some (i, _) => l.set i (k, v) | none => l ++ [(k, v)]
def delL (l : List (κ × ν)) (k : κ) : List (κ × ν) := match findL l k 0 with | some (i, _) => l.eraseIdx i | none => l

structure KeyEnc {κ : Type} [DecidableEq κ] (g : Bool) (ks : List CK) (enc : κ → NV) : Prop where
  eq : ∀ x y, eqVal g ks (enc x) (enc y) = some (decide (x = y))
  ok : ∀ x, keyOk g ks (enc x) = true

def entR (encK : κ → NV) (encW : ν → NV) (es : List NEnt) (l : List (κ × ν)) : Prop := es.map (fun e => (e.key, e.val)) = l.map (fun x => (encK x.1, encW x.2))

/-- A map that lies in block 'b'. -/
def MapAt (encK : κ → NV) (encW : ν → NV) (h : Heap) (b : Nat) (l : List (κ × ν)) : Prop :=
  ∃ es clock, hget h b = some (.map es clock) ∧ entR encK encW es l ∧ (es.map (·.born)).Nodup ∧ (∀ e ∈ es, e.born < clock)

end

section
variable {κ ν : Type} {encK : κ → NV} {encW : ν → NV} {g : Bool} {ks : List CK} {h : Heap} {b : Nat} {l : List (κ × ν)}
theorem map_eraseIdx' {α β : Type} (f : α → β) : ∀ (l : List α) (i : Nat), (l.eraseIdx i).map f = (l.map f).eraseIdx i
  | [], _ => rfl
  | a :: l, 0 => rfl
  | a :: l, i + 1 => by simp [map_eraseIdx' f l i]

theorem MapAt.len (m : MapAt encK encW h b l) : (entsOf h (.map (some b))).map (fun es => NV.int .i64 es.length) = some (.int .i64 l.length) := by
  obtain ⟨es, clock, h1, h2, _⟩ := m
  have := congrArg List.length h2
  simp only [List.length_map] at this
  simp only [entsOf, h1, Option.map_some, this]
theorem MapAt.mono {h' : Heap} (m : MapAt encK encW h b l) (e : hget h' b = hget h b) : MapAt encK encW h' b l := by
  obtain ⟨es, clock, h1, h2⟩ := m
  exact ⟨es, clock, by rw [e]; exact h1, h2⟩
theorem MapAt.lt (m : MapAt encK encW h b l) : b < h.length := by
  obtain ⟨es, clock, h1, _⟩ := m
  exact hget_lt h1

theorem entR_len {es : List NEnt} (r : entR encK encW es l) : es.length = l.length := by
  have := congrArg List.length r
  simpa using this
theorem entR_get {es : List NEnt} (r : entR encK encW es l) {i : Nat} (hi : i < l.length) : ∃ e, es[i]? = some e ∧ e.key = encK l[i].1 ∧ e.val = encW l[i].2 := by
  have hl := entR_len r
  have hi' : i < es.length := by omega
  refine ⟨es[i], List.getElem?_eq_getElem hi', ?_⟩
  have := congrArg (fun x => x[i]?) r
  simp only [List.getElem?_map, List.getElem?_eq_getElem hi, List.getElem?_eq_getElem hi', Option.map_some, Option.some.injEq, Prod.mk.injEq] at this
  exact this

theorem entR_cons {e : NEnt} {es : List NEnt} {x : κ × ν} (r : entR encK encW (e :: es) (x :: l)) : e.key = encK x.1 ∧ e.val = encW x.2 ∧ entR encK encW es l := by
  simp only [entR, List.map_cons, List.cons.injEq, Prod.mk.injEq] at r
  exact ⟨r.1.1, r.1.2, r.2⟩

end

section
variable {κ ν : Type} [DecidableEq κ] {encK : κ → NV} {encW : ν → NV} {g : Bool} {ks : List CK} {h : Heap} {b : Nat} {l : List (κ × ν)}
theorem findEnt_ok (q : KeyEnc g ks encK) (k : κ) : ∀ {es : List NEnt} {l : List (κ × ν)} (i : Nat), entR encK encW es l → findEnt g ks (encK k) es i = some ((findL l k i).map fun p => (p.1, encW p.2))
  | [], [], _, _ => rfl
  | [], _ :: _, _, r => by simp [entR] at r
  | _ :: _, [], _, r => by simp [entR] at r
  | e :: es, x :: l, i, r => by
    obtain ⟨h1, h2, h3⟩ := entR_cons r
    unfold findEnt findL
    rw [h1, q.eq k x.1, h2]
    by_cases hx : k = x.1
    · simp [hx]
    · simp only [hx, decide_false, if_false]
      exact findEnt_ok q k (i + 1) h3

theorem findL_some {k : κ} : ∀ {l : List (κ × ν)} {i j : Nat} {v : ν}, findL l k i = some (j, v) → i ≤ j ∧ ∃ (hj : j - i < l.length), l[j - i] = (k, v)
  | [], _, _, _, e => by cases e
  | x :: l, i, j, v, e => by
    unfold findL at e
    split at e
    · rename_i hx
      cases e
      refine ⟨Nat.le_refl _, by simp, ?_⟩
      simp [hx]
    · obtain ⟨h1, h2, h3⟩ := findL_some e
      refine ⟨by omega, by simp; omega, ?_⟩
      have : j - i = (j - (i + 1)) + 1 := by omega
      simp only [this, List.getElem_cons_succ]
      exact h3
theorem findL_none {k : κ} : ∀ {l : List (κ × ν)} {i : Nat}, findL l k i = none ↔ k ∉ l.map (·.1)
  | [], _ => by simp [findL]
  | x :: l, i => by
    unfold findL
    by_cases hx : k = x.1
    · simp [hx]
    · simp only [hx, if_false, List.map_cons, List.mem_cons, false_or]
      exact findL_none

/-- A look-up. -/
theorem MapAt.look (q : KeyEnc g ks encK) (m : MapAt encK encW h b l) (k : κ) (z : NV) (ok : Bool) : nlook h g ks z ok (.map (some b)) (encK k) = some (lookupRes ok z ((findL l k 0).map fun p => (p.1, encW p.2))) := by
  obtain ⟨es, clock, h1, h2, _⟩ := m
  simp only [nlook, entsOf, h1, Option.bind_some, q.ok k, if_true, findEnt_ok q k 0 h2, Option.map_some]
theorem MapAt.put (q : KeyEnc g ks encK) (m : MapAt encK encW h b l) (k : κ) (v : ν) : ∃ x, nupdate g ks h (.map (some b)) (encK k) (encW v) = some (hset h b x) ∧ MapAt encK encW (hset h b x) b (putL l k v) := by
  obtain ⟨es, clock, h1, h2, h3, h4⟩ := m
  have hlt := hget_lt h1
  unfold putL
  cases hf : findL l k 0 with
  | none =>
    refine ⟨.map (es ++ [⟨encK k, encW v, clock⟩]) (clock + 1), by simp only [nupdate, h1, q.ok k, if_true, findEnt_ok q k 0 h2, hf, Option.map_none], es ++ [⟨encK k, encW v, clock⟩], clock + 1, hget_hset_same hlt, ?_, ?_, ?_⟩
    · simp only [entR, List.map_append, List.map_cons, List.map_nil]
      rw [h2]
    · rw [List.map_append, List.nodup_append]
      refine ⟨h3, by simp, fun a ha b hb => ?_⟩
      simp only [List.map_cons, List.map_nil, List.mem_singleton] at hb
      obtain ⟨e, he, rfl⟩ := List.mem_map.1 ha
      have := h4 e he
      omega
    · intro e he
      rcases List.mem_append.1 he with he | he
      · have := h4 e he; omega
      · simp only [List.mem_singleton] at he; subst he; show clock < clock + 1; omega
  | some p =>
    obtain ⟨i, w⟩ := p
    obtain ⟨_, hi, hli⟩ := findL_some hf
    simp only [Nat.sub_zero] at hi hli
    have hi' : i < es.length := by rw [entR_len h2]; exact hi
    refine ⟨.map (es.modify i fun e => { e with key := encK k, val := encW v }) clock, by simp only [nupdate, h1, q.ok k, if_true, findEnt_ok q k 0 h2, hf, Option.map_some], _, clock, hget_hset_same hlt, ?_, ?_, ?_⟩
    · simp only [entR]
      apply List.ext_getElem?
      intro j
      have e2 := congrArg (fun x => x[j]?) h2
      simp only [List.getElem?_map] at e2
      rw [List.getElem?_map, List.getElem?_map, List.getElem?_modify, List.getElem?_set]
      by_cases hj : i = j
      · subst hj
        simp [hi, hi']
      · simp only [hj, if_false]
        rw [← e2]
        simp
    · rw [show (es.modify i fun e => { e with key := encK k, val := encW v }).map (·.born) = es.map (·.born) from ?_]
      · exact h3
      · apply List.ext_getElem?
        intro j
        rw [List.getElem?_map, List.getElem?_map, List.getElem?_modify]
        cases es[j]? with
        | none => rfl
        | some e => by_cases hj : i = j <;> simp [hj]
    · intro e he
      obtain ⟨j, hj, rfl⟩ := List.getElem_of_mem he
      have hj' : j < es.length := by rwa [List.length_modify] at hj
      have hb := h4 _ (List.getElem_mem hj')
      rw [List.getElem_modify]
      split
      · exact hb
      · exact hb

theorem MapAt.del (q : KeyEnc g ks encK) (m : MapAt encK encW h b l) (k : κ) : ∃ x, ndelete g ks h (.map (some b)) (encK k) = some (hset h b x) ∧ MapAt encK encW (hset h b x) b (delL l k) := by
  obtain ⟨es, clock, h1, h2, h3, h4⟩ := m
  have hlt := hget_lt h1
  unfold delL
  cases hf : findL l k 0 with
  | none =>
    refine ⟨.map es clock, ?_, es, clock, hget_hset_same hlt, h2, h3, h4⟩
    simp only [ndelete, h1, q.ok k, Bool.true_eq_false, if_false, findEnt_ok q k 0 h2, hf, Option.map_none]
    rw [hset_same h1]
  | some p =>
    obtain ⟨i, w⟩ := p
    obtain ⟨_, hi, hli⟩ := findL_some hf
    simp only [Nat.sub_zero] at hi hli
    refine ⟨.map (es.eraseIdx i) clock, ?_, es.eraseIdx i, clock, hget_hset_same hlt, ?_, ?_, fun e he => h4 e (List.mem_of_mem_eraseIdx he)⟩
    · simp only [ndelete, h1, q.ok k, Bool.true_eq_false, if_false, findEnt_ok q k 0 h2, hf, Option.map_some]
    · simp only [entR, map_eraseIdx']
      rw [h2]
    · rw [map_eraseIdx']
      exact List.Nodup.sublist (List.eraseIdx_sublist _ _) h3

end

section
variable {κ ν : Type} {encK : κ → NV} {encW : ν → NV} {g : Bool} {ks : List CK} {h : Heap} {b : Nat} {l : List (κ × ν)}
theorem erase_perm {α : Type} : ∀ {l : List α} {j : Nat} (hj : j < l.length), (l[j] :: l.eraseIdx j).Perm l
  | [], _, hj => by simp at hj
  | a :: l, 0, _ => List.Perm.refl _
  | a :: l, j + 1, hj => by
    simp only [List.getElem_cons_succ, List.eraseIdx_cons_succ]
    exact (List.Perm.swap a _ _).trans (List.Perm.cons a (erase_perm (by simpa using hj)))
/-! ### Ranges -/
/-- A range over a map: what is still to come. -/
def ItAt (encK : κ → NV) (encW : ν → NV) (h : Heap) (r b : Nat) (rem : List (κ × ν)) : Prop :=
  ∃ es clock seen, hget h r = some (.iter (some b) clock seen clock) ∧ hget h b = some (.map es clock) ∧ (∀ e ∈ es, e.born < clock) ∧ (es.map (·.born)).Nodup ∧ entR encK encW (es.filter fun e => !seen.contains e.born) rem ∧ r ≠ b

theorem ItAt.mono {h' : Heap} {r : Nat} {rem : List (κ × ν)} (m : ItAt encK encW h r b rem) (e1 : hget h' r = hget h r) (e2 : hget h' b = hget h b) : ItAt encK encW h' r b rem := by
  obtain ⟨es, clock, seen, h1, h2, h3⟩ := m
  exact ⟨es, clock, seen, by rw [e1]; exact h1, by rw [e2]; exact h2, h3⟩
theorem MapAt.range (m : MapAt encK encW h b l) : ∃ x, nrange h (.map (some b)) = some (.ptr (some (h.length, 0)), h ++ [some x]) ∧ ItAt encK encW (h ++ [some x]) h.length b l := by
  obtain ⟨es, clock, h1, h2, h3, h4⟩ := m
  have hlt := hget_lt h1
  refine ⟨.iter (some b) clock [] clock, by simp only [nrange, h1], es, clock, [], hget_append_new, by rw [hget_appl hlt]; exact h1, h4, h3, ?_, by omega⟩
  have : (es.filter fun e => !([] : List Nat).contains e.born) = es := by
    rw [List.filter_eq_self]; intro a _; rfl
  rw [this]; exact h2

theorem filter_out {es : List NEnt} {seen : List Nat} {f : List NEnt} {j : Nat} (hn : (es.map (·.born)).Nodup) (hf : es.filter (fun e => !seen.contains e.born) = f) (hj : j < f.length) :
    es.filter (fun e => !(seen ++ [f[j].born]).contains e.born) = f.eraseIdx j := by
  obtain ⟨s, hs⟩ : ∃ s, s = f[j].born := ⟨_, rfl⟩
  have h1 : es.filter (fun e => !(seen ++ [f[j].born]).contains e.born) = f.filter fun e => e.born != f[j].born := by
    rw [← hs, ← hf, List.filter_filter]
    congr 1
    funext e
    simp only [List.contains_eq_mem, List.mem_append, List.mem_singleton]
    by_cases h1 : e.born ∈ seen <;> by_cases h2 : e.born = s
    all_goals simp [h1, h2]
  clear hs
  rw [h1]
  have hnf : (f.map (·.born)).Nodup := by
    rw [← hf]
    exact List.Nodup.sublist (List.Sublist.map _ List.filter_sublist) hn
  clear h1 hf hn
  induction f generalizing j with
  | nil => simp at hj
  | cons a f ih =>
    simp only [List.map_cons, List.nodup_cons] at hnf
    cases j with
    | zero =>
      simp only [List.getElem_cons_zero, List.eraseIdx_cons_zero, List.filter_cons, bne_self_eq_false, Bool.false_eq_true, if_false]
      rw [List.filter_eq_self]
      intro x hx
      have : x.born ≠ a.born := fun e => hnf.1 (e ▸ List.mem_map_of_mem hx)
      simpa using this
    | succ j =>
      have hj' : j < f.length := by simpa using hj
      simp only [List.getElem_cons_succ, List.eraseIdx_cons_succ, List.filter_cons]
      have : a.born ≠ f[j].born := fun e => hnf.1 (e ▸ List.mem_map_of_mem (List.getElem_mem hj'))
      rw [if_pos (by simpa using this), ih hj' hnf.2]

/-- One step of a range. -/
theorem ItAt.next {r : Nat} {rem : List (κ × ν)} {K : NV → Heap → Prop} {t} (m : ItAt encK encW h r b rem) (h0 : rem = [] → K (.tup [.bool false]) h)
    (hs : ∀ j (hj : j < rem.length) h', (∀ c, c ≠ r → hget h' c = hget h c) → h'.length = h.length → ItAt encK encW h' r b (rem.eraseIdx j) → (∀ h2, hget h2 r = hget h' r → hget h2 b = hget h' b → nentry h2 (.ptr (some (r, 0))) = some (.tup [encK rem[j].1, encW rem[j].2])) → K (.tup [.bool true, encK rem[j].1, encW rem[j].2]) h') : resK (nnext h (.ptr (some (r, 0)))) K t := by
  obtain ⟨es, clock, seen, h1, h2, h3, h4, h5, h6⟩ := m
  have hlt := hget_lt h1
  have hold : ((es.filter fun e => !seen.contains e.born).filter fun e => decide (e.born < clock)) = es.filter fun e => !seen.contains e.born := by
    rw [List.filter_eq_self]
    intro e he
    simpa using h3 e ((List.mem_filter.1 he).1)
  have hnew : ((es.filter fun e => !seen.contains e.born).filter fun e => decide (clock ≤ e.born)) = [] := by
    rw [List.filter_eq_nil_iff]
    intro e he
    have := h3 e ((List.mem_filter.1 he).1)
    simp; omega
  have hg : (!seen.isEmpty && !es.isEmpty && es.all (fun e => decide (clock ≤ e.born))) = false := by
    cases es with
    | nil => simp
    | cons e es =>
      have := h3 e (List.mem_cons_self ..)
      simp; omega
  have hlen := entR_len h5
  unfold resK
  simp only [nnext, h1, h2, hg, Bool.false_eq_true, if_false, hold, hnew, List.append_nil]
  generalize hf : es.filter (fun e => !seen.contains e.born) = f at *
  cases hrem : f with
  | nil =>
    subst hrem
    have : rem = [] := by simpa using hlen.symm
    refine ⟨by simp, fun i hi => ?_⟩
    have hi : i = 0 := by simpa using hi
    subst hi
    exact h0 this
  | cons a f' =>
    rw [← hrem]
    have hne : f.isEmpty = false := by rw [hrem]; rfl
    rw [hne]
    simp only [Bool.false_eq_true, if_false, List.nil_append]
    refine ⟨by rw [hrem]; simp, fun i hi => ?_⟩
    rw [List.length_map] at hi
    have hir : i < rem.length := by omega
    obtain ⟨e, he, hk, hv⟩ := entR_get h5 hir
    have hfe : f[i] = e := by rw [List.getElem?_eq_getElem hi] at he; exact Option.some.inj he
    have hm : (List.map some f)[i]? = some (some e) := by rw [List.getElem?_map, he]; rfl
    dsimp only
    rw [hm]
    show K _ _
    rw [hk, hv]
    refine hs i hir _ (fun c hc => hget_hset_ne (Ne.symm hc)) (by rw [length_hset]) ⟨es, clock, seen ++ [e.born], hget_hset_same hlt, by rw [hget_hset_ne h6]; exact h2, h3, h4, ?_, h6⟩ ?_
    · rw [← hfe, filter_out h4 hf hi]
      simp only [entR, map_eraseIdx']
      rw [h5]
    · intro h' e1 e2
      rw [hget_hset_same hlt] at e1
      rw [hget_hset_ne h6, h2] at e2
      have hmem : e ∈ es := by
        have : e ∈ f := by rw [← hfe]; exact List.getElem_mem hi
        rw [← hf] at this
        exact (List.mem_filter.1 this).1
      have hfind : es.find? (fun x => x.born == e.born) = some e := by
        clear hf hlen h1 h2 hg hold hnew h5 e1 e2 h3 hfe hm he
        induction es with
        | nil => cases hmem
        | cons a es ih =>
          simp only [List.map_cons, List.nodup_cons] at h4
          rw [List.find?_cons]
          rcases List.mem_cons.1 hmem with rfl | hmem
          · simp
          · have : a.born ≠ e.born := fun h => h4.1 (h ▸ List.mem_map_of_mem hmem)
            have hb : (a.born == e.born) = false := by simpa using this
            rw [hb]
            exact ih h4.2 hmem
      simp only [nentry, e1, e2, List.getLast?_append, List.getLast?_singleton, Option.some_or, if_true, hfind, Option.map_some, hk, hv]
end
end Go.Ns
