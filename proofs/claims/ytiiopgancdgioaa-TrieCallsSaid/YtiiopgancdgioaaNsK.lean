/- Operations that write memory or call: iterators, calls, and the whole. -/
import Derived.Test.YtiiopgancdgioaaNsJ
set_option linter.unusedVariables false
set_option linter.unusedSimpArgs false
namespace Go.Ns

section
variable {P : Program} {C : Cx} {φ : PMap} {w : World} {h : Heap} {ρn : NOpd → NV} {ρr : Operand → Value}

/-- An iterator over a map. -/
theorem sim_range (r : Rel C φ w h) {t k el : TypeId} {m nv : NV} {vm : Value} {h' : Heap} (hu : P.underlying t = some (.map k el)) (hm : VRel φ m vm) (e : nrange h m = some (nv, h')) :
    ∃ v w', (Instr.range t vm).run P w = .ok v w' ∧ ∃ φ', φ.le φ' ∧ VRel φ' nv v ∧ Rel C φ' w' h' := by
  unfold nrange at e
  split at e
  · cases e
    simp only [VRel] at hm; subst hm
    let p : Place := ⟨w.heap.size, 0, 0, 0⟩
    refine ⟨.pointer (some ⟨w.heap.size, 0, none⟩), w.alloc (.mapIter none 0 #[] 0), by simp [Instr.range, run_underlying hu], φ.put h.length p, PMap.le_put r.fresh, ?_, r.alloc rfl ⟨rfl, rfl⟩⟩
    simp only [VRel]; exact ⟨p, PMap.put_same, by simp [p]⟩
  · rename_i b
    split at e <;> try (cases e; done)
    rename_i es clock hb
    cases e
    simp only [VRel] at hm
    obtain ⟨q, hq, rfl⟩ := hm
    obtain ⟨ob, hob, h0, es', rfl, hE⟩ := r.blk _ _ _ hb hq
    let p : Place := ⟨w.heap.size, 0, 0, 0⟩
    refine ⟨.pointer (some ⟨w.heap.size, 0, none⟩), w.alloc (.mapIter (some q.rb) clock #[] clock), by simp [Instr.range, run_underlying hu, run_getObj_map hob], φ.put h.length p, PMap.le_put r.fresh, ?_,
      r.alloc rfl ⟨rfl, q, PMap.le_put r.fresh _ _ hq, rfl⟩⟩
    simp only [VRel]; exact ⟨p, PMap.put_same, by simp [p]⟩
  · cases e

def Res.safe {α : Type} (R : α → Prop) : Res α → Prop
  | .ok a => R a
  | .fail => True
  | .ask _ k => ∀ i, (k i).safe R
  | .pick _ k => ∀ i, (k i).safe R

theorem Res.all_with {α : Type} {Q R : α → Prop} : ∀ {r : Res α}, r.all Q → r.safe R → r.all fun a => Q a ∧ R a
  | .ok _, h, k => ⟨h, k⟩
  | .fail, h, _ => h.elim
  | .ask _ _, h, k => ⟨h.1, fun i hi => Res.all_with (h.2 i hi) (k i)⟩
  | .pick _ _, h, k => fun i hi => Res.all_with (h i hi) (k i)

theorem nnext_safe (h : Heap) (it : NV) : (nnext h it).safe fun q => h.length ≤ q.2.length := by
  unfold nnext
  split <;> try (exact trivial)
  split <;> try (exact trivial)
  · exact Nat.le_refl _
  · split <;> try (exact trivial)
    split
    · exact trivial
    · intro i
      dsimp only
      split
      · simp [Res.safe]
      · exact Nat.le_refl _
      · exact trivial

theorem contains_toArray (l : List Nat) (n : Nat) : l.toArray.contains n = l.contains n := by simp

/-- The next entry of an iterator. -/
theorem sim_next (r : Rel C φ w h) {ty : TypeId} {it : NV} {vi : Value} {Q : NV × Heap → Prop} (hi : VRel φ it vi) (e : (nnext h it).all Q) :
    ∃ v w', (Instr.next vi false ty).run P w = .ok v w' ∧ Post C φ Q v w' := by
  unfold nnext at e
  split at e <;> try (exact e.elim)
  rename_i b
  simp only [VRel] at hi
  obtain ⟨p, hp, rfl⟩ := hi
  split at e <;> try (exact e.elim)
  · rename_i since seen last hb
    obtain ⟨ob, hob, h0, rfl⟩ := r.blk _ _ _ hb hp
    have hg : (getObj p.rb).run P w = .ok (.mapIter none since seen.toArray last) w := by simp [getObj, Sem.run, hob]
    refine ⟨.tuple #[.bool false], w, by simp [Instr.next, h0, hg], _, _, φ, e, PMap.le.refl _, ⟨_, rfl, .bool false, [], rfl, rfl, rfl⟩, r⟩
  · rename_i m since seen last hb
    obtain ⟨ob, hob, h0, q, hq, rfl⟩ := r.blk _ _ _ hb hp
    split at e <;> try (exact e.elim)
    rename_i es clock hm
    obtain ⟨om, hom, hm0, es', rfl, hE⟩ := r.blk _ _ _ hm hq
    have hg : (getObj p.rb).run P w = .ok (.mapIter (some q.rb) since seen.toArray last) w := by simp [getObj, Sem.run, hob]
    split at e
    · exact e.elim
    rename_i hc
    simp only [Res.all] at e
    obtain ⟨hpos, e⟩ := e
    have hcr : ¬ (!seen.toArray.isEmpty && !es'.isEmpty && es'.all (fun x => decide (x.born ≥ last))) = true := by
      have e1 : seen.toArray.isEmpty = seen.isEmpty := by simp
      have e2 : es'.isEmpty = es.isEmpty := by
        have := hE.length
        simp only [Array.length_toList] at this
        rw [Bool.eq_iff_iff]; simp only [Array.isEmpty_iff_size_eq_zero, List.isEmpty_iff_length_eq_zero, this]
      have e3 : es'.all (fun x => decide (x.born ≥ last)) = es.all (fun x => decide (last ≤ x.born)) := by
        rw [← Array.all_toList]
        exact (hE.all (fun n => decide (last ≤ n))).symm
      rw [e1, e2, e3]; exact hc
    -- the candidates
    have hleft := hE.filter (fun n => !seen.contains n)
    have hold := hleft.filter (fun n => decide (n < since))
    have hnew := hleft.filter (fun n => decide (since ≤ n))
    have hboth := hold.append hnew
    let cand : List (Option NEnt) := (if ((es.filter fun e => !seen.contains e.born).filter fun e => decide (e.born < since)).isEmpty then [none] else []) ++
      (((es.filter fun e => !seen.contains e.born).filter fun e => decide (e.born < since)) ++ ((es.filter fun e => !seen.contains e.born).filter fun e => decide (since ≤ e.born))).map some
    let left' := es'.filter fun e => !seen.toArray.contains e.born
    let old' := left'.filter fun e => decide (e.born < since)
    let new' := left'.filter fun e => decide (e.born ≥ since)
    let cand' : Array (Option MapEntry) := (if old'.isEmpty then #[none] else #[]) ++ (old' ++ new').map some
    have hl' : left'.toList = es'.toList.filter fun e => !seen.contains e.born := by
      simp only [left', Array.toList_filter]
      congr 1; funext x; rw [contains_toArray]
    have ho' : old'.toList = (es'.toList.filter fun e => !seen.contains e.born).filter fun e => decide (e.born < since) := by
      simp only [old', Array.toList_filter, hl']
    have hn' : new'.toList = (es'.toList.filter fun e => !seen.contains e.born).filter fun e => decide (since ≤ e.born) := by
      simp only [new', Array.toList_filter, hl']
    have hemp : old'.isEmpty = ((es.filter fun e => !seen.contains e.born).filter fun e => decide (e.born < since)).isEmpty := by
      have := hold.length
      rw [← ho'] at this
      simp only [Array.length_toList] at this
      rw [Bool.eq_iff_iff]; simp only [Array.isEmpty_iff_size_eq_zero, List.isEmpty_iff_length_eq_zero, this]
    have hct : cand'.toList = (if old'.isEmpty then [none] else []) ++ (old'.toList ++ new'.toList).map some := by
      simp only [cand', Array.toList_append, Array.toList_map]
      congr 1; split <;> rfl
    have hsize : cand'.size = cand.length := by
      rw [← Array.length_toList, hct]
      have h1 := hold.length
      have h2 := hnew.length
      rw [← ho'] at h1; rw [← hn'] at h2
      simp only [cand, hemp, List.length_append, List.length_map, h1, h2]
      congr 1; split <;> rfl
    let n := cand'.size
    have hn0 : 0 < n := by simp only [n, hsize]; exact hpos
    -- the draw
    have hdraw : ∃ i w1, i < n ∧ (choose (.mapNext n)).run P w = .ok i w1 ∧ (w1 = w ∨ w1 = w.drew) := by
      rw [run_choose]
      by_cases hf : n ≤ 1
      · refine ⟨0, w, hn0, ?_, .inl rfl⟩
        simp [Question.forced, hf]
      · refine ⟨w.tape w.drawn (.mapNext n) % n, w.drew, Nat.mod_lt _ hn0, ?_, .inr rfl⟩
        simp [Question.forced, hf, Question.cut]
    obtain ⟨i, w1, hin, hrun, hw1⟩ := hdraw
    have r1 : Rel C φ w1 h := by
      rcases hw1 with rfl | rfl
      · exact r
      · exact r.drew
    have hob1 : w1.heap[p.rb]? = some (.mapIter (some q.rb) since seen.toArray last) := by rcases hw1 with rfl | rfl <;> exact hob
    have hi2 : i < cand.length := by rw [← hsize]; exact hin
    have ei := e i hi2
    have hcase : ∀ x, cand[i]? = some x → (x = none ∧ cand'[i]? = some none) ∨ ∃ en, x = some en ∧ ∃ u, cand'[i]? = some (some u) ∧ VRel φ en.key u.key ∧ VRel φ en.val u.val ∧ en.born = u.born := by
      intro x hx
      have hx' : cand'[i]? = cand'.toList[i]? := by simp
      rw [hx', hct, ho', hn', hemp]
      simp only [cand] at hx
      rw [List.getElem?_append] at hx ⊢
      have hlen : (if ((es.filter fun e => !seen.contains e.born).filter fun e => decide (e.born < since)).isEmpty then [none] else ([] : List (Option NEnt))).length =
        (if ((es.filter fun e => !seen.contains e.born).filter fun e => decide (e.born < since)).isEmpty then [none] else ([] : List (Option MapEntry))).length := by split <;> rfl
      by_cases hlt : i < (if ((es.filter fun e => !seen.contains e.born).filter fun e => decide (e.born < since)).isEmpty then [none] else ([] : List (Option NEnt))).length
      · rw [if_pos hlt] at hx
        rw [if_pos (by rw [← hlen]; exact hlt)]
        left
        split at hx
        · rename_i hE2
          rw [if_pos hE2]
          rw [if_pos hE2] at hlt
          simp only [List.length_singleton] at hlt
          have : i = 0 := by omega
          subst this
          simp at hx; exact ⟨hx.symm, by simp⟩
        · simp at hx
      · rw [if_neg hlt] at hx
        rw [if_neg (by rw [← hlen]; exact hlt), ← hlen]
        right
        rw [List.getElem?_map] at hx ⊢
        obtain ⟨en, hen, rfl⟩ := Option.map_eq_some_iff.1 hx
        obtain ⟨u, hu, h1, h2, h3⟩ := hboth.get _ _ hen
        exact ⟨en, rfl, u, by rw [hu]; rfl, h1, h2, h3⟩
    have hstart : (Instr.next (.pointer (some ⟨p.rb, p.ro + 0, none⟩)) false ty).run P w = ((match cand'[i]? with
        | some (some e) => do
          setObj p.rb (.mapIter (some q.rb) since (seen.toArray.push e.born) clock)
          pure (.tuple #[.bool true, e.key, e.val])
        | some none => pure (.tuple #[.bool false])
        | none => stuck "Next: no such candidate" : Sem Value)).run P w1 := by
      have hgm : (getObj q.rb).run P w = .ok (.map es' clock) w := run_getObj_map hom
      simp only [Instr.next, h0, Nat.add_zero, Sem.run_bind, hg, Result.andThen_ok, hgm]
      rw [if_neg hcr]
      have : (choose (.mapNext cand'.size)).run P w = .ok i w1 := hrun
      simp only [cand', old', new', left'] at this ⊢
      simp only [Sem.run_bind, this, Result.andThen_ok]
      rfl
    have hcv : ∃ x, cand[i]? = some x := ⟨_, List.getElem?_eq_getElem hi2⟩
    obtain ⟨x, hx⟩ := hcv
    change Res.all Q (match cand[i]? with
      | some (some e) => .ok (.tup [.bool true, e.key, e.val], hset h b (.iter (some m) since (seen ++ [e.born]) clock))
      | some none => .ok (.tup [.bool false], h)
      | none => .fail) at ei
    rcases hcase x hx with ⟨rfl, hc2⟩ | ⟨en, rfl, u, hc2, hk, hv, hbn⟩
    · rw [hx] at ei
      refine ⟨.tuple #[.bool false], w1, ?_, _, _, φ, ei, PMap.le.refl _, ⟨_, rfl, .bool false, [], rfl, rfl, rfl⟩, r1⟩
      rw [hstart, hc2]; rfl
    · rw [hx] at ei
      have hlt := r1.lt _ _ hp
      refine ⟨.tuple #[.bool true, u.key, u.val], { w1 with heap := w1.heap.setIfInBounds p.rb (.mapIter (some q.rb) since (seen.toArray.push u.born) clock) }, ?_, _, _, φ, ei, PMap.le.refl _,
        ⟨_, rfl, .bool true, _, rfl, rfl, u.key, _, rfl, hk, u.val, _, rfl, hv, rfl⟩, ?_⟩
      · rw [hstart, hc2]
        simp [setObj, Sem.run, hob1]
      · refine r1.upd (o' := .mapIter (some q.rb) since (seen.toArray.push u.born) clock) hb hp rfl ?_ ?_ ?_ rfl rfl rfl rfl ⟨h0, q, hq, ?_⟩ rfl
        · rw [Array.getElem?_setIfInBounds_self_of_lt hlt]
        · intro j hj; simp [Array.getElem?_setIfInBounds_ne (Ne.symm hj)]
        · simp
        · rw [hbn]; simp

/-- The entry at which an iterator stands. -/
theorem sim_entry (r : Rel C φ w h) {it nv : NV} {vi : Value} (hi : VRel φ it vi) (e : nentry h it = some nv) : ∃ v, (Instr.entry vi).run P w = .ok v w ∧ VRel φ nv v := by
  unfold nentry at e
  split at e <;> try (cases e; done)
  rename_i b
  simp only [VRel] at hi
  obtain ⟨p, hp, rfl⟩ := hi
  split at e <;> try (cases e; done)
  rename_i m since seen stepped hb
  obtain ⟨ob, hob, h0, q, hq, rfl⟩ := r.blk _ _ _ hb hp
  split at e <;> try (cases e; done)
  rename_i stamp es clock hst hm
  obtain ⟨om, hom, hm0, es', rfl, hE⟩ := r.blk _ _ _ hm hq
  split at e <;> try (cases e; done)
  rename_i hcl
  subst hcl
  obtain ⟨en, hen, rfl⟩ := Option.map_eq_some_iff.1 e
  have hg : (getObj p.rb).run P w = .ok (.mapIter (some q.rb) since seen.toArray clock) w := by simp [getObj, Sem.run, hob]
  have hgm : (getObj q.rb).run P w = .ok (.map es' clock) w := run_getObj_map hom
  obtain ⟨u, hu, hk, hv⟩ := hE.find (fun n => n == stamp) en hen
  refine ⟨.tuple #[u.key, u.val], ?_, ⟨_, rfl, u.key, _, rfl, hk, u.val, _, rfl, hv, rfl⟩⟩
  have hback : seen.toArray.back? = some stamp := by simpa using hst
  have hfind : es'.find? (fun e => e.born == stamp) = some u := by rw [← Array.find?_toList]; exact hu
  simp [Instr.entry, h0, hg, hback, hgm, hfind]


/-! ### Calls of the library without a body -/

theorem find_add64 : Extern.allRows.lookup "math/bits.Add64" = some add64Entry := by kernel_rfl
def sub64Entry : Array Value → Sem Value := fun args => do
  let (x, y, b) ← Extern.MathBitsCarry.three "Sub64" args
  pure (Extern.MathBitsCarry.pair ((x + Extern.MathBitsCarry.m64 - y - b) % Extern.MathBitsCarry.m64) (if x < y + b then 1 else 0))
theorem find_sub64 : Extern.allRows.lookup "math/bits.Sub64" = some sub64Entry := by kernel_rfl
theorem find_addG : Extern.allGenericRows.lookup "math/bits.Add64" = none := by kernel_rfl
theorem find_subG : Extern.allGenericRows.lookup "math/bits.Sub64" = none := by kernel_rfl
theorem find_addT : Extern.allTypedRows.lookup "math/bits.Add64" = none := by kernel_rfl
theorem find_subT : Extern.allTypedRows.lookup "math/bits.Sub64" = none := by kernel_rfl
theorem find_addN : Extern.allNextRows.lookup "math/bits.Add64" = none := by kernel_rfl
theorem find_subN : Extern.allNextRows.lookup "math/bits.Sub64" = none := by kernel_rfl
theorem find_emptyN : Extern.allNextRows.lookup "" = none := by kernel_rfl

theorem next3_inv {name : String} {xs : List NV} {nv : NV} (e : next3 name xs = some nv) :
    ∃ kx x ky y kc c, xs = [.int kx x, .int ky y, .int kc c] ∧ ¬ c.toNat > 1 ∧
      ((name = "math/bits.Add64" ∧ nv = .tup [.int .u64 (Int.ofNat ((x.toNat + y.toNat + c.toNat) % m64)), .int .u64 (Int.ofNat ((x.toNat + y.toNat + c.toNat) / m64))]) ∨
       (name = "math/bits.Sub64" ∧ nv = .tup [.int .u64 (Int.ofNat ((x.toNat + m64 - y.toNat - c.toNat) % m64)), .int .u64 (Int.ofNat (if x.toNat < y.toNat + c.toNat then 1 else 0))])) := by
  unfold next3 at e
  split at e <;> try (cases e; done)
  split at e <;> try (cases e; done)
  rename_i hc
  split at e
  · rename_i hn; cases e; exact ⟨_, _, _, _, _, _, rfl, hc, .inl ⟨hn, rfl⟩⟩
  · split at e <;> try (cases e; done)
    rename_i hn; cases e; exact ⟨_, _, _, _, _, _, rfl, hc, .inr ⟨hn, rfl⟩⟩

theorem sim_ext {f : Nat} {name : String} {args : List NV} {vargs : Array Value} {nv : NV} (hf : extFn P f = some name) (ha : VRels φ args vargs.toList) (e : next3 name args = some nv) (w : World) :
    ∃ v, (callFunc f vargs).run P w = .ok (.value v) w ∧ VRel φ nv v := by
  unfold extFn at hf
  split at hf <;> try (cases hf; done)
  rename_i fn hfn
  split at hf <;> try (cases hf; done)
  rename_i hc
  cases hf
  simp only [Bool.and_eq_true, Bool.or_eq_true, beq_iff_eq] at hc
  obtain ⟨⟨hbody, hname⟩, horig⟩ := hc
  obtain ⟨kx, x, ky, y, kc, c, rfl, hc, hcase⟩ := next3_inv e
  have hv : vargs = #[.int kx x, .int ky y, .int kc c] := by
    obtain ⟨a, r1, e1, h1, b, r2, e2, h2, d, r3, e3, h3, e4⟩ := ha
    have := h1.int; have := h2.int; have := h3.int
    subst a b d e4 e3 e2
    apply Array.ext'; rw [e1]
  have hnum : (fn.name == "runtime.NumGoroutine") = false := by rcases hname with h | h <;> rw [h] <;> rfl
  have hthree : ∀ s, (Extern.MathBitsCarry.three s vargs).run P w = .ok (x.toNat, y.toNat, c.toNat) w := by
    intro s
    rw [hv]
    change (do
      let c' := (← asInt (Value.int kc c)).toNat
      if c' > 1 then unsupported _
      pure ((← asInt (Value.int kx x)).toNat, (← asInt (Value.int ky y)).toNat, c') : Sem (Nat × Nat × Nat)).run P w = _
    simp only [asInt, asIntOf, Sem.run_bind, Sem.run_pure, Result.andThen_ok]
    rw [if_neg hc]
    simp
  have hm : Extern.MathBitsCarry.m64 = m64 := rfl
  rcases hcase with ⟨hn, rfl⟩ | ⟨hn, rfl⟩
  · have hfind : Extern.find fn = some add64Entry := by simp [Extern.find, hn, find_addG, find_addT, find_add64]
    have hnext : Extern.findNext fn = none := by simp [Extern.findNext, hn, horig, find_addN, find_emptyN]
    refine ⟨Extern.MathBitsCarry.pair ((x.toNat + y.toNat + c.toNat) % m64) ((x.toNat + y.toNat + c.toNat) / m64), ?_, ?_⟩
    · rw [run_callFunc_extern hfn hnum hbody hnext hfind]
      simp only [add64Entry, Sem.run_bind, hthree, Result.andThen_ok, Sem.run_pure, hm]
    · exact ⟨_, rfl, _, _, rfl, rfl, _, _, rfl, rfl, rfl⟩
  · have hfind : Extern.find fn = some sub64Entry := by simp [Extern.find, hn, find_subG, find_subT, find_sub64]
    have hnext : Extern.findNext fn = none := by simp [Extern.findNext, hn, horig, find_subN, find_emptyN]
    refine ⟨Extern.MathBitsCarry.pair ((x.toNat + m64 - y.toNat - c.toNat) % m64) (if x.toNat < y.toNat + c.toNat then 1 else 0), ?_, ?_⟩
    · rw [run_callFunc_extern hfn hnum hbody hnext hfind]
      simp only [sub64Entry, Sem.run_bind, hthree, Result.andThen_ok, Sem.run_pure, hm]
    · refine ⟨_, rfl, _, _, rfl, rfl, _, _, rfl, ?_, rfl⟩
      simp only [VRel]

theorem run_callFunc {f : Nat} (hg : goodFn P f = true) (args : Array Value) (w : World) : (callFunc f args).run P w = .ok (.enter f args) w := by
  unfold goodFn at hg
  split at hg <;> try (cases hg; done)
  rename_i fn hfn
  simp only [Bool.and_eq_true, Bool.not_eq_true', Option.isSome_iff_ne_none] at hg
  have h2 : fn.name ≠ "runtime.NumGoroutine" := by simpa using hg.2
  simp [callFunc, hfn, h2, hg.1]

theorem neff_orFail {S : Specs} {α : Type} {f : α → NOp} (hf : ∀ a, neff ρn S h (f a) = .fail) (o : Option α) : neff ρn S h (NOp.orFail (o.map f)) = .fail := by
  cases o with
  | none => rfl
  | some a => exact hf a

theorem neff_orFail2 {S : Specs} {α β : Type} {f : α → β → NOp} (hf : ∀ a b, neff ρn S h (f a b) = .fail) (o : Option α) (p : α → Option β) : neff ρn S h (NOp.orFail (o.bind fun a => (p a).map (f a))) = .fail := by
  cases o with
  | none => rfl
  | some a => exact neff_orFail (hf a) (p a)

/-- An operation that writes memory or calls. -/
theorem sim_eff {S : Specs} (hS : SpecOK P S) {o : Oper} {a : Act} {Q : NV × Heap → Prop} (r : Rel C φ w h) (hρ : ∀ x ∈ o.op.operands.toList, VRel φ (ρn (copd x)) (a.eval x))
    (e : (neff ρn S h (cop' P o.op)).all Q) {next : Act → World → Prop} {QX : Exit → Act → World → Prop} (hn : ∀ v w', Post C φ (fun q => Q q ∧ h.length ≤ q.2.length) v w' → next (a.put o.dst v) w') :
    o.upon P a next QX ((execOp a.eval o).run P w) := by
  obtain ⟨dst, op, ty, pos, after, guard⟩ := o
  simp only at hρ e hn
  have value : ∀ {v w'}, (execOp a.eval ⟨dst, op, ty, pos, after, guard⟩).run P w = .ok (.value v) w' → Post C φ (fun q => Q q ∧ h.length ≤ q.2.length) v w' →
      (Oper.mk dst op ty pos after guard).upon P a next QX ((execOp a.eval ⟨dst, op, ty, pos, after, guard⟩).run P w) := by
    intro v w' hr hp; rw [hr]; exact hn v w' hp
  have skip : ∀ {w'}, (execOp a.eval ⟨dst, op, ty, pos, after, guard⟩).run P w = .ok .skip w' → Post C φ (fun q => Q q ∧ h.length ≤ q.2.length) undef w' →
      (Oper.mk dst op ty pos after guard).upon P a next QX ((execOp a.eval ⟨dst, op, ty, pos, after, guard⟩).run P w) := by
    intro w' hr hp; rw [hr]; exact hn undef w' hp
  have und : VRel φ nundef undef := ⟨#[], rfl, rfl⟩
  have none_all : ∀ {α : Type} {f : α → NV × Heap}, (Res.of ((none : Option α).map f)).all Q → False := fun hh => hh
  cases op
  case store t x v =>
    have hx := hρ x (by simp [Op.operands])
    have hv := hρ v (by simp [Op.operands])
    simp only [cop'] at e
    cases hs : sizeT P t with
    | none => simp [hs, NOp.orFail, neff, Res.all] at e
    | some n =>
      simp only [hs, Option.map_some, NOp.orFail, neff] at e
      cases hst : nstore h n (ρn (copd x)) (ρn (copd v)) with
      | none => rw [hst] at e; exact (none_all e).elim
      | some h' =>
        rw [hst] at e
        obtain ⟨w', hw', hr'⟩ := sim_store r hs hx hv hst
        have hlen : h.length ≤ h'.length := by
          obtain ⟨b, o, cs, _, _, _, _, _, rfl⟩ := nstore_inv hst; simp
        exact skip (by simp only [execOp, Sem.run_bind, hw', Result.andThen_ok, Sem.run_pure]) ⟨_, _, φ, ⟨e, hlen⟩, PMap.le.refl _, und, hr'⟩
  case mapUpdate t m k v =>
    have hm := hρ m (by simp [Op.operands])
    have hk := hρ k (by simp [Op.operands])
    have hv := hρ v (by simp [Op.operands])
    simp only [cop'] at e
    cases hq : keyTy P t with
    | none => simp [hq, NOp.orFail, neff, Res.all] at e
    | some q =>
      simp only [hq, Option.map_some, NOp.orFail, neff] at e
      cases hst : nupdate q.1 q.2 h (ρn (copd m)) (ρn (copd k)) (ρn (copd v)) with
      | none => rw [hst] at e; exact (none_all e).elim
      | some h' =>
        rw [hst] at e
        obtain ⟨w', hw', hr'⟩ := sim_update r hq hm hk hv hst
        have hlen : h.length ≤ h'.length := by
          unfold nupdate at hst
          repeat' (split at hst)
          all_goals first | (cases hst; done) | (cases hst; simp)
        exact skip (by simp only [execOp, Sem.run_bind, hw', Result.andThen_ok, Sem.run_pure]) ⟨_, _, φ, ⟨e, hlen⟩, PMap.le.refl _, und, hr'⟩
  case range t x =>
    have hx := hρ x (by simp [Op.operands])
    simp only [cop'] at e
    split at e <;> try (simp [neff, Res.all] at e; done)
    rename_i kt el hu
    simp only [neff] at e
    cases hst : nrange h (ρn (copd x)) with
    | none => rw [hst] at e; exact e.elim
    | some q =>
      rw [hst] at e
      obtain ⟨nv, h'⟩ := q
      obtain ⟨v, w', hw', φ', hle, hv, hr'⟩ := sim_range (P := P) r hu hx hst
      have hlen : h.length ≤ h'.length := by
        unfold nrange at hst
        repeat' (split at hst)
        all_goals first | (cases hst; done) | (cases hst; simp)
      exact value (by simp only [execOp, Sem.run_bind, hw', Result.andThen_ok, Sem.run_pure]) ⟨_, _, φ', ⟨e, hlen⟩, hle, hv, hr'⟩
  case next it b =>
    have hx := hρ it (by simp [Op.operands])
    cases b with
    | true => simp [cop', neff, Res.all] at e
    | false =>
      simp only [cop', neff] at e
      have e2 : (nnext h (ρn (copd it))).all fun q => Q q ∧ h.length ≤ q.2.length := Res.all_with e (nnext_safe _ _)
      obtain ⟨v, w', hw', hp⟩ := sim_next (P := P) (ty := ty) r hx e2
      exact value (by simp only [execOp, Sem.run_bind, hw', Result.andThen_ok, Sem.run_pure]) hp
  case entry it =>
    have hx := hρ it (by simp [Op.operands])
    simp only [cop', neff] at e
    cases hst : nentry h (ρn (copd it)) with
    | none => rw [hst] at e; exact (none_all e).elim
    | some nv =>
      rw [hst] at e
      obtain ⟨v, hv, hr'⟩ := sim_entry (P := P) r hx hst
      exact value (by simp only [execOp, Sem.run_bind, hv, Result.andThen_ok, Sem.run_pure]) ⟨_, _, φ, ⟨e, Nat.le_refl _⟩, PMap.le.refl _, hr', r⟩
  case call c =>
    simp only [cop', ccall] at e
    split at e
    · rename_i b hcal
      have hbody : (execOp a.eval ⟨dst, .call c, ty, pos, after, guard⟩).run P w = (builtin b c.argTypes ty (c.args.map fun | .const _ => true | _ => false) (c.args.map a.eval)).run P w := by
        simp only [execOp, resolve, hcal, Sem.run_bind, Sem.run_pure, Result.andThen_ok, invoke]; rfl
      have hops : ∀ x ∈ c.args.toList, VRel φ (ρn (copd x)) (a.eval x) := fun x hx => hρ x (by simp [Op.operands, Call.operands, hcal, hx])
      unfold cbuiltin at e
      split at e <;> try (simp [neff, Res.all] at e; done)
      · split at e <;> simp [neff, Res.all] at e
      · split at e <;> simp [neff, Res.all] at e
      · -- append
        rename_i t s x ht hargs
        have hs := hops s (by simp [hargs])
        have hx := hops x (by simp [hargs])
        split at e <;> try (simp [neff, Res.all] at e; done)
        · rename_i el el1 hu hu1
          split at e <;> try (simp [neff, Res.all] at e; done)
          rename_i n m z hsz hby hz
          split at e <;> try (simp [neff, Res.all] at e; done)
          rename_i hc
          obtain ⟨hc1, hc2, hc3⟩ := hc
          simp only [neff] at e
          cases hnew : sliceCells h n (ρn (copd x)) with
          | none => rw [hnew] at e; exact e.elim
          | some new =>
            rw [hnew] at e
            simp only [Option.bind_some] at e
            cases hlen : lenOfSl (ρn (copd x)) with
            | none => rw [hlen] at e; exact e.elim
            | some k =>
              rw [hlen] at e
              simp only [Option.bind_some] at e
              cases hap : nappend h n m (ρn (copd s)) k new with
              | none => rw [hap] at e; exact e.elim
              | some q =>
                rw [hap] at e
                obtain ⟨nv, h'⟩ := q
                unfold sizeT at hsz; unfold bytesT at hby; unfold zeroT at hz
                obtain ⟨i, hi, rfl⟩ := Option.map_eq_some_iff.1 hsz
                rw [hi] at hby hz
                simp only [Option.map_some, Option.some.injEq] at hby
                subst hby
                obtain ⟨zv, hzv, hzc⟩ := Option.bind_eq_some_iff.1 hz
                simp only [Option.bind_some] at hzv
                have hzl := ((ofConst_rel (φ := φ) hzc).1).cells.length
                simp only [Array.length_toList] at hzl
                obtain ⟨t1, ht1, hu1'⟩ := Option.bind_eq_some_iff.1 hu1
                have hts : c.argTypes[1]? = some t1 := ht1
                obtain ⟨v, w', hw', φ', hle, hv, hr'⟩ := sim_append (P := P) (ty := ty) (t := t) (t1 := t1) r hu hu1' hi hzv (by omega) hc1 hc2 hs hx hnew hlen hap
                have eargs : c.args.map a.eval = #[a.eval s, a.eval x] := by apply Array.ext'; rw [Array.toList_map, hargs]; rfl
                have hrun : (Builtin.append_ c.argTypes ty #[a.eval s, a.eval x]).run P w = .ok v w' := by
                  rw [← hw']
                  simp only [Builtin.append_, ht, hts, List.getElem?_toArray, List.getElem?_cons_zero, List.getElem?_cons_succ]
                have hl2 : h.length ≤ h'.length := by
                  unfold nappend at hap
                  repeat' (split at hap)
                  all_goals first | (cases hap; done) | (cases hap; simp)
                refine value ?_ ⟨_, _, φ', ⟨e, hl2⟩, hle, hv, hr'⟩
                rw [hbody, eargs]
                simp only [builtin, Sem.run_bind, hrun, Result.andThen_ok, Sem.run_pure]
        · rename_i el ik hu hu1
          split at e <;> try (simp [neff, Res.all] at e; done)
          rename_i n m z hsz hby hz
          split at e <;> try (simp [neff, Res.all] at e; done)
          rename_i hc
          obtain ⟨hc1, hc2, hc3⟩ := hc
          simp only [neff] at e
          split at e <;> try (exact e.elim)
          rename_i q hq
          split at e <;> try (exact e.elim)
          rename_i hqc
          obtain ⟨q0, q1, q2⟩ := hqc
          cases hap : nappend h n m (ρn (copd s)) q.toNat (List.replicate q.toNat z.cells).flatten with
          | none => rw [hap] at e; exact e.elim
          | some qq =>
            rw [hap] at e
            obtain ⟨nv, h'⟩ := qq
            unfold sizeT at hsz; unfold bytesT at hby; unfold zeroT at hz
            obtain ⟨i, hi, rfl⟩ := Option.map_eq_some_iff.1 hsz
            rw [hi] at hby hz
            simp only [Option.map_some, Option.some.injEq] at hby
            subst hby
            obtain ⟨zv, hzv, hzc⟩ := Option.bind_eq_some_iff.1 hz
            simp only [Option.bind_some] at hzv
            obtain ⟨hz1, hz2⟩ := ofConst_rel (φ := φ) hzc
            have hzl := hz1.cells.length
            simp only [Array.length_toList] at hzl
            obtain ⟨t1, ht1, hu1'⟩ := Option.bind_eq_some_iff.1 hu1
            have hts : c.argTypes[1]? = some t1 := ht1
            have hxi : a.eval x = .int .i64 q := by rw [hq] at hx; exact hx.int
            obtain ⟨v, w', hw', φ', hle, hv, hr'⟩ := sim_appendz (P := P) (ty := ty) (t := t) (t1 := t1) r hu hu1' hi hzv (by omega) hc1 hc2 hs hz1.cells (NV.flat_one hz2) q0 q1 q2 hap
            have eargs : c.args.map a.eval = #[a.eval s, .int .i64 q] := by apply Array.ext'; rw [Array.toList_map, hargs]; simp [hxi]
            have hrun : (Builtin.append_ c.argTypes ty #[a.eval s, .int .i64 q]).run P w = .ok v w' := by
              rw [← hw']
              simp only [Builtin.append_, ht, hts, List.getElem?_toArray, List.getElem?_cons_zero, List.getElem?_cons_succ]
            have hl2 : h.length ≤ h'.length := by
              unfold nappend at hap
              repeat' (split at hap)
              all_goals first | (cases hap; done) | (cases hap; simp)
            refine value ?_ ⟨_, _, φ', ⟨e, hl2⟩, hle, hv, hr'⟩
            rw [hbody, eargs]
            simp only [builtin, Sem.run_bind, hrun, Result.andThen_ok, Sem.run_pure]
      · -- delete
        rename_i t m k ht hargs
        have hm := hops m (by simp [hargs])
        have hk := hops k (by simp [hargs])
        cases hq : keyTy P t with
        | none => simp [hq, NOp.orFail, neff, Res.all] at e
        | some q =>
          simp only [hq, Option.map_some, NOp.orFail, neff] at e
          cases hst : ndelete q.1 q.2 h (ρn (copd m)) (ρn (copd k)) with
          | none => rw [hst] at e; exact (none_all e).elim
          | some h' =>
            rw [hst] at e
            obtain ⟨w', hw', hr'⟩ := sim_delete (P := P) (ty := ty) r ht hq hm hk hst
            have eargs : c.args.map a.eval = #[a.eval m, a.eval k] := by apply Array.ext'; rw [Array.toList_map, hargs]; rfl
            have hlen : h.length ≤ h'.length := by
              unfold ndelete at hst
              repeat' (split at hst)
              all_goals first | (cases hst; done) | (cases hst; simp)
            refine value (v := .tuple #[]) ?_ ⟨_, _, φ, ⟨e, hlen⟩, PMap.le.refl _, ⟨#[], rfl, rfl⟩, hr'⟩
            rw [hbody, eargs]
            simp only [builtin, Sem.run_bind, hw', Result.andThen_ok, Sem.run_pure]
    · simp [neff, Res.all] at e
    · rename_i f hcal
      have hops : ∀ x ∈ c.args.toList, VRel φ (ρn (copd x)) (a.eval x) := fun x hx => hρ x (by simp [Op.operands, Call.operands, hcal, hx])
      have hargs : VRels φ ((c.args.toList.map copd).map ρn) (c.args.map a.eval).toList := by
        rw [Array.toList_map, List.map_map]; exact VRels.of_map hops
      have hbody : (execOp a.eval ⟨dst, .call c, ty, pos, after, guard⟩).run P w = (callFunc f (c.args.map a.eval)).run P w := by
        simp [execOp, resolve, hcal, Act.eval, Deferred.ofValue, invoke]
      split at e
      · rename_i name hext
        simp only [neff] at e
        cases hst : next3 name ((c.args.toList.map copd).map ρn) with
        | none => rw [hst] at e; exact (none_all e).elim
        | some nv =>
          rw [hst] at e
          obtain ⟨v, hv, hr'⟩ := sim_ext (P := P) hext hargs hst w
          exact value (by rw [hbody, hv]) ⟨_, _, φ, ⟨e, Nat.le_refl _⟩, PMap.le.refl _, hr', r⟩
      · split at e <;> try (simp [neff, Res.all] at e; done)
        rename_i hgood
        simp only [neff] at e
        obtain ⟨_, hF⟩ := hS _ _ _ _ e
        rw [hbody, run_callFunc hgood]
        simp only [Oper.upon]
        refine (hF C φ w _ hargs r).mono fun e' w' he => ?_
        obtain ⟨v, rfl, hp⟩ := he
        exact hn v w' hp
    · rename_i x hx1 hcal
      have hops : ∀ x ∈ c.args.toList, VRel φ (ρn (copd x)) (a.eval x) := fun x hx => hρ x (by simp [Op.operands, Call.operands, hcal, hx])
      have hxx := hρ x (by simp [Op.operands, Call.operands, hcal])
      have hargs : VRels φ ((c.args.toList.map copd).map ρn) (c.args.map a.eval).toList := by
        rw [Array.toList_map, List.map_map]; exact VRels.of_map hops
      simp only [neff] at e
      split at e <;> try (exact e.elim)
      rename_i f first captured hfx
      rw [hfx] at hxx
      simp only [VRel] at hxx
      obtain ⟨u, v, hxv, hu, hv⟩ := hxx
      obtain ⟨hgood, hF⟩ := hS _ _ _ _ e
      have hbody : (execOp a.eval ⟨dst, .call c, ty, pos, after, guard⟩).run P w = (callFunc f ((u ++ c.args.map a.eval) ++ v)).run P w := by
        simp [execOp, resolve, hcal, hxv, Deferred.ofValue, invoke]
      rw [hbody, run_callFunc hgood]
      simp only [Oper.upon]
      refine (hF C φ w _ ?_ r).mono fun e' w' he => ?_
      · rw [Array.toList_append, Array.toList_append]
        exact (hu.append hargs).append hv
      · obtain ⟨v, rfl, hp⟩ := he
        exact hn v w' hp
  all_goals (exfalso; simp only [cop'] at e)
  all_goals first
    | (simp [neff, Res.all] at e; done)
    | (rw [neff_orFail (fun _ => rfl)] at e; exact e.elim)
    | skip
  case build t ps =>
    split at e <;> try (simp [neff, Res.all] at e; done)
    · rw [neff_orFail2 (fun _ _ => rfl)] at e; exact e.elim
    · rw [neff_orFail2 (fun _ _ => rfl)] at e; exact e.elim
  case buildSlice t n ps =>
    split at e <;> try (simp [neff, Res.all] at e; done)
    split at e <;> try (simp [neff, Res.all] at e; done)
    split at e <;> try (simp [neff, Res.all] at e; done)
    rw [neff_orFail (fun _ => rfl)] at e; exact e.elim
  case load t a =>
    split at e <;> try (simp [neff, Res.all] at e; done)
    rw [neff_orFail (fun _ => rfl)] at e; exact e.elim
  case binOp op t x y yt =>
    have hq : ∀ neg, neff ρn S h (ceq P neg t x y) = .fail := by
      intro neg
      unfold ceq
      repeat' split
      all_goals rfl
    simp only [cbin] at e
    split at e
    · rw [hq] at e; exact e.elim
    · rw [hq] at e; exact e.elim
    · split at e <;> simp [neff, Res.all] at e
  case convert src dst x =>
    unfold cconv at e
    split at e <;> try (simp [neff, Res.all] at e; done)
    split at e <;> simp [neff, Res.all] at e
  case makeMap t r => cases r <;> simp [cop', neff, Res.all] at e
  case makeSlice t l c =>
    split at e <;> try (simp [neff, Res.all] at e; done)
    split at e <;> try (simp [neff, Res.all] at e; done)
    split at e <;> simp [neff, Res.all] at e
  case slice t x lo hi mx =>
    split at e <;> try (simp [neff, Res.all] at e; done)
    · rename_i el hu
      cases hs : sizeT P el with
      | none => simp [hs, NOp.orFail, neff, Res.all] at e
      | some m =>
        simp only [hs, Option.bind_some] at e
        split at e <;> simp [NOp.orFail, neff, Res.all] at e
    · rw [neff_orFail (fun _ => rfl)] at e; exact e.elim
    · split at e <;> simp [neff, Res.all] at e
  case fieldAddr t x i =>
    split at e <;> try (simp [neff, Res.all] at e; done)
    split at e <;> try (simp [neff, Res.all] at e; done)
    split at e <;> simp [neff, Res.all] at e
  case field t x i =>
    split at e <;> try (simp [neff, Res.all] at e; done)
    split at e <;> try (simp [neff, Res.all] at e; done)
    split at e <;> try (simp [neff, Res.all] at e; done)
    rw [neff_orFail (fun _ => rfl)] at e; exact e.elim
  case indexAddr t x i =>
    split at e <;> try (simp [neff, Res.all] at e; done)
    all_goals (rw [neff_orFail (fun _ => rfl)] at e; exact e.elim)
  case index t x i =>
    split at e <;> try (simp [neff, Res.all] at e; done)
    split at e <;> try (simp [neff, Res.all] at e; done)
    rw [neff_orFail (fun _ => rfl)] at e; exact e.elim
  case lookup t m k ok =>
    split at e <;> try (simp [neff, Res.all] at e; done)
    rw [neff_orFail2 (fun _ _ => rfl)] at e; exact e.elim

end
end Go.Ns
