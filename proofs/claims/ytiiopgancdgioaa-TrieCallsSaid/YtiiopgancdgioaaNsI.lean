/- Operations that write memory. -/
import Derived.Test.YtiiopgancdgioaaNsH
import Derived.Laws.AppendOwn
set_option linter.unusedVariables false
set_option linter.unusedSimpArgs false
namespace Go.Ns

/-- What a step leaves: the result, and a world in relation. -/
def Post (C : Cx) (φ : PMap) (Q : NV × Heap → Prop) (v : Value) (w : World) : Prop :=
  ∃ nv h φ', Q (nv, h) ∧ φ.le φ' ∧ VRel φ' nv v ∧ Rel C φ' w h

/-- A world whose heap alone has turned, at one block. -/
theorem Rel.upd {C : Cx} {φ : PMap} {w w' : World} {h : Heap} (r : Rel C φ w h) {b : Nat} {x x' : NBlk} {p : Place} {o' : Obj} (hb : hget h b = some x) (hp : φ b = some p) (hw : writable x = true)
    (hobj : w'.heap[p.rb]? = some o') (hoth : ∀ i, i ≠ p.rb → w'.heap[i]? = w.heap[i]?) (hsz : w'.heap.size = w.heap.size) (hos : w'.os = w.os) (htp : w'.tape = w.tape) (hout : w'.output = w.output) (hdr : w'.drawn = w.drawn)
    (hr : ObjRel φ p o' x') (hw' : writable x' = true) : Rel C φ w' (hset h b x') := by
  have hbl := hget_lt hb
  have split_ : ∀ {c y q}, hget (hset h b x') c = some y → φ c = some q → (c = b ∧ y = x' ∧ q = p) ∨ (c ≠ b ∧ hget h c = some y ∧ q.rb ≠ p.rb) := by
    intro c y q hc hq
    by_cases e : c = b
    · subst e
      rw [hget_hset_same hbl] at hc
      rw [hp] at hq
      cases hc; cases hq; exact .inl ⟨rfl, rfl, rfl⟩
    · rw [hget_hset_ne (Ne.symm e)] at hc
      exact .inr ⟨e, hc, fun he => e (r.inj b c x y p q hb hc hp hq hw he.symm).symm⟩
  constructor
  · intro c y q hc hq
    rcases split_ hc hq with ⟨rfl, rfl, rfl⟩ | ⟨e, hc', hne⟩
    · exact ⟨o', hobj, hr⟩
    · obtain ⟨o, ho, hor⟩ := r.blk c y q hc' hq
      exact ⟨o, by rw [hoth _ hne]; exact ho, hor⟩
  · intro c q hq; rw [hsz]; exact r.lt c q hq
  · intro c q hq; simpa using r.dom c q hq
  · intro c c' y y' q q' hc hc' hq hq' hy he
    rcases split_ hc hq with ⟨e1, e2, e3⟩ | ⟨e1, k1, n1⟩ <;> rcases split_ hc' hq' with ⟨f1, f2, f3⟩ | ⟨f1, k2, n2⟩
    · rw [e1, f1]
    · rw [e3] at he; exact absurd he.symm n2
    · rw [f3] at he; exact absurd he n1
    · exact r.inj c c' y y' q q' k1 k2 hq hq' hy he
  · intro i hi
    obtain ⟨h1, h2⟩ := r.keep i hi
    have : i ≠ p.rb := fun e => hi.elim (fun hi => r.away b x p hb hp hw (e ▸ hi)) fun hi => r.far b x p hb hp (e ▸ hi)
    exact ⟨by rw [hoth i this]; exact h1, by rw [hsz]; exact h2⟩
  · intro c y q hc hq hy hx
    rcases split_ hc hq with ⟨e1, e2, e3⟩ | ⟨e1, k1, n1⟩
    · subst e3; exact r.away b x q hb hp hw hx
    · exact r.away c y q k1 hq hy hx
  · exact r.anchor
  · rw [hos]; exact r.os
  · rw [htp]; exact r.tape
  · rw [hout, hdr]; exact r.output
  · rw [hsz]; exact r.grow
  · intro c hc; simpa using r.resv c hc
  · intro c y q hc hq hx
    rcases split_ hc hq with ⟨e1, e2, e3⟩ | ⟨e1, k1, n1⟩
    · subst e3; exact r.far b x q hb hp hx
    · exact r.far c y q k1 hq hx

/-- A block is forgotten. -/
theorem Rel.kill {C : Cx} {φ : PMap} {w : World} {h : Heap} (r : Rel C φ w h) (b : Nat) : Rel C φ w (hkill h b) := by
  have sub : ∀ {c y}, hget (hkill h b) c = some y → hget h c = some y := by
    intro c y hc
    by_cases e : b = c
    · subst e; rw [hget_hkill_same] at hc; cases hc
    · rwa [hget_hkill_ne e] at hc
  exact ⟨fun c y q hc => r.blk c y q (sub hc), r.lt, fun c q hq => by simpa using r.dom c q hq, fun c c' y y' q q' hc hc' => r.inj c c' y y' q q' (sub hc) (sub hc'), r.keep,
    fun c y q hc => r.away c y q (sub hc), r.anchor, r.os, r.tape, r.output, r.grow, fun c hc => by simpa using r.resv c hc, fun c y q hc => r.far c y q (sub hc)⟩

/-- A block is forgotten, and its memory goes on under another number. -/
theorem Rel.moved {C : Cx} {φ : PMap} {w w' : World} {h : Heap} (r : Rel C φ w h) {b : Nat} {x x' : NBlk} {p p' : Place} {o' : Obj} (hb : hget h b = some x) (hp : φ b = some p) (hw : writable x = true)
    (hrb : p'.rb = p.rb) (hobj : w'.heap[p.rb]? = some o') (hoth : ∀ i, i ≠ p.rb → w'.heap[i]? = w.heap[i]?) (hsz : w'.heap.size = w.heap.size) (hos : w'.os = w.os) (htp : w'.tape = w.tape) (hout : w'.output = w.output) (hdr : w'.drawn = w.drawn)
    (hr : ObjRel (φ.put h.length p') p' o' x') : Rel C (φ.put h.length p') w' (hkill h b ++ [some x']) := by
  have hle : φ.le (φ.put h.length p') := PMap.le_put r.fresh
  have hbl := hget_lt hb
  have split_ : ∀ {c y q}, hget (hkill h b ++ [some x']) c = some y → (φ.put h.length p') c = some q →
      (c = h.length ∧ y = x' ∧ q = p') ∨ (c < h.length ∧ hget h c = some y ∧ φ c = some q ∧ q.rb ≠ p.rb) := by
    intro c y q hc hq
    have hlt := hget_lt hc
    simp only [List.length_append, List.length_singleton, length_hkill] at hlt
    by_cases e : c = h.length
    · subst e
      have : hget (hkill h b ++ [some x']) (hkill h b).length = some x' := hget_append_new
      rw [length_hkill] at this
      rw [this] at hc
      rw [PMap.put_same] at hq
      cases hc; cases hq
      exact .inl ⟨rfl, rfl, rfl⟩
    · have hl : c < h.length := by omega
      rw [hget_append_lt (by simpa using hl)] at hc
      simp only [PMap.put, if_neg e] at hq
      have hcb : b ≠ c := by
        intro e2; subst e2; rw [hget_hkill_same] at hc; cases hc
      rw [hget_hkill_ne hcb] at hc
      exact .inr ⟨hl, hc, hq, fun he => hcb (r.inj b c x y p q hb hc hp hq hw he.symm)⟩
  constructor
  · intro c y q hc hq
    rcases split_ hc hq with ⟨rfl, rfl, rfl⟩ | ⟨hl, hc', hq', hne⟩
    · exact ⟨o', by rw [hrb]; exact hobj, hr⟩
    · obtain ⟨o, ho, hor⟩ := r.blk c y q hc' hq'
      exact ⟨o, by rw [hoth _ hne]; exact ho, hor.mono hle⟩
  · intro c q hq
    unfold PMap.put at hq
    split at hq
    · cases hq; rw [hrb, hsz]; exact r.lt b p hp
    · rw [hsz]; exact r.lt c q hq
  · intro c q hq
    unfold PMap.put at hq
    split at hq
    · rename_i e; subst e; simp
    · have := r.dom _ _ hq; simp; omega
  · intro c c' y y' q q' hc hc' hq hq' hy he
    rcases split_ hc hq with ⟨e1, e2, e3⟩ | ⟨_, k1, m1, n1⟩ <;> rcases split_ hc' hq' with ⟨f1, f2, f3⟩ | ⟨_, k2, m2, n2⟩
    · rw [e1, f1]
    · rw [e3, hrb] at he; exact absurd he.symm n2
    · rw [f3, hrb] at he; exact absurd he n1
    · exact r.inj c c' y y' q q' k1 k2 m1 m2 hy he
  · intro i hi
    obtain ⟨h1, h2⟩ := r.keep i hi
    have : i ≠ p.rb := fun e => hi.elim (fun hi => r.away b x p hb hp hw (e ▸ hi)) fun hi => r.far b x p hb hp (e ▸ hi)
    exact ⟨by rw [hoth i this]; exact h1, by rw [hsz]; exact h2⟩
  · intro c y q hc hq hy hx
    rcases split_ hc hq with ⟨e1, e2, e3⟩ | ⟨_, k1, m1, n1⟩
    · subst e3; rw [hrb] at hx; exact r.away b x p hb hp hw hx
    · exact r.away c y q k1 m1 hy hx
  · exact r.anchor.trans hle
  · rw [hos]; exact r.os
  · rw [htp]; exact r.tape
  · rw [hout, hdr]; exact r.output
  · rw [hsz]; exact r.grow
  · intro c hc
    obtain ⟨h1, h2⟩ := r.resv c hc
    exact ⟨by unfold PMap.put; rw [if_neg (by omega)]; exact h1, by simp; omega⟩
  · intro c y q hc hq hx
    rcases split_ hc hq with ⟨e1, e2, e3⟩ | ⟨_, k1, m1, n1⟩
    · subst e3; rw [hrb] at hx; exact r.far b x p hb hp hx
    · exact r.far c y q k1 m1 hx

/-- A draw. -/
theorem Rel.drew {C : Cx} {φ : PMap} {w : World} {h : Heap} (r : Rel C φ w h) : Rel C φ w.drew h :=
  ⟨r.blk, r.lt, r.dom, r.inj, r.keep, r.away, r.anchor, r.os, r.tape, ⟨r.output.1, Nat.le_succ_of_le r.output.2⟩, r.grow, r.resv, r.far⟩

section
variable {P : Program} {C : Cx} {φ : PMap} {w : World} {h : Heap} {ρn : NOpd → NV} {ρr : Operand → Value}

/-- Cells written into a block. -/
theorem Rel.write (r : Rel C φ w h) {b o : Nat} {cs new : List NV} {vs : List Value} {p : Place} (hb : hget h b = some (.cells cs false)) (hp : φ b = some p) (hle : o + new.length ≤ cs.length)
    (hv : VRels φ new vs) (h1 : new.all NV.one = true) :
    ∃ w', (storeCells ⟨p.rb, p.ro + o, none⟩ vs).run P w = .ok () w' ∧ Rel C φ w' (hset h b (.cells (splice cs o new) false)) := by
  obtain ⟨ob, hob, c, t, fz, rfl, hsz, hk, hro, hfz, hcs, hone⟩ := r.blk _ _ _ hb hp
  have hfz := hfz rfl
  subst hfz
  have lv := hv.length
  have hones : ∀ u ∈ vs, u.oneCell' = true := by
    intro u hu
    obtain ⟨i, hi⟩ := List.getElem?_of_mem hu
    have hlt : i < new.length := by rw [← lv]; exact (List.getElem?_eq_some_iff.1 hi).1
    obtain ⟨y, hy, hxy⟩ := hv.get i new[i] (List.getElem?_eq_getElem hlt)
    rw [hi] at hy; cases hy
    exact hxy.one (List.all_eq_true.1 h1 _ (List.getElem_mem hlt))
  have hrun := run_storeCells_at P p.rb (p.ro + o) t vs 0 c w hob (by omega) hones
  simp only [Nat.add_zero] at hrun
  refine ⟨_, hrun, r.upd hb hp rfl (setRow_heap w p.rb c _ t (0, 0) hob) (fun i hi => setRow_other w p.rb i _ hi) (size_setRow ..) rfl rfl rfl rfl ?_ rfl⟩
  refine ⟨_, t, (0, 0), rfl, ?_, ?_, hro, fun _ => rfl, ?_, ?_⟩
  · simp; omega
  · simp [splice]; omega
  · have hsp := VRels.splice o hcs hv
    have e : (((c.toList.drop p.ro).take p.k).take o ++ (vs ++ ((c.toList.drop p.ro).take p.k).drop (o + vs.length))) =
        (((c.toList.take (p.ro + o) ++ vs ++ c.toList.drop (p.ro + o + vs.length)).toArray).toList.drop p.ro).take p.k := by
      apply List.ext_getElem?
      intro i
      have lc : c.toList.length = c.size := by simp
      simp only [List.getElem?_take, List.getElem?_drop, List.getElem?_append, List.length_take, List.length_drop, List.length_append, lc, List.append_assoc]
      by_cases hi : i < p.k
      · simp only [hi, if_true]
        by_cases h2 : i < o
        · have a1 : i < min o (min p.k (c.size - p.ro)) := by omega
          have a2 : p.ro + i < min (p.ro + o) c.size := by omega
          have a3 : p.ro + i < p.ro + o := by omega
          simp [h2, a1, a2, a3]
        · have a1 : ¬ i < min o (min p.k (c.size - p.ro)) := by omega
          have a2 : ¬ p.ro + i < min (p.ro + o) c.size := by omega
          have a4 : min o (min p.k (c.size - p.ro)) = o := by omega
          have a5 : min (p.ro + o) c.size = p.ro + o := by omega
          simp only [a1, a2, if_false, a4, a5]
          have a6 : p.ro + i - (p.ro + o) = i - o := by omega
          rw [a6]
          by_cases h3 : i - o < vs.length
          · simp [h3]
          · simp only [h3, if_false]
            have a7 : o + vs.length + (i - o - vs.length) = i := by omega
            have a8 : p.ro + o + vs.length + (i - o - vs.length) = p.ro + i := by omega
            simp [a7, a8, hi]
      · simp only [hi, if_false]
        have a1 : ¬ i < min o (min p.k (c.size - p.ro)) := by omega
        simp only [a1, if_false]
        have a4 : min o (min p.k (c.size - p.ro)) = o := by omega
        rw [a4]
        have h3 : ¬ (i - o < vs.length) := by omega
        have a7 : o + vs.length + (i - o - vs.length) = i := by omega
        simp [h3, a7, hi]
    rw [← e]; exact hsp
  · unfold splice
    simp only [List.all_append, Bool.and_eq_true]
    refine ⟨?_, h1, ?_⟩ <;> simp only [List.all_eq_true] at hone ⊢
    · exact fun a ha => hone a (List.mem_of_mem_take ha)
    · exact fun a ha => hone a (List.mem_of_mem_drop ha)

theorem nstore_inv {size : Nat} {x v : NV} {h' : Heap} (e : nstore h size x v = some h') :
    ∃ b o cs, x = .ptr (some (b, o)) ∧ hget h b = some (.cells cs false) ∧ v.flat = true ∧ v.cells.length = size ∧ o + size ≤ cs.length ∧ h' = hset h b (.cells (splice cs o v.cells) false) := by
  unfold nstore at e
  split at e <;> try (cases e; done)
  rename_i b o
  split at e <;> try (cases e; done)
  rename_i cs hb
  split at e <;> try (cases e; done)
  rename_i hc
  cases e
  exact ⟨b, o, cs, rfl, hb, hc.1, hc.2.1, hc.2.2, rfl⟩

theorem sim_store (r : Rel C φ w h) {t : TypeId} {size : Nat} {x v : NV} {vx vv : Value} {h' : Heap} (hs : sizeT P t = some size) (hx : VRel φ x vx) (hv : VRel φ v vv) (e : nstore h size x v = some h') :
    ∃ w', (Instr.storeAt t vx vv).run P w = .ok () w' ∧ Rel C φ w' h' := by
  obtain ⟨b, o, cs, rfl, hb, hf, hl, hle, rfl⟩ := nstore_inv e
  simp only [VRel] at hx
  obtain ⟨p, hp, rfl⟩ := hx
  obtain ⟨w', hw', hr⟩ := r.write (P := P) (o := o) hb hp (by omega) hv.cells (NV.flat_one hf)
  refine ⟨w', ?_, hr⟩
  have hlen := hv.cells.length
  simp only [Array.length_toList] at hlen
  have hsz : vv.cells.size = size := by omega
  simp [Instr.storeAt, Instr.sureAddr, storeVar, run_sizeOf hs, hsz, hw']

/-! ### append -/

theorem run_append_gen {t ty e t1 : TypeId} {e1 : TypeId} {i : TypeInfo} (ht : P.underlying t = some (.slice e)) (ht1 : P.underlying t1 = some (.slice e1)) (hi : P.info? e = some i) {sb xa : Option Addr} {sl sc n xc : Nat} {news : Array Value}
    (hx : (Builtin.firstCells i.size n (.slice xa n xc)).run P w = .ok news w) :
    (sl + n ≤ sc → (Builtin.append_ #[t, t1] ty #[.slice sb sl sc, .slice xa n xc]).run P w =
      ((match sb with | some a => storeCells (a.add (sl * i.size)) news.toList | none => pure () : Sem Unit).run P w).andThen fun _ w' => .ok (.slice sb (sl + n) sc) w') ∧
    (¬ sl + n ≤ sc → 0 < i.bytes → (sl + n) * i.bytes ≤ 140737488355328 → sl + n ≤ 140737488355328 → ∀ {z : Value} {olds : Array Value}, i.zero = some z → (Builtin.firstCells i.size sl (.slice sb sl sc)).run P w.drew = .ok olds w.drew →
      (Builtin.firstCells i.size n (.slice xa n xc)).run P w.drew = .ok news w.drew →
      (Builtin.append_ #[t, t1] ty #[.slice sb sl sc, .slice xa n xc]).run P w =
        .ok (.slice (some ⟨w.heap.size, 0, none⟩) (sl + n) (grownCap w (sl + n) sc e)) (w.drew.alloc (.cells (olds ++ news ++ Builtin.zeroCells z.cells (grownCap w (sl + n) sc e - (sl + n))) e))) := by
  constructor
  · intro hroom
    simp only [Builtin.append_, List.getElem?_toArray, List.getElem?_cons_zero, List.getElem?_cons_succ, Sem.run_bind, run_underlying ht, Result.andThen_ok, sizeOf, typeInfo, run_program, hi, Sem.run_pure,
      run_underlying ht1, Builtin.lenOf, Bool.false_eq_true, if_false, hroom, if_true, hx]
    cases sb <;> simp [hx]
  · intro hroom hby h47 hn47 z olds hz hold hnew
    have hfit := growslice_fits (need := sl + n) (old := sc) (bytes := i.bytes) (by omega) h47
    have h63 : ¬ (((sl + n : Nat) : Int) > IntKind.i64.max ∧ (False ∨ i.bytes = 0)) := by
      rintro ⟨_, hh | hh⟩
      · cases hh
      · omega
    have hzv : (zeroValue e).run P w.drew = .ok z w.drew := by simp [zeroValue, typeInfo, hi, hz]
    have h48 : ¬ (Builtin.nextslicecap (sl + n) sc * i.bytes > 2 ^ 48) := by
      have : (2 : Nat) ^ 48 = 281474976710656 := by decide
      omega
    simp only [Builtin.append_, List.getElem?_toArray, List.getElem?_cons_zero, List.getElem?_cons_succ, Sem.run_bind, run_underlying ht, Result.andThen_ok, sizeOf, typeInfo, run_program, hi, Sem.run_pure,
      run_underlying ht1, Builtin.lenOf, Bool.false_eq_true, if_false, hroom, hx]
    rw [if_neg h63]
    simp only [Sem.run_pure, Sem.run_bind, Result.andThen_ok, run_program, hi]
    rw [if_neg h48]
    simp only [Sem.run_pure, Sem.run_bind, Result.andThen_ok, run_choose, Question.forced, Bool.false_eq_true, if_false, World.drew_eq, run_program, hi, run_askRoom, hold, Bool.not_false, if_true, hnew, hzv, run_newRow]
    rfl

theorem firstCells_none (size n c : Nat) (w : World) : (Builtin.firstCells size n (.slice none 0 c)).run P w = .ok #[] w := by simp [Builtin.firstCells]

theorem firstCells_some (size n : Nat) (a : Addr) (m c : Nat) : Builtin.firstCells size n (.slice (some a) m c) = loadCells a (n * size) := rfl

/-- A new array, laid by an append. -/
theorem Rel.grown (r : Rel C φ w h) {esz n cap : Nat} {cs : List NV} {vs rest : Array Value} {e : TypeId} (hv : VRels φ cs vs.toList) (h1 : cs.all NV.one = true) (hl : cs.length = n * esz)
    (hrest : rest.size = (cap - n) * esz) (hn : n ≤ cap) (h0 : 0 < esz) :
    ∃ φ', φ.le φ' ∧ VRel φ' (.slice (some (h.length, 0)) n (.opn esz)) (.slice (some ⟨w.heap.size, 0, none⟩) n cap) ∧
      Rel C φ' (w.drew.alloc (.cells (vs ++ rest) e)) (h ++ [some (.cells cs false)]) := by
  have lv := hv.length
  simp only [Array.length_toList] at lv
  let p : Place := ⟨w.heap.size, 0, cap * esz, n * esz⟩
  have hmul : (cap - n) * esz = cap * esz - n * esz := Nat.sub_mul ..
  have hle : n * esz ≤ cap * esz := Nat.mul_le_mul_right _ hn
  refine ⟨φ.put h.length p, PMap.le_put r.fresh, ?_, ?_⟩
  · simp only [VRel]
    exact ⟨p, 0, cap, PMap.put_same, rfl, hn, .inr rfl, by simp [p], by simp [p, hle], h0⟩
  · refine r.drew.alloc (p := p) rfl ?_
    refine ⟨_, e, (0, 0), rfl, ?_, hl, ?_, fun _ => rfl, ?_, h1⟩
    · simp [p, lv, hl, hrest, hmul]; omega
    · simp [p, hle]
    · simp only [p, List.drop_zero, Array.toList_append]
      rw [List.take_append_of_le_length (by simp; omega), List.take_of_length_le (by simp; omega)]
      exact hv.mono (PMap.le_put r.fresh)

theorem grownCap_ge' (w : World) (n o : Nat) (e : TypeId) : n ≤ grownCap w n o e := grownCap_ge w n o e

theorem zeroCells_size (z : Array Value) (n : Nat) : (Builtin.zeroCells z n).size = n * z.size := size_zeroCells z n

/-- What an append of cells comes to: 'A' is the operation as a function of the slice. -/
theorem sim_append_core (r : Rel C φ w h) {e : TypeId} {i : TypeInfo} {z : Value} (hz : i.zero = some z)
    (hzs : z.cells.size = i.size) (hesz : 0 < i.size) (hby : 0 < i.bytes) {s nv : NV} {vs : Value} {n : Nat} {new : List NV} {h' : Heap} (hs : VRel φ s vs)
    {A : Value → Sem Value} {news : Array Value} (hnr : VRels φ new news.toList) (hn1 : new.all NV.one = true) (hlen : new.length = n * i.size)
    (hA1 : ∀ (sb : Option Addr) (sl sc : Nat), sl + n ≤ sc → (A (.slice sb sl sc)).run P w =
      ((match sb with | some a => storeCells (a.add (sl * i.size)) news.toList | none => pure () : Sem Unit).run P w).andThen fun _ w' => .ok (.slice sb (sl + n) sc) w')
    (hA2 : ∀ (sb : Option Addr) (sl sc : Nat) (olds : Array Value), ¬ sl + n ≤ sc → (sl + n) * i.bytes ≤ 140737488355328 → sl + n ≤ 140737488355328 → (Builtin.firstCells i.size sl (.slice sb sl sc)).run P w.drew = .ok olds w.drew →
      (A (.slice sb sl sc)).run P w =
        .ok (.slice (some ⟨w.heap.size, 0, none⟩) (sl + n) (grownCap w (sl + n) sc e)) (w.drew.alloc (.cells (olds ++ news ++ Builtin.zeroCells z.cells (grownCap w (sl + n) sc e - (sl + n))) e)))
    (ea : nappend h i.size i.bytes s n new = some (nv, h')) :
    ∃ v w', (A vs).run P w = .ok v w' ∧ ∃ φ', φ.le φ' ∧ VRel φ' nv v ∧ Rel C φ' w' h' := by
  have lnews := hnr.length
  simp only [Array.length_toList] at lnews
  -- growing
  have grow : ∀ {sb : Option Addr} {sl sc : Nat} {old : List NV} {olds : Array Value} {h0 : Heap}, ¬ sl + n ≤ sc → (sl + n) * i.bytes ≤ 140737488355328 → sl + n ≤ 140737488355328 →
      (Builtin.firstCells i.size sl (.slice sb sl sc)).run P w.drew = .ok olds w.drew → VRels φ old olds.toList → old.all NV.one = true → old.length = sl * i.size → Rel C φ w h0 →
      ∃ v w', (A (.slice sb sl sc)).run P w = .ok v w' ∧ ∃ φ', φ.le φ' ∧ VRel φ' (.slice (some (h0.length, 0)) (sl + n) (.opn i.size)) v ∧ Rel C φ' w' (h0 ++ [some (.cells (old ++ new) false)]) := by
    intro sb sl sc old olds h0 hroom h47 hn47 hold hor ho1 hol r0
    have hrun := hA2 sb sl sc olds hroom h47 hn47 hold
    refine ⟨_, _, hrun, ?_⟩
    have hge := grownCap_ge w (sl + n) sc e
    have := r0.grown (n := sl + n) (cap := grownCap w (sl + n) sc e) (esz := i.size) (cs := old ++ new) (vs := olds ++ news) (rest := Builtin.zeroCells z.cells (grownCap w (sl + n) sc e - (sl + n))) (e := e)
      (by rw [Array.toList_append]; exact hor.append hnr) (by simp [ho1, hn1]) (by rw [List.length_append, hol, hlen, Nat.add_mul]) (by rw [zeroCells_size, hzs]) hge hesz
    exact this
  have here : ∀ {sb : Option Addr} {sl sc : Nat}, sl + n ≤ sc → (match sb with | some a => storeCells (a.add (sl * i.size)) news.toList | none => pure () : Sem Unit).run P w = .ok () w →
      (A (.slice sb sl sc)).run P w = .ok (.slice sb (sl + n) sc) w := by
    intro sb sl sc hroom hst
    rw [hA1 sb sl sc hroom, hst]; rfl
  have zero_news : new.length = 0 → news = #[] := fun h0 => Array.eq_empty_of_size_eq_zero (by omega)
  unfold nappend at ea
  split at ea
  · -- the nil slice
    rename_i l c
    simp only [VRel] at hs
    obtain ⟨rfl, rfl, rfl⟩ := hs
    split at ea
    · rename_i h0
      cases ea
      subst h0
      refine ⟨.slice none 0 0, w, by simpa using here (sb := none) (sl := 0) (sc := 0) (by omega) rfl, φ, PMap.le.refl _, by simp [VRel], r⟩
    · rename_i h0
      split at ea <;> try (cases ea; done)
      rename_i hc
      cases ea
      have := grow (sb := none) (sl := 0) (sc := 0) (old := []) (olds := #[]) (h0 := h) (by omega) (by simpa using hc.1) (by omega) (firstCells_none _ _ _ _) rfl rfl (by simp) r
      simpa using this
  · -- a slice whose capacity is known
    rename_i b o l c
    simp only [VRel] at hs
    obtain ⟨p, off, hp, rfl, hlc, hoff⟩ := hs
    split at ea
    · rename_i hroom
      split at ea
      · rename_i h0
        cases ea
        refine ⟨.slice (some ⟨p.rb, off, none⟩) (l + n) c, w, here hroom (by rw [zero_news h0]; rfl), φ, PMap.le.refl _, ?_, r⟩
        simp only [VRel]; exact ⟨p, off, hp, rfl, hroom, hoff⟩
      · rename_i h0
        split at ea <;> try (cases ea; done)
        rename_i cs hb
        split at ea <;> try (cases ea; done)
        rename_i hle
        cases ea
        have hoff' : off = p.ro + o := by
          rcases hoff with rfl | h1
          · have : n = 0 := by omega
            rw [this] at hlen; omega
          · exact h1
        subst hoff'
        have hmul : (l + n) * i.size = l * i.size + n * i.size := Nat.add_mul ..
        obtain ⟨w', hw', hr'⟩ := r.write (P := P) (o := o + l * i.size) hb hp (by omega) hnr hn1
        refine ⟨.slice (some ⟨p.rb, p.ro + o, none⟩) (l + n) c, w', ?_, φ, PMap.le.refl _, ?_, hr'⟩
        · rw [hA1 (some ⟨p.rb, p.ro + o, none⟩) l c hroom]
          simp only [addr_add, Nat.add_assoc] at hw' ⊢
          rw [hw']; rfl
        · simp only [VRel]; exact ⟨p, p.ro + o, hp, rfl, hroom, .inr rfl⟩
    · rename_i hroom
      split at ea <;> try (cases ea; done)
      rename_i old hold
      split at ea <;> try (cases ea; done)
      rename_i hc
      cases ea
      have ho : ∃ olds : Array Value, (Builtin.firstCells i.size l (.slice (some ⟨p.rb, off, none⟩) l c)).run P w.drew = .ok olds w.drew ∧ VRels φ old olds.toList ∧ old.all NV.one = true ∧ old.length = l * i.size := by
        rw [firstCells_some]
        split at hold
        · rename_i h0
          cases hold
          exact ⟨#[], by rw [h0]; rfl, rfl, rfl, by simp [h0]⟩
        · rename_i h0
          obtain ⟨cs, hcs, hcut⟩ := Option.bind_eq_some_iff.1 hold
          have hoff' : off = p.ro + o := by
            rcases hoff with rfl | h1
            · have : l = 0 := by omega
              rw [this] at h0; simp at h0
            · exact h1
          subst hoff'
          obtain ⟨us, hl, hr, h1⟩ := r.loadCells (P := P) hcs hp hcut
          refine ⟨us, hl w.drew rfl, hr, h1, ?_⟩
          unfold cut at hcut
          split at hcut <;> simp at hcut
          subst hcut; simp; omega
      obtain ⟨olds, ho1, ho2, ho3, ho4⟩ := ho
      exact grow hroom hc.1 hc.2 ho1 ho2 ho3 ho4 r
  · -- a slice whose capacity is not known
    rename_i b o l q
    split at ea <;> try (cases ea; done)
    rename_i hq
    simp only [ne_eq, Classical.not_not] at hq
    subst hq
    simp only [VRel] at hs
    obtain ⟨p, off, cap, hp, rfl, hlc, hoff, hsz, hk, _⟩ := hs
    split at ea <;> try (cases ea; done)
    rename_i cs hb
    obtain ⟨ob, hob, c, tt, fz, rfl, hcs1, hcs2, hcs3, hfz, hcs5, hcs6⟩ := r.blk _ _ _ hb hp
    have hmul : (l + n) * i.size = l * i.size + n * i.size := Nat.add_mul ..
    split at ea
    · rename_i h0
      cases ea
      have hn0 : n = 0 := by
        rw [h0] at hlen
        rcases Nat.mul_eq_zero.1 hlen.symm with h | h
        · exact h
        · omega
      subst hn0
      refine ⟨.slice (some ⟨p.rb, off, none⟩) l cap, w, by simpa using here (sb := some ⟨p.rb, off, none⟩) (sl := l) (sc := cap) (by omega) (by rw [zero_news h0]; rfl), φ, PMap.le.refl _, ?_, r⟩
      simp only [VRel, Nat.add_zero]; exact ⟨p, off, cap, hp, rfl, hlc, hoff, hsz, hk, hesz⟩
    · rename_i h0
      have hn0 : 0 < n := by
        rcases Nat.eq_zero_or_pos n with h | h
        · rw [h] at hlen; omega
        · exact h
      split at ea
      · rename_i hle
        cases ea
        have hcap : l + n ≤ cap := by
          have : (l + n) * i.size ≤ cap * i.size := by omega
          exact Nat.le_of_mul_le_mul_right this hesz
        have hoff' : off = p.ro + o := by
          rcases hoff with rfl | h1
          · omega
          · exact h1
        subst hoff'
        obtain ⟨w', hw', hr'⟩ := r.write (P := P) (o := o + l * i.size) hb hp (by omega) hnr hn1
        refine ⟨.slice (some ⟨p.rb, p.ro + o, none⟩) (l + n) cap, w', ?_, φ, PMap.le.refl _, ?_, hr'⟩
        · rw [hA1 (some ⟨p.rb, p.ro + o, none⟩) l cap hcap]
          simp only [addr_add, Nat.add_assoc] at hw' ⊢
          rw [hw']; rfl
        · simp only [VRel]; exact ⟨p, p.ro + o, cap, hp, rfl, hcap, .inr rfl, hsz, hk, hesz⟩
      · rename_i hnot
        split at ea <;> try (cases ea; done)
        rename_i hc
        cases ea
        obtain ⟨hle, h47, hn47⟩ := hc
        have hcut : cut cs o (l * i.size) = some ((cs.drop o).take (l * i.size)) := by unfold cut; rw [if_pos hle]
        have hcs : hcells h b = some cs := by unfold hcells; rw [hb]
        have hone : ((cs.drop o).take (l * i.size)).all NV.one = true := by
          simp only [List.all_eq_true] at hcs6 ⊢
          exact fun a ha => hcs6 a (List.mem_of_mem_drop (List.mem_of_mem_take ha))
        have holen : ((cs.drop o).take (l * i.size)).length = l * i.size := by simp; omega
        by_cases hroom : l + n ≤ cap
        · -- in place, beyond what is known
          have hoff' : off = p.ro + o := by
            rcases hoff with rfl | h1
            · omega
            · exact h1
          subst hoff'
          have hfz := hfz rfl
          subst hfz
          have hcapm : (l + n) * i.size ≤ cap * i.size := Nat.mul_le_mul_right _ hroom
          have hones : ∀ u ∈ news.toList, u.oneCell' = true := by
            intro u hu
            obtain ⟨j, hj⟩ := List.getElem?_of_mem hu
            have hlt : j < new.length := by rw [← hnr.length]; exact (List.getElem?_eq_some_iff.1 hj).1
            obtain ⟨y, hy, hxy⟩ := hnr.get j new[j] (List.getElem?_eq_getElem hlt)
            rw [hj] at hy; cases hy
            exact hxy.one (List.all_eq_true.1 hn1 _ (List.getElem_mem hlt))
          have hst := run_storeCells_at P p.rb (p.ro + o + l * i.size) tt news.toList 0 c w hob (by simp; omega) hones
          simp only [Nat.add_zero] at hst
          let p' : Place := ⟨p.rb, p.ro + o, p.sz, (l + n) * i.size⟩
          let c' : Array Value := (c.toList.take (p.ro + o + l * i.size) ++ news.toList ++ c.toList.drop (p.ro + o + l * i.size + news.toList.length)).toArray
          have hle' : φ.le (φ.put h.length p') := PMap.le_put r.fresh
          have hobj : (w.setRow p.rb c').heap[p.rb]? = some (.cells c' tt (0, 0)) := setRow_heap w p.rb c c' tt (0, 0) hob
          have hor : ObjRel (φ.put h.length p') p' (.cells c' tt (0, 0)) (.cells ((cs.drop o).take (l * i.size) ++ new) false) := by
            refine ⟨c', tt, (0, 0), rfl, ?_, ?_, ?_, fun _ => rfl, ?_, ?_⟩
            · simp [c', p']; omega
            · simp only [p', List.length_append, holen, hlen]; omega
            · simp only [p']; omega
            · have hv1 : VRels φ ((cs.drop o).take (l * i.size)) (((((c.toList.drop p.ro).take p.k)).drop o).take (l * i.size)) := (hcs5.drop o).take _
              have hv2 := hv1.append hnr
              have e : (((((c.toList.drop p.ro).take p.k)).drop o).take (l * i.size)) ++ news.toList = (c'.toList.drop p'.ro).take p'.k := by
                apply List.ext_getElem?
                intro j
                have lc : c.toList.length = c.size := by simp
                have ln : news.toList.length = n * i.size := by simp; omega
                simp only [c', p', List.getElem?_take, List.getElem?_drop, List.getElem?_append, List.length_take, List.length_drop, List.length_append, lc, ln, List.append_assoc]
                by_cases h1 : j < l * i.size
                · have a1 : j < min (l * i.size) (min p.k (c.size - p.ro) - o) := by omega
                  have a2 : j < (l + n) * i.size := by omega
                  have a3 : p.ro + o + j < min (p.ro + o + l * i.size) c.size := by omega
                  have a4 : p.ro + o + j < p.ro + o + l * i.size := by omega
                  have a5 : o + j < p.k := by omega
                  have a6 : p.ro + (o + j) = p.ro + o + j := by omega
                  simp [h1, a1, a2, a3, a4, a5, a6]
                · have a1 : ¬ j < min (l * i.size) (min p.k (c.size - p.ro) - o) := by omega
                  have a2 : ¬ p.ro + o + j < min (p.ro + o + l * i.size) c.size := by omega
                  have a3 : min (l * i.size) (min p.k (c.size - p.ro) - o) = l * i.size := by omega
                  have a4 : min (p.ro + o + l * i.size) c.size = p.ro + o + l * i.size := by omega
                  have a5 : p.ro + o + j - (p.ro + o + l * i.size) = j - l * i.size := by omega
                  simp only [a1, a2, if_false, a3, a4, a5]
                  by_cases h2 : j < (l + n) * i.size
                  · have a6 : j - l * i.size < n * i.size := by omega
                    have a7 : ¬ p.ro + o + j < p.ro + o + l * i.size := by omega
                    simp only [h2, if_true, h1, a7, a6, if_false]
                  · simp only [h2, if_false]
                    rw [if_neg h1, List.getElem?_eq_none (by omega)]
              rw [← e]; exact hv2.mono hle'
            · simp [hone, hn1]
          refine ⟨.slice (some ⟨p.rb, p.ro + o, none⟩) (l + n) cap, w.setRow p.rb c', ?_, φ.put h.length p', hle', ?_, r.moved hb hp rfl rfl hobj (fun j hj => setRow_other w p.rb j _ hj) (size_setRow ..) rfl rfl rfl rfl hor⟩
          · rw [hA1 (some ⟨p.rb, p.ro + o, none⟩) l cap hroom]
            simp only [addr_add]
            rw [hst]; rfl
          · simp only [VRel]
            exact ⟨p', p.ro + o, cap, PMap.put_same, rfl, hroom, .inr (by simp [p']), by simp only [p']; omega, by simp only [p']; omega, hesz⟩
        · have ho : ∃ olds : Array Value, (Builtin.firstCells i.size l (.slice (some ⟨p.rb, off, none⟩) l cap)).run P w.drew = .ok olds w.drew ∧ VRels φ ((cs.drop o).take (l * i.size)) olds.toList := by
            rw [firstCells_some]
            rcases hoff with rfl | rfl
            · have hl0 : l = 0 := by omega
              subst hl0
              refine ⟨#[], by simp [loadCells, loadCellsFrom], ?_⟩
              simp [VRels]
            · obtain ⟨us, hl, hr, h1⟩ := r.loadCells (P := P) hcs hp hcut
              exact ⟨us, hl w.drew rfl, hr⟩
          obtain ⟨olds, ho1, ho2⟩ := ho
          have := grow hroom h47 hn47 ho1 ho2 hone holen (r.kill b)
          simpa using this
  · cases ea

theorem sim_append (r : Rel C φ w h) {t ty e t1 e1 : TypeId} {i : TypeInfo} {z : Value} (ht : P.underlying t = some (.slice e)) (ht1 : P.underlying t1 = some (.slice e1)) (hi : P.info? e = some i) (hz : i.zero = some z)
    (hzs : z.cells.size = i.size) (hesz : 0 < i.size) (hby : 0 < i.bytes) {s x nv : NV} {vs vx : Value} {n : Nat} {new : List NV} {h' : Heap} (hs : VRel φ s vs) (hx : VRel φ x vx)
    (hnew : sliceCells h i.size x = some new) (hn : lenOfSl x = some n) (ea : nappend h i.size i.bytes s n new = some (nv, h')) :
    ∃ v w', (Builtin.append_ #[t, t1] ty #[vs, vx]).run P w = .ok v w' ∧ ∃ φ', φ.le φ' ∧ VRel φ' nv v ∧ Rel C φ' w' h' := by
  obtain ⟨xa, n', xc, rfl, hn', hxc⟩ := sliceCells_run (P := P) r hx hnew
  rw [hn] at hn'; cases hn'
  have hload : ∃ news : Array Value, (∀ W : World, W.heap = w.heap → (Builtin.firstCells i.size n (.slice xa n xc)).run P W = .ok news W) ∧ VRels φ new news.toList ∧ new.all NV.one = true := by
    rcases hxc with ⟨rfl, rfl, rfl, rfl⟩ | ⟨aa, rfl, us, hl, hr, h1⟩
    · exact ⟨#[], fun W _ => firstCells_none _ _ _ _, rfl, rfl⟩
    · exact ⟨us, fun W hW => by rw [firstCells_some]; exact hl W hW, hr, h1⟩
  obtain ⟨news, hnews, hnr, hn1⟩ := hload
  have hlen : new.length = n * i.size := by
    unfold sliceCells at hnew
    split at hnew
    · simp only [lenOfSl, Option.some.injEq] at hn; subst hn
      split at hnew <;> simp at hnew
      rename_i h0; subst h0 hnew; simp
    · simp only [lenOfSl, Option.some.injEq] at hn; subst hn
      split at hnew
      · rename_i h0; cases hnew; simp [h0]
      · obtain ⟨cs, hcs, hc⟩ := Option.bind_eq_some_iff.1 hnew
        unfold cut at hc
        split at hc <;> simp at hc
        subst hc; simp; omega
    · cases hnew
  exact sim_append_core r hz hzs hesz hby hs (A := fun v => Builtin.append_ #[t, t1] ty #[v, .slice xa n xc]) hnr hn1 hlen
    (fun sb sl sc hroom => (run_append_gen (P := P) (ty := ty) (sb := sb) (sl := sl) (sc := sc) ht ht1 hi (hnews w rfl)).1 hroom)
    (fun sb sl sc olds hroom h47 hn47 hold => (run_append_gen (P := P) (ty := ty) (sb := sb) (sl := sl) (sc := sc) ht ht1 hi (hnews w rfl)).2 hroom hby h47 hn47 hz hold (hnews w.drew rfl)) ea

theorem zeroCells_list {z : Array Value} (n : Nat) (hz : 0 < z.size) : (Builtin.zeroCells z n).toList = (List.replicate n z.toList).flatten := range_mod z n hz

/-- An append of zeros. -/
theorem sim_appendz (r : Rel C φ w h) {t ty e t1 : TypeId} {ik : IntKind} {i : TypeInfo} {z : Value} (ht : P.underlying t = some (.slice e)) (ht1 : P.underlying t1 = some (.int ik)) (hi : P.info? e = some i) (hz : i.zero = some z)
    (hzs : z.cells.size = i.size) (hesz : 0 < i.size) (hby : 0 < i.bytes) {s nv zn : NV} {vs : Value} {m : Int} {h' : Heap} (hs : VRel φ s vs) (hzn : VRels φ zn.cells z.cells.toList) (hz1 : zn.cells.all NV.one = true)
    (hm0 : 0 ≤ m) (hmb : m.toNat * i.bytes ≤ 140737488355328) (hml : m.toNat ≤ 140737488355328) (ea : nappend h i.size i.bytes s m.toNat (List.replicate m.toNat zn.cells).flatten = some (nv, h')) :
    ∃ v w', (Builtin.append_ #[t, t1] ty #[vs, .int .i64 m]).run P w = .ok v w' ∧ ∃ φ', φ.le φ' ∧ VRel φ' nv v ∧ Rel C φ' w' h' := by
  have hlz := hzn.length
  simp only [Array.length_toList] at hlz
  have hwrap : IntKind.i64.wrap m = m := by
    rw [IntWalk.i64_left]; exact IntWalk.wrap64_in m (by omega)
  have hneg : ¬ m < 0 := by omega
  have hbig : ¬ (m * (i.bytes : Int) > 2 ^ 48) := by
    have e1 : m * (i.bytes : Int) = ((m.toNat * i.bytes : Nat) : Int) := by rw [Int.natCast_mul]; congr 1; omega
    have e2 : (2 : Int) ^ 48 = 281474976710656 := by decide
    omega
  have hzv : ∀ W : World, (zeroValue e).run P W = .ok z W := fun W => by simp [zeroValue, typeInfo, hi, hz]
  have happ : ∀ W : World, (if m.toNat * i.size = 0 then (pure #[] : Sem (Array Value)) else do pure (Builtin.zeroCells (← zeroValue e).cells m.toNat)).run P W = .ok (Builtin.zeroCells z.cells m.toNat) W := by
    intro W
    split
    · rename_i h0
      have : m.toNat = 0 := by
        rcases Nat.mul_eq_zero.1 h0 with h | h
        · exact h
        · omega
      rw [this]
      simp [Builtin.zeroCells]
    · simp [hzv W]
  refine sim_append_core (e := e) r hz hzs hesz hby hs (n := m.toNat) (A := fun v => Builtin.append_ #[t, t1] ty #[v, .int .i64 m]) (news := Builtin.zeroCells z.cells m.toNat) ?_ (all_replicate hz1 _) ?_ ?_ ?_ ea
  · rw [zeroCells_list _ (by omega)]; exact hzn.replicate _
  · simp only [List.length_flatten, List.map_replicate, List.sum_replicate_nat]; rw [← hlz, hzs]
  · intro sb sl sc hroom
    have hasInt : ∀ W, (asInt (.int .i64 m)).run P W = .ok m W := fun W => by simp [asInt, asIntOf]
    simp only [Builtin.append_, List.getElem?_toArray, List.getElem?_cons_zero, List.getElem?_cons_succ, Sem.run_bind, run_underlying ht, Result.andThen_ok, sizeOf, typeInfo, run_program, hi, Sem.run_pure,
      run_underlying ht1, hasInt, hwrap, hneg, hbig, if_false, if_true, hroom, happ, Bool.not_true, Bool.false_eq_true]
    cases sb <;> simp [happ]
  · intro sb sl sc olds hroom h47 hn47 hold
    have hasInt : ∀ W, (asInt (.int .i64 m)).run P W = .ok m W := fun W => by simp [asInt, asIntOf]
    have hfit := growslice_fits (need := sl + m.toNat) (old := sc) (bytes := i.bytes) (by omega) h47
    have h63 : ¬ (((sl + m.toNat : Nat) : Int) > IntKind.i64.max) := by
      have : IntKind.i64.max = 9223372036854775807 := by decide
      omega
    have h48 : ¬ (Builtin.nextslicecap (sl + m.toNat) sc * i.bytes > 2 ^ 48) := by
      have : (2 : Nat) ^ 48 = 281474976710656 := by decide
      omega
    simp only [Builtin.append_, List.getElem?_toArray, List.getElem?_cons_zero, List.getElem?_cons_succ, Sem.run_bind, run_underlying ht, Result.andThen_ok, sizeOf, typeInfo, run_program, hi, Sem.run_pure,
      run_underlying ht1, hasInt, hwrap, hneg, hbig, if_false, if_true, hroom, Bool.not_true, Bool.false_eq_true, true_or, and_true]
    rw [if_neg h63]
    simp only [Sem.run_pure, Sem.run_bind, Result.andThen_ok, run_program, hi]
    rw [if_neg h48]
    simp only [Sem.run_pure, Sem.run_bind, Result.andThen_ok, run_choose, Question.forced, Bool.false_eq_true, if_false, World.drew_eq, run_program, hi, run_askRoom, hold, Bool.not_false, if_true, happ, hzv, run_newRow]
    rfl

end
end Go.Ns
