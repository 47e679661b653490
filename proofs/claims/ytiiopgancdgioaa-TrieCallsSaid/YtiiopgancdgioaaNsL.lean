/- Code: the abstract run of a function's body, and that it answers as the model's run does. -/
import Derived.Test.YtiiopgancdgioaaNsK
import Derived.Scope
set_option linter.unusedVariables false
set_option linter.unusedSimpArgs false
namespace Go.Ns

theorem VRels.set {φ : PMap} {v : NV} {u : Value} (h : VRel φ v u) : ∀ {a : List NV} {x : List Value} (i : Nat), VRels φ a x → VRels φ (a.set i v) (x.set i u)
  | [], _, i, e => by simp [VRels] at e; subst e; simp [VRels]
  | _ :: _, _, 0, ⟨y, r, e, hv, hr⟩ => by subst e; exact ⟨u, r, rfl, h, hr⟩
  | _ :: _, _, i + 1, ⟨y, r, e, hv, hr⟩ => by subst e; exact ⟨y, _, rfl, hv, VRels.set h i hr⟩

theorem VRel.undef {φ : PMap} : VRel φ nundef undef := ⟨#[], rfl, rfl⟩

theorem VRel.bool_inv {φ : PMap} {n : NV} {b : Bool} (h : VRel φ n (.bool b)) : n = .bool b := by
  cases n with
  | bool c => simp [VRel] at h; simp [h]
  | int k n => simp [VRel] at h
  | str s => simp [VRel] at h
  | ptr a => cases a with
    | none => simp [VRel] at h
    | some a => simp [VRel] at h
  | slice a n c => cases a with
    | none => simp [VRel] at h
    | some a => cases c <;> simp [VRel] at h
  | map r => cases r <;> simp [VRel] at h
  | func fn a b => simp only [VRel] at h; obtain ⟨_, _, h, _⟩ := h; cases h
  | nilFunc => simp [VRel] at h
  | iface t x => simp only [VRel] at h; obtain ⟨_, h, _⟩ := h; cases h
  | nilIface => simp [VRel] at h
  | agg cs => simp only [VRel] at h; obtain ⟨_, h, _⟩ := h; cases h
  | tup cs => simp only [VRel] at h; obtain ⟨_, h, _⟩ := h; cases h

/-- An abstract state and a state of the model. -/
structure Sim (C : Cx) (φ : PMap) (F : List NV) (h : Heap) (a : Act) (w : World) : Prop where
  tmps : VRels φ F a.tmps.toList
  defers : a.defers = C.D
  rel : Rel C φ w h

section
variable {P : Program} {C : Cx} {φ : PMap} {w : World} {h : Heap} {F : List NV} {a : Act}

theorem eval_rel (hF : VRels φ F a.tmps.toList) {x : Operand} (hx : (copd x).ok = true) : VRel φ (nval F (copd x)) (a.eval x) := by
  cases x with
  | tmp t =>
    simp only [copd, nval, Act.eval]
    cases hg : F[t]? with
    | none =>
      have : a.tmps[t]? = none := by
        have hl := hF.length
        simp only [Array.length_toList] at hl
        simp only [List.getElem?_eq_none_iff] at hg
        simp; omega
      simp [List.getD, hg, this, VRel.undef]
    | some v =>
      obtain ⟨y, hy, hr⟩ := hF.get t v hg
      have : a.tmps[t]? = some y := by simpa using hy
      simp [List.getD, hg, this, hr]
  | const v =>
    simp only [copd, Act.eval] at hx ⊢
    split at hx
    · rename_i n hn; exact (ofConst_rel hn).1
    · cases hx
  | global g => simp [copd, NOpd.ok] at hx
  | func f => exact ⟨#[], #[], rfl, rfl, rfl⟩

theorem put_rel {φ' : PMap} (hF : VRels φ F a.tmps.toList) (hle : φ.le φ') {nv : NV} {v : Value} (hv : VRel φ' nv v) (dst : Option Nat) : VRels φ' (nput F dst nv) (a.put dst v).tmps.toList := by
  cases dst with
  | none => exact hF.mono hle
  | some d => simp only [nput, Act.put, Array.toList_setIfInBounds]; exact (hF.mono hle).set hv d

theorem put_defers {dst : Option Nat} {v : Value} : (a.put dst v).defers = a.defers := by cases dst <;> rfl

theorem cop_ok {o : Op} (hne : cop P o ≠ .fail) : cop P o = cop' P o ∧ ∀ x ∈ o.operands.toList, (copd x).ok = true := by
  unfold cop at hne ⊢
  split
  · rename_i hall; exact ⟨rfl, fun x hx => List.all_eq_true.1 hall x hx⟩
  · rename_i hall; rw [if_neg hall] at hne; exact absurd rfl hne

theorem Res.of_all {α : Type} {Q : α → Prop} {o : Option α} (h : (Res.of o).all Q) : ∃ a, o = some a ∧ Q a := by
  cases o with
  | none => exact h.elim
  | some a => exact ⟨a, rfl, h⟩

/-- One operation. -/
theorem sim_nop {S : Specs} (hS : SpecOK P S) {o : Oper} {Q : NV × Heap → Prop} (hF : VRels φ F a.tmps.toList) (r : Rel C φ w h) (e : (nop (nval F) S h (cop P o.op)).all Q)
    {next : Act → World → Prop} {QX : Exit → Act → World → Prop} (hn : ∀ v w', Post C φ (fun q => Q q ∧ h.length ≤ q.2.length) v w' → next (a.put o.dst v) w') :
    o.upon P a next QX ((execOp a.eval o).run P w) := by
  have hne : cop P o.op ≠ .fail := by intro hf; rw [hf] at e; exact e
  obtain ⟨hc, hok⟩ := cop_ok hne
  have hρ : ∀ x ∈ o.op.operands.toList, VRel φ (nval F (copd x)) (a.eval x) := fun x hx => eval_rel hF (hok x hx)
  rw [hc] at e
  unfold nop at e
  split at e
  · obtain ⟨q, hq, hQ⟩ := Res.of_all e
    obtain ⟨nv, hnv, rfl⟩ := Option.map_eq_some_iff.1 hq
    obtain ⟨v, hv, hr⟩ := sim_pure (P := P) (o := o) hρ hnv
    rw [hv w]
    exact hn v w ⟨nv, h, φ, ⟨hQ, Nat.le_refl _⟩, PMap.le.refl _, hr, r⟩
  · obtain ⟨q, hq, hQ⟩ := Res.of_all e
    obtain ⟨nv, hnv, rfl⟩ := Option.map_eq_some_iff.1 hq
    obtain ⟨v, hv, hr⟩ := sim_read (P := P) (o := o) r hρ hnv
    rw [hv]
    exact hn v w ⟨nv, h, φ, ⟨hQ, Nat.le_refl _⟩, PMap.le.refl _, hr, r⟩
  · obtain ⟨q, hq, hQ⟩ := Res.of_all e
    obtain ⟨⟨x, res⟩, hnv, rfl⟩ := Option.map_eq_some_iff.1 hq
    obtain ⟨vf, obj, sz, k, hv, hr⟩ := sim_alloc (P := P) (o := o) hρ hnv
    rw [hv w]
    let p : Place := ⟨w.heap.size, 0, sz, k⟩
    obtain ⟨h1, h2⟩ := hr (φ.put h.length p) h.length w.heap.size (PMap.le_put r.fresh) PMap.put_same
    exact hn _ _ ⟨res h.length, _, φ.put h.length p, ⟨hQ, by simp⟩, PMap.le_put r.fresh, h1, r.alloc rfl h2⟩
  · exact sim_eff hS r hρ e hn

/-- An operation of a region, translated. -/
def coper (P : Program) (ops : Array Oper) (o : Oper) : NOper :=
  match o.guard with
  | none => ⟨o.dst, cop P o.op, none⟩
  | some (j, want) =>
    match (ops[j]?).bind (·.dst) with
    | some t => ⟨o.dst, cop P o.op, some (t, want)⟩
    | none => ⟨o.dst, .fail, none⟩

theorem wanted_rel {ops : Array Oper} {o : Oper} (hF : VRels φ F a.tmps.toList) (hd : ∀ j want, o.guard = some (j, want) → ((ops[j]?).bind (·.dst)).isSome = true) :
    Region.wanted o (yielded ops a.tmps) = nwanted F (coper P ops o).guard := by
  unfold Region.wanted coper
  cases hg : o.guard with
  | none => rfl
  | some jw =>
    obtain ⟨j, want⟩ := jw
    obtain ⟨t, ht⟩ := Option.isSome_iff_exists.1 (hd j want hg)
    simp only [ht, nwanted]
    unfold yielded
    simp only [ht, Option.bind_some]
    cases hgt : F[t]? with
    | none =>
      have : a.tmps[t]? = none := by
        have hl := hF.length
        simp only [Array.length_toList] at hl
        simp only [List.getElem?_eq_none_iff] at hgt
        simp; omega
      simp [this]
    | some v =>
      obtain ⟨y, hy, hr⟩ := hF.get t v hgt
      have : a.tmps[t]? = some y := by simpa using hy
      rw [this]
      simp only [Option.bind_some]
      cases v with
      | bool b => have := hr.bool; subst this; simp [nbool?]
      | _ =>
        simp only [nbool?]
        cases y <;> first | rfl | (have := hr.bool_inv; cases this)

theorem coper_guard {ops : Array Oper} {o : Oper} (hne : (coper P ops o).op ≠ .fail ∨ (coper P ops o).guard ≠ none) : ∀ j want, o.guard = some (j, want) → ((ops[j]?).bind (·.dst)).isSome = true := by
  intro j want hg
  unfold coper at hne
  rw [hg] at hne
  simp only at hne
  cases ht : (ops[j]?).bind (·.dst) with
  | some t => rfl
  | none => rw [ht] at hne; simp at hne

theorem coper_dst {ops : Array Oper} {o : Oper} : (coper P ops o).dst = o.dst := by
  unfold coper
  split
  · rfl
  · split <;> rfl

theorem coper_op {ops : Array Oper} {o : Oper} (hg : ∀ j want, o.guard = some (j, want) → ((ops[j]?).bind (·.dst)).isSome = true) : (coper P ops o).op = cop P o.op := by
  unfold coper
  split
  · rfl
  · rename_i j want hgu
    split
    · rfl
    · rename_i hn; have := hg j want hgu; rw [hn] at this; cases this

theorem nop_fail {S : Specs} {ρ : NOpd → NV} : nop ρ S h .fail = .fail := rfl

theorem nput_length {dst : Option Nat} {v : NV} : (nput F dst v).length = F.length := by cases dst <;> simp [nput]

/-- A region whose operations run in order. -/
theorem sim_ops {S : Specs} (hS : SpecOK P S) {ops : Array Oper} {QX : Exit → Act → World → Prop} {K : List NV × Heap → Prop} : ∀ (l : List Oper) {φ : PMap} {F : List NV} {h : Heap} {a : Act} {w : World}, Sim C φ F h a w →
    (nops S (l.map (coper P ops)) F h).all K → (∀ φ' F' h' a' w', K (F', h') → Sim C φ' F' h' a' w' → QX .normal a' w') → wpList P ops QX l a w
  | [], φ, F, h, a, w, s, e, hq => hq φ F h a w e s
  | o :: l, φ, F, h, a, w, s, e, hq => by
    simp only [List.map_cons, nops] at e
    have e := Res.all_bind e
    unfold nstep at e
    have hgd : ∀ j want, o.guard = some (j, want) → ((ops[j]?).bind (·.dst)).isSome = true := by
      apply coper_guard (P := P)
      by_cases hg : (coper P ops o).guard = none
      · left; intro hf
        rw [hg, hf] at e
        simp only [nwanted, if_true, nop_fail, Res.bind] at e
        exact e
      · exact .inr hg
    have hw := wanted_rel (P := P) s.tmps hgd
    unfold wpList
    rw [hw]
    split at e
    · rename_i hwt
      rw [if_pos hwt]
      left
      rw [coper_op hgd] at e
      have e := Res.all_bind e
      unfold Oper.wp
      refine sim_nop hS s.tmps s.rel e fun v w' hp => ?_
      obtain ⟨nv, h', φ', ⟨hQ, _⟩, hle, hv, r'⟩ := hp
      simp only [Res.all] at hQ
      rw [coper_dst] at hQ
      exact sim_ops hS l ⟨put_rel s.tmps hle hv o.dst, by rw [put_defers]; exact s.defers, r'⟩ hQ hq
    · rename_i hwt
      rw [if_neg hwt]
      simp only [Res.all, coper_dst] at e
      exact sim_ops hS l ⟨put_rel s.tmps (PMap.le.refl _) VRel.undef o.dst, by rw [put_defers]; exact s.defers, s.rel⟩ e hq

end
end Go.Ns
