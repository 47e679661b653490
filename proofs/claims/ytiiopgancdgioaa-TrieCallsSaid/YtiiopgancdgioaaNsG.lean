/- Operations that read memory, and operations that make one block. -/
import Derived.Test.YtiiopgancdgioaaNsF
set_option linter.unusedVariables false
set_option linter.unusedSimpArgs false
namespace Go.Ns

section
variable {P : Program} {C : Cx} {φ : PMap} {w : World} {h : Heap} {ρn : NOpd → NV} {ρr : Operand → Value}

theorem nread_orFail {α : Type} {f : α → NOp} (hf : ∀ a, nread ρn h (f a) = none) (o : Option α) : nread ρn h (NOp.orFail (o.map f)) = none := by
  cases o with
  | none => rfl
  | some a => exact hf a

theorem nread_orFail2 {α β : Type} {f : α → β → NOp} (hf : ∀ a b, nread ρn h (f a b) = none) (o : Option α) (p : α → Option β) : nread ρn h (NOp.orFail (o.bind fun a => (p a).map (f a))) = none := by
  cases o with
  | none => rfl
  | some a => exact nread_orFail (hf a) (p a)

theorem entsOf_run (r : Rel C φ w h) {x : NV} {vx : Value} {es : List NEnt} (hx : VRel φ x vx) (e : entsOf h x = some es) :
    (vx = .map none ∧ es = []) ∨ ∃ rb es' clock, vx = .map (some rb) ∧ w.heap[rb]? = some (.map es' clock) ∧ ERels φ es es'.toList := by
  unfold entsOf at e
  split at e
  · cases e; simp only [VRel] at hx; exact .inl ⟨hx, rfl⟩
  · rename_i b
    split at e <;> try (cases e; done)
    rename_i es0 clock hb
    cases e
    simp only [VRel] at hx
    obtain ⟨p, hp, rfl⟩ := hx
    obtain ⟨o, ho, h0, es', rfl, hr⟩ := r.blk _ _ _ hb hp
    exact .inr ⟨p.rb, es', clock, rfl, ho, hr⟩
  · cases e

theorem run_getObj_map {rb : Nat} {es : Array MapEntry} {clock : Nat} (hw : w.heap[rb]? = some (.map es clock)) : (getObj rb).run P w = .ok (.map es clock) w := by
  simp [getObj, Sem.run, hw]

theorem VRel.tup2 {a b : NV} {x y : Value} (ha : VRel φ a x) (hb : VRel φ b y) : VRel φ (.tup [a, b]) (.tuple #[x, y]) :=
  ⟨#[x, y], rfl, x, [y], rfl, ha, y, [], rfl, hb, rfl⟩

/-- An operation that reads memory. -/
theorem sim_read {o : Oper} {nv : NV} (r : Rel C φ w h) (hρ : ∀ x ∈ o.op.operands.toList, VRel φ (ρn (copd x)) (ρr x)) (e : nread ρn h (cop' P o.op) = some nv) :
    ∃ v, (execOp ρr o).run P w = .ok (.value v) w ∧ VRel φ nv v := by
  obtain ⟨dst, op, ty, pos, after, guard⟩ := o
  simp only at hρ e
  have lift : ∀ {s : Sem Value}, (∃ v, s.run P w = .ok v w ∧ VRel φ nv v) → ∃ v, (do pure (.value (← s)) : Sem Next).run P w = .ok (.value v) w ∧ VRel φ nv v := by
    rintro s ⟨v, hv, hr⟩
    exact ⟨v, by simp only [Sem.run_bind, hv, Result.andThen_ok, Sem.run_pure], hr⟩
  cases op
  case load t a =>
    have hx := hρ a (by simp [Op.operands])
    simp only [cop'] at e
    split at e <;> try (simp [nread] at e; done)
    rename_i ht
    cases hs : sizeT P t with
    | none => simp [hs, NOp.orFail, nread] at e
    | some n =>
      simp only [hs, Option.map_some, NOp.orFail, nread] at e
      exact lift (sim_load r hx ht hs e)
  case convert src dst x =>
    have hx := hρ x (by simp [Op.operands])
    simp only [cop', cconv] at e
    split at e <;> try (simp [nread] at e; done)
    rename_i q hs hd
    split at e <;> try (simp [nread] at e; done)
    rename_i he
    simp only [nread] at e
    obtain ⟨cs, hcs, e⟩ := Option.bind_eq_some_iff.1 e
    obtain ⟨bs, hbs, rfl⟩ := Option.map_eq_some_iff.1 e
    refine lift ⟨.string ⟨bs.toArray⟩, ?_, by simp [VRel]⟩
    obtain ⟨a, n, cap, hv, _⟩ := sliceCells_run (P := P) r hx hcs
    have := sim_toStr (P := P) r hx hcs hbs
    rw [hv] at this ⊢
    rw [run_convert_bytes_string w src dst q a n cap hs he hd, this]
  case lookup t m k ok =>
    have hm := hρ m (by simp [Op.operands])
    have hk := hρ k (by simp [Op.operands])
    simp only [cop'] at e
    split at e <;> try (simp [nread] at e; done)
    rename_i kt el hu
    cases hkt : keyTy P t with
    | none => simp [hkt, NOp.orFail, nread] at e
    | some q =>
      simp only [hkt, Option.bind_some] at e
      cases hz : zeroT P el with
      | none => simp [hz, NOp.orFail, nread] at e
      | some z =>
        simp only [hz, Option.map_some, NOp.orFail, nread] at e
        obtain ⟨kt', el', hu', hks, hpl, hq⟩ := keyTy_inv hkt
        rw [hu] at hu'; cases hu'
        obtain ⟨es, hes, e⟩ := Option.bind_eq_some_iff.1 e
        split at e <;> try (cases e; done)
        rename_i hok
        obtain ⟨fr, hfr, rfl⟩ := Option.map_eq_some_iff.1 e
        rw [hq] at hok hfr
        obtain ⟨zv, hzr, hzv, _⟩ := run_zeroValue hz
        have main : ∀ (es' : Array MapEntry), ERels φ es es'.toList → 
            ∃ v, (do Instr.checkKey es'.isEmpty 10000 kt (ρr k)
                     let (v, o) ← match ← Instr.findKey kt (ρr k) es'.toList with
                       | some (_, v) => pure (v, true)
                       | none => pure (← zeroValue el, false)
                     pure (if ok then .tuple #[v, .bool o] else v) : Sem Value).run P w = .ok v w ∧
              VRel φ (lookupRes ok z fr) v := by
          intro es' hE
          obtain ⟨r', hr', hfr'⟩ := sim_findKey (P := P) hks hk w hE hfr
          rw [Sem.run_bind, sim_checkKey hks hk hok w]
          simp only [Result.andThen_ok, Sem.run_bind, hr']
          cases fr with
          | none =>
            simp only [FindRel] at hfr'; subst hfr'
            simp only [Sem.run_bind, hzr w, Result.andThen_ok, Sem.run_pure]
            cases ok
            · exact ⟨zv, rfl, hzv φ⟩
            · exact ⟨.tuple #[zv, .bool false], rfl, VRel.tup2 (hzv φ) rfl⟩
          | some jv =>
            obtain ⟨j, nv⟩ := jv
            obtain ⟨v, rfl, hv⟩ := hfr'
            simp only [Result.andThen_ok, Sem.run_pure]
            cases ok
            · exact ⟨v, rfl, hv⟩
            · exact ⟨.tuple #[v, .bool true], rfl, VRel.tup2 hv rfl⟩
        rcases entsOf_run r hm hes with ⟨hmv, rfl⟩ | ⟨rb, es', clock, hmv, hw, hE⟩
        · obtain ⟨v, hv, hvr⟩ := main #[] rfl
          refine lift ⟨v, ?_, hvr⟩
          simp only [Instr.lookup, Sem.run_bind, run_underlying hu, Result.andThen_ok, hmv, Sem.run_pure]
          simp only [Sem.run_bind] at hv; exact hv
        · obtain ⟨v, hv, hvr⟩ := main es' hE
          refine lift ⟨v, ?_, hvr⟩
          simp only [Instr.lookup, Sem.run_bind, run_underlying hu, Result.andThen_ok, hmv, Sem.run_pure, run_getObj_map hw]
          simp only [Sem.run_bind] at hv; exact hv
  case call c =>
    simp only [cop', ccall] at e
    split at e <;> try (simp [nread] at e; done)
    · rename_i b hcal
      have hbody : (execOp ρr ⟨dst, .call c, ty, pos, after, guard⟩).run P w = (builtin b c.argTypes ty (c.args.map fun | .const _ => true | _ => false) (c.args.map ρr)).run P w := by
        simp only [execOp, resolve, hcal, Sem.run_bind, Sem.run_pure, Result.andThen_ok, invoke]; rfl
      have hops : ∀ x ∈ c.args.toList, VRel φ (ρn (copd x)) (ρr x) := fun x hx => hρ x (by simp [Op.operands, Call.operands, hcal, hx])
      suffices hs : ∃ v, (builtin b c.argTypes ty (c.args.map fun | .const _ => true | _ => false) (c.args.map ρr)).run P w = .ok (.value v) w ∧ VRel φ nv v by
        obtain ⟨v, hv, hr⟩ := hs
        exact ⟨v, by rw [hbody, hv], hr⟩
      unfold cbuiltin at e
      split at e <;> try (simp [nread] at e; done)
      · rename_i t x ht hargs
        have hx := hops x (by simp [hargs])
        have e0 : (c.args.map ρr)[0]? = some (ρr x) := by rw [← Array.getElem?_toList, Array.toList_map, hargs]; rfl
        split at e <;> try (simp [nread] at e; done)
        rename_i kt el hu
        simp only [nread] at e
        obtain ⟨es, hes, rfl⟩ := Option.map_eq_some_iff.1 e
        rcases entsOf_run r hx hes with ⟨hmv, rfl⟩ | ⟨rb, es', clock, hmv, hw, hE⟩
        · exact ⟨.int .i64 0, by simp [builtin, Builtin.len_, ht, e0, run_underlying hu, hmv, goInt], by simp [VRel]⟩
        · refine ⟨.int .i64 es'.size, by simp [builtin, Builtin.len_, ht, e0, run_underlying hu, hmv, run_getObj_map hw, goInt], ?_⟩
          have := hE.length
          simp only [Array.length_toList] at this
          simp [VRel, this]
      · split at e <;> simp [nread] at e
      · split at e <;> try (simp [nread] at e; done)
        all_goals (split at e <;> try (simp [nread] at e; done))
        all_goals (split at e <;> simp [nread] at e)
      · rw [nread_orFail (fun _ => rfl)] at e; cases e
    · split at e
      · simp [nread] at e
      · split at e <;> simp [nread] at e
  case binOp op t x y yt =>
    exfalso
    simp only [cop', cbin] at e
    have : ∀ neg, nread ρn h (ceq P neg t x y) = none := by
      intro neg
      unfold ceq
      repeat' split
      all_goals rfl
    split at e
    · rw [this] at e; cases e
    · rw [this] at e; cases e
    · split at e <;> simp [nread] at e
  all_goals (exfalso; simp only [cop'] at e)
  all_goals first
    | (simp [nread] at e; done)
    | (rw [nread_orFail (fun _ => rfl)] at e; cases e; done)
    | skip
  case build t ps =>
    split at e <;> try (simp [nread] at e; done)
    · rw [nread_orFail2 (fun _ _ => rfl)] at e; cases e
    · rw [nread_orFail2 (fun _ _ => rfl)] at e; cases e
  case buildSlice t n ps =>
    split at e <;> try (simp [nread] at e; done)
    split at e <;> try (simp [nread] at e; done)
    split at e <;> try (simp [nread] at e; done)
    rw [nread_orFail (fun _ => rfl)] at e; cases e
  case makeMap t r => cases r <;> simp [cop', nread] at e
  case makeSlice t l c =>
    split at e <;> try (simp [nread] at e; done)
    split at e <;> try (simp [nread] at e; done)
    split at e <;> simp [nread] at e
  case slice t x lo hi mx =>
    split at e <;> try (simp [nread] at e; done)
    · rename_i el hu
      cases hs : sizeT P el with
      | none => simp [hs, NOp.orFail, nread] at e
      | some m =>
        simp only [hs, Option.bind_some] at e
        split at e <;> simp [NOp.orFail, nread] at e
    · rw [nread_orFail (fun _ => rfl)] at e; cases e
    · split at e <;> simp [nread] at e
  case fieldAddr t x i =>
    split at e <;> try (simp [nread] at e; done)
    split at e <;> try (simp [nread] at e; done)
    split at e <;> simp [nread] at e
  case field t x i =>
    split at e <;> try (simp [nread] at e; done)
    split at e <;> try (simp [nread] at e; done)
    split at e <;> try (simp [nread] at e; done)
    rw [nread_orFail (fun _ => rfl)] at e; cases e
  case indexAddr t x i =>
    split at e <;> try (simp [nread] at e; done)
    all_goals (rw [nread_orFail (fun _ => rfl)] at e; cases e)
  case index t x i =>
    split at e <;> try (simp [nread] at e; done)
    split at e <;> try (simp [nread] at e; done)
    rw [nread_orFail (fun _ => rfl)] at e; cases e
  case range t x => split at e <;> simp [nread] at e
  case next it b => cases b <;> simp [cop', nread] at e

end
end Go.Ns
