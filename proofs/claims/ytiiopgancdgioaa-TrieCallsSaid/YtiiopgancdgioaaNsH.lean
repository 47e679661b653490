/- Operations that make one block. -/
import Derived.Test.YtiiopgancdgioaaNsG
import Derived.IntWalk
set_option linter.unusedVariables false
set_option linter.unusedSimpArgs false
namespace Go.Ns

section
variable {P : Program} {φ : PMap} {ρn : NOpd → NV} {ρr : Operand → Value}

theorem range_mod (zs : Array Value) (n : Nat) (hz : 0 < zs.size) :
    ((Array.range (n * zs.size)).map (fun i => zs[i % zs.size]!)).toList = (List.replicate n zs.toList).flatten := by
  induction n with
  | zero => simp
  | succ n ih =>
    have e1 : (List.replicate (n + 1) zs.toList).flatten = (List.replicate n zs.toList).flatten ++ zs.toList := by
      rw [List.replicate_succ']; simp
    rw [e1, ← ih]
    apply List.ext_getElem?
    intro i
    simp only [Array.toList_map, Array.toList_range, List.getElem?_map, List.getElem?_append, List.length_map, List.length_range]
    have e2 : (n + 1) * zs.size = n * zs.size + zs.size := by rw [Nat.add_mul]; simp
    by_cases h : i < n * zs.size
    · simp only [h, if_true]
      rw [List.getElem?_range (by omega), List.getElem?_range h]
    · simp only [h, if_false]
      by_cases h2 : i < (n + 1) * zs.size
      · rw [List.getElem?_range h2]
        have h3 : i - n * zs.size < zs.size := by omega
        have e3 : i % zs.size = i - n * zs.size := by
          have : i = (i - n * zs.size) + zs.size * n := by rw [Nat.mul_comm zs.size n]; omega
          rw [this, Nat.add_mul_mod_self_left, Nat.mod_eq_of_lt]
          · omega
          · omega
        simp only [Option.map_some, e3]
        have : zs.toList[i - n * zs.size]? = some zs[i - n * zs.size] := by simp [h3]
        rw [this]
        simp [h3]
      · rw [List.getElem?_eq_none (by simp; omega)]
        simp; omega

theorem VRels.replicate {zs : List NV} {vs : List Value} (h : VRels φ zs vs) : ∀ n, VRels φ (List.replicate n zs).flatten (List.replicate n vs).flatten
  | 0 => rfl
  | n + 1 => by simp only [List.replicate_succ, List.flatten_cons]; exact h.append (VRels.replicate h n)

theorem all_replicate {zs : List NV} (h : zs.all NV.one = true) : ∀ n, (List.replicate n zs).flatten.all NV.one = true
  | 0 => rfl
  | n + 1 => by simp only [List.replicate_succ, List.flatten_cons, List.all_append, h, all_replicate h n, Bool.and_self]

theorem run_newRow (t : TypeId) (cs : Array Value) (w : World) : (newRow t cs).run P w = .ok ⟨w.heap.size, 0, none⟩ (w.alloc (.cells cs t)) := by
  simp [newRow]

/-- Cells newly laid relate. -/
theorem ObjRel.fresh {ψ : PMap} {b rb : Nat} {cs : List NV} {vs : Array Value} {t : TypeId} (h : VRels ψ cs vs.toList) (h1 : cs.all NV.one = true) :
    ObjRel ψ ⟨rb, 0, vs.size, vs.size⟩ (.cells vs t) (.cells cs false) := by
  refine ⟨vs, t, (0, 0), rfl, rfl, ?_, by simp, fun _ => rfl, ?_, h1⟩
  · have := h.length; simp at this; exact this.symm
  · rw [List.drop_zero, List.take_of_length_le (by simp)]; exact h

theorem nalloc_orFail {α : Type} {f : α → NOp} (hf : ∀ a, nalloc ρn (f a) = none) (o : Option α) : nalloc ρn (NOp.orFail (o.map f)) = none := by
  cases o with
  | none => rfl
  | some a => exact hf a

theorem nalloc_orFail2 {α β : Type} {f : α → β → NOp} (hf : ∀ a b, nalloc ρn (f a b) = none) (o : Option α) (p : α → Option β) : nalloc ρn (NOp.orFail (o.bind fun a => (p a).map (f a))) = none := by
  cases o with
  | none => rfl
  | some a => exact nalloc_orFail (hf a) (p a)

theorem wrap_small {n : Int} (h0 : 0 ≤ n) (h1 : n ≤ 140737488355328) : IntKind.i64.wrap n = n := IntWalk.i64_in _ (by omega)

/-- An operation that makes one block. -/
theorem sim_alloc {o : Oper} {x : NBlk} {res : Nat → NV} (hρ : ∀ x ∈ o.op.operands.toList, VRel φ (ρn (copd x)) (ρr x)) (e : nalloc ρn (cop' P o.op) = some (x, res)) :
    ∃ (vf : Nat → Value) (obj : Obj) (sz k : Nat), (∀ w, (execOp ρr o).run P w = .ok (.value (vf w.heap.size)) (w.alloc obj)) ∧
      (∀ (ψ : PMap) b rb, φ.le ψ → ψ b = some ⟨rb, 0, sz, k⟩ → VRel ψ (res b) (vf rb) ∧ ObjRel ψ ⟨rb, 0, sz, k⟩ obj x) := by
  obtain ⟨dst, op, ty, pos, after, guard⟩ := o
  simp only at hρ e
  have lift : ∀ {s : Sem Value} {w w' : World} {v : Value}, s.run P w = .ok v w' → (do pure (.value (← s)) : Sem Next).run P w = .ok (.value v) w' := by
    intro s w w' v hv
    simp only [Sem.run_bind, hv, Result.andThen_ok, Sem.run_pure]
  cases op
  case alloc t =>
    simp only [cop'] at e
    cases hz : zeroT P t with
    | none => simp [hz, NOp.orFail, nalloc] at e
    | some z =>
      simp only [hz, Option.map_some, NOp.orFail, nalloc, Option.some.injEq, Prod.mk.injEq] at e
      obtain ⟨rfl, rfl⟩ := e
      obtain ⟨zv, hzr, hzv, hzf⟩ := run_zeroValue hz
      refine ⟨fun n => .pointer (some ⟨n, 0, none⟩), .cells zv.cells t, zv.cells.size, zv.cells.size, fun w => ?_, fun ψ b rb hle hb => ⟨?_, ?_⟩⟩
      · refine lift ?_
        simp [Instr.alloc, hzr w, newVar, run_newRow]
      · simp only [VRel]; exact ⟨_, hb, by simp⟩
      · exact ObjRel.fresh (b := b) (hzv ψ).cells (NV.flat_one hzf)
  case box t v =>
    have hx := hρ v (by simp [Op.operands])
    simp only [cop', nalloc] at e
    split at e <;> try (cases e; done)
    rename_i hf
    cases e
    refine ⟨fun n => .pointer (some ⟨n, 0, none⟩), .cells (ρr v).cells t, (ρr v).cells.size, (ρr v).cells.size, fun w => ?_, fun ψ b rb hle hb => ⟨?_, ?_⟩⟩
    · refine lift ?_
      simp [Instr.box, newVar, run_newRow]
    · simp only [VRel]; exact ⟨_, hb, by simp⟩
    · exact ObjRel.fresh (b := b) (hx.mono hle).cells (NV.flat_one hf)
  case buildSlice t n ps =>
    have hρ' : ∀ x ∈ ps.toList, VRel φ (ρn (copd x.2)) (ρr x.2) := fun x hx => hρ x.2 (by simp [Op.operands]; exact ⟨x.1, by simpa using hx⟩)
    simp only [cop'] at e
    split at e <;> try (simp [nalloc] at e; done)
    rename_i el hu
    split at e <;> try (simp [nalloc] at e; done)
    rename_i m z hs hz
    split at e <;> try (simp [nalloc] at e; done)
    rename_i hc
    obtain ⟨hc1, hc2, hc3⟩ := hc
    cases hcp : cparts (fun i => some (i * m, m)) ps.toList with
    | none => simp [hcp, NOp.orFail, nalloc] at e
    | some q =>
      simp only [hcp, Option.map_some, NOp.orFail, nalloc] at e
      obtain ⟨ns, hns, e⟩ := Option.map_eq_some_iff.1 e
      cases e
      obtain ⟨zv, hzr, hzv, hzf⟩ := run_zeroValue hz
      have hzc := (hzv φ).cells
      have lz : zv.cells.size = m := by have := hzc.length; simp at this; omega
      let cells : Array Value := (List.replicate n zv.cells.toList).flatten.toArray
      have hcells : VRels φ (List.replicate n z.cells).flatten cells.toList := by simpa [cells] using hzc.replicate n
      obtain ⟨cs, hcs, hr, ho⟩ := sim_fill (cells := cells) hcp hρ' hcells (all_replicate (NV.flat_one hzf) n) hns
      refine ⟨fun a => .slice (some ⟨a, 0, none⟩) n n, .cells cs el, cs.size, cs.size, fun w => ?_, fun ψ b rb hle hb => ⟨?_, ?_⟩⟩
      · refine lift ?_
        have e2 : (ps.map fun (i, x) => (i, ρr x)).toList = ps.toList.map fun p => (p.1, ρr p.2) := by simp [Array.toList_map]
        have e3 : ((Array.range (n * m)).map (fun i => zv.cells[i % zv.cells.size]!)) = cells := by
          apply Array.ext'
          rw [← lz, range_mod zv.cells n (by omega)]
        simp only [Instr.buildSlice, Sem.run_bind, run_underlying hu, Result.andThen_ok, run_sizeOf hs]
        have h24 : ¬ (n * m > 2 ^ 24) := by omega
        rw [if_neg h24]
        by_cases h0 : n * m = 0
        · have hn : n = 0 := by
            rcases Nat.mul_eq_zero.1 h0 with h | h
            · exact h
            · omega
          subst hn
          simp only [h0, if_true, Sem.run_bind, Sem.run_pure, Result.andThen_ok]
          have e4 : ((Array.range 0).map (fun i => (#[] : Array Value)[i % (#[] : Array Value).size]!)) = cells := by simp [cells]
          rw [e4, e2, hcs]
          simp [run_newRow]
        · simp only [h0, if_false, Sem.run_bind, hzr w, Result.andThen_ok, Sem.run_pure]
          rw [e3, e2, hcs]
          simp [run_newRow]
      · simp only [VRel]; exact ⟨_, 0, hb, rfl, Nat.le_refl _, .inr rfl⟩
      · exact ObjRel.fresh (b := b) (hr.mono hle) ho
  case makeSlice t l c =>
    have hl := hρ l (by simp [Op.operands])
    have hcap := hρ c (by simp [Op.operands])
    simp only [cop'] at e
    split at e <;> try (simp [nalloc] at e; done)
    rename_i el hu
    split at e <;> try (simp [nalloc] at e; done)
    rename_i m by_ z hs hb hz
    split at e <;> try (simp [nalloc] at e; done)
    rename_i hc
    obtain ⟨hc1, hc2⟩ := hc
    simp only [nalloc] at e
    split at e <;> try (cases e; done)
    rename_i kl ln kc cn hle hce
    rw [hle] at hl; rw [hce] at hcap
    split at e <;> try (cases e; done)
    rename_i hcc
    obtain ⟨h0, h1, h2, h3⟩ := hcc
    cases e
    obtain ⟨zv, hzr, hzv, hzf⟩ := run_zeroValue hz
    have hzc := (hzv φ).cells
    have lz : zv.cells.size = m := by have := hzc.length; simp at this; omega
    let cells : Array Value := (List.replicate cn.toNat zv.cells.toList).flatten.toArray
    have hcells : VRels φ (List.replicate cn.toNat z.cells).flatten cells.toList := by simpa [cells] using hzc.replicate cn.toNat
    refine ⟨fun a => .slice (some ⟨a, 0, none⟩) ln.toNat cn.toNat, .cells cells el, cells.size, cells.size, fun w => ?_, fun ψ b rb hle hb => ⟨?_, ?_⟩⟩
    · refine lift ?_
      unfold bytesT at hb
      obtain ⟨i, hi, hby⟩ := Option.map_eq_some_iff.1 hb
      have e3 : ((Array.range (cn.toNat * m)).map (fun i => zv.cells[i % zv.cells.size]!)) = cells := by
        apply Array.ext'
        rw [← lz, range_mod zv.cells cn.toNat (by omega)]
      have wl : IntKind.i64.wrap ln = ln := wrap_small h0 (by omega)
      have wc : IntKind.i64.wrap cn = cn := wrap_small (by omega) h3
      have hti : (typeInfo el).run P w = .ok i w := by simp [typeInfo, hi]
      simp only [Instr.makeSlice, Sem.run_bind, run_underlying hu, Result.andThen_ok, hl.int, hcap.int, asInt, asIntOf, Sem.run_pure, hti, wl, wc, hby]
      have t1 : (decide (cn < 0) || decide ((by_ : Int) * cn > 2 ^ 48)) = false := by
        have : (2 ^ 48 : Int) = 281474976710656 := by decide
        simp; omega
      have t2 : (((decide (cn < 0) || decide ((by_ : Int) * cn > 2 ^ 48)) || decide (ln < 0)) || decide (ln > cn)) = false := by
        rw [t1]; simp; omega
      rw [if_neg (by rw [t2]; simp)]
      simp only [Sem.run_pure, Sem.run_bind, Result.andThen_ok, run_askRoom, run_sizeOf hs]
      by_cases hn : cn.toNat * m = 0
      · have hcn : cn.toNat = 0 := by
          rcases Nat.mul_eq_zero.1 hn with h | h
          · exact h
          · omega
        simp only [hn, if_true, Sem.run_bind, Sem.run_pure, Result.andThen_ok]
        have e4 : ((Array.range 0).map (fun i => (#[] : Array Value)[i % (#[] : Array Value).size]!)) = cells := by simp [cells, hcn]
        rw [e4]
        simp [run_newRow]
      · simp only [hn, if_false, Sem.run_bind, hzr w, Result.andThen_ok, Sem.run_pure]
        rw [e3]
        simp [run_newRow]
    · simp only [VRel]; exact ⟨_, 0, hb, rfl, by omega, .inr rfl⟩
    · exact ObjRel.fresh (b := b) (hcells.mono hle) (all_replicate (NV.flat_one hzf) _)
  case makeMap t rs =>
    cases rs with
    | some r => simp [cop', nalloc] at e
    | none =>
      simp only [cop', nalloc, Option.some.injEq, Prod.mk.injEq] at e
      obtain ⟨rfl, rfl⟩ := e
      refine ⟨fun a => .map (some a), .map #[] 0, 0, 0, fun w => ?_, fun ψ b rb hle hb => ⟨?_, ?_⟩⟩
      · refine lift ?_
        simp [Instr.makeMap]
      · simp only [VRel]; exact ⟨_, hb, rfl⟩
      · exact ⟨rfl, #[], rfl, rfl⟩
  case binOp op t x y yt =>
    exfalso
    simp only [cop', cbin] at e
    have : ∀ neg, nalloc ρn (ceq P neg t x y) = none := by
      intro neg
      unfold ceq
      repeat' split
      all_goals rfl
    split at e
    · rw [this] at e; cases e
    · rw [this] at e; cases e
    · split at e <;> simp [nalloc] at e
  case call c =>
    exfalso
    simp only [cop', ccall] at e
    split at e <;> try (simp [nalloc] at e; done)
    · unfold cbuiltin at e
      split at e <;> try (simp [nalloc] at e; done)
      · split at e <;> simp [nalloc] at e
      · split at e <;> simp [nalloc] at e
      · split at e <;> try (simp [nalloc] at e; done)
        all_goals (split at e <;> try (simp [nalloc] at e; done))
        all_goals (split at e <;> simp [nalloc] at e)
      · rw [nalloc_orFail (fun _ => rfl)] at e; cases e
    · split at e
      · simp [nalloc] at e
      · split at e <;> simp [nalloc] at e
  all_goals (exfalso; simp only [cop'] at e)
  all_goals first
    | (simp [nalloc] at e; done)
    | (rw [nalloc_orFail (fun _ => rfl)] at e; cases e; done)
    | skip
  case build t ps =>
    split at e <;> try (simp [nalloc] at e; done)
    · rw [nalloc_orFail2 (fun _ _ => rfl)] at e; cases e
    · rw [nalloc_orFail2 (fun _ _ => rfl)] at e; cases e
  case load t a =>
    split at e <;> try (simp [nalloc] at e; done)
    rw [nalloc_orFail (fun _ => rfl)] at e; cases e
  case convert src dst x =>
    unfold cconv at e
    split at e <;> try (simp [nalloc] at e; done)
    split at e <;> simp [nalloc] at e
  case slice t x lo hi mx =>
    split at e <;> try (simp [nalloc] at e; done)
    · rename_i el hu
      cases hs : sizeT P el with
      | none => simp [hs, NOp.orFail, nalloc] at e
      | some m =>
        simp only [hs, Option.bind_some] at e
        split at e <;> simp [NOp.orFail, nalloc] at e
    · rw [nalloc_orFail (fun _ => rfl)] at e; cases e
    · split at e <;> simp [nalloc] at e
  case fieldAddr t x i =>
    split at e <;> try (simp [nalloc] at e; done)
    split at e <;> try (simp [nalloc] at e; done)
    split at e <;> simp [nalloc] at e
  case field t x i =>
    split at e <;> try (simp [nalloc] at e; done)
    split at e <;> try (simp [nalloc] at e; done)
    split at e <;> try (simp [nalloc] at e; done)
    rw [nalloc_orFail (fun _ => rfl)] at e; cases e
  case indexAddr t x i =>
    split at e <;> try (simp [nalloc] at e; done)
    all_goals (rw [nalloc_orFail (fun _ => rfl)] at e; cases e)
  case index t x i =>
    split at e <;> try (simp [nalloc] at e; done)
    split at e <;> try (simp [nalloc] at e; done)
    rw [nalloc_orFail (fun _ => rfl)] at e; cases e
  case lookup t m k ok =>
    split at e <;> try (simp [nalloc] at e; done)
    rw [nalloc_orFail2 (fun _ _ => rfl)] at e; cases e
  case range t x => split at e <;> simp [nalloc] at e
  case next it b => cases b <;> simp [cop', nalloc] at e

end
end Go.Ns
