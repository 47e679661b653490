/- Each abstract operation that looks at its operands alone answers as the model's operation does: the whole. -/
import Derived.Test.YtimimfbiejijdaaNsD
set_option linter.unusedVariables false
set_option linter.unusedSimpArgs false
namespace Go.Ns

section
variable {P : Program} {φ : PMap} {ρn : NOpd → NV} {ρr : Operand → Value}

theorem map_orFail {α : Type} {f : α → NOp} {o : Option α} {n : NOp} (h : NOp.orFail (o.map f) = n) (hn : n ≠ .fail) : ∃ a, o = some a ∧ f a = n := by
  cases o with
  | none => exact absurd h.symm hn
  | some a => exact ⟨a, rfl, h⟩

theorem sim_build {zs : List NV} {z : Value} {place : Nat → Option (Nat × Nat)} {ps : Array (Nat × Operand)} {q : List (Nat × Nat × NOpd)} {ns : List NV} (hz : VRel φ (.agg zs) z)
    (hq : cparts place ps.toList = some q) (hρ : ∀ x ∈ ps.toList, VRel φ (ρn (copd x.2)) (ρr x.2)) (h : nfill ρn zs q = some ns) :
    ∃ cs, Instr.fill place z.cells (ps.map fun (i, x) => (i, ρr x)).toList = some cs ∧ VRel φ (.agg ns) (.agg cs) := by
  simp only [VRel] at hz
  obtain ⟨vs, rfl, hvs, h1⟩ := hz
  obtain ⟨cs, hcs, hr, ho⟩ := sim_fill (cells := vs) hq hρ hvs h1 h
  exact ⟨cs, by simpa [Value.cells, Array.toList_map] using hcs, ⟨cs, rfl, hr, ho⟩⟩

theorem run_zeroValue {t : TypeId} {z : NV} (h : zeroT P t = some z) : ∃ v, (∀ w, (zeroValue t).run P w = .ok v w) ∧ (∀ φ, VRel φ z v) ∧ z.flat = true := by
  unfold zeroT at h
  obtain ⟨v, hv, hz⟩ := Option.bind_eq_some_iff.1 h
  obtain ⟨i, hi, hiz⟩ := Option.bind_eq_some_iff.1 hv
  exact ⟨v, fun w => by simp [zeroValue, typeInfo, hi, hiz], fun φ => (ofConst_rel hz).1, (ofConst_rel (φ := fun _ => none) hz).2⟩

theorem cplaces_get : ∀ {fs : List Field} {pl : List (Nat × Nat)}, cplaces P fs = some pl → ∀ w, (fs.mapM fun f : Field => (do pure (f.offset, ← sizeOf f.type) : Sem (Nat × Nat))).run P w = .ok pl w
  | [], pl, h, w => by simp [cplaces] at h; subst h; rfl
  | f :: fs, pl, h, w => by
    unfold cplaces at h
    split at h <;> try (cases h; done)
    rename_i n ps hn hps
    cases h
    simp only [List.mapM_cons, Sem.run_bind, run_sizeOf hn, Result.andThen_ok, Sem.run_pure, cplaces_get hps w]

theorem VRel.agg_cells {zs : List NV} {z : Value} (h : VRel φ (.agg zs) z) : VRels φ zs z.cells.toList := h.cells

/-- A literal. -/
theorem sim_build_op {t : TypeId} {ps : Array (Nat × Operand)} {nv : NV} (hρ : ∀ x ∈ (Op.build t ps).operands.toList, VRel φ (ρn (copd x)) (ρr x)) (hn : cls (cop' P (.build t ps)) = .P)
    (h : npure ρn (cop' P (.build t ps)) = some nv) : ∃ v, (∀ w, (Instr.build t (ps.map fun (i, x) => (i, ρr x))).run P w = .ok v w) ∧ VRel φ nv v := by
  have hρ' : ∀ x ∈ ps.toList, VRel φ (ρn (copd x.2)) (ρr x.2) := fun x hx => hρ x.2 (by simp [Op.operands]; exact ⟨x.1, by simpa using hx⟩)
  simp only [cop'] at h hn
  split at h
  · rename_i z fs hz hu
    cases hpl : cplaces P fs.toList with
    | none => simp [hpl, NOp.orFail, npure] at h
    | some pl =>
      simp only [hpl, Option.bind_some] at h
      cases hcp : cparts (pl[·]?) ps.toList with
      | none => simp [hcp, NOp.orFail, npure] at h
      | some q =>
        simp only [hcp, Option.map_some, NOp.orFail, npure] at h
        obtain ⟨ns, hns, rfl⟩ := Option.map_eq_some_iff.1 h
        obtain ⟨zv, hzr, hzv, hzf⟩ := run_zeroValue hz
        have hzc := (hzv φ).cells
        obtain ⟨cs, hcs, hr, ho⟩ := sim_fill (cells := zv.cells) hcp hρ' hzc (NV.flat_one hzf) hns
        refine ⟨.agg cs, fun w => ?_, ⟨cs, rfl, hr, ho⟩⟩
        simp only [Instr.build, Sem.run_bind, hzr w, Result.andThen_ok, run_underlying hu w]
        rw [show (Array.mapM (fun f : Field => (do pure (f.offset, ← sizeOf f.type) : Sem (Nat × Nat))) fs) = Functor.map (fun l => l.toArray) (fs.toList.mapM fun f : Field => (do pure (f.offset, ← sizeOf f.type) : Sem (Nat × Nat))) from by
          rw [Array.mapM_eq_mapM_toList]]
        rw [Sem.run_map, cplaces_get hpl w]
        simp only [Result.andThen_ok]
        have e : (fun x : Nat => pl.toArray[x]?) = (fun x : Nat => pl[x]?) := by funext x; simp
        have e2 : (ps.map fun (i, x) => (i, ρr x)).toList = ps.toList.map fun p => (p.1, ρr p.2) := by simp [Array.toList_map]
        rw [e, e2, hcs]
        rfl
  · rename_i z n e hz hu
    cases hs : sizeT P e with
    | none => simp [hs, NOp.orFail, npure] at h
    | some m =>
      simp only [hs, Option.bind_some] at h
      cases hcp : cparts (fun i => some (i * m, m)) ps.toList with
      | none => simp [hcp, NOp.orFail, npure] at h
      | some q =>
        simp only [hcp, Option.map_some, NOp.orFail, npure] at h
        obtain ⟨ns, hns, rfl⟩ := Option.map_eq_some_iff.1 h
        obtain ⟨zv, hzr, hzv, hzf⟩ := run_zeroValue hz
        obtain ⟨cs, hcs, hr, ho⟩ := sim_fill (cells := zv.cells) hcp hρ' (hzv φ).cells (NV.flat_one hzf) hns
        refine ⟨.agg cs, fun w => ?_, ⟨cs, rfl, hr, ho⟩⟩
        have e2 : (ps.map fun (i, x) => (i, ρr x)).toList = ps.toList.map fun p => (p.1, ρr p.2) := by simp [Array.toList_map]
        simp only [Instr.build, Sem.run_bind, hzr w, Result.andThen_ok, run_underlying hu w, run_sizeOf hs w]
        rw [e2, hcs]
        rfl
  · simp [npure] at h

theorem VRels.of_map {l : List Operand} (h : ∀ x ∈ l, VRel φ (ρn (copd x)) (ρr x)) : VRels φ (l.map fun x => ρn (copd x)) (l.map ρr) :=
  VRels.map _ _ l h

theorem agg_part {t : TypeId} {cs : List NV} {vs : Array Value} {off n : Nat} {nv : NV} (ht : typed P t = true) (hs : sizeT P t = some n) (hc : VRels φ cs vs.toList) (h1 : cs.all NV.one = true)
    (h : npart (isAggT P t) cs off n = some nv) : ∃ v, (∀ w, (part t vs off).run P w = .ok v w) ∧ VRel φ nv v := by
  unfold typed at ht
  obtain ⟨d, hd⟩ := Option.isSome_iff_exists.1 ht
  have hl := hc.length
  simp only [Array.length_toList] at hl
  unfold npart at h
  by_cases ha : isAggT P t = true
  · simp only [ha, if_true] at h
    split at h <;> simp at h
    subst h
    refine ⟨_, fun w => run_part hd hs w (by simp [ha]), ?_⟩
    simp only [ha, if_true]
    refine ⟨_, rfl, ?_, ?_⟩
    · have := (hc.drop off).take n
      simpa [Array.toList_extract, List.extract] using this
    · simp only [List.all_eq_true] at h1 ⊢
      exact fun a hh => h1 a (List.mem_of_mem_drop (List.mem_of_mem_take hh))
  · simp only [ha, if_false, Bool.false_eq_true] at h
    have hlt : off < cs.length := (List.getElem?_eq_some_iff.1 h).1
    refine ⟨_, fun w => run_part hd hs w (fun _ => by omega), ?_⟩
    simp only [ha, if_false, Bool.false_eq_true]
    obtain ⟨y, hy, hr⟩ := hc.get off nv h
    have hy' : vs[off]? = some y := by simpa using hy
    have e : vs.getD off undef = y := by simp [hy']
    rw [e]; exact hr

def eqKind : Value → Bool
  | .bool _ | .pointer _ | .slice .. | .func .. | .nilFunc | .agg _ => true
  | _ => false

theorem binOp_eq {neg : Bool} {t : TypeId} {a b : Value} (h : eqKind a = true) :
    binOp (if neg then .neq else .eql) t a b = (do pure (.bool (neg != (← Op.equal t a b))) : Sem Value) := by
  cases neg <;> cases a <;> simp [eqKind] at h <;> cases b <;> simp [binOp]

theorem eqKind_of {k : CK} {x y : NV} {vx : Value} {b : Bool} (hx : VRel φ x vx) (he : eqCell k x y = some b) (hk : k = .bool ∨ k = .ptr ∨ k = .slice ∨ k = .func) : eqKind vx = true ∧ (∀ cs, vx ≠ .agg cs) ∧ vx ≠ .nilIface := by
  unfold eqCell at he
  split at he <;> try (cases he; done)
  case h_1 => simp only [VRel] at hx; subst hx; simp [eqKind]
  case h_2 => simp at hk
  case h_3 => simp at hk
  case h_4 => simp only [VRel] at hx; subst hx; simp [eqKind]
  case h_5 => simp only [VRel] at hx; obtain ⟨p, _, rfl⟩ := hx; simp [eqKind]
  case h_6 => simp only [VRel] at hx; obtain ⟨rfl, _⟩ := hx; simp [eqKind]
  case h_7 n c _ _ =>
    cases c with
    | fix c => simp only [VRel] at hx; obtain ⟨p, off, _, rfl, _⟩ := hx; simp [eqKind]
    | opn c => simp only [VRel] at hx; obtain ⟨p, off, cap, _, rfl, _⟩ := hx; simp [eqKind]
  case h_8 => simp only [VRel] at hx; subst hx; simp [eqKind]
  case h_9 => simp only [VRel] at hx; subst hx; simp [eqKind]
  case h_10 => simp only [VRel] at hx; obtain ⟨_, _, rfl, _⟩ := hx; simp [eqKind]

theorem eqGuard_ok {op : BinOp} {t : TypeId} {x y : Operand} {a b : Value} (h1 : ∀ cs, a ≠ .agg cs) (h2 : a ≠ .nilIface) (w : World) : (eqGuard op t x y a b).run P w = .ok () w := by
  unfold eqGuard
  cases a <;> cases op <;> simp_all

theorem sim_eq {neg : Bool} {t : TypeId} {x y : Operand} {nv : NV} (hx : VRel φ (ρn (copd x)) (ρr x)) (hy : VRel φ (ρn (copd y)) (ρr y)) 
    (h : npure ρn (ceq P neg t x y) = some nv) :
    ∃ v, (∀ w, (do eqGuard (if neg then .neq else .eql) t x y (ρr x) (ρr y); binOp (if neg then .neq else .eql) t (ρr x) (ρr y) : Sem Value).run P w = .ok v w) ∧ VRel φ nv v := by
  have one : ∀ {k : CK}, (eqVal false [k] (ρn (copd x)) (ρn (copd y))).map (fun b => NV.bool (neg != b)) = some nv → (∀ b, eqCell k (ρn (copd x)) (ρn (copd y)) = some b → ∀ w, (Op.equalIn 10000 t (ρr x) (ρr y)).run P w = .ok b w) →
      (k = .bool ∨ k = .ptr ∨ k = .slice ∨ k = .func) →
      ∃ v, (∀ w, (do eqGuard (if neg then .neq else .eql) t x y (ρr x) (ρr y); binOp (if neg then .neq else .eql) t (ρr x) (ρr y) : Sem Value).run P w = .ok v w) ∧ VRel φ nv v := by
    intro k he hr hk
    obtain ⟨b, he', rfl⟩ := Option.map_eq_some_iff.1 he
    clear he; have he := he'; clear he'
    simp only [eqVal, Bool.false_eq_true, if_false] at he
    obtain ⟨h1, h2, h3⟩ := eqKind_of hx he hk
    refine ⟨.bool (neg != b), fun w => ?_, by simp [VRel]⟩
    rw [Sem.run_bind, eqGuard_ok h2 h3, Result.andThen_ok, binOp_eq h1]
    simp only [Op.equal, Op.maxDepth, Sem.run_bind, hr b he w, Result.andThen_ok, Sem.run_pure]
  have many : ∀ {ks : List CK}, kindsOf P t = some ks → P.eqGuardType P.depth t = false → isAggT P t = true → (eqVal true ks (ρn (copd x)) (ρn (copd y))).map (fun b => NV.bool (neg != b)) = some nv →
      ∃ v, (∀ w, (do eqGuard (if neg then .neq else .eql) t x y (ρr x) (ρr y); binOp (if neg then .neq else .eql) t (ρr x) (ρr y) : Sem Value).run P w = .ok v w) ∧ VRel φ nv v := by
    intro ks hks hg ha he
    obtain ⟨b, he', rfl⟩ := Option.map_eq_some_iff.1 he
    clear he; have he := he'; clear he'
    simp only [eqVal, if_true] at he
    split at he <;> try (cases he; done)
    rename_i xs ys hxe hye
    rw [hxe] at hx; rw [hye] at hy
    simp only [VRel] at hx hy
    obtain ⟨vx, hvx, hxs, _⟩ := hx
    obtain ⟨vy, hvy, hys, _⟩ := hy
    have hcmp := compares 12 t ks 10000 hks (by omega)
    simp only [Compares, ha, if_true] at hcmp
    refine ⟨.bool (neg != b), fun w => ?_, by simp [VRel]⟩
    rw [hvx, hvy, Sem.run_bind, run_eqGuard_agg w _ t x y vx vy hg, Result.andThen_ok, binOp_eq rfl]
    simp only [Op.equal, Op.maxDepth, Sem.run_bind, hcmp hxs hys he w, Result.andThen_ok, Sem.run_pure]
  have scal : ∀ {k : BinOp} (hk : k = (if neg then .neq else .eql)), nbin k (ρn (copd x)) (ρn (copd y)) = some nv →
      ∃ v, (∀ w, (do eqGuard (if neg then .neq else .eql) t x y (ρr x) (ρr y); binOp (if neg then .neq else .eql) t (ρr x) (ρr y) : Sem Value).run P w = .ok v w) ∧ VRel φ nv v := by
    intro k hk he
    obtain ⟨v, hv, hr⟩ := sim_bin (P := P) (t := t) hx hy he
    refine ⟨v, fun w => ?_, hr⟩
    have hnot : (∀ cs, ρr x ≠ .agg cs) ∧ ρr x ≠ .nilIface := by
      unfold nbin at he
      split at he
      · rename_i hxe _; rw [hxe] at hx; have := hx.int; rw [this]; simp
      · rename_i hxe _; rw [hxe] at hx; have := hx.str; rw [this]; simp
      · cases he
    rw [Sem.run_bind, eqGuard_ok hnot.1 hnot.2, Result.andThen_ok, ← hk, hv w]
  unfold ceq at h
  split at h
  case h_1 hu => exact one h (fun b he w => sim_eqCell hx hy he hu 9999 w) (by simp)
  case h_2 hu => exact one h (fun b he w => sim_eqCell hx hy he ⟨_, hu⟩ 9999 w) (by simp)
  case h_3 hu => exact one h (fun b he w => sim_eqCell hx hy he ⟨_, hu⟩ 9999 w) (by simp)
  case h_4 hu => exact one h (fun b he w => sim_eqCell hx hy he ⟨_, _, _, hu⟩ 9999 w) (by simp)
  case h_5 hu => exact scal rfl h
  case h_6 hu => exact scal rfl h
  case h_7 hu =>
    split at h
    · rename_i ks hks
      split at h
      · simp [npure] at h
      · rename_i hg; exact many hks (by simpa using hg) (by simp [isAggT, hu]) h
    · simp [npure] at h
  case h_8 hu =>
    split at h
    · rename_i ks hks
      split at h
      · simp [npure] at h
      · rename_i hg; exact many hks (by simpa using hg) (by simp [isAggT, hu]) h
    · simp [npure] at h
  case h_9 => simp [npure] at h

theorem npure_bad {o : Op} (h : (o.operands.toList.all fun x => (copd x).ok) = false) : cop P o = .fail := by
  unfold cop; rw [h]; rfl

theorem nidxArr_inv {x i nv : NV} {len esz : Nat} (h : nidxArr x i len esz = some nv) :
    ∃ b o k q, x = .ptr (some (b, o)) ∧ i = .int k q ∧ 0 ≤ q ∧ q < (len : Int) ∧ nv = .ptr (some (b, o + q.toNat * esz)) := by
  unfold nidxArr at h
  split at h <;> try (cases h; done)
  split at h <;> try (cases h; done)
  rename_i hc; cases h
  exact ⟨_, _, _, _, rfl, rfl, hc.1, hc.2, rfl⟩

theorem nidxSl_inv {x i nv : NV} {esz : Nat} (h : nidxSl x i esz = some nv) :
    ∃ b o k q len c, x = .slice (some (b, o)) len c ∧ i = .int k q ∧ 0 ≤ q ∧ q < (len : Int) ∧ nv = .ptr (some (b, o + q.toNat * esz)) := by
  unfold nidxSl at h
  split at h <;> try (cases h; done)
  split at h <;> try (cases h; done)
  rename_i hc; cases h
  exact ⟨_, _, _, _, _, _, rfl, rfl, hc.1, hc.2, rfl⟩

theorem nindex_inv {x i nv : NV} {len esz : Nat} {agg : Bool} (h : nindex x i len esz agg = some nv) :
    ∃ cs k q, x = .agg cs ∧ i = .int k q ∧ 0 ≤ q ∧ q < (len : Int) ∧ npart agg cs (q.toNat * esz) esz = some nv := by
  unfold nindex at h
  split at h <;> try (cases h; done)
  split at h <;> try (cases h; done)
  rename_i hc
  exact ⟨_, _, _, rfl, rfl, hc.1, hc.2, h⟩

theorem nfield_inv {x nv : NV} {off size : Nat} {agg : Bool} (h : nfield x off size agg = some nv) : ∃ cs, x = .agg cs ∧ npart agg cs off size = some nv := by
  unfold nfield at h
  split at h <;> try (cases h; done)
  exact ⟨_, rfl, h⟩

theorem nextract_inv {x nv : NV} {i : Nat} (h : nextract x i = some nv) : ∃ vs, x = .tup vs ∧ vs[i]? = some nv := by
  unfold nextract at h
  split at h <;> try (cases h; done)
  exact ⟨_, rfl, h⟩

theorem npure_orFail {α : Type} {f : α → NOp} (hf : ∀ a, npure ρn (f a) = none) (o : Option α) : npure ρn (NOp.orFail (o.map f)) = none := by
  cases o with
  | none => rfl
  | some a => exact hf a

/-- An operation that looks at its operands alone. -/
theorem sim_pure {o : Oper} {nv : NV} (hρ : ∀ x ∈ o.op.operands.toList, VRel φ (ρn (copd x)) (ρr x)) (h : npure ρn (cop' P o.op) = some nv) :
    ∃ v, (∀ w, (execOp ρr o).run P w = .ok (.value v) w) ∧ VRel φ nv v := by
  obtain ⟨dst, op, ty, pos, after, guard⟩ := o
  simp only at hρ h
  have lift : ∀ {s : Sem Value}, (∃ v, (∀ w, s.run P w = .ok v w) ∧ VRel φ nv v) → ∃ v, (∀ w, (do pure (.value (← s)) : Sem Next).run P w = .ok (.value v) w) ∧ VRel φ nv v := by
    rintro s ⟨v, hv, hr⟩
    exact ⟨v, fun w => by simp only [Sem.run_bind, hv w, Result.andThen_ok, Sem.run_pure], hr⟩
  cases op
  case move x =>
    simp only [cop', npure, Option.some.injEq] at h; subst h
    exact ⟨ρr x, fun w => rfl, hρ x (by simp [Op.operands])⟩
  case assign x =>
    simp only [cop', npure, Option.some.injEq] at h; subst h
    exact ⟨ρr x, fun w => rfl, hρ x (by simp [Op.operands])⟩
  case pick c a b =>
    simp only [cop', npure] at h
    have hc := hρ c (by simp [Op.operands])
    have ha := hρ a (by simp [Op.operands])
    have hb := hρ b (by simp [Op.operands])
    unfold npick at h
    split at h <;> try (cases h; done)
    · rename_i hce; rw [hce] at hc; cases h
      exact ⟨ρr a, fun w => by simp [execOp, hc.bool, asBool], ha⟩
    · rename_i hce; rw [hce] at hc; cases h
      exact ⟨ρr b, fun w => by simp [execOp, hc.bool, asBool], hb⟩
  case build t ps =>
    have hn : cls (cop' P (.build t ps)) = .P := by
      cases hcop : cop' P (.build t ps) <;> rw [hcop] at h <;> simp [npure] at h <;> rfl
    exact lift (sim_build_op hρ hn h)
  case nilCheck x =>
    simp only [cop', npure] at h
    have hx := hρ x (by simp [Op.operands])
    unfold nnilCheck at h
    split at h <;> try (cases h; done)
    · rename_i a hxe; rw [hxe] at hx; cases h
      obtain ⟨b, off⟩ := a
      simp only [VRel] at hx
      obtain ⟨p, hp, hv⟩ := hx
      exact ⟨ρr x, fun w => by simp [execOp, hv], by simp only [VRel]; exact ⟨p, hp, hv⟩⟩
    · rename_i f a b hxe; rw [hxe] at hx; cases h
      have hx' := hx
      simp only [VRel] at hx
      obtain ⟨u, v, hv, _⟩ := hx
      exact ⟨ρr x, fun w => by simp [execOp, hv], hx'⟩
  case binOp op t x y yt =>
    have hx := hρ x (by simp [Op.operands])
    have hy := hρ y (by simp [Op.operands])
    simp only [cop'] at h
    refine lift ?_
    by_cases h1 : op = .eql
    · subst h1; simpa using sim_eq (neg := false) hx hy h
    · by_cases h2 : op = .neq
      · subst h2; simpa using sim_eq (neg := true) hx hy h
      · have hb : ∃ nv', nbin op (ρn (copd x)) (ρn (copd y)) = some nv' ∧ nv' = nv := by
          unfold cbin at h
          split at h <;> try contradiction
          split at h <;> first | exact ⟨nv, h, rfl⟩ | (simp [npure] at h; done)
        obtain ⟨_, hb, rfl⟩ := hb
        obtain ⟨v, hv, hr⟩ := sim_bin (P := P) (t := t) hx hy hb
        refine ⟨v, fun w => ?_, hr⟩
        have hg : (eqGuard op t x y (ρr x) (ρr y)).run P w = .ok () w := by
          unfold eqGuard; cases op <;> simp_all
        simp only [Sem.run_bind, hg, Result.andThen_ok, hv w]
  case unOp op t x =>
    simp only [cop', npure] at h
    exact lift (sim_un (hρ x (by simp [Op.operands])) h)
  case convert src dst x =>
    have hx := hρ x (by simp [Op.operands])
    simp only [cop', cconv] at h
    split at h <;> try (simp [npure] at h; done)
    · rename_i k' k hs hd
      simp only [npure] at h
      unfold nconv at h
      split at h <;> try (cases h; done)
      rename_i j n hxe; rw [hxe] at hx; cases h
      refine lift ⟨.int k (k.wrap n), fun w => ?_, by simp [VRel]⟩
      rw [hx.int]
      simp [convert, run_underlying hs, run_underlying hd, Conv.intToInt]
    · split at h <;> simp [npure] at h
  case makeFunc fn a b =>
    simp only [cop', npure, Option.some.injEq] at h; subst h
    refine lift ⟨.func fn (a.map ρr) (b.map ρr), fun w => by simp [Instr.makeFunc], ?_⟩
    simp only [VRel, List.map_map]
    refine ⟨_, _, rfl, ?_, ?_⟩
    · rw [Array.toList_map]; exact VRels.of_map fun x hx => hρ x (by simp only [Op.operands, Array.toList_append, List.mem_append]; exact .inl hx)
    · rw [Array.toList_map]; exact VRels.of_map fun x hx => hρ x (by simp only [Op.operands, Array.toList_append, List.mem_append]; exact .inr hx)
  case slice t x lo hi mx =>
    have hx := hρ x (by simp [Op.operands])
    have r1 : ORel φ ρn ρr lo := fun a ha => hρ a (by subst ha; simp [Op.operands])
    have r2 : ORel φ ρn ρr hi := fun a ha => hρ a (by subst ha; simp [Op.operands])
    have r3 : ORel φ ρn ρr mx := fun a ha => hρ a (by subst ha; simp [Op.operands])
    simp only [cop'] at h
    split at h <;> try (simp [npure] at h; done)
    · rename_i e hu
      cases hs : sizeT P e with
      | none => simp [hs, NOp.orFail, npure] at h
      | some m =>
        simp only [hs, Option.bind_some] at h
        split at h <;> try (simp [NOp.orFail, npure] at h; done)
        rename_i h0
        simp only [NOp.orFail, npure] at h
        exact lift (sim_slice hu hs h0 hx r1 r2 r3 h)
    · rename_i n e hu
      cases hs : sizeT P e with
      | none => simp [hs, NOp.orFail, npure] at h
      | some m =>
        simp only [hs, Option.map_some, NOp.orFail, npure] at h
        unfold nsliceArr at h
        split at h <;> try (cases h; done)
        rename_i b o hxe; rw [hxe] at hx
        obtain ⟨⟨l, h', mm⟩, hb, rfl⟩ := Option.map_eq_some_iff.1 h
        simp only [VRel] at hx
        obtain ⟨p, hp, hv⟩ := hx
        refine lift ⟨.slice (some (if mm = l then ⟨p.rb, p.ro + o, none⟩ else ⟨p.rb, p.ro + o + l * m, none⟩)) (h' - l) (mm - l), fun w => ?_, ?_⟩
        · obtain ⟨hr, h1, h2, h3⟩ := sim_bounds (P := P) (isSlice := false) r1 r2 r3 hb (Nat.le_refl _) w
          simp only [Instr.sliceAt, Sem.run_bind, run_underlying hu, Result.andThen_ok, hv, Instr.sureAddr, Sem.run_pure, hr, run_sizeOf hs]
          split <;> simp [addr_add]
        · obtain ⟨_, h1, h2, h3⟩ := sim_bounds (P := P) (isSlice := false) r1 r2 r3 hb (Nat.le_refl _) default
          simp only [VRel]
          by_cases hml : mm = l
          · simp only [hml, if_true]
            exact ⟨p, p.ro + o, hp, rfl, by omega, .inr rfl⟩
          · simp only [hml, if_false]
            exact ⟨p, p.ro + o + l * m, hp, rfl, by omega, .inr (by omega)⟩
    · rename_i hu
      split at h <;> try (simp [npure] at h; done)
      rename_i hmx
      simp only [npure] at h
      unfold nsliceStr at h
      split at h <;> try (cases h; done)
      rename_i s hxe; rw [hxe] at hx
      obtain ⟨⟨l, h', mm⟩, hb, rfl⟩ := Option.map_eq_some_iff.1 h
      obtain rfl : mx = none := by simpa using hmx
      refine lift ⟨.string (s.extract l h'), fun w => ?_, by simp [VRel]⟩
      obtain ⟨hr, h1, h2, h3⟩ := sim_bounds (P := P) (isSlice := false) (mx := none) r1 r2 r3 hb (Nat.le_refl _) w
      simp only [Option.map_none] at hr
      simp [Instr.sliceAt, Instr.slice, run_underlying hu, hx.str, hr]
  case fieldAddr t x i =>
    have hx := hρ x (by simp [Op.operands])
    simp only [cop'] at h
    split at h <;> try (simp [npure] at h; done)
    rename_i fs hu
    split at h <;> try (simp [npure] at h; done)
    rename_i f hf
    split at h <;> try (simp [npure] at h; done)
    rename_i n hs
    simp only [npure] at h
    unfold noff at h
    split at h <;> try (cases h; done)
    rename_i b o hxe; rw [hxe] at hx; cases h
    simp only [VRel] at hx
    obtain ⟨p, hp, hv⟩ := hx
    refine lift ⟨.pointer (some ⟨p.rb, p.ro + (o + f.offset), none⟩), fun w => ?_, by simp only [VRel]; exact ⟨p, hp, rfl⟩⟩
    simp only [Instr.fieldAt, Sem.run_bind, run_underlying hu, Result.andThen_ok, hf, hv, Instr.sureAddr, Sem.run_pure, fieldPlace, run_sizeOf hs, Sem.run_ite]
    simp [addr_add, Nat.add_assoc]
  case field t x i =>
    have hx := hρ x (by simp [Op.operands])
    simp only [cop'] at h
    split at h <;> try (simp [npure] at h; done)
    rename_i fs hu
    split at h <;> try (simp [npure] at h; done)
    rename_i f hf
    split at h <;> try (simp [npure] at h; done)
    rename_i hty
    cases hs : sizeT P f.type with
    | none => simp [hs, NOp.orFail, npure] at h
    | some n =>
      simp only [hs, Option.map_some, NOp.orFail, npure] at h
      obtain ⟨cs, hxe, h⟩ := nfield_inv h
      rw [hxe] at hx
      simp only [VRel] at hx
      obtain ⟨vs, hv, hcs, h1⟩ := hx
      obtain ⟨v, hr, hvr⟩ := agg_part hty hs hcs h1 h
      refine lift ⟨v, fun w => ?_, hvr⟩
      simp only [Instr.field, Sem.run_bind, run_underlying hu, Result.andThen_ok, hf, hv, asAgg, Sem.run_pure, hr w]
  case indexAddr t x i =>
    have hx := hρ x (by simp [Op.operands])
    have hi := hρ i (by simp [Op.operands])
    simp only [cop'] at h
    split at h <;> try (simp [npure] at h; done)
    · rename_i n e hu
      cases hs : sizeT P e with
      | none => simp [hs, NOp.orFail, npure] at h
      | some m =>
        simp only [hs, Option.map_some, NOp.orFail, npure] at h
        obtain ⟨b, o, k, q, hxe, hie, hc0, hc1, rfl⟩ := nidxArr_inv h
        rw [hxe] at hx; rw [hie] at hi
        simp only [VRel] at hx
        obtain ⟨p, hp, hv⟩ := hx
        refine lift ⟨.pointer (some ⟨p.rb, p.ro + (o + q.toNat * m), none⟩), fun w => ?_, by simp only [VRel]; exact ⟨p, hp, rfl⟩⟩
        simp only [Instr.indexAt, Sem.run_bind, hi.int, asIntOf, Sem.run_pure, Result.andThen_ok, run_underlying hu, hv, Instr.sureAddr]
        simp [hc0, hc1, run_sizeOf hs, addr_add, Nat.add_assoc, Sem.run_ite]
    · rename_i e hu
      cases hs : sizeT P e with
      | none => simp [hs, NOp.orFail, npure] at h
      | some m =>
        simp only [hs, Option.map_some, NOp.orFail, npure] at h
        obtain ⟨b, o, k, q, len, cp, hxe, hie, hc0, hc1, rfl⟩ := nidxSl_inv h
        rw [hxe] at hx; rw [hie] at hi
        have hv : ∃ p cap, φ b = some p ∧ ρr x = .slice (some ⟨p.rb, p.ro + o, none⟩) len cap := by
          cases cp with
          | fix c =>
            simp only [VRel] at hx
            obtain ⟨p, off, hp, hv, hlc, ho⟩ := hx
            rcases ho with ho | ho
            · omega
            · subst ho; exact ⟨p, c, hp, hv⟩
          | opn ee =>
            simp only [VRel] at hx
            obtain ⟨p, off, cap, hp, hv, hlc, ho, _⟩ := hx
            rcases ho with ho | ho
            · omega
            · subst ho; exact ⟨p, cap, hp, hv⟩
        obtain ⟨p, cap, hp, hv⟩ := hv
        refine lift ⟨.pointer (some ⟨p.rb, p.ro + (o + q.toNat * m), none⟩), fun w => ?_, by simp only [VRel]; exact ⟨p, hp, rfl⟩⟩
        simp only [Instr.indexAt, Sem.run_bind, hi.int, asIntOf, Sem.run_pure, Result.andThen_ok, run_underlying hu, hv]
        simp [hc0, hc1, run_sizeOf hs, addr_add, Nat.add_assoc, Sem.run_ite]
  case index t x i =>
    have hx := hρ x (by simp [Op.operands])
    have hi := hρ i (by simp [Op.operands])
    simp only [cop'] at h
    split at h <;> try (simp [npure] at h; done)
    · rename_i n e hu
      split at h <;> try (simp [npure] at h; done)
      rename_i hty
      cases hs : sizeT P e with
      | none => simp [hs, NOp.orFail, npure] at h
      | some m =>
        simp only [hs, Option.map_some, NOp.orFail, npure] at h
        obtain ⟨cs, k, q, hxe, hie, hc0, hc1, h⟩ := nindex_inv h
        rw [hxe] at hx; rw [hie] at hi
        simp only [VRel] at hx
        obtain ⟨vs, hv, hcs, h1⟩ := hx
        obtain ⟨v, hr, hvr⟩ := agg_part hty hs hcs h1 h
        refine lift ⟨v, fun w => ?_, hvr⟩
        simp only [Instr.index, Sem.run_bind, hi.int, asIntOf, Sem.run_pure, Result.andThen_ok, run_underlying hu, hv]
        simp [hc0, hc1, run_sizeOf hs, hr w]
    · rename_i hu
      simp only [npure] at h
      unfold nstrIdx at h
      split at h <;> try (cases h; done)
      rename_i s k q hxe hie; rw [hxe] at hx; rw [hie] at hi
      split at h <;> try (cases h; done)
      rename_i hc
      obtain ⟨b, hb, rfl⟩ := Option.map_eq_some_iff.1 h
      refine lift ⟨.int .u8 b.toNat, fun w => ?_, by simp [VRel]⟩
      simp only [Instr.index, Sem.run_bind, hi.int, asIntOf, Sem.run_pure, Result.andThen_ok, run_underlying hu, hx.str, hc, if_true]
      have hlt : q.toNat < s.size := by
        have := (List.getElem?_eq_some_iff.1 hb).1; simpa using this
      have : s[q.toNat]? = some b := by
        rw [getElem?_pos s q.toNat hlt]
        have := (List.getElem?_eq_some_iff.1 hb).2
        rw [← this]; rfl
      rw [this]; rfl
  case extract t i =>
    have hx := hρ t (by simp [Op.operands])
    simp only [cop', npure] at h
    obtain ⟨vs, hxe, h⟩ := nextract_inv h
    rw [hxe] at hx
    simp only [VRel] at hx
    obtain ⟨us, hv, hr⟩ := hx
    obtain ⟨y, hy, hyr⟩ := hr.get i nv h
    refine lift ⟨y, fun w => ?_, hyr⟩
    have : us[i]? = some y := by simpa using hy
    simp [Instr.extract, hv, this]
  case call c =>
    simp only [cop', ccall] at h
    split at h
    · rename_i b hcal
      have hbody : ∀ w, (execOp ρr ⟨dst, .call c, ty, pos, after, guard⟩).run P w = (builtin b c.argTypes ty (c.args.map fun | .const _ => true | _ => false) (c.args.map ρr)).run P w := by
        intro w; simp only [execOp, resolve, hcal, Sem.run_bind, Sem.run_pure, Result.andThen_ok, invoke]; rfl
      have hops : ∀ x ∈ c.args.toList, VRel φ (ρn (copd x)) (ρr x) := fun x hx => hρ x (by simp [Op.operands, Call.operands, hcal, hx])
      suffices hs : ∃ v, (∀ w, (builtin b c.argTypes ty (c.args.map fun | .const _ => true | _ => false) (c.args.map ρr)).run P w = .ok (.value v) w) ∧ VRel φ nv v by
        obtain ⟨v, hv, hr⟩ := hs
        exact ⟨v, fun w => by rw [hbody w, hv w], hr⟩
      unfold cbuiltin at h
      split at h <;> try (simp [npure] at h; done)
      · -- len
        rename_i t x ht hargs
        have hx := hops x (by simp [hargs])
        have e0 : (c.args.map ρr)[0]? = some (ρr x) := by rw [← Array.getElem?_toList, Array.toList_map, hargs]; rfl
        split at h <;> try (simp [npure] at h; done)
        · rename_i hu
          simp only [npure] at h
          unfold nlenStr at h
          split at h <;> try (cases h; done)
          rename_i s hxe; rw [hxe] at hx; cases h
          exact ⟨.int .i64 s.size, fun w => by simp [builtin, Builtin.len_, ht, e0, run_underlying hu, hx.str, goInt], by simp [VRel]⟩
        · rename_i n e hu
          simp only [npure, Option.some.injEq] at h; subst h
          exact ⟨.int .i64 n, fun w => by simp [builtin, Builtin.len_, ht, e0, run_underlying hu, goInt], by simp [VRel]⟩
        · rename_i e hu
          simp only [npure] at h
          unfold nlenSl at h
          split at h <;> try (cases h; done)
          rename_i a n cp hxe; rw [hxe] at hx; cases h
          have hv : ∃ aa cc, ρr x = .slice aa n cc := by
            cases a with
            | none => simp only [VRel] at hx; obtain ⟨hv, rfl, _⟩ := hx; exact ⟨_, _, hv⟩
            | some a =>
              cases cp with
              | fix cc => simp only [VRel] at hx; obtain ⟨p, off, _, hv, _⟩ := hx; exact ⟨_, _, hv⟩
              | opn ee => simp only [VRel] at hx; obtain ⟨p, off, cap, _, hv, _⟩ := hx; exact ⟨_, _, hv⟩
          obtain ⟨aa, cc, hv⟩ := hv
          exact ⟨.int .i64 n, fun w => by simp [builtin, Builtin.len_, ht, e0, run_underlying hu, hv, goInt], by simp [VRel]⟩
      · -- cap
        rename_i t x ht hargs
        have hx := hops x (by simp [hargs])
        have e0 : (c.args.map ρr)[0]? = some (ρr x) := by rw [← Array.getElem?_toList, Array.toList_map, hargs]; rfl
        split at h <;> try (simp [npure] at h; done)
        rename_i e hu
        simp only [npure] at h
        unfold ncap at h
        split at h <;> try (cases h; done)
        rename_i a n cc hxe; rw [hxe] at hx; cases h
        have hv : ∃ aa, ρr x = .slice aa n cc := by
          cases a with
          | none => simp only [VRel] at hx; obtain ⟨hv, rfl, hc⟩ := hx; cases hc; exact ⟨_, hv⟩
          | some a => simp only [VRel] at hx; obtain ⟨p, off, _, hv, _⟩ := hx; exact ⟨_, hv⟩
        obtain ⟨aa, hv⟩ := hv
        exact ⟨.int .i64 cc, fun w => by simp [builtin, Builtin.cap_, ht, e0, run_underlying hu, hv, goInt], by simp [VRel]⟩
      · -- append
        split at h <;> try (simp [npure] at h; done)
        all_goals (split at h <;> try (simp [npure] at h; done))
        all_goals (split at h <;> simp [npure] at h)
      · -- min
        rename_i t x r hargs
        simp only [npure, List.map_cons, List.map_map] at h
        have hx := hops x (by simp [hargs])
        have hr := VRels.of_map (φ := φ) (ρn := ρn) (ρr := ρr) (l := r) fun y hy => hops y (by simp [hargs, hy])
        obtain ⟨v, hv, hvr⟩ := sim_foldM (P := P) (isMax := false) hr hx h
        refine ⟨v, fun w => ?_, hvr⟩
        have e1 : (c.args.map ρr).toList = ρr x :: r.map ρr := by rw [Array.toList_map, hargs]; rfl
        simp only [builtin, Builtin.min_, e1, Sem.run_bind]
        have := hv w
        simp only [Bool.false_eq_true, if_false] at this
        simp [this]
      · -- max
        rename_i t x r hargs
        simp only [npure, List.map_cons, List.map_map] at h
        have hx := hops x (by simp [hargs])
        have hr := VRels.of_map (φ := φ) (ρn := ρn) (ρr := ρr) (l := r) fun y hy => hops y (by simp [hargs, hy])
        obtain ⟨v, hv, hvr⟩ := sim_foldM (P := P) (isMax := true) hr hx h
        refine ⟨v, fun w => ?_, hvr⟩
        have e1 : (c.args.map ρr).toList = ρr x :: r.map ρr := by rw [Array.toList_map, hargs]; rfl
        simp only [builtin, Builtin.max_, e1, Sem.run_bind]
        have := hv w
        simp only [if_true] at this
        simp [this]
      · -- delete
        rename_i t m k ht hargs
        cases hk : keyTy P t <;> simp [hk, NOp.orFail, npure] at h
    · simp [npure] at h
    · rename_i f hcal
      split at h
      · simp [npure] at h
      · split at h <;> simp [npure] at h
    · simp [npure] at h
  all_goals (exfalso; simp only [cop'] at h)
  all_goals first
    | (simp [npure] at h; done)
    | (rw [npure_orFail (fun _ => rfl)] at h; cases h; done)
    | skip
  case buildSlice t n ps =>
    split at h <;> try (simp [npure] at h; done)
    split at h <;> try (simp [npure] at h; done)
    split at h <;> try (simp [npure] at h; done)
    rw [npure_orFail (fun _ => rfl)] at h; cases h
  case load t a =>
    split at h <;> try (simp [npure] at h; done)
    rw [npure_orFail (fun _ => rfl)] at h; cases h
  case makeMap t r => cases r <;> simp [cop', npure] at h
  case makeSlice t l c =>
    split at h <;> try (simp [npure] at h; done)
    split at h <;> try (simp [npure] at h; done)
    split at h <;> simp [npure] at h
  case lookup t m k ok =>
    split at h <;> try (simp [npure] at h; done)
    cases hk : keyTy P t with
    | none => simp [hk, NOp.orFail, npure] at h
    | some q =>
      simp only [hk, Option.bind_some] at h
      rw [npure_orFail (fun _ => rfl)] at h; cases h
  case range t x => split at h <;> simp [npure] at h
  case next it b => cases b <;> simp [cop', npure] at h

end
end Go.Ns
