/- Each abstract operation that looks at its operands alone answers as the model's operation does: literals, bounds, and the whole. -/
import Derived.Test.YtiiopgancdgioaaNsC
set_option linter.unusedVariables false
set_option linter.unusedSimpArgs false
namespace Go.Ns

section
variable {P : Program} {φ : PMap}

theorem foldl_set (off : Nat) : ∀ (xs : List Value) (k : Nat) (cs : Array Value), off + k + xs.length ≤ cs.size →
    ((xs.zipIdx k).foldl (fun cs (p : Value × Nat) => cs.setIfInBounds (off + p.2) p.1) cs).toList = cs.toList.take (off + k) ++ (xs ++ cs.toList.drop (off + k + xs.length))
  | [], k, cs, _ => by simp
  | x :: xs, k, cs, h => by
    simp only [List.zipIdx_cons, List.foldl_cons]
    simp only [List.length_cons] at h
    rw [foldl_set off xs (k + 1) _ (by simp; omega)]
    simp only [Array.toList_setIfInBounds]
    have hk : off + k < cs.toList.length := by simp; omega
    apply List.ext_getElem?
    intro i
    simp only [List.getElem?_append, List.getElem?_take, List.getElem?_drop, List.length_take, List.length_set, List.getElem?_set, List.length_cons, Array.length_toList, List.getElem?_cons]
    by_cases h1 : i < off + k
    · simp [h1, show i < off + (k + 1) by omega, show i < min (off + (k + 1)) cs.size by omega, show i < min (off + k) cs.size by omega, show ¬ (off + k = i) by omega]
    · by_cases h2 : i = off + k
      · subst h2
        simp [show off + k < off + (k + 1) by omega, show off + k < min (off + (k + 1)) cs.size by omega, show ¬ off + k < min (off + k) cs.size by omega, show off + k < cs.size by omega, show min (off + k) cs.size = off + k by omega]
      · obtain ⟨j, rfl⟩ : ∃ j, i = off + (k + 1) + j := ⟨i - (off + (k + 1)), by omega⟩
        have e1 : min (off + (k + 1)) cs.size = off + (k + 1) := by omega
        have e2 : min (off + k) cs.size = off + k := by omega
        have e3 : off + (k + 1) + j - (off + k) = j + 1 := by omega
        have e4 : off + (k + 1) + j - (off + (k + 1)) = j := by omega
        have e5 : ¬ off + (k + 1) + j < off + (k + 1) := by omega
        have e6 : ¬ off + (k + 1) + j < off + k := by omega
        simp only [e1, e2, e3, e4, e5, e6, if_false, Nat.add_lt_add_iff_right, Nat.add_sub_cancel, Nat.succ_ne_zero, Nat.add_eq_zero_iff, Nat.one_ne_zero, and_false]
        by_cases h3 : j < xs.length
        · simp only [h3, if_true]
        · have e7 : ¬ (off + k = off + (k + 1) + xs.length + (j - xs.length)) := by omega
          have e8 : off + k + (xs.length + 1) + (j + 1 - (xs.length + 1)) = off + (k + 1) + xs.length + (j - xs.length) := by omega
          simp only [h3, if_false, e7, e8]

theorem sim_fill {place : Nat → Option (Nat × Nat)} {ρn : NOpd → NV} {ρr : Operand → Value} : ∀ {ps : List (Nat × Operand)} {q : List (Nat × Nat × NOpd)} {zs ns : List NV} {cells : Array Value},
    cparts place ps = some q → (∀ x ∈ ps, VRel φ (ρn (copd x.2)) (ρr x.2)) → VRels φ zs cells.toList → zs.all NV.one = true → nfill ρn zs q = some ns →
    ∃ cs, Instr.fill place cells (ps.map fun p => (p.1, ρr p.2)) = some cs ∧ VRels φ ns cs.toList ∧ ns.all NV.one = true
  | [], q, zs, ns, cells, hq, _, hz, h1, h => by
    simp [cparts] at hq; subst hq
    simp [nfill] at h; subst h
    exact ⟨cells, rfl, hz, h1⟩
  | (i, x) :: ps, q, zs, ns, cells, hq, hρ, hz, h1, h => by
    unfold cparts at hq
    split at hq <;> try (cases hq; done)
    rename_i off size q' hpl hq'
    cases hq
    unfold nfill at h
    split at h <;> try (cases h; done)
    rename_i hc
    obtain ⟨hf, hs, ho⟩ := hc
    have hx := hρ (i, x) (by simp)
    simp only at hx
    have hcx := hx.cells
    have lz := hz.length
    have lx := hcx.length
    simp only [Array.length_toList] at lz lx
    have hnew : VRels φ (splice zs off (ρn (copd x)).cells) ((ρr x).cells.zipIdx.foldl (fun cs (p : Value × Nat) => cs.setIfInBounds (off + p.2) p.1) cells).toList := by
      have := foldl_set off (ρr x).cells.toList 0 cells (by simp; omega)
      rw [← Array.foldl_toList, Array.toList_zipIdx, this]
      exact VRels.splice off hz hcx
    obtain ⟨cs, hcs, hr, ho1⟩ := sim_fill hq' (fun y hy => hρ y (by simp [hy])) hnew (by
      unfold splice
      simp only [List.all_append, Bool.and_eq_true]
      refine ⟨?_, NV.flat_one hf, ?_⟩ <;> simp only [List.all_eq_true] at h1 ⊢
      · exact fun a ha => h1 a (List.mem_of_mem_take ha)
      · exact fun a ha => h1 a (List.mem_of_mem_drop ha)) h
    refine ⟨cs, ?_, hr, ho1⟩
    simp only [List.map_cons, Instr.fill, hpl]
    rw [if_neg (by simp; omega)]
    exact hcs

theorem sim_bound {x : NV} {vx : Value} {y n : Nat} (c : BoundsCode) (hx : VRel φ x vx) (h : bound x y = some n) (w : World) :
    (Instr.sliceBound vx y c).run P w = .ok n w ∧ n ≤ y := by
  unfold bound at h
  split at h
  · have hx := hx.int; subst hx
    split at h <;> simp at h
    rename_i hc; subst h
    refine ⟨by simp [Instr.sliceBound, asIntOf, hc], by omega⟩
  · cases h

section
variable {ρn : NOpd → NV} {ρr : Operand → Value}

def ORel (φ : PMap) (ρn : NOpd → NV) (ρr : Operand → Value) (x : Option Operand) : Prop := ∀ a, x = some a → VRel φ (ρn (copd a)) (ρr a)

theorem bound_mono {x : NV} {y z n : Nat} (h : bound x y = some n) (hyz : y ≤ z) : bound x z = some n := by
  unfold bound at h ⊢
  split at h
  · split at h <;> simp at h
    rename_i hc; subst h
    rw [if_pos (by omega)]
  · cases h

/-- The bounds, exactly. -/
theorem sim_bounds {isSlice : Bool} {len cap l h m : Nat} {lo hi mx : Option Operand} (r1 : ORel φ ρn ρr lo) (r2 : ORel φ ρn ρr hi) (r3 : ORel φ ρn ρr mx)
    (hb : nbounds ρn len cap (lo.map copd) (hi.map copd) (mx.map copd) = some (l, h, m)) (hl : len ≤ cap) (w : World) :
    (Instr.sliceBounds isSlice len cap (lo.map ρr) (hi.map ρr) (mx.map ρr)).run P w = .ok (l, h, m) w ∧ l ≤ h ∧ h ≤ m ∧ m ≤ cap := by
  unfold nbounds at hb
  split at hb <;> try (cases hb; done)
  rename_i hcond
  simp only [Option.bind_eq_some_iff, Option.some.injEq, Prod.mk.injEq] at hb
  obtain ⟨m', hm, h', hh, l', hl', rfl, rfl, rfl⟩ := hb
  unfold Instr.sliceBounds
  cases mx with
  | none =>
    simp only [Option.map_none, obound, Option.some.injEq] at hm; subst hm
    cases hi with
    | none =>
      simp only [Option.map_none, obound, Option.some.injEq] at hh; subst hh
      cases lo with
      | none => simp only [Option.map_none, obound, Option.some.injEq] at hl'; subst hl'; simp; omega
      | some x =>
        simp only [Option.map_some, obound] at hl'
        have := sim_bound (P := P) (if (none : Option Value).isSome then .slice3C else .sliceB) (r1 x rfl) hl' w
        simp at this
        simp [this.1]; omega
    | some y =>
      simp only [Option.map_some, Option.map_none, obound] at hh
      have hy := sim_bound (P := P) (if isSlice then .sliceAcap else .sliceAlen) (r2 y rfl) hh w
      cases lo with
      | none => simp only [Option.map_none, obound, Option.some.injEq] at hl'; subst hl'; simp [hy.1]; omega
      | some x =>
        simp only [Option.map_some, obound] at hl'
        have := sim_bound (P := P) (if (none : Option Value).isSome then .slice3C else .sliceB) (r1 x rfl) hl' w
        simp at this
        simp [hy.1, this.1]; omega
  | some z =>
    simp only [Option.map_some, obound] at hm
    have hz := sim_bound (P := P) (if isSlice then .slice3Acap else .slice3Alen) (r3 z rfl) hm w
    cases hi with
    | none => simp at hcond
    | some y =>
      simp only [Option.map_some, obound] at hh
      have hy := sim_bound (P := P) .slice3B (r2 y rfl) hh w
      cases lo with
      | none => simp only [Option.map_none, obound, Option.some.injEq] at hl'; subst hl'; simp [hz.1, hy.1]; omega
      | some x =>
        simp only [Option.map_some, obound] at hl'
        have := sim_bound (P := P) .slice3C (r1 x rfl) hl' w
        simp [hz.1, hy.1, this.1]; omega

/-- The bounds, where the capacity is greater than is known: no max. -/
theorem bounds_more {len cap l h m : Nat} {lo hi : Option Operand} (hb : nbounds ρn len len (lo.map copd) (hi.map copd) none = some (l, h, m)) (hl : len ≤ cap) :
    nbounds ρn len cap (lo.map copd) (hi.map copd) none = some (l, h, cap) ∧ h ≤ len := by
  unfold nbounds at hb ⊢
  simp only [Option.isSome_none, Bool.and_false, Bool.false_eq_true, if_false, Option.bind_eq_some_iff, Option.some.injEq, Prod.mk.injEq, obound] at hb ⊢
  obtain ⟨m', rfl, h', hh, l', hl', rfl, rfl, rfl⟩ := hb
  refine ⟨⟨cap, rfl, h', ?_, l', hl', rfl, rfl, rfl⟩, ?_⟩
  · cases hi with
    | none => simpa using hh
    | some y => simp only [Option.map_some] at hh ⊢; exact bound_mono hh hl
  · cases hi with
    | none => simp at hh; omega
    | some y => simp only [Option.map_some] at hh; exact (by
        unfold bound at hh
        split at hh
        · split at hh <;> simp at hh
          omega
        · cases hh)

/-- The same with a max. -/
theorem bounds_more3 {len cap l h m : Nat} {lo hi : Option Operand} {z : Operand} (hb : nbounds ρn len len (lo.map copd) (hi.map copd) (some (copd z)) = some (l, h, m)) (hl : len ≤ cap) :
    nbounds ρn len cap (lo.map copd) (hi.map copd) (some (copd z)) = some (l, h, m) := by
  unfold nbounds at hb ⊢
  split at hb <;> try (cases hb; done)
  rename_i hcond
  rw [if_neg hcond]
  simp only [Option.bind_eq_some_iff, Option.some.injEq, Prod.mk.injEq, obound] at hb ⊢
  obtain ⟨m', hm, h', hh, r⟩ := hb
  exact ⟨m', bound_mono hm hl, h', hh, r⟩

theorem addr_add (b o n : Nat) : (⟨b, o, none⟩ : Addr).add n = ⟨b, o + n, none⟩ := by
  unfold Addr.add; split <;> simp_all

theorem run_sizeOf {t : TypeId} {n : Nat} (h : sizeT P t = some n) (w : World) : (sizeOf t).run P w = .ok n w := by
  unfold sizeT at h
  obtain ⟨i, hi, rfl⟩ := Option.map_eq_some_iff.1 h
  simp [sizeOf, typeInfo, hi]

theorem sim_slice {t e : TypeId} {esz : Nat} {x : NV} {vx : Value} {lo hi mx : Option Operand} {nv : NV} (ht : P.underlying t = some (.slice e)) (hs : sizeT P e = some esz) (h0 : 0 < esz)
    (hx : VRel φ x vx) (r1 : ORel φ ρn ρr lo) (r2 : ORel φ ρn ρr hi) (r3 : ORel φ ρn ρr mx)
    (h : nslice ρn x (lo.map copd) (hi.map copd) (mx.map copd) esz = some nv) :
    ∃ v, (∀ w, (Instr.sliceAt t vx (lo.map ρr) (hi.map ρr) (mx.map ρr)).run P w = .ok v w) ∧ VRel φ nv v := by
  unfold nslice at h
  split at h
  · rename_i a len c
    obtain ⟨⟨l, h', m⟩, hb, rfl⟩ := Option.map_eq_some_iff.1 h
    clear h
    cases a with
    | none =>
      simp only [VRel] at hx
      obtain ⟨rfl, rfl, hc⟩ := hx
      cases hc
      refine ⟨.slice none 0 0, fun w => ?_, ?_⟩
      · have := sim_bounds (P := P) (isSlice := true) r1 r2 r3 hb (Nat.le_refl _) w
        obtain ⟨hr, h1, h2, h3⟩ := this
        obtain rfl : m = 0 := by omega
        obtain rfl : h' = 0 := by omega
        obtain rfl : l = 0 := by omega
        simp [Instr.sliceAt, Instr.slice, run_underlying ht, hr, run_sizeOf hs]
      · obtain ⟨_, h1, h2, h3⟩ := sim_bounds (P := P) (isSlice := true) r1 r2 r3 hb (Nat.le_refl _) default
        obtain rfl : m = 0 := by omega
        obtain rfl : h' = 0 := by omega
        obtain rfl : l = 0 := by omega
        simp [VRel]
    | some a =>
      obtain ⟨b, o⟩ := a
      simp only [VRel] at hx
      obtain ⟨p, off, hp, rfl, hlc, hoff⟩ := hx
      refine ⟨.slice (some (if m = l then ⟨p.rb, off, none⟩ else ⟨p.rb, off + l * esz, none⟩)) (h' - l) (m - l), fun w => ?_, ?_⟩
      · obtain ⟨hr, h1, h2, h3⟩ := sim_bounds (P := P) (isSlice := true) r1 r2 r3 hb hlc w
        simp only [Instr.sliceAt, Instr.slice, Sem.run_bind, run_underlying ht, Result.andThen_ok, hr, run_sizeOf hs, Sem.run_pure]
        split <;> simp [addr_add]
      · obtain ⟨_, h1, h2, h3⟩ := sim_bounds (P := P) (isSlice := true) r1 r2 r3 hb hlc default
        by_cases hml : m = l
        · simp only [hml, if_true, VRel]
          exact ⟨p, off, hp, rfl, by omega, .inl (by omega)⟩
        · simp only [hml, if_false, adv, Option.map_some, VRel]
          exact ⟨p, off + l * esz, hp, rfl, by omega, .inr (by omega)⟩
  · rename_i a len e'
    split at h <;> try (cases h; done)
    rename_i he; simp only [ne_eq, Classical.not_not] at he; subst he
    cases a with
    | none => simp only [VRel] at hx; obtain ⟨_, _, hc⟩ := hx; cases hc
    | some a =>
      obtain ⟨b, o⟩ := a
      simp only [VRel] at hx
      obtain ⟨p, off, cap, hp, rfl, hlc, hoff, hsz, hk, _⟩ := hx
      cases mx with
      | none =>
        simp only [Option.map_none] at h
        obtain ⟨⟨l, h', m⟩, hb, rfl⟩ := Option.map_eq_some_iff.1 h
        clear h
        obtain ⟨hb, hh⟩ := bounds_more hb hlc
        refine ⟨.slice (some (if cap = l then ⟨p.rb, off, none⟩ else ⟨p.rb, off + l * e', none⟩)) (h' - l) (cap - l), fun w => ?_, ?_⟩
        · obtain ⟨hr, h1, h2, h3⟩ := sim_bounds (P := P) (isSlice := true) r1 r2 (mx := none) r3 hb hlc w
          simp only [Option.map_none] at hr
          simp only [Instr.sliceAt, Instr.slice, Sem.run_bind, run_underlying ht, Result.andThen_ok, Option.map_none, hr, run_sizeOf hs, Sem.run_pure]
          split <;> simp [addr_add]
        · obtain ⟨_, h1, h2, h3⟩ := sim_bounds (P := P) (isSlice := true) r1 r2 (mx := none) r3 hb hlc default
          simp only [adv, Option.map_some, VRel]
          have hmul : (cap - l) * e' = cap * e' - l * e' := Nat.sub_mul ..
          have hle : l * e' ≤ cap * e' := Nat.mul_le_mul_right _ (by omega)
          by_cases hml : cap = l
          · rw [if_pos hml]
            exact ⟨p, off, cap - l, hp, rfl, by omega, .inl (by omega), by omega, by omega, h0⟩
          · rw [if_neg hml]
            exact ⟨p, off + l * e', cap - l, hp, rfl, by omega, .inr (by omega), by omega, by omega, h0⟩
      | some z =>
        simp only [Option.map_some] at h
        obtain ⟨⟨l, h', m⟩, hb, rfl⟩ := Option.map_eq_some_iff.1 h
        clear h
        have hb0 := sim_bounds (P := P) (isSlice := true) (mx := some z) r1 r2 r3 hb (Nat.le_refl _) default
        have hb := bounds_more3 hb hlc
        refine ⟨.slice (some (if m = l then ⟨p.rb, off, none⟩ else ⟨p.rb, off + l * e', none⟩)) (h' - l) (m - l), fun w => ?_, ?_⟩
        · obtain ⟨hr, h1, h2, h3⟩ := sim_bounds (P := P) (isSlice := true) r1 r2 (mx := some z) r3 hb hlc w
          simp only [Option.map_some] at hr
          simp only [Instr.sliceAt, Instr.slice, Sem.run_bind, run_underlying ht, Result.andThen_ok, Option.map_some, hr, run_sizeOf hs, Sem.run_pure]
          split <;> simp [addr_add]
        · obtain ⟨_, h1, h2, h3⟩ := hb0
          by_cases hml : m = l
          · simp only [hml, if_true, VRel]
            exact ⟨p, off, hp, rfl, by omega, .inl (by omega)⟩
          · simp only [hml, if_false, adv, Option.map_some, VRel]
            exact ⟨p, off + l * e', hp, rfl, by omega, .inr (by omega)⟩
  · cases h
end

end
end Go.Ns
