/- From the abstract call of a law to its row. -/
import Derived.Test.YtiiopgancdgioaaFsD
set_option linter.unusedVariables false
set_option linter.unusedSimpArgs false
namespace Go.Ns
open Go.ChangeShapes Go.WideShapes

section
variable {H : Type} {enc : TypeId × Value → H} {P : Program} {W W' : World}

theorem trodAll_carry {base : Nat} {sp : Nat → Bool} {held : Bool} : ∀ {ts : List TypeId} {vs : List Value} {ds : List (DataW H)} {ps : List MemPlace}, DataW.TrodAll enc P W base sp held ts vs ds ps → (∀ p ∈ ps, W.sameAt W' p) → DataW.TrodAll enc P W' base sp held ts vs ds ps
  | [], [], [], _, h, _ => h
  | t :: ts, v :: vs, d :: ds, ps, ⟨p, q, ⟨n, h1⟩, h2, e⟩, hs => by
    subst e
    exact ⟨p, q, ⟨n, DataW.trod_carry n _ _ _ h1 fun x hx => hs x (List.mem_append_left _ hx)⟩, trodAll_carry h2 fun x hx => hs x (List.mem_append_right _ hx), rfl⟩

/-- The row of a law whose call answers true. -/
theorem law_done {fid : FuncId} {fn : Func} {s : ChangeSpec} {apart fresh handsOn again : Bool} {ks : List PK} {T : TypeId → Prop} {args : Array Value} {ds gs : List (DataW H)} {before : List MemPlace} {base : Nat} {tb : TypeId}
    (hk : fn.params.toList.mapM (pkind P) = some ks) (K : Kids P T) (hz : ∀ t e, T t → P.underlying t = some (.slice e) → 0 < P.cellsOf e) (hT : ∀ t ∈ fn.params.toList, T t)
    (t : ∀ nvs h, argsOK ks 0 nvs h → NFun P fid nvs h (fun q => q.1 = .bool true))
    (hval : ∀ (j : Nat) t v, fn.params[j]? = some t → args[j]? = some v → Value.okWide P W .any base t v)
    (hW : DataW.Whole enc P fn.params.toList s.vars apart W args.toList ds gs before) (hvars : s.vars = []) (hrt : fn.resultTypes = #[tb]) (hb : P.underlying tb = some .bool)
    (hspec : ∀ ds : List (DataW H), ds.length = fn.params.toList.length → (s.fn H ds).results = [.lit (.bool true)] ∧ (s.fn H ds).args = ds ∧ (s.fn H ds).vars = []) :
    Calls P fid args W fun e W' => ∃ v, e = .returned v ∧ s.post enc P fn apart fresh handsOn again W args v W' := by
  have hW' := hW
  obtain ⟨p, q, hA, hV, rfl, hfz, hnd⟩ := hW
  rw [hvars] at hV
  obtain ⟨rfl, rfl⟩ := trodVars_none hV
  obtain ⟨nvs, h, φ, h1, h2, h3⟩ := call_abs hk (fun j t v ht hv => hval j t v (by rw [← Array.getElem?_toList]; exact ht) (by rw [← Array.getElem?_toList]; exact hv)) hA
  refine Calls.mono (t nvs h h1 (keepAll W) φ W args h2 h3) ?_
  rintro e W' ⟨v, rfl, nv, h', φ', hQ, _, hr, r⟩
  simp only at hQ
  subst hQ
  have hv := hr.bool
  subst hv
  refine ⟨_, rfl, ?_⟩
  have hlt := hW'.lt
  have hkeep : ∀ i, i < W.heap.size → W'.heap[i]? = W.heap[i]? := fun i hi => (r.keep i (.inl hi)).1
  have hsame : ∀ x ∈ p, W.sameAt W' x := by
    intro x hx
    have hl := hlt x (List.mem_append_left _ hx)
    cases x with
    | cell b off =>
      simp only [World.sameAt, World.cell?]
      rw [hkeep b hl]
    | map b => exact hkeep b hl
  have hlen : ds.length = fn.params.toList.length := by
    have : ∀ {ts : List TypeId} {vs : List Value} {ds : List (DataW H)} {ps : List MemPlace}, DataW.TrodAll enc P W 0 (fun _ => true) true ts vs ds ps → ds.length = ts.length := by
      intro ts
      induction ts with
      | nil => intro vs ds ps h; cases vs <;> cases ds <;> first | rfl | exact h.elim
      | cons t ts ih =>
        intro vs ds ps h
        cases vs with
        | nil => cases ds <;> exact h.elim
        | cons v vs =>
          cases ds with
          | nil => exact h.elim
          | cons d ds => obtain ⟨_, _, _, h2, _⟩ := h; simp [ih h2]
    exact this hA
  obtain ⟨hs1, hs2, hs3⟩ := hspec ds hlen
  simp only [List.append_nil] at hW'
  refine Go.Ns.post_of_stays (pa := p) (pv := []) (gs := []) (ds := ds) (before := p) hW' ?_ ?_ ?_ (by simp) (stays_of_rel r) ?_
  · intro b sp hd
    rw [List.append_nil, hs1, hrt]
    have : (Value.bool true).resultList (#[tb] : Array TypeId).size = [.bool true] := rfl
    rw [this]
    exact trodAll_mk1 (Go.RowKit.shut_bool hb true)
  · intro sp hsp
    rw [List.append_nil, hs2]
    exact trodAll_carry (hA.respare K hz hT hsp) hsame
  · intro sp _
    rw [hvars, List.append_nil, hs3]
    rfl
  · exact Go.RowKit.ok_one hrt rfl (Go.RowKit.okWide_bool_mk hb true)

def slicesOK (P : Program) : Bool := (List.range P.types.size).all fun t => match P.underlying t with | some (.slice e) => decide (0 < P.cellsOf e) | _ => true

/-- The same, over a program whose types are laid out. -/
theorem law_true {fid : FuncId} {fn : Func} {s : ChangeSpec} {apart fresh handsOn again : Bool} {args : Array Value} {ds gs : List (DataW H)} {before : List MemPlace} {base : Nat} {tb : TypeId} (ks : List PK)
    (hk : fn.params.toList.mapM (pkind P) = some ks) (hp : (laidOutB P && (mapsRowed P && slicesOK P)) = true) (hT : (fn.params.toList.all fun t => decide (t < P.types.size)) = true)
    (hvars : s.vars = []) (hrt : fn.resultTypes = #[tb]) (hb : P.underlying tb = some .bool)
    (hspec : ∀ ds : List (DataW H), ds.length = ks.length → (s.fn H ds).results = [.lit (.bool true)] ∧ (s.fn H ds).args = ds ∧ (s.fn H ds).vars = [])
    (t : ∀ nvs h, argsOK ks 0 nvs h → NFun P fid nvs h (fun q => q.1 = .bool true))
    (hval : ∀ (j : Nat) t v, fn.params[j]? = some t → args[j]? = some v → Value.okWide P W .any base t v)
    (hW : DataW.Whole enc P fn.params.toList s.vars apart W args.toList ds gs before) :
    Calls P fid args W fun e W' => ∃ v, e = .returned v ∧ s.post enc P fn apart fresh handsOn again W args v W' := by
  simp only [Bool.and_eq_true] at hp
  refine law_done (T := (· < P.types.size)) hk (kids_rows hp.1 hp.2.1) ?_ ?_ t hval hW hvars hrt hb ?_
  · intro t e ht hu
    have := List.all_eq_true.1 hp.2.2 t (List.mem_range.2 ht)
    rw [hu] at this
    simpa using this
  · intro t ht
    simpa using List.all_eq_true.1 hT t ht
  · intro ds hl
    refine hspec ds ?_
    rw [hl]
    have := mapM_some_length hk
    exact this.symm
end
end Go.Ns
