/- From an abstract call to the row's shape: what was there before stays. -/
import Derived.Test.YtiiopgancdgioaaNsQ
import Derived.ChangeSame
import Derived.RowKit3
set_option linter.unusedVariables false
set_option linter.unusedSimpArgs false
namespace Go.Ns

/-- What was there stays. -/
def Stays (W w : World) : Prop := W.keptBut w (fun _ => False) ∧ (∀ a : Addr, a.block < W.heap.size → w.frozen? a = W.frozen? a) ∧ W.heap.size ≤ w.heap.size

theorem Stays.frame {W w' : World} (h : Stays W w') (may : MemPlace → Prop) : W.keptBut w' may := World.keptBut_mono (fun _ f => f.elim) h.1

/-- Everything that is there is kept. -/
def keepAll (W : World) : Cx := ⟨W, fun r => r < W.heap.size, fun _ => none, fun _ => False, fun _ => False, []⟩

theorem stays_of_rel {W w : World} {φ : PMap} {h : Heap} (r : Rel (keepAll W) φ w h) : Stays W w := by
  have hk : ∀ i, i < W.heap.size → w.heap[i]? = W.heap[i]? := fun i hi => (r.keep i (.inl hi)).1
  refine ⟨?_, ?_, r.grow⟩
  · refine ⟨r.os, r.output.1, fun i hi => ?_⟩
    rw [hk i hi]
    cases W.heap[i]? with
    | none => rfl
    | some o => cases o <;> first | exact ⟨rfl, rfl, rfl, fun _ _ => rfl⟩ | exact .inr ⟨rfl, rfl⟩ | rfl
  · intro a ha
    simp only [World.frozen?, hk _ ha]

theorem rel_empty (W : World) : Rel (keepAll W) (fun _ => none) W [] := by
  constructor
  · intro b x p _ hp; cases hp
  · intro b p hp; cases hp
  · intro b p hp; cases hp
  · intro b b' x x' p p' _ _ hp; cases hp
  · intro i hi
    rcases hi with hi | hi
    · exact ⟨rfl, hi⟩
    · exact hi.elim
  · intro b x p _ hp; cases hp
  · intro b p hp; cases hp
  · rfl
  · rfl
  · exact ⟨rfl, Nat.le_refl _⟩
  · exact Nat.le_refl _
  · intro b hb; exact hb.elim
  · intro b x p _ hp; cases hp

/-- A call whose arguments hold no memory. -/
theorem calls_flat {P : Program} {f : Nat} {args : List NV} {vargs : Array Value} {Q : NV × Heap → Prop} (t : NFun P f args [] Q) (hv : VRels (fun _ => none) args vargs.toList) (W : World) :
    Calls P f vargs W fun e w' => ∃ v nv h φ, e = .returned v ∧ Q (nv, h) ∧ VRel φ nv v ∧ Stays W w' := by
  refine Calls.mono (t (keepAll W) (fun _ => none) W vargs hv (rel_empty W)) ?_
  rintro e w' ⟨v, rfl, nv, h, φ, hQ, _, hr, r⟩
  exact ⟨v, nv, h, φ, rfl, hQ, hr, stays_of_rel r⟩

theorem calls_true {P : Program} {f : Nat} {args : List NV} {vargs : Array Value} (t : NFun P f args [] fun q => q.1 = .bool true) (hv : VRels (fun _ => none) args vargs.toList) (W : World) :
    Calls P f vargs W fun e w' => e = .returned (.bool true) ∧ Stays W w' := by
  refine Calls.mono (calls_flat t hv W) ?_
  rintro e w' ⟨v, nv, h, φ, rfl, hQ, hr, hs⟩
  simp only at hQ
  subst hQ
  exact ⟨by rw [hr.bool], hs⟩

open Go.ChangeShapes Go.WideShapes in
/-- The row's last step, where all that was there stays. -/
theorem post_of_stays {H : Type} {enc : TypeId × Value → H} {P : Program} {f : Func} {s : ChangeSpec} {apart fresh handsOn again : Bool} {W W' : World} {args : Array Value} {v : Value} {ds gs : List (DataW H)} {before pa pv : List MemPlace}
    (hW : DataW.Whole enc P f.params.toList s.vars apart W args.toList ds gs before)
    (hres : ∀ (b : Nat) (sp : Nat → Bool) (hd : Bool), DataW.TrodAll enc P W' b sp hd f.resultTypes.toList (v.resultList f.resultTypes.size) (s.fn H (ds ++ gs)).results [])
    (hargs : ∀ sp : Nat → Bool, (∀ p ∈ before, sp p.block = true) → DataW.TrodAll enc P W' 0 sp true f.params.toList args.toList (s.fn H (ds ++ gs)).args pa)
    (hvars : ∀ sp : Nat → Bool, (∀ p ∈ before, sp p.block = true) → DataW.TrodVars enc P W' sp s.vars (s.fn H (ds ++ gs)).vars pv)
    (hps : before = pa ++ pv) (hst : Stays W W')
    (hok : ∀ (j : Nat) (t : TypeId) (r : Value), f.resultTypes[j]? = some t → (v.resultList f.resultTypes.size)[j]? = some r → Value.okWide P W' .any 0 t r) :
    s.post enc P f apart fresh handsOn again W args v W' := by
  have hold : ∀ p ∈ before, (fun b => decide (b < W.heap.size)) p.block = true := fun p hp => by simpa using hW.lt p hp
  refine ⟨ds, gs, before, [], pa, pv, hW, hres _ _ _, hargs _ hold, hvars _ hold, World.keptBut_mono (fun p hp => ⟨hp, ?_⟩) (hst.frame _), fun _ => ?_⟩
  · rw [hps, List.mem_append] at hp
    exact Or.inr hp
  · have hlt := hW.lt
    obtain ⟨_, _, _, _, _, hz, hn⟩ := hW
    refine ⟨hok, _, _, ([] ++ pa) ++ pv, ⟨[] ++ pa, pv, trodAll_append (hargs _ (fun _ _ => rfl)) (hres _ _ _), hvars _ (fun _ _ => rfl), rfl, ?_, ?_⟩, ?_⟩
    · intro b off hp
      have hp' : MemPlace.cell b off ∈ before := by rw [hps]; simpa using hp
      rw [hst.2.1 _ (hlt _ hp')]
      exact hz b off hp'
    · intro ha
      have := hn ha
      rw [hps] at this
      simpa using this
    · intro p hp _
      rw [hps]
      simpa using hp

end Go.Ns
