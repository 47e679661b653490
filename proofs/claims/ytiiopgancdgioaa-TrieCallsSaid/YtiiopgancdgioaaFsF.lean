/- Calls that hold no memory, run in the kernel at the empty heap and taken to any heap. -/
import Derived.Test.YtiiopgancdgioaaFsE
set_option linter.unusedVariables false
set_option linter.unusedSimpArgs false
namespace Go.Ns

mutual
theorem VRel.free {φ ψ : PMap} : ∀ {x : NV} {v : Value}, x.lo 0 → VRel φ x v → VRel ψ x v
  | .bool _, _, _, h => h
  | .int _ _, _, _, h => h
  | .str _, _, _, h => h
  | .ptr none, _, _, h => h
  | .ptr (some (_, _)), _, l, _ => absurd l (Nat.not_lt_zero _)
  | .slice none _ _, _, _, h => h
  | .slice (some (_, _)) _ _, _, l, _ => absurd l (Nat.not_lt_zero _)
  | .map none, _, _, h => h
  | .map (some _), _, l, _ => absurd l (Nat.not_lt_zero _)
  | .func _ a b, _, l, ⟨x, y, e, ha, hb⟩ => ⟨x, y, e, VRels.free l.1 ha, VRels.free l.2 hb⟩
  | .nilFunc, _, _, h => h
  | .iface _ x, _, l, ⟨y, e, hx⟩ => ⟨y, e, VRel.free (x := x) l hx⟩
  | .nilIface, _, _, h => h
  | .agg cs, _, l, ⟨vs, e, hc, h1⟩ => ⟨vs, e, VRels.free (xs := cs) l hc, h1⟩
  | .tup cs, _, l, ⟨vs, e, hc⟩ => ⟨vs, e, VRels.free (xs := cs) l hc⟩
theorem VRels.free {φ ψ : PMap} : ∀ {xs : List NV} {vs : List Value}, NV.lows 0 xs → VRels φ xs vs → VRels ψ xs vs
  | [], _, _, h => h
  | _ :: _, _, l, ⟨v, r, e, hv, hr⟩ => ⟨v, r, e, VRel.free l.1 hv, VRels.free l.2 hr⟩
end

/-- What a call does at the empty heap, it does at any heap. -/
theorem NFun.anywhere {P : Program} {f : Nat} {args : List NV} {v : NV} (ha : NV.lows 0 args) (hv : v.lo 0) (t : NFun P f args [] fun q => q.1 = v) (h : Heap) : NFun P f args h fun q => q = (v, h) := by
  intro C φ w vargs hva r
  refine Calls.mono (t (keepAll w) (fun _ => none) w vargs (hva.free ha) (rel_empty w)) ?_
  rintro e w' ⟨u, rfl, nv, k, φ', hQ, _, hu, s⟩
  simp only at hQ
  subst hQ
  have hk : ∀ i, i < w.heap.size → w'.heap[i]? = w.heap[i]? := fun i hi => (s.keep i (.inl hi)).1
  refine ⟨u, rfl, nv, h, φ, rfl, PMap.le.refl _, hu.free hv, ?_⟩
  refine ⟨?_, ?_, r.dom, r.inj, ?_, r.away, r.anchor, by rw [s.os]; exact r.os, by rw [s.tape]; exact r.tape, ⟨s.output.1.trans r.output.1, Nat.le_trans r.output.2 s.output.2⟩, Nat.le_trans r.grow s.grow, r.resv, r.far⟩
  · intro b x p hx hp
    obtain ⟨o, ho, hr⟩ := r.blk b x p hx hp
    exact ⟨o, by rw [hk _ (r.lt b p hp)]; exact ho, hr⟩
  · intro b p hp
    exact Nat.lt_of_lt_of_le (r.lt b p hp) s.grow
  · intro i hi
    obtain ⟨h1, h2⟩ := r.keep i hi
    exact ⟨by rw [hk i h2]; exact h1, Nat.lt_of_lt_of_le h2 s.grow⟩

/-- A contract of a call that holds no memory and leaves none, from a run at the empty heap. -/
theorem call_any (E : Env) (hm : E.P.follows .mixedOrders = true) {f : Nat} {fn : NFn} (hok : goodFn E.P f = true ∧ cfn E.P f = fn) {args : List NV} {v : NV} (hw : (wfc fn.ntmps fn.body && decide (args.length ≤ fn.ntmps)) = true)
    (ha : NV.lows 0 args) (hv : v.lo 0) (e : fwpT E fn.body (fend fn.res fun q => q.1 = v) (toF args) [] .mk) (h : Heap) : NCall E.P f args h (fun q => q = (v, h)) :=
  NCall.of hok.1 ((fun_of_fwp E hm hok.2 hw e).anywhere ha hv h) (by rintro q rfl; exact Nat.le_refl _)

def saysTrue : Res (NV × Heap) → Bool
  | .ok (.bool true, _) => true
  | _ => false

/-- A closed call that answers true, run in the kernel. -/
theorem call_run {P : Program} {tbl : Nat → Option NFn} (hm : P.follows .mixedOrders = true) (ht : ∀ f fn, tbl f = some fn → goodFn P f = true ∧ cfn P f = fn) {N D f : Nat} (e : saysTrue (nprog tbl N D f [] []) = true) (h : Heap) :
    NCall P f [] h (fun q => q = (.bool true, h)) := by
  have h1 : (nprog tbl N D f [] []).all fun q => q.1 = .bool true := by
    revert e
    generalize nprog tbl N D f [] [] = r
    intro e
    cases r with
    | ok q =>
      obtain ⟨v, k⟩ := q
      cases v with
      | bool b => cases b with
        | true => rfl
        | false => cases e
      | _ => cases e
    | _ => cases e
  obtain ⟨hg, t⟩ := nprog_ok hm ht D f [] [] _ h1
  refine NCall.of hg (NFun.anywhere (args := []) trivial (v := .bool true) trivial ?_ h) (by rintro q rfl; exact Nat.le_refl _)
  intro C φ w vargs hv r
  refine Calls.mono (t C φ w vargs hv r) ?_
  rintro ex w' ⟨v, rfl, nv, k, φ', hq, rest⟩
  exact ⟨v, rfl, nv, k, φ', hq.1, rest⟩

def lk : List (Nat × NFn) → Nat → Option NFn
  | [], _ => none
  | (n, x) :: l, f => if n = f then some x else lk l f

theorem lk_mem : ∀ {l : List (Nat × NFn)} {f : Nat} {fn : NFn}, lk l f = some fn → (f, fn) ∈ l
  | (n, x) :: l, f, fn, h => by
    unfold lk at h
    split at h
    · rename_i e; cases h; subst e; exact List.mem_cons_self ..
    · exact List.mem_cons_of_mem _ (lk_mem h)

theorem lk_ok {P : Program} {tab : List (Nat × NFn)} (ht : ∀ p ∈ tab, goodFn P p.1 = true ∧ cfn P p.1 = p.2) (f : Nat) (fn : NFn) (h : lk tab f = some fn) : goodFn P f = true ∧ cfn P f = fn := ht (f, fn) (lk_mem h)

end Go.Ns
