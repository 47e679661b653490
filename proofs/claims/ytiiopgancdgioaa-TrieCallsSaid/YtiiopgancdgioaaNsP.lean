/- The executable run of code and of a whole program. -/
import Derived.Test.YtiiopgancdgioaaNsO
set_option linter.unusedVariables false
set_option linter.unusedSimpArgs false
namespace Go.Ns

abbrev NSt := Ctl × List NV × Heap

def nloop (body : List NV → Heap → Res NSt) : Nat → List NV → Heap → Res NSt
  | 0, _, _ => .fail
  | n + 1, F, h => (body F h).bind fun r => match r.1 with
    | .nrm => nloop body n r.2.1 r.2.2
    | c => .ok (c, r.2.1, r.2.2)

def nrun (S : Specs) (N : Nat) : NCode → List NV → Heap → Res NSt
  | .skip, F, h => .ok (.nrm, F, h)
  | .ops l, F, h => (nops S l F h).bind fun r => .ok (.nrm, r.1, r.2)
  | .draw n ds, F, h => (ndrawn S n ds F h).bind fun r => .ok (.nrm, r.1, r.2)
  | .seq a b, F, h => (nrun S N a F h).bind fun r => match r.1 with
    | .nrm => nrun S N b r.2.1 r.2.2
    | c => .ok (c, r.2.1, r.2.2)
  | .cond c a b, F, h => match nval F c with
    | .bool true => nrun S N a F h
    | .bool false => nrun S N b F h
    | _ => .fail
  | .block id c, F, h => (nrun S N c F h).bind fun r => match r.1 with
    | .exit i => if i = id then .ok (.nrm, r.2.1, r.2.2) else .ok (.exit i, r.2.1, r.2.2)
    | c => .ok (c, r.2.1, r.2.2)
  | .loop c, F, h => nloop (nrun S N c) N F h
  | .exit id, F, h => .ok (.exit id, F, h)
  | .ret, F, h => .ok (.ret, F, h)
  | .rangeF .., _, _ => .fail
  | .fail, _, _ => .fail

section
variable {P : Program} {S : Specs} {N : Nat}

theorem nwp_mono : ∀ (c : NCode) {K K' : NK} {F : List NV} {h : Heap}, nwp S c K F h → (∀ c F h, K c F h → K' c F h) → nwp S c K' F h
  | .skip, K, K', F, h, e, hk => hk _ _ _ e
  | .ops l, K, K', F, h, e, hk => Res.all_mono (fun _ h => hk _ _ _ h) e
  | .draw n ds, K, K', F, h, e, hk => Res.all_mono (fun _ h => hk _ _ _ h) e
  | .seq a b, K, K', F, h, e, hk => by
    refine nwp_mono a e ?_
    intro c F h hc
    cases c with
    | nrm => exact nwp_mono b hc hk
    | exit id => exact hk _ _ _ hc
    | ret => exact hk _ _ _ hc
  | .cond c a b, K, K', F, h, e, hk => by
    simp only [nwp] at e ⊢
    split at e
    · exact nwp_mono a e hk
    · exact nwp_mono b e hk
    · exact e.elim
  | .block id c, K, K', F, h, e, hk => by
    refine nwp_mono c e ?_
    intro c F h hc
    cases c with
    | nrm => exact hk _ _ _ hc
    | exit i =>
      simp only at hc ⊢
      split at hc <;> rename_i hi <;> simp only [hi, if_true, if_false] <;> exact hk _ _ _ hc
    | ret => exact hk _ _ _ hc
  | .loop x, K, K', F, h, ⟨n, e⟩, hk => by
    refine ⟨n, ?_⟩
    induction n generalizing F h with
    | zero => exact e.elim
    | succ n ih =>
      refine nwp_mono x e ?_
      intro c F h hc
      cases c with
      | nrm => exact ih F h hc
      | exit id => exact hk _ _ _ hc
      | ret => exact hk _ _ _ hc
  | .exit id, K, K', F, h, e, hk => hk _ _ _ e
  | .ret, K, K', F, h, e, hk => hk _ _ _ e
  | .rangeF .., K, K', F, h, e, hk => e.elim
  | .fail, K, K', F, h, e, hk => e.elim

theorem nwp_of_nrun : ∀ (c : NCode) {K : NK} {F : List NV} {h : Heap}, (nrun S N c F h).all (fun r => K r.1 r.2.1 r.2.2) → nwp S c K F h
  | .skip, K, F, h, e => e
  | .ops l, K, F, h, e => Res.all_bind e
  | .draw n ds, K, F, h, e => Res.all_bind e
  | .seq a b, K, F, h, e => by
    have e := Res.all_bind e
    refine nwp_of_nrun a (K := fun c F h => match c with | .nrm => nwp S b K F h | c => K c F h) (Res.all_mono ?_ e)
    rintro ⟨c, F, h⟩ hr
    cases c with
    | nrm => exact nwp_of_nrun b hr
    | exit id => exact hr
    | ret => exact hr
  | .cond c a b, K, F, h, e => by
    simp only [nrun] at e
    simp only [nwp]
    split at e
    · rename_i hb; rw [hb]; exact nwp_of_nrun a e
    · rename_i hb; rw [hb]; exact nwp_of_nrun b e
    · exact e.elim
  | .block id c, K, F, h, e => by
    have e := Res.all_bind e
    refine nwp_of_nrun c (K := fun c F h => match c with | .exit i => if i = id then K .nrm F h else K (.exit i) F h | c => K c F h) (Res.all_mono ?_ e)
    rintro ⟨c, F, h⟩ hr
    cases c with
    | nrm => exact hr
    | exit i =>
      simp only at hr ⊢
      split at hr <;> rename_i hi <;> simp only [hi, if_true, if_false] <;> exact hr
    | ret => exact hr
  | .loop x, K, F, h, e => by
    refine ⟨N, ?_⟩
    have key : ∀ n F h, (nloop (nrun S N x) n F h).all (fun r => K r.1 r.2.1 r.2.2) → nrounds (nwp S x) K n F h := by
      intro n
      induction n with
      | zero => intro F h e; exact e.elim
      | succ n ih =>
        intro F h e
        have e := Res.all_bind e
        refine nwp_of_nrun x (K := fun c F h => match c with | .nrm => nrounds (nwp S x) K n F h | c => K c F h) (Res.all_mono ?_ e)
        rintro ⟨c, F, h⟩ hr
        cases c with
        | nrm => exact ih _ _ hr
        | exit id => exact hr
        | ret => exact hr
    exact key N F h e
  | .exit id, K, F, h, e => e
  | .ret, K, F, h, e => e
  | .rangeF .., K, F, h, e => e.elim
  | .fail, K, F, h, e => e.elim

/-- A call, run. -/
def ncall (S : Specs) (N : Nat) (fn : NFn) (args : List NV) (h : Heap) : Res (NV × Heap) :=
  (nrun S N fn.body (nenter fn.ntmps args) h).bind fun r => match r.1 with
    | .exit _ => .fail
    | _ => Res.of ((nresults r.2.1 r.2.2 fn.res).bind fun v => if h.length ≤ r.2.2.length then some (v, r.2.2) else none)

theorem nfun_of_ncall {fn : NFn} {args : List NV} {h : Heap} {Q : NV × Heap → Prop} (e : (ncall S N fn args h).all Q) : nfun S fn args h fun r => Q r ∧ h.length ≤ r.2.length := by
  have e := Res.all_bind e
  refine nwp_of_nrun (N := N) fn.body (Res.all_mono ?_ e)
  rintro ⟨c, F', h'⟩ hr
  have fin : (Res.of ((nresults F' h' fn.res).bind fun v => if h.length ≤ h'.length then some (v, h') else none)).all Q → ∃ v, nresults F' h' fn.res = some v ∧ Q (v, h') ∧ h.length ≤ h'.length := by
    intro hr
    obtain ⟨q, hq, hQ⟩ := Res.of_all hr
    obtain ⟨v, hv, hq⟩ := Option.bind_eq_some_iff.1 hq
    split at hq
    · rename_i hl
      cases hq
      exact ⟨v, hv, hQ, hl⟩
    · cases hq
  cases c with
  | nrm => exact fin hr
  | exit id => exact hr.elim
  | ret => exact fin hr

/-- The calls of a program, with a bound on the depth and on the rounds of loops. -/
def nprog (tbl : Nat → Option NFn) (N : Nat) : Nat → Specs
  | 0 => fun _ _ _ => .fail
  | n + 1 => fun f args h => match tbl f with
    | some fn => ncall (nprog tbl N n) N fn args h
    | none => .fail

theorem nprog_ok (hm : P.follows .mixedOrders = true) {tbl : Nat → Option NFn} (ht : ∀ f fn, tbl f = some fn → goodFn P f = true ∧ cfn P f = fn) : ∀ n, SpecOK P (nprog tbl N n)
  | 0 => fun f args h Q e => e.elim
  | n + 1 => fun f args h Q e => by
    simp only [nprog] at e
    split at e
    · rename_i fn hfn
      obtain ⟨hg, hc⟩ := ht f fn hfn
      refine ⟨hg, ?_⟩
      apply nfun_ok hm (nprog_ok hm ht n)
      rw [hc]
      exact nfun_of_ncall e
    · exact e.elim

/-- One contract more. -/
def Specs.add (S : Specs) (f : Nat) (s : List NV → Heap → Res (NV × Heap)) : Specs := fun g args h => if g = f then s args h else S g args h

theorem SpecOK.add (hS : SpecOK P S) {f : Nat} {s : List NV → Heap → Res (NV × Heap)} (hg : goodFn P f = true)
    (h : ∀ args h Q, (s args h).all Q → NFun P f args h (fun r => Q r ∧ h.length ≤ r.2.length)) : SpecOK P (S.add f s) := by
  intro g args hp Q e
  unfold Specs.add at e
  split at e
  · rename_i hgf; subst hgf; exact ⟨hg, h args hp Q e⟩
  · exact hS g args hp Q e

end
end Go.Ns
