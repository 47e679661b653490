/- Code: bodies, loops, functions. -/
import Derived.Test.YtiiopgancdgioaaNsN
set_option linter.unusedVariables false
set_option linter.unusedSimpArgs false
namespace Go.Ns

inductive NCode
  | skip
  | ops (l : List NOper)
  | draw (nA : Nat) (ds : List DOper)
  | seq (a b : NCode)
  | cond (c : NOpd) (a b : NCode)
  | block (id : Nat) (c : NCode)
  | loop (c : NCode)
  | exit (id : Nat)
  | ret
  | rangeF (g : NOpd) (p : Nat) (a b : NCode)
  | fail

/-- An operation that is no defer statement. -/
def noDef (o : Oper) : Bool := match o.op with | .defer _ => false | _ => true
def noDefs : Code → Bool
  | .region _ ops _ => ops.toList.all noDef
  | .seq a b => noDefs a && noDefs b
  | .cond _ a b => noDefs a && noDefs b
  | .block _ c => noDefs c
  | .loop c => noDefs c
  | .scope _ => false
  | _ => true

inductive Ctl
  | nrm
  | exit (id : Nat)
  | ret

def Ctl.toExit : Ctl → Exit
  | .nrm => .normal
  | .exit id => .exit id
  | .ret => .ret

def countA (P : Program) (ops : Array Oper) : Nat := (ops.toList.filter fun o => isA (coper P ops o).op).length

def cregion (P : Program) (ops : Array Oper) (draw : Bool) : NCode :=
  if draw then
    if dchk P ops (presGo ops.toList []) (slotsGo P ops ops.toList 0) (countA P ops) then .draw (countA P ops) (dopers P ops (presGo ops.toList []) (slotsGo P ops ops.toList 0)) else .fail
  else .ops (ops.toList.map (coper P ops))

def ccode (P : Program) : Code → NCode
  | .skip => .skip
  | .label _ => .skip
  | .region _ ops d => cregion P ops d
  | .seq a b => .seq (ccode P a) (ccode P b)
  | .cond c a b => if (copd c).ok then .cond (copd c) (ccode P a) (ccode P b) else .fail
  | .block id c => .block id (ccode P c)
  | .loop c => .loop (ccode P c)
  | .exit id => .exit id
  | .ret => .ret
  | .scope c => ccode P c
  | .goto _ => .fail
  | .rangeFunc g ps a b => match ps.toList with
    | [p] => if (copd g).ok && noDefs a && noDefs b then .rangeF (copd g) p (ccode P a) (ccode P b) else .fail
    | _ => .fail
  | .refuse _ => .fail

abbrev NK := Ctl → List NV → Heap → Prop

/-- The rounds of a loop. -/
def nrounds (body : NK → List NV → Heap → Prop) (K : NK) : Nat → List NV → Heap → Prop
  | 0, _, _ => False
  | n + 1, F, h => body (fun c F h => match c with | .nrm => nrounds body K n F h | c => K c F h) F h

def nwp (S : Specs) : NCode → NK → List NV → Heap → Prop
  | .skip, K, F, h => K .nrm F h
  | .ops l, K, F, h => (nops S l F h).all fun r => K .nrm r.1 r.2
  | .draw n ds, K, F, h => (ndrawn S n ds F h).all fun r => K .nrm r.1 r.2
  | .seq a b, K, F, h => nwp S a (fun c F h => match c with | .nrm => nwp S b K F h | c => K c F h) F h
  | .cond c a b, K, F, h => match nval F c with
    | .bool true => nwp S a K F h
    | .bool false => nwp S b K F h
    | _ => False
  | .block id c, K, F, h => nwp S c (fun c F h => match c with | .exit i => if i = id then K .nrm F h else K (.exit i) F h | c => K c F h) F h
  | .loop c, K, F, h => ∃ n, nrounds (nwp S c) K n F h
  | .exit id, K, F, h => K (.exit id) F h
  | .ret, K, F, h => K .ret F h
  | .rangeF .., _, _, _ => False
  | .fail, _, _, _ => False

/-- Where a run of the model comes to, said by the abstract one. -/
def NPost (C : Cx) (K : NK) (e : Exit) (a : Act) (w : World) : Prop :=
  ∃ c F h φ, e = c.toExit ∧ K c F h ∧ Sim C φ F h a w

/-- A piece of code, from an abstract state. -/
def NT (P : Program) (c : Code) (F : List NV) (h : Heap) (K : NK) : Prop :=
  ∀ (C : Cx) (φ : PMap) (a : Act) (w : World), Sim C φ F h a w → c.wp P (NPost C K) a w

section
variable {P : Program} {S : Specs}

theorem NT.mono {c : Code} {F : List NV} {h : Heap} {K K' : NK} (t : NT P c F h K) (hk : ∀ c F h, K c F h → K' c F h) : NT P c F h K' :=
  fun C φ a w s => wp_mono (t C φ a w s) fun e a w ⟨c, F, h, φ, e1, e2, e3⟩ => ⟨c, F, h, φ, e1, hk _ _ _ e2, e3⟩

theorem NT.seq {x y : Code} {F : List NV} {h : Heap} {K : NK} (t : NT P x F h fun c F h => match c with | .nrm => NT P y F h K | c => K c F h) : NT P (.seq x y) F h K := by
  intro C φ a w s
  apply wp_seq
  refine wp_mono (t C φ a w s) ?_
  rintro e a w ⟨c, F, h, φ, rfl, e2, e3⟩
  cases c with
  | nrm => exact e2 C φ a w e3
  | exit id => exact ⟨.exit id, F, h, φ, rfl, e2, e3⟩
  | ret => exact ⟨.ret, F, h, φ, rfl, e2, e3⟩

theorem NT.cond {x : Operand} {p q : Code} {F : List NV} {h : Heap} {K : NK} (hok : (copd x).ok = true) {b : Bool} (hb : nval F (copd x) = .bool b) (t : NT P (if b then p else q) F h K) : NT P (.cond x p q) F h K := by
  intro C φ a w s
  have := eval_rel s.tmps hok
  rw [hb] at this
  exact wp_cond this.bool (t C φ a w s)

theorem NT.block {id : Nat} {x : Code} {F : List NV} {h : Heap} {K : NK} (t : NT P x F h fun c F h => match c with | .exit i => if i = id then K .nrm F h else K (.exit i) F h | c => K c F h) : NT P (.block id x) F h K := by
  intro C φ a w s
  apply wp_block
  refine wp_mono (t C φ a w s) ?_
  rintro e a w ⟨c, F, h, φ, rfl, e2, e3⟩
  cases c with
  | nrm => exact ⟨.nrm, F, h, φ, rfl, e2, e3⟩
  | exit i =>
    simp only [Ctl.toExit, Exit.inBlock]
    simp only at e2
    split
    · rename_i hi
      rw [if_pos hi] at e2
      exact ⟨.nrm, F, h, φ, rfl, e2, e3⟩
    · rename_i hi
      rw [if_neg hi] at e2
      exact ⟨.exit i, F, h, φ, rfl, e2, e3⟩
  | ret => exact ⟨.ret, F, h, φ, rfl, e2, e3⟩

/-- A loop, by an invariant and a bound on the rounds that are left. -/
theorem NT.loop {x : Code} {K : NK} (I : Nat → List NV → Heap → Prop) (t : ∀ n F h, I n F h → NT P x F h fun c F h => match c with | .nrm => ∃ m, m < n ∧ I m F h | c => K c F h) {n : Nat} {F : List NV} {h : Heap} (h0 : I n F h) : NT P (.loop x) F h K := by
  intro C φ a w s b k cs
  have key : ∀ n φ F h a w, I n F h → Sim C φ F h a w → ∃ e a' w', NPost C K e a' w' ∧ Arrives P (lone (b.at a (.code x :: .inLoop x :: k)) cs w) b k cs e a' w' := by
    intro n
    induction n using Nat.strongRecOn with
    | _ n ih =>
      intro φ F h a w hI s
      obtain ⟨e, a₁, w₁, ⟨c, F1, h1, φ1, rfl, hq, s1⟩, harr⟩ := t n F h hI C φ a w s b (.inLoop x :: k) cs
      cases c with
      | nrm =>
        obtain ⟨m, hm, hI1⟩ := hq
        obtain ⟨e₂, a₂, w₂, hq₂, harr₂⟩ := ih m hm φ1 F1 h1 a₁ w₁ hI1 s1
        exact ⟨e₂, a₂, w₂, hq₂, .of_steps (Steps.trans harr (.one step_inLoop)) harr₂⟩
      | exit id => exact ⟨_, a₁, w₁, ⟨.exit id, F1, h1, φ1, rfl, hq, s1⟩, .pass (x := .inLoop x) rfl (fun _ _ => .inl (by simp [Ctl.toExit])) harr⟩
      | ret => exact ⟨_, a₁, w₁, ⟨.ret, F1, h1, φ1, rfl, hq, s1⟩, .pass (x := .inLoop x) rfl (fun _ _ => .inl (by simp [Ctl.toExit])) harr⟩
  obtain ⟨e, a', w', hq, harr⟩ := key n φ F h a w h0 s
  exact ⟨e, a', w', hq, .of_steps (.one step_loop) harr⟩

theorem NT.ops {id : Nat} {l : Array Oper} (hS : SpecOK P S) {F : List NV} {h : Heap} {K : NK} (e : (nops S (l.toList.map (coper P l)) F h).all fun r => K .nrm r.1 r.2) : NT P (.region id l false) F h K := by
  intro C φ a w s
  apply wp_region_list
  exact sim_ops hS l.toList s e fun φ' F' h' a' w' hk s' => ⟨.nrm, F', h', φ', rfl, hk, s'⟩

theorem NT.draw {id : Nat} {l : Array Oper} {pres : List (List Nat)} {slots : List Nat} {nA : Nat} (hm : P.follows .mixedOrders = true) (hS : SpecOK P S) (k : dchk P l pres slots nA = true) {F : List NV} {h : Heap} {K : NK}
    (e : (ndrawn S nA (dopers P l pres slots) F h).all fun r => K .nrm r.1 r.2) : NT P (.region id l true) F h K := by
  intro C φ a w s
  exact sim_drawn hm hS k s e fun φ' F' h' a' w' hk s' => ⟨.nrm, F', h', φ', rfl, hk, s'⟩

/-- The abstract run of code answers as the model's run. -/
theorem nt_of_nwp (hm : P.follows .mixedOrders = true) (hS : SpecOK P S) : ∀ (c : Code) {F : List NV} {h : Heap} {K : NK}, nwp S (ccode P c) K F h → NT P c F h K
  | .skip, F, h, K, e => fun C φ a w s => wp_skip ⟨.nrm, F, h, φ, rfl, e, s⟩
  | .label _, F, h, K, e => fun C φ a w s => wp_label ⟨.nrm, F, h, φ, rfl, e, s⟩
  | .region id ops d, F, h, K, e => by
    unfold ccode cregion at e
    cases d with
    | false => exact NT.ops hS e
    | true =>
      simp only [if_true] at e
      split at e
      · rename_i hk; exact NT.draw hm hS hk e
      · exact e.elim
  | .seq x y, F, h, K, e => by
    refine NT.seq ((nt_of_nwp hm hS x e).mono ?_)
    intro c F h hc
    cases c with
    | nrm => exact nt_of_nwp hm hS y hc
    | exit id => exact hc
    | ret => exact hc
  | .cond c x y, F, h, K, e => by
    unfold ccode at e
    split at e
    · rename_i hok
      simp only [nwp] at e
      split at e
      · rename_i hb; exact NT.cond hok hb (nt_of_nwp hm hS x e)
      · rename_i hb; exact NT.cond hok hb (nt_of_nwp hm hS y e)
      · exact e.elim
    · exact e.elim
  | .block id x, F, h, K, e => NT.block ((nt_of_nwp hm hS x e).mono fun c F h hc => hc)
  | .loop x, F, h, K, e => by
    obtain ⟨n, e⟩ := e
    refine NT.loop (fun n F h => nrounds (nwp S (ccode P x)) K n F h) ?_ e
    intro n F h hI
    cases n with
    | zero => exact hI.elim
    | succ n =>
      refine (nt_of_nwp hm hS x hI).mono ?_
      intro c F h hc
      cases c with
      | nrm => exact ⟨n, Nat.lt_succ_self n, hc⟩
      | exit id => exact hc
      | ret => exact hc
  | .exit id, F, h, K, e => fun C φ a w s => wp_exit ⟨.exit id, F, h, φ, rfl, e, s⟩
  | .ret, F, h, K, e => fun C φ a w s => wp_ret ⟨.ret, F, h, φ, rfl, e, s⟩
  | .scope c, F, h, K, e => fun C φ a w s => by
    apply wp_scope_straight
    refine wp_mono (nt_of_nwp hm hS c e C φ a w s) ?_
    rintro e a w ⟨c, F, h, φ, rfl, e2, e3⟩
    cases c <;> exact ⟨_, F, h, φ, rfl, e2, e3⟩
  | .goto _, F, h, K, e => e.elim
  | .rangeFunc g ps a b, F, h, K, e => by
    unfold ccode at e
    split at e
    · split at e
      · exact e.elim
      · exact e.elim
    · exact e.elim
  | .refuse _, F, h, K, e => e.elim

end

/-! ### Functions -/

inductive NRes
  | tmp (t : Nat)
  | cell (a size : Nat) (agg : Bool)
  | fail

def cres (P : Program) : ResultVar → NRes
  | .tmp t => .tmp t
  | .cell a t => if typed P t then match sizeT P t with | some n => .cell a n (isAggT P t) | none => .fail else .fail

def nres1 (F : List NV) (h : Heap) : NRes → Option NV
  | .tmp t => some (F.getD t nundef)
  | .cell a n agg => nload h n agg (F.getD a nundef)
  | .fail => none

def nresl (F : List NV) (h : Heap) : List NRes → Option (List NV)
  | [] => some []
  | r :: rs => (nres1 F h r).bind fun v => (nresl F h rs).map (v :: ·)

def nresults (F : List NV) (h : Heap) (rs : List NRes) : Option NV :=
  (nresl F h rs).map fun vs => match vs with | [v] => v | vs => .tup vs

/-- A function, translated. -/
structure NFn where
  ntmps : Nat
  res : List NRes
  body : NCode

def cfn (P : Program) (f : Nat) : NFn :=
  match P.funcs[f]? with
  | some fn => match fn.body with
    | some c => ⟨fn.ntmps, fn.results.toList.map (cres P), ccode P c⟩
    | none => ⟨0, [], .fail⟩
  | none => ⟨0, [], .fail⟩

/-- The end of a function. -/
def nend (rs : List NRes) (Q : NV × Heap → Prop) : NK := fun c F h => match c with
  | .exit _ => False
  | _ => ∃ v, nresults F h rs = some v ∧ Q (v, h)

def nenter (n : Nat) (args : List NV) : List NV := args ++ List.replicate (n - args.length) nundef

/-- A call, abstractly. -/
def nfun (S : Specs) (fn : NFn) (args : List NV) (h : Heap) (Q : NV × Heap → Prop) : Prop :=
  nwp S fn.body (nend fn.res Q) (nenter fn.ntmps args) h

section
variable {P : Program} {S : Specs} {C : Cx} {φ : PMap} {F : List NV} {h : Heap} {a : Act} {w : World}

def resSem (tmps : Array Value) : ResultVar → Sem Value
  | .tmp t => pure (tmps.getD t undef)
  | .cell a t => do loadVar t (← asAddr (tmps.getD a undef))

theorem res1_rel (s : Sim C φ F h a w) {r : ResultVar} {nv : NV} (e : nres1 F h (cres P r) = some nv) :
    ∃ v, (resSem a.tmps r).run P w = .ok v w ∧ VRel φ nv v := by
  have hg : ∀ t, VRel φ (F.getD t nundef) (a.tmps.getD t undef) := fun t => by
    have := eval_rel (x := .tmp t) s.tmps rfl
    simpa [copd, nval, Act.eval] using this
  cases r with
  | tmp t =>
    simp only [cres, nres1, Option.some.injEq] at e
    subst e
    exact ⟨_, rfl, hg t⟩
  | cell x t =>
    simp only [cres] at e
    split at e
    rotate_left
    · cases e
    rename_i ht
    split at e
    rotate_left
    · cases e
    rename_i n hn
    simp only [nres1] at e
    have hx2 := hg x
    obtain ⟨v, hv, hr⟩ := sim_load (P := P) s.rel hx2 ht hn e
    obtain ⟨b, o, cs, hx, _⟩ := nload_inv e
    rw [hx] at hx2
    simp only [VRel] at hx2
    obtain ⟨p, hp, hvx⟩ := hx2
    refine ⟨v, ?_, hr⟩
    have : resSem a.tmps (.cell x t) = loadVar t ⟨p.rb, p.ro + o, none⟩ := by
      show (do let d ← asAddr (a.tmps.getD x undef); loadVar t d) = _
      rw [hvx]
      rfl
    rw [this]
    rw [hvx] at hv
    simpa [Instr.loadAt, Instr.sureAddr] using hv

theorem resl_rel (s : Sim C φ F h a w) : ∀ {rs : List ResultVar} {vs : List NV}, nresl F h (rs.map (cres P)) = some vs →
    ∃ us : List Value, (rs.mapM (resSem a.tmps)).run P w = .ok us w ∧ VRels φ vs us
  | [], vs, e => by
    simp only [List.map_nil, nresl, Option.some.injEq] at e
    subst e
    exact ⟨[], rfl, rfl⟩
  | r :: rs, vs, e => by
    simp only [List.map_cons, nresl] at e
    obtain ⟨v, hv, e⟩ := Option.bind_eq_some_iff.1 e
    obtain ⟨vs', hvs, rfl⟩ := Option.map_eq_some_iff.1 e
    obtain ⟨u, hu, hur⟩ := res1_rel (P := P) s hv
    obtain ⟨us, hus, husr⟩ := resl_rel s hvs
    refine ⟨u :: us, ?_, u, us, rfl, hur, husr⟩
    rw [List.mapM_cons]
    simp [hu, hus]

theorem results_rel (s : Sim C φ F h a w) {fn : Func} {nv : NV} (e : nresults F h (fn.results.toList.map (cres P)) = some nv) : ∃ v, (results fn a.tmps).run P w = .ok v w ∧ VRel φ nv v := by
  obtain ⟨vs, hvs, rfl⟩ := Option.map_eq_some_iff.1 e
  obtain ⟨us, hus, hr⟩ := resl_rel (P := P) s hvs
  have hrun : (results fn a.tmps).run P w = .ok (if h : us.toArray.size = 1 then us.toArray[0] else .tuple us.toArray) w := by
    have : results fn a.tmps = (do let vs ← fn.results.mapM (resSem a.tmps); pure (if h : vs.size = 1 then vs[0] else .tuple vs)) := by
      unfold results
      congr 1
    rw [this, Array.mapM_eq_mapM_toList]
    simp [hus]
  refine ⟨_, hrun, ?_⟩
  have hl := hr.length
  match vs, hr, hl with
  | [], hr, hl =>
    simp [VRels] at hr
    subst hr
    exact ⟨#[], by simp, rfl⟩
  | [v], ⟨y, r, e, hv, hr1⟩, hl =>
    have hr1 : r = [] := hr1
    subst e
    subst hr1
    simpa using hv
  | v :: v' :: vs, hr, hl =>
    have : us.toArray.size ≠ 1 := by simp; simp at hl; omega
    rw [dif_neg this]
    exact ⟨us.toArray, rfl, by simpa using hr⟩

/-- A function whose abstract run goes well. -/
theorem nfun_ok (hm : P.follows .mixedOrders = true) (hS : SpecOK P S) {f : Nat} {args : List NV} {h : Heap} {Q : NV × Heap → Prop} (e : nfun S (cfn P f) args h Q) : NFun P f args h Q := by
  intro C φ w vargs hv r
  have key : ∃ fn c, P.funcs[f]? = some fn ∧ fn.body = some c ∧ cfn P f = ⟨fn.ntmps, fn.results.toList.map (cres P), ccode P c⟩ := by
    unfold nfun cfn at e
    split at e
    · rename_i fn hfn
      split at e
      · rename_i c hc
        exact ⟨fn, c, hfn, hc, by unfold cfn; simp only [hfn, hc]⟩
      · exact e.elim
    · exact e.elim
  obtain ⟨fn, c, hfn, hc, hcf⟩ := key
  unfold nfun at e
  rw [hcf] at e
  let C' : Cx := { C with G := φ, D := [] }
  have r' : Rel C' φ w h := ⟨r.blk, r.lt, r.dom, r.inj, r.keep, r.away, PMap.le.refl φ, r.os, r.tape, r.output, r.grow, r.resv, r.far⟩
  have hlen := hv.length
  have s0 : Sim C' φ (nenter fn.ntmps args) h { tmps := vargs ++ Array.replicate (fn.ntmps - vargs.size) undef, defers := [] } w := by
    refine ⟨?_, rfl, r'⟩
    simp only [Array.toList_append, Array.toList_replicate, nenter]
    simp only [Array.length_toList] at hlen
    rw [hlen]
    refine hv.append ?_
    have : ∀ n, VRels φ (List.replicate n nundef) (List.replicate n undef) := by
      intro n
      induction n with
      | zero => rfl
      | succ n ih => exact ⟨undef, _, rfl, VRel.undef, ih⟩
    exact this _
  apply calls_of_wp hfn hc
  refine wp_mono (nt_of_nwp hm hS c e C' φ _ w s0) ?_
  rintro ex a' w' ⟨ct, F', h', φ', rfl, hk, s'⟩
  have fin : (∃ v, nresults F' h' (fn.results.toList.map (cres P)) = some v ∧ Q (v, h')) → a'.defers = [] ∧ ∃ v, (results fn a'.tmps).run P w' = .ok v w' ∧ ∃ u, (Ending.returned v) = .returned u ∧ Post C φ Q u w' := by
    rintro ⟨v, hv, hq⟩
    obtain ⟨u, hu, hur⟩ := results_rel (P := P) s' hv
    have q := s'.rel
    exact ⟨s'.defers, u, hu, u, rfl, v, h', φ', hq, q.anchor, hur, ⟨q.blk, q.lt, q.dom, q.inj, q.keep, q.away, r.anchor.trans q.anchor, q.os, q.tape, q.output, q.grow, q.resv, q.far⟩⟩
  cases ct with
  | nrm => exact fin hk
  | ret => exact fin hk
  | exit id => exact hk.elim

end
end Go.Ns
