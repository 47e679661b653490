/- Iterator functions: code that calls the yield of a range over a function. -/
import Derived.Test.YtiiopgancdgioaaFsC
set_option linter.unusedVariables false
set_option linter.unusedSimpArgs false
namespace Go.Ns
theorem orFail_callv {o : Option NOp} {x : NOpd} {ys : List NOpd} (h : NOp.orFail o = .callv x ys) : o = some (.callv x ys) := by
  cases o with
  | none => cases h
  | some a => exact congrArg some h
theorem cop_callv {P : Program} {o : Op} {x : NOpd} {ys : List NOpd} (h : cop' P o = .callv x ys) : ∃ c g, o = .call c ∧ c.callee = .value g ∧ x = copd g ∧ ys = c.args.toList.map copd := by
  cases o
  case call c =>
    simp only [cop', ccall] at h
    split at h
    · exfalso
      unfold cbuiltin at h
      repeat' (split at h)
      all_goals first
        | (cases h; done)
        | (have := orFail_callv h; simp [Option.map_eq_some_iff] at this; done)
    · cases h
    · split at h
      · cases h
      · split at h
        · cases h
        · cases h
    · rename_i g hg hc
      cases h
      exact ⟨c, g, rfl, hc, rfl, rfl⟩
  all_goals exfalso
  all_goals first
    | (cases h; done)
    | (simp only [cop', cbin, ceq, cconv] at h
       repeat' (split at h)
       all_goals first
         | (cases h; done)
         | contradiction
         | (have := orFail_callv h; simp [Option.map_eq_some_iff, Option.bind_eq_some_iff] at this; done))

/-- What a run of an iterator is about. -/
structure ICx where
  l : Nat
  C : Cx
  φ : PMap
  vals : List NV
  I : Nat → Heap → Prop
  Dn : Cx → Heap → Prop

def ICx.at (X : ICx) (m : Option Nat) (C : Cx) (h : Heap) : Prop := match m with
  | some i => C = X.C ∧ X.I i h
  | none => C.D = [] ∧ X.Dn C h

abbrev YK := Option Nat → Ctl → List NV → Heap → Prop
def YPost (X : ICx) (K : YK) (e : Exit) (a : Act) (w : World) : Prop :=
  ∃ m c F h φ C, e = c.toExit ∧ K m c F h ∧ Sim C φ F h a w ∧ X.φ.le φ ∧ X.at m C h
/-- A piece of an iterator's code; 'm': so many values have been yielded (or the range is left). -/
def NTY (P : Program) (X : ICx) (m : Option Nat) (c : Code) (F : List NV) (h : Heap) (K : YK) : Prop :=
  ∀ (C : Cx) (φ : PMap) (a : Act) (w : World), Sim C φ F h a w → X.φ.le φ → X.at m C h → c.wp P (YPost X K) a w

theorem Sim.re {C : Cx} {φ : PMap} {F : List NV} {h : Heap} {a : Act} {w : World} (s : Sim C φ F h a w) : Sim { C with G := φ } φ F h a w :=
  ⟨s.tmps, s.defers, ⟨s.rel.blk, s.rel.lt, s.rel.dom, s.rel.inj, s.rel.keep, s.rel.away, PMap.le.refl φ, s.rel.os, s.rel.tape, s.rel.output, s.rel.grow, s.rel.resv, s.rel.far⟩⟩
theorem Sim.un {C : Cx} {φ ψ : PMap} {F : List NV} {h : Heap} {a : Act} {w : World} (s : Sim { C with G := ψ } φ F h a w) (g : C.G.le φ) : Sim C φ F h a w :=
  ⟨s.tmps, s.defers, ⟨s.rel.blk, s.rel.lt, s.rel.dom, s.rel.inj, s.rel.keep, s.rel.away, g, s.rel.os, s.rel.tape, s.rel.output, s.rel.grow, s.rel.resv, s.rel.far⟩⟩

section
variable {P : Program} {X : ICx}

theorem NTY.mono {m : Option Nat} {c : Code} {F : List NV} {h : Heap} {K K' : YK} (t : NTY P X m c F h K) (hk : ∀ m c F h, K m c F h → K' m c F h) : NTY P X m c F h K' :=
  fun C φ a w s le x => wp_mono (t C φ a w s le x) fun e a w ⟨m, c, F, h, φ, C, e1, e2, e3⟩ => ⟨m, c, F, h, φ, C, e1, hk _ _ _ _ e2, e3⟩
/-- Code that does not yield. -/
theorem NTY.plain {m : Option Nat} {c : Code} {F : List NV} {h : Heap} {K : YK} (t : NT P c F h fun c F h' => h' = h ∧ K m c F h') : NTY P X m c F h K := by
  intro C φ a w s le x
  refine wp_mono (t { C with G := φ } φ a w s.re) ?_
  rintro e a w ⟨c, F, h', φ', rfl, ⟨rfl, e2⟩, e3⟩
  exact ⟨m, c, F, _, φ', C, rfl, e2, e3.un (s.rel.anchor.trans e3.rel.anchor), le.trans e3.rel.anchor, x⟩
theorem NTY.seq {m : Option Nat} {x y : Code} {F : List NV} {h : Heap} {K : YK} (t : NTY P X m x F h fun m c F h => match c with | .nrm => NTY P X m y F h K | c => K m c F h) : NTY P X m (.seq x y) F h K := by
  intro C φ a w s le x
  apply wp_seq
  refine wp_mono (t C φ a w s le x) ?_
  rintro e a w ⟨m, c, F, h, φ, C, rfl, e2, e3, e4, e5⟩
  cases c with
  | nrm => exact e2 C φ a w e3 e4 e5
  | exit id => exact ⟨m, .exit id, F, h, φ, C, rfl, e2, e3, e4, e5⟩
  | ret => exact ⟨m, .ret, F, h, φ, C, rfl, e2, e3, e4, e5⟩
theorem NTY.cond {m : Option Nat} {x : Operand} {p q : Code} {F : List NV} {h : Heap} {K : YK} (hok : (copd x).ok = true) {b : Bool} (hb : nval F (copd x) = .bool b) (t : NTY P X m (if b then p else q) F h K) : NTY P X m (.cond x p q) F h K := by
  intro C φ a w s le x
  have := eval_rel s.tmps hok
  rw [hb] at this
  exact wp_cond this.bool (t C φ a w s le x)
theorem NTY.block {m : Option Nat} {id : Nat} {x : Code} {F : List NV} {h : Heap} {K : YK} (t : NTY P X m x F h fun m c F h => match c with | .exit i => if i = id then K m .nrm F h else K m (.exit i) F h | c => K m c F h) : NTY P X m (.block id x) F h K := by
  intro C φ a w s le x
  apply wp_block
  refine wp_mono (t C φ a w s le x) ?_
  rintro e a w ⟨m, c, F, h, φ, C, rfl, e2, e3, e4, e5⟩
  cases c with
  | nrm => exact ⟨m, .nrm, F, h, φ, C, rfl, e2, e3, e4, e5⟩
  | exit i =>
    simp only [Ctl.toExit, Exit.inBlock]
    simp only at e2
    split
    · rename_i hi
      rw [if_pos hi] at e2
      exact ⟨m, .nrm, F, h, φ, C, rfl, e2, e3, e4, e5⟩
    · rename_i hi
      rw [if_neg hi] at e2
      exact ⟨m, .exit i, F, h, φ, C, rfl, e2, e3, e4, e5⟩
  | ret => exact ⟨m, .ret, F, h, φ, C, rfl, e2, e3, e4, e5⟩
theorem NTY.loop {x : Code} {K : YK} (J : Nat → Option Nat → List NV → Heap → Prop) (t : ∀ n m F h, J n m F h → NTY P X m x F h fun m c F h => match c with | .nrm => ∃ k, k < n ∧ J k m F h | c => K m c F h) {n : Nat} {m : Option Nat} {F : List NV} {h : Heap} (h0 : J n m F h) : NTY P X m (.loop x) F h K := by
  intro C φ a w s le hx b k cs
  have key : ∀ n m φ C F h a w, J n m F h → Sim C φ F h a w → X.φ.le φ → X.at m C h → ∃ e a' w', YPost X K e a' w' ∧ Arrives P (lone (b.at a (.code x :: .inLoop x :: k)) cs w) b k cs e a' w' := by
    intro n
    induction n using Nat.strongRecOn with
    | _ n ih =>
      intro m φ C F h a w hI s le hx
      obtain ⟨e, a₁, w₁, ⟨m1, c, F1, h1, φ1, C1, rfl, hq, s1, le1, x1⟩, harr⟩ := t n m F h hI C φ a w s le hx b (.inLoop x :: k) cs
      cases c with
      | nrm =>
        obtain ⟨j, hj, hI1⟩ := hq
        obtain ⟨e₂, a₂, w₂, hq₂, harr₂⟩ := ih j hj m1 φ1 C1 F1 h1 a₁ w₁ hI1 s1 le1 x1
        exact ⟨e₂, a₂, w₂, hq₂, .of_steps (Steps.trans harr (.one step_inLoop)) harr₂⟩
      | exit id => exact ⟨_, a₁, w₁, ⟨m1, .exit id, F1, h1, φ1, C1, rfl, hq, s1, le1, x1⟩, .pass (x := .inLoop x) rfl (fun _ _ => .inl (by simp [Ctl.toExit])) harr⟩
      | ret => exact ⟨_, a₁, w₁, ⟨m1, .ret, F1, h1, φ1, C1, rfl, hq, s1, le1, x1⟩, .pass (x := .inLoop x) rfl (fun _ _ => .inl (by simp [Ctl.toExit])) harr⟩
  obtain ⟨e, a', w', hq, harr⟩ := key n m φ C F h a w h0 s le hx
  exact ⟨e, a', w', hq, .of_steps (.one step_loop) harr⟩
end

/-! ### The predicates -/
abbrev FYK := Option Nat → Ctl → FF → Heap → Prop
/-- What is asked where a value is yielded: the next one, or the range has been left. -/
def yops (S : Env) (l : Nat) (vals : List NV) (Keep : Heap → Prop) (k : Option Nat → FF → Heap → Prop) : List NOper → Option Nat → FF → Heap → Prop
  | [], m, F, h => k m F h
  | o :: os, m, F, h =>
    match o.guard, o.op with
    | none, .callv x [y] =>
      match fval F x with
      | .func (.yield j) [] [] => j = l ∧ ∃ i, m = some i ∧ vals[i]? = some (fval F y) ∧
          (∀ h', Keep h' → yops S l vals Keep k os (some (i + 1)) (fput F o.dst (.bool true)) h') ∧ ∀ h', yops S l vals Keep k os none (fput F o.dst (.bool false)) h'
      | _ => False
    | _, _ => fops S [o] F h fun F h' => h' = h ∧ yops S l vals Keep k os m F h'
/-- No yield. -/
def notY (o : NOper) : Bool := match o.op with | .callv _ _ => false | _ => true
def yrounds (body : FYK → Option Nat → FF → Heap → Prop) (K : FYK) : Nat → Option Nat → FF → Heap → Prop
  | 0, _, _, _ => False
  | n + 1, m, F, h => body (fun m c F h => match c with | .nrm => yrounds body K n m F h | c => K m c F h) m F h
def ywp (S : Env) (l : Nat) (vals : List NV) (Keep : Heap → Prop) : NCode → FYK → Option Nat → FF → Heap → Prop
  | .skip, K, m, F, h => K m .nrm F h
  | .ops os, K, m, F, h => if os.all notY then fops S os F h (fun F h' => h' = h ∧ K m .nrm F h') else yops S l vals Keep (fun m F h => K m .nrm F h) os m F h
  | .draw n ds, K, m, F, h => edraw S n ds F h fun F h' => h' = h ∧ K m .nrm F h'
  | .seq a b, K, m, F, h => ywp S l vals Keep a (fun m c F h => match c with | .nrm => ywp S l vals Keep b K m F h | c => K m c F h) m F h
  | .cond c a b, K, m, F, h => match fval F c with
    | .bool true => ywp S l vals Keep a K m F h
    | .bool false => ywp S l vals Keep b K m F h
    | _ => False
  | .block id c, K, m, F, h => ywp S l vals Keep c (fun m c F h => match c with | .exit i => if i = id then K m .nrm F h else K m (.exit i) F h | c => K m c F h) m F h
  | .loop c, K, m, F, h => ∃ n, yrounds (ywp S l vals Keep c) K n m F h
  | .exit id, K, m, F, h => K m (.exit id) F h
  | .ret, K, m, F, h => K m .ret F h
  | _, _, _, _, _ => False

theorem oper_wide {P : Program} {n : Nat} {Q Q' : Exit → Act → World → Prop} {o : Oper} {a : Act} {w : World} {K : Act → World → Prop} (hp : ∀ c a w, Q' (.panic c) a w → Q (.panic c) a w) (ho : LetsOut Q' → LetsOut Q) (h : o.wp P a w K Q') : o.wpIn Fence.wide n P a w K Q := by
  refine ⟨fun _ _ => trivial, ?_⟩
  rw [show Fence.wide.round = none from rfl, Oper.semAt_none]
  unfold Oper.wp at h
  generalize (execOp a.eval o).run P w = r at *
  cases r with
  | ok x w' =>
    cases x with
    | enter f args =>
      simp only [Oper.upon, Oper.uponIn] at h ⊢
      refine ⟨fun hh => by simp [Fence.wide] at hh, callsIn_wide.2 (Calls.mono h ?_)⟩
      intro e w2 he
      cases e with
      | returned v => exact he
      | panicked c => exact hp _ _ _ he
      | outgrown => exact ho he
    | row row args => exact ⟨fun hh => by simp [Fence.wide] at hh, rowsIn_wide.2 h⟩
    | _ => first | exact h | exact h.elim
  | halt x w' =>
    cases x with
    | panic v => exact hp _ _ _ h
    | _ => exact h

/-- What a round does where the value is yielded. -/
def Yields (P : Program) (X : ICx) : Prop := ∀ (i : Nat) (h : Heap) (φ' : PMap) (w' : World) (v : Value) (hi : i < X.vals.length), X.I i h → X.φ.le φ' → Rel X.C φ' w' h → VRel φ' X.vals[i] v →
  ∃ fn tmps as bd, (Instr.yield X.l #[v]).run P w' = .ok (.round X.l fn tmps as bd) w' ∧
    RoundIn Fence.wide 0 P X.l fn tmps as bd w' fun e w'' => (e = .returned (.bool true) ∧ ∃ φ'' h'', φ'.le φ'' ∧ Rel X.C φ'' w'' h'' ∧ X.I (i + 1) h'') ∨ (e = .returned (.bool false) ∧ ∃ C' φ'' h'', C'.D = [] ∧ φ'.le φ'' ∧ Rel C' φ'' w'' h'' ∧ X.Dn C' h'')

theorem sim_yops {E : Env} {n : Nat} {X : ICx} {Keep : Heap → Prop} (hI : ∀ i h, X.I i h → Keep h) (hY : Yields E.P X) (hD : X.C.D = []) {ops : Array Oper} {QX : Exit → Act → World → Prop} (hx : ¬ LetsOut QX) {k : Option Nat → FF → Heap → Prop} : ∀ (l : List Oper) {m : Option Nat} {C : Cx} {φ : PMap} {F : List NV} {h : Heap} {a : Act} {w : World}, Sim C φ F h a w → X.φ.le φ → X.at m C h →
    (l.map (coper E.P ops)).all (fun o => lowD n o.dst) = true → F.length = n → yops E X.l X.vals Keep k (l.map (coper E.P ops)) m (toF F) h →
    (∀ m C φ' F' h' a' w', F'.length = n → k m (toF F') h' → Sim C φ' F' h' a' w' → X.φ.le φ' → X.at m C h' → QX .normal a' w') → wpListIn Fence.wide 0 E.P ops QX l a w
  | [], m, C, φ, F, h, a, w, s, le, x, _, hn, e, hq => hq m C φ F h a w hn e s le x
  | o :: l, m, C, φ, F, h, a, w, s, le, x, hl, hn, e, hq => by
    simp only [List.map_cons, List.all_cons, Bool.and_eq_true] at hl
    simp only [List.map_cons] at e
    unfold yops at e
    split at e
    · rename_i xx yy hg hop
      split at e
      · rename_i j hf
        obtain ⟨rfl, i, rfl, hv, e1, e2⟩ := e
        have hgd : ∀ j want, o.guard = some (j, want) → ((ops[j]?).bind (·.dst)).isSome = true := coper_guard (P := E.P) (.inl (by rw [hop]; intro h; cases h))
        have hw := wanted_rel (P := E.P) s.tmps hgd
        rw [hg] at hw
        have hop' := hop
        rw [coper_op hgd] at hop'
        have hne : cop E.P o.op ≠ .fail := by rw [hop']; intro h; cases h
        obtain ⟨hc, hok⟩ := cop_ok hne
        rw [hc] at hop'
        obtain ⟨c, g, ho, hcal, rfl, hargs⟩ := cop_callv hop'
        have hgl : (copd g).ok = true := hok g (by rw [ho]; simp [Op.operands, Call.operands, hcal])
        have hgr := eval_rel s.tmps hgl
        rw [nval_toF, hf] at hgr
        simp only [VRel] at hgr
        obtain ⟨u, v, hgv, hu, hv'⟩ := hgr
        have hu0 : u = #[] := by apply Array.toList_inj.1; simpa [VRels] using hu
        have hv0 : v = #[] := by apply Array.toList_inj.1; simpa [VRels] using hv'
        subst hu0; subst hv0
        obtain ⟨z, hz⟩ : ∃ z, c.args = #[z] := by
          cases hl' : c.args.toList with
          | nil => rw [hl'] at hargs; simp at hargs
          | cons z r =>
            rw [hl'] at hargs
            simp only [List.map_cons, List.cons.injEq] at hargs
            have : r = [] := by
              have := hargs.2
              cases r with
              | nil => rfl
              | cons _ _ => simp at this
            subst this
            exact ⟨z, by apply Array.toList_inj.1; rw [hl']⟩
        have hyy : yy = copd z := by rw [hz] at hargs; simpa using hargs
        subst hyy
        have hzl : (copd z).ok = true := hok z (by rw [ho]; simp [Op.operands, Call.operands, hcal, hz])
        have hzr := eval_rel s.tmps hzl
        rw [nval_toF] at hzr
        obtain ⟨hi, hv⟩ := List.getElem?_eq_some_iff.1 hv
        rw [← hv] at hzr
        obtain ⟨xC, xI⟩ := x
        subst xC
        obtain ⟨fn, tmps, as, bd, y1, y2⟩ := hY i h φ w (a.eval z) hi xI le s.rel hzr
        unfold wpListIn
        rw [hw]
        rw [if_pos (by simp [nwanted])]
        refine ⟨fun _ _ => trivial, ?_⟩
        rw [show Fence.wide.round = none from rfl, Oper.semAt_none]
        have hrun : (execOp a.eval o).run E.P w = .ok (.round X.l fn tmps as bd) w := by
          rw [← y1]
          obtain ⟨dst, op, ty, pos, after, guard⟩ := o
          simp only at ho
          subst ho
          simp [execOp, resolve, hcal, hgv, Deferred.ofValue, invoke, hz]
        rw [hrun]
        refine ⟨fun hh => by simp [Fence.wide] at hh, ?_⟩
        have hlow : lowD F.length o.dst = true := by rw [hn, ← coper_dst (P := E.P) (ops := ops)]; exact hl.1
        refine RoundIn.mono y2 ?_
        rintro e3 w3 (⟨rfl, φ2, h2, le2, r2, i2⟩ | ⟨rfl, C2, φ2, h2, cd, le2, r2, d2⟩)
        · have e1 := e1 h2 (hI _ _ i2)
          rw [coper_dst, ← toF_nput hlow] at e1
          exact sim_yops hI hY hD hx l ⟨put_rel s.tmps le2 (by simp [VRel]) o.dst, by rw [put_defers]; exact s.defers, r2⟩ (le.trans le2) (show X.at (some (i + 1)) X.C h2 from ⟨rfl, i2⟩) hl.2 (by rw [nput_length]; exact hn) e1 hq
        · have e2 := e2 h2
          rw [coper_dst, ← toF_nput hlow] at e2
          exact sim_yops hI hY hD hx l ⟨put_rel s.tmps le2 (by simp [VRel]) o.dst, by rw [put_defers, s.defers, hD, cd], r2⟩ (le.trans le2) (show X.at none C2 h2 from ⟨cd, d2⟩) hl.2 (by rw [nput_length]; exact hn) e2 hq
      · exact e.elim
    · have s0 := s.re
      have key := sim_fops (E := E) (ops := ops) (QX := fun e a w => match e with | .normal => wpListIn Fence.wide 0 E.P ops QX l a w | e => QX e a w) [o] s0 (by simpa using hl.1) hn e (fun φ' F' h' a' w' hn' hk s' => by
        obtain ⟨rfl, hk⟩ := hk
        exact sim_yops hI hY hD hx l (s'.un (s.rel.anchor.trans s'.rel.anchor)) (le.trans s'.rel.anchor) x hl.2 hn' hk hq)
      unfold wpList at key
      unfold wpListIn
      split at key
      · rename_i hw
        rw [if_pos hw]
        rcases key with key | ⟨_, key⟩
        · exact oper_wide (fun _ _ _ h => h) (fun h => h) key
        · exact absurd key hx
      · rename_i hw
        rw [if_neg hw]
        exact ⟨fun _ _ => trivial, key⟩

theorem ypost_lets {X : ICx} {K : YK} : ¬ LetsOut (YPost X K) := by
  rintro ⟨a, w, m, c, F, h, φ, C, e, _⟩
  cases c <;> cases e

/-- The code of an iterator. -/
theorem nty_of_ywp {E : Env} {n : Nat} {X : ICx} {Keep : Heap → Prop} (hm : E.P.follows .mixedOrders = true) (hI : ∀ i h, X.I i h → Keep h) (hY : Yields E.P X) (hD : X.C.D = []) : ∀ (c : Code) {m : Option Nat} {F : List NV} {h : Heap} {K : FYK}, wfs n (ccode E.P c) = true → F.length = n → ywp E X.l X.vals Keep (ccode E.P c) K m (toF F) h → NTY E.P X m c F h (fun m c F h => F.length = n ∧ K m c (toF F) h)
  | .skip, m, F, h, K, _, hn, e => fun C φ a w s le x => wp_skip ⟨m, .nrm, F, h, φ, C, rfl, ⟨hn, e⟩, s, le, x⟩
  | .label _, m, F, h, K, _, hn, e => fun C φ a w s le x => wp_label ⟨m, .nrm, F, h, φ, C, rfl, ⟨hn, e⟩, s, le, x⟩
  | .region id ops d, m, F, h, K, hw, hn, e => by
    cases d with
    | false =>
      by_cases hy : (ops.toList.map (coper E.P ops)).all notY = true
      · refine NTY.plain (m := m) ((nt_of_fwp hm (.region id ops false) (K := fun c F' h' => h' = h ∧ K m c F' h') hw hn ?_).mono ?_)
        · unfold ccode cregion at e ⊢
          simp only [Bool.false_eq_true, if_false] at e ⊢
          unfold ywp at e
          rw [if_pos hy] at e
          exact e
        · rintro c F h' ⟨h1, h2, h3⟩
          exact ⟨h2, h1, h3⟩
      unfold ccode cregion at e hw
      intro C φ a w s le x
      simp only [Bool.false_eq_true, if_false] at e hw
      unfold ywp at e
      rw [if_neg hy] at e
      refine wpIn_wide.1 (wpIn_region_list (n := 0) ?_)
      exact sim_yops hI hY hD ypost_lets ops.toList s le x hw hn e fun m C φ' F' h' a' w' hn' hk s' le' x' => ⟨m, .nrm, F', h', φ', C, rfl, ⟨hn', hk⟩, s', le', x'⟩
    | true =>
      refine NTY.plain (m := m) ((nt_of_fwp hm (.region id ops true) (K := fun c F' h' => h' = h ∧ K m c F' h') hw hn ?_).mono ?_)
      · unfold ccode cregion at e ⊢
        simp only [if_true] at e ⊢
        split at e
        · rename_i hk; rw [if_pos hk]; exact e
        · exact e.elim
      · rintro c F h' ⟨h1, h2, h3⟩
        exact ⟨h2, h1, h3⟩
  | .seq x y, m, F, h, K, hw, hn, e => by
    simp only [ccode, wfs, Bool.and_eq_true] at hw
    refine NTY.seq ((nty_of_ywp hm hI hY hD x hw.1 hn e).mono ?_)
    intro m c F h hc
    cases c with
    | nrm => exact nty_of_ywp hm hI hY hD y hw.2 hc.1 hc.2
    | exit id => exact hc
    | ret => exact hc
  | .cond c x y, m, F, h, K, hw, hn, e => by
    unfold ccode at e hw
    split at e
    · rename_i hok
      rw [if_pos hok] at hw
      simp only [wfs, Bool.and_eq_true] at hw
      simp only [ywp] at e
      rw [← nval_toF] at e
      split at e
      · rename_i hb; exact NTY.cond hok hb (nty_of_ywp hm hI hY hD x hw.1 hn e)
      · rename_i hb; exact NTY.cond hok hb (nty_of_ywp hm hI hY hD y hw.2 hn e)
      · exact e.elim
    · exact e.elim
  | .block id x, m, F, h, K, hw, hn, e => by
    refine NTY.block ((nty_of_ywp hm hI hY hD x hw hn e).mono ?_)
    intro m c F h hc
    cases c with
    | nrm => exact hc
    | exit i =>
      obtain ⟨h1, hc⟩ := hc
      simp only at hc ⊢
      split at hc <;> rename_i hi <;> simp only [hi, if_true, if_false] <;> exact ⟨h1, hc⟩
    | ret => exact hc
  | .loop x, m, F, h, K, hw, hn, e => by
    obtain ⟨j, e⟩ := e
    refine NTY.loop (fun j m F h => F.length = n ∧ yrounds (ywp E X.l X.vals Keep (ccode E.P x)) K j m (toF F) h) ?_ ⟨hn, e⟩
    intro j m F h hI'
    cases j with
    | zero => exact hI'.2.elim
    | succ j =>
      refine (nty_of_ywp hm hI hY hD x hw hI'.1 hI'.2).mono ?_
      intro m c F h hc
      cases c with
      | nrm => exact ⟨j, Nat.lt_succ_self j, hc⟩
      | exit id => exact hc
      | ret => exact hc
  | .exit id, m, F, h, K, _, hn, e => fun C φ a w s le x => wp_exit ⟨m, .exit id, F, h, φ, C, rfl, ⟨hn, e⟩, s, le, x⟩
  | .ret, m, F, h, K, _, hn, e => fun C φ a w s le x => wp_ret ⟨m, .ret, F, h, φ, C, rfl, ⟨hn, e⟩, s, le, x⟩
  | .scope c, m, F, h, K, hw, hn, e => fun C φ a w s le x => by
    apply wp_scope_straight
    refine wp_mono (nty_of_ywp hm hI hY hD c hw hn e C φ a w s le x) ?_
    rintro e a w ⟨m, c, F, h, φ, C, rfl, e2, e3⟩
    cases c <;> exact ⟨m, _, F, h, φ, C, rfl, e2, e3⟩
  | .goto _, m, F, h, K, _, _, e => e.elim
  | .rangeFunc g ps a b, m, F, h, K, hw, _, e => by
    rcases ccode_range E.P g ps a b with hc | ⟨p, _, _, _, _, hc⟩
    · rw [hc] at e; exact e.elim
    · rw [hc] at hw; cases hw
  | .refuse _, m, F, h, K, _, _, e => e.elim

/-- At an iterator's end. -/
def yend (n : Nat) : FYK := fun m c _ _ => (∀ i, c ≠ .exit i) ∧ (m = none ∨ m = some n)

/-- An iterator, by its translated code. -/
theorem iter_of_ywp (E : Env) (hm : E.P.follows .mixedOrders = true) {f : Nat} {fn : NFn} (hcf : cfn E.P f = fn) (hres : fn.res = []) {caps vals : List NV} {Keep : Heap → Prop} (hw : (wfs fn.ntmps fn.body && decide (caps.length + 1 ≤ fn.ntmps)) = true)
    (e : ∀ l h, Keep h → ywp E l vals Keep fn.body (yend vals.length) (some 0) (toF (.func (.yield l) [] [] :: caps)) h) : Iter E.P f caps vals Keep := by
  subst hcf
  simp only [Bool.and_eq_true, decide_eq_true_eq] at hw
  intro l C φ w h vc I Dn hvc r hI0 hI hY
  have e := e l h (hI 0 h hI0)
  have key : ∃ fn c, E.P.funcs[f]? = some fn ∧ fn.body = some c ∧ cfn E.P f = ⟨fn.ntmps, fn.results.toList.map (cres E.P), ccode E.P c⟩ := by
    unfold cfn at e
    split at e
    · rename_i fn hfn
      split at e
      · rename_i c hc
        exact ⟨fn, c, hfn, hc, by unfold cfn; simp only [hfn, hc]⟩
      · exact e.elim
    · exact e.elim
  obtain ⟨fn, c, hfn, hc, hcf⟩ := key
  rw [hcf] at e hw hres
  have hr0 : fn.results = #[] := by apply Array.toList_inj.1; simpa using hres
  let C' : Cx := { C with D := [] }
  let X : ICx := { l := l, C := C', φ := φ, vals := vals, I := I, Dn := Dn }
  have rr : ∀ {φ w h}, Rel C φ w h → Rel C' φ w h := fun r => ⟨r.blk, r.lt, r.dom, r.inj, r.keep, r.away, r.anchor, r.os, r.tape, r.output, r.grow, r.resv, r.far⟩
  have ru : ∀ {φ w h}, Rel C' φ w h → Rel C φ w h := fun r => ⟨r.blk, r.lt, r.dom, r.inj, r.keep, r.away, r.anchor, r.os, r.tape, r.output, r.grow, r.resv, r.far⟩
  have hYX : Yields E.P X := by
    intro i h φ' w' v hi i0 le r' hv
    obtain ⟨fn, tmps, as, bd, y1, y2⟩ := hY i h φ' w' v hi i0 le (ru r') hv
    refine ⟨fn, tmps, as, bd, y1, RoundIn.mono y2 ?_⟩
    rintro e w2 (⟨h1, φ2, h2, h3, h4, h5⟩ | h)
    · exact .inl ⟨h1, φ2, h2, h3, rr h4, h5⟩
    · exact .inr h
  have hvl : VRels φ (NV.func (.yield l) [] [] :: caps) (#[Value.func (.yield l) #[] #[]] ++ vc).toList := by
    rw [Array.toList_append]
    exact ⟨_, _, rfl, by simp [VRel, VRels], hvc⟩
  have hlen := hvl.length
  have s0 : Sim C' φ (nenter fn.ntmps (NV.func (.yield l) [] [] :: caps)) h { tmps := (#[Value.func (.yield l) #[] #[]] ++ vc) ++ Array.replicate (fn.ntmps - (#[Value.func (.yield l) #[] #[]] ++ vc).size) undef, defers := [] } w := by
    refine ⟨?_, rfl, rr r⟩
    simp only [Array.toList_append, Array.toList_replicate, nenter]
    simp only [Array.length_toList] at hlen
    rw [hlen]
    refine VRels.append (by rw [← Array.toList_append]; exact hvl) ?_
    have : ∀ n, VRels φ (List.replicate n nundef) (List.replicate n undef) := by
      intro n
      induction n with
      | zero => rfl
      | succ n ih => exact ⟨undef, _, rfl, VRel.undef, ih⟩
    exact this _
  have t := nty_of_ywp (X := X) (n := fn.ntmps) hm hI hYX rfl c (m := some 0) (F := nenter fn.ntmps (.func (.yield l) [] [] :: caps)) (h := h) (K := yend vals.length) hw.1 (by simp [nenter]; have := hw.2; simp only at this; omega) (by rw [toF_enter]; exact e)
  refine callsIn_wide.2 (calls_of_wp hfn hc (wp_mono (t C' φ _ w s0 (PMap.le.refl φ) ⟨rfl, hI0⟩) ?_))
  rintro ex a' w' ⟨m, ct, F', h', φ', C2, rfl, ⟨_, hk1, hk2⟩, s', le, x⟩
  have hrun : ∃ v, (results fn a'.tmps).run E.P w' = .ok v w' := by
    obtain ⟨u, hu, _⟩ := results_rel (P := E.P) s' (fn := fn) (nv := .tup []) (by rw [hr0]; rfl)
    exact ⟨u, hu⟩
  obtain ⟨v, hv⟩ := hrun
  have fin : a'.defers = [] ∧ ∃ v, (results fn a'.tmps).run E.P w' = .ok v w' ∧ (∃ u, (Ending.returned v) = .returned u) ∧ ((∃ φ'' h'', φ.le φ'' ∧ Rel C φ'' w' h'' ∧ I vals.length h'') ∨ ∃ C' φ'' h'', φ.le φ'' ∧ Rel C' φ'' w' h'' ∧ Dn C' h'') := by
    rcases hk2 with rfl | rfl
    · obtain ⟨x1, x2⟩ := x
      exact ⟨by rw [s'.defers, x1], v, hv, ⟨v, rfl⟩, .inr ⟨C2, φ', h', le, s'.rel, x2⟩⟩
    · obtain ⟨x1, x2⟩ := x
      subst x1
      exact ⟨s'.defers, v, hv, ⟨v, rfl⟩, .inl ⟨φ', h', le, ru s'.rel, x2⟩⟩
  cases ct with
  | nrm => exact fin
  | ret => exact fin
  | exit id => exact absurd rfl (hk1 id)

theorem fops_mono' {S : Env} : ∀ (os : List NOper) {F : FF} {h : Heap} {K K' : FF → Heap → Prop}, fops S os F h K → (∀ F h, K F h → K' F h) → fops S os F h K'
  | [], F, h, K, K', e, hk => hk _ _ e
  | o :: os, F, h, K, K', e, hk => by
    simp only [fops] at e ⊢
    split at e
    · rename_i hw; rw [if_pos hw]; exact xop_mono (fun v h e => fops_mono' os e hk) e
    · rename_i hw; rw [if_neg hw]; exact fops_mono' os e hk

section
variable {S : Env} {l : Nat} {vals : List NV} {Keep : Heap → Prop}
theorem yops_mono : ∀ (os : List NOper) {m : Option Nat} {F : FF} {h : Heap} {k k' : Option Nat → FF → Heap → Prop}, yops S l vals Keep k os m F h → (∀ m F h, k m F h → k' m F h) → yops S l vals Keep k' os m F h
  | [], m, F, h, k, k', e, hk => hk _ _ _ e
  | o :: os, m, F, h, k, k', e, hk => by
    unfold yops at e ⊢
    split at e
    · split at e
      · rename_i x y _ hop j hf
        obtain ⟨hj, i, h1, h2, h3, h4⟩ := e
        exact ⟨hj, i, h1, h2, fun h' hh => yops_mono os (h3 h' hh) hk, fun h' => yops_mono os (h4 h') hk⟩
      · exact e.elim
    · exact fops_mono' _ e fun F h ⟨h1, h2⟩ => ⟨h1, yops_mono os h2 hk⟩
theorem ywp_mono : ∀ (c : NCode) {K K' : FYK} {m : Option Nat} {F : FF} {h : Heap}, ywp S l vals Keep c K m F h → (∀ m c F h, K m c F h → K' m c F h) → ywp S l vals Keep c K' m F h
  | .skip, K, K', m, F, h, e, hk => hk _ _ _ _ e
  | .ops os, K, K', m, F, h, e, hk => by
    unfold ywp at e ⊢
    split at e
    · rename_i hy; rw [if_pos hy]; exact fops_mono' os e fun _ _ ⟨h1, h2⟩ => ⟨h1, hk _ _ _ _ h2⟩
    · rename_i hy; rw [if_neg hy]; exact yops_mono os e fun _ _ _ h => hk _ _ _ _ h
  | .draw n ds, K, K', m, F, h, e, hk => edraw_mono (fun F h ⟨h1, h2⟩ => ⟨h1, hk _ _ _ _ h2⟩) e
  | .seq a b, K, K', m, F, h, e, hk => ywp_mono a e fun m c F h hc => by
    cases c with
    | nrm => exact ywp_mono b hc hk
    | exit id => exact hk _ _ _ _ hc
    | ret => exact hk _ _ _ _ hc
  | .cond x a b, K, K', m, F, h, e, hk => by
    simp only [ywp] at e ⊢
    split at e
    · exact ywp_mono a e hk
    · exact ywp_mono b e hk
    · exact e.elim
  | .block id a, K, K', m, F, h, e, hk => ywp_mono a e fun m c F h hc => by
    cases c with
    | nrm => exact hk _ _ _ _ hc
    | exit i =>
      simp only at hc ⊢
      split at hc <;> rename_i hi
      · rw [if_pos hi]; exact hk _ _ _ _ hc
      · rw [if_neg hi]; exact hk _ _ _ _ hc
    | ret => exact hk _ _ _ _ hc
  | .loop c, K, K', m, F, h, ⟨n, e⟩, hk => by
    refine ⟨n, ?_⟩
    induction n generalizing m F h with
    | zero => exact e
    | succ n ih =>
      refine ywp_mono c e fun m c F h hc => ?_
      cases c with
      | nrm => exact ih _ _ _ hc
      | exit id => exact hk _ _ _ _ hc
      | ret => exact hk _ _ _ _ hc
  | .exit id, K, K', m, F, h, e, hk => hk _ _ _ _ e
  | .ret, K, K', m, F, h, e, hk => hk _ _ _ _ e
  | .rangeF .., K, K', m, F, h, e, hk => e.elim
  | .fail, K, K', m, F, h, e, hk => e.elim

/-! ### Stepping -/
def yseqK (S : Env) (l : Nat) (vals : List NV) (Keep : Heap → Prop) (b : NCode) (K : FYK) : FYK := fun m c F h => match c with | .nrm => ywp S l vals Keep b K m F h | c => K m c F h
def yblockK (id : Nat) (K : FYK) : FYK := fun m c F h => match c with | .exit i => if i = id then K m .nrm F h else K m (.exit i) F h | c => K m c F h
def yloopK (J : Option Nat → FF → Heap → Prop) (K : FYK) : FYK := fun m c F h => match c with | .nrm => J m F h | c => K m c F h
variable {K : FYK} {m : Option Nat} {F : FF} {h : Heap} {a b c : NCode} {id i : Nat}
theorem yw_skip : ywp S l vals Keep .skip K m F h = K m .nrm F h := (rfl)
theorem yw_seq : ywp S l vals Keep (.seq a b) K m F h = ywp S l vals Keep a (yseqK S l vals Keep b K) m F h := (rfl)
theorem yw_block : ywp S l vals Keep (.block id a) K m F h = ywp S l vals Keep a (yblockK id K) m F h := (rfl)
theorem yw_exit : ywp S l vals Keep (.exit id) K m F h = K m (.exit id) F h := (rfl)
theorem yw_ret : ywp S l vals Keep .ret K m F h = K m .ret F h := (rfl)
theorem yw_cond {x : NOpd} : ywp S l vals Keep (.cond x a b) K m F h = condK (fval F x) (ywp S l vals Keep a K m F h) (ywp S l vals Keep b K m F h) .mk := (rfl)
theorem yseqK_nrm : yseqK S l vals Keep b K m .nrm F h = ywp S l vals Keep b K m F h := (rfl)
theorem yseqK_exit : yseqK S l vals Keep b K m (.exit i) F h = K m (.exit i) F h := (rfl)
theorem yseqK_ret : yseqK S l vals Keep b K m .ret F h = K m .ret F h := (rfl)
theorem yblockK_nrm : yblockK id K m .nrm F h = K m .nrm F h := (rfl)
theorem yblockK_ret : yblockK id K m .ret F h = K m .ret F h := (rfl)
theorem yblockK_same : yblockK id K m (.exit id) F h = K m .nrm F h := by simp [yblockK]
theorem yblockK_other (hi : i ≠ id) : yblockK id K m (.exit i) F h = K m (.exit i) F h := by simp [yblockK, hi]
theorem yloopK_nrm {J : Option Nat → FF → Heap → Prop} : yloopK J K m .nrm F h = J m F h := (rfl)
theorem yloopK_exit {J : Option Nat → FF → Heap → Prop} : yloopK J K m (.exit i) F h = K m (.exit i) F h := (rfl)
theorem yloopK_ret {J : Option Nat → FF → Heap → Prop} : yloopK J K m .ret F h = K m .ret F h := (rfl)
/-- A region without a yield. -/
theorem yw_ops {os : List NOper} (hn : os.all notY = true) : ywp S l vals Keep (.ops os) K m F h = fopsT S os F h (fun F h' => h' = h ∧ K m .nrm F h') .mk := by
  show (if os.all notY then _ else _) = _
  rw [if_pos hn]; rfl
/-- A region that yields. -/
theorem yw_yops {os : List NOper} (hn : os.all notY = false) : ywp S l vals Keep (.ops os) K m F h = yops S l vals Keep (fun m F h => K m .nrm F h) os m F h := by
  show (if os.all notY then _ else _) = _
  rw [if_neg (by simp [hn])]
theorem yo_nil {k : Option Nat → FF → Heap → Prop} : yops S l vals Keep k [] m F h = k m F h := (rfl)
theorem yo_op {k : Option Nat → FF → Heap → Prop} {o : NOper} {os : List NOper} (hn : notY o = true) : yops S l vals Keep k (o :: os) m F h = fopsT S [o] F h (fun F h' => h' = h ∧ yops S l vals Keep k os m F h') .mk := by
  unfold yops
  split
  · rename_i hg hop
    unfold notY at hn
    rw [hop] at hn
    cases hn
  · rfl
theorem yo_yield {k : Option Nat → FF → Heap → Prop} {d : Option Nat} {x y : NOpd} {os : List NOper} {i : Nat} (hx : fval F x = .func (.yield l) [] []) (hv : vals[i]? = some (fval F y))
    (h1 : ∀ h', Keep h' → yops S l vals Keep k os (some (i + 1)) (fput F d (.bool true)) h') (h2 : ∀ h', yops S l vals Keep k os none (fput F d (.bool false)) h') : yops S l vals Keep k (⟨d, .callv x [y], none⟩ :: os) (some i) F h := by
  unfold yops
  simp only [hx]
  exact ⟨trivial, i, rfl, hv, h1, h2⟩
theorem yw_draw {n : Nat} {ds : List DOper} : ywp S l vals Keep (.draw n ds) K m F h = fwpT S (.draw n ds) (fun c F h' => h' = h ∧ K m c F h') F h .mk := (rfl)
theorem yw_loop (J : Nat → FF → Heap → Prop) (N : Nat) (h0 : J 0 F h) (hs : ∀ j F h, j < N → J j F h → ywp S l vals Keep c (yloopK (fun m F h => m = some (j + 1) ∧ J (j + 1) F h) K) (some j) F h)
    (he : ∀ F h, J N F h → ywp S l vals Keep c (yloopK (fun _ _ _ => False) K) (some N) F h) : ywp S l vals Keep (.loop c) K (some 0) F h := by
  refine ⟨N + 1, ?_⟩
  have key : ∀ n j F h, j + n = N → J j F h → yrounds (ywp S l vals Keep c) K (n + 1) (some j) F h := by
    intro n
    induction n with
    | zero =>
      intro j F h hj hI
      have : j = N := by omega
      subst this
      refine ywp_mono c (he F h hI) fun m c F h hc => ?_
      cases c with
      | nrm => exact hc.elim
      | exit id => exact hc
      | ret => exact hc
    | succ n ih =>
      intro j F h hj hI
      refine ywp_mono c (hs j F h (by omega) hI) fun m c F h hc => ?_
      cases c with
      | nrm =>
        obtain ⟨rfl, hc⟩ := hc
        exact ih (j + 1) F h (by omega) hc
      | exit id => exact hc
      | ret => exact hc
  exact key N 0 F h (by omega) h0
end

/-! ### A range over a function -/
def rngA (S : Env) (b : NCode) (K : FK) : FK := fun c F h => match c with | .nrm => fwp S b K F h | _ => False
def rngB (J : Heap → Prop) (K : FK) (F0 : FF) : FK := fun c _ h => match c with | .nrm => J h | c => K c F0 h
section
variable {S : Env} {K : FK} {F F0 : FF} {h : Heap} {a b : NCode} {J : Heap → Prop} {i : Nat}
theorem rngA_nrm : rngA S b K .nrm F h = fwpT S b K F h .mk := (rfl)
theorem rngB_nrm : rngB J K F0 .nrm F h = J h := (rfl)
theorem rngB_exit : rngB J K F0 (.exit i) F h = K (.exit i) F0 h := (rfl)
theorem rngB_ret : rngB J K F0 .ret F h = K .ret F0 h := (rfl)
/-- The rounds, by what holds ahead of each. -/
theorem wrange {g : NOpd} {p f : Nat} {caps vals : List NV} {Keep : Heap → Prop} (J : Nat → Heap → Prop) (hg : fval F g = .func (.func f) [] caps) (hf : goodFn S.P f = true) (it : Iter S.P f caps vals Keep) (h0 : J 0 h) (hk : ∀ i h, i ≤ vals.length → J i h → Keep h)
    (hs : ∀ i h (hi : i < vals.length), J i h → fwpT S a (rngA S b (rngB (J (i + 1)) K F)) (upd F p vals[i]) h .mk) (he : ∀ h, J vals.length h → K .nrm F h) {t} : fwpT S (.rangeF g p a b) K F h t := by
  refine ⟨f, caps, vals, Keep, hg, hf, it, ?_⟩
  have key : ∀ n i h, i + n = vals.length → J i h → frange (fun K F h => fwp S a (fun c F h => match c with | .nrm => fwp S b K F h | _ => False) F h) p F Keep K (vals.drop i) h := by
    intro n
    induction n with
    | zero =>
      intro i h hi hJ
      have : i = vals.length := by omega
      subst this
      rw [List.drop_of_length_le (Nat.le_refl _)]
      exact ⟨hk _ _ (Nat.le_refl _) hJ, he h hJ⟩
    | succ n ih =>
      intro i h hi hJ
      have hl : i < vals.length := by omega
      rw [List.drop_eq_getElem_cons hl]
      refine ⟨hk _ _ (by omega) hJ, fwp_mono a (hs i h hl hJ) ?_⟩
      intro c F1 h1 hc
      cases c with
      | nrm =>
        refine fwp_mono b hc ?_
        intro c F2 h2 hc
        cases c with
        | nrm => exact ih (i + 1) h2 (by omega) hc
        | exit id => exact hc
        | ret => exact hc
      | exit id => exact hc.elim
      | ret => exact hc.elim
  have := key vals.length 0 h (by omega) h0
  rwa [List.drop_zero] at this
end

/-! ### Parts of a code -/
def NCode.a1 : NCode → NCode | .seq a _ => a | c => c
def NCode.a2 : NCode → NCode | .seq _ b => b | c => c
theorem fwp_cutJ {S : Env} {a : NCode} {K : FK} {F : FF} {h : Heap} (J : FF → Heap → Prop) (h1 : fwpT S a (joinK J) F h .mk) (h2 : ∀ F h, J F h → K .nrm F h) : fwpT S a K F h .mk := by
  refine fwp_mono a h1 ?_
  intro c F h hc
  cases c with
  | nrm => exact h2 F h hc
  | exit i => exact hc.elim
  | ret => exact hc.elim
end Go.Ns
