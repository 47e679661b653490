/- Code in the frame of a round (the body of a range over a function): the abstract run answers there as elsewhere. -/
import Derived.Test.YtiiopgancdgioaaNsR
import Derived.OrdersIn
import Derived.TacticsIn
import Derived.LoopNIn
import Derived.RangeFuncIn
import Derived.RangeFuncRecord
import Derived.RangeFuncLeaves
set_option linter.unusedVariables false
set_option linter.unusedSimpArgs false
namespace Go.Ns

theorem npost_lets {C : Cx} {K : NK} : ¬ LetsOut (NPost C K) := by
  rintro ⟨a, w, c, F, h, φ, e, _⟩
  cases c <;> cases e

theorem noDef_ne {o : Oper} (h : noDef o = true) : ∀ c, o.op ≠ .defer c := by
  intro c e
  unfold noDef at h
  rw [e] at h
  cases h
abbrev rnd (l : Nat) : Fence := Fence.wide.inRound l

section
variable {P : Program} {l n : Nat} {Q : Exit → Act → World → Prop}

theorem rowsIn_wide {n : Nat} {P : Program} {row : String} {args : Array Value} {w : World} {R : Value → World → Prop} : RowsIn Fence.wide n P row args w R ↔ Rows P row args w R :=
  ⟨fun h c cs => let ⟨v, w', r, s⟩ := h c cs (room_wide _); ⟨v, w', r, stepsIn_wide.1 s⟩, fun h c cs _ => let ⟨v, w', r, s⟩ := h c cs; ⟨v, w', r, stepsIn_wide.2 s⟩⟩
theorem oper_round {o : Oper} {a : Act} {w : World} {K : Act → World → Prop} (hd : noDef o = true) (h : o.wp P a w K Q) : o.wpIn (rnd l) n P a w K Q := by
  refine ⟨fun _ _ => trivial, ?_⟩
  rw [show (rnd l).round = some l from rfl, Oper.semAt_some l _ _ (noDef_ne hd)]
  unfold Oper.wp at h
  generalize (execOp a.eval o).run P w = r at *
  cases r with
  | ok x w' =>
    cases x <;> simp only [Oper.upon, Oper.uponIn] at h ⊢ <;>
      first
        | exact h
        | exact ⟨fun hh => by simp [Fence.wide, Fence.inRound] at hh, callsIn_wide.2 h⟩
        | exact ⟨fun hh => by simp [Fence.wide, Fence.inRound] at hh, rowsIn_wide.2 h⟩
  | halt x w' => cases x <;> simp only [Oper.upon, Oper.uponIn] at h ⊢ <;> exact h

theorem list_round (hq : ¬ LetsOut Q) {ops : Array Oper} : ∀ (os : List Oper) {a : Act} {w : World}, os.all noDef = true → wpList P ops Q os a w → wpListIn (rnd l) n P ops Q os a w
  | [], a, w, _, h => h
  | o :: os, a, w, hd, h => by
    simp only [List.all_cons, Bool.and_eq_true] at hd
    unfold wpList at h
    unfold wpListIn
    split
    · rename_i hw
      rw [if_pos hw] at h
      rcases h with h | ⟨_, h⟩
      · exact oper_round hd.1 (Oper.wp_mono (fun a w k => list_round hq os hd.2 k) h)
      · exact absurd h hq
    · rename_i hw
      rw [if_neg hw] at h
      exact ⟨fun _ _ => trivial, list_round hq os hd.2 h⟩

theorem any_round (hq : ¬ LetsOut Q) {ops : Array Oper} (hd : ops.toList.all noDef = true) : ∀ (fuel : Nat) (listed : Array Bool) (a : Act) (w : World), wpAny P .any ops Q fuel listed a w → wpAnyIn (rnd l) n P .any ops Q fuel listed a w
  | 0, _, _, _, h => h
  | fuel + 1, listed, a, w, h => by
    refine ⟨h.1, fun i hi => ?_⟩
    have h := h.2 i hi
    unfold wpOp at h
    unfold wpOpIn
    split
    · rename_i ho; rw [ho] at h; exact any_round hq hd fuel _ _ _ h
    · rename_i o ho
      rw [ho] at h
      simp only at h
      split
      · rename_i hw
        rw [if_pos hw] at h
        rcases h with h | ⟨_, h⟩
        · have hdo : noDef o = true := List.all_eq_true.1 hd o (by
            have := Array.getElem?_toList (xs := ops) (i := i)
            rw [ho] at this
            exact List.mem_of_getElem? this)
          exact oper_round hdo (Oper.wp_mono (fun a w k => any_round hq hd fuel _ _ _ k) h)
        · exact absurd h hq
      · rename_i hw
        rw [if_neg hw] at h
        exact ⟨fun _ _ => trivial, any_round hq hd fuel _ _ _ h⟩
end

/-- A piece of code in a round, from an abstract state. -/
def NTr (l : Nat) (P : Program) (c : Code) (F : List NV) (h : Heap) (K : NK) : Prop :=
  ∀ (C : Cx) (φ : PMap) (a : Act) (w : World) (n : Nat), Sim C φ F h a w → c.wpIn (rnd l) n P (NPost C K) a w

section
variable {P : Program} {l : Nat}

theorem NTr.mono {c : Code} {F : List NV} {h : Heap} {K K' : NK} (t : NTr l P c F h K) (hk : ∀ c F h, K c F h → K' c F h) : NTr l P c F h K' :=
  fun C φ a w n s => wpIn_mono (t C φ a w n s) fun e a w ⟨c, F, h, φ, e1, e2, e3⟩ => ⟨c, F, h, φ, e1, hk _ _ _ e2, e3⟩

theorem NTr.seq {x y : Code} {F : List NV} {h : Heap} {K : NK} (t : NTr l P x F h fun c F h => match c with | .nrm => NTr l P y F h K | c => K c F h) : NTr l P (.seq x y) F h K := by
  intro C φ a w n s
  apply wpIn_seq
  refine wpIn_mono (t C φ a w n s) ?_
  rintro e a w ⟨c, F, h, φ, rfl, e2, e3⟩
  cases c with
  | nrm => exact e2 C φ a w n e3
  | exit id => exact ⟨.exit id, F, h, φ, rfl, e2, e3⟩
  | ret => exact ⟨.ret, F, h, φ, rfl, e2, e3⟩

theorem NTr.cond {x : Operand} {p q : Code} {F : List NV} {h : Heap} {K : NK} (hok : (copd x).ok = true) {b : Bool} (hb : nval F (copd x) = .bool b) (t : NTr l P (if b then p else q) F h K) : NTr l P (.cond x p q) F h K := by
  intro C φ a w n s
  have := eval_rel s.tmps hok
  rw [hb] at this
  exact wpIn_cond this.bool (t C φ a w n s)

theorem NTr.block {id : Nat} {x : Code} {F : List NV} {h : Heap} {K : NK} (t : NTr l P x F h fun c F h => match c with | .exit i => if i = id then K .nrm F h else K (.exit i) F h | c => K c F h) : NTr l P (.block id x) F h K := by
  intro C φ a w n s
  apply wpIn_block
  refine wpIn_mono (t C φ a w n s) ?_
  rintro e a w ⟨c, F, h, φ, rfl, e2, e3⟩
  cases c with
  | nrm => exact ⟨.nrm, F, h, φ, rfl, e2, e3⟩
  | exit i =>
    simp only [Ctl.toExit, Exit.inBlock]
    simp only at e2
    split
    · rename_i hi
      rw [if_pos hi] at e2
      exact ⟨.nrm, F, h, φ, rfl, e2, e3⟩
    · rename_i hi
      rw [if_neg hi] at e2
      exact ⟨.exit i, F, h, φ, rfl, e2, e3⟩
  | ret => exact ⟨.ret, F, h, φ, rfl, e2, e3⟩

end

/-! ### A range over a function -/

/-- What an iterator function does: it yields values one after the other, as long as the rounds keep what it looks at. -/
def Iter (P : Program) (f : Nat) (caps : List NV) (vals : List NV) (Keep : Heap → Prop) : Prop :=
  ∀ (l : Nat) (C : Cx) (φ : PMap) (w : World) (h : Heap) (vc : Array Value) (I : Nat → Heap → Prop) (Dn : Cx → Heap → Prop),
    VRels φ caps vc.toList → Rel C φ w h → I 0 h → (∀ i h, I i h → Keep h) →
    (∀ (i : Nat) (h : Heap) (φ' : PMap) (w' : World) (v : Value) (hi : i < vals.length), I i h → φ.le φ' → Rel C φ' w' h → VRel φ' vals[i] v →
      ∃ fn tmps as bd, (Instr.yield l #[v]).run P w' = .ok (.round l fn tmps as bd) w' ∧
        RoundIn Fence.wide 0 P l fn tmps as bd w' fun e w'' => (e = .returned (.bool true) ∧ ∃ φ'' h'', φ'.le φ'' ∧ Rel C φ'' w'' h'' ∧ I (i + 1) h'') ∨ (e = .returned (.bool false) ∧ ∃ C' φ'' h'', C'.D = [] ∧ φ'.le φ'' ∧ Rel C' φ'' w'' h'' ∧ Dn C' h'')) →
    CallsIn Fence.wide 0 P f (#[.func (.yield l) #[] #[]] ++ vc) w fun e w'' => (∃ v, e = .returned v) ∧ ((∃ φ'' h'', φ.le φ'' ∧ Rel C φ'' w'' h'' ∧ I vals.length h'') ∨ ∃ C' φ'' h'', φ.le φ'' ∧ Rel C' φ'' w'' h'' ∧ Dn C' h'')

theorem wide_calls {n m : Nat} {P : Program} {f : FuncId} {args : Array Value} {w : World} {R : Ending → World → Prop} (h : CallsIn Fence.wide n P f args w R) : CallsIn Fence.wide m P f args w R := callsIn_wide.2 (callsIn_wide.1 h)

/-- The context of the rounds: the record 'l' stands at 'o'. -/
def rcx (C : Cx) (W1 : World) (blk l : Nat) (G : PMap) (o : Obj) : Cx := { w0 := W1.putObj l o, X := C.X, G := G, N := C.N, Y := fun r => C.Y r ∨ r = blk ∨ r = l, D := [] }

section
variable {P : Program} {C : Cx} {W1 : World} {blk l : Nat} {G G' φ : PMap} {o o' : Obj} {w : World} {h : Heap}

theorem rcx_at (r : Rel (rcx C W1 blk l G o) φ w h) (hl : l < W1.heap.size) : w.heap[l]? = some o := by
  rw [(r.keep l (.inr (.inr (.inr rfl)))).1]
  exact World.putObj_heap_same hl
theorem rcx_blk (r : Rel (rcx C W1 blk l G o) φ w h) (hne : blk ≠ l) : w.heap[blk]? = W1.heap[blk]? := by
  rw [(r.keep blk (.inr (.inr (.inl rfl)))).1]
  exact World.putObj_heap_other hne
theorem rcx_G (r : Rel (rcx C W1 blk l G o) φ w h) (g : G'.le φ) : Rel (rcx C W1 blk l G' o) φ w h :=
  ⟨r.blk, r.lt, r.dom, r.inj, r.keep, r.away, g, r.os, r.tape, r.output, r.grow, r.resv, r.far⟩
/-- The record turns. -/
theorem rcx_turn (r : Rel (rcx C W1 blk l G o) φ w h) (hl : l < W1.heap.size) (hx : ¬ C.X l) (o' : Obj) : Rel (rcx C W1 blk l G o') φ (w.putObj l o') h := by
  have hlw : l < w.heap.size := by
    have := rcx_at r hl
    exact (Array.getElem?_eq_some_iff.1 this).1
  have hoth : ∀ k, k ≠ l → (w.putObj l o').heap[k]? = w.heap[k]? := fun k hk => World.putObj_heap_other hk
  refine ⟨fun b x p hb hp => ?_, fun b p hp => by rw [World.putObj_size]; exact r.lt b p hp, r.dom, r.inj, fun k hk => ?_, r.away, r.anchor, r.os, r.tape, r.output, ?_, r.resv, r.far⟩
  · obtain ⟨ob, h1, h2⟩ := r.blk b x p hb hp
    have : p.rb ≠ l := fun e => r.far b x p hb hp (by rw [e]; exact .inr (.inr rfl))
    exact ⟨ob, by rw [hoth _ this]; exact h1, h2⟩
  · rw [World.putObj_size]
    obtain ⟨h1, h2⟩ := r.keep k hk
    refine ⟨?_, h2⟩
    show _ = (W1.putObj l o').heap[k]?
    by_cases e : k = l
    · subst e; rw [World.putObj_heap_same hlw, World.putObj_heap_same hl]
    · rw [hoth _ e, h1, World.putObj_heap_other e]
      show (W1.putObj l o).heap[k]? = _
      rw [World.putObj_heap_other e]
  · have := r.grow
    show (W1.putObj l o').heap.size ≤ (w.putObj l o').heap.size
    rw [World.putObj_size, World.putObj_size]
    have h2 : (W1.putObj l o).heap.size ≤ w.heap.size := this
    rw [World.putObj_size] at h2
    exact h2
end

/-- A context that a run has come to: one mark at most has been pushed. -/
structure CExt (C C' : Cx) : Prop where
  rel : ∀ φ w h, Rel C' φ w h → Rel C φ w h
  mark : C'.D = C.D ∨ (C.D = [] ∧ ∃ r, C'.D = [{ target := .collected r, args := #[] }] ∧ C'.Y r ∧ ¬ C.X r ∧ ¬ C.Y r ∧ C'.w0.heap[r]? = some (.deferred (some [])))
theorem CExt.refl {C : Cx} : CExt C C := ⟨fun _ _ _ r => r, .inl rfl⟩

def NPostD (C : Cx) (K : NK) (e : Exit) (a : Act) (w : World) : Prop := ∃ c F h φ C', CExt C C' ∧ e = c.toExit ∧ K c F h ∧ Sim C' φ F h a w
/-- A piece of code with a range over a function in it. -/
def NTD (P : Program) (c : Code) (F : List NV) (h : Heap) (K : NK) : Prop :=
  ∀ (C : Cx) (φ : PMap) (a : Act) (w : World), C.D = [] → Sim C φ F h a w → c.wp P (NPostD C K) a w

section
variable {P : Program}
theorem NTD.of {c : Code} {F : List NV} {h : Heap} {K : NK} (t : NT P c F h K) : NTD P c F h K :=
  fun C φ a w _ s => wp_mono (t C φ a w s) fun e a w ⟨c, F, h, φ, e1, e2, e3⟩ => ⟨c, F, h, φ, C, CExt.refl, e1, e2, e3⟩
theorem NTD.mono {c : Code} {F : List NV} {h : Heap} {K K' : NK} (t : NTD P c F h K) (hk : ∀ c F h, K c F h → K' c F h) : NTD P c F h K' :=
  fun C φ a w hD s => wp_mono (t C φ a w hD s) fun e a w ⟨c, F, h, φ, C', e0, e1, e2, e3⟩ => ⟨c, F, h, φ, C', e0, e1, hk _ _ _ e2, e3⟩
theorem NTD.seq1 {x y : Code} {F : List NV} {h : Heap} {K : NK} (t : NT P x F h fun c F h => match c with | .nrm => NTD P y F h K | c => K c F h) : NTD P (.seq x y) F h K := by
  intro C φ a w hD s
  apply wp_seq
  refine wp_mono (t C φ a w s) ?_
  rintro e a w ⟨c, F, h, φ, rfl, e2, e3⟩
  cases c with
  | nrm => exact e2 C φ a w hD e3
  | exit id => exact ⟨.exit id, F, h, φ, C, CExt.refl, rfl, e2, e3⟩
  | ret => exact ⟨.ret, F, h, φ, C, CExt.refl, rfl, e2, e3⟩
theorem NTD.seq2 {x y : Code} {F : List NV} {h : Heap} {K : NK} (t : NTD P x F h fun c F h => match c with | .nrm => NT P y F h K | c => K c F h) : NTD P (.seq x y) F h K := by
  intro C φ a w hD s
  apply wp_seq
  refine wp_mono (t C φ a w hD s) ?_
  rintro e a w ⟨c, F, h, φ, C', x, rfl, e2, e3⟩
  cases c with
  | nrm => exact wp_mono (e2 C' φ a w e3) fun e a w ⟨c, F, h, φ, e1, e2, e3⟩ => ⟨c, F, h, φ, C', x, e1, e2, e3⟩
  | exit id => exact ⟨.exit id, F, h, φ, C', x, rfl, e2, e3⟩
  | ret => exact ⟨.ret, F, h, φ, C', x, rfl, e2, e3⟩
theorem NTD.cond {x : Operand} {p q : Code} {F : List NV} {h : Heap} {K : NK} (hok : (copd x).ok = true) {b : Bool} (hb : nval F (copd x) = .bool b) (t : NTD P (if b then p else q) F h K) : NTD P (.cond x p q) F h K := by
  intro C φ a w hD s
  have := eval_rel s.tmps hok
  rw [hb] at this
  exact wp_cond this.bool (t C φ a w hD s)
theorem NTD.block {id : Nat} {x : Code} {F : List NV} {h : Heap} {K : NK} (t : NTD P x F h fun c F h => match c with | .exit i => if i = id then K .nrm F h else K (.exit i) F h | c => K c F h) : NTD P (.block id x) F h K := by
  intro C φ a w hD s
  apply wp_block
  refine wp_mono (t C φ a w hD s) ?_
  rintro e a w ⟨c, F, h, φ, C', e0, rfl, e2, e3⟩
  cases c with
  | nrm => exact ⟨.nrm, F, h, φ, C', e0, rfl, e2, e3⟩
  | exit i =>
    simp only [Ctl.toExit, Exit.inBlock]
    simp only at e2
    split
    · rename_i hi
      rw [if_pos hi] at e2
      exact ⟨.nrm, F, h, φ, C', e0, rfl, e2, e3⟩
    · rename_i hi
      rw [if_neg hi] at e2
      exact ⟨.exit i, F, h, φ, C', e0, rfl, e2, e3⟩
  | ret => exact ⟨.ret, F, h, φ, C', e0, rfl, e2, e3⟩

/-- A function whose body holds a range over a function. -/
theorem fun_of_ntd {f : Nat} {args : List NV} {h : Heap} {Q : NV × Heap → Prop} {fn : Func} {c : Code} (hfn : P.funcs[f]? = some fn) (hc : fn.body = some c)
    (e : NTD P c (nenter fn.ntmps args) h (nend (fn.results.toList.map (cres P)) Q)) : NFun P f args h Q := by
  intro C φ w vargs hv r
  let C' : Cx := { C with G := φ, D := [] }
  have r' : Rel C' φ w h := ⟨r.blk, r.lt, r.dom, r.inj, r.keep, r.away, PMap.le.refl φ, r.os, r.tape, r.output, r.grow, r.resv, r.far⟩
  have hlen := hv.length
  have s0 : Sim C' φ (nenter fn.ntmps args) h { tmps := vargs ++ Array.replicate (fn.ntmps - vargs.size) undef, defers := [] } w := by
    refine ⟨?_, rfl, r'⟩
    simp only [Array.toList_append, Array.toList_replicate, nenter]
    simp only [Array.length_toList] at hlen
    rw [hlen]
    refine hv.append ?_
    have : ∀ n, VRels φ (List.replicate n nundef) (List.replicate n undef) := by
      intro n
      induction n with
      | zero => rfl
      | succ n ih => exact ⟨undef, _, rfl, VRel.undef, ih⟩
    exact this _
  refine callsIn_wide.1 (callsIn_of_wp_marks (n := 0) hfn hc trivial (wpIn_wide.2 (wp_mono (e C' φ _ w rfl s0) ?_)))
  rintro ex a' w' ⟨ct, F', h', φ', C2, x, rfl, hk, s'⟩
  have fin : (∃ v, nresults F' h' (fn.results.toList.map (cres P)) = some v ∧ Q (v, h')) → LeavesInM Fence.wide 0 P fn a'.tmps (fun e w' => ∃ v, e = .returned v ∧ Post C φ Q v w') a'.defers .returning w' := by
    rintro ⟨v, hv, hq⟩
    have fin2 : ∀ (w2 : World), Rel C' φ' w2 h' → LeavesIn Fence.wide 0 P fn a'.tmps (fun e w' => ∃ v, e = .returned v ∧ Post C φ Q v w') [] .returning w2 := by
      intro w2 q
      have s2 : Sim { C' with D := a'.defers } φ' F' h' a' w2 := ⟨s'.tmps, rfl, ⟨q.blk, q.lt, q.dom, q.inj, q.keep, q.away, q.anchor, q.os, q.tape, q.output, q.grow, q.resv, q.far⟩⟩
      obtain ⟨u, hu, hur⟩ := results_rel (P := P) s2 hv
      exact ⟨u, hu, u, rfl, v, h', φ', hq, q.anchor, hur, ⟨q.blk, q.lt, q.dom, q.inj, q.keep, q.away, r.anchor.trans q.anchor, q.os, q.tape, q.output, q.grow, q.resv, q.far⟩⟩
    have q := x.rel _ _ _ s'.rel
    rw [s'.defers]
    rcases x.mark with hD | ⟨_, rr, hD, hy, hnx, hny, hw⟩
    · rw [hD]; exact fin2 _ q
    · rw [hD]
      have hat : w'.heap[rr]? = some (.deferred (some [])) := by rw [(s'.rel.keep rr (.inr hy)).1]; exact hw
      refine ⟨by simp, .inl ⟨rr, w'.putObj rr (.deferred none), rfl, run_takeDeferred hat, ?_⟩⟩
      refine fin2 _ ?_
      have hoth : ∀ k, k ≠ rr → (w'.putObj rr (.deferred none)).heap[k]? = w'.heap[k]? := fun k hk => World.putObj_heap_other hk
      refine ⟨fun b y p hb hp => ?_, fun b p hp => by rw [World.putObj_size]; exact q.lt b p hp, q.dom, q.inj, fun k hk => ?_, q.away, q.anchor, q.os, q.tape, q.output, by rw [World.putObj_size]; exact q.grow, q.resv, q.far⟩
      · obtain ⟨ob, h1, h2⟩ := q.blk b y p hb hp
        have : p.rb ≠ rr := fun e => s'.rel.far b y p hb hp (by rw [e]; exact hy)
        exact ⟨ob, by rw [hoth _ this]; exact h1, h2⟩
      · obtain ⟨h1, h2⟩ := q.keep k hk
        rw [World.putObj_size]
        refine ⟨?_, h2⟩
        rw [hoth k (fun e => by rcases hk with hk | hk; exact hnx (e ▸ hk); exact hny (e ▸ hk))]
        exact h1
  cases ct with
  | nrm => exact fin hk
  | ret => exact fin hk
  | exit id => exact hk.elim
end
end Go.Ns
