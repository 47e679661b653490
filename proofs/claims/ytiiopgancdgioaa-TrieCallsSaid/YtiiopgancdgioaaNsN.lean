/- The run of a drawn region. -/
import Derived.Test.YtiiopgancdgioaaNsM
set_option linter.unusedVariables false
set_option linter.unusedSimpArgs false
namespace Go.Ns

def presGo : List Oper → List (List Nat) → List (List Nat)
  | [], acc => acc
  | o :: os, acc => presGo os (acc ++ [((o.after.toList.filter (Region.binds .any)).flatMap fun e => e.on :: acc.getD e.on []).eraseDups])

def slotsGo (P : Program) (ops : Array Oper) : List Oper → Nat → List Nat
  | [], _ => []
  | o :: os, n => n :: slotsGo P ops os (if isA (coper P ops o).op then n + 1 else n)

def doperAt (P : Program) (ops : Array Oper) (pres : List (List Nat)) (slots : List Nat) (x : Oper × Nat) : DOper :=
  ⟨x.2, coper P ops x.1, pres.getD x.2 [], slots.getD x.2 0⟩

def dopers (P : Program) (ops : Array Oper) (pres : List (List Nat)) (slots : List Nat) : List DOper :=
  ops.toList.zipIdx.map (doperAt P ops pres slots)

/-- What the order of a drawn region must be like, between two of its operations. -/
def dpair (P : Program) (ops : Array Oper) (pres : List (List Nat)) (slots : List Nat) (j i : Nat) (u o : Oper) : Bool :=
  ((pres.getD i []).contains j || (Oper.apart ops u o && !(isE (coper P ops u).op && isE (coper P ops o).op))) &&
  !(isA (coper P ops u).op && isA (coper P ops o).op && slots.getD j 0 == slots.getD i 0)

def dchk (P : Program) (ops : Array Oper) (pres : List (List Nat)) (slots : List Nat) (nA : Nat) : Bool :=
  ops.toList.zipIdx.all fun x =>
    ((pres.getD x.2 []).all fun j => decide (j < x.2) && ((pres.getD j []).all fun k => (pres.getD x.2 []).contains k) &&
      x.1.after.any fun e => Region.binds .any e && (e.on == j || (pres.getD e.on []).contains j)) &&
    (x.1.after.all fun e => !Region.binds .any e || decide (e.on < x.2)) &&
    (!isA (coper P ops x.1).op || decide (slots.getD x.2 0 < nA)) &&
    ops.toList.zipIdx.all fun y => !decide (y.2 < x.2) || dpair P ops pres slots y.2 x.2 y.1 x.1

structure DOk (P : Program) (ops : Array Oper) (pres : List (List Nat)) (slots : List Nat) (nA : Nat) : Prop where
  lt : ∀ i o j, ops[i]? = some o → j ∈ pres.getD i [] → j < i
  trans : ∀ i o j k, ops[i]? = some o → j ∈ pres.getD i [] → k ∈ pres.getD j [] → k ∈ pres.getD i []
  direct : ∀ i o j, ops[i]? = some o → j ∈ pres.getD i [] → ∃ e ∈ o.after.toList, Region.binds .any e = true ∧ (e.on = j ∨ j ∈ pres.getD e.on [])
  edge : ∀ i o e, ops[i]? = some o → e ∈ o.after.toList → Region.binds .any e = true → e.on < i
  slot : ∀ i o, ops[i]? = some o → isA (coper P ops o).op = true → slots.getD i 0 < nA
  pair : ∀ i j o u, ops[i]? = some o → ops[j]? = some u → j < i → dpair P ops pres slots j i u o = true

theorem dok_of {P : Program} {ops : Array Oper} {pres : List (List Nat)} {slots : List Nat} {nA : Nat} (h : dchk P ops pres slots nA = true) : DOk P ops pres slots nA := by
  unfold dchk at h
  rw [List.all_eq_true] at h
  have hm : ∀ i o, ops[i]? = some o → (o, i) ∈ ops.toList.zipIdx := by
    intro i o hi
    rw [List.mem_zipIdx_iff_getElem?]
    simpa using hi
  have hx : ∀ i o, ops[i]? = some o → _ := fun i o hi => h (o, i) (hm i o hi)
  simp only [Bool.and_eq_true, List.all_eq_true, Bool.or_eq_true, Bool.not_eq_true', decide_eq_true_eq, List.contains_eq_mem, Array.any_eq_true', Array.all_eq_true', beq_iff_eq, decide_eq_false_iff_not] at hx
  refine ⟨?_, ?_, ?_, ?_, ?_, ?_⟩
  · intro i o j hi hj; exact ((hx i o hi).1.1.1 j hj).1.1
  · intro i o j k hi hj hk; exact ((hx i o hi).1.1.1 j hj).1.2 k hk
  · intro i o j hi hj
    obtain ⟨e, he, h1, h2⟩ := ((hx i o hi).1.1.1 j hj).2
    exact ⟨e, by simpa using he, h1, h2⟩
  · intro i o e hi he hb
    rcases (hx i o hi).1.1.2 e (by simpa using he) with h1 | h1
    · rw [hb] at h1; cases h1
    · exact h1
  · intro i o hi ha
    rcases (hx i o hi).1.2 with h1 | h1
    · rw [ha] at h1; cases h1
    · exact h1
  · intro i j o u hi hj hlt
    rcases (hx i o hi).2 (u, j) (hm j u hj) with h1 | h1
    · exact absurd hlt h1
    · exact h1

section
variable {P : Program} {ops : Array Oper} {pres : List (List Nat)} {slots : List Nat} {nA : Nat} {S : Nat → Specs} {C : Cx} {F0 : List NV} {h : Heap} {recs : List DRec}

/-- The records of a run that went well. -/
structure Ran (P : Program) (ops : Array Oper) (pres : List (List Nat)) (slots : List Nat) (nA : Nat) (S : Nat → Specs) (F0 : List NV) (h : Heap) (recs : List DRec) : Prop where
  ds : recs.map (·.d) = dopers P ops pres slots
  step : ∀ l1 r l2, recs = l1 ++ r :: l2 → dstep S h.length (dopers P ops pres slots) l1 (dF (fun _ => true) l1 F0) (h ++ List.replicate nA none) r.d = some r
  look : dlook recs = true

theorem Ran.idx (n : Ran P ops pres slots nA S F0 h recs) : recs.map (·.d.i) = List.range ops.size := by
  have := congrArg (List.map (·.i)) n.ds
  rw [List.map_map] at this
  rw [show (fun r : DRec => r.d.i) = ((·.i) ∘ (·.d) : DRec → Nat) from rfl, this]
  unfold dopers
  rw [List.map_map]
  apply List.ext_getElem?
  intro k
  simp only [List.getElem?_map, List.getElem?_zipIdx, Function.comp, doperAt]
  by_cases hk : k < ops.size
  · simp [hk, doperAt]
  · simp [hk]

theorem Ran.pair (n : Ran P ops pres slots nA S F0 h recs) : recs.Pairwise (fun x y => x.d.i < y.d.i) := by
  have : (recs.map (·.d.i)).Pairwise (· < ·) := by rw [n.idx]; exact List.pairwise_lt_range
  rwa [List.pairwise_map] at this

/-- A record and its operation. -/
theorem Ran.op (n : Ran P ops pres slots nA S F0 h recs) {r : DRec} (hr : r ∈ recs) : ∃ o, ops[r.d.i]? = some o ∧ r.d.o = coper P ops o ∧ r.d.pre = pres.getD r.d.i [] ∧ r.d.slot = slots.getD r.d.i 0 := by
  have : r.d ∈ recs.map (·.d) := List.mem_map_of_mem hr
  rw [n.ds] at this
  unfold dopers at this
  obtain ⟨⟨o, i⟩, hx, he⟩ := List.mem_map.1 this
  rw [List.mem_zipIdx_iff_getElem?] at hx
  rw [← he]
  exact ⟨o, by simpa [doperAt] using hx, rfl, rfl, rfl⟩

theorem Ran.at (n : Ran P ops pres slots nA S F0 h recs) {i : Nat} (hi : i < ops.size) : ∃ l1 r l2, recs = l1 ++ r :: l2 ∧ r.d.i = i ∧ (∀ x ∈ l1, x.d.i < i) ∧ (∀ x ∈ l2, i < x.d.i) := by
  have hm : i ∈ recs.map (·.d.i) := by rw [n.idx]; simpa using hi
  obtain ⟨r, hr, rfl⟩ := List.mem_map.1 hm
  obtain ⟨l1, l2, e⟩ := List.append_of_mem hr
  have hp := n.pair
  rw [e, List.pairwise_append] at hp
  refine ⟨l1, r, l2, e, rfl, fun x hx => hp.2.2 x hx r (List.mem_cons_self ..), fun x hx => ?_⟩
  exact (List.pairwise_cons.1 hp.2.1).1 x hx

theorem Ran.same (n : Ran P ops pres slots nA S F0 h recs) {r r' : DRec} (hr : r ∈ recs) (hr' : r' ∈ recs) (e : r.d.i = r'.d.i) : r = r' := by
  obtain ⟨l1, l2, rfl⟩ := List.append_of_mem hr
  have hp := n.pair
  rw [List.pairwise_append] at hp
  rcases List.mem_append.1 hr' with h1 | h1
  · have := hp.2.2 r' h1 r (List.mem_cons_self ..); omega
  · rcases List.mem_cons.1 h1 with rfl | h1
    · rfl
    · have := (List.pairwise_cons.1 hp.2.1).1 r' h1; omega

/-- What a record is, said with all records. -/
theorem Ran.facts (n : Ran P ops pres slots nA S F0 h recs) (k : DOk P ops pres slots nA) {r : DRec} (hr : r ∈ recs) :
    r.F = dF (fun j => decide (j < r.d.i)) recs F0 ∧ dstep S h.length (dopers P ops pres slots) recs r.F (h ++ List.replicate nA none) r.d = some r := by
  obtain ⟨o, ho, h1, h2, h3⟩ := n.op hr
  obtain ⟨l1, l2, e⟩ := List.append_of_mem hr
  have hp := n.pair
  rw [e, List.pairwise_append] at hp
  have hl1 : ∀ x ∈ l1, x.d.i < r.d.i := fun x hx => hp.2.2 x hx r (List.mem_cons_self ..)
  have hl2 : ∀ x ∈ r :: l2, r.d.i ≤ x.d.i := by
    intro x hx
    rcases List.mem_cons.1 hx with rfl | hx
    · exact Nat.le_refl _
    · exact Nat.le_of_lt ((List.pairwise_cons.1 hp.2.1).1 x hx)
  have hs := n.step l1 r l2 e
  have hF : r.F = dF (fun _ => true) l1 F0 := by
    unfold dstep at hs
    split at hs
    · split at hs
      · obtain ⟨v, _, e⟩ := Option.map_eq_some_iff.1 hs; rw [← e]
      · obtain ⟨v, _, e⟩ := Option.map_eq_some_iff.1 hs; rw [← e]
      · obtain ⟨v, _, e⟩ := Option.map_eq_some_iff.1 hs; rw [← e]
      · obtain ⟨v, _, e⟩ := Option.bind_eq_some_iff.1 hs
        split at e
        · simp only [Option.some.injEq] at e; rw [← e]
        · cases e
    · simp only [Option.some.injEq] at hs; rw [← hs]
  have hd : dheap r.d.pre.contains recs (h ++ List.replicate nA none) = dheap r.d.pre.contains l1 (h ++ List.replicate nA none) := by
    rw [e]
    apply dheap_front
    intro x hx
    simp only [List.contains_eq_mem, decide_eq_false_iff_not]
    intro hx'
    rw [h2] at hx'
    have := k.lt _ o _ ho hx'
    have := hl2 x hx
    omega
  refine ⟨?_, ?_⟩
  · rw [hF, e, dF_append, dF_none (recs := r :: l2) fun x hx => by simpa using hl2 x hx]
    exact dF_congr fun x hx => by simp [hl1 x hx]
  · unfold dstep at hs ⊢
    rw [hd, hF]
    exact hs

theorem Ran.new (n : Ran P ops pres slots nA S F0 h recs) (k : DOk P ops pres slots nA) {r : DRec} (hr : r ∈ recs) {s : Nat} {x : NBlk} (he : r.eff = .new s x) :
    isA r.d.o.op = true ∧ s = h.length + r.d.slot ∧ r.d.slot < nA := by
  obtain ⟨o, ho, h1, h2, h3⟩ := n.op hr
  have hs := (n.facts k hr).2
  have key : isA r.d.o.op = true ∧ s = h.length + r.d.slot := by
    unfold dstep at hs
    split at hs
    · split at hs
      · obtain ⟨v, _, e⟩ := Option.map_eq_some_iff.1 hs; rw [← e] at he; cases he
      · obtain ⟨v, _, e⟩ := Option.map_eq_some_iff.1 hs; rw [← e] at he; cases he
      · rename_i hc
        obtain ⟨v, _, e⟩ := Option.map_eq_some_iff.1 hs; rw [← e] at he; cases he
        exact ⟨by unfold isA; rw [hc], rfl⟩
      · obtain ⟨v, _, e⟩ := Option.bind_eq_some_iff.1 hs
        split at e
        · simp only [Option.some.injEq] at e; rw [← e] at he; cases he
        · cases e
    · simp only [Option.some.injEq] at hs; rw [← hs] at he; cases he
  refine ⟨key.1, key.2, ?_⟩
  rw [h3]
  exact k.slot _ o ho (by rw [← h1]; exact key.1)

theorem Ran.to (n : Ran P ops pres slots nA S F0 h recs) (k : DOk P ops pres slots nA) {r : DRec} (hr : r ∈ recs) {g : Heap} (he : r.eff = .to g) :
    isE r.d.o.op = true ∧ h.length + nA ≤ g.length ∧ ∀ r' ∈ recs, isA r'.d.o.op = true → r'.d.i ∉ r.d.pre → hget g (h.length + r'.d.slot) = none := by
  obtain ⟨o, ho, h1, h2, h3⟩ := n.op hr
  have hs := (n.facts k hr).2
  unfold dstep at hs
  split at hs
  · split at hs
    · obtain ⟨v, _, e⟩ := Option.map_eq_some_iff.1 hs; rw [← e] at he; cases he
    · obtain ⟨v, _, e⟩ := Option.map_eq_some_iff.1 hs; rw [← e] at he; cases he
    · obtain ⟨v, _, e⟩ := Option.map_eq_some_iff.1 hs; rw [← e] at he; cases he
    · rename_i hc
      obtain ⟨v, _, e⟩ := Option.bind_eq_some_iff.1 hs
      split at e
      · rename_i hall
        simp only [Option.some.injEq] at e
        rw [← e] at he
        simp only [Eff.to.injEq] at he
        subst he
        simp only [Bool.and_eq_true, decide_eq_true_eq, List.all_eq_true, Bool.or_eq_true, Bool.not_eq_true', List.contains_eq_mem, Option.isNone_iff_eq_none, List.length_append, List.length_replicate] at hall
        refine ⟨by unfold isE; rw [hc], hall.1, fun r' hr' ha hi => ?_⟩
        have hm : r'.d ∈ dopers P ops pres slots := by rw [← n.ds]; exact List.mem_map_of_mem hr'
        rcases hall.2 _ hm with h' | h' | h'
        · rw [ha] at h'; cases h'
        · exact absurd h' hi
        · exact h'
      · cases e
  · simp only [Option.some.injEq] at hs; rw [← hs] at he; cases he

theorem Ran.slotOne (n : Ran P ops pres slots nA S F0 h recs) (k : DOk P ops pres slots nA) {r r' : DRec} (hr : r ∈ recs) (hr' : r' ∈ recs) (ha : isA r.d.o.op = true) (ha' : isA r'.d.o.op = true) (e : r.d.slot = r'.d.slot) : r.d.i = r'.d.i := by
  obtain ⟨o, ho, o1, o2, o3⟩ := n.op hr
  obtain ⟨u, hu, u1, u2, u3⟩ := n.op hr'
  have hsl : slots.getD r.d.i 0 = slots.getD r'.d.i 0 := by rw [← o3, ← u3, e]
  rw [o1] at ha
  rw [u1] at ha'
  rcases Nat.lt_trichotomy r.d.i r'.d.i with hlt | heq | hlt
  · have := k.pair _ _ u o hu ho hlt
    unfold dpair at this
    rw [ha, ha', hsl] at this
    simp at this
  · exact heq
  · have := k.pair _ _ o u ho hu hlt
    unfold dpair at this
    rw [ha, ha', hsl] at this
    simp at this

theorem Ran.apart (n : Ran P ops pres slots nA S F0 h recs) (k : DOk P ops pres slots nA) : Apart recs := by
  intro l1 r l2 e s x he r' hr' y he'
  have hr : r ∈ recs := by rw [e]; simp
  have hr2 : r' ∈ recs := by rw [e]; simp only [List.mem_append, List.mem_cons] at hr' ⊢; rcases hr' with h | h <;> simp [h]
  obtain ⟨a1, a2, _⟩ := n.new k hr he
  obtain ⟨b1, b2, _⟩ := n.new k hr2 he'
  obtain ⟨o, ho, o1, o2, o3⟩ := n.op hr
  obtain ⟨u, hu, u1, u2, u3⟩ := n.op hr2
  have hp := n.pair
  rw [e, List.pairwise_append] at hp
  have hne : r.d.i ≠ r'.d.i := by
    rcases List.mem_append.1 hr' with h1 | h1
    · have := hp.2.2 r' h1 r (List.mem_cons_self ..); omega
    · have := (List.pairwise_cons.1 hp.2.1).1 r' h1; omega
  have hsl : slots.getD r.d.i 0 = slots.getD r'.d.i 0 := by rw [← o3, ← u3]; omega
  rw [o1] at a1
  rw [u1] at b1
  rcases Nat.lt_or_gt_of_ne hne with hlt | hlt
  · have := k.pair _ _ u o hu ho hlt
    unfold dpair at this
    rw [a1, b1, hsl] at this
    simp at this
  · have := k.pair _ _ o u ho hu hlt
    unfold dpair at this
    rw [a1, b1, hsl] at this
    simp at this

/-- The places that are still kept free. -/
def CN (C : Cx) (h : Heap) (recs : List DRec) (D : Nat → Bool) : Cx :=
  { C with N := fun b => C.N b ∨ ∃ r ∈ recs, isA r.d.o.op = true ∧ D r.d.i = false ∧ b = h.length + r.d.slot }

structure Inv (C : Cx) (F0 : List NV) (h : Heap) (nA : Nat) (recs : List DRec) (D : Nat → Bool) (φ : PMap) (a : Act) (w : World) : Prop where
  tm : VRels φ (dF D recs F0) a.tmps.toList
  df : a.defers = C.D
  rel : Rel (CN C h recs D) φ w (dheap D recs (h ++ List.replicate nA none))
  mp : ∀ r ∈ recs, ∀ s x, r.eff = .new s x → D r.d.i = true → ∃ p, φ s = some p

theorem pad_none {nA s : Nat} (hs : h.length ≤ s) : hget (h ++ List.replicate nA none) s = none := by
  unfold hget
  rw [List.getElem?_append_right hs, List.getElem?_replicate]
  split <;> rfl

/-- The memory that the last write left: what is not before it has no block there. -/
theorem Ran.base (n : Ran P ops pres slots nA S F0 h recs) (k : DOk P ops pres slots nA) (D : Nat → Bool) :
    (∀ r ∈ recs, ∀ s x, r.eff = .new s x → s < (dbase D recs (h ++ List.replicate nA none, [])).1.length) ∧
    (∀ r ∈ recs, ∀ s x, r.eff = .new s x → r.d.i ∉ (dbase D recs (h ++ List.replicate nA none, [])).2 → hget (dbase D recs (h ++ List.replicate nA none, [])).1 s = none) := by
  rcases dbase_inv (S := D) recs (h ++ List.replicate nA none, []) with ⟨e, _⟩ | ⟨l1, e, l2, g, h1, h2, h3, h4, h5⟩
  · rw [e]
    refine ⟨fun r hr s x he => ?_, fun r hr s x he _ => ?_⟩
    · obtain ⟨_, rfl, hl⟩ := n.new k hr he; simp; omega
    · obtain ⟨_, rfl, hl⟩ := n.new k hr he; exact pad_none (by omega)
  · rw [h5]
    have he : e ∈ recs := by rw [h1]; simp
    obtain ⟨t1, t2, t3⟩ := n.to k he h2
    refine ⟨fun r hr s x hx => ?_, fun r hr s x hx ho => ?_⟩
    · obtain ⟨_, rfl, hl⟩ := n.new k hr hx; show _ < g.length; omega
    · obtain ⟨ha, rfl, hl⟩ := n.new k hr hx; exact t3 r hr ha ho

/-- Reading at what the predecessors made is reading at what is there. -/
theorem Ran.read (n : Ran P ops pres slots nA S F0 h recs) (k : DOk P ops pres slots nA) {D : Nat → Bool} (hD : ∀ r ∈ recs, D r.d.i = true → ∀ j ∈ r.d.pre, D j = true) {r : DRec} (hr : r ∈ recs) (hi : D r.d.i = false) (hp : ∀ j ∈ r.d.pre, D j = true)
    (hl : r.eff = .look) (e : nread (nval r.F) (dheap r.d.pre.contains recs (h ++ List.replicate nA none)) r.d.o.op = some r.v) : nread (nval r.F) (dheap D recs (h ++ List.replicate nA none)) r.d.o.op = some r.v := by
  have ha := n.apart k
  obtain ⟨b1, b2⟩ := n.base k D
  have hsub : ∀ i, r.d.pre.contains i = true → D i = true := fun i hi => hp i (by simpa using hi)
  rcases dbase_inv (S := D) recs (h ++ List.replicate nA none, []) with ⟨e1, e2⟩ | ⟨l1, x, l2, g, h1, h2, h3, h4, h5⟩
  · have hb : dbase r.d.pre.contains recs (h ++ List.replicate nA none, []) = dbase D recs (h ++ List.replicate nA none, []) := by
      rw [e1]
      apply dbase_none
      intro q hq g hg
      cases hc : r.d.pre.contains q.d.i with
      | false => rfl
      | true => have := hsub _ hc; rw [e2 q hq g hg] at this; cases this
    unfold dheap at e ⊢
    rw [hb] at e
    exact (dfill_sub ha b1 hsub b2).nread e
  · have hx : x ∈ recs := by rw [h1]; simp
    by_cases hm : x.d.i ∈ r.d.pre
    · have hb : dbase r.d.pre.contains recs (h ++ List.replicate nA none, []) = dbase D recs (h ++ List.replicate nA none, []) := by
        rw [h5, h1, dbase_append]
        show dbase _ l2 _ = _
        rw [dbase_none (recs := l2)]
        · simp [h2, hm]
        · intro q hq g' hg'
          cases hc : r.d.pre.contains q.d.i with
          | false => rfl
          | true => have := hsub _ hc; rw [h4 q hq g' hg'] at this; cases this
      unfold dheap at e ⊢
      rw [hb] at e
      exact (dfill_sub ha b1 hsub b2).nread e
    · have hl' := n.look
      unfold dlook at hl'
      rw [List.all_eq_true] at hl'
      have := hl' r hr
      rw [hl] at this
      simp only at this
      rw [List.all_eq_true] at this
      have := this x hx
      rw [h2] at this
      simp only [Bool.or_eq_true, List.contains_eq_mem, decide_eq_true_eq] at this
      rcases this with h' | h' | h'
      · have := hD x hx h3 _ h'; rw [hi] at this; cases this
      · exact absurd h' hm
      · split at h'
        · rename_i v hv
          have := NV.eqb_eq h'
          subst this
          unfold dheap
          rw [h5] at b1 b2 ⊢
          exact (dfill_sub ha b1 hsub b2).nread hv
        · cases h'

/-- One operation more. -/
def more (D : Nat → Bool) (i : Nat) : Nat → Bool := fun j => decide (j = i) || D j

theorem dF_more {D : Nat → Bool} {l1 l2 : List DRec} {r : DRec} (h1 : ∀ x ∈ l1, x.d.i < r.d.i) (h2 : ∀ x ∈ l2, r.d.i < x.d.i) (hi : D r.d.i = false) (hd : ∀ x ∈ l2, D x.d.i = true → ∀ t, r.d.o.dst = some t → x.d.o.dst ≠ some t) :
    dF (more D r.d.i) (l1 ++ r :: l2) F0 = nput (dF D (l1 ++ r :: l2) F0) r.d.o.dst r.v := by
  rw [dF_append, dF_append, dF_congr (recs := l1) (S := more D r.d.i) (S' := D) fun x hx => by have := h1 x hx; unfold more; simp; omega]
  show dF _ l2 _ = nput (dF D l2 _) _ _
  rw [dF_congr (recs := l2) (S := more D r.d.i) (S' := D) fun x hx => by have := h2 x hx; unfold more; simp; omega]
  rw [← dF_nput hd]
  simp [more, hi]

theorem dheap_more_keep {D : Nat → Bool} {r : DRec} (n : Ran P ops pres slots nA S F0 h recs) (hr : r ∈ recs) (h1 : ∀ g, r.eff ≠ .to g) (h2 : ∀ s x, r.eff ≠ .new s x) {H : Heap} : dheap (more D r.d.i) recs H = dheap D recs H := by
  unfold dheap
  have hc : ∀ x ∈ recs, x.eff ≠ r.eff → more D r.d.i x.d.i = D x.d.i := by
    intro x hx hne
    have : x.d.i ≠ r.d.i := fun e => hne (by rw [n.same hx hr e])
    simp [more, this]
  rw [dbase_congr (S := more D r.d.i) (S' := D) fun x hx g hg => hc x hx (fun e => h1 g (by rw [← e]; exact hg)),
    dfill_congr (S := more D r.d.i) (S' := D) fun x hx s y hg => hc x hx (fun e => h2 s y (by rw [← e]; exact hg))]

theorem dheap_more_new {D : Nat → Bool} {r : DRec} (n : Ran P ops pres slots nA S F0 h recs) (k : DOk P ops pres slots nA) (hD : ∀ r ∈ recs, D r.d.i = true → ∀ j ∈ r.d.pre, D j = true) (hr : r ∈ recs) (hi : D r.d.i = false) {s : Nat} {x : NBlk} (he : r.eff = .new s x) :
    dheap (more D r.d.i) recs (h ++ List.replicate nA none) = hset (dheap D recs (h ++ List.replicate nA none)) s x := by
  have hc : ∀ x ∈ recs, x.eff ≠ r.eff → more D r.d.i x.d.i = D x.d.i := by
    intro x hx hne
    have : x.d.i ≠ r.d.i := fun e => hne (by rw [n.same hx hr e])
    simp [more, this]
  have hout : r.d.i ∉ (dbase D recs (h ++ List.replicate nA none, [])).2 := by
    rcases dbase_inv (S := D) recs (h ++ List.replicate nA none, []) with ⟨e1, e2⟩ | ⟨l1, y, l2, g, h1, h2, h3, h4, h5⟩
    · rw [e1]; simp
    · rw [h5]
      intro hm
      have := hD y (by rw [h1]; simp) h3 _ hm
      rw [hi] at this; cases this
  unfold dheap
  rw [dbase_congr (S := more D r.d.i) (S' := D) fun y hy g hg => hc y hy (fun e => by rw [hg, he] at e; cases e)]
  generalize dbase D recs (h ++ List.replicate nA none, []) = b at hout ⊢
  have ha := n.apart k
  obtain ⟨l1, l2, e⟩ := List.append_of_mem hr
  have hal := ha l1 r l2 e s x he
  have hdiff : ∀ y ∈ l1 ++ l2, y.d.i ≠ r.d.i := by
    have hp := n.pair
    rw [e, List.pairwise_append] at hp
    intro y hy
    rcases List.mem_append.1 hy with h1 | h1
    · have := hp.2.2 y h1 r (List.mem_cons_self ..); omega
    · have := (List.pairwise_cons.1 hp.2.1).1 y h1; omega
  rw [e, dfill_append, dfill_append]
  show dfill _ _ l2 _ = hset (dfill D _ l2 _) s x
  rw [dfill_congr (recs := l1) (S := more D r.d.i) (S' := D) fun y hy _ _ _ => by simp [more, hdiff y (by simp [hy])]]
  rw [dfill_congr (recs := l2) (S := more D r.d.i) (S' := D) fun y hy _ _ _ => by simp [more, hdiff y (by simp [hy])]]
  rw [← dfill_hset fun y hy t z hz e => hal y (by simp [hy]) z (by rw [hz, e])]
  simp [he, more, hout, hi]

theorem dheap_more_to {D : Nat → Bool} {r : DRec} (n : Ran P ops pres slots nA S F0 h recs) {l1 l2 : List DRec} (e : recs = l1 ++ r :: l2) {g : Heap} (he : r.eff = .to g) (hl : ∀ y ∈ l2, ∀ g, y.eff = .to g → D y.d.i = false) (h2 : ∀ x ∈ l2, r.d.i < x.d.i) {H : Heap} :
    dheap (more D r.d.i) recs H = dfill D r.d.pre recs g := by
  unfold dheap
  have hb : dbase (more D r.d.i) recs (H, []) = (g, r.d.pre) := by
    rw [e, dbase_append]
    show dbase _ l2 _ = _
    rw [dbase_none (recs := l2)]
    · simp [he, more]
    · intro y hy g' hg'
      have := h2 y hy
      have := hl y hy g' hg'
      simp [more, this]; omega
  rw [hb]
  apply dfill_congr
  intro y hy s x hx
  have : y.d.i ≠ r.d.i := by
    intro e2
    have hr : r ∈ recs := by rw [e]; simp
    rw [n.same hy hr e2, he] at hx; cases hx
  simp [more, this]

/-- A step of a drawn region, in any order. -/
theorem sim_dstep (hS : ∀ i, SpecOK P (S i)) (n : Ran P ops pres slots nA S F0 h recs) (k : DOk P ops pres slots nA) (hCN : ∀ b, C.N b → b < h.length) {D : Nat → Bool} (hD : ∀ r ∈ recs, D r.d.i = true → ∀ j ∈ r.d.pre, D j = true) {i : Nat} (hil : i < ops.size)
    (hi : D i = false) (hp : ∀ j ∈ pres.getD i [], D j = true) {φ : PMap} {a : Act} {w : World} (v : Inv C F0 h nA recs D φ a w) {QX : Exit → Act → World → Prop} {K : Act → World → Prop}
    (hK : ∀ φ' a' w', Inv C F0 h nA recs (more D i) φ' a' w' → K a' w') : wpOp P ops QX i K a w := by
  obtain ⟨l1, r, l2, hre, rfl, hl1, hl2⟩ := n.at hil
  have hr : r ∈ recs := by rw [hre]; simp
  obtain ⟨o, ho, ho1, ho2, ho3⟩ := n.op hr
  obtain ⟨hF, hs⟩ := n.facts k hr
  -- the temporaries that the operation looks at
  have agree : ∀ t ∈ o.looksAt ops, (dF D recs F0)[t]? = r.F[t]? := by
    intro t ht
    rw [hF]
    apply dF_agree _ rfl rfl
    intro x hx hne hdst
    obtain ⟨u, hu, u1, u2, u3⟩ := n.op hx
    rw [u1, coper_dst] at hdst
    rcases Nat.lt_trichotomy x.d.i r.d.i with hlt | heq | hlt
    · have hDx : D x.d.i = false := by
        cases hd : D x.d.i with
        | false => rfl
        | true => simp [hd, hlt] at hne
      have := k.pair _ _ o u ho hu hlt
      unfold dpair at this
      simp only [Bool.and_eq_true, Bool.or_eq_true, List.contains_eq_mem, decide_eq_true_eq] at this
      rcases this.1 with h' | h'
      · rw [hp _ h'] at hDx; cases hDx
      · exact (Oper.apart_spec h'.1).1 t hdst ht
    · rw [heq, hi] at hne; simp at hne
    · have hDx : D x.d.i = true := by
        cases hd : D x.d.i with
        | true => rfl
        | false => simp [hd] at hne; omega
      have := k.pair _ _ u o hu ho hlt
      unfold dpair at this
      simp only [Bool.and_eq_true, Bool.or_eq_true, List.contains_eq_mem, decide_eq_true_eq] at this
      rcases this.1 with h' | h'
      · have := hD x hx hDx _ (by rw [u2]; exact h'); rw [hi] at this; cases this
      · exact (Oper.apart_spec h'.1).2.2 t hdst ht
  have hdst : ∀ x ∈ l2, D x.d.i = true → ∀ t, r.d.o.dst = some t → x.d.o.dst ≠ some t := by
    intro x hx hDx t ht hxt
    have hx' : x ∈ recs := by rw [hre]; simp [hx]
    obtain ⟨u, hu, u1, u2, u3⟩ := n.op hx'
    rw [u1, coper_dst] at hxt
    rw [ho1, coper_dst] at ht
    have := k.pair _ _ u o hu ho (hl2 x hx)
    unfold dpair at this
    simp only [Bool.and_eq_true, Bool.or_eq_true, List.contains_eq_mem, decide_eq_true_eq] at this
    rcases this.1 with h' | h'
    · have := hD x hx' hDx _ (by rw [u2]; exact h'); rw [hi] at this; cases this
    · exact (Oper.apart_spec h'.1).2.1 t ht hxt
  have hput : dF (more D r.d.i) recs F0 = nput (dF D recs F0) o.dst r.v := by
    have := dF_more (F0 := F0) hl1 hl2 hi hdst
    rw [← hre, ho1, coper_dst] at this
    exact this
  have hval : ∀ x ∈ o.op.operands.toList, nval r.F (copd x) = nval (dF D recs F0) (copd x) := by
    intro x hx
    cases x with
    | tmp t =>
      have : t ∈ o.looksAt ops := by
        unfold Oper.looksAt
        exact List.mem_append_left _ (List.mem_filterMap.2 ⟨.tmp t, hx, rfl⟩)
      simp only [copd, nval, List.getD, agree t this]
    | const c =>
      simp only [copd]
      split <;> rfl
    | global g => rfl
    | func f => rfl
  -- keeping the memory
  have hkeep : (∀ g, r.eff ≠ .to g) → (∀ s x, r.eff ≠ .new s x) → ∀ {u : Value}, VRel φ r.v u → Inv C F0 h nA recs (more D r.d.i) φ (a.put o.dst u) w := by
    intro h1 h2 u hu
    refine ⟨by rw [hput]; exact put_rel v.tm (PMap.le.refl φ) hu o.dst, by rw [put_defers]; exact v.df, ?_, fun y hy s x hys hyd => ?_⟩
    rotate_left
    · refine v.mp y hy s x hys ?_
      unfold more at hyd
      simp only [Bool.or_eq_true, decide_eq_true_eq] at hyd
      rcases hyd with e | e
      · rw [n.same hy hr e] at hys; exact absurd hys (h2 s x)
      · exact e
    rw [dheap_more_keep n hr h1 h2]
    apply v.rel.lessN
    rintro b (hb | ⟨x, hx, hx1, hx2, hx3⟩)
    · exact .inl hb
    · refine .inr ⟨x, hx, hx1, ?_, hx3⟩
      unfold more at hx2
      simp at hx2
      exact hx2.2
  unfold wpOp
  rw [ho]
  simp only
  unfold dstep at hs
  have hgd : ∀ j want, o.guard = some (j, want) → ((ops[j]?).bind (·.dst)).isSome = true := by
    apply coper_guard (P := P)
    by_cases hg : (coper P ops o).guard = none
    · left; intro hf
      rw [ho1, hg, hf] at hs
      simp [nwanted, cls, npure] at hs
    · exact .inr hg
  have hw := wanted_rel (P := P) v.tm hgd
  have hg2 : nwanted r.F r.d.o.guard = nwanted (dF D recs F0) (coper P ops o).guard := by
    rw [ho1]
    cases hgu : (coper P ops o).guard with
    | none => rfl
    | some tw =>
      obtain ⟨t, want⟩ := tw
      unfold coper at hgu
      split at hgu
      · cases hgu
      · rename_i j want' hog
        split at hgu
        · rename_i t' ht'
          simp only [Option.some.injEq, Prod.mk.injEq] at hgu
          obtain ⟨rfl, rfl⟩ := hgu
          have : t' ∈ o.looksAt ops := by
            unfold Oper.looksAt
            rw [hog]
            apply List.mem_append_right
            simp [ht']
          simp only [nwanted, agree _ this]
        · cases hgu
  rw [hw, ← hg2]
  split at hs
  · rename_i hwt
    rw [if_pos hwt]
    left
    rw [ho1, coper_op hgd] at hs
    have hcne : cop P o.op ≠ .fail := by
      intro hf
      rw [hf] at hs
      simp [cls, npure] at hs
    obtain ⟨hc, hok⟩ := cop_ok hcne
    have hρ : ∀ x ∈ o.op.operands.toList, VRel φ (nval r.F (copd x)) (a.eval x) := fun x hx => by rw [hval x hx]; exact eval_rel v.tm (hok x hx)
    unfold Oper.wp
    split at hs
    · obtain ⟨nv, hnv, e⟩ := Option.map_eq_some_iff.1 hs
      rw [hc] at hnv
      obtain ⟨u, hu, hur⟩ := sim_pure (P := P) (o := o) hρ hnv
      rw [hu w]
      have e1 : r.v = nv := by rw [← e]
      have e2 : r.eff = .keep := by rw [← e]
      exact hK φ _ w (hkeep (by rw [e2]; simp) (by rw [e2]; simp) (by rw [e1]; exact hur))
    · obtain ⟨nv, hnv, e⟩ := Option.map_eq_some_iff.1 hs
      have e1 : r.v = nv := by rw [← e]
      have e2 : r.eff = .look := by rw [← e]
      have hop : r.d.o.op = cop' P o.op := by rw [ho1, coper_op hgd, hc]
      have hrd := n.read k hD hr hi (fun j hj => hp j (by rw [← ho2]; exact hj)) e2 (by rw [hop, ← hc, hnv, e1])
      rw [hop] at hrd
      obtain ⟨u, hu, hur⟩ := sim_read (P := P) (o := o) v.rel hρ hrd
      rw [hu]
      exact hK φ _ w (hkeep (by rw [e2]; simp) (by rw [e2]; simp) hur)
    · rename_i hcl
      obtain ⟨⟨x, res⟩, hnv, e⟩ := Option.map_eq_some_iff.1 hs
      rw [hc] at hnv
      obtain ⟨vf, obj, sz, kk, hv, hrr⟩ := sim_alloc (P := P) (o := o) hρ hnv
      rw [hv w]
      have e1 : r.v = res (h.length + r.d.slot) := by rw [← e]
      have e2 : r.eff = .new (h.length + r.d.slot) x := by rw [← e]
      have hN : (CN C h recs D).N (h.length + r.d.slot) := .inr ⟨r, hr, (n.new k hr e2).1, hi, rfl⟩
      have hfr := (v.rel.resv _ hN).1
      let p : Place := ⟨w.heap.size, 0, sz, kk⟩
      have hle : φ.le (φ.put (h.length + r.d.slot) p) := PMap.le_put hfr
      obtain ⟨h1, h2⟩ := hrr (φ.put (h.length + r.d.slot) p) (h.length + r.d.slot) w.heap.size hle PMap.put_same
      refine hK (φ.put (h.length + r.d.slot) p) _ _ ⟨by rw [hput, e1]; exact put_rel v.tm hle h1 o.dst, by rw [put_defers]; exact v.df, ?_, fun y hy s z hys hyd => ?_⟩
      rotate_left
      · unfold more at hyd
        simp only [Bool.or_eq_true, decide_eq_true_eq] at hyd
        rcases hyd with e | e
        · rw [n.same hy hr e, e2] at hys
          simp only [Eff.new.injEq] at hys
          rw [← hys.1]
          exact ⟨p, PMap.put_same⟩
        · obtain ⟨q, hq⟩ := v.mp y hy s z hys e
          exact ⟨q, hle _ _ hq⟩
      rw [dheap_more_new n k hD hr hi e2]
      refine v.rel.fillAt hN (N := fun b => C.N b ∨ ∃ y ∈ recs, isA y.d.o.op = true ∧ more D r.d.i y.d.i = false ∧ b = h.length + y.d.slot) ?_ rfl h2
      rintro b (hb | ⟨y, hy, hy1, hy2, hy3⟩)
      · exact ⟨.inl hb, by have := hCN b hb; omega⟩
      · unfold more at hy2
        simp at hy2
        refine ⟨.inr ⟨y, hy, hy1, hy2.2, hy3⟩, fun e => ?_⟩
        exact hy2.1 (n.slotOne k hy hr hy1 (n.new k hr e2).1 (by omega))
    · rename_i hcl
      obtain ⟨⟨nv, g⟩, hnv, e⟩ := Option.bind_eq_some_iff.1 hs
      rw [hc] at hnv
      have hnv := Res.one_inv hnv
      split at e
      rotate_left
      · cases e
      simp only [Option.some.injEq] at e
      have e1 : r.v = nv := by rw [← e]
      have e2 : r.eff = .to g := by rw [← e]
      have hrE := (n.to k hr e2).1
      have ha := n.apart k
      obtain ⟨b1, b2⟩ := n.base k D
      have hE : ∀ x ∈ recs, ∀ g', x.eff = .to g' → D x.d.i = r.d.pre.contains x.d.i := by
        intro x hx g' hg'
        have hxE := (n.to k hx hg').1
        obtain ⟨u, hu, u1, u2, u3⟩ := n.op hx
        rcases Nat.lt_trichotomy x.d.i r.d.i with hlt | heq | hlt
        · have := k.pair _ _ o u ho hu hlt
          unfold dpair at this
          rw [ho1] at hrE
          rw [u1] at hxE
          rw [hrE, hxE] at this
          simp only [Bool.and_self, Bool.not_true, Bool.and_false, Bool.or_false, Bool.and_eq_true] at this
          rw [ho2, this.1]
          exact hp _ (by simpa using this.1)
        · rw [heq, hi]
          symm
          simp only [List.contains_eq_mem, decide_eq_false_iff_not]
          intro hm
          have := k.lt _ o _ ho (ho2 ▸ hm)
          omega
        · have hDx : D x.d.i = false := by
            have := k.pair _ _ u o hu ho hlt
            unfold dpair at this
            rw [ho1] at hrE
            rw [u1] at hxE
            rw [hrE, hxE] at this
            simp only [Bool.and_self, Bool.not_true, Bool.and_false, Bool.or_false, Bool.and_eq_true] at this
            cases hd : D x.d.i with
            | false => rfl
            | true =>
              have := hD x hx hd r.d.i (by rw [u2]; simpa using this.1)
              rw [hi] at this; cases this
          rw [hDx]
          symm
          simp only [List.contains_eq_mem, decide_eq_false_iff_not]
          intro hm
          have := k.lt _ o _ ho (ho2 ▸ hm)
          omega
      have hbase : dbase r.d.pre.contains recs (h ++ List.replicate nA none, []) = dbase D recs (h ++ List.replicate nA none, []) :=
        dbase_congr fun x hx g' hg' => (hE x hx g' hg').symm
      have hsub' : ∀ j, r.d.pre.contains j = true → D j = true := fun j hj => hp j (by rw [← ho2]; simpa using hj)
      have hout : ∀ j, j ∈ (dbase D recs (h ++ List.replicate nA none, [])).2 → j ∈ r.d.pre := by
        rcases dbase_inv (S := D) recs (h ++ List.replicate nA none, []) with ⟨e3, _⟩ | ⟨m1, x, m2, g', h1, h2, h3, h4, h5⟩
        · rw [e3]; simp
        · rw [h5]
          intro j hj
          have hx : x ∈ recs := by rw [h1]; simp
          have := hE x hx g' h2
          rw [h3] at this
          have hxm : x.d.i ∈ r.d.pre := by simpa using this.symm
          obtain ⟨u, hu, u1, u2, u3⟩ := n.op hx
          rw [ho2] at hxm ⊢
          exact k.trans _ o _ _ ho hxm (by rw [← u2]; exact hj)
      have hMH : Sub (dheap r.d.pre.contains recs (h ++ List.replicate nA none)) (dheap D recs (h ++ List.replicate nA none)) := by
        unfold dheap
        rw [hbase]
        exact dfill_sub ha b1 hsub' b2
      have hlen : (dheap r.d.pre.contains recs (h ++ List.replicate nA none)).length = (dheap D recs (h ++ List.replicate nA none)).length := by
        unfold dheap
        rw [hbase, dfill_length, dfill_length]
      refine sim_eff (hS _) (v.rel.part hMH hlen) hρ (Q := fun q => q = (nv, g)) (by rw [hnv]; rfl) fun u w' hpst => ?_
      obtain ⟨nv', g', φ', ⟨hq', _⟩, hle, hv, r'⟩ := hpst
      simp only [Prod.mk.injEq] at hq'
      obtain ⟨rfl, rfl⟩ := hq'
      refine hK φ' _ _ ⟨by rw [hput, e1]; exact put_rel v.tm hle hv o.dst, by rw [put_defers]; exact v.df, ?_, fun y hy s z hys hyd => ?_⟩
      rotate_left
      · unfold more at hyd
        simp only [Bool.or_eq_true, decide_eq_true_eq] at hyd
        rcases hyd with e | e
        · rw [n.same hy hr e, e2] at hys; cases hys
        · obtain ⟨q, hq⟩ := v.mp y hy s z hys e
          exact ⟨q, hle _ _ hq⟩
      rw [dheap_more_to n hre e2 (fun y hy g'' hg'' => ?_) hl2]
      rotate_left
      · have hy' : y ∈ recs := by rw [hre]; simp [hy]
        rw [hE y hy' g'' hg'']
        simp only [List.contains_eq_mem, decide_eq_false_iff_not]
        intro hm
        have := k.lt _ o _ ho (ho2 ▸ hm)
        have := hl2 y hy
        omega
      have hwh : Rel (CN C h recs D) φ' w' (dfill D r.d.pre recs g') := by
        refine v.rel.whole hle r' (dfill_length) ?_
        intro b x hb
        have hltg : ∀ y ∈ recs, ∀ s x, y.eff = .new s x → s < g'.length := by
          intro y hy s x hys
          obtain ⟨_, rfl, h3⟩ := n.new k hy hys
          have := (n.to k hr e2).2.1
          omega
        rcases dfill_inv ha hltg hb with ⟨y, hy, hye, hyD, hyo⟩ | ⟨_, hg⟩
        · refine .inr ⟨?_, ?_, v.mp y hy b x hye hyD⟩
          · unfold dheap
            exact dfill_new ha hy hye hyD (fun hm => hyo (hout _ hm)) (b1 y hy b x hye)
          · unfold dheap
            rw [hbase, dfill_old]
            · exact b2 y hy b x hye fun hm => hyo (hout _ hm)
            · intro z hz zx hze hzp
              have : z = y := by
                obtain ⟨z1, z2, _⟩ := n.new k hz hze
                obtain ⟨y1, y2, _⟩ := n.new k hy hye
                exact n.same hz hy (n.slotOne k hz hy z1 y1 (by omega))
              subst this
              exact absurd (by simpa using hzp) hyo
        · exact .inl hg
      apply hwh.lessN
      rintro b (hb | ⟨y, hy, hy1, hy2, hy3⟩)
      · exact .inl hb
      · refine .inr ⟨y, hy, hy1, ?_, hy3⟩
        unfold more at hy2
        simp at hy2
        exact hy2.2
  · rename_i hwt
    rw [if_neg hwt]
    simp only [Option.some.injEq] at hs
    have e1 : r.v = nundef := by rw [← hs]
    have e2 : r.eff = .keep := by rw [← hs]
    exact hK φ _ w (hkeep (by rw [e2]; simp) (by rw [e2]; simp) (by rw [e1]; exact VRel.undef))

def left (n : Nat) (D : Nat → Bool) : Nat := ((List.range n).filter fun i => !D i).length

theorem left_lt {n : Nat} {D : Nat → Bool} {i : Nat} (hi : i < n) (hD : D i = false) : left n (more D i) < left n D := by
  unfold left
  have key : ∀ (l : List Nat), i ∈ l → (l.filter fun j => !more D i j).length < (l.filter fun j => !D j).length := by
    have le : ∀ (l : List Nat), (l.filter fun j => !more D i j).length ≤ (l.filter fun j => !D j).length := by
      intro l
      induction l with
      | nil => simp
      | cons x xs ih =>
        simp only [List.filter_cons]
        by_cases hx : x = i
        · subst hx; simp [more, hD] at ih ⊢; omega
        · cases hd : D x <;> simp [more, hx, hd] at ih ⊢ <;> omega
    intro l hl
    induction l with
    | nil => simp at hl
    | cons x xs ih =>
      simp only [List.filter_cons]
      by_cases hx : x = i
      · subst hx
        have := le xs
        simp [more, hD] at this ⊢; omega
      · have hm : i ∈ xs := by
          rcases List.mem_cons.1 hl with h | h
          · exact absurd h.symm hx
          · exact h
        have := ih hm
        cases hd : D x <;> simp [more, hx, hd] at this ⊢ <;> omega
  exact key _ (by simpa using hi)

theorem left_zero {n : Nat} {D : Nat → Bool} (h : left n D = 0) : ∀ i, i < n → D i = true := by
  intro i hi
  unfold left at h
  rw [List.length_eq_zero_iff, List.filter_eq_nil_iff] at h
  have := h i (by simpa using hi)
  simpa using this

theorem sim_any (hS : ∀ i, SpecOK P (S i)) (n : Ran P ops pres slots nA S F0 h recs) (k : DOk P ops pres slots nA) (hCN : ∀ b, C.N b → b < h.length) {QX : Exit → Act → World → Prop}
    (hK : ∀ φ' a' w', Inv C F0 h nA recs (fun _ => true) φ' a' w' → QX .normal a' w') : ∀ (fuel : Nat) (listed : Array Bool) (φ : PMap) (a : Act) (w : World), listed.size = ops.size → left ops.size (fun i => listed.getD i false) ≤ fuel →
    (∀ r ∈ recs, listed.getD r.d.i false = true → ∀ j ∈ r.d.pre, listed.getD j false = true) → Inv C F0 h nA recs (fun i => listed.getD i false) φ a w → wpAny P .any ops QX fuel listed a w := by
  have hfin : ∀ (listed : Array Bool) (φ : PMap) (a : Act) (w : World), (∀ i, i < ops.size → listed.getD i false = true) → Inv C F0 h nA recs (fun i => listed.getD i false) φ a w → QX .normal a w := by
    intro listed φ a w hall v
    have hi : ∀ r ∈ recs, listed.getD r.d.i false = true := by
      intro r hr
      obtain ⟨o, ho, _⟩ := n.op hr
      exact hall _ (by rw [Array.getElem?_eq_some_iff] at ho; exact ho.1)
    refine hK φ a w ⟨?_, v.df, ?_, fun r hr s x he _ => v.mp r hr s x he (hi r hr)⟩
    · rw [dF_congr (S := fun _ => true) (S' := fun i => listed.getD i false) fun r hr => (hi r hr).symm]; exact v.tm
    · have e : dheap (fun _ => true) recs (h ++ List.replicate nA none) = dheap (fun i => listed.getD i false) recs (h ++ List.replicate nA none) := by
        unfold dheap
        rw [dbase_congr (S := fun _ => true) (S' := fun i => listed.getD i false) fun r hr _ _ => (hi r hr).symm,
          dfill_congr (S := fun _ => true) (S' := fun i => listed.getD i false) fun r hr _ _ _ => (hi r hr).symm]
      rw [e]
      apply v.rel.lessN
      rintro b (hb | ⟨y, hy, hy1, hy2, hy3⟩)
      · exact .inl hb
      · cases hy2
  intro fuel
  induction fuel with
  | zero =>
    intro listed φ a w hsz hl hD v
    have hall := left_zero (Nat.le_zero.1 hl)
    refine ⟨?_, hfin listed φ a w hall v⟩
    unfold Region.ready
    rw [List.filter_eq_nil_iff]
    intro i hi
    have hi' : i < ops.size := by simpa using hi
    have := hall i hi'
    have hi2 : i < listed.size := by omega
    have hswap : listed.getD i true = listed.getD i false := by simp [Array.getD, hi2]
    rw [hswap, this]; simp
  | succ fuel ih =>
    intro listed φ a w hsz hl hD v
    refine ⟨fun hr => ?_, fun i hi => ?_⟩
    · refine hfin listed φ a w ?_ v
      intro i
      induction i using Nat.strongRecOn with
      | _ i ihi =>
        intro hi
        cases hd : listed.getD i false with
        | true => rfl
        | false =>
          exfalso
          unfold Region.ready at hr
          rw [List.filter_eq_nil_iff] at hr
          have := hr i (by simpa using hi)
          apply this
          have hi2 : i < listed.size := by omega
          simp only [Array.getD, hi2, dif_pos] at hd
          have ho : ops[i]? = some ops[i] := by simp [hi]
          rw [ho]
          simp only [Array.getD, hi2, dif_pos, Option.map_some, Option.getD_some, Bool.and_eq_true, Bool.not_eq_true', Array.all_eq_true', Bool.or_eq_true]
          refine ⟨hd, fun e he => ?_⟩
          cases hb : Region.binds .any e with
          | false => simp
          | true =>
            right
            have hlt := k.edge i _ e ho (by simpa using he) hb
            have := ihi e.on hlt (by omega)
            simpa [Array.getD] using this
    · have hir : i < ops.size ∧ listed.getD i true = false ∧ ∀ e ∈ (ops[i]?.map (·.after.toList)).getD [], Region.binds .any e = true → listed.getD e.on false = true := by
        unfold Region.ready at hi
        rw [List.mem_filter] at hi
        have h1 : i < ops.size := by simpa using hi.1
        refine ⟨h1, ?_, ?_⟩
        · have := hi.2; simp only [Bool.and_eq_true, Bool.not_eq_true'] at this; exact this.1
        · have := hi.2
          have ho : ops[i]? = some ops[i] := by simp [h1]
          rw [ho] at this ⊢
          simp only [Option.map_some, Option.getD_some, Bool.and_eq_true, Array.all_eq_true', Bool.or_eq_true, Bool.not_eq_true'] at this ⊢
          intro e he hb
          rcases this.2 e (by simpa using he) with h | h
          · rw [hb] at h; cases h
          · exact h
      obtain ⟨h1, h2, h3⟩ := hir
      have ho : ops[i]? = some ops[i] := by simp [h1]
      rw [ho] at h3
      simp only [Option.map_some, Option.getD_some] at h3
      have hi2 : i < listed.size := by omega
      have hDi : listed.getD i false = false := by
        simp only [Array.getD, hi2, dif_pos] at h2 ⊢; exact h2
      have hmore : (fun j => (listed.setIfInBounds i true).getD j false) = more (fun j => listed.getD j false) i := by
        funext j
        unfold more
        by_cases e : j = i
        · subst e; simp [Array.getD, hi2]
        · have e' : i ≠ j := fun h => e h.symm
          simp [Array.getD_eq_getD_getElem?, Array.getElem?_setIfInBounds_ne e', e]
      have hpre : ∀ j ∈ pres.getD i [], listed.getD j false = true := by
        intro j hj
        obtain ⟨e, he, hb, hor⟩ := k.direct i _ j ho hj
        have hon := h3 e he hb
        rcases hor with rfl | hm
        · exact hon
        · have hlt := k.edge i _ e ho he hb
          obtain ⟨m1, x, m2, hx, hxi, _, _⟩ := n.at (i := e.on) (by omega)
          have hxm : x ∈ recs := by rw [hx]; simp
          obtain ⟨u, hu, u1, u2, u3⟩ := n.op hxm
          exact hD x hxm (by rw [hxi]; exact hon) j (by rw [u2, hxi]; exact hm)
      refine sim_dstep hS n k hCN hD h1 hDi hpre v fun φ' a' w' v' => ?_
      rw [← hmore] at v'
      refine ih (listed.setIfInBounds i true) φ' a' w' (by simpa using hsz) ?_ ?_ v'
      · have := left_lt (n := ops.size) (D := fun j => listed.getD j false) h1 hDi
        rw [hmore]; omega
      · intro r hr hri j hj
        have e1 : ∀ j, (listed.setIfInBounds i true).getD j false = more (fun j => listed.getD j false) i j := fun j => congrFun hmore j
        rw [e1] at hri ⊢
        unfold more at hri ⊢
        simp only [Bool.or_eq_true, decide_eq_true_eq] at hri ⊢
        rcases hri with rfl | hri
        · right
          obtain ⟨u, hu, u1, u2, u3⟩ := n.op hr
          exact hpre j (by rw [← u2]; exact hj)
        · right; exact hD r hr hri j hj

end

/-- A drawn region: whatever the order, it comes to what its run comes to. -/
theorem sim_drawnW {P : Program} {ops : Array Oper} {pres : List (List Nat)} {slots : List Nat} {nA : Nat} {S : Nat → Specs} {C : Cx} {F : List NV} {h : Heap} {φ : PMap} {a : Act} {w : World} {K : List NV × Heap → Prop} {QX : Exit → Act → World → Prop}
    (hS : ∀ i, SpecOK P (S i)) (k : dchk P ops pres slots nA = true) (s : Sim C φ F h a w) (e : (ndrawnI S nA (dopers P ops pres slots) F h).all K)
    (hq : ∀ φ' F' h' a' w', K (F', h') → Sim C φ' F' h' a' w' → QX .normal a' w') : wpAny P .any ops QX ops.size (Array.replicate ops.size false) a { w with drawn := w.drawn + 1 } := by
  have k := dok_of k
  obtain ⟨q, hq1, hK⟩ := Res.of_all e
  obtain ⟨recs, hrun, hq2⟩ := Option.bind_eq_some_iff.1 hq1
  split at hq2
  rotate_left
  · cases hq2
  rename_i hlook
  simp only [Option.some.injEq] at hq2
  obtain ⟨rest, h1, h2, h3⟩ := drun_facts hrun
  simp only [List.nil_append] at h1 h3
  subst h1
  have n : Ran P ops pres slots nA S F h recs := ⟨h2, h3, hlook⟩
  have hCN : ∀ b, C.N b → b < h.length := fun b hb => (s.rel.resv b hb).2
  have hgD : ∀ i, (Array.replicate ops.size false).getD i false = false := by
    intro i; simp [Array.getD]
  refine sim_any (C := C) (F0 := F) (h := h) (recs := recs) hS n k hCN ?_ ops.size (Array.replicate ops.size false) φ a _ (by simp) ?_ ?_ ⟨?_, s.defers, ?_, ?_⟩
  · intro φ' a' w' v
    refine hq φ' _ _ a' w' ?_ ⟨v.tm, v.df, v.rel.lessN (N := C.N) fun b hb => .inl hb⟩
    rw [hq2]; exact hK
  · unfold left
    exact Nat.le_trans (List.length_filter_le _ _) (by simp)
  · intro r hr hd; rw [hgD] at hd; cases hd
  · rw [dF_none fun r hr => hgD _]; exact s.tmps
  · have hh : dheap (fun i => (Array.replicate ops.size false).getD i false) recs (h ++ List.replicate nA none) = h ++ List.replicate nA none := by
      unfold dheap
      rw [dbase_none fun r hr g _ => hgD _, dfill_none fun r hr _ _ _ => hgD _]
    rw [hh]
    refine (Rel.drew s.rel).pad ?_
    rintro b (hb | ⟨y, hy, hy1, hy2, hy3⟩)
    · exact .inl hb
    · obtain ⟨o, ho, o1, o2, o3⟩ := n.op hy
      have := k.slot _ o ho (by rw [← o1]; exact hy1)
      right; rw [hy3, o3]; omega
  · intro r hr s' x _ hd; rw [hgD] at hd; cases hd

theorem sim_drawnI {P : Program} {id : Nat} {ops : Array Oper} {pres : List (List Nat)} {slots : List Nat} {nA : Nat} {S : Nat → Specs} {C : Cx} {F : List NV} {h : Heap} {φ : PMap} {a : Act} {w : World} {K : List NV × Heap → Prop} {QX : Exit → Act → World → Prop}
    (hm : P.follows .mixedOrders = true) (hS : ∀ i, SpecOK P (S i)) (k : dchk P ops pres slots nA = true) (s : Sim C φ F h a w) (e : (ndrawnI S nA (dopers P ops pres slots) F h).all K)
    (hq : ∀ φ' F' h' a' w', K (F', h') → Sim C φ' F' h' a' w' → QX .normal a' w') : (Code.region id ops true).wp P QX a w :=
  wp_region_any hm (sim_drawnW hS k s e hq)

theorem sim_drawn {P : Program} {id : Nat} {ops : Array Oper} {pres : List (List Nat)} {slots : List Nat} {nA : Nat} {S : Specs} {C : Cx} {F : List NV} {h : Heap} {φ : PMap} {a : Act} {w : World} {K : List NV × Heap → Prop} {QX : Exit → Act → World → Prop}
    (hm : P.follows .mixedOrders = true) (hS : SpecOK P S) (k : dchk P ops pres slots nA = true) (s : Sim C φ F h a w) (e : (ndrawn S nA (dopers P ops pres slots) F h).all K)
    (hq : ∀ φ' F' h' a' w', K (F', h') → Sim C φ' F' h' a' w' → QX .normal a' w') : (Code.region id ops true).wp P QX a w :=
  sim_drawnI hm (fun _ => hS) k s e hq

end Go.Ns
