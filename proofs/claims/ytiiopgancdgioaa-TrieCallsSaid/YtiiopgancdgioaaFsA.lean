/- Code over frames that are functions, in the form of predicates: what the proofs about single functions are made with. -/
import Derived.Test.YtiiopgancdgioaaNsR
import Derived.Test.YtiiopgancdgioaaNsV
set_option linter.unusedVariables false
set_option linter.unusedSimpArgs false
namespace Go.Ns

abbrev FF := Nat → NV
abbrev FK := Ctl → FF → Heap → Prop
def toF (F : List NV) : FF := fun t => F.getD t nundef
def upd (F : FF) (d : Nat) (v : NV) : FF := fun t => if t = d then v else F t
def fval (F : FF) : NOpd → NV
  | .tmp t => F t
  | .const v => v
  | .bad => nundef
def fput (F : FF) (d : Option Nat) (v : NV) : FF := match d with | some d => upd F d v | none => F
def fwanted (F : FF) : Option (Nat × Bool) → Bool
  | none => true
  | some (t, w) => nbool? (F t) == some w

/-- A call with a contract. -/
def NCall (P : Program) (f : Nat) (args : List NV) (h : Heap) (Q : NV × Heap → Prop) : Prop := goodFn P f = true ∧ NFun P f args h (fun r => Q r ∧ h.length ≤ r.2.length)

/-- A program, and what some of its functions come to. -/
structure Env where
  P : Program
  S : Specs
  ok : SpecOK P S
  /-- Are all calls to come to one result? -/
  det : Bool

def failS : Specs := fun _ _ _ => .fail

def isFail {α : Type} : Res α → Bool
  | .fail => true
  | _ => false

def callC (S : Env) (f : Nat) (args : List NV) (h : Heap) (K : NV → Heap → Prop) : Prop :=
  if S.det then
    if isFail (S.S f args h) then ∃ v g, NCall S.P f args h (fun q => q = (v, g)) ∧ K v g else ∃ q, Res.one (S.S f args h) = some q ∧ K q.1 q.2
  else
    if isFail (S.S f args h) then ∃ Q, NCall S.P f args h Q ∧ ∀ v h', Q (v, h') → K v h' else (S.S f args h).all fun r => K r.1 r.2

def xop (S : Env) (ρ : NOpd → NV) (h : Heap) (op : NOp) (K : NV → Heap → Prop) : Prop :=
  match op with
  | .call f args => callC S f (args.map ρ) h K
  | .callv x args =>
    match ρ x with
    | .func (.func f) first captured => callC S f (first ++ args.map ρ ++ captured) h K
    | _ => False
  | .next m => S.det = false ∧ (nop ρ failS h (.next m)).all fun r => K r.1 r.2
  | op => (nop ρ failS h op).all fun r => K r.1 r.2

theorem failS_ok (P : Program) : SpecOK P failS := fun _ _ _ _ e => e.elim

open Classical in
/-- One contract, as a specification. -/
noncomputable def oneS (f : Nat) (args : List NV) (h : Heap) (Q : NV × Heap → Prop) : Specs := fun g a k => if g = f ∧ a = args ∧ k = h then .pick Q .ok else .fail

theorem oneS_ok {P : Program} {f : Nat} {args : List NV} {h : Heap} {Q : NV × Heap → Prop} (c : NCall P f args h Q) : SpecOK P (oneS f args h Q) := by
  intro g a k Q' e
  unfold oneS at e
  split at e
  · rename_i hh
    obtain ⟨rfl, rfl, rfl⟩ := hh
    refine ⟨c.1, fun C φ w vargs hv r => Calls.mono (c.2 C φ w vargs hv r) ?_⟩
    rintro ex w' ⟨v, rfl, nv, k, φ', hq, rest⟩
    exact ⟨v, rfl, nv, k, φ', ⟨e _ hq.1, hq.2⟩, rest⟩
  · exact e.elim

theorem callC_sound {S : Env} {f : Nat} {args : List NV} {h : Heap} {K : NV → Heap → Prop} (e : callC S f args h K) : ∃ S', SpecOK S.P S' ∧ (S' f args h).all fun r => K r.1 r.2 := by
  unfold callC at e
  have rel : ∀ Q, NCall S.P f args h Q → (∀ v h', Q (v, h') → K v h') → ∃ S', SpecOK S.P S' ∧ (S' f args h).all fun r => K r.1 r.2 := by
    intro Q hc hk
    refine ⟨_, oneS_ok hc, ?_⟩
    unfold oneS
    rw [if_pos ⟨rfl, rfl, rfl⟩]
    exact fun q hq => hk q.1 q.2 hq
  split at e
  · split at e
    · obtain ⟨v, g, hc, hk⟩ := e
      exact rel _ hc fun v' h' hq => by cases hq; exact hk
    · obtain ⟨q, hq, hk⟩ := e
      exact ⟨S.S, S.ok, by rw [Res.one_inv hq]; exact hk⟩
  · split at e
    · obtain ⟨Q, hc, hk⟩ := e
      exact rel Q hc hk
    · exact ⟨S.S, S.ok, e⟩

theorem xop_sound {S : Env} {ρ : NOpd → NV} {h : Heap} {op : NOp} {K : NV → Heap → Prop} (e : xop S ρ h op K) : ∃ S', SpecOK S.P S' ∧ (nop ρ S' h op).all fun r => K r.1 r.2 := by
  unfold xop at e
  split at e
  · exact callC_sound e
  · split at e
    · rename_i hx
      obtain ⟨S', h1, h2⟩ := callC_sound e
      refine ⟨S', h1, ?_⟩
      simp only [nop, cls, neff, hx]
      exact h2
    · exact e.elim
  · exact ⟨failS, failS_ok _, e.2⟩
  · exact ⟨failS, failS_ok _, e⟩

theorem callC_mono {S : Env} {f : Nat} {args : List NV} {h : Heap} {K K' : NV → Heap → Prop} (hk : ∀ v h, K v h → K' v h) (e : callC S f args h K) : callC S f args h K' := by
  unfold callC at e ⊢
  split at e
  · rename_i hd
    rw [if_pos hd]
    split at e
    · rename_i hf; rw [if_pos hf]; obtain ⟨v, g, h1, h2⟩ := e; exact ⟨v, g, h1, hk _ _ h2⟩
    · rename_i hf; rw [if_neg hf]; obtain ⟨q, h1, h2⟩ := e; exact ⟨q, h1, hk _ _ h2⟩
  · rename_i hd
    rw [if_neg hd]
    split at e
    · rename_i hf; rw [if_pos hf]; obtain ⟨Q, h1, h2⟩ := e; exact ⟨Q, h1, fun v h' hq => hk _ _ (h2 v h' hq)⟩
    · rename_i hf; rw [if_neg hf]; exact Res.all_mono (fun _ h => hk _ _ h) e

theorem xop_mono {S : Env} {ρ : NOpd → NV} {h : Heap} {op : NOp} {K K' : NV → Heap → Prop} (hk : ∀ v h, K v h → K' v h) (e : xop S ρ h op K) : xop S ρ h op K' := by
  unfold xop at e ⊢
  split at e
  · exact callC_mono hk e
  · split at e
    · exact callC_mono hk e
    · exact e.elim
  · exact ⟨e.1, Res.all_mono (fun _ h => hk _ _ h) e.2⟩
  · exact Res.all_mono (fun _ h => hk _ _ h) e

/-- Where all calls come to one result, an operation does. -/
theorem callC_det {S : Env} (hd : S.det = true) {f : Nat} {args : List NV} {h : Heap} {K : NV → Heap → Prop} (e : callC S f args h K) : ∃ v g, K v g ∧ callC S f args h fun v' g' => v' = v ∧ g' = g := by
  unfold callC at e ⊢
  rw [if_pos hd] at e
  simp only [hd, if_true]
  split at e
  · rename_i hf; obtain ⟨v, g, h1, h2⟩ := e; exact ⟨v, g, h2, by rw [if_pos hf]; exact ⟨v, g, h1, rfl, rfl⟩⟩
  · rename_i hf; obtain ⟨q, h1, h2⟩ := e; exact ⟨q.1, q.2, h2, by rw [if_neg hf]; exact ⟨q, h1, rfl, rfl⟩⟩

theorem Res.of_det {o : Option (NV × Heap)} {K : NV → Heap → Prop} (e : (Res.of o).all fun r => K r.1 r.2) : ∃ v g, K v g ∧ (Res.of o).all fun r => r.1 = v ∧ r.2 = g := by
  obtain ⟨q, rfl, hq⟩ := Res.of_all e
  exact ⟨q.1, q.2, hq, rfl, rfl⟩

theorem xop_det {S : Env} (hd : S.det = true) {ρ : NOpd → NV} {h : Heap} {op : NOp} {K : NV → Heap → Prop} (e : xop S ρ h op K) : ∃ v g, K v g ∧ xop S ρ h op fun v' g' => v' = v ∧ g' = g := by
  unfold xop at e ⊢
  split at e
  · exact callC_det hd e
  · split at e
    · exact callC_det hd e
    · exact e.elim
  · rw [hd] at e; exact absurd e.1 (by simp)
  · rename_i h1 h2 h3
    have key : ∀ r : Res (NV × Heap), (nop ρ failS h op) = r → (∃ o, r = Res.of o) ∨ r = .fail → ∃ v g, K v g ∧ (nop ρ failS h op).all fun r => r.1 = v ∧ r.2 = g := by
      rintro r hr (⟨o, rfl⟩ | rfl)
      · rw [hr] at e ⊢; exact Res.of_det e
      · rw [hr] at e; exact e.elim
    refine key _ rfl ?_
    cases op <;> first
      | (simp only [nop, cls, neff]; exact .inl ⟨_, rfl⟩)
      | exact .inl ⟨_, rfl⟩
      | exact .inr rfl
      | exact absurd rfl (h1 _ _)
      | exact absurd rfl (h2 _ _)
      | exact absurd rfl (h3 _)
      | (simp only [nop, cls, neff]
         split
         · split
           · exact .inl ⟨_, rfl⟩
           · exact .inr rfl
         · exact .inr rfl)

def fops (S : Env) : List NOper → FF → Heap → (FF → Heap → Prop) → Prop
  | [], F, h, K => K F h
  | o :: os, F, h, K => if fwanted F o.guard then xop S (fval F) h o.op (fun v h => fops S os (fput F o.dst v) h K) else fops S os (fput F o.dst nundef) h K

theorem nval_toF (F : List NV) : nval F = fval (toF F) := by
  funext o
  cases o <;> rfl

theorem nwanted_toF (F : List NV) (g : Option (Nat × Bool)) : nwanted F g = fwanted (toF F) g := by
  cases g with
  | none => rfl
  | some q =>
    obtain ⟨t, w⟩ := q
    simp only [nwanted, fwanted, toF, List.getD_eq_getElem?_getD]
    cases F[t]? with
    | none => rfl
    | some v => rfl

def lowD (n : Nat) : Option Nat → Bool
  | some d => decide (d < n)
  | none => true

theorem toF_nput {F : List NV} {d : Option Nat} {v : NV} (h : lowD F.length d = true) : toF (nput F d v) = fput (toF F) d v := by
  cases d with
  | none => rfl
  | some d =>
    simp only [lowD, decide_eq_true_eq] at h
    funext t
    simp only [toF, nput, fput, upd, List.getD_eq_getElem?_getD]
    by_cases e : t = d
    · subst e; simp [h]
    · rw [if_neg e, List.getElem?_set_ne (fun x => e x.symm)]

/-- A region in order. -/
theorem sim_fops {E : Env} {n : Nat} {C : Cx} {ops : Array Oper} {QX : Exit → Act → World → Prop} {K : FF → Heap → Prop} : ∀ (l : List Oper) {φ : PMap} {F : List NV} {h : Heap} {a : Act} {w : World}, Sim C φ F h a w →
    (l.map (coper E.P ops)).all (fun o => lowD n o.dst) = true → F.length = n → fops E (l.map (coper E.P ops)) (toF F) h K →
    (∀ φ' F' h' a' w', F'.length = n → K (toF F') h' → Sim C φ' F' h' a' w' → QX .normal a' w') → wpList E.P ops QX l a w
  | [], φ, F, h, a, w, s, _, hn, e, hq => hq φ F h a w hn e s
  | o :: l, φ, F, h, a, w, s, hl, hn, e, hq => by
    simp only [List.map_cons, List.all_cons, Bool.and_eq_true] at hl
    simp only [List.map_cons, fops] at e
    rw [← nwanted_toF, ← nval_toF] at e
    have hgd : ∀ j want, o.guard = some (j, want) → ((ops[j]?).bind (·.dst)).isSome = true := by
      apply coper_guard (P := E.P)
      by_cases hg : (coper E.P ops o).guard = none
      · left; intro hf
        rw [hg, hf] at e
        simp only [nwanted, if_true] at e
        exact e
      · exact .inr hg
    have hw := wanted_rel (P := E.P) s.tmps hgd
    unfold wpList
    rw [hw]
    split at e
    · rename_i hwt
      rw [if_pos hwt]
      left
      rw [coper_op hgd] at e
      obtain ⟨S', hS', e⟩ := xop_sound e
      unfold Oper.wp
      refine sim_nop hS' s.tmps s.rel e fun v w' hp => ?_
      obtain ⟨nv, h', φ', ⟨hQ, _⟩, hle, hv, r'⟩ := hp
      simp only at hQ
      rw [coper_dst, ← toF_nput (by rw [hn, ← coper_dst (P := E.P) (ops := ops)]; exact hl.1)] at hQ
      exact sim_fops l ⟨put_rel s.tmps hle hv o.dst, by rw [put_defers]; exact s.defers, r'⟩ hl.2 (by rw [nput_length]; exact hn) hQ hq
    · rename_i hwt
      rw [if_neg hwt]
      rw [coper_dst, ← toF_nput (by rw [hn, ← coper_dst (P := E.P) (ops := ops)]; exact hl.1)] at e
      exact sim_fops l ⟨put_rel s.tmps (PMap.le.refl _) VRel.undef o.dst, by rw [put_defers]; exact s.defers, s.rel⟩ hl.2 (by rw [nput_length]; exact hn) e hq

/-! ### Drawn regions -/

def strip (r : DRec) : DRec := ⟨r.d, [], r.v, r.eff⟩

theorem dbase_strip {D : Nat → Bool} : ∀ (recs : List DRec) (b : Heap × List Nat), dbase D (recs.map strip) b = dbase D recs b
  | [], _ => rfl
  | r :: rs, b => by simp only [List.map_cons, dbase, strip]; exact dbase_strip rs _
theorem dfill_strip {D : Nat → Bool} {out : List Nat} : ∀ (recs : List DRec) (h : Heap), dfill D out (recs.map strip) h = dfill D out recs h
  | [], _ => rfl
  | r :: rs, h => by simp only [List.map_cons, dfill, strip]; exact dfill_strip rs _
theorem dheap_strip {D : Nat → Bool} (recs : List DRec) (h : Heap) : dheap D (recs.map strip) h = dheap D recs h := by
  unfold dheap; rw [dbase_strip, dfill_strip]

structure FRec where
  r : DRec
  F : FF

def fdstep (S : Nat → Specs) (n0 : Nat) (all : List DOper) (recs : List FRec) (F : FF) (h : Heap) (d : DOper) (K : NV → Eff → Prop) : Prop :=
  if fwanted F d.o.guard then
    match cls d.o.op with
    | .P => ∃ v, npure (fval F) d.o.op = some v ∧ K v .keep
    | .L => ∃ v, nread (fval F) (dheap d.pre.contains (recs.map (·.r)) h) d.o.op = some v ∧ K v .look
    | .A => ∃ p, nalloc (fval F) d.o.op = some p ∧ K (p.2 (n0 + d.slot)) (.new (n0 + d.slot) p.1)
    | .E => ∃ q, Res.one (neff (fval F) (S d.i) (dheap d.pre.contains (recs.map (·.r)) h) d.o.op) = some q ∧ h.length ≤ q.2.length ∧
        (all.all fun e => !isA e.o.op || (d.pre.contains e.i || (hget q.2 (n0 + e.slot)).isNone)) = true ∧ K q.1 (.to q.2)
  else K nundef .keep

def fdrun (S : Nat → Specs) (n0 : Nat) (all : List DOper) (h : Heap) (K : List FRec → FF → Prop) : List DOper → List FRec → FF → Prop
  | [], recs, F => K recs F
  | d :: ds, recs, F => fdstep S n0 all recs F h d fun v e => fdrun S n0 all h K ds (recs ++ [⟨⟨d, [], v, e⟩, F⟩]) (fput F d.o.dst v)

def fdlook (recs : List FRec) : Prop :=
  ∀ x ∈ recs, match x.r.eff with
    | .look => ∀ e ∈ recs, match e.r.eff with
      | .to g => e.r.d.pre.contains x.r.d.i = true ∨ x.r.d.pre.contains e.r.d.i = true ∨ nread (fval x.F) (dfill x.r.d.pre.contains e.r.d.pre (recs.map (·.r)) g) x.r.d.o.op = some x.r.v
      | _ => True
    | _ => True

/-- A drawn region. -/
def fdraw (S : Nat → Specs) (nA : Nat) (ds : List DOper) (F : FF) (h : Heap) (K : FF → Heap → Prop) : Prop :=
  fdrun S h.length ds (h ++ List.replicate nA none) (fun recs F' => fdlook recs ∧ K F' (dheap (fun _ => true) (recs.map (·.r)) (h ++ List.replicate nA none))) ds [] F

def frec (r : DRec) : FRec := ⟨strip r, toF r.F⟩

theorem frec_map (recs : List DRec) : (recs.map frec).map (·.r) = recs.map strip := by simp [frec]

theorem dF_all : ∀ {recs : List DRec} {F : List NV}, dF (fun _ => true) recs F = recs.foldl (fun F r => nput F r.d.o.dst r.v) F
  | [], _ => rfl
  | r :: rs, F => by simp only [dF, if_true, List.foldl_cons]; exact dF_all

theorem drun_of {S : Nat → Specs} {n0 : Nat} {all : List DOper} {h : Heap} {K : List FRec → FF → Prop} {n : Nat} {F0 : List NV} : ∀ {ds : List DOper} {recs : List DRec} {F : List NV}, ds.all (fun d => lowD n d.o.dst) = true → F.length = n →
    F = dF (fun _ => true) recs F0 → fdrun S n0 all h K ds (recs.map frec) (toF F) → ∃ recs' F', drun S n0 all h ds recs F = some recs' ∧ F' = dF (fun _ => true) recs' F0 ∧ F'.length = n ∧ K (recs'.map frec) (toF F')
  | [], recs, F, _, hn, hF, e => ⟨recs, F, rfl, hF, hn, e⟩
  | d :: ds, recs, F, hl, hn, hF, e => by
    simp only [List.all_cons, Bool.and_eq_true] at hl
    have go : ∀ v ef, fdrun S n0 all h K ds (recs.map frec ++ [⟨⟨d, [], v, ef⟩, toF F⟩]) (fput (toF F) d.o.dst v) → dstep S n0 all recs F h d = some ⟨d, F, v, ef⟩ →
        ∃ recs' F', drun S n0 all h (d :: ds) recs F = some recs' ∧ F' = dF (fun _ => true) recs' F0 ∧ F'.length = n ∧ K (recs'.map frec) (toF F') := by
      intro v ef k hs
      have h1 : recs.map frec ++ [⟨⟨d, [], v, ef⟩, toF F⟩] = (recs ++ [(⟨d, F, v, ef⟩ : DRec)]).map frec := by simp [frec, strip]
      rw [h1, ← toF_nput (by rw [hn]; exact hl.1)] at k
      obtain ⟨recs', F', h2, h3, h4, h5⟩ := drun_of (recs := recs ++ [⟨d, F, v, ef⟩]) (F := nput F d.o.dst v) hl.2 (by rw [nput_length]; exact hn) (by rw [dF_append, ← hF]; rfl) k
      refine ⟨recs', F', ?_, h3, h4, h5⟩
      simp only [drun, hs, Option.bind_some]
      exact h2
    simp only [fdrun, fdstep] at e
    rw [frec_map, dheap_strip] at e
    split at e
    · rename_i hg
      rw [← nwanted_toF] at hg
      split at e
      · rename_i hc
        obtain ⟨v, hv, k⟩ := e
        exact go v _ k (by unfold dstep; rw [if_pos hg]; simp only [hc, nval_toF, hv, Option.map_some])
      · rename_i hc
        obtain ⟨v, hv, k⟩ := e
        exact go v _ k (by unfold dstep; rw [if_pos hg]; simp only [hc, nval_toF, hv, Option.map_some])
      · rename_i hc
        obtain ⟨v, hv, k⟩ := e
        exact go _ _ k (by unfold dstep; rw [if_pos hg]; simp only [hc, nval_toF, hv, Option.map_some])
      · rename_i hc
        obtain ⟨q, hq, h1, h2, k⟩ := e
        exact go _ _ k (by unfold dstep; rw [if_pos hg]; simp only [hc, nval_toF, hq, Option.bind_some]; rw [if_pos (by rw [h2]; simpa using h1)])
    · rename_i hg
      rw [← nwanted_toF] at hg
      exact go _ _ e (by unfold dstep; rw [if_neg hg])

theorem draw_of_fdraw {S : Nat → Specs} {n nA : Nat} {ds : List DOper} {F : List NV} {h : Heap} {K : FF → Heap → Prop} (hl : ds.all (fun d => lowD n d.o.dst) = true) (hn : F.length = n) (e : fdraw S nA ds (toF F) h K) :
    (ndrawnI S nA ds F h).all fun r => r.1.length = n ∧ K (toF r.1) r.2 := by
  obtain ⟨recs, F', h1, h2, h3, h4, h5⟩ := drun_of (recs := []) (F0 := F) hl hn rfl e
  unfold ndrawnI
  rw [h1]
  simp only [Option.bind_some]
  have hlook : dlook recs = true := by
    unfold dlook
    rw [List.all_eq_true]
    intro r hr
    have := h4 (frec r) (List.mem_map_of_mem hr)
    split
    · rename_i hef
      simp only [frec, strip, hef] at this
      rw [List.all_eq_true]
      intro e he
      have h6 := this (frec e) (List.mem_map_of_mem he)
      split
      · rename_i g hg
        simp only [frec, strip, hg] at h6
        rcases h6 with h6 | h6 | h6
        · rw [h6]; rfl
        · rw [h6]; simp
        · rw [show (recs.map fun r => (frec r)).map (·.r) = recs.map strip from frec_map recs, dfill_strip, ← nval_toF] at h6
          rw [h6]; simp [NV.eqb_self]
      · rfl
    · rfl
  rw [hlook]
  simp only [if_true, Res.of, Res.all]
  rw [← h2]
  refine ⟨h3, ?_⟩
  rw [frec_map, dheap_strip] at h5
  exact h5

/-! ### Drawn regions, step by step -/

/-- An effect in a drawn region. -/
structure ER where
  i : Nat
  pre : List Nat
  eff : Eff

/-- A look into memory in a drawn region. -/
structure LR where
  i : Nat
  pre : List Nat
  op : NOp
  F : FF
  v : NV

def ebase (D : Nat → Bool) : List ER → Heap × List Nat → Heap × List Nat
  | [], b => b
  | r :: rs, b => ebase D rs (match r.eff with | .to g => if D r.i then (g, r.pre) else b | _ => b)

def efill (D : Nat → Bool) (out : List Nat) : List ER → Heap → Heap
  | [], h => h
  | r :: rs, h => efill D out rs (match r.eff with | .new s x => if D r.i && !out.contains r.i then hset h s x else h | _ => h)

def eheap (D : Nat → Bool) (es : List ER) (h : Heap) : Heap := efill D (ebase D es (h, [])).2 es (ebase D es (h, [])).1

def callD (E : Env) (f : Nat) (args : List NV) (h : Heap) (K : NV → Heap → Prop) : Prop :=
  if isFail (E.S f args h) then ∃ v g, NCall E.P f args h (fun q => q = (v, g)) ∧ K v g else ∃ q, Res.one (E.S f args h) = some q ∧ K q.1 q.2

def eop (E : Env) (ρ : NOpd → NV) (h : Heap) (op : NOp) (K : NV → Heap → Prop) : Prop :=
  match op with
  | .call f args => callD E f (args.map ρ) h K
  | .callv x args =>
    match ρ x with
    | .func (.func f) first captured => callD E f (first ++ args.map ρ ++ captured) h K
    | _ => False
  | op => ∃ q, Res.one (neff ρ failS h op) = some q ∧ K q.1 q.2

def resvOK (as : List (Nat × Nat)) (pre : List Nat) (n0 : Nat) (g : Heap) : Prop := ∀ a ∈ as, pre.contains a.1 = true ∨ hget g (n0 + a.2) = none

def lookOne (es : List ER) (l : LR) (e : ER) : Prop :=
  match e.eff with
  | .to g => if e.pre.contains l.i || l.pre.contains e.i then True else nread (fval l.F) (efill l.pre.contains e.pre es g) l.op = some l.v
  | _ => True

def looksOK (es : List ER) (ls : List LR) : Prop := ∀ l ∈ ls, ∀ e ∈ es, lookOne es l e

def edstep (E : Env) (n0 : Nat) (as : List (Nat × Nat)) (h0 : Heap) (es : List ER) (ls : List LR) (F : FF) (d : DOper) (K : NV → List ER → List LR → Prop) : Prop :=
  if fwanted F d.o.guard then
    match cls d.o.op with
    | .P => xop E (fval F) [] d.o.op fun v _ => K v es ls
    | .L => xop E (fval F) (eheap d.pre.contains es h0) d.o.op fun v _ => K v es (ls ++ [⟨d.i, d.pre, d.o.op, F, v⟩])
    | .A => ∃ p, nalloc (fval F) d.o.op = some p ∧ K (p.2 (n0 + d.slot)) (es ++ [⟨d.i, d.pre, .new (n0 + d.slot) p.1⟩]) ls
    | .E => eop E (fval F) (eheap d.pre.contains es h0) d.o.op fun v g => (h0.length ≤ g.length ∧ resvOK as d.pre n0 g) ∧ K v (es ++ [⟨d.i, d.pre, .to g⟩]) ls
  else K nundef es ls

def edrun (E : Env) (n0 : Nat) (as : List (Nat × Nat)) (h0 : Heap) (K : List ER → List LR → FF → Prop) : List DOper → List ER → List LR → FF → Prop
  | [], es, ls, F => K es ls F
  | d :: ds, es, ls, F => edstep E n0 as h0 es ls F d fun v es ls => edrun E n0 as h0 K ds es ls (fput F d.o.dst v)

def aslots (ds : List DOper) : List (Nat × Nat) := (ds.filter fun e => isA e.o.op).map fun e => (e.i, e.slot)

def sortedI : List Nat → Bool
  | a :: b :: l => decide (a < b) && sortedI (b :: l)
  | _ => true

def srt : List DOper → Nat → Bool
  | [], _ => true
  | d :: ds, n => decide (n ≤ d.i) && srt ds (d.i + 1)

theorem srt_sorted : ∀ {ds : List DOper} {n : Nat}, srt ds n = true → sortedI (ds.map (·.i)) = true
  | [], _, _ => rfl
  | [d], _, _ => rfl
  | d :: e :: ds, n, h => by
    simp only [srt, Bool.and_eq_true, decide_eq_true_eq] at h
    have h2 : srt (e :: ds) (d.i + 1) = true := by simp only [srt, Bool.and_eq_true, decide_eq_true_eq]; exact h.2
    have h1 := srt_sorted h2
    simp only [List.map_cons, sortedI, Bool.and_eq_true, decide_eq_true_eq] at h1 ⊢
    exact ⟨by have := h.2.1; omega, h1⟩

/-- A drawn region. -/
def edraw (E : Env) (nA : Nat) (ds : List DOper) (F : FF) (h : Heap) (K : FF → Heap → Prop) : Prop :=
  srt ds 0 = true ∧ edrun E h.length (aslots ds) (h ++ List.replicate nA none) (fun es ls F => looksOK es ls ∧ K F (eheap (fun _ => true) es (h ++ List.replicate nA none))) ds [] [] F

def erOf (r : FRec) : Option ER := match r.r.eff with | .keep | .look => none | e => some ⟨r.r.d.i, r.r.d.pre, e⟩
def lrOf (r : FRec) : Option LR := match r.r.eff with | .look => some ⟨r.r.d.i, r.r.d.pre, r.r.d.o.op, r.F, r.r.v⟩ | _ => none

theorem dbase_er {D : Nat → Bool} : ∀ (recs : List FRec) (b : Heap × List Nat), dbase D (recs.map (·.r)) b = ebase D (recs.filterMap erOf) b
  | [], _ => rfl
  | r :: rs, b => by
    simp only [List.map_cons, dbase]
    rw [dbase_er rs]
    cases he : r.r.eff with
    | keep => rw [List.filterMap_cons_none (by simp [erOf, he])]
    | look => rw [List.filterMap_cons_none (by simp [erOf, he])]
    | new s x => rw [List.filterMap_cons_some (b := ⟨r.r.d.i, r.r.d.pre, .new s x⟩) (by simp [erOf, he])]; rfl
    | to g => rw [List.filterMap_cons_some (b := ⟨r.r.d.i, r.r.d.pre, .to g⟩) (by simp [erOf, he])]; rfl

theorem dfill_er {D : Nat → Bool} {out : List Nat} : ∀ (recs : List FRec) (h : Heap), dfill D out (recs.map (·.r)) h = efill D out (recs.filterMap erOf) h
  | [], _ => rfl
  | r :: rs, b => by
    simp only [List.map_cons, dfill]
    rw [dfill_er rs]
    cases he : r.r.eff with
    | keep => rw [List.filterMap_cons_none (by simp [erOf, he])]
    | look => rw [List.filterMap_cons_none (by simp [erOf, he])]
    | new s x => rw [List.filterMap_cons_some (b := ⟨r.r.d.i, r.r.d.pre, .new s x⟩) (by simp [erOf, he])]; rfl
    | to g => rw [List.filterMap_cons_some (b := ⟨r.r.d.i, r.r.d.pre, .to g⟩) (by simp [erOf, he])]; rfl

theorem dheap_er {D : Nat → Bool} (recs : List FRec) (h : Heap) : dheap D (recs.map (·.r)) h = eheap D (recs.filterMap erOf) h := by
  unfold dheap eheap; rw [dbase_er, dfill_er]

theorem mem_sorted_lt : ∀ {l : List Nat} {a : Nat}, sortedI (a :: l) = true → ∀ x ∈ l, a < x
  | [], _, _, x, hx => by cases hx
  | b :: l, a, h, x, hx => by
    simp only [sortedI, Bool.and_eq_true, decide_eq_true_eq] at h
    rcases List.mem_cons.1 hx with rfl | hx
    · exact h.1
    · exact Nat.lt_trans h.1 (mem_sorted_lt h.2 x hx)

theorem sortedI_tail {l : List Nat} {a : Nat} (h : sortedI (a :: l) = true) : sortedI l = true := by
  cases l with
  | nil => rfl
  | cons b l => simp only [sortedI, Bool.and_eq_true] at h; exact h.2

open Classical in
noncomputable def oneD (f : Nat) (args : List NV) (h : Heap) (q : NV × Heap) : Specs := fun g a k => if g = f ∧ a = args ∧ k = h then .ok q else .fail

theorem oneD_ok {P : Program} {f : Nat} {args : List NV} {h : Heap} {q : NV × Heap} (c : NCall P f args h (fun r => r = q)) : SpecOK P (oneD f args h q) := by
  intro g a k Q' e
  unfold oneD at e
  split at e
  · rename_i hh
    obtain ⟨rfl, rfl, rfl⟩ := hh
    refine ⟨c.1, fun C φ w vargs hv r => Calls.mono (c.2 C φ w vargs hv r) ?_⟩
    rintro ex w' ⟨v, rfl, nv, k, φ', hq, rest⟩
    exact ⟨v, rfl, nv, k, φ', ⟨by rw [hq.1]; exact e, hq.2⟩, rest⟩
  · exact e.elim

theorem callD_sound {E : Env} {f : Nat} {args : List NV} {h : Heap} {K : NV → Heap → Prop} (e : callD E f args h K) : ∃ S', SpecOK E.P S' ∧ ∃ q, Res.one (S' f args h) = some q ∧ K q.1 q.2 := by
  unfold callD at e
  split at e
  · obtain ⟨v, g, hc, hk⟩ := e
    exact ⟨_, oneD_ok hc, (v, g), by unfold oneD; rw [if_pos ⟨rfl, rfl, rfl⟩]; rfl, hk⟩
  · exact ⟨E.S, E.ok, e⟩

theorem eop_sound {E : Env} {ρ : NOpd → NV} {h : Heap} {op : NOp} {K : NV → Heap → Prop} (e : eop E ρ h op K) : ∃ S', SpecOK E.P S' ∧ ∃ q, Res.one (neff ρ S' h op) = some q ∧ K q.1 q.2 := by
  unfold eop at e
  split at e
  · exact callD_sound e
  · split at e
    · rename_i hx
      obtain ⟨S', h1, h2⟩ := callD_sound e
      refine ⟨S', h1, ?_⟩
      simp only [neff, hx]
      exact h2
    · exact e.elim
  · exact ⟨failS, failS_ok _, e⟩

theorem xop_look {E : Env} {ρ : NOpd → NV} {h : Heap} {op : NOp} {K : NV → Heap → Prop} (hc : cls op ≠ .E) : xop E ρ h op K = (nop ρ failS h op).all fun r => K r.1 r.2 := by
  cases op <;> first | rfl | exact absurd rfl hc

theorem edrun_sound {E : Env} {n0 : Nat} {all : List DOper} {h0 : Heap} {K : List ER → List LR → FF → Prop} : ∀ (ds : List DOper) (recs : List FRec) (F : FF), sortedI (ds.map (·.i)) = true →
    edrun E n0 (aslots all) h0 K ds (recs.filterMap erOf) (recs.filterMap lrOf) F →
    ∃ S' : Nat → Specs, (∀ i, SpecOK E.P (S' i)) ∧ ∀ S'' : Nat → Specs, (∀ d ∈ ds, S'' d.i = S' d.i) → fdrun S'' n0 all h0 (fun recs F => K (recs.filterMap erOf) (recs.filterMap lrOf) F) ds recs F
  | [], recs, F, _, e => ⟨fun _ => failS, fun _ => failS_ok _, fun _ _ => e⟩
  | d :: ds, recs, F, hs, e => by
    simp only [List.map_cons] at hs
    have hlt := mem_sorted_lt hs
    have hs' := sortedI_tail hs
    have push : ∀ (v : NV) (ef : Eff) (es : List ER) (ls : List LR), (recs ++ [(⟨⟨d, [], v, ef⟩, F⟩ : FRec)]).filterMap erOf = es → (recs ++ [(⟨⟨d, [], v, ef⟩, F⟩ : FRec)]).filterMap lrOf = ls →
        edrun E n0 (aslots all) h0 K ds es ls (fput F d.o.dst v) →
        ∃ S' : Nat → Specs, (∀ i, SpecOK E.P (S' i)) ∧ ∀ S'' : Nat → Specs, (∀ d ∈ ds, S'' d.i = S' d.i) → fdrun S'' n0 all h0 (fun recs F => K (recs.filterMap erOf) (recs.filterMap lrOf) F) ds (recs ++ [⟨⟨d, [], v, ef⟩, F⟩]) (fput F d.o.dst v) := by
      intro v ef es ls h1 h2 k
      subst h1 h2
      exact edrun_sound ds _ _ hs' k
    -- the specification of this operation and those of the rest
    have both : ∀ (So : Specs), SpecOK E.P So → ∀ (v : NV) (ef : Eff) (es : List ER) (ls : List LR), (recs ++ [(⟨⟨d, [], v, ef⟩, F⟩ : FRec)]).filterMap erOf = es → (recs ++ [(⟨⟨d, [], v, ef⟩, F⟩ : FRec)]).filterMap lrOf = ls →
        edrun E n0 (aslots all) h0 K ds es ls (fput F d.o.dst v) →
        (∀ (S'' : Nat → Specs) (G : NV → Eff → Prop), S'' d.i = So → G v ef → fdstep S'' n0 all recs F h0 d G) →
        ∃ S' : Nat → Specs, (∀ i, SpecOK E.P (S' i)) ∧ ∀ S'' : Nat → Specs, (∀ x ∈ d :: ds, S'' x.i = S' x.i) → fdrun S'' n0 all h0 (fun recs F => K (recs.filterMap erOf) (recs.filterMap lrOf) F) (d :: ds) recs F := by
      intro So hSo v ef es ls h1 h2 k hst
      obtain ⟨S', g1, g2⟩ := push v ef es ls h1 h2 k
      refine ⟨fun i => if i = d.i then So else S' i, fun i => ?_, fun S'' hS'' => ?_⟩
      · dsimp only
        split
        · exact hSo
        · exact g1 i
      · have h0 := hS'' d (List.mem_cons_self ..)
        simp only [if_true] at h0
        refine hst S'' _ h0 (g2 S'' fun x hx => ?_)
        have := hS'' x (List.mem_cons_of_mem _ hx)
        dsimp only at this
        rw [if_neg (by have := hlt x.i (List.mem_map_of_mem hx); omega)] at this
        exact this
    simp only [edrun, edstep] at e
    split at e
    · rename_i hg
      cases hc : cls d.o.op with
      | P =>
        simp only [hc] at e
        rw [xop_look (by rw [hc]; exact fun h => by cases h)] at e
        have hx := e
        unfold nop at hx
        simp only [hc] at hx
        obtain ⟨q, hq, k⟩ := Res.of_all hx
        obtain ⟨v, hv, rfl⟩ := Option.map_eq_some_iff.1 hq
        refine both failS (failS_ok _) v .keep _ _ (by simp [erOf]) (by simp [lrOf]) k ?_
        intro S'' G _ hG
        unfold fdstep
        rw [if_pos hg]; simp only [hc]
        exact ⟨v, hv, hG⟩
      | L =>
        simp only [hc] at e
        rw [xop_look (by rw [hc]; exact fun h => by cases h)] at e
        have hx := e
        unfold nop at hx
        simp only [hc] at hx
        obtain ⟨q, hq, k⟩ := Res.of_all hx
        obtain ⟨v, hv, rfl⟩ := Option.map_eq_some_iff.1 hq
        refine both failS (failS_ok _) v .look _ _ (by simp [erOf]) (by simp [lrOf]) k ?_
        intro S'' G _ hG
        unfold fdstep
        rw [if_pos hg]; simp only [hc]
        exact ⟨v, by rw [dheap_er]; exact hv, hG⟩
      | A =>
        simp only [hc] at e
        obtain ⟨p, hp, k⟩ := e
        refine both failS (failS_ok _) _ (.new (n0 + d.slot) p.1) _ _ (by simp [erOf]) (by simp [lrOf]) k ?_
        intro S'' G _ hG
        unfold fdstep
        rw [if_pos hg]; simp only [hc]
        exact ⟨p, hp, hG⟩
      | E =>
        simp only [hc] at e
        obtain ⟨So, hSo, q, hq, ⟨hl, hres⟩, k⟩ := eop_sound e
        refine both So hSo q.1 (.to q.2) _ _ (by simp [erOf]) (by simp [lrOf]) k ?_
        intro S'' G hS'' hG
        unfold fdstep
        rw [if_pos hg]; simp only [hc]
        refine ⟨q, by rw [dheap_er, hS'']; exact hq, hl, ?_, hG⟩
        rw [List.all_eq_true]
        intro x hx
        cases ha : isA x.o.op with
        | false => rfl
        | true =>
          simp only [Bool.not_true, Bool.false_or, Bool.or_eq_true]
          rcases hres (x.i, x.slot) (List.mem_map.2 ⟨x, List.mem_filter.2 ⟨hx, ha⟩, rfl⟩) with h | h
          · exact .inl h
          · right; rw [h]; rfl
    · rename_i hg
      refine both failS (failS_ok _) nundef .keep _ _ (by simp [erOf]) (by simp [lrOf]) e ?_
      intro S'' G _ hG
      unfold fdstep
      rw [if_neg hg]
      exact hG

theorem looksOK_sound {recs : List FRec} (h : looksOK (recs.filterMap erOf) (recs.filterMap lrOf)) : fdlook recs := by
  intro x hx
  split
  · rename_i he
    intro e hem
    split
    · rename_i g hge
      have h1 : (⟨x.r.d.i, x.r.d.pre, x.r.d.o.op, x.F, x.r.v⟩ : LR) ∈ recs.filterMap lrOf := List.mem_filterMap.2 ⟨x, hx, by simp [lrOf, he]⟩
      have h2 : (⟨e.r.d.i, e.r.d.pre, .to g⟩ : ER) ∈ recs.filterMap erOf := List.mem_filterMap.2 ⟨e, hem, by simp [erOf, hge]⟩
      have h3 := h _ h1 _ h2
      simp only [lookOne] at h3
      split at h3
      · rename_i hor
        simp only [Bool.or_eq_true] at hor
        rcases hor with h | h
        · exact .inl h
        · exact .inr (.inl h)
      · right; right
        rw [dfill_er]; exact h3
    · trivial
  · trivial

theorem edraw_sound {E : Env} {nA : Nat} {ds : List DOper} {F : FF} {h : Heap} {K : FF → Heap → Prop} (e : edraw E nA ds F h K) : ∃ S' : Nat → Specs, (∀ i, SpecOK E.P (S' i)) ∧ fdraw S' nA ds F h K := by
  obtain ⟨hs, e⟩ := e
  obtain ⟨S', h1, h2⟩ := edrun_sound (all := ds) ds [] F (srt_sorted hs) e
  refine ⟨S', h1, ?_⟩
  have h3 := h2 S' fun _ _ => rfl
  unfold fdraw
  have mono : ∀ (G G' : List FRec → FF → Prop), (∀ r F, G r F → G' r F) → ∀ (ds' : List DOper) (recs : List FRec) (F : FF) (h0 : Heap), fdrun S' h.length ds h0 G ds' recs F → fdrun S' h.length ds h0 G' ds' recs F := by
    intro G G' hG ds'
    induction ds' with
    | nil => intro recs F h0 e; exact hG _ _ e
    | cons d ds' ih =>
      intro recs F h0 e
      simp only [fdrun, fdstep] at e ⊢
      split at e
      · rename_i hg
        rw [if_pos hg]
        split at e
        · obtain ⟨v, hv, k⟩ := e; exact ⟨v, hv, ih _ _ _ k⟩
        · obtain ⟨v, hv, k⟩ := e; exact ⟨v, hv, ih _ _ _ k⟩
        · obtain ⟨v, hv, k⟩ := e; exact ⟨v, hv, ih _ _ _ k⟩
        · obtain ⟨q, h1, h2, h3, k⟩ := e; exact ⟨q, h1, h2, h3, ih _ _ _ k⟩
      · rename_i hg
        rw [if_neg hg]
        exact ih _ _ _ e
  refine mono _ _ ?_ ds [] F _ h3
  rintro recs F ⟨k1, k2⟩
  exact ⟨looksOK_sound k1, by rw [dheap_er]; exact k2⟩

theorem eop_mono {E : Env} {ρ : NOpd → NV} {h : Heap} {op : NOp} {K K' : NV → Heap → Prop} (hk : ∀ v g, K v g → K' v g) (e : eop E ρ h op K) : eop E ρ h op K' := by
  have cm : ∀ {f : Nat} {args : List NV}, callD E f args h K → callD E f args h K' := by
    intro f args e
    unfold callD at e ⊢
    split at e
    · rename_i hf; rw [if_pos hf]; obtain ⟨v, g, h1, h2⟩ := e; exact ⟨v, g, h1, hk _ _ h2⟩
    · rename_i hf; rw [if_neg hf]; obtain ⟨q, h1, h2⟩ := e; exact ⟨q, h1, hk _ _ h2⟩
  unfold eop at e ⊢
  split at e
  · exact cm e
  · split at e
    · exact cm e
    · exact e.elim
  · obtain ⟨q, h1, h2⟩ := e; exact ⟨q, h1, hk _ _ h2⟩

theorem edraw_mono {E : Env} {nA : Nat} {ds : List DOper} {F : FF} {h : Heap} {K K' : FF → Heap → Prop} (hk : ∀ F h, K F h → K' F h) (e : edraw E nA ds F h K) : edraw E nA ds F h K' := by
  obtain ⟨hs, e⟩ := e
  refine ⟨hs, ?_⟩
  have key : ∀ (G G' : List ER → List LR → FF → Prop), (∀ a b F, G a b F → G' a b F) → ∀ (as : List (Nat × Nat)) (h0 : Heap) (ds' : List DOper) (es : List ER) (ls : List LR) (F : FF), edrun E h.length as h0 G ds' es ls F → edrun E h.length as h0 G' ds' es ls F := by
    intro G G' hG as h0 ds'
    induction ds' with
    | nil => intro es ls F e; exact hG _ _ _ e
    | cons d ds' ih =>
      intro es ls F e
      simp only [edrun, edstep] at e ⊢
      split at e
      · rename_i hg
        rw [if_pos hg]
        split at e
        · exact xop_mono (fun _ _ k => ih _ _ _ k) e
        · exact xop_mono (fun _ _ k => ih _ _ _ k) e
        · obtain ⟨p, hp, k⟩ := e; exact ⟨p, hp, ih _ _ _ k⟩
        · exact eop_mono (fun _ _ k => ⟨k.1, ih _ _ _ k.2⟩) e
      · rename_i hg
        rw [if_neg hg]
        exact ih _ _ _ e
  exact key _ _ (fun a b F k => ⟨k.1, hk _ _ k.2⟩) _ _ ds [] [] F e

/-! ### Code -/

def frounds (body : FK → FF → Heap → Prop) (K : FK) : Nat → FF → Heap → Prop
  | 0, _, _ => False
  | n + 1, F, h => body (fun c F h => match c with | .nrm => frounds body K n F h | c => K c F h) F h

/-- The rounds of a range over a function, over the values that are yielded. -/
def frange (body : FK → FF → Heap → Prop) (p : Nat) (F : FF) (Keep : Heap → Prop) (K : FK) : List NV → Heap → Prop
  | [], h => Keep h ∧ K .nrm F h
  | v :: vs, h => Keep h ∧ body (fun c _ h => match c with | .nrm => frange body p F Keep K vs h | c => K c F h) (upd F p v) h

def fwp (S : Env) : NCode → FK → FF → Heap → Prop
  | .skip, K, F, h => K .nrm F h
  | .ops l, K, F, h => fops S l F h (K .nrm)
  | .draw n ds, K, F, h => edraw S n ds F h (K .nrm)
  | .seq a b, K, F, h => fwp S a (fun c F h => match c with | .nrm => fwp S b K F h | c => K c F h) F h
  | .cond c a b, K, F, h => match fval F c with
    | .bool true => fwp S a K F h
    | .bool false => fwp S b K F h
    | _ => False
  | .block id c, K, F, h => fwp S c (fun c F h => match c with | .exit i => if i = id then K .nrm F h else K (.exit i) F h | c => K c F h) F h
  | .loop c, K, F, h => ∃ n, frounds (fwp S c) K n F h
  | .exit id, K, F, h => K (.exit id) F h
  | .ret, K, F, h => K .ret F h
  | .rangeF g p a b, K, F, h => ∃ f caps vals Keep, fval F g = .func (.func f) [] caps ∧ goodFn S.P f = true ∧ Iter S.P f caps vals Keep ∧
      frange (fun K F h => fwp S a (fun c F h => match c with | .nrm => fwp S b K F h | _ => False) F h) p F Keep K vals h
  | .fail, _, _, _ => False

/-- The temporaries that code writes lie below. -/
def wfs (n : Nat) : NCode → Bool
  | .ops l => l.all fun o => lowD n o.dst
  | .draw _ ds => ds.all fun d => lowD n d.o.dst
  | .seq a b => wfs n a && wfs n b
  | .cond _ a b => wfs n a && wfs n b
  | .block _ c => wfs n c
  | .loop c => wfs n c
  | .rangeF .. => false
  | _ => true
/-- The same, and one range over a function at most is run. -/
def wfc (n : Nat) : NCode → Bool
  | .seq a b => (wfs n a && wfc n b) || (wfc n a && wfs n b)
  | .cond _ a b => wfc n a && wfc n b
  | .block _ c => wfc n c
  | .rangeF _ p a b => decide (p < n) && (wfs n a && wfs n b)
  | c => wfs n c

theorem fwp_mono {S : Env} : ∀ (c : NCode) {K K' : FK} {F : FF} {h : Heap}, fwp S c K F h → (∀ c F h, K c F h → K' c F h) → fwp S c K' F h
  | .skip, K, K', F, h, e, hk => hk _ _ _ e
  | .ops l, K, K', F, h, e, hk => by
    have key : ∀ (l : List NOper) (F : FF) (h : Heap), fops S l F h (K .nrm) → fops S l F h (K' .nrm) := by
      intro l
      induction l with
      | nil => intro F h e; exact hk _ _ _ e
      | cons o os ih =>
        intro F h e
        unfold fops at e ⊢
        split at e
        · rename_i hg; rw [if_pos hg]; exact xop_mono (fun _ _ k => ih _ _ k) e
        · rename_i hg; rw [if_neg hg]; exact ih _ _ e
    exact key l F h e
  | .draw n ds, K, K', F, h, e, hk => edraw_mono (fun _ _ k => hk _ _ _ k) e
  | .seq a b, K, K', F, h, e, hk => by
    refine fwp_mono a e ?_
    intro c F h hc
    cases c with
    | nrm => exact fwp_mono b hc hk
    | exit id => exact hk _ _ _ hc
    | ret => exact hk _ _ _ hc
  | .cond c a b, K, K', F, h, e, hk => by
    simp only [fwp] at e ⊢
    split at e
    · exact fwp_mono a e hk
    · exact fwp_mono b e hk
    · exact e.elim
  | .block id c, K, K', F, h, e, hk => by
    refine fwp_mono c e ?_
    intro c F h hc
    cases c with
    | nrm => exact hk _ _ _ hc
    | exit i =>
      simp only at hc ⊢
      split at hc <;> rename_i hi <;> simp only [hi, if_true, if_false] <;> exact hk _ _ _ hc
    | ret => exact hk _ _ _ hc
  | .loop x, K, K', F, h, ⟨n, e⟩, hk => by
    refine ⟨n, ?_⟩
    induction n generalizing F h with
    | zero => exact e.elim
    | succ n ih =>
      refine fwp_mono x e ?_
      intro c F h hc
      cases c with
      | nrm => exact ih _ _ hc
      | exit id => exact hk _ _ _ hc
      | ret => exact hk _ _ _ hc
  | .exit id, K, K', F, h, e, hk => hk _ _ _ e
  | .ret, K, K', F, h, e, hk => hk _ _ _ e
  | .rangeF g p a b, K, K', F, h, ⟨f, caps, vals, Keep, h1, h2, h3, e⟩, hk => by
    refine ⟨f, caps, vals, Keep, h1, h2, h3, ?_⟩
    clear h3
    induction vals generalizing h with
    | nil => exact ⟨e.1, hk _ _ _ e.2⟩
    | cons v vs ih =>
      refine ⟨e.1, fwp_mono a e.2 ?_⟩
      intro c F1 h1 hc
      cases c with
      | nrm =>
        refine fwp_mono b hc ?_
        intro c F2 h2 hc
        cases c with
        | nrm => exact ih _ hc
        | exit id => exact hk _ _ _ hc
        | ret => exact hk _ _ _ hc
      | exit id => exact hc
      | ret => exact hc
  | .fail, K, K', F, h, e, hk => e.elim

theorem ccode_range (P : Program) (g : Operand) (ps : Array Tmp) (a b : Code) : ccode P (.rangeFunc g ps a b) = .fail ∨ ∃ p, ps = #[p] ∧ (copd g).ok = true ∧ noDefs a = true ∧ noDefs b = true ∧ ccode P (.rangeFunc g ps a b) = .rangeF (copd g) p (ccode P a) (ccode P b) := by
  cases hp : ps.toList with
  | nil => left; unfold ccode; rw [hp]
  | cons p l =>
    cases l with
    | cons q r => left; unfold ccode; rw [hp]
    | nil =>
      have hps : ps = #[p] := by
        apply Array.toList_inj.1
        rw [hp]
      by_cases hc : ((copd g).ok && noDefs a && noDefs b) = true
      · have h2 := hc
        simp only [Bool.and_eq_true] at h2
        right
        exact ⟨p, hps, h2.1.1, h2.1.2, h2.2, by rw [ccode, hp]; simp only [hc, if_true]⟩
      · left
        rw [ccode, hp]; simp only [hc, if_false, Bool.false_eq_true]

theorem nt_of_fwp {E : Env} {n : Nat} (hm : E.P.follows .mixedOrders = true) : ∀ (c : Code) {F : List NV} {h : Heap} {K : FK}, wfs n (ccode E.P c) = true → F.length = n → fwp E (ccode E.P c) K (toF F) h → NT E.P c F h (fun c F h => F.length = n ∧ K c (toF F) h)
  | .skip, F, h, K, _, hn, e => fun C φ a w s => wp_skip ⟨.nrm, F, h, φ, rfl, ⟨hn, e⟩, s⟩
  | .label _, F, h, K, _, hn, e => fun C φ a w s => wp_label ⟨.nrm, F, h, φ, rfl, ⟨hn, e⟩, s⟩
  | .region id ops d, F, h, K, hw, hn, e => by
    unfold ccode cregion at e hw
    cases d with
    | false =>
      intro C φ a w s
      apply wp_region_list
      simp only [Bool.false_eq_true, if_false] at e hw
      exact sim_fops ops.toList s hw hn e fun φ' F' h' a' w' hn' hk s' => ⟨.nrm, F', h', φ', rfl, ⟨hn', hk⟩, s'⟩
    | true =>
      simp only [if_true] at e hw
      split at e
      · rename_i hk
        rw [if_pos hk] at hw
        obtain ⟨S', hS', e⟩ := edraw_sound e
        intro C φ a w s
        exact sim_drawnI hm hS' hk s (draw_of_fdraw hw hn e) fun φ' F' h' a' w' hk s' => ⟨.nrm, F', h', φ', rfl, hk, s'⟩
      · exact e.elim
  | .seq x y, F, h, K, hw, hn, e => by
    simp only [ccode, wfs, Bool.and_eq_true] at hw
    refine NT.seq ((nt_of_fwp hm x hw.1 hn e).mono ?_)
    intro c F h hc
    cases c with
    | nrm => exact nt_of_fwp hm y hw.2 hc.1 hc.2
    | exit id => exact hc
    | ret => exact hc
  | .cond c x y, F, h, K, hw, hn, e => by
    unfold ccode at e hw
    split at e
    · rename_i hok
      rw [if_pos hok] at hw
      simp only [wfs, Bool.and_eq_true] at hw
      simp only [fwp] at e
      rw [← nval_toF] at e
      split at e
      · rename_i hb; exact NT.cond hok hb (nt_of_fwp hm x hw.1 hn e)
      · rename_i hb; exact NT.cond hok hb (nt_of_fwp hm y hw.2 hn e)
      · exact e.elim
    · exact e.elim
  | .block id x, F, h, K, hw, hn, e => by
    refine NT.block ((nt_of_fwp hm x hw hn e).mono ?_)
    intro c F h hc
    cases c with
    | nrm => exact hc
    | exit i =>
      obtain ⟨h1, hc⟩ := hc
      simp only at hc ⊢
      split at hc <;> rename_i hi <;> simp only [hi, if_true, if_false] <;> exact ⟨h1, hc⟩
    | ret => exact hc
  | .loop x, F, h, K, hw, hn, e => by
    obtain ⟨m, e⟩ := e
    refine NT.loop (fun m F h => F.length = n ∧ frounds (fwp E (ccode E.P x)) K m (toF F) h) ?_ ⟨hn, e⟩
    intro m F h hI
    cases m with
    | zero => exact hI.2.elim
    | succ m =>
      refine (nt_of_fwp hm x hw hI.1 hI.2).mono ?_
      intro c F h hc
      cases c with
      | nrm => exact ⟨m, Nat.lt_succ_self m, hc⟩
      | exit id => exact hc
      | ret => exact hc
  | .exit id, F, h, K, _, hn, e => fun C φ a w s => wp_exit ⟨.exit id, F, h, φ, rfl, ⟨hn, e⟩, s⟩
  | .ret, F, h, K, _, hn, e => fun C φ a w s => wp_ret ⟨.ret, F, h, φ, rfl, ⟨hn, e⟩, s⟩
  | .scope c, F, h, K, hw, hn, e => fun C φ a w s => by
    apply wp_scope_straight
    refine wp_mono (nt_of_fwp hm c hw hn e C φ a w s) ?_
    rintro e a w ⟨c, F, h, φ, rfl, e2, e3⟩
    cases c <;> exact ⟨_, F, h, φ, rfl, e2, e3⟩
  | .goto _, F, h, K, _, _, e => e.elim
  | .rangeFunc g ps a b, F, h, K, hw, _, e => by
    rcases ccode_range E.P g ps a b with hc | ⟨p, _, _, _, _, hc⟩
    · rw [hc] at e; exact e.elim
    · rw [hc] at hw; cases hw
  | .refuse _, F, h, K, _, _, e => e.elim

theorem ntr_of_fwp {E : Env} {n l : Nat} (hm : E.P.follows .mixedOrders = true) : ∀ (c : Code) {F : List NV} {h : Heap} {K : FK}, noDefs c = true → wfs n (ccode E.P c) = true → F.length = n → fwp E (ccode E.P c) K (toF F) h → NTr l E.P c F h (fun c F h => F.length = n ∧ K c (toF F) h)
  | .skip, F, h, K, _, _, hn, e => fun C φ a w n s => wpIn_skip ⟨.nrm, F, h, φ, rfl, ⟨hn, e⟩, s⟩
  | .label _, F, h, K, _, _, hn, e => fun C φ a w n s => wpIn_label ⟨.nrm, F, h, φ, rfl, ⟨hn, e⟩, s⟩
  | .region id ops d, F, h, K, hd, hw, hn, e => by
    unfold ccode cregion at e hw
    cases d with
    | false =>
      intro C φ a w n' s
      apply wpIn_region_list
      simp only [Bool.false_eq_true, if_false] at e hw
      exact list_round npost_lets ops.toList hd (sim_fops (C := C) ops.toList s hw hn e fun φ' F' h' a' w' hn' hk s' => ⟨.nrm, F', h', φ', rfl, ⟨hn', hk⟩, s'⟩)
    | true =>
      simp only [if_true] at e hw
      split at e
      · rename_i hk
        rw [if_pos hk] at hw
        obtain ⟨S', hS', e⟩ := edraw_sound e
        intro C φ a w n' s
        apply wpIn_region_any hm
        exact any_round npost_lets hd _ _ _ _ (sim_drawnW (C := C) hS' hk s (draw_of_fdraw hw hn e) fun φ' F' h' a' w' hk s' => ⟨.nrm, F', h', φ', rfl, hk, s'⟩)
      · exact e.elim
  | .seq x y, F, h, K, hd, hw, hn, e => by
    simp only [ccode, wfs, Bool.and_eq_true] at hw
    simp only [noDefs, Bool.and_eq_true] at hd
    refine NTr.seq ((ntr_of_fwp hm x hd.1 hw.1 hn e).mono ?_)
    intro c F h hc
    cases c with
    | nrm => exact ntr_of_fwp hm y hd.2 hw.2 hc.1 hc.2
    | exit id => exact hc
    | ret => exact hc
  | .cond c x y, F, h, K, hd, hw, hn, e => by
    unfold ccode at e hw
    simp only [noDefs, Bool.and_eq_true] at hd
    split at e
    · rename_i hok
      rw [if_pos hok] at hw
      simp only [wfs, Bool.and_eq_true] at hw
      simp only [fwp] at e
      rw [← nval_toF] at e
      split at e
      · rename_i hb; exact NTr.cond hok hb (ntr_of_fwp hm x hd.1 hw.1 hn e)
      · rename_i hb; exact NTr.cond hok hb (ntr_of_fwp hm y hd.2 hw.2 hn e)
      · exact e.elim
    · exact e.elim
  | .block id x, F, h, K, hd, hw, hn, e => by
    refine NTr.block ((ntr_of_fwp hm x hd hw hn e).mono ?_)
    intro c F h hc
    cases c with
    | nrm => exact hc
    | exit i =>
      obtain ⟨h1, hc⟩ := hc
      simp only at hc ⊢
      split at hc <;> rename_i hi <;> simp only [hi, if_true, if_false] <;> exact ⟨h1, hc⟩
    | ret => exact hc
  | .loop x, F, h, K, hd, hw, hn, e => by
    obtain ⟨m, e⟩ := e
    intro C φ a w n' s
    refine wpIn_loop_rounds m ?_
    revert F h φ a w
    induction m with
    | zero => intro F h _ e; exact e.elim
    | succ m ih =>
      intro F h hn e φ a w s
      refine wpIn_mono (ntr_of_fwp hm x hd hw hn e C φ a w n' s) ?_
      rintro e a w ⟨c, F, h, φ, rfl, e2, e3⟩
      cases c with
      | nrm => exact ih _ _ e2.1 e2.2 _ _ _ e3
      | exit id => exact ⟨.exit id, F, h, φ, rfl, e2, e3⟩
      | ret => exact ⟨.ret, F, h, φ, rfl, e2, e3⟩
  | .exit id, F, h, K, _, _, hn, e => fun C φ a w n s => wpIn_exit ⟨.exit id, F, h, φ, rfl, ⟨hn, e⟩, s⟩
  | .ret, F, h, K, _, _, hn, e => fun C φ a w n s => wpIn_ret ⟨.ret, F, h, φ, rfl, ⟨hn, e⟩, s⟩
  | .scope c, F, h, K, hd, _, _, e => by cases hd
  | .goto _, F, h, K, _, _, _, e => e.elim
  | .rangeFunc g ps a b, F, h, K, _, hw, _, e => by
    rcases ccode_range E.P g ps a b with hc | ⟨p, _, _, _, _, hc⟩
    · rw [hc] at e; exact e.elim
    · rw [hc] at hw; cases hw
  | .refuse _, F, h, K, _, _, _, e => e.elim

/-- A range over a function, by what its iterator does and by its body. -/
theorem ntd_range {E : Env} {n : Nat} (hm : E.P.follows .mixedOrders = true) {g : Operand} {p : Nat} {as bd : Code} (hda : noDefs as = true) (hdb : noDefs bd = true) (hg : (copd g).ok = true) (hp : p < n) (hwa : wfs n (ccode E.P as) = true) (hwb : wfs n (ccode E.P bd) = true)
    {F : List NV} {h : Heap} {K : FK} (hn : F.length = n) (e : fwp E (.rangeF (copd g) p (ccode E.P as) (ccode E.P bd)) K (toF F) h) : NTD E.P (.rangeFunc g #[p] as bd) F h (fun c F h => F.length = n ∧ K c (toF F) h) := by
  obtain ⟨f, caps, vals, Keep, hgv, hgood, it, run⟩ := e
  intro C φ a w hD s
  apply wpIn_wide.1
  refine wpIn_rangeFunc (n := 0) fun fn _ => ?_
  have hev := eval_rel s.tmps hg
  rw [nval_toF, hgv] at hev
  obtain ⟨x0, vc, hag, hx0, hvc⟩ := hev
  have hx0 : x0 = #[] := by
    have : x0.toList = [] := hx0
    simpa using this
  subst hx0
  obtain ⟨rec, hrec⟩ : ∃ rec : LoopState → Option Code → Loop, rec = fun st pe => { state := st, pending := pe, fn, tmps := a.tmps, params := #[p], assign := as, body := bd, defers := w.heap.size } := ⟨_, rfl⟩
  obtain ⟨W1, hW1⟩ : ∃ W1, (w.alloc (.deferred (some []))).alloc (.loop (rec .ready none)) = W1 := ⟨_, rfl⟩
  have hsz : W1.heap.size = w.heap.size + 2 := by rw [← hW1]; simp
  have hL1 : W1.heap[w.heap.size + 1]? = some (.loop (rec .ready none)) := by
    rw [← hW1]; have := heap_alloc_new (w.alloc (.deferred (some []))) (.loop (rec .ready none)); simpa using this
  have hK1 : W1.heap[w.heap.size]? = some (.deferred (some [])) := by
    rw [← hW1, heap_alloc_lt (by simp)]; exact heap_alloc_size
  have hO1 : ∀ i, i < w.heap.size → W1.heap[i]? = w.heap[i]? := fun i hi => by
    rw [← hW1, heap_alloc_lt (by simp; omega), heap_alloc_lt hi]
  have hE1 : W1.os = w.os ∧ W1.tape = w.tape ∧ W1.output = w.output ∧ W1.drawn = w.drawn := by rw [← hW1]; exact ⟨rfl, rfl, rfl, rfl⟩
  have hll : w.heap.size + 1 < W1.heap.size := by omega
  have hXl : ∀ k, C.X k ∨ C.Y k → k < w.heap.size := fun k hk => (s.rel.keep k hk).2
  have r1 : Rel (rcx C W1 w.heap.size (w.heap.size + 1) φ (.loop (rec .ready none))) φ W1 h := by
    refine ⟨fun b x q hb hq => ?_, fun b q hq => by have := s.rel.lt b q hq; omega, s.rel.dom, s.rel.inj, fun k hk => ?_, s.rel.away, PMap.le.refl φ, rfl, rfl, ⟨rfl, Nat.le_refl _⟩, ?_, s.rel.resv, fun b x q hb hq => ?_⟩
    · obtain ⟨ob, h1, h2⟩ := s.rel.blk b x q hb hq
      exact ⟨ob, by rw [hO1 _ (s.rel.lt b q hq)]; exact h1, h2⟩
    · have hk' : k < W1.heap.size := by
        rcases hk with hk | hk | rfl | rfl
        · have := hXl k (.inl hk); omega
        · have := hXl k (.inr hk); omega
        · omega
        · omega
      refine ⟨?_, hk'⟩
      show _ = (W1.putObj _ _).heap[k]?
      by_cases e : k = w.heap.size + 1
      · subst e; rw [World.putObj_heap_same hll]; exact hL1
      · rw [World.putObj_heap_other e]
    · show (W1.putObj _ _).heap.size ≤ _
      rw [World.putObj_size]; exact Nat.le_refl _
    · have := s.rel.lt b q hq
      rintro (hk | hk | hk)
      · exact s.rel.far b x q hb hq hk
      · omega
      · omega
  have hXn : ¬ C.X (w.heap.size + 1) := fun hx => by have := hXl _ (.inl hx); omega
  -- behind the iterator
  have back : ∀ (o : Obj) (φ2 : PMap) (w2 : World) (h2 : Heap), Rel (rcx C W1 w.heap.size (w.heap.size + 1) φ o) φ2 w2 h2 →
      ∃ C', CExt C C' ∧ Sim C' φ2 F h2 { a with defers := [({ target := .collected w.heap.size, args := #[] } : Deferred)] ++ a.defers } w2 := by
    intro o φ2 w2 h2 q
    refine ⟨{ w0 := W1.putObj (w.heap.size + 1) o, X := C.X, G := C.G, N := C.N, Y := fun k => C.Y k ∨ k = w.heap.size, D := [{ target := .collected w.heap.size, args := #[] }] }, ⟨fun φ3 w3 h3 z => ?_, .inr ⟨hD, w.heap.size, rfl, .inr rfl, fun hx => ?_, fun hx => ?_, ?_⟩⟩, ⟨?_, ?_, ?_⟩⟩
    · refine ⟨z.blk, z.lt, z.dom, z.inj, fun k hk => ?_, z.away, z.anchor, ?_, ?_, ?_, ?_, z.resv, fun b x q hb hq hy => z.far b x q hb hq (.inl hy)⟩
      · obtain ⟨h1, h2⟩ := z.keep k (hk.imp id .inl)
        have hlt := hXl k hk
        refine ⟨?_, h2⟩
        rw [h1]
        show (W1.putObj _ _).heap[k]? = _
        rw [World.putObj_heap_other (by omega), hO1 k hlt]
        exact (s.rel.keep k hk).1
      · have h1 : w3.os = W1.os := z.os
        rw [h1, hE1.1]; exact s.rel.os
      · have h1 : w3.tape = W1.tape := z.tape
        rw [h1, hE1.2.1]; exact s.rel.tape
      · obtain ⟨h1, h2⟩ := z.output
        have h1 : w3.output = W1.output := h1
        have h2 : W1.drawn ≤ w3.drawn := h2
        have h4 := s.rel.output
        rw [hE1.2.2.2] at h2
        exact ⟨by rw [h1, hE1.2.2.1]; exact h4.1, Nat.le_trans h4.2 h2⟩
      · have h1 : (W1.putObj (w.heap.size + 1) o).heap.size ≤ w3.heap.size := z.grow
        rw [World.putObj_size] at h1
        have := s.rel.grow
        omega
    · have := hXl _ (.inl hx); omega
    · have := hXl _ (.inr hx); omega
    · show (W1.putObj _ _).heap[_]? = _
      rw [World.putObj_heap_other (by omega)]; exact hK1
    · exact s.tmps.mono q.anchor
    · show _ ++ a.defers = _
      rw [s.defers, hD]; rfl
    · exact ⟨q.blk, q.lt, q.dom, q.inj, fun k hk => q.keep k (by rcases hk with hk | hk | hk; exact .inl hk; exact .inr (.inl hk); exact .inr (.inr (.inl hk))), q.away, s.rel.anchor.trans q.anchor, q.os, q.tape, q.output, q.grow, q.resv, fun b x z hb hq hy => q.far b x z hb hq (by rcases hy with hy | hy; exact .inl hy; exact .inr (.inl hy))⟩
  refine ⟨w.heap.size + 1, [{ target := .collected w.heap.size, args := #[] }], W1, { target := .fn (.func f) vc, args := #[.func (.yield (w.heap.size + 1)) #[] #[]] }, W1, f,
    #[.func (.yield (w.heap.size + 1)) #[] #[]] ++ vc, W1, ?_, ?_, fun _ _ => trivial, ?_, fun hh => by simp [Fence.wide] at hh, ?_⟩
  · rw [← hW1, hrec]; exact run_enterLoop_outer _ _ _ _ _
  · simp only [resolve, hag]
    simp [go_sem]
  · simp [invoke, go_sem, run_callFunc hgood]
  · refine CallsIn.mono (wide_calls (it (w.heap.size + 1) _ φ W1 h vc (fun i h => frange (fun K F h => fwp E (ccode E.P as) (fun c F h => match c with | .nrm => fwp E (ccode E.P bd) K F h | _ => False) F h) p (toF F) Keep K (vals.drop i) h)
      (fun C2 h2 => ∃ c, c ≠ Ctl.nrm ∧ K c (toF F) h2 ∧ C2 = rcx C W1 w.heap.size (w.heap.size + 1) φ (.loop (rec .done (some (match c with | .exit i => .exit i | _ => .ret))))) hvc r1 run ?_ ?_)) ?_
    · intro i h hi
      cases hd : vals.drop i with
      | nil => rw [hd] at hi; exact hi.1
      | cons v vs => rw [hd] at hi; exact hi.1
    · intro i h1 φ1 w1 v hi hI hle q hv
      have hrd := rcx_at q hll
      have hy := run_yield (P := E.P) (args := #[v]) hrd (by rw [hrec]; rfl)
      rw [hrec] at hy
      refine ⟨fn, _, as, bd, hy, roundIn_of_wpIn trivial ?_⟩
      rw [List.drop_eq_getElem_cons hi] at hI
      obtain ⟨_, hI⟩ := hI
      have hset : toF (F.set p vals[i]) = upd (toF F) p vals[i] := toF_nput (F := F) (d := some p) (v := vals[i]) (by simp only [lowD, decide_eq_true_eq]; omega)
      rw [← hset] at hI
      have s1 : Sim (rcx C W1 w.heap.size (w.heap.size + 1) φ1 (.loop (rec .ready none))) φ1 (F.set p vals[i]) h1 { tmps := a.tmps.setIfInBounds p v, defers := [] } w1 := by
        refine ⟨?_, rfl, rcx_G q (PMap.le.refl _)⟩
        simp only [Array.toList_setIfInBounds]
        exact VRels.set hv p (s.tmps.mono (q.anchor))
      have tA := ntr_of_fwp (l := w.heap.size + 1) hm as hda hwa (by rw [List.length_set]; exact hn) hI
      have hzip : (Array.zip #[p] #[v]).foldl (fun tmps (x : Tmp × Value) => tmps.setIfInBounds x.1 x.2) a.tmps = a.tmps.setIfInBounds p v := by simp
      show as.wpIn (rnd (w.heap.size + 1)) 0 E.P _ { tmps := (Array.zip #[p] #[v]).foldl (fun tmps (x : Tmp × Value) => tmps.setIfInBounds x.1 x.2) a.tmps, defers := [] } w1
      rw [hzip]
      refine wpIn_mono (tA _ _ _ _ 0 s1) ?_
      rintro e1 a2 w2 ⟨c2, F2, h2, φ2, rfl, ⟨hn2, hk2⟩, s2⟩
      cases c2 with
      | exit id => exact hk2.elim
      | ret => exact hk2.elim
      | nrm =>
        have hrd2 := rcx_at s2.rel hll
        refine ⟨_, run_beginRound hrd2 (by rw [hrec]), ?_⟩
        have tB := ntr_of_fwp (l := w.heap.size + 1) hm bd hdb hwb hn2 hk2
        have s3 : Sim (rcx C W1 w.heap.size (w.heap.size + 1) φ1 (.loop { rec .ready none with state := .busy })) φ2 F2 h2 a2 (w2.putObj (w.heap.size + 1) (.loop { rec .ready none with state := .busy })) := ⟨s2.tmps, s2.defers, rcx_turn s2.rel hll hXn _⟩
        refine wpIn_mono (tB _ _ _ _ 0 s3) ?_
        rintro e3 a4 w4 ⟨c4, F4, h4, φ4, rfl, ⟨hn4, hk4⟩, s4⟩
        have hrd4 := rcx_at s4.rel hll
        have hle4 : φ1.le φ4 := s4.rel.anchor
        cases c4 with
        | nrm =>
          have := run_endRound (P := E.P) none hrd4
          rw [hrec] at this
          refine ⟨_, _, this, .inl ⟨rfl, φ4, h4, hle4, ?_, hk4⟩⟩
          have t := rcx_turn s4.rel hll hXn (.loop (rec .ready none))
          rw [hrec] at t ⊢
          exact rcx_G t (hle.trans hle4)
        | exit id =>
          have := run_endRound (P := E.P) (some (.exit id)) hrd4
          rw [hrec] at this
          refine ⟨_, _, this, .inr ⟨rfl, _, φ4, h4, rfl, hle4, ?_, .exit id, (by intro hc; cases hc), hk4, rfl⟩⟩
          have t := rcx_turn s4.rel hll hXn (.loop (rec .done (some (.exit id))))
          rw [hrec] at t ⊢
          exact rcx_G t (hle.trans hle4)
        | ret =>
          have := run_endRound (P := E.P) (some .ret) hrd4
          rw [hrec] at this
          refine ⟨_, _, this, .inr ⟨rfl, _, φ4, h4, rfl, hle4, ?_, .ret, (by intro hc; cases hc), hk4, rfl⟩⟩
          have t := rcx_turn s4.rel hll hXn (.loop (rec .done (some .ret)))
          rw [hrec] at t ⊢
          exact rcx_G t (hle.trans hle4)
    · rintro e2 w2 ⟨⟨v, rfl⟩, (⟨φ2, h2, hle, q, hI⟩ | ⟨C2, φ2, h2, hle, q, c, hc, hk, rfl⟩)⟩
      · rw [List.drop_of_length_le (Nat.le_refl _)] at hI
        have hrd := rcx_at q hll
        have := run_endLoop (P := E.P) hrd (by rw [hrec]; simp)
        rw [hrec] at this
        refine ⟨none, _, this, ?_⟩
        obtain ⟨C', x, s'⟩ := back _ _ _ _ (rcx_turn q hll hXn (.loop { rec .ready none with state := .exhausted }))
        rw [hrec] at s'
        exact ⟨.nrm, F, h2, φ2, C', x, rfl, ⟨hn, hI.2⟩, s'⟩
      · have hrd := rcx_at q hll
        have := run_endLoop (P := E.P) hrd (by rw [hrec]; simp)
        rw [hrec] at this
        cases c with
        | nrm => exact absurd rfl hc
        | exit id =>
          refine ⟨some (.exit id), _, this, wpIn_exit ?_⟩
          obtain ⟨C', x, s'⟩ := back _ _ _ _ (rcx_turn q hll hXn (.loop { rec .done (some (.exit id)) with state := .exhausted }))
          rw [hrec] at s'
          exact ⟨.exit id, F, h2, φ2, C', x, rfl, ⟨hn, hk⟩, s'⟩
        | ret =>
          refine ⟨some .ret, _, this, wpIn_ret ?_⟩
          obtain ⟨C', x, s'⟩ := back _ _ _ _ (rcx_turn q hll hXn (.loop { rec .done (some .ret) with state := .exhausted }))
          rw [hrec] at s'
          exact ⟨.ret, F, h2, φ2, C', x, rfl, ⟨hn, hk⟩, s'⟩

/-- Code that holds a range over a function at most once. -/
theorem ntd_of_fwp {E : Env} {n : Nat} (hm : E.P.follows .mixedOrders = true) : ∀ (c : Code) {F : List NV} {h : Heap} {K : FK}, wfc n (ccode E.P c) = true → F.length = n → fwp E (ccode E.P c) K (toF F) h → NTD E.P c F h (fun c F h => F.length = n ∧ K c (toF F) h)
  | .seq x y, F, h, K, hw, hn, e => by
    simp only [ccode, wfc, Bool.or_eq_true, Bool.and_eq_true] at hw
    rcases hw with ⟨hx, hy⟩ | ⟨hx, hy⟩
    · refine NTD.seq1 ((nt_of_fwp hm x hx hn e).mono ?_)
      intro c F h hc
      cases c with
      | nrm => exact ntd_of_fwp hm y hy hc.1 hc.2
      | exit id => exact hc
      | ret => exact hc
    · refine NTD.seq2 ((ntd_of_fwp hm x hx hn e).mono ?_)
      intro c F h hc
      cases c with
      | nrm => exact nt_of_fwp hm y hy hc.1 hc.2
      | exit id => exact hc
      | ret => exact hc
  | .cond c x y, F, h, K, hw, hn, e => by
    unfold ccode at e hw
    split at e
    · rename_i hok
      rw [if_pos hok] at hw
      simp only [wfc, Bool.and_eq_true] at hw
      simp only [fwp] at e
      rw [← nval_toF] at e
      split at e
      · rename_i hb; exact NTD.cond hok hb (ntd_of_fwp hm x hw.1 hn e)
      · rename_i hb; exact NTD.cond hok hb (ntd_of_fwp hm y hw.2 hn e)
      · exact e.elim
    · exact e.elim
  | .block id x, F, h, K, hw, hn, e => by
    refine NTD.block ((ntd_of_fwp hm x hw hn e).mono ?_)
    intro c F h hc
    cases c with
    | nrm => exact hc
    | exit i =>
      obtain ⟨h1, hc⟩ := hc
      simp only at hc ⊢
      split at hc <;> rename_i hi <;> simp only [hi, if_true, if_false] <;> exact ⟨h1, hc⟩
    | ret => exact hc
  | .rangeFunc g ps a b, F, h, K, hw, hn, e => by
    rcases ccode_range E.P g ps a b with hc | ⟨p, rfl, hg, ha, hb, hc⟩
    · rw [hc] at e; exact e.elim
    · rw [hc] at hw e
      simp only [wfc, Bool.and_eq_true, decide_eq_true_eq] at hw
      exact ntd_range hm ha hb hg hw.1 hw.2.1 hw.2.2 hn e
  | .skip, F, h, K, hw, hn, e => NTD.of (nt_of_fwp hm .skip hw hn e)
  | .label i, F, h, K, hw, hn, e => NTD.of (nt_of_fwp hm (.label i) hw hn e)
  | .region id ops d, F, h, K, hw, hn, e => NTD.of (nt_of_fwp hm (.region id ops d) (by
      unfold ccode cregion at hw ⊢
      cases d with
      | false => exact hw
      | true =>
        simp only [if_true] at hw ⊢
        split at hw
        · rename_i hk; rw [if_pos hk]; exact hw
        · rename_i hk; rw [if_neg hk]; exact hw) hn e)
  | .loop x, F, h, K, hw, hn, e => NTD.of (nt_of_fwp hm (.loop x) hw hn e)
  | .exit id, F, h, K, hw, hn, e => NTD.of (nt_of_fwp hm (.exit id) hw hn e)
  | .ret, F, h, K, hw, hn, e => NTD.of (nt_of_fwp hm .ret hw hn e)
  | .scope c, F, h, K, hw, hn, e => by
    intro C φ a w hD s
    apply wp_scope_straight
    refine wp_mono (ntd_of_fwp hm c hw hn e C φ a w hD s) ?_
    rintro e a w ⟨c, F, h, φ, C', x, rfl, e2, e3⟩
    cases c <;> exact ⟨_, F, h, φ, C', x, rfl, e2, e3⟩
  | .goto _, F, h, K, _, _, e => e.elim
  | .refuse _, F, h, K, _, _, e => e.elim

/-! ### Functions -/

def fres1 (F : FF) (h : Heap) : NRes → Option NV
  | .tmp t => some (F t)
  | .cell a n agg => nload h n agg (F a)
  | .fail => none
def fresl (F : FF) (h : Heap) : List NRes → Option (List NV)
  | [] => some []
  | r :: rs => (fres1 F h r).bind fun v => (fresl F h rs).map (v :: ·)
def fresults (F : FF) (h : Heap) (rs : List NRes) : Option NV :=
  (fresl F h rs).map fun vs => match vs with | [v] => v | vs => .tup vs

theorem fres1_toF {F : List NV} {h : Heap} (r : NRes) : fres1 (toF F) h r = nres1 F h r := by cases r <;> rfl
theorem fresl_toF {F : List NV} {h : Heap} : ∀ (rs : List NRes), fresl (toF F) h rs = nresl F h rs
  | [] => rfl
  | r :: rs => by simp only [fresl, nresl, fres1_toF, fresl_toF rs]

def fend (rs : List NRes) (Q : NV × Heap → Prop) : FK := fun c F h => match c with
  | .exit _ => False
  | _ => ∃ v, fresults F h rs = some v ∧ Q (v, h)

theorem toF_enter (n : Nat) (args : List NV) : toF (nenter n args) = toF args := by
  funext t
  simp only [toF, nenter, List.getD_eq_getElem?_getD]
  rcases Nat.lt_or_ge t args.length with h | h
  · rw [List.getElem?_append_left h]
  · rw [List.getElem?_append_right h, List.getElem?_eq_none h, List.getElem?_replicate]
    split <;> rfl

/-- A function whose code has a body. -/
theorem fun_of_nt {P : Program} {f : Nat} {args : List NV} {h : Heap} {Q : NV × Heap → Prop} {fn : Func} {c : Code} (hfn : P.funcs[f]? = some fn) (hc : fn.body = some c)
    (e : NT P c (nenter fn.ntmps args) h (nend (fn.results.toList.map (cres P)) Q)) : NFun P f args h Q := by
  intro C φ w vargs hv r
  let C' : Cx := { C with G := φ, D := [] }
  have r' : Rel C' φ w h := ⟨r.blk, r.lt, r.dom, r.inj, r.keep, r.away, PMap.le.refl φ, r.os, r.tape, r.output, r.grow, r.resv, r.far⟩
  have hlen := hv.length
  have s0 : Sim C' φ (nenter fn.ntmps args) h { tmps := vargs ++ Array.replicate (fn.ntmps - vargs.size) undef, defers := [] } w := by
    refine ⟨?_, rfl, r'⟩
    simp only [Array.toList_append, Array.toList_replicate, nenter]
    simp only [Array.length_toList] at hlen
    rw [hlen]
    refine hv.append ?_
    have : ∀ n, VRels φ (List.replicate n nundef) (List.replicate n undef) := by
      intro n
      induction n with
      | zero => rfl
      | succ n ih => exact ⟨undef, _, rfl, VRel.undef, ih⟩
    exact this _
  apply calls_of_wp hfn hc
  refine wp_mono (e C' φ _ w s0) ?_
  rintro ex a' w' ⟨ct, F', h', φ', rfl, hk, s'⟩
  have fin : (∃ v, nresults F' h' (fn.results.toList.map (cres P)) = some v ∧ Q (v, h')) → a'.defers = [] ∧ ∃ v, (results fn a'.tmps).run P w' = .ok v w' ∧ ∃ u, (Ending.returned v) = .returned u ∧ Post C φ Q u w' := by
    rintro ⟨v, hv, hq⟩
    obtain ⟨u, hu, hur⟩ := results_rel (P := P) s' hv
    have q := s'.rel
    exact ⟨s'.defers, u, hu, u, rfl, v, h', φ', hq, q.anchor, hur, ⟨q.blk, q.lt, q.dom, q.inj, q.keep, q.away, r.anchor.trans q.anchor, q.os, q.tape, q.output, q.grow, q.resv, q.far⟩⟩
  cases ct with
  | nrm => exact fin hk
  | ret => exact fin hk
  | exit id => exact hk.elim

/-- A function, by its translated code. -/
theorem fun_of_fwp (E : Env) (hm : E.P.follows .mixedOrders = true) {f : Nat} {fn : NFn} (hcf : cfn E.P f = fn) {args : List NV} {h : Heap} {Q : NV × Heap → Prop} (hw : (wfc fn.ntmps fn.body && decide (args.length ≤ fn.ntmps)) = true)
    (e : fwp E fn.body (fend fn.res Q) (toF args) h) : NFun E.P f args h Q := by
  subst hcf
  simp only [Bool.and_eq_true, decide_eq_true_eq] at hw
  have key : ∃ fn c, E.P.funcs[f]? = some fn ∧ fn.body = some c ∧ cfn E.P f = ⟨fn.ntmps, fn.results.toList.map (cres E.P), ccode E.P c⟩ := by
    unfold cfn at e
    split at e
    · rename_i fn hfn
      split at e
      · rename_i c hc
        exact ⟨fn, c, hfn, hc, by unfold cfn; simp only [hfn, hc]⟩
      · exact e.elim
    · exact e.elim
  obtain ⟨fn, c, hfn, hc, hcf⟩ := key
  rw [hcf] at e hw
  refine fun_of_ntd hfn hc ?_
  rw [← toF_enter fn.ntmps] at e
  refine (ntd_of_fwp hm c hw.1 (by simp [nenter]; have := hw.2; simp only at this; omega) e).mono ?_
  rintro c F h ⟨_, hk⟩
  cases c with
  | nrm =>
    obtain ⟨v, hv, hq⟩ := hk
    exact ⟨v, by rw [← hv]; unfold nresults fresults; rw [fresl_toF]; rfl, hq⟩
  | exit id => exact hk
  | ret =>
    obtain ⟨v, hv, hq⟩ := hk
    exact ⟨v, by rw [← hv]; unfold nresults fresults; rw [fresl_toF]; rfl, hq⟩

theorem NCall.of {P : Program} {f : Nat} {args : List NV} {h : Heap} {Q : NV × Heap → Prop} (hg : goodFn P f = true) (t : NFun P f args h Q) (hl : ∀ q, Q q → h.length ≤ q.2.length) : NCall P f args h Q :=
  ⟨hg, fun C φ w vargs hv r => Calls.mono (t C φ w vargs hv r) fun ex w' ⟨v, e, nv, k, φ', hq, rest⟩ => ⟨v, e, nv, k, φ', ⟨hq, hl _ hq⟩, rest⟩⟩

theorem callC_of {S : Env} (hd : S.det = false) {f : Nat} {args : List NV} {h : Heap} {K : NV → Heap → Prop} {Q : NV × Heap → Prop} (hf : isFail (S.S f args h) = true) (c : NCall S.P f args h Q) (hk : ∀ v h', Q (v, h') → K v h') : callC S f args h K := by
  unfold callC; rw [if_neg (by simp [hd]), if_pos hf]; exact ⟨Q, c, hk⟩

theorem callC_one {S : Env} {f : Nat} {args : List NV} {h g : Heap} {v : NV} {K : NV → Heap → Prop} (hf : isFail (S.S f args h) = true) (c : NCall S.P f args h (fun q => q = (v, g))) (hk : K v g) : callC S f args h K := by
  unfold callC
  simp only [hf, if_true]
  split
  · exact ⟨v, g, c, hk⟩
  · exact ⟨_, c, fun v' h' e => by cases e; exact hk⟩

theorem callC_ok {S : Env} {f : Nat} {args : List NV} {h h' : Heap} {v : NV} {K : NV → Heap → Prop} (e : S.S f args h = .ok (v, h')) : callC S f args h K = K v h' := by
  unfold callC; rw [e]
  cases S.det <;> simp [isFail, Res.one, Res.all]

/-! ### One result -/
theorem fops_det {S : Env} (hd : S.det = true) : ∀ {l : List NOper} {F : FF} {h : Heap} {K : FF → Heap → Prop}, fops S l F h K → ∃ F' h', K F' h' ∧ fops S l F h fun F h => F = F' ∧ h = h'
  | [], F, h, K, e => ⟨F, h, e, rfl, rfl⟩
  | o :: os, F, h, K, e => by
    unfold fops at e
    split at e
    · rename_i hg
      obtain ⟨v, g, e1, e2⟩ := xop_det hd e
      obtain ⟨F', h', e3, e4⟩ := fops_det hd e1
      refine ⟨F', h', e3, ?_⟩
      unfold fops
      rw [if_pos hg]
      refine xop_mono ?_ e2
      rintro v' g' ⟨rfl, rfl⟩
      exact e4
    · rename_i hg
      obtain ⟨F', h', e3, e4⟩ := fops_det hd e
      refine ⟨F', h', e3, ?_⟩
      unfold fops
      rw [if_neg hg]
      exact e4

theorem eop_det {E : Env} {ρ : NOpd → NV} {h : Heap} {op : NOp} {K : NV → Heap → Prop} (e : eop E ρ h op K) : ∃ v g, K v g ∧ eop E ρ h op fun v' g' => v' = v ∧ g' = g := by
  have cd : ∀ {f : Nat} {args : List NV}, callD E f args h K → ∃ v g, K v g ∧ callD E f args h fun v' g' => v' = v ∧ g' = g := by
    intro f args e
    unfold callD at e ⊢
    split at e
    · rename_i hf; obtain ⟨v, g, h1, h2⟩ := e; exact ⟨v, g, h2, by rw [if_pos hf]; exact ⟨v, g, h1, rfl, rfl⟩⟩
    · rename_i hf; obtain ⟨q, h1, h2⟩ := e; exact ⟨q.1, q.2, h2, by rw [if_neg hf]; exact ⟨q, h1, rfl, rfl⟩⟩
  unfold eop at e ⊢
  split at e
  · exact cd e
  · split at e
    · exact cd e
    · exact e.elim
  · obtain ⟨q, h1, h2⟩ := e; exact ⟨q.1, q.2, h2, q, h1, rfl, rfl⟩

/-- An operation that only looks comes to one result in any case. -/
theorem xop_look_det {E : Env} {ρ : NOpd → NV} {h : Heap} {op : NOp} {K : NV → Heap → Prop} (hc : cls op ≠ .E) (e : xop E ρ h op K) : ∃ v g, K v g ∧ xop E ρ h op fun v' g' => v' = v ∧ g' = g := by
  rw [xop_look hc] at e
  have : ∃ o, nop ρ failS h op = Res.of o := by
    unfold nop
    split
    · exact ⟨_, rfl⟩
    · exact ⟨_, rfl⟩
    · exact ⟨_, rfl⟩
    · rename_i h1; exact absurd h1 hc
  obtain ⟨o, ho⟩ := this
  rw [ho] at e
  obtain ⟨v, g, e1, e2⟩ := Res.of_det e
  exact ⟨v, g, e1, by rw [xop_look hc, ho]; exact e2⟩

theorem edraw_det {E : Env} {nA : Nat} {ds : List DOper} {F : FF} {h : Heap} {K : FF → Heap → Prop} (e : edraw E nA ds F h K) : ∃ F' h', K F' h' ∧ edraw E nA ds F h fun F h => F = F' ∧ h = h' := by
  obtain ⟨hs, e⟩ := e
  have key : ∀ (as : List (Nat × Nat)) (h0 : Heap) (G : List ER → List LR → FF → Prop) (ds' : List DOper) (es : List ER) (ls : List LR) (F : FF), edrun E h.length as h0 G ds' es ls F →
      ∃ es' ls' F', G es' ls' F' ∧ edrun E h.length as h0 (fun a b c => a = es' ∧ b = ls' ∧ c = F') ds' es ls F := by
    intro as h0 G ds'
    induction ds' with
    | nil => intro es ls F e; exact ⟨es, ls, F, e, rfl, rfl, rfl⟩
    | cons d ds' ih =>
      intro es ls F e
      simp only [edrun, edstep] at e ⊢
      split at e
      · rename_i hg
        simp only [hg, if_true]
        cases hc : cls d.o.op with
        | P =>
          simp only [hc] at e ⊢
          obtain ⟨v, g, e1, e2⟩ := xop_look_det (by rw [hc]; exact fun h => by cases h) e
          obtain ⟨es', ls', F', g1, g2⟩ := ih _ _ _ e1
          refine ⟨es', ls', F', g1, xop_mono ?_ e2⟩
          rintro v' g' ⟨rfl, rfl⟩; exact g2
        | L =>
          simp only [hc] at e ⊢
          obtain ⟨v, g, e1, e2⟩ := xop_look_det (by rw [hc]; exact fun h => by cases h) e
          obtain ⟨es', ls', F', g1, g2⟩ := ih _ _ _ e1
          refine ⟨es', ls', F', g1, xop_mono ?_ e2⟩
          rintro v' g' ⟨rfl, rfl⟩; exact g2
        | A =>
          simp only [hc] at e ⊢
          obtain ⟨p, hp, e1⟩ := e
          obtain ⟨es', ls', F', g1, g2⟩ := ih _ _ _ e1
          exact ⟨es', ls', F', g1, p, hp, g2⟩
        | E =>
          simp only [hc] at e ⊢
          obtain ⟨v, g, ⟨e0, e1⟩, e2⟩ := eop_det e
          obtain ⟨es', ls', F', g1, g2⟩ := ih _ _ _ e1
          refine ⟨es', ls', F', g1, eop_mono ?_ e2⟩
          rintro v' g' ⟨rfl, rfl⟩; exact ⟨e0, g2⟩
      · rename_i hg
        obtain ⟨es', ls', F', g1, g2⟩ := ih _ _ _ e
        refine ⟨es', ls', F', g1, ?_⟩
        rw [if_neg hg]; exact g2
  obtain ⟨es', ls', F', ⟨g1, g2⟩, g3⟩ := key _ _ _ ds [] [] F e
  refine ⟨F', _, g2, hs, ?_⟩
  have mono : ∀ (G G' : List ER → List LR → FF → Prop), (∀ a b F, G a b F → G' a b F) → ∀ (as : List (Nat × Nat)) (h0 : Heap) (ds' : List DOper) (es : List ER) (ls : List LR) (F : FF), edrun E h.length as h0 G ds' es ls F → edrun E h.length as h0 G' ds' es ls F := by
    intro G G' hG as h0 ds'
    induction ds' with
    | nil => intro es ls F e; exact hG _ _ _ e
    | cons d ds' ih =>
      intro es ls F e
      simp only [edrun, edstep] at e ⊢
      split at e
      · rename_i hg
        rw [if_pos hg]
        split at e
        · exact xop_mono (fun _ _ k => ih _ _ _ k) e
        · exact xop_mono (fun _ _ k => ih _ _ _ k) e
        · obtain ⟨p, hp, k⟩ := e; exact ⟨p, hp, ih _ _ _ k⟩
        · exact eop_mono (fun _ _ k => ⟨k.1, ih _ _ _ k.2⟩) e
      · rename_i hg
        rw [if_neg hg]
        exact ih _ _ _ e
  refine mono _ _ ?_ _ _ ds [] [] F g3
  rintro a b c ⟨rfl, rfl, rfl⟩
  exact ⟨g1, rfl, rfl⟩

theorem fwp_det {S : Env} (hd : S.det = true) : ∀ (c : NCode) {K : FK} {F : FF} {h : Heap}, fwp S c K F h → ∃ c' F' h', K c' F' h' ∧ fwp S c (fun c F h => c = c' ∧ F = F' ∧ h = h') F h
  | .skip, K, F, h, e => ⟨.nrm, F, h, e, rfl, rfl, rfl⟩
  | .ops l, K, F, h, e => by
    obtain ⟨F', h', e1, e2⟩ := fops_det hd e
    refine ⟨.nrm, F', h', e1, ?_⟩
    exact fwp_mono (.ops l) (K := fun c F h => c = .nrm ∧ F = F' ∧ h = h') (by
      show fops S l F h _
      have : (fun F h => F = F' ∧ h = h') = (fun (F : FF) (h : Heap) => Ctl.nrm = Ctl.nrm ∧ F = F' ∧ h = h') := by funext F h; simp
      rw [this] at e2
      exact e2) (fun c F h hh => hh)
  | .draw n ds, K, F, h, e => by
    obtain ⟨F', h', e1, e2⟩ := edraw_det e
    exact ⟨.nrm, F', h', e1, edraw_mono (fun _ _ k => ⟨rfl, k⟩) e2⟩
  | .seq a b, K, F, h, e => by
    obtain ⟨c1, F1, h1, e1, e2⟩ := fwp_det hd a e
    cases c1 with
    | nrm =>
      obtain ⟨c2, F2, h2, e3, e4⟩ := fwp_det hd b e1
      refine ⟨c2, F2, h2, e3, fwp_mono a e2 ?_⟩
      rintro c F h ⟨rfl, rfl, rfl⟩; exact e4
    | exit i =>
      refine ⟨.exit i, F1, h1, e1, fwp_mono a e2 ?_⟩
      rintro c F h ⟨rfl, rfl, rfl⟩; exact ⟨rfl, rfl, rfl⟩
    | ret =>
      refine ⟨.ret, F1, h1, e1, fwp_mono a e2 ?_⟩
      rintro c F h ⟨rfl, rfl, rfl⟩; exact ⟨rfl, rfl, rfl⟩
  | .cond x a b, K, F, h, e => by
    simp only [fwp] at e ⊢
    split at e
    · exact fwp_det hd a e
    · exact fwp_det hd b e
    · exact e.elim
  | .block id a, K, F, h, e => by
    obtain ⟨c1, F1, h1, e1, e2⟩ := fwp_det hd a e
    cases c1 with
    | nrm =>
      refine ⟨.nrm, F1, h1, e1, fwp_mono a e2 ?_⟩
      rintro c F h ⟨rfl, rfl, rfl⟩; simp
    | exit i =>
      simp only at e1
      by_cases hi : i = id
      · rw [if_pos hi] at e1
        refine ⟨.nrm, F1, h1, e1, fwp_mono a e2 ?_⟩
        rintro c F h ⟨rfl, rfl, rfl⟩
        simp [hi]
      · rw [if_neg hi] at e1
        refine ⟨.exit i, F1, h1, e1, fwp_mono a e2 ?_⟩
        rintro c F h ⟨rfl, rfl, rfl⟩
        simp [hi]
    | ret =>
      refine ⟨.ret, F1, h1, e1, fwp_mono a e2 ?_⟩
      rintro c F h ⟨rfl, rfl, rfl⟩; simp
  | .loop a, K, F, h, ⟨n, e⟩ => by
    have key : ∀ n F h, frounds (fwp S a) K n F h → ∃ c' F' h', K c' F' h' ∧ frounds (fwp S a) (fun c F h => c = c' ∧ F = F' ∧ h = h') n F h := by
      intro n
      induction n with
      | zero => intro F h e; exact e.elim
      | succ n ih =>
        intro F h e
        obtain ⟨c1, F1, h1, e1, e2⟩ := fwp_det hd a e
        cases c1 with
        | nrm =>
          obtain ⟨c2, F2, h2, e3, e4⟩ := ih F1 h1 e1
          refine ⟨c2, F2, h2, e3, fwp_mono a e2 ?_⟩
          rintro c F h ⟨rfl, rfl, rfl⟩; exact e4
        | exit i =>
          refine ⟨.exit i, F1, h1, e1, fwp_mono a e2 ?_⟩
          rintro c F h ⟨rfl, rfl, rfl⟩; exact ⟨rfl, rfl, rfl⟩
        | ret =>
          refine ⟨.ret, F1, h1, e1, fwp_mono a e2 ?_⟩
          rintro c F h ⟨rfl, rfl, rfl⟩; exact ⟨rfl, rfl, rfl⟩
    obtain ⟨c', F', h', g1, g2⟩ := key n F h e
    exact ⟨c', F', h', g1, n, g2⟩
  | .exit id, K, F, h, e => ⟨.exit id, F, h, e, rfl, rfl, rfl⟩
  | .ret, K, F, h, e => ⟨.ret, F, h, e, rfl, rfl, rfl⟩
  | .rangeF g p a b, K, F, h, ⟨f, caps, vals, Keep, g1, g2, g3, e⟩ => by
    have key : ∀ (vs : List NV) (h : Heap), frange (fun K F h => fwp S a (fun c F h => match c with | .nrm => fwp S b K F h | _ => False) F h) p F Keep K vs h →
        ∃ c' F' h', K c' F' h' ∧ frange (fun K F h => fwp S a (fun c F h => match c with | .nrm => fwp S b K F h | _ => False) F h) p F Keep (fun c F h => c = c' ∧ F = F' ∧ h = h') vs h := by
      intro vs
      induction vs with
      | nil => intro h e; exact ⟨.nrm, F, h, e.2, e.1, rfl, rfl, rfl⟩
      | cons v vs ih =>
        intro h e
        obtain ⟨c1, F1, h1, e1, e2⟩ := fwp_det hd a e.2
        cases c1 with
        | exit i => exact e1.elim
        | ret => exact e1.elim
        | nrm =>
          obtain ⟨c2, F2, h2, e3, e4⟩ := fwp_det hd b e1
          cases c2 with
          | nrm =>
            obtain ⟨c3, F3, h3, e5, e6⟩ := ih h2 e3
            refine ⟨c3, F3, h3, e5, e.1, fwp_mono a e2 ?_⟩
            rintro c F h ⟨rfl, rfl, rfl⟩
            refine fwp_mono b e4 ?_
            rintro c F h ⟨rfl, rfl, rfl⟩
            exact e6
          | exit i =>
            refine ⟨.exit i, F, h2, e3, e.1, fwp_mono a e2 ?_⟩
            rintro c F h ⟨rfl, rfl, rfl⟩
            refine fwp_mono b e4 ?_
            rintro c F h ⟨rfl, rfl, rfl⟩
            exact ⟨rfl, rfl, rfl⟩
          | ret =>
            refine ⟨.ret, F, h2, e3, e.1, fwp_mono a e2 ?_⟩
            rintro c F h ⟨rfl, rfl, rfl⟩
            refine fwp_mono b e4 ?_
            rintro c F h ⟨rfl, rfl, rfl⟩
            exact ⟨rfl, rfl, rfl⟩
    obtain ⟨c', F', h', e1, e2⟩ := key vals h e
    exact ⟨c', F', h', e1, f, caps, vals, Keep, g1, g2, g3, e2⟩
  | .fail, K, F, h, e => e.elim

/-- A call with one result, of which something is known. -/
def DCall (P : Program) (f : Nat) (args : List NV) (h : Heap) (Q : NV × Heap → Prop) : Prop := ∃ v g, NCall P f args h (fun q => q = (v, g)) ∧ Q (v, g)

theorem dcall_of_fwp (E : Env) (hd : E.det = true) (hm : E.P.follows .mixedOrders = true) {f : Nat} {fn : NFn} (hok : goodFn E.P f = true ∧ cfn E.P f = fn) {args : List NV} {h : Heap} {Q : NV × Heap → Prop} (hw : (wfc fn.ntmps fn.body && decide (args.length ≤ fn.ntmps)) = true)
    (hl : ∀ q, Q q → h.length ≤ q.2.length) (e : fwp E fn.body (fend fn.res Q) (toF args) h) : DCall E.P f args h Q := by
  obtain ⟨c', F', h', e1, e2⟩ := fwp_det hd _ e
  have hr : ∃ v, fresults F' h' fn.res = some v ∧ Q (v, h') ∧ (c' = .nrm ∨ c' = .ret) := by
    cases c' with
    | nrm => obtain ⟨v, h1, h2⟩ := e1; exact ⟨v, h1, h2, .inl rfl⟩
    | ret => obtain ⟨v, h1, h2⟩ := e1; exact ⟨v, h1, h2, .inr rfl⟩
    | exit i => exact e1.elim
  obtain ⟨v, hv, hq, hc⟩ := hr
  refine ⟨v, h', NCall.of hok.1 (fun_of_fwp E hm hok.2 hw (fwp_mono _ e2 ?_)) (by rintro q rfl; exact hl _ hq), hq⟩
  rintro c F g ⟨rfl, rfl, rfl⟩
  rcases hc with rfl | rfl
  · exact ⟨v, hv, rfl⟩
  · exact ⟨v, hv, rfl⟩

end Go.Ns
