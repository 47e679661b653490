/- Drawn regions: every order of the operations comes to what one run comes to. -/
import Derived.Test.YtiiopgancdgioaaNsL
import Derived.Orders
set_option linter.unusedVariables false
set_option linter.unusedSimpArgs false
namespace Go.Ns

def Sub (h h' : Heap) : Prop := ∀ b x, hget h b = some x → hget h' b = some x

theorem Sub.hcells {h h' : Heap} (s : Sub h h') {b : Nat} {cs : List NV} (e : hcells h b = some cs) : Go.Ns.hcells h' b = some cs := by
  obtain ⟨ro, hro⟩ := hcells_inv e
  have := s _ _ hro
  unfold Go.Ns.hcells; rw [this]

theorem Sub.sliceCells {h h' : Heap} (s : Sub h h') {n : Nat} {x : NV} {cs : List NV} (e : sliceCells h n x = some cs) : Go.Ns.sliceCells h' n x = some cs := by
  unfold Go.Ns.sliceCells at e ⊢
  split at e
  · exact e
  · split at e
    · rename_i hn; simpa [hn] using e
    · rename_i hn
      obtain ⟨c, hc, e⟩ := Option.bind_eq_some_iff.1 e
      rw [if_neg hn, s.hcells hc]; exact e
  · cases e

theorem Sub.entsOf {h h' : Heap} (s : Sub h h') {x : NV} {es : List NEnt} (e : entsOf h x = some es) : Go.Ns.entsOf h' x = some es := by
  unfold Go.Ns.entsOf at e ⊢
  split at e
  · exact e
  · split at e
    · rename_i hg; rw [s _ _ hg]; exact e
    · cases e
  · cases e

theorem Sub.nread {h h' : Heap} (s : Sub h h') {ρ : NOpd → NV} {o : NOp} {v : NV} (e : nread ρ h o = some v) : Go.Ns.nread ρ h' o = some v := by
  unfold Go.Ns.nread at e ⊢
  split at e
  · unfold nload at e ⊢
    split at e
    · obtain ⟨c, hc, e⟩ := Option.bind_eq_some_iff.1 e
      rw [s.hcells hc]; exact e
    · cases e
  · obtain ⟨c, hc, e⟩ := Option.bind_eq_some_iff.1 e
    rw [s.sliceCells hc]; exact e
  · obtain ⟨c, hc, e⟩ := Option.map_eq_some_iff.1 e
    rw [s.entsOf hc, ← e]; rfl
  · obtain ⟨c, hc, e⟩ := Option.bind_eq_some_iff.1 e
    rw [s.entsOf hc]; exact e
  · cases e

/-- An operation of a drawn region: its number, the numbers that come before it, its place in memory if it makes a block. -/
structure DOper where
  i : Nat
  o : NOper
  pre : List Nat
  slot : Nat

inductive Eff
  | keep
  | look
  | new (s : Nat) (b : NBlk)
  | to (g : Heap)

/-- What an operation of a drawn region came to. -/
structure DRec where
  d : DOper
  F : List NV
  v : NV
  eff : Eff

def dF (S : Nat → Bool) : List DRec → List NV → List NV
  | [], F => F
  | r :: rs, F => dF S rs (if S r.d.i then nput F r.d.o.dst r.v else F)

def dbase (S : Nat → Bool) : List DRec → Heap × List Nat → Heap × List Nat
  | [], b => b
  | r :: rs, b => dbase S rs (match r.eff with | .to g => if S r.d.i then (g, r.d.pre) else b | _ => b)

def dfill (S : Nat → Bool) (out : List Nat) : List DRec → Heap → Heap
  | [], h => h
  | r :: rs, h => dfill S out rs (match r.eff with | .new s x => if S r.d.i && !out.contains r.d.i then hset h s x else h | _ => h)

def dheap (S : Nat → Bool) (recs : List DRec) (h : Heap) : Heap :=
  dfill S (dbase S recs (h, [])).2 recs (dbase S recs (h, [])).1

deriving instance DecidableEq for Cap
mutual
def NV.eqb : NV → NV → Bool
  | .bool a, .bool b => a == b
  | .int j a, .int k b => decide (j = k) && decide (a = b)
  | .str a, .str b => a == b
  | .ptr a, .ptr b => decide (a = b)
  | .slice a n c, .slice b m d => decide (a = b) && (decide (n = m) && decide (c = d))
  | .map a, .map b => decide (a = b)
  | .func f a b, .func g c d => decide (f = g) && (NV.eqbs a c && NV.eqbs b d)
  | .nilFunc, .nilFunc => true
  | .iface t v, .iface u w => decide (t = u) && NV.eqb v w
  | .nilIface, .nilIface => true
  | .agg a, .agg b => NV.eqbs a b
  | .tup a, .tup b => NV.eqbs a b
  | _, _ => false
def NV.eqbs : List NV → List NV → Bool
  | [], [] => true
  | a :: as, b :: bs => NV.eqb a b && NV.eqbs as bs
  | _, _ => false
end
mutual
theorem NV.eqb_eq : ∀ {a b : NV}, NV.eqb a b = true → a = b
  | .bool a, b, h => by cases b <;> simp_all [NV.eqb]
  | .int .., b, h => by cases b <;> simp_all [NV.eqb]
  | .str a, b, h => by cases b <;> simp_all [NV.eqb]; exact bytes_beq.1 h
  | .ptr a, b, h => by cases b <;> simp_all [NV.eqb]
  | .slice .., b, h => by cases b <;> simp_all [NV.eqb]
  | .map a, b, h => by cases b <;> simp_all [NV.eqb]
  | .func f x y, b, h => by
    cases b <;> simp only [NV.eqb, Bool.and_eq_true, decide_eq_true_eq, Bool.false_eq_true] at h
    obtain ⟨rfl, h1, h2⟩ := h
    rw [NV.eqbs_eq h1, NV.eqbs_eq h2]
  | .nilFunc, b, h => by cases b <;> simp_all [NV.eqb]
  | .iface t v, b, h => by
    cases b <;> simp only [NV.eqb, Bool.and_eq_true, decide_eq_true_eq, Bool.false_eq_true] at h
    rw [h.1, NV.eqb_eq h.2]
  | .nilIface, b, h => by cases b <;> simp_all [NV.eqb]
  | .agg a, b, h => by
    cases b <;> simp only [NV.eqb, Bool.false_eq_true] at h
    rw [NV.eqbs_eq h]
  | .tup a, b, h => by
    cases b <;> simp only [NV.eqb, Bool.false_eq_true] at h
    rw [NV.eqbs_eq h]
theorem NV.eqbs_eq : ∀ {a b : List NV}, NV.eqbs a b = true → a = b
  | [], [], _ => rfl
  | a :: as, b :: bs, h => by
    simp only [NV.eqbs, Bool.and_eq_true] at h
    rw [NV.eqb_eq h.1, NV.eqbs_eq h.2]
  | [], _ :: _, h => by simp [NV.eqbs] at h
  | _ :: _, [], h => by simp [NV.eqbs] at h
end
mutual
theorem NV.eqb_self : ∀ (a : NV), NV.eqb a a = true
  | .bool _ | .int .. | .ptr _ | .slice .. | .map _ | .nilFunc | .nilIface => by simp [NV.eqb]
  | .str a => by simp only [NV.eqb]; exact bytes_beq.2 rfl
  | .func f x y => by simp [NV.eqb, NV.eqbs_self x, NV.eqbs_self y]
  | .iface t v => by simp [NV.eqb, NV.eqb_self v]
  | .agg a => by simp [NV.eqb, NV.eqbs_self a]
  | .tup a => by simp [NV.eqb, NV.eqbs_self a]
theorem NV.eqbs_self : ∀ (a : List NV), NV.eqbs a a = true
  | [] => rfl
  | a :: as => by simp [NV.eqbs, NV.eqb_self a, NV.eqbs_self as]
end

def Res.one {α : Type} : Res α → Option α
  | .ok a => some a
  | _ => none

theorem Res.one_inv {α : Type} {r : Res α} {a : α} (h : r.one = some a) : r = .ok a := by
  cases r <;> simp [Res.one] at h; rw [h]

def isA (o : NOp) : Bool := match cls o with | .A => true | _ => false
def isE (o : NOp) : Bool := match cls o with | .E => true | _ => false

/-- One operation of a drawn region, run on what its predecessors alone have made. -/
def dstep (S : Nat → Specs) (n0 : Nat) (all : List DOper) (recs : List DRec) (F : List NV) (h : Heap) (d : DOper) : Option DRec :=
  if nwanted F d.o.guard then
    match cls d.o.op with
    | .P => (npure (nval F) d.o.op).map fun v => ⟨d, F, v, .keep⟩
    | .L => (nread (nval F) (dheap d.pre.contains recs h) d.o.op).map fun v => ⟨d, F, v, .look⟩
    | .A => (nalloc (nval F) d.o.op).map fun p => ⟨d, F, p.2 (n0 + d.slot), .new (n0 + d.slot) p.1⟩
    | .E => (Res.one (neff (nval F) (S d.i) (dheap d.pre.contains recs h) d.o.op)).bind fun q =>
      if decide (h.length ≤ q.2.length) && all.all fun e => !isA e.o.op || (d.pre.contains e.i || (hget q.2 (n0 + e.slot)).isNone) then some ⟨d, F, q.1, .to q.2⟩ else none
  else some ⟨d, F, nundef, .keep⟩

def drun (S : Nat → Specs) (n0 : Nat) (all : List DOper) (h : Heap) : List DOper → List DRec → List NV → Option (List DRec)
  | [], recs, _ => some recs
  | d :: ds, recs, F => (dstep S n0 all recs F h d).bind fun r => drun S n0 all h ds (recs ++ [r]) (nput F d.o.dst r.v)

/-- What is read is the same before and after each write that is not ordered to the reading. -/
def dlook (recs : List DRec) : Bool :=
  recs.all fun r => match r.eff with
    | .look => recs.all fun e => match e.eff with
      | .to g => e.d.pre.contains r.d.i || (r.d.pre.contains e.d.i ||
        (match nread (nval r.F) (dfill r.d.pre.contains e.d.pre recs g) r.d.o.op with | some v => NV.eqb v r.v | none => false))
      | _ => true
    | _ => true

/-- A drawn region. -/
def ndrawnI (S : Nat → Specs) (nA : Nat) (ds : List DOper) (F : List NV) (h : Heap) : Res (List NV × Heap) :=
  Res.of ((drun S h.length ds (h ++ List.replicate nA none) ds [] F).bind fun recs =>
    if dlook recs then some (dF (fun _ => true) recs F, dheap (fun _ => true) recs (h ++ List.replicate nA none)) else none)

def ndrawn (S : Specs) (nA : Nat) (ds : List DOper) (F : List NV) (h : Heap) : Res (List NV × Heap) := ndrawnI (fun _ => S) nA ds F h

section fold
variable {S S' : Nat → Bool} {recs : List DRec} {F : List NV} {h : Heap} {out : List Nat} {b : Heap × List Nat}

theorem dfill_length : ∀ {recs : List DRec} {h : Heap}, (dfill S out recs h).length = h.length
  | [], _ => rfl
  | r :: rs, h => by
    show (dfill S out rs _).length = _
    rw [dfill_length]
    split
    · split <;> simp
    · rfl

theorem dF_length : ∀ {recs : List DRec} {F : List NV}, (dF S recs F).length = F.length
  | [], _ => rfl
  | r :: rs, F => by
    show (dF S rs _).length = _
    rw [dF_length]
    split
    · exact nput_length
    · rfl

theorem dF_agree {t : Nat} : ∀ {recs : List DRec} {F F' : List NV}, (∀ r ∈ recs, S r.d.i ≠ S' r.d.i → r.d.o.dst ≠ some t) → F.length = F'.length → F[t]? = F'[t]? → (dF S recs F)[t]? = (dF S' recs F')[t]?
  | [], _, _, _, _, h => h
  | r :: rs, F, F', hd, hl, h => by
    show (dF S rs _)[t]? = (dF S' rs _)[t]?
    apply dF_agree fun r' hr' => hd r' (List.mem_cons_of_mem _ hr')
    · by_cases h1 : S r.d.i <;> by_cases h2 : S' r.d.i <;> simp [h1, h2, nput_length, hl]
    · have key : ∀ (F : List NV) (dst : Option Nat) (v : NV), dst ≠ some t → (nput F dst v)[t]? = F[t]? := by
        intro F dst v hn
        cases dst with
        | none => rfl
        | some d => simp only [nput]; rw [List.getElem?_set_ne (fun e => hn (by rw [e]))]
      by_cases h1 : S r.d.i <;> by_cases h2 : S' r.d.i <;> simp only [h1, h2, if_true, if_false, Bool.false_eq_true]
      · cases hdst : r.d.o.dst with
        | none => exact h
        | some d =>
          simp only [nput]
          by_cases e : d = t
          · subst e
            rw [List.getElem?_set, List.getElem?_set, hl]; simp
          · rw [List.getElem?_set_ne e, List.getElem?_set_ne e]; exact h
      · rw [key _ _ _ (hd r (List.mem_cons_self ..) (by simp [h1, h2]))]; exact h
      · rw [key _ _ _ (hd r (List.mem_cons_self ..) (by simp [h1, h2]))]; exact h
      · exact h

theorem dF_append {l2 : List DRec} : ∀ {l1 : List DRec} {F : List NV}, dF S (l1 ++ l2) F = dF S l2 (dF S l1 F)
  | [], _ => rfl
  | r :: rs, F => dF_append (l1 := rs)
theorem dbase_append {l2 : List DRec} : ∀ {l1 : List DRec} {b : Heap × List Nat}, dbase S (l1 ++ l2) b = dbase S l2 (dbase S l1 b)
  | [], _ => rfl
  | r :: rs, F => dbase_append (l1 := rs)
theorem dfill_append {l2 : List DRec} : ∀ {l1 : List DRec} {h : Heap}, dfill S out (l1 ++ l2) h = dfill S out l2 (dfill S out l1 h)
  | [], _ => rfl
  | r :: rs, F => dfill_append (l1 := rs)

theorem dF_congr : ∀ {recs : List DRec} {F : List NV}, (∀ r ∈ recs, S r.d.i = S' r.d.i) → dF S recs F = dF S' recs F
  | [], _, _ => rfl
  | r :: rs, F, h => by
    show dF S rs _ = dF S' rs _
    rw [← h r (List.mem_cons_self ..), dF_congr fun r' hr' => h r' (List.mem_cons_of_mem _ hr')]

theorem dbase_congr : ∀ {recs : List DRec} {b : Heap × List Nat}, (∀ r ∈ recs, ∀ g, r.eff = .to g → S r.d.i = S' r.d.i) → dbase S recs b = dbase S' recs b
  | [], _, _ => rfl
  | r :: rs, b, h => by
    show dbase S rs _ = dbase S' rs _
    rw [dbase_congr fun r' hr' => h r' (List.mem_cons_of_mem _ hr')]
    congr 1
    split
    · rename_i g hg; rw [h r (List.mem_cons_self ..) g hg]
    · rfl

theorem dfill_congr : ∀ {recs : List DRec} {h : Heap}, (∀ r ∈ recs, ∀ s x, r.eff = .new s x → S r.d.i = S' r.d.i) → dfill S out recs h = dfill S' out recs h
  | [], _, _ => rfl
  | r :: rs, b, h => by
    show dfill S out rs _ = dfill S' out rs _
    rw [dfill_congr fun r' hr' => h r' (List.mem_cons_of_mem _ hr')]
    congr 1
    split
    · rename_i s x hg; rw [h r (List.mem_cons_self ..) s x hg]
    · rfl

theorem nput_comm {d e : Option Nat} {v u : NV} (h : ∀ t, d = some t → e ≠ some t) : nput (nput F d v) e u = nput (nput F e u) d v := by
  cases d <;> cases e <;> simp only [nput]
  rename_i x y
  exact List.set_comm _ _ (fun e => h x rfl (e ▸ rfl))

theorem dF_nput {d : Option Nat} {v : NV} : ∀ {recs : List DRec} {F : List NV}, (∀ r ∈ recs, S r.d.i = true → ∀ t, d = some t → r.d.o.dst ≠ some t) → dF S recs (nput F d v) = nput (dF S recs F) d v
  | [], _, _ => rfl
  | r :: rs, F, h => by
    show dF S rs _ = nput (dF S rs _) d v
    rw [← dF_nput fun r' hr' => h r' (List.mem_cons_of_mem _ hr')]
    congr 1
    split
    · rename_i hs; exact nput_comm (h r (List.mem_cons_self ..) hs)
    · rfl

theorem hset_comm {s t : Nat} {x y : NBlk} (h1 : s ≠ t) : hset (hset h s x) t y = hset (hset h t y) s x := by
  unfold hset; exact List.set_comm _ _ h1

theorem dfill_hset {s : Nat} {x : NBlk} : ∀ {recs : List DRec} {h : Heap}, (∀ r ∈ recs, ∀ t y, r.eff = .new t y → t ≠ s) → dfill S out recs (hset h s x) = hset (dfill S out recs h) s x
  | [], _, _ => rfl
  | r :: rs, h, hd => by
    show dfill S out rs _ = hset (dfill S out rs _) s x
    rw [← dfill_hset fun r' hr' => hd r' (List.mem_cons_of_mem _ hr')]
    congr 1
    split
    · rename_i t y hg
      split
      · exact hset_comm (hd r (List.mem_cons_self ..) t y hg).symm
      · rfl
    · rfl

theorem dfill_old {c : Nat} : ∀ {recs : List DRec} {h : Heap}, (∀ r ∈ recs, ∀ y, r.eff = .new c y → S r.d.i = true → r.d.i ∈ out) → hget (dfill S out recs h) c = hget h c
  | [], _, _ => rfl
  | r :: rs, h, hd => by
    show hget (dfill S out rs _) c = _
    rw [dfill_old fun r' hr' => hd r' (List.mem_cons_of_mem _ hr')]
    split
    · rename_i t y hg
      split
      · rename_i hs
        simp only [Bool.and_eq_true, Bool.not_eq_true', List.contains_eq_mem, decide_eq_false_iff_not] at hs
        by_cases e : t = c
        · subst e; exact absurd (hd r (List.mem_cons_self ..) y hg hs.1) hs.2
        · exact hget_hset_ne e
      · rfl
    · rfl

/-- The places are different from each other. -/
def Apart (recs : List DRec) : Prop := ∀ l1 r l2, recs = l1 ++ r :: l2 → ∀ s x, r.eff = .new s x → ∀ r' ∈ l1 ++ l2, ∀ y, r'.eff ≠ .new s y

theorem dfill_new (ha : Apart recs) {r : DRec} (hr : r ∈ recs) {s : Nat} {x : NBlk} (he : r.eff = .new s x) (hs : S r.d.i = true) (ho : r.d.i ∉ out) (hl : s < h.length) : hget (dfill S out recs h) s = some x := by
  obtain ⟨l1, l2, rfl⟩ := List.append_of_mem hr
  have hd := ha l1 r l2 rfl s x he
  rw [dfill_append]
  show hget (dfill S out l2 _) s = _
  rw [dfill_old fun r' hr' y hy _ => absurd hy (hd r' (List.mem_append_right _ hr') y)]
  simp only [he, hs, List.contains_eq_mem, ho, decide_false, Bool.not_false, Bool.and_self, if_true]
  exact hget_hset_same (by rw [dfill_length]; exact hl)

theorem dfill_inv (ha : Apart recs) {c : Nat} {x : NBlk} (hlt : ∀ r ∈ recs, ∀ s x, r.eff = .new s x → s < h.length) (e : hget (dfill S out recs h) c = some x) :
    (∃ r ∈ recs, r.eff = .new c x ∧ S r.d.i = true ∧ r.d.i ∉ out) ∨ ((∀ r ∈ recs, ∀ y, r.eff = .new c y → S r.d.i = true → r.d.i ∈ out) ∧ hget h c = some x) := by
  by_cases hex : ∃ r ∈ recs, ∃ y, r.eff = .new c y ∧ S r.d.i = true ∧ r.d.i ∉ out
  · obtain ⟨r, hr, y, hy, hs, ho⟩ := hex
    rw [dfill_new ha hr hy hs ho (hlt r hr c y hy)] at e
    cases e
    exact .inl ⟨r, hr, hy, hs, ho⟩
  · have hno : ∀ r ∈ recs, ∀ y, r.eff = .new c y → S r.d.i = true → r.d.i ∈ out := fun r hr y hy hs => Classical.byContradiction fun ho => hex ⟨r, hr, y, hy, hs, ho⟩
    rw [dfill_old hno] at e
    exact .inr ⟨hno, e⟩

theorem dfill_sub (ha : Apart recs) (hlt : ∀ r ∈ recs, ∀ s x, r.eff = .new s x → s < h.length) (hsub : ∀ i, S i = true → S' i = true) (hn : ∀ r ∈ recs, ∀ s x, r.eff = .new s x → r.d.i ∉ out → hget h s = none) :
    Sub (dfill S out recs h) (dfill S' out recs h) := by
  intro c x e
  rcases dfill_inv ha hlt e with ⟨r, hr, hy, hs, ho⟩ | ⟨hno, e⟩
  · exact dfill_new ha hr hy (hsub _ hs) ho (hlt r hr c x hy)
  · rw [dfill_old fun r hr y hy hs => Classical.byContradiction fun ho => ?_]
    · exact e
    · rw [hn r hr c y hy ho] at e; cases e

theorem dF_none : ∀ {recs : List DRec} {F : List NV}, (∀ r ∈ recs, S r.d.i = false) → dF S recs F = F
  | [], _, _ => rfl
  | r :: rs, F, h => by
    show dF S rs _ = F
    rw [h r (List.mem_cons_self ..)]
    exact dF_none fun r' hr' => h r' (List.mem_cons_of_mem _ hr')

theorem dbase_none : ∀ {recs : List DRec} {b : Heap × List Nat}, (∀ r ∈ recs, ∀ g, r.eff = .to g → S r.d.i = false) → dbase S recs b = b
  | [], _, _ => rfl
  | r :: rs, b, h => by
    show dbase S rs _ = b
    rw [dbase_none fun r' hr' => h r' (List.mem_cons_of_mem _ hr')]
    split
    · rename_i g hg; rw [h r (List.mem_cons_self ..) g hg]; rfl
    · rfl

theorem dfill_none : ∀ {recs : List DRec} {h : Heap}, (∀ r ∈ recs, ∀ s x, r.eff = .new s x → S r.d.i = false) → dfill S out recs h = h
  | [], _, _ => rfl
  | r :: rs, b, h => by
    show dfill S out rs _ = b
    rw [dfill_none fun r' hr' => h r' (List.mem_cons_of_mem _ hr')]
    split
    · rename_i s x hg; rw [h r (List.mem_cons_self ..) s x hg]; rfl
    · rfl

theorem dheap_front {l1 l2 : List DRec} (hn : ∀ r ∈ l2, S r.d.i = false) : dheap S (l1 ++ l2) h = dheap S l1 h := by
  unfold dheap
  rw [dbase_append, dbase_none (recs := l2) fun r hr g _ => hn r hr, dfill_append, dfill_none (recs := l2) fun r hr _ _ _ => hn r hr]

/-- The last write that has run. -/
theorem dbase_inv : ∀ (recs : List DRec) (b : Heap × List Nat), (dbase S recs b = b ∧ ∀ e ∈ recs, ∀ g, e.eff = .to g → S e.d.i = false) ∨
    ∃ l1 e l2 g, recs = l1 ++ e :: l2 ∧ e.eff = .to g ∧ S e.d.i = true ∧ (∀ e' ∈ l2, ∀ g, e'.eff = .to g → S e'.d.i = false) ∧ dbase S recs b = (g, e.d.pre)
  | [], b => .inl ⟨rfl, by simp⟩
  | r :: rs, b => by
    rcases dbase_inv rs (match r.eff with | .to g => if S r.d.i then (g, r.d.pre) else b | _ => b) with ⟨h1, h2⟩ | ⟨l1, e, l2, g, h1, h2, h3, h4, h5⟩
    · by_cases hr : ∃ g, r.eff = .to g ∧ S r.d.i = true
      · obtain ⟨g, hg, hs⟩ := hr
        refine .inr ⟨[], r, rs, g, rfl, hg, hs, h2, ?_⟩
        show dbase S rs _ = _
        rw [h1]; simp [hg, hs]
      · refine .inl ⟨?_, ?_⟩
        · show dbase S rs _ = _
          rw [h1]
          split
          · rename_i g hg
            rw [if_neg fun hs => hr ⟨g, hg, hs⟩]
          · rfl
        · intro e he g hg
          rcases List.mem_cons.1 he with rfl | he
          · cases hs : S e.d.i with
            | false => rfl
            | true => exact absurd ⟨g, hg, hs⟩ hr
          · exact h2 e he g hg
    · refine .inr ⟨r :: l1, e, l2, g, by rw [h1]; rfl, h2, h3, h4, ?_⟩
      exact h5

/-- What the records of a run are. -/
theorem drun_facts {Sp : Nat → Specs} {n0 : Nat} {all : List DOper} : ∀ {ds : List DOper} {recs0 : List DRec} {F : List NV} {recs : List DRec}, drun Sp n0 all h ds recs0 F = some recs →
    ∃ rest, recs = recs0 ++ rest ∧ rest.map (·.d) = ds ∧ ∀ l1 r l2, rest = l1 ++ r :: l2 → dstep Sp n0 all (recs0 ++ l1) (dF (fun _ => true) l1 F) h r.d = some r
  | [], recs0, F, recs, e => by
    simp only [drun, Option.some.injEq] at e
    exact ⟨[], by simp [e], rfl, fun l1 r l2 h => by simp at h⟩
  | d :: ds, recs0, F, recs, e => by
    simp only [drun] at e
    obtain ⟨r, hr, e⟩ := Option.bind_eq_some_iff.1 e
    have hd : r.d = d := by
      unfold dstep at hr
      split at hr
      · split at hr
        · obtain ⟨v, _, rfl⟩ := Option.map_eq_some_iff.1 hr; rfl
        · obtain ⟨v, _, rfl⟩ := Option.map_eq_some_iff.1 hr; rfl
        · obtain ⟨v, _, rfl⟩ := Option.map_eq_some_iff.1 hr; rfl
        · obtain ⟨v, _, hr⟩ := Option.bind_eq_some_iff.1 hr
          split at hr
          · cases hr; rfl
          · cases hr
      · cases hr; rfl
    obtain ⟨rest, h1, h2, h3⟩ := drun_facts e
    refine ⟨r :: rest, by rw [h1]; simp, by simp [h2, hd], ?_⟩
    intro l1 x l2 hx
    cases l1 with
    | nil =>
      simp only [List.nil_append, List.cons.injEq] at hx
      obtain ⟨rfl, rfl⟩ := hx
      rw [List.append_nil, hd]
      exact hr
    | cons y l1 =>
      simp only [List.cons_append, List.cons.injEq] at hx
      obtain ⟨rfl, hx⟩ := hx
      have := h3 l1 x l2 hx
      rw [List.append_assoc] at this
      show dstep Sp n0 all _ (dF _ l1 _) h x.d = some x
      simp only [if_true]
      rw [hd]; exact this

end fold

/-- A part of the memory is left out. -/
theorem Rel.part {C : Cx} {φ : PMap} {w : World} {h m : Heap} (r : Rel C φ w h) (hs : Sub m h) (hl : m.length = h.length) :
    Rel ⟨w, fun i => C.X i ∨ ∃ b x p, hget h b = some x ∧ hget m b = none ∧ φ b = some p ∧ writable x = false ∧ p.rb = i, φ, C.N,
      fun i => C.Y i ∨ ∃ b x p, hget h b = some x ∧ hget m b = none ∧ φ b = some p ∧ writable x = true ∧ p.rb = i, []⟩ φ w m := by
  constructor
  · exact fun b x p hb => r.blk b x p (hs b x hb)
  · exact r.lt
  · intro b p hp; rw [hl]; exact r.dom b p hp
  · exact fun b b' x x' p p' hb hb' => r.inj b b' x x' p p' (hs b x hb) (hs b' x' hb')
  · intro i hi
    refine ⟨rfl, ?_⟩
    rcases hi with (hi | ⟨b, x, p, _, _, hp, _, rfl⟩) | (hi | ⟨b, x, p, _, _, hp, _, rfl⟩)
    · exact (r.keep i (.inl hi)).2
    · exact r.lt b p hp
    · exact (r.keep i (.inr hi)).2
    · exact r.lt b p hp
  · rintro b x p hb hp hw (hx | ⟨c, y, q, hc, hm, hq, hy, he⟩)
    · exact r.away b x p (hs b x hb) hp hw hx
    · have := r.inj b c x y p q (hs b x hb) hc hp hq hw he.symm
      subst this; rw [hb] at hm; cases hm
  · exact PMap.le.refl φ
  · rfl
  · rfl
  · exact ⟨rfl, Nat.le_refl _⟩
  · exact Nat.le_refl _
  · intro b hb; rw [hl]; exact r.resv b hb
  · rintro b x p hb hp (hx | ⟨c, y, q, hc, hm, hq, hy, he⟩)
    · exact r.far b x p (hs b x hb) hp hx
    · have := r.inj c b y x q p hc (hs b x hb) hq hp hy he
      subst this; rw [hb] at hm; cases hm

/-- The part that was left out comes back. -/
theorem Rel.whole {C : Cx} {φ ψ : PMap} {w w' : World} {h m g k : Heap} (r : Rel C φ w h) (hle : φ.le ψ)
    (q : Rel ⟨w, fun i => C.X i ∨ ∃ b x p, hget h b = some x ∧ hget m b = none ∧ φ b = some p ∧ writable x = false ∧ p.rb = i, φ, C.N,
      fun i => C.Y i ∨ ∃ b x p, hget h b = some x ∧ hget m b = none ∧ φ b = some p ∧ writable x = true ∧ p.rb = i, []⟩ ψ w' g)
    (hl : k.length = g.length) (hk : ∀ b x, hget k b = some x → hget g b = some x ∨ (hget h b = some x ∧ hget m b = none ∧ ∃ p, φ b = some p)) : Rel C ψ w' k := by
  have hold : ∀ {b x p}, hget h b = some x → hget m b = none → φ b = some p → w'.heap[p.rb]? = w.heap[p.rb]? := by
    intro b x p hb hm hp
    cases hw : writable x with
    | true => exact (q.keep _ (.inr (.inr ⟨b, x, p, hb, hm, hp, hw, rfl⟩))).1
    | false => exact (q.keep _ (.inl (.inr ⟨b, x, p, hb, hm, hp, hw, rfl⟩))).1
  constructor
  · intro b x p hb hp
    rcases hk b x hb with hg | ⟨hh, hm, p', hp'⟩
    · exact q.blk b x p hg hp
    · have := hle _ _ hp'
      rw [hp] at this; cases this
      obtain ⟨o, ho, hr⟩ := r.blk b x p hh hp'
      exact ⟨o, by rw [hold hh hm hp']; exact ho, hr.mono hle⟩
  · exact q.lt
  · intro b p hp; rw [hl]; exact q.dom b p hp
  · intro b b' x x' p p' hb hb' hp hp' hw he
    rcases hk b x hb with hg | ⟨hh, hm, p1, hp1⟩ <;> rcases hk b' x' hb' with hg' | ⟨hh', hm', p1', hp1'⟩
    · exact q.inj b b' x x' p p' hg hg' hp hp' hw he
    · have := hle _ _ hp1'; rw [hp'] at this; cases this
      exfalso
      cases hw' : writable x' with
      | true => exact q.far b x p hg hp (.inr ⟨b', x', p', hh', hm', hp1', hw', he.symm⟩)
      | false => exact q.away b x p hg hp hw (.inr ⟨b', x', p', hh', hm', hp1', hw', he.symm⟩)
    · have := hle _ _ hp1; rw [hp] at this; cases this
      exact absurd (.inr ⟨b, x, p, hh, hm, hp1, hw, he⟩) (q.far b' x' p' hg' hp')
    · have := hle _ _ hp1; rw [hp] at this; cases this
      have := hle _ _ hp1'; rw [hp'] at this; cases this
      exact r.inj b b' x x' p p' hh hh' hp1 hp1' hw he
  · intro i hi
    have h1 := q.keep i (hi.elim (fun h => .inl (.inl h)) (fun h => .inr (.inl h)))
    have h2 := r.keep i hi
    exact ⟨h1.1.trans h2.1, h1.2⟩
  · intro b x p hb hp hw hx
    rcases hk b x hb with hg | ⟨hh, hm, p1, hp1⟩
    · exact q.away b x p hg hp hw (.inl hx)
    · have := hle _ _ hp1; rw [hp] at this; cases this
      exact r.away b x p hh hp1 hw hx
  · exact r.anchor.trans hle
  · exact q.os.trans r.os
  · exact q.tape.trans r.tape
  · exact ⟨q.output.1.trans r.output.1, Nat.le_trans r.output.2 q.output.2⟩
  · exact Nat.le_trans r.grow q.grow
  · intro b hb; rw [hl]; exact q.resv b hb
  · intro b x p hb hp hx
    rcases hk b x hb with hg | ⟨hh, hm, p1, hp1⟩
    · exact q.far b x p hg hp (.inl hx)
    · have := hle _ _ hp1; rw [hp] at this; cases this
      exact r.far b x p hh hp1 hx

/-- A block is made at a place that was kept free for it. -/
theorem Rel.fillAt {C : Cx} {φ : PMap} {w : World} {h : Heap} (r : Rel C φ w h) {s : Nat} (hs : C.N s) {N : Nat → Prop} (hN : ∀ b, N b → C.N b ∧ b ≠ s) {o : Obj} {x : NBlk} {p : Place} (hp : p.rb = w.heap.size)
    (ho : ObjRel (φ.put s p) p o x) : Rel { C with N := N } (φ.put s p) (w.alloc o) (hset h s x) := by
  obtain ⟨hs0, hsl⟩ := r.resv s hs
  have hle : φ.le (φ.put s p) := PMap.le_put hs0
  have split_ : ∀ {b y q}, hget (hset h s x) b = some y → (φ.put s p) b = some q → (b = s ∧ y = x ∧ q = p) ∨ (b ≠ s ∧ hget h b = some y ∧ φ b = some q) := by
    intro b y q hb hq
    by_cases e : b = s
    · subst e
      rw [hget_hset_same hsl] at hb
      rw [PMap.put_same] at hq
      cases hb; cases hq
      exact .inl ⟨rfl, rfl, rfl⟩
    · rw [hget_hset_ne (Ne.symm e)] at hb
      simp only [PMap.put, if_neg e] at hq
      exact .inr ⟨e, hb, hq⟩
  have hsz : w.heap.size ≤ (w.alloc o).heap.size := by simp
  constructor
  · intro b y q hb hq
    rcases split_ hb hq with ⟨rfl, rfl, rfl⟩ | ⟨hl, hb, hq⟩
    · exact ⟨o, by rw [hp, heap_alloc_size], ho⟩
    · obtain ⟨o', ho', hr⟩ := r.blk b y q hb hq
      exact ⟨o', by rw [heap_alloc_lt (r.lt _ _ hq)]; exact ho', hr.mono hle⟩
  · intro b q hq
    unfold PMap.put at hq
    split at hq
    · cases hq; simp [hp]
    · have := r.lt _ _ hq; simp; omega
  · intro b q hq
    unfold PMap.put at hq
    split at hq
    · rename_i e; subst e; simpa using hsl
    · have := r.dom _ _ hq; simpa using this
  · intro b b' y y' q q' hb hb' hq hq' hw he
    rcases split_ hb hq with ⟨e1, e2, e3⟩ | ⟨hl, kb, kq⟩ <;> rcases split_ hb' hq' with ⟨f1, f2, f3⟩ | ⟨hl', kb', kq'⟩
    · rw [e1, f1]
    · have := r.lt _ _ kq'; rw [e3] at he; omega
    · have := r.lt _ _ kq; rw [f3] at he; omega
    · exact r.inj b b' y y' q q' kb kb' kq kq' hw he
  · intro i hi
    obtain ⟨h1, h2⟩ := r.keep i hi
    exact ⟨by rw [heap_alloc_lt h2]; exact h1, by omega⟩
  · intro b y q hb hq hw hx
    rcases split_ hb hq with ⟨rfl, rfl, rfl⟩ | ⟨hl, hb, hq⟩
    · have := (r.keep _ (.inl hx)).2; omega
    · exact r.away b y q hb hq hw hx
  · exact r.anchor.trans hle
  · exact r.os
  · exact r.tape
  · exact r.output
  · exact Nat.le_trans r.grow hsz
  · intro c hc
    obtain ⟨hc, hcs⟩ := hN c hc
    obtain ⟨h1, h2⟩ := r.resv c hc
    exact ⟨by unfold PMap.put; rw [if_neg hcs]; exact h1, by simpa using h2⟩
  · intro b y q hb hq hx
    rcases split_ hb hq with ⟨rfl, rfl, rfl⟩ | ⟨hl, hb, hq⟩
    · have := (r.keep _ (.inr hx)).2; omega
    · exact r.far b y q hb hq hx

/-- Places are kept free. -/
theorem Rel.pad {C : Cx} {φ : PMap} {w : World} {h : Heap} (r : Rel C φ w h) {n : Nat} {N : Nat → Prop} (hN : ∀ b, N b → C.N b ∨ (h.length ≤ b ∧ b < h.length + n)) : Rel { C with N := N } φ w (h ++ List.replicate n none) := by
  have hg : ∀ {b x}, hget (h ++ List.replicate n none) b = some x → hget h b = some x := by
    intro b x hb
    unfold hget at hb ⊢
    rw [List.getElem?_append] at hb
    split at hb
    · exact hb
    · rw [List.getElem?_replicate] at hb
      split at hb <;> simp at hb
  refine ⟨fun b x p hb => r.blk b x p (hg hb), r.lt, fun b p hp => ?_, fun b b' x x' p p' hb hb' => r.inj b b' x x' p p' (hg hb) (hg hb'), r.keep, fun b x p hb => r.away b x p (hg hb), r.anchor, r.os, r.tape, r.output, r.grow, ?_,
    fun b x p hb => r.far b x p (hg hb)⟩
  · have := r.dom b p hp; simp; omega
  · intro b hb
    rcases hN b hb with hb | ⟨h1, h2⟩
    · obtain ⟨h1, h2⟩ := r.resv b hb
      exact ⟨h1, by simp; omega⟩
    · refine ⟨?_, by simp; omega⟩
      cases e : φ b with
      | none => rfl
      | some p => have := r.dom b p e; omega

theorem Rel.lessN {C : Cx} {φ : PMap} {w : World} {h : Heap} (r : Rel C φ w h) {N : Nat → Prop} (hN : ∀ b, N b → C.N b) : Rel { C with N := N } φ w h :=
  ⟨r.blk, r.lt, r.dom, r.inj, r.keep, r.away, r.anchor, r.os, r.tape, r.output, r.grow, fun b hb => r.resv b (hN b hb), r.far⟩

end Go.Ns
