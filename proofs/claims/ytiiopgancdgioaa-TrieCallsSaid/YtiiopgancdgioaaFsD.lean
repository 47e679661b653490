/- The frame of a law: arguments that are numbers, truth values, structs of these, and slices of these. -/
import Derived.Test.YtiiopgancdgioaaFsC
import Derived.ChangeSame
import Derived.RowKit3
import Derived.ProofKit
import Derived.OpenShut
import Derived.Deep.Slices
import Derived.ReadAgain
set_option linter.unusedVariables false
set_option linter.unusedSimpArgs false
namespace Go.Ns

/-! ### Flat types -/
inductive FKd
  | bool
  | int (k : IntKind)
  | str

def typed1 : FKd → NV → Prop
  | .bool, .bool _ => True
  | .int k, .int j n => j = k ∧ (Lit.int k n).wf = true
  | .str, .str s => s.size ≤ maxLen
  | _, _ => False

def typeds : List FKd → List NV → Prop
  | [], [] => True
  | k :: ks, v :: vs => typed1 k v ∧ typeds ks vs
  | _, _ => False

theorem typeds_length : ∀ {ks : List FKd} {vs : List NV}, typeds ks vs → vs.length = ks.length
  | [], [], _ => rfl
  | _ :: _, _ :: _, h => by simp [typeds_length h.2]
  | [], _ :: _, h => h.elim
  | _ :: _, [], h => h.elim

theorem typeds_append : ∀ {ks ks' : List FKd} {vs vs' : List NV}, typeds ks vs → typeds ks' vs' → typeds (ks ++ ks') (vs ++ vs')
  | [], _, [], _, _, h => h
  | _ :: _, _, _ :: _, _, h, h' => ⟨h.1, typeds_append h.2 h'⟩
  | [], _, _ :: _, _, h, _ => h.elim
  | _ :: _, _, [], _, h, _ => h.elim

def flatFs (P : Program) (f : TypeId → Option (List FKd)) : List Field → Nat → Option (List FKd)
  | [], _ => some []
  | x :: xs, off =>
    match f x.type with
    | some ks => if x.offset = off ∧ P.cellsOf x.type = ks.length then (flatFs P f xs (off + ks.length)).map (ks ++ ·) else none
    | none => none

def flatKs (P : Program) : Nat → TypeId → Option (List FKd)
  | 0, _ => none
  | n + 1, t =>
    match P.underlying t with
    | some .bool => some [.bool]
    | some (.int k) => some [.int k]
    | some .string => some [.str]
    | some (.struct fs) =>
      match flatFs P (flatKs P n) fs.toList 0 with
      | some ks => if P.cellsOf t = ks.length then some ks else none
      | none => none
    | some (.array m e) =>
      match flatKs P n e with
      | some ks => if P.cellsOf e = ks.length ∧ P.cellsOf t = m * ks.length then some (List.replicate m ks).flatten else none
      | none => none
    | _ => none

theorem ofCells_append : ∀ {a b : List Value} {x y : List NV}, ofCells a = some x → ofCells b = some y → ofCells (a ++ b) = some (x ++ y)
  | [], _, _, _, h, h' => by simp only [ofCells, Option.some.injEq] at h; subst h; simpa using h'
  | v :: a, b, x, y, h, h' => by
    unfold ofCells at h
    split at h
    · rename_i n ns hn hns
      cases h
      have := ofCells_append hns h'
      simp only [List.cons_append]
      unfold ofCells
      rw [hn, this]
    · cases h

section
variable {H : Type} {enc : TypeId × Value → H} {P : Program} {w : World} {base : Nat} {spare : Nat → Bool} {held : Bool}

theorem mapM_some_cons {α β : Type} {f : α → Option β} {a : α} {l : List α} {r : List β} (h : (a :: l).mapM f = some r) : ∃ b bs, f a = some b ∧ l.mapM f = some bs ∧ r = b :: bs := by
  simp only [List.mapM_cons, Option.pure_def, Option.bind_eq_bind, Option.bind_eq_some_iff, Option.some.injEq] at h
  obtain ⟨b, hb, bs, hbs, rfl⟩ := h
  exact ⟨b, bs, hb, hbs, rfl⟩

theorem trod_flat : ∀ (n : Nat) {t : TypeId} {ks : List FKd} {fuel : Nat} {cs : List Value} {x : DataW H × List MemPlace}, flatKs P n t = some ks → DataW.trod enc P w base spare held fuel t cs = some x →
    ∃ ns, ofCells cs = some ns ∧ typeds ks ns ∧ x.2 = []
  | 0, _, _, _, _, _, h, _ => by cases h
  | n + 1, t, ks, fuel, cs, x, h, e => by
    unfold flatKs at h
    split at h
    · rename_i ht
      cases h
      obtain ⟨b, rfl, rfl⟩ := DataW.trod_bool ht e
      exact ⟨[.bool b], rfl, ⟨trivial, trivial⟩, rfl⟩
    · rename_i k ht
      cases h
      obtain ⟨m, rfl, rfl, hw⟩ := DataW.trod_int ht e
      exact ⟨[.int k m], rfl, ⟨⟨rfl, hw⟩, trivial⟩, rfl⟩
    · rename_i ht
      cases h
      obtain ⟨s, rfl, rfl, hw⟩ := DataW.trod_string ht e
      exact ⟨[.str s], rfl, ⟨hw, trivial⟩, rfl⟩
    · rename_i fs ht
      split at h <;> try (cases h; done)
      rename_i ks' hks
      split at h <;> try (cases h; done)
      rename_i hcell
      cases h
      obtain ⟨xs, m, rfl, rfl, hlen, hxl, hx⟩ := DataW.trod_struct ht e
      have key : ∀ (fl : List Field) (off : Nat) (ks : List FKd) (ys : List (DataW H × List MemPlace)), flatFs P (flatKs P n) fl off = some ks → ys.length = fl.length →
          (∀ (i : Nat) (f : Field), fl[i]? = some f → DataW.trod enc P w base spare held m f.type ((cs.drop f.offset).take (P.cellsOf f.type)) = ys[i]?) →
          ∃ ns, ofCells ((cs.drop off).take ks.length) = some ns ∧ typeds ks ns ∧ ys.flatMap (·.2) = [] := by
        intro fl
        induction fl with
        | nil =>
          intro off ks ys h1 h2 _
          simp only [flatFs, Option.some.injEq] at h1
          subst h1
          have : ys = [] := by simpa using h2
          subst this
          exact ⟨[], by simp [ofCells], trivial, rfl⟩
        | cons f fl ih =>
          intro off ks ys h1 h2 h3
          unfold flatFs at h1
          split at h1 <;> try (cases h1; done)
          rename_i k1 hk1
          split at h1 <;> try (cases h1; done)
          rename_i hc
          obtain ⟨k2, hk2, rfl⟩ := Option.map_eq_some_iff.1 h1
          cases ys with
          | nil => simp at h2
          | cons y ys =>
            have hy := h3 0 f rfl
            simp only [List.getElem?_cons_zero] at hy
            obtain ⟨n1, e1, e2, e3⟩ := trod_flat n hk1 hy
            obtain ⟨n2, g1, g2, g3⟩ := ih _ _ ys hk2 (by simpa using h2) (fun i f hf => by have := h3 (i + 1) f (by simpa using hf); simpa using this)
            refine ⟨n1 ++ n2, ?_, typeds_append e2 g2, by simp [e3, g3]⟩
            rw [hc.1, hc.2] at e1
            have := ofCells_append e1 g1
            rw [← this]
            congr 1
            rw [List.length_append, List.take_add]
            simp [List.drop_drop]
      obtain ⟨ns, h1, h2, h3⟩ := key _ _ _ xs hks (by simpa using hxl) (fun i f hf => hx i f (by simpa using hf))
      refine ⟨ns, ?_, h2, h3⟩
      rw [List.drop_zero, List.take_of_length_le (by omega)] at h1
      exact h1
    · rename_i m el ht
      split at h <;> try (cases h; done)
      rename_i ks' hks
      split at h <;> try (cases h; done)
      rename_i hcell
      cases h
      obtain ⟨xs, fu, rfl, rfl, hlen, hxl, hx⟩ := DataW.trod_array ht e
      have key : ∀ (m off : Nat) (ys : List (DataW H × List MemPlace)), ys.length = m →
          (∀ i, i < m → DataW.trod enc P w base spare held fu el ((cs.drop ((off + i) * P.cellsOf el)).take (P.cellsOf el)) = ys[i]?) →
          ∃ ns, ofCells ((cs.drop (off * ks'.length)).take (m * ks'.length)) = some ns ∧ typeds (List.replicate m ks').flatten ns ∧ ys.flatMap (·.2) = [] := by
        intro m
        induction m with
        | zero =>
          intro off ys h2 _
          have : ys = [] := by simpa using h2
          subst this
          exact ⟨[], by simp [ofCells], trivial, rfl⟩
        | succ m ih =>
          intro off ys h2 h3
          cases ys with
          | nil => simp at h2
          | cons y ys =>
            have hy := h3 0 (by omega)
            simp only [List.getElem?_cons_zero, Nat.add_zero] at hy
            obtain ⟨n1, e1, e2, e3⟩ := trod_flat n hks hy
            obtain ⟨n2, g1, g2, g3⟩ := ih (off + 1) ys (by simpa using h2) (fun i hi => by have := h3 (i + 1) (by omega); rw [show off + 1 + i = off + (i + 1) by omega]; simpa using this)
            refine ⟨n1 ++ n2, ?_, ?_, by simp [e3, g3]⟩
            · rw [hcell.1] at e1
              have := ofCells_append e1 g1
              rw [← this]
              congr 1
              rw [show (m + 1) * ks'.length = ks'.length + m * ks'.length by rw [Nat.add_mul, Nat.one_mul, Nat.add_comm], List.take_add, List.drop_drop]
              rw [show (off + 1) * ks'.length = off * ks'.length + ks'.length by rw [Nat.add_mul, Nat.one_mul]]
            · rw [List.replicate_succ, List.flatten_cons]; exact typeds_append e2 g2
      obtain ⟨ns, h1, h2, h3⟩ := key _ 0 xs hxl (fun i hi => by rw [Nat.zero_add]; exact hx i hi)
      refine ⟨ns, ?_, h2, h3⟩
      rw [Nat.zero_mul, List.drop_zero, List.take_of_length_le (by rw [hlen, hcell.2]; exact Nat.le_refl _)] at h1
      exact h1
    · cases h
end

/-! ### Arguments -/
inductive PK
  | flat (ks : List FKd) (agg : Bool)
  | sl (ks : List FKd)

def isAggB (P : Program) (t : TypeId) : Bool := match P.underlying t with | some (.struct _) | some (.array _ _) => true | _ => false

def pkind (P : Program) (t : TypeId) : Option PK :=
  match P.underlying t with
  | some (.slice e) => match flatKs P 9 e with | some ks => if P.cellsOf e = ks.length ∧ 0 < ks.length then some (.sl ks) else none | none => none
  | _ => (flatKs P 9 t).map fun ks => .flat ks (isAggB P t)

def isFlatV (ks : List FKd) (agg : Bool) (v : NV) : Prop := if agg then ∃ cs, v = .agg cs ∧ typeds ks cs else ∃ k, ks = [k] ∧ typed1 k v

/-- An argument and its block, 'b'. -/
def argOK (k : PK) (b : Nat) (v : NV) (x : Option NBlk) : Prop :=
  match k with
  | .flat ks agg => isFlatV ks agg v ∧ x = none
  | .sl ks => (v = .slice none 0 (.fix 0) ∧ x = none) ∨
      ∃ n c rows, v = .slice (some (b, 0)) n (.fix c) ∧ x = some (.cells (List.flatten rows) true) ∧ n ≤ c ∧ c ≤ maxLen ∧ rows.length = c ∧ ∀ r ∈ rows, typeds ks r

def argsOK : List PK → Nat → List NV → Heap → Prop
  | [], _, [], [] => True
  | k :: ks, b, v :: vs, x :: h => argOK k b v x ∧ argsOK ks (b + 1) vs h
  | _, _, _, _ => False

section
variable {H : Type} {enc : TypeId × Value → H} {P : Program} {W : World}

theorem typed1_one {k : FKd} {v : NV} (h : typed1 k v) : v.one = true := by
  cases k <;> cases v <;> first | rfl | exact h.elim
theorem typeds_one : ∀ {ks : List FKd} {vs : List NV}, typeds ks vs → vs.all NV.one = true
  | [], [], _ => rfl
  | k :: ks, v :: vs, h => by simp [typed1_one h.1, typeds_one h.2]
  | [], _ :: _, h => h.elim
  | _ :: _, [], h => h.elim

theorem ofCells_length : ∀ {a : List Value} {x : List NV}, ofCells a = some x → x.length = a.length
  | [], _, h => by simp only [ofCells, Option.some.injEq] at h; subst h; rfl
  | v :: a, x, h => by
    unfold ofCells at h
    split at h
    · rename_i n ns hn hns; cases h; simp [ofCells_length hns]
    · cases h

theorem cells?_list {base : Nat} {a : Addr} {n : Nat} {cs : List Value} (h : W.cells? base a n = some cs) : cs.length = n ∧ ∀ i, i < n → W.cell? (a.add i) = cs[i]? := by
  unfold World.cells? at h
  split at h
  · exact ⟨by simpa using mapM_some_length h, fun i hi => by have := mapM_some_get h i i (by simp [hi]); simpa using this⟩
  · cases h

theorem arg_abs {r : Reach} {base : Nat} {t : TypeId} {k : PK} {v : Value} {d : DataW H} {ps : List MemPlace} (hk : pkind P t = some k) (hval : Value.okWide P W r base t v)
    (hd : DataW.Trod enc P W 0 (fun _ => true) true t v d ps) (b : Nat) :
    ∃ (nv : NV) (x : Option NBlk) (pl : Option Place), argOK k b nv x ∧ (∀ φ : PMap, φ b = pl → VRel φ nv v) ∧ (∀ y, x = some y → ∃ p, pl = some p ∧ ∀ φ, BRel φ W p y) ∧ (∀ p, pl = some p → p.rb < W.heap.size) ∧ (∀ y, x = some y → writable y = false) := by
  obtain ⟨fuel, hd⟩ := hd
  unfold pkind at hk
  split at hk
  · rename_i e ht
    split at hk <;> try (cases hk; done)
    rename_i ks hks
    split at hk <;> try (cases hk; done)
    rename_i hc
    cases hk
    obtain ⟨hc1, hc2⟩ := hc
    obtain ⟨a0, len0, cap0, rfl⟩ := Go.WideShapes.okWide_slice ht hval
    rcases Go.Deep.open_slice ht hd with ⟨h1, _⟩ | ⟨a, len, cap, m, n, D, Pl, h1, _, hlen, hcap, hm, _, hel⟩
    · simp only [Value.cells, List.cons.injEq, and_true] at h1
      cases h1
      refine ⟨.slice none 0 (.fix 0), none, none, .inl ⟨rfl, rfl⟩, fun φ _ => ⟨rfl, rfl, rfl⟩, by simp, by simp, by simp⟩
    · simp only [Value.cells, List.cons.injEq, and_true] at h1
      injection h1 with h1 h1l h1c
      subst h1
      obtain rfl : len = len0 := h1l.symm
      obtain rfl : cap = cap0 := h1c.symm
      simp only [if_true] at hm
      obtain rfl : cap = m := hm.symm
      have hok : Cell.ok P W r base t (.slice (some a) len cap) := by
        unfold Value.okWide at hval
        simp only [ht] at hval
        unfold Cell.okWide at hval
        simp only [ht] at hval
        exact hval
      unfold Cell.ok at hok
      simp only [ht] at hok
      obtain ⟨_, _, _, hspot, row, ncells, hshape, _⟩ := hok
      obtain ⟨ab, aoff, aspot⟩ := a
      simp only at hspot
      subst hspot
      have hobj : ∃ c fz, W.heap[ab]? = some (.cells c row fz) ∧ c.size = ncells := by
        unfold World.shape? at hshape
        split at hshape
        · rename_i c el fz he
          simp only [Option.some.injEq, Prod.mk.injEq] at hshape
          obtain ⟨rfl, rfl⟩ := hshape
          exact ⟨c, fz, he, rfl⟩
        · cases hshape
      obtain ⟨c, fz, hobj, hcs⟩ := hobj
      have hlt : ab < W.heap.size := (Array.getElem?_eq_some_iff.1 hobj).1
      -- the elements
      have rows : ∃ rows : List (List NV), rows.length = cap ∧ (∀ r ∈ rows, typeds ks r) ∧ ofCells ((c.toList.drop aoff).take (cap * ks.length)) = some rows.flatten ∧ (0 < cap → aoff + cap * ks.length ≤ c.size) := by
        have key : ∀ j, j ≤ cap → ∃ rows : List (List NV), rows.length = j ∧ (∀ r ∈ rows, typeds ks r) ∧ ofCells ((c.toList.drop aoff).take (j * ks.length)) = some rows.flatten ∧ (0 < j → aoff + j * ks.length ≤ c.size) := by
          intro j
          induction j with
          | zero => intro _; exact ⟨[], rfl, by simp, by simp [ofCells], by omega⟩
          | succ j ih =>
            intro hj
            obtain ⟨rows, r1, r2, r3, r4⟩ := ih (by omega)
            obtain ⟨cs', hcells, htr⟩ := hel j (by omega)
            obtain ⟨ns, n1, n2, _⟩ := trod_flat 9 hks htr
            obtain ⟨l1, l2⟩ := cells?_list hcells
            rw [hc1] at l1 l2
            have hget : ∀ i, i < ks.length → c[aoff + j * ks.length + i]? = cs'[i]? := by
              intro i hi
              have := l2 i hi
              rw [← this, Go.WideShapes.add_plain, Go.WideShapes.add_plain]
              unfold World.cell?
              simp [hobj]
            have hbound : aoff + (j + 1) * ks.length ≤ c.size := by
              have := hget (ks.length - 1) (by omega)
              rw [List.getElem?_eq_getElem (by omega)] at this
              have := (Array.getElem?_eq_some_iff.1 this).1
              rw [Nat.add_mul, Nat.one_mul]; omega
            have hcut : (c.toList.drop (aoff + j * ks.length)).take ks.length = cs' := by
              apply List.ext_getElem?
              intro i
              by_cases hi : i < ks.length
              · rw [List.getElem?_take_of_lt hi, List.getElem?_drop, ← hget i hi, Array.getElem?_toList]
              · rw [List.getElem?_eq_none (by simp; omega), List.getElem?_eq_none (by omega)]
            refine ⟨rows ++ [ns], by simp [r1], ?_, ?_, fun _ => hbound⟩
            · intro r hr
              rcases List.mem_append.1 hr with h | h
              · exact r2 r h
              · simp only [List.mem_singleton] at h; subst h; exact n2
            · rw [List.flatten_append, Nat.add_mul, Nat.one_mul, List.take_add, List.drop_drop, hcut]
              have := ofCells_append r3 n1
              simpa using this
        exact key cap (Nat.le_refl _)
      obtain ⟨rows, r1, r2, r3, r4⟩ := rows
      have hrl : rows.flatten.length = cap * ks.length := by
        rw [ofCells_length r3]
        by_cases h0 : 0 < cap
        · have := r4 h0; simp; omega
        · have : cap = 0 := by omega
          subst this; simp
      have hone : rows.flatten.all NV.one = true := by
        rw [List.all_flatten]
        rw [List.all_eq_true]
        intro r hr
        exact typeds_one (r2 r hr)
      let p : Place := ⟨ab, if cap = 0 then 0 else aoff, c.size, cap * ks.length⟩
      refine ⟨.slice (some (b, 0)) len (.fix cap), some (.cells rows.flatten true), some p, .inr ⟨len, cap, rows, rfl, rfl, hlen, hcap, r1, r2⟩, ?_, ?_, ?_, ?_⟩
      · intro φ hφ
        refine ⟨p, aoff, hφ, rfl, hlen, ?_⟩
        by_cases h0 : cap = 0
        · exact .inl h0
        · right; simp [p, h0]
      · rintro y hy
        cases hy
        refine ⟨p, rfl, fun φ => ⟨_, hobj, c, row, fz, rfl, rfl, hrl, ?_, by simp, ?_, hone⟩⟩
        · by_cases h0 : cap = 0
          · simp [p, h0]
          · have := r4 (by omega); simp [p, h0]; omega
        · by_cases h0 : cap = 0
          · subst h0
            have : rows = [] := by simpa using r1
            subst this
            simp [p, VRels]
          · have := (ofCells_rel (φ := φ) r3).1
            simpa [p, h0] using this
      · rintro p' hp'; cases hp'; exact hlt
      · rintro y hy; cases hy; rfl
  · rename_i hns
    obtain ⟨ks, hks, rfl⟩ := Option.map_eq_some_iff.1 hk
    obtain ⟨ns, h1, h2, h3⟩ := trod_flat 9 hks hd
    have hrel : ∀ φ : PMap, VRels φ ns v.cells.toList := fun φ => (ofCells_rel h1).1
    by_cases ha : isAggB P t = true
    · have hv : ∃ cs, v = .agg cs := by
        unfold isAggB at ha
        unfold Value.okWide at hval
        split at ha
        · rename_i ht; simp only [ht] at hval; obtain ⟨cs, hcs, _⟩ := hval; exact ⟨cs, hcs⟩
        · rename_i ht; simp only [ht] at hval; obtain ⟨cs, hcs, _⟩ := hval; exact ⟨cs, hcs⟩
        · cases ha
      obtain ⟨cs, rfl⟩ := hv
      refine ⟨.agg ns, none, none, ⟨?_, rfl⟩, fun φ _ => ⟨cs, rfl, by simpa [Value.cells] using hrel φ, typeds_one h2⟩, by simp, by simp, by simp⟩
      unfold isFlatV; rw [if_pos ha]; exact ⟨ns, rfl, h2⟩
    · have hna : isAggB P t = false := by simpa using ha
      have hcell : v.cells = #[v] := by
        cases v <;> try rfl
        rename_i cs
        exfalso
        unfold isAggB at hna
        unfold Value.okWide at hval
        split at hna
        · cases hna
        · cases hna
        · rename_i hn1 hn2
          split at hval
          · rename_i fs ht; exact hn1 fs ht
          · rename_i m el ht; exact hn2 m el ht
          · unfold Cell.okWide at hval
            split at hval <;> first | (rename_i heq; cases heq; done) | skip
            unfold Cell.ok at hval
            split at hval <;> first | (rename_i heq; cases heq; done) | exact hval
      have hr0 := hrel (fun _ => none)
      rw [hcell] at h1 hrel
      have hlen := ofCells_length h1
      match ns, hlen, h2, hrel with
      | [n], _, h2, hrel =>
        match ks, h2 with
        | [k], h2 =>
          refine ⟨n, none, none, ⟨?_, rfl⟩, fun φ _ => ?_, by simp, by simp, by simp⟩
          · unfold isFlatV; rw [if_neg ha]; exact ⟨k, rfl, h2.1⟩
          · obtain ⟨y, r, e, hy, _⟩ := hrel φ
            simp only [List.cons.injEq] at e
            rw [e.1]; exact hy

theorem args_abs {r : Reach} {base : Nat} : ∀ {ts : List TypeId} {ks : List PK} {vs : List Value} {ds : List (DataW H)} {ps : List MemPlace}, ts.mapM (pkind P) = some ks → (∀ (j : Nat) t v, ts[j]? = some t → vs[j]? = some v → Value.okWide P W r base t v) →
    DataW.TrodAll enc P W 0 (fun _ => true) true ts vs ds ps → ∀ b, ∃ (nvs : List NV) (h : Heap) (pls : List (Option Place)), argsOK ks b nvs h ∧ pls.length = h.length ∧ (∀ φ : PMap, (∀ i, i < h.length → φ (b + i) = (pls[i]?).join) → VRels φ nvs vs) ∧
      (∀ i y, hget h i = some y → ∃ p, (pls[i]?).join = some p ∧ ∀ φ, BRel φ W p y) ∧ (∀ (i : Nat) (p : Place), (pls[i]?).join = some p → p.rb < W.heap.size) ∧ (∀ i y, hget h i = some y → writable y = false)
  | [], ks, [], [], ps, hk, _, _, b => by
    simp only [List.mapM_nil, Option.pure_def, Option.some.injEq] at hk
    subst hk
    exact ⟨[], [], [], trivial, rfl, fun φ _ => rfl, by simp [hget], by simp, by simp [hget]⟩
  | t :: ts, ks, v :: vs, d :: ds, ps, hk, hval, ⟨p, q, hd, hds, _⟩, b => by
    obtain ⟨k, ks', hk1, hk2, rfl⟩ := mapM_some_cons hk
    obtain ⟨nv, x, pl, a1, a2, a3, a4, a5⟩ := arg_abs hk1 (hval 0 t v rfl rfl) hd b
    obtain ⟨nvs, h, pls, b1, b2, b3, b4, b5, b6⟩ := args_abs hk2 (fun j t v h1 h2 => hval (j + 1) t v (by simpa using h1) (by simpa using h2)) hds (b + 1)
    refine ⟨nv :: nvs, x :: h, pl :: pls, ⟨a1, b1⟩, by simp [b2], ?_, ?_, ?_, ?_⟩
    · intro φ hφ
      have h0 := hφ 0 (by simp)
      simp only [Nat.add_zero, List.getElem?_cons_zero, Option.join_some] at h0
      refine ⟨v, vs, rfl, a2 φ h0, b3 φ fun i hi => ?_⟩
      have := hφ (i + 1) (by simp; omega)
      rw [show b + 1 + i = b + (i + 1) by omega, this]
      simp
    · intro i y hy
      cases i with
      | zero =>
        rw [hget_zero] at hy
        obtain ⟨p, h1, h2⟩ := a3 y hy
        exact ⟨p, by simp [h1], h2⟩
      | succ i => rw [hget_succ] at hy; simpa using b4 i y hy
    · intro i p hp
      cases i with
      | zero => exact a4 p (by simpa using hp)
      | succ i => exact b5 i p (by simpa using hp)
    · intro i y hy
      cases i with
      | zero => rw [hget_zero] at hy; exact a5 y hy
      | succ i => rw [hget_succ] at hy; exact b6 i y hy

/-- The world of a call, abstractly. -/
theorem call_abs {r : Reach} {base : Nat} {ts : List TypeId} {ks : List PK} {vs : List Value} {ds : List (DataW H)} {ps : List MemPlace} (hk : ts.mapM (pkind P) = some ks) (hval : ∀ (j : Nat) t v, ts[j]? = some t → vs[j]? = some v → Value.okWide P W r base t v)
    (hd : DataW.TrodAll enc P W 0 (fun _ => true) true ts vs ds ps) : ∃ (nvs : List NV) (h : Heap) (φ : PMap), argsOK ks 0 nvs h ∧ VRels φ nvs vs ∧ Rel (keepAll W) φ W h := by
  obtain ⟨nvs, h, pls, b1, b2, b3, b4, b5, b6⟩ := args_abs hk hval hd 0
  let φ : PMap := fun b => (pls[b]?).join
  refine ⟨nvs, h, φ, b1, b3 φ (fun i _ => by simp [φ]), ?_⟩
  have hdom : ∀ b p, φ b = some p → b < h.length := by
    intro b p hp
    rcases Nat.lt_or_ge b pls.length with hl | hl
    · omega
    · simp only [φ, List.getElem?_eq_none hl] at hp; cases hp
  constructor
  · intro b x p hx hp
    obtain ⟨p', h1, h2⟩ := b4 b x hx
    have : p' = p := by simp only [φ] at hp; rw [hp] at h1; cases h1; rfl
    subst this
    exact h2 φ
  · exact fun b p hp => b5 b p hp
  · exact hdom
  · intro b b' x x' p p' hx hx' hp hp' hw
    rw [b6 b x hx] at hw; cases hw
  · intro i hi
    rcases hi with hi | hi
    · exact ⟨rfl, hi⟩
    · exact hi.elim
  · intro b x p hx hp hw; rw [b6 b x hx] at hw; cases hw
  · intro b p hp; cases hp
  · rfl
  · rfl
  · exact ⟨rfl, Nat.le_refl _⟩
  · exact Nat.le_refl _
  · intro b hb; exact hb.elim
  · intro b x p hx hp hY; exact hY
end
end Go.Ns
