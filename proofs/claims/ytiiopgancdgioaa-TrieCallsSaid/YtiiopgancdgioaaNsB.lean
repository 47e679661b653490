/- The relation between the abstract run and the model's world, and the translation of the model's code into abstract operations. -/
import Derived.Test.YtiiopgancdgioaaNsA
import Derived.Laws.CopyRow
import Derived.Laws.Externs
import Derived.Laws.Append
import Derived.KernelRfl
namespace Go.Ns

/-- Where an abstract block lies: block, first cell, cells of the block, known cells. -/
structure Place where
  rb : Nat
  ro : Nat
  sz : Nat
  k : Nat

abbrev PMap := Nat → Option Place

section
variable (φ : PMap)

mutual
def VRel : NV → Value → Prop
  | .bool b, v => v = .bool b
  | .int k n, v => v = .int k n
  | .str s, v => v = .string s
  | .ptr none, v => v = .pointer none
  | .ptr (some (b, o)), v => ∃ p, φ b = some p ∧ v = .pointer (some ⟨p.rb, p.ro + o, none⟩)
  | .slice none n c, v => v = .slice none 0 0 ∧ n = 0 ∧ c = .fix 0
  | .slice (some (b, o)) n (.fix c), v => ∃ p off, φ b = some p ∧ v = .slice (some ⟨p.rb, off, none⟩) n c ∧ n ≤ c ∧ (c = 0 ∨ off = p.ro + o)
  | .slice (some (b, o)) n (.opn e), v => ∃ p off cap, φ b = some p ∧ v = .slice (some ⟨p.rb, off, none⟩) n cap ∧ n ≤ cap ∧ (cap = 0 ∨ off = p.ro + o) ∧
      p.ro + o + cap * e ≤ p.sz ∧ p.k ≤ o + cap * e ∧ 0 < e
  | .map none, v => v = .map none
  | .map (some b), v => ∃ p, φ b = some p ∧ v = .map (some p.rb)
  | .func fn a b, v => ∃ x y : Array Value, v = .func fn x y ∧ VRels a x.toList ∧ VRels b y.toList
  | .nilFunc, v => v = .nilFunc
  | .iface t x, v => ∃ y, v = .iface t y ∧ VRel x y
  | .nilIface, v => v = .nilIface
  | .agg cs, v => ∃ vs : Array Value, v = .agg vs ∧ VRels cs vs.toList ∧ cs.all NV.one = true
  | .tup cs, v => ∃ vs : Array Value, v = .tuple vs ∧ VRels cs vs.toList
def VRels : List NV → List Value → Prop
  | [], vs => vs = []
  | c :: cs, vs => ∃ v r, vs = v :: r ∧ VRel c v ∧ VRels cs r
end
end

/-- One map extends another. -/
def PMap.le (φ ψ : PMap) : Prop := ∀ b p, φ b = some p → ψ b = some p

theorem PMap.le.refl (φ : PMap) : φ.le φ := fun _ _ h => h
theorem PMap.le.trans {φ ψ χ : PMap} (h : φ.le ψ) (k : ψ.le χ) : φ.le χ := fun b p e => k b p (h b p e)

mutual
theorem VRel.mono {φ ψ : PMap} (h : φ.le ψ) : ∀ {n : NV} {v : Value}, VRel φ n v → VRel ψ n v
  | .bool _, _, e => e
  | .int _ _, _, e => e
  | .str _, _, e => e
  | .ptr none, _, e => e
  | .ptr (some (_, _)), _, ⟨p, hp, e⟩ => ⟨p, h _ _ hp, e⟩
  | .slice none _ _, _, e => e
  | .slice (some (_, _)) _ (.fix _), _, ⟨p, off, hp, r⟩ => ⟨p, off, h _ _ hp, r⟩
  | .slice (some (_, _)) _ (.opn _), _, ⟨p, off, cap, hp, r⟩ => ⟨p, off, cap, h _ _ hp, r⟩
  | .map none, _, e => e
  | .map (some _), _, ⟨p, hp, e⟩ => ⟨p, h _ _ hp, e⟩
  | .func _ a b, _, ⟨x, y, e, ha, hb⟩ => ⟨x, y, e, VRels.mono h ha, VRels.mono h hb⟩
  | .nilFunc, _, e => e
  | .iface _ x, _, ⟨y, e, hx⟩ => ⟨y, e, VRel.mono h hx⟩
  | .nilIface, _, e => e
  | .agg cs, _, ⟨vs, e, hc, h1⟩ => ⟨vs, e, VRels.mono h hc, h1⟩
  | .tup cs, _, ⟨vs, e, hc⟩ => ⟨vs, e, VRels.mono h hc⟩
theorem VRels.mono {φ ψ : PMap} (h : φ.le ψ) : ∀ {n : List NV} {v : List Value}, VRels φ n v → VRels ψ n v
  | [], _, e => e
  | _ :: _, _, ⟨v, r, e, hv, hr⟩ => ⟨v, r, e, VRel.mono h hv, VRels.mono h hr⟩
end

theorem VRels.length {φ : PMap} : ∀ {n : List NV} {v : List Value}, VRels φ n v → v.length = n.length
  | [], _, e => by simp [VRels] at e; simp [e]
  | _ :: _, _, ⟨v, r, e, _, hr⟩ => by subst e; simp [VRels.length hr]

theorem VRels.get {φ : PMap} : ∀ {n : List NV} {v : List Value}, VRels φ n v → ∀ (i : Nat) (x : NV), n[i]? = some x → ∃ y, v[i]? = some y ∧ VRel φ x y
  | [], _, _, i, x, hx => by simp at hx
  | _ :: _, _, ⟨v, r, e, hv, hr⟩, 0, x, hx => by subst e; simp at hx; subst hx; exact ⟨v, by simp, hv⟩
  | _ :: _, _, ⟨v, r, e, hv, hr⟩, i + 1, x, hx => by
    subst e
    simp at hx
    obtain ⟨y, hy, hxy⟩ := VRels.get hr i x hx
    exact ⟨y, by simpa using hy, hxy⟩

theorem VRels.of_get {φ : PMap} : ∀ {n : List NV} {v : List Value}, v.length = n.length → (∀ (i : Nat) (x : NV) (y : Value), n[i]? = some x → v[i]? = some y → VRel φ x y) → VRels φ n v
  | [], [], _, _ => rfl
  | [], _ :: _, hl, _ => by simp at hl
  | _ :: _, [], hl, _ => by simp at hl
  | x :: n, y :: v, hl, h => ⟨y, v, rfl, h 0 x y (by simp) (by simp), VRels.of_get (by simpa using hl) (fun i a b ha hb => h (i + 1) a b (by simpa using ha) (by simpa using hb))⟩

theorem VRels.append {φ : PMap} : ∀ {a b : List NV} {x y : List Value}, VRels φ a x → VRels φ b y → VRels φ (a ++ b) (x ++ y)
  | [], _, _, _, e, hb => by simp [VRels] at e; subst e; simpa using hb
  | _ :: _, _, _, _, ⟨v, r, e, hv, hr⟩, hb => by subst e; exact ⟨v, _, rfl, hv, VRels.append hr hb⟩

theorem VRels.take {φ : PMap} : ∀ {a : List NV} {x : List Value} (n : Nat), VRels φ a x → VRels φ (a.take n) (x.take n)
  | [], _, n, e => by simp [VRels] at e; subst e; simp [VRels]
  | _ :: _, _, 0, _ => by simp [VRels]
  | _ :: _, _, n + 1, ⟨v, r, e, hv, hr⟩ => by subst e; exact ⟨v, _, rfl, hv, VRels.take n hr⟩

theorem VRels.drop {φ : PMap} : ∀ {a : List NV} {x : List Value} (n : Nat), VRels φ a x → VRels φ (a.drop n) (x.drop n)
  | [], _, n, e => by simp [VRels] at e; subst e; simp [VRels]
  | _ :: _, _, 0, h => h
  | _ :: _, _, n + 1, ⟨v, r, e, hv, hr⟩ => by subst e; simpa using VRels.drop n hr

theorem VRels.splice {φ : PMap} {a b : List NV} {x y : List Value} (o : Nat) (ha : VRels φ a x) (hb : VRels φ b y) :
    VRels φ (splice a o b) (x.take o ++ (y ++ x.drop (o + y.length))) := by
  unfold Ns.splice
  rw [hb.length]
  exact (ha.take o).append (hb.append (ha.drop _))

theorem VRels.map {φ : PMap} {α : Type} (f : α → NV) (g : α → Value) : ∀ (l : List α), (∀ x ∈ l, VRel φ (f x) (g x)) → VRels φ (l.map f) (l.map g)
  | [], _ => rfl
  | a :: l, h => ⟨g a, l.map g, rfl, h a (by simp), VRels.map f g l (fun x hx => h x (by simp [hx]))⟩

/-- What is one cell is one cell on either side. -/
theorem VRel.one {φ : PMap} {n : NV} {v : Value} (h : VRel φ n v) (h1 : n.one = true) : v.oneCell' = true := by
  cases n with
  | agg cs => simp [NV.one] at h1
  | tup cs => simp [NV.one] at h1
  | bool b => simp [VRel] at h; simp [h, Value.oneCell']
  | int k n => simp [VRel] at h; simp [h, Value.oneCell']
  | str s => simp [VRel] at h; simp [h, Value.oneCell']
  | ptr a =>
    cases a with
    | none => simp [VRel] at h; simp [h, Value.oneCell']
    | some a => simp [VRel] at h; obtain ⟨p, _, rfl⟩ := h; simp [Value.oneCell']
  | slice a n c =>
    cases a with
    | none => simp [VRel] at h; simp [h, Value.oneCell']
    | some a =>
      cases c with
      | fix c => simp [VRel] at h; obtain ⟨p, _, off, rfl, _⟩ := h; simp [Value.oneCell']
      | opn e => simp [VRel] at h; obtain ⟨p, _, off, cap, rfl, _⟩ := h; simp [Value.oneCell']
  | map r =>
    cases r with
    | none => simp [VRel] at h; simp [h, Value.oneCell']
    | some a => simp [VRel] at h; obtain ⟨p, _, rfl⟩ := h; simp [Value.oneCell']
  | func fn a b => simp only [VRel] at h; obtain ⟨x, y, rfl, _⟩ := h; simp [Value.oneCell']
  | nilFunc => simp [VRel] at h; simp [h, Value.oneCell']
  | iface t x => simp only [VRel] at h; obtain ⟨y, rfl, _⟩ := h; simp [Value.oneCell']
  | nilIface => simp [VRel] at h; simp [h, Value.oneCell']

/-- The cells of related values. -/
theorem VRel.cells {φ : PMap} {n : NV} {v : Value} (h : VRel φ n v) : VRels φ n.cells v.cells.toList := by
  by_cases h1 : ∃ cs, n = .agg cs
  · obtain ⟨cs, rfl⟩ := h1
    simp only [VRel] at h
    obtain ⟨vs, rfl, hc, _⟩ := h
    simpa [NV.cells, Value.cells] using hc
  · have e1 : n.cells = [n] := by cases n <;> first | rfl | exact absurd ⟨_, rfl⟩ h1
    have e2 : v.cells = #[v] := by
      cases n with
      | agg cs => exact absurd ⟨cs, rfl⟩ h1
      | tup cs => simp only [VRel] at h; obtain ⟨vs, rfl, _⟩ := h; rfl
      | _ => have := VRel.one h rfl; cases v <;> first | rfl | simp [Value.oneCell'] at this
    rw [e1, e2]
    exact ⟨v, [], rfl, h, rfl⟩

theorem NV.flat_one {n : NV} (h : n.flat = true) : n.cells.all NV.one = true := by
  cases n <;> simp_all [NV.flat, NV.cells, NV.one]

theorem VRel.flat {φ : PMap} {n : NV} {v : Value} (h : VRel φ n v) (hf : n.flat = true) : ∀ u ∈ v.cells.toList, u.oneCell' = true := by
  intro u hu
  obtain ⟨i, hi⟩ := List.getElem?_of_mem hu
  have hc := h.cells
  have hlt : i < n.cells.length := by rw [← hc.length]; exact (List.getElem?_eq_some_iff.1 hi).1
  obtain ⟨y, hy, hxy⟩ := hc.get i (n.cells[i]) (List.getElem?_eq_getElem hlt)
  rw [hi] at hy
  cases hy
  exact hxy.one (List.all_eq_true.1 (NV.flat_one hf) _ (List.getElem_mem hlt))

/-- An aggregate holds cells alone. -/
theorem VRel.agg_flat {φ : PMap} {cs : List NV} {v : Value} (h : VRel φ (.agg cs) v) : (NV.agg cs).flat = true := by
  simp only [VRel] at h; obtain ⟨_, _, _, h⟩ := h; exact h

/-! ## The translation -/

def ofCell : Value → Option NV
  | .bool b => some (.bool b)
  | .int k n => some (.int k n)
  | .string s => some (.str s)
  | .pointer none => some (.ptr none)
  | .slice none 0 0 => some (.slice none 0 (.fix 0))
  | .map none => some (.map none)
  | .nilFunc => some .nilFunc
  | .nilIface => some .nilIface
  | _ => none

def ofCells : List Value → Option (List NV)
  | [] => some []
  | v :: r =>
    match ofCell v, ofCells r with
    | some n, some ns => some (n :: ns)
    | _, _ => none

def ofConst : Value → Option NV
  | .agg cs => (ofCells cs.toList).map .agg
  | v => ofCell v

theorem ofCell_rel {φ : PMap} {v : Value} {n : NV} (h : ofCell v = some n) : VRel φ n v ∧ n.one = true := by
  unfold ofCell at h
  split at h <;> first | (cases h; simp [VRel, NV.one]; done) | (simp at h; done)

theorem ofCells_rel {φ : PMap} : ∀ {vs : List Value} {ns : List NV}, ofCells vs = some ns → VRels φ ns vs ∧ ns.all NV.one = true
  | [], _, h => by simp [ofCells] at h; subst h; simp [VRels]
  | v :: r, ns, h => by
    unfold ofCells at h
    split at h
    · rename_i n ns' hn hns
      cases h
      obtain ⟨h1, h2⟩ := ofCell_rel (φ := φ) hn
      obtain ⟨h3, h4⟩ := ofCells_rel (φ := φ) hns
      exact ⟨⟨v, r, rfl, h1, h3⟩, by simp [h2, h4]⟩
    · cases h

theorem ofConst_rel {φ : PMap} {v : Value} {n : NV} (h : ofConst v = some n) : VRel φ n v ∧ n.flat = true := by
  unfold ofConst at h
  split at h
  · rename_i cs
    obtain ⟨ns, hns, rfl⟩ := Option.map_eq_some_iff.1 h
    obtain ⟨h1, h2⟩ := ofCells_rel (φ := φ) hns
    exact ⟨⟨cs, rfl, h1, h2⟩, h2⟩
  · obtain ⟨h1, h2⟩ := ofCell_rel (φ := φ) h
    refine ⟨h1, ?_⟩
    cases n <;> simp_all [NV.one, NV.flat]

def copd : Operand → NOpd
  | .tmp t => .tmp t
  | .const v => match ofConst v with | some n => .const n | none => .bad
  | .global _ => .bad
  | .func f => .const (.func (.func f) [] [])

def NOpd.ok : NOpd → Bool
  | .bad => false
  | _ => true

/-- The kinds of the cells of the fields of a struct. -/
def kindsFs (P : Program) (K : TypeId → Option (List CK)) : List Field → Nat → Option (List CK)
  | [], _ => some []
  | f :: r, off =>
    if f.name != "_" && f.offset == off then
      match K f.type, P.info? f.type with
      | some ks, some j =>
        if j.size = ks.length then (kindsFs P K r (off + j.size)).map (ks ++ ·) else none
      | _, _ => none
    else none

/-- The kinds of the cells of a type whose values compare cell by cell. -/
def kindsT (P : Program) : Nat → TypeId → Option (List CK)
  | 0, _ => none
  | d + 1, t =>
    match P.underlying t with
    | some .bool => some [.bool]
    | some (.int _) => some [.int]
    | some .string => some [.str]
    | some (.pointer _) => some [.ptr]
    | some (.struct fs) => if P.stoodInHeld t then none else kindsFs P (kindsT P d) fs.toList 0
    | some (.array n e) =>
      match kindsT P d e, P.info? e with
      | some ks, some j => if j.size = ks.length then some (List.replicate n ks).flatten else none
      | _, _ => none
    | _ => none

def isAggT (P : Program) (t : TypeId) : Bool :=
  match P.underlying t with
  | some (.struct _) | some (.array _ _) => true
  | _ => false

def typed (P : Program) (t : TypeId) : Bool := (P.underlying t).isSome

def sizeT (P : Program) (t : TypeId) : Option Nat := (P.info? t).map (·.size)
def bytesT (P : Program) (t : TypeId) : Option Nat := (P.info? t).map (·.bytes)
def zeroT (P : Program) (t : TypeId) : Option NV := ((P.info? t).bind (·.zero)).bind ofConst

def NOp.orFail : Option NOp → NOp
  | some o => o
  | none => .fail

/-- The parts of a literal, with their places. -/
def cparts (place : Nat → Option (Nat × Nat)) : List (Nat × Operand) → Option (List (Nat × Nat × NOpd))
  | [] => some []
  | (i, x) :: r =>
    match place i, cparts place r with
    | some (off, size), some ps => some ((off, size, copd x) :: ps)
    | _, _ => none

def cplaces (P : Program) : List Field → Option (List (Nat × Nat))
  | [] => some []
  | f :: r =>
    match sizeT P f.type, cplaces P r with
    | some n, some ps => some ((f.offset, n) :: ps)
    | _, _ => none

def kindsOf (P : Program) (t : TypeId) : Option (List CK) := kindsT P 12 t

def ceq (P : Program) (neg : Bool) (t : TypeId) (x y : Operand) : NOp :=
  match P.underlying t with
  | some .bool => .eq neg false [.bool] (copd x) (copd y)
  | some (.pointer _) => .eq neg false [.ptr] (copd x) (copd y)
  | some (.slice _) => .eq neg false [.slice] (copd x) (copd y)
  | some (.func _ _ _) => .eq neg false [.func] (copd x) (copd y)
  | some (.int _) => .bin (if neg then .neq else .eql) (copd x) (copd y)
  | some .string => .bin (if neg then .neq else .eql) (copd x) (copd y)
  | some (.struct _) | some (.array _ _) =>
    match kindsOf P t with
    | some ks => if P.eqGuardType P.depth t then .fail else .eq neg true ks (copd x) (copd y)
    | none => .fail
  | _ => .fail

def cbin (P : Program) (op : BinOp) (t : TypeId) (x y : Operand) : NOp :=
  match op with
  | .eql => ceq P false t x y
  | .neq => ceq P true t x y
  | _ =>
    match P.underlying t with
    | some (.int _) => .bin op (copd x) (copd y)
    | some .string => .bin op (copd x) (copd y)
    | _ => .fail

def cconv (P : Program) (src dst : TypeId) (x : Operand) : NOp :=
  match P.underlying src, P.underlying dst with
  | some (.int _), some (.int k) => .conv k (copd x)
  | some .string, some .string => .fail
  | some (.slice e), some .string =>
    match P.underlying e with
    | some (.int .u8) => .toStr (copd x)
    | _ => .fail
  | _, _ => .fail

def goodFn (P : Program) (f : Nat) : Bool :=
  match P.funcs[f]? with
  | some fn => fn.body.isSome && !(fn.name == "runtime.NumGoroutine")
  | none => false

def extFn (P : Program) (f : Nat) : Option String :=
  match P.funcs[f]? with
  | some fn => if fn.body.isNone && (fn.name == "math/bits.Add64" || fn.name == "math/bits.Sub64") && fn.origin == "" then some fn.name else none
  | none => none

def plainKind : CK → Bool
  | .bool | .int | .str => true
  | _ => false

def keyTy (P : Program) (t : TypeId) : Option (Bool × List CK) :=
  match P.underlying t with
  | some (.map k _) =>
    match kindsOf P k with
    | some ks => if ks.all plainKind then some (isAggT P k, ks) else none
    | none => none
  | _ => none

def cbuiltin (P : Program) (b : Builtin) (c : Call) : NOp :=
  match b, c.argTypes[0]?, c.args.toList with
  | .len, some t, [x] =>
    match P.underlying t with
    | some .string => .lenStr (copd x)
    | some (.array n _) => .lenArr n
    | some (.slice _) => .lenSl (copd x)
    | some (.map _ _) => .lenMap (copd x)
    | _ => .fail
  | .cap, some t, [x] =>
    match P.underlying t with
    | some (.slice _) => .capSl (copd x)
    | _ => .fail
  | .append, some t, [s, x] =>
    match P.underlying t, (c.argTypes[1]?).bind P.underlying with
    | some (.slice e), some (.slice _) =>
      match sizeT P e, bytesT P e, zeroT P e with
      | some n, some m, some z => if 0 < n ∧ 0 < m ∧ z.cells.length = n then .append n m (copd s) (copd x) else .fail
      | _, _, _ => .fail
    | some (.slice e), some (.int _) =>
      match sizeT P e, bytesT P e, zeroT P e with
      | some n, some m, some z => if 0 < n ∧ 0 < m ∧ z.cells.length = n then .appendz n m z.cells (copd s) (copd x) else .fail
      | _, _, _ => .fail
    | _, _ => .fail
  | .min, _, x :: r => .minmax false (copd x :: r.map copd)
  | .max, _, x :: r => .minmax true (copd x :: r.map copd)
  | .delete, some t, [m, k] => NOp.orFail ((keyTy P t).map fun q => .delete q.1 q.2 (copd m) (copd k))
  | _, _, _ => .fail

def ccall (P : Program) (c : Call) : NOp :=
  match c.callee with
  | .builtin b => cbuiltin P b c
  | .invoke _ _ => .fail
  | .value (.func f) =>
    match extFn P f with
    | some name => .ext name (c.args.toList.map copd)
    | none => if goodFn P f then .call f (c.args.toList.map copd) else .fail
  | .value x => .callv (copd x) (c.args.toList.map copd)

def cop' (P : Program) : Op → NOp
  | .move x | .assign x => .move (copd x)
  | .pick c a b => .pick (copd c) (copd a) (copd b)
  | .alloc e => NOp.orFail ((zeroT P e).map fun z => .alloc z.cells)
  | .box _ x => .box (copd x)
  | .build t ps =>
    match zeroT P t, P.underlying t with
    | some z, some (.struct fs) => NOp.orFail ((cplaces P fs.toList).bind fun pl => (cparts (pl[·]?) ps.toList).map fun q => .build z.cells q)
    | some z, some (.array _ e) => NOp.orFail ((sizeT P e).bind fun n => (cparts (fun i => some (i * n, n)) ps.toList).map fun q => .build z.cells q)
    | _, _ => .fail
  | .buildSlice t n ps =>
    match P.underlying t with
    | some (.slice e) =>
      match sizeT P e, zeroT P e with
      | some m, some z =>
        if n * m ≤ 16777216 ∧ 0 < m ∧ z.cells.length = m then
          NOp.orFail ((cparts (fun i => some (i * m, m)) ps.toList).map fun q => .bslice n (List.replicate n z.cells).flatten q)
        else .fail
      | _, _ => .fail
    | _ => .fail
  | .load t a => if typed P t then NOp.orFail ((sizeT P t).map fun n => .load n (isAggT P t) (copd a)) else .fail
  | .store t a v => NOp.orFail ((sizeT P t).map fun n => .store n (copd a) (copd v))
  | .nilCheck x => .nilCheck (copd x)
  | .binOp op t x y _ => cbin P op t x y
  | .unOp op _ x => .un op (copd x)
  | .convert src dst x => cconv P src dst x
  | .makeFunc fn a b => .mkfunc fn (a.toList.map copd) (b.toList.map copd)
  | .makeMap _ none => .mkmap
  | .makeSlice t l c =>
    match P.underlying t with
    | some (.slice e) =>
      match sizeT P e, bytesT P e, zeroT P e with
      | some n, some m, some z => if 0 < n ∧ z.cells.length = n then .mkslice n m z.cells (copd l) (copd c) else .fail
      | _, _, _ => .fail
    | _ => .fail
  | .slice t x lo hi mx =>
    match P.underlying t with
    | some (.slice e) => NOp.orFail ((sizeT P e).bind fun n => if 0 < n then some (.slice (copd x) (lo.map copd) (hi.map copd) (mx.map copd) n) else none)
    | some (.array n e) => NOp.orFail ((sizeT P e).map fun m => .sliceArr (copd x) (lo.map copd) (hi.map copd) (mx.map copd) n m)
    | some .string => if mx.isNone then .sliceStr (copd x) (lo.map copd) (hi.map copd) else .fail
    | _ => .fail
  | .fieldAddr t x i =>
    match P.underlying t with
    | some (.struct fs) =>
      match fs[i]? with
      | some f => (match sizeT P f.type with | some (_ + 1) => .off (copd x) f.offset | _ => .fail)
      | none => .fail
    | _ => .fail
  | .field t x i =>
    match P.underlying t with
    | some (.struct fs) =>
      match fs[i]? with
      | some f => if typed P f.type then NOp.orFail ((sizeT P f.type).map fun n => .fieldv (copd x) f.offset n (isAggT P f.type)) else .fail
      | none => .fail
    | _ => .fail
  | .indexAddr t x i =>
    match P.underlying t with
    | some (.array n e) => NOp.orFail ((sizeT P e).map fun m => .idxArr (copd x) (copd i) n m)
    | some (.slice e) => NOp.orFail ((sizeT P e).map fun m => .idxSl (copd x) (copd i) m)
    | _ => .fail
  | .index t x i =>
    match P.underlying t with
    | some (.array n e) => if typed P e then NOp.orFail ((sizeT P e).map fun m => .indexv (copd x) (copd i) n m (isAggT P e)) else .fail
    | some .string => .strIdx (copd x) (copd i)
    | _ => .fail
  | .lookup t m k ok =>
    match P.underlying t with
    | some (.map _ e) => NOp.orFail ((keyTy P t).bind fun q => (zeroT P e).map fun z => .lookup q.1 q.2 z ok (copd m) (copd k))
    | _ => .fail
  | .mapUpdate t m k v => NOp.orFail ((keyTy P t).map fun q => .update q.1 q.2 (copd m) (copd k) (copd v))
  | .range t x =>
    match P.underlying t with
    | some (.map _ _) => .range (copd x)
    | _ => .fail
  | .next it false => .next (copd it)
  | .entry it => .entry (copd it)
  | .extract t i => .extract (copd t) i
  | .call c => ccall P c
  | _ => .fail

/-- The abstract operation of an operation; what is not served fails. -/
def cop (P : Program) (o : Op) : NOp := if o.operands.toList.all (fun x => (copd x).ok) then cop' P o else .fail

end Go.Ns
