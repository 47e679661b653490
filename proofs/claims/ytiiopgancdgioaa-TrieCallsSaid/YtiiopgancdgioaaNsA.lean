/- The abstract run of Go code that 'Ns' is made of: values, an abstract heap, operations. It imports nothing of a program. -/
import Derived.Orders
import Derived.Tactics
namespace Go.Ns

/-- The capacity of a slice: known, or not (its elements have 'esz' cells). -/
inductive Cap where
  | fix (n : Nat)
  | opn (esz : Nat)

inductive NV where
  | bool (b : Bool)
  | int (k : IntKind) (n : Int)
  | str (s : ByteArray)
  | ptr (a : Option (Nat × Nat))
  | slice (a : Option (Nat × Nat)) (len : Nat) (cap : Cap)
  | map (r : Option Nat)
  | func (fn : Fn) (first captured : List NV)
  | nilFunc
  | iface (t : TypeId) (v : NV)
  | nilIface
  | agg (cs : List NV)
  | tup (vs : List NV)

instance : Inhabited NV := ⟨.tup []⟩

def nundef : NV := .tup []
def NV.cells : NV → List NV
  | .agg cs => cs
  | v => [v]
def NV.one : NV → Bool
  | .agg _ | .tup _ => false
  | _ => true
/-- A value that fits into cells: one cell, or an aggregate of cells. -/
def NV.flat : NV → Bool
  | .agg cs => cs.all NV.one
  | .tup _ => false
  | _ => true

/-- An entry of a map: key, element, stamp. -/
structure NEnt where
  key : NV
  val : NV
  born : Nat

inductive NBlk where
  | cells (cs : List NV) (ro : Bool)
  | map (es : List NEnt) (clock : Nat)
  | iter (m : Option Nat) (since : Nat) (seen : List Nat) (stepped : Nat)

abbrev Heap := List (Option NBlk)

def hget (h : Heap) (b : Nat) : Option NBlk := (h[b]?).join
def hset (h : Heap) (b : Nat) (x : NBlk) : Heap := h.set b (some x)
def hkill (h : Heap) (b : Nat) : Heap := h.set b none
def hcells (h : Heap) (b : Nat) : Option (List NV) :=
  match hget h b with
  | some (.cells cs _) => some cs
  | _ => none

/-- 'n' cells from place 'o' on. -/
def cut (cs : List NV) (o n : Nat) : Option (List NV) := if o + n ≤ cs.length then some ((cs.drop o).take n) else none
/-- Cells from place 'o' on are replaced. -/
def splice (cs : List NV) (o : Nat) (new : List NV) : List NV := cs.take o ++ (new ++ cs.drop (o + new.length))

inductive Res (α : Type) where
  | ok (a : α)
  | fail
  | ask (n : Nat) (k : Nat → Res α)
  | pick (D : NV × Heap → Prop) (k : NV × Heap → Res α)

def Res.bind {α β : Type} : Res α → (α → Res β) → Res β
  | .ok a, f => f a
  | .fail, _ => .fail
  | .ask n k, f => .ask n fun i => (k i).bind f
  | .pick D k, f => .pick D fun i => (k i).bind f

def Res.all {α : Type} (Q : α → Prop) : Res α → Prop
  | .ok a => Q a
  | .fail => False
  | .ask n k => 0 < n ∧ ∀ i, i < n → (k i).all Q
  | .pick D k => ∀ i, D i → (k i).all Q

def Res.of {α : Type} : Option α → Res α
  | some a => .ok a
  | none => .fail

theorem Res.all_mono {α : Type} {Q Q' : α → Prop} (hq : ∀ a, Q a → Q' a) : ∀ {r : Res α}, r.all Q → r.all Q'
  | .ok a, h => hq a h
  | .fail, h => h.elim
  | .ask _ _, h => ⟨h.1, fun i hi => Res.all_mono hq (h.2 i hi)⟩
  | .pick _ _, h => fun i hi => Res.all_mono hq (h i hi)

theorem Res.all_bind {α β : Type} {Q : β → Prop} {f : α → Res β} : ∀ {r : Res α}, (r.bind f).all Q → r.all fun a => (f a).all Q
  | .ok _, h => h
  | .fail, h => h.elim
  | .ask _ _, h => ⟨h.1, fun i hi => Res.all_bind (h.2 i hi)⟩
  | .pick _ _, h => fun i hi => Res.all_bind (h i hi)

theorem Res.bind_all {α β : Type} {Q : β → Prop} {f : α → Res β} : ∀ {r : Res α}, (r.all fun a => (f a).all Q) → (r.bind f).all Q
  | .ok _, h => h
  | .fail, h => h.elim
  | .ask _ _, h => ⟨h.1, fun i hi => Res.bind_all (h.2 i hi)⟩
  | .pick _ _, h => fun i hi => Res.bind_all (h i hi)

/-- An operand. -/
inductive NOpd where
  | tmp (t : Nat)
  | const (v : NV)
  | bad

/-- What a cell may hold that is compared. -/
inductive CK where
  | bool | int | str | ptr | slice | func
  deriving DecidableEq

inductive NOp where
  | fail
  | move (x : NOpd)
  | pick (c a b : NOpd)
  | bin (o : BinOp) (x y : NOpd)
  | eq (neg agg : Bool) (ks : List CK) (x y : NOpd)
  | un (o : UnOp) (x : NOpd)
  | conv (k : IntKind) (x : NOpd)
  | nilCheck (x : NOpd)
  | off (x : NOpd) (n : Nat)
  | idxArr (x i : NOpd) (len esz : Nat)
  | idxSl (x i : NOpd) (esz : Nat)
  | fieldv (x : NOpd) (off size : Nat) (agg : Bool)
  | indexv (x i : NOpd) (len esz : Nat) (agg : Bool)
  | strIdx (x i : NOpd)
  | build (zero : List NV) (parts : List (Nat × Nat × NOpd))
  | extract (x : NOpd) (i : Nat)
  | mkfunc (fn : Fn) (first captured : List NOpd)
  | slice (x : NOpd) (lo hi mx : Option NOpd) (esz : Nat)
  | sliceArr (x : NOpd) (lo hi mx : Option NOpd) (n esz : Nat)
  | sliceStr (x : NOpd) (lo hi : Option NOpd)
  | lenSl (x : NOpd)
  | lenStr (x : NOpd)
  | lenArr (n : Nat)
  | capSl (x : NOpd)
  | minmax (isMax : Bool) (xs : List NOpd)
  | load (size : Nat) (agg : Bool) (x : NOpd)
  | toStr (x : NOpd)
  | lenMap (x : NOpd)
  | lookup (kagg : Bool) (ks : List CK) (zero : NV) (ok : Bool) (m k : NOpd)
  | alloc (zero : List NV)
  | box (x : NOpd)
  | bslice (n : Nat) (zero : List NV) (parts : List (Nat × Nat × NOpd))
  | mkslice (esz bytes : Nat) (zero : List NV) (l c : NOpd)
  | mkmap
  | store (size : Nat) (x v : NOpd)
  | append (esz bytes : Nat) (s x : NOpd)
  | appendz (esz bytes : Nat) (zero : List NV) (s x : NOpd)
  | copy (esz : Nat) (d x : NOpd)
  | update (kagg : Bool) (ks : List CK) (m k v : NOpd)
  | delete (kagg : Bool) (ks : List CK) (m k : NOpd)
  | range (m : NOpd)
  | next (it : NOpd)
  | entry (it : NOpd)
  | call (f : Nat) (args : List NOpd)
  | callv (x : NOpd) (args : List NOpd)
  | ext (name : String) (args : List NOpd)

inductive Cls where
  | P | L | A | E
  deriving DecidableEq

def cls : NOp → Cls
  | .load .. | .toStr _ | .lenMap _ | .lookup .. => .L
  | .alloc _ | .box _ | .bslice .. | .mkslice .. | .mkmap => .A
  | .store .. | .append .. | .appendz .. | .copy .. | .update .. | .delete .. | .range _ | .next _ | .entry _ | .call .. | .callv .. | .ext .. => .E
  | _ => .P

def NOpd.tmps : NOpd → List Nat
  | .tmp t => [t]
  | _ => []

def optTmps : Option NOpd → List Nat
  | some x => x.tmps
  | none => []

/-- The temporaries that an operation reads. -/
def NOp.reads : NOp → List Nat
  | .fail | .lenArr _ | .alloc _ | .mkmap => []
  | .move x | .un _ x | .conv _ x | .nilCheck x | .off x _ | .fieldv x .. | .extract x _ | .lenSl x | .lenStr x | .capSl x | .load _ _ x | .toStr x | .lenMap x | .box x | .range x | .next x | .entry x => x.tmps
  | .pick c a b => c.tmps ++ (a.tmps ++ b.tmps)
  | .bin _ x y | .eq _ _ _ x y | .idxArr x y _ _ | .idxSl x y _ | .indexv x y .. | .strIdx x y | .lookup _ _ _ _ x y | .mkslice _ _ _ x y | .store _ x y | .append _ _ x y | .appendz _ _ _ x y | .copy _ x y | .delete _ _ x y => x.tmps ++ y.tmps
  | .build _ ps | .bslice _ _ ps => ps.flatMap fun p => p.2.2.tmps
  | .mkfunc _ a b => a.flatMap (·.tmps) ++ b.flatMap (·.tmps)
  | .slice x lo hi mx _ | .sliceArr x lo hi mx _ _ => x.tmps ++ (optTmps lo ++ (optTmps hi ++ optTmps mx))
  | .sliceStr x lo hi => x.tmps ++ (optTmps lo ++ optTmps hi)
  | .minmax _ xs | .call _ xs | .ext _ xs => xs.flatMap (·.tmps)
  | .update _ _ m k v => m.tmps ++ (k.tmps ++ v.tmps)
  | .callv x xs => x.tmps ++ xs.flatMap (·.tmps)

section
variable (ρ : NOpd → NV)

def nint? : NV → Option Int
  | .int _ n => some n
  | _ => none

/-- Equality of cells. -/
def eqCell : CK → NV → NV → Option Bool
  | .bool, .bool a, .bool b => some (a == b)
  | .int, .int j a, .int k b => if j = k then some (a == b) else none
  | .str, .str a, .str b => some (a == b)
  | .ptr, .ptr none, .ptr b => some b.isNone
  | .ptr, .ptr (some _), .ptr none => some false
  | .slice, .slice none _ _, .slice b _ _ => some b.isNone
  | .slice, .slice (some _) _ _, .slice none _ _ => some false
  | .func, .nilFunc, .nilFunc => some true
  | .func, .nilFunc, .func _ _ _ => some false
  | .func, .func _ _ _, .nilFunc => some false
  | _, _, _ => none

def eqCells : List CK → List NV → List NV → Option Bool
  | [], [], [] => some true
  | k :: ks, x :: xs, y :: ys =>
    match eqCell k x y, eqCells ks xs ys with
    | some a, some b => some (a && b)
    | _, _ => none
  | _, _, _ => none

/-- Equality of two values of one type. -/
def eqVal (agg : Bool) (ks : List CK) (x y : NV) : Option Bool :=
  if agg then
    match x, y with
    | .agg xs, .agg ys => eqCells ks xs ys
    | _, _ => none
  else
    match ks with
    | [k] => eqCell k x y
    | _ => none

def nbits (op : BinOp) (k : IntKind) (x y : Int) : Option Int :=
  let a := BitVec.ofInt k.bits x
  let b := BitVec.ofInt k.bits y
  match op with
  | .and => some (k.wrap (a &&& b).toNat)
  | .or => some (k.wrap (a ||| b).toNat)
  | .xor => some (k.wrap (a ^^^ b).toNat)
  | .andNot => some (k.wrap (a &&& ~~~b).toNat)
  | _ => none

def nbin (op : BinOp) : NV → NV → Option NV
  | .int k a, .int yk b =>
    match op with
    | .shl => if b < 0 then none else some (.int k (k.wrap (a * 2 ^ (min b.toNat k.bits))))
    | .shr => if b < 0 then none else some (.int k (a.fdiv (2 ^ (min b.toNat k.bits))))
    | .add => if k = yk then some (.int k (k.wrap (a + b))) else none
    | .sub => if k = yk then some (.int k (k.wrap (a - b))) else none
    | .mul => if k = yk then some (.int k (k.wrap (a * b))) else none
    | .quo => if k = yk then (if b = 0 then none else some (.int k (k.wrap (a.tdiv b)))) else none
    | .rem => if k = yk then (if b = 0 then none else some (.int k (a.tmod b))) else none
    | .eql => if k = yk then some (.bool (a == b)) else none
    | .neq => if k = yk then some (.bool (a != b)) else none
    | .lss => if k = yk then some (.bool (decide (a < b))) else none
    | .leq => if k = yk then some (.bool (decide (a ≤ b))) else none
    | .gtr => if k = yk then some (.bool (decide (a > b))) else none
    | .geq => if k = yk then some (.bool (decide (a ≥ b))) else none
    | .and => if k = yk then (nbits .and k a b).map (.int k) else none
    | .or => if k = yk then (nbits .or k a b).map (.int k) else none
    | .xor => if k = yk then (nbits .xor k a b).map (.int k) else none
    | .andNot => if k = yk then (nbits .andNot k a b).map (.int k) else none
  | .str a, .str b =>
    match op with
    | .add => if a.size + b.size ≤ 9223372036854775807 then some (.str (a ++ b)) else none
    | .eql => some (.bool (a.toList == b.toList))
    | .neq => some (.bool (!(a.toList == b.toList)))
    | .lss => some (.bool (Op.bytesLess a.toList b.toList))
    | .leq => some (.bool (Op.bytesLess a.toList b.toList || a.toList == b.toList))
    | .gtr => some (.bool (!(Op.bytesLess a.toList b.toList || a.toList == b.toList)))
    | .geq => some (.bool (!(Op.bytesLess a.toList b.toList)))
    | _ => none
  | _, _ => none

def nun (op : UnOp) : NV → Option NV
  | .int k n =>
    match op with
    | .neg => some (.int k (k.wrap (0 - n)))
    | .xor => (nbits .xor k (if k.signed then -1 else k.max) n).map (.int k)
    | _ => none
  | .bool b =>
    match op with
    | .not => some (.bool !b)
    | _ => none
  | _ => none

/-- Parts laid into cells. -/
def nfill (cells : List NV) : List (Nat × Nat × NOpd) → Option (List NV)
  | [] => some cells
  | (off, size, x) :: rest =>
    if (ρ x).flat = true ∧ (ρ x).cells.length = size ∧ off + size ≤ cells.length then nfill (splice cells off (ρ x).cells) rest else none

/-- A bound of a slice expression. -/
def bound : NV → Nat → Option Nat
  | .int _ i, y => if 0 ≤ i ∧ i ≤ (y : Int) then some i.toNat else none
  | _, _ => none

def obound (x : Option NOpd) (y dflt : Nat) : Option Nat :=
  match x with
  | some x => bound (ρ x) y
  | none => some dflt

/-- Low, high, max of a slice expression. -/
def nbounds (len cap : Nat) (lo hi mx : Option NOpd) : Option (Nat × Nat × Nat) :=
  if hi.isNone && mx.isSome then none else
  (obound ρ mx cap cap).bind fun m => (obound ρ hi m len).bind fun h => (obound ρ lo h 0).bind fun l => some (l, h, m)

def adv (a : Option (Nat × Nat)) (n : Nat) : Option (Nat × Nat) := a.map fun (b, o) => (b, o + n)

def nslice (x : NV) (lo hi mx : Option NOpd) (esz : Nat) : Option NV :=
  match x with
  | .slice a len (.fix c) =>
    (nbounds ρ len c lo hi mx).map fun q => .slice (if q.2.2 = q.1 then a else adv a (q.1 * esz)) (q.2.1 - q.1) (.fix (q.2.2 - q.1))
  | .slice a len (.opn e) =>
    if e ≠ esz then none else
    match mx with
    | none => (nbounds ρ len len lo hi none).map fun q => .slice (adv a (q.1 * esz)) (q.2.1 - q.1) (.opn e)
    | some _ => (nbounds ρ len len lo hi mx).map fun q => .slice (if q.2.2 = q.1 then a else adv a (q.1 * esz)) (q.2.1 - q.1) (.fix (q.2.2 - q.1))
  | _ => none

def minmax2 (isMax : Bool) : NV → NV → Option NV
  | .int k x, .int _ y => some (.int k (if isMax then (if y > x then y else x) else (if y < x then y else x)))
  | _, _ => none

def npick : NV → NV → NV → Option NV
  | .bool true, a, _ => some a
  | .bool false, _, b => some b
  | _, _, _ => none

def nidxArr : NV → NV → Nat → Nat → Option NV
  | .ptr (some (b, o)), .int _ i, len, esz => if 0 ≤ i ∧ i < (len : Int) then some (.ptr (some (b, o + i.toNat * esz))) else none
  | _, _, _, _ => none

def nidxSl : NV → NV → Nat → Option NV
  | .slice (some (b, o)) len _, .int _ i, esz => if 0 ≤ i ∧ i < (len : Int) then some (.ptr (some (b, o + i.toNat * esz))) else none
  | _, _, _ => none

def npart (agg : Bool) (cs : List NV) (off size : Nat) : Option NV :=
  if agg then (if off + size ≤ cs.length then some (.agg ((cs.drop off).take size)) else none) else cs[off]?

def nfield : NV → Nat → Nat → Bool → Option NV
  | .agg cs, off, size, agg => npart agg cs off size
  | _, _, _, _ => none

def nindex : NV → NV → Nat → Nat → Bool → Option NV
  | .agg cs, .int _ i, len, esz, agg => if 0 ≤ i ∧ i < (len : Int) then npart agg cs (i.toNat * esz) esz else none
  | _, _, _, _, _ => none

def nstrIdx : NV → NV → Option NV
  | .str s, .int _ i => if 0 ≤ i then (s.data.toList[i.toNat]?).map (fun b => .int .u8 b.toNat) else none
  | _, _ => none

def nextract : NV → Nat → Option NV
  | .tup vs, i => vs[i]?
  | _, _ => none

def noff : NV → Nat → Option NV
  | .ptr (some (b, o)), n => some (.ptr (some (b, o + n)))
  | _, _ => none

def nnilCheck : NV → Option NV
  | .ptr (some a) => some (.ptr (some a))
  | .func (.func f) x y => some (.func (.func f) x y)
  | _ => none

def nconv (k : IntKind) : NV → Option NV
  | .int _ n => some (.int k (k.wrap n))
  | _ => none

def nlenSl : NV → Option NV
  | .slice _ n _ => some (.int .i64 n)
  | _ => none
def nlenStr : NV → Option NV
  | .str s => some (.int .i64 s.size)
  | _ => none
def ncap : NV → Option NV
  | .slice _ _ (.fix c) => some (.int .i64 c)
  | _ => none

def nsliceArr (x : NV) (lo hi mx : Option NOpd) (n esz : Nat) : Option NV :=
  match x with
  | .ptr (some (b, o)) => (nbounds ρ n n lo hi mx).map fun q => .slice (some (b, if q.2.2 = q.1 then o else o + q.1 * esz)) (q.2.1 - q.1) (.fix (q.2.2 - q.1))
  | _ => none

def nsliceStr (x : NV) (lo hi : Option NOpd) : Option NV :=
  match x with
  | .str s => (nbounds ρ s.size s.size lo hi none).map fun q => .str (s.extract q.1 q.2.1)
  | _ => none

/-- Operations that look at their operands alone. -/
def npure : NOp → Option NV
  | .move x => some (ρ x)
  | .pick c a b => npick (ρ c) (ρ a) (ρ b)
  | .bin o x y => nbin o (ρ x) (ρ y)
  | .eq neg agg ks x y => (eqVal agg ks (ρ x) (ρ y)).map fun b => .bool (neg != b)
  | .un o x => nun o (ρ x)
  | .conv k x => nconv k (ρ x)
  | .nilCheck x => nnilCheck (ρ x)
  | .off x n => noff (ρ x) n
  | .idxArr x i len esz => nidxArr (ρ x) (ρ i) len esz
  | .idxSl x i esz => nidxSl (ρ x) (ρ i) esz
  | .fieldv x off size agg => nfield (ρ x) off size agg
  | .indexv x i len esz agg => nindex (ρ x) (ρ i) len esz agg
  | .strIdx x i => nstrIdx (ρ x) (ρ i)
  | .build zero parts => (nfill ρ zero parts).map .agg
  | .extract x i => nextract (ρ x) i
  | .mkfunc fn first captured => some (.func fn (first.map ρ) (captured.map ρ))
  | .slice x lo hi mx esz => nslice ρ (ρ x) lo hi mx esz
  | .sliceArr x lo hi mx n esz => nsliceArr ρ (ρ x) lo hi mx n esz
  | .sliceStr x lo hi => nsliceStr ρ (ρ x) lo hi
  | .lenSl x => nlenSl (ρ x)
  | .lenStr x => nlenStr (ρ x)
  | .lenArr n => some (.int .i64 n)
  | .capSl x => ncap (ρ x)
  | .minmax isMax xs =>
    match xs.map ρ with
    | [] => none
    | x :: rest => rest.foldlM (minmax2 isMax) x
  | _ => none

/-- The bytes in cells. -/
def bytesOf : List NV → Option (List UInt8)
  | [] => some []
  | .int .u8 n :: r => (bytesOf r).map (UInt8.ofNat n.toNat :: ·)
  | _ :: _ => none

/-- The cells that a slice shows. -/
def sliceCells (h : Heap) (esz : Nat) : NV → Option (List NV)
  | .slice none n _ => if n = 0 then some [] else none
  | .slice (some (b, o)) n _ => if n * esz = 0 then some [] else (hcells h b).bind fun cs => cut cs o (n * esz)
  | _ => none

/-- A cell of a kind. -/
def cellOk : CK → NV → Bool
  | .bool, .bool _ => true
  | .int, .int _ _ => true
  | .str, .str _ => true
  | _, _ => false

def cellsOk : List CK → List NV → Bool
  | [], [] => true
  | k :: ks, x :: xs => cellOk k x && cellsOk ks xs
  | _, _ => false

/-- A key as its type wants it. -/
def keyOk (kagg : Bool) (ks : List CK) (k : NV) : Bool :=
  if kagg then (match k with | .agg xs => cellsOk ks xs | _ => false) else (match ks with | [c] => cellOk c k | _ => false)

/-- The place of a key among entries. -/
def findEnt (kagg : Bool) (ks : List CK) (k : NV) : List NEnt → Nat → Option (Option (Nat × NV))
  | [], _ => some none
  | e :: es, i =>
    match eqVal kagg ks k e.key with
    | some true => some (some (i, e.val))
    | some false => findEnt kagg ks k es (i + 1)
    | none => none

def entsOf (h : Heap) : NV → Option (List NEnt)
  | .map none => some []
  | .map (some b) =>
    match hget h b with
    | some (.map es _) => some es
    | _ => none
  | _ => none

def nload (h : Heap) (size : Nat) (agg : Bool) : NV → Option NV
  | .ptr (some (b, o)) => (hcells h b).bind fun cs => if agg then (cut cs o size).map .agg else cs[o]?
  | _ => none

/-- What a look-up answers. -/
def lookupRes (ok : Bool) (zero : NV) : Option (Nat × NV) → NV
  | some (_, v) => if ok then .tup [v, .bool true] else v
  | none => if ok then .tup [zero, .bool false] else zero

/-- Operations that read memory. -/
def nread (h : Heap) : NOp → Option NV
  | .load size agg x => nload h size agg (ρ x)
  | .toStr x => (sliceCells h 1 (ρ x)).bind fun cs => (bytesOf cs).map fun bs => .str ⟨bs.toArray⟩
  | .lenMap x => (entsOf h (ρ x)).map fun es => .int .i64 es.length
  | .lookup kagg ks zero ok m k =>
    (entsOf h (ρ m)).bind fun es => if keyOk kagg ks (ρ k) then (findEnt kagg ks (ρ k) es 0).map (lookupRes ok zero)
      else none
  | _ => none

/-- Operations that make one block: the block, and the result as a function of its number. -/
def nalloc : NOp → Option (NBlk × (Nat → NV))
  | .alloc zero => some (.cells zero false, fun b => .ptr (some (b, 0)))
  | .box x => if (ρ x).flat then some (.cells (ρ x).cells false, fun b => .ptr (some (b, 0))) else none
  | .bslice n zero parts => (nfill ρ zero parts).map fun cs => (.cells cs false, fun b => .slice (some (b, 0)) n (.fix n))
  | .mkslice _ bytes zero l c =>
    match ρ l, ρ c with
    | .int _ l, .int _ c =>
      if 0 ≤ l ∧ l ≤ c ∧ (bytes : Int) * c ≤ 140737488355328 ∧ c ≤ 140737488355328 then
        some (.cells (List.replicate c.toNat zero).flatten false, fun b => .slice (some (b, 0)) l.toNat (.fix c.toNat))
      else none
    | _, _ => none
  | .mkmap => some (.map [] 0, fun b => .map (some b))
  | _ => none

/-- A store into cells. -/
def nstore (h : Heap) (size : Nat) : NV → NV → Option Heap
  | .ptr (some (b, o)), v =>
    match hget h b with
    | some (.cells cs false) => if v.flat = true ∧ v.cells.length = size ∧ o + size ≤ cs.length then some (hset h b (.cells (splice cs o v.cells) false)) else none
    | _ => none
  | _, _ => none

/-- Where the cells of an append go. -/
def nappend (h : Heap) (esz bytes : Nat) (s : NV) (n : Nat) (new : List NV) : Option (NV × Heap) :=
  match s with
  | .slice none _ _ =>
    if n = 0 then some (.slice none 0 (.fix 0), h)
    else if n * bytes ≤ 140737488355328 ∧ n ≤ 140737488355328 then some (.slice (some (h.length, 0)) n (.opn esz), h ++ [some (.cells new false)]) else none
  | .slice (some (b, o)) l (.fix c) =>
    if l + n ≤ c then
      if new.length = 0 then some (.slice (some (b, o)) (l + n) (.fix c), h)
      else match hget h b with
        | some (.cells cs false) => if o + (l + n) * esz ≤ cs.length then some (.slice (some (b, o)) (l + n) (.fix c), hset h b (.cells (splice cs (o + l * esz) new) false)) else none
        | _ => none
    else match (if l * esz = 0 then some [] else (hcells h b).bind fun cs => cut cs o (l * esz)) with
      | some old =>
        if (l + n) * bytes ≤ 140737488355328 ∧ l + n ≤ 140737488355328 then some (.slice (some (h.length, 0)) (l + n) (.opn esz), h ++ [some (.cells (old ++ new) false)]) else none
      | none => none
  | .slice (some (b, o)) l (.opn e) =>
    if e ≠ esz then none else
    match hget h b with
    | some (.cells cs false) =>
      if new.length = 0 then some (.slice (some (b, o)) (l + n) (.opn e), h)
      else if o + (l + n) * esz ≤ cs.length then some (.slice (some (b, o)) (l + n) (.opn e), hset h b (.cells (splice cs (o + l * esz) new) false))
      else if o + l * esz ≤ cs.length ∧ (l + n) * bytes ≤ 140737488355328 ∧ l + n ≤ 140737488355328 then
        some (.slice (some (h.length, 0)) (l + n) (.opn esz), hkill h b ++ [some (.cells ((cs.drop o).take (l * esz) ++ new) false)])
      else none
    | _ => none
  | _ => none

def lenOfSl : NV → Option Nat
  | .slice _ n _ => some n
  | _ => none

def ncopy (h : Heap) (esz : Nat) (d x : NV) : Option (NV × Heap) :=
  match d, x with
  | .slice da dl _, .slice xa xl xc =>
    match sliceCells h esz (.slice xa (min xl dl) xc) with
    | some new =>
      if new.length = 0 then some (.int .i64 (min xl dl : Nat), h) else
      match da with
      | some (b, o) =>
        match hget h b with
        | some (.cells cs false) => if o + new.length ≤ cs.length then some (.int .i64 (min xl dl : Nat), hset h b (.cells (splice cs o new) false)) else none
        | _ => none
      | none => none
    | none => none
  | _, _ => none

def nupdate (kagg : Bool) (ks : List CK) (h : Heap) (m k v : NV) : Option Heap :=
  match m with
  | .map (some b) =>
    match hget h b with
    | some (.map es clock) =>
      if keyOk kagg ks k then
        match findEnt kagg ks k es 0 with
        | some (some (i, _)) => some (hset h b (.map (es.modify i fun e => { e with key := k, val := v }) clock))
        | some none => some (hset h b (.map (es ++ [{ key := k, val := v, born := clock }]) (clock + 1)))
        | none => none
      else none
    | _ => none
  | _ => none

def ndelete (kagg : Bool) (ks : List CK) (h : Heap) (m k : NV) : Option Heap :=
  match m with
  | .map none => if keyOk kagg ks k then some h else none
  | .map (some b) =>
    match hget h b with
    | some (.map es clock) =>
      if keyOk kagg ks k = false then none else
      match findEnt kagg ks k es 0 with
      | some (some (i, _)) => some (hset h b (.map (es.eraseIdx i) clock))
      | some none => some h
      | none => none
    | _ => none
  | _ => none

def nrange (h : Heap) (m : NV) : Option (NV × Heap) :=
  match m with
  | .map none => some (.ptr (some (h.length, 0)), h ++ [some (.iter none 0 [] 0)])
  | .map (some b) =>
    match hget h b with
    | some (.map _ clock) => some (.ptr (some (h.length, 0)), h ++ [some (.iter (some b) clock [] clock)])
    | _ => none
  | _ => none

def nnext (h : Heap) (it : NV) : Res (NV × Heap) :=
  match it with
  | .ptr (some (r, 0)) =>
    match hget h r with
    | some (.iter none _ _ _) => .ok (.tup [.bool false], h)
    | some (.iter (some b) since seen last) =>
      match hget h b with
      | some (.map es clock) =>
        if !seen.isEmpty && !es.isEmpty && es.all (fun e => decide (last ≤ e.born)) then .fail else
        let left := es.filter fun e => !seen.contains e.born
        let old := left.filter fun e => decide (e.born < since)
        let new := left.filter fun e => decide (since ≤ e.born)
        let cand : List (Option NEnt) := (if old.isEmpty then [none] else []) ++ (old ++ new).map some
        .ask cand.length fun i =>
          match cand[i]? with
          | some (some e) => .ok (.tup [.bool true, e.key, e.val], hset h r (.iter (some b) since (seen ++ [e.born]) clock))
          | some none => .ok (.tup [.bool false], h)
          | none => .fail
      | _ => .fail
    | _ => .fail
  | _ => .fail

def nentry (h : Heap) (it : NV) : Option NV :=
  match it with
  | .ptr (some (r, 0)) =>
    match hget h r with
    | some (.iter (some b) _ seen stepped) =>
      match seen.getLast?, hget h b with
      | some stamp, some (.map es clock) =>
        if clock = stepped then (es.find? fun e => e.born == stamp).map fun e => .tup [e.key, e.val] else none
      | _, _ => none
    | _ => none
  | _ => none

def m64 : Nat := 18446744073709551616

def next3 (name : String) : List NV → Option NV
  | [.int _ x, .int _ y, .int _ c] =>
    if c.toNat > 1 then none
    else if name = "math/bits.Add64" then
      some (.tup [.int .u64 (Int.ofNat ((x.toNat + y.toNat + c.toNat) % m64)), .int .u64 (Int.ofNat ((x.toNat + y.toNat + c.toNat) / m64))])
    else if name = "math/bits.Sub64" then
      some (.tup [.int .u64 (Int.ofNat ((x.toNat + m64 - y.toNat - c.toNat) % m64)), .int .u64 (Int.ofNat (if x.toNat < y.toNat + c.toNat then 1 else 0))])
    else none
  | _ => none

/-- What the calls of functions come to. -/
abbrev Specs := Nat → List NV → Heap → Res (NV × Heap)

/-- Operations that write memory or call. -/
def neff (S : Specs) (h : Heap) : NOp → Res (NV × Heap)
  | .store size x v => Res.of ((nstore h size (ρ x) (ρ v)).map fun h => (nundef, h))
  | .append esz bytes s x =>
    Res.of ((sliceCells h esz (ρ x)).bind fun new => (lenOfSl (ρ x)).bind fun n => nappend h esz bytes (ρ s) n new)
  | .appendz esz bytes zero s x =>
    match ρ x with
    | .int .i64 m => if 0 ≤ m ∧ (m.toNat : Nat) * bytes ≤ 140737488355328 ∧ m.toNat ≤ 140737488355328 then Res.of (nappend h esz bytes (ρ s) m.toNat (List.replicate m.toNat zero).flatten) else .fail
    | _ => .fail
  | .copy esz d x => Res.of (ncopy h esz (ρ d) (ρ x))
  | .update kagg ks m k v => Res.of ((nupdate kagg ks h (ρ m) (ρ k) (ρ v)).map fun h => (nundef, h))
  | .delete kagg ks m k => Res.of ((ndelete kagg ks h (ρ m) (ρ k)).map fun h => (.tup [], h))
  | .range m => Res.of (nrange h (ρ m))
  | .next it => nnext h (ρ it)
  | .entry it => Res.of ((nentry h (ρ it)).map fun v => (v, h))
  | .call f args => S f (args.map ρ) h
  | .callv x args =>
    match ρ x with
    | .func (.func f) first captured => S f (first ++ args.map ρ ++ captured) h
    | _ => .fail
  | .ext name args => Res.of ((next3 name (args.map ρ)).map fun v => (v, h))
  | _ => .fail

def nop (S : Specs) (h : Heap) (o : NOp) : Res (NV × Heap) :=
  match cls o with
  | .P => Res.of ((npure ρ o).map fun v => (v, h))
  | .L => Res.of ((nread ρ h o).map fun v => (v, h))
  | .A => Res.of ((nalloc ρ o).map fun p => (p.2 h.length, h ++ [some p.1]))
  | .E => neff ρ S h o
end

/-- An operation of a region. -/
structure NOper where
  dst : Option Nat
  op : NOp
  guard : Option (Nat × Bool)

def nval (F : List NV) : NOpd → NV
  | .tmp t => F.getD t nundef
  | .const v => v
  | .bad => nundef

def nput (F : List NV) (dst : Option Nat) (v : NV) : List NV :=
  match dst with
  | some d => F.set d v
  | none => F

def nbool? : NV → Option Bool
  | .bool b => some b
  | _ => none

def nwanted (F : List NV) : Option (Nat × Bool) → Bool
  | none => true
  | some (t, want) => (F[t]?).bind nbool? == some want

/-- One operation of a region: the new temporaries, the new heap. -/
def nstep (S : Specs) (o : NOper) (F : List NV) (h : Heap) : Res (List NV × Heap) :=
  if nwanted F o.guard then (nop (nval F) S h o.op).bind fun r => .ok (nput F o.dst r.1, r.2) else .ok (nput F o.dst nundef, h)

def nops (S : Specs) : List NOper → List NV → Heap → Res (List NV × Heap)
  | [], F, h => .ok (F, h)
  | o :: os, F, h => (nstep S o F h).bind fun r => nops S os r.1 r.2

end Go.Ns
