/- The relation between worlds and abstract heaps; reading and allocating operations. -/
import Derived.Test.YtiiopgancdgioaaNsE
import Derived.Laws.Rows
import Derived.Laws.BytesString
set_option linter.unusedVariables false
set_option linter.unusedSimpArgs false
namespace Go.Ns

/-- Entries of a map. -/
def ERels (φ : PMap) : List NEnt → List MapEntry → Prop
  | [], vs => vs = []
  | e :: es, vs => ∃ v r, vs = v :: r ∧ VRel φ e.key v.key ∧ VRel φ e.val v.val ∧ e.born = v.born ∧ ERels φ es r

theorem ERels.mono {φ ψ : PMap} (h : φ.le ψ) : ∀ {n : List NEnt} {v : List MapEntry}, ERels φ n v → ERels ψ n v
  | [], _, e => e
  | _ :: _, _, ⟨v, r, e, hk, hv, hb, hr⟩ => ⟨v, r, e, hk.mono h, hv.mono h, hb, ERels.mono h hr⟩

theorem ERels.length {φ : PMap} : ∀ {n : List NEnt} {v : List MapEntry}, ERels φ n v → v.length = n.length
  | [], _, e => by simp [ERels] at e; simp [e]
  | _ :: _, _, ⟨v, r, e, _, _, _, hr⟩ => by subst e; simp [ERels.length hr]

/-- An object of the model and an abstract block. -/
def ObjRel (φ : PMap) (p : Place) (o : Obj) : NBlk → Prop
  | .cells cs ro => ∃ c e fz, o = .cells c e fz ∧ c.size = p.sz ∧ cs.length = p.k ∧ p.ro + p.k ≤ p.sz ∧ (ro = false → fz = (0, 0)) ∧
      VRels φ cs ((c.toList.drop p.ro).take p.k) ∧ cs.all NV.one = true
  | .map es clock => p.ro = 0 ∧ ∃ es' : Array MapEntry, o = .map es' clock ∧ ERels φ es es'.toList
  | .iter none since seen stepped => p.ro = 0 ∧ o = .mapIter none since seen.toArray stepped
  | .iter (some b) since seen stepped => p.ro = 0 ∧ ∃ q, φ b = some q ∧ o = .mapIter (some q.rb) since seen.toArray stepped

theorem ObjRel.mono {φ ψ : PMap} (h : φ.le ψ) {p : Place} {o : Obj} {x : NBlk} (hr : ObjRel φ p o x) : ObjRel ψ p o x := by
  unfold ObjRel at hr ⊢
  split at hr
  · obtain ⟨c, e, fz, h1, h2, h3, h4, h5, h6, h7⟩ := hr; exact ⟨c, e, fz, h1, h2, h3, h4, h5, h6.mono h, h7⟩
  · obtain ⟨h0, es, h1, h2⟩ := hr; exact ⟨h0, es, h1, h2.mono h⟩
  · exact hr
  · obtain ⟨h0, q, h1, h2⟩ := hr; exact ⟨h0, q, h _ _ h1, h2⟩

def BRel (φ : PMap) (w : World) (p : Place) (x : NBlk) : Prop := ∃ o, w.heap[p.rb]? = some o ∧ ObjRel φ p o x

def writable : NBlk → Bool
  | .cells _ ro => !ro
  | _ => true

/-- What a run must keep: of blocks 'X' nothing turns; blocks 'G' stay where they are. -/
structure Cx where
  w0 : World
  X : Nat → Prop
  G : PMap
  N : Nat → Prop
  Y : Nat → Prop
  D : List Deferred := []

structure Rel (C : Cx) (φ : PMap) (w : World) (h : Heap) : Prop where
  blk : ∀ b x p, hget h b = some x → φ b = some p → BRel φ w p x
  lt : ∀ b p, φ b = some p → p.rb < w.heap.size
  dom : ∀ b p, φ b = some p → b < h.length
  inj : ∀ b b' x x' p p', hget h b = some x → hget h b' = some x' → φ b = some p → φ b' = some p' → writable x = true → p.rb = p'.rb → b = b'
  keep : ∀ r, C.X r ∨ C.Y r → w.heap[r]? = C.w0.heap[r]? ∧ r < w.heap.size
  away : ∀ b x p, hget h b = some x → φ b = some p → writable x = true → ¬ C.X p.rb
  anchor : C.G.le φ
  os : w.os = C.w0.os
  tape : w.tape = C.w0.tape
  output : w.output = C.w0.output ∧ C.w0.drawn ≤ w.drawn
  grow : C.w0.heap.size ≤ w.heap.size
  resv : ∀ b, C.N b → φ b = none ∧ b < h.length
  far : ∀ b x p, hget h b = some x → φ b = some p → ¬ C.Y p.rb

theorem hget_lt {h : Heap} {b : Nat} {x : NBlk} (e : hget h b = some x) : b < h.length := by
  unfold hget at e
  rcases Nat.lt_or_ge b h.length with hl | hl
  · exact hl
  · rw [List.getElem?_eq_none hl] at e; simp at e

theorem hget_append_lt {h : Heap} {b : Nat} {o : Option NBlk} (hb : b < h.length) : hget (h ++ [o]) b = hget h b := by
  unfold hget; rw [List.getElem?_append_left hb]
theorem hget_append_new {h : Heap} {o : Option NBlk} : hget (h ++ [o]) h.length = o := by
  unfold hget; simp
theorem hget_hset_same {h : Heap} {b : Nat} {x : NBlk} (hb : b < h.length) : hget (hset h b x) b = some x := by
  unfold hget hset; simp [hb]
theorem hget_hset_ne {h : Heap} {b c : Nat} {x : NBlk} (hb : b ≠ c) : hget (hset h b x) c = hget h c := by
  unfold hget hset; simp [List.getElem?_set_ne hb]
theorem hget_hkill_same {h : Heap} {b : Nat} : hget (hkill h b) b = none := by
  unfold hget hkill
  rcases Nat.lt_or_ge b h.length with hl | hl
  · simp [hl]
  · rw [List.getElem?_eq_none (by simpa using hl)]; rfl
theorem hget_hkill_ne {h : Heap} {b c : Nat} (hb : b ≠ c) : hget (hkill h b) c = hget h c := by
  unfold hget hkill; simp [List.getElem?_set_ne hb]
@[simp] theorem length_hset {h : Heap} {b : Nat} {x : NBlk} : (hset h b x).length = h.length := by simp [hset]
@[simp] theorem length_hkill {h : Heap} {b : Nat} : (hkill h b).length = h.length := by simp [hkill]

/-- A map with one place more. -/
def PMap.put (φ : PMap) (b : Nat) (p : Place) : PMap := fun c => if c = b then some p else φ c

theorem PMap.le_put {φ : PMap} {b : Nat} {p : Place} (h : φ b = none) : φ.le (φ.put b p) := fun c q hc => by
  unfold PMap.put; split
  · rename_i e; subst e; rw [h] at hc; cases hc
  · exact hc

theorem PMap.put_same {φ : PMap} {b : Nat} {p : Place} : (φ.put b p) b = some p := by simp [PMap.put]

theorem Rel.fresh {C : Cx} {φ : PMap} {w : World} {h : Heap} (r : Rel C φ w h) : φ h.length = none := by
  cases e : φ h.length with
  | none => rfl
  | some p => have := r.dom _ _ e; omega

/-- One object is one object. -/
theorem heap_alloc_size {w : World} {o : Obj} : (w.alloc o).heap[w.heap.size]? = some o := heap_alloc_new w o
theorem heap_alloc_lt {w : World} {o : Obj} {i : Nat} (h : i < w.heap.size) : (w.alloc o).heap[i]? = w.heap[i]? := heap_alloc_old w o i h

theorem Rel.alloc {C : Cx} {φ : PMap} {w : World} {h : Heap} (r : Rel C φ w h) {o : Obj} {x : NBlk} {p : Place} (hp : p.rb = w.heap.size)
    (ho : ObjRel (φ.put h.length p) p o x) : Rel C (φ.put h.length p) (w.alloc o) (h ++ [some x]) := by
  have hle : φ.le (φ.put h.length p) := PMap.le_put r.fresh
  have split_ : ∀ {b y q}, hget (h ++ [some x]) b = some y → (φ.put h.length p) b = some q → (b = h.length ∧ y = x ∧ q = p) ∨ (b < h.length ∧ hget h b = some y ∧ φ b = some q) := by
    intro b y q hb hq
    have hlt := hget_lt hb
    simp only [List.length_append, List.length_singleton] at hlt
    by_cases e : b = h.length
    · subst e
      rw [hget_append_new] at hb
      rw [PMap.put_same] at hq
      cases hb; cases hq
      exact .inl ⟨rfl, rfl, rfl⟩
    · have hl : b < h.length := by omega
      rw [hget_append_lt hl] at hb
      simp only [PMap.put, if_neg e] at hq
      exact .inr ⟨hl, hb, hq⟩
  have hsz : w.heap.size ≤ (w.alloc o).heap.size := by simp
  constructor
  · intro b y q hb hq
    rcases split_ hb hq with ⟨rfl, rfl, rfl⟩ | ⟨hl, hb, hq⟩
    · exact ⟨o, by rw [hp, heap_alloc_size], ho⟩
    · obtain ⟨o', ho', hr⟩ := r.blk b y q hb hq
      exact ⟨o', by rw [heap_alloc_lt (r.lt _ _ hq)]; exact ho', hr.mono hle⟩
  · intro b q hq
    unfold PMap.put at hq
    split at hq
    · cases hq; simp [hp]
    · have := r.lt _ _ hq; simp; omega
  · intro b q hq
    unfold PMap.put at hq
    split at hq
    · rename_i e; subst e; simp
    · have := r.dom _ _ hq; simp; omega
  · intro b b' y y' q q' hb hb' hq hq' hw he
    rcases split_ hb hq with ⟨e1, e2, e3⟩ | ⟨hl, kb, kq⟩ <;> rcases split_ hb' hq' with ⟨f1, f2, f3⟩ | ⟨hl', kb', kq'⟩
    · rw [e1, f1]
    · have := r.lt _ _ kq'; rw [e3] at he; omega
    · have := r.lt _ _ kq; rw [f3] at he; omega
    · exact r.inj b b' y y' q q' kb kb' kq kq' hw he
  · intro i hi
    obtain ⟨h1, h2⟩ := r.keep i hi
    exact ⟨by rw [heap_alloc_lt h2]; exact h1, by omega⟩
  · intro b y q hb hq hw hx
    rcases split_ hb hq with ⟨rfl, rfl, rfl⟩ | ⟨hl, hb, hq⟩
    · have := (r.keep _ (.inl hx)).2; omega
    · exact r.away b y q hb hq hw hx
  · exact r.anchor.trans hle
  · exact r.os
  · exact r.tape
  · exact r.output
  · exact Nat.le_trans r.grow hsz
  · intro c hc
    obtain ⟨h1, h2⟩ := r.resv c hc
    exact ⟨by unfold PMap.put; rw [if_neg (by omega)]; exact h1, by simp; omega⟩
  · intro b y q hb hq hx
    rcases split_ hb hq with ⟨rfl, rfl, rfl⟩ | ⟨hl, hb, hq⟩
    · have := (r.keep _ (.inr hx)).2; omega
    · exact r.far b y q hb hq hx

section
variable {P : Program} {C : Cx} {φ : PMap} {w : World} {h : Heap} {ρn : NOpd → NV} {ρr : Operand → Value}

theorem hcells_inv {b : Nat} {cs : List NV} (e : hcells h b = some cs) : ∃ ro, hget h b = some (.cells cs ro) := by
  unfold hcells at e
  split at e
  · cases e; rename_i ro hr; exact ⟨ro, hr⟩
  · cases e

/-- The cells of a block. -/
theorem Rel.cells (r : Rel C φ w h) {b : Nat} {cs : List NV} {p : Place} (e : hcells h b = some cs) (hp : φ b = some p) :
    ∃ c t fz, w.heap[p.rb]? = some (.cells c t fz) ∧ c.size = p.sz ∧ cs.length = p.k ∧ p.ro + p.k ≤ p.sz ∧ VRels φ cs ((c.toList.drop p.ro).take p.k) ∧ cs.all NV.one = true := by
  obtain ⟨ro, hr⟩ := hcells_inv e
  obtain ⟨o, ho, c, t, fz, rfl, h1, h2, h3, _, h5, h6⟩ := r.blk _ _ _ hr hp
  exact ⟨c, t, fz, ho, h1, h2, h3, h5, h6⟩

theorem cell_block {w : World} {g j : Nat} {cs : Array Value} {t : TypeId} {fz : Nat × Nat} (hg : w.heap[g]? = some (.cells cs t fz)) : w.cell? ⟨g, j, none⟩ = cs[j]? := by
  simp [World.cell?, hg]

/-- Cells that are cut out, loaded. -/
theorem Rel.loadCells (r : Rel C φ w h) {b o n : Nat} {cs new : List NV} {p : Place} (e : hcells h b = some cs) (hp : φ b = some p) (hc : cut cs o n = some new) :
    ∃ vs : Array Value, (∀ W : World, W.heap = w.heap → (loadCells ⟨p.rb, p.ro + o, none⟩ n).run P W = .ok vs W) ∧ VRels φ new vs.toList ∧ new.all NV.one = true := by
  obtain ⟨c, t, fz, hw, h1, h2, h3, h4, h5⟩ := r.cells e hp
  unfold cut at hc
  split at hc <;> try (cases hc; done)
  rename_i hle
  cases hc
  have hl := h4.length
  let vs : List Value := (c.toList.drop (p.ro + o)).take n
  have hv : VRels φ ((cs.drop o).take n) vs := by
    have := (h4.drop o).take n
    have e1 : ((((c.toList.drop p.ro).take p.k).drop o).take n) = vs := by
      simp only [vs]
      rw [List.drop_take, List.drop_drop, List.take_take]
      congr 1; omega
    rw [e1] at this; exact this
  have hn : vs.length = n := by
    have := hv.length
    simp only [List.length_take, List.length_drop] at this
    rw [this]; omega
  refine ⟨vs.toArray, fun W hW => ?_, by simpa using hv, ?_⟩
  · have := run_loadCells_list (P := P) W ⟨p.rb, p.ro + o, none⟩ vs (fun j v hj => by
      rw [addr_add, cell_block (by rw [hW]; exact hw)]
      simp only [vs, List.getElem?_take, List.getElem?_drop] at hj
      split at hj
      · simpa using hj
      · cases hj)
    rw [hn] at this; exact this
  · simp only [List.all_eq_true] at h5 ⊢
    exact fun a ha => h5 a (List.mem_of_mem_drop (List.mem_of_mem_take ha))

/-- One cell, loaded. -/
theorem Rel.loadCell (r : Rel C φ w h) {b o : Nat} {cs : List NV} {nv : NV} {p : Place} (e : hcells h b = some cs) (hp : φ b = some p) (hc : cs[o]? = some nv) :
    ∃ v, w.cell? ⟨p.rb, p.ro + o, none⟩ = some v ∧ VRel φ nv v ∧ nv.one = true := by
  obtain ⟨c, t, fz, hw, h1, h2, h3, h4, h5⟩ := r.cells e hp
  obtain ⟨v, hv, hr⟩ := h4.get o nv hc
  refine ⟨v, ?_, hr, List.all_eq_true.1 h5 _ (List.mem_of_getElem? hc)⟩
  rw [cell_block hw]
  rw [List.getElem?_take] at hv
  split at hv
  · simpa [List.getElem?_drop] using hv
  · cases hv

theorem run_isAgg {t : TypeId} (ht : typed P t = true) (w : World) : (isAgg t).run P w = .ok (isAggT P t) w := by
  unfold typed at ht
  obtain ⟨d, hd⟩ := Option.isSome_iff_exists.1 ht
  unfold isAgg isAggT
  rw [Sem.run_bind, run_underlying hd w, hd]
  cases d <;> simp

theorem nload_inv {size : Nat} {agg : Bool} {x nv : NV} (e : nload h size agg x = some nv) :
    ∃ b o cs, x = .ptr (some (b, o)) ∧ hcells h b = some cs ∧ ((agg = true ∧ ∃ new, cut cs o size = some new ∧ nv = .agg new) ∨ (agg = false ∧ cs[o]? = some nv)) := by
  unfold nload at e
  split at e <;> try (cases e; done)
  rename_i b o
  obtain ⟨cs, hcs, e⟩ := Option.bind_eq_some_iff.1 e
  refine ⟨b, o, cs, rfl, hcs, ?_⟩
  cases agg
  · exact .inr ⟨rfl, by simpa using e⟩
  · obtain ⟨new, hn, rfl⟩ := Option.map_eq_some_iff.1 (by simpa using e)
    exact .inl ⟨rfl, new, hn, rfl⟩

theorem sim_load (r : Rel C φ w h) {t : TypeId} {n : Nat} {x nv : NV} {vx : Value} (hx : VRel φ x vx) (ht : typed P t = true) (hs : sizeT P t = some n) (e : nload h n (isAggT P t) x = some nv) :
    ∃ v, (Instr.loadAt t vx).run P w = .ok v w ∧ VRel φ nv v := by
  obtain ⟨b, o, cs, rfl, hcs, e⟩ := nload_inv e
  simp only [VRel] at hx
  obtain ⟨p, hp, rfl⟩ := hx
  rcases e with ⟨ha, new, hc, rfl⟩ | ⟨ha, hc⟩
  · obtain ⟨vs, hvs, hr, h1⟩ := r.loadCells (P := P) hcs hp hc
    exact ⟨.agg vs, by simp [Instr.loadAt, Instr.sureAddr, loadVar, run_isAgg ht, ha, run_sizeOf hs, hvs w rfl], ⟨vs, rfl, hr, h1⟩⟩
  · obtain ⟨v, hv, hr, h1⟩ := r.loadCell hcs hp hc
    exact ⟨v, by simp [Instr.loadAt, Instr.sureAddr, loadVar, run_isAgg ht, ha, hv], hr⟩


/-! ### Bytes to a string -/

theorem bytesOf_ints : ∀ {cs : List NV} {bs : List UInt8} {vs : List Value}, bytesOf cs = some bs → VRels φ cs vs → ∃ ns : List Int, vs = ns.map (Value.int .u8) ∧ bs = ns.map fun n => UInt8.ofNat n.toNat
  | [], bs, vs, h, hr => by simp [bytesOf] at h; subst h; simp [VRels] at hr; subst hr; exact ⟨[], rfl, rfl⟩
  | .int .u8 n :: r, bs, vs, h, hr => by
    simp only [bytesOf] at h
    obtain ⟨b, hb, rfl⟩ := Option.map_eq_some_iff.1 h
    obtain ⟨v, q, rfl, hv, hq⟩ := hr
    obtain ⟨ns, rfl, rfl⟩ := bytesOf_ints hb hq
    have := hv.int; subst this
    exact ⟨n :: ns, rfl, rfl⟩
  | .int .i8 _ :: _, _, _, h, _ | .int .i16 _ :: _, _, _, h, _ | .int .i32 _ :: _, _, _, h, _ | .int .i64 _ :: _, _, _, h, _ | .int .u16 _ :: _, _, _, h, _ | .int .u32 _ :: _, _, _, h, _ | .int .u64 _ :: _, _, _, h, _
  | .bool _ :: _, _, _, h, _ | .str _ :: _, _, _, h, _ | .ptr _ :: _, _, _, h, _ | .slice .. :: _, _, _, h, _ | .map _ :: _, _, _, h, _ | .func .. :: _, _, _, h, _ | .nilFunc :: _, _, _, h, _
  | .iface .. :: _, _, _, h, _ | .nilIface :: _, _, _, h, _ | .agg _ :: _, _, _, h, _ | .tup _ :: _, _, _, h, _ => by simp [bytesOf] at h

theorem foldl_push (bs : List UInt8) : ∀ (s : ByteArray), bs.foldl (fun r n => r.push n) s = ⟨(s.data.toList ++ bs).toArray⟩ := by
  induction bs with
  | nil => intro s; simp
  | cons b bs ih =>
    intro s
    simp only [List.foldl_cons, ih]
    congr 1
    simp [ByteArray.push]

theorem sliceCells_run (r : Rel C φ w h) {esz : Nat} {x : NV} {vx : Value} {cs : List NV} (hx : VRel φ x vx) (e : sliceCells h esz x = some cs) :
    ∃ a n cap, vx = .slice a n cap ∧ lenOfSl x = some n ∧
      ((a = none ∧ n = 0 ∧ cap = 0 ∧ cs = [] ) ∨ ∃ aa, a = some aa ∧ ∃ vs : Array Value, (∀ W : World, W.heap = w.heap → (loadCells aa (n * esz)).run P W = .ok vs W) ∧ VRels φ cs vs.toList ∧ cs.all NV.one = true) := by
  unfold sliceCells at e
  split at e
  · rename_i n c
    simp only [VRel] at hx
    obtain ⟨rfl, rfl, _⟩ := hx
    simp at e; subst e
    exact ⟨none, 0, 0, rfl, rfl, .inl ⟨rfl, rfl, rfl, rfl⟩⟩
  · rename_i b o n c
    have hv : ∃ p off cap, φ b = some p ∧ vx = .slice (some ⟨p.rb, off, none⟩) n cap ∧ n ≤ cap ∧ (cap = 0 ∨ off = p.ro + o) := by
      cases c with
      | fix c => simp only [VRel] at hx; obtain ⟨p, off, h1, h2, h3, h4⟩ := hx; exact ⟨p, off, c, h1, h2, h3, h4⟩
      | opn q => simp only [VRel] at hx; obtain ⟨p, off, cap, h1, h2, h3, h4, _⟩ := hx; exact ⟨p, off, cap, h1, h2, h3, h4⟩
    obtain ⟨p, off, cap, hp, rfl, hn, ho⟩ := hv
    refine ⟨_, n, cap, rfl, rfl, .inr ⟨_, rfl, ?_⟩⟩
    split at e
    · rename_i h0
      cases e
      exact ⟨#[], fun W _ => by rw [h0]; rfl, rfl, rfl⟩
    · rename_i h0
      obtain ⟨cs', hcs, hc⟩ := Option.bind_eq_some_iff.1 e
      rcases ho with ho | rfl
      · have : n = 0 := by omega
        subst this; simp at h0
      · exact r.loadCells hcs hp hc
  · cases e

theorem sim_toStr (r : Rel C φ w h) {x : NV} {vx : Value} {cs : List NV} {bs : List UInt8} (hx : VRel φ x vx) (e : sliceCells h 1 x = some cs) (hb : bytesOf cs = some bs) :
    (Conv.bytesToString vx).run P w = .ok (.string ⟨bs.toArray⟩) w := by
  obtain ⟨a, n, cap, rfl, _, hc⟩ := sliceCells_run (P := P) r hx e
  rcases hc with ⟨rfl, _, _, rfl⟩ | ⟨aa, rfl, vs, hl, hr, _⟩
  · simp [bytesOf] at hb; subst hb; rfl
  · obtain ⟨ns, hns, rfl⟩ := bytesOf_ints hb hr
    rw [Nat.mul_one] at hl
    have hvs : vs = (ns.map (Value.int .u8)).toArray := by rw [← hns]
    rw [run_bytesToString (P := P) w aa n cap ns (by rw [hl w rfl, hvs])]
    have : ns.foldl (fun r n => r.push (UInt8.ofNat n.toNat)) ByteArray.empty = (ns.map fun n => UInt8.ofNat n.toNat).foldl (fun r n => r.push n) ByteArray.empty := by
      rw [List.foldl_map]
    rw [this, foldl_push]
    rfl

/-! ### Keys of maps -/

theorem run_beforeEach {α : Type} (f : α → Sem Unit) (w : World) : ∀ (l : List α), (∀ a ∈ l, (f a).run P w = .ok () w) →
    (forIn l PUnit.unit (fun a (_ : PUnit) => (do f a; pure (ForInStep.yield PUnit.unit) : Sem (ForInStep PUnit)))).run P w = .ok PUnit.unit w
  | [], _ => rfl
  | a :: l, h => by
    simp only [List.forIn_cons, Sem.run_bind, h a (by simp), Result.andThen_ok, Sem.run_pure]
    exact run_beforeEach f w l (fun b hb => h b (by simp [hb]))

theorem cellsOk_length : ∀ {ks : List CK} {xs : List NV}, cellsOk ks xs = true → xs.length = ks.length
  | [], [], _ => rfl
  | _ :: _, _ :: _, h => by simp [cellsOk] at h; simp [cellsOk_length h.2]
  | [], _ :: _, h => by simp [cellsOk] at h
  | _ :: _, [], h => by simp [cellsOk] at h

theorem cellsOk_append : ∀ {ka kb : List CK} {xs : List NV}, cellsOk (ka ++ kb) xs = true → cellsOk ka (xs.take ka.length) = true ∧ cellsOk kb (xs.drop ka.length) = true
  | [], kb, xs, h => ⟨by simp [cellsOk], by simpa using h⟩
  | k :: ka, kb, [], h => by simp [cellsOk] at h
  | k :: ka, kb, x :: xs, h => by
    simp only [List.cons_append, cellsOk, Bool.and_eq_true] at h
    obtain ⟨h1, h2⟩ := cellsOk_append h.2
    exact ⟨by simp [cellsOk, h.1, h1], by simpa using h2⟩

def KeyFine (P : Program) (em : Bool) (t : TypeId) (ks : List CK) (D : Nat) : Prop :=
  if isAggT P t then
    ∀ {φ : PMap} {xs : List NV} {vx : Array Value}, VRels φ xs vx.toList → cellsOk ks xs = true → ∀ w, (Instr.checkKey em D t (.agg vx)).run P w = .ok () w
  else
    ∃ k, ks = [k] ∧ ∀ {φ : PMap} {x : NV} {vx : Value}, VRel φ x vx → cellOk k x = true → ∀ w, (Instr.checkKey em D t vx).run P w = .ok () w

theorem keyFine_part {em : Bool} {t : TypeId} {ks : List CK} {D : Nat} (hc : KeyFine P em t ks D) (ht : ∃ d, P.underlying t = some d) (hi : sizeT P t = some ks.length)
    {xs : List NV} {vx : Array Value} {off : Nat} (hx : VRels φ xs vx.toList) (hk : cellsOk ks ((xs.drop off).take ks.length) = true) (w : World) :
    (do Instr.checkKey em D t (← part t vx off) : Sem Unit).run P w = .ok () w := by
  obtain ⟨d, ht⟩ := ht
  have hlen := cellsOk_length hk
  simp only [List.length_take, List.length_drop] at hlen
  have lx := hx.length
  simp only [Array.length_toList] at lx
  unfold KeyFine at hc
  by_cases ha : isAggT P t = true
  · simp only [ha, if_true] at hc
    rw [Sem.run_bind, run_part ht hi w (by simp [ha])]
    simp only [ha, if_true, Result.andThen_ok]
    refine hc (φ := φ) ?_ hk w
    have := (hx.drop off).take ks.length
    simpa [Array.toList_extract, List.extract] using this
  · simp only [ha, if_false, Bool.false_eq_true] at hc
    obtain ⟨k, rfl, hc⟩ := hc
    simp only [List.length_singleton] at *
    have ox : off < xs.length := by omega
    rw [Sem.run_bind, run_part ht hi w (fun _ => by omega)]
    simp only [ha, if_false, Bool.false_eq_true, Result.andThen_ok]
    have ex : (xs.drop off).take 1 = [xs[off]] := by rw [List.drop_eq_getElem_cons ox]; rfl
    rw [ex] at hk
    simp only [cellsOk, Bool.and_true] at hk
    refine hc (φ := φ) (x := xs[off]) ?_ hk w
    have := hx.getElem ox (by simp; omega)
    simpa [Array.getD, show off < vx.size by omega] using this

theorem keyFine_fields {em : Bool} {d D : Nat} (ih : ∀ t ks, kindsT P d t = some ks → KeyFine P em t ks D) {xs : List NV} {vx : Array Value} (hx : VRels φ xs vx.toList) (w : World) :
    ∀ {fs : List Field} {off : Nat} {ks : List CK}, kindsFs P (kindsT P d) fs off = some ks → cellsOk ks (xs.drop off) = true →
      ∀ f ∈ fs, f.name ≠ "_" ∧ (do Instr.checkKey em D f.type (← part f.type vx f.offset) : Sem Unit).run P w = .ok () w
  | [], off, ks, hk, h => by simp
  | f :: fs, off, ks, hk, h => by
    unfold kindsFs at hk
    split at hk <;> try (cases hk; done)
    rename_i hf
    simp only [Bool.and_eq_true, bne_iff_ne, beq_iff_eq] at hf
    split at hk <;> try (cases hk; done)
    rename_i kf j hkf hj
    split at hk <;> try (cases hk; done)
    rename_i hsz
    obtain ⟨kr, hkr, rfl⟩ := Option.map_eq_some_iff.1 hk
    obtain ⟨h1, h2⟩ := cellsOk_append h
    rw [List.drop_drop, ← hsz] at h2
    intro g hg
    simp only [List.mem_cons] at hg
    rcases hg with rfl | hg
    · refine ⟨hf.1, ?_⟩
      rw [hf.2]
      exact keyFine_part (ih _ _ hkf) (kindsT_typed hkf) (by simp [sizeT, hj, hsz]) hx h1 w
    · exact keyFine_fields ih hx w hkr h2 g hg

theorem keyFine_array {em : Bool} {d D : Nat} {e : TypeId} {kf : List CK} (ih : KeyFine P em e kf D) (he : ∃ q, P.underlying e = some q) (hs : sizeT P e = some kf.length)
    {xs : List NV} {vx : Array Value} (hx : VRels φ xs vx.toList) (w : World) :
    ∀ (n i : Nat), cellsOk (List.replicate n kf).flatten (xs.drop (i * kf.length)) = true →
      ∀ j ∈ List.range' i n, (do Instr.checkKey em D e (← part e vx (j * kf.length)) : Sem Unit).run P w = .ok () w
  | 0, i, h => by simp
  | n + 1, i, h => by
    simp only [List.replicate_succ, List.flatten_cons] at h
    obtain ⟨h1, h2⟩ := cellsOk_append h
    rw [List.drop_drop] at h2
    have hi : i * kf.length + kf.length = (i + 1) * kf.length := by rw [Nat.add_mul]; simp
    rw [hi] at h2
    intro j hj
    rw [List.range'_succ, List.mem_cons] at hj
    rcases hj with rfl | hj
    · exact keyFine_part ih he hs hx h1 w
    · exact keyFine_array (d := d) ih he hs hx w n (i + 1) h2 j hj

theorem keyFine (em : Bool) : ∀ (d : Nat) (t : TypeId) (ks : List CK) (D : Nat), kindsT P d t = some ks → d ≤ D → KeyFine P em t ks D
  | 0, _, _, _, h, _ => by simp [kindsT] at h
  | d + 1, t, ks, D, h, hD => by
    obtain ⟨D, rfl⟩ : ∃ E, D = E + 1 := ⟨D - 1, by omega⟩
    unfold kindsT at h
    split at h
    case h_1 hu =>
      cases h
      simp only [KeyFine, isAggT, hu, Bool.false_eq_true, if_false]
      exact ⟨.bool, rfl, fun hx hk w => by simp [Instr.checkKey, run_underlying hu]⟩
    case h_2 hu =>
      cases h
      simp only [KeyFine, isAggT, hu, Bool.false_eq_true, if_false]
      exact ⟨.int, rfl, fun hx hk w => by simp [Instr.checkKey, run_underlying hu]⟩
    case h_3 hu =>
      cases h
      simp only [KeyFine, isAggT, hu, Bool.false_eq_true, if_false]
      exact ⟨.str, rfl, fun hx hk w => by simp [Instr.checkKey, run_underlying hu]⟩
    case h_4 hu =>
      cases h
      simp only [KeyFine, isAggT, hu, Bool.false_eq_true, if_false]
      exact ⟨.ptr, rfl, fun {_ x _} _ hk _ => by cases x <;> simp [cellOk] at hk⟩
    case h_5 fs hu =>
      split at h <;> try (cases h; done)
      simp only [KeyFine, isAggT, hu, if_true]
      intro φ xs vx hx hk w
      have hall := keyFine_fields (fun t ks hk => keyFine em d t ks D hk (by omega)) hx w h (by simpa using hk)
      simp only [Instr.checkKey, Sem.run_bind, run_underlying hu, Result.andThen_ok]
      rw [← Array.forIn_toList]
      revert hall
      generalize fs.toList = l
      intro hall
      clear h hu
      induction l with
      | nil => rfl
      | cons f l ih =>
        have hf := hall f (by simp)
        have h2 := hf.2
        rw [List.forIn_cons]
        simp only [ne_eq, hf.1, not_false_eq_true, if_true, Sem.run_bind]
        simp only [Sem.run_bind] at h2
        cases hp : (part f.type vx f.offset).run P w with
        | halt x w1 => rw [hp] at h2; simp at h2
        | ok a w1 =>
          rw [hp] at h2
          simp only [Result.andThen_ok] at h2 ⊢
          rw [h2]
          simp only [Result.andThen_ok, Sem.run_pure]
          exact ih (fun g hg => hall g (by simp [hg]))
    case h_6 n e hu =>
      split at h <;> try (cases h; done)
      rename_i kf j hkf hj
      split at h <;> try (cases h; done)
      rename_i hsz
      cases h
      simp only [KeyFine, isAggT, hu, if_true]
      intro φ xs vx hx hk w
      have hs : sizeT P e = some kf.length := by simp [sizeT, hj, hsz]
      have hall := keyFine_array (d := d) (n := n) (i := 0) (keyFine em d e kf D hkf (by omega)) (kindsT_typed hkf) hs hx w (by simpa using hk)
      simp only [Instr.checkKey, Sem.run_bind, run_underlying hu, Result.andThen_ok]
      rw [Std.Legacy.Range.forIn_eq_forIn_range']
      simp only [Std.Legacy.Range.size, Nat.sub_zero, Nat.add_sub_cancel, Nat.div_one]
      revert hall
      generalize List.range' 0 n = l
      intro hall
      clear hu hk
      induction l with
      | nil => rfl
      | cons k l ih =>
        have h2 := hall k (by simp)
        rw [List.forIn_cons]
        simp only [Sem.run_bind, run_sizeOf hs, Result.andThen_ok]
        simp only [Sem.run_bind] at h2
        cases hp : (part e vx (k * kf.length)).run P w with
        | halt x w1 => rw [hp] at h2; simp at h2
        | ok a w1 =>
          rw [hp] at h2
          simp only [Result.andThen_ok] at h2 ⊢
          rw [h2]
          simp only [Result.andThen_ok, Sem.run_pure]
          exact ih (fun g hg => hall g (by simp [hg]))
    case h_7 => cases h

theorem keyTy_inv {t : TypeId} {q : Bool × List CK} (hq : keyTy P t = some q) : ∃ k e, P.underlying t = some (.map k e) ∧ kindsT P 12 k = some q.2 ∧ q.2.all plainKind = true ∧ q.1 = isAggT P k := by
  unfold keyTy at hq
  split at hq <;> try (cases hq; done)
  rename_i k e hu
  split at hq <;> try (cases hq; done)
  rename_i ks hks
  split at hq <;> try (cases hq; done)
  rename_i hp
  cases hq
  exact ⟨k, e, hu, hks, hp, rfl⟩

/-- What a search found, on both sides. -/
def FindRel (φ : PMap) : Option (Nat × NV) → Option (Nat × Value) → Prop
  | none, r => r = none
  | some (j, nv), r => ∃ v, r = some (j, v) ∧ VRel φ nv v

theorem equalIn_str (D : Nat) (t : TypeId) (a b : ByteArray) (h : P.underlying t = some .string) (w : World) : (Op.equalIn (D + 1) t (.string a) (.string b)).run P w = .ok (a == b) w := by
  simp [Op.equalIn, run_underlying h]

/-- A key passes its check. -/
theorem sim_checkKey {k : TypeId} {ks : List CK} {x : NV} {vx : Value} {em : Bool} (hk : kindsT P 12 k = some ks) (hx : VRel φ x vx) (hok : keyOk (isAggT P k) ks x = true) (w : World) :
    (Instr.checkKey em 10000 k vx).run P w = .ok () w := by
  have hf := keyFine em 12 k ks 10000 hk (by omega)
  unfold KeyFine at hf
  unfold keyOk at hok
  by_cases ha : isAggT P k = true
  · simp only [ha, if_true] at hf hok
    split at hok <;> try (cases hok; done)
    simp only [VRel] at hx
    obtain ⟨vs, rfl, hxs, _⟩ := hx
    exact hf hxs hok w
  · simp only [ha, if_false, Bool.false_eq_true] at hf hok
    obtain ⟨c, rfl, hf⟩ := hf
    exact hf hx (by simpa using hok) w

/-- Two keys, compared. -/
theorem sim_eqKey {k : TypeId} {ks : List CK} {x y : NV} {vx vy : Value} {b : Bool} (hk : kindsT P 12 k = some ks) (hx : VRel φ x vx) (hy : VRel φ y vy) (he : eqVal (isAggT P k) ks x y = some b) (w : World) :
    (Op.equal k vx vy).run P w = .ok b w := by
  have hc := compares 12 k ks 10000 hk (by omega)
  unfold Compares at hc
  unfold eqVal at he
  by_cases ha : isAggT P k = true
  · simp only [ha, if_true] at hc he
    split at he <;> try (cases he; done)
    simp only [VRel] at hx hy
    obtain ⟨vs, rfl, hxs, _⟩ := hx
    obtain ⟨us, rfl, hys, _⟩ := hy
    exact hc hxs hys he w
  · simp only [ha, if_false, Bool.false_eq_true] at hc he
    obtain ⟨c, rfl, hc⟩ := hc
    exact hc hx hy he w

theorem sim_findAsking {k : TypeId} {ks : List CK} {x : NV} {vx : Value} (hk : kindsT P 12 k = some ks) (hx : VRel φ x vx) (w : World) :
    ∀ {es : List NEnt} {vs : List MapEntry} {i : Nat} {r : Option (Nat × NV)}, ERels φ es vs → findEnt (isAggT P k) ks x es i = some r →
      ∃ r', (Instr.findAsking k vx vs i).run P w = .ok r' w ∧ FindRel φ r r'
  | [], vs, i, r, he, h => by
    simp [ERels] at he; subst he
    simp [findEnt] at h; subst h
    exact ⟨none, rfl, rfl⟩
  | e :: es, vs, i, r, ⟨v, q, hv, hkey, hval, hb, hr⟩, h => by
    subst hv
    unfold findEnt at h
    split at h
    · rename_i heq
      cases h
      exact ⟨some (i, v.val), by simp [Instr.findAsking, sim_eqKey hk hx hkey heq], v.val, rfl, hval⟩
    · rename_i heq
      obtain ⟨r', h1, h2⟩ := sim_findAsking hk hx w hr h
      exact ⟨r', by simp [Instr.findAsking, sim_eqKey hk hx hkey heq, h1], h2⟩
    · cases h

theorem sameNow_of {k : TypeId} {d : TypeDesc} {ks : List CK} {x y : NV} {vx vy : Value} {b b' : Bool} (hd : P.underlying k = some d) (hk : kindsT P 12 k = some ks) (hx : VRel φ x vx) (hy : VRel φ y vy)
    (he : eqVal (isAggT P k) ks x y = some b) (hs : Instr.sameNow d vx vy = some b') : b' = b := by
  have h1 := sim_eqKey hk hx hy he default
  unfold Op.equal Op.maxDepth at h1
  unfold Instr.sameNow at hs
  split at hs
  · split at hs <;> try (cases hs; done)
    rename_i hkk; subst hkk
    cases hs
    rw [run_equalIn_int default 9999 k _ _ _ _ hd] at h1
    cases h1; rfl
  · cases hs
    rw [equalIn_str 9999 k _ _ hd] at h1
    cases h1; rfl
  · cases hs
    rw [run_equalIn_bool' default 9999 k _ _ hd] at h1
    cases h1; rfl
  · cases hs

theorem findNow_of {k : TypeId} {d : TypeDesc} {ks : List CK} {x : NV} {vx : Value} (hd : P.underlying k = some d) (hk : kindsT P 12 k = some ks) (hx : VRel φ x vx) :
    ∀ {es : List NEnt} {vs : List MapEntry} {i : Nat} {r : Option (Nat × NV)} {r' : Option (Nat × Value)}, ERels φ es vs → findEnt (isAggT P k) ks x es i = some r → Instr.findNow d vx vs i = some r' →
      FindRel φ r r'
  | [], vs, i, r, r', he, h, hn => by
    simp [ERels] at he; subst he
    simp [findEnt] at h; subst h
    simp [Instr.findNow] at hn; exact hn.symm
  | e :: es, vs, i, r, r', ⟨v, q, hv, hkey, hval, hb, hr⟩, h, hn => by
    subst hv
    unfold findEnt at h
    unfold Instr.findNow at hn
    split at h
    · rename_i heq
      cases h
      split at hn
      · cases hn; exact ⟨v.val, rfl, hval⟩
      · rename_i hs; have := sameNow_of hd hk hx hkey heq hs; cases this
      · cases hn
    · rename_i heq
      split at hn
      · rename_i hs; have := sameNow_of hd hk hx hkey heq hs; cases this
      · exact findNow_of hd hk hx hr h hn
      · cases hn
    · cases h

theorem sim_findKey {k : TypeId} {ks : List CK} {x : NV} {vx : Value} (hk : kindsT P 12 k = some ks) (hx : VRel φ x vx) (w : World) {es : List NEnt} {vs : List MapEntry} {r : Option (Nat × NV)}
    (he : ERels φ es vs) (h : findEnt (isAggT P k) ks x es 0 = some r) :
    ∃ r', (Instr.findKey k vx vs).run P w = .ok r' w ∧ FindRel φ r r' := by
  obtain ⟨d, hd⟩ := kindsT_typed hk
  unfold Instr.findKey
  rw [Sem.run_bind, run_underlying hd]
  simp only [Result.andThen_ok]
  cases hn : Instr.findNow d vx vs 0 with
  | some r' => exact ⟨r', rfl, findNow_of hd hk hx he h hn⟩
  | none => exact sim_findAsking hk hx w he h

end
end Go.Ns
