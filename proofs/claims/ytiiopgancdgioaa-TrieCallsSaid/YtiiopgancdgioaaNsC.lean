/- Each abstract operation that looks at its operands alone answers as the model's operation does. -/
import Derived.Test.YtiiopgancdgioaaNsB
import Derived.Laws.StructEq
set_option linter.unusedVariables false
set_option linter.unusedSimpArgs false
namespace Go.Ns

section
variable {P : Program} {φ : PMap}

theorem VRel.int {k : IntKind} {n : Int} {v : Value} (h : VRel φ (.int k n) v) : v = .int k n := h
theorem VRel.bool {b : Bool} {v : Value} (h : VRel φ (.bool b) v) : v = .bool b := h
theorem VRel.str {s : ByteArray} {v : Value} (h : VRel φ (.str s) v) : v = .string s := h

theorem sim_nbits {op : BinOp} {k : IntKind} {a b r : Int} (h : nbits op k a b = some r) (w : World) :
    (Op.intBits op k a b).run P w = .ok (.int k r) w := by
  unfold nbits at h
  unfold Op.intBits
  cases op <;> simp at h <;> subst h <;> simp

theorem sim_bin {op : BinOp} {t : TypeId} {x y nv : NV} {vx vy : Value} (hx : VRel φ x vx) (hy : VRel φ y vy) (h : nbin op x y = some nv) :
    ∃ v, (∀ w, (binOp op t vx vy).run P w = .ok v w) ∧ VRel φ nv v := by
  unfold nbin at h
  split at h
  · rename_i k a yk b
    have hx := hx.int; have hy := hy.int
    subst hx hy
    cases op <;> simp only [binOp] at h ⊢
    case shl => split at h <;> simp at h; subst h; exact ⟨_, fun w => by simp [Op.shift, *], rfl⟩
    case shr => split at h <;> simp at h; subst h; exact ⟨_, fun w => by simp [Op.shift, *], rfl⟩
    case quo =>
      split at h <;> try (simp at h; done)
      split at h <;> simp at h
      subst h; rename_i hk hb; subst hk; exact ⟨_, fun w => by simp [Op.intDiv, hb], rfl⟩
    case rem =>
      split at h <;> try (simp at h; done)
      split at h <;> simp at h
      subst h; rename_i hk hb; subst hk; exact ⟨_, fun w => by simp [Op.intDiv, hb], rfl⟩
    case and | or | xor | andNot =>
      split at h <;> try (simp at h; done)
      obtain ⟨r, hr, rfl⟩ := Option.map_eq_some_iff.1 h
      rename_i hk; subst hk
      exact ⟨_, fun w => by simp only [ne_eq, not_true_eq_false, if_false]; exact sim_nbits hr w, rfl⟩
    all_goals
      split at h <;> simp at h
      subst h; rename_i hk; subst hk
      exact ⟨_, fun w => by simp [Op.intArith, Op.intCmp], rfl⟩
  · rename_i a b
    have hx := hx.str; have hy := hy.str
    subst hx hy
    cases op <;> simp only [binOp, Op.stringOp] at h ⊢
    case add =>
      split at h <;> simp at h
      subst h
      rename_i hle
      refine ⟨_, fun w => ?_, rfl⟩
      have : ¬ (((a.size + b.size : Nat) : Int) > IntKind.i64.max) := by
        have : IntKind.i64.max = 9223372036854775807 := rfl
        omega
      rw [if_neg this]; rfl
    all_goals first
      | (simp at h; done)
      | (simp only [Option.some.injEq] at h; subst h; exact ⟨_, fun w => rfl, rfl⟩)
  · cases h

theorem sim_un {op : UnOp} {x nv : NV} {vx : Value} (hx : VRel φ x vx) (h : nun op x = some nv) :
    ∃ v, (∀ w, (Op.unary op vx).run P w = .ok v w) ∧ VRel φ nv v := by
  unfold nun at h
  split at h
  · rename_i k n
    have hx := hx.int; subst hx
    cases op <;> simp only [Op.unary] at h ⊢
    case neg => simp at h; subst h; exact ⟨_, fun w => by simp [Op.intArith]; rfl, by simp [VRel]⟩
    case xor => 
      obtain ⟨r, hr, rfl⟩ := Option.map_eq_some_iff.1 h
      exact ⟨_, fun w => sim_nbits hr w, rfl⟩
    all_goals (simp at h; done)
  · rename_i b
    have hx := hx.bool; subst hx
    cases op <;> simp only [Op.unary] at h ⊢
    case not => simp at h; subst h; exact ⟨_, fun w => by simp, rfl⟩
    all_goals (simp at h; done)
  · cases h

theorem sim_minmax2 {isMax : Bool} {x y nv : NV} {vx vy : Value} (hx : VRel φ x vx) (hy : VRel φ y vy) (h : minmax2 isMax x y = some nv) :
    ∃ v, (∀ w, ((if isMax then Builtin.max2 else Builtin.min2) vx vy).run P w = .ok v w) ∧ VRel φ nv v := by
  unfold minmax2 at h
  split at h
  · have hx := hx.int; have hy := hy.int; subst hx hy
    simp at h; subst h
    cases isMax
    · exact ⟨_, fun w => by simp [Builtin.min2]; rfl, by simp [VRel]⟩
    · exact ⟨_, fun w => by simp [Builtin.max2]; rfl, by simp [VRel]⟩
  · cases h

theorem sim_foldM {isMax : Bool} : ∀ {xs : List NV} {vs : List Value} {x nv : NV} {vx : Value}, VRels φ xs vs → VRel φ x vx → xs.foldlM (minmax2 isMax) x = some nv →
    ∃ v, (∀ w, (vs.foldlM (if isMax then Builtin.max2 else Builtin.min2) vx).run P w = .ok v w) ∧ VRel φ nv v
  | [], vs, x, nv, vx, hs, hx, h => by
    simp [VRels] at hs; subst hs
    simp at h; subst h
    exact ⟨vx, fun w => by simp, hx⟩
  | a :: xs, vs, x, nv, vx, ⟨va, r, e, ha, hr⟩, hx, h => by
    subst e
    simp only [List.foldlM_cons] at h
    cases h2 : minmax2 isMax x a with
    | none => simp [h2] at h
    | some m =>
      simp only [h2, Option.bind_eq_bind, Option.bind_some] at h
      obtain ⟨vm, hm, hmr⟩ := sim_minmax2 (P := P) hx ha h2
      obtain ⟨v, hv, hvr⟩ := sim_foldM hr hmr h
      exact ⟨v, fun w => by simp only [List.foldlM_cons, Sem.run_bind, hm w, Result.andThen_ok, hv w], hvr⟩

/-! ### Equality -/

theorem sim_eqCell {k : CK} {x y : NV} {vx vy : Value} {b : Bool} {t : TypeId} (hx : VRel φ x vx) (hy : VRel φ y vy) (h : eqCell k x y = some b)
    (ht : match k with
      | .bool => P.underlying t = some .bool
      | .int => ∃ j, P.underlying t = some (.int j)
      | .str => P.underlying t = some .string
      | .ptr => ∃ e, P.underlying t = some (.pointer e)
      | .slice => ∃ e, P.underlying t = some (.slice e)
      | .func => ∃ a r v, P.underlying t = some (.func a r v)) (D : Nat) (w : World) :
    (Op.equalIn (D + 1) t vx vy).run P w = .ok b w := by
  unfold eqCell at h
  split at h
  case h_1 =>
    have hx := hx.bool; have hy := hy.bool; subst hx hy
    simp at h ht; subst h
    simp [Op.equalIn, run_underlying ht]
  case h_2 =>
    have hx := hx.int; have hy := hy.int; subst hx hy
    obtain ⟨j, ht⟩ := ht
    dsimp only at h
    split at h
    · rename_i hk; simp at h; subst hk h
      simp [Op.equalIn, run_underlying ht]
    · cases h
  case h_3 =>
    have hx := hx.str; have hy := hy.str; subst hx hy
    simp at h ht; subst h
    simp [Op.equalIn, run_underlying ht]
  case h_4 a =>
    obtain ⟨e, ht⟩ := ht
    simp [VRel] at hx; subst hx
    simp at h; subst h
    cases a with
    | none => simp [VRel] at hy; subst hy; simp [Op.equalIn, run_underlying ht]
    | some a => simp [VRel] at hy; obtain ⟨p, _, rfl⟩ := hy; simp [Op.equalIn, run_underlying ht]
  case h_5 a =>
    obtain ⟨e, ht⟩ := ht
    simp [VRel] at hx hy; obtain ⟨p, _, rfl⟩ := hx; subst hy
    simp at h; subst h
    simp [Op.equalIn, run_underlying ht]
  case h_6 a n c =>
    obtain ⟨e, ht⟩ := ht
    simp [VRel] at hx; obtain ⟨rfl, _⟩ := hx
    simp at h; subst h
    cases a with
    | none => simp [VRel] at hy; obtain ⟨rfl, _⟩ := hy; simp [Op.equalIn, run_underlying ht]
    | some a =>
      cases c with
      | fix c => simp [VRel] at hy; obtain ⟨p, _, off, rfl, _⟩ := hy; simp [Op.equalIn, run_underlying ht]
      | opn c => simp [VRel] at hy; obtain ⟨p, _, off, cap, rfl, _⟩ := hy; simp [Op.equalIn, run_underlying ht]
  case h_7 a n c _ _ =>
    obtain ⟨e, ht⟩ := ht
    simp [VRel] at hy; obtain ⟨rfl, _⟩ := hy
    simp at h; subst h
    cases c with
    | fix c => simp [VRel] at hx; obtain ⟨p, _, off, rfl, _⟩ := hx; simp [Op.equalIn, run_underlying ht]
    | opn c => simp [VRel] at hx; obtain ⟨p, _, off, cap, rfl, _⟩ := hx; simp [Op.equalIn, run_underlying ht]
  case h_8 =>
    obtain ⟨e, r, v, ht⟩ := ht
    simp [VRel] at hx hy; subst hx hy
    simp at h; subst h
    simp [Op.equalIn, run_underlying ht]
  case h_9 =>
    obtain ⟨e, r, v, ht⟩ := ht
    simp only [VRel] at hx hy; subst hx; obtain ⟨_, _, rfl, _⟩ := hy
    simp at h; subst h
    simp [Op.equalIn, run_underlying ht]
  case h_10 =>
    obtain ⟨e, r, v, ht⟩ := ht
    simp only [VRel] at hx hy; subst hy; obtain ⟨_, _, rfl, _⟩ := hx
    simp at h; subst h
    simp [Op.equalIn, run_underlying ht]
  case h_11 => cases h

theorem eqCells_length : ∀ {ks : List CK} {xs ys : List NV} {b : Bool}, eqCells ks xs ys = some b → xs.length = ks.length ∧ ys.length = ks.length
  | [], [], [], _, _ => ⟨rfl, rfl⟩
  | k :: ks, x :: xs, y :: ys, b, h => by
    unfold eqCells at h
    split at h
    · rename_i a c _ hc
      have := eqCells_length hc
      simp [this]
    · cases h
  | [], _ :: _, _, _, h => by simp [eqCells] at h
  | [], [], _ :: _, _, h => by simp [eqCells] at h
  | _ :: _, [], _, _, h => by simp [eqCells] at h
  | _ :: _, _ :: _, [], _, h => by simp [eqCells] at h

theorem eqCells_append : ∀ {ka kb : List CK} {xs ys : List NV} {b : Bool}, eqCells (ka ++ kb) xs ys = some b →
    ∃ b1 b2, eqCells ka (xs.take ka.length) (ys.take ka.length) = some b1 ∧ eqCells kb (xs.drop ka.length) (ys.drop ka.length) = some b2 ∧ b = (b1 && b2)
  | [], kb, xs, ys, b, h => ⟨true, b, by simp [eqCells], by simpa using h, by simp⟩
  | k :: ka, kb, [], ys, b, h => by simp [eqCells] at h
  | k :: ka, kb, x :: xs, [], b, h => by simp [eqCells] at h
  | k :: ka, kb, x :: xs, y :: ys, b, h => by
    simp only [List.cons_append] at h
    unfold eqCells at h
    split at h
    · rename_i a c ha hc
      obtain ⟨b1, b2, h1, h2, rfl⟩ := eqCells_append hc
      cases h
      refine ⟨a && b1, b2, ?_, by simpa using h2, by cases a <;> rfl⟩
      simp [eqCells, ha, h1]
    · cases h

/-- A part of an aggregate of cells. -/
theorem run_part {t : TypeId} {d : TypeDesc} {n : Nat} {cs : Array Value} {off : Nat} (ht : P.underlying t = some d) (hi : sizeT P t = some n) (w : World)
    (hl : isAggT P t = false → off < cs.size) :
    (part t cs off).run P w = .ok (if isAggT P t then .agg (cs.extract off (off + n)) else cs.getD off undef) w := by
  unfold sizeT at hi
  obtain ⟨i, hi', rfl⟩ := Option.map_eq_some_iff.1 hi
  have hs : (sizeOf t).run P w = .ok i.size w := by simp [sizeOf, typeInfo, hi']
  by_cases ha : isAggT P t = true
  · have hagg : (isAgg t).run P w = .ok true w := by
      unfold isAgg isAggT at *
      rw [Sem.run_bind, run_underlying ht w]
      rw [ht] at ha
      cases d <;> simp_all
    simp [part, hagg, hs, ha]
  · have hagg : (isAgg t).run P w = .ok false w := by
      unfold isAgg isAggT at *
      rw [Sem.run_bind, run_underlying ht w]
      rw [ht] at ha
      cases d <;> simp_all
    have hlt := hl (by simpa using ha)
    simp [part, hagg, ha, hlt]

theorem VRels.getElem {xs : List NV} {vs : List Value} (h : VRels φ xs vs) {i : Nat} (hi : i < xs.length) (hv : i < vs.length) : VRel φ xs[i] vs[i] := by
  obtain ⟨y, hy, hr⟩ := h.get i xs[i] (List.getElem?_eq_getElem hi)
  rw [List.getElem?_eq_getElem hv] at hy
  cases hy; exact hr

theorem kindsFs_length {K : TypeId → Option (List CK)} : ∀ {fs : List Field} {off : Nat} {ks : List CK}, kindsFs P K fs off = some ks → True := fun _ => trivial

/-- What 'kindsT' promises of a type: its values compare cell by cell. -/
def Compares (P : Program) (t : TypeId) (ks : List CK) (D : Nat) : Prop :=
  if isAggT P t then
    ∀ {φ : PMap} {xs ys : List NV} {vx vy : Array Value} {b : Bool}, VRels φ xs vx.toList → VRels φ ys vy.toList → eqCells ks xs ys = some b → ∀ w, (Op.equalIn D t (.agg vx) (.agg vy)).run P w = .ok b w
  else
    ∃ k, ks = [k] ∧ ∀ {φ : PMap} {x y : NV} {vx vy : Value} {b : Bool}, VRel φ x vx → VRel φ y vy → eqCell k x y = some b → ∀ w, (Op.equalIn D t vx vy).run P w = .ok b w

theorem compares_part {t : TypeId} {ks : List CK} {D : Nat} (hc : Compares P t ks D) (ht : ∃ d, P.underlying t = some d) (hi : sizeT P t = some ks.length)
    {xs ys : List NV} {vx vy : Array Value} {b : Bool} {off : Nat} (hx : VRels φ xs vx.toList) (hy : VRels φ ys vy.toList)
    (h : eqCells ks ((xs.drop off).take ks.length) ((ys.drop off).take ks.length) = some b) (w : World) :
    ∃ a c, (part t vx off).run P w = .ok a w ∧ (part t vy off).run P w = .ok c w ∧ (Op.equalIn D t a c).run P w = .ok b w := by
  obtain ⟨d, ht⟩ := ht
  have hlen := eqCells_length h
  simp only [List.length_take, List.length_drop] at hlen
  have lx := hx.length
  have ly := hy.length
  simp only [Array.length_toList] at lx ly
  unfold Compares at hc
  by_cases ha : isAggT P t = true
  · simp only [ha, if_true] at hc
    refine ⟨_, _, run_part ht hi w (by simp [ha]), run_part ht hi w (by simp [ha]), ?_⟩
    simp only [ha, if_true]
    refine hc (φ := φ) ?_ ?_ h w
    · have := (hx.drop off).take ks.length
      simpa [Array.toList_extract, List.extract] using this
    · have := (hy.drop off).take ks.length
      simpa [Array.toList_extract, List.extract] using this
  · simp only [ha, if_false, Bool.false_eq_true] at hc
    obtain ⟨k, rfl, hc⟩ := hc
    simp only [List.length_singleton] at *
    have ox : off < xs.length := by omega
    have oy : off < ys.length := by omega
    refine ⟨_, _, run_part ht hi w (fun _ => by omega), run_part ht hi w (fun _ => by omega), ?_⟩
    simp only [ha, if_false, Bool.false_eq_true]
    have ex : (xs.drop off).take 1 = [xs[off]] := by rw [List.drop_eq_getElem_cons ox]; rfl
    have ey : (ys.drop off).take 1 = [ys[off]] := by rw [List.drop_eq_getElem_cons oy]; rfl
    rw [ex, ey] at h
    simp only [eqCells] at h
    split at h
    · rename_i a c hac hcc
      cases hcc
      cases h
      refine hc (φ := φ) (x := xs[off]) (y := ys[off]) ?_ ?_ (by simpa using hac) w
      · have := hx.getElem ox (by simp; omega)
        simpa [Array.getD, show off < vx.size by omega] using this
      · have := hy.getElem oy (by simp; omega)
        simpa [Array.getD, show off < vy.size by omega] using this
    · cases h

theorem kindsT_typed : ∀ {d : Nat} {t : TypeId} {ks : List CK}, kindsT P d t = some ks → ∃ e, P.underlying t = some e
  | 0, _, _, h => by simp [kindsT] at h
  | d + 1, t, ks, h => by
    unfold kindsT at h
    cases hu : P.underlying t with
    | none => simp [hu] at h
    | some e => exact ⟨e, rfl⟩

theorem kindsT_fields {d D : Nat} (ih : ∀ t ks, kindsT P d t = some ks → Compares P t ks D) {xs ys : List NV} {vx vy : Array Value} (hx : VRels φ xs vx.toList) (hy : VRels φ ys vy.toList) (w : World) :
    ∀ {fs : List Field} {off : Nat} {ks : List CK} {b : Bool}, kindsFs P (kindsT P d) fs off = some ks → eqCells ks (xs.drop off) (ys.drop off) = some b →
      (Op.eqFields D vx vy fs).run P w = .ok b w
  | [], off, ks, b, hk, h => by
    simp only [kindsFs, Option.some.injEq] at hk; subst hk
    unfold eqCells at h
    split at h <;> simp at *
    subst h; simp [Op.eqFields]
  | f :: fs, off, ks, b, hk, h => by
    unfold kindsFs at hk
    split at hk <;> try (cases hk; done)
    rename_i hf
    simp only [Bool.and_eq_true, bne_iff_ne, beq_iff_eq] at hf
    split at hk <;> try (cases hk; done)
    rename_i kf j hkf hj
    split at hk <;> try (cases hk; done)
    rename_i hsz
    obtain ⟨kr, hkr, rfl⟩ := Option.map_eq_some_iff.1 hk
    obtain ⟨b1, b2, h1, h2, rfl⟩ := eqCells_append h
    rw [List.drop_drop, List.drop_drop, ← hsz] at h2
    obtain ⟨a, c, ha, hc, hab⟩ := compares_part (ih _ _ hkf) (kindsT_typed hkf) (by simp [sizeT, hj, hsz]) (off := off) hx hy h1 w
    have hrest := kindsT_fields ih hx hy w hkr h2
    have hoff : f.offset = off := hf.2
    simp only [Op.eqFields, hoff, ne_eq, hf.1, not_false_eq_true, if_true, Sem.run_bind, ha, hc, hab, Result.andThen_ok, Sem.run_ite]
    cases b1 <;> simp [hrest]

theorem kindsT_array {d D : Nat} {e : TypeId} {kf : List CK} (ih : Compares P e kf D) (he : ∃ q, P.underlying e = some q) (hs : sizeT P e = some kf.length)
    {xs ys : List NV} {vx vy : Array Value} (hx : VRels φ xs vx.toList) (hy : VRels φ ys vy.toList) (w : World) :
    ∀ (n i : Nat) {b : Bool}, eqCells (List.replicate n kf).flatten (xs.drop (i * kf.length)) (ys.drop (i * kf.length)) = some b →
      ((List.range' i n).foldr (fun i (r : Sem Bool) => do
        let a ← part e vx (i * kf.length)
        let c ← part e vy (i * kf.length)
        let q ← Op.equalIn D e a c
        if (!q) = true then pure false else r) (pure true)).run P w = .ok b w
  | 0, i, b, h => by
    simp only [List.replicate_zero, List.flatten_nil] at h
    unfold eqCells at h
    split at h <;> simp at *
    subst h; rfl
  | n + 1, i, b, h => by
    simp only [List.replicate_succ, List.flatten_cons] at h
    obtain ⟨b1, b2, h1, h2, rfl⟩ := eqCells_append h
    rw [List.drop_drop, List.drop_drop] at h2
    have hi : i * kf.length + kf.length = (i + 1) * kf.length := by rw [Nat.add_mul]; simp
    rw [hi] at h2
    obtain ⟨a, c, ha, hc, hab⟩ := compares_part ih he hs (off := i * kf.length) hx hy h1 w
    have hrest := kindsT_array (d := d) ih he hs hx hy w n (i + 1) h2
    rw [List.range'_succ, List.foldr_cons]
    simp only [Sem.run_bind, ha, hc, hab, Result.andThen_ok, Sem.run_ite, hrest]
    cases b1 <;> simp

theorem run_equalIn_array {D : Nat} {t e : TypeId} {n m : Nat} {vx vy : Array Value} (ht : P.underlying t = some (.array n e)) (hs : sizeT P e = some m) (w : World) :
    (Op.equalIn (D + 1) t (.agg vx) (.agg vy)).run P w = ((List.range' 0 n).foldr (fun i (r : Sem Bool) => do
        let a ← part e vx (i * m)
        let c ← part e vy (i * m)
        let q ← Op.equalIn D e a c
        if (!q) = true then pure false else r) (pure true)).run P w := by
  unfold sizeT at hs
  obtain ⟨i, hi, rfl⟩ := Option.map_eq_some_iff.1 hs
  have hsz : (sizeOf e).run P w = .ok i.size w := by simp [sizeOf, typeInfo, hi]
  simp only [Op.equalIn, Sem.run_bind, run_underlying ht, Result.andThen_ok, hsz]
  rw [Std.Legacy.Range.forIn_eq_forIn_range']
  simp only [Std.Legacy.Range.size, Nat.sub_zero, Nat.add_sub_cancel, Nat.div_one]
  generalize List.range' 0 n = l
  clear hsz
  induction l generalizing w with
  | nil => simp
  | cons k l ih =>
    simp only [List.forIn_cons, List.foldr_cons, Sem.run_bind, Sem.run_ite]
    generalize (part e vx (k * i.size)).run P w = r1
    cases r1 with
    | halt x w1 => simp [Result.andThen]
    | ok a w1 =>
      simp only [Result.andThen_ok]
      generalize (part e vy (k * i.size)).run P w1 = r2
      cases r2 with
      | halt x w2 => simp [Result.andThen]
      | ok c w2 =>
        simp only [Result.andThen_ok]
        generalize (Op.equalIn D e a c).run P w2 = r3
        cases r3 with
        | halt x w3 => simp [Result.andThen]
        | ok q w3 =>
          cases q
          · simp
          · simp only [Result.andThen_ok, Bool.not_true, Bool.false_eq_true, if_false, Sem.run_pure]
            exact ih w3

theorem compares : ∀ (d : Nat) (t : TypeId) (ks : List CK) (D : Nat), kindsT P d t = some ks → d ≤ D → Compares P t ks D
  | 0, _, _, _, h, _ => by simp [kindsT] at h
  | d + 1, t, ks, D, h, hD => by
    obtain ⟨D, rfl⟩ : ∃ E, D = E + 1 := ⟨D - 1, by omega⟩
    unfold kindsT at h
    split at h
    case h_1 hu =>
      cases h
      simp only [Compares, isAggT, hu, Bool.false_eq_true, if_false]
      exact ⟨.bool, rfl, fun hx hy he w => sim_eqCell hx hy he hu D w⟩
    case h_2 hu =>
      cases h
      simp only [Compares, isAggT, hu, Bool.false_eq_true, if_false]
      exact ⟨.int, rfl, fun hx hy he w => sim_eqCell hx hy he ⟨_, hu⟩ D w⟩
    case h_3 hu =>
      cases h
      simp only [Compares, isAggT, hu, Bool.false_eq_true, if_false]
      exact ⟨.str, rfl, fun hx hy he w => sim_eqCell hx hy he hu D w⟩
    case h_4 hu =>
      cases h
      simp only [Compares, isAggT, hu, Bool.false_eq_true, if_false]
      exact ⟨.ptr, rfl, fun hx hy he w => sim_eqCell hx hy he ⟨_, hu⟩ D w⟩
    case h_5 fs hu =>
      split at h <;> try (cases h; done)
      rename_i hst
      simp only [Compares, isAggT, hu, if_true]
      intro φ xs ys vx vy b hx hy he w
      have hfo : P.fieldsOf t = fs := by simp [Program.fieldsOf, hu]
      rw [run_equalIn_struct w D t vx vy (by rw [hfo]; exact hu) (by simpa using hst), hfo]
      exact kindsT_fields (fun t ks hk => compares d t ks D hk (by omega)) hx hy w h (by simpa using he)
    case h_6 n e hu =>
      split at h <;> try (cases h; done)
      rename_i kf j hkf hj
      split at h <;> try (cases h; done)
      rename_i hsz
      cases h
      simp only [Compares, isAggT, hu, if_true]
      intro φ xs ys vx vy b hx hy he w
      have hs : sizeT P e = some kf.length := by simp [sizeT, hj, hsz]
      rw [run_equalIn_array hu hs w]
      exact kindsT_array (d := d) (compares d e kf D hkf (by omega)) (kindsT_typed hkf) hs hx hy w n 0 (by simpa using he)
    case h_7 => cases h

end
end Go.Ns
