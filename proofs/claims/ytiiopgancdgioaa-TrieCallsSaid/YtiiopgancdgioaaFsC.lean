/- Contracts: what a call leaves behind and nobody reaches is forgotten; facts on numbers, lists and heaps. -/
import Derived.Test.YtiiopgancdgioaaFsB
import Derived.IntWalk
set_option linter.unusedVariables false
set_option linter.unusedSimpArgs false
namespace Go.Ns
universe u

theorem i64_wrap {n : Int} (h : -9223372036854775808 ≤ n ∧ n < 9223372036854775808) : IntKind.i64.wrap n = n := by rw [IntWalk.i64_left]; exact IntWalk.wrap64_in _ (by omega)

theorem int_beq (a b : Int) : (a == b) = decide (a = b) := Bool.beq_eq_decide_eq a b
theorem int_bne (a b : Int) : (a != b) = decide (¬ a = b) := by rw [bne, int_beq, ← decide_not]
theorem dec_not {p : Prop} [Decidable p] : (!decide p) = decide (¬ p) := decide_not.symm
theorem dec_and {p q : Prop} [Decidable p] [Decidable q] : (decide p && decide q) = decide (p ∧ q) := (Bool.decide_and p q).symm
theorem dec_or {p q : Prop} [Decidable p] [Decidable q] : (decide p || decide q) = decide (p ∨ q) := (Bool.decide_or p q).symm

theorem one_bool {b : Bool} : (NV.bool b).one = true := (rfl)
theorem one_int {k : IntKind} {n : Int} : (NV.int k n).one = true := (rfl)
theorem one_str {b : ByteArray} : (NV.str b).one = true := (rfl)
theorem one_ptr {b : Option (Nat × Nat)} : (NV.ptr b).one = true := (rfl)
theorem one_slice {b : Option (Nat × Nat)} {n : Nat} {c : Cap} : (NV.slice b n c).one = true := (rfl)
theorem one_map {b : Option Nat} : (NV.map b).one = true := (rfl)
theorem one_func {f : Fn} {a b : List NV} : (NV.func f a b).one = true := (rfl)
theorem one_nilFunc : NV.nilFunc.one = true := (rfl)
theorem flat_bool {b : Bool} : (NV.bool b).flat = true := (rfl)
theorem flat_int {k : IntKind} {n : Int} : (NV.int k n).flat = true := (rfl)
theorem flat_str {b : ByteArray} : (NV.str b).flat = true := (rfl)
theorem flat_ptr {b : Option (Nat × Nat)} : (NV.ptr b).flat = true := (rfl)
theorem flat_slice {b : Option (Nat × Nat)} {n : Nat} {c : Cap} : (NV.slice b n c).flat = true := (rfl)
theorem flat_map {b : Option Nat} : (NV.map b).flat = true := (rfl)
theorem flat_func {f : Fn} {a b : List NV} : (NV.func f a b).flat = true := (rfl)
theorem flat_nilFunc : NV.nilFunc.flat = true := (rfl)
theorem flat_agg {cs : List NV} : (NV.agg cs).flat = cs.all NV.one := (rfl)
theorem flat_one {v : NV} (h : v.one = true) : v.flat = true := by cases v <;> first | rfl | cases h
theorem cells_bool {b : Bool} : (NV.bool b).cells = [.bool b] := (rfl)
theorem cells_int {k : IntKind} {n : Int} : (NV.int k n).cells = [.int k n] := (rfl)
theorem cells_str {b : ByteArray} : (NV.str b).cells = [.str b] := (rfl)
theorem cells_ptr {b : Option (Nat × Nat)} : (NV.ptr b).cells = [.ptr b] := (rfl)
theorem cells_slice {b : Option (Nat × Nat)} {n : Nat} {c : Cap} : (NV.slice b n c).cells = [.slice b n c] := (rfl)
theorem cells_map {b : Option Nat} : (NV.map b).cells = [.map b] := (rfl)
theorem cells_func {f : Fn} {a b : List NV} : (NV.func f a b).cells = [.func f a b] := (rfl)
theorem cells_nilFunc : NV.nilFunc.cells = [.nilFunc] := (rfl)
theorem cells_agg {cs : List NV} : (NV.agg cs).cells = cs := (rfl)
theorem cells_one {v : NV} (h : v.one = true) : v.cells = [v] := by cases v <;> first | rfl | cases h

theorem ite_pos2 {α : Sort u} {c : Prop} [Decidable c] {a b : α} (h : c) : (if c then a else b) = a := if_pos h
theorem ite_neg2 {α : Sort u} {c : Prop} [Decidable c] {a b : α} (h : ¬ c) : (if c then a else b) = b := if_neg h
theorem appendzK_if {h : Heap} {e b : Nat} {z : List NV} {s : NV} {m : Int} {K : NV → Heap → Prop} {t} (hp : 0 ≤ m ∧ (m.toNat : Nat) * b ≤ 140737488355328 ∧ m.toNat ≤ 140737488355328) : appendzK h e b z s (.int .i64 m) K t = optB (nappend h e b s m.toNat (List.replicate m.toNat z).flatten) K .mk := by
  rw [appendzK_int]; exact propext ⟨fun e => e.2, fun e => ⟨hp, e⟩⟩

/-! ### Places -/
mutual
/-- The places in a value lie lo. -/
def NV.lo (n : Nat) : NV → Prop
  | .ptr (some (b, _)) => b < n
  | .slice (some (b, _)) _ _ => b < n
  | .map (some b) => b < n
  | .func _ a b => NV.lows n a ∧ NV.lows n b
  | .iface _ v => NV.lo n v
  | .agg cs => NV.lows n cs
  | .tup cs => NV.lows n cs
  | _ => True
def NV.lows (n : Nat) : List NV → Prop
  | [] => True
  | v :: vs => NV.lo n v ∧ NV.lows n vs
end

def NBlk.lo (n : Nat) : NBlk → Prop
  | .cells cs _ => NV.lows n cs
  | .map es _ => ∀ e ∈ es, e.key.lo n ∧ e.val.lo n
  | .iter m _ _ _ => ∀ b, m = some b → b < n

mutual
theorem NV.ren_lo {n : Nat} {g : Nat → Nat} (hg : ∀ b, b < n → g b = b) : ∀ {v : NV}, v.lo n → v.ren g = v
  | .bool _, _ => rfl
  | .int _ _, _ => rfl
  | .str _, _ => rfl
  | .ptr none, _ => rfl
  | .ptr (some (b, _)), h => by simp only [NV.ren, hg b h]
  | .slice none _ _, _ => rfl
  | .slice (some (b, _)) _ _, h => by simp only [NV.ren, hg b h]
  | .map none, _ => rfl
  | .map (some b), h => by simp only [NV.ren, hg b h]
  | .func _ a b, h => by simp only [NV.ren, NV.rens_lo hg h.1, NV.rens_lo hg h.2]
  | .nilFunc, _ => rfl
  | .iface _ v, h => by simp only [NV.ren, NV.ren_lo (v := v) hg h]
  | .nilIface, _ => rfl
  | .agg cs, h => by simp only [NV.ren, NV.rens_lo (cs := cs) hg h]
  | .tup cs, h => by simp only [NV.ren, NV.rens_lo (cs := cs) hg h]
theorem NV.rens_lo {n : Nat} {g : Nat → Nat} (hg : ∀ b, b < n → g b = b) : ∀ {cs : List NV}, NV.lows n cs → NV.rens g cs = cs
  | [], _ => rfl
  | v :: vs, h => by simp only [NV.rens, NV.ren_lo hg h.1, NV.rens_lo hg h.2]
end

theorem NBlk.ren_lo {n : Nat} {g : Nat → Nat} (hg : ∀ b, b < n → g b = b) {x : NBlk} (h : x.lo n) : x.ren g = x := by
  cases x with
  | cells cs ro => simp only [NBlk.ren, NV.rens_lo hg h]
  | map es c =>
    simp only [NBlk.ren]
    congr 1
    have : ∀ es : List NEnt, (∀ e ∈ es, e.key.lo n ∧ e.val.lo n) → es.map (NEnt.ren g) = es := by
      intro es
      induction es with
      | nil => intro _; rfl
      | cons e es ih =>
        intro h
        have h1 := h e (List.mem_cons_self ..)
        simp only [List.map_cons, NEnt.ren, NV.ren_lo hg h1.1, NV.ren_lo hg h1.2, ih fun e he => h e (List.mem_cons_of_mem _ he)]
    exact this es h
  | iter m a b c =>
    cases m with
    | none => rfl
    | some b => simp only [NBlk.ren, Option.map_some, hg b (h b rfl)]

theorem NV.lows_mem {n : Nat} : ∀ {cs : List NV}, (∀ v ∈ cs, v.lo n) → NV.lows n cs
  | [], _ => trivial
  | v :: vs, h => ⟨h v (List.mem_cons_self ..), NV.lows_mem fun v hv => h v (List.mem_cons_of_mem _ hv)⟩
theorem NV.lows_iff {n : Nat} : ∀ {cs : List NV}, NV.lows n cs ↔ ∀ v ∈ cs, v.lo n
  | [] => by simp [NV.lows]
  | v :: vs => by simp [NV.lows, NV.lows_iff (cs := vs)]
theorem NV.lows_append {n : Nat} {a b : List NV} : NV.lows n (a ++ b) ↔ NV.lows n a ∧ NV.lows n b := by
  simp only [NV.lows_iff, List.mem_append]
  exact ⟨fun h => ⟨fun v hv => h v (.inl hv), fun v hv => h v (.inr hv)⟩, fun h v hv => hv.elim (h.1 v) (h.2 v)⟩

mutual
theorem NV.lo_mono {n m : Nat} (hl : n ≤ m) : ∀ {v : NV}, v.lo n → v.lo m
  | .bool _, _ => trivial
  | .int _ _, _ => trivial
  | .str _, _ => trivial
  | .ptr none, _ => trivial
  | .ptr (some (b, _)), h => Nat.lt_of_lt_of_le h hl
  | .slice none _ _, _ => trivial
  | .slice (some (b, _)) _ _, h => Nat.lt_of_lt_of_le h hl
  | .map none, _ => trivial
  | .map (some b), h => Nat.lt_of_lt_of_le h hl
  | .func _ a b, h => ⟨NV.lows_mono hl h.1, NV.lows_mono hl h.2⟩
  | .nilFunc, _ => trivial
  | .iface _ v, h => NV.lo_mono (v := v) hl h
  | .nilIface, _ => trivial
  | .agg cs, h => NV.lows_mono (cs := cs) hl h
  | .tup cs, h => NV.lows_mono (cs := cs) hl h
theorem NV.lows_mono {n m : Nat} (hl : n ≤ m) : ∀ {cs : List NV}, NV.lows n cs → NV.lows m cs
  | [], _ => trivial
  | _ :: _, h => ⟨NV.lo_mono hl h.1, NV.lows_mono hl h.2⟩
end

mutual
theorem VRel.lo {φ : PMap} {n : Nat} (hd : ∀ b p, φ b = some p → b < n) : ∀ {x : NV} {v : Value}, VRel φ x v → x.lo n
  | .bool _, _, _ => trivial
  | .int _ _, _, _ => trivial
  | .str _, _, _ => trivial
  | .ptr none, _, _ => trivial
  | .ptr (some (_, _)), _, ⟨p, hp, _⟩ => hd _ p hp
  | .slice none _ _, _, _ => trivial
  | .slice (some (_, _)) _ (.fix _), _, ⟨p, _, hp, _⟩ => hd _ p hp
  | .slice (some (_, _)) _ (.opn _), _, ⟨p, _, _, hp, _⟩ => hd _ p hp
  | .map none, _, _ => trivial
  | .map (some _), _, ⟨p, hp, _⟩ => hd _ p hp
  | .func _ a b, _, ⟨_, _, _, ha, hb⟩ => ⟨VRels.lo hd ha, VRels.lo hd hb⟩
  | .nilFunc, _, _ => trivial
  | .iface _ x, _, ⟨_, _, hx⟩ => VRel.lo (x := x) hd hx
  | .nilIface, _, _ => trivial
  | .agg cs, _, ⟨_, _, hc, _⟩ => VRels.lo (xs := cs) hd hc
  | .tup cs, _, ⟨_, _, hc⟩ => VRels.lo (xs := cs) hd hc
theorem VRels.lo {φ : PMap} {n : Nat} (hd : ∀ b p, φ b = some p → b < n) : ∀ {xs : List NV} {vs : List Value}, VRels φ xs vs → NV.lows n xs
  | [], _, _ => trivial
  | _ :: _, _, ⟨_, _, _, hv, hr⟩ => ⟨VRel.lo hd hv, VRels.lo hd hr⟩
end

theorem ERels.lo {φ : PMap} {n : Nat} (hd : ∀ b p, φ b = some p → b < n) : ∀ {es : List NEnt} {vs : List MapEntry}, ERels φ es vs → ∀ e ∈ es, e.key.lo n ∧ e.val.lo n
  | [], _, _ => by simp
  | e :: es, _, ⟨v, r, _, hk, hv, _, hr⟩ => by
    intro x hx
    rcases List.mem_cons.1 hx with rfl | hx
    · exact ⟨VRel.lo hd hk, VRel.lo hd hv⟩
    · exact ERels.lo hd hr x hx

/-- A call may be taken to begin where the places of its arguments are places of the heap. -/
theorem NFun.assume {P : Program} {f : Nat} {args : List NV} {h : Heap} {Q : NV × Heap → Prop} (t : NV.lows h.length args → NFun P f args h Q) : NFun P f args h Q :=
  fun C φ w vargs hv r => t (hv.lo r.dom) C φ w vargs hv r

/-! ### Tidying -/

/-- The new numbers: old blocks stay, 'live' are the new ones that are reached. -/
def gl (n : Nat) (live : List Nat) (L b : Nat) : Nat := if b < n then b else live.getD (b - n) (b + L)

theorem gl_old {n L b : Nat} {live : List Nat} (h : b < n) : gl n live L b = b := by unfold gl; rw [if_pos h]

theorem NFun.tidy {P : Program} {f : Nat} {args : List NV} {h : Heap} {Q Q' : NV × Heap → Prop} (t : NFun P f args h Q)
    (hq : ∀ q, Q q → ∃ (k : Heap) (v2 : NV) (h2 : Heap) (live : List Nat), q = (v2.ren (gl h.length live k.length), k) ∧ h2.length = h.length + live.length ∧ (∀ x ∈ live, h.length ≤ x ∧ x < k.length) ∧ live.Nodup ∧
      (∀ b x, hget h2 b = some x → hget k (gl h.length live k.length b) = some (x.ren (gl h.length live k.length)) ∨ (b < h.length ∧ hget h b = some x ∧ hget k b = some x)) ∧ Q' (v2, h2)) : NFun P f args h Q' := by
  refine t.canon fun q hQ => ?_
  obtain ⟨k, v2, h2, live, rfl, hl, hlive, hnd, hb, hQ'⟩ := hq q hQ
  refine ⟨gl h.length live k.length, v2, h2, ⟨rfl, fun b hb => gl_old hb, ?_, by omega, ?_, hb⟩, hQ'⟩
  · intro b hb
    unfold gl
    rw [if_neg (by omega), List.getD_eq_getElem?_getD, List.getElem?_eq_none (by omega)]
    simp only [Option.getD_none]
    omega
  · intro b c hb hc e
    unfold gl at e
    by_cases h1 : b < h.length <;> by_cases h3 : c < h.length
    · rw [if_pos h1, if_pos h3] at e; exact e
    · rw [if_pos h1, if_neg h3] at e
      have hc' : c - h.length < live.length := by omega
      rw [List.getD_eq_getElem?_getD, List.getElem?_eq_getElem hc'] at e
      have := (hlive _ (List.getElem_mem hc')).1
      simp only [Option.getD_some] at e
      omega
    · rw [if_neg h1, if_pos h3] at e
      have hc' : b - h.length < live.length := by omega
      rw [List.getD_eq_getElem?_getD, List.getElem?_eq_getElem hc'] at e
      have := (hlive _ (List.getElem_mem hc')).1
      simp only [Option.getD_some] at e
      omega
    · rw [if_neg h1, if_neg h3] at e
      have hb' : b - h.length < live.length := by omega
      have hc' : c - h.length < live.length := by omega
      rw [List.getD_eq_getElem?_getD, List.getElem?_eq_getElem hb', List.getD_eq_getElem?_getD, List.getElem?_eq_getElem hc'] at e
      simp only [Option.getD_some] at e
      have := (List.getElem_inj hnd).1 e
      omega

/-- Nothing new is reached. -/
theorem NFun.clean {P : Program} {f : Nat} {args : List NV} {h : Heap} {Q Q' : NV × Heap → Prop} (t : NFun P f args h Q)
    (hq : ∀ q, Q q → ∃ (v : NV) (h2 J : Heap), q = (v, h2 ++ J) ∧ h2.length = h.length ∧ v.lo h.length ∧ (∀ b x, hget h2 b = some x → hget h b = some x ∨ x.lo h.length) ∧ Q' (v, h2)) : NFun P f args h Q' := by
  refine t.tidy fun q hQ => ?_
  obtain ⟨v, h2, J, rfl, hl, hv, hb, hQ'⟩ := hq q hQ
  have hg : ∀ b, b < h.length → gl h.length [] (h2 ++ J).length b = b := fun b hb => gl_old hb
  refine ⟨h2 ++ J, v, h2, [], by rw [NV.ren_lo hg hv], by simpa using hl, by simp, List.nodup_nil, ?_, hQ'⟩
  intro b x hx
  have hlt : b < h.length := by rw [← hl]; exact hget_lt hx
  have hk : hget (h2 ++ J) b = some x := by
    unfold hget at hx ⊢
    rw [List.getElem?_append_left (by omega)]; exact hx
  rcases hb b x hx with h1 | h1
  · exact .inr ⟨hlt, h1, hk⟩
  · left
    rw [hg b hlt, hk, NBlk.ren_lo hg h1]

/-! ### Heaps -/
section
variable {h J : Heap}
theorem hget_appl {b : Nat} (hb : b < h.length) : hget (h ++ J) b = hget h b := by
  unfold hget; rw [List.getElem?_append_left hb]
theorem hget_appr {b : Nat} (hb : h.length ≤ b) : hget (h ++ J) b = hget J (b - h.length) := by
  unfold hget; rw [List.getElem?_append_right hb]
theorem hset_appl {b : Nat} {x : NBlk} (hb : b < h.length) : hset (h ++ J) b x = hset h b x ++ J := by
  unfold hset; rw [List.set_append_left _ _ hb]
theorem hset_appr {b : Nat} {x : NBlk} (hb : h.length ≤ b) : hset (h ++ J) b x = h ++ hset J (b - h.length) x := by
  unfold hset; rw [List.set_append_right _ _ hb]
theorem hset_new {o : Option NBlk} {x : NBlk} : hset (h ++ [o]) h.length x = h ++ [some x] := by
  rw [hset_appr (Nat.le_refl _)]; simp [hset]
theorem hget_some_lt {b : Nat} {x : NBlk} (e : hget h b = some x) : b < h.length := hget_lt e
theorem hset_hset {b : Nat} {x y : NBlk} : hset (hset h b x) b y = hset h b y := by unfold hset; rw [List.set_set]
theorem hset_same {b : Nat} {x : NBlk} (e : hget h b = some x) : hset h b x = h := by
  have hb := hget_lt e
  unfold hset
  apply List.ext_getElem?
  intro i
  by_cases hi : b = i
  · subst hi
    rw [List.getElem?_set_self hb]
    unfold hget at e
    rw [List.getElem?_eq_getElem hb] at e ⊢
    simp only [Option.join_some] at e
    rw [e]
  · rw [List.getElem?_set_ne hi]
end

/-! ### Joins -/
def joinK (J : FF → Heap → Prop) : FK := fun c F h => match c with | .nrm => J F h | _ => False
theorem joinK_nrm {J : FF → Heap → Prop} {F : FF} {h : Heap} : joinK J .nrm F h = J F h := (rfl)

/-- Both branches come to 'J', and the rest goes on from there. -/
theorem condK_join {S : Env} {b : Bool} {x y rest : NCode} {K : FK} {F : FF} {h : Heap} (J : FF → Heap → Prop) (h1 : b = true → fwpT S x (joinK J) F h .mk) (h2 : b = false → fwpT S y (joinK J) F h .mk)
    (h3 : ∀ F h, J F h → fwpT S rest K F h .mk) : condK (.bool b) (fwpT S x (seqK S rest K) F h .mk) (fwpT S y (seqK S rest K) F h .mk) .mk := by
  have go : ∀ z, fwpT S z (joinK J) F h .mk → fwpT S z (seqK S rest K) F h .mk := by
    intro z hz
    refine fwp_mono z hz ?_
    intro c F h hc
    cases c with
    | nrm => exact h3 F h hc
    | exit i => exact hc.elim
    | ret => exact hc.elim
  cases b
  · exact go _ (h2 rfl)
  · exact go _ (h1 rfl)

/-! ### Lists of cells -/
theorem length_flatMap_enc {α : Type} {f : α → List NV} {k : Nat} (hf : ∀ a, (f a).length = k) : ∀ (l : List α), (l.flatMap f).length = l.length * k
  | [] => by simp
  | a :: l => by simp [List.flatMap_cons, hf, length_flatMap_enc hf l, Nat.add_mul, Nat.add_comm]

theorem drop_flatMap {α : Type} {f : α → List NV} {k : Nat} (hf : ∀ a, (f a).length = k) : ∀ (l : List α) (i : Nat), (l.flatMap f).drop (i * k) = (l.drop i).flatMap f
  | [], i => by simp
  | a :: l, 0 => by simp
  | a :: l, i + 1 => by
    rw [List.flatMap_cons, Nat.add_mul, Nat.one_mul, Nat.add_comm, List.drop_append]
    simp only [hf, Nat.add_sub_cancel_left, List.drop_succ_cons]
    rw [List.drop_eq_nil_of_le (by rw [hf]; omega), List.nil_append, drop_flatMap hf l i]

theorem take_flatMap {α : Type} {f : α → List NV} {k : Nat} (hf : ∀ a, (f a).length = k) : ∀ (l : List α) (i : Nat), (l.flatMap f).take (i * k) = (l.take i).flatMap f
  | [], i => by simp
  | a :: l, 0 => by simp
  | a :: l, i + 1 => by
    rw [List.flatMap_cons, Nat.add_mul, Nat.one_mul, Nat.add_comm, List.take_append]
    simp only [hf, Nat.add_sub_cancel_left, List.take_succ_cons, List.flatMap_cons]
    rw [List.take_of_length_le (by rw [hf]; omega), take_flatMap hf l i]

theorem cut_flatMap {α : Type} {f : α → List NV} {k : Nat} (hf : ∀ a, (f a).length = k) {l : List α} {i : Nat} (hi : i < l.length) : cut (l.flatMap f) (i * k) k = some (f l[i]) := by
  unfold cut
  have h1 : (i + 1) * k ≤ l.length * k := Nat.mul_le_mul_right k hi
  rw [if_pos (by rw [length_flatMap_enc hf]; rw [Nat.add_mul, Nat.one_mul] at h1; exact h1)]
  rw [drop_flatMap hf, List.drop_eq_getElem_cons hi, List.flatMap_cons]
  have : (f l[i] ++ (l.drop (i+1)).flatMap f).take k = f l[i] := by
    rw [List.take_append_of_le_length (by rw [hf]; omega), List.take_of_length_le (by rw [hf]; omega)]
  rw [this]

theorem floop_step {S : Env} {K : FK} {I : FF → Heap → Prop} {c : Ctl} {F : FF} {h : Heap} : (match c with | .nrm => I F h | c => K c F h) = (match c with | .nrm => I F h | c => K c F h) := (rfl)

/-- What follows a round of a loop. -/
def loopK (I : FF → Heap → Prop) (K : FK) : FK := fun c F h => match c with | .nrm => I F h | c => K c F h
theorem loopK_nrm {I : FF → Heap → Prop} {K : FK} {F : FF} {h : Heap} : loopK I K .nrm F h = I F h := (rfl)
theorem loopK_exit {I : FF → Heap → Prop} {K : FK} {F : FF} {h : Heap} {i : Nat} : loopK I K (.exit i) F h = K (.exit i) F h := (rfl)
theorem loopK_ret {I : FF → Heap → Prop} {K : FK} {F : FF} {h : Heap} : loopK I K .ret F h = K .ret F h := (rfl)

/-- A loop whose rounds are numbered. -/
theorem wloop {S : Env} {c : NCode} {K : FK} {F : FF} {h : Heap} (I : Nat → FF → Heap → Prop) (n : Nat) (h0 : I 0 F h) (hs : ∀ j F h, j < n → I j F h → fwpT S c (loopK (I (j + 1)) K) F h .mk)
    (he : ∀ F h, I n F h → fwpT S c (loopK (fun _ _ => False) K) F h .mk) {t} : fwpT S (.loop c) K F h t := floop I n h0 hs he

/-- A loop with a measure. -/
theorem wloopm {S : Env} {c : NCode} {K : FK} {F : FF} {h : Heap} (I : Nat → FF → Heap → Prop) (n : Nat) (h0 : I n F h) (hs : ∀ m F h, I m F h → fwpT S c (loopK (fun F h => ∃ j, j < m ∧ I j F h) K) F h .mk) {t} : fwpT S (.loop c) K F h t :=
  floop_measure I n h0 hs

/-- A contract by its code, with what it leaves behind forgotten. -/
theorem call_of (E : Env) (hm : E.P.follows .mixedOrders = true) {f : Nat} {fn : NFn} (hok : goodFn E.P f = true ∧ cfn E.P f = fn) {args : List NV} {h : Heap} {Q : NV × Heap → Prop} (hw : (wfc fn.ntmps fn.body && decide (args.length ≤ fn.ntmps)) = true)
    (hl : ∀ q, Q q → h.length ≤ q.2.length) (e : fwpT E fn.body (fend fn.res Q) (toF args) h .mk) : NCall E.P f args h Q :=
  NCall.of hok.1 (fun_of_fwp E hm hok.2 hw e) hl

/-- A contract with one result, of which something is known. -/
theorem call_det (E : Env) (hd : E.det = true) (hm : E.P.follows .mixedOrders = true) {f : Nat} {fn : NFn} (hok : goodFn E.P f = true ∧ cfn E.P f = fn) {args : List NV} {h : Heap} {Q : NV × Heap → Prop} (hw : (wfc fn.ntmps fn.body && decide (args.length ≤ fn.ntmps)) = true)
    (hl : ∀ q, Q q → h.length ≤ q.2.length) (e : fwpT E fn.body (fend fn.res Q) (toF args) h .mk) : DCall E.P f args h Q := dcall_of_fwp E hd hm hok hw hl e

/-- A contract that changes nothing that is reached. -/
theorem call_pure (E : Env) (hm : E.P.follows .mixedOrders = true) {f : Nat} {fn : NFn} (hok : goodFn E.P f = true ∧ cfn E.P f = fn) {args : List NV} {h : Heap} {v : NV} (hw : (wfc fn.ntmps fn.body && decide (args.length ≤ fn.ntmps)) = true)
    (hv : v.lo h.length) (e : fwpT E fn.body (fend fn.res fun q => q.1 = v ∧ ∃ J, q.2 = h ++ J) (toF args) h .mk) : NCall E.P f args h (fun q => q = (v, h)) := by
  refine NCall.of hok.1 ((fun_of_fwp E hm hok.2 hw e).clean ?_) (by rintro q rfl; exact Nat.le_refl _)
  rintro ⟨v', k⟩ ⟨h1, J, h2⟩
  simp only at h1 h2
  subst h1 h2
  exact ⟨_, h, J, rfl, rfl, hv, fun b x hx => .inl hx, rfl⟩

/-- A contract that makes one block that is reached. -/
theorem call_new1 (E : Env) (hm : E.P.follows .mixedOrders = true) {f : Nat} {fn : NFn} (hok : goodFn E.P f = true ∧ cfn E.P f = fn) {args : List NV} {h : Heap} (v : Nat → NV) (blk : NBlk) (hw : (wfc fn.ntmps fn.body && decide (args.length ≤ fn.ntmps)) = true)
    (hv : ∀ g : Nat → Nat, (∀ b, b < h.length → g b = b) → (v h.length).ren g = v (g h.length)) (hb : blk.lo h.length)
    (e : fwpT E fn.body (fend fn.res fun q => ∃ L p, q.2 = h ++ L ∧ hget L p = some blk ∧ q.1 = v (h.length + p)) (toF args) h .mk) : NCall E.P f args h (fun q => q = (v h.length, h ++ [some blk])) := by
  refine NCall.of hok.1 ((fun_of_fwp E hm hok.2 hw e).tidy ?_) (by rintro q rfl; simp)
  rintro ⟨w, k⟩ ⟨L, p, h1, h2, h3⟩
  simp only at h1 h3
  subst h1 h3
  have hp := hget_lt h2
  have hold : ∀ b, b < h.length → gl h.length [h.length + p] (h ++ L).length b = b := fun b hb => gl_old hb
  have hnew : gl h.length [h.length + p] (h ++ L).length h.length = h.length + p := by simp [gl]
  refine ⟨h ++ L, v h.length, h ++ [some blk], [h.length + p], ?_, by simp, ?_, by simp, ?_, rfl⟩
  · rw [hv _ hold, hnew]
  · intro x hx
    simp only [List.mem_singleton] at hx
    subst hx
    simp; omega
  · intro b x hx
    by_cases hbl : b < h.length
    · right
      rw [hget_appl hbl] at hx ⊢
      exact ⟨hbl, hx, hx⟩
    · left
      have hb2 := hget_lt hx
      simp only [List.length_append, List.length_singleton] at hb2
      have : b = h.length := by omega
      subst this
      rw [hget_append_new] at hx
      cases hx
      rw [hnew, hget_newk, h2, NBlk.ren_lo hold hb]

/-- A contract that turns blocks that were there. -/
theorem call_mod (E : Env) (hm : E.P.follows .mixedOrders = true) {f : Nat} {fn : NFn} (hok : goodFn E.P f = true ∧ cfn E.P f = fn) {args : List NV} {h : Heap} (v : NV) (h2 : Heap) (hw : (wfc fn.ntmps fn.body && decide (args.length ≤ fn.ntmps)) = true)
    (hl : h2.length = h.length) (hv : v.lo h.length) (hb : ∀ b x, hget h2 b = some x → hget h b = some x ∨ x.lo h.length)
    (e : fwpT E fn.body (fend fn.res fun q => q.1 = v ∧ ∃ J, q.2 = h2 ++ J) (toF args) h .mk) : NCall E.P f args h (fun q => q = (v, h2)) := by
  refine NCall.of hok.1 ((fun_of_fwp E hm hok.2 hw e).clean ?_) (by rintro q rfl; simp [hl])
  rintro ⟨v', k⟩ ⟨h1, J, h3⟩
  simp only at h1 h3
  subst h1 h3
  exact ⟨_, h2, J, rfl, hl, hv, hb, rfl⟩

theorem hget_hset_or {h : Heap} {b c : Nat} {x y : NBlk} (e : hget (hset h b x) c = some y) : hget h c = some y ∨ y = x := by
  by_cases hbc : b = c
  · subst hbc
    by_cases hb : b < h.length
    · rw [hget_hset_same hb] at e; cases e; exact .inr rfl
    · left
      unfold hset at e
      rw [List.set_eq_of_length_le (by omega)] at e
      exact e
  · rw [hget_hset_ne hbc] at e; exact .inl e

theorem sliceCells_app {h L : Heap} {n : Nat} {v : NV} {cs : List NV} (e : sliceCells h n v = some cs) : sliceCells (h ++ L) n v = some cs :=
  Sub.sliceCells (fun b x hx => by rw [hget_appl (hget_lt hx)]; exact hx) e

theorem splice_front {a z b : List NV} : splice (a ++ z) a.length b = a ++ (b ++ z.drop b.length) := by
  unfold splice
  rw [List.take_left, List.drop_append, List.drop_eq_nil_of_le (by omega), List.nil_append]
  congr 3; omega
theorem splice_zero {z b : List NV} : splice z 0 b = b ++ z.drop b.length := by
  unfold splice; simp
theorem splice_nil {z : List NV} {o : Nat} : splice z o [] = z := by
  unfold splice; simp

/-! ### Appending -/
section
variable {h : Heap} {esz bytes b o l n c : Nat} {x : NV} {new cs : List NV} {K : NV → Heap → Prop} {t : Tg K}

theorem app_fit (hx : sliceCells h esz x = some new) (hl : lenOfSl x = some n) (hb : hget h b = some (.cells cs false)) (hf : o + (l + n) * esz ≤ cs.length)
    (k : K (.slice (some (b, o)) (l + n) (.opn esz)) (hset h b (.cells (splice cs (o + l * esz) new) false))) : optB (nappendS h esz bytes (.slice (some (b, o)) l (.opn esz)) x) K t := by
  refine ⟨(.slice (some (b, o)) (l + n) (.opn esz), hset h b (.cells (splice cs (o + l * esz) new) false)), ?_, k⟩
  simp only [nappendS, hx, hl, Option.bind_some, nappend, hb, ne_eq, not_true_eq_false, if_false]
  by_cases h0 : new.length = 0
  · have : new = [] := List.length_eq_zero_iff.1 h0
    subst this
    rw [if_pos h0, splice_nil, hset_same hb]
  · rw [if_neg h0, if_pos hf]

theorem app_grow (hx : sliceCells h esz x = some new) (hl : lenOfSl x = some n) (hb : hget h b = some (.cells cs false)) (h0 : new ≠ []) (hf : cs.length < o + (l + n) * esz) (hg : o + l * esz ≤ cs.length) (hs : (l + n) * bytes ≤ 140737488355328 ∧ l + n ≤ 140737488355328)
    (k : K (.slice (some (h.length, 0)) (l + n) (.opn esz)) (hkill h b ++ [some (.cells ((cs.drop o).take (l * esz) ++ new) false)])) : optB (nappendS h esz bytes (.slice (some (b, o)) l (.opn esz)) x) K t := by
  refine ⟨(_, _), ?_, k⟩
  simp only [nappendS, hx, hl, Option.bind_some, nappend, hb, ne_eq, not_true_eq_false, if_false]
  rw [if_neg (fun e => h0 (List.length_eq_zero_iff.1 e)), if_neg (by omega), if_pos ⟨hg, hs⟩]

theorem app_nil (hx : sliceCells h esz x = some new) (hl : lenOfSl x = some n) (h0 : 0 < n) (hs : n * bytes ≤ 140737488355328 ∧ n ≤ 140737488355328)
    (k : K (.slice (some (h.length, 0)) n (.opn esz)) (h ++ [some (.cells new false)])) : optB (nappendS h esz bytes (.slice none l (.fix c)) x) K t := by
  refine ⟨(_, _), ?_, k⟩
  simp only [nappendS, hx, hl, Option.bind_some, nappend]
  rw [if_neg (by omega), if_pos hs]

theorem app_nil0 (hx : sliceCells h esz x = some new) (hl : lenOfSl x = some 0) (k : K (.slice none 0 (.fix 0)) h) : optB (nappendS h esz bytes (.slice none l (.fix c)) x) K t := by
  refine ⟨(_, _), ?_, k⟩
  simp only [nappendS, hx, hl, Option.bind_some, nappend, if_true]

theorem app_fix (hx : sliceCells h esz x = some new) (hl : lenOfSl x = some n) (hc : c < l + n) (hs : (l + n) * bytes ≤ 140737488355328 ∧ l + n ≤ 140737488355328) {old : List NV} (ho : sliceCells h esz (.slice (some (b, o)) l (.fix c)) = some old)
    (k : K (.slice (some (h.length, 0)) (l + n) (.opn esz)) (h ++ [some (.cells (old ++ new) false)])) : optB (nappendS h esz bytes (.slice (some (b, o)) l (.fix c)) x) K t := by
  refine ⟨(_, _), ?_, k⟩
  simp only [nappendS, hx, hl, Option.bind_some, nappend]
  rw [if_neg (by omega)]
  simp only [sliceCells] at ho
  rw [ho]
  simp only [hs, and_self, if_true]
end

theorem app_fix0 {h : Heap} {esz bytes b o l c : Nat} {x : NV} {K : NV → Heap → Prop} {t : Tg K} (hx : sliceCells h esz x = some []) (hl : lenOfSl x = some 0) (hc : l ≤ c) (k : K (.slice (some (b, o)) l (.fix c)) h) : optB (nappendS h esz bytes (.slice (some (b, o)) l (.fix c)) x) K t := by
  refine ⟨(.slice (some (b, o)) l (.fix c), h), ?_, k⟩
  simp only [nappendS, hx, hl, Option.bind_some, nappend]
  rw [if_pos (by omega)]; simp

theorem sliceCells_at {h : Heap} {esz b o n : Nat} {k : Cap} {cs new : List NV} {ro : Bool} (hb : hget h b = some (.cells cs ro)) (hc : cut cs o (n * esz) = some new) : sliceCells h esz (.slice (some (b, o)) n k) = some new := by
  show (if n * esz = 0 then some [] else (hcells h b).bind fun cs => cut cs o (n * esz)) = some new
  split
  · rename_i h0
    unfold cut at hc
    rw [h0] at hc
    split at hc
    · simpa using hc
    · cases hc
  · have : hcells h b = some cs := by unfold hcells; rw [hb]
    simp only [this, Option.bind_some, hc]

theorem cut_all {cs : List NV} {n : Nat} (h : cs.length = n) : cut cs 0 n = some cs := by
  unfold cut; rw [if_pos (by omega), List.drop_zero, List.take_of_length_le (by omega)]

end Go.Ns
