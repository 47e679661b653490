/- Rewriting rules by which runs over frames that are functions are made. -/
import Derived.Test.YtiiopgancdgioaaFsA
set_option linter.unusedVariables false
set_option linter.unusedSimpArgs false
namespace Go.Ns

/-- A mark by which rewriting leaves other arguments alone. -/
inductive Tg {α : Type} (a : α) : Type
  | mk

/-! ### Control -/
def fwpT (S : Env) (c : NCode) (K : FK) (F : FF) (h : Heap) (_ : Tg (c, K, F, h)) : Prop := fwp S c K F h
def fopsT (S : Env) (l : List NOper) (F : FF) (h : Heap) (K : FF → Heap → Prop) (_ : Tg (l, F, h, K)) : Prop := fops S l F h K
theorem fwp_T {S : Env} {c : NCode} {K : FK} {F : FF} {h : Heap} : fwp S c K F h = fwpT S c K F h .mk := (rfl)
def seqK (S : Env) (b : NCode) (K : FK) : FK := fun c F h => match c with | .nrm => fwp S b K F h | c => K c F h
def blockK (id : Nat) (K : FK) : FK := fun c F h => match c with | .exit i => if i = id then K .nrm F h else K (.exit i) F h | c => K c F h
def condK (v : NV) (A B : Prop) (_ : Tg (A, B)) : Prop := match v with | .bool true => A | .bool false => B | _ => False

section
variable {S : Env} {K : FK} {F F' : FF} {h h' : Heap} {a b c : NCode} {id i : Nat}
theorem fwp_skip {t} : fwpT S .skip K F h t = K .nrm F h := (rfl)
theorem fwp_seq {t} : fwpT S (.seq a b) K F h t = fwpT S a (seqK S b K) F h .mk := (rfl)
theorem seqK_nrm : seqK S b K .nrm F h = fwpT S b K F h .mk := (rfl)
theorem seqK_exit : seqK S b K (.exit i) F h = K (.exit i) F h := (rfl)
theorem seqK_ret : seqK S b K .ret F h = K .ret F h := (rfl)
theorem fwp_block {t} : fwpT S (.block id c) K F h t = fwpT S c (blockK id K) F h .mk := (rfl)
theorem blockK_nrm : blockK id K .nrm F h = K .nrm F h := (rfl)
theorem blockK_ret : blockK id K .ret F h = K .ret F h := (rfl)
theorem blockK_same : blockK id K (.exit id) F h = K .nrm F h := by simp [blockK]
theorem blockK_other (hi : i ≠ id) : blockK id K (.exit i) F h = K (.exit i) F h := by simp [blockK, hi]
theorem fwp_cond {x : NOpd} {t} : fwpT S (.cond x a b) K F h t = condK (fval F x) (fwpT S a K F h .mk) (fwpT S b K F h .mk) .mk := (rfl)
theorem condK_true {A B : Prop} {t} : condK (.bool true) A B t = A := (rfl)
theorem condK_false {A B : Prop} {t} : condK (.bool false) A B t = B := (rfl)
theorem condK_dec {p : Prop} [Decidable p] {A B : Prop} {t} (h1 : p → A) (h2 : ¬ p → B) : condK (.bool (decide p)) A B t := by
  by_cases hp : p
  · rw [decide_eq_true hp]; exact h1 hp
  · rw [decide_eq_false hp]; exact h2 hp
theorem condK_bool {p : Bool} {A B : Prop} {t} (h1 : p = true → A) (h2 : p = false → B) : condK (.bool p) A B t := by
  cases p
  · exact h2 rfl
  · exact h1 rfl
theorem condK_pos {p : Prop} [Decidable p] {A B : Prop} {t} (hp : p) : condK (.bool (decide p)) A B t = A := by rw [decide_eq_true hp]; rfl
theorem condK_neg {p : Prop} [Decidable p] {A B : Prop} {t} (hp : ¬ p) : condK (.bool (decide p)) A B t = B := by rw [decide_eq_false hp]; rfl
theorem fwp_exit {t} : fwpT S (.exit id) K F h t = K (.exit id) F h := (rfl)
theorem fwp_ret {t} : fwpT S .ret K F h t = K .ret F h := (rfl)
theorem fwp_ops {l : List NOper} {t} : fwpT S (.ops l) K F h t = fopsT S l F h (K .nrm) .mk := (rfl)

theorem fend_ret1 {t : Nat} {Q : NV × Heap → Prop} : fend [.tmp t] Q .ret F h = Q (F t, h) := by simp [fend, fresults, fresl, fres1]
theorem fend_ret0 {Q : NV × Heap → Prop} : fend [] Q .ret F h = Q (.tup [], h) := by simp [fend, fresults, fresl, fres1]
theorem fend_ret2 {t u : Nat} {Q : NV × Heap → Prop} : fend [.tmp t, .tmp u] Q .ret F h = Q (.tup [F t, F u], h) := by simp [fend, fresults, fresl, fres1]
theorem fend_ret3 {t u s : Nat} {Q : NV × Heap → Prop} : fend [.tmp t, .tmp u, .tmp s] Q .ret F h = Q (.tup [F t, F u, F s], h) := by simp [fend, fresults, fresl, fres1]
theorem fend_nrm {rs : List NRes} {Q : NV × Heap → Prop} : fend rs Q .nrm F h = fend rs Q .ret F h := (rfl)

/-- A loop whose rounds are numbered: 'I j' holds after 'j' rounds. -/
theorem floop (I : Nat → FF → Heap → Prop) (n : Nat) (h0 : I 0 F h) (hs : ∀ j F h, j < n → I j F h → fwp S c (fun c F h => match c with | .nrm => I (j + 1) F h | c => K c F h) F h)
    (he : ∀ F h, I n F h → fwp S c (fun c F h => match c with | .nrm => False | c => K c F h) F h) : fwp S (.loop c) K F h := by
  refine ⟨n + 1, ?_⟩
  have key : ∀ m j F h, j + m = n → I j F h → frounds (fwp S c) K (m + 1) F h := by
    intro m
    induction m with
    | zero =>
      intro j F h hj hI
      have : j = n := by omega
      subst this
      refine fwp_mono c (he F h hI) ?_
      intro c F h hc
      cases c with
      | nrm => exact hc.elim
      | exit id => exact hc
      | ret => exact hc
    | succ m ih =>
      intro j F h hj hI
      refine fwp_mono c (hs j F h (by omega) hI) ?_
      intro c F h hc
      cases c with
      | nrm => exact ih (j + 1) F h (by omega) hc
      | exit id => exact hc
      | ret => exact hc
  exact key n 0 F h (by omega) h0

/-- A loop with a measure. -/
theorem floop_measure (I : Nat → FF → Heap → Prop) (n : Nat) (h0 : I n F h) (hs : ∀ m F h, I m F h → fwp S c (fun c F h => match c with | .nrm => ∃ j, j < m ∧ I j F h | c => K c F h) F h) : fwp S (.loop c) K F h := by
  have key : ∀ n m F h, m ≤ n → I m F h → frounds (fwp S c) K (n + 1) F h := by
    intro n
    induction n with
    | zero =>
      intro m F h hm hI
      refine fwp_mono c (hs m F h hI) ?_
      intro c F h hc
      cases c with
      | nrm => obtain ⟨j, hj, _⟩ := hc; omega
      | exit id => exact hc
      | ret => exact hc
    | succ n ih =>
      intro m F h hm hI
      refine fwp_mono c (hs m F h hI) ?_
      intro c F h hc
      cases c with
      | nrm => obtain ⟨j, hj, hI'⟩ := hc; exact ih j F h (by omega) hI'
      | exit id => exact hc
      | ret => exact hc
  exact ⟨n + 1, key n n F h (Nat.le_refl n) h0⟩
end

/-! ### Operations -/
def contK (S : Env) (os : List NOper) (F : FF) (d : Option Nat) (K : FF → Heap → Prop) : NV → Heap → Prop := fun v h => fops S os (fput F d v) h K
def optK (o : Option NV) (h : Heap) (K : NV → Heap → Prop) (_ : Tg (h, K)) : Prop := ∃ v, o = some v ∧ K v h
def optH (o : Option Heap) (K : NV → Heap → Prop) (_ : Tg K) : Prop := ∃ h, o = some h ∧ K nundef h
def optB (o : Option (NV × Heap)) (K : NV → Heap → Prop) (_ : Tg K) : Prop := ∃ r, o = some r ∧ K r.1 r.2
def resK (r : Res (NV × Heap)) (K : NV → Heap → Prop) (_ : Tg K) : Prop := r.all fun r => K r.1 r.2
def guardK (o : Option Bool) (w : Bool) (A B : Prop) (_ : Tg (A, B)) : Prop := if o == some w then A else B

section
variable {S : Env} {F F' : FF} {h h' : Heap} {os : List NOper} {ρ : NOpd → NV} {K : NV → Heap → Prop} {KF : FF → Heap → Prop}

theorem upd_eq {d t : Nat} {v : NV} : upd F d v t = if t = d then v else F t := (rfl)
theorem upd_same {d : Nat} {v : NV} : upd F d v d = v := by simp [upd]
theorem upd_ne {d t : Nat} {v : NV} (e : t ≠ d) : upd F d v t = F t := by simp [upd, e]
theorem fval_tmp {t : Nat} : fval F (.tmp t) = F t := (rfl)
theorem fval_const {v : NV} : fval F (.const v) = v := (rfl)
theorem toF_zero {v : NV} {l : List NV} : toF (v :: l) 0 = v := (rfl)
theorem toF_succ {v : NV} {l : List NV} {n : Nat} : toF (v :: l) (n + 1) = toF l n := (rfl)

theorem fops_nil {t} : fopsT S [] F h KF t = KF F h := (rfl)
theorem fops_cons {d : Option Nat} {op : NOp} {t} : fopsT S (⟨d, op, none⟩ :: os) F h KF t = xop S (fval F) h op (contK S os F d KF) := (rfl)
theorem contK_some {d : Nat} {v : NV} : contK S os F (some d) KF v h = fopsT S os (upd F d v) h KF .mk := (rfl)
theorem contK_none {v : NV} : contK S os F none KF v h = fopsT S os F h KF .mk := (rfl)
theorem fops_guard {d : Option Nat} {op : NOp} {t : Nat} {w : Bool} {tg} : fopsT S (⟨d, op, some (t, w)⟩ :: os) F h KF tg = guardK (nbool? (F t)) w (fopsT S (⟨d, op, none⟩ :: os) F h KF .mk) (fopsT S os (fput F d nundef) h KF .mk) .mk := (rfl)
theorem nbool_bool {b : Bool} : nbool? (.bool b) = some b := (rfl)
theorem fput_some {d : Nat} {v : NV} : fput F (some d) v = upd F d v := (rfl)
theorem fput_none {v : NV} : fput F none v = F := (rfl)
theorem guardK_tt {A B : Prop} {t} : guardK (some true) true A B t = A := by simp [guardK]
theorem guardK_ff {A B : Prop} {t} : guardK (some false) false A B t = A := by simp [guardK]
theorem guardK_tf {A B : Prop} {t} : guardK (some true) false A B t = B := by simp [guardK]
theorem guardK_ft {A B : Prop} {t} : guardK (some false) true A B t = B := by simp [guardK]

theorem optK_some {v : NV} {t} : optK (some v) h K t = K v h := by simp [optK]
theorem optK_if {p : Prop} [Decidable p] {v : NV} {t} (hp : p) : optK (if p then some v else none) h K t = K v h := by simp [optK, hp]
theorem optK_ite {p : Prop} [Decidable p] {v : NV} {t} : optK (if p then some v else none) h K t = (p ∧ K v h) := by by_cases hp : p <;> simp [optK, hp]
theorem optH_some {t} : optH (some h) K t = K nundef h := by simp [optH]
theorem optH_if {p : Prop} [Decidable p] {t} (hp : p) : optH (if p then some h else none) K t = K nundef h := by simp [optH, hp]
theorem optH_ite {p : Prop} [Decidable p] {t} : optH (if p then some h else none) K t = (p ∧ K nundef h) := by by_cases hp : p <;> simp [optH, hp]
theorem optB_some {v : NV} {t} : optB (some (v, h)) K t = K v h := by simp [optB]
theorem optB_if {p : Prop} [Decidable p] {v : NV} {t} (hp : p) : optB (if p then some (v, h) else none) K t = K v h := by simp [optB, hp]
theorem optB_ite {p : Prop} [Decidable p] {v : NV} {t} : optB (if p then some (v, h) else none) K t = (p ∧ K v h) := by by_cases hp : p <;> simp [optB, hp]
theorem resK_ok {v : NV} {t} : resK (.ok (v, h)) K t = K v h := (rfl)
theorem resK_pick {D : NV × Heap → Prop} {t} : resK (.pick D .ok) K t = ∀ v h, D (v, h) → K v h := by
  simp only [resK, Res.all]
  exact propext ⟨fun e v h d => e (v, h) d, fun e i d => e i.1 i.2 d⟩

theorem all_of_map {o : Option NV} : (Res.of (o.map fun v => (v, h))).all (fun r => K r.1 r.2) = optK o h K .mk := by
  cases o <;> simp [Res.of, Res.all, optK]
theorem all_of_mapH {o : Option Heap} : (Res.of (o.map fun h => (nundef, h))).all (fun r => K r.1 r.2) = optH o K .mk := by
  cases o <;> simp [Res.of, Res.all, optH]
theorem all_of {o : Option (NV × Heap)} : (Res.of o).all (fun r => K r.1 r.2) = optB o K .mk := by
  cases o <;> simp [Res.of, Res.all, optB]

theorem x_move {x : NOpd} : xop S ρ h (.move x) K = optK (some (ρ x)) h K .mk := by rw [optK_some]; rfl
theorem x_pick {a b c : NOpd} : xop S ρ h (.pick c a b) K = optK (npick (ρ c) (ρ a) (ρ b)) h K .mk := all_of_map
theorem x_bin {o : BinOp} {x y : NOpd} : xop S ρ h (.bin o x y) K = optK (nbin o (ρ x) (ρ y)) h K .mk := all_of_map
theorem x_eq {neg agg : Bool} {ks : List CK} {x y : NOpd} : xop S ρ h (.eq neg agg ks x y) K = optK ((eqVal agg ks (ρ x) (ρ y)).map fun b => .bool (neg != b)) h K .mk := all_of_map
theorem x_un {o : UnOp} {x : NOpd} : xop S ρ h (.un o x) K = optK (nun o (ρ x)) h K .mk := all_of_map
theorem x_conv {k : IntKind} {x : NOpd} : xop S ρ h (.conv k x) K = optK (nconv k (ρ x)) h K .mk := all_of_map
theorem x_nilCheck {x : NOpd} : xop S ρ h (.nilCheck x) K = optK (nnilCheck (ρ x)) h K .mk := all_of_map
theorem x_off {x : NOpd} {n : Nat} : xop S ρ h (.off x n) K = optK (noff (ρ x) n) h K .mk := all_of_map
theorem x_idxArr {x i : NOpd} {n e : Nat} : xop S ρ h (.idxArr x i n e) K = optK (nidxArr (ρ x) (ρ i) n e) h K .mk := all_of_map
theorem x_idxSl {x i : NOpd} {e : Nat} : xop S ρ h (.idxSl x i e) K = optK (nidxSl (ρ x) (ρ i) e) h K .mk := all_of_map
theorem x_fieldv {x : NOpd} {o s : Nat} {g : Bool} : xop S ρ h (.fieldv x o s g) K = optK (nfield (ρ x) o s g) h K .mk := all_of_map
theorem x_indexv {x i : NOpd} {l e : Nat} {g : Bool} : xop S ρ h (.indexv x i l e g) K = optK (nindex (ρ x) (ρ i) l e g) h K .mk := all_of_map
theorem x_strIdx {x i : NOpd} : xop S ρ h (.strIdx x i) K = optK (nstrIdx (ρ x) (ρ i)) h K .mk := all_of_map
theorem x_build {z : List NV} {ps : List (Nat × Nat × NOpd)} : xop S ρ h (.build z ps) K = optK ((nfill ρ z ps).map .agg) h K .mk := all_of_map
theorem x_extract {x : NOpd} {i : Nat} : xop S ρ h (.extract x i) K = optK (nextract (ρ x) i) h K .mk := all_of_map
theorem x_mkfunc {fn : Fn} {a b : List NOpd} : xop S ρ h (.mkfunc fn a b) K = optK (some (.func fn (a.map ρ) (b.map ρ))) h K .mk := by rw [optK_some]; rfl
theorem x_slice {x : NOpd} {lo hi mx : Option NOpd} {e : Nat} : xop S ρ h (.slice x lo hi mx e) K = optK (nslice ρ (ρ x) lo hi mx e) h K .mk := all_of_map
theorem x_sliceArr {x : NOpd} {lo hi mx : Option NOpd} {n e : Nat} : xop S ρ h (.sliceArr x lo hi mx n e) K = optK (nsliceArr ρ (ρ x) lo hi mx n e) h K .mk := all_of_map
theorem x_sliceStr {x : NOpd} {lo hi : Option NOpd} : xop S ρ h (.sliceStr x lo hi) K = optK (nsliceStr ρ (ρ x) lo hi) h K .mk := all_of_map
theorem x_lenSl {x : NOpd} : xop S ρ h (.lenSl x) K = optK (nlenSl (ρ x)) h K .mk := all_of_map
theorem x_lenStr {x : NOpd} : xop S ρ h (.lenStr x) K = optK (nlenStr (ρ x)) h K .mk := all_of_map
theorem x_lenArr {n : Nat} : xop S ρ h (.lenArr n) K = K (.int .i64 n) h := (rfl)
theorem x_capSl {x : NOpd} : xop S ρ h (.capSl x) K = optK (ncap (ρ x)) h K .mk := all_of_map
def mmx (g : Bool) : List NV → Option NV
  | [] => none
  | x :: rest => rest.foldlM (minmax2 g) x
theorem x_minmax {g : Bool} {xs : List NOpd} : xop S ρ h (.minmax g xs) K = optK (mmx g (xs.map ρ)) h K .mk := all_of_map
theorem x_load {s : Nat} {g : Bool} {x : NOpd} : xop S ρ h (.load s g x) K = optK (nload h s g (ρ x)) h K .mk := all_of_map
theorem x_toStr {x : NOpd} : xop S ρ h (.toStr x) K = optK ((sliceCells h 1 (ρ x)).bind fun cs => (bytesOf cs).map fun bs => .str ⟨bs.toArray⟩) h K .mk := all_of_map
theorem x_lenMap {x : NOpd} : xop S ρ h (.lenMap x) K = optK ((entsOf h (ρ x)).map fun es => .int .i64 es.length) h K .mk := all_of_map
def nlook (h : Heap) (g : Bool) (ks : List CK) (z : NV) (ok : Bool) (m k : NV) : Option NV :=
  (entsOf h m).bind fun es => if keyOk g ks k then (findEnt g ks k es 0).map (lookupRes ok z) else none
theorem x_lookup {g : Bool} {ks : List CK} {z : NV} {ok : Bool} {m k : NOpd} : xop S ρ h (.lookup g ks z ok m k) K = optK (nlook h g ks z ok (ρ m) (ρ k)) h K .mk := all_of_map
theorem x_alloc {z : List NV} : xop S ρ h (.alloc z) K = optB (some (.ptr (some (h.length, 0)), h ++ [some (.cells z false)])) K .mk := by rw [optB_some]; rfl
def boxK (v : NV) (h : Heap) (K : NV → Heap → Prop) (_ : Tg (h, K)) : Prop := v.flat = true ∧ K (.ptr (some (h.length, 0))) (h ++ [some (.cells v.cells false)])
theorem boxK_if {v : NV} {t} (e : v.flat = true) : boxK v h K t = optB (some (.ptr (some (h.length, 0)), h ++ [some (.cells v.cells false)])) K .mk := by rw [optB_some]; simp [boxK, e]
theorem x_box {x : NOpd} : xop S ρ h (.box x) K = boxK (ρ x) h K .mk := by
  simp only [xop, nop, cls, nalloc, boxK]
  by_cases e : (ρ x).flat = true <;> simp [e, Res.of, Res.all]
def bsliceK (o : Option (List NV)) (n : Nat) (h : Heap) (K : NV → Heap → Prop) (_ : Tg (h, K)) : Prop := ∃ cs, o = some cs ∧ K (.slice (some (h.length, 0)) n (.fix n)) (h ++ [some (.cells cs false)])
theorem bsliceK_some {n : Nat} {cs : List NV} {t} : bsliceK (some cs) n h K t = optB (some (.slice (some (h.length, 0)) n (.fix n), h ++ [some (.cells cs false)])) K .mk := by rw [optB_some]; simp [bsliceK]
theorem x_bslice {n : Nat} {z : List NV} {ps : List (Nat × Nat × NOpd)} : xop S ρ h (.bslice n z ps) K = bsliceK (nfill ρ z ps) n h K .mk := by
  simp only [xop, nop, cls, nalloc, bsliceK]
  cases nfill ρ z ps <;> simp [Res.of, Res.all]
def mksliceK (l c : NV) (bytes : Nat) (z : List NV) (h : Heap) (K : NV → Heap → Prop) (_ : Tg (h, K)) : Prop :=
  match l, c with
  | .int _ l, .int _ c => (0 ≤ l ∧ l ≤ c ∧ (bytes : Int) * c ≤ 140737488355328 ∧ c ≤ 140737488355328) ∧ K (.slice (some (h.length, 0)) l.toNat (.fix c.toNat)) (h ++ [some (.cells (List.replicate c.toNat z).flatten false)])
  | _, _ => False
theorem mksliceK_int {k k' : IntKind} {l c : Int} {b : Nat} {z : List NV} {t} : mksliceK (.int k l) (.int k' c) b z h K t = ((0 ≤ l ∧ l ≤ c ∧ (b : Int) * c ≤ 140737488355328 ∧ c ≤ 140737488355328) ∧ K (.slice (some (h.length, 0)) l.toNat (.fix c.toNat)) (h ++ [some (.cells (List.replicate c.toNat z).flatten false)])) := (rfl)
theorem mksliceK_if {k k' : IntKind} {l c : Int} {b : Nat} {z : List NV} {t} (hp : 0 ≤ l ∧ l ≤ c ∧ (b : Int) * c ≤ 140737488355328 ∧ c ≤ 140737488355328) : mksliceK (.int k l) (.int k' c) b z h K t = optB (some (.slice (some (h.length, 0)) l.toNat (.fix c.toNat), h ++ [some (.cells (List.replicate c.toNat z).flatten false)])) K .mk := by
  rw [mksliceK_int, optB_some]; exact propext ⟨fun e => e.2, fun e => ⟨hp, e⟩⟩
theorem x_mkslice {e b : Nat} {z : List NV} {l c : NOpd} : xop S ρ h (.mkslice e b z l c) K = mksliceK (ρ l) (ρ c) b z h K .mk := by
  have h0 : (Res.of ((none : Option (NBlk × (Nat → NV))).map fun p => (p.2 h.length, h ++ [some p.1]))).all (fun r => K r.1 r.2) = False := (rfl)
  simp only [xop, nop, cls, nalloc]
  generalize ρ l = vl
  generalize ρ c = vc
  cases vl <;> try exact h0
  cases vc <;> try exact h0
  rename_i kl l kc c
  rw [mksliceK_int]
  dsimp only
  by_cases hp : (0 ≤ l ∧ l ≤ c ∧ (b : Int) * c ≤ 140737488355328 ∧ c ≤ 140737488355328)
  · rw [if_pos hp]; exact propext ⟨fun e => ⟨hp, e⟩, fun e => e.2⟩
  · rw [if_neg hp, h0]; exact propext ⟨fun e => e.elim, fun e => hp e.1⟩
theorem x_mkmap : xop S ρ h .mkmap K = optB (some (.map (some h.length), h ++ [some (.map [] 0)])) K .mk := by rw [optB_some]; rfl
theorem x_store {s : Nat} {x v : NOpd} : xop S ρ h (.store s x v) K = optH (nstore h s (ρ x) (ρ v)) K .mk := all_of_mapH
def nappendS (h : Heap) (esz bytes : Nat) (s x : NV) : Option (NV × Heap) := (sliceCells h esz x).bind fun new => (lenOfSl x).bind fun n => nappend h esz bytes s n new
theorem x_append {e b : Nat} {s x : NOpd} : xop S ρ h (.append e b s x) K = optB (nappendS h e b (ρ s) (ρ x)) K .mk := all_of
def appendzK (h : Heap) (esz bytes : Nat) (zero : List NV) (s x : NV) (K : NV → Heap → Prop) (_ : Tg (h, K)) : Prop :=
  match x with
  | .int .i64 m => (0 ≤ m ∧ (m.toNat : Nat) * bytes ≤ 140737488355328 ∧ m.toNat ≤ 140737488355328) ∧ optB (nappend h esz bytes s m.toNat (List.replicate m.toNat zero).flatten) K .mk
  | _ => False
theorem appendzK_int {e b : Nat} {z : List NV} {s : NV} {m : Int} {t} : appendzK h e b z s (.int .i64 m) K t = ((0 ≤ m ∧ (m.toNat : Nat) * b ≤ 140737488355328 ∧ m.toNat ≤ 140737488355328) ∧ optB (nappend h e b s m.toNat (List.replicate m.toNat z).flatten) K .mk) := (rfl)
theorem x_appendz {e b : Nat} {z : List NV} {s x : NOpd} : xop S ρ h (.appendz e b z s x) K = appendzK h e b z (ρ s) (ρ x) K .mk := by
  simp only [xop, nop, cls, neff]
  generalize ρ x = v
  cases v <;> try rfl
  rename_i k m
  cases k <;> try rfl
  rw [appendzK_int]
  dsimp only
  by_cases hp : (0 ≤ m ∧ (m.toNat : Nat) * b ≤ 140737488355328 ∧ m.toNat ≤ 140737488355328)
  · rw [if_pos hp, all_of]; exact propext ⟨fun e => ⟨hp, e⟩, fun e => e.2⟩
  · rw [if_neg hp]; exact propext ⟨fun e => e.elim, fun e => hp e.1⟩
theorem x_copy {e : Nat} {d x : NOpd} : xop S ρ h (.copy e d x) K = optB (ncopy h e (ρ d) (ρ x)) K .mk := all_of
theorem x_update {g : Bool} {ks : List CK} {m k v : NOpd} : xop S ρ h (.update g ks m k v) K = optH (nupdate g ks h (ρ m) (ρ k) (ρ v)) K .mk := all_of_mapH
def delK (o : Option Heap) (K : NV → Heap → Prop) (_ : Tg K) : Prop := ∃ h, o = some h ∧ K (.tup []) h
theorem delK_some {t} : delK (some h) K t = K (.tup []) h := by simp [delK]
theorem x_delete {g : Bool} {ks : List CK} {m k : NOpd} : xop S ρ h (.delete g ks m k) K = delK (ndelete g ks h (ρ m) (ρ k)) K .mk := by
  simp only [xop, nop, cls, neff, delK]
  cases ndelete g ks h (ρ m) (ρ k) <;> simp [Res.of, Res.all]
theorem x_range {m : NOpd} : xop S ρ h (.range m) K = optB (nrange h (ρ m)) K .mk := all_of
theorem x_next {m : NOpd} : xop S ρ h (.next m) K = (S.det = false ∧ resK (nnext h (ρ m)) K .mk) := (rfl)
theorem x_entry {m : NOpd} : xop S ρ h (.entry m) K = optK (nentry h (ρ m)) h K .mk := all_of_map
def callT (S : Env) (f : Nat) (args : List NV) (h : Heap) (K : NV → Heap → Prop) (_ : Tg (S, h, K)) : Prop := callC S f args h K
theorem x_call {f : Nat} {args : List NOpd} : xop S ρ h (.call f args) K = callT S f (args.map ρ) h K .mk := (rfl)
theorem callT_ok {f : Nat} {args : List NV} {v : NV} {t} (e : S.S f args h = .ok (v, h')) : callT S f args h K t = K v h' := callC_ok e
theorem callT_of {f : Nat} {args : List NV} {Q : NV × Heap → Prop} {t} (hd : S.det = false) (c : NCall S.P f args h Q) (hf : isFail (S.S f args h) = true) (hk : ∀ v h', Q (v, h') → K v h') : callT S f args h K t := callC_of hd hf c hk
/-- A call that comes to one result. -/
theorem callT_one {f : Nat} {args : List NV} {v : NV} {t} (c : NCall S.P f args h (fun q => q = (v, h'))) (hf : isFail (S.S f args h) = true) (hk : K v h') : callT S f args h K t := callC_one hf c hk
/-- A call that comes to one result, of which something is known. -/
theorem callT_D {f : Nat} {args : List NV} {Q : NV × Heap → Prop} {t} (c : DCall S.P f args h Q) (hf : isFail (S.S f args h) = true) (hk : ∀ v h', Q (v, h') → K v h') : callT S f args h K t := by
  obtain ⟨v, g, c1, c2⟩ := c
  exact callC_one hf c1 (hk v g c2)
def callvK (S : Env) (v : NV) (args : List NV) (h : Heap) (K : NV → Heap → Prop) (_ : Tg (S, h, K)) : Prop :=
  match v with
  | .func (.func f) first captured => callC S f (first ++ args ++ captured) h K
  | _ => False
theorem callvK_func {f : Nat} {a b args : List NV} {t} : callvK S (.func (.func f) a b) args h K t = callT S f (a ++ args ++ b) h K .mk := (rfl)
theorem x_callv {x : NOpd} {args : List NOpd} : xop S ρ h (.callv x args) K = callvK S (ρ x) (args.map ρ) h K .mk := by
  simp only [xop, callvK]
  generalize ρ x = v
  cases v <;> first | rfl | (rename_i fn a b; cases fn <;> rfl)
theorem x_ext {name : String} {args : List NOpd} : xop S ρ h (.ext name args) K = optK (next3 name (args.map ρ)) h K .mk := all_of_map

/-! ### Heaps -/
theorem hget_zero {x : Option NBlk} : hget (x :: h) 0 = x := by cases x <;> rfl
theorem hget_succ {x : Option NBlk} {n : Nat} : hget (x :: h) (n + 1) = hget h n := by simp [hget]
theorem hget_app_lt {o : Option NBlk} {b : Nat} (hb : b < h.length) : hget (h ++ [o]) b = hget h b := hget_append_lt hb
theorem hget_app_new {o : Option NBlk} : hget (h ++ [o]) h.length = o := hget_append_new
theorem hget_set_same {b : Nat} {x : NBlk} (hb : b < h.length) : hget (hset h b x) b = some x := hget_hset_same hb
theorem hget_set_ne {b c : Nat} {x : NBlk} (e : b ≠ c) : hget (hset h b x) c = hget h c := hget_hset_ne e
def cellsOf : Option NBlk → Option (List NV)
  | some (.cells cs _) => some cs
  | _ => none
theorem hcells_eq {b : Nat} : hcells h b = cellsOf (hget h b) := (rfl)
theorem cellsOf_some {cs : List NV} {ro : Bool} : cellsOf (some (.cells cs ro)) = some cs := (rfl)
theorem nload_agg {s b o : Nat} : nload h s true (.ptr (some (b, o))) = (hcells h b).bind fun cs => (cut cs o s).map .agg := (rfl)
theorem nload_one {s b o : Nat} : nload h s false (.ptr (some (b, o))) = (hcells h b).bind fun cs => cs[o]? := (rfl)
def storeIn (blk : Option NBlk) (h : Heap) (b o size : Nat) (v : NV) : Option Heap :=
  match blk with
  | some (.cells cs false) => if v.flat = true ∧ v.cells.length = size ∧ o + size ≤ cs.length then some (hset h b (.cells (splice cs o v.cells) false)) else none
  | _ => none
theorem nstore_ptr {s b o : Nat} {v : NV} : nstore h s (.ptr (some (b, o))) v = storeIn (hget h b) h b o s v := (rfl)
theorem storeIn_cells {s b o : Nat} {v : NV} {cs : List NV} : storeIn (some (.cells cs false)) h b o s v = if v.flat = true ∧ v.cells.length = s ∧ o + s ≤ cs.length then some (hset h b (.cells (splice cs o v.cells) false)) else none := (rfl)
theorem map_ite {α β : Type} {p : Prop} [Decidable p] {f : α → β} {a : α} : Option.map f (if p then some a else none) = if p then some (f a) else none := by split <;> rfl
theorem bind_ite {α β : Type} {p : Prop} [Decidable p] {f : α → Option β} {a : α} : Option.bind (if p then some a else none) f = if p then f a else none := by split <;> rfl
end

/-! ### Drawn regions -/
def drawT (S : Env) (nA : Nat) (ds : List DOper) (F : FF) (h : Heap) (K : FF → Heap → Prop) (_ : Tg (ds, F, K)) : Prop := edraw S nA ds F h K
def edT (S : Env) (n0 : Nat) (as : List (Nat × Nat)) (h0 : Heap) (K : FF → Heap → Prop) (ds : List DOper) (es : List ER) (ls : List LR) (F : FF) (_ : Tg (K, ds, es, ls, F)) : Prop :=
  edrun S n0 as h0 (fun es ls F => looksOK es ls ∧ K F (eheap (fun _ => true) es h0)) ds es ls F
def heapK (h : Heap) (K : Heap → Prop) (_ : Tg K) : Prop := K h
def edEnd (K : FF → Heap → Prop) (F : FF) : Heap → Prop := fun h => K F h

section
variable {S : Env} {nA n0 : Nat} {as : List (Nat × Nat)} {h0 : Heap} {K : FF → Heap → Prop} {ds : List DOper} {es : List ER} {ls : List LR} {F : FF} {h : Heap} {i slot : Nat} {pre : List Nat}

theorem fwp_draw {ds : List DOper} {K : FK} {F : FF} {h : Heap} {t} : fwpT S (.draw nA ds) K F h t = drawT S nA ds F h (K .nrm) .mk := (rfl)
theorem srt_nil {n : Nat} : srt [] n = true := (rfl)
theorem srt_cons {o : NOper} {n : Nat} : srt (⟨i, o, pre, slot⟩ :: ds) n = (decide (n ≤ i) && srt ds (i + 1)) := (rfl)
def asC (c : Cls) (i slot : Nat) (l : List (Nat × Nat)) : List (Nat × Nat) := match c with | .A => (i, slot) :: l | _ => l
theorem asC_A {l : List (Nat × Nat)} : asC .A i slot l = (i, slot) :: l := (rfl)
theorem asC_P {l : List (Nat × Nat)} : asC .P i slot l = l := (rfl)
theorem asC_L {l : List (Nat × Nat)} : asC .L i slot l = l := (rfl)
theorem asC_E {l : List (Nat × Nat)} : asC .E i slot l = l := (rfl)
theorem as_nil : aslots [] = [] := (rfl)
theorem as_cons {d : Option Nat} {op : NOp} {g : Option (Nat × Bool)} : aslots (⟨i, ⟨d, op, g⟩, pre, slot⟩ :: ds) = asC (cls op) i slot (aslots ds) := by
  unfold aslots asC isA
  simp only [List.filter_cons]
  cases cls op <;> simp
def startK (n0 : Nat) (as : List (Nat × Nat)) (h0 : Heap) (K : Nat → List (Nat × Nat) → Heap → Prop) (_ : Tg K) : Prop := K n0 as h0
def edS (S : Env) (K : FF → Heap → Prop) (ds : List DOper) (F : FF) : Nat → List (Nat × Nat) → Heap → Prop := fun n0 as h0 => edT S n0 as h0 K ds [] [] F .mk
theorem startK_mk {K : Nat → List (Nat × Nat) → Heap → Prop} {t} : startK n0 as h0 K t = K n0 as h0 := (rfl)
theorem edS_mk : edS S K ds F n0 as h0 = edT S n0 as h0 K ds [] [] F .mk := (rfl)
theorem draw_in {t} : drawT S nA ds F h K t = (srt ds 0 = true ∧ startK h.length (aslots ds) (h ++ List.replicate nA none) (edS S K ds F) .mk) := (rfl)
theorem ed_nil {t} : edT S n0 as h0 K [] es ls F t = (looksOK es ls ∧ heapK (eheap (fun _ => true) es h0) (edEnd K F) .mk) := (rfl)
theorem heapK_mk {K : Heap → Prop} {t} : heapK h K t = K h := (rfl)
theorem edEnd_mk : edEnd K F h = K F h := (rfl)

def edP (S : Env) (n0 : Nat) (as : List (Nat × Nat)) (h0 : Heap) (K : FF → Heap → Prop) (d : Option Nat) (ds : List DOper) (es : List ER) (ls : List LR) (F : FF) : NV → Heap → Prop := fun v _ => edT S n0 as h0 K ds es ls (fput F d v) .mk
def edL (S : Env) (n0 : Nat) (as : List (Nat × Nat)) (h0 : Heap) (K : FF → Heap → Prop) (i : Nat) (pre : List Nat) (op : NOp) (d : Option Nat) (ds : List DOper) (es : List ER) (ls : List LR) (F : FF) : NV → Heap → Prop :=
  fun v _ => edT S n0 as h0 K ds es (ls ++ [⟨i, pre, op, F, v⟩]) (fput F d v) .mk
def edE (S : Env) (n0 : Nat) (as : List (Nat × Nat)) (h0 : Heap) (K : FF → Heap → Prop) (i : Nat) (pre : List Nat) (d : Option Nat) (ds : List DOper) (es : List ER) (ls : List LR) (F : FF) : NV → Heap → Prop :=
  fun v g => (h0.length ≤ g.length ∧ resvOK as pre n0 g) ∧ edT S n0 as h0 K ds (es ++ [⟨i, pre, .to g⟩]) ls (fput F d v) .mk
def edA (S : Env) (n0 : Nat) (as : List (Nat × Nat)) (h0 : Heap) (K : FF → Heap → Prop) (i : Nat) (pre : List Nat) (slot : Nat) (d : Option Nat) (ds : List DOper) (es : List ER) (ls : List LR) (F : FF) : NBlk × (Nat → NV) → Prop :=
  fun p => edT S n0 as h0 K ds (es ++ [⟨i, pre, .new (n0 + slot) p.1⟩]) ls (fput F d (p.2 (n0 + slot))) .mk
theorem edP_mk {d : Option Nat} {v : NV} : edP S n0 as h0 K d ds es ls F v h = edT S n0 as h0 K ds es ls (fput F d v) .mk := (rfl)
theorem edL_mk {op : NOp} {d : Option Nat} {v : NV} : edL S n0 as h0 K i pre op d ds es ls F v h = edT S n0 as h0 K ds es (ls ++ [⟨i, pre, op, F, v⟩]) (fput F d v) .mk := (rfl)
theorem edE_mk {d : Option Nat} {v : NV} : edE S n0 as h0 K i pre d ds es ls F v h = ((h0.length ≤ h.length ∧ resvOK as pre n0 h) ∧ edT S n0 as h0 K ds (es ++ [⟨i, pre, .to h⟩]) ls (fput F d v) .mk) := (rfl)

/-- An operation of a drawn region, by its class. -/
def edC (c : Cls) (S : Env) (n0 : Nat) (as : List (Nat × Nat)) (h0 : Heap) (K : FF → Heap → Prop) (op : NOp) (i : Nat) (d : Option Nat) (pre : List Nat) (slot : Nat) (ds : List DOper) (es : List ER) (ls : List LR) (F : FF) (_ : Tg (K, op, d, ds, es, ls, F)) : Prop :=
  match c with
  | .P => xop S (fval F) [] op (edP S n0 as h0 K d ds es ls F)
  | .L => xop S (fval F) (eheap pre.contains es h0) op (edL S n0 as h0 K i pre op d ds es ls F)
  | .A => ∃ p, nalloc (fval F) op = some p ∧ edA S n0 as h0 K i pre slot d ds es ls F p
  | .E => eop S (fval F) (eheap pre.contains es h0) op (edE S n0 as h0 K i pre d ds es ls F)
theorem ed_cons {d : Option Nat} {op : NOp} {t} : edT S n0 as h0 K (⟨i, ⟨d, op, none⟩, pre, slot⟩ :: ds) es ls F t = edC (cls op) S n0 as h0 K op i d pre slot ds es ls F .mk := by
  unfold edT edC
  simp only [edrun, edstep, fwanted, if_true]
  cases cls op <;> rfl
theorem ed_guard {d : Option Nat} {op : NOp} {t : Nat} {w : Bool} {tg} : edT S n0 as h0 K (⟨i, ⟨d, op, some (t, w)⟩, pre, slot⟩ :: ds) es ls F tg = guardK (nbool? (F t)) w (edT S n0 as h0 K (⟨i, ⟨d, op, none⟩, pre, slot⟩ :: ds) es ls F .mk) (edT S n0 as h0 K ds es ls (fput F d nundef) .mk) .mk := by
  unfold edT guardK
  simp only [edrun, edstep, fwanted, if_true]
  rfl
theorem edC_P {d : Option Nat} {op : NOp} {t} : edC .P S n0 as h0 K op i d pre slot ds es ls F t = xop S (fval F) [] op (edP S n0 as h0 K d ds es ls F) := (rfl)
theorem edC_L {d : Option Nat} {op : NOp} {t} : edC .L S n0 as h0 K op i d pre slot ds es ls F t = xop S (fval F) (eheap pre.contains es h0) op (edL S n0 as h0 K i pre op d ds es ls F) := (rfl)
theorem edC_E {d : Option Nat} {op : NOp} {t} : edC .E S n0 as h0 K op i d pre slot ds es ls F t = eop S (fval F) (eheap pre.contains es h0) op (edE S n0 as h0 K i pre d ds es ls F) := (rfl)

def naK (o : Option (List NV)) (n : Nat) (s : Nat) (K : NBlk → NV → Prop) (_ : Tg K) : Prop := ∃ cs, o = some cs ∧ K (.cells cs false) (.slice (some (s, 0)) n (.fix n))
theorem naK_some {cs : List NV} {n s : Nat} {K : NBlk → NV → Prop} {t} : naK (some cs) n s K t = K (.cells cs false) (.slice (some (s, 0)) n (.fix n)) := by simp [naK]
def nbK (v : NV) (s : Nat) (K : NBlk → NV → Prop) (_ : Tg K) : Prop := v.flat = true ∧ K (.cells v.cells false) (.ptr (some (s, 0)))
theorem nbK_mk {v : NV} {s : Nat} {K : NBlk → NV → Prop} {t} (h : v.flat = true) : nbK v s K t = K (.cells v.cells false) (.ptr (some (s, 0))) := by simp [nbK, h]
def nmK (l c : NV) (bytes : Nat) (z : List NV) (s : Nat) (K : NBlk → NV → Prop) (_ : Tg K) : Prop :=
  match l, c with
  | .int _ l, .int _ c => (0 ≤ l ∧ l ≤ c ∧ (bytes : Int) * c ≤ 140737488355328 ∧ c ≤ 140737488355328) ∧ K (.cells (List.replicate c.toNat z).flatten false) (.slice (some (s, 0)) l.toNat (.fix c.toNat))
  | _, _ => False
theorem nmK_int {k k' : IntKind} {l c : Int} {b : Nat} {z : List NV} {s : Nat} {K : NBlk → NV → Prop} {t} : nmK (.int k l) (.int k' c) b z s K t = ((0 ≤ l ∧ l ≤ c ∧ (b : Int) * c ≤ 140737488355328 ∧ c ≤ 140737488355328) ∧ K (.cells (List.replicate c.toNat z).flatten false) (.slice (some (s, 0)) l.toNat (.fix c.toNat))) := (rfl)
def naV (s : Nat) (b : NBlk) (v : NV) (K : NBlk → NV → Prop) (_ : Tg K) : Prop := K b v
theorem naV_mk {s : Nat} {b : NBlk} {v : NV} {K : NBlk → NV → Prop} {t} : naV s b v K t = K b v := (rfl)
/-- What follows on a new block. -/
def edB (S : Env) (n0 : Nat) (as : List (Nat × Nat)) (h0 : Heap) (K : FF → Heap → Prop) (i : Nat) (pre : List Nat) (s : Nat) (d : Option Nat) (ds : List DOper) (es : List ER) (ls : List LR) (F : FF) : NBlk → NV → Prop :=
  fun b v => edT S n0 as h0 K ds (es ++ [⟨i, pre, .new s b⟩]) ls (fput F d v) .mk
theorem edB_mk {s : Nat} {d : Option Nat} {b : NBlk} {v : NV} : edB S n0 as h0 K i pre s d ds es ls F b v = edT S n0 as h0 K ds (es ++ [⟨i, pre, .new s b⟩]) ls (fput F d v) .mk := (rfl)
theorem edA_alloc {d : Option Nat} {z : List NV} {t} : edC .A S n0 as h0 K (.alloc z) i d pre slot ds es ls F t = naV (n0 + slot) (.cells z false) (.ptr (some (n0 + slot, 0))) (edB S n0 as h0 K i pre (n0 + slot) d ds es ls F) .mk := by
  simp only [edC, nalloc, Option.some.injEq, exists_eq_left']; rfl
theorem edA_mkmap {d : Option Nat} {t} : edC .A S n0 as h0 K .mkmap i d pre slot ds es ls F t = naV (n0 + slot) (.map [] 0) (.map (some (n0 + slot))) (edB S n0 as h0 K i pre (n0 + slot) d ds es ls F) .mk := by
  simp only [edC, nalloc, Option.some.injEq, exists_eq_left']; rfl
theorem edA_box {d : Option Nat} {x : NOpd} {t} : edC .A S n0 as h0 K (.box x) i d pre slot ds es ls F t = nbK (fval F x) (n0 + slot) (edB S n0 as h0 K i pre (n0 + slot) d ds es ls F) .mk := by
  simp only [edC, nalloc, nbK]
  by_cases e : (fval F x).flat = true
  · simp only [e, if_true, Option.some.injEq, exists_eq_left', true_and]; rfl
  · simp [e]
theorem edA_bslice {d : Option Nat} {n : Nat} {z : List NV} {ps : List (Nat × Nat × NOpd)} {t} : edC .A S n0 as h0 K (.bslice n z ps) i d pre slot ds es ls F t = naK (nfill (fval F) z ps) n (n0 + slot) (edB S n0 as h0 K i pre (n0 + slot) d ds es ls F) .mk := by
  simp only [edC, nalloc, naK]
  cases nfill (fval F) z ps with
  | none => simp
  | some cs => simp only [Option.map_some, Option.some.injEq, exists_eq_left']; rfl
theorem edA_mkslice {d : Option Nat} {e b : Nat} {z : List NV} {l c : NOpd} {t} : edC .A S n0 as h0 K (.mkslice e b z l c) i d pre slot ds es ls F t = nmK (fval F l) (fval F c) b z (n0 + slot) (edB S n0 as h0 K i pre (n0 + slot) d ds es ls F) .mk := by
  simp only [edC, nalloc]
  generalize fval F l = vl
  generalize fval F c = vc
  have no : (∃ p : NBlk × (Nat → NV), (none : Option (NBlk × (Nat → NV))) = some p ∧ edA S n0 as h0 K i pre slot d ds es ls F p) = False := by simp
  cases vl <;> try (exact no)
  cases vc <;> try (exact no)
  rename_i kl l kc c
  rw [nmK_int]
  dsimp only
  by_cases hp : (0 ≤ l ∧ l ≤ c ∧ (b : Int) * c ≤ 140737488355328 ∧ c ≤ 140737488355328)
  · rw [if_pos hp]; simp only [Option.some.injEq, exists_eq_left', hp, and_self, true_and]; rfl
  · rw [if_neg hp]; simp [hp]

def oneK (o : Option (NV × Heap)) (K : NV → Heap → Prop) (_ : Tg K) : Prop := ∃ q, o = some q ∧ K q.1 q.2
section
variable {ρ : NOpd → NV} {KV : NV → Heap → Prop}
theorem one_of {o : Option (NV × Heap)} : Res.one (Res.of o) = o := by cases o <;> rfl
theorem e_store {s : Nat} {x v : NOpd} : eop S ρ h (.store s x v) KV = optH (nstore h s (ρ x) (ρ v)) KV .mk := by
  simp only [eop, neff, one_of, optH]
  cases nstore h s (ρ x) (ρ v) <;> simp
theorem e_append {e b : Nat} {s x : NOpd} : eop S ρ h (.append e b s x) KV = optB (nappendS h e b (ρ s) (ρ x)) KV .mk := by
  simp only [eop, neff, one_of, optB, nappendS]
theorem e_copy {e : Nat} {d x : NOpd} : eop S ρ h (.copy e d x) KV = optB (ncopy h e (ρ d) (ρ x)) KV .mk := by
  simp only [eop, neff, one_of, optB]
theorem e_update {g : Bool} {ks : List CK} {m k v : NOpd} : eop S ρ h (.update g ks m k v) KV = optH (nupdate g ks h (ρ m) (ρ k) (ρ v)) KV .mk := by
  simp only [eop, neff, one_of, optH]
  cases nupdate g ks h (ρ m) (ρ k) (ρ v) <;> simp
theorem e_delete {g : Bool} {ks : List CK} {m k : NOpd} : eop S ρ h (.delete g ks m k) KV = delK (ndelete g ks h (ρ m) (ρ k)) KV .mk := by
  simp only [eop, neff, one_of, delK]
  cases ndelete g ks h (ρ m) (ρ k) <;> simp
theorem e_range {m : NOpd} : eop S ρ h (.range m) KV = optB (nrange h (ρ m)) KV .mk := by
  simp only [eop, neff, one_of, optB]
theorem e_entry {m : NOpd} : eop S ρ h (.entry m) KV = optK (nentry h (ρ m)) h KV .mk := by
  simp only [eop, neff, one_of, optK]
  cases nentry h (ρ m) <;> simp
theorem e_ext {name : String} {args : List NOpd} : eop S ρ h (.ext name args) KV = optK (next3 name (args.map ρ)) h KV .mk := by
  simp only [eop, neff, one_of, optK]
  cases next3 name (args.map ρ) <;> simp
def callDT (S : Env) (f : Nat) (args : List NV) (h : Heap) (K : NV → Heap → Prop) (_ : Tg (S, K)) : Prop := callD S f args h K
theorem e_call {f : Nat} {args : List NOpd} : eop S ρ h (.call f args) KV = callDT S f (args.map ρ) h KV .mk := (rfl)
def callvDT (S : Env) (v : NV) (args : List NV) (h : Heap) (K : NV → Heap → Prop) (_ : Tg (S, K)) : Prop :=
  match v with
  | .func (.func f) first captured => callD S f (first ++ args ++ captured) h K
  | _ => False
theorem e_callv {x : NOpd} {args : List NOpd} : eop S ρ h (.callv x args) KV = callvDT S (ρ x) (args.map ρ) h KV .mk := by
  simp only [eop, callvDT]
  generalize ρ x = v
  cases v <;> first | rfl | (rename_i fn a b; cases fn <;> rfl)
theorem callvDT_func {f : Nat} {a b args : List NV} {t} : callvDT S (.func (.func f) a b) args h KV t = callDT S f (a ++ args ++ b) h KV .mk := (rfl)
/-- A call in a drawn region. -/
theorem callDT_one {f : Nat} {args : List NV} {v : NV} {g : Heap} {t} (c : NCall S.P f args h (fun q => q = (v, g))) (hf : isFail (S.S f args h) = true) (hk : KV v g) : callDT S f args h KV t := by
  unfold callDT callD; rw [if_pos hf]; exact ⟨v, g, c, hk⟩
theorem callDT_D {f : Nat} {args : List NV} {Q : NV × Heap → Prop} {t} (c : DCall S.P f args h Q) (hf : isFail (S.S f args h) = true) (hk : ∀ v h', Q (v, h') → KV v h') : callDT S f args h KV t := by
  obtain ⟨v, g, c1, c2⟩ := c
  exact callDT_one c1 hf (hk v g c2)
theorem callDT_ok {f : Nat} {args : List NV} {v : NV} {g : Heap} {t} (e : S.S f args h = .ok (v, g)) : callDT S f args h KV t = KV v g := by
  unfold callDT callD; rw [e]; simp [isFail, Res.one]
end

/-! Effects, laid over each other. -/
theorem eheap_nil {D : Nat → Bool} : eheap D [] h = h := (rfl)
theorem eheap_eq {D : Nat → Bool} {e : ER} : eheap D (e :: es) h = efill D (ebase D (e :: es) (h, [])).2 (e :: es) (ebase D (e :: es) (h, [])).1 := (rfl)
theorem ebase_nil {D : Nat → Bool} {b : Heap × List Nat} : ebase D [] b = b := (rfl)
theorem ebase_to {D : Nat → Bool} {b : Heap × List Nat} {g : Heap} : ebase D (⟨i, pre, .to g⟩ :: es) b = ebase D es (if D i then (g, pre) else b) := (rfl)
theorem ebase_new {D : Nat → Bool} {b : Heap × List Nat} {s : Nat} {x : NBlk} : ebase D (⟨i, pre, .new s x⟩ :: es) b = ebase D es b := (rfl)
theorem efill_nil {D : Nat → Bool} {out : List Nat} : efill D out [] h = h := (rfl)
theorem efill_to {D : Nat → Bool} {out : List Nat} {g : Heap} : efill D out (⟨i, pre, .to g⟩ :: es) h = efill D out es h := (rfl)
theorem efill_new {D : Nat → Bool} {out : List Nat} {s : Nat} {x : NBlk} : efill D out (⟨i, pre, .new s x⟩ :: es) h = efill D out es (if D i && !out.contains i then hset h s x else h) := (rfl)
theorem looks_nil : looksOK es [] = True := by simp [looksOK]
def lookAll (es0 : List ER) (l : LR) : List ER → Prop
  | [] => True
  | e :: es => lookOne es0 l e ∧ lookAll es0 l es
theorem lookAll_iff {es0 : List ER} {l : LR} : ∀ {es : List ER}, lookAll es0 l es ↔ ∀ e ∈ es, lookOne es0 l e
  | [] => by simp [lookAll]
  | e :: es => by simp [lookAll, lookAll_iff (es := es)]
theorem looks_cons {l : LR} : looksOK es (l :: ls) = (lookAll es l es ∧ looksOK es ls) := by
  rw [lookAll_iff]; simp [looksOK]
theorem lookAll_nil {es0 : List ER} {l : LR} : lookAll es0 l [] = True := (rfl)
theorem lookAll_cons {es0 : List ER} {l : LR} {e : ER} : lookAll es0 l (e :: es) = (lookOne es0 l e ∧ lookAll es0 l es) := (rfl)
theorem lookOne_to {l : LR} {g : Heap} : lookOne es l ⟨i, pre, .to g⟩ = if pre.contains l.i || l.pre.contains i then True else nread (fval l.F) (efill l.pre.contains pre es g) l.op = some l.v := (rfl)
theorem lookOne_new {l : LR} {s : Nat} {x : NBlk} : lookOne es l ⟨i, pre, .new s x⟩ = True := (rfl)
theorem resv_nil : resvOK [] pre n0 h = True := by simp [resvOK]
theorem resv_cons {a : Nat × Nat} : resvOK (a :: as) pre n0 h = ((pre.contains a.1 = true ∨ hget h (n0 + a.2) = none) ∧ resvOK as pre n0 h) := by simp [resvOK]
theorem nread_load {ρ : NOpd → NV} {s : Nat} {g : Bool} {x : NOpd} : nread ρ h (.load s g x) = nload h s g (ρ x) := (rfl)
end

/-! ### Heaps with new blocks behind -/
section
variable {h L M : Heap}
theorem hget_new0 : hget (h ++ L) h.length = hget L 0 := by unfold hget; rw [List.getElem?_append_right (Nat.le_refl _), Nat.sub_self]
theorem hget_newk {k : Nat} : hget (h ++ L) (h.length + k) = hget L k := by unfold hget; rw [List.getElem?_append_right (by omega), Nat.add_sub_cancel_left]
theorem hset_new0 {x : NBlk} : hset (h ++ L) h.length x = h ++ hset L 0 x := by unfold hset; rw [List.set_append_right _ _ (Nat.le_refl _), Nat.sub_self]
theorem hset_newk {k : Nat} {x : NBlk} : hset (h ++ L) (h.length + k) x = h ++ hset L k x := by unfold hset; rw [List.set_append_right _ _ (by omega), Nat.add_sub_cancel_left]
theorem hkill_new0 : hkill (h ++ L) h.length = h ++ hkill L 0 := by unfold hkill; rw [List.set_append_right _ _ (Nat.le_refl _), Nat.sub_self]
theorem hkill_newk {k : Nat} : hkill (h ++ L) (h.length + k) = h ++ hkill L k := by unfold hkill; rw [List.set_append_right _ _ (by omega), Nat.add_sub_cancel_left]
theorem hset_lit0 {a : Option NBlk} {x : NBlk} : hset (a :: L) 0 x = some x :: L := (rfl)
theorem hset_litk {a : Option NBlk} {k : Nat} {x : NBlk} : hset (a :: L) (k + 1) x = a :: hset L k x := (rfl)
theorem hkill_lit0 {a : Option NBlk} : hkill (a :: L) 0 = none :: L := (rfl)
theorem hkill_litk {a : Option NBlk} {k : Nat} : hkill (a :: L) (k + 1) = a :: hkill L k := (rfl)
theorem hget_nil {k : Nat} : hget [] k = none := by simp [hget]
end
theorem cut_cons {a : NV} {l : List NV} {o n : Nat} : cut (a :: l) o n = if o + n ≤ (a :: l).length then some (((a :: l).drop o).take n) else none := (rfl)
theorem splice_cons {a : NV} {l new : List NV} {o : Nat} : splice (a :: l) o new = (a :: l).take o ++ (new ++ (a :: l).drop (o + new.length)) := (rfl)
theorem sliceCells_some {h : Heap} {e b o n : Nat} {c : Cap} : sliceCells h e (.slice (some (b, o)) n c) = if n * e = 0 then some [] else (hcells h b).bind fun cs => cut cs o (n * e) := (rfl)
theorem sliceCells_none {h : Heap} {e n : Nat} {c : Cap} : sliceCells h e (.slice none n c) = if n = 0 then some [] else none := (rfl)
theorem boxK_eq {v : NV} {h : Heap} {K : NV → Heap → Prop} {t} : boxK v h K t = guardK (some v.flat) true (optB (some (.ptr (some (h.length, 0)), h ++ [some (.cells v.cells false)])) K .mk) False .mk := by
  cases hv : v.flat
  · simp [guardK, boxK, hv]
  · rw [guardK_tt, optB_some]; simp [boxK, hv]
theorem nbK_eq {v : NV} {s : Nat} {K : NBlk → NV → Prop} {t} : nbK v s K t = guardK (some v.flat) true (naV s (.cells v.cells false) (.ptr (some (s, 0))) K .mk) False .mk := by
  cases hv : v.flat
  · simp [guardK, nbK, hv]
  · rw [guardK_tt, naV_mk]; simp [nbK, hv]
def optQ (o : Option NV) (h : Heap) (Q : NV × Heap → Prop) (_ : Tg (h, Q)) : Prop := ∃ v, o = some v ∧ Q (v, h)
theorem fend_ret {rs : List NRes} {Q : NV × Heap → Prop} {F : FF} {h : Heap} : fend rs Q .ret F h = optQ (fresults F h rs) h Q .mk := (rfl)
theorem optQ_some {v : NV} {h : Heap} {Q : NV × Heap → Prop} {t} : optQ (some v) h Q t = Q (v, h) := by simp [optQ]
end Go.Ns
