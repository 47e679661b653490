/- Data that hold lists: how they lie in a heap. -/
import Derived.Test.YtiiopgancdgioaaFsH
set_option linter.unusedVariables false
set_option linter.unusedSimpArgs false
namespace Go.Ns

/-- Both branches come to 'J', or leave; then what comes next goes on from there. -/
theorem condK_joinK {S : Env} {b : Bool} {x y : NCode} {K : FK} {F : FF} {h : Heap} (J : FF → Heap → Prop) (h1 : b = true → fwpT S x (loopK J K) F h .mk) (h2 : b = false → fwpT S y (loopK J K) F h .mk)
    (h3 : ∀ F h, J F h → K .nrm F h) : condK (.bool b) (fwpT S x K F h .mk) (fwpT S y K F h .mk) .mk := by
  have go : ∀ z, fwpT S z (loopK J K) F h .mk → fwpT S z K F h .mk := by
    intro z hz
    refine fwp_mono z hz ?_
    intro c F h hc
    cases c with
    | nrm => exact h3 F h hc
    | exit i => exact hc
    | ret => exact hc
  cases b
  · exact go _ (h2 rfl)
  · exact go _ (h1 rfl)

/-- A part, and what it leaves. -/
theorem fwp_seqJ {S : Env} {a b : NCode} {K : FK} {F : FF} {h : Heap} (J : FF → Heap → Prop) (h1 : fwpT S a (joinK J) F h .mk) (h2 : ∀ F h, J F h → fwpT S b K F h .mk) : fwpT S (.seq a b) K F h .mk := by
  rw [fwp_seq]
  refine fwp_mono a h1 ?_
  intro c F h hc
  cases c with
  | nrm => exact h2 F h hc
  | exit i => exact hc.elim
  | ret => exact hc.elim
theorem cut_get {cs xs : List NV} {o k i : Nat} (h : cut cs o k = some xs) (hi : i < k) : cs[o + i]? = xs[i]? := by
  unfold cut at h
  split at h
  · cases h
    rw [List.getElem?_take_of_lt hi, List.getElem?_drop]
  · cases h

theorem nbool_undef : nbool? nundef = none := (rfl)
theorem guardK_none {w : Bool} {A B : Prop} {t} : guardK none w A B t = B := by simp [guardK]

/-- A cell: a plain one, or a list of rows. -/
inductive Tr where
  | leaf (v : NV)
  | rows (k : Nat) (l : List (List Tr))
  | any

mutual
/-- A cell that lies in blocks from 'n' on. -/
def Tr.rep (n : Nat) (H : Heap) : Tr → NV → Prop
  | .leaf v, x => x = v ∧ v.one = true ∧ v.lo 0
  | .any, x => x.one = true
  | .rows k l, x => (x = .slice none 0 (.fix 0) ∧ l = []) ∨ ∃ b c cs ro, x = .slice (some (b, 0)) l.length c ∧ n ≤ b ∧ hget H b = some (.cells cs ro) ∧ Tr.repRows n H k 0 l cs
def Tr.repRows (n : Nat) (H : Heap) (k : Nat) : Nat → List (List Tr) → List NV → Prop
  | _, [], _ => True
  | i, r :: rs, cs => (∃ xs, cut cs (i * k) k = some xs ∧ Tr.repCells n H r xs) ∧ Tr.repRows n H k (i + 1) rs cs
def Tr.repCells (n : Nat) (H : Heap) : List Tr → List NV → Prop
  | [], xs => xs = []
  | t :: ts, xs => ∃ y ys, xs = y :: ys ∧ Tr.rep n H t y ∧ Tr.repCells n H ts ys
end

/-- Blocks from 'n' on that are there stay as they are. -/
def Ext (n : Nat) (H H' : Heap) : Prop := ∀ b x, n ≤ b → hget H b = some x → hget H' b = some x
theorem Ext.refl {n : Nat} {H : Heap} : Ext n H H := fun _ _ _ h => h
theorem Ext.trans {n : Nat} {H H' H'' : Heap} (a : Ext n H H') (b : Ext n H' H'') : Ext n H H'' := fun c x hc h => b c x hc (a c x hc h)
theorem Ext.app {n : Nat} {H L : Heap} : Ext n H (H ++ L) := fun b x _ h => by rw [hget_appl (hget_lt h)]; exact h
theorem Ext.set {n p : Nat} {H : Heap} {x : NBlk} (hp : p < n) : Ext n H (hset H p x) := fun b y hb h => by rw [hget_hset_ne (by omega)]; exact h
theorem Ext.sets {n p : Nat} {H L : Heap} {x : NBlk} (hp : p < n) : Ext n H (hset H p x ++ L) := (Ext.set hp).trans Ext.app
theorem Ext.mono {n m : Nat} {H H' : Heap} (h : n ≤ m) (e : Ext n H H') : Ext m H H' := fun b x hb hx => e b x (Nat.le_trans h hb) hx

mutual
theorem Tr.rep_ext {n : Nat} {H H' : Heap} (e : Ext n H H') : ∀ {t : Tr} {x : NV}, t.rep n H x → t.rep n H' x
  | .leaf v, x, h => h
  | .any, x, h => h
  | .rows k l, x, h => by
    simp only [Tr.rep] at h ⊢
    rcases h with h | ⟨b, c, cs, ro, h1, h2, h3, h4⟩
    · exact .inl h
    · exact .inr ⟨b, c, cs, ro, h1, h2, e b _ h2 h3, Tr.repRows_ext e h4⟩
theorem Tr.repRows_ext {n : Nat} {H H' : Heap} (e : Ext n H H') {k : Nat} : ∀ {i : Nat} {l : List (List Tr)} {cs : List NV}, Tr.repRows n H k i l cs → Tr.repRows n H' k i l cs
  | _, [], _, _ => trivial
  | _, r :: rs, cs, ⟨⟨xs, h1, h2⟩, h3⟩ => ⟨⟨xs, h1, Tr.repCells_ext e h2⟩, Tr.repRows_ext e h3⟩
theorem Tr.repCells_ext {n : Nat} {H H' : Heap} (e : Ext n H H') : ∀ {ts : List Tr} {xs : List NV}, Tr.repCells n H ts xs → Tr.repCells n H' ts xs
  | [], _, h => h
  | t :: ts, xs, ⟨y, ys, h1, h2, h3⟩ => ⟨y, ys, h1, Tr.rep_ext e h2, Tr.repCells_ext e h3⟩
end

mutual
theorem Tr.rep_mono {n m : Nat} (h : m ≤ n) {H : Heap} : ∀ {t : Tr} {x : NV}, t.rep n H x → t.rep m H x
  | .leaf v, x, e => e
  | .any, x, e => e
  | .rows k l, x, e => by
    simp only [Tr.rep] at e ⊢
    rcases e with e | ⟨b, c, cs, ro, h1, h2, h3, h4⟩
    · exact .inl e
    · exact .inr ⟨b, c, cs, ro, h1, by omega, h3, Tr.repRows_mono h h4⟩
theorem Tr.repRows_mono {n m : Nat} (h : m ≤ n) {H : Heap} {k : Nat} : ∀ {i : Nat} {l : List (List Tr)} {cs : List NV}, Tr.repRows n H k i l cs → Tr.repRows m H k i l cs
  | _, [], _, _ => trivial
  | _, r :: rs, cs, ⟨⟨xs, h1, h2⟩, h3⟩ => ⟨⟨xs, h1, Tr.repCells_mono h h2⟩, Tr.repRows_mono h h3⟩
theorem Tr.repCells_mono {n m : Nat} (h : m ≤ n) {H : Heap} : ∀ {ts : List Tr} {xs : List NV}, Tr.repCells n H ts xs → Tr.repCells m H ts xs
  | [], _, e => e
  | t :: ts, xs, ⟨y, ys, h1, h2, h3⟩ => ⟨y, ys, h1, Tr.rep_mono h h2, Tr.repCells_mono h h3⟩
end

theorem Tr.rep_one {n : Nat} {H : Heap} {t : Tr} {x : NV} (h : t.rep n H x) : x.one = true := by
  cases t with
  | leaf v => simp only [Tr.rep] at h; rw [h.1]; exact h.2.1
  | any => simpa only [Tr.rep] using h
  | rows k l =>
    simp only [Tr.rep] at h
    rcases h with ⟨rfl, _⟩ | ⟨_, _, _, _, rfl, _⟩ <;> rfl
theorem Tr.repCells_one {n : Nat} {H : Heap} : ∀ {ts : List Tr} {xs : List NV}, Tr.repCells n H ts xs → xs.all NV.one = true
  | [], _, h => by simp only [Tr.repCells] at h; subst h; rfl
  | t :: ts, xs, ⟨y, ys, h1, h2, h3⟩ => by subst h1; simp [Tr.rep_one h2, Tr.repCells_one h3]
theorem Tr.repCells_length {n : Nat} {H : Heap} : ∀ {ts : List Tr} {xs : List NV}, Tr.repCells n H ts xs → xs.length = ts.length
  | [], _, h => by simp only [Tr.repCells] at h; subst h; rfl
  | t :: ts, xs, ⟨y, ys, h1, h2, h3⟩ => by subst h1; simp [Tr.repCells_length h3]

theorem Tr.repRows_get {n : Nat} {H : Heap} {k : Nat} : ∀ {i : Nat} {l : List (List Tr)} {cs : List NV}, Tr.repRows n H k i l cs → ∀ j (hj : j < l.length), ∃ xs, cut cs ((i + j) * k) k = some xs ∧ Tr.repCells n H l[j] xs
  | _, [], _, _, j, hj => by simp at hj
  | i, r :: rs, cs, ⟨h1, h2⟩, 0, _ => by simpa using h1
  | i, r :: rs, cs, ⟨h1, h2⟩, j + 1, hj => by
    obtain ⟨xs, g1, g2⟩ := Tr.repRows_get h2 j (by simpa using hj)
    exact ⟨xs, by rw [show i + (j + 1) = i + 1 + j by omega]; exact g1, by simpa using g2⟩

/-- A row of a list, as a load finds it. -/
theorem Tr.rep_row {n : Nat} {H : Heap} {k : Nat} {l : List (List Tr)} {cs : List NV} (h : Tr.repRows n H k 0 l cs) {j : Nat} (hj : j < l.length) : ∃ xs, cut cs (j * k) k = some xs ∧ Tr.repCells n H l[j] xs := by
  obtain ⟨xs, h1, h2⟩ := Tr.repRows_get h j hj
  exact ⟨xs, by simpa using h1, h2⟩

theorem rep_any {m : Nat} {H : Heap} {x : NV} : Tr.any.rep m H x = (x.one = true) := by simp only [Tr.rep]
def ti (n : Int) : Tr := .leaf (.int .i64 n)
def tu (n : Int) : Tr := .leaf (.int .u64 n)
def tb (b : Bool) : Tr := .leaf (.bool b)
def ts (s : ByteArray) : Tr := .leaf (.str s)
theorem rep_ti {m : Nat} {H : Heap} {n : Int} {x : NV} : (ti n).rep m H x ↔ x = .int .i64 n := by
  simp only [ti, Tr.rep]; exact ⟨fun h => h.1, fun h => ⟨h, rfl, trivial⟩⟩
theorem rep_tu {m : Nat} {H : Heap} {n : Int} {x : NV} : (tu n).rep m H x ↔ x = .int .u64 n := by
  simp only [tu, Tr.rep]; exact ⟨fun h => h.1, fun h => ⟨h, rfl, trivial⟩⟩
theorem rep_tb {m : Nat} {H : Heap} {n : Bool} {x : NV} : (tb n).rep m H x ↔ x = .bool n := by
  simp only [tb, Tr.rep]; exact ⟨fun h => h.1, fun h => ⟨h, rfl, trivial⟩⟩
theorem rep_ts {m : Nat} {H : Heap} {n : ByteArray} {x : NV} : (ts n).rep m H x ↔ x = .str n := by
  simp only [ts, Tr.rep]; exact ⟨fun h => h.1, fun h => ⟨h, rfl, trivial⟩⟩

/-! ### To show that data lie in a heap -/
def Tr.repFlat (n : Nat) (H : Heap) (k : Nat) : List (List Tr) → List NV → Prop
  | [], _ => True
  | r :: rs, cs => k ≤ cs.length ∧ Tr.repCells n H r (cs.take k) ∧ Tr.repFlat n H k rs (cs.drop k)
theorem Tr.repFlat_rows {n : Nat} {H : Heap} {k : Nat} : ∀ {l : List (List Tr)} {i : Nat} {cs : List NV}, i * k ≤ cs.length → Tr.repFlat n H k l (cs.drop (i * k)) → Tr.repRows n H k i l cs
  | [], _, _, _, _ => trivial
  | r :: rs, i, cs, hi, ⟨h1, h2, h3⟩ => by
    rw [List.length_drop] at h1
    refine ⟨⟨_, ?_, h2⟩, Tr.repFlat_rows (by rw [Nat.succ_mul]; omega) ?_⟩
    · unfold cut; rw [if_pos (by omega)]
    · rw [List.drop_drop] at h3
      rw [Nat.succ_mul]; exact h3
def Tr.repB (n : Nat) (H : Heap) (k : Nat) (l : List (List Tr)) : Option NBlk → Prop
  | some (.cells cs _) => Tr.repFlat n H k l cs
  | _ => False
theorem Tr.repB_cells {n : Nat} {H : Heap} {k : Nat} {l : List (List Tr)} {cs : List NV} {ro : Bool} : Tr.repB n H k l (some (.cells cs ro)) = Tr.repFlat n H k l cs := (rfl)
theorem Tr.repFlat_nil {n : Nat} {H : Heap} {k : Nat} {cs : List NV} : Tr.repFlat n H k [] cs = True := (rfl)
theorem Tr.repFlat_cons {n : Nat} {H : Heap} {k : Nat} {r : List Tr} {rs : List (List Tr)} {cs : List NV} : Tr.repFlat n H k (r :: rs) cs = (k ≤ cs.length ∧ Tr.repCells n H r (cs.take k) ∧ Tr.repFlat n H k rs (cs.drop k)) := (rfl)
theorem Tr.repCells_nil {n : Nat} {H : Heap} : Tr.repCells n H [] [] = True := by simp [Tr.repCells]
theorem Tr.repCells_cons {n : Nat} {H : Heap} {t : Tr} {ts : List Tr} {x : NV} {xs : List NV} : Tr.repCells n H (t :: ts) (x :: xs) = (t.rep n H x ∧ Tr.repCells n H ts xs) := by
  simp only [Tr.repCells, List.cons.injEq, eq_iff_iff]
  constructor
  · rintro ⟨y, ys, ⟨rfl, rfl⟩, h⟩; exact h
  · intro h; exact ⟨_, _, ⟨rfl, rfl⟩, h⟩
theorem Tr.rep_none {n : Nat} {H : Heap} {k : Nat} : (Tr.rows k []).rep n H (.slice none 0 (.fix 0)) = True := by simp [Tr.rep]
theorem Tr.rep_some {n : Nat} {H : Heap} {k : Nat} {l : List (List Tr)} {b m : Nat} {c : Cap} (h : m = l.length ∧ n ≤ b ∧ Tr.repB n H k l (hget H b)) : (Tr.rows k l).rep n H (.slice (some (b, 0)) m c) := by
  obtain ⟨rfl, h2, h3⟩ := h
  unfold Tr.repB at h3
  split at h3
  · rename_i cs ro e
    exact .inr ⟨b, c, cs, ro, rfl, h2, e, Tr.repFlat_rows (by simp) (by simpa using h3)⟩
  · exact h3.elim
theorem Tr.repB_old {n : Nat} {H : Heap} {k : Nat} {l : List (List Tr)} {b : Nat} {x : Option NBlk} (e : hget H b = x) (h : Tr.repB n H k l x) : Tr.repB n H k l (hget H b) := e ▸ h

theorem Tr.rows_repFlat {n : Nat} {H : Heap} {k : Nat} : ∀ {l : List (List Tr)} {i : Nat} {cs : List NV}, Tr.repRows n H k i l cs → Tr.repFlat n H k l (cs.drop (i * k))
  | [], _, _, _ => trivial
  | r :: rs, i, cs, ⟨⟨xs, h1, h2⟩, h3⟩ => by
    unfold cut at h1
    split at h1
    · rename_i hl
      cases h1
      refine ⟨by rw [List.length_drop]; omega, h2, ?_⟩
      have := Tr.rows_repFlat h3
      rw [Nat.succ_mul] at this
      rw [List.drop_drop]; exact this
    · cases h1
theorem Tr.rep_sl {n : Nat} {H : Heap} {k : Nat} {l : List (List Tr)} {b m : Nat} {c : Cap} : (Tr.rows k l).rep n H (.slice (some (b, 0)) m c) = (m = l.length ∧ n ≤ b ∧ Tr.repB n H k l (hget H b)) := by
  rw [eq_iff_iff]
  refine ⟨fun h => ?_, Tr.rep_some⟩
  simp only [Tr.rep] at h
  rcases h with ⟨h, _⟩ | ⟨b', c', cs, ro, h1, h2, h3, h4⟩
  · cases h
  · cases h1
    refine ⟨rfl, h2, ?_⟩
    rw [h3]
    simpa [Tr.repB] using Tr.rows_repFlat h4

theorem Tr.rep_len {n : Nat} {H : Heap} {k : Nat} {l : List (List Tr)} {v : NV} (h : (Tr.rows k l).rep n H v) : ∃ a c, v = .slice a l.length c := by
  simp only [Tr.rep] at h
  rcases h with ⟨rfl, rfl⟩ | ⟨b, c, _, _, rfl, _⟩
  · exact ⟨_, _, rfl⟩
  · exact ⟨_, _, rfl⟩
theorem len_falses {n : Nat} {v : NV} : (List.replicate n [v]).flatten.length = n := by simp
theorem Tr.rep_lt {n : Nat} {H : Heap} {k : Nat} {l : List (List Tr)} {b m : Nat} {c : Cap} (h : (Tr.rows k l).rep n H (.slice (some (b, 0)) m c)) : b < H.length := by
  rw [Tr.rep_sl] at h
  obtain ⟨_, _, h⟩ := h
  unfold Tr.repB at h
  split at h
  · rename_i e
    exact hget_lt e
  · exact h.elim
/-- A block of one row. -/
def RowAt (n : Nat) (g : Heap) (b : Nat) (row : List Tr) : Prop := n ≤ b ∧ ∃ cs, hget g b = some (.cells cs false) ∧ Tr.repCells n g row cs
theorem RowAt.ext {n : Nat} {g g' : Heap} {b : Nat} {row : List Tr} (h : RowAt n g b row) (e : Ext n g g') : RowAt n g' b row := by
  obtain ⟨h1, cs, h2, h3⟩ := h
  exact ⟨h1, cs, e _ _ h1 h2, Tr.repCells_ext e h3⟩

/-- A list of cells that grows, from nothing on. -/
def GrC (h : Heap) (N : Nat) (C : List NV) (e : Nat) (v : NV) : Prop :=
  (C = [] ∧ v = .slice none 0 (.fix 0)) ∨ ∃ b k, v = .slice (some (b, 0)) k (.opn e) ∧ N ≤ b ∧ hget h b = some (.cells C false) ∧ C.length = k * e ∧ 0 < k
theorem GrC.one {h : Heap} {N e : Nat} {C : List NV} {v : NV} (g : GrC h N C e v) : v.one = true := by
  rcases g with ⟨_, rfl⟩ | ⟨_, _, rfl, _⟩ <;> rfl
theorem GrC.ext {h h' : Heap} {N e : Nat} {C : List NV} {v : NV} (g : GrC h N C e v) (x : Ext N h h') : GrC h' N C e v := by
  rcases g with g | ⟨b, k, h1, h2, h3, h4⟩
  · exact .inl g
  · exact .inr ⟨b, k, h1, h2, x _ _ h2 h3, h4⟩
theorem GrC.nil {h : Heap} {N e : Nat} : GrC h N [] e (.slice none 0 (.fix 0)) := .inl ⟨rfl, rfl⟩
theorem grc_app {h : Heap} {N e m bytes : Nat} {C new : List NV} {v x : NV} {K : NV → Heap → Prop} {t : Tg K} (g : GrC h N C e v) (hN : N ≤ h.length) (hx : sliceCells h e x = some new) (hm : lenOfSl x = some m) (h0 : 0 < m) (he : 0 < e) (hnew : new.length = m * e)
    (hC : C.length ≤ 1000) (hm2 : m ≤ 1000) (hb : bytes ≤ 10000)
    (k : ∀ v' h', GrC h' N (C ++ new) e v' → h'.length = h.length + 1 → (∀ b, b < N → hget h' b = hget h b) → K v' h') : optB (nappendS h e bytes v x) K t := by
  have hbm : ∀ a : Nat, a ≤ 2000 → a * bytes ≤ 140737488355328 := fun a ha => Nat.le_trans (Nat.mul_le_mul ha hb) (by omega)
  have hne : new ≠ [] := by
    intro e1
    rw [e1] at hnew
    have := Nat.mul_pos h0 he
    simp at hnew
    omega
  rcases g with ⟨rfl, rfl⟩ | ⟨b, l, rfl, h3, h4, h5, h6⟩
  · refine app_nil hx hm h0 ⟨hbm m (by omega), by omega⟩ (k _ _ (.inr ⟨h.length, m, rfl, hN, by rw [List.nil_append]; exact hget_append_new, by rw [List.nil_append]; exact hnew, h0⟩) (by simp) fun b hb => hget_appl (by omega))
  · have hl : l ≤ C.length := by rw [h5]; exact Nat.le_mul_of_pos_right l he
    have hml : (l + m) * e = C.length + new.length := by rw [Nat.add_mul, h5, hnew]
    have hpos : 0 < new.length := List.length_pos_iff.2 hne
    refine app_grow hx hm h4 hne (by rw [hml]; omega) (by omega) ⟨hbm _ (by omega), by omega⟩ (k _ _ (.inr ⟨h.length, l + m, rfl, hN, ?_, ?_, by omega⟩) (by simp) fun b' hb' => ?_)
    · have := hget_append_new (h := hkill h b) (o := some (NBlk.cells (List.take (l * e) (List.drop 0 C) ++ new) false))
      rw [length_hkill] at this
      rw [this, List.drop_zero, List.take_of_length_le (by omega)]
    · rw [List.length_append, hml]
    · rw [hget_appl (by rw [length_hkill]; omega), hget_hkill_ne (by omega)]
/-- A row more that holds no lists. -/
theorem GrC.rep {h : Heap} {N e : Nat} {C : List NV} {v : NV} {l : List (List Tr)} (g : GrC h N C e v) (he : 0 < e) (hl : l.length * e = C.length) (hr : Tr.repFlat N h e l C) : (Tr.rows e l).rep N h v := by
  rcases g with ⟨rfl, rfl⟩ | ⟨b, k, rfl, h3, h4, h5, h6⟩
  · have : l = [] := by
      cases l with
      | nil => rfl
      | cons a l =>
        rw [List.length_cons, Nat.add_mul] at hl
        simp at hl
        omega
    subst this
    rw [Tr.rep_none]; trivial
  · rw [Tr.rep_sl]
    refine ⟨Nat.eq_of_mul_eq_mul_right he (by omega), h3, ?_⟩
    rw [h4, Tr.repB_cells]; exact hr

end Go.Ns
