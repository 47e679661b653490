/- Sch4, Sch5, Sch6 in one text. -/
import Derived.Test.YtimimfbiejijdaaRCSchX
set_option linter.unusedSimpArgs false
set_option linter.unusedVariables false
set_option maxRecDepth 10000
namespace Go.Proofs
open Go.Ns

theorem TP.row (t : TP) : t.rows.length = 4 ∧ ∀ (j : Nat) (hj : j < t.rows.length), ∃ id nm ks acs d da s r, t.rows[j] = [ti id, ts nm, .rows 3 ks, .rows 1 acs, ti d, .rows 2 da, ti s, ts r] ∧ ks.length ≤ 4 := by
  obtain ⟨d, s1, m2, s2, m3, s3, m4, s4, r1, r2, r3, r4⟩ := t
  refine ⟨rfl, fun j hj => ?_⟩
  match j, hj with
  | 0, _ => exact ⟨_, _, _, _, _, _, _, _, rfl, (show keys1.length ≤ 4 by decide)⟩
  | 1, _ => exact ⟨_, _, _, _, _, _, _, _, rfl, (show (keys2 m2).length ≤ 4 by cases m2 <;> decide)⟩
  | 2, _ => exact ⟨_, _, _, _, _, _, _, _, rfl, (show (keys3 m3).length ≤ 4 by cases m3 <;> decide)⟩
  | 3, _ => exact ⟨_, _, _, _, _, _, _, _, rfl, (show (keys4 m4).length ≤ 4 by cases m4 <;> decide)⟩

/-- The grants of a role, as they grow: only that they are there. -/
def Gr (h : Heap) (n : Nat) (o : Option Nat) (l : Nat) (v : NV) : Prop :=
  (o = none ∧ v = .slice none 0 (.fix 0) ∧ l = 0) ∨ ∃ b cs, o = some b ∧ v = .slice (some (b, 0)) l (.opn 4) ∧ n ≤ b ∧ hget h b = some (.cells cs false) ∧ cs.length = l * 4
theorem Gr.one {h : Heap} {n : Nat} {o : Option Nat} {l : Nat} {v : NV} (g : Gr h n o l v) : v.one = true := by
  rcases g with ⟨_, rfl, _⟩ | ⟨_, _, _, rfl, _⟩ <;> rfl
theorem Gr.mono {h h' : Heap} {n : Nat} {o : Option Nat} {l : Nat} {v : NV} (g : Gr h n o l v) (e : ∀ b, n ≤ b → b < h.length → some b = o → hget h' b = hget h b) : Gr h' n o l v := by
  rcases g with g | ⟨b, cs, h1, h2, h3, h4, h5⟩
  · exact .inl g
  · exact .inr ⟨b, cs, h1, h2, h3, by rw [e b h3 (hget_lt h4) h1.symm]; exact h4, h5⟩
theorem Gr.lt {h : Heap} {n l b : Nat} {v : NV} (g : Gr h n (some b) l v) : n ≤ b ∧ b < h.length := by
  rcases g with ⟨h, _⟩ | ⟨b', cs, h1, h2, h3, h4, h5⟩
  · cases h
  · cases h1; exact ⟨h3, hget_lt h4⟩
theorem splice_length {a b : List NV} {o : Nat} (h : o + b.length ≤ a.length) : (splice a o b).length = a.length := by
  unfold splice; simp; omega
theorem gr_app {h : Heap} {n l : Nat} {o : Option Nat} {v x : NV} {new : List NV} {K : NV → Heap → Prop} {t : Tg K} (g : Gr h n o l v) (hn : n ≤ h.length) (hl : l ≤ 100) (hx : sliceCells h 4 x = some new) (hnew : new.length = 4) (hx1 : lenOfSl x = some 1)
    (k : ∀ h', Gr h' n (some h.length) (l + 1) (.slice (some (h.length, 0)) (l + 1) (.opn 4)) → h'.length = h.length + 1 → (∀ b, b < h.length → some b ≠ o → hget h' b = hget h b) → K (.slice (some (h.length, 0)) (l + 1) (.opn 4)) h') : optB (nappendS h 4 40 v x) K t := by
  rcases g with ⟨rfl, rfl, rfl⟩ | ⟨b, cs, rfl, rfl, h3, h4, h5⟩
  · refine app_nil hx hx1 (by omega) ⟨by omega, by omega⟩ (k _ (.inr ⟨h.length, new, rfl, rfl, hn, hget_append_new, by omega⟩) (by simp) fun b hb _ => hget_appl hb)
  · have h0 : new ≠ [] := by intro e; rw [e] at hnew; cases hnew
    refine app_grow hx hx1 h4 h0 (by omega) (by omega) ⟨by omega, by omega⟩ (k _ (.inr ⟨h.length, List.take (l * 4) (List.drop 0 cs) ++ new, rfl, rfl, hn, ?_, ?_⟩) (by simp) fun b' hb hne => ?_)
    · have := hget_append_new (h := hkill h b) (o := some (NBlk.cells (List.take (l * 4) (List.drop 0 cs) ++ new) false))
      rw [length_hkill] at this; exact this
    · simp only [List.drop_zero, List.length_append, List.length_take, hnew]; omega
    · rw [hget_appl (by rw [length_hkill]; exact hb), hget_hkill_ne (fun e => hne (by rw [e]))]

def rId (k : Nat) : Int := match k with | 0 => 1 | 1 => 2 | _ => 7
def rNm (k : Nat) : ByteArray := match k with | 0 => ⟨#[97, 108, 108]⟩ | 1 => ⟨#[115, 111, 109, 101]⟩ | _ => ⟨#[102, 101, 119]⟩
def rLn (k : Nat) : Nat := match k with | 0 => 6 | 1 => 3 | _ => 1
/-- The cells of role 'k'. -/
def rC (N : Nat) (q2 q3 : Int) (k : Nat) (v : NV) : List NV := [.int .i64 (rId k), .str (rNm k), v, .slice (some (N + 2 * k, 0)) (rLn k) (.fix (rLn k)), .int .i64 (match k with | 0 => 40 | 1 => q2 | _ => q3), .bool (match k with | 0 => true | _ => false)]

theorem rC_0 {N : Nat} {a b : Int} {v : NV} : rC N a b 0 v = [.int .i64 1, .str ⟨#[97, 108, 108]⟩, v, .slice (some (N, 0)) 6 (.fix 6), .int .i64 40, .bool true] := (rfl)
theorem rC_1 {N : Nat} {a b : Int} {v : NV} : rC N a b 1 v = [.int .i64 2, .str ⟨#[115, 111, 109, 101]⟩, v, .slice (some (N + 2, 0)) 3 (.fix 3), .int .i64 a, .bool false] := (rfl)
theorem rC_2 {N : Nat} {a b : Int} {v : NV} : rC N a b 2 v = [.int .i64 7, .str ⟨#[102, 101, 119]⟩, v, .slice (some (N + 4, 0)) 1 (.fix 1), .int .i64 b, .bool false] := (rfl)
/-- The roles under way, in the heap 'h' that came out of 'H'. -/
structure RInv (H : Heap) (p n : Nat) (sl : NV) (q2 q3 x y : Int) (j : Nat) (h : Heap) (v : Nat → NV) (o : Nat → Option Nat) (l : Nat → Nat) : Prop where
  st : CodesSt H h p n sl
  len : H.length + 6 ≤ h.length
  a0 : hget h H.length = some (.cells [.int .i64 1, .int .i64 2, .int .i64 3, .int .i64 4, .int .i64 5, .int .i64 6] false)
  a1 : hget h (H.length + 2) = some (.cells [.int .i64 1, .int .i64 2, .int .i64 x] false)
  a2 : hget h (H.length + 4) = some (.cells [.int .i64 y] false)
  blk : ∀ k, k < 3 → hget h (H.length + (1 + 2 * k)) = some (.cells (rC H.length q2 q3 k (v k)) false)
  gr : ∀ k, k < 3 → Gr h (H.length + 6) (o k) (l k) (v k) ∧ l k ≤ j
  apart : ∀ k k', k < 3 → k' < 3 → k ≠ k' → ∀ b, o k = some b → o k' ≠ some b

theorem RInv.mono {H h h' : Heap} {p n : Nat} {sl : NV} {q2 q3 x y : Int} {j j' : Nat} {v : Nat → NV} {o : Nat → Option Nat} {l : Nat → Nat} (r : RInv H p n sl q2 q3 x y j h v o l) (hp : p < H.length) (e : CodesSt h h' p n sl) (hj : j ≤ j') : RInv H p n sl q2 q3 x y j' h' v o l := by
  have hl := r.len
  refine ⟨r.st.trans e, Nat.le_trans r.len e.len, ?_, ?_, ?_, fun k hk => ?_, fun k hk => ⟨(r.gr k hk).1.mono fun b hb hb' _ => e.old b hb' (by omega), Nat.le_trans (r.gr k hk).2 hj⟩, r.apart⟩
  · rw [e.old _ (by omega) (by omega)]; exact r.a0
  · rw [e.old _ (by omega) (by omega)]; exact r.a1
  · rw [e.old _ (by omega) (by omega)]; exact r.a2
  · rw [e.old _ (by omega) (by omega)]; exact r.blk k hk

/-- A row more for role 'k'. -/
theorem RInv.put {H h h1 : Heap} {p n : Nat} {sl : NV} {q2 q3 x y : Int} {j k : Nat} {v : Nat → NV} {o : Nat → Option Nat} {l : Nat → Nat} {v' : NV} (r : RInv H p n sl q2 q3 x y j h v o l) (hp : p < H.length) (hs : CodesSl H p sl n) (hk : k < 3) (hj : l k + 1 ≤ j)
    (g : Gr h1 (H.length + 6) (some h.length) (l k + 1) v') (hl : h1.length = h.length + 1) (old : ∀ b, b < h.length → some b ≠ o k → hget h1 b = hget h b) :
    RInv H p n sl q2 q3 x y j (hset h1 (H.length + (1 + 2 * k)) (.cells (rC H.length q2 q3 k v') false)) (fun i => if i = k then v' else v i) (fun i => if i = k then some h.length else o i) (fun i => if i = k then l k + 1 else l i) := by
  have hl6 := r.len
  have far : ∀ b, b < H.length + 6 → some b ≠ o k := fun b hb e => by
    have := (r.gr k hk).1
    rw [← e] at this
    have := this.lt
    omega
  have get : ∀ b, b < H.length + 6 → b ≠ H.length + (1 + 2 * k) → hget (hset h1 (H.length + (1 + 2 * k)) (.cells (rC H.length q2 q3 k v') false)) b = hget h b := fun b hb hne => by
    rw [hget_hset_ne (Ne.symm hne), old b (by omega) (far b hb)]
  obtain ⟨a, ha, hb0, hb1⟩ := r.st.st
  refine ⟨⟨by rw [length_hset]; omega, fun b hb hne => by rw [get b (by omega) (by omega)]; exact r.st.old b hb hne, ⟨a, by rw [get p (by omega) (by omega)]; exact ha, hb0, hb1⟩, ?_⟩, by rw [length_hset]; omega, ?_, ?_, ?_, fun i hi => ?_, fun i hi => ?_, ?_⟩
  · rcases hs with h | ⟨b', m, cs, ro, e1, e2, e3, e4⟩
    · exact .inl h
    · have hb := hget_some_lt e2
      exact .inr ⟨b', m, cs, ro, e1, by rw [get b' (by omega) (by omega), r.st.old b' hb e3]; exact e2, e3, e4⟩
  · rw [get _ (by omega) (by omega)]; exact r.a0
  · rw [get _ (by omega) (by omega)]; exact r.a1
  · rw [get _ (by omega) (by omega)]; exact r.a2
  · by_cases e : i = k
    · subst e
      rw [if_pos rfl, hget_hset_same (by omega)]
    · rw [if_neg e, get _ (by omega) (by omega)]; exact r.blk i hi
  · by_cases e : i = k
    · subst e
      simp only [if_pos]
      refine ⟨g.mono fun b hb _ _ => hget_hset_ne (by omega), hj⟩
    · simp only [if_neg e]
      refine ⟨(r.gr i hi).1.mono fun b hb hb' ho => ?_, (r.gr i hi).2⟩
      rw [hget_hset_ne (by omega), old b hb' fun e' => r.apart i k hi hk e b ho.symm e'.symm]
  · intro i i' hi hi' hne b
    split
    · rw [if_neg (by omega)]
      rintro ⟨⟩ e
      have := (r.gr i' hi').1
      rw [e] at this
      have := this.lt
      omega
    · split
      · rintro e ⟨⟩
        have := (r.gr i hi).1
        rw [e] at this
        have := this.lt
        omega
      · exact r.apart i i' hi hi' hne b
/-- The roles within a turn: those from 'k' on have not got their grant yet; the table lies at 'T'. -/
def RSt (H : Heap) (p n : Nat) (sl : NV) (q2 q3 x y : Int) (j T : Nat) (id : Int) (k : Nat) (h : Heap) (v : Nat → NV) (o : Nat → Option Nat) (l : Nat → Nat) : Prop :=
  RInv H p n sl q2 q3 x y (j + 1) h v o l ∧ (∀ i, k ≤ i → i < 3 → l i ≤ j ∧ o i ≠ some T) ∧ H.length + 6 ≤ T ∧ ∃ c0, hget h T = some (.cells (.int .i64 id :: c0) false)

theorem RSt.next {H h h' : Heap} {p n : Nat} {sl : NV} {q2 q3 x y : Int} {j T k k' : Nat} {id : Int} {v : Nat → NV} {o : Nat → Option Nat} {l : Nat → Nat} (r : RSt H p n sl q2 q3 x y j T id k h v o l) (hp : p < H.length) (e : CodesSt h h' p n sl) (hk : k ≤ k') : RSt H p n sl q2 q3 x y j T id k' h' v o l := by
  obtain ⟨h1, h2, h3, c0, h4⟩ := r
  exact ⟨h1.mono hp e (Nat.le_refl _), fun i a b => h2 i (by omega) b, h3, c0, by rw [e.old _ (hget_lt h4) (by omega)]; exact h4⟩

theorem RSt.app {H h : Heap} {p n : Nat} {sl : NV} {q2 q3 x y : Int} {j T k : Nat} {id : Int} {v : Nat → NV} {o : Nat → Option Nat} {l : Nat → Nat} (r : RSt H p n sl q2 q3 x y j T id k h v o l) (hp : p < H.length) (hs : CodesSl H p sl n) (hk : k < 3) (hj : j < 50)
    {z : NV} {new : List NV} {K : NV → Heap → Prop} {t : Tg K} (hx : sliceCells h 4 z = some new) (hnew : new.length = 4) (hx1 : lenOfSl z = some 1)
    (kk : ∀ h1 m v' o' l', h1.length = h.length + 1 → hget h1 (H.length + (1 + 2 * k)) = some (.cells (rC H.length q2 q3 k (v k)) false) → RSt H p n sl q2 q3 x y j T id (k + 1) (hset h1 (H.length + (1 + 2 * k)) (.cells (rC H.length q2 q3 k (.slice (some (h.length, 0)) m (.opn 4))) false)) v' o' l' →
      K (.slice (some (h.length, 0)) m (.opn 4)) h1) : optB (nappendS h 4 40 (v k) z) K t := by
  obtain ⟨inv, fr, hT, c0, gt⟩ := r
  have hl6 := inv.len
  have f := fr k (Nat.le_refl _) hk
  have hTl := hget_some_lt gt
  refine gr_app (inv.gr k hk).1 hl6 (by omega) hx hnew hx1 fun h1 hg hl old => kk h1 (l k + 1) _ _ _ hl ?_ ⟨inv.put hp hs hk (by omega) hg hl old, ?_, hT, c0, ?_⟩
  · rw [old _ (by omega) (fun e => by
      have := (inv.gr k hk).1
      rw [← e] at this
      have := this.lt
      omega)]
    exact inv.blk k hk
  · intro i hi hi3
    rw [if_neg (by omega), if_neg (by omega)]
    exact fr i (by omega) hi3
  · rw [hget_hset_ne (by omega), old _ hTl (Ne.symm f.2)]; exact gt

def rolesOf (x q2 y q3 : Int) : List (List Tr) :=
  [[ti 1, ts ⟨#[97, 108, 108]⟩, .any, .rows 1 [[ti 1], [ti 2], [ti 3], [ti 4], [ti 5], [ti 6]], ti 40, tb true],
   [ti 2, ts ⟨#[115, 111, 109, 101]⟩, .any, .rows 1 [[ti 1], [ti 2], [ti x]], ti q2, tb false],
   [ti 7, ts ⟨#[102, 101, 119]⟩, .any, .rows 1 [[ti y]], ti q3, tb false]]
def RolesOK (rows : List (List Tr)) : Prop :=
  ∃ x q2 y q3, rows = rolesOf x q2 y q3 ∧ 3 ≤ x ∧ x ≤ 5 ∧ 1 ≤ q2 ∧ q2 ≤ 6 ∧ 1 ≤ y ∧ y ≤ 6 ∧ 0 ≤ q3 ∧ q3 ≤ 3

def rolesQ (H : Heap) (p n : Nat) (sl : NV) (q : NV × Heap) : Prop :=
  ∃ rows b cs, q.1 = .slice (some (b, 0)) 3 (.fix 3) ∧ H.length ≤ b ∧ hget q.2 b = some (.cells cs false) ∧ cs.length = 18 ∧ (Tr.rows 6 rows).rep H.length q.2 q.1 ∧ RolesOK rows ∧ CodesSt H q.2 p n sl

set_option maxHeartbeats 4000000 in
theorem roles_ok (H : Heap) (p n N : Nat) (sl v : NV) (t : TP) (hc : CodesSt H H p n sl) (hN : p < N) (hr : (Tr.rows 8 t.rows).rep N H v) : DCall Try.prog 45 [.ptr (some (p, 0)), v] H (rolesQ H p n sl) := by
  obtain ⟨_, _, ⟨a0, hp, hb0, hb1⟩, hs⟩ := hc
  have hpl := hget_some_lt hp
  obtain ⟨hrl, hrow⟩ := t.row
  generalize t.rows = rows at *
  simp only [Tr.rep] at hr
  rcases hr with ⟨_, rfl⟩ | ⟨B, cap, cs, ro, rfl, hB, hBc, hrr⟩
  · cases hrl
  rw [hrl]
  refine call_det E0 rfl mixed t45_ok (by kernel_rfl) (by rintro q ⟨_, _, _, _, _, _, _, _, _, h⟩; exact h.len) ?_
  simp only [t45]
  simp (disch := first | omega | (simp only [fsLen]; omega)) only [↓fsPre, fsPost, fsCond, fsGen, fsDefs, reduceCtorEq, Nat.reduceAdd, Nat.reduceLeDiff, Nat.reduceEqDiff, ↓reduceIte]
  refine callT_D (next_ok _ p n 3 sl a0 (by simp (disch := first | omega | (simp only [fsLen]; omega)) only [fsCond, hp]) (by repeat (first | exact hs | apply CodesSl.app | apply CodesSl.set)) hb0 hb1 (by omega) (by omega)) rfl ?_
  rintro v h' ⟨x1, a1, e, x1a, x1b, hb0, hb1⟩
  cases e
  simp (disch := first | omega | (simp only [fsLen]; omega)) only [↓fsPre, fsPost, fsCond, fsGen, fsDefs, fsDefX, reduceCtorEq, Nat.reduceAdd, Nat.reduceLeDiff, ↓reduceIte]
  refine callT_D (next_ok _ p n 6 sl a1 (by simp (disch := first | omega | (simp only [fsLen]; omega)) only [fsCond]) (by repeat (first | exact hs | apply CodesSl.app | apply CodesSl.set)) hb0 hb1 (by omega) (by omega)) rfl ?_
  rintro v h' ⟨x2, a2, e, x2a, x2b, hb0, hb1⟩
  cases e
  simp (disch := first | omega | (simp only [fsLen]; omega)) only [↓fsPre, fsPost, fsCond, fsGen, fsDefs, fsDefX, reduceCtorEq, Nat.reduceAdd, Nat.reduceLeDiff, Nat.reduceEqDiff, ↓reduceIte]
  refine callT_D (next_ok _ p n 6 sl a2 (by simp (disch := first | omega | (simp only [fsLen]; omega)) only [fsCond]) (by repeat (first | exact hs | apply CodesSl.app | apply CodesSl.set)) hb0 hb1 (by omega) (by omega)) rfl ?_
  rintro v h' ⟨x3, a3, e, x3a, x3b, hb0, hb1⟩
  cases e
  simp (disch := first | omega | (simp only [fsLen]; omega)) only [↓fsPre, fsPost, fsCond, fsGen, fsDefs, fsDefX, reduceCtorEq, Nat.reduceAdd, ↓reduceIte]
  refine callT_D (next_ok _ p n 4 sl a3 (by simp (disch := first | omega | (simp only [fsLen]; omega)) only [fsCond]) (by repeat (first | exact hs | apply CodesSl.app | apply CodesSl.set)) hb0 hb1 (by omega) (by omega)) rfl ?_
  rintro v h' ⟨x4, a4, e, x4a, x4b, hb0, hb1⟩
  cases e
  simp (disch := first | omega | (simp only [fsLen]; omega)) only [↓fsPre, fsPost, fsCond, fsGen, fsDefs, Nat.reduceAdd, Nat.reduceLeDiff, Nat.reduceEqDiff, ↓reduceIte]
  refine wloop (fun j F h => F 0 = .ptr (some (p, 0)) ∧ F 5 = .ptr (some (H.length + 1, 0)) ∧ F 6 = .ptr (some (H.length + 3, 0)) ∧ F 7 = .ptr (some (H.length + 5, 0)) ∧ F 30 = .slice (some (B, 0)) 4 cap ∧ F 31 = .int .i64 4 ∧ F 32 = .int .i64 j ∧
    ∃ v o l, RInv H p n sl (1 + x2) x4 (3 + x1) (1 + x3) j h v o l) 4 ?_ ?_ ?_
  · simp (disch := first | omega | (simp only [fsLen]; omega)) only [↓fsPre, fsGen, reduceCtorEq, Nat.reduceEqDiff, ↓reduceIte]
    refine ⟨fun _ => .slice none 0 (.fix 0), fun _ => none, fun _ => 0, ⟨CodesSt.mk' hpl hb0 hb1 hs, by simp, by simp (disch := first | omega | (simp only [fsLen]; omega)) only [fsPost, fsCond, fsGen], by simp (disch := first | omega | (simp only [fsLen]; omega)) only [fsPost, fsCond, fsGen], by simp (disch := first | omega | (simp only [fsLen]; omega)) only [fsPost, fsCond, fsGen], ?_, ?_, ?_⟩⟩
    · intro k hk
      match k, hk with
      | 0, _ => simp (disch := first | omega | (simp only [fsLen]; omega)) only [fsPost, fsCond, fsGen, Nat.reduceMul]; rfl
      | 1, _ => simp (disch := first | omega | (simp only [fsLen]; omega)) only [fsPost, fsCond, fsGen, Nat.reduceAdd]; rfl
      | 2, _ => simp (disch := first | omega | (simp only [fsLen]; omega)) only [fsPost, fsCond, fsGen, Nat.reduceAdd, Nat.reduceMul]; rfl
    · intro k hk
      exact ⟨.inl ⟨rfl, rfl, rfl⟩, Nat.le_refl _⟩
    · intro k k' _ _ _ b h; cases h
  · rintro j F h hj ⟨f0, f5, f6, f7, f30, f31, f32, v, o, l, inv⟩
    obtain ⟨id, nm, ks, acs, d, da, s, r, hrj, hks⟩ := hrow j (by omega)
    obtain ⟨xs, hcut, hcell⟩ := Tr.rep_row hrr (show j < rows.length by omega)
    rw [hrj] at hcell
    simp only [Tr.repCells, rep_ti, rep_ts] at hcell
    obtain ⟨_, _, rfl, rfl, _, _, rfl, rfl, kv, _, rfl, kr, c1, _, rfl, cr, _, _, rfl, rfl, d1, _, rfl, dr, _, _, rfl, rfl, _, _, rfl, rfl, rfl⟩ := hcell
    have st := inv.st
    have hBl := hget_some_lt hBc
    have hB' : hget h B = some (.cells cs ro) := by rw [st.old B hBl (by omega)]; exact hBc
    obtain ⟨ka, kc, rfl⟩ := Tr.rep_len kr
    have co := Tr.rep_one cr
    have do1 := Tr.rep_one dr
    have hl6 := inv.len
    have hll := inv.st.len
    generalize hK : ks.length = K at *
    simp (disch := first | omega | (simp only [fsLen]; omega)) only [↓fsPre, fsPost, fsCond, fsGen, fsDefs, fsDefX, Nat.reduceAdd, Nat.reduceEqDiff, ↓reduceIte, f30, f31, f32, hB', hcut, co, do1]
    generalize hZ : (List.replicate K [NV.bool false]).flatten = Z
    have hZl : Z.length = K := by rw [← hZ]; exact len_falses
    refine wloop (fun i F g => F 0 = .ptr (some (p, 0)) ∧ F 5 = .ptr (some (H.length + 1, 0)) ∧ F 6 = .ptr (some (H.length + 3, 0)) ∧ F 7 = .ptr (some (H.length + 5, 0)) ∧ F 30 = .slice (some (B, 0)) 4 cap ∧ F 31 = .int .i64 4 ∧ F 32 = .int .i64 j ∧
      F 9 = .ptr (some (h.length, 0)) ∧ F 10 = .slice (some (h.length + 1, 0)) K (.fix K) ∧ F 11 = .slice (some (h.length + 2, 0)) K (.fix K) ∧ F 44 = .slice (some (h.length + 1, 0)) K (.fix K) ∧ F 45 = .int .i64 K ∧ F 46 = .int .i64 i ∧ h.length + 3 ≤ g.length ∧ CodesSt h g p n sl ∧
      ∃ y1 y2 c0, hget g h.length = some (.cells (.int .i64 id :: c0) false) ∧ hget g (h.length + 1) = some (.cells y1 false) ∧ hget g (h.length + 2) = some (.cells y2 false) ∧ y1.length = K ∧ y2.length = K) K ?_ ?_ ?_
    · simp (disch := first | omega | (simp only [fsLen]; omega)) only [↓fsPre, fsPost, fsCond, fsGen, reduceCtorEq, Nat.reduceAdd, Nat.reduceEqDiff, ↓reduceIte, f0, f5, f6, f7, f30, f31, f32]
      exact ⟨inv.st.self.app0, _, _, _, rfl, rfl, rfl, hZl, hZl⟩
    · rintro i F g hi ⟨f0, f5, f6, f7, f30, f31, f32, f9, f10, f11, f44, f45, f46, hgl, stg, y1, y2, c0, gt, g1, g2, l1, l2⟩
      have stg0 := stg
      obtain ⟨_, _, ⟨a5, hp5, hb0, hb1⟩, hs5⟩ := stg
      have hpg := hget_some_lt hp5
      have np0 : h.length ≠ p := by omega
      have np1 : h.length + 1 ≠ p := by omega
      have np2 : h.length + 2 ≠ p := by omega
      simp (disch := first | omega | (simp only [fsLen]; omega)) only [↓fsPre, fsPost, fsCond, fsGen, fsDefX, reduceCtorEq, Nat.reduceEqDiff, ↓reduceIte, f0, f10, f11, f45, f46]
      refine callT_D (next_ok _ p n 4 sl a5 (by simp (disch := first | omega | (simp only [fsLen]; omega)) only [hp5]) (by repeat (first | exact hs5 | apply CodesSl.app | apply CodesSl.set)) hb0 hb1 (by omega) (by omega)) rfl ?_
      rintro v h' ⟨x6, a6, e, x6a, x6b, hb0, hb1⟩
      cases e
      simp (disch := first | omega | (simp only [fsLen]; omega)) only [↓fsPre, fsPost, fsCond, fsGen, fsDefs, fsDefX, reduceCtorEq, Nat.reduceEqDiff, ↓reduceIte, f0, f5, f6, f7, f30, f31, f32, f9, f10, f11, f44, f45, f46, gt, g1, g2]
      exact ⟨hgl, ((stg0.next hb0 hb1).setAt inv.st.cs (by omega) np1).setAt inv.st.cs (by omega) np2, _, _, _, rfl, rfl, rfl, by rw [splice_length (by simp; omega)]; exact l1, by rw [splice_length (by simp; omega)]; exact l2⟩
    · rintro F g ⟨f0, f5, f6, f7, f30, f31, f32, f9, f10, f11, f44, f45, f46, hgl, stg, y1, y2, c0, gt, g1, g2, l1, l2⟩
      have r : RSt H p n sl (1 + x2) x4 (3 + x1) (1 + x3) j h.length id 0 g v o l := ⟨inv.mono hpl stg (Nat.le_succ j), fun i _ hi => ⟨(inv.gr i hi).2, fun e => by
        have := (inv.gr i hi).1
        rw [e] at this
        have := this.lt
        omega⟩, hl6, c0, gt⟩
      clear g1 g2 l1 l2 stg hcut do1 co gt inv c0
      have r0 := r
      obtain ⟨inv, _, _, c0, gt⟩ := r0
      have b0 := inv.blk 0 (by omega)
      have o0 := (inv.gr 0 (by omega)).1.one
      rw [rC_0] at b0
      simp (disch := first | omega | (simp only [fsLen]; omega)) only [↓fsPre, fsPost, fsGen, fsDefs, fsDefX, Nat.reduceAdd, Nat.reduceLeDiff, Nat.reduceEqDiff, ↓reduceIte, f5, f9, f10, f45, f46, gt, b0]
      refine (r.next (h' := g ++ _) hpl inv.st.self.app0 (Nat.le_refl _)).app hpl hs (by omega) (by omega) (sliceCells_at (by simp (disch := first | omega | (simp only [fsLen]; omega)) only [fsPost, fsCond, fsGen] <;> rfl) rfl) rfl rfl ?_
      clear r gt b0 o0 inv
      intro h1 m v o l hl1 b1 r
      rw [rC_0] at b1 r
      simp (disch := first | omega | (simp only [fsLen]; omega)) only [↓fsPre, fsPost, fsGen, fsDefs, reduceCtorEq, Nat.reduceAdd, Nat.reduceLeDiff, Nat.reduceEqDiff, ↓reduceIte, f0, f5, b1]
      simp (disch := first | omega | (simp only [fsLen]; omega)) only [fsGen, Nat.reduceMul] at r
      generalize hset h1 _ _ = g2 at r ⊢
      have st2 := r.1.st
      obtain ⟨l1, _, ⟨a7, hp7, hb0, hb1⟩, hs7⟩ := st2
      have hpg := hget_some_lt hp7
      refine callT_D (next_ok _ p n 4 sl a7 (by simp (disch := first | omega | (simp only [fsLen]; omega)) only [hp7]) (by repeat (first | exact hs7 | apply CodesSl.app | apply CodesSl.set)) hb0 hb1 (by omega) (by omega)) rfl ?_
      rintro v h' ⟨x8, a8, e, x8a, x8b, hb0, hb1⟩
      cases e
      simp (disch := first | omega | (simp only [fsLen]; omega)) only [↓fsPre, fsPost, fsDefs, fsDefX, ↓reduceIte]
      refine condK_join (fun F g => F 0 = .ptr (some (p, 0)) ∧ F 5 = .ptr (some (H.length + 1, 0)) ∧ F 6 = .ptr (some (H.length + 3, 0)) ∧ F 7 = .ptr (some (H.length + 5, 0)) ∧ F 30 = .slice (some (B, 0)) 4 cap ∧ F 31 = .int .i64 4 ∧ F 32 = .int .i64 j ∧ F 9 = .ptr (some (h.length, 0)) ∧ (∃ a b c, F 10 = .slice a b c) ∧ (∃ a b c, F 11 = .slice a b c) ∧ ∃ v o l, RSt H p n sl (1 + x2) x4 (3 + x1) (1 + x3) j h.length id 2 g v o l) ?_ ?_ ?_
      · intro hx
        have r0 := r
        obtain ⟨inv, _, hT6, c0, gt⟩ := r0
        have b0 := inv.blk 1 (by omega)
        have o0 := (inv.gr 1 (by omega)).1.one
        have hl6 := inv.len
        have hTp : h.length ≠ p := by omega
        have hTl := hget_some_lt gt
        rw [rC_1] at b0
        simp (disch := first | omega | (simp only [fsLen]; omega)) only [fsGen, Nat.reduceAdd] at b0
        simp (disch := first | omega | (simp only [fsLen]; omega)) only [↓fsPre, fsPost, fsCond, fsGen, fsDefs, cls, reduceCtorEq, Nat.reduceAdd, Nat.reduceEqDiff, ↓reduceIte, f0, f6, f9, gt, b0]
        refine callDT_D (next_ok _ p n 4 sl a8 (by simp (disch := first | omega | (simp only [fsLen]; omega)) only [fsCond]) (by repeat (first | exact hs7 | apply CodesSl.app | apply CodesSl.set)) hb0 hb1 (by omega) (by omega)) rfl ?_
        rintro v h' ⟨x11, a11, e, x11a, x11b, hb0, hb1⟩
        cases e
        simp (disch := first | omega | (simp only [fsLen]; omega)) only [↓fsPre, fsPost, fsCond, fsGen, fsDefs, fsDefX, cls, reduceCtorEq, Nat.reduceBEq, ↓reduceIte, f0]
        refine callDT_D (bool_ok _ p n sl a11 (by simp (disch := first | omega | (simp only [fsLen]; omega)) only [fsCond]) (by repeat (first | exact hs7 | apply CodesSl.app | apply CodesSl.set)) hb0 hb1) rfl ?_
        rintro v h' ⟨y12, a12, e, hb0, hb1⟩
        cases e
        simp (disch := first | omega | (simp only [fsLen]; omega)) only [↓fsPre, fsPost, fsCond, fsGen, fsDefs, cls, Nat.reduceAdd, Nat.reduceLeDiff, Nat.reduceEqDiff, Nat.reduceBEq, ↓reduceIte, f11]
        refine (r.next (h' := hset _ p _ ++ _) (k' := 1) hpl (CodesSt.mk' hpg hb0 hb1 hs7) (Nat.le_refl _)).app hpl hs (by omega) (by omega) (sliceCells_at (by simp (disch := first | omega | (simp only [fsLen]; omega)) only [fsPost, fsCond, fsGen] <;> rfl) rfl) rfl rfl ?_
        intro h1 m v' o' l' hl1 b1 r1
        rw [rC_1] at b1 r1
        simp (disch := first | omega | (simp only [fsLen]; omega)) only [fsPost, fsGen, Nat.reduceAdd] at b1 r1 hl1
        simp (disch := first | omega | (simp only [fsLen]; omega)) only [↓fsPre, fsPost, fsCond, fsGen, fsDefs, cls, reduceCtorEq, Nat.reduceAdd, Nat.reduceLeDiff, Nat.reduceEqDiff, Nat.reduceBEq, ↓reduceIte, f0, f5, f6, f7, f30, f31, f32, f9, f10, f11, b1, b0, gt, hl1]
        exact ⟨⟨_, _, _, rfl⟩, ⟨_, _, _, rfl⟩, _, _, _, r1⟩
      · intro hx
        simp (disch := first | omega | (simp only [fsLen]; omega)) only [↓fsPre, fsPost, fsGen, reduceCtorEq, Nat.reduceEqDiff, ↓reduceIte, f0, f5, f6, f7, f30, f31, f32, f9, f10, f11]
        exact ⟨⟨_, _, _, rfl⟩, ⟨_, _, _, rfl⟩, _, _, _, r.next hpl (r.1.st.self.next hb0 hb1) (by omega)⟩
      clear r hp7 hs7 f0 f5 f6 f7 f30 f31 f32 f9 f10 f11 v o l
      rintro F g ⟨f0, f5, f6, f7, f30, f31, f32, f9, ⟨_, _, _, f10⟩, ⟨_, _, _, f11⟩, v, o, l, r⟩
      have st2 := r.1.st
      obtain ⟨l1, _, ⟨a9, hp7, hb0, hb1⟩, hs7⟩ := st2
      have hpg := hget_some_lt hp7
      simp (disch := first | omega | (simp only [fsLen]; omega)) only [↓fsPre, fsPost, fsGen, ↓reduceIte, f0]
      refine callT_D (bool_ok _ p n sl a9 (by simp (disch := first | omega | (simp only [fsLen]; omega)) only [hp7]) (by repeat (first | exact hs7 | apply CodesSl.app | apply CodesSl.set)) hb0 hb1) rfl ?_
      rintro v h' ⟨y10, a10, e, hb0, hb1⟩
      cases e
      simp (disch := first | omega | (simp only [fsLen]; omega)) only [↓fsPre, ↓reduceIte]
      refine condK_joinK (fun F g => F 0 = .ptr (some (p, 0)) ∧ F 5 = .ptr (some (H.length + 1, 0)) ∧ F 6 = .ptr (some (H.length + 3, 0)) ∧ F 7 = .ptr (some (H.length + 5, 0)) ∧ F 30 = .slice (some (B, 0)) 4 cap ∧ F 31 = .int .i64 4 ∧ F 32 = .int .i64 j ∧ F 9 = .ptr (some (h.length, 0)) ∧ (∃ a b c, F 10 = .slice a b c) ∧ (∃ a b c, F 11 = .slice a b c) ∧ ∃ v o l, RSt H p n sl (1 + x2) x4 (3 + x1) (1 + x3) j h.length id 3 g v o l) ?_ ?_ ?_
      · intro hx
        have r0 := r
        obtain ⟨inv, _, hT6, c0, gt⟩ := r0
        have b0 := inv.blk 2 (by omega)
        have o0 := (inv.gr 2 (by omega)).1.one
        have hl6 := inv.len
        have hTp : h.length ≠ p := by omega
        have hTl := hget_some_lt gt
        rw [rC_2] at b0
        simp (disch := first | omega | (simp only [fsLen]; omega)) only [Nat.reduceAdd, Nat.reduceMul] at b0
        simp (disch := first | omega | (simp only [fsLen]; omega)) only [↓fsPre, fsPost, fsCond, fsGen, fsDefs, cls, reduceCtorEq, Nat.reduceAdd, Nat.reduceEqDiff, ↓reduceIte, f0, f7, f9, gt, b0]
        refine callDT_D (bool_ok _ p n sl a10 (by simp (disch := first | omega | (simp only [fsLen]; omega)) only [fsCond]) (by repeat (first | exact hs7 | apply CodesSl.app | apply CodesSl.set)) hb0 hb1) rfl ?_
        rintro v h' ⟨y11, a11, e, hb0, hb1⟩
        cases e
        simp (disch := first | omega | (simp only [fsLen]; omega)) only [↓fsPre, fsPost, fsCond, fsGen, cls, reduceCtorEq, Nat.reduceBEq, ↓reduceIte, f0]
        refine callDT_D (bool_ok _ p n sl a11 (by simp (disch := first | omega | (simp only [fsLen]; omega)) only [fsCond]) (by repeat (first | exact hs7 | apply CodesSl.app | apply CodesSl.set)) hb0 hb1) rfl ?_
        rintro v h' ⟨y12, a12, e, hb0, hb1⟩
        cases e
        simp (disch := first | omega | (simp only [fsLen]; omega)) only [↓fsPre, fsPost, fsCond, fsGen, fsDefs, cls, Nat.reduceAdd, Nat.reduceLeDiff, Nat.reduceEqDiff, Nat.reduceBEq, ↓reduceIte, f10]
        refine (r.next (h' := hset _ p _ ++ _) (k' := 2) hpl (CodesSt.mk' hpg hb0 hb1 hs7) (Nat.le_refl _)).app hpl hs (by omega) (by omega) (sliceCells_at (by simp (disch := first | omega | (simp only [fsLen]; omega)) only [fsPost, fsCond, fsGen] <;> rfl) rfl) rfl rfl ?_
        intro h1 m v' o' l' hl1 b1 r1
        rw [rC_2] at b1 r1
        simp (disch := first | omega | (simp only [fsLen]; omega)) only [fsPost, fsGen, Nat.reduceAdd, Nat.reduceMul] at b1 r1 hl1
        simp (disch := first | omega | (simp only [fsLen]; omega)) only [↓fsPre, fsPost, fsCond, fsGen, fsDefs, cls, reduceCtorEq, Nat.reduceAdd, Nat.reduceLeDiff, Nat.reduceEqDiff, Nat.reduceBEq, ↓reduceIte, f0, f5, f6, f7, f30, f31, f32, f9, f10, f11, b1, b0, gt, hl1]
        exact ⟨⟨_, _, _, rfl⟩, ⟨_, _, _, rfl⟩, _, _, _, r1⟩
      · intro hx
        simp (disch := first | omega | (simp only [fsLen]; omega)) only [↓fsPre, fsPost, fsGen, reduceCtorEq, Nat.reduceEqDiff, ↓reduceIte, f0, f5, f6, f7, f30, f31, f32, f9, f10, f11]
        exact ⟨⟨_, _, _, rfl⟩, ⟨_, _, _, rfl⟩, _, _, _, r.next hpl (r.1.st.self.next hb0 hb1) (by omega)⟩
      clear r hp7 hs7 f0 f5 f6 f7 f30 f31 f32 f9 f10 f11 v o l
      rintro F g ⟨f0, f5, f6, f7, f30, f31, f32, f9, ⟨_, _, _, f10⟩, ⟨_, _, _, f11⟩, v, o, l, r⟩
      simp (disch := first | omega | (simp only [fsLen]; omega)) only [↓fsPre, fsPost, fsCond, fsGen, fsDefX, reduceCtorEq, Nat.reduceEqDiff, ↓reduceIte, f0, f5, f6, f7, f30, f31, f32]

      exact ⟨_, _, _, r.1⟩
  · rintro F h ⟨f0, f5, f6, f7, f30, f31, f32, v, o, l, inv⟩
    have b0 := inv.blk 0 (by omega)
    have b1 := inv.blk 1 (by omega)
    have b2 := inv.blk 2 (by omega)
    have o0 := (inv.gr 0 (by omega)).1.one
    have o1 := (inv.gr 1 (by omega)).1.one
    have o2 := (inv.gr 2 (by omega)).1.one
    have hl6 := inv.len
    rw [rC_0] at b0
    rw [rC_1] at b1
    rw [rC_2] at b2
    simp (disch := first | omega | (simp only [fsLen]; omega)) only [fsGen, Nat.reduceAdd, Nat.reduceMul] at b0 b1 b2
    simp (disch := first | omega | (simp only [fsLen]; omega)) only [↓fsPre, fsPost, fsGen, fsDefs, fsDefX, Nat.reduceAdd, Nat.reduceLeDiff, Nat.reduceEqDiff, ↓reduceIte, f5, f6, f7, f31, f32, b0, b1, b2, o0, o1, o2]
    refine ⟨rolesOf (3 + x1) (1 + x2) (1 + x3) x4, h.length, _, rfl, by omega, by simp (disch := first | omega | (simp only [fsLen]; omega)) only [fsPost, fsCond, fsGen] <;> rfl, rfl, ?_, ⟨_, _, _, _, rfl, by omega, by omega, by omega, by omega, by omega, by omega, by omega, by omega⟩, inv.st.app0⟩
    have i0 := inv.a0
    have i1 := inv.a1
    have i2 := inv.a2
    simp (disch := first | omega | (simp only [fsLen]; omega)) only [fsPost, fsCond, fsGen, fsDefs, Nat.reduceAdd, Nat.reduceLeDiff, Tr.rep_sl, Tr.repB_cells, Tr.repFlat_nil, Tr.repFlat_cons, Tr.repCells_nil, Tr.repCells_cons, rep_ti, rep_tb, rep_ts, rep_any, rolesOf, i0, i1, i2, o0, o1, o2]
    all_goals omega

def fieldRows : List (List Tr) := [[ti 1, ts ⟨#[105, 110, 103, 114, 101, 115, 115]⟩, ti 16], [ti 2, ts ⟨#[101, 103, 114, 101, 115, 115]⟩, ti 16], [ti 3, ts ⟨#[109, 101, 116, 97]⟩, ti 8], [ti 4, ts ⟨#[97]⟩, ti 4], [ti 5, ts ⟨#[98]⟩, ti 4], [ti 6, ts ⟨#[101]⟩, ti 8], [ti 7, ts ⟨#[100]⟩, ti 32], [ti 8, ts ⟨#[102]⟩, ti 12], [ti 9, ts ⟨#[103]⟩, ti 4]]
def headerRows : List (List Tr) := [[ti 1, ts ⟨#[111, 110, 101]⟩, .rows 1 [[ti 4], [ti 5], [ti 6]]], [ti 2, ts ⟨#[116, 119, 111]⟩, .rows 1 [[ti 7]]], [ti 3, ts ⟨#[116, 104, 114, 101, 101]⟩, .rows 1 [[ti 8], [ti 9]]]]
def stageRows (x : Bool) : List (List Tr) := [[ti 1, ti 1], [ti 2, ti 2], [ti 3, ti 0], [ti 4, ti 3]] ++ if x then [[ti 1, ti 0]] else []
def ref6 (a b c : Int) : List NV := [.int .i64 a, .int .i64 b, .int .i64 c, .int .i64 0, .int .i64 1, .int .i64 0]
def refCells (x y z : Bool) : List NV := (if x then ref6 2 0 4 else []) ++ ((if y then ref6 3 2 0 else []) ++ (if z then ref6 4 1 0 ++ ref6 4 0 5 else []))
def refT (a b c : Int) : List Tr := [ti a, ti b, ti c, ti 0, ti 1, ti 0]
def refRows (x y z : Bool) : List (List Tr) := (if x then [refT 2 0 4] else []) ++ ((if y then [refT 3 2 0] else []) ++ (if z then [refT 4 1 0, refT 4 0 5] else []))

/-- The ten cells of a schema. -/
structure SchemaOK (row : List Tr) (t : TP) (x y z w : Bool) (mb bud : Int) (sts acs rls : List (List Tr)) : Prop where
  row : row = [.rows 3 fieldRows, .rows 3 headerRows, .rows 5 sts, .rows 5 acs, .rows 8 t.rows, .rows 2 (stageRows w), .rows 6 rls, .rows 6 (refRows x y z), ti mb, ti bud]
  states : StatesOK sts
  actions : ActionsOK acs
  tables : t.OK
  roles : RolesOK rls
  y : y = true → t.m3 = true
  z : z = true → t.m4 = true
  mb : 2 ≤ mb ∧ mb ≤ 9
  bud : 12 ≤ bud ∧ bud ≤ 41

def schemaQ (H : Heap) (p n : Nat) (sl : NV) (q : NV × Heap) : Prop :=
  ∃ cs row t x y z w mb bud sts acs rls b rcs, q.1 = .agg cs ∧ cs[6]? = some (.slice (some (b, 0)) 3 (.fix 3)) ∧ H.length ≤ b ∧ hget q.2 b = some (.cells rcs false) ∧ rcs.length = 18 ∧ (∀ v ∈ cs.take 5, ∀ b' m c, v = .slice (some (b', 0)) m c → b' < b) ∧ Tr.repCells H.length q.2 row cs ∧ SchemaOK row t x y z w mb bud sts acs rls ∧ CodesSt H q.2 p n sl

set_option maxHeartbeats 4000000 in
theorem schema_ok (H : Heap) (p n : Nat) (sl : NV) (hc : CodesSt H H p n sl) : DCall Try.prog 28 [.ptr (some (p, 0))] H (schemaQ H p n sl) := by
  obtain ⟨_, _, ⟨a0, hp, hb0, hb1⟩, hs⟩ := hc
  have hpl := hget_some_lt hp
  refine call_det E0 rfl mixed t28_ok (by kernel_rfl) (by rintro q ⟨_, _, _, _, _, _, _, _, _, _, _, _, _, _, _, _, _, _, _, _, _, _, h⟩; exact h.len) ?_
  simp only [t28]
  simp (disch := first | omega | (simp only [fsLen]; omega)) only [↓fsPre, fsPost, fsGen, reduceCtorEq, ↓reduceIte]
  refine callT_D (next_ok _ p n 8 sl a0 (by simp (disch := first | omega | (simp only [fsLen]; omega)) only [fsCond, hp]) (by repeat (first | exact hs | apply CodesSl.app | apply CodesSl.set)) hb0 hb1 (by omega) (by omega)) rfl ?_
  rintro v h' ⟨x1, a1, e, x1a, x1b, hb0, hb1⟩
  cases e
  simp (disch := first | omega | (simp only [fsLen]; omega)) only [↓fsPre, fsPost, fsCond, fsGen, fsDefX, reduceCtorEq, ↓reduceIte]
  refine callT_D (next_ok _ p n 30 sl a1 (by simp (disch := first | omega | (simp only [fsLen]; omega)) only [fsCond]) (by repeat (first | exact hs | apply CodesSl.app | apply CodesSl.set)) hb0 hb1 (by omega) (by omega)) rfl ?_
  rintro v h' ⟨x2, a2, e, x2a, x2b, hb0, hb1⟩
  cases e
  simp (disch := first | omega | (simp only [fsLen]; omega)) only [↓fsPre, fsPost, fsCond, fsGen, fsDefs, fsDefX, reduceCtorEq, Nat.reduceAdd, Nat.reduceLeDiff, Nat.reduceEqDiff, ↓reduceIte]
  refine callT_D (states_ok _ p n sl (CodesSt.mk' hpl hb0 hb1 hs).self) rfl ?_
  rintro v1 g1 ⟨sts, rep1, ok1, st1⟩
  have st1 : CodesSt _ g1 p n sl := st1
  have rep1 : (Tr.rows 5 sts).rep _ g1 v1 := rep1
  have st := (CodesSt.mk' hpl hb0 hb1 hs).trans st1
  have n0 : H.length ≠ p := by omega
  have n1 : H.length + 1 ≠ p := by omega
  have k0 : hget g1 H.length = some (.cells [.slice none 0 (.fix 0), .slice none 0 (.fix 0), .slice none 0 (.fix 0), .slice none 0 (.fix 0), .slice none 0 (.fix 0), .slice none 0 (.fix 0), .slice none 0 (.fix 0), .slice none 0 (.fix 0), .int .i64 0, .int .i64 0] false) := by
    rw [st1.old _ (by simp only [List.length_append, length_hset, List.length_cons, List.length_nil]; omega) (by omega)]; simp (disch := first | omega | (simp only [fsLen]; omega)) only [fsPost, fsCond, fsGen]
  have k1 : hget g1 (H.length + 1) = some (.cells [.slice (some (H.length + 2, 0)) 9 (.fix 9), .slice (some (H.length + 6, 0)) 3 (.fix 3), .slice none 0 (.fix 0), .slice none 0 (.fix 0), .slice none 0 (.fix 0), .slice none 0 (.fix 0), .slice none 0 (.fix 0), .slice none 0 (.fix 0), .int .i64 (2 + x1), .int .i64 (12 + x2)] false) := by
    rw [st1.old _ (by simp only [List.length_append, length_hset, List.length_cons, List.length_nil]; omega) (by omega)]; simp (disch := first | omega | (simp only [fsLen]; omega)) only [fsPost, fsCond, fsGen]
  have ext1 := (st1.ext).mono (show p + 1 ≤ H.length + 2 by omega)
  have hF : (Tr.rows 3 fieldRows).rep (H.length + 2) g1 (.slice (some (H.length + 2, 0)) 9 (.fix 9)) := by
    refine Tr.rep_ext ext1 ?_
    simp (disch := first | omega | (simp only [fsLen]; omega)) only [fsPost, fsCond, fsGen, Nat.reduceAdd, Nat.reduceLeDiff, Tr.rep_sl, Tr.repB_cells, Tr.repFlat_nil, Tr.repFlat_cons, Tr.repCells_nil, Tr.repCells_cons, rep_ti, rep_ts, fieldRows]
  have hH : (Tr.rows 3 headerRows).rep (H.length + 2) g1 (.slice (some (H.length + 6, 0)) 3 (.fix 3)) := by
    refine Tr.rep_ext ext1 ?_
    simp (disch := first | omega | (simp only [fsLen]; omega)) only [fsPost, fsCond, fsGen, Nat.reduceAdd, Nat.reduceLeDiff, Tr.rep_sl, Tr.repB_cells, Tr.repFlat_nil, Tr.repFlat_cons, Tr.repCells_nil, Tr.repCells_cons, rep_ti, rep_ts, headerRows]
    all_goals omega
  have rep1 : (Tr.rows 5 sts).rep (H.length + 2) g1 v1 := Tr.rep_mono (by simp only [List.length_append, length_hset, List.length_cons, List.length_nil]; omega) rep1
  clear st1 ext1
  have hg1 := st.len
  simp (disch := first | omega | (simp only [fsLen]; omega)) only [↓fsPre, fsPost, fsGen, reduceCtorEq, ↓reduceIte]
  refine callT_D (actions_ok g1 p n sl st.self) rfl ?_
  rintro v2 g2 ⟨acs, rep2, ok2, st2⟩
  have st2 : CodesSt _ g2 p n sl := st2
  have rep2 : (Tr.rows 5 acs).rep (H.length + 2) g2 v2 := Tr.rep_mono (by have := hget_some_lt k1; omega) rep2
  simp (disch := first | omega | (simp only [fsLen]; omega)) only [↓fsPre, fsPost, fsGen, reduceCtorEq, ↓reduceIte]
  refine callT_D (tables_ok g2 p n sl st2.self) rfl ?_
  rintro v3 g3 ⟨t, rep3, ok3, st3⟩
  have st3 : CodesSt _ g3 p n sl := st3
  have e13 : Ext (H.length + 2) g1 g3 := ((st2.trans st3).ext).mono (by omega)
  have e23 : Ext (H.length + 2) g2 g3 := (st3.ext).mono (by omega)
  have rep3 : (Tr.rows 8 t.rows).rep (H.length + 2) g3 v3 := Tr.rep_mono (by have := st2.len; have := hget_some_lt k1; omega) rep3
  have hk1 := hget_some_lt k1
  have k0 : hget g3 H.length = some (.cells [.slice none 0 (.fix 0), .slice none 0 (.fix 0), .slice none 0 (.fix 0), .slice none 0 (.fix 0), .slice none 0 (.fix 0), .slice none 0 (.fix 0), .slice none 0 (.fix 0), .slice none 0 (.fix 0), .int .i64 0, .int .i64 0] false) := by rw [(st2.trans st3).old _ (by omega) (by omega)]; exact k0
  have k1 : hget g3 (H.length + 1) = some (.cells [.slice (some (H.length + 2, 0)) 9 (.fix 9), .slice (some (H.length + 6, 0)) 3 (.fix 3), .slice none 0 (.fix 0), .slice none 0 (.fix 0), .slice none 0 (.fix 0), .slice none 0 (.fix 0), .slice none 0 (.fix 0), .slice none 0 (.fix 0), .int .i64 (2 + x1), .int .i64 (12 + x2)] false) := by rw [(st2.trans st3).old _ (by omega) (by omega)]; exact k1
  have w1 := Tr.rep_one rep1
  have w2 := Tr.rep_one rep2
  have w3 := Tr.rep_one rep3
  have hl3 := hget_some_lt k1
  simp (disch := first | omega | (simp only [fsLen]; omega)) only [↓fsPre, fsPost, fsCond, fsGen, fsDefs, reduceCtorEq, Nat.reduceAdd, Nat.reduceLeDiff, Nat.reduceEqDiff, ↓reduceIte, k1, flat_one w1, flat_one w2, flat_one w3, cells_one w1, cells_one w2, cells_one w3]
  have st3' := (st.trans (st2.trans st3)).setAt (b := H.length + 1) (x := .cells [.slice (some (H.length + 2, 0)) 9 (.fix 9), .slice (some (H.length + 6, 0)) 3 (.fix 3), v1, v2, v3, .slice none 0 (.fix 0), .slice none 0 (.fix 0), .slice none 0 (.fix 0), .int .i64 (2 + x1), .int .i64 (12 + x2)] false) hs (by omega) n1
  have e3 : Ext (H.length + 2) g3 (hset g3 (H.length + 1) (.cells [.slice (some (H.length + 2, 0)) 9 (.fix 9), .slice (some (H.length + 6, 0)) 3 (.fix 3), v1, v2, v3, .slice none 0 (.fix 0), .slice none 0 (.fix 0), .slice none 0 (.fix 0), .int .i64 (2 + x1), .int .i64 (12 + x2)] false)) := Ext.set (by omega)
  refine callT_D (roles_ok _ p n (H.length + 2) sl v3 t st3'.self (by omega) (Tr.rep_ext e3 rep3)) rfl ?_
  rintro v4 g4 ⟨rls, rb, rcs, ev4, hrb, hrc, hrl, rep4, ok4, st4⟩
  have hrb3 : g3.length ≤ rb := by rw [length_hset] at hrb; omega
  have apart : ∀ v ∈ [NV.slice (some (H.length + 2, 0)) 9 (.fix 9), .slice (some (H.length + 6, 0)) 3 (.fix 3), v1, v2, v3], ∀ b' m c, v = .slice (some (b', 0)) m c → b' < rb := by
    intro v hv b' m c e
    simp only [List.mem_cons, List.not_mem_nil, or_false] at hv
    have h1 := Tr.rep_ext e13 hF
    have h2 := Tr.rep_ext e13 hH
    have h3 := Tr.rep_ext e13 rep1
    have h4 := Tr.rep_ext e23 rep2
    rcases hv with rfl | rfl | rfl | rfl | rfl
    · have := Tr.rep_lt h1; cases e; omega
    · have := Tr.rep_lt h2; cases e; omega
    · subst e; have := Tr.rep_lt h3; omega
    · subst e; have := Tr.rep_lt h4; omega
    · subst e; have := Tr.rep_lt rep3; omega
  have hrb : H.length + 2 ≤ rb := by rw [length_hset] at hrb; omega
  have hrc : hget g4 rb = some (.cells rcs false) := hrc
  have ev4 : v4 = .slice (some (rb, 0)) 3 (.fix 3) := ev4
  have st4 : CodesSt _ g4 p n sl := st4
  have w4 := Tr.rep_one rep4
  have k0 : hget g4 H.length = some (.cells [.slice none 0 (.fix 0), .slice none 0 (.fix 0), .slice none 0 (.fix 0), .slice none 0 (.fix 0), .slice none 0 (.fix 0), .slice none 0 (.fix 0), .slice none 0 (.fix 0), .slice none 0 (.fix 0), .int .i64 0, .int .i64 0] false) := by rw [st4.old _ (by rw [length_hset]; omega) (by omega), hget_hset_ne (by omega)]; exact k0
  have k1 : hget g4 (H.length + 1) = some (.cells [.slice (some (H.length + 2, 0)) 9 (.fix 9), .slice (some (H.length + 6, 0)) 3 (.fix 3), v1, v2, v3, .slice none 0 (.fix 0), .slice none 0 (.fix 0), .slice none 0 (.fix 0), .int .i64 (2 + x1), .int .i64 (12 + x2)] false) := by rw [st4.old _ (by rw [length_hset]; omega) (by omega), hget_hset_same (by omega)]
  have e4 : Ext (H.length + 2) g3 g4 := e3.trans (st4.ext.mono (by omega))
  have rep4 : (Tr.rows 6 rls).rep (H.length + 2) g4 v4 := Tr.rep_mono (by rw [length_hset]; omega) rep4
  have rep1 := Tr.rep_ext (e13.trans e4) rep1
  have rep2 := Tr.rep_ext (e23.trans e4) rep2
  have rep3 := Tr.rep_ext e4 rep3
  have hF := Tr.rep_ext (e13.trans e4) hF
  have hH := Tr.rep_ext (e13.trans e4) hH
  have st := st3'.trans st4
  clear e13 e23 e3 e4 st3' st4 st3 st2
  have hl4 := hget_some_lt k1
  simp (disch := first | omega | (simp only [fsLen]; omega)) only [↓fsPre, fsPost, fsCond, fsGen, fsDefs, reduceCtorEq, Nat.reduceAdd, Nat.reduceLeDiff, Nat.reduceEqDiff, ↓reduceIte, k1, flat_one w4, cells_one w4]
  have st5 := (st.setAt (b := H.length + 1) (x := .cells [.slice (some (H.length + 2, 0)) 9 (.fix 9), .slice (some (H.length + 6, 0)) 3 (.fix 3), v1, v2, v3, .slice (some (g4.length, 0)) 4 (.fix 4), v4, .slice none 0 (.fix 0), .int .i64 (2 + x1), .int .i64 (12 + x2)] false) hs (by omega) n1).app0 (L := [some (.cells [.int .i64 1, .int .i64 1, .int .i64 2, .int .i64 2, .int .i64 3, .int .i64 0, .int .i64 4, .int .i64 3] false)])
  have e5 : Ext (H.length + 2) g4 (hset g4 (H.length + 1) (.cells [.slice (some (H.length + 2, 0)) 9 (.fix 9), .slice (some (H.length + 6, 0)) 3 (.fix 3), v1, v2, v3, .slice (some (g4.length, 0)) 4 (.fix 4), v4, .slice none 0 (.fix 0), .int .i64 (2 + x1), .int .i64 (12 + x2)] false) ++ [some (.cells [.int .i64 1, .int .i64 1, .int .i64 2, .int .i64 2, .int .i64 3, .int .i64 0, .int .i64 4, .int .i64 3] false)]) := Ext.sets (by omega)
  have k1 : hget (hset g4 (H.length + 1) (.cells [.slice (some (H.length + 2, 0)) 9 (.fix 9), .slice (some (H.length + 6, 0)) 3 (.fix 3), v1, v2, v3, .slice (some (g4.length, 0)) 4 (.fix 4), v4, .slice none 0 (.fix 0), .int .i64 (2 + x1), .int .i64 (12 + x2)] false) ++ [some (.cells [.int .i64 1, .int .i64 1, .int .i64 2, .int .i64 2, .int .i64 3, .int .i64 0, .int .i64 4, .int .i64 3] false)]) (H.length + 1) = some (.cells [.slice (some (H.length + 2, 0)) 9 (.fix 9), .slice (some (H.length + 6, 0)) 3 (.fix 3), v1, v2, v3, .slice (some (g4.length, 0)) 4 (.fix 4), v4, .slice none 0 (.fix 0), .int .i64 (2 + x1), .int .i64 (12 + x2)] false) := by simp (disch := first | omega | (simp only [fsLen]; omega)) only [fsCond]
  have k0 : hget (hset g4 (H.length + 1) (.cells [.slice (some (H.length + 2, 0)) 9 (.fix 9), .slice (some (H.length + 6, 0)) 3 (.fix 3), v1, v2, v3, .slice (some (g4.length, 0)) 4 (.fix 4), v4, .slice none 0 (.fix 0), .int .i64 (2 + x1), .int .i64 (12 + x2)] false) ++ [some (.cells [.int .i64 1, .int .i64 1, .int .i64 2, .int .i64 2, .int .i64 3, .int .i64 0, .int .i64 4, .int .i64 3] false)]) H.length = some (.cells [.slice none 0 (.fix 0), .slice none 0 (.fix 0), .slice none 0 (.fix 0), .slice none 0 (.fix 0), .slice none 0 (.fix 0), .slice none 0 (.fix 0), .slice none 0 (.fix 0), .slice none 0 (.fix 0), .int .i64 0, .int .i64 0] false) := by simp (disch := first | omega | (simp only [fsLen]; omega)) only [fsCond, k0]
  have rS : (Tr.rows 2 (stageRows false)).rep (H.length + 2) (hset g4 (H.length + 1) (.cells [.slice (some (H.length + 2, 0)) 9 (.fix 9), .slice (some (H.length + 6, 0)) 3 (.fix 3), v1, v2, v3, .slice (some (g4.length, 0)) 4 (.fix 4), v4, .slice none 0 (.fix 0), .int .i64 (2 + x1), .int .i64 (12 + x2)] false) ++ [some (.cells [.int .i64 1, .int .i64 1, .int .i64 2, .int .i64 2, .int .i64 3, .int .i64 0, .int .i64 4, .int .i64 3] false)]) (.slice (some (g4.length, 0)) 4 (.fix 4)) := by
    simp (disch := first | omega | (simp only [fsLen]; omega)) only [fsPost, fsCond, fsGen, Nat.reduceAdd, Nat.reduceLeDiff, ↓reduceIte, Tr.rep_sl, Tr.repB_cells, Tr.repFlat_nil, Tr.repFlat_cons, Tr.repCells_nil, Tr.repCells_cons, rep_ti, stageRows]
    all_goals omega
  have hS : hget (hset g4 (H.length + 1) (.cells [.slice (some (H.length + 2, 0)) 9 (.fix 9), .slice (some (H.length + 6, 0)) 3 (.fix 3), v1, v2, v3, .slice (some (g4.length, 0)) 4 (.fix 4), v4, .slice none 0 (.fix 0), .int .i64 (2 + x1), .int .i64 (12 + x2)] false) ++ [some (.cells [.int .i64 1, .int .i64 1, .int .i64 2, .int .i64 2, .int .i64 3, .int .i64 0, .int .i64 4, .int .i64 3] false)]) g4.length = some (.cells [.int .i64 1, .int .i64 1, .int .i64 2, .int .i64 2, .int .i64 3, .int .i64 0, .int .i64 4, .int .i64 3] false) := by simp (disch := first | omega | (simp only [fsLen]; omega)) only [fsPost, fsCond, fsGen]
  generalize hset g4 (H.length + 1) (.cells [.slice (some (H.length + 2, 0)) 9 (.fix 9), .slice (some (H.length + 6, 0)) 3 (.fix 3), v1, v2, v3, .slice (some (g4.length, 0)) 4 (.fix 4), v4, .slice none 0 (.fix 0), .int .i64 (2 + x1), .int .i64 (12 + x2)] false) ++ [some (.cells [.int .i64 1, .int .i64 1, .int .i64 2, .int .i64 2, .int .i64 3, .int .i64 0, .int .i64 4, .int .i64 3] false)] = g5 at *
  have rep1 := Tr.rep_ext e5 rep1
  have rep2 := Tr.rep_ext e5 rep2
  have rep3 := Tr.rep_ext e5 rep3
  have rep4 := Tr.rep_ext e5 rep4
  have hrc := e5 _ _ hrb hrc
  have hF := Tr.rep_ext e5 hF
  have hH := Tr.rep_ext e5 hH
  clear e5 st
  obtain ⟨hl5, _, ⟨a5, hp5, hb0, hb1⟩, hs5⟩ := id st5
  have hpg := hget_some_lt hp5
  have hlk := hget_some_lt k1
  refine callT_D (bool_ok _ p n sl a5 (by simp (disch := first | omega | (simp only [fsLen]; omega)) only [hp5]) (by repeat (first | exact hs5 | apply CodesSl.app | apply CodesSl.set)) hb0 hb1) rfl ?_
  rintro v h' ⟨y6, a6, e, hb0, hb1⟩
  cases e
  simp (disch := first | omega | (simp only [fsLen]; omega)) only [↓fsPre, ↓reduceIte]
  refine condK_join (fun F g => F 0 = .ptr (some (p, 0)) ∧ F 2 = .ptr (some (H.length, 0)) ∧ F 3 = .ptr (some (H.length + 1, 0)) ∧ CodesSt H g p n sl ∧ hget g H.length = some (.cells [.slice none 0 (.fix 0), .slice none 0 (.fix 0), .slice none 0 (.fix 0), .slice none 0 (.fix 0), .slice none 0 (.fix 0), .slice none 0 (.fix 0), .slice none 0 (.fix 0), .slice none 0 (.fix 0), .int .i64 0, .int .i64 0] false) ∧ Ext (H.length + 2) g5 g ∧ ∃ sv w, hget g (H.length + 1) = some (.cells [.slice (some (H.length + 2, 0)) 9 (.fix 9), .slice (some (H.length + 6, 0)) 3 (.fix 3), v1, v2, v3, sv, v4, .slice none 0 (.fix 0), .int .i64 (2 + x1), .int .i64 (12 + x2)] false) ∧ (Tr.rows 2 (stageRows w)).rep (H.length + 2) g sv) ?_ ?_ ?_
  · intro _
    have hS5 := hget_some_lt hS
    simp (disch := first | omega | (simp only [fsLen]; omega)) only [↓fsPre, fsPost, fsCond, fsGen, fsDefs, Nat.reduceAdd, Nat.reduceLeDiff, Nat.reduceEqDiff, ↓reduceIte, k1]
    refine app_fix (sliceCells_at (by simp (disch := first | omega | (simp only [fsLen]; omega)) only [fsPost, fsCond, fsGen] <;> rfl) rfl) rfl (by omega) ⟨by omega, by omega⟩ (sliceCells_at (by simp (disch := first | omega | (simp only [fsLen]; omega)) only [fsCond, hS] <;> rfl) rfl) ?_
    simp (disch := first | omega | (simp only [fsLen]; omega)) only [↓fsPre, fsPost, fsCond, fsGen, fsDefs, reduceCtorEq, Nat.reduceAdd, Nat.reduceMul, Nat.reduceLeDiff, Nat.reduceEqDiff, ↓reduceIte, k1, k0]
    refine ⟨?_, ?_, _, true, rfl, ?_⟩
    · exact (((st5.next hb0 hb1).setAt hs (by omega) n1).app0)
    · exact (Ext.set (by omega)).trans (Ext.sets (by omega))
    · simp (disch := first | omega | (simp only [fsLen]; omega)) only [fsPost, fsCond, fsGen, Nat.reduceAdd, Nat.reduceLeDiff, ↓reduceIte, Tr.rep_sl, Tr.repB_cells, Tr.repFlat_nil, Tr.repFlat_cons, Tr.repCells_nil, Tr.repCells_cons, rep_ti, stageRows]
      all_goals omega
  · intro _
    simp (disch := first | omega | (simp only [fsLen]; omega)) only [↓fsPre, fsPost, fsCond, fsGen, reduceCtorEq, Nat.reduceEqDiff, ↓reduceIte, k1, k0]
    exact ⟨st5.next hb0 hb1, Ext.set (by omega), _, false, rfl, Tr.rep_ext (Ext.set (by omega)) rS⟩
  rintro F g ⟨f0, f2, f3, st, k0, e6, sv, w, k1, rS⟩
  have st' := st
  obtain ⟨hlg, og, ⟨a7, hpg', hb0, hb1⟩, hsg⟩ := st'
  have hpg := hget_some_lt hpg'
  have hlg1 := hget_some_lt k1
  have rep1 := Tr.rep_ext e6 rep1
  have rep2 := Tr.rep_ext e6 rep2
  have rep3 := Tr.rep_ext e6 rep3
  have rep4 := Tr.rep_ext e6 rep4
  have hrc := e6 _ _ hrb hrc
  have hF := Tr.rep_ext e6 hF
  have hH := Tr.rep_ext e6 hH
  clear e6 hS
  have hlg5 : H.length + 2 ≤ g.length := by omega
  simp (disch := first | omega | (simp only [fsLen]; omega)) only [↓fsPre, fsPost, fsGen, ↓reduceIte, f0]
  refine callT_D (bool_ok _ p n sl a7 (by simp (disch := first | omega | (simp only [fsLen]; omega)) only [hpg']) (by repeat (first | exact hsg | apply CodesSl.app | apply CodesSl.set)) hb0 hb1) rfl ?_
  rintro v h' ⟨y8, a8, e, hb0, hb1⟩
  cases e
  simp (disch := first | omega | (simp only [fsLen]; omega)) only [↓fsPre, ↓reduceIte]
  generalize hg6 : g = g6 at *
  have hg : GrC g6 g6.length [] 6 (.slice none 0 (.fix 0)) := .nil
  have ek : Ext (H.length + 2) g6 g6 := Ext.refl
  refine condK_join (fun F g => F 0 = .ptr (some (p, 0)) ∧ F 2 = .ptr (some (H.length, 0)) ∧ F 3 = .ptr (some (H.length + 1, 0)) ∧ CodesSt H g p n sl ∧ hget g H.length = some (.cells [.slice none 0 (.fix 0), .slice none 0 (.fix 0), .slice none 0 (.fix 0), .slice none 0 (.fix 0), .slice none 0 (.fix 0), .slice none 0 (.fix 0), .slice none 0 (.fix 0), .slice none 0 (.fix 0), .int .i64 0, .int .i64 0] false) ∧ g6.length ≤ g.length ∧ Ext (H.length + 2) g6 g ∧ ∃ rv x, hget g (H.length + 1) = some (.cells [.slice (some (H.length + 2, 0)) 9 (.fix 9), .slice (some (H.length + 6, 0)) 3 (.fix 3), v1, v2, v3, sv, v4, rv, .int .i64 (2 + x1), .int .i64 (12 + x2)] false) ∧ GrC g g6.length (refCells x false false) 6 rv) ?_ ?_ ?_
  · intro _
    simp (disch := first | omega | (simp only [fsLen]; omega)) only [↓fsPre, fsPost, fsCond, fsGen, fsDefs, Nat.reduceAdd, Nat.reduceLeDiff, Nat.reduceEqDiff, ↓reduceIte, f3, k1]
    refine grc_app (N := g6.length) (hg.ext (Ext.sets (by omega))) (by simp only [List.length_append, length_hset]; omega) (sliceCells_at (by simp (disch := first | omega | (simp only [fsLen]; omega)) only [fsPost, fsCond, fsGen] <;> rfl) rfl) rfl (by omega) (by omega) rfl (by first | decide | (cases x <;> decide) | (cases x <;> cases y <;> decide)) (by omega) (by omega) ?_
    intro v' h' hg' hl' old'
    have k1' : hget h' (H.length + 1) = some (.cells [.slice (some (H.length + 2, 0)) 9 (.fix 9), .slice (some (H.length + 6, 0)) 3 (.fix 3), v1, v2, v3, sv, v4, .slice none 0 (.fix 0), .int .i64 (2 + x1), .int .i64 (12 + x2)] false) := by
      rw [old' _ (by omega)]; simp (disch := first | omega | (simp only [fsLen]; omega)) only [fsCond, k1]
    have k0' : hget h' H.length = some (.cells [.slice none 0 (.fix 0), .slice none 0 (.fix 0), .slice none 0 (.fix 0), .slice none 0 (.fix 0), .slice none 0 (.fix 0), .slice none 0 (.fix 0), .slice none 0 (.fix 0), .slice none 0 (.fix 0), .int .i64 0, .int .i64 0] false) := by
      rw [old' _ (by omega)]; simp (disch := first | omega | (simp only [fsLen]; omega)) only [fsCond, k0]
    have hl1' := hget_some_lt k1'
    have wv := hg'.one
    simp (disch := first | omega | (simp only [fsLen]; omega)) only [↓fsPre, fsPost, fsCond, fsGen, fsDefs, reduceCtorEq, Nat.reduceAdd, Nat.reduceLeDiff, Nat.reduceEqDiff, ↓reduceIte, f0, f2, f3, k1', flat_one wv, cells_one wv]
    simp (disch := first | omega | (simp only [fsLen]; omega)) only [fsPost, fsGen, Nat.reduceAdd] at hl'
    refine ⟨(st.trans (CodesSt.mk' hpg hb0 hb1 hsg)).grow2 hpl hs old' (by omega) (by omega) (by omega), k0', by omega, fun b z hb hz => ?_, _, true, rfl, ?_⟩
    · have hbz := hget_some_lt hz
      rw [hget_hset_ne (by omega), old' b hbz, hget_appl (by rw [length_hset]; omega), hget_hset_ne (by omega)]
      exact ek b z hb hz
    · exact hg'.ext (Ext.set (by omega))
  · intro _
    simp (disch := first | omega | (simp only [fsLen]; omega)) only [↓fsPre, fsPost, fsCond, fsGen, reduceCtorEq, Nat.reduceEqDiff, ↓reduceIte, f0, f2, f3, k1, k0]
    exact ⟨st.next hb0 hb1, Ext.set (by omega), _, false, rfl, .nil⟩
  have r3 := rep3
  simp only [Tr.rep] at r3
  have h4 : t.rows.length = 4 := rfl
  rcases r3 with ⟨_, e0⟩ | ⟨tb, tc, tcs, tro, e3, htb, ht, hrr⟩
  · exact absurd (congrArg List.length e0) (by rw [h4]; decide)
  obtain ⟨xs2, c2, q2⟩ := Tr.rep_row hrr (j := 2) (by rw [h4]; omega)
  obtain ⟨xs3, c3, q3⟩ := Tr.rep_row hrr (j := 3) (by rw [h4]; omega)
  have q2 : Tr.repCells (H.length + 2) g6 (tab3 t.m3 t.s3 t.r3) xs2 := q2
  have q3 : Tr.repCells (H.length + 2) g6 (tab4 t.m4 t.s4 t.r4) xs3 := q3
  simp only [tab3, tab4, Tr.repCells] at q2 q3
  obtain ⟨_, _, rfl, _, _, _, rfl, _, kv2, _, rfl, kr2, _⟩ := q2
  obtain ⟨_, _, rfl, _, _, _, rfl, _, kv3, _, rfl, kr3, _⟩ := q3
  have g18 := cut_get c2 (i := 2) (by omega)
  have g26 := cut_get c3 (i := 2) (by omega)
  obtain ⟨u2, d2, rfl⟩ := Tr.rep_len kr2
  obtain ⟨u3, d3, rfl⟩ := Tr.rep_len kr3
  clear kr2 kr3 c2 c3 hrr
  simp (disch := first | omega | (simp only [fsLen]; omega)) only [fsGen, Nat.reduceAdd, Nat.reduceMul] at g18 g26
  rw [h4] at e3

  rintro F g ⟨f0, f2, f3, st, k0, hgl, ek, rv, x, k1, hg⟩
  have st' := st
  obtain ⟨hlg, og, ⟨a9, hpg', hb0, hb1⟩, hsg⟩ := st'
  have hpg := hget_some_lt hpg'
  have hlg1 := hget_some_lt k1
  have ov := hg.one
  have w3 := Tr.rep_one rep3
  have ht' := ek _ _ htb ht
  refine fwp_seqJ (fun F g => F 0 = .ptr (some (p, 0)) ∧ F 2 = .ptr (some (H.length, 0)) ∧ F 3 = .ptr (some (H.length + 1, 0)) ∧ CodesSt H g p n sl ∧ hget g H.length = some (.cells [.slice none 0 (.fix 0), .slice none 0 (.fix 0), .slice none 0 (.fix 0), .slice none 0 (.fix 0), .slice none 0 (.fix 0), .slice none 0 (.fix 0), .slice none 0 (.fix 0), .slice none 0 (.fix 0), .int .i64 0, .int .i64 0] false) ∧ g6.length ≤ g.length ∧ Ext (H.length + 2) g6 g ∧ ∃ rv x y, hget g (H.length + 1) = some (.cells [.slice (some (H.length + 2, 0)) 9 (.fix 9), .slice (some (H.length + 6, 0)) 3 (.fix 3), v1, v2, v3, sv, v4, rv, .int .i64 (2 + x1), .int .i64 (12 + x2)] false) ∧ GrC g g6.length (refCells x y false) 6 rv ∧ (y = true → t.m3 = true)) ?_ ?_
  · simp (disch := first | omega | (simp only [fsLen]; omega)) only [↓fsPre, fsPost, fsGen, ↓reduceIte, f0]
    refine callT_D (bool_ok _ p n sl a9 (by simp (disch := first | omega | (simp only [fsLen]; omega)) only [hpg']) (by repeat (first | exact hsg | apply CodesSl.app | apply CodesSl.set)) hb0 hb1) rfl ?_
    rintro v h' ⟨y10, a10, e, hb0, hb1⟩
    cases e
    cases y10 with
    | false =>
      simp (disch := first | omega | (simp only [fsLen]; omega)) only [↓fsPre, fsPost, fsCond, fsGen, fsDefs, reduceCtorEq, Nat.reduceEqDiff, ↓reduceIte, f0, f2, f3, k1, k0]
      exact ⟨st.next hb0 hb1, hgl, ek.trans (Ext.set (by omega)), _, x, false, rfl, hg.ext (Ext.set (by omega)), by simp⟩
    | true =>
      cases hm : t.m3 with
      | false =>
        have hlen : ((keys3 t.m3).length : Int) = 2 := by rw [hm]; rfl
        simp (disch := first | omega | (simp only [fsLen]; omega)) only [↓fsPre, fsPost, fsCond, fsGen, fsDefs, fsDefX, reduceCtorEq, Nat.reduceAdd, Nat.reduceMul, Nat.reduceEqDiff, Int.reduceLT, Int.reduceLE, Int.reduceEq, Int.reduceToNat, ↓reduceIte, f0, f2, f3, k1, k0, e3, ht', g18, hlen]
        exact ⟨st.next hb0 hb1, hgl, ek.trans (Ext.set (by omega)), _, x, false, rfl, hg.ext (Ext.set (by omega)), by simp⟩
      | true =>
        have hlen : ((keys3 t.m3).length : Int) = 3 := by rw [hm]; rfl
        simp (disch := first | omega | (simp only [fsLen]; omega)) only [↓fsPre, fsPost, fsCond, fsGen, fsDefs, fsDefX, Nat.reduceAdd, Nat.reduceMul, Nat.reduceLeDiff, Nat.reduceEqDiff, Int.reduceLT, Int.reduceLE, Int.reduceToNat, ↓reduceIte, f3, k1, e3, ht', g18, hlen]
        refine grc_app (N := g6.length) (hg.ext (Ext.sets (by omega))) (by simp only [List.length_append, length_hset]; omega) (sliceCells_at (by simp (disch := first | omega | (simp only [fsLen]; omega)) only [fsPost, fsCond, fsGen] <;> rfl) rfl) rfl (by omega) (by omega) rfl (by first | decide | (cases x <;> decide) | (cases x <;> cases y <;> decide)) (by omega) (by omega) ?_
        intro v' h' hg' hl' old'
        have k1' : hget h' (H.length + 1) = some (.cells [.slice (some (H.length + 2, 0)) 9 (.fix 9), .slice (some (H.length + 6, 0)) 3 (.fix 3), v1, v2, v3, sv, v4, rv, .int .i64 (2 + x1), .int .i64 (12 + x2)] false) := by
          rw [old' _ (by omega)]; simp (disch := first | omega | (simp only [fsLen]; omega)) only [fsCond, k1]
        have k0' : hget h' H.length = some (.cells [.slice none 0 (.fix 0), .slice none 0 (.fix 0), .slice none 0 (.fix 0), .slice none 0 (.fix 0), .slice none 0 (.fix 0), .slice none 0 (.fix 0), .slice none 0 (.fix 0), .slice none 0 (.fix 0), .int .i64 0, .int .i64 0] false) := by
          rw [old' _ (by omega)]; simp (disch := first | omega | (simp only [fsLen]; omega)) only [fsCond, k0]
        have hl1' := hget_some_lt k1'
        have wv := hg'.one
        simp (disch := first | omega | (simp only [fsLen]; omega)) only [↓fsPre, fsPost, fsCond, fsGen, fsDefs, reduceCtorEq, Nat.reduceAdd, Nat.reduceLeDiff, Nat.reduceEqDiff, ↓reduceIte, f0, f2, f3, k1', flat_one wv, cells_one wv]
        simp (disch := first | omega | (simp only [fsLen]; omega)) only [fsPost, fsGen, Nat.reduceAdd] at hl'
        refine ⟨(st.trans (CodesSt.mk' hpg hb0 hb1 hsg)).grow2 hpl hs old' (by omega) (by omega) (by omega), k0', by omega, fun b z hb hz => ?_, _, x, true, rfl, ?_⟩
        · have hbz := hget_some_lt hz
          rw [hget_hset_ne (by omega), old' b hbz, hget_appl (by rw [length_hset]; omega), hget_hset_ne (by omega)]
          exact ek b z hb hz
        · refine GrC.ext (h := h') ?_ (Ext.set (by omega))
          cases x <;> exact hg'

  rintro F g ⟨f0, f2, f3, st, k0, hgl, ek, rv, x, y, k1, hg, hyy⟩
  have st' := st
  obtain ⟨hlg, og, ⟨a12, hpg', hb0, hb1⟩, hsg⟩ := st'
  have hpg := hget_some_lt hpg'
  have hlg1 := hget_some_lt k1
  have ov := hg.one
  have w3 := Tr.rep_one rep3
  have ht' := ek _ _ htb ht
  refine fwp_seqJ (fun F g => F 0 = .ptr (some (p, 0)) ∧ F 2 = .ptr (some (H.length, 0)) ∧ F 3 = .ptr (some (H.length + 1, 0)) ∧ CodesSt H g p n sl ∧ hget g H.length = some (.cells [.slice none 0 (.fix 0), .slice none 0 (.fix 0), .slice none 0 (.fix 0), .slice none 0 (.fix 0), .slice none 0 (.fix 0), .slice none 0 (.fix 0), .slice none 0 (.fix 0), .slice none 0 (.fix 0), .int .i64 0, .int .i64 0] false) ∧ g6.length ≤ g.length ∧ Ext (H.length + 2) g6 g ∧ ∃ rv x y z, hget g (H.length + 1) = some (.cells [.slice (some (H.length + 2, 0)) 9 (.fix 9), .slice (some (H.length + 6, 0)) 3 (.fix 3), v1, v2, v3, sv, v4, rv, .int .i64 (2 + x1), .int .i64 (12 + x2)] false) ∧ GrC g g6.length (refCells x y z) 6 rv ∧ (y = true → t.m3 = true) ∧ (z = true → t.m4 = true)) ?_ ?_
  · simp (disch := first | omega | (simp only [fsLen]; omega)) only [↓fsPre, fsPost, fsGen, ↓reduceIte, f0]
    refine callT_D (bool_ok _ p n sl a12 (by simp (disch := first | omega | (simp only [fsLen]; omega)) only [hpg']) (by repeat (first | exact hsg | apply CodesSl.app | apply CodesSl.set)) hb0 hb1) rfl ?_
    rintro v h' ⟨y13, a13, e, hb0, hb1⟩
    cases e
    cases y13 with
    | false =>
      simp (disch := first | omega | (simp only [fsLen]; omega)) only [↓fsPre, fsPost, fsCond, fsGen, fsDefs, reduceCtorEq, Nat.reduceEqDiff, ↓reduceIte, f0, f2, f3, k1, k0]
      exact ⟨st.next hb0 hb1, hgl, ek.trans (Ext.set (by omega)), _, x, y, false, rfl, hg.ext (Ext.set (by omega)), hyy, by simp⟩
    | true =>
      cases hm : t.m4 with
      | false =>
        have hlen : ((keys4 t.m4).length : Int) = 1 := by rw [hm]; rfl
        simp (disch := first | omega | (simp only [fsLen]; omega)) only [↓fsPre, fsPost, fsCond, fsGen, fsDefs, fsDefX, reduceCtorEq, Nat.reduceAdd, Nat.reduceMul, Nat.reduceEqDiff, Int.reduceLT, Int.reduceLE, Int.reduceEq, Int.reduceToNat, ↓reduceIte, f0, f2, f3, k1, k0, e3, ht', g26, hlen]
        exact ⟨st.next hb0 hb1, hgl, ek.trans (Ext.set (by omega)), _, x, y, false, rfl, hg.ext (Ext.set (by omega)), hyy, by simp⟩
      | true =>
        have hlen : ((keys4 t.m4).length : Int) = 3 := by rw [hm]; rfl
        simp (disch := first | omega | (simp only [fsLen]; omega)) only [↓fsPre, fsPost, fsCond, fsGen, fsDefs, fsDefX, Nat.reduceAdd, Nat.reduceMul, Nat.reduceLeDiff, Nat.reduceEqDiff, Int.reduceLT, Int.reduceLE, Int.reduceToNat, ↓reduceIte, f3, k1, e3, ht', g26, hlen]
        refine grc_app (N := g6.length) (hg.ext (Ext.sets (by omega))) (by simp only [List.length_append, length_hset]; omega) (sliceCells_at (by simp (disch := first | omega | (simp only [fsLen]; omega)) only [fsPost, fsCond, fsGen] <;> rfl) rfl) rfl (by omega) (by omega) rfl (by first | decide | (cases x <;> decide) | (cases x <;> cases y <;> decide)) (by omega) (by omega) ?_
        intro v' h' hg' hl' old'
        have k1' : hget h' (H.length + 1) = some (.cells [.slice (some (H.length + 2, 0)) 9 (.fix 9), .slice (some (H.length + 6, 0)) 3 (.fix 3), v1, v2, v3, sv, v4, rv, .int .i64 (2 + x1), .int .i64 (12 + x2)] false) := by
          rw [old' _ (by omega)]; simp (disch := first | omega | (simp only [fsLen]; omega)) only [fsCond, k1]
        have k0' : hget h' H.length = some (.cells [.slice none 0 (.fix 0), .slice none 0 (.fix 0), .slice none 0 (.fix 0), .slice none 0 (.fix 0), .slice none 0 (.fix 0), .slice none 0 (.fix 0), .slice none 0 (.fix 0), .slice none 0 (.fix 0), .int .i64 0, .int .i64 0] false) := by
          rw [old' _ (by omega)]; simp (disch := first | omega | (simp only [fsLen]; omega)) only [fsCond, k0]
        have hl1' := hget_some_lt k1'
        have wv := hg'.one
        simp (disch := first | omega | (simp only [fsLen]; omega)) only [↓fsPre, fsPost, fsCond, fsGen, fsDefs, reduceCtorEq, Nat.reduceAdd, Nat.reduceLeDiff, Nat.reduceEqDiff, ↓reduceIte, f0, f2, f3, k1', flat_one wv, cells_one wv]
        simp (disch := first | omega | (simp only [fsLen]; omega)) only [fsPost, fsGen, Nat.reduceAdd] at hl'
        refine ⟨(st.trans (CodesSt.mk' hpg hb0 hb1 hsg)).grow2 hpl hs old' (by omega) (by omega) (by omega), k0', by omega, fun b z hb hz => ?_, _, x, y, true, rfl, ?_, hyy⟩
        · have hbz := hget_some_lt hz
          rw [hget_hset_ne (by omega), old' b hbz, hget_appl (by rw [length_hset]; omega), hget_hset_ne (by omega)]
          exact ek b z hb hz
        · refine GrC.ext (h := h') ?_ (Ext.set (by omega))
          cases x <;> cases y <;> exact hg'

  rintro F g ⟨f0, f2, f3, st, k0, hgl, ek, rv, x, y, z, k1, hg, hyy, hzz⟩
  have ov := hg.one
  have osv := Tr.rep_one rS
  have w1 := Tr.rep_one rep1
  have w2 := Tr.rep_one rep2
  have w3 := Tr.rep_one rep3
  have w4 := Tr.rep_one rep4
  have hlg0 := hget_some_lt k0
  simp (disch := first | omega | (simp only [fsLen]; omega)) only [↓fsPre, fsPost, fsCond, fsGen, fsDefs, Nat.reduceAdd, Nat.reduceEqDiff, ↓reduceIte, f2, f3, k1, k0, ov, osv, w1, w2, w3, w4]
  have e7 : ∀ X, Ext (H.length + 2) g6 (hset g H.length X) := fun X => ek.trans (Ext.set (by omega))
  have e8 : ∀ X, Ext g6.length g (hset g H.length X) := fun X => Ext.set (by omega)
  have up : ∀ X T V, Tr.rep (H.length + 2) g6 T V → Tr.rep H.length (hset g H.length X) T V := fun X T V h => Tr.rep_mono (by omega) (Tr.rep_ext (e7 X) h)
  refine ⟨_, _, t, x, y, z, w, 2 + x1, 12 + x2, sts, acs, rls, rb, rcs, rfl, by rw [ev4]; rfl, by omega, e7 _ _ _ hrb hrc, hrl, apart, ?_, ⟨rfl, ok1, ok2, ok3, ok4, hyy, hzz, ⟨by omega, by omega⟩, ⟨by omega, by omega⟩⟩, st.setAt hs (Nat.le_refl _) n0⟩
  have hR := fun X => Tr.rep_mono (show H.length ≤ g6.length by omega) ((hg.ext (e8 X)).rep (l := refRows x y z) (by omega) (by cases x <;> cases y <;> cases z <;> rfl) (by cases x <;> cases y <;> cases z <;> (simp (disch := first | omega | (simp only [fsLen]; omega)) only [fsGen, Nat.reduceAdd, Nat.reduceLeDiff, ↓reduceIte, Tr.repFlat_nil, Tr.repFlat_cons, Tr.repCells_nil, Tr.repCells_cons, rep_ti, refRows, refCells, refT, ref6])))
  simp only [Tr.repCells_cons, Tr.repCells_nil, rep_ti]
  exact ⟨up _ _ _ hF, up _ _ _ hH, up _ _ _ rep1, up _ _ _ rep2, up _ _ _ rep3, up _ _ _ rS, up _ _ _ rep4, hR _, trivial, trivial, trivial⟩
end Go.Proofs
