/- The schemas of the statements: roles. -/
import Derived.Test.YtghjfohjkgllbaaEBSch3
set_option linter.unusedSimpArgs false
set_option linter.unusedVariables false
set_option maxRecDepth 10000
namespace Go.Proofs
open Go.Ns

theorem TP.row (t : TP) : t.rows.length = 4 ∧ ∀ (j : Nat) (hj : j < t.rows.length), ∃ id nm ks acs d da s r, t.rows[j] = [ti id, ts nm, .rows 3 ks, .rows 1 acs, ti d, .rows 2 da, ti s, ts r] ∧ ks.length ≤ 4 := by
  obtain ⟨d, s1, m2, s2, m3, s3, m4, s4, r1, r2, r3, r4⟩ := t
  refine ⟨rfl, fun j hj => ?_⟩
  match j, hj with
  | 0, _ => exact ⟨_, _, _, _, _, _, _, _, rfl, (show keys1.length ≤ 4 by decide)⟩
  | 1, _ => exact ⟨_, _, _, _, _, _, _, _, rfl, (show (keys2 m2).length ≤ 4 by cases m2 <;> decide)⟩
  | 2, _ => exact ⟨_, _, _, _, _, _, _, _, rfl, (show (keys3 m3).length ≤ 4 by cases m3 <;> decide)⟩
  | 3, _ => exact ⟨_, _, _, _, _, _, _, _, rfl, (show (keys4 m4).length ≤ 4 by cases m4 <;> decide)⟩

/-- The grants of a role, as they grow: only that they are there. -/
def Gr (h : Heap) (n : Nat) (o : Option Nat) (l : Nat) (v : NV) : Prop :=
  (o = none ∧ v = .slice none 0 (.fix 0) ∧ l = 0) ∨ ∃ b cs, o = some b ∧ v = .slice (some (b, 0)) l (.opn 4) ∧ n ≤ b ∧ hget h b = some (.cells cs false) ∧ cs.length = l * 4
theorem Gr.one {h : Heap} {n : Nat} {o : Option Nat} {l : Nat} {v : NV} (g : Gr h n o l v) : v.one = true := by
  rcases g with ⟨_, rfl, _⟩ | ⟨_, _, _, rfl, _⟩ <;> rfl
theorem Gr.mono {h h' : Heap} {n : Nat} {o : Option Nat} {l : Nat} {v : NV} (g : Gr h n o l v) (e : ∀ b, n ≤ b → b < h.length → some b = o → hget h' b = hget h b) : Gr h' n o l v := by
  rcases g with g | ⟨b, cs, h1, h2, h3, h4, h5⟩
  · exact .inl g
  · exact .inr ⟨b, cs, h1, h2, h3, by rw [e b h3 (hget_lt h4) h1.symm]; exact h4, h5⟩
theorem Gr.lt {h : Heap} {n l b : Nat} {v : NV} (g : Gr h n (some b) l v) : n ≤ b ∧ b < h.length := by
  rcases g with ⟨h, _⟩ | ⟨b', cs, h1, h2, h3, h4, h5⟩
  · cases h
  · cases h1; exact ⟨h3, hget_lt h4⟩
theorem splice_length {a b : List NV} {o : Nat} (h : o + b.length ≤ a.length) : (splice a o b).length = a.length := by
  unfold splice; simp; omega
theorem gr_app {h : Heap} {n l : Nat} {o : Option Nat} {v x : NV} {new : List NV} {K : NV → Heap → Prop} {t : Tg K} (g : Gr h n o l v) (hn : n ≤ h.length) (hl : l ≤ 100) (hx : sliceCells h 4 x = some new) (hnew : new.length = 4) (hx1 : lenOfSl x = some 1)
    (k : ∀ h', Gr h' n (some h.length) (l + 1) (.slice (some (h.length, 0)) (l + 1) (.opn 4)) → h'.length = h.length + 1 → (∀ b, b < h.length → some b ≠ o → hget h' b = hget h b) → K (.slice (some (h.length, 0)) (l + 1) (.opn 4)) h') : optB (nappendS h 4 40 v x) K t := by
  rcases g with ⟨rfl, rfl, rfl⟩ | ⟨b, cs, rfl, rfl, h3, h4, h5⟩
  · refine app_nil hx hx1 (by omega) ⟨by omega, by omega⟩ (k _ (.inr ⟨h.length, new, rfl, rfl, hn, hget_append_new, by omega⟩) (by simp) fun b hb _ => hget_appl hb)
  · have h0 : new ≠ [] := by intro e; rw [e] at hnew; cases hnew
    refine app_grow hx hx1 h4 h0 (by omega) (by omega) ⟨by omega, by omega⟩ (k _ (.inr ⟨h.length, List.take (l * 4) (List.drop 0 cs) ++ new, rfl, rfl, hn, ?_, ?_⟩) (by simp) fun b' hb hne => ?_)
    · have := hget_append_new (h := hkill h b) (o := some (NBlk.cells (List.take (l * 4) (List.drop 0 cs) ++ new) false))
      rw [length_hkill] at this; exact this
    · simp only [List.drop_zero, List.length_append, List.length_take, hnew]; omega
    · rw [hget_appl (by rw [length_hkill]; exact hb), hget_hkill_ne (fun e => hne (by rw [e]))]

def rId (k : Nat) : Int := match k with | 0 => 1 | 1 => 2 | _ => 7
def rNm (k : Nat) : ByteArray := match k with | 0 => ⟨#[97, 108, 108]⟩ | 1 => ⟨#[115, 111, 109, 101]⟩ | _ => ⟨#[102, 101, 119]⟩
def rLn (k : Nat) : Nat := match k with | 0 => 6 | 1 => 3 | _ => 1
/-- The cells of role 'k'. -/
def rC (N : Nat) (q2 q3 : Int) (k : Nat) (v : NV) : List NV := [.int .i64 (rId k), .str (rNm k), v, .slice (some (N + 2 * k, 0)) (rLn k) (.fix (rLn k)), .int .i64 (match k with | 0 => 40 | 1 => q2 | _ => q3), .bool (match k with | 0 => true | _ => false)]

theorem rC_0 {N : Nat} {a b : Int} {v : NV} : rC N a b 0 v = [.int .i64 1, .str ⟨#[97, 108, 108]⟩, v, .slice (some (N, 0)) 6 (.fix 6), .int .i64 40, .bool true] := (rfl)
theorem rC_1 {N : Nat} {a b : Int} {v : NV} : rC N a b 1 v = [.int .i64 2, .str ⟨#[115, 111, 109, 101]⟩, v, .slice (some (N + 2, 0)) 3 (.fix 3), .int .i64 a, .bool false] := (rfl)
theorem rC_2 {N : Nat} {a b : Int} {v : NV} : rC N a b 2 v = [.int .i64 7, .str ⟨#[102, 101, 119]⟩, v, .slice (some (N + 4, 0)) 1 (.fix 1), .int .i64 b, .bool false] := (rfl)
/-- The roles under way, in the heap 'h' that came out of 'H'. -/
structure RInv (H : Heap) (p n : Nat) (sl : NV) (q2 q3 x y : Int) (j : Nat) (h : Heap) (v : Nat → NV) (o : Nat → Option Nat) (l : Nat → Nat) : Prop where
  st : CodesSt H h p n sl
  len : H.length + 6 ≤ h.length
  a0 : hget h H.length = some (.cells [.int .i64 1, .int .i64 2, .int .i64 3, .int .i64 4, .int .i64 5, .int .i64 6] false)
  a1 : hget h (H.length + 2) = some (.cells [.int .i64 1, .int .i64 2, .int .i64 x] false)
  a2 : hget h (H.length + 4) = some (.cells [.int .i64 y] false)
  blk : ∀ k, k < 3 → hget h (H.length + (1 + 2 * k)) = some (.cells (rC H.length q2 q3 k (v k)) false)
  gr : ∀ k, k < 3 → Gr h (H.length + 6) (o k) (l k) (v k) ∧ l k ≤ j
  apart : ∀ k k', k < 3 → k' < 3 → k ≠ k' → ∀ b, o k = some b → o k' ≠ some b

theorem RInv.mono {H h h' : Heap} {p n : Nat} {sl : NV} {q2 q3 x y : Int} {j j' : Nat} {v : Nat → NV} {o : Nat → Option Nat} {l : Nat → Nat} (r : RInv H p n sl q2 q3 x y j h v o l) (hp : p < H.length) (e : CodesSt h h' p n sl) (hj : j ≤ j') : RInv H p n sl q2 q3 x y j' h' v o l := by
  have hl := r.len
  refine ⟨r.st.trans e, Nat.le_trans r.len e.len, ?_, ?_, ?_, fun k hk => ?_, fun k hk => ⟨(r.gr k hk).1.mono fun b hb hb' _ => e.old b hb' (by omega), Nat.le_trans (r.gr k hk).2 hj⟩, r.apart⟩
  · rw [e.old _ (by omega) (by omega)]; exact r.a0
  · rw [e.old _ (by omega) (by omega)]; exact r.a1
  · rw [e.old _ (by omega) (by omega)]; exact r.a2
  · rw [e.old _ (by omega) (by omega)]; exact r.blk k hk

/-- A row more for role 'k'. -/
theorem RInv.put {H h h1 : Heap} {p n : Nat} {sl : NV} {q2 q3 x y : Int} {j k : Nat} {v : Nat → NV} {o : Nat → Option Nat} {l : Nat → Nat} {v' : NV} (r : RInv H p n sl q2 q3 x y j h v o l) (hp : p < H.length) (hs : CodesSl H p sl n) (hk : k < 3) (hj : l k + 1 ≤ j)
    (g : Gr h1 (H.length + 6) (some h.length) (l k + 1) v') (hl : h1.length = h.length + 1) (old : ∀ b, b < h.length → some b ≠ o k → hget h1 b = hget h b) :
    RInv H p n sl q2 q3 x y j (hset h1 (H.length + (1 + 2 * k)) (.cells (rC H.length q2 q3 k v') false)) (fun i => if i = k then v' else v i) (fun i => if i = k then some h.length else o i) (fun i => if i = k then l k + 1 else l i) := by
  have hl6 := r.len
  have far : ∀ b, b < H.length + 6 → some b ≠ o k := fun b hb e => by
    have := (r.gr k hk).1
    rw [← e] at this
    have := this.lt
    omega
  have get : ∀ b, b < H.length + 6 → b ≠ H.length + (1 + 2 * k) → hget (hset h1 (H.length + (1 + 2 * k)) (.cells (rC H.length q2 q3 k v') false)) b = hget h b := fun b hb hne => by
    rw [hget_hset_ne (Ne.symm hne), old b (by omega) (far b hb)]
  obtain ⟨a, ha, hb0, hb1⟩ := r.st.st
  refine ⟨⟨by rw [length_hset]; omega, fun b hb hne => by rw [get b (by omega) (by omega)]; exact r.st.old b hb hne, ⟨a, by rw [get p (by omega) (by omega)]; exact ha, hb0, hb1⟩, ?_⟩, by rw [length_hset]; omega, ?_, ?_, ?_, fun i hi => ?_, fun i hi => ?_, ?_⟩
  · rcases hs with h | ⟨b', m, cs, ro, e1, e2, e3, e4⟩
    · exact .inl h
    · have hb := hget_some_lt e2
      exact .inr ⟨b', m, cs, ro, e1, by rw [get b' (by omega) (by omega), r.st.old b' hb e3]; exact e2, e3, e4⟩
  · rw [get _ (by omega) (by omega)]; exact r.a0
  · rw [get _ (by omega) (by omega)]; exact r.a1
  · rw [get _ (by omega) (by omega)]; exact r.a2
  · by_cases e : i = k
    · subst e
      rw [if_pos rfl, hget_hset_same (by omega)]
    · rw [if_neg e, get _ (by omega) (by omega)]; exact r.blk i hi
  · by_cases e : i = k
    · subst e
      simp only [if_pos]
      refine ⟨g.mono fun b hb _ _ => hget_hset_ne (by omega), hj⟩
    · simp only [if_neg e]
      refine ⟨(r.gr i hi).1.mono fun b hb hb' ho => ?_, (r.gr i hi).2⟩
      rw [hget_hset_ne (by omega), old b hb' fun e' => r.apart i k hi hk e b ho.symm e'.symm]
  · intro i i' hi hi' hne b
    split
    · rw [if_neg (by omega)]
      rintro ⟨⟩ e
      have := (r.gr i' hi').1
      rw [e] at this
      have := this.lt
      omega
    · split
      · rintro e ⟨⟩
        have := (r.gr i hi).1
        rw [e] at this
        have := this.lt
        omega
      · exact r.apart i i' hi hi' hne b
/-- The roles within a turn: those from 'k' on have not got their grant yet; the table lies at 'T'. -/
def RSt (H : Heap) (p n : Nat) (sl : NV) (q2 q3 x y : Int) (j T : Nat) (id : Int) (k : Nat) (h : Heap) (v : Nat → NV) (o : Nat → Option Nat) (l : Nat → Nat) : Prop :=
  RInv H p n sl q2 q3 x y (j + 1) h v o l ∧ (∀ i, k ≤ i → i < 3 → l i ≤ j ∧ o i ≠ some T) ∧ H.length + 6 ≤ T ∧ ∃ c0, hget h T = some (.cells (.int .i64 id :: c0) false)

theorem RSt.next {H h h' : Heap} {p n : Nat} {sl : NV} {q2 q3 x y : Int} {j T k k' : Nat} {id : Int} {v : Nat → NV} {o : Nat → Option Nat} {l : Nat → Nat} (r : RSt H p n sl q2 q3 x y j T id k h v o l) (hp : p < H.length) (e : CodesSt h h' p n sl) (hk : k ≤ k') : RSt H p n sl q2 q3 x y j T id k' h' v o l := by
  obtain ⟨h1, h2, h3, c0, h4⟩ := r
  exact ⟨h1.mono hp e (Nat.le_refl _), fun i a b => h2 i (by omega) b, h3, c0, by rw [e.old _ (hget_lt h4) (by omega)]; exact h4⟩

theorem RSt.app {H h : Heap} {p n : Nat} {sl : NV} {q2 q3 x y : Int} {j T k : Nat} {id : Int} {v : Nat → NV} {o : Nat → Option Nat} {l : Nat → Nat} (r : RSt H p n sl q2 q3 x y j T id k h v o l) (hp : p < H.length) (hs : CodesSl H p sl n) (hk : k < 3) (hj : j < 50)
    {z : NV} {new : List NV} {K : NV → Heap → Prop} {t : Tg K} (hx : sliceCells h 4 z = some new) (hnew : new.length = 4) (hx1 : lenOfSl z = some 1)
    (kk : ∀ h1 m v' o' l', h1.length = h.length + 1 → hget h1 (H.length + (1 + 2 * k)) = some (.cells (rC H.length q2 q3 k (v k)) false) → RSt H p n sl q2 q3 x y j T id (k + 1) (hset h1 (H.length + (1 + 2 * k)) (.cells (rC H.length q2 q3 k (.slice (some (h.length, 0)) m (.opn 4))) false)) v' o' l' →
      K (.slice (some (h.length, 0)) m (.opn 4)) h1) : optB (nappendS h 4 40 (v k) z) K t := by
  obtain ⟨inv, fr, hT, c0, gt⟩ := r
  have hl6 := inv.len
  have f := fr k (Nat.le_refl _) hk
  have hTl := hget_some_lt gt
  refine gr_app (inv.gr k hk).1 hl6 (by omega) hx hnew hx1 fun h1 hg hl old => kk h1 (l k + 1) _ _ _ hl ?_ ⟨inv.put hp hs hk (by omega) hg hl old, ?_, hT, c0, ?_⟩
  · rw [old _ (by omega) (fun e => by
      have := (inv.gr k hk).1
      rw [← e] at this
      have := this.lt
      omega)]
    exact inv.blk k hk
  · intro i hi hi3
    rw [if_neg (by omega), if_neg (by omega)]
    exact fr i (by omega) hi3
  · rw [hget_hset_ne (by omega), old _ hTl (Ne.symm f.2)]; exact gt
end Go.Proofs
