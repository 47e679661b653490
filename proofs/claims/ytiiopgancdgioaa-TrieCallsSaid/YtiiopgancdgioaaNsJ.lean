/- Operations that write memory or call: maps, iterators, calls, and the whole. -/
import Derived.Test.YtiiopgancdgioaaNsI
set_option linter.unusedVariables false
set_option linter.unusedSimpArgs false
namespace Go.Ns

/-- What the call of a function comes to. -/
def NFun (P : Program) (f : Nat) (args : List NV) (h : Heap) (Q : NV × Heap → Prop) : Prop :=
  ∀ (C : Cx) (φ : PMap) (w : World) (vargs : Array Value), VRels φ args vargs.toList → Rel C φ w h → Calls P f vargs w fun e w' => ∃ v, e = .returned v ∧ Post C φ Q v w'

def SpecOK (P : Program) (S : Specs) : Prop :=
  ∀ (f : Nat) (args : List NV) (h : Heap) (Q : NV × Heap → Prop), (S f args h).all Q → goodFn P f = true ∧ NFun P f args h (fun r => Q r ∧ h.length ≤ r.2.length)

theorem ERels.append {φ : PMap} : ∀ {a b : List NEnt} {x y : List MapEntry}, ERels φ a x → ERels φ b y → ERels φ (a ++ b) (x ++ y)
  | [], _, _, _, e, hb => by simp [ERels] at e; subst e; simpa using hb
  | _ :: _, _, _, _, ⟨v, r, e, hk, hv, hn, hr⟩, hb => by subst e; exact ⟨v, _, rfl, hk, hv, hn, ERels.append hr hb⟩

theorem ERels.eraseIdx {φ : PMap} : ∀ {a : List NEnt} {x : List MapEntry} (i : Nat), ERels φ a x → ERels φ (a.eraseIdx i) (x.eraseIdx i)
  | [], _, i, e => by simp [ERels] at e; subst e; simp [ERels]
  | _ :: _, _, 0, ⟨v, r, e, hk, hv, hn, hr⟩ => by subst e; simpa using hr
  | _ :: _, _, i + 1, ⟨v, r, e, hk, hv, hn, hr⟩ => by subst e; exact ⟨v, _, rfl, hk, hv, hn, ERels.eraseIdx i hr⟩

theorem ERels.modify {φ : PMap} {k v : NV} {vk vv : Value} (hk : VRel φ k vk) (hv : VRel φ v vv) : ∀ {a : List NEnt} {x : List MapEntry} (i : Nat), ERels φ a x →
    ERels φ (a.modify i fun e => { e with key := k, val := v }) (x.modify i fun e => { e with key := vk, val := vv })
  | [], _, i, e => by simp [ERels] at e; subst e; simp [ERels]
  | _ :: _, _, 0, ⟨u, r, e, _, _, hn, hr⟩ => by subst e; exact ⟨_, r, rfl, hk, hv, hn, hr⟩
  | _ :: _, _, i + 1, ⟨u, r, e, h1, h2, hn, hr⟩ => by subst e; exact ⟨u, _, rfl, h1, h2, hn, ERels.modify hk hv i hr⟩

theorem ERels.filter {φ : PMap} (f : Nat → Bool) : ∀ {a : List NEnt} {x : List MapEntry}, ERels φ a x → ERels φ (a.filter fun e => f e.born) (x.filter fun e => f e.born)
  | [], _, e => by simp [ERels] at e; subst e; simp [ERels]
  | e :: _, _, ⟨v, r, e', hk, hv, hn, hr⟩ => by
    subst e'
    simp only [List.filter_cons, hn]
    split
    · exact ⟨v, _, rfl, hk, hv, hn, ERels.filter f hr⟩
    · exact ERels.filter f hr

theorem ERels.all {φ : PMap} (f : Nat → Bool) : ∀ {a : List NEnt} {x : List MapEntry}, ERels φ a x → (a.all fun e => f e.born) = (x.all fun e => f e.born)
  | [], _, e => by simp [ERels] at e; subst e; simp
  | e :: _, _, ⟨v, r, e', hk, hv, hn, hr⟩ => by subst e'; simp [hn, ERels.all f hr]

theorem ERels.get {φ : PMap} : ∀ {a : List NEnt} {x : List MapEntry}, ERels φ a x → ∀ (i : Nat) (e : NEnt), a[i]? = some e → ∃ u, x[i]? = some u ∧ VRel φ e.key u.key ∧ VRel φ e.val u.val ∧ e.born = u.born
  | [], _, _, i, e, h => by simp at h
  | _ :: _, _, ⟨v, r, e', hk, hv, hn, hr⟩, 0, e, h => by subst e'; simp at h; subst h; exact ⟨v, by simp, hk, hv, hn⟩
  | _ :: _, _, ⟨v, r, e', hk, hv, hn, hr⟩, i + 1, e, h => by
    subst e'; simp at h
    obtain ⟨u, hu, q⟩ := ERels.get hr i e h
    exact ⟨u, by simpa using hu, q⟩

theorem ERels.find {φ : PMap} (f : Nat → Bool) : ∀ {a : List NEnt} {x : List MapEntry}, ERels φ a x → ∀ e, (a.find? fun e => f e.born) = some e → ∃ u, (x.find? fun e => f e.born) = some u ∧ VRel φ e.key u.key ∧ VRel φ e.val u.val
  | [], _, _, e, h => by simp at h
  | e0 :: _, _, ⟨v, r, e', hk, hv, hn, hr⟩, e, h => by
    subst e'
    simp only [List.find?_cons, hn] at h ⊢
    split at h
    · cases h; exact ⟨v, rfl, hk, hv⟩
    · exact ERels.find f hr e h

section
variable {P : Program} {C : Cx} {φ : PMap} {w : World} {h : Heap} {ρn : NOpd → NV} {ρr : Operand → Value}

theorem bytes_beq {a b : ByteArray} : (a == b) = true ↔ a = b := by
  rw [beq_toListBytes, ByteArray.toList_eq, ByteArray.toList_eq]
  constructor
  · intro h
    have h := eq_of_beq h
    obtain ⟨⟨x⟩⟩ := a
    obtain ⟨⟨y⟩⟩ := b
    simp at h; rw [h]
  · rintro rfl; simp

theorem findEnt_get {kagg : Bool} {ks : List CK} {x : NV} : ∀ {es : List NEnt} {i j : Nat} {v : NV}, findEnt kagg ks x es i = some (some (j, v)) → ∃ e, es[j - i]? = some e ∧ i ≤ j ∧ eqVal kagg ks x e.key = some true
  | [], i, j, v, h => by simp [findEnt] at h
  | e :: es, i, j, v, h => by
    unfold findEnt at h
    split at h
    · rename_i heq; cases h; exact ⟨e, by simp, Nat.le_refl _, heq⟩
    · obtain ⟨e', h1, h2, h3⟩ := findEnt_get h
      refine ⟨e', ?_, by omega, h3⟩
      have : j - i = (j - (i + 1)) + 1 := by omega
      rw [this]; simpa using h1
    · cases h

theorem sameBits_cell {n : Nat} {k : CK} {x y : NV} {vx vy : Value} (hk : plainKind k = true) (hx : VRel φ x vx) (hy : VRel φ y vy) (he : eqCell k x y = some true) : Instr.sameBits n vx vy = true := by
  unfold eqCell at he
  split at he <;> try (cases he; done)
  · have := hx.bool; have := hy.bool; subst vx vy; simp at he; subst he; cases n <;> simp [Instr.sameBits]
  · have := hx.int; have := hy.int; subst vx vy
    split at he <;> simp at he
    rename_i hj; subst hj he; cases n <;> simp [Instr.sameBits]
  · have := hx.str; have := hy.str; subst vx vy; simp only [Option.some.injEq, bytes_beq] at he; subst he; cases n <;> simp [Instr.sameBits, bytes_beq]
  all_goals simp [plainKind] at hk

theorem sameBits_cells {n : Nat} : ∀ {ks : List CK} {xs ys : List NV} {vx vy : List Value}, ks.all plainKind = true → VRels φ xs vx → VRels φ ys vy → eqCells ks xs ys = some true →
    vx.length = vy.length ∧ ((vx.zip vy).all fun (x, y) => Instr.sameBits n x y) = true
  | [], [], [], vx, vy, _, hx, hy, _ => by simp [VRels] at hx hy; subst hx hy; simp
  | k :: ks, x :: xs, y :: ys, _, _, hk, ⟨a, r, e1, ha, hr⟩, ⟨b, q, e2, hb, hq⟩, he => by
    subst e1 e2
    simp only [List.all_cons, Bool.and_eq_true] at hk
    unfold eqCells at he
    split at he
    · rename_i u v hu hv
      simp only [Option.some.injEq, Bool.and_eq_true] at he
      obtain ⟨rfl, rfl⟩ := he
      obtain ⟨h1, h2⟩ := sameBits_cells (n := n) hk.2 hr hq hv
      exact ⟨by simp [h1], by simp only [List.zip_cons_cons, List.all_cons, sameBits_cell hk.1 ha hb hu, h2, Bool.and_self]⟩
    · cases he
  | [], [], _ :: _, _, _, _, _, _, he => by simp [eqCells] at he
  | [], _ :: _, _, _, _, _, _, _, he => by simp [eqCells] at he
  | _ :: _, [], _, _, _, _, _, _, he => by simp [eqCells] at he
  | _ :: _, _ :: _, [], _, _, _, _, _, he => by simp [eqCells] at he

theorem sameBits_val {kagg : Bool} {ks : List CK} {x y : NV} {vx vy : Value} (hk : ks.all plainKind = true) (hx : VRel φ x vx) (hy : VRel φ y vy) (he : eqVal kagg ks x y = some true) : Instr.sameBits 10000 vx vy = true := by
  unfold eqVal at he
  split at he
  · split at he <;> try (cases he; done)
    simp only [VRel] at hx hy
    obtain ⟨a, rfl, ha, _⟩ := hx
    obtain ⟨b, rfl, hb, _⟩ := hy
    obtain ⟨h1, h2⟩ := sameBits_cells (n := 9999) hk ha hb he
    simp only [Array.length_toList] at h1
    simp only [Instr.sameBits, h1, beq_self_eq_true, Bool.true_and]
    exact h2
  · split at he <;> try (cases he; done)
    simp only [List.all_cons, List.all_nil, Bool.and_true] at hk
    exact sameBits_cell hk hx hy he

theorem eqVal_symm_cells : ∀ {ks : List CK} {xs ys : List NV}, ks.all plainKind = true → eqCells ks xs ys = some true → eqCells ks ys xs = some true
  | [], [], [], _, h => h
  | k :: ks, x :: xs, y :: ys, hk, h => by
    simp only [List.all_cons, Bool.and_eq_true] at hk
    unfold eqCells at h ⊢
    split at h
    · rename_i u v hu hv
      simp only [Option.some.injEq, Bool.and_eq_true] at h
      obtain ⟨rfl, rfl⟩ := h
      have h1 : eqCell k y x = some true := by
        unfold eqCell at hu
        split at hu <;> try (cases hu; done)
        · simp at hu; subst hu; simp [eqCell]
        · split at hu <;> simp at hu; rename_i hj; subst hj hu; simp [eqCell]
        · simp only [Option.some.injEq, bytes_beq] at hu; subst hu; simp [eqCell, bytes_beq]
        all_goals simp [plainKind] at hk
      rw [h1, eqVal_symm_cells hk.2 hv]; rfl
    · cases h
  | [], [], _ :: _, _, h => by simp [eqCells] at h
  | [], _ :: _, _, _, h => by simp [eqCells] at h
  | _ :: _, [], _, _, h => by simp [eqCells] at h
  | _ :: _, _ :: _, [], _, h => by simp [eqCells] at h

/-- A store into a map. -/
theorem sim_update (r : Rel C φ w h) {t : TypeId} {q : Bool × List CK} {m k v : NV} {vm vk vv : Value} {h' : Heap} (hq : keyTy P t = some q) (hm : VRel φ m vm) (hk : VRel φ k vk) (hv : VRel φ v vv)
    (e : nupdate q.1 q.2 h m k v = some h') : ∃ w', (Instr.mapUpdate t vm vk vv).run P w = .ok () w' ∧ Rel C φ w' h' := by
  obtain ⟨kt, el, hu, hks, hpl, hqa⟩ := keyTy_inv hq
  unfold nupdate at e
  split at e <;> try (cases e; done)
  rename_i b
  split at e <;> try (cases e; done)
  rename_i es clock hb
  split at e <;> try (cases e; done)
  rename_i hok
  simp only [VRel] at hm
  obtain ⟨p, hp, rfl⟩ := hm
  obtain ⟨ob, hob, h0, es', rfl, hE⟩ := r.blk _ _ _ hb hp
  rw [hqa] at hok e
  have hlt := r.lt _ _ hp
  have main : ∀ {es2 : List NEnt} {es2' : Array MapEntry} {cl : Nat}, ERels φ es2 es2'.toList → Rel C φ { w with heap := w.heap.setIfInBounds p.rb (.map es2' cl) } (hset h b (.map es2 cl)) := by
    intro es2 es2' cl hE2
    refine r.upd hb hp rfl ?_ ?_ ?_ rfl rfl rfl rfl ⟨h0, es2', rfl, hE2⟩ rfl
    · simp [hlt]
    · intro i hi; simp [Array.getElem?_setIfInBounds_ne (Ne.symm hi)]
    · simp
  have hset : ∀ (es2' : Array MapEntry) (cl : Nat), (setObj p.rb (.map es2' cl)).run P w = .ok () { w with heap := w.heap.setIfInBounds p.rb (.map es2' cl) } := by
    intro es2' cl
    simp [setObj, Sem.run, hob]
  split at e
  · rename_i i v0 hf
    cases e
    obtain ⟨r', hr', hfr⟩ := sim_findKey (P := P) hks hk w hE hf
    obtain ⟨v', rfl, hv'⟩ := hfr
    obtain ⟨e0, he0, _, heq⟩ := findEnt_get hf
    simp only [Nat.sub_zero] at he0
    obtain ⟨u, hu', huk, huv, hub⟩ := hE.get i e0 he0
    have hu2 : es'[i]? = some u := by simpa using hu'
    have hsym : eqVal (isAggT P kt) q.2 e0.key k = some true := by
      unfold eqVal at heq ⊢
      split at heq
      · rename_i ha
        rw [if_pos ha]
        split at heq <;> try (cases heq; done)
        rename_i h1 h2; rw [h2]; exact eqVal_symm_cells hpl heq
      · rename_i ha
        rw [if_neg ha]
        split at heq <;> try (cases heq; done)
        have := eqVal_symm_cells (ks := q.2) (xs := [k]) (ys := [e0.key]) hpl (by rename_i hq2; rw [hq2]; simp [eqCells, heq])
        rename_i c hq2
        rw [hq2] at this
        simp only [eqCells] at this
        split at this <;> simp at this
        rename_i a b ha' hb'; cases hb'; obtain ⟨rfl, _⟩ := this; exact ha'
    have hsb : Instr.sameBits 10000 u.key vk = true := sameBits_val hpl huk hk hsym
    refine ⟨_, ?_, main (es2' := es'.modify i fun e => { e with key := vk, val := vv }) (by rw [Array.toList_modify]; exact ERels.modify hk hv i hE)⟩
    simp only [Instr.mapUpdate, Sem.run_bind, run_underlying hu, Result.andThen_ok, run_getObj_map hob, sim_checkKey hks hk hok, hr', hu2, Option.map_some, Option.getD_some, Instr.keyThatStays, hsb, if_true, Sem.run_pure, hset]
  · rename_i hf
    cases e
    obtain ⟨r', hr', hfr⟩ := sim_findKey (P := P) hks hk w hE hf
    simp only [FindRel] at hfr; subst hfr
    refine ⟨_, ?_, main (es2' := es'.push { key := vk, val := vv, born := clock }) (by rw [Array.toList_push]; exact hE.append ⟨_, [], rfl, hk, hv, rfl, rfl⟩)⟩
    simp only [Instr.mapUpdate, Sem.run_bind, run_underlying hu, Result.andThen_ok, run_getObj_map hob, sim_checkKey hks hk hok, hr', hset]
  · cases e

/-- A key is struck out of a map. -/
theorem sim_delete (r : Rel C φ w h) {t ty : TypeId} {ts : Array TypeId} {q : Bool × List CK} {m k : NV} {vm vk : Value} {h' : Heap} (ht : ts[0]? = some t) (hq : keyTy P t = some q) (hm : VRel φ m vm) (hk : VRel φ k vk)
    (e : ndelete q.1 q.2 h m k = some h') : ∃ w', (Builtin.delete_ ts ty #[vm, vk]).run P w = .ok (.tuple #[]) w' ∧ Rel C φ w' h' := by
  obtain ⟨kt, el, hu, hks, hpl, hqa⟩ := keyTy_inv hq
  unfold ndelete at e
  rw [hqa] at e
  split at e
  · split at e <;> try (cases e; done)
    rename_i hok
    cases e
    simp only [VRel] at hm; subst hm
    exact ⟨w, by simp [Builtin.delete_, ht, run_underlying hu, sim_checkKey hks hk hok], r⟩
  · rename_i b
    split at e <;> try (cases e; done)
    rename_i es clock hb
    split at e <;> try (cases e; done)
    rename_i hok
    simp only [Bool.not_eq_false] at hok
    simp only [VRel] at hm
    obtain ⟨p, hp, rfl⟩ := hm
    obtain ⟨ob, hob, h0, es', rfl, hE⟩ := r.blk _ _ _ hb hp
    have hlt := r.lt _ _ hp
    have main : ∀ {es2 : List NEnt} {es2' : Array MapEntry} {cl : Nat}, ERels φ es2 es2'.toList → Rel C φ { w with heap := w.heap.setIfInBounds p.rb (.map es2' cl) } (hset h b (.map es2 cl)) := by
      intro es2 es2' cl hE2
      refine r.upd hb hp rfl ?_ ?_ ?_ rfl rfl rfl rfl ⟨h0, es2', rfl, hE2⟩ rfl
      · simp [hlt]
      · intro i hi; simp [Array.getElem?_setIfInBounds_ne (Ne.symm hi)]
      · simp
    have hset : ∀ (es2' : Array MapEntry) (cl : Nat), (setObj p.rb (.map es2' cl)).run P w = .ok () { w with heap := w.heap.setIfInBounds p.rb (.map es2' cl) } := by
      intro es2' cl
      simp [setObj, Sem.run, hob]
    split at e
    · rename_i i v0 hf
      cases e
      obtain ⟨r', hr', hfr⟩ := sim_findKey (P := P) hks hk w hE hf
      obtain ⟨v', rfl, hv'⟩ := hfr
      refine ⟨_, ?_, main (es2' := es'.eraseIdxIfInBounds i) (by rw [Array.toList_eraseIdxIfInBounds]; exact hE.eraseIdx i)⟩
      simp only [Builtin.delete_, ht, List.getElem?_toArray, List.getElem?_cons_zero, List.getElem?_cons_succ, Sem.run_bind, run_underlying hu, Result.andThen_ok, run_getObj_map hob, sim_checkKey hks hk hok, hr', hset, Sem.run_pure]
    · rename_i hf
      cases e
      obtain ⟨r', hr', hfr⟩ := sim_findKey (P := P) hks hk w hE hf
      simp only [FindRel] at hfr; subst hfr
      have hsame : ({ w with heap := w.heap.setIfInBounds p.rb (.map es' clock) } : World) = w := by
        have : w.heap.setIfInBounds p.rb (.map es' clock) = w.heap := by
          apply Array.ext_getElem?
          intro i
          by_cases hi : p.rb = i
          · subst hi; rw [Array.getElem?_setIfInBounds_self_of_lt hlt, hob]
          · rw [Array.getElem?_setIfInBounds_ne hi]
        rw [this]
      refine ⟨w, ?_, r⟩
      simp only [Builtin.delete_, ht, List.getElem?_toArray, List.getElem?_cons_zero, List.getElem?_cons_succ, Sem.run_bind, run_underlying hu, Result.andThen_ok, run_getObj_map hob, sim_checkKey hks hk hok, hr', hset, Sem.run_pure, hsame]
    · cases e
  · cases e

end
end Go.Ns
