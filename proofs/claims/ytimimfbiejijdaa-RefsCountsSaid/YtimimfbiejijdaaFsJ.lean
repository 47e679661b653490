/- Lists that grow, among other blocks. -/
import Derived.Test.YtimimfbiejijdaaFsI
set_option linter.unusedVariables false
set_option linter.unusedSimpArgs false
namespace Go.Ns

theorem ext_slot {n s : Nat} {H : Heap} {x : NBlk} (h : hget H s = none) : Ext n H (hset H s x) := fun b y _ hb => by
  by_cases e : s = b
  · subst e; rw [h] at hb; cases hb
  · rw [hget_hset_ne e]; exact hb

theorem grc_app3 {h : Heap} {N e m bytes : Nat} {C new : List NV} {v x : NV} {K : NV → Heap → Prop} {t : Tg K} (g : GrC h N C e v) (hN : N ≤ h.length) (hx : sliceCells h e x = some new) (hm : lenOfSl x = some m) (h0 : 0 < m) (he : 0 < e) (hnew : new.length = m * e)
    (hC : C.length ≤ 1000) (hm2 : m ≤ 1000) (hb : bytes ≤ 10000)
    (k : ∀ v' h', GrC h' N (C ++ new) e v' → h'.length = h.length + 1 → (∀ b, b < N → hget h' b = hget h b) → (∀ b, b < h.length → (∀ o n c, v ≠ .slice (some (b, o)) n c) → hget h' b = hget h b) → (∀ b, b < h.length → ∀ o n c, v' ≠ .slice (some (b, o)) n c) → K v' h') : optB (nappendS h e bytes v x) K t := by
  have hbm : ∀ a : Nat, a ≤ 2000 → a * bytes ≤ 140737488355328 := fun a ha => Nat.le_trans (Nat.mul_le_mul ha hb) (by omega)
  have hne : new ≠ [] := by
    intro e1
    rw [e1] at hnew
    have := Nat.mul_pos h0 he
    simp at hnew
    omega
  have nw : ∀ l k, ∀ b, b < h.length → ∀ o n c, NV.slice (some (h.length, 0)) l k ≠ .slice (some (b, o)) n c := by
    intro l k b hb o n c e
    cases e
    omega
  rcases g with ⟨rfl, rfl⟩ | ⟨b, l, rfl, h3, h4, h5, h6⟩
  · refine app_nil hx hm h0 ⟨hbm m (by omega), by omega⟩ (k _ _ (.inr ⟨h.length, m, rfl, hN, by rw [List.nil_append]; exact hget_append_new, by rw [List.nil_append]; exact hnew, h0⟩) (by simp) (fun b hb => hget_appl (by omega)) (fun b hb _ => hget_appl hb) (nw _ _))
  · have hl : l ≤ C.length := by rw [h5]; exact Nat.le_mul_of_pos_right l he
    have hml : (l + m) * e = C.length + new.length := by rw [Nat.add_mul, h5, hnew]
    have hpos : 0 < new.length := List.length_pos_iff.2 hne
    refine app_grow hx hm h4 hne (by rw [hml]; omega) (by omega) ⟨hbm _ (by omega), by omega⟩ (k _ _ (.inr ⟨h.length, l + m, rfl, hN, ?_, ?_, by omega⟩) (by simp) (fun b' hb' => ?_) (fun b' hb' hne' => ?_) (nw _ _))
    · have := hget_append_new (h := hkill h b) (o := some (NBlk.cells (List.take (l * e) (List.drop 0 C) ++ new) false))
      rw [length_hkill] at this
      rw [this, List.drop_zero, List.take_of_length_le (by omega)]
    · rw [List.length_append, hml]
    · rw [hget_appl (by rw [length_hkill]; omega), hget_hkill_ne (by omega)]
    · have : b' ≠ b := fun e => hne' 0 l (.opn _) (by rw [e])
      rw [hget_appl (by rw [length_hkill]; omega), hget_hkill_ne (by omega)]
theorem GrC.lt {h : Heap} {N e : Nat} {C : List NV} {v : NV} (g : GrC h N C e v) {b : Nat} (hb : h.length ≤ b) : ∀ o n c, v ≠ .slice (some (b, o)) n c := by
  intro o n c e
  rcases g with ⟨_, rfl⟩ | ⟨b', k, rfl, _, h3, _⟩
  · cases e
  · cases e
    have := hget_lt h3
    omega
theorem GrC.shape {h : Heap} {N e : Nat} {C : List NV} {v : NV} (g : GrC h N C e v) (he : 0 < e) : ∃ a c n, v = .slice a n c ∧ n * e = C.length := by
  rcases g with ⟨rfl, rfl⟩ | ⟨b', k, rfl, _, h3, h4, _⟩
  · exact ⟨_, _, _, rfl, by simp⟩
  · exact ⟨_, _, _, rfl, h4.symm⟩
theorem GrC.low {h : Heap} {N M e : Nat} {C : List NV} {v : NV} (g : GrC h N C e v) (hm : M ≤ N) : GrC h M C e v := by
  rcases g with g | ⟨b, k, h1, h2, h3⟩
  · exact .inl g
  · exact .inr ⟨b, k, h1, by omega, h3⟩
/-- Two lists lie in different blocks. -/
def Sep (v w : NV) : Prop := ∀ b o n c o' n' c', v = .slice (some (b, o)) n c → w ≠ .slice (some (b, o')) n' c'
theorem GrC.keep {h h' : Heap} {N e : Nat} {C : List NV} {v w : NV} (g : GrC h N C e v) (k : ∀ b, b < h.length → (∀ o n c, w ≠ .slice (some (b, o)) n c) → hget h' b = hget h b) (s : Sep v w) : GrC h' N C e v := by
  rcases g with g | ⟨b, l, rfl, h2, h3, h4⟩
  · exact .inl g
  · exact .inr ⟨b, l, rfl, h2, by rw [k b (hget_lt h3) fun o n c => s b 0 l _ o n c rfl]; exact h3, h4⟩
theorem GrC.sep {h : Heap} {N e : Nat} {C : List NV} {v w : NV} (g : GrC h N C e v) (k : ∀ b, b < h.length → ∀ o n c, w ≠ .slice (some (b, o)) n c) : Sep v w := by
  intro b o n c o' n' c' e
  rcases g with ⟨_, rfl⟩ | ⟨b2, l, rfl, _, h3, _⟩
  · cases e
  · cases e
    exact k _ (hget_lt h3) _ _ _
end Go.Ns
