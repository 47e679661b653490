/- Arguments that are lists of bytes. -/
import Derived.Test.YtiiopgancdgioaaFsF
set_option linter.unusedVariables false
set_option linter.unusedSimpArgs false
namespace Go.Ns

/-- What a law may know of an argument of bytes. -/
def BytesArg (H : Heap) (v : NV) (xs : List Int) : Prop :=
  (v = .slice none 0 (.fix 0) ∧ xs = []) ∨ ∃ b m cs ro, v = .slice (some (b, 0)) xs.length (.fix m) ∧ hget H b = some (.cells cs ro) ∧ xs.length ≤ m ∧ m ≤ 9223372036854775807 ∧ (∀ i (hi : i < xs.length), cs[i]? = some (.int .u8 xs[i])) ∧ (∀ x ∈ xs, 0 ≤ x ∧ x ≤ 255)

theorem BytesArg.app {H L : Heap} {v : NV} {xs : List Int} (h : BytesArg H v xs) : BytesArg (H ++ L) v xs := by
  rcases h with h | ⟨b, m, cs, ro, h0, h1, h2⟩
  · exact .inl h
  · exact .inr ⟨b, m, cs, ro, h0, by rw [hget_appl (hget_lt h1)]; exact h1, h2⟩

theorem rows_bytes : ∀ {rows : List (List NV)}, (∀ r ∈ rows, typeds [.int .u8] r) → ∃ zs : List Int, rows.flatten = zs.map (.int .u8) ∧ zs.length = rows.length ∧ ∀ z ∈ zs, 0 ≤ z ∧ z ≤ 255
  | [], _ => ⟨[], rfl, rfl, by simp⟩
  | r :: rows, h => by
    obtain ⟨zs, h1, h2, h3⟩ := rows_bytes fun x hx => h x (List.mem_cons_of_mem _ hx)
    have hr := h r (List.mem_cons_self ..)
    match r, hr with
    | [.int k z], hr =>
      obtain ⟨⟨rfl, hw⟩, _⟩ := hr
      have hb := bounds_u8 hw
      refine ⟨z :: zs, by simp [h1], by simp [h2], ?_⟩
      intro y hy
      rcases List.mem_cons.1 hy with rfl | hy
      · exact hb
      · exact h3 y hy
    | [.bool _], hr => exact hr.1.elim
    | [.str _], hr => exact hr.1.elim
    | [.ptr _], hr => exact hr.1.elim
    | [.slice _ _ _], hr => exact hr.1.elim
    | [.map _], hr => exact hr.1.elim
    | [.func _ _ _], hr => exact hr.1.elim
    | [.nilFunc], hr => exact hr.1.elim
    | [.iface _ _], hr => exact hr.1.elim
    | [.nilIface], hr => exact hr.1.elim
    | [.agg _], hr => exact hr.1.elim
    | [.tup _], hr => exact hr.1.elim

theorem argOK_bytes {H : Heap} {b : Nat} {v : NV} {x : Option NBlk} (h : argOK (.sl [.int .u8]) b v x) (hx : hget H b = x) : ∃ xs, BytesArg H v xs := by
  rcases h with ⟨rfl, _⟩ | ⟨n, c, rows, rfl, rfl, hn, hc, hl, hr⟩
  · exact ⟨[], .inl ⟨rfl, rfl⟩⟩
  · obtain ⟨zs, h1, h2, h3⟩ := rows_bytes hr
    have hm : maxLen ≤ 9223372036854775807 := by decide
    have hlen : (zs.take n).length = n := by simp; omega
    refine ⟨zs.take n, .inr ⟨b, c, _, true, by rw [hlen], hx, by omega, by omega, ?_, ?_⟩⟩
    · intro i hi
      rw [h1, List.getElem?_map, List.getElem?_eq_getElem (by omega)]
      simp
    · intro z hz; exact h3 z (List.mem_of_mem_take hz)

/-- An integer argument. -/
theorem argOK_int {k : IntKind} {b : Nat} {v : NV} {x : Option NBlk} (h : argOK (.flat [.int k] false) b v x) : ∃ n, v = .int k n ∧ (Lit.int k n).wf = true ∧ x = none := by
  obtain ⟨h, hx⟩ := h
  simp only [isFlatV, Bool.false_eq_true, if_false] at h
  obtain ⟨k', hk, h⟩ := h
  simp only [List.cons.injEq, and_true] at hk
  subst hk
  cases v <;> first | (obtain ⟨rfl, h⟩ := h; exact ⟨_, rfl, h, hx⟩) | exact h.elim

theorem argsOK_cons {k : PK} {ks : List PK} {b : Nat} {nvs : List NV} {h : Heap} (a : argsOK (k :: ks) b nvs h) : ∃ v vs x h', nvs = v :: vs ∧ h = x :: h' ∧ argOK k b v x ∧ argsOK ks (b + 1) vs h' := by
  cases nvs with
  | nil => exact a.elim
  | cons v vs =>
    cases h with
    | nil => exact a.elim
    | cons x h => exact ⟨v, vs, x, h, rfl, rfl, a.1, a.2⟩
theorem argsOK_nil {b : Nat} {nvs : List NV} {h : Heap} (a : argsOK [] b nvs h) : nvs = [] ∧ h = [] := by
  cases nvs with
  | nil =>
    cases h with
    | nil => exact ⟨rfl, rfl⟩
    | cons x h => exact a.elim
  | cons v vs => exact a.elim

end Go.Ns
