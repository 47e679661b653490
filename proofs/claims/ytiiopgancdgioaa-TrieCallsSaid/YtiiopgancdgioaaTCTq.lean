/- Trie: the document's answers, by the tree. -/
import Derived.Test.YtiiopgancdgioaaTCTp
set_option linter.unusedSimpArgs false
set_option linter.unusedVariables false
set_option maxRecDepth 100000
namespace Go.Proofs
open Go.Ns

theorem there_get {bits : Nat} (hb : bits ≤ 128) {t : T} (h : t.ok bits) (v : BitVec 128) (n : Int) : thereK (t.items bits) (v, n) = (getP bits t v n).isSome := by
  have hs := T.sorted hb h.fit
  cases hg : getP bits t v n with
  | some i =>
    have hm := (getP_items hb h.fit v n i).1 hg
    exact (thereK_iff hs _).2 (List.mem_map_of_mem (f := (·.1)) hm)
  | none =>
    cases ht : thereK (t.items bits) (v, n) with
    | false => rfl
    | true =>
      obtain ⟨⟨k, i⟩, hx, e⟩ := List.mem_map.1 ((thereK_iff hs _).1 ht)
      simp only at e
      subst e
      rw [(getP_items hb h.fit v n i).2 hx] at hg; cases hg
theorem put_ins {bits : Nat} (hb : bits ≤ 128) {t : T} (h : t.ok bits) {v : BitVec 128} {n i : Int} (ho : okP bits v n = true) (hg : getP bits t v n = none) : (putO bits t v n i).items bits = insK ltQ (t.items bits) (v, n) i := by
  unfold putO
  rw [if_pos ⟨ho, hg⟩]
  obtain ⟨m, rfl, hm⟩ := okP_nat ho
  have hv := okP_val hb ho
  unfold getP at hg
  rw [if_pos ho, Int.toNat_natCast] at hg
  rw [Int.toNat_natCast, T.items_put hb h.fit (by rw [pathB_length]; simpa using hm) hg, pathB_length, ← hv.2]
theorem rem_cut {bits : Nat} (hb : bits ≤ 128) {t : T} (h : t.ok bits) {v : BitVec 128} {n : Int} (hg : (getP bits t v n).isSome = true) : (remO bits t v n).items bits = (t.items bits).take (placeK ltQ (t.items bits) (v, n)) ++ (t.items bits).drop (placeK ltQ (t.items bits) (v, n) + 1) := by
  have ho : okP bits v n = true := by
    by_cases ho : okP bits v n = true
    · exact ho
    · unfold getP at hg; rw [if_neg ho] at hg; cases hg
  obtain ⟨i, hi⟩ := Option.isSome_iff_exists.1 hg
  have hm := (getP_items hb h.fit v n i).1 hi
  have hat := (T.sorted hb h.fit).mem_at ltQ_ord hm
  simp only at hat
  obtain ⟨hj, e⟩ := List.getElem?_eq_some_iff.1 hat
  unfold remO
  rw [if_pos hg]
  obtain ⟨m, rfl, hmb⟩ := okP_nat ho
  have hv := okP_val hb ho
  rw [Int.toNat_natCast, T.items_rem hb h.fit (p := pathB bits m v) (by rw [pathB_length]; exact hmb) hj (by rw [e, pathB_length]; exact Prod.ext hv.2 rfl)]
/-- What the document's Put and Remove leave. -/
def DocQ (H : Heap) (q bits : Nat) (sl : NV) (L : List PfT) (h : Heap) : Prop := H.length ≤ h.length ∧ (∀ b, b < H.length → b ≠ q → hget h b = hget H b) ∧ ∃ sl', hget h q = some (.cells [.int .i64 bits, sl'] false) ∧ GrE h (L.flatMap pfC) sl' ∧ ∀ b k, sl' = .slice (some (b, 0)) k (.opn 4) → (∃ k, sl = .slice (some (b, 0)) k (.opn 4)) ∨ H.length ≤ b
theorem dput_any (H : Heap) (q bits : Nat) (sl : NV) (t : T) (v : BitVec 128) (n i : Int) (hb : bits ≤ 128) (h : t.ok bits) (hq : hget H q = some (.cells [.int .i64 bits, sl] false)) (hg : GrE H ((t.items bits).flatMap pfC) sl) (hL : (t.items bits).length ≤ 100) :
    DCall Try.prog 11 [.ptr (some (q, 0)), vnv v, .int .i64 n, .int .i64 i] H fun r => r.1 = .bool (okP bits v n && (getP bits t v n).isNone) ∧ DocQ H q bits sl ((putO bits t v n i).items bits) r.2 := by
  by_cases hc : okP bits v n = true ∧ getP bits t v n = none
  · obtain ⟨x, g, c, h1, h2, h3, sl', h4, h5, h6⟩ := rput_new H q bits sl (t.items bits) v n i hq hg hL (by rw [there_get hb h, hc.2]; rfl) hc.1
    refine ⟨x, g, c, by rw [h1, hc.1, hc.2]; rfl, h2, h3, sl', h4, ?_, fun b k e => .inr (h6 b k e)⟩
    rw [put_ins hb h hc.1 hc.2]; exact h5
  · have hx : thereK (t.items bits) (v, n) = true ∨ okP bits v n = false := by
      by_cases ho : okP bits v n = true
      · left
        rw [there_get hb h]
        cases hg : getP bits t v n with
        | none => exact absurd ⟨ho, hg⟩ hc
        | some _ => rfl
      · right; simpa using ho
    refine ⟨_, _, rput_old H q bits sl (t.items bits) v n i hq hg hL hx, ?_, Nat.le_refl _, fun _ _ _ => rfl, sl, hq, ?_, fun b k e => .inl ⟨k, e⟩⟩
    · rcases hx with hx | hx
      · rw [there_get hb h] at hx
        cases hg : getP bits t v n with
        | none => rw [hg] at hx; cases hx
        | some _ => simp
      · rw [hx]; rfl
    · unfold putO
      rw [if_neg hc]; exact hg
theorem drem_any (H : Heap) (q bits : Nat) (sl : NV) (t : T) (v : BitVec 128) (n : Int) (hb : bits ≤ 128) (h : t.ok bits) (hq : hget H q = some (.cells [.int .i64 bits, sl] false)) (hg : GrE H ((t.items bits).flatMap pfC) sl) (hL : (t.items bits).length ≤ 100) :
    DCall Try.prog 18 [.ptr (some (q, 0)), vnv v, .int .i64 n] H fun r => r.1 = .bool (getP bits t v n).isSome ∧ DocQ H q bits sl ((remO bits t v n).items bits) r.2 := by
  by_cases hc : (getP bits t v n).isSome = true
  · obtain ⟨x, g, c, h1, h2, h3, sl', h4, h5, h6⟩ := rrem_there H q bits sl (t.items bits) v n hq hg hL (by rw [there_get hb h]; exact hc)
    refine ⟨x, g, c, by rw [h1, hc], h2, h3, sl', h4, ?_, fun b k e => .inr (h6 b k e)⟩
    rw [rem_cut hb h hc]; exact h5
  · have hc' : (getP bits t v n).isSome = false := by simpa using hc
    refine ⟨_, _, rrem_not H q bits sl (t.items bits) v n hq hg hL (by rw [there_get hb h]; exact hc'), by rw [hc'], Nat.le_refl _, fun _ _ _ => rfl, sl, hq, ?_, fun b k e => .inl ⟨k, e⟩⟩
    unfold remO
    rw [if_neg hc]; exact hg
theorem dget_any (H : Heap) (q bits : Nat) (sl : NV) (t : T) (v : BitVec 128) (n : Int) (hb : bits ≤ 128) (h : t.ok bits) (hq : hget H q = some (.cells [.int .i64 bits, sl] false)) (hg : GrE H ((t.items bits).flatMap pfC) sl) (hL : (t.items bits).length ≤ 100) :
    NCall Try.prog 20 [.ptr (some (q, 0)), vnv v, .int .i64 n] H fun r => r = (.tup [.int .i64 ((getP bits t v n).getD 0), .bool (getP bits t v n).isSome], H) := by
  have key := rget_ok H q bits sl (t.items bits) v n hq hg hL
  rw [there_get hb h] at key
  cases hp : getP bits t v n with
  | none => rw [hp] at key; exact key
  | some i =>
    have hm := (getP_items hb h.fit v n i).1 hp
    have hat := (T.sorted hb h.fit).mem_at ltQ_ord hm
    simp only at hat
    rw [hp, hat] at key
    exact key

/-! ### Longest -/
theorem cov_iff {bits : Nat} (hb : bits ≤ 128) {v : BitVec 128} {p : List Bool} (hp : p.length ≤ bits) (i : Int) : covB bits v ((valP bits p, (p.length : Int)), i) = true ↔ pathB bits p.length v = p := by
  have key : v &&& leadV bits (p.length : Int) = valP bits (pathB bits p.length v) := by
    apply BitVec.eq_of_getLsbD_eq
    intro j hj
    rw [BitVec.getLsbD_and, leadV_get hb hp hj, valP_get hj]
    by_cases hjb : j < bits
    · by_cases hjn : bits - p.length ≤ j
      · rw [pathB_at (by omega)]
        unfold bitAt
        rw [show bits - 1 - (bits - 1 - j) = j by omega]
        simp [hjb, hjn]
      · rw [List.getElem?_eq_none (by rw [pathB_length]; omega)]; simp [hjn]
    · simp [hjb]
  unfold covB
  simp only [beq_iff_eq]
  rw [key]
  constructor
  · intro e; exact valP_inj hb (by rw [pathB_length]; exact hp) (by rw [pathB_length]) e
  · intro e; rw [e]
/-- What a fold over a list of prefixes comes to. -/
theorem fold_spec {bits : Nat} {v : BitVec 128} (hf : bl v.toNat ≤ bits) : ∀ (L M : List PfT) (a : Int × Int × Bool),
    ((a = (0, 0, false) ∧ ∀ x, x ∈ M → covB bits v x = false) ∨ ∃ x, x ∈ M ∧ covB bits v x = true ∧ a = (x.1.2, x.2, true) ∧ ∀ y, y ∈ M → covB bits v y = true → y.1.2 ≤ x.1.2) →
    ((L.foldl (stepL bits v) a = (0, 0, false) ∧ ∀ x, x ∈ M ++ L → covB bits v x = false) ∨ ∃ x, x ∈ M ++ L ∧ covB bits v x = true ∧ L.foldl (stepL bits v) a = (x.1.2, x.2, true) ∧ ∀ y, y ∈ M ++ L → covB bits v y = true → y.1.2 ≤ x.1.2)
  | [], M, a, h => by rw [List.append_nil]; exact h
  | z :: L, M, a, h => by
    have := fold_spec hf L (M ++ [z]) (stepL bits v a z)
    rw [List.append_assoc, List.singleton_append] at this
    refine this ?_
    rcases h with ⟨rfl, h⟩ | ⟨x, hx, hc, rfl, hm⟩
    · by_cases hz : covB bits v z = true
      · right
        refine ⟨z, by simp, hz, by unfold stepL; rw [if_pos ⟨hz, .inl rfl, hf⟩], fun y hy hcy => ?_⟩
        rcases List.mem_append.1 hy with hy | hy
        · rw [h y hy] at hcy; cases hcy
        · rw [List.mem_singleton.1 hy]; exact Int.le_refl _
      · left
        refine ⟨by unfold stepL; rw [if_neg (fun x => hz x.1)], fun y hy => ?_⟩
        rcases List.mem_append.1 hy with hy | hy
        · exact h y hy
        · rw [List.mem_singleton.1 hy]; simpa using hz
    · right
      by_cases hz : covB bits v z = true ∧ z.1.2 > x.1.2
      · refine ⟨z, by simp, hz.1, by unfold stepL; rw [if_pos ⟨hz.1, .inr hz.2, hf⟩], fun y hy hcy => ?_⟩
        rcases List.mem_append.1 hy with hy | hy
        · have := hm y hy hcy; omega
        · rw [List.mem_singleton.1 hy]; exact Int.le_refl _
      · refine ⟨x, by simp [hx], hc, ?_, fun y hy hcy => ?_⟩
        · unfold stepL
          rw [if_neg]
          rintro ⟨h1, h2 | h2, _⟩
          · cases h2
          · exact hz ⟨h1, h2⟩
        · rcases List.mem_append.1 hy with hy | hy
          · exact hm y hy hcy
          · rw [List.mem_singleton.1 hy] at hcy ⊢
            rcases Int.lt_or_le x.1.2 z.1.2 with h | h
            · exact absurd ⟨hcy, h⟩ hz
            · exact h
theorem fold_unfit {bits : Nat} {v : BitVec 128} (hf : ¬ bl v.toNat ≤ bits) : ∀ (L : List PfT) (a : Int × Int × Bool), L.foldl (stepL bits v) a = a
  | [], a => rfl
  | z :: L, a => by
    rw [List.foldl_cons, show stepL bits v a z = a by unfold stepL; rw [if_neg (fun x => hf x.2.2)]]
    exact fold_unfit hf L a
theorem long_fold {bits : Nat} (hb : bits ≤ 128) {t : T} (h : t.ok bits) (v : BitVec 128) : (t.items bits).foldl (stepL bits v) (0, 0, false) = (let a := if bl v.toNat ≤ bits then t.long (pathB bits bits v) 0 (0, 0, false) else (0, 0, false); ((a.1 : Int), a.2.1, a.2.2)) := by
  by_cases hf : bl v.toNat ≤ bits
  · rw [if_pos hf]
    have htk : ∀ m, m ≤ bits → (pathB bits bits v).take m = pathB bits m v := fun m hm => pathB_take hm
    have hitem : ∀ x, x ∈ t.items bits → covB bits v x = true → ∃ m, m ≤ bits ∧ x.1.2 = (m : Int) ∧ t.get (pathB bits m v) = some x.2 := by
      intro x hx hc
      obtain ⟨p, i, h1, rfl⟩ := (T.mem_items hb h.fit x).1 hx
      have hl := T.get_fit p h.fit h1
      have := (cov_iff hb (by omega) i).1 hc
      exact ⟨p.length, by omega, rfl, by rw [this]; exact h1⟩
    have hin : ∀ m i, m ≤ bits → t.get (pathB bits m v) = some i → ∃ x, x ∈ t.items bits ∧ covB bits v x = true ∧ x.1.2 = (m : Int) ∧ x.2 = i := by
      intro m i hm hg
      refine ⟨((valP bits (pathB bits m v), ((pathB bits m v).length : Int)), i), (T.mem_items hb h.fit _).2 ⟨_, i, hg, rfl⟩, (cov_iff hb (by rw [pathB_length]; exact hm) i).2 (by rw [pathB_length]), by simp [pathB_length], rfl⟩
    have hs := fold_spec hf (t.items bits) [] (0, 0, false) (.inl ⟨rfl, fun x hx => by cases hx⟩)
    rw [List.nil_append] at hs
    rcases T.long_spec (pathB bits bits v) t 0 (0, 0, false) with ⟨n, i, h1, h2, h3, h4⟩ | ⟨h1, h2⟩
    · rw [pathB_length] at h1 h3
      rw [h4]
      rw [htk n h1] at h2
      obtain ⟨y, y1, y2, y3, y4⟩ := hin n i h1 h2
      rcases hs with ⟨_, hs⟩ | ⟨x, x1, x2, x3, x4⟩
      · rw [hs y y1] at y2; cases y2
      · obtain ⟨m, m1, m2, m3⟩ := hitem x x1 x2
        have hle := x4 y y1 y2
        have hmn : m = n := by
          rcases Nat.lt_or_ge n m with hlt | hge
          · have := h3 m hlt m1
            rw [htk m m1, m3] at this; cases this
          · omega
        subst hmn
        rw [h2] at m3
        cases m3
        rw [x3, m2]
        simp
    · rw [h2]
      rw [pathB_length] at h1
      rcases hs with ⟨hs, _⟩ | ⟨x, x1, x2, x3, x4⟩
      · exact hs
      · obtain ⟨m, m1, m2, m3⟩ := hitem x x1 x2
        have := h1 m m1
        rw [htk m m1, m3] at this; cases this
  · rw [if_neg hf, fold_unfit hf]; rfl
def inD (sl : NV) (b : Nat) : Prop := ∃ k, sl = .slice (some (b, 0)) k (.opn 4)
structure StD (N : Nat) (h : Heap) (qx qy bits : Nat) (tx : TT) (L : List PfT) (sl : NV) : Prop where
  x : TrieAt h qx bits tx
  ox : tx.er.ok bits
  hy : hget h qy = some (.cells [.int .i64 bits, sl] false)
  gy : GrE h (L.flatMap pfC) sl
  lx : ∀ b, b = qx ∨ b ∈ tx.bl → N ≤ b ∧ b ≠ qy ∧ ¬ inD sl b
  ly : N ≤ qy ∧ ¬ inD sl qy ∧ ∀ b, inD sl b → N ≤ b
  hN : N ≤ h.length
theorem GrE.ltb {h : Heap} {C : List NV} {v : NV} (g : GrE h C v) {b : Nat} (hb : inD v b) : b < h.length := by
  obtain ⟨k, rfl⟩ := hb
  rcases g with ⟨_, A, e⟩ | ⟨b', k', e, h1, _⟩
  · cases e
  · simp only [NV.slice.injEq, Option.some.injEq, Prod.mk.injEq] at e
    rw [e.1.1]; exact hget_some_lt h1
theorem GrE.keepD {h h' : Heap} {C : List NV} {v : NV} (g : GrE h C v) (k : ∀ b, inD v b → hget h' b = hget h b) : GrE h' C v := by
  rcases g with g | ⟨b, l, h1, h2, h3⟩
  · exact .inl g
  · exact .inr ⟨b, l, h1, by rw [k b ⟨l, h1⟩]; exact h2, h3⟩
section
variable {N : Nat} {h h' : Heap} {qx qy bits : Nat} {tx : TT} {L : List PfT} {sl : NV}
theorem StD.app (s : StD N h qx qy bits tx L sl) (M : Heap) : StD N (h ++ M) qx qy bits tx L sl :=
  ⟨s.x.app M, s.ox, by rw [hget_appl (hget_some_lt s.hy)]; exact s.hy, s.gy.mono fun b hb => hget_appl hb, s.lx, s.ly, by have := s.hN; simp; omega⟩
theorem StD.keep (s : StD N h qx qy bits tx L sl) (hl : h.length ≤ h'.length) (k : ∀ b, N ≤ b → b < h.length → hget h' b = hget h b) : StD N h' qx qy bits tx L sl :=
  ⟨s.x.keep fun b hb => k b (s.lx b hb).1 (s.x.lt hb), s.ox, by rw [k qy s.ly.1 (hget_some_lt s.hy)]; exact s.hy, s.gy.keepD fun b hb => k b (s.ly.2.2 b hb) (s.gy.ltb hb), s.lx, s.ly, Nat.le_trans s.hN hl⟩
theorem StD.putX (s : StD N h qx qy bits tx L sl) {t2 : T} {tx' : TT} (p : PutQ h qx bits tx t2 h' tx') (ho : t2.ok bits) : StD N h' qx qy bits tx' L sl ∧ ∀ b, b < N → hget h' b = hget h b := by
  have new : ∀ b, b = qx ∨ b ∈ tx'.bl → (b = qx ∨ b ∈ tx.bl) ∨ h.length ≤ b := by
    rintro b (rfl | hb)
    · exact .inl (.inl rfl)
    · exact (p.new b hb).imp .inr id
  have keep : ∀ b, b < h.length → ¬ (b = qx ∨ b ∈ tx.bl) → hget h' b = hget h b := fun b hb hn => p.keep b hb (fun e => hn (.inl e)) (fun e => hn (.inr e))
  have ly := hget_some_lt s.hy
  refine ⟨⟨p.tr, by rw [p.er]; exact ho, by rw [keep qy ly fun hx => (s.lx qy hx).2.1 rfl]; exact s.hy, s.gy.keepD fun b hb => keep b (s.gy.ltb hb) fun hx => (s.lx b hx).2.2 hb,
    fun b hb => ?_, s.ly, Nat.le_trans s.hN p.len⟩, fun b hb => keep b (by have := s.hN; omega) fun hx => by have := (s.lx b hx).1; omega⟩
  rcases new b hb with h1 | h1
  · exact s.lx b h1
  · exact ⟨Nat.le_trans s.hN h1, by omega, fun hd => by have := s.gy.ltb hd; omega⟩
theorem StD.doc (s : StD N h qx qy bits tx L sl) {L' : List PfT} (d : DocQ h qy bits sl L' h') : ∃ sl', StD N h' qx qy bits tx L' sl' ∧ ∀ b, b < N → hget h' b = hget h b := by
  obtain ⟨d1, d2, sl', d3, d4, d5⟩ := d
  have ly := hget_some_lt s.hy
  have new : ∀ b, inD sl' b → inD sl b ∨ h.length ≤ b := fun b ⟨k, e⟩ => d5 b k e
  refine ⟨sl', ⟨s.x.keep fun b hb => d2 b (s.x.lt hb) (s.lx b hb).2.1, s.ox, d3, d4, fun b hb => ?_, ⟨s.ly.1, fun hd => ?_, fun b hd => ?_⟩, Nat.le_trans s.hN d1⟩, fun b hb => d2 b (by have := s.hN; omega) (by have := s.ly.1; omega)⟩
  · obtain ⟨h1, h2, h3⟩ := s.lx b hb
    refine ⟨h1, h2, fun hd => ?_⟩
    rcases new b hd with h4 | h4
    · exact h3 h4
    · have := s.x.lt hb; omega
  · rcases new qy hd with h4 | h4
    · exact s.ly.2.1 h4
    · omega
  · rcases new b hd with h4 | h4
    · exact s.ly.2.2 b h4
    · have := s.hN; omega
end
end Go.Proofs
