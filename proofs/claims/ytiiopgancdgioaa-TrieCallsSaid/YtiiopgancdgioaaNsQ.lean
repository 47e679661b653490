/- Results in another numbering: what a call leaves behind and nobody can reach is forgotten. -/
import Derived.Test.YtiiopgancdgioaaNsP
set_option linter.unusedVariables false
set_option linter.unusedSimpArgs false
namespace Go.Ns

mutual
def NV.ren (g : Nat → Nat) : NV → NV
  | .ptr (some (b, o)) => .ptr (some (g b, o))
  | .slice (some (b, o)) n c => .slice (some (g b, o)) n c
  | .map (some b) => .map (some (g b))
  | .func fn a b => .func fn (NV.rens g a) (NV.rens g b)
  | .iface t v => .iface t (NV.ren g v)
  | .agg cs => .agg (NV.rens g cs)
  | .tup cs => .tup (NV.rens g cs)
  | v => v
def NV.rens (g : Nat → Nat) : List NV → List NV
  | [] => []
  | v :: vs => NV.ren g v :: NV.rens g vs
end

theorem NV.one_ren {g : Nat → Nat} : ∀ (v : NV), (v.ren g).one = v.one
  | .bool _ | .int .. | .str _ | .func .. | .nilFunc | .iface .. | .nilIface | .agg _ | .tup _ => rfl
  | .ptr none | .ptr (some (_, _)) | .slice none .. | .slice (some (_, _)) .. | .map none | .map (some _) => rfl

theorem NV.all_one_rens {g : Nat → Nat} : ∀ (cs : List NV), (NV.rens g cs).all NV.one = cs.all NV.one
  | [] => rfl
  | c :: cs => by simp only [NV.rens, List.all_cons, NV.one_ren, NV.all_one_rens cs]

theorem NV.rens_length {g : Nat → Nat} : ∀ (cs : List NV), (NV.rens g cs).length = cs.length
  | [] => rfl
  | c :: cs => by simp [NV.rens, NV.rens_length cs]

mutual
theorem VRel.ren {φ ψ : PMap} {g : Nat → Nat} (h : ∀ b p, φ (g b) = some p → ψ b = some p) : ∀ {n : NV} {v : Value}, VRel φ (n.ren g) v → VRel ψ n v
  | .bool _, _, e => e
  | .int _ _, _, e => e
  | .str _, _, e => e
  | .ptr none, _, e => e
  | .ptr (some (_, _)), _, ⟨p, hp, e⟩ => ⟨p, h _ _ hp, e⟩
  | .slice none _ _, _, e => e
  | .slice (some (_, _)) _ (.fix _), _, ⟨p, off, hp, r⟩ => ⟨p, off, h _ _ hp, r⟩
  | .slice (some (_, _)) _ (.opn _), _, ⟨p, off, cap, hp, r⟩ => ⟨p, off, cap, h _ _ hp, r⟩
  | .map none, _, e => e
  | .map (some _), _, ⟨p, hp, e⟩ => ⟨p, h _ _ hp, e⟩
  | .func _ a b, _, ⟨x, y, e, ha, hb⟩ => ⟨x, y, e, VRels.ren h ha, VRels.ren h hb⟩
  | .nilFunc, _, e => e
  | .iface _ x, _, ⟨y, e, hx⟩ => ⟨y, e, VRel.ren h hx⟩
  | .nilIface, _, e => e
  | .agg cs, _, ⟨vs, e, hc, h1⟩ => ⟨vs, e, VRels.ren h hc, by rw [NV.all_one_rens] at h1; exact h1⟩
  | .tup cs, _, ⟨vs, e, hc⟩ => ⟨vs, e, VRels.ren h hc⟩
theorem VRels.ren {φ ψ : PMap} {g : Nat → Nat} (h : ∀ b p, φ (g b) = some p → ψ b = some p) : ∀ {n : List NV} {v : List Value}, VRels φ (NV.rens g n) v → VRels ψ n v
  | [], _, e => e
  | _ :: _, _, ⟨v, r, e, hv, hr⟩ => ⟨v, r, e, VRel.ren h hv, VRels.ren h hr⟩
end


def NEnt.ren (g : Nat → Nat) (e : NEnt) : NEnt := ⟨e.key.ren g, e.val.ren g, e.born⟩

def NBlk.ren (g : Nat → Nat) : NBlk → NBlk
  | .cells cs ro => .cells (NV.rens g cs) ro
  | .map es c => .map (es.map (NEnt.ren g)) c
  | .iter m a b c => .iter (m.map g) a b c

theorem ERels.ren {φ ψ : PMap} {g : Nat → Nat} (h : ∀ b p, φ (g b) = some p → ψ b = some p) : ∀ {n : List NEnt} {v : List MapEntry}, ERels φ (n.map (NEnt.ren g)) v → ERels ψ n v
  | [], _, e => e
  | _ :: _, _, ⟨v, r, e, hk, hv, hb, hr⟩ => ⟨v, r, e, VRel.ren h hk, VRel.ren h hv, hb, ERels.ren h hr⟩

theorem ObjRel.ren {φ ψ : PMap} {g : Nat → Nat} (h : ∀ b p, φ (g b) = some p → ψ b = some p) {p : Place} {o : Obj} {x : NBlk} (hr : ObjRel φ p o (x.ren g)) : ObjRel ψ p o x := by
  cases x with
  | cells cs ro =>
    obtain ⟨c, e, fz, h1, h2, h3, h4, h5, h6, h7⟩ := hr
    rw [NV.rens_length] at h3
    rw [NV.all_one_rens] at h7
    exact ⟨c, e, fz, h1, h2, h3, h4, h5, h6.ren h, h7⟩
  | map es c =>
    obtain ⟨h0, es', h1, h2⟩ := hr
    exact ⟨h0, es', h1, h2.ren h⟩
  | iter m a b c =>
    cases m with
    | none => exact hr
    | some m =>
      obtain ⟨h0, q, h1, h2⟩ := hr
      exact ⟨h0, q, h _ _ h1, h2⟩

/-! What an old numbering says of a value, it says of it again. -/
mutual
theorem VRel.back {φ ψ : PMap} (h : φ.le ψ) : ∀ {n : NV} {v u : Value}, VRel φ n v → VRel ψ n u → VRel φ n u
  | .bool _, _, _, _, e => e
  | .int _ _, _, _, _, e => e
  | .str _, _, _, _, e => e
  | .ptr none, _, _, _, e => e
  | .ptr (some (_, _)), _, _, ⟨p, hp, _⟩, ⟨q, hq, e⟩ => by
    have := h _ _ hp; rw [hq] at this; cases this; exact ⟨p, hp, e⟩
  | .slice none _ _, _, _, _, e => e
  | .slice (some (_, _)) _ (.fix _), _, _, ⟨p, _, hp, _⟩, ⟨q, off, hq, r⟩ => by
    have := h _ _ hp; rw [hq] at this; cases this; exact ⟨p, off, hp, r⟩
  | .slice (some (_, _)) _ (.opn _), _, _, ⟨p, _, _, hp, _⟩, ⟨q, off, cap, hq, r⟩ => by
    have := h _ _ hp; rw [hq] at this; cases this; exact ⟨p, off, cap, hp, r⟩
  | .map none, _, _, _, e => e
  | .map (some _), _, _, ⟨p, hp, _⟩, ⟨q, hq, e⟩ => by
    have := h _ _ hp; rw [hq] at this; cases this; exact ⟨p, hp, e⟩
  | .func _ a b, _, _, ⟨_, _, _, ha, hb⟩, ⟨x, y, e, ha', hb'⟩ => ⟨x, y, e, VRels.back h ha ha', VRels.back h hb hb'⟩
  | .nilFunc, _, _, _, e => e
  | .iface _ x, _, _, ⟨_, _, hx⟩, ⟨y, e, hx'⟩ => ⟨y, e, VRel.back h hx hx'⟩
  | .nilIface, _, _, _, e => e
  | .agg cs, _, _, ⟨_, _, hc, _⟩, ⟨vs, e, hc', h1⟩ => ⟨vs, e, VRels.back h hc hc', h1⟩
  | .tup cs, _, _, ⟨_, _, hc⟩, ⟨vs, e, hc'⟩ => ⟨vs, e, VRels.back h hc hc'⟩
theorem VRels.back {φ ψ : PMap} (h : φ.le ψ) : ∀ {n : List NV} {v u : List Value}, VRels φ n v → VRels ψ n u → VRels φ n u
  | [], _, _, _, e => e
  | _ :: _, _, _, ⟨_, _, _, hv, hr⟩, ⟨v, r, e, hv', hr'⟩ => ⟨v, r, e, VRel.back h hv hv', VRels.back h hr hr'⟩
end

theorem ERels.back {φ ψ : PMap} (h : φ.le ψ) : ∀ {n : List NEnt} {v u : List MapEntry}, ERels φ n v → ERels ψ n u → ERels φ n u
  | [], _, _, _, e => e
  | _ :: _, _, _, ⟨_, _, _, hk, hv, _, hr⟩, ⟨v, r, e, hk', hv', hb, hr'⟩ => ⟨v, r, e, hk.back h hk', hv.back h hv', hb, ERels.back h hr hr'⟩

theorem ObjRel.back {φ ψ : PMap} (h : φ.le ψ) {p p' : Place} {o o' : Obj} {x : NBlk} (hr : ObjRel φ p o x) (hs : ObjRel ψ p' o' x) : ObjRel φ p' o' x := by
  cases x with
  | cells cs ro =>
    obtain ⟨_, _, _, _, _, _, _, _, h6, _⟩ := hr
    obtain ⟨c, e, fz, g1, g2, g3, g4, g5, g6, g7⟩ := hs
    exact ⟨c, e, fz, g1, g2, g3, g4, g5, h6.back h g6, g7⟩
  | map es c =>
    obtain ⟨_, _, _, h2⟩ := hr
    obtain ⟨h0, es', g1, g2⟩ := hs
    exact ⟨h0, es', g1, h2.back h g2⟩
  | iter m a b c =>
    cases m with
    | none => exact hs
    | some m =>
      obtain ⟨_, q, h1, _⟩ := hr
      obtain ⟨h0, q', g1, g2⟩ := hs
      have := h _ _ h1; rw [g1] at this; cases this
      exact ⟨h0, q, h1, g2⟩

/-- The results of a run, 'v' and 'k', are 'v2' and 'h2' in another numbering. -/
structure Canon (h : Heap) (g : Nat → Nat) (v : NV) (k : Heap) (v2 : NV) (h2 : Heap) : Prop where
  val : v = v2.ren g
  old : ∀ b, b < h.length → g b = b
  big : ∀ b, h2.length ≤ b → k.length ≤ g b
  len : h.length ≤ h2.length
  inj : ∀ b c, b < h2.length → c < h2.length → g b = g c → b = c
  blk : ∀ b x, hget h2 b = some x → hget k (g b) = some (x.ren g) ∨ (b < h.length ∧ hget h b = some x ∧ hget k b = some x)

theorem NFun.canon {P : Program} {f : Nat} {args : List NV} {h : Heap} {Q Q' : NV × Heap → Prop} (t : NFun P f args h Q)
    (hq : ∀ q, Q q → ∃ g v2 h2, Canon h g q.1 q.2 v2 h2 ∧ Q' (v2, h2)) : NFun P f args h Q' := by
  intro C φ w vargs hv r
  let C' : Cx := { C with G := φ, N := fun b => b < h.length ∧ φ b = none }
  have r' : Rel C' φ w h := ⟨r.blk, r.lt, r.dom, r.inj, r.keep, r.away, PMap.le.refl φ, r.os, r.tape, r.output, r.grow, fun b hb => ⟨hb.2, hb.1⟩, r.far⟩
  refine Calls.mono (t C' φ w vargs hv r') ?_
  rintro e w' ⟨u, rfl, v, k, φ', hQ, hle, hvr, s⟩
  obtain ⟨g, v2, h2, c, hQ'⟩ := hq _ hQ
  refine ⟨u, rfl, v2, h2, fun b => φ' (g b), hQ', ?_, ?_, ?_⟩
  · intro b p hb
    show φ' (g b) = some p
    rw [c.old b (r.dom b p hb)]; exact hle b p hb
  · have := c.val
    simp only at this
    rw [this] at hvr
    exact hvr.ren fun b p hb => hb
  · have hold : ∀ b, b < h.length → φ' b = φ b := by
      intro b hb
      cases e : φ b with
      | some p => exact hle b p e
      | none => exact (s.resv b ⟨hb, e⟩).1
    have hle2 : φ.le fun b => φ' (g b) := by
      intro b p hb
      show φ' (g b) = some p
      rw [c.old b (r.dom b p hb)]; exact hle b p hb
    have hfrom : ∀ b x, hget h2 b = some x → ∃ y, hget k (g b) = some y ∧ writable y = writable x := by
      intro b x hb
      rcases c.blk b x hb with h1 | ⟨h1, h3, h4⟩
      · exact ⟨_, h1, by cases x <;> rfl⟩
      · exact ⟨x, by rw [c.old b h1]; exact h4, rfl⟩
    refine ⟨?_, fun b p hb => s.lt _ p hb, ?_, ?_, s.keep, ?_, r.anchor.trans hle2, s.os, s.tape, s.output, s.grow, ?_, ?_⟩
    · intro b x p hb hp
      rcases c.blk b x hb with h1 | ⟨h1, h3, h4⟩
      · obtain ⟨o, ho, hr⟩ := s.blk _ _ p h1 hp
        exact ⟨o, ho, hr.ren fun b p hb => hb⟩
      · simp only [c.old b h1] at hp
        obtain ⟨o', ho', hr'⟩ := s.blk b x p h4 hp
        rw [hold b h1] at hp
        obtain ⟨o, ho, hr⟩ := r.blk b x p h3 hp
        exact ⟨o', ho', (hr.back hle hr').mono hle2⟩
    · intro b p hp
      rcases Nat.lt_or_ge b h2.length with hl | hl
      · exact hl
      · have := s.dom _ p hp
        have := c.big b hl
        simp only at this
        omega
    · intro b b' x x' p p' hb hb' hp hp' hw he
      obtain ⟨y, hy, hyw⟩ := hfrom b x hb
      obtain ⟨y', hy', _⟩ := hfrom b' x' hb'
      have := s.inj _ _ y y' p p' hy hy' hp hp' (by rw [hyw]; exact hw) he
      exact c.inj b b' (hget_lt hb) (hget_lt hb') this
    · intro b x p hb hp hw
      obtain ⟨y, hy, hyw⟩ := hfrom b x hb
      exact s.away _ y p hy hp (by rw [hyw]; exact hw)
    · intro b hb
      obtain ⟨h1, h3⟩ := r.resv b hb
      have := c.len
      refine ⟨?_, by omega⟩
      rw [c.old b h3, hold b h3]; exact h1
    · intro b x p hb hp
      obtain ⟨y, hy, hyw⟩ := hfrom b x hb
      exact s.far _ y p hy hp

end Go.Ns
