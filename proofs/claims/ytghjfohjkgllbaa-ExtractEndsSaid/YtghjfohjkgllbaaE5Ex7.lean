/- Extract: what Parse comes to; a header as a step of it. -/
import Derived.Test.YtghjfohjkgllbaaE5Ex6
set_option linter.unusedSimpArgs false
set_option linter.unusedVariables false
set_option maxRecDepth 10000
namespace Go.Proofs
open Go.Ns

structure Cx where
  fl : List (BitVec 128)
  vl : List Bool
  o : Nat
  st : Nat
def XA.hdr (A : XA) (d : Nat → BitVec 8) (c : Cx) (k : Nat) : Cx := ⟨(A.run (fun i => d (c.o + i)) c.fl (A.hf k)).1, c.vl.set k true, c.o + A.sum (A.hf k) / 8, c.st⟩
def XA.fits (A : XA) (m : Nat) (c : Cx) (hd : Int) : Prop := hd = 0 ∨ A.sum (A.hf (A.hl.idxOf hd)) / 8 ≤ m - c.o
instance {A : XA} {m : Nat} {c : Cx} {hd : Int} : Decidable (A.fits m c hd) := by unfold XA.fits; infer_instance
def XA.ext (A : XA) (d : Nat → BitVec 8) (c : Cx) (hd : Int) : Cx := if hd = 0 then c else A.hdr d c (A.hl.idxOf hd)
def Cx.tick (c : Cx) : Cx := ⟨c.fl, c.vl, c.o, c.st + 1⟩
/-- What Parse comes to. -/
def XA.go (A : XA) (m : Nat) (d : Nat → BitVec 8) : Nat → Cx → Nat → Cx × Int
  | 0, c, _ => (c, 4)
  | k + 1, c, a => if A.fits m c.tick (A.sd a).hd then
      (let c2 := A.ext d c.tick (A.sd a).hd
       let id := A.next c2.fl (A.sd a)
       if id = 0 then (c2, 0) else if id = 65535 then (c2, 3) else A.go m d k c2 (A.sl.idxOf id))
    else (c.tick, 2)
def XA.parse (A : XA) (m : Nat) (d : Nat → BitVec 8) (c : Cx) : Cx × Int := if A.sl.length = 0 then (c, 0) else A.go m d (A.bud.toNat - c.st) c 0

structure CxP (A : XA) (h : Heap) (N p bF bV : Nat) (cF cV : Cap) (m : Nat) (d : Nat → BitVec 8) (c : Cx) : Prop where
  gp : p < N
  gF : N ≤ bF
  gV : N ≤ bV
  ne : bF ≠ bV
  hF : hget h bF = some (.cells (vals c.fl) false)
  hV : hget h bV = some (.cells (bools c.vl) false)
  lF : c.fl.length = A.l.length
  lV : c.vl.length = A.hl.length
  hp : ∃ vR, hget h p = some (.cells (cxCells (.slice (some (bF, 0)) A.l.length cF) (.slice (some (bV, 0)) A.hl.length cV) vR c.st) false) ∧ RestAt h N vR m d c.o ∧ ∀ b o n c, vR = .slice (some (b, o)) n c → b ≠ bF ∧ b ≠ bV

theorem CxP.keep {A : XA} {h h' : Heap} {N p bF bV : Nat} {cF cV : Cap} {m : Nat} {d : Nat → BitVec 8} {c : Cx} (x : CxP A h N p bF bV cF cV m d c) (e : ∀ b, b < h.length → hget h' b = hget h b) : CxP A h' N p bF bV cF cV m d c := by
  obtain ⟨vR, h1, h2, h3⟩ := x.hp
  refine ⟨x.gp, x.gF, x.gV, x.ne, by rw [e _ (hget_lt x.hF)]; exact x.hF, by rw [e _ (hget_lt x.hV)]; exact x.hV, x.lF, x.lV, vR, by rw [e _ (hget_lt h1)]; exact h1, ?_, h3⟩
  rcases h2 with h2 | ⟨b, h4, h5, h6, h7⟩
  · exact .inl h2
  · exact .inr ⟨b, h4, h5, h6, by rw [e _ (hget_lt h7)]; exact h7⟩

theorem XA.run_full (A : XA) (d : Nat → BitVec 8) (fl : List (BitVec 128)) (ids : List Int) : (A.run d fl ids).1.length = fl.length := by
  have := A.run_len d fl ids ids.length (Nat.le_refl _)
  rwa [List.take_length] at this

theorem header_D {A : XA} {H0 : Heap} {z0 z1 z2 z3 z4 z5 z6 z7 z8 z9 : NV} (x : XAt A H0 z0 z1 z2 z3 z4 z5 z6 z7 z8 z9) (H : Heap) (old : ∀ b, b < H0.length → hget H b = hget H0 b) {N p bF bV : Nat} {cF cV : Cap} {m : Nat} {d : Nat → BitVec 8} {c : Cx}
    (y : CxP A H N p bF bV cF cV m d c) (gp : H0.length ≤ p) (k : Nat) (hk : k < A.hl.length) (hm : m ≤ 1000) (hs : A.sum (A.hf k) / 8 ≤ m - c.o) :
    DCall Try.prog 35 [.agg [z0, z1, z2, z3, z4, z5, z6, z7, z8, z9], .ptr (some (p, 0)), .int .i64 k] H fun r => r.1 = .bool true ∧ r.2.length = H.length ∧ (∀ b, b ≠ p → b ≠ bF → b ≠ bV → hget r.2 b = hget H b) ∧ CxP A r.2 N p bF bV cF cV m d (A.hdr d c k) := by
  obtain ⟨g1, g2, g3, g4, hF, hV, lF, lV, vR, hp, hR, hsep⟩ := y
  have h8 := (x.ok.hf k hk).2.2.1
  rcases hR with ⟨h1, h2, _⟩ | ⟨b, h1, rfl, h3, h4⟩
  · exfalso; omega
  obtain ⟨n1, n2⟩ := hsep b c.o _ _ rfl
  have lp := hget_some_lt hp
  have lF' := hget_some_lt hF
  have lV' := hget_some_lt hV
  have lb := hget_some_lt h4
  refine ⟨_, _, header_ok x H old p bF bV b c.o m k cF cV c.st c.fl c.vl d gp (by omega) (by omega) (by omega) (by omega) (by omega) g4 (by omega) n1 n2 hp hF hV h4 lF lV hk h3 hm hs, rfl, by simp only [length_hset], fun b' e1 e2 e3 => ?_, ⟨g1, g2, g3, g4, ?_, ?_, ?_, ?_, .slice (some (b, c.o + A.sum (A.hf k) / 8)) (m - c.o - A.sum (A.hf k) / 8) (.opn 1), ?_, .inr ⟨b, h1, ?_, ?_, ?_⟩, ?_⟩⟩
  · show hget (hset (hset (hset H bF _) bV _) p _) b' = _
    rw [hget_hset_ne (Ne.symm e1), hget_hset_ne (Ne.symm e3), hget_hset_ne (Ne.symm e2)]
  · show hget (hset (hset (hset H bF _) bV _) p _) bF = _
    rw [hget_hset_ne (by omega), hget_hset_ne (Ne.symm g4), hget_hset_same lF']; rfl
  · show hget (hset (hset (hset H bF _) bV _) p _) bV = _
    rw [hget_hset_ne (by omega), hget_hset_same (by rw [length_hset]; exact lV')]; rfl
  · show (A.run _ _ _).1.length = _
    rw [A.run_full]; exact lF
  · show (c.vl.set k true).length = _
    rw [List.length_set]; exact lV
  · show hget (hset (hset (hset H bF _) bV _) p _) p = _
    rw [hget_hset_same (by rw [length_hset, length_hset]; exact lp)]; rfl
  · show NV.slice (some (b, c.o + A.sum (A.hf k) / 8)) (m - c.o - A.sum (A.hf k) / 8) (.opn 1) = .slice (some (b, c.o + A.sum (A.hf k) / 8)) (m - (c.o + A.sum (A.hf k) / 8)) (.opn 1)
    rw [Nat.sub_sub]
  · show c.o + A.sum (A.hf k) / 8 ≤ m
    omega
  · show hget (hset (hset (hset H bF _) bV _) p _) b = _
    rw [hget_hset_ne (by omega), hget_hset_ne (Ne.symm n2), hget_hset_ne (Ne.symm n1)]; exact h4
  · intro b' o' n' c' e
    cases e
    exact ⟨n1, n2⟩
theorem header_N {A : XA} {H0 : Heap} {z0 z1 z2 z3 z4 z5 z6 z7 z8 z9 : NV} (x : XAt A H0 z0 z1 z2 z3 z4 z5 z6 z7 z8 z9) (H : Heap) (old : ∀ b, b < H0.length → hget H b = hget H0 b) {N p bF bV : Nat} {cF cV : Cap} {m : Nat} {d : Nat → BitVec 8} {c : Cx}
    (y : CxP A H N p bF bV cF cV m d c) (gp : H0.length ≤ p) (k : Nat) (hk : k < A.hl.length) (hm : m ≤ 1000) (hs : ¬ A.sum (A.hf k) / 8 ≤ m - c.o) :
    NCall Try.prog 35 [.agg [z0, z1, z2, z3, z4, z5, z6, z7, z8, z9], .ptr (some (p, 0)), .int .i64 k] H fun r => r = (.bool false, H) := by
  obtain ⟨vR, hp, hR, hsep⟩ := y.hp
  rcases hR with ⟨h1, h2, a, rfl, _⟩ | ⟨b, h1, rfl, h3, h4⟩
  · exact header_short x H old p _ k _ _ _ _ _ gp hp hk (by omega) (by omega)
  · exact header_short x H old p _ k _ _ _ _ _ gp hp hk (by omega) (by omega)

theorem nextD {A : XA} {H : Heap} {z0 z1 z2 z3 z4 z5 z6 z7 z8 z9 : NV} (x : XAt A H z0 z1 z2 z3 z4 z5 z6 z7 z8 z9) {N p bF bV : Nat} {cF cV : Cap} {m : Nat} {d : Nat → BitVec 8} {c : Cx} (y : CxP A H N p bF bV cF cV m d c) (vR cv : NV) (id : Int) (s : XSt)
    (oR : vR.one = true) (hc : CasesAt H cv s.cases) (hs : s.sel = 0 ∨ s.sel ∈ A.l) (hl : s.cases.length ≤ 100) :
    NCall Try.prog 37 [.agg [z0, z1, z2, z3, z4, z5, z6, z7, z8, z9], .agg (cxCells (.slice (some (bF, 0)) A.l.length cF) (.slice (some (bV, 0)) A.hl.length cV) vR c.st), .agg [.int .i64 id, .int .i64 s.hd, .int .i64 s.sel, cv, .int .i64 s.dflt]] H
      fun r => r = (.int .i64 (A.next c.fl s), H) := by
  unfold XA.next
  by_cases h0 : s.sel = 0
  · rw [if_pos h0, h0]
    exact next0_ok x _ _ _ _ _ _ _ _ ⟨rfl, rfl, oR, hc.one⟩
  · rw [if_neg h0]
    exact next_ok' x bF cF _ _ _ _ _ _ _ _ _ _ ⟨rfl, oR⟩ y.hF y.lF (hs.resolve_left h0) h0 hc hl
end Go.Proofs
