/- Ex2, Ex3 in one text. -/
import Derived.Test.YtghjfohjkgllbaaEBEx1
set_option linter.unusedSimpArgs false
set_option linter.unusedVariables false
set_option maxRecDepth 10000
namespace Go.Proofs
open Go.Ns

structure XCase where
  value : BitVec 128
  mask : BitVec 128
  next : Int
structure XSt where
  hd : Int
  sel : Int
  cases : List XCase
  dflt : Int
/-- A schema: the fields with their bits, the headers with their fields, the states. -/
structure XA where
  l : List Int
  w : Nat → Nat
  hl : List Int
  hf : Nat → List Int
  sl : List Int
  sd : Nat → XSt
  bud : Int
def XA.bits (A : XA) (id : Int) : Nat := A.w (A.l.idxOf id)
def XA.sum (A : XA) (ids : List Int) : Nat := (ids.map A.bits).sum
structure XA.OK (A : XA) : Prop where
  nl : A.l.length ≤ 100
  nh : A.hl.length ≤ 100
  ns : A.sl.length ≤ 100
  hf : ∀ j, j < A.hl.length → (A.hf j).length ≤ 100 ∧ (∀ id ∈ A.hf j, id ∈ A.l) ∧ 8 ≤ A.sum (A.hf j) ∧ A.sum (A.hf j) ≤ 10000 ∧ A.sum (A.hf j) % 8 = 0
  hd : ∀ j, j < A.sl.length → (A.sd j).hd = 0 ∨ (A.sd j).hd ∈ A.hl
  sel : ∀ j, j < A.sl.length → (A.sd j).sel = 0 ∨ (A.sd j).sel ∈ A.l
  cl : ∀ j, j < A.sl.length → (A.sd j).cases.length ≤ 100
  nx : ∀ j, j < A.sl.length → ∀ c ∈ (A.sd j).cases, c.next = 0 ∨ c.next = 65535 ∨ c.next ∈ A.sl
  df : ∀ j, j < A.sl.length → (A.sd j).dflt = 0 ∨ (A.sd j).dflt = 65535 ∨ (A.sd j).dflt ∈ A.sl
  bud : 0 ≤ A.bud ∧ A.bud ≤ 1000

/-- How it lies in a heap. -/
def FsAt (A : XA) (h : Heap) (v : NV) : Prop := ∃ b c cs ro, v = .slice (some (b, 0)) A.l.length c ∧ hget h b = some (.cells cs ro) ∧ ∀ j (hj : j < A.l.length), ∃ s : ByteArray, cut cs (j * 3) 3 = some [.int .i64 A.l[j], .str s, .int .i64 (A.w j)]
def HsAt (A : XA) (h : Heap) (v : NV) : Prop := ∃ b c cs ro, v = .slice (some (b, 0)) A.hl.length c ∧ hget h b = some (.cells cs ro) ∧ ∀ j (hj : j < A.hl.length), ∃ (s : ByteArray) (b' : Nat) (c' : Cap) (cs' : List NV) (ro' : Bool),
  cut cs (j * 3) 3 = some [.int .i64 A.hl[j], .str s, .slice (some (b', 0)) (A.hf j).length c'] ∧ hget h b' = some (.cells cs' ro') ∧ ∀ i (hi : i < (A.hf j).length), cs'[i]? = some (.int .i64 (A.hf j)[i])
def XCase.cells (c : XCase) : List NV := [nb (hiOf c.value), nb (loOf c.value), nb (hiOf c.mask), nb (loOf c.mask), .int .i64 c.next]
def CasesAt (h : Heap) (v : NV) (ks : List XCase) : Prop := ∃ a c, v = .slice a ks.length c ∧ (0 < ks.length → ∃ b cs ro, a = some (b, 0) ∧ hget h b = some (.cells cs ro) ∧ ∀ i (hi : i < ks.length), cut cs (i * 5) 5 = some ks[i].cells)
def SsAt (A : XA) (h : Heap) (v : NV) : Prop := ∃ a c, v = .slice a A.sl.length c ∧ (0 < A.sl.length → ∃ b cs ro, a = some (b, 0) ∧ hget h b = some (.cells cs ro) ∧ ∀ j (hj : j < A.sl.length), ∃ cv,
  cut cs (j * 5) 5 = some [.int .i64 A.sl[j], .int .i64 (A.sd j).hd, .int .i64 (A.sd j).sel, cv, .int .i64 (A.sd j).dflt] ∧ CasesAt h cv (A.sd j).cases)
def ones : List NV → Prop := fun l => l.all NV.one = true
structure XAt (A : XA) (h : Heap) (z0 z1 z2 z3 z4 z5 z6 z7 z8 z9 : NV) : Prop where
  f : FsAt A h z0
  g : HsAt A h z1
  s : SsAt A h z2
  o : z3.one = true ∧ z4.one = true ∧ z5.one = true ∧ z6.one = true ∧ z7.one = true ∧ z8.one = true
  b : z9 = .int .i64 A.bud
  ok : A.OK
theorem FsAt.mono {A : XA} {h h' : Heap} {v : NV} (x : FsAt A h v) (o : ∀ b, b < h.length → hget h' b = hget h b) : FsAt A h' v := by
  obtain ⟨b, c, cs, ro, h1, h2, h3⟩ := x
  exact ⟨b, c, cs, ro, h1, by rw [o b (hget_lt h2)]; exact h2, h3⟩
theorem HsAt.mono {A : XA} {h h' : Heap} {v : NV} (x : HsAt A h v) (o : ∀ b, b < h.length → hget h' b = hget h b) : HsAt A h' v := by
  obtain ⟨b, c, cs, ro, h1, h2, h3⟩ := x
  refine ⟨b, c, cs, ro, h1, by rw [o b (hget_lt h2)]; exact h2, fun j hj => ?_⟩
  obtain ⟨s, b', c', cs', ro', h4, h5, h6⟩ := h3 j hj
  exact ⟨s, b', c', cs', ro', h4, by rw [o b' (hget_lt h5)]; exact h5, h6⟩
theorem CasesAt.mono {h h' : Heap} {v : NV} {ks : List XCase} (x : CasesAt h v ks) (o : ∀ b, b < h.length → hget h' b = hget h b) : CasesAt h' v ks := by
  obtain ⟨a, c, h1, h2⟩ := x
  refine ⟨a, c, h1, fun h0 => ?_⟩
  obtain ⟨b, cs, ro, h3, h4, h5⟩ := h2 h0
  exact ⟨b, cs, ro, h3, by rw [o b (hget_lt h4)]; exact h4, h5⟩
theorem SsAt.mono {A : XA} {h h' : Heap} {v : NV} (x : SsAt A h v) (o : ∀ b, b < h.length → hget h' b = hget h b) : SsAt A h' v := by
  obtain ⟨a, c, h1, h2⟩ := x
  refine ⟨a, c, h1, fun h0 => ?_⟩
  obtain ⟨b, cs, ro, h3, h4, h5⟩ := h2 h0
  refine ⟨b, cs, ro, h3, by rw [o b (hget_lt h4)]; exact h4, fun j hj => ?_⟩
  obtain ⟨cv, h6, h7⟩ := h5 j hj
  exact ⟨cv, h6, h7.mono o⟩
theorem XAt.mono {A : XA} {h h' : Heap} {z0 z1 z2 z3 z4 z5 z6 z7 z8 z9 : NV} (x : XAt A h z0 z1 z2 z3 z4 z5 z6 z7 z8 z9) (o : ∀ b, b < h.length → hget h' b = hget h b) : XAt A h' z0 z1 z2 z3 z4 z5 z6 z7 z8 z9 :=
  ⟨x.f.mono o, x.g.mono o, x.s.mono o, x.o, x.b, x.ok⟩
theorem FsAt.one {A : XA} {h : Heap} {v : NV} (x : FsAt A h v) : v.one = true := by obtain ⟨b, c, cs, ro, rfl, _⟩ := x; rfl
theorem HsAt.one {A : XA} {h : Heap} {v : NV} (x : HsAt A h v) : v.one = true := by obtain ⟨b, c, cs, ro, rfl, _⟩ := x; rfl
theorem SsAt.one {A : XA} {h : Heap} {v : NV} (x : SsAt A h v) : v.one = true := by obtain ⟨a, c, rfl, _⟩ := x; rfl
theorem CasesAt.one {h : Heap} {v : NV} {ks : List XCase} (x : CasesAt h v ks) : v.one = true := by obtain ⟨a, c, rfl, _⟩ := x; rfl
theorem XAt.ones {A : XA} {h : Heap} {z0 z1 z2 z3 z4 z5 z6 z7 z8 z9 : NV} (x : XAt A h z0 z1 z2 z3 z4 z5 z6 z7 z8 z9) :
    z0.one = true ∧ z1.one = true ∧ z2.one = true ∧ z3.one = true ∧ z4.one = true ∧ z5.one = true ∧ z6.one = true ∧ z7.one = true ∧ z8.one = true ∧ z9.one = true := by
  obtain ⟨a, b, c, d, e, f⟩ := x.o
  exact ⟨x.f.one, x.g.one, x.s.one, a, b, c, d, e, f, by rw [x.b]; rfl⟩

/-! ### The three searches -/
theorem xfield_ok {A : XA} {H : Heap} {z0 z1 z2 z3 z4 z5 z6 z7 z8 z9 : NV} (x : XAt A H z0 z1 z2 z3 z4 z5 z6 z7 z8 z9) (id : Int) : NCall Try.prog 32 [.agg [z0, z1, z2, z3, z4, z5, z6, z7, z8, z9], .int .i64 id] H fun r => r = (.int .i64 (ixI A.l id), H) := by
  obtain ⟨_, o1, o2, o3, o4, o5, o6, o7, o8, o9⟩ := x.ones
  obtain ⟨b, c, cs, ro, rfl, hb, hr⟩ := x.f
  refine fieldOf_ok H b c cs ro A.l id z1 z2 z3 z4 z5 z6 z7 z8 z9 ⟨o1, o2, o3, o4, o5, o6, o7, o8, o9⟩ hb (fun j hj => ?_) x.ok.nl
  obtain ⟨s, e⟩ := hr j hj
  exact ⟨_, _, ⟨rfl, rfl⟩, e⟩
theorem xhdr_ok {A : XA} {H : Heap} {z0 z1 z2 z3 z4 z5 z6 z7 z8 z9 : NV} (x : XAt A H z0 z1 z2 z3 z4 z5 z6 z7 z8 z9) (id : Int) : NCall Try.prog 36 [.agg [z0, z1, z2, z3, z4, z5, z6, z7, z8, z9], .int .i64 id] H fun r => r = (.int .i64 (ixI A.hl id), H) := by
  obtain ⟨o0, _, o2, o3, o4, o5, o6, o7, o8, o9⟩ := x.ones
  obtain ⟨b, c, cs, ro, rfl, hb, hr⟩ := x.g
  refine hdrOf_ok H b c cs ro A.hl id z0 z2 z3 z4 z5 z6 z7 z8 z9 ⟨o0, o2, o3, o4, o5, o6, o7, o8, o9⟩ hb (fun j hj => ?_) x.ok.nh
  obtain ⟨s, b', c', cs', ro', e, _⟩ := hr j hj
  exact ⟨_, _, ⟨rfl, rfl⟩, e⟩
theorem xstate_ok {A : XA} {H : Heap} {z0 z1 z2 z3 z4 z5 z6 z7 z8 z9 : NV} (x : XAt A H z0 z1 z2 z3 z4 z5 z6 z7 z8 z9) (id : Int) (h0 : 0 < A.sl.length) : NCall Try.prog 38 [.agg [z0, z1, z2, z3, z4, z5, z6, z7, z8, z9], .int .i64 id] H fun r => r = (.int .i64 (ixI A.sl id), H) := by
  obtain ⟨o0, o1, _, o3, o4, o5, o6, o7, o8, o9⟩ := x.ones
  obtain ⟨a, c, rfl, hs⟩ := x.s
  obtain ⟨b, cs, ro, rfl, hb, hr⟩ := hs h0
  refine stateOf_ok H b c cs ro A.sl id z0 z1 z3 z4 z5 z6 z7 z8 z9 ⟨o0, o1, o3, o4, o5, o6, o7, o8, o9⟩ hb (fun j hj => ?_) x.ok.ns
  obtain ⟨cv, e, hc⟩ := hr j hj
  exact ⟨_, _, _, _, ⟨rfl, rfl, hc.one, rfl⟩, e⟩

/-! ### The bits of a header -/
theorem ixI_mem {l : List Int} {id : Int} (h : id ∈ l) : ixI l id = (l.idxOf id : Nat) := by unfold ixI; rw [if_pos h]
theorem XA.sum_step (A : XA) {ids : List Int} {j : Nat} (hj : j < ids.length) : A.sum (ids.take (j + 1)) = A.sum (ids.take j) + A.bits ids[j] := by
  unfold XA.sum
  rw [List.take_add_one, List.getElem?_eq_getElem hj, List.map_append, List.sum_append]
  simp
theorem XA.sum_le (A : XA) (ids : List Int) (j : Nat) : A.sum (ids.take j) ≤ A.sum ids := by
  have h : A.sum ids = A.sum (ids.take j) + A.sum (ids.drop j) := by
    unfold XA.sum
    rw [← List.sum_append, ← List.map_append, List.take_append_drop]
  omega
theorem map_get {ids : List Int} {j : Nat} (hj : j < ids.length) : (ids.map (NV.int .i64))[j]? = some (.int .i64 ids[j]) := by
  rw [List.getElem?_map, List.getElem?_eq_getElem hj]; rfl

set_option maxHeartbeats 1000000 in
theorem bitsOf_ok {A : XA} {H : Heap} {z0 z1 z2 z3 z4 z5 z6 z7 z8 z9 : NV} (x : XAt A H z0 z1 z2 z3 z4 z5 z6 z7 z8 z9) (id : Int) (s : ByteArray) (ids : List Int) (b : Nat) (c : Cap) (cs : List NV) (ro : Bool) (hb : hget H b = some (.cells cs ro)) (hcs : ∀ i (hi : i < ids.length), cs[i]? = some (.int .i64 ids[i]))
    (hl : ids.length ≤ 100) (hm : ∀ i ∈ ids, i ∈ A.l) (hs : A.sum ids ≤ 10000) :
    NCall Try.prog 55 [.agg [z0, z1, z2, z3, z4, z5, z6, z7, z8, z9], .agg [.int .i64 id, .str s, .slice (some (b, 0)) ids.length c]] H fun r => r = (.int .i64 (A.sum ids), H) := by
  obtain ⟨o0, o1, o2, o3, o4, o5, o6, o7, o8, o9⟩ := x.ones
  have hbl := hget_some_lt hb
  refine call_pure E0 mixed t55_ok (by kernel_rfl) trivial ?_
  simp only [t55]
  simp (disch := first | omega | (simp only [List.length_append, List.length_cons, List.length_nil, length_hset, length_hkill]; omega)) only [↓fsPre, fsPost, fsCond, fsGen, npick, nbin, nun, nconv, nnilCheck, noff, nidxArr, nidxSl, nfield, npart, nindex, nextract, nlenSl, nlenStr, ncap, mmx, minmax2, nslice, nsliceArr, nbounds, obound, bound, adv, nbits, eqVal, eqCell, eqCells, nfill, lenOfSl, cls, fresults, fresl, fres1, gt_iff_lt, ge_iff_le, reduceCtorEq, Nat.reduceAdd, Nat.reduceMul, Nat.reduceSub, Nat.reduceLT, Nat.reduceLeDiff, Nat.reduceEqDiff, Nat.reduceBEq, Nat.reduceBNe, Int.reduceLT, Int.reduceLE, Int.reduceEq, Int.reduceNe, Int.reduceAdd, Int.reduceSub, Int.reduceNeg, Int.reduceToNat, Int.reduceMul, ↓reduceIte, Int.reduceGT, Int.reduceGE, o0, o1, o2, o3, o4, o5, o6, o7, o8, o9]
  refine wloop (fun j F h => F 2 = .ptr (some (H.length, 0)) ∧ F 3 = .ptr (some (H.length + 1, 0)) ∧ F 5 = .int .i64 (A.sum (ids.take j)) ∧ F 9 = .slice (some (b, 0)) ids.length c ∧ F 10 = .int .i64 ids.length ∧ F 11 = .int .i64 j ∧
    h = H ++ [some (.cells [z0, z1, z2, z3, z4, z5, z6, z7, z8, z9] false), some (.cells [.int .i64 id, .str s, .slice (some (b, 0)) ids.length c] false)]) ids.length ?_ ?_ ?_
  · simp (disch := first | omega | (simp only [List.length_append, List.length_cons, List.length_nil, length_hset, length_hkill]; omega)) only [↓fsPre, fsPost, fsCond, fsGen, npick, nbin, nun, nconv, nnilCheck, noff, nidxArr, nidxSl, nfield, npart, nindex, nextract, nlenSl, nlenStr, ncap, mmx, minmax2, nslice, nsliceArr, nbounds, obound, bound, adv, nbits, eqVal, eqCell, eqCells, nfill, lenOfSl, cls, fresults, fresl, fres1, gt_iff_lt, ge_iff_le, reduceCtorEq, Nat.reduceAdd, Nat.reduceMul, Nat.reduceSub, Nat.reduceLT, Nat.reduceLeDiff, Nat.reduceEqDiff, Nat.reduceBEq, Nat.reduceBNe, Int.reduceLT, Int.reduceLE, Int.reduceEq, Int.reduceNe, Int.reduceAdd, Int.reduceSub, Int.reduceNeg, Int.reduceToNat, Int.reduceMul, ↓reduceIte, Int.reduceGT, Int.reduceGE]
    rfl
  · rintro j F h hj ⟨f2, f3, f5, f9, f10, f11, rfl⟩
    have hg := hcs j hj
    have hmem := hm _ (List.getElem_mem hj)
    have hix := ixI_mem hmem
    have hlt := List.idxOf_lt_length_of_mem hmem
    have hst := A.sum_step hj
    have hle := A.sum_le ids j
    have hle' := A.sum_le ids (j + 1)
    have hwd : A.bits ids[j] = A.w (A.l.idxOf ids[j]) := rfl
    have x' : XAt A (H ++ [some (.cells [z0, z1, z2, z3, z4, z5, z6, z7, z8, z9] false), some (.cells [.int .i64 id, .str s, .slice (some (b, 0)) ids.length c] false)]) z0 z1 z2 z3 z4 z5 z6 z7 z8 z9 := x.mono fun b hb => hget_appl hb
    obtain ⟨b1, c1, cs1, ro1, rfl, hb1, hr1⟩ := x.f
    obtain ⟨s1, hc⟩ := hr1 _ hlt
    have hb1l := hget_some_lt hb1
    have hcell := fun k hk => cut_get (i := k) hc hk
    have h2 := hcell 2 (by omega)
    simp (disch := first | omega | (simp only [List.length_append, List.length_cons, List.length_nil, length_hset, length_hkill]; omega)) only [↓fsPre, fsPost, fsCond, fsGen, npick, nbin, nun, nconv, nnilCheck, noff, nidxArr, nidxSl, nfield, npart, nindex, nextract, nlenSl, nlenStr, ncap, mmx, minmax2, nslice, nsliceArr, nbounds, obound, bound, adv, nbits, eqVal, eqCell, eqCells, nfill, lenOfSl, cls, fresults, fresl, fres1, gt_iff_lt, ge_iff_le, reduceCtorEq, Nat.reduceAdd, Nat.reduceMul, Nat.reduceSub, Nat.reduceLT, Nat.reduceLeDiff, Nat.reduceEqDiff, Nat.reduceBEq, Nat.reduceBNe, Int.reduceLT, Int.reduceLE, Int.reduceEq, Int.reduceNe, Int.reduceAdd, Int.reduceSub, Int.reduceNeg, Int.reduceToNat, Int.reduceMul, ↓reduceIte, Int.reduceGT, Int.reduceGE, f2, f3, f5, f9, f10, f11, hb, hg, o1, o2, o3, o4, o5, o6, o7, o8, o9]
    refine callDT_one (xfield_ok x' _) rfl ?_
    simp (disch := first | omega | (simp only [List.length_append, List.length_cons, List.length_nil, length_hset, length_hkill]; omega)) only [↓fsPre, fsPost, fsCond, fsGen, npick, nbin, nun, nconv, nnilCheck, noff, nidxArr, nidxSl, nfield, npart, nindex, nextract, nlenSl, nlenStr, ncap, mmx, minmax2, nslice, nsliceArr, nbounds, obound, bound, adv, nbits, eqVal, eqCell, eqCells, nfill, lenOfSl, cls, fresults, fresl, fres1, gt_iff_lt, ge_iff_le, reduceCtorEq, Nat.reduceAdd, Nat.reduceMul, Nat.reduceSub, Nat.reduceLT, Nat.reduceLeDiff, Nat.reduceEqDiff, Nat.reduceBEq, Nat.reduceBNe, Int.reduceLT, Int.reduceLE, Int.reduceEq, Int.reduceNe, Int.reduceAdd, Int.reduceSub, Int.reduceNeg, Int.reduceToNat, Int.reduceMul, ↓reduceIte, Int.reduceGT, Int.reduceGE, f2, f3, f5, f9, f10, f11, hb, hg, hix, hb1, h2, o1, o2, o3, o4, o5, o6, o7, o8, o9]
    rw [hst, hwd]; push_cast; rfl
  · rintro F h ⟨f2, f3, f5, f9, f10, f11, rfl⟩
    simp (disch := first | omega | (simp only [List.length_append, List.length_cons, List.length_nil, length_hset, length_hkill]; omega)) only [↓fsPre, fsPost, fsCond, fsGen, npick, nbin, nun, nconv, nnilCheck, noff, nidxArr, nidxSl, nfield, npart, nindex, nextract, nlenSl, nlenStr, ncap, mmx, minmax2, nslice, nsliceArr, nbounds, obound, bound, adv, nbits, eqVal, eqCell, eqCells, nfill, lenOfSl, cls, fresults, fresl, fres1, gt_iff_lt, ge_iff_le, reduceCtorEq, Nat.reduceAdd, Nat.reduceMul, Nat.reduceSub, Nat.reduceLT, Nat.reduceLeDiff, Nat.reduceEqDiff, Nat.reduceBEq, Nat.reduceBNe, Int.reduceLT, Int.reduceLE, Int.reduceEq, Int.reduceNe, Int.reduceAdd, Int.reduceSub, Int.reduceNeg, Int.reduceToNat, Int.reduceMul, ↓reduceIte, Int.reduceGT, Int.reduceGE, f2, f3, f5, f9, f10, f11]
    exact ⟨by rw [List.take_length], _, rfl⟩

/-- Bits of a packet, the highest of a byte first. -/
def bitAt (d : Nat → BitVec 8) (k : Nat) : Bool := (d (k / 8)).getLsbD (7 - k % 8)
def takeV (d : Nat → BitVec 8) (nx : Nat) : Nat → BitVec 128
  | 0 => 0#128
  | n + 1 => takeV d nx n <<< 1 ||| if bitAt d (nx + n) then 1#128 else 0#128
theorem hi_zero : hiOf 0#128 = 0#64 := by decide
theorem lo_zero : loOf 0#128 = 0#64 := by decide
theorem bit_and (x : BitVec 8) (s : Nat) : x >>> s &&& 1#8 = if x.getLsbD s then 1#8 else 0#8 := by
  apply BitVec.eq_of_getLsbD_eq
  intro i hi
  rw [BitVec.getLsbD_and, BitVec.getLsbD_ushiftRight, BitVec.getLsbD_one]
  by_cases h0 : i = 0
  · subst h0
    cases h : x.getLsbD s <;> simp [h]
  · cases h : x.getLsbD s <;> simp [h0, h]
theorem ofV_bit (b : Bool) : ofV ((if b then 1#8 else 0#8 : BitVec 8).toNat : Int) = if b then 1#128 else 0#128 := by cases b <;> rfl
def cxCells (vF vV vR : NV) (st : Int) : List NV := [vF, vV, vR, .int .i64 st, .bool false]

set_option maxHeartbeats 1000000 in
theorem take_ok (H : Heap) (q1 q2 p bR o m nR n nx : Nat) (c : Cap) (ro : Bool) (vF vV : NV) (st : Int) (d : Nat → BitVec 8)
    (h1 : hget H q1 = some (.cells [.ptr (some (p, 0))] false)) (h2 : hget H q2 = some (.cells [.int .i64 nx] false)) (hp : hget H p = some (.cells (cxCells vF vV (.slice (some (bR, o)) m c) st) false)) (hR : hget H bR = some (.cells (arrC nR fun i => n8 (d i)) ro))
    (n1 : q2 ≠ q1) (n2 : q2 ≠ p) (n3 : q2 ≠ bR) (hm : o + m ≤ nR) (hn : nx + n ≤ 8 * m) (hN : nR ≤ 10000) :
    NCall Try.prog 56 [.int .i64 n, .ptr (some (q1, 0)), .ptr (some (q2, 0))] H fun r => r = (vnv (takeV (fun i => d (o + i)) nx n), hset H q2 (.cells [.int .i64 (nx + n)] false)) := by
  have l1 := hget_some_lt h1
  have l2 := hget_some_lt h2
  have lp := hget_some_lt hp
  have lR := hget_some_lt hR
  refine call_mod E0 mixed t56_ok _ _ (by kernel_rfl) (by rw [length_hset]) vnv_lo ?_ ?_
  · intro b x hx
    rcases hget_hset_or hx with h | rfl
    · exact .inl h
    · exact .inr ⟨trivial, trivial⟩
  have hl := fun H v => left_ok H v 1 (by omega)
  have ho := fun H a b => or_ok H a b
  have hof := fun H k h => of_ok H k h
  simp only [t56, vnv] at hl ho hof ⊢
  simp (disch := first | omega | (simp only [List.length_append, List.length_cons, List.length_nil, length_hset, length_hkill]; omega)) only [↓fsPre, fsPost, fsCond, fsGen, npick, nnilCheck, noff, nidxArr, nidxSl, nfield, npart, nindex, nextract, nlenSl, nlenStr, ncap, mmx, minmax2, nslice, nsliceArr, nbounds, obound, bound, adv, eqVal, eqCells, nfill, lenOfSl, cls, fresults, fresl, fres1, gt_iff_lt, ge_iff_le, nb_one, nb_flat, nb_cells, nb_and, nb_and_c, nb_c_and, nb_or, nb_or_c, nb_c_or, nb_xor, nb_xor_c, nb_c_xor, nb_andNot, nb_compl, nb_add, nb_sub, nb_shl, nb_shr, nb_c_shl, nb_eql, nb_neq, nb_eql_c, nb_neq_c, nb_lss, nb_geq_c, nb_conv8, nb_convi, eqCell_nb, bitsC_length, bitsC_get, bitsC_splice, bitsC_cut, bitsC_one, bitsC_flat, bitsC_splice_all, bit_ofInt, toNat_add_c, nb_zero, fill_bits, v_i64_add, v_i64_sub, v_i64_mul, v_i64_quo, v_i64_rem, v_i64_eql, v_i64_neq, v_i64_lss, v_i64_leq, v_i64_gtr, v_i64_geq, v_i64_and, v_i64_or, v_i64_xor, v_i64_andNot, v_i64_shl, v_i64_shr, v_i64_neg, v_u8_add, v_u8_sub, v_u8_mul, v_u8_quo, v_u8_rem, v_u8_eql, v_u8_neq, v_u8_lss, v_u8_leq, v_u8_gtr, v_u8_geq, v_u8_and, v_u8_or, v_u8_xor, v_u8_andNot, v_u8_shl, v_u8_shr, v_u8_neg, v_eqc_bool, v_eqc_int, v_eqc_str, v_not, nbool_undef, guardK_none, v_str_eql, v_str_neq, v_conv_i64_i64, v_conv_i64_u8, v_conv_u8_i64, v_conv_u8_u8, v_conv_u64_i64, v_conv_u64_u8, reduceCtorEq, Nat.reduceAdd, Nat.reduceMul, Nat.reduceSub, Nat.reduceLT, Nat.reduceLeDiff, Nat.reduceEqDiff, Nat.reduceBEq, Nat.reduceBNe, Int.reduceLT, Int.reduceLE, Int.reduceEq, Int.reduceNe, Int.reduceAdd, Int.reduceSub, Int.reduceNeg, Int.reduceToNat, Int.reduceMul, ↓reduceIte, Int.reduceGT, Int.reduceGE]
  refine wloop (fun j F h => F 0 = .int .i64 n ∧ F 1 = .ptr (some (q1, 0)) ∧ F 2 = .ptr (some (q2, 0)) ∧ F 4 = .ptr (some (H.length, 0)) ∧ F 5 = .ptr (some (H.length + 1, 0)) ∧ F 7 = .int .i64 n ∧ F 8 = .int .i64 j ∧
    h = hset H q2 (.cells [.int .i64 (nx + j : Nat)] false) ++ [some (.cells [nb 0#64, nb 0#64] false), some (.cells [nb (hiOf (takeV (fun i => d (o + i)) nx j)), nb (loOf (takeV (fun i => d (o + i)) nx j))] false)]) n ?_ ?_ ?_
  · simp (disch := first | omega | (simp only [List.length_append, List.length_cons, List.length_nil, length_hset, length_hkill]; omega)) only [↓fsPre, fsPost, fsCond, fsGen, npick, nnilCheck, noff, nidxArr, nidxSl, nfield, npart, nindex, nextract, nlenSl, nlenStr, ncap, mmx, minmax2, nslice, nsliceArr, nbounds, obound, bound, adv, eqVal, eqCells, nfill, lenOfSl, cls, fresults, fresl, fres1, gt_iff_lt, ge_iff_le, nb_one, nb_flat, nb_cells, nb_and, nb_and_c, nb_c_and, nb_or, nb_or_c, nb_c_or, nb_xor, nb_xor_c, nb_c_xor, nb_andNot, nb_compl, nb_add, nb_sub, nb_shl, nb_shr, nb_c_shl, nb_eql, nb_neq, nb_eql_c, nb_neq_c, nb_lss, nb_geq_c, nb_conv8, nb_convi, eqCell_nb, bitsC_length, bitsC_get, bitsC_splice, bitsC_cut, bitsC_one, bitsC_flat, bitsC_splice_all, bit_ofInt, toNat_add_c, nb_zero, fill_bits, v_i64_add, v_i64_sub, v_i64_mul, v_i64_quo, v_i64_rem, v_i64_eql, v_i64_neq, v_i64_lss, v_i64_leq, v_i64_gtr, v_i64_geq, v_i64_and, v_i64_or, v_i64_xor, v_i64_andNot, v_i64_shl, v_i64_shr, v_i64_neg, v_u8_add, v_u8_sub, v_u8_mul, v_u8_quo, v_u8_rem, v_u8_eql, v_u8_neq, v_u8_lss, v_u8_leq, v_u8_gtr, v_u8_geq, v_u8_and, v_u8_or, v_u8_xor, v_u8_andNot, v_u8_shl, v_u8_shr, v_u8_neg, v_eqc_bool, v_eqc_int, v_eqc_str, v_not, nbool_undef, guardK_none, v_str_eql, v_str_neq, v_conv_i64_i64, v_conv_i64_u8, v_conv_u8_i64, v_conv_u8_u8, v_conv_u64_i64, v_conv_u64_u8, reduceCtorEq, Nat.reduceAdd, Nat.reduceMul, Nat.reduceSub, Nat.reduceLT, Nat.reduceLeDiff, Nat.reduceEqDiff, Nat.reduceBEq, Nat.reduceBNe, Int.reduceLT, Int.reduceLE, Int.reduceEq, Int.reduceNe, Int.reduceAdd, Int.reduceSub, Int.reduceNeg, Int.reduceToNat, Int.reduceMul, ↓reduceIte, Int.reduceGT, Int.reduceGE, nb_zero]
    rw [hset_same h2]
    simp only [takeV, hi_zero, lo_zero]
  · rintro j F h hj ⟨f0, f1, f2, f4, f5, f7, f8, rfl⟩
    have d1 : Int.tdiv ((nx + j : Nat) : Int) 8 = (((nx + j) / 8 : Nat) : Int) := by rw [Int.tdiv_eq_ediv_of_nonneg (by omega)]; omega
    have d2 : Int.tmod ((nx + j : Nat) : Int) 8 = (((nx + j) % 8 : Nat) : Int) := by rw [Int.tmod_eq_emod_of_nonneg (by omega)]; omega
    have d3 : (7 : Int) - (((nx + j) % 8 : Nat) : Int) = ((7 - (nx + j) % 8 : Nat) : Int) := by omega
    generalize hk : nx + j = k at *
    have hR' : (arrC nR fun i => n8 (d i))[o + k / 8]? = some (n8 (d (o + k / 8))) := arrC_get (by omega)
    have hsh := n8_shr (x := d (o + k / 8)) (k := .u64) (b := ((7 - k % 8 : Nat) : Int)) (by omega)
    rw [Int.toNat_natCast] at hsh
    have han := n8_and_c (x := d (o + k / 8) >>> (7 - k % 8)) (c := 1)
    rw [show BitVec.ofInt 8 1 = 1#8 by decide, bit_and] at han
    simp (disch := first | omega | (simp only [List.length_append, List.length_cons, List.length_nil, length_hset, length_hkill]; omega)) only [↓fsPre, fsPost, fsCond, fsGen, npick, nnilCheck, noff, nidxArr, nidxSl, nfield, npart, nindex, nextract, nlenSl, nlenStr, ncap, mmx, minmax2, nslice, nsliceArr, nbounds, obound, bound, adv, eqVal, eqCells, nfill, lenOfSl, cls, fresults, fresl, fres1, gt_iff_lt, ge_iff_le, nb_one, nb_flat, nb_cells, nb_and, nb_and_c, nb_c_and, nb_or, nb_or_c, nb_c_or, nb_xor, nb_xor_c, nb_c_xor, nb_andNot, nb_compl, nb_add, nb_sub, nb_shl, nb_shr, nb_c_shl, nb_eql, nb_neq, nb_eql_c, nb_neq_c, nb_lss, nb_geq_c, nb_conv8, nb_convi, eqCell_nb, bitsC_length, bitsC_get, bitsC_splice, bitsC_cut, bitsC_one, bitsC_flat, bitsC_splice_all, bit_ofInt, toNat_add_c, nb_zero, fill_bits, v_i64_add, v_i64_sub, v_i64_mul, v_i64_quo, v_i64_rem, v_i64_eql, v_i64_neq, v_i64_lss, v_i64_leq, v_i64_gtr, v_i64_geq, v_i64_and, v_i64_or, v_i64_xor, v_i64_andNot, v_i64_shl, v_i64_shr, v_i64_neg, v_u8_add, v_u8_sub, v_u8_mul, v_u8_quo, v_u8_rem, v_u8_eql, v_u8_neq, v_u8_lss, v_u8_leq, v_u8_gtr, v_u8_geq, v_u8_and, v_u8_or, v_u8_xor, v_u8_andNot, v_u8_shl, v_u8_shr, v_u8_neg, v_eqc_bool, v_eqc_int, v_eqc_str, v_not, nbool_undef, guardK_none, v_str_eql, v_str_neq, v_conv_i64_i64, v_conv_i64_u8, v_conv_u8_i64, v_conv_u8_u8, v_conv_u64_i64, v_conv_u64_u8, reduceCtorEq, Nat.reduceAdd, Nat.reduceMul, Nat.reduceSub, Nat.reduceLT, Nat.reduceLeDiff, Nat.reduceEqDiff, Nat.reduceBEq, Nat.reduceBNe, Int.reduceLT, Int.reduceLE, Int.reduceEq, Int.reduceNe, Int.reduceAdd, Int.reduceSub, Int.reduceNeg, Int.reduceToNat, Int.reduceMul, ↓reduceIte, Int.reduceGT, Int.reduceGE, f0, f1, f2, f4, f5, f7, f8, h1, h2, hp, hR, cxCells, hR', d1, d2, d3, hsh, han, n8_one, n8_flat]
    refine callT_one (hl _ _) rfl ?_
    simp (disch := first | omega | (simp only [List.length_append, List.length_cons, List.length_nil, length_hset, length_hkill]; omega)) only [↓fsPre, fsPost, fsCond, fsGen, npick, nnilCheck, noff, nidxArr, nidxSl, nfield, npart, nindex, nextract, nlenSl, nlenStr, ncap, mmx, minmax2, nslice, nsliceArr, nbounds, obound, bound, adv, eqVal, eqCells, nfill, lenOfSl, cls, fresults, fresl, fres1, gt_iff_lt, ge_iff_le, nb_one, nb_flat, nb_cells, nb_and, nb_and_c, nb_c_and, nb_or, nb_or_c, nb_c_or, nb_xor, nb_xor_c, nb_c_xor, nb_andNot, nb_compl, nb_add, nb_sub, nb_shl, nb_shr, nb_c_shl, nb_eql, nb_neq, nb_eql_c, nb_neq_c, nb_lss, nb_geq_c, nb_conv8, nb_convi, eqCell_nb, bitsC_length, bitsC_get, bitsC_splice, bitsC_cut, bitsC_one, bitsC_flat, bitsC_splice_all, bit_ofInt, toNat_add_c, nb_zero, fill_bits, v_i64_add, v_i64_sub, v_i64_mul, v_i64_quo, v_i64_rem, v_i64_eql, v_i64_neq, v_i64_lss, v_i64_leq, v_i64_gtr, v_i64_geq, v_i64_and, v_i64_or, v_i64_xor, v_i64_andNot, v_i64_shl, v_i64_shr, v_i64_neg, v_u8_add, v_u8_sub, v_u8_mul, v_u8_quo, v_u8_rem, v_u8_eql, v_u8_neq, v_u8_lss, v_u8_leq, v_u8_gtr, v_u8_geq, v_u8_and, v_u8_or, v_u8_xor, v_u8_andNot, v_u8_shl, v_u8_shr, v_u8_neg, v_eqc_bool, v_eqc_int, v_eqc_str, v_not, nbool_undef, guardK_none, v_str_eql, v_str_neq, v_conv_i64_i64, v_conv_i64_u8, v_conv_u8_i64, v_conv_u8_u8, v_conv_u64_i64, v_conv_u64_u8, reduceCtorEq, Nat.reduceAdd, Nat.reduceMul, Nat.reduceSub, Nat.reduceLT, Nat.reduceLeDiff, Nat.reduceEqDiff, Nat.reduceBEq, Nat.reduceBNe, Int.reduceLT, Int.reduceLE, Int.reduceEq, Int.reduceNe, Int.reduceAdd, Int.reduceSub, Int.reduceNeg, Int.reduceToNat, Int.reduceMul, ↓reduceIte, Int.reduceGT, Int.reduceGE, f0, f1, f2, f4, f5, f7, f8, n8_conv64]
    refine callT_one (hof _ _ (by have := (if (d (o + k / 8)).getLsbD (7 - k % 8) = true then 1#8 else 0#8 : BitVec 8).isLt; omega)) rfl ?_
    rw [ofV_bit]
    simp (disch := first | omega | (simp only [List.length_append, List.length_cons, List.length_nil, length_hset, length_hkill]; omega)) only [↓fsPre, fsPost, fsCond, fsGen, npick, nnilCheck, noff, nidxArr, nidxSl, nfield, npart, nindex, nextract, nlenSl, nlenStr, ncap, mmx, minmax2, nslice, nsliceArr, nbounds, obound, bound, adv, eqVal, eqCells, nfill, lenOfSl, cls, fresults, fresl, fres1, gt_iff_lt, ge_iff_le, nb_one, nb_flat, nb_cells, nb_and, nb_and_c, nb_c_and, nb_or, nb_or_c, nb_c_or, nb_xor, nb_xor_c, nb_c_xor, nb_andNot, nb_compl, nb_add, nb_sub, nb_shl, nb_shr, nb_c_shl, nb_eql, nb_neq, nb_eql_c, nb_neq_c, nb_lss, nb_geq_c, nb_conv8, nb_convi, eqCell_nb, bitsC_length, bitsC_get, bitsC_splice, bitsC_cut, bitsC_one, bitsC_flat, bitsC_splice_all, bit_ofInt, toNat_add_c, nb_zero, fill_bits, v_i64_add, v_i64_sub, v_i64_mul, v_i64_quo, v_i64_rem, v_i64_eql, v_i64_neq, v_i64_lss, v_i64_leq, v_i64_gtr, v_i64_geq, v_i64_and, v_i64_or, v_i64_xor, v_i64_andNot, v_i64_shl, v_i64_shr, v_i64_neg, v_u8_add, v_u8_sub, v_u8_mul, v_u8_quo, v_u8_rem, v_u8_eql, v_u8_neq, v_u8_lss, v_u8_leq, v_u8_gtr, v_u8_geq, v_u8_and, v_u8_or, v_u8_xor, v_u8_andNot, v_u8_shl, v_u8_shr, v_u8_neg, v_eqc_bool, v_eqc_int, v_eqc_str, v_not, nbool_undef, guardK_none, v_str_eql, v_str_neq, v_conv_i64_i64, v_conv_i64_u8, v_conv_u8_i64, v_conv_u8_u8, v_conv_u64_i64, v_conv_u64_u8, reduceCtorEq, Nat.reduceAdd, Nat.reduceMul, Nat.reduceSub, Nat.reduceLT, Nat.reduceLeDiff, Nat.reduceEqDiff, Nat.reduceBEq, Nat.reduceBNe, Int.reduceLT, Int.reduceLE, Int.reduceEq, Int.reduceNe, Int.reduceAdd, Int.reduceSub, Int.reduceNeg, Int.reduceToNat, Int.reduceMul, ↓reduceIte, Int.reduceGT, Int.reduceGE, f0, f1, f2, f4, f5, f7, f8]
    refine callT_one (ho _ _ _) rfl ?_
    simp (disch := first | omega | (simp only [List.length_append, List.length_cons, List.length_nil, length_hset, length_hkill]; omega)) only [↓fsPre, fsPost, fsCond, fsGen, npick, nnilCheck, noff, nidxArr, nidxSl, nfield, npart, nindex, nextract, nlenSl, nlenStr, ncap, mmx, minmax2, nslice, nsliceArr, nbounds, obound, bound, adv, eqVal, eqCells, nfill, lenOfSl, cls, fresults, fresl, fres1, gt_iff_lt, ge_iff_le, nb_one, nb_flat, nb_cells, nb_and, nb_and_c, nb_c_and, nb_or, nb_or_c, nb_c_or, nb_xor, nb_xor_c, nb_c_xor, nb_andNot, nb_compl, nb_add, nb_sub, nb_shl, nb_shr, nb_c_shl, nb_eql, nb_neq, nb_eql_c, nb_neq_c, nb_lss, nb_geq_c, nb_conv8, nb_convi, eqCell_nb, bitsC_length, bitsC_get, bitsC_splice, bitsC_cut, bitsC_one, bitsC_flat, bitsC_splice_all, bit_ofInt, toNat_add_c, nb_zero, fill_bits, v_i64_add, v_i64_sub, v_i64_mul, v_i64_quo, v_i64_rem, v_i64_eql, v_i64_neq, v_i64_lss, v_i64_leq, v_i64_gtr, v_i64_geq, v_i64_and, v_i64_or, v_i64_xor, v_i64_andNot, v_i64_shl, v_i64_shr, v_i64_neg, v_u8_add, v_u8_sub, v_u8_mul, v_u8_quo, v_u8_rem, v_u8_eql, v_u8_neq, v_u8_lss, v_u8_leq, v_u8_gtr, v_u8_geq, v_u8_and, v_u8_or, v_u8_xor, v_u8_andNot, v_u8_shl, v_u8_shr, v_u8_neg, v_eqc_bool, v_eqc_int, v_eqc_str, v_not, nbool_undef, guardK_none, v_str_eql, v_str_neq, v_conv_i64_i64, v_conv_i64_u8, v_conv_u8_i64, v_conv_u8_u8, v_conv_u64_i64, v_conv_u64_u8, reduceCtorEq, Nat.reduceAdd, Nat.reduceMul, Nat.reduceSub, Nat.reduceLT, Nat.reduceLeDiff, Nat.reduceEqDiff, Nat.reduceBEq, Nat.reduceBNe, Int.reduceLT, Int.reduceLE, Int.reduceEq, Int.reduceNe, Int.reduceAdd, Int.reduceSub, Int.reduceNeg, Int.reduceToNat, Int.reduceMul, ↓reduceIte, Int.reduceGT, Int.reduceGE, f0, f1, f2, f4, f5, f7, f8]
    have e1 : takeV (fun i => d (o + i)) nx (j + 1) = takeV (fun i => d (o + i)) nx j <<< 1 ||| if (d (o + k / 8)).getLsbD (7 - k % 8) = true then 1#128 else 0#128 := by
      simp only [takeV, bitAt, hk]
    have e2 : (nx : Int) + ((j : Int) + 1) = (k : Int) + 1 := by omega
    rw [e1, e2]
  · rintro F h ⟨f0, f1, f2, f4, f5, f7, f8, rfl⟩
    simp (disch := first | omega | (simp only [List.length_append, List.length_cons, List.length_nil, length_hset, length_hkill]; omega)) only [↓fsPre, fsPost, fsCond, fsGen, npick, nnilCheck, noff, nidxArr, nidxSl, nfield, npart, nindex, nextract, nlenSl, nlenStr, ncap, mmx, minmax2, nslice, nsliceArr, nbounds, obound, bound, adv, eqVal, eqCells, nfill, lenOfSl, cls, fresults, fresl, fres1, gt_iff_lt, ge_iff_le, nb_one, nb_flat, nb_cells, nb_and, nb_and_c, nb_c_and, nb_or, nb_or_c, nb_c_or, nb_xor, nb_xor_c, nb_c_xor, nb_andNot, nb_compl, nb_add, nb_sub, nb_shl, nb_shr, nb_c_shl, nb_eql, nb_neq, nb_eql_c, nb_neq_c, nb_lss, nb_geq_c, nb_conv8, nb_convi, eqCell_nb, bitsC_length, bitsC_get, bitsC_splice, bitsC_cut, bitsC_one, bitsC_flat, bitsC_splice_all, bit_ofInt, toNat_add_c, nb_zero, fill_bits, v_i64_add, v_i64_sub, v_i64_mul, v_i64_quo, v_i64_rem, v_i64_eql, v_i64_neq, v_i64_lss, v_i64_leq, v_i64_gtr, v_i64_geq, v_i64_and, v_i64_or, v_i64_xor, v_i64_andNot, v_i64_shl, v_i64_shr, v_i64_neg, v_u8_add, v_u8_sub, v_u8_mul, v_u8_quo, v_u8_rem, v_u8_eql, v_u8_neq, v_u8_lss, v_u8_leq, v_u8_gtr, v_u8_geq, v_u8_and, v_u8_or, v_u8_xor, v_u8_andNot, v_u8_shl, v_u8_shr, v_u8_neg, v_eqc_bool, v_eqc_int, v_eqc_str, v_not, nbool_undef, guardK_none, v_str_eql, v_str_neq, v_conv_i64_i64, v_conv_i64_u8, v_conv_u8_i64, v_conv_u8_u8, v_conv_u64_i64, v_conv_u64_u8, reduceCtorEq, Nat.reduceAdd, Nat.reduceMul, Nat.reduceSub, Nat.reduceLT, Nat.reduceLeDiff, Nat.reduceEqDiff, Nat.reduceBEq, Nat.reduceBNe, Int.reduceLT, Int.reduceLE, Int.reduceEq, Int.reduceNe, Int.reduceAdd, Int.reduceSub, Int.reduceNeg, Int.reduceToNat, Int.reduceMul, ↓reduceIte, Int.reduceGT, Int.reduceGE, f0, f1, f2, f4, f5, f7, f8]
    exact ⟨_, rfl⟩
end Go.Proofs
