/- slices.SortFunc: the library's contract, taken to an abstract call. -/
import Derived.Test.YtimimfbiejijdaaFsI
import Derived.Shelf.SlSortCmp.WholeK
set_option linter.unusedVariables false
set_option linter.unusedSimpArgs false
namespace Go.Ns
open Go.Proofs Go.Sort

def toV : NV → Value
  | .bool b => .bool b
  | .int k n => .int k n
  | .str s => .string s
  | _ => undef
def plainV : NV → Bool
  | .bool _ | .int _ _ | .str _ => true
  | _ => false
theorem VRels.plain {φ : PMap} : ∀ {cs : List NV} {vs : List Value}, cs.all plainV = true → VRels φ cs vs → vs = cs.map toV
  | [], _, _, h => h
  | c :: cs, vs, hp, ⟨v, r, e, hv, hr⟩ => by
    subst e
    simp only [List.all_cons, Bool.and_eq_true] at hp
    rw [VRels.plain hp.2 hr, List.map_cons]
    congr 1
    cases c <;> first | exact hv | cases hp.1
theorem VRels.of_plain {φ : PMap} : ∀ {cs : List NV}, cs.all plainV = true → VRels φ cs (cs.map toV)
  | [], _ => rfl
  | c :: cs, hp => by
    simp only [List.all_cons, Bool.and_eq_true] at hp
    refine ⟨toV c, cs.map toV, rfl, ?_, VRels.of_plain hp.2⟩
    cases c <;> first | rfl | cases hp.1
theorem plain_one : ∀ {cs : List NV}, cs.all plainV = true → cs.all NV.one = true
  | [], _ => rfl
  | c :: cs, hp => by
    simp only [List.all_cons, Bool.and_eq_true] at hp ⊢
    refine ⟨?_, plain_one hp.2⟩
    cases c <;> first | rfl | cases hp.1

theorem Rel.growW {C : Cx} {φ : PMap} {w : World} {h : Heap} (r : Rel C φ w h) (os : Array Obj) : Rel C φ (Go.Sort.grow w os) h := by
  have hg : ∀ i, i < w.heap.size → (Go.Sort.grow w os).heap[i]? = w.heap[i]? := fun i hi => by
    show (w.heap ++ os)[i]? = _
    rw [Array.getElem?_append_left hi]
  have hs : w.heap.size ≤ (Go.Sort.grow w os).heap.size := by
    show _ ≤ (w.heap ++ os).size
    simp
  refine ⟨fun b x p hb hp => ?_, fun b p hp => Nat.lt_of_lt_of_le (r.lt b p hp) hs, r.dom, r.inj, fun i hi => ?_, r.away, r.anchor, r.os, r.tape, r.output, Nat.le_trans r.grow hs, r.resv, r.far⟩
  · obtain ⟨o, ho, hr⟩ := r.blk b x p hb hp
    exact ⟨o, by rw [hg _ (r.lt b p hp)]; exact ho, hr⟩
  · obtain ⟨h1, h2⟩ := r.keep i hi
    exact ⟨by rw [hg i h2]; exact h1, Nat.lt_of_lt_of_le h2 hs⟩
theorem Rel.aheadW {C : Cx} {φ : PMap} {w : World} {h : Heap} (r : Rel C φ w h) (n : Nat) : Rel C φ (Go.Sort.ahead w n) h :=
  ⟨r.blk, r.lt, r.dom, r.inj, r.keep, r.away, r.anchor, r.os, r.tape, ⟨r.output.1, Nat.le_trans r.output.2 (Nat.le_add_right _ _)⟩, r.grow, r.resv, r.far⟩

/-- What keeps everything has grown. -/
theorem grown_of_rel {W w : World} {φ : PMap} {h : Heap} (r : Rel (keepAll W) φ w h) : ∃ q os', w = Go.Sort.grow (W.drewN q) os' := by
  have hk : ∀ i, i < W.heap.size → w.heap[i]? = W.heap[i]? := fun i hi => (r.keep i (.inl hi)).1
  refine ⟨w.drawn - W.drawn, w.heap.extract W.heap.size w.heap.size, ?_⟩
  have hd : W.drawn + (w.drawn - W.drawn) = w.drawn := by
    have h1 : W.drawn ≤ w.drawn := r.output.2
    omega
  have hh : W.heap ++ w.heap.extract W.heap.size w.heap.size = w.heap := by
    apply Array.ext_getElem?
    intro i
    have hg := r.grow
    by_cases hi : i < W.heap.size
    · rw [Array.getElem?_append_left hi, hk i hi]
    · rw [Array.getElem?_append_right (by omega), Array.getElem?_extract]
      by_cases h2 : i - W.heap.size < min w.heap.size w.heap.size - W.heap.size
      · rw [if_pos h2, show W.heap.size + (i - W.heap.size) = i by omega]
      · rw [if_neg h2, Array.getElem?_eq_none (by omega)]
  have e1 := r.os
  have e2 := r.tape
  have e3 := r.output.1
  obtain ⟨wh, wt, wd, wo, wp⟩ := w
  simp only [keepAll] at e1 e2 e3
  simp only [Go.Sort.grow, World.drewN]
  rw [World.mk.injEq]
  exact ⟨hh.symm, e2, hd.symm, e1, e3⟩

/-- A call whose arguments hold no memory and that answers a number: in whatever world. -/
theorem calls_grow {P : Program} {g : Nat} {args : List NV} {vargs : Array Value} {n : Int} (t : NFun P g args [] fun q => q.1 = .int .i64 n) (hv : VRels (fun _ => none) args vargs.toList) (W : World) :
    Calls P g vargs W fun e w' => e = .returned (.int .i64 n) ∧ ∃ q os', w' = Go.Sort.grow (W.drewN q) os' := by
  refine Calls.mono (t (keepAll W) (fun _ => none) W vargs hv (rel_empty W)) ?_
  rintro e w' ⟨v, rfl, nv, h, φ, hQ, _, hr, r⟩
  simp only at hQ
  subst hQ
  exact ⟨by rw [show v = .int .i64 n from hr], grown_of_rel r⟩

section
variable {α : Type} [Inhabited α] (encN : α → List NV) (k : Nat)
def encV (x : α) : List Value := (encN x).map toV

theorem flatMap_get {encN : α → List NV} {k : Nat} (hk : ∀ x, (encN x).length = k) {l : List α} {j : Nat} (hj : j < l.length * k) : (l.flatMap encN)[j]? = (encN l[j / k]!)[j % k]? ∧ j / k < l.length ∧ j % k < k := by
  have k0 : 0 < k := by
    rcases Nat.eq_zero_or_pos k with h | h
    · subst h; simp at hj
    · exact h
  have h1 : j / k < l.length := (Nat.div_lt_iff_lt_mul k0).2 hj
  have h2 : j % k < k := Nat.mod_lt _ k0
  have hc := cut_flatMap hk h1
  have := cut_get hc h2
  rw [show j / k * k + j % k = j by rw [Nat.mul_comm]; exact Nat.div_add_mod j k] at this
  exact ⟨by rw [this, getElem!_pos l _ h1], h1, h2⟩

omit [Inhabited α] in
theorem encV_get {encN : α → List NV} (x : α) (j : Nat) : (encV encN x)[j]? = ((encN x)[j]?).map toV := by
  unfold encV; rw [List.getElem?_map]
theorem flat_toV {encN : α → List NV} {k : Nat} (hk : ∀ x, (encN x).length = k) {d : Array α} {j : Nat} (hj : j < d.size * k) : ((d.toList.flatMap encN).map toV)[j]? = some (flatK (encV encN) k d)[j]! := by
  obtain ⟨h1, h2, h3⟩ := flatMap_get hk (l := d.toList) (j := j) (by simpa using hj)
  have hL : (encN d.toList[j / k]!)[j % k]? = some ((encN d.toList[j / k]!)[j % k]'(by rw [hk]; exact h3)) := List.getElem?_eq_getElem _
  rw [List.getElem?_map, h1, hL, get_flatK _ _ _ _ hj]
  have e : d.toList[j / k]! = d[j / k]! := by
    rw [getElem!_pos d.toList _ h2, getElem!_pos d _ (by simpa using h2)]
    simp
  rw [← e]
  generalize d.toList[j / k]! = x at *
  have : (encV encN x)[j % k]? = some (toV ((encN x)[j % k]'(by rw [hk]; exact h3))) := by rw [encV_get, List.getElem?_eq_getElem]; rfl
  rw [Option.map_some]
  congr 1
  rw [getElem!_def, this]

/-- The library's SortFunc over rows of plain cells. -/
theorem nfun_sort {P : Program} {f g : Nat} {encN : α → List NV} {k : Nat} (hk : ∀ x, (encN x).length = k) (hpl : ∀ x, (encN x).all plainV = true) (cf : α → α → Int)
    (con : ∀ (blk off cap : Nat) (d : Array α) (w : World), CmpLays P g #[] (encV encN) k cf blk off d.size w → HoldsK (encV encN) k w blk off d → blk < w.heap.size → d.size < 4611686018427387904 →
      Calls P f #[.slice (some ⟨blk, off, none⟩) d.size cap, .func (.func g) #[] #[]] w fun e w' => e = .returned (.tuple #[]) ∧ ∃ d' n os, Go.Sort.PermIn 0 d.size d d' ∧ Go.Sort.SortedIn (ltOf cf) 0 d.size d' ∧ w' = sortWorldK (encV encN) k w blk off n d' os)
    (cmp : ∀ x y, NFun P g [.agg (encN x), .agg (encN y)] [] fun q => q.1 = .int .i64 (cf x y))
    (h : Heap) (b : Nat) (c : Cap) (l : List α) (hb : hget h b = some (.cells (l.flatMap encN) false)) (hl : l.length < 4611686018427387904) :
    NFun P f [.slice (some (b, 0)) l.length c, .func (.func g) [] []] h fun q => ∃ l' : List α, l'.Perm l ∧ l'.Pairwise (fun x y => ltOf cf y x = false) ∧ q = (.tup [], hset h b (.cells (l'.flatMap encN) false)) := by
  intro C φ w vargs hv r
  obtain ⟨v1, r1, e1, hv1, v2, r2, e2, hv2, e3⟩ := hv
  subst e3 e2
  have hpn : ∀ l : List α, (l.flatMap encN).all plainV = true := by
    intro l
    rw [List.all_eq_true]
    intro v hv
    obtain ⟨x, _, hx⟩ := List.mem_flatMap.1 hv
    exact List.all_eq_true.1 (hpl x) v hx
  have hlen : ∀ l : List α, (l.flatMap encN).length = l.length * k := length_flatMap_enc hk
  obtain ⟨fx, fy, rfl, hfx, hfy⟩ := hv2
  have hfx : fx = #[] := by
    have : fx.toList = [] := hfx
    simpa using this
  have hfy : fy = #[] := by
    have : fy.toList = [] := hfy
    simpa using this
  subst hfx hfy
  have hsl : ∃ p off cap, φ b = some p ∧ v1 = .slice (some ⟨p.rb, off, none⟩) l.length cap ∧ l.length ≤ cap ∧ (cap = 0 ∨ off = p.ro + 0) := by
    cases c with
    | fix c => obtain ⟨p, off, h1, h2, h3, h4⟩ := hv1; exact ⟨p, off, c, h1, h2, h3, h4⟩
    | opn e => obtain ⟨p, off, cap, h1, h2, h3, h4, _⟩ := hv1; exact ⟨p, off, cap, h1, h2, h3, h4⟩
  obtain ⟨p, off, cap, hp, rfl, hcap, hoff⟩ := hsl
  have hvargs : vargs = #[.slice (some ⟨p.rb, off, none⟩) l.toArray.size cap, .func (.func g) #[] #[]] := by
    apply Array.ext'
    rw [e1]; simp
  subst hvargs
  clear e1
  obtain ⟨o, ho, cc, ee, fz, rfl, hsz, hkk, hro, hfz, hvr, h1⟩ := r.blk b _ p hb hp
  have hfz := hfz rfl
  subst hfz
  rw [hlen] at hkk
  have hcells := VRels.plain (hpn l) hvr
  have hcap0 : 0 < l.length * k → off = p.ro := by
    intro hpos
    rcases hoff with h | h
    · exfalso
      have : l.length = 0 := by omega
      rw [this] at hpos; simp at hpos
    · exact h
  have hcl : ∀ j, j < l.length * k → cc[p.ro + j]? = some (flatK (encV encN) k l.toArray)[j]! := by
    intro j hj
    have h2 := flat_toV hk (d := l.toArray) (j := j) (by simpa using hj)
    rw [List.toList_toArray, ← hcells, List.getElem?_take_of_lt (by omega), List.getElem?_drop, Array.getElem?_toList] at h2
    exact h2
  have hold : HoldsK (encV encN) k w p.rb off l.toArray := by
    intro j hj
    rw [size_flatK] at hj
    have hj' : j < l.length * k := by simpa using hj
    have := hcap0 (by omega)
    subst this
    refine ⟨?_, ?_⟩
    · simp only [World.cell?, ho]
      exact hcl j hj'
    · simp only [World.frozen?, ho]
      simp
  have hlays : CmpLays P g #[] (encV encN) k cf p.rb off l.toArray.size w := by
    intro m os dk hdk x y
    refine calls_grow (args := [.agg (encN x), .agg (encN y)]) (cmp x y) ?_ _
    exact ⟨_, _, rfl, ⟨_, rfl, by exact VRels.of_plain (hpl x), plain_one (hpl x)⟩, _, _, rfl, ⟨_, rfl, by exact VRels.of_plain (hpl y), plain_one (hpl y)⟩, rfl⟩
  refine Calls.mono (con p.rb off cap l.toArray w hlays hold (r.lt b p hp) (by simpa using hl)) ?_
  rintro e w' ⟨rfl, d', n, os, hperm, hsort, rfl⟩
  obtain ⟨hps, _, hpp⟩ := hperm
  have hds : d'.size = l.length := by rw [hps]; simp
  have hpp : d'.toList.Perm l := by
    have e1 : (d'.extract 0 l.toArray.size).toList = d'.toList := by
      rw [show l.toArray.size = d'.size from hps.symm]; simp
    have e2 : (l.toArray.extract 0 l.toArray.size).toList = l := by simp
    rw [e1, e2] at hpp
    exact hpp
  refine ⟨_, rfl, .tup [], hset h b (.cells (d'.toList.flatMap encN) false), φ, ⟨d'.toList, hpp, ?_, rfl⟩, PMap.le.refl φ, ⟨#[], rfl, rfl⟩, ?_⟩
  · rw [List.pairwise_iff_getElem]
    intro i j hi hj hij
    have := hsort i j (Nat.zero_le _) hij (by rw [List.size_toArray, ← hds]; simpa using hj)
    rw [getElem!_pos d' i (by simpa using hi), getElem!_pos d' j (by simpa using hj)] at this
    simpa using this
  · refine Rel.growW ?_ os
    have hbd : (Go.Sort.ahead w n).heap[p.rb]? = some (.cells cc ee (0, 0)) := ho
    refine (r.aheadW n).upd hb hp rfl (o' := .cells (putCells id off (flatK (encV encN) k d') cc) ee (0, 0)) ?_ ?_ ?_ rfl rfl rfl rfl ?_ rfl
    · show ((Go.Sort.ahead w n).heap.modify p.rb (onCells _))[p.rb]? = _
      rw [Array.getElem?_modify, if_pos rfl, hbd]; rfl
    · intro i hi
      show ((Go.Sort.ahead w n).heap.modify p.rb (onCells _))[i]? = _
      rw [Array.getElem?_modify, if_neg (Ne.symm hi)]
    · show ((Go.Sort.ahead w n).heap.modify p.rb (onCells _)).size = _
      simp
    · have hl2 : (d'.toList.flatMap encN).length = p.k := by rw [hlen, Array.length_toList, hds]; exact hkk
      refine ⟨_, ee, (0, 0), rfl, by simp [putCells, hsz], hl2, hro, fun _ => rfl, ?_, plain_one (hpn _)⟩
      have : ((putCells id off (flatK (encV encN) k d') cc).toList.drop p.ro).take p.k = (d'.toList.flatMap encN).map toV := by
        apply List.ext_getElem?
        intro j
        by_cases hj : j < p.k
        · have hj2 : j < d'.size * k := by rw [hds, hkk]; exact hj
          have := hcap0 (by omega)
          subst this
          rw [List.getElem?_take_of_lt hj, List.getElem?_drop, Array.getElem?_toList, flat_toV hk hj2]
          simp only [putCells, Array.getElem?_mapIdx, size_flatK]
          rw [Array.getElem?_eq_getElem (by omega), Option.map_some, if_pos (by omega), Nat.add_sub_cancel_left]
          rfl
        · rw [List.getElem?_eq_none (by rw [List.length_take]; omega), List.getElem?_eq_none (by rw [List.length_map, hl2]; omega)]
      rw [this]
      exact VRels.of_plain (hpn _)
end

end Go.Ns
