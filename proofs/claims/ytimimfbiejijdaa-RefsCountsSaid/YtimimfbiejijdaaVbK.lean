/- Targets of references: their order; counts. -/
import Derived.Test.YtimimfbiejijdaaVbB
import Derived.Test.YtimimfbiejijdaaVbT
set_option linter.unusedVariables false
set_option linter.unusedSimpArgs false
namespace Go.Ns

abbrev TK := Int × Int × BitVec 128
def tkC (k : TK) : List NV := [.int .i64 k.1, .int .i64 k.2.1, nb (hiOf k.2.2), nb (loOf k.2.2)]
def tkV (k : TK) : NV := .agg (tkC k)
def tyV (d : Int × Int) : NV := .agg [.int .i64 d.1, .int .i64 d.2]
def cnC (x : TK × (Int × Int)) : List NV := tkC x.1 ++ [.int .i64 x.2.1, .int .i64 x.2.2]
theorem tkC_length (k : TK) : (tkC k).length = 4 := rfl
theorem cnC_length (x : TK × (Int × Int)) : (cnC x).length = 6 := rfl
def k4 : List CK := [.int, .int, .int, .int]
theorem eqCells_tk (p q : TK) : eqCells k4 (tkC p) (tkC q) = some (decide (p = q)) := by
  obtain ⟨a, b, c⟩ := p
  obtain ⟨a', b', c'⟩ := q
  have e3 := words_eq (a := c) (b := c')
  have key : (decide ((a, b, c) = (a', b', c'))) = ((a == a') && ((b == b') && (c == c'))) := by
    rw [Bool.eq_iff_iff]
    simp
  rw [key, ← e3]
  simp only [k4, tkC, eqCells, eqCell_nb]
  simp [eqCell]
theorem keyTK : KeyEnc true k4 tkV where
  eq x y := by simp only [eqVal, if_true, tkV]; exact eqCells_tk x y
  ok x := rfl

def ltK (a b : TK) : Prop := a.1 < b.1 ∨ a.1 = b.1 ∧ (a.2.1 < b.2.1 ∨ a.2.1 = b.2.1 ∧ a.2.2.toNat < b.2.2.toNat)
instance : DecidableRel ltK := fun a b => by unfold ltK; infer_instance
theorem ltK_ord : SOrd ltK where
  irr a := by unfold ltK; omega
  tr a b c := by unfold ltK; omega
  tri a b h := by
    unfold ltK
    by_cases h1 : a.1 = b.1
    · by_cases h2 : a.2.1 = b.2.1
      · have h3 : a.2.2.toNat ≠ b.2.2.toNat := fun e => h (Prod.ext h1 (Prod.ext h2 (BitVec.eq_of_toNat_eq e)))
        omega
      · omega
    · omega
def cmpI (a b : Int) : Int := if a < b then -1 else if b < a then 1 else 0
def cmpK (a b : TK) : Int := if cmpI a.1 b.1 ≠ 0 then cmpI a.1 b.1 else if cmpI a.2.1 b.2.1 ≠ 0 then cmpI a.2.1 b.2.1 else cmpV a.2.2 b.2.2
theorem cmpI_zero {a b : Int} : cmpI a b = 0 ↔ a = b := by
  unfold cmpI
  split
  · omega
  · split <;> omega
theorem cmpV_neg {a b : BitVec 128} : cmpV a b < 0 ↔ a.toNat < b.toNat := by
  unfold cmpV
  by_cases h : a = b
  · subst h; simp
  · rw [if_neg h]
    split <;> omega
theorem cmpK_neg {a b : TK} : cmpK a b < 0 ↔ ltK a b := by
  unfold cmpK ltK
  by_cases h1 : a.1 = b.1
  · rw [if_neg (by simpa using cmpI_zero.2 h1)]
    by_cases h2 : a.2.1 = b.2.1
    · rw [if_neg (by simpa using cmpI_zero.2 h2), cmpV_neg]
      omega
    · rw [if_pos (fun e => h2 (cmpI_zero.1 e))]
      unfold cmpI
      split
      · omega
      · split <;> omega
  · rw [if_pos (fun e => h1 (cmpI_zero.1 e))]
    unfold cmpI
    split
    · omega
    · split <;> omega
end Go.Ns
