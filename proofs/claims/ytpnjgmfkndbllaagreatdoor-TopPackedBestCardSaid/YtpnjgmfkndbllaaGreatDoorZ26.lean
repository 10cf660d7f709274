/- A part of the proof of TopPackedBest: texts TkT to TkT. -/
import Derived.Test.YtpnjgmfkndbllaaGreatDoorZ25
/- The table of pieces. -/
section
set_option linter.unusedVariables false
set_option linter.unusedSimpArgs false
set_option maxRecDepth 1000000
namespace Go.TI
open Go Go.Proofs

/-! ### bits -/
def bitCheck (set i : Nat) : Bool :=
  ((set : Int).fdiv (2 ^ (min (i : Int).toNat IntKind.i64.bits)) == ((set >>> i : Nat) : Int)) &&
  (IntKind.i64.wrap (BitVec.ofInt IntKind.i64.bits ((set >>> i : Nat) : Int) &&& BitVec.ofInt IntKind.i64.bits 1).toNat == if set.testBit i then 1 else 0) &&
  (IntKind.i64.wrap (1 * 2 ^ (min (i : Int).toNat IntKind.i64.bits)) == ((2 ^ i : Nat) : Int)) &&
  (!set.testBit i || (IntKind.i64.wrap (BitVec.ofInt IntKind.i64.bits (set : Int) &&& ~~~BitVec.ofInt IntKind.i64.bits ((2 ^ i : Nat) : Int)).toNat == ((set - 2 ^ i : Nat) : Int) && decide (2 ^ i ≤ set)))
theorem bits_all : ((List.range 1024).all fun set => (List.range 11).all fun i => bitCheck set i) = true := by kernel_rfl
theorem bits_ok {set i : Nat} (hs : set < 1024) (hi : i < 11) : bitCheck set i = true := by
  have h := bits_all
  rw [List.all_eq_true] at h
  have := h set (by simpa using hs)
  rw [List.all_eq_true] at this
  exact this i (by simpa using hi)
theorem bin_shr {set i : Nat} (hs : set < 1024) (hi : i < 11) : binV .shr (I set) (I i) = some (I ((set >>> i : Nat) : Int)) := by
  have h := bits_ok hs hi
  simp only [bitCheck, Bool.and_eq_true, beq_iff_eq] at h
  show (if (i : Int) < 0 then none else some (V.lit (.int .i64 ((set : Int).fdiv (2 ^ (min (i : Int).toNat IntKind.i64.bits)))))) = _
  rw [if_neg (by omega), h.1.1.1]
theorem bin_and1 {set i : Nat} (hs : set < 1024) (hi : i < 11) : binV .and (I ((set >>> i : Nat) : Int)) (I 1) = some (I (if set.testBit i then 1 else 0)) := by
  have h := bits_ok hs hi
  simp only [bitCheck, Bool.and_eq_true, beq_iff_eq] at h
  show some (V.lit (.int .i64 _)) = _
  rw [h.1.1.2]
theorem bin_shl {i : Nat} (hi : i < 11) : binV .shl (I 1) (I i) = some (I ((2 ^ i : Nat) : Int)) := by
  have h := bits_ok (set := 0) (by decide) hi
  simp only [bitCheck, Bool.and_eq_true, beq_iff_eq] at h
  show (if (i : Int) < 0 then none else some (V.lit (.int .i64 (IntKind.i64.wrap (1 * 2 ^ (min (i : Int).toNat IntKind.i64.bits)))))) = _
  rw [if_neg (by omega), h.1.2]
theorem bin_andNot {set i : Nat} (hs : set < 1024) (hi : i < 11) (hb : set.testBit i = true) : binV .andNot (I set) (I ((2 ^ i : Nat) : Int)) = some (I ((set - 2 ^ i : Nat) : Int)) ∧ 2 ^ i ≤ set := by
  have h := bits_ok hs hi
  simp only [bitCheck, Bool.and_eq_true, beq_iff_eq, hb, Bool.not_true, Bool.false_or, decide_eq_true_eq] at h
  refine ⟨?_, h.2.2⟩
  show some (V.lit (.int .i64 _)) = _
  rw [h.2.1]

/-! ### the table -/
def stepT (r v s : Int) : Int := if v.tdiv 10001 = 0 ∨ v.tmod 10001 + s > r then (v.tdiv 10001 + 1) * 10001 + s else v.tdiv 10001 * 10001 + v.tmod 10001 + s
def bestT (sz : List Int) (r : Int) (f : Nat → Int) (set : Nat) : Nat → Int
  | 0 => 10001 * ((sz.length : Int) + 1)
  | i + 1 => if set.testBit i then min (bestT sz r f set i) (stepT r (f (set - 2 ^ i)) (sz.getD i 0)) else bestT sz r f set i
def tabV (sz : List Int) (r : Int) (f : Nat → Int) (set : Nat) : Int := if set = 0 then 0 else bestT sz r f set sz.length
def tabF (sz : List Int) (r : Int) : Nat → Nat → Int
  | 0, _ => 0
  | m + 1, j => if j = m then tabV sz r (tabF sz r m) m else tabF sz r m j
def rowsF (M : Nat) (f : Nat → Int) : List (List V) := (List.range M).map fun j => [I (f j)]
theorem rowsF_set {M m : Nat} {sz : List Int} {r : Int} (h : m < M) : (rowsF M (tabF sz r m)).set m [I (tabV sz r (tabF sz r m) m)] = rowsF M (tabF sz r (m + 1)) := by
  apply List.ext_getElem?
  intro j
  simp only [rowsF, List.getElem?_set, List.getElem?_map, List.getElem?_range', List.length_map, List.length_range]
  by_cases hj : m = j
  · subst hj
    simp [h, tabF]
  · by_cases hjm : j < M
    · have : ¬ (j = m) := fun e => hj e.symm
      simp [hj, hjm, tabF, this]
    · simp [hj, hjm]
theorem rowsF_get {M j : Nat} {f : Nat → Int} (h : j < M) : (rowsF M f)[j]? = some [I (f j)] := by simp [rowsF, h]
@[simp] theorem rowsF_len {M : Nat} {f : Nat → Int} : (rowsF M f).length = M := by simp [rowsF]

/-- The values stay small. -/
theorem stepT_bound {r v s : Int} (hr : 1 ≤ r ∧ r ≤ 10000) (hs : 1 ≤ s ∧ s ≤ r) (hv : 0 ≤ v) : 0 ≤ stepT r v s := by
  have h1 : v.tdiv 10001 = v / 10001 := Int.tdiv_eq_ediv_of_nonneg hv
  have h2 : v.tmod 10001 = v % 10001 := Int.tmod_eq_emod_of_nonneg hv
  unfold stepT
  rw [h1, h2]
  split <;> omega
end Go.TI
end
