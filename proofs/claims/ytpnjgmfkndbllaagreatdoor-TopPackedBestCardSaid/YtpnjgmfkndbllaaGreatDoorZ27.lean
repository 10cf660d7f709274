/- A part of the proof of TopPackedBest: texts TkX to TkX. -/
import Derived.Test.YtpnjgmfkndbllaaGreatDoorZ26
/- The plain law: the table's last entry is the least number of boxes. -/
section
set_option linter.unusedVariables false
set_option linter.unusedSimpArgs false
set_option maxRecDepth 1000000
namespace Go.TI
open Go Go.Proofs

/-! ### bits -/
def subCheck (S i j : Nat) : Bool := !S.testBit i || ((S - 2 ^ i).testBit j == (S.testBit j && !(j == i)))
theorem sub_all : ((List.range 1024).all fun S => (List.range 10).all fun i => (List.range 10).all fun j => subCheck S i j) = true := by kernel_rfl
theorem sub_bit {S i j : Nat} (hS : S < 1024) (hi : i < 10) (hj : j < 10) (hb : S.testBit i = true) : (S - 2 ^ i).testBit j = (S.testBit j && !(j == i)) := by
  have h := sub_all
  rw [List.all_eq_true] at h
  have h := h S (by simpa using hS)
  rw [List.all_eq_true] at h
  have h := h i (by simpa using hi)
  rw [List.all_eq_true] at h
  have h := h j (by simpa using hj)
  simp only [subCheck, hb, Bool.not_true, Bool.false_or, beq_iff_eq] at h
  exact h
theorem pow_le {S i : Nat} (hb : S.testBit i = true) : 2 ^ i ≤ S := Nat.ge_two_pow_of_testBit hb

/-! ### loads -/
/-- What lies in a box, of the pieces of a set, of the first i. -/
def load (sz : List Int) (box : Nat → Nat) (k S : Nat) : Nat → Int
  | 0 => 0
  | i + 1 => load sz box k S i + if S.testBit i = true ∧ box i = k then sz.getD i 0 else 0
theorem load_nonneg {sz : List Int} {box : Nat → Nat} {k S : Nat} (h : ∀ s ∈ sz, 0 ≤ s) : ∀ i, i ≤ sz.length → 0 ≤ load sz box k S i
  | 0, _ => Int.le_refl _
  | i + 1, hi => by
    have h1 := load_nonneg (box := box) (k := k) (S := S) h i (by omega)
    have h2 : 0 ≤ sz.getD i 0 := h _ (by rw [List.getD_eq_getElem?_getD, List.getElem?_eq_getElem (by omega)]; exact List.getElem_mem _)
    unfold load
    split <;> omega
theorem load_sub {sz : List Int} {box : Nat → Nat} {k S a : Nat} (hS : S < 1024) (ha : a < 10) (hb : S.testBit a = true) : ∀ i, i ≤ 10 → load sz box k S i = load sz box k (S - 2 ^ a) i + if a < i ∧ box a = k then sz.getD a 0 else 0
  | 0, _ => by simp [load]
  | i + 1, hi => by
    have ih := load_sub (sz := sz) (box := box) (k := k) hS ha hb i (by omega)
    unfold load
    rw [ih, sub_bit hS ha (by omega : i < 10) hb]
    by_cases hia : i = a
    · subst hia
      simp [hb]
    · have : (i == a) = false := by simp [hia]
      simp only [this, Bool.not_false, Bool.and_true]
      by_cases h1 : a < i
      · have : a < i + 1 := by omega
        simp only [h1, this, true_and]
        omega
      · have : ¬ a < i + 1 := by omega
        simp only [h1, this, false_and, if_false]
        omega
theorem load_none {sz : List Int} {box : Nat → Nat} {k S : Nat} : ∀ i, (∀ j, j < i → S.testBit j = true → box j ≠ k) → load sz box k S i = 0
  | 0, _ => rfl
  | i + 1, h => by
    unfold load
    rw [load_none i fun j hj => h j (by omega), if_neg fun e => h i (by omega) e.1 e.2]
    rfl

/-! ### the table's law -/
theorem stepT_mono {r v v' s : Int} (hr : 1 ≤ r ∧ r ≤ 10000) (hs : 1 ≤ s ∧ s ≤ r) (hv : 0 ≤ v) (h : v ≤ v') (hq : v % 10001 ≤ r) : stepT r v s ≤ stepT r v' s := by
  have a1 : v.tdiv 10001 = v / 10001 := Int.tdiv_eq_ediv_of_nonneg hv
  have a2 : v.tmod 10001 = v % 10001 := Int.tmod_eq_emod_of_nonneg hv
  have b1 : v'.tdiv 10001 = v' / 10001 := Int.tdiv_eq_ediv_of_nonneg (by omega)
  have b2 : v'.tmod 10001 = v' % 10001 := Int.tmod_eq_emod_of_nonneg (by omega)
  unfold stepT
  rw [a1, a2, b1, b2]
  split <;> split <;> omega
theorem stepT_mod {r v s : Int} (hr : 1 ≤ r ∧ r ≤ 10000) (hs : 1 ≤ s ∧ s ≤ r) (hv : 0 ≤ v) (hq : v % 10001 ≤ r) : stepT r v s % 10001 ≤ r := by
  have a1 : v.tdiv 10001 = v / 10001 := Int.tdiv_eq_ediv_of_nonneg hv
  have a2 : v.tmod 10001 = v % 10001 := Int.tmod_eq_emod_of_nonneg hv
  unfold stepT
  rw [a1, a2]
  split <;> omega

theorem bestT_le_step {sz : List Int} {r : Int} {f : Nat → Int} {S i : Nat} (hb : S.testBit i = true) : ∀ n, i < n → bestT sz r f S n ≤ stepT r (f (S - 2 ^ i)) (sz.getD i 0)
  | 0, h => by omega
  | n + 1, h => by
    unfold bestT
    by_cases hin : i = n
    · subst hin
      rw [if_pos hb]
      omega
    · have := bestT_le_step (sz := sz) (r := r) (f := f) hb n (by omega)
      split <;> omega
theorem bestT_at {sz : List Int} {r : Int} {f : Nat → Int} {S : Nat} : ∀ n, bestT sz r f S n = 10001 * ((sz.length : Int) + 1) ∨ ∃ i, i < n ∧ S.testBit i = true ∧ bestT sz r f S n = stepT r (f (S - 2 ^ i)) (sz.getD i 0)
  | 0 => .inl rfl
  | n + 1 => by
    unfold bestT
    have ih := bestT_at (sz := sz) (r := r) (f := f) (S := S) n
    split
    · rename_i hb
      by_cases h : bestT sz r f S n ≤ stepT r (f (S - 2 ^ n)) (sz.getD n 0)
      · rw [Int.min_eq_left h]
        rcases ih with ih | ⟨i, h1, h2, h3⟩
        · exact .inl ih
        · exact .inr ⟨i, by omega, h2, h3⟩
      · rw [Int.min_eq_right (by omega)]
        exact .inr ⟨n, by omega, hb, rfl⟩
    · rcases ih with ih | ⟨i, h1, h2, h3⟩
      · exact .inl ih
      · exact .inr ⟨i, by omega, h2, h3⟩
theorem bestT_congr {sz : List Int} {r : Int} {f f' : Nat → Int} {S : Nat} (h : ∀ j, j < S → f j = f' j) : ∀ n, bestT sz r f S n = bestT sz r f' S n
  | 0 => rfl
  | n + 1 => by
    unfold bestT
    rw [bestT_congr h n]
    split
    · rename_i hb
      have := pow_le hb
      have h2 : 0 < 2 ^ n := Nat.pow_pos (by decide)
      rw [h _ (by omega)]
    · rfl
theorem tabF_stable {sz : List Int} {r : Int} {j : Nat} : ∀ {m}, j < m → tabF sz r m j = tabF sz r (j + 1) j := by
  intro m
  induction m with
  | zero => intro h; omega
  | succ m ih =>
    intro h
    by_cases hj : j = m
    · subst hj; rfl
    · have := ih (by omega)
      rw [← this]
      simp [tabF, hj]
theorem tabF_law {sz : List Int} {r : Int} {M S : Nat} (h : S < M) : tabF sz r M S = tabV sz r (tabF sz r M) S := by
  rw [tabF_stable h]
  show (if S = S then tabV sz r (tabF sz r S) S else _) = _
  rw [if_pos rfl]
  unfold tabV
  split
  · rfl
  · refine bestT_congr (fun j hj => ?_) _
    rw [tabF_stable hj, ← tabF_stable (m := M) (by omega)]
end Go.TI
end
