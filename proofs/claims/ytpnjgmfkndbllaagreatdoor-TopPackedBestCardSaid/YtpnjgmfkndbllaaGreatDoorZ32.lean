/- A part of the proof of TopPackedBest: texts TkZ to TkZ. -/
import Derived.Test.YtpnjgmfkndbllaaGreatDoorZ29
import Derived.Test.YtpnjgmfkndbllaaGreatDoorZ31
/- The plain law: the search finds a packing. -/
section
set_option linter.unusedVariables false
set_option linter.unusedSimpArgs false
set_option linter.unusedSectionVars false
namespace Go.TI
open Go Go.Proofs

def tryFrom {α : Type} (g : Nat → Option α) : Nat → Nat → Option α
  | 0, _ => none
  | m + 1, k => match g k with
    | some x => some x
    | none => tryFrom g m (k + 1)
def dfs (r least : Int) : List Int → Int → List (List Int) → List Int → Option (List (List Int))
  | [], _, ll, _ => some ll
  | s :: rest, i, ll, sums =>
    match tryFrom (fun k => if sums.getD k 0 + s > r then none else dfs r least rest (i + 1) (ll.modify k (· ++ [i])) (sums.modify k (· + s))) ll.length 0 with
    | some x => some x
    | none => if (ll.length : Int) = least then none else dfs r least rest (i + 1) (ll ++ [[i]]) (sums ++ [s])

theorem tryFrom_some {α : Type} {g : Nat → Option α} : ∀ {m k j : Nat}, k ≤ j → j < k + m → (g j).isSome = true → (tryFrom g m k).isSome = true := by
  intro m
  induction m with
  | zero => intro k j h1 h2 _; omega
  | succ m ih =>
    intro k j h1 h2 h3
    unfold tryFrom
    cases hg : g k with
    | some x => rfl
    | none =>
      have : k ≠ j := by intro e; subst e; rw [hg] at h3; simp at h3
      exact ih (by omega) (by omega) h3
theorem tryFrom_at {α : Type} {g : Nat → Option α} {x : α} : ∀ {m k : Nat}, tryFrom g m k = some x → ∃ j, k ≤ j ∧ j < k + m ∧ g j = some x := by
  intro m
  induction m with
  | zero => intro k h; simp [tryFrom] at h
  | succ m ih =>
    intro k h
    unfold tryFrom at h
    split at h
    · rename_i y hy
      injection h with h
      subst h
      exact ⟨k, by omega, by omega, hy⟩
    · obtain ⟨j, h1, h2, h3⟩ := ih h
      exact ⟨j, by omega, by omega, h3⟩

/-- The pieces can be put into n boxes that hold this already. -/
def feas (r : Int) (n : Nat) : List Int → (Nat → Int) → Prop
  | [], _ => True
  | s :: rest, ld => ∃ k, k < n ∧ ld k + s ≤ r ∧ feas r n rest (fun j => if j = k then ld j + s else ld j)
def swp (a b j : Nat) : Nat := if j = a then b else if j = b then a else j
theorem swp_swp {a b j : Nat} : swp a b (swp a b j) = j := by
  unfold swp
  repeat' split
  all_goals omega
theorem swp_lt {a b j n : Nat} (ha : a < n) (hb : b < n) (h : j < n) : swp a b j < n := by
  unfold swp
  repeat' split
  all_goals omega
theorem feas_swap {r : Int} {n a b : Nat} (ha : a < n) (hb : b < n) : ∀ {rest : List Int} {ld : Nat → Int}, feas r n rest ld → feas r n rest (fun j => ld (swp a b j)) := by
  intro rest
  induction rest with
  | nil => intro ld _; trivial
  | cons s rest ih =>
    intro ld ⟨k, h1, h2, h3⟩
    refine ⟨swp a b k, swp_lt ha hb h1, by show ld (swp a b (swp a b k)) + s ≤ r; rw [swp_swp]; exact h2, ?_⟩
    have := ih h3
    refine cast ?_ this
    congr 1
    funext j
    have e : (swp a b j = k) = (j = swp a b k) := propext ⟨fun h => by rw [← h, swp_swp], fun h => by rw [h, swp_swp]⟩
    simp only [e]

theorem getD_modify {l : List Int} {k j : Nat} {s : Int} (h : k < l.length) : (l.modify k (· + s)).getD j 0 = if j = k then l.getD j 0 + s else l.getD j 0 := by
  simp only [List.getD_eq_getElem?_getD, List.getElem?_modify]
  by_cases e : k = j
  · subst e
    simp [h]
  · have : ¬ (j = k) := fun h => e h.symm
    simp [e, this]
theorem getD_snoc {l : List Int} {j : Nat} {s : Int} : (l ++ [s]).getD j 0 = if j = l.length then s else l.getD j 0 := by
  simp only [List.getD_eq_getElem?_getD]
  by_cases h : j < l.length
  · have : ¬ (j = l.length) := by omega
    rw [List.getElem?_append_left h]
    simp [this]
  · by_cases e : j = l.length
    · subst e; simp
    · rw [List.getElem?_eq_none (by simp; omega), List.getElem?_eq_none (by omega)]
      simp [e]

theorem dfs_complete {r : Int} {n : Nat} : ∀ (rest : List Int) (i : Int) (ll : List (List Int)) (sums : List Int), ll.length = sums.length → sums.length ≤ n → feas r n rest (fun k => sums.getD k 0) → (dfs r n rest i ll sums).isSome = true := by
  intro rest
  induction rest with
  | nil => intro i ll sums _ _ _; rfl
  | cons s rest ih =>
    intro i ll sums hl hn ⟨k, h1, h2, h3⟩
    unfold dfs
    by_cases hk : k < sums.length
    · have : (tryFrom (fun k => if sums.getD k 0 + s > r then none else dfs r n rest (i + 1) (ll.modify k (· ++ [i])) (sums.modify k (· + s))) ll.length 0).isSome = true := by
        refine tryFrom_some (j := k) (by omega) (by omega) ?_
        have h2' : sums.getD k 0 + s ≤ r := h2
        rw [if_neg (by omega)]
        refine ih _ _ _ (by simp [hl]) (by simpa using hn) ?_
        refine cast ?_ h3
        congr 1
        funext j
        rw [getD_modify hk]
      cases ht : tryFrom (fun k => if sums.getD k 0 + s > r then none else dfs r n rest (i + 1) (ll.modify k (· ++ [i])) (sums.modify k (· + s))) ll.length 0 with
      | some x => rfl
      | none => rw [ht] at this; simp at this
    · cases ht : tryFrom (fun k => if sums.getD k 0 + s > r then none else dfs r n rest (i + 1) (ll.modify k (· ++ [i])) (sums.modify k (· + s))) ll.length 0 with
      | some x => rfl
      | none =>
        simp only
        rw [if_neg (by omega)]
        refine ih _ _ _ (by simp [hl]) (by simp; omega) ?_
        have h4 := feas_swap (a := k) (b := sums.length) h1 (by omega) h3
        refine cast ?_ h4
        congr 1
        funext j
        rw [getD_snoc]
        have hz : ∀ j, sums.length ≤ j → sums.getD j 0 = 0 := fun j hj => by rw [List.getD_eq_getElem?_getD, List.getElem?_eq_none hj]; rfl
        by_cases e1 : j = k
        · subst e1
          by_cases e2 : j = sums.length
          · subst e2
            simp [swp]
          · have e3 : ¬ (sums.length = j) := fun h => e2 h.symm
            simp only [swp, if_true, e3, e2, if_false]
            rw [hz _ (Nat.le_refl _), hz _ (by omega)]
        · by_cases e2 : j = sums.length
          · subst e2
            have e3 : ¬ (k = sums.length) := fun h => e1 h.symm
            simp only [swp, e1, if_false, if_true]
            rw [hz k (by omega)]
            omega
          · simp only [swp, e1, e2, if_false]
end Go.TI
end
