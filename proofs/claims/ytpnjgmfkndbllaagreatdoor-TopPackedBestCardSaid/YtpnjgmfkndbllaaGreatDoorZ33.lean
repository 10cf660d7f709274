/- A part of the proof of TopPackedBest: texts TkZb to TkZb. -/
import Derived.Test.YtpnjgmfkndbllaaGreatDoorZ32
/- The plain law: packings. -/
section
set_option linter.unusedVariables false
set_option linter.unusedSimpArgs false
set_option linter.unusedSectionVars false
namespace Go.TI
open Go Go.Proofs

/-- What lies in box k, of the first i pieces. -/
def ld (sz : List Int) (at' : Nat → Nat) (k : Nat) : Nat → Int
  | 0 => 0
  | i + 1 => ld sz at' k i + if at' i = k then sz.getD i 0 else 0
theorem load_ld {sz : List Int} {at' : Nat → Nat} {k N : Nat} : ∀ i, i ≤ N → load sz at' k (2 ^ N - 1) i = ld sz at' k i
  | 0, _ => rfl
  | i + 1, h => by
    unfold load ld
    rw [load_ld i (by omega)]
    have : (2 ^ N - 1).testBit i = true := by rw [Nat.testBit_two_pow_sub_one]; simp; omega
    simp [this]
theorem ld_congr {sz : List Int} {a b : Nat → Nat} {k : Nat} : ∀ i, (∀ j, j < i → a j = b j) → ld sz a k i = ld sz b k i
  | 0, _ => rfl
  | i + 1, h => by
    unfold ld
    rw [ld_congr i fun j hj => h j (by omega), h i (by omega)]
theorem ld_none {sz : List Int} {a : Nat → Nat} {k : Nat} : ∀ i, (∀ j, j < i → a j ≠ k) → ld sz a k i = 0
  | 0, _ => rfl
  | i + 1, h => by
    unfold ld
    rw [ld_none i fun j hj => h j (by omega), if_neg (h i (by omega))]
    rfl
theorem ld_mono {sz : List Int} {a : Nat → Nat} {k : Nat} (h : ∀ s ∈ sz, 0 ≤ s) : ∀ {i j : Nat}, i ≤ j → j ≤ sz.length → ld sz a k i ≤ ld sz a k j := by
  intro i j hij
  induction hij with
  | refl => intro _; exact Int.le_refl _
  | @step m hm ih =>
    intro hj
    have h1 := ih (by omega)
    have hs : 0 ≤ sz.getD m 0 := h _ (by rw [List.getD_eq_getElem?_getD, List.getElem?_eq_getElem (by omega)]; exact List.getElem_mem _)
    show _ ≤ ld sz a k m + _
    split <;> omega

def boxesOf (at' : Nat → Nat) (L i : Nat) : List (List Int) := (List.range L).map fun k => ((List.range i).filter fun j => at' j == k).map fun j : Nat => (j : Int)
def sumsOf (sz : List Int) (at' : Nat → Nat) (L i : Nat) : List Int := (List.range L).map fun k => ld sz at' k i
@[simp] theorem boxesOf_len {at' : Nat → Nat} {L i : Nat} : (boxesOf at' L i).length = L := by simp [boxesOf]
@[simp] theorem sumsOf_len {sz : List Int} {at' : Nat → Nat} {L i : Nat} : (sumsOf sz at' L i).length = L := by simp [sumsOf]
theorem sumsOf_at {sz : List Int} {at' : Nat → Nat} {L i k : Nat} (h : k < L) : (sumsOf sz at' L i).getD k 0 = ld sz at' k i := by simp [sumsOf, h]
def extA (at' : Nat → Nat) (i k : Nat) : Nat → Nat := fun j => if j = i then k else at' j
theorem extA_lt {at' : Nat → Nat} {i k j : Nat} (h : j < i) : extA at' i k j = at' j := by unfold extA; rw [if_neg (by omega)]
theorem filter_extA {at' : Nat → Nat} {i k m : Nat} : ((List.range (i + 1)).filter fun j => extA at' i k j == m) = ((List.range i).filter fun j => at' j == m) ++ if k = m then [i] else [] := by
  rw [List.range_succ, List.filter_append]
  congr 1
  · apply List.filter_congr
    intro j hj
    rw [extA_lt (by simpa using hj)]
  · by_cases h : k = m
    · simp [extA, h]
    · simp [extA, h]
theorem boxesOf_put {at' : Nat → Nat} {L i k : Nat} : (boxesOf at' L i).modify k (· ++ [(i : Int)]) = boxesOf (extA at' i k) L (i + 1) := by
  apply List.ext_getElem?
  intro m
  unfold boxesOf
  rw [List.getElem?_modify, List.getElem?_map, List.getElem?_map]
  by_cases hm : m < L
  · simp only [List.getElem?_range hm, Option.map_some, filter_extA]
    by_cases e : k = m
    · simp [e]
    · simp [e]
  · have : (List.range L)[m]? = none := by simp; omega
    simp [this]
theorem boxesOf_new {at' : Nat → Nat} {L i : Nat} (h : ∀ j, j < i → at' j < L) : boxesOf at' L i ++ [[(i : Int)]] = boxesOf (extA at' i L) (L + 1) (i + 1) := by
  unfold boxesOf
  rw [List.range_succ (n := L), List.map_append]
  congr 1
  · apply List.map_congr_left
    intro m hm
    have hmL : m < L := by simpa using hm
    have : ¬ (L = m) := by omega
    rw [filter_extA]
    simp [this]
  · simp only [List.map_cons, List.map_nil, filter_extA, if_true]
    have : ((List.range i).filter fun j => at' j == L) = [] := by
      rw [List.filter_eq_nil_iff]
      intro j hj
      have := h j (by simpa using hj)
      simp
      omega
    rw [this]
    rfl
theorem ld_put {sz : List Int} {at' : Nat → Nat} {i k m : Nat} : ld sz (extA at' i k) m (i + 1) = ld sz at' m i + if k = m then sz.getD i 0 else 0 := by
  show ld sz (extA at' i k) m i + _ = _
  rw [ld_congr (b := at') i fun j hj => extA_lt hj]
  simp [extA]
theorem sumsOf_put {sz : List Int} {at' : Nat → Nat} {L i k : Nat} : (sumsOf sz at' L i).modify k (· + sz.getD i 0) = sumsOf sz (extA at' i k) L (i + 1) := by
  apply List.ext_getElem?
  intro m
  unfold sumsOf
  rw [List.getElem?_modify, List.getElem?_map, List.getElem?_map]
  by_cases hm : m < L
  · simp only [List.getElem?_range hm, Option.map_some, ld_put]
    by_cases e : k = m
    · simp [e]
    · simp [e]
  · have : (List.range L)[m]? = none := by simp; omega
    simp [this]
theorem sumsOf_new {sz : List Int} {at' : Nat → Nat} {L i : Nat} (h : ∀ j, j < i → at' j < L) : sumsOf sz at' L i ++ [sz.getD i 0] = sumsOf sz (extA at' i L) (L + 1) (i + 1) := by
  unfold sumsOf
  rw [List.range_succ, List.map_append]
  congr 1
  · apply List.map_congr_left
    intro m hm
    have hmL : m < L := by simpa using hm
    have : ¬ (L = m) := by omega
    rw [ld_put]
    simp [this]
  · simp only [List.map_cons, List.map_nil, ld_put, if_true]
    rw [ld_none i fun j hj => by have := h j hj; omega]
    simp

/-- A packing of all pieces into L boxes. -/
structure Pack (sz : List Int) (r : Int) (at' : Nat → Nat) (L : Nat) : Prop where
  lt : ∀ j, j < sz.length → at' j < L
  fit : ∀ k, ld sz at' k sz.length ≤ r

theorem dfs_sound {sz : List Int} {r : Int} {n : Nat} (hr : 1 ≤ r) (hsz : ∀ s ∈ sz, 1 ≤ s ∧ s ≤ r) : ∀ (rest done : List Int) (at' : Nat → Nat) (L : Nat) (x : List (List Int)), sz = done ++ rest → (∀ j, j < done.length → at' j < L) → L ≤ n → (∀ k, ld sz at' k done.length ≤ r) → dfs r n rest done.length (boxesOf at' L done.length) (sumsOf sz at' L done.length) = some x →
    ∃ at2 L2, x = boxesOf at2 L2 sz.length ∧ L2 ≤ n ∧ Pack sz r at2 L2 := by
  intro rest
  induction rest with
  | nil =>
    intro done at' L x hd hat hL hld h
    have : done = sz := by simpa using hd.symm
    subst this
    simp only [dfs, Option.some.injEq] at h
    exact ⟨at', L, h.symm, hL, hat, hld⟩
  | cons s rest ih =>
    intro done at' L x hd hat hL hld h
    have hsi : sz.getD done.length 0 = s := by rw [hd]; simp
    have hsb := hsz s (by rw [hd]; simp)
    have hi1 : ((done.length : Int) + 1) = ((done ++ [s]).length : Int) := by simp
    have hi2 : done.length + 1 = (done ++ [s]).length := by simp
    unfold dfs at h
    split at h
    · rename_i y hy
      injection h with h
      subst h
      obtain ⟨k, h1, h2, h3⟩ := tryFrom_at hy
      simp only [boxesOf_len, Nat.zero_add] at h2
      split at h3
      · simp at h3
      · rename_i hfit
        rw [sumsOf_at h2] at hfit
        rw [boxesOf_put, ← hsi, sumsOf_put, hi1, hi2] at h3
        refine ih (done ++ [s]) (extA at' done.length k) L y (by simp [hd]) (fun j hj => ?_) hL (fun m => ?_) h3
        · unfold extA
          split
          · exact h2
          · refine hat j ?_
            simp at hj
            omega
        · rw [← hi2, ld_put, hsi]
          split
          · rename_i e; subst e; omega
          · have := hld m; omega
    · split at h
      · simp at h
      · rename_i hne
        simp only [boxesOf_len] at hne
        rw [boxesOf_new hat, ← hsi, sumsOf_new hat, hi1, hi2] at h
        refine ih (done ++ [s]) (extA at' done.length L) (L + 1) x (by simp [hd]) (fun j hj => ?_) (by omega) (fun m => ?_) h
        · unfold extA
          split
          · omega
          · have := hat j (by simp at hj; omega)
            omega
        · rw [← hi2, ld_put, hsi]
          split
          · rename_i e; subst e; rw [ld_none _ fun j hj => by have := hat j hj; omega]; omega
          · have := hld m; omega

theorem feas_of {sz : List Int} {r : Int} {n : Nat} {at' : Nat → Nat} (hsz : ∀ s ∈ sz, 1 ≤ s ∧ s ≤ r) (hp : Pack sz r at' n) : ∀ (rest done : List Int), sz = done ++ rest → feas r n rest (fun k => ld sz at' k done.length) := by
  intro rest
  induction rest with
  | nil => intro done _; trivial
  | cons s rest ih =>
    intro done hd
    have hl : done.length < sz.length := by rw [hd]; simp
    have hsi : sz.getD done.length 0 = s := by rw [hd]; simp
    refine ⟨at' done.length, hp.lt _ hl, ?_, ?_⟩
    · have h1 : ld sz at' (at' done.length) (done.length + 1) = ld sz at' (at' done.length) done.length + s := by
        show _ + _ = _
        rw [if_pos rfl, hsi]
      have h2 := ld_mono (sz := sz) (a := at') (k := at' done.length) (fun s hs => by have := hsz s hs; omega) (i := done.length + 1) (j := sz.length) (by omega) (Nat.le_refl _)
      have h3 := hp.fit (at' done.length)
      show ld sz at' (at' done.length) done.length + s ≤ r
      omega
    · refine cast ?_ (ih (done ++ [s]) (by simp [hd]))
      congr 1
      funext j
      have : (done ++ [s]).length = done.length + 1 := by simp
      rw [this]
      show _ + _ = _
      rw [hsi]
      by_cases e : at' done.length = j
      · simp [e]
      · have : ¬ (j = at' done.length) := fun h => e h.symm
        simp [e, this]
end Go.TI
end
