/- A part of the proof of TopPackedBest: texts TkZc to TkZc. -/
import Derived.Test.YtpnjgmfkndbllaaGreatDoorZ33
/- The plain law: the exact packing, the packing in order, filling. -/
section
set_option linter.unusedVariables false
set_option linter.unusedSimpArgs false
set_option linter.unusedSectionVars false
namespace Go.TI
open Go Go.Proofs

theorem modify_last {α : Type} (pre : List α) (x : α) (f : α → α) : (pre ++ [x]).modify pre.length f = pre ++ [f x] := by
  induction pre with
  | nil => rfl
  | cons y pre ih => simp [ih]
section
variable {sz : List Int} {r : Int} (hr : 1 ≤ r ∧ r ≤ 10000) (hsz : ∀ s ∈ sz, 1 ≤ s ∧ s ≤ r) (hlen : sz.length ≤ 10)
include hr hsz hlen

theorem leastT_eq : leastT sz r = tabF sz r (2 ^ sz.length) (2 ^ sz.length - 1) / 10001 := Int.tdiv_eq_ediv_of_nonneg (tabF_bound hr hsz _ _).1
theorem least_nonneg : 0 ≤ leastT sz r := by
  rw [leastT_eq hr hsz hlen]
  have := (tabF_bound hr hsz (2 ^ sz.length) (2 ^ sz.length - 1)).1
  omega
theorem full_lt : 2 ^ sz.length - 1 < 2 ^ sz.length := by
  have : 0 < 2 ^ sz.length := Nat.pow_pos (by decide)
  omega
/-- No packing has fewer boxes. -/
theorem least_le {at' : Nat → Nat} {L : Nat} (h : Pack sz r at' L) : leastT sz r ≤ L := by
  rw [leastT_eq hr hsz hlen]
  cases L with
  | zero =>
    have hN : sz.length = 0 := by
      apply Classical.byContradiction
      intro hn
      have := h.lt 0 (by omega)
      omega
    rw [hN]
    simp [tabF_law (sz := sz) (r := r) (M := 1) (S := 0) (by decide), tabV]
  | succ m =>
    have := best_le hr hsz hlen at' m (2 ^ sz.length - 1) (full_lt hr hsz hlen) (fun i hi _ => by have := h.lt i hi; omega) (fun k _ => by rw [load_ld _ (Nat.le_refl _)]; exact h.fit k)
    rw [load_ld _ (Nat.le_refl _)] at this
    have h2 := h.fit m
    omega
/-- There is one with as many. -/
theorem least_pack : ∃ at', Pack sz r at' (leastT sz r).toNat := by
  obtain ⟨box, h1, h2, _⟩ := attained hr hsz hlen (2 ^ sz.length - 1) (full_lt hr hsz hlen)
  have h0 := least_nonneg hr hsz hlen
  rw [← leastT_eq hr hsz hlen] at h1
  refine ⟨box, fun j hj => ?_, fun k => ?_⟩
  · have := h1 j hj (by rw [Nat.testBit_two_pow_sub_one]; simpa using hj)
    omega
  · rw [← load_ld _ (Nat.le_refl _)]
    exact h2 k
theorem ld_id : ∀ k n, ld sz (fun j => j) k n = if k < n then sz.getD k 0 else 0 := by
  intro k n
  induction n with
  | zero => simp [ld]
  | succ n ih =>
    show ld sz (fun j => j) k n + _ = _
    rw [ih]
    by_cases h1 : k < n
    · have h2 : k < n + 1 := by omega
      have h3 : ¬ (n = k) := by omega
      rw [if_pos h1, if_pos h2, if_neg h3]
      omega
    · by_cases h3 : n = k
      · subst h3
        have h2 : n < n + 1 := by omega
        rw [if_neg h1, if_pos h2, if_pos rfl]
        omega
      · have h2 : ¬ (k < n + 1) := by omega
        rw [if_neg h1, if_neg h2, if_neg h3]
        rfl
theorem least_len : leastT sz r ≤ sz.length := by
  refine least_le hr hsz hlen (at' := fun j => j) ⟨fun j hj => hj, fun k => ?_⟩
  rw [ld_id hr hsz hlen]
  split
  · rename_i h
    exact (sz_at hr hsz hlen h).2
  · omega
theorem exact_ok : ∃ at' L, dfs r (leastT sz r) sz 0 [] [] = some (boxesOf at' L sz.length) ∧ (L : Int) ≤ leastT sz r ∧ Pack sz r at' L := by
  obtain ⟨a0, h0⟩ := least_pack hr hsz hlen
  have hn := least_nonneg hr hsz hlen
  have hf := feas_of hsz h0 sz [] rfl
  have hnn : ((leastT sz r).toNat : Int) = leastT sz r := by omega
  have hc := dfs_complete (r := r) (n := (leastT sz r).toNat) sz 0 [] [] rfl (by simp) (by
    refine cast ?_ hf
    congr 1)
  rw [hnn] at hc
  obtain ⟨x, hx⟩ := Option.isSome_iff_exists.1 hc
  have hs := dfs_sound (n := (leastT sz r).toNat) hr.1 hsz sz [] (fun _ => 0) 0 x rfl (by simp) (by omega) (fun k => by show (0 : Int) ≤ r; omega) (by rw [hnn]; exact hx)
  obtain ⟨at', L, rfl, h2, h3⟩ := hs
  exact ⟨at', L, hx, by omega, h3⟩

theorem nf_sound : ∀ (rest done : List Int) (at' : Nat → Nat) (L : Nat) (pre : List (List Int)) (last : List Int) (left : Int), sz = done ++ rest → L + 1 ≤ done.length → (∀ j, j < done.length → at' j < L + 1) → (∀ k, ld sz at' k done.length ≤ r) → pre ++ [last] = boxesOf at' (L + 1) done.length → left = r - ld sz at' L done.length →
    ∃ at2 L2, nf r rest done.length pre last left = boxesOf at2 L2 sz.length ∧ Pack sz r at2 L2 ∧ L2 ≤ sz.length := by
  intro rest
  induction rest with
  | nil =>
    intro done at' L pre last left hd hLd hat hld hb hleft
    have : done = sz := by simpa using hd.symm
    subst this
    exact ⟨at', L + 1, by simp only [nf, hb], ⟨hat, hld⟩, hLd⟩
  | cons s rest ih =>
    intro done at' L pre last left hd hLd hat hld hb hleft
    have hsi : sz.getD done.length 0 = s := by rw [hd]; simp
    have hsb := hsz s (by rw [hd]; simp)
    have hi1 : ((done.length : Int) + 1) = ((done ++ [s]).length : Int) := by simp
    have hi2 : done.length + 1 = (done ++ [s]).length := by simp
    unfold nf
    split
    · rename_i hgt
      rw [hi1]
      refine ih (done ++ [s]) (extA at' done.length (L + 1)) (L + 1) (pre ++ [last]) [(done.length : Int)] (r - s) (by simp [hd]) (by simp; omega) (fun j hj => ?_) (fun m => ?_) ?_ ?_
      · unfold extA
        split
        · omega
        · have := hat j (by simp at hj; omega)
          omega
      · rw [← hi2, ld_put, hsi]
        split
        · rename_i e; subst e; rw [ld_none _ fun j hj => by have := hat j hj; omega]; omega
        · have := hld m; omega
      · rw [hb, boxesOf_new hat, hi2]
      · rw [← hi2, ld_put, hsi, if_pos rfl, ld_none _ fun j hj => by have := hat j hj; omega]
        omega
    · rename_i hle
      rw [hi1]
      have hpl : pre.length = L := by
        have := congrArg List.length hb
        simp at this
        omega
      refine ih (done ++ [s]) (extA at' done.length L) L pre (last ++ [(done.length : Int)]) (left - s) (by simp [hd]) (by simp; omega) (fun j hj => ?_) (fun m => ?_) ?_ ?_
      · unfold extA
        split
        · omega
        · exact hat j (by simp at hj; omega)
      · rw [← hi2, ld_put, hsi]
        split
        · rename_i e; subst e; omega
        · have := hld m; omega
      · rw [← hi2, ← boxesOf_put, ← hb]
        subst hpl
        exact (modify_last pre last (fun x => x ++ [(done.length : Int)])).symm
      · rw [← hi2, ld_put, hsi, if_pos rfl]
        omega
theorem order_ok : ∃ at' L, nfAll r sz = boxesOf at' L sz.length ∧ Pack sz r at' L ∧ L ≤ sz.length := by
  cases hs : sz with
  | nil => exact ⟨fun _ => 0, 0, rfl, ⟨fun j hj => by simp at hj, fun k => by show (0 : Int) ≤ r; omega⟩, by simp⟩
  | cons s rest =>
    have hsb := hsz s (by rw [hs]; simp)
    have h := nf_sound hr hsz hlen rest [s] (fun _ => 0) 0 [] [0] (r - s) (by rw [hs]; rfl) (by simp) (fun j _ => by omega) (fun k => by
      show (0 : Int) + (if 0 = k then sz.getD 0 0 else 0) ≤ r
      rw [hs]
      split <;> simp <;> omega) (by simp [boxesOf]) (by simp [ld, hs])
    obtain ⟨at2, L2, h1, h2, h3⟩ := h
    rw [hs] at h1 h2 h3
    exact ⟨at2, L2, h1, h2, h3⟩
end

/-! ### filling -/
section
variable (A : FillArg)
theorem FillArg.cnt_succ (i : Nat) : A.cnt (i + 1) = A.cnt i + if (fillOne A.r i (A.s i) (A.a i) (A.st i)).isSome then 1 else 0 := rfl
theorem FillArg.st_succ (i : Nat) : A.st (i + 1) = (fillOne A.r i (A.s i) (A.a i) (A.st i)).getD (A.st i) := rfl
theorem FillArg.cnt_le : ∀ i, A.cnt i ≤ i := by
  intro i
  induction i with
  | zero => exact Nat.le_refl _
  | succ i ih => rw [A.cnt_succ]; split <;> omega
theorem FillArg.cnt_add (i : Nat) : ∀ j, A.cnt (i + j) ≤ A.cnt i + j := by
  intro j
  induction j with
  | zero => exact Nat.le_refl _
  | succ j ih => rw [show i + (j + 1) = i + j + 1 by omega, A.cnt_succ]; split <;> omega
theorem FillArg.st_len : ∀ i, (A.st i).length = A.n := by
  intro i
  induction i with
  | zero => show (List.replicate A.n []).length = A.n; simp
  | succ i ih =>
    rw [A.st_succ]
    unfold fillOne
    split
    · split
      · simp [ih]
      · exact ih
    · exact ih
theorem fillOne_some {r : Int} {i : Nat} {s : Int} {a : Nat} {css : List (List Ct)} : (fillOne r i s a css).isSome = true ↔ ∃ cs, css[a]? = some cs ∧ thick cs + s ≤ r := by
  unfold fillOne
  cases hc : css[a]? with
  | none => simp
  | some cs =>
    by_cases h : thick cs + s ≤ r
    · simp [h]
    · simp [h]
/-- If all came in so far, the boxes hold what they should. -/
theorem FillArg.loads : ∀ i, i ≤ A.sz.length → A.cnt i = i → ∀ k, k < A.n → ∃ cs, (A.st i)[k]? = some cs ∧ thick cs = ld A.sz A.a k i := by
  intro i
  induction i with
  | zero => intro _ _ k hk; exact ⟨[], by show (List.replicate A.n [])[k]? = _; simp [hk], rfl⟩
  | succ i ih =>
    intro hi hc k hk
    have h1 := A.cnt_le i
    rw [A.cnt_succ] at hc
    have hsome : (fillOne A.r i (A.s i) (A.a i) (A.st i)).isSome = true := by
      cases h : (fillOne A.r i (A.s i) (A.a i) (A.st i)).isSome with
      | true => rfl
      | false => rw [h] at hc; simp at hc; omega
    have hci : A.cnt i = i := by rw [hsome] at hc; simp at hc; exact hc
    obtain ⟨cs, h2, h3⟩ := ih (by omega) hci k hk
    obtain ⟨ca, h4, h5⟩ := fillOne_some.1 hsome
    have hst : A.st (i + 1) = (A.st i).modify (A.a i) (⟨(i : Int) + 1, A.s i⟩ :: ·) := by
      rw [A.st_succ]
      unfold fillOne
      simp only [h4]
      rw [if_pos h5]
      rfl
    have hld : ld A.sz A.a k (i + 1) = ld A.sz A.a k i + if A.a i = k then A.s i else 0 := rfl
    rw [hst, hld, List.getElem?_modify]
    by_cases e : A.a i = k
    · refine ⟨⟨(i : Int) + 1, A.s i⟩ :: cs, by rw [h2]; simp [e], ?_⟩
      rw [if_pos e]
      simp only [thick, List.map_cons, List.sum_cons] at h3 ⊢
      omega
    · refine ⟨cs, by rw [h2]; simp [e], ?_⟩
      rw [if_neg e]
      omega
theorem FillArg.all (h : Pack A.sz A.r A.a A.n) : ∀ i, i ≤ A.sz.length → A.cnt i = i := by
  intro i
  induction i with
  | zero => intro _; rfl
  | succ i ih =>
    intro hi
    have hc := ih (by omega)
    obtain ⟨cs, h1, h2⟩ := A.loads i (by omega) hc (A.a i) (h.lt i (by omega))
    have h3 : ld A.sz A.a (A.a i) (i + 1) = ld A.sz A.a (A.a i) i + A.s i := by
      show _ + _ = _
      rw [if_pos rfl]
      rfl
    have h4 := ld_mono (sz := A.sz) (a := A.a) (k := A.a i) (fun s hs => by have := A.szs s hs; omega) hi (Nat.le_refl _)
    have h5 := h.fit (A.a i)
    have : (fillOne A.r i (A.s i) (A.a i) (A.st i)).isSome = true := fillOne_some.2 ⟨cs, h1, by omega⟩
    rw [A.cnt_succ, this, hc]
    rfl
theorem FillArg.pack (h : A.cnt A.sz.length = A.sz.length) : Pack A.sz A.r A.a A.n := by
  have hall : ∀ i, i ≤ A.sz.length → A.cnt i = i := fun i hi => by
    have h1 := A.cnt_add i (A.sz.length - i)
    rw [show i + (A.sz.length - i) = A.sz.length by omega, h] at h1
    have := A.cnt_le i
    omega
  have hone : ∀ i, i < A.sz.length → ∃ cs, (A.st i)[A.a i]? = some cs ∧ thick cs + A.s i ≤ A.r := fun i hi => by
    apply fillOne_some.1
    have h1 := hall (i + 1) hi
    have h2 := hall i (by omega)
    rw [A.cnt_succ] at h1
    cases hs : (fillOne A.r i (A.s i) (A.a i) (A.st i)).isSome with
    | true => rfl
    | false => rw [hs] at h1; simp at h1; omega
  have hlt : ∀ j, j < A.sz.length → A.a j < A.n := fun j hj => by
    obtain ⟨cs, h1, _⟩ := hone j hj
    have := (List.getElem?_eq_some_iff.1 h1).1
    rw [A.st_len] at this
    exact this
  refine ⟨hlt, fun k => ?_⟩
  have key : ∀ i, i ≤ A.sz.length → ld A.sz A.a k i ≤ A.r := by
    intro i
    induction i with
    | zero => intro _; show (0 : Int) ≤ A.r; have := A.r1; omega
    | succ i ih =>
      intro hi
      have h1 := ih (by omega)
      show ld A.sz A.a k i + _ ≤ A.r
      split
      · rename_i e
        obtain ⟨cs, h2, h3⟩ := hone i (by omega)
        obtain ⟨cs', h4, h5⟩ := A.loads i (by omega) (hall i (by omega)) (A.a i) (hlt i (by omega))
        rw [h2] at h4
        injection h4 with h4
        subst h4
        rw [← e]
        have : A.sz.getD i 0 = A.s i := rfl
        omega
      · omega
  exact key _ (Nat.le_refl _)
end
end Go.TI
end
