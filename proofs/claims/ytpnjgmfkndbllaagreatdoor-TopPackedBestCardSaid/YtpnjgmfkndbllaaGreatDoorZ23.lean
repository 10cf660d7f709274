/- A part of the proof of TopPackedBest: texts TkQ to TkQ. -/
import Derived.Test.YtpnjgmfkndbllaaGreatDoorZ22
/- Boxes are filled by events: the run. -/
section
set_option linter.unusedVariables false
set_option linter.unusedSimpArgs false
set_option maxRecDepth 1000000
namespace Go.TI
open Go Go.Proofs

def fillOne (r : Int) (i : Nat) (s : Int) (a : Nat) (css : List (List Ct)) : Option (List (List Ct)) := match css[a]? with
  | some cs => if thick cs + s ≤ r then some (css.modify a (⟨(i : Int) + 1, s⟩ :: ·)) else none
  | none => none
def fillSt (r : Int) (n : Nat) (sz : Nat → Int) (at' : Nat → Nat) : Nat → List (List Ct)
  | 0 => List.replicate n []
  | i + 1 => (fillOne r i (sz i) (at' i) (fillSt r n sz at' i)).getD (fillSt r n sz at' i)
def fillCnt (r : Int) (n : Nat) (sz : Nat → Int) (at' : Nat → Nat) : Nat → Nat
  | 0 => 0
  | i + 1 => fillCnt r n sz at' i + if (fillOne r i (sz i) (at' i) (fillSt r n sz at' i)).isSome then 1 else 0

theorem find_mkB {r : Int} {css : List (List Ct)} {a : Nat} : (mkB r css).findIdx? (fun b => decide (b.id = (a : Int) + 1)) = if a < css.length then some a else none := by
  split
  · rename_i h
    rw [List.findIdx?_eq_some_iff_getElem]
    refine ⟨by simpa using h, by simp [mkB], fun j hj => ?_⟩
    simp [mkB]
    omega
  · rename_i h
    rw [List.findIdx?_eq_none_iff]
    intro b hb
    obtain ⟨k, hk, h1, _⟩ := mkB_mem hb
    simp [h1]
    omega

theorem insAt_mkB {r : Int} {css : List (List Ct)} {a : Nat} {c : Ct} : insAt (mkB r css) a c = mkB r (css.modify a (c :: ·)) := by
  apply List.ext_getElem?
  intro k
  unfold insAt
  rw [List.getElem?_modify, mkB_get, mkB_get, List.getElem?_modify]
  by_cases h : a = k
  · subst h
    cases css[a]? <;> simp
  · simp [h]

theorem Inv.step {r : Int} {i : Nat} {css : List (List Ct)} (h : Inv r i css) (hi : i + 1 ≤ 10) {s : Int} (hs1 : 1 ≤ s) (hs2 : s ≤ 10000) {a : Nat} : Inv r (i + 1) ((fillOne r i s a css).getD css) := by
  unfold fillOne
  split
  · rename_i cs hcs
    split
    · rename_i hf
      exact h.put hi hcs hs1 hs2 hf
    · exact h.skip hi
  · exact h.skip hi

/-- What the step of the service gives at a piece. -/
def erOf (css : List (List Ct)) (a : Nat) : Int := match css[a]? with | some _ => 12 | none => 7
theorem stepFill (hI : InsOk) {r : Int} {i : Nat} {css : List (List Ct)} (h : Inv r i css) (hi : i + 1 ≤ 10) {s : Int} (hs1 : 1 ≤ s) (hs2 : s ≤ 10000) {a : Nat} (ha : a ≤ 1000) :
    PureOk P0 34 [.agg (uCells (mkB r css)), NL, .agg (evCells 49 (nums ((a : Int) + 1) 0 ((i : Int) + 1) s))] (match fillOne r i s a css with | some css' => stepRes 0 (mkB r css') | none => stepRes (erOf css a) []) := by
  have hg := h.good
  have hct : GoodCt ⟨(i : Int) + 1, s⟩ := ⟨by simp; omega, by simp; omega, hs1, hs2⟩
  have hu : (⟨(i : Int) + 1, s⟩ : Ct).unit ∉ unitsOf (mkB r css) := by
    rw [mkB_units]
    intro hm
    simp only [List.mem_map, List.mem_flatten] at hm
    obtain ⟨c, ⟨cs', hcs', hc⟩, he⟩ := hm
    have := h.cts cs' hcs' c hc
    omega
  have h32 : ∀ b ∈ mkB r css, b.cs.length < 32 := fun b hb => by
    obtain ⟨k, hk, _, _, _, _, h5⟩ := mkB_mem hb
    have := h.lens _ h5
    omega
  have hres : res259 (mkB r css) ((a : Int) + 1) ⟨(i : Int) + 1, s⟩ = (match fillOne r i s a css with | some css' => .tup [encBxs (mkB r css'), I 0] | none => .tup [noBxs, I (erOf css a)]) := by
    unfold res259 fillOne erOf
    rw [find_mkB]
    cases hc : css[a]? with
    | none =>
      have : ¬ a < css.length := by
        rw [List.getElem?_eq_none_iff] at hc; omega
      simp [this]
    | some cs =>
      have hal := (List.getElem?_eq_some_iff.1 hc).1
      simp only [hal, if_true, mkB_get, hc, Option.map_some]
      by_cases hf : thick cs + s ≤ r
      · have : ¬ (thick cs + s > r) := by omega
        simp [hf, this, insAt_mkB]
      · have : thick cs + s > r := by omega
        simp [hf, this]
  cases hf : fillOne r i s a css with
  | some css' =>
    rw [hf] at hres
    exact step49 hI hg (by omega) (by omega) hct hu h32 hres fun _ => rfl
  | none =>
    rw [hf] at hres
    refine step49 hI hg (by omega) (by omega) hct hu h32 (l' := []) hres fun h0 => ?_
    unfold erOf at h0
    split at h0 <;> simp at h0

/-- What boxes are to be filled with. -/
structure FillArg where
  sz : List Int
  r : Int
  n : Nat
  at' : List Nat
  r1 : 1 ≤ r
  r2 : r ≤ 10000
  n10 : n ≤ 10
  l10 : sz.length ≤ 10
  szs : ∀ s ∈ sz, 1 ≤ s ∧ s ≤ 10000
  atl : at'.length = sz.length
  ats : ∀ a ∈ at', a ≤ 1000
namespace FillArg
variable (A : FillArg)
def s (i : Nat) : Int := A.sz.getD i 0
def a (i : Nat) : Nat := A.at'.getD i 0
def st (i : Nat) : List (List Ct) := fillSt A.r A.n A.s A.a i
def cnt (i : Nat) : Nat := fillCnt A.r A.n A.s A.a i
theorem s_at {i : Nat} (h : i < A.sz.length) : A.sz[i]? = some (A.s i) := by simp [s, h]
theorem a_at {i : Nat} (h : i < A.sz.length) : A.at'[i]? = some (A.a i) := by simp [a, A.atl, h]
theorem s_ok {i : Nat} (h : i < A.sz.length) : 1 ≤ A.s i ∧ A.s i ≤ 10000 := A.szs _ (List.mem_of_getElem? (A.s_at h))
theorem a_ok {i : Nat} (h : i < A.sz.length) : A.a i ≤ 1000 := A.ats _ (List.mem_of_getElem? (A.a_at h))
theorem inv (i : Nat) (h : i ≤ A.sz.length) : Inv A.r i (A.st i) := by
  induction i with
  | zero => exact Inv.start A.r1 A.r2 A.n10
  | succ i ih => exact (ih (by omega)).step (by have := A.l10; omega) (A.s_ok (by omega)).1 (A.s_ok (by omega)).2
end FillArg

theorem nums_inj {a b c d a' b' c' d' : Int} (h : nums a b c d = nums a' b' c' d') : a = a' ∧ b = b' ∧ c = c' ∧ d = d' := by
  simp [nums] at h
  exact h
theorem ev_inj {k k' : Int} {n n' : V} (h : evCells k n = evCells k' n') : k = k' ∧ n = n' := by
  simp [evCells] at h
  exact h

theorem replicate_good {r : Int} {n : Nat} (h1 : 1 ≤ r) (h2 : r ≤ 10000) (hn : n ≤ 10) : GoodL (mkB r (List.replicate n [])) := (Inv.start h1 h2 hn).good
theorem mkB_rep {r : Int} {n : Nat} : mkB r (List.replicate n []) ++ [newBx ((n : Int) + 1) r] = mkB r (List.replicate (n + 1) []) := by
  rw [List.replicate_succ', mkB_snoc]
  simp [newBx]

/-- The steps of one filling. -/
def spec34 (hI : InsOk) (A : FillArg) : Spec P0 where
  K := 34
  A := { j : Nat // j < A.n } ⊕ { i : Nat // i < A.sz.length }
  args := fun x => match x with
    | .inl j => [.agg (uCells (mkB A.r (List.replicate j.1 []))), NL, .agg (evCells 48 (nums ((j.1 : Int) + 1) A.r A.r 0))]
    | .inr i => [.agg (uCells (mkB A.r (A.st i.1))), NL, .agg (evCells 49 (nums ((A.a i.1 : Int) + 1) 0 ((i.1 : Int) + 1) (A.s i.1)))]
  res := fun x => match x with
    | .inl j => stepRes 0 (mkB A.r (List.replicate (j.1 + 1) []))
    | .inr i => match fillOne A.r i.1 (A.s i.1) (A.a i.1) (A.st i.1) with | some css' => stepRes 0 (mkB A.r css') | none => stepRes (erOf (A.st i.1) (A.a i.1)) []
  inj := fun x y h => by
    cases x with
    | inl j => cases y with
      | inl j' =>
        simp only [List.cons.injEq, V.agg.injEq, true_and, and_true] at h
        have := (nums_inj (ev_inj h.2).2).1
        have : j.1 = j'.1 := by omega
        rw [show j = j' from Subtype.ext this]
      | inr i' =>
        simp only [List.cons.injEq, V.agg.injEq, true_and, and_true] at h
        have := (ev_inj h.2).1
        omega
    | inr i => cases y with
      | inl j' =>
        simp only [List.cons.injEq, V.agg.injEq, true_and, and_true] at h
        have := (ev_inj h.2).1
        omega
      | inr i' =>
        simp only [List.cons.injEq, V.agg.injEq, true_and, and_true] at h
        have := (nums_inj (ev_inj h.2).2).2.2.1
        have : i.1 = i'.1 := by omega
        rw [show i = i' from Subtype.ext this]
  body := Tab.b34
  ok := fun x => match x with
    | .inl j => by
      have := step48 (l := mkB A.r (List.replicate j.1 [])) (k := (j.1 : Int) + 1) (r := A.r) (replicate_good A.r1 A.r2 (by have := A.n10; have := j.2; omega)) (by rw [mkB_rep]; exact replicate_good A.r1 A.r2 (by have := A.n10; have := j.2; omega))
      rw [mkB_rep] at this
      exact this
    | .inr i => stepFill hI (A.inv i.1 (by have := i.2; omega)) (by have := A.l10; have := i.2; omega) (A.s_ok i.2).1 (A.s_ok i.2).2 (A.a_ok i.2)
end Go.TI
end
