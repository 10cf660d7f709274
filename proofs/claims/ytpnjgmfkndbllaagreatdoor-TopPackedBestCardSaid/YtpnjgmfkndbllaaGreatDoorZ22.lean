/- A part of the proof of TopPackedBest: texts TkP to TkP. -/
import Derived.Test.YtpnjgmfkndbllaaGreatDoorZ21
/- Boxes are filled by events. -/
section
set_option linter.unusedVariables false
set_option linter.unusedSimpArgs false
set_option maxRecDepth 1000000
namespace Go.TI
open Go Go.Proofs

/-- Boxes of one room, with these contents. -/
def mkB (r : Int) (css : List (List Ct)) : List Bx := css.mapIdx fun k cs => ⟨(k : Int) + 1, r, r, 0, cs⟩
@[simp] theorem mkB_length {r : Int} {css : List (List Ct)} : (mkB r css).length = css.length := by simp [mkB]
theorem mkB_get {r : Int} {css : List (List Ct)} {k : Nat} : (mkB r css)[k]? = (css[k]?).map fun cs => ⟨(k : Int) + 1, r, r, 0, cs⟩ := by simp [mkB]
theorem mkB_snoc {r : Int} {css : List (List Ct)} {cs : List Ct} : mkB r (css ++ [cs]) = mkB r css ++ [⟨(css.length : Int) + 1, r, r, 0, cs⟩] := by simp [mkB, List.mapIdx_append]
theorem mkB_cs {r : Int} {css : List (List Ct)} : (mkB r css).map (·.cs) = css := by
  apply List.ext_getElem?
  intro k
  rw [List.getElem?_map, mkB_get]
  cases css[k]? <;> rfl
theorem mkB_mem {r : Int} {css : List (List Ct)} {b : Bx} (h : b ∈ mkB r css) : ∃ k : Nat, k < css.length ∧ b.id = (k : Int) + 1 ∧ b.width = r ∧ b.room = r ∧ b.climate = 0 ∧ b.cs ∈ css := by
  obtain ⟨k, hk⟩ := List.getElem?_of_mem h
  rw [mkB_get, Option.map_eq_some_iff] at hk
  obtain ⟨cs, hcs, rfl⟩ := hk
  exact ⟨k, (List.getElem?_eq_some_iff.1 hcs).1, rfl, rfl, rfl, rfl, List.mem_of_getElem? hcs⟩

/-- What holds while boxes are filled: i pieces came. -/
structure Inv (r : Int) (i : Nat) (css : List (List Ct)) : Prop where
  r1 : 1 ≤ r
  r2 : r ≤ 10000
  len : css.length ≤ 10
  i10 : i ≤ 10
  cts : ∀ cs ∈ css, ∀ c ∈ cs, 1 ≤ c.unit ∧ c.unit ≤ i ∧ 1 ≤ c.thick ∧ c.thick ≤ 10000
  lens : ∀ cs ∈ css, cs.length ≤ i
  fit : ∀ cs ∈ css, thick cs ≤ r
  nd : (css.flatten.map (·.unit)).Nodup

theorem Inv.good {r : Int} {i : Nat} {css : List (List Ct)} (h : Inv r i css) : GoodL (mkB r css) where
  len := by simp; have := h.len; omega
  each b hb := by
    obtain ⟨k, hk, h1, h2, h3, h4, h5⟩ := mkB_mem hb
    have := h.len
    have := h.r1
    have := h.r2
    have := h.i10
    exact ⟨by omega, by omega, by omega, by omega, by omega, by omega, by omega, by omega, fun c hc => by
      have := h.cts _ h5 c hc
      exact ⟨by omega, by omega, by omega, by omega⟩, by have := h.lens _ h5; omega, by rw [h3]; exact h.fit _ h5⟩
  ids := by
    rw [List.pairwise_iff_getElem]
    intro a b ha hb hab
    simp [mkB]
    omega
  units := by
    have : (mkB r css).flatMap (·.cs) = css.flatten := by rw [List.flatMap_def, mkB_cs]
    rw [this]
    exact h.nd
theorem mkB_units {r : Int} {css : List (List Ct)} : unitsOf (mkB r css) = css.flatten.map (·.unit) := by
  unfold unitsOf
  rw [List.flatMap_def, mkB_cs]

theorem Inv.start {r : Int} {n : Nat} (h1 : 1 ≤ r) (h2 : r ≤ 10000) (hn : n ≤ 10) : Inv r 0 (List.replicate n []) where
  r1 := h1
  r2 := h2
  len := by simpa using hn
  i10 := by omega
  cts cs hcs c hc := by rw [(List.mem_replicate.1 hcs).2] at hc; simp at hc
  lens cs hcs := by rw [(List.mem_replicate.1 hcs).2]; simp
  fit cs hcs := by rw [(List.mem_replicate.1 hcs).2]; simp [thick]; omega
  nd := by simp

theorem Inv.skip {r : Int} {i : Nat} {css : List (List Ct)} (h : Inv r i css) (hi : i + 1 ≤ 10) : Inv r (i + 1) css :=
  { h with i10 := hi, cts := fun cs hcs c hc => by have := h.cts cs hcs c hc; omega, lens := fun cs hcs => by have := h.lens cs hcs; omega }

theorem flatten_modify {css : List (List Ct)} {a : Nat} {c : Ct} (ha : a < css.length) : (css.modify a (c :: ·)).flatten.Perm (c :: css.flatten) := by
  induction css generalizing a with
  | nil => simp at ha
  | cons cs css ih =>
    cases a with
    | zero => simp
    | succ a =>
      simp only [List.modify_succ_cons, List.flatten_cons]
      refine ((ih (by simpa using ha)).append_left cs).trans ?_
      exact List.perm_middle

theorem Inv.put {r : Int} {i : Nat} {css : List (List Ct)} (h : Inv r i css) (hi : i + 1 ≤ 10) {a : Nat} {cs : List Ct} (ha : css[a]? = some cs) {s : Int} (hs1 : 1 ≤ s) (hs2 : s ≤ 10000) (hfit : thick cs + s ≤ r) : Inv r (i + 1) (css.modify a (⟨(i : Int) + 1, s⟩ :: ·)) := by
  obtain ⟨hal, hae⟩ := List.getElem?_eq_some_iff.1 ha
  have hmem : ∀ cs' ∈ css.modify a (⟨(i : Int) + 1, s⟩ :: ·), cs' ∈ css ∨ cs' = ⟨(i : Int) + 1, s⟩ :: cs := by
    intro cs' hcs'
    obtain ⟨k, hk⟩ := List.getElem?_of_mem hcs'
    rw [List.getElem?_modify] at hk
    by_cases hka : a = k
    · subst hka
      simp [ha] at hk
      exact .inr hk.symm
    · simp [hka] at hk
      exact .inl (List.mem_of_getElem? hk)
  have hcsm := List.mem_of_getElem? ha
  exact
    { r1 := h.r1
      r2 := h.r2
      len := by simpa using h.len
      i10 := hi
      cts := fun cs' hcs' c hc => by
        rcases hmem cs' hcs' with h' | rfl
        · have := h.cts cs' h' c hc; omega
        · simp only [List.mem_cons] at hc
          rcases hc with rfl | hc
          · simp; omega
          · have := h.cts cs hcsm c hc; omega
      lens := fun cs' hcs' => by
        rcases hmem cs' hcs' with h' | rfl
        · have := h.lens cs' h'; omega
        · have := h.lens cs hcsm; simp; omega
      fit := fun cs' hcs' => by
        rcases hmem cs' hcs' with h' | rfl
        · exact h.fit cs' h'
        · simp only [thick, List.map_cons, List.sum_cons] at hfit ⊢; omega
      nd := by
        have hp := (flatten_modify (c := ⟨(i : Int) + 1, s⟩) hal).map (·.unit)
        rw [hp.nodup_iff]
        simp only [List.map_cons, List.nodup_cons]
        refine ⟨fun hm => ?_, h.nd⟩
        simp only [List.mem_map, List.mem_flatten] at hm
        obtain ⟨c, ⟨cs', hcs', hc⟩, he⟩ := hm
        have := h.cts cs' hcs' c hc
        omega }
end Go.TI
end
