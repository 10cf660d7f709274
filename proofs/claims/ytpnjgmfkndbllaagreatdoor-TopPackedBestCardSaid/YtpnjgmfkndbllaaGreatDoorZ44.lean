/- A part of the proof of TopPackedBest: texts TkGlue to TkGlue. -/
import Derived.Test.YtpnjgmfkndbllaaGreatDoorZ02
import Derived.ProofKit
import Derived.OpenShut
/- A slice of integers that came in, as the interpreter has it. -/
section
set_option linter.unusedVariables false
namespace Go.TI
open Go Go.ChangeShapes Go.RowKit

theorem rv_ints {H : Type} {enc : TypeId × Value → H} {P : Program} {W : World} {S : Nat → Nat → Prop} {t e : TypeId} {k : IntKind} {v : Value} {d : DataW H} {p : List MemPlace} (ht : P.underlying t = some (.slice e)) (he : P.underlying e = some (.int k)) (hc : P.cellsOf e = 1)
    (hS : ∀ b o, b < W.heap.size → S b o) (h : DataW.Trod enc P W 0 (fun _ => true) true t v d p) (hv : ∃ a n c, v = .slice a n c) :
    ∃ zs : List Int, (∀ n ∈ zs, (Lit.int k n).wf = true) ∧ RV (Ctx.bare W S) v (slN 1 (zs.map fun x => [.lit (.int k x)])) := by
  obtain ⟨a0, n0, c0, rfl⟩ := hv
  obtain ⟨fuel, hf⟩ := h
  rcases open_ints ht he hc hf with ⟨hcs, hx⟩ | ⟨a, len', cap', zs, hcs, _, hl, hm, hz, hx, hcell, hwz⟩
  · simp [Value.cells] at hcs
    obtain ⟨rfl, rfl, rfl⟩ := hcs
    exact ⟨[], by simp, .sl (fun _ _ => undef) rfl (Nat.le_refl _) (by simp) (by simp) (by simp) trivial⟩
  · simp [Value.cells] at hcs
    obtain ⟨rfl, rfl, rfl⟩ := hcs
    simp only [if_true] at hz
    refine ⟨zs.take n0, fun n hn => hwz n (List.mem_of_mem_take hn), RV.slN (.sl (fun j _ => .int k (zs.getD j 0)) ?_ hl ?_ ?_ ?_ trivial)⟩
    · simp; omega
    · intro r hr
      obtain ⟨x, _, rfl⟩ := List.mem_map.1 hr
      simp [scal]
    · intro j r i t hr ht
      rw [List.getElem?_map, Option.map_eq_some_iff] at hr
      obtain ⟨x, hx1, rfl⟩ := hr
      have hj : j < (zs.take n0).length := (List.getElem?_eq_some_iff.1 hx1).1
      have hj2 : j < zs.length := by rw [List.length_take] at hj; omega
      have hi : i = 0 := by have := (List.getElem?_eq_some_iff.1 ht).1; simpa using this
      subst hi
      have h0 := hcell 0 (by omega)
      have hj3 := hcell j hj2
      obtain ⟨b, off, spot⟩ := a
      have hspot : spot = none := by simpa [Addr.add] using World.cell?_spot h0
      subst hspot
      rw [Addr.add_none] at hj3
      have hcat : cellAt W b (off + j) = some (.int k (zs.getD j 0)) := hj3
      exact ⟨b, off, rfl, hS _ _ (cellAt_lt hcat), (show cellAt W b (off + j * 1 + 0) = _ by rw [Nat.mul_one, Nat.add_zero]; exact hcat)⟩
    · intro j r i t hr ht
      rw [List.getElem?_map, Option.map_eq_some_iff] at hr
      obtain ⟨x, hx1, rfl⟩ := hr
      have hi : i = 0 := by have := (List.getElem?_eq_some_iff.1 ht).1; simpa using this
      subst hi
      simp only [List.getElem?_cons_zero, Option.some.injEq] at ht
      subst ht
      have hxe : zs.getD j 0 = x := by
        rw [List.getElem?_take] at hx1
        split at hx1
        · simp [hx1]
        · simp at hx1
      rw [hxe]
      exact .lit rfl
end Go.TI
end
