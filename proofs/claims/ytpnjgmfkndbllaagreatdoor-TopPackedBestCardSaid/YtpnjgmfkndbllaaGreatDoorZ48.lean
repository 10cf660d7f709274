/- A part of the proof of TopPackedBest: texts TkRowB to TkRowB. -/
import Derived.Test.YtpnjgmfkndbllaaGreatDoorZ47
/- Closed facts of the card of TopPackedBest: no goroutine is started. -/
section
set_option maxRecDepth 1000000
namespace Go.Proofs.YtpnjgmfkndbllaaGreatDoor
open Go

theorem goes_gen {P : Program} (h0 : P.funcs.any Func.goes = false) {f : FuncId} : P.goes f = false := by
  have h : ∀ g : Nat, ((P.funcs[g]?).any Func.goes) = false := fun g => by
    cases hg : P.funcs[g]? with
    | none => rfl
    | some fn =>
      have hm : fn ∈ P.funcs := Array.mem_of_getElem? hg
      rw [Array.any_eq_false'] at h0
      have := h0 fn hm
      simpa using this
  have h1 : ((P.closure f).any fun g => (P.funcs[g]?).any Func.goes) = false := by
    rw [List.any_eq_false]
    intro g _
    simp [h g]
  unfold Program.goes
  rw [h1, h0]
  simp
theorem goesBy_gen {P : Program} {c : OpenClaim} (h0 : P.funcs.any Func.goes = false) (hs : c.start = .entering) : c.goesBy P = false := by
  unfold OpenClaim.goesBy Program.goesAt Program.goesFrom
  rw [hs]
  cases P.funcNamed c.func with
  | none => rfl
  | some f => simp [goes_gen h0]
theorem pinned_prog : Tryz.pinned.checked.prog = Tryz.prog := rfl
theorem top_goes : false = Rows.topPackedBestRow.goesBy Tryz.pinned.checked.prog := (goesBy_gen (P := Tryz.pinned.checked.prog) (by rw [pinned_prog]; exact noGoes) rfl).symm
theorem top_main : Tryz.prog.mainIs = some (true, "755461f38ff4ccb8ded94ccefcaa4a51016cb0861f2919b9b28d193eb7c81255".toList) := by kernel_rfl
theorem top_wf : Rows.topPackedBestRow.wfByText (OpenSpec.ofChange Rows.topPackedBestSpec) = true := by kernel_rfl
theorem top_looks : Tryz.prog.looks [] = false := by kernel_rfl
theorem top_stand : ([22, 3, 23].all fun u => !Tryz.prog.wantsStandIn u) = true := by kernel_rfl
theorem top_noinit : Tryz.prog.inits.idxOf? 3 = none := by kernel_rfl
end Go.Proofs.YtpnjgmfkndbllaaGreatDoor
end
