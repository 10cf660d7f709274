/- Proved: TopPackedBest returns true at every input and leaves its arguments as they were (the given tied card). No condition beyond the card. -/
import Derived.Test.YtpnjgmfkndbllaaGreatDoorRows
import Derived.Test.YtpnjgmfkndbllaaGreatDoorTie
import Derived.Test.YtpnjgmfkndbllaaGreatDoorCards
import Derived.Test.YtpnjgmfkndbllaaGreatDoorZ38
import Derived.Test.YtpnjgmfkndbllaaGreatDoorZ43
import Derived.Test.YtpnjgmfkndbllaaGreatDoorZ44
import Derived.Test.YtpnjgmfkndbllaaGreatDoorZ46
import Derived.Test.YtpnjgmfkndbllaaGreatDoorZ48
import Derived.ProofKit
import Derived.LaidMore
import Derived.OpenShut
import Derived.Stop.Joined
import Derived.SevenTiedAt
/- TopPackedBest is true at every input: the row and its tied card. -/
section
set_option linter.unusedVariables false
namespace Go.Proofs.YtpnjgmfkndbllaaGreatDoor
open Go Go.TI Go.ChangeShapes Go.WideShapes Go.ChangeAt Go.RowKit

theorem own : ownKnob Tryz.prog.godebug = none := by kernel_rfl
theorem laidOut : laidOutB Tryz.prog = true := by kernel_rfl
theorem cells3 : Tryz.prog.cellsOf 3 = 1 := by kernel_rfl
theorem cells5 : Tryz.prog.cellsOf 5 = 1 := by kernel_rfl
theorem ux22 : Tryz.prog.underlying 22 = some (.slice 3) := by kernel_rfl
theorem ux23 : Tryz.prog.underlying 23 = some (.slice 5) := by kernel_rfl
theorem ux3 : Tryz.prog.underlying 3 = some (.int .i64) := by kernel_rfl
theorem ux4 : Tryz.prog.underlying 4 = some .bool := by kernel_rfl
theorem ux5 : Tryz.prog.underlying 5 = some (.int .u8) := by kernel_rfl

abbrev laid3 : List (String × DataW Unit) := Rows.topPackedBestRow.laid
/-- The door's own heap meets the condition. -/
theorem door_met (os : Os) (args : Array Value) : laidMetH Tryz.prog laid3 ((World.doorLaid Tryz.prog 400 os).forCall (fun _ _ => 0) ⟨#[], args, []⟩).memory :=
  laidMetH_of_parts3 (fuel := 8) (laidMet_of_run' 8 (by kernel_rfl) (by kernel_rfl)) (by kernel_rfl) (by kernel_rfl)

set_option maxRecDepth 100000 in
theorem top_lifted (hI : InsOk) (os : Os) (started : os.Started) (H : Type) (enc : TypeId × Value → H) :
    ReturnsInHanded {} Tryz.checked os 3 .any (fun w args => (Rows.topPackedBestSpec.pre enc Tryz.prog Tryz.f3 [] false w args ∧ laidMetH Tryz.prog laid3 w) ∧ sizedMet enc Tryz.prog Tryz.f3 (OpenSpec.ofChange Rows.topPackedBestSpec) false w args)
      (Rows.topPackedBestSpec.post enc Tryz.prog Tryz.f3 false true false false) := by
  refine returnsInHanded_of_change_and (C := Tryz.checked) (X := fun w _ => laidMetH Tryz.prog laid3 w) (fun _ _ _ hh h => h.of_heap hh) own started (by kernel_rfl) Tryz.func3
    (ChangeSpec.witness_shaped (enc := enc) (C := Tryz.checked) (os := os) (X := fun w _ => laidMetH Tryz.prog laid3 w) false (World.doorLaid Tryz.prog 400 os) #[.slice none 0 0, .int .i64 0, .slice none 0 0] 8 rfl (World.shaped_of_RefB (by kernel_rfl) (by kernel_rfl)) (by kernel_rfl) (by kernel_rfl) (by kernel_rfl) (door_met os _)) ?_
  intro W base args ds gs before hval0 hW _ _ hL _
  have hval : ∀ (j : Nat) t v, Tryz.f3.params[j]? = some t → args[j]? = some v → Value.okWide Tryz.prog W .any base t v := hval0
  have hW' := hW
  obtain ⟨p, q, hA0, hV, rfl, hfz, hnd⟩ := hW
  have hA : DataW.TrodAll enc Tryz.prog W 0 (fun _ => true) true Tryz.f3.params.toList args.toList ds p := hA0
  rw [Tryz.params3] at hA hval
  obtain ⟨v0, v1, v2, d0, d1, d2, p0, p1, p2, rfl, rfl, rfl, h0, h1, h2⟩ := trodAll_three hA
  obtain ⟨rfl, rfl⟩ := trodVars_none hV
  have s0 := okWide_slice ux22 (hval 0 22 v0 rfl rfl)
  have s2 := okWide_slice ux23 (hval 2 23 v2 rfl rfl)
  obtain ⟨r, rfl, rfl, rfl, wr⟩ := open_int ux3 (hval 1 3 v1 rfl rfl) h1
  clear hA0 hval0
  simp only [List.append_nil] at hW'
  have hlt : ∀ x ∈ p0 ++ [] ++ p2, x.block < W.heap.size := fun x hx => hW'.lt x (by simpa using hx)
  obtain ⟨zs, hz, rv0⟩ := rv_ints (S := fun b _ => b < W.heap.size) ux22 ux3 cells3 (fun _ _ h => h) h0 s0
  obtain ⟨us, hu, rv2⟩ := rv_ints (S := fun b _ => b < W.heap.size) ux23 ux5 cells5 (fun _ _ h => h) h2 s2
  have hu0 : ∀ n ∈ us, 0 ≤ n ∧ n ≤ 255 := fun n hn => by
    have := hu n hn
    simp [Lit.wf, IntKind.min, IntKind.max, IntKind.signed, IntKind.bits] at this
    omega
  have hus : us.map (fun x => [V.lit (.int .u8 x)]) = (us.map Int.toNat).map fun x : Nat => [V.lit (.int .u8 (x : Int))] := by
    rw [List.map_map]
    refine List.map_congr_left fun n hn => ?_
    have := hu0 n hn
    simp [Int.toNat_of_nonneg this.1]
  have hrun := p3 exactOk hI zs r (us.map Int.toNat) (fun b hb => by
    obtain ⟨n, hn, rfl⟩ := List.mem_map.1 hb
    have := hu0 n hn
    omega)
  refine (hrun W (fun b _ => b < W.heap.size) #[v0, .int .i64 r, v2] (fun _ _ h => h) rfl ?_).mono fun e W' he => ?_
  · intro i x t hx ht
    match i, hx, ht with
    | 0, hx, ht =>
      simp at hx ht
      subst hx; subst ht
      exact rv0
    | 1, hx, ht =>
      simp at hx ht
      subst hx; subst ht
      exact .lit rfl
    | 2, hx, ht =>
      simp at hx ht
      subst hx; subst ht
      rw [hus] at rv2
      exact rv2
    | n + 3, hx, ht => simp at hx
  · obtain ⟨v, rfl, hB, hv⟩ := he
    obtain ⟨rfl, _⟩ := hv.lit_inv
    refine ⟨_, rfl, _, _, _, [], p0 ++ ([] ++ p2), [], hW', ?_, ?_, rfl, hB.frame _, fun h => by cases h⟩
    · exact trodAll_mk1 (shut_bool ux4 _)
    · refine trodAll_mk3 ?_ (shut_int ux3 wr) ?_
      · exact Below.trod laidOut (by kernel_rfl) (of_decide_eq_true (by kernel_rfl)) h0 hB (fun x hx => hlt x (by simp [hx]))
      · exact Below.trod laidOut (by kernel_rfl) (of_decide_eq_true (by kernel_rfl)) h2 hB (fun x hx => hlt x (by simp [hx]))

theorem top_row : Rows.TopPackedBestSaid :=
  OpenClaim.holds_of_wide 3 Tryz.f3 rfl rfl rfl rfl rfl rfl rfl ⟨rfl, rfl, rfl, rfl, rfl⟩ rfl rfl rfl rfl rfl top_named Tryz.func3 joined_ok
    (of_decide_eq_true (by as_aux_lemma => kernel_rfl)) (by as_aux_lemma => (unfold Func.isWrapper; first | (rw [if_pos (by decide +kernel)]; kernel_rfl) | (rw [if_neg (by decide +kernel)]; exact ⟨rfl, rfl⟩)))
    (fun os started H enc _ => top_lifted insOk os started H enc)

theorem top_holds : Rows.TopPackedBestCardSaid :=
  Claim7.holds_tied_plain_at .later [] [.data, .data, .data] true (true, "755461f38ff4ccb8ded94ccefcaa4a51016cb0861f2919b9b28d193eb7c81255") false
    top_row (fun _ h => by cases h) top_wf (fun _ h => by cases h) topPackedBest_row_tie rfl ⟨rfl, rfl⟩ top_main rfl
    (fun f fn hf hfn => by
      obtain rfl : f = 3 := Option.some.inj (top_named.symm.trans hf) |>.symm
      obtain rfl : fn = Tryz.f3 := (Option.some.inj (Tryz.func3.symm.trans hfn)).symm
      exact ⟨top_looks.symm, fun j t ht => by
        rw [Tryz.params3] at ht
        have hm : t ∈ [22, 3, 23] := by simpa using Array.mem_of_getElem? ht
        exact (show Tryz.prog.wantsStandIn t = false by simpa using List.all_eq_true.1 top_stand t hm)⟩)
    top_goes
#print axioms top_holds
end Go.Proofs.YtpnjgmfkndbllaaGreatDoor
end
