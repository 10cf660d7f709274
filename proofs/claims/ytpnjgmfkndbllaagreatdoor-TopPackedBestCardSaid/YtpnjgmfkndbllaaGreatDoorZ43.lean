/- A part of the proof of TopPackedBest: texts TkEx5 to TkEx5. -/
import Derived.Test.YtpnjgmfkndbllaaGreatDoorZ42
/- pack.Exact. -/
section
set_option linter.unusedVariables false
set_option linter.unusedSimpArgs false
set_option maxRecDepth 1000000
namespace Go.TI
open Go Go.Proofs
attribute [local simp] evalOps stepOp wantedT evalOp Opd.val St.put St.ok St.obj upd start args0 binV binI intCmp resultsV resV idxOf loadV partV storeV getCells getRows upd2 cellsOf putAt scal faddrV

theorem put_all {C : Cfg} {sz : List Int} {r least : Int} (i32 : C.imp 32 = true) (hcode : C.code 32 = some Tab.F32) (hr : 1 ≤ r ∧ r ≤ 10000) (hsz : ∀ s ∈ sz, 1 ≤ s ∧ s ≤ r) (hlen : sz.length ≤ 10) : ∀ rest, PutOk C sz r least rest := by
  intro rest
  induction rest with
  | nil => exact put_nil
  | cons s rest ih => exact put_cons i32 hcode hr hsz hlen ih

theorem exactOk : ExactOk := by
  intro sz r hl
  refine pure_run (F := Tab.F7) rfl rfl [spec31] ?_
  obtain ⟨C, hC⟩ : ∃ C, C = specCfg P0 X [spec31] := ⟨_, rfl⟩
  have h31 : C.ora 31 [encInts sz, I r] = some (res31 sz r) := by rw [hC]; exact oraOf_at (by simp) spec31 (by simp) (⟨sz, hl⟩, r)
  have i31 : C.imp 31 = false := by rw [hC]; rfl
  have i32 : C.imp 32 = true := by rw [hC]; rfl
  have hcode : C.code 32 = some Tab.F32 := by rw [hC]; rfl
  rw [← hC]
  unfold Tab.F7
  have he : cellsOf (encInts sz) = [encInts sz] := rfl
  have heI : ∀ x, cellsOf (I x) = [I x] := fun x => rfl
  refine W.seq (W.reg (WO.ops (fun ic => by simp [-cellsOf, he, heI]; rfl) ?_))
  by_cases h0 : chk sz r = 0
  · simp only [res31, h0, if_true] at h31
    obtain ⟨hr, hsz⟩ := chk_0.1 h0
    obtain ⟨a1, L1, hx, _, _⟩ := exact_ok hr hsz hl
    refine W.seq (W.reg (WO.ops (fun ic => by simp [i31, h31]; rfl) ?_))
    refine W.seq (W.seq (W.reg (WO.ops (fun ic => by simp; rfl) ?_)))
    refine W.ite false (by simp) (W.skip ?_)
    simp only [thenQ_normal]
    refine W.seq (W.reg (WO.ops (fun ic => rfl) ?_))
    refine W.seq (W.reg (WO.ops (fun ic => rfl) ?_))
    refine W.seq (W.reg (WO.ops (fun ic => rfl) ?_))
    refine W.seq (W.reg (WO.ops (fun ic => by simp; rfl) ?_))
    refine W.seq (W.seq (W.reg (WO.step (os := [Tab.o 21 (.load false 1 (Tab.t 10))]) (fun ic => by simp; rfl) ?_)))
    refine WO.imp (f := 32) (vs := I ((([] : List Int).length : Nat) : Int) :: caps32) hcode rfl (fun ic => by simp [i32, caps32]) ((put_all (r := r) (least := leastT sz r) i32 hcode hr hsz hl sz [] [] [] (fun _ => 0) _ rfl (by simp) ⟨by simp, by simp, by simp, by simp [caps32]⟩ (.inl ⟨rfl, rfl, by simp, by simp⟩) rfl (by simp) (by simp) (by simp)).mono fun e s2 h => ?_)
    obtain ⟨he, v, hv, hnn, hc2, hres⟩ := h
    rw [show ((([] : List Int).length : Nat) : Int) = 0 from rfl, hx] at hres
    obtain ⟨rfl, ov, r1, r2⟩ := hres
    refine ⟨he, _, hv, WO.ops (fun ic => by simp; rfl) ?_⟩
    simp only [thenQ_normal]
    refine W.ite false (by simp) (W.skip ?_)
    simp only [thenQ_normal]
    refine W.seq (W.reg (WO.ops (fun ic => by simp [r1]; rfl) (W.ret ⟨.inr rfl, ?_⟩)))
    simp [res7, h0, hx]
    exact view_tup2 r2
  · simp only [res31, h0, if_false] at h31
    refine W.seq (W.reg (WO.ops (fun ic => by simp [i31, h31]; rfl) ?_))
    refine W.seq (W.seq (W.reg (WO.ops (fun ic => by simp; rfl) ?_)))
    refine W.ite true (by simp) (W.seq (W.reg (WO.ops (fun ic => by simp; rfl) (W.ret ⟨.inr rfl, ?_⟩))))
    simp [res7, h0]
    rfl
end Go.TI
end
