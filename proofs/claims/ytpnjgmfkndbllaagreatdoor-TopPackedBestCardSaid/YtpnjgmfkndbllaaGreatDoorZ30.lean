/- A part of the proof of TopPackedBest: texts TkV to TkV. -/
import Derived.Test.YtpnjgmfkndbllaaGreatDoorZ28
/- The number of boxes of the exact packing. -/
section
set_option linter.unusedVariables false
set_option linter.unusedSimpArgs false
set_option maxRecDepth 1000000
namespace Go.TI
open Go Go.Proofs
attribute [local simp] evalOps stepOp wantedT evalOp Opd.val St.put St.ok St.obj upd start args0 binV binI intCmp resultsV resV idxOf loadV partV storeV getCells getRows upd2 cellsOf putAt scal faddrV

theorem chk_0 {sz : List Int} {r : Int} : chk sz r = 0 ↔ (1 ≤ r ∧ r ≤ 10000) ∧ ∀ s ∈ sz, 1 ≤ s ∧ s ≤ r := by
  unfold chk
  constructor
  · intro h
    split at h
    · simp at h
    · split at h
      · simp at h
      · rename_i h1 h2
        refine ⟨by omega, fun s hs => ?_⟩
        have h2' : sz.any (badP r) = false := by simpa using h2
        rw [List.any_eq_false] at h2'
        have := h2' s hs
        simp [badP] at this
        omega
  · intro ⟨h1, h2⟩
    rw [if_neg (by omega), if_neg]
    simp only [Bool.not_eq_true]
    rw [List.any_eq_false]
    intro s hs
    have := h2 s hs
    simp [badP]
    omega
theorem chk_cases (sz : List Int) (r : Int) : chk sz r = 0 ∨ chk sz r = 2 := by
  unfold chk
  split
  · exact .inr rfl
  · split
    · exact .inr rfl
    · exact .inl rfl

/-- Pieces in form. -/
structure Pcs where
  sz : List Int
  r : Int
  hr : 1 ≤ r ∧ r ≤ 10000
  hsz : ∀ s ∈ sz, 1 ≤ s ∧ s ≤ r
  len : sz.length ≤ 10
theorem spec115_inj (a b : Pcs) (h : [encInts a.sz, I a.r] = [encInts b.sz, I b.r]) : encInts (tabL a.sz a.r) = encInts (tabL b.sz b.r) := by
  simp at h
  rw [encInts_inj h.1, h.2]
def spec115 : Spec P0 := { K := 115, A := Pcs, args := fun a => [encInts a.sz, I a.r], res := fun a => encInts (tabL a.sz a.r), inj := spec115_inj, body := Tab.b115, ok := fun a => p115 _ _ a.hr a.hsz a.len }

def res61 (sz : List Int) (r : Int) : V := if chk sz r = 0 then .tup [encInts (tabL sz r), I 0] else .tup [NL, I 1]
theorem p61 (sz : List Int) (r : Int) (hl : sz.length ≤ 10) : PureOk P0 61 [encInts sz, I r] (res61 sz r) := by
  refine pure_run (F := Tab.F61) rfl rfl [spec114, spec115] ?_
  obtain ⟨C, hC⟩ : ∃ C, C = specCfg P0 X [spec114, spec115] := ⟨_, rfl⟩
  have hnd : ([spec114, spec115].map (·.K)).Nodup := by simp [spec114, spec115]
  have h114 : C.ora 114 [encInts sz, I r] = some (I (if chk sz r = 0 then 0 else 1)) := by rw [hC]; exact oraOf_at hnd spec114 (by simp) (⟨sz, by omega⟩, r)
  have i114 : C.imp 114 = false := by rw [hC]; rfl
  have i115 : C.imp 115 = false := by rw [hC]; rfl
  have h115 : chk sz r = 0 → C.ora 115 [encInts sz, I r] = some (encInts (tabL sz r)) := fun h => by
    rw [hC]; exact oraOf_at hnd spec115 (by simp) ⟨sz, r, (chk_0.1 h).1, (chk_0.1 h).2, hl⟩
  rw [← hC]
  unfold Tab.F61
  refine W.seq (W.reg (WO.ops (fun ic => rfl) ?_))
  by_cases h0 : chk sz r = 0
  · rw [if_pos h0] at h114
    have h115' := h115 h0
    refine W.seq (W.seq (W.reg (WO.ops (fun ic => by simp [i114, h114]; rfl) ?_)))
    refine W.seq (W.reg (WO.ops (fun ic => by simp; rfl) ?_))
    refine W.ite false (by simp) (W.skip ?_)
    refine W.seq (W.reg (WO.ops (fun ic => by simp [i115, h115']; rfl) (W.ret ⟨.inr rfl, ?_⟩)))
    simp [res61, h0]
    exact view_tup2 view_encInts
  · rw [if_neg h0] at h114
    refine W.seq (W.seq (W.reg (WO.ops (fun ic => by simp [i114, h114]; rfl) ?_)))
    refine W.seq (W.reg (WO.ops (fun ic => by simp; rfl) ?_))
    refine W.ite true (by simp) (W.seq (W.reg (WO.ops (fun ic => by simp; rfl) (W.ret ⟨.inr rfl, ?_⟩))))
    simp [res61, h0]
    rfl
def spec61 : Spec P0 := { K := 61, A := { l : List Int // l.length ≤ 10 } × Int, args := fun a => [encInts a.1.1, I a.2], res := fun a => res61 a.1.1 a.2, inj := fun a b h => by rw [injIs h], body := Tab.b61, ok := fun a => p61 _ _ a.1.2 }

/-- The least number of boxes, as the table has it. -/
def leastT (sz : List Int) (r : Int) : Int := (tabF sz r (2 ^ sz.length) (2 ^ sz.length - 1)).tdiv 10001
def res31 (sz : List Int) (r : Int) : V := if chk sz r = 0 then .tup [I (leastT sz r), I 0] else .tup [I 0, I 1]
theorem p31 (sz : List Int) (r : Int) (hl : sz.length ≤ 10) : PureOk P0 31 [encInts sz, I r] (res31 sz r) := by
  refine pure_run (F := Tab.F31) rfl rfl [spec61] ?_
  obtain ⟨C, hC⟩ : ∃ C, C = specCfg P0 X [spec61] := ⟨_, rfl⟩
  have h61 : C.ora 61 [encInts sz, I r] = some (res61 sz r) := by rw [hC]; exact oraOf_at (by simp) spec61 (by simp) (⟨sz, hl⟩, r)
  have i61 : C.imp 61 = false := by rw [hC]; rfl
  rw [← hC]
  unfold Tab.F31
  refine W.seq (W.reg (WO.ops (fun ic => rfl) ?_))
  by_cases h0 : chk sz r = 0
  · simp only [res61, h0, if_true] at h61
    have hM : 2 ^ sz.length ≤ 1024 := by
      have : 2 ^ sz.length ≤ 2 ^ 10 := Nat.pow_le_pow_right (by decide) hl
      omega
    have hpos : 0 < 2 ^ sz.length := Nat.pow_pos (by decide)
    obtain ⟨M, hMd⟩ : ∃ M, M = 2 ^ sz.length := ⟨_, rfl⟩
    rw [← hMd] at hM hpos
    have hll : (tabL sz r).length = M := by simp [tabL, ← hMd]
    have hlen : ∀ s, lenV s 1 (encInts (tabL sz r)) = some (M : Int) := fun s => by rw [lenInts, hll]
    have hw : IntKind.i64.wrap ((M : Int) - 1) = ((M - 1 : Nat) : Int) := by rw [wrap_id (by omega) (by omega)]; omega
    have hat : ∀ s, iaddrV s 1 ((M - 1 : Nat) : Int) (encInts (tabL sz r)) = some (.vptr [I (tabF sz r M (M - 1))] 0) := fun s => atInts (by
      simp only [tabL, ← hMd]
      rw [List.getElem?_map, List.getElem?_range (by omega)]
      rfl)
    obtain ⟨hc1, hc2⟩ := chk_0.1 h0
    have hb := tabF_bound hc1 hc2 M (M - 1)
    have q8 := bin_quo (v := tabF sz r M (M - 1)) hb.1 (by omega)
    refine W.seq (W.reg (WO.ops (fun ic => by simp [i61, h61]; rfl) ?_))
    refine W.seq (W.seq (W.reg (WO.ops (fun ic => by simp; rfl) ?_)))
    refine W.ite false (by simp) (W.skip ?_)
    have hsub : binV .sub (I M) (I 1) = some (I ((M - 1 : Nat) : Int)) := by show some (V.lit (.int .i64 _)) = _; rw [hw]
    refine W.seq (W.reg (WO.ops (fun ic => by simp [-binV, -binI, hlen, hsub, hat, q8]; rfl) (W.ret ⟨.inr rfl, ?_⟩)))
    simp [res31, h0, leastT, ← hMd]
    rfl
  · simp only [res61, h0, if_false] at h61
    refine W.seq (W.reg (WO.ops (fun ic => by simp [i61, h61]; rfl) ?_))
    refine W.seq (W.seq (W.reg (WO.ops (fun ic => by simp; rfl) ?_)))
    refine W.ite true (by simp) (W.seq (W.reg (WO.ops (fun ic => by simp; rfl) (W.ret ⟨.inr rfl, ?_⟩))))
    simp [res31, h0]
    rfl
def spec31 : Spec P0 := { K := 31, A := { l : List Int // l.length ≤ 10 } × Int, args := fun a => [encInts a.1.1, I a.2], res := fun a => res31 a.1.1 a.2, inj := fun a b h => by rw [injIs h], body := Tab.b31, ok := fun a => p31 _ _ a.1.2 }
end Go.TI
end
