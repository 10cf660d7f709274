/- A part of the proof of TopPackedBest: texts TkInsE to TkInsF. -/
import Derived.Test.YtpnjgmfkndbllaaGreatDoorZ45
import Derived.Test.YtpnjgmfkndbllaaGreatDoorZ14
import Derived.RegionCalls
import Derived.Deep.RegionWith
/- A content comes to the front of a copy of contents. -/
section
set_option linter.unusedVariables false
set_option linter.unusedSimpArgs false
namespace Go.TI
open Go Go.Proofs Go.RowKit Go.Lib Go.TI.Ins

/-- Cells that hold contents from a place on. -/
def ArrCts (arr : Array Value) (o : Nat) (cs : List Ct) : Prop := ∀ (j : Nat) (c : Ct), cs[j]? = some c → arr[o + j * 2]? = some (.int .i64 c.unit) ∧ arr[o + j * 2 + 1]? = some (.int .i64 c.thick)
/-- A block that holds contents from its beginning on. -/
def HoldsCts (w : World) (b : Nat) (cs : List Ct) (G : Nat) : Prop := ∃ (arr : Array Value) (ty : TypeId), w.heap[b]? = some (.cells arr ty (0, 0)) ∧ G * 2 ≤ arr.size ∧ ArrCts arr 0 cs

/-- What a copy leaves. -/
structure CloneAt (cs : List Ct) (w w' : World) (B : Option Addr) (G : Nat) : Prop where
  below : Below w.heap.size w w'
  cap : cs.length ≤ G
  empty : cs = [] → G = 0
  some : cs ≠ [] → ∃ b, B = Option.some ⟨b, 0, none⟩ ∧ w.heap.size ≤ b ∧ HoldsCts w' b cs G
/-- What the insertion finds. -/
structure ReadyAt (cs : List Ct) (u t : Int) (N : Nat) (w : World) (B : Option Addr) (G vb : Nat) : Prop where
  size : N ≤ w.heap.size
  cap : cs.length ≤ G
  empty : cs = [] → G = 0
  some : cs ≠ [] → ∃ b, B = Option.some ⟨b, 0, none⟩ ∧ N ≤ b ∧ b ≠ vb ∧ HoldsCts w b cs G
  lit : ∃ tv, w.heap[vb]? = Option.some (.cells #[.int .i64 u, .int .i64 t] tv (0, 0))

theorem ArrCts.list {arr : Array Value} {cs : List Ct} (h : ArrCts arr 0 cs) : ∀ v ∈ arr.toList.take (cs.length * 2), ∃ z, v = .int .i64 z := by
  intro v hv
  obtain ⟨q, hq, rfl⟩ := List.getElem_of_mem hv
  rw [List.getElem_take]
  have hq2 : q < cs.length * 2 := by rw [List.length_take] at hq; omega
  have hj : q / 2 < cs.length := by omega
  obtain ⟨h1, h2⟩ := h (q / 2) _ (List.getElem?_eq_getElem hj)
  have hqa : q < arr.size := by rw [List.length_take] at hq; simp at hq; omega
  have hv2 : arr[q]? = Option.some (arr.toList[q]'(by simpa using hqa)) := by rw [Array.getElem?_eq_getElem hqa]; simp
  rcases Nat.mod_two_eq_zero_or_one q with hm | hm
  · rw [show 0 + q / 2 * 2 = q by omega, hv2] at h1
    exact ⟨_, Option.some.inj h1⟩
  · rw [show 0 + q / 2 * 2 + 1 = q by omega, hv2] at h2
    exact ⟨_, Option.some.inj h2⟩

/-- slices.Insert at the front, whichever road. -/
theorem ins_any {cs : List Ct} {u t : Int} {N : Nat} {w : World} {B : Option Addr} {G vb : Nat} (hR : ReadyAt cs u t N w B G vb) (hlen : cs.length ≤ 1000) :
    Calls Tryz.prog 367 #[.slice B cs.length G, .int .i64 0, .slice (some ⟨vb, 0, none⟩) 1 1] w fun e w' =>
      ∃ b' G', e = .returned (.slice (some ⟨b', 0, none⟩) (cs.length + 1) G') ∧ cs.length + 1 ≤ G' ∧ Below N w w' ∧ N ≤ b' ∧ HoldsCts w' b' (⟨u, t⟩ :: cs) 0 := by
  obtain ⟨tv, hv⟩ := hR.lit
  have fin : ∀ (w' : World) (b' : Nat) (arr : Array Value) (ty : TypeId) (arr' : Array Value), w'.heap[b']? = some (.cells arr' ty (0, 0)) → ArrCts arr 0 cs → arr'[0]? = some (.int .i64 u) → arr'[1]? = some (.int .i64 t) →
      (∀ q, q < cs.length * 2 → arr'[q + 2]? = arr[q]?) → HoldsCts w' b' (⟨u, t⟩ :: cs) 0 := by
    intro w' b' arr ty arr' h1 h2 h3 h4 h5
    refine ⟨arr', ty, h1, by omega, fun j c hj => ?_⟩
    cases j with
    | zero =>
      simp only [List.getElem?_cons_zero, Option.some.injEq] at hj
      subst hj
      exact ⟨by simpa using h3, by simpa using h4⟩
    | succ j =>
      rw [List.getElem?_cons_succ] at hj
      have hjl := (List.getElem?_eq_some_iff.1 hj).1
      obtain ⟨g1, g2⟩ := h2 j c hj
      rw [show 0 + (j + 1) * 2 = (0 + j * 2) + 2 by omega, h5 _ (by omega), show 0 + j * 2 + 2 + 1 = (0 + j * 2 + 1) + 2 by omega, h5 _ (by omega)]
      exact ⟨g1, g2⟩
  by_cases he : cs = []
  · have hG := hR.empty he
    subst he hG
    refine (ins_empty B vb tv _ _ w hv rfl rfl).mono fun e w' h => ?_
    obtain ⟨rfl, rfl⟩ := h
    refine ⟨_, _, rfl, grownCap_ge _ _ _ _, ((Below.refl N w).drew).alloc hR.size _, hR.size, ?_⟩
    refine fin _ _ #[] 118 _ (heap_new w.drew _) (fun j c hj => by simp at hj) ?_ ?_ (fun q hq => by simp at hq)
    · rw [Array.getElem?_append_left (by simp)]; rfl
    · rw [Array.getElem?_append_left (by simp)]; rfl
  · obtain ⟨b, rfl, hNb, hbv, arr, ty, hb, hsz, hcts⟩ := hR.some he
    have hpos : 0 < cs.length := by cases cs with | nil => exact absurd rfl he | cons => simp
    have hcap := hR.cap
    have h1 : ∀ v ∈ arr.toList.take (cs.length * 2), v.oneCell' = true := fun v hv => by
      obtain ⟨z, rfl⟩ := hcts.list v hv
      rfl
    have hl : (arr.toList.take (cs.length * 2)).length = cs.length * 2 := by simp; omega
    have hget : ∀ q, q < cs.length * 2 → (arr.toList.take (cs.length * 2))[q]? = arr[q]? := fun q hq => by rw [List.getElem?_take, if_pos hq]; simp
    by_cases hroom : cs.length + 1 ≤ G
    · refine (ins_room b vb cs.length G arr ty tv _ _ w hpos hlen hroom (Ne.symm hbv) hb hsz hv h1 rfl rfl).mono fun e w' h => ?_
      obtain ⟨rfl, rfl⟩ := h
      have e1 := setCells_heap b ty (0, 0) (arr.toList.take (cs.length * 2)) 2 w.drew arr hb
      have e2 := setCells_heap b ty (0, 0) [.int .i64 u, .int .i64 t] 0 _ _ e1
      have hs2 : (putA arr 2 (arr.toList.take (cs.length * 2))).size = arr.size := putA_size _ _ _
      refine ⟨b, G, rfl, hroom, ?_, hNb, fin _ _ arr ty _ e2 hcts ?_ ?_ fun q hq => ?_⟩
      · have hW := (WStep.setCells (X := fun z => z = b) b rfl (arr.toList.take (cs.length * 2)) 2 w.drew).trans (WStep.setCells (X := fun z => z = b) b rfl [.int .i64 u, .int .i64 t] 0 _)
        refine ⟨hW.os, hW.tape, hW.output, hW.size, fun k hk => hW.block k ?_ (by omega)⟩
        have := hR.size
        show k < w.heap.size
        omega
      · rw [putA_get _ _ _ _ (by rw [hs2]; simp; omega)]; simp
      · rw [putA_get _ _ _ _ (by rw [hs2]; simp; omega)]; simp
      · rw [putA_get _ _ _ _ (by rw [hs2]; simp; omega), if_neg (by simp), putA_get _ _ _ _ (by rw [hl]; omega), if_pos (by rw [hl]; omega), show q + 2 - 2 = q by omega]
        exact hget q hq
    · have hG : G = cs.length := by omega
      subst hG
      refine (ins_grow b vb cs.length arr ty tv _ _ w hpos hlen hb (by omega) hv h1 rfl rfl).mono fun e w' h => ?_
      obtain ⟨rfl, rfl⟩ := h
      have hgs := growRow_size w cs.length
      have hge := grownCap_ge w (cs.length + 1) cs.length 118
      have e0 : ((w.alloc (.cells (growRow w cs.length) 118)).drew).heap[w.heap.size]? = some (.cells (growRow w cs.length) 118 (0, 0)) := heap_new w _
      have e1 := setCells_heap w.heap.size 118 (0, 0) [.int .i64 u, .int .i64 t] 0 _ _ e0
      have e1' : (((w.alloc (.cells (growRow w cs.length) 118)).drew.setCells w.heap.size 0 [.int .i64 u, .int .i64 t]).drew).heap[w.heap.size]? = some (.cells (putA (growRow w cs.length) 0 [.int .i64 u, .int .i64 t]) 118 (0, 0)) := e1
      have e2 := setCells_heap w.heap.size 118 (0, 0) (arr.toList.take (cs.length * 2)) 2 _ _ e1'
      have hs1 : (putA (growRow w cs.length) 0 [.int .i64 u, .int .i64 t]).size = grownCap w (cs.length + 1) cs.length 118 * 2 := by rw [putA_size, hgs]
      refine ⟨w.heap.size, _, rfl, hge, ?_, hR.size, fin _ _ arr 118 _ e2 hcts ?_ ?_ fun q hq => ?_⟩
      · have hsz0 := hR.size
        have hA : Below N w ((w.alloc (.cells (growRow w cs.length) 118)).drew) := ((Below.refl N w).alloc hR.size _).drew
        have hW1 := WStep.setCells (X := fun z => z = w.heap.size) w.heap.size rfl [.int .i64 u, .int .i64 t] 0 ((w.alloc (.cells (growRow w cs.length) 118)).drew)
        have hW2 := WStep.setCells (X := fun z => z = w.heap.size) w.heap.size rfl (arr.toList.take (cs.length * 2)) 2 (((w.alloc (.cells (growRow w cs.length) 118)).drew.setCells w.heap.size 0 [.int .i64 u, .int .i64 t]).drew)
        have hs0 : ((w.alloc (.cells (growRow w cs.length) 118)).drew).heap.size = w.heap.size + 1 := by simp
        have hB1 : Below N ((w.alloc (.cells (growRow w cs.length) 118)).drew) (((w.alloc (.cells (growRow w cs.length) 118)).drew.setCells w.heap.size 0 [.int .i64 u, .int .i64 t]).drew) :=
          Below.drew ⟨hW1.os, hW1.tape, hW1.output, hW1.size, fun k hk => hW1.block k (by rw [hs0]; omega) (by omega)⟩
        refine (hA.trans hB1).trans ⟨hW2.os, hW2.tape, hW2.output, hW2.size, fun k hk => hW2.block k ?_ (by omega)⟩
        have := hB1.size
        rw [hs0] at this
        omega
      · rw [putA_get _ _ _ _ (by rw [hl, hs1]; omega), if_neg (by omega), putA_get _ _ _ _ (by rw [hgs]; simp; omega)]; simp
      · rw [putA_get _ _ _ _ (by rw [hl, hs1]; omega), if_neg (by omega), putA_get _ _ _ _ (by rw [hgs]; simp; omega)]; simp
      · rw [putA_get _ _ _ _ (by rw [hl, hs1]; omega), if_pos (by rw [hl]; omega), show q + 2 - 2 = q by omega]
        exact hget q hq
end Go.TI
end

/- box.inserted at index 0. -/
section
set_option linter.unusedVariables false
set_option linter.unusedSimpArgs false
namespace Go.TI
open Go Go.Proofs Go.RowKit Go.Lib Go.TI.Ins

/-- What is read below stays what it was. -/
theorem RV.up {W w : World} {S : Nat → Nat → Prop} (hB : Below W.heap.size W w) (hS : ∀ b o, S b o → b < W.heap.size) {x : Value} {t : V} (h : RV (Ctx.bare W S) x t) : RV (Ctx.bare w S) x t := by
  refine RV.monow (c := Ctx.bare W S) (c' := Ctx.bare w S) ⟨Nat.le_refl 0, fun b o hs => ⟨hs, ?_⟩, fun b mes k hs hm => ?_, fun _ _ _ _ h => absurd h (Nat.not_lt_zero _), fun _ _ h => absurd h (Nat.not_lt_zero _), fun b arr ty fr hb => ⟨arr, ?_, rfl⟩⟩ h
  · exact cellAt_of_block (hB.block b (hS b o hs)) o
  · exact (hB.block b (heap_lt hm)).trans hm
  · exact (hB.block b (heap_lt hb)).trans hb

theorem clone_at {cs : List Ct} (hlen : cs.length ≤ 1000) {W : World} {S : Nat → Nat → Prop} (hS : ∀ b o, S b o → b < W.heap.size) {A : Option Addr} {cap : Nat} (h : RV (Ctx.bare W S) (.slice A cs.length cap) (encCts cs)) (w : World) (hB : Below W.heap.size W w) :
    Calls Tryz.prog 94 #[.slice A cs.length cap] w fun e w' => ∃ B G, e = .returned (.slice B cs.length G) ∧ CloneAt cs w w' B G := by
  have h94 : fre0 94 [encCts cs] = some (2, cs.map encCt) := fre94 (l := []) hlen
  have hf := (fre0_ok h94).2
  refine (hf w S #[.slice A cs.length cap] (fun b o hs => Nat.lt_of_lt_of_le (hS b o hs) hB.size) rfl ?_).mono fun e w' he => ?_
  · intro i x t hx ht
    match i, hx, ht with
    | 0, hx, ht =>
      simp at hx ht
      subst hx; subst ht
      exact h.up hB hS
    | n + 1, hx, ht => simp at hx
  · obtain ⟨B, G, rfl, hb, hcap, hk, hrows, h0, h1⟩ := he
    refine ⟨B, G, by simp, hb, by simpa using hcap, fun he => h0 (by simp [he]), fun he => ?_⟩
    obtain ⟨b, arr, ty, rfl, g1, g2, g3, g4⟩ := h1 (by simpa using he)
    refine ⟨b, rfl, g1, arr, ty, g2, g3, fun j c hj => ?_⟩
    have hr : (cs.map encCt)[j]? = some (encCt c) := by rw [List.getElem?_map, hj]; rfl
    obtain ⟨x, hx, hv⟩ := g4 j _ 0 _ hr rfl
    obtain ⟨y, hy, hw⟩ := g4 j _ 1 _ hr rfl
    obtain ⟨rfl, _⟩ := hv.lit_inv
    obtain ⟨rfl, _⟩ := hw.lit_inv
    exact ⟨by simpa using hx, by rw [Nat.zero_add]; exact hy⟩

theorem HoldsCts.same {w w' : World} {b : Nat} {cs : List Ct} {G : Nat} (h : HoldsCts w b cs G) (hb : w'.heap[b]? = w.heap[b]?) : HoldsCts w' b cs G := by
  obtain ⟨arr, ty, h1, h2⟩ := h
  exact ⟨arr, ty, hb.trans h1, h2⟩
theorem HoldsCts.lt {w : World} {b : Nat} {cs : List Ct} {G : Nat} (h : HoldsCts w b cs G) : b < w.heap.size := by
  obtain ⟨arr, ty, h1, h2⟩ := h
  exact heap_lt h1

/-- The copy first, then the literal. -/
theorem ready1 {cs : List Ct} {u t : Int} {N : Nat} {w w' : World} {B : Option Addr} {G : Nat} (h : CloneAt cs w w' B G) (hN : N ≤ w.heap.size) (tv : TypeId) : ReadyAt cs u t N (w'.alloc (.cells #[.int .i64 u, .int .i64 t] tv)) B G w'.heap.size := by
  have hsz := h.below.size
  refine ⟨by simp; omega, h.cap, h.empty, fun he => ?_, tv, heap_new w' _⟩
  obtain ⟨b, rfl, h1, h2⟩ := h.some he
  have := h2.lt
  exact ⟨b, rfl, by omega, by omega, h2.same (Below.heap_alloc _ _ _ this)⟩
/-- The literal first, then the copy. -/
theorem ready2 {cs : List Ct} {u t : Int} {N : Nat} {w w' : World} {B : Option Addr} {G vb : Nat} (h : CloneAt cs w w' B G) (hN : N ≤ w.heap.size) {tv : TypeId} (hl : w.heap[vb]? = some (.cells #[.int .i64 u, .int .i64 t] tv (0, 0))) : ReadyAt cs u t N w' B G vb := by
  have hsz := h.below.size
  have hvb := heap_lt hl
  refine ⟨by omega, h.cap, h.empty, fun he => ?_, tv, (h.below.block vb hvb).trans hl⟩
  obtain ⟨b, rfl, h1, h2⟩ := h.some he
  exact ⟨b, rfl, by omega, by omega, h2⟩

set_option maxHeartbeats 4000000 in
set_option maxRecDepth 100000 in
theorem walk323 {cs : List Ct} (hlen : cs.length ≤ 1000) {W : World} {S : Nat → Nat → Prop} (hS : ∀ b o, S b o → b < W.heap.size) {A : Option Addr} {cap : Nat} (h : RV (Ctx.bare W S) (.slice A cs.length cap) (encCts cs)) (u t : Int) : 
    Calls Tryz.prog 323 #[.slice A cs.length cap, .int .i64 0, .agg #[.int .i64 u, .int .i64 t]] W fun e w' =>
      ∃ b' G', e = .returned (.slice (some ⟨b', 0, none⟩) (cs.length + 1) G') ∧ cs.length + 1 ≤ G' ∧ Below W.heap.size W w' ∧ W.heap.size ≤ b' ∧ HoldsCts w' b' (⟨u, t⟩ :: cs) 0 := by
  have t0 := t0; have t3 := t3; have t4 := t4; have t53 := t53; have a3 := a3; have a53 := a53; have z3 := z3; have z53 := z53; have z118 := z118; have a118 := a118
  have u3 := run_underlying t3; have u53 := run_underlying t53; have u4 := run_underlying t4; have u0 := run_underlying t0
  have mixed := mixed
  have hC := clone_at hlen hS h
  obtain ⟨n, hn⟩ : ∃ n, n = cs.length := ⟨_, rfl⟩
  clear h
  go_enter Tryz.func323, Tryz.ntmps323
  go_wp2_with (fail_if_success skip)
  have low : ∀ {w w' : World} {B : Option Addr} {G : Nat}, CloneAt cs w w' B G → Below (W.heap.size + 1) (W.alloc (.cells #[.int .i64 u, .int .i64 t] 118)) w → w'.heap[W.heap.size]? = some (.cells #[.int .i64 u, .int .i64 t] 118 (0, 0)) := fun hcl hb =>
    (hcl.below.block _ (by have := hb.size; simp at this; omega)).trans ((hb.block _ (by omega)).trans (heap_new W _))
  have hN1 : W.heap.size ≤ ((W.alloc (.cells #[.int .i64 u, .int .i64 t] 118)).drew).heap.size := by simp
  have hN2 : W.heap.size ≤ (((W.alloc (.cells #[.int .i64 u, .int .i64 t] 118)).drew).alloc (.cells #[.int .i64 u, .int .i64 t] 118)).heap.size := by simp; omega
  have hb1 : Below W.heap.size W ((W.alloc (.cells #[.int .i64 u, .int .i64 t] 118)).drew) := ((Below.refl _ _).alloc (Nat.le_refl _) _).drew
  have hb2 : Below W.heap.size W (((W.alloc (.cells #[.int .i64 u, .int .i64 t] 118)).drew).alloc (.cells #[.int .i64 u, .int .i64 t] 118)) := hb1.alloc hN1 _
  have hlit : (((W.alloc (.cells #[.int .i64 u, .int .i64 t] 118)).drew).alloc (.cells #[.int .i64 u, .int .i64 t] 118)).heap[W.heap.size + 1]? = some (.cells #[.int .i64 u, .int .i64 t] 118 (0, 0)) := by
    have h := heap_new ((W.alloc (.cells #[.int .i64 u, .int .i64 t] 118)).drew) (.cells #[.int .i64 u, .int .i64 t] 118)
    rwa [show ((W.alloc (.cells #[.int .i64 u, .int .i64 t] 118)).drew).heap.size = W.heap.size + 1 by simp] at h
  go_region_with (first
    | (go_at_call 94; refine (hC _ ?_).mono ?_; exact hb1; rintro e w' ⟨B, G, rfl, hcl⟩; have hlo := low hcl (Below.refl _ _).drew; have hc0 := (cells_of hlo 0).trans rfl; have hc1 := (cells_of hlo 1).trans rfl)
    | (go_at_call 94; refine (hC _ ?_).mono ?_; exact hb2; rintro e w' ⟨B, G, rfl, hcl⟩)
    | (go_at_call 367; refine (ins_any (cs := cs) (u := u) (t := t) (N := W.heap.size) ?_ hlen).mono ?_; (first | exact ready1 hcl hN1 118 | exact ready2 hcl hN2 hlit); rintro e w'' ⟨b', G', rfl, hG, hbe, hfin⟩; (first | replace hbe := (((hb1.trans (hcl.below.mono hN1))).alloc (Nat.le_trans hN1 hcl.below.size) _).trans hbe | replace hbe := (hb2.trans (hcl.below.mono hN2)).trans hbe); clear hcl))
  all_goals (go_wp2; go_ret; exact ⟨_, _, rfl, hG, hbe, hfin⟩)

theorem insOk : InsOk := by
  intro cs c hlen
  intro W S vals hS hsz hrv
  match vals, hsz with
  | ⟨[v0, v1, v2]⟩, _ =>
    have r0 := hrv 0 v0 _ rfl rfl
    have r1 := hrv 1 v1 _ rfl rfl
    have r2 := hrv 2 v2 _ rfl rfl
    obtain ⟨rfl, _⟩ := r1.lit_inv
    obtain ⟨xs, rfl, hs, hxs⟩ := r2.agg_inv
    obtain ⟨l⟩ := xs
    match l, hs with
    | [u1, u2], _ =>
      obtain ⟨rfl, _⟩ := (hxs 0 u1 _ rfl rfl).lit_inv
      obtain ⟨rfl, _⟩ := (hxs 1 u2 _ rfl rfl).lit_inv
      obtain ⟨A, cap, rfl, _, _⟩ := RV.shape_sl r0
      have hl : (cs.map encCt).length = cs.length := by simp
      rw [hl] at r0 ⊢
      refine (walk323 (cs := cs) (by omega) hS r0 c.unit c.thick).mono fun e w' he => ?_
      obtain ⟨b', G', rfl, hG, hbe, hNb, arr, ty, h1, h2, h3⟩ := he
      refine ⟨_, rfl, hbe, ?_⟩
      refine RV.slN (.sl (fun j i => if i = 0 then .int .i64 (((c :: cs)[j]?).getD c).unit else .int .i64 (((c :: cs)[j]?).getD c).thick) (by simp) hG ?_ ?_ ?_ trivial)
      · intro r hr
        obtain ⟨x, _, rfl⟩ := List.mem_map.1 hr
        exact ⟨rfl, by simp [encCt, scal]⟩
      · intro j r i t hr ht
        rw [List.getElem?_map, Option.map_eq_some_iff] at hr
        obtain ⟨x, hx, rfl⟩ := hr
        obtain ⟨g1, g2⟩ := h3 j x hx
        have hi : i < 2 := (List.getElem?_eq_some_iff.1 ht).1
        refine ⟨b', 0, rfl, .inr ⟨hNb, heap_lt h1⟩, ?_⟩
        rw [hx, Option.getD_some]
        refine (cellAt_cells h1 _).trans ?_
        match i, hi with
        | 0, _ => simpa using g1
        | 1, _ => simpa using g2
      · intro j r i t hr ht
        rw [List.getElem?_map, Option.map_eq_some_iff] at hr
        obtain ⟨x, hx, rfl⟩ := hr
        have hi : i < 2 := (List.getElem?_eq_some_iff.1 ht).1
        rw [hx, Option.getD_some]
        match i, hi with
        | 0, _ =>
          simp [encCt] at ht
          subst ht
          exact .lit rfl
        | 1, _ =>
          simp [encCt] at ht
          subst ht
          exact .lit rfl
end Go.TI
end
