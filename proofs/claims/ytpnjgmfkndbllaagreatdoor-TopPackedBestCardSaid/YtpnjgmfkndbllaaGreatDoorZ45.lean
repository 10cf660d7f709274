/- A part of the proof of TopPackedBest: texts TkInsA to TkInsD. -/
import Derived.Test.YtpnjgmfkndbllaaGreatDoorProg
import Derived.Test.YtpnjgmfkndbllaaGreatDoorZ00
import Derived.OwnWalk
import Derived.Lib.Walk
import Derived.Lib.SliceRun
import Derived.Lib.AppendZerosOnto
import Derived.Lib.Overlaps
import Derived.Laws.Externs
import Derived.Laws.IdiomCopy
import Derived.Deep.RegionLaw
import Derived.Tactics2
import Derived.KernelRfl
/- A content comes to the front of contents: slices.Insert, walked: the three roads. -/
section
set_option linter.unusedVariables false
set_option linter.unusedSimpArgs false
namespace Go.TI
open Go Go.Proofs Go.RowKit Go.Lib

/-- What copy does, where the run of the reading and of the writing is known. -/
theorem run_copyk {P : Program} {dT sT ty elem : TypeId} {i : TypeInfo} {w w' : World} (hu : P.underlying dT = some (.slice elem)) (hi : P.info? elem = some i) {b o dLen dCap : Nat} {A : Option Addr} {m sCap : Nat} {news : List Value}
    (hf : (Builtin.firstCells i.size (Nat.min m dLen) (.slice A m sCap)).run P w = .ok news.toArray w) (hst : (storeCells ⟨b, o, none⟩ news 0).run P w = .ok () w') :
    (Builtin.copy_ #[dT, sT] ty #[.slice (some ⟨b, o, none⟩) dLen dCap, .slice A m sCap]).run P w = .ok (goInt (Nat.min m dLen)) w' := by
  simp [Builtin.copy_, run_underlying hu, Builtin.lenOf, run_sizeOf hi, hf, hst]

/-- copy at elements of k cells: all is read before anything is written. -/
theorem run_copyk_cells {P : Program} {dT sT ty elem : TypeId} {k : Nat} (w : World) (hu : P.underlying dT = some (.slice elem)) (hs : (P.info? elem).map (·.size) = some k) (b o dLen dCap : Nat) (a : Addr) (m sCap : Nat) (cs : List Value) (q : Nat) (hq : Nat.min m dLen = q)
    (hl : cs.length = q * k) (hsrc : ∀ j v, cs[j]? = some v → w.cell? (a.add j) = some v) (hc : ∀ j, j < cs.length → (w.cell? ⟨b, o + j, none⟩).isSome = true) (hf : ∀ j, j < cs.length → w.frozen? ⟨b, o + j, none⟩ = false) (h1 : ∀ v ∈ cs, v.oneCell' = true) :
    (Builtin.copy_ #[dT, sT] ty #[.slice (some ⟨b, o, none⟩) dLen dCap, .slice (some a) m sCap]).run P w = .ok (goInt q) (w.setCells b o cs) := by
  cases hi : P.info? elem with
  | none => simp [hi] at hs
  | some i =>
    have hk : i.size = k := by simpa [hi] using hs
    subst hq
    refine run_copyk hu hi (news := cs) ?_ ?_
    · rw [hk]
      exact run_firstCells_some w k (Nat.min m dLen) a m sCap cs hl hsrc
    · exact run_storeCells_cells (P := P) b o cs 0 w (by simpa using hc) (by simpa using hf) h1

theorem wp_copy_runJ {P : Program} (w : World) {o : Oper} {a : Act} {K : Act → World → Prop} {Q : Exit → Act → World → Prop} (d s : Operand) (t t' : TypeId)
    (ho : o.op = .call { callee := .builtin .copy, args := #[d, s], argTypes := #[t, t'] }) (v u : Value) (hd : a.eval d = v) (hs : a.eval s = u) {v' : Value} {w' : World}
    (hr : (Builtin.copy_ #[t, t'] o.type #[v, u]).run P w = .ok v' w') (h : K (a.put o.dst v') w') : o.wp P a w K Q := by
  unfold Oper.wp execOp
  simp only [ho, resolve, invoke, builtin, Sem.run_bind, Sem.run_pure, Result.andThen_ok, List.map_toArray, List.map_cons, List.map_nil, hd, hs, hr]
  exact h
theorem wpList_copy_runJ {P : Program} (w : World) {ops : Array Oper} {rest : List Oper} {o : Oper} {a : Act} {Q : Exit → Act → World → Prop} (hgd : o.guard = none) (d s : Operand) (t t' : TypeId)
    (ho : o.op = .call { callee := .builtin .copy, args := #[d, s], argTypes := #[t, t'] }) (v u : Value) (hd : a.eval d = v) (hs : a.eval s = u) {v' : Value} {w' : World}
    (hr : (Builtin.copy_ #[t, t'] o.type #[v, u]).run P w = .ok v' w') (h : wpList P ops Q rest (a.put o.dst v') w') : wpList P ops Q (o :: rest) a w :=
  wpList_plain hgd fun _ hK => wp_copy_runJ w d s t t' ho v u hd hs hr (hK _ _ h)
theorem step_copy_runJ {P : Program} {ops : Array Oper} {o : Oper} {a : Act} {w : World} {K : Act → World → Prop} {Q : Exit → Act → World → Prop} {E : Prop}
    (hg : o.guard = none) (d x : Operand) (dT sT : TypeId) (hop : o.op = Op.call { callee := Callee.builtin Builtin.copy, args := #[d, x], argTypes := #[dT, sT] })
    (v u : Value) (hd : a.eval d = v) (hx : a.eval x = u) {v' : Value} {w' : World} (hr : (Builtin.copy_ #[dT, sT] o.type #[v, u]).run P w = .ok v' w') (hK : K (a.put o.dst v') w') :
    if Region.wanted o (yielded ops a.tmps) = true then Oper.wp P o a w K Q else E := by
  have hw : Region.wanted o (yielded ops a.tmps) = true := by simp [Region.wanted, hg]
  rw [if_pos hw]
  unfold Oper.wp
  simp [execOp, hop, resolve, invoke, builtin, hd, hx, hr, Result.andThen]
  exact hK

namespace Ins
theorem t0 : Tryz.prog.underlying 0 = some (.tuple #[]) := by kernel_rfl
theorem t3 : Tryz.prog.underlying 3 = some (.int .i64) := by kernel_rfl
theorem t4 : Tryz.prog.underlying 4 = some .bool := by kernel_rfl
theorem t53 : Tryz.prog.underlying 53 = some (.slice 118) := by kernel_rfl
theorem a3 (w : World) : (isAgg 3).run Tryz.prog w = .ok false w := by kernel_rfl
theorem a53 (w : World) : (isAgg 53).run Tryz.prog w = .ok false w := by kernel_rfl
theorem a118 (w : World) : (isAgg 118).run Tryz.prog w = .ok true w := by kernel_rfl
theorem z3 (w : World) : (sizeOf 3).run Tryz.prog w = .ok 1 w := by kernel_rfl
theorem z53 (w : World) : (sizeOf 53).run Tryz.prog w = .ok 1 w := by kernel_rfl
theorem z118 (w : World) : (sizeOf 118).run Tryz.prog w = .ok 2 w := by kernel_rfl
theorem i118 : (Tryz.prog.info? 118).map (fun i => (i.zero, i.size, i.bytes)) = some (some (.agg #[.int .i64 0, .int .i64 0]), 2, 16) := by kernel_rfl
theorem mixed : Tryz.prog.follows .mixedOrders = true := by kernel_rfl
theorem hov (w : World) (b vb off : Nat) (lb cb la ca : Nat) (hvb : vb ≠ b) (tA tB : TypeId) (kA kB : Nat) (hsa : w.shape? vb = some (tA, kA)) (hsb : w.shape? b = some (tB, kB)) (hkB : kB ≠ 0) (hfa : w.frozen? ⟨vb, 0, none⟩ = false) (hfe : w.frozen? ⟨vb, kA, none⟩ = false) :
    (callFunc 399 #[.slice (some ⟨vb, 0, none⟩) la ca, .slice (some ⟨b, off, none⟩) lb cb]).run Tryz.prog w = .ok (.value (.bool false)) w := by
  rw [run_callFunc_extern Tryz.func399 (by kernel_rfl) (by kernel_rfl) (by kernel_rfl) (e := Extern.SlicesOverlaps.overlaps #[53, 53] #[4]) (by kernel_rfl),
    Lib.run_overlaps_apart w 53 4 118 t53 2 z118 ⟨vb, 0, none⟩ ⟨b, off, none⟩ la ca lb cb hvb tA tB kA kB hsa hsb hkB hfa hfe]
  rfl
end Ins
end Go.TI
end

/- The road with room. -/
section
set_option linter.unusedVariables false
set_option linter.unusedSimpArgs false
namespace Go.TI
open Go Go.Proofs Go.RowKit Go.Lib Go.TI.Ins

theorem cells_of {w : World} {b : Nat} {arr : Array Value} {ty : TypeId} (hb : w.heap[b]? = some (.cells arr ty (0, 0))) (o : Nat) : w.cell? ⟨b, o, none⟩ = arr[o]? := by simp [World.cell?, hb]
theorem frozen_of {w : World} {b : Nat} {arr : Array Value} {ty : TypeId} (hb : w.heap[b]? = some (.cells arr ty (0, 0))) (o : Nat) : w.frozen? ⟨b, o, none⟩ = false := by simp [World.frozen?, hb]

set_option maxHeartbeats 4000000 in
set_option maxRecDepth 100000 in
theorem ins_room (b vb n c : Nat) (arr : Array Value) (ty tv : TypeId) (x y : Value) (w : World) (hn : 0 < n) (hn2 : n ≤ 1000) (hroom : n + 1 ≤ c) (hvb : vb ≠ b) (hb : w.heap[b]? = some (.cells arr ty (0, 0))) (hc : c * 2 ≤ arr.size)
    (hv : w.heap[vb]? = some (.cells #[x, y] tv (0, 0))) (h1 : ∀ v ∈ arr.toList.take (n * 2), v.oneCell' = true) (hx : x.oneCell' = true) (hy : y.oneCell' = true) :
    Calls Tryz.prog 367 #[.slice (some ⟨b, 0, none⟩) n c, .int .i64 0, .slice (some ⟨vb, 0, none⟩) 1 1] w fun e w' =>
      e = .returned (.slice (some ⟨b, 0, none⟩) (n + 1) c) ∧ w' = (w.drew.setCells b 2 (arr.toList.take (n * 2))).setCells b 0 [x, y] := by
  have t0 := t0; have t3 := t3; have t4 := t4; have t53 := t53; have a3 := a3; have a53 := a53; have z3 := z3; have z53 := z53; have z118 := z118; have a118 := a118
  have u3 := run_underlying t3; have u53 := run_underlying t53; have u4 := run_underlying t4; have u0 := run_underlying t0
  have mixed := mixed
  have hz2 : ¬ ((0 : Int) = (n : Int)) := by omega
  have hsz : (Tryz.prog.info? 118).map (·.size) = some 2 := by kernel_rfl
  obtain ⟨cs, hcs⟩ : ∃ cs, cs = arr.toList.take (n * 2) := ⟨_, rfl⟩
  have hcl : cs.length = n * 2 := by rw [hcs]; simp; omega
  have hget : ∀ j v, cs[j]? = some v → arr[j]? = some v := fun j v hj => by
    rw [hcs, List.getElem?_take] at hj
    split at hj
    · simpa using hj
    · cases hj
  rw [← hcs] at h1 ⊢
  have hov : ∀ lb cb, (callFunc 399 #[.slice (some ⟨vb, 0, none⟩) 1 1, .slice (some ⟨b, 2, none⟩) lb cb]).run Tryz.prog w = .ok (.value (.bool false)) w := fun lb cb =>
    Ins.hov w b vb 2 lb cb 1 1 hvb tv ty 2 arr.size (by simp [World.shape?, hv]) (by simp [World.shape?, hb]) (by omega) (frozen_of hv 0) (frozen_of hv 2)
  have hcp1 : ∀ t dc sc, (Builtin.copy_ #[53, 53] t #[.slice (some ⟨b, 2, none⟩) n dc, .slice (some ⟨b, 0, none⟩) (n + 1) sc]).run Tryz.prog w.drew = .ok (goInt n) (w.drew.setCells b 2 cs) := fun t dc sc =>
    run_copyk_cells w.drew t53 hsz b 2 n dc ⟨b, 0, none⟩ (n + 1) sc cs n (by simp only [Nat.min_def]; split <;> omega) hcl
      (fun j v hj => by rw [Addr.add_lit, Nat.zero_add]; exact (cells_of (w := w) hb j).trans (hget j v hj))
      (fun j hj => by rw [show w.drew.cell? ⟨b, 2 + j, none⟩ = w.cell? ⟨b, 2 + j, none⟩ from rfl, cells_of hb]; simp; omega) (fun j hj => frozen_of (w := w) hb _) h1
  obtain ⟨W1, hW1⟩ : ∃ W1, W1 = w.drew.setCells b 2 cs := ⟨_, rfl⟩
  have hb1 : W1.heap[b]? = some (.cells (putA arr 2 cs) ty (0, 0)) := by rw [hW1]; exact setCells_heap b ty (0, 0) cs 2 w.drew arr hb
  have hv1 : W1.heap[vb]? = some (.cells #[x, y] tv (0, 0)) := by
    rw [hW1]
    exact ((WStep.setCells (X := fun z => z = b) b rfl cs 2 w.drew).block vb (by have := heap_lt hv; simpa using this) hvb).trans hv
  have hcp2 : ∀ (W : World), W.heap = W1.heap → ∀ t dc, (Builtin.copy_ #[53, 53] t #[.slice (some ⟨b, 0, none⟩) (n + 1) dc, .slice (some ⟨vb, 0, none⟩) 1 1]).run Tryz.prog W = .ok (goInt 1) (W.setCells b 0 [x, y]) := fun W hW t dc =>
    run_copyk_cells W t53 hsz b 0 (n + 1) dc ⟨vb, 0, none⟩ 1 1 [x, y] 1 (by simp only [Nat.min_def]; split <;> omega) rfl
      (fun j v hj => by
        rw [Addr.add_lit, Nat.zero_add, cells_of (by rw [hW]; exact hv1)]
        simpa using hj)
      (fun j hj => by rw [cells_of (by rw [hW]; exact hb1)]; simp at hj; simp [putA_size]; omega) (fun j hj => frozen_of (by rw [hW]; exact hb1) _) (by simp [hx, hy])
  rw [← hW1] at hcp1
  have hw1 : IntKind.i64.wrap 1 = 1 := by decide
  have hk1 : ¬ (c = 1) := by omega
  have hk2 : ¬ (c = 0) := by omega
  have hk3 : (1 : Int) ≤ (n : Int) + 1 := by omega
  have hk4 : (0 : Int) ≤ (n : Int) + 1 := by omega
  go_enter Tryz.func367, Tryz.ntmps367
  go_wp2_with (simp only [hov])
  go_region_law (refine step_copy_runJ rfl _ _ 53 53 rfl _ _ (by simp [Act.eval, Act.put]) (by simp [Act.eval, Act.put]) (hcp1 _ _ _) ?_)
  go_wp2_with (at_builtin; refine wpList_copy_runJ _ rfl _ _ 53 53 rfl _ _ rfl rfl (hcp2 _ rfl _ _) ?_)
  go_ret
  exact ⟨rfl, by rw [hcs]⟩
end Go.TI
end

/- The roads without room. -/
section
set_option linter.unusedVariables false
set_option linter.unusedSimpArgs false
namespace Go.TI
open Go Go.Proofs Go.RowKit Go.Lib Go.TI.Ins

/-- No room: a new row. -/
def growRow (w : World) (n : Nat) : Array Value := Builtin.zeroCells #[.int .i64 0, .int .i64 0] (n + 1) ++ Builtin.zeroCells #[.int .i64 0, .int .i64 0] (grownCap w (n + 1) n 118 - (n + 1))
theorem growRow_size (w : World) (n : Nat) : (growRow w n).size = grownCap w (n + 1) n 118 * 2 := by
  have := grownCap_ge w (n + 1) n 118
  simp [growRow, Builtin.zeroCells]
  omega

set_option maxHeartbeats 4000000 in
set_option maxRecDepth 100000 in
theorem ins_grow (b vb n : Nat) (arr : Array Value) (ty tv : TypeId) (x y : Value) (w : World) (hn : 0 < n) (hn2 : n ≤ 1000) (hb : w.heap[b]? = some (.cells arr ty (0, 0))) (hc : n * 2 ≤ arr.size)
    (hv : w.heap[vb]? = some (.cells #[x, y] tv (0, 0))) (h1 : ∀ v ∈ arr.toList.take (n * 2), v.oneCell' = true) (hx : x.oneCell' = true) (hy : y.oneCell' = true) :
    Calls Tryz.prog 367 #[.slice (some ⟨b, 0, none⟩) n n, .int .i64 0, .slice (some ⟨vb, 0, none⟩) 1 1] w fun e w' =>
      e = .returned (.slice (some ⟨w.heap.size, 0, none⟩) (n + 1) (grownCap w (n + 1) n 118)) ∧
      w' = (((w.alloc (.cells (growRow w n) 118)).drew.setCells w.heap.size 0 [x, y]).drew).setCells w.heap.size 2 (arr.toList.take (n * 2)) := by
  have t0 := t0; have t3 := t3; have t4 := t4; have t53 := t53; have a3 := a3; have a53 := a53; have z3 := z3; have z53 := z53; have z118 := z118; have a118 := a118
  have u3 := run_underlying t3; have u53 := run_underlying t53; have u4 := run_underlying t4; have u0 := run_underlying t0
  have mixed := mixed
  obtain ⟨i0, hi0, hz0, hzs, hzb⟩ := info_parts i118
  have hz2 : ¬ ((0 : Int) = (n : Int)) := by omega
  have hsz : (Tryz.prog.info? 118).map (·.size) = some 2 := by kernel_rfl
  obtain ⟨cs, hcs⟩ : ∃ cs, cs = arr.toList.take (n * 2) := ⟨_, rfl⟩
  have hcl : cs.length = n * 2 := by rw [hcs]; simp; omega
  have hget : ∀ j v, cs[j]? = some v → arr[j]? = some v := fun j v hj => by
    rw [hcs, List.getElem?_take] at hj
    split at hj
    · simpa using hj
    · cases hj
  rw [← hcs] at h1 ⊢
  obtain ⟨G, hG⟩ : ∃ G, G = grownCap w (n + 1) n 118 := ⟨_, rfl⟩
  have hGn : n + 1 ≤ G := by rw [hG]; exact grownCap_ge w _ _ _
  have hG63 : G ≤ 9223372036854775807 := by
    have := grownCap_le_maxLen w (n + 1) n 118 (by unfold maxLen; omega)
    rw [← hG] at this
    unfold maxLen at this
    omega
  have hrz : ∀ t, (Builtin.append_ #[53, 3] t #[.slice (some ⟨b, 0, none⟩) 0 n, .int .i64 ((n : Int) + 1)]).run Tryz.prog w =
      .ok (.slice (some ⟨w.heap.size, 0, none⟩) (n + 1) G) (w.drew.alloc (.cells (growRow w n) 118)) := fun t => by
    have h := run_append_grow_zeros w 53 3 t 118 i0 _ .i64 .i64 t53 t3 hi0 hz0 (some ⟨b, 0, none⟩) 0 n [] (by rw [hzs]; exact run_firstCells_some w.drew 2 0 ⟨b, 0, none⟩ 0 n [] rfl (by simp)) (n + 1) (by omega) (by omega) (by omega) (by omega) (by rw [hzb]; omega)
      (by rw [hzb]; exact growslice_fits (by omega) (by omega))
    simp only [Nat.zero_add, List.nil_append] at h
    rw [← hG] at h
    rw [show ((n : Int) + 1) = ((n + 1 : Nat) : Int) from rfl]
    refine h.trans ?_
    simp only [growRow, ← hG]
    simp [Value.cells]
  have hRs := growRow_size w n
  rw [← hG] at hRs ⊢
  obtain ⟨ROW, hROW⟩ : ∃ ROW, ROW = growRow w n := ⟨_, rfl⟩
  rw [← hROW] at hrz hRs ⊢
  have hbw : b < w.heap.size := heap_lt hb
  have hvw : vb < w.heap.size := heap_lt hv
  obtain ⟨W1, hW1⟩ : ∃ W1, W1 = w.drew.alloc (.cells ROW 118) := ⟨_, rfl⟩
  rw [← hW1] at hrz
  have hN1 : W1.heap[w.heap.size]? = some (.cells ROW 118 (0, 0)) := by rw [hW1]; exact heap_new w.drew _
  have hb1 : W1.heap[b]? = some (.cells arr ty (0, 0)) := by rw [hW1]; exact (Below.heap_alloc w.drew _ b hbw).trans hb
  have hv1 : W1.heap[vb]? = some (.cells #[x, y] tv (0, 0)) := by rw [hW1]; exact (Below.heap_alloc w.drew _ vb hvw).trans hv
  have hcpA : ∀ (W : World), W.heap = W1.heap → ∀ t dc, (Builtin.copy_ #[53, 53] t #[.slice (some ⟨w.heap.size, 0, none⟩) (n + 1) dc, .slice (some ⟨vb, 0, none⟩) 1 1]).run Tryz.prog W = .ok (goInt 1) (W.setCells w.heap.size 0 [x, y]) := fun W hW t dc =>
    run_copyk_cells W t53 hsz w.heap.size 0 (n + 1) dc ⟨vb, 0, none⟩ 1 1 [x, y] 1 (by simp only [Nat.min_def]; split <;> omega) rfl
      (fun j v hj => by
        rw [Addr.add_lit, Nat.zero_add, cells_of (by rw [hW]; exact hv1)]
        simpa using hj)
      (fun j hj => by rw [cells_of (by rw [hW]; exact hN1)]; simp at hj; simp [hRs]; omega) (fun j hj => frozen_of (by rw [hW]; exact hN1) _) (by simp [hx, hy])
  have hN2 : ∀ W : World, W.heap = (W1.setCells w.heap.size 0 [x, y]).heap → W.heap[w.heap.size]? = some (.cells (putA ROW 0 [x, y]) 118 (0, 0)) := fun W hW => by rw [hW]; exact setCells_heap _ 118 (0, 0) _ 0 W1 ROW hN1
  have hb2 : ∀ W : World, W.heap = (W1.setCells w.heap.size 0 [x, y]).heap → W.heap[b]? = some (.cells arr ty (0, 0)) := fun W hW => by
    rw [hW]
    exact ((WStep.setCells (X := fun z => z = w.heap.size) w.heap.size rfl [x, y] 0 W1).block b (heap_lt hb1) (by omega)).trans hb1
  have hcpB : ∀ (W : World), W.heap = (W1.setCells w.heap.size 0 [x, y]).heap → ∀ t dc sc, (Builtin.copy_ #[53, 53] t #[.slice (some ⟨w.heap.size, 2, none⟩) n dc, .slice (some ⟨b, 0, none⟩) n sc]).run Tryz.prog W = .ok (goInt n) (W.setCells w.heap.size 2 cs) := fun W hW t dc sc =>
    run_copyk_cells W t53 hsz w.heap.size 2 n dc ⟨b, 0, none⟩ n sc cs n (by simp) hcl
      (fun j v hj => by rw [Addr.add_lit, Nat.zero_add]; exact (cells_of (hb2 W hW) j).trans (hget j v hj))
      (fun j hj => by rw [cells_of (hN2 W hW)]; simp [putA_size, hRs]; omega) (fun j hj => frozen_of (hN2 W hW) _) h1
  subst hW1
  have hw1 : IntKind.i64.wrap 1 = 1 := by decide
  have hk1 : ¬ (G = 1) := by omega
  have hk2 : ¬ (G = 0) := by omega
  have hk3 : (1 : Int) ≤ (n : Int) + 1 := by omega
  have hk4 : (0 : Int) ≤ (n : Int) + 1 := by omega
  have hk5 : ¬ (n = 0) := by omega
  have hE : ((w.alloc (.cells ROW 118)).drew).heap = (w.drew.alloc (.cells ROW 118)).heap := rfl
  have hF0 : ((w.alloc (.cells ROW 118)).drew.setCells w.heap.size 0 [x, y]).heap = ((w.drew.alloc (.cells ROW 118)).setCells w.heap.size 0 [x, y]).heap := rfl
  have hF : (((w.alloc (.cells ROW 118)).drew.setCells w.heap.size 0 [x, y]).drew).heap = ((w.drew.alloc (.cells ROW 118)).setCells w.heap.size 0 [x, y]).heap := rfl
  clear hG hROW hRs hcs
  go_enter Tryz.func367, Tryz.ntmps367
  go_wp2_with (first
    | (at_builtin; refine Lib.wpList_append_run _ rfl _ _ _ _ rfl _ _ rfl rfl _ _ (hrz _) ?_)
    | (at_builtin; refine wpList_copy_runJ _ rfl _ _ 53 53 rfl _ _ rfl rfl (hcpA _ hE _ _) ?_)
    | (at_builtin; refine wpList_copy_runJ _ rfl _ _ 53 53 rfl _ _ rfl rfl (hcpB _ hF0 _ _ _) ?_))
  go_region_law (refine step_copy_runJ rfl _ _ 53 53 rfl (.slice (some ⟨w.heap.size, 2, none⟩) n (G - 1)) (.slice (some ⟨b, 0, none⟩) n n) (by simp [Act.eval, Act.put]) (by simp [Act.eval, Act.put]) (hcpB _ hF 3 (G - 1) n) ?_)
  go_wp2
  go_ret
  exact ⟨rfl, rfl⟩
end Go.TI
end

/- Contents are empty: the literal alone. -/
section
set_option linter.unusedVariables false
set_option linter.unusedSimpArgs false
namespace Go.TI
open Go Go.Proofs Go.RowKit Go.Lib Go.TI.Ins

set_option maxHeartbeats 4000000 in
set_option maxRecDepth 100000 in
theorem ins_empty (A : Option Addr) (vb : Nat) (tv : TypeId) (x y : Value) (w : World) (hv : w.heap[vb]? = some (.cells #[x, y] tv (0, 0))) (hx : x.oneCell' = true) (hy : y.oneCell' = true) :
    Calls Tryz.prog 367 #[.slice A 0 0, .int .i64 0, .slice (some ⟨vb, 0, none⟩) 1 1] w fun e w' =>
      e = .returned (.slice (some ⟨w.heap.size, 0, none⟩) 1 (grownCap w 1 0 118)) ∧
      w' = w.drew.alloc (.cells (#[x, y] ++ Builtin.zeroCells #[.int .i64 0, .int .i64 0] (grownCap w 1 0 118 - 1)) 118) := by
  have t0 := t0; have t3 := t3; have t4 := t4; have t53 := t53; have a3 := a3; have a53 := a53; have z3 := z3; have z53 := z53; have z118 := z118; have a118 := a118
  have u3 := run_underlying t3; have u53 := run_underlying t53; have u4 := run_underlying t4; have u0 := run_underlying t0
  have mixed := mixed
  obtain ⟨i0, hi0, hz0, hzs, hzb⟩ := info_parts i118
  have hrz : ∀ t, (Builtin.append_ #[53, 53] t #[.slice A 0 0, .slice (some ⟨vb, 0, none⟩) 1 1]).run Tryz.prog w = .ok (.slice (some ⟨w.heap.size, 0, none⟩) 1 (grownCap w 1 0 118)) (w.drew.alloc (.cells (#[x, y] ++ Builtin.zeroCells #[.int .i64 0, .int .i64 0] (grownCap w 1 0 118 - 1)) 118)) := fun t => by
    have hf : (Builtin.firstCells i0.size 1 (.slice (some ⟨vb, 0, none⟩) 1 1)).run Tryz.prog w.drew = .ok [x, y].toArray w.drew := by
      rw [hzs]
      exact run_firstCells_some w.drew 2 1 ⟨vb, 0, none⟩ 1 1 [x, y] rfl (fun j v hj => by
        rw [Addr.add_lit, Nat.zero_add]
        exact (cells_of (w := w) hv j).trans (by simpa using hj))
    have hfo : (Builtin.firstCells i0.size 0 (.slice A 0 0)).run Tryz.prog w.drew = .ok ([] : List Value).toArray w.drew := by
      cases A with
      | none => exact run_firstCells_none w.drew _ 0 0 0
      | some a => exact run_firstCells_some w.drew _ 0 a 0 0 [] (by simp) (by simp)
    have h := run_app_grow (P := Tryz.prog) (w := w) (ty := t) (base := A) (l := 0) (cap := 0) t53 t53 hi0 hz0 (by omega) (by rw [hzb]; omega) (by rw [hzb]; decide) hfo hf
    simpa [Value.cells] using h
  cases A with
  | none =>
    go_enter Tryz.func367, Tryz.ntmps367
    go_wp2_with (at_builtin; refine Lib.wpList_append_run _ rfl _ _ _ _ rfl _ _ rfl rfl _ _ (hrz _) ?_)
    go_ret
    exact ⟨rfl, rfl⟩
  | some a =>
    obtain ⟨ab, ao, asp⟩ := a
    go_enter Tryz.func367, Tryz.ntmps367
    go_wp2_with (at_builtin; refine Lib.wpList_append_run _ rfl _ _ _ _ rfl _ _ rfl rfl _ _ (hrz _) ?_)
    all_goals (go_ret; exact ⟨rfl, rfl⟩)
end Go.TI
end
