/- A part of the proof of TopPackedBest: texts TkG to TkG. -/
import Derived.Test.YtpnjgmfkndbllaaGreatDoorZ14
/- Nothing but boxes: the other parts of a state. -/
section
set_option linter.unusedVariables false
set_option linter.unusedSimpArgs false
set_option maxRecDepth 1000000
namespace Go.TI
open Go Go.Proofs

@[reducible] def NL : V := .sl 0 [] .shared
theorem e102 : (lev X 41).1 102 [.agg [NL, NL, NL, I 0, NL, NL]] = some (I 0) := by kernel_rfl
theorem e118 : (lev X 41).1 118 [NL] = some (I 0) := by kernel_rfl
theorem e45 : (lev X 41).1 45 [NL] = some (I 0) := by kernel_rfl
theorem e119 : (lev X 41).1 119 [NL] = some (I 0) := by kernel_rfl
theorem e120 : (lev X 41).1 120 [I 1, NL] = some (I 0) := by kernel_rfl
theorem e53 : (lev X 41).1 53 [NL] = some (I 0) := by kernel_rfl
theorem e47 : (lev X 41).1 47 [I 1048575] = some (B true) := by kernel_rfl
theorem e48 : (lev X 41).1 48 [NL, I 1048575] = some (.vptr [.vmap [], I 0] 0) := by kernel_rfl
theorem e26 : (lev X 41).1 26 [I 1, I 0] = some (.tup [.agg [NL, NL, NL, I 0, NL, NL, NL, NL, NL, NL, I 1, NL, NL, NL, NL, I 0], I 0]) := by kernel_rfl

attribute [local simp] evalOps stepOp wantedT evalOp Opd.val St.put St.ok St.obj upd start args0 binV binI intCmp resultsV resV idxOf loadV partV storeV getCells getRows upd2 cellsOf putAt scal faddrV

/-- A function at one list of arguments. -/
def specL (K : Nat) (vs : List V) (r : V) (b : hasBody P0 K = true) (h : PureOk P0 K vs r) : Spec P0 := { K := K, A := Unit, args := fun _ => vs, res := fun _ => r, inj := fun _ _ _ => rfl, body := b, ok := fun _ => h }
theorem specL_at {K : Nat} {vs : List V} {r : V} {b : hasBody P0 K = true} {h : PureOk P0 K vs r} {l : List (Spec P0)} (hn : (l.map (·.K)).Nodup) (hm : specL K vs r b h ∈ l) : (specCfg P0 X l).ora K vs = some r := oraOf_at hn _ hm ()

/-- A state with nothing but boxes. -/
def uCells (l : List Bx) : List V := [NL, NL, NL, I 0, NL, NL, encBxs l, NL, NL, NL, I 1, NL, NL, NL, NL, I 0]
@[simp] theorem uCells_length {l : List Bx} : (uCells l).length = 16 := rfl
@[simp] theorem uCells_take {l : List Bx} : List.take 16 (uCells l) = uCells l := rfl
@[simp] theorem uCells_take6 {l : List Bx} : List.take 6 (uCells l) = [NL, NL, NL, I 0, NL, NL] := rfl
@[simp] theorem uCells_6 {l : List Bx} : (uCells l)[6]? = some (encBxs l) := rfl
@[simp] theorem uCells_7 {l : List Bx} : (uCells l)[7]? = some NL := rfl
@[simp] theorem uCells_8 {l : List Bx} : (uCells l)[8]? = some NL := rfl
@[simp] theorem uCells_9 {l : List Bx} : (uCells l)[9]? = some NL := rfl
@[simp] theorem uCells_10 {l : List Bx} : (uCells l)[10]? = some (I 1) := rfl
@[simp] theorem uCells_11 {l : List Bx} : (uCells l)[11]? = some NL := rfl
@[simp] theorem uCells_12 {l : List Bx} : (uCells l)[12]? = some NL := rfl
@[simp] theorem uCells_13 {l : List Bx} : (uCells l)[13]? = some NL := rfl
@[simp] theorem uCells_14 {l : List Bx} : (uCells l)[14]? = some NL := rfl
@[simp] theorem uCells_15 {l : List Bx} : (uCells l)[15]? = some (I 0) := rfl
@[simp] theorem uCells_scal {l : List Bx} : (uCells l).all scal = true := rfl
theorem uCells_inj {a b : List Bx} (h : uCells a = uCells b) : a = b := by
  simp only [uCells, List.cons.injEq, true_and, and_true] at h
  exact encBxs_inj h
theorem view_uCells {s : Sto} {n : Nat} {l : List Bx} : ∀ x ∈ uCells l, view s (n + 3) x = some x := by
  intro x hx
  simp only [uCells, List.mem_cons, List.not_mem_nil, or_false] at hx
  rcases hx with h | h | h | h | h | h | h | h | h | h | h | h | h | h | h | h <;> subst h <;> first | rfl | exact view_encBxs
@[simp] theorem vU {s : Sto} {l : List Bx} : view s viewDepth (.agg (uCells l)) = some (.agg (uCells l)) := view_agg view_uCells
@[simp] theorem rU {l : List Bx} : refs viewDepth (.agg (uCells l)) = false := rfl
@[simp] theorem vNL {s : Sto} : view s viewDepth NL = some NL := rfl
@[simp] theorem rNL : refs viewDepth NL = false := rfl

theorem p46 (n : Int) (h1 : 1 ≤ n) (h2 : n ≤ 1073741824) : PureOk P0 46 [I n] (B true) := by
  refine pure_run (F := Tab.F46) rfl rfl [] ?_
  unfold Tab.F46
  refine W.seq (W.reg (WO.ops (fun ic => rfl) ?_))
  refine W.seq (W.reg (WO.ops (fun ic => by simp [h1, h2]; rfl) (W.ret ⟨.inr rfl, ?_⟩)))
  simp

theorem p18 (n : Int) (h1 : 1 ≤ n) (h2 : n ≤ 1073741824) : PureOk P0 18 [NL, I n, I 1048575] (.tup [.agg [I 0, I 0], I 0]) := by
  obtain ⟨sp, hsp⟩ : ∃ sp, sp = [specL 45 [NL] (I 0) Tab.b45 (pure_lit e45), specL 46 [I n] (B true) Tab.b46 (p46 n h1 h2), specL 47 [I 1048575] (B true) Tab.b47 (pure_lit e47), specL 48 [NL, I 1048575] (.vptr [.vmap [], I 0] 0) Tab.b48 (pure_lit e48)] := ⟨_, rfl⟩
  have hnd : (sp.map (·.K)).Nodup := by simp [hsp, specL]
  refine pure_run (F := Tab.F18) rfl rfl sp ?_
  have h45 : (specCfg P0 X sp).ora 45 [NL] = some (I 0) := specL_at (b := Tab.b45) (h := pure_lit e45) hnd (by simp [hsp])
  have h46 : (specCfg P0 X sp).ora 46 [I n] = some (B true) := specL_at (b := Tab.b46) (h := p46 n h1 h2) hnd (by simp [hsp])
  have h47 : (specCfg P0 X sp).ora 47 [I 1048575] = some (B true) := specL_at (b := Tab.b47) (h := pure_lit e47) hnd (by simp [hsp])
  have h48 : (specCfg P0 X sp).ora 48 [NL, I 1048575] = some (.vptr [.vmap [], I 0] 0) := specL_at (b := Tab.b48) (h := pure_lit e48) hnd (by simp [hsp])
  have i45 : (specCfg P0 X sp).imp 45 = false := rfl
  have i46 : (specCfg P0 X sp).imp 46 = false := rfl
  have i47 : (specCfg P0 X sp).imp 47 = false := rfl
  have i48 : (specCfg P0 X sp).imp 48 = false := rfl
  unfold Tab.F18
  refine W.seq (W.reg (WO.ops (fun ic => rfl) ?_))
  refine W.seq (W.blk (W.seq (W.reg (WO.ops (fun ic => by simp [i45, h45]; rfl) ?_))))
  refine W.ite false (by simp) ?_
  refine W.seq (W.reg (WO.ops (fun ic => by simp [i46, h46, i47, h47]; rfl) ?_))
  refine W.ite false (by simp) (W.skip ?_)
  simp only [blkQ_normal, thenQ_normal]
  refine W.seq (W.reg (WO.ops (fun ic => by simp [i48, h48, nilckV, mapEs, keyKind, findK]; rfl) (W.ret ⟨.inr rfl, ?_⟩)))
  simp [view, viewDepth]
def spec18 : Spec P0 := { K := 18, A := { n : Int // 1 ≤ n ∧ n ≤ 1073741824 }, args := fun n => [NL, I n.1, I 1048575], res := fun n => .tup [.agg [I 0, I 0], I 0], inj := fun _ _ _ => rfl, body := Tab.b18, ok := fun n => p18 _ n.2.1 n.2.2 }

theorem p44 (l : List Bx) (n : Int) (h1 : 1 ≤ n) (h2 : n ≤ 1073741824) : PureOk P0 44 [.agg (uCells l), I n] (.agg [I 0, I 0]) := by
  refine pure_run (F := Tab.F44) rfl rfl [spec18] ?_
  have h18 : (specCfg P0 X [spec18]).ora 18 [NL, I n, I 1048575] = some (.tup [.agg [I 0, I 0], I 0]) := oraOf_at (by simp) spec18 (by simp) ⟨n, h1, h2⟩
  have i18 : (specCfg P0 X [spec18]).imp 18 = false := rfl
  unfold Tab.F44
  refine W.seq (W.reg (WO.ops (fun ic => by simp; rfl) ?_))
  refine W.seq (W.reg (WO.ops (fun ic => by simp [i18, h18]; rfl) ?_))
  refine W.seq (W.reg (WO.ops (fun ic => by simp; rfl) (W.ret ⟨.inr rfl, ?_⟩)))
  simp [view, viewDepth]
def spec44 : Spec P0 := { K := 44, A := List Bx × { n : Int // 1 ≤ n ∧ n ≤ 1073741824 }, args := fun a => [.agg (uCells a.1), I a.2.1], res := fun _ => .agg [I 0, I 0], inj := fun _ _ _ => rfl, body := Tab.b44, ok := fun a => p44 _ _ a.2.2.1 a.2.2.2 }

theorem p128 (l : List Bx) (b : Bx) (h : Good1 b) (m : V) (hm : m = .vptr [.vmap []] 0) : PureOk P0 128 [.agg (encBx b), .vptr (uCells l) 0, m] (B false) := by
  subst hm
  refine pure_run (F := Tab.F128) rfl rfl [spec44] ?_
  have h44 : (specCfg P0 X [spec44]).ora 44 [.agg (uCells l), I b.id] = some (.agg [I 0, I 0]) := oraOf_at (by simp) spec44 (by simp) (l, ⟨b.id, h.id1, h.id2⟩)
  have i44 : (specCfg P0 X [spec44]).imp 44 = false := rfl
  unfold Tab.F128
  refine W.seq (W.reg (WO.ops (fun ic => by simp; rfl) ?_))
  refine W.seq (W.reg (WO.ops (fun ic => by simp [i44, h44]; rfl) ?_))
  refine W.seq (W.reg (WO.ops (fun ic => by simp; rfl) (W.ret ⟨.inr rfl, ?_⟩)))
  simp
end Go.TI
end
