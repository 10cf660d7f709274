/- A part of the proof of TopPackedBest: texts TkI to TkI. -/
import Derived.Test.YtpnjgmfkndbllaaGreatDoorZ16
/- A state with nothing but boxes is right: lent; all. -/
section
set_option linter.unusedVariables false
set_option linter.unusedSimpArgs false
set_option maxRecDepth 1000000
namespace Go.TI
open Go Go.Proofs
attribute [local simp] evalOps stepOp wantedT evalOp Opd.val St.put St.ok St.obj upd start args0 binV binI intCmp resultsV resV idxOf loadV partV storeV getCells getRows upd2 cellsOf putAt scal faddrV

def lt128 (l : List Bx) : V := .clo 128 [.vptr (uCells l) 0, .vptr [.vmap []] 0]
theorem view_lt128 {s : Sto} {l : List Bx} : view s viewDepth (lt128 l) = some (lt128 l) := by
  have h1 : ∀ s, view s 7 (.vptr (uCells l) 0) = some (.vptr (uCells l) 0) := fun s => view_vU (n := 3)
  simp only [viewDepth, lt128]
  rw [view]
  simp only [mapO, h1]
  rfl
def spec128 : Spec P0 := { K := 128, A := List Bx × { b : Bx // Good1 b }, args := fun a => [.agg (encBx a.2.1), .vptr (uCells a.1) 0, .vptr [.vmap []] 0], res := fun _ => B false, inj := fun _ _ _ => rfl, body := Tab.b128, ok := fun a => p128 a.1 a.2.1 a.2.2 _ rfl }
theorem p79_128 (l : List Bx) (hg : GoodL l) : PureOk P0 79 [encBxs l, lt128 l] (I (-1)) := by
  refine pure_run (F := indexTF 5) rfl rfl [spec128] ?_
  have hid : idx (fun _ => false) (l.map encBx) = -1 := by
    unfold idx
    have : (l.map encBx).findIdx? (fun _ => false) = none := by rw [List.findIdx?_eq_none_iff]; intros; rfl
    rw [this]
  have hlen := hg.len
  have h1 : ∀ s, view s viewDepth (.vptr (uCells l) 0) = some (.vptr (uCells l) 0) := fun s => view_vU (n := 4)
  have h2 : ∀ s, view s viewDepth (.vptr [.vmap []] 0) = some (.vptr [.vmap []] 0) := fun s => rfl
  have := index_ok (C := specCfg P0 X [spec128]) (k := 5) (f := 128) (caps := [.vptr (uCells l) 0, .vptr [.vmap []] 0]) (rows := l.map encBx) (p := fun _ => false) (by decide) rfl (by simp; omega) (fun r hr => by obtain ⟨c, _, rfl⟩ := List.mem_map.1 hr; rfl) (fun s r hr => by obtain ⟨c, _, rfl⟩ := List.mem_map.1 hr; simp [h1, h2]) (fun r hr => by
    obtain ⟨c, hc, rfl⟩ := List.mem_map.1 hr
    exact oraOf_at (by simp) spec128 (by simp) (l, ⟨c, hg.each c hc⟩))
  rw [hid] at this
  exact this
def spec79l : Spec P0 := { K := 79, A := { l : List Bx // GoodL l }, args := fun l => [encBxs l.1, lt128 l.1], res := fun _ => I (-1), inj := fun _ _ _ => rfl, body := Tab.b79, ok := fun l => p79_128 l.1 l.2 }
theorem p127 (l : List Bx) (hg : GoodL l) : PureOk P0 127 [encBxs l, lt128 l] (B false) := by
  refine pure_run (F := containsTF 79) rfl rfl [spec79l] ?_
  exact contains_ok (C := specCfg P0 X [spec79l]) (n := 79) rfl (fun s => by simp [view_lt128]) (oraOf_at (by simp) spec79l (by simp) ⟨l, hg⟩)
def spec127 : Spec P0 := { K := 127, A := { l : List Bx // GoodL l }, args := fun l => [encBxs l.1, lt128 l.1], res := fun _ => B false, inj := fun _ _ _ => rfl, body := Tab.b127, ok := fun l => p127 l.1 l.2 }

theorem p76 (l : List Bx) (hg : GoodL l) : PureOk P0 76 [.agg (uCells l)] (B true) := by
  refine pure_run (F := Tab.F76) rfl rfl [spec127] ?_
  have h127 : (specCfg P0 X [spec127]).ora 127 [encBxs l, lt128 l] = some (B false) := oraOf_at (by simp) spec127 (by simp) ⟨l, hg⟩
  have i127 : (specCfg P0 X [spec127]).imp 127 = false := rfl
  have hv : ∀ s : Sto, ∀ g1 g3 g8, s 0 1 = some (g1, .cells (uCells l)) → s 0 3 = some (g3, .cells [.map 0 8 g8]) → s 0 8 = some (g8, .map []) → view s viewDepth (.clo 128 [.ptr 0 1 g1 0, .ptr 0 3 g3 0]) = some (lt128 l) := fun s g1 g3 g8 h1 h3 h8 => by
    have v7 : view s 7 (.ptr 0 1 g1 0) = some (.vptr (uCells l) 0) := by
      simp only [view, h1, if_true, mapO_id (fun x hx => view_uCells (s := s) (n := 3) (l := l) x hx), Option.map_some]
    have v7' : view s 7 (.ptr 0 3 g3 0) = some (.vptr [.vmap []] 0) := by
      simp [view, h3, h8]
    simp only [viewDepth, lt128]
    rw [view]
    simp only [mapO, v7, v7', Option.map_some]
  unfold Tab.F76
  refine W.seq (W.reg (WO.ops (fun ic => by simp; rfl) ?_))
  refine W.seq (W.reg (WO.ops (fun ic => by simp; rfl) ?_))
  refine W.seq (W.seq (W.reg (WO.ops (fun ic => by simp [lenV]; rfl) ?_)))
  refine W.blk (W.loop (W.seq (W.reg (WO.ops (fun ic => by simp; rfl) ?_))))
  refine W.seq (W.ite false (by simp) (W.exit ?_))
  simp only [blkQ_exit, if_true, thenQ_normal, thenQ_exit]
  refine W.seq (W.seq (W.reg (WO.ops (fun ic => by simp [mapEs, getMap]; rfl) ?_)))
  refine W.blk (W.loop (W.seq (W.reg (WO.ops (fun ic => by simp [mapEs, getMap, getIter]; rfl) ?_))))
  refine W.seq (W.ite false (by simp) (W.exit ?_))
  simp only [blkQ_exit, if_true, thenQ_normal, thenQ_exit]
  refine W.seq (W.reg (WO.ops (fun ic => by simp [i127, hv, h127]; rfl) (W.ret ⟨.inr rfl, ?_⟩)))
  simp
def spec76 : Spec P0 := { K := 76, A := { l : List Bx // GoodL l }, args := fun l => [.agg (uCells l.1)], res := fun _ => B true, inj := fun _ _ _ => rfl, body := Tab.b76, ok := fun l => p76 l.1 l.2 }

theorem p39 (l : List Bx) (hg : GoodL l) : PureOk P0 39 [.agg (uCells l)] (B true) := by
  refine pure_run (F := Tab.F39) rfl rfl [spec73, spec74, spec75, spec76] ?_
  have hnd : ([spec73, spec74, spec75, spec76].map (·.K)).Nodup := by simp [spec73, spec74, spec75, spec76]
  obtain ⟨C, hC⟩ : ∃ C, C = specCfg P0 X [spec73, spec74, spec75, spec76] := ⟨_, rfl⟩
  have h73 : C.ora 73 [.agg (uCells l)] = some (B true) := by rw [hC]; exact oraOf_at hnd spec73 (by simp) ⟨l, hg⟩
  have h74 : C.ora 74 [.agg (uCells l)] = some (B true) := by rw [hC]; exact oraOf_at hnd spec74 (by simp) l
  have h75 : C.ora 75 [.agg (uCells l)] = some (B true) := by rw [hC]; exact oraOf_at hnd spec75 (by simp) ⟨l, hg⟩
  have h76 : C.ora 76 [.agg (uCells l)] = some (B true) := by rw [hC]; exact oraOf_at hnd spec76 (by simp) ⟨l, hg⟩
  have i73 : C.imp 73 = false := by rw [hC]; rfl
  have i74 : C.imp 74 = false := by rw [hC]; rfl
  have i75 : C.imp 75 = false := by rw [hC]; rfl
  have i76 : C.imp 76 = false := by rw [hC]; rfl
  rw [← hC]
  unfold Tab.F39
  refine W.seq (W.reg (WO.ops (fun ic => by simp; rfl) ?_))
  refine W.seq (W.reg (WO.ops (fun ic => by simp [i73, i74, i75, i76, h73, h74, h75, h76]; rfl) (W.ret ⟨.inr rfl, ?_⟩)))
  simp
def spec39 : Spec P0 := { K := 39, A := { l : List Bx // GoodL l }, args := fun l => [.agg (uCells l.1)], res := fun _ => B true, inj := fun _ _ _ => rfl, body := Tab.b39, ok := fun l => p39 l.1 l.2 }
end Go.TI
end
