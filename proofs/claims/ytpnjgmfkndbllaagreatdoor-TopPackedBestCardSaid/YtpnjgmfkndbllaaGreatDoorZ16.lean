/- A part of the proof of TopPackedBest: texts TkH to TkH. -/
import Derived.Test.YtpnjgmfkndbllaaGreatDoorZ15
/- A state with nothing but boxes is right. -/
section
set_option linter.unusedVariables false
set_option linter.unusedSimpArgs false
set_option maxRecDepth 1000000
namespace Go.TI
open Go Go.Proofs
attribute [local simp] evalOps stepOp wantedT evalOp Opd.val St.put St.ok St.obj upd start args0 binV binI intCmp resultsV resV idxOf loadV partV storeV getCells getRows upd2 cellsOf putAt scal faddrV

theorem e52 : (lev X 41).1 52 [I 0, I 0, I 1048575] = some (B true) := by kernel_rfl

theorem L73_3_ok {C : Cfg} {v : V} (hv : v = .sl 1 (List.replicate 6 [I 0]) .tight) : ∀ (n j : Nat) (st : St), j + n = 6 → st.t 31 = v → st.t 32 = I 6 → st.t 33 = I j → W C Tab.L73_3 st fun e st' => e = .exit 0 ∧ st'.t 1 = st.t 1 ∧ st'.s = st.s := by
  intro n
  induction n with
  | zero =>
    intro j st hj h31 h32 h33
    obtain rfl : j = 6 := by omega
    refine W.loop (W.seq (W.reg (WO.ops (fun ic => by simp [h32, h33]; rfl) ?_)))
    refine W.seq (W.ite false (by simp) ?_)
    exact W.exit ⟨rfl, by simp, by simp⟩
  | succ n ih =>
    intro j st hj h31 h32 h33
    have hj6 : j < 6 := by omega
    refine W.loop (W.seq (W.reg (WO.ops (fun ic => by simp [h32, h33]; rfl) ?_)))
    refine W.seq (W.ite true (by simp; omega) (W.skip ?_))
    have hat : ∀ s, iaddrV s 1 (j : Int) v = some (.vptr [I 0] 0) := fun s => by
      rw [hv]
      have : (List.replicate 6 [I 0])[j]? = some [I 0] := by rw [List.getElem?_replicate]; simp [hj6]
      simp only [iaddrV, Int.toNat_natCast, this]
      simp
    refine W.seq (W.blk (W.seq (W.reg (WO.ops (fun ic => by simp [h31, h33, hat]; rfl) ?_))))
    refine W.seq (W.reg (WO.ops (fun ic => by simp; rfl) ?_))
    refine W.ite false (by simp) (W.skip ?_)
    refine W.reg (WO.ops (fun ic => by simp [h33]; rfl) ?_)
    refine (ih (j + 1) _ (by omega) (by simp [h31]) (by simp [h32]) ?_).mono fun e s h => ⟨h.1, by rw [h.2.1]; simp, by rw [h.2.2]⟩
    simp
    exact wrap_id (by omega) (by omega)

theorem p73 (l : List Bx) (hg : GoodL l) : PureOk P0 73 [.agg (uCells l)] (B true) := by
  obtain ⟨sp, hsp⟩ : ∃ sp, sp = [specL 102 _ _ Tab.b102 (pure_lit e102), spec11, specL 118 _ _ Tab.b118 (pure_lit e118), specL 45 _ _ Tab.b45 (pure_lit e45), specL 119 _ _ Tab.b119 (pure_lit e119), specL 120 _ _ Tab.b120 (pure_lit e120), specL 52 _ _ Tab.b52 (pure_lit e52)] := ⟨_, rfl⟩
  have hnd : (sp.map (·.K)).Nodup := by simp [hsp, specL, spec11]
  refine pure_run (F := Tab.F73) rfl rfl sp ?_
  obtain ⟨C, hC⟩ : ∃ C, C = specCfg P0 X sp := ⟨_, rfl⟩
  have h102 : C.ora 102 [.agg [NL, NL, NL, I 0, NL, NL]] = some (I 0) := by rw [hC]; exact specL_at (b := Tab.b102) (h := pure_lit e102) hnd (by simp [hsp])
  have h118 : C.ora 118 [NL] = some (I 0) := by rw [hC]; exact specL_at (b := Tab.b118) (h := pure_lit e118) hnd (by simp [hsp])
  have h45 : C.ora 45 [NL] = some (I 0) := by rw [hC]; exact specL_at (b := Tab.b45) (h := pure_lit e45) hnd (by simp [hsp])
  have h119 : C.ora 119 [NL] = some (I 0) := by rw [hC]; exact specL_at (b := Tab.b119) (h := pure_lit e119) hnd (by simp [hsp])
  have h120 : C.ora 120 [I 1, NL] = some (I 0) := by rw [hC]; exact specL_at (b := Tab.b120) (h := pure_lit e120) hnd (by simp [hsp])
  have h52 : C.ora 52 [I 0, I 0, I 1048575] = some (B true) := by rw [hC]; exact specL_at (b := Tab.b52) (h := pure_lit e52) hnd (by simp [hsp])
  have h11 : C.ora 11 [encBxs l] = some (I 0) := by rw [hC]; exact oraOf_at hnd spec11 (by simp [hsp]) ⟨l, hg⟩
  have i102 : C.imp 102 = false := by rw [hC]; rfl
  have i118 : C.imp 118 = false := by rw [hC]; rfl
  have i45 : C.imp 45 = false := by rw [hC]; rfl
  have i119 : C.imp 119 = false := by rw [hC]; rfl
  have i120 : C.imp 120 = false := by rw [hC]; rfl
  have i52 : C.imp 52 = false := by rw [hC]; rfl
  have i11 : C.imp 11 = false := by rw [hC]; rfl
  rw [← hC]
  have vP : ∀ s, view s viewDepth (.agg [NL, NL, NL, I 0, NL, NL]) = some (.agg [NL, NL, NL, I 0, NL, NL]) := fun s => rfl
  have rP : refs viewDepth (.agg [NL, NL, NL, I 0, NL, NL]) = false := rfl
  unfold Tab.F73
  refine W.seq (W.reg (WO.ops (fun ic => by simp; rfl) ?_))
  refine W.seq (W.seq (W.dregP rfl (WO.ops (fun ic => by simp [i102, i118, i45, i119, i120, i11, h102, h118, h45, h119, h120, h11, vP, rP, fillR, lenV]; rfl) ?_)))
  refine W.blk ((L73_3_ok (v := .sl 1 [[I 0], [I 0], [I 0], [I 0], [I 0], [I 0]] .tight) rfl 6 0 _ rfl (by simp) (by simp) (by simp)).mono fun e s h => ?_)
  obtain ⟨rfl, h1, hs⟩ := h
  simp at h1 hs
  simp only [blkQ_exit, if_true, thenQ_normal]
  refine W.seq (W.seq (W.reg (WO.ops (fun ic => by simp [h1, hs, lenV]; rfl) ?_)))
  refine W.blk (W.loop (W.seq (W.reg (WO.ops (fun ic => by simp; rfl) ?_))))
  refine W.seq (W.ite false (by simp) (W.exit ?_))
  simp only [blkQ_exit, if_true, thenQ_normal, thenQ_exit]
  refine W.seq (W.seq (W.reg (WO.ops (fun ic => by simp [h1, hs, lenV]; rfl) ?_)))
  refine W.blk (W.loop (W.seq (W.reg (WO.ops (fun ic => by simp; rfl) ?_))))
  refine W.seq (W.ite false (by simp) (W.exit ?_))
  simp only [blkQ_exit, if_true, thenQ_normal, thenQ_exit]
  refine W.seq (W.seq (W.reg (WO.ops (fun ic => by simp [h1, hs, lenV]; rfl) ?_)))
  refine W.blk (W.loop (W.seq (W.reg (WO.ops (fun ic => by simp; rfl) ?_))))
  refine W.seq (W.ite false (by simp) (W.exit ?_))
  simp only [blkQ_exit, if_true, thenQ_normal, thenQ_exit]
  refine W.seq (W.reg (WO.ops (fun ic => by simp [h1, hs, lenV, i52, h52]; rfl) (W.ret ⟨.inr rfl, ?_⟩)))
  simp
def spec73 : Spec P0 := { K := 73, A := { l : List Bx // GoodL l }, args := fun l => [.agg (uCells l.1)], res := fun _ => B true, inj := fun _ _ _ => rfl, body := Tab.b73, ok := fun l => p73 l.1 l.2 }

/-! ### moves: there are none -/
theorem p132 (f : Nat) (caps : List V) (hf : impOf f = false) : PureOk P0 132 [NL, .clo f caps] (I (-1)) := by
  refine pure_run (F := indexTF 6) rfl rfl [] ?_
  exact index_ok (C := specCfg P0 X []) (k := 6) (f := f) (caps := caps) (rows := []) (p := fun _ => false) (by decide) hf (by simp) (by simp) (by simp) (by simp)
def mv126 (l : List Bx) : V := .clo 126 [.vptr (uCells l) 0, .vptr [.clo 123 [.vptr (uCells l) 0]] 0]
def spec132 : Spec P0 := { K := 132, A := List Bx, args := fun l => [NL, mv126 l], res := fun _ => I (-1), inj := fun _ _ _ => rfl, body := Tab.b132, ok := fun l => p132 126 _ rfl }
theorem view_vU {s : Sto} {n : Nat} {l : List Bx} : view s (n + 4) (.vptr (uCells l) 0) = some (.vptr (uCells l) 0) := by
  simp only [view, mapO_id (fun x hx => view_uCells (s := fun _ _ => none) (n := n) (l := l) x hx), Option.map_some]
theorem view_mv126 {s : Sto} {l : List Bx} : view s viewDepth (mv126 l) = some (mv126 l) := by
  have h1 : ∀ s, view s 7 (.vptr (uCells l) 0) = some (.vptr (uCells l) 0) := fun s => view_vU (n := 3)
  have h2 : ∀ s, view s 5 (.vptr (uCells l) 0) = some (.vptr (uCells l) 0) := fun s => view_vU (n := 1)
  simp only [viewDepth, mv126]
  rw [view]
  simp only [mapO, h1]
  rw [view, mapO, view]
  simp only [mapO, h2, Option.map_some]
theorem p125 (l : List Bx) : PureOk P0 125 [NL, mv126 l] (B false) := by
  refine pure_run (F := containsTF 132) rfl rfl [spec132] ?_
  exact contains_ok (C := specCfg P0 X [spec132]) (n := 132) rfl (fun s => by simp [view_mv126]) (oraOf_at (by simp) spec132 (by simp) l)
def spec125 : Spec P0 := { K := 125, A := List Bx, args := fun l => [NL, mv126 l], res := fun _ => B false, inj := fun _ _ _ => rfl, body := Tab.b125, ok := p125 }
theorem p74 (l : List Bx) : PureOk P0 74 [.agg (uCells l)] (B true) := by
  refine pure_run (F := Tab.F74) rfl rfl [spec125] ?_
  have h125 : (specCfg P0 X [spec125]).ora 125 [NL, mv126 l] = some (B false) := oraOf_at (by simp) spec125 (by simp) l
  have i125 : (specCfg P0 X [spec125]).imp 125 = false := rfl
  unfold Tab.F74
  refine W.seq (W.reg (WO.ops (fun ic => by simp; rfl) ?_))
  refine W.seq (W.reg (WO.ops (fun ic => by simp; rfl) ?_))
  have hv : ∀ s : Sto, s 0 1 = some (1, .cells (uCells l)) → s 0 3 = some (2, .cells [.clo 123 [.ptr 0 1 1 0]]) → view s viewDepth (.clo 126 [.ptr 0 1 1 0, .ptr 0 3 2 0]) = some (mv126 l) := fun s h1 h3 => by
    have v7 : view s 7 (.ptr 0 1 1 0) = some (.vptr (uCells l) 0) := by
      simp only [view, h1, if_true, mapO_id (fun x hx => view_uCells (s := s) (n := 3) (l := l) x hx), Option.map_some]
    have v5 : view s 5 (.ptr 0 1 1 0) = some (.vptr (uCells l) 0) := by
      simp only [view, h1, if_true, mapO_id (fun x hx => view_uCells (s := s) (n := 1) (l := l) x hx), Option.map_some]
    have v7' : view s 7 (.ptr 0 3 2 0) = some (.vptr [.clo 123 [.vptr (uCells l) 0]] 0) := by
      rw [view, h3]
      simp only [if_true, mapO]
      rw [view]
      simp only [mapO, v5, Option.map_some]
    simp only [viewDepth, mv126]
    rw [view]
    simp only [mapO, v7, v7', Option.map_some]
  refine W.seq (W.reg (WO.ops (fun ic => by simp [i125, hv, h125]; rfl) (W.ret ⟨.inr rfl, ?_⟩)))
  simp
def spec74 : Spec P0 := { K := 74, A := List Bx, args := fun l => [.agg (uCells l)], res := fun _ => B true, inj := fun _ _ _ => rfl, body := Tab.b74, ok := fun l => p74 l }

/-! ### held -/
theorem L75_0_ok {C : Cfg} {l : List Bx} (hg : GoodL l) (i44 : C.imp 44 = false) (h44 : ∀ b ∈ l, C.ora 44 [.agg (uCells l), I b.id] = some (.agg [I 0, I 0])) {g1 : Nat} : ∀ (rest pre : List Bx) (st : St), l = pre ++ rest → st.fr = 0 → st.t 10 = encBxs l → st.t 11 = I l.length → st.t 12 = I pre.length → st.t 1 = .ptr 0 1 g1 0 → st.s 0 1 = some (g1, .cells (uCells l)) →
    W C Tab.L75_0 st fun e st' => e = .exit 0 := by
  intro rest
  induction rest with
  | nil =>
    intro pre st hcs hfr h10 h11 h12 h1 hs
    have hp : pre = l := by simpa using hcs.symm
    subst hp
    refine W.loop (W.seq (W.reg (WO.ops (fun ic => by simp [h11, h12]; rfl) ?_)))
    refine W.seq (W.ite false (by simp) ?_)
    exact W.exit rfl
  | cons b rest ih =>
    intro pre st hcs hfr h10 h11 h12 h1 hs
    have hl : pre.length < l.length := by rw [hcs]; simp
    have hlen := hg.len
    refine W.loop (W.seq (W.reg (WO.ops (fun ic => by simp [h11, h12]; rfl) ?_)))
    refine W.seq (W.ite true (by simp [hl]) (W.skip ?_))
    have hat : ∀ s, iaddrV s 5 (pre.length : Int) (encBxs l) = some (.vptr (encBx b) 0) := fun s => iaddr_slN (by decide) (by rw [hcs]; simp)
    have hb := h44 b (by rw [hcs]; simp)
    refine W.seq (W.blk (W.seq (W.reg (WO.ops (fun ic => by simp [h10, h12, hat]; rfl) ?_))))
    refine W.seq (W.reg (WO.ops (fun ic => by simp [hfr, h1, hs, i44, hb]; rfl) ?_))
    refine W.seq (W.seq (W.reg (WO.ops (fun ic => by simp [hfr]; rfl) ?_)))
    refine W.ite true (by simp) (W.exit ?_)
    simp only [thenQ_exit, blkQ_exit, if_true, thenQ_normal]
    refine W.reg (WO.ops (fun ic => by simp [h12]; rfl) ?_)
    refine ih (pre ++ [b]) _ (by simp [hcs]) (by simp [hfr]) (by simp [h10]) (by simp [h11]) ?_ (by simp [h1]) (by simp [hfr, hs])
    simp
    exact wrap_id (by omega) (by omega)
theorem p75 (l : List Bx) (hg : GoodL l) : PureOk P0 75 [.agg (uCells l)] (B true) := by
  refine pure_run (F := Tab.F75) rfl rfl [spec44] ?_
  have h44 : ∀ b ∈ l, (specCfg P0 X [spec44]).ora 44 [.agg (uCells l), I b.id] = some (.agg [I 0, I 0]) := fun b hb => oraOf_at (by simp) spec44 (by simp) (l, ⟨b.id, (hg.each b hb).id1, (hg.each b hb).id2⟩)
  unfold Tab.F75
  refine W.seq (W.reg (WO.ops (fun ic => by simp; rfl) ?_))
  refine W.seq (W.reg (WO.ops (fun ic => by simp; rfl) ?_))
  refine W.seq (W.seq (W.reg (WO.ops (fun ic => by simp [encBxs, len_slN]; rfl) ?_)))
  refine W.blk ((L75_0_ok hg (C := specCfg P0 X [spec44]) rfl h44 (g1 := 1) l [] _ rfl (by simp) (by simp [encBxs]) (by simp) (by simp) (by simp) (by simp)).mono fun e s h => ?_)
  subst h
  simp only [blkQ_exit, if_true, thenQ_normal]
  refine W.seq (W.reg (WO.ops (fun ic => rfl) (W.ret ⟨.inr rfl, by simp⟩)))
def spec75 : Spec P0 := { K := 75, A := { l : List Bx // GoodL l }, args := fun l => [.agg (uCells l.1)], res := fun _ => B true, inj := fun _ _ _ => rfl, body := Tab.b75, ok := fun l => p75 l.1 l.2 }

end Go.TI
end
