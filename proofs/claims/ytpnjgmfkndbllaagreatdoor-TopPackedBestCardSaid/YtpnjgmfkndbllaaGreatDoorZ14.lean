/- A part of the proof of TopPackedBest: texts TkF to TkF. -/
import Derived.Test.YtpnjgmfkndbllaaGreatDoorZ13
/- A content is put into a box. -/
section
set_option linter.unusedVariables false
set_option linter.unusedSimpArgs false
namespace Go.TI
open Go Go.Proofs
attribute [local simp] evalOps stepOp wantedT evalOp Opd.val St.put St.ok St.obj upd start args0 binV binI intCmp resultsV resV idxOf loadV partV storeV getCells getRows upd2 cellsOf putAt scal faddrV

/-- box.inserted at index 0. -/
def InsOk : Prop := ∀ (cs : List Ct) (c : Ct), cs.length ≤ 100 → PureOk P0 323 [encCts cs, I 0, .agg (encCt c)] (encCts (c :: cs))
def spec323 (h : InsOk) : Spec P0 := { K := 323, A := { l : List Ct // l.length ≤ 100 } × Ct, args := fun a => [encCts a.1.1, I 0, .agg (encCt a.2)], res := fun a => encCts (a.2 :: a.1.1), inj := fun a b h => by simp at h; rw [show a = b from Prod.ext (Subtype.ext (encCts_inj h.1)) (encCt_inj h.2)], body := Tab.b323, ok := fun a => h _ _ a.1.2 }

def noBxs : V := .sl 0 [] .shared
def res259 (l : List Bx) (id : Int) (c : Ct) : V := match l.findIdx? (fun b => decide (b.id = id)) with
  | none => .tup [noBxs, I 7]
  | some i => match l[i]? with
    | none => .tup [noBxs, I 7]
    | some b => if thick b.cs + c.thick > b.room then .tup [noBxs, I 12] else .tup [encBxs (insAt l i c), I 0]

theorem whereI_none {u : Int} : ∀ {l : List Bx} {i : Nat}, u ∉ unitsOf l → whereI u l i = (-1, -1) := by
  intro l
  induction l with
  | nil => intro i _; rfl
  | cons b l ih =>
    intro i h
    have h1 : b.cs.findIdx? (fun c => decide (c.unit = u)) = none := by
      rw [List.findIdx?_eq_none_iff]
      intro c hc
      simp only [decide_eq_false_iff_not]
      intro e
      exact h (by simp only [unitsOf, List.flatMap_cons, List.map_append, List.mem_append, List.mem_map]; exact .inl ⟨c, hc, e⟩)
    simp only [whereI, h1]
    exact ih fun hm => h (by simp only [unitsOf, List.flatMap_cons, List.map_append, List.mem_append]; exact .inr hm)

theorem set_insAt {l : List Bx} {i : Nat} {b : Bx} {c : Ct} (h : l[i]? = some b) : l.set i { b with cs := c :: b.cs } = insAt l i c := by
  unfold insAt
  apply List.ext_getElem?
  intro j
  rw [List.getElem?_set, List.getElem?_modify]
  by_cases hj : i = j
  · subst hj
    obtain ⟨hi, rfl⟩ := List.getElem?_eq_some_iff.1 h
    simp [hi]
  · simp [hj]

theorem view_tup2 {s : Sto} {v v' : V} {x : Int} (h : view s 7 v = some v') : view s viewDepth (.tup [v, I x]) = some (.tup [v', I x]) := by
  have : view s 7 (I x) = some (I x) := rfl
  simp [viewDepth, view, h]

theorem insAt_length {l : List Bx} {i : Nat} {c : Ct} : (insAt l i c).length = l.length := by simp [insAt]
theorem view_ownBxs {s : Sto} {fr sl g n : Nat} {L : List (List V)} {l : List Bx} (hL : Likes L l) (hn : l.length = n) (hs : s fr sl = some (g, .rows 5 L)) : view s 7 (.own fr sl g 0 n 5) = some (encBxs l) := by
  have hl := hL.length
  subst hn
  have hv : mapO (mapO (view s 6)) L = some (l.map encBx) := hL.view
  simp only [view, hs]
  simp [hl, List.take_of_length_le (Nat.le_of_eq hl), hv, encBxs]

theorem p259 (hI : InsOk) (l : List Bx) (hg : GoodL l) (id : Int) (c : Ct) (hc : GoodCt c) (hu : c.unit ∉ unitsOf l) (h32 : ∀ b ∈ l, b.cs.length < 32) : PureOk P0 259 [encBxs l, I id, I 0, .agg (encCt c)] (res259 l id c) := by
  have hlen := hg.len
  refine pure_run (F := Tab.F259) rfl rfl [spec11, spec320, spec321, spec64, spec67, spec68, spec323 hI] ?_
  obtain ⟨C, hC⟩ : ∃ C, C = specCfg P0 X [spec11, spec320, spec321, spec64, spec67, spec68, spec323 hI] := ⟨_, rfl⟩
  have hnd : ([spec11, spec320, spec321, spec64, spec67, spec68, spec323 hI].map (·.K)).Nodup := by simp [spec11, spec320, spec321, spec64, spec67, spec68, spec323]
  have h11 : C.ora 11 [encBxs l] = some (I 0) := by rw [hC]; exact oraOf_at hnd spec11 (by simp) ⟨l, hg⟩
  have h320 : C.ora 320 [encBxs l, I id] = some (I (ixI (fun b => decide (b.id = id)) l)) := by rw [hC]; exact oraOf_at hnd spec320 (by simp) (⟨l, by omega⟩, id)
  have h321 : C.ora 321 [encBxs l, I c.unit] = some (.tup [I (-1), I (-1)]) := by
    rw [hC]
    refine (oraOf_at hnd spec321 (by simp) (⟨l, by omega, fun b hb => by have := (hg.each b hb).len; omega⟩, c.unit)).trans ?_
    show some (V.tup [I (whereI c.unit l 0).1, I (whereI c.unit l 0).2]) = _
    rw [whereI_none hu]
  have h64 : ∀ a b c, C.ora 64 [I a, I b, I c] = some (B (inB a b c)) := fun a b c => by rw [hC]; exact oraOf_at hnd spec64 (by simp) (a, b, c)
  have h67 : C.ora 67 [.agg [I c.unit, I c.thick]] = some (B true) := by
    rw [hC]
    refine (oraOf_at hnd spec67 (by simp) c).trans ?_
    show some (B (okCt c)) = _
    rw [hc.ok]
  have vC : ∀ s, view s viewDepth (.agg [I c.unit, I c.thick]) = some (.agg [I c.unit, I c.thick]) := fun s => rfl
  have rC : refs viewDepth (.agg [I c.unit, I c.thick]) = false := rfl
  have i11 : C.imp 11 = false := by rw [hC]; rfl
  have i320 : C.imp 320 = false := by rw [hC]; rfl
  have i321 : C.imp 321 = false := by rw [hC]; rfl
  have i64 : C.imp 64 = false := by rw [hC]; rfl
  have i67 : C.imp 67 = false := by rw [hC]; rfl
  have i68 : C.imp 68 = false := by rw [hC]; rfl
  have i323 : C.imp 323 = false := by rw [hC]; rfl
  have i322 : C.imp 322 = true := by rw [hC]; rfl
  rw [← hC]
  unfold Tab.F259
  refine W.seq (W.reg (WO.ops (fun ic => rfl) ?_))
  refine W.seq (W.seq (W.reg (WO.ops (fun ic => by simp [i11, h11]; rfl) ?_)))
  refine W.ite false (by simp) (W.skip ?_)
  refine W.seq (W.reg (WO.ops (fun ic => by simp [i320, h320]; rfl) ?_))
  refine W.seq (W.seq (W.reg (WO.ops (fun ic => by simp; rfl) ?_)))
  cases hfi : l.findIdx? (fun b => decide (b.id = id)) with
  | none =>
    refine W.ite true (by simp [ixI, hfi]) ?_
    refine W.seq (W.reg (WO.ops (fun ic => by simp; rfl) (W.ret ?_)))
    simp only [thenQ_ret]
    exact ⟨.inr rfl, by simp [res259, hfi]; rfl⟩
  | some i =>
    have hil : i < l.length := by
      rw [List.findIdx?_eq_some_iff_getElem] at hfi; exact hfi.1
    obtain ⟨b, hb⟩ : ∃ b, l[i]? = some b := ⟨l[i], List.getElem?_eq_getElem hil⟩
    have hbm : b ∈ l := List.mem_of_getElem? hb
    have hgb := hg.each b hbm
    refine W.ite false (by simp [ixI, hfi]) (W.skip ?_)
    refine W.seq (W.reg (WO.ops (fun ic => by simp [i321, h321, encCt]; rfl) ?_))
    have hat : ∀ s, iaddrV s 5 (i : Int) (encBxs l) = some (.vptr (encBx b) 0) := fun s => iaddr_slN (by decide) (by simp [hb])
    refine W.seq (W.seq (W.reg (WO.ops (fun ic => by simp [ixI, hfi, hat]; rfl) ?_)))
    have hin : inB 0 0 (b.cs.length : Int) = true := by simp [inB]
    refine W.blk (W.seq (W.reg (WO.ops (fun ic => by simp [encCts, len_slN, i64, h64, hin, i67, h67, vC, rC]; rfl) ?_)))
    refine W.ite false (by simp) ?_
    refine W.seq (W.reg (WO.ops (fun ic => by simp; rfl) ?_))
    refine W.ite false (by simp) ?_
    have hl32 := h32 b hbm
    refine W.seq (W.reg (WO.ops (fun ic => by simp [encCts, len_slN]; rfl) ?_))
    refine W.ite false (by simp; omega) ?_
    have h68 : C.ora 68 [encCts b.cs] = some (I (thick b.cs)) := by rw [hC]; exact oraOf_at hnd spec68 (by simp) ⟨b.cs, by omega, fun c hc => ⟨by have := (hgb.cs c hc).t1; omega, (hgb.cs c hc).t2⟩⟩
    refine W.seq (W.dregP rfl (WO.ops (fun ic => by simp [i68, h68]; rfl) ?_))
    have htb := thick_bound (l := b.cs) fun c hc => ⟨by have := (hgb.cs c hc).t1; omega, (hgb.cs c hc).t2⟩
    have hw : IntKind.i64.wrap (thick b.cs + c.thick) = thick b.cs + c.thick := wrap_id (by have := hc.t1; omega) (by have := hc.t2; omega)
    by_cases hfull : thick b.cs + c.thick > b.room
    · refine W.ite true (by simp [hw]; omega) ?_
      refine W.seq (W.reg (WO.ops (fun ic => by simp; rfl) (W.ret ?_)))
      simp only [blkQ_ret, thenQ_ret]
      exact ⟨.inr rfl, by simp [res259, hfi, hb, hfull]; rfl⟩
    · refine W.ite false (by simp [hw]; omega) (W.skip ?_)
      simp only [blkQ_normal, thenQ_normal]
      have hne : l ≠ [] := by intro h; rw [h] at hil; simp at hil
      refine W.seq (W.reg (WO.step (os := [Tab.o 64 (.mv (Tab.t 0))]) (fun ic => by simp; rfl) (WO.imp (f := 322) (F := Tab.F322) (vs := [encBxs l]) (by rw [hC]; rfl) rfl (fun ic => by simp [i322]) ((clone322 hC hne (by omega) (fun b hb => by have := (hg.each b hb).len; omega) _).mono fun e s h => ?_))))
      obtain ⟨he, v, hv, g, rfl, L, hL, hs⟩ := h
      refine ⟨he, _, hv, WO.ops (fun ic => by simp; rfl) ?_⟩
      simp at hs
      obtain ⟨r, hr, hrb⟩ := hL.at hb
      have hiL : i < L.length := by rw [hL.length]; exact hil
      obtain ⟨k, m, rfl, hk⟩ := hrb
      have hr2 : L[i] = [I b.id, I b.width, I b.room, I b.climate, .sl k (b.cs.map encCt) m] := by
        rw [List.getElem?_eq_getElem hiL] at hr; injection hr
      have h323 : C.ora 323 [encCts b.cs, I 0, .agg [I c.unit, I c.thick]] = some (encCts (c :: b.cs)) := by rw [hC]; exact oraOf_at hnd (spec323 hI) (by simp) (⟨b.cs, by omega⟩, c)
      have hv : ∀ s, view s viewDepth (.sl k (b.cs.map encCt) m) = some (encCts b.cs) := fun s => Like.view_cs hk
      have hrf : refs viewDepth (.sl k (b.cs.map encCt) m) = false := rfl
      refine W.seq (W.dregP rfl (WO.ops (fun ic => by simp [hs, ixI, hfi, iaddrV, hil, hiL, hr2, hv, hrf, i323, h323, vC, rC]; rfl) ?_))
      refine W.seq (W.reg (WO.ops (fun ic => by simp; rfl) (W.ret ⟨.inr rfl, ?_⟩)))
      simp
      have hset := hL.set (j := i) (r := [I b.id, I b.width, I b.room, I b.climate, encCts (c :: b.cs)]) (b := { b with cs := c :: b.cs }) ⟨2, .shared, by simp [encCts, slN], fun _ => rfl⟩
      rw [set_insAt hb] at hset
      have hfin : res259 l id c = .tup [encBxs (insAt l i c), I 0] := by simp only [res259, hfi, hb, if_neg hfull]
      rw [hfin]
      refine view_tup2 ?_
      exact view_ownBxs hset (by rw [insAt_length]) rfl
end Go.TI
end
