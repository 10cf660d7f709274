/- A part of the proof of TopPackedBest: texts TkB to TkB. -/
import Derived.Test.YtpnjgmfkndbllaaGreatDoorZ08
/- What boxes' functions give. -/
section
set_option linter.unusedVariables false
set_option linter.unusedSimpArgs false
namespace Go.TI
open Go Go.Proofs
attribute [local simp] evalOps stepOp wantedT evalOp Opd.val St.put St.ok St.obj upd start args0 binV binI intCmp resultsV resV idxOf loadV partV storeV getCells getRows upd2 cellsOf putAt scal faddrV

theorem slN_inj {k : Nat} {a b : List (List V)} (h : slN k a = slN k b) : a = b := by
  unfold slN at h
  injection h
theorem map_inj {α β : Type} {f : α → β} (hf : ∀ a b, f a = f b → a = b) : ∀ {l l' : List α}, l.map f = l'.map f → l = l' := by
  intro l
  induction l with
  | nil => intro l' h; cases l' with | nil => rfl | cons => simp at h
  | cons x l ih =>
    intro l' h
    cases l' with
    | nil => simp at h
    | cons y l' =>
      simp only [List.map_cons, List.cons.injEq] at h
      rw [hf _ _ h.1, ih h.2]
theorem encCt_inj {a b : Ct} (h : encCt a = encCt b) : a = b := by
  cases a; cases b
  simp [encCt] at h
  simp [h]
theorem encCts_inj {a b : List Ct} (h : encCts a = encCts b) : a = b := map_inj (fun _ _ => encCt_inj) (slN_inj h)
theorem encBx_inj {a b : Bx} (h : encBx a = encBx b) : a = b := by
  cases a; cases b
  simp [encBx] at h
  obtain ⟨h1, h2, h3, h4, h5⟩ := h
  simp [h1, h2, h3, h4, encCts_inj h5]
theorem encBxs_inj {a b : List Bx} (h : encBxs a = encBxs b) : a = b := map_inj (fun _ _ => encBx_inj) (slN_inj h)

def spec67 : Spec P0 := { K := 67, A := Ct, args := fun c => [.agg (encCt c)], res := fun c => B (okCt c), inj := fun a b h => by simp at h; rw [encCt_inj h], body := Tab.b67, ok := p67 }

@[simp] theorem encCt_length {c : Ct} : (encCt c).length = 2 := rfl
@[simp] theorem encCt_take {c : Ct} : List.take 2 (encCt c) = encCt c := rfl
@[simp] theorem encCt_0 {c : Ct} : (encCt c)[0]? = some (I c.unit) := rfl
@[simp] theorem encCt_1 {c : Ct} : (encCt c)[1]? = some (I c.thick) := rfl
@[simp] theorem encBx_length {c : Bx} : (encBx c).length = 5 := rfl
@[simp] theorem encBx_take {c : Bx} : List.take 5 (encBx c) = encBx c := rfl
@[simp] theorem encBx_0 {c : Bx} : (encBx c)[0]? = some (I c.id) := rfl
@[simp] theorem encBx_1 {c : Bx} : (encBx c)[1]? = some (I c.width) := rfl
@[simp] theorem encBx_2 {c : Bx} : (encBx c)[2]? = some (I c.room) := rfl
@[simp] theorem encBx_3 {c : Bx} : (encBx c)[3]? = some (I c.climate) := rfl
@[simp] theorem encBx_4 {c : Bx} : (encBx c)[4]? = some (encCts c.cs) := rfl
@[simp] theorem unV_not {b : Bool} : unV .not (.lit (.bool b)) = some (.lit (.bool !b)) := rfl

theorem p66 (c : Ct) : PureOk P0 66 [.agg (encCt c)] (B (!okCt c)) := by
  refine pure_run (F := Tab.F66) rfl rfl [spec67] ?_
  have h67 : ∀ c, (specCfg P0 X [spec67]).ora 67 [.agg (encCt c)] = some (B (okCt c)) := fun c => oraOf_at (by simp) spec67 (by simp) c
  have him : (specCfg P0 X [spec67]).imp 67 = false := rfl
  unfold Tab.F66
  refine W.seq (W.reg (WO.ops (fun ic => rfl) ?_))
  refine W.seq (W.reg ?_)
  refine WO.ops (fun ic => by simp [him, h67]; rfl) (W.ret ⟨.inr rfl, by simp⟩)
def spec66 : Spec P0 := { K := 66, A := Ct, args := fun c => [.agg (encCt c)], res := fun c => B (!okCt c), inj := fun a b h => by simp at h; rw [encCt_inj h], body := Tab.b66, ok := p66 }

/-- slices.IndexFunc at contents, slices.ContainsFunc likewise. -/
theorem p117_66 (l : List Ct) (hl : l.length ≤ 1000) : PureOk P0 117 [encCts l, .clo 66 []] (I (idx (fun r => match r with | [.lit (.int .i64 u), .lit (.int .i64 t)] => !okCt ⟨u, t⟩ | _ => false) (l.map encCt))) := by
  refine pure_run (F := indexTF 2) rfl rfl [spec66] ?_
  refine index_ok (by decide) rfl (by simp; omega) (fun r hr => ?_) (fun s r hr => ?_) (fun r hr => ?_)
  · obtain ⟨c, _, rfl⟩ := List.mem_map.1 hr; rfl
  · obtain ⟨c, _, rfl⟩ := List.mem_map.1 hr; simp
  · obtain ⟨c, _, rfl⟩ := List.mem_map.1 hr
    exact oraOf_at (by simp) spec66 (by simp) c
def specIx66 : Spec P0 := { K := 117, A := { l : List Ct // l.length ≤ 1000 }, args := fun l => [encCts l.1, .clo 66 []], res := fun l => I (idx (fun r => match r with | [.lit (.int .i64 u), .lit (.int .i64 t)] => !okCt ⟨u, t⟩ | _ => false) (l.1.map encCt)), inj := fun a b h => by simp at h; rw [encCts_inj h], body := Tab.b117, ok := fun l => p117_66 l.1 l.2 }
theorem p65 (l : List Ct) (hl : l.length ≤ 1000) : PureOk P0 65 [encCts l, .clo 66 []] (B (l.any fun c => !okCt c)) := by
  refine pure_run (F := containsTF 117) rfl rfl [specIx66] ?_
  have h := contains_ok (C := specCfg P0 X [specIx66]) (n := 117) (l := encCts l) (c := .clo 66 []) rfl (fun s => by simp) (oraOf_at (by simp) specIx66 (by simp) ⟨l, hl⟩)
  rw [idx_any] at h
  have e : (l.any fun c => !okCt c) = (l.map encCt).any (fun r => match r with | [.lit (.int .i64 u), .lit (.int .i64 t)] => !okCt ⟨u, t⟩ | _ => false) := by
    rw [List.any_map]; rfl
  rw [e]
  exact h
def spec65 : Spec P0 := { K := 65, A := { l : List Ct // l.length ≤ 1000 }, args := fun l => [encCts l.1, .clo 66 []], res := fun l => B (l.1.any fun c => !okCt c), inj := fun a b h => by simp at h; rw [encCts_inj h], body := Tab.b65, ok := fun l => p65 l.1 l.2 }

theorem p68 (cs : List Ct) (hlen : cs.length ≤ 1000) (hth : ∀ c ∈ cs, 0 ≤ c.thick ∧ c.thick ≤ 10000) : PureOk P0 68 [encCts cs] (I (thick cs)) := by
  refine pure_run (F := Tab.F68) rfl rfl [] ?_
  unfold Tab.F68
  refine W.seq (W.reg (WO.ops (fun ic => rfl) ?_))
  refine W.seq (W.reg (WO.ops (fun ic => rfl) ?_))
  refine W.seq (W.seq (W.reg (WO.ops (fun ic => by simp [encCts, len_slN]; rfl) ?_)))
  refine W.blk ((thick_loop hlen hth cs [] _ rfl (by simp [encCts]) (by simp) (by simp) (by simp [thick])).mono fun e s h => ?_)
  obtain ⟨rfl, h3⟩ := h
  simp only [blkQ_exit, if_true, thenQ_normal]
  refine W.seq (W.reg (WO.ops (fun ic => by simp [h3]; rfl) (W.ret ⟨.inr rfl, by simp⟩)))
def spec68 : Spec P0 := { K := 68, A := { l : List Ct // l.length ≤ 1000 ∧ ∀ c ∈ l, 0 ≤ c.thick ∧ c.thick ≤ 10000 }, args := fun l => [encCts l.1], res := fun l => I (thick l.1), inj := fun a b h => by simp at h; rw [encCts_inj h], body := Tab.b68, ok := fun l => p68 l.1 l.2.1 l.2.2 }

structure GoodCt (c : Ct) : Prop where
  u1 : 1 ≤ c.unit
  u2 : c.unit ≤ 1073741824
  t1 : 1 ≤ c.thick
  t2 : c.thick ≤ 10000
structure Good1 (b : Bx) : Prop where
  id1 : 1 ≤ b.id
  id2 : b.id ≤ 1073741824
  w1 : 1 ≤ b.width
  w2 : b.width ≤ 10000
  r1 : 1 ≤ b.room
  r2 : b.room ≤ b.width
  c1 : 0 ≤ b.climate
  c2 : b.climate ≤ 7
  cs : ∀ c ∈ b.cs, GoodCt c
  len : b.cs.length ≤ 32
  fit : thick b.cs ≤ b.room
theorem GoodCt.ok {c : Ct} (h : GoodCt c) : okCt c = true := by simp [okCt, inB, h.u1, h.u2, h.t1, h.t2]

theorem p35 (b : Bx) (h : Good1 b) : PureOk P0 35 [.agg (encBx b)] (I 0) := by
  refine pure_run (F := Tab.F35) rfl rfl [spec64, spec65, spec68] ?_
  obtain ⟨C, hC⟩ : ∃ C, C = specCfg P0 X [spec64, spec65, spec68] := ⟨_, rfl⟩
  have h64 : ∀ a b c, C.ora 64 [I a, I b, I c] = some (B (inB a b c)) := fun a b c => by rw [hC]; exact oraOf_at (by simp [spec64, spec65, spec68]) spec64 (by simp) (a, b, c)
  have h65 : C.ora 65 [encCts b.cs, .clo 66 []] = some (B (b.cs.any fun c => !okCt c)) := by rw [hC]; exact oraOf_at (by simp [spec64, spec65, spec68]) spec65 (by simp) ⟨b.cs, by have := h.len; omega⟩
  have h68 : C.ora 68 [encCts b.cs] = some (I (thick b.cs)) := by rw [hC]; exact oraOf_at (by simp [spec64, spec65, spec68]) spec68 (by simp) ⟨b.cs, by have := h.len; omega, fun c hc => ⟨by have := (h.cs c hc).t1; omega, (h.cs c hc).t2⟩⟩
  have i64 : C.imp 64 = false := by rw [hC]; rfl
  have i65 : C.imp 65 = false := by rw [hC]; rfl
  have i68 : C.imp 68 = false := by rw [hC]; rfl
  rw [← hC]
  have hany : (b.cs.any fun c => !okCt c) = false := by rw [List.any_eq_false]; intro c hc; simp [(h.cs c hc).ok]
  rw [hany] at h65
  have a1 : inB b.id 1 1073741824 = true := by simp [inB, h.id1, h.id2]
  have a2 : inB b.width 1 10000 = true := by simp [inB, h.w1, h.w2]
  have a3 : inB b.room 1 b.width = true := by simp [inB, h.r1, h.r2]
  have a4 : inB b.climate 0 7 = true := by simp [inB, h.c1, h.c2]
  unfold Tab.F35
  refine W.seq (W.reg (WO.ops (fun ic => rfl) ?_))
  refine W.seq (W.blk (W.seq (W.reg (WO.ops (fun ic => by simp [i64, i65, h64, h65, a1, a2, a3, a4]; rfl) ?_))))
  refine W.ite false (by simp) ?_
  refine W.seq (W.reg (WO.ops (fun ic => by simp [encCts, len_slN]; rfl) ?_))
  have hl := h.len
  refine W.ite false (by simp; omega) ?_
  refine W.seq (W.dregP rfl (WO.ops (fun ic => by simp [i68, h68]; rfl) ?_))
  have hf := h.fit
  refine W.ite false (by simp; omega) (W.skip ?_)
  simp only [blkQ_normal, thenQ_normal]
  refine W.seq (W.reg (WO.ops (fun ic => rfl) (W.ret ⟨.inr rfl, by simp⟩)))
def spec35 : Spec P0 := { K := 35, A := { b : Bx // Good1 b }, args := fun b => [.agg (encBx b.1)], res := fun _ => I 0, inj := fun _ _ _ => rfl, body := Tab.b35, ok := fun b => p35 b.1 b.2 }
end Go.TI
end
