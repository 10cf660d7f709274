/- A part of the proof of TopPackedBest: texts TkD to TkD. -/
import Derived.Test.YtpnjgmfkndbllaaGreatDoorZ11
/- Where a box and a unit are. -/
section
set_option linter.unusedVariables false
set_option linter.unusedSimpArgs false
namespace Go.TI
open Go Go.Proofs
attribute [local simp] evalOps stepOp wantedT evalOp Opd.val St.put St.ok St.obj upd start args0 binV binI intCmp resultsV resV idxOf loadV partV storeV getCells getRows upd2 cellsOf putAt scal faddrV

/-! ### the two tests -/
theorem p365 (b : Bx) (x : Int) : PureOk P0 365 [.agg (encBx b), .vptr [I x] 0] (B (decide (b.id = x))) := by
  refine pure_run (F := Tab.F365) rfl rfl [] ?_
  unfold Tab.F365
  refine W.seq (W.reg (WO.ops (fun ic => rfl) ?_))
  refine W.seq (W.reg (WO.ops (fun ic => by simp; rfl) (W.ret ⟨.inr rfl, ?_⟩)))
  simp
  rfl
def spec365 : Spec P0 := { K := 365, A := Bx × Int, args := fun a => [.agg (encBx a.1), .vptr [I a.2] 0], res := fun a => B (decide (a.1.id = a.2)), inj := fun a b h => by simp at h; rw [show a = b from Prod.ext (encBx_inj h.1) h.2], body := Tab.b365, ok := fun a => p365 _ _ }
theorem p366 (b : Ct) (x : Int) : PureOk P0 366 [.agg (encCt b), .vptr [I x] 0] (B (decide (b.unit = x))) := by
  refine pure_run (F := Tab.F366) rfl rfl [] ?_
  unfold Tab.F366
  refine W.seq (W.reg (WO.ops (fun ic => rfl) ?_))
  refine W.seq (W.reg (WO.ops (fun ic => by simp; rfl) (W.ret ⟨.inr rfl, ?_⟩)))
  simp
  rfl
def spec366 : Spec P0 := { K := 366, A := Ct × Int, args := fun a => [.agg (encCt a.1), .vptr [I a.2] 0], res := fun a => B (decide (a.1.unit = a.2)), inj := fun a b h => by simp at h; rw [show a = b from Prod.ext (encCt_inj h.1) h.2], body := Tab.b366, ok := fun a => p366 _ _ }

/-- The index of the first that fits, as a number. -/
def ixI {α : Type} (p : α → Bool) (l : List α) : Int := match l.findIdx? p with | some j => (j : Int) | none => -1
theorem idx_map {α : Type} {f : α → List V} {q : List V → Bool} {p : α → Bool} {l : List α} (h : ∀ x, q (f x) = p x) : idx q (l.map f) = ixI p l := by
  have : q ∘ f = p := funext h
  unfold idx ixI
  rw [List.findIdx?_map, this]
  cases l.findIdx? p <;> rfl

def isId (x : Int) (r : List V) : Bool := match r with | .lit (.int .i64 u) :: _ => decide (u = x) | _ => false
theorem p79 (l : List Bx) (x : Int) (hl : l.length ≤ 1000) : PureOk P0 79 [encBxs l, .clo 365 [.vptr [I x] 0]] (I (ixI (fun b => decide (b.id = x)) l)) := by
  refine pure_run (F := indexTF 5) rfl rfl [spec365] ?_
  rw [← idx_map (f := encBx) (q := isId x) (p := fun b => decide (b.id = x)) (fun b => rfl)]
  refine index_ok (by decide) rfl (by simp; omega) (fun r hr => ?_) (fun s r hr => ?_) (fun r hr => ?_)
  · obtain ⟨c, _, rfl⟩ := List.mem_map.1 hr; rfl
  · obtain ⟨c, _, rfl⟩ := List.mem_map.1 hr; simp
  · obtain ⟨c, _, rfl⟩ := List.mem_map.1 hr
    exact oraOf_at (by simp) spec365 (by simp) (c, x)
def spec79 : Spec P0 := { K := 79, A := { l : List Bx // l.length ≤ 1000 } × Int, args := fun a => [encBxs a.1.1, .clo 365 [.vptr [I a.2] 0]], res := fun a => I (ixI (fun b => decide (b.id = a.2)) a.1.1), inj := fun a b h => by simp at h; rw [show a = b from Prod.ext (Subtype.ext (encBxs_inj h.1)) h.2], body := Tab.b79, ok := fun a => p79 _ _ a.1.2 }
theorem p117_366 (l : List Ct) (x : Int) (hl : l.length ≤ 1000) : PureOk P0 117 [encCts l, .clo 366 [.vptr [I x] 0]] (I (ixI (fun b => decide (b.unit = x)) l)) := by
  refine pure_run (F := indexTF 2) rfl rfl [spec366] ?_
  rw [← idx_map (f := encCt) (q := isId x) (p := fun b => decide (b.unit = x)) (fun b => rfl)]
  refine index_ok (by decide) rfl (by simp; omega) (fun r hr => ?_) (fun s r hr => ?_) (fun r hr => ?_)
  · obtain ⟨c, _, rfl⟩ := List.mem_map.1 hr; rfl
  · obtain ⟨c, _, rfl⟩ := List.mem_map.1 hr; simp
  · obtain ⟨c, _, rfl⟩ := List.mem_map.1 hr
    exact oraOf_at (by simp) spec366 (by simp) (c, x)
def specIx366 : Spec P0 := { K := 117, A := { l : List Ct // l.length ≤ 1000 } × Int, args := fun a => [encCts a.1.1, .clo 366 [.vptr [I a.2] 0]], res := fun a => I (ixI (fun b => decide (b.unit = a.2)) a.1.1), inj := fun a b h => by simp at h; rw [show a = b from Prod.ext (Subtype.ext (encCts_inj h.1)) h.2], body := Tab.b117, ok := fun a => p117_366 _ _ a.1.2 }

theorem view_cloP {s : Sto} {f fr sl g : Nat} {x : Int} (h : s fr sl = some (g, .cells [I x])) : view s viewDepth (.clo f [.ptr fr sl g 0]) = some (.clo f [.vptr [I x] 0]) := by
  simp [viewDepth, view, h]

theorem p320 (l : List Bx) (x : Int) (hl : l.length ≤ 1000) : PureOk P0 320 [encBxs l, I x] (I (ixI (fun b => decide (b.id = x)) l)) := by
  refine pure_run (F := Tab.F320) rfl rfl [spec79] ?_
  have h79 : (specCfg P0 X [spec79]).ora 79 [encBxs l, .clo 365 [.vptr [I x] 0]] = some (I (ixI (fun b => decide (b.id = x)) l)) := oraOf_at (by simp) spec79 (by simp) (⟨l, hl⟩, x)
  have him : (specCfg P0 X [spec79]).imp 79 = false := rfl
  unfold Tab.F320
  refine W.seq (W.reg (WO.ops (fun ic => rfl) ?_))
  refine W.seq (W.reg (WO.ops (fun ic => by simp [him, view_cloP, h79]; rfl) (W.ret ⟨.inr rfl, ?_⟩)))
  simp
def spec320 : Spec P0 := { K := 320, A := { l : List Bx // l.length ≤ 1000 } × Int, args := fun a => [encBxs a.1.1, I a.2], res := fun a => I (ixI (fun b => decide (b.id = a.2)) a.1.1), inj := fun a b h => by simp at h; rw [show a = b from Prod.ext (Subtype.ext (encBxs_inj h.1)) h.2], body := Tab.b320, ok := fun a => p320 _ _ a.1.2 }

/-! ### where -/
/-- The box in which a unit is, and its place there. -/
def whereI (u : Int) : List Bx → Nat → Int × Int
  | [], _ => (-1, -1)
  | b :: l, i => match b.cs.findIdx? (fun c => decide (c.unit = u)) with | some k => ((i : Int), (k : Int)) | none => whereI u l (i + 1)

theorem L321_0_ok {C : Cfg} {l : List Bx} {u : Int} (hlen : l.length ≤ 1000) (i117 : C.imp 117 = false) (h117 : ∀ b ∈ l, C.ora 117 [encCts b.cs, .clo 366 [.vptr [I u] 0]] = some (I (ixI (fun c => decide (c.unit = u)) b.cs))) {g3 : Nat} : ∀ (rest pre : List Bx) (st : St), l = pre ++ rest → st.fr = 0 → st.t 9 = encBxs l → st.t 10 = I l.length → st.t 11 = I pre.length → st.t 3 = .ptr 0 3 g3 0 → st.s 0 3 = some (g3, .cells [I u]) →
    W C Tab.L321_0 st fun e st' => (e = .exit 0 ∧ whereI u rest pre.length = (-1, -1)) ∨ (e = .ret ∧ st'.t 4 = I (whereI u rest pre.length).1 ∧ st'.t 5 = I (whereI u rest pre.length).2) := by
  intro rest
  induction rest with
  | nil =>
    intro pre st hcs hfr h9 h10 h11 h3 hs
    have hp : pre = l := by simpa using hcs.symm
    subst hp
    refine W.loop (W.seq (W.reg (WO.ops (fun ic => by simp [h10, h11]; rfl) ?_)))
    refine W.seq (W.ite false (by simp) ?_)
    exact W.exit (.inl ⟨rfl, rfl⟩)
  | cons b rest ih =>
    intro pre st hcs hfr h9 h10 h11 h3 hs
    have hl : pre.length < l.length := by rw [hcs]; simp
    refine W.loop (W.seq (W.reg (WO.ops (fun ic => by simp [h10, h11]; rfl) ?_)))
    refine W.seq (W.ite true (by simp [hl]) (W.skip ?_))
    have hat : ∀ s, iaddrV s 5 (pre.length : Int) (encBxs l) = some (.vptr (encBx b) 0) := fun s => iaddr_slN (by decide) (by rw [hcs]; simp)
    have hb := h117 b (by rw [hcs]; simp)
    refine W.seq (W.blk (W.seq (W.reg (WO.ops (fun ic => by simp [h9, h11, hat]; rfl) ?_))))
    refine W.seq (W.reg (WO.ops (fun ic => by simp [hfr, h3, hs, i117, view_cloP, hb]; rfl) ?_))
    refine W.seq (W.reg (WO.ops (fun ic => by simp; rfl) ?_))
    cases hf : b.cs.findIdx? (fun c => decide (c.unit = u)) with
    | some k =>
      refine W.ite true (by simp [ixI, hf]) ?_
      refine W.seq (W.reg (WO.ops (fun ic => by simp; rfl) (W.ret ?_)))
      refine .inr ⟨rfl, ?_, ?_⟩
      · simp [h11, whereI, hf]
      · simp [whereI, hf, ixI]
    | none =>
      refine W.ite false (by simp [ixI, hf]) (W.skip ?_)
      refine W.reg (WO.ops (fun ic => by simp [h11]; rfl) ?_)
      have := ih (pre ++ [b])
      refine (ih (pre ++ [b]) _ (by simp [hcs]) (by simp [hfr]) (by simp [h9]) (by simp [h10]) ?_ (by simp [h3]) (by simp [hfr, hs])).mono fun e s h => ?_
      · simp
        exact wrap_id (by omega) (by omega)
      · simpa [whereI, hf] using h

theorem p321 (l : List Bx) (u : Int) (hl : l.length ≤ 1000) (hc : ∀ b ∈ l, b.cs.length ≤ 1000) : PureOk P0 321 [encBxs l, I u] (.tup [I (whereI u l 0).1, I (whereI u l 0).2]) := by
  refine pure_run (F := Tab.F321) rfl rfl [specIx366] ?_
  have h117 : ∀ b ∈ l, (specCfg P0 X [specIx366]).ora 117 [encCts b.cs, .clo 366 [.vptr [I u] 0]] = some (I (ixI (fun c => decide (c.unit = u)) b.cs)) := fun b hb => oraOf_at (by simp) specIx366 (by simp) (⟨b.cs, hc b hb⟩, u)
  have him : (specCfg P0 X [specIx366]).imp 117 = false := rfl
  unfold Tab.F321
  refine W.seq (W.reg (WO.ops (fun ic => rfl) ?_))
  refine W.seq (W.seq (W.reg (WO.ops (fun ic => by simp [encBxs, len_slN]; rfl) ?_)))
  refine W.blk ((L321_0_ok hl him h117 (g3 := 1) l [] _ rfl (by simp) (by simp [encBxs]) (by simp) (by simp) (by simp) (by simp)).mono fun e s h => ?_)
  rcases h with ⟨rfl, hw⟩ | ⟨rfl, h4, h5⟩
  · simp only [blkQ_exit, if_true, thenQ_normal]
    refine W.seq (W.reg (WO.ops (fun ic => by simp; rfl) (W.ret ⟨.inr rfl, ?_⟩)))
    simp at hw
    simp [hw, viewDepth, view]
  · simp only [blkQ_ret, thenQ_ret]
    simp at h4 h5
    exact ⟨.inr rfl, by simp [h4, h5, viewDepth, view]⟩
def spec321 : Spec P0 := { K := 321, A := { l : List Bx // l.length ≤ 1000 ∧ ∀ b ∈ l, b.cs.length ≤ 1000 } × Int, args := fun a => [encBxs a.1.1, I a.2], res := fun a => .tup [I (whereI a.2 a.1.1 0).1, I (whereI a.2 a.1.1 0).2], inj := fun a b h => by simp at h; rw [show a = b from Prod.ext (Subtype.ext (encBxs_inj h.1)) h.2], body := Tab.b321, ok := fun a => p321 _ _ a.1.2.1 a.1.2.2 }
end Go.TI
end
