/- A part of the proof of TopPackedBest: texts TkS to TkS. -/
import Derived.Test.YtpnjgmfkndbllaaGreatDoorZ24
/- Pieces: their form. -/
section
set_option linter.unusedVariables false
set_option linter.unusedSimpArgs false
set_option maxRecDepth 1000000
namespace Go.TI
open Go Go.Proofs
attribute [local simp] evalOps stepOp wantedT evalOp Opd.val St.put St.ok St.obj upd start args0 binV binI intCmp resultsV resV idxOf loadV partV storeV getCells getRows upd2 cellsOf putAt scal faddrV

def badP (r s : Int) : Bool := decide (s < 1) || decide (s > r)
theorem p63 (s r : Int) : PureOk P0 63 [I s, .vptr [I r] 0] (B (badP r s)) := by
  refine pure_run (F := Tab.F63) rfl rfl [] ?_
  unfold Tab.F63
  refine W.seq (W.reg (WO.ops (fun ic => rfl) ?_))
  refine W.seq (W.reg ?_)
  by_cases h1 : s < 1
  · refine WO.ops (fun ic => by simp [h1]; rfl) (W.ret ⟨.inr rfl, ?_⟩)
    simp [badP, h1]
  · refine WO.ops (fun ic => by simp [h1]; rfl) (W.ret ⟨.inr rfl, ?_⟩)
    simp [badP, h1]
def spec63 : Spec P0 := { K := 63, A := Int × Int, args := fun a => [I a.1, .vptr [I a.2] 0], res := fun a => B (badP a.2 a.1), inj := fun a b h => by simp at h; rw [show a = b from Prod.ext h.1 h.2], body := Tab.b63, ok := fun a => p63 _ _ }

def indexLoop1 : TC := .loop (.seq (.reg [Tab.o 9 (.bin .lss (Tab.t 8) (Tab.t 7))]) (.seq (.ite (Tab.t 9) .skip (.exit 0)) (.seq (.blk 1 (.seq (.reg [Tab.o 10 (.mv (Tab.t 8)), Tab.o 5 (.mv (Tab.t 10))]) (.seq (.reg [Tab.o 11 (.mv (Tab.t 1)), Tab.o 12 (.mv (Tab.t 0)), Tab.o 13 (.mv (Tab.t 5)), Tab.o 14 (.iaddr 1 (Tab.t 12) (Tab.t 13)), Tab.o 15 (.load false 1 (Tab.t 14)), Tab.o 16 (.callv (Tab.t 11) [.t 15])]) (.ite (Tab.t 16) (.seq (.reg [Tab.o 17 (.mv (Tab.t 5)), Tab.o 4 (.mv (Tab.t 17))]) .ret) .skip)))) (.reg [Tab.o 18 (.bin .add (Tab.t 8) (Tab.i 1)), Tab.o 8 (.mv (Tab.t 18))]))))
theorem index_loop1 {C : Cfg} {f : Nat} {caps : List V} {l : List Int} {p : Int → Bool} (hf : C.imp f = false) (hlen : l.length ≤ 100000) (hv : ∀ s, ∀ x : Int, mapO (view s viewDepth) (I x :: caps) = some (I x :: caps)) (hp : ∀ x ∈ l, C.ora f (I x :: caps) = some (B (p x))) :
    ∀ (rest pre : List Int) (st : St), l = pre ++ rest → (∀ x ∈ pre, p x = false) → st.t 0 = encInts l → st.t 1 = .clo f caps → st.t 7 = I l.length → st.t 8 = I pre.length →
      W C indexLoop1 st fun e st' => (e = .exit 0 ∧ (∀ x ∈ l, p x = false)) ∨ (e = .ret ∧ ∃ j, st'.t 4 = I (j : Nat) ∧ l.findIdx? p = some j) := by
  intro rest
  induction rest with
  | nil =>
    intro pre st hcs hpre h0 h1 h7 h8
    have hp0 : pre = l := by simpa using hcs.symm
    subst hp0
    refine W.loop (W.seq (W.reg (WO.ops (fun ic => by simp [h7, h8]; rfl) ?_)))
    refine W.seq (W.ite false (by simp) ?_)
    exact W.exit (.inl ⟨rfl, hpre⟩)
  | cons x rest ih =>
    intro pre st hcs hpre h0 h1 h7 h8
    have hl : pre.length < l.length := by rw [hcs]; simp
    refine W.loop (W.seq (W.reg (WO.ops (fun ic => by simp [h7, h8]; rfl) ?_)))
    refine W.seq (W.ite true (by simp [hl]) (W.skip ?_))
    have hat : ∀ s, iaddrV s 1 (pre.length : Int) (encInts l) = some (.vptr [I x] 0) := fun s => atInts (by rw [hcs]; simp)
    have hvx := hv st.s x
    have hpx := hp x (by rw [hcs]; simp)
    refine W.seq (W.blk (W.seq (W.reg (WO.ops (fun ic => by simp [h8]; rfl) ?_))))
    refine W.seq (W.reg (WO.ops (fun ic => by simp [-mapO_cons, h0, h1, h8, hat, hf, hvx, hpx]; rfl) ?_))
    cases hb : p x with
    | true =>
      refine W.ite true (by simp [hb]) ?_
      refine W.seq (W.reg (WO.ops (fun ic => rfl) (W.ret ?_)))
      refine .inr ⟨rfl, pre.length, by simp [h8], ?_⟩
      rw [hcs, List.findIdx?_append]
      have : List.findIdx? p pre = none := by rw [List.findIdx?_eq_none_iff]; exact hpre
      simp [this, List.findIdx?_cons, hb]
    | false =>
      refine W.ite false (by simp [hb]) (W.skip ?_)
      refine W.reg (WO.ops (fun ic => by simp [h8]; rfl) ?_)
      refine ih (pre ++ [x]) _ (by simp [hcs]) (fun y hy => ?_) (by simp [h0]) (by simp [h1]) (by simp [h7]) ?_
      · simp only [List.mem_append, List.mem_singleton] at hy
        rcases hy with hy | rfl
        · exact hpre y hy
        · exact hb
      · simp
        exact wrap_id (by omega) (by omega)
def clo63 (r : Int) : V := .clo 63 [.vptr [I r] 0]
theorem inj63 {p : List Int → Prop} {a b : { l : List Int // p l } × Int} (h : [encInts a.1.1, clo63 a.2] = [encInts b.1.1, clo63 b.2]) : a = b := by
  simp [clo63] at h
  exact Prod.ext (Subtype.ext (encInts_inj h.1)) h.2
theorem injIs {p : List Int → Prop} {a b : { l : List Int // p l } × Int} (h : [encInts a.1.1, I a.2] = [encInts b.1.1, I b.2]) : a = b := by
  simp at h
  exact Prod.ext (Subtype.ext (encInts_inj h.1)) h.2
theorem p116 (l : List Int) (r : Int) (hl : l.length ≤ 1000) : PureOk P0 116 [encInts l, clo63 r] (I (ixI (badP r) l)) := by
  refine pure_run (F := Tab.F116) rfl rfl [spec63] ?_
  unfold Tab.F116
  refine W.seq (W.reg (WO.ops (fun ic => rfl) ?_))
  refine W.seq (W.seq (W.reg (WO.ops (fun ic => by simp [lenInts]; rfl) ?_)))
  refine W.blk ((index_loop1 (C := specCfg P0 X [spec63]) (f := 63) (caps := [.vptr [I r] 0]) (l := l) (p := badP r) rfl (by omega) (fun s x => rfl) (fun x hx => oraOf_at (by simp) spec63 (by simp) (x, r)) l [] _ rfl (by simp) (by simp) (by simp; rfl) (by simp) (by simp)).mono fun e s h => ?_)
  rcases h with ⟨rfl, hall⟩ | ⟨rfl, j, h4, hj⟩
  · simp only [blkQ_exit, if_true, thenQ_normal]
    refine W.seq (W.reg (WO.ops (fun ic => rfl) (W.ret ⟨.inr rfl, ?_⟩)))
    have : l.findIdx? (badP r) = none := by rw [List.findIdx?_eq_none_iff]; exact hall
    simp [ixI, this]
  · simp only [blkQ_ret, thenQ_ret]
    exact ⟨.inr rfl, by simp [h4, ixI, hj]⟩
def spec116 : Spec P0 := { K := 116, A := { l : List Int // l.length ≤ 1000 } × Int, args := fun a => [encInts a.1.1, clo63 a.2], res := fun a => I (ixI (badP a.2) a.1.1), inj := fun a b h => by rw [inj63 h], body := Tab.b116, ok := fun a => p116 _ _ a.1.2 }
theorem ixI_any {α : Type} {p : α → Bool} {l : List α} : decide (ixI p l ≥ 0) = l.any p := by
  unfold ixI
  cases h : l.findIdx? p with
  | none =>
    rw [List.findIdx?_eq_none_iff] at h
    have : l.any p = false := by rw [List.any_eq_false]; intro x hx; simp [h x hx]
    simp [this]
  | some j =>
    have : l.any p = true := by
      rw [List.findIdx?_eq_some_iff_getElem] at h
      obtain ⟨hj, hp, _⟩ := h
      exact List.any_eq_true.2 ⟨_, List.getElem_mem hj, hp⟩
    simp [this]
theorem p62 (l : List Int) (r : Int) (hl : l.length ≤ 1000) : PureOk P0 62 [encInts l, clo63 r] (B (l.any (badP r))) := by
  refine pure_run (F := containsTF 116) rfl rfl [spec116] ?_
  rw [← ixI_any]
  exact contains_ok (C := specCfg P0 X [spec116]) (n := 116) rfl (fun s => by simp [clo63]) (oraOf_at (by simp) spec116 (by simp) (⟨l, hl⟩, r))
def spec62 : Spec P0 := { K := 62, A := { l : List Int // l.length ≤ 1000 } × Int, args := fun a => [encInts a.1.1, clo63 a.2], res := fun a => B (a.1.1.any (badP a.2)), inj := fun a b h => by rw [inj63 h], body := Tab.b62, ok := fun a => p62 _ _ a.1.2 }

def chk (sz : List Int) (r : Int) : Int := if r < 1 ∨ r > 10000 then 2 else if sz.any (badP r) then 2 else 0
theorem view_clo63 {s : Sto} {fr sl g : Nat} {r : Int} (h : s fr sl = some (g, .cells [I r])) : view s viewDepth (.clo 63 [.ptr fr sl g 0]) = some (clo63 r) := by simp [viewDepth, view, h, clo63]
theorem p33 (sz : List Int) (r : Int) (hl : sz.length ≤ 12) : PureOk P0 33 [encInts sz, I r] (I (chk sz r)) := by
  refine pure_run (F := Tab.F33) rfl rfl [spec62] ?_
  have h62 : (specCfg P0 X [spec62]).ora 62 [encInts sz, clo63 r] = some (B (sz.any (badP r))) := oraOf_at (by simp) spec62 (by simp) (⟨sz, by omega⟩, r)
  have him : (specCfg P0 X [spec62]).imp 62 = false := rfl
  unfold Tab.F33
  refine W.seq (W.reg (WO.ops (fun ic => rfl) ?_))
  by_cases h1 : r < 1
  · refine W.seq (W.blk (W.seq (W.reg (WO.ops (fun ic => by simp [h1]; rfl) ?_))))
    refine W.ite true (by simp) (W.seq (W.reg (WO.ops (fun ic => rfl) (W.ret ?_))))
    exact ⟨.inr rfl, by simp [chk, h1]⟩
  by_cases h2 : r > 10000
  · refine W.seq (W.blk (W.seq (W.reg (WO.ops (fun ic => by simp [h1, h2]; rfl) ?_))))
    refine W.ite true (by simp [h2]) (W.seq (W.reg (WO.ops (fun ic => rfl) (W.ret ?_))))
    exact ⟨.inr rfl, by simp [chk, h2]⟩
  · refine W.seq (W.blk (W.seq (W.reg (WO.ops (fun ic => by simp [h1, h2]; rfl) ?_))))
    refine W.ite false (by simp) ?_
    refine W.seq (W.reg (WO.ops (fun ic => by simp [lenInts]; rfl) ?_))
    refine W.ite false (by simp; omega) ?_
    refine W.seq (W.reg (WO.ops (fun ic => by simp [him, view_clo63, h62]; rfl) ?_))
    cases ha : sz.any (badP r) with
    | true =>
      refine W.ite true (by simp [ha]) (W.seq (W.reg (WO.ops (fun ic => rfl) (W.ret ?_))))
      exact ⟨.inr rfl, by simp [chk, h1, h2, ha]⟩
    | false =>
      refine W.ite false (by simp [ha]) (W.skip ?_)
      simp only [blkQ_normal, thenQ_normal]
      refine W.seq (W.reg (WO.ops (fun ic => rfl) (W.ret ?_)))
      exact ⟨.inr rfl, by simp [chk, h1, h2, ha]⟩
def spec33 : Spec P0 := { K := 33, A := { l : List Int // l.length ≤ 12 } × Int, args := fun a => [encInts a.1.1, I a.2], res := fun a => I (chk a.1.1 a.2), inj := fun a b h => by rw [injIs h], body := Tab.b33, ok := fun a => p33 _ _ a.1.2 }
theorem p114 (sz : List Int) (r : Int) (hl : sz.length ≤ 12) : PureOk P0 114 [encInts sz, I r] (I (if chk sz r = 0 then 0 else 1)) := by
  refine pure_run (F := Tab.F114) rfl rfl [spec33] ?_
  have h33 : (specCfg P0 X [spec33]).ora 33 [encInts sz, I r] = some (I (chk sz r)) := oraOf_at (by simp) spec33 (by simp) (⟨sz, hl⟩, r)
  have him : (specCfg P0 X [spec33]).imp 33 = false := rfl
  unfold Tab.F114
  refine W.seq (W.reg (WO.ops (fun ic => rfl) ?_))
  refine W.seq (W.blk (W.seq (W.reg (WO.ops (fun ic => by simp [him, h33]; rfl) ?_))))
  by_cases h0 : chk sz r = 0
  · refine W.ite false (by simp [h0]) ?_
    refine W.seq (W.reg (WO.ops (fun ic => by simp [lenInts]; rfl) ?_))
    refine W.ite false (by simp; omega) (W.skip ?_)
    simp only [blkQ_normal, thenQ_normal]
    refine W.seq (W.reg (WO.ops (fun ic => rfl) (W.ret ?_)))
    exact ⟨.inr rfl, by simp [h0]⟩
  · refine W.ite true (by simp [h0]) (W.seq (W.reg (WO.ops (fun ic => rfl) (W.ret ?_))))
    exact ⟨.inr rfl, by simp [h0]⟩
def spec114 : Spec P0 := { K := 114, A := { l : List Int // l.length ≤ 12 } × Int, args := fun a => [encInts a.1.1, I a.2], res := fun a => I (if chk a.1.1 a.2 = 0 then 0 else 1), inj := fun a b h => by rw [injIs h], body := Tab.b114, ok := fun a => p114 _ _ a.1.2 }
theorem p6 (sz : List Int) : PureOk P0 6 [encInts sz] (B (decide (sz.length ≤ 60))) := by
  refine pure_run (F := Tab.F6) rfl rfl [] ?_
  unfold Tab.F6
  refine W.seq (W.reg (WO.ops (fun ic => rfl) ?_))
  refine W.seq (W.reg (WO.ops (fun ic => by simp [lenInts]; rfl) (W.ret ⟨.inr rfl, ?_⟩)))
  simp
  omega
end Go.TI
end
