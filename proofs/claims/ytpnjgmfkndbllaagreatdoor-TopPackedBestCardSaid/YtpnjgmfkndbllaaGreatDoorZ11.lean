/- A part of the proof of TopPackedBest: texts TkC to TkC. -/
import Derived.Test.YtpnjgmfkndbllaaGreatDoorZ09
import Derived.Test.YtpnjgmfkndbllaaGreatDoorZ10
/- A list of boxes is right; where a box and a unit are. -/
section
set_option linter.unusedVariables false
set_option linter.unusedSimpArgs false
namespace Go.TI
open Go Go.Proofs
attribute [local simp] evalOps stepOp wantedT evalOp Opd.val St.put St.ok St.obj upd start args0 binV binI intCmp resultsV resV idxOf loadV partV storeV getCells getRows upd2 cellsOf putAt scal faddrV

/-! ### a map from units -/
def seenEs (us : List Int) : List (Value × V) := us.map fun u => (.int .i64 u, B true)
theorem findK_seen {u : Int} : ∀ {us : List Int} {i : Nat}, u ∉ us → findK (.int .i64 u) (seenEs us) i = some none := by
  intro us
  induction us with
  | nil => intro i _; rfl
  | cons x us ih =>
    intro i h
    simp only [List.mem_cons, not_or] at h
    have : (u == x) = false := by simp [h.1]
    simp only [seenEs, List.map_cons, findK, keyEq, if_true, this]
    exact ih h.2
theorem setK_seen {u : Int} {us : List Int} (h : u ∉ us) : setK (seenEs us) (.int .i64 u) (B true) = some (seenEs (us ++ [u])) := by
  unfold setK
  rw [findK_seen h]
  simp [seenEs]

/-- A right list of boxes. -/
structure GoodL (l : List Bx) : Prop where
  len : l.length ≤ 128
  each : ∀ b ∈ l, Good1 b
  ids : (l.map (·.id)).Pairwise (· < ·)
  units : ((l.flatMap (·.cs)).map (·.unit)).Nodup

def unitsOf (l : List Bx) : List Int := (l.flatMap (·.cs)).map (·.unit)

/-- The temporaries that the inner loop leaves as they are. -/
def Keep (l : List Nat) (st st' : St) : Prop := ∀ i ∈ l, st'.t i = st.t i

theorem L11_0_ok {C : Cfg} {cs : List Ct} (hlen : cs.length ≤ 1000) {gm : Nat} {us0 : List Int} (hnd : (us0 ++ cs.map (·.unit)).Nodup) : ∀ (rest pre : List Ct) (st : St), cs = pre ++ rest → st.fr = 0 → st.t 39 = encCts cs → st.t 40 = I cs.length → st.t 41 = I pre.length → st.t 3 = .map 0 12 gm → st.s 0 12 = some (gm, .map (seenEs (us0 ++ pre.map (·.unit)))) →
    W C Tab.L11_0 st fun e st' => e = .exit 2 ∧ Keep [0, 3, 13, 14, 15] st st' ∧ st'.fr = 0 ∧ st'.s 0 12 = some (gm, .map (seenEs (us0 ++ cs.map (·.unit)))) := by
  intro rest
  induction rest with
  | nil =>
    intro pre st hcs hfr h39 h40 h41 h3 hm
    have hp : pre = cs := by simpa using hcs.symm
    subst hp
    refine W.loop (W.seq (W.reg (WO.ops (fun ic => by simp [h40, h41]; rfl) ?_)))
    refine W.seq (W.ite false (by simp) ?_)
    exact W.exit ⟨rfl, fun i hi => by simp at hi; rcases hi with rfl | rfl | rfl | rfl | rfl <;> simp, by simp [hfr], by simp [hm]⟩
  | cons c rest ih =>
    intro pre st hcs hfr h39 h40 h41 h3 hm
    have hl : pre.length < cs.length := by rw [hcs]; simp
    refine W.loop (W.seq (W.reg (WO.ops (fun ic => by simp [h40, h41]; rfl) ?_)))
    refine W.seq (W.ite true (by simp [hl]) (W.skip ?_))
    have hat : ∀ s, iaddrV s 2 (pre.length : Int) (encCts cs) = some (.vptr (encCt c) 0) := fun s => iaddr_slN (by decide) (by rw [hcs]; simp)
    refine W.seq (W.blk (W.seq (W.reg (WO.ops (fun ic => by simp [h39, h41, hat]; rfl) ?_))))
    have hn : c.unit ∉ us0 ++ pre.map (·.unit) := by
      rw [hcs] at hnd
      simp only [List.map_append, List.map_cons, ← List.append_assoc] at hnd
      rw [List.nodup_append] at hnd
      intro hin
      exact hnd.2.2 _ hin c.unit (by simp) rfl
    refine W.seq (W.seq (W.reg (WO.ops (fun ic => by simp [h3, hfr, mapEs, getMap, hm, keyKind, findK_seen hn, encCt]; rfl) ?_)))
    refine W.ite false (by simp) (W.skip ?_)
    refine W.reg (WO.ops (fun ic => by simp [h3, hfr, getMap, hm, keyKind, setK_seen hn, encCt]; rfl) ?_)
    refine W.reg (WO.ops (fun ic => by simp [h41]; rfl) ?_)
    refine (ih (pre ++ [c]) _ (by simp [hcs]) (by simp [hfr]) (by simp [h39]) (by simp [h40]) ?_ (by simp [h3]) (by simp [hfr])).mono fun e s h => ?_
    · simp
      exact wrap_id (by omega) (by omega)
    · obtain ⟨h1, h2, h3', h4⟩ := h
      refine ⟨h1, fun i hi => ?_, h3', h4⟩
      rw [h2 i hi]
      simp at hi
      rcases hi with rfl | rfl | rfl | rfl | rfl <;> simp


theorem unitsOf_append {a b : List Bx} : unitsOf (a ++ b) = unitsOf a ++ unitsOf b := by simp [unitsOf]
@[simp] theorem encCt_putAt {c : Ct} {a b : V} : putAt [a, b] 0 (encCt c) = encCt c := rfl
@[simp] theorem encBx_putAt {c : Bx} {a1 a2 a3 a4 a5 : V} : putAt [a1, a2, a3, a4, a5] 0 (encBx c) = encBx c := rfl
@[simp] theorem encBx_scal {c : Bx} : (encBx c).all scal = true := rfl
@[simp] theorem encCt_scal {c : Ct} : (encCt c).all scal = true := rfl
@[simp] theorem refs_cts {l : List Ct} : refs viewDepth (encCts l) = false := rfl
@[simp] theorem refs_bxs {l : List Bx} : refs viewDepth (encBxs l) = false := rfl

theorem L11_1_ok {C : Cfg} {l : List Bx} (hg : GoodL l) (i35 : C.imp 35 = false) (h35 : ∀ b, Good1 b → C.ora 35 [.agg (encBx b)] = some (I 0)) {gm : Nat} : ∀ (rest pre : List Bx) (st : St), l = pre ++ rest → st.fr = 0 → st.t 0 = encBxs l → st.t 13 = encBxs l → st.t 14 = I l.length → st.t 15 = I pre.length → st.t 3 = .map 0 12 gm → st.s 0 12 = some (gm, .map (seenEs (unitsOf pre))) →
    W C Tab.L11_1 st fun e st' => e = .exit 0 := by
  intro rest
  induction rest with
  | nil =>
    intro pre st hcs hfr h0 h13 h14 h15 h3 hm
    have hp : pre = l := by simpa using hcs.symm
    subst hp
    refine W.loop (W.seq (W.reg (WO.ops (fun ic => by simp [h14, h15]; rfl) ?_)))
    refine W.seq (W.ite false (by simp) ?_)
    exact W.exit rfl
  | cons b rest ih =>
    intro pre st hcs hfr h0 h13 h14 h15 h3 hm
    have hl : pre.length < l.length := by rw [hcs]; simp
    have hlen := hg.len
    have hb := hg.each b (by rw [hcs]; simp)
    refine W.loop (W.seq (W.reg (WO.ops (fun ic => by simp [h14, h15]; rfl) ?_)))
    refine W.seq (W.ite true (by simp [hl]) (W.skip ?_))
    have hat : ∀ s, iaddrV s 5 (pre.length : Int) (encBxs l) = some (.vptr (encBx b) 0) := fun s => iaddr_slN (by decide) (by rw [hcs]; simp)
    refine W.seq (W.blk (W.seq (W.reg (WO.ops (fun ic => by simp [h13, h15, hat]; rfl) ?_))))
    refine W.seq (W.seq (W.reg (WO.ops (fun ic => by simp [hfr, i35, h35 b hb]; rfl) ?_)))
    refine W.seq (W.reg (WO.ops (fun ic => by simp; rfl) ?_))
    refine W.ite false (by simp) (W.skip ?_)
    have rest_ok : ∀ st1 : St, st1.fr = 0 → st1.t 37 = B false → st1.t 0 = encBxs l → st1.t 13 = encBxs l → st1.t 14 = I l.length → st1.t 15 = I pre.length → st1.t 3 = .map 0 12 gm → st1.t 5 = .ptr 0 5 st.n 0 → st1.s 0 5 = some (st.n, .cells (encBx b)) → st1.s 0 12 = some (gm, .map (seenEs (unitsOf pre))) →
        W C (.ite (.t 37) (.seq (.reg [Tab.o 2 (.mv (Tab.i 5))]) .ret) .skip) st1 (thenQ (fun s => W C (.seq (.reg [Tab.o 38 (.faddr 4 (Tab.t 5)), Tab.o 39 (.load false 1 (Tab.t 38)), Tab.o 40 (.len 1 (Tab.t 39)), Tab.o 41 (.mv (Tab.i 0))]) (.blk 2 Tab.L11_0)) s (blkQ 1 (thenQ (fun s => W C (.reg [Tab.o 53 (.bin .add (Tab.t 15) (Tab.i 1)), Tab.o 15 (.mv (Tab.t 53))]) s (thenQ (fun s => W C Tab.L11_1 s fun e st' => e = .exit 0) fun e st' => e = .exit 0)) (thenQ (fun s => W C Tab.L11_1 s fun e st' => e = .exit 0) fun e st' => e = .exit 0)))) (blkQ 1 (thenQ (fun s => W C (.reg [Tab.o 53 (.bin .add (Tab.t 15) (Tab.i 1)), Tab.o 15 (.mv (Tab.t 53))]) s (thenQ (fun s => W C Tab.L11_1 s fun e st' => e = .exit 0) fun e st' => e = .exit 0)) (thenQ (fun s => W C Tab.L11_1 s fun e st' => e = .exit 0) fun e st' => e = .exit 0)))) := by
      intro st1 hfr h37 h0 h13 h14 h15 h3 h5 hs5 hm
      refine W.ite false (by simp [h37]) (W.skip ?_)
      refine W.seq (W.reg (WO.ops (fun ic => by simp [h5, hs5, encCts, len_slN]; rfl) ?_))
      have hnd : (unitsOf pre ++ b.cs.map (·.unit)).Nodup := by
        have := hg.units
        rw [hcs] at this
        have e : ((pre ++ b :: rest).flatMap (·.cs)).map (·.unit) = unitsOf pre ++ b.cs.map (·.unit) ++ unitsOf rest := by simp [unitsOf]
        rw [e] at this
        exact (List.nodup_append.1 this).1
      have hl2 := hb.len
      refine W.blk ((L11_0_ok (by omega) (us0 := unitsOf pre) hnd b.cs [] _ rfl (by simp [hfr]) (by simp [encCts]) (by simp) (by simp) (by simp; exact h3) (by simp [hm])).mono fun e s h => ?_)
      obtain ⟨rfl, hk, hfr2, hm2⟩ := h
      simp only [blkQ_exit, if_true, blkQ_normal, thenQ_normal]
      have k0 := hk 0 (by simp); have k3 := hk 3 (by simp); have k13 := hk 13 (by simp); have k14 := hk 14 (by simp); have k15 := hk 15 (by simp)
      simp at k0 k3 k13 k14 k15
      refine W.reg (WO.ops (fun ic => by simp [k15, h15]; rfl) ?_)
      refine ih (pre ++ [b]) _ (by simp [hcs]) (by simp [hfr2]) (by simp [k0, h0]) (by simp [k13, h13]) (by simp [k14, h14]) ?_ (by simp [k3, h3]) ?_
      · simp
        exact wrap_id (by omega) (by omega)
      · simp [hm2, unitsOf_append]
        congr 2
        simp [unitsOf]
    rcases List.eq_nil_or_concat pre with hp | ⟨pre', b', hp⟩
    · subst hp
      refine W.seq (W.seq (W.dregP rfl (WO.ops (fun ic => by simp [h15]; rfl) ?_)))
      exact rest_ok _ (by simp [hfr]) (by simp) (by simp [h0]) (by simp [h13]) (by simp [h14]) (by simp [h15]) (by simp [h3]) (by simp [hfr]) (by simp [hfr]) (by simp [hm, hfr])
    · have hlt : b'.id < b.id := by
        have := hg.ids
        rw [hcs, hp] at this
        simp only [List.concat_eq_append, List.map_append, List.map_cons, List.map_nil, List.append_assoc, List.cons_append, List.nil_append] at this
        rw [List.pairwise_append] at this
        have h2 := (List.pairwise_append.1 (List.pairwise_append.2 this)).2.1
        simp only [List.pairwise_cons] at h2
        exact h2.1 b.id (by simp)
      have hplen : pre.length = pre'.length + 1 := by rw [hp]; simp
      have hat2 : ∀ s, iaddrV s 5 ((pre.length : Int) - 1) (encBxs l) = some (.vptr (encBx b') 0) := fun s => by
        rw [show ((pre.length : Int) - 1) = (pre'.length : Int) by omega]
        exact iaddr_slN (by decide) (by rw [hcs, hp]; simp)
      have hw : IntKind.i64.wrap ((pre.length : Int) - 1) = (pre.length : Int) - 1 := wrap_id (by omega) (by omega)
      have hpos : 0 < pre.length := by omega
      have hnle : ¬ (b.id ≤ b'.id) := by omega
      refine W.seq (W.seq (W.dregP rfl (WO.ops (fun ic => by simp [h15, hpos, h0, hw, hat2, hfr, hnle]; rfl) ?_)))
      exact rest_ok _ (by simp [hfr]) (by simp) (by simp [h0]) (by simp [h13]) (by simp [h14]) (by simp [h15]) (by simp [h3]) (by simp [hfr]) (by simp [hfr]) (by simp [hm, hfr])

theorem p11 (l : List Bx) (hg : GoodL l) : PureOk P0 11 [encBxs l] (I 0) := by
  refine pure_run (F := Tab.F11) rfl rfl [spec35] ?_
  obtain ⟨C, hC⟩ : ∃ C, C = specCfg P0 X [spec35] := ⟨_, rfl⟩
  have h35 : ∀ b, Good1 b → C.ora 35 [.agg (encBx b)] = some (I 0) := fun b hb => by rw [hC]; exact oraOf_at (by simp) spec35 (by simp) ⟨b, hb⟩
  have i35 : C.imp 35 = false := by rw [hC]; rfl
  rw [← hC]
  have hlen := hg.len
  unfold Tab.F11
  refine W.seq (W.reg (WO.ops (fun ic => rfl) ?_))
  refine W.seq (W.seq (W.reg (WO.ops (fun ic => by simp [encBxs, len_slN]; rfl) ?_)))
  refine W.ite false (by simp; omega) (W.skip ?_)
  refine W.seq (W.reg (WO.ops (fun ic => rfl) ?_))
  refine W.seq (W.seq (W.reg (WO.ops (fun ic => by simp [encBxs, len_slN]; rfl) ?_)))
  refine W.blk ((L11_1_ok hg i35 h35 (gm := 1) l [] _ rfl (by simp) (by simp [encBxs]) (by simp [encBxs]) (by simp) (by simp) (by simp) (by simp [seenEs, unitsOf])).mono fun e s h => ?_)
  subst h
  simp only [blkQ_exit, if_true, thenQ_normal]
  refine W.seq (W.reg (WO.ops (fun ic => rfl) (W.ret ⟨.inr rfl, by simp⟩)))
def spec11 : Spec P0 := { K := 11, A := { l : List Bx // GoodL l }, args := fun l => [encBxs l.1], res := fun _ => I 0, inj := fun _ _ _ => rfl, body := Tab.b11, ok := fun l => p11 l.1 l.2 }
end Go.TI
end
