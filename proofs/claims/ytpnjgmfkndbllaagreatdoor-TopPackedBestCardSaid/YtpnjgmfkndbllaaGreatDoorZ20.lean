/- A part of the proof of TopPackedBest: texts TkN to TkN. -/
import Derived.Test.YtpnjgmfkndbllaaGreatDoorZ19
/- A step of the service at the events that put and add. -/
section
set_option linter.unusedVariables false
set_option linter.unusedSimpArgs false
set_option maxRecDepth 1000000
namespace Go.TI
open Go Go.Proofs
attribute [local simp] evalOps stepOp wantedT evalOp Opd.val St.put St.ok St.obj upd start args0 binV binI intCmp resultsV resV idxOf loadV partV storeV getCells getRows upd2 cellsOf putAt scal faddrV

open Classical in
/-- Callees known by what they give, and one that has its own store. -/
noncomputable def specCfgI (l : List (Spec P0)) (K0 : Nat) (vs0 : List V) (q : V × Sto × (Nat → Bool) × Nat) : Cfg := ⟨X.tab, X.imp, oraOf P0 l, X.fre, X.eqT, fun K vs => if K = K0 ∧ vs = vs0 then some q else none⟩
theorem specCfgI_ok (l : List (Spec P0)) {K0 : Nat} {vs0 : List V} {v : V} {s : Sto} {τ : Nat → Bool} {n : Nat} (hb : hasBody P0 K0 = true) (h : IpOk P0 K0 vs0 v s τ n) : CfgOk P0 (specCfgI l K0 vs0 (v, s, τ, n)) :=
  ⟨fun _ _ _ h => oraOf_ok h, X_ok.fre, fun K vs v' s' τ' n' hq => by
    simp only [specCfgI] at hq
    split at hq
    · rename_i e
      obtain ⟨rfl, rfl⟩ := e
      injection hq with hq
      simp only [Prod.mk.injEq] at hq
      obtain ⟨rfl, rfl, rfl, rfl⟩ := hq
      exact ⟨hb, h⟩
    · simp at hq, X_ok.eqT⟩
theorem specCfgI_at (l : List (Spec P0)) {K0 : Nat} {vs0 : List V} {q : V × Sto × (Nat → Bool) × Nat} : (specCfgI l K0 vs0 q).ip K0 vs0 = some q := by simp [specCfgI]

theorem Likes.shift {m d : Nat} : ∀ {L : List (List V)} {l : List Bx}, Likes L l → ∃ L', mapO (mapO (shV m (d + 3))) L = some L' ∧ Likes L' l := by
  intro L
  induction L with
  | nil => intro l h; cases l with | nil => exact ⟨[], rfl, trivial⟩ | cons => exact h.elim
  | cons r L ih =>
    intro l h
    cases l with
    | nil => exact h.elim
    | cons b l =>
      obtain ⟨L', h1, h2⟩ := ih h.2
      obtain ⟨k, mk, rfl, hk⟩ := h.1
      have hc : ∀ cs : List Ct, mapO (mapO (shV m (d + 2))) (cs.map encCt) = some (cs.map encCt) := fun cs => mapO_id fun r hr => mapO_id fun x hx => by
        obtain ⟨c, _, rfl⟩ := List.mem_map.1 hr
        simp only [encCt, List.mem_cons, List.not_mem_nil, or_false] at hx
        rcases hx with rfl | rfl <;> rfl
      have hr : mapO (shV m (d + 3)) [I b.id, I b.width, I b.room, I b.climate, .sl k (b.cs.map encCt) mk] = some [I b.id, I b.width, I b.room, I b.climate, .sl k (b.cs.map encCt) (shM m mk)] := by
        have e1 : ∀ x, shV m (d + 3) (I x) = some (I x) := fun x => rfl
        have e2 : shV m (d + 3) (.sl k (b.cs.map encCt) mk) = some (.sl k (b.cs.map encCt) (shM m mk)) := by
          rw [shV, hc]; rfl
        simp only [mapO, e1, e2, Option.map_some]
      refine ⟨[I b.id, I b.width, I b.room, I b.climate, .sl k (b.cs.map encCt) (shM m mk)] :: L', ?_, ⟨k, shM m mk, rfl, hk⟩, h2⟩
      rw [mapO, hr]
      simp only [h1, Option.map_some]

theorem mergeS_0 {m : Nat} {s s' : Sto} {sl : Nat} (hm : 0 < m) : mergeS m s s' 0 sl = s 0 sl := by
  unfold mergeS
  cases h : s 0 sl with
  | some p => rfl
  | none => simp; omega

/-- The desk's state, once it lies beside the caller's. -/
theorem R54.put {l : List Bx} {v : V} {s' : Sto} (h : R54 l v s') {m : Nat} (hm : 0 < m) : ∃ bv, shV m viewDepth v = some (.agg (uClone bv)) ∧ ∀ s : Sto, s m 75 = none → Own (mergeS m s s') bv l := by
  obtain ⟨_, bv, rfl, h⟩ := h
  have e1 : ∀ j, shV m 7 (.sl j [] .tight) = some (.sl j [] .tight) := fun j => rfl
  have e2 : ∀ x, shV m 7 (I x) = some (I x) := fun x => rfl
  have key : ∀ bv', shV m 7 bv = some bv' → shV m viewDepth (.agg (uClone bv)) = some (.agg (uClone bv')) := fun bv' hb => by
    show shV m (7 + 1) _ = _
    rw [shV]
    simp only [uClone, mapO, e1, e2, hb, Option.map_some]
  rcases h with ⟨rfl, rfl⟩ | ⟨hne, g, L, rfl, hs, hL⟩
  · exact ⟨_, key _ rfl, fun s _ => .inl ⟨rfl, rfl⟩⟩
  · obtain ⟨L', h1, h2⟩ := hL.shift (m := m) (d := 5)
    refine ⟨_, key _ rfl, fun s hs0 => .inr ⟨hne, 0 + m, 75, g + m, L', by omega, rfl, ?_, h2⟩⟩
    unfold mergeS
    have h1' : mapO (mapO (shV m viewDepth)) L = some L' := h1
    rw [Nat.zero_add, hs0]
    simp [hs, shO, h1']
theorem R54.free {l : List Bx} {v : V} {s' : Sto} (h : R54 l v s') {m n sl : Nat} {s : Sto} (hs : s (m + n + 1) sl = none) : mergeS m s s' (m + n + 1) sl = none := by
  unfold mergeS
  rw [hs]
  have : s' (m + n + 1 - m) sl = none := h.1 _ _ (by omega)
  simp [this]

def uZero : List V := [NL, NL, NL, I 0, NL, NL, NL, NL, NL, NL, I 0, NL, NL, NL, NL, I 0]
/-- What a step gives. -/
def stepRes (er : Int) (l' : List Bx) : V := if er = 0 then .tup [.agg (uCells l'), I 0] else .tup [.agg uZero, I er]
theorem stepRes_0 {l' : List Bx} : stepRes 0 l' = .tup [.agg (uCells l'), I 0] := by simp [stepRes]
@[simp] theorem dk_15 {bv : V} {k : Int} {n : V} : putAt (dk bv k n) 15 [I 0] = dk bv k n := rfl
@[simp] theorem dk_take {bv : V} {k : Int} {n : V} : List.take 16 (dk bv k n) = uClone bv := rfl
@[simp] theorem uClone_len {bv : V} : (uClone bv).length = 16 := rfl
@[simp] theorem ev_len {k : Int} {n : V} : (evCells k n).length = 5 := rfl
@[simp] theorem ev_take {k : Int} {n : V} : List.take 5 (evCells k n) = evCells k n := rfl
@[simp] theorem ev_1 {k : Int} {n : V} : (evCells k n)[1]? = some (I 0) := rfl
@[simp] theorem dk_set15 {bv : V} {k : Int} {n : V} : (dk bv k n).set 15 (I 0) = dk bv k n := rfl
theorem dk_built {bv : V} {k : Int} {n : V} : putAt ((putAt [V.sl 0 [] Mark.tight, V.sl 0 [] Mark.tight, V.sl 0 [] Mark.tight, Tab.z 0, V.sl 0 [] Mark.tight, V.sl 0 [] Mark.tight, V.sl 0 [] Mark.tight, V.sl 0 [] Mark.tight, V.sl 0 [] Mark.tight, V.sl 0 [] Mark.tight, Tab.z 0, V.sl 0 [] Mark.tight, V.sl 0 [] Mark.tight, V.sl 0 [] Mark.tight, V.sl 0 [] Mark.tight, Tab.z 0, V.sl 0 [] Mark.tight, Tab.z 0, Tab.z 0, Tab.z 0, V.sl 0 [] Mark.tight, V.sl 0 [] Mark.tight] 0 (uClone bv)).set 16 NL) 17 (evCells k n) = dk bv k n := by
  simp [putAt, uClone, dk, evCells]
theorem uClone_put {bv : V} : putAt [V.sl 0 [] Mark.tight, V.sl 0 [] Mark.tight, V.sl 0 [] Mark.tight, Tab.z 0, V.sl 0 [] Mark.tight, V.sl 0 [] Mark.tight, V.sl 0 [] Mark.tight, V.sl 0 [] Mark.tight, V.sl 0 [] Mark.tight, V.sl 0 [] Mark.tight, Tab.z 0, V.sl 0 [] Mark.tight, V.sl 0 [] Mark.tight, V.sl 0 [] Mark.tight, V.sl 0 [] Mark.tight, Tab.z 0] 0 (uClone bv) = uClone bv := rfl
theorem Own.of_eq {s s2 : Sto} {bv : V} {l : List Bx} (h : ∀ fr sl, 0 < fr → s2 fr sl = s fr sl) (hO : Own s bv l) : Own s2 bv l := by
  rcases hO with h0 | ⟨hne, fr, sl, g, L, hfr, rfl, hs, hL⟩
  · exact .inl h0
  · exact .inr ⟨hne, fr, sl, g, L, hfr, rfl, by rw [h fr sl hfr]; exact hs, hL⟩
theorem Own.of_upd {s : Sto} {bv : V} {l : List Bx} {sl : Nat} {x : Option (Nat × Ob)} (hO : Own s bv l) : Own (upd2 s 0 sl x) bv l := hO.of_eq fun fr sl' h => upd2_ne _ _ (by omega)
theorem uClone_all {bv : V} (h : scal bv = true) : (uClone bv).all scal = true := by
  simp only [uClone, List.all_cons, List.all_nil, h]
  rfl
theorem view_uClone {s : Sto} {bv : V} {l : List Bx} {d : Nat} (h : view s (d + 1) bv = some (encBxs l)) : view s (d + 2) (.agg (uClone bv)) = some (.agg (uCells l)) := by
  have e1 : ∀ j, view s (d + 1) (.sl j [] .tight) = some NL := fun j => rfl
  have e2 : ∀ x, view s (d + 1) (I x) = some (I x) := fun x => rfl
  rw [view]
  simp only [uClone, uCells, mapO, e1, e2, h, Option.map_some]

/-- What the desk's method is asked to do. -/
def DoOk (sp : List (Spec P0)) (F : TF) (l : List Bx) (k : Int) (nm : V) (er : Int) (l' : List Bx) : Prop :=
  ∀ C : Cfg, C.code = X.tab → C.imp = X.imp → C.ora = oraOf P0 sp → ∀ (st : St) (g : Nat) (bv : V), 0 < st.n → (∀ sl, st.s st.n sl = none) → st.s 0 38 = some (g, .cells (dk bv k nm)) → Own st.s bv l →
    W C F.body (enter [.ptr 0 38 g 0] st) fun e s => (e = .normal ∨ e = .ret) ∧ ∃ v, resultsV s F.res = some v ∧ v = I er ∧ (∀ sl, sl ≠ 38 → s.s 0 sl = st.s 0 sl) ∧ (er = 0 → ∃ bx, scal bx = true ∧ s.s 0 38 = some (g, .cells (dk bx k nm)) ∧ ∀ s2 : Sto, (∀ fr sl, 0 < fr → s2 fr sl = s.s fr sl) → view s2 6 bx = some (encBxs l'))

theorem step55 {l : List Bx} (hlen : l.length ≤ 1000) (hcs : ∀ b ∈ l, b.cs.length ≤ 1000) {sp : List (Spec P0)} {K : Nat} {F : TF} (hK : Tab.tab K = some F) (hKa : F.args = 1) (hKi : impOf K = true) {k : Int} {nm : V} {er : Int} {l' : List Bx}
    (hnm : ∀ s, view s viewDepth (.agg (evCells k nm)) = some (.agg (evCells k nm))) (hnr : refs viewDepth (.agg (evCells k nm)) = false) (hns : (evCells k nm).all scal = true) (h101 : oraOf P0 sp 101 [.agg (evCells k nm)] = some (.tup [.agg [I 4, I 0, B false, I (-1), .clo K []], B true]))
    (hdo : DoOk sp F l k nm er l') : PureOk P0 55 [.agg (uCells l), NL, .agg (evCells k nm)] (stepRes er l') := by
  obtain ⟨v, s', τ', n', hip, hR⟩ := clone54 l hlen hcs
  refine pure_of_W X_ok (specCfgI_ok sp Tab.b54 hip) (X_ok.codeOk _ _) (C := specCfgI sp 54 [.agg (uCells l)] (v, s', τ', n')) (F := Tab.F55) rfl rfl ?_
  obtain ⟨C, hC⟩ : ∃ C, C = specCfgI sp 54 [.agg (uCells l)] (v, s', τ', n') := ⟨_, rfl⟩
  have hip54 : C.ip 54 [.agg (uCells l)] = some (v, s', τ', n') := by rw [hC]; exact specCfgI_at sp
  have h101' : C.ora 101 [.agg (evCells k nm)] = some (.tup [.agg [I 4, I 0, B false, I (-1), .clo K []], B true]) := by rw [hC]; exact h101
  have i101 : C.imp 101 = false := by rw [hC]; rfl
  have iK : C.imp K = true := by rw [hC]; exact hKi
  rw [← hC]
  have hn2 : (evCells k nm).length = 5 := rfl
  unfold Tab.F55
  refine W.seq (W.reg (WO.ops (fun ic => by simp; rfl) ?_))
  refine W.seq (W.reg (WO.ops (fun ic => by simp [i101, hnm, hnr, h101']; rfl) ?_))
  refine W.seq (W.blk (W.seq (W.reg (WO.ops (fun ic => by simp; rfl) ?_))))
  refine W.ite false (by simp) ?_
  refine W.seq (W.reg (WO.ops (fun ic => by simp; rfl) ?_))
  refine W.ite false (by simp) ?_
  refine W.seq (W.reg (WO.ops (fun ic => by simp; rfl) ?_))
  refine W.ite false (by simp) (W.skip ?_)
  simp only [blkQ_normal, thenQ_normal]
  obtain ⟨bv, hsh, hown⟩ := hR.put (m := 5) (by decide)
  have hm0 : ∀ (s : Sto) sl, mergeS 5 s s' 0 sl = s 0 sl := fun s sl => mergeS_0 (by decide)
  refine W.seq (W.dreg ⟨0, _, by simp [evalOpsD, dropS, allocs, hip54, hsh, hm0, fillV]; rfl, ?_⟩)
  simp only [thenQ_normal]
  refine W.seq (W.seq (W.reg (WO.step (os := [Tab.o 39 (.faddr 4 (Tab.t 8)), Tab.o 40 (.load false 1 (Tab.t 39)), Tab.o 41 (.mv (Tab.t 10))]) (fun ic => by simp [hm0]; rfl) ?_)))
  refine WO.imp (f := K) (F := F) (vs := [.ptr 0 38 (5 + n') 0]) (by rw [hC]; exact hK) (by simp [hKa]) (fun ic => by simp [iK]) ((hdo C (by rw [hC]; rfl) (by rw [hC]; rfl) (by rw [hC]; rfl) _ (5 + n') bv ?_ ?_ ?_ ?_).mono fun e s h => ?_)
  · simp
  · intro sl
    have hx : ¬ (5 + n' + 1 = 0) := by omega
    simp [hx]
    exact hR.free (by simp [hx])
  · simp
    exact dk_built
  · refine Own.of_upd (sl := 38) (hown _ ?_)
    simp
  · obtain ⟨he, v1, hv1, rfl, hs0, hs38⟩ := h
    refine ⟨he, _, hv1, WO.ops (fun ic => by simp; rfl) ?_⟩
    simp only [thenQ_normal]
    have h5 := hs0 5 (by decide)
    have h6 := hs0 6 (by decide)
    simp [hm0] at h5 h6
    refine W.seq (W.reg (WO.ops (fun ic => by simp; rfl) ?_))
    by_cases h0 : er = 0
    · subst h0
      refine W.ite false (by simp) (W.skip ?_)
      obtain ⟨bx, hbx, h38, hvw⟩ := hs38 rfl
      refine W.seq (W.reg (WO.ops (fun ic => by simp [h5, h38, nilckV]; rfl) ?_))
      have hall := uClone_all hbx
      refine W.seq (W.reg (WO.ops (fun ic => by simp [h5, h6, h38, nilckV, hall, uClone_put]; rfl) (W.ret ⟨.inr rfl, ?_⟩)))
      rw [stepRes_0]
      simp
      rw [show List.take 16 (uClone bx) = uClone bx from rfl]
      refine view_tup2 (view_uClone (d := 5) (hvw _ fun fr sl hfr => ?_))
      have hx : ¬ (fr = 0) := by omega
      simp [hx]
    · refine W.ite true (by simp [h0]) ?_
      refine W.seq (W.reg (WO.ops (fun ic => by simp [h6, fillV]; rfl) (W.ret ?_)))
      refine ⟨.inr rfl, ?_⟩
      simp [stepRes, h0]
      rfl
def noRows : V := NL
theorem p34 {l : List Bx} (hg : GoodL l) {k : Int} {nm : V} (hnm : ∀ s, view s viewDepth (.agg (evCells k nm)) = some (.agg (evCells k nm))) (hnr : refs viewDepth (.agg (evCells k nm)) = false) {er : Int} {l' : List Bx}
    (h55 : PureOk P0 55 [.agg (uCells l), NL, .agg (evCells k nm)] (stepRes er l')) : PureOk P0 34 [.agg (uCells l), NL, .agg (evCells k nm)] (stepRes er l') := by
  obtain ⟨sp, hsp⟩ : ∃ sp, sp = [spec39, specL 53 [NL] (I 0) Tab.b53 (pure_lit e53), specL 55 [.agg (uCells l), NL, .agg (evCells k nm)] (stepRes er l') Tab.b55 h55] := ⟨_, rfl⟩
  have hnd : (sp.map (·.K)).Nodup := by simp [hsp, specL, spec39]
  refine pure_run (F := Tab.F34) rfl rfl sp ?_
  obtain ⟨C, hC⟩ : ∃ C, C = specCfg P0 X sp := ⟨_, rfl⟩
  have h39 : C.ora 39 [.agg (uCells l)] = some (B true) := by rw [hC]; exact oraOf_at hnd spec39 (by simp [hsp]) ⟨l, hg⟩
  have h53 : C.ora 53 [NL] = some (I 0) := by rw [hC]; exact specL_at (b := Tab.b53) (h := pure_lit e53) hnd (by simp [hsp])
  have h55' : C.ora 55 [.agg (uCells l), NL, .agg (evCells k nm)] = some (stepRes er l') := by rw [hC]; exact specL_at (b := Tab.b55) (h := h55) hnd (by simp [hsp])
  have i39 : C.imp 39 = false := by rw [hC]; rfl
  have i53 : C.imp 53 = false := by rw [hC]; rfl
  have i55 : C.imp 55 = false := by rw [hC]; rfl
  rw [← hC]
  obtain ⟨cs, hst, hl16, hall, hvw⟩ : ∃ cs : List V, stepRes er l' = .tup [.agg cs, I er] ∧ cs.length = 16 ∧ cs.all scal = true ∧ ∀ s, view s 7 (.agg cs) = some (.agg cs) := by
    unfold stepRes
    split
    · rename_i h0
      subst h0
      exact ⟨_, rfl, rfl, uCells_scal, fun s => view_agg view_uCells⟩
    · exact ⟨_, rfl, rfl, rfl, fun s => rfl⟩
  have ht : List.take 16 cs = cs := List.take_of_length_le (by omega)
  have hput : ∀ zs : List V, zs.length = 16 → putAt zs 0 cs = cs := fun zs hz => by
    apply List.ext_getElem?
    intro q
    rw [putAt_get _ _ _ _ (by omega)]
    split
    · simp
    · rw [List.getElem?_eq_none (by omega), List.getElem?_eq_none (by omega)]
  rw [hst] at h55' ⊢
  unfold Tab.F34
  refine W.seq (W.reg (WO.ops (fun ic => by simp; rfl) ?_))
  refine W.seq (W.seq (W.reg (WO.ops (fun ic => by simp [i39, h39, i53, h53]; rfl) ?_)))
  refine W.ite false (by simp) (W.skip ?_)
  refine W.seq (W.reg (WO.ops (fun ic => by simp [-putAt, i55, hnm, hnr, h55', hl16, hall, hput]; rfl) (W.ret ⟨.inr rfl, ?_⟩)))
  simp [hl16, ht]
  exact view_tup2 (hvw _)
end Go.TI
end
