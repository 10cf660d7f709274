/- A part of the proof of TopPackedBest: texts TkR to TkR. -/
import Derived.Test.YtpnjgmfkndbllaaGreatDoorZ23
/- Boxes are filled by events: 'filled'. -/
section
set_option linter.unusedVariables false
set_option linter.unusedSimpArgs false
set_option maxRecDepth 1000000
namespace Go.TI
open Go Go.Proofs
attribute [local simp] evalOps stepOp wantedT evalOp Opd.val St.put St.ok St.obj upd start args0 binV binI intCmp resultsV resV idxOf loadV partV storeV getCells getRows upd2 cellsOf putAt scal faddrV

def encInts (l : List Int) : V := slN 1 (l.map fun x => [I x])
theorem view_encInts {s : Sto} {n : Nat} {l : List Int} : view s (n + 2) (encInts l) = some (encInts l) := view_slN fun r hr x hx => by
  obtain ⟨c, _, rfl⟩ := List.mem_map.1 hr
  simp only [List.mem_cons, List.not_mem_nil, or_false] at hx
  subst hx; rfl
@[simp] theorem vInts {s : Sto} {l : List Int} : view s viewDepth (encInts l) = some (encInts l) := view_encInts
@[simp] theorem rInts {l : List Int} : refs viewDepth (encInts l) = false := rfl
theorem encInts_inj {a b : List Int} (h : encInts a = encInts b) : a = b := map_inj (fun _ _ h => by simpa using h) (slN_inj h)
theorem lenInts {s : Sto} {l : List Int} : lenV s 1 (encInts l) = some (l.length : Int) := by simp [encInts, len_slN]
theorem atInts {s : Sto} {l : List Int} {j : Nat} {x : Int} (h : l[j]? = some x) : iaddrV s 1 (j : Int) (encInts l) = some (.vptr [I x] 0) := iaddr_slN (by decide) (by simp [h])
theorem vEv {s : Sto} {k a b c d : Int} : view s viewDepth (.agg [I 0, I 0, I k, .sl 1 [[I a], [I b], [I c], [I d]] .tight, .sl 0 [] .tight]) = some (.agg (evCells k (nums a b c d))) := rfl
theorem rEv {k a b c d : Int} : refs viewDepth (.agg [I 0, I 0, I k, .sl 1 [[I a], [I b], [I c], [I d]] .tight, .sl 0 [] .tight]) = false := rfl
theorem vNil {s : Sto} : view s viewDepth (.sl 0 [] .tight) = some NL := rfl
theorem rNil : refs viewDepth (.sl 0 [] .tight) = false := rfl
theorem put16 {zs cs : List V} (hz : zs.length = 16) (hc : cs.length = 16) : putAt zs 0 cs = cs := by
  apply List.ext_getElem?
  intro q
  rw [putAt_get _ _ _ _ (by omega)]
  split
  · simp
  · rw [List.getElem?_eq_none (by omega), List.getElem?_eq_none (by omega)]
def zero16 : List V := [.sl 0 [] .tight, .sl 0 [] .tight, .sl 0 [] .tight, I 0, .sl 0 [] .tight, .sl 0 [] .tight, .sl 0 [] .tight, .sl 0 [] .tight, .sl 0 [] .tight, .sl 0 [] .tight, I 0, .sl 0 [] .tight, .sl 0 [] .tight, .sl 0 [] .tight, .sl 0 [] .tight, I 0]

theorem L10_1_ok {C : Cfg} {n : Nat} {r : Int} (hn : n ≤ 10) (i34 : C.imp 34 = false) (h34 : ∀ j : Nat, j < n → C.ora 34 [.agg (uCells (mkB r (List.replicate j []))), NL, .agg (evCells 48 (nums ((j : Int) + 1) r r 0))] = some (stepRes 0 (mkB r (List.replicate (j + 1) [])))) {g10 : Nat} :
    ∀ (m j : Nat) (st : St), j + m = n → st.fr = 0 → st.t 1 = I r → st.t 27 = I n → st.t 28 = I j → st.t 10 = .ptr 0 10 g10 0 → st.s 0 10 = some (g10, .cells (uCells (mkB r (List.replicate j [])))) →
    W C Tab.L10_1 st fun e st' => e = .exit 0 ∧ st'.fr = 0 ∧ (∀ i ∈ [0, 1, 3, 8, 10], st'.t i = st.t i) ∧ st'.s 0 10 = some (g10, .cells (uCells (mkB r (List.replicate n [])))) ∧ st'.s 0 8 = st.s 0 8 := by
  intro m
  induction m with
  | zero =>
    intro j st hj hfr h1 h27 h28 h10 hs
    obtain rfl : j = n := by omega
    refine W.loop (W.seq (W.reg (WO.ops (fun ic => by simp [h27, h28]; rfl) ?_)))
    refine W.seq (W.ite false (by simp) ?_)
    exact W.exit ⟨rfl, by simp [hfr], fun i hi => by simp at hi; rcases hi with rfl | rfl | rfl | rfl | rfl <;> simp, by simp [hs], by simp⟩
  | succ m ih =>
    intro j st hj hfr h1 h27 h28 h10 hs
    have hjn : j < n := by omega
    have hw : IntKind.i64.wrap ((j : Int) + 1) = (j : Int) + 1 := wrap_id (by omega) (by omega)
    have hstep := h34 j hjn
    rw [stepRes_0] at hstep
    refine W.loop (W.seq (W.reg (WO.ops (fun ic => by simp [h27, h28]; rfl) ?_)))
    refine W.seq (W.ite true (by simp [hjn]) (W.skip ?_))
    refine W.seq (W.blk (W.seq (W.reg (WO.ops (fun ic => by simp [h28]; rfl) ?_))))
    have hput : ∀ (zs : List V) (l : List Bx), zs.length = 16 → putAt zs 0 (uCells l) = uCells l := fun zs l hz => put16 hz rfl
    refine W.seq (W.reg (WO.ops (fun ic => by simp [hfr, h1, h10, hs, hw, i34, hstep, fillR, fillV, vEv, rEv, vNil, rNil, hput]; rfl) ?_))
    refine W.seq (W.reg (WO.ops (fun ic => by simp; rfl) ?_))
    refine W.ite true (by simp) (W.reg (WO.ops (fun ic => by simp [hfr, h10, hs, hput]; rfl) ?_))
    simp only [blkQ_normal, thenQ_normal]
    refine W.reg (WO.ops (fun ic => by simp [h28, hw]; rfl) ?_)
    simp only [thenQ_normal]
    refine (ih (j + 1) _ (by omega) (by simp [hfr]) (by simp [h1]) (by simp [h27]) (by simp) (by simp [h10]) (by simp [hfr]; exact hput _ _ rfl)).mono fun e s h => ⟨h.1, h.2.1, fun i hi => ?_, h.2.2.2.1, ?_⟩
    · rw [h.2.2.1 i hi]
      simp at hi
      rcases hi with rfl | rfl | rfl | rfl | rfl <;> simp
    · rw [h.2.2.2.2]
      simp [hfr]

theorem L10_0_ok {C : Cfg} (A : FillArg) (i34 : C.imp 34 = false) (h34 : ∀ i : Nat, i < A.sz.length → C.ora 34 [.agg (uCells (mkB A.r (A.st i))), NL, .agg (evCells 49 (nums ((A.a i : Int) + 1) 0 ((i : Int) + 1) (A.s i)))] = some (match fillOne A.r i (A.s i) (A.a i) (A.st i) with | some css' => stepRes 0 (mkB A.r css') | none => stepRes (erOf (A.st i) (A.a i)) [])) {g10 : Nat} :
    ∀ (m i : Nat) (st : St), i + m = A.sz.length → st.fr = 0 → st.t 3 = encInts (A.at'.map fun a : Nat => (a : Int)) → st.t 46 = encInts A.sz → st.t 47 = I A.sz.length → st.t 48 = I i → st.t 15 = I (A.cnt i) → st.t 10 = .ptr 0 10 g10 0 → st.s 0 10 = some (g10, .cells (uCells (mkB A.r (A.st i)))) →
    W C Tab.L10_0 st fun e st' => e = .exit 2 ∧ st'.fr = 0 ∧ (∀ i ∈ [8, 10], st'.t i = st.t i) ∧ st'.t 15 = I (A.cnt A.sz.length) ∧ st'.s 0 10 = some (g10, .cells (uCells (mkB A.r (A.st A.sz.length)))) ∧ st'.s 0 8 = st.s 0 8 := by
  have hl10 := A.l10
  intro m
  induction m with
  | zero =>
    intro i st hj hfr h3 h46 h47 h48 h15 h10 hs
    obtain rfl : i = A.sz.length := by omega
    refine W.loop (W.seq (W.reg (WO.ops (fun ic => by simp [h47, h48]; rfl) ?_)))
    refine W.seq (W.ite false (by simp) ?_)
    exact W.exit ⟨rfl, by simp [hfr], fun i hi => by simp at hi; rcases hi with rfl | rfl <;> simp, by simp [h15], by simp [hs], by simp⟩
  | succ m ih =>
    intro i st hj hfr h3 h46 h47 h48 h15 h10 hs
    have hin : i < A.sz.length := by omega
    have hcnt : A.cnt i ≤ i := by
      have : ∀ i, A.cnt i ≤ i := fun i => by
        induction i with
        | zero => simp [FillArg.cnt, fillCnt]
        | succ i ih => simp only [FillArg.cnt, fillCnt] at ih ⊢; split <;> omega
      exact this i
    have hw : IntKind.i64.wrap ((i : Int) + 1) = (i : Int) + 1 := wrap_id (by omega) (by omega)
    have hwa : IntKind.i64.wrap ((A.a i : Int) + 1) = (A.a i : Int) + 1 := wrap_id (by have := A.a_ok hin; omega) (by have := A.a_ok hin; omega)
    have hwc : IntKind.i64.wrap ((A.cnt i : Int) + 1) = (A.cnt i : Int) + 1 := wrap_id (by omega) (by omega)
    have hstep := h34 i hin
    have at0 : ∀ s, iaddrV s 1 (i : Int) (encInts A.sz) = some (.vptr [I (A.s i)] 0) := fun s => atInts (A.s_at hin)
    have at1 : ∀ s, iaddrV s 1 (i : Int) (encInts (A.at'.map fun a : Nat => (a : Int))) = some (.vptr [I (A.a i)] 0) := fun s => atInts (by rw [List.getElem?_map, A.a_at hin]; rfl)
    have hlen3 : ∀ s, lenV s 1 (encInts (A.at'.map fun a : Nat => (a : Int))) = some (A.sz.length : Int) := fun s => by rw [lenInts]; simp [A.atl]
    have hput : ∀ (zs : List V) (l : List Bx), zs.length = 16 → putAt zs 0 (uCells l) = uCells l := fun zs l hz => put16 hz rfl
    refine W.loop (W.seq (W.reg (WO.ops (fun ic => by simp [h47, h48]; rfl) ?_)))
    refine W.seq (W.ite true (by simp [hin]) (W.skip ?_))
    refine W.seq (W.blk (W.seq (W.reg (WO.ops (fun ic => by simp [h46, h48, at0]; rfl) ?_))))
    refine W.seq (W.seq (W.reg (WO.ops (fun ic => by simp [h3, hlen3]; rfl) ?_)))
    refine W.ite false (by simp; omega) (W.skip ?_)
    cases hf : fillOne A.r i (A.s i) (A.a i) (A.st i) with
    | some css' =>
      rw [hf] at hstep
      simp only [stepRes_0] at hstep
      have hst : A.st (i + 1) = css' := by
        have : A.st (i + 1) = (fillOne A.r i (A.s i) (A.a i) (A.st i)).getD (A.st i) := rfl
        rw [this, hf]; rfl
      have hct : A.cnt (i + 1) = A.cnt i + 1 := by
        have : A.cnt (i + 1) = A.cnt i + if (fillOne A.r i (A.s i) (A.a i) (A.st i)).isSome then 1 else 0 := rfl
        rw [this, hf]; rfl
      refine W.seq (W.dreg ⟨0, _, by simp [evalOpsD, dropS, allocs, hfr, h3, h10, hs, at1, hw, hwa, i34, hstep, fillR, fillV, vEv, rEv, vNil, rNil, hput]; rfl, ?_⟩)
      refine W.seq (W.reg (WO.ops (fun ic => by simp; rfl) ?_))
      refine W.ite true (by simp) (W.seq (W.reg (WO.ops (fun ic => by simp [hfr, h10, hs, hput]; rfl) ?_)))
      refine W.reg (WO.ops (fun ic => by simp [h15, hwc]; rfl) ?_)
      simp only [blkQ_normal, thenQ_normal]
      refine W.reg (WO.ops (fun ic => by simp [h48, hw]; rfl) ?_)
      simp only [thenQ_normal]
      refine (ih (i + 1) _ (by omega) (by simp [hfr]) (by simp [h3]) (by simp [h46]) (by simp [h47]) (by simp) (by simp [hct]) (by simp [h10]) (by simp [hfr, hst]; exact hput _ _ rfl)).mono fun e s h => ⟨h.1, h.2.1, fun i hi => ?_, h.2.2.2.1, h.2.2.2.2.1, ?_⟩
      · rw [h.2.2.1 i hi]
        simp at hi
        rcases hi with rfl | rfl <;> simp
      · rw [h.2.2.2.2.2]
        simp [hfr]
    | none =>
      rw [hf] at hstep
      have he0 : erOf (A.st i) (A.a i) ≠ 0 := by unfold erOf; split <;> decide
      simp only [stepRes, he0, if_false] at hstep
      have hz1 : uZero.length = 16 := rfl
      have hz2 : uZero.all scal = true := rfl
      have hst : A.st (i + 1) = A.st i := by
        have : A.st (i + 1) = (fillOne A.r i (A.s i) (A.a i) (A.st i)).getD (A.st i) := rfl
        rw [this, hf]; rfl
      have hct : A.cnt (i + 1) = A.cnt i := by
        have : A.cnt (i + 1) = A.cnt i + if (fillOne A.r i (A.s i) (A.a i) (A.st i)).isSome then 1 else 0 := rfl
        rw [this, hf]; rfl
      refine W.seq (W.dreg ⟨0, _, by simp [evalOpsD, dropS, allocs, hfr, h3, h10, hs, at1, hw, hwa, i34, hstep, fillR, fillV, vEv, rEv, vNil, rNil, hz1, hz2]; rfl, ?_⟩)
      refine W.seq (W.reg (WO.ops (fun ic => by simp; rfl) ?_))
      refine W.ite false (by simp [he0]) (W.skip ?_)
      simp only [blkQ_normal, thenQ_normal]
      refine W.reg (WO.ops (fun ic => by simp [h48, hw]; rfl) ?_)
      simp only [thenQ_normal]
      refine (ih (i + 1) _ (by omega) (by simp [hfr]) (by simp [h3]) (by simp [h46]) (by simp [h47]) (by simp) (by simp [h15, hct]) (by simp [h10]) (by simp [hfr, hs, hst])).mono fun e s h => ⟨h.1, h.2.1, fun i hi => ?_, h.2.2.2.1, h.2.2.2.2.1, ?_⟩
      · rw [h.2.2.1 i hi]
        simp at hi
        rcases hi with rfl | rfl <;> simp
      · rw [h.2.2.2.2.2]
        simp [hfr]

theorem p10 (hI : InsOk) (A : FillArg) : PureOk P0 10 [encInts A.sz, I A.r, I A.n, encInts (A.at'.map fun a : Nat => (a : Int))] (.tup [.agg (uCells (mkB A.r (A.st A.sz.length))), I (A.cnt A.sz.length)]) := by
  obtain ⟨sp, hsp⟩ : ∃ sp, sp = [specL 26 _ _ Tab.b26 (pure_lit e26), spec34 hI A] := ⟨_, rfl⟩
  have hnd : (sp.map (·.K)).Nodup := by simp [hsp, specL, spec34]
  refine pure_run (F := Tab.F10) rfl rfl sp ?_
  obtain ⟨C, hC⟩ : ∃ C, C = specCfg P0 X sp := ⟨_, rfl⟩
  have h26 : C.ora 26 [I 1, I 0] = some (.tup [.agg (uCells []), I 0]) := by rw [hC]; exact specL_at (b := Tab.b26) (h := pure_lit e26) hnd (by simp [hsp])
  have h34a : ∀ j : Nat, j < A.n → C.ora 34 [.agg (uCells (mkB A.r (List.replicate j []))), NL, .agg (evCells 48 (nums ((j : Int) + 1) A.r A.r 0))] = some (stepRes 0 (mkB A.r (List.replicate (j + 1) []))) := fun j hj => by
    rw [hC]; exact oraOf_at hnd (spec34 hI A) (by simp [hsp]) (.inl ⟨j, hj⟩)
  have h34b : ∀ i : Nat, i < A.sz.length → C.ora 34 [.agg (uCells (mkB A.r (A.st i))), NL, .agg (evCells 49 (nums ((A.a i : Int) + 1) 0 ((i : Int) + 1) (A.s i)))] = some (match fillOne A.r i (A.s i) (A.a i) (A.st i) with | some css' => stepRes 0 (mkB A.r css') | none => stepRes (erOf (A.st i) (A.a i)) []) := fun i hi => by
    rw [hC]; exact oraOf_at hnd (spec34 hI A) (by simp [hsp]) (.inr ⟨i, hi⟩)
  have i26 : C.imp 26 = false := by rw [hC]; rfl
  have i34 : C.imp 34 = false := by rw [hC]; rfl
  rw [← hC]
  have hput : ∀ (zs : List V) (l : List Bx), zs.length = 16 → putAt zs 0 (uCells l) = uCells l := fun zs l hz => put16 hz rfl
  unfold Tab.F10
  refine W.seq (W.reg (WO.ops (fun ic => by simp; rfl) ?_))
  refine W.seq (W.reg (WO.ops (fun ic => by simp [i26, h26, hput]; rfl) ?_))
  refine W.seq (W.seq (W.reg (WO.ops (fun ic => by simp; rfl) ?_)))
  refine W.ite false (by simp) (W.skip ?_)
  refine W.seq (W.seq (W.reg (WO.ops (fun ic => by simp; rfl) ?_)))
  refine W.blk ((L10_1_ok (n := A.n) (r := A.r) A.n10 i34 h34a (g10 := 2) A.n 0 _ (by omega) (by simp) (by simp) (by simp) (by simp) (by simp) (by simp; rfl)).mono fun e s h => ?_)
  obtain ⟨rfl, hfr, ht, hs10, hs8⟩ := h
  have t0 := ht 0 (by simp); have t3 := ht 3 (by simp); have t8 := ht 8 (by simp); have t10 := ht 10 (by simp)
  simp at t0 t3 t8 t10 hs8
  simp only [blkQ_exit, if_true, thenQ_normal]
  refine W.seq (W.reg (WO.ops (fun ic => rfl) ?_))
  refine W.seq (W.seq (W.reg (WO.ops (fun ic => by simp [t0, lenInts]; rfl) ?_)))
  refine W.blk ((L10_0_ok A i34 h34b (g10 := 2) A.sz.length 0 _ (by omega) (by simp [hfr]) (by simp [t3]) (by simp) (by simp) (by simp) (by simp; rfl) (by simp [t10]) (by simp [hs10]; rfl)).mono fun e s2 h => ?_)
  obtain ⟨rfl, hfr2, ht2, t15, hs10', hs8'⟩ := h
  have t8' := ht2 8 (by simp); have t10' := ht2 10 (by simp)
  simp [t8, t10] at t8' t10'
  simp [hs8] at hs8'
  simp only [blkQ_exit, if_true, thenQ_normal]
  refine W.seq (W.reg (WO.ops (fun ic => by simp [t8', t10', t15, hs10', hs8', hput]; rfl) (W.ret ⟨.inr rfl, ?_⟩)))
  simp [hput, t8']
  exact view_tup2 (view_agg view_uCells)

/-- 'filled', in its caller's hands. -/
theorem p10' (hI : InsOk) (A : FillArg) : PureOk P0 10 [encInts A.sz, I A.r, I A.n, encInts (A.at'.map fun a : Nat => (a : Int))] (.tup [.agg (uCells (mkB A.r (A.st A.sz.length))), I (A.cnt A.sz.length)]) := p10 hI A
end Go.TI
end
