/- A part of the proof of TopPackedBest: texts TkEx4 to TkEx4. -/
import Derived.Test.YtpnjgmfkndbllaaGreatDoorZ41
/- pack.Exact: the search, by induction. -/
section
set_option linter.unusedVariables false
set_option linter.unusedSimpArgs false
set_option maxRecDepth 1000000
namespace Go.TI
open Go Go.Proofs
attribute [local simp] evalOps stepOp wantedT evalOp Opd.val St.put St.ok St.obj upd start args0 binV binI intCmp resultsV resV idxOf loadV partV storeV getCells getRows upd2 cellsOf putAt scal faddrV

/-- What a call of the search does, at these pieces that are left. -/
def PutOk (C : Cfg) (sz : List Int) (r least : Int) (rest : List Int) : Prop :=
  ∀ (done : List Int) (ll : List (List Int)) (sums : List Int) (F : Nat → Nat) (st : St), sz = done ++ rest → 0 < st.n → Cells32 sz r least st.s → Ini st.s st.n ll sums F → ll.length = sums.length → ll.length ≤ done.length → (∀ x ∈ sums, 0 ≤ x ∧ x ≤ r) → (∀ l ∈ ll, l.length ≤ done.length) →
    W C Tab.F32.body (enter (I done.length :: caps32) st) fun e s => (e = .normal ∨ e = .ret) ∧ ∃ v, resultsV s Tab.F32.res = some v ∧ After sz r least st.n (dfs r least rest done.length ll sums) ll sums F s.s s.n v

theorem put_nil {C : Cfg} {sz : List Int} {r least : Int} : PutOk C sz r least [] := by
  intro done ll sums F st hd hn hc hI hl hll hs1 hl1
  have hds : done = sz := by simpa using hd.symm
  subst hds
  obtain ⟨ov, h8, hv⟩ := hI.view
  unfold Tab.F32
  refine W.seq (W.reg (WO.ops (fun ic => rfl) ?_))
  refine W.seq (W.seq (W.reg (WO.ops (fun ic => by simp [enter, caps32, hc.c2, lenInts]; rfl) ?_)))
  refine W.ite true (by simp) (W.seq (W.reg (WO.ops (fun ic => rfl) (W.ret ?_))))
  refine ⟨.inr rfl, B true, by simp, by simp [enter], hc, rfl, ov, h8, hv⟩

theorem mem_modify {α : Type} {l : List α} {k : Nat} {f : α → α} {y : α} (h : y ∈ l.modify k f) : y ∈ l ∨ ∃ x, l[k]? = some x ∧ y = f x := by
  obtain ⟨j, hj⟩ := List.getElem?_of_mem h
  rw [List.getElem?_modify] at hj
  by_cases e : k = j
  · subst e
    cases hx : l[k]? with
    | none => rw [hx] at hj; simp at hj
    | some x => rw [hx] at hj; simp at hj; exact .inr ⟨x, rfl, hj.symm⟩
  · simp [e] at hj
    exact .inl (List.mem_of_getElem? hj)
/-- The boxes that are open, one after the other. -/
theorem L32_0_ok {C : Cfg} {sz : List Int} {r least : Int} (i32 : C.imp 32 = true) (hcode : C.code 32 = some Tab.F32) (hr : 1 ≤ r ∧ r ≤ 10000) (hsz : ∀ s ∈ sz, 1 ≤ s ∧ s ≤ r) (hlen : sz.length ≤ 10) {s : Int} {rest done : List Int} (ih : PutOk C sz r least rest) (hd : sz = done ++ s :: rest) {ll : List (List Int)} {sums : List Int} {F : Nat → Nat} (hl : ll.length = sums.length) (hll : ll.length ≤ done.length) (hs1 : ∀ x ∈ sums, 0 ≤ x ∧ x ≤ r) (hl1 : ∀ l ∈ ll, l.length ≤ done.length) {φ : Nat} (hφ : 0 < φ) (hF : ∀ k, k < ll.length → F k < φ) :
    ∀ (m k : Nat) (st : St), k + m = ll.length → st.fr = φ → φ < st.n → Frame32 st done.length → st.t 15 = I ll.length → st.t 16 = I k → Cells32 sz r least st.s → Ini st.s st.n ll sums F →
    W C Tab.L32_0 st fun e s2 => (e = .exit 0 ∧ tryFrom (fun k => if sums.getD k 0 + s > r then none else dfs r least rest ((done.length : Int) + 1) (ll.modify k (· ++ [(done.length : Int)])) (sums.modify k (· + s))) m k = none ∧ s2.fr = φ ∧ st.n ≤ s2.n ∧ Frame32 s2 done.length ∧ Cells32 sz r least s2.s ∧ Ini s2.s s2.n ll sums F) ∨ (e = .ret ∧ s2.t 8 = B true ∧ st.n ≤ s2.n ∧ Cells32 sz r least s2.s ∧ ∃ x, tryFrom (fun k => if sums.getD k 0 + s > r then none else dfs r least rest ((done.length : Int) + 1) (ll.modify k (· ++ [(done.length : Int)])) (sums.modify k (· + s))) m k = some x ∧ ∃ ov, s2.s 0 8 = some (4, .cells [ov]) ∧ TI.view s2.s 7 ov = some (encII x)) := by
  have hil : done.length < sz.length := by rw [hd]; simp
  have hsi : sz[done.length]? = some s := by rw [hd]; simp
  have hsb := hsz s (by rw [hd]; simp)
  intro m
  induction m with
  | zero =>
    intro k st hk hfr hn hFr h15 h16 hc hI
    obtain rfl : k = ll.length := by omega
    refine W.loop (W.seq (W.reg (WO.ops (fun ic => by simp [h15, h16]; rfl) ?_)))
    refine W.seq (W.ite false (by simp) ?_)
    exact W.exit (.inl ⟨rfl, rfl, by simp [hfr], by simp, ⟨by simp [hFr.t0], by simp [hFr.t1], by simp [hFr.t2], by simp [hFr.t3], by simp [hFr.t4], by simp [hFr.t5], by simp [hFr.t6]⟩, hc, hI⟩)
  | succ m ihm =>
    intro k st hk hfr hn hFr h15 h16 hc hI
    have hkl : k < ll.length := by omega
    obtain ⟨f, g, fs, gs, L, S, hO⟩ : ∃ f g fs gs L S, Objs st.s st.n ll sums f g fs gs L S F := by
      rcases hI with ⟨rfl, _⟩ | h
      · simp at hkl
      · exact h
    obtain ⟨l, hlk⟩ : ∃ l, ll[k]? = some l := ⟨ll[k], List.getElem?_eq_getElem hkl⟩
    obtain ⟨x, hxk⟩ : ∃ x, sums[k]? = some x := ⟨sums[k]'(by omega), List.getElem?_eq_getElem (by omega)⟩
    have hx := hs1 x (List.mem_of_getElem? hxk)
    have hSk := isR_getI hO.hSt hxk
    have hat : ∀ st, iaddrV st 1 (done.length : Int) (encInts sz) = some (.vptr [I s] 0) := fun st => atInts hsi
    have hSl := hO.hSl
    have hkS : k < S.length := by omega
    have hSk' : S[k] = [I x] := by rw [List.getElem?_eq_getElem hkS] at hSk; injection hSk
    have hks : k < sums.length := by omega
    have hwx : IntKind.i64.wrap (x + s) = x + s := wrap_id (by omega) (by omega)
    have hgd : sums.getD k 0 = x := by rw [List.getD_eq_getElem?_getD, hxk]; rfl
    have hwk : IntKind.i64.wrap ((k : Int) + 1) = ((k + 1 : Nat) : Int) := by rw [wrap_id (by omega) (by omega)]; omega
    obtain ⟨k1, hk1⟩ : ∃ k1, k1 = k + 1 := ⟨_, rfl⟩
    rw [← hk1] at hwk
    -- a box that does not do
    have fin : (if sums.getD k 0 + s > r then none else dfs r least rest ((done.length : Int) + 1) (ll.modify k (· ++ [(done.length : Int)])) (sums.modify k (· + s))) = none → ∀ st' : St, st'.fr = φ → st.n ≤ st'.n → Frame32 st' done.length → st'.t 15 = I ll.length → st'.t 16 = I k → Cells32 sz r least st'.s → Ini st'.s st'.n ll sums F →
        W C (.reg [Tab.o 82 (.bin .add (Tab.t 16) (Tab.i 1)), Tab.o 16 (.mv (Tab.t 82))]) st' (thenQ (fun s0 => W C Tab.L32_0 s0 fun e s2 => (e = .exit 0 ∧ tryFrom (fun k => if sums.getD k 0 + s > r then none else dfs r least rest ((done.length : Int) + 1) (ll.modify k (· ++ [(done.length : Int)])) (sums.modify k (· + s))) (m + 1) k = none ∧ s2.fr = φ ∧ st.n ≤ s2.n ∧ Frame32 s2 done.length ∧ Cells32 sz r least s2.s ∧ Ini s2.s s2.n ll sums F) ∨ (e = .ret ∧ s2.t 8 = B true ∧ st.n ≤ s2.n ∧ Cells32 sz r least s2.s ∧ ∃ x, tryFrom (fun k => if sums.getD k 0 + s > r then none else dfs r least rest ((done.length : Int) + 1) (ll.modify k (· ++ [(done.length : Int)])) (sums.modify k (· + s))) (m + 1) k = some x ∧ ∃ ov, s2.s 0 8 = some (4, .cells [ov]) ∧ TI.view s2.s 7 ov = some (encII x))) fun e s2 => (e = .exit 0 ∧ tryFrom (fun k => if sums.getD k 0 + s > r then none else dfs r least rest ((done.length : Int) + 1) (ll.modify k (· ++ [(done.length : Int)])) (sums.modify k (· + s))) (m + 1) k = none ∧ s2.fr = φ ∧ st.n ≤ s2.n ∧ Frame32 s2 done.length ∧ Cells32 sz r least s2.s ∧ Ini s2.s s2.n ll sums F) ∨ (e = .ret ∧ s2.t 8 = B true ∧ st.n ≤ s2.n ∧ Cells32 sz r least s2.s ∧ ∃ x, tryFrom (fun k => if sums.getD k 0 + s > r then none else dfs r least rest ((done.length : Int) + 1) (ll.modify k (· ++ [(done.length : Int)])) (sums.modify k (· + s))) (m + 1) k = some x ∧ ∃ ov, s2.s 0 8 = some (4, .cells [ov]) ∧ TI.view s2.s 7 ov = some (encII x))) := by
      intro hG st' j1 j2 j3 j4 j5 j6 j7
      have hT : ∀ G : Nat → Option (List (List Int)), G k = none → tryFrom G (m + 1) k = tryFrom G m k1 := fun G hg => by
        subst hk1
        simp only [tryFrom, hg]
      rw [hT _ hG]
      refine W.reg (WO.ops (fun ic => by simp [j5, hwk]; rfl) ?_)
      simp only [thenQ_normal]
      refine (ihm k1 _ (by omega) (by simp [j1]) (by exact Nat.lt_of_lt_of_le hn j2) ⟨by simp [j3.t0], by simp [j3.t1], by simp [j3.t2], by simp [j3.t3], by simp [j3.t4], by simp [j3.t5], by simp [j3.t6]⟩ (by simp [j4]) (by simp) (by exact j6) (by exact j7)).mono fun e s2 h => ?_
      rcases h with ⟨h1, h2, h3, h4, h5⟩ | ⟨h1, h2, h3, h4⟩
      · exact .inl ⟨h1, h2, h3, Nat.le_trans j2 h4, h5⟩
      · exact .inr ⟨h1, h2, Nat.le_trans j2 h3, h4⟩
    refine W.loop (W.seq (W.reg (WO.ops (fun ic => by simp [h15, h16]; rfl) ?_)))
    refine W.seq (W.ite true (by simp [hkl]) (W.skip ?_))
    refine W.seq (W.blk (W.seq (W.reg (WO.ops (fun ic => by simp [h16]; rfl) ?_))))
    refine W.seq (W.seq (W.dregP rfl (WO.ops (fun ic => by simp [hFr.t0, hFr.t1, hFr.t3, hFr.t4, hO.o9, hO.hS, hc.c2, hc.c3, iaddr_own, hks, hkS, hSk', hat, hwx]; rfl) ?_)))
    by_cases hfit : x + s > r
    · refine W.ite true (by simp; omega) (W.exit ?_)
      simp only [thenQ_exit, blkQ_exit, if_true, thenQ_normal]
      exact fin (by rw [hgd, if_pos hfit]) _ (by simp [hfr]) (by simp) ⟨by simp [hFr.t0], by simp [hFr.t1], by simp [hFr.t2], by simp [hFr.t3], by simp [hFr.t4], by simp [hFr.t5], by simp [hFr.t6]⟩ (by simp [h15]) (by simp [h16]) hc hI
    · refine W.ite false (by simp; omega) (W.skip ?_)
      simp only [thenQ_normal]
      obtain ⟨gk, R, q1, q2, q3, q4, q5, q6⟩ := hO.rows k l hlk
      have hllen := hl1 l (List.mem_of_getElem? hlk)
      have hwi : IntKind.i64.wrap ((done.length : Int) + 1) = ((done ++ [s]).length : Int) := by rw [wrap_id (by omega) (by omega)]; simp
      refine W.seq (stepA (ov := I 0) (sv := I 0) (i := done.length) (k := k) (ll := ll) (sums := sums) (l := l) (x := x) (s := s) hil hsi ⟨by simp [hFr.t0], by simp [hFr.t1], by simp [hFr.t2], by simp [hFr.t3], by simp [hFr.t4], by simp [hFr.t5], by simp [hFr.t6]⟩ (by simp) (by exact hc) (by exact hO.o8) (by exact hO.o9) hO.hf.1 q2 hO.hfs.1 (by exact hO.hL) hO.hLl hkl q1 (by exact q4) q5 (by omega) (by exact hO.hS) hO.hSl hks hSk hwx ?_)
      intro st' a1 a9 a16 a15 afr an hss
      simp only [thenQ_normal]
      simp [h15, h16, hfr] at a16 a15 afr an
      have hput := hO.putA (i := (done.length : Int)) (y := s) hlk hxk q4 q5 q6
      rw [← show st'.s = _ from hss] at hput
      have e1 : ¬ (0 = f) := by have := hO.hf; omega
      have e2 : ¬ (0 = fs) := by have := hO.hfs; omega
      have e3 : ¬ (0 = F k) := by omega
      have h0 : ∀ b, st'.s 0 b = st.s 0 b := fun b => by rw [hss]; simp [e1, e2, e3]
      have hc' : Cells32 sz r least st'.s := ⟨by rw [h0]; exact hc.c2, by rw [h0]; exact hc.c3, by rw [h0]; exact hc.c6, by rw [h0]; exact hc.c10⟩
      have hd2 : sz = (done ++ [s]) ++ rest := by rw [hd]; simp
      refine W.seq (W.seq (W.reg (WO.step (os := [Tab.o 52 (.load false 1 (Tab.t 5)), Tab.o 53 (.mv (Tab.t 0)), Tab.o 54 (.bin .add (Tab.t 53) (Tab.i 1))]) (fun ic => by simp [a1.t0, a1.t5, hc'.c10]; rfl) ?_)))
      refine WO.imp (f := 32) (vs := I ((done ++ [s]).length : Int) :: caps32) hcode rfl (fun ic => by simp [i32, caps32, hwi]) ((ih (done ++ [s]) (ll.modify k (· ++ [(done.length : Int)])) (sums.modify k (· + s)) F _ hd2 (by simp [an]) (by exact hc') (.inr ⟨f, g, fs, gs, _, _, by rw [← an] at hput; exact hput⟩) (by simp [hl]) (by simp; omega) ?_ ?_).mono fun e s2 h => ?_)
      · intro y hy
        rcases mem_modify hy with hy | ⟨z, hz, rfl⟩
        · exact hs1 y hy
        · rw [hxk] at hz
          injection hz with hz
          subst hz
          omega
      · intro y hy
        rcases mem_modify hy with hy | ⟨z, hz, rfl⟩
        · have := hl1 y hy
          simp
          omega
        · have := hl1 z (List.mem_of_getElem? hz)
          simp
          omega
      · obtain ⟨he, v, hv, hA⟩ := h
        refine ⟨he, v, hv, WO.ops (fun ic => by simp; rfl) ?_⟩
        simp only [thenQ_normal]
        obtain ⟨hnn, hc2, hres⟩ := hA
        have hcast : ((done ++ [s]).length : Int) = (done.length : Int) + 1 := by simp
        rw [hcast] at hres
        have hGk : (if sums.getD k 0 + s > r then none else dfs r least rest ((done.length : Int) + 1) (ll.modify k (· ++ [(done.length : Int)])) (sums.modify k (· + s))) = dfs r least rest ((done.length : Int) + 1) (ll.modify k (· ++ [(done.length : Int)])) (sums.modify k (· + s)) := by rw [hgd, if_neg hfit]
        have hst2 : st.n ≤ s2.n := by simp [an] at hnn; omega
        cases hdf : dfs r least rest ((done.length : Int) + 1) (ll.modify k (· ++ [(done.length : Int)])) (sums.modify k (· + s)) with
        | some y =>
          rw [hdf] at hres
          obtain ⟨rfl, ov, r1, r2⟩ := hres
          refine W.ite true (by simp) (W.seq (W.reg (WO.ops (fun ic => rfl) (W.ret ?_))))
          simp only [thenQ_ret, blkQ_ret]
          refine .inr ⟨by first | rfl | trivial, by simp, hst2, hc2, y, ?_, ov, r1, r2⟩
          have hG2 := hGk.trans hdf
          simp only [tryFrom]
          rw [hG2]
        | none =>
          rw [hdf] at hres
          obtain ⟨rfl, hI2⟩ := hres
          refine W.ite false (by simp) (W.skip ?_)
          simp only [thenQ_normal]
          obtain ⟨f2, g2, fs2, gs2, L2, S2, hO2⟩ : ∃ f g fs gs L S, Objs s2.s s2.n (ll.modify k (· ++ [(done.length : Int)])) (sums.modify k (· + s)) f g fs gs L S F := by
            rcases hI2 with ⟨h, _⟩ | h
            · have := congrArg List.length h
              rw [List.length_modify, List.length_nil] at this
              omega
            · exact h
          obtain ⟨gk2, R2, p1, p2, p3, p4, p5, p6⟩ := hO2.rows k (l ++ [(done.length : Int)]) (by rw [List.getElem?_modify]; simp [hlk])
          have hwm : IntKind.i64.wrap (x + s - s) = x + s - s := wrap_id (by omega) (by omega)
          have hSk2 := isR_getI (k := k) (x := x + s) hO2.hSt (by rw [List.getElem?_modify]; simp [hxk])
          have p1' : L2[k]? = some [.own (F k) 89 gk2 0 (l.length + 1) 1] := by simpa using p1
          have o8 := hO2.o8
          have o9 := hO2.o9
          have oL := hO2.hLl
          have oS := hO2.hSl
          rw [List.length_modify] at o8 o9 oL oS
          refine stepB (i := done.length) (k := k) (m := l.length) (sums := sums) (N := ll.length) (x := x + s) (s := s) hil hsi ⟨by simp [a1.t0], by simp [a1.t1], by simp [a1.t2], by simp [a1.t3], by simp [a1.t4], by simp [a1.t5], by simp [a1.t6]⟩ (by simp [a9]) (by exact hc2) (by exact o8) (by exact o9) hO2.hf.1 p2 hO2.hfs.1 (by exact hO2.hL) oL hkl p1' (by exact p4) (by omega) (by exact hO2.hS) oS hks hSk2 hwm ?_
          intro s3 b1 b9 b16 b15 bfr bn bss
          simp [a16, a15, afr] at b16 b15 bfr bn
          have hcut := hO2.cutB (R := []) (i := (done.length : Int)) (y := s) hlk hxk p1'
          rw [← show s3.s = _ from bss, ← bn] at hcut
          have e4 : ¬ (0 = f2) := by have := hO2.hf; omega
          have e5 : ¬ (0 = fs2) := by have := hO2.hfs; omega
          have h1 : ∀ b, s3.s 0 b = s2.s 0 b := fun b => by rw [bss]; simp [e4, e5]
          simp only [blkQ_normal, thenQ_normal]
          exact fin (by rw [hGk, hdf]) s3 bfr (by rw [bn]; exact hst2) b1 b15 b16 ⟨by rw [h1]; exact hc2.c2, by rw [h1]; exact hc2.c3, by rw [h1]; exact hc2.c6, by rw [h1]; exact hc2.c10⟩ (.inr ⟨_, _, _, _, _, _, hcut⟩)

theorem Ini.mono {s : Sto} {n : Nat} {ll : List (List Int)} {sums : List Int} {F : Nat → Nat} (h : Ini s n ll sums F) : Ini s (n + 1) ll sums F := by
  rcases h with h | ⟨f, g, fs, gs, L, S, h⟩
  · exact .inl h
  · exact .inr ⟨f, g, fs, gs, L, S, h.mono (by omega)⟩
theorem Objs.congr {s : Sto} {n : Nat} {ll : List (List Int)} {sums : List Int} {f g fs gs : Nat} {L S : List (List V)} {F F' : Nat → Nat} (h : Objs s n ll sums f g fs gs L S F) (hF : ∀ k, k < ll.length → F k = F' k) : Objs s n ll sums f g fs gs L S F' :=
  { h with
    rows := fun k l hk => by
      have := h.rows k l hk
      rwa [hF k (List.getElem?_eq_some_iff.1 hk).1] at this
    inj := fun j k hj hk he => h.inj j k hj hk (by rw [hF j hj, hF k hk]; exact he) }
theorem put_cons {C : Cfg} {sz : List Int} {r least : Int} (i32 : C.imp 32 = true) (hcode : C.code 32 = some Tab.F32) (hr : 1 ≤ r ∧ r ≤ 10000) (hsz : ∀ s ∈ sz, 1 ≤ s ∧ s ≤ r) (hlen : sz.length ≤ 10) {s : Int} {rest : List Int} (ih : PutOk C sz r least rest) : PutOk C sz r least (s :: rest) := by
  intro done ll sums F st hd hn hc hI hl hll hs1 hl1
  have hil : done.length < sz.length := by rw [hd]; simp
  have hsi : sz[done.length]? = some s := by rw [hd]; simp
  have hsb := hsz s (by rw [hd]; simp)
  have hne : ((done.length : Int) == (sz.length : Int)) = false := by simp; omega
  have hd2 : sz = (done ++ [s]) ++ rest := by rw [hd]; simp
  have hdl : (done ++ [s]).length = done.length + 1 := by simp
  have hwi : IntKind.i64.wrap ((done.length : Int) + 1) = ((done.length + 1 : Nat) : Int) := by rw [wrap_id (by omega) (by omega)]; omega
  obtain ⟨φ, hφ⟩ : ∃ φ, φ = st.n := ⟨_, rfl⟩
  obtain ⟨ov, h8, h8l⟩ := hI.len8
  unfold Tab.F32
  refine W.seq (W.reg (WO.ops (fun ic => rfl) ?_))
  refine W.seq (W.seq (W.reg (WO.ops (fun ic => by simp [enter, caps32, hc.c2, lenInts]; rfl) ?_)))
  refine W.ite false (by simp [hne]) (W.skip ?_)
  simp only [thenQ_normal]
  refine W.seq (W.seq (W.reg (WO.ops (fun ic => by simp [h8, h8l]; rfl) ?_)))
  have hF : ∀ k, k < ll.length → F k < st.n := fun k hk => by
    rcases hI with ⟨rfl, _⟩ | ⟨f, g, fs, gs, L, S, hO⟩
    · simp at hk
    · obtain ⟨gk, R, q1, q2, q3, _⟩ := hO.rows k ll[k] (List.getElem?_eq_getElem hk)
      exact q3
  have hdfs : dfs r least (s :: rest) done.length ll sums = match tryFrom (fun k => if sums.getD k 0 + s > r then none else dfs r least rest ((done.length : Int) + 1) (ll.modify k (· ++ [(done.length : Int)])) (sums.modify k (· + s))) ll.length 0 with
      | some x => some x
      | none => if (ll.length : Int) = least then none else dfs r least rest ((done.length : Int) + 1) (ll ++ [[(done.length : Int)]]) (sums ++ [s]) := rfl
  refine W.blk ((L32_0_ok i32 hcode hr hsz hlen ih hd hl hll hs1 hl1 (φ := st.n) hn hF ll.length 0 _ (by omega) (by simp) (by simp) ⟨by simp, by simp, by simp, by simp, by simp, by simp, by simp⟩ (by simp) (by simp) (by exact hc) (by exact hI.mono)).mono fun e s2 h => ?_)
  rcases h with ⟨rfl, hT, hfr2, hn2, hFr2, hc2, hI2⟩ | ⟨rfl, h8', hn2, hc2, x, hT, ov2, r1, r2⟩
  · simp only [blkQ_exit, if_true, thenQ_normal]
    rw [hT] at hdfs
    simp at hn2
    obtain ⟨ov2, k8, k8l⟩ := hI2.len8
    refine W.seq (W.seq (W.reg (WO.ops (fun ic => by simp [hFr2.t2, hFr2.t6, k8, k8l, hc2.c6]; rfl) ?_)))
    by_cases hlt : (ll.length : Int) = least
    · rw [if_pos hlt] at hdfs
      refine W.ite true (by simp [hlt]) (W.seq (W.reg (WO.ops (fun ic => rfl) (W.ret ?_))))
      simp only [thenQ_ret]
      refine ⟨by simp, B false, by simp, by show st.n ≤ s2.n; omega, hc2, ?_⟩
      rw [hdfs]
      exact ⟨rfl, hI2⟩
    · rw [if_neg hlt] at hdfs
      refine W.ite false (by simp [hlt]) (W.skip ?_)
      simp only [thenQ_normal]
      -- behind the new box
      have tail : ∀ (st3 : St) (F' : Nat → Nat), (∃ f g fs gs L S, Objs st3.s st3.n (ll ++ [[(done.length : Int)]]) (sums ++ [s]) f g fs gs L S F') → (∀ k, k < ll.length → F' k = F k) → Frame32 st3 done.length → Cells32 sz r least st3.s → st.n ≤ st3.n → 0 < st3.n →
          W C (.seq (.seq (.reg [Tab.o 99 (.load false 1 (Tab.t 5)), Tab.o 100 (.mv (Tab.t 0)), Tab.o 101 (.bin .add (Tab.t 100) (Tab.i 1)), Tab.o 102 (.callv (Tab.t 99) [.t 101])]) (.ite (.t 102) (.seq (.reg [Tab.o 8 (.mv (.c (.lit (.bool true))))]) .ret) .skip)) (.seq (.dregK opsD masksD) (.seq (.reg [Tab.o 8 (.mv (.c (.lit (.bool false))))]) .ret))) st3 fun e s' => (e = .normal ∨ e = .ret) ∧ ∃ v, resultsV s' Tab.F32.res = some v ∧ After sz r least st.n (dfs r least (s :: rest) done.length ll sums) ll sums F s'.s s'.n v := by
        intro st3 F' hOb hFF hFr3 hc3 hn3 hp3
        obtain ⟨f, g, fs, gs, L, S, hO⟩ := hOb
        have hwi' : IntKind.i64.wrap ((done.length : Int) + 1) = ((done ++ [s]).length : Int) := by rw [wrap_id (by omega) (by omega)]; simp
        have hcast : ((done ++ [s]).length : Int) = (done.length : Int) + 1 := by simp
        refine W.seq (W.seq (W.reg (WO.step (os := [Tab.o 99 (.load false 1 (Tab.t 5)), Tab.o 100 (.mv (Tab.t 0)), Tab.o 101 (.bin .add (Tab.t 100) (Tab.i 1))]) (fun ic => by simp [hFr3.t0, hFr3.t5, hc3.c10]; rfl) ?_)))
        refine WO.imp (f := 32) (vs := I ((done ++ [s]).length : Int) :: caps32) hcode rfl (fun ic => by simp [i32, caps32, hwi']) ((ih (done ++ [s]) (ll ++ [[(done.length : Int)]]) (sums ++ [s]) F' _ hd2 (by exact hp3) (by exact hc3) (.inr ⟨f, g, fs, gs, L, S, by exact hO⟩) (by simp [hl]) (by simp; omega) ?_ ?_).mono fun e s2 h => ?_)
        · intro y hy
          simp at hy
          rcases hy with hy | rfl
          · exact hs1 y hy
          · omega
        · intro y hy
          simp at hy
          rcases hy with hy | rfl
          · have := hl1 y hy
            simp
            omega
          · simp
        · obtain ⟨he, v, hv, hA⟩ := h
          refine ⟨he, v, hv, WO.ops (fun ic => by simp; rfl) ?_⟩
          simp only [thenQ_normal]
          obtain ⟨hnn, hc4, hres⟩ := hA
          rw [hcast] at hres
          have hst2 : st.n ≤ s2.n := Nat.le_trans hn3 hnn
          cases hdf : dfs r least rest ((done.length : Int) + 1) (ll ++ [[(done.length : Int)]]) (sums ++ [s]) with
          | some y =>
            rw [hdf] at hres hdfs
            obtain ⟨rfl, ov, r1, r2⟩ := hres
            refine W.ite true (by simp) (W.seq (W.reg (WO.ops (fun ic => rfl) (W.ret ?_))))
            simp only [thenQ_ret]
            refine ⟨by simp, B true, by simp [Tab.F32], hst2, hc4, ?_⟩
            rw [hdfs]
            exact ⟨rfl, ov, r1, r2⟩
          | none =>
            rw [hdf] at hres hdfs
            obtain ⟨rfl, hI3⟩ := hres
            refine W.ite false (by simp) (W.skip ?_)
            simp only [thenQ_normal]
            obtain ⟨f2, g2, fs2, gs2, L2, S2, hO2⟩ : ∃ f g fs gs L S, Objs s2.s s2.n (ll ++ [[(done.length : Int)]]) (sums ++ [s]) f g fs gs L S F' := by
              rcases hI3 with ⟨h, _⟩ | h
              · simp at h
              · exact h
            have o8 := hO2.o8
            have o9 := hO2.o9
            rw [List.length_append] at o8 o9
            refine W.seq (stepD (i := done.length) (N := ll.length) (M := sums.length) ⟨by simp [hFr3.t0], by simp [hFr3.t1], by simp [hFr3.t2], by simp [hFr3.t3], by simp [hFr3.t4], by simp [hFr3.t5], by simp [hFr3.t6]⟩ (by exact o8) (by exact o9) (by omega) (by omega) ?_)
            intro s3 b1 bfr bn bss
            have hpop := hO2.pop
            rw [← show s3.s = _ from bss, ← show s3.n = s2.n from bn] at hpop
            have h1 : ∀ b, b ≠ 8 → b ≠ 9 → s3.s 0 b = s2.s 0 b := fun b h8 h9 => by rw [bss]; simp [h8, h9]
            simp only [thenQ_normal]
            refine W.seq (W.reg (WO.ops (fun ic => rfl) (W.ret ?_)))
            refine ⟨.inr rfl, B false, by simp [Tab.F32], by show st.n ≤ s3.n; rw [show s3.n = s2.n from bn]; exact hst2, ⟨by show s3.s 0 2 = _; rw [h1 2 (by decide) (by decide)]; exact hc4.c2, by show s3.s 0 3 = _; rw [h1 3 (by decide) (by decide)]; exact hc4.c3, by show s3.s 0 6 = _; rw [h1 6 (by decide) (by decide)]; exact hc4.c6, by show s3.s 0 10 = _; rw [h1 10 (by decide) (by decide)]; exact hc4.c10⟩, ?_⟩
            rw [hdfs]
            exact ⟨rfl, .inr ⟨_, _, _, _, _, _, hpop.congr fun k hk => hFF k hk⟩⟩
      rcases hI2 with ⟨rfl, rfl, z8, z9⟩ | ⟨f, g, fs, gs, L, S, hO⟩
      · refine W.seq (stepC1 (i := done.length) (s := s) hil hsi ⟨by simp [hFr2.t0], by simp [hFr2.t1], by simp [hFr2.t2], by simp [hFr2.t3], by simp [hFr2.t4], by simp [hFr2.t5], by simp [hFr2.t6]⟩ (by exact hc2) (by simp [hfr2, hn]) (by exact z8) (by exact z9) ?_)
        intro s3 b1 bfr bn bss
        simp [hfr2] at bfr bn
        have hnew := Objs.new1 (s := s2.s) (n := s2.n) (φ := st.n) (i := (done.length : Int)) (x := s) ⟨hn, by omega⟩
        have e1 : ¬ (0 = st.n) := by omega
        have hss : s3.s = _ := bss
        simp only [hfr2] at hss
        have h1 : ∀ b, b ≠ 8 → b ≠ 9 → s3.s 0 b = s2.s 0 b := fun b h8 h9 => by rw [hss]; simp [h8, h9, e1]
        rw [← hss, ← bn] at hnew
        simp only [thenQ_normal]
        exact tail s3 _ ⟨_, _, _, _, _, _, hnew⟩ (fun k hk => by simp at hk) b1 ⟨by rw [h1 2 (by decide) (by decide)]; exact hc2.c2, by rw [h1 3 (by decide) (by decide)]; exact hc2.c3, by rw [h1 6 (by decide) (by decide)]; exact hc2.c6, by rw [h1 10 (by decide) (by decide)]; exact hc2.c10⟩ (by omega) (by omega)
      · refine W.seq (stepC2 (i := done.length) (N := ll.length) (M := sums.length) (s := s) hil hsi ⟨by simp [hFr2.t0], by simp [hFr2.t1], by simp [hFr2.t2], by simp [hFr2.t3], by simp [hFr2.t4], by simp [hFr2.t5], by simp [hFr2.t6]⟩ (by exact hc2) (by simp [hfr2, hn]) (by exact hO.o8) (by exact hO.o9) hO.hf.1 hO.hfs.1 (by exact hO.hL) hO.hLl (by exact hO.hS) hO.hSl (by omega) (by omega) ?_)
        intro s3 b1 bfr bn bss
        simp [hfr2] at bfr bn
        have hnew := hO.new2 (φ := st.n) (i := (done.length : Int)) (x := s) ⟨hn, by omega⟩ hF
        have e1 : ¬ (0 = st.n) := by omega
        have e2 : ¬ (0 = f) := by have := hO.hf; omega
        have e3 : ¬ (0 = fs) := by have := hO.hfs; omega
        have hss : s3.s = _ := bss
        simp only [hfr2] at hss
        have h1 : ∀ b, b ≠ 8 → b ≠ 9 → s3.s 0 b = s2.s 0 b := fun b h8 h9 => by rw [hss]; simp [h8, h9, e1, e2, e3]
        rw [← hss, ← bn] at hnew
        simp only [thenQ_normal]
        exact tail s3 _ ⟨_, _, _, _, _, _, hnew⟩ (fun k hk => by have : ¬ (k = ll.length) := by omega
                                                                 simp [this]) b1 ⟨by rw [h1 2 (by decide) (by decide)]; exact hc2.c2, by rw [h1 3 (by decide) (by decide)]; exact hc2.c3, by rw [h1 6 (by decide) (by decide)]; exact hc2.c6, by rw [h1 10 (by decide) (by decide)]; exact hc2.c10⟩ (by omega) (by omega)
  · simp only [blkQ_ret, thenQ_ret]
    rw [hT] at hdfs
    simp at hn2
    refine ⟨by simp, B true, by simp [h8'], by omega, hc2, ?_⟩
    rw [hdfs]
    exact ⟨rfl, ov2, r1, r2⟩
end Go.TI
end
