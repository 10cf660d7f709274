/- A part of the proof of TopPackedBest: texts TkJ to TkJ. -/
import Derived.Test.YtpnjgmfkndbllaaGreatDoorZ17
/- A copy of a state with nothing but boxes. -/
section
set_option linter.unusedVariables false
set_option linter.unusedSimpArgs false
set_option maxRecDepth 1000000
namespace Go.TI
open Go Go.Proofs
attribute [local simp] evalOps stepOp wantedT evalOp Opd.val St.put St.ok St.obj upd start args0 binV binI intCmp resultsV resV idxOf loadV partV storeV getCells getRows upd2 cellsOf putAt scal faddrV

/-- What a function gives that has its own store, from its run. -/
theorem ip_of_W {P : Program} {C : Cfg} (hm : P.follows .mixedOrders = true) (hC : CfgOk P C) (hK : CodeOk P C) {K : Nat} {F : TF} (hF : C.code K = some F) {vs : List V} (hlen : vs.length = F.args) {R : V → Sto → Prop}
    (h : W C F.body (start vs) fun e st => (e = .normal ∨ e = .ret) ∧ ∃ v, resultsV st F.res = some v ∧ R v st.s) : ∃ v s τ n, IpOk P K vs v s τ n ∧ R v s := by
  obtain ⟨n, e, st, h1, he, v, hv, hR⟩ := h
  refine ⟨v, st.s, st.τ, st.n, runI_ok hm hC hK hF (n := n) hlen ?_, hR⟩
  unfold runI
  rw [h1]
  rcases he with rfl | rfl <;> simp only [hv, Option.map_some]

theorem upd2_same {s : Sto} {a b : Nat} {x : Option (Nat × Ob)} (h : s a b = x) : upd2 s a b x = s := by
  funext i j
  by_cases e : i = a ∧ j = b
  · rw [e.1, e.2, upd2_self, h]
  · rw [upd2_ne _ _ e]

theorem L54_1_ok {p : List (Spec P0)} {C : Cfg} (hC : C = specCfg P0 X p) {l : List Bx} (hlen : l.length ≤ 1000) (hcs : ∀ b ∈ l, b.cs.length ≤ 1000) {g g1 : Nat} {s0 : Sto} {cs0 : List V} (h01 : s0 0 1 = some (g1, .cells cs0)) (h06 : cs0[6]? = some (.own 0 75 g 0 l.length 5)) : ∀ (rest pre : List Bx) (L : List (List V)) (st : St), l = pre ++ rest → Likes L l → st.fr = 0 → st.t 1 = .ptr 0 1 g1 0 → st.t 79 = I l.length → st.t 80 = I pre.length → st.s = upd2 s0 0 75 (some (g, .rows 5 L)) →
    W C Tab.L54_1 st fun e st' => e = .exit 2 ∧ st'.fr = 0 ∧ st'.t 1 = .ptr 0 1 g1 0 ∧ st'.t 2 = st.t 2 ∧ ∃ L', Likes L' l ∧ st'.s = upd2 s0 0 75 (some (g, .rows 5 L')) := by
  intro rest
  induction rest with
  | nil =>
    intro pre L st hl0 hL hfr h1 h8 h9 hs
    have hp : pre = l := by simpa using hl0.symm
    subst hp
    refine W.loop (W.seq (W.reg (WO.ops (fun ic => by simp [h8, h9]; rfl) ?_)))
    refine W.seq (W.ite false (by simp) ?_)
    exact W.exit ⟨rfl, by simp [hfr], by simp [h1], by simp, L, hL, by simp [hs]⟩
  | cons b rest ih =>
    intro pre L st hl0 hL hfr h1 h8 h9 hs
    have hl : pre.length < l.length := by rw [hl0]; simp
    refine W.loop (W.seq (W.reg (WO.ops (fun ic => by simp [h8, h9]; rfl) ?_)))
    refine W.seq (W.ite true (by simp [hl]) (W.skip ?_))
    obtain ⟨r, hr, hrb⟩ := hL.at (j := pre.length) (b := b) (by rw [hl0]; simp)
    have hlL : pre.length < L.length := by rw [hL.length]; exact hl
    obtain ⟨k, m, rfl, hk⟩ := hrb
    have hv : ∀ s, view s viewDepth (.sl k (b.cs.map encCt) m) = some (encCts b.cs) := fun s => Like.view_cs hk
    have hf : C.fresh 94 [encCts b.cs] = some (2, b.cs.map encCt) := by rw [hC]; exact fre94 (hcs b (by rw [hl0]; simp))
    refine W.seq (W.blk (W.seq (W.reg (WO.ops (fun ic => by simp [h9]; rfl) ?_))))
    have hrf : refs viewDepth (.sl k (b.cs.map encCt) m) = false := rfl
    have hr2 : L[pre.length] = [I b.id, I b.width, I b.room, I b.climate, .sl k (b.cs.map encCt) m] := by
      rw [List.getElem?_eq_getElem hlL] at hr; injection hr
    have next : ∀ (st' : St) (m' : Mark), st'.fr = 0 → st'.t 1 = .ptr 0 1 g1 0 → st'.t 2 = st.t 2 → st'.t 79 = I l.length → st'.t 80 = I pre.length → st'.s = upd2 s0 0 75 (some (g, .rows 5 (L.set pre.length [I b.id, I b.width, I b.room, I b.climate, .sl 2 (b.cs.map encCt) m']))) →
        W C (.reg [Tab.o 95 (.bin .add (Tab.t 80) (Tab.i 1)), Tab.o 80 (.mv (Tab.t 95))]) st' (thenQ (fun s => W C Tab.L54_1 s fun e st' => e = .exit 2 ∧ st'.fr = 0 ∧ st'.t 1 = .ptr 0 1 g1 0 ∧ st'.t 2 = st.t 2 ∧ ∃ L', Likes L' l ∧ st'.s = upd2 s0 0 75 (some (g, .rows 5 L'))) fun e st' => e = .exit 2 ∧ st'.fr = 0 ∧ st'.t 1 = .ptr 0 1 g1 0 ∧ st'.t 2 = st.t 2 ∧ ∃ L', Likes L' l ∧ st'.s = upd2 s0 0 75 (some (g, .rows 5 L'))) := by
      intro st' m' hfr' h1' h2' h8' h9' hs'
      refine W.reg (WO.ops (fun ic => by simp [h9']; rfl) ?_)
      have hset : l.set pre.length b = l := by rw [hl0]; simp
      refine (ih (pre ++ [b]) _ _ (by simp [hl0]) ?_ (by simp [hfr']) (by simp [h1']) (by simp [h8']) ?_ (by simp; exact hs')).mono fun e s h => ⟨h.1, h.2.1, h.2.2.1, by rw [h.2.2.2.1]; simp [h2'], h.2.2.2.2⟩
      · have := hL.set (j := pre.length) (r := [I b.id, I b.width, I b.room, I b.climate, .sl 2 (b.cs.map encCt) m']) (b := b) ⟨2, m', rfl, fun _ => rfl⟩
        rwa [hset] at this
      · simp
        exact wrap_id (by omega) (by omega)
    have h6' : ∀ h : 6 < cs0.length, cs0[6] = .own 0 75 g 0 l.length 5 := fun h => by
      rw [List.getElem?_eq_getElem h] at h06; injection h06
    cases hb : b.cs with
    | nil =>
      simp only [hb, List.map_nil] at hf hv hr2 hrf next
      refine W.dregP rfl (WO.ops (fun ic => by simp [hfr, h1, hs, h01, h06, h6', iaddrV, hl, hlL, hr2, hv, hf, hrf]; rfl) ?_)
      exact next _ .tight (by simp [hfr]) (by simp [h1]) (by simp) (by simp [h8]) (by simp [h9]) (by simp [upd2_upd2])
    | cons c cs =>
      simp only [hb, List.map_cons] at hf hv hr2 hrf next
      refine W.dregP rfl (WO.ops (fun ic => by simp [hfr, h1, hs, h01, h06, h6', iaddrV, hl, hlL, hr2, hv, hf, hrf]; rfl) ?_)
      exact next _ (.tok st.n) (by simp [hfr]) (by simp [h1]) (by simp) (by simp [h8]) (by simp [h9]) (by simp [upd2_upd2])

def uClone (bv : V) : List V := [.sl 5 [] .tight, .sl 6 [] .tight, .sl 6 [] .tight, I 0, .sl 6 [] .tight, .sl 6 [] .tight, bv, .sl 4 [] .tight, .sl 6 [] .tight, .sl 7 [] .tight, I 1, .sl 4 [] .tight, .sl 8 [] .tight, .sl 2 [] .tight, .sl 3 [] .tight, I 0]
def R54 (l : List Bx) (v : V) (s : Sto) : Prop := (∀ fr sl, 0 < fr → s fr sl = none) ∧ ∃ bv, v = .agg (uClone bv) ∧ ((l = [] ∧ bv = .sl 5 [] .tight) ∨ (l ≠ [] ∧ ∃ g L, bv = .own 0 75 g 0 l.length 5 ∧ s 0 75 = some (g, .rows 5 L) ∧ Likes L l))

theorem clone54 (l : List Bx) (hlen : l.length ≤ 1000) (hcs : ∀ b ∈ l, b.cs.length ≤ 1000) : ∃ v s τ n, IpOk P0 54 [.agg (uCells l)] v s τ n ∧ R54 l v s := by
  refine ip_of_W X_ok.mixed (specCfg_ok X_ok []) (X_ok.codeOk _ _) (C := specCfg P0 X []) (F := Tab.F54) rfl rfl ?_
  obtain ⟨C, hC⟩ : ∃ C, C = specCfg P0 X [] := ⟨_, rfl⟩
  have f89 : C.fresh 89 [NL] = some (5, []) := by rw [hC]; rfl
  have f90 : C.fresh 90 [NL] = some (6, []) := by rw [hC]; rfl
  have f91 : C.fresh 91 [NL] = some (6, []) := by rw [hC]; rfl
  have f92 : C.fresh 92 [NL] = some (6, []) := by rw [hC]; rfl
  have f93 : C.fresh 93 [NL] = some (6, []) := by rw [hC]; rfl
  have f95 : C.fresh 95 [NL] = some (4, []) := by rw [hC]; rfl
  have f19 : C.fresh 19 [NL] = some (6, []) := by rw [hC]; rfl
  have f96 : C.fresh 96 [NL] = some (7, []) := by rw [hC]; rfl
  have f97 : C.fresh 97 [NL] = some (4, []) := by rw [hC]; rfl
  have f98 : C.fresh 98 [NL] = some (8, []) := by rw [hC]; rfl
  have f99 : C.fresh 99 [NL] = some (2, []) := by rw [hC]; rfl
  have f100 : C.fresh 100 [NL] = some (3, []) := by rw [hC]; rfl
  have f12 : C.fresh 12 [encBxs l] = some (5, l.map encBx) := by rw [hC]; exact fre12 hlen
  rw [← hC]
  unfold Tab.F54
  refine W.seq (W.reg (WO.ops (fun ic => by simp; rfl) ?_))
  refine W.seq (W.reg (WO.ops (fun ic => by simp; rfl) ?_))
  refine W.seq (W.dreg ⟨0, _, by simp [evalOpsD, dropS, allocs, uCells, f89, f90, f91, f92, f93, nilckV]; rfl, ?_⟩)
  simp only [thenQ_normal]
  refine W.seq (W.seq (W.reg (WO.ops (fun ic => by simp [nilckV, lenV]; rfl) ?_)))
  refine W.blk (W.loop (W.seq (W.reg (WO.ops (fun ic => by simp; rfl) ?_))))
  refine W.seq (W.ite false (by simp) (W.exit ?_))
  simp only [blkQ_exit, if_true, thenQ_normal, thenQ_exit]
  by_cases hne : l = []
  · subst hne
    refine W.seq (W.reg (WO.ops (fun ic => by simp [f12]; rfl) ?_))
    refine W.seq (W.seq (W.reg (WO.ops (fun ic => by simp [lenV]; rfl) ?_)))
    refine W.blk (W.loop (W.seq (W.reg (WO.ops (fun ic => by simp; rfl) ?_))))
    refine W.seq (W.ite false (by simp) (W.exit ?_))
    simp only [blkQ_exit, if_true, thenQ_normal, thenQ_exit]
    refine W.seq (W.dregP rfl (WO.ops (fun ic => by simp [f95, f19, f96, f97]; rfl) ?_))
    refine W.seq (W.dreg ⟨0, _, by simp [evalOpsD, dropS, allocs, f98, f99, f100]; rfl, ?_⟩)
    simp only [thenQ_normal]
    refine W.seq (W.seq (W.reg (WO.ops (fun ic => by simp [lenV]; rfl) ?_)))
    refine W.blk (W.loop (W.seq (W.reg (WO.ops (fun ic => by simp; rfl) ?_))))
    refine W.seq (W.ite false (by simp) (W.exit ?_))
    simp only [blkQ_exit, if_true, thenQ_normal, thenQ_exit]
    refine W.seq (W.reg (WO.ops (fun ic => by simp; rfl) (W.ret ⟨.inr rfl, _, by simp; rfl, ?_⟩)))
    refine ⟨fun fr sl h => ?_, _, rfl, .inl ⟨rfl, rfl⟩⟩
    have : ¬ (fr = 0) := by omega
    simp [this]
  · refine W.seq (W.reg (WO.ops (fun ic => by simp [f12, hne]; rfl) ?_))
    refine W.seq (W.seq (W.reg (WO.ops (fun ic => by simp [lenV]; rfl) ?_)))
    refine W.blk ((L54_1_ok hC hlen hcs (g := 3) (g1 := 1) (cs0 := [.sl 5 [] .tight, .sl 6 [] .tight, .sl 6 [] .tight, I 0, .sl 6 [] .tight, .sl 6 [] .tight, .own 0 75 3 0 l.length 5, NL, NL, NL, I 1, NL, NL, NL, NL, I 0]) ?_ rfl l [] (l.map encBx) _ rfl (Likes.enc l) (by simp) (by simp) (by simp) (by simp) (upd2_same ?_).symm).mono fun e s h => ?_)
    rotate_left
    · simp
    · obtain ⟨rfl, hfr, h1, h2, L', hL', hs⟩ := h
      simp at h2
      simp only [blkQ_exit, if_true, thenQ_normal]
      refine W.seq (W.dregP rfl (WO.ops (fun ic => by simp [hfr, h1, hs, f95, f19, f96, f97]; rfl) ?_))
      refine W.seq (W.dreg ⟨0, _, by simp [evalOpsD, dropS, allocs, hfr, h1, hs, f98, f99, f100]; rfl, ?_⟩)
      simp only [thenQ_normal]
      refine W.seq (W.seq (W.reg (WO.ops (fun ic => by simp [lenV, hfr, h1, hs]; rfl) ?_)))
      refine W.blk (W.loop (W.seq (W.reg (WO.ops (fun ic => by simp; rfl) ?_))))
      refine W.seq (W.ite false (by simp) (W.exit ?_))
      simp only [blkQ_exit, if_true, thenQ_normal, thenQ_exit]
      refine W.seq (W.reg (WO.ops (fun ic => by simp [hfr, h1, h2, hs]; rfl) (W.ret ⟨.inr rfl, _, by simp [h2]; rfl, ?_⟩)))
      refine ⟨fun fr sl h => ?_, _, rfl, .inr ⟨hne, 3, L', rfl, by simp, hL'⟩⟩
      have : ¬ (fr = 0) := by omega
      simp [this, hs]
    · simp
end Go.TI
end
