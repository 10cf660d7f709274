/- A part of the proof of TopPackedBest: texts TkE to TkE. -/
import Derived.Test.YtpnjgmfkndbllaaGreatDoorZ12
/- A copy of boxes; a content is put. -/
section
set_option linter.unusedVariables false
set_option linter.unusedSimpArgs false
namespace Go.TI
open Go Go.Proofs
attribute [local simp] evalOps stepOp wantedT evalOp Opd.val St.put St.ok St.obj upd start args0 binV binI intCmp resultsV resV idxOf loadV partV storeV getCells getRows upd2 cellsOf putAt scal faddrV

/-! ### slices.Clone at boxes and contents -/
theorem mapO_rows {n : Nat} {rows : List (List V)} (h : ∀ r ∈ rows, ∀ x ∈ r, view (fun _ _ => none) n x = some x) : mapO (mapO (view (fun _ _ => none) n)) rows = some rows := mapO_id fun r hr => mapO_id (h r hr)
theorem cloneFre_slN {k b : Nat} {rows : List (List V)} (hb : rows.length * b ≤ room) (h : ∀ r ∈ rows, ∀ x ∈ r, view (fun _ _ => none) viewDepth x = some x) : cloneFre k b [slN k rows] = some (k, rows) := by
  cases rows with
  | nil => rfl
  | cons r rs => simp [cloneFre, slN, mapO_rows h]; simpa using hb
theorem fre94 {cs : List Ct} (h : cs.length ≤ 1000) {l : List (Spec P0)} : (specCfg P0 X l).fresh 94 [encCts cs] = some (2, cs.map encCt) := by
  show cloneFre 2 16 [slN 2 (cs.map encCt)] = _
  refine cloneFre_slN ?_ fun r hr => ?_
  · simp [room]; omega
  · obtain ⟨c, _, rfl⟩ := List.mem_map.1 hr; exact view_encCt
theorem fre12 {bs : List Bx} (h : bs.length ≤ 1000) {l : List (Spec P0)} : (specCfg P0 X l).fresh 12 [encBxs bs] = some (5, bs.map encBx) := by
  show cloneFre 5 56 [slN 5 (bs.map encBx)] = _
  refine cloneFre_slN ?_ fun r hr => ?_
  · simp [room]; omega
  · obtain ⟨c, _, rfl⟩ := List.mem_map.1 hr; exact view_encBx

/-- A box's row while it is copied. -/
def Like (r : List V) (b : Bx) : Prop := ∃ k m, r = [I b.id, I b.width, I b.room, I b.climate, .sl k (b.cs.map encCt) m] ∧ (b.cs ≠ [] → k = 2)
theorem Like.enc (b : Bx) : Like (encBx b) b := ⟨if (b.cs.map encCt).isEmpty then 0 else 2, .shared, rfl, fun h => by cases hb : b.cs with | nil => exact absurd hb h | cons => simp⟩
theorem Like.view {r : List V} {b : Bx} (h : Like r b) {s : Sto} {n : Nat} : mapO (view s (n + 2)) r = some (encBx b) := by
  obtain ⟨k, m, rfl, hk⟩ := h
  have h1 : TI.view s (n + 2) (.sl k (b.cs.map encCt) m) = some (encCts b.cs) := by
    simp only [TI.view]
    rw [mapO_rows (fun r hr => by obtain ⟨c, _, rfl⟩ := List.mem_map.1 hr; exact view_encCt)]
    cases hb : b.cs with
    | nil => simp [encCts, slN]
    | cons c cs => simp [encCts, hk (by simp [hb])]
  have h2 : ∀ x : Int, TI.view s (n + 2) (I x) = some (I x) := fun x => rfl
  simp only [mapO, h1, h2, encBx, Option.map_some]
theorem Like.view_cs {b : Bx} {k : Nat} {m : Mark} (hk : b.cs ≠ [] → k = 2) {s : Sto} : TI.view s viewDepth (.sl k (b.cs.map encCt) m) = some (encCts b.cs) := by
  simp only [TI.view, viewDepth]
  rw [mapO_rows (fun r hr => by obtain ⟨c, _, rfl⟩ := List.mem_map.1 hr; exact view_encCt)]
  cases hb : b.cs with
  | nil => simp [encCts, slN]
  | cons c cs => simp [encCts, hk (by simp [hb])]
def Likes : List (List V) → List Bx → Prop
  | [], [] => True
  | r :: L, b :: l => Like r b ∧ Likes L l
  | _, _ => False
theorem Likes.enc : ∀ l : List Bx, Likes (l.map encBx) l
  | [] => trivial
  | b :: l => ⟨.enc b, Likes.enc l⟩
theorem Likes.length : ∀ {L : List (List V)} {l : List Bx}, Likes L l → L.length = l.length
  | [], [], _ => rfl
  | _ :: _, _ :: _, h => by simp [Likes.length h.2]
theorem Likes.view : ∀ {L : List (List V)} {l : List Bx}, Likes L l → ∀ {s : Sto} {n : Nat}, mapO (mapO (view s (n + 2))) L = some (l.map encBx)
  | [], [], _, _, _ => rfl
  | _ :: _, _ :: _, h, s, n => by simp only [mapO, h.1.view, Likes.view h.2, Option.map_some, List.map_cons]
theorem Likes.at : ∀ {L : List (List V)} {l : List Bx}, Likes L l → ∀ {j : Nat} {b : Bx}, l[j]? = some b → ∃ r, L[j]? = some r ∧ Like r b := by
  intro L
  induction L with
  | nil => intro l h j b hb; cases l with | nil => simp at hb | cons => exact h.elim
  | cons x L ih =>
    intro l h j b hb
    cases l with
    | nil => exact h.elim
    | cons y l =>
      cases j with
      | zero => simp at hb; subst hb; exact ⟨x, rfl, h.1⟩
      | succ j => simpa using ih h.2 (j := j) (b := b) (by simpa using hb)
theorem Likes.set : ∀ {L : List (List V)} {l : List Bx}, Likes L l → ∀ {j : Nat} {r : List V} {b : Bx}, Like r b → Likes (L.set j r) (l.set j b) := by
  intro L
  induction L with
  | nil => intro l h j r b hb; cases l with | nil => trivial | cons => exact h.elim
  | cons x L ih =>
    intro l h j r b hb
    cases l with
    | nil => exact h.elim
    | cons y l =>
      cases j with
      | zero => exact ⟨hb, h.2⟩
      | succ j => exact ⟨h.1, ih h.2 hb⟩

theorem L322_0_ok {p : List (Spec P0)} {C : Cfg} (hC : C = specCfg P0 X p) {l : List Bx} (hlen : l.length ≤ 1000) (hcs : ∀ b ∈ l, b.cs.length ≤ 1000) {fr g : Nat} {s0 : Sto} : ∀ (rest pre : List Bx) (L : List (List V)) (st : St), l = pre ++ rest → Likes L l → st.fr = fr → st.t 3 = .own fr 6 g 0 l.length 5 → st.t 8 = I l.length → st.t 9 = I pre.length → st.s = upd2 s0 fr 6 (some (g, .rows 5 L)) →
    W C Tab.L322_0 st fun e st' => e = .exit 0 ∧ st'.t 3 = .own fr 6 g 0 l.length 5 ∧ ∃ L', Likes L' l ∧ st'.s = upd2 s0 fr 6 (some (g, .rows 5 L')) := by
  intro rest
  induction rest with
  | nil =>
    intro pre L st hl0 hL hfr h3 h8 h9 hs
    have hp : pre = l := by simpa using hl0.symm
    subst hp
    refine W.loop (W.seq (W.reg (WO.ops (fun ic => by simp [h8, h9]; rfl) ?_)))
    refine W.seq (W.ite false (by simp) ?_)
    exact W.exit ⟨rfl, by simp [h3], L, hL, by simp [hs]⟩
  | cons b rest ih =>
    intro pre L st hl0 hL hfr h3 h8 h9 hs
    have hl : pre.length < l.length := by rw [hl0]; simp
    refine W.loop (W.seq (W.reg (WO.ops (fun ic => by simp [h8, h9]; rfl) ?_)))
    refine W.seq (W.ite true (by simp [hl]) (W.skip ?_))
    obtain ⟨r, hr, hrb⟩ := hL.at (j := pre.length) (b := b) (by rw [hl0]; simp)
    have hlL : pre.length < L.length := by rw [hL.length]; exact hl
    have hat : iaddrV st.s 5 (pre.length : Int) (.own fr 6 g 0 l.length 5) = some (.rptr fr 6 g 5 pre.length 0) := by
      simp [iaddrV, hs, hl, hlL]
    obtain ⟨k, m, rfl, hk⟩ := hrb
    have hv : ∀ s, view s viewDepth (.sl k (b.cs.map encCt) m) = some (encCts b.cs) := fun s => by
      have := Like.view (r := [I b.id, I b.width, I b.room, I b.climate, .sl k (b.cs.map encCt) m]) (b := b) ⟨k, m, rfl, hk⟩ (s := s) (n := 6)
      simp only [mapO, encBx] at this
      revert this
      show _ → TI.view s 8 _ = _
      cases TI.view s 8 (.sl k (b.cs.map encCt) m) with
      | none => simp [TI.view]
      | some v => simp [TI.view]
    have hf : C.fresh 94 [encCts b.cs] = some (2, b.cs.map encCt) := by rw [hC]; exact fre94 (hcs b (by rw [hl0]; simp))
    refine W.seq (W.blk (W.seq (W.reg (WO.ops (fun ic => by simp [h9]; rfl) ?_))))
    have hrf : refs viewDepth (.sl k (b.cs.map encCt) m) = false := rfl
    have hr2 : L[pre.length] = [I b.id, I b.width, I b.room, I b.climate, .sl k (b.cs.map encCt) m] := by
      rw [List.getElem?_eq_getElem hlL] at hr; injection hr
    have next : ∀ (st' : St) (m' : Mark), st'.fr = fr → st'.t 3 = .own fr 6 g 0 l.length 5 → st'.t 8 = I l.length → st'.t 9 = I pre.length → st'.s = upd2 s0 fr 6 (some (g, .rows 5 (L.set pre.length [I b.id, I b.width, I b.room, I b.climate, .sl 2 (b.cs.map encCt) m']))) →
        W C (.reg [Tab.o 22 (.bin .add (Tab.t 9) (Tab.i 1)), Tab.o 9 (.mv (Tab.t 22))]) st' (thenQ (fun s => W C Tab.L322_0 s fun e st' => e = .exit 0 ∧ st'.t 3 = .own fr 6 g 0 l.length 5 ∧ ∃ L', Likes L' l ∧ st'.s = upd2 s0 fr 6 (some (g, .rows 5 L'))) fun e st' => e = .exit 0 ∧ st'.t 3 = .own fr 6 g 0 l.length 5 ∧ ∃ L', Likes L' l ∧ st'.s = upd2 s0 fr 6 (some (g, .rows 5 L'))) := by
      intro st' m' hfr' h3' h8' h9' hs'
      refine W.reg (WO.ops (fun ic => by simp [h9']; rfl) ?_)
      have hset : l.set pre.length b = l := by rw [hl0]; simp
      refine ih (pre ++ [b]) _ _ (by simp [hl0]) ?_ (by simp [hfr']) (by simp [h3']) (by simp [h8']) ?_ (by simp; exact hs')
      · have := hL.set (j := pre.length) (r := [I b.id, I b.width, I b.room, I b.climate, .sl 2 (b.cs.map encCt) m']) (b := b) ⟨2, m', rfl, fun _ => rfl⟩
        rwa [hset] at this
      · simp
        exact wrap_id (by omega) (by omega)
    cases hb : b.cs with
    | nil =>
      simp only [hb, List.map_nil] at hf hv hr2 hrf next
      refine W.reg (WO.ops (fun ic => by simp [hfr, h3, hs, hat, iaddrV, hl, hlL, hr2, hv, hf, hrf]; rfl) ?_)
      exact next _ .tight (by simp [hfr]) (by simp [h3]) (by simp [h8]) (by simp [h9]) (by simp [upd2_upd2])
    | cons c cs =>
      simp only [hb, List.map_cons] at hf hv hr2 hrf next
      refine W.reg (WO.ops (fun ic => by simp [hfr, h3, hs, hat, iaddrV, hl, hlL, hr2, hv, hf, hrf]; rfl) ?_)
      exact next _ (.tok st.n) (by simp [hfr]) (by simp [h3]) (by simp [h8]) (by simp [h9]) (by simp [upd2_upd2])

/-- box.clone, in its caller's store. -/
theorem clone322 {p : List (Spec P0)} {C : Cfg} (hC : C = specCfg P0 X p) {l : List Bx} (hne : l ≠ []) (hlen : l.length ≤ 1000) (hcs : ∀ b ∈ l, b.cs.length ≤ 1000) (st : St) :
    W C Tab.F322.body (enter [encBxs l] st) fun e s => (e = .normal ∨ e = .ret) ∧ ∃ v, resultsV s Tab.F322.res = some v ∧ ∃ g, v = .own st.n 6 g 0 l.length 5 ∧ ∃ L, Likes L l ∧ s.s = upd2 st.s st.n 6 (some (g, .rows 5 L)) := by
  have hf : C.fresh 12 [encBxs l] = some (5, l.map encBx) := by rw [hC]; exact fre12 hlen
  unfold Tab.F322
  refine W.seq (W.reg (WO.ops (fun ic => rfl) ?_))
  refine W.seq (W.reg (WO.ops (fun ic => by simp [enter, hf, hne]; rfl) ?_))
  refine W.seq (W.seq (W.reg (WO.ops (fun ic => by simp [lenV, enter]; rfl) ?_)))
  refine W.blk ((L322_0_ok hC hlen hcs (fr := st.n) (g := st.n + 1) (s0 := st.s) l [] (l.map encBx) _ rfl (Likes.enc l) (by simp) (by simp) (by simp) (by simp) (by simp)).mono fun e s h => ?_)
  obtain ⟨rfl, h3, L, hL, hs⟩ := h
  simp only [blkQ_exit, if_true, thenQ_normal]
  refine W.seq (W.reg (WO.ops (fun ic => by simp [h3]; rfl) (W.ret ⟨.inr rfl, _, by simp; rfl, st.n + 1, by simp, L, hL, by simp [hs]⟩)))

/-! ### Put at index 0 -/
def insAt (l : List Bx) (i : Nat) (c : Ct) : List Bx := l.modify i fun b => { b with cs := c :: b.cs }
end Go.TI
end
