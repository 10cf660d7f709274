/- A part of the proof of TopPackedBest: texts TkW to TkW. -/
import Derived.Test.YtpnjgmfkndbllaaGreatDoorZ30
/- Lists of lists of numbers; the packing in order. -/
section
set_option linter.unusedVariables false
set_option linter.unusedSimpArgs false
set_option maxRecDepth 1000000
namespace Go.TI
open Go Go.Proofs
attribute [local simp] evalOps stepOp wantedT evalOp Opd.val St.put St.ok St.obj upd start args0 binV binI intCmp resultsV resV idxOf loadV partV storeV getCells getRows upd2 cellsOf putAt scal faddrV

def isR (l : List Int) : List (List V) := l.map fun x => [I x]
def encII (ll : List (List Int)) : V := slN 1 (ll.map fun l => [encInts l])
theorem mapO_isR {n : Nat} {l : List Int} : mapO (mapO (view (fun _ _ => none) (n + 1))) (isR l) = some (isR l) := mapO_id fun r hr => mapO_id fun x hx => by
  obtain ⟨c, _, rfl⟩ := List.mem_map.1 hr
  simp only [List.mem_cons, List.not_mem_nil, or_false] at hx
  subst hx; rfl
/-- A row that holds a list of numbers. -/
def LikeI (r : List V) (l : List Int) : Prop := ∃ k m, r = [.sl k (isR l) m] ∧ (l ≠ [] → k = 1)
theorem LikeI.view {r : List V} {l : List Int} (h : LikeI r l) {s : Sto} {n : Nat} : mapO (view s (n + 2)) r = some [encInts l] := by
  obtain ⟨k, m, rfl, hk⟩ := h
  have h1 : TI.view s (n + 2) (.sl k (isR l) m) = some (encInts l) := by
    simp only [TI.view, mapO_isR]
    cases hb : l with
    | nil => simp [encInts, slN, isR]
    | cons c cs => simp [encInts, isR, hk (by simp [hb])]
  simp only [mapO, h1, Option.map_some]
def LikesI : List (List V) → List (List Int) → Prop
  | [], [] => True
  | r :: L, b :: l => LikeI r b ∧ LikesI L l
  | _, _ => False
theorem LikesI.length : ∀ {L : List (List V)} {l : List (List Int)}, LikesI L l → L.length = l.length
  | [], [], _ => rfl
  | _ :: _, _ :: _, h => by simp [LikesI.length h.2]
theorem LikesI.view : ∀ {L : List (List V)} {l : List (List Int)}, LikesI L l → ∀ {s : Sto} {n : Nat}, mapO (mapO (view s (n + 2))) L = some (l.map fun l => [encInts l])
  | [], [], _, _, _ => rfl
  | _ :: _, _ :: _, h, s, n => by simp only [mapO, h.1.view, LikesI.view h.2, Option.map_some, List.map_cons]
theorem LikesI.append : ∀ {L : List (List V)} {l : List (List Int)}, LikesI L l → ∀ {r : List V} {b : List Int}, LikeI r b → LikesI (L ++ [r]) (l ++ [b]) := by
  intro L
  induction L with
  | nil => intro l h r b hb; cases l with | nil => exact ⟨hb, trivial⟩ | cons => exact h.elim
  | cons x L ih =>
    intro l h r b hb
    cases l with
    | nil => exact h.elim
    | cons y l => exact ⟨h.1, ih h.2 hb⟩
theorem view_ownII {s : Sto} {fr sl g n d : Nat} {L : List (List V)} {ll : List (List Int)} (hL : LikesI L ll) (hn : ll.length = n) (hs : s fr sl = some (g, .rows 1 L)) : view s (d + 3) (.own fr sl g 0 n 1) = some (encII ll) := by
  have hl := hL.length
  subst hn
  have hv : mapO (mapO (view s (d + 2))) L = some (ll.map fun l => [encInts l]) := hL.view
  simp only [view, hs]
  simp [hl, List.take_of_length_le (Nat.le_of_eq hl), hv, encII]

/-! ### the packing in order -/
/-- What comes: boxes that are closed, the last one, the room that is left. -/
def nf (r : Int) : List Int → Int → List (List Int) → List Int → Int → List (List Int)
  | [], _, pre, last, _ => pre ++ [last]
  | s :: rest, i, pre, last, left => if s > left then nf r rest (i + 1) (pre ++ [last]) [i] (r - s) else nf r rest (i + 1) pre (last ++ [i]) (left - s)
def nfAll (r : Int) : List Int → List (List Int)
  | [] => []
  | s :: rest => nf r rest 1 [] [0] (r - s)

/-- The state while pieces come. -/
structure NfSt (st : St) (pre : List (List Int)) (last : List Int) (left : Int) : Prop where
  out : ∃ g gt L, st.t 6 = .own 0 26 g 0 (pre.length + 1) 1 ∧ st.s 0 26 = some (g, .rows 1 (L ++ [[.sl 1 (isR last) (.tok gt)]])) ∧ LikesI L pre ∧ st.τ gt = true
  left : st.t 7 = I left

theorem L9_0_ok {C : Cfg} {sz : List Int} {r : Int} (hr : 1 ≤ r ∧ r ≤ 10000) (hsz : ∀ s ∈ sz, 1 ≤ s ∧ s ≤ r) (hlen : sz.length ≤ 10) :
    ∀ (rest done : List Int) (pre : List (List Int)) (last : List Int) (left : Int) (st : St), sz = done ++ rest → pre.length ≤ done.length → last.length ≤ done.length → 0 ≤ left ∧ left ≤ r → st.fr = 0 → st.t 1 = I r → st.t 14 = encInts sz → st.t 15 = I sz.length → st.t 16 = I done.length → NfSt st pre last left →
    W C Tab.L9_0 st fun e st' => e = .exit 0 ∧ ∃ g L, st'.t 6 = .own 0 26 g 0 (nf r rest done.length pre last left).length 1 ∧ st'.s 0 26 = some (g, .rows 1 L) ∧ LikesI L (nf r rest done.length pre last left) := by
  intro rest
  induction rest with
  | nil =>
    intro done pre last left st hd hpl hll hleft hfr h1 h14 h15 h16 hN
    have hdz : done = sz := by simpa using hd.symm
    subst hdz
    obtain ⟨⟨g, gt, L, h6, hs, hL, hτ⟩, h7⟩ := hN
    refine W.loop (W.seq (W.reg (WO.ops (fun ic => by simp [h15, h16]; rfl) ?_)))
    refine W.seq (W.ite false (by simp) ?_)
    exact W.exit ⟨rfl, g, _, by simp [h6, nf], by simp [hs]; rfl, hL.append ⟨1, _, rfl, fun _ => rfl⟩⟩
  | cons s rest ih =>
    intro done pre last left st hd hpl hll hleft hfr h1 h14 h15 h16 hN
    obtain ⟨⟨g, gt, L, h6, hs, hL, hτ⟩, h7⟩ := hN
    have hl : done.length < sz.length := by rw [hd]; simp
    have hsb : 1 ≤ s ∧ s ≤ r := hsz s (by rw [hd]; simp)
    have hat : ∀ st, iaddrV st 1 (done.length : Int) (encInts sz) = some (.vptr [I s] 0) := fun st => atInts (by rw [hd]; simp)
    have hLl := hL.length
    have hwi : IntKind.i64.wrap ((done.length : Int) + 1) = ((done ++ [s]).length : Int) := by rw [wrap_id (by omega) (by omega)]; simp
    have hcl : ((done ++ [s]).length : Int) = (done.length : Int) + 1 := by simp
    -- the end of a round
    have fin : ∀ (st' : St) (pre' : List (List Int)) (last' : List Int) (left' : Int), pre'.length ≤ done.length + 1 → last'.length ≤ done.length + 1 → 0 ≤ left' ∧ left' ≤ r → st'.fr = 0 → st'.t 1 = I r → st'.t 14 = encInts sz → st'.t 15 = I sz.length → st'.t 16 = I done.length → NfSt st' pre' last' left' → nf r (s :: rest) done.length pre last left = nf r rest ((done ++ [s]).length : Nat) pre' last' left' →
        W C (.reg [Tab.o 45 (.bin .add (Tab.t 16) (Tab.i 1)), Tab.o 16 (.mv (Tab.t 45))]) st' (thenQ (fun s => W C Tab.L9_0 s fun e st'' => e = .exit 0 ∧ ∃ g L, st''.t 6 = .own 0 26 g 0 (nf r (sz.drop done.length) done.length pre last left).length 1 ∧ st''.s 0 26 = some (g, .rows 1 L) ∧ LikesI L (nf r (sz.drop done.length) done.length pre last left)) fun e st'' => e = .exit 0 ∧ ∃ g L, st''.t 6 = .own 0 26 g 0 (nf r (sz.drop done.length) done.length pre last left).length 1 ∧ st''.s 0 26 = some (g, .rows 1 L) ∧ LikesI L (nf r (sz.drop done.length) done.length pre last left)) := by
      intro st' pre' last' left' k1 k2 k3 k4 k5 k6 k7 k8 k9 k10
      have hdrop : sz.drop done.length = s :: rest := by rw [hd]; simp
      rw [hdrop, k10]
      refine W.reg (WO.ops (fun ic => by simp [k8, hwi]; rfl) ?_)
      simp only [thenQ_normal]
      obtain ⟨⟨g', gt', L', j1, j2, j3, j4⟩, j5⟩ := k9
      exact ih (done ++ [s]) pre' last' left' _ (by simp [hd]) (by simpa using k1) (by simpa using k2) k3 (by simp [k4]) (by simp [k5]) (by simp [k6]) (by simp [k7]) (by simp) ⟨⟨g', gt', L', by simp [j1], by simp [j2], j3, by simp [j4]⟩, by simp [j5]⟩
    have hdrop : sz.drop done.length = s :: rest := by rw [hd]; simp
    rw [← hdrop]
    obtain ⟨n1, hn1⟩ : ∃ n1, n1 = pre.length + 1 := ⟨_, rfl⟩
    rw [← hn1] at h6
    have hwn : IntKind.i64.wrap (n1 : Int) = n1 := wrap_id (by omega) (by omega)
    refine W.loop (W.seq (W.reg (WO.ops (fun ic => by simp [h15, h16]; rfl) ?_)))
    refine W.seq (W.ite true (by simp [hl]) (W.skip ?_))
    refine W.seq (W.blk (W.seq (W.reg (WO.ops (fun ic => by simp [h14, h16, hat]; rfl) ?_))))
    refine W.seq (W.seq (W.reg (WO.ops (fun ic => by simp [h7]; rfl) ?_)))
    by_cases hgt : s > left
    · have hw1 : IntKind.i64.wrap (r - s) = r - s := wrap_id (by omega) (by omega)
      have hroom : (n1 + 1) * 24 ≤ room := by simp [room]; omega
      obtain ⟨L', hL'⟩ : ∃ L', L' = L ++ [[.sl 1 (isR last) (.tok gt)]] := ⟨_, rfl⟩
      have hLk : LikesI L' (pre ++ [last]) := by rw [hL']; exact hL.append ⟨1, _, rfl, fun _ => rfl⟩
      rw [← hL'] at hs
      have hll' : L'.length = n1 := by rw [hL', hn1]; simp [hLl]
      have htake : List.take n1 L' = L' := List.take_of_length_le (by omega)
      have hget : ∀ x, (L' ++ [x])[n1]? = some x := fun x => by rw [← hll']; simp
      have hget' : ∀ x h, (L' ++ [x])[n1]'h = x := fun x h => by have := hget x; rw [List.getElem?_eq_getElem h] at this; injection this
      have hset : ∀ x y, (L' ++ [x]).set n1 y = L' ++ [y] := fun x y => by rw [← hll']; simp
      refine W.ite true (by simp; omega) (W.seq (W.reg (WO.ops (fun ic => by simp [hfr, h6, hs, fillR, rowsOf, hll', hroom, isSl, htake]; rfl) ?_)))
      refine W.reg (WO.ops (fun ic => by simp [h1]; rfl) ?_)
      simp only [thenQ_normal]
      refine W.seq (W.reg (WO.ops (fun ic => by simp [hw1]; rfl) ?_))
      have hlt : (n1 : Int) < (n1 : Int) + 1 := by omega
      refine W.reg (WO.ops (fun ic => by simp [hfr, lenV, hwn, iaddrV, hlt, hll', hget, hget', hset, fillR, rowsOf, room]; rfl) ?_)
      simp only [blkQ_normal, thenQ_normal]
      refine fin _ (pre ++ [last]) [(done.length : Int)] (r - s) (by simp; omega) (by simp) (by omega) (by simp [hfr]) (by simp [h1]) (by simp [h14]) (by simp [h15]) (by simp [h16]) ⟨⟨st.n, st.n + 1, L', ?_, ?_, hLk, by simp⟩, by simp⟩ ?_
      · simp [hn1]
      · simp [isR]
      · simp [nf, hgt]
    · have hw1 : IntKind.i64.wrap (left - s) = left - s := wrap_id (by omega) (by omega)
      rw [hn1] at h6
      have hwp : IntKind.i64.wrap (pre.length : Int) = pre.length := wrap_id (by omega) (by omega)
      have hget : ∀ x, (L ++ [x])[pre.length]? = some x := fun x => by rw [← hLl]; simp
      have hget' : ∀ x h, (L ++ [x])[pre.length]'h = x := fun x h => by have := hget x; rw [List.getElem?_eq_getElem h] at this; injection this
      have hset : ∀ x y, (L ++ [x]).set pre.length y = L ++ [y] := fun x y => by rw [← hLl]; simp
      have hlt : (pre.length : Int) < (pre.length : Int) + 1 := by omega
      have hir : (isR last).length = last.length := by simp [isR]
      have hroom2 : (last.length + 1) * 8 ≤ room := by simp [room]; omega
      refine W.ite false (by simp; omega) (W.skip ?_)
      simp only [thenQ_normal]
      refine W.seq (W.reg (WO.ops (fun ic => by simp [h7, hw1]; rfl) ?_))
      refine W.reg (WO.ops (fun ic => by simp [hfr, h6, hs, lenV, hwp, iaddrV, hlt, hLl, hget, hget', hset, fillR, rowsOf, hir, hroom2, hτ]; rfl) ?_)
      simp only [blkQ_normal, thenQ_normal]
      refine fin _ pre (last ++ [(done.length : Int)]) (left - s) (by omega) (by simp; omega) (by omega) (by simp [hfr]) (by simp [h1]) (by simp [h14]) (by simp [h15]) (by simp [h16]) ⟨⟨g, st.n, L, ?_, ?_, hL, by simp⟩, by simp⟩ ?_
      · simp [h6]
      · simp [isR]
      · simp [nf, hgt]

def res9 (sz : List Int) (r : Int) : V := if chk sz r = 0 then .tup [encII (nfAll r sz), I 0] else .tup [NL, I 1]
theorem p9 (sz : List Int) (r : Int) (hl : sz.length ≤ 10) : PureOk P0 9 [encInts sz, I r] (res9 sz r) := by
  refine pure_run (F := Tab.F9) rfl rfl [spec33] ?_
  obtain ⟨C, hC⟩ : ∃ C, C = specCfg P0 X [spec33] := ⟨_, rfl⟩
  have h33 : C.ora 33 [encInts sz, I r] = some (I (chk sz r)) := by rw [hC]; exact oraOf_at (by simp) spec33 (by simp) (⟨sz, by omega⟩, r)
  have i33 : C.imp 33 = false := by rw [hC]; rfl
  rw [← hC]
  unfold Tab.F9
  refine W.seq (W.reg (WO.ops (fun ic => rfl) ?_))
  refine W.seq (W.seq (W.reg (WO.ops (fun ic => by simp [i33, h33]; rfl) ?_)))
  by_cases h0 : chk sz r = 0
  · obtain ⟨hr, hsz⟩ := chk_0.1 h0
    refine W.ite false (by simp [h0]) (W.skip ?_)
    refine W.seq (W.reg (WO.ops (fun ic => rfl) ?_))
    refine W.seq (W.reg (WO.ops (fun ic => rfl) ?_))
    refine W.seq (W.seq (W.reg (WO.ops (fun ic => by simp [lenInts]; rfl) ?_)))
    cases sz with
    | nil =>
      refine W.blk (W.loop (W.seq (W.reg (WO.ops (fun ic => by simp; rfl) ?_))))
      refine W.seq (W.ite false (by simp) (W.exit ?_))
      simp only [blkQ_exit, if_true, thenQ_normal, thenQ_exit]
      refine W.seq (W.reg (WO.ops (fun ic => by simp; rfl) (W.ret ⟨.inr rfl, ?_⟩)))
      simp [res9, h0, nfAll]
      rfl
    | cons s rest =>
      have hsb := hsz s (by simp)
      have hw1 : IntKind.i64.wrap (r - s) = r - s := wrap_id (by omega) (by omega)
      have hat : ∀ st, iaddrV st 1 0 (encInts (s :: rest)) = some (.vptr [I s] 0) := fun st => atInts (j := 0) rfl
      have hpos : ((0 : Int) < s) := by omega
      have hw01 : IntKind.i64.wrap (1 : Int) = 1 := by decide
      have hw00 : IntKind.i64.wrap (0 : Int) = 0 := by decide
      refine W.blk (W.loop (W.seq (W.reg (WO.ops (fun ic => by simp; rfl) ?_))))
      refine W.seq (W.ite true (by simp) (W.skip ?_))
      refine W.seq (W.blk (W.seq (W.reg (WO.ops (fun ic => by simp [hat]; rfl) ?_))))
      refine W.seq (W.seq (W.reg (WO.ops (fun ic => by simp; rfl) ?_)))
      refine W.ite true (by simp [hpos]) (W.seq (W.reg (WO.ops (fun ic => by simp [fillR, rowsOf, room]; rfl) ?_)))
      refine W.reg (WO.ops (fun ic => by simp; rfl) ?_)
      simp only [thenQ_normal]
      refine W.seq (W.reg (WO.ops (fun ic => by simp [hw1]; rfl) ?_))
      refine W.reg (WO.ops (fun ic => by simp [lenV, hw00, iaddrV, fillR, rowsOf, room]; rfl) ?_)
      simp only [blkQ_normal, thenQ_normal]
      refine W.reg (WO.ops (fun ic => by simp [hw01]; rfl) ?_)
      simp only [thenQ_normal]
      refine (L9_0_ok hr hsz hl rest [s] [] [0] (r - s) _ rfl (by simp) (by simp) (by omega) (by simp) (by simp) (by simp) (by simp) (by simp [hw01]) ⟨⟨1, 2, [], by simp, by simp [isR, hw00], trivial, by simp⟩, by simp⟩).mono fun e s2 h => ?_
      obtain ⟨rfl, g, L, h6, hs, hL⟩ := h
      simp only [blkQ_exit, if_true, thenQ_normal]
      refine W.seq (W.reg (WO.ops (fun ic => by simp [h6]; rfl) (W.ret ⟨.inr rfl, ?_⟩)))
      simp [res9, h0]
      exact view_tup2 (view_ownII (d := 4) hL rfl hs)
  · refine W.ite true (by simp [h0]) (W.seq (W.reg (WO.ops (fun ic => by simp; rfl) (W.ret ⟨.inr rfl, ?_⟩))))
    simp [res9, h0]
    rfl
def spec9 : Spec P0 := { K := 9, A := { l : List Int // l.length ≤ 10 } × Int, args := fun a => [encInts a.1.1, I a.2], res := fun a => res9 a.1.1 a.2, inj := fun a b h => by rw [injIs h], body := Tab.b9, ok := fun a => p9 _ _ a.1.2 }
end Go.TI
end
