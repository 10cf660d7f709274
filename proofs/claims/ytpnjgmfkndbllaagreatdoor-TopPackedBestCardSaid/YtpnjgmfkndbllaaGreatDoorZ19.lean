/- A part of the proof of TopPackedBest: texts TkM to TkM. -/
import Derived.Test.YtpnjgmfkndbllaaGreatDoorZ18
/- A content is put, by an event; a box is added. -/
section
set_option linter.unusedVariables false
set_option linter.unusedSimpArgs false
set_option maxRecDepth 1000000
namespace Go.TI
open Go Go.Proofs
attribute [local simp] evalOps stepOp wantedT evalOp Opd.val St.put St.ok St.obj upd start args0 binV binI intCmp resultsV resV idxOf loadV partV storeV getCells getRows upd2 cellsOf putAt scal faddrV

/-- The numbers of an event. -/
def nums (a b c d : Int) : V := .sl 1 [[I a], [I b], [I c], [I d]] .shared
/-- What stands behind the state in a desk: no rows, the event. -/
def evCells (k : Int) (n : V) : List V := [I 0, I 0, I k, n, NL]
theorem view_nums {s : Sto} {n : Nat} {a b c d : Int} : view s (n + 2) (nums a b c d) = some (nums a b c d) := rfl

theorem p258 (l : List Bx) (n : Int) (h1 : 1 ≤ n) (h2 : n ≤ 1073741824) (ev : List V) : PureOk P0 258 [.vptr (uCells l ++ ev) 0, I n] (B false) := by
  refine pure_run (F := Tab.F258) rfl rfl [spec44] ?_
  have h44 : (specCfg P0 X [spec44]).ora 44 [.agg (uCells l), I n] = some (.agg [I 0, I 0]) := oraOf_at (by simp) spec44 (by simp) (l, ⟨n, h1, h2⟩)
  have i44 : (specCfg P0 X [spec44]).imp 44 = false := rfl
  have ht : List.take 16 (uCells l ++ ev) = uCells l := by rw [List.take_append_of_le_length (by simp)]; rfl
  unfold Tab.F258
  refine W.seq (W.reg (WO.ops (fun ic => by simp; rfl) ?_))
  refine W.seq (W.reg (WO.ops (fun ic => by simp [nilckV, ht, i44, h44]; rfl) (W.ret ⟨.inr rfl, ?_⟩)))
  simp
def spec258 : Spec P0 := { K := 258, A := { a : List Bx × Int × List V // 1 ≤ a.2.1 ∧ a.2.1 ≤ 1073741824 }, args := fun a => [.vptr (uCells a.1.1 ++ a.1.2.2) 0, I a.1.2.1], res := fun a => B false, inj := fun _ _ _ => rfl, body := Tab.b258, ok := fun a => p258 _ _ a.2.1 a.2.2 _ }
theorem spec259_inj (hI : InsOk) (a b : { a : List Bx × Int × Ct // GoodL a.1 ∧ GoodCt a.2.2 ∧ a.2.2.unit ∉ unitsOf a.1 ∧ ∀ b ∈ a.1, b.cs.length < 32 }) (h : [encBxs a.1.1, I a.1.2.1, I 0, .agg (encCt a.1.2.2)] = [encBxs b.1.1, I b.1.2.1, I 0, .agg (encCt b.1.2.2)]) : res259 a.1.1 a.1.2.1 a.1.2.2 = res259 b.1.1 b.1.2.1 b.1.2.2 := by
  simp only [List.cons.injEq, V.lit.injEq, Value.int.injEq, V.agg.injEq, true_and, and_true] at h
  rw [encBxs_inj h.1, h.2.1, encCt_inj h.2.2]
def spec259 (hI : InsOk) : Spec P0 := { K := 259, A := { a : List Bx × Int × Ct // GoodL a.1 ∧ GoodCt a.2.2 ∧ a.2.2.unit ∉ unitsOf a.1 ∧ ∀ b ∈ a.1, b.cs.length < 32 }, args := fun a => [encBxs a.1.1, I a.1.2.1, I 0, .agg (encCt a.1.2.2)], res := fun a => res259 a.1.1 a.1.2.1 a.1.2.2, inj := spec259_inj hI, body := Tab.b259, ok := fun a => p259 hI _ a.2.1 _ _ a.2.2.1 a.2.2.2.1 a.2.2.2.2 }

/-- The boxes of a desk: none, or the desk's own. -/
def Own (s : Sto) (bv : V) (l : List Bx) : Prop := (l = [] ∧ bv = .sl 5 [] .tight) ∨ (l ≠ [] ∧ ∃ fr sl g L, 0 < fr ∧ bv = .own fr sl g 0 l.length 5 ∧ s fr sl = some (g, .rows 5 L) ∧ Likes L l)
theorem Own.scal {s : Sto} {bv : V} {l : List Bx} (h : Own s bv l) : scal bv = true := by
  rcases h with ⟨_, rfl⟩ | ⟨_, fr, sl, g, L, _, rfl, _⟩ <;> rfl
theorem Own.view {s : Sto} {bv : V} {l : List Bx} (h : Own s bv l) {n : Nat} : view s (n + 3) bv = some (encBxs l) := by
  rcases h with ⟨rfl, rfl⟩ | ⟨hne, fr, sl, g, L, _, rfl, hs, hL⟩
  · rfl
  · have hv : mapO (mapO (TI.view s (n + 2))) L = some (l.map encBx) := hL.view
    have hl := hL.length
    simp only [TI.view, hs]
    simp [hl, List.take_of_length_le (Nat.le_of_eq hl), hv, encBxs]
theorem view_desk {s : Sto} {bv : V} {l : List Bx} (h : Own s bv l) {k : Int} {n : V} {m : Nat} (hn : view s (m + 3) n = some n) : mapO (view s (m + 3)) (uClone bv ++ NL :: evCells k n) = some (uCells l ++ NL :: evCells k n) := by
  have e1 : ∀ j, view s (m + 3) (.sl j [] .tight) = some NL := fun j => rfl
  have e2 : ∀ x, view s (m + 3) (I x) = some (I x) := fun x => rfl
  have e3 : view s (m + 3) NL = some NL := rfl
  simp only [uClone, evCells, uCells, List.cons_append, List.nil_append, mapO, e1, e2, e3, h.view, hn, Option.map_some]

theorem set257 {C : Cfg} {st : St} {p : V} {fr sl g off : Nat} {cs : List V} (hp : p = .ptr fr sl g off) (hs : st.s fr sl = some (g, .cells cs)) (ho : off < cs.length) (x : V) (hx : scal x = true) (hx1 : cellsOf x = [x]) (e : Int) {Q : Ex → St → Prop}
    (hok : e = 0 → ∀ s : St, s.s = upd2 st.s fr sl (some (g, .cells (putAt cs off [x]))) → s.τ = st.τ → s.n = st.n + 1 → resultsV s Tab.F257.res = some (I e) → Q .ret s)
    (her : e ≠ 0 → ∀ s : St, s.s = st.s → s.τ = st.τ → s.n = st.n + 1 → resultsV s Tab.F257.res = some (I e) → Q .ret s) : W C Tab.F257.body (enter [p, x, I e] st) Q := by
  subst hp
  unfold Tab.F257
  refine W.seq (W.reg (WO.ops (fun ic => rfl) ?_))
  refine W.seq (W.seq (W.reg (WO.ops (fun ic => by simp [enter]; rfl) ?_)))
  by_cases h0 : e = 0
  · subst h0
    have hst : storeV st.s 1 x (.ptr fr sl g off) = some (upd2 st.s fr sl (some (g, .cells (putAt cs off [x])))) := by
      simp only [storeV, getCells, hs, hx1, Option.bind_some, if_true]
      rw [if_pos ⟨rfl, by omega, by simpa using hx⟩]
    refine W.ite true (by simp) (W.reg (WO.ops (fun ic => by simp [-storeV, -cellsOf, nilckV, hst]; rfl) ?_))
    refine W.seq (W.reg (WO.ops (fun ic => by simp; rfl) (W.ret ?_)))
    exact hok rfl _ rfl rfl rfl (by simp [Tab.F257])
  · refine W.ite false (by simp [h0]) (W.skip ?_)
    refine W.seq (W.reg (WO.ops (fun ic => by simp; rfl) (W.ret ?_)))
    exact her h0 _ rfl rfl rfl (by simp [Tab.F257])

/-- The cells of a desk. -/
def dk (bv : V) (k : Int) (n : V) : List V := uClone bv ++ NL :: evCells k n
@[simp] theorem dk_20 {bv : V} {k : Int} {n : V} : (dk bv k n)[20]? = some n := rfl
@[simp] theorem dk_6 {bv : V} {k : Int} {n : V} : (dk bv k n)[6]? = some bv := rfl
@[simp] theorem dk_len {bv : V} {k : Int} {n : V} : (dk bv k n).length = 22 := rfl
@[simp] theorem dk_put {bv x : V} {k : Int} {n : V} : putAt (dk bv k n) 6 [x] = dk x k n := rfl
@[simp] theorem vII {s : Sto} {a b : Int} : view s viewDepth (.agg [I a, I b]) = some (.agg [I a, I b]) := rfl

theorem Own.keys {s : Sto} {bv : V} {l : List Bx} (h : Own s bv l) {vs : List V} (hvs : ownKeys vs = some []) : ∃ ks, ownKeys (bv :: vs) = some ks ∧ TI.view (onlyS ks s) viewDepth bv = some (encBxs l) ∧ ∀ sl, lessS ks s 0 sl = s 0 sl := by
  rcases h with ⟨rfl, rfl⟩ | ⟨hne, fr, sl, g, L, hfr, rfl, hs, hL⟩
  · exact ⟨[], by simp [ownKeys, hvs, refs, viewDepth], rfl, fun sl => rfl⟩
  · refine ⟨[(fr, sl)], by simp [ownKeys, hvs, refs, viewDepth], ?_, fun sl' => ?_⟩
    · exact Own.view (n := 5) (.inr ⟨hne, fr, sl, g, L, hfr, rfl, by simp [onlyS, hs], hL⟩)
    · have : fr ≠ 0 := by omega
      simp [lessS, Ne.symm this]

theorem res259_tup (l : List Bx) (id : Int) (c : Ct) : ∃ bx er, res259 l id c = .tup [bx, I er] ∧ scal bx = true ∧ cellsOf bx = [bx] ∧ (er = 0 → ∃ i, l.findIdx? (fun b => decide (b.id = id)) = some i ∧ bx = encBxs (insAt l i c)) := by
  unfold res259
  split
  · exact ⟨_, _, rfl, rfl, rfl, fun h => by simp at h⟩
  · rename_i i hi
    split
    · exact ⟨_, _, rfl, rfl, rfl, fun h => by simp at h⟩
    · split
      · exact ⟨_, _, rfl, rfl, rfl, fun h => by simp at h⟩
      · exact ⟨_, _, rfl, rfl, rfl, fun h => ⟨i, hi, rfl⟩⟩

theorem put184 {C : Cfg} (i258 : C.imp 258 = false) (i257 : C.imp 257 = true) (hF : C.code 257 = some Tab.F257) {l : List Bx} {id : Int} {c : Ct}
    (h258 : C.ora 258 [.vptr (uCells l ++ NL :: evCells 49 (nums id 0 c.unit c.thick)) 0, I id] = some (B false))
    {bx : V} {er : Int} (h259 : C.ora 259 [encBxs l, I id, I 0, .agg [I c.unit, I c.thick]] = some (.tup [bx, I er])) (hb1 : scal bx = true) (hb2 : cellsOf bx = [bx])
    {st : St} {g : Nat} {bv : V} (hd : st.s 0 38 = some (g, .cells (dk bv 49 (nums id 0 c.unit c.thick)))) (hO : Own st.s bv l) :
    W C Tab.F184.body (enter [.ptr 0 38 g 0] st) fun e s => (e = .normal ∨ e = .ret) ∧ ∃ v, resultsV s Tab.F184.res = some v ∧ v = I er ∧ (∀ sl, sl ≠ 38 → s.s 0 sl = st.s 0 sl) ∧ (er = 0 → s.s 0 38 = some (g, .cells (dk bx 49 (nums id 0 c.unit c.thick)))) := by
  have hvd : view st.s viewDepth (.ptr 0 38 g 0) = some (.vptr (uCells l ++ NL :: evCells 49 (nums id 0 c.unit c.thick)) 0) := by
    have := view_desk hO (k := 49) (n := nums id 0 c.unit c.thick) (m := 4) rfl
    simp only [viewDepth]
    rw [view, hd]
    simp only [if_true]
    rw [show dk bv 49 (nums id 0 c.unit c.thick) = uClone bv ++ NL :: evCells 49 (nums id 0 c.unit c.thick) from rfl, this]
    rfl
  obtain ⟨ks, hk1, hk2, hk3⟩ := hO.keys (vs := [I id, I 0, .agg [I c.unit, I c.thick]]) rfl
  have a0 : ∀ s, iaddrV s 1 0 (nums id 0 c.unit c.thick) = some (.vptr [I id] 0) := fun s => rfl
  have a1 : ∀ s, iaddrV s 1 1 (nums id 0 c.unit c.thick) = some (.vptr [I 0] 0) := fun s => rfl
  have a2 : ∀ s, iaddrV s 1 2 (nums id 0 c.unit c.thick) = some (.vptr [I c.unit] 0) := fun s => rfl
  have a3 : ∀ s, iaddrV s 1 3 (nums id 0 c.unit c.thick) = some (.vptr [I c.thick] 0) := fun s => rfl
  unfold Tab.F184
  refine W.seq (W.reg (WO.ops (fun ic => rfl) ?_))
  refine W.seq (W.reg (WO.ops (fun ic => by simp [enter, nilckV, hd]; rfl) ?_))
  refine W.seq (W.seq (W.reg (WO.ops (fun ic => by simp [a0, i258, hvd, h258]; rfl) ?_)))
  refine W.ite false (by simp) (W.skip ?_)
  refine W.seq (W.dregP rfl (WO.ops (fun ic => by simp [nilckV, hd, a0, a1, a2, a3, fillV, hk1, hk2, h259]; rfl) ?_))
  have hd' : lessS ks st.s 0 38 = some (g, .cells (dk bv 49 (nums id 0 c.unit c.thick))) := by rw [hk3]; exact hd
  refine W.seq (W.reg (WO.step (os := [Tab.o 38 (.mv (Tab.t 0)), Tab.o 39 (.nilck (Tab.t 38)), Tab.o 40 (.faddr 0 (Tab.t 39)), Tab.o 41 (.faddr 6 (Tab.t 40)), Tab.o 42 (.mv (Tab.t 4)), Tab.o 43 (.mv (Tab.t 5))]) (fun ic => by simp [nilckV]; rfl) ?_))
  refine WO.imp (f := 257) (F := Tab.F257) (vs := [.ptr 0 38 g 6, bx, I er]) hF rfl (fun ic => by simp [i257]) (set257 (cs := dk bv 49 (nums id 0 c.unit c.thick)) rfl (by simp [hd']) (by simp) bx hb1 hb2 er ?_ ?_)
  · intro h0 s hs hτ hn hr
    refine ⟨.inr rfl, _, hr, WO.ops (fun ic => by simp; rfl) (W.ret ⟨.inr rfl, _, rfl, by simp, fun sl hsl => ?_, fun _ => ?_⟩)⟩
    · simp [hs, hk3, hsl]
    · show s.s 0 38 = _
      rw [hs, upd2_self, dk_put]
  · intro h0 s hs hτ hn hr
    refine ⟨.inr rfl, _, hr, WO.ops (fun ic => by simp; rfl) (W.ret ⟨.inr rfl, _, rfl, by simp, fun sl hsl => ?_, fun h => absurd h h0⟩)⟩
    simp [hs, hk3]

/-! ### a new box -/
def newBx (k r : Int) : Bx := ⟨k, r, r, 0, []⟩
theorem Likes.append : ∀ {L : List (List V)} {l : List Bx}, Likes L l → ∀ {r : List V} {b : Bx}, Like r b → Likes (L ++ [r]) (l ++ [b]) := by
  intro L
  induction L with
  | nil => intro l h r b hb; cases l with | nil => exact ⟨hb, trivial⟩ | cons => exact h.elim
  | cons x L ih =>
    intro l h r b hb
    cases l with
    | nil => exact h.elim
    | cons y l => exact ⟨h.1, ih h.2 hb⟩

theorem add183 {C : Cfg} (i11 : C.imp 11 = false) (i257 : C.imp 257 = true) (hF : C.code 257 = some Tab.F257) {l : List Bx} (hlen : l.length ≤ 1000) {k r : Int}
    (h11 : C.ora 11 [encBxs (l ++ [newBx k r])] = some (I 0))
    {st : St} {g : Nat} {bv : V} (hn : 0 < st.n) (hfree : ∀ sl, st.s st.n sl = none) (hd : st.s 0 38 = some (g, .cells (dk bv 48 (nums k r r 0)))) (hO : Own st.s bv l) :
    W C Tab.F183.body (enter [.ptr 0 38 g 0] st) fun e s => (e = .normal ∨ e = .ret) ∧ ∃ v, resultsV s Tab.F183.res = some v ∧ v = I 0 ∧ (∀ sl, sl ≠ 38 → s.s 0 sl = st.s 0 sl) ∧ ∃ bx, s.s 0 38 = some (g, .cells (dk bx 48 (nums k r r 0))) ∧ Own s.s bx (l ++ [newBx k r]) := by
  have hn1 : ¬ (st.n = 0) := by omega
  have hn2 : ¬ (0 = st.n) := by omega
  have a0 : ∀ s, iaddrV s 1 0 (nums k r r 0) = some (.vptr [I k] 0) := fun s => rfl
  have a1 : ∀ s, iaddrV s 1 1 (nums k r r 0) = some (.vptr [I r] 0) := fun s => rfl
  have a2 : ∀ s, iaddrV s 1 2 (nums k r r 0) = some (.vptr [I r] 0) := fun s => rfl
  have a3 : ∀ s, iaddrV s 1 3 (nums k r r 0) = some (.vptr [I 0] 0) := fun s => rfl
  have hlike : Like [I k, I r, I r, I 0, .sl 0 [] .tight] (newBx k r) := ⟨0, .tight, rfl, fun h => absurd rfl h⟩
  -- what comes behind the append
  have fin : ∀ (st1 : St) (fr1 sl1 g1 : Nat) (L : List (List V)), 0 < fr1 → st1.fr = st.n → st1.t 0 = .ptr 0 38 g 0 → st1.t 4 = .own fr1 sl1 g1 0 (l.length + 1) 5 → st1.s fr1 sl1 = some (g1, .rows 5 L) → Likes L (l ++ [newBx k r]) → (∀ sl, st1.s 0 sl = st.s 0 sl) →
      W C (.seq (.dreg [Tab.o 30 (.mv (Tab.t 0)), Tab.o 31 (.nilck (Tab.t 30)), Tab.o 32 (.faddr 0 (Tab.t 31)), Tab.o 33 (.faddr 6 (Tab.t 32)), Tab.o 34 (.mv (Tab.t 4)), Tab.o 35 (.mv (Tab.t 4)), Tab.o 36 (.call 11 [.t 35]), Tab.o 37 (.call 257 [.t 33, .t 34, .t 36]), Tab.o 2 (.mv (Tab.t 37))] [0, 1, 3, 7, 0, 0, 32, 127, 255]) .ret) st1 fun e s => (e = .normal ∨ e = .ret) ∧ ∃ v, resultsV s Tab.F183.res = some v ∧ v = I 0 ∧ (∀ sl, sl ≠ 38 → s.s 0 sl = st.s 0 sl) ∧ ∃ bx, s.s 0 38 = some (g, .cells (dk bx 48 (nums k r r 0))) ∧ Own s.s bx (l ++ [newBx k r]) := by
    intro st1 fr1 sl1 g1 L hfr1 hfr h0 h4 hs1 hL hst
    have hO1 : Own st1.s (.own fr1 sl1 g1 0 (l.length + 1) 5) (l ++ [newBx k r]) := .inr ⟨by simp, fr1, sl1, g1, L, hfr1, by simp, hs1, hL⟩
    have hv1 : view st1.s viewDepth (.own fr1 sl1 g1 0 (l.length + 1) 5) = some (encBxs (l ++ [newBx k r])) := hO1.view (n := 5)
    have hd1 : st1.s 0 38 = some (g, .cells (dk bv 48 (nums k r r 0))) := by rw [hst, hd]
    refine W.seq (W.dregP rfl (WO.step (os := [Tab.o 30 (.mv (Tab.t 0)), Tab.o 31 (.nilck (Tab.t 30)), Tab.o 32 (.faddr 0 (Tab.t 31)), Tab.o 33 (.faddr 6 (Tab.t 32)), Tab.o 34 (.mv (Tab.t 4)), Tab.o 35 (.mv (Tab.t 4)), Tab.o 36 (.call 11 [.t 35])]) (fun ic => by simp [h0, h4, nilckV, i11, hv1, h11]; rfl) ?_))
    refine WO.imp (f := 257) (F := Tab.F257) (vs := [.ptr 0 38 g 6, .own fr1 sl1 g1 0 (l.length + 1) 5, I 0]) hF rfl (fun ic => by simp [i257, h4]) (set257 (cs := dk bv 48 (nums k r r 0)) rfl (by simp [hd1]) (by simp) _ rfl rfl 0 ?_ ?_)
    · intro _ s hs hτ hn' hr
      refine ⟨.inr rfl, _, hr, WO.ops (fun ic => by simp; rfl) (W.ret ⟨.inr rfl, _, rfl, by simp, fun sl hsl => ?_, .own fr1 sl1 g1 0 (l.length + 1) 5, ?_, .inr ⟨by simp, fr1, sl1, g1, L, hfr1, by simp, ?_, hL⟩⟩)⟩
      · simp [hs, hst, hsl]
      · show s.s 0 38 = _
        rw [hs, upd2_self, dk_put]
      · show s.s fr1 sl1 = _
        have hx : ¬ (fr1 = 0) := by omega
        rw [hs]
        simp [hs1, hx]
    · intro h; exact absurd rfl h
  unfold Tab.F183
  refine W.seq (W.reg (WO.ops (fun ic => rfl) ?_))
  refine W.seq (W.reg (WO.ops (fun ic => by simp [enter, nilckV, hd]; rfl) ?_))
  rcases hO with ⟨rfl, rfl⟩ | ⟨hne, fr, sl, g0, L, hfr, rfl, hs, hL⟩
  · refine W.seq (W.dreg ⟨0, _, by simp [evalOpsD, dropS, allocs, nilckV, hd, hn1, hn2, a0, a1, a2, a3, fillV, fillR, rowsOf, room]; rfl, ?_⟩)
    simp only [thenQ_normal]
    exact fin _ st.n 29 (st.n + 1) [[I k, I r, I r, I 0, .sl 0 [] .tight]] hn (by simp) (by simp) (by simp) (by simp) ⟨hlike, trivial⟩ (fun sl => by simp [hn1, hn2])
  · have hfn : ¬ (fr = st.n) := by
      intro h
      rw [h, hfree] at hs
      simp at hs
    have hf0 : ¬ (fr = 0) := by omega
    have hf0' : ¬ (0 = fr) := by omega
    have hfn' : ¬ (st.n = fr) := fun h => hfn h.symm
    have hLl := hL.length
    have hroom : (l.length + 1) * 56 ≤ room := by simp [room]; omega
    have htake : List.take l.length L = L := List.take_of_length_le (by omega)
    refine W.seq (W.dreg ⟨0, _, by simp [evalOpsD, dropS, allocs, nilckV, hd, hn1, hn2, a0, a1, a2, a3, fillV, fillR, rowsOf, hs, hfn, hf0, hfn', hf0', hLl, hroom, isSl, htake]; rfl, ?_⟩)
    simp only [thenQ_normal]
    exact fin _ fr sl (st.n + 1) (L ++ [[I k, I r, I r, I 0, .sl 0 [] .tight]]) hfr (by simp) (by simp) (by simp) (by simp) (hL.append hlike) (fun sl => by simp [hn1, hn2, hf0'])
end Go.TI
end
