/- A part of the proof of TopPackedBest: texts TkA to TkA. -/
import Derived.Test.YtpnjgmfkndbllaaGreatDoorZ07
/- What the small functions of boxes give. -/
section
set_option linter.unusedVariables false
set_option linter.unusedSimpArgs false
namespace Go.TI
open Go Go.Proofs

noncomputable abbrev P0 : Program := Tryz.prog
@[reducible] def I (n : Int) : V := .lit (.int .i64 n)
@[reducible] def B (b : Bool) : V := .lit (.bool b)

/-- A function's answer, from its run. -/
theorem pure_run {K : Nat} {F : TF} (hF : Tab.tab K = some F) {vs : List V} (hlen : vs.length = F.args) {r : V} (l : List (Spec P0))
    (h : W (specCfg P0 X l) F.body (start vs) (Done F r)) : PureOk P0 K vs r :=
  pure_of_W X_ok (specCfg_ok X_ok l) (X_ok.codeOk _ _) (C := specCfg P0 X l) hF hlen h

/-- A literal answer by the kernel. -/
theorem pure_lit {d K : Nat} {vs : List V} {r : V} (e : (lev X d).1 K vs = some r) : PureOk P0 K vs r := (X_ok.pure e).2

theorem wrap_id {x : Int} (h1 : -9223372036854775808 ≤ x) (h2 : x ≤ 9223372036854775807) : IntKind.i64.wrap x = x := by
  unfold IntKind.wrap
  simp [IntKind.bits, IntKind.signed]
  split <;> omega

def inB (n lo hi : Int) : Bool := decide (n ≥ lo) && decide (n ≤ hi)

@[simp] theorem view_lit8 {s : Sto} {v : Value} : view s viewDepth (.lit v) = some (.lit v) := rfl
@[simp] theorem refs_lit8 {v : Value} : refs viewDepth (.lit v) = false := rfl
@[simp] theorem flat_lit8 {v : Value} : flat viewDepth (.lit v) = true := rfl

attribute [local simp] evalOps stepOp wantedT evalOp Opd.val St.put St.ok St.obj upd start args0 binV binI intCmp resultsV resV idxOf loadV partV storeV getCells getRows upd2 cellsOf putAt scal faddrV


theorem p64 (n lo hi : Int) : PureOk P0 64 [I n, I lo, I hi] (B (inB n lo hi)) := by
  refine pure_run (F := Tab.F64) rfl rfl [] ?_
  unfold Tab.F64
  refine W.seq (W.reg (WO.ops (fun ic => rfl) ?_))
  refine W.seq (W.reg ?_)
  by_cases h1 : n ≥ lo
  · refine WO.ops (fun ic => by simp [h1]; rfl) (W.ret ⟨.inr rfl, ?_⟩)
    simp [inB, h1]
  · refine WO.ops (fun ic => by simp [h1]; rfl) (W.ret ⟨.inr rfl, ?_⟩)
    simp [inB, h1]


/-! ### values that callees see as they are -/
theorem mapO_id {α : Type} {f : α → Option α} : ∀ {l : List α}, (∀ x ∈ l, f x = some x) → mapO f l = some l := by
  intro l
  induction l with
  | nil => intro _; rfl
  | cons x l ih => intro h; simp only [mapO, h x (by simp), ih fun y hy => h y (by simp [hy]), Option.map_some]
theorem view_I {s : Sto} {n : Nat} {x : Int} : view s (n + 1) (I x) = some (I x) := rfl
theorem view_B {s : Sto} {n : Nat} {x : Bool} : view s (n + 1) (B x) = some (B x) := rfl
theorem view_slN {s : Sto} {n k : Nat} {rows : List (List V)} (h : ∀ r ∈ rows, ∀ x ∈ r, view (fun _ _ => none) n x = some x) : view s (n + 1) (slN k rows) = some (slN k rows) := by
  have : mapO (mapO (view (fun _ _ => none) n)) rows = some rows := mapO_id fun r hr => mapO_id (h r hr)
  cases rows with
  | nil => rfl
  | cons r rs => simp [slN, view, this]
theorem view_agg {s : Sto} {n : Nat} {cs : List V} (h : ∀ x ∈ cs, view s n x = some x) : view s (n + 1) (.agg cs) = some (.agg cs) := by
  simp only [view, mapO_id h, Option.map_some]
theorem view_vptr {s : Sto} {n o : Nat} {cs : List V} (h : ∀ x ∈ cs, view (fun _ _ => none) n x = some x) : view s (n + 1) (.vptr cs o) = some (.vptr cs o) := by
  simp only [view, mapO_id h, Option.map_some]
theorem view_clo {s : Sto} {n f : Nat} {cs : List V} (h : ∀ x ∈ cs, view s n x = some x) : view s (n + 1) (.clo f cs) = some (.clo f cs) := by
  simp only [view, mapO_id h, Option.map_some]

theorem iaddr_slN {s : Sto} {k j : Nat} {rows : List (List V)} {r : List V} (hk : 0 < k) (hr : rows[j]? = some r) : iaddrV s k (j : Int) (slN k rows) = some (.vptr r 0) := by
  cases rows with
  | nil => simp at hr
  | cons x xs => simp [slN, iaddrV, hk, hr]
theorem len_slN {s : Sto} {k : Nat} {rows : List (List V)} : lenV s 1 (slN k rows) = some (rows.length : Int) := rfl

/-! ### slices.IndexFunc, slices.ContainsFunc -/
def indexLoop (k : Nat) : TC := .loop (.seq (.reg [Tab.o 9 (.bin .lss (Tab.t 8) (Tab.t 7))]) (.seq (.ite (Tab.t 9) .skip (.exit 0)) (.seq (.blk 1 (.seq (.reg [Tab.o 10 (.mv (Tab.t 8)), Tab.o 5 (.mv (Tab.t 10))]) (.seq (.reg [Tab.o 11 (.mv (Tab.t 1)), Tab.o 12 (.mv (Tab.t 0)), Tab.o 13 (.mv (Tab.t 5)), Tab.o 14 (.iaddr k (Tab.t 12) (Tab.t 13)), Tab.o 15 (.load true k (Tab.t 14)), Tab.o 16 (.callv (Tab.t 11) [.t 15])]) (.ite (Tab.t 16) (.seq (.reg [Tab.o 17 (.mv (Tab.t 5)), Tab.o 4 (.mv (Tab.t 17))]) .ret) .skip)))) (.reg [Tab.o 18 (.bin .add (Tab.t 8) (Tab.i 1)), Tab.o 8 (.mv (Tab.t 18))]))))
def indexTF (k : Nat) : TF := ⟨19, 2, [.tmp 4], (.seq (.reg [Tab.o 4 (.mv (Tab.i 0))]) (.seq (.seq (.reg [Tab.o 6 (.mv (Tab.t 0)), Tab.o 7 (.len 1 (Tab.t 6)), Tab.o 8 (.mv (Tab.i 0))]) (.blk 0 (indexLoop k))) (.seq (.reg [Tab.o 4 (.mv (.c (.lit (.int .i64 (-1)))))]) .ret)))⟩

def idx (p : List V → Bool) (rows : List (List V)) : Int := match rows.findIdx? p with | some j => (j : Int) | none => -1

theorem index_loop {C : Cfg} {k f : Nat} {caps : List V} {rows : List (List V)} {p : List V → Bool} (hk : 0 < k) (hf : C.imp f = false) (hlen : rows.length ≤ 100000) (hrow : ∀ r ∈ rows, r.length = k) (hv : ∀ s, ∀ r ∈ rows, mapO (view s viewDepth) (.agg r :: caps) = some (.agg r :: caps)) (hp : ∀ r ∈ rows, C.ora f (.agg r :: caps) = some (B (p r))) :
    ∀ (rest pre : List (List V)) (st : St), rows = pre ++ rest → (∀ r ∈ pre, p r = false) → st.t 0 = slN k rows → st.t 1 = .clo f caps → st.t 7 = I rows.length → st.t 8 = I pre.length →
      W C (indexLoop k) st fun e st' => (e = .exit 0 ∧ (∀ r ∈ rows, p r = false)) ∨ (e = .ret ∧ ∃ j, st'.t 4 = I (j : Nat) ∧ rows.findIdx? p = some j) := by
  intro rest
  induction rest with
  | nil =>
    intro pre st hcs hpre h0 h1 h7 h8
    have hp0 : pre = rows := by simpa using hcs.symm
    subst hp0
    refine W.loop (W.seq (W.reg (WO.ops (fun ic => by simp [h7, h8]; rfl) ?_)))
    refine W.seq (W.ite false (by simp) ?_)
    exact W.exit (.inl ⟨rfl, hpre⟩)
  | cons r rest ih =>
    intro pre st hcs hpre h0 h1 h7 h8
    have hl : pre.length < rows.length := by rw [hcs]; simp
    have hr : r ∈ rows := by rw [hcs]; simp
    refine W.loop (W.seq (W.reg (WO.ops (fun ic => by simp [h7, h8]; rfl) ?_)))
    refine W.seq (W.ite true (by simp [hl]) (W.skip ?_))
    have hat : ∀ s, iaddrV s k (pre.length : Int) (slN k rows) = some (.vptr r 0) := fun s => iaddr_slN hk (by rw [hcs]; simp)
    have hrl := hrow r hr
    subst hrl
    have hvr := hv st.s r hr
    have hpr := hp r hr
    refine W.seq (W.blk (W.seq (W.reg (WO.ops (fun ic => by simp [h8]; rfl) ?_))))
    refine W.seq (W.reg (WO.ops (fun ic => by simp [h0, h1, h8, hat, hf, hvr, hpr]; rfl) ?_))
    cases hb : p r with
    | true =>
      refine W.ite true (by simp [hb]) ?_
      refine W.seq (W.reg (WO.ops (fun ic => rfl) (W.ret ?_)))
      refine .inr ⟨rfl, pre.length, by simp [h8], ?_⟩
      rw [hcs, List.findIdx?_append]
      have : List.findIdx? p pre = none := by rw [List.findIdx?_eq_none_iff]; exact hpre
      simp [this, List.findIdx?_cons, hb]
    | false =>
      refine W.ite false (by simp [hb]) (W.skip ?_)
      refine W.reg (WO.ops (fun ic => by simp [h8]; rfl) ?_)
      refine ih (pre ++ [r]) _ (by simp [hcs]) (fun x hx => ?_) (by simp [h0]) (by simp [h1]) (by simp [h7]) ?_
      · simp only [List.mem_append, List.mem_singleton] at hx
        rcases hx with hx | rfl
        · exact hpre x hx
        · exact hb
      · simp
        exact wrap_id (by omega) (by omega)

theorem index_ok {C : Cfg} {k f : Nat} {caps : List V} {rows : List (List V)} {p : List V → Bool} (hk : 0 < k) (hf : C.imp f = false) (hlen : rows.length ≤ 100000) (hrow : ∀ r ∈ rows, r.length = k) (hv : ∀ s, ∀ r ∈ rows, mapO (view s viewDepth) (.agg r :: caps) = some (.agg r :: caps)) (hp : ∀ r ∈ rows, C.ora f (.agg r :: caps) = some (B (p r))) :
    W C (indexTF k).body (start [slN k rows, .clo f caps]) (Done (indexTF k) (I (idx p rows))) := by
  unfold indexTF
  refine W.seq (W.reg (WO.ops (fun ic => rfl) ?_))
  refine W.seq (W.seq (W.reg (WO.ops (fun ic => by simp [len_slN]; rfl) ?_)))
  refine W.blk ((index_loop hk hf hlen hrow hv hp rows [] _ rfl (by simp) (by simp) (by simp) (by simp) (by simp)).mono fun e s h => ?_)
  rcases h with ⟨rfl, hall⟩ | ⟨rfl, j, h4, hj⟩
  · simp only [blkQ_exit, if_true, thenQ_normal]
    refine W.seq (W.reg (WO.ops (fun ic => rfl) (W.ret ⟨.inr rfl, ?_⟩)))
    have : rows.findIdx? p = none := by rw [List.findIdx?_eq_none_iff]; exact hall
    simp [idx, this]
  · simp only [blkQ_ret, thenQ_ret]
    exact ⟨.inr rfl, by simp [h4, idx, hj]⟩

def containsTF (n : Nat) : TF := ⟨9, 2, [.tmp 4], (.seq (.reg [Tab.o 4 (.mv (.c (.lit (.bool false))))]) (.seq (.reg [Tab.o 5 (.mv (Tab.t 0)), Tab.o 6 (.mv (Tab.t 1)), Tab.o 7 (.call n [.t 5, .t 6]), Tab.o 8 (.bin .geq (Tab.t 7) (Tab.i 0)), Tab.o 4 (.mv (Tab.t 8))]) .ret))⟩
theorem contains_ok {C : Cfg} {n : Nat} {l c : V} {j : Int} (hf : C.imp n = false) (hv : ∀ s, mapO (view s viewDepth) [l, c] = some [l, c]) (ho : C.ora n [l, c] = some (I j)) :
    W C (containsTF n).body (start [l, c]) (Done (containsTF n) (B (decide (j ≥ 0)))) := by
  unfold containsTF
  refine W.seq (W.reg (WO.ops (fun ic => rfl) ?_))
  have hv' := hv fun _ _ => none
  refine W.seq (W.reg (WO.ops (fun ic => by simp [hf, hv', ho]; rfl) (W.ret ⟨.inr rfl, ?_⟩)))
  simp
theorem idx_any {p : List V → Bool} {rows : List (List V)} : decide (idx p rows ≥ 0) = rows.any p := by
  unfold idx
  cases h : rows.findIdx? p with
  | none =>
    rw [List.findIdx?_eq_none_iff] at h
    have : rows.any p = false := by rw [List.any_eq_false]; intro x hx; simp [h x hx]
    simp [this]
  | some j =>
    have : rows.any p = true := by
      rw [List.findIdx?_eq_some_iff_getElem] at h
      obtain ⟨hj, hp, _⟩ := h
      exact List.any_eq_true.2 ⟨_, List.getElem_mem hj, hp⟩
    simp [this]

/-! ### contents and boxes -/
structure Ct where
  unit : Int
  thick : Int
structure Bx where
  id : Int
  width : Int
  room : Int
  climate : Int
  cs : List Ct
def encCt (c : Ct) : List V := [I c.unit, I c.thick]
def encCts (l : List Ct) : V := slN 2 (l.map encCt)
def encBx (b : Bx) : List V := [I b.id, I b.width, I b.room, I b.climate, encCts b.cs]
def encBxs (l : List Bx) : V := slN 5 (l.map encBx)

def thick (l : List Ct) : Int := (l.map (·.thick)).sum

theorem thick_bound {l : List Ct} (h : ∀ c ∈ l, 0 ≤ c.thick ∧ c.thick ≤ 10000) : 0 ≤ thick l ∧ thick l ≤ 10000 * l.length := by
  induction l with
  | nil => simp [thick]
  | cons c l ih =>
    have h1 := h c (by simp)
    have h2 := ih fun x hx => h x (by simp [hx])
    simp only [thick, List.map_cons, List.sum_cons, List.length_cons] at h2 ⊢
    omega

def loop68 : TC := .loop (.seq (.reg [Tab.o 9 (.bin .lss (Tab.t 8) (Tab.t 7))]) (.seq (.ite (Tab.t 9) .skip (.exit 0)) (.seq (.blk 1 (.seq (.reg [Tab.o 10 (.iaddr 2 (Tab.t 6) (Tab.t 8)), Tab.o 11 (.load true 2 (Tab.t 10)), Tab.o 5 (.new [Tab.z 0, Tab.z 0]), Tab.e (.store 2 (Tab.t 5) (Tab.t 11))]) (.reg [Tab.o 12 (.mv (Tab.t 3)), Tab.o 13 (.faddr 1 (Tab.t 5)), Tab.o 14 (.load false 1 (Tab.t 13)), Tab.o 15 (.bin .add (Tab.t 12) (Tab.t 14)), Tab.o 3 (.mv (Tab.t 15))]))) (.reg [Tab.o 16 (.bin .add (Tab.t 8) (Tab.i 1)), Tab.o 8 (.mv (Tab.t 16))]))))

theorem thick_loop {C : Cfg} {cs : List Ct} (hlen : cs.length ≤ 1000) (hth : ∀ c ∈ cs, 0 ≤ c.thick ∧ c.thick ≤ 10000) : ∀ (rest pre : List Ct) (st : St), cs = pre ++ rest → st.t 6 = encCts cs → st.t 7 = I cs.length → st.t 8 = I pre.length → st.t 3 = I (thick pre) →
    W C loop68 st fun e st' => e = .exit 0 ∧ st'.t 3 = I (thick cs) := by
  intro rest
  induction rest with
  | nil =>
    intro pre st hcs h6 h7 h8 h3
    have hp : pre = cs := by simpa using hcs.symm
    subst hp
    refine W.loop (W.seq (W.reg (WO.ops (fun ic => by simp [h6, h7, h8]; rfl) ?_)))
    refine W.seq (W.ite false (by simp) ?_)
    exact W.exit ⟨rfl, by simp [h3]⟩
  | cons c rest ih =>
    intro pre st hcs h6 h7 h8 h3
    have hl : pre.length < cs.length := by rw [hcs]; simp
    have hl' : ((pre.length : Int) < (cs.length : Int)) := by omega
    refine W.loop (W.seq (W.reg (WO.ops (fun ic => by simp [h6, h7, h8]; rfl) ?_)))
    refine W.seq (W.ite true (by simp [hl]) (W.skip ?_))
    have hat : iaddrV st.s 2 (pre.length : Int) (encCts cs) = some (.vptr (encCt c) 0) := iaddr_slN (by decide) (by rw [hcs]; simp)
    refine W.seq (W.blk (W.seq (W.reg (WO.ops (fun ic => by simp [h6, h8, hat, encCt]; rfl) ?_))))
    refine W.reg (WO.ops (fun ic => by simp [h3]; rfl) ?_)
    refine W.reg (WO.ops (fun ic => by simp [h8]; rfl) ?_)
    have hb := thick_bound (l := pre) fun x hx => hth x (by rw [hcs]; simp [hx])
    have hb2 := hth c (by rw [hcs]; simp)
    have hth' : 0 ≤ thick pre ∧ thick pre + c.thick ≤ 10000000 ∧ thick (pre ++ [c]) = thick pre + c.thick := ⟨hb.1, by omega, by simp [thick]⟩
    refine ih (pre ++ [c]) _ (by simp [hcs]) (by simp [h6]) (by simp [h7]) ?_ ?_
    · simp
      exact wrap_id (by omega) (by omega)
    · simp
      rw [wrap_id (by have := (hth c (by rw [hcs]; simp)).1; omega) (by omega)]
      exact hth'.2.2.symm

theorem view_encCt {s : Sto} {n : Nat} {c : Ct} : ∀ x ∈ encCt c, view s (n + 1) x = some x := by
  intro x hx
  simp only [encCt, List.mem_cons, List.not_mem_nil, or_false] at hx
  rcases hx with rfl | rfl <;> rfl
theorem view_encCts {s : Sto} {n : Nat} {l : List Ct} : view s (n + 2) (encCts l) = some (encCts l) := view_slN fun r hr => by
  obtain ⟨c, _, rfl⟩ := List.mem_map.1 hr
  exact view_encCt
theorem view_encBx {s : Sto} {n : Nat} {b : Bx} : ∀ x ∈ encBx b, view s (n + 2) x = some x := by
  intro x hx
  simp only [encBx, List.mem_cons, List.not_mem_nil, or_false] at hx
  rcases hx with rfl | rfl | rfl | rfl | rfl
  · rfl
  · rfl
  · rfl
  · rfl
  · exact view_encCts
theorem view_encBxs {s : Sto} {n : Nat} {l : List Bx} : view s (n + 3) (encBxs l) = some (encBxs l) := view_slN fun r hr => by
  obtain ⟨c, _, rfl⟩ := List.mem_map.1 hr
  exact view_encBx
@[simp] theorem vCts {s : Sto} {l : List Ct} : view s viewDepth (encCts l) = some (encCts l) := view_encCts
@[simp] theorem vBxs {s : Sto} {l : List Bx} : view s viewDepth (encBxs l) = some (encBxs l) := view_encBxs
@[simp] theorem vCt {s : Sto} {c : Ct} : view s viewDepth (.agg (encCt c)) = some (.agg (encCt c)) := view_agg view_encCt
@[simp] theorem vBx {s : Sto} {b : Bx} : view s viewDepth (.agg (encBx b)) = some (.agg (encBx b)) := view_agg view_encBx
@[simp] theorem vClo0 {s : Sto} {f : Nat} : view s viewDepth (.clo f []) = some (.clo f []) := rfl
@[simp] theorem vCloI {s : Sto} {f : Nat} {x : Int} : view s viewDepth (.clo f [.vptr [I x] 0]) = some (.clo f [.vptr [I x] 0]) := rfl
@[simp] theorem vPtrI {s : Sto} {x : Int} {o : Nat} : view s viewDepth (.vptr [I x] o) = some (.vptr [I x] o) := rfl
@[simp] theorem refs_agg8 {c : Ct} : refs viewDepth (.agg (encCt c)) = false := rfl
@[simp] theorem refs_bx8 {c : Bx} : refs viewDepth (.agg (encBx c)) = false := rfl
@[simp] theorem refs_slN8 {k : Nat} {r : List (List V)} : refs viewDepth (slN k r) = false := rfl
@[simp] theorem mapO_nil {α β : Type} {f : α → Option β} : mapO f [] = some [] := rfl
@[simp] theorem mapO_cons {α β : Type} {f : α → Option β} {x : α} {l : List α} : mapO f (x :: l) = match f x with | some y => (mapO f l).map (y :: ·) | none => none := rfl

def spec64 : Spec P0 := { K := 64, A := Int × Int × Int, args := fun a => [I a.1, I a.2.1, I a.2.2], res := fun a => B (inB a.1 a.2.1 a.2.2), inj := fun a b h => by simp at h; obtain ⟨h1, h2, h3⟩ := h; rw [h1, h2, h3], body := Tab.b64, ok := fun a => p64 _ _ _ }

def okCt (c : Ct) : Bool := inB c.unit 1 1073741824 && inB c.thick 1 10000
theorem p67 (c : Ct) : PureOk P0 67 [.agg (encCt c)] (B (okCt c)) := by
  refine pure_run (F := Tab.F67) rfl rfl [spec64] ?_
  have h64 : ∀ a b c, (specCfg P0 X [spec64]).ora 64 [I a, I b, I c] = some (B (inB a b c)) := fun a b c => oraOf_at (by simp) spec64 (by simp) (a, b, c)
  have him : (specCfg P0 X [spec64]).imp 64 = false := rfl
  unfold Tab.F67
  refine W.seq (W.reg (WO.ops (fun ic => rfl) ?_))
  refine W.seq (W.reg ?_)
  cases h1 : inB c.unit 1 1073741824 with
  | true => refine WO.ops (fun ic => by simp [encCt, him, h64, h1]; rfl) (W.ret ⟨.inr rfl, by simp [okCt, h1]⟩)
  | false => refine WO.ops (fun ic => by simp [encCt, him, h64, h1]; rfl) (W.ret ⟨.inr rfl, by simp [okCt, h1]⟩)
end Go.TI
end
