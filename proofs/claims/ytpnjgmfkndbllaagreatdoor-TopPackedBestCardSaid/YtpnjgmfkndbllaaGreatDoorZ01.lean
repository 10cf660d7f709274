/- A part of the proof of TopPackedBest: texts TiApp2 to TiExec. -/
import Derived.Test.YtpnjgmfkndbllaaGreatDoorZ00
import Derived.OrdersIn
import Derived.LoopNIn
import Derived.RangeFuncRecord
import Derived.RangeFuncCalls
import Derived.Orders
import Derived.Tactics
/- An append whose result is an object of the store. -/
section
set_option linter.unusedVariables false
set_option linter.unusedSimpArgs false
namespace Go.TI
open Go Go.RowKit

theorem upd2_upd2 {α : Type} (f : Nat → Nat → α) (i k : Nat) (u v : α) : upd2 (upd2 f i k u) i k v = upd2 f i k v := by
  funext j l
  by_cases h : j = i ∧ l = k
  · obtain ⟨rfl, rfl⟩ := h; rw [upd2_self, upd2_self]
  · rw [upd2_ne _ _ h, upd2_ne _ _ h, upd2_ne _ _ h]

section
variable {P : Program} {D : Base} {o : Oper} {a : Act} {s : Sto} {τ : Nat → Bool} {n : Nat} {w : World} {f : Nat → Nat → Nat} {φ : Nat → Option (Nat × Nat)}

/-- An object goes over to another slot. -/
theorem Rel.rename (hR : Rel D s τ n w f φ) (hS : ∀ b o, D.S b o → b < D.B) {fr0 sl0 g : Nat} {ob : Ob} (hs : s fr0 sl0 = some (g, ob)) (fr sl : Nat) :
    Rel D (upd2 (upd2 s fr0 sl0 none) fr sl (some (n, ob))) τ (n + 1) w (upd2 f fr sl (f fr0 sl0)) φ ∧
      (Ctx.of D s τ n w f φ).le (Ctx.of D (upd2 (upd2 s fr0 sl0 none) fr sl (some (n, ob))) τ (n + 1) w (upd2 f fr sl (f fr0 sl0)) φ) := by
  obtain ⟨l1, l2, l3, l4⟩ := hR.live fr0 sl0 g ob hs
  have key : ∀ fr' sl' p, upd2 (upd2 s fr0 sl0 none) fr sl (some (n, ob)) fr' sl' = some p → (fr' = fr ∧ sl' = sl ∧ p = (n, ob)) ∨ (¬ (fr' = fr ∧ sl' = sl) ∧ ¬ (fr' = fr0 ∧ sl' = sl0) ∧ s fr' sl' = some p) := by
    intro fr' sl' p hp
    by_cases e : fr' = fr ∧ sl' = sl
    · obtain ⟨rfl, rfl⟩ := e
      rw [upd2_self] at hp
      injection hp with hp
      exact .inl ⟨rfl, rfl, hp.symm⟩
    · rw [upd2_ne _ _ e] at hp
      by_cases e2 : fr' = fr0 ∧ sl' = sl0
      · obtain ⟨rfl, rfl⟩ := e2
        rw [upd2_self] at hp
        simp at hp
      · rw [upd2_ne _ _ e2] at hp
        exact .inr ⟨e, e2, hp⟩
  have hle : (Ctx.of D s τ n w f φ).le (Ctx.of D (upd2 (upd2 s fr0 sl0 none) fr sl (some (n, ob))) τ (n + 1) w (upd2 f fr sl (f fr0 sl0)) φ) := by
    refine le_of_step hR hS (WStep.refl (fun _ => False) w) (Nat.le_succ _) (fun _ h => h.elim) (fun b q _ h2 h3 h4 => ⟨fun fr' sl' p hp => ?_, h4, rfl⟩)
      (fun _ _ _ h => h.elim) (fun fr' sl' g' q hg h => ?_) (fun g _ h => ⟨h, rfl⟩)
    · rcases key fr' sl' p hp with ⟨rfl, rfl, _⟩ | ⟨e, _, hp'⟩
      · rw [upd2_self]; exact h3 fr0 sl0 _ hs
      · rw [upd2_ne _ _ e]; exact h3 fr' sl' p hp'
    · rcases key fr' sl' _ h with ⟨_, _, hp⟩ | ⟨e, _, hp'⟩
      · simp only [Prod.mk.injEq] at hp; omega
      · rw [upd2_ne _ _ e]; exact ⟨q, hp', rfl⟩
  refine ⟨⟨hR.below, hR.hB, fun fr' sl' g' q h => ?_, fun fr1 sl1 fr2 sl2 p1 p2 h1 h2 h3 => ?_, fun g h => Nat.lt_succ_of_lt (hR.tn g h), fun g' b e h1 h2 => ?_, hR.tinj⟩, hle⟩
  · rcases key fr' sl' _ h with ⟨rfl, rfl, hp⟩ | ⟨e, _, hp'⟩
    · simp only [Prod.mk.injEq] at hp
      obtain ⟨rfl, rfl⟩ := hp
      rw [upd2_self]
      exact ⟨Nat.lt_succ_self _, l2, l3, l4.mono hle rfl⟩
    · rw [upd2_ne _ _ e]
      obtain ⟨h1, h2, h3, h4⟩ := hR.live fr' sl' g' q hp'
      exact ⟨Nat.lt_succ_of_lt h1, h2, h3, h4.mono hle rfl⟩
  · rcases key fr1 sl1 _ h1 with ⟨rfl, rfl, _⟩ | ⟨e1, e1', hp1⟩
    · rcases key fr2 sl2 _ h2 with ⟨rfl, rfl, _⟩ | ⟨e2, e2', hp2⟩
      · exact ⟨rfl, rfl⟩
      · rw [upd2_self, upd2_ne _ _ e2] at h3
        obtain ⟨q1, q2⟩ := hR.inj _ _ _ _ _ _ hs hp2 h3
        exact absurd ⟨q1.symm, q2.symm⟩ e2'
    · rcases key fr2 sl2 _ h2 with ⟨rfl, rfl, _⟩ | ⟨e2, e2', hp2⟩
      · rw [upd2_self, upd2_ne _ _ e1] at h3
        exact absurd (hR.inj _ _ _ _ _ _ hp1 hs h3) e1'
      · rw [upd2_ne _ _ e1, upd2_ne _ _ e2] at h3
        exact hR.inj _ _ _ _ _ _ hp1 hp2 h3
  · obtain ⟨h3, h4, h5, h6⟩ := hR.toks g' b e h1 h2
    refine ⟨h3, h4, fun fr' sl' p hp => ?_, h6⟩
    rcases key fr' sl' p hp with ⟨rfl, rfl, _⟩ | ⟨e, _, hp'⟩
    · rw [upd2_self]; exact h5 fr0 sl0 _ hs
    · rw [upd2_ne _ _ e]; exact h5 fr' sl' p hp'

theorem flat_rows_cells {k : Nat} {rows ys : List (List V)} {olds news : List Value} {zs : Array Value} {G : Nat} (h1 : olds.length = rows.length * k) (h1' : news.length = ys.length * k) (hG : rows.length + ys.length ≤ G) (hzs : zs.size = (G - (rows.length + ys.length)) * k) :
    (olds.toArray ++ news.toArray ++ zs).size = G * k := by
  simp only [Array.size_append, List.size_toArray, hzs, h1, h1']
  rw [← Nat.add_mul, ← Nat.add_mul]
  congr 1
  omega

/-- append at a slice by value, the result an object. -/
theorem ok_app_obj (hR : Rel D s τ n w f φ) (hS : ∀ b o, D.S b o → b < D.B) {x y : Operand} {e : TypeId} {i : TypeInfo} {z : Value} (hA : AppInfo P o x y e i z) {k' : Nat} {rows ys : List (List V)} {u : V} (fr sl : Nat)
    (hx : RV (Ctx.of D s τ n w f φ) (a.eval x) (.sl k' rows .tight)) (hy : RV (Ctx.of D s τ n w f φ) (a.eval y) u) (hys : rowsOf s i.size u = some ys) (hkk : k' = i.size ∨ rows = []) (hk : 0 < i.size) (hb : 0 < i.bytes) (hroom : (rows.length + ys.length) * i.bytes ≤ room)
    (hne : ys ≠ []) : OpOk P D o a s τ n w f φ ⟨.own fr sl n 0 (rows.length + ys.length) i.size, upd2 s fr sl (some (n, .rows i.size (rows ++ ys))), τ, n + 1⟩ := by
  obtain ⟨c, T, U, e2, hop, hc, hargs, hty, hT, hU⟩ := hA.c
  obtain ⟨base, cap, hxe, hlc, hmk⟩ := hx.shape_sl
  have hrows : rowsOf s i.size (.sl k' rows .tight) = some rows := by simp only [rowsOf]; rw [if_pos hkk]
  have hmk' : cap = rows.length := hmk
  have hgrow : cap < rows.length + ys.length := by have := List.length_pos_iff.2 hne; omega
  intro next Q hn
  obtain ⟨hRd, hled⟩ := drew_rel hR hS
  obtain ⟨A1, cap1, olds, ho1, _, ho2, ho3, ho4, _, ho6⟩ := read_rows (P := P) hRd (hx.mono hled) hrows hk
  obtain ⟨A2, cap2, news, hn1, _, hn2, hn3, hn4, _, hn6⟩ := read_rows (P := P) hRd (hy.mono hled) hys hk
  rw [hxe] at ho1
  injection ho1 with e1 e2 e3
  subst e1 e3
  have hap := run_app_grow (P := P) (w := w) (ty := o.type) hT hU hA.hi hA.hz hgrow hb hroom ho6 hn6
  rw [← hxe, ← hn1] at hap
  rw [app_exec hop hc hargs hty hap, Oper.upon_value]
  have hzs : (Builtin.zeroCells z.cells (grownCap w (rows.length + ys.length) cap e - (rows.length + ys.length))).size = (grownCap w (rows.length + ys.length) cap e - (rows.length + ys.length)) * i.size := by rw [zeros_size, hA.hzs]
  have hG := grownCap_ge w (rows.length + ys.length) cap e
  have hsz := flat_rows_cells ho2 hn2 hG hzs
  have hle1 : (rows ++ ys).length * i.size ≤ grownCap w (rows.length + ys.length) cap e * i.size := Nat.mul_le_mul_right _ (by simpa using hG)
  obtain ⟨hR', hle'⟩ := hRd.new hS fr sl (o := .rows i.size (rows ++ ys)) (x := .cells _ e) ⟨_, e, rfl, by rw [hsz]; exact hle1, fun r hr => (List.mem_append.1 hr).elim (ho3 r) (hn3 r), grown_block (zs := Builtin.zeroCells z.cells (grownCap w (rows.length + ys.length) cap e - (rows.length + ys.length))) ho2 ho4 hn4⟩
  refine hn _ _ _ φ hR' (hled.trans hle') ?_
  refine RV.own (Nat.lt_succ_self n) (by simpa using hG) fun b' hb' => ?_
  obtain ⟨_, _, hbe⟩ := Ctx.of_obj_some hb'
  rw [upd2_self] at hbe
  subst hbe
  exact ⟨by simp, _, e, (0, 0), heap_new w.drew _, by rw [hsz, Nat.zero_add]; exact Nat.le_refl _⟩

/-- append at an object. -/
theorem ok_app_own (hR : Rel D s τ n w f φ) (hS : ∀ b o, D.S b o → b < D.B) {x y : Operand} {e : TypeId} {i : TypeInfo} {z : Value} (hA : AppInfo P o x y e i z) {fr0 sl0 g : Nat} {l ys : List (List V)} {u : V} (fr sl : Nat)
    (hx : RV (Ctx.of D s τ n w f φ) (a.eval x) (.own fr0 sl0 g 0 l.length i.size)) (hl : getRows s fr0 sl0 g i.size = some l) (hy : RV (Ctx.of D s τ n w f φ) (a.eval y) u) (hys : rowsOf s i.size u = some ys) (hk : 0 < i.size) (hb : 0 < i.bytes) (hroom : (l.length + ys.length) * i.bytes ≤ room) :
    OpOk P D o a s τ n w f φ ⟨.own fr sl n 0 (l.length + ys.length) i.size, upd2 (upd2 s fr0 sl0 none) fr sl (some (n, .rows i.size (l ++ ys))), τ, n + 1⟩ := by
  obtain ⟨c, T, U, e2, hop, hc, hargs, hty, hT, hU⟩ := hA.c
  have hs := getRows_some hl
  have hrows : rowsOf s i.size (.own fr0 sl0 g 0 l.length i.size) = some l := by simp [rowsOf, hl]
  obtain ⟨arr, ty, q1, q2, q3, q4⟩ := hR.rows hs
  have hx0 := hx
  generalize hxe : a.eval x = ax at hx0
  cases hx0 with
  | @own base _ _ _ _ _ cap _ g1 g2 g3 =>
    obtain ⟨rfl, arr2, ty2, fz2, q5, q6⟩ := g3 _ (Ctx.of_obj_live hs)
    have q5' : w.heap[f fr0 sl0]? = some (.cells arr2 ty2 fz2) := q5
    rw [q1] at q5'
    injection q5' with q5'
    injection q5' with a1 a2 a3
    subst a1 a2 a3
    rw [Nat.zero_add] at q6
    intro next Q hn
    by_cases hgrow : cap < l.length + ys.length
    · obtain ⟨hRd, hled⟩ := drew_rel hR hS
      have hxd := hx.mono hled
      rw [hxe] at hxd
      obtain ⟨A1, cap1, olds, ho1, _, ho2, ho3, ho4, _, ho6⟩ := read_rows (P := P) hRd hxd hrows hk
      obtain ⟨A2, cap2, news, hn1, _, hn2, hn3, hn4, _, hn6⟩ := read_rows (P := P) hRd (hy.mono hled) hys hk
      injection ho1 with e1 e2 e3
      subst e1 e3
      have hap := run_app_grow (P := P) (w := w) (ty := o.type) hT hU hA.hi hA.hz hgrow hb hroom ho6 hn6
      rw [← hxe, ← hn1] at hap
      rw [app_exec hop hc hargs hty hap, Oper.upon_value]
      obtain ⟨hRx, hlex⟩ := hRd.drop hS (s' := upd2 s fr0 sl0 none) fun fr' sl' p hp => by
        by_cases e : fr' = fr0 ∧ sl' = sl0
        · obtain ⟨rfl, rfl⟩ := e; rw [upd2_self] at hp; simp at hp
        · rw [upd2_ne _ _ e] at hp; exact hp
      have hzs : (Builtin.zeroCells z.cells (grownCap w (l.length + ys.length) cap e - (l.length + ys.length))).size = (grownCap w (l.length + ys.length) cap e - (l.length + ys.length)) * i.size := by rw [zeros_size, hA.hzs]
      have hG := grownCap_ge w (l.length + ys.length) cap e
      have hsz := flat_rows_cells ho2 hn2 hG hzs
      have hle1 : (l ++ ys).length * i.size ≤ grownCap w (l.length + ys.length) cap e * i.size := Nat.mul_le_mul_right _ (by simpa using hG)
      obtain ⟨hR', hle'⟩ := hRx.new hS fr sl (o := .rows i.size (l ++ ys)) (x := .cells _ e) ⟨_, e, rfl, by rw [hsz]; exact hle1, fun r hr => (List.mem_append.1 hr).elim (ho3 r) (hn3 r),
        grown_block (zs := Builtin.zeroCells z.cells (grownCap w (l.length + ys.length) cap e - (l.length + ys.length))) ho2 (fun j r q t hr ht => let ⟨y, h1, h2⟩ := ho4 j r q t hr ht; ⟨y, h1, h2.mono hlex⟩) (fun j r q t hr ht => let ⟨y, h1, h2⟩ := hn4 j r q t hr ht; ⟨y, h1, h2.mono hlex⟩)⟩
      refine hn _ _ _ φ hR' ((hled.trans hlex).trans hle') ?_
      refine RV.own (Nat.lt_succ_self n) (by simpa using hG) fun b' hb' => ?_
      obtain ⟨_, _, hbe⟩ := Ctx.of_obj_some hb'
      rw [upd2_self] at hbe
      subst hbe
      exact ⟨by simp, _, e, (0, 0), heap_new w.drew _, by rw [hsz, Nat.zero_add]; exact Nat.le_refl _⟩
    · have hle : l.length + ys.length ≤ cap := by omega
      obtain ⟨A2, cap2, news, hn1, _, hn2, hn3, hn4, hn5, hn6⟩ := read_rows (P := P) hR hy hys hk
      have hcapk : (l.length + ys.length) * i.size ≤ cap * i.size := Nat.mul_le_mul_right _ hle
      rw [Nat.add_mul] at hcapk
      have hst := run_storeCells_cells (P := P) (f fr0 sl0) (0 + l.length * i.size) news 0 w (fun j hj => by
          have : cellAt w (f fr0 sl0) (0 + l.length * i.size + 0 + j) = arr[0 + l.length * i.size + 0 + j]? := cellAt_cells q1 _
          unfold cellAt at this
          rw [this]
          simp
          omega)
        (fun j hj => by simp [World.frozen?, q1]) hn5
      have hap := run_app_room (P := P) (w := w) (ty := o.type) (base := some ⟨f fr0 sl0, 0 * i.size, none⟩) hT hU hA.hi hle hn6 (.inr ⟨f fr0 sl0, 0, by rw [Nat.zero_mul], hst⟩)
      rw [← hxe, ← hn1] at hap
      rw [app_exec hop hc hargs hty hap, Oper.upon_value]
      have hnew := setCells_heap (f fr0 sl0) ty (0, 0) news (0 + l.length * i.size + 0) w arr q1
      have hcont : OCont (Ctx.of D s τ n w f φ) (.rows i.size (l ++ ys)) (.cells (putA arr (0 + l.length * i.size + 0) news) ty (0, 0)) := by
        refine ⟨_, ty, rfl, by rw [putA_size, List.length_append, Nat.add_mul]; omega, fun r hr => (List.mem_append.1 hr).elim (q3 r) (hn3 r), fun j r q t hr ht => ?_⟩
        rw [putA_get _ _ _ _ (by omega)]
        by_cases hj : j < l.length
        · rw [List.getElem?_append_left hj] at hr
          have hq : q < i.size := by rw [← (q3 r (List.mem_of_getElem? hr)).1]; exact (List.getElem?_eq_some_iff.1 ht).1
          have hjq : j * i.size + i.size ≤ l.length * i.size := by
            have : (j + 1) * i.size ≤ l.length * i.size := Nat.mul_le_mul_right _ hj
            rw [Nat.add_mul] at this
            omega
          rw [if_neg (by omega)]
          exact q4 j r q t hr ht
        · rw [List.getElem?_append_right (by omega)] at hr
          obtain ⟨v, hv, hrv⟩ := hn4 _ r q t hr ht
          have hlt := (List.getElem?_eq_some_iff.1 hv).1
          have hje : (j - l.length) * i.size + l.length * i.size = j * i.size := by rw [← Nat.add_mul]; congr 1; omega
          rw [if_pos (by omega), show j * i.size + q - (0 + l.length * i.size + 0) = (j - l.length) * i.size + q by omega]
          exact ⟨v, hv, hrv⟩
      obtain ⟨hR1, hle1⟩ := hR.put hS hs (WStep.setCells (X := fun x => x = f fr0 sl0) (f fr0 sl0) rfl news (0 + l.length * i.size + 0) w) hnew hcont
      obtain ⟨hR', hle'⟩ := hR1.rename hS (upd2_self s fr0 sl0 (some (g, Ob.rows i.size (l ++ ys)))) fr sl
      rw [upd2_upd2] at hR' hle'
      refine hn _ _ _ φ hR' (hle1.trans hle') ?_
      refine RV.own (Nat.lt_succ_self n) (by simpa using hle) fun b' hb' => ?_
      obtain ⟨_, _, hbe⟩ := Ctx.of_obj_some hb'
      rw [upd2_self] at hbe
      subst hbe
      exact ⟨rfl, _, ty, (0, 0), hnew, by rw [putA_size, Nat.zero_add]; exact q6⟩

/-- append at an object of which less is shown. -/
theorem ok_app_short (hR : Rel D s τ n w f φ) (hS : ∀ b o, D.S b o → b < D.B) {x y : Operand} {e : TypeId} {i : TypeInfo} {z : Value} (hA : AppInfo P o x y e i z) {fr0 sl0 g len : Nat} {l ys : List (List V)} {u : V} (fr sl : Nat)
    (hx : RV (Ctx.of D s τ n w f φ) (a.eval x) (.own fr0 sl0 g 0 len i.size)) (hl : getRows s fr0 sl0 g i.size = some l) (hlen : len ≤ l.length) (hsl : len = l.length ∨ isSl u = true) (hy : RV (Ctx.of D s τ n w f φ) (a.eval y) u) (hys : rowsOf s i.size u = some ys) (hk : 0 < i.size) (hb : 0 < i.bytes) (hroom : (len + ys.length) * i.bytes ≤ room) :
    OpOk P D o a s τ n w f φ ⟨.own fr sl n 0 (len + ys.length) i.size, upd2 (upd2 s fr0 sl0 none) fr sl (some (n, .rows i.size (l.take len ++ ys))), τ, n + 1⟩ := by
  rcases hsl with rfl | hsl
  · rw [List.take_length]
    exact ok_app_own hR hS hA fr sl hx hl hy hys hk hb hroom
  · have hs := getRows_some hl
    obtain ⟨arr, ty, q1, q2, q3, q4⟩ := hR.rows hs
    have hcont : OCont (Ctx.of D s τ n w f φ) (.rows i.size (l.take len)) (.cells arr ty (0, 0)) := by
      refine ⟨arr, ty, rfl, ?_, fun r hr => q3 r (List.mem_of_mem_take hr), fun j r q t hr ht => ?_⟩
      · have : (l.take len).length * i.size ≤ l.length * i.size := Nat.mul_le_mul_right _ (by simp; omega)
        omega
      · rw [List.getElem?_take] at hr
        split at hr
        · exact q4 j r q t hr ht
        · simp at hr
    obtain ⟨hR1, hle1⟩ := hR.put hS hs (WStep.refl _ w) q1 hcont
    have hl1 : getRows (upd2 s fr0 sl0 (some (g, Ob.rows i.size (l.take len)))) fr0 sl0 g i.size = some (l.take len) := by simp [getRows, upd2_self]
    have hln : (l.take len).length = len := by simp; omega
    have hys1 : rowsOf (upd2 s fr0 sl0 (some (g, Ob.rows i.size (l.take len)))) i.size u = some ys := by
      cases u <;> simp [isSl] at hsl
      exact hys
    have hx1 : RV (Ctx.of D (upd2 s fr0 sl0 (some (g, Ob.rows i.size (l.take len)))) τ n w f φ) (a.eval x) (.own fr0 sl0 g 0 (l.take len).length i.size) := by rw [hln]; exact hx.mono hle1
    have := ok_app_own hR1 hS hA fr sl hx1 hl1 (hy.mono hle1) hys1 hk hb (by rw [hln]; exact hroom)
    rw [upd2_upd2, hln] at this
    intro next Q hn
    exact this next Q fun v w' f' φ' h1 h2 h3 => hn v w' f' φ' h1 (hle1.trans h2) h3
end
end Go.TI
end

/- Blocks that callees have laid. -/
section
set_option linter.unusedVariables false
set_option linter.unusedSimpArgs false
namespace Go.TI
open Go Go.RowKit
section
variable {D : Base} {s : Sto} {τ : Nat → Bool} {n : Nat} {w : World} {f : Nat → Nat → Nat} {φ : Nat → Option (Nat × Nat)}

/-- A block that a callee has laid becomes an object at a slot. -/
theorem Rel.adopt (hR : Rel D s τ n w f φ) (hS : ∀ b o, D.S b o → b < D.B) (fr sl : Nat) {o : Ob} {w' : World} (hb : Below w.heap.size w w') {bn : Nat} (hb1 : w.heap.size ≤ bn) (hb2 : bn < w'.heap.size)
    (hc : RObj (Ctx.of D (upd2 s fr sl (some (n, o))) τ (n + 1) w' (upd2 f fr sl bn) φ) bn o) :
    Rel D (upd2 s fr sl (some (n, o))) τ (n + 1) w' (upd2 f fr sl bn) φ ∧
      (Ctx.of D s τ n w f φ).le (Ctx.of D (upd2 s fr sl (some (n, o))) τ (n + 1) w' (upd2 f fr sl bn) φ) := by
  have hw := WStep.of_below hb
  have hle : (Ctx.of D s τ n w f φ).le (Ctx.of D (upd2 s fr sl (some (n, o))) τ (n + 1) w' (upd2 f fr sl bn) φ) := by
    refine le_of_step hR hS hw (Nat.le_succ _) (fun _ h => h.elim) (fun b q _ h2 h3 h4 => ⟨fun fr' sl' p hp => ?_, h4, cellAt_of_block (hw.block b h2 id) q⟩)
      (fun _ _ _ h => h.elim) (fun fr' sl' g q hg h => ?_) (fun g _ h => ⟨h, rfl⟩)
    · by_cases e : fr' = fr ∧ sl' = sl
      · obtain ⟨rfl, rfl⟩ := e
        rw [upd2_self]
        omega
      · rw [upd2_ne _ _ e] at hp ⊢
        exact h3 fr' sl' p hp
    · by_cases e : fr' = fr ∧ sl' = sl
      · obtain ⟨rfl, rfl⟩ := e
        rw [upd2_self] at h
        simp only [Option.some.injEq, Prod.mk.injEq] at h
        omega
      · rw [upd2_ne _ _ e] at h ⊢
        exact ⟨q, h, rfl⟩
  refine ⟨⟨hw.below hR.below hR.hB (fun _ h => h.elim), Nat.le_trans hR.hB hw.size, fun fr' sl' g q h => ?_, fun fr1 sl1 fr2 sl2 p1 p2 h1 h2 h3 => ?_, fun g h => Nat.lt_succ_of_lt (hR.tn g h), fun g b e h1 h2 => ?_, hR.tinj⟩, hle⟩
  · by_cases e : fr' = fr ∧ sl' = sl
    · obtain ⟨rfl, rfl⟩ := e
      rw [upd2_self] at h ⊢
      simp only [Option.some.injEq, Prod.mk.injEq] at h
      obtain ⟨rfl, rfl⟩ := h
      exact ⟨Nat.lt_succ_self _, Nat.le_trans hR.hB hb1, hb2, hc⟩
    · rw [upd2_ne _ _ e] at h ⊢
      obtain ⟨h1, h2, h3, h4⟩ := hR.live fr' sl' g q h
      exact ⟨Nat.lt_succ_of_lt h1, h2, Nat.lt_of_lt_of_le h3 hw.size, h4.mono hle (hw.block _ h3 id)⟩
  · by_cases e1 : fr1 = fr ∧ sl1 = sl
    · by_cases e2 : fr2 = fr ∧ sl2 = sl
      · exact ⟨e1.1.trans e2.1.symm, e1.2.trans e2.2.symm⟩
      · obtain ⟨rfl, rfl⟩ := e1
        rw [upd2_self, upd2_ne _ _ e2] at h3
        rw [upd2_ne _ _ e2] at h2
        obtain ⟨g2, o2⟩ := p2
        have := (hR.live fr2 sl2 g2 o2 h2).2.2.1
        omega
    · by_cases e2 : fr2 = fr ∧ sl2 = sl
      · obtain ⟨rfl, rfl⟩ := e2
        rw [upd2_self, upd2_ne _ _ e1] at h3
        rw [upd2_ne _ _ e1] at h1
        obtain ⟨g1, o1⟩ := p1
        have := (hR.live fr1 sl1 g1 o1 h1).2.2.1
        omega
      · rw [upd2_ne _ _ e1] at h1 h3
        rw [upd2_ne _ _ e2] at h2 h3
        exact hR.inj fr1 sl1 fr2 sl2 p1 p2 h1 h2 h3
  · obtain ⟨h3, h4, h5, arr, ty, h6⟩ := hR.toks g b e h1 h2
    refine ⟨h3, Nat.lt_of_lt_of_le h4 hw.size, fun fr' sl' p hp => ?_, arr, ty, (hw.block _ h4 id).trans h6⟩
    by_cases e : fr' = fr ∧ sl' = sl
    · obtain ⟨rfl, rfl⟩ := e
      rw [upd2_self]
      omega
    · rw [upd2_ne _ _ e] at hp ⊢
      exact h5 fr' sl' p hp

/-- A token for a block that a callee has laid, of which the cells from e on are free. -/
theorem Rel.tokAdopt (hR : Rel D s τ n w f φ) (hS : ∀ b o, D.S b o → b < D.B) {w' : World} (hb : Below w.heap.size w w') {bn : Nat} (hb1 : w.heap.size ≤ bn) {arr : Array Value} {ty : TypeId} (harr : w'.heap[bn]? = some (.cells arr ty (0, 0))) (e : Nat) :
    Rel D s (upd τ n true) (n + 1) w' f (upd φ n (some (bn, e))) ∧
      (Ctx.of D s τ n w f φ).le (Ctx.of D s (upd τ n true) (n + 1) w' f (upd φ n (some (bn, e)))) := by
  have hw := WStep.of_below hb
  have key : ∀ g b q, b < w.heap.size → upd τ n true g = true → upd φ n (some (bn, e)) g = some (b, q) → τ g = true ∧ φ g = some (b, q) := by
    intro g b q hb h1 h2
    by_cases hg : g = n
    · subst hg; rw [upd_self] at h2; simp only [Option.some.injEq, Prod.mk.injEq] at h2; omega
    · rw [upd_ne _ _ hg] at h1 h2; exact ⟨h1, h2⟩
  have hle : (Ctx.of D s τ n w f φ).le (Ctx.of D s (upd τ n true) (n + 1) w' f (upd φ n (some (bn, e)))) :=
    le_of_step hR hS hw (Nat.le_succ _) (fun _ h => h.elim) (fun b q _ h2 h3 h4 => ⟨h3, fun g e' hg he => h4 g e' (key g b e' h2 hg he).1 (key g b e' h2 hg he).2, cellAt_of_block (hw.block b h2 id) q⟩)
      (fun _ _ _ h => h.elim) (fun fr' sl' g' q _ h => ⟨q, h, rfl⟩) (fun g hg h => by rw [upd_ne _ _ (by omega)] at h ⊢; exact ⟨h, rfl⟩)
  refine ⟨⟨hw.below hR.below hR.hB (fun _ h => h.elim), Nat.le_trans hR.hB hw.size, fun fr' sl' g' q h => ?_, hR.inj, fun g h => ?_, fun g' b q h1 h2 => ?_, fun g g' b q q' h1 h2 h3 h4 => ?_⟩, hle⟩
  · obtain ⟨h1, h2, h3, h4⟩ := hR.live fr' sl' g' q h
    exact ⟨Nat.lt_succ_of_lt h1, h2, Nat.lt_of_lt_of_le h3 hw.size, h4.mono hle (hw.block _ h3 id)⟩
  · by_cases hg : g = n
    · omega
    · rw [upd_ne _ _ hg] at h; have := hR.tn g h; omega
  · by_cases hg : g' = n
    · subst hg
      rw [upd_self] at h2
      simp only [Option.some.injEq, Prod.mk.injEq] at h2
      obtain ⟨rfl, rfl⟩ := h2
      refine ⟨Nat.le_trans hR.hB hb1, heap_lt harr, fun fr sl p hp => ?_, arr, ty, harr⟩
      obtain ⟨g2, o2⟩ := p
      have := (hR.live fr sl g2 o2 hp).2.2.1
      omega
    · rw [upd_ne _ _ hg] at h1 h2
      obtain ⟨h3, h4, h5, arr', ty', h6⟩ := hR.toks g' b q h1 h2
      exact ⟨h3, Nat.lt_of_lt_of_le h4 hw.size, h5, arr', ty', (hw.block _ h4 id).trans h6⟩
  · by_cases hg : g = n
    · by_cases hg' : g' = n
      · omega
      · subst hg
        rw [upd_self] at h3
        rw [upd_ne _ _ hg'] at h2 h4
        simp only [Option.some.injEq, Prod.mk.injEq] at h3
        have := (hR.toks g' b q' h2 h4).2.1
        omega
    · by_cases hg' : g' = n
      · subst hg'
        rw [upd_self] at h4
        rw [upd_ne _ _ hg] at h1 h3
        simp only [Option.some.injEq, Prod.mk.injEq] at h4
        have := (hR.toks g b q h1 h3).2.1
        omega
      · rw [upd_ne _ _ hg] at h1 h3
        rw [upd_ne _ _ hg'] at h2 h4
        exact hR.tinj g g' b q q' h1 h2 h3 h4

end

/-- A context without a store. -/
def Ctx.bare (w : World) (S : Nat → Nat → Prop) : Ctx := ⟨w, S, fun _ _ _ => none, fun _ => none, 0⟩

theorem le_bare {w : World} {S : Nat → Nat → Prop} {c : Ctx} (hw : c.w = w) (hS : ∀ b o, S b o → c.set b o) : (Ctx.bare w S).le c where
  n := Nat.zero_le _
  cell b o h := ⟨hS b o h, by rw [hw]; rfl⟩
  map b mes k _ h := by rw [hw]; exact h
  obj _ _ _ _ h := absurd h (Nat.not_lt_zero _)
  tok _ _ h := absurd h (Nat.not_lt_zero _)
  arr b arr ty fr h := ⟨arr, by rw [hw]; exact h, rfl⟩
  oth b o h _ := by rw [hw]; exact h
  size := by rw [hw]; exact Nat.le_refl _

theorem mapO_all {α β : Type} {f : α → Option β} {l : List α} {r : List β} (h : mapO f l = some r) : ∀ (i : Nat) (y : β), r[i]? = some y → ∃ x, l[i]? = some x ∧ f x = some y := by
  intro i y hy
  obtain ⟨h1, h2⟩ := mapO_some h
  have hlt : i < l.length := by rw [h1]; exact (List.getElem?_eq_some_iff.1 hy).1
  exact ⟨l[i], List.getElem?_eq_getElem hlt, h2 i _ _ (List.getElem?_eq_getElem hlt) hy⟩

theorem view_scal {d : Nat} {s : Sto} {t u : V} (h : view s d t = some u) (ht : scal t = true) : scal u = true := by
  cases d with
  | zero => simp [view] at h
  | succ d =>
    cases t <;> simp [scal] at ht <;> simp only [view] at h
    case lit => injection h with h; subst h; rfl
    case sl => rw [Option.map_eq_some_iff] at h; obtain ⟨_, _, rfl⟩ := h; rfl
    case own =>
      split at h
      · split at h
        · rw [Option.map_eq_some_iff] at h; obtain ⟨_, _, rfl⟩ := h; rfl
        · simp at h
      · simp at h
    case ptr =>
      split at h
      · split at h
        · rw [Option.map_eq_some_iff] at h; obtain ⟨_, _, rfl⟩ := h; rfl
        · simp at h
      · simp at h
    case rptr =>
      split at h
      · split at h
        · split at h
          · rw [Option.map_eq_some_iff] at h; obtain ⟨_, _, rfl⟩ := h; rfl
          · simp at h
        · simp at h
      · simp at h
    case vptr => rw [Option.map_eq_some_iff] at h; obtain ⟨_, _, rfl⟩ := h; rfl
    case map =>
      split at h
      · split at h
        · rw [Option.map_eq_some_iff] at h; obtain ⟨_, _, rfl⟩ := h; rfl
        · simp at h
      · simp at h
    case vmap => rw [Option.map_eq_some_iff] at h; obtain ⟨_, _, rfl⟩ := h; rfl
    case clo => rw [Option.map_eq_some_iff] at h; obtain ⟨_, _, rfl⟩ := h; rfl

/-- A value that leads into no store needs none. -/
theorem RV.closed {c : Ctx} {S : Nat → Nat → Prop} (hS : ∀ b o, c.set b o → S b o) : ∀ (d : Nat) {x : Value} {t u : V}, RV c x t → TI.view (fun _ _ => none) d t = some u → RV (Ctx.bare c.w S) x u := by
  intro d
  induction d with
  | zero => intro x t u _ h; simp [TI.view] at h
  | succ d ih =>
    intro x t u hx h
    have lst : ∀ {cs us : List V}, mapO (TI.view (fun _ _ => none) d) cs = some us → ∀ (i : Nat) (y : Value) (v : V), (∀ t, cs[i]? = some t → RV c y t) → us[i]? = some v → RV (Ctx.bare c.w S) y v := by
      intro cs us h i y v hy hv
      obtain ⟨t, ht, hvt⟩ := mapO_all h i v hv
      exact ih (hy t ht) hvt
    cases hx with
    | lit h1 => simp only [TI.view, Option.some.injEq] at h; subst h; exact .lit h1
    | udef => simp [TI.view] at h
    | yld => simp [TI.view] at h
    | agg h1 h2 =>
      simp only [TI.view, Option.map_eq_some_iff] at h
      obtain ⟨us, hus, rfl⟩ := h
      exact .agg (h1.trans (mapO_some hus).1) fun i y v hy hv => lst hus i y v (fun t ht => h2 i y t hy ht) hv
    | tup h1 h2 =>
      simp only [TI.view, Option.map_eq_some_iff] at h
      obtain ⟨us, hus, rfl⟩ := h
      exact .tup (h1.trans (mapO_some hus).1) fun i y v hy hv => lst hus i y v (fun t ht => h2 i y t hy ht) hv
    | @sl a n cap k rows m y h1 h2 h3 h4 h5 h6 =>
      simp only [TI.view, Option.map_eq_some_iff] at h
      obtain ⟨us, hus, rfl⟩ := h
      obtain ⟨m1, m2⟩ := mapO_some hus
      have hrow : ∀ (j : Nat) (r : List V), us[j]? = some r → ∃ r0, rows[j]? = some r0 ∧ mapO (TI.view (fun _ _ => none) d) r0 = some r := fun j r hr => mapO_all hus j r hr
      refine RV.slN ?_
      refine .sl y (h1.trans m1) h2 (fun r hr => ?_) (fun j r i t hr ht => ?_) (fun j r i t hr ht => ?_) trivial
      · obtain ⟨j, hj, rfl⟩ := List.getElem_of_mem hr
        obtain ⟨r0, hr0, hv⟩ := hrow j _ (List.getElem?_eq_getElem hj)
        obtain ⟨e1, e2⟩ := h3 r0 (List.mem_of_getElem? hr0)
        refine ⟨by rw [← (mapO_some hv).1]; exact e1, fun t ht => ?_⟩
        obtain ⟨i, hi, rfl⟩ := List.getElem_of_mem ht
        obtain ⟨t0, ht0, hvt⟩ := mapO_all hv i _ (List.getElem?_eq_getElem hi)
        exact view_scal hvt (e2 t0 (List.mem_of_getElem? ht0))
      · obtain ⟨r0, hr0, hv⟩ := hrow j r hr
        obtain ⟨t0, ht0, hvt⟩ := mapO_all hv i t ht
        obtain ⟨b, off, ha, hs, hc⟩ := h4 j r0 i t0 hr0 ht0
        exact ⟨b, off, ha, hS _ _ hs, hc⟩
      · obtain ⟨r0, hr0, hv⟩ := hrow j r hr
        obtain ⟨t0, ht0, hvt⟩ := mapO_all hv i t ht
        exact ih (h5 j r0 i t0 hr0 ht0) hvt
    | own _ _ _ => simp [TI.view] at h
    | ptr _ _ => simp [TI.view] at h
    | rptr _ _ => simp [TI.view] at h
    | vptr y h1 h2 =>
      simp only [TI.view, Option.map_eq_some_iff] at h
      obtain ⟨us, hus, rfl⟩ := h
      refine .vptr y (fun i t ht => ?_) fun i t ht => lst hus i _ t (fun t0 ht0 => h2 i t0 ht0) ht
      obtain ⟨t0, ht0, _⟩ := mapO_all hus i t ht
      exact ⟨hS _ _ (h1 i t0 ht0).1, (h1 i t0 ht0).2⟩
    | map _ _ => simp [TI.view] at h
    | @vmap b es mes h1 h2 h3 h4 h5 =>
      simp only [TI.view, Option.map_eq_some_iff] at h
      obtain ⟨us, hus, rfl⟩ := h
      have hl := (mapO_some hus).1
      have hent : ∀ (i : Nat) (p : Value × V), us[i]? = some p → ∃ p0, es[i]? = some p0 ∧ p.1 = p0.1 ∧ TI.view (fun _ _ => none) d p0.2 = some p.2 := by
        intro i p hp
        obtain ⟨p0, hp0, hv⟩ := mapO_all hus i p hp
        rw [Option.map_eq_some_iff] at hv
        obtain ⟨q, hq, rfl⟩ := hv
        exact ⟨p0, hp0, rfl, hq⟩
      refine RV.vmap (c := Ctx.bare c.w S) (mes := mes) (fun o => hS _ _ (h1 o)) (by rw [← hl]; exact h2) (by rw [← hl]; exact h3) (fun i e p he hp => ?_) (fun i e p he hp => ?_)
      · obtain ⟨p0, hp0, e1, _⟩ := hent i p hp
        rw [e1]
        exact h4 i e p0 he hp0
      · obtain ⟨p0, hp0, _, hv⟩ := hent i p hp
        exact ih (h5 i e p0 he hp0) hv
    | clo h1 h2 =>
      simp only [TI.view, Option.map_eq_some_iff] at h
      obtain ⟨us, hus, rfl⟩ := h
      exact .clo (h1.trans (mapO_some hus).1) fun i y v hy hv => lst hus i y v (fun t ht => h2 i y t hy ht) hv

/-- A value with no memory behind it holds anywhere. -/
theorem RV.flat {w : World} {S : Nat → Nat → Prop} {c : Ctx} : ∀ (d : Nat) {x : Value} {t : V}, RV (Ctx.bare w S) x t → flat d t = true → RV c x t := by
  intro d
  induction d with
  | zero => intro x t _ h; simp [TI.flat] at h
  | succ d ih =>
    intro x t hx h
    cases hx with
    | lit h1 => exact .lit h1
    | agg h1 h2 => exact .agg h1 fun i y t hy ht => ih (h2 i y t hy ht) (List.all_eq_true.1 (by simpa [TI.flat] using h) _ (List.mem_of_getElem? ht))
    | tup h1 h2 => exact .tup h1 fun i y t hy ht => ih (h2 i y t hy ht) (List.all_eq_true.1 (by simpa [TI.flat] using h) _ (List.mem_of_getElem? ht))
    | @sl a n cap k rows m y h1 h2 h3 h4 h5 h6 =>
      have : rows = [] := by simpa [TI.flat] using h
      subst this
      refine .sl y h1 h2 (by simp) (by simp) (by simp) ?_
      cases m with
      | shared => trivial
      | tight => exact h6
      | tok g => exact absurd h6.1 (Nat.not_lt_zero _)
    | clo h1 h2 => exact .clo h1 fun i y t hy ht => ih (h2 i y t hy ht) (List.all_eq_true.1 (by simpa [TI.flat] using h) _ (List.mem_of_getElem? ht))
    | _ => simp [TI.flat] at h

section
variable {D : Base} {s : Sto} {τ : Nat → Bool} {n : Nat} {w : World} {f : Nat → Nat → Nat} {φ : Nat → Option (Nat × Nat)}

/-- What a callee sees of a value is there for it. -/
theorem RV.view1 (hR : Rel D s τ n w f φ) {s1 : Sto} (hs1 : ∀ fr sl p, s1 fr sl = some p → s fr sl = some p) {S : Nat → Nat → Prop} (hS : ∀ b o, (Ctx.of D s τ n w f φ).set b o → S b o) : ∀ (d : Nat) {x : Value} {t u : V}, (refs d t = true → ∀ fr sl p, s1 fr sl = some p → ∀ o, S (f fr sl) o) →
    RV (Ctx.of D s τ n w f φ) x t → view s1 d t = some u → RV (Ctx.bare w S) x u := by
  intro d
  induction d with
  | zero => intro x t u _ _ h; simp [TI.view] at h
  | succ d ih =>
    intro x t u hA hx h
    have lst : ∀ {cs us : List V}, (cs.any (refs d) = true → ∀ fr sl p, s1 fr sl = some p → ∀ o, S (f fr sl) o) → mapO (TI.view s1 d) cs = some us → ∀ (i : Nat) (y : Value) (v : V), (∀ t, cs[i]? = some t → RV (Ctx.of D s τ n w f φ) y t) → us[i]? = some v → RV (Ctx.bare w S) y v := by
      intro cs us hA h i y v hy hv
      obtain ⟨t, ht, hvt⟩ := mapO_all h i v hv
      exact ih (fun hr => hA (List.any_eq_true.2 ⟨t, List.mem_of_getElem? ht, hr⟩)) (hy t ht) hvt
    cases t with
    | lit v =>
      simp only [TI.view, Option.some.injEq] at h
      subst h
      obtain ⟨rfl, hp⟩ := hx.lit_inv
      exact .lit hp
    | udef => simp [TI.view] at h
    | agg cs =>
      simp only [TI.view, Option.map_eq_some_iff] at h
      obtain ⟨us, hus, rfl⟩ := h
      obtain ⟨xs, rfl, h1, h2⟩ := hx.agg_inv
      exact .agg (h1.trans (mapO_some hus).1) fun i y v hy hv => lst (fun hr => hA (by simpa [refs] using hr)) hus i y v (fun t ht => h2 i y t hy ht) hv
    | tup cs =>
      simp only [TI.view, Option.map_eq_some_iff] at h
      obtain ⟨us, hus, rfl⟩ := h
      obtain ⟨xs, rfl, h1, h2⟩ := hx.tup_inv
      exact .tup (h1.trans (mapO_some hus).1) fun i y v hy hv => lst (fun hr => hA (by simpa [refs] using hr)) hus i y v (fun t ht => h2 i y t hy ht) hv
    | yld a b c => simp [TI.view] at h
    | clo g cs =>
      simp only [TI.view, Option.map_eq_some_iff] at h
      obtain ⟨us, hus, rfl⟩ := h
      obtain ⟨xs, rfl, h1, h2⟩ := hx.clo_inv
      exact .clo (h1.trans (mapO_some hus).1) fun i y v hy hv => lst (fun hr => hA (by simpa [refs] using hr)) hus i y v (fun t ht => h2 i y t hy ht) hv
    | sl k rows m => exact RV.closed (c := Ctx.of D s τ n w f φ) hS (d + 1) hx (by simpa only [TI.view] using h)
    | vptr cs off => exact RV.closed (c := Ctx.of D s τ n w f φ) hS (d + 1) hx (by simpa only [TI.view] using h)
    | vmap es => exact RV.closed (c := Ctx.of D s τ n w f φ) hS (d + 1) hx (by simpa only [TI.view] using h)
    | own fr sl gen off len k =>
      have hall := hA rfl
      simp only [TI.view] at h
      split at h
      · rename_i g k' l hs
        split at h
        · rename_i hc
          obtain ⟨rfl, rfl, hle⟩ := hc
          rw [Option.map_eq_some_iff] at h
          obtain ⟨us, hus, rfl⟩ := h
          obtain ⟨arr, ty, q1, q2, q3, q4⟩ := hR.rows (hs1 _ _ _ hs)
          cases hx with
          | @own base _ _ _ _ _ cap _ g1 g2 g3 =>
            obtain ⟨rfl, _⟩ := g3 _ (Ctx.of_obj_live (hs1 _ _ _ hs))
            obtain ⟨m1, m2⟩ := mapO_some hus
            have hlen : ((l.drop off).take len).length = len := by simp; omega
            have hrow : ∀ (j : Nat) (r : List V), us[j]? = some r → ∃ r0, l[off + j]? = some r0 ∧ mapO (TI.view s1 d) r0 = some r := by
              intro j r hr
              obtain ⟨r0, hr0, hv⟩ := mapO_all hus j r hr
              rw [List.getElem?_take] at hr0
              split at hr0
              · rw [List.getElem?_drop] at hr0; exact ⟨r0, hr0, hv⟩
              · simp at hr0
            have hin : ∀ {j i : Nat} {r : List V} {t : V}, us[j]? = some r → r[i]? = some t → ∃ (x : Value) (t0 : V), arr[off * k' + j * k' + i]? = some x ∧ RV (Ctx.of D s τ n w f φ) x t0 ∧ TI.view s1 d t0 = some t ∧ scal t0 = true := by
              intro j i r t hr ht
              obtain ⟨r0, hr0, hv⟩ := hrow j r hr
              obtain ⟨t0, ht0, hvt⟩ := mapO_all hv i t ht
              obtain ⟨x, hx, hrx⟩ := q4 _ r0 i t0 hr0 ht0
              rw [Nat.add_mul] at hx
              exact ⟨x, t0, hx, hrx, hvt, (q3 r0 (List.mem_of_getElem? hr0)).2 t0 (List.mem_of_getElem? ht0)⟩
            refine RV.slN ?_
            refine RV.ofBlock (c := Ctx.bare w S) (arr := arr) (ty := ty) (fz := (0, 0)) q1 (fun o _ _ => hall _ _ _ hs _) (by rw [← m1, hlen]) g2 (fun r hr => ?_) (fun j r i t hr ht => ?_) trivial
            · obtain ⟨j, hj, rfl⟩ := List.getElem_of_mem hr
              obtain ⟨r0, hr0, hv⟩ := hrow j _ (List.getElem?_eq_getElem hj)
              refine ⟨by rw [← (mapO_some hv).1]; exact (q3 r0 (List.mem_of_getElem? hr0)).1, fun t ht => ?_⟩
              obtain ⟨i, hi, rfl⟩ := List.getElem_of_mem ht
              obtain ⟨_, t0, _, _, hvt, hsc⟩ := hin (List.getElem?_eq_getElem hj) (List.getElem?_eq_getElem hi)
              exact view_scal hvt hsc
            · obtain ⟨x, t0, hx, hrx, hvt, _⟩ := hin hr ht
              exact ⟨x, hx, ih (fun _ => hall) hrx hvt⟩
        · simp at h
      · simp at h
    | ptr fr sl gen off =>
      have hall := hA rfl
      simp only [TI.view] at h
      split at h
      · rename_i g l hs
        split at h
        · rename_i hc
          subst hc
          rw [Option.map_eq_some_iff] at h
          obtain ⟨us, hus, rfl⟩ := h
          obtain ⟨arr, ty, q1, q2, q3⟩ := hR.cells (hs1 _ _ _ hs)
          cases hx with
          | ptr g1 g2 =>
            obtain ⟨rfl, rfl⟩ := g2 _ (Ctx.of_obj_live (hs1 _ _ _ hs))
            rename_i off
            have hin : ∀ {i : Nat} {t : V}, us[i]? = some t → ∃ (x : Value) (t0 : V), arr[i]? = some x ∧ RV (Ctx.of D s τ n w f φ) x t0 ∧ TI.view s1 d t0 = some t := by
              intro i t ht
              obtain ⟨t0, ht0, hvt⟩ := mapO_all hus i t ht
              have hlt : i < arr.size := by rw [q2]; exact (List.getElem?_eq_some_iff.1 ht0).1
              exact ⟨arr[i], t0, Array.getElem?_eq_getElem hlt, q3 i _ t0 (Array.getElem?_eq_getElem hlt) ht0, hvt⟩
            have := RV.vptr (c := Ctx.bare w S) (b := f fr sl) (o := 0) (off := off) (cells := us) (fun i => arr.getD i undef) (fun i t ht => ?_) (fun i t ht => ?_)
            · rw [Nat.zero_add] at this; exact this
            · obtain ⟨x, t0, hx, _, _⟩ := hin ht
              have hlt := (Array.getElem?_eq_some_iff.1 hx).1
              exact ⟨hall _ _ _ hs _, by rw [Nat.zero_add]; refine (cellAt_cells q1 i).trans ?_; simp [hlt]⟩
            · obtain ⟨x, t0, hx, hrx, hvt⟩ := hin ht
              have hlt := (Array.getElem?_eq_some_iff.1 hx).1
              have : arr.getD i undef = x := by simp [hlt, (Array.getElem?_eq_some_iff.1 hx).2]
              simp only [this]
              exact ih (fun _ => hall) hrx hvt
        · simp at h
      · simp at h
    | rptr fr sl gen k idx off =>
      have hall := hA rfl
      simp only [TI.view] at h
      split at h
      · rename_i g k' l hs
        split at h
        · rename_i hc
          obtain ⟨rfl, rfl⟩ := hc
          split at h
          · rename_i r hr
            rw [Option.map_eq_some_iff] at h
            obtain ⟨us, hus, rfl⟩ := h
            obtain ⟨arr, ty, q1, q2, q3, q4⟩ := hR.rows (hs1 _ _ _ hs)
            cases hx with
            | rptr g1 g2 =>
              obtain ⟨rfl, rfl⟩ := g2 _ (Ctx.of_obj_live (hs1 _ _ _ hs))
              have hin : ∀ {i : Nat} {t : V}, us[i]? = some t → ∃ (x : Value) (t0 : V), arr[idx * k' + i]? = some x ∧ RV (Ctx.of D s τ n w f φ) x t0 ∧ TI.view s1 d t0 = some t := by
                intro i t ht
                obtain ⟨t0, ht0, hvt⟩ := mapO_all hus i t ht
                obtain ⟨x, hx, hrx⟩ := q4 idx r i t0 hr ht0
                exact ⟨x, t0, hx, hrx, hvt⟩
              refine RV.vptr (c := Ctx.bare w S) (b := f fr sl) (o := idx * k') (off := off) (cells := us) (fun i => arr.getD (idx * k' + i) undef) (fun i t ht => ?_) (fun i t ht => ?_)
              · obtain ⟨x, t0, hx, _, _⟩ := hin ht
                have hlt := (Array.getElem?_eq_some_iff.1 hx).1
                exact ⟨hall _ _ _ hs _, (cellAt_cells q1 _).trans (by simp [hlt])⟩
              · obtain ⟨x, t0, hx, hrx, hvt⟩ := hin ht
                have hlt := (Array.getElem?_eq_some_iff.1 hx).1
                have : arr.getD (idx * k' + i) undef = x := by simp [hlt, (Array.getElem?_eq_some_iff.1 hx).2]
                simp only [this]
                exact ih (fun _ => hall) hrx hvt
          · simp at h
        · simp at h
      · simp at h
    | map fr sl gen =>
      have hall := hA rfl
      simp only [TI.view] at h
      split at h
      · rename_i g es hs
        split at h
        · rename_i hc
          subst hc
          rw [Option.map_eq_some_iff] at h
          obtain ⟨us, hus, rfl⟩ := h
          obtain ⟨mes, q1, q2, q3⟩ := hR.mapAt (hs1 _ _ _ hs)
          cases hx with
          | map g1 g2 =>
            have := g2 _ (Ctx.of_obj_live (hs1 _ _ _ hs))
            subst this
            have hl := (mapO_some hus).1
            have hin : ∀ {i : Nat} {p : Value × V}, us[i]? = some p → ∃ p0 : Value × V, es[i]? = some p0 ∧ p0.1 = p.1 ∧ TI.view s1 d p0.2 = some p.2 := by
              intro i p hp
              obtain ⟨p0, hp0, hv⟩ := mapO_all hus i p hp
              rw [Option.map_eq_some_iff] at hv
              obtain ⟨v, hv, rfl⟩ := hv
              exact ⟨p0, hp0, rfl, hv⟩
            refine RV.vmap (c := Ctx.bare w S) (mes := mes) (fun o => hall _ _ _ hs _) (by rw [← hl]; exact q1) (by rw [← hl]; exact q2) (fun i e p he hp => ?_) (fun i e p he hp => ?_)
            · obtain ⟨p0, hp0, h1, _⟩ := hin hp
              exact ⟨by rw [← h1]; exact (q3 i e p0 he hp0).1, (q3 i e p0 he hp0).2.1⟩
            · obtain ⟨p0, hp0, _, hv⟩ := hin hp
              exact ih (fun _ => hall) (q3 i e p0 he hp0).2.2 hv
        · simp at h
      · simp at h

theorem RV.view (hR : Rel D s τ n w f φ) {S : Nat → Nat → Prop} (hS : ∀ b o, (Ctx.of D s τ n w f φ).set b o → S b o) (d : Nat) {x : Value} {t u : V} (hA : refs d t = true → ∀ fr sl p, s fr sl = some p → ∀ o, S (f fr sl) o)
    (hx : RV (Ctx.of D s τ n w f φ) x t) (h : TI.view s d t = some u) : RV (Ctx.bare w S) x u := RV.view1 hR (fun _ _ _ h => h) hS d hA hx h
end
end Go.TI
end

/- A call of a callee whose answer is known does in the world what it does in the interpreter. -/
section
set_option linter.unusedVariables false
set_option linter.unusedSimpArgs false
namespace Go.TI
open Go Go.RowKit

/-- What a callee may read of behind its call: what could be read before, and what is new. -/
def grownSet (w w' : World) (S : Nat → Nat → Prop) : Nat → Nat → Prop := fun b o => S b o ∨ (w.heap.size ≤ b ∧ b < w'.heap.size)

/-- The call of K at these arguments gives this value, and leaves what was there. -/
def PureOk (P : Program) (K : Nat) (args : List V) (r : V) : Prop :=
  ∀ (w : World) (S : Nat → Nat → Prop) (vals : Array Value), (∀ b o, S b o → b < w.heap.size) → vals.size = args.length →
    (∀ (i : Nat) (x : Value) (t : V), vals[i]? = some x → args[i]? = some t → RV (Ctx.bare w S) x t) →
    Calls P K vals w fun e w' => ∃ v, e = .returned v ∧ Below w.heap.size w w' ∧ RV (Ctx.bare w' (grownSet w w' S)) v r

/-- The call of K at these arguments gives a slice of its own. -/
def FreshOk (P : Program) (K : Nat) (args : List V) (k : Nat) (rows : List (List V)) : Prop :=
  ∀ (w : World) (S : Nat → Nat → Prop) (vals : Array Value), (∀ b o, S b o → b < w.heap.size) → vals.size = args.length →
    (∀ (i : Nat) (x : Value) (t : V), vals[i]? = some x → args[i]? = some t → RV (Ctx.bare w S) x t) →
    Calls P K vals w fun e w' => ∃ (A : Option Addr) (cap : Nat), e = .returned (.slice A rows.length cap) ∧ Below w.heap.size w w' ∧ rows.length ≤ cap ∧ 0 < k ∧ (∀ r ∈ rows, r.length = k ∧ ∀ t ∈ r, scal t = true) ∧ (rows = [] → cap = 0) ∧
      (rows ≠ [] → ∃ (b : Nat) (arr : Array Value) (ty : TypeId), A = some ⟨b, 0, none⟩ ∧ w.heap.size ≤ b ∧ w'.heap[b]? = some (.cells arr ty (0, 0)) ∧ cap * k ≤ arr.size ∧
        ∀ (j : Nat) (r : List V) (i : Nat) (t : V), rows[j]? = some r → r[i]? = some t → ∃ x, arr[j * k + i]? = some x ∧ RV (Ctx.bare w' fun b' o => S b' o ∨ (w.heap.size ≤ b' ∧ b' < w'.heap.size ∧ b' ≠ b)) x t)

theorem hasBody_some {P : Program} {f : FuncId} (h : hasBody P f = true) : ∃ fn, P.funcs[f]? = some fn ∧ (fn.name == "runtime.NumGoroutine") = false ∧ fn.body.isNone = false := by
  unfold hasBody at h
  split at h
  · rename_i fn hf
    simp only [Bool.and_eq_true, Bool.not_eq_true'] at h
    exact ⟨fn, hf, h.2, by cases hb : fn.body <;> simp [hb] at h ⊢⟩
  · simp at h

theorem run_callFunc {P : Program} {f : FuncId} (h : hasBody P f = true) (args : Array Value) (w : World) : (callFunc f args).run P w = .ok (.enter f args) w := by
  obtain ⟨fn, h1, h2, h3⟩ := hasBody_some h
  have h2' : ¬ fn.name = "runtime.NumGoroutine" := by simpa using h2
  have h3' : ¬ fn.body = none := by intro e; rw [e] at h3; simp at h3
  simp [callFunc, program, Sem.run, h1, h2', h3']

section
variable {P : Program} {D : Base} {o : Oper} {a : Act} {s : Sto} {τ : Nat → Bool} {n : Nat} {w : World} {f : Nat → Nat → Nat} {φ : Nat → Option (Nat × Nat)}

theorem run_call_static {c : Call} {K : FuncId} (hop : o.op = .call c) (hc : c.callee = .value (.func K)) (hb : hasBody P K = true) : (execOp a.eval o).run P w = .ok (.enter K (c.args.map a.eval)) w := by
  simp [execOp, hop, resolve, hc, Deferred.ofValue, Act.eval, invoke, run_callFunc hb]
theorem run_call_value {c : Call} {x : Operand} {K : FuncId} {cv : Array Value} (hop : o.op = .call c) (hc : c.callee = .value x) (hx : a.eval x = .func (.func K) #[] cv) (hb : hasBody P K = true) :
    (execOp a.eval o).run P w = .ok (.enter K (c.args.map a.eval ++ cv)) w := by
  simp [execOp, hop, resolve, hc, hx, Deferred.ofValue, invoke, run_callFunc hb]

theorem Ctx.set_lt (hR : Rel D s τ n w f φ) (hS : ∀ b o, D.S b o → b < D.B) : ∀ b o, (Ctx.of D s τ n w f φ).set b o → b < w.heap.size := by
  rintro b o (⟨h1, h2⟩ | ⟨_, h2, _⟩)
  · exact Nat.lt_of_lt_of_le h1 hR.hB
  · exact h2

/-- What a callee may read of behind its call may be read by the caller. -/
theorem grown_le (hR : Rel D s τ n w f φ) (hS : ∀ b o, D.S b o → b < D.B) {w' : World} (hb : Below w.heap.size w w') :
    (Ctx.bare w' (grownSet w w' (Ctx.of D s τ n w f φ).set)).le (Ctx.of D s τ n w' f φ) := by
  obtain ⟨_, hle⟩ := hR.grow hS hb
  refine le_bare rfl fun b o h => ?_
  rcases h with h | ⟨h1, h2⟩
  · exact (hle.cell b o h).1
  · refine .inr ⟨Nat.le_trans hR.hB h1, h2, fun fr sl p hp => ?_, fun g e hg he => ?_⟩
    · obtain ⟨g, q⟩ := p
      have := (hR.live fr sl g q hp).2.2.1
      omega
    · have := (hR.toks g b e hg he).2.1
      omega

theorem views_ok (hR : Rel D s τ n w f φ) {vals : Array Value} {args vs : List V} (hsz : vals.size = args.length) (hrv : ∀ (i : Nat) (x : Value) (t : V), vals[i]? = some x → args[i]? = some t → RV (Ctx.of D s τ n w f φ) x t)
    (hv : mapO (view s viewDepth) args = some vs) {S : Nat → Nat → Prop} (hS : ∀ b o, (Ctx.of D s τ n w f φ).set b o → S b o) (hA : args.any (refs viewDepth) = true → ∀ b o, b < w.heap.size → S b o) :
    vals.size = vs.length ∧ ∀ (i : Nat) (x : Value) (t : V), vals[i]? = some x → vs[i]? = some t → RV (Ctx.bare w S) x t := by
  refine ⟨hsz.trans (mapO_some hv).1, fun i x t hx ht => ?_⟩
  obtain ⟨t0, ht0, hvt⟩ := mapO_all hv i t ht
  exact RV.view hR hS viewDepth (fun hr fr sl p hp o => hA (List.any_eq_true.2 ⟨t0, List.mem_of_getElem? ht0, hr⟩) _ o (hR.live fr sl p.1 p.2 hp).2.2.1) (hrv i x t0 hx ht0) hvt

theorem ok_pure (hR : Rel D s τ n w f φ) (hS : ∀ b o, D.S b o → b < D.B) {K : FuncId} {vals : Array Value} {args vs : List V} {r : V} (hrun : (execOp a.eval o).run P w = .ok (.enter K vals) w) (hsz : vals.size = args.length)
    (hrv : ∀ (i : Nat) (x : Value) (t : V), vals[i]? = some x → args[i]? = some t → RV (Ctx.of D s τ n w f φ) x t) (hv : mapO (view s viewDepth) args = some vs) (hok : PureOk P K vs r) (hfl : (args.any (refs viewDepth) && !flat viewDepth r) = false) :
    OpOk P D o a s τ n w f φ ⟨r, s, τ, n⟩ := by
  intro next Q hn
  rw [hrun, Oper.upon_enter]
  cases hr : args.any (refs viewDepth) with
  | true =>
    have hflat : flat viewDepth r = true := by rw [hr] at hfl; simpa using hfl
    obtain ⟨h1, h2⟩ := views_ok hR hsz hrv hv (S := fun b _ => b < w.heap.size) (Ctx.set_lt hR hS) (fun _ b _ h => h)
    refine (hok w (fun b _ => b < w.heap.size) vals (fun _ _ h => h) h1 h2).mono fun e w' he => ?_
    obtain ⟨v, rfl, hb, hvr⟩ := he
    obtain ⟨hR', hle⟩ := hR.grow hS hb
    exact hn v w' f φ hR' hle (RV.flat viewDepth hvr hflat)
  | false =>
    obtain ⟨h1, h2⟩ := views_ok hR hsz hrv hv (S := (Ctx.of D s τ n w f φ).set) (fun _ _ h => h) (fun h => by rw [hr] at h; simp at h)
    refine (hok w _ vals (Ctx.set_lt hR hS) h1 h2).mono fun e w' he => ?_
    obtain ⟨v, rfl, hb, hvr⟩ := he
    obtain ⟨hR', hle⟩ := hR.grow hS hb
    exact hn v w' f φ hR' hle (hvr.mono (grown_le hR hS hb))

/-- A pure call that uses up the objects it is shown. -/
theorem ok_callc (hR : Rel D s τ n w f φ) (hS : ∀ b o, D.S b o → b < D.B) {K : FuncId} {vals : Array Value} {args vs : List V} {r : V} {ks : List (Nat × Nat)} (hrun : (execOp a.eval o).run P w = .ok (.enter K vals) w) (hsz : vals.size = args.length)
    (hrv : ∀ (i : Nat) (x : Value) (t : V), vals[i]? = some x → args[i]? = some t → RV (Ctx.of D s τ n w f φ) x t) (hv : mapO (view (onlyS ks s) viewDepth) args = some vs) (hok : PureOk P K vs r) :
    OpOk P D o a s τ n w f φ ⟨r, lessS ks s, τ, n⟩ := by
  intro next Q hn
  rw [hrun, Oper.upon_enter]
  have hless : ∀ fr sl p, lessS ks s fr sl = some p → s fr sl = some p ∧ ks.contains (fr, sl) = false := by
    intro fr sl p h
    unfold lessS at h
    split at h
    · simp at h
    · rename_i hc; exact ⟨h, by simpa using hc⟩
  have honly : ∀ fr sl p, onlyS ks s fr sl = some p → s fr sl = some p ∧ ks.contains (fr, sl) = true := by
    intro fr sl p h
    unfold onlyS at h
    split at h
    · rename_i hc; exact ⟨h, hc⟩
    · simp at h
  obtain ⟨hR1, hle1⟩ := hR.drop hS (s' := lessS ks s) fun fr sl p h => (hless fr sl p h).1
  have hviews : vals.size = vs.length ∧ ∀ (i : Nat) (x : Value) (t : V), vals[i]? = some x → vs[i]? = some t → RV (Ctx.bare w (Ctx.of D (lessS ks s) τ n w f φ).set) x t := by
    refine ⟨hsz.trans (mapO_some hv).1, fun i x t hx ht => ?_⟩
    obtain ⟨t0, ht0, hvt⟩ := mapO_all hv i t ht
    refine RV.view1 hR (fun fr sl p h => (honly fr sl p h).1) (fun b o h => (hle1.cell b o h).1) viewDepth (fun _ fr sl p hp o => ?_) (hrv i x t0 hx ht0) hvt
    obtain ⟨h1, h2⟩ := honly fr sl p hp
    obtain ⟨_, l2, l3, _⟩ := hR.live fr sl p.1 p.2 h1
    refine .inr ⟨l2, l3, fun fr' sl' p' hp' he => ?_, fun g e hg he => ?_⟩
    · obtain ⟨k1, k2⟩ := hless fr' sl' p' hp'
      obtain ⟨rfl, rfl⟩ := hR.inj _ _ _ _ _ _ k1 h1 he
      rw [h2] at k2
      simp at k2
    · exact absurd rfl ((hR.toks g _ e hg he).2.2.1 fr sl p h1)
  refine (hok w _ vals (Ctx.set_lt hR1 hS) hviews.1 hviews.2).mono fun e w' he => ?_
  obtain ⟨v, rfl, hb, hvr⟩ := he
  obtain ⟨hR', hle⟩ := hR1.grow hS hb
  exact hn v w' f φ hR' (hle1.trans hle) (hvr.mono (grown_le hR1 hS hb))

/-- The values of a fresh row, for the caller. -/
theorem fresh_le (hR : Rel D s τ n w f φ) (hS : ∀ b o, D.S b o → b < D.B) {w' : World} (hb : Below w.heap.size w w') {bn : Nat} {c' : Ctx} (hcw : c'.w = w') (hc : (Ctx.of D s τ n w f φ).le c')
    (hnew : ∀ b o, w.heap.size ≤ b → b < w'.heap.size → b ≠ bn → c'.set b o) : (Ctx.bare w' fun b o => (Ctx.of D s τ n w f φ).set b o ∨ (w.heap.size ≤ b ∧ b < w'.heap.size ∧ b ≠ bn)).le c' := by
  refine le_bare hcw fun b o h => ?_
  rcases h with h | ⟨h1, h2, h3⟩
  · exact (hc.cell b o h).1
  · exact hnew b o h1 h2 h3

theorem ok_fresh (hR : Rel D s τ n w f φ) (hS : ∀ b o, D.S b o → b < D.B) {K : FuncId} {vals : Array Value} {args vs : List V} {k : Nat} {rows : List (List V)} (hrun : (execOp a.eval o).run P w = .ok (.enter K vals) w) (hsz : vals.size = args.length)
    (hrv : ∀ (i : Nat) (x : Value) (t : V), vals[i]? = some x → args[i]? = some t → RV (Ctx.of D s τ n w f φ) x t) (hv : mapO (view s viewDepth) args = some vs) (hok : FreshOk P K vs k rows) 
    (hfl : (args.any (refs viewDepth) && !(rows.all fun r => r.all (flat viewDepth))) = false) (ob : Bool) (fr sl : Nat) {r : Res}
    (hres : r = if rows.isEmpty then ⟨.sl k rows .tight, s, τ, n⟩ else if ob then ⟨.own fr sl n 0 rows.length k, upd2 s fr sl (some (n, .rows k rows)), τ, n + 1⟩ else ⟨.sl k rows (.tok n), s, upd τ n true, n + 1⟩) :
    OpOk P D o a s τ n w f φ r := by
  intro next Q hn
  rw [hrun, Oper.upon_enter]
  -- what may be read, and how the cells hold for the caller
  have main : ∃ S : Nat → Nat → Prop, (∀ b o, S b o → b < w.heap.size) ∧ (vals.size = vs.length ∧ ∀ (i : Nat) (x : Value) (t : V), vals[i]? = some x → vs[i]? = some t → RV (Ctx.bare w S) x t) ∧
      ∀ {w' : World} {bn : Nat} {c' : Ctx}, Below w.heap.size w w' → c'.w = w' → (Ctx.of D s τ n w f φ).le c' → (∀ b o, w.heap.size ≤ b → b < w'.heap.size → b ≠ bn → c'.set b o) →
        ∀ {x : Value} {t : V}, (∃ q ∈ rows, t ∈ q) → RV (Ctx.bare w' fun b o => S b o ∨ (w.heap.size ≤ b ∧ b < w'.heap.size ∧ b ≠ bn)) x t → RV c' x t := by
    cases hr : args.any (refs viewDepth) with
    | true =>
      have hflat : (rows.all fun r => r.all (flat viewDepth)) = true := by rw [hr] at hfl; simpa using hfl
      refine ⟨fun b _ => b < w.heap.size, fun _ _ h => h, views_ok hR hsz hrv hv (Ctx.set_lt hR hS) (fun _ b _ h => h), ?_⟩
      intro w' bn c' _ _ _ _ x t hm hx
      obtain ⟨q, hq, ht⟩ := hm
      exact RV.flat viewDepth hx (List.all_eq_true.1 (List.all_eq_true.1 hflat q hq) _ ht)
    | false =>
      refine ⟨_, Ctx.set_lt hR hS, views_ok hR hsz hrv hv (fun _ _ h => h) (fun h => by rw [hr] at h; simp at h), ?_⟩
      intro w' bn c' hb hcw hc hnew x t _ hx
      exact hx.mono (fresh_le hR hS hb hcw hc hnew)
  obtain ⟨S, hSlt, ⟨h1, h2⟩, hconv⟩ := main
  refine (hok w S vals hSlt h1 h2).mono fun e w' he => ?_
  obtain ⟨A, cap, rfl, hb, hcap, hk, hrk, he0, he1⟩ := he
  have hmem : ∀ {j : Nat} {q : List V} {i : Nat} {t : V}, rows[j]? = some q → q[i]? = some t → ∃ q ∈ rows, t ∈ q := fun hq ht => ⟨_, List.mem_of_getElem? hq, List.mem_of_getElem? ht⟩
  have old : ∀ fr sl p, s fr sl = some p → f fr sl < w.heap.size := fun fr sl p hp => (hR.live fr sl p.1 p.2 hp).2.2.1
  by_cases hemp : rows = []
  · subst hemp
    have hc0 := he0 rfl
    subst hc0
    simp only [List.isEmpty_nil, if_true] at hres
    subst hres
    obtain ⟨hR1, hle1⟩ := hR.grow hS hb
    exact hn _ w' f φ hR1 hle1 (.sl (fun _ _ => undef) rfl (Nat.zero_le _) (by simp) (by simp) (by simp) rfl)
  · obtain ⟨bn, arr, ty, rfl, hb1, harr, hcs, hel⟩ := he1 hemp
    have hne : rows.isEmpty = false := by cases rows <;> simp at hemp ⊢
    have hle2 : rows.length * k ≤ cap * k := Nat.mul_le_mul_right _ hcap
    cases ob with
    | true =>
      simp only [hne, Bool.false_eq_true, if_false, if_true] at hres
      subst hres
      have hw := WStep.of_below hb
      -- the new context, its object among the rest
      have hleS : (Ctx.of D s τ n w f φ).le (Ctx.of D (upd2 s fr sl (some (n, .rows k rows))) τ (n + 1) w' (upd2 f fr sl bn) φ) := by
        refine le_of_step hR hS hw (Nat.le_succ _) (fun _ h => h.elim) (fun b q _ g2 g3 g4 => ⟨fun fr' sl' p hp => ?_, g4, cellAt_of_block (hw.block b g2 id) q⟩)
          (fun _ _ _ h => h.elim) (fun fr' sl' g q hg h => ?_) (fun g _ h => ⟨h, rfl⟩)
        · by_cases e : fr' = fr ∧ sl' = sl
          · obtain ⟨rfl, rfl⟩ := e; rw [upd2_self]; omega
          · rw [upd2_ne _ _ e] at hp ⊢; exact g3 fr' sl' p hp
        · by_cases e : fr' = fr ∧ sl' = sl
          · obtain ⟨rfl, rfl⟩ := e; rw [upd2_self] at h; simp only [Option.some.injEq, Prod.mk.injEq] at h; omega
          · rw [upd2_ne _ _ e] at h ⊢; exact ⟨q, h, rfl⟩
      have hobj : RObj (Ctx.of D (upd2 s fr sl (some (n, .rows k rows))) τ (n + 1) w' (upd2 f fr sl bn) φ) bn (.rows k rows) := by
        refine ⟨_, harr, arr, ty, rfl, by omega, hrk, fun j q i t hq ht => ?_⟩
        obtain ⟨x, hx, hxv⟩ := hel j q i t hq ht
        refine ⟨x, hx, hconv hb rfl hleS (fun b o' g1 g2 g3 => .inr ⟨Nat.le_trans hR.hB g1, g2, fun fr' sl' p hp => ?_, fun g e hg he => ?_⟩) (hmem hq ht) hxv⟩
        · by_cases e : fr' = fr ∧ sl' = sl
          · obtain ⟨rfl, rfl⟩ := e; rw [upd2_self]; exact Ne.symm g3
          · rw [upd2_ne _ _ e] at hp ⊢; have := old fr' sl' p hp; omega
        · have := (hR.toks g b e hg he).2.1; omega
      obtain ⟨hR', hle'⟩ := hR.adopt hS fr sl hb hb1 (heap_lt harr) hobj
      refine hn _ w' _ φ hR' hle' (.own (Nat.lt_succ_self n) hcap fun b' hb' => ?_)
      obtain ⟨_, _, hbe⟩ := Ctx.of_obj_some hb'
      rw [upd2_self] at hbe
      subst hbe
      exact ⟨by simp, arr, ty, (0, 0), harr, by rw [Nat.zero_add]; exact hcs⟩
    | false =>
      simp only [hne, Bool.false_eq_true, if_false] at hres
      subst hres
      obtain ⟨hR', hle'⟩ := hR.tokAdopt hS hb hb1 harr (rows.length * k)
      refine hn _ w' f _ hR' hle' (RV.ofBlock harr (fun q _ hq => ?_) rfl hcap hrk (fun j q i t hq ht => ?_) ⟨Nat.lt_succ_self n, fun h => ?_, fun b' e' h => ?_⟩)
      · refine .inr ⟨Nat.le_trans hR.hB hb1, heap_lt harr, fun fr' sl' p hp => by have := old fr' sl' p hp; omega, fun g e hg he => ?_⟩
        change upd τ n true g = true at hg
        by_cases hgn : g = n
        · subst hgn
          rw [upd_self] at he
          simp only [Option.some.injEq, Prod.mk.injEq] at he
          omega
        · rw [upd_ne _ _ hgn] at hg he
          have := (hR.toks g bn e hg he).2.1
          omega
      · obtain ⟨x, hx, hxv⟩ := hel j q i t hq ht
        refine ⟨x, by rw [Nat.zero_add]; exact hx, hconv hb rfl hle' (fun b o' g1 g2 g3 => .inr ⟨Nat.le_trans hR.hB g1, g2, fun fr' sl' p hp => by have := old fr' sl' p hp; omega, fun g e hg he => ?_⟩) (hmem hq ht) hxv⟩
        change upd τ n true g = true at hg
        by_cases hgn : g = n
        · subst hgn
          rw [upd_self] at he
          simp only [Option.some.injEq, Prod.mk.injEq] at he
          omega
        · rw [upd_ne _ _ hgn] at hg he
          have := (hR.toks g b e hg he).2.1
          omega
      · rw [Ctx.of_tok (upd_self τ n true), upd_self] at h
        simp at h
      · rw [Ctx.of_tok (upd_self τ n true), upd_self] at h
        simp only [Option.some.injEq, Prod.mk.injEq] at h
        obtain ⟨rfl, rfl⟩ := h
        exact ⟨0, rfl, by omega, arr, ty, (0, 0), harr, by omega⟩
end
end Go.TI
end

/- A callee's own store is put beside the caller's. -/
section
set_option linter.unusedVariables false
set_option linter.unusedSimpArgs false
namespace Go.TI
open Go Go.RowKit

/-- The second context has what the first has, its numbers moved on. -/
structure Sh (m : Nat) (c c' : Ctx) : Prop where
  n : c.n + m ≤ c'.n
  w : c'.w = c.w
  set : ∀ b o, c.set b o → c'.set b o
  obj : ∀ fr sl g b, c'.obj (fr + m) sl (g + m) = some b → c.obj fr sl g = some b
  tok : ∀ g p, c'.tok (g + m) = some p → c.tok g = some p

theorem shV_scal {m d : Nat} {t u : V} (h : shV m d t = some u) (ht : scal t = true) : scal u = true := by
  cases d with
  | zero => simp [shV] at h
  | succ d =>
    cases t <;> simp [scal] at ht <;> simp only [shV, Option.some.injEq, Option.map_eq_some_iff] at h
    all_goals first
      | (subst h; rfl)
      | (obtain ⟨_, _, rfl⟩ := h; rfl)

theorem RV.sh {m : Nat} {c c' : Ctx} (hs : Sh m c c') : ∀ (d : Nat) {x : Value} {t u : V}, RV c x t → shV m d t = some u → RV c' x u := by
  intro d
  induction d with
  | zero => intro x t u _ h; simp [shV] at h
  | succ d ih =>
    intro x t u hx h
    have lst : ∀ {cs us : List V}, mapO (shV m d) cs = some us → ∀ (i : Nat) (y : Value) (v : V), (∀ t, cs[i]? = some t → RV c y t) → us[i]? = some v → RV c' y v := by
      intro cs us h i y v hy hv
      obtain ⟨t, ht, hvt⟩ := mapO_all h i v hv
      exact ih (hy t ht) hvt
    cases hx with
    | lit h1 => simp only [shV, Option.some.injEq] at h; subst h; exact .lit h1
    | udef => simp only [shV, Option.some.injEq] at h; subst h; exact .udef
    | yld => simp [shV] at h
    | agg h1 h2 =>
      simp only [shV, Option.map_eq_some_iff] at h
      obtain ⟨us, hus, rfl⟩ := h
      exact .agg (h1.trans (mapO_some hus).1) fun i y v hy hv => lst hus i y v (fun t ht => h2 i y t hy ht) hv
    | tup h1 h2 =>
      simp only [shV, Option.map_eq_some_iff] at h
      obtain ⟨us, hus, rfl⟩ := h
      exact .tup (h1.trans (mapO_some hus).1) fun i y v hy hv => lst hus i y v (fun t ht => h2 i y t hy ht) hv
    | @sl a n cap k rows mk y h1 h2 h3 h4 h5 h6 =>
      simp only [shV, Option.map_eq_some_iff] at h
      obtain ⟨us, hus, rfl⟩ := h
      obtain ⟨m1, m2⟩ := mapO_some hus
      have hrow : ∀ (j : Nat) (r : List V), us[j]? = some r → ∃ r0, rows[j]? = some r0 ∧ mapO (shV m d) r0 = some r := fun j r hr => mapO_all hus j r hr
      refine .sl y (h1.trans m1) h2 (fun r hr => ?_) (fun j r i t hr ht => ?_) (fun j r i t hr ht => ?_) ?_
      · obtain ⟨j, hj, rfl⟩ := List.getElem_of_mem hr
        obtain ⟨r0, hr0, hv⟩ := hrow j _ (List.getElem?_eq_getElem hj)
        obtain ⟨e1, e2⟩ := h3 r0 (List.mem_of_getElem? hr0)
        refine ⟨by rw [← (mapO_some hv).1]; exact e1, fun t ht => ?_⟩
        obtain ⟨i, hi, rfl⟩ := List.getElem_of_mem ht
        obtain ⟨t0, ht0, hvt⟩ := mapO_all hv i _ (List.getElem?_eq_getElem hi)
        exact shV_scal hvt (e2 t0 (List.mem_of_getElem? ht0))
      · obtain ⟨r0, hr0, hv⟩ := hrow j r hr
        obtain ⟨t0, ht0, hvt⟩ := mapO_all hv i t ht
        obtain ⟨b, off, ha, hs', hc⟩ := h4 j r0 i t0 hr0 ht0
        exact ⟨b, off, ha, hs.set _ _ hs', by rw [hs.w]; exact hc⟩
      · obtain ⟨r0, hr0, hv⟩ := hrow j r hr
        obtain ⟨t0, ht0, hvt⟩ := mapO_all hv i t ht
        exact ih (h5 j r0 i t0 hr0 ht0) hvt
      · cases mk with
        | shared => trivial
        | tight => exact h6
        | tok g =>
          obtain ⟨g1, g2, g3⟩ := h6
          have hn := hs.n
          refine ⟨by omega, fun e => g2 (hs.tok _ _ e), fun b e he => ?_⟩
          rw [hs.w]
          exact g3 b e (hs.tok _ _ he)
    | own h1 h2 h3 =>
      simp only [shV, Option.some.injEq] at h
      subst h
      have hn := hs.n
      refine .own (by omega) h2 fun b hb => ?_
      rw [hs.w]
      exact h3 b (hs.obj _ _ _ _ hb)
    | ptr h1 h2 =>
      simp only [shV, Option.some.injEq] at h
      subst h
      have hn := hs.n
      exact .ptr (by omega) fun b hb => h2 b (hs.obj _ _ _ _ hb)
    | rptr h1 h2 =>
      simp only [shV, Option.some.injEq] at h
      subst h
      have hn := hs.n
      exact .rptr (by omega) fun b hb => h2 b (hs.obj _ _ _ _ hb)
    | vptr y h1 h2 =>
      simp only [shV, Option.map_eq_some_iff] at h
      obtain ⟨us, hus, rfl⟩ := h
      refine .vptr y (fun i t ht => ?_) fun i t ht => lst hus i _ t (fun t0 ht0 => h2 i t0 ht0) ht
      obtain ⟨t0, ht0, _⟩ := mapO_all hus i t ht
      exact ⟨hs.set _ _ (h1 i t0 ht0).1, by rw [hs.w]; exact (h1 i t0 ht0).2⟩
    | map h1 h2 =>
      simp only [shV, Option.some.injEq] at h
      subst h
      have hn := hs.n
      exact .map (by omega) fun b hb => h2 b (hs.obj _ _ _ _ hb)
    | @vmap b es mes h1 h2 h3 h4 h5 =>
      simp only [shV, Option.map_eq_some_iff] at h
      obtain ⟨us, hus, rfl⟩ := h
      have hl := (mapO_some hus).1
      have hent : ∀ (i : Nat) (p : Value × V), us[i]? = some p → ∃ p0, es[i]? = some p0 ∧ p.1 = p0.1 ∧ shV m d p0.2 = some p.2 := by
        intro i p hp
        obtain ⟨p0, hp0, hv⟩ := mapO_all hus i p hp
        rw [Option.map_eq_some_iff] at hv
        obtain ⟨q, hq, rfl⟩ := hv
        exact ⟨p0, hp0, rfl, hq⟩
      refine RV.vmap (mes := mes) (fun o => hs.set _ _ (h1 o)) (by rw [← hl, hs.w]; exact h2) (by rw [← hl]; exact h3) (fun i e p he hp => ?_) (fun i e p he hp => ?_)
      · obtain ⟨p0, hp0, e1, _⟩ := hent i p hp
        rw [e1]
        exact h4 i e p0 he hp0
      · obtain ⟨p0, hp0, _, hv⟩ := hent i p hp
        exact ih (h5 i e p0 he hp0) hv
    | clo h1 h2 =>
      simp only [shV, Option.map_eq_some_iff] at h
      obtain ⟨us, hus, rfl⟩ := h
      exact .clo (h1.trans (mapO_some hus).1) fun i y v hy hv => lst hus i y v (fun t ht => h2 i y t hy ht) hv

theorem OCont.sh {m : Nat} {c c' : Ctx} (hs : Sh m c c') {o o' : Ob} {x : Obj} (h : OCont c o x) (ho : shO m o = some o') : OCont c' o' x := by
  cases o with
  | loop => simp [shO] at ho
  | cells l =>
    simp only [shO, Option.map_eq_some_iff] at ho
    obtain ⟨us, hus, rfl⟩ := ho
    obtain ⟨arr, ty, h1, h2, h3⟩ := h
    refine ⟨arr, ty, h1, h2.trans (mapO_some hus).1, fun i y t hy ht => ?_⟩
    obtain ⟨t0, ht0, hv⟩ := mapO_all hus i t ht
    exact RV.sh hs viewDepth (h3 i y t0 hy ht0) hv
  | rows k l =>
    simp only [shO, Option.map_eq_some_iff] at ho
    obtain ⟨us, hus, rfl⟩ := ho
    obtain ⟨arr, ty, h1, h2, h3, h4⟩ := h
    refine ⟨arr, ty, h1, by rw [← (mapO_some hus).1]; exact h2, fun r hr => ?_, fun j r i t hr ht => ?_⟩
    · obtain ⟨j, hj, rfl⟩ := List.getElem_of_mem hr
      obtain ⟨r0, hr0, hv⟩ := mapO_all hus j _ (List.getElem?_eq_getElem hj)
      obtain ⟨e1, e2⟩ := h3 r0 (List.mem_of_getElem? hr0)
      refine ⟨by rw [← (mapO_some hv).1]; exact e1, fun t ht => ?_⟩
      obtain ⟨i, hi, rfl⟩ := List.getElem_of_mem ht
      obtain ⟨t0, ht0, hvt⟩ := mapO_all hv i _ (List.getElem?_eq_getElem hi)
      exact shV_scal hvt (e2 t0 (List.mem_of_getElem? ht0))
    · obtain ⟨r0, hr0, hv⟩ := mapO_all hus j r hr
      obtain ⟨t0, ht0, hvt⟩ := mapO_all hv i t ht
      obtain ⟨y, hy, hyv⟩ := h4 j r0 i t0 hr0 ht0
      exact ⟨y, hy, RV.sh hs viewDepth hyv hvt⟩
  | map es =>
    simp only [shO, Option.map_eq_some_iff] at ho
    obtain ⟨us, hus, rfl⟩ := ho
    obtain ⟨mes, h1, h2, h3⟩ := h
    have hl := (mapO_some hus).1
    refine ⟨mes, by rw [← hl]; exact h1, h2.trans hl, fun i e p he hp => ?_⟩
    obtain ⟨p0, hp0, hv⟩ := mapO_all hus i p hp
    rw [Option.map_eq_some_iff] at hv
    obtain ⟨q, hq, rfl⟩ := hv
    obtain ⟨e1, e2, e3⟩ := h3 i e p0 he hp0
    exact ⟨e1, e2, RV.sh hs viewDepth e3 hq⟩
  | iter x len k =>
    simp only [shO, Option.map_eq_some_iff] at ho
    obtain ⟨u, hu, rfl⟩ := ho
    obtain ⟨mo, h1, h2⟩ := h
    exact ⟨mo, h1, RV.sh hs viewDepth h2 hu⟩

theorem mergeS_cases {n : Nat} {s s' : Sto} {fr sl g : Nat} {o : Ob} (h : mergeS n s s' fr sl = some (g, o)) :
    s fr sl = some (g, o) ∨ (s fr sl = none ∧ n ≤ fr ∧ ∃ g' o', s' (fr - n) sl = some (g', o') ∧ shO n o' = some o ∧ g = g' + n) := by
  unfold mergeS at h
  split at h
  · rename_i p hp
    injection h with h
    exact .inl (hp.trans (by rw [h]))
  · rename_i hn
    split at h
    · rename_i hle
      split at h
      · rename_i g' o' hs
        rw [Option.map_eq_some_iff] at h
        obtain ⟨q, hq, h⟩ := h
        injection h with h1 h2
        subst h2
        exact .inr ⟨hn, hle, g', o', hs, hq, h1.symm⟩
      · simp at h
    · simp at h

theorem mergeS_sub {n : Nat} {s s' : Sto} {fr sl : Nat} {p : Nat × Ob} (h : s fr sl = some p) : mergeS n s s' fr sl = some p := by
  unfold mergeS
  rw [h]

section
variable {P : Program} {D : Base} {s : Sto} {τ : Nat → Bool} {n : Nat} {w : World} {f : Nat → Nat → Nat} {φ : Nat → Option (Nat × Nat)}

theorem Rel.merge (hR : Rel D s τ n w f φ) (hS : ∀ b o, D.S b o → b < D.B) {s' : Sto} {τ' : Nat → Bool} {n' : Nat} {w' : World} {f' : Nat → Nat → Nat} {φ' : Nat → Option (Nat × Nat)}
    (hR' : Rel ⟨w, w.heap.size, (Ctx.of D s τ n w f φ).set⟩ s' τ' n' w' f' φ') :
    Rel D (mergeS n s s') (mergeT n τ τ') (n + n') w' (fun fr sl => if (s fr sl).isSome then f fr sl else f' (fr - n) sl) (fun g => if n ≤ g then φ' (g - n) else φ g) ∧
      (Ctx.of D s τ n w f φ).le (Ctx.of D (mergeS n s s') (mergeT n τ τ') (n + n') w' (fun fr sl => if (s fr sl).isSome then f fr sl else f' (fr - n) sl) (fun g => if n ≤ g then φ' (g - n) else φ g)) ∧
      Sh n (Ctx.of ⟨w, w.heap.size, (Ctx.of D s τ n w f φ).set⟩ s' τ' n' w' f' φ') (Ctx.of D (mergeS n s s') (mergeT n τ τ') (n + n') w' (fun fr sl => if (s fr sl).isSome then f fr sl else f' (fr - n) sl) (fun g => if n ≤ g then φ' (g - n) else φ g)) := by
  have hb : Below w.heap.size w w' := hR'.below
  have hw := WStep.of_below hb
  obtain ⟨F, hF⟩ : ∃ F : Nat → Nat → Nat, F = fun fr sl => if (s fr sl).isSome then f fr sl else f' (fr - n) sl := ⟨_, rfl⟩
  obtain ⟨Φ, hΦ⟩ : ∃ Φ : Nat → Option (Nat × Nat), Φ = fun g => if n ≤ g then φ' (g - n) else φ g := ⟨_, rfl⟩
  rw [← hF, ← hΦ]
  have Fold : ∀ {fr sl : Nat} {p : Nat × Ob}, s fr sl = some p → F fr sl = f fr sl := fun h => by rw [hF]; simp [h]
  have Fnew : ∀ {fr sl : Nat}, s fr sl = none → F fr sl = f' (fr - n) sl := fun h => by rw [hF]; simp [h]
  have old : ∀ fr sl p, s fr sl = some p → f fr sl < w.heap.size := fun fr sl p hp => (hR.live fr sl p.1 p.2 hp).2.2.1
  have new : ∀ fr sl p, s' fr sl = some p → w.heap.size ≤ f' fr sl ∧ f' fr sl < w'.heap.size := fun fr sl p hp => ⟨(hR'.live fr sl p.1 p.2 hp).2.1, (hR'.live fr sl p.1 p.2 hp).2.2.1⟩
  have tcases : ∀ g, mergeT n τ τ' g = true → (τ g = true ∧ g < n ∧ Φ g = φ g) ∨ (n ≤ g ∧ τ' (g - n) = true ∧ Φ g = φ' (g - n)) := by
    intro g hg
    simp only [mergeT, Bool.or_eq_true, Bool.and_eq_true, decide_eq_true_eq] at hg
    rcases hg with hg | ⟨h1, h2⟩
    · have := hR.tn g hg
      exact .inl ⟨hg, this, by rw [hΦ]; exact if_neg (by omega)⟩
    · exact .inr ⟨h1, h2, by rw [hΦ]; exact if_pos h1⟩
  have hle : (Ctx.of D s τ n w f φ).le (Ctx.of D (mergeS n s s') (mergeT n τ τ') (n + n') w' F Φ) := by
    refine le_of_step hR hS hw (Nat.le_add_right _ _) (fun _ h => h.elim) (fun b q g1 g2 g3 g4 => ⟨fun fr sl p hp => ?_, fun g e hg he => ?_, cellAt_of_block (hw.block b g2 id) q⟩)
      (fun _ _ _ h => h.elim) (fun fr sl g q hg h => ?_) (fun g hg h => ?_)
    · obtain ⟨pg, po⟩ := p
      rcases mergeS_cases hp with h | ⟨h, _, g', o', h', _, _⟩
      · rw [Fold h]; exact g3 fr sl _ h
      · rw [Fnew h]; have := (new _ _ _ h').1; omega
    · rcases tcases g hg with ⟨h1, _, h3⟩ | ⟨h1, h2, h3⟩
      · rw [h3] at he; exact g4 g e h1 he
      · rw [h3] at he
        have h4 := (hR'.toks _ b e h2 he).1
        have h5 : w.heap.size ≤ b := h4
        omega
    · rcases mergeS_cases h with h | ⟨_, _, g', o', _, _, h6⟩
      · exact ⟨q, h, Fold h⟩
      · omega
    · rcases tcases g h with ⟨h1, _, h3⟩ | ⟨h1, _, _⟩
      · exact ⟨h1, h3⟩
      · omega
  have hsh : Sh n (Ctx.of ⟨w, w.heap.size, (Ctx.of D s τ n w f φ).set⟩ s' τ' n' w' f' φ') (Ctx.of D (mergeS n s s') (mergeT n τ τ') (n + n') w' F Φ) := by
    refine ⟨by show n' + n ≤ n + n'; omega, rfl, fun b o h => ?_, fun fr sl g b h => ?_, fun g p h => ?_⟩
    · rcases h with ⟨_, h2⟩ | ⟨h1, h2, h3, h4⟩
      · exact (hle.cell b o h2).1
      · have h1' : w.heap.size ≤ b := h1
        refine .inr ⟨Nat.le_trans hR.hB h1', h2, fun fr sl p hp => ?_, fun g e hg he => ?_⟩
        · obtain ⟨pg, po⟩ := p
          rcases mergeS_cases hp with h | ⟨h, _, g', o', h', _, _⟩
          · rw [Fold h]; have := old fr sl _ h; omega
          · rw [Fnew h]; exact h3 _ _ _ h'
        · rcases tcases g hg with ⟨q1, _, q3⟩ | ⟨q1, q2, q3⟩
          · rw [q3] at he; have := (hR.toks g b e q1 he).2.1; omega
          · rw [q3] at he; exact h4 _ e q2 he
    · obtain ⟨o, ho, hbe⟩ := Ctx.of_obj_some h
      rcases mergeS_cases ho with hk | ⟨hk, _, g', o', h', _, h6⟩
      · have := (hR.live _ _ _ _ hk).1
        omega
      · have hg : g' = g := by omega
        subst hg
        rw [Fnew hk] at hbe
        rw [Nat.add_sub_cancel] at h' hbe
        rw [Ctx.of_obj_live h', hbe]
    · obtain ⟨h1, h2⟩ := Ctx.of_tok_some h
      rcases tcases _ h1 with ⟨_, q2, _⟩ | ⟨_, q2, q3⟩
      · omega
      · rw [Nat.add_sub_cancel] at q2 q3
        rw [Ctx.of_tok q2, ← q3, h2]
  refine ⟨⟨?_, Nat.le_trans hR.hB hw.size, fun fr sl g o h => ?_, fun fr1 sl1 fr2 sl2 p1 p2 h1 h2 h3 => ?_, fun g hg => ?_, fun g b e hg he => ?_, fun g g' b e e' hg hg' he he' => ?_⟩, hle, hsh⟩
  · exact hw.below hR.below hR.hB (fun _ h => h.elim)
  · rcases mergeS_cases h with h | ⟨h, hn, g', o', h', h5, h6⟩
    · obtain ⟨q1, q2, q3, q4⟩ := hR.live fr sl g o h
      rw [Fold h]
      exact ⟨by omega, q2, Nat.lt_of_lt_of_le q3 hw.size, q4.mono hle (hw.block _ q3 id)⟩
    · obtain ⟨q1, q2, q3, y, q4, q5⟩ := hR'.live _ _ _ _ h'
      rw [Fnew h]
      have q2' : w.heap.size ≤ f' (fr - n) sl := q2
      exact ⟨by omega, Nat.le_trans hR.hB q2', q3, y, q4, OCont.sh hsh q5 h5⟩
  · obtain ⟨a1, a2⟩ := p1
    obtain ⟨b1, b2⟩ := p2
    rcases mergeS_cases h1 with h | ⟨h, hn, g', o', h', _, _⟩
    · rcases mergeS_cases h2 with k | ⟨k, kn, _, _, k', _, _⟩
      · rw [Fold h, Fold k] at h3; exact hR.inj _ _ _ _ _ _ h k h3
      · rw [Fold h, Fnew k] at h3
        have := old _ _ _ h
        have := (new _ _ _ k').1
        omega
    · rcases mergeS_cases h2 with k | ⟨k, kn, _, _, k', _, _⟩
      · rw [Fnew h, Fold k] at h3
        have := old _ _ _ k
        have := (new _ _ _ h').1
        omega
      · rw [Fnew h, Fnew k] at h3
        obtain ⟨e1, e2⟩ := hR'.inj _ _ _ _ _ _ h' k' h3
        exact ⟨by omega, e2⟩
  · rcases tcases g hg with ⟨_, q2, _⟩ | ⟨q1, q2, _⟩
    · omega
    · have := hR'.tn _ q2
      omega
  · rcases tcases g hg with ⟨q1, _, q3⟩ | ⟨q1, q2, q3⟩
    · rw [q3] at he
      obtain ⟨t1, t2, t3, arr, ty, t4⟩ := hR.toks g b e q1 he
      refine ⟨t1, Nat.lt_of_lt_of_le t2 hw.size, fun fr sl p hp => ?_, arr, ty, (hw.block _ t2 id).trans t4⟩
      obtain ⟨pg, po⟩ := p
      rcases mergeS_cases hp with h | ⟨h, _, g', o', h', _, _⟩
      · rw [Fold h]; exact t3 _ _ _ h
      · rw [Fnew h]; have := (new _ _ _ h').1; omega
    · rw [q3] at he
      obtain ⟨t1, t2, t3, arr, ty, t4⟩ := hR'.toks _ b e q2 he
      have t1' : w.heap.size ≤ b := t1
      refine ⟨Nat.le_trans hR.hB t1', t2, fun fr sl p hp => ?_, arr, ty, t4⟩
      obtain ⟨pg, po⟩ := p
      rcases mergeS_cases hp with h | ⟨h, _, g', o', h', _, _⟩
      · rw [Fold h]; have := old _ _ _ h; omega
      · rw [Fnew h]; exact t3 _ _ _ h'
  · rcases tcases g hg with ⟨q1, q2, q3⟩ | ⟨q1, q2, q3⟩
    · rcases tcases g' hg' with ⟨r1, r2, r3⟩ | ⟨r1, r2, r3⟩
      · rw [q3] at he; rw [r3] at he'; exact hR.tinj g g' b e e' q1 r1 he he'
      · rw [q3] at he; rw [r3] at he'
        have x1 := (hR.toks g b e q1 he).2.1
        have x2 : w.heap.size ≤ b := (hR'.toks _ b e' r2 he').1
        omega
    · rcases tcases g' hg' with ⟨r1, r2, r3⟩ | ⟨r1, r2, r3⟩
      · rw [q3] at he; rw [r3] at he'
        have x1 := (hR.toks g' b e' r1 he').2.1
        have x2 : w.heap.size ≤ b := (hR'.toks _ b e q2 he).1
        omega
      · rw [q3] at he; rw [r3] at he'
        have := hR'.tinj _ _ b e e' q2 r2 he he'
        omega

/-- The call of K at these arguments gives this value, beside this store of its own. -/
def IpOk (P : Program) (K : Nat) (args : List V) (v : V) (s' : Sto) (τ' : Nat → Bool) (n' : Nat) : Prop :=
  ∀ (w : World) (S : Nat → Nat → Prop) (vals : Array Value), (∀ b o, S b o → b < w.heap.size) → vals.size = args.length →
    (∀ (i : Nat) (x : Value) (t : V), vals[i]? = some x → args[i]? = some t → RV (Ctx.bare w S) x t) →
    Calls P K vals w fun e w' => ∃ x f' φ', e = .returned x ∧ Rel ⟨w, w.heap.size, S⟩ s' τ' n' w' f' φ' ∧ RV (Ctx.of ⟨w, w.heap.size, S⟩ s' τ' n' w' f' φ') x v

theorem ok_ip (hR : Rel D s τ n w f φ) (hS : ∀ b o, D.S b o → b < D.B) {o : Oper} {a : Act} {K : FuncId} {vals : Array Value} {args vs : List V} {v u : V} {s' : Sto} {τ' : Nat → Bool} {n' : Nat} (hrun : (execOp a.eval o).run P w = .ok (.enter K vals) w) (hsz : vals.size = args.length)
    (hrv : ∀ (i : Nat) (x : Value) (t : V), vals[i]? = some x → args[i]? = some t → RV (Ctx.of D s τ n w f φ) x t) (hv : mapO (view s viewDepth) args = some vs) (hok : IpOk P K vs v s' τ' n') (hu : shV n viewDepth v = some u) (hfl : args.any (refs viewDepth) = false) :
    OpOk P D o a s τ n w f φ ⟨u, mergeS n s s', mergeT n τ τ', n + n'⟩ := by
  intro next Q hn
  rw [hrun, Oper.upon_enter]
  obtain ⟨h1, h2⟩ := views_ok hR hsz hrv hv (S := (Ctx.of D s τ n w f φ).set) (fun _ _ h => h) (fun h => by rw [hfl] at h; simp at h)
  refine (hok w _ vals (Ctx.set_lt hR hS) h1 h2).mono fun e w' he => ?_
  obtain ⟨x, f', φ', rfl, hR', hx⟩ := he
  obtain ⟨hR2, hle, hsh⟩ := hR.merge hS hR'
  exact hn x w' _ _ hR2 hle (RV.sh hsh viewDepth hx hu)
end
end Go.TI
end

/- Every operation of the interpreter is done by the world. -/
section
set_option linter.unusedVariables false
set_option linter.unusedSimpArgs false
namespace Go.TI
open Go Go.RowKit

/-- What is known of the callees, and of comparing values that are no numbers or strings. -/
structure CfgOk (P : Program) (C : Cfg) : Prop where
  ora : ∀ K vs r, C.ora K vs = some r → hasBody P K = true ∧ PureOk P K vs r
  fresh : ∀ K vs k rows, C.fresh K vs = some (k, rows) → hasBody P K = true ∧ FreshOk P K vs k rows
  ip : ∀ K vs v s' τ' n', C.ip K vs = some (v, s', τ', n') → hasBody P K = true ∧ IpOk P K vs v s' τ' n'
  eqT : ∀ T x y b, C.eqT T x y = some b → ∀ (c : Ctx) (vx vy : Value), RV c vx x → RV c vy y → ∀ (w : World) (neg : Bool) (xo yo : Operand),
    (eqGuard (if neg then .neq else .eql) T xo yo vx vy >>= fun _ => binOp (if neg then .neq else .eql) T vx vy).run P w = .ok (.bool (if neg then !b else b)) w

/-- What is known of a callee that works on the same store. -/
def IcOk (P : Program) (D : Base) (ic : Nat → List V → St → Option Res) : Prop :=
  ∀ K args st r, ic K args st = some r → hasBody P K = true ∧ ∀ (vals : Array Value) (w : World) (f : Nat → Nat → Nat) (φ : Nat → Option (Nat × Nat)), Rel D st.s st.τ st.n w f φ → vals.size = args.length →
    (∀ (i : Nat) (x : Value) (t : V), vals[i]? = some x → args[i]? = some t → RV (Ctx.of D st.s st.τ st.n w f φ) x t) →
    Calls P K vals w fun e w' => ∃ v f' φ', e = .returned v ∧ Rel D r.s r.τ r.n w' f' φ' ∧ (Ctx.of D st.s st.τ st.n w f φ).le (Ctx.of D r.s r.τ r.n w' f' φ') ∧ RV (Ctx.of D r.s r.τ r.n w' f' φ') v r.v

section
variable {P : Program} {D : Base} {o : Oper} {a : Act} {st : St} {w : World} {f : Nat → Nat → Nat} {φ : Nat → Option (Nat × Nat)} {C : Cfg} {ic : Nat → List V → St → Option Res} {pol : Pol}

theorem ok_inline (hR : Rel D st.s st.τ st.n w f φ) {K : FuncId} {vals : Array Value} {args : List V} {r : Res} (hic : IcOk P D ic) (hrun : hasBody P K = true → (execOp a.eval o).run P w = .ok (.enter K vals) w) (hsz : vals.size = args.length)
    (hrv : ∀ (i : Nat) (x : Value) (t : V), vals[i]? = some x → args[i]? = some t → RV (Ctx.of D st.s st.τ st.n w f φ) x t) (h : ic K args st = some r) : OpOk P D o a st.s st.τ st.n w f φ r := by
  intro next Q hn
  obtain ⟨hb, hcalls⟩ := hic K args st r h
  rw [hrun hb, Oper.upon_enter]
  refine (hcalls vals w f φ hR hsz hrv).mono fun e w' he => ?_
  obtain ⟨v, f', φ', rfl, hR', hle, hv⟩ := he
  exact hn v w' f' φ' hR' hle hv

theorem args_rv {c : Ctx} {t : Nat → V} (ht : ∀ i, RV c (a.tmps.getD i undef) (t i)) {xs : Array Operand} {as : List Opd} (h : mapO cOpd xs.toList = some as) :
    (xs.map a.eval).size = (as.map (·.val t)).length ∧ ∀ (i : Nat) (x : Value) (u : V), (xs.map a.eval)[i]? = some x → (as.map (·.val t))[i]? = some u → RV c x u := by
  obtain ⟨h1, h2⟩ := mapO_some h
  refine ⟨by simpa using h1, fun i x u hx hu => ?_⟩
  simp only [Array.getElem?_map, Option.map_eq_some_iff] at hx
  simp only [List.getElem?_map, Option.map_eq_some_iff] at hu
  obtain ⟨y, hy, rfl⟩ := hx
  obtain ⟨z, hz, rfl⟩ := hu
  exact RV.opd ht (h2 i y z (by simpa using hy) hz)

theorem compCall_ok (hC : CfgOk P C) (hic : IcOk P D ic) (hR : Rel D st.s st.τ st.n w f φ) (hS : ∀ b o, D.S b o → b < D.B) (ht : ∀ i, RV (Ctx.of D st.s st.τ st.n w f φ) (a.tmps.getD i undef) (st.t i)) {c : Call} {slot : Nat} {top : TOp} {r : Res} (hop : o.op = .call c)
    (hc : compCall P pol slot c = some top) (he : evalOp C ic slot st top = some r) : OpOk P D o a st.s st.τ st.n w f φ r := by
  -- a call of a known or unknown callee
  have calls : ∀ (K : FuncId) (vals : Array Value) (args : List V), (hasBody P K = true → (execOp a.eval o).run P w = .ok (.enter K vals) w) → vals.size = args.length →
      (∀ (i : Nat) (x : Value) (t : V), vals[i]? = some x → args[i]? = some t → RV (Ctx.of D st.s st.τ st.n w f φ) x t) →
      (if C.imp K then ic K args st else (mapO (view st.s viewDepth) args).bind fun vs => (C.ora K vs).bind fun r => if (args.any fun x => refs viewDepth x) && !flat viewDepth r then none else some (st.ok r)) = some r →
      OpOk P D o a st.s st.τ st.n w f φ r := by
    intro K vals args hrun hsz hrv h
    split at h
    · exact ok_inline hR hic hrun hsz hrv h
    · rw [Option.bind_eq_some_iff] at h
      obtain ⟨vs, hvs, h⟩ := h
      rw [Option.bind_eq_some_iff] at h
      obtain ⟨r', hr', h⟩ := h
      obtain ⟨hb, hok⟩ := hC.ora K vs r' hr'
      split at h
      · simp at h
      · rename_i hfl
        injection h with h
        subst h
        exact ok_pure hR hS (hrun hb) hsz hrv hvs hok (by simpa using hfl)
  unfold compCall at hc
  split at hc
  · rename_i K hcal
    split at hc
    · rename_i hb
      rw [Option.map_eq_some_iff] at hc
      obtain ⟨as, has, rfl⟩ := hc
      obtain ⟨g1, g2⟩ := args_rv ht has
      have hrun := run_call_static (w := w) (a := a) hop hcal hb
      split at he
      · simp only [evalOp, Option.bind_eq_some_iff] at he
        obtain ⟨vs, hvs, ⟨k, rows⟩, hf, he⟩ := he
        obtain ⟨_, hok⟩ := hC.fresh K vs k rows hf
        split at he
        · simp at he
        · rename_i hfl
          refine ok_fresh hR hS hrun g1 g2 hvs hok (by simpa [List.any_map, Function.comp_def] using hfl) (pol.obj slot) st.fr slot ?_
          split at he
          · rename_i hem
            injection he with he
            have hem' : rows.isEmpty = true := hem
            rw [if_pos hem', ← he]
            rfl
          · rename_i hem
            have hem' : ¬ rows.isEmpty = true := hem
            rw [if_neg hem']
            split at he
            · rename_i hob
              injection he with he
              rw [if_pos hob, ← he]
              rfl
            · rename_i hob
              injection he with he
              rw [if_neg hob, ← he]
      · split at he
        · simp only [evalOp, Option.bind_eq_some_iff] at he
          obtain ⟨vs, hvs, ⟨v, s', τ', n'⟩, hf, u, hu, he⟩ := he
          obtain ⟨_, hok⟩ := hC.ip K vs v s' τ' n' hf
          split at he
          · simp at he
          · rename_i hfl
            injection he with he
            subst he
            exact ok_ip hR hS hrun g1 g2 hvs hok hu (by simpa [List.any_map, Function.comp_def] using hfl)
        · split at he
          · simp only [evalOp, Option.bind_eq_some_iff, Option.map_eq_some_iff] at he
            obtain ⟨ks, hks, vs, hvs, r', hr', rfl⟩ := he
            obtain ⟨_, hok⟩ := hC.ora K vs r' hr'
            exact ok_callc hR hS hrun g1 g2 hvs hok
          · refine calls K _ _ (fun _ => hrun) g1 g2 ?_
            simp only [evalOp] at he
            simpa [List.any_map, Function.comp_def] using he
    · simp at hc
  · rename_i x hx hcal
    rw [Option.bind_eq_some_iff] at hc
    obtain ⟨x', hx', hc⟩ := hc
    rw [Option.map_eq_some_iff] at hc
    obtain ⟨as, has, rfl⟩ := hc
    obtain ⟨g1, g2⟩ := args_rv ht has
    split at he
    · simp [evalOp] at he
    simp only [evalOp] at he
    split at he
    · rename_i K caps hclo
      have hxr := RV.opd ht hx'
      rw [hclo] at hxr
      obtain ⟨cv, hxe, q1, q2⟩ := hxr.clo_inv
      refine calls K (c.args.map a.eval ++ cv) (as.map (·.val st.t) ++ caps) (fun hb => run_call_value hop hcal hxe hb) (by simp [← q1]; simpa using g1) (fun i y u hy hu => ?_) he
      by_cases hi : i < (as.map (·.val st.t)).length
      · rw [Array.getElem?_append_left (by omega)] at hy
        rw [List.getElem?_append_left hi] at hu
        exact g2 i y u hy hu
      · rw [Array.getElem?_append_right (by omega)] at hy
        rw [List.getElem?_append_right (by omega)] at hu
        rw [g1] at hy
        exact q2 _ y u hy hu
    · simp at he
  · rename_i hcal
    split at hc
    · rename_i x T hargs hty
      have key : ∀ kk, lenTy P kk T → (cOpd x).map (TOp.len kk) = some top → OpOk P D o a st.s st.τ st.n w f φ r := by
        intro kk hkk h
        rw [Option.map_eq_some_iff] at h
        obtain ⟨x', hx', rfl⟩ := h
        simp only [evalOp, Option.map_eq_some_iff] at he
        obtain ⟨m, hm, rfl⟩ := he
        exact ok_len hR hop hcal hargs hty hkk (RV.opd ht hx') hm
      split at hc
      · rename_i hu; exact key 0 (.inl ⟨rfl, hu⟩) hc
      · rename_i e hu; exact key 1 (.inr (.inl ⟨rfl, e, hu⟩)) hc
      · rename_i k e hu; exact key 2 (.inr (.inr ⟨rfl, k, e, hu⟩)) hc
      · simp at hc
    · simp at hc
  · rename_i hcal
    split at hc
    · rename_i x y T U hargs hty
      rw [Option.bind_eq_some_iff] at hc
      obtain ⟨⟨e, i⟩, hei, hc⟩ := hc
      obtain ⟨hT, hi⟩ := elemInfo_some hei
      simp only at hc
      split at hc
      · rename_i e2 hU
        split at hc
        · rename_i hz
          rw [Option.bind_eq_some_iff] at hc
          obtain ⟨x', hx', hc⟩ := hc
          rw [Option.map_eq_some_iff] at hc
          obtain ⟨y', hy', rfl⟩ := hc
          simp only [Bool.and_eq_true] at hz
          obtain ⟨z, hz1⟩ := Option.isSome_iff_exists.1 hz.1
          have hA : AppInfo P o x y e i z := ⟨⟨c, T, U, e2, hop, hcal, by rw [← Array.toArray_toList (xs := c.args), hargs], by rw [← Array.toArray_toList (xs := c.argTypes), hty], hT, hU⟩, hi, hz1, by
            have := hz.2; rw [hz1] at this; simpa using this⟩
          have hxr := RV.opd ht hx'
          have hyr := RV.opd ht hy'
          simp only [evalOp, Option.bind_eq_some_iff] at he
          obtain ⟨ys, hys, he⟩ := he
          split at he
          · rename_i k' rows m hxv
            rw [hxv] at hxr
            split at he
            · rename_i hcnd
              obtain ⟨c1, c2, c3, c4, c5⟩ := hcnd
              split at he
              · simp at he
              · split at he
                · rename_i hob
                  injection he with he
                  subst he
                  exact ok_app_obj hR hS hA st.fr slot hxr hyr hys c1 c2 c3 c4 (c5 hob)
                · injection he with he
                  subst he
                  exact ok_app hR hS hA hxr hyr hys c1 c2 c3 c4 (.inl ⟨rfl, rfl⟩)
              · rename_i g
                split at he
                · rename_i hg
                  split at he
                  · simp at he
                  · injection he with he
                    subst he
                    exact ok_app hR hS hA hxr hyr hys c1 c2 c3 c4 (.inr ⟨g, rfl, hg.1, hg.2, rfl⟩)
                · simp at he
            · simp at he
          · rename_i fr0 sl0 g off len k' hxv
            rw [hxv] at hxr
            rw [Option.bind_eq_some_iff] at he
            obtain ⟨l, hl, he⟩ := he
            split at he
            · rename_i hcnd
              obtain ⟨rfl, rfl, c0, c1, c2, c3, c4, c5⟩ := hcnd
              injection he with he
              subst he
              exact ok_app_short hR hS hA fr0 sl0 hxr hl c0 c1 hyr hys c2 c3 c4
            · simp at he
          · simp at he
        · simp at hc
      · simp at hc
    · simp at hc
  · rename_i hcal
    split at hc
    · rename_i x y hargs
      rw [Option.bind_eq_some_iff] at hc
      obtain ⟨x', hx', hc⟩ := hc
      rw [Option.map_eq_some_iff] at hc
      obtain ⟨y', hy', rfl⟩ := hc
      simp only [evalOp] at he
      split at he
      · rename_i k p k2 q hp hq
        split at he
        · rename_i hkk
          subst hkk
          injection he with he
          subst he
          have hxr := RV.opd ht hx'
          have hyr := RV.opd ht hy'
          rw [hp] at hxr
          rw [hq] at hyr
          exact ok_mm (mx := false) hR hop (by simpa using hcal) hargs hxr hyr
        · simp at he
      · simp at he
    · simp at hc
  · rename_i hcal
    split at hc
    · rename_i x y hargs
      rw [Option.bind_eq_some_iff] at hc
      obtain ⟨x', hx', hc⟩ := hc
      rw [Option.map_eq_some_iff] at hc
      obtain ⟨y', hy', rfl⟩ := hc
      simp only [evalOp] at he
      split at he
      · rename_i k p k2 q hp hq
        split at he
        · rename_i hkk
          subst hkk
          injection he with he
          subst he
          have hxr := RV.opd ht hx'
          have hyr := RV.opd ht hy'
          rw [hp] at hxr
          rw [hq] at hyr
          exact ok_mm (mx := true) hR hop (by simpa using hcal) hargs hxr hyr
        · simp at he
      · simp at he
    · simp at hc
  · simp at hc
end
end Go.TI
end

/- Every operation of the interpreter is done by the world. -/
section
set_option linter.unusedVariables false
set_option linter.unusedSimpArgs false
namespace Go.TI
open Go Go.RowKit

section
variable {P : Program} {D : Base} {o : Oper} {a : Act} {st : St} {w : World} {f : Nat → Nat → Nat} {φ : Nat → Option (Nat × Nat)} {C : Cfg} {ic : Nat → List V → St → Option Res} {pol : Pol}

theorem eqnV_lit {kk : Nat} {v : Value} {b : Bool} (h : eqnV kk (.lit v) = some b) : b = true ∧ ((kk = 0 ∧ v = .pointer none) ∨ (kk = 1 ∧ v = .map none) ∨ (kk = 2 ∧ v = .nilFunc)) := by
  unfold eqnV at h
  split at h <;> simp_all

theorem run_equal_nil {c : Ctx} {T : TypeId} {x : Value} {t : V} {b : Bool} {y : Operand} {kk : Nat} (hn : nilKind P T y = some kk) (hx : RV c x t) (h : eqnV kk t = some b) (a : Act) (d : Nat) (w : World) :
    (Op.equalIn (d + 1) T x (a.eval y)).run P w = .ok b w ∧ ∃ v, y = .const v ∧ (∀ xs, v ≠ .agg xs) ∧ (∀ k n, v ≠ .int k n) ∧ (∀ k n, v ≠ .float k n) ∧ (∀ k m n, v ≠ .complex k m n) ∧ (∀ s, v ≠ .string s) := by
  unfold nilKind at hn
  split at hn
  · rename_i e hu
    injection hn with hn
    subst hn
    refine ⟨?_, _, rfl, by simp, by simp, by simp, by simp, by simp⟩
    cases hx with
    | lit hp =>
      obtain ⟨hb, h'⟩ := eqnV_lit h
      subst hb
      rcases h' with ⟨h1, h2⟩ | ⟨h1, h2⟩ | ⟨h1, h2⟩ <;> first | (exact absurd h1 (by decide)) | skip
      subst h2
      simp [Op.equalIn, run_underlying hu, Act.eval]
    | ptr _ _ => simp [eqnV] at h; subst h; simp [Op.equalIn, run_underlying hu, Act.eval]
    | rptr _ _ => simp [eqnV] at h; subst h; simp [Op.equalIn, run_underlying hu, Act.eval]
    | vptr _ _ _ => simp [eqnV] at h; subst h; simp [Op.equalIn, run_underlying hu, Act.eval]
    | _ => simp [eqnV] at h
  · rename_i k e hu
    injection hn with hn
    subst hn
    refine ⟨?_, _, rfl, by simp, by simp, by simp, by simp, by simp⟩
    cases hx with
    | lit hp =>
      obtain ⟨hb, h'⟩ := eqnV_lit h
      subst hb
      rcases h' with ⟨h1, h2⟩ | ⟨h1, h2⟩ | ⟨h1, h2⟩ <;> first | (exact absurd h1 (by decide)) | skip
      subst h2
      simp [Op.equalIn, run_underlying hu, Act.eval]
    | map _ _ => simp [eqnV] at h; subst h; simp [Op.equalIn, run_underlying hu, Act.eval]
    | vmap _ _ _ _ _ => simp [eqnV] at h; subst h; simp [Op.equalIn, run_underlying hu, Act.eval]
    | _ => simp [eqnV] at h
  · rename_i p q r hu
    injection hn with hn
    subst hn
    refine ⟨?_, _, rfl, by simp, by simp, by simp, by simp, by simp⟩
    cases hx with
    | lit hp =>
      obtain ⟨hb, h'⟩ := eqnV_lit h
      subst hb
      rcases h' with ⟨h1, h2⟩ | ⟨h1, h2⟩ | ⟨h1, h2⟩ <;> first | (exact absurd h1 (by decide)) | skip
      subst h2
      simp [Op.equalIn, run_underlying hu, Act.eval]
    | clo _ _ => simp [eqnV] at h; subst h; simp [Op.equalIn, run_underlying hu, Act.eval]
    | _ => simp [eqnV] at h
  · rename_i e hu
    injection hn with hn
    subst hn
    refine ⟨?_, _, rfl, by simp, by simp, by simp, by simp, by simp⟩
    cases hx with
    | lit hp => rcases (eqnV_lit h).2 with ⟨h1, _⟩ | ⟨h1, _⟩ | ⟨h1, _⟩ <;> exact absurd h1 (by decide)
    | @sl A m cap k rows mk y h1 h2 h3 h4 h5 h6 =>
      simp only [eqnV] at h
      split at h
      · simp at h
      · rename_i hc
        injection h with h
        subst h
        simp only [Bool.or_eq_true, not_or] at hc
        cases rows with
        | nil => simp at hc
        | cons r rows =>
          have hk := (h3 r (by simp)).1
          have hk0 : 0 < r.length := by have := hc.2; simp at this; omega
          obtain ⟨b, off, rfl, _⟩ := h4 0 r 0 r[0] rfl (List.getElem?_eq_getElem hk0)
          simp [Op.equalIn, run_underlying hu, Act.eval]
    | _ => simp [eqnV] at h
  · simp at hn

theorem ok_eqn (hR : Rel D st.s st.τ st.n w f φ) {op : BinOp} {T T' : TypeId} {x y : Operand} {t : V} {b : Bool} {kk : Nat} (hop : o.op = .binOp op T x y T') (ho : op = .eql ∨ op = .neq) (hn : nilKind P T y = some kk)
    (hx : RV (Ctx.of D st.s st.τ st.n w f φ) (a.eval x) t) (h : eqnV kk t = some b) : OpOk P D o a st.s st.τ st.n w f φ (st.ok (.lit (.bool (if op == .neq then !b else b)))) := by
  obtain ⟨hrun, v, rfl, n1, n2, n3, n4, n5⟩ := run_equal_nil (P := P) hn hx h a 9999 w
  have he : a.eval (.const v) = v := rfl
  rw [he] at hrun
  have hg : (eqGuard op T x (.const v) (a.eval x) v).run P w = .ok () w := by
    unfold eqGuard
    rcases ho with rfl | rfl <;> cases hv : a.eval x <;> cases v <;> simp at n1 n2 n3 n4 n5 ⊢
  have hb : (binOp op T (a.eval x) v).run P w = .ok (.bool (if op == .neq then !b else b)) w := by
    have hq : (Op.equal T (a.eval x) v).run P w = .ok b w := hrun
    rcases ho with rfl | rfl <;> cases hv : a.eval x <;> rw [hv] at hq <;> cases v <;> simp at n1 n2 n3 n4 n5 <;> simp [binOp, hq]
  refine .val hR (x := .bool (if op == .neq then !b else b)) ?_ (.lit rfl)
  simp only [execOp, hop, Sem.run_bind, he, hg, hb, Result.andThen_ok, Sem.run_pure]
end
end Go.TI
end

/- Ranges over maps of at most one entry. -/
section
set_option linter.unusedVariables false
set_option linter.unusedSimpArgs false
namespace Go.TI
open Go Go.RowKit

theorem getIter_some {s : Sto} {fr sl g : Nat} {x : V × Nat × Nat} (h : getIter s fr sl g = some x) : s fr sl = some (g, .iter x.1 x.2.1 x.2.2) := by
  unfold getIter at h
  split at h
  · rename_i g' m len k hs
    split at h
    · rename_i hg
      injection h with h
      subst h hg
      exact hs
    · simp at h
  · simp at h

theorem WStep.setIter (w : World) (r : Nat) (o : Obj) (h' : ∀ x, w.heap[r]? = some x → isOth x = false) (h : ∀ (arr : Array Value) (ty : TypeId) (fr : Nat × Nat), w.heap[r]? ≠ some (.cells arr ty fr)) : WStep (fun b => b = r) w { w with heap := w.heap.setIfInBounds r o } where
  os := rfl
  tape := rfl
  output := rfl
  size := by simp
  block b hb hn := by
    show (w.heap.setIfInBounds r o)[b]? = _
    rw [Array.getElem?_setIfInBounds_ne (by omega)]
  arr b arr ty fr hb := by
    have hne : r ≠ b := fun e => by subst e; exact h _ _ _ hb
    refine ⟨arr, ?_, rfl⟩
    show (w.heap.setIfInBounds r o)[b]? = _
    rw [Array.getElem?_setIfInBounds_ne hne]
    exact hb
  oth b x hb ho := by
    have hne : r ≠ b := fun e => by subst e; rw [h' x hb] at ho; simp at ho
    show (w.heap.setIfInBounds r o)[b]? = _
    rw [Array.getElem?_setIfInBounds_ne hne]
    exact hb

section
variable {P : Program} {D : Base} {o : Oper} {a : Act} {s : Sto} {τ : Nat → Bool} {n : Nat} {w : World} {f : Nat → Nat → Nat} {φ : Nat → Option (Nat × Nat)}

theorem map_born (hR : Rel D s τ n w f φ) {x : Value} {t : V} {es : List (Value × V)} (hx : RV (Ctx.of D s τ n w f φ) x t) (h : mapEs s t = some es) :
    (x = .map none ∧ es = []) ∨ ∃ (b : Nat) (mes : Array MapEntry), x = .map (some b) ∧ w.heap[b]? = some (.map mes es.length) ∧ mes.size = es.length ∧
      ∀ (i : Nat) (e : MapEntry) (p : Value × V), mes[i]? = some e → es[i]? = some p → e.key = p.1 ∧ e.born = i ∧ RV (Ctx.of D s τ n w f φ) e.val p.2 := by
  unfold mapEs at h
  split at h
  · injection h with h
    exact .inl ⟨hx.lit_inv.1, h.symm⟩
  · injection h with h
    subst h
    cases hx with
    | vmap h1 h2 h3 h4 h5 => exact .inr ⟨_, _, rfl, h2, h3, fun i e p he hp => ⟨(h4 i e p he hp).1, (h4 i e p he hp).2, h5 i e p he hp⟩⟩
  · have hs := getMap_some h
    obtain ⟨mes, h3, h4, h5⟩ := hR.mapAt hs
    cases hx with
    | map h1 h2 =>
      have hb := h2 _ (Ctx.of_obj_live hs)
      subst hb
      exact .inr ⟨_, mes, rfl, h3, h4, h5⟩
  · simp at h

theorem ok_rng (hR : Rel D s τ n w f φ) (hS : ∀ b o, D.S b o → b < D.B) {T kt e : TypeId} {x : Operand} {t : V} {es : List (Value × V)} (fr sl : Nat) (hop : o.op = .range T x) (hT : P.underlying T = some (.map kt e))
    (hx : RV (Ctx.of D s τ n w f φ) (a.eval x) t) (hes : mapEs s t = some es) : OpOk P D o a s τ n w f φ ⟨.ptr fr sl n 0, upd2 s fr sl (some (n, .iter t es.length 0)), τ, n + 1⟩ := by
  intro next Q hn
  have fin : ∀ mo, a.eval x = .map mo → (Instr.range T (.map mo)).run P w = .ok (.pointer (some ⟨w.heap.size, 0, none⟩)) (w.alloc (.mapIter mo es.length #[] es.length)) → o.upon P a next Q ((execOp a.eval o).run P w) := by
    intro mo hmo hrun
    have : (execOp a.eval o).run P w = .ok (.value (.pointer (some ⟨w.heap.size, 0, none⟩))) (w.alloc (.mapIter mo es.length #[] es.length)) := by simp [execOp, hop, hmo, hrun]
    rw [this, Oper.upon_value]
    rw [hmo] at hx
    obtain ⟨hR', hle⟩ := hR.new hS fr sl (o := .iter t es.length 0) (x := .mapIter mo es.length #[] es.length) ⟨mo, rfl, hx⟩
    refine hn _ _ _ φ hR' hle (.ptr (Nat.lt_succ_self n) fun b' hb' => ?_)
    obtain ⟨_, _, hbe⟩ := Ctx.of_obj_some hb'
    rw [upd2_self] at hbe
    exact ⟨hbe.symm, rfl⟩
  rcases map_born hR hx hes with ⟨h1, h2⟩ | ⟨b, mes, h1, h2, h3, _⟩
  · subst h2
    exact fin none h1 (by simp [Instr.range, run_underlying hT])
  · exact fin (some b) h1 (by simp [Instr.range, run_underlying hT, run_getObj h2])

theorem iter_block (hR : Rel D s τ n w f φ) {fr sl g : Nat} {x : Value} {m : V} {len k : Nat} (hx : RV (Ctx.of D s τ n w f φ) x (.ptr fr sl g 0)) (hi : getIter s fr sl g = some (m, len, k)) :
    x = .pointer (some ⟨f fr sl, 0, none⟩) ∧ ∃ mo, w.heap[f fr sl]? = some (.mapIter mo len (if k = 0 then #[] else #[0]) len) ∧ RV (Ctx.of D s τ n w f φ) (.map mo) m := by
  have hs := getIter_some hi
  obtain ⟨_, _, _, y, hy, mo, rfl, hm⟩ := hR.live fr sl g _ hs
  refine ⟨?_, mo, hy, hm⟩
  cases hx with
  | ptr h1 h2 =>
    obtain ⟨rfl, rfl⟩ := h2 _ (Ctx.of_obj_live hs)
    rfl

theorem run_next_over {b : Nat} {mo : Option Nat} {len : Nat} {seen : Array Nat} (ty : TypeId) (hb : w.heap[b]? = some (.mapIter mo len seen len))
    (h : mo = none ∨ ∃ (r : Nat) (mes : Array MapEntry) (c : Nat), mo = some r ∧ w.heap[r]? = some (.map mes c) ∧ (mes = #[] ∨ ∃ e, mes = #[e] ∧ seen = #[0] ∧ e.born = 0 ∧ len = 1)) :
    (Instr.next (.pointer (some ⟨b, 0, none⟩)) false ty).run P w = .ok (.tuple #[.bool false]) w := by
  rcases h with rfl | ⟨r, mes, c, rfl, hr, rfl | ⟨e, rfl, rfl, he, rfl⟩⟩
  · simp [Instr.next, getObj, Sem.run, hb, Result.andThen]
  · simp [Instr.next, getObj, Sem.run, hb, hr, Result.andThen, choose, Question.forced]
  · simp [Instr.next, getObj, Sem.run, hb, hr, he, Result.andThen, choose, Question.forced]

theorem run_next_one {b r c : Nat} {e : MapEntry} (ty : TypeId) (hb : w.heap[b]? = some (.mapIter (some r) 1 #[] 1)) (hr : w.heap[r]? = some (.map #[e] c)) (he : e.born = 0) :
    (Instr.next (.pointer (some ⟨b, 0, none⟩)) false ty).run P w = .ok (.tuple #[.bool true, e.key, e.val]) { w with heap := w.heap.setIfInBounds b (.mapIter (some r) 1 #[0] c) } := by
  simp [Instr.next, getObj, setObj, Sem.run, hb, hr, he, Result.andThen, choose, Question.forced]

/-- One entry, as the map's block has it. -/
theorem one_entry {c : Ctx} {mes : Array MapEntry} {p : Value × V} (h3 : mes.size = [p].length) (h4 : ∀ (i : Nat) (e : MapEntry) (q : Value × V), mes[i]? = some e → [p][i]? = some q → e.key = q.1 ∧ e.born = i ∧ RV c e.val q.2) :
    ∃ e : MapEntry, mes = #[e] ∧ e.key = p.1 ∧ e.born = 0 ∧ RV c e.val p.2 := by
  have hlt : 0 < mes.size := by simp [h3]
  have hm : mes = #[mes[0]] := by
    apply Array.ext
    · simpa using h3
    · intro i h1 h2
      have : i = 0 := by simp at h3; omega
      subst this
      rfl
  obtain ⟨h5, h6, h7⟩ := h4 0 mes[0] p (Array.getElem?_eq_getElem hlt) rfl
  exact ⟨mes[0], hm, h5, h6, h7⟩

theorem ok_nxt_over (hR : Rel D s τ n w f φ) {x : Operand} {fr sl g : Nat} {m : V} {len k : Nat} {es : List (Value × V)} (hop : o.op = .next x false) (hx : RV (Ctx.of D s τ n w f φ) (a.eval x) (.ptr fr sl g 0))
    (hi : getIter s fr sl g = some (m, len, k)) (hes : mapEs s m = some es) (hl : es.length = len) (hc : es = [] ∨ ∃ e, es = [e] ∧ k ≠ 0) : OpOk P D o a s τ n w f φ ⟨.tup [.lit (.bool false)], s, τ, n⟩ := by
  obtain ⟨hxe, mo, hb, hm⟩ := iter_block hR hx hi
  refine .val hR (x := .tuple #[.bool false]) ?_ (.tup rfl fun i y t hy ht => ?_)
  · have := run_next_over (P := P) (w := w) (seen := if k = 0 then #[] else #[0]) o.type hb ?_
    · simp [execOp, hop, hxe, this]
    · rcases map_born hR hm hes with ⟨h1, _⟩ | ⟨r, mes, h1, h2, h3, h4⟩
      · injection h1 with h1
        exact .inl h1
      · injection h1 with h1
        refine .inr ⟨r, mes, es.length, h1, h2, ?_⟩
        rcases hc with rfl | ⟨e, rfl, hk⟩
        · exact .inl (Array.eq_empty_of_size_eq_zero (by simpa using h3))
        · obtain ⟨e', h5, _, h6, _⟩ := one_entry h3 h4
          exact .inr ⟨e', h5, by rw [if_neg hk], h6, by simpa using hl.symm⟩
  · cases i with
    | zero => simp at hy ht; subst hy ht; exact .lit rfl
    | succ i => simp at ht

theorem ok_nxt_one (hR : Rel D s τ n w f φ) (hS : ∀ b o, D.S b o → b < D.B) {x : Operand} {fr sl g : Nat} {m : V} {e : Value × V} (hop : o.op = .next x false) (hx : RV (Ctx.of D s τ n w f φ) (a.eval x) (.ptr fr sl g 0))
    (hi : getIter s fr sl g = some (m, 1, 0)) (hes : mapEs s m = some [e]) (hp : plain e.1 = true) : OpOk P D o a s τ n w f φ ⟨.tup [.lit (.bool true), .lit e.1, e.2], upd2 s fr sl (some (g, .iter m 1 1)), τ, n⟩ := by
  obtain ⟨hxe, mo, hb, hm⟩ := iter_block hR hx hi
  rcases map_born hR hm hes with ⟨_, h2⟩ | ⟨r, mes, h1, h2, h3, h4⟩
  · simp at h2
  · injection h1 with h1
    subst h1
    obtain ⟨e', rfl, h5, h6, h7⟩ := one_entry h3 h4
    have hrun := run_next_one (P := P) o.type hb h2 h6
    intro next Q hn
    have : (execOp a.eval o).run P w = .ok (.value (.tuple #[.bool true, e'.key, e'.val])) { w with heap := w.heap.setIfInBounds (f fr sl) (.mapIter (some r) 1 #[0] 1) } := by
      simp [execOp, hop, hxe, hrun]
    rw [this, Oper.upon_value]
    have hs := getIter_some hi
    obtain ⟨hR', hle⟩ := hR.put hS (o' := .iter m 1 1) hs (WStep.setIter w (f fr sl) (.mapIter (some r) 1 #[0] 1) (fun x hx => by rw [hb] at hx; injection hx with hx; subst hx; rfl) fun arr ty fz h => by rw [hb] at h; simp at h) (x := .mapIter (some r) 1 #[0] 1)
      (by show (w.heap.setIfInBounds (f fr sl) _)[f fr sl]? = _; rw [Array.getElem?_setIfInBounds_self_of_lt (heap_lt hb)]) ⟨some r, rfl, hm⟩
    refine hn _ _ f φ hR' hle (.tup rfl fun i y t hy ht => ?_)
    match i with
    | 0 => simp at hy ht; subst hy ht; exact .lit rfl
    | 1 => simp at hy ht; subst hy ht; rw [h5]; exact .lit hp
    | 2 => simp at hy ht; subst hy ht; exact h7.mono hle
    | i + 3 => simp at ht

theorem ok_ent (hR : Rel D s τ n w f φ) {x : Operand} {fr sl g : Nat} {m : V} {e : Value × V} (hop : o.op = .entry x) (hx : RV (Ctx.of D s τ n w f φ) (a.eval x) (.ptr fr sl g 0))
    (hi : getIter s fr sl g = some (m, 1, 1)) (hes : mapEs s m = some [e]) (hp : plain e.1 = true) : OpOk P D o a s τ n w f φ ⟨.tup [.lit e.1, e.2], s, τ, n⟩ := by
  obtain ⟨hxe, mo, hb, hm⟩ := iter_block hR hx hi
  rcases map_born hR hm hes with ⟨_, h2⟩ | ⟨r, mes, h1, h2, h3, h4⟩
  · simp at h2
  · injection h1 with h1
    subst h1
    obtain ⟨e', rfl, h5, h6, h7⟩ := one_entry h3 h4
    refine .val hR (x := .tuple #[e'.key, e'.val]) ?_ (.tup rfl fun i y t hy ht => ?_)
    · have hb' : w.heap[f fr sl]? = some (.mapIter (some r) 1 #[0] 1) := by simpa using hb
      have : (Instr.entry (.pointer (some ⟨f fr sl, 0, none⟩))).run P w = .ok (.tuple #[e'.key, e'.val]) w := by
        simp [Instr.entry, getObj, Sem.run, hb', h2, h6, Result.andThen]
      simp [execOp, hop, hxe, this]
    · match i with
      | 0 => simp at hy ht; subst hy ht; rw [h5]; exact .lit hp
      | 1 => simp at hy ht; subst hy ht; exact h7
      | i + 2 => simp at ht
end
end Go.TI
end

/- Every operation of the interpreter is done by the world: all together. -/
section
set_option linter.unusedVariables false
set_option linter.unusedSimpArgs false
namespace Go.TI
open Go Go.RowKit

section
variable {P : Program} {D : Base} {o : Oper} {a : Act} {st : St} {w : World} {f : Nat → Nat → Nat} {φ : Nat → Option (Nat × Nat)} {C : Cfg} {ic : Nat → List V → St → Option Res} {pol : Pol}

theorem ok_eqt (hC : CfgOk P C) (hR : Rel D st.s st.τ st.n w f φ) {op : BinOp} {T T' : TypeId} {x y : Operand} {t u : V} {b neg : Bool} (hop : o.op = .binOp op T x y T') (ho : op = if neg then .neq else .eql)
    (hx : RV (Ctx.of D st.s st.τ st.n w f φ) (a.eval x) t) (hy : RV (Ctx.of D st.s st.τ st.n w f φ) (a.eval y) u) (h : C.eqT T t u = some b) : OpOk P D o a st.s st.τ st.n w f φ (st.ok (.lit (.bool (if neg then !b else b)))) := by
  subst ho
  have := hC.eqT T t u b h _ _ _ hx hy w neg x y
  refine .val hR (x := .bool (if neg then !b else b)) ?_ (.lit rfl)
  simp only [execOp, hop]
  rw [Sem.run_bind, this]
  rfl

theorem compOp_ok (hC : CfgOk P C) (hic : IcOk P D ic) (hR : Rel D st.s st.τ st.n w f φ) (hS : ∀ b o, D.S b o → b < D.B) (ht : ∀ i, RV (Ctx.of D st.s st.τ st.n w f φ) (a.tmps.getD i undef) (st.t i)) {slot : Nat} {top : TOp} {r : Res}
    (hc : compOp P pol slot o.op = some top) (he : evalOp C ic slot st top = some r) : OpOk P D o a st.s st.τ st.n w f φ r := by
  have RO : ∀ {x : Operand} {x' : Opd}, cOpd x = some x' → RV (Ctx.of D st.s st.τ st.n w f φ) (a.eval x) (x'.val st.t) := fun h => RV.opd ht h
  cases hop : o.op with
  | move x =>
    rw [hop] at hc
    simp only [compOp, Option.map_eq_some_iff] at hc
    obtain ⟨x', hx, rfl⟩ := hc
    simp only [evalOp, Option.some.injEq] at he
    subst he
    exact ok_mv hR (.inl hop) (RO hx)
  | assign x =>
    rw [hop] at hc
    simp only [compOp, Option.map_eq_some_iff] at hc
    obtain ⟨x', hx, rfl⟩ := hc
    simp only [evalOp, Option.some.injEq] at he
    subst he
    exact ok_mv hR (.inr hop) (RO hx)
  | pick c x y =>
    rw [hop] at hc
    simp only [compOp, Option.bind_eq_some_iff, Option.map_eq_some_iff] at hc
    obtain ⟨c', hc', x', hx, y', hy, rfl⟩ := hc
    simp only [evalOp] at he
    split at he
    · rename_i q hq
      injection he with he
      subst he
      have := RO hc'
      rw [hq] at this
      exact ok_pick hR hop this (RO hx) (RO hy)
    · simp at he
  | alloc T =>
    rw [hop] at hc
    simp only [compOp, Option.map_eq_some_iff] at hc
    obtain ⟨z, hz, rfl⟩ := hc
    simp only [evalOp, Option.some.injEq] at he
    subst he
    exact ok_new hR hS st.fr slot hop hz
  | box T x =>
    rw [hop] at hc
    simp only [compOp, Option.map_eq_some_iff] at hc
    obtain ⟨x', hx, rfl⟩ := hc
    simp only [evalOp, Option.some.injEq] at he
    subst he
    exact ok_box hR hS st.fr slot hop (RO hx)
  | build T parts =>
    rw [hop] at hc
    simp only [compOp] at hc
    split at hc
    · rename_i fields hT
      simp only [Option.bind_eq_some_iff, Option.map_eq_some_iff] at hc
      obtain ⟨z, hz, pl, hpl, ps, hps, rfl⟩ := hc
      simp only [evalOp, Option.map_eq_some_iff] at he
      obtain ⟨cs, hcs, rfl⟩ := he
      exact ok_build hR hop hT hz hpl hps ht hcs
    · simp at hc
  | buildSlice T len parts =>
    rw [hop] at hc
    simp only [compOp, Option.bind_eq_some_iff] at hc
    obtain ⟨⟨e, i⟩, hei, hc⟩ := hc
    simp only at hc
    split at hc
    · rename_i hle
      simp only [Option.bind_eq_some_iff] at hc
      obtain ⟨z, hz, hc⟩ := hc
      split at hc
      · rename_i hcnd
        rw [Option.map_eq_some_iff] at hc
        obtain ⟨ps, hps, rfl⟩ := hc
        simp only [evalOp, Option.map_eq_some_iff] at he
        obtain ⟨rows, hrows, rfl⟩ := he
        exact ok_bslice hR hS st.fr slot (pol.obj slot) hop hei hle hz hcnd.1 hcnd.2.1 hcnd.2.2 hps ht hrows
      · simp at hc
    · simp at hc
  | load T x =>
    rw [hop] at hc
    simp only [compOp, Option.bind_eq_some_iff, Option.map_eq_some_iff] at hc
    obtain ⟨⟨g, k⟩, hti, x', hx, rfl⟩ := hc
    simp only [evalOp, Option.map_eq_some_iff] at he
    obtain ⟨v, hv, rfl⟩ := he
    exact ok_load hR hop (RO hx) hti hv
  | store T p x =>
    rw [hop] at hc
    simp only [compOp, Option.bind_eq_some_iff, Option.map_eq_some_iff] at hc
    obtain ⟨⟨g, k⟩, hti, p', hp, x', hx, rfl⟩ := hc
    simp only [evalOp, Option.map_eq_some_iff] at he
    obtain ⟨s', hs', rfl⟩ := he
    exact ok_store hR hS hop (RO hp) (RO hx) hti hs'
  | nilCheck x =>
    rw [hop] at hc
    simp only [compOp, Option.map_eq_some_iff] at hc
    obtain ⟨x', hx, rfl⟩ := hc
    simp only [evalOp, Option.map_eq_some_iff] at he
    obtain ⟨v, hv, rfl⟩ := he
    exact ok_nilck hR hop (RO hx) hv
  | binOp op T x y T' =>
    rw [hop] at hc
    simp only [compOp] at hc
    split at hc
    · rename_i kk hkk
      split at hc
      · rename_i ho
        rw [Option.map_eq_some_iff] at hc
        obtain ⟨x', hx, rfl⟩ := hc
        simp only [evalOp, Option.map_eq_some_iff] at he
        obtain ⟨b, hb, rfl⟩ := he
        exact ok_eqn hR hop (by simpa using ho) hkk (RO hx) hb
      · simp at hc
    · have eqt : ∀ (neg : Bool), op = (if neg then .neq else .eql) → ((cOpd x).bind fun x => (cOpd y).map fun y => TOp.eqt T neg x y) = some top → OpOk P D o a st.s st.τ st.n w f φ r := by
        intro neg ho h
        simp only [Option.bind_eq_some_iff, Option.map_eq_some_iff] at h
        obtain ⟨x', hx, y', hy, rfl⟩ := h
        simp only [evalOp, Option.map_eq_some_iff] at he
        obtain ⟨b, hb, rfl⟩ := he
        exact ok_eqt hC hR hop ho (RO hx) (RO hy) hb
      have bin : ((cOpd x).bind fun x => (cOpd y).map fun y => TOp.bin op x y) = some top → OpOk P D o a st.s st.τ st.n w f φ r := by
        intro h
        simp only [Option.bind_eq_some_iff, Option.map_eq_some_iff] at h
        obtain ⟨x', hx, y', hy, rfl⟩ := h
        simp only [evalOp, Option.map_eq_some_iff] at he
        obtain ⟨v, hv, rfl⟩ := he
        exact ok_bin hR hop (RO hx) (RO hy) hv
      split at hc
      · exact eqt false rfl hc
      · exact eqt false rfl hc
      · exact eqt true rfl hc
      · exact eqt true rfl hc
      · exact bin hc
      · exact bin hc
      · simp at hc
  | unOp op T x =>
    rw [hop] at hc
    simp only [compOp, Option.map_eq_some_iff] at hc
    obtain ⟨x', hx, rfl⟩ := hc
    simp only [evalOp, Option.map_eq_some_iff] at he
    obtain ⟨v, hv, rfl⟩ := he
    exact ok_un hR hop (RO hx) hv
  | convert T U x =>
    rw [hop] at hc
    simp only [compOp] at hc
    split at hc
    · rename_i k0 k hT hU
      rw [Option.map_eq_some_iff] at hc
      obtain ⟨x', hx, rfl⟩ := hc
      simp only [evalOp] at he
      split at he
      · rename_i k1 m hv
        injection he with he
        subst he
        have := RO hx
        rw [hv] at this
        exact ok_cvi hR (k0 := k0) (k1 := k1) hop hT hU this
      · simp at he
    · rename_i hT hU
      rw [Option.map_eq_some_iff] at hc
      obtain ⟨x', hx, rfl⟩ := hc
      simp only [evalOp] at he
      split at he
      · rename_i b hv
        injection he with he
        subst he
        have := RO hx
        rw [hv] at this
        exact ok_cvs hR hop hT hU this
      · simp at he
    · rename_i e hT hU
      split at hc
      · rename_i he'
        rw [Option.map_eq_some_iff] at hc
        obtain ⟨x', hx, rfl⟩ := hc
        simp only [evalOp] at he
        split at he
        · rename_i k rows m hv
          split at he
          · rename_i hk
            rw [Option.map_eq_some_iff] at he
            obtain ⟨ns, hns, rfl⟩ := he
            have := RO hx
            rw [hv] at this
            exact ok_cvb hR hop hT he' hU this hk hns
          · simp at he
        · simp at he
      · simp at hc
    · simp at hc
  | makeFunc fn first caps =>
    rw [hop] at hc
    cases fn with
    | func g =>
      simp only [compOp] at hc
      split at hc
      · rename_i hfirst
        rw [Option.map_eq_some_iff] at hc
        obtain ⟨cs, hcs, rfl⟩ := hc
        simp only [evalOp, Option.some.injEq] at he
        subst he
        have : first = #[] := by simpa using hfirst
        subst this
        exact ok_mkf hR hop hcs ht
      · simp at hc
    | _ => simp [compOp] at hc
  | makeMap T res =>
    rw [hop] at hc
    cases res with
    | none =>
      simp only [compOp] at hc
      split at hc
      · injection hc with hc
        subst hc
        simp only [evalOp, Option.some.injEq] at he
        subst he
        exact ok_mkmap hR hS st.fr slot hop
      · simp at hc
    | some x => simp [compOp] at hc
  | makeSlice T l c =>
    rw [hop] at hc
    simp only [compOp, Option.bind_eq_some_iff] at hc
    obtain ⟨⟨e, i⟩, hei, z, hz, hc⟩ := hc
    simp only at hc
    split at hc
    · rename_i hcnd
      simp only [Option.bind_eq_some_iff, Option.map_eq_some_iff] at hc
      obtain ⟨l', hl, c', hc', rfl⟩ := hc
      simp only [evalOp] at he
      split at he
      · rename_i kl lv kc cv h1 h2
        split at he
        · rename_i hcond
          obtain ⟨q1, q2, q3, q4, q5, q6⟩ := hcond
          have hlr := RO hl
          have hcr := RO hc'
          rw [h1] at hlr
          rw [h2] at hcr
          have := ok_mkslice hR hS (P := P) (o := o) (a := a) st.fr slot (pol.obj slot) hop hei hz hcnd.1 q4 hcnd.2 hlr hcr q1 q2 q3 q6
          split at he
          · rename_i hob
            injection he with he
            rw [if_pos hob] at this
            rw [← he]
            exact this
          · rename_i hob
            injection he with he
            rw [if_neg hob] at this
            rw [← he]
            exact this
        · simp at he
      · simp at he
    · simp at hc
  | slice T x lo hi mx =>
    rw [hop] at hc
    cases mx with
    | some m => simp [compOp] at hc
    | none =>
      simp only [compOp] at hc
      split at hc
      · rename_i hT
        simp only [Option.bind_eq_some_iff, Option.map_eq_some_iff] at hc
        obtain ⟨x', hx, lo', hlo, hi', hhi, rfl⟩ := hc
        simp only [evalOp] at he
        split at he
        · rename_i b hv
          simp only [Option.bind_eq_some_iff, Option.map_eq_some_iff] at he
          obtain ⟨h, hh, l, hl, rfl⟩ := he
          have := RO hx
          rw [hv] at this
          exact ok_slcs hR hop hT ht this hlo hhi hh hl
        · simp at he
      · rename_i e hT
        simp only [Option.bind_eq_some_iff, Option.map_eq_some_iff] at hc
        obtain ⟨i, hi0, x', hx, lo', hlo, hi', hhi, rfl⟩ := hc
        simp only [evalOp] at he
        split at he
        · rename_i k' rows m hv
          split at he
          · rename_i hk
            simp only [Option.bind_eq_some_iff, Option.map_eq_some_iff] at he
            obtain ⟨h, hh, l, hl, rfl⟩ := he
            have := RO hx
            rw [hv] at this
            exact ok_slc hR hop hT hi0 ht this hk hlo hhi hh hl
          · simp at he
        · rename_i fr sl g off len k' hv
          split at he
          · rename_i hk
            subst hk
            have := RO hx
            rw [hv] at this
            cases lo with
            | none =>
              simp only [cOpt, Option.some.injEq] at hlo
              subst hlo
              simp only [Option.map_eq_some_iff] at he
              obtain ⟨h, hh, rfl⟩ := he
              exact ok_slc_own hR hop hT hi0 ht this hhi hh
            | some y =>
              simp only [cOpt, Option.map_eq_some_iff] at hlo
              obtain ⟨y', _, rfl⟩ := hlo
              simp at he
          · simp at he
        · simp at he
      · simp at hc
  | fieldAddr T x k =>
    rw [hop] at hc
    simp only [compOp] at hc
    split at hc
    · rename_i fields hT
      simp only [Option.bind_eq_some_iff] at hc
      obtain ⟨fd, hfd, i, hi, hc⟩ := hc
      split at hc
      · simp at hc
      · rename_i h0
        rw [Option.map_eq_some_iff] at hc
        obtain ⟨x', hx, rfl⟩ := hc
        simp only [evalOp, Option.map_eq_some_iff] at he
        obtain ⟨v, hv, rfl⟩ := he
        exact ok_faddr hR hop hT hfd hi h0 (RO hx) hv
    · simp at hc
  | field T x k =>
    rw [hop] at hc
    simp only [compOp] at hc
    split at hc
    · rename_i fields hT
      simp only [Option.bind_eq_some_iff, Option.map_eq_some_iff] at hc
      obtain ⟨fd, hfd, ⟨g, size⟩, hti, x', hx, rfl⟩ := hc
      simp only [evalOp] at he
      split at he
      · rename_i cs hv
        rw [Option.map_eq_some_iff] at he
        obtain ⟨v, hp, rfl⟩ := he
        have := RO hx
        rw [hv] at this
        exact ok_fld hR hop hT hfd hti this hp
      · simp at he
    · simp at hc
  | indexAddr T x i =>
    rw [hop] at hc
    simp only [compOp, Option.bind_eq_some_iff, Option.map_eq_some_iff] at hc
    obtain ⟨⟨e, q⟩, hei, x', hx, i', hi, rfl⟩ := hc
    simp only [evalOp, Option.bind_eq_some_iff, Option.map_eq_some_iff] at he
    obtain ⟨j, hj, v, hv, rfl⟩ := he
    exact ok_iaddr hR hop hei (RO hx) (RO hi) hj hv
  | index T x i =>
    rw [hop] at hc
    simp only [compOp] at hc
    split at hc
    · rename_i hT
      simp only [Option.bind_eq_some_iff, Option.map_eq_some_iff] at hc
      obtain ⟨x', hx, i', hi, rfl⟩ := hc
      simp only [evalOp] at he
      split at he
      · rename_i b k j hb hj
        split at he
        · rename_i h0
          rw [Option.map_eq_some_iff] at he
          obtain ⟨ch, hch, rfl⟩ := he
          have h1 := RO hx
          have h2 := RO hi
          rw [hb] at h1
          rw [hj] at h2
          exact ok_idxs hR hop hT h1 h2 h0 hch
        · simp at he
      · simp at he
    · simp at hc
  | lookup T m key ok =>
    rw [hop] at hc
    simp only [compOp] at hc
    split at hc
    · rename_i kt e hT
      simp only [Option.bind_eq_some_iff, Option.map_eq_some_iff] at hc
      obtain ⟨d, hd, kk, hkk, z, hz, m', hm, key', hkey, rfl⟩ := hc
      simp only [evalOp, Option.bind_eq_some_iff] at he
      obtain ⟨es, hes, he⟩ := he
      split at he
      · rename_i kv hkv
        split at he
        · rename_i hkind
          have hk := RO hkey
          rw [hkv] at hk
          split at he
          · rename_i i v hf
            injection he with he
            subst he
            exact ok_look hR ok hop hT hd hkk hz (RO hm) hk hes hkind hf rfl
          · rename_i hf
            injection he with he
            subst he
            exact ok_look hR ok hop hT hd hkk hz (RO hm) hk hes hkind hf rfl
          · simp at he
        · simp at he
      · simp at he
    · simp at hc
  | mapUpdate T m key x =>
    rw [hop] at hc
    simp only [compOp] at hc
    split at hc
    · rename_i kt e hT
      simp only [Option.bind_eq_some_iff, Option.map_eq_some_iff] at hc
      obtain ⟨d, hd, kk, hkk, m', hm, key', hkey, x', hx, rfl⟩ := hc
      simp only [evalOp] at he
      split at he
      · rename_i fr sl g kv hmv hkv
        split at he
        · rename_i hkind
          simp only [Option.bind_eq_some_iff, Option.map_eq_some_iff] at he
          obtain ⟨es, hes, es', hset, rfl⟩ := he
          have hk := RO hkey
          have hmr := RO hm
          rw [hkv] at hk
          rw [hmv] at hmr
          exact ok_mapset hR hS (.inl hop) hT hd hkk hmr hk (RO hx) hes hkind hset
        · simp at he
      · simp at he
    · simp at hc
  | insert T m key x =>
    rw [hop] at hc
    simp only [compOp] at hc
    split at hc
    · rename_i kt e hT
      simp only [Option.bind_eq_some_iff, Option.map_eq_some_iff] at hc
      obtain ⟨d, hd, kk, hkk, m', hm, key', hkey, x', hx, rfl⟩ := hc
      simp only [evalOp] at he
      split at he
      · rename_i fr sl g kv hmv hkv
        split at he
        · rename_i hkind
          simp only [Option.bind_eq_some_iff, Option.map_eq_some_iff] at he
          obtain ⟨es, hes, es', hset, rfl⟩ := he
          have hk := RO hkey
          have hmr := RO hm
          rw [hkv] at hk
          rw [hmv] at hmr
          exact ok_mapset hR hS (.inr hop) hT hd hkk hmr hk (RO hx) hes hkind hset
        · simp at he
      · simp at he
    · simp at hc
  | mapEntry T m key =>
    rw [hop] at hc
    simp only [compOp] at hc
    split at hc
    · rename_i kt e hT
      simp only [Option.bind_eq_some_iff, Option.map_eq_some_iff] at hc
      obtain ⟨d, hd, kk, hkk, z, hz, m', hm, key', hkey, rfl⟩ := hc
      simp only [evalOp] at he
      split at he
      · rename_i fr sl g kv hmv hkv
        split at he
        · rename_i hkind
          simp only [Option.bind_eq_some_iff] at he
          obtain ⟨es, hes, he⟩ := he
          have hk := RO hkey
          have hmr := RO hm
          rw [hkv] at hk
          rw [hmv] at hmr
          split at he
          · rename_i i v hf
            injection he with he
            exact ok_mapent hR hS hop hT hd hkk hz hmr hk hes hkind hf he.symm
          · rename_i hf
            injection he with he
            exact ok_mapent hR hS hop hT hd hkk hz hmr hk hes hkind hf he.symm
          · simp at he
        · simp at he
      · simp at he
    · simp at hc
  | entryStore T m i x =>
    rw [hop] at hc
    simp only [compOp, Option.bind_eq_some_iff, Option.map_eq_some_iff] at hc
    obtain ⟨m', hm, i', hi, x', hx, rfl⟩ := hc
    simp only [evalOp] at he
    split at he
    · rename_i fr sl g k j hmv hiv
      simp only [Option.bind_eq_some_iff] at he
      obtain ⟨es, hes, he⟩ := he
      split at he
      · rename_i h0
        rw [Option.map_eq_some_iff] at he
        obtain ⟨e, he1, rfl⟩ := he
        have hk := RO hi
        have hmr := RO hm
        rw [hiv] at hk
        rw [hmv] at hmr
        exact ok_entset hR hS hop hmr hk (RO hx) hes h0 he1
      · simp at he
    · simp at he
  | extract x i =>
    rw [hop] at hc
    simp only [compOp, Option.map_eq_some_iff] at hc
    obtain ⟨x', hx, rfl⟩ := hc
    simp only [evalOp] at he
    split at he
    · rename_i vs hv
      rw [Option.map_eq_some_iff] at he
      obtain ⟨v, hv2, rfl⟩ := he
      have := RO hx
      rw [hv] at this
      exact ok_ext hR hop this hv2
    · simp at he
  | range T x =>
    rw [hop] at hc
    simp only [compOp] at hc
    split at hc
    · rename_i kt e hT
      simp only [Option.map_eq_some_iff] at hc
      obtain ⟨x', hx, rfl⟩ := hc
      simp only [evalOp, Option.bind_eq_some_iff] at he
      obtain ⟨es, hes, he⟩ := he
      split at he
      · injection he with he
        subst he
        exact ok_rng hR hS st.fr slot hop hT (RO hx) hes
      · simp at he
    · simp at hc
  | next x b =>
    rw [hop] at hc
    cases b with
    | true => simp [compOp] at hc
    | false =>
      simp only [compOp, Option.map_eq_some_iff] at hc
      obtain ⟨x', hx, rfl⟩ := hc
      simp only [evalOp] at he
      split at he
      · rename_i fr sl g hv
        have hxr := RO hx
        rw [hv] at hxr
        simp only [Option.bind_eq_some_iff] at he
        obtain ⟨⟨m, len, k⟩, hi, es, hes, he⟩ := he
        split at he
        · rename_i hl
          split at he
          · injection he with he
            subst he
            exact ok_nxt_over hR hop hxr hi hes hl (.inl rfl)
          · rename_i e
            split at he
            · rename_i hk
              split at he
              · rename_i hp
                injection he with he
                have hl' : len = 1 := by simpa using hl.symm
                have hk' : k = 0 := hk
                subst he hl' hk'
                exact ok_nxt_one hR hS hop hxr hi hes hp
              · simp at he
            · rename_i hk
              injection he with he
              subst he
              exact ok_nxt_over hR hop hxr hi hes hl (.inr ⟨e, rfl, hk⟩)
          · simp at he
        · simp at he
      · simp at he
  | entry x =>
    rw [hop] at hc
    simp only [compOp, Option.map_eq_some_iff] at hc
    obtain ⟨x', hx, rfl⟩ := hc
    simp only [evalOp] at he
    split at he
    · rename_i fr sl g hv
      have hxr := RO hx
      rw [hv] at hxr
      simp only [Option.bind_eq_some_iff] at he
      obtain ⟨⟨m, len, k⟩, hi, es, hes, he⟩ := he
      split at he
      · rename_i hl
        split at he
        · rename_i e
          split at he
          · rename_i hp
            injection he with he
            have hl' : len = 1 := by simpa using hl.1.symm
            have hk' : k = 1 := hl.2
            subst he hl' hk'
            exact ok_ent hR hop hxr hi hes hp
          · simp at he
        · simp at he
      · simp at he
    · simp at he
  | call c =>
    rw [hop] at hc
    exact compCall_ok hC hic hR hS ht hop hc he
  | _ => rw [hop] at hc; simp [compOp] at hc
end
end Go.TI
end

/- What an operation of the interpreter does to the store, and on what of it it depends. -/
section
set_option linter.unusedVariables false
set_option linter.unusedSimpArgs false
namespace Go.TI
open Go Go.RowKit

def SubS (s s' : Sto) : Prop := ∀ fr sl p, s fr sl = some p → s' fr sl = some p
theorem SubS.refl (s : Sto) : SubS s s := fun _ _ _ h => h
theorem SubS.trans {a b c : Sto} (h : SubS a b) (k : SubS b c) : SubS a c := fun _ _ _ hp => k _ _ _ (h _ _ _ hp)
theorem SubS.none (s : Sto) : SubS (fun _ _ => Option.none) s := fun _ _ _ h => by simp at h

section
variable {C : Cfg} {ic : Nat → List V → St → Option Res} {slot : Nat} {st : St} {r : Res} {s s' : Sto}

theorem evalOp_quiet {o : TOp} (h : effect C o = false) (he : evalOp C ic slot st o = some r) : r.s = st.s ∧ r.τ = st.τ ∧ r.n = st.n := by
  cases o <;> simp [effect, allocs, writes] at h <;> simp only [evalOp, Option.bind_eq_some_iff, Option.map_eq_some_iff] at he
  case call f args =>
    rw [h] at he
    simp only [Bool.false_eq_true, if_false, Option.bind_eq_some_iff] at he
    obtain ⟨_, _, _, _, he⟩ := he
    split at he
    · simp at he
    · injection he with he; subst he; exact ⟨rfl, rfl, rfl⟩
  case bslice k z len parts ob =>
    subst h
    obtain ⟨_, _, rfl⟩ := he
    exact ⟨rfl, rfl, rfl⟩
  case ent x =>
    split at he
    · simp only [Option.bind_eq_some_iff] at he
      obtain ⟨_, _, _, _, he⟩ := he
      repeat' split at he
      all_goals first
        | (simp at he; done)
        | (simp only [Option.some.injEq] at he; subst he; exact ⟨rfl, rfl, rfl⟩)
    · simp at he
  all_goals first
    | (simp only [Option.some.injEq] at he; subst he; exact ⟨rfl, rfl, rfl⟩)
    | (obtain ⟨_, _, rfl⟩ := he; exact ⟨rfl, rfl, rfl⟩)
    | (obtain ⟨_, _, _, _, rfl⟩ := he; exact ⟨rfl, rfl, rfl⟩)
    | (repeat' split at he
       all_goals first
         | (simp at he; done)
         | (simp only [Option.some.injEq] at he; subst he; exact ⟨rfl, rfl, rfl⟩)
         | (simp only [Option.map_eq_some_iff] at he; obtain ⟨_, _, rfl⟩ := he; exact ⟨rfl, rfl, rfl⟩)
         | (simp only [Option.bind_eq_some_iff, Option.map_eq_some_iff] at he; obtain ⟨_, _, _, _, rfl⟩ := he; exact ⟨rfl, rfl, rfl⟩))
    | (obtain ⟨_, _, he⟩ := he
       repeat' split at he
       all_goals first
         | (simp at he; done)
         | (simp only [Option.some.injEq] at he; subst he; exact ⟨rfl, rfl, rfl⟩))

theorem evalOp_nostore {o : TOp} (h : adds o = false) (h' : writes C o = false) (he : evalOp C ic slot st o = some r) : r.s = st.s := by
  by_cases hq : effect C o = true
  · cases o
    case clone f args ob =>
      simp only [adds, allocs] at h
      subst h
      simp only [evalOp, Option.bind_eq_some_iff] at he
      obtain ⟨_, _, _, _, he⟩ := he
      repeat' split at he
      all_goals first
        | (simp at he; done)
        | (rename_i h9; exact absurd h9 (by decide))
        | (simp only [Option.some.injEq] at he; subst he; rfl)
    case app k b x y ob =>
      simp only [writes] at h'
      subst h'
      simp only [evalOp, Option.bind_eq_some_iff] at he
      obtain ⟨_, _, he⟩ := he
      repeat' split at he
      all_goals first
        | (simp at he; done)
        | (simp only [Option.some.injEq] at he; subst he; rfl)
        | (obtain ⟨_, _, he⟩ := he; simp at he; done)
        | (rename_i h9; exact absurd h9 (by decide))
    case mkslice k b z l c ob =>
      simp only [adds, allocs] at h
      subst h
      simp only [evalOp] at he
      repeat' split at he
      all_goals first
        | (simp at he; done)
        | (rename_i h9; exact absurd h9 (by decide))
        | (simp only [Option.some.injEq] at he; subst he; rfl)
    all_goals (exfalso; simp_all [effect, adds, allocs, writes])
  · exact (evalOp_quiet (by simpa using hq) he).1

theorem evalOp_calli {f : Nat} {args : List Opd} (he : evalOp C ic slot st (.calli f args) = some r) : SubS st.s r.s := by
  simp only [evalOp, Option.bind_eq_some_iff] at he
  obtain ⟨_, _, _, _, _, _, he⟩ := he
  split at he
  · simp at he
  · injection he with he
    subst he
    exact fun _ _ _ h => mergeS_sub h

theorem evalOp_alloc {o : TOp} (h : allocs o = true) (h' : writes C o = false) (he : evalOp C ic slot st o = some r) : r.s = st.s ∨ ∃ p, r.s = upd2 st.s st.fr slot (some p) := by
  cases o <;> simp [allocs] at h <;> simp only [evalOp, Option.bind_eq_some_iff, Option.map_eq_some_iff] at he
  case bslice k z len parts ob =>
    subst h
    obtain ⟨_, _, rfl⟩ := he
    exact .inr ⟨_, rfl⟩
  case clone f args ob =>
    subst h
    obtain ⟨_, _, _, _, he⟩ := he
    repeat' split at he
    all_goals first
      | (simp at he; done)
      | (simp only [Option.some.injEq] at he; subst he; first | exact .inl rfl | exact .inr ⟨_, rfl⟩)
  case app k b x y ob =>
    subst h
    simp [writes] at h'
  case rng x =>
    obtain ⟨_, _, he⟩ := he
    split at he
    · injection he with he; subst he; exact .inr ⟨_, rfl⟩
    · simp at he
  case mkslice k b z l c ob =>
    subst h
    repeat' split at he
    all_goals first
      | (simp at he; done)
      | (rename_i h9; exact absurd rfl h9)
      | (simp only [Option.some.injEq] at he; subst he; exact .inr ⟨_, rfl⟩)
  all_goals (simp only [Option.some.injEq] at he; subst he; exact .inr ⟨_, rfl⟩)

theorem getCells_mono (h : SubS s s') {fr sl g : Nat} {l : List V} (hg : getCells s fr sl g = some l) : getCells s' fr sl g = some l := by
  unfold getCells at *
  split at hg
  · rename_i g' l' hs; simp only [h _ _ _ hs]; exact hg
  · simp at hg
theorem getRows_mono (h : SubS s s') {fr sl g k : Nat} {l : List (List V)} (hg : getRows s fr sl g k = some l) : getRows s' fr sl g k = some l := by
  unfold getRows at *
  split at hg
  · rename_i g' l' hs; simp only [h _ _ _ hs]; exact hg
  · simp at hg
theorem getMap_mono (h : SubS s s') {fr sl g : Nat} {l : List (Value × V)} (hg : getMap s fr sl g = some l) : getMap s' fr sl g = some l := by
  unfold getMap at *
  split at hg
  · rename_i g' l' hs; simp only [h _ _ _ hs]; exact hg
  · simp at hg
theorem mapO_mono {α β : Type} {f g : α → Option β} {l : List α} {r : List β} (h : ∀ x y, f x = some y → g x = some y) (hm : mapO f l = some r) : mapO g l = some r := by
  induction l generalizing r with
  | nil => exact hm
  | cons x xs ih =>
    simp only [mapO] at *
    split at hm
    · rename_i y hy
      rw [h _ _ hy]
      simp only [Option.map_eq_some_iff] at *
      obtain ⟨q, hq, rfl⟩ := hm
      exact ⟨q, ih hq, rfl⟩
    · simp at hm
theorem view_mono (h : SubS s s') : ∀ (d : Nat) (t u : V), view s d t = some u → view s' d t = some u := by
  intro d
  induction d with
  | zero => intro t u ht; simp [view] at ht
  | succ d ih =>
    intro t u ht
    cases t with
    | lit v => exact ht
    | udef => exact ht
    | agg cs =>
      simp only [view, Option.map_eq_some_iff] at *
      obtain ⟨q, hq, rfl⟩ := ht
      exact ⟨q, mapO_mono ih hq, rfl⟩
    | tup cs =>
      simp only [view, Option.map_eq_some_iff] at *
      obtain ⟨q, hq, rfl⟩ := ht
      exact ⟨q, mapO_mono ih hq, rfl⟩
    | sl k rows m => exact ht
    | own fr sl g off len k =>
      simp only [view] at *
      split at ht
      · rename_i g' k' l hs
        simp only [h _ _ _ hs]
        split at ht
        · rename_i hc
          rw [if_pos hc]
          simp only [Option.map_eq_some_iff] at *
          obtain ⟨q, hq, rfl⟩ := ht
          exact ⟨q, mapO_mono (fun _ _ => mapO_mono ih) hq, rfl⟩
        · simp at ht
      · simp at ht
    | ptr fr sl g off =>
      simp only [view] at *
      split at ht
      · rename_i g' l hs
        simp only [h _ _ _ hs]
        split at ht
        · rename_i hc
          rw [if_pos hc]
          simp only [Option.map_eq_some_iff] at *
          obtain ⟨q, hq, rfl⟩ := ht
          exact ⟨q, mapO_mono ih hq, rfl⟩
        · simp at ht
      · simp at ht
    | rptr fr sl g k idx off =>
      simp only [view] at *
      split at ht
      · rename_i g' k' l hs
        simp only [h _ _ _ hs]
        split at ht
        · rename_i hc
          rw [if_pos hc]
          split at ht
          · rename_i r hr
            simp only [Option.map_eq_some_iff] at *
            obtain ⟨q, hq, rfl⟩ := ht
            exact ⟨q, mapO_mono ih hq, rfl⟩
          · simp at ht
        · simp at ht
      · simp at ht
    | vptr cs off => exact ht
    | map fr sl g =>
      simp only [view] at *
      split at ht
      · rename_i g' l hs
        simp only [h _ _ _ hs]
        split at ht
        · rename_i hc
          rw [if_pos hc]
          simp only [Option.map_eq_some_iff] at *
          obtain ⟨q, hq, rfl⟩ := ht
          refine ⟨q, mapO_mono (fun x y hxy => ?_) hq, rfl⟩
          simp only [Option.map_eq_some_iff] at *
          obtain ⟨z, hz, rfl⟩ := hxy
          exact ⟨z, ih _ _ hz, rfl⟩
        · simp at ht
      · simp at ht
    | vmap es => exact ht
    | yld a b c => simp [view] at ht
    | clo f caps =>
      simp only [view, Option.map_eq_some_iff] at *
      obtain ⟨q, hq, rfl⟩ := ht
      exact ⟨q, mapO_mono ih hq, rfl⟩
theorem loadV_mono (h : SubS s s') {g : Bool} {k : Nat} {x v : V} (hl : loadV s g k x = some v) : loadV s' g k x = some v := by
  unfold loadV at *
  split at hl
  · simp only [Option.bind_eq_some_iff] at *
    obtain ⟨l, h1, h2⟩ := hl
    exact ⟨l, getCells_mono h h1, h2⟩
  · simp only [Option.bind_eq_some_iff] at *
    obtain ⟨l, h1, h2⟩ := hl
    exact ⟨l, getRows_mono h h1, h2⟩
  · exact hl
  · simp at hl
theorem rowsOf_mono (h : SubS s s') {k : Nat} {x : V} {v : List (List V)} (hl : rowsOf s k x = some v) : rowsOf s' k x = some v := by
  unfold rowsOf at *
  split at hl
  · exact hl
  · split at hl
    · rename_i hk
      rw [if_pos hk]
      simp only [Option.bind_eq_some_iff] at *
      obtain ⟨l, h1, h2⟩ := hl
      exact ⟨l, getRows_mono h h1, h2⟩
    · simp at hl
  · simp at hl
theorem lenV_mono (h : SubS s s') {k : Nat} {x : V} {v : Int} (hl : lenV s k x = some v) : lenV s' k x = some v := by
  unfold lenV at *
  split at hl <;> try exact hl
  simp only [Option.map_eq_some_iff] at *
  obtain ⟨l, h1, h2⟩ := hl
  exact ⟨l, getMap_mono h h1, h2⟩
theorem iaddrV_mono (h : SubS s s') {k : Nat} {j : Int} {x v : V} (hl : iaddrV s k j x = some v) : iaddrV s' k j x = some v := by
  unfold iaddrV at *
  split at hl
  · exact hl
  · simp only [Option.bind_eq_some_iff] at *
    obtain ⟨l, h1, h2⟩ := hl
    exact ⟨l, getRows_mono h h1, h2⟩
  · simp at hl
theorem mapEs_mono (h : SubS s s') {x : V} {v : List (Value × V)} (hl : mapEs s x = some v) : mapEs s' x = some v := by
  unfold mapEs at *
  split at hl
  · exact hl
  · exact hl
  · exact getMap_mono h hl
  · simp at hl

theorem getIter_mono (h : SubS s s') {fr sl g : Nat} {l : V × Nat × Nat} (hg : getIter s fr sl g = some l) : getIter s' fr sl g = some l := by
  unfold getIter at *
  split at hg
  · rename_i g' m len k hs; simp only [h _ _ _ hs]; exact hg
  · simp at hg

theorem calls_mono (h : SubS st.s s') {f : Nat} {vs : List V} {τ' : Nat → Bool} {n' : Nat}
    (he : ((mapO (view st.s viewDepth) vs).bind fun us => (C.ora f us).bind fun r => if (vs.any fun x => refs viewDepth x) && !flat viewDepth r then none else some (st.ok r)) = some r) :
    ((mapO (view s' viewDepth) vs).bind fun us => (C.ora f us).bind fun r => if (vs.any fun x => refs viewDepth x) && !flat viewDepth r then none else some (St.ok ⟨st.t, s', τ', n', st.fr⟩ r)) = some ⟨r.v, s', τ', n'⟩ := by
  simp only [Option.bind_eq_some_iff] at *
  obtain ⟨us, h1, q, h2, he⟩ := he
  refine ⟨us, mapO_mono (view_mono h viewDepth) h1, q, h2, ?_⟩
  split at he
  · simp at he
  · rename_i hc
    rw [if_neg hc]
    injection he with he
    subst he
    rfl

/-- What has no effect answers alike over a greater store. -/
theorem evalOp_mono {o : TOp} (h : effect C o = false) (he : evalOp C ic slot st o = some r) (hs : SubS st.s s') (τ' : Nat → Bool) (n' : Nat) :
    evalOp C ic slot ⟨st.t, s', τ', n', st.fr⟩ o = some ⟨r.v, s', τ', n'⟩ := by
  cases o <;> simp [effect, allocs, writes] at h <;> simp only [evalOp] at he ⊢
  case call f args =>
    rw [h] at he ⊢
    simp only [Bool.false_eq_true, if_false] at he ⊢
    have := calls_mono (C := C) (τ' := τ') (n' := n') hs (f := f) (vs := args.map (·.val st.t)) (by simpa [List.any_map, Function.comp_def] using he)
    simpa [List.any_map, Function.comp_def] using this
  case bslice k z len parts ob =>
    subst h
    simp only [Option.map_eq_some_iff] at *
    obtain ⟨q, hq, rfl⟩ := he
    exact ⟨q, hq, rfl⟩
  case load g k x =>
    simp only [Option.map_eq_some_iff] at *
    obtain ⟨q, hq, rfl⟩ := he
    exact ⟨q, loadV_mono hs hq, rfl⟩
  case ent x =>
    split at he
    · rename_i fr sl g hx
      simp only [Option.bind_eq_some_iff] at he
      obtain ⟨⟨m, len, k⟩, h1, es, h2, he⟩ := he
      try simp only [hx]
      simp only [Option.bind_eq_some_iff]
      refine ⟨⟨m, len, k⟩, getIter_mono hs h1, es, mapEs_mono hs h2, ?_⟩
      split at he
      · rename_i hl
        simp only at hl ⊢
        rw [if_pos hl]
        split at he
        · split at he
          · rename_i hp
            injection he with he
            subst he
            rw [if_pos hp]
            rfl
          · simp at he
        · simp at he
      · simp at he
    · simp at he
  case len k x =>
    simp only [Option.map_eq_some_iff] at *
    obtain ⟨q, hq, rfl⟩ := he
    exact ⟨q, lenV_mono hs hq, rfl⟩
  case iaddr k x i =>
    simp only [Option.bind_eq_some_iff, Option.map_eq_some_iff] at *
    obtain ⟨j, hj, q, hq, rfl⟩ := he
    exact ⟨j, hj, q, iaddrV_mono hs hq, rfl⟩
  case look kk z m key ok =>
    simp only [Option.bind_eq_some_iff] at *
    obtain ⟨es, h1, he⟩ := he
    refine ⟨es, mapEs_mono hs h1, ?_⟩
    split at he
    · rename_i kv hkv
      try rw [hkv]
      split at he
      · rename_i hk
        try rw [if_pos hk]
        split at he
        · rename_i hf; injection he with he; subst he; simp [hf, St.ok]
        · rename_i hf; injection he with he; subst he; simp [hf, St.ok]
        · simp at he
      · simp at he
    · simp at he
  all_goals first
    | (simp only [Option.some.injEq] at he; subst he; rfl)
    | (simp only [Option.map_eq_some_iff] at he ⊢; obtain ⟨q, hq, rfl⟩ := he; exact ⟨q, hq, rfl⟩)
    | (simp only [Option.bind_eq_some_iff, Option.map_eq_some_iff] at he ⊢; obtain ⟨q, hq, p, hp, rfl⟩ := he; exact ⟨q, hq, p, hp, rfl⟩)
    | skip
  all_goals
    repeat' split at he
    all_goals first
      | (simp at he; done)
      | (simp only [Option.some.injEq] at he; subst he; simp [*, St.ok]; done)
      | (simp only [Option.map_eq_some_iff] at he; obtain ⟨q, hq, rfl⟩ := he; simp [*, St.ok]; done)
      | (simp only [Option.bind_eq_some_iff, Option.map_eq_some_iff] at he; obtain ⟨q, hq, p, hp, rfl⟩ := he; simp [*, St.ok]; done)
end
end Go.TI
end

/- The walk inside the wide fence, in a frame or in a round of a range over a function. -/
section
set_option linter.unusedVariables false
set_option linter.unusedSimpArgs false
namespace Go.TI
open Go Go.RowKit

/-- The wide fence, for a frame of a function or of a round. -/
def Fr (ro : Option Nat) : Fence := { Fence.wide with round := ro }

section
variable {P : Program} {ro : Option Nat}

theorem calls_fr {m : Nat} {f : FuncId} {args : Array Value} {w : World} {R : Ending → World → Prop} : CallsIn (Fr ro) m P f args w R ↔ Calls P f args w R := callsIn_wide (n := m)

theorem rows_fr {m : Nat} {row : String} {args : Array Value} {w : World} {R : Value → World → Prop} (h : Rows P row args w R) : RowsIn (Fr ro) m P row args w R := by
  intro c cs _
  obtain ⟨v, w', r, s⟩ := h c cs
  exact ⟨v, w', r, stepsIn_wide.2 s⟩

theorem upon_fr {o : Oper} {a : Act} {next : Act → World → Prop} {Q : Exit → Act → World → Prop} {r : Result Next} (h : o.upon P a next Q r) : o.uponIn (Fr ro) 0 P a next Q r := by
  unfold Oper.upon at h
  unfold Oper.uponIn
  split at h
  · exact h
  · exact h
  · exact h
  · exact ⟨fun h => by simp [Fr, Fence.wide] at h, calls_fr.2 h⟩
  · exact ⟨fun h => by simp [Fr, Fence.wide] at h, rows_fr h⟩
  · exact h
  · exact h.elim

theorem wp_fr {o : Oper} {a : Act} {w : World} {next : Act → World → Prop} {Q : Exit → Act → World → Prop} (hd : ∀ c, o.op ≠ .defer c) (h : o.wp P a w next Q) : o.wpIn (Fr ro) 0 P a w next Q :=
  ⟨fun _ _ => trivial, by rw [Oper.semAt_eq _ _ _ hd]; exact upon_fr h⟩

/-- The marks of the loops over functions that a frame has run. -/
def Marks (B0 : Nat) (w : World) (ds : List Deferred) : Prop :=
  B0 ≤ w.heap.size ∧ ∃ rs : List Nat, ds = rs.map (fun r => { target := .collected r, args := #[] }) ∧ rs.Nodup ∧ ∀ r ∈ rs, B0 ≤ r ∧ w.heap[r]? = some (.deferred (some []))
theorem Marks.nil {B0 : Nat} {w : World} (h : B0 ≤ w.heap.size) : Marks B0 w [] := ⟨h, [], rfl, .nil, fun _ h => by simp at h⟩
theorem Marks.mono {B0 : Nat} {c c' : Ctx} {ds : List Deferred} (h : Marks B0 c.w ds) (hle : c.le c') : Marks B0 c'.w ds := by
  obtain ⟨h0, rs, h1, h2, h3⟩ := h
  exact ⟨Nat.le_trans h0 hle.size, rs, h1, h2, fun r hr => ⟨(h3 r hr).1, hle.oth r _ (h3 r hr).2 rfl⟩⟩

theorem cellAt_oth {w : World} {b o : Nat} {x : Obj} (h : w.heap[b]? = some x) (hx : isOth x = true) : cellAt w b o = none := by
  unfold cellAt World.cell?
  simp only [h]
  cases x <;> simp [isOth] at hx <;> rfl

/-- A block that bears no cells and no map is turned. -/
theorem Rel.turn {D : Base} {s : Sto} {τ : Nat → Bool} {n : Nat} {w : World} {f : Nat → Nat → Nat} {φ : Nat → Option (Nat × Nat)} (hR : Rel D s τ n w f φ) {l : Nat} {o o' : Obj} (ho : w.heap[l]? = some o) (hi : isOth o = true) (hi' : isOth o' = true) (hB : D.B ≤ l)
    (hk : ∀ r, o = .loop r → ∃ r', o' = .loop r') :
    Rel D s τ n (w.putObj l o') f φ ∧ (Ctx.of D s τ n w f φ).lw (Ctx.of D s τ n (w.putObj l o') f φ) := by
  have hl : l < w.heap.size := heap_lt ho
  have hsame : (w.putObj l o').heap[l]? = some o' := World.putObj_heap_same hl
  have hother : ∀ {b : Nat}, b ≠ l → (w.putObj l o').heap[b]? = w.heap[b]? := fun h => World.putObj_heap_other h
  have hcell : ∀ b q, cellAt (w.putObj l o') b q = cellAt w b q := by
    intro b q
    by_cases e : b = l
    · subst e; rw [cellAt_oth hsame hi', cellAt_oth ho hi]
    · exact cellAt_of_block (hother e) q
  have hle : (Ctx.of D s τ n w f φ).lw (Ctx.of D s τ n (w.putObj l o') f φ) := by
    refine ⟨Nat.le_refl _, fun b q h => ⟨?_, hcell b q⟩, fun b mes k _ h => ?_, fun _ _ _ _ _ h => h, fun _ _ _ h => h, fun b arr ty fz h => ⟨arr, ?_, rfl⟩⟩
    · rcases h with h | ⟨h1, h2, h3⟩
      · exact .inl h
      · exact .inr ⟨h1, by simpa using h2, h3⟩
    · have h' : w.heap[b]? = some (.map mes k) := h
      have e : b ≠ l := fun e => by subst e; rw [ho] at h'; injection h' with h'; subst h'; simp [isOth] at hi
      exact (hother e).trans h'
    · have h' : w.heap[b]? = some (.cells arr ty fz) := h
      have e : b ≠ l := fun e => by subst e; rw [ho] at h'; injection h' with h'; subst h'; simp [isOth] at hi
      exact (hother e).trans h'
  refine ⟨⟨?_, ?_, fun fr sl g ob h => ?_, hR.inj, hR.tn, fun g b e hg hb => ?_, hR.tinj⟩, hle⟩
  · exact hR.below.trans ⟨rfl, rfl, rfl, by simp, fun k hk => hother (by omega)⟩
  · simpa using hR.hB
  · obtain ⟨h1, h2, h3, x, hx, hc⟩ := hR.live fr sl g ob h
    refine ⟨h1, h2, by simpa using h3, ?_⟩
    by_cases e : f fr sl = l
    · have hx' : w.heap[f fr sl]? = some x := hx
      rw [e, ho] at hx'
      injection hx' with hx'
      subst hx'
      cases ob with
      | loop =>
        obtain ⟨r, hr⟩ := hc
        obtain ⟨r', hr'⟩ := hk r hr
        exact ⟨o', by rw [e]; exact hsame, r', hr'⟩
      | cells q => obtain ⟨arr, ty, rfl, _⟩ := hc; simp [isOth] at hi
      | rows k q => obtain ⟨arr, ty, rfl, _⟩ := hc; simp [isOth] at hi
      | map q => obtain ⟨mes, rfl, _⟩ := hc; simp [isOth] at hi
      | iter m len k => obtain ⟨mo, rfl, _⟩ := hc; simp [isOth] at hi
    · exact RObj.monow hle ⟨x, hx, hc⟩ (hother e)
  · obtain ⟨h1, h2, h3, arr, ty, h4⟩ := hR.toks g b e hg hb
    refine ⟨h1, by simpa using h2, h3, arr, ty, ?_⟩
    have e : b ≠ l := fun e => by subst e; rw [ho] at h4; injection h4 with h4; subst h4; simp [isOth] at hi
    exact (hother e).trans h4
end
end Go.TI
end

/- One operation of a region with its guard, and a region whose order is fixed. -/
section
set_option linter.unusedVariables false
set_option linter.unusedSimpArgs false
namespace Go.TI
open Go Go.RowKit

theorem evalOp_blind {C : Cfg} {ic : Nat → List V → St → Option Res} {slot : Nat} {st : St} {r : Res} {s' : Sto} {o : TOp} (h : effect C o = false) (hl : looks o = false) (he : evalOp C ic slot st o = some r) (τ' : Nat → Bool) (n' : Nat) :
    evalOp C ic slot ⟨st.t, s', τ', n', st.fr⟩ o = some ⟨r.v, s', τ', n'⟩ := by
  cases o <;> simp [effect, allocs, writes] at h <;> simp [looks] at hl <;> simp only [evalOp] at he ⊢
  case bslice k z len parts ob =>
    subst h
    simp only [Option.map_eq_some_iff] at *
    obtain ⟨q, hq, rfl⟩ := he
    exact ⟨q, hq, rfl⟩
  all_goals first
    | (simp only [Option.some.injEq] at he; subst he; rfl)
    | (simp only [Option.map_eq_some_iff] at he ⊢; obtain ⟨q, hq, rfl⟩ := he; exact ⟨q, hq, rfl⟩)
    | (simp only [Option.bind_eq_some_iff, Option.map_eq_some_iff] at he ⊢; obtain ⟨q, hq, p, hp, rfl⟩ := he; exact ⟨q, hq, p, hp, rfl⟩)
    | skip
  all_goals
    repeat' split at he
    all_goals first
      | (simp at he; done)
      | (simp only [Option.some.injEq] at he; subst he; simp [*, St.ok]; done)
      | (simp only [Option.map_eq_some_iff] at he; obtain ⟨q, hq, rfl⟩ := he; simp [*, St.ok]; done)
      | (simp only [Option.bind_eq_some_iff, Option.map_eq_some_iff] at he; obtain ⟨q, hq, p, hp, rfl⟩ := he; simp [*, St.ok]; done)

theorem Opd.val_congr {t t' : Nat → V} {x : Opd} (h : ∀ i ∈ opdSlots x, t i = t' i) : x.val t = x.val t' := by
  cases x with
  | t n => exact h n (by simp [opdSlots])
  | c v => rfl
theorem bound_congr {t t' : Nat → V} {x : Option Opd} {d hi : Nat} (h : ∀ i ∈ optSlots x, t i = t' i) : bound t x d hi = bound t' x d hi := by
  cases x with
  | none => rfl
  | some x => simp only [bound, Opd.val_congr (x := x) h]
theorem args_congr {t t' : Nat → V} {l : List Opd} (h : ∀ i ∈ l.flatMap opdSlots, t i = t' i) : l.map (·.val t) = l.map (·.val t') :=
  List.map_congr_left fun x hx => Opd.val_congr fun i hi => h i (List.mem_flatMap.2 ⟨x, hx, hi⟩)
theorem any_congr {t t' : Nat → V} {l : List Opd} (h : ∀ i ∈ l.flatMap opdSlots, t i = t' i) : (l.any fun x => refs viewDepth (x.val t)) = l.any fun x => refs viewDepth (x.val t') := by
  have := congrArg (fun q => q.any (refs viewDepth)) (args_congr h)
  simpa [List.any_map, Function.comp_def] using this
theorem fillV_congr {t t' : Nat → V} : ∀ {l : List (Nat × Nat × Opd)} {cs : List V}, (∀ i ∈ l.flatMap (fun p => opdSlots p.2.2), t i = t' i) → fillV t cs l = fillV t' cs l := by
  intro l
  induction l with
  | nil => intro cs _; rfl
  | cons p l ih =>
    intro cs h
    obtain ⟨off, size, x⟩ := p
    have hx : x.val t = x.val t' := Opd.val_congr fun i hi => h i (by simp [hi])
    have ih' : ∀ cs, fillV t cs l = fillV t' cs l := fun cs => ih fun i hi => h i (by simp only [List.flatMap_cons, List.mem_append]; exact .inr hi)
    simp only [fillV, hx, ih']
theorem fillR_congr {t t' : Nat → V} {k : Nat} : ∀ {l : List (Nat × Opd)} {rows : List (List V)}, (∀ i ∈ l.flatMap (fun p => opdSlots p.2), t i = t' i) → fillR t k rows l = fillR t' k rows l := by
  intro l
  induction l with
  | nil => intro cs _; rfl
  | cons p l ih =>
    intro rows h
    obtain ⟨j, x⟩ := p
    have hx : x.val t = x.val t' := Opd.val_congr fun i hi => h i (by simp [hi])
    have ih' : ∀ rows, fillR t k rows l = fillR t' k rows l := fun rows => ih fun i hi => h i (by simp only [List.flatMap_cons, List.mem_append]; exact .inr hi)
    simp only [fillR, hx, ih']

def IcT (ic : Nat → List V → St → Option Res) : Prop := ∀ f vs (st : St) (t : Nat → V), ic f vs { st with t := t } = ic f vs st

theorem evalOp_slots {C : Cfg} {ic : Nat → List V → St → Option Res} {slot : Nat} {t t' : Nat → V} {s : Sto} {τ : Nat → Bool} {n fr : Nat} (hic : IcT ic) {o : TOp} (h : ∀ i ∈ slots o, t i = t' i) :
    evalOp C ic slot ⟨t, s, τ, n, fr⟩ o = evalOp C ic slot ⟨t', s, τ, n, fr⟩ o := by
  have V1 : ∀ {x : Opd}, (∀ i ∈ opdSlots x, i ∈ slots o) → x.val t = x.val t' := fun hx => Opd.val_congr fun i hi => h i (hx i hi)
  cases o <;> simp only [evalOp]
  case build z parts => rw [fillV_congr (t := t) (t' := t') (by simpa [slots] using h)]; rfl
  case bslice k z len parts ob => rw [fillR_congr (t := t) (t' := t') (by simpa [slots] using h)]; rfl
  case call f args => rw [args_congr (t := t) (t' := t') (by simpa [slots] using h), any_congr (t := t) (t' := t') (by simpa [slots] using h)]; have := hic f (args.map (·.val t')) ⟨t', s, τ, n, fr⟩ t; simp only at this; rw [this]; rfl
  case clone f args ob => rw [args_congr (t := t) (t' := t') (by simpa [slots] using h), any_congr (t := t) (t' := t') (by simpa [slots] using h)]; rfl
  case calli f args => rw [args_congr (t := t) (t' := t') (by simpa [slots] using h), any_congr (t := t) (t' := t') (by simpa [slots] using h)]
  case callc f args => rw [args_congr (t := t) (t' := t') (by simpa [slots] using h)]
  case mkf f caps => rw [args_congr (t := t) (t' := t') (by simpa [slots] using h)]; rfl
  case callv x args =>
    rw [args_congr (t := t) (t' := t') (fun i hi => h i (by simp only [slots, List.mem_append]; exact .inr hi)), V1 (x := x) (by simp only [slots, List.mem_append]; exact fun _ h => .inl h)]
    have : ∀ f vs, ic f vs ⟨t, s, τ, n, fr⟩ = ic f vs ⟨t', s, τ, n, fr⟩ := fun f vs => hic f vs ⟨t', s, τ, n, fr⟩ t
    simp only [this]
    rfl
  case slc k x lo hi =>
    rw [V1 (x := x) (by simp only [slots, List.mem_append]; exact fun _ h => .inl (.inl h))]
    have hb : ∀ d q, bound t lo d q = bound t' lo d q := fun d q => bound_congr fun i hi => h i (by simp only [slots, List.mem_append]; exact .inl (.inr hi))
    have hc : ∀ d q, bound t hi d q = bound t' hi d q := fun d q => bound_congr fun i hi => h i (by simp only [slots, List.mem_append]; exact .inr hi)
    simp only [hb, hc]
    rfl
  case slcs x lo hi =>
    rw [V1 (x := x) (by simp only [slots, List.mem_append]; exact fun _ h => .inl (.inl h))]
    have hb : ∀ d q, bound t lo d q = bound t' lo d q := fun d q => bound_congr fun i hi => h i (by simp only [slots, List.mem_append]; exact .inl (.inr hi))
    have hc : ∀ d q, bound t hi d q = bound t' hi d q := fun d q => bound_congr fun i hi => h i (by simp only [slots, List.mem_append]; exact .inr hi)
    simp only [hb, hc]
    rfl
  case pick a b c =>
    rw [V1 (x := a) (by simp only [slots, List.mem_append]; exact fun _ h => .inl (.inl h)), V1 (x := b) (by simp only [slots, List.mem_append]; exact fun _ h => .inl (.inr h)), V1 (x := c) (by simp only [slots, List.mem_append]; exact fun _ h => .inr h)]
    rfl
  case entset a b c =>
    rw [V1 (x := a) (by simp only [slots, List.mem_append]; exact fun _ h => .inl (.inl h)), V1 (x := b) (by simp only [slots, List.mem_append]; exact fun _ h => .inl (.inr h)), V1 (x := c) (by simp only [slots, List.mem_append]; exact fun _ h => .inr h)]
  case mapset kk a b c =>
    rw [V1 (x := a) (by simp only [slots, List.mem_append]; exact fun _ h => .inl (.inl h)), V1 (x := b) (by simp only [slots, List.mem_append]; exact fun _ h => .inl (.inr h)), V1 (x := c) (by simp only [slots, List.mem_append]; exact fun _ h => .inr h)]
  all_goals first
    | rfl
    | (rename_i x; rw [V1 (x := x) (by simp only [slots]; exact fun _ h => h)]; first | done | rfl)
    | (rename_i x _; rw [V1 (x := x) (by simp only [slots]; exact fun _ h => h)]; first | done | rfl)
    | (rename_i x y; rw [V1 (x := x) (by simp only [slots, List.mem_append]; exact fun _ h => .inl h), V1 (x := y) (by simp only [slots, List.mem_append]; exact fun _ h => .inr h)]; first | done | rfl)
    | (rename_i x y _; rw [V1 (x := x) (by simp only [slots, List.mem_append]; exact fun _ h => .inl h), V1 (x := y) (by simp only [slots, List.mem_append]; exact fun _ h => .inr h)]; first | done | rfl)

section
variable {P : Program} {D : Base} {o : Oper} {a : Act} {st : St} {w : World} {f : Nat → Nat → Nat} {φ : Nat → Option (Nat × Nat)} {C : Cfg} {ic : Nat → List V → St → Option Res} {pol : Pol}

theorem wanted_ok {c : Ctx} {N : Nat} {ops : Array Oper} {g : Option (Nat × Bool)} {b : Bool} {t : Nat → V} (ht : ∀ i, RV c (a.tmps.getD i undef) (t i)) (hc : compGuard ops o.guard = some g) (hg : ∀ d q, g = some (d, q) → d < a.tmps.size) (hw : wantedT t g = some b) : Region.wanted o (yielded ops a.tmps) = b := by
  unfold Region.wanted
  cases hog : o.guard with
  | none =>
    rw [hog] at hc
    simp only [compGuard, Option.some.injEq] at hc
    subst hc
    simp only [wantedT, Option.some.injEq] at hw
    exact hw
  | some jq =>
    obtain ⟨j, q⟩ := jq
    rw [hog] at hc
    simp only [compGuard, Option.map_eq_some_iff] at hc
    obtain ⟨d, hd, rfl⟩ := hc
    have hlt := hg d q rfl
    have hr := ht d
    simp only [wantedT] at hw
    simp only [yielded, hd, Option.bind_some]
    have he : a.tmps[d]? = some (a.tmps.getD d undef) := by simp [Array.getD, hlt]
    rw [he]
    split at hw
    · rename_i u hu
      rw [hu] at hr
      rw [(hr.lit_inv).1]
      simp only [Option.some.injEq] at hw
      subst hw
      cases u <;> cases q <;> rfl
    · rename_i hu
      rw [hu] at hr
      simp only [Option.some.injEq] at hw
      subst hw
      generalize a.tmps.getD d undef = y at hr ⊢
      cases hr
      rfl
    · simp at hw

/-- One operation, as the interpreter steps over it. -/
theorem step_ok {ro : Option Nat} (hC : CfgOk P C) (hic : IcOk P D ic) (hR : Rel D st.s st.τ st.n w f φ) (hS : ∀ b o, D.S b o → b < D.B) (ht : ∀ i, RV (Ctx.of D st.s st.τ st.n w f φ) (a.tmps.getD i undef) (st.t i)) {N : Nat} {ops : Array Oper}
    {i : Nat} (hi : ops[i]? = some o) (hN : a.tmps.size = N) {to : TO} (hc : compOper P pol N ops o to.free = some to) (hd : ∀ o' ∈ ops.toList, ∀ d, o'.dst = some d → d < N) (hfree : to.free = true → effect C to.o = false) {s0 : Sto} (hs0 : to.free = true → SubS s0 st.s) {r : Res} (he : stepOp C ic s0 to st = some r)
    {Q : Exit → Act → World → Prop} {K : Act → World → Prop} (hK : ∀ x w' f' φ', Rel D r.s r.τ r.n w' f' φ' → (Ctx.of D st.s st.τ st.n w f φ).le (Ctx.of D r.s r.τ r.n w' f' φ') → RV (Ctx.of D r.s r.τ r.n w' f' φ') x r.v → K (a.put o.dst x) w') :
    wpOpIn (Fr ro) 0 P ops Q i K a w := by
  simp only [compOper, Option.bind_eq_some_iff] at hc
  obtain ⟨g, hg, hc⟩ := hc
  obtain ⟨t, ht0⟩ : ∃ t, t = (compOp P pol (o.dst.getD 0) o.op).getD .fail := ⟨_, rfl⟩
  rw [← ht0] at hc
  have hto : to.d = o.dst ∧ to.g = g ∧ to.o = t := by
    split at hc
    · rename_i d hd'
      split at hc
      · injection hc with hc; rw [← hc]; exact ⟨hd'.symm, rfl, rfl⟩
      · simp at hc
    · rename_i hd'; injection hc with hc; rw [← hc]; exact ⟨hd'.symm, rfl, rfl⟩
  obtain ⟨e1, e2, e3⟩ := hto
  have hgd : ∀ d q, g = some (d, q) → d < a.tmps.size := by
    intro d q hq
    subst hq
    unfold compGuard at hg
    split at hg
    · simp at hg
    · rename_i j b _
      simp only [Option.map_eq_some_iff, Prod.mk.injEq, Option.some.injEq, Option.bind_eq_some_iff] at hg
      obtain ⟨d', ⟨o', ho', hd'⟩, rfl, _⟩ := hg
      rw [hN]
      exact hd o' (by rw [Array.getElem?_eq_some_iff] at ho'; obtain ⟨_, rfl⟩ := ho'; simp) _ hd'
  unfold wpOpIn
  rw [hi]
  simp only []
  simp only [stepOp] at he
  split at he
  · rename_i hw
    rw [e2] at hw
    rw [wanted_ok (N := N) ht hg hgd hw]
    simp only [if_true]
    have he' : evalOp C ic (o.dst.getD 0) st t = some r := by
      split at he
      · rename_i hf
        simp only [Option.map_eq_some_iff] at he
        obtain ⟨r0, h0, rfl⟩ := he
        have := evalOp_mono (s' := st.s) (hfree hf) h0 (hs0 hf) st.τ st.n
        rw [e1, e3] at this
        exact this
      · rw [e1, e3] at he; exact he
    cases htop : compOp P pol (o.dst.getD 0) o.op with
    | some t' =>
      rw [htop] at ht0
      simp only [Option.getD_some] at ht0
      subst ht0
      exact wp_fr (fun c hc => by rw [hc] at htop; simp [compOp] at htop) (compOp_ok hC hic hR hS ht htop he' K Q hK)
    | none =>
      rw [htop] at ht0
      simp only [Option.getD_none] at ht0
      subst ht0
      simp [evalOp] at he'
  · rename_i hw
    rw [e2] at hw
    rw [wanted_ok (N := N) ht hg hgd hw]
    simp only [Bool.false_eq_true, if_false]
    injection he with he
    subst he
    exact ⟨fun _ _ => trivial, hK undef w f φ hR (Ctx.le.refl _) .udef⟩
  · simp at he
end

/-- The temporaries of a function's call, as the interpreter has them. -/
structure Good (D : Base) (B0 N : Nat) (st : St) (a : Act) (w : World) (f : Nat → Nat → Nat) (φ : Nat → Option (Nat × Nat)) : Prop where
  rel : Rel D st.s st.τ st.n w f φ
  t : ∀ i, RV (Ctx.of D st.s st.τ st.n w f φ) (a.tmps.getD i undef) (st.t i)
  size : a.tmps.size = N
  defers : Marks B0 w a.defers

theorem put_tmps {a : Act} {N : Nat} (hN : a.tmps.size = N) {dst : Option Nat} (hd : ∀ d, dst = some d → d < N) {c c' : Ctx} (hle : c.le c') {t : Nat → V} (ht : ∀ i, RV c (a.tmps.getD i undef) (t i)) {x : Value} {v : V} (hx : RV c' x v) :
    (∀ i, RV c' ((a.put dst x).tmps.getD i undef) ((match dst with | some i => upd t i v | none => t) i)) ∧ (a.put dst x).tmps.size = N ∧ (a.put dst x).defers = a.defers := by
  cases dst with
  | none => exact ⟨fun i => (ht i).mono hle, hN, rfl⟩
  | some d =>
    refine ⟨fun i => ?_, by simpa [Act.put] using hN, rfl⟩
    have hlt : d < a.tmps.size := by rw [hN]; exact hd d rfl
    by_cases e : i = d
    · subst e
      simp only [Act.put, upd_self]
      have : (a.tmps.setIfInBounds i x).getD i undef = x := by simp [Array.getD, hlt]
      rw [this]
      exact hx
    · simp only [Act.put, upd_ne _ _ e]
      have : (a.tmps.setIfInBounds d x).getD i undef = a.tmps.getD i undef := by
        simp only [Array.getD_eq_getD_getElem?]
        rw [Array.getElem?_setIfInBounds_ne (fun h => e h.symm)]
      rw [this]
      exact (ht i).mono hle

section
variable {P : Program} {D : Base} {C : Cfg} {ic : Nat → List V → St → Option Res} {pol : Pol}

theorem compOper_dst {N : Nat} {ops : Array Oper} {o : Oper} {fr : Bool} {to : TO} (hc : compOper P pol N ops o fr = some to) : to.d = o.dst ∧ to.free = fr ∧ ∀ d, o.dst = some d → d < N := by
  simp only [compOper, Option.bind_eq_some_iff] at hc
  obtain ⟨g, hg, hc⟩ := hc
  split at hc
  · rename_i d hd
    split at hc
    · rename_i hlt
      injection hc with hc
      subst hc
      exact ⟨hd.symm, rfl, fun d' h => by rw [hd] at h; injection h with h; exact h ▸ hlt⟩
    · simp at hc
  · rename_i hd
    injection hc with hc
    subst hc
    exact ⟨hd.symm, rfl, fun d' h => by rw [hd] at h; simp at h⟩

theorem reg_ok {ro : Option Nat} {B0 : Nat} (hC : CfgOk P C) (hic : IcOk P D ic) (hS : ∀ b o, D.S b o → b < D.B) {N : Nat} {ops : Array Oper} (hd : ∀ o' ∈ ops.toList, ∀ d, o'.dst = some d → d < N) {Q : Exit → Act → World → Prop} :
    ∀ (tos : List TO) (k : Nat) (st st' : St) (a : Act) (w : World) (f : Nat → Nat → Nat) (φ : Nat → Option (Nat × Nat)), Good D B0 N st a w f φ → k + tos.length = ops.size →
      (∀ (j : Nat) (o : Oper) (to : TO), ops[k + j]? = some o → tos[j]? = some to → compOper P pol N ops o to.free = some to ∧ to.free = false) → evalOps C ic tos st = some st' →
      (∀ a' w' f' φ', Good D B0 N st' a' w' f' φ' → (Ctx.of D st.s st.τ st.n w f φ).le (Ctx.of D st'.s st'.τ st'.n w' f' φ') → Q .normal a' w') →
      wpOpsIn (Fr ro) 0 P ops Q (List.range' k tos.length) a w := by
  intro tos
  induction tos with
  | nil =>
    intro k st st' a w f φ hG hk hcmp he hQ
    simp only [evalOps, Option.some.injEq] at he
    subst he
    exact hQ a w f φ hG (Ctx.le.refl _)
  | cons to tos ih =>
    intro k st st' a w f φ hG hk hcmp he hQ
    simp only [List.length_cons] at hk
    simp only [List.length_cons, List.range'_succ]
    rw [wpOpsIn_cons]
    have hlt : k < ops.size := by omega
    have hi : ops[k]? = some ops[k] := Array.getElem?_eq_getElem hlt
    obtain ⟨hc, hfr⟩ := hcmp 0 ops[k] to (by simp) rfl
    simp only [evalOps] at he
    split at he
    · rename_i r hr
      obtain ⟨e1, _, e3⟩ := compOper_dst hc
      refine step_ok hC hic hG.rel hS hG.t hi hG.size hc hd (fun h => by rw [hfr] at h; simp at h) (fun h => by rw [hfr] at h; simp at h) hr fun x w' f' φ' hR' hle hx => ?_
      obtain ⟨h1, h2, h3⟩ := put_tmps hG.size e3 hle hG.t hx
      refine ih (k + 1) (st.put to.d r) st' _ w' f' φ' ⟨hR', ?_, h2, by rw [h3]; exact hG.defers.mono hle⟩ (by omega) (fun j o to' ho ht => hcmp (j + 1) o to' (by rw [← ho]; congr 1; omega) (by simpa using ht)) he fun a' w'' f'' φ'' hG' hle' => hQ a' w'' f'' φ'' hG' (hle.trans hle')
      intro i
      have := h1 i
      simp only [St.put, e1]
      exact this
    · simp at he
end
end Go.TI
end

/- A region whose order is open does what the text's order does. -/
section
set_option linter.unusedVariables false
set_option linter.unusedSimpArgs false
namespace Go.TI
open Go Go.RowKit

def sig (C : Cfg) (ic : Nat → List V → St → Option Res) (s0 : Sto) : List TO → St → Nat → St
  | _, st, 0 => st
  | [], st, _ + 1 => st
  | o :: os, st, k + 1 => match stepOp C ic s0 o st with
    | some r => sig C ic s0 os (st.put o.d r) k
    | none => st

section
variable {C : Cfg} {ic : Nat → List V → St → Option Res} {s0 : Sto}

theorem sig_step : ∀ {tos : List TO} {st stN : St} {k : Nat} {o : TO}, evalOpsD C ic s0 tos st = some stN → tos[k]? = some o →
    ∃ r, stepOp C ic s0 o (sig C ic s0 tos st k) = some r ∧ sig C ic s0 tos st (k + 1) = (sig C ic s0 tos st k).put o.d r ∧ (allocs o.o = true → (sig C ic s0 tos st k).s (sig C ic s0 tos st k).fr (o.d.getD 0) = none) := by
  intro tos
  induction tos with
  | nil => intro st stN k o _ h; simp at h
  | cons x tos ih =>
    intro st stN k o he h
    simp only [evalOpsD] at he
    split at he
    · simp at he
    · rename_i hchk
      split at he
      · rename_i r hr
        cases k with
        | zero =>
          simp only [List.getElem?_cons_zero, Option.some.injEq] at h
          subst h
          refine ⟨r, hr, by simp [sig, hr], fun ha => ?_⟩
          rw [ha] at hchk
          simpa [sig] using hchk
        | succ k =>
          obtain ⟨r', h1, h2, h3⟩ := ih he (by simpa using h)
          refine ⟨r', by simpa [sig, hr] using h1, by simpa [sig, hr] using h2, by simpa [sig, hr] using h3⟩
      · simp at he

theorem sig_end : ∀ {tos : List TO} {st stN : St}, evalOpsD C ic s0 tos st = some stN → sig C ic s0 tos st tos.length = stN := by
  intro tos
  induction tos with
  | nil => intro st stN he; simpa [sig, evalOpsD] using he
  | cons x tos ih =>
    intro st stN he
    simp only [evalOpsD] at he
    split at he
    · simp at he
    · split at he
      · rename_i r hr
        simpa [sig, hr] using ih he
      · simp at he

theorem sig_fr : ∀ {tos : List TO} {st : St} {k : Nat}, (sig C ic s0 tos st k).fr = st.fr := by
  intro tos
  induction tos with
  | nil => intro st k; cases k <;> rfl
  | cons x tos ih =>
    intro st k
    cases k with
    | zero => rfl
    | succ k =>
      simp only [sig]
      split
      · rw [ih]; rfl
      · rfl

theorem stepOp_quiet {o : TO} {st : St} {r : Res} (h : effect C o.o = false) (he : stepOp C ic s0 o st = some r) : r.s = st.s ∧ r.τ = st.τ ∧ r.n = st.n := by
  unfold stepOp at he
  split at he
  · split at he
    · simp only [Option.map_eq_some_iff] at he; obtain ⟨_, _, rfl⟩ := he; exact ⟨rfl, rfl, rfl⟩
    · exact evalOp_quiet h he
  · injection he with he; subst he; exact ⟨rfl, rfl, rfl⟩
  · simp at he
theorem stepOp_nostore {o : TO} {st : St} {r : Res} (h : adds o.o = false) (h' : writes C o.o = false) (he : stepOp C ic s0 o st = some r) : r.s = st.s := by
  unfold stepOp at he
  split at he
  · split at he
    · simp only [Option.map_eq_some_iff] at he; obtain ⟨_, _, rfl⟩ := he; rfl
    · exact evalOp_nostore h h' he
  · injection he with he; subst he; rfl
  · simp at he
theorem stepOp_sub {o : TO} {st : St} {r : Res} (h' : writes C o.o = false) (hn : allocs o.o = true → st.s st.fr (o.d.getD 0) = none) (he : stepOp C ic s0 o st = some r) : SubS st.s r.s := by
  cases ha : adds o.o with
  | false => rw [stepOp_nostore ha h' he]; exact SubS.refl _
  | true =>
    unfold stepOp at he
    split at he
    · split at he
      · simp only [Option.map_eq_some_iff] at he; obtain ⟨_, _, rfl⟩ := he; exact SubS.refl _
      · cases hal : allocs o.o with
        | true =>
          rcases evalOp_alloc hal h' he with e | ⟨p, e⟩
          · rw [e]; exact SubS.refl _
          · rw [e]
            intro fr sl q hq
            by_cases hx : fr = st.fr ∧ sl = o.d.getD 0
            · obtain ⟨rfl, rfl⟩ := hx; rw [hn hal] at hq; simp at hq
            · rw [upd2_ne _ _ hx]; exact hq
        | false =>
          cases hoo : o.o with
          | calli f args => rw [hoo] at he; exact evalOp_calli he
          | _ => rw [hoo] at ha hal; simp [adds, hal] at ha
    · injection he with he; subst he; exact SubS.refl _
    · simp at he

theorem wantedT_congr {t t' : Nat → V} {g : Option (Nat × Bool)} (h : ∀ d q, g = some (d, q) → t d = t' d) : wantedT t g = wantedT t' g := by
  cases g with
  | none => rfl
  | some p => obtain ⟨d, q⟩ := p; simp only [wantedT, h d q rfl]

theorem stepOp_slots (hic : IcT ic) {o : TO} {t t' : Nat → V} {s : Sto} {τ : Nat → Bool} {n fr : Nat} (h : ∀ i ∈ o.reads, t i = t' i) : stepOp C ic s0 o ⟨t, s, τ, n, fr⟩ = stepOp C ic s0 o ⟨t', s, τ, n, fr⟩ := by
  unfold stepOp
  rw [wantedT_congr (t := t) (t' := t') fun d q e => h d (by simp [TO.reads, e])]
  have h1 : ∀ s', evalOp C ic (o.d.getD 0) ⟨t, s', τ, n, fr⟩ o.o = evalOp C ic (o.d.getD 0) ⟨t', s', τ, n, fr⟩ o.o := fun s' => evalOp_slots hic fun i hi => h i (by simp only [TO.reads, List.mem_append]; exact .inl hi)
  simp only [h1]
  rfl

/-- What has no effect is done alike over another store, if it sees there what it saw. -/
theorem stepOp_mono {o : TO} {st : St} {r : Res} (h : effect C o.o = false) (he : stepOp C ic s0 o st = some r) {s' : Sto} (hs : looks o.o = true → o.free = false → SubS st.s s') (τ' : Nat → Bool) (n' : Nat) :
    stepOp C ic s0 o ⟨st.t, s', τ', n', st.fr⟩ = some ⟨r.v, s', τ', n'⟩ := by
  unfold stepOp at he ⊢
  simp only at he ⊢
  split at he
  · rename_i hw
    try simp only [hw]
    split at he
    · rename_i hf
      simp only [Option.map_eq_some_iff] at he
      obtain ⟨r0, h0, rfl⟩ := he
      rw [if_pos hf]
      have := evalOp_mono (s' := s0) h h0 (SubS.refl _) τ' n'
      simp only at this
      rw [this]
      rfl
    · rename_i hf
      rw [if_neg hf]
      cases hl : looks o.o with
      | true => exact evalOp_mono h he (hs hl (by simpa using hf)) τ' n'
      | false => exact evalOp_blind h hl he τ' n'
  · rename_i hw
    injection he with he
    subst he
    try simp only [hw]
    rfl
  · simp at he

/-! ### what the check says -/
structure Pairs (C : Cfg) (tos : List TO) (ops : Array Oper) : Prop where
  len : tos.length = ops.size
  after : ∀ (i : Nat) (o : Oper), ops[i]? = some o → ∀ e ∈ o.after, Region.binds .any e = true → e.on < i
  free : ∀ o ∈ tos, o.free = true → effect C o.o = false
  dst : ∀ (i j : Nat) (x y : TO) (d : Nat), i ≠ j → tos[i]? = some x → tos[j]? = some y → x.d = some d → y.d ≠ some d
  reads : ∀ (i j : Nat) (x y : TO) (d : Nat), i ≠ j → tos[i]? = some x → tos[j]? = some y → x.d = some d → d ∈ y.reads → if i < j then isAnc (masks ops) i j = true else isAnc (masks ops) j i = true
  eff : ∀ (i j : Nat) (x y : TO), i ≠ j → tos[i]? = some x → tos[j]? = some y → effect C x.o = true → effect C y.o = true → if i < j then isAnc (masks ops) i j = true else isAnc (masks ops) j i = true
  look : ∀ (i j : Nat) (x y : TO), i ≠ j → tos[i]? = some x → tos[j]? = some y → looks y.o = true → y.free = false → (adds x.o = true ∨ writes C x.o = true) → (if i < j then isAnc (masks ops) i j = true else isAnc (masks ops) j i = true) ∨ (j < i ∧ writes C x.o = false)
  lookF : ∀ (i j : Nat) (x y : TO), i ≠ j → tos[i]? = some x → tos[j]? = some y → y.free = true → writes C x.o = true → j < i ∧ isAnc (masks ops) j i = true

theorem masksGo_len : ∀ (os : List Oper) (acc : List Nat), (masksGo os acc).length = acc.length + os.length := by
  intro os
  induction os with
  | nil => intro acc; rfl
  | cons o os ih => intro acc; simp only [masksGo, ih]; simp; omega
theorem masksGo_keep : ∀ (os : List Oper) (acc : List Nat) (k : Nat), k < acc.length → (masksGo os acc)[k]? = acc[k]? := by
  intro os
  induction os with
  | nil => intro acc k _; rfl
  | cons o os ih =>
    intro acc k hk
    simp only [masksGo]
    rw [ih _ k (by simp; omega), List.getElem?_append_left hk]
theorem maskOf_bit {acc : List Nat} : ∀ (es : List Edge) (e : Edge), e ∈ es → Region.binds .any e = true → (maskOf acc es).testBit e.on = true := by
  intro es
  induction es with
  | nil => intro e h; simp at h
  | cons x es ih =>
    intro e he hb
    simp only [maskOf]
    rcases List.mem_cons.1 he with rfl | he
    · rw [if_pos hb]
      simp [Nat.testBit_or, Nat.testBit_two_pow]
    · split
      · simp [Nat.testBit_or, ih e he hb]
      · exact ih e he hb
theorem masksGo_bit : ∀ (os : List Oper) (acc : List Nat) (k : Nat) (o : Oper) (e : Edge), os[k]? = some o → e ∈ o.after → Region.binds .any e = true → ((masksGo os acc).getD (acc.length + k) 0).testBit e.on = true := by
  intro os
  induction os with
  | nil => intro acc k o e h; simp at h
  | cons x os ih =>
    intro acc k o e h he hb
    simp only [masksGo]
    cases k with
    | zero =>
      simp only [List.getElem?_cons_zero, Option.some.injEq] at h
      subst h
      have := masksGo_keep os (acc ++ [maskOf acc x.after.toList]) acc.length (by simp)
      simp only [Nat.add_zero, List.getD, this]
      simp only [List.getElem?_append_right (Nat.le_refl _), Nat.sub_self, List.getElem?_cons_zero, Option.getD_some]
      exact maskOf_bit _ e (by simpa using he) hb
    | succ k =>
      have := ih (acc ++ [maskOf acc x.after.toList]) k o e (by simpa using h) he hb
      simp only [List.length_append, List.length_singleton] at this
      rw [show acc.length + (k + 1) = acc.length + 1 + k by omega]
      exact this

theorem Pairs.of {tos : List TO} {ops : Array Oper} (h : drawOk C tos (masks ops) = true) : Pairs C tos ops := by
  simp only [drawOk, Bool.and_eq_true, beq_iff_eq] at h
  obtain ⟨⟨⟨h1, h2⟩, h3⟩, h4⟩ := h
  have hml : (masks ops).length = ops.size := by simp [masks, masksGo_len]
  rw [hml] at h1
  have key : ∀ (i j : Nat) (x y : TO), i ≠ j → tos[i]? = some x → tos[j]? = some y →
      ((x.d.isNone || x.d != y.d) = true ∧ ((match x.d with | some d => !y.reads.contains d || (if i < j then isAnc (masks ops) i j else isAnc (masks ops) j i) | none => true) = true) ∧
      ((!(effect C x.o && effect C y.o) || (if i < j then isAnc (masks ops) i j else isAnc (masks ops) j i)) = true) ∧
      ((!(looks y.o && !y.free && (adds x.o || writes C x.o)) || (if i < j then isAnc (masks ops) i j else isAnc (masks ops) j i) || (decide (i > j) && !writes C x.o)) = true) ∧ ((!(y.free && writes C x.o) || (decide (i > j) && (if i < j then isAnc (masks ops) i j else isAnc (masks ops) j i))) = true)) := by
    intro i j x y hne hx hy
    have hi : i < tos.length := (List.getElem?_eq_some_iff.1 hx).1
    have hj : j < tos.length := (List.getElem?_eq_some_iff.1 hy).1
    simp only [pairsOk, List.all_eq_true, List.mem_range] at h4
    have h5 := h4 i hi j hj
    rw [hx, hy] at h5
    simp only [Bool.or_eq_true, beq_iff_eq] at h5
    rcases h5 with h5 | h5
    · exact absurd h5 hne
    · simp only [Bool.and_eq_true, Bool.or_eq_true] at h5 ⊢
      obtain ⟨⟨⟨⟨a1, a2⟩, a3⟩, a4⟩, a5⟩ := h5
      exact ⟨a1, a2, a3, a4, a5⟩
  have ah : ∀ {i j : Nat}, (if i < j then isAnc (masks ops) i j else isAnc (masks ops) j i) = true → if i < j then isAnc (masks ops) i j = true else isAnc (masks ops) j i = true := by
    intro i j h
    split at h <;> rename_i hlt
    · rw [if_pos hlt]; exact h
    · rw [if_neg hlt]; exact h
  refine ⟨h1, fun i o ho e he hb => ?_, fun o ho hf => ?_, ?_, ?_, ?_, ?_, ?_⟩
  · simp only [List.all_eq_true, List.mem_range, hml] at h2
    have hi : i < ops.size := (Array.getElem?_eq_some_iff.1 ho).1
    have hlt := h2 i hi
    simp only [decide_eq_true_eq] at hlt
    have hbit := masksGo_bit ops.toList [] i o e (by simpa using ho) he hb
    simp only [List.length_nil, Nat.zero_add] at hbit
    have hbit' : ((masks ops).getD i 0).testBit e.on = true := hbit
    apply Nat.lt_of_not_le
    intro hge
    rw [Nat.testBit_lt_two_pow (Nat.lt_of_lt_of_le hlt (Nat.pow_le_pow_right (by decide) hge))] at hbit'
    simp at hbit'
  · simp only [List.all_eq_true] at h3
    have := h3 o ho
    rw [hf] at this
    simpa using this
  · intro i j x y d hne hx hy hd hyd
    have := (key i j x y hne hx hy).1
    rw [hd, hyd] at this
    simp at this
  · intro i j x y d hne hx hy hd hr
    have := (key i j x y hne hx hy).2.1
    rw [hd] at this
    simp only [Bool.or_eq_true, Bool.not_eq_true'] at this
    rcases this with h | h
    · simp [hr] at h
    · exact ah h
  · intro i j x y hne hx hy e1 e2
    have := (key i j x y hne hx hy).2.2.1
    rw [e1, e2] at this
    exact ah (by simpa using this)
  · intro i j x y hne hx hy hl hf hw
    have := (key i j x y hne hx hy).2.2.2.1
    have hw' : (adds x.o || writes C x.o) = true := by simpa using hw
    rw [hl, hf, hw'] at this
    simp only [Bool.not_false, Bool.and_self, Bool.not_true, Bool.false_or, Bool.or_eq_true, Bool.and_eq_true, decide_eq_true_eq, Bool.not_eq_true'] at this
    rcases this with h | h
    · exact .inl (ah h)
    · exact .inr h
  · intro i j x y hne hx hy hf hw
    have := (key i j x y hne hx hy).2.2.2.2
    rw [hf, hw] at this
    simp only [Bool.and_self, Bool.not_true, Bool.false_or, Bool.and_eq_true, decide_eq_true_eq] at this
    obtain ⟨q1, q2⟩ := this
    have := ah q2
    rw [if_neg (by omega)] at this
    exact ⟨q1, this⟩
end
end Go.TI
end

/- A region whose order is open does what the text's order does: the proof over all orders. -/
section
set_option linter.unusedVariables false
set_option linter.unusedSimpArgs false
namespace Go.TI
open Go Go.RowKit

theorem effect_of {C : Cfg} {o : TOp} (h : adds o = true ∨ writes C o = true) : effect C o = true := by
  rcases h with h | h
  · cases o <;> first
      | (simp [adds, allocs] at h; done)
      | (simp [effect]; done)
      | (simp only [adds] at h; simp [effect, h])
  · simp [effect, h]

inductive Dep (ops : Array Oper) : Nat → Nat → Prop where
  | one {i : Nat} {o : Oper} {e : Edge} : ops[i]? = some o → e ∈ o.after → Region.binds .any e = true → Dep ops i e.on
  | more {i j : Nat} {o : Oper} {e : Edge} : ops[i]? = some o → e ∈ o.after → Region.binds .any e = true → Dep ops e.on j → Dep ops i j

theorem dep_in {ops : Array Oper} {X : Nat → Prop} (hX : ∀ (k : Nat) (o : Oper), ops[k]? = some o → X k → ∀ e ∈ o.after, Region.binds .any e = true → X e.on) {i j : Nat} (h : Dep ops i j) :
    (∀ o, ops[i]? = some o → ∀ e ∈ o.after, Region.binds .any e = true → X e.on) → X j := by
  induction h with
  | one ho he hb => intro hd; exact hd _ ho _ he hb
  | more ho he hb _ ih => intro hd; exact ih fun o' ho' e' he' hb' => hX _ o' ho' (hd _ ho _ he hb) e' he' hb'

theorem maskOf_dep {ops : Array Oper} {acc : List Nat} (hacc : ∀ (k m : Nat), acc[k]? = some m → ∀ j, m.testBit j = true → Dep ops k j) {i : Nat} {o : Oper} (ho : ops[i]? = some o) :
    ∀ (es : List Edge), (∀ e ∈ es, e ∈ o.after) → ∀ j, (maskOf acc es).testBit j = true → Dep ops i j := by
  intro es
  induction es with
  | nil => intro _ j h; simp [maskOf] at h
  | cons e es ih =>
    intro hm j h
    simp only [maskOf] at h
    split at h
    · rename_i hb
      simp only [Nat.testBit_or, Bool.or_eq_true] at h
      rcases h with h | h | h
      · exact ih (fun e' he' => hm e' (List.mem_cons_of_mem _ he')) j h
      · rw [Nat.testBit_two_pow] at h
        have : e.on = j := by simpa using h
        subst this
        exact .one ho (hm e (by simp)) hb
      · cases hk : acc[e.on]? with
        | none => simp [List.getD, hk] at h
        | some m => exact .more ho (hm e (by simp)) hb (hacc e.on m hk j (by simpa [List.getD, hk] using h))
    · exact ih (fun e' he' => hm e' (List.mem_cons_of_mem _ he')) j h

theorem masksGo_dep {ops : Array Oper} : ∀ (os : List Oper) (acc : List Nat), (∀ (k : Nat) (o : Oper), os[k]? = some o → ops[acc.length + k]? = some o) → (∀ (k m : Nat), acc[k]? = some m → ∀ j, m.testBit j = true → Dep ops k j) →
    ∀ (k m : Nat), (masksGo os acc)[k]? = some m → ∀ j, m.testBit j = true → Dep ops k j := by
  intro os
  induction os with
  | nil => intro acc _ hacc; exact hacc
  | cons o os ih =>
    intro acc ho hacc
    simp only [masksGo]
    refine ih _ (fun k o' hk => ?_) fun k m hk j hj => ?_
    · have := ho (k + 1) o' (by simpa using hk)
      rw [← this]
      congr 1
      simp
      omega
    · rw [List.getElem?_append] at hk
      split at hk
      · exact hacc k m hk j hj
      · rename_i hge
        have hk0 : k = acc.length := by
          have := (List.getElem?_eq_some_iff.1 hk).1
          simp at this
          omega
        subst hk0
        simp at hk
        subst hk
        exact maskOf_dep hacc (by simpa using ho 0 o rfl) _ (fun e he => by simpa using he) j hj

theorem isAnc_dep {ops : Array Oper} {i j : Nat} (h : isAnc (masks ops) j i = true) : Dep ops i j := by
  unfold isAnc at h
  cases hk : (masks ops)[i]? with
  | none => simp [List.getD, hk] at h
  | some m => exact masksGo_dep ops.toList [] (fun k o hk => by simpa using hk) (by simp) i m hk j (by simpa [List.getD, hk] using h)

section
variable {P : Program} {D : Base} {C : Cfg} {ic : Nat → List V → St → Option Res} {pol : Pol} {tos : List TO} {ops : Array Oper} {σ : Nat → St} {s0 : Sto}

def Run (C : Cfg) (ic : Nat → List V → St → Option Res) (s0 : Sto) (tos : List TO) (σ : Nat → St) : Prop :=
  ∀ (k : Nat) (x : TO), tos[k]? = some x → ∃ r, stepOp C ic s0 x (σ k) = some r ∧ σ (k + 1) = (σ k).put x.d r ∧ (allocs x.o = true → (σ k).s (σ k).fr (x.d.getD 0) = none)

theorem run_ind (hσ : Run C ic s0 tos σ) {R : St → St → Prop} (hr : ∀ s, R s s) (ht : ∀ a b c, R a b → R b c → R a c) {p q : Nat} (hpq : p ≤ q) (hq : q ≤ tos.length)
    (h : ∀ (k : Nat) (x : TO) (r : Res), p ≤ k → k < q → tos[k]? = some x → stepOp C ic s0 x (σ k) = some r → (allocs x.o = true → (σ k).s (σ k).fr (x.d.getD 0) = none) → R (σ k) ((σ k).put x.d r)) : R (σ p) (σ q) := by
  induction q with
  | zero => rw [show p = 0 by omega]; exact hr _
  | succ q ih =>
    rcases Nat.lt_or_ge p (q + 1) with hlt | hge
    · have h1 := ih (by omega) (by omega) fun k x r hk1 hk2 => h k x r hk1 (by omega)
      have hx : tos[q]? = some tos[q] := List.getElem?_eq_getElem (by omega)
      obtain ⟨r, e1, e2, e3⟩ := hσ q _ hx
      refine ht _ _ _ h1 ?_
      rw [e2]
      exact h q _ r (by omega) (by omega) hx e1 e3
    · rw [show p = q + 1 by omega]; exact hr _

theorem run_t (hσ : Run C ic s0 tos σ) {p q d : Nat} (hpq : p ≤ q) (hq : q ≤ tos.length) (h : ∀ (k : Nat) (x : TO), p ≤ k → k < q → tos[k]? = some x → x.d ≠ some d) : (σ p).t d = (σ q).t d :=
  run_ind hσ (R := fun a b => a.t d = b.t d) (fun _ => rfl) (fun _ _ _ h k => h.trans k) hpq hq fun k x r h1 h2 hx _ _ => by
    have hne := h k x h1 h2 hx
    unfold St.put
    cases hd : x.d with
    | none => rfl
    | some e => exact (upd_ne _ _ (fun e' => hne (by rw [hd, e']))).symm
theorem run_store (hσ : Run C ic s0 tos σ) {p q : Nat} (hpq : p ≤ q) (hq : q ≤ tos.length) (h : ∀ (k : Nat) (x : TO), p ≤ k → k < q → tos[k]? = some x → effect C x.o = false) : (σ p).s = (σ q).s ∧ (σ p).τ = (σ q).τ ∧ (σ p).n = (σ q).n :=
  run_ind hσ (R := fun a b => a.s = b.s ∧ a.τ = b.τ ∧ a.n = b.n) (fun _ => ⟨rfl, rfl, rfl⟩) (fun _ _ _ h k => ⟨h.1.trans k.1, h.2.1.trans k.2.1, h.2.2.trans k.2.2⟩) hpq hq fun k x r h1 h2 hx he _ => by
    obtain ⟨e1, e2, e3⟩ := stepOp_quiet (h k x h1 h2 hx) he
    exact ⟨e1.symm, e2.symm, e3.symm⟩
theorem run_s (hσ : Run C ic s0 tos σ) {p q : Nat} (hpq : p ≤ q) (hq : q ≤ tos.length) (h : ∀ (k : Nat) (x : TO), p ≤ k → k < q → tos[k]? = some x → adds x.o = false ∧ writes C x.o = false) : (σ p).s = (σ q).s :=
  run_ind hσ (R := fun a b => a.s = b.s) (fun _ => rfl) (fun _ _ _ h k => h.trans k) hpq hq fun k x r h1 h2 hx he _ => (stepOp_nostore (h k x h1 h2 hx).1 (h k x h1 h2 hx).2 he).symm
theorem run_sub (hσ : Run C ic s0 tos σ) {p q : Nat} (hpq : p ≤ q) (hq : q ≤ tos.length) (h : ∀ (k : Nat) (x : TO), p ≤ k → k < q → tos[k]? = some x → writes C x.o = false) : SubS (σ p).s (σ q).s :=
  run_ind hσ (R := fun a b => SubS a.s b.s) (fun _ => SubS.refl _) (fun _ _ _ h k => h.trans k) hpq hq fun k x r h1 h2 hx he hn => stepOp_sub (h k x h1 h2 hx) hn he

def Xof (listed : Array Bool) (k : Nat) : Prop := listed.getD k false = true

/-- What holds behind any part of the operations. -/
structure DInv (D : Base) (C : Cfg) (B0 N fr : Nat) (c0 : Ctx) (tos : List TO) (ops : Array Oper) (σ : Nat → St) (listed : Array Bool) (a : Act) (w : World) (m : Nat) (t : Nat → V) (f : Nat → Nat → Nat) (φ : Nat → Option (Nat × Nat)) : Prop where
  size : listed.size = ops.size
  closed : ∀ (k : Nat) (o : Oper), ops[k]? = some o → Xof listed k → ∀ e ∈ o.after, Region.binds .any e = true → Xof listed e.on
  hm : m ≤ tos.length
  cut : ∀ (k : Nat) (x : TO), tos[k]? = some x → effect C x.o = true → (Xof listed k ↔ k < m)
  good : Good D B0 N ⟨t, (σ m).s, (σ m).τ, (σ m).n, fr⟩ a w f φ
  le : c0.le (Ctx.of D (σ m).s (σ m).τ (σ m).n w f φ)
  done : ∀ (k : Nat) (x : TO) (d : Nat), tos[k]? = some x → x.d = some d → Xof listed k → t d = (σ (k + 1)).t d
  open_ : ∀ (k : Nat) (x : TO) (d : Nat), tos[k]? = some x → x.d = some d → ¬ Xof listed k → t d = (σ 0).t d
  rest : ∀ d, (∀ (k : Nat) (x : TO), tos[k]? = some x → x.d ≠ some d) → t d = (σ 0).t d

theorem Xof_set {listed : Array Bool} {i k : Nat} (hi : i < listed.size) : Xof (listed.setIfInBounds i true) k ↔ k = i ∨ Xof listed k := by
  unfold Xof
  by_cases e : k = i
  · subst e
    simp [Array.getD, hi]
  · simp only [Array.getD_eq_getD_getElem?]
    rw [Array.getElem?_setIfInBounds_ne (fun h => e h.symm)]
    simp [e]

theorem dreg_any {ro : Option Nat} {B0 : Nat} (hC : CfgOk P C) (hic : IcOk P D ic) (hict : IcT ic) (hS : ∀ b o, D.S b o → b < D.B) {N fr : Nat} (hp : Pairs C tos ops) (hσ : Run C ic s0 tos σ) (h0s : s0 = (σ 0).s) (hfr : ∀ k, (σ k).fr = fr) {c0 : Ctx}
    (hd : ∀ o' ∈ ops.toList, ∀ d, o'.dst = some d → d < N) (hcmp : ∀ (j : Nat) (o : Oper) (to : TO), ops[j]? = some o → tos[j]? = some to → compOper P pol N ops o to.free = some to) {Q : Exit → Act → World → Prop}
    (hQ : ∀ a' w' f' φ', Good D B0 N (σ tos.length) a' w' f' φ' → c0.le (Ctx.of D (σ tos.length).s (σ tos.length).τ (σ tos.length).n w' f' φ') → Q .normal a' w') :
    ∀ (fuel : Nat) (listed : Array Bool) (a : Act) (w : World) (m : Nat) (t : Nat → V) (f : Nat → Nat → Nat) (φ : Nat → Option (Nat × Nat)), DInv D C B0 N fr c0 tos ops σ listed a w m t f φ → listed.toList.count false ≤ fuel → wpAnyIn (Fr ro) 0 P .any ops Q fuel listed a w := by
  -- all is done
  have fin : ∀ (listed : Array Bool) (a : Act) (w : World) (m : Nat) (t : Nat → V) (f : Nat → Nat → Nat) (φ : Nat → Option (Nat × Nat)), DInv D C B0 N fr c0 tos ops σ listed a w m t f φ → (∀ k, k < ops.size → Xof listed k) → Q .normal a w := by
    intro listed a w m t f φ hI hall
    obtain ⟨e1, e2, e3⟩ := run_store hσ hI.hm (Nat.le_refl _) fun k x h1 h2 hx => by
      cases he : effect C x.o with
      | false => rfl
      | true => have := (hI.cut k x hx he).1 (hall k (by rw [← hp.len]; exact h2)); omega
    have et : ∀ d, t d = (σ tos.length).t d := by
      intro d
      by_cases hw : ∃ (k : Nat) (x : TO), tos[k]? = some x ∧ x.d = some d
      · obtain ⟨k, x, hx, hxd⟩ := hw
        have hk : k < tos.length := (List.getElem?_eq_some_iff.1 hx).1
        rw [hI.done k x d hx hxd (hall k (by rw [← hp.len]; exact hk))]
        exact run_t hσ (by omega) (Nat.le_refl _) fun j y h1 h2 hy => hp.dst k j x y d (by omega) hx hy hxd
      · have hno : ∀ (k : Nat) (x : TO), tos[k]? = some x → x.d ≠ some d := fun k x hx hxd => hw ⟨k, x, hx, hxd⟩
        rw [hI.rest d hno]
        exact run_t hσ (Nat.zero_le _) (Nat.le_refl _) fun j y _ _ hy => hno j y hy
    have hG := hI.good
    have hle := hI.le
    rw [e1, e2, e3] at hG hle
    exact hQ a w f φ ⟨hG.rel, fun i => et i ▸ hG.t i, hG.size, hG.defers⟩ hle
  -- nothing is ready only when all is done
  have stuck : ∀ (listed : Array Bool), listed.size = ops.size → Region.ready .any ops listed = [] → ∀ k, k < ops.size → Xof listed k := by
    intro listed hsz hnil k
    induction k using Nat.strongRecOn with
    | ind k ih =>
      intro hk
      by_cases hx : Xof listed k
      · exact hx
      · exfalso
        have : k ∈ Region.ready .any ops listed := by
          simp only [Region.ready, List.mem_filter, List.mem_range]
          refine ⟨hk, ?_⟩
          have h1 : listed.getD k true = false := by
            unfold Xof at hx
            simp [Array.getD, hsz, hk] at hx ⊢
            exact hx
          rw [h1, Array.getElem?_eq_getElem hk]
          simp only [Bool.not_false, Bool.true_and, Option.map_some, Option.getD_some, Array.all_eq_true']
          intro e he
          cases hb : Region.binds .any e with
          | false => rfl
          | true =>
            have hlt := hp.after k _ (Array.getElem?_eq_getElem hk) e he hb
            simpa [Xof] using ih e.on hlt (by omega)
        rw [hnil] at this
        simp at this
  intro fuel
  induction fuel with
  | zero =>
    intro listed a w m t f φ hI hc
    have hall : ∀ k, k < ops.size → Xof listed k := by
      intro k hk
      unfold Xof
      have hk' : k < listed.size := by rw [hI.size]; exact hk
      have h0 : listed.toList.count false = 0 := by omega
      rw [List.count_eq_zero] at h0
      cases hv : listed.getD k false with
      | true => rfl
      | false =>
        exfalso
        apply h0
        simp only [Array.getD, hk', dif_pos] at hv
        rw [← show listed[k] = false from hv]
        simp
    refine ⟨?_, fin listed a w m t f φ hI hall⟩
    apply List.eq_nil_iff_forall_not_mem.2
    intro i hi
    simp only [Region.ready, List.mem_filter, List.mem_range, Bool.and_eq_true, Bool.not_eq_true'] at hi
    have := hall i hi.1
    have h2 := hi.2.1
    have hk' : i < listed.size := by rw [hI.size]; exact hi.1
    simp only [Xof, Array.getD, hk', dif_pos] at this h2
    have e : listed[i] = true := this
    have e' : listed[i] = false := h2
    rw [e] at e'
    simp at e'
  | succ fuel ih =>
    intro listed a w m t f φ hI hc
    refine ⟨fun hnil => fin listed a w m t f φ hI (stuck listed hI.size hnil), fun i hi => ?_⟩
    simp only [Region.ready, List.mem_filter, List.mem_range, Bool.and_eq_true, Bool.not_eq_true'] at hi
    obtain ⟨hlt, hnl, hdeps⟩ := hi
    have hil : i < listed.size := by rw [hI.size]; exact hlt
    have hio : ops[i]? = some ops[i] := Array.getElem?_eq_getElem hlt
    rw [hio] at hdeps
    simp only [Option.map_some, Option.getD_some, Array.all_eq_true', Bool.or_eq_true, Bool.not_eq_true'] at hdeps
    have hnX : ¬ Xof listed i := by
      simp only [Array.getD, hil, dif_pos] at hnl
      simp only [Xof, Array.getD, hil, dif_pos]
      intro h
      have e : listed[i] = true := h
      have e' : listed[i] = false := hnl
      rw [e] at e'
      simp at e'
    have hdep : ∀ e ∈ ops[i].after, Region.binds .any e = true → Xof listed e.on := fun e he hb => by
      rcases hdeps e he with h | h
      · rw [hb] at h; simp at h
      · exact h
    have hanc : ∀ j, isAnc (masks ops) j i = true → Xof listed j := fun j hj => dep_in hI.closed (isAnc_dep hj) fun o ho => by rw [hio] at ho; injection ho with ho; subst ho; exact hdep
    have hancX : ∀ k, Xof listed k → k < ops.size → ¬ isAnc (masks ops) i k = true := by
      intro k hk hks hmem
      exact hnX (dep_in hI.closed (isAnc_dep hmem) fun o ho => hI.closed k o ho hk)
    have hil' : i < tos.length := by rw [hp.len]; exact hlt
    have hx : tos[i]? = some tos[i] := List.getElem?_eq_getElem hil'
    obtain ⟨x, hxe⟩ : ∃ x, x = tos[i] := ⟨_, rfl⟩
    rw [← hxe] at hx
    obtain ⟨r, hr, hnext, halloc⟩ := hσ i x hx
    have ahead : ∀ {k : Nat} {y : TO}, tos[k]? = some y → k ≠ i → ∀ {b : Prop}, (if k < i then isAnc (masks ops) k i = true else isAnc (masks ops) i k = true) → (Xof listed k ↔ k < i) := by
      intro k y hy hne b h
      have hk : k < ops.size := by rw [← hp.len]; exact (List.getElem?_eq_some_iff.1 hy).1
      split at h
      · rename_i hki; exact ⟨fun _ => hki, fun _ => hanc k h⟩
      · rename_i hki; exact ⟨fun hX => absurd h (hancX k hX hk), fun hki' => absurd hki' hki⟩
    -- what it reads is as in the text's order
    have hreads : ∀ d ∈ x.reads, (σ i).t d = t d := by
      intro d hdr
      by_cases hw : ∃ (k : Nat) (y : TO), tos[k]? = some y ∧ y.d = some d
      · obtain ⟨k, y, hy, hyd⟩ := hw
        by_cases hki : k = i
        · subst hki
          rw [hI.open_ k y d hy hyd hnX]
          exact (run_t hσ (Nat.zero_le _) (Nat.le_of_lt hil') fun j z h1 h2 hz => hp.dst k j y z d (by omega) hy hz hyd).symm
        · have hA := ahead (b := True) hy hki (hp.reads k i y x d hki hy hx hyd hdr)
          by_cases hlt' : k < i
          · rw [hI.done k y d hy hyd (hA.2 hlt')]
            exact (run_t hσ (by omega) (Nat.le_of_lt hil') fun j z h1 h2 hz => hp.dst k j y z d (by omega) hy hz hyd).symm
          · rw [hI.open_ k y d hy hyd fun h => hlt' (hA.1 h)]
            exact (run_t hσ (Nat.zero_le _) (Nat.le_of_lt hil') fun j z h1 h2 hz => hp.dst k j y z d (by omega) hy hz hyd).symm
      · have hno : ∀ (k : Nat) (y : TO), tos[k]? = some y → y.d ≠ some d := fun k y hy hyd => hw ⟨k, y, hy, hyd⟩
        rw [hI.rest d hno]
        exact (run_t hσ (Nat.zero_le _) (Nat.le_of_lt hil') fun j z _ _ hz => hno j z hz).symm
    have hri : stepOp C ic s0 x ⟨t, (σ i).s, (σ i).τ, (σ i).n, fr⟩ = some r := by
      rw [← stepOp_slots hict (t := (σ i).t) hreads]
      have : (⟨(σ i).t, (σ i).s, (σ i).τ, (σ i).n, fr⟩ : St) = σ i := by rw [← hfr i]
      rw [this]
      exact hr
    -- the new state
    have main : ∃ m' r', m' ≤ tos.length ∧ stepOp C ic s0 x ⟨t, (σ m).s, (σ m).τ, (σ m).n, fr⟩ = some r' ∧ r'.v = r.v ∧ r'.s = (σ m').s ∧ r'.τ = (σ m').τ ∧ r'.n = (σ m').n ∧
        (∀ (k : Nat) (y : TO), tos[k]? = some y → effect C y.o = true → ((k = i ∨ Xof listed k) ↔ k < m')) := by
      cases he : effect C x.o with
      | true =>
        have hcut : ∀ (k : Nat) (y : TO), tos[k]? = some y → effect C y.o = true → k ≠ i → (Xof listed k ↔ k < i) := fun k y hy hey hki => ahead (b := True) hy hki (hp.eff k i y x hki hy hx hey he)
        have hst : (σ m).s = (σ i).s ∧ (σ m).τ = (σ i).τ ∧ (σ m).n = (σ i).n := by
          rcases Nat.le_total m i with hmi | him
          · exact run_store hσ hmi (Nat.le_of_lt hil') fun k y h1 h2 hy => by
              cases hey : effect C y.o with
              | false => rfl
              | true =>
                have a1 := (hcut k y hy hey (by omega)).2 h2
                have a2 := (hI.cut k y hy hey).1 a1
                omega
          · obtain ⟨b1, b2, b3⟩ := run_store hσ him hI.hm fun k y h1 h2 hy => by
              cases hey : effect C y.o with
              | false => rfl
              | true =>
                by_cases hki : k = i
                · subst hki
                  exact absurd ((hI.cut k y hy hey).2 h2) hnX
                · have a1 := (hI.cut k y hy hey).2 h2
                  have a2 := (hcut k y hy hey hki).1 a1
                  omega
            exact ⟨b1.symm, b2.symm, b3.symm⟩
        refine ⟨i + 1, r, hil', by rw [hst.1, hst.2.1, hst.2.2]; exact hri, rfl, by rw [hnext]; rfl, by rw [hnext]; rfl, by rw [hnext]; rfl, fun k y hy hey => ?_⟩
        by_cases hki : k = i
        · subst hki; simp
        · rw [hcut k y hy hey hki]
          omega
      | false =>
        refine ⟨m, ⟨r.v, (σ m).s, (σ m).τ, (σ m).n⟩, hI.hm, ?_, rfl, rfl, rfl, rfl, fun k y hy hey => ?_⟩
        · have hsub : looks x.o = true → x.free = false → SubS (σ i).s (σ m).s := by
            intro hl hf
            have hlk : ∀ (k : Nat) (y : TO), tos[k]? = some y → k ≠ i → (adds y.o = true ∨ writes C y.o = true) → (Xof listed k ↔ k < i) ∨ (i < k ∧ writes C y.o = false) := by
              intro k y hy hki hw
              rcases hp.look k i y x hki hy hx hl hf hw with h | h
              · exact .inl (ahead (b := True) hy hki h)
              · exact .inr h
            have efx : ∀ (y : TO), (adds y.o = true ∨ writes C y.o = true) → effect C y.o = true := fun y h => effect_of h
            rcases Nat.le_total i m with him | hmi
            · exact run_sub hσ him hI.hm fun k y h1 h2 hy => by
                cases hw : writes C y.o with
                | false => rfl
                | true =>
                  have hne : k ≠ i := by
                    rintro rfl
                    rw [hy] at hx
                    injection hx with hx
                    subst hx
                    rw [efx y (.inr hw)] at he
                    simp at he
                  rcases hlk k y hy hne (.inr hw) with h | h
                  · have a1 := (hI.cut k y hy (efx y (.inr hw))).2 h2
                    have a2 := h.1 a1
                    omega
                  · rw [hw] at h; simp at h
            · rw [run_s hσ hmi (Nat.le_of_lt hil') fun k y h1 h2 hy => ?_]
              · exact SubS.refl _
              · by_cases hw : adds y.o = true ∨ writes C y.o = true
                · exfalso
                  rcases hlk k y hy (by omega) hw with h | h
                  · have a1 := (hI.cut k y hy (efx y hw)).1 (h.2 h2)
                    omega
                  · omega
                · simp only [not_or, Bool.not_eq_true] at hw
                  exact hw
          exact stepOp_mono (st := ⟨t, (σ i).s, (σ i).τ, (σ i).n, fr⟩) he hri hsub (σ m).τ (σ m).n
        · constructor
          · rintro (rfl | h)
            · rw [hy] at hx
              injection hx with hx
              subst hx
              rw [hey] at he
              simp at he
            · exact (hI.cut k y hy hey).1 h
          · intro h; exact .inr ((hI.cut k y hy hey).2 h)
    obtain ⟨m', r', hm', hstep, hv, hs1, hs2, hs3, hcut'⟩ := main
    have hcm := hcmp i ops[i] x hio hx
    obtain ⟨e1, _, e3⟩ := compOper_dst hcm
    refine step_ok hC hic hI.good.rel hS hI.good.t hio hI.good.size hcm hd (hp.free x (List.mem_of_getElem? hx)) (fun hf => ?_) hstep fun y w' f' φ' hR' hle hyv => ?_
    · rw [h0s]
      exact run_sub hσ (Nat.zero_le _) hI.hm fun k y h1 h2 hy => by
        cases hw : writes C y.o with
        | false => rfl
        | true =>
          exfalso
          have hki : k ≠ i := by
            rintro rfl
            rw [hy] at hx
            injection hx with hx
            subst hx
            have := hp.free y (List.mem_of_getElem? hy) hf
            simp [effect, hw] at this
          have hX := (hI.cut k y hy (by simp [effect, hw])).2 h2
          exact hancX k hX (by rw [← hp.len]; exact (List.getElem?_eq_some_iff.1 hy).1) (hp.lookF k i y x hki hy hx hf hw).2
    obtain ⟨q1, q2, q3⟩ := put_tmps hI.good.size e3 hle hI.good.t hyv
    rw [hs1, hs2, hs3] at hR' hle q1
    -- the temporaries behind it
    obtain ⟨t', ht'⟩ : ∃ t' : Nat → V, t' = (match ops[i].dst with | some j => upd t j r'.v | none => t) := ⟨_, rfl⟩
    have q1' : ∀ j, RV (Ctx.of D (σ m').s (σ m').τ (σ m').n w' f' φ') ((a.put ops[i].dst y).tmps.getD j undef) (t' j) := by
      rw [ht']
      exact q1
    have own : ∀ d, x.d = some d → t' d = (σ (i + 1)).t d := by
      intro d hxd
      have hd' : ops[i].dst = some d := by rw [← e1]; exact hxd
      rw [ht', hd', hnext]
      simp only [upd_self, St.put, hxd, hv]
    have other : ∀ d, x.d ≠ some d → t' d = t d := by
      intro d hxd
      rw [ht']
      cases hd' : ops[i].dst with
      | none => rfl
      | some j => exact upd_ne _ _ (fun e => hxd (by rw [e1, hd', e]))
    refine ih (listed.setIfInBounds i true) _ w' m' t' f' φ' ⟨by simpa using hI.size, ?_, hm', ?_, ⟨hR', q1', q2, by rw [q3]; exact hI.good.defers.mono hle⟩, hI.le.trans hle, ?_, ?_, ?_⟩ ?_
    · intro k o ho hk e he hb
      rw [Xof_set hil] at hk ⊢
      rcases hk with rfl | hk
      · rw [hio] at ho
        injection ho with ho
        subst ho
        exact .inr (hdep e he hb)
      · exact .inr (hI.closed k o ho hk e he hb)
    · intro k y hy hey
      rw [Xof_set hil]
      exact hcut' k y hy hey
    · intro k y d hy hyd hk
      rw [Xof_set hil] at hk
      by_cases hki : k = i
      · subst hki
        rw [hy] at hx
        injection hx with hx
        subst hx
        exact own d hyd
      · rw [other d (hp.dst k i y x d hki hy hx hyd)]
        exact hI.done k y d hy hyd (hk.resolve_left hki)
    · intro k y d hy hyd hk
      rw [Xof_set hil] at hk
      simp only [not_or] at hk
      rw [other d (hp.dst k i y x d hk.1 hy hx hyd)]
      exact hI.open_ k y d hy hyd hk.2
    · intro d hno
      rw [other d (hno i x hx)]
      exact hI.rest d hno
    · have hfalse : listed.toList[i]? = some false := by
        have : listed[i] = false := by
          have h := hnX
          simp only [Xof, Array.getD, hil, dif_pos] at h
          cases hv : listed[i] with
          | true => exact absurd hv h
          | false => rfl
        simp [hil, this]
      have hil2 : i < listed.toList.length := by simpa using hil
      have hget : listed.toList[i] = false := by
        rw [List.getElem?_eq_getElem hil2] at hfalse
        injection hfalse
      rw [Array.toList_setIfInBounds, List.count_set hil2]
      have hpos : 0 < listed.toList.count false := List.count_pos_iff.2 (by rw [← hget]; exact List.getElem_mem hil2)
      simp [hget]
      simp at hc hpos
      omega
end
end Go.TI
end

/- What the interpreter does with a function's code, the program's machine does: the walk, once for all functions. -/
section
set_option linter.unusedVariables false
set_option linter.unusedSimpArgs false
namespace Go.TI
open Go Go.RowKit

def exOf : Ex → Exit
  | .normal => .normal
  | .exit id => .exit id
  | .ret => .ret

/-- The given texts are those of the program's functions. -/
def CodeOk (P : Program) (C : Cfg) : Prop := ∀ K F, C.code K = some F → hasBody P K = true ∧ chkTC C F.body = true ∧ ∃ pol, compF P C pol K = some F

section
variable {P : Program} {D : Base} {s : Sto} {τ : Nat → Bool} {n : Nat} {w : World} {f : Nat → Nat → Nat} {φ : Nat → Option (Nat × Nat)}

theorem Rel.bump (hR : Rel D s τ n w f φ) : Rel D s τ (n + 1) w f φ ∧ (Ctx.of D s τ n w f φ).le (Ctx.of D s τ (n + 1) w f φ) := by
  have hle : (Ctx.of D s τ n w f φ).le (Ctx.of D s τ (n + 1) w f φ) :=
    ⟨Nat.le_succ _, fun _ _ h => ⟨h, rfl⟩, fun _ _ _ _ h => h, fun _ _ _ _ _ h => h, fun _ _ _ h => h, fun _ arr _ _ h => ⟨arr, h, rfl⟩, fun _ _ h _ => h, Nat.le_refl _⟩
  refine ⟨⟨hR.below, hR.hB, fun fr sl g o h => ?_, hR.inj, fun g h => Nat.lt_succ_of_lt (hR.tn g h), hR.toks, hR.tinj⟩, hle⟩
  obtain ⟨h1, h2, h3, h4⟩ := hR.live fr sl g o h
  exact ⟨Nat.lt_succ_of_lt h1, h2, h3, h4.mono hle rfl⟩

theorem dropS_sub {fr : Nat} : ∀ {ops : List TO} {s : Sto} {fr' sl : Nat} {p : Nat × Ob}, dropS fr s ops fr' sl = some p → s fr' sl = some p := by
  intro ops
  induction ops with
  | nil => intro s fr' sl p h; exact h
  | cons o os ih =>
    intro s fr' sl p h
    cases ha : allocs o.o with
    | false => simp only [dropS, ha] at h; exact ih h
    | true =>
      cases hd : o.d with
      | none => simp only [dropS, ha, hd] at h; exact ih h
      | some d =>
        simp only [dropS, ha, hd] at h
        by_cases e : fr' = fr ∧ sl = d
        · obtain ⟨rfl, rfl⟩ := e; rw [upd2_self] at h; simp at h
        · rw [upd2_ne _ _ e] at h; exact ih h

theorem run_load (hR : Rel D s τ n w f φ) {T : TypeId} {x : Value} {t v : V} {g : Bool} {k : Nat} (hx : RV (Ctx.of D s τ n w f φ) x t) (ht : tinfo P T = some (g, k)) (h : loadV s g k t = some v) :
    ∃ z, (Instr.loadAt T x).run P w = .ok z w ∧ RV (Ctx.of D s τ n w f φ) z v ∧ ∃ b p, x = .pointer (some ⟨b, p, none⟩) := by
  have fin : ∀ {b p : Nat}, x = .pointer (some ⟨b, p, none⟩) → (∃ z, (Instr.loadAt T (.pointer (some ⟨b, p, none⟩))).run P w = .ok z w ∧ RV (Ctx.of D s τ n w f φ) z v) → ∃ z, (Instr.loadAt T x).run P w = .ok z w ∧ RV (Ctx.of D s τ n w f φ) z v ∧ ∃ b p, x = .pointer (some ⟨b, p, none⟩) := by
    rintro b p rfl ⟨z, hz, hv⟩
    exact ⟨z, hz, hv, b, p, rfl⟩
  unfold loadV at h
  split at h
  · rename_i fr sl gen off
    rw [Option.bind_eq_some_iff] at h
    obtain ⟨l, hl, hp⟩ := h
    have hs := getCells_some hl
    obtain ⟨arr, ty, h1, h2, h3⟩ := hR.cells hs
    cases hx with
    | ptr h4 h5 =>
      obtain ⟨rfl, rfl⟩ := h5 _ (Ctx.of_obj_live hs)
      refine fin rfl ?_
      have := load_part (P := P) (c := Ctx.of D s τ n w f φ) (b := f fr sl) (o := 0) (fun i => arr.getD i undef) (fun i t hi => ?_) ht hp
      · rw [Nat.zero_add] at this; exact this
      · have hlt : i < arr.size := by rw [h2]; exact (List.getElem?_eq_some_iff.1 hi).1
        have hai : arr[i]? = some (arr.getD i undef) := by simp [Array.getElem?_eq_getElem hlt, hlt]
        exact ⟨by rw [Nat.zero_add]; exact (cellAt_cells h1 i).trans hai, h3 i _ t hai hi⟩
  · rename_i fr sl gen rk idx off
    rw [Option.bind_eq_some_iff] at h
    obtain ⟨l, hl, hp⟩ := h
    rw [Option.bind_eq_some_iff] at hp
    obtain ⟨r, hr, hp⟩ := hp
    have hs := getRows_some hl
    obtain ⟨arr, ty, h1, h2, h3, h4⟩ := hR.rows hs
    cases hx with
    | rptr h5 h6 =>
      obtain ⟨rfl, rfl⟩ := h6 _ (Ctx.of_obj_live hs)
      refine fin rfl ?_
      refine load_part (P := P) (c := Ctx.of D s τ n w f φ) (b := f fr sl) (o := idx * rk) (fun i => arr.getD (idx * rk + i) undef) (fun i t hi => ?_) ht hp
      obtain ⟨y, hy, hv⟩ := h4 idx r i t hr hi
      have hlt : idx * rk + i < arr.size := (Array.getElem?_eq_some_iff.1 hy).1
      have hyd : arr.getD (idx * rk + i) undef = y := by simp [hlt, (Array.getElem?_eq_some_iff.1 hy).2]
      simp only [hyd]
      exact ⟨(cellAt_cells h1 _).trans hy, hv⟩
  · rename_i cs off
    cases hx with
    | vptr y h1 h2 => exact fin rfl (load_part y (fun i t hi => ⟨(h1 i t hi).2, h2 i t hi⟩) ht h)
  · simp at h

/-- A function's results. -/
theorem run_mapM_list {α : Type} {g : α → Sem Value} {h : α → Option V} {c : Ctx} : ∀ (l : List α) (vs : List V), mapO h l = some vs → (∀ r ∈ l, ∀ v, h r = some v → ∃ z, (g r).run P w = .ok z w ∧ RV c z v) →
    ∃ xs : List Value, (l.mapM g).run P w = .ok xs w ∧ xs.length = vs.length ∧ ∀ (i : Nat) (x : Value) (v : V), xs[i]? = some x → vs[i]? = some v → RV c x v := by
  intro l
  induction l with
  | nil => intro vs hm _; simp only [mapO, Option.some.injEq] at hm; subst hm; exact ⟨[], by simp, rfl, by simp⟩
  | cons a l ih =>
    intro vs hm hg
    simp only [mapO] at hm
    split at hm
    · rename_i v hv
      rw [Option.map_eq_some_iff] at hm
      obtain ⟨vs', hm', rfl⟩ := hm
      obtain ⟨z, hz, hzv⟩ := hg a (by simp) v hv
      obtain ⟨xs, h1, h2, h3⟩ := ih vs' hm' fun r hr => hg r (List.mem_cons_of_mem _ hr)
      refine ⟨z :: xs, by simp [List.mapM_cons, hz, h1], by simp [h2], fun i x u hx hu => ?_⟩
      cases i with
      | zero => simp at hx hu; subst hx hu; exact hzv
      | succ i => exact h3 i x u (by simpa using hx) (by simpa using hu)
    · simp at hm

def resG (tmps : Array Value) : ResultVar → Sem Value
  | .tmp t => pure (tmps.getD t undef)
  | .cell b t => do loadVar t (← asAddr (tmps.getD b undef))
theorem results_eq (fn : Func) (tmps : Array Value) : results fn tmps = (do let vs ← fn.results.mapM (resG tmps); pure (if h : vs.size = 1 then vs[0] else .tuple vs)) := rfl

theorem results_ok {B0 : Nat} {fn : Func} {N : Nat} {st : St} {a : Act} (hG : Good D B0 N st a w f φ) {rs : List RVar} (hc : mapO (compRes P) fn.results.toList = some rs) {v : V} (h : resultsV st rs = some v) :
    ∃ z, (results fn a.tmps).run P w = .ok z w ∧ RV (Ctx.of D st.s st.τ st.n w f φ) z v := by
  obtain ⟨g, hg⟩ : ∃ g : ResultVar → Sem Value, g = resG a.tmps := ⟨_, rfl⟩
  have one : ∀ (r : ResultVar) (q : RVar) (u : V), compRes P r = some q → resV st q = some u → ∃ z, (g r).run P w = .ok z w ∧ RV (Ctx.of D st.s st.τ st.n w f φ) z u := by
    intro r q u hq hu
    cases r with
    | tmp t =>
      simp only [compRes, Option.some.injEq] at hq
      subst hq
      simp only [resV, Option.some.injEq] at hu
      subst hu
      exact ⟨_, by rw [hg]; simp only [resG]; exact Sem.run_pure .., hG.t t⟩
    | cell t T =>
      simp only [compRes, Option.map_eq_some_iff] at hq
      obtain ⟨⟨gg, k⟩, hti, rfl⟩ := hq
      simp only [resV] at hu
      obtain ⟨z, hz, hzv, b, p, hbp⟩ := run_load (P := P) hG.rel (hG.t t) hti hu
      refine ⟨z, ?_, hzv⟩
      rw [hg]
      simp only [hbp, Instr.loadAt, Instr.sureAddr] at hz
      simp only [resG, hbp, asAddr]
      simpa using hz
  have key : ∀ (l : List ResultVar) (rs : List RVar) (vs : List V), mapO (compRes P) l = some rs → mapO (resV st) rs = some vs → ∃ xs : List Value, (l.mapM g).run P w = .ok xs w ∧ xs.length = vs.length ∧ ∀ (i : Nat) (x : Value) (v : V), xs[i]? = some x → vs[i]? = some v → RV (Ctx.of D st.s st.τ st.n w f φ) x v := by
    intro l rs vs h1 h2
    refine run_mapM_list (h := fun r => (compRes P r).bind (resV st)) l vs ?_ fun r _ v hv => ?_
    · induction l generalizing rs vs with
      | nil => simp only [mapO, Option.some.injEq] at h1; subst h1; simpa [mapO] using h2
      | cons r l ih =>
        simp only [mapO] at h1
        split at h1
        · rename_i q hq
          rw [Option.map_eq_some_iff] at h1
          obtain ⟨rs', h1', rfl⟩ := h1
          simp only [mapO] at h2
          split at h2
          · rename_i u hu
            rw [Option.map_eq_some_iff] at h2
            obtain ⟨vs', h2', rfl⟩ := h2
            simp [mapO, hq, hu, ih rs' vs' h1' h2']
          · simp at h2
        · simp at h1
    · rw [Option.bind_eq_some_iff] at hv
      obtain ⟨q, hq, hv⟩ := hv
      exact one r q v hq hv
  have hlen := (mapO_some hc).1
  have hrun : ∀ xs : List Value, (fn.results.toList.mapM g).run P w = .ok xs w → (results fn a.tmps).run P w = .ok (if h : xs.toArray.size = 1 then xs.toArray[0] else .tuple xs.toArray) w := by
    intro xs hxs
    rw [hg] at hxs
    rw [results_eq, Array.mapM_eq_mapM_toList, map_eq_pure_bind, Sem.run_bind, Sem.run_bind, hxs]
    simp
  by_cases h1 : ∃ r, rs = [r]
  · obtain ⟨r, rfl⟩ := h1
    simp only [resultsV] at h
    obtain ⟨xs, k1, k2, k3⟩ := key _ [r] [v] hc (by simp [mapO, h])
    obtain ⟨x, rfl⟩ := List.length_eq_one_iff.1 k2
    refine ⟨_, hrun _ k1, ?_⟩
    simpa using k3 0 x v rfl rfl
  · have h' : ∃ vs, mapO (resV st) rs = some vs ∧ v = .tup vs := by
      unfold resultsV at h
      split at h
      · exact absurd ⟨_, rfl⟩ h1
      · rw [Option.map_eq_some_iff] at h
        obtain ⟨vs, hvs, rfl⟩ := h
        exact ⟨vs, hvs, rfl⟩
    obtain ⟨vs, hvs, rfl⟩ := h'
    obtain ⟨xs, k1, k2, k3⟩ := key _ rs vs hc hvs
    refine ⟨_, hrun _ k1, ?_⟩
    have hne : xs.toArray.size ≠ 1 := by
      intro e
      apply h1
      have : rs.length = 1 := by rw [(mapO_some hvs).1, ← k2]; simpa using e
      exact List.length_eq_one_iff.1 this
    rw [dif_neg hne]
    exact .tup (by simpa using k2) fun i x t hx ht => k3 i x t (by simpa using hx) ht
end
end Go.TI
end
