/- A part of the proof of TopPackedBest: texts TiPoke to TiWp. -/
import Derived.Test.YtpnjgmfkndbllaaGreatDoorZ01
import Derived.RangeFuncNested
import Derived.Lib.Walk
import Derived.Lib.SliceRun
/- A region whose order is open and whose operations reach different objects does what the text's order does. -/
section
set_option linter.unusedVariables false
set_option linter.unusedSimpArgs false
namespace Go.TI
open Go Go.RowKit

section
variable {C : Cfg} {ic : Nat → List V → St → Option Res} {slot : Nat} {s s' : Sto}

theorem getCells_key {fr sl gen : Nat} (h : s' fr sl = s fr sl) : getCells s' fr sl gen = getCells s fr sl gen := by unfold getCells; rw [h]
theorem getRows_key {fr sl gen k : Nat} (h : s' fr sl = s fr sl) : getRows s' fr sl gen k = getRows s fr sl gen k := by unfold getRows; rw [h]
theorem getMap_key {fr sl gen : Nat} (h : s' fr sl = s fr sl) : getMap s' fr sl gen = getMap s fr sl gen := by unfold getMap; rw [h]

def Alike (v : V) (s s' : Sto) : Prop := ∀ k ∈ keys1 v, s' k.1 k.2 = s k.1 k.2

theorem Alike.one {v : V} {fr sl : Nat} (h : Alike v s s') (hk : keys1 v = [(fr, sl)]) : s' fr sl = s fr sl := h (fr, sl) (by rw [hk]; simp)

theorem loadV_key {v : V} (h : Alike v s s') {g : Bool} {k : Nat} : loadV s' g k v = loadV s g k v := by
  unfold loadV
  split
  · rw [getCells_key (h.one rfl)]
  · rw [getRows_key (h.one rfl)]
  · rfl
  · rfl
theorem lenV_key {v : V} (h : Alike v s s') {k : Nat} : lenV s' k v = lenV s k v := by
  unfold lenV
  split <;> first | rfl | skip
  rw [getMap_key (h.one rfl)]
theorem iaddrV_key {v : V} (h : Alike v s s') {k : Nat} {j : Int} : iaddrV s' k j v = iaddrV s k j v := by
  unfold iaddrV
  split
  · rfl
  · rw [getRows_key (h.one rfl)]
  · rfl
theorem mapEs_key {v : V} (h : Alike v s s') : mapEs s' v = mapEs s v := by
  unfold mapEs
  split
  · rfl
  · rfl
  · exact getMap_key (h.one rfl)
  · rfl
theorem rowsOf_key {v : V} (h : Alike v s s') {k : Nat} : rowsOf s' k v = rowsOf s k v := by
  unfold rowsOf
  split
  · rfl
  · rw [getRows_key (h.one rfl)]
  · rfl

/-- What a footprint says. -/
def Footed (st : St) (F : Foot) (r : Res) (s' : Sto) (τ' : Nat → Bool) (n' : Nat) (r' : Res) : Prop :=
  r'.v = r.v ∧ (∀ k ∈ F.w, r'.s k.1 k.2 = r.s k.1 k.2) ∧ (∀ a b, (a, b) ∉ F.w → r'.s a b = s' a b) ∧ (F.b = true → r'.τ = r.τ ∧ r'.n = r.n) ∧ (F.b = false → r'.τ = τ' ∧ r'.n = n')

theorem footed_look {st : St} {R : List (Nat × Nat)} {v : V} {τ' : Nat → Bool} {n' : Nat} : Footed st ⟨R, [], false⟩ (st.ok v) s' τ' n' ⟨v, s', τ', n'⟩ :=
  ⟨rfl, fun _ h => by simp at h, fun _ _ _ => rfl, fun h => by simp at h, fun _ => ⟨rfl, rfl⟩⟩

theorem footed_put {st : St} {v : V} {fr sl : Nat} {p : Option (Nat × Ob)} {τ' : Nat → Bool} {n' : Nat} : Footed st ⟨[], [(fr, sl)], false⟩ ⟨v, upd2 st.s fr sl p, st.τ, st.n⟩ s' τ' n' ⟨v, upd2 s' fr sl p, τ', n'⟩ := by
  refine ⟨rfl, fun k h => ?_, fun a b h => ?_, fun h => by simp at h, fun _ => ⟨rfl, rfl⟩⟩
  · simp only [List.mem_singleton] at h
    subst h
    simp only [upd2_self]
  · exact upd2_ne _ _ fun e => h (by simp [e.1, e.2])

theorem storeV_key {st : St} {v x : V} {k : Nat} {s1 : Sto} {τ' : Nat → Bool} {n' : Nat} (h : Alike v st.s s') (he : storeV st.s k x v = some s1) :
    ∃ s2, storeV s' k x v = some s2 ∧ Footed st ⟨[], keys1 v, false⟩ ⟨.udef, s1, st.τ, st.n⟩ s' τ' n' ⟨.udef, s2, τ', n'⟩ := by
  unfold storeV at he ⊢
  split at he
  · rename_i fr sl gen off
    rw [getCells_key (s := st.s) (h.one rfl)]
    rw [Option.bind_eq_some_iff] at he
    obtain ⟨l, hl, he⟩ := he
    split at he
    · rename_i hc
      injection he with he
      subst he
      refine ⟨upd2 s' fr sl (some (gen, .cells (putAt l off (cellsOf x)))), ?_, footed_put⟩
      rw [hl]
      simp only [Option.bind_some]
      rw [if_pos hc]
    · simp at he
  · rename_i fr sl gen rk idx off
    rw [getRows_key (s := st.s) (h.one rfl)]
    rw [Option.bind_eq_some_iff] at he
    obtain ⟨l, hl, he⟩ := he
    rw [Option.bind_eq_some_iff] at he
    obtain ⟨q, hq, he⟩ := he
    split at he
    · rename_i hc
      injection he with he
      subst he
      refine ⟨upd2 s' fr sl (some (gen, .rows rk (l.set idx (putAt q off (cellsOf x))))), ?_, footed_put⟩
      rw [hl]
      simp only [Option.bind_some]
      rw [hq]
      simp only [Option.bind_some]
      rw [if_pos hc]
    · simp at he
  · simp at he

theorem evalOp_foot {st : St} {o : TOp} {F : Foot} {r : Res} (h : foot C st.fr slot st.t o = some F) (he : evalOp C ic slot st o = some r) {τ' : Nat → Bool} {n' : Nat} (hs : ∀ k, k ∈ F.r ∨ k ∈ F.w → s' k.1 k.2 = st.s k.1 k.2) (hb : F.b = true → τ' = st.τ ∧ n' = st.n) :
    ∃ r', evalOp C ic slot ⟨st.t, s', τ', n', st.fr⟩ o = some r' ∧ Footed st F r s' τ' n' r' := by
  have blind : (if effect C o || looks o then (none : Option Foot) else some ⟨[], [], false⟩) = some F → ∃ r', evalOp C ic slot ⟨st.t, s', τ', n', st.fr⟩ o = some r' ∧ Footed st F r s' τ' n' r' := by
    intro h
    split at h
    · simp at h
    · rename_i hq
      simp only [Bool.or_eq_true, not_or, Bool.not_eq_true] at hq
      injection h with h
      subst h
      obtain ⟨q1, q2, q3⟩ := evalOp_quiet hq.1 he
      refine ⟨_, evalOp_blind hq.1 hq.2 he τ' n', rfl, fun k hk => by simp at hk, fun _ _ _ => rfl, fun hf => by simp at hf, fun _ => ⟨rfl, rfl⟩⟩
  cases o <;> simp only [foot] at h
  case load g k x =>
    injection h with h
    subst h
    simp only [evalOp, Option.map_eq_some_iff] at he ⊢
    obtain ⟨v, hv, rfl⟩ := he
    exact ⟨⟨v, s', τ', n'⟩, ⟨v, by rw [loadV_key (s := st.s) fun k hk => hs k (.inl hk)]; exact hv, rfl⟩, footed_look⟩
  case len kk x =>
    injection h with h
    subst h
    simp only [evalOp, Option.map_eq_some_iff] at he ⊢
    obtain ⟨v, hv, rfl⟩ := he
    exact ⟨⟨.lit (.int .i64 v), s', τ', n'⟩, ⟨v, by rw [lenV_key (s := st.s) fun k hk => hs k (.inl hk)]; exact hv, rfl⟩, footed_look⟩
  case iaddr k x i =>
    injection h with h
    subst h
    simp only [evalOp, Option.bind_eq_some_iff, Option.map_eq_some_iff] at he ⊢
    obtain ⟨j, hj, v, hv, rfl⟩ := he
    exact ⟨⟨v, s', τ', n'⟩, ⟨j, hj, v, by rw [iaddrV_key (s := st.s) fun k hk => hs k (.inl hk)]; exact hv, rfl⟩, footed_look⟩
  case look kk z m key ok =>
    injection h with h
    subst h
    simp only [evalOp, Option.bind_eq_some_iff] at he ⊢
    obtain ⟨es, hes, he⟩ := he
    rw [← mapEs_key (s := st.s) fun k hk => hs k (.inl hk)] at hes
    split at he
    · rename_i kv hkv
      split at he
      · rename_i hkk
        split at he
        · rename_i i v hf
          injection he with he
          subst he
          exact ⟨_, ⟨es, hes, by simp only [hkv, hkk, if_true, hf, St.ok]⟩, footed_look⟩
        · rename_i hf
          injection he with he
          subst he
          exact ⟨_, ⟨es, hes, by simp only [hkv, hkk, if_true, hf, St.ok]⟩, footed_look⟩
        · simp at he
      · simp at he
    · simp at he
  case store k a x =>
    injection h with h
    subst h
    simp only [evalOp, Option.map_eq_some_iff] at he ⊢
    obtain ⟨s1, h1, rfl⟩ := he
    obtain ⟨s2, h2, hF⟩ := storeV_key (τ' := τ') (n' := n') (fun k hk => hs k (.inr hk)) h1
    exact ⟨_, ⟨s2, h2, rfl⟩, hF⟩
  case mapset kk a key x =>
    injection h with h
    subst h
    simp only [evalOp] at he ⊢
    split at he
    · rename_i fr sl g kv hm hkv
      simp only [hm, hkv]
      split at he
      · rename_i hkk
        simp only [hkk, if_true]
        simp only [Option.bind_eq_some_iff, Option.map_eq_some_iff] at he ⊢
        obtain ⟨es, hes, es', hes', rfl⟩ := he
        rw [← getMap_key (s := st.s) (s' := s') (hs (fr, sl) (.inr (by simp [hm, keys1])))] at hes
        exact ⟨_, ⟨es, hes, es', hes', rfl⟩, by simp only [hm, keys1]; exact footed_put⟩
      · simp at he
    · simp at he
  case mapent kk z a key =>
    injection h with h
    subst h
    simp only [evalOp] at he ⊢
    split at he
    · rename_i fr sl g kv hm hkv
      simp only [hm, hkv]
      split at he
      · rename_i hkk
        simp only [hkk, if_true]
        simp only [Option.bind_eq_some_iff] at he ⊢
        obtain ⟨es, hes, he⟩ := he
        rw [← getMap_key (s := st.s) (s' := s') (hs (fr, sl) (.inr (by simp [hm, keys1])))] at hes
        split at he
        · rename_i i v hf
          injection he with he
          subst he
          exact ⟨_, ⟨es, hes, by simp only [hf]; rfl⟩, by simp only [hm, keys1]; exact footed_put⟩
        · rename_i hf
          injection he with he
          subst he
          exact ⟨_, ⟨es, hes, by simp only [hf]; rfl⟩, by simp only [hm, keys1]; exact footed_put⟩
        · simp at he
      · simp at he
    · simp at he
  case entset a i x =>
    injection h with h
    subst h
    simp only [evalOp] at he ⊢
    split at he
    · rename_i fr sl g kk j hm hi
      simp only [hm, hi]
      simp only [Option.bind_eq_some_iff] at he ⊢
      obtain ⟨es, hes, he⟩ := he
      rw [← getMap_key (s := st.s) (s' := s') (hs (fr, sl) (.inr (by simp [hm, keys1])))] at hes
      split at he
      · rename_i hj
        simp only [Option.map_eq_some_iff] at he ⊢
        obtain ⟨e, h1, rfl⟩ := he
        exact ⟨_, ⟨es, hes, by rw [if_pos hj, h1]; rfl⟩, by simp only [hm, keys1]; exact footed_put⟩
      · simp at he
    · simp at he
  case app k bytes x y ob =>
    split at h
    · rename_i k' rows m hx
      injection h with h
      subst h
      obtain ⟨rfl, rfl⟩ := hb rfl
      simp only [evalOp, Option.bind_eq_some_iff] at he ⊢
      obtain ⟨ys, hys, he⟩ := he
      rw [← rowsOf_key (s := st.s) fun k hk => hs k (.inl hk)] at hys
      simp only [hx] at he ⊢
      split at he
      · rename_i hc
        split at he
        · simp at he
        · cases ob with
          | true =>
            simp only [if_true, Option.some.injEq] at he
            subst he
            refine ⟨⟨.own st.fr slot st.n 0 (rows.length + ys.length) k, upd2 s' st.fr slot (some (st.n, .rows k (rows ++ ys))), st.τ, st.n + 1⟩, ⟨ys, hys, by rw [if_pos hc]; rfl⟩, rfl, fun q hq => ?_, fun a b h => ?_, fun _ => ⟨rfl, rfl⟩, fun hf => by simp at hf⟩
            · simp only [if_true, List.mem_singleton] at hq
              subst hq
              simp only [St.obj, upd2_self]
            · simp only [if_true, List.mem_singleton] at h
              exact upd2_ne _ _ fun e => h (by simp [e.1, e.2])
          | false =>
            simp only [Bool.false_eq_true, if_false, Option.some.injEq] at he
            subst he
            exact ⟨⟨.sl k (rows ++ ys) (.tok st.n), s', upd st.τ st.n true, st.n + 1⟩, ⟨ys, hys, by rw [if_pos hc]; rfl⟩, rfl, fun k hk => by simp at hk, fun _ _ _ => rfl, fun _ => ⟨rfl, rfl⟩, fun hf => by simp at hf⟩
        · split at he
          · rename_i hg
            cases ob with
            | true => simp at he
            | false =>
              simp only [Bool.false_eq_true, if_false, Option.some.injEq] at he
              subst he
              exact ⟨⟨.sl k (rows ++ ys) (.tok st.n), s', upd (upd st.τ _ false) st.n true, st.n + 1⟩, ⟨ys, hys, by rw [if_pos hc]; simp only [hg, and_self, if_true, Bool.false_eq_true, if_false]⟩, rfl, fun k hk => by simp at hk, fun _ _ _ => rfl, fun _ => ⟨rfl, rfl⟩, fun hf => by simp at hf⟩
          · simp at he
      · simp at he
    · rename_i fr0 sl0 g off len k' hx
      injection h with h
      subst h
      obtain ⟨rfl, rfl⟩ := hb rfl
      simp only [evalOp, Option.bind_eq_some_iff] at he ⊢
      obtain ⟨ys, hys, he⟩ := he
      rw [← rowsOf_key (s := st.s) fun k hk => hs k (.inl hk)] at hys
      simp only [hx, Option.bind_eq_some_iff] at he
      obtain ⟨l, hl, he⟩ := he
      have hl' : getRows s' fr0 sl0 g k = some l := by rw [← hl]; exact getRows_key (hs (fr0, sl0) (.inr (by simp)))
      split at he
      · rename_i hc
        injection he with he
        subst he
        refine ⟨⟨.own fr0 sl0 st.n 0 (len + ys.length) k, upd2 (upd2 s' fr0 sl0 none) fr0 sl0 (some (st.n, .rows k (l.take len ++ ys))), st.τ, st.n + 1⟩, ⟨ys, hys, by simp only [hx, hl', Option.bind_some]; rw [if_pos hc]⟩, rfl, fun q hq => ?_, fun a b h => ?_, fun _ => ⟨rfl, rfl⟩, fun hf => by simp at hf⟩
        · show upd2 (upd2 s' fr0 sl0 none) fr0 sl0 _ q.1 q.2 = upd2 (upd2 st.s fr0 sl0 none) fr0 sl0 _ q.1 q.2
          simp only [List.mem_singleton] at hq
          subst hq
          rw [upd2_self, upd2_self]
        · simp only [List.mem_singleton] at h
          show upd2 (upd2 s' fr0 sl0 none) fr0 sl0 _ a b = s' a b
          rw [upd2_ne _ _ fun e => h (by simp [e.1, e.2]), upd2_ne _ _ fun e => h (by simp [e.1, e.2])]
      · simp at he
    · simp at h
  case bslice k z len parts ob =>
    cases ob with
    | false => exact blind h
    | true =>
      injection h with h
      subst h
      obtain ⟨rfl, rfl⟩ := hb rfl
      simp only [evalOp, Option.map_eq_some_iff] at he ⊢
      obtain ⟨rows, hr, rfl⟩ := he
      refine ⟨_, ⟨rows, hr, rfl⟩, rfl, fun q hq => ?_, fun a b h => ?_, fun _ => ⟨rfl, rfl⟩, fun hf => by simp at hf⟩
      · simp only [List.mem_singleton] at hq
        subst hq
        simp only [if_true, St.obj, upd2_self]
      · simp only [List.mem_singleton] at h
        exact upd2_ne _ _ fun e => h (by simp [e.1, e.2])
  all_goals exact blind h

theorem stepOp_foot {st : St} {o : TO} {F : Foot} {r : Res} {s0 : Sto} (hf : o.free = false) (h : footO C st o = some F) (he : stepOp C ic s0 o st = some r) {τ' : Nat → Bool} {n' : Nat} (hs : ∀ k, k ∈ F.r ∨ k ∈ F.w → s' k.1 k.2 = st.s k.1 k.2) (hb : F.b = true → τ' = st.τ ∧ n' = st.n) :
    ∃ r', stepOp C ic s0 o ⟨st.t, s', τ', n', st.fr⟩ = some r' ∧ Footed st F r s' τ' n' r' := by
  unfold footO at h
  unfold stepOp at he ⊢
  simp only [hf, Bool.false_eq_true, if_false] at he ⊢
  split at h
  · rename_i hw
    simp only [hw] at he ⊢
    exact evalOp_foot h he hs hb
  · rename_i hw
    simp only [hw] at he ⊢
    injection h with h
    subst h
    injection he with he
    subst he
    exact ⟨_, rfl, rfl, fun k hk => by simp at hk, fun _ _ _ => rfl, fun h => by simp at h, fun _ => ⟨rfl, rfl⟩⟩
  · simp at h

/-- What an operation does not write stays. -/
theorem stepOp_keeps {st : St} {o : TO} {F : Foot} {r : Res} {s0 : Sto} (hf : o.free = false) (h : footO C st o = some F) (he : stepOp C ic s0 o st = some r) :
    (∀ a b, (a, b) ∉ F.w → r.s a b = st.s a b) ∧ (F.b = false → r.τ = st.τ ∧ r.n = st.n) := by
  obtain ⟨r', h1, h2⟩ := stepOp_foot (s' := st.s) (τ' := st.τ) (n' := st.n) hf h he (fun _ _ => rfl) fun _ => ⟨rfl, rfl⟩
  have : (⟨st.t, st.s, st.τ, st.n, st.fr⟩ : St) = st := rfl
  rw [this, he] at h1
  injection h1 with h1
  subst h1
  exact ⟨h2.2.2.1, h2.2.2.2.2⟩

/-! ### the run in the text's order -/
theorem evalOpsK_step : ∀ {tos : List TO} {st stN : St} {fs : List Foot} {k : Nat} {o : TO}, evalOpsK C ic tos st = some (stN, fs) → tos[k]? = some o →
    ∃ r F, stepOp C ic (fun _ _ => none) o (sig C ic (fun _ _ => none) tos st k) = some r ∧ sig C ic (fun _ _ => none) tos st (k + 1) = (sig C ic (fun _ _ => none) tos st k).put o.d r ∧ footO C (sig C ic (fun _ _ => none) tos st k) o = some F ∧ fs[k]? = some F := by
  intro tos
  induction tos with
  | nil => intro st stN fs k o _ h; simp at h
  | cons x tos ih =>
    intro st stN fs k o he h
    simp only [evalOpsK] at he
    split at he
    · rename_i r F hr hF
      simp only [Option.map_eq_some_iff, Prod.mk.injEq, Prod.exists] at he
      obtain ⟨st1, fs1, he, rfl, rfl⟩ := he
      cases k with
      | zero =>
        simp only [List.getElem?_cons_zero, Option.some.injEq] at h
        subst h
        exact ⟨r, F, hr, by simp [sig, hr], by simpa [sig] using hF, rfl⟩
      | succ k =>
        obtain ⟨r', F', h1, h2, h3, h4⟩ := ih he (by simpa using h)
        exact ⟨r', F', by simpa [sig, hr] using h1, by simpa [sig, hr] using h2, by simpa [sig, hr] using h3, by simpa using h4⟩
    · simp at he

theorem evalOpsK_end : ∀ {tos : List TO} {st stN : St} {fs : List Foot}, evalOpsK C ic tos st = some (stN, fs) → sig C ic (fun _ _ => none) tos st tos.length = stN ∧ fs.length = tos.length := by
  intro tos
  induction tos with
  | nil => intro st stN fs he; simp only [evalOpsK, Option.some.injEq, Prod.mk.injEq] at he; obtain ⟨rfl, rfl⟩ := he; exact ⟨rfl, rfl⟩
  | cons x tos ih =>
    intro st stN fs he
    simp only [evalOpsK] at he
    split at he
    · rename_i r F hr hF
      simp only [Option.map_eq_some_iff, Prod.mk.injEq, Prod.exists] at he
      obtain ⟨st1, fs1, he, rfl, rfl⟩ := he
      obtain ⟨h1, h2⟩ := ih he
      exact ⟨by simpa [sig, hr] using h1, by simp [h2]⟩
    · simp at he

/-! ### what the check says -/
structure PairsK (tos : List TO) (ops : Array Oper) : Prop where
  len : tos.length = ops.size
  after : ∀ (i : Nat) (o : Oper), ops[i]? = some o → ∀ e ∈ o.after, Region.binds .any e = true → e.on < i
  free : ∀ o ∈ tos, o.free = false
  dst : ∀ (i j : Nat) (x y : TO) (d : Nat), i ≠ j → tos[i]? = some x → tos[j]? = some y → x.d = some d → y.d ≠ some d
  reads : ∀ (i j : Nat) (x y : TO) (d : Nat), i ≠ j → tos[i]? = some x → tos[j]? = some y → x.d = some d → d ∈ y.reads → if i < j then isAnc (masks ops) i j = true else isAnc (masks ops) j i = true

theorem PairsK.of {tos : List TO} {ops : Array Oper} (h : drawOkK tos (masks ops) = true) : PairsK tos ops := by
  simp only [drawOkK, Bool.and_eq_true, beq_iff_eq] at h
  obtain ⟨⟨⟨h1, h2⟩, h3⟩, h4⟩ := h
  have hml : (masks ops).length = ops.size := by simp [masks, masksGo_len]
  rw [hml] at h1
  have key : ∀ (i j : Nat) (x y : TO), i ≠ j → tos[i]? = some x → tos[j]? = some y →
      ((x.d.isNone || x.d != y.d) = true ∧ ((match x.d with | some d => !y.reads.contains d || (if i < j then isAnc (masks ops) i j else isAnc (masks ops) j i) | none => true) = true)) := by
    intro i j x y hne hx hy
    have hi : i < tos.length := (List.getElem?_eq_some_iff.1 hx).1
    have hj : j < tos.length := (List.getElem?_eq_some_iff.1 hy).1
    simp only [pairsOkK, List.all_eq_true, List.mem_range] at h4
    have h5 := h4 i hi j hj
    rw [hx, hy] at h5
    simp only [Bool.or_eq_true, beq_iff_eq] at h5
    rcases h5 with h5 | h5
    · exact absurd h5 hne
    · simp only [Bool.and_eq_true, Bool.or_eq_true] at h5 ⊢
      exact h5
  have ah : ∀ {i j : Nat}, (if i < j then isAnc (masks ops) i j else isAnc (masks ops) j i) = true → if i < j then isAnc (masks ops) i j = true else isAnc (masks ops) j i = true := by
    intro i j h
    split at h <;> rename_i hlt
    · rw [if_pos hlt]; exact h
    · rw [if_neg hlt]; exact h
  refine ⟨h1, fun i o ho e he hb => ?_, fun o ho => ?_, ?_, ?_⟩
  · simp only [List.all_eq_true, List.mem_range, hml] at h2
    have hi : i < ops.size := (Array.getElem?_eq_some_iff.1 ho).1
    have hlt := h2 i hi
    simp only [decide_eq_true_eq] at hlt
    have hbit := masksGo_bit ops.toList [] i o e (by simpa using ho) he hb
    simp only [List.length_nil, Nat.zero_add] at hbit
    have hbit' : ((masks ops).getD i 0).testBit e.on = true := hbit
    apply Nat.lt_of_not_le
    intro hge
    rw [Nat.testBit_lt_two_pow (Nat.lt_of_lt_of_le hlt (Nat.pow_le_pow_right (by decide) hge))] at hbit'
    simp at hbit'
  · simp only [List.all_eq_true] at h3
    simpa using h3 o ho
  · intro i j x y d hne hx hy hd hyd
    have := (key i j x y hne hx hy).1
    rw [hd, hyd] at this
    simp at this
  · intro i j x y d hne hx hy hd hr
    have := (key i j x y hne hx hy).2
    rw [hd] at this
    simp only [Bool.or_eq_true, Bool.not_eq_true'] at this
    rcases this with h | h
    · simp [hr] at h
    · exact ah h

theorem meet_none {a b : List (Nat × Nat)} (h : meet a b = false) {k : Nat × Nat} (ha : k ∈ a) (hb : k ∈ b) : False := by
  have : meet a b = true := by
    simp only [meet, List.any_eq_true, Bool.and_eq_true, beq_iff_eq]
    exact ⟨k, ha, k, hb, rfl, rfl⟩
  rw [h] at this
  simp at this

/-- Two operations that reach the same thing, one of them writing it, stand in order. -/
def Clash (a b : Foot) : Prop := (∃ k, k ∈ a.w ∧ (k ∈ b.r ∨ k ∈ b.w)) ∨ (∃ k, k ∈ a.r ∧ k ∈ b.w) ∨ (a.b = true ∧ b.b = true)
theorem Clash.symm {a b : Foot} (h : Clash a b) : Clash b a := by
  rcases h with ⟨k, h1, h2 | h2⟩ | ⟨k, h1, h2⟩ | ⟨h1, h2⟩
  · exact .inr (.inl ⟨k, h2, h1⟩)
  · exact .inl ⟨k, h2, .inr h1⟩
  · exact .inl ⟨k, h2, .inl h1⟩
  · exact .inr (.inr ⟨h2, h1⟩)
theorem Clash.of {a b : Foot} (h : Clash a b) : apart a b = false := by
  cases hq : apart a b with
  | false => rfl
  | true =>
    exfalso
    simp only [apart, Bool.not_eq_true', Bool.or_eq_false_iff, Bool.and_eq_false_imp] at hq
    obtain ⟨⟨⟨q1, q2⟩, q3⟩, q4⟩ := hq
    rcases h with ⟨k, h1, h2 | h2⟩ | ⟨k, h1, h2⟩ | ⟨h1, h2⟩
    · exact meet_none q2 h1 h2
    · exact meet_none q1 h1 h2
    · exact meet_none q3 h1 h2
    · rw [q4 h1] at h2; simp at h2

theorem feetOk_clash {ms : List Nat} {fs : List Foot} (h : feetOk ms fs = true) {i j : Nat} {a b : Foot} (hij : i ≠ j) (ha : fs[i]? = some a) (hb : fs[j]? = some b) (hc : Clash a b) : if i < j then isAnc ms i j = true else isAnc ms j i = true := by
  have main : ∀ {i j : Nat} {a b : Foot}, i < j → fs[i]? = some a → fs[j]? = some b → Clash a b → isAnc ms i j = true := by
    intro i j a b hlt ha hb hc
    simp only [feetOk, List.all_eq_true, List.mem_range] at h
    have := h j (List.getElem?_eq_some_iff.1 hb).1 i hlt
    rw [ha, hb] at this
    simpa [hc.of] using this
  split
  · rename_i hlt; exact main hlt ha hb hc
  · rename_i hlt; exact main (by omega) hb ha hc.symm
end

section
variable {P : Program} {D : Base} {C : Cfg} {ic : Nat → List V → St → Option Res} {pol : Pol} {tos : List TO} {ops : Array Oper} {σ : Nat → St} {fs : List Foot}

def RunK (C : Cfg) (ic : Nat → List V → St → Option Res) (tos : List TO) (fs : List Foot) (σ : Nat → St) : Prop :=
  ∀ (k : Nat) (x : TO), tos[k]? = some x → x.free = false ∧ ∃ r F, stepOp C ic (fun _ _ => none) x (σ k) = some r ∧ σ (k + 1) = (σ k).put x.d r ∧ footO C (σ k) x = some F ∧ fs[k]? = some F

theorem runK_ind (hσ : RunK C ic tos fs σ) {R : St → St → Prop} (hr : ∀ s, R s s) (ht : ∀ a b c, R a b → R b c → R a c) {p q : Nat} (hpq : p ≤ q) (hq : q ≤ tos.length)
    (h : ∀ (k : Nat) (x : TO) (r : Res) (F : Foot), p ≤ k → k < q → tos[k]? = some x → x.free = false → stepOp C ic (fun _ _ => none) x (σ k) = some r → footO C (σ k) x = some F → fs[k]? = some F → R (σ k) ((σ k).put x.d r)) : R (σ p) (σ q) := by
  induction q with
  | zero => rw [show p = 0 by omega]; exact hr _
  | succ q ih =>
    rcases Nat.lt_or_ge p (q + 1) with hlt | hge
    · have h1 := ih (by omega) (by omega) fun k x r F hk1 hk2 => h k x r F hk1 (by omega)
      have hx : tos[q]? = some tos[q] := List.getElem?_eq_getElem (by omega)
      obtain ⟨e0, r, F, e1, e2, e3, e4⟩ := hσ q _ hx
      refine ht _ _ _ h1 ?_
      rw [e2]
      exact h q _ r F (by omega) (by omega) hx e0 e1 e3 e4
    · rw [show p = q + 1 by omega]; exact hr _

theorem runK_t (hσ : RunK C ic tos fs σ) {p q d : Nat} (hpq : p ≤ q) (hq : q ≤ tos.length) (h : ∀ (k : Nat) (x : TO), p ≤ k → k < q → tos[k]? = some x → x.d ≠ some d) : (σ p).t d = (σ q).t d :=
  runK_ind hσ (R := fun a b => a.t d = b.t d) (fun _ => rfl) (fun _ _ _ h k => h.trans k) hpq hq fun k x r F h1 h2 hx _ _ _ _ => by
    have hne := h k x h1 h2 hx
    unfold St.put
    cases hd : x.d with
    | none => rfl
    | some e => exact (upd_ne _ _ (fun e' => hne (by rw [hd, e']))).symm

theorem runK_s (hσ : RunK C ic tos fs σ) {p q a b : Nat} (hpq : p ≤ q) (hq : q ≤ tos.length) (h : ∀ (k : Nat) (F : Foot), p ≤ k → k < q → fs[k]? = some F → (a, b) ∉ F.w) : (σ p).s a b = (σ q).s a b :=
  runK_ind hσ (R := fun x y => x.s a b = y.s a b) (fun _ => rfl) (fun _ _ _ h k => h.trans k) hpq hq fun k x r F h1 h2 hx hf he hF hfs =>
    ((stepOp_keeps hf hF he).1 a b (h k F h1 h2 hfs)).symm

theorem runK_b (hσ : RunK C ic tos fs σ) {p q : Nat} (hpq : p ≤ q) (hq : q ≤ tos.length) (h : ∀ (k : Nat) (F : Foot), p ≤ k → k < q → fs[k]? = some F → F.b = false) : (σ p).τ = (σ q).τ ∧ (σ p).n = (σ q).n :=
  runK_ind hσ (R := fun x y => x.τ = y.τ ∧ x.n = y.n) (fun _ => ⟨rfl, rfl⟩) (fun _ _ _ h k => ⟨h.1.trans k.1, h.2.trans k.2⟩) hpq hq fun k x r F h1 h2 hx hf he hF hfs => by
    obtain ⟨e1, e2⟩ := (stepOp_keeps hf hF he).2 (h k F h1 h2 hfs)
    exact ⟨e1.symm, e2.symm⟩

/-- What holds behind any part of the operations. -/
structure KInv (D : Base) (B0 N fr : Nat) (c0 : Ctx) (tos : List TO) (fs : List Foot) (ops : Array Oper) (σ : Nat → St) (listed : Array Bool) (a : Act) (w : World) (st : St) (f : Nat → Nat → Nat) (φ : Nat → Option (Nat × Nat)) : Prop where
  size : listed.size = ops.size
  closed : ∀ (k : Nat) (o : Oper), ops[k]? = some o → Xof listed k → ∀ e ∈ o.after, Region.binds .any e = true → Xof listed e.on
  fr : st.fr = fr
  good : Good D B0 N st a w f φ
  le : c0.le (Ctx.of D st.s st.τ st.n w f φ)
  cut : ∀ (p q : Nat), ∃ m, m ≤ tos.length ∧ (∀ (k : Nat) (F : Foot), fs[k]? = some F → (p, q) ∈ F.w → (Xof listed k ↔ k < m)) ∧ st.s p q = (σ m).s p q
  cutB : ∃ m, m ≤ tos.length ∧ (∀ (k : Nat) (F : Foot), fs[k]? = some F → F.b = true → (Xof listed k ↔ k < m)) ∧ st.τ = (σ m).τ ∧ st.n = (σ m).n
  done : ∀ (k : Nat) (x : TO) (d : Nat), tos[k]? = some x → x.d = some d → Xof listed k → st.t d = (σ (k + 1)).t d
  open_ : ∀ (k : Nat) (x : TO) (d : Nat), tos[k]? = some x → x.d = some d → ¬ Xof listed k → st.t d = (σ 0).t d
  rest : ∀ d, (∀ (k : Nat) (x : TO), tos[k]? = some x → x.d ≠ some d) → st.t d = (σ 0).t d

theorem dregK_any {ro : Option Nat} {B0 : Nat} (hC : CfgOk P C) (hic : IcOk P D ic) (hict : IcT ic) (hS : ∀ b o, D.S b o → b < D.B) {N fr : Nat} (hp : PairsK tos ops) (hσ : RunK C ic tos fs σ) (hfl : fs.length = tos.length) (hfeet : feetOk (masks ops) fs = true) (hfr : ∀ k, (σ k).fr = fr) {c0 : Ctx}
    (hd : ∀ o' ∈ ops.toList, ∀ d, o'.dst = some d → d < N) (hcmp : ∀ (j : Nat) (o : Oper) (to : TO), ops[j]? = some o → tos[j]? = some to → compOper P pol N ops o to.free = some to) {Q : Exit → Act → World → Prop}
    (hQ : ∀ a' w' f' φ', Good D B0 N (σ tos.length) a' w' f' φ' → c0.le (Ctx.of D (σ tos.length).s (σ tos.length).τ (σ tos.length).n w' f' φ') → Q .normal a' w') :
    ∀ (fuel : Nat) (listed : Array Bool) (a : Act) (w : World) (st : St) (f : Nat → Nat → Nat) (φ : Nat → Option (Nat × Nat)), KInv D B0 N fr c0 tos fs ops σ listed a w st f φ → listed.toList.count false ≤ fuel → wpAnyIn (Fr ro) 0 P .any ops Q fuel listed a w := by
  -- all is done
  have fin : ∀ (listed : Array Bool) (a : Act) (w : World) (st : St) (f : Nat → Nat → Nat) (φ : Nat → Option (Nat × Nat)), KInv D B0 N fr c0 tos fs ops σ listed a w st f φ → (∀ k, k < ops.size → Xof listed k) → Q .normal a w := by
    intro listed a w st f φ hI hall
    have hkl : ∀ {k : Nat} {F : Foot}, fs[k]? = some F → k < tos.length := fun h => by rw [← hfl]; exact (List.getElem?_eq_some_iff.1 h).1
    have es : st.s = (σ tos.length).s := by
      funext p q
      obtain ⟨m, hm, hcut, e⟩ := hI.cut p q
      rw [e]
      refine runK_s hσ hm (Nat.le_refl _) fun k F h1 h2 hF hw => ?_
      have := (hcut k F hF hw).1 (hall k (by rw [← hp.len]; exact h2))
      omega
    have eb : st.τ = (σ tos.length).τ ∧ st.n = (σ tos.length).n := by
      obtain ⟨m, hm, hcut, e1, e2⟩ := hI.cutB
      rw [e1, e2]
      refine runK_b hσ hm (Nat.le_refl _) fun k F h1 h2 hF => ?_
      cases hb : F.b with
      | false => rfl
      | true =>
        have := (hcut k F hF hb).1 (hall k (by rw [← hp.len]; exact h2))
        omega
    have et : ∀ d, st.t d = (σ tos.length).t d := by
      intro d
      by_cases hw : ∃ (k : Nat) (x : TO), tos[k]? = some x ∧ x.d = some d
      · obtain ⟨k, x, hx, hxd⟩ := hw
        have hk : k < tos.length := (List.getElem?_eq_some_iff.1 hx).1
        rw [hI.done k x d hx hxd (hall k (by rw [← hp.len]; exact hk))]
        exact runK_t hσ (by omega) (Nat.le_refl _) fun j y h1 h2 hy => hp.dst k j x y d (by omega) hx hy hxd
      · have hno : ∀ (k : Nat) (x : TO), tos[k]? = some x → x.d ≠ some d := fun k x hx hxd => hw ⟨k, x, hx, hxd⟩
        rw [hI.rest d hno]
        exact runK_t hσ (Nat.zero_le _) (Nat.le_refl _) fun j y _ _ hy => hno j y hy
    have hG := hI.good
    have hle := hI.le
    have hG' : Good D B0 N (σ tos.length) a w f φ := ⟨by rw [← es, ← eb.1, ← eb.2]; exact hG.rel, fun i => by rw [← et i, ← es, ← eb.1, ← eb.2]; exact hG.t i, hG.size, hG.defers⟩
    rw [es, eb.1, eb.2] at hle
    exact hQ a w f φ hG' hle
  -- nothing is ready only when all is done
  have stuck : ∀ (listed : Array Bool), listed.size = ops.size → Region.ready .any ops listed = [] → ∀ k, k < ops.size → Xof listed k := by
    intro listed hsz hnil k
    induction k using Nat.strongRecOn with
    | ind k ih =>
      intro hk
      by_cases hx : Xof listed k
      · exact hx
      · exfalso
        have : k ∈ Region.ready .any ops listed := by
          simp only [Region.ready, List.mem_filter, List.mem_range]
          refine ⟨hk, ?_⟩
          have h1 : listed.getD k true = false := by
            unfold Xof at hx
            simp [Array.getD, hsz, hk] at hx ⊢
            exact hx
          rw [h1, Array.getElem?_eq_getElem hk]
          simp only [Bool.not_false, Bool.true_and, Option.map_some, Option.getD_some, Array.all_eq_true']
          intro e he
          cases hb : Region.binds .any e with
          | false => rfl
          | true =>
            have hlt := hp.after k _ (Array.getElem?_eq_getElem hk) e he hb
            simpa [Xof] using ih e.on hlt (by omega)
        rw [hnil] at this
        simp at this
  intro fuel
  induction fuel with
  | zero =>
    intro listed a w st f φ hI hc
    have hall : ∀ k, k < ops.size → Xof listed k := by
      intro k hk
      unfold Xof
      have hk' : k < listed.size := by rw [hI.size]; exact hk
      have h0 : listed.toList.count false = 0 := by omega
      rw [List.count_eq_zero] at h0
      cases hv : listed.getD k false with
      | true => rfl
      | false =>
        exfalso
        apply h0
        simp only [Array.getD, hk', dif_pos] at hv
        rw [← show listed[k] = false from hv]
        simp
    refine ⟨?_, fin listed a w st f φ hI hall⟩
    apply List.eq_nil_iff_forall_not_mem.2
    intro i hi
    simp only [Region.ready, List.mem_filter, List.mem_range, Bool.and_eq_true, Bool.not_eq_true'] at hi
    have := hall i hi.1
    have h2 := hi.2.1
    have hk' : i < listed.size := by rw [hI.size]; exact hi.1
    simp only [Xof, Array.getD, hk', dif_pos] at this h2
    have e : listed[i] = true := this
    have e' : listed[i] = false := h2
    rw [e] at e'
    simp at e'
  | succ fuel ih =>
    intro listed a w st f φ hI hc
    refine ⟨fun hnil => fin listed a w st f φ hI (stuck listed hI.size hnil), fun i hi => ?_⟩
    simp only [Region.ready, List.mem_filter, List.mem_range, Bool.and_eq_true, Bool.not_eq_true'] at hi
    obtain ⟨hlt, hnl, hdeps⟩ := hi
    have hil : i < listed.size := by rw [hI.size]; exact hlt
    have hio : ops[i]? = some ops[i] := Array.getElem?_eq_getElem hlt
    rw [hio] at hdeps
    simp only [Option.map_some, Option.getD_some, Array.all_eq_true', Bool.or_eq_true, Bool.not_eq_true'] at hdeps
    have hnX : ¬ Xof listed i := by
      simp only [Array.getD, hil, dif_pos] at hnl
      simp only [Xof, Array.getD, hil, dif_pos]
      intro h
      have e : listed[i] = true := h
      have e' : listed[i] = false := hnl
      rw [e] at e'
      simp at e'
    have hdep : ∀ e ∈ ops[i].after, Region.binds .any e = true → Xof listed e.on := fun e he hb => by
      rcases hdeps e he with h | h
      · rw [hb] at h; simp at h
      · exact h
    have hanc : ∀ j, isAnc (masks ops) j i = true → Xof listed j := fun j hj => dep_in hI.closed (isAnc_dep hj) fun o ho => by rw [hio] at ho; injection ho with ho; subst ho; exact hdep
    have hancX : ∀ k, Xof listed k → k < ops.size → ¬ isAnc (masks ops) i k = true := by
      intro k hk hks hmem
      exact hnX (dep_in hI.closed (isAnc_dep hmem) fun o ho => hI.closed k o ho hk)
    have hil' : i < tos.length := by rw [hp.len]; exact hlt
    have hx : tos[i]? = some tos[i] := List.getElem?_eq_getElem hil'
    obtain ⟨x, hxe⟩ : ∃ x, x = tos[i] := ⟨_, rfl⟩
    rw [← hxe] at hx
    obtain ⟨hxf, r, F, hr, hnext, hF, hfsi⟩ := hσ i x hx
    have hkl : ∀ {k : Nat} {G : Foot}, fs[k]? = some G → k < tos.length := fun h => by rw [← hfl]; exact (List.getElem?_eq_some_iff.1 h).1
    have ahead : ∀ {k : Nat}, k < tos.length → (if k < i then isAnc (masks ops) k i = true else isAnc (masks ops) i k = true) → (Xof listed k ↔ k < i) := by
      intro k hk h
      split at h
      · rename_i hki; exact ⟨fun _ => hki, fun _ => hanc k h⟩
      · rename_i hki; exact ⟨fun hX => absurd h (hancX k hX (by rw [← hp.len]; exact hk)), fun hki' => absurd hki' hki⟩
    have clash : ∀ {k : Nat} {G : Foot}, fs[k]? = some G → k ≠ i → Clash G F → (Xof listed k ↔ k < i) := fun hG hne hc => ahead (hkl hG) (feetOk_clash hfeet hne hG hfsi hc)
    -- what it reads is as in the text's order
    have hreads : ∀ d ∈ x.reads, (σ i).t d = st.t d := by
      intro d hdr
      by_cases hw : ∃ (k : Nat) (y : TO), tos[k]? = some y ∧ y.d = some d
      · obtain ⟨k, y, hy, hyd⟩ := hw
        by_cases hki : k = i
        · subst hki
          rw [hI.open_ k y d hy hyd hnX]
          exact (runK_t hσ (Nat.zero_le _) (Nat.le_of_lt hil') fun j z h1 h2 hz => hp.dst k j y z d (by omega) hy hz hyd).symm
        · have hA := ahead (List.getElem?_eq_some_iff.1 hy).1 (hp.reads k i y x d hki hy hx hyd hdr)
          by_cases hlt' : k < i
          · rw [hI.done k y d hy hyd (hA.2 hlt')]
            exact (runK_t hσ (by omega) (Nat.le_of_lt hil') fun j z h1 h2 hz => hp.dst k j y z d (by omega) hy hz hyd).symm
          · rw [hI.open_ k y d hy hyd fun h => hlt' (hA.1 h)]
            exact (runK_t hσ (Nat.zero_le _) (Nat.le_of_lt hil') fun j z h1 h2 hz => hp.dst k j y z d (by omega) hy hz hyd).symm
      · have hno : ∀ (k : Nat) (y : TO), tos[k]? = some y → y.d ≠ some d := fun k y hy hyd => hw ⟨k, y, hy, hyd⟩
        rw [hI.rest d hno]
        exact (runK_t hσ (Nat.zero_le _) (Nat.le_of_lt hil') fun j z _ _ hz => hno j z hz).symm
    -- what it reaches is as in the text's order
    have between : ∀ {m : Nat} {B : Foot → Prop}, m ≤ tos.length → (∀ (k : Nat) (G : Foot), fs[k]? = some G → B G → (Xof listed k ↔ k < m)) → (∀ (k : Nat) (G : Foot), fs[k]? = some G → B G → k ≠ i → (Xof listed k ↔ k < i)) → ∀ (k : Nat) (G : Foot), fs[k]? = some G → ((m ≤ k ∧ k < i) ∨ (i ≤ k ∧ k < m)) → ¬ B G := by
      intro m B hm h1 h2 k G hG hk hB
      by_cases hki : k = i
      · subst hki
        rcases hk with ⟨_, hk⟩ | ⟨_, hk⟩
        · omega
        · exact hnX ((h1 k G hG hB).2 hk)
      · have a1 := h1 k G hG hB
        have a2 := h2 k G hG hB hki
        rcases hk with ⟨hk1, hk2⟩ | ⟨hk1, hk2⟩
        · have := a1.1 (a2.2 hk2); omega
        · have := a2.1 (a1.2 hk2); omega
    have hkeys : ∀ k, k ∈ F.r ∨ k ∈ F.w → st.s k.1 k.2 = (σ i).s k.1 k.2 := by
      rintro ⟨p, q⟩ hk
      obtain ⟨m, hm, hcut, e⟩ := hI.cut p q
      simp only
      rw [e]
      have hb := between (B := fun G => (p, q) ∈ G.w) hm hcut fun k G hG hw hne => clash hG hne (.inl ⟨_, hw, hk⟩)
      rcases Nat.le_total m i with hmi | him
      · exact runK_s hσ hmi (Nat.le_of_lt hil') fun k G h1 h2 hG => hb k G hG (.inl ⟨h1, h2⟩)
      · exact (runK_s hσ him hm fun k G h1 h2 hG => hb k G hG (.inr ⟨h1, h2⟩)).symm
    have hbump : F.b = true → st.τ = (σ i).τ ∧ st.n = (σ i).n := by
      intro hFb
      obtain ⟨m, hm, hcut, e1, e2⟩ := hI.cutB
      rw [e1, e2]
      have hb := between (B := fun G => G.b = true) hm hcut fun k G hG hw hne => clash hG hne (.inr (.inr ⟨hw, hFb⟩))
      rcases Nat.le_total m i with hmi | him
      · exact runK_b hσ hmi (Nat.le_of_lt hil') fun k G h1 h2 hG => by simpa using hb k G hG (.inl ⟨h1, h2⟩)
      · obtain ⟨b1, b2⟩ := runK_b hσ him hm fun k G h1 h2 hG => by simpa using hb k G hG (.inr ⟨h1, h2⟩)
        exact ⟨b1.symm, b2.symm⟩
    obtain ⟨r', hstep0, hfoot⟩ := stepOp_foot (s' := st.s) (τ' := st.τ) (n' := st.n) hxf hF hr hkeys hbump
    have hstep : stepOp C ic (fun _ _ => none) x st = some r' := by
      have h1 := stepOp_slots (C := C) (s0 := fun _ _ => none) hict (o := x) (t := (σ i).t) (t' := st.t) (s := st.s) (τ := st.τ) (n := st.n) (fr := (σ i).fr) hreads
      rw [hstep0] at h1
      have h2 : (⟨st.t, st.s, st.τ, st.n, (σ i).fr⟩ : St) = st := by rw [hfr i, ← hI.fr]
      rw [h2] at h1
      exact h1.symm
    obtain ⟨hv, hw1, hw2, hb1, hb2⟩ := hfoot
    have hcm := hcmp i ops[i] x hio hx
    obtain ⟨e1, _, e3⟩ := compOper_dst hcm
    refine step_ok hC hic hI.good.rel hS hI.good.t hio hI.good.size hcm hd (fun h => by rw [hxf] at h; simp at h) (fun h => by rw [hxf] at h; simp at h) hstep fun y w' f' φ' hR' hle hyv => ?_
    obtain ⟨q1, q2, q3⟩ := put_tmps hI.good.size e3 hle hI.good.t hyv
    have ht' : (st.put x.d r').t = (match ops[i].dst with | some j => upd st.t j r'.v | none => st.t) := by
      simp only [St.put, e1]
      rfl
    have own : ∀ d, x.d = some d → (st.put x.d r').t d = (σ (i + 1)).t d := by
      intro d hxd
      rw [hnext]
      simp only [St.put, hxd, upd_self, hv]
    have other : ∀ d, x.d ≠ some d → (st.put x.d r').t d = st.t d := by
      intro d hxd
      simp only [St.put]
      cases hd' : x.d with
      | none => rfl
      | some j => exact upd_ne _ _ (fun e => hxd (by rw [hd', e]))
    have hs1 : (σ (i + 1)).s = r.s ∧ (σ (i + 1)).τ = r.τ ∧ (σ (i + 1)).n = r.n := by rw [hnext]; exact ⟨rfl, rfl, rfl⟩
    refine ih (listed.setIfInBounds i true) _ w' (st.put x.d r') f' φ' ⟨by simpa using hI.size, ?_, hI.fr, ⟨hR', fun j => by rw [ht']; exact q1 j, q2, by rw [q3]; exact hI.good.defers.mono hle⟩, hI.le.trans hle, ?_, ?_, ?_, ?_, ?_⟩ ?_
    · intro k o ho hk e he hb
      rw [Xof_set hil] at hk ⊢
      rcases hk with rfl | hk
      · rw [hio] at ho
        injection ho with ho
        subst ho
        exact .inr (hdep e he hb)
      · exact .inr (hI.closed k o ho hk e he hb)
    · intro p q
      by_cases hw : (p, q) ∈ F.w
      · refine ⟨i + 1, hil', fun k G hG hGw => ?_, ?_⟩
        · rw [Xof_set hil]
          by_cases hki : k = i
          · subst hki; simp
          · rw [clash hG hki (.inl ⟨_, hGw, .inr hw⟩)]
            omega
        · rw [hs1.1]
          exact hw1 _ hw
      · obtain ⟨m, hm, hcut, e⟩ := hI.cut p q
        refine ⟨m, hm, fun k G hG hGw => ?_, ?_⟩
        · rw [Xof_set hil]
          have hki : k ≠ i := by
            rintro rfl
            rw [hfsi] at hG
            injection hG with hG
            subst hG
            exact hw hGw
          rw [← hcut k G hG hGw]
          simp [hki]
        · rw [← e]
          exact hw2 p q hw
    · cases hFb : F.b with
      | true =>
        obtain ⟨g1, g2⟩ := hb1 hFb
        refine ⟨i + 1, hil', fun k G hG hGb => ?_, ?_, ?_⟩
        · rw [Xof_set hil]
          by_cases hki : k = i
          · subst hki; simp
          · rw [clash hG hki (.inr (.inr ⟨hGb, hFb⟩))]
            omega
        · rw [hs1.2.1]; exact g1
        · rw [hs1.2.2]; exact g2
      | false =>
        obtain ⟨g1, g2⟩ := hb2 hFb
        obtain ⟨m, hm, hcut, e, e'⟩ := hI.cutB
        refine ⟨m, hm, fun k G hG hGb => ?_, ?_, ?_⟩
        · rw [Xof_set hil]
          have hki : k ≠ i := by
            rintro rfl
            rw [hfsi] at hG
            injection hG with hG
            subst hG
            rw [hFb] at hGb
            simp at hGb
          rw [← hcut k G hG hGb]
          simp [hki]
        · rw [← e]; exact g1
        · rw [← e']; exact g2
    · intro k y d hy hyd hk
      rw [Xof_set hil] at hk
      by_cases hki : k = i
      · subst hki
        rw [hy] at hx
        injection hx with hx
        rw [← hx] at own
        rw [← hx]
        exact own d hyd
      · rw [other d (hp.dst k i y x d hki hy hx hyd)]
        exact hI.done k y d hy hyd (hk.resolve_left hki)
    · intro k y d hy hyd hk
      rw [Xof_set hil] at hk
      simp only [not_or] at hk
      rw [other d (hp.dst k i y x d hk.1 hy hx hyd)]
      exact hI.open_ k y d hy hyd hk.2
    · intro d hno
      rw [other d (hno i x hx)]
      exact hI.rest d hno
    · have hfalse : listed.toList[i]? = some false := by
        have : listed[i] = false := by
          have h := hnX
          simp only [Xof, Array.getD, hil, dif_pos] at h
          cases hv : listed[i] with
          | true => exact absurd hv h
          | false => rfl
        simp [hil, this]
      have hil2 : i < listed.toList.length := by simpa using hil
      have hget : listed.toList[i] = false := by
        rw [List.getElem?_eq_getElem hil2] at hfalse
        injection hfalse
      rw [Array.toList_setIfInBounds, List.count_set hil2]
      have hpos : 0 < listed.toList.count false := List.count_pos_iff.2 (by rw [← hget]; exact List.getElem_mem hil2)
      simp [hget]
      simp at hc hpos
      omega
end
end Go.TI
end

/- The interpreter is sound: what it answers, the program's call gives. -/
section
set_option linter.unusedVariables false
set_option linter.unusedSimpArgs false
namespace Go.TI
open Go Go.RowKit

/-- The inline callee at a level of fuel. -/
def icAt (C : Cfg) (n : Nat) : Nat → List V → St → Option Res := fun f vs st' =>
  match C.code f with
  | some F =>
    if vs.length = F.args then
      (match exec C n F.body (enter vs st') with
      | some (.normal, st'') | some (.ret, st'') => (resultsV st'' F.res).map fun v => ⟨v, st''.s, st''.τ, st''.n⟩
      | _ => none)
    else none
  | none => none

theorem icAt_t (C : Cfg) (n : Nat) : IcT (icAt C n) := fun f vs st t => rfl

section
variable {P : Program} {D : Base} {C : Cfg}

/-- In a round the loop's record is there. -/
def Rd (ro : Option Nat) (w : World) : Prop := ∀ l, ro = some l → ∃ r : Loop, w.heap[l]? = some (.loop r)
theorem Rd.mono {ro : Option Nat} {c c' : Ctx} (h : Rd ro c.w) (hle : c.le c') : Rd ro c'.w := fun l hl => by
  obtain ⟨r, hr⟩ := h l hl
  exact ⟨r, hle.oth _ _ hr rfl⟩
theorem Rd.none {w : World} : Rd none w := fun _ h => by simp at h

def ExecOk (P : Program) (D : Base) (C : Cfg) (n : Nat) : Prop :=
  ∀ (ro : Option Nat) (B0 N : Nat) (pol : Pol) (c : Code) (tc : TC), compC P C pol N c = some tc → chkTC C tc = true → ∀ (st : St) (e : Ex) (st' : St), exec C n tc st = some (e, st') →
    ∀ (a : Act) (w : World) (f : Nat → Nat → Nat) (φ : Nat → Option (Nat × Nat)), Good D B0 N st a w f φ → Rd ro w → ∀ Q : Exit → Act → World → Prop,
      (∀ a' w' f' φ', Good D B0 N st' a' w' f' φ' → (Ctx.of D st.s st.τ st.n w f φ).le (Ctx.of D st'.s st'.τ st'.n w' f' φ') → Q (exOf e) a' w') → c.wpIn (Fr ro) 0 P Q a w

theorem enter_good {B0 : Nat} {st : St} {w : World} {f : Nat → Nat → Nat} {φ : Nat → Option (Nat × Nat)} {vals : Array Value} {args : List V} {N : Nat} (hR : Rel D st.s st.τ st.n w f φ) (hsz : vals.size = args.length) (hN : args.length ≤ N) (hB0 : B0 ≤ w.heap.size)
    (hrv : ∀ (i : Nat) (x : Value) (t : V), vals[i]? = some x → args[i]? = some t → RV (Ctx.of D st.s st.τ st.n w f φ) x t) {st1 : St} (h1 : st1.t = args0 args) (h2 : st1.s = st.s) (h3 : st1.τ = st.τ) {c : Ctx} (hc : c = Ctx.of D st1.s st1.τ st1.n w f φ) (hle : (Ctx.of D st.s st.τ st.n w f φ).le c) (hR1 : Rel D st1.s st1.τ st1.n w f φ) :
    Good D B0 N st1 { tmps := vals ++ Array.replicate (N - vals.size) undef, defers := [] } w f φ := by
  subst hc
  refine ⟨hR1, fun i => ?_, by simp; omega, Marks.nil hB0⟩
  rw [h1]
  simp only [args0]
  by_cases hi : i < vals.size
  · have e1 : vals[i]? = some vals[i] := Array.getElem?_eq_getElem hi
    have hi' : i < args.length := by omega
    have e2 : args[i]? = some args[i] := List.getElem?_eq_getElem hi'
    have := (hrv i _ _ e1 e2).mono hle
    simp only [Array.getD_eq_getD_getElem?]
    rw [Array.getElem?_append_left hi, e1]
    simpa [List.getD, e2] using this
  · have e2 : args[i]? = none := List.getElem?_eq_none (by omega)
    simp only [Array.getD_eq_getD_getElem?]
    rw [Array.getElem?_append_right (by omega)]
    have : ((Array.replicate (N - vals.size) undef)[i - vals.size]?).getD undef = undef := by
      rw [Array.getElem?_replicate]
      split <;> rfl
    rw [this]
    simp only [List.getD, e2, Option.getD_none]
    exact .udef

/-- A frame's marks are taken as it is left. -/
theorem leave_ok {B0 : Nat} {fn : Func} {N : Nat} {st : St} {tmps : Array Value} {f : Nat → Nat → Nat} {φ : Nat → Option (Nat × Nat)} {rs : List RVar} (hc : mapO (compRes P) fn.results.toList = some rs) {v : V} (hv : resultsV st rs = some v) (hB : D.B ≤ B0) {R : Ending → World → Prop} :
    ∀ (ms : List Nat) (w : World), ms.Nodup → (∀ r ∈ ms, B0 ≤ r ∧ w.heap[r]? = some (.deferred (some []))) → B0 ≤ w.heap.size → Rel D st.s st.τ st.n w f φ → (∀ i, RV (Ctx.of D st.s st.τ st.n w f φ) (tmps.getD i undef) (st.t i)) → tmps.size = N →
      (∀ z w', Rel D st.s st.τ st.n w' f φ → RV (Ctx.of D st.s st.τ st.n w' f φ) z v → (∀ c0 : Ctx, c0.w.heap.size ≤ B0 → c0.le (Ctx.of D st.s st.τ st.n w f φ) → c0.le (Ctx.of D st.s st.τ st.n w' f φ)) → (Ctx.of D st.s st.τ st.n w f φ).lw (Ctx.of D st.s st.τ st.n w' f φ) →
        (∀ (b : Nat) (r : Loop), w.heap[b]? = some (.loop r) → w'.heap[b]? = some (.loop r)) → R (.returned z) w') →
      LeavesInM (Fr none) 0 P fn tmps R (ms.map fun r => { target := .collected r, args := #[] }) .returning w := by
  intro ms
  induction ms with
  | nil =>
    intro w _ _ hsz hR ht hN hk
    have hG : Good D B0 N st { tmps := tmps, defers := [] } w f φ := ⟨hR, ht, hN, Marks.nil hsz⟩
    obtain ⟨z, hz, hzv⟩ := results_ok hG hc hv
    exact ⟨z, hz, hk z w hR hzv (fun _ _ h => h) ⟨Nat.le_refl _, fun _ _ h => ⟨h, rfl⟩, fun _ _ _ _ h => h, fun _ _ _ _ _ h => h, fun _ _ _ h => h, fun _ arr _ _ h => ⟨arr, h, rfl⟩⟩ fun _ _ h => h⟩
  | cons m ms ih =>
    intro w hnd hm hsz hR ht hN hk
    obtain ⟨hm1, hm2⟩ := hm m (by simp)
    obtain ⟨hR', hlw⟩ := hR.turn (o' := .deferred none) hm2 rfl rfl (by omega) (fun r h => by simp at h)
    simp only [List.nodup_cons] at hnd
    have hother : ∀ {b : Nat}, b ≠ m → (w.putObj m (.deferred none)).heap[b]? = w.heap[b]? := fun h => World.putObj_heap_other h
    refine ⟨by simp, .inl ⟨m, w.putObj m (.deferred none), rfl, run_takeDeferred hm2, ?_⟩⟩
    refine ih _ hnd.2 (fun r hr => ?_) (by simpa using hsz) hR' (fun i => (ht i).monow hlw) hN fun z w' hR2 hz h0 hlw2 hlp => ?_
    · have e : r ≠ m := fun e => hnd.1 (e ▸ hr)
      exact ⟨(hm r (by simp [hr])).1, (hother e).trans (hm r (by simp [hr])).2⟩
    · refine hk z w' hR2 hz (fun c0 hc0 hle => h0 c0 hc0 ?_) (hlw.trans hlw2) fun b r hb => hlp b r ?_
      · have hl := hle.lw.trans hlw
        refine ⟨hl.n, hl.cell, hl.map, hl.obj, hl.tok, hl.arr, fun b o hb ho => ?_, by have := hle.size; simpa [Ctx.of] using this⟩
        have hbs : b < c0.w.heap.size := heap_lt hb
        exact (hother (by omega)).trans (hle.oth b o hb ho)
      · have e : b ≠ m := fun e => by subst e; rw [hm2] at hb; simp at hb
        exact (hother e).trans hb

/-- Turning a block that a context does not know. -/
theorem le_turn {c0 : Ctx} {s : Sto} {τ : Nat → Bool} {n : Nat} {w : World} {f : Nat → Nat → Nat} {φ : Nat → Option (Nat × Nat)} (h : c0.le (Ctx.of D s τ n w f φ)) {l : Nat} {o' : Obj} (hl : c0.w.heap.size ≤ l) (hlw : (Ctx.of D s τ n w f φ).lw (Ctx.of D s τ n (w.putObj l o') f φ)) :
    c0.le (Ctx.of D s τ n (w.putObj l o') f φ) := by
  have q := h.lw.trans hlw
  refine ⟨q.n, q.cell, q.map, q.obj, q.tok, q.arr, fun b o hb ho => ?_, by have := h.size; simpa [Ctx.of] using this⟩
  have hbs : b < c0.w.heap.size := heap_lt hb
  exact (World.putObj_heap_other (by omega)).trans (h.oth b o hb ho)

theorem Marks.turn {B0 : Nat} {w : World} {ds : List Deferred} (h : Marks B0 w ds) {l : Nat} {r : Loop} {o' : Obj} (hl : w.heap[l]? = some (.loop r)) : Marks B0 (w.putObj l o') ds := by
  obtain ⟨h0, rs, h1, h2, h3⟩ := h
  refine ⟨by simpa using h0, rs, h1, h2, fun q hq => ⟨(h3 q hq).1, ?_⟩⟩
  have e : q ≠ l := fun e => by subst e; rw [(h3 q hq).2] at hl; simp at hl
  exact (World.putObj_heap_other e).trans (h3 q hq).2

theorem fn_parts {fn : Func} {N : Nat} {st : St} {a : Act} {w : World} {f : Nat → Nat → Nat} {φ : Nat → Option (Nat × Nat)} {B0 : Nat} (hG : Good D B0 N st a w f φ) {rs : List RVar} (hc : mapO (compRes P) fn.results.toList = some rs) {v : V} (hv : resultsV st rs = some v) (hB : D.B ≤ B0) {R : Ending → World → Prop}
    (hk : ∀ z w', Rel D st.s st.τ st.n w' f φ → RV (Ctx.of D st.s st.τ st.n w' f φ) z v → (∀ c0 : Ctx, c0.w.heap.size ≤ B0 → c0.le (Ctx.of D st.s st.τ st.n w f φ) → c0.le (Ctx.of D st.s st.τ st.n w' f φ)) → (Ctx.of D st.s st.τ st.n w f φ).lw (Ctx.of D st.s st.τ st.n w' f φ) →
        (∀ (b : Nat) (r : Loop), w.heap[b]? = some (.loop r) → w'.heap[b]? = some (.loop r)) → R (.returned z) w') :
    LeavesInM (Fr none) 0 P fn a.tmps R a.defers .returning w := by
  obtain ⟨h0, ms, h1, h2, h3⟩ := hG.defers
  rw [h1]
  exact leave_ok hc hv hB ms w h2 h3 h0 hG.rel hG.t hG.size hk

theorem icAt_ok (hK : CodeOk P C) {n : Nat} (h : ExecOk P D C n) : IcOk P D (icAt C n) := by
  intro K args st r hr
  unfold icAt at hr
  split at hr
  · rename_i F hF
    obtain ⟨hb, hchk, pol, hcomp⟩ := hK K F hF
    refine ⟨hb, fun vals w f φ hR hsz hrv => ?_⟩
    split at hr
    · rename_i hlen
      simp only [compF, Option.bind_eq_some_iff] at hcomp
      obtain ⟨fn, hfn, c, hc, tc, htc, rs, hrs, hcomp⟩ := hcomp
      split at hcomp
      · rename_i hNle
        injection hcomp with hcomp
        subst hcomp
        simp only at hlen hr hchk
        obtain ⟨hR1, hle1⟩ := hR.bump
        have hG := enter_good (N := fn.ntmps) (B0 := w.heap.size) hR hsz (by omega) (Nat.le_refl _) hrv (st1 := enter args st) rfl rfl rfl rfl hle1 hR1
        refine (calls_fr (ro := none) (m := 0)).1 (callsIn_of_wp_marks (F := Fr none) hfn hc trivial ?_ rfl)
        have run : ∀ (e : Ex) (st'' : St), exec C n tc (enter args st) = some (e, st'') → (e = .normal ∨ e = .ret) → (resultsV st'' rs).map (fun v => (⟨v, st''.s, st''.τ, st''.n⟩ : Res)) = some r →
            c.wpIn (Fr none) 0 P (bodyPostM (Fr none) 0 P fn fun e w' => ∃ v f' φ', e = .returned v ∧ Rel D r.s r.τ r.n w' f' φ' ∧ (Ctx.of D st.s st.τ st.n w f φ).le (Ctx.of D r.s r.τ r.n w' f' φ') ∧ RV (Ctx.of D r.s r.τ r.n w' f' φ') v r.v) { tmps := vals ++ Array.replicate (fn.ntmps - vals.size) undef, defers := [] } w := by
          intro e st'' hex he hres
          rw [Option.map_eq_some_iff] at hres
          obtain ⟨v, hv, rfl⟩ := hres
          refine h none w.heap.size fn.ntmps pol c tc htc hchk _ _ _ hex _ w f φ hG Rd.none _ fun a' w' f' φ' hG' hle' => ?_
          have fin := fn_parts (R := fun e w' => ∃ v' f' φ', e = .returned v' ∧ Rel D st''.s st''.τ st''.n w' f' φ' ∧ (Ctx.of D st.s st.τ st.n w f φ).le (Ctx.of D st''.s st''.τ st''.n w' f' φ') ∧ RV (Ctx.of D st''.s st''.τ st''.n w' f' φ') v' v) hG' hrs hv hR.hB fun z w2 q1 q2 q3 _ _ => ⟨z, f', φ', rfl, q1, q3 _ (Nat.le_refl _) (hle1.trans hle'), q2⟩
          rcases he with rfl | rfl
          · exact fin
          · exact fin
        split at hr
        · rename_i st'' hex; exact run _ _ hex (.inl rfl) hr
        · rename_i st'' hex; exact run _ _ hex (.inr rfl) hr
        · simp at hr
      · simp at hcomp
    · simp at hr
  · simp at hr

theorem mapO_dst {pol : Pol} {N : Nat} {ops : Array Oper} {tos : List TO} (h : mapO (fun o => compOper P pol N ops o false) ops.toList = some tos) : ∀ o' ∈ ops.toList, ∀ d, o'.dst = some d → d < N := by
  intro o' ho d hd
  obtain ⟨i, hi, rfl⟩ := List.getElem_of_mem ho
  obtain ⟨h1, h2⟩ := mapO_some h
  have hi' : i < tos.length := by omega
  exact (compOper_dst (h2 i _ _ (List.getElem?_eq_getElem hi) (List.getElem?_eq_getElem hi'))).2.2 d hd

theorem compOper_free {pol : Pol} {N : Nat} {ops : Array Oper} {o : Oper} {fr fr' : Bool} {to : TO} (h : compOper P pol N ops o fr = some to) : compOper P pol N ops o fr' = some { to with free := fr' } := by
  simp only [compOper, Option.bind_eq_some_iff] at h ⊢
  obtain ⟨g, hg, h⟩ := h
  refine ⟨g, hg, ?_⟩
  split at h
  · split at h
    · rename_i hlt
      injection h with h
      subst h
      exact if_pos hlt
    · simp at h
  · injection h with h
    subst h
    rfl

theorem setFree_get : ∀ (tos : List TO) (bs : List Bool) (j : Nat) (x : TO), (setFree tos bs)[j]? = some x → ∃ y fr, tos[j]? = some y ∧ x = { y with free := fr } := by
  intro tos
  induction tos with
  | nil => intro bs j x h; simp [setFree] at h
  | cons o os ih =>
    intro bs j x h
    cases bs with
    | nil => exact ⟨x, x.free, by simpa [setFree] using h, rfl⟩
    | cons b bs =>
      cases j with
      | zero => simp [setFree] at h; exact ⟨o, b, rfl, h.symm⟩
      | succ j => exact ih bs j x (by simpa [setFree] using h)

theorem run_rangeCall {a : Act} {g : Operand} {l K : Nat} {cv : Array Value} (hx : a.eval g = .func (.func K) #[] cv) (w : World) : (resolve a.eval (rangeCall g l) 0).run P w = .ok { target := .fn (.func K) cv, args := #[.func (.yield l) #[] #[]] } w := by
  have h1 : (resolve a.eval (rangeCall g l) 0) = Deferred.ofValue (a.eval g) #[.func (.yield l) #[] #[]] := by simp [resolve, rangeCall, Act.eval]
  rw [h1, hx]
  rfl
theorem run_rangeEnter {l K : Nat} {cv : Array Value} (hb : hasBody P K = true) (w : World) : (invoke (.fn (.func K) cv) #[.func (.yield l) #[] #[]]).run P w = .ok (.enter K (#[.func (.yield l) #[] #[]] ++ cv)) w := by
  simp [invoke, run_callFunc hb]

def recOf (r : Loop) : Option Ex → Loop
  | none => { r with state := .ready, pending := none }
  | some .ret => { r with state := .done, pending := some .ret }
  | some (.exit id) => { r with state := .done, pending := some (.exit id) }
  | some .normal => { r with state := .done, pending := none }

/-- What is known of a loop over a function while it runs. -/
structure LoopOk (P : Program) (D : Base) (C : Cfg) (L : LoopD) (r0 : Loop) (l : Nat) (cL cM : Ctx) : Prop where
  st0 : r0.state = .ready
  pd0 : r0.pending = none
  ps : r0.params.toList = L.ps
  code : ∃ N pol, compC P C pol N r0.assign = some L.a ∧ compC P C pol N r0.body = some L.b ∧ chkTC C L.a = true ∧ chkTC C L.b = true ∧ r0.tmps.size = N ∧ ∀ p ∈ L.ps, p < N
  t : ∀ i, RV cL (r0.tmps.getD i undef) (L.t i)
  key : cL.obj L.fr L.sl L.g = some l
  gn : L.g < cL.n
  lM : cM.w.heap.size ≤ l
  lB : D.B ≤ l

/-- An iterator's frame. -/
structure GoodY (D : Base) (B0 N : Nat) (r0 : Loop) (l : Nat) (cL cM : Ctx) (st : St) (p : Option Ex) (a : Act) (w : World) (f : Nat → Nat → Nat) (φ : Nat → Option (Nat × Nat)) : Prop where
  good : Good D B0 N st a w f φ
  rcd : w.heap[l]? = some (.loop (recOf r0 p))
  lL : cL.lw (Ctx.of D st.s st.τ st.n w f φ)
  lM : cM.le (Ctx.of D st.s st.τ st.n w f φ)
  pn : p ≠ some .normal

def ExecYOk (P : Program) (D : Base) (C : Cfg) (n : Nat) : Prop :=
  ∀ (L : LoopD) (r0 : Loop) (l : Nat) (cL cM : Ctx), LoopOk P D C L r0 l cL cM → ∀ (B0 N : Nat) (pol : Pol) (c : Code) (tc : TC), compC P C pol N c = some tc → chkTC C tc = true → ∀ (st : St) (p : Option Ex) (e : Ex) (st' : St) (p' : Option Ex), execY C L n tc st p = some (e, st', p') →
    ∀ (a : Act) (w : World) (f : Nat → Nat → Nat) (φ : Nat → Option (Nat × Nat)), GoodY D B0 N r0 l cL cM st p a w f φ → ∀ Q : Exit → Act → World → Prop,
      (∀ a' w' f' φ', GoodY D B0 N r0 l cL cM st' p' a' w' f' φ' → Q (exOf e) a' w') → c.wpIn (Fr none) 0 P Q a w

theorem recOf_oth {r0 : Loop} {l : Nat} {p : Option Ex} {c c' : Ctx} (h : c.w.heap[l]? = some (.loop (recOf r0 p))) (hle : c.le c') : c'.w.heap[l]? = some (.loop (recOf r0 p)) := hle.oth _ _ h rfl

theorem GoodY.step {B0 N : Nat} {r0 : Loop} {l : Nat} {cL cM : Ctx} {st st' : St} {p : Option Ex} {a a' : Act} {w w' : World} {f f' : Nat → Nat → Nat} {φ φ' : Nat → Option (Nat × Nat)} (h : GoodY D B0 N r0 l cL cM st p a w f φ)
    (hG : Good D B0 N st' a' w' f' φ') (hle : (Ctx.of D st.s st.τ st.n w f φ).le (Ctx.of D st'.s st'.τ st'.n w' f' φ')) : GoodY D B0 N r0 l cL cM st' p a' w' f' φ' :=
  ⟨hG, recOf_oth (c := Ctx.of D st.s st.τ st.n w f φ) (c' := Ctx.of D st'.s st'.τ st'.n w' f' φ') h.rcd hle, h.lL.trans hle.lw, h.lM.trans hle, h.pn⟩

theorem exec_ok_step (hm : P.follows .mixedOrders = true) (hC : CfgOk P C) (hK : CodeOk P C) (hS : ∀ b o, D.S b o → b < D.B) {n : Nat} (ih : ∀ m, m < n + 1 → ExecOk P D C m) (ihY : ∀ m, m < n + 1 → ExecYOk P D C m) : ExecOk P D C (n + 1) := by
  intro ro B0 N pol c tc hc hchk st e st' he a w f φ hG hRd Q hQ
  have hic : IcOk P D (icAt C n) := icAt_ok hK (ih n (Nat.lt_succ_self n))
  cases c with
      | skip =>
        simp only [compC, Option.some.injEq] at hc
        subst hc
        simp only [exec, Option.some.injEq, Prod.mk.injEq] at he
        obtain ⟨rfl, rfl⟩ := he
        exact wpIn_skip (hQ a w f φ hG (Ctx.le.refl _))
      | exit id =>
        simp only [compC, Option.some.injEq] at hc
        subst hc
        simp only [exec, Option.some.injEq, Prod.mk.injEq] at he
        obtain ⟨rfl, rfl⟩ := he
        exact wpIn_exit (hQ a w f φ hG (Ctx.le.refl _))
      | ret =>
        simp only [compC, Option.some.injEq] at hc
        subst hc
        simp only [exec, Option.some.injEq, Prod.mk.injEq] at he
        obtain ⟨rfl, rfl⟩ := he
        exact wpIn_ret (hQ a w f φ hG (Ctx.le.refl _))
      | seq x y =>
        simp only [compC, Option.bind_eq_some_iff, Option.map_eq_some_iff] at hc
        obtain ⟨tx, hx, ty, hy, rfl⟩ := hc
        simp only [chkTC, Bool.and_eq_true] at hchk
        obtain ⟨kx, ky⟩ := hchk
        simp only [exec] at he
        refine wpIn_seq ?_
        split at he
        · rename_i st1 h1
          refine ih n (Nat.lt_succ_self n) ro B0 N pol x tx hx kx _ _ _ h1 a w f φ hG hRd _ fun a1 w1 f1 φ1 hG1 hle1 => ?_
          exact ih n (Nat.lt_succ_self n) ro B0 N pol y ty hy ky _ _ _ he a1 w1 f1 φ1 hG1 (hRd.mono hle1) Q fun a2 w2 f2 φ2 hG2 hle2 => hQ a2 w2 f2 φ2 hG2 (hle1.trans hle2)
        · rename_i hne
          refine ih n (Nat.lt_succ_self n) ro B0 N pol x tx hx kx _ _ _ he a w f φ hG hRd _ fun a1 w1 f1 φ1 hG1 hle1 => ?_
          cases e with
          | normal => exact absurd he (hne st')
          | exit id => exact hQ a1 w1 f1 φ1 hG1 hle1
          | ret => exact hQ a1 w1 f1 φ1 hG1 hle1
      | cond q x y =>
        simp only [compC, Option.bind_eq_some_iff, Option.map_eq_some_iff] at hc
        obtain ⟨q', hq, tx, hx, ty, hy, rfl⟩ := hc
        simp only [chkTC, Bool.and_eq_true] at hchk
        obtain ⟨kx, ky⟩ := hchk
        simp only [exec] at he
        split at he
        · rename_i b hb
          have hr := RV.opd hG.t hq
          rw [hb] at hr
          refine wpIn_cond (hr.lit_inv).1 ?_
          cases b with
          | true => exact ih n (Nat.lt_succ_self n) ro B0 N pol x tx hx kx _ _ _ (by simpa using he) a w f φ hG hRd Q hQ
          | false => exact ih n (Nat.lt_succ_self n) ro B0 N pol y ty hy ky _ _ _ (by simpa using he) a w f φ hG hRd Q hQ
        · simp at he
      | block id x =>
        simp only [compC, Option.map_eq_some_iff] at hc
        obtain ⟨tx, hx, rfl⟩ := hc
        have kx : chkTC C tx = true := hchk
        simp only [exec] at he
        refine wpIn_block ?_
        split at he
        · rename_i i st1 h1
          refine ih n (Nat.lt_succ_self n) ro B0 N pol x tx hx kx _ _ _ h1 a w f φ hG hRd _ fun a1 w1 f1 φ1 hG1 hle1 => ?_
          split at he
          · rename_i hi
            injection he with he
            injection he with he1 he2
            subst he1 he2
            simpa [exOf, Exit.inBlock, hi] using hQ a1 w1 f1 φ1 hG1 hle1
          · rename_i hi
            injection he with he
            injection he with he1 he2
            subst he1 he2
            simpa [exOf, Exit.inBlock, hi] using hQ a1 w1 f1 φ1 hG1 hle1
        · rename_i hne
          refine ih n (Nat.lt_succ_self n) ro B0 N pol x tx hx kx _ _ _ he a w f φ hG hRd _ fun a1 w1 f1 φ1 hG1 hle1 => ?_
          cases e with
          | normal => exact hQ a1 w1 f1 φ1 hG1 hle1
          | exit i => exact absurd he (hne i st')
          | ret => exact hQ a1 w1 f1 φ1 hG1 hle1
      | loop x =>
        simp only [compC, Option.map_eq_some_iff] at hc
        obtain ⟨tx, hx, rfl⟩ := hc
        have kx : chkTC C tx = true := hchk
        refine wpIn_loop_rounds (n + 1) ?_
        have rounds : ∀ m, m ≤ n + 1 → ∀ (st : St) (e : Ex) (st' : St), exec C m (.loop tx) st = some (e, st') → ∀ (a : Act) (w : World) (f : Nat → Nat → Nat) (φ : Nat → Option (Nat × Nat)), Good D B0 N st a w f φ → Rd ro w →
            (∀ a' w' f' φ', Good D B0 N st' a' w' f' φ' → (Ctx.of D st.s st.τ st.n w f φ).le (Ctx.of D st'.s st'.τ st'.n w' f' φ') → Q (exOf e) a' w') → Code.roundsIn (Fr ro) 0 P x Q m a w := by
          intro m
          induction m with
          | zero => intro _ st e st' h; simp [exec] at h
          | succ m ihm =>
            intro hle st e st' h a w f φ hG hRd hQ
            rw [roundsIn_succ]
            simp only [exec] at h
            split at h
            · rename_i st1 h1
              refine ih m (by omega) ro B0 N pol x tx hx kx _ _ _ h1 a w f φ hG hRd _ fun a1 w1 f1 φ1 hG1 hle1 => ?_
              exact ihm (by omega) st1 e st' h a1 w1 f1 φ1 hG1 (hRd.mono hle1) fun a2 w2 f2 φ2 hG2 hle2 => hQ a2 w2 f2 φ2 hG2 (hle1.trans hle2)
            · rename_i hne
              refine ih m (by omega) ro B0 N pol x tx hx kx _ _ _ h a w f φ hG hRd _ fun a1 w1 f1 φ1 hG1 hle1 => ?_
              cases e with
              | normal => exact absurd h (hne st')
              | exit id => exact hQ a1 w1 f1 φ1 hG1 hle1
              | ret => exact hQ a1 w1 f1 φ1 hG1 hle1
        exact rounds (n + 1) (Nat.le_refl _) st e st' he a w f φ hG hRd hQ
      | region id ops draw =>
        simp only [compC, Option.map_eq_some_iff] at hc
        obtain ⟨tos, htos, hc⟩ := hc
        have hd := mapO_dst htos
        obtain ⟨hlen, hget⟩ := mapO_some htos
        have hlen' : tos.length = ops.size := by simpa using hlen.symm
        split at hc
        · rename_i hdraw
          subst hdraw
          split at hc
          · subst hc
            simp [exec] at he
          · rename_i hbad
            split at hc
            · subst hc
              simp only [exec] at he
              split at he
              · rename_i stN fs hev
                split at he
                · rename_i hfeet
                  simp only [Option.some.injEq, Prod.mk.injEq] at he
                  obtain ⟨rfl, rfl⟩ := he
                  have hp := PairsK.of (tos := tos) (ops := ops) hchk
                  have hev : evalOpsK C (icAt C n) tos st = some (stN, fs) := hev
                  obtain ⟨hend, hfl⟩ := evalOpsK_end hev
                  have hσ : RunK C (icAt C n) tos fs (sig C (icAt C n) (fun _ _ => none) tos st) := fun k x hx => ⟨hp.free x (List.mem_of_getElem? hx), evalOpsK_step hev hx⟩
                  obtain ⟨hR2, hle2⟩ := hG.rel.grow hS (w' := { w with drawn := w.drawn + 1 }) ⟨rfl, rfl, rfl, Nat.le_refl _, fun _ _ => rfl⟩
                  refine wpIn_region_any hm ?_
                  have h00 : sig C (icAt C n) (fun _ _ => none) tos st 0 = st := by cases tos <;> rfl
                  have hX : ∀ k, ¬ Xof (Array.replicate ops.size false) k := by
                    intro k
                    unfold Xof
                    simp only [Array.getD_eq_getD_getElem?, Array.getElem?_replicate]
                    split <;> simp
                  refine dregK_any (B0 := B0) (pol := pol) (c0 := Ctx.of D st.s st.τ st.n w f φ) (fr := st.fr) hC hic (icAt_t C n) hS hp hσ hfl hfeet (fun k => sig_fr) hd (fun j o to ho hto => ?_) ?_ ops.size (Array.replicate ops.size false) a _ st f φ ?_ ?_
                  · have h1 := hget j o to (by simpa using ho) hto
                    rw [hp.free to (List.mem_of_getElem? hto)]
                    exact h1
                  · intro a' w' f' φ' hG' hle'
                    rw [hend] at hG' hle'
                    exact hQ a' w' f' φ' hG' hle'
                  · refine ⟨by simp, fun k o _ h => absurd h (hX k), rfl, ⟨hR2, fun i => (hG.t i).mono hle2, hG.size, hG.defers.mono hle2⟩, hle2, fun p q => ⟨0, Nat.zero_le _, fun k F _ _ => ⟨fun h => absurd h (hX k), fun h => by omega⟩, by rw [h00]⟩, ⟨0, Nat.zero_le _, fun k F _ _ => ⟨fun h => absurd h (hX k), fun h => by omega⟩, by rw [h00], by rw [h00]⟩, fun k x d _ _ h => absurd h (hX k), fun k x d _ _ _ => by rw [h00], fun d _ => by rw [h00]⟩
                  · simp
                · simp at he
              · simp at he
            rename_i hpoke
            subst hc
            simp only [exec, Option.map_eq_some_iff] at he
            obtain ⟨stN, hev, he⟩ := he
            injection he with he1 he2
            subst he1 he2
            refine wpIn_region_any hm ?_
            obtain ⟨tos', htos'⟩ : ∃ tos', tos' = setFree tos (pol.free id) := ⟨_, rfl⟩
            have hok : drawOk C (setFree tos (pol.free id)) (masks ops) = true := hchk
            rw [← htos'] at hok hev
            have hp := Pairs.of hok
            obtain ⟨st0, hst0⟩ : ∃ st0 : St, st0 = { st with s := dropS st.fr st.s tos' } := ⟨_, rfl⟩
            rw [← hst0] at hev
            have hσ : Run C (icAt C n) (dropS st.fr st.s tos') tos' (sig C (icAt C n) (dropS st.fr st.s tos') tos' st0) := fun k x hx => sig_step hev hx
            have hend : sig C (icAt C n) (dropS st.fr st.s tos') tos' st0 tos'.length = stN := sig_end hev
            obtain ⟨hR1, hle1⟩ := hG.rel.drop hS (s' := dropS st.fr st.s tos') fun _ _ _ h => dropS_sub h
            obtain ⟨hR2, hle2⟩ := hR1.grow hS (w' := { w with drawn := w.drawn + 1 }) ⟨rfl, rfl, rfl, Nat.le_refl _, fun _ _ => rfl⟩
            have hle := hle1.trans hle2
            have h0s : (sig C (icAt C n) (dropS st.fr st.s tos') tos' st0 0) = st0 := by cases tos' <;> rfl
            refine dreg_any (B0 := B0) (pol := pol) (σ := sig C (icAt C n) (dropS st.fr st.s tos') tos' st0) (c0 := Ctx.of D st.s st.τ st.n w f φ) hC hic (icAt_t C n) hS hp hσ (by rw [h0s, hst0]) (fr := st0.fr) (fun k => sig_fr) hd ?_ ?_ ops.size (Array.replicate ops.size false) a _ 0 st.t f φ ?_ ?_
            · intro j o to ho hto
              rw [htos'] at hto
              obtain ⟨y, fr, hy, rfl⟩ := setFree_get _ _ _ _ hto
              exact compOper_free (hget j o y (by simpa using ho) hy)
            · intro a' w' f' φ' hG' hle'
              rw [hend] at hG' hle'
              exact hQ a' w' f' φ' hG' hle'
            · have hX : ∀ k, ¬ Xof (Array.replicate ops.size false) k := by
                intro k
                unfold Xof
                simp only [Array.getD_eq_getD_getElem?, Array.getElem?_replicate]
                split <;> simp
              refine ⟨by simp, fun k o _ h => absurd h (hX k), Nat.zero_le _, fun k x _ _ => ⟨fun h => absurd h (hX k), fun h => by omega⟩, ?_, ?_, fun k x d _ _ h => absurd h (hX k), fun k x d _ _ _ => by rw [h0s, hst0], fun d _ => by rw [h0s, hst0]⟩
              · rw [h0s, hst0]
                exact ⟨hR2, fun i => (hG.t i).mono hle, hG.size, hG.defers.mono hle⟩
              · rw [h0s, hst0]
                exact hle
            · simp
        · rename_i hdraw
          have hdr : draw = false := by simpa using hdraw
          subst hdr
          subst hc
          simp only [exec, Option.map_eq_some_iff] at he
          obtain ⟨stN, hev, he⟩ := he
          injection he with he1 he2
          subst he1 he2
          refine wpIn_region ?_
          have := reg_ok (ro := ro) (B0 := B0) (pol := pol) (N := N) (Q := Q) hC hic hS hd tos 0 st stN a w f φ hG (by omega) (fun j o to ho hto => ?_) hev hQ
          · rw [List.range_eq_range', ← hlen']; exact this
          · have h1 := hget j o to (by simpa using ho) hto
            obtain ⟨_, e2, _⟩ := compOper_dst h1
            rw [e2]
            exact ⟨h1, rfl⟩
      | rangeFunc g ps ca cb =>
        simp only [compC, Option.bind_eq_some_iff, Option.map_eq_some_iff] at hc
        obtain ⟨g', hg', ta, hta, tb, htb, hc⟩ := hc
        split at hc
        case isFalse => simp at hc
        rename_i hpsN
        injection hc with hc
        subst hc
        simp only [chkTC, Bool.and_eq_true] at hchk
        obtain ⟨ka, kb⟩ := hchk
        simp only [exec] at he
        split at he
        · rename_i K caps hclo
          split at he
          · rename_i G hGc
            split at he
            · rename_i hGa
              obtain ⟨hGa, hGr⟩ := hGa
              have hx := RV.opd hG.t hg'
              rw [hclo] at hx
              obtain ⟨cv, hxe, q1, q2⟩ := hx.clo_inv
              obtain ⟨hb, hchkG, polG, hcomp⟩ := hK K G hGc
              simp only [compF, Option.bind_eq_some_iff] at hcomp
              obtain ⟨fn, hfn, cG, hcG, tc, htc, rs, hrs, hcomp⟩ := hcomp
              split at hcomp
              · rename_i hNle
                injection hcomp with hcomp
                subst hcomp
                simp only at hGa hGr he hchkG
                subst hGr
                -- the blocks that are laid
                have main : ∀ (cM : Ctx) (wM : World) (mark : List Deferred) (df : Nat), cM = Ctx.of D st.s st.τ st.n wM f φ → Rel D st.s st.τ st.n wM f φ → (Ctx.of D st.s st.τ st.n w f φ).le cM → Marks B0 wM (mark ++ a.defers) →
                    (∀ fnn, (Instr.enterLoop fnn a.tmps ps ca cb ro).run P w = .ok (wM.heap.size, mark) (wM.alloc (.loop { state := .ready, pending := none, fn := fnn, tmps := a.tmps, params := ps, assign := ca, body := cb, defers := df }))) →
                    (Code.rangeFunc g ps ca cb).wpIn (Fr ro) 0 P Q a w := by
                  intro cM wM mark df hcM hRM hleM hMk hrun
                  refine wpIn_rangeFunc fun fnn _ => ?_
                  obtain ⟨r0, hr0⟩ : ∃ r0 : Loop, r0 = { state := .ready, pending := none, fn := fnn, tmps := a.tmps, params := ps, assign := ca, body := cb, defers := df } := ⟨_, rfl⟩
                  refine ⟨wM.heap.size, mark, wM.alloc (.loop r0), _, _, K, _, _, by rw [hr0]; exact hrun fnn, run_rangeCall hxe _, fun _ _ => trivial, run_rangeEnter hb _, fun h => by simp [Fr, Fence.wide] at h, ?_⟩
                  obtain ⟨hRL, hleL⟩ := hRM.new hS st.fr N (o := .loop) (x := .loop r0) ⟨r0, rfl⟩
                  obtain ⟨st1, hst1⟩ : ∃ st1 : St, st1 = ⟨st.t, upd2 st.s st.fr N (some (st.n, .loop)), st.τ, st.n + 1, st.fr⟩ := ⟨_, rfl⟩
                  obtain ⟨fL, hfL⟩ : ∃ fL, fL = upd2 f st.fr N wM.heap.size := ⟨_, rfl⟩
                  rw [← hst1] at he
                  rw [← hfL] at hRL hleL
                  have e1 : st1.s = upd2 st.s st.fr N (some (st.n, .loop)) := by rw [hst1]
                  have e2 : st1.τ = st.τ := by rw [hst1]
                  have e3 : st1.n = st.n + 1 := by rw [hst1]
                  rw [← e1, ← e2, ← e3] at hRL
                  rw [← e1] at hleL
                  have hleL' : (Ctx.of D st.s st.τ st.n wM f φ).le (Ctx.of D st1.s st1.τ st1.n (wM.alloc (.loop r0)) fL φ) := by rw [e2, e3]; exact hleL
                  obtain ⟨hRE, hleE⟩ := hRL.bump
                  obtain ⟨cL, hcL⟩ : ∃ cL, cL = Ctx.of D st1.s st1.τ (st1.n + 1) (wM.alloc (.loop r0)) fL φ := ⟨_, rfl⟩
                  have hMB : D.B ≤ wM.heap.size := hRM.hB
                  have hkey : cL.obj st.fr N st.n = some wM.heap.size := by
                    rw [hcL]
                    have h0 : st1.s st.fr N = some (st.n, .loop) := by rw [e1, upd2_self]
                    rw [Ctx.of_obj_live h0, hfL, upd2_self]
                  have hle0 : (Ctx.of D st.s st.τ st.n w f φ).le cL := by rw [hcL]; exact hleM.trans (by rw [hcM]; exact hleL'.trans hleE)
                  have hLok : LoopOk P D C ⟨st.t, st.fr, N, st.n, ps.toList, ta, tb⟩ r0 wM.heap.size cL cM :=
                    ⟨by rw [hr0], by rw [hr0], by rw [hr0], ⟨N, pol, by rw [hr0]; exact hta, by rw [hr0]; exact htb, ka, kb, by rw [hr0]; exact hG.size, fun p hp => by simpa using List.all_eq_true.1 hpsN p hp⟩, fun i => by rw [hr0]; exact (hG.t i).mono hle0, hkey, by rw [hcL, e3] <;> (simp [Ctx.of]; omega), by rw [hcM]; exact Nat.le_refl _, hMB⟩
                  refine (calls_fr (ro := ro) (m := 0)).2 ((calls_fr (ro := none) (m := 0)).1 (callsIn_of_wp_marks (F := Fr none) hfn hcG trivial ?_ rfl))
                  have hvs : (#[Value.func (.yield wM.heap.size) #[] #[]] ++ cv).size = (V.yld st.fr N st.n :: caps).length := by simp; omega
                  have hrv : ∀ (i : Nat) (x : Value) (t : V), (#[Value.func (.yield wM.heap.size) #[] #[]] ++ cv)[i]? = some x → (V.yld st.fr N st.n :: caps)[i]? = some t → RV (Ctx.of D st1.s st1.τ st1.n (wM.alloc (.loop r0)) fL φ) x t := by
                    intro i x t hxi hti
                    cases i with
                    | zero =>
                      have hxi' : (#[Value.func (.yield wM.heap.size) #[] #[]] ++ cv)[0]? = some (Value.func (.yield wM.heap.size) #[] #[]) := by
                        rw [Array.getElem?_append_left (by simp)]
                        simp
                      rw [hxi'] at hxi
                      injection hxi with hxi
                      simp only [List.getElem?_cons_zero, Option.some.injEq] at hti
                      subst hxi hti
                      refine .yld (by simp [Ctx.of, e3]) fun b' hb' => ?_
                      have h0 : st1.s st.fr N = some (st.n, .loop) := by rw [e1, upd2_self]
                      rw [Ctx.of_obj_live h0, hfL, upd2_self] at hb'
                      injection hb'
                    | succ i =>
                      refine (q2 i x t ?_ (by simpa using hti)).mono (hleM.trans (by rw [hcM]; exact hleL'))
                      rw [← hxi, Array.getElem?_append_right (by simp)]
                      simp
                  have hGE := enter_good (N := fn.ntmps) (B0 := (wM.alloc (.loop r0)).heap.size) hRL hvs (by simp only [List.length_cons]; omega) (Nat.le_refl _) hrv (st1 := enter (V.yld st.fr N st.n :: caps) st1) rfl rfl rfl rfl hleE hRE
                  have hGY : GoodY D (wM.alloc (.loop r0)).heap.size fn.ntmps r0 wM.heap.size cL cM (enter (V.yld st.fr N st.n :: caps) st1) none { tmps := (#[Value.func (.yield wM.heap.size) #[] #[]] ++ cv) ++ Array.replicate (fn.ntmps - (#[Value.func (.yield wM.heap.size) #[] #[]] ++ cv).size) undef, defers := [] } (wM.alloc (.loop r0)) fL φ := by
                    refine ⟨hGE, ?_, ?_, ?_, by simp⟩
                    · have : recOf r0 none = r0 := by rw [hr0]; rfl
                      rw [this]
                      exact heap_new _ _
                    · rw [hcL]; exact (Ctx.le.refl _).lw
                    · rw [hcM]; exact hleL'.trans hleE
                  have run : ∀ (e2 : Ex) (st2 : St) (p : Option Ex), execY C ⟨st.t, st.fr, N, st.n, ps.toList, ta, tb⟩ n tc (enter (V.yld st.fr N st.n :: caps) st1) none = some (e2, st2, p) → (e2 = .normal ∨ e2 = .ret) → e = p.getD .normal → st' = ⟨st.t, st2.s, st2.τ, st2.n, st.fr⟩ →
                      cG.wpIn (Fr none) 0 P (bodyPostM (Fr none) 0 P fn (rangePost (Fr ro) 0 P wM.heap.size Q { a with defers := mark ++ a.defers })) { tmps := (#[Value.func (.yield wM.heap.size) #[] #[]] ++ cv) ++ Array.replicate (fn.ntmps - (#[Value.func (.yield wM.heap.size) #[] #[]] ++ cv).size) undef, defers := [] } (wM.alloc (.loop r0)) := by
                    intro e2 st2 p hex he2 hep hst'
                    refine ihY n (Nat.lt_succ_self n) _ r0 wM.heap.size cL cM hLok _ fn.ntmps polG cG tc htc hchkG _ _ _ _ _ hex _ _ fL φ hGY _ fun a2 w2 f2 φ2 hY => ?_
                    have fin := fn_parts (P := P) (R := rangePost (Fr ro) 0 P wM.heap.size Q { a with defers := mark ++ a.defers }) hY.good hrs (v := .tup []) rfl (by simp; omega) fun z w3 g1 g2 g3 g4 g5 => ?_
                    · rcases he2 with rfl | rfl
                      · exact fin
                      · exact fin
                    · have hrec := g5 _ _ hY.rcd
                      have hM3 : cM.le (Ctx.of D st2.s st2.τ st2.n w3 f2 φ2) := g3 cM (by rw [hcM]; simp [Ctx.of]) hY.lM
                      have hbusy : (recOf r0 p).state ≠ .busy := by
                        cases p with
                        | none => simp [recOf]
                        | some x => cases x <;> simp [recOf]
                      obtain ⟨hR4, hlw4⟩ := g1.turn (o' := .loop { recOf r0 p with state := .exhausted }) hrec rfl rfl hMB (fun r _ => ⟨_, rfl⟩)
                      have hM4 := le_turn hM3 (l := wM.heap.size) (by rw [hcM]; exact Nat.le_refl _) hlw4
                      have h04 := hleM.trans hM4
                      have hG4 : Good D B0 N st' { a with defers := mark ++ a.defers } (w3.putObj wM.heap.size (.loop { recOf r0 p with state := .exhausted })) f2 φ2 := by
                        rw [hst']
                        refine ⟨hR4, fun i => (hG.t i).mono h04, hG.size, ?_⟩
                        exact Marks.mono (c := cM) (c' := Ctx.of D st2.s st2.τ st2.n (w3.putObj wM.heap.size (.loop { recOf r0 p with state := .exhausted })) f2 φ2) (by rw [hcM]; exact hMk) hM4
                      have hle4 : (Ctx.of D st.s st.τ st.n w f φ).le (Ctx.of D st'.s st'.τ st'.n (w3.putObj wM.heap.size (.loop { recOf r0 p with state := .exhausted })) f2 φ2) := by rw [hst']; exact h04
                      have hQ4 := hQ _ _ _ _ hG4 hle4
                      refine ⟨(recOf r0 p).pending, _, run_endLoop hrec hbusy, ?_⟩
                      subst hep
                      cases p with
                      | none => exact hQ4
                      | some x =>
                        cases x with
                        | normal => exact absurd rfl hY.pn
                        | ret => exact wpIn_ret hQ4
                        | exit id => exact wpIn_exit hQ4
                  split at he
                  · rename_i st2 p hex
                    simp only [Option.some.injEq, Prod.mk.injEq] at he
                    exact run _ _ _ hex (.inl rfl) he.1.symm he.2.symm
                  · rename_i st2 p hex
                    simp only [Option.some.injEq, Prod.mk.injEq] at he
                    exact run _ _ _ hex (.inr rfl) he.1.symm he.2.symm
                  · simp at he
                obtain ⟨hB0, ms, hms, hnd, hmr⟩ := hG.defers
                cases ro with
                | none =>
                  obtain ⟨hRM, hleM⟩ := hG.rel.grow hS (w' := w.alloc (.deferred (some []))) ((Below.refl _ w).alloc (Nat.le_refl _) _)
                  refine main _ (w.alloc (.deferred (some []))) [{ target := .collected w.heap.size, args := #[] }] w.heap.size rfl hRM hleM ?_ fun fnn => ?_
                  · refine ⟨by simp; omega, w.heap.size :: ms, by rw [hms]; rfl, ?_, ?_⟩
                    · simp only [List.nodup_cons]
                      refine ⟨fun h => ?_, hnd⟩
                      have := heap_lt (hmr _ h).2
                      omega
                    · intro r hr
                      simp only [List.mem_cons] at hr
                      rcases hr with rfl | hr
                      · exact ⟨hB0, heap_new _ _⟩
                      · exact ⟨(hmr r hr).1, (Below.heap_alloc w _ r (heap_lt (hmr r hr).2)).trans (hmr r hr).2⟩
                  · rw [run_enterLoop_outer]
                    simp
                | some l0 =>
                  obtain ⟨r, hr⟩ := hRd l0 rfl
                  refine main _ w [] r.defers rfl hG.rel (Ctx.le.refl _) ⟨hB0, ms, by simpa using hms, hnd, hmr⟩ fun fnn => run_enterLoop_inner hr fnn _ _ _ _
              · simp at hcomp
            · simp at he
          · simp at he
        · simp at he
      | _ =>
        simp only [compC, Option.some.injEq] at hc
        subst hc
        simp [exec] at he

/-! ### an iterator's code -/
theorem comp_yield {pol : Pol} {slot : Nat} {op : Op} {x' : Opd} {as : List Opd} (h : compOp P pol slot op = some (.yield x' as)) : ∃ c x, op = .call c ∧ c.callee = .value x ∧ cOpd x = some x' ∧ mapO cOpd c.args.toList = some as := by
  cases op with
  | call c =>
    simp only [compOp, compCall] at h
    split at h
    · split at h
      · simp only [Option.map_eq_some_iff] at h
        obtain ⟨q, _, h⟩ := h
        repeat' split at h
        all_goals simp at h
      · simp at h
    · rename_i x hx hcal
      simp only [Option.bind_eq_some_iff, Option.map_eq_some_iff] at h
      obtain ⟨x1, h1, as1, h2, h⟩ := h
      split at h
      · injection h with e1 e2
        subst e1 e2
        exact ⟨c, x, rfl, hcal, h1, h2⟩
      · simp at h
    all_goals
      (try (repeat' split at h))
      all_goals first
        | (simp at h; done)
        | (simp only [Option.map_eq_some_iff, Option.bind_eq_some_iff] at h; obtain ⟨_, _, h⟩ := h; simp at h; done)
        | (simp only [Option.map_eq_some_iff, Option.bind_eq_some_iff] at h; obtain ⟨_, _, _, _, h⟩ := h; simp at h; done)
        | (simp only [Option.map_eq_some_iff, Option.bind_eq_some_iff] at h; obtain ⟨_, _, h⟩ := h; repeat' split at h
           all_goals first
            | (simp at h; done)
            | (simp only [Option.map_eq_some_iff, Option.bind_eq_some_iff] at h; obtain ⟨_, _, h⟩ := h; simp at h; done)
            | (simp only [Option.map_eq_some_iff, Option.bind_eq_some_iff] at h; obtain ⟨_, _, _, _, h⟩ := h; simp at h; done))
  | _ =>
    exfalso
    simp only [compOp] at h
    repeat' split at h
    all_goals first
      | contradiction
      | (simp at h; done)
      | (simp only [Option.map_eq_some_iff, Option.bind_eq_some_iff] at h; obtain ⟨_, _, h⟩ := h; simp at h; done)
      | (simp only [Option.map_eq_some_iff, Option.bind_eq_some_iff] at h; obtain ⟨_, _, _, _, h⟩ := h; simp at h; done)
      | (simp only [Option.map_eq_some_iff, Option.bind_eq_some_iff] at h; obtain ⟨_, _, _, _, _, _, h⟩ := h; simp at h; done)
      | (simp only [Option.map_eq_some_iff, Option.bind_eq_some_iff] at h; obtain ⟨_, _, _, _, _, _, _, _, h⟩ := h; simp at h; done)
      | (simp only [Option.map_eq_some_iff, Option.bind_eq_some_iff] at h; obtain ⟨_, _, h⟩ := h; repeat' split at h
         all_goals first
          | (simp at h; done)
          | (simp only [Option.map_eq_some_iff, Option.bind_eq_some_iff] at h; obtain ⟨_, _, h⟩ := h; simp at h; done)
          | (simp only [Option.map_eq_some_iff, Option.bind_eq_some_iff] at h; obtain ⟨_, _, _, _, h⟩ := h; simp at h; done))
      | (simp only [Option.map_eq_some_iff, Option.bind_eq_some_iff] at h; obtain ⟨_, _, _, _, h⟩ := h; repeat' split at h
         all_goals first
          | (simp at h; done)
          | (simp only [Option.map_eq_some_iff, Option.bind_eq_some_iff] at h; obtain ⟨_, _, h⟩ := h; simp at h; done)
          | (simp only [Option.map_eq_some_iff, Option.bind_eq_some_iff] at h; obtain ⟨_, _, _, _, h⟩ := h; simp at h; done))

theorem foldl_bind {N : Nat} {c : Ctx} : ∀ (ps : List Nat) (vs : List Value) (us : List V) (tmps : Array Value) (t : Nat → V), ps.length = us.length → vs.length = us.length → (∀ p ∈ ps, p < N) → tmps.size = N → (∀ i, RV c (tmps.getD i undef) (t i)) →
    (∀ (i : Nat) (x : Value) (u : V), vs[i]? = some x → us[i]? = some u → RV c x u) →
    ((ps.zip vs).foldl (fun tmps (ta : Nat × Value) => tmps.setIfInBounds ta.1 ta.2) tmps).size = N ∧ ∀ i, RV c (((ps.zip vs).foldl (fun tmps (ta : Nat × Value) => tmps.setIfInBounds ta.1 ta.2) tmps).getD i undef) (bindP t ps us i) := by
  intro ps
  induction ps with
  | nil => intro vs us tmps t h1 h2 _ hN ht _; exact ⟨by simpa using hN, fun i => by simpa [bindP] using ht i⟩
  | cons p ps ih =>
    intro vs us tmps t h1 h2 hp hN ht hv
    cases us with
    | nil => simp at h1
    | cons u us =>
      cases vs with
      | nil => simp at h2
      | cons x vs =>
        simp only [List.zip_cons_cons, List.foldl_cons, bindP]
        refine ih vs us _ _ (by simpa using h1) (by simpa using h2) (fun q hq => hp q (by simp [hq])) (by simpa using hN) (fun i => ?_) fun i y w hy hw => hv (i + 1) y w (by simpa using hy) (by simpa using hw)
        have hlt : p < tmps.size := by rw [hN]; exact hp p (by simp)
        by_cases e : i = p
        · subst e
          rw [upd_self]
          have : (tmps.setIfInBounds i x).getD i undef = x := by simp [Array.getD, hlt]
          rw [this]
          exact hv 0 x u rfl rfl
        · rw [upd_ne _ _ e]
          have : (tmps.setIfInBounds p x).getD i undef = tmps.getD i undef := by
            simp only [Array.getD_eq_getD_getElem?]
            rw [Array.getElem?_setIfInBounds_ne (fun h => e h.symm)]
          rw [this]
          exact ht i

theorem evalOpsY_other {ic : Nat → List V → St → Option Res} {L : LoopD} {rd : List V → St → Option (Option Ex × St)} {o : TO} {os : List TO} {st : St} {p : Option Ex} (h : ∀ x as, o.o ≠ .yield x as) :
    evalOpsY C ic L rd (o :: os) st p = match stepOp C ic (fun _ _ => none) o st with
      | some r => evalOpsY C ic L rd os (st.put o.d r) p
      | none => none := by
  cases ho : o.o <;> first
    | (exact absurd ho (h _ _))
    | (simp only [evalOpsY, ho]; rfl)

theorem regY_ok (hC : CfgOk P C) (hS : ∀ b o, D.S b o → b < D.B) {n : Nat} (ihE : ExecOk P D C n) (hic : IcOk P D (icAt C n)) {L : LoopD} {r0 : Loop} {l : Nat} {cL cM : Ctx} (hL : LoopOk P D C L r0 l cL cM) {B0 N : Nat} {pol : Pol} {ops : Array Oper} (hd : ∀ o' ∈ ops.toList, ∀ d, o'.dst = some d → d < N) {Q : Exit → Act → World → Prop} {st' : St} {p' : Option Ex}
    (hQ : ∀ a' w' f' φ', GoodY D B0 N r0 l cL cM st' p' a' w' f' φ' → Q .normal a' w') :
    ∀ (tos : List TO) (k : Nat) (st : St) (p : Option Ex) (a : Act) (w : World) (f : Nat → Nat → Nat) (φ : Nat → Option (Nat × Nat)), GoodY D B0 N r0 l cL cM st p a w f φ → k + tos.length = ops.size →
      (∀ (j : Nat) (o : Oper) (to : TO), ops[k + j]? = some o → tos[j]? = some to → compOper P pol N ops o to.free = some to ∧ to.free = false) → evalOpsY C (icAt C n) L (roundT (fun c st => exec C n c st) L) tos st p = some (st', p') →
      wpOpsIn (Fr none) 0 P ops Q (List.range' k tos.length) a w := by
  intro tos
  induction tos with
  | nil =>
    intro k st p a w f φ hG hk hcmp he
    simp only [evalOpsY, Option.some.injEq, Prod.mk.injEq] at he
    obtain ⟨rfl, rfl⟩ := he
    exact hQ a w f φ hG
  | cons to tos ih =>
    intro k st p a w f φ hG hk hcmp he
    simp only [List.length_cons] at hk
    simp only [List.length_cons, List.range'_succ]
    rw [wpOpsIn_cons]
    have hlt : k < ops.size := by omega
    have hi : ops[k]? = some ops[k] := Array.getElem?_eq_getElem hlt
    obtain ⟨hc, hfr⟩ := hcmp 0 ops[k] to (by simp) rfl
    have hnext : ∀ (j : Nat) (o : Oper) (to' : TO), ops[k + 1 + j]? = some o → tos[j]? = some to' → compOper P pol N ops o to'.free = some to' ∧ to'.free = false := fun j o to' ho ht => hcmp (j + 1) o to' (by rw [← ho]; congr 1; omega) (by simpa using ht)
    by_cases hy : ∃ x as, to.o = .yield x as
    · obtain ⟨x', as, hy⟩ := hy
      simp only [evalOpsY, hy] at he
      split at he
      · rename_i _ _ fr sl g hg hv
        split at he
        · rename_i hkey
          obtain ⟨k1, k2, k3, k4⟩ := hkey
          split at he
          · rename_i p1 st2 hrd
            -- the operation
            obtain ⟨e1, _, hdN⟩ := compOper_dst hc
            simp only [compOper, Option.bind_eq_some_iff] at hc
            obtain ⟨gg, hgg, hc⟩ := hc
            have hto : to.g = gg ∧ to.o = (compOp P pol (ops[k].dst.getD 0) ops[k].op).getD .fail := by
              split at hc
              · split at hc
                · injection hc with hc; rw [← hc]; exact ⟨rfl, rfl⟩
                · simp at hc
              · injection hc with hc; rw [← hc]; exact ⟨rfl, rfl⟩
            have hguard : ops[k].guard = none := by
              cases hq : ops[k].guard with
              | none => rfl
              | some jb =>
                rw [hq] at hgg
                obtain ⟨j, b⟩ := jb
                simp only [compGuard, Option.map_eq_some_iff] at hgg
                obtain ⟨d, _, hgg⟩ := hgg
                rw [← hto.1, hg] at hgg
                simp at hgg
            have hcomp : compOp P pol (ops[k].dst.getD 0) ops[k].op = some (.yield x' as) := by
              have := hto.2
              rw [hy] at this
              cases hq : compOp P pol (ops[k].dst.getD 0) ops[k].op with
              | none => rw [hq] at this; simp at this
              | some t => rw [hq] at this; simp only [Option.getD_some] at this; rw [this]
            obtain ⟨c, x, hop, hcal, hx, has⟩ := comp_yield hcomp
            have hxr := RV.opd hG.good.t hx
            rw [hv] at hxr
            have hlive : ∃ ob, st.s fr sl = some (g, ob) := by
              unfold isLoop at k4
              split at k4
              · rename_i g' hs
                have : g' = g := by simpa using k4
                subst this
                exact ⟨_, hs⟩
              · simp at k4
            obtain ⟨ob, hlive⟩ := hlive
            have hobj := Ctx.of_obj_live (D := D) (τ := st.τ) (n := st.n) (w := w) (f := f) (φ := φ) hlive
            have hfl : f fr sl = l := by
              have h1 := hG.lL.obj fr sl g (f fr sl) (by rw [k3]; exact hL.gn) hobj
              have h2 := hL.key
              rw [k1, k2, k3] at h1
              rw [h1] at h2
              injection h2 with h2
              rw [k1, k2]; exact h2
            have hxe : a.eval x = .func (.yield l) #[] #[] := by
              generalize a.eval x = ax at hxr
              cases hxr with
              | yld h1 h2 => rw [h2 _ hobj, hfl]
            have hr0 : recOf r0 none = r0 := by
              have h1 := hL.st0
              have h2 := hL.pd0
              cases r0
              simp only at h1 h2
              subst h1 h2
              rfl
            have hrec := hG.rcd
            rw [hr0] at hrec
            obtain ⟨N', pol', ha', hb', ka', kb', hN', hpN'⟩ := hL.code
            obtain ⟨g1, g2⟩ := args_rv hG.good.t has
            unfold roundT at hrd
            split at hrd
            · rename_i hlen
              have hsz : (c.args.map a.eval).size = r0.params.size := by
                rw [← hL.ps] at hlen
                rw [g1, hlen]
                simp
              -- a round
              unfold wpOpIn
              rw [hi]
              simp only [Region.wanted, hguard]
              have hrun : (ops[k].semAt (Fr none).round a.eval).run P w = .ok (.round l r0.fn ((r0.params.zip (c.args.map a.eval)).foldl (fun tmps (t, a) => tmps.setIfInBounds t a) r0.tmps) r0.assign r0.body) w := by
                have h1 : ops[k].semAt (Fr none).round a.eval = execOp a.eval ops[k] := rfl
                rw [h1]
                have := run_yield (P := P) (args := c.args.map a.eval) hrec hsz
                simp [execOp, hop, resolve, hcal, hxe, Deferred.ofValue, invoke, this]
              refine ⟨fun _ _ => trivial, ?_⟩
              rw [hrun, Oper.uponIn_round]
              refine ⟨fun h => by simp [Fr, Fence.wide] at h, roundIn_of_wpIn (F := Fr none) trivial ?_⟩
              show r0.assign.wpIn (Fr (some l)) 0 P _ _ w
              have hbind := foldl_bind (N := N') (c := Ctx.of D st.s st.τ st.n w f φ) r0.params.toList (c.args.map a.eval).toList (as.map (·.val st.t)) r0.tmps L.t (by rw [hL.ps]; simpa using hlen.symm) (by simpa using g1) (by rw [hL.ps]; exact hpN') hN' (fun i => (hL.t i).monow hG.lL)
                (fun i y u hy hu => g2 i y u (by simpa using hy) (by simpa using hu))
              have hfold : (r0.params.zip (c.args.map a.eval)).foldl (fun tmps (t, a) => tmps.setIfInBounds t a) r0.tmps = (r0.params.toList.zip (c.args.map a.eval).toList).foldl (fun tmps (ta : Nat × Value) => tmps.setIfInBounds ta.1 ta.2) r0.tmps := by
                rw [← Array.foldl_toList, Array.toList_zip]
              rw [hfold]
              split at hrd
              · rename_i st1 hea
                refine ihE (some l) w.heap.size N' pol' r0.assign L.a ha' ka' _ _ _ hea { tmps := _, defers := [] } w f φ ⟨hG.good.rel, fun i => by have := hbind.2 i; rw [hL.ps] at this ⊢; exact this, hbind.1, Marks.nil (Nat.le_refl _)⟩ (fun l' h => by injection h with h; subst h; exact ⟨_, hrec⟩) _ fun a1 w1 f1 φ1 hG1 hle1 => ?_
                have hrec1 : w1.heap[l]? = some (.loop r0) := hle1.oth l _ hrec rfl
                obtain ⟨hR2, hlw2⟩ := hG1.rel.turn (o' := .loop { r0 with state := .busy }) hrec1 rfl rfl hL.lB (fun r _ => ⟨_, rfl⟩)
                refine ⟨w1.putObj l (.loop { r0 with state := .busy }), run_beginRound hrec1 hL.st0, ?_⟩
                have hrec2 : (w1.putObj l (.loop { r0 with state := .busy })).heap[l]? = some (.loop { r0 with state := .busy }) := World.putObj_heap_same (heap_lt hrec1)
                have hG2 : Good D w.heap.size N' st1 a1 (w1.putObj l (.loop { r0 with state := .busy })) f1 φ1 := ⟨hR2, fun i => (hG1.t i).monow hlw2, hG1.size, hG1.defers.turn hrec1⟩
                have round : ∀ (e3 : Ex) (st3 : St), exec C n L.b st1 = some (e3, st3) → p1 = (if e3 = .normal then none else some e3) → st2 = st3 → r0.body.wpIn (Fr (some l)) 0 P (roundPost P l fun
                    | .returned v, w'' => wpOpsIn (Fr none) 0 P ops Q (List.range' (k + 1) tos.length) (a.put ops[k].dst v) w''
                    | .panicked chain, w'' => Q (.panic chain) a w''
                    | .outgrown, _ => LetsOut Q) a1 (w1.putObj l (.loop { r0 with state := .busy })) := by
                  intro e3 st3 heb hp1 hst2
                  subst hst2
                  refine ihE (some l) w.heap.size N' pol' r0.body L.b hb' kb' _ _ _ heb a1 _ f1 φ1 hG2 (fun l' h => by injection h with h; subst h; exact ⟨_, hrec2⟩) _ fun a3 w3 f3 φ3 hG3 hle3 => ?_
                  have hrec3 : w3.heap[l]? = some (.loop { r0 with state := .busy }) := hle3.oth l _ hrec2 rfl
                  have fin : ∀ (jump : Option Code) (o' : Loop), o' = { ({ r0 with state := .busy } : Loop) with state := if jump.isNone then .ready else .done, pending := jump } → o' = recOf r0 p1 → p1 ≠ some .normal → jump.isNone = p1.isNone →
                      ∃ v w', (Instr.endRound l jump).run P w3 = .ok v w' ∧ wpOpsIn (Fr none) 0 P ops Q (List.range' (k + 1) tos.length) (a.put ops[k].dst v) w' := by
                    intro jump o' ho' hor hpn hjp
                    obtain ⟨hR4, hlw4⟩ := hG3.rel.turn (o' := .loop o') hrec3 rfl rfl hL.lB (fun r _ => ⟨_, rfl⟩)
                    refine ⟨.bool jump.isNone, w3.putObj l (.loop o'), by rw [ho']; exact run_endRound jump hrec3, ?_⟩
                    have hlw : (Ctx.of D st.s st.τ st.n w f φ).lw (Ctx.of D st2.s st2.τ st2.n (w3.putObj l (.loop o')) f3 φ3) := hle1.lw.trans (hlw2.trans (hle3.lw.trans hlw4))
                    have hMd : Marks B0 (w3.putObj l (.loop o')) a.defers := by
                      have m1 : Marks B0 w1 a.defers := Marks.mono (c := Ctx.of D st.s st.τ st.n w f φ) hG.good.defers hle1
                      have m2 := m1.turn (o' := .loop { r0 with state := .busy }) hrec1
                      have m3 : Marks B0 w3 a.defers := Marks.mono (c := Ctx.of D st1.s st1.τ st1.n (w1.putObj l (.loop { r0 with state := .busy })) f1 φ1) m2 hle3
                      exact m3.turn hrec3
                    obtain ⟨t1, t2, t3⟩ := put_tmps (a := a) hG.good.size hdN (Ctx.le.refl (Ctx.of D st2.s st2.τ st2.n (w3.putObj l (.loop o')) f3 φ3)) (t := st.t) (fun i => (hG.good.t i).monow hlw) (x := .bool jump.isNone) (v := .lit (.bool p1.isNone)) (by rw [hjp]; exact .lit rfl)
                    refine ih (k + 1) (St.put ⟨st.t, st2.s, st2.τ, st2.n, st.fr⟩ to.d ⟨.lit (.bool p1.isNone), st2.s, st2.τ, st2.n⟩) p1 _ _ f3 φ3 ⟨⟨hR4, fun i => ?_, t2, by rw [t3]; exact hMd⟩, ?_, ?_, ?_, hpn⟩ (by omega) hnext he
                    · have := t1 i
                      simp only [St.put, e1]
                      exact this
                    · rw [← hor]; exact World.putObj_heap_same (heap_lt hrec3)
                    · exact hG.lL.trans hlw
                    · exact le_turn ((le_turn (hG.lM.trans hle1) hL.lM hlw2).trans hle3) hL.lM hlw4
                  cases e3 with
                  | normal =>
                    simp only [if_true] at hp1
                    subst hp1
                    exact fin none _ rfl (by simp [recOf]) (by simp) rfl
                  | ret =>
                    have hp1' : p1 = some .ret := by simpa using hp1
                    subst hp1'
                    exact fin (some .ret) _ rfl (by simp [recOf]) (by simp) rfl
                  | exit id =>
                    have hp1' : p1 = some (.exit id) := by simpa using hp1
                    subst hp1'
                    exact fin (some (.exit id)) _ rfl (by simp [recOf]) (by simp) rfl
                split at hrd
                · rename_i st3 heb
                  simp only [Option.some.injEq, Prod.mk.injEq] at hrd
                  exact round _ _ heb hrd.1.symm hrd.2.symm
                · rename_i e3 st3 hne heb
                  simp only [Option.some.injEq, Prod.mk.injEq] at hrd
                  have hn : e3 ≠ .normal := fun e => by subst e; exact hne rfl
                  exact round _ _ heb (by rw [if_neg hn]; exact hrd.1.symm) hrd.2.symm
                · simp at hrd
              · simp at hrd
            · simp at hrd
          · simp at he
        · simp at he
      · simp at he
    · have hno : ∀ x as, to.o ≠ .yield x as := fun x as h => hy ⟨x, as, h⟩
      rw [evalOpsY_other hno] at he
      split at he
      · rename_i r hr
        obtain ⟨e1, _, e3⟩ := compOper_dst hc
        refine step_ok hC hic hG.good.rel hS hG.good.t hi hG.good.size hc hd (fun h => by rw [hfr] at h; simp at h) (fun h => by rw [hfr] at h; simp at h) hr fun x w' f' φ' hR' hle hx => ?_
        obtain ⟨h1, h2, h3⟩ := put_tmps hG.good.size e3 hle hG.good.t hx
        refine ih (k + 1) (st.put to.d r) p _ w' f' φ' (hG.step (st' := st.put to.d r) ⟨hR', ?_, h2, by rw [h3]; exact hG.good.defers.mono hle⟩ hle) (by omega) hnext he
        intro i
        have := h1 i
        simp only [St.put, e1]
        exact this
      · simp at he

theorem execY_ok_step (hm : P.follows .mixedOrders = true) (hC : CfgOk P C) (hK : CodeOk P C) (hS : ∀ b o, D.S b o → b < D.B) {n : Nat} (ih : ∀ m, m < n + 1 → ExecOk P D C m) (ihY : ∀ m, m < n + 1 → ExecYOk P D C m) : ExecYOk P D C (n + 1) := by
  intro L r0 l cL cM hL B0 N pol c tc hc hchk st p e st' p' he a w f φ hG Q hQ
  have hic : IcOk P D (icAt C n) := icAt_ok hK (ih n (Nat.lt_succ_self n))
  have nn := Nat.lt_succ_self n
  cases c with
  | skip =>
    simp only [compC, Option.some.injEq] at hc
    subst hc
    simp only [execY, Option.some.injEq, Prod.mk.injEq] at he
    obtain ⟨rfl, rfl, rfl⟩ := he
    exact wpIn_skip (hQ a w f φ hG)
  | exit id =>
    simp only [compC, Option.some.injEq] at hc
    subst hc
    simp only [execY, Option.some.injEq, Prod.mk.injEq] at he
    obtain ⟨rfl, rfl, rfl⟩ := he
    exact wpIn_exit (hQ a w f φ hG)
  | ret =>
    simp only [compC, Option.some.injEq] at hc
    subst hc
    simp only [execY, Option.some.injEq, Prod.mk.injEq] at he
    obtain ⟨rfl, rfl, rfl⟩ := he
    exact wpIn_ret (hQ a w f φ hG)
  | seq x y =>
    simp only [compC, Option.bind_eq_some_iff, Option.map_eq_some_iff] at hc
    obtain ⟨tx, hx, ty, hy, rfl⟩ := hc
    simp only [chkTC, Bool.and_eq_true] at hchk
    obtain ⟨kx, ky⟩ := hchk
    simp only [execY] at he
    refine wpIn_seq ?_
    split at he
    · rename_i st1 p1 h1
      refine ihY n nn L r0 l cL cM hL B0 N pol x tx hx kx _ _ _ _ _ h1 a w f φ hG _ fun a1 w1 f1 φ1 hG1 => ?_
      exact ihY n nn L r0 l cL cM hL B0 N pol y ty hy ky _ _ _ _ _ he a1 w1 f1 φ1 hG1 Q hQ
    · rename_i hne
      refine ihY n nn L r0 l cL cM hL B0 N pol x tx hx kx _ _ _ _ _ he a w f φ hG _ fun a1 w1 f1 φ1 hG1 => ?_
      cases e with
      | normal => exact absurd he (hne st' p')
      | exit id => exact hQ a1 w1 f1 φ1 hG1
      | ret => exact hQ a1 w1 f1 φ1 hG1
  | cond q x y =>
    simp only [compC, Option.bind_eq_some_iff, Option.map_eq_some_iff] at hc
    obtain ⟨q', hq, tx, hx, ty, hy, rfl⟩ := hc
    simp only [chkTC, Bool.and_eq_true] at hchk
    obtain ⟨kx, ky⟩ := hchk
    simp only [execY] at he
    split at he
    · rename_i b hb
      have hr := RV.opd hG.good.t hq
      rw [hb] at hr
      refine wpIn_cond (hr.lit_inv).1 ?_
      cases b with
      | true => exact ihY n nn L r0 l cL cM hL B0 N pol x tx hx kx _ _ _ _ _ (by simpa using he) a w f φ hG Q hQ
      | false => exact ihY n nn L r0 l cL cM hL B0 N pol y ty hy ky _ _ _ _ _ (by simpa using he) a w f φ hG Q hQ
    · simp at he
  | block id x =>
    simp only [compC, Option.map_eq_some_iff] at hc
    obtain ⟨tx, hx, rfl⟩ := hc
    have kx : chkTC C tx = true := hchk
    simp only [execY] at he
    refine wpIn_block ?_
    split at he
    · rename_i i st1 p1 h1
      refine ihY n nn L r0 l cL cM hL B0 N pol x tx hx kx _ _ _ _ _ h1 a w f φ hG _ fun a1 w1 f1 φ1 hG1 => ?_
      split at he
      · rename_i hi
        simp only [Option.some.injEq, Prod.mk.injEq] at he
        obtain ⟨rfl, rfl, rfl⟩ := he
        simpa [exOf, Exit.inBlock, hi] using hQ a1 w1 f1 φ1 hG1
      · rename_i hi
        simp only [Option.some.injEq, Prod.mk.injEq] at he
        obtain ⟨rfl, rfl, rfl⟩ := he
        simpa [exOf, Exit.inBlock, hi] using hQ a1 w1 f1 φ1 hG1
    · rename_i hne
      refine ihY n nn L r0 l cL cM hL B0 N pol x tx hx kx _ _ _ _ _ he a w f φ hG _ fun a1 w1 f1 φ1 hG1 => ?_
      cases e with
      | normal => exact hQ a1 w1 f1 φ1 hG1
      | exit i => exact absurd he (hne i st' p')
      | ret => exact hQ a1 w1 f1 φ1 hG1
  | loop x =>
    simp only [compC, Option.map_eq_some_iff] at hc
    obtain ⟨tx, hx, rfl⟩ := hc
    have kx : chkTC C tx = true := hchk
    refine wpIn_loop_rounds (n + 1) ?_
    have rounds : ∀ m, m ≤ n + 1 → ∀ (st : St) (p : Option Ex) (e : Ex) (st' : St) (p' : Option Ex), execY C L m (.loop tx) st p = some (e, st', p') → ∀ (a : Act) (w : World) (f : Nat → Nat → Nat) (φ : Nat → Option (Nat × Nat)), GoodY D B0 N r0 l cL cM st p a w f φ →
        (∀ a' w' f' φ', GoodY D B0 N r0 l cL cM st' p' a' w' f' φ' → Q (exOf e) a' w') → Code.roundsIn (Fr none) 0 P x Q m a w := by
      intro m
      induction m with
      | zero => intro _ st p e st' p' h; simp [execY] at h
      | succ m ihm =>
        intro hle st p e st' p' h a w f φ hG hQ
        rw [roundsIn_succ]
        simp only [execY] at h
        split at h
        · rename_i st1 p1 h1
          refine ihY m (by omega) L r0 l cL cM hL B0 N pol x tx hx kx _ _ _ _ _ h1 a w f φ hG _ fun a1 w1 f1 φ1 hG1 => ?_
          exact ihm (by omega) st1 p1 e st' p' h a1 w1 f1 φ1 hG1 hQ
        · rename_i hne
          refine ihY m (by omega) L r0 l cL cM hL B0 N pol x tx hx kx _ _ _ _ _ h a w f φ hG _ fun a1 w1 f1 φ1 hG1 => ?_
          cases e with
          | normal => exact absurd h (hne st' p')
          | exit id => exact hQ a1 w1 f1 φ1 hG1
          | ret => exact hQ a1 w1 f1 φ1 hG1
    exact rounds (n + 1) (Nat.le_refl _) st p e st' p' he a w f φ hG hQ
  | region id ops draw =>
    have plain : ∀ tc', tc' = tc → (exec C n tc' st).map (fun r => (r.1, r.2, p)) = some (e, st', p') → (Code.region id ops draw).wpIn (Fr none) 0 P Q a w := by
      intro tc' htc' hmap
      subst htc'
      simp only [Option.map_eq_some_iff, Prod.mk.injEq] at hmap
      obtain ⟨⟨e1, st1⟩, hex, rfl, rfl, rfl⟩ := hmap
      exact ih n nn none B0 N pol _ _ hc hchk st e1 st1 hex a w f φ hG.good Rd.none Q fun a' w' f' φ' hG' hle' => hQ a' w' f' φ' (hG.step hG' hle')
    have hc0 := hc
    simp only [compC, Option.map_eq_some_iff] at hc
    obtain ⟨tos, htos, hc⟩ := hc
    split at hc
    · split at hc
      · subst hc; simp [execY] at he
      · split at hc
        · subst hc
          simp only [execY] at he
          exact plain _ rfl he
        · subst hc
          simp only [execY] at he
          exact plain _ rfl he
    · rename_i hdraw
      have hdr : draw = false := by simpa using hdraw
      subst hdr
      subst hc
      have hd := mapO_dst htos
      obtain ⟨hlen, hget⟩ := mapO_some htos
      have hlen' : tos.length = ops.size := by simpa using hlen.symm
      simp only [execY, Option.map_eq_some_iff] at he
      obtain ⟨⟨st1, p1⟩, hev, he⟩ := he
      injection he with e1 e2
      injection e2 with e2 e3
      subst e1 e2 e3
      refine wpIn_region ?_
      have := regY_ok (Q := Q) (pol := pol) (N := N) (B0 := B0) hC hS (ih n nn) hic hL hd hQ tos 0 st p a w f φ hG (by omega) (fun j o to ho hto => ?_) hev
      · rw [List.range_eq_range', ← hlen']; exact this
      · have h1 := hget j o to (by simpa using ho) hto
        obtain ⟨_, e2, _⟩ := compOper_dst h1
        rw [e2]
        exact ⟨h1, rfl⟩
  | rangeFunc g ps ca cb =>
    simp only [compC, Option.bind_eq_some_iff, Option.map_eq_some_iff] at hc
    obtain ⟨g', hg', ta, hta, tb, htb, hc⟩ := hc
    split at hc
    · injection hc with hc
      subst hc
      simp [execY] at he
    · simp at hc
  | _ =>
    simp only [compC, Option.some.injEq] at hc
    subst hc
    simp [execY] at he

theorem both_ok (hm : P.follows .mixedOrders = true) (hC : CfgOk P C) (hK : CodeOk P C) (hS : ∀ b o, D.S b o → b < D.B) : ∀ n, ExecOk P D C n ∧ ExecYOk P D C n := by
  intro n
  induction n using Nat.strongRecOn with
  | ind n ih =>
    cases n with
    | zero => exact ⟨fun _ _ _ _ _ _ _ _ _ _ _ h => by simp [exec] at h, fun _ _ _ _ _ _ _ _ _ _ _ _ _ _ _ _ _ _ h => by simp [execY] at h⟩
    | succ n => exact ⟨exec_ok_step hm hC hK hS (fun m h => (ih m h).1) (fun m h => (ih m h).2), execY_ok_step hm hC hK hS (fun m h => (ih m h).1) (fun m h => (ih m h).2)⟩

/-- A function's run on a store of its own. -/
theorem run_start (hm : P.follows .mixedOrders = true) (hC : CfgOk P C) (hK : CodeOk P C) {K : Nat} {F : TF} (hF : C.code K = some F) {n : Nat} {vs : List V} (hlen : vs.length = F.args) {e : Ex} {st'' : St} (hex : exec C n F.body (start vs) = some (e, st'')) (he : e = .normal ∨ e = .ret)
    {v : V} (hv : resultsV st'' F.res = some v) : IpOk P K vs v st''.s st''.τ st''.n := by
  intro w S vals hS hsz hrv
  obtain ⟨hb, hchk, pol, hcomp⟩ := hK K F hF
  simp only [compF, Option.bind_eq_some_iff] at hcomp
  obtain ⟨fn, hfn, c, hc, tc, htc, rs, hrs, hcomp⟩ := hcomp
  split at hcomp
  · rename_i hNle
    injection hcomp with hcomp
    subst hcomp
    simp only at hlen hv hex hchk
    obtain ⟨D, hD⟩ : ∃ D : Base, D = ⟨w, w.heap.size, S⟩ := ⟨_, rfl⟩
    have hR : Rel D (start vs).s (start vs).τ (start vs).n w (fun _ _ => 0) (fun _ => none) := by
      rw [hD]
      exact ⟨Below.refl _ _, Nat.le_refl _, fun _ _ _ _ h => by simp [start] at h, fun _ _ _ _ _ _ h => by simp [start] at h, fun _ h => by simp [start] at h, fun _ _ _ h => by simp [start] at h, fun _ _ _ _ _ h => by simp [start] at h⟩
    have hle : (Ctx.bare w S).le (Ctx.of D (start vs).s (start vs).τ (start vs).n w (fun _ _ => 0) (fun _ => none)) := by
      refine le_bare rfl fun b o h => .inl ?_
      rw [hD]
      exact ⟨hS b o h, h⟩
    have hG : Good D w.heap.size fn.ntmps (start vs) { tmps := vals ++ Array.replicate (fn.ntmps - vals.size) undef, defers := [] } w (fun _ _ => 0) (fun _ => none) :=
      enter_good (N := fn.ntmps) hR hsz (by omega) (Nat.le_refl _) (fun i x t hx ht => (hrv i x t hx ht).mono hle) (st1 := start vs) rfl rfl rfl rfl (Ctx.le.refl _) hR
    refine (calls_fr (ro := none) (m := 0)).1 (callsIn_of_wp_marks (F := Fr none) hfn hc trivial ?_ rfl)
    refine (both_ok (D := D) hm hC hK (by rw [hD]; exact hS) n).1 none w.heap.size fn.ntmps pol c tc htc hchk _ _ _ hex _ w _ _ hG Rd.none _ fun a' w' f' φ' hG' hle' => ?_
    have fin := fn_parts (P := P) (R := fun e w' => ∃ (x : Value) (f' : Nat → Nat → Nat) (φ' : Nat → Option (Nat × Nat)), e = .returned x ∧ Rel ⟨w, w.heap.size, S⟩ st''.s st''.τ st''.n w' f' φ' ∧ RV (Ctx.of ⟨w, w.heap.size, S⟩ st''.s st''.τ st''.n w' f' φ') x v) hG' hrs hv (by rw [hD]; exact Nat.le_refl _) fun z w2 q1 q2 _ _ _ => ⟨z, f', φ', rfl, by rw [← hD]; exact q1, by rw [← hD]; exact q2⟩
    rcases he with rfl | rfl
    · exact fin
    · exact fin
  · simp at hcomp

theorem runI_ok (hm : P.follows .mixedOrders = true) (hC : CfgOk P C) (hK : CodeOk P C) {K : Nat} {F : TF} (hF : C.code K = some F) {n : Nat} {vs : List V} (hlen : vs.length = F.args) {v : V} {s' : Sto} {τ' : Nat → Bool} {n' : Nat} (h : runI C n F vs = some (v, s', τ', n')) : IpOk P K vs v s' τ' n' := by
  unfold runI at h
  split at h
  · rename_i st'' hex
    rw [Option.map_eq_some_iff] at h
    obtain ⟨u, hu, h⟩ := h
    simp only [Prod.mk.injEq] at h
    obtain ⟨rfl, rfl, rfl, rfl⟩ := h
    exact run_start hm hC hK hF hlen hex (.inl rfl) hu
  · rename_i st'' hex
    rw [Option.map_eq_some_iff] at h
    obtain ⟨u, hu, h⟩ := h
    simp only [Prod.mk.injEq] at h
    obtain ⟨rfl, rfl, rfl, rfl⟩ := h
    exact run_start hm hC hK hF hlen hex (.inr rfl) hu
  · simp at h

/-- What is called on a store of its own and shows no store is pure. -/
theorem IpOk.pure {K : Nat} {vs : List V} {v r : V} {s' : Sto} {τ' : Nat → Bool} {n' : Nat} (h : IpOk P K vs v s' τ' n') (hv : view s' viewDepth v = some r) : PureOk P K vs r := by
  intro w S vals hS hsz hrv
  refine (h w S vals hS hsz hrv).mono fun e w' he => ?_
  obtain ⟨x, f', φ', rfl, hR, hx⟩ := he
  refine ⟨x, rfl, hR.below, RV.view hR (fun b o hbo => ?_) viewDepth (fun _ fr sl p hp o => ?_) hx hv⟩
  · rcases hbo with ⟨_, h2⟩ | ⟨h1, h2, _⟩
    · exact .inl h2
    · exact .inr ⟨h1, h2⟩
  · obtain ⟨_, h1, h2, _⟩ := hR.live fr sl p.1 p.2 hp
    exact .inr ⟨h1, h2⟩

/-- What the interpreter answers on a store of its own, the call gives. -/
theorem runF_ok (hm : P.follows .mixedOrders = true) (hC : CfgOk P C) (hK : CodeOk P C) {K : Nat} {F : TF} (hF : C.code K = some F) {n : Nat} {vs : List V} (hlen : vs.length = F.args) {r : V} (h : runF C n F vs = some r) : PureOk P K vs r := by
  unfold runF at h
  split at h
  · rename_i st'' hex
    rw [Option.bind_eq_some_iff] at h
    obtain ⟨v, hv, hview⟩ := h
    exact (run_start hm hC hK hF hlen hex (.inl rfl) hv).pure hview
  · rename_i st'' hex
    rw [Option.bind_eq_some_iff] at h
    obtain ⟨v, hv, hview⟩ := h
    exact (run_start hm hC hK hF hlen hex (.inr rfl) hv).pure hview
  · simp at h
end
end Go.TI
end

/- Layers of the interpreter: a callee's answer is its run one layer below. -/
section
set_option linter.unusedVariables false
namespace Go.TI
open Go Go.RowKit

structure Ext where
  tab : Nat → Option TF
  imp : Nat → Bool
  ext : Nat → List V → Option V
  fre : Nat → List V → Option (Nat × List (List V))
  eqT : Nat → V → V → Option Bool
  fuel : Nat

abbrev Ora := Nat → List V → Option V
abbrev Ipo := Nat → List V → Option (V × Sto × (Nat → Bool) × Nat)

def Ext.cfg (X : Ext) (o : Ora) (p : Ipo) : Cfg := ⟨X.tab, X.imp, o, X.fre, X.eqT, p⟩

def lev (X : Ext) : Nat → Ora × Ipo
  | 0 => (fun _ _ => none, fun _ _ => none)
  | d + 1 => (fun f vs => match X.ext f vs with
      | some r => some r
      | none => match X.tab f with
        | some F => if vs.length = F.args then runF (X.cfg (lev X d).1 (lev X d).2) X.fuel F vs else none
        | none => none,
    fun f vs => match X.tab f with
      | some F => if vs.length = F.args then runI (X.cfg (lev X d).1 (lev X d).2) X.fuel F vs else none
      | none => none)

/-- What is asked of the contracts that are given. -/
structure ExtOk (P : Program) (X : Ext) : Prop where
  mixed : P.follows .mixedOrders = true
  code : ∀ K F, X.tab K = some F → hasBody P K = true ∧ (∀ C : Cfg, C.imp = X.imp → chkTC C F.body = true) ∧ ∃ pol, ∀ C : Cfg, compF P C pol K = some F
  ext : ∀ K vs r, X.ext K vs = some r → hasBody P K = true ∧ PureOk P K vs r
  fre : ∀ K vs k rows, X.fre K vs = some (k, rows) → hasBody P K = true ∧ FreshOk P K vs k rows
  eqT : ∀ T x y b, X.eqT T x y = some b → ∀ (c : Ctx) (vx vy : Value), RV c vx x → RV c vy y → ∀ (w : World) (neg : Bool) (xo yo : Operand),
    (eqGuard (if neg then .neq else .eql) T xo yo vx vy >>= fun _ => binOp (if neg then .neq else .eql) T vx vy).run P w = .ok (.bool (if neg then !b else b)) w

theorem ExtOk.codeOk {P : Program} {X : Ext} (h : ExtOk P X) (o : Ora) (p : Ipo) : CodeOk P (X.cfg o p) := fun K F hF => by
  obtain ⟨h1, h2, pol, h3⟩ := h.code K F hF
  exact ⟨h1, h2 _ rfl, pol, h3 _⟩

theorem ExtOk.lev {P : Program} {X : Ext} (h : ExtOk P X) : ∀ d, CfgOk P (X.cfg (lev X d).1 (lev X d).2) := by
  intro d
  induction d with
  | zero => exact ⟨fun K vs r hr => by simp [Ext.cfg, Go.TI.lev] at hr, h.fre, fun K vs v s' τ' n' hr => by simp [Ext.cfg, Go.TI.lev] at hr, h.eqT⟩
  | succ d ih =>
    refine ⟨fun K vs r hr => ?_, h.fre, fun K vs v s' τ' n' hr => ?_, h.eqT⟩
    · simp only [Ext.cfg, Go.TI.lev] at hr
      split at hr
      · rename_i r' hx
        injection hr with hr
        subst hr
        exact h.ext K vs _ hx
      · split at hr
        · rename_i F hF
          split at hr
          · rename_i hlen
            exact ⟨(h.code K F hF).1, runF_ok h.mixed ih (h.codeOk _ _) hF hlen hr⟩
          · simp at hr
        · simp at hr
    · simp only [Ext.cfg, Go.TI.lev] at hr
      split at hr
      · rename_i F hF
        split at hr
        · rename_i hlen
          exact ⟨(h.code K F hF).1, runI_ok h.mixed ih (h.codeOk _ _) hF hlen hr⟩
        · simp at hr
      · simp at hr

theorem ExtOk.pure {P : Program} {X : Ext} (h : ExtOk P X) {d K : Nat} {vs : List V} {r : V} (e : (Go.TI.lev X d).1 K vs = some r) : hasBody P K = true ∧ PureOk P K vs r := (h.lev d).ora K vs r e
end Go.TI
end

/- slices.Clone at any kind of elements: a slice of its own comes back. -/
section
set_option linter.unusedVariables false
set_option linter.unusedSimpArgs false
namespace Go.TI
open Go Go.RowKit

/-- The body of slices.Clone at the slice type T (of the kind that bool's type is B). -/
def cloneCode (T B : TypeId) (p : Nat → String) (a1 a2 a3 : Array Edge) : Code :=
  (Code.region 0 #[{ dst := some 2, op := .assign (.const (.slice none 0 0)), type := T, pos := p 0, after := #[], guard := none }] false).seq
    (((Code.region 1 #[{ dst := some 3, op := .move (.tmp 0), type := T, pos := p 1, after := #[], guard := none },
        { dst := some 4, op := .binOp .eql T (.tmp 3) (.const (.slice none 0 0)) T, type := B, pos := p 2, after := a1, guard := none }] false).seq
      (Code.cond (.tmp 4) ((Code.region 2 #[{ dst := some 2, op := .assign (.const (.slice none 0 0)), type := T, pos := p 3, after := #[], guard := none }] false).seq Code.ret) Code.skip)).seq
    ((Code.region 3 #[{ dst := some 5, op := .buildSlice T 0 #[], type := T, pos := p 4, after := #[], guard := none },
        { dst := some 6, op := .move (.tmp 0), type := T, pos := p 5, after := #[], guard := none },
        { dst := some 7, op := .call { callee := .builtin .append, args := #[.tmp 5, .tmp 6], argTypes := #[T, T] }, type := T, pos := p 6, after := a2, guard := none },
        { dst := some 2, op := .assign (.tmp 7), type := T, pos := p 7, after := a3, guard := none }] false).seq Code.ret))

theorem wpList_exec {P : Program} {ops : Array Oper} {rest : List Oper} {o : Oper} {a : Act} {Q : Exit → Act → World → Prop} {w w' : World} {v : Value} (hgd : o.guard = none) (h : (execOp a.eval o).run P w = .ok (.value v) w') (k : wpList P ops Q rest (a.put o.dst v) w') : wpList P ops Q (o :: rest) a w := by
  refine wpList_plain hgd fun K hK => ?_
  unfold Oper.wp
  rw [h]
  exact hK _ _ k

theorem clone_empty {P : Program} {K T B e : TypeId} {i : TypeInfo} {z : Value} {p : Nat → String} {a1 a2 a3 : Array Edge} {fn : Func} (hf : P.funcs[K]? = some fn) (hb : fn.body = some (cloneCode T B p a1 a2 a3)) (hn : fn.ntmps = 8) (hr : fn.results = #[.tmp 2])
    (hT : P.underlying T = some (.slice e)) (hi : P.info? e = some i) (hz : i.zero = some z) (A : Option Addr) (cap : Nat) (w : World) :
    Calls P K #[.slice A 0 cap] w fun e w' => ∃ A', e = .returned (.slice A' 0 0) ∧ Below w.heap.size w w' := by
  have q22 : ∀ (w : World) (a : Option Addr) (n c n' c' : Nat), (binOp .eql T (.slice a n c) (.slice none n' c')).run P w = .ok (.bool a.isNone) w := fun w a n c n' c' => Go.Lib.run_eql_slice_nil w _ _ a n c n' c' hT
  have u22 : ∀ w, Sem.run P (underlying T) w = .ok (TypeDesc.slice e) w := run_underlying hT
  have s22 : ∀ w, Sem.run P (sizeOf e) w = .ok i.size w := run_sizeOf hi
  have hap : ∀ (w : World) (base : Option Addr), (Builtin.append_ #[T, T] T #[.slice base 0 0, .slice A 0 cap]).run P w = .ok (.slice base 0 0) w := fun w base =>
    run_app_room (l := 0) (m := 0) (news := []) hT hT hi (by omega) (by cases A <;> simp [Builtin.firstCells, loadCells, loadCellsFrom]) (.inl ⟨rfl, rfl⟩)
  refine calls_of_wp hf hb ?_
  rw [hn]
  simp only [List.size_toArray, List.length_cons, List.length_nil, Nat.reduceAdd, Nat.reduceSub, Array.replicate_succ, Array.replicate_zero, List.push_toArray, List.append_toArray, List.nil_append, List.cons_append]
  unfold cloneCode
  go_wp2_with (at_builtin; refine wpList_exec rfl (app_exec rfl rfl rfl rfl (hap _ _)) ?_)
  · rename_i hA
    refine ⟨rfl, .slice none 0 0, ?_, none, rfl, Below.refl _ _⟩
    simp [results, hr]
  · refine ⟨rfl, .slice (some ⟨w.heap.size, 0, none⟩) 0 0, ?_, _, rfl, (Below.refl _ _).alloc (Nat.le_refl _) _⟩
    simp [results, hr]

/-- A slice that lies in the callee's own store is the caller's own. -/
theorem FreshOk.of_own {P : Program} {K : Nat} {args : List V} {fr sl g k : Nat} {rows rows' : List (List V)} {s' : Sto} {τ' : Nat → Bool} {n' : Nat} (h : IpOk P K args (.own fr sl g 0 rows.length k) s' τ' n') (hs : s' fr sl = some (g, .rows k rows)) (hne : rows ≠ []) (hk : 0 < k)
    (hv : mapO (mapO (view (fun _ _ => none) viewDepth)) rows = some rows') : FreshOk P K args k rows' := by
  intro w S vals hS hsz hrv
  refine (h w S vals hS hsz hrv).mono fun e w' he => ?_
  obtain ⟨x, f', φ', rfl, hR, hx⟩ := he
  obtain ⟨hl, hg⟩ := mapO_some hv
  cases hx with
  | @own a _ _ _ _ _ cap _ h1 h2 h3 =>
    obtain ⟨ha, arr0, ty0, fz0, hb0, hsz0⟩ := h3 _ (Ctx.of_obj_live hs)
    obtain ⟨q1, q2, q3, o, ho, arr, ty, rfl, h5, h6, h7⟩ := hR.live fr sl g _ hs
    have hb0' : w'.heap[f' fr sl]? = some (.cells arr0 ty0 fz0) := hb0
    have ho' : w'.heap[f' fr sl]? = some (.cells arr ty (0, 0)) := ho
    rw [ho'] at hb0'
    injection hb0' with e1
    injection e1 with e2 e3 e4
    subst e2
    refine ⟨a, cap, by rw [hl], hR.below, by rw [← hl]; exact h2, hk, fun r hr => ?_, fun h0 => ?_, fun _ => ⟨f' fr sl, arr, ty, by rw [ha]; simp, q2, ho', by simpa using hsz0, fun j r i t hr ht => ?_⟩⟩
    · obtain ⟨j, hj, rfl⟩ := List.getElem_of_mem hr
      have hj' : j < rows.length := by omega
      have := hg j _ _ (List.getElem?_eq_getElem hj') (List.getElem?_eq_getElem hj)
      obtain ⟨g1, g2⟩ := mapO_some this
      obtain ⟨g3, g4⟩ := h6 _ (List.getElem_mem hj')
      refine ⟨by omega, fun t ht => ?_⟩
      obtain ⟨i, hi, rfl⟩ := List.getElem_of_mem ht
      have hi' : i < rows[j].length := by omega
      exact view_scal (g2 i _ _ (List.getElem?_eq_getElem hi') (List.getElem?_eq_getElem hi)) (g4 _ (List.getElem_mem hi'))
    · rw [h0] at hl
      exact absurd (List.eq_nil_of_length_eq_zero hl) hne
    · have hj : j < rows'.length := (List.getElem?_eq_some_iff.1 hr).1
      have hj' : j < rows.length := by omega
      have hm := hg j _ _ (List.getElem?_eq_getElem hj') hr
      obtain ⟨g1, g2⟩ := mapO_some hm
      have hi : i < r.length := (List.getElem?_eq_some_iff.1 ht).1
      have hi' : i < rows[j].length := by omega
      have hvt := g2 i _ _ (List.getElem?_eq_getElem hi') ht
      obtain ⟨x, hx, hxv⟩ := h7 j _ i _ (List.getElem?_eq_getElem hj') (List.getElem?_eq_getElem hi')
      refine ⟨x, hx, RV.closed (fun b' o' hbo => ?_) viewDepth hxv hvt⟩
      rcases hbo with ⟨_, h2⟩ | ⟨h1, h2, h3, _⟩
      · exact .inl h2
      · exact .inr ⟨h1, h2, fun e => h3 fr sl _ hs e.symm⟩

theorem FreshOk.pure {P : Program} {K : Nat} {args : List V} {k : Nat} {rows : List (List V)} (h : FreshOk P K args k rows) : PureOk P K args (.sl k rows .shared) := by
  intro w S vals hS hsz hrv
  refine (h w S vals hS hsz hrv).mono fun e w' he => ?_
  obtain ⟨A, cap, rfl, hB, hcap, hk, hrows, h0, h1⟩ := he
  refine ⟨_, rfl, hB, ?_⟩
  cases rows with
  | nil => exact .sl (fun _ _ => undef) rfl hcap (by simp) (by simp) (by simp) trivial
  | cons r0 rs =>
    obtain ⟨b, arr, ty, rfl, hb1, hb2, hb3, hb4⟩ := h1 (by simp)
    refine .sl (fun j i => arr.getD (j * k + i) undef) rfl hcap hrows (fun j r i t hr ht => ?_) (fun j r i t hr ht => ?_) trivial
    · obtain ⟨x, hx, _⟩ := hb4 j r i t hr ht
      have hlt : j * k + i < arr.size := (Array.getElem?_eq_some_iff.1 hx).1
      refine ⟨b, 0, rfl, .inr ⟨hb1, (heap_lt hb2)⟩, ?_⟩
      rw [Nat.zero_add]
      exact (cellAt_cells hb2 _).trans (by simp [hlt, hx])
    · obtain ⟨x, hx, hv⟩ := hb4 j r i t hr ht
      have hlt : j * k + i < arr.size := (Array.getElem?_eq_some_iff.1 hx).1
      have hxd : arr.getD (j * k + i) undef = x := by simp [hlt, (Array.getElem?_eq_some_iff.1 hx).2]
      rw [hxd]
      exact hv.mono (le_bare rfl fun b' o' h => h.elim .inl fun h => .inr ⟨h.1, h.2.1⟩)

/-- slices.Clone as the interpreter has it. -/
def cloneTF (k bytes : Nat) (z : List V) : TF :=
  ⟨8, 1, [.tmp 2], (.seq (.reg [⟨some 2, none, .mv (.c (.sl 0 [] .tight)), false⟩]) (.seq (.seq (.reg [⟨some 3, none, .mv (.t 0), false⟩, ⟨some 4, none, .eqn 3 false (.t 3), false⟩]) (.ite (.t 4) (.seq (.reg [⟨some 2, none, .mv (.c (.sl 0 [] .tight)), false⟩]) .ret) .skip)) (.seq (.reg [⟨some 5, none, .bslice k z 0 [] false, false⟩, ⟨some 6, none, .mv (.t 0), false⟩, ⟨some 7, none, .app k bytes (.t 5) (.t 6) true, false⟩, ⟨some 2, none, .mv (.t 7), false⟩]) .ret)))⟩

def polClone : Pol := { obj := fun s => s == 7, cl := fun _ => false, ip := fun _ => false }

theorem compC_cfg {P : Program} (C C' : Cfg) (pol : Pol) (N : Nat) : ∀ c : Code, compC P C pol N c = compC P C' pol N c := by
  intro c
  induction c with
  | seq a b iha ihb => simp only [compC, iha, ihb]
  | cond x a b iha ihb => simp only [compC, iha, ihb]
  | block i a iha => simp only [compC, iha]
  | loop a iha => simp only [compC, iha]
  | rangeFunc f ps a b iha ihb => simp only [compC, iha, ihb]
  | _ => rfl
theorem compF_cfg {P : Program} (C C' : Cfg) (pol : Pol) (K : FuncId) : compF P C pol K = compF P C' pol K := by
  simp only [compF, compC_cfg C C']

/-- What is asked of an instance. -/
structure IsClone (P : Program) (K k bytes : Nat) : Prop where
  mixed : P.follows .mixedOrders = true
  body : hasBody P K = true
  comp : ∃ z, compF P ⟨fun _ => none, fun _ => false, fun _ _ => none, fun _ _ => none, fun _ _ _ => none, fun _ _ => none⟩ polClone K = some (cloneTF k bytes z)
  hk : 0 < k
  hby : 0 < bytes
  empty : ∀ (A : Option Addr) (cap : Nat) (w : World), Calls P K #[.slice A 0 cap] w fun e w' => ∃ A', e = .returned (.slice A' 0 0) ∧ Below w.heap.size w w'

def cloneFre (k bytes : Nat) : List V → Option (Nat × List (List V))
  | [.sl k' rows _] => if rows.isEmpty then some (k, []) else if k' = k ∧ rows.length * bytes ≤ room then (mapO (mapO (view (fun _ _ => none) viewDepth)) rows).map (Prod.mk k) else none
  | _ => none

theorem IsClone.run {P : Program} {K k bytes : Nat} (h : IsClone P K k bytes) {vs : List V} {k1 : Nat} {rows1 : List (List V)} (hf : cloneFre k bytes vs = some (k1, rows1)) : FreshOk P K vs k1 rows1 := by
  unfold cloneFre at hf
  split at hf
  · rename_i k' rows m
    split at hf
    · rename_i he
      simp only [Option.some.injEq, Prod.mk.injEq] at hf
      obtain ⟨rfl, rfl⟩ := hf
      have : rows = [] := by simpa using he
      subst this
      intro w S vals hS hsz hrv
      obtain ⟨v, rfl⟩ : ∃ v, vals = #[v] := by
        obtain ⟨l⟩ := vals
        match l, hsz with
        | [v], _ => exact ⟨v, rfl⟩
      have hv := hrv 0 v _ rfl rfl
      obtain ⟨A, cap, rfl, _, _⟩ := hv.shape_sl
      refine (h.empty A cap w).mono fun e w' he => ?_
      obtain ⟨A', rfl, hB⟩ := he
      exact ⟨A', 0, rfl, hB, Nat.le_refl _, h.hk, by simp, fun _ => rfl, fun h => absurd rfl h⟩
    · rename_i he
      split at hf
      · rename_i hc
        obtain ⟨rfl, hroom⟩ := hc
        rw [Option.map_eq_some_iff] at hf
        obtain ⟨rows', hr', hf⟩ := hf
        simp only [Prod.mk.injEq] at hf
        obtain ⟨rfl, rfl⟩ := hf
        obtain ⟨z, hz⟩ := h.comp
        have hne : rows ≠ [] := by simpa using he
        obtain ⟨C, hC⟩ : ∃ C : Cfg, C = ⟨fun j => if j = K then some (cloneTF k' bytes z) else none, fun _ => false, fun _ _ => none, fun _ _ => none, fun _ _ _ => none, fun _ _ => none⟩ := ⟨_, rfl⟩
        have hcfg : CfgOk P C := by
          subst hC
          exact ⟨fun _ _ _ h => by simp at h, fun _ _ _ _ h => by simp at h, fun _ _ _ _ _ _ h => by simp at h, fun _ _ _ _ h => by simp at h⟩
        have hcode : CodeOk P C := by
          intro j F hF
          rw [hC] at hF
          simp only at hF
          split at hF
          · rename_i e
            injection hF with hF
            subst hF e
            exact ⟨h.body, rfl, polClone, by rw [← hz]; exact compF_cfg _ _ _ _⟩
          · simp at hF
        have hF : C.code K = some (cloneTF k' bytes z) := by rw [hC]; simp
        have hrun : runI C 20 (cloneTF k' bytes z) [.sl k' rows m] = some (.own 0 7 1 0 rows.length k', upd2 (fun _ _ => none) 0 7 (some (1, .rows k' rows)), fun _ => false, 2) := by
          have h0 : rows.isEmpty = false := by simpa using he
          have hk0 : (k' == 0) = false := by have := h.hk; simp; omega
          have hlen : ¬ (rows.length = 0) := fun h => hne (List.eq_nil_of_length_eq_zero h)
          simp [runI, cloneTF, exec, evalOps, stepOp, wantedT, evalOp, St.ok, St.put, start, args0, Opd.val, eqnV, upd, h0, hk0, fillR, rowsOf, h.hk, h.hby, hroom, hne, St.obj, resultsV, resV]
        have hip := runI_ok h.mixed hcfg hcode hF (n := 20) (vs := [.sl k' rows m]) rfl hrun
        exact FreshOk.of_own hip (by rw [upd2_self]) hne h.hk hr'
      · simp at hf
  · simp at hf
end Go.TI
end

/- More fuel gives the same answer. -/
section
set_option linter.unusedVariables false
set_option linter.unusedSimpArgs false
namespace Go.TI
open Go

def Sub3 (f g : Nat → List V → St → Option Res) : Prop := ∀ a b c r, f a b c = some r → g a b c = some r

section
variable {C : Cfg} {ic ic' : Nat → List V → St → Option Res} {slot : Nat} {s0 : Sto}

theorem evalOp_ic (h : Sub3 ic ic') {st : St} {o : TOp} {r : Res} (he : evalOp C ic slot st o = some r) : evalOp C ic' slot st o = some r := by
  cases o <;> simp only [evalOp] at he ⊢ <;> first | exact he | skip
  case call f args =>
    split at he
    · rename_i hi; rw [if_pos hi]; exact h _ _ _ _ he
    · rename_i hi; rw [if_neg hi]; exact he
  case callv x args =>
    split at he
    · rename_i f caps hx
      try simp only
      split at he
      · rename_i hi; rw [if_pos hi]; exact h _ _ _ _ he
      · rename_i hi; rw [if_neg hi]; exact he
    · simp at he

theorem stepOp_ic (h : Sub3 ic ic') {st : St} {o : TO} {r : Res} (he : stepOp C ic s0 o st = some r) : stepOp C ic' s0 o st = some r := by
  unfold stepOp at he ⊢
  split at he
  · rename_i hw
    split at he
    · rename_i hf
      rw [Option.map_eq_some_iff] at he
      obtain ⟨q, hq, rfl⟩ := he
      simp only [hf, if_true, evalOp_ic h hq, Option.map_some]
    · rename_i hf
      simp only [hf, if_false, Bool.false_eq_true, evalOp_ic h he]
  · exact he
  · simp at he

theorem evalOps_ic (h : Sub3 ic ic') : ∀ {os : List TO} {st st' : St}, evalOps C ic os st = some st' → evalOps C ic' os st = some st' := by
  intro os
  induction os with
  | nil => intro st st' he; exact he
  | cons o os ih =>
    intro st st' he
    simp only [evalOps] at he ⊢
    split at he
    · rename_i r hr
      rw [stepOp_ic h hr]
      exact ih he
    · simp at he
theorem evalOpsD_ic (h : Sub3 ic ic') : ∀ {os : List TO} {st st' : St}, evalOpsD C ic s0 os st = some st' → evalOpsD C ic' s0 os st = some st' := by
  intro os
  induction os with
  | nil => intro st st' he; exact he
  | cons o os ih =>
    intro st st' he
    simp only [evalOpsD] at he ⊢
    split at he
    · simp at he
    · rename_i hc
      rw [if_neg hc]
      split at he
      · rename_i r hr
        rw [stepOp_ic h hr]
        exact ih he
      · simp at he
theorem evalOpsK_ic (h : Sub3 ic ic') : ∀ {os : List TO} {st : St} {q : St × List Foot}, evalOpsK C ic os st = some q → evalOpsK C ic' os st = some q := by
  intro os
  induction os with
  | nil => intro st q he; exact he
  | cons o os ih =>
    intro st q he
    simp only [evalOpsK] at he ⊢
    split at he
    · rename_i r f hr hf
      rw [stepOp_ic h hr, hf]
      simp only [Option.map_eq_some_iff] at he ⊢
      obtain ⟨q', hq', rfl⟩ := he
      exact ⟨q', ih hq', rfl⟩
    · simp at he
theorem evalOpsY_ic (h : Sub3 ic ic') {L : LoopD} {rd rd' : List V → St → Option (Option Ex × St)} (hr : ∀ a b r, rd a b = some r → rd' a b = some r) : ∀ {os : List TO} {st : St} {p : Option Ex} {q : St × Option Ex}, evalOpsY C ic L rd os st p = some q → evalOpsY C ic' L rd' os st p = some q := by
  intro os
  induction os with
  | nil => intro st p q he; exact he
  | cons o os ih =>
    intro st p q he
    have other : (match stepOp C ic (fun _ _ => none) o st with
      | some r => evalOpsY C ic L rd os (st.put o.d r) p
      | none => none) = some q → (match stepOp C ic' (fun _ _ => none) o st with
      | some r => evalOpsY C ic' L rd' os (st.put o.d r) p
      | none => none) = some q := by
      intro he
      split at he
      · rename_i r h1
        rw [stepOp_ic h h1]
        exact ih he
      · simp at he
    unfold evalOpsY at he ⊢
    split at he
    · split at he
      · try simp only
        split at he
        · rename_i hk
          rw [if_pos hk]
          split at he
          · rename_i p' st' h1
            rw [hr _ _ _ h1]
            exact ih he
          · simp at he
        · simp at he
      · simp at he
    · exact other he
end

theorem roundT_mono {ex ex' : TC → St → Option (Ex × St)} (h : ∀ c st r, ex c st = some r → ex' c st = some r) {L : LoopD} : ∀ a b r, roundT ex L a b = some r → roundT ex' L a b = some r := by
  intro a b r he
  unfold roundT at he ⊢
  split at he
  · rename_i hl
    rw [if_pos hl]
    split at he
    · rename_i st1 h1
      rw [h _ _ _ h1]
      try simp only
      split at he
      · rename_i st2 h2; rw [h _ _ _ h2]; exact he
      · rename_i e st2 hne h2
        rw [h _ _ _ h2]
        cases e with
        | normal => exact absurd rfl hne
        | _ => exact he
      · simp at he
    · simp at he
  · simp at he

theorem exec_succ (C : Cfg) : ∀ n, (∀ c st r, exec C n c st = some r → exec C (n + 1) c st = some r) ∧ ∀ L c st p r, execY C L n c st p = some r → execY C L (n + 1) c st p = some r := by
  intro n
  induction n with
  | zero => exact ⟨fun _ _ _ h => by simp [exec] at h, fun _ _ _ _ _ h => by simp [execY] at h⟩
  | succ n ih =>
    obtain ⟨ihE, ihY⟩ := ih
    have hic : Sub3 (icAt C n) (icAt C (n + 1)) := by
      intro f vs st r h
      unfold icAt at h ⊢
      split at h
      · rename_i F hF
        try simp only
        split at h
        · rename_i hl
          rw [if_pos hl]
          split at h
          · rename_i st' h1; rw [ihE _ _ _ h1]; exact h
          · rename_i st' h1; rw [ihE _ _ _ h1]; exact h
          · simp at h
        · simp at h
      · simp at h
    constructor
    · intro c st r h
      cases c with
      | skip => exact h
      | exit id => exact h
      | ret => exact h
      | fail => simp [exec] at h
      | reg ops =>
        simp only [exec, Option.map_eq_some_iff] at h ⊢
        obtain ⟨q, hq, rfl⟩ := h
        exact ⟨q, evalOps_ic hic hq, rfl⟩
      | dreg ops ms =>
        simp only [exec, Option.map_eq_some_iff] at h ⊢
        obtain ⟨q, hq, rfl⟩ := h
        exact ⟨q, evalOpsD_ic hic hq, rfl⟩
      | dregK ops ms =>
        rw [exec] at h ⊢
        try simp only at h ⊢
        split at h
        · rename_i st' fs h1
          have h2 := evalOpsK_ic (ic := icAt C n) (ic' := icAt C (n + 1)) hic h1
          have h3 : (match evalOpsK C (icAt C (n + 1)) ops st with
            | some (st', fs) => if feetOk ms fs then some (Ex.normal, st') else none
            | none => none) = some r := by rw [h2]; exact h
          exact h3
        · simp at h
      | seq a b =>
        rw [exec] at h ⊢
        try simp only at h ⊢
        split at h
        · rename_i st' h1
          rw [ihE _ _ _ h1]
          exact ihE _ _ _ h
        · rename_i hne
          cases hq : exec C n a st with
          | none => rw [hq] at h; simp at h
          | some q =>
            rw [ihE _ _ _ hq]
            rw [hq] at h hne
            obtain ⟨e, st'⟩ := q
            cases e with
            | normal => exact absurd rfl (hne st')
            | _ => exact h
      | ite x a b =>
        rw [exec] at h ⊢
        try simp only at h ⊢
        split at h
        · rename_i q hq
          cases q with
          | true => exact ihE _ _ _ h
          | false => exact ihE _ _ _ h
        · simp at h
      | blk id a =>
        rw [exec] at h ⊢
        try simp only at h ⊢
        cases hq : exec C n a st with
        | none => rw [hq] at h; simp at h
        | some q => rw [ihE _ _ _ hq]; rw [hq] at h; exact h
      | loop a =>
        rw [exec] at h ⊢
        try simp only at h ⊢
        split at h
        · rename_i st' h1
          rw [ihE _ _ _ h1]
          exact ihE _ _ _ h
        · rename_i hne
          cases hq : exec C n a st with
          | none => rw [hq] at h; simp at h
          | some q =>
            rw [ihE _ _ _ hq]
            rw [hq] at h hne
            obtain ⟨e, st'⟩ := q
            cases e with
            | normal => exact absurd rfl (hne st')
            | _ => exact h
      | rngf f ps sl a b =>
        rw [exec] at h ⊢
        try simp only at h ⊢
        split at h
        · rename_i g caps hg
          try simp only
          split at h
          · rename_i G hG
            try simp only
            split at h
            · rename_i hc
              rw [if_pos hc]
              split at h
              · rename_i st' p h1; rw [ihY _ _ _ _ _ h1]; exact h
              · rename_i st' p h1; rw [ihY _ _ _ _ _ h1]; exact h
              · simp at h
            · simp at h
          · simp at h
        · simp at h
    · intro L c st p r h
      cases c with
      | skip => exact h
      | exit id => exact h
      | ret => exact h
      | fail => simp [execY] at h
      | rngf f ps sl a b => simp [execY] at h
      | reg ops =>
        simp only [execY, Option.map_eq_some_iff] at h ⊢
        obtain ⟨q, hq, rfl⟩ := h
        exact ⟨q, evalOpsY_ic hic (roundT_mono ihE) hq, rfl⟩
      | dreg ops ms =>
        simp only [execY, Option.map_eq_some_iff] at h ⊢
        obtain ⟨q, hq, rfl⟩ := h
        exact ⟨q, ihE _ _ _ hq, rfl⟩
      | dregK ops ms =>
        simp only [execY, Option.map_eq_some_iff] at h ⊢
        obtain ⟨q, hq, rfl⟩ := h
        exact ⟨q, ihE _ _ _ hq, rfl⟩
      | seq a b =>
        rw [execY] at h ⊢
        try simp only at h ⊢
        split at h
        · rename_i st' p' h1
          rw [ihY _ _ _ _ _ h1]
          exact ihY _ _ _ _ _ h
        · rename_i hne
          cases hq : execY C L n a st p with
          | none => rw [hq] at h; simp at h
          | some q =>
            rw [ihY _ _ _ _ _ hq]
            rw [hq] at h hne
            obtain ⟨e, st', p'⟩ := q
            cases e with
            | normal => exact absurd rfl (hne st' p')
            | _ => exact h
      | ite x a b =>
        rw [execY] at h ⊢
        try simp only at h ⊢
        split at h
        · rename_i q hq
          cases q with
          | true => exact ihY _ _ _ _ _ h
          | false => exact ihY _ _ _ _ _ h
        · simp at h
      | blk id a =>
        rw [execY] at h ⊢
        try simp only at h ⊢
        cases hq : execY C L n a st p with
        | none => rw [hq] at h; simp at h
        | some q => rw [ihY _ _ _ _ _ hq]; rw [hq] at h; exact h
      | loop a =>
        rw [execY] at h ⊢
        try simp only at h ⊢
        split at h
        · rename_i st' p' h1
          rw [ihY _ _ _ _ _ h1]
          exact ihY _ _ _ _ _ h
        · rename_i hne
          cases hq : execY C L n a st p with
          | none => rw [hq] at h; simp at h
          | some q =>
            rw [ihY _ _ _ _ _ hq]
            rw [hq] at h hne
            obtain ⟨e, st', p'⟩ := q
            cases e with
            | normal => exact absurd rfl (hne st' p')
            | _ => exact h

theorem exec_le {C : Cfg} {n m : Nat} (h : n ≤ m) {c : TC} {st : St} {r : Ex × St} (he : exec C n c st = some r) : exec C m c st = some r := by
  induction m with
  | zero => rw [show n = 0 by omega] at he; exact he
  | succ m ih =>
    rcases Nat.lt_or_ge n (m + 1) with hlt | hge
    · exact (exec_succ C m).1 _ _ _ (ih (by omega))
    · rw [show m + 1 = n by omega]; exact he
theorem icAt_le {C : Cfg} {n m : Nat} (h : n ≤ m) : Sub3 (icAt C n) (icAt C m) := by
  intro f vs st r he
  unfold icAt at he ⊢
  split at he
  · rename_i F hF
    try simp only
    split at he
    · rename_i hl
      rw [if_pos hl]
      split at he
      · rename_i st' h1; rw [exec_le h h1]; exact he
      · rename_i st' h1; rw [exec_le h h1]; exact he
      · simp at he
    · simp at he
  · simp at he
end Go.TI
end

/- The interpreter's runs, rule by rule; callees known by what they give. -/
section
set_option linter.unusedVariables false
set_option linter.unusedSimpArgs false
namespace Go.TI
open Go Go.RowKit

/-- The code is left so. -/
def W (C : Cfg) (c : TC) (st : St) (Q : Ex → St → Prop) : Prop := ∃ n e st', exec C n c st = some (e, st') ∧ Q e st'
/-- The operations lead to such a state. -/
def WO (C : Cfg) (os : List TO) (st : St) (K : St → Prop) : Prop := ∃ n st', evalOps C (icAt C n) os st = some st' ∧ K st'

def thenQ (K : St → Prop) (Q : Ex → St → Prop) : Ex → St → Prop
  | .normal, st => K st
  | e, st => Q e st
def blkQ (id : Nat) (Q : Ex → St → Prop) : Ex → St → Prop
  | .exit i, st => if i = id then Q .normal st else Q (.exit i) st
  | e, st => Q e st
@[simp] theorem thenQ_normal {K : St → Prop} {Q : Ex → St → Prop} {st : St} : thenQ K Q .normal st = K st := rfl
@[simp] theorem thenQ_ret {K : St → Prop} {Q : Ex → St → Prop} {st : St} : thenQ K Q .ret st = Q .ret st := rfl
@[simp] theorem thenQ_exit {K : St → Prop} {Q : Ex → St → Prop} {st : St} {i : Nat} : thenQ K Q (.exit i) st = Q (.exit i) st := rfl
@[simp] theorem blkQ_normal {id : Nat} {Q : Ex → St → Prop} {st : St} : blkQ id Q .normal st = Q .normal st := rfl
@[simp] theorem blkQ_ret {id : Nat} {Q : Ex → St → Prop} {st : St} : blkQ id Q .ret st = Q .ret st := rfl
@[simp] theorem blkQ_exit {id : Nat} {Q : Ex → St → Prop} {st : St} {i : Nat} : blkQ id Q (.exit i) st = if i = id then Q .normal st else Q (.exit i) st := rfl

section
variable {C : Cfg} {st : St} {Q : Ex → St → Prop}

theorem W.mono {c : TC} {Q' : Ex → St → Prop} (h : W C c st Q) (k : ∀ e s, Q e s → Q' e s) : W C c st Q' := let ⟨n, e, s, h1, h2⟩ := h; ⟨n, e, s, h1, k _ _ h2⟩
theorem W.skip (h : Q .normal st) : W C .skip st Q := ⟨1, .normal, st, rfl, h⟩
theorem W.exit {id : Nat} (h : Q (.exit id) st) : W C (.exit id) st Q := ⟨1, .exit id, st, rfl, h⟩
theorem W.ret (h : Q .ret st) : W C .ret st Q := ⟨1, .ret, st, rfl, h⟩
theorem W.seq {a b : TC} (h : W C a st (thenQ (fun s => W C b s Q) Q)) : W C (.seq a b) st Q := by
  obtain ⟨n, e, s, h1, h2⟩ := h
  cases e with
  | normal =>
    obtain ⟨m, e', s', h3, h4⟩ := h2
    refine ⟨max n m + 1, e', s', ?_, h4⟩
    simp only [exec, exec_le (Nat.le_max_left n m) h1, exec_le (Nat.le_max_right n m) h3]
  | exit id => exact ⟨n + 1, _, s, by simp only [exec, h1], h2⟩
  | ret => exact ⟨n + 1, _, s, by simp only [exec, h1], h2⟩
theorem W.ite {x : Opd} {a b : TC} (q : Bool) (hx : x.val st.t = .lit (.bool q)) (h : W C (if q then a else b) st Q) : W C (.ite x a b) st Q := by
  obtain ⟨n, e, s, h1, h2⟩ := h
  refine ⟨n + 1, e, s, ?_, h2⟩
  simp only [exec, hx]
  cases q <;> simpa using h1
theorem W.blk {id : Nat} {a : TC} (h : W C a st (blkQ id Q)) : W C (.blk id a) st Q := by
  obtain ⟨n, e, s, h1, h2⟩ := h
  cases e with
  | normal => exact ⟨n + 1, _, s, by simp only [exec, h1], h2⟩
  | ret => exact ⟨n + 1, _, s, by simp only [exec, h1], h2⟩
  | exit i =>
    by_cases hi : i = id
    · simp only [blkQ, hi, if_true] at h2
      exact ⟨n + 1, .normal, s, by simp only [exec, h1, hi, if_true], h2⟩
    · simp only [blkQ, hi, if_false] at h2
      exact ⟨n + 1, .exit i, s, by simp only [exec, h1, hi, if_false], h2⟩
theorem W.loop {a : TC} (h : W C a st (thenQ (fun s => W C (.loop a) s Q) Q)) : W C (.loop a) st Q := by
  obtain ⟨n, e, s, h1, h2⟩ := h
  cases e with
  | normal =>
    obtain ⟨m, e', s', h3, h4⟩ := h2
    refine ⟨max n m + 1, e', s', ?_, h4⟩
    simp only [exec, exec_le (Nat.le_max_left n m) h1, exec_le (Nat.le_max_right n m) h3]
  | exit id => exact ⟨n + 1, _, s, by simp only [exec, h1], h2⟩
  | ret => exact ⟨n + 1, _, s, by simp only [exec, h1], h2⟩
theorem W.reg {ops : List TO} (h : WO C ops st (Q .normal)) : W C (.reg ops) st Q := by
  obtain ⟨n, s, h1, h2⟩ := h
  refine ⟨n + 1, .normal, s, ?_, h2⟩
  have : evalOps C (icAt C n) ops st = some s := h1
  simp only [exec]
  show (evalOps C (icAt C n) ops st).map _ = _
  rw [this]
  rfl
theorem W.dreg {ops : List TO} {ms : List Nat} (h : ∃ n s, evalOpsD C (icAt C n) (dropS st.fr st.s ops) ops { st with s := dropS st.fr st.s ops } = some s ∧ Q .normal s) : W C (.dreg ops ms) st Q := by
  obtain ⟨n, s, h1, h2⟩ := h
  refine ⟨n + 1, .normal, s, ?_, h2⟩
  simp only [exec]
  show (evalOpsD C (icAt C n) (dropS st.fr st.s ops) ops { st with s := dropS st.fr st.s ops }).map _ = _
  rw [h1]
  rfl
theorem W.dregK {ops : List TO} {ms : List Nat} (h : ∃ n s fs, evalOpsK C (icAt C n) ops st = some (s, fs) ∧ feetOk ms fs = true ∧ Q .normal s) : W C (.dregK ops ms) st Q := by
  obtain ⟨n, s, fs, h1, h2, h3⟩ := h
  refine ⟨n + 1, .normal, s, ?_, h3⟩
  simp only [exec]
  show (match evalOpsK C (icAt C n) ops st with
    | some (st', fs) => if feetOk ms fs then some (Ex.normal, st') else none
    | none => none) = _
  rw [h1]
  simp [h2]
/-- Operations whose order is open, where none lays an object and none looks at the region's first store. -/
theorem evalOpsD_plain {ic : Nat → List V → St → Option Res} {s0 : Sto} : ∀ {os : List TO} {st : St}, (os.all fun o => !allocs o.o && !o.free) = true → evalOpsD C ic s0 os st = evalOps C ic os st := by
  intro os
  induction os with
  | nil => intro st _; rfl
  | cons o os ih =>
    intro st h
    simp only [List.all_cons, Bool.and_eq_true, Bool.not_eq_true'] at h
    obtain ⟨⟨h1, h2⟩, h3⟩ := h
    have hs : ∀ s1 s2 : Sto, stepOp C ic s1 o st = stepOp C ic s2 o st := by
      intro s1 s2
      unfold stepOp
      simp [h2]
    simp only [evalOpsD, evalOps, h1, Bool.false_and, Bool.false_eq_true, if_false]
    rw [hs s0 (fun _ _ => none)]
    cases stepOp C ic (fun _ _ => none) o st with
    | none => rfl
    | some r => exact ih (by simpa using h3)
theorem dropS_plain {fr : Nat} {s : Sto} : ∀ {os : List TO}, (os.all fun o => !allocs o.o && !o.free) = true → dropS fr s os = s := by
  intro os
  induction os with
  | nil => intro _; rfl
  | cons o os ih =>
    intro h
    simp only [List.all_cons, Bool.and_eq_true, Bool.not_eq_true'] at h
    simp only [dropS, h.1.1]
    exact ih (by simpa using h.2)
theorem W.dregP {ops : List TO} {ms : List Nat} (hp : (ops.all fun o => !allocs o.o && !o.free) = true) (h : WO C ops st (Q .normal)) : W C (.dreg ops ms) st Q := by
  obtain ⟨n, s, h1, h2⟩ := h
  refine W.dreg ⟨n, s, ?_, h2⟩
  rw [dropS_plain hp, evalOpsD_plain hp]
  exact h1

theorem WO.nil {K : St → Prop} (h : K st) : WO C [] st K := ⟨0, st, rfl, h⟩
theorem WO.op {o : TO} {os : List TO} {K : St → Prop} {r : Res} (h : ∀ ic, stepOp C ic (fun _ _ => none) o st = some r) (k : WO C os (st.put o.d r) K) : WO C (o :: os) st K := by
  obtain ⟨n, s, h1, h2⟩ := k
  exact ⟨n, s, by simp only [evalOps, h]; exact h1, h2⟩
theorem WO.ops {os : List TO} {K : St → Prop} {s : St} (h : ∀ ic, evalOps C ic os st = some s) (k : K s) : WO C os st K := ⟨0, s, h _, k⟩
theorem evalOps_append {ic : Nat → List V → St → Option Res} : ∀ (os os' : List TO) (st : St), evalOps C ic (os ++ os') st = (evalOps C ic os st).bind (evalOps C ic os') := by
  intro os
  induction os with
  | nil => intro os' st; rfl
  | cons o os ih =>
    intro os' st
    simp only [List.cons_append, evalOps]
    cases stepOp C ic (fun _ _ => none) o st with
    | none => rfl
    | some r => exact ih os' _
theorem WO.step {os os' : List TO} {K : St → Prop} {s : St} (h : ∀ ic, evalOps C ic os st = some s) (k : WO C os' s K) : WO C (os ++ os') st K := by
  obtain ⟨n, s', h1, h2⟩ := k
  exact ⟨n, s', by rw [evalOps_append, h]; exact h1, h2⟩
/-- A callee on the same store. -/
theorem WO.imp {o : TO} {os : List TO} {K : St → Prop} {f : Nat} {F : TF} {vs : List V} (hF : C.code f = some F) (hl : vs.length = F.args) (ho : ∀ ic, stepOp C ic (fun _ _ => none) o st = ic f vs st)
    (h : W C F.body (enter vs st) fun e s => (e = .normal ∨ e = .ret) ∧ ∃ v, resultsV s F.res = some v ∧ WO C os (st.put o.d ⟨v, s.s, s.τ, s.n⟩) K) : WO C (o :: os) st K := by
  obtain ⟨n, e, s, h1, he, v, hv, m, s', h2, h3⟩ := h
  refine ⟨max n m, s', ?_, h3⟩
  have hr : icAt C n f vs st = some ⟨v, s.s, s.τ, s.n⟩ := by
    unfold icAt
    rw [hF]
    simp only
    rw [if_pos hl, h1]
    rcases he with rfl | rfl
    · simp [hv]
    · simp [hv]
  simp only [evalOps, ho, icAt_le (Nat.le_max_left n m) _ _ _ _ hr]
  exact evalOps_ic (icAt_le (Nat.le_max_right n m)) h2
end

/-! ### callees known by what they give -/
/-- What a function gives at some arguments. -/
structure Spec (P : Program) where
  K : Nat
  A : Type
  args : A → List V
  res : A → V
  inj : ∀ a b, args a = args b → res a = res b
  body : hasBody P K = true
  ok : ∀ a, PureOk P K (args a) (res a)

open Classical in
noncomputable def Spec.try (P : Program) (s : Spec P) (K : Nat) (vs : List V) : Option V :=
  if h : s.K = K ∧ ∃ a, s.args a = vs then some (s.res (Classical.choose h.2)) else none
theorem Spec.try_ok {P : Program} {s : Spec P} {K : Nat} {vs : List V} {r : V} (h : s.try P K vs = some r) : hasBody P K = true ∧ PureOk P K vs r := by
  unfold Spec.try at h
  split at h
  · rename_i hq
    injection h with h
    subst h
    have hc := Classical.choose_spec hq.2
    have hK := hq.1
    subst hK
    have := s.ok (Classical.choose hq.2)
    rw [hc] at this
    exact ⟨s.body, this⟩
  · simp at h
theorem Spec.try_at {P : Program} (s : Spec P) (a : s.A) : s.try P s.K (s.args a) = some (s.res a) := by
  unfold Spec.try
  rw [dif_pos ⟨rfl, a, rfl⟩]
  congr 1
  exact s.inj _ _ (Classical.choose_spec (⟨a, rfl⟩ : ∃ b, s.args b = s.args a))
theorem Spec.try_ne {P : Program} {s : Spec P} {K : Nat} {vs : List V} (h : s.K ≠ K) : s.try P K vs = none := by
  unfold Spec.try
  rw [dif_neg fun q => h q.1]

noncomputable def oraOf (P : Program) : List (Spec P) → Nat → List V → Option V
  | [], _, _ => none
  | s :: l, K, vs => match s.try P K vs with
    | some r => some r
    | none => oraOf P l K vs
theorem oraOf_ok {P : Program} : ∀ {l : List (Spec P)} {K : Nat} {vs : List V} {r : V}, oraOf P l K vs = some r → hasBody P K = true ∧ PureOk P K vs r := by
  intro l
  induction l with
  | nil => intro K vs r h; simp [oraOf] at h
  | cons s l ih =>
    intro K vs r h
    simp only [oraOf] at h
    split at h
    · rename_i r' hr
      injection h with h
      subst h
      exact Spec.try_ok hr
    · exact ih h
theorem oraOf_at {P : Program} : ∀ {l : List (Spec P)}, (l.map (·.K)).Nodup → ∀ s ∈ l, ∀ a : s.A, oraOf P l s.K (s.args a) = some (s.res a) := by
  intro l
  induction l with
  | nil => intro _ s h; simp at h
  | cons t l ih =>
    intro hn s hs a
    simp only [List.map_cons, List.nodup_cons] at hn
    simp only [List.mem_cons] at hs
    rcases hs with rfl | hs
    · simp only [oraOf, Spec.try_at]
    · have : t.K ≠ s.K := fun e => hn.1 (e ▸ List.mem_map_of_mem hs)
      simp only [oraOf, Spec.try_ne this]
      exact ih hn.2 s hs a

/-- The configuration of a run whose callees are given by what they give. -/
noncomputable def specCfg (P : Program) (X : Ext) (l : List (Spec P)) : Cfg := ⟨X.tab, X.imp, oraOf P l, X.fre, X.eqT, fun _ _ => none⟩

def Done (F : TF) (r : V) : Ex → St → Prop := fun e st => (e = .normal ∨ e = .ret) ∧ (resultsV st F.res).bind (view st.s viewDepth) = some r

theorem specCfg_ok {P : Program} {X : Ext} (hX : ExtOk P X) (l : List (Spec P)) : CfgOk P (specCfg P X l) :=
  ⟨fun _ _ _ h => oraOf_ok h, hX.fre, fun _ _ _ _ _ _ h => by simp [specCfg] at h, hX.eqT⟩

theorem pure_of_W {P : Program} {X : Ext} (hX : ExtOk P X) {C : Cfg} (hC : CfgOk P C) (hK : CodeOk P C) {K : Nat} {F : TF} (hF : C.code K = some F) {vs : List V} (hlen : vs.length = F.args) {r : V} (h : W C F.body (start vs) (Done F r)) : PureOk P K vs r := by
  obtain ⟨n, e, s, h1, h2, h3⟩ := h
  refine runF_ok hX.mixed hC hK hF hlen (n := n) ?_
  unfold runF
  rw [h1]
  rcases h2 with rfl | rfl
  · exact h3
  · exact h3
end Go.TI
end
