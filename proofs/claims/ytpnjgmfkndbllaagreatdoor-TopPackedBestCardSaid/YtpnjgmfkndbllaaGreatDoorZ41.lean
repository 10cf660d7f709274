/- A part of the proof of TopPackedBest: texts TkEx3 to TkEx3. -/
import Derived.Test.YtpnjgmfkndbllaaGreatDoorZ40
/- pack.Exact: the search. -/
section
set_option linter.unusedVariables false
set_option linter.unusedSimpArgs false
set_option maxRecDepth 1000000
namespace Go.TI
open Go Go.Proofs
attribute [local simp] evalOps stepOp wantedT evalOp Opd.val St.put St.ok St.obj upd start args0 binV binI intCmp resultsV resV idxOf loadV partV storeV getCells getRows upd2 cellsOf putAt scal faddrV

theorem mapO_get {α β : Type} {f : α → Option β} : ∀ {l : List α} {r : List β}, l.length = r.length → (∀ (j : Nat) (x : α) (y : β), l[j]? = some x → r[j]? = some y → f x = some y) → mapO f l = some r := by
  intro l
  induction l with
  | nil => intro r h _; cases r with | nil => rfl | cons => simp at h
  | cons x l ih =>
    intro r h hx
    cases r with
    | nil => simp at h
    | cons y r =>
      have h0 := hx 0 x y rfl rfl
      have h1 := ih (r := r) (by simpa using h) fun j a b ha hb => hx (j + 1) a b (by simpa using ha) (by simpa using hb)
      simp only [mapO, h0, h1, Option.map_some]

theorem Objs.view {s : Sto} {n : Nat} {ll : List (List Int)} {sums : List Int} {f g fs gs : Nat} {L S : List (List V)} {F : Nat → Nat} (h : Objs s n ll sums f g fs gs L S F) : TI.view s 7 (.own f 91 g 0 ll.length 1) = some (encII ll) := by
  have hm : mapO (mapO (TI.view s 6)) (L.take ll.length) = some (ll.map fun l => [encInts l]) := by
    refine mapO_get (by have := h.hLl; simp; omega) fun j x y hx hy => ?_
    rw [List.getElem?_map, Option.map_eq_some_iff] at hy
    obtain ⟨l, hl, rfl⟩ := hy
    have hjl := (List.getElem?_eq_some_iff.1 hl).1
    obtain ⟨gk, R, q1, q2, q3, q4, q5, q6⟩ := h.rows j l hl
    rw [List.getElem?_take] at hx
    simp only [hjl, if_true, q1, Option.some.injEq] at hx
    subst hx
    have hv : mapO (mapO (TI.view s 5)) (isR l) = some (isR l) := mapO_id fun r hr => mapO_id fun x hx => by
      obtain ⟨c, _, rfl⟩ := List.mem_map.1 hr
      simp only [List.mem_cons, List.not_mem_nil, or_false] at hx
      subst hx; rfl
    have h6 : TI.view s 6 (.own (F j) 89 gk 0 l.length 1) = some (encInts l) := by
      simp only [TI.view, q4]
      simp only [List.drop_zero, Nat.zero_add, q5, q6, hv, and_self, if_true, Option.map_some]
      rfl
    simp only [mapO, h6, Option.map_some]
  simp only [TI.view, h.hL]
  simp [h.hLl, hm, encII]

/-- What the search finds. -/
def Ini (s : Sto) (n : Nat) (ll : List (List Int)) (sums : List Int) (F : Nat → Nat) : Prop := (ll = [] ∧ sums = [] ∧ s 0 8 = some (4, .cells [.sl 0 [] .tight]) ∧ s 0 9 = some (5, .cells [.sl 0 [] .tight])) ∨ ∃ f g fs gs L S, Objs s n ll sums f g fs gs L S F
theorem Ini.view {s : Sto} {n : Nat} {ll : List (List Int)} {sums : List Int} {F : Nat → Nat} (h : Ini s n ll sums F) : ∃ ov, s 0 8 = some (4, .cells [ov]) ∧ TI.view s 7 ov = some (encII ll) := by
  rcases h with ⟨rfl, _, h8, _⟩ | ⟨f, g, fs, gs, L, S, h⟩
  · exact ⟨_, h8, rfl⟩
  · exact ⟨_, h.o8, h.view⟩
theorem Ini.len8 {s : Sto} {n : Nat} {ll : List (List Int)} {sums : List Int} {F : Nat → Nat} (h : Ini s n ll sums F) : ∃ ov, s 0 8 = some (4, .cells [ov]) ∧ ∀ s', lenV s' 1 ov = some (ll.length : Int) := by
  rcases h with ⟨rfl, _, h8, _⟩ | ⟨f, g, fs, gs, L, S, h⟩
  · exact ⟨_, h8, fun _ => rfl⟩
  · exact ⟨_, h.o8, fun _ => rfl⟩

/-- What a call of the search leaves. -/
def After (sz : List Int) (r least : Int) (n0 : Nat) (res : Option (List (List Int))) (ll : List (List Int)) (sums : List Int) (F : Nat → Nat) (s : Sto) (n : Nat) (v : V) : Prop :=
  n0 ≤ n ∧ Cells32 sz r least s ∧ match res with
    | some x => v = B true ∧ ∃ ov, s 0 8 = some (4, .cells [ov]) ∧ TI.view s 7 ov = some (encII x)
    | none => v = B false ∧ Ini s n ll sums F
end Go.TI
end
