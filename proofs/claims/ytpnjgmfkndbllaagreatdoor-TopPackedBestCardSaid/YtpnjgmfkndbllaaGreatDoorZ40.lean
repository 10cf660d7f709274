/- A part of the proof of TopPackedBest: texts TkEx2 to TkEx2. -/
import Derived.Test.YtpnjgmfkndbllaaGreatDoorZ39
/- pack.Exact: the store's objects, step by step. -/
section
set_option linter.unusedVariables false
set_option linter.unusedSimpArgs false
namespace Go.TI
open Go Go.Proofs

/-- The boxes and their sums, as objects. -/
structure Objs (s : Sto) (n : Nat) (ll : List (List Int)) (sums : List Int) (f g fs gs : Nat) (L S : List (List V)) (F : Nat → Nat) : Prop where
  hf : 0 < f ∧ f < n
  hfs : 0 < fs ∧ fs < n
  o8 : s 0 8 = some (4, .cells [.own f 91 g 0 ll.length 1])
  o9 : s 0 9 = some (5, .cells [.own fs 98 gs 0 sums.length 1])
  hL : s f 91 = some (g, .rows 1 L)
  hLl : ll.length ≤ L.length
  hS : s fs 98 = some (gs, .rows 1 S)
  hSl : sums.length ≤ S.length
  hSt : S.take sums.length = isR sums
  rows : ∀ k l, ll[k]? = some l → ∃ gk R, L[k]? = some [.own (F k) 89 gk 0 l.length 1] ∧ 0 < F k ∧ F k < n ∧ s (F k) 89 = some (gk, .rows 1 R) ∧ l.length ≤ R.length ∧ R.take l.length = isR l
  inj : ∀ j k, j < ll.length → k < ll.length → F j = F k → j = k

theorem take_set_isR {S : List (List V)} {sums : List Int} {k : Nat} {y s : Int} (hk : k < sums.length) (h : S.take sums.length = isR sums) (hy : sums[k]? = some y) : (S.set k [I (y + s)]).take (sums.modify k (· + s)).length = isR (sums.modify k (· + s)) := by
  rw [List.length_modify, List.take_set, h]
  apply List.ext_getElem?
  intro j
  rw [List.getElem?_set]
  unfold isR
  rw [List.getElem?_map, List.getElem?_map, List.getElem?_modify]
  by_cases e : k = j
  · subst e
    have hy' := (List.getElem?_eq_some_iff.1 hy).2
    simp [hk, hy']
  · simp [e]

theorem Objs.putA {s : Sto} {n : Nat} {ll : List (List Int)} {sums : List Int} {f g fs gs : Nat} {L S : List (List V)} {F : Nat → Nat} (h : Objs s n ll sums f g fs gs L S F) {k gr : Nat} {l : List Int} {R : List (List V)} {i x y : Int} (hk : ll[k]? = some l) (hks : sums[k]? = some x) (hR : s (F k) 89 = some (gr, .rows 1 R)) (hlR : l.length ≤ R.length) (hRt : R.take l.length = isR l) :
    Objs (upd2 (upd2 (upd2 (upd2 s (F k) 89 none) (F k) 89 (some (n, .rows 1 (R.take l.length ++ [[I i]])))) f 91 (some (g, .rows 1 (L.set k [.own (F k) 89 n 0 (l.length + 1) 1])))) fs 98 (some (gs, .rows 1 (S.set k [I (x + y)])))) (n + 1) (ll.modify k (· ++ [i])) (sums.modify k (· + y)) f g fs gs (L.set k [.own (F k) 89 n 0 (l.length + 1) 1]) (S.set k [I (x + y)]) F := by
  have hkl := (List.getElem?_eq_some_iff.1 hk).1
  have hksl := (List.getElem?_eq_some_iff.1 hks).1
  obtain ⟨gk, R', q1, q2, q3, q4, q5, q6⟩ := h.rows k l hk
  have e1 : ¬ (0 = f) := by have := h.hf; omega
  have e2 : ¬ (0 = fs) := by have := h.hfs; omega
  have e3 : ¬ (0 = F k) := by omega
  exact
    { hf := ⟨h.hf.1, by have := h.hf; omega⟩
      hfs := ⟨h.hfs.1, by have := h.hfs; omega⟩
      o8 := by simp [upd2, e1, e2, e3, h.o8]
      o9 := by simp [upd2, e1, e2, e3, h.o9]
      hL := by simp [upd2]
      hLl := by simpa using h.hLl
      hS := by simp [upd2]
      hSl := by simpa using h.hSl
      hSt := take_set_isR hksl h.hSt hks
      rows := fun j lj hj => by
        rw [List.getElem?_modify] at hj
        by_cases e : k = j
        · subst e
          simp only [hk, if_true, Option.map_eq_map, Option.map_some, Option.some.injEq] at hj
          subst hj
          refine ⟨n, R.take l.length ++ [[I i]], ?_, q2, by omega, ?_, ?_, ?_⟩
          · have : k < L.length := by have := h.hLl; omega
            simp [this]
          · simp [upd2]
          · simp; omega
          · rw [List.take_of_length_le (by simp; omega), hRt]
            simp [isR]
        · simp only [e, if_false, Option.map_eq_map, Option.map_id'] at hj
          obtain ⟨gj, Rj, p1, p2, p3, p4, p5, p6⟩ := h.rows j lj hj
          have hne : ¬ (F j = F k) := fun he => e (h.inj k j hkl (List.getElem?_eq_some_iff.1 hj).1 he.symm)
          refine ⟨gj, Rj, ?_, p2, by omega, ?_, p5, p6⟩
          · rw [List.getElem?_set]
            simp [e, p1]
          · simp [upd2, hne, p4]
      inj := fun j k' hj hk' he => h.inj j k' (by simpa using hj) (by simpa using hk') he }

theorem set_back {α : Type} {l : List α} {k : Nat} {f g : α → α} (h : ∀ x, g (f x) = x) : (l.modify k f).modify k g = l := by
  apply List.ext_getElem?
  intro j
  rw [List.getElem?_modify, List.getElem?_modify]
  by_cases e : k = j
  · subst e
    cases l[k]? <;> simp [h]
  · simp [e]

/-- A piece is taken out of box k again. -/
theorem Objs.cutB {s : Sto} {n : Nat} {ll : List (List Int)} {sums : List Int} {f g fs gs : Nat} {L S : List (List V)} {F : Nat → Nat} {k gr : Nat} {l : List Int} {R : List (List V)} {i x y : Int} (h : Objs s n (ll.modify k (· ++ [i])) (sums.modify k (· + y)) f g fs gs L S F) (hk : ll[k]? = some l) (hks : sums[k]? = some x) (hLk : L[k]? = some [.own (F k) 89 gr 0 (l.length + 1) 1]) :
    Objs (upd2 (upd2 s f 91 (some (g, .rows 1 (L.set k [.own (F k) 89 gr 0 l.length 1])))) fs 98 (some (gs, .rows 1 (S.set k [I (x + y - y)])))) n ll sums f g fs gs (L.set k [.own (F k) 89 gr 0 l.length 1]) (S.set k [I (x + y - y)]) F := by
  have hkl := (List.getElem?_eq_some_iff.1 hk).1
  have hksl := (List.getElem?_eq_some_iff.1 hks).1
  have e1 : ¬ (0 = f) := by have := h.hf; omega
  have e2 : ¬ (0 = fs) := by have := h.hfs; omega
  have hl1 := h.hLl
  have hs1 := h.hSl
  rw [List.length_modify] at hl1 hs1
  have hb : (sums.modify k (· + y)).modify k (· + (-y)) = sums := set_back fun z => by omega
  have hst := take_set_isR (S := S) (sums := sums.modify k (· + y)) (k := k) (y := x + y) (s := -y) (by simpa using hksl) h.hSt (by rw [List.getElem?_modify]; simp [hks])
  rw [hb] at hst
  have exy : x + y + -y = x + y - y := by omega
  rw [exy] at hst
  exact
    { hf := h.hf
      hfs := h.hfs
      o8 := by have := h.o8; rw [List.length_modify] at this; simp [upd2, e1, e2, this]
      o9 := by have := h.o9; rw [List.length_modify] at this; simp [upd2, e1, e2, this]
      hL := by simp [upd2]
      hLl := by simpa using hl1
      hS := by simp [upd2]
      hSl := by simpa using hs1
      hSt := hst
      rows := fun j lj hj => by
        by_cases e : k = j
        · subst e
          rw [hk] at hj
          injection hj with hj
          subst hj
          obtain ⟨gk, R', q1, q2, q3, q4, q5, q6⟩ := h.rows k (l ++ [i]) (by rw [List.getElem?_modify]; simp [hk])
          rw [hLk] at q1
          simp only [Option.some.injEq, List.cons.injEq, V.own.injEq, true_and, and_true] at q1
          obtain ⟨rfl, -⟩ := q1
          simp only [List.length_append, List.length_cons, List.length_nil, Nat.zero_add] at q5 q6
          refine ⟨gr, R', ?_, q2, q3, ?_, by omega, ?_⟩
          · have : k < L.length := by omega
            simp [this]
          · simp [upd2, q4]
          · have := congrArg (List.take l.length) q6
            rw [List.take_take] at this
            simpa [isR] using this
        · obtain ⟨gj, Rj, p1, p2, p3, p4, p5, p6⟩ := h.rows j lj (by rw [List.getElem?_modify]; simp [e, hj])
          refine ⟨gj, Rj, ?_, p2, p3, ?_, p5, p6⟩
          · rw [List.getElem?_set]
            simp [e, p1]
          · simp [upd2, p4]
      inj := fun j k' hj hk' he => h.inj j k' (by simpa using hj) (by simpa using hk') he }

theorem snoc_get {α : Type} {l : List α} {b x : α} {j : Nat} (h : (l ++ [b])[j]? = some x) : (j < l.length ∧ l[j]? = some x) ∨ (j = l.length ∧ x = b) := by
  by_cases hj : j < l.length
  · rw [List.getElem?_append_left hj] at h
    exact .inl ⟨hj, h⟩
  · have h1 := (List.getElem?_eq_some_iff.1 h).1
    simp at h1
    have : j = l.length := by omega
    subst this
    simp at h
    exact .inr ⟨rfl, h.symm⟩

/-- The first box. -/
theorem Objs.new1 {s : Sto} {n φ : Nat} {i x : Int} (hφ : 0 < φ ∧ φ < n) :
    Objs (upd2 (upd2 (upd2 (upd2 (upd2 s φ 89 (some (n, .rows 1 [[I i]]))) φ 91 (some (n + 1, .rows 1 [[.own φ 89 n 0 1 1]]))) φ 98 (some (n + 2, .rows 1 [[I x]]))) 0 8 (some (4, .cells [.own φ 91 (n + 1) 0 1 1]))) 0 9 (some (5, .cells [.own φ 98 (n + 2) 0 1 1]))) (n + 3) [[i]] [x] φ (n + 1) φ (n + 2) [[.own φ 89 n 0 1 1]] [[I x]] (fun _ => φ) := by
  have e1 : ¬ (φ = 0) := by omega
  have e2 : ¬ (0 = φ) := by omega
  exact
    { hf := ⟨hφ.1, by omega⟩
      hfs := ⟨hφ.1, by omega⟩
      o8 := by simp [upd2]
      o9 := by simp [upd2]
      hL := by simp [upd2, e1]
      hLl := by simp
      hS := by simp [upd2, e1]
      hSl := by simp
      hSt := rfl
      rows := fun k l hk => by
        have h1 := (List.getElem?_eq_some_iff.1 hk).1
        have : k = 0 := by simpa using h1
        subst this
        simp at hk
        subst hk
        exact ⟨n, [[I i]], rfl, hφ.1, by omega, by simp [upd2, e1], by simp, rfl⟩
      inj := fun j k hj hk _ => by simp at hj hk; omega }

/-- A box beside others. -/
theorem Objs.new2 {s : Sto} {n φ : Nat} {ll : List (List Int)} {sums : List Int} {f g fs gs : Nat} {L S : List (List V)} {F : Nat → Nat} {i x : Int} (h : Objs s n ll sums f g fs gs L S F) (hφ : 0 < φ ∧ φ < n) (hF : ∀ k, k < ll.length → F k < φ) :
    Objs (upd2 (upd2 (upd2 (upd2 (upd2 (upd2 (upd2 s φ 89 (some (n, .rows 1 [[I i]]))) f 91 none) f 91 (some (n + 1, .rows 1 (L.take ll.length ++ [[.own φ 89 n 0 1 1]])))) fs 98 none) fs 98 (some (n + 2, .rows 1 (S.take sums.length ++ [[I x]])))) 0 8 (some (4, .cells [.own f 91 (n + 1) 0 (ll.length + 1) 1]))) 0 9 (some (5, .cells [.own fs 98 (n + 2) 0 (sums.length + 1) 1]))) (n + 3) (ll ++ [[i]]) (sums ++ [x]) f (n + 1) fs (n + 2) (L.take ll.length ++ [[.own φ 89 n 0 1 1]]) (S.take sums.length ++ [[I x]]) (fun k => if k = ll.length then φ else F k) := by
  have e1 : ¬ (φ = 0) := by omega
  have e3 : ¬ (f = 0) := by have := h.hf; omega
  have e4 : ¬ (fs = 0) := by have := h.hfs; omega
  have hLl := h.hLl
  have hSl := h.hSl
  have hLt : (L.take ll.length).length = ll.length := by simp; omega
  exact
    { hf := ⟨h.hf.1, by have := h.hf; omega⟩
      hfs := ⟨h.hfs.1, by have := h.hfs; omega⟩
      o8 := by simp [upd2]
      o9 := by simp [upd2]
      hL := by simp [upd2, e3]
      hLl := by simp; omega
      hS := by simp [upd2, e4]
      hSl := by simp; omega
      hSt := by
        rw [List.take_of_length_le (by simp; omega), h.hSt]
        simp [isR]
      rows := fun k l hk => by
        rcases snoc_get hk with ⟨h1, h2⟩ | ⟨rfl, rfl⟩
        · obtain ⟨gk, R, q1, q2, q3, q4, q5, q6⟩ := h.rows k l h2
          have hk0 : ¬ (k = ll.length) := by omega
          have hFk : ¬ (F k = φ) := by have := hF k h1; omega
          have hFk0 : ¬ (F k = 0) := by omega
          simp only [hk0, if_false]
          refine ⟨gk, R, ?_, q2, by omega, ?_, q5, q6⟩
          · rw [List.getElem?_append_left (by omega), List.getElem?_take]
            simp [h1, q1]
          · simp [upd2, hFk, hFk0, q4]
        · simp only [if_true]
          refine ⟨n, [[I i]], ?_, hφ.1, by omega, ?_, by simp, rfl⟩
          · rw [List.getElem?_append_right (by omega), hLt]
            simp
          · simp [upd2, e1]
      inj := fun j k hj hk he => by
        simp at hj hk
        by_cases h1 : j = ll.length
        · by_cases h2 : k = ll.length
          · omega
          · simp only [h1, h2, if_true, if_false] at he
            have := hF k (by omega)
            omega
        · by_cases h2 : k = ll.length
          · simp only [h1, h2, if_true, if_false] at he
            have := hF j (by omega)
            omega
          · simp only [h1, h2, if_false] at he
            exact h.inj j k (by omega) (by omega) he }

/-- The last box is thrown away. -/
theorem Objs.pop {s : Sto} {n : Nat} {ll : List (List Int)} {sums : List Int} {f g fs gs : Nat} {L S : List (List V)} {F : Nat → Nat} {b : List Int} {x : Int} (h : Objs s n (ll ++ [b]) (sums ++ [x]) f g fs gs L S F) :
    Objs (upd2 (upd2 s 0 8 (some (4, .cells [.own f 91 g 0 ll.length 1]))) 0 9 (some (5, .cells [.own fs 98 gs 0 sums.length 1]))) n ll sums f g fs gs L S F := by
  have e3 : ¬ (f = 0) := by have := h.hf; omega
  have e4 : ¬ (fs = 0) := by have := h.hfs; omega
  have hLl := h.hLl
  have hSl := h.hSl
  simp at hLl hSl
  exact
    { hf := h.hf
      hfs := h.hfs
      o8 := by simp [upd2]
      o9 := by simp [upd2]
      hL := by simp [upd2, e3, h.hL]
      hLl := by omega
      hS := by simp [upd2, e4, h.hS]
      hSl := by omega
      hSt := by
        have := congrArg (List.take sums.length) h.hSt
        rw [List.take_take] at this
        simpa [isR] using this
      rows := fun k l hk => by
        have hkl := (List.getElem?_eq_some_iff.1 hk).1
        obtain ⟨gk, R, q1, q2, q3, q4, q5, q6⟩ := h.rows k l (by rw [List.getElem?_append_left hkl]; exact hk)
        have hFk0 : ¬ (F k = 0) := by omega
        exact ⟨gk, R, q1, q2, q3, by simp [upd2, hFk0, q4], q5, q6⟩
      inj := fun j k hj hk he => h.inj j k (by simp; omega) (by simp; omega) he }
theorem Objs.mono {s : Sto} {n n' : Nat} {ll : List (List Int)} {sums : List Int} {f g fs gs : Nat} {L S : List (List V)} {F : Nat → Nat} (h : Objs s n ll sums f g fs gs L S F) (hn : n ≤ n') : Objs s n' ll sums f g fs gs L S F :=
  { h with
    hf := ⟨h.hf.1, by have := h.hf; omega⟩
    hfs := ⟨h.hfs.1, by have := h.hfs; omega⟩
    rows := fun k l hk => by
      obtain ⟨gk, R, q1, q2, q3, q4, q5, q6⟩ := h.rows k l hk
      exact ⟨gk, R, q1, q2, by omega, q4, q5, q6⟩ }
end Go.TI
end
