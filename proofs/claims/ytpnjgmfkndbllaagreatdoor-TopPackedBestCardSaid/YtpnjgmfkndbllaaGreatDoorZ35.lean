/- A part of the proof of TopPackedBest: texts TkLaw to TkLaw. -/
import Derived.Test.YtpnjgmfkndbllaaGreatDoorZ34
/- The law's own run: what lies in which box. -/
section
set_option linter.unusedVariables false
set_option linter.unusedSimpArgs false
set_option maxRecDepth 1000000
namespace Go.TI
open Go Go.Proofs
attribute [local simp] evalOps stepOp wantedT evalOp Opd.val St.put St.ok St.obj upd start args0 binV binI intCmp resultsV resV idxOf loadV partV storeV getCells getRows upd2 cellsOf putAt scal faddrV

def assign (k : Int) : List Int → List Int → List Int
  | R, [] => R
  | R, x :: xs => assign k (R.set x.toNat k) xs
theorem assign_len {k : Int} : ∀ {xs R : List Int}, (assign k R xs).length = R.length := by
  intro xs
  induction xs with
  | nil => intro R; rfl
  | cons x xs ih => intro R; simp only [assign, ih, List.length_set]
theorem isR_set {R : List Int} {j : Nat} {k : Int} : (isR R).set j [I k] = isR (R.set j k) := by simp [isR, List.map_set]
theorem isR_get {R : List Int} {j : Nat} {k : Int} (h : R[j]? = some k) : (isR R)[j]? = some [I k] := by simp [isR, h]
@[simp] theorem isR_len {R : List Int} : (isR R).length = R.length := by simp [isR]

theorem L3_1_ok {C : Cfg} {b : List Int} {N k g : Nat} {s0 : Sto} (hN : N ≤ 10) (hk : k ≤ 10) (hbl : b.length ≤ 10) (hb : ∀ x ∈ b, 0 ≤ x ∧ x < N) :
    ∀ (rest pre : List Int) (R : List Int) (st : St), b = pre ++ rest → R.length = N → st.fr = 0 → st.t 13 = .own 0 80 g 0 N 1 → st.t 14 = I k → st.t 88 = encInts b → st.t 89 = I b.length → st.t 90 = I pre.length → st.s = upd2 s0 0 80 (some (g, .rows 1 (isR R))) →
    W C Tab.L3_1 st fun e st' => e = .exit 4 ∧ (∀ i ∈ [0, 1, 2, 7, 8, 9, 10, 12, 13, 72, 73, 74, 81, 82, 83], st'.t i = st.t i) ∧ st'.fr = 0 ∧ st'.s = upd2 s0 0 80 (some (g, .rows 1 (isR (assign k R rest)))) := by
  intro rest
  induction rest with
  | nil =>
    intro pre R st hd hR hfr h13 h14 h88 h89 h90 hs
    have hp : pre = b := by simpa using hd.symm
    subst hp
    refine W.loop (W.seq (W.reg (WO.ops (fun ic => by simp [h89, h90]; rfl) ?_)))
    refine W.seq (W.ite false (by simp) ?_)
    exact W.exit ⟨rfl, fun i hi => by simp at hi; rcases hi with h | h | h | h | h | h | h | h | h | h | h | h | h | h | h <;> subst h <;> simp, by simp [hfr], by simp [hs, assign]⟩
  | cons x rest ih =>
    intro pre R st hd hR hfr h13 h14 h88 h89 h90 hs
    have hl : pre.length < b.length := by rw [hd]; simp
    have hx := hb x (by rw [hd]; simp)
    obtain ⟨j, hj⟩ : ∃ j : Nat, x = (j : Int) := ⟨x.toNat, by omega⟩
    subst hj
    have hjN : j < N := by omega
    have hat : ∀ st, iaddrV st 1 (pre.length : Int) (encInts b) = some (.vptr [I (j : Int)] 0) := fun st => atInts (by rw [hd]; simp)
    have hw : IntKind.i64.wrap ((pre.length : Int) + 1) = ((pre ++ [(j : Int)]).length : Int) := by rw [wrap_id (by omega) (by omega)]; simp
    refine W.loop (W.seq (W.reg (WO.ops (fun ic => by simp [h89, h90]; rfl) ?_)))
    refine W.seq (W.ite true (by simp [hl]) (W.skip ?_))
    refine W.seq (W.blk (W.seq (W.reg (WO.ops (fun ic => by simp [h88, h90, hat]; rfl) ?_))))
    have hneg : ¬ ((j : Int) < 0) := by omega
    refine W.seq (W.seq (W.reg (WO.ops (fun ic => by simp [h13, lenV]; rfl) ?_)))
    refine W.ite false (by simp [hneg]; omega) (W.skip ?_)
    obtain ⟨y, hy⟩ : ∃ y, R[j]? = some y := ⟨R[j], List.getElem?_eq_getElem (by omega)⟩
    have q6 : iaddrV st.s 1 (j : Int) (.own 0 80 g 0 N 1) = some (.rptr 0 80 g 1 j 0) := by
      simp only [iaddrV, getRows, hs, upd2_self, and_self, if_true, Option.bind_some, Int.toNat_natCast, Nat.zero_add, isR_len]
      rw [if_pos ⟨by omega, hjN, by decide, trivial, by omega⟩]
    have q7 : storeV st.s 1 (I k) (.rptr 0 80 g 1 j 0) = some (upd2 s0 0 80 (some (g, .rows 1 (isR (R.set j k))))) := by
      rw [← isR_set]
      simp only [storeV, getRows, hs, upd2_self, and_self, if_true, Option.bind_some, isR_get hy, upd2_upd2]
      rfl
    refine W.reg (WO.ops (fun ic => by simp [-storeV, h13, h14, q6, q7]; rfl) ?_)
    simp only [blkQ_normal, thenQ_normal]
    refine W.reg (WO.ops (fun ic => by simp [h90, hw]; rfl) ?_)
    simp only [thenQ_normal]
    refine (ih (pre ++ [(j : Int)]) (R.set j k) _ (by simp [hd]) (by simpa using hR) (by simp [hfr]) (by simp [h13]) (by simp [h14]) (by simp [h88]) (by simp [h89]) (by simp) (by simp)).mono fun e s h => ⟨h.1, fun i hi => ?_, h.2.2.1, by rw [h.2.2.2]; simp [assign]⟩
    rw [h.2.1 i hi]
    simp at hi
    rcases hi with h | h | h | h | h | h | h | h | h | h | h | h | h | h | h <;> subst h <;> simp

/-- Where each piece lies, as far as the boxes were read. -/
def assignAll : Nat → List Int → List (List Int) → List Int
  | _, R, [] => R
  | k, R, b :: p => assignAll (k + 1) (assign k R b) p
theorem assignAll_len : ∀ {p : List (List Int)} {k : Nat} {R : List Int}, (assignAll k R p).length = R.length := by
  intro p
  induction p with
  | nil => intro k R; rfl
  | cons b p ih => intro k R; simp only [assignAll, ih, assign_len]

theorem atII {s : Sto} {ll : List (List Int)} {j : Nat} {b : List Int} (h : ll[j]? = some b) : iaddrV s 1 (j : Int) (encII ll) = some (.vptr [encInts b] 0) := iaddr_slN (by decide) (by simp [h])
theorem lenII {s : Sto} {ll : List (List Int)} : lenV s 1 (encII ll) = some (ll.length : Int) := by simp [encII, len_slN]

theorem L3_2_ok {C : Cfg} {p : List (List Int)} {N g : Nat} {s0 : Sto} (hN : N ≤ 10) (hpl : p.length ≤ 10) (hb : ∀ b ∈ p, b.length ≤ 10 ∧ ∀ x ∈ b, 0 ≤ x ∧ x < N) :
    ∀ (rest pre : List (List Int)) (R : List Int) (st : St), p = pre ++ rest → R.length = N → st.fr = 0 → st.t 13 = .own 0 80 g 0 N 1 → st.t 81 = encII p → st.t 82 = I p.length → st.t 83 = I pre.length → st.s = upd2 s0 0 80 (some (g, .rows 1 (isR R))) →
    W C Tab.L3_2 st fun e st' => e = .exit 2 ∧ (∀ i ∈ [0, 1, 2, 7, 8, 9, 10, 12, 13, 72, 73, 74], st'.t i = st.t i) ∧ st'.fr = 0 ∧ st'.s = upd2 s0 0 80 (some (g, .rows 1 (isR (assignAll pre.length R rest)))) := by
  intro rest
  induction rest with
  | nil =>
    intro pre R st hd hR hfr h13 h81 h82 h83 hs
    have hp : pre = p := by simpa using hd.symm
    subst hp
    refine W.loop (W.seq (W.reg (WO.ops (fun ic => by simp [h82, h83]; rfl) ?_)))
    refine W.seq (W.ite false (by simp) ?_)
    exact W.exit ⟨rfl, fun i hi => by simp at hi; rcases hi with h | h | h | h | h | h | h | h | h | h | h | h <;> subst h <;> simp, by simp [hfr], by simp [hs, assignAll]⟩
  | cons b rest ih =>
    intro pre R st hd hR hfr h13 h81 h82 h83 hs
    have hl : pre.length < p.length := by rw [hd]; simp
    obtain ⟨hb1, hb2⟩ := hb b (by rw [hd]; simp)
    have hat : ∀ st, iaddrV st 1 (pre.length : Int) (encII p) = some (.vptr [encInts b] 0) := fun st => atII (by rw [hd]; simp)
    have hw : IntKind.i64.wrap ((pre.length : Int) + 1) = ((pre ++ [b]).length : Int) := by rw [wrap_id (by omega) (by omega)]; simp
    refine W.loop (W.seq (W.reg (WO.ops (fun ic => by simp [h82, h83]; rfl) ?_)))
    refine W.seq (W.ite true (by simp [hl]) (W.skip ?_))
    refine W.seq (W.blk (W.seq (W.reg (WO.ops (fun ic => by simp [h81, h83, hat]; rfl) ?_))))
    refine W.seq (W.reg (WO.ops (fun ic => by simp [lenInts]; rfl) ?_))
    refine W.blk ((L3_1_ok (b := b) (k := pre.length) (g := g) (s0 := s0) hN (by omega) hb1 hb2 b [] R _ rfl hR (by simp [hfr]) (by simp [h13]) (by simp) (by simp) (by simp) (by simp) (by simp [hs])).mono fun e s h => ?_)
    obtain ⟨rfl, hk, hfr2, hs2⟩ := h
    simp only [blkQ_exit, if_true, blkQ_normal, thenQ_normal]
    have k83 := hk 83 (by simp); have k81 := hk 81 (by simp); have k82 := hk 82 (by simp); have k13 := hk 13 (by simp)
    simp [h83, h81, h82, h13] at k83 k81 k82 k13
    refine W.reg (WO.ops (fun ic => by simp [k83, hw]; rfl) ?_)
    simp only [thenQ_normal]
    refine (ih (pre ++ [b]) (assign pre.length R b) _ (by simp [hd]) (by rw [assign_len]; exact hR) (by simp [hfr2]) (by simp [k13]) (by simp [k81]) (by simp [k82]) (by simp) (by simp [hs2])).mono fun e s2 h => ⟨h.1, fun i hi => ?_, h.2.2.1, by rw [h.2.2.2]; simp [assignAll]⟩
    rw [h.2.1 i hi]
    have hk' := hk i (by simp at hi ⊢; omega)
    simp at hi
    rcases hi with h | h | h | h | h | h | h | h | h | h | h | h <;> subst h <;> simp at hk' ⊢ <;> exact hk'

/-- The boxes tell where each piece lies. -/
theorem assign_mem {k : Int} : ∀ {xs R : List Int} {j : Nat}, j < R.length → (∀ x ∈ xs, 0 ≤ x) → (assign k R xs)[j]? = if (j : Int) ∈ xs then some k else R[j]? := by
  intro xs
  induction xs with
  | nil => intro R j _ _; simp [assign]
  | cons x xs ih =>
    intro R j hj hx
    have h0 := hx x (by simp)
    simp only [assign]
    rw [ih (by simpa using hj) fun y hy => hx y (by simp [hy])]
    by_cases hm : (j : Int) ∈ xs
    · simp [hm]
    · simp only [hm, if_false, List.mem_cons, or_false]
      by_cases e : (j : Int) = x
      · have : x.toNat = j := by omega
        simp [e, this, hj]
      · have : x.toNat ≠ j := by omega
        simp [e, this]
theorem mem_box {at' : Nat → Nat} {k i j : Nat} : ((j : Int) ∈ ((List.range i).filter fun j => at' j == k).map fun j : Nat => (j : Int)) ↔ j < i ∧ at' j = k := by
  simp only [List.mem_map, List.mem_filter, List.mem_range, beq_iff_eq]
  constructor
  · rintro ⟨a, h1, h2⟩
    have : a = j := by omega
    subst this
    exact h1
  · intro h
    exact ⟨j, h, rfl⟩
theorem assignAll_get {at' : Nat → Nat} {N : Nat} : ∀ (m k : Nat) (R : List Int) (j : Nat), R.length = N → j < N → (assignAll k R ((List.range' k m).map fun k => ((List.range N).filter fun j => at' j == k).map fun j : Nat => (j : Int)))[j]? = if k ≤ at' j ∧ at' j < k + m then some ((at' j : Nat) : Int) else R[j]? := by
  intro m
  induction m with
  | zero =>
    intro k R j hR hj
    have : ¬ (k ≤ at' j ∧ at' j < k + 0) := by omega
    simp only [List.range'_zero, List.map_nil, assignAll, this, if_false]
  | succ m ih =>
    intro k R j hR hj
    rw [List.range'_succ, List.map_cons]
    simp only [assignAll]
    rw [ih (k + 1) _ j (by rw [assign_len]; exact hR) hj, assign_mem (by omega) (fun x hx => by
      simp only [List.mem_map] at hx
      obtain ⟨a, _, rfl⟩ := hx
      omega)]
    simp only [mem_box]
    by_cases e : at' j = k
    · have h1 : ¬ (k + 1 ≤ at' j ∧ at' j < k + 1 + m) := by omega
      have h2 : k ≤ at' j ∧ at' j < k + (m + 1) := by omega
      rw [if_neg h1, if_pos h2, if_pos ⟨hj, e⟩, e]
    · have h0 : ¬ (j < N ∧ at' j = k) := fun h => e h.2
      by_cases h1 : k + 1 ≤ at' j ∧ at' j < k + 1 + m
      · have h2 : k ≤ at' j ∧ at' j < k + (m + 1) := by omega
        simp only [h0, h1, h2, and_self, if_true]
      · have h2 : ¬ (k ≤ at' j ∧ at' j < k + (m + 1)) := by omega
        simp only [h0, h1, h2, if_false]
theorem assignAll_boxes {at' : Nat → Nat} {L N : Nat} (h : ∀ j, j < N → at' j < L) : assignAll 0 (List.replicate N 0) (boxesOf at' L N) = (List.range N).map fun j => ((at' j : Nat) : Int) := by
  apply List.ext_getElem?
  intro j
  unfold boxesOf
  rw [List.range_eq_range' (n := L)]
  by_cases hj : j < N
  · rw [assignAll_get (at' := at') (N := N) L 0 (List.replicate N 0) j (by simp) hj, if_pos ⟨by omega, by have := h j hj; omega⟩]
    simp [hj]
  · rw [List.getElem?_eq_none (by rw [assignAll_len]; simp; omega), List.getElem?_eq_none (by simp; omega)]
end Go.TI
end
