/- A part of the proof of TopPackedBest: texts TkY to TkY. -/
import Derived.Test.YtpnjgmfkndbllaaGreatDoorZ27
import Derived.Test.YtpnjgmfkndbllaaGreatDoorZ28
/- The plain law: the table's last entry is the least number of boxes. -/
section
set_option linter.unusedVariables false
set_option linter.unusedSimpArgs false
set_option linter.unusedSectionVars false
namespace Go.TI
open Go Go.Proofs

theorem load_congr {sz : List Int} {box box' : Nat → Nat} {k S : Nat} : ∀ n, (∀ j, j < n → S.testBit j = true → box j = box' j) → load sz box k S n = load sz box' k S n
  | 0, _ => rfl
  | n + 1, h => by
    unfold load
    rw [load_congr n fun j hj => h j (by omega)]
    by_cases hb : S.testBit n = true
    · rw [h n (by omega) hb]
    · simp [hb]
theorem no_bits {S N : Nat} (hS : S < 2 ^ N) (h : ∀ i, i < N → S.testBit i = false) : S = 0 := by
  apply Nat.eq_of_testBit_eq
  intro j
  rw [Nat.zero_testBit]
  by_cases hj : j < N
  · exact h j hj
  · exact Nat.testBit_lt_two_pow (Nat.lt_of_lt_of_le hS (Nat.pow_le_pow_right (by decide) (by omega)))

section
variable {sz : List Int} {r : Int} (hr : 1 ≤ r ∧ r ≤ 10000) (hsz : ∀ s ∈ sz, 1 ≤ s ∧ s ≤ r) (hlen : sz.length ≤ 10)
include hr hsz hlen

theorem pow_1024 : 2 ^ sz.length ≤ 1024 := by
  have : 2 ^ sz.length ≤ 2 ^ 10 := Nat.pow_le_pow_right (by decide) hlen
  omega
theorem sz_at {i : Nat} (h : i < sz.length) : 1 ≤ sz.getD i 0 ∧ sz.getD i 0 ≤ r := hsz _ (by rw [List.getD_eq_getElem?_getD, List.getElem?_eq_getElem h]; exact List.getElem_mem _)
theorem T_mod (S : Nat) (hS : S < 2 ^ sz.length) : tabF sz r (2 ^ sz.length) S % 10001 ≤ r := by
  induction S using Nat.strongRecOn with
  | _ S ih =>
    rw [tabF_law hS]
    unfold tabV
    split
    · simp; omega
    · rcases bestT_at (sz := sz) (r := r) (f := tabF sz r (2 ^ sz.length)) (S := S) sz.length with h | ⟨i, h1, h2, h3⟩
      · rw [h]; omega
      · rw [h3]
        have hp := pow_le h2
        have h2 : 0 < 2 ^ i := Nat.pow_pos (by decide)
        exact stepT_mod hr (sz_at hr hsz hlen h1) (tabF_bound hr hsz _ _).1 (ih _ (by omega) (by omega))

theorem sz_nonneg : ∀ s ∈ sz, 0 ≤ s := fun s hs => by have := hsz s hs; omega
theorem best_off {box : Nat → Nat} {m S i : Nat} (hS : S < 2 ^ sz.length) (hi : i < sz.length) (hb : S.testBit i = true) (hbm : box i = m) (hl : load sz box m S sz.length ≤ r) (ih : tabF sz r (2 ^ sz.length) (S - 2 ^ i) ≤ ((m : Int) + 1) * 10001 + load sz box m (S - 2 ^ i) sz.length) :
    tabF sz r (2 ^ sz.length) S ≤ ((m : Int) + 1) * 10001 + load sz box m S sz.length := by
  have hM := pow_1024 hr hsz hlen
  have hp := pow_le hb
  have h2 : 0 < 2 ^ i := Nat.pow_pos (by decide)
  have hs := sz_at hr hsz hlen hi
  have hls := load_sub (sz := sz) (box := box) (k := m) (S := S) (a := i) (by omega) (by omega) hb sz.length hlen
  rw [if_pos ⟨hi, hbm⟩] at hls
  have hn := load_nonneg (box := box) (k := m) (S := S - 2 ^ i) (sz_nonneg hr hsz hlen) sz.length (Nat.le_refl _)
  obtain ⟨q, hq⟩ : ∃ q, q = load sz box m (S - 2 ^ i) sz.length := ⟨_, rfl⟩
  rw [← hq] at hls hn ih
  have h1 : tabF sz r (2 ^ sz.length) S ≤ stepT r (tabF sz r (2 ^ sz.length) (S - 2 ^ i)) (sz.getD i 0) := by
    rw [tabF_law hS]
    have h0 : S ≠ 0 := by omega
    simp only [tabV, h0, if_false]
    exact bestT_le_step hb _ hi
  have h3 := stepT_mono hr hs (tabF_bound hr hsz _ (S - 2 ^ i)).1 ih (T_mod hr hsz hlen _ (by omega))
  have h4 : stepT r (((m : Int) + 1) * 10001 + q) (sz.getD i 0) = ((m : Int) + 1) * 10001 + q + sz.getD i 0 := by
    have a1 : (((m : Int) + 1) * 10001 + q).tdiv 10001 = (((m : Int) + 1) * 10001 + q) / 10001 := Int.tdiv_eq_ediv_of_nonneg (by omega)
    have a2 : (((m : Int) + 1) * 10001 + q).tmod 10001 = (((m : Int) + 1) * 10001 + q) % 10001 := Int.tmod_eq_emod_of_nonneg (by omega)
    have a3 : (((m : Int) + 1) * 10001 + q) / 10001 = m + 1 := by omega
    have a4 : (((m : Int) + 1) * 10001 + q) % 10001 = q := by omega
    unfold stepT
    rw [a1, a2, a3, a4, if_neg (by omega)]
  omega

theorem off (box : Nat → Nat) (m S : Nat) (hS : S < 2 ^ sz.length) (i : Nat) (hi : i < sz.length) (hb : S.testBit i = true) (hbm : box i = m) (hbox : ∀ i, i < sz.length → S.testBit i = true → box i ≤ m) (hload : ∀ k, k ≤ m → load sz box k S sz.length ≤ r)
    (ih : ∀ S', S' < S → S' < 2 ^ sz.length → (∀ i, i < sz.length → S'.testBit i = true → box i ≤ m) → (∀ k, k ≤ m → load sz box k S' sz.length ≤ r) → tabF sz r (2 ^ sz.length) S' ≤ ((m : Int) + 1) * 10001 + load sz box m S' sz.length) :
    tabF sz r (2 ^ sz.length) S ≤ ((m : Int) + 1) * 10001 + load sz box m S sz.length := by
  have hM := pow_1024 hr hsz hlen
  have hp := pow_le hb
  have h2 : 0 < 2 ^ i := Nat.pow_pos (by decide)
  have hs := sz_at hr hsz hlen hi
  refine best_off hr hsz hlen hS hi hb hbm (hload m (Nat.le_refl _)) (ih _ (by omega) (by omega) (fun j hj hbj => ?_) (fun k hk => ?_))
  · rw [sub_bit (by omega) (by omega) (by omega) hb] at hbj
    simp only [Bool.and_eq_true] at hbj
    exact hbox j hj hbj.1
  · have := load_sub (sz := sz) (box := box) (k := k) (S := S) (a := i) (by omega) (by omega) hb sz.length hlen
    have h3 := hload k hk
    split at this <;> omega
theorem best_le (box : Nat → Nat) (m : Nat) : ∀ S, S < 2 ^ sz.length → (∀ i, i < sz.length → S.testBit i = true → box i ≤ m) → (∀ k, k ≤ m → load sz box k S sz.length ≤ r) → tabF sz r (2 ^ sz.length) S ≤ ((m : Int) + 1) * 10001 + load sz box m S sz.length := by
  have hM := pow_1024 hr hsz hlen
  induction m with
  | zero =>
    intro S
    induction S using Nat.strongRecOn with
    | _ S ih =>
      intro hS hbox hload
      by_cases h0 : S = 0
      · subst h0
        have := load_nonneg (box := box) (k := 0) (S := 0) (sz_nonneg hr hsz hlen) sz.length (Nat.le_refl _)
        rw [tabF_law hS]
        simp [tabV]
        omega
      · obtain ⟨i, hi, hb⟩ : ∃ i, i < sz.length ∧ S.testBit i = true := by
          apply Classical.byContradiction
          intro hn
          refine h0 (no_bits hS fun i hi => ?_)
          cases hb : S.testBit i with
          | false => rfl
          | true => exact absurd ⟨i, hi, hb⟩ hn
        exact off hr hsz hlen box 0 S hS i hi hb (by have := hbox i hi hb; omega) hbox hload ih
  | succ m ihm =>
    intro S
    induction S using Nat.strongRecOn with
    | _ S ih =>
      intro hS hbox hload
      by_cases h0 : ∃ i, i < sz.length ∧ S.testBit i = true ∧ box i = m + 1
      · obtain ⟨i, hi, hb, hbm⟩ := h0
        exact off hr hsz hlen box (m + 1) S hS i hi hb hbm hbox hload ih
      · have h1 := ihm S hS (fun i hi hb => by
          have := hbox i hi hb
          have : box i ≠ m + 1 := fun e => h0 ⟨i, hi, hb, e⟩
          omega) (fun k hk => hload k (by omega))
        have h2 := hload m (by omega)
        have h3 := load_nonneg (box := box) (k := m + 1) (S := S) (sz_nonneg hr hsz hlen) sz.length (Nat.le_refl _)
        have : (((m + 1 : Nat) : Int) + 1) = (m : Int) + 1 + 1 := by omega
        rw [this]
        omega

/-- Each entry is attained by a packing. -/
theorem attained : ∀ S, S < 2 ^ sz.length → ∃ box : Nat → Nat, (∀ i, i < sz.length → S.testBit i = true → (box i : Int) < tabF sz r (2 ^ sz.length) S / 10001) ∧ (∀ k, load sz box k S sz.length ≤ r) ∧ (S ≠ 0 → 1 ≤ tabF sz r (2 ^ sz.length) S / 10001 ∧ load sz box (tabF sz r (2 ^ sz.length) S / 10001 - 1).toNat S sz.length = tabF sz r (2 ^ sz.length) S % 10001) := by
  have hM := pow_1024 hr hsz hlen
  intro S
  induction S using Nat.strongRecOn with
  | _ S ih =>
    intro hS
    by_cases h0 : S = 0
    · subst h0
      refine ⟨fun _ => 0, fun i hi hb => by simp at hb, fun k => ?_, fun h => absurd rfl h⟩
      rw [load_none _ fun j hj hb => by simp at hb]
      omega
    · have hlaw := tabF_law (sz := sz) (r := r) hS
      simp only [tabV, h0, if_false] at hlaw
      rcases bestT_at (sz := sz) (r := r) (f := tabF sz r (2 ^ sz.length)) (S := S) sz.length with h | ⟨i, hi, hb, h3⟩
      · exfalso
        have hN : 0 < sz.length := by
          apply Nat.pos_of_ne_zero
          intro h
          rw [h] at hS
          exact h0 (by omega)
        have hone : ∀ k, load sz (fun i => i) k S sz.length ≤ r := fun k => by
          have key : ∀ n, n ≤ sz.length → load sz (fun i => i) k S n ≤ if k < n then sz.getD k 0 else 0 := by
            intro n
            induction n with
            | zero => intro _; simp [load]
            | succ n ihn =>
              intro hn
              have := ihn (by omega)
              have hs0 := sz_at hr hsz hlen (i := n) (by omega)
              unfold load
              by_cases hk : n = k
              · subst hk
                have h1 : ¬ n < n := by omega
                have h2 : n < n + 1 := by omega
                rw [if_neg h1] at this
                rw [if_pos h2]
                split <;> omega
              · have h1 : (k < n + 1) = (k < n) := by simp; omega
                rw [if_neg (fun e => hk e.2)]
                simp only [h1]
                omega
          have := key sz.length (Nat.le_refl _)
          split at this
          · rename_i hk
            have := sz_at hr hsz hlen hk
            omega
          · omega
        have := best_le hr hsz hlen (fun i => i) (sz.length - 1) S hS (fun i hi _ => by show i ≤ sz.length - 1; omega) (fun k _ => hone k)
        have h2 := hone (sz.length - 1)
        rw [hlaw, h] at this
        have : ((sz.length - 1 : Nat) : Int) = (sz.length : Int) - 1 := by omega
        omega
      · have hp := pow_le hb
        have h2 : 0 < 2 ^ i := Nat.pow_pos (by decide)
        have hs := sz_at hr hsz hlen hi
        obtain ⟨box, q1, q2, q3⟩ := ih (S - 2 ^ i) (by omega) (by omega)
        obtain ⟨v, hv⟩ : ∃ v, v = tabF sz r (2 ^ sz.length) (S - 2 ^ i) := ⟨_, rfl⟩
        have hvb := (tabF_bound hr hsz (2 ^ sz.length) (S - 2 ^ i)).1
        have hvm := T_mod hr hsz hlen (S - 2 ^ i) (by omega)
        rw [← hv] at q1 q3 hvb hvm h3
        rw [h3] at hlaw
        have a1 : v.tdiv 10001 = v / 10001 := Int.tdiv_eq_ediv_of_nonneg hvb
        have a2 : v.tmod 10001 = v % 10001 := Int.tmod_eq_emod_of_nonneg hvb
        unfold stepT at hlaw
        rw [a1, a2] at hlaw
        have hsub : ∀ j, j < sz.length → (S - 2 ^ i).testBit j = (S.testBit j && !(j == i)) := fun j hj => sub_bit (by omega) (by omega) (by omega) hb
        -- the load where piece i goes to box c
        have hput : ∀ c k, load sz (fun j => if j = i then c else box j) k S sz.length = load sz box k (S - 2 ^ i) sz.length + if c = k then sz.getD i 0 else 0 := fun c k => by
          rw [load_sub (by omega) (by omega) hb sz.length hlen, load_congr (box' := box) sz.length fun j hj hbj => ?_]
          · simp [hi]
          · rw [hsub j hj] at hbj
            have : j ≠ i := by
              intro e
              subst e
              simp at hbj
            simp [this]
        by_cases hc : v / 10001 = 0 ∨ v % 10001 + sz.getD i 0 > r
        · rw [if_pos hc] at hlaw
          have d1 : tabF sz r (2 ^ sz.length) S / 10001 = v / 10001 + 1 := by rw [hlaw]; omega
          have d2 : tabF sz r (2 ^ sz.length) S % 10001 = sz.getD i 0 := by rw [hlaw]; omega
          have hnew : load sz box (v / 10001).toNat (S - 2 ^ i) sz.length = 0 := load_none _ fun j hj hbj e => by
            have := q1 j hj hbj
            omega
          refine ⟨fun j => if j = i then (v / 10001).toNat else box j, fun j hj hbj => ?_, fun k => ?_, fun _ => ⟨by omega, ?_⟩⟩
          · rw [d1]
            by_cases hji : j = i
            · simp only [hji, if_true]; omega
            · simp only [hji, if_false]
              have := q1 j hj (by rw [hsub j hj]; simp [hbj, hji])
              omega
          · rw [hput]
            split
            · rename_i e; rw [← e, hnew]; omega
            · have := q2 k; omega
          · rw [d1, d2, hput]
            have e : (v / 10001 + 1 - 1).toNat = (v / 10001).toNat := by congr 1; omega
            rw [e, hnew, if_pos rfl]
            omega
        · rw [if_neg hc] at hlaw
          have d1 : tabF sz r (2 ^ sz.length) S / 10001 = v / 10001 := by rw [hlaw]; omega
          have d2 : tabF sz r (2 ^ sz.length) S % 10001 = v % 10001 + sz.getD i 0 := by rw [hlaw]; omega
          have hS0 : S - 2 ^ i ≠ 0 := by
            intro e
            rw [e] at hv
            rw [tabF_law (by omega : 0 < 2 ^ sz.length)] at hv
            simp [tabV] at hv
            rw [hv] at hc
            simp at hc
          obtain ⟨q4, q5⟩ := q3 hS0
          refine ⟨fun j => if j = i then (v / 10001 - 1).toNat else box j, fun j hj hbj => ?_, fun k => ?_, fun _ => ⟨by omega, ?_⟩⟩
          · rw [d1]
            by_cases hji : j = i
            · simp only [hji, if_true]; omega
            · simp only [hji, if_false]
              have := q1 j hj (by rw [hsub j hj]; simp [hbj, hji])
              omega
          · rw [hput]
            split
            · rename_i e; rw [← e, q5]; omega
            · have := q2 k; omega
          · rw [d1, d2, hput, q5, if_pos rfl]
end
end Go.TI
end
