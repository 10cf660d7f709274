/- A part of the proof of TopPackedBest: texts TkU to TkU. -/
import Derived.Test.YtpnjgmfkndbllaaGreatDoorZ26
/- The table of pieces: the run. -/
section
set_option linter.unusedVariables false
set_option linter.unusedSimpArgs false
set_option maxRecDepth 1000000
namespace Go.TI
open Go Go.Proofs
attribute [local simp] evalOps stepOp wantedT evalOp Opd.val St.put St.ok St.obj upd start args0 binV binI intCmp resultsV resV idxOf loadV partV storeV getCells getRows upd2 cellsOf putAt scal faddrV

theorem bestT_le {sz : List Int} {r : Int} {f : Nat → Int} {set : Nat} : ∀ i, bestT sz r f set i ≤ 10001 * ((sz.length : Int) + 1)
  | 0 => Int.le_refl _
  | i + 1 => by
    have := bestT_le (sz := sz) (r := r) (f := f) (set := set) i
    unfold bestT
    split
    · omega
    · exact this
theorem bestT_ge {sz : List Int} {r : Int} {f : Nat → Int} {set : Nat} (hr : 1 ≤ r ∧ r ≤ 10000) (hsz : ∀ s ∈ sz, 1 ≤ s ∧ s ≤ r) (hf : ∀ j, 0 ≤ f j) : ∀ i, i ≤ sz.length → 0 ≤ bestT sz r f set i
  | 0, _ => by simp only [bestT]; omega
  | i + 1, h => by
    have h1 := bestT_ge (f := f) (set := set) hr hsz hf i (by omega)
    have hs : 1 ≤ sz.getD i 0 ∧ sz.getD i 0 ≤ r := hsz _ (by rw [List.getD_eq_getElem?_getD, List.getElem?_eq_getElem (by omega)]; exact List.getElem_mem _)
    have h2 := stepT_bound hr hs (hf (set - 2 ^ i))
    unfold bestT
    split <;> omega
theorem tabF_bound {sz : List Int} {r : Int} (hr : 1 ≤ r ∧ r ≤ 10000) (hsz : ∀ s ∈ sz, 1 ≤ s ∧ s ≤ r) : ∀ m j, 0 ≤ tabF sz r m j ∧ tabF sz r m j ≤ 10001 * ((sz.length : Int) + 1)
  | 0, j => by simp only [tabF]; omega
  | m + 1, j => by
    have ih := tabF_bound hr hsz m
    unfold tabF
    split
    · unfold tabV
      split
      · omega
      · exact ⟨bestT_ge hr hsz (fun j => (ih j).1) _ (Nat.le_refl _), bestT_le _⟩
    · exact ih j

theorem bin_quo {v : Int} (h1 : 0 ≤ v) (h2 : v ≤ 1000000) : binV .quo (I v) (I 10001) = some (I (v.tdiv 10001)) := by
  show some (V.lit (.int .i64 (IntKind.i64.wrap (v.tdiv 10001)))) = _
  have : v.tdiv 10001 = v / 10001 := Int.tdiv_eq_ediv_of_nonneg h1
  rw [wrap_id (by omega) (by omega)]
theorem bin_rem {v : Int} : binV .rem (I v) (I 10001) = some (I (v.tmod 10001)) := rfl

theorem L115_0_ok {C : Cfg} {sz : List Int} {r : Int} (hr : 1 ≤ r ∧ r ≤ 10000) (hsz : ∀ s ∈ sz, 1 ≤ s ∧ s ≤ r) (hlen : sz.length ≤ 10) {set M g : Nat} (hset : set < M) (hM : M ≤ 1024) {f : Nat → Int} (hf : ∀ j, 0 ≤ f j ∧ f j ≤ 10001 * ((sz.length : Int) + 1)) :
    ∀ (n i : Nat) (st : St), i + n = sz.length → st.fr = 0 → st.t 1 = I r → st.t 5 = .own 0 15 g 0 M 1 → st.t 6 = I set → st.t 27 = encInts sz → st.t 28 = I sz.length → st.t 29 = I i → st.t 7 = I (bestT sz r f set i) → st.s 0 15 = some (g, .rows 1 (rowsF M f)) →
    W C Tab.L115_0 st fun e st' => e = .exit 2 ∧ (∀ k ∈ [0, 1, 5, 6, 16, 17, 18], st'.t k = st.t k) ∧ st'.t 7 = I (bestT sz r f set sz.length) ∧ st'.fr = 0 ∧ st'.s = st.s := by
  intro n
  induction n with
  | zero =>
    intro i st hi hfr h1 h5 h6 h27 h28 h29 h7 hs
    obtain rfl : i = sz.length := by omega
    refine W.loop (W.seq (W.reg (WO.ops (fun ic => by simp [h28, h29]; rfl) ?_)))
    refine W.seq (W.ite false (by simp) ?_)
    exact W.exit ⟨rfl, fun k hk => by simp at hk; rcases hk with rfl | rfl | rfl | rfl | rfl | rfl | rfl <;> simp, by simp [h7], by simp [hfr], by simp⟩
  | succ n ih =>
    intro i st hi hfr h1 h5 h6 h27 h28 h29 h7 hs
    have hin : i < sz.length := by omega
    have hsi : sz[i]? = some (sz.getD i 0) := by simp [hin]
    have hso : 1 ≤ sz.getD i 0 ∧ sz.getD i 0 ≤ r := hsz _ (List.mem_of_getElem? hsi)
    obtain ⟨s, hs0⟩ : ∃ s, s = sz.getD i 0 := ⟨_, rfl⟩
    rw [← hs0] at hsi hso
    have hat0 : ∀ st, iaddrV st 1 (i : Int) (encInts sz) = some (.vptr [I s] 0) := fun st => atInts hsi
    have hw : IntKind.i64.wrap ((i : Int) + 1) = (i : Int) + 1 := wrap_id (by omega) (by omega)
    have q1 : binV .shr (I set) (I i) = some (I ((set >>> i : Nat) : Int)) := bin_shr (by omega) (by omega)
    have q2 : binV .and (I ((set >>> i : Nat) : Int)) (I 1) = some (I (if set.testBit i then 1 else 0)) := bin_and1 (by omega) (by omega)
    have q3 : binV .shl (I 1) (I i) = some (I ((2 ^ i : Nat) : Int)) := bin_shl (by omega)
    obtain ⟨w1, hw1⟩ : ∃ w1, w1 = ((set >>> i : Nat) : Int) := ⟨_, rfl⟩
    obtain ⟨w2, hw2⟩ : ∃ w2, w2 = ((2 ^ i : Nat) : Int) := ⟨_, rfl⟩
    rw [← hw1] at q1 q2
    rw [← hw2] at q3
    -- the end of a round
    have fin : ∀ st' : St, st'.fr = 0 → st'.t 1 = I r → st'.t 5 = .own 0 15 g 0 M 1 → st'.t 6 = I set → st'.t 27 = encInts sz → st'.t 28 = I sz.length → st'.t 29 = I i → st'.t 7 = I (bestT sz r f set (i + 1)) → st'.s = st.s → (∀ k ∈ [0, 16, 17, 18], st'.t k = st.t k) →
        W C (.reg [Tab.o 74 (.bin .add (Tab.t 29) (Tab.i 1)), Tab.o 29 (.mv (Tab.t 74))]) st' (thenQ (fun s => W C Tab.L115_0 s fun e st' => e = .exit 2 ∧ (∀ k ∈ [0, 1, 5, 6, 16, 17, 18], st'.t k = st.t k) ∧ st'.t 7 = I (bestT sz r f set sz.length) ∧ st'.fr = 0 ∧ st'.s = st.s) fun e st' => e = .exit 2 ∧ (∀ k ∈ [0, 1, 5, 6, 16, 17, 18], st'.t k = st.t k) ∧ st'.t 7 = I (bestT sz r f set sz.length) ∧ st'.fr = 0 ∧ st'.s = st.s) := by
      intro st' k0 k1 k5 k6 k27 k28 k29 k7 ks kk
      refine W.reg (WO.ops (fun ic => by simp [k29, hw]; rfl) ?_)
      simp only [thenQ_normal]
      refine (ih (i + 1) _ (by omega) (by simp [k0]) (by simp [k1]) (by simp [k5]) (by simp [k6]) (by simp [k27]) (by simp [k28]) (by simp) (by simp [k7]) (by simp [ks, hs])).mono fun e s2 h => ⟨h.1, fun k hk => ?_, h.2.2.1, h.2.2.2.1, by rw [h.2.2.2.2]; exact ks⟩
      rw [h.2.1 k hk]
      have a0 := kk 0 (by simp); have a16 := kk 16 (by simp); have a17 := kk 17 (by simp); have a18 := kk 18 (by simp)
      simp at hk
      rcases hk with rfl | rfl | rfl | rfl | rfl | rfl | rfl <;> simp [a0, a16, a17, a18, k1, h1, k5, h5, k6, h6]
    refine W.loop (W.seq (W.reg (WO.ops (fun ic => by simp [h28, h29]; rfl) ?_)))
    refine W.seq (W.ite true (by simp [hin]) (W.skip ?_))
    refine W.seq (W.blk (W.seq (W.reg (WO.ops (fun ic => by simp [h27, h29, hat0]; rfl) ?_))))
    cases hb : set.testBit i with
    | false =>
      rw [hb] at q2
      replace q2 : binV .and (I w1) (I 1) = some (I 0) := q2
      have q4 : binV .eql (I 0) (I 0) = some (B true) := rfl
      refine W.seq (W.seq (W.reg (WO.ops (fun ic => by simp [-binV, -binI, h6, q1, q2, q4]; rfl) ?_)))
      refine W.ite true (by simp) (W.exit ?_)
      simp only [thenQ_exit, blkQ_exit, if_true, thenQ_normal]
      exact fin _ (by simp [hfr]) (by simp [h1]) (by simp [h5]) (by simp [h6]) (by simp [h27]) (by simp [h28]) (by simp [h29]) (by simp [h7, bestT, hb]) (by simp) (fun k hk => by simp at hk; rcases hk with rfl | rfl | rfl | rfl <;> simp)
    | true =>
      rw [hb] at q2
      replace q2 : binV .and (I w1) (I 1) = some (I 1) := q2
      have q4 : binV .eql (I 1) (I 0) = some (B false) := rfl
      obtain ⟨q5, hle⟩ := bin_andNot (set := set) (i := i) (by omega) (by omega) hb
      refine W.seq (W.seq (W.reg (WO.ops (fun ic => by simp [-binV, -binI, h6, q1, q2, q4]; rfl) ?_)))
      refine W.ite false (by simp) (W.skip ?_)
      rw [← hw2] at q5
      obtain ⟨v, hv⟩ : ∃ v, v = f (set - 2 ^ i) := ⟨_, rfl⟩
      have hvb := hf (set - 2 ^ i)
      rw [← hv] at hvb
      have hbest : bestT sz r f set (i + 1) = min (bestT sz r f set i) (stepT r v s) := by simp only [bestT, hb, if_true, hv, hs0]
      obtain ⟨d, hd⟩ : ∃ d, d = set - 2 ^ i := ⟨_, rfl⟩
      rw [← hd] at q5 hv
      have hj : d < M := by have := Nat.sub_le set (2 ^ i); omega
      have q6 : iaddrV st.s 1 (d : Int) (.own 0 15 g 0 M 1) = some (.rptr 0 15 g 1 d 0) := by
        simp only [iaddrV, getRows, hs, and_self, if_true, Option.bind_some, Int.toNat_natCast, Nat.zero_add, rowsF_len]
        rw [if_pos ⟨by omega, hj, by decide, trivial, hj⟩]
      have q7 : loadV st.s false 1 (.rptr 0 15 g 1 d 0) = some (I v) := by
        simp only [loadV, getRows, hs, and_self, if_true, Option.bind_some, rowsF_get hj, hv]
        rfl
      have q8 := bin_quo (v := v) hvb.1 (by omega)
      have q9 : binV .rem (I v) (I 10001) = some (I (v.tmod 10001)) := bin_rem
      refine W.seq (W.dregP rfl (WO.ops (fun ic => by simp [-binV, -binI, -loadV, h5, h6, q3, q5, q6, q7, q8, q9]; rfl) ?_))
      have hb0 := bestT_ge (set := set) hr hsz (fun j => (hf j).1) i (by omega)
      have hb1 := bestT_le (sz := sz) (r := r) (f := f) (set := set) i
      have hdq : v.tdiv 10001 = v / 10001 := Int.tdiv_eq_ediv_of_nonneg hvb.1
      have hdm : v.tmod 10001 = v % 10001 := Int.tmod_eq_emod_of_nonneg hvb.1
      obtain ⟨b, hbq⟩ : ∃ b, b = v.tdiv 10001 := ⟨_, rfl⟩
      obtain ⟨q, hqm⟩ : ∃ q, q = v.tmod 10001 := ⟨_, rfl⟩
      have hb' : 0 ≤ b ∧ b ≤ 1000 := by rw [hbq, hdq]; omega
      have hq' : 0 ≤ q ∧ q ≤ 10000 := by rw [hqm, hdm]; omega
      unfold stepT at hbest
      simp only [← hbq, ← hqm] at hbest ⊢
      have w1' : IntKind.i64.wrap (q + s) = q + s := wrap_id (by omega) (by omega)
      have w2' : IntKind.i64.wrap (b + 1) = b + 1 := wrap_id (by omega) (by omega)
      have w3 : IntKind.i64.wrap ((b + 1) * 10001) = (b + 1) * 10001 := wrap_id (by omega) (by omega)
      have w4 : IntKind.i64.wrap (b * 10001) = b * 10001 := wrap_id (by omega) (by omega)
      have w5 : IntKind.i64.wrap ((b + 1) * 10001 + s) = (b + 1) * 10001 + s := wrap_id (by omega) (by omega)
      have w6 : IntKind.i64.wrap (b * 10001 + q) = b * 10001 + q := wrap_id (by omega) (by omega)
      have w7 : IntKind.i64.wrap (b * 10001 + q + s) = b * 10001 + q + s := wrap_id (by omega) (by omega)
      by_cases hcd : b = 0 ∨ q + s > r
      · rw [if_pos hcd] at hbest
        by_cases hb0' : b = 0
        · have hbe : (b == 0) = true := by simp [hb0']
          refine W.seq (W.seq (W.reg (WO.ops (fun ic => by simp [h1, hbe]; rfl) ?_)))
          refine W.ite true (by simp) (W.reg (WO.ops (fun ic => by simp [w2']; rfl) ?_))
          simp only [thenQ_normal]
          refine W.reg (WO.ops (fun ic => by simp [h7, w3, w5]; rfl) ?_)
          simp only [blkQ_normal, thenQ_normal]
          exact fin _ (by simp [hfr]) (by simp [h1]) (by simp [h5]) (by simp [h6]) (by simp [h27]) (by simp [h28]) (by simp [h29]) (by simp [hbest]) (by simp) (fun k hk => by simp at hk; rcases hk with rfl | rfl | rfl | rfl <;> simp)
        · have hbe : (b == 0) = false := by simp [hb0']
          have hqs : r < q + s := by omega
          refine W.seq (W.seq (W.reg (WO.ops (fun ic => by simp [h1, hbe, w1']; rfl) ?_)))
          refine W.ite true (by simp [hqs]) (W.reg (WO.ops (fun ic => by simp [w2']; rfl) ?_))
          simp only [thenQ_normal]
          refine W.reg (WO.ops (fun ic => by simp [h7, w3, w5]; rfl) ?_)
          simp only [blkQ_normal, thenQ_normal]
          exact fin _ (by simp [hfr]) (by simp [h1]) (by simp [h5]) (by simp [h6]) (by simp [h27]) (by simp [h28]) (by simp [h29]) (by simp [hbest]) (by simp) (fun k hk => by simp at hk; rcases hk with rfl | rfl | rfl | rfl <;> simp)
      · rw [if_neg hcd] at hbest
        have hbe : (b == 0) = false := by simp; omega
        have hqs : ¬ r < q + s := by omega
        refine W.seq (W.seq (W.reg (WO.ops (fun ic => by simp [h1, hbe, w1']; rfl) ?_)))
        refine W.ite false (by simp [hqs]) (W.skip ?_)
        simp only [thenQ_normal]
        refine W.reg (WO.ops (fun ic => by simp [h7, w4, w6, w7]; rfl) ?_)
        simp only [blkQ_normal, thenQ_normal]
        exact fin _ (by simp [hfr]) (by simp [h1]) (by simp [h5]) (by simp [h6]) (by simp [h27]) (by simp [h28]) (by simp [h29]) (by simp [hbest]) (by simp) (fun k hk => by simp at hk; rcases hk with rfl | rfl | rfl | rfl <;> simp)

theorem L115_1_ok {C : Cfg} {sz : List Int} {r : Int} (hr : 1 ≤ r ∧ r ≤ 10000) (hsz : ∀ s ∈ sz, 1 ≤ s ∧ s ≤ r) (hlen : sz.length ≤ 10) {M g : Nat} (hM : M ≤ 1024) :
    ∀ (n m : Nat) (st : St), m + n = M → st.fr = 0 → st.t 0 = encInts sz → st.t 1 = I r → st.t 5 = .own 0 15 g 0 M 1 → st.t 17 = I M → st.t 18 = I m → st.s 0 15 = some (g, .rows 1 (rowsF M (tabF sz r m))) →
    W C Tab.L115_1 st fun e st' => e = .exit 0 ∧ st'.t 5 = .own 0 15 g 0 M 1 ∧ st'.s 0 15 = some (g, .rows 1 (rowsF M (tabF sz r M))) := by
  intro n
  induction n with
  | zero =>
    intro m st hm hfr h0 h1 h5 h17 h18 hs
    obtain rfl : m = M := by omega
    refine W.loop (W.seq (W.reg (WO.ops (fun ic => by simp [h17, h18]; rfl) ?_)))
    refine W.seq (W.ite false (by simp) ?_)
    exact W.exit ⟨rfl, by simp [h5], by simp [hs]⟩
  | succ n ih =>
    intro m st hm hfr h0 h1 h5 h17 h18 hs
    have hmM : m < M := by omega
    have hw : IntKind.i64.wrap ((m : Int) + 1) = (m : Int) + 1 := wrap_id (by omega) (by omega)
    have hwl : IntKind.i64.wrap ((sz.length : Int) + 1) = (sz.length : Int) + 1 := wrap_id (by omega) (by omega)
    have hwu : IntKind.i64.wrap (10001 * ((sz.length : Int) + 1)) = 10001 * ((sz.length : Int) + 1) := wrap_id (by omega) (by omega)
    refine W.loop (W.seq (W.reg (WO.ops (fun ic => by simp [h17, h18]; rfl) ?_)))
    refine W.seq (W.ite true (by simp [hmM]) (W.skip ?_))
    refine W.seq (W.blk (W.seq (W.reg (WO.ops (fun ic => by simp [h18]; rfl) ?_))))
    refine W.seq (W.seq (W.reg (WO.ops (fun ic => by simp; rfl) ?_)))
    by_cases h00 : m = 0
    · refine W.ite true (by simp [h00]) (W.exit ?_)
      simp only [thenQ_exit, blkQ_exit, if_true, thenQ_normal]
      refine W.reg (WO.ops (fun ic => by simp [h18, hw]; rfl) ?_)
      simp only [thenQ_normal]
      refine ih (m + 1) _ (by omega) (by simp [hfr]) (by simp [h0]) (by simp [h1]) (by simp [h5]) (by simp [h17]) (by simp) ?_
      have : tabF sz r (m + 1) = tabF sz r m := by
        subst h00
        funext j
        simp [tabF, tabV]
      rw [this]
      simp [hs]
    · have hm0 : ((m : Int) == 0) = false := by simp [h00]
      refine W.ite false (by simp [hm0]) (W.skip ?_)
      refine W.seq (W.reg (WO.ops (fun ic => by simp [h0, lenInts, hwl, hwu]; rfl) ?_))
      refine W.seq (W.seq (W.reg (WO.ops (fun ic => by simp [h0, lenInts]; rfl) ?_)))
      refine W.blk ((L115_0_ok hr hsz hlen (set := m) (g := g) hmM hM (fun j => tabF_bound hr hsz m j) sz.length 0 _ (by omega) (by simp [hfr]) (by simp [h1]) (by simp [h5]) (by simp) (by simp) (by simp) (by simp) (by simp [bestT]) (by simp [hs])).mono fun e s h => ?_)
      obtain ⟨rfl, hk, h7, hfr2, hs2⟩ := h
      have k0 := hk 0 (by simp); have k1 := hk 1 (by simp); have k5 := hk 5 (by simp); have k6 := hk 6 (by simp); have k17 := hk 17 (by simp); have k18 := hk 18 (by simp)
      simp [h0, h1, h5, h17, h18] at k0 k1 k5 k6 k17 k18
      simp only [blkQ_exit, if_true, thenQ_normal]
      have hs2' : s.s 0 15 = some (g, .rows 1 (rowsF M (tabF sz r m))) := by rw [hs2]; simp [hs]
      have q6 : iaddrV s.s 1 (m : Int) (.own 0 15 g 0 M 1) = some (.rptr 0 15 g 1 m 0) := by
        simp only [iaddrV, getRows, hs2', and_self, if_true, Option.bind_some, Int.toNat_natCast, Nat.zero_add, rowsF_len]
        rw [if_pos ⟨by omega, hmM, by decide, trivial, hmM⟩]
      have hv : bestT sz r (tabF sz r m) m sz.length = tabV sz r (tabF sz r m) m := by simp [tabV, h00]
      have q7 : storeV s.s 1 (I (bestT sz r (tabF sz r m) m sz.length)) (.rptr 0 15 g 1 m 0) = some (upd2 s.s 0 15 (some (g, .rows 1 (rowsF M (tabF sz r (m + 1)))))) := by
        rw [hv, ← rowsF_set hmM]
        simp only [storeV, getRows, hs2', and_self, if_true, Option.bind_some, rowsF_get hmM]
        rfl
      refine W.reg (WO.ops (fun ic => by simp [-storeV, k5, k6, h7, q6, q7]; rfl) ?_)
      simp only [blkQ_normal, thenQ_normal]
      refine W.reg (WO.ops (fun ic => by simp [k18, hw]; rfl) ?_)
      simp only [thenQ_normal]
      exact ih (m + 1) _ (by omega) (by simp [hfr2]) (by simp [k0]) (by simp [k1]) (by simp [k5]) (by simp [k17]) (by simp) (by simp)

theorem view_ownInts {s : Sto} {fr sl g n : Nat} {l : List Int} (h : s fr sl = some (g, .rows 1 (l.map fun x => [I x]))) : view s (n + 2) (.own fr sl g 0 l.length 1) = some (encInts l) := by
  have hv : mapO (mapO (view s (n + 1))) (l.map fun x => [I x]) = some (l.map fun x => [I x]) := mapO_id fun r hr => mapO_id fun x hx => by
    obtain ⟨c, _, rfl⟩ := List.mem_map.1 hr
    simp only [List.mem_cons, List.not_mem_nil, or_false] at hx
    subst hx; rfl
  simp only [view, h]
  have : List.take l.length (l.map fun x => [I x]) = l.map fun x => [I x] := List.take_of_length_le (by simp)
  simp [this, hv, encInts]
/-- The table, as a list. -/
def tabL (sz : List Int) (r : Int) : List Int := (List.range (2 ^ sz.length)).map (tabF sz r (2 ^ sz.length))
theorem p115 (sz : List Int) (r : Int) (hr : 1 ≤ r ∧ r ≤ 10000) (hsz : ∀ s ∈ sz, 1 ≤ s ∧ s ≤ r) (hlen : sz.length ≤ 10) : PureOk P0 115 [encInts sz, I r] (encInts (tabL sz r)) := by
  refine pure_run (F := Tab.F115) rfl rfl [] ?_
  have hM : 2 ^ sz.length ≤ 1024 := by
    have : 2 ^ sz.length ≤ 2 ^ 10 := Nat.pow_le_pow_right (by decide) hlen
    omega
  have q := bin_shl (i := sz.length) (by omega)
  obtain ⟨M, hMd⟩ : ∃ M, M = 2 ^ sz.length := ⟨_, rfl⟩
  rw [← hMd] at q hM
  have hrep : List.replicate M [Tab.z 0] = rowsF M (tabF sz r 0) := by
    apply List.ext_getElem?
    intro j
    by_cases h : j < M
    · simp [rowsF, h, tabF]
    · simp [rowsF, h]
  have hroom : (M : Int) * 8 ≤ (room : Int) := by simp [room]; omega
  unfold Tab.F115
  refine W.seq (W.reg (WO.ops (fun ic => rfl) ?_))
  refine W.seq (W.reg (WO.ops (fun ic => by simp [-binV, -binI, lenInts, q, hroom]; rfl) ?_))
  refine W.seq (W.seq (W.reg (WO.ops (fun ic => by simp [lenV]; rfl) ?_)))
  refine W.blk ((L115_1_ok hr hsz hlen (g := 1) hM M 0 _ (by omega) (by simp) (by simp) (by simp) (by simp) (by simp) (by simp) (by simp [hrep])).mono fun e s h => ?_)
  obtain ⟨rfl, h5, hs⟩ := h
  simp only [blkQ_exit, if_true, thenQ_normal]
  refine W.seq (W.reg (WO.ops (fun ic => by simp [h5]; rfl) (W.ret ⟨.inr rfl, ?_⟩)))
  have hrows : rowsF M (tabF sz r M) = (tabL sz r).map fun x => [I x] := by
    simp [rowsF, tabL, ← hMd]
  have hl : (tabL sz r).length = M := by simp [tabL, ← hMd]
  simp
  rw [hrows] at hs
  rw [← hl]
  exact view_ownInts hs
end Go.TI
end
