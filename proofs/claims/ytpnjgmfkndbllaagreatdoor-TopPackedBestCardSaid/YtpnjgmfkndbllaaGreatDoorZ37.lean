/- A part of the proof of TopPackedBest: texts TkLaw3 to TkLaw3. -/
import Derived.Test.YtpnjgmfkndbllaaGreatDoorZ36
/- The law's own run: into fewer boxes; all. -/
section
set_option linter.unusedVariables false
set_option linter.unusedSimpArgs false
set_option maxRecDepth 1000000
namespace Go.TI
open Go Go.Proofs
attribute [local simp] evalOps stepOp wantedT evalOp Opd.val St.put St.ok St.obj upd start args0 binV binI intCmp resultsV resV idxOf loadV partV storeV getCells getRows upd2 cellsOf putAt scal faddrV

def U (n : Nat) : V := .lit (.int .u8 n)
def encU8 (l : List Nat) : V := slN 1 (l.map fun x => [U x])
theorem lenU8 {s : Sto} {l : List Nat} : lenV s 1 (encU8 l) = some (l.length : Int) := by simp [encU8, len_slN]
theorem atU8 {s : Sto} {l : List Nat} {j : Nat} {x : Nat} (h : l[j]? = some x) : iaddrV s 1 (j : Int) (encU8 l) = some (.vptr [.lit (.int .u8 x)] 0) := iaddr_slN (by decide) (by simp [h, U])

/-- Where a piece is to go, by the bytes. -/
def goTo (ofs : List Nat) (L i : Nat) : Nat := if i < ofs.length ∧ 1 < L then ofs.getD i 0 % (L - 1) else 0
def goR (ofs : List Nat) (L N i : Nat) : List Int := (List.range N).map fun j => if j < i then ((goTo ofs L j : Nat) : Int) else 0
theorem goR_len {ofs : List Nat} {L N i : Nat} : (goR ofs L N i).length = N := by simp [goR]
theorem goR_set {ofs : List Nat} {L N i : Nat} (h : i < N) : (goR ofs L N i).set i ((goTo ofs L i : Nat) : Int) = goR ofs L N (i + 1) := by
  apply List.ext_getElem?
  intro j
  unfold goR
  rw [List.getElem?_set, List.getElem?_map, List.getElem?_map]
  by_cases hj : j < N
  · by_cases e : i = j
    · subst e; simp [h]
    · by_cases h1 : j < i
      · have : j < i + 1 := by omega
        simp [e, hj, h1, this]
      · have : ¬ j < i + 1 := by omega
        simp [e, hj, h1, this]
  · have h1 : (List.range N)[j]? = none := by simp; omega
    have h2 : ¬ (i = j) := by omega
    simp [h1, h2]
theorem goR_same {ofs : List Nat} {L N i : Nat} (h : goTo ofs L i = 0) : goR ofs L N (i + 1) = goR ofs L N i := by
  unfold goR
  apply List.map_congr_left
  intro j _
  by_cases e : j = i
  · subst e; simp [h]
  · have : (j < i + 1) = (j < i) := by simp; omega
    simp [this]

theorem L3_0_ok {C : Cfg} {x : List (List Int)} {ofs : List Nat} {N g : Nat} {s0 : Sto} (hN : N ≤ 10) (hof : ∀ b ∈ ofs, b ≤ 255) (hx : x.length ≤ 10) :
    ∀ (n i : Nat) (st : St), i + n = N → st.fr = 0 → st.t 2 = encU8 ofs → st.t 7 = encII x → st.t 20 = .own 0 152 g 0 N 1 → st.t 154 = I N → st.t 155 = I i → st.s = upd2 s0 0 152 (some (g, .rows 1 (isR (goR ofs x.length N i)))) →
    W C Tab.L3_0 st fun e st' => e = .exit 6 ∧ st'.fr = 0 ∧ (∀ k ∈ [0, 1, 7, 20], st'.t k = st.t k) ∧ st'.s = upd2 s0 0 152 (some (g, .rows 1 (isR (goR ofs x.length N N)))) := by
  intro n
  induction n with
  | zero =>
    intro i st hi hfr h2 h7 h20 h154 h155 hs
    obtain rfl : i = N := by omega
    refine W.loop (W.seq (W.reg (WO.ops (fun ic => by simp [h154, h155]; rfl) ?_)))
    refine W.seq (W.ite false (by simp) ?_)
    exact W.exit ⟨rfl, by simp [hfr], fun k hk => by simp at hk; rcases hk with h | h | h | h <;> subst h <;> simp, by simp [hs]⟩
  | succ n ih =>
    intro i st hi hfr h2 h7 h20 h154 h155 hs
    have hiN : i < N := by omega
    have hw : IntKind.i64.wrap ((i : Int) + 1) = ((i + 1 : Nat) : Int) := by rw [wrap_id (by omega) (by omega)]; omega
    obtain ⟨i1, hi1⟩ : ∃ i1, i1 = i + 1 := ⟨_, rfl⟩
    rw [← hi1] at hw
    have fin : ∀ st' : St, st'.fr = 0 → st'.t 2 = encU8 ofs → st'.t 7 = encII x → st'.t 20 = .own 0 152 g 0 N 1 → st'.t 154 = I N → st'.t 155 = I i → st'.t 0 = st.t 0 → st'.t 1 = st.t 1 → st'.s = upd2 s0 0 152 (some (g, .rows 1 (isR (goR ofs x.length N (i + 1))))) →
        W C (.reg [Tab.o 179 (.bin .add (Tab.t 155) (Tab.i 1)), Tab.o 155 (.mv (Tab.t 179))]) st' (thenQ (fun s => W C Tab.L3_0 s fun e st' => e = .exit 6 ∧ st'.fr = 0 ∧ (∀ k ∈ [0, 1, 7, 20], st'.t k = st.t k) ∧ st'.s = upd2 s0 0 152 (some (g, .rows 1 (isR (goR ofs x.length N N))))) fun e st' => e = .exit 6 ∧ st'.fr = 0 ∧ (∀ k ∈ [0, 1, 7, 20], st'.t k = st.t k) ∧ st'.s = upd2 s0 0 152 (some (g, .rows 1 (isR (goR ofs x.length N N))))) := by
      intro st' k0 k2 k7 k20 k154 k155 j0 j1 ks
      refine W.reg (WO.ops (fun ic => by simp [k155, hw]; rfl) ?_)
      simp only [thenQ_normal]
      refine (ih i1 _ (by omega) (by simp [k0]) (by simp [k2]) (by simp [k7]) (by simp [k20]) (by simp [k154]) (by simp) (by simp [ks, hi1])).mono fun e s2 h => ⟨h.1, h.2.1, fun k hk => ?_, h.2.2.2⟩
      rw [h.2.2.1 k hk]
      simp at hk
      rcases hk with h | h | h | h <;> subst h <;> simp [j0, j1, k7, h7, k20, h20]
    refine W.loop (W.seq (W.reg (WO.ops (fun ic => by simp [h154, h155]; rfl) ?_)))
    refine W.seq (W.ite true (by simp [hiN]) (W.skip ?_))
    refine W.seq (W.blk (W.seq (W.reg (WO.ops (fun ic => by simp [h155]; rfl) ?_))))
    by_cases hc1 : i < ofs.length
    · refine W.seq (W.reg (WO.ops (fun ic => by simp [h2, h7, lenU8, lenII, hc1]; rfl) ?_))
      by_cases hc2 : 1 < x.length
      · obtain ⟨b, hb⟩ : ∃ b, ofs[i]? = some b := ⟨ofs[i], List.getElem?_eq_getElem hc1⟩
        have hbb := hof b (List.mem_of_getElem? hb)
        have hat : ∀ st, iaddrV st 1 (i : Int) (encU8 ofs) = some (.vptr [.lit (.int .u8 b)] 0) := fun st => atU8 hb
        have hwb : IntKind.i64.wrap (b : Int) = b := wrap_id (by omega) (by omega)
        have hwl : IntKind.i64.wrap ((x.length : Int) - 1) = ((x.length - 1 : Nat) : Int) := by rw [wrap_id (by omega) (by omega)]; omega
        obtain ⟨m, hm⟩ : ∃ m, m = x.length - 1 := ⟨_, rfl⟩
        rw [← hm] at hwl
        have hm0 : ¬ (m = 0) := by omega
        have hq : goTo ofs x.length i = b % m := by
          unfold goTo
          rw [if_pos ⟨hc1, hc2⟩, ← hm]
          simp [hb]
        have hrem : binV .rem (I (b : Int)) (I (m : Int)) = some (I ((b % m : Nat) : Int)) := by
          show (if (m : Int) = 0 then none else some (Value.int .i64 ((b : Int).tmod m))).map V.lit = _
          rw [if_neg (by omega)]
          have : (b : Int).tmod (m : Int) = ((b % m : Nat) : Int) := by rw [Int.tmod_eq_emod_of_nonneg (by omega)]; exact (Int.natCast_emod b m).symm
          rw [this]; rfl
        have hsub : binV .sub (I (x.length : Int)) (I 1) = some (I (m : Int)) := by show some (V.lit (.int .i64 _)) = _; rw [hwl]
        obtain ⟨v, hv⟩ : ∃ v, v = ((b % m : Nat) : Int) := ⟨_, rfl⟩
        rw [← hv] at hrem
        obtain ⟨y, hy⟩ : ∃ y, (goR ofs x.length N i)[i]? = some y := ⟨(goR ofs x.length N i)[i]'(by rw [goR_len]; exact hiN), List.getElem?_eq_getElem _⟩
        have q6 : iaddrV st.s 1 (i : Int) (.own 0 152 g 0 N 1) = some (.rptr 0 152 g 1 i 0) := by
          simp only [iaddrV, getRows, hs, upd2_self, and_self, if_true, Option.bind_some, Int.toNat_natCast, Nat.zero_add, isR_len, goR_len]
          rw [if_pos ⟨by omega, hiN, by decide, trivial, hiN⟩]
        have q7 : storeV st.s 1 (I v) (.rptr 0 152 g 1 i 0) = some (upd2 s0 0 152 (some (g, .rows 1 (isR (goR ofs x.length N (i + 1)))))) := by
          rw [← goR_set hiN, hq, ← hv, ← isR_set]
          simp only [storeV, getRows, hs, upd2_self, and_self, if_true, Option.bind_some, isR_get hy, upd2_upd2]
          rfl
        refine W.ite true (by simp; omega) (W.reg (WO.ops (fun ic => by simp [-binV, -binI, -storeV, h2, h7, h20, hat, hwb, lenII, hsub, hrem, q6, q7]; rfl) ?_))
        simp only [blkQ_normal, thenQ_normal]
        exact fin _ (by simp [hfr]) (by simp [h2]) (by simp [h7]) (by simp [h20]) (by simp [h154]) (by simp [h155]) (by simp) (by simp) (by simp)
      · refine W.ite false (by simp; omega) (W.skip ?_)
        simp only [blkQ_normal, thenQ_normal]
        exact fin _ (by simp [hfr]) (by simp [h2]) (by simp [h7]) (by simp [h20]) (by simp [h154]) (by simp [h155]) (by simp) (by simp) (by rw [goR_same (by unfold goTo; rw [if_neg (by omega)])]; simp [hs])
    · refine W.seq (W.reg (WO.ops (fun ic => by simp [h2, h7, lenU8, lenII, hc1]; rfl) ?_))
      refine W.ite false (by simp) (W.skip ?_)
      simp only [blkQ_normal, thenQ_normal]
      exact fin _ (by simp [hfr]) (by simp [h2]) (by simp [h7]) (by simp [h20]) (by simp [h154]) (by simp [h155]) (by simp) (by simp) (by rw [goR_same (by unfold goTo; rw [if_neg (by omega)])]; simp [hs])
end Go.TI
end
