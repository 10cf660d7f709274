/- A part of the proof of TopPackedBest: texts TkLaw2 to TkLaw2. -/
import Derived.Test.YtpnjgmfkndbllaaGreatDoorZ35
/- The law's own run: both packings are filled. -/
section
set_option linter.unusedVariables false
set_option linter.unusedSimpArgs false
set_option maxRecDepth 1000000
namespace Go.TI
open Go Go.Proofs
attribute [local simp] evalOps stepOp wantedT evalOp Opd.val St.put St.ok St.obj upd start args0 binV binI intCmp resultsV resV idxOf loadV partV storeV getCells getRows upd2 cellsOf putAt scal faddrV

theorem spec10_inj (A B : FillArg) (h : [encInts A.sz, I A.r, I A.n, encInts (A.at'.map fun a : Nat => (a : Int))] = [encInts B.sz, I B.r, I B.n, encInts (B.at'.map fun a : Nat => (a : Int))]) : A = B := by
  cases A; cases B
  simp only [List.cons.injEq, V.lit.injEq, Value.int.injEq, true_and, and_true] at h
  obtain ⟨h1, h2, h3, h4⟩ := h
  have h1 := encInts_inj h1
  have h4 := encInts_inj h4
  have h4 : _ = _ := map_inj (f := fun a : Nat => (a : Int)) (fun a b h => by omega) h4
  have h3 : _ = _ := Int.ofNat.inj h3
  subst h1 h2 h3 h4
  rfl
def spec10 (hI : InsOk) : Spec P0 := { K := 10, A := FillArg, args := fun A => [encInts A.sz, I A.r, I A.n, encInts (A.at'.map fun a : Nat => (a : Int))], res := fun A => .tup [.agg (uCells (mkB A.r (A.st A.sz.length))), I (A.cnt A.sz.length)], inj := fun a b h => by rw [spec10_inj a b h], body := Tab.b10, ok := p10 hI }

theorem p12 (l : List Bx) (h : l.length ≤ 1000) : PureOk P0 12 [encBxs l] (.sl 5 (l.map encBx) .shared) := by
  have : X.fre 12 [encBxs l] = some (5, l.map encBx) := fre12 h (l := [])
  exact (X_ok.fre _ _ _ _ this).2.pure
def spec12 : Spec P0 := { K := 12, A := { l : List Bx // l.length ≤ 1000 }, args := fun l => [encBxs l.1], res := fun l => .sl 5 (l.1.map encBx) .shared, inj := fun a b h => by simp at h; rw [show a = b from Subtype.ext (encBxs_inj h)], body := Tab.b12, ok := fun l => p12 l.1 l.2 }
theorem view_shBxs {s : Sto} {l : List Bx} : view s viewDepth (.sl 5 (l.map encBx) .shared) = some (encBxs l) := by
  have hv : mapO (mapO (view (fun _ _ => none) 7)) (l.map encBx) = some (l.map encBx) := mapO_id fun r hr => by
    obtain ⟨b, _, rfl⟩ := List.mem_map.1 hr
    exact mapO_id view_encBx
  show view s (7 + 1) _ = _
  rw [view, hv]
  rfl

/-- What is to be filled with a packing. -/
def fillOf (sz : List Int) (r : Int) (at' : Nat → Nat) (L : Nat) (hr : 1 ≤ r ∧ r ≤ 10000) (hsz : ∀ s ∈ sz, 1 ≤ s ∧ s ≤ r) (hlen : sz.length ≤ 10) (hL : L ≤ 10) (hlt : ∀ j, j < sz.length → at' j ≤ 1000) : FillArg where
  sz := sz
  r := r
  n := L
  at' := (List.range sz.length).map at'
  r1 := hr.1
  r2 := hr.2
  n10 := hL
  l10 := hlen
  szs s hs := ⟨(hsz s hs).1, by have := (hsz s hs).2; omega⟩
  atl := by simp
  ats a ha := by
    obtain ⟨j, hj, rfl⟩ := List.mem_map.1 ha
    exact hlt j (by simpa using hj)
section
variable {sz : List Int} {r : Int} {at' : Nat → Nat} {L : Nat} {hr : 1 ≤ r ∧ r ≤ 10000} {hsz : ∀ s ∈ sz, 1 ≤ s ∧ s ≤ r} {hlen : sz.length ≤ 10} {hL : L ≤ 10} {hlt : ∀ j, j < sz.length → at' j ≤ 1000}
theorem fillOf_a {j : Nat} (h : j < sz.length) : (fillOf sz r at' L hr hsz hlen hL hlt).a j = at' j := by
  show ((List.range sz.length).map at').getD j 0 = _
  simp [h]
theorem fillOf_pack (h : Pack sz r at' L) : Pack sz r (fillOf sz r at' L hr hsz hlen hL hlt).a L :=
  ⟨fun j hj => by rw [fillOf_a hj]; exact h.lt j hj, fun k => by rw [ld_congr (b := at') sz.length fun j hj => fillOf_a hj]; exact h.fit k⟩
theorem pack_of (h : Pack sz r (fillOf sz r at' L hr hsz hlen hL hlt).a L) : Pack sz r at' L :=
  ⟨fun j hj => by have := h.lt j hj; rwa [fillOf_a hj] at this, fun k => by have := h.fit k; rwa [ld_congr (b := at') sz.length fun j hj => fillOf_a hj] at this⟩
end

/-- A packing in the law's hands. -/
structure Pk (sz : List Int) (r : Int) (p : List (List Int)) (at' : Nat → Nat) (L : Nat) : Prop where
  eq : p = boxesOf at' L sz.length
  pack : Pack sz r at' L
  L10 : L ≤ 10

theorem isR_zero {N : Nat} : List.replicate N [Tab.z 0] = isR (List.replicate N 0) := by simp [isR]

theorem L3_3_ok {C : Cfg} {sz : List Int} {r : Int} (hr : 1 ≤ r ∧ r ≤ 10000) (hsz : ∀ s ∈ sz, 1 ≤ s ∧ s ≤ r) (hlen : sz.length ≤ 10) {P : List (List (List Int))} (hP : ∀ p ∈ P, ∃ at' L, Pk sz r p at' L) (hPl : P.length ≤ 10)
    (i12 : C.imp 12 = false) (i11 : C.imp 11 = false) (h10 : ∀ A : FillArg, C.ora 10 [encInts A.sz, I A.r, I A.n, encInts (A.at'.map fun a : Nat => (a : Int))] = some (.tup [.agg (uCells (mkB A.r (A.st A.sz.length))), I (A.cnt A.sz.length)]))
    (h12 : ∀ l : List Bx, l.length ≤ 1000 → C.ora 12 [encBxs l] = some (.sl 5 (l.map encBx) .shared)) (h11 : ∀ l, GoodL l → C.ora 11 [encBxs l] = some (I 0)) :
    ∀ (rest pre : List (List (List Int))) (st : St), P = pre ++ rest → st.fr = 0 → st.t 0 = encInts sz → st.t 1 = I r → st.t 72 = .sl 1 (P.map fun p => [encII p]) .tight → st.t 73 = I P.length → st.t 74 = I pre.length →
    W C Tab.L3_3 st fun e st' => e = .exit 0 ∧ st'.fr = 0 ∧ (∀ i ∈ [0, 1, 2, 7, 8, 9, 10], st'.t i = st.t i) := by
  intro rest
  induction rest with
  | nil =>
    intro pre st hd hfr h0 h1 h72 h73 h74
    have hp : pre = P := by simpa using hd.symm
    subst hp
    refine W.loop (W.seq (W.reg (WO.ops (fun ic => by simp [h73, h74]; rfl) ?_)))
    refine W.seq (W.ite false (by simp) ?_)
    exact W.exit ⟨rfl, by simp [hfr], fun i hi => by simp at hi; rcases hi with h | h | h | h | h | h | h <;> subst h <;> simp⟩
  | cons p rest ih =>
    intro pre st hd hfr h0 h1 h72 h73 h74
    have hl : pre.length < P.length := by rw [hd]; simp
    obtain ⟨at', L, hpe, hpk, hL10⟩ := hP p (by rw [hd]; simp)
    obtain ⟨v72, hv72⟩ : ∃ v, v = V.sl 1 (P.map fun p => [encII p]) .tight := ⟨_, rfl⟩
    rw [← hv72] at h72
    have hat : ∀ st, iaddrV st 1 (pre.length : Int) v72 = some (.vptr [encII p] 0) := fun st => by
      rw [hv72]
      have : (P.map fun p => [encII p])[pre.length]? = some [encII p] := by rw [hd]; simp
      simp only [iaddrV, Int.toNat_natCast, this, Option.map_some]
      rw [if_pos ⟨by omega, by decide, trivial⟩]
    have hw : IntKind.i64.wrap ((pre.length : Int) + 1) = ((pre ++ [p]).length : Int) := by rw [wrap_id (by omega) (by omega)]; simp
    have hpl : p.length = L := by rw [hpe]; simp
    have hbb : ∀ b ∈ p, b.length ≤ 10 ∧ ∀ x ∈ b, 0 ≤ x ∧ x < sz.length := fun b hb => by
      rw [hpe] at hb
      obtain ⟨k, _, rfl⟩ := List.mem_map.1 hb
      refine ⟨?_, fun x hx => ?_⟩
      · rw [List.length_map]
        have := List.length_filter_le (fun j => at' j == k) (List.range sz.length)
        simp at this
        omega
      · obtain ⟨j, hj, rfl⟩ := List.mem_map.1 hx
        have := List.mem_range.1 (List.mem_filter.1 hj).1
        omega
    have hroom : (sz.length : Int) * 8 ≤ (room : Int) := by simp [room]; omega
    refine W.loop (W.seq (W.reg (WO.ops (fun ic => by simp [h73, h74]; rfl) ?_)))
    refine W.seq (W.ite true (by simp [hl]) (W.skip ?_))
    refine W.seq (W.blk (W.seq (W.reg (WO.ops (fun ic => by simp [h72, h74, hat]; rfl) ?_))))
    refine W.seq (W.reg (WO.ops (fun ic => by simp [h0, lenInts, hroom, hfr]; rfl) ?_))
    refine W.seq (W.seq (W.reg (WO.ops (fun ic => by simp [lenII, hpl]; rfl) ?_)))
    refine W.blk ((L3_2_ok (p := p) (N := sz.length) (g := st.n) (s0 := st.s) hlen (by omega) hbb p [] (List.replicate sz.length 0) _ rfl (by simp) (by simp [hfr]) (by simp) (by simp) (by simp [hpl]) (by simp) (by simp [isR_zero])).mono fun e s h => ?_)
    obtain ⟨rfl, hk, hfr2, hs2⟩ := h
    simp only [blkQ_exit, if_true, blkQ_normal, thenQ_normal]
    have k0 := hk 0 (by simp); have k1 := hk 1 (by simp); have k12 := hk 12 (by simp); have k13 := hk 13 (by simp); have k72 := hk 72 (by simp); have k73 := hk 73 (by simp); have k74 := hk 74 (by simp)
    simp [h0, h1, h72, h73, h74] at k0 k1 k12 k13 k72 k73 k74
    rw [List.length_nil, hpe, assignAll_boxes hpk.lt] at hs2
    obtain ⟨R, hR⟩ : ∃ R, R = (List.range sz.length).map fun j => ((at' j : Nat) : Int) := ⟨_, rfl⟩
    rw [← hR] at hs2
    have hs80 : s.s 0 80 = some (st.n, .rows 1 (isR R)) := by rw [hs2, upd2_self]
    have hRl : R.length = sz.length := by rw [hR]; simp
    have hlt : ∀ j, j < sz.length → at' j ≤ 1000 := fun j hj => by have := hpk.lt j hj; omega
    obtain ⟨A, hA⟩ : ∃ A, A = fillOf sz r at' L hr hsz hlen hL10 hlt := ⟨_, rfl⟩
    have hAa : A.at'.map (fun a : Nat => (a : Int)) = R := by rw [hA, hR]; simp [fillOf]
    have hAsz : A.sz = sz := by rw [hA]; rfl
    have hAr : A.r = r := by rw [hA]; rfl
    have hAn : A.n = L := by rw [hA]; rfl
    have hcnt : A.cnt A.sz.length = A.sz.length := A.all (by rw [hA]; exact fillOf_pack hpk) _ (Nat.le_refl _)
    have h10A := h10 A
    rw [hcnt, hAa, hAsz, hAr, hAn] at h10A
    have hinv := A.inv A.sz.length (Nat.le_refl _)
    rw [hAr, hAsz] at hinv
    obtain ⟨l, hl2⟩ : ∃ l, l = mkB r (A.st sz.length) := ⟨_, rfl⟩
    rw [← hl2] at h10A
    have hgood : GoodL l := by rw [hl2]; exact hinv.good
    have hll : l.length = L := by rw [hl2, mkB_length, A.st_len, hAn]
    have h12l := h12 l (by omega)
    have h11l := h11 l hgood
    have hok : ownKeys [encInts sz, I r, I (L : Int), .own 0 80 st.n 0 sz.length 1] = some [(0, 80)] := by simp [ownKeys]; rfl
    have hvo : view (onlyS [(0, 80)] s.s) viewDepth (.own 0 80 st.n 0 sz.length 1) = some (encInts R) := by
      rw [← hRl]
      exact view_ownInts (by simp [onlyS, hs80]; rfl)
    have hput : ∀ (zs : List V) (l : List Bx), zs.length = 16 → putAt zs 0 (uCells l) = uCells l := fun zs l hz => put16 hz rfl
    have r5 : refs viewDepth (.sl 5 (l.map encBx) .shared) = false := rfl
    refine W.seq (W.reg (WO.ops (fun ic => by simp [k0, k1, k12, k13, lenII, hpl, hok, hvo, h10A, hfr2, hput]; rfl) ?_))
    have hlB : ∀ s, lenV s 1 (encBxs l) = some (L : Int) := fun s => by simp [encBxs, len_slN, hll]
    refine W.seq (W.reg (WO.ops (fun ic => by simp [k0, k12, hfr2, lenInts, i12, i11, h12l, h11l, view_shBxs, r5, hlB, lenII, hpl, hput]; rfl) ?_))
    refine W.ite false (by simp) (W.skip ?_)
    simp only [blkQ_normal, thenQ_normal]
    refine W.reg (WO.ops (fun ic => by simp [k74, hw]; rfl) ?_)
    simp only [thenQ_normal]
    refine (ih (pre ++ [p]) _ (by simp [hd]) (by simp [hfr2]) (by simp [k0]) (by simp [k1]) (by simp [k72, hv72]) (by simp [k73]) (by simp)).mono fun e s2 h => ⟨h.1, h.2.1, fun i hi => ?_⟩
    rw [h.2.2 i hi]
    have hk' := hk i (by simp at hi ⊢; omega)
    simp at hi
    rcases hi with h | h | h | h | h | h | h <;> subst h <;> simp at hk' ⊢ <;> exact hk'
end Go.TI
end
