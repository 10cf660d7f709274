/- A part of the proof of TopPackedBest: texts TkLaw4 to TkLaw4. -/
import Derived.Test.YtpnjgmfkndbllaaGreatDoorZ37
/- The law's own run: all. -/
section
set_option linter.unusedVariables false
set_option linter.unusedSimpArgs false
set_option maxRecDepth 1000000
namespace Go.TI
open Go Go.Proofs
attribute [local simp] evalOps stepOp wantedT evalOp Opd.val St.put St.ok St.obj upd start args0 binV binI intCmp resultsV resV idxOf loadV partV storeV getCells getRows upd2 cellsOf putAt scal faddrV

def res7 (sz : List Int) (r : Int) : V := if chk sz r = 0 then (match dfs r (leastT sz r) sz 0 [] [] with | some x => .tup [encII x, I 0] | none => .tup [NL, I 24]) else .tup [NL, I 1]
/-- pack.Exact gives what the search gives. -/
def ExactOk : Prop := ∀ (sz : List Int) (r : Int), sz.length ≤ 10 → PureOk P0 7 [encInts sz, I r] (res7 sz r)
def spec7 (h : ExactOk) : Spec P0 := { K := 7, A := { l : List Int // l.length ≤ 10 } × Int, args := fun a => [encInts a.1.1, I a.2], res := fun a => res7 a.1.1 a.2, inj := fun a b h => by rw [injIs h], body := Tab.b7, ok := fun a => h _ _ a.1.2 }
theorem p8 (l : List Int) (h : l.length ≤ 1000) : PureOk P0 8 [encInts l] (.sl 1 (isR l) .shared) := by
  have : X.fre 8 [encInts l] = some (1, isR l) := by
    show cloneFre 1 8 [slN 1 (isR l)] = _
    refine cloneFre_slN ?_ fun r hr x hx => ?_
    · simp [room]; omega
    · obtain ⟨c, _, rfl⟩ := List.mem_map.1 hr
      simp only [List.mem_cons, List.not_mem_nil, or_false] at hx
      subst hx; rfl
  exact (X_ok.fre _ _ _ _ this).2.pure
def spec8 : Spec P0 := { K := 8, A := { l : List Int // l.length ≤ 1000 }, args := fun l => [encInts l.1], res := fun l => .sl 1 (isR l.1) .shared, inj := fun a b h => by simp at h; rw [show a = b from Subtype.ext (encInts_inj h)], body := Tab.b8, ok := fun l => p8 l.1 l.2 }
def spec6 : Spec P0 := { K := 6, A := List Int, args := fun l => [encInts l], res := fun l => B (decide (l.length ≤ 60)), inj := fun a b h => by simp at h; rw [encInts_inj h], body := Tab.b6, ok := p6 }
theorem view_shInts {s : Sto} {l : List Int} : view s viewDepth (.sl 1 (isR l) .shared) = some (encInts l) := by
  show view s (7 + 1) _ = _
  rw [view, mapO_isR]
  rfl
theorem view_encII {s : Sto} {n : Nat} {ll : List (List Int)} : view s (n + 3) (encII ll) = some (encII ll) := view_slN fun r hr x hx => by
  obtain ⟨c, _, rfl⟩ := List.mem_map.1 hr
  simp only [List.mem_cons, List.not_mem_nil, or_false] at hx
  subst hx
  exact view_encInts

theorem p3 (hE : ExactOk) (hI : InsOk) (sz : List Int) (r : Int) (ofs : List Nat) (hof : ∀ b ∈ ofs, b ≤ 255) : PureOk P0 3 [encInts sz, I r, encU8 ofs] (B true) := by
  obtain ⟨sp, hsp⟩ : ∃ sp, sp = [specL 5 [] (B true) Tab.b5 awake_ok, spec6, spec7 hE, spec8, spec9, spec10 hI, spec11, spec12] := ⟨_, rfl⟩
  have hnd : (sp.map (·.K)).Nodup := by simp [hsp, specL, spec6, spec7, spec8, spec9, spec10, spec11, spec12]
  refine pure_run (F := Tab.F3) rfl rfl sp ?_
  obtain ⟨C, hC⟩ : ∃ C, C = specCfg P0 X sp := ⟨_, rfl⟩
  have h5 : C.ora 5 [] = some (B true) := by rw [hC]; exact specL_at (b := Tab.b5) (h := awake_ok) hnd (by simp [hsp])
  have h6 : C.ora 6 [encInts sz] = some (B (decide (sz.length ≤ 60))) := by rw [hC]; exact oraOf_at hnd spec6 (by simp [hsp]) sz
  have h10 : ∀ A : FillArg, C.ora 10 [encInts A.sz, I A.r, I A.n, encInts (A.at'.map fun a : Nat => (a : Int))] = some (.tup [.agg (uCells (mkB A.r (A.st A.sz.length))), I (A.cnt A.sz.length)]) := fun A => by rw [hC]; exact oraOf_at hnd (spec10 hI) (by simp [hsp]) A
  have h11 : ∀ l, GoodL l → C.ora 11 [encBxs l] = some (I 0) := fun l h => by rw [hC]; exact oraOf_at hnd spec11 (by simp [hsp]) ⟨l, h⟩
  have h12 : ∀ l : List Bx, l.length ≤ 1000 → C.ora 12 [encBxs l] = some (.sl 5 (l.map encBx) .shared) := fun l h => by rw [hC]; exact oraOf_at hnd spec12 (by simp [hsp]) ⟨l, h⟩
  have i5 : C.imp 5 = false := by rw [hC]; rfl
  have i6 : C.imp 6 = false := by rw [hC]; rfl
  have i7 : C.imp 7 = false := by rw [hC]; rfl
  have i8 : C.imp 8 = false := by rw [hC]; rfl
  have i9 : C.imp 9 = false := by rw [hC]; rfl
  have i11 : C.imp 11 = false := by rw [hC]; rfl
  have i12 : C.imp 12 = false := by rw [hC]; rfl
  have h789 : sz.length ≤ 10 → C.ora 7 [encInts sz, I r] = some (res7 sz r) ∧ C.ora 8 [encInts sz] = some (.sl 1 (isR sz) .shared) ∧ C.ora 9 [encInts sz, I r] = some (res9 sz r) := fun h => by
    rw [hC]
    exact ⟨oraOf_at hnd (spec7 hE) (by simp [hsp]) (⟨sz, h⟩, r), oraOf_at hnd spec8 (by simp [hsp]) ⟨sz, by omega⟩, oraOf_at hnd spec9 (by simp [hsp]) (⟨sz, h⟩, r)⟩
  rw [← hC]
  have rsh : refs viewDepth (.sl 1 (isR sz) .shared) = false := rfl
  unfold Tab.F3
  refine W.seq (W.reg (WO.ops (fun ic => rfl) ?_))
  by_cases hlen : sz.length ≤ 10
  · obtain ⟨h7, h8, h9⟩ := h789 hlen
    have hgt : ¬ (sz.length > 10) := by omega
    have h60 : sz.length ≤ 60 := by omega
    have hgt' : ¬ (10 < (sz.length : Int)) := by omega
    refine W.seq (W.seq (W.reg (WO.ops (fun ic => by simp [i5, h5, i6, h6, lenInts, hgt', h60]; rfl) ?_)))
    refine W.ite false (by simp [hgt', h60]) (W.skip ?_)
    simp only [thenQ_normal]
    by_cases h0 : chk sz r = 0
    · obtain ⟨hr, hsz⟩ := chk_0.1 h0
      obtain ⟨a1, L1, hx, hL1, hp1⟩ := exact_ok hr hsz hlen
      obtain ⟨a2, L2, hy, hp2, hL2⟩ := order_ok hr hsz hlen
      have hln := least_len hr hsz hlen
      have hle := least_le hr hsz hlen hp2
      simp only [res7, h0, if_true, hx] at h7
      simp only [res9, h0, if_true, hy] at h9
      obtain ⟨x, hxd⟩ : ∃ x, x = boxesOf a1 L1 sz.length := ⟨_, rfl⟩
      obtain ⟨y, hyd⟩ : ∃ y, y = boxesOf a2 L2 sz.length := ⟨_, rfl⟩
      rw [← hxd] at h7
      rw [← hyd] at h9
      have hxl : x.length = L1 := by rw [hxd]; simp
      have hyl : y.length = L2 := by rw [hyd]; simp
      refine W.seq (W.reg (WO.ops (fun ic => by simp [i7, i8, h7, h8, view_shInts, rsh]; rfl) ?_))
      refine W.seq (W.reg (WO.ops (fun ic => by simp [i9, i8, h9, h8, view_shInts, rsh]; rfl) ?_))
      refine W.seq (W.seq (W.reg (WO.ops (fun ic => by simp; rfl) ?_)))
      refine W.ite false (by simp) (W.skip ?_)
      simp only [thenQ_normal]
      refine W.seq (W.seq (W.reg (WO.ops (fun ic => by simp [fillR, lenV]; rfl) ?_)))
      have hP : ∀ p ∈ [x, y], ∃ at' L, Pk sz r p at' L := fun p hp => by
        simp only [List.mem_cons, List.not_mem_nil, or_false] at hp
        rcases hp with rfl | rfl
        · exact ⟨a1, L1, hxd, hp1, by omega⟩
        · exact ⟨a2, L2, hyd, hp2, by omega⟩
      refine W.blk ((L3_3_ok hr hsz hlen (P := [x, y]) hP (by simp) i12 i11 h10 h12 h11 [x, y] [] _ rfl (by simp) (by simp) (by simp) (by simp; exact ⟨rfl, rfl⟩) (by simp) (by simp)).mono fun e s h => ?_)
      obtain ⟨rfl, hfr, hk⟩ := h
      have k0 := hk 0 (by simp); have k1 := hk 1 (by simp); have k2 := hk 2 (by simp); have k7 := hk 7 (by simp); have k9 := hk 9 (by simp)
      simp at k0 k1 k2 k7 k9
      simp only [blkQ_exit, if_true, thenQ_normal]
      by_cases hN : sz.length = 0
      · have hL10 : L1 = 0 := by
          have := least_le hr hsz hlen (at' := fun _ => 0) (L := 0) ⟨fun j hj => by omega, fun k => by rw [hN]; show (0 : Int) ≤ r; omega⟩
          omega
        refine W.seq (W.seq (W.reg (WO.ops (fun ic => by simp [k7, k9, lenII, hxl, hyl, hL10]; rfl) ?_)))
        refine W.ite true (by simp) (W.seq (W.reg (WO.ops (fun ic => by simp [k0, lenInts, hN]; rfl) (W.ret ?_))))
        simp only [thenQ_ret]
        exact ⟨.inr rfl, by simp⟩
      · have hL1p : 0 < L1 := by have := hp1.lt 0 (by omega); omega
        have c1 : ((L1 : Int) == 0) = false := by simp; omega
        have c2 : ¬ (L2 < L1) := by omega
        have c3 : ¬ ((L1 : Int) > (L2 : Int)) := by omega
        refine W.seq (W.seq (W.reg (WO.ops (fun ic => by simp [k7, k9, lenII, hxl, hyl, c1]; rfl) ?_)))
        refine W.ite false (by simp [c1]; omega) (W.skip ?_)
        simp only [thenQ_normal]
        have hroom : (sz.length : Int) * 8 ≤ (room : Int) := by simp [room]; omega
        refine W.seq (W.reg (WO.ops (fun ic => by simp [k0, lenInts, hroom, hfr]; rfl) ?_))
        refine W.seq (W.seq (W.reg (WO.ops (fun ic => by simp [lenV]; rfl) ?_)))
        have hz0 : goR ofs x.length sz.length 0 = List.replicate sz.length 0 := by
          apply List.ext_getElem?
          intro j
          by_cases hj : j < sz.length
          · simp [goR, hj]
          · simp [goR, hj]
        refine W.blk ((L3_0_ok (x := x) (ofs := ofs) (N := sz.length) (g := s.n) (s0 := s.s) hlen hof (by omega) sz.length 0 _ (by omega) (by simp [hfr]) (by simp [k2]) (by simp [k7]) (by simp) (by simp) (by simp) (by simp [hz0, isR_zero])).mono fun e s2 h => ?_)
        obtain ⟨rfl, hfr2, hk2, hs2⟩ := h
        have m0 := hk2 0 (by simp); have m1 := hk2 1 (by simp); have m7 := hk2 7 (by simp); have m20 := hk2 20 (by simp)
        simp [k0, k1, k7] at m0 m1 m7 m20
        simp only [blkQ_exit, if_true, thenQ_normal]
        obtain ⟨R, hR⟩ : ∃ R, R = goR ofs x.length sz.length sz.length := ⟨_, rfl⟩
        rw [← hR] at hs2
        have hs152 : s2.s 0 152 = some (s.n, .rows 1 (isR R)) := by rw [hs2, upd2_self]
        have hRl : R.length = sz.length := by rw [hR, goR_len]
        have hlt : ∀ j, j < sz.length → goTo ofs x.length j ≤ 1000 := fun j hj => by
          unfold goTo
          split
          · rename_i h
            have := hof (ofs.getD j 0) (by rw [List.getD_eq_getElem?_getD, List.getElem?_eq_getElem h.1]; exact List.getElem_mem _)
            have := Nat.mod_le (ofs.getD j 0) (x.length - 1)
            omega
          · omega
        obtain ⟨A, hA⟩ : ∃ A, A = fillOf sz r (goTo ofs x.length) (L1 - 1) hr hsz hlen (by omega) hlt := ⟨_, rfl⟩
        have hAa : A.at'.map (fun a : Nat => (a : Int)) = R := by
          rw [hA]
          refine Eq.trans ?_ hR.symm
          simp only [fillOf, goR, List.map_map]
          apply List.map_congr_left
          intro j hj
          have : j < sz.length := by simpa using hj
          simp [this]
        have hAsz : A.sz = sz := by rw [hA]; rfl
        have hAr : A.r = r := by rw [hA]; rfl
        have hAn : A.n = L1 - 1 := by rw [hA]; rfl
        have hcnt : A.cnt sz.length < sz.length := by
          have h1 := A.cnt_le sz.length
          apply Classical.byContradiction
          intro hn
          have h2 : A.cnt A.sz.length = A.sz.length := by rw [hAsz]; omega
          have h3 := A.pack h2
          rw [hAsz, hAr, hAn, hA] at h3
          have h4 := least_le hr hsz hlen (pack_of h3)
          omega
        have h10A := h10 A
        rw [hAa, hAsz, hAr, hAn] at h10A
        obtain ⟨l, hl2⟩ : ∃ l, l = mkB r (A.st sz.length) := ⟨_, rfl⟩
        rw [← hl2] at h10A
        obtain ⟨m, hm⟩ : ∃ m, m = L1 - 1 := ⟨_, rfl⟩
        rw [← hm] at h10A
        have hwl : IntKind.i64.wrap ((L1 : Int) - 1) = (m : Int) := by rw [wrap_id (by omega) (by omega)]; omega
        have hok : ownKeys [encInts sz, I r, I (m : Int), .own 0 152 s.n 0 sz.length 1] = some [(0, 152)] := by simp [ownKeys]; rfl
        have hvo : view (onlyS [(0, 152)] s2.s) viewDepth (.own 0 152 s.n 0 sz.length 1) = some (encInts R) := by
          rw [← hRl]
          exact view_ownInts (by simp [onlyS, hs152]; rfl)
        have hput : ∀ (zs : List V) (l : List Bx), zs.length = 16 → putAt zs 0 (uCells l) = uCells l := fun zs l hz => put16 hz rfl
        refine W.seq (W.reg (WO.ops (fun ic => by simp [m0, m1, m7, m20, lenII, hxl, hwl, hok, hvo, h10A, hfr2, hput]; rfl) ?_))
        refine W.seq (W.reg (WO.ops (fun ic => by simp [m0, lenInts]; rfl) (W.ret ⟨.inr rfl, ?_⟩)))
        simp
        omega
    · simp only [res7, h0, if_false] at h7
      simp only [res9, h0, if_false] at h9
      refine W.seq (W.reg (WO.ops (fun ic => by simp [i7, i8, h7, h8, view_shInts, rsh]; rfl) ?_))
      refine W.seq (W.reg (WO.ops (fun ic => by simp [i9, i8, h9, h8, view_shInts, rsh]; rfl) ?_))
      refine W.seq (W.seq (W.reg (WO.ops (fun ic => by simp; rfl) ?_)))
      refine W.ite true (by simp) (W.seq (W.reg (WO.ops (fun ic => by simp [lenV]; rfl) (W.ret ⟨.inr rfl, ?_⟩))))
      simp
  · have hgt : 10 < (sz.length : Int) := by omega
    refine W.seq (W.seq (W.reg (WO.ops (fun ic => by simp [i5, h5, lenInts, hgt]; rfl) ?_)))
    refine W.ite true (by simp [hgt]) (W.seq (W.reg (WO.ops (fun ic => by simp [i5, h5]; rfl) (W.ret ⟨.inr rfl, ?_⟩))))
    simp
end Go.TI
end
