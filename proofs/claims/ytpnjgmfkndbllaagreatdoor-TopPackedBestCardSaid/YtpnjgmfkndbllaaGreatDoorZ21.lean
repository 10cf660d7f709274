/- A part of the proof of TopPackedBest: texts TkO to TkO. -/
import Derived.Test.YtpnjgmfkndbllaaGreatDoorZ20
/- The service's step at the events 48 and 49. -/
section
set_option linter.unusedVariables false
set_option linter.unusedSimpArgs false
set_option maxRecDepth 1000000
namespace Go.TI
open Go Go.Proofs

theorem e101_48 (a b c d : Int) : (lev X 41).1 101 [.agg (evCells 48 (nums a b c d))] = some (.tup [.agg [I 4, I 0, B false, I (-1), .clo 183 []], B true]) := by kernel_rfl
theorem e101_49 (a b c d : Int) : (lev X 41).1 101 [.agg (evCells 49 (nums a b c d))] = some (.tup [.agg [I 4, I 0, B false, I (-1), .clo 184 []], B true]) := by kernel_rfl

theorem goodL_len {l : List Bx} (hg : GoodL l) : l.length ≤ 1000 ∧ ∀ b ∈ l, b.cs.length ≤ 1000 := ⟨by have := hg.len; omega, fun b hb => by have := (hg.each b hb).len; omega⟩

theorem step49 (hI : InsOk) {l : List Bx} (hg : GoodL l) {id : Int} (h1 : 1 ≤ id) (h2 : id ≤ 1073741824) {c : Ct} (hc : GoodCt c) (hu : c.unit ∉ unitsOf l) (h32 : ∀ b ∈ l, b.cs.length < 32) {bx : V} {er : Int} {l' : List Bx} (hr : res259 l id c = .tup [bx, I er]) (hl' : er = 0 → bx = encBxs l') :
    PureOk P0 34 [.agg (uCells l), NL, .agg (evCells 49 (nums id 0 c.unit c.thick))] (stepRes er l') := by
  refine p34 hg (fun s => rfl) rfl ?_
  obtain ⟨sp, hsp⟩ : ∃ sp, sp = [specL 101 _ _ Tab.b101 (pure_lit (e101_49 id 0 c.unit c.thick)), spec258, spec259 hI] := ⟨_, rfl⟩
  have hnd : (sp.map (·.K)).Nodup := by simp [hsp, specL, spec258, spec259]
  have hlc := goodL_len hg
  refine step55 hlc.1 hlc.2 (sp := sp) (K := 184) (F := Tab.F184) rfl rfl rfl (fun s => rfl) rfl rfl (specL_at (b := Tab.b101) (h := pure_lit (e101_49 id 0 c.unit c.thick)) hnd (by simp [hsp])) ?_
  intro C hcode himp hora st g bv hn hfree hd hO
  have h258 : C.ora 258 [.vptr (uCells l ++ NL :: evCells 49 (nums id 0 c.unit c.thick)) 0, I id] = some (B false) := by
    rw [hora]; exact oraOf_at hnd spec258 (by simp [hsp]) ⟨(l, id, NL :: evCells 49 (nums id 0 c.unit c.thick)), h1, h2⟩
  have h259 : C.ora 259 [encBxs l, I id, I 0, .agg [I c.unit, I c.thick]] = some (.tup [bx, I er]) := by
    rw [hora, ← hr]; exact oraOf_at hnd (spec259 hI) (by simp [hsp]) ⟨(l, id, c), hg, hc, hu, h32⟩
  obtain ⟨bx', er', hr', q1, q2, _⟩ := res259_tup l id c
  rw [hr] at hr'
  simp only [V.tup.injEq, List.cons.injEq, V.lit.injEq, Value.int.injEq, true_and, and_true] at hr'
  obtain ⟨rfl, rfl⟩ := hr'
  refine (put184 (by rw [himp]; rfl) (by rw [himp]; rfl) (by rw [hcode]; rfl) h258 h259 q1 q2 hd hO).mono fun e s h => ⟨h.1, ?_⟩
  obtain ⟨_, v, hv, rfl, hs, h38⟩ := h
  refine ⟨_, hv, rfl, hs, fun h0 => ⟨bx, q1, h38 h0, fun s2 _ => ?_⟩⟩
  rw [hl' h0]
  exact view_encBxs

theorem step48 {l : List Bx} (hg : GoodL l) {k r : Int} (hg' : GoodL (l ++ [newBx k r])) :
    PureOk P0 34 [.agg (uCells l), NL, .agg (evCells 48 (nums k r r 0))] (stepRes 0 (l ++ [newBx k r])) := by
  refine p34 hg (fun s => rfl) rfl ?_
  obtain ⟨sp, hsp⟩ : ∃ sp, sp = [specL 101 _ _ Tab.b101 (pure_lit (e101_48 k r r 0)), spec11] := ⟨_, rfl⟩
  have hnd : (sp.map (·.K)).Nodup := by simp [hsp, specL, spec11]
  have hlc := goodL_len hg
  refine step55 hlc.1 hlc.2 (sp := sp) (K := 183) (F := Tab.F183) rfl rfl rfl (fun s => rfl) rfl rfl (specL_at (b := Tab.b101) (h := pure_lit (e101_48 k r r 0)) hnd (by simp [hsp])) ?_
  intro C hcode himp hora st g bv hn hfree hd hO
  have h11 : C.ora 11 [encBxs (l ++ [newBx k r])] = some (I 0) := by rw [hora]; exact oraOf_at hnd spec11 (by simp [hsp]) ⟨_, hg'⟩
  refine (add183 (by rw [himp]; rfl) (by rw [himp]; rfl) (by rw [hcode]; rfl) hlc.1 h11 hn hfree hd hO).mono fun e s h => ⟨h.1, ?_⟩
  obtain ⟨_, v, hv, rfl, hs, bx, h38, hO'⟩ := h
  exact ⟨_, hv, rfl, hs, fun _ => ⟨bx, hO'.scal, h38, fun s2 hs2 => (hO'.of_eq hs2).view (n := 3)⟩⟩
end Go.TI
end
