/- A part of the proof of TopPackedBest: texts TkEx to TkEx. -/
import Derived.Test.YtpnjgmfkndbllaaGreatDoorZ38
/- pack.Exact: the search's store. -/
section
set_option linter.unusedVariables false
set_option linter.unusedSimpArgs false
set_option maxRecDepth 1000000
namespace Go.TI
open Go Go.Proofs
attribute [local simp] evalOps stepOp wantedT evalOp Opd.val St.put St.ok St.obj upd start args0 binV binI intCmp resultsV resV idxOf loadV partV storeV getCells getRows upd2 cellsOf putAt scal faddrV

def caps32 : List V := [.ptr 0 2 1 0, .ptr 0 8 4 0, .ptr 0 9 5 0, .ptr 0 3 2 0, .ptr 0 10 6 0, .ptr 0 6 3 0]
def RowOk (s : Sto) (n : Nat) (v : V) (f : Nat) (l : List Int) : Prop := ∃ g R, v = .own f 89 g 0 l.length 1 ∧ 0 < f ∧ f < n ∧ s f 89 = some (g, .rows 1 R) ∧ l.length ≤ R.length ∧ R.take l.length = isR l
def OutOk (s : Sto) (n : Nat) (ov : V) (ll : List (List Int)) : Prop := (ll = [] ∧ ov = .sl 0 [] .tight) ∨ ∃ (f g : Nat) (L : List (List V)) (F : Nat → Nat), ov = .own f 91 g 0 ll.length 1 ∧ 0 < f ∧ f < n ∧ s f 91 = some (g, .rows 1 L) ∧ ll.length ≤ L.length ∧ (∀ k l, ll[k]? = some l → ∃ v, L[k]? = some [v] ∧ RowOk s n v (F k) l) ∧ (∀ j k, j < ll.length → k < ll.length → F j = F k → j = k)
def SumOk (s : Sto) (n : Nat) (sv : V) (sums : List Int) : Prop := (sums = [] ∧ sv = .sl 0 [] .tight) ∨ ∃ f g S, sv = .own f 98 g 0 sums.length 1 ∧ 0 < f ∧ f < n ∧ s f 98 = some (g, .rows 1 S) ∧ sums.length ≤ S.length ∧ S.take sums.length = isR sums
structure Cells32 (sz : List Int) (r least : Int) (s : Sto) : Prop where
  c2 : s 0 2 = some (1, .cells [encInts sz])
  c3 : s 0 3 = some (2, .cells [I r])
  c6 : s 0 6 = some (3, .cells [I least])
  c10 : s 0 10 = some (6, .cells [.clo 32 caps32])
structure DS (sz : List Int) (r least : Int) (s : Sto) (n : Nat) (ll : List (List Int)) (sums : List Int) : Prop where
  cells : Cells32 sz r least s
  dat : ∃ ov sv, s 0 8 = some (4, .cells [ov]) ∧ s 0 9 = some (5, .cells [sv]) ∧ OutOk s n ov ll ∧ SumOk s n sv sums

theorem isR_getI {l : List Int} {k : Nat} {x : Int} {S : List (List V)} (hS : S.take l.length = isR l) (h : l[k]? = some x) : S[k]? = some [I x] := by
  have hk := (List.getElem?_eq_some_iff.1 h).1
  have h1 := isR_get h
  rw [← hS, List.getElem?_take] at h1
  simpa [hk] using h1

/-- What the four temporaries and cells are. -/
structure Frame32 (st : St) (i : Nat) : Prop where
  t0 : st.t 0 = I i
  t1 : st.t 1 = .ptr 0 2 1 0
  t2 : st.t 2 = .ptr 0 8 4 0
  t3 : st.t 3 = .ptr 0 9 5 0
  t4 : st.t 4 = .ptr 0 3 2 0
  t5 : st.t 5 = .ptr 0 10 6 0
  t6 : st.t 6 = .ptr 0 6 3 0

def opsA : List TO := [Tab.o 30 (.load false 1 (Tab.t 2)), Tab.o 31 (.mv (Tab.t 9)), Tab.o 32 (.load false 1 (Tab.t 3)), Tab.o 33 (.mv (Tab.t 9)), Tab.o 34 (.load false 1 (Tab.t 2)), Tab.o 35 (.mv (Tab.t 9)), Tab.o 36 (.iaddr 1 (Tab.t 34) (Tab.t 35)), Tab.o 37 (.load false 1 (Tab.t 36)), Tab.o 38 (.mv (Tab.t 0)), Tab.o 39 (.bslice 1 [Tab.z 0] 1 [(0, .t 38)] false), Tab.o 40 (.app 1 8 (Tab.t 37) (Tab.t 39) true), Tab.o 41 (.load false 1 (Tab.t 3)), Tab.o 42 (.mv (Tab.t 9)), Tab.o 43 (.iaddr 1 (Tab.t 41) (Tab.t 42)), Tab.o 44 (.load false 1 (Tab.t 43)), Tab.o 45 (.load false 1 (Tab.t 1)), Tab.o 46 (.mv (Tab.t 0)), Tab.o 47 (.iaddr 1 (Tab.t 45) (Tab.t 46)), Tab.o 48 (.load false 1 (Tab.t 47)), Tab.o 49 (.bin .add (Tab.t 44) (Tab.t 48)), Tab.o 50 (.iaddr 1 (Tab.t 30) (Tab.t 31)), Tab.e (.store 1 (Tab.t 50) (Tab.t 40)), Tab.o 51 (.iaddr 1 (Tab.t 32) (Tab.t 33)), Tab.e (.store 1 (Tab.t 51) (Tab.t 49))]
def masksA : List Nat := [0, 0, 0, 0, 0, 0, 48, 112, 0, 256, 1008, 0, 0, 6144, 14336, 0, 0, 98304, 229376, 522240, 524275, 1572851, 4194303, 8388607]

theorem iaddr_own {s : Sto} {k fr sl g off len k' : Nat} {j : Int} : iaddrV s k j (.own fr sl g off len k') = (getRows s fr sl g k).bind fun l => if 0 ≤ j ∧ j.toNat < len ∧ 0 < k ∧ k' = k ∧ off + j.toNat < l.length then some (.rptr fr sl g k (off + j.toNat) 0) else none := rfl
theorem keys_own {fr sl g off len k : Nat} : keys1 (.own fr sl g off len k) = [(fr, sl)] := rfl
theorem keys_ptr {fr sl g off : Nat} : keys1 (.ptr fr sl g off) = [(fr, sl)] := rfl
theorem keys_rptr {fr sl g k i off : Nat} : keys1 (.rptr fr sl g k i off) = [(fr, sl)] := rfl
theorem keys_vptr {cs : List V} {off : Nat} : keys1 (.vptr cs off) = [] := rfl
theorem keys_ints {l : List Int} : keys1 (encInts l) = [] := rfl
theorem keys_sl {k : Nat} {rows : List (List V)} {m : Mark} : keys1 (.sl k rows m) = [] := rfl
/-- A piece goes to an open box. -/
theorem stepA {C : Cfg} {sz : List Int} {r least : Int} {st : St} {i k : Nat} {ll : List (List Int)} {sums : List Int} {l : List Int} {x s : Int} {ov sv : V} (hi : i < sz.length) (hsi : sz[i]? = some s) (hF : Frame32 st i) (h9 : st.t 9 = I k) (hc : Cells32 sz r least st.s)
    {f g L fr gr R fs gs S} (h8 : st.s 0 8 = some (4, .cells [.own f 91 g 0 ll.length 1])) (hs9 : st.s 0 9 = some (5, .cells [.own fs 98 gs 0 sums.length 1])) (hf : 0 < f) (hfr : 0 < fr) (hfs : 0 < fs) (hL : st.s f 91 = some (g, .rows 1 L)) (hLl : ll.length ≤ L.length) (hk : k < ll.length) (hLk : L[k]? = some [.own fr 89 gr 0 l.length 1]) (hR : st.s fr 89 = some (gr, .rows 1 R)) (hlR : l.length ≤ R.length) (hll : l.length ≤ 10)
    (hS : st.s fs 98 = some (gs, .rows 1 S)) (hSl : sums.length ≤ S.length) (hks : k < sums.length) (hSk : S[k]? = some [I x]) (hw : IntKind.i64.wrap (x + s) = x + s) {Q : Ex → St → Prop}
    (hQ : ∀ st' : St, Frame32 st' i → st'.t 9 = I k → st'.t 16 = st.t 16 → st'.t 15 = st.t 15 → st'.fr = st.fr → st'.n = st.n + 1 → st'.s = upd2 (upd2 (upd2 (upd2 st.s fr 89 none) fr 89 (some (st.n, .rows 1 (R.take l.length ++ [[I i]])))) f 91 (some (g, .rows 1 (L.set k [.own fr 89 st.n 0 (l.length + 1) 1])))) fs 98 (some (gs, .rows 1 (S.set k [I (x + s)]))) → Q .normal st') :
    W C (.dregK opsA masksA) st Q := by
  have hat : ∀ st, iaddrV st 1 (i : Int) (encInts sz) = some (.vptr [I s] 0) := fun st => atInts hsi
  have hkL : k < L.length := by omega
  have hkS : k < S.length := by omega
  have hLk' : L[k] = [.own fr 89 gr 0 l.length 1] := by rw [List.getElem?_eq_getElem hkL] at hLk; injection hLk
  have hSk' : S[k] = [I x] := by rw [List.getElem?_eq_getElem hkS] at hSk; injection hSk
  have hroom : (l.length + 1) * 8 ≤ room := by simp [room]; omega
  have n1 : ¬ (f = 0) := by omega
  have n2 : ¬ (fr = 0) := by omega
  have n3 : ¬ (fs = 0) := by omega
  have n1' : ¬ (0 = f) := by omega
  have n2' : ¬ (0 = fr) := by omega
  have n3' : ¬ (0 = fs) := by omega
  refine W.dregK ⟨0, _, _, by simp [opsA, evalOpsK, footO, foot, keys_own, keys_ptr, keys_rptr, keys_vptr, keys_ints, keys_sl, hF.t0, hF.t1, hF.t2, hF.t3, h9, h8, hs9, hc.c2, iaddr_own, hL, hk, hkL, hLk', hR, hlR, fillR, rowsOf, hroom, isSl, hS, hks, hkS, hSk', hat, hw, n1, n2, n3, n1', n2', n3', effect, allocs, writes, looks]; exact ⟨rfl, rfl⟩, ?_, ?_⟩
  · simp +decide [feetOk, apart, meet, isAnc, List.range, List.range.loop, masksA]
  · refine hQ _ ⟨?_, ?_, ?_, ?_, ?_, ?_, ?_⟩ ?_ ?_ ?_ ?_ ?_ ?_
    · simp [hF.t0]
    · simp [hF.t1]
    · simp [hF.t2]
    · simp [hF.t3]
    · simp [hF.t4]
    · simp [hF.t5]
    · simp [hF.t6]
    · simp [h9]
    · simp
    · simp
    · rfl
    · rfl
    · rfl
def opsB : List TO := [Tab.o 56 (.load false 1 (Tab.t 2)), Tab.o 57 (.mv (Tab.t 9)), Tab.o 58 (.load false 1 (Tab.t 3)), Tab.o 59 (.mv (Tab.t 9)), Tab.o 60 (.load false 1 (Tab.t 2)), Tab.o 61 (.mv (Tab.t 9)), Tab.o 62 (.iaddr 1 (Tab.t 60) (Tab.t 61)), Tab.o 63 (.load false 1 (Tab.t 62)), Tab.o 64 (.load false 1 (Tab.t 2)), Tab.o 65 (.mv (Tab.t 9)), Tab.o 66 (.iaddr 1 (Tab.t 64) (Tab.t 65)), Tab.o 67 (.load false 1 (Tab.t 66)), Tab.o 68 (.len 1 (Tab.t 67)), Tab.o 69 (.bin .sub (Tab.t 68) (Tab.i 1)), Tab.o 70 (.slc 1 (Tab.t 63) none (some (Tab.t 69))), Tab.o 71 (.load false 1 (Tab.t 3)), Tab.o 72 (.mv (Tab.t 9)), Tab.o 73 (.iaddr 1 (Tab.t 71) (Tab.t 72)), Tab.o 74 (.load false 1 (Tab.t 73)), Tab.o 75 (.load false 1 (Tab.t 1)), Tab.o 76 (.mv (Tab.t 0)), Tab.o 77 (.iaddr 1 (Tab.t 75) (Tab.t 76)), Tab.o 78 (.load false 1 (Tab.t 77)), Tab.o 79 (.bin .sub (Tab.t 74) (Tab.t 78)), Tab.o 80 (.iaddr 1 (Tab.t 56) (Tab.t 57)), Tab.e (.store 1 (Tab.t 80) (Tab.t 70)), Tab.o 81 (.iaddr 1 (Tab.t 58) (Tab.t 59)), Tab.e (.store 1 (Tab.t 81) (Tab.t 79))]
def masksB : List Nat := [0, 0, 0, 0, 0, 0, 48, 112, 0, 0, 768, 1792, 3840, 7936, 16368, 0, 0, 98304, 229376, 0, 0, 1572864, 3670016, 8355840, 8388595, 25165811, 67108863, 134217727]
def opsC : List TO := [Tab.o 87 (.load false 1 (Tab.t 2)), Tab.o 88 (.mv (Tab.t 0)), Tab.o 89 (.bslice 1 [Tab.z 0] 1 [(0, .t 88)] true), Tab.o 90 (.bslice 1 [.sl 0 [] .tight] 1 [(0, .t 89)] false), Tab.o 91 (.app 1 24 (Tab.t 87) (Tab.t 90) true), Tab.o 92 (.load false 1 (Tab.t 3)), Tab.o 93 (.load false 1 (Tab.t 1)), Tab.o 94 (.mv (Tab.t 0)), Tab.o 95 (.iaddr 1 (Tab.t 93) (Tab.t 94)), Tab.o 96 (.load false 1 (Tab.t 95)), Tab.o 97 (.bslice 1 [Tab.z 0] 1 [(0, .t 96)] false), Tab.o 98 (.app 1 8 (Tab.t 92) (Tab.t 97) true), Tab.e (.store 1 (Tab.t 2) (Tab.t 91)), Tab.e (.store 1 (Tab.t 3) (Tab.t 98))]
def masksC : List Nat := [0, 0, 2, 6, 15, 0, 0, 0, 192, 448, 960, 2047, 4095, 8191]
def opsD : List TO := [Tab.o 103 (.load false 1 (Tab.t 2)), Tab.o 104 (.load false 1 (Tab.t 2)), Tab.o 105 (.len 1 (Tab.t 104)), Tab.o 106 (.bin .sub (Tab.t 105) (Tab.i 1)), Tab.o 107 (.slc 1 (Tab.t 103) none (some (Tab.t 106))), Tab.o 108 (.load false 1 (Tab.t 3)), Tab.o 109 (.load false 1 (Tab.t 3)), Tab.o 110 (.len 1 (Tab.t 109)), Tab.o 111 (.bin .sub (Tab.t 110) (Tab.i 1)), Tab.o 112 (.slc 1 (Tab.t 108) none (some (Tab.t 111))), Tab.e (.store 1 (Tab.t 2) (Tab.t 107)), Tab.e (.store 1 (Tab.t 3) (Tab.t 112))]
def masksD : List Nat := [0, 0, 2, 6, 15, 0, 0, 64, 192, 480, 31, 2047]

/-- A piece is taken out again. -/
theorem stepB {C : Cfg} {sz : List Int} {r least : Int} {st : St} {i k m : Nat} {sums : List Int} {N : Nat} {x s : Int} (hi : i < sz.length) (hsi : sz[i]? = some s) (hF : Frame32 st i) (h9 : st.t 9 = I k) (hc : Cells32 sz r least st.s)
    {f g L fr gr R fs gs S} (h8 : st.s 0 8 = some (4, .cells [.own f 91 g 0 N 1])) (hs9 : st.s 0 9 = some (5, .cells [.own fs 98 gs 0 sums.length 1])) (hf : 0 < f) (hfr : 0 < fr) (hfs : 0 < fs) (hL : st.s f 91 = some (g, .rows 1 L)) (hLl : N ≤ L.length) (hk : k < N) (hLk : L[k]? = some [.own fr 89 gr 0 (m + 1) 1]) (hR : st.s fr 89 = some (gr, .rows 1 R)) (hm : m ≤ 10)
    (hS : st.s fs 98 = some (gs, .rows 1 S)) (hSl : sums.length ≤ S.length) (hks : k < sums.length) (hSk : S[k]? = some [I x]) (hw : IntKind.i64.wrap (x - s) = x - s) {Q : Ex → St → Prop}
    (hQ : ∀ st' : St, Frame32 st' i → st'.t 9 = I k → st'.t 16 = st.t 16 → st'.t 15 = st.t 15 → st'.fr = st.fr → st'.n = st.n → st'.s = upd2 (upd2 st.s f 91 (some (g, .rows 1 (L.set k [.own fr 89 gr 0 m 1])))) fs 98 (some (gs, .rows 1 (S.set k [I (x - s)]))) → Q .normal st') :
    W C (.dregK opsB masksB) st Q := by
  have hat : ∀ st, iaddrV st 1 (i : Int) (encInts sz) = some (.vptr [I s] 0) := fun st => atInts hsi
  have hkL : k < L.length := by omega
  have hkS : k < S.length := by omega
  have hLk' : L[k] = [.own fr 89 gr 0 (m + 1) 1] := by rw [List.getElem?_eq_getElem hkL] at hLk; injection hLk
  have hSk' : S[k] = [I x] := by rw [List.getElem?_eq_getElem hkS] at hSk; injection hSk
  have hwm : IntKind.i64.wrap (m : Int) = m := wrap_id (by omega) (by omega)
  have hm1 : (m : Int) ≤ (m : Int) + 1 := by omega
  have n1 : ¬ (f = 0) := by omega
  have n2 : ¬ (fr = 0) := by omega
  have n3 : ¬ (fs = 0) := by omega
  have n1' : ¬ (0 = f) := by omega
  have n2' : ¬ (0 = fr) := by omega
  have n3' : ¬ (0 = fs) := by omega
  refine W.dregK ⟨0, _, _, by simp [opsB, evalOpsK, footO, foot, keys_own, keys_ptr, keys_rptr, keys_vptr, keys_ints, keys_sl, hF.t0, hF.t1, hF.t2, hF.t3, h9, h8, hs9, hc.c2, iaddr_own, hL, hk, hkL, hLk', hR, fillR, rowsOf, isSl, hS, hks, hkS, hSk', hat, hw, n1, n2, n3, n1', n2', n3', effect, allocs, writes, looks, lenV, bound, hwm, hm1]; exact ⟨rfl, rfl⟩, ?_, ?_⟩
  · simp +decide [feetOk, apart, meet, isAnc, List.range, List.range.loop, masksB]
  · refine hQ _ ⟨?_, ?_, ?_, ?_, ?_, ?_, ?_⟩ ?_ ?_ ?_ ?_ ?_ ?_
    · simp [hF.t0]
    · simp [hF.t1]
    · simp [hF.t2]
    · simp [hF.t3]
    · simp [hF.t4]
    · simp [hF.t5]
    · simp [hF.t6]
    · simp [h9]
    · simp
    · simp
    · rfl
    · rfl
    · rfl

/-- A new box, the first one. -/
theorem stepC1 {C : Cfg} {sz : List Int} {r least : Int} {st : St} {i : Nat} {s : Int} (hi : i < sz.length) (hsi : sz[i]? = some s) (hF : Frame32 st i) (hc : Cells32 sz r least st.s) (hfr : 0 < st.fr)
    (h8 : st.s 0 8 = some (4, .cells [.sl 0 [] .tight])) (hs9 : st.s 0 9 = some (5, .cells [.sl 0 [] .tight])) {Q : Ex → St → Prop}
    (hQ : ∀ st' : St, Frame32 st' i → st'.fr = st.fr → st'.n = st.n + 3 → st'.s = upd2 (upd2 (upd2 (upd2 (upd2 st.s st.fr 89 (some (st.n, .rows 1 [[I i]]))) st.fr 91 (some (st.n + 1, .rows 1 [[.own st.fr 89 st.n 0 1 1]]))) st.fr 98 (some (st.n + 2, .rows 1 [[I s]]))) 0 8 (some (4, .cells [.own st.fr 91 (st.n + 1) 0 1 1]))) 0 9 (some (5, .cells [.own st.fr 98 (st.n + 2) 0 1 1])) → Q .normal st') :
    W C (.dregK opsC masksC) st Q := by
  have hat : ∀ st, iaddrV st 1 (i : Int) (encInts sz) = some (.vptr [I s] 0) := fun st => atInts hsi
  have n1 : ¬ (st.fr = 0) := by omega
  have n1' : ¬ (0 = st.fr) := by omega
  refine W.dregK ⟨0, _, _, by simp [opsC, evalOpsK, footO, foot, keys_own, keys_ptr, keys_rptr, keys_vptr, keys_ints, keys_sl, hF.t0, hF.t1, hF.t2, hF.t3, h8, hs9, hc.c2, iaddr_own, fillR, rowsOf, isSl, hat, effect, allocs, writes, looks, lenV, bound, n1, n1', room]; exact ⟨rfl, rfl⟩, ?_, ?_⟩
  · simp +decide [feetOk, apart, meet, isAnc, List.range, List.range.loop, masksC]
  · refine hQ _ ⟨?_, ?_, ?_, ?_, ?_, ?_, ?_⟩ ?_ ?_ ?_
    · simp [hF.t0]
    · simp [hF.t1]
    · simp [hF.t2]
    · simp [hF.t3]
    · simp [hF.t4]
    · simp [hF.t5]
    · simp [hF.t6]
    · rfl
    · rfl
    · rfl

/-- A new box beside others. -/
theorem stepC2 {C : Cfg} {sz : List Int} {r least : Int} {st : St} {i N M : Nat} {s : Int} (hi : i < sz.length) (hsi : sz[i]? = some s) (hF : Frame32 st i) (hc : Cells32 sz r least st.s) (hfr : 0 < st.fr)
    {f g L fs gs S} (h8 : st.s 0 8 = some (4, .cells [.own f 91 g 0 N 1])) (hs9 : st.s 0 9 = some (5, .cells [.own fs 98 gs 0 M 1])) (hf : 0 < f) (hfs : 0 < fs) (hL : st.s f 91 = some (g, .rows 1 L)) (hLl : N ≤ L.length) (hS : st.s fs 98 = some (gs, .rows 1 S)) (hSl : M ≤ S.length) (hN : N ≤ 10) (hM : M ≤ 10) {Q : Ex → St → Prop}
    (hQ : ∀ st' : St, Frame32 st' i → st'.fr = st.fr → st'.n = st.n + 3 → st'.s = upd2 (upd2 (upd2 (upd2 (upd2 (upd2 (upd2 st.s st.fr 89 (some (st.n, .rows 1 [[I i]]))) f 91 none) f 91 (some (st.n + 1, .rows 1 (L.take N ++ [[.own st.fr 89 st.n 0 1 1]])))) fs 98 none) fs 98 (some (st.n + 2, .rows 1 (S.take M ++ [[I s]])))) 0 8 (some (4, .cells [.own f 91 (st.n + 1) 0 (N + 1) 1]))) 0 9 (some (5, .cells [.own fs 98 (st.n + 2) 0 (M + 1) 1])) → Q .normal st') :
    W C (.dregK opsC masksC) st Q := by
  have hat : ∀ st, iaddrV st 1 (i : Int) (encInts sz) = some (.vptr [I s] 0) := fun st => atInts hsi
  have n1 : ¬ (st.fr = 0) := by omega
  have n1' : ¬ (0 = st.fr) := by omega
  have n2 : ¬ (f = 0) := by omega
  have n2' : ¬ (0 = f) := by omega
  have n3 : ¬ (fs = 0) := by omega
  have n3' : ¬ (0 = fs) := by omega
  have r1 : (N + 1) * 24 ≤ room := by simp [room]; omega
  have r2 : (M + 1) * 8 ≤ room := by simp [room]; omega
  refine W.dregK ⟨0, _, _, by simp [opsC, evalOpsK, footO, foot, keys_own, keys_ptr, keys_rptr, keys_vptr, keys_ints, keys_sl, hF.t0, hF.t1, hF.t2, hF.t3, h8, hs9, hc.c2, iaddr_own, fillR, rowsOf, isSl, hat, effect, allocs, writes, looks, lenV, bound, n1, n1', n2, n2', n3, n3', hL, hS, hLl, hSl, r1, r2]; exact ⟨rfl, rfl⟩, ?_, ?_⟩
  · simp +decide [feetOk, apart, meet, isAnc, List.range, List.range.loop, masksC]
  · refine hQ _ ⟨?_, ?_, ?_, ?_, ?_, ?_, ?_⟩ ?_ ?_ ?_
    · simp [hF.t0]
    · simp [hF.t1]
    · simp [hF.t2]
    · simp [hF.t3]
    · simp [hF.t4]
    · simp [hF.t5]
    · simp [hF.t6]
    · rfl
    · rfl
    · rfl

/-- The last box is thrown away. -/
theorem stepD {C : Cfg} {st : St} {i N M : Nat} (hF : Frame32 st i)
    {f g fs gs} (h8 : st.s 0 8 = some (4, .cells [.own f 91 g 0 (N + 1) 1])) (hs9 : st.s 0 9 = some (5, .cells [.own fs 98 gs 0 (M + 1) 1])) (hN : N ≤ 10) (hM : M ≤ 10) {Q : Ex → St → Prop}
    (hQ : ∀ st' : St, Frame32 st' i → st'.fr = st.fr → st'.n = st.n → st'.s = upd2 (upd2 st.s 0 8 (some (4, .cells [.own f 91 g 0 N 1]))) 0 9 (some (5, .cells [.own fs 98 gs 0 M 1])) → Q .normal st') :
    W C (.dregK opsD masksD) st Q := by
  have w1 : IntKind.i64.wrap (N : Int) = N := wrap_id (by omega) (by omega)
  have w2 : IntKind.i64.wrap (M : Int) = M := wrap_id (by omega) (by omega)
  have l1 : (N : Int) ≤ (N : Int) + 1 := by omega
  have l2 : (M : Int) ≤ (M : Int) + 1 := by omega
  refine W.dregK ⟨0, _, _, by simp [opsD, evalOpsK, footO, foot, keys_own, keys_ptr, keys_rptr, keys_vptr, keys_ints, keys_sl, hF.t2, hF.t3, h8, hs9, effect, allocs, writes, looks, lenV, bound, w1, w2, l1, l2]; exact ⟨rfl, rfl⟩, ?_, ?_⟩
  · simp +decide [feetOk, apart, meet, isAnc, List.range, List.range.loop, masksD]
  · refine hQ _ ⟨?_, ?_, ?_, ?_, ?_, ?_, ?_⟩ ?_ ?_ ?_
    · simp [hF.t0]
    · simp [hF.t1]
    · simp [hF.t2]
    · simp [hF.t3]
    · simp [hF.t4]
    · simp [hF.t5]
    · simp [hF.t6]
    · rfl
    · rfl
    · rfl
end Go.TI
end
