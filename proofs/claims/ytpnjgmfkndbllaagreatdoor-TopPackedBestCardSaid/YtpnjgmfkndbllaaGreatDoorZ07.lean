/- A part of the proof of TopPackedBest: texts TkOk to TkOk. -/
import Derived.Test.YtpnjgmfkndbllaaGreatDoorZ05
import Derived.Test.YtpnjgmfkndbllaaGreatDoorZ06
import Derived.Test.YtpnjgmfkndbllaaGreatDoorZ02
import Derived.Tactics2
import Derived.Laws.StructEq
import Derived.KernelRfl
/- The interpreter stands over this program: its table of functions, slices.Clone, the equality of places. -/
section
set_option maxRecDepth 1000000
set_option linter.unusedVariables false
namespace Go.TI
open Go Go.TI Go.Proofs
namespace Tab

theorem chkTC_imp {C C' : Cfg} (h : C.imp = C'.imp) : ∀ c : TC, chkTC C c = chkTC C' c := by
  have hw : ∀ o, writes C o = writes C' o := fun o => by cases o <;> simp [writes, h]
  have he : ∀ o, effect C o = effect C' o := fun o => by simp only [effect, hw]
  intro c
  induction c with
  | dreg tos ms => simp only [chkTC, drawOk, pairsOk, he, hw]
  | seq a b iha ihb => simp only [chkTC, iha, ihb]
  | ite x a b iha ihb => simp only [chkTC, iha, ihb]
  | blk i a iha => simp only [chkTC, iha]
  | loop a iha => simp only [chkTC, iha]
  | rngf f ps sl a b iha ihb => simp only [chkTC, iha, ihb]
  | _ => rfl
def CodeAt (K : Nat) (F : TF) : Prop := hasBody Tryz.prog K = true ∧ (∀ C : Cfg, C.imp = impOf → chkTC C F.body = true) ∧ ∃ pol, ∀ C : Cfg, compF Tryz.prog C pol K = some F
theorem codeAt {K : Nat} {F : TF} {C : Cfg} (hC : C.imp = impOf) {pol : Pol} (b : hasBody Tryz.prog K = true) (k : chkTC C F.body = true) (c : compF Tryz.prog C pol K = some F) : CodeAt K F :=
  ⟨b, fun C' h => by rw [chkTC_imp (h.trans hC.symm)]; exact k, pol, fun C' => by rw [compF_cfg C' C]; exact c⟩
theorem code_ok : ∀ K F, tab K = some F → CodeAt K F := by
  intro K F h
  unfold tab at h
  split at h
  · cases h; exact codeAt rfl b3 k3 c3
  · cases h; exact codeAt rfl b5 k5 c5
  · cases h; exact codeAt rfl b6 k6 c6
  · cases h; exact codeAt rfl b7 k7 c7
  · cases h; exact codeAt rfl b8 k8 c8
  · cases h; exact codeAt rfl b9 k9 c9
  · cases h; exact codeAt rfl b10 k10 c10
  · cases h; exact codeAt rfl b11 k11 c11
  · cases h; exact codeAt rfl b12 k12 c12
  · cases h; exact codeAt rfl b18 k18 c18
  · cases h; exact codeAt rfl b19 k19 c19
  · cases h; exact codeAt rfl b21 k21 c21
  · cases h; exact codeAt rfl b23 k23 c23
  · cases h; exact codeAt rfl b26 k26 c26
  · cases h; exact codeAt rfl b27 k27 c27
  · cases h; exact codeAt rfl b28 k28 c28
  · cases h; exact codeAt rfl b29 k29 c29
  · cases h; exact codeAt rfl b30 k30 c30
  · cases h; exact codeAt rfl b31 k31 c31
  · cases h; exact codeAt rfl b32 k32 c32
  · cases h; exact codeAt rfl b33 k33 c33
  · cases h; exact codeAt rfl b34 k34 c34
  · cases h; exact codeAt rfl b35 k35 c35
  · cases h; exact codeAt rfl b38 k38 c38
  · cases h; exact codeAt rfl b39 k39 c39
  · cases h; exact codeAt rfl b43 k43 c43
  · cases h; exact codeAt rfl b44 k44 c44
  · cases h; exact codeAt rfl b45 k45 c45
  · cases h; exact codeAt rfl b46 k46 c46
  · cases h; exact codeAt rfl b47 k47 c47
  · cases h; exact codeAt rfl b48 k48 c48
  · cases h; exact codeAt rfl b50 k50 c50
  · cases h; exact codeAt rfl b52 k52 c52
  · cases h; exact codeAt rfl b53 k53 c53
  · cases h; exact codeAt rfl b54 k54 c54
  · cases h; exact codeAt rfl b55 k55 c55
  · cases h; exact codeAt rfl b56 k56 c56
  · cases h; exact codeAt rfl b57 k57 c57
  · cases h; exact codeAt rfl b58 k58 c58
  · cases h; exact codeAt rfl b59 k59 c59
  · cases h; exact codeAt rfl b60 k60 c60
  · cases h; exact codeAt rfl b61 k61 c61
  · cases h; exact codeAt rfl b62 k62 c62
  · cases h; exact codeAt rfl b63 k63 c63
  · cases h; exact codeAt rfl b64 k64 c64
  · cases h; exact codeAt rfl b65 k65 c65
  · cases h; exact codeAt rfl b66 k66 c66
  · cases h; exact codeAt rfl b67 k67 c67
  · cases h; exact codeAt rfl b68 k68 c68
  · cases h; exact codeAt rfl b73 k73 c73
  · cases h; exact codeAt rfl b74 k74 c74
  · cases h; exact codeAt rfl b75 k75 c75
  · cases h; exact codeAt rfl b76 k76 c76
  · cases h; exact codeAt rfl b77 k77 c77
  · cases h; exact codeAt rfl b78 k78 c78
  · cases h; exact codeAt rfl b79 k79 c79
  · cases h; exact codeAt rfl b80 k80 c80
  · cases h; exact codeAt rfl b81 k81 c81
  · cases h; exact codeAt rfl b82 k82 c82
  · cases h; exact codeAt rfl b83 k83 c83
  · cases h; exact codeAt rfl b86 k86 c86
  · cases h; exact codeAt rfl b87 k87 c87
  · cases h; exact codeAt rfl b88 k88 c88
  · cases h; exact codeAt rfl b89 k89 c89
  · cases h; exact codeAt rfl b90 k90 c90
  · cases h; exact codeAt rfl b91 k91 c91
  · cases h; exact codeAt rfl b92 k92 c92
  · cases h; exact codeAt rfl b93 k93 c93
  · cases h; exact codeAt rfl b94 k94 c94
  · cases h; exact codeAt rfl b95 k95 c95
  · cases h; exact codeAt rfl b96 k96 c96
  · cases h; exact codeAt rfl b97 k97 c97
  · cases h; exact codeAt rfl b98 k98 c98
  · cases h; exact codeAt rfl b99 k99 c99
  · cases h; exact codeAt rfl b100 k100 c100
  · cases h; exact codeAt rfl b101 k101 c101
  · cases h; exact codeAt rfl b102 k102 c102
  · cases h; exact codeAt rfl b103 k103 c103
  · cases h; exact codeAt rfl b104 k104 c104
  · cases h; exact codeAt rfl b107 k107 c107
  · cases h; exact codeAt rfl b108 k108 c108
  · cases h; exact codeAt rfl b109 k109 c109
  · cases h; exact codeAt rfl b110 k110 c110
  · cases h; exact codeAt rfl b111 k111 c111
  · cases h; exact codeAt rfl b112 k112 c112
  · cases h; exact codeAt rfl b113 k113 c113
  · cases h; exact codeAt rfl b114 k114 c114
  · cases h; exact codeAt rfl b115 k115 c115
  · cases h; exact codeAt rfl b116 k116 c116
  · cases h; exact codeAt rfl b117 k117 c117
  · cases h; exact codeAt rfl b118 k118 c118
  · cases h; exact codeAt rfl b119 k119 c119
  · cases h; exact codeAt rfl b120 k120 c120
  · cases h; exact codeAt rfl b124 k124 c124
  · cases h; exact codeAt rfl b125 k125 c125
  · cases h; exact codeAt rfl b127 k127 c127
  · cases h; exact codeAt rfl b128 k128 c128
  · cases h; exact codeAt rfl b129 k129 c129
  · cases h; exact codeAt rfl b130 k130 c130
  · cases h; exact codeAt rfl b131 k131 c131
  · cases h; exact codeAt rfl b132 k132 c132
  · cases h; exact codeAt rfl b133 k133 c133
  · cases h; exact codeAt rfl b134 k134 c134
  · cases h; exact codeAt rfl b135 k135 c135
  · cases h; exact codeAt rfl b136 k136 c136
  · cases h; exact codeAt rfl b137 k137 c137
  · cases h; exact codeAt rfl b138 k138 c138
  · cases h; exact codeAt rfl b139 k139 c139
  · cases h; exact codeAt rfl b140 k140 c140
  · cases h; exact codeAt rfl b141 k141 c141
  · cases h; exact codeAt rfl b142 k142 c142
  · cases h; exact codeAt rfl b148 k148 c148
  · cases h; exact codeAt rfl b149 k149 c149
  · cases h; exact codeAt rfl b150 k150 c150
  · cases h; exact codeAt rfl b151 k151 c151
  · cases h; exact codeAt rfl b152 k152 c152
  · cases h; exact codeAt rfl b153 k153 c153
  · cases h; exact codeAt rfl b154 k154 c154
  · cases h; exact codeAt rfl b155 k155 c155
  · cases h; exact codeAt rfl b163 k163 c163
  · cases h; exact codeAt rfl b164 k164 c164
  · cases h; exact codeAt rfl b174 k174 c174
  · cases h; exact codeAt rfl b183 k183 c183
  · cases h; exact codeAt rfl b184 k184 c184
  · cases h; exact codeAt rfl b186 k186 c186
  · cases h; exact codeAt rfl b187 k187 c187
  · cases h; exact codeAt rfl b188 k188 c188
  · cases h; exact codeAt rfl b189 k189 c189
  · cases h; exact codeAt rfl b191 k191 c191
  · cases h; exact codeAt rfl b201 k201 c201
  · cases h; exact codeAt rfl b205 k205 c205
  · cases h; exact codeAt rfl b206 k206 c206
  · cases h; exact codeAt rfl b207 k207 c207
  · cases h; exact codeAt rfl b210 k210 c210
  · cases h; exact codeAt rfl b211 k211 c211
  · cases h; exact codeAt rfl b213 k213 c213
  · cases h; exact codeAt rfl b220 k220 c220
  · cases h; exact codeAt rfl b221 k221 c221
  · cases h; exact codeAt rfl b222 k222 c222
  · cases h; exact codeAt rfl b224 k224 c224
  · cases h; exact codeAt rfl b225 k225 c225
  · cases h; exact codeAt rfl b226 k226 c226
  · cases h; exact codeAt rfl b227 k227 c227
  · cases h; exact codeAt rfl b243 k243 c243
  · cases h; exact codeAt rfl b257 k257 c257
  · cases h; exact codeAt rfl b258 k258 c258
  · cases h; exact codeAt rfl b259 k259 c259
  · cases h; exact codeAt rfl b260 k260 c260
  · cases h; exact codeAt rfl b262 k262 c262
  · cases h; exact codeAt rfl b263 k263 c263
  · cases h; exact codeAt rfl b264 k264 c264
  · cases h; exact codeAt rfl b265 k265 c265
  · cases h; exact codeAt rfl b266 k266 c266
  · cases h; exact codeAt rfl b267 k267 c267
  · cases h; exact codeAt rfl b268 k268 c268
  · cases h; exact codeAt rfl b269 k269 c269
  · cases h; exact codeAt rfl b270 k270 c270
  · cases h; exact codeAt rfl b271 k271 c271
  · cases h; exact codeAt rfl b272 k272 c272
  · cases h; exact codeAt rfl b275 k275 c275
  · cases h; exact codeAt rfl b276 k276 c276
  · cases h; exact codeAt rfl b286 k286 c286
  · cases h; exact codeAt rfl b290 k290 c290
  · cases h; exact codeAt rfl b292 k292 c292
  · cases h; exact codeAt rfl b304 k304 c304
  · cases h; exact codeAt rfl b305 k305 c305
  · cases h; exact codeAt rfl b306 k306 c306
  · cases h; exact codeAt rfl b320 k320 c320
  · cases h; exact codeAt rfl b321 k321 c321
  · cases h; exact codeAt rfl b322 k322 c322
  · cases h; exact codeAt rfl b323 k323 c323
  · cases h; exact codeAt rfl b325 k325 c325
  · cases h; exact codeAt rfl b326 k326 c326
  · cases h; exact codeAt rfl b327 k327 c327
  · cases h; exact codeAt rfl b328 k328 c328
  · cases h; exact codeAt rfl b329 k329 c329
  · cases h; exact codeAt rfl b330 k330 c330
  · cases h; exact codeAt rfl b331 k331 c331
  · cases h; exact codeAt rfl b351 k351 c351
  · cases h; exact codeAt rfl b365 k365 c365
  · cases h; exact codeAt rfl b366 k366 c366
  · cases h; exact codeAt rfl b367 k367 c367
  · cases h; exact codeAt rfl b369 k369 c369
  · cases h; exact codeAt rfl b370 k370 c370
  · cases h; exact codeAt rfl b401 k401 c401
  · cases h

def clPos (i : Nat) : String := match i with
  | 0 => "slices.go:355" | 1 => "slices.go:357" | 2 => "slices.go:357" | 3 => "slices.go:358" | _ => "slices.go:362"
def cl1 : Array Edge := #[{ on := 0, ground := .data }]
def cl2 : Array Edge := #[{ on := 0, ground := .data }, { on := 1, ground := .data }]
def cl3 : Array Edge := #[{ on := 2, ground := .data }, { on := 2, ground := .chain }, { on := 0, ground := .phase }, { on := 1, ground := .phase }, { on := 2, ground := .phase }]
theorem mixed : Tryz.prog.follows .mixedOrders = true := by kernel_rfl
theorem clone_of {K T e k bytes : Nat} {z : List V} {C : Cfg} (hq : (Tryz.prog.funcs[K]?).map (fun fn => (fn.body, fn.ntmps, fn.results)) = some (some (cloneCode T 4 clPos cl1 cl2 cl3), 8, #[.tmp 2])) (hT : Tryz.prog.underlying T = some (.slice e))
    (hi : ((Tryz.prog.info? e).bind (·.zero)).isSome = true) (hb : hasBody Tryz.prog K = true) (hc : compF Tryz.prog C polClone K = some (cloneTF k bytes z)) (hk : 0 < k) (hby : 0 < bytes) : IsClone Tryz.prog K k bytes := by
  refine ⟨mixed, hb, ⟨z, by rw [← hc]; exact compF_cfg _ _ _ _⟩, hk, hby, fun A cap w => ?_⟩
  rw [Option.map_eq_some_iff] at hq
  obtain ⟨fn, hf, hq⟩ := hq
  simp only [Prod.mk.injEq] at hq
  cases hinfo : Tryz.prog.info? e with
  | none => rw [hinfo] at hi; simp at hi
  | some inf =>
    rw [hinfo] at hi
    cases hz : inf.zero with
    | none => simp [hz] at hi
    | some z0 => exact clone_empty hf hq.1 hq.2.1 hq.2.2 hT hinfo hz A cap w
theorem clone8 : IsClone Tryz.prog 8 1 8 := clone_of (T := 22) (e := 3) (by kernel_rfl) (by kernel_rfl) (by kernel_rfl) b8 c8 (by decide) (by decide)
theorem clone12 : IsClone Tryz.prog 12 5 56 := clone_of (T := 39) (e := 55) (by kernel_rfl) (by kernel_rfl) (by kernel_rfl) b12 c12 (by decide) (by decide)
theorem clone19 : IsClone Tryz.prog 19 6 48 := clone_of (T := 41) (e := 75) (by kernel_rfl) (by kernel_rfl) (by kernel_rfl) b19 c19 (by decide) (by decide)
theorem clone38 : IsClone Tryz.prog 38 3 24 := clone_of (T := 57) (e := 97) (by kernel_rfl) (by kernel_rfl) (by kernel_rfl) b38 c38 (by decide) (by decide)
theorem clone89 : IsClone Tryz.prog 89 5 56 := clone_of (T := 32) (e := 129) (by kernel_rfl) (by kernel_rfl) (by kernel_rfl) b89 c89 (by decide) (by decide)
theorem clone90 : IsClone Tryz.prog 90 6 48 := clone_of (T := 33) (e := 186) (by kernel_rfl) (by kernel_rfl) (by kernel_rfl) b90 c90 (by decide) (by decide)
theorem clone91 : IsClone Tryz.prog 91 6 56 := clone_of (T := 34) (e := 189) (by kernel_rfl) (by kernel_rfl) (by kernel_rfl) b91 c91 (by decide) (by decide)
theorem clone92 : IsClone Tryz.prog 92 6 48 := clone_of (T := 35) (e := 192) (by kernel_rfl) (by kernel_rfl) (by kernel_rfl) b92 c92 (by decide) (by decide)
theorem clone93 : IsClone Tryz.prog 93 6 48 := clone_of (T := 36) (e := 195) (by kernel_rfl) (by kernel_rfl) (by kernel_rfl) b93 c93 (by decide) (by decide)
theorem clone94 : IsClone Tryz.prog 94 2 16 := clone_of (T := 53) (e := 118) (by kernel_rfl) (by kernel_rfl) (by kernel_rfl) b94 c94 (by decide) (by decide)
theorem clone95 : IsClone Tryz.prog 95 4 32 := clone_of (T := 40) (e := 88) (by kernel_rfl) (by kernel_rfl) (by kernel_rfl) b95 c95 (by decide) (by decide)
theorem clone96 : IsClone Tryz.prog 96 7 56 := clone_of (T := 42) (e := 82) (by kernel_rfl) (by kernel_rfl) (by kernel_rfl) b96 c96 (by decide) (by decide)
theorem clone97 : IsClone Tryz.prog 97 4 32 := clone_of (T := 43) (e := 201) (by kernel_rfl) (by kernel_rfl) (by kernel_rfl) b97 c97 (by decide) (by decide)
theorem clone98 : IsClone Tryz.prog 98 8 96 := clone_of (T := 44) (e := 131) (by kernel_rfl) (by kernel_rfl) (by kernel_rfl) b98 c98 (by decide) (by decide)
theorem clone99 : IsClone Tryz.prog 99 2 16 := clone_of (T := 45) (e := 205) (by kernel_rfl) (by kernel_rfl) (by kernel_rfl) b99 c99 (by decide) (by decide)
theorem clone100 : IsClone Tryz.prog 100 3 24 := clone_of (T := 46) (e := 208) (by kernel_rfl) (by kernel_rfl) (by kernel_rfl) b100 c100 (by decide) (by decide)
theorem clone112 : IsClone Tryz.prog 112 3 24 := clone_of (T := 104) (e := 232) (by kernel_rfl) (by kernel_rfl) (by kernel_rfl) b112 c112 (by decide) (by decide)
theorem clone_ok : ∀ K k b, clInfo K = some (k, b) → hasBody Tryz.prog K = true ∧ IsClone Tryz.prog K k b := by
  intro K k b h
  unfold clInfo at h
  split at h
  · cases h; exact ⟨b8, clone8⟩
  · cases h; exact ⟨b12, clone12⟩
  · cases h; exact ⟨b19, clone19⟩
  · cases h; exact ⟨b38, clone38⟩
  · cases h; exact ⟨b89, clone89⟩
  · cases h; exact ⟨b90, clone90⟩
  · cases h; exact ⟨b91, clone91⟩
  · cases h; exact ⟨b92, clone92⟩
  · cases h; exact ⟨b93, clone93⟩
  · cases h; exact ⟨b94, clone94⟩
  · cases h; exact ⟨b95, clone95⟩
  · cases h; exact ⟨b96, clone96⟩
  · cases h; exact ⟨b97, clone97⟩
  · cases h; exact ⟨b98, clone98⟩
  · cases h; exact ⟨b99, clone99⟩
  · cases h; exact ⟨b100, clone100⟩
  · cases h; exact ⟨b112, clone112⟩
  · cases h
end Tab

theorem fre0_ok {K : Nat} {vs : List V} {k : Nat} {rows : List (List V)} (h : fre0 K vs = some (k, rows)) : hasBody Tryz.prog K = true ∧ FreshOk Tryz.prog K vs k rows := by
  unfold fre0 at h
  split at h
  · rename_i k0 b0 hi
    obtain ⟨h1, h2⟩ := Tab.clone_ok K _ _ hi
    exact ⟨h1, h2.run h⟩
  · simp at h

theorem eq69 (a b c d : Int) (w : World) : (Op.equalIn 10000 69 (.agg #[.int .i64 a, .int .i64 b]) (.agg #[.int .i64 c, .int .i64 d])).run Tryz.prog w = .ok (a == c && b == d) w := by
  have u3 : Tryz.prog.underlying 3 = some (.int .i64) := by kernel_rfl
  have a3 : ∀ w, (isAgg 3).run Tryz.prog w = .ok false w := fun w => by kernel_rfl
  have z3 : ∀ w, (sizeOf 3).run Tryz.prog w = .ok 1 w := fun w => by kernel_rfl
  have hS : Tryz.prog.underlying 69 = some (.struct (Tryz.prog.fieldsOf 69)) := by kernel_rfl
  have hF : (Tryz.prog.fieldsOf 69).toList = [{ name := "Kind", type := 3, offset := 0, embedded := false, tag := "", pkgPath := "", byteOffset := 0 }, { name := "Of", type := 3, offset := 1, embedded := false, tag := "", pkgPath := "", byteOffset := 8 }] := by kernel_rfl
  have hp : Tryz.prog.stoodInHeld 69 = false := by kernel_rfl
  rw [show (10000 : Nat) = 9999 + 1 from rfl, run_equalIn_agg w 9999 69 _ _ hS hp, hF]
  go_simp
  by_cases h1 : a = c <;> by_cases h2 : b = d <;> simp [h1, h2]

theorem X_ok : ExtOk Tryz.prog X where
  mixed := Tab.mixed
  code K F h := by
    obtain ⟨h1, h2, h3⟩ := Tab.code_ok K F h
    exact ⟨h1, fun C hC => h2 C hC, h3⟩
  ext K vs r h := by
    simp only [X, ext0, Option.map_eq_some_iff] at h
    obtain ⟨⟨k, rows⟩, h, rfl⟩ := h
    obtain ⟨h1, h2⟩ := fre0_ok h
    exact ⟨h1, h2.pure⟩
  fre K vs k rows h := fre0_ok h
  eqT T x y b h c vx vy hx hy w neg xo yo := by
    simp only [X, eq0] at h
    split at h
    · rename_i hT
      have hT' : T = 69 := by simpa using hT
      subst hT'
      split at h
      · rename_i a1 b1 c1 d1
        injection h with h
        subst h
        have key : ∀ {v : Value} {p q : Int}, RV c v (.agg [.lit (.int .i64 p), .lit (.int .i64 q)]) → v = .agg #[.int .i64 p, .int .i64 q] := by
          intro v p q hv
          obtain ⟨xs, rfl, hs, hxs⟩ := hv.agg_inv
          obtain ⟨l⟩ := xs
          match l, hs with
          | [u1, u2], _ =>
            have e1 := (hxs 0 u1 _ rfl rfl).lit_inv.1
            have e2 := (hxs 1 u2 _ rfl rfl).lit_inv.1
            rw [e1, e2]
        rw [key hx, key hy]
        rw [Sem.run_bind, run_eqGuard_agg w _ 69 xo yo _ _ (by kernel_rfl), Result.andThen_ok]
        cases neg with
        | true => simp only [if_true]; rw [run_neq_struct, eq69 a1 b1 c1 d1 w, Result.andThen_ok]
        | false => simp only [Bool.false_eq_true, if_false]; rw [run_eql_struct, eq69 a1 b1 c1 d1 w, Result.andThen_ok]
      · simp at h
    · simp at h

/-- The small example of the services is true, whatever the memory. -/
theorem awake_ok : PureOk Tryz.prog 5 [] (.lit (.bool true)) := by
  have h : (lev X 41).1 5 [] = some (.lit (.bool true)) := by kernel_rfl
  exact (X_ok.pure h).2
end Go.TI
end
