/- A part of the proof of TopPackedBest: texts TkFact2 to TkFact3. -/
import Derived.Test.YtpnjgmfkndbllaaGreatDoorZ04
import Derived.Test.YtpnjgmfkndbllaaGreatDoorProg
section
set_option maxRecDepth 1000000
namespace Go.TI.Tab
open Go Go.TI
open Go.Proofs
def cfgN2 : Cfg := ⟨fun _ => none, impOf, fun _ _ => none, fun _ _ => none, fun _ _ _ => none, fun _ _ => none⟩
theorem c10 : compF Tryz.prog cfgN2 (polOf 10) 10 = some F10 := by kernel_rfl
theorem k10 : chkTC cfgN2 F10.body = true := by kernel_rfl
theorem b10 : hasBody Tryz.prog 10 = true := by kernel_rfl
theorem c18 : compF Tryz.prog cfgN2 (polOf 18) 18 = some F18 := by kernel_rfl
theorem k18 : chkTC cfgN2 F18.body = true := by kernel_rfl
theorem b18 : hasBody Tryz.prog 18 = true := by kernel_rfl
theorem c29 : compF Tryz.prog cfgN2 (polOf 29) 29 = some F29 := by kernel_rfl
theorem k29 : chkTC cfgN2 F29.body = true := by kernel_rfl
theorem b29 : hasBody Tryz.prog 29 = true := by kernel_rfl
theorem c35 : compF Tryz.prog cfgN2 (polOf 35) 35 = some F35 := by kernel_rfl
theorem k35 : chkTC cfgN2 F35.body = true := by kernel_rfl
theorem b35 : hasBody Tryz.prog 35 = true := by kernel_rfl
theorem c44 : compF Tryz.prog cfgN2 (polOf 44) 44 = some F44 := by kernel_rfl
theorem k44 : chkTC cfgN2 F44.body = true := by kernel_rfl
theorem b44 : hasBody Tryz.prog 44 = true := by kernel_rfl
theorem c45 : compF Tryz.prog cfgN2 (polOf 45) 45 = some F45 := by kernel_rfl
theorem k45 : chkTC cfgN2 F45.body = true := by kernel_rfl
theorem b45 : hasBody Tryz.prog 45 = true := by kernel_rfl
theorem c47 : compF Tryz.prog cfgN2 (polOf 47) 47 = some F47 := by kernel_rfl
theorem k47 : chkTC cfgN2 F47.body = true := by kernel_rfl
theorem b47 : hasBody Tryz.prog 47 = true := by kernel_rfl
theorem c54 : compF Tryz.prog cfgN2 (polOf 54) 54 = some F54 := by kernel_rfl
theorem k54 : chkTC cfgN2 F54.body = true := by kernel_rfl
theorem b54 : hasBody Tryz.prog 54 = true := by kernel_rfl
theorem c55 : compF Tryz.prog cfgN2 (polOf 55) 55 = some F55 := by kernel_rfl
theorem k55 : chkTC cfgN2 F55.body = true := by kernel_rfl
theorem b55 : hasBody Tryz.prog 55 = true := by kernel_rfl
theorem c56 : compF Tryz.prog cfgN2 (polOf 56) 56 = some F56 := by kernel_rfl
theorem k56 : chkTC cfgN2 F56.body = true := by kernel_rfl
theorem b56 : hasBody Tryz.prog 56 = true := by kernel_rfl
theorem c65 : compF Tryz.prog cfgN2 (polOf 65) 65 = some F65 := by kernel_rfl
theorem k65 : chkTC cfgN2 F65.body = true := by kernel_rfl
theorem b65 : hasBody Tryz.prog 65 = true := by kernel_rfl
theorem c76 : compF Tryz.prog cfgN2 (polOf 76) 76 = some F76 := by kernel_rfl
theorem k76 : chkTC cfgN2 F76.body = true := by kernel_rfl
theorem b76 : hasBody Tryz.prog 76 = true := by kernel_rfl
theorem c77 : compF Tryz.prog cfgN2 (polOf 77) 77 = some F77 := by kernel_rfl
theorem k77 : chkTC cfgN2 F77.body = true := by kernel_rfl
theorem b77 : hasBody Tryz.prog 77 = true := by kernel_rfl
theorem c87 : compF Tryz.prog cfgN2 (polOf 87) 87 = some F87 := by kernel_rfl
theorem k87 : chkTC cfgN2 F87.body = true := by kernel_rfl
theorem b87 : hasBody Tryz.prog 87 = true := by kernel_rfl
theorem c88 : compF Tryz.prog cfgN2 (polOf 88) 88 = some F88 := by kernel_rfl
theorem k88 : chkTC cfgN2 F88.body = true := by kernel_rfl
theorem b88 : hasBody Tryz.prog 88 = true := by kernel_rfl
theorem c89 : compF Tryz.prog cfgN2 (polOf 89) 89 = some F89 := by kernel_rfl
theorem k89 : chkTC cfgN2 F89.body = true := by kernel_rfl
theorem b89 : hasBody Tryz.prog 89 = true := by kernel_rfl
theorem c90 : compF Tryz.prog cfgN2 (polOf 90) 90 = some F90 := by kernel_rfl
theorem k90 : chkTC cfgN2 F90.body = true := by kernel_rfl
theorem b90 : hasBody Tryz.prog 90 = true := by kernel_rfl
theorem c95 : compF Tryz.prog cfgN2 (polOf 95) 95 = some F95 := by kernel_rfl
theorem k95 : chkTC cfgN2 F95.body = true := by kernel_rfl
theorem b95 : hasBody Tryz.prog 95 = true := by kernel_rfl
theorem c96 : compF Tryz.prog cfgN2 (polOf 96) 96 = some F96 := by kernel_rfl
theorem k96 : chkTC cfgN2 F96.body = true := by kernel_rfl
theorem b96 : hasBody Tryz.prog 96 = true := by kernel_rfl
theorem c100 : compF Tryz.prog cfgN2 (polOf 100) 100 = some F100 := by kernel_rfl
theorem k100 : chkTC cfgN2 F100.body = true := by kernel_rfl
theorem b100 : hasBody Tryz.prog 100 = true := by kernel_rfl
theorem c101 : compF Tryz.prog cfgN2 (polOf 101) 101 = some F101 := by kernel_rfl
theorem k101 : chkTC cfgN2 F101.body = true := by kernel_rfl
theorem b101 : hasBody Tryz.prog 101 = true := by kernel_rfl
theorem c108 : compF Tryz.prog cfgN2 (polOf 108) 108 = some F108 := by kernel_rfl
theorem k108 : chkTC cfgN2 F108.body = true := by kernel_rfl
theorem b108 : hasBody Tryz.prog 108 = true := by kernel_rfl
theorem c109 : compF Tryz.prog cfgN2 (polOf 109) 109 = some F109 := by kernel_rfl
theorem k109 : chkTC cfgN2 F109.body = true := by kernel_rfl
theorem b109 : hasBody Tryz.prog 109 = true := by kernel_rfl
theorem c110 : compF Tryz.prog cfgN2 (polOf 110) 110 = some F110 := by kernel_rfl
theorem k110 : chkTC cfgN2 F110.body = true := by kernel_rfl
theorem b110 : hasBody Tryz.prog 110 = true := by kernel_rfl
theorem c116 : compF Tryz.prog cfgN2 (polOf 116) 116 = some F116 := by kernel_rfl
theorem k116 : chkTC cfgN2 F116.body = true := by kernel_rfl
theorem b116 : hasBody Tryz.prog 116 = true := by kernel_rfl
theorem c120 : compF Tryz.prog cfgN2 (polOf 120) 120 = some F120 := by kernel_rfl
theorem k120 : chkTC cfgN2 F120.body = true := by kernel_rfl
theorem b120 : hasBody Tryz.prog 120 = true := by kernel_rfl
theorem c128 : compF Tryz.prog cfgN2 (polOf 128) 128 = some F128 := by kernel_rfl
theorem k128 : chkTC cfgN2 F128.body = true := by kernel_rfl
theorem b128 : hasBody Tryz.prog 128 = true := by kernel_rfl
theorem c129 : compF Tryz.prog cfgN2 (polOf 129) 129 = some F129 := by kernel_rfl
theorem k129 : chkTC cfgN2 F129.body = true := by kernel_rfl
theorem b129 : hasBody Tryz.prog 129 = true := by kernel_rfl
theorem c132 : compF Tryz.prog cfgN2 (polOf 132) 132 = some F132 := by kernel_rfl
theorem k132 : chkTC cfgN2 F132.body = true := by kernel_rfl
theorem b132 : hasBody Tryz.prog 132 = true := by kernel_rfl
theorem c149 : compF Tryz.prog cfgN2 (polOf 149) 149 = some F149 := by kernel_rfl
theorem k149 : chkTC cfgN2 F149.body = true := by kernel_rfl
theorem b149 : hasBody Tryz.prog 149 = true := by kernel_rfl
theorem c152 : compF Tryz.prog cfgN2 (polOf 152) 152 = some F152 := by kernel_rfl
theorem k152 : chkTC cfgN2 F152.body = true := by kernel_rfl
theorem b152 : hasBody Tryz.prog 152 = true := by kernel_rfl
theorem c154 : compF Tryz.prog cfgN2 (polOf 154) 154 = some F154 := by kernel_rfl
theorem k154 : chkTC cfgN2 F154.body = true := by kernel_rfl
theorem b154 : hasBody Tryz.prog 154 = true := by kernel_rfl
theorem c174 : compF Tryz.prog cfgN2 (polOf 174) 174 = some F174 := by kernel_rfl
theorem k174 : chkTC cfgN2 F174.body = true := by kernel_rfl
theorem b174 : hasBody Tryz.prog 174 = true := by kernel_rfl
theorem c191 : compF Tryz.prog cfgN2 (polOf 191) 191 = some F191 := by kernel_rfl
theorem k191 : chkTC cfgN2 F191.body = true := by kernel_rfl
theorem b191 : hasBody Tryz.prog 191 = true := by kernel_rfl
theorem c205 : compF Tryz.prog cfgN2 (polOf 205) 205 = some F205 := by kernel_rfl
theorem k205 : chkTC cfgN2 F205.body = true := by kernel_rfl
theorem b205 : hasBody Tryz.prog 205 = true := by kernel_rfl
theorem c207 : compF Tryz.prog cfgN2 (polOf 207) 207 = some F207 := by kernel_rfl
theorem k207 : chkTC cfgN2 F207.body = true := by kernel_rfl
theorem b207 : hasBody Tryz.prog 207 = true := by kernel_rfl
theorem c213 : compF Tryz.prog cfgN2 (polOf 213) 213 = some F213 := by kernel_rfl
theorem k213 : chkTC cfgN2 F213.body = true := by kernel_rfl
theorem b213 : hasBody Tryz.prog 213 = true := by kernel_rfl
theorem c224 : compF Tryz.prog cfgN2 (polOf 224) 224 = some F224 := by kernel_rfl
theorem k224 : chkTC cfgN2 F224.body = true := by kernel_rfl
theorem b224 : hasBody Tryz.prog 224 = true := by kernel_rfl
theorem c225 : compF Tryz.prog cfgN2 (polOf 225) 225 = some F225 := by kernel_rfl
theorem k225 : chkTC cfgN2 F225.body = true := by kernel_rfl
theorem b225 : hasBody Tryz.prog 225 = true := by kernel_rfl
theorem c262 : compF Tryz.prog cfgN2 (polOf 262) 262 = some F262 := by kernel_rfl
theorem k262 : chkTC cfgN2 F262.body = true := by kernel_rfl
theorem b262 : hasBody Tryz.prog 262 = true := by kernel_rfl
theorem c265 : compF Tryz.prog cfgN2 (polOf 265) 265 = some F265 := by kernel_rfl
theorem k265 : chkTC cfgN2 F265.body = true := by kernel_rfl
theorem b265 : hasBody Tryz.prog 265 = true := by kernel_rfl
theorem c305 : compF Tryz.prog cfgN2 (polOf 305) 305 = some F305 := by kernel_rfl
theorem k305 : chkTC cfgN2 F305.body = true := by kernel_rfl
theorem b305 : hasBody Tryz.prog 305 = true := by kernel_rfl
theorem c323 : compF Tryz.prog cfgN2 (polOf 323) 323 = some F323 := by kernel_rfl
theorem k323 : chkTC cfgN2 F323.body = true := by kernel_rfl
theorem b323 : hasBody Tryz.prog 323 = true := by kernel_rfl
theorem c326 : compF Tryz.prog cfgN2 (polOf 326) 326 = some F326 := by kernel_rfl
theorem k326 : chkTC cfgN2 F326.body = true := by kernel_rfl
theorem b326 : hasBody Tryz.prog 326 = true := by kernel_rfl
theorem c328 : compF Tryz.prog cfgN2 (polOf 328) 328 = some F328 := by kernel_rfl
theorem k328 : chkTC cfgN2 F328.body = true := by kernel_rfl
theorem b328 : hasBody Tryz.prog 328 = true := by kernel_rfl
theorem c366 : compF Tryz.prog cfgN2 (polOf 366) 366 = some F366 := by kernel_rfl
theorem k366 : chkTC cfgN2 F366.body = true := by kernel_rfl
theorem b366 : hasBody Tryz.prog 366 = true := by kernel_rfl
theorem c367 : compF Tryz.prog cfgN2 (polOf 367) 367 = some F367 := by kernel_rfl
theorem k367 : chkTC cfgN2 F367.body = true := by kernel_rfl
theorem b367 : hasBody Tryz.prog 367 = true := by kernel_rfl
end Go.TI.Tab
end

section
set_option maxRecDepth 1000000
namespace Go.TI.Tab
open Go Go.TI
open Go.Proofs
def cfgN3 : Cfg := ⟨fun _ => none, impOf, fun _ _ => none, fun _ _ => none, fun _ _ _ => none, fun _ _ => none⟩
theorem c7 : compF Tryz.prog cfgN3 (polOf 7) 7 = some F7 := by kernel_rfl
theorem k7 : chkTC cfgN3 F7.body = true := by kernel_rfl
theorem b7 : hasBody Tryz.prog 7 = true := by kernel_rfl
theorem c8 : compF Tryz.prog cfgN3 (polOf 8) 8 = some F8 := by kernel_rfl
theorem k8 : chkTC cfgN3 F8.body = true := by kernel_rfl
theorem b8 : hasBody Tryz.prog 8 = true := by kernel_rfl
theorem c9 : compF Tryz.prog cfgN3 (polOf 9) 9 = some F9 := by kernel_rfl
theorem k9 : chkTC cfgN3 F9.body = true := by kernel_rfl
theorem b9 : hasBody Tryz.prog 9 = true := by kernel_rfl
theorem c19 : compF Tryz.prog cfgN3 (polOf 19) 19 = some F19 := by kernel_rfl
theorem k19 : chkTC cfgN3 F19.body = true := by kernel_rfl
theorem b19 : hasBody Tryz.prog 19 = true := by kernel_rfl
theorem c23 : compF Tryz.prog cfgN3 (polOf 23) 23 = some F23 := by kernel_rfl
theorem k23 : chkTC cfgN3 F23.body = true := by kernel_rfl
theorem b23 : hasBody Tryz.prog 23 = true := by kernel_rfl
theorem c27 : compF Tryz.prog cfgN3 (polOf 27) 27 = some F27 := by kernel_rfl
theorem k27 : chkTC cfgN3 F27.body = true := by kernel_rfl
theorem b27 : hasBody Tryz.prog 27 = true := by kernel_rfl
theorem c31 : compF Tryz.prog cfgN3 (polOf 31) 31 = some F31 := by kernel_rfl
theorem k31 : chkTC cfgN3 F31.body = true := by kernel_rfl
theorem b31 : hasBody Tryz.prog 31 = true := by kernel_rfl
theorem c53 : compF Tryz.prog cfgN3 (polOf 53) 53 = some F53 := by kernel_rfl
theorem k53 : chkTC cfgN3 F53.body = true := by kernel_rfl
theorem b53 : hasBody Tryz.prog 53 = true := by kernel_rfl
theorem c58 : compF Tryz.prog cfgN3 (polOf 58) 58 = some F58 := by kernel_rfl
theorem k58 : chkTC cfgN3 F58.body = true := by kernel_rfl
theorem b58 : hasBody Tryz.prog 58 = true := by kernel_rfl
theorem c59 : compF Tryz.prog cfgN3 (polOf 59) 59 = some F59 := by kernel_rfl
theorem k59 : chkTC cfgN3 F59.body = true := by kernel_rfl
theorem b59 : hasBody Tryz.prog 59 = true := by kernel_rfl
theorem c62 : compF Tryz.prog cfgN3 (polOf 62) 62 = some F62 := by kernel_rfl
theorem k62 : chkTC cfgN3 F62.body = true := by kernel_rfl
theorem b62 : hasBody Tryz.prog 62 = true := by kernel_rfl
theorem c63 : compF Tryz.prog cfgN3 (polOf 63) 63 = some F63 := by kernel_rfl
theorem k63 : chkTC cfgN3 F63.body = true := by kernel_rfl
theorem b63 : hasBody Tryz.prog 63 = true := by kernel_rfl
theorem c64 : compF Tryz.prog cfgN3 (polOf 64) 64 = some F64 := by kernel_rfl
theorem k64 : chkTC cfgN3 F64.body = true := by kernel_rfl
theorem b64 : hasBody Tryz.prog 64 = true := by kernel_rfl
theorem c66 : compF Tryz.prog cfgN3 (polOf 66) 66 = some F66 := by kernel_rfl
theorem k66 : chkTC cfgN3 F66.body = true := by kernel_rfl
theorem b66 : hasBody Tryz.prog 66 = true := by kernel_rfl
theorem c80 : compF Tryz.prog cfgN3 (polOf 80) 80 = some F80 := by kernel_rfl
theorem k80 : chkTC cfgN3 F80.body = true := by kernel_rfl
theorem b80 : hasBody Tryz.prog 80 = true := by kernel_rfl
theorem c81 : compF Tryz.prog cfgN3 (polOf 81) 81 = some F81 := by kernel_rfl
theorem k81 : chkTC cfgN3 F81.body = true := by kernel_rfl
theorem b81 : hasBody Tryz.prog 81 = true := by kernel_rfl
theorem c82 : compF Tryz.prog cfgN3 (polOf 82) 82 = some F82 := by kernel_rfl
theorem k82 : chkTC cfgN3 F82.body = true := by kernel_rfl
theorem b82 : hasBody Tryz.prog 82 = true := by kernel_rfl
theorem c92 : compF Tryz.prog cfgN3 (polOf 92) 92 = some F92 := by kernel_rfl
theorem k92 : chkTC cfgN3 F92.body = true := by kernel_rfl
theorem b92 : hasBody Tryz.prog 92 = true := by kernel_rfl
theorem c97 : compF Tryz.prog cfgN3 (polOf 97) 97 = some F97 := by kernel_rfl
theorem k97 : chkTC cfgN3 F97.body = true := by kernel_rfl
theorem b97 : hasBody Tryz.prog 97 = true := by kernel_rfl
theorem c98 : compF Tryz.prog cfgN3 (polOf 98) 98 = some F98 := by kernel_rfl
theorem k98 : chkTC cfgN3 F98.body = true := by kernel_rfl
theorem b98 : hasBody Tryz.prog 98 = true := by kernel_rfl
theorem c103 : compF Tryz.prog cfgN3 (polOf 103) 103 = some F103 := by kernel_rfl
theorem k103 : chkTC cfgN3 F103.body = true := by kernel_rfl
theorem b103 : hasBody Tryz.prog 103 = true := by kernel_rfl
theorem c104 : compF Tryz.prog cfgN3 (polOf 104) 104 = some F104 := by kernel_rfl
theorem k104 : chkTC cfgN3 F104.body = true := by kernel_rfl
theorem b104 : hasBody Tryz.prog 104 = true := by kernel_rfl
theorem c107 : compF Tryz.prog cfgN3 (polOf 107) 107 = some F107 := by kernel_rfl
theorem k107 : chkTC cfgN3 F107.body = true := by kernel_rfl
theorem b107 : hasBody Tryz.prog 107 = true := by kernel_rfl
theorem c117 : compF Tryz.prog cfgN3 (polOf 117) 117 = some F117 := by kernel_rfl
theorem k117 : chkTC cfgN3 F117.body = true := by kernel_rfl
theorem b117 : hasBody Tryz.prog 117 = true := by kernel_rfl
theorem c124 : compF Tryz.prog cfgN3 (polOf 124) 124 = some F124 := by kernel_rfl
theorem k124 : chkTC cfgN3 F124.body = true := by kernel_rfl
theorem b124 : hasBody Tryz.prog 124 = true := by kernel_rfl
theorem c130 : compF Tryz.prog cfgN3 (polOf 130) 130 = some F130 := by kernel_rfl
theorem k130 : chkTC cfgN3 F130.body = true := by kernel_rfl
theorem b130 : hasBody Tryz.prog 130 = true := by kernel_rfl
theorem c133 : compF Tryz.prog cfgN3 (polOf 133) 133 = some F133 := by kernel_rfl
theorem k133 : chkTC cfgN3 F133.body = true := by kernel_rfl
theorem b133 : hasBody Tryz.prog 133 = true := by kernel_rfl
theorem c135 : compF Tryz.prog cfgN3 (polOf 135) 135 = some F135 := by kernel_rfl
theorem k135 : chkTC cfgN3 F135.body = true := by kernel_rfl
theorem b135 : hasBody Tryz.prog 135 = true := by kernel_rfl
theorem c136 : compF Tryz.prog cfgN3 (polOf 136) 136 = some F136 := by kernel_rfl
theorem k136 : chkTC cfgN3 F136.body = true := by kernel_rfl
theorem b136 : hasBody Tryz.prog 136 = true := by kernel_rfl
theorem c138 : compF Tryz.prog cfgN3 (polOf 138) 138 = some F138 := by kernel_rfl
theorem k138 : chkTC cfgN3 F138.body = true := by kernel_rfl
theorem b138 : hasBody Tryz.prog 138 = true := by kernel_rfl
theorem c148 : compF Tryz.prog cfgN3 (polOf 148) 148 = some F148 := by kernel_rfl
theorem k148 : chkTC cfgN3 F148.body = true := by kernel_rfl
theorem b148 : hasBody Tryz.prog 148 = true := by kernel_rfl
theorem c186 : compF Tryz.prog cfgN3 (polOf 186) 186 = some F186 := by kernel_rfl
theorem k186 : chkTC cfgN3 F186.body = true := by kernel_rfl
theorem b186 : hasBody Tryz.prog 186 = true := by kernel_rfl
theorem c187 : compF Tryz.prog cfgN3 (polOf 187) 187 = some F187 := by kernel_rfl
theorem k187 : chkTC cfgN3 F187.body = true := by kernel_rfl
theorem b187 : hasBody Tryz.prog 187 = true := by kernel_rfl
theorem c188 : compF Tryz.prog cfgN3 (polOf 188) 188 = some F188 := by kernel_rfl
theorem k188 : chkTC cfgN3 F188.body = true := by kernel_rfl
theorem b188 : hasBody Tryz.prog 188 = true := by kernel_rfl
theorem c189 : compF Tryz.prog cfgN3 (polOf 189) 189 = some F189 := by kernel_rfl
theorem k189 : chkTC cfgN3 F189.body = true := by kernel_rfl
theorem b189 : hasBody Tryz.prog 189 = true := by kernel_rfl
theorem c221 : compF Tryz.prog cfgN3 (polOf 221) 221 = some F221 := by kernel_rfl
theorem k221 : chkTC cfgN3 F221.body = true := by kernel_rfl
theorem b221 : hasBody Tryz.prog 221 = true := by kernel_rfl
theorem c257 : compF Tryz.prog cfgN3 (polOf 257) 257 = some F257 := by kernel_rfl
theorem k257 : chkTC cfgN3 F257.body = true := by kernel_rfl
theorem b257 : hasBody Tryz.prog 257 = true := by kernel_rfl
theorem c263 : compF Tryz.prog cfgN3 (polOf 263) 263 = some F263 := by kernel_rfl
theorem k263 : chkTC cfgN3 F263.body = true := by kernel_rfl
theorem b263 : hasBody Tryz.prog 263 = true := by kernel_rfl
theorem c276 : compF Tryz.prog cfgN3 (polOf 276) 276 = some F276 := by kernel_rfl
theorem k276 : chkTC cfgN3 F276.body = true := by kernel_rfl
theorem b276 : hasBody Tryz.prog 276 = true := by kernel_rfl
theorem c292 : compF Tryz.prog cfgN3 (polOf 292) 292 = some F292 := by kernel_rfl
theorem k292 : chkTC cfgN3 F292.body = true := by kernel_rfl
theorem b292 : hasBody Tryz.prog 292 = true := by kernel_rfl
theorem c320 : compF Tryz.prog cfgN3 (polOf 320) 320 = some F320 := by kernel_rfl
theorem k320 : chkTC cfgN3 F320.body = true := by kernel_rfl
theorem b320 : hasBody Tryz.prog 320 = true := by kernel_rfl
theorem c322 : compF Tryz.prog cfgN3 (polOf 322) 322 = some F322 := by kernel_rfl
theorem k322 : chkTC cfgN3 F322.body = true := by kernel_rfl
theorem b322 : hasBody Tryz.prog 322 = true := by kernel_rfl
theorem c327 : compF Tryz.prog cfgN3 (polOf 327) 327 = some F327 := by kernel_rfl
theorem k327 : chkTC cfgN3 F327.body = true := by kernel_rfl
theorem b327 : hasBody Tryz.prog 327 = true := by kernel_rfl
theorem c329 : compF Tryz.prog cfgN3 (polOf 329) 329 = some F329 := by kernel_rfl
theorem k329 : chkTC cfgN3 F329.body = true := by kernel_rfl
theorem b329 : hasBody Tryz.prog 329 = true := by kernel_rfl
theorem c351 : compF Tryz.prog cfgN3 (polOf 351) 351 = some F351 := by kernel_rfl
theorem k351 : chkTC cfgN3 F351.body = true := by kernel_rfl
theorem b351 : hasBody Tryz.prog 351 = true := by kernel_rfl
theorem c369 : compF Tryz.prog cfgN3 (polOf 369) 369 = some F369 := by kernel_rfl
theorem k369 : chkTC cfgN3 F369.body = true := by kernel_rfl
theorem b369 : hasBody Tryz.prog 369 = true := by kernel_rfl
end Go.TI.Tab
end
