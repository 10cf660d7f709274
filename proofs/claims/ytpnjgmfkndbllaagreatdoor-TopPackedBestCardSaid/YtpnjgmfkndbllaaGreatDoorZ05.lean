/- A part of the proof of TopPackedBest: texts TkFact0 to TkFact1. -/
import Derived.Test.YtpnjgmfkndbllaaGreatDoorZ04
import Derived.Test.YtpnjgmfkndbllaaGreatDoorProg
section
set_option maxRecDepth 1000000
namespace Go.TI.Tab
open Go Go.TI
open Go.Proofs
def cfgN0 : Cfg := ⟨fun _ => none, impOf, fun _ _ => none, fun _ _ => none, fun _ _ _ => none, fun _ _ => none⟩
theorem c3 : compF Tryz.prog cfgN0 (polOf 3) 3 = some F3 := by kernel_rfl
theorem k3 : chkTC cfgN0 F3.body = true := by kernel_rfl
theorem b3 : hasBody Tryz.prog 3 = true := by kernel_rfl
theorem c5 : compF Tryz.prog cfgN0 (polOf 5) 5 = some F5 := by kernel_rfl
theorem k5 : chkTC cfgN0 F5.body = true := by kernel_rfl
theorem b5 : hasBody Tryz.prog 5 = true := by kernel_rfl
theorem c11 : compF Tryz.prog cfgN0 (polOf 11) 11 = some F11 := by kernel_rfl
theorem k11 : chkTC cfgN0 F11.body = true := by kernel_rfl
theorem b11 : hasBody Tryz.prog 11 = true := by kernel_rfl
theorem c30 : compF Tryz.prog cfgN0 (polOf 30) 30 = some F30 := by kernel_rfl
theorem k30 : chkTC cfgN0 F30.body = true := by kernel_rfl
theorem b30 : hasBody Tryz.prog 30 = true := by kernel_rfl
theorem c34 : compF Tryz.prog cfgN0 (polOf 34) 34 = some F34 := by kernel_rfl
theorem k34 : chkTC cfgN0 F34.body = true := by kernel_rfl
theorem b34 : hasBody Tryz.prog 34 = true := by kernel_rfl
theorem c38 : compF Tryz.prog cfgN0 (polOf 38) 38 = some F38 := by kernel_rfl
theorem k38 : chkTC cfgN0 F38.body = true := by kernel_rfl
theorem b38 : hasBody Tryz.prog 38 = true := by kernel_rfl
theorem c39 : compF Tryz.prog cfgN0 (polOf 39) 39 = some F39 := by kernel_rfl
theorem k39 : chkTC cfgN0 F39.body = true := by kernel_rfl
theorem b39 : hasBody Tryz.prog 39 = true := by kernel_rfl
theorem c43 : compF Tryz.prog cfgN0 (polOf 43) 43 = some F43 := by kernel_rfl
theorem k43 : chkTC cfgN0 F43.body = true := by kernel_rfl
theorem b43 : hasBody Tryz.prog 43 = true := by kernel_rfl
theorem c50 : compF Tryz.prog cfgN0 (polOf 50) 50 = some F50 := by kernel_rfl
theorem k50 : chkTC cfgN0 F50.body = true := by kernel_rfl
theorem b50 : hasBody Tryz.prog 50 = true := by kernel_rfl
theorem c52 : compF Tryz.prog cfgN0 (polOf 52) 52 = some F52 := by kernel_rfl
theorem k52 : chkTC cfgN0 F52.body = true := by kernel_rfl
theorem b52 : hasBody Tryz.prog 52 = true := by kernel_rfl
theorem c61 : compF Tryz.prog cfgN0 (polOf 61) 61 = some F61 := by kernel_rfl
theorem k61 : chkTC cfgN0 F61.body = true := by kernel_rfl
theorem b61 : hasBody Tryz.prog 61 = true := by kernel_rfl
theorem c67 : compF Tryz.prog cfgN0 (polOf 67) 67 = some F67 := by kernel_rfl
theorem k67 : chkTC cfgN0 F67.body = true := by kernel_rfl
theorem b67 : hasBody Tryz.prog 67 = true := by kernel_rfl
theorem c68 : compF Tryz.prog cfgN0 (polOf 68) 68 = some F68 := by kernel_rfl
theorem k68 : chkTC cfgN0 F68.body = true := by kernel_rfl
theorem b68 : hasBody Tryz.prog 68 = true := by kernel_rfl
theorem c74 : compF Tryz.prog cfgN0 (polOf 74) 74 = some F74 := by kernel_rfl
theorem k74 : chkTC cfgN0 F74.body = true := by kernel_rfl
theorem b74 : hasBody Tryz.prog 74 = true := by kernel_rfl
theorem c78 : compF Tryz.prog cfgN0 (polOf 78) 78 = some F78 := by kernel_rfl
theorem k78 : chkTC cfgN0 F78.body = true := by kernel_rfl
theorem b78 : hasBody Tryz.prog 78 = true := by kernel_rfl
theorem c86 : compF Tryz.prog cfgN0 (polOf 86) 86 = some F86 := by kernel_rfl
theorem k86 : chkTC cfgN0 F86.body = true := by kernel_rfl
theorem b86 : hasBody Tryz.prog 86 = true := by kernel_rfl
theorem c91 : compF Tryz.prog cfgN0 (polOf 91) 91 = some F91 := by kernel_rfl
theorem k91 : chkTC cfgN0 F91.body = true := by kernel_rfl
theorem b91 : hasBody Tryz.prog 91 = true := by kernel_rfl
theorem c93 : compF Tryz.prog cfgN0 (polOf 93) 93 = some F93 := by kernel_rfl
theorem k93 : chkTC cfgN0 F93.body = true := by kernel_rfl
theorem b93 : hasBody Tryz.prog 93 = true := by kernel_rfl
theorem c99 : compF Tryz.prog cfgN0 (polOf 99) 99 = some F99 := by kernel_rfl
theorem k99 : chkTC cfgN0 F99.body = true := by kernel_rfl
theorem b99 : hasBody Tryz.prog 99 = true := by kernel_rfl
theorem c111 : compF Tryz.prog cfgN0 (polOf 111) 111 = some F111 := by kernel_rfl
theorem k111 : chkTC cfgN0 F111.body = true := by kernel_rfl
theorem b111 : hasBody Tryz.prog 111 = true := by kernel_rfl
theorem c115 : compF Tryz.prog cfgN0 (polOf 115) 115 = some F115 := by kernel_rfl
theorem k115 : chkTC cfgN0 F115.body = true := by kernel_rfl
theorem b115 : hasBody Tryz.prog 115 = true := by kernel_rfl
theorem c125 : compF Tryz.prog cfgN0 (polOf 125) 125 = some F125 := by kernel_rfl
theorem k125 : chkTC cfgN0 F125.body = true := by kernel_rfl
theorem b125 : hasBody Tryz.prog 125 = true := by kernel_rfl
theorem c127 : compF Tryz.prog cfgN0 (polOf 127) 127 = some F127 := by kernel_rfl
theorem k127 : chkTC cfgN0 F127.body = true := by kernel_rfl
theorem b127 : hasBody Tryz.prog 127 = true := by kernel_rfl
theorem c131 : compF Tryz.prog cfgN0 (polOf 131) 131 = some F131 := by kernel_rfl
theorem k131 : chkTC cfgN0 F131.body = true := by kernel_rfl
theorem b131 : hasBody Tryz.prog 131 = true := by kernel_rfl
theorem c141 : compF Tryz.prog cfgN0 (polOf 141) 141 = some F141 := by kernel_rfl
theorem k141 : chkTC cfgN0 F141.body = true := by kernel_rfl
theorem b141 : hasBody Tryz.prog 141 = true := by kernel_rfl
theorem c151 : compF Tryz.prog cfgN0 (polOf 151) 151 = some F151 := by kernel_rfl
theorem k151 : chkTC cfgN0 F151.body = true := by kernel_rfl
theorem b151 : hasBody Tryz.prog 151 = true := by kernel_rfl
theorem c155 : compF Tryz.prog cfgN0 (polOf 155) 155 = some F155 := by kernel_rfl
theorem k155 : chkTC cfgN0 F155.body = true := by kernel_rfl
theorem b155 : hasBody Tryz.prog 155 = true := by kernel_rfl
theorem c183 : compF Tryz.prog cfgN0 (polOf 183) 183 = some F183 := by kernel_rfl
theorem k183 : chkTC cfgN0 F183.body = true := by kernel_rfl
theorem b183 : hasBody Tryz.prog 183 = true := by kernel_rfl
theorem c184 : compF Tryz.prog cfgN0 (polOf 184) 184 = some F184 := by kernel_rfl
theorem k184 : chkTC cfgN0 F184.body = true := by kernel_rfl
theorem b184 : hasBody Tryz.prog 184 = true := by kernel_rfl
theorem c206 : compF Tryz.prog cfgN0 (polOf 206) 206 = some F206 := by kernel_rfl
theorem k206 : chkTC cfgN0 F206.body = true := by kernel_rfl
theorem b206 : hasBody Tryz.prog 206 = true := by kernel_rfl
theorem c211 : compF Tryz.prog cfgN0 (polOf 211) 211 = some F211 := by kernel_rfl
theorem k211 : chkTC cfgN0 F211.body = true := by kernel_rfl
theorem b211 : hasBody Tryz.prog 211 = true := by kernel_rfl
theorem c226 : compF Tryz.prog cfgN0 (polOf 226) 226 = some F226 := by kernel_rfl
theorem k226 : chkTC cfgN0 F226.body = true := by kernel_rfl
theorem b226 : hasBody Tryz.prog 226 = true := by kernel_rfl
theorem c227 : compF Tryz.prog cfgN0 (polOf 227) 227 = some F227 := by kernel_rfl
theorem k227 : chkTC cfgN0 F227.body = true := by kernel_rfl
theorem b227 : hasBody Tryz.prog 227 = true := by kernel_rfl
theorem c260 : compF Tryz.prog cfgN0 (polOf 260) 260 = some F260 := by kernel_rfl
theorem k260 : chkTC cfgN0 F260.body = true := by kernel_rfl
theorem b260 : hasBody Tryz.prog 260 = true := by kernel_rfl
theorem c267 : compF Tryz.prog cfgN0 (polOf 267) 267 = some F267 := by kernel_rfl
theorem k267 : chkTC cfgN0 F267.body = true := by kernel_rfl
theorem b267 : hasBody Tryz.prog 267 = true := by kernel_rfl
theorem c268 : compF Tryz.prog cfgN0 (polOf 268) 268 = some F268 := by kernel_rfl
theorem k268 : chkTC cfgN0 F268.body = true := by kernel_rfl
theorem b268 : hasBody Tryz.prog 268 = true := by kernel_rfl
theorem c269 : compF Tryz.prog cfgN0 (polOf 269) 269 = some F269 := by kernel_rfl
theorem k269 : chkTC cfgN0 F269.body = true := by kernel_rfl
theorem b269 : hasBody Tryz.prog 269 = true := by kernel_rfl
theorem c270 : compF Tryz.prog cfgN0 (polOf 270) 270 = some F270 := by kernel_rfl
theorem k270 : chkTC cfgN0 F270.body = true := by kernel_rfl
theorem b270 : hasBody Tryz.prog 270 = true := by kernel_rfl
theorem c272 : compF Tryz.prog cfgN0 (polOf 272) 272 = some F272 := by kernel_rfl
theorem k272 : chkTC cfgN0 F272.body = true := by kernel_rfl
theorem b272 : hasBody Tryz.prog 272 = true := by kernel_rfl
theorem c286 : compF Tryz.prog cfgN0 (polOf 286) 286 = some F286 := by kernel_rfl
theorem k286 : chkTC cfgN0 F286.body = true := by kernel_rfl
theorem b286 : hasBody Tryz.prog 286 = true := by kernel_rfl
theorem c304 : compF Tryz.prog cfgN0 (polOf 304) 304 = some F304 := by kernel_rfl
theorem k304 : chkTC cfgN0 F304.body = true := by kernel_rfl
theorem b304 : hasBody Tryz.prog 304 = true := by kernel_rfl
theorem c306 : compF Tryz.prog cfgN0 (polOf 306) 306 = some F306 := by kernel_rfl
theorem k306 : chkTC cfgN0 F306.body = true := by kernel_rfl
theorem b306 : hasBody Tryz.prog 306 = true := by kernel_rfl
theorem c325 : compF Tryz.prog cfgN0 (polOf 325) 325 = some F325 := by kernel_rfl
theorem k325 : chkTC cfgN0 F325.body = true := by kernel_rfl
theorem b325 : hasBody Tryz.prog 325 = true := by kernel_rfl
theorem c331 : compF Tryz.prog cfgN0 (polOf 331) 331 = some F331 := by kernel_rfl
theorem k331 : chkTC cfgN0 F331.body = true := by kernel_rfl
theorem b331 : hasBody Tryz.prog 331 = true := by kernel_rfl
theorem c365 : compF Tryz.prog cfgN0 (polOf 365) 365 = some F365 := by kernel_rfl
theorem k365 : chkTC cfgN0 F365.body = true := by kernel_rfl
theorem b365 : hasBody Tryz.prog 365 = true := by kernel_rfl
theorem c370 : compF Tryz.prog cfgN0 (polOf 370) 370 = some F370 := by kernel_rfl
theorem k370 : chkTC cfgN0 F370.body = true := by kernel_rfl
theorem b370 : hasBody Tryz.prog 370 = true := by kernel_rfl
end Go.TI.Tab
end

section
set_option maxRecDepth 1000000
namespace Go.TI.Tab
open Go Go.TI
open Go.Proofs
def cfgN1 : Cfg := ⟨fun _ => none, impOf, fun _ _ => none, fun _ _ => none, fun _ _ _ => none, fun _ _ => none⟩
theorem c6 : compF Tryz.prog cfgN1 (polOf 6) 6 = some F6 := by kernel_rfl
theorem k6 : chkTC cfgN1 F6.body = true := by kernel_rfl
theorem b6 : hasBody Tryz.prog 6 = true := by kernel_rfl
theorem c12 : compF Tryz.prog cfgN1 (polOf 12) 12 = some F12 := by kernel_rfl
theorem k12 : chkTC cfgN1 F12.body = true := by kernel_rfl
theorem b12 : hasBody Tryz.prog 12 = true := by kernel_rfl
theorem c21 : compF Tryz.prog cfgN1 (polOf 21) 21 = some F21 := by kernel_rfl
theorem k21 : chkTC cfgN1 F21.body = true := by kernel_rfl
theorem b21 : hasBody Tryz.prog 21 = true := by kernel_rfl
theorem c26 : compF Tryz.prog cfgN1 (polOf 26) 26 = some F26 := by kernel_rfl
theorem k26 : chkTC cfgN1 F26.body = true := by kernel_rfl
theorem b26 : hasBody Tryz.prog 26 = true := by kernel_rfl
theorem c28 : compF Tryz.prog cfgN1 (polOf 28) 28 = some F28 := by kernel_rfl
theorem k28 : chkTC cfgN1 F28.body = true := by kernel_rfl
theorem b28 : hasBody Tryz.prog 28 = true := by kernel_rfl
theorem c32 : compF Tryz.prog cfgN1 (polOf 32) 32 = some F32 := by kernel_rfl
theorem k32 : chkTC cfgN1 F32.body = true := by kernel_rfl
theorem b32 : hasBody Tryz.prog 32 = true := by kernel_rfl
theorem c33 : compF Tryz.prog cfgN1 (polOf 33) 33 = some F33 := by kernel_rfl
theorem k33 : chkTC cfgN1 F33.body = true := by kernel_rfl
theorem b33 : hasBody Tryz.prog 33 = true := by kernel_rfl
theorem c46 : compF Tryz.prog cfgN1 (polOf 46) 46 = some F46 := by kernel_rfl
theorem k46 : chkTC cfgN1 F46.body = true := by kernel_rfl
theorem b46 : hasBody Tryz.prog 46 = true := by kernel_rfl
theorem c48 : compF Tryz.prog cfgN1 (polOf 48) 48 = some F48 := by kernel_rfl
theorem k48 : chkTC cfgN1 F48.body = true := by kernel_rfl
theorem b48 : hasBody Tryz.prog 48 = true := by kernel_rfl
theorem c57 : compF Tryz.prog cfgN1 (polOf 57) 57 = some F57 := by kernel_rfl
theorem k57 : chkTC cfgN1 F57.body = true := by kernel_rfl
theorem b57 : hasBody Tryz.prog 57 = true := by kernel_rfl
theorem c60 : compF Tryz.prog cfgN1 (polOf 60) 60 = some F60 := by kernel_rfl
theorem k60 : chkTC cfgN1 F60.body = true := by kernel_rfl
theorem b60 : hasBody Tryz.prog 60 = true := by kernel_rfl
theorem c73 : compF Tryz.prog cfgN1 (polOf 73) 73 = some F73 := by kernel_rfl
theorem k73 : chkTC cfgN1 F73.body = true := by kernel_rfl
theorem b73 : hasBody Tryz.prog 73 = true := by kernel_rfl
theorem c75 : compF Tryz.prog cfgN1 (polOf 75) 75 = some F75 := by kernel_rfl
theorem k75 : chkTC cfgN1 F75.body = true := by kernel_rfl
theorem b75 : hasBody Tryz.prog 75 = true := by kernel_rfl
theorem c79 : compF Tryz.prog cfgN1 (polOf 79) 79 = some F79 := by kernel_rfl
theorem k79 : chkTC cfgN1 F79.body = true := by kernel_rfl
theorem b79 : hasBody Tryz.prog 79 = true := by kernel_rfl
theorem c83 : compF Tryz.prog cfgN1 (polOf 83) 83 = some F83 := by kernel_rfl
theorem k83 : chkTC cfgN1 F83.body = true := by kernel_rfl
theorem b83 : hasBody Tryz.prog 83 = true := by kernel_rfl
theorem c94 : compF Tryz.prog cfgN1 (polOf 94) 94 = some F94 := by kernel_rfl
theorem k94 : chkTC cfgN1 F94.body = true := by kernel_rfl
theorem b94 : hasBody Tryz.prog 94 = true := by kernel_rfl
theorem c102 : compF Tryz.prog cfgN1 (polOf 102) 102 = some F102 := by kernel_rfl
theorem k102 : chkTC cfgN1 F102.body = true := by kernel_rfl
theorem b102 : hasBody Tryz.prog 102 = true := by kernel_rfl
theorem c112 : compF Tryz.prog cfgN1 (polOf 112) 112 = some F112 := by kernel_rfl
theorem k112 : chkTC cfgN1 F112.body = true := by kernel_rfl
theorem b112 : hasBody Tryz.prog 112 = true := by kernel_rfl
theorem c113 : compF Tryz.prog cfgN1 (polOf 113) 113 = some F113 := by kernel_rfl
theorem k113 : chkTC cfgN1 F113.body = true := by kernel_rfl
theorem b113 : hasBody Tryz.prog 113 = true := by kernel_rfl
theorem c114 : compF Tryz.prog cfgN1 (polOf 114) 114 = some F114 := by kernel_rfl
theorem k114 : chkTC cfgN1 F114.body = true := by kernel_rfl
theorem b114 : hasBody Tryz.prog 114 = true := by kernel_rfl
theorem c118 : compF Tryz.prog cfgN1 (polOf 118) 118 = some F118 := by kernel_rfl
theorem k118 : chkTC cfgN1 F118.body = true := by kernel_rfl
theorem b118 : hasBody Tryz.prog 118 = true := by kernel_rfl
theorem c119 : compF Tryz.prog cfgN1 (polOf 119) 119 = some F119 := by kernel_rfl
theorem k119 : chkTC cfgN1 F119.body = true := by kernel_rfl
theorem b119 : hasBody Tryz.prog 119 = true := by kernel_rfl
theorem c134 : compF Tryz.prog cfgN1 (polOf 134) 134 = some F134 := by kernel_rfl
theorem k134 : chkTC cfgN1 F134.body = true := by kernel_rfl
theorem b134 : hasBody Tryz.prog 134 = true := by kernel_rfl
theorem c137 : compF Tryz.prog cfgN1 (polOf 137) 137 = some F137 := by kernel_rfl
theorem k137 : chkTC cfgN1 F137.body = true := by kernel_rfl
theorem b137 : hasBody Tryz.prog 137 = true := by kernel_rfl
theorem c139 : compF Tryz.prog cfgN1 (polOf 139) 139 = some F139 := by kernel_rfl
theorem k139 : chkTC cfgN1 F139.body = true := by kernel_rfl
theorem b139 : hasBody Tryz.prog 139 = true := by kernel_rfl
theorem c140 : compF Tryz.prog cfgN1 (polOf 140) 140 = some F140 := by kernel_rfl
theorem k140 : chkTC cfgN1 F140.body = true := by kernel_rfl
theorem b140 : hasBody Tryz.prog 140 = true := by kernel_rfl
theorem c142 : compF Tryz.prog cfgN1 (polOf 142) 142 = some F142 := by kernel_rfl
theorem k142 : chkTC cfgN1 F142.body = true := by kernel_rfl
theorem b142 : hasBody Tryz.prog 142 = true := by kernel_rfl
theorem c150 : compF Tryz.prog cfgN1 (polOf 150) 150 = some F150 := by kernel_rfl
theorem k150 : chkTC cfgN1 F150.body = true := by kernel_rfl
theorem b150 : hasBody Tryz.prog 150 = true := by kernel_rfl
theorem c153 : compF Tryz.prog cfgN1 (polOf 153) 153 = some F153 := by kernel_rfl
theorem k153 : chkTC cfgN1 F153.body = true := by kernel_rfl
theorem b153 : hasBody Tryz.prog 153 = true := by kernel_rfl
theorem c163 : compF Tryz.prog cfgN1 (polOf 163) 163 = some F163 := by kernel_rfl
theorem k163 : chkTC cfgN1 F163.body = true := by kernel_rfl
theorem b163 : hasBody Tryz.prog 163 = true := by kernel_rfl
theorem c164 : compF Tryz.prog cfgN1 (polOf 164) 164 = some F164 := by kernel_rfl
theorem k164 : chkTC cfgN1 F164.body = true := by kernel_rfl
theorem b164 : hasBody Tryz.prog 164 = true := by kernel_rfl
theorem c201 : compF Tryz.prog cfgN1 (polOf 201) 201 = some F201 := by kernel_rfl
theorem k201 : chkTC cfgN1 F201.body = true := by kernel_rfl
theorem b201 : hasBody Tryz.prog 201 = true := by kernel_rfl
theorem c210 : compF Tryz.prog cfgN1 (polOf 210) 210 = some F210 := by kernel_rfl
theorem k210 : chkTC cfgN1 F210.body = true := by kernel_rfl
theorem b210 : hasBody Tryz.prog 210 = true := by kernel_rfl
theorem c220 : compF Tryz.prog cfgN1 (polOf 220) 220 = some F220 := by kernel_rfl
theorem k220 : chkTC cfgN1 F220.body = true := by kernel_rfl
theorem b220 : hasBody Tryz.prog 220 = true := by kernel_rfl
theorem c222 : compF Tryz.prog cfgN1 (polOf 222) 222 = some F222 := by kernel_rfl
theorem k222 : chkTC cfgN1 F222.body = true := by kernel_rfl
theorem b222 : hasBody Tryz.prog 222 = true := by kernel_rfl
theorem c243 : compF Tryz.prog cfgN1 (polOf 243) 243 = some F243 := by kernel_rfl
theorem k243 : chkTC cfgN1 F243.body = true := by kernel_rfl
theorem b243 : hasBody Tryz.prog 243 = true := by kernel_rfl
theorem c258 : compF Tryz.prog cfgN1 (polOf 258) 258 = some F258 := by kernel_rfl
theorem k258 : chkTC cfgN1 F258.body = true := by kernel_rfl
theorem b258 : hasBody Tryz.prog 258 = true := by kernel_rfl
theorem c259 : compF Tryz.prog cfgN1 (polOf 259) 259 = some F259 := by kernel_rfl
theorem k259 : chkTC cfgN1 F259.body = true := by kernel_rfl
theorem b259 : hasBody Tryz.prog 259 = true := by kernel_rfl
theorem c264 : compF Tryz.prog cfgN1 (polOf 264) 264 = some F264 := by kernel_rfl
theorem k264 : chkTC cfgN1 F264.body = true := by kernel_rfl
theorem b264 : hasBody Tryz.prog 264 = true := by kernel_rfl
theorem c266 : compF Tryz.prog cfgN1 (polOf 266) 266 = some F266 := by kernel_rfl
theorem k266 : chkTC cfgN1 F266.body = true := by kernel_rfl
theorem b266 : hasBody Tryz.prog 266 = true := by kernel_rfl
theorem c271 : compF Tryz.prog cfgN1 (polOf 271) 271 = some F271 := by kernel_rfl
theorem k271 : chkTC cfgN1 F271.body = true := by kernel_rfl
theorem b271 : hasBody Tryz.prog 271 = true := by kernel_rfl
theorem c275 : compF Tryz.prog cfgN1 (polOf 275) 275 = some F275 := by kernel_rfl
theorem k275 : chkTC cfgN1 F275.body = true := by kernel_rfl
theorem b275 : hasBody Tryz.prog 275 = true := by kernel_rfl
theorem c290 : compF Tryz.prog cfgN1 (polOf 290) 290 = some F290 := by kernel_rfl
theorem k290 : chkTC cfgN1 F290.body = true := by kernel_rfl
theorem b290 : hasBody Tryz.prog 290 = true := by kernel_rfl
theorem c321 : compF Tryz.prog cfgN1 (polOf 321) 321 = some F321 := by kernel_rfl
theorem k321 : chkTC cfgN1 F321.body = true := by kernel_rfl
theorem b321 : hasBody Tryz.prog 321 = true := by kernel_rfl
theorem c330 : compF Tryz.prog cfgN1 (polOf 330) 330 = some F330 := by kernel_rfl
theorem k330 : chkTC cfgN1 F330.body = true := by kernel_rfl
theorem b330 : hasBody Tryz.prog 330 = true := by kernel_rfl
theorem c401 : compF Tryz.prog cfgN1 (polOf 401) 401 = some F401 := by kernel_rfl
theorem k401 : chkTC cfgN1 F401.body = true := by kernel_rfl
theorem b401 : hasBody Tryz.prog 401 = true := by kernel_rfl
end Go.TI.Tab
end
