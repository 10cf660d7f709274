/- A part of the proof of TopPackedBest: texts TkPol to TkPol. -/
import Derived.Test.YtpnjgmfkndbllaaGreatDoorZ02
/- Which slots become objects, which callees are called in which way: chosen for this program's functions. -/
section
namespace Go.TI
open Go

def imps : List Nat := [32, 131, 135, 175, 176, 177, 178, 179, 180, 181, 182, 183, 184, 185, 186, 187, 188, 189, 190, 191, 192, 193, 194, 244, 247, 249, 251, 256, 257, 262, 264, 267, 276, 278, 281, 284, 322, 326, 367]
def impOf (f : Nat) : Bool := imps.contains f
def clones : List Nat := [8, 12, 19, 38, 89, 90, 91, 92, 93, 94, 95, 96, 97, 98, 99, 100, 112]

def polBase : Pol := { obj := fun _ => false, cl := fun _ => false, ip := fun _ => false }
def polOf (K : Nat) : Pol :=
  if clones.contains K then polClone
  else match K with
  | 3 => { polBase with obj := fun s => s == 80 || s == 152, cons := fun f => f == 10 }
  | 9 => { polBase with obj := fun s => s == 26 }
  | 32 => { polBase with obj := fun s => s == 40 || s == 89 || s == 91 || s == 98, poke := fun i => i == 7 || i == 10 || i == 14 || i == 17 }
  | 54 => { polBase with obj := fun s => s == 17 || s == 75 || s == 114, cl := (fun f => clones.contains f), free := fun i => if i == 2 then ((List.range 32).map fun j => j == 13 || j == 18 || j == 23 || j == 28) else if i == 15 then ((List.range 16).map fun j => j == 4 || j == 7) else [] }
  | 55 => { polBase with ip := fun f => f == 54, free := fun i => if i == 8 then ((List.range 5).map fun j => j == 3) else [] }
  | 59 => { polBase with cl := fun f => f == 112 }
  | 108 => { polBase with obj := fun s => s == 31 }
  | 110 => { polBase with obj := fun s => s == 9, cl := fun f => f == 8 }
  | 115 => { polBase with obj := fun s => s == 15 }
  | 131 => { polBase with poke := fun i => i == 9 }
  | 135 => { polBase with yl := fun s => s == 22 }
  | 183 => { polBase with obj := fun s => s == 29 }
  | 184 => { polBase with cons := fun f => f == 259 }
  | 185 => { polBase with cons := fun f => f == 261, bad := fun i => i == 6 }
  | 233 => { polBase with bad := fun i => i == 1 }
  | 246 => { polBase with bad := fun i => i == 2 }
  | 250 => { polBase with cl := fun f => f == 93 }
  | 266 => { polBase with cl := fun f => f == 96 }
  | 275 => { polBase with cl := fun f => f == 97 }
  | 280 => { polBase with bad := fun i => i == 8 }
  | 322 => { polBase with obj := fun s => s == 6, cl := fun f => clones.contains f }
  | 323 => { polBase with cl := fun f => f == 94 }
  | 325 => { polBase with cl := fun f => f == 19, ip := fun f => f == 81 }
  | 331 => { polBase with obj := fun s => s == 41, cl := fun f => f == 96 }
  | 336 => { polBase with cl := fun f => clones.contains f }
  | _ => polBase
end Go.TI
end
