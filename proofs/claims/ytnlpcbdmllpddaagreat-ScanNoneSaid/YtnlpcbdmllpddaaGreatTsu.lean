import Derived.Test.YtnlpcbdmllpddaaGreatTsa
import Derived.Test.YtnlpcbdmllpddaaGreatTsb
import Derived.Test.YtnlpcbdmllpddaaGreatTsc
import Derived.Test.YtnlpcbdmllpddaaGreatTsd
import Derived.Test.YtnlpcbdmllpddaaGreatTse
import Derived.Test.YtnlpcbdmllpddaaGreatTsf
import Derived.Test.YtnlpcbdmllpddaaGreatTsg
import Derived.Test.YtnlpcbdmllpddaaGreatTsh
import Derived.Test.YtnlpcbdmllpddaaGreatTsi
import Derived.Test.YtnlpcbdmllpddaaGreatTsj
import Derived.Test.YtnlpcbdmllpddaaGreatTsk
import Derived.Test.YtnlpcbdmllpddaaGreatTsl
import Derived.Test.YtnlpcbdmllpddaaGreatTsm
import Derived.Test.YtnlpcbdmllpddaaGreatTsn
import Derived.Test.YtnlpcbdmllpddaaGreatTso
import Derived.Test.YtnlpcbdmllpddaaGreatTsp
import Derived.Test.YtnlpcbdmllpddaaGreatTsq
import Derived.Test.YtnlpcbdmllpddaaGreatTsr
import Derived.Test.YtnlpcbdmllpddaaGreatTss
import Derived.Test.YtnlpcbdmllpddaaGreatTst
import Derived.KernelRfl
import Derived.Test.YtnlpcbdmllpddaaGreatChecked
section
/- What a closed call yields, and the memory behind it: fusee/scan.Step. -/
namespace Go.Proofs.YtnlpcbdmllpddaaGreat
open Go SE
set_option maxRecDepth 100000
noncomputable section
def sSG9V : AV := (AV.agg [(i64 6), (AV.lit (Value.string (bs [98]))), (AV.lit (Value.string (bs []))), (AV.lit (Value.string (bs []))), (AV.lit (Value.slice none 0 0)), (i64 6), (u64 1), (AV.lit (Value.string (bs [98]))), (AV.lit (Value.bool true)), (i64 1), (AV.lit (Value.bool true)), (AV.lit (Value.string (bs [98]))), (u64 2), (u64 2), (i64 3), (i64 0), (i64 (-0 - 1)), (i64 0), (i64 1), (AV.lit (Value.slice none 0 0)), (i64 0), (AV.lit (Value.slice none 0 0)), (i64 0), (AV.lit (Value.bool false)), (AV.lit (Value.string (bs []))), (AV.slU 2 0 1 2), (AV.lit (Value.slice none 0 0)), (u64 0)])
def sSG9O : List AObj := [
(AObj.cells 117 (Cs.av [(AV.ptr 1 0), (AV.ptr 2 0), (AV.ptr 3 0), (AV.ptr 4 0), (AV.ptr 5 0), (AV.ptr 6 0), (AV.ptr 7 0), (AV.ptr 8 0), (u64 2), (u64 2), (AV.slU 9 0 2 7)])),
(AObj.cells 152 (Cs.av [(AV.ptr 10 0), (AV.lit (Value.int IntKind.u32 1)), (AV.lit (Value.int IntKind.i32 0)), (AV.lit (Value.int IntKind.u32 0))])),
(AObj.cells 289 (Cs.av [(AV.sl 11 0 1 1)])),
(AObj.cells 204 (Cs.av [(u64 1), (AV.sl 12 0 1 1)])),
(AObj.cells 201 (Cs.av ([(u64 1), (u64 0), (u64 0), (AV.sl 13 0 1 1), (AV.lit (Value.bool false)), (AV.lit (Value.bool false)), (AV.lit (Value.bool true)), (AV.lit (Value.bool true))] ++ List.replicate 512 (AV.lit (Value.bool false)) ++ [(AV.lit Value.nilFunc)]))),
(AObj.cells 247 (Cs.av [(AV.lit (Value.slice none 0 0))])),
(AObj.cells 269 (Cs.av [(AV.mp 14), (AV.mp 15), (AV.mp 16), (AV.mp 17), (AV.mp 18), (AV.mp 19), (AV.mp 20), (AV.mp 21)])),
(AObj.cells 298 (Cs.av [(AV.slU 22 0 2 5), (AV.slU 23 0 1 5), (AV.slU 24 0 1 5), (AV.slU 25 0 1 5)])),
(AObj.cells 279 (Cs.av [(AV.lit (Value.slice none 0 0)), (i64 0), (i64 0)])),
(AObj.room 155 (Cs.av [(i64 1), (AV.lit (Value.string (bs [97]))), (AV.lit (Value.string (bs [49]))), (u64 1), (u64 1), (u64 1), (i64 1), (i64 1), (AV.lit (Value.string (bs [98]))), (AV.lit (Value.string (bs [50]))), (u64 2), (u64 2), (u64 1), (i64 2)])),
(AObj.cells 218 (Cs.av [(AV.sl 26 0 10 10), (i64 6), (i64 2), (i64 1), (i64 0), (i64 0)])),
(AObj.cells 261 (Cs.tr 10 [(i64 0), (AV.lit (Value.bool false)), (AV.lit (Value.bool false)), (AV.lit (Value.bool false)), (AV.lit (Value.bool false)), (AV.lit (Value.bool false)), (AV.lit (Value.bool false)), (AV.lit (Value.bool false)), (AV.lit (Value.bool false)), (i64 0)] (PM.node (PM.node PM.leaf (some (AV.lit (Value.bool true))) (PM.node (PM.node PM.leaf (some (i64 2)) PM.leaf) none PM.leaf)) (some (i64 0)) (PM.node PM.leaf (some (AV.lit (Value.bool true))) PM.leaf)))),
(AObj.cells 115 (Cs.tr 1 [(u64 0)] (PM.node PM.leaf (some (u64 1)) PM.leaf))),
(AObj.cells 3 (Cs.tr 1 [(i64 0)] (PM.node PM.leaf (some (i64 2)) PM.leaf))),
(AObj.map [] 0),
(AObj.map [((AV.lit (Value.string (bs [98]))), ((AV.agg [(AV.lit (Value.string (bs [98]))), (u64 2), (u64 2), (i64 3), (i64 0)]), 0))] 1),
(AObj.map [] 0),
(AObj.map [((AV.lit (Value.string (bs [97]))), ((AV.agg [(AV.lit (Value.string (bs [97]))), (u64 1), (u64 1), (i64 2), (i64 0)]), 0))] 1),
(AObj.map [] 0),
(AObj.map [] 0),
(AObj.map [] 0),
(AObj.map [] 0),
(AObj.room 31 (Cs.av [(AV.lit (Value.string (bs [97]))), (u64 1), (u64 1), (i64 2), (i64 0), (AV.lit (Value.string (bs [98]))), (u64 2), (u64 2), (i64 3), (i64 0)])),
(AObj.room 31 (Cs.av [(AV.lit (Value.string (bs [97]))), (u64 1), (u64 1), (i64 2), (i64 0)])),
(AObj.room 31 (Cs.av [(AV.lit (Value.string (bs [97]))), (u64 1), (u64 1), (i64 2), (i64 0)])),
(AObj.room 31 (Cs.av [(AV.lit (Value.string (bs [97]))), (u64 1), (u64 1), (i64 2), (i64 0)])),
(AObj.cells 253 (Cs.tr 1930 (List.replicate 192 (AV.lit (v8 0)) ++ [(AV.lit (Value.bool false))]) (N8 (N8 (N8 (N8 (N8 (N8 (N8 (N8 (L8 0) 0 (N8 (L8 0) 0 PM.leaf)) 0 (N8 (L8 0) 0 (L8 0))) 0 (N8 (N8 (L8 0) 0 (L8 0)) 0 (N8 (N8 (L8 0) 0 PM.leaf) 0 PM.leaf))) 0 (N8 (N8 (N8 (L8 0) 0 (L8 0)) 0 (N8 (N8 (L8 0) 0 PM.leaf) 0 PM.leaf)) 0 (N8 (N8 (L8 0) 0 (L8 0)) 0 (N8 (N8 (L8 0) 0 PM.leaf) 0 PM.leaf)))) 0 (N8 (N8 (N8 (N8 (L8 0) 0 (L8 0)) 0 (N8 (N8 (L8 1) 0 PM.leaf) 0 PM.leaf)) 0 (N8 (N8 (L8 0) 0 (L8 49)) 0 (N8 (N8 (L8 98) 0 PM.leaf) 0 PM.leaf))) 0 (N8 (N8 (N8 (L8 0) 0 (L8 0)) 0 (N8 (N8 (L8 0) 0 PM.leaf) 0 PM.leaf)) 0 (N8 (N8 (L8 0) 0 (L8 0)) 0 (N8 (N8 (L8 0) 0 PM.leaf) 0 PM.leaf))))) 83 (N8 (N8 (N8 (N8 (N8 (L8 0) 83 (L8 0)) 83 (N8 (N8 (L8 1) 0 PM.leaf) 0 PM.leaf)) 0 (N8 (N8 (L8 0) 0 (L8 38)) 0 (N8 (N8 (L8 75) 0 PM.leaf) 0 PM.leaf))) 0 (N8 (N8 (N8 (L8 0) 0 (L8 0)) 0 (N8 (N8 (L8 2) 0 PM.leaf) 0 PM.leaf)) 0 (N8 (N8 (L8 0) 0 (L8 0)) 0 (N8 (N8 (L8 0) 0 PM.leaf) 0 PM.leaf)))) 78 (N8 (N8 (N8 (N8 (L8 40) 78 (L8 0)) 78 (N8 (N8 (L8 2) 40 PM.leaf) 40 PM.leaf)) 0 (N8 (N8 (L8 0) 0 (L8 0)) 0 (N8 (N8 (L8 0) 0 PM.leaf) 0 PM.leaf))) 0 (N8 (N8 (N8 (L8 0) 0 (L8 0)) 0 (N8 (N8 (L8 1) 0 PM.leaf) 0 PM.leaf)) 0 (N8 (N8 (L8 0) 0 (L8 0)) 0 (N8 (N8 (L8 0) 0 PM.leaf) 0 PM.leaf)))))) 70 (N8 (N8 (N8 (N8 (N8 (N8 (L8 3) 70 (PM.node (L8 0) (some (AV.lit (Value.bool false))) PM.leaf)) 70 (N8 (L8 3) 3 (L8 0))) 0 (N8 (N8 (L8 0) 0 (L8 0)) 0 (N8 (N8 (L8 0) 0 PM.leaf) 0 PM.leaf))) 0 (N8 (N8 (N8 (L8 0) 0 (L8 0)) 0 (N8 (N8 (L8 0) 0 PM.leaf) 0 PM.leaf)) 0 (N8 (N8 (L8 0) 0 (L8 0)) 0 (N8 (N8 (L8 0) 0 PM.leaf) 0 PM.leaf)))) 220 (N8 (N8 (N8 (N8 (L8 0) 220 (L8 0)) 220 (N8 (N8 (L8 0) 0 PM.leaf) 0 PM.leaf)) 0 (N8 (N8 (L8 0) 0 (L8 0)) 0 (N8 (N8 (L8 0) 0 PM.leaf) 0 PM.leaf))) 0 (N8 (N8 (N8 (L8 0) 0 (L8 0)) 0 (N8 (N8 (L8 0) 0 PM.leaf) 0 PM.leaf)) 0 (N8 (N8 (L8 0) 0 (L8 0)) 0 (N8 (N8 (L8 0) 0 PM.leaf) 0 PM.leaf))))) 10 (N8 (N8 (N8 (N8 (N8 (L8 0) 10 (L8 1)) 10 (N8 (N8 (L8 1) 0 PM.leaf) 0 PM.leaf)) 0 (N8 (N8 (L8 0) 0 (L8 129)) 0 (N8 (N8 (L8 174) 0 PM.leaf) 0 PM.leaf))) 0 (N8 (N8 (N8 (L8 0) 0 (L8 0)) 0 (N8 (N8 (L8 0) 0 PM.leaf) 0 PM.leaf)) 0 (N8 (N8 (L8 0) 0 (L8 0)) 0 (N8 (N8 (L8 0) 0 PM.leaf) 0 PM.leaf)))) 0 (N8 (N8 (N8 (N8 (L8 223) 0 (L8 0)) 0 (N8 (N8 (L8 0) 223 PM.leaf) 223 PM.leaf)) 0 (N8 (N8 (L8 0) 0 (L8 0)) 0 (N8 (N8 (L8 0) 0 PM.leaf) 0 PM.leaf))) 0 (N8 (N8 (N8 (L8 0) 0 (L8 0)) 0 (N8 (N8 (L8 0) 0 PM.leaf) 0 PM.leaf)) 0 (N8 (N8 (L8 0) 0 (L8 0)) 0 (N8 (N8 (L8 0) 0 PM.leaf) 0 PM.leaf))))))) 4 (N8 (N8 (N8 (N8 (N8 (N8 (N8 (L8 0) 4 (N8 (L8 0) 0 PM.leaf)) 4 (PM.node (L8 0) (some (AV.lit (Value.bool false))) (L8 0))) 0 (N8 (N8 (L8 0) 0 (L8 0)) 0 (N8 (N8 (L8 0) 0 PM.leaf) 0 PM.leaf))) 0 (N8 (N8 (N8 (L8 0) 0 (L8 0)) 0 (N8 (N8 (L8 0) 0 PM.leaf) 0 PM.leaf)) 0 (N8 (N8 (L8 0) 0 (L8 0)) 0 (N8 (N8 (L8 0) 0 PM.leaf) 0 PM.leaf)))) 0 (N8 (N8 (N8 (N8 (L8 0) 0 (L8 0)) 0 (N8 (N8 (L8 0) 0 PM.leaf) 0 PM.leaf)) 0 (N8 (N8 (L8 0) 0 (L8 0)) 0 (N8 (N8 (L8 50) 0 PM.leaf) 0 PM.leaf))) 0 (N8 (N8 (N8 (L8 0) 0 (L8 0)) 0 (N8 (N8 (L8 0) 0 PM.leaf) 0 PM.leaf)) 0 (N8 (N8 (L8 0) 0 (L8 0)) 0 (N8 (N8 (L8 0) 0 PM.leaf) 0 PM.leaf))))) 69 (N8 (N8 (N8 (N8 (N8 (L8 0) 69 (L8 1)) 69 (N8 (N8 (L8 0) 0 PM.leaf) 0 PM.leaf)) 0 (N8 (N8 (L8 0) 0 (L8 201)) 0 (N8 (N8 (L8 64) 0 PM.leaf) 0 PM.leaf))) 0 (N8 (N8 (N8 (L8 0) 0 (L8 0)) 0 (N8 (N8 (L8 0) 0 PM.leaf) 0 PM.leaf)) 0 (N8 (N8 (L8 0) 0 (L8 0)) 0 (N8 (N8 (L8 0) 0 PM.leaf) 0 PM.leaf)))) 80 (N8 (N8 (N8 (N8 (L8 132) 80 (L8 0)) 80 (N8 (N8 (L8 0) 132 PM.leaf) 132 PM.leaf)) 0 (N8 (N8 (L8 0) 0 (L8 0)) 0 (N8 (N8 (L8 0) 0 PM.leaf) 0 PM.leaf))) 0 (N8 (N8 (N8 (L8 0) 0 (L8 0)) 0 (N8 (N8 (L8 0) 0 PM.leaf) 0 PM.leaf)) 0 (N8 (N8 (L8 0) 0 (L8 0)) 0 (N8 (N8 (L8 0) 0 PM.leaf) 0 PM.leaf)))))) 85 (N8 (N8 (N8 (N8 (N8 (N8 (L8 0) 85 (N8 (L8 0) 1 PM.leaf)) 85 (N8 (L8 0) 0 PM.leaf)) 0 (N8 (N8 (L8 0) 0 (L8 30)) 0 (N8 (N8 (L8 0) 0 PM.leaf) 0 PM.leaf))) 0 (N8 (N8 (N8 (L8 0) 0 (L8 1)) 0 (N8 (N8 (L8 0) 0 PM.leaf) 0 PM.leaf)) 0 (N8 (N8 (L8 0) 0 (L8 0)) 0 (N8 (N8 (L8 0) 0 PM.leaf) 0 PM.leaf)))) 5 (N8 (N8 (N8 (N8 (L8 107) 5 (L8 1)) 5 (N8 (N8 (L8 0) 107 PM.leaf) 107 PM.leaf)) 0 (N8 (N8 (L8 0) 0 (L8 0)) 0 (N8 (N8 (L8 0) 0 PM.leaf) 0 PM.leaf))) 0 (N8 (N8 (N8 (L8 0) 0 (L8 1)) 0 (N8 (N8 (L8 0) 0 PM.leaf) 0 PM.leaf)) 0 (N8 (N8 (L8 0) 0 (L8 0)) 0 (N8 (N8 (L8 0) 0 PM.leaf) 0 PM.leaf))))) 0 (N8 (N8 (N8 (N8 (N8 (L8 0) 0 (L8 1)) 0 (N8 (N8 (L8 1) 0 PM.leaf) 0 PM.leaf)) 0 (N8 (N8 (L8 0) 0 (L8 97)) 0 (N8 (N8 (L8 244) 0 PM.leaf) 0 PM.leaf))) 0 (N8 (N8 (N8 (L8 0) 0 (L8 0)) 0 (N8 (N8 (L8 0) 0 PM.leaf) 0 PM.leaf)) 0 (N8 (N8 (L8 0) 0 (L8 0)) 0 (N8 (N8 (L8 0) 0 PM.leaf) 0 PM.leaf)))) 0 (N8 (N8 (N8 (N8 (L8 0) 0 (L8 0)) 0 (N8 (N8 (L8 0) 0 PM.leaf) 0 PM.leaf)) 0 (N8 (N8 (L8 0) 0 (L8 0)) 0 (N8 (N8 (L8 0) 0 PM.leaf) 0 PM.leaf))) 0 (N8 (N8 (N8 (L8 0) 0 (L8 0)) 0 (N8 (N8 (L8 0) 0 PM.leaf) 0 PM.leaf)) 0 (N8 (N8 (L8 0) 0 (L8 0)) 0 (N8 (N8 (L8 0) 0 PM.leaf) 0 PM.leaf))))))))))]
abbrev sSG9M : Nat := 27
abbrev sSG9J : Nat := 1
def sSG9F : List AObj := [
(AObj.room 140 (Cs.av [(AV.lit (Value.string (bs [98]))), (AV.lit (Value.string (bs [50])))])),
(AObj.room 140 (Cs.av [(AV.lit (Value.string (bs [98]))), (AV.lit (Value.string (bs [50])))]))]
def sSG9X : AV := (AV.agg [(i64 6), (AV.lit (Value.string (bs [98]))), (AV.lit (Value.string (bs []))), (AV.lit (Value.string (bs []))), (AV.lit (Value.slice none 0 0)), (i64 6), (u64 1), (AV.lit (Value.string (bs [98]))), (AV.lit (Value.bool true)), (i64 1), (AV.lit (Value.bool true)), (AV.lit (Value.string (bs [98]))), (u64 2), (u64 2), (i64 3), (i64 0), (i64 (-0 - 1)), (i64 0), (i64 1), (AV.lit (Value.slice none 0 0)), (i64 0), (AV.lit (Value.slice none 0 0)), (i64 0), (AV.lit (Value.bool false)), (AV.lit (Value.string (bs []))), (AV.slU 1 0 1 2), (AV.lit (Value.slice none 0 0)), (u64 0)])
def sSG9H : List AObj := [
(AObj.room 140 (Cs.av [(AV.lit (Value.string (bs [98]))), (AV.lit (Value.string (bs [50])))]))]
def sSG9A : List Nat := [0, 2, 3, 4, 5, 6, 7, 8, 9, 10, 11, 12, 13, 14, 15, 16, 17, 18, 19, 20, 21, 22, 23, 24, 25, 26, 27]
def sSG9B : List Nat := [1, 37]
end
end Go.Proofs.YtnlpcbdmllpddaaGreat
end
section
/- A closed call, run: fusee/scan.Step. -/
namespace Go.Proofs.YtnlpcbdmllpddaaGreat
open Go SE
set_option maxRecDepth 100000
noncomputable section
theorem sSG9_look : lookX tblR 40 = none := by kernel_rfl
theorem sSG9_run : runH Tryz.prog tblR tt 2000 40 40 [.ptr 0 0, i64 0, sSG8X] (openH 0 (hO 2 (packed sSG8M sSG8O :: sSG8H)) (hO sSG8M sSG8O)) (told2 sSG9A sSG9B) = .ok (vmap (atL (atL sSG9A 0 :: sSG9B)) sSG9V, sSG9O.map fun o => some (omap (atL sSG9A) o), sSG9F.map fun o => some (omap (atL (atL sSG9A 0 :: sSG9B)) o), 46) := by kernel_rfl
theorem sSG9_sp : Sp Tryz.prog 40 [.ptr 0 0, i64 0, sSG8X] (hO 2 (packed sSG8M sSG8O :: sSG8H)) (fun v h => v = sSG9V ∧ h = hO 3 (packed sSG9M sSG9O :: sSG9F)) :=
  stageQ tt_ok mixed tblR_ok 2000 40 2 sSG8M sSG8O sSG8H sSG9M 3 46 sSG9A sSG9B sSG9V sSG9O sSG9F sSG9_look sSG9_run (by kernel_rfl)
end
end Go.Proofs.YtnlpcbdmllpddaaGreat
end
section
/- What a closed call yields, and the memory behind it: fusee/scan.Step. -/
namespace Go.Proofs.YtnlpcbdmllpddaaGreat
open Go SE
set_option maxRecDepth 100000
noncomputable section
def sSG10V : AV := (AV.agg [(i64 6), (AV.lit (Value.string (bs [98]))), (AV.lit (Value.string (bs []))), (AV.lit (Value.string (bs []))), (AV.lit (Value.slice none 0 0)), (i64 7), (u64 1), (AV.lit (Value.string (bs [98]))), (AV.lit (Value.bool true)), (i64 1), (AV.lit (Value.bool true)), (AV.lit (Value.string (bs [98]))), (u64 2), (u64 2), (i64 3), (i64 0), (i64 (-0 - 1)), (i64 0), (i64 1), (AV.lit (Value.slice none 0 0)), (i64 0), (AV.lit (Value.slice none 0 0)), (i64 0), (AV.lit (Value.bool false)), (AV.lit (Value.string (bs []))), (AV.slU 2 0 1 2), (AV.lit (Value.slice none 0 0)), (u64 0)])
def sSG10O : List AObj := [
(AObj.cells 117 (Cs.av [(AV.ptr 1 0), (AV.ptr 2 0), (AV.ptr 3 0), (AV.ptr 4 0), (AV.ptr 5 0), (AV.ptr 6 0), (AV.ptr 7 0), (AV.ptr 8 0), (u64 2), (u64 2), (AV.slU 9 0 2 7)])),
(AObj.cells 152 (Cs.av [(AV.ptr 10 0), (AV.lit (Value.int IntKind.u32 1)), (AV.lit (Value.int IntKind.i32 0)), (AV.lit (Value.int IntKind.u32 0))])),
(AObj.cells 289 (Cs.av [(AV.sl 11 0 1 1)])),
(AObj.cells 204 (Cs.av [(u64 1), (AV.sl 12 0 1 1)])),
(AObj.cells 201 (Cs.av ([(u64 1), (u64 0), (u64 0), (AV.sl 13 0 1 1), (AV.lit (Value.bool false)), (AV.lit (Value.bool false)), (AV.lit (Value.bool true)), (AV.lit (Value.bool true))] ++ List.replicate 512 (AV.lit (Value.bool false)) ++ [(AV.lit Value.nilFunc)]))),
(AObj.cells 247 (Cs.av [(AV.lit (Value.slice none 0 0))])),
(AObj.cells 269 (Cs.av [(AV.mp 14), (AV.mp 15), (AV.mp 16), (AV.mp 17), (AV.mp 18), (AV.mp 19), (AV.mp 20), (AV.mp 21)])),
(AObj.cells 298 (Cs.av [(AV.slU 22 0 2 5), (AV.slU 23 0 1 5), (AV.slU 24 0 1 5), (AV.slU 25 0 1 5)])),
(AObj.cells 279 (Cs.av [(AV.lit (Value.slice none 0 0)), (i64 0), (i64 0)])),
(AObj.room 155 (Cs.av [(i64 1), (AV.lit (Value.string (bs [97]))), (AV.lit (Value.string (bs [49]))), (u64 1), (u64 1), (u64 1), (i64 1), (i64 1), (AV.lit (Value.string (bs [98]))), (AV.lit (Value.string (bs [50]))), (u64 2), (u64 2), (u64 1), (i64 2)])),
(AObj.cells 218 (Cs.av [(AV.sl 26 0 10 10), (i64 6), (i64 2), (i64 1), (i64 0), (i64 0)])),
(AObj.cells 261 (Cs.tr 10 [(i64 0), (AV.lit (Value.bool false)), (AV.lit (Value.bool false)), (AV.lit (Value.bool false)), (AV.lit (Value.bool false)), (AV.lit (Value.bool false)), (AV.lit (Value.bool false)), (AV.lit (Value.bool false)), (AV.lit (Value.bool false)), (i64 0)] (PM.node (PM.node PM.leaf (some (AV.lit (Value.bool true))) (PM.node (PM.node PM.leaf (some (i64 2)) PM.leaf) none PM.leaf)) (some (i64 0)) (PM.node PM.leaf (some (AV.lit (Value.bool true))) PM.leaf)))),
(AObj.cells 115 (Cs.tr 1 [(u64 0)] (PM.node PM.leaf (some (u64 0)) PM.leaf))),
(AObj.cells 3 (Cs.tr 1 [(i64 0)] (PM.node PM.leaf (some (i64 2)) PM.leaf))),
(AObj.map [] 0),
(AObj.map [((AV.lit (Value.string (bs [98]))), ((AV.agg [(AV.lit (Value.string (bs [98]))), (u64 2), (u64 2), (i64 3), (i64 0)]), 0))] 1),
(AObj.map [] 0),
(AObj.map [((AV.lit (Value.string (bs [97]))), ((AV.agg [(AV.lit (Value.string (bs [97]))), (u64 1), (u64 1), (i64 2), (i64 0)]), 0))] 1),
(AObj.map [] 0),
(AObj.map [] 0),
(AObj.map [] 0),
(AObj.map [] 0),
(AObj.room 31 (Cs.av [(AV.lit (Value.string (bs [97]))), (u64 1), (u64 1), (i64 2), (i64 0), (AV.lit (Value.string (bs [98]))), (u64 2), (u64 2), (i64 3), (i64 0)])),
(AObj.room 31 (Cs.av [(AV.lit (Value.string (bs [97]))), (u64 1), (u64 1), (i64 2), (i64 0)])),
(AObj.room 31 (Cs.av [(AV.lit (Value.string (bs [97]))), (u64 1), (u64 1), (i64 2), (i64 0)])),
(AObj.room 31 (Cs.av [(AV.lit (Value.string (bs [97]))), (u64 1), (u64 1), (i64 2), (i64 0)])),
(AObj.cells 253 (Cs.tr 1930 (List.replicate 192 (AV.lit (v8 0)) ++ [(AV.lit (Value.bool false))]) (N8 (N8 (N8 (N8 (N8 (N8 (N8 (N8 (L8 0) 0 (N8 (L8 0) 0 PM.leaf)) 0 (N8 (L8 0) 0 (L8 0))) 0 (N8 (N8 (L8 0) 0 (L8 0)) 0 (N8 (N8 (L8 0) 0 PM.leaf) 0 PM.leaf))) 0 (N8 (N8 (N8 (L8 0) 0 (L8 0)) 0 (N8 (N8 (L8 0) 0 PM.leaf) 0 PM.leaf)) 0 (N8 (N8 (L8 0) 0 (L8 0)) 0 (N8 (N8 (L8 0) 0 PM.leaf) 0 PM.leaf)))) 0 (N8 (N8 (N8 (N8 (L8 0) 0 (L8 0)) 0 (N8 (N8 (L8 1) 0 PM.leaf) 0 PM.leaf)) 0 (N8 (N8 (L8 0) 0 (L8 49)) 0 (N8 (N8 (L8 98) 0 PM.leaf) 0 PM.leaf))) 0 (N8 (N8 (N8 (L8 0) 0 (L8 0)) 0 (N8 (N8 (L8 0) 0 PM.leaf) 0 PM.leaf)) 0 (N8 (N8 (L8 0) 0 (L8 0)) 0 (N8 (N8 (L8 0) 0 PM.leaf) 0 PM.leaf))))) 83 (N8 (N8 (N8 (N8 (N8 (L8 0) 83 (L8 0)) 83 (N8 (N8 (L8 1) 0 PM.leaf) 0 PM.leaf)) 0 (N8 (N8 (L8 0) 0 (L8 38)) 0 (N8 (N8 (L8 75) 0 PM.leaf) 0 PM.leaf))) 0 (N8 (N8 (N8 (L8 0) 0 (L8 0)) 0 (N8 (N8 (L8 2) 0 PM.leaf) 0 PM.leaf)) 0 (N8 (N8 (L8 0) 0 (L8 0)) 0 (N8 (N8 (L8 0) 0 PM.leaf) 0 PM.leaf)))) 78 (N8 (N8 (N8 (N8 (L8 40) 78 (L8 0)) 78 (N8 (N8 (L8 2) 40 PM.leaf) 40 PM.leaf)) 0 (N8 (N8 (L8 0) 0 (L8 0)) 0 (N8 (N8 (L8 0) 0 PM.leaf) 0 PM.leaf))) 0 (N8 (N8 (N8 (L8 0) 0 (L8 0)) 0 (N8 (N8 (L8 1) 0 PM.leaf) 0 PM.leaf)) 0 (N8 (N8 (L8 0) 0 (L8 0)) 0 (N8 (N8 (L8 0) 0 PM.leaf) 0 PM.leaf)))))) 70 (N8 (N8 (N8 (N8 (N8 (N8 (L8 3) 70 (PM.node (L8 0) (some (AV.lit (Value.bool false))) PM.leaf)) 70 (N8 (L8 3) 3 (L8 0))) 0 (N8 (N8 (L8 0) 0 (L8 0)) 0 (N8 (N8 (L8 0) 0 PM.leaf) 0 PM.leaf))) 0 (N8 (N8 (N8 (L8 0) 0 (L8 0)) 0 (N8 (N8 (L8 0) 0 PM.leaf) 0 PM.leaf)) 0 (N8 (N8 (L8 0) 0 (L8 0)) 0 (N8 (N8 (L8 0) 0 PM.leaf) 0 PM.leaf)))) 220 (N8 (N8 (N8 (N8 (L8 0) 220 (L8 0)) 220 (N8 (N8 (L8 0) 0 PM.leaf) 0 PM.leaf)) 0 (N8 (N8 (L8 0) 0 (L8 0)) 0 (N8 (N8 (L8 0) 0 PM.leaf) 0 PM.leaf))) 0 (N8 (N8 (N8 (L8 0) 0 (L8 0)) 0 (N8 (N8 (L8 0) 0 PM.leaf) 0 PM.leaf)) 0 (N8 (N8 (L8 0) 0 (L8 0)) 0 (N8 (N8 (L8 0) 0 PM.leaf) 0 PM.leaf))))) 10 (N8 (N8 (N8 (N8 (N8 (L8 0) 10 (L8 1)) 10 (N8 (N8 (L8 1) 0 PM.leaf) 0 PM.leaf)) 0 (N8 (N8 (L8 0) 0 (L8 129)) 0 (N8 (N8 (L8 174) 0 PM.leaf) 0 PM.leaf))) 0 (N8 (N8 (N8 (L8 0) 0 (L8 0)) 0 (N8 (N8 (L8 0) 0 PM.leaf) 0 PM.leaf)) 0 (N8 (N8 (L8 0) 0 (L8 0)) 0 (N8 (N8 (L8 0) 0 PM.leaf) 0 PM.leaf)))) 0 (N8 (N8 (N8 (N8 (L8 223) 0 (L8 0)) 0 (N8 (N8 (L8 0) 223 PM.leaf) 223 PM.leaf)) 0 (N8 (N8 (L8 0) 0 (L8 0)) 0 (N8 (N8 (L8 0) 0 PM.leaf) 0 PM.leaf))) 0 (N8 (N8 (N8 (L8 0) 0 (L8 0)) 0 (N8 (N8 (L8 0) 0 PM.leaf) 0 PM.leaf)) 0 (N8 (N8 (L8 0) 0 (L8 0)) 0 (N8 (N8 (L8 0) 0 PM.leaf) 0 PM.leaf))))))) 4 (N8 (N8 (N8 (N8 (N8 (N8 (N8 (L8 0) 4 (N8 (L8 0) 0 PM.leaf)) 4 (PM.node (L8 0) (some (AV.lit (Value.bool false))) (L8 0))) 0 (N8 (N8 (L8 0) 0 (L8 0)) 0 (N8 (N8 (L8 0) 0 PM.leaf) 0 PM.leaf))) 0 (N8 (N8 (N8 (L8 0) 0 (L8 0)) 0 (N8 (N8 (L8 0) 0 PM.leaf) 0 PM.leaf)) 0 (N8 (N8 (L8 0) 0 (L8 0)) 0 (N8 (N8 (L8 0) 0 PM.leaf) 0 PM.leaf)))) 0 (N8 (N8 (N8 (N8 (L8 0) 0 (L8 0)) 0 (N8 (N8 (L8 0) 0 PM.leaf) 0 PM.leaf)) 0 (N8 (N8 (L8 0) 0 (L8 0)) 0 (N8 (N8 (L8 50) 0 PM.leaf) 0 PM.leaf))) 0 (N8 (N8 (N8 (L8 0) 0 (L8 0)) 0 (N8 (N8 (L8 0) 0 PM.leaf) 0 PM.leaf)) 0 (N8 (N8 (L8 0) 0 (L8 0)) 0 (N8 (N8 (L8 0) 0 PM.leaf) 0 PM.leaf))))) 69 (N8 (N8 (N8 (N8 (N8 (L8 0) 69 (L8 1)) 69 (N8 (N8 (L8 0) 0 PM.leaf) 0 PM.leaf)) 0 (N8 (N8 (L8 0) 0 (L8 201)) 0 (N8 (N8 (L8 64) 0 PM.leaf) 0 PM.leaf))) 0 (N8 (N8 (N8 (L8 0) 0 (L8 0)) 0 (N8 (N8 (L8 0) 0 PM.leaf) 0 PM.leaf)) 0 (N8 (N8 (L8 0) 0 (L8 0)) 0 (N8 (N8 (L8 0) 0 PM.leaf) 0 PM.leaf)))) 80 (N8 (N8 (N8 (N8 (L8 132) 80 (L8 0)) 80 (N8 (N8 (L8 0) 132 PM.leaf) 132 PM.leaf)) 0 (N8 (N8 (L8 0) 0 (L8 0)) 0 (N8 (N8 (L8 0) 0 PM.leaf) 0 PM.leaf))) 0 (N8 (N8 (N8 (L8 0) 0 (L8 0)) 0 (N8 (N8 (L8 0) 0 PM.leaf) 0 PM.leaf)) 0 (N8 (N8 (L8 0) 0 (L8 0)) 0 (N8 (N8 (L8 0) 0 PM.leaf) 0 PM.leaf)))))) 85 (N8 (N8 (N8 (N8 (N8 (N8 (L8 0) 85 (N8 (L8 0) 1 PM.leaf)) 85 (N8 (L8 0) 0 PM.leaf)) 0 (N8 (N8 (L8 0) 0 (L8 30)) 0 (N8 (N8 (L8 0) 0 PM.leaf) 0 PM.leaf))) 0 (N8 (N8 (N8 (L8 0) 0 (L8 1)) 0 (N8 (N8 (L8 0) 0 PM.leaf) 0 PM.leaf)) 0 (N8 (N8 (L8 0) 0 (L8 0)) 0 (N8 (N8 (L8 0) 0 PM.leaf) 0 PM.leaf)))) 5 (N8 (N8 (N8 (N8 (L8 107) 5 (L8 1)) 5 (N8 (N8 (L8 0) 107 PM.leaf) 107 PM.leaf)) 0 (N8 (N8 (L8 0) 0 (L8 0)) 0 (N8 (N8 (L8 0) 0 PM.leaf) 0 PM.leaf))) 0 (N8 (N8 (N8 (L8 0) 0 (L8 1)) 0 (N8 (N8 (L8 0) 0 PM.leaf) 0 PM.leaf)) 0 (N8 (N8 (L8 0) 0 (L8 0)) 0 (N8 (N8 (L8 0) 0 PM.leaf) 0 PM.leaf))))) 0 (N8 (N8 (N8 (N8 (N8 (L8 0) 0 (L8 1)) 0 (N8 (N8 (L8 1) 0 PM.leaf) 0 PM.leaf)) 0 (N8 (N8 (L8 0) 0 (L8 97)) 0 (N8 (N8 (L8 244) 0 PM.leaf) 0 PM.leaf))) 0 (N8 (N8 (N8 (L8 0) 0 (L8 0)) 0 (N8 (N8 (L8 0) 0 PM.leaf) 0 PM.leaf)) 0 (N8 (N8 (L8 0) 0 (L8 0)) 0 (N8 (N8 (L8 0) 0 PM.leaf) 0 PM.leaf)))) 0 (N8 (N8 (N8 (N8 (L8 0) 0 (L8 0)) 0 (N8 (N8 (L8 0) 0 PM.leaf) 0 PM.leaf)) 0 (N8 (N8 (L8 0) 0 (L8 0)) 0 (N8 (N8 (L8 0) 0 PM.leaf) 0 PM.leaf))) 0 (N8 (N8 (N8 (L8 0) 0 (L8 0)) 0 (N8 (N8 (L8 0) 0 PM.leaf) 0 PM.leaf)) 0 (N8 (N8 (L8 0) 0 (L8 0)) 0 (N8 (N8 (L8 0) 0 PM.leaf) 0 PM.leaf))))))))))]
abbrev sSG10M : Nat := 27
abbrev sSG10J : Nat := 1
def sSG10F : List AObj := [
(AObj.room 140 (Cs.av [(AV.lit (Value.string (bs [98]))), (AV.lit (Value.string (bs [50])))])),
(AObj.room 140 (Cs.av [(AV.lit (Value.string (bs [98]))), (AV.lit (Value.string (bs [50])))]))]
def sSG10X : AV := (AV.agg [(i64 6), (AV.lit (Value.string (bs [98]))), (AV.lit (Value.string (bs []))), (AV.lit (Value.string (bs []))), (AV.lit (Value.slice none 0 0)), (i64 7), (u64 1), (AV.lit (Value.string (bs [98]))), (AV.lit (Value.bool true)), (i64 1), (AV.lit (Value.bool true)), (AV.lit (Value.string (bs [98]))), (u64 2), (u64 2), (i64 3), (i64 0), (i64 (-0 - 1)), (i64 0), (i64 1), (AV.lit (Value.slice none 0 0)), (i64 0), (AV.lit (Value.slice none 0 0)), (i64 0), (AV.lit (Value.bool false)), (AV.lit (Value.string (bs []))), (AV.slU 1 0 1 2), (AV.lit (Value.slice none 0 0)), (u64 0)])
def sSG10H : List AObj := [
(AObj.room 140 (Cs.av [(AV.lit (Value.string (bs [98]))), (AV.lit (Value.string (bs [50])))]))]
def sSG10A : List Nat := [0, 2, 3, 4, 5, 6, 7, 8, 9, 10, 11, 12, 13, 14, 15, 16, 17, 18, 19, 20, 21, 22, 23, 24, 25, 26, 27]
def sSG10B : List Nat := [1, 37]
end
end Go.Proofs.YtnlpcbdmllpddaaGreat
end
section
/- A closed call, run: fusee/scan.Step. -/
namespace Go.Proofs.YtnlpcbdmllpddaaGreat
open Go SE
set_option maxRecDepth 100000
noncomputable section
theorem sSG10_look : lookX tblR 40 = none := by kernel_rfl
theorem sSG10_run : runH Tryz.prog tblR tt 2000 40 40 [.ptr 0 0, i64 0, sSG9X] (openH 0 (hO 2 (packed sSG9M sSG9O :: sSG9H)) (hO sSG9M sSG9O)) (told2 sSG10A sSG10B) = .ok (vmap (atL (atL sSG10A 0 :: sSG10B)) sSG10V, sSG10O.map fun o => some (omap (atL sSG10A) o), sSG10F.map fun o => some (omap (atL (atL sSG10A 0 :: sSG10B)) o), 41) := by kernel_rfl
theorem sSG10_sp : Sp Tryz.prog 40 [.ptr 0 0, i64 0, sSG9X] (hO 2 (packed sSG9M sSG9O :: sSG9H)) (fun v h => v = sSG10V ∧ h = hO 3 (packed sSG10M sSG10O :: sSG10F)) :=
  stageQ tt_ok mixed tblR_ok 2000 40 2 sSG9M sSG9O sSG9H sSG10M 3 41 sSG10A sSG10B sSG10V sSG10O sSG10F sSG10_look sSG10_run (by kernel_rfl)
end
end Go.Proofs.YtnlpcbdmllpddaaGreat
end
section
/- Scan's awake: contracts of its parts. -/
namespace Go.Proofs.YtnlpcbdmllpddaaGreat
open Go SE
noncomputable section
def putAL : List (Int × WTr) := [(0, ctrT (clo [.ptr 0 0, i64 0, .agg (frL [i64 2, str (bs [97]), str (bs [49]), str es] nilS)] sSAM sSAO sSE1V sSE1M sSE1O)),
  (1, ctrT (clo [.ptr 0 0, i64 0, sSE1V] sSE1M sSE1O sSE2V sSE2M sSE2O)),
  (3, ctrT (clo [.ptr 0 0, i64 0, sSE2V] sSE2M sSE2O sSE3V sSE3M sSE3O)),
  (4, ctrT (clo [.ptr 0 0, i64 0, sSE3V] sSE3M sSE3O sSE4V sSE4M sSE4O)),
  (5, ctrT (clo [.ptr 0 0, i64 0, sSE4V] sSE4M sSE4O sSE5V sSE5M sSE5O)),
  (6, ctrT (clo [.ptr 0 0, i64 0, sSE5V] sSE5M sSE5O sSE6V sSE6M sSE6O))]
theorem putAL_ok : AllT Tryz.prog 35 putAL := ⟨ctrT_ok (clo_ok sSE1_sp), ctrT_ok (clo_ok sSE2_sp), ctrT_ok (clo_ok sSE3_sp), ctrT_ok (clo_ok sSE4_sp), ctrT_ok (clo_ok sSE5_sp), ctrT_ok (clo_ok sSE6_sp), trivial⟩
def putBL : List (Int × WTr) := [(0, ctrT (clo [.ptr 0 0, i64 0, .agg (frL [i64 2, str (bs [98]), str (bs [50]), str es] nilS)] sSE6M sSE6O sSF1V sSF1M sSF1O)),
  (1, ctrT (clo [.ptr 0 0, i64 0, sSF1V] sSF1M sSF1O sSF2V sSF2M sSF2O)),
  (3, ctrT (clo [.ptr 0 0, i64 0, sSF2V] sSF2M sSF2O sSF3V sSF3M sSF3O)),
  (4, ctrT (clo [.ptr 0 0, i64 0, sSF3V] sSF3M sSF3O sSF4V sSF4M sSF4O)),
  (5, ctrT (clo [.ptr 0 0, i64 0, sSF4V] sSF4M sSF4O sSF5V sSF5M sSF5O)),
  (6, ctrT (clo [.ptr 0 0, i64 0, sSF5V] sSF5M sSF5O sSF6V sSF6M sSF6O))]
theorem putBL_ok : AllT Tryz.prog 35 putBL := ⟨ctrT_ok (clo_ok sSF1_sp), ctrT_ok (clo_ok sSF2_sp), ctrT_ok (clo_ok sSF3_sp), ctrT_ok (clo_ok sSF4_sp), ctrT_ok (clo_ok sSF5_sp), ctrT_ok (clo_ok sSF6_sp), trivial⟩
def putAC : Ctr := clo [.ptr 0 0, i64 0, .agg [i64 2, str (bs [97]), str (bs [49]), str es, nilS]] sSAM sSAO (.tup [.agg [i64 0, boo false, str es, nilS, nilS, u64 1], i64 6, boo true]) sSE6M sSE6O
def putBC : Ctr := clo [.ptr 0 0, i64 0, .agg [i64 2, str (bs [98]), str (bs [50]), str es, nilS]] sSE6M sSE6O (.tup [.agg [i64 0, boo false, str es, nilS, nilS, u64 1], i64 6, boo true]) sSF6M sSF6O
def scanL : List (Int × WTr) := [(0, ctrT (clo [.ptr 0 0, i64 0, .agg (frL [i64 6, str (bs [98]), str es, str es] nilS)] sSF6M sSF6O sSG1V sSG1M sSG1O)),
  (840, ctrT (clo [.ptr 0 0, i64 0, sSG1V] sSG1M sSG1O sSG2V sSG2M sSG2O)),
  (841, ctrT (clo [.ptr 0 0, i64 0, sSG2V] sSG2M sSG2O sSG3V sSG3M sSG3O)),
  (831, ctrT (clo [.ptr 0 0, i64 0, sSG3V] sSG3M sSG3O sSG4V sSG4M sSG4O)),
  (821, ctrT (clo [.ptr 0 0, i64 0, sSG4V] sSG4M sSG4O sSG5V sSG5M sSG5O)),
  (811, ctrT (clo [.ptr 0 0, i64 0, sSG5V] sSG5M sSG5O sSG6V sSG6M sSG6O)),
  (911, ctrT (clo [.ptr 0 0, i64 0, sSG6V] sSG6M sSG6O sSG7V sSG7M sSG7O)),
  (211, ctrT (cloQ [.ptr 0 0, i64 0, sSG7V] 1 sSG7M sSG7O [] sSG8V 2 sSG8M sSG8O sSG8F)),
  (916, ctrT (cloQ [.ptr 0 0, i64 0, sSG8X] 2 sSG8M sSG8O sSG8H sSG9V 3 sSG9M sSG9O sSG9F)),
  (616, ctrT (cloQ [.ptr 0 0, i64 0, sSG9X] 2 sSG9M sSG9O sSG9H sSG10V 3 sSG10M sSG10O sSG10F))]
theorem scanL_ok : AllT Tryz.prog 40 scanL := ⟨ctrT_ok (clo_ok sSG1_sp), ctrT_ok (clo_ok sSG2_sp), ctrT_ok (clo_ok sSG3_sp), ctrT_ok (clo_ok sSG4_sp), ctrT_ok (clo_ok sSG5_sp), ctrT_ok (clo_ok sSG6_sp), ctrT_ok (clo_ok sSG7_sp), ctrT_ok (cloQ_ok (by kernel_rfl) sSG8_sp), ctrT_ok (cloQ_ok (by kernel_rfl) sSG9_sp), ctrT_ok (cloQ_ok (by kernel_rfl) sSG10_sp), trivial⟩
def scanRC : Ctr := cloQ [.ptr 0 0, i64 0, .agg [i64 6, str (bs [98]), str es, str es, nilS]] 1 sSF6M sSF6O [] (.tup [.agg [i64 0, boo false, str es, .slU 1 0 1 2, nilS, u64 0], boo true]) 2 sSG10M sSG10O sSG9H
end
end Go.Proofs.YtnlpcbdmllpddaaGreat
end
section
/- Scan's awake: what is asked. -/
namespace Go.Proofs.YtnlpcbdmllpddaaGreat
open Go SE
def runPutAVC_wp (x : Own) : Prop := wpF Tryz.prog [(35, byI phaseOf putAL)] tt noAn 400 6 84 (putAC.args x) (hO putAC.k (putAC.os x)) (fun v h' => endsP putAC.k x v h' putAC.outs)
def runPutAVC (x : Own) : Prop :=
  (∃ (x_1 : @Own), ((@Hd (@isMem @sSAM @sSAO x_1)) ∧
  ((((0 : @Nat) = (0 : @Nat)) ∧
  (((0 : @Int) = (0 : @Int)) ∧
  ((((2 : @Int) = (2 : @Int)) ∧
  (((@ByteArray.mk (@List.toArray @UInt8 (@List.map @Nat @UInt8 @UInt8.ofNat [(97 : @Nat)]))) = (@ByteArray.mk (@List.toArray @UInt8 (@List.map @Nat @UInt8 @UInt8.ofNat [(97 : @Nat)])))) ∧
  (((@ByteArray.mk (@List.toArray @UInt8 (@List.map @Nat @UInt8 @UInt8.ofNat [(49 : @Nat)]))) = (@ByteArray.mk (@List.toArray @UInt8 (@List.map @Nat @UInt8 @UInt8.ofNat [(49 : @Nat)])))) ∧
  ((@es = @es) ∧
  (((Value.slice (@Option.none @Addr) (0 : @Nat) (0 : @Nat)) = (Value.slice (@Option.none @Addr) (0 : @Nat) (0 : @Nat))) ∧
  (((0 : @Int) = (0 : @Int)) ∧
  (((0 : @Int) = (0 : @Int)) ∧
  ((@es = (@ByteArray.mk (@List.toArray @UInt8 (@List.nil @UInt8)))) ∧
  ((@Bool.false = @Bool.false) ∧
  (((0 : @Int) = (0 : @Int)) ∧
  ((@Bool.false = @Bool.false) ∧
  ((@es = (@ByteArray.mk (@List.toArray @UInt8 (@List.nil @UInt8)))) ∧
  (((0 : @Int) = (0 : @Int)) ∧
  (((0 : @Int) = (0 : @Int)) ∧
  (((0 : @Int) = (0 : @Int)) ∧
  (((0 : @Int) = (0 : @Int)) ∧
  (((-(1 : @Int)) = (-(1 : @Int))) ∧
  (((0 : @Int) = (0 : @Int)) ∧
  (((0 : @Int) = (0 : @Int)) ∧
  (((Value.slice (@Option.none @Addr) (0 : @Nat) (0 : @Nat)) = (Value.slice (@Option.none @Addr) (0 : @Nat) (0 : @Nat))) ∧
  (((0 : @Int) = (0 : @Int)) ∧
  (((Value.slice (@Option.none @Addr) (0 : @Nat) (0 : @Nat)) = (Value.slice (@Option.none @Addr) (0 : @Nat) (0 : @Nat))) ∧
  (((0 : @Int) = (0 : @Int)) ∧
  ((@Bool.false = @Bool.false) ∧
  ((@es = (@ByteArray.mk (@List.toArray @UInt8 (@List.nil @UInt8)))) ∧
  (((Value.slice (@Option.none @Addr) (0 : @Nat) (0 : @Nat)) = (Value.slice (@Option.none @Addr) (0 : @Nat) (0 : @Nat))) ∧
  (((Value.slice (@Option.none @Addr) (0 : @Nat) (0 : @Nat)) = (Value.slice (@Option.none @Addr) (0 : @Nat) (0 : @Nat))) ∧
  (((0 : @Int) = (0 : @Int)) ∧
  True)))))))))))))))))))))))))))) ∧
  True))) ∧
  (((x_1 = x) ∧
  True) ∧
  (∀ (y : @Own), ((@Hd (@isMem @sSE1M @sSE1O y)) → ((@I64 (2 : @Int)) ∧
  (∃ (x_2 : @Own), ((@Hd (@isMem @sSE1M @sSE1O x_2)) ∧
  ((((0 : @Nat) = (0 : @Nat)) ∧
  (((0 : @Int) = (0 : @Int)) ∧
  ((((2 : @Int) = (2 : @Int)) ∧
  (((@ByteArray.mk (@List.toArray @UInt8 (@List.map @Nat @UInt8 @UInt8.ofNat [(97 : @Nat)]))) = (@ByteArray.mk (@List.toArray @UInt8 (@List.map @Nat @UInt8 @UInt8.ofNat [(97 : @Nat)])))) ∧
  (((@ByteArray.mk (@List.toArray @UInt8 (@List.map @Nat @UInt8 @UInt8.ofNat [(49 : @Nat)]))) = (@ByteArray.mk (@List.toArray @UInt8 (@List.map @Nat @UInt8 @UInt8.ofNat [(49 : @Nat)])))) ∧
  (((@ByteArray.mk (@List.toArray @UInt8 (@List.map @Nat @UInt8 @UInt8.ofNat (@List.nil @Nat)))) = (@ByteArray.mk (@List.toArray @UInt8 (@List.map @Nat @UInt8 @UInt8.ofNat (@List.nil @Nat))))) ∧
  (((Value.slice (@Option.none @Addr) (0 : @Nat) (0 : @Nat)) = (Value.slice (@Option.none @Addr) (0 : @Nat) (0 : @Nat))) ∧
  (((1 : @Int) = (1 : @Int)) ∧
  (((1 : @Int) = (1 : @Int)) ∧
  (((@ByteArray.mk (@List.toArray @UInt8 (@List.map @Nat @UInt8 @UInt8.ofNat (@List.nil @Nat)))) = (@ByteArray.mk (@List.toArray @UInt8 (@List.map @Nat @UInt8 @UInt8.ofNat (@List.nil @Nat))))) ∧
  ((@Bool.false = @Bool.false) ∧
  (((0 : @Int) = (0 : @Int)) ∧
  ((@Bool.false = @Bool.false) ∧
  (((@ByteArray.mk (@List.toArray @UInt8 (@List.map @Nat @UInt8 @UInt8.ofNat (@List.nil @Nat)))) = (@ByteArray.mk (@List.toArray @UInt8 (@List.map @Nat @UInt8 @UInt8.ofNat (@List.nil @Nat))))) ∧
  (((0 : @Int) = (0 : @Int)) ∧
  (((0 : @Int) = (0 : @Int)) ∧
  (((0 : @Int) = (0 : @Int)) ∧
  (((0 : @Int) = (0 : @Int)) ∧
  ((((0 : @Int) - (1 : @Int)) = ((0 : @Int) - (1 : @Int))) ∧
  (((0 : @Int) = (0 : @Int)) ∧
  (((0 : @Int) = (0 : @Int)) ∧
  (((Value.slice (@Option.none @Addr) (0 : @Nat) (0 : @Nat)) = (Value.slice (@Option.none @Addr) (0 : @Nat) (0 : @Nat))) ∧
  (((0 : @Int) = (0 : @Int)) ∧
  (((Value.slice (@Option.none @Addr) (0 : @Nat) (0 : @Nat)) = (Value.slice (@Option.none @Addr) (0 : @Nat) (0 : @Nat))) ∧
  (((0 : @Int) = (0 : @Int)) ∧
  ((@Bool.false = @Bool.false) ∧
  (((@ByteArray.mk (@List.toArray @UInt8 (@List.map @Nat @UInt8 @UInt8.ofNat (@List.nil @Nat)))) = (@ByteArray.mk (@List.toArray @UInt8 (@List.map @Nat @UInt8 @UInt8.ofNat (@List.nil @Nat))))) ∧
  (((Value.slice (@Option.none @Addr) (0 : @Nat) (0 : @Nat)) = (Value.slice (@Option.none @Addr) (0 : @Nat) (0 : @Nat))) ∧
  (((Value.slice (@Option.none @Addr) (0 : @Nat) (0 : @Nat)) = (Value.slice (@Option.none @Addr) (0 : @Nat) (0 : @Nat))) ∧
  (((0 : @Int) = (0 : @Int)) ∧
  True)))))))))))))))))))))))))))) ∧
  True))) ∧
  (((x_2 = y) ∧
  True) ∧
  (∀ (y_1 : @Own), ((@Hd (@isMem @sSE2M @sSE2O y_1)) → ((@I64 (3 : @Int)) ∧
  (∃ (x_3 : @Own), ((@Hd (@isMem @sSE2M @sSE2O x_3)) ∧
  ((((0 : @Nat) = (0 : @Nat)) ∧
  (((0 : @Int) = (0 : @Int)) ∧
  ((((2 : @Int) = (2 : @Int)) ∧
  (((@ByteArray.mk (@List.toArray @UInt8 (@List.map @Nat @UInt8 @UInt8.ofNat [(97 : @Nat)]))) = (@ByteArray.mk (@List.toArray @UInt8 (@List.map @Nat @UInt8 @UInt8.ofNat [(97 : @Nat)])))) ∧
  (((@ByteArray.mk (@List.toArray @UInt8 (@List.map @Nat @UInt8 @UInt8.ofNat [(49 : @Nat)]))) = (@ByteArray.mk (@List.toArray @UInt8 (@List.map @Nat @UInt8 @UInt8.ofNat [(49 : @Nat)])))) ∧
  (((@ByteArray.mk (@List.toArray @UInt8 (@List.map @Nat @UInt8 @UInt8.ofNat (@List.nil @Nat)))) = (@ByteArray.mk (@List.toArray @UInt8 (@List.map @Nat @UInt8 @UInt8.ofNat (@List.nil @Nat))))) ∧
  (((Value.slice (@Option.none @Addr) (0 : @Nat) (0 : @Nat)) = (Value.slice (@Option.none @Addr) (0 : @Nat) (0 : @Nat))) ∧
  (((3 : @Int) = (3 : @Int)) ∧
  (((1 : @Int) = (1 : @Int)) ∧
  (((@ByteArray.mk (@List.toArray @UInt8 (@List.map @Nat @UInt8 @UInt8.ofNat (@List.nil @Nat)))) = (@ByteArray.mk (@List.toArray @UInt8 (@List.map @Nat @UInt8 @UInt8.ofNat (@List.nil @Nat))))) ∧
  ((@Bool.false = @Bool.false) ∧
  (((0 : @Int) = (0 : @Int)) ∧
  ((@Bool.false = @Bool.false) ∧
  (((@ByteArray.mk (@List.toArray @UInt8 (@List.map @Nat @UInt8 @UInt8.ofNat (@List.nil @Nat)))) = (@ByteArray.mk (@List.toArray @UInt8 (@List.map @Nat @UInt8 @UInt8.ofNat (@List.nil @Nat))))) ∧
  (((0 : @Int) = (0 : @Int)) ∧
  (((0 : @Int) = (0 : @Int)) ∧
  (((0 : @Int) = (0 : @Int)) ∧
  (((0 : @Int) = (0 : @Int)) ∧
  ((((0 : @Int) - (1 : @Int)) = ((0 : @Int) - (1 : @Int))) ∧
  (((0 : @Int) = (0 : @Int)) ∧
  (((0 : @Int) = (0 : @Int)) ∧
  (((Value.slice (@Option.none @Addr) (0 : @Nat) (0 : @Nat)) = (Value.slice (@Option.none @Addr) (0 : @Nat) (0 : @Nat))) ∧
  (((0 : @Int) = (0 : @Int)) ∧
  (((Value.slice (@Option.none @Addr) (0 : @Nat) (0 : @Nat)) = (Value.slice (@Option.none @Addr) (0 : @Nat) (0 : @Nat))) ∧
  (((0 : @Int) = (0 : @Int)) ∧
  ((@Bool.false = @Bool.false) ∧
  (((@ByteArray.mk (@List.toArray @UInt8 (@List.map @Nat @UInt8 @UInt8.ofNat (@List.nil @Nat)))) = (@ByteArray.mk (@List.toArray @UInt8 (@List.map @Nat @UInt8 @UInt8.ofNat (@List.nil @Nat))))) ∧
  (((Value.slice (@Option.none @Addr) (0 : @Nat) (0 : @Nat)) = (Value.slice (@Option.none @Addr) (0 : @Nat) (0 : @Nat))) ∧
  (((Value.slice (@Option.none @Addr) (0 : @Nat) (0 : @Nat)) = (Value.slice (@Option.none @Addr) (0 : @Nat) (0 : @Nat))) ∧
  (((0 : @Int) = (0 : @Int)) ∧
  True)))))))))))))))))))))))))))) ∧
  True))) ∧
  (((x_3 = y_1) ∧
  True) ∧
  (∀ (y_2 : @Own), ((@Hd (@isMem @sSE3M @sSE3O y_2)) → ((@I64 (4 : @Int)) ∧
  (∃ (x_4 : @Own), ((@Hd (@isMem @sSE3M @sSE3O x_4)) ∧
  ((((0 : @Nat) = (0 : @Nat)) ∧
  (((0 : @Int) = (0 : @Int)) ∧
  ((((2 : @Int) = (2 : @Int)) ∧
  (((@ByteArray.mk (@List.toArray @UInt8 (@List.map @Nat @UInt8 @UInt8.ofNat [(97 : @Nat)]))) = (@ByteArray.mk (@List.toArray @UInt8 (@List.map @Nat @UInt8 @UInt8.ofNat [(97 : @Nat)])))) ∧
  (((@ByteArray.mk (@List.toArray @UInt8 (@List.map @Nat @UInt8 @UInt8.ofNat [(49 : @Nat)]))) = (@ByteArray.mk (@List.toArray @UInt8 (@List.map @Nat @UInt8 @UInt8.ofNat [(49 : @Nat)])))) ∧
  (((@ByteArray.mk (@List.toArray @UInt8 (@List.map @Nat @UInt8 @UInt8.ofNat (@List.nil @Nat)))) = (@ByteArray.mk (@List.toArray @UInt8 (@List.map @Nat @UInt8 @UInt8.ofNat (@List.nil @Nat))))) ∧
  (((Value.slice (@Option.none @Addr) (0 : @Nat) (0 : @Nat)) = (Value.slice (@Option.none @Addr) (0 : @Nat) (0 : @Nat))) ∧
  (((4 : @Int) = (4 : @Int)) ∧
  (((1 : @Int) = (1 : @Int)) ∧
  (((@ByteArray.mk (@List.toArray @UInt8 (@List.map @Nat @UInt8 @UInt8.ofNat (@List.nil @Nat)))) = (@ByteArray.mk (@List.toArray @UInt8 (@List.map @Nat @UInt8 @UInt8.ofNat (@List.nil @Nat))))) ∧
  ((@Bool.false = @Bool.false) ∧
  (((0 : @Int) = (0 : @Int)) ∧
  ((@Bool.false = @Bool.false) ∧
  (((@ByteArray.mk (@List.toArray @UInt8 (@List.map @Nat @UInt8 @UInt8.ofNat (@List.nil @Nat)))) = (@ByteArray.mk (@List.toArray @UInt8 (@List.map @Nat @UInt8 @UInt8.ofNat (@List.nil @Nat))))) ∧
  (((0 : @Int) = (0 : @Int)) ∧
  (((0 : @Int) = (0 : @Int)) ∧
  (((0 : @Int) = (0 : @Int)) ∧
  (((0 : @Int) = (0 : @Int)) ∧
  (((2 : @Int) = (2 : @Int)) ∧
  (((0 : @Int) = (0 : @Int)) ∧
  (((0 : @Int) = (0 : @Int)) ∧
  (((Value.slice (@Option.none @Addr) (0 : @Nat) (0 : @Nat)) = (Value.slice (@Option.none @Addr) (0 : @Nat) (0 : @Nat))) ∧
  (((0 : @Int) = (0 : @Int)) ∧
  (((Value.slice (@Option.none @Addr) (0 : @Nat) (0 : @Nat)) = (Value.slice (@Option.none @Addr) (0 : @Nat) (0 : @Nat))) ∧
  (((0 : @Int) = (0 : @Int)) ∧
  ((@Bool.false = @Bool.false) ∧
  (((@ByteArray.mk (@List.toArray @UInt8 (@List.map @Nat @UInt8 @UInt8.ofNat (@List.nil @Nat)))) = (@ByteArray.mk (@List.toArray @UInt8 (@List.map @Nat @UInt8 @UInt8.ofNat (@List.nil @Nat))))) ∧
  (((Value.slice (@Option.none @Addr) (0 : @Nat) (0 : @Nat)) = (Value.slice (@Option.none @Addr) (0 : @Nat) (0 : @Nat))) ∧
  (((Value.slice (@Option.none @Addr) (0 : @Nat) (0 : @Nat)) = (Value.slice (@Option.none @Addr) (0 : @Nat) (0 : @Nat))) ∧
  (((0 : @Int) = (0 : @Int)) ∧
  True)))))))))))))))))))))))))))) ∧
  True))) ∧
  (((x_4 = y_2) ∧
  True) ∧
  (∀ (y_3 : @Own), ((@Hd (@isMem @sSE4M @sSE4O y_3)) → ((@I64 (5 : @Int)) ∧
  (∃ (x_5 : @Own), ((@Hd (@isMem @sSE4M @sSE4O x_5)) ∧
  ((((0 : @Nat) = (0 : @Nat)) ∧
  (((0 : @Int) = (0 : @Int)) ∧
  ((((2 : @Int) = (2 : @Int)) ∧
  (((@ByteArray.mk (@List.toArray @UInt8 (@List.map @Nat @UInt8 @UInt8.ofNat [(97 : @Nat)]))) = (@ByteArray.mk (@List.toArray @UInt8 (@List.map @Nat @UInt8 @UInt8.ofNat [(97 : @Nat)])))) ∧
  (((@ByteArray.mk (@List.toArray @UInt8 (@List.map @Nat @UInt8 @UInt8.ofNat [(49 : @Nat)]))) = (@ByteArray.mk (@List.toArray @UInt8 (@List.map @Nat @UInt8 @UInt8.ofNat [(49 : @Nat)])))) ∧
  (((@ByteArray.mk (@List.toArray @UInt8 (@List.map @Nat @UInt8 @UInt8.ofNat (@List.nil @Nat)))) = (@ByteArray.mk (@List.toArray @UInt8 (@List.map @Nat @UInt8 @UInt8.ofNat (@List.nil @Nat))))) ∧
  (((Value.slice (@Option.none @Addr) (0 : @Nat) (0 : @Nat)) = (Value.slice (@Option.none @Addr) (0 : @Nat) (0 : @Nat))) ∧
  (((5 : @Int) = (5 : @Int)) ∧
  (((1 : @Int) = (1 : @Int)) ∧
  (((@ByteArray.mk (@List.toArray @UInt8 (@List.map @Nat @UInt8 @UInt8.ofNat (@List.nil @Nat)))) = (@ByteArray.mk (@List.toArray @UInt8 (@List.map @Nat @UInt8 @UInt8.ofNat (@List.nil @Nat))))) ∧
  ((@Bool.false = @Bool.false) ∧
  (((0 : @Int) = (0 : @Int)) ∧
  ((@Bool.false = @Bool.false) ∧
  (((@ByteArray.mk (@List.toArray @UInt8 (@List.map @Nat @UInt8 @UInt8.ofNat (@List.nil @Nat)))) = (@ByteArray.mk (@List.toArray @UInt8 (@List.map @Nat @UInt8 @UInt8.ofNat (@List.nil @Nat))))) ∧
  (((0 : @Int) = (0 : @Int)) ∧
  (((0 : @Int) = (0 : @Int)) ∧
  (((0 : @Int) = (0 : @Int)) ∧
  (((0 : @Int) = (0 : @Int)) ∧
  (((2 : @Int) = (2 : @Int)) ∧
  (((0 : @Int) = (0 : @Int)) ∧
  (((0 : @Int) = (0 : @Int)) ∧
  (((Value.slice (@Option.none @Addr) (0 : @Nat) (0 : @Nat)) = (Value.slice (@Option.none @Addr) (0 : @Nat) (0 : @Nat))) ∧
  (((0 : @Int) = (0 : @Int)) ∧
  (((Value.slice (@Option.none @Addr) (0 : @Nat) (0 : @Nat)) = (Value.slice (@Option.none @Addr) (0 : @Nat) (0 : @Nat))) ∧
  (((0 : @Int) = (0 : @Int)) ∧
  ((@Bool.false = @Bool.false) ∧
  (((@ByteArray.mk (@List.toArray @UInt8 (@List.map @Nat @UInt8 @UInt8.ofNat (@List.nil @Nat)))) = (@ByteArray.mk (@List.toArray @UInt8 (@List.map @Nat @UInt8 @UInt8.ofNat (@List.nil @Nat))))) ∧
  (((Value.slice (@Option.none @Addr) (0 : @Nat) (0 : @Nat)) = (Value.slice (@Option.none @Addr) (0 : @Nat) (0 : @Nat))) ∧
  (((Value.slice (@Option.none @Addr) (0 : @Nat) (0 : @Nat)) = (Value.slice (@Option.none @Addr) (0 : @Nat) (0 : @Nat))) ∧
  (((0 : @Int) = (0 : @Int)) ∧
  True)))))))))))))))))))))))))))) ∧
  True))) ∧
  (((x_5 = y_3) ∧
  True) ∧
  (∀ (y_4 : @Own), ((@Hd (@isMem @sSE5M @sSE5O y_4)) → ((@I64 (6 : @Int)) ∧
  (∃ (x_6 : @Own), ((@Hd (@isMem @sSE5M @sSE5O x_6)) ∧
  ((((0 : @Nat) = (0 : @Nat)) ∧
  (((0 : @Int) = (0 : @Int)) ∧
  ((((2 : @Int) = (2 : @Int)) ∧
  (((@ByteArray.mk (@List.toArray @UInt8 (@List.map @Nat @UInt8 @UInt8.ofNat [(97 : @Nat)]))) = (@ByteArray.mk (@List.toArray @UInt8 (@List.map @Nat @UInt8 @UInt8.ofNat [(97 : @Nat)])))) ∧
  (((@ByteArray.mk (@List.toArray @UInt8 (@List.map @Nat @UInt8 @UInt8.ofNat [(49 : @Nat)]))) = (@ByteArray.mk (@List.toArray @UInt8 (@List.map @Nat @UInt8 @UInt8.ofNat [(49 : @Nat)])))) ∧
  (((@ByteArray.mk (@List.toArray @UInt8 (@List.map @Nat @UInt8 @UInt8.ofNat (@List.nil @Nat)))) = (@ByteArray.mk (@List.toArray @UInt8 (@List.map @Nat @UInt8 @UInt8.ofNat (@List.nil @Nat))))) ∧
  (((Value.slice (@Option.none @Addr) (0 : @Nat) (0 : @Nat)) = (Value.slice (@Option.none @Addr) (0 : @Nat) (0 : @Nat))) ∧
  (((6 : @Int) = (6 : @Int)) ∧
  (((1 : @Int) = (1 : @Int)) ∧
  (((@ByteArray.mk (@List.toArray @UInt8 (@List.map @Nat @UInt8 @UInt8.ofNat (@List.nil @Nat)))) = (@ByteArray.mk (@List.toArray @UInt8 (@List.map @Nat @UInt8 @UInt8.ofNat (@List.nil @Nat))))) ∧
  ((@Bool.false = @Bool.false) ∧
  (((0 : @Int) = (0 : @Int)) ∧
  ((@Bool.false = @Bool.false) ∧
  (((@ByteArray.mk (@List.toArray @UInt8 (@List.map @Nat @UInt8 @UInt8.ofNat (@List.nil @Nat)))) = (@ByteArray.mk (@List.toArray @UInt8 (@List.map @Nat @UInt8 @UInt8.ofNat (@List.nil @Nat))))) ∧
  (((0 : @Int) = (0 : @Int)) ∧
  (((0 : @Int) = (0 : @Int)) ∧
  (((0 : @Int) = (0 : @Int)) ∧
  (((0 : @Int) = (0 : @Int)) ∧
  ((((0 : @Int) - (1 : @Int)) = ((0 : @Int) - (1 : @Int))) ∧
  (((0 : @Int) = (0 : @Int)) ∧
  (((0 : @Int) = (0 : @Int)) ∧
  (((Value.slice (@Option.none @Addr) (0 : @Nat) (0 : @Nat)) = (Value.slice (@Option.none @Addr) (0 : @Nat) (0 : @Nat))) ∧
  (((0 : @Int) = (0 : @Int)) ∧
  (((Value.slice (@Option.none @Addr) (0 : @Nat) (0 : @Nat)) = (Value.slice (@Option.none @Addr) (0 : @Nat) (0 : @Nat))) ∧
  (((0 : @Int) = (0 : @Int)) ∧
  ((@Bool.false = @Bool.false) ∧
  (((@ByteArray.mk (@List.toArray @UInt8 (@List.map @Nat @UInt8 @UInt8.ofNat (@List.nil @Nat)))) = (@ByteArray.mk (@List.toArray @UInt8 (@List.map @Nat @UInt8 @UInt8.ofNat (@List.nil @Nat))))) ∧
  (((Value.slice (@Option.none @Addr) (0 : @Nat) (0 : @Nat)) = (Value.slice (@Option.none @Addr) (0 : @Nat) (0 : @Nat))) ∧
  (((Value.slice (@Option.none @Addr) (0 : @Nat) (0 : @Nat)) = (Value.slice (@Option.none @Addr) (0 : @Nat) (0 : @Nat))) ∧
  (((1 : @Int) = (1 : @Int)) ∧
  True)))))))))))))))))))))))))))) ∧
  True))) ∧
  (((x_6 = y_4) ∧
  True) ∧
  (∀ (y_5 : @Own), ((@Hd (@isMem @sSE6M @sSE6O y_5)) → (∃ (y_6 : @Own), ((@Hd (@isMem @sSE6M @sSE6O y_6)) ∧
  (((((0 : @Int) = (0 : @Int)) ∧
  ((@Bool.false = @Bool.false) ∧
  ((@es = (@ByteArray.mk (@List.toArray @UInt8 (@List.map @Nat @UInt8 @UInt8.ofNat (@List.nil @Nat))))) ∧
  (((Value.slice (@Option.none @Addr) (0 : @Nat) (0 : @Nat)) = (Value.slice (@Option.none @Addr) (0 : @Nat) (0 : @Nat))) ∧
  (((Value.slice (@Option.none @Addr) (0 : @Nat) (0 : @Nat)) = (Value.slice (@Option.none @Addr) (0 : @Nat) (0 : @Nat))) ∧
  (((1 : @Int) = (1 : @Int)) ∧
  True)))))) ∧
  (((6 : @Int) = (6 : @Int)) ∧
  ((@Bool.true = @Bool.true) ∧
  True))) ∧
  ((y_6 = y_5) ∧
  True)))))))))))))))))))))))))))))))))))))))))))))
theorem runPutAVC_ok (x : Own) : runPutAVC x = runPutAVC_wp x := by kernel_rfl
def runPutBVC_wp (x : Own) : Prop := wpF Tryz.prog [(35, byI phaseOf putBL)] tt noAn 400 6 84 (putBC.args x) (hO putBC.k (putBC.os x)) (fun v h' => endsP putBC.k x v h' putBC.outs)
def runPutBVC (x : Own) : Prop :=
  (∃ (x_1 : @Own), ((@Hd (@isMem @sSE6M @sSE6O x_1)) ∧
  ((((0 : @Nat) = (0 : @Nat)) ∧
  (((0 : @Int) = (0 : @Int)) ∧
  ((((2 : @Int) = (2 : @Int)) ∧
  (((@ByteArray.mk (@List.toArray @UInt8 (@List.map @Nat @UInt8 @UInt8.ofNat [(98 : @Nat)]))) = (@ByteArray.mk (@List.toArray @UInt8 (@List.map @Nat @UInt8 @UInt8.ofNat [(98 : @Nat)])))) ∧
  (((@ByteArray.mk (@List.toArray @UInt8 (@List.map @Nat @UInt8 @UInt8.ofNat [(50 : @Nat)]))) = (@ByteArray.mk (@List.toArray @UInt8 (@List.map @Nat @UInt8 @UInt8.ofNat [(50 : @Nat)])))) ∧
  ((@es = @es) ∧
  (((Value.slice (@Option.none @Addr) (0 : @Nat) (0 : @Nat)) = (Value.slice (@Option.none @Addr) (0 : @Nat) (0 : @Nat))) ∧
  (((0 : @Int) = (0 : @Int)) ∧
  (((0 : @Int) = (0 : @Int)) ∧
  ((@es = (@ByteArray.mk (@List.toArray @UInt8 (@List.nil @UInt8)))) ∧
  ((@Bool.false = @Bool.false) ∧
  (((0 : @Int) = (0 : @Int)) ∧
  ((@Bool.false = @Bool.false) ∧
  ((@es = (@ByteArray.mk (@List.toArray @UInt8 (@List.nil @UInt8)))) ∧
  (((0 : @Int) = (0 : @Int)) ∧
  (((0 : @Int) = (0 : @Int)) ∧
  (((0 : @Int) = (0 : @Int)) ∧
  (((0 : @Int) = (0 : @Int)) ∧
  (((-(1 : @Int)) = (-(1 : @Int))) ∧
  (((0 : @Int) = (0 : @Int)) ∧
  (((0 : @Int) = (0 : @Int)) ∧
  (((Value.slice (@Option.none @Addr) (0 : @Nat) (0 : @Nat)) = (Value.slice (@Option.none @Addr) (0 : @Nat) (0 : @Nat))) ∧
  (((0 : @Int) = (0 : @Int)) ∧
  (((Value.slice (@Option.none @Addr) (0 : @Nat) (0 : @Nat)) = (Value.slice (@Option.none @Addr) (0 : @Nat) (0 : @Nat))) ∧
  (((0 : @Int) = (0 : @Int)) ∧
  ((@Bool.false = @Bool.false) ∧
  ((@es = (@ByteArray.mk (@List.toArray @UInt8 (@List.nil @UInt8)))) ∧
  (((Value.slice (@Option.none @Addr) (0 : @Nat) (0 : @Nat)) = (Value.slice (@Option.none @Addr) (0 : @Nat) (0 : @Nat))) ∧
  (((Value.slice (@Option.none @Addr) (0 : @Nat) (0 : @Nat)) = (Value.slice (@Option.none @Addr) (0 : @Nat) (0 : @Nat))) ∧
  (((0 : @Int) = (0 : @Int)) ∧
  True)))))))))))))))))))))))))))) ∧
  True))) ∧
  (((x_1 = x) ∧
  True) ∧
  (∀ (y : @Own), ((@Hd (@isMem @sSF1M @sSF1O y)) → ((@I64 (2 : @Int)) ∧
  (∃ (x_2 : @Own), ((@Hd (@isMem @sSF1M @sSF1O x_2)) ∧
  ((((0 : @Nat) = (0 : @Nat)) ∧
  (((0 : @Int) = (0 : @Int)) ∧
  ((((2 : @Int) = (2 : @Int)) ∧
  (((@ByteArray.mk (@List.toArray @UInt8 (@List.map @Nat @UInt8 @UInt8.ofNat [(98 : @Nat)]))) = (@ByteArray.mk (@List.toArray @UInt8 (@List.map @Nat @UInt8 @UInt8.ofNat [(98 : @Nat)])))) ∧
  (((@ByteArray.mk (@List.toArray @UInt8 (@List.map @Nat @UInt8 @UInt8.ofNat [(50 : @Nat)]))) = (@ByteArray.mk (@List.toArray @UInt8 (@List.map @Nat @UInt8 @UInt8.ofNat [(50 : @Nat)])))) ∧
  (((@ByteArray.mk (@List.toArray @UInt8 (@List.map @Nat @UInt8 @UInt8.ofNat (@List.nil @Nat)))) = (@ByteArray.mk (@List.toArray @UInt8 (@List.map @Nat @UInt8 @UInt8.ofNat (@List.nil @Nat))))) ∧
  (((Value.slice (@Option.none @Addr) (0 : @Nat) (0 : @Nat)) = (Value.slice (@Option.none @Addr) (0 : @Nat) (0 : @Nat))) ∧
  (((1 : @Int) = (1 : @Int)) ∧
  (((1 : @Int) = (1 : @Int)) ∧
  (((@ByteArray.mk (@List.toArray @UInt8 (@List.map @Nat @UInt8 @UInt8.ofNat (@List.nil @Nat)))) = (@ByteArray.mk (@List.toArray @UInt8 (@List.map @Nat @UInt8 @UInt8.ofNat (@List.nil @Nat))))) ∧
  ((@Bool.false = @Bool.false) ∧
  (((0 : @Int) = (0 : @Int)) ∧
  ((@Bool.false = @Bool.false) ∧
  (((@ByteArray.mk (@List.toArray @UInt8 (@List.map @Nat @UInt8 @UInt8.ofNat (@List.nil @Nat)))) = (@ByteArray.mk (@List.toArray @UInt8 (@List.map @Nat @UInt8 @UInt8.ofNat (@List.nil @Nat))))) ∧
  (((0 : @Int) = (0 : @Int)) ∧
  (((0 : @Int) = (0 : @Int)) ∧
  (((0 : @Int) = (0 : @Int)) ∧
  (((0 : @Int) = (0 : @Int)) ∧
  ((((0 : @Int) - (1 : @Int)) = ((0 : @Int) - (1 : @Int))) ∧
  (((0 : @Int) = (0 : @Int)) ∧
  (((0 : @Int) = (0 : @Int)) ∧
  (((Value.slice (@Option.none @Addr) (0 : @Nat) (0 : @Nat)) = (Value.slice (@Option.none @Addr) (0 : @Nat) (0 : @Nat))) ∧
  (((0 : @Int) = (0 : @Int)) ∧
  (((Value.slice (@Option.none @Addr) (0 : @Nat) (0 : @Nat)) = (Value.slice (@Option.none @Addr) (0 : @Nat) (0 : @Nat))) ∧
  (((0 : @Int) = (0 : @Int)) ∧
  ((@Bool.false = @Bool.false) ∧
  (((@ByteArray.mk (@List.toArray @UInt8 (@List.map @Nat @UInt8 @UInt8.ofNat (@List.nil @Nat)))) = (@ByteArray.mk (@List.toArray @UInt8 (@List.map @Nat @UInt8 @UInt8.ofNat (@List.nil @Nat))))) ∧
  (((Value.slice (@Option.none @Addr) (0 : @Nat) (0 : @Nat)) = (Value.slice (@Option.none @Addr) (0 : @Nat) (0 : @Nat))) ∧
  (((Value.slice (@Option.none @Addr) (0 : @Nat) (0 : @Nat)) = (Value.slice (@Option.none @Addr) (0 : @Nat) (0 : @Nat))) ∧
  (((0 : @Int) = (0 : @Int)) ∧
  True)))))))))))))))))))))))))))) ∧
  True))) ∧
  (((x_2 = y) ∧
  True) ∧
  (∀ (y_1 : @Own), ((@Hd (@isMem @sSF2M @sSF2O y_1)) → ((@I64 (3 : @Int)) ∧
  (∃ (x_3 : @Own), ((@Hd (@isMem @sSF2M @sSF2O x_3)) ∧
  ((((0 : @Nat) = (0 : @Nat)) ∧
  (((0 : @Int) = (0 : @Int)) ∧
  ((((2 : @Int) = (2 : @Int)) ∧
  (((@ByteArray.mk (@List.toArray @UInt8 (@List.map @Nat @UInt8 @UInt8.ofNat [(98 : @Nat)]))) = (@ByteArray.mk (@List.toArray @UInt8 (@List.map @Nat @UInt8 @UInt8.ofNat [(98 : @Nat)])))) ∧
  (((@ByteArray.mk (@List.toArray @UInt8 (@List.map @Nat @UInt8 @UInt8.ofNat [(50 : @Nat)]))) = (@ByteArray.mk (@List.toArray @UInt8 (@List.map @Nat @UInt8 @UInt8.ofNat [(50 : @Nat)])))) ∧
  (((@ByteArray.mk (@List.toArray @UInt8 (@List.map @Nat @UInt8 @UInt8.ofNat (@List.nil @Nat)))) = (@ByteArray.mk (@List.toArray @UInt8 (@List.map @Nat @UInt8 @UInt8.ofNat (@List.nil @Nat))))) ∧
  (((Value.slice (@Option.none @Addr) (0 : @Nat) (0 : @Nat)) = (Value.slice (@Option.none @Addr) (0 : @Nat) (0 : @Nat))) ∧
  (((3 : @Int) = (3 : @Int)) ∧
  (((1 : @Int) = (1 : @Int)) ∧
  (((@ByteArray.mk (@List.toArray @UInt8 (@List.map @Nat @UInt8 @UInt8.ofNat (@List.nil @Nat)))) = (@ByteArray.mk (@List.toArray @UInt8 (@List.map @Nat @UInt8 @UInt8.ofNat (@List.nil @Nat))))) ∧
  ((@Bool.false = @Bool.false) ∧
  (((0 : @Int) = (0 : @Int)) ∧
  ((@Bool.false = @Bool.false) ∧
  (((@ByteArray.mk (@List.toArray @UInt8 (@List.map @Nat @UInt8 @UInt8.ofNat (@List.nil @Nat)))) = (@ByteArray.mk (@List.toArray @UInt8 (@List.map @Nat @UInt8 @UInt8.ofNat (@List.nil @Nat))))) ∧
  (((0 : @Int) = (0 : @Int)) ∧
  (((0 : @Int) = (0 : @Int)) ∧
  (((0 : @Int) = (0 : @Int)) ∧
  (((0 : @Int) = (0 : @Int)) ∧
  ((((0 : @Int) - (1 : @Int)) = ((0 : @Int) - (1 : @Int))) ∧
  (((0 : @Int) = (0 : @Int)) ∧
  (((0 : @Int) = (0 : @Int)) ∧
  (((Value.slice (@Option.none @Addr) (0 : @Nat) (0 : @Nat)) = (Value.slice (@Option.none @Addr) (0 : @Nat) (0 : @Nat))) ∧
  (((0 : @Int) = (0 : @Int)) ∧
  (((Value.slice (@Option.none @Addr) (0 : @Nat) (0 : @Nat)) = (Value.slice (@Option.none @Addr) (0 : @Nat) (0 : @Nat))) ∧
  (((0 : @Int) = (0 : @Int)) ∧
  ((@Bool.false = @Bool.false) ∧
  (((@ByteArray.mk (@List.toArray @UInt8 (@List.map @Nat @UInt8 @UInt8.ofNat (@List.nil @Nat)))) = (@ByteArray.mk (@List.toArray @UInt8 (@List.map @Nat @UInt8 @UInt8.ofNat (@List.nil @Nat))))) ∧
  (((Value.slice (@Option.none @Addr) (0 : @Nat) (0 : @Nat)) = (Value.slice (@Option.none @Addr) (0 : @Nat) (0 : @Nat))) ∧
  (((Value.slice (@Option.none @Addr) (0 : @Nat) (0 : @Nat)) = (Value.slice (@Option.none @Addr) (0 : @Nat) (0 : @Nat))) ∧
  (((0 : @Int) = (0 : @Int)) ∧
  True)))))))))))))))))))))))))))) ∧
  True))) ∧
  (((x_3 = y_1) ∧
  True) ∧
  (∀ (y_2 : @Own), ((@Hd (@isMem @sSF3M @sSF3O y_2)) → ((@I64 (4 : @Int)) ∧
  (∃ (x_4 : @Own), ((@Hd (@isMem @sSF3M @sSF3O x_4)) ∧
  ((((0 : @Nat) = (0 : @Nat)) ∧
  (((0 : @Int) = (0 : @Int)) ∧
  ((((2 : @Int) = (2 : @Int)) ∧
  (((@ByteArray.mk (@List.toArray @UInt8 (@List.map @Nat @UInt8 @UInt8.ofNat [(98 : @Nat)]))) = (@ByteArray.mk (@List.toArray @UInt8 (@List.map @Nat @UInt8 @UInt8.ofNat [(98 : @Nat)])))) ∧
  (((@ByteArray.mk (@List.toArray @UInt8 (@List.map @Nat @UInt8 @UInt8.ofNat [(50 : @Nat)]))) = (@ByteArray.mk (@List.toArray @UInt8 (@List.map @Nat @UInt8 @UInt8.ofNat [(50 : @Nat)])))) ∧
  (((@ByteArray.mk (@List.toArray @UInt8 (@List.map @Nat @UInt8 @UInt8.ofNat (@List.nil @Nat)))) = (@ByteArray.mk (@List.toArray @UInt8 (@List.map @Nat @UInt8 @UInt8.ofNat (@List.nil @Nat))))) ∧
  (((Value.slice (@Option.none @Addr) (0 : @Nat) (0 : @Nat)) = (Value.slice (@Option.none @Addr) (0 : @Nat) (0 : @Nat))) ∧
  (((4 : @Int) = (4 : @Int)) ∧
  (((1 : @Int) = (1 : @Int)) ∧
  (((@ByteArray.mk (@List.toArray @UInt8 (@List.map @Nat @UInt8 @UInt8.ofNat (@List.nil @Nat)))) = (@ByteArray.mk (@List.toArray @UInt8 (@List.map @Nat @UInt8 @UInt8.ofNat (@List.nil @Nat))))) ∧
  ((@Bool.false = @Bool.false) ∧
  (((0 : @Int) = (0 : @Int)) ∧
  ((@Bool.false = @Bool.false) ∧
  (((@ByteArray.mk (@List.toArray @UInt8 (@List.map @Nat @UInt8 @UInt8.ofNat (@List.nil @Nat)))) = (@ByteArray.mk (@List.toArray @UInt8 (@List.map @Nat @UInt8 @UInt8.ofNat (@List.nil @Nat))))) ∧
  (((0 : @Int) = (0 : @Int)) ∧
  (((0 : @Int) = (0 : @Int)) ∧
  (((0 : @Int) = (0 : @Int)) ∧
  (((0 : @Int) = (0 : @Int)) ∧
  (((3 : @Int) = (3 : @Int)) ∧
  (((0 : @Int) = (0 : @Int)) ∧
  (((0 : @Int) = (0 : @Int)) ∧
  (((Value.slice (@Option.none @Addr) (0 : @Nat) (0 : @Nat)) = (Value.slice (@Option.none @Addr) (0 : @Nat) (0 : @Nat))) ∧
  (((0 : @Int) = (0 : @Int)) ∧
  (((Value.slice (@Option.none @Addr) (0 : @Nat) (0 : @Nat)) = (Value.slice (@Option.none @Addr) (0 : @Nat) (0 : @Nat))) ∧
  (((0 : @Int) = (0 : @Int)) ∧
  ((@Bool.false = @Bool.false) ∧
  (((@ByteArray.mk (@List.toArray @UInt8 (@List.map @Nat @UInt8 @UInt8.ofNat (@List.nil @Nat)))) = (@ByteArray.mk (@List.toArray @UInt8 (@List.map @Nat @UInt8 @UInt8.ofNat (@List.nil @Nat))))) ∧
  (((Value.slice (@Option.none @Addr) (0 : @Nat) (0 : @Nat)) = (Value.slice (@Option.none @Addr) (0 : @Nat) (0 : @Nat))) ∧
  (((Value.slice (@Option.none @Addr) (0 : @Nat) (0 : @Nat)) = (Value.slice (@Option.none @Addr) (0 : @Nat) (0 : @Nat))) ∧
  (((0 : @Int) = (0 : @Int)) ∧
  True)))))))))))))))))))))))))))) ∧
  True))) ∧
  (((x_4 = y_2) ∧
  True) ∧
  (∀ (y_3 : @Own), ((@Hd (@isMem @sSF4M @sSF4O y_3)) → ((@I64 (5 : @Int)) ∧
  (∃ (x_5 : @Own), ((@Hd (@isMem @sSF4M @sSF4O x_5)) ∧
  ((((0 : @Nat) = (0 : @Nat)) ∧
  (((0 : @Int) = (0 : @Int)) ∧
  ((((2 : @Int) = (2 : @Int)) ∧
  (((@ByteArray.mk (@List.toArray @UInt8 (@List.map @Nat @UInt8 @UInt8.ofNat [(98 : @Nat)]))) = (@ByteArray.mk (@List.toArray @UInt8 (@List.map @Nat @UInt8 @UInt8.ofNat [(98 : @Nat)])))) ∧
  (((@ByteArray.mk (@List.toArray @UInt8 (@List.map @Nat @UInt8 @UInt8.ofNat [(50 : @Nat)]))) = (@ByteArray.mk (@List.toArray @UInt8 (@List.map @Nat @UInt8 @UInt8.ofNat [(50 : @Nat)])))) ∧
  (((@ByteArray.mk (@List.toArray @UInt8 (@List.map @Nat @UInt8 @UInt8.ofNat (@List.nil @Nat)))) = (@ByteArray.mk (@List.toArray @UInt8 (@List.map @Nat @UInt8 @UInt8.ofNat (@List.nil @Nat))))) ∧
  (((Value.slice (@Option.none @Addr) (0 : @Nat) (0 : @Nat)) = (Value.slice (@Option.none @Addr) (0 : @Nat) (0 : @Nat))) ∧
  (((5 : @Int) = (5 : @Int)) ∧
  (((1 : @Int) = (1 : @Int)) ∧
  (((@ByteArray.mk (@List.toArray @UInt8 (@List.map @Nat @UInt8 @UInt8.ofNat (@List.nil @Nat)))) = (@ByteArray.mk (@List.toArray @UInt8 (@List.map @Nat @UInt8 @UInt8.ofNat (@List.nil @Nat))))) ∧
  ((@Bool.false = @Bool.false) ∧
  (((0 : @Int) = (0 : @Int)) ∧
  ((@Bool.false = @Bool.false) ∧
  (((@ByteArray.mk (@List.toArray @UInt8 (@List.map @Nat @UInt8 @UInt8.ofNat (@List.nil @Nat)))) = (@ByteArray.mk (@List.toArray @UInt8 (@List.map @Nat @UInt8 @UInt8.ofNat (@List.nil @Nat))))) ∧
  (((0 : @Int) = (0 : @Int)) ∧
  (((0 : @Int) = (0 : @Int)) ∧
  (((0 : @Int) = (0 : @Int)) ∧
  (((0 : @Int) = (0 : @Int)) ∧
  (((3 : @Int) = (3 : @Int)) ∧
  (((0 : @Int) = (0 : @Int)) ∧
  (((0 : @Int) = (0 : @Int)) ∧
  (((Value.slice (@Option.none @Addr) (0 : @Nat) (0 : @Nat)) = (Value.slice (@Option.none @Addr) (0 : @Nat) (0 : @Nat))) ∧
  (((0 : @Int) = (0 : @Int)) ∧
  (((Value.slice (@Option.none @Addr) (0 : @Nat) (0 : @Nat)) = (Value.slice (@Option.none @Addr) (0 : @Nat) (0 : @Nat))) ∧
  (((0 : @Int) = (0 : @Int)) ∧
  ((@Bool.false = @Bool.false) ∧
  (((@ByteArray.mk (@List.toArray @UInt8 (@List.map @Nat @UInt8 @UInt8.ofNat (@List.nil @Nat)))) = (@ByteArray.mk (@List.toArray @UInt8 (@List.map @Nat @UInt8 @UInt8.ofNat (@List.nil @Nat))))) ∧
  (((Value.slice (@Option.none @Addr) (0 : @Nat) (0 : @Nat)) = (Value.slice (@Option.none @Addr) (0 : @Nat) (0 : @Nat))) ∧
  (((Value.slice (@Option.none @Addr) (0 : @Nat) (0 : @Nat)) = (Value.slice (@Option.none @Addr) (0 : @Nat) (0 : @Nat))) ∧
  (((0 : @Int) = (0 : @Int)) ∧
  True)))))))))))))))))))))))))))) ∧
  True))) ∧
  (((x_5 = y_3) ∧
  True) ∧
  (∀ (y_4 : @Own), ((@Hd (@isMem @sSF5M @sSF5O y_4)) → ((@I64 (6 : @Int)) ∧
  (∃ (x_6 : @Own), ((@Hd (@isMem @sSF5M @sSF5O x_6)) ∧
  ((((0 : @Nat) = (0 : @Nat)) ∧
  (((0 : @Int) = (0 : @Int)) ∧
  ((((2 : @Int) = (2 : @Int)) ∧
  (((@ByteArray.mk (@List.toArray @UInt8 (@List.map @Nat @UInt8 @UInt8.ofNat [(98 : @Nat)]))) = (@ByteArray.mk (@List.toArray @UInt8 (@List.map @Nat @UInt8 @UInt8.ofNat [(98 : @Nat)])))) ∧
  (((@ByteArray.mk (@List.toArray @UInt8 (@List.map @Nat @UInt8 @UInt8.ofNat [(50 : @Nat)]))) = (@ByteArray.mk (@List.toArray @UInt8 (@List.map @Nat @UInt8 @UInt8.ofNat [(50 : @Nat)])))) ∧
  (((@ByteArray.mk (@List.toArray @UInt8 (@List.map @Nat @UInt8 @UInt8.ofNat (@List.nil @Nat)))) = (@ByteArray.mk (@List.toArray @UInt8 (@List.map @Nat @UInt8 @UInt8.ofNat (@List.nil @Nat))))) ∧
  (((Value.slice (@Option.none @Addr) (0 : @Nat) (0 : @Nat)) = (Value.slice (@Option.none @Addr) (0 : @Nat) (0 : @Nat))) ∧
  (((6 : @Int) = (6 : @Int)) ∧
  (((1 : @Int) = (1 : @Int)) ∧
  (((@ByteArray.mk (@List.toArray @UInt8 (@List.map @Nat @UInt8 @UInt8.ofNat (@List.nil @Nat)))) = (@ByteArray.mk (@List.toArray @UInt8 (@List.map @Nat @UInt8 @UInt8.ofNat (@List.nil @Nat))))) ∧
  ((@Bool.false = @Bool.false) ∧
  (((0 : @Int) = (0 : @Int)) ∧
  ((@Bool.false = @Bool.false) ∧
  (((@ByteArray.mk (@List.toArray @UInt8 (@List.map @Nat @UInt8 @UInt8.ofNat (@List.nil @Nat)))) = (@ByteArray.mk (@List.toArray @UInt8 (@List.map @Nat @UInt8 @UInt8.ofNat (@List.nil @Nat))))) ∧
  (((0 : @Int) = (0 : @Int)) ∧
  (((0 : @Int) = (0 : @Int)) ∧
  (((0 : @Int) = (0 : @Int)) ∧
  (((0 : @Int) = (0 : @Int)) ∧
  ((((0 : @Int) - (1 : @Int)) = ((0 : @Int) - (1 : @Int))) ∧
  (((0 : @Int) = (0 : @Int)) ∧
  (((0 : @Int) = (0 : @Int)) ∧
  (((Value.slice (@Option.none @Addr) (0 : @Nat) (0 : @Nat)) = (Value.slice (@Option.none @Addr) (0 : @Nat) (0 : @Nat))) ∧
  (((0 : @Int) = (0 : @Int)) ∧
  (((Value.slice (@Option.none @Addr) (0 : @Nat) (0 : @Nat)) = (Value.slice (@Option.none @Addr) (0 : @Nat) (0 : @Nat))) ∧
  (((0 : @Int) = (0 : @Int)) ∧
  ((@Bool.false = @Bool.false) ∧
  (((@ByteArray.mk (@List.toArray @UInt8 (@List.map @Nat @UInt8 @UInt8.ofNat (@List.nil @Nat)))) = (@ByteArray.mk (@List.toArray @UInt8 (@List.map @Nat @UInt8 @UInt8.ofNat (@List.nil @Nat))))) ∧
  (((Value.slice (@Option.none @Addr) (0 : @Nat) (0 : @Nat)) = (Value.slice (@Option.none @Addr) (0 : @Nat) (0 : @Nat))) ∧
  (((Value.slice (@Option.none @Addr) (0 : @Nat) (0 : @Nat)) = (Value.slice (@Option.none @Addr) (0 : @Nat) (0 : @Nat))) ∧
  (((1 : @Int) = (1 : @Int)) ∧
  True)))))))))))))))))))))))))))) ∧
  True))) ∧
  (((x_6 = y_4) ∧
  True) ∧
  (∀ (y_5 : @Own), ((@Hd (@isMem @sSF6M @sSF6O y_5)) → (∃ (y_6 : @Own), ((@Hd (@isMem @sSF6M @sSF6O y_6)) ∧
  (((((0 : @Int) = (0 : @Int)) ∧
  ((@Bool.false = @Bool.false) ∧
  ((@es = (@ByteArray.mk (@List.toArray @UInt8 (@List.map @Nat @UInt8 @UInt8.ofNat (@List.nil @Nat))))) ∧
  (((Value.slice (@Option.none @Addr) (0 : @Nat) (0 : @Nat)) = (Value.slice (@Option.none @Addr) (0 : @Nat) (0 : @Nat))) ∧
  (((Value.slice (@Option.none @Addr) (0 : @Nat) (0 : @Nat)) = (Value.slice (@Option.none @Addr) (0 : @Nat) (0 : @Nat))) ∧
  (((1 : @Int) = (1 : @Int)) ∧
  True)))))) ∧
  (((6 : @Int) = (6 : @Int)) ∧
  ((@Bool.true = @Bool.true) ∧
  True))) ∧
  ((y_6 = y_5) ∧
  True)))))))))))))))))))))))))))))))))))))))))))))
theorem runPutBVC_ok (x : Own) : runPutBVC x = runPutBVC_wp x := by kernel_rfl
def runScanVC_wp (x : Own) : Prop := wpF Tryz.prog [(40, byI scanKey scanL)] tt noAn 400 6 95 (scanRC.args x) (hO scanRC.k (scanRC.os x)) (fun v h' => endsP scanRC.k x v h' scanRC.outs)
def runScanVC (x : Own) : Prop :=
  (∃ (x_1 : @Own), ((@Hd (@isMem @sSF6M @sSF6O x_1)) ∧
  ((((0 : @Nat) = (0 : @Nat)) ∧
  (((0 : @Int) = (0 : @Int)) ∧
  ((((6 : @Int) = (6 : @Int)) ∧
  (((@ByteArray.mk (@List.toArray @UInt8 (@List.map @Nat @UInt8 @UInt8.ofNat [(98 : @Nat)]))) = (@ByteArray.mk (@List.toArray @UInt8 (@List.map @Nat @UInt8 @UInt8.ofNat [(98 : @Nat)])))) ∧
  ((@es = @es) ∧
  ((@es = @es) ∧
  (((Value.slice (@Option.none @Addr) (0 : @Nat) (0 : @Nat)) = (Value.slice (@Option.none @Addr) (0 : @Nat) (0 : @Nat))) ∧
  (((0 : @Int) = (0 : @Int)) ∧
  (((0 : @Int) = (0 : @Int)) ∧
  ((@es = (@ByteArray.mk (@List.toArray @UInt8 (@List.nil @UInt8)))) ∧
  ((@Bool.false = @Bool.false) ∧
  (((0 : @Int) = (0 : @Int)) ∧
  ((@Bool.false = @Bool.false) ∧
  ((@es = (@ByteArray.mk (@List.toArray @UInt8 (@List.nil @UInt8)))) ∧
  (((0 : @Int) = (0 : @Int)) ∧
  (((0 : @Int) = (0 : @Int)) ∧
  (((0 : @Int) = (0 : @Int)) ∧
  (((0 : @Int) = (0 : @Int)) ∧
  (((-(1 : @Int)) = (-(1 : @Int))) ∧
  (((0 : @Int) = (0 : @Int)) ∧
  (((0 : @Int) = (0 : @Int)) ∧
  (((Value.slice (@Option.none @Addr) (0 : @Nat) (0 : @Nat)) = (Value.slice (@Option.none @Addr) (0 : @Nat) (0 : @Nat))) ∧
  (((0 : @Int) = (0 : @Int)) ∧
  (((Value.slice (@Option.none @Addr) (0 : @Nat) (0 : @Nat)) = (Value.slice (@Option.none @Addr) (0 : @Nat) (0 : @Nat))) ∧
  (((0 : @Int) = (0 : @Int)) ∧
  ((@Bool.false = @Bool.false) ∧
  ((@es = (@ByteArray.mk (@List.toArray @UInt8 (@List.nil @UInt8)))) ∧
  (((Value.slice (@Option.none @Addr) (0 : @Nat) (0 : @Nat)) = (Value.slice (@Option.none @Addr) (0 : @Nat) (0 : @Nat))) ∧
  (((Value.slice (@Option.none @Addr) (0 : @Nat) (0 : @Nat)) = (Value.slice (@Option.none @Addr) (0 : @Nat) (0 : @Nat))) ∧
  (((0 : @Int) = (0 : @Int)) ∧
  True)))))))))))))))))))))))))))) ∧
  True))) ∧
  (((x_1 = x) ∧
  True) ∧
  (∀ (y : @Own), ((@Hd (@isMem @sSG1M @sSG1O y)) → ((@I64 (1 : @Int)) ∧
  (∃ (x_2 : @Own), ((@Hd (@isMem @sSG1M @sSG1O x_2)) ∧
  ((((0 : @Nat) = (0 : @Nat)) ∧
  (((0 : @Int) = (0 : @Int)) ∧
  ((((6 : @Int) = (6 : @Int)) ∧
  (((@ByteArray.mk (@List.toArray @UInt8 (@List.map @Nat @UInt8 @UInt8.ofNat [(98 : @Nat)]))) = (@ByteArray.mk (@List.toArray @UInt8 (@List.map @Nat @UInt8 @UInt8.ofNat [(98 : @Nat)])))) ∧
  (((@ByteArray.mk (@List.toArray @UInt8 (@List.map @Nat @UInt8 @UInt8.ofNat (@List.nil @Nat)))) = (@ByteArray.mk (@List.toArray @UInt8 (@List.map @Nat @UInt8 @UInt8.ofNat (@List.nil @Nat))))) ∧
  (((@ByteArray.mk (@List.toArray @UInt8 (@List.map @Nat @UInt8 @UInt8.ofNat (@List.nil @Nat)))) = (@ByteArray.mk (@List.toArray @UInt8 (@List.map @Nat @UInt8 @UInt8.ofNat (@List.nil @Nat))))) ∧
  (((Value.slice (@Option.none @Addr) (0 : @Nat) (0 : @Nat)) = (Value.slice (@Option.none @Addr) (0 : @Nat) (0 : @Nat))) ∧
  (((8 : @Int) = (8 : @Int)) ∧
  (((1 : @Int) = (1 : @Int)) ∧
  (((@ByteArray.mk (@List.toArray @UInt8 (@List.map @Nat @UInt8 @UInt8.ofNat (@List.nil @Nat)))) = (@ByteArray.mk (@List.toArray @UInt8 (@List.map @Nat @UInt8 @UInt8.ofNat (@List.nil @Nat))))) ∧
  ((@Bool.false = @Bool.false) ∧
  (((4 : @Int) = (4 : @Int)) ∧
  ((@Bool.false = @Bool.false) ∧
  (((@ByteArray.mk (@List.toArray @UInt8 (@List.map @Nat @UInt8 @UInt8.ofNat (@List.nil @Nat)))) = (@ByteArray.mk (@List.toArray @UInt8 (@List.map @Nat @UInt8 @UInt8.ofNat (@List.nil @Nat))))) ∧
  (((0 : @Int) = (0 : @Int)) ∧
  (((0 : @Int) = (0 : @Int)) ∧
  (((0 : @Int) = (0 : @Int)) ∧
  (((0 : @Int) = (0 : @Int)) ∧
  ((((0 : @Int) - (1 : @Int)) = ((0 : @Int) - (1 : @Int))) ∧
  (((0 : @Int) = (0 : @Int)) ∧
  (((0 : @Int) = (0 : @Int)) ∧
  (((Value.slice (@Option.none @Addr) (0 : @Nat) (0 : @Nat)) = (Value.slice (@Option.none @Addr) (0 : @Nat) (0 : @Nat))) ∧
  (((0 : @Int) = (0 : @Int)) ∧
  (((Value.slice (@Option.none @Addr) (0 : @Nat) (0 : @Nat)) = (Value.slice (@Option.none @Addr) (0 : @Nat) (0 : @Nat))) ∧
  (((0 : @Int) = (0 : @Int)) ∧
  ((@Bool.false = @Bool.false) ∧
  (((@ByteArray.mk (@List.toArray @UInt8 (@List.map @Nat @UInt8 @UInt8.ofNat (@List.nil @Nat)))) = (@ByteArray.mk (@List.toArray @UInt8 (@List.map @Nat @UInt8 @UInt8.ofNat (@List.nil @Nat))))) ∧
  (((Value.slice (@Option.none @Addr) (0 : @Nat) (0 : @Nat)) = (Value.slice (@Option.none @Addr) (0 : @Nat) (0 : @Nat))) ∧
  (((Value.slice (@Option.none @Addr) (0 : @Nat) (0 : @Nat)) = (Value.slice (@Option.none @Addr) (0 : @Nat) (0 : @Nat))) ∧
  (((0 : @Int) = (0 : @Int)) ∧
  True)))))))))))))))))))))))))))) ∧
  True))) ∧
  (((x_2 = y) ∧
  True) ∧
  (∀ (y_1 : @Own), ((@Hd (@isMem @sSG2M @sSG2O y_1)) → ((@I64 (2 : @Int)) ∧
  (∃ (x_3 : @Own), ((@Hd (@isMem @sSG2M @sSG2O x_3)) ∧
  ((((0 : @Nat) = (0 : @Nat)) ∧
  (((0 : @Int) = (0 : @Int)) ∧
  ((((6 : @Int) = (6 : @Int)) ∧
  (((@ByteArray.mk (@List.toArray @UInt8 (@List.map @Nat @UInt8 @UInt8.ofNat [(98 : @Nat)]))) = (@ByteArray.mk (@List.toArray @UInt8 (@List.map @Nat @UInt8 @UInt8.ofNat [(98 : @Nat)])))) ∧
  (((@ByteArray.mk (@List.toArray @UInt8 (@List.map @Nat @UInt8 @UInt8.ofNat (@List.nil @Nat)))) = (@ByteArray.mk (@List.toArray @UInt8 (@List.map @Nat @UInt8 @UInt8.ofNat (@List.nil @Nat))))) ∧
  (((@ByteArray.mk (@List.toArray @UInt8 (@List.map @Nat @UInt8 @UInt8.ofNat (@List.nil @Nat)))) = (@ByteArray.mk (@List.toArray @UInt8 (@List.map @Nat @UInt8 @UInt8.ofNat (@List.nil @Nat))))) ∧
  (((Value.slice (@Option.none @Addr) (0 : @Nat) (0 : @Nat)) = (Value.slice (@Option.none @Addr) (0 : @Nat) (0 : @Nat))) ∧
  (((8 : @Int) = (8 : @Int)) ∧
  (((1 : @Int) = (1 : @Int)) ∧
  (((@ByteArray.mk (@List.toArray @UInt8 (@List.map @Nat @UInt8 @UInt8.ofNat [(97 : @Nat)]))) = (@ByteArray.mk (@List.toArray @UInt8 (@List.map @Nat @UInt8 @UInt8.ofNat [(97 : @Nat)])))) ∧
  ((@Bool.true = @Bool.true) ∧
  (((4 : @Int) = (4 : @Int)) ∧
  ((@Bool.false = @Bool.false) ∧
  (((@ByteArray.mk (@List.toArray @UInt8 (@List.map @Nat @UInt8 @UInt8.ofNat (@List.nil @Nat)))) = (@ByteArray.mk (@List.toArray @UInt8 (@List.map @Nat @UInt8 @UInt8.ofNat (@List.nil @Nat))))) ∧
  (((0 : @Int) = (0 : @Int)) ∧
  (((0 : @Int) = (0 : @Int)) ∧
  (((0 : @Int) = (0 : @Int)) ∧
  (((0 : @Int) = (0 : @Int)) ∧
  ((((0 : @Int) - (1 : @Int)) = ((0 : @Int) - (1 : @Int))) ∧
  (((0 : @Int) = (0 : @Int)) ∧
  (((0 : @Int) = (0 : @Int)) ∧
  (((Value.slice (@Option.none @Addr) (0 : @Nat) (0 : @Nat)) = (Value.slice (@Option.none @Addr) (0 : @Nat) (0 : @Nat))) ∧
  (((0 : @Int) = (0 : @Int)) ∧
  (((Value.slice (@Option.none @Addr) (0 : @Nat) (0 : @Nat)) = (Value.slice (@Option.none @Addr) (0 : @Nat) (0 : @Nat))) ∧
  (((0 : @Int) = (0 : @Int)) ∧
  ((@Bool.false = @Bool.false) ∧
  (((@ByteArray.mk (@List.toArray @UInt8 (@List.map @Nat @UInt8 @UInt8.ofNat (@List.nil @Nat)))) = (@ByteArray.mk (@List.toArray @UInt8 (@List.map @Nat @UInt8 @UInt8.ofNat (@List.nil @Nat))))) ∧
  (((Value.slice (@Option.none @Addr) (0 : @Nat) (0 : @Nat)) = (Value.slice (@Option.none @Addr) (0 : @Nat) (0 : @Nat))) ∧
  (((Value.slice (@Option.none @Addr) (0 : @Nat) (0 : @Nat)) = (Value.slice (@Option.none @Addr) (0 : @Nat) (0 : @Nat))) ∧
  (((0 : @Int) = (0 : @Int)) ∧
  True)))))))))))))))))))))))))))) ∧
  True))) ∧
  (((x_3 = y_1) ∧
  True) ∧
  (∀ (y_2 : @Own), ((@Hd (@isMem @sSG3M @sSG3O y_2)) → ((@I64 (3 : @Int)) ∧
  (∃ (x_4 : @Own), ((@Hd (@isMem @sSG3M @sSG3O x_4)) ∧
  ((((0 : @Nat) = (0 : @Nat)) ∧
  (((0 : @Int) = (0 : @Int)) ∧
  ((((6 : @Int) = (6 : @Int)) ∧
  (((@ByteArray.mk (@List.toArray @UInt8 (@List.map @Nat @UInt8 @UInt8.ofNat [(98 : @Nat)]))) = (@ByteArray.mk (@List.toArray @UInt8 (@List.map @Nat @UInt8 @UInt8.ofNat [(98 : @Nat)])))) ∧
  (((@ByteArray.mk (@List.toArray @UInt8 (@List.map @Nat @UInt8 @UInt8.ofNat (@List.nil @Nat)))) = (@ByteArray.mk (@List.toArray @UInt8 (@List.map @Nat @UInt8 @UInt8.ofNat (@List.nil @Nat))))) ∧
  (((@ByteArray.mk (@List.toArray @UInt8 (@List.map @Nat @UInt8 @UInt8.ofNat (@List.nil @Nat)))) = (@ByteArray.mk (@List.toArray @UInt8 (@List.map @Nat @UInt8 @UInt8.ofNat (@List.nil @Nat))))) ∧
  (((Value.slice (@Option.none @Addr) (0 : @Nat) (0 : @Nat)) = (Value.slice (@Option.none @Addr) (0 : @Nat) (0 : @Nat))) ∧
  (((8 : @Int) = (8 : @Int)) ∧
  (((1 : @Int) = (1 : @Int)) ∧
  (((@ByteArray.mk (@List.toArray @UInt8 (@List.map @Nat @UInt8 @UInt8.ofNat [(97 : @Nat)]))) = (@ByteArray.mk (@List.toArray @UInt8 (@List.map @Nat @UInt8 @UInt8.ofNat [(97 : @Nat)])))) ∧
  ((@Bool.true = @Bool.true) ∧
  (((3 : @Int) = (3 : @Int)) ∧
  ((@Bool.false = @Bool.false) ∧
  (((@ByteArray.mk (@List.toArray @UInt8 (@List.map @Nat @UInt8 @UInt8.ofNat (@List.nil @Nat)))) = (@ByteArray.mk (@List.toArray @UInt8 (@List.map @Nat @UInt8 @UInt8.ofNat (@List.nil @Nat))))) ∧
  (((0 : @Int) = (0 : @Int)) ∧
  (((0 : @Int) = (0 : @Int)) ∧
  (((0 : @Int) = (0 : @Int)) ∧
  (((0 : @Int) = (0 : @Int)) ∧
  ((((0 : @Int) - (1 : @Int)) = ((0 : @Int) - (1 : @Int))) ∧
  (((0 : @Int) = (0 : @Int)) ∧
  (((0 : @Int) = (0 : @Int)) ∧
  (((Value.slice (@Option.none @Addr) (0 : @Nat) (0 : @Nat)) = (Value.slice (@Option.none @Addr) (0 : @Nat) (0 : @Nat))) ∧
  (((0 : @Int) = (0 : @Int)) ∧
  (((Value.slice (@Option.none @Addr) (0 : @Nat) (0 : @Nat)) = (Value.slice (@Option.none @Addr) (0 : @Nat) (0 : @Nat))) ∧
  (((0 : @Int) = (0 : @Int)) ∧
  ((@Bool.false = @Bool.false) ∧
  (((@ByteArray.mk (@List.toArray @UInt8 (@List.map @Nat @UInt8 @UInt8.ofNat (@List.nil @Nat)))) = (@ByteArray.mk (@List.toArray @UInt8 (@List.map @Nat @UInt8 @UInt8.ofNat (@List.nil @Nat))))) ∧
  (((Value.slice (@Option.none @Addr) (0 : @Nat) (0 : @Nat)) = (Value.slice (@Option.none @Addr) (0 : @Nat) (0 : @Nat))) ∧
  (((Value.slice (@Option.none @Addr) (0 : @Nat) (0 : @Nat)) = (Value.slice (@Option.none @Addr) (0 : @Nat) (0 : @Nat))) ∧
  (((0 : @Int) = (0 : @Int)) ∧
  True)))))))))))))))))))))))))))) ∧
  True))) ∧
  (((x_4 = y_2) ∧
  True) ∧
  (∀ (y_3 : @Own), ((@Hd (@isMem @sSG4M @sSG4O y_3)) → ((@I64 (4 : @Int)) ∧
  (∃ (x_5 : @Own), ((@Hd (@isMem @sSG4M @sSG4O x_5)) ∧
  ((((0 : @Nat) = (0 : @Nat)) ∧
  (((0 : @Int) = (0 : @Int)) ∧
  ((((6 : @Int) = (6 : @Int)) ∧
  (((@ByteArray.mk (@List.toArray @UInt8 (@List.map @Nat @UInt8 @UInt8.ofNat [(98 : @Nat)]))) = (@ByteArray.mk (@List.toArray @UInt8 (@List.map @Nat @UInt8 @UInt8.ofNat [(98 : @Nat)])))) ∧
  (((@ByteArray.mk (@List.toArray @UInt8 (@List.map @Nat @UInt8 @UInt8.ofNat (@List.nil @Nat)))) = (@ByteArray.mk (@List.toArray @UInt8 (@List.map @Nat @UInt8 @UInt8.ofNat (@List.nil @Nat))))) ∧
  (((@ByteArray.mk (@List.toArray @UInt8 (@List.map @Nat @UInt8 @UInt8.ofNat (@List.nil @Nat)))) = (@ByteArray.mk (@List.toArray @UInt8 (@List.map @Nat @UInt8 @UInt8.ofNat (@List.nil @Nat))))) ∧
  (((Value.slice (@Option.none @Addr) (0 : @Nat) (0 : @Nat)) = (Value.slice (@Option.none @Addr) (0 : @Nat) (0 : @Nat))) ∧
  (((8 : @Int) = (8 : @Int)) ∧
  (((1 : @Int) = (1 : @Int)) ∧
  (((@ByteArray.mk (@List.toArray @UInt8 (@List.map @Nat @UInt8 @UInt8.ofNat [(97 : @Nat)]))) = (@ByteArray.mk (@List.toArray @UInt8 (@List.map @Nat @UInt8 @UInt8.ofNat [(97 : @Nat)])))) ∧
  ((@Bool.true = @Bool.true) ∧
  (((2 : @Int) = (2 : @Int)) ∧
  ((@Bool.false = @Bool.false) ∧
  (((@ByteArray.mk (@List.toArray @UInt8 (@List.map @Nat @UInt8 @UInt8.ofNat (@List.nil @Nat)))) = (@ByteArray.mk (@List.toArray @UInt8 (@List.map @Nat @UInt8 @UInt8.ofNat (@List.nil @Nat))))) ∧
  (((0 : @Int) = (0 : @Int)) ∧
  (((0 : @Int) = (0 : @Int)) ∧
  (((0 : @Int) = (0 : @Int)) ∧
  (((0 : @Int) = (0 : @Int)) ∧
  ((((0 : @Int) - (1 : @Int)) = ((0 : @Int) - (1 : @Int))) ∧
  (((0 : @Int) = (0 : @Int)) ∧
  (((0 : @Int) = (0 : @Int)) ∧
  (((Value.slice (@Option.none @Addr) (0 : @Nat) (0 : @Nat)) = (Value.slice (@Option.none @Addr) (0 : @Nat) (0 : @Nat))) ∧
  (((0 : @Int) = (0 : @Int)) ∧
  (((Value.slice (@Option.none @Addr) (0 : @Nat) (0 : @Nat)) = (Value.slice (@Option.none @Addr) (0 : @Nat) (0 : @Nat))) ∧
  (((0 : @Int) = (0 : @Int)) ∧
  ((@Bool.false = @Bool.false) ∧
  (((@ByteArray.mk (@List.toArray @UInt8 (@List.map @Nat @UInt8 @UInt8.ofNat (@List.nil @Nat)))) = (@ByteArray.mk (@List.toArray @UInt8 (@List.map @Nat @UInt8 @UInt8.ofNat (@List.nil @Nat))))) ∧
  (((Value.slice (@Option.none @Addr) (0 : @Nat) (0 : @Nat)) = (Value.slice (@Option.none @Addr) (0 : @Nat) (0 : @Nat))) ∧
  (((Value.slice (@Option.none @Addr) (0 : @Nat) (0 : @Nat)) = (Value.slice (@Option.none @Addr) (0 : @Nat) (0 : @Nat))) ∧
  (((0 : @Int) = (0 : @Int)) ∧
  True)))))))))))))))))))))))))))) ∧
  True))) ∧
  (((x_5 = y_3) ∧
  True) ∧
  (∀ (y_4 : @Own), ((@Hd (@isMem @sSG5M @sSG5O y_4)) → ((@I64 (5 : @Int)) ∧
  (∃ (x_6 : @Own), ((@Hd (@isMem @sSG5M @sSG5O x_6)) ∧
  ((((0 : @Nat) = (0 : @Nat)) ∧
  (((0 : @Int) = (0 : @Int)) ∧
  ((((6 : @Int) = (6 : @Int)) ∧
  (((@ByteArray.mk (@List.toArray @UInt8 (@List.map @Nat @UInt8 @UInt8.ofNat [(98 : @Nat)]))) = (@ByteArray.mk (@List.toArray @UInt8 (@List.map @Nat @UInt8 @UInt8.ofNat [(98 : @Nat)])))) ∧
  (((@ByteArray.mk (@List.toArray @UInt8 (@List.map @Nat @UInt8 @UInt8.ofNat (@List.nil @Nat)))) = (@ByteArray.mk (@List.toArray @UInt8 (@List.map @Nat @UInt8 @UInt8.ofNat (@List.nil @Nat))))) ∧
  (((@ByteArray.mk (@List.toArray @UInt8 (@List.map @Nat @UInt8 @UInt8.ofNat (@List.nil @Nat)))) = (@ByteArray.mk (@List.toArray @UInt8 (@List.map @Nat @UInt8 @UInt8.ofNat (@List.nil @Nat))))) ∧
  (((Value.slice (@Option.none @Addr) (0 : @Nat) (0 : @Nat)) = (Value.slice (@Option.none @Addr) (0 : @Nat) (0 : @Nat))) ∧
  (((8 : @Int) = (8 : @Int)) ∧
  (((1 : @Int) = (1 : @Int)) ∧
  (((@ByteArray.mk (@List.toArray @UInt8 (@List.map @Nat @UInt8 @UInt8.ofNat [(97 : @Nat)]))) = (@ByteArray.mk (@List.toArray @UInt8 (@List.map @Nat @UInt8 @UInt8.ofNat [(97 : @Nat)])))) ∧
  ((@Bool.true = @Bool.true) ∧
  (((1 : @Int) = (1 : @Int)) ∧
  ((@Bool.false = @Bool.false) ∧
  (((@ByteArray.mk (@List.toArray @UInt8 (@List.map @Nat @UInt8 @UInt8.ofNat (@List.nil @Nat)))) = (@ByteArray.mk (@List.toArray @UInt8 (@List.map @Nat @UInt8 @UInt8.ofNat (@List.nil @Nat))))) ∧
  (((0 : @Int) = (0 : @Int)) ∧
  (((0 : @Int) = (0 : @Int)) ∧
  (((0 : @Int) = (0 : @Int)) ∧
  (((0 : @Int) = (0 : @Int)) ∧
  ((((0 : @Int) - (1 : @Int)) = ((0 : @Int) - (1 : @Int))) ∧
  (((0 : @Int) = (0 : @Int)) ∧
  (((0 : @Int) = (0 : @Int)) ∧
  (((Value.slice (@Option.none @Addr) (0 : @Nat) (0 : @Nat)) = (Value.slice (@Option.none @Addr) (0 : @Nat) (0 : @Nat))) ∧
  (((0 : @Int) = (0 : @Int)) ∧
  (((Value.slice (@Option.none @Addr) (0 : @Nat) (0 : @Nat)) = (Value.slice (@Option.none @Addr) (0 : @Nat) (0 : @Nat))) ∧
  (((0 : @Int) = (0 : @Int)) ∧
  ((@Bool.false = @Bool.false) ∧
  (((@ByteArray.mk (@List.toArray @UInt8 (@List.map @Nat @UInt8 @UInt8.ofNat (@List.nil @Nat)))) = (@ByteArray.mk (@List.toArray @UInt8 (@List.map @Nat @UInt8 @UInt8.ofNat (@List.nil @Nat))))) ∧
  (((Value.slice (@Option.none @Addr) (0 : @Nat) (0 : @Nat)) = (Value.slice (@Option.none @Addr) (0 : @Nat) (0 : @Nat))) ∧
  (((Value.slice (@Option.none @Addr) (0 : @Nat) (0 : @Nat)) = (Value.slice (@Option.none @Addr) (0 : @Nat) (0 : @Nat))) ∧
  (((0 : @Int) = (0 : @Int)) ∧
  True)))))))))))))))))))))))))))) ∧
  True))) ∧
  (((x_6 = y_4) ∧
  True) ∧
  (∀ (y_5 : @Own), ((@Hd (@isMem @sSG6M @sSG6O y_5)) → ((@I64 (6 : @Int)) ∧
  (∃ (x_7 : @Own), ((@Hd (@isMem @sSG6M @sSG6O x_7)) ∧
  ((((0 : @Nat) = (0 : @Nat)) ∧
  (((0 : @Int) = (0 : @Int)) ∧
  ((((6 : @Int) = (6 : @Int)) ∧
  (((@ByteArray.mk (@List.toArray @UInt8 (@List.map @Nat @UInt8 @UInt8.ofNat [(98 : @Nat)]))) = (@ByteArray.mk (@List.toArray @UInt8 (@List.map @Nat @UInt8 @UInt8.ofNat [(98 : @Nat)])))) ∧
  (((@ByteArray.mk (@List.toArray @UInt8 (@List.map @Nat @UInt8 @UInt8.ofNat (@List.nil @Nat)))) = (@ByteArray.mk (@List.toArray @UInt8 (@List.map @Nat @UInt8 @UInt8.ofNat (@List.nil @Nat))))) ∧
  (((@ByteArray.mk (@List.toArray @UInt8 (@List.map @Nat @UInt8 @UInt8.ofNat (@List.nil @Nat)))) = (@ByteArray.mk (@List.toArray @UInt8 (@List.map @Nat @UInt8 @UInt8.ofNat (@List.nil @Nat))))) ∧
  (((Value.slice (@Option.none @Addr) (0 : @Nat) (0 : @Nat)) = (Value.slice (@Option.none @Addr) (0 : @Nat) (0 : @Nat))) ∧
  (((9 : @Int) = (9 : @Int)) ∧
  (((1 : @Int) = (1 : @Int)) ∧
  (((@ByteArray.mk (@List.toArray @UInt8 (@List.map @Nat @UInt8 @UInt8.ofNat [(97 : @Nat)]))) = (@ByteArray.mk (@List.toArray @UInt8 (@List.map @Nat @UInt8 @UInt8.ofNat [(97 : @Nat)])))) ∧
  ((@Bool.true = @Bool.true) ∧
  (((1 : @Int) = (1 : @Int)) ∧
  ((@Bool.false = @Bool.false) ∧
  (((@ByteArray.mk (@List.toArray @UInt8 (@List.map @Nat @UInt8 @UInt8.ofNat (@List.nil @Nat)))) = (@ByteArray.mk (@List.toArray @UInt8 (@List.map @Nat @UInt8 @UInt8.ofNat (@List.nil @Nat))))) ∧
  (((0 : @Int) = (0 : @Int)) ∧
  (((0 : @Int) = (0 : @Int)) ∧
  (((0 : @Int) = (0 : @Int)) ∧
  (((0 : @Int) = (0 : @Int)) ∧
  ((((0 : @Int) - (1 : @Int)) = ((0 : @Int) - (1 : @Int))) ∧
  (((0 : @Int) = (0 : @Int)) ∧
  (((0 : @Int) = (0 : @Int)) ∧
  (((Value.slice (@Option.none @Addr) (0 : @Nat) (0 : @Nat)) = (Value.slice (@Option.none @Addr) (0 : @Nat) (0 : @Nat))) ∧
  (((0 : @Int) = (0 : @Int)) ∧
  (((Value.slice (@Option.none @Addr) (0 : @Nat) (0 : @Nat)) = (Value.slice (@Option.none @Addr) (0 : @Nat) (0 : @Nat))) ∧
  (((0 : @Int) = (0 : @Int)) ∧
  ((@Bool.false = @Bool.false) ∧
  (((@ByteArray.mk (@List.toArray @UInt8 (@List.map @Nat @UInt8 @UInt8.ofNat (@List.nil @Nat)))) = (@ByteArray.mk (@List.toArray @UInt8 (@List.map @Nat @UInt8 @UInt8.ofNat (@List.nil @Nat))))) ∧
  (((Value.slice (@Option.none @Addr) (0 : @Nat) (0 : @Nat)) = (Value.slice (@Option.none @Addr) (0 : @Nat) (0 : @Nat))) ∧
  (((Value.slice (@Option.none @Addr) (0 : @Nat) (0 : @Nat)) = (Value.slice (@Option.none @Addr) (0 : @Nat) (0 : @Nat))) ∧
  (((0 : @Int) = (0 : @Int)) ∧
  True)))))))))))))))))))))))))))) ∧
  True))) ∧
  (((x_7 = y_5) ∧
  True) ∧
  (∀ (y_6 : @Own), ((@Hd (@isMem @sSG7M @sSG7O y_6)) → ((@I64 (7 : @Int)) ∧
  (∃ (x_8 : @Own), ((@Hd (@isMem @sSG7M @sSG7O x_8)) ∧
  ((((0 : @Nat) = (0 : @Nat)) ∧
  (((0 : @Int) = (0 : @Int)) ∧
  ((((6 : @Int) = (6 : @Int)) ∧
  (((@ByteArray.mk (@List.toArray @UInt8 (@List.map @Nat @UInt8 @UInt8.ofNat [(98 : @Nat)]))) = (@ByteArray.mk (@List.toArray @UInt8 (@List.map @Nat @UInt8 @UInt8.ofNat [(98 : @Nat)])))) ∧
  (((@ByteArray.mk (@List.toArray @UInt8 (@List.map @Nat @UInt8 @UInt8.ofNat (@List.nil @Nat)))) = (@ByteArray.mk (@List.toArray @UInt8 (@List.map @Nat @UInt8 @UInt8.ofNat (@List.nil @Nat))))) ∧
  (((@ByteArray.mk (@List.toArray @UInt8 (@List.map @Nat @UInt8 @UInt8.ofNat (@List.nil @Nat)))) = (@ByteArray.mk (@List.toArray @UInt8 (@List.map @Nat @UInt8 @UInt8.ofNat (@List.nil @Nat))))) ∧
  (((Value.slice (@Option.none @Addr) (0 : @Nat) (0 : @Nat)) = (Value.slice (@Option.none @Addr) (0 : @Nat) (0 : @Nat))) ∧
  (((2 : @Int) = (2 : @Int)) ∧
  (((1 : @Int) = (1 : @Int)) ∧
  (((@ByteArray.mk (@List.toArray @UInt8 (@List.map @Nat @UInt8 @UInt8.ofNat [(98 : @Nat)]))) = (@ByteArray.mk (@List.toArray @UInt8 (@List.map @Nat @UInt8 @UInt8.ofNat [(98 : @Nat)])))) ∧
  ((@Bool.true = @Bool.true) ∧
  (((1 : @Int) = (1 : @Int)) ∧
  ((@Bool.true = @Bool.true) ∧
  (((@ByteArray.mk (@List.toArray @UInt8 (@List.map @Nat @UInt8 @UInt8.ofNat [(98 : @Nat)]))) = (@ByteArray.mk (@List.toArray @UInt8 (@List.map @Nat @UInt8 @UInt8.ofNat [(98 : @Nat)])))) ∧
  (((2 : @Int) = (2 : @Int)) ∧
  (((2 : @Int) = (2 : @Int)) ∧
  (((3 : @Int) = (3 : @Int)) ∧
  (((0 : @Int) = (0 : @Int)) ∧
  ((((0 : @Int) - (1 : @Int)) = ((0 : @Int) - (1 : @Int))) ∧
  (((0 : @Int) = (0 : @Int)) ∧
  (((0 : @Int) = (0 : @Int)) ∧
  (((Value.slice (@Option.none @Addr) (0 : @Nat) (0 : @Nat)) = (Value.slice (@Option.none @Addr) (0 : @Nat) (0 : @Nat))) ∧
  (((0 : @Int) = (0 : @Int)) ∧
  (((Value.slice (@Option.none @Addr) (0 : @Nat) (0 : @Nat)) = (Value.slice (@Option.none @Addr) (0 : @Nat) (0 : @Nat))) ∧
  (((0 : @Int) = (0 : @Int)) ∧
  ((@Bool.false = @Bool.false) ∧
  (((@ByteArray.mk (@List.toArray @UInt8 (@List.map @Nat @UInt8 @UInt8.ofNat (@List.nil @Nat)))) = (@ByteArray.mk (@List.toArray @UInt8 (@List.map @Nat @UInt8 @UInt8.ofNat (@List.nil @Nat))))) ∧
  (((Value.slice (@Option.none @Addr) (0 : @Nat) (0 : @Nat)) = (Value.slice (@Option.none @Addr) (0 : @Nat) (0 : @Nat))) ∧
  (((Value.slice (@Option.none @Addr) (0 : @Nat) (0 : @Nat)) = (Value.slice (@Option.none @Addr) (0 : @Nat) (0 : @Nat))) ∧
  (((0 : @Int) = (0 : @Int)) ∧
  True)))))))))))))))))))))))))))) ∧
  True))) ∧
  (((x_8 = y_6) ∧
  True) ∧
  (∀ (y_7 : @Own), ((@Hd (@isMem @sSG8M @sSG8O y_7)) → ((@I64 (8 : @Int)) ∧
  (∃ (x_9 : @Own), ((@Hd (@isMem @sSG8M @sSG8O x_9)) ∧
  ((((0 : @Nat) = (0 : @Nat)) ∧
  (((0 : @Int) = (0 : @Int)) ∧
  ((((6 : @Int) = (6 : @Int)) ∧
  (((@ByteArray.mk (@List.toArray @UInt8 (@List.map @Nat @UInt8 @UInt8.ofNat [(98 : @Nat)]))) = (@ByteArray.mk (@List.toArray @UInt8 (@List.map @Nat @UInt8 @UInt8.ofNat [(98 : @Nat)])))) ∧
  (((@ByteArray.mk (@List.toArray @UInt8 (@List.map @Nat @UInt8 @UInt8.ofNat (@List.nil @Nat)))) = (@ByteArray.mk (@List.toArray @UInt8 (@List.map @Nat @UInt8 @UInt8.ofNat (@List.nil @Nat))))) ∧
  (((@ByteArray.mk (@List.toArray @UInt8 (@List.map @Nat @UInt8 @UInt8.ofNat (@List.nil @Nat)))) = (@ByteArray.mk (@List.toArray @UInt8 (@List.map @Nat @UInt8 @UInt8.ofNat (@List.nil @Nat))))) ∧
  (((Value.slice (@Option.none @Addr) (0 : @Nat) (0 : @Nat)) = (Value.slice (@Option.none @Addr) (0 : @Nat) (0 : @Nat))) ∧
  (((9 : @Int) = (9 : @Int)) ∧
  (((1 : @Int) = (1 : @Int)) ∧
  (((@ByteArray.mk (@List.toArray @UInt8 (@List.map @Nat @UInt8 @UInt8.ofNat [(98 : @Nat)]))) = (@ByteArray.mk (@List.toArray @UInt8 (@List.map @Nat @UInt8 @UInt8.ofNat [(98 : @Nat)])))) ∧
  ((@Bool.true = @Bool.true) ∧
  (((1 : @Int) = (1 : @Int)) ∧
  ((@Bool.true = @Bool.true) ∧
  (((@ByteArray.mk (@List.toArray @UInt8 (@List.map @Nat @UInt8 @UInt8.ofNat [(98 : @Nat)]))) = (@ByteArray.mk (@List.toArray @UInt8 (@List.map @Nat @UInt8 @UInt8.ofNat [(98 : @Nat)])))) ∧
  (((2 : @Int) = (2 : @Int)) ∧
  (((2 : @Int) = (2 : @Int)) ∧
  (((3 : @Int) = (3 : @Int)) ∧
  (((0 : @Int) = (0 : @Int)) ∧
  ((((0 : @Int) - (1 : @Int)) = ((0 : @Int) - (1 : @Int))) ∧
  (((0 : @Int) = (0 : @Int)) ∧
  (((1 : @Int) = (1 : @Int)) ∧
  (((Value.slice (@Option.none @Addr) (0 : @Nat) (0 : @Nat)) = (Value.slice (@Option.none @Addr) (0 : @Nat) (0 : @Nat))) ∧
  (((0 : @Int) = (0 : @Int)) ∧
  (((Value.slice (@Option.none @Addr) (0 : @Nat) (0 : @Nat)) = (Value.slice (@Option.none @Addr) (0 : @Nat) (0 : @Nat))) ∧
  (((0 : @Int) = (0 : @Int)) ∧
  ((@Bool.false = @Bool.false) ∧
  (((@ByteArray.mk (@List.toArray @UInt8 (@List.map @Nat @UInt8 @UInt8.ofNat (@List.nil @Nat)))) = (@ByteArray.mk (@List.toArray @UInt8 (@List.map @Nat @UInt8 @UInt8.ofNat (@List.nil @Nat))))) ∧
  ((((0 : @Nat) = (0 : @Nat)) ∧
  (((1 : @Nat) = (1 : @Nat)) ∧
  ((1 : @Nat) = (1 : @Nat)))) ∧
  (((Value.slice (@Option.none @Addr) (0 : @Nat) (0 : @Nat)) = (Value.slice (@Option.none @Addr) (0 : @Nat) (0 : @Nat))) ∧
  (((0 : @Int) = (0 : @Int)) ∧
  True)))))))))))))))))))))))))))) ∧
  True))) ∧
  (((x_9 = y_7) ∧
  ((((@ByteArray.mk (@List.toArray @UInt8 (@List.map @Nat @UInt8 @UInt8.ofNat [(98 : @Nat)]))) = (@ByteArray.mk (@List.toArray @UInt8 (@List.map @Nat @UInt8 @UInt8.ofNat [(98 : @Nat)])))) ∧
  (((@ByteArray.mk (@List.toArray @UInt8 (@List.map @Nat @UInt8 @UInt8.ofNat [(50 : @Nat)]))) = (@ByteArray.mk (@List.toArray @UInt8 (@List.map @Nat @UInt8 @UInt8.ofNat [(50 : @Nat)])))) ∧
  True)) ∧
  True)) ∧
  (∀ (y_8 : @Own), ((@Hd (@isMem @sSG9M @sSG9O y_8)) → ((@I64 (9 : @Int)) ∧
  (∃ (x_10 : @Own), ((@Hd (@isMem @sSG9M @sSG9O x_10)) ∧
  ((((0 : @Nat) = (0 : @Nat)) ∧
  (((0 : @Int) = (0 : @Int)) ∧
  ((((6 : @Int) = (6 : @Int)) ∧
  (((@ByteArray.mk (@List.toArray @UInt8 (@List.map @Nat @UInt8 @UInt8.ofNat [(98 : @Nat)]))) = (@ByteArray.mk (@List.toArray @UInt8 (@List.map @Nat @UInt8 @UInt8.ofNat [(98 : @Nat)])))) ∧
  (((@ByteArray.mk (@List.toArray @UInt8 (@List.map @Nat @UInt8 @UInt8.ofNat (@List.nil @Nat)))) = (@ByteArray.mk (@List.toArray @UInt8 (@List.map @Nat @UInt8 @UInt8.ofNat (@List.nil @Nat))))) ∧
  (((@ByteArray.mk (@List.toArray @UInt8 (@List.map @Nat @UInt8 @UInt8.ofNat (@List.nil @Nat)))) = (@ByteArray.mk (@List.toArray @UInt8 (@List.map @Nat @UInt8 @UInt8.ofNat (@List.nil @Nat))))) ∧
  (((Value.slice (@Option.none @Addr) (0 : @Nat) (0 : @Nat)) = (Value.slice (@Option.none @Addr) (0 : @Nat) (0 : @Nat))) ∧
  (((6 : @Int) = (6 : @Int)) ∧
  (((1 : @Int) = (1 : @Int)) ∧
  (((@ByteArray.mk (@List.toArray @UInt8 (@List.map @Nat @UInt8 @UInt8.ofNat [(98 : @Nat)]))) = (@ByteArray.mk (@List.toArray @UInt8 (@List.map @Nat @UInt8 @UInt8.ofNat [(98 : @Nat)])))) ∧
  ((@Bool.true = @Bool.true) ∧
  (((1 : @Int) = (1 : @Int)) ∧
  ((@Bool.true = @Bool.true) ∧
  (((@ByteArray.mk (@List.toArray @UInt8 (@List.map @Nat @UInt8 @UInt8.ofNat [(98 : @Nat)]))) = (@ByteArray.mk (@List.toArray @UInt8 (@List.map @Nat @UInt8 @UInt8.ofNat [(98 : @Nat)])))) ∧
  (((2 : @Int) = (2 : @Int)) ∧
  (((2 : @Int) = (2 : @Int)) ∧
  (((3 : @Int) = (3 : @Int)) ∧
  (((0 : @Int) = (0 : @Int)) ∧
  ((((0 : @Int) - (1 : @Int)) = ((0 : @Int) - (1 : @Int))) ∧
  (((0 : @Int) = (0 : @Int)) ∧
  (((1 : @Int) = (1 : @Int)) ∧
  (((Value.slice (@Option.none @Addr) (0 : @Nat) (0 : @Nat)) = (Value.slice (@Option.none @Addr) (0 : @Nat) (0 : @Nat))) ∧
  (((0 : @Int) = (0 : @Int)) ∧
  (((Value.slice (@Option.none @Addr) (0 : @Nat) (0 : @Nat)) = (Value.slice (@Option.none @Addr) (0 : @Nat) (0 : @Nat))) ∧
  (((0 : @Int) = (0 : @Int)) ∧
  ((@Bool.false = @Bool.false) ∧
  (((@ByteArray.mk (@List.toArray @UInt8 (@List.map @Nat @UInt8 @UInt8.ofNat (@List.nil @Nat)))) = (@ByteArray.mk (@List.toArray @UInt8 (@List.map @Nat @UInt8 @UInt8.ofNat (@List.nil @Nat))))) ∧
  ((((0 : @Nat) = (0 : @Nat)) ∧
  (((1 : @Nat) = (1 : @Nat)) ∧
  ((2 : @Nat) = (2 : @Nat)))) ∧
  (((Value.slice (@Option.none @Addr) (0 : @Nat) (0 : @Nat)) = (Value.slice (@Option.none @Addr) (0 : @Nat) (0 : @Nat))) ∧
  (((0 : @Int) = (0 : @Int)) ∧
  True)))))))))))))))))))))))))))) ∧
  True))) ∧
  (((x_10 = y_8) ∧
  ((((@ByteArray.mk (@List.toArray @UInt8 (@List.map @Nat @UInt8 @UInt8.ofNat [(98 : @Nat)]))) = (@ByteArray.mk (@List.toArray @UInt8 (@List.map @Nat @UInt8 @UInt8.ofNat [(98 : @Nat)])))) ∧
  (((@ByteArray.mk (@List.toArray @UInt8 (@List.map @Nat @UInt8 @UInt8.ofNat [(50 : @Nat)]))) = (@ByteArray.mk (@List.toArray @UInt8 (@List.map @Nat @UInt8 @UInt8.ofNat [(50 : @Nat)])))) ∧
  True)) ∧
  True)) ∧
  (∀ (y_9 : @Own), ((@Hd (@isMem @sSG10M @sSG10O y_9)) → (∃ (y_10 : @Own), ((@Hd (@isMem @sSG10M @sSG10O y_10)) ∧
  (((((0 : @Int) = (0 : @Int)) ∧
  ((@Bool.false = @Bool.false) ∧
  ((@es = (@ByteArray.mk (@List.toArray @UInt8 (@List.map @Nat @UInt8 @UInt8.ofNat (@List.nil @Nat))))) ∧
  ((((0 : @Nat) = (0 : @Nat)) ∧
  (((1 : @Nat) = (1 : @Nat)) ∧
  ((2 : @Nat) = (2 : @Nat)))) ∧
  (((Value.slice (@Option.none @Addr) (0 : @Nat) (0 : @Nat)) = (Value.slice (@Option.none @Addr) (0 : @Nat) (0 : @Nat))) ∧
  (((0 : @Int) = (0 : @Int)) ∧
  True)))))) ∧
  ((@Bool.true = @Bool.true) ∧
  True)) ∧
  ((y_10 = y_9) ∧
  ((((@ByteArray.mk (@List.toArray @UInt8 (@List.map @Nat @UInt8 @UInt8.ofNat [(98 : @Nat)]))) = (@ByteArray.mk (@List.toArray @UInt8 (@List.map @Nat @UInt8 @UInt8.ofNat [(98 : @Nat)])))) ∧
  (((@ByteArray.mk (@List.toArray @UInt8 (@List.map @Nat @UInt8 @UInt8.ofNat [(50 : @Nat)]))) = (@ByteArray.mk (@List.toArray @UInt8 (@List.map @Nat @UInt8 @UInt8.ofNat [(50 : @Nat)])))) ∧
  True)) ∧
  True))))))))))))))))))))))))))))))))))))))))))))))))))))))))))))))))))))))))))
theorem runScanVC_ok (x : Own) : runScanVC x = runScanVC_wp x := by kernel_rfl
def awakeSVC_wp (x : Unit) : Prop := wpF Tryz.prog [(15, ctrT newC), (84, byI keyOf [(97, ctrT putAC), (98, ctrT putBC)]), (95, ctrT scanRC)] tt noAn 400 6 39 [] (hO 0 []) (fun v _ => v = boo true)
def awakeSVC (x : Unit) : Prop :=
  (∃ (x_1 : Unit), (True ∧
  ((((10 : @Int) = (10 : @Int)) ∧
  (((1 : @Int) = (1 : @Int)) ∧
  True)) ∧
  (True ∧
  (∀ (y : @Own), ((@Hd (@isMem @sSAM @sSAO y)) → (∃ (x_2 : @Own), ((@Hd (@isMem @sSAM @sSAO x_2)) ∧
  ((((0 : @Nat) = (0 : @Nat)) ∧
  (((0 : @Int) = (0 : @Int)) ∧
  ((((2 : @Int) = (2 : @Int)) ∧
  (((@ByteArray.mk (@List.toArray @UInt8 (@List.map @Nat @UInt8 @UInt8.ofNat [(97 : @Nat)]))) = (@ByteArray.mk (@List.toArray @UInt8 [(97 : @UInt8)]))) ∧
  (((@ByteArray.mk (@List.toArray @UInt8 (@List.map @Nat @UInt8 @UInt8.ofNat [(49 : @Nat)]))) = (@ByteArray.mk (@List.toArray @UInt8 [(49 : @UInt8)]))) ∧
  ((@es = (@ByteArray.mk (@List.toArray @UInt8 (@List.nil @UInt8)))) ∧
  (((Value.slice (@Option.none @Addr) (0 : @Nat) (0 : @Nat)) = (Value.slice (@Option.none @Addr) (0 : @Nat) (0 : @Nat))) ∧
  True))))) ∧
  True))) ∧
  (((x_2 = y) ∧
  True) ∧
  (∀ (y_1 : @Own), ((@Hd (@isMem @sSE6M @sSE6O y_1)) → (∃ (x_3 : @Own), ((@Hd (@isMem @sSE6M @sSE6O x_3)) ∧
  ((((0 : @Nat) = (0 : @Nat)) ∧
  (((0 : @Int) = (0 : @Int)) ∧
  ((((2 : @Int) = (2 : @Int)) ∧
  (((@ByteArray.mk (@List.toArray @UInt8 (@List.map @Nat @UInt8 @UInt8.ofNat [(98 : @Nat)]))) = (@ByteArray.mk (@List.toArray @UInt8 [(98 : @UInt8)]))) ∧
  (((@ByteArray.mk (@List.toArray @UInt8 (@List.map @Nat @UInt8 @UInt8.ofNat [(50 : @Nat)]))) = (@ByteArray.mk (@List.toArray @UInt8 [(50 : @UInt8)]))) ∧
  ((@es = (@ByteArray.mk (@List.toArray @UInt8 (@List.nil @UInt8)))) ∧
  (((Value.slice (@Option.none @Addr) (0 : @Nat) (0 : @Nat)) = (Value.slice (@Option.none @Addr) (0 : @Nat) (0 : @Nat))) ∧
  True))))) ∧
  True))) ∧
  (((x_3 = y_1) ∧
  True) ∧
  (∀ (y_2 : @Own), ((@Hd (@isMem @sSF6M @sSF6O y_2)) → (∃ (x_4 : @Own), ((@Hd (@isMem @sSF6M @sSF6O x_4)) ∧
  ((((0 : @Nat) = (0 : @Nat)) ∧
  (((0 : @Int) = (0 : @Int)) ∧
  ((((6 : @Int) = (6 : @Int)) ∧
  (((@ByteArray.mk (@List.toArray @UInt8 (@List.map @Nat @UInt8 @UInt8.ofNat [(98 : @Nat)]))) = (@ByteArray.mk (@List.toArray @UInt8 [(98 : @UInt8)]))) ∧
  ((@es = (@ByteArray.mk (@List.toArray @UInt8 (@List.nil @UInt8)))) ∧
  ((@es = (@ByteArray.mk (@List.toArray @UInt8 (@List.nil @UInt8)))) ∧
  (((Value.slice (@Option.none @Addr) (0 : @Nat) (0 : @Nat)) = (Value.slice (@Option.none @Addr) (0 : @Nat) (0 : @Nat))) ∧
  True))))) ∧
  True))) ∧
  (((x_4 = y_2) ∧
  True) ∧
  (∀ (y_3 : @Own), ((@Hd (@isMem @sSG10M @sSG10O y_3)) → ((((0 : @Int) ≤ (0 : @Int)) ∧
  ((0 : @Int) ≤ (0 : @Int))) ∧
  ((((0 : @Int) ≤ (0 : @Int)) ∧
  ((0 : @Int) ≤ (0 : @Int))) ∧
  ((@I64 (1 : @Int)) ∧
  ((AV.lit (Value.bool @Bool.true)) = (AV.lit (Value.bool @Bool.true))))))))))))))))))))))))))))))
theorem awakeSVC_ok (x : Unit) : awakeSVC x = awakeSVC_wp x := by kernel_rfl
end Go.Proofs.YtnlpcbdmllpddaaGreat
end
section
/- Scan's awake. -/
namespace Go.Proofs.YtnlpcbdmllpddaaGreat
open Go SE
theorem bsE : bs [] = es := rfl
theorem runPutAVC_true (x : Own) (hx : Hd (isMem sSAM sSAO x)) : runPutAVC x := by
  unfold runPutAVC
  simp +contextual [hx, es, I64]
theorem runPutBVC_true (x : Own) (hx : Hd (isMem sSE6M sSE6O x)) : runPutBVC x := by
  unfold runPutBVC
  simp +contextual [hx, es, I64]
theorem runScanVC_true (x : Own) (hx : Hd (isMem sSF6M sSF6O x)) : runScanVC x := by
  unfold runScanVC
  simp +contextual [hx, es, I64]
theorem putA_ok : CtrOk Tryz.prog 84 putAC := ctr_endL tt_ok mixed (.cons (byT_ok putAL_ok) .nil) (C := putAC) (fun _ => noAn) 400 6 (fun _ => rfl) (fun _ => ⟨fun _ => rfl, trivial⟩) fun x hx => Eq.mp (runPutAVC_ok x) (runPutAVC_true x hx)
theorem putB_ok : CtrOk Tryz.prog 84 putBC := ctr_endL tt_ok mixed (.cons (byT_ok putBL_ok) .nil) (C := putBC) (fun _ => noAn) 400 6 (fun _ => rfl) (fun _ => ⟨fun _ => rfl, trivial⟩) fun x hx => Eq.mp (runPutBVC_ok x) (runPutBVC_true x hx)
theorem scanR_ok : CtrOk Tryz.prog 95 scanRC := ctr_endL tt_ok mixed (.cons (byT_ok scanL_ok) .nil) (C := scanRC) (fun _ => noAn) 400 6 (fun _ => rfl) (fun _ => ⟨fun _ => rfl, trivial⟩) fun x hx => Eq.mp (runScanVC_ok x) (runScanVC_true x hx)
theorem awakeSVC_true : awakeSVC () := by
  unfold awakeSVC
  simp +contextual [es, I64]
theorem awakeS_sp : Sp Tryz.prog 39 [] (hO 0 []) (fun v _ => v = .lit (.bool true)) :=
  wpF_ok tt_ok mixed (.cons (ctrT_ok new_ok) (.cons (byT_ok (l := [(97, _), (98, _)]) ⟨ctrT_ok putA_ok, ctrT_ok putB_ok, trivial⟩) (.cons (ctrT_ok scanR_ok) .nil))) noAn 400 6 _ _ _ _ (Eq.mp (awakeSVC_ok ()) awakeSVC_true)
end Go.Proofs.YtnlpcbdmllpddaaGreat
end
section
/- ScanNone: the call. -/
namespace Go.Proofs.YtnlpcbdmllpddaaGreat
open Go SE
theorem sNoneVC_true (c : Cll) (t : Int) : sNoneVC c t := by
  unfold sNoneVC
  simp only [hd_iff, and_true, true_and, Nat.zero_add, Nat.add_zero, unit_ex, unit_all, true_implies, implies_true, Int.toNat_natCast, eq_self, and_self]
  refine ⟨c, ⟨rfl, rfl, rfl, rfl, rfl⟩, ⟨rfl, fun _ _ => rfl⟩, fun y hy => cP_intro (fun h => trivial) (fun h => ?_)⟩
  have hs : c.small := hy (by have := of_decide_eq_false h; omega)
  refine ⟨c, hs, ⟨rfl, rfl, rfl, rfl, rfl⟩, ⟨rfl, fun _ _ => rfl⟩, ?_, ?_⟩
  · refine ⟨c, ⟨rfl, rfl, rfl, rfl⟩, fun m hm => ?_⟩
    refine ⟨(t, c), ⟨rfl, rfl, rfl, rfl, rfl⟩, c, ⟨⟨rfl, rfl, rfl, rfl⟩, rfl, rfl, rfl, rfl⟩, cP_intro (fun _ => trivial) (fun k4 => ?_)⟩
    have hk : isS c.kind := by unfold isS; simpa using k4
    exact ⟨(m, c), hk, ⟨rfl, rfl, rfl, rfl⟩, rfl, c, ⟨rfl, rfl, rfl, rfl⟩, rfl, rfl, rfl, rfl⟩
  · intro h1
    refine ⟨c, ⟨hs, h1⟩, ⟨rfl, rfl, rfl, rfl, rfl⟩, ⟨rfl, fun _ _ => rfl⟩, fun p m hm => ?_⟩
    refine ⟨(t, ⟨c, p⟩), ⟨hs, h1⟩, ⟨rfl, rfl, rfl, rfl, rfl, rfl⟩, ⟨rfl, fun _ _ => rfl⟩, fun p1 => ⟨⟨c, p1, p⟩, ⟨hs, h1⟩, ⟨⟨rfl, rfl, rfl, rfl, rfl⟩, rfl, rfl, rfl, rfl, rfl⟩, ⟨⟨rfl, fun _ _ => rfl⟩, rfl, fun _ _ => rfl⟩, cP_intro (fun _ => trivial) (fun k4 => ?_)⟩⟩
    have hk : isS c.kind := by unfold isS; simpa using k4
    exact ⟨(m, ⟨c, p⟩), ⟨⟨hs, h1⟩, hk⟩, ⟨rfl, rfl, rfl, rfl, rfl⟩, ⟨rfl, rfl, fun _ _ => rfl⟩, fun p2 => ⟨⟨c, p2, p⟩, ⟨hs, h1⟩, ⟨⟨rfl, rfl, rfl, rfl, rfl⟩, rfl, rfl, rfl, rfl, rfl⟩, ⟨rfl, fun _ _ => rfl⟩, rfl, fun _ _ => rfl⟩⟩
theorem sNone_sp (c : Cll) (t : Int) : Sp Tryz.prog 8 [i64 t, c.av 0] (hO 1 c.os) (fun v _ => v = boo true) :=
  wpF_ok tt_ok mixed (tblN_ok (.cons (stepT_ok sStW_ok sStN_ok sSaW_ok sSaN_ok) (.cons (ctrT_ok (say_ok awakeS_sp)) .nil))) noAn 400 6 _ _ _ _ (Eq.mp (sNoneVC_ok c t) (sNoneVC_true c t))
end Go.Proofs.YtnlpcbdmllpddaaGreat
end
section
/- A call that came in, opened. -/
namespace Go.Proofs.YtnlpcbdmllpddaaGreat
open Go SE
open Go.ChangeShapes Go.WideShapes Go.ChangeAt Go.RowKit
theorem own : ownKnob Tryz.prog.godebug = none := by kernel_rfl
theorem laidOut : laidOutB Tryz.prog = true := by kernel_rfl
theorem cells3 : Tryz.prog.cellsOf 3 = 1 := by kernel_rfl
theorem cells9 : Tryz.prog.cellsOf 9 = 1 := by kernel_rfl
theorem cells26 : Tryz.prog.cellsOf 22 = 1 := by kernel_rfl
theorem cells28 : Tryz.prog.cellsOf 24 = 5 := by kernel_rfl
theorem ct28 : Tryz.prog.cellTypes Tryz.prog.depth 24 = some [3, 9, 9, 9, 22] := by kernel_rfl
set_option maxRecDepth 20000 in
theorem trod_call {H : Type} {enc : TypeId × Value → H} {w : World} {base : Nat} {spare : Nat → Bool} {held : Bool} {fuel : Nat} {cs : List Value} {x : DataW H × List MemPlace} (h : DataW.trod enc Tryz.prog w base spare held fuel 24 cs = some x) :
    ∃ l : Mem, cs = l.cells ∧ ∃ fuel' y, DataW.trod enc Tryz.prog w base spare held fuel' 22 [.slice l.gp l.gn l.gc] = some y := by
  obtain ⟨hl, hf⟩ := trod_struct Tryz.underlying24 h
  rw [cells28] at hl
  match cs, hl with
  | [c0, c1, c2, c3, c4], _ =>
    simp only [List.forall_mem_cons, cells3, cells9, cells26, List.drop_zero, List.take_succ_cons, List.take_zero, List.drop_succ_cons] at hf
    obtain ⟨⟨_, _, h0⟩, ⟨_, _, h1⟩, ⟨_, _, h2⟩, ⟨_, _, h3⟩, ⟨_, _, h4⟩, _⟩ := hf
    obtain ⟨n0, e0, _⟩ := DataW.trod_int Tryz.underlying3 h0
    obtain ⟨s1, e1, _⟩ := DataW.trod_string Tryz.underlying9 h1
    obtain ⟨s2, e2, _⟩ := DataW.trod_string Tryz.underlying9 h2
    obtain ⟨s3, e3, _⟩ := DataW.trod_string Tryz.underlying9 h3
    simp only [List.cons.injEq, and_true] at e0 e1 e2 e3
    subst e0 e1 e2 e3
    rcases trod_slice Tryz.underlying22 h4 with e4 | ⟨a, len, cap, e4, _⟩
    · simp only [List.cons.injEq, and_true] at e4
      subst e4
      exact ⟨⟨n0, s1, s2, s3, none, 0, 0⟩, rfl, _, _, h4⟩
    · simp only [List.cons.injEq, and_true] at e4
      subst e4
      exact ⟨⟨n0, s1, s2, s3, some a, len, cap⟩, rfl, _, _, h4⟩
set_option maxRecDepth 20000 in
theorem open_call {H : Type} {enc : TypeId × Value → H} {W : World} {v : Value} {d : DataW H} {ps : List MemPlace} (hok : Value.okWide Tryz.prog W .any 0 24 v) (h : DataW.Trod enc Tryz.prog W 0 (fun _ => true) true 24 v d ps) :
    ∃ (s : Cll) (a : SE.Loc), (∀ (ρ : Ren) (i : Nat), ρ i = some a → VRel ρ (s.av i) v) ∧ ∀ (ρ : Ren) (S : Nat → Prop), OHolds ρ W (fun b => W.heap.size ≤ b) a S (.ro (rowG s)) := by
  obtain ⟨fuel, h⟩ := h
  unfold Value.okWide at hok
  simp only [Tryz.underlying24] at hok
  obtain ⟨cs, rfl, _, hr⟩ := hok
  obtain ⟨l, hl, fuel', y, h4⟩ := trod_call h
  obtain ⟨L⟩ := cs
  have hl : L = l.cells := hl
  subst hl
  have k4 : Cell.okWide Tryz.prog W .any 0 22 (.slice l.gp l.gn l.gc) := row_cell hr ct28 (i := 4) rfl rfl
  obtain ⟨z, c, n, a, _, _, _, hv, ho⟩ := open_cellZ (T := fun b => W.heap.size ≤ b) (f := Mem.cells) (m := 5) ⟨0, ByteArray.empty, ByteArray.empty, ByteArray.empty, none, 0, 0⟩ (fun _ => True) (fun _ => rfl) (by omega) Tryz.underlying22 cells28 k4 h4 (fun b hb => by omega)
    (fun fuel cs y h => by obtain ⟨l, e, _⟩ := trod_call h; exact ⟨l, trivial, e⟩)
  refine ⟨⟨l.kind, l.key, l.value, l.to, c, n⟩, a, fun ρ i hi => ?_, fun ρ S => ho ρ S⟩
  simp only [Cll.av, VRel]
  exact ⟨_, rfl, .cons rfl (.cons rfl (.cons rfl (.cons rfl (.cons (hv ρ i hi).2 .nil))))⟩
end Go.Proofs.YtnlpcbdmllpddaaGreat
end
