import Derived.Test.YtnlpcbdmllpddaaGreatTwa
import Derived.Test.YtnlpcbdmllpddaaGreatTwb
import Derived.Test.YtnlpcbdmllpddaaGreatTwc
import Derived.Test.YtnlpcbdmllpddaaGreatTwd
import Derived.Test.YtnlpcbdmllpddaaGreatTwe
import Derived.Test.YtnlpcbdmllpddaaGreatTwf
import Derived.Test.YtnlpcbdmllpddaaGreatTwg
import Derived.Test.YtnlpcbdmllpddaaGreatTwh
import Derived.Test.YtnlpcbdmllpddaaGreatTwi
import Derived.Test.YtnlpcbdmllpddaaGreatTwj
import Derived.Test.YtnlpcbdmllpddaaGreatTwk
import Derived.Test.YtnlpcbdmllpddaaGreatTwl
import Derived.Test.YtnlpcbdmllpddaaGreatTwm
section
/- What a closed call yields, and the memory behind it: fusee/group.Step. -/
namespace Go.Proofs.YtnlpcbdmllpddaaGreat
open Go SE
set_option maxRecDepth 100000
noncomputable section
def sSI9V : AV := (AV.agg [(i64 7), (AV.lit (Value.string (bs []))), (AV.lit (Value.string (bs []))), (AV.lit (Value.string (bs []))), (AV.slU 4 0 2 5), (i64 7), (u64 1), (AV.lit (Value.string (bs []))), (AV.lit (Value.bool false)), (i64 0), (AV.lit (Value.bool false)), (AV.lit (Value.string (bs []))), (u64 0), (u64 0), (i64 0), (i64 0), (i64 (-0 - 1)), (i64 0), (i64 0), (AV.lit (Value.slice none 0 0)), (i64 2), (AV.slU 5 0 2 8), (i64 0), (AV.lit (Value.bool false)), (AV.lit (Value.string (bs []))), (AV.lit (Value.slice none 0 0)), (AV.slU 6 0 2 1), (u64 1)])
def sSI9O : List AObj := [
(AObj.cells 117 (Cs.av [(AV.ptr 1 0), (AV.ptr 2 0), (AV.ptr 3 0), (AV.ptr 4 0), (AV.ptr 5 0), (AV.ptr 6 0), (AV.ptr 7 0), (AV.ptr 8 0), (u64 2), (u64 2), (AV.slU 9 0 2 7)])),
(AObj.cells 152 (Cs.av [(AV.ptr 10 0), (AV.lit (Value.int IntKind.u32 1)), (AV.lit (Value.int IntKind.i32 0)), (AV.lit (Value.int IntKind.u32 0))])),
(AObj.cells 289 (Cs.av [(AV.sl 11 0 1 1)])),
(AObj.cells 204 (Cs.av [(u64 1), (AV.sl 12 0 1 1)])),
(AObj.cells 201 (Cs.av ([(u64 1), (u64 0), (u64 0), (AV.sl 13 0 1 1), (AV.lit (Value.bool false)), (AV.lit (Value.bool false)), (AV.lit (Value.bool true)), (AV.lit (Value.bool true))] ++ List.replicate 512 (AV.lit (Value.bool false)) ++ [(AV.lit Value.nilFunc)]))),
(AObj.cells 247 (Cs.av [(AV.lit (Value.slice none 0 0))])),
(AObj.cells 269 (Cs.av [(AV.mp 14), (AV.mp 15), (AV.mp 16), (AV.mp 17), (AV.mp 18), (AV.mp 19), (AV.mp 20), (AV.mp 21)])),
(AObj.cells 298 (Cs.av [(AV.slU 22 0 1 5), (AV.slU 23 0 1 5), (AV.slU 24 0 1 5), (AV.slU 25 0 1 5)])),
(AObj.cells 279 (Cs.av [(AV.sl 26 0 1 1), (i64 0), (i64 1)])),
(AObj.room 155 (Cs.av [(i64 1), (AV.lit (Value.string (bs [97]))), (AV.lit (Value.string (bs [49]))), (u64 1), (u64 1), (u64 1), (i64 1), (i64 3), (AV.lit (Value.string (bs []))), (AV.lit (Value.string (bs [120]))), (u64 2), (u64 2), (u64 1), (i64 1)])),
(AObj.cells 218 (Cs.av [(AV.sl 27 0 10 10), (i64 6), (i64 2), (i64 1), (i64 0), (i64 0)])),
(AObj.cells 261 (Cs.tr 10 [(i64 0), (AV.lit (Value.bool false)), (AV.lit (Value.bool false)), (AV.lit (Value.bool false)), (AV.lit (Value.bool false)), (AV.lit (Value.bool false)), (AV.lit (Value.bool false)), (AV.lit (Value.bool false)), (AV.lit (Value.bool false)), (i64 0)] (PM.node (PM.node PM.leaf (some (AV.lit (Value.bool true))) (PM.node (PM.node PM.leaf (some (i64 2)) PM.leaf) none PM.leaf)) (some (i64 0)) (PM.node PM.leaf (some (AV.lit (Value.bool true))) PM.leaf)))),
(AObj.cells 115 (Cs.tr 1 [(u64 0)] (PM.node PM.leaf (some (u64 0)) PM.leaf))),
(AObj.cells 3 (Cs.tr 1 [(i64 0)] (PM.node PM.leaf (some (i64 2)) PM.leaf))),
(AObj.map [] 0),
(AObj.map [] 0),
(AObj.map [] 0),
(AObj.map [((AV.lit (Value.string (bs [97]))), ((AV.agg [(AV.lit (Value.string (bs [97]))), (u64 1), (u64 1), (i64 2), (i64 0)]), 0))] 1),
(AObj.map [] 0),
(AObj.map [] 0),
(AObj.map [] 0),
(AObj.map [] 0),
(AObj.room 31 (Cs.av [(AV.lit (Value.string (bs [97]))), (u64 1), (u64 1), (i64 2), (i64 0)])),
(AObj.room 31 (Cs.av [(AV.lit (Value.string (bs [97]))), (u64 1), (u64 1), (i64 2), (i64 0)])),
(AObj.room 31 (Cs.av [(AV.lit (Value.string (bs [97]))), (u64 1), (u64 1), (i64 2), (i64 0)])),
(AObj.room 31 (Cs.av [(AV.lit (Value.string (bs [97]))), (u64 1), (u64 1), (i64 2), (i64 0)])),
(AObj.cells 31 (Cs.tr 5 [(AV.lit (Value.string (bs []))), (u64 0), (u64 0), (i64 0), (i64 0)] (PM.node (PM.node (PM.node PM.leaf (some (i64 3)) PM.leaf) (some (u64 2)) PM.leaf) (some (AV.lit (Value.string (bs [])))) (PM.node (PM.node PM.leaf (some (i64 0)) PM.leaf) (some (u64 2)) PM.leaf)))),
(AObj.cells 253 (Cs.tr 1930 (List.replicate 192 (AV.lit (v8 0)) ++ [(AV.lit (Value.bool false))]) (N8 (N8 (N8 (N8 (N8 (N8 (N8 (N8 (L8 0) 0 (N8 (L8 0) 0 PM.leaf)) 0 (N8 (L8 0) 0 (L8 0))) 0 (N8 (N8 (L8 0) 0 (L8 0)) 0 (N8 (N8 (L8 0) 0 PM.leaf) 0 PM.leaf))) 0 (N8 (N8 (N8 (L8 0) 0 (L8 0)) 0 (N8 (N8 (L8 0) 0 PM.leaf) 0 PM.leaf)) 0 (N8 (N8 (L8 0) 0 (L8 0)) 0 (N8 (N8 (L8 0) 0 PM.leaf) 0 PM.leaf)))) 0 (N8 (N8 (N8 (N8 (L8 0) 0 (L8 0)) 0 (N8 (N8 (L8 1) 0 PM.leaf) 0 PM.leaf)) 0 (N8 (N8 (L8 0) 0 (L8 49)) 0 (N8 (N8 (L8 120) 0 PM.leaf) 0 PM.leaf))) 0 (N8 (N8 (N8 (L8 0) 0 (L8 0)) 0 (N8 (N8 (L8 0) 0 PM.leaf) 0 PM.leaf)) 0 (N8 (N8 (L8 0) 0 (L8 0)) 0 (N8 (N8 (L8 0) 0 PM.leaf) 0 PM.leaf))))) 83 (N8 (N8 (N8 (N8 (N8 (L8 0) 83 (L8 0)) 83 (N8 (N8 (L8 1) 0 PM.leaf) 0 PM.leaf)) 0 (N8 (N8 (L8 0) 0 (L8 38)) 0 (N8 (N8 (L8 229) 0 PM.leaf) 0 PM.leaf))) 0 (N8 (N8 (N8 (L8 0) 0 (L8 0)) 0 (N8 (N8 (L8 2) 0 PM.leaf) 0 PM.leaf)) 0 (N8 (N8 (L8 0) 0 (L8 0)) 0 (N8 (N8 (L8 0) 0 PM.leaf) 0 PM.leaf)))) 78 (N8 (N8 (N8 (N8 (L8 40) 78 (L8 0)) 78 (N8 (N8 (L8 2) 40 PM.leaf) 40 PM.leaf)) 0 (N8 (N8 (L8 0) 0 (L8 0)) 0 (N8 (N8 (L8 0) 0 PM.leaf) 0 PM.leaf))) 0 (N8 (N8 (N8 (L8 0) 0 (L8 0)) 0 (N8 (N8 (L8 1) 0 PM.leaf) 0 PM.leaf)) 0 (N8 (N8 (L8 0) 0 (L8 0)) 0 (N8 (N8 (L8 0) 0 PM.leaf) 0 PM.leaf)))))) 70 (N8 (N8 (N8 (N8 (N8 (N8 (L8 3) 70 (PM.node (L8 0) (some (AV.lit (Value.bool false))) PM.leaf)) 70 (N8 (L8 3) 3 (L8 0))) 0 (N8 (N8 (L8 0) 0 (L8 0)) 0 (N8 (N8 (L8 0) 0 PM.leaf) 0 PM.leaf))) 0 (N8 (N8 (N8 (L8 0) 0 (L8 0)) 0 (N8 (N8 (L8 0) 0 PM.leaf) 0 PM.leaf)) 0 (N8 (N8 (L8 0) 0 (L8 0)) 0 (N8 (N8 (L8 0) 0 PM.leaf) 0 PM.leaf)))) 220 (N8 (N8 (N8 (N8 (L8 0) 220 (L8 0)) 220 (N8 (N8 (L8 0) 0 PM.leaf) 0 PM.leaf)) 0 (N8 (N8 (L8 0) 0 (L8 0)) 0 (N8 (N8 (L8 0) 0 PM.leaf) 0 PM.leaf))) 0 (N8 (N8 (N8 (L8 0) 0 (L8 0)) 0 (N8 (N8 (L8 0) 0 PM.leaf) 0 PM.leaf)) 0 (N8 (N8 (L8 0) 0 (L8 0)) 0 (N8 (N8 (L8 0) 0 PM.leaf) 0 PM.leaf))))) 10 (N8 (N8 (N8 (N8 (N8 (L8 0) 10 (L8 1)) 10 (N8 (N8 (L8 2) 0 PM.leaf) 0 PM.leaf)) 0 (N8 (N8 (L8 0) 0 (L8 129)) 0 (N8 (N8 (L8 83) 0 PM.leaf) 0 PM.leaf))) 0 (N8 (N8 (N8 (L8 0) 0 (L8 0)) 0 (N8 (N8 (L8 0) 0 PM.leaf) 0 PM.leaf)) 0 (N8 (N8 (L8 0) 0 (L8 0)) 0 (N8 (N8 (L8 0) 0 PM.leaf) 0 PM.leaf)))) 0 (N8 (N8 (N8 (N8 (L8 223) 0 (L8 0)) 0 (N8 (N8 (L8 0) 223 PM.leaf) 223 PM.leaf)) 0 (N8 (N8 (L8 0) 0 (L8 0)) 0 (N8 (N8 (L8 0) 0 PM.leaf) 0 PM.leaf))) 0 (N8 (N8 (N8 (L8 0) 0 (L8 0)) 0 (N8 (N8 (L8 0) 0 PM.leaf) 0 PM.leaf)) 0 (N8 (N8 (L8 0) 0 (L8 0)) 0 (N8 (N8 (L8 0) 0 PM.leaf) 0 PM.leaf))))))) 4 (N8 (N8 (N8 (N8 (N8 (N8 (N8 (L8 0) 4 (N8 (L8 0) 0 PM.leaf)) 4 (PM.node (L8 0) (some (AV.lit (Value.bool false))) (L8 0))) 0 (N8 (N8 (L8 0) 0 (L8 0)) 0 (N8 (N8 (L8 0) 0 PM.leaf) 0 PM.leaf))) 0 (N8 (N8 (N8 (L8 0) 0 (L8 0)) 0 (N8 (N8 (L8 0) 0 PM.leaf) 0 PM.leaf)) 0 (N8 (N8 (L8 0) 0 (L8 0)) 0 (N8 (N8 (L8 0) 0 PM.leaf) 0 PM.leaf)))) 0 (N8 (N8 (N8 (N8 (L8 0) 0 (L8 0)) 0 (N8 (N8 (L8 0) 0 PM.leaf) 0 PM.leaf)) 0 (N8 (N8 (L8 0) 0 (L8 0)) 0 (N8 (N8 (L8 0) 0 PM.leaf) 0 PM.leaf))) 0 (N8 (N8 (N8 (L8 0) 0 (L8 0)) 0 (N8 (N8 (L8 0) 0 PM.leaf) 0 PM.leaf)) 0 (N8 (N8 (L8 0) 0 (L8 0)) 0 (N8 (N8 (L8 0) 0 PM.leaf) 0 PM.leaf))))) 69 (N8 (N8 (N8 (N8 (N8 (L8 0) 69 (L8 1)) 69 (N8 (N8 (L8 0) 0 PM.leaf) 0 PM.leaf)) 0 (N8 (N8 (L8 0) 0 (L8 201)) 0 (N8 (N8 (L8 138) 0 PM.leaf) 0 PM.leaf))) 0 (N8 (N8 (N8 (L8 0) 0 (L8 0)) 0 (N8 (N8 (L8 0) 0 PM.leaf) 0 PM.leaf)) 0 (N8 (N8 (L8 0) 0 (L8 0)) 0 (N8 (N8 (L8 0) 0 PM.leaf) 0 PM.leaf)))) 80 (N8 (N8 (N8 (N8 (L8 132) 80 (L8 0)) 80 (N8 (N8 (L8 0) 132 PM.leaf) 132 PM.leaf)) 0 (N8 (N8 (L8 0) 0 (L8 0)) 0 (N8 (N8 (L8 0) 0 PM.leaf) 0 PM.leaf))) 0 (N8 (N8 (N8 (L8 0) 0 (L8 0)) 0 (N8 (N8 (L8 0) 0 PM.leaf) 0 PM.leaf)) 0 (N8 (N8 (L8 0) 0 (L8 0)) 0 (N8 (N8 (L8 0) 0 PM.leaf) 0 PM.leaf)))))) 85 (N8 (N8 (N8 (N8 (N8 (N8 (L8 0) 85 (N8 (L8 0) 1 PM.leaf)) 85 (N8 (L8 0) 0 PM.leaf)) 0 (N8 (N8 (L8 0) 0 (L8 30)) 0 (N8 (N8 (L8 0) 0 PM.leaf) 0 PM.leaf))) 0 (N8 (N8 (N8 (L8 0) 0 (L8 1)) 0 (N8 (N8 (L8 0) 0 PM.leaf) 0 PM.leaf)) 0 (N8 (N8 (L8 0) 0 (L8 0)) 0 (N8 (N8 (L8 0) 0 PM.leaf) 0 PM.leaf)))) 5 (N8 (N8 (N8 (N8 (L8 107) 5 (L8 1)) 5 (N8 (N8 (L8 0) 107 PM.leaf) 107 PM.leaf)) 0 (N8 (N8 (L8 0) 0 (L8 0)) 0 (N8 (N8 (L8 0) 0 PM.leaf) 0 PM.leaf))) 0 (N8 (N8 (N8 (L8 0) 0 (L8 1)) 0 (N8 (N8 (L8 0) 0 PM.leaf) 0 PM.leaf)) 0 (N8 (N8 (L8 0) 0 (L8 0)) 0 (N8 (N8 (L8 0) 0 PM.leaf) 0 PM.leaf))))) 0 (N8 (N8 (N8 (N8 (N8 (L8 0) 0 (L8 1)) 0 (N8 (N8 (L8 0) 0 PM.leaf) 0 PM.leaf)) 0 (N8 (N8 (L8 0) 0 (L8 97)) 0 (N8 (N8 (L8 25) 0 PM.leaf) 0 PM.leaf))) 0 (N8 (N8 (N8 (L8 0) 0 (L8 0)) 0 (N8 (N8 (L8 0) 0 PM.leaf) 0 PM.leaf)) 0 (N8 (N8 (L8 0) 0 (L8 0)) 0 (N8 (N8 (L8 0) 0 PM.leaf) 0 PM.leaf)))) 0 (N8 (N8 (N8 (N8 (L8 0) 0 (L8 0)) 0 (N8 (N8 (L8 0) 0 PM.leaf) 0 PM.leaf)) 0 (N8 (N8 (L8 0) 0 (L8 0)) 0 (N8 (N8 (L8 0) 0 PM.leaf) 0 PM.leaf))) 0 (N8 (N8 (N8 (L8 0) 0 (L8 0)) 0 (N8 (N8 (L8 0) 0 PM.leaf) 0 PM.leaf)) 0 (N8 (N8 (L8 0) 0 (L8 0)) 0 (N8 (N8 (L8 0) 0 PM.leaf) 0 PM.leaf))))))))))]
abbrev sSI9M : Nat := 28
abbrev sSI9J : Nat := 3
def sSI9F : List AObj := [
(AObj.room 24 (Cs.av [(i64 2), (AV.lit (Value.string (bs [97]))), (AV.lit (Value.string (bs [49]))), (AV.lit (Value.string (bs []))), (AV.lit (Value.slice none 0 0)), (i64 4), (AV.lit (Value.string (bs []))), (AV.lit (Value.string (bs [120]))), (AV.lit (Value.string (bs []))), (AV.lit (Value.slice none 0 0))])),
(AObj.room 208 (Cs.av [(AV.lit (Value.bool false)), (AV.lit (Value.string (bs []))), (u64 0), (u64 0), (i64 0), (i64 0), (i64 (-0 - 1)), (i64 0), (AV.lit (Value.bool false)), (AV.lit (Value.string (bs []))), (u64 0), (u64 0), (i64 0), (i64 0), (i64 (-0 - 1)), (i64 0)])),
(AObj.room 4 (Cs.av [(AV.lit (Value.bool false)), (AV.lit (Value.bool false))])),
(AObj.room 24 (Cs.av [(i64 2), (AV.lit (Value.string (bs [97]))), (AV.lit (Value.string (bs [49]))), (AV.lit (Value.string (bs []))), (AV.lit (Value.slice none 0 0)), (i64 4), (AV.lit (Value.string (bs []))), (AV.lit (Value.string (bs [120]))), (AV.lit (Value.string (bs []))), (AV.lit (Value.slice none 0 0))])),
(AObj.room 208 (Cs.av [(AV.lit (Value.bool false)), (AV.lit (Value.string (bs []))), (u64 0), (u64 0), (i64 0), (i64 0), (i64 (-0 - 1)), (i64 0), (AV.lit (Value.bool false)), (AV.lit (Value.string (bs []))), (u64 0), (u64 0), (i64 0), (i64 0), (i64 (-0 - 1)), (i64 0)])),
(AObj.room 4 (Cs.av [(AV.lit (Value.bool false)), (AV.lit (Value.bool false))]))]
def sSI9X : AV := (AV.agg [(i64 7), (AV.lit (Value.string (bs []))), (AV.lit (Value.string (bs []))), (AV.lit (Value.string (bs []))), (AV.slU 1 0 2 5), (i64 7), (u64 1), (AV.lit (Value.string (bs []))), (AV.lit (Value.bool false)), (i64 0), (AV.lit (Value.bool false)), (AV.lit (Value.string (bs []))), (u64 0), (u64 0), (i64 0), (i64 0), (i64 (-0 - 1)), (i64 0), (i64 0), (AV.lit (Value.slice none 0 0)), (i64 2), (AV.slU 2 0 2 8), (i64 0), (AV.lit (Value.bool false)), (AV.lit (Value.string (bs []))), (AV.lit (Value.slice none 0 0)), (AV.slU 3 0 2 1), (u64 1)])
def sSI9H : List AObj := [
(AObj.room 24 (Cs.av [(i64 2), (AV.lit (Value.string (bs [97]))), (AV.lit (Value.string (bs [49]))), (AV.lit (Value.string (bs []))), (AV.lit (Value.slice none 0 0)), (i64 4), (AV.lit (Value.string (bs []))), (AV.lit (Value.string (bs [120]))), (AV.lit (Value.string (bs []))), (AV.lit (Value.slice none 0 0))])),
(AObj.room 208 (Cs.av [(AV.lit (Value.bool false)), (AV.lit (Value.string (bs []))), (u64 0), (u64 0), (i64 0), (i64 0), (i64 (-0 - 1)), (i64 0), (AV.lit (Value.bool false)), (AV.lit (Value.string (bs []))), (u64 0), (u64 0), (i64 0), (i64 0), (i64 (-0 - 1)), (i64 0)])),
(AObj.room 4 (Cs.av [(AV.lit (Value.bool false)), (AV.lit (Value.bool false))]))]
def sSI9A : List Nat := [0, 4, 5, 6, 7, 8, 9, 10, 11, 12, 13, 14, 15, 16, 17, 18, 19, 20, 21, 22, 23, 24, 25, 26, 27, 28, 29, 30]
def sSI9B : List Nat := [1, 2, 3, 38, 46, 50]
end
end Go.Proofs.YtnlpcbdmllpddaaGreat
end
section
/- A closed call, run: fusee/group.Step. -/
namespace Go.Proofs.YtnlpcbdmllpddaaGreat
open Go SE
set_option maxRecDepth 100000
noncomputable section
theorem sSI9_look : lookX tblR 38 = none := by kernel_rfl
theorem sSI9_run : runH Tryz.prog tblR tt 2000 40 38 [.ptr 0 0, i64 0, sSI8X] (openH 0 (hO 4 (packed sSI8M sSI8O :: sSI8H)) (hO sSI8M sSI8O)) (told2 sSI9A sSI9B) = .ok (vmap (atL (atL sSI9A 0 :: sSI9B)) sSI9V, sSI9O.map fun o => some (omap (atL sSI9A) o), sSI9F.map fun o => some (omap (atL (atL sSI9A 0 :: sSI9B)) o), 54) := by kernel_rfl
theorem sSI9_sp : Sp Tryz.prog 38 [.ptr 0 0, i64 0, sSI8X] (hO 4 (packed sSI8M sSI8O :: sSI8H)) (fun v h => v = sSI9V ∧ h = hO 7 (packed sSI9M sSI9O :: sSI9F)) :=
  stageQ tt_ok mixed tblR_ok 2000 40 4 sSI8M sSI8O sSI8H sSI9M 7 54 sSI9A sSI9B sSI9V sSI9O sSI9F sSI9_look sSI9_run (by kernel_rfl)
end
end Go.Proofs.YtnlpcbdmllpddaaGreat
end
section
/- What a closed call yields, and the memory behind it: (*fusee/arena.Arena).Shelf. -/
namespace Go.Proofs.YtnlpcbdmllpddaaGreat
open Go SE
set_option maxRecDepth 100000
noncomputable section
def sSK1V : AV := (AV.agg [(AV.slU 1 0 1 2), (AV.slU 2 0 1 1)])
def sSK1O : List AObj := [
(AObj.cells 117 (Cs.av [(AV.ptr 1 0), (AV.ptr 2 0), (AV.ptr 3 0), (AV.ptr 4 0), (AV.ptr 5 0), (AV.ptr 6 0), (AV.ptr 7 0), (AV.ptr 8 0), (u64 2), (u64 2), (AV.slU 9 0 2 7)])),
(AObj.cells 152 (Cs.av [(AV.ptr 10 0), (AV.lit (Value.int IntKind.u32 1)), (AV.lit (Value.int IntKind.i32 0)), (AV.lit (Value.int IntKind.u32 0))])),
(AObj.cells 289 (Cs.av [(AV.sl 11 0 1 1)])),
(AObj.cells 204 (Cs.av [(u64 1), (AV.sl 12 0 1 1)])),
(AObj.cells 201 (Cs.av ([(u64 1), (u64 0), (u64 0), (AV.sl 13 0 1 1), (AV.lit (Value.bool false)), (AV.lit (Value.bool false)), (AV.lit (Value.bool true)), (AV.lit (Value.bool true))] ++ List.replicate 512 (AV.lit (Value.bool false)) ++ [(AV.lit Value.nilFunc)]))),
(AObj.cells 247 (Cs.av [(AV.lit (Value.slice none 0 0))])),
(AObj.cells 269 (Cs.av [(AV.mp 14), (AV.mp 15), (AV.mp 16), (AV.mp 17), (AV.mp 18), (AV.mp 19), (AV.mp 20), (AV.mp 21)])),
(AObj.cells 298 (Cs.av [(AV.slU 22 0 1 5), (AV.slU 23 0 1 5), (AV.slU 24 0 1 5), (AV.slU 25 0 1 5)])),
(AObj.cells 279 (Cs.av [(AV.sl 26 0 1 1), (i64 0), (i64 1)])),
(AObj.room 155 (Cs.av [(i64 1), (AV.lit (Value.string (bs [97]))), (AV.lit (Value.string (bs [49]))), (u64 1), (u64 1), (u64 1), (i64 1), (i64 3), (AV.lit (Value.string (bs []))), (AV.lit (Value.string (bs [120]))), (u64 2), (u64 2), (u64 1), (i64 1)])),
(AObj.cells 218 (Cs.av [(AV.sl 27 0 10 10), (i64 6), (i64 2), (i64 1), (i64 0), (i64 0)])),
(AObj.cells 261 (Cs.tr 10 [(i64 0), (AV.lit (Value.bool false)), (AV.lit (Value.bool false)), (AV.lit (Value.bool false)), (AV.lit (Value.bool false)), (AV.lit (Value.bool false)), (AV.lit (Value.bool false)), (AV.lit (Value.bool false)), (AV.lit (Value.bool false)), (i64 0)] (PM.node (PM.node PM.leaf (some (AV.lit (Value.bool true))) (PM.node (PM.node PM.leaf (some (i64 2)) PM.leaf) none PM.leaf)) (some (i64 0)) (PM.node PM.leaf (some (AV.lit (Value.bool true))) PM.leaf)))),
(AObj.cells 115 (Cs.tr 1 [(u64 0)] (PM.node PM.leaf (some (u64 0)) PM.leaf))),
(AObj.cells 3 (Cs.tr 1 [(i64 0)] (PM.node PM.leaf (some (i64 2)) PM.leaf))),
(AObj.map [] 0),
(AObj.map [] 0),
(AObj.map [] 0),
(AObj.map [((AV.lit (Value.string (bs [97]))), ((AV.agg [(AV.lit (Value.string (bs [97]))), (u64 1), (u64 1), (i64 2), (i64 0)]), 0))] 1),
(AObj.map [] 0),
(AObj.map [] 0),
(AObj.map [] 0),
(AObj.map [] 0),
(AObj.room 31 (Cs.av [(AV.lit (Value.string (bs [97]))), (u64 1), (u64 1), (i64 2), (i64 0)])),
(AObj.room 31 (Cs.av [(AV.lit (Value.string (bs [97]))), (u64 1), (u64 1), (i64 2), (i64 0)])),
(AObj.room 31 (Cs.av [(AV.lit (Value.string (bs [97]))), (u64 1), (u64 1), (i64 2), (i64 0)])),
(AObj.room 31 (Cs.av [(AV.lit (Value.string (bs [97]))), (u64 1), (u64 1), (i64 2), (i64 0)])),
(AObj.cells 31 (Cs.tr 5 [(AV.lit (Value.string (bs []))), (u64 0), (u64 0), (i64 0), (i64 0)] (PM.node (PM.node (PM.node PM.leaf (some (i64 3)) PM.leaf) (some (u64 2)) PM.leaf) (some (AV.lit (Value.string (bs [])))) (PM.node (PM.node PM.leaf (some (i64 0)) PM.leaf) (some (u64 2)) PM.leaf)))),
(AObj.cells 253 (Cs.tr 1930 (List.replicate 192 (AV.lit (v8 0)) ++ [(AV.lit (Value.bool false))]) (N8 (N8 (N8 (N8 (N8 (N8 (N8 (N8 (L8 0) 0 (N8 (L8 0) 0 PM.leaf)) 0 (N8 (L8 0) 0 (L8 0))) 0 (N8 (N8 (L8 0) 0 (L8 0)) 0 (N8 (N8 (L8 0) 0 PM.leaf) 0 PM.leaf))) 0 (N8 (N8 (N8 (L8 0) 0 (L8 0)) 0 (N8 (N8 (L8 0) 0 PM.leaf) 0 PM.leaf)) 0 (N8 (N8 (L8 0) 0 (L8 0)) 0 (N8 (N8 (L8 0) 0 PM.leaf) 0 PM.leaf)))) 0 (N8 (N8 (N8 (N8 (L8 0) 0 (L8 0)) 0 (N8 (N8 (L8 1) 0 PM.leaf) 0 PM.leaf)) 0 (N8 (N8 (L8 0) 0 (L8 49)) 0 (N8 (N8 (L8 120) 0 PM.leaf) 0 PM.leaf))) 0 (N8 (N8 (N8 (L8 0) 0 (L8 0)) 0 (N8 (N8 (L8 0) 0 PM.leaf) 0 PM.leaf)) 0 (N8 (N8 (L8 0) 0 (L8 0)) 0 (N8 (N8 (L8 0) 0 PM.leaf) 0 PM.leaf))))) 83 (N8 (N8 (N8 (N8 (N8 (L8 0) 83 (L8 0)) 83 (N8 (N8 (L8 1) 0 PM.leaf) 0 PM.leaf)) 0 (N8 (N8 (L8 0) 0 (L8 38)) 0 (N8 (N8 (L8 229) 0 PM.leaf) 0 PM.leaf))) 0 (N8 (N8 (N8 (L8 0) 0 (L8 0)) 0 (N8 (N8 (L8 2) 0 PM.leaf) 0 PM.leaf)) 0 (N8 (N8 (L8 0) 0 (L8 0)) 0 (N8 (N8 (L8 0) 0 PM.leaf) 0 PM.leaf)))) 78 (N8 (N8 (N8 (N8 (L8 40) 78 (L8 0)) 78 (N8 (N8 (L8 2) 40 PM.leaf) 40 PM.leaf)) 0 (N8 (N8 (L8 0) 0 (L8 0)) 0 (N8 (N8 (L8 0) 0 PM.leaf) 0 PM.leaf))) 0 (N8 (N8 (N8 (L8 0) 0 (L8 0)) 0 (N8 (N8 (L8 1) 0 PM.leaf) 0 PM.leaf)) 0 (N8 (N8 (L8 0) 0 (L8 0)) 0 (N8 (N8 (L8 0) 0 PM.leaf) 0 PM.leaf)))))) 70 (N8 (N8 (N8 (N8 (N8 (N8 (L8 3) 70 (PM.node (L8 0) (some (AV.lit (Value.bool false))) PM.leaf)) 70 (N8 (L8 3) 3 (L8 0))) 0 (N8 (N8 (L8 0) 0 (L8 0)) 0 (N8 (N8 (L8 0) 0 PM.leaf) 0 PM.leaf))) 0 (N8 (N8 (N8 (L8 0) 0 (L8 0)) 0 (N8 (N8 (L8 0) 0 PM.leaf) 0 PM.leaf)) 0 (N8 (N8 (L8 0) 0 (L8 0)) 0 (N8 (N8 (L8 0) 0 PM.leaf) 0 PM.leaf)))) 220 (N8 (N8 (N8 (N8 (L8 0) 220 (L8 0)) 220 (N8 (N8 (L8 0) 0 PM.leaf) 0 PM.leaf)) 0 (N8 (N8 (L8 0) 0 (L8 0)) 0 (N8 (N8 (L8 0) 0 PM.leaf) 0 PM.leaf))) 0 (N8 (N8 (N8 (L8 0) 0 (L8 0)) 0 (N8 (N8 (L8 0) 0 PM.leaf) 0 PM.leaf)) 0 (N8 (N8 (L8 0) 0 (L8 0)) 0 (N8 (N8 (L8 0) 0 PM.leaf) 0 PM.leaf))))) 10 (N8 (N8 (N8 (N8 (N8 (L8 0) 10 (L8 1)) 10 (N8 (N8 (L8 2) 0 PM.leaf) 0 PM.leaf)) 0 (N8 (N8 (L8 0) 0 (L8 129)) 0 (N8 (N8 (L8 83) 0 PM.leaf) 0 PM.leaf))) 0 (N8 (N8 (N8 (L8 0) 0 (L8 0)) 0 (N8 (N8 (L8 0) 0 PM.leaf) 0 PM.leaf)) 0 (N8 (N8 (L8 0) 0 (L8 0)) 0 (N8 (N8 (L8 0) 0 PM.leaf) 0 PM.leaf)))) 0 (N8 (N8 (N8 (N8 (L8 223) 0 (L8 0)) 0 (N8 (N8 (L8 0) 223 PM.leaf) 223 PM.leaf)) 0 (N8 (N8 (L8 0) 0 (L8 0)) 0 (N8 (N8 (L8 0) 0 PM.leaf) 0 PM.leaf))) 0 (N8 (N8 (N8 (L8 0) 0 (L8 0)) 0 (N8 (N8 (L8 0) 0 PM.leaf) 0 PM.leaf)) 0 (N8 (N8 (L8 0) 0 (L8 0)) 0 (N8 (N8 (L8 0) 0 PM.leaf) 0 PM.leaf))))))) 4 (N8 (N8 (N8 (N8 (N8 (N8 (N8 (L8 0) 4 (N8 (L8 0) 0 PM.leaf)) 4 (PM.node (L8 0) (some (AV.lit (Value.bool false))) (L8 0))) 0 (N8 (N8 (L8 0) 0 (L8 0)) 0 (N8 (N8 (L8 0) 0 PM.leaf) 0 PM.leaf))) 0 (N8 (N8 (N8 (L8 0) 0 (L8 0)) 0 (N8 (N8 (L8 0) 0 PM.leaf) 0 PM.leaf)) 0 (N8 (N8 (L8 0) 0 (L8 0)) 0 (N8 (N8 (L8 0) 0 PM.leaf) 0 PM.leaf)))) 0 (N8 (N8 (N8 (N8 (L8 0) 0 (L8 0)) 0 (N8 (N8 (L8 0) 0 PM.leaf) 0 PM.leaf)) 0 (N8 (N8 (L8 0) 0 (L8 0)) 0 (N8 (N8 (L8 0) 0 PM.leaf) 0 PM.leaf))) 0 (N8 (N8 (N8 (L8 0) 0 (L8 0)) 0 (N8 (N8 (L8 0) 0 PM.leaf) 0 PM.leaf)) 0 (N8 (N8 (L8 0) 0 (L8 0)) 0 (N8 (N8 (L8 0) 0 PM.leaf) 0 PM.leaf))))) 69 (N8 (N8 (N8 (N8 (N8 (L8 0) 69 (L8 1)) 69 (N8 (N8 (L8 0) 0 PM.leaf) 0 PM.leaf)) 0 (N8 (N8 (L8 0) 0 (L8 201)) 0 (N8 (N8 (L8 138) 0 PM.leaf) 0 PM.leaf))) 0 (N8 (N8 (N8 (L8 0) 0 (L8 0)) 0 (N8 (N8 (L8 0) 0 PM.leaf) 0 PM.leaf)) 0 (N8 (N8 (L8 0) 0 (L8 0)) 0 (N8 (N8 (L8 0) 0 PM.leaf) 0 PM.leaf)))) 80 (N8 (N8 (N8 (N8 (L8 132) 80 (L8 0)) 80 (N8 (N8 (L8 0) 132 PM.leaf) 132 PM.leaf)) 0 (N8 (N8 (L8 0) 0 (L8 0)) 0 (N8 (N8 (L8 0) 0 PM.leaf) 0 PM.leaf))) 0 (N8 (N8 (N8 (L8 0) 0 (L8 0)) 0 (N8 (N8 (L8 0) 0 PM.leaf) 0 PM.leaf)) 0 (N8 (N8 (L8 0) 0 (L8 0)) 0 (N8 (N8 (L8 0) 0 PM.leaf) 0 PM.leaf)))))) 85 (N8 (N8 (N8 (N8 (N8 (N8 (L8 0) 85 (N8 (L8 0) 1 PM.leaf)) 85 (N8 (L8 0) 0 PM.leaf)) 0 (N8 (N8 (L8 0) 0 (L8 30)) 0 (N8 (N8 (L8 0) 0 PM.leaf) 0 PM.leaf))) 0 (N8 (N8 (N8 (L8 0) 0 (L8 1)) 0 (N8 (N8 (L8 0) 0 PM.leaf) 0 PM.leaf)) 0 (N8 (N8 (L8 0) 0 (L8 0)) 0 (N8 (N8 (L8 0) 0 PM.leaf) 0 PM.leaf)))) 5 (N8 (N8 (N8 (N8 (L8 107) 5 (L8 1)) 5 (N8 (N8 (L8 0) 107 PM.leaf) 107 PM.leaf)) 0 (N8 (N8 (L8 0) 0 (L8 0)) 0 (N8 (N8 (L8 0) 0 PM.leaf) 0 PM.leaf))) 0 (N8 (N8 (N8 (L8 0) 0 (L8 1)) 0 (N8 (N8 (L8 0) 0 PM.leaf) 0 PM.leaf)) 0 (N8 (N8 (L8 0) 0 (L8 0)) 0 (N8 (N8 (L8 0) 0 PM.leaf) 0 PM.leaf))))) 0 (N8 (N8 (N8 (N8 (N8 (L8 0) 0 (L8 1)) 0 (N8 (N8 (L8 0) 0 PM.leaf) 0 PM.leaf)) 0 (N8 (N8 (L8 0) 0 (L8 97)) 0 (N8 (N8 (L8 25) 0 PM.leaf) 0 PM.leaf))) 0 (N8 (N8 (N8 (L8 0) 0 (L8 0)) 0 (N8 (N8 (L8 0) 0 PM.leaf) 0 PM.leaf)) 0 (N8 (N8 (L8 0) 0 (L8 0)) 0 (N8 (N8 (L8 0) 0 PM.leaf) 0 PM.leaf)))) 0 (N8 (N8 (N8 (N8 (L8 0) 0 (L8 0)) 0 (N8 (N8 (L8 0) 0 PM.leaf) 0 PM.leaf)) 0 (N8 (N8 (L8 0) 0 (L8 0)) 0 (N8 (N8 (L8 0) 0 PM.leaf) 0 PM.leaf))) 0 (N8 (N8 (N8 (L8 0) 0 (L8 0)) 0 (N8 (N8 (L8 0) 0 PM.leaf) 0 PM.leaf)) 0 (N8 (N8 (L8 0) 0 (L8 0)) 0 (N8 (N8 (L8 0) 0 PM.leaf) 0 PM.leaf))))))))))]
abbrev sSK1M : Nat := 28
abbrev sSK1J : Nat := 2
def sSK1F : List AObj := [
(AObj.room 140 (Cs.av [(AV.lit (Value.string (bs [97]))), (AV.lit (Value.string (bs [49])))])),
(AObj.room 9 (Cs.av [(AV.lit (Value.string (bs [120])))]))]
def sSK1X : AV := (AV.agg [(AV.slU 1 0 1 2), (AV.slU 2 0 1 1)])
def sSK1H : List AObj := [
(AObj.room 140 (Cs.av [(AV.lit (Value.string (bs [97]))), (AV.lit (Value.string (bs [49])))])),
(AObj.room 9 (Cs.av [(AV.lit (Value.string (bs [120])))]))]
def sSK1A : List Nat := [0, 1, 2, 3, 4, 5, 6, 7, 8, 9, 10, 11, 12, 13, 14, 15, 16, 17, 18, 19, 20, 21, 22, 23, 24, 25, 26, 27]
def sSK1B : List Nat := [67, 96]
end
end Go.Proofs.YtnlpcbdmllpddaaGreat
end
section
/- Behind a group's steps: the memory alone. -/
namespace Go.Proofs.YtnlpcbdmllpddaaGreat
open Go SE
noncomputable section
abbrev sSJM : Nat := sSI9M
def sSJO : List AObj := sSI9O
end
end Go.Proofs.YtnlpcbdmllpddaaGreat
end
