import Derived.Test.YtlocaplkfaepnaaGreatVaa
import Derived.Test.YtlocaplkfaepnaaGreatVab
import Derived.Test.YtlocaplkfaepnaaGreatVac
import Derived.Test.YtlocaplkfaepnaaGreatVad
import Derived.Test.YtlocaplkfaepnaaGreatVae
import Derived.Test.YtlocaplkfaepnaaGreatVaf
import Derived.Test.YtlocaplkfaepnaaGreatVag
import Derived.Test.YtlocaplkfaepnaaGreatVah
import Derived.Test.YtlocaplkfaepnaaGreatVai
import Derived.Test.YtlocaplkfaepnaaGreatVaj
import Derived.Test.YtlocaplkfaepnaaGreatVak
section
/- What a closed call yields, and the memory behind it: fusee/point.Step. -/
namespace Go.Proofs.YtlocaplkfaepnaaGreat
open Go SE
set_option maxRecDepth 100000
noncomputable section
def sSE6V : AV := (AV.agg [(i64 2), (AV.lit (Value.string (bs [97]))), (AV.lit (Value.string (bs [49]))), (AV.lit (Value.string (bs []))), (AV.lit (Value.slice none 0 0)), (i64 7), (u64 1), (AV.lit (Value.string (bs []))), (AV.lit (Value.bool false)), (i64 0), (AV.lit (Value.bool false)), (AV.lit (Value.string (bs []))), (u64 0), (u64 0), (i64 0), (i64 0), (i64 (-0 - 1)), (i64 0), (i64 0), (AV.lit (Value.slice none 0 0)), (i64 0), (AV.lit (Value.slice none 0 0)), (i64 0), (AV.lit (Value.bool false)), (AV.lit (Value.string (bs []))), (AV.lit (Value.slice none 0 0)), (AV.lit (Value.slice none 0 0)), (u64 1)])
def sSE6O : List AObj := [
(AObj.cells 94 (Cs.av [(AV.ptr 1 0), (AV.ptr 2 0), (AV.ptr 3 0), (AV.ptr 4 0), (AV.ptr 5 0), (AV.ptr 6 0), (AV.ptr 7 0), (AV.ptr 8 0), (u64 1), (u64 1), (AV.slU 9 0 1 7)])),
(AObj.cells 161 (Cs.av [(AV.ptr 10 0), (AV.lit (Value.int IntKind.u32 1)), (AV.lit (Value.int IntKind.i32 0)), (AV.lit (Value.int IntKind.u32 0))])),
(AObj.cells 172 (Cs.av [(AV.sl 11 0 1 1)])),
(AObj.cells 175 (Cs.av [(u64 1), (AV.sl 12 0 1 1)])),
(AObj.cells 215 (Cs.av ([(u64 1), (u64 0), (u64 0), (AV.sl 13 0 1 1), (AV.lit (Value.bool false)), (AV.lit (Value.bool false)), (AV.lit (Value.bool true))] ++ List.replicate 513 (AV.lit (Value.bool false)) ++ [(AV.lit Value.nilFunc)]))),
(AObj.cells 120 (Cs.av [(AV.lit (Value.slice none 0 0))])),
(AObj.cells 181 (Cs.av [(AV.mp 14), (AV.mp 15), (AV.mp 16), (AV.mp 17), (AV.mp 18), (AV.mp 19), (AV.mp 20), (AV.mp 21)])),
(AObj.cells 218 (Cs.av [(AV.slU 22 0 1 5), (AV.slU 23 0 1 5), (AV.slU 24 0 1 5), (AV.slU 25 0 1 5)])),
(AObj.cells 193 (Cs.av [(AV.lit (Value.slice none 0 0)), (i64 0), (i64 0)])),
(AObj.room 117 (Cs.av [(i64 1), (AV.lit (Value.string (bs [97]))), (AV.lit (Value.string (bs [49]))), (u64 1), (u64 1), (u64 1), (i64 1)])),
(AObj.cells 142 (Cs.av [(AV.sl 26 0 10 10), (i64 4), (i64 2), (i64 1), (i64 0), (i64 0)])),
(AObj.cells 99 (Cs.tr 10 [(i64 0), (AV.lit (Value.bool false)), (AV.lit (Value.bool false)), (AV.lit (Value.bool false)), (AV.lit (Value.bool false)), (AV.lit (Value.bool false)), (AV.lit (Value.bool false)), (AV.lit (Value.bool false)), (AV.lit (Value.bool false)), (i64 0)] (PM.node (PM.node PM.leaf (some (AV.lit (Value.bool true))) (PM.node (PM.node PM.leaf (some (i64 1)) PM.leaf) none PM.leaf)) (some (i64 0)) PM.leaf))),
(AObj.cells 92 (Cs.tr 1 [(u64 0)] (PM.node PM.leaf (some (u64 0)) PM.leaf))),
(AObj.cells 3 (Cs.tr 1 [(i64 0)] (PM.node PM.leaf (some (i64 1)) PM.leaf))),
(AObj.map [] 0),
(AObj.map [] 0),
(AObj.map [] 0),
(AObj.map [((AV.lit (Value.string (bs [97]))), ((AV.agg [(AV.lit (Value.string (bs [97]))), (u64 1), (u64 1), (i64 2), (i64 0)]), 0))] 1),
(AObj.map [] 0),
(AObj.map [] 0),
(AObj.map [] 0),
(AObj.map [] 0),
(AObj.room 66 (Cs.av [(AV.lit (Value.string (bs [97]))), (u64 1), (u64 1), (i64 2), (i64 0)])),
(AObj.room 66 (Cs.av [(AV.lit (Value.string (bs [97]))), (u64 1), (u64 1), (i64 2), (i64 0)])),
(AObj.room 66 (Cs.av [(AV.lit (Value.string (bs [97]))), (u64 1), (u64 1), (i64 2), (i64 0)])),
(AObj.room 66 (Cs.av [(AV.lit (Value.string (bs [97]))), (u64 1), (u64 1), (i64 2), (i64 0)])),
(AObj.cells 256 (Cs.tr 1930 (List.replicate 192 (AV.lit (v8 0)) ++ [(AV.lit (Value.bool false))]) (N8 (N8 (N8 (N8 (N8 (N8 (N8 (N8 (L8 0) 0 (L8 0)) 0 (N8 (L8 0) 0 (L8 0))) 0 (N8 (N8 (L8 0) 0 (L8 0)) 0 (N8 (L8 0) 0 PM.leaf))) 0 (N8 (N8 (N8 (L8 0) 0 (L8 0)) 0 (N8 (L8 0) 0 PM.leaf)) 0 (N8 (N8 (L8 0) 0 (L8 0)) 0 (N8 (L8 0) 0 PM.leaf)))) 0 (N8 (N8 (N8 (N8 (L8 0) 0 (L8 0)) 0 (N8 (L8 0) 0 PM.leaf)) 0 (N8 (N8 (L8 0) 0 (L8 49)) 0 (N8 (L8 0) 0 PM.leaf))) 0 (N8 (N8 (N8 (L8 0) 0 (L8 0)) 0 (N8 (L8 0) 0 PM.leaf)) 0 (N8 (N8 (L8 0) 0 (L8 0)) 0 (N8 (L8 0) 0 PM.leaf))))) 83 (N8 (N8 (N8 (N8 (N8 (L8 0) 83 (L8 0)) 83 (N8 (L8 0) 0 PM.leaf)) 0 (N8 (N8 (L8 0) 0 (L8 38)) 0 (N8 (L8 0) 0 PM.leaf))) 0 (N8 (N8 (N8 (L8 0) 0 (L8 0)) 0 (N8 (L8 0) 0 PM.leaf)) 0 (N8 (N8 (L8 0) 0 (L8 0)) 0 (N8 (L8 0) 0 PM.leaf)))) 78 (N8 (N8 (N8 (N8 (L8 40) 78 (L8 0)) 78 (N8 (L8 40) 40 PM.leaf)) 0 (N8 (N8 (L8 0) 0 (L8 0)) 0 (N8 (L8 0) 0 PM.leaf))) 0 (N8 (N8 (N8 (L8 0) 0 (L8 0)) 0 (N8 (L8 0) 0 PM.leaf)) 0 (N8 (N8 (L8 0) 0 (L8 0)) 0 (N8 (L8 0) 0 PM.leaf)))))) 70 (N8 (N8 (N8 (N8 (N8 (N8 (L8 3) 70 (PM.node PM.leaf (some (AV.lit (Value.bool false))) PM.leaf)) 70 (N8 (L8 3) 3 (L8 0))) 0 (N8 (N8 (L8 0) 0 (L8 0)) 0 (N8 (L8 0) 0 PM.leaf))) 0 (N8 (N8 (N8 (L8 0) 0 (L8 0)) 0 (N8 (L8 0) 0 PM.leaf)) 0 (N8 (N8 (L8 0) 0 (L8 0)) 0 (N8 (L8 0) 0 PM.leaf)))) 220 (N8 (N8 (N8 (N8 (L8 0) 220 (L8 0)) 220 (N8 (L8 0) 0 PM.leaf)) 0 (N8 (N8 (L8 0) 0 (L8 0)) 0 (N8 (L8 0) 0 PM.leaf))) 0 (N8 (N8 (N8 (L8 0) 0 (L8 0)) 0 (N8 (L8 0) 0 PM.leaf)) 0 (N8 (N8 (L8 0) 0 (L8 0)) 0 (N8 (L8 0) 0 PM.leaf))))) 10 (N8 (N8 (N8 (N8 (N8 (L8 0) 10 (L8 1)) 10 (N8 (L8 0) 0 PM.leaf)) 0 (N8 (N8 (L8 0) 0 (L8 129)) 0 (N8 (L8 0) 0 PM.leaf))) 0 (N8 (N8 (N8 (L8 0) 0 (L8 0)) 0 (N8 (L8 0) 0 PM.leaf)) 0 (N8 (N8 (L8 0) 0 (L8 0)) 0 (N8 (L8 0) 0 PM.leaf)))) 0 (N8 (N8 (N8 (N8 (L8 223) 0 (L8 0)) 0 (N8 (L8 223) 223 PM.leaf)) 0 (N8 (N8 (L8 0) 0 (L8 0)) 0 (N8 (L8 0) 0 PM.leaf))) 0 (N8 (N8 (N8 (L8 0) 0 (L8 0)) 0 (N8 (L8 0) 0 PM.leaf)) 0 (N8 (N8 (L8 0) 0 (L8 0)) 0 (N8 (L8 0) 0 PM.leaf))))))) 4 (N8 (N8 (N8 (N8 (N8 (N8 (N8 (L8 0) 4 (L8 0)) 4 (PM.node (L8 0) (some (AV.lit (Value.bool false))) (L8 0))) 0 (N8 (N8 (L8 0) 0 (L8 0)) 0 (N8 (L8 0) 0 PM.leaf))) 0 (N8 (N8 (N8 (L8 0) 0 (L8 0)) 0 (N8 (L8 0) 0 PM.leaf)) 0 (N8 (N8 (L8 0) 0 (L8 0)) 0 (N8 (L8 0) 0 PM.leaf)))) 0 (N8 (N8 (N8 (N8 (L8 0) 0 (L8 0)) 0 (N8 (L8 0) 0 PM.leaf)) 0 (N8 (N8 (L8 0) 0 (L8 0)) 0 (N8 (L8 0) 0 PM.leaf))) 0 (N8 (N8 (N8 (L8 0) 0 (L8 0)) 0 (N8 (L8 0) 0 PM.leaf)) 0 (N8 (N8 (L8 0) 0 (L8 0)) 0 (N8 (L8 0) 0 PM.leaf))))) 69 (N8 (N8 (N8 (N8 (N8 (L8 0) 69 (L8 1)) 69 (N8 (L8 0) 0 PM.leaf)) 0 (N8 (N8 (L8 0) 0 (L8 201)) 0 (N8 (L8 0) 0 PM.leaf))) 0 (N8 (N8 (N8 (L8 0) 0 (L8 0)) 0 (N8 (L8 0) 0 PM.leaf)) 0 (N8 (N8 (L8 0) 0 (L8 0)) 0 (N8 (L8 0) 0 PM.leaf)))) 80 (N8 (N8 (N8 (N8 (L8 132) 80 (L8 0)) 80 (N8 (L8 132) 132 PM.leaf)) 0 (N8 (N8 (L8 0) 0 (L8 0)) 0 (N8 (L8 0) 0 PM.leaf))) 0 (N8 (N8 (N8 (L8 0) 0 (L8 0)) 0 (N8 (L8 0) 0 PM.leaf)) 0 (N8 (N8 (L8 0) 0 (L8 0)) 0 (N8 (L8 0) 0 PM.leaf)))))) 85 (N8 (N8 (N8 (N8 (N8 (N8 (L8 0) 85 (L8 1)) 85 (N8 (L8 0) 0 PM.leaf)) 0 (N8 (N8 (L8 0) 0 (L8 30)) 0 (N8 (L8 0) 0 PM.leaf))) 0 (N8 (N8 (N8 (L8 0) 0 (L8 1)) 0 (N8 (L8 0) 0 PM.leaf)) 0 (N8 (N8 (L8 0) 0 (L8 0)) 0 (N8 (L8 0) 0 PM.leaf)))) 5 (N8 (N8 (N8 (N8 (L8 107) 5 (L8 1)) 5 (N8 (L8 107) 107 PM.leaf)) 0 (N8 (N8 (L8 0) 0 (L8 0)) 0 (N8 (L8 0) 0 PM.leaf))) 0 (N8 (N8 (N8 (L8 0) 0 (L8 1)) 0 (N8 (L8 0) 0 PM.leaf)) 0 (N8 (N8 (L8 0) 0 (L8 0)) 0 (N8 (L8 0) 0 PM.leaf))))) 0 (N8 (N8 (N8 (N8 (N8 (L8 0) 0 (L8 1)) 0 (N8 (L8 0) 0 PM.leaf)) 0 (N8 (N8 (L8 0) 0 (L8 97)) 0 (N8 (L8 0) 0 PM.leaf))) 0 (N8 (N8 (N8 (L8 0) 0 (L8 0)) 0 (N8 (L8 0) 0 PM.leaf)) 0 (N8 (N8 (L8 0) 0 (L8 0)) 0 (N8 (L8 0) 0 PM.leaf)))) 0 (N8 (N8 (N8 (N8 (L8 0) 0 (L8 0)) 0 (N8 (L8 0) 0 PM.leaf)) 0 (N8 (N8 (L8 0) 0 (L8 0)) 0 (N8 (L8 0) 0 PM.leaf))) 0 (N8 (N8 (N8 (L8 0) 0 (L8 0)) 0 (N8 (L8 0) 0 PM.leaf)) 0 (N8 (N8 (L8 0) 0 (L8 0)) 0 (N8 (L8 0) 0 PM.leaf))))))))))]
abbrev sSE6M : Nat := 27
def sSE6I : List Nat := [0, 1, 2, 3, 4, 5, 6, 7, 8, 9, 10, 11, 12, 13, 14, 15, 16, 17, 18, 19, 20, 21, 22, 23, 24, 25, 26]
end
end Go.Proofs.YtlocaplkfaepnaaGreat
end
section
/- A closed call, run: fusee/point.Step. -/
namespace Go.Proofs.YtlocaplkfaepnaaGreat
open Go SE
set_option maxRecDepth 100000
noncomputable section
theorem sSE6_look : lookX tblR 55 = none := by kernel_rfl
theorem sSE6_run : runH Tryz.prog tblR tt 2000 40 55 [.ptr 0 0, i64 0, sSE5V] (hO sSE5M sSE5O) (told sSE6I) = .ok (vmap (atL sSE6I) sSE6V, sSE6O.map fun o => some (omap (atL sSE6I) o)) := by kernel_rfl
theorem sSE6_sp : Sp Tryz.prog 55 [.ptr 0 0, i64 0, sSE5V] (hO 1 [packed sSE5M sSE5O]) (fun v h => v = sSE6V ∧ h = hO 1 [packed sSE6M sSE6O]) :=
  stageP tt_ok mixed tblR_ok 2000 40 sSE5M sSE5O sSE6M sSE6I sSE6V sSE6O sSE6_look sSE6_run (by kernel_rfl) (by kernel_rfl) (by kernel_rfl)
end
end Go.Proofs.YtlocaplkfaepnaaGreat
end
section
/- What a closed call yields, and the memory behind it: fusee/point.Step. -/
namespace Go.Proofs.YtlocaplkfaepnaaGreat
open Go SE
set_option maxRecDepth 100000
noncomputable section
def sSF1V : AV := (AV.agg [(i64 2), (AV.lit (Value.string (bs [98]))), (AV.lit (Value.string (bs [50]))), (AV.lit (Value.string (bs []))), (AV.lit (Value.slice none 0 0)), (i64 1), (u64 1), (AV.lit (Value.string (bs []))), (AV.lit (Value.bool false)), (i64 0), (AV.lit (Value.bool false)), (AV.lit (Value.string (bs []))), (u64 0), (u64 0), (i64 0), (i64 0), (i64 (-0 - 1)), (i64 0), (i64 0), (AV.lit (Value.slice none 0 0)), (i64 0), (AV.lit (Value.slice none 0 0)), (i64 0), (AV.lit (Value.bool false)), (AV.lit (Value.string (bs []))), (AV.lit (Value.slice none 0 0)), (AV.lit (Value.slice none 0 0)), (u64 0)])
def sSF1O : List AObj := [
(AObj.cells 94 (Cs.av [(AV.ptr 1 0), (AV.ptr 2 0), (AV.ptr 3 0), (AV.ptr 4 0), (AV.ptr 5 0), (AV.ptr 6 0), (AV.ptr 7 0), (AV.ptr 8 0), (u64 1), (u64 1), (AV.slU 9 0 1 7)])),
(AObj.cells 161 (Cs.av [(AV.ptr 10 0), (AV.lit (Value.int IntKind.u32 1)), (AV.lit (Value.int IntKind.i32 0)), (AV.lit (Value.int IntKind.u32 0))])),
(AObj.cells 172 (Cs.av [(AV.sl 11 0 1 1)])),
(AObj.cells 175 (Cs.av [(u64 1), (AV.sl 12 0 1 1)])),
(AObj.cells 215 (Cs.av ([(u64 1), (u64 0), (u64 0), (AV.sl 13 0 1 1), (AV.lit (Value.bool false)), (AV.lit (Value.bool false)), (AV.lit (Value.bool true))] ++ List.replicate 513 (AV.lit (Value.bool false)) ++ [(AV.lit Value.nilFunc)]))),
(AObj.cells 120 (Cs.av [(AV.lit (Value.slice none 0 0))])),
(AObj.cells 181 (Cs.av [(AV.mp 14), (AV.mp 15), (AV.mp 16), (AV.mp 17), (AV.mp 18), (AV.mp 19), (AV.mp 20), (AV.mp 21)])),
(AObj.cells 218 (Cs.av [(AV.slU 22 0 1 5), (AV.slU 23 0 1 5), (AV.slU 24 0 1 5), (AV.slU 25 0 1 5)])),
(AObj.cells 193 (Cs.av [(AV.lit (Value.slice none 0 0)), (i64 0), (i64 0)])),
(AObj.room 117 (Cs.av [(i64 1), (AV.lit (Value.string (bs [97]))), (AV.lit (Value.string (bs [49]))), (u64 1), (u64 1), (u64 1), (i64 1)])),
(AObj.cells 142 (Cs.av [(AV.sl 26 0 10 10), (i64 4), (i64 2), (i64 1), (i64 0), (i64 0)])),
(AObj.cells 99 (Cs.tr 10 [(i64 0), (AV.lit (Value.bool false)), (AV.lit (Value.bool false)), (AV.lit (Value.bool false)), (AV.lit (Value.bool false)), (AV.lit (Value.bool false)), (AV.lit (Value.bool false)), (AV.lit (Value.bool false)), (AV.lit (Value.bool false)), (i64 0)] (PM.node (PM.node PM.leaf (some (AV.lit (Value.bool true))) (PM.node (PM.node PM.leaf (some (i64 1)) PM.leaf) none PM.leaf)) (some (i64 0)) PM.leaf))),
(AObj.cells 92 (Cs.tr 1 [(u64 0)] (PM.node PM.leaf (some (u64 1)) PM.leaf))),
(AObj.cells 3 (Cs.tr 1 [(i64 0)] (PM.node PM.leaf (some (i64 1)) PM.leaf))),
(AObj.map [] 0),
(AObj.map [] 0),
(AObj.map [] 0),
(AObj.map [((AV.lit (Value.string (bs [97]))), ((AV.agg [(AV.lit (Value.string (bs [97]))), (u64 1), (u64 1), (i64 2), (i64 0)]), 0))] 1),
(AObj.map [] 0),
(AObj.map [] 0),
(AObj.map [] 0),
(AObj.map [] 0),
(AObj.room 66 (Cs.av [(AV.lit (Value.string (bs [97]))), (u64 1), (u64 1), (i64 2), (i64 0)])),
(AObj.room 66 (Cs.av [(AV.lit (Value.string (bs [97]))), (u64 1), (u64 1), (i64 2), (i64 0)])),
(AObj.room 66 (Cs.av [(AV.lit (Value.string (bs [97]))), (u64 1), (u64 1), (i64 2), (i64 0)])),
(AObj.room 66 (Cs.av [(AV.lit (Value.string (bs [97]))), (u64 1), (u64 1), (i64 2), (i64 0)])),
(AObj.cells 256 (Cs.tr 1930 (List.replicate 192 (AV.lit (v8 0)) ++ [(AV.lit (Value.bool false))]) (N8 (N8 (N8 (N8 (N8 (N8 (N8 (N8 (L8 0) 0 (L8 0)) 0 (N8 (L8 0) 0 (L8 0))) 0 (N8 (N8 (L8 0) 0 (L8 0)) 0 (N8 (L8 0) 0 PM.leaf))) 0 (N8 (N8 (N8 (L8 0) 0 (L8 0)) 0 (N8 (L8 0) 0 PM.leaf)) 0 (N8 (N8 (L8 0) 0 (L8 0)) 0 (N8 (L8 0) 0 PM.leaf)))) 0 (N8 (N8 (N8 (N8 (L8 0) 0 (L8 0)) 0 (N8 (L8 0) 0 PM.leaf)) 0 (N8 (N8 (L8 0) 0 (L8 49)) 0 (N8 (L8 0) 0 PM.leaf))) 0 (N8 (N8 (N8 (L8 0) 0 (L8 0)) 0 (N8 (L8 0) 0 PM.leaf)) 0 (N8 (N8 (L8 0) 0 (L8 0)) 0 (N8 (L8 0) 0 PM.leaf))))) 83 (N8 (N8 (N8 (N8 (N8 (L8 0) 83 (L8 0)) 83 (N8 (L8 0) 0 PM.leaf)) 0 (N8 (N8 (L8 0) 0 (L8 38)) 0 (N8 (L8 0) 0 PM.leaf))) 0 (N8 (N8 (N8 (L8 0) 0 (L8 0)) 0 (N8 (L8 0) 0 PM.leaf)) 0 (N8 (N8 (L8 0) 0 (L8 0)) 0 (N8 (L8 0) 0 PM.leaf)))) 78 (N8 (N8 (N8 (N8 (L8 40) 78 (L8 0)) 78 (N8 (L8 40) 40 PM.leaf)) 0 (N8 (N8 (L8 0) 0 (L8 0)) 0 (N8 (L8 0) 0 PM.leaf))) 0 (N8 (N8 (N8 (L8 0) 0 (L8 0)) 0 (N8 (L8 0) 0 PM.leaf)) 0 (N8 (N8 (L8 0) 0 (L8 0)) 0 (N8 (L8 0) 0 PM.leaf)))))) 70 (N8 (N8 (N8 (N8 (N8 (N8 (L8 3) 70 (PM.node PM.leaf (some (AV.lit (Value.bool false))) PM.leaf)) 70 (N8 (L8 3) 3 (L8 0))) 0 (N8 (N8 (L8 0) 0 (L8 0)) 0 (N8 (L8 0) 0 PM.leaf))) 0 (N8 (N8 (N8 (L8 0) 0 (L8 0)) 0 (N8 (L8 0) 0 PM.leaf)) 0 (N8 (N8 (L8 0) 0 (L8 0)) 0 (N8 (L8 0) 0 PM.leaf)))) 220 (N8 (N8 (N8 (N8 (L8 0) 220 (L8 0)) 220 (N8 (L8 0) 0 PM.leaf)) 0 (N8 (N8 (L8 0) 0 (L8 0)) 0 (N8 (L8 0) 0 PM.leaf))) 0 (N8 (N8 (N8 (L8 0) 0 (L8 0)) 0 (N8 (L8 0) 0 PM.leaf)) 0 (N8 (N8 (L8 0) 0 (L8 0)) 0 (N8 (L8 0) 0 PM.leaf))))) 10 (N8 (N8 (N8 (N8 (N8 (L8 0) 10 (L8 1)) 10 (N8 (L8 0) 0 PM.leaf)) 0 (N8 (N8 (L8 0) 0 (L8 129)) 0 (N8 (L8 0) 0 PM.leaf))) 0 (N8 (N8 (N8 (L8 0) 0 (L8 0)) 0 (N8 (L8 0) 0 PM.leaf)) 0 (N8 (N8 (L8 0) 0 (L8 0)) 0 (N8 (L8 0) 0 PM.leaf)))) 0 (N8 (N8 (N8 (N8 (L8 223) 0 (L8 0)) 0 (N8 (L8 223) 223 PM.leaf)) 0 (N8 (N8 (L8 0) 0 (L8 0)) 0 (N8 (L8 0) 0 PM.leaf))) 0 (N8 (N8 (N8 (L8 0) 0 (L8 0)) 0 (N8 (L8 0) 0 PM.leaf)) 0 (N8 (N8 (L8 0) 0 (L8 0)) 0 (N8 (L8 0) 0 PM.leaf))))))) 4 (N8 (N8 (N8 (N8 (N8 (N8 (N8 (L8 0) 4 (L8 0)) 4 (PM.node (L8 0) (some (AV.lit (Value.bool false))) (L8 0))) 0 (N8 (N8 (L8 0) 0 (L8 0)) 0 (N8 (L8 0) 0 PM.leaf))) 0 (N8 (N8 (N8 (L8 0) 0 (L8 0)) 0 (N8 (L8 0) 0 PM.leaf)) 0 (N8 (N8 (L8 0) 0 (L8 0)) 0 (N8 (L8 0) 0 PM.leaf)))) 0 (N8 (N8 (N8 (N8 (L8 0) 0 (L8 0)) 0 (N8 (L8 0) 0 PM.leaf)) 0 (N8 (N8 (L8 0) 0 (L8 0)) 0 (N8 (L8 0) 0 PM.leaf))) 0 (N8 (N8 (N8 (L8 0) 0 (L8 0)) 0 (N8 (L8 0) 0 PM.leaf)) 0 (N8 (N8 (L8 0) 0 (L8 0)) 0 (N8 (L8 0) 0 PM.leaf))))) 69 (N8 (N8 (N8 (N8 (N8 (L8 0) 69 (L8 1)) 69 (N8 (L8 0) 0 PM.leaf)) 0 (N8 (N8 (L8 0) 0 (L8 201)) 0 (N8 (L8 0) 0 PM.leaf))) 0 (N8 (N8 (N8 (L8 0) 0 (L8 0)) 0 (N8 (L8 0) 0 PM.leaf)) 0 (N8 (N8 (L8 0) 0 (L8 0)) 0 (N8 (L8 0) 0 PM.leaf)))) 80 (N8 (N8 (N8 (N8 (L8 132) 80 (L8 0)) 80 (N8 (L8 132) 132 PM.leaf)) 0 (N8 (N8 (L8 0) 0 (L8 0)) 0 (N8 (L8 0) 0 PM.leaf))) 0 (N8 (N8 (N8 (L8 0) 0 (L8 0)) 0 (N8 (L8 0) 0 PM.leaf)) 0 (N8 (N8 (L8 0) 0 (L8 0)) 0 (N8 (L8 0) 0 PM.leaf)))))) 85 (N8 (N8 (N8 (N8 (N8 (N8 (L8 0) 85 (L8 1)) 85 (N8 (L8 0) 0 PM.leaf)) 0 (N8 (N8 (L8 0) 0 (L8 30)) 0 (N8 (L8 0) 0 PM.leaf))) 0 (N8 (N8 (N8 (L8 0) 0 (L8 1)) 0 (N8 (L8 0) 0 PM.leaf)) 0 (N8 (N8 (L8 0) 0 (L8 0)) 0 (N8 (L8 0) 0 PM.leaf)))) 5 (N8 (N8 (N8 (N8 (L8 107) 5 (L8 1)) 5 (N8 (L8 107) 107 PM.leaf)) 0 (N8 (N8 (L8 0) 0 (L8 0)) 0 (N8 (L8 0) 0 PM.leaf))) 0 (N8 (N8 (N8 (L8 0) 0 (L8 1)) 0 (N8 (L8 0) 0 PM.leaf)) 0 (N8 (N8 (L8 0) 0 (L8 0)) 0 (N8 (L8 0) 0 PM.leaf))))) 0 (N8 (N8 (N8 (N8 (N8 (L8 0) 0 (L8 1)) 0 (N8 (L8 0) 0 PM.leaf)) 0 (N8 (N8 (L8 0) 0 (L8 97)) 0 (N8 (L8 0) 0 PM.leaf))) 0 (N8 (N8 (N8 (L8 0) 0 (L8 0)) 0 (N8 (L8 0) 0 PM.leaf)) 0 (N8 (N8 (L8 0) 0 (L8 0)) 0 (N8 (L8 0) 0 PM.leaf)))) 0 (N8 (N8 (N8 (N8 (L8 0) 0 (L8 0)) 0 (N8 (L8 0) 0 PM.leaf)) 0 (N8 (N8 (L8 0) 0 (L8 0)) 0 (N8 (L8 0) 0 PM.leaf))) 0 (N8 (N8 (N8 (L8 0) 0 (L8 0)) 0 (N8 (L8 0) 0 PM.leaf)) 0 (N8 (N8 (L8 0) 0 (L8 0)) 0 (N8 (L8 0) 0 PM.leaf))))))))))]
abbrev sSF1M : Nat := 27
def sSF1I : List Nat := [0, 1, 2, 3, 4, 5, 6, 7, 8, 9, 10, 11, 12, 13, 14, 15, 16, 17, 18, 19, 20, 21, 22, 23, 24, 25, 26]
end
end Go.Proofs.YtlocaplkfaepnaaGreat
end
section
/- A closed call, run: fusee/point.Step. -/
namespace Go.Proofs.YtlocaplkfaepnaaGreat
open Go SE
set_option maxRecDepth 100000
noncomputable section
theorem sSF1_look : lookX tblR 55 = none := by kernel_rfl
theorem sSF1_run : runH Tryz.prog tblR tt 2000 40 55 [.ptr 0 0, i64 0, .agg (frL [i64 2, str (bs [98]), str (bs [50]), str es] nilS)] (hO sSE6M sSE6O) (told sSF1I) = .ok (vmap (atL sSF1I) sSF1V, sSF1O.map fun o => some (omap (atL sSF1I) o)) := by kernel_rfl
theorem sSF1_sp : Sp Tryz.prog 55 [.ptr 0 0, i64 0, .agg (frL [i64 2, str (bs [98]), str (bs [50]), str es] nilS)] (hO 1 [packed sSE6M sSE6O]) (fun v h => v = sSF1V ∧ h = hO 1 [packed sSF1M sSF1O]) :=
  stageP tt_ok mixed tblR_ok 2000 40 sSE6M sSE6O sSF1M sSF1I sSF1V sSF1O sSF1_look sSF1_run (by kernel_rfl) (by kernel_rfl) (by kernel_rfl)
end
end Go.Proofs.YtlocaplkfaepnaaGreat
end
section
/- What a closed call yields, and the memory behind it: fusee/point.Step. -/
namespace Go.Proofs.YtlocaplkfaepnaaGreat
open Go SE
set_option maxRecDepth 100000
noncomputable section
def sSF2V : AV := (AV.agg [(i64 2), (AV.lit (Value.string (bs [98]))), (AV.lit (Value.string (bs [50]))), (AV.lit (Value.string (bs []))), (AV.lit (Value.slice none 0 0)), (i64 3), (u64 1), (AV.lit (Value.string (bs []))), (AV.lit (Value.bool false)), (i64 0), (AV.lit (Value.bool false)), (AV.lit (Value.string (bs []))), (u64 0), (u64 0), (i64 0), (i64 0), (i64 (-0 - 1)), (i64 0), (i64 0), (AV.lit (Value.slice none 0 0)), (i64 0), (AV.lit (Value.slice none 0 0)), (i64 0), (AV.lit (Value.bool false)), (AV.lit (Value.string (bs []))), (AV.lit (Value.slice none 0 0)), (AV.lit (Value.slice none 0 0)), (u64 0)])
def sSF2O : List AObj := [
(AObj.cells 94 (Cs.av [(AV.ptr 1 0), (AV.ptr 2 0), (AV.ptr 3 0), (AV.ptr 4 0), (AV.ptr 5 0), (AV.ptr 6 0), (AV.ptr 7 0), (AV.ptr 8 0), (u64 1), (u64 1), (AV.slU 9 0 1 7)])),
(AObj.cells 161 (Cs.av [(AV.ptr 10 0), (AV.lit (Value.int IntKind.u32 1)), (AV.lit (Value.int IntKind.i32 0)), (AV.lit (Value.int IntKind.u32 0))])),
(AObj.cells 172 (Cs.av [(AV.sl 11 0 1 1)])),
(AObj.cells 175 (Cs.av [(u64 1), (AV.sl 12 0 1 1)])),
(AObj.cells 215 (Cs.av ([(u64 1), (u64 0), (u64 0), (AV.sl 13 0 1 1), (AV.lit (Value.bool false)), (AV.lit (Value.bool false)), (AV.lit (Value.bool true))] ++ List.replicate 513 (AV.lit (Value.bool false)) ++ [(AV.lit Value.nilFunc)]))),
(AObj.cells 120 (Cs.av [(AV.lit (Value.slice none 0 0))])),
(AObj.cells 181 (Cs.av [(AV.mp 14), (AV.mp 15), (AV.mp 16), (AV.mp 17), (AV.mp 18), (AV.mp 19), (AV.mp 20), (AV.mp 21)])),
(AObj.cells 218 (Cs.av [(AV.slU 22 0 1 5), (AV.slU 23 0 1 5), (AV.slU 24 0 1 5), (AV.slU 25 0 1 5)])),
(AObj.cells 193 (Cs.av [(AV.lit (Value.slice none 0 0)), (i64 0), (i64 0)])),
(AObj.room 117 (Cs.av [(i64 1), (AV.lit (Value.string (bs [97]))), (AV.lit (Value.string (bs [49]))), (u64 1), (u64 1), (u64 1), (i64 1)])),
(AObj.cells 142 (Cs.av [(AV.sl 26 0 10 10), (i64 4), (i64 2), (i64 1), (i64 0), (i64 0)])),
(AObj.cells 99 (Cs.tr 10 [(i64 0), (AV.lit (Value.bool false)), (AV.lit (Value.bool false)), (AV.lit (Value.bool false)), (AV.lit (Value.bool false)), (AV.lit (Value.bool false)), (AV.lit (Value.bool false)), (AV.lit (Value.bool false)), (AV.lit (Value.bool false)), (i64 0)] (PM.node (PM.node PM.leaf (some (AV.lit (Value.bool true))) (PM.node (PM.node PM.leaf (some (i64 1)) PM.leaf) none PM.leaf)) (some (i64 0)) PM.leaf))),
(AObj.cells 92 (Cs.tr 1 [(u64 0)] (PM.node PM.leaf (some (u64 1)) PM.leaf))),
(AObj.cells 3 (Cs.tr 1 [(i64 0)] (PM.node PM.leaf (some (i64 1)) PM.leaf))),
(AObj.map [] 0),
(AObj.map [] 0),
(AObj.map [] 0),
(AObj.map [((AV.lit (Value.string (bs [97]))), ((AV.agg [(AV.lit (Value.string (bs [97]))), (u64 1), (u64 1), (i64 2), (i64 0)]), 0))] 1),
(AObj.map [] 0),
(AObj.map [] 0),
(AObj.map [] 0),
(AObj.map [] 0),
(AObj.room 66 (Cs.av [(AV.lit (Value.string (bs [97]))), (u64 1), (u64 1), (i64 2), (i64 0)])),
(AObj.room 66 (Cs.av [(AV.lit (Value.string (bs [97]))), (u64 1), (u64 1), (i64 2), (i64 0)])),
(AObj.room 66 (Cs.av [(AV.lit (Value.string (bs [97]))), (u64 1), (u64 1), (i64 2), (i64 0)])),
(AObj.room 66 (Cs.av [(AV.lit (Value.string (bs [97]))), (u64 1), (u64 1), (i64 2), (i64 0)])),
(AObj.cells 256 (Cs.tr 1930 (List.replicate 192 (AV.lit (v8 0)) ++ [(AV.lit (Value.bool false))]) (N8 (N8 (N8 (N8 (N8 (N8 (N8 (N8 (L8 0) 0 (L8 0)) 0 (N8 (L8 0) 0 (L8 0))) 0 (N8 (N8 (L8 0) 0 (L8 0)) 0 (N8 (L8 0) 0 PM.leaf))) 0 (N8 (N8 (N8 (L8 0) 0 (L8 0)) 0 (N8 (L8 0) 0 PM.leaf)) 0 (N8 (N8 (L8 0) 0 (L8 0)) 0 (N8 (L8 0) 0 PM.leaf)))) 0 (N8 (N8 (N8 (N8 (L8 0) 0 (L8 0)) 0 (N8 (L8 0) 0 PM.leaf)) 0 (N8 (N8 (L8 0) 0 (L8 49)) 0 (N8 (L8 0) 0 PM.leaf))) 0 (N8 (N8 (N8 (L8 0) 0 (L8 0)) 0 (N8 (L8 0) 0 PM.leaf)) 0 (N8 (N8 (L8 0) 0 (L8 0)) 0 (N8 (L8 0) 0 PM.leaf))))) 83 (N8 (N8 (N8 (N8 (N8 (L8 0) 83 (L8 0)) 83 (N8 (L8 0) 0 PM.leaf)) 0 (N8 (N8 (L8 0) 0 (L8 38)) 0 (N8 (L8 0) 0 PM.leaf))) 0 (N8 (N8 (N8 (L8 0) 0 (L8 0)) 0 (N8 (L8 0) 0 PM.leaf)) 0 (N8 (N8 (L8 0) 0 (L8 0)) 0 (N8 (L8 0) 0 PM.leaf)))) 78 (N8 (N8 (N8 (N8 (L8 40) 78 (L8 0)) 78 (N8 (L8 40) 40 PM.leaf)) 0 (N8 (N8 (L8 0) 0 (L8 0)) 0 (N8 (L8 0) 0 PM.leaf))) 0 (N8 (N8 (N8 (L8 0) 0 (L8 0)) 0 (N8 (L8 0) 0 PM.leaf)) 0 (N8 (N8 (L8 0) 0 (L8 0)) 0 (N8 (L8 0) 0 PM.leaf)))))) 70 (N8 (N8 (N8 (N8 (N8 (N8 (L8 3) 70 (PM.node PM.leaf (some (AV.lit (Value.bool false))) PM.leaf)) 70 (N8 (L8 3) 3 (L8 0))) 0 (N8 (N8 (L8 0) 0 (L8 0)) 0 (N8 (L8 0) 0 PM.leaf))) 0 (N8 (N8 (N8 (L8 0) 0 (L8 0)) 0 (N8 (L8 0) 0 PM.leaf)) 0 (N8 (N8 (L8 0) 0 (L8 0)) 0 (N8 (L8 0) 0 PM.leaf)))) 220 (N8 (N8 (N8 (N8 (L8 0) 220 (L8 0)) 220 (N8 (L8 0) 0 PM.leaf)) 0 (N8 (N8 (L8 0) 0 (L8 0)) 0 (N8 (L8 0) 0 PM.leaf))) 0 (N8 (N8 (N8 (L8 0) 0 (L8 0)) 0 (N8 (L8 0) 0 PM.leaf)) 0 (N8 (N8 (L8 0) 0 (L8 0)) 0 (N8 (L8 0) 0 PM.leaf))))) 10 (N8 (N8 (N8 (N8 (N8 (L8 0) 10 (L8 1)) 10 (N8 (L8 0) 0 PM.leaf)) 0 (N8 (N8 (L8 0) 0 (L8 129)) 0 (N8 (L8 0) 0 PM.leaf))) 0 (N8 (N8 (N8 (L8 0) 0 (L8 0)) 0 (N8 (L8 0) 0 PM.leaf)) 0 (N8 (N8 (L8 0) 0 (L8 0)) 0 (N8 (L8 0) 0 PM.leaf)))) 0 (N8 (N8 (N8 (N8 (L8 223) 0 (L8 0)) 0 (N8 (L8 223) 223 PM.leaf)) 0 (N8 (N8 (L8 0) 0 (L8 0)) 0 (N8 (L8 0) 0 PM.leaf))) 0 (N8 (N8 (N8 (L8 0) 0 (L8 0)) 0 (N8 (L8 0) 0 PM.leaf)) 0 (N8 (N8 (L8 0) 0 (L8 0)) 0 (N8 (L8 0) 0 PM.leaf))))))) 4 (N8 (N8 (N8 (N8 (N8 (N8 (N8 (L8 0) 4 (L8 0)) 4 (PM.node (L8 0) (some (AV.lit (Value.bool false))) (L8 0))) 0 (N8 (N8 (L8 0) 0 (L8 0)) 0 (N8 (L8 0) 0 PM.leaf))) 0 (N8 (N8 (N8 (L8 0) 0 (L8 0)) 0 (N8 (L8 0) 0 PM.leaf)) 0 (N8 (N8 (L8 0) 0 (L8 0)) 0 (N8 (L8 0) 0 PM.leaf)))) 0 (N8 (N8 (N8 (N8 (L8 0) 0 (L8 0)) 0 (N8 (L8 0) 0 PM.leaf)) 0 (N8 (N8 (L8 0) 0 (L8 0)) 0 (N8 (L8 0) 0 PM.leaf))) 0 (N8 (N8 (N8 (L8 0) 0 (L8 0)) 0 (N8 (L8 0) 0 PM.leaf)) 0 (N8 (N8 (L8 0) 0 (L8 0)) 0 (N8 (L8 0) 0 PM.leaf))))) 69 (N8 (N8 (N8 (N8 (N8 (L8 0) 69 (L8 1)) 69 (N8 (L8 0) 0 PM.leaf)) 0 (N8 (N8 (L8 0) 0 (L8 201)) 0 (N8 (L8 0) 0 PM.leaf))) 0 (N8 (N8 (N8 (L8 0) 0 (L8 0)) 0 (N8 (L8 0) 0 PM.leaf)) 0 (N8 (N8 (L8 0) 0 (L8 0)) 0 (N8 (L8 0) 0 PM.leaf)))) 80 (N8 (N8 (N8 (N8 (L8 132) 80 (L8 0)) 80 (N8 (L8 132) 132 PM.leaf)) 0 (N8 (N8 (L8 0) 0 (L8 0)) 0 (N8 (L8 0) 0 PM.leaf))) 0 (N8 (N8 (N8 (L8 0) 0 (L8 0)) 0 (N8 (L8 0) 0 PM.leaf)) 0 (N8 (N8 (L8 0) 0 (L8 0)) 0 (N8 (L8 0) 0 PM.leaf)))))) 85 (N8 (N8 (N8 (N8 (N8 (N8 (L8 0) 85 (L8 1)) 85 (N8 (L8 0) 0 PM.leaf)) 0 (N8 (N8 (L8 0) 0 (L8 30)) 0 (N8 (L8 0) 0 PM.leaf))) 0 (N8 (N8 (N8 (L8 0) 0 (L8 1)) 0 (N8 (L8 0) 0 PM.leaf)) 0 (N8 (N8 (L8 0) 0 (L8 0)) 0 (N8 (L8 0) 0 PM.leaf)))) 5 (N8 (N8 (N8 (N8 (L8 107) 5 (L8 1)) 5 (N8 (L8 107) 107 PM.leaf)) 0 (N8 (N8 (L8 0) 0 (L8 0)) 0 (N8 (L8 0) 0 PM.leaf))) 0 (N8 (N8 (N8 (L8 0) 0 (L8 1)) 0 (N8 (L8 0) 0 PM.leaf)) 0 (N8 (N8 (L8 0) 0 (L8 0)) 0 (N8 (L8 0) 0 PM.leaf))))) 0 (N8 (N8 (N8 (N8 (N8 (L8 0) 0 (L8 1)) 0 (N8 (L8 0) 0 PM.leaf)) 0 (N8 (N8 (L8 0) 0 (L8 97)) 0 (N8 (L8 0) 0 PM.leaf))) 0 (N8 (N8 (N8 (L8 0) 0 (L8 0)) 0 (N8 (L8 0) 0 PM.leaf)) 0 (N8 (N8 (L8 0) 0 (L8 0)) 0 (N8 (L8 0) 0 PM.leaf)))) 0 (N8 (N8 (N8 (N8 (L8 0) 0 (L8 0)) 0 (N8 (L8 0) 0 PM.leaf)) 0 (N8 (N8 (L8 0) 0 (L8 0)) 0 (N8 (L8 0) 0 PM.leaf))) 0 (N8 (N8 (N8 (L8 0) 0 (L8 0)) 0 (N8 (L8 0) 0 PM.leaf)) 0 (N8 (N8 (L8 0) 0 (L8 0)) 0 (N8 (L8 0) 0 PM.leaf))))))))))]
abbrev sSF2M : Nat := 27
def sSF2I : List Nat := [0, 1, 2, 3, 4, 5, 6, 7, 8, 9, 10, 11, 12, 13, 14, 15, 16, 17, 18, 19, 20, 21, 22, 23, 24, 25, 26]
end
end Go.Proofs.YtlocaplkfaepnaaGreat
end
section
/- A closed call, run: fusee/point.Step. -/
namespace Go.Proofs.YtlocaplkfaepnaaGreat
open Go SE
set_option maxRecDepth 100000
noncomputable section
theorem sSF2_look : lookX tblR 55 = none := by kernel_rfl
theorem sSF2_run : runH Tryz.prog tblR tt 2000 40 55 [.ptr 0 0, i64 0, sSF1V] (hO sSF1M sSF1O) (told sSF2I) = .ok (vmap (atL sSF2I) sSF2V, sSF2O.map fun o => some (omap (atL sSF2I) o)) := by kernel_rfl
theorem sSF2_sp : Sp Tryz.prog 55 [.ptr 0 0, i64 0, sSF1V] (hO 1 [packed sSF1M sSF1O]) (fun v h => v = sSF2V ∧ h = hO 1 [packed sSF2M sSF2O]) :=
  stageP tt_ok mixed tblR_ok 2000 40 sSF1M sSF1O sSF2M sSF2I sSF2V sSF2O sSF2_look sSF2_run (by kernel_rfl) (by kernel_rfl) (by kernel_rfl)
end
end Go.Proofs.YtlocaplkfaepnaaGreat
end
section
/- What a closed call yields, and the memory behind it: fusee/point.Step. -/
namespace Go.Proofs.YtlocaplkfaepnaaGreat
open Go SE
set_option maxRecDepth 100000
noncomputable section
def sSF3V : AV := (AV.agg [(i64 2), (AV.lit (Value.string (bs [98]))), (AV.lit (Value.string (bs [50]))), (AV.lit (Value.string (bs []))), (AV.lit (Value.slice none 0 0)), (i64 4), (u64 1), (AV.lit (Value.string (bs []))), (AV.lit (Value.bool false)), (i64 0), (AV.lit (Value.bool false)), (AV.lit (Value.string (bs []))), (u64 0), (u64 0), (i64 0), (i64 0), (i64 3), (i64 0), (i64 0), (AV.lit (Value.slice none 0 0)), (i64 0), (AV.lit (Value.slice none 0 0)), (i64 0), (AV.lit (Value.bool false)), (AV.lit (Value.string (bs []))), (AV.lit (Value.slice none 0 0)), (AV.lit (Value.slice none 0 0)), (u64 0)])
def sSF3O : List AObj := [
(AObj.cells 94 (Cs.av [(AV.ptr 1 0), (AV.ptr 2 0), (AV.ptr 3 0), (AV.ptr 4 0), (AV.ptr 5 0), (AV.ptr 6 0), (AV.ptr 7 0), (AV.ptr 8 0), (u64 1), (u64 1), (AV.slU 9 0 1 7)])),
(AObj.cells 161 (Cs.av [(AV.ptr 10 0), (AV.lit (Value.int IntKind.u32 1)), (AV.lit (Value.int IntKind.i32 0)), (AV.lit (Value.int IntKind.u32 0))])),
(AObj.cells 172 (Cs.av [(AV.sl 11 0 1 1)])),
(AObj.cells 175 (Cs.av [(u64 1), (AV.sl 12 0 1 1)])),
(AObj.cells 215 (Cs.av ([(u64 1), (u64 0), (u64 0), (AV.sl 13 0 1 1), (AV.lit (Value.bool false)), (AV.lit (Value.bool false)), (AV.lit (Value.bool true))] ++ List.replicate 513 (AV.lit (Value.bool false)) ++ [(AV.lit Value.nilFunc)]))),
(AObj.cells 120 (Cs.av [(AV.lit (Value.slice none 0 0))])),
(AObj.cells 181 (Cs.av [(AV.mp 14), (AV.mp 15), (AV.mp 16), (AV.mp 17), (AV.mp 18), (AV.mp 19), (AV.mp 20), (AV.mp 21)])),
(AObj.cells 218 (Cs.av [(AV.slU 22 0 1 5), (AV.slU 23 0 1 5), (AV.slU 24 0 1 5), (AV.slU 25 0 1 5)])),
(AObj.cells 193 (Cs.av [(AV.lit (Value.slice none 0 0)), (i64 0), (i64 0)])),
(AObj.room 117 (Cs.av [(i64 1), (AV.lit (Value.string (bs [97]))), (AV.lit (Value.string (bs [49]))), (u64 1), (u64 1), (u64 1), (i64 1)])),
(AObj.cells 142 (Cs.av [(AV.sl 26 0 10 10), (i64 4), (i64 2), (i64 1), (i64 0), (i64 0)])),
(AObj.cells 99 (Cs.tr 10 [(i64 0), (AV.lit (Value.bool false)), (AV.lit (Value.bool false)), (AV.lit (Value.bool false)), (AV.lit (Value.bool false)), (AV.lit (Value.bool false)), (AV.lit (Value.bool false)), (AV.lit (Value.bool false)), (AV.lit (Value.bool false)), (i64 0)] (PM.node (PM.node PM.leaf (some (AV.lit (Value.bool true))) (PM.node (PM.node PM.leaf (some (i64 2)) PM.leaf) none PM.leaf)) (some (i64 0)) (PM.node PM.leaf (some (AV.lit (Value.bool true))) PM.leaf)))),
(AObj.cells 92 (Cs.tr 1 [(u64 0)] (PM.node PM.leaf (some (u64 1)) PM.leaf))),
(AObj.cells 3 (Cs.tr 1 [(i64 0)] (PM.node PM.leaf (some (i64 1)) PM.leaf))),
(AObj.map [] 0),
(AObj.map [] 0),
(AObj.map [] 0),
(AObj.map [((AV.lit (Value.string (bs [97]))), ((AV.agg [(AV.lit (Value.string (bs [97]))), (u64 1), (u64 1), (i64 2), (i64 0)]), 0))] 1),
(AObj.map [] 0),
(AObj.map [] 0),
(AObj.map [] 0),
(AObj.map [] 0),
(AObj.room 66 (Cs.av [(AV.lit (Value.string (bs [97]))), (u64 1), (u64 1), (i64 2), (i64 0)])),
(AObj.room 66 (Cs.av [(AV.lit (Value.string (bs [97]))), (u64 1), (u64 1), (i64 2), (i64 0)])),
(AObj.room 66 (Cs.av [(AV.lit (Value.string (bs [97]))), (u64 1), (u64 1), (i64 2), (i64 0)])),
(AObj.room 66 (Cs.av [(AV.lit (Value.string (bs [97]))), (u64 1), (u64 1), (i64 2), (i64 0)])),
(AObj.cells 256 (Cs.tr 1930 (List.replicate 192 (AV.lit (v8 0)) ++ [(AV.lit (Value.bool false))]) (N8 (N8 (N8 (N8 (N8 (N8 (N8 (N8 (L8 0) 0 (L8 0)) 0 (N8 (L8 0) 0 (L8 0))) 0 (N8 (N8 (L8 0) 0 (L8 0)) 0 (N8 (L8 0) 0 PM.leaf))) 0 (N8 (N8 (N8 (L8 0) 0 (L8 0)) 0 (N8 (L8 0) 0 PM.leaf)) 0 (N8 (N8 (L8 0) 0 (L8 0)) 0 (N8 (L8 0) 0 PM.leaf)))) 0 (N8 (N8 (N8 (N8 (L8 0) 0 (L8 0)) 0 (N8 (L8 0) 0 PM.leaf)) 0 (N8 (N8 (L8 0) 0 (L8 49)) 0 (N8 (L8 0) 0 PM.leaf))) 0 (N8 (N8 (N8 (L8 0) 0 (L8 0)) 0 (N8 (L8 0) 0 PM.leaf)) 0 (N8 (N8 (L8 0) 0 (L8 0)) 0 (N8 (L8 0) 0 PM.leaf))))) 83 (N8 (N8 (N8 (N8 (N8 (L8 0) 83 (L8 0)) 83 (N8 (L8 0) 0 PM.leaf)) 0 (N8 (N8 (L8 0) 0 (L8 38)) 0 (N8 (L8 0) 0 PM.leaf))) 0 (N8 (N8 (N8 (L8 0) 0 (L8 0)) 0 (N8 (L8 0) 0 PM.leaf)) 0 (N8 (N8 (L8 0) 0 (L8 0)) 0 (N8 (L8 0) 0 PM.leaf)))) 78 (N8 (N8 (N8 (N8 (L8 40) 78 (L8 0)) 78 (N8 (L8 40) 40 PM.leaf)) 0 (N8 (N8 (L8 0) 0 (L8 0)) 0 (N8 (L8 0) 0 PM.leaf))) 0 (N8 (N8 (N8 (L8 0) 0 (L8 0)) 0 (N8 (L8 0) 0 PM.leaf)) 0 (N8 (N8 (L8 0) 0 (L8 0)) 0 (N8 (L8 0) 0 PM.leaf)))))) 70 (N8 (N8 (N8 (N8 (N8 (N8 (L8 3) 70 (PM.node PM.leaf (some (AV.lit (Value.bool false))) PM.leaf)) 70 (N8 (L8 3) 3 (L8 0))) 0 (N8 (N8 (L8 0) 0 (L8 0)) 0 (N8 (L8 0) 0 PM.leaf))) 0 (N8 (N8 (N8 (L8 0) 0 (L8 0)) 0 (N8 (L8 0) 0 PM.leaf)) 0 (N8 (N8 (L8 0) 0 (L8 0)) 0 (N8 (L8 0) 0 PM.leaf)))) 220 (N8 (N8 (N8 (N8 (L8 0) 220 (L8 0)) 220 (N8 (L8 0) 0 PM.leaf)) 0 (N8 (N8 (L8 0) 0 (L8 0)) 0 (N8 (L8 0) 0 PM.leaf))) 0 (N8 (N8 (N8 (L8 0) 0 (L8 0)) 0 (N8 (L8 0) 0 PM.leaf)) 0 (N8 (N8 (L8 0) 0 (L8 0)) 0 (N8 (L8 0) 0 PM.leaf))))) 10 (N8 (N8 (N8 (N8 (N8 (L8 0) 10 (L8 1)) 10 (N8 (L8 0) 0 PM.leaf)) 0 (N8 (N8 (L8 0) 0 (L8 129)) 0 (N8 (L8 0) 0 PM.leaf))) 0 (N8 (N8 (N8 (L8 0) 0 (L8 0)) 0 (N8 (L8 0) 0 PM.leaf)) 0 (N8 (N8 (L8 0) 0 (L8 0)) 0 (N8 (L8 0) 0 PM.leaf)))) 0 (N8 (N8 (N8 (N8 (L8 223) 0 (L8 0)) 0 (N8 (L8 223) 223 PM.leaf)) 0 (N8 (N8 (L8 0) 0 (L8 0)) 0 (N8 (L8 0) 0 PM.leaf))) 0 (N8 (N8 (N8 (L8 0) 0 (L8 0)) 0 (N8 (L8 0) 0 PM.leaf)) 0 (N8 (N8 (L8 0) 0 (L8 0)) 0 (N8 (L8 0) 0 PM.leaf))))))) 4 (N8 (N8 (N8 (N8 (N8 (N8 (N8 (L8 0) 4 (L8 0)) 4 (PM.node (L8 0) (some (AV.lit (Value.bool false))) (L8 0))) 0 (N8 (N8 (L8 0) 0 (L8 0)) 0 (N8 (L8 0) 0 PM.leaf))) 0 (N8 (N8 (N8 (L8 0) 0 (L8 0)) 0 (N8 (L8 0) 0 PM.leaf)) 0 (N8 (N8 (L8 0) 0 (L8 0)) 0 (N8 (L8 0) 0 PM.leaf)))) 0 (N8 (N8 (N8 (N8 (L8 0) 0 (L8 0)) 0 (N8 (L8 0) 0 PM.leaf)) 0 (N8 (N8 (L8 0) 0 (L8 0)) 0 (N8 (L8 0) 0 PM.leaf))) 0 (N8 (N8 (N8 (L8 0) 0 (L8 0)) 0 (N8 (L8 0) 0 PM.leaf)) 0 (N8 (N8 (L8 0) 0 (L8 0)) 0 (N8 (L8 0) 0 PM.leaf))))) 69 (N8 (N8 (N8 (N8 (N8 (L8 0) 69 (L8 1)) 69 (N8 (L8 0) 0 PM.leaf)) 0 (N8 (N8 (L8 0) 0 (L8 201)) 0 (N8 (L8 0) 0 PM.leaf))) 0 (N8 (N8 (N8 (L8 0) 0 (L8 0)) 0 (N8 (L8 0) 0 PM.leaf)) 0 (N8 (N8 (L8 0) 0 (L8 0)) 0 (N8 (L8 0) 0 PM.leaf)))) 80 (N8 (N8 (N8 (N8 (L8 132) 80 (L8 0)) 80 (N8 (L8 132) 132 PM.leaf)) 0 (N8 (N8 (L8 0) 0 (L8 0)) 0 (N8 (L8 0) 0 PM.leaf))) 0 (N8 (N8 (N8 (L8 0) 0 (L8 0)) 0 (N8 (L8 0) 0 PM.leaf)) 0 (N8 (N8 (L8 0) 0 (L8 0)) 0 (N8 (L8 0) 0 PM.leaf)))))) 85 (N8 (N8 (N8 (N8 (N8 (N8 (L8 0) 85 (L8 1)) 85 (N8 (L8 0) 0 PM.leaf)) 0 (N8 (N8 (L8 0) 0 (L8 30)) 0 (N8 (L8 0) 0 PM.leaf))) 0 (N8 (N8 (N8 (L8 0) 0 (L8 1)) 0 (N8 (L8 0) 0 PM.leaf)) 0 (N8 (N8 (L8 0) 0 (L8 0)) 0 (N8 (L8 0) 0 PM.leaf)))) 5 (N8 (N8 (N8 (N8 (L8 107) 5 (L8 1)) 5 (N8 (L8 107) 107 PM.leaf)) 0 (N8 (N8 (L8 0) 0 (L8 0)) 0 (N8 (L8 0) 0 PM.leaf))) 0 (N8 (N8 (N8 (L8 0) 0 (L8 1)) 0 (N8 (L8 0) 0 PM.leaf)) 0 (N8 (N8 (L8 0) 0 (L8 0)) 0 (N8 (L8 0) 0 PM.leaf))))) 0 (N8 (N8 (N8 (N8 (N8 (L8 0) 0 (L8 1)) 0 (N8 (L8 0) 0 PM.leaf)) 0 (N8 (N8 (L8 0) 0 (L8 97)) 0 (N8 (L8 0) 0 PM.leaf))) 0 (N8 (N8 (N8 (L8 0) 0 (L8 0)) 0 (N8 (L8 0) 0 PM.leaf)) 0 (N8 (N8 (L8 0) 0 (L8 0)) 0 (N8 (L8 0) 0 PM.leaf)))) 0 (N8 (N8 (N8 (N8 (L8 0) 0 (L8 0)) 0 (N8 (L8 0) 0 PM.leaf)) 0 (N8 (N8 (L8 0) 0 (L8 0)) 0 (N8 (L8 0) 0 PM.leaf))) 0 (N8 (N8 (N8 (L8 0) 0 (L8 0)) 0 (N8 (L8 0) 0 PM.leaf)) 0 (N8 (N8 (L8 0) 0 (L8 0)) 0 (N8 (L8 0) 0 PM.leaf))))))))))]
abbrev sSF3M : Nat := 27
def sSF3I : List Nat := [0, 1, 2, 3, 4, 5, 6, 7, 8, 9, 10, 11, 12, 13, 14, 15, 16, 17, 18, 19, 20, 21, 22, 23, 24, 25, 26]
end
end Go.Proofs.YtlocaplkfaepnaaGreat
end
section
/- A closed call, run: fusee/point.Step. -/
namespace Go.Proofs.YtlocaplkfaepnaaGreat
open Go SE
set_option maxRecDepth 100000
noncomputable section
theorem sSF3_look : lookX tblR 55 = none := by kernel_rfl
theorem sSF3_run : runH Tryz.prog tblR tt 2000 40 55 [.ptr 0 0, i64 0, sSF2V] (hO sSF2M sSF2O) (told sSF3I) = .ok (vmap (atL sSF3I) sSF3V, sSF3O.map fun o => some (omap (atL sSF3I) o)) := by kernel_rfl
theorem sSF3_sp : Sp Tryz.prog 55 [.ptr 0 0, i64 0, sSF2V] (hO 1 [packed sSF2M sSF2O]) (fun v h => v = sSF3V ∧ h = hO 1 [packed sSF3M sSF3O]) :=
  stageP tt_ok mixed tblR_ok 2000 40 sSF2M sSF2O sSF3M sSF3I sSF3V sSF3O sSF3_look sSF3_run (by kernel_rfl) (by kernel_rfl) (by kernel_rfl)
end
end Go.Proofs.YtlocaplkfaepnaaGreat
end
section
/- What a closed call yields, and the memory behind it: fusee/point.Step. -/
namespace Go.Proofs.YtlocaplkfaepnaaGreat
open Go SE
set_option maxRecDepth 100000
noncomputable section
def sSF4V : AV := (AV.agg [(i64 2), (AV.lit (Value.string (bs [98]))), (AV.lit (Value.string (bs [50]))), (AV.lit (Value.string (bs []))), (AV.lit (Value.slice none 0 0)), (i64 5), (u64 1), (AV.lit (Value.string (bs []))), (AV.lit (Value.bool false)), (i64 0), (AV.lit (Value.bool false)), (AV.lit (Value.string (bs []))), (u64 0), (u64 0), (i64 0), (i64 0), (i64 3), (i64 0), (i64 0), (AV.lit (Value.slice none 0 0)), (i64 0), (AV.lit (Value.slice none 0 0)), (i64 0), (AV.lit (Value.bool false)), (AV.lit (Value.string (bs []))), (AV.lit (Value.slice none 0 0)), (AV.lit (Value.slice none 0 0)), (u64 0)])
def sSF4O : List AObj := [
(AObj.cells 94 (Cs.av [(AV.ptr 1 0), (AV.ptr 2 0), (AV.ptr 3 0), (AV.ptr 4 0), (AV.ptr 5 0), (AV.ptr 6 0), (AV.ptr 7 0), (AV.ptr 8 0), (u64 1), (u64 1), (AV.slU 9 0 1 7)])),
(AObj.cells 161 (Cs.av [(AV.ptr 10 0), (AV.lit (Value.int IntKind.u32 1)), (AV.lit (Value.int IntKind.i32 0)), (AV.lit (Value.int IntKind.u32 0))])),
(AObj.cells 172 (Cs.av [(AV.sl 11 0 1 1)])),
(AObj.cells 175 (Cs.av [(u64 1), (AV.sl 12 0 1 1)])),
(AObj.cells 215 (Cs.av ([(u64 1), (u64 0), (u64 0), (AV.sl 13 0 1 1), (AV.lit (Value.bool false)), (AV.lit (Value.bool false)), (AV.lit (Value.bool true))] ++ List.replicate 513 (AV.lit (Value.bool false)) ++ [(AV.lit Value.nilFunc)]))),
(AObj.cells 120 (Cs.av [(AV.lit (Value.slice none 0 0))])),
(AObj.cells 181 (Cs.av [(AV.mp 14), (AV.mp 15), (AV.mp 16), (AV.mp 17), (AV.mp 18), (AV.mp 19), (AV.mp 20), (AV.mp 21)])),
(AObj.cells 218 (Cs.av [(AV.slU 22 0 1 5), (AV.slU 23 0 1 5), (AV.slU 24 0 1 5), (AV.slU 25 0 1 5)])),
(AObj.cells 193 (Cs.av [(AV.lit (Value.slice none 0 0)), (i64 0), (i64 0)])),
(AObj.room 117 (Cs.av [(i64 1), (AV.lit (Value.string (bs [97]))), (AV.lit (Value.string (bs [49]))), (u64 1), (u64 1), (u64 1), (i64 1)])),
(AObj.cells 142 (Cs.av [(AV.sl 26 0 10 10), (i64 5), (i64 2), (i64 1), (i64 0), (i64 0)])),
(AObj.cells 99 (Cs.tr 10 [(i64 0), (AV.lit (Value.bool false)), (AV.lit (Value.bool false)), (AV.lit (Value.bool false)), (AV.lit (Value.bool false)), (AV.lit (Value.bool false)), (AV.lit (Value.bool false)), (AV.lit (Value.bool false)), (AV.lit (Value.bool false)), (i64 0)] (PM.node (PM.node PM.leaf (some (AV.lit (Value.bool true))) (PM.node (PM.node PM.leaf (some (i64 2)) PM.leaf) none PM.leaf)) (some (i64 0)) (PM.node PM.leaf (some (AV.lit (Value.bool true))) PM.leaf)))),
(AObj.cells 92 (Cs.tr 1 [(u64 0)] (PM.node PM.leaf (some (u64 1)) PM.leaf))),
(AObj.cells 3 (Cs.tr 1 [(i64 0)] (PM.node PM.leaf (some (i64 1)) PM.leaf))),
(AObj.map [] 0),
(AObj.map [] 0),
(AObj.map [] 0),
(AObj.map [((AV.lit (Value.string (bs [97]))), ((AV.agg [(AV.lit (Value.string (bs [97]))), (u64 1), (u64 1), (i64 2), (i64 0)]), 0))] 1),
(AObj.map [] 0),
(AObj.map [] 0),
(AObj.map [] 0),
(AObj.map [] 0),
(AObj.room 66 (Cs.av [(AV.lit (Value.string (bs [97]))), (u64 1), (u64 1), (i64 2), (i64 0)])),
(AObj.room 66 (Cs.av [(AV.lit (Value.string (bs [97]))), (u64 1), (u64 1), (i64 2), (i64 0)])),
(AObj.room 66 (Cs.av [(AV.lit (Value.string (bs [97]))), (u64 1), (u64 1), (i64 2), (i64 0)])),
(AObj.room 66 (Cs.av [(AV.lit (Value.string (bs [97]))), (u64 1), (u64 1), (i64 2), (i64 0)])),
(AObj.cells 256 (Cs.tr 1930 (List.replicate 192 (AV.lit (v8 0)) ++ [(AV.lit (Value.bool false))]) (N8 (N8 (N8 (N8 (N8 (N8 (N8 (N8 (L8 0) 0 (N8 (L8 0) 0 PM.leaf)) 0 (N8 (L8 0) 0 (L8 0))) 0 (N8 (N8 (L8 0) 0 (L8 0)) 0 (N8 (N8 (L8 0) 0 PM.leaf) 0 PM.leaf))) 0 (N8 (N8 (N8 (L8 0) 0 (L8 0)) 0 (N8 (N8 (L8 0) 0 PM.leaf) 0 PM.leaf)) 0 (N8 (N8 (L8 0) 0 (L8 0)) 0 (N8 (N8 (L8 0) 0 PM.leaf) 0 PM.leaf)))) 0 (N8 (N8 (N8 (N8 (L8 0) 0 (L8 0)) 0 (N8 (N8 (L8 0) 0 PM.leaf) 0 PM.leaf)) 0 (N8 (N8 (L8 0) 0 (L8 49)) 0 (N8 (N8 (L8 0) 0 PM.leaf) 0 PM.leaf))) 0 (N8 (N8 (N8 (L8 0) 0 (L8 0)) 0 (N8 (N8 (L8 0) 0 PM.leaf) 0 PM.leaf)) 0 (N8 (N8 (L8 0) 0 (L8 0)) 0 (N8 (N8 (L8 0) 0 PM.leaf) 0 PM.leaf))))) 83 (N8 (N8 (N8 (N8 (N8 (L8 0) 83 (L8 0)) 83 (N8 (N8 (L8 1) 0 PM.leaf) 0 PM.leaf)) 0 (N8 (N8 (L8 0) 0 (L8 38)) 0 (N8 (N8 (L8 135) 0 PM.leaf) 0 PM.leaf))) 0 (N8 (N8 (N8 (L8 0) 0 (L8 0)) 0 (N8 (N8 (L8 0) 0 PM.leaf) 0 PM.leaf)) 0 (N8 (N8 (L8 0) 0 (L8 0)) 0 (N8 (N8 (L8 0) 0 PM.leaf) 0 PM.leaf)))) 78 (N8 (N8 (N8 (N8 (L8 40) 78 (L8 0)) 78 (N8 (N8 (L8 0) 40 PM.leaf) 40 PM.leaf)) 0 (N8 (N8 (L8 0) 0 (L8 0)) 0 (N8 (N8 (L8 0) 0 PM.leaf) 0 PM.leaf))) 0 (N8 (N8 (N8 (L8 0) 0 (L8 0)) 0 (N8 (N8 (L8 0) 0 PM.leaf) 0 PM.leaf)) 0 (N8 (N8 (L8 0) 0 (L8 0)) 0 (N8 (N8 (L8 0) 0 PM.leaf) 0 PM.leaf)))))) 70 (N8 (N8 (N8 (N8 (N8 (N8 (L8 3) 70 (PM.node (L8 0) (some (AV.lit (Value.bool false))) PM.leaf)) 70 (N8 (L8 3) 3 (L8 0))) 0 (N8 (N8 (L8 0) 0 (L8 0)) 0 (N8 (N8 (L8 0) 0 PM.leaf) 0 PM.leaf))) 0 (N8 (N8 (N8 (L8 0) 0 (L8 0)) 0 (N8 (N8 (L8 0) 0 PM.leaf) 0 PM.leaf)) 0 (N8 (N8 (L8 0) 0 (L8 0)) 0 (N8 (N8 (L8 0) 0 PM.leaf) 0 PM.leaf)))) 220 (N8 (N8 (N8 (N8 (L8 0) 220 (L8 0)) 220 (N8 (N8 (L8 0) 0 PM.leaf) 0 PM.leaf)) 0 (N8 (N8 (L8 0) 0 (L8 0)) 0 (N8 (N8 (L8 0) 0 PM.leaf) 0 PM.leaf))) 0 (N8 (N8 (N8 (L8 0) 0 (L8 0)) 0 (N8 (N8 (L8 0) 0 PM.leaf) 0 PM.leaf)) 0 (N8 (N8 (L8 0) 0 (L8 0)) 0 (N8 (N8 (L8 0) 0 PM.leaf) 0 PM.leaf))))) 10 (N8 (N8 (N8 (N8 (N8 (L8 0) 10 (L8 1)) 10 (N8 (N8 (L8 0) 0 PM.leaf) 0 PM.leaf)) 0 (N8 (N8 (L8 0) 0 (L8 129)) 0 (N8 (N8 (L8 193) 0 PM.leaf) 0 PM.leaf))) 0 (N8 (N8 (N8 (L8 0) 0 (L8 0)) 0 (N8 (N8 (L8 0) 0 PM.leaf) 0 PM.leaf)) 0 (N8 (N8 (L8 0) 0 (L8 0)) 0 (N8 (N8 (L8 0) 0 PM.leaf) 0 PM.leaf)))) 0 (N8 (N8 (N8 (N8 (L8 223) 0 (L8 0)) 0 (N8 (N8 (L8 0) 223 PM.leaf) 223 PM.leaf)) 0 (N8 (N8 (L8 0) 0 (L8 0)) 0 (N8 (N8 (L8 0) 0 PM.leaf) 0 PM.leaf))) 0 (N8 (N8 (N8 (L8 0) 0 (L8 0)) 0 (N8 (N8 (L8 0) 0 PM.leaf) 0 PM.leaf)) 0 (N8 (N8 (L8 0) 0 (L8 0)) 0 (N8 (N8 (L8 0) 0 PM.leaf) 0 PM.leaf))))))) 4 (N8 (N8 (N8 (N8 (N8 (N8 (N8 (L8 0) 4 (N8 (L8 0) 0 PM.leaf)) 4 (PM.node (L8 0) (some (AV.lit (Value.bool false))) (L8 0))) 0 (N8 (N8 (L8 0) 0 (L8 0)) 0 (N8 (N8 (L8 0) 0 PM.leaf) 0 PM.leaf))) 0 (N8 (N8 (N8 (L8 0) 0 (L8 0)) 0 (N8 (N8 (L8 0) 0 PM.leaf) 0 PM.leaf)) 0 (N8 (N8 (L8 0) 0 (L8 0)) 0 (N8 (N8 (L8 0) 0 PM.leaf) 0 PM.leaf)))) 0 (N8 (N8 (N8 (N8 (L8 0) 0 (L8 0)) 0 (N8 (N8 (L8 0) 0 PM.leaf) 0 PM.leaf)) 0 (N8 (N8 (L8 0) 0 (L8 0)) 0 (N8 (N8 (L8 0) 0 PM.leaf) 0 PM.leaf))) 0 (N8 (N8 (N8 (L8 0) 0 (L8 0)) 0 (N8 (N8 (L8 0) 0 PM.leaf) 0 PM.leaf)) 0 (N8 (N8 (L8 0) 0 (L8 0)) 0 (N8 (N8 (L8 0) 0 PM.leaf) 0 PM.leaf))))) 69 (N8 (N8 (N8 (N8 (N8 (L8 0) 69 (L8 1)) 69 (N8 (N8 (L8 0) 0 PM.leaf) 0 PM.leaf)) 0 (N8 (N8 (L8 0) 0 (L8 201)) 0 (N8 (N8 (L8 7) 0 PM.leaf) 0 PM.leaf))) 0 (N8 (N8 (N8 (L8 0) 0 (L8 0)) 0 (N8 (N8 (L8 0) 0 PM.leaf) 0 PM.leaf)) 0 (N8 (N8 (L8 0) 0 (L8 0)) 0 (N8 (N8 (L8 0) 0 PM.leaf) 0 PM.leaf)))) 80 (N8 (N8 (N8 (N8 (L8 132) 80 (L8 0)) 80 (N8 (N8 (L8 0) 132 PM.leaf) 132 PM.leaf)) 0 (N8 (N8 (L8 0) 0 (L8 0)) 0 (N8 (N8 (L8 0) 0 PM.leaf) 0 PM.leaf))) 0 (N8 (N8 (N8 (L8 0) 0 (L8 0)) 0 (N8 (N8 (L8 0) 0 PM.leaf) 0 PM.leaf)) 0 (N8 (N8 (L8 0) 0 (L8 0)) 0 (N8 (N8 (L8 0) 0 PM.leaf) 0 PM.leaf)))))) 85 (N8 (N8 (N8 (N8 (N8 (N8 (L8 0) 85 (N8 (L8 0) 1 PM.leaf)) 85 (N8 (L8 0) 0 PM.leaf)) 0 (N8 (N8 (L8 0) 0 (L8 30)) 0 (N8 (N8 (L8 0) 0 PM.leaf) 0 PM.leaf))) 0 (N8 (N8 (N8 (L8 0) 0 (L8 1)) 0 (N8 (N8 (L8 0) 0 PM.leaf) 0 PM.leaf)) 0 (N8 (N8 (L8 0) 0 (L8 0)) 0 (N8 (N8 (L8 0) 0 PM.leaf) 0 PM.leaf)))) 5 (N8 (N8 (N8 (N8 (L8 107) 5 (L8 1)) 5 (N8 (N8 (L8 0) 107 PM.leaf) 107 PM.leaf)) 0 (N8 (N8 (L8 0) 0 (L8 0)) 0 (N8 (N8 (L8 0) 0 PM.leaf) 0 PM.leaf))) 0 (N8 (N8 (N8 (L8 0) 0 (L8 1)) 0 (N8 (N8 (L8 0) 0 PM.leaf) 0 PM.leaf)) 0 (N8 (N8 (L8 0) 0 (L8 0)) 0 (N8 (N8 (L8 0) 0 PM.leaf) 0 PM.leaf))))) 0 (N8 (N8 (N8 (N8 (N8 (L8 0) 0 (L8 1)) 0 (N8 (N8 (L8 0) 0 PM.leaf) 0 PM.leaf)) 0 (N8 (N8 (L8 0) 0 (L8 97)) 0 (N8 (N8 (L8 206) 0 PM.leaf) 0 PM.leaf))) 0 (N8 (N8 (N8 (L8 0) 0 (L8 0)) 0 (N8 (N8 (L8 0) 0 PM.leaf) 0 PM.leaf)) 0 (N8 (N8 (L8 0) 0 (L8 0)) 0 (N8 (N8 (L8 0) 0 PM.leaf) 0 PM.leaf)))) 0 (N8 (N8 (N8 (N8 (L8 0) 0 (L8 0)) 0 (N8 (N8 (L8 0) 0 PM.leaf) 0 PM.leaf)) 0 (N8 (N8 (L8 0) 0 (L8 0)) 0 (N8 (N8 (L8 0) 0 PM.leaf) 0 PM.leaf))) 0 (N8 (N8 (N8 (L8 0) 0 (L8 0)) 0 (N8 (N8 (L8 0) 0 PM.leaf) 0 PM.leaf)) 0 (N8 (N8 (L8 0) 0 (L8 0)) 0 (N8 (N8 (L8 0) 0 PM.leaf) 0 PM.leaf))))))))))]
abbrev sSF4M : Nat := 27
def sSF4I : List Nat := [0, 1, 2, 3, 4, 5, 6, 7, 8, 9, 10, 11, 12, 13, 14, 15, 16, 17, 18, 19, 20, 21, 22, 23, 24, 25, 26]
end
end Go.Proofs.YtlocaplkfaepnaaGreat
end
section
/- A closed call, run: fusee/point.Step. -/
namespace Go.Proofs.YtlocaplkfaepnaaGreat
open Go SE
set_option maxRecDepth 100000
noncomputable section
theorem sSF4_look : lookX tblR 55 = none := by kernel_rfl
theorem sSF4_run : runH Tryz.prog tblR tt 2000 40 55 [.ptr 0 0, i64 0, sSF3V] (hO sSF3M sSF3O) (told sSF4I) = .ok (vmap (atL sSF4I) sSF4V, sSF4O.map fun o => some (omap (atL sSF4I) o)) := by kernel_rfl
theorem sSF4_sp : Sp Tryz.prog 55 [.ptr 0 0, i64 0, sSF3V] (hO 1 [packed sSF3M sSF3O]) (fun v h => v = sSF4V ∧ h = hO 1 [packed sSF4M sSF4O]) :=
  stageP tt_ok mixed tblR_ok 2000 40 sSF3M sSF3O sSF4M sSF4I sSF4V sSF4O sSF4_look sSF4_run (by kernel_rfl) (by kernel_rfl) (by kernel_rfl)
end
end Go.Proofs.YtlocaplkfaepnaaGreat
end
section
/- What a closed call yields, and the memory behind it: fusee/point.Step. -/
namespace Go.Proofs.YtlocaplkfaepnaaGreat
open Go SE
set_option maxRecDepth 100000
noncomputable section
def sSF5V : AV := (AV.agg [(i64 2), (AV.lit (Value.string (bs [98]))), (AV.lit (Value.string (bs [50]))), (AV.lit (Value.string (bs []))), (AV.lit (Value.slice none 0 0)), (i64 6), (u64 1), (AV.lit (Value.string (bs []))), (AV.lit (Value.bool false)), (i64 0), (AV.lit (Value.bool false)), (AV.lit (Value.string (bs []))), (u64 0), (u64 0), (i64 0), (i64 0), (i64 (-0 - 1)), (i64 0), (i64 0), (AV.lit (Value.slice none 0 0)), (i64 0), (AV.lit (Value.slice none 0 0)), (i64 0), (AV.lit (Value.bool false)), (AV.lit (Value.string (bs []))), (AV.lit (Value.slice none 0 0)), (AV.lit (Value.slice none 0 0)), (u64 1)])
def sSF5O : List AObj := [
(AObj.cells 94 (Cs.av [(AV.ptr 1 0), (AV.ptr 2 0), (AV.ptr 3 0), (AV.ptr 4 0), (AV.ptr 5 0), (AV.ptr 6 0), (AV.ptr 7 0), (AV.ptr 8 0), (u64 2), (u64 2), (AV.slU 9 0 2 7)])),
(AObj.cells 161 (Cs.av [(AV.ptr 10 0), (AV.lit (Value.int IntKind.u32 1)), (AV.lit (Value.int IntKind.i32 0)), (AV.lit (Value.int IntKind.u32 0))])),
(AObj.cells 172 (Cs.av [(AV.sl 11 0 1 1)])),
(AObj.cells 175 (Cs.av [(u64 1), (AV.sl 12 0 1 1)])),
(AObj.cells 215 (Cs.av ([(u64 1), (u64 0), (u64 0), (AV.sl 13 0 1 1), (AV.lit (Value.bool false)), (AV.lit (Value.bool false)), (AV.lit (Value.bool true)), (AV.lit (Value.bool true))] ++ List.replicate 512 (AV.lit (Value.bool false)) ++ [(AV.lit Value.nilFunc)]))),
(AObj.cells 120 (Cs.av [(AV.lit (Value.slice none 0 0))])),
(AObj.cells 181 (Cs.av [(AV.mp 14), (AV.mp 15), (AV.mp 16), (AV.mp 17), (AV.mp 18), (AV.mp 19), (AV.mp 20), (AV.mp 21)])),
(AObj.cells 218 (Cs.av [(AV.slU 22 0 2 5), (AV.slU 23 0 1 5), (AV.slU 24 0 1 5), (AV.slU 25 0 1 5)])),
(AObj.cells 193 (Cs.av [(AV.lit (Value.slice none 0 0)), (i64 0), (i64 0)])),
(AObj.room 117 (Cs.av [(i64 1), (AV.lit (Value.string (bs [97]))), (AV.lit (Value.string (bs [49]))), (u64 1), (u64 1), (u64 1), (i64 1), (i64 1), (AV.lit (Value.string (bs [98]))), (AV.lit (Value.string (bs [50]))), (u64 2), (u64 2), (u64 1), (i64 2)])),
(AObj.cells 142 (Cs.av [(AV.sl 26 0 10 10), (i64 6), (i64 2), (i64 1), (i64 0), (i64 0)])),
(AObj.cells 99 (Cs.tr 10 [(i64 0), (AV.lit (Value.bool false)), (AV.lit (Value.bool false)), (AV.lit (Value.bool false)), (AV.lit (Value.bool false)), (AV.lit (Value.bool false)), (AV.lit (Value.bool false)), (AV.lit (Value.bool false)), (AV.lit (Value.bool false)), (i64 0)] (PM.node (PM.node PM.leaf (some (AV.lit (Value.bool true))) (PM.node (PM.node PM.leaf (some (i64 2)) PM.leaf) none PM.leaf)) (some (i64 0)) (PM.node PM.leaf (some (AV.lit (Value.bool true))) PM.leaf)))),
(AObj.cells 92 (Cs.tr 1 [(u64 0)] (PM.node PM.leaf (some (u64 1)) PM.leaf))),
(AObj.cells 3 (Cs.tr 1 [(i64 0)] (PM.node PM.leaf (some (i64 2)) PM.leaf))),
(AObj.map [] 0),
(AObj.map [((AV.lit (Value.string (bs [98]))), ((AV.agg [(AV.lit (Value.string (bs [98]))), (u64 2), (u64 2), (i64 3), (i64 0)]), 0))] 1),
(AObj.map [] 0),
(AObj.map [((AV.lit (Value.string (bs [97]))), ((AV.agg [(AV.lit (Value.string (bs [97]))), (u64 1), (u64 1), (i64 2), (i64 0)]), 0))] 1),
(AObj.map [] 0),
(AObj.map [] 0),
(AObj.map [] 0),
(AObj.map [] 0),
(AObj.room 66 (Cs.av [(AV.lit (Value.string (bs [97]))), (u64 1), (u64 1), (i64 2), (i64 0), (AV.lit (Value.string (bs [98]))), (u64 2), (u64 2), (i64 3), (i64 0)])),
(AObj.room 66 (Cs.av [(AV.lit (Value.string (bs [97]))), (u64 1), (u64 1), (i64 2), (i64 0)])),
(AObj.room 66 (Cs.av [(AV.lit (Value.string (bs [97]))), (u64 1), (u64 1), (i64 2), (i64 0)])),
(AObj.room 66 (Cs.av [(AV.lit (Value.string (bs [97]))), (u64 1), (u64 1), (i64 2), (i64 0)])),
(AObj.cells 256 (Cs.tr 1930 (List.replicate 192 (AV.lit (v8 0)) ++ [(AV.lit (Value.bool false))]) (N8 (N8 (N8 (N8 (N8 (N8 (N8 (N8 (L8 0) 0 (N8 (L8 0) 0 PM.leaf)) 0 (N8 (L8 0) 0 (L8 0))) 0 (N8 (N8 (L8 0) 0 (L8 0)) 0 (N8 (N8 (L8 0) 0 PM.leaf) 0 PM.leaf))) 0 (N8 (N8 (N8 (L8 0) 0 (L8 0)) 0 (N8 (N8 (L8 0) 0 PM.leaf) 0 PM.leaf)) 0 (N8 (N8 (L8 0) 0 (L8 0)) 0 (N8 (N8 (L8 0) 0 PM.leaf) 0 PM.leaf)))) 0 (N8 (N8 (N8 (N8 (L8 0) 0 (L8 0)) 0 (N8 (N8 (L8 1) 0 PM.leaf) 0 PM.leaf)) 0 (N8 (N8 (L8 0) 0 (L8 49)) 0 (N8 (N8 (L8 98) 0 PM.leaf) 0 PM.leaf))) 0 (N8 (N8 (N8 (L8 0) 0 (L8 0)) 0 (N8 (N8 (L8 0) 0 PM.leaf) 0 PM.leaf)) 0 (N8 (N8 (L8 0) 0 (L8 0)) 0 (N8 (N8 (L8 0) 0 PM.leaf) 0 PM.leaf))))) 83 (N8 (N8 (N8 (N8 (N8 (L8 0) 83 (L8 0)) 83 (N8 (N8 (L8 1) 0 PM.leaf) 0 PM.leaf)) 0 (N8 (N8 (L8 0) 0 (L8 38)) 0 (N8 (N8 (L8 75) 0 PM.leaf) 0 PM.leaf))) 0 (N8 (N8 (N8 (L8 0) 0 (L8 0)) 0 (N8 (N8 (L8 2) 0 PM.leaf) 0 PM.leaf)) 0 (N8 (N8 (L8 0) 0 (L8 0)) 0 (N8 (N8 (L8 0) 0 PM.leaf) 0 PM.leaf)))) 78 (N8 (N8 (N8 (N8 (L8 40) 78 (L8 0)) 78 (N8 (N8 (L8 2) 40 PM.leaf) 40 PM.leaf)) 0 (N8 (N8 (L8 0) 0 (L8 0)) 0 (N8 (N8 (L8 0) 0 PM.leaf) 0 PM.leaf))) 0 (N8 (N8 (N8 (L8 0) 0 (L8 0)) 0 (N8 (N8 (L8 1) 0 PM.leaf) 0 PM.leaf)) 0 (N8 (N8 (L8 0) 0 (L8 0)) 0 (N8 (N8 (L8 0) 0 PM.leaf) 0 PM.leaf)))))) 70 (N8 (N8 (N8 (N8 (N8 (N8 (L8 3) 70 (PM.node (L8 0) (some (AV.lit (Value.bool false))) PM.leaf)) 70 (N8 (L8 3) 3 (L8 0))) 0 (N8 (N8 (L8 0) 0 (L8 0)) 0 (N8 (N8 (L8 0) 0 PM.leaf) 0 PM.leaf))) 0 (N8 (N8 (N8 (L8 0) 0 (L8 0)) 0 (N8 (N8 (L8 0) 0 PM.leaf) 0 PM.leaf)) 0 (N8 (N8 (L8 0) 0 (L8 0)) 0 (N8 (N8 (L8 0) 0 PM.leaf) 0 PM.leaf)))) 220 (N8 (N8 (N8 (N8 (L8 0) 220 (L8 0)) 220 (N8 (N8 (L8 0) 0 PM.leaf) 0 PM.leaf)) 0 (N8 (N8 (L8 0) 0 (L8 0)) 0 (N8 (N8 (L8 0) 0 PM.leaf) 0 PM.leaf))) 0 (N8 (N8 (N8 (L8 0) 0 (L8 0)) 0 (N8 (N8 (L8 0) 0 PM.leaf) 0 PM.leaf)) 0 (N8 (N8 (L8 0) 0 (L8 0)) 0 (N8 (N8 (L8 0) 0 PM.leaf) 0 PM.leaf))))) 10 (N8 (N8 (N8 (N8 (N8 (L8 0) 10 (L8 1)) 10 (N8 (N8 (L8 1) 0 PM.leaf) 0 PM.leaf)) 0 (N8 (N8 (L8 0) 0 (L8 129)) 0 (N8 (N8 (L8 174) 0 PM.leaf) 0 PM.leaf))) 0 (N8 (N8 (N8 (L8 0) 0 (L8 0)) 0 (N8 (N8 (L8 0) 0 PM.leaf) 0 PM.leaf)) 0 (N8 (N8 (L8 0) 0 (L8 0)) 0 (N8 (N8 (L8 0) 0 PM.leaf) 0 PM.leaf)))) 0 (N8 (N8 (N8 (N8 (L8 223) 0 (L8 0)) 0 (N8 (N8 (L8 0) 223 PM.leaf) 223 PM.leaf)) 0 (N8 (N8 (L8 0) 0 (L8 0)) 0 (N8 (N8 (L8 0) 0 PM.leaf) 0 PM.leaf))) 0 (N8 (N8 (N8 (L8 0) 0 (L8 0)) 0 (N8 (N8 (L8 0) 0 PM.leaf) 0 PM.leaf)) 0 (N8 (N8 (L8 0) 0 (L8 0)) 0 (N8 (N8 (L8 0) 0 PM.leaf) 0 PM.leaf))))))) 4 (N8 (N8 (N8 (N8 (N8 (N8 (N8 (L8 0) 4 (N8 (L8 0) 0 PM.leaf)) 4 (PM.node (L8 0) (some (AV.lit (Value.bool false))) (L8 0))) 0 (N8 (N8 (L8 0) 0 (L8 0)) 0 (N8 (N8 (L8 0) 0 PM.leaf) 0 PM.leaf))) 0 (N8 (N8 (N8 (L8 0) 0 (L8 0)) 0 (N8 (N8 (L8 0) 0 PM.leaf) 0 PM.leaf)) 0 (N8 (N8 (L8 0) 0 (L8 0)) 0 (N8 (N8 (L8 0) 0 PM.leaf) 0 PM.leaf)))) 0 (N8 (N8 (N8 (N8 (L8 0) 0 (L8 0)) 0 (N8 (N8 (L8 0) 0 PM.leaf) 0 PM.leaf)) 0 (N8 (N8 (L8 0) 0 (L8 0)) 0 (N8 (N8 (L8 50) 0 PM.leaf) 0 PM.leaf))) 0 (N8 (N8 (N8 (L8 0) 0 (L8 0)) 0 (N8 (N8 (L8 0) 0 PM.leaf) 0 PM.leaf)) 0 (N8 (N8 (L8 0) 0 (L8 0)) 0 (N8 (N8 (L8 0) 0 PM.leaf) 0 PM.leaf))))) 69 (N8 (N8 (N8 (N8 (N8 (L8 0) 69 (L8 1)) 69 (N8 (N8 (L8 0) 0 PM.leaf) 0 PM.leaf)) 0 (N8 (N8 (L8 0) 0 (L8 201)) 0 (N8 (N8 (L8 64) 0 PM.leaf) 0 PM.leaf))) 0 (N8 (N8 (N8 (L8 0) 0 (L8 0)) 0 (N8 (N8 (L8 0) 0 PM.leaf) 0 PM.leaf)) 0 (N8 (N8 (L8 0) 0 (L8 0)) 0 (N8 (N8 (L8 0) 0 PM.leaf) 0 PM.leaf)))) 80 (N8 (N8 (N8 (N8 (L8 132) 80 (L8 0)) 80 (N8 (N8 (L8 0) 132 PM.leaf) 132 PM.leaf)) 0 (N8 (N8 (L8 0) 0 (L8 0)) 0 (N8 (N8 (L8 0) 0 PM.leaf) 0 PM.leaf))) 0 (N8 (N8 (N8 (L8 0) 0 (L8 0)) 0 (N8 (N8 (L8 0) 0 PM.leaf) 0 PM.leaf)) 0 (N8 (N8 (L8 0) 0 (L8 0)) 0 (N8 (N8 (L8 0) 0 PM.leaf) 0 PM.leaf)))))) 85 (N8 (N8 (N8 (N8 (N8 (N8 (L8 0) 85 (N8 (L8 0) 1 PM.leaf)) 85 (N8 (L8 0) 0 PM.leaf)) 0 (N8 (N8 (L8 0) 0 (L8 30)) 0 (N8 (N8 (L8 0) 0 PM.leaf) 0 PM.leaf))) 0 (N8 (N8 (N8 (L8 0) 0 (L8 1)) 0 (N8 (N8 (L8 0) 0 PM.leaf) 0 PM.leaf)) 0 (N8 (N8 (L8 0) 0 (L8 0)) 0 (N8 (N8 (L8 0) 0 PM.leaf) 0 PM.leaf)))) 5 (N8 (N8 (N8 (N8 (L8 107) 5 (L8 1)) 5 (N8 (N8 (L8 0) 107 PM.leaf) 107 PM.leaf)) 0 (N8 (N8 (L8 0) 0 (L8 0)) 0 (N8 (N8 (L8 0) 0 PM.leaf) 0 PM.leaf))) 0 (N8 (N8 (N8 (L8 0) 0 (L8 1)) 0 (N8 (N8 (L8 0) 0 PM.leaf) 0 PM.leaf)) 0 (N8 (N8 (L8 0) 0 (L8 0)) 0 (N8 (N8 (L8 0) 0 PM.leaf) 0 PM.leaf))))) 0 (N8 (N8 (N8 (N8 (N8 (L8 0) 0 (L8 1)) 0 (N8 (N8 (L8 1) 0 PM.leaf) 0 PM.leaf)) 0 (N8 (N8 (L8 0) 0 (L8 97)) 0 (N8 (N8 (L8 244) 0 PM.leaf) 0 PM.leaf))) 0 (N8 (N8 (N8 (L8 0) 0 (L8 0)) 0 (N8 (N8 (L8 0) 0 PM.leaf) 0 PM.leaf)) 0 (N8 (N8 (L8 0) 0 (L8 0)) 0 (N8 (N8 (L8 0) 0 PM.leaf) 0 PM.leaf)))) 0 (N8 (N8 (N8 (N8 (L8 0) 0 (L8 0)) 0 (N8 (N8 (L8 0) 0 PM.leaf) 0 PM.leaf)) 0 (N8 (N8 (L8 0) 0 (L8 0)) 0 (N8 (N8 (L8 0) 0 PM.leaf) 0 PM.leaf))) 0 (N8 (N8 (N8 (L8 0) 0 (L8 0)) 0 (N8 (N8 (L8 0) 0 PM.leaf) 0 PM.leaf)) 0 (N8 (N8 (L8 0) 0 (L8 0)) 0 (N8 (N8 (L8 0) 0 PM.leaf) 0 PM.leaf))))))))))]
abbrev sSF5M : Nat := 27
def sSF5I : List Nat := [0, 1, 2, 3, 4, 5, 6, 7, 8, 119, 10, 11, 12, 13, 14, 15, 16, 17, 18, 19, 20, 21, 117, 23, 24, 25, 26]
end
end Go.Proofs.YtlocaplkfaepnaaGreat
end
section
/- A closed call, run: fusee/point.Step. -/
namespace Go.Proofs.YtlocaplkfaepnaaGreat
open Go SE
set_option maxRecDepth 100000
noncomputable section
theorem sSF5_look : lookX tblR 55 = none := by kernel_rfl
theorem sSF5_run : runH Tryz.prog tblR tt 2000 40 55 [.ptr 0 0, i64 0, sSF4V] (hO sSF4M sSF4O) (told sSF5I) = .ok (vmap (atL sSF5I) sSF5V, sSF5O.map fun o => some (omap (atL sSF5I) o)) := by kernel_rfl
theorem sSF5_sp : Sp Tryz.prog 55 [.ptr 0 0, i64 0, sSF4V] (hO 1 [packed sSF4M sSF4O]) (fun v h => v = sSF5V ∧ h = hO 1 [packed sSF5M sSF5O]) :=
  stageP tt_ok mixed tblR_ok 2000 40 sSF4M sSF4O sSF5M sSF5I sSF5V sSF5O sSF5_look sSF5_run (by kernel_rfl) (by kernel_rfl) (by kernel_rfl)
end
end Go.Proofs.YtlocaplkfaepnaaGreat
end
section
/- What a closed call yields, and the memory behind it: fusee/point.Step. -/
namespace Go.Proofs.YtlocaplkfaepnaaGreat
open Go SE
set_option maxRecDepth 100000
noncomputable section
def sSF6V : AV := (AV.agg [(i64 2), (AV.lit (Value.string (bs [98]))), (AV.lit (Value.string (bs [50]))), (AV.lit (Value.string (bs []))), (AV.lit (Value.slice none 0 0)), (i64 7), (u64 1), (AV.lit (Value.string (bs []))), (AV.lit (Value.bool false)), (i64 0), (AV.lit (Value.bool false)), (AV.lit (Value.string (bs []))), (u64 0), (u64 0), (i64 0), (i64 0), (i64 (-0 - 1)), (i64 0), (i64 0), (AV.lit (Value.slice none 0 0)), (i64 0), (AV.lit (Value.slice none 0 0)), (i64 0), (AV.lit (Value.bool false)), (AV.lit (Value.string (bs []))), (AV.lit (Value.slice none 0 0)), (AV.lit (Value.slice none 0 0)), (u64 1)])
def sSF6O : List AObj := [
(AObj.cells 94 (Cs.av [(AV.ptr 1 0), (AV.ptr 2 0), (AV.ptr 3 0), (AV.ptr 4 0), (AV.ptr 5 0), (AV.ptr 6 0), (AV.ptr 7 0), (AV.ptr 8 0), (u64 2), (u64 2), (AV.slU 9 0 2 7)])),
(AObj.cells 161 (Cs.av [(AV.ptr 10 0), (AV.lit (Value.int IntKind.u32 1)), (AV.lit (Value.int IntKind.i32 0)), (AV.lit (Value.int IntKind.u32 0))])),
(AObj.cells 172 (Cs.av [(AV.sl 11 0 1 1)])),
(AObj.cells 175 (Cs.av [(u64 1), (AV.sl 12 0 1 1)])),
(AObj.cells 215 (Cs.av ([(u64 1), (u64 0), (u64 0), (AV.sl 13 0 1 1), (AV.lit (Value.bool false)), (AV.lit (Value.bool false)), (AV.lit (Value.bool true)), (AV.lit (Value.bool true))] ++ List.replicate 512 (AV.lit (Value.bool false)) ++ [(AV.lit Value.nilFunc)]))),
(AObj.cells 120 (Cs.av [(AV.lit (Value.slice none 0 0))])),
(AObj.cells 181 (Cs.av [(AV.mp 14), (AV.mp 15), (AV.mp 16), (AV.mp 17), (AV.mp 18), (AV.mp 19), (AV.mp 20), (AV.mp 21)])),
(AObj.cells 218 (Cs.av [(AV.slU 22 0 2 5), (AV.slU 23 0 1 5), (AV.slU 24 0 1 5), (AV.slU 25 0 1 5)])),
(AObj.cells 193 (Cs.av [(AV.lit (Value.slice none 0 0)), (i64 0), (i64 0)])),
(AObj.room 117 (Cs.av [(i64 1), (AV.lit (Value.string (bs [97]))), (AV.lit (Value.string (bs [49]))), (u64 1), (u64 1), (u64 1), (i64 1), (i64 1), (AV.lit (Value.string (bs [98]))), (AV.lit (Value.string (bs [50]))), (u64 2), (u64 2), (u64 1), (i64 2)])),
(AObj.cells 142 (Cs.av [(AV.sl 26 0 10 10), (i64 6), (i64 2), (i64 1), (i64 0), (i64 0)])),
(AObj.cells 99 (Cs.tr 10 [(i64 0), (AV.lit (Value.bool false)), (AV.lit (Value.bool false)), (AV.lit (Value.bool false)), (AV.lit (Value.bool false)), (AV.lit (Value.bool false)), (AV.lit (Value.bool false)), (AV.lit (Value.bool false)), (AV.lit (Value.bool false)), (i64 0)] (PM.node (PM.node PM.leaf (some (AV.lit (Value.bool true))) (PM.node (PM.node PM.leaf (some (i64 2)) PM.leaf) none PM.leaf)) (some (i64 0)) (PM.node PM.leaf (some (AV.lit (Value.bool true))) PM.leaf)))),
(AObj.cells 92 (Cs.tr 1 [(u64 0)] (PM.node PM.leaf (some (u64 0)) PM.leaf))),
(AObj.cells 3 (Cs.tr 1 [(i64 0)] (PM.node PM.leaf (some (i64 2)) PM.leaf))),
(AObj.map [] 0),
(AObj.map [((AV.lit (Value.string (bs [98]))), ((AV.agg [(AV.lit (Value.string (bs [98]))), (u64 2), (u64 2), (i64 3), (i64 0)]), 0))] 1),
(AObj.map [] 0),
(AObj.map [((AV.lit (Value.string (bs [97]))), ((AV.agg [(AV.lit (Value.string (bs [97]))), (u64 1), (u64 1), (i64 2), (i64 0)]), 0))] 1),
(AObj.map [] 0),
(AObj.map [] 0),
(AObj.map [] 0),
(AObj.map [] 0),
(AObj.room 66 (Cs.av [(AV.lit (Value.string (bs [97]))), (u64 1), (u64 1), (i64 2), (i64 0), (AV.lit (Value.string (bs [98]))), (u64 2), (u64 2), (i64 3), (i64 0)])),
(AObj.room 66 (Cs.av [(AV.lit (Value.string (bs [97]))), (u64 1), (u64 1), (i64 2), (i64 0)])),
(AObj.room 66 (Cs.av [(AV.lit (Value.string (bs [97]))), (u64 1), (u64 1), (i64 2), (i64 0)])),
(AObj.room 66 (Cs.av [(AV.lit (Value.string (bs [97]))), (u64 1), (u64 1), (i64 2), (i64 0)])),
(AObj.cells 256 (Cs.tr 1930 (List.replicate 192 (AV.lit (v8 0)) ++ [(AV.lit (Value.bool false))]) (N8 (N8 (N8 (N8 (N8 (N8 (N8 (N8 (L8 0) 0 (N8 (L8 0) 0 PM.leaf)) 0 (N8 (L8 0) 0 (L8 0))) 0 (N8 (N8 (L8 0) 0 (L8 0)) 0 (N8 (N8 (L8 0) 0 PM.leaf) 0 PM.leaf))) 0 (N8 (N8 (N8 (L8 0) 0 (L8 0)) 0 (N8 (N8 (L8 0) 0 PM.leaf) 0 PM.leaf)) 0 (N8 (N8 (L8 0) 0 (L8 0)) 0 (N8 (N8 (L8 0) 0 PM.leaf) 0 PM.leaf)))) 0 (N8 (N8 (N8 (N8 (L8 0) 0 (L8 0)) 0 (N8 (N8 (L8 1) 0 PM.leaf) 0 PM.leaf)) 0 (N8 (N8 (L8 0) 0 (L8 49)) 0 (N8 (N8 (L8 98) 0 PM.leaf) 0 PM.leaf))) 0 (N8 (N8 (N8 (L8 0) 0 (L8 0)) 0 (N8 (N8 (L8 0) 0 PM.leaf) 0 PM.leaf)) 0 (N8 (N8 (L8 0) 0 (L8 0)) 0 (N8 (N8 (L8 0) 0 PM.leaf) 0 PM.leaf))))) 83 (N8 (N8 (N8 (N8 (N8 (L8 0) 83 (L8 0)) 83 (N8 (N8 (L8 1) 0 PM.leaf) 0 PM.leaf)) 0 (N8 (N8 (L8 0) 0 (L8 38)) 0 (N8 (N8 (L8 75) 0 PM.leaf) 0 PM.leaf))) 0 (N8 (N8 (N8 (L8 0) 0 (L8 0)) 0 (N8 (N8 (L8 2) 0 PM.leaf) 0 PM.leaf)) 0 (N8 (N8 (L8 0) 0 (L8 0)) 0 (N8 (N8 (L8 0) 0 PM.leaf) 0 PM.leaf)))) 78 (N8 (N8 (N8 (N8 (L8 40) 78 (L8 0)) 78 (N8 (N8 (L8 2) 40 PM.leaf) 40 PM.leaf)) 0 (N8 (N8 (L8 0) 0 (L8 0)) 0 (N8 (N8 (L8 0) 0 PM.leaf) 0 PM.leaf))) 0 (N8 (N8 (N8 (L8 0) 0 (L8 0)) 0 (N8 (N8 (L8 1) 0 PM.leaf) 0 PM.leaf)) 0 (N8 (N8 (L8 0) 0 (L8 0)) 0 (N8 (N8 (L8 0) 0 PM.leaf) 0 PM.leaf)))))) 70 (N8 (N8 (N8 (N8 (N8 (N8 (L8 3) 70 (PM.node (L8 0) (some (AV.lit (Value.bool false))) PM.leaf)) 70 (N8 (L8 3) 3 (L8 0))) 0 (N8 (N8 (L8 0) 0 (L8 0)) 0 (N8 (N8 (L8 0) 0 PM.leaf) 0 PM.leaf))) 0 (N8 (N8 (N8 (L8 0) 0 (L8 0)) 0 (N8 (N8 (L8 0) 0 PM.leaf) 0 PM.leaf)) 0 (N8 (N8 (L8 0) 0 (L8 0)) 0 (N8 (N8 (L8 0) 0 PM.leaf) 0 PM.leaf)))) 220 (N8 (N8 (N8 (N8 (L8 0) 220 (L8 0)) 220 (N8 (N8 (L8 0) 0 PM.leaf) 0 PM.leaf)) 0 (N8 (N8 (L8 0) 0 (L8 0)) 0 (N8 (N8 (L8 0) 0 PM.leaf) 0 PM.leaf))) 0 (N8 (N8 (N8 (L8 0) 0 (L8 0)) 0 (N8 (N8 (L8 0) 0 PM.leaf) 0 PM.leaf)) 0 (N8 (N8 (L8 0) 0 (L8 0)) 0 (N8 (N8 (L8 0) 0 PM.leaf) 0 PM.leaf))))) 10 (N8 (N8 (N8 (N8 (N8 (L8 0) 10 (L8 1)) 10 (N8 (N8 (L8 1) 0 PM.leaf) 0 PM.leaf)) 0 (N8 (N8 (L8 0) 0 (L8 129)) 0 (N8 (N8 (L8 174) 0 PM.leaf) 0 PM.leaf))) 0 (N8 (N8 (N8 (L8 0) 0 (L8 0)) 0 (N8 (N8 (L8 0) 0 PM.leaf) 0 PM.leaf)) 0 (N8 (N8 (L8 0) 0 (L8 0)) 0 (N8 (N8 (L8 0) 0 PM.leaf) 0 PM.leaf)))) 0 (N8 (N8 (N8 (N8 (L8 223) 0 (L8 0)) 0 (N8 (N8 (L8 0) 223 PM.leaf) 223 PM.leaf)) 0 (N8 (N8 (L8 0) 0 (L8 0)) 0 (N8 (N8 (L8 0) 0 PM.leaf) 0 PM.leaf))) 0 (N8 (N8 (N8 (L8 0) 0 (L8 0)) 0 (N8 (N8 (L8 0) 0 PM.leaf) 0 PM.leaf)) 0 (N8 (N8 (L8 0) 0 (L8 0)) 0 (N8 (N8 (L8 0) 0 PM.leaf) 0 PM.leaf))))))) 4 (N8 (N8 (N8 (N8 (N8 (N8 (N8 (L8 0) 4 (N8 (L8 0) 0 PM.leaf)) 4 (PM.node (L8 0) (some (AV.lit (Value.bool false))) (L8 0))) 0 (N8 (N8 (L8 0) 0 (L8 0)) 0 (N8 (N8 (L8 0) 0 PM.leaf) 0 PM.leaf))) 0 (N8 (N8 (N8 (L8 0) 0 (L8 0)) 0 (N8 (N8 (L8 0) 0 PM.leaf) 0 PM.leaf)) 0 (N8 (N8 (L8 0) 0 (L8 0)) 0 (N8 (N8 (L8 0) 0 PM.leaf) 0 PM.leaf)))) 0 (N8 (N8 (N8 (N8 (L8 0) 0 (L8 0)) 0 (N8 (N8 (L8 0) 0 PM.leaf) 0 PM.leaf)) 0 (N8 (N8 (L8 0) 0 (L8 0)) 0 (N8 (N8 (L8 50) 0 PM.leaf) 0 PM.leaf))) 0 (N8 (N8 (N8 (L8 0) 0 (L8 0)) 0 (N8 (N8 (L8 0) 0 PM.leaf) 0 PM.leaf)) 0 (N8 (N8 (L8 0) 0 (L8 0)) 0 (N8 (N8 (L8 0) 0 PM.leaf) 0 PM.leaf))))) 69 (N8 (N8 (N8 (N8 (N8 (L8 0) 69 (L8 1)) 69 (N8 (N8 (L8 0) 0 PM.leaf) 0 PM.leaf)) 0 (N8 (N8 (L8 0) 0 (L8 201)) 0 (N8 (N8 (L8 64) 0 PM.leaf) 0 PM.leaf))) 0 (N8 (N8 (N8 (L8 0) 0 (L8 0)) 0 (N8 (N8 (L8 0) 0 PM.leaf) 0 PM.leaf)) 0 (N8 (N8 (L8 0) 0 (L8 0)) 0 (N8 (N8 (L8 0) 0 PM.leaf) 0 PM.leaf)))) 80 (N8 (N8 (N8 (N8 (L8 132) 80 (L8 0)) 80 (N8 (N8 (L8 0) 132 PM.leaf) 132 PM.leaf)) 0 (N8 (N8 (L8 0) 0 (L8 0)) 0 (N8 (N8 (L8 0) 0 PM.leaf) 0 PM.leaf))) 0 (N8 (N8 (N8 (L8 0) 0 (L8 0)) 0 (N8 (N8 (L8 0) 0 PM.leaf) 0 PM.leaf)) 0 (N8 (N8 (L8 0) 0 (L8 0)) 0 (N8 (N8 (L8 0) 0 PM.leaf) 0 PM.leaf)))))) 85 (N8 (N8 (N8 (N8 (N8 (N8 (L8 0) 85 (N8 (L8 0) 1 PM.leaf)) 85 (N8 (L8 0) 0 PM.leaf)) 0 (N8 (N8 (L8 0) 0 (L8 30)) 0 (N8 (N8 (L8 0) 0 PM.leaf) 0 PM.leaf))) 0 (N8 (N8 (N8 (L8 0) 0 (L8 1)) 0 (N8 (N8 (L8 0) 0 PM.leaf) 0 PM.leaf)) 0 (N8 (N8 (L8 0) 0 (L8 0)) 0 (N8 (N8 (L8 0) 0 PM.leaf) 0 PM.leaf)))) 5 (N8 (N8 (N8 (N8 (L8 107) 5 (L8 1)) 5 (N8 (N8 (L8 0) 107 PM.leaf) 107 PM.leaf)) 0 (N8 (N8 (L8 0) 0 (L8 0)) 0 (N8 (N8 (L8 0) 0 PM.leaf) 0 PM.leaf))) 0 (N8 (N8 (N8 (L8 0) 0 (L8 1)) 0 (N8 (N8 (L8 0) 0 PM.leaf) 0 PM.leaf)) 0 (N8 (N8 (L8 0) 0 (L8 0)) 0 (N8 (N8 (L8 0) 0 PM.leaf) 0 PM.leaf))))) 0 (N8 (N8 (N8 (N8 (N8 (L8 0) 0 (L8 1)) 0 (N8 (N8 (L8 1) 0 PM.leaf) 0 PM.leaf)) 0 (N8 (N8 (L8 0) 0 (L8 97)) 0 (N8 (N8 (L8 244) 0 PM.leaf) 0 PM.leaf))) 0 (N8 (N8 (N8 (L8 0) 0 (L8 0)) 0 (N8 (N8 (L8 0) 0 PM.leaf) 0 PM.leaf)) 0 (N8 (N8 (L8 0) 0 (L8 0)) 0 (N8 (N8 (L8 0) 0 PM.leaf) 0 PM.leaf)))) 0 (N8 (N8 (N8 (N8 (L8 0) 0 (L8 0)) 0 (N8 (N8 (L8 0) 0 PM.leaf) 0 PM.leaf)) 0 (N8 (N8 (L8 0) 0 (L8 0)) 0 (N8 (N8 (L8 0) 0 PM.leaf) 0 PM.leaf))) 0 (N8 (N8 (N8 (L8 0) 0 (L8 0)) 0 (N8 (N8 (L8 0) 0 PM.leaf) 0 PM.leaf)) 0 (N8 (N8 (L8 0) 0 (L8 0)) 0 (N8 (N8 (L8 0) 0 PM.leaf) 0 PM.leaf))))))))))]
abbrev sSF6M : Nat := 27
def sSF6I : List Nat := [0, 1, 2, 3, 4, 5, 6, 7, 8, 9, 10, 11, 12, 13, 14, 15, 16, 17, 18, 19, 20, 21, 22, 23, 24, 25, 26]
end
end Go.Proofs.YtlocaplkfaepnaaGreat
end
section
/- A closed call, run: fusee/point.Step. -/
namespace Go.Proofs.YtlocaplkfaepnaaGreat
open Go SE
set_option maxRecDepth 100000
noncomputable section
theorem sSF6_look : lookX tblR 55 = none := by kernel_rfl
theorem sSF6_run : runH Tryz.prog tblR tt 2000 40 55 [.ptr 0 0, i64 0, sSF5V] (hO sSF5M sSF5O) (told sSF6I) = .ok (vmap (atL sSF6I) sSF6V, sSF6O.map fun o => some (omap (atL sSF6I) o)) := by kernel_rfl
theorem sSF6_sp : Sp Tryz.prog 55 [.ptr 0 0, i64 0, sSF5V] (hO 1 [packed sSF5M sSF5O]) (fun v h => v = sSF6V ∧ h = hO 1 [packed sSF6M sSF6O]) :=
  stageP tt_ok mixed tblR_ok 2000 40 sSF5M sSF5O sSF6M sSF6I sSF6V sSF6O sSF6_look sSF6_run (by kernel_rfl) (by kernel_rfl) (by kernel_rfl)
end
end Go.Proofs.YtlocaplkfaepnaaGreat
end
section
/- What a closed call yields, and the memory behind it: fusee/scan.Step. -/
namespace Go.Proofs.YtlocaplkfaepnaaGreat
open Go SE
set_option maxRecDepth 100000
noncomputable section
def sSG1V : AV := (AV.agg [(i64 6), (AV.lit (Value.string (bs [98]))), (AV.lit (Value.string (bs []))), (AV.lit (Value.string (bs []))), (AV.lit (Value.slice none 0 0)), (i64 8), (u64 1), (AV.lit (Value.string (bs []))), (AV.lit (Value.bool false)), (i64 4), (AV.lit (Value.bool false)), (AV.lit (Value.string (bs []))), (u64 0), (u64 0), (i64 0), (i64 0), (i64 (-0 - 1)), (i64 0), (i64 0), (AV.lit (Value.slice none 0 0)), (i64 0), (AV.lit (Value.slice none 0 0)), (i64 0), (AV.lit (Value.bool false)), (AV.lit (Value.string (bs []))), (AV.lit (Value.slice none 0 0)), (AV.lit (Value.slice none 0 0)), (u64 0)])
def sSG1O : List AObj := [
(AObj.cells 94 (Cs.av [(AV.ptr 1 0), (AV.ptr 2 0), (AV.ptr 3 0), (AV.ptr 4 0), (AV.ptr 5 0), (AV.ptr 6 0), (AV.ptr 7 0), (AV.ptr 8 0), (u64 2), (u64 2), (AV.slU 9 0 2 7)])),
(AObj.cells 161 (Cs.av [(AV.ptr 10 0), (AV.lit (Value.int IntKind.u32 1)), (AV.lit (Value.int IntKind.i32 0)), (AV.lit (Value.int IntKind.u32 0))])),
(AObj.cells 172 (Cs.av [(AV.sl 11 0 1 1)])),
(AObj.cells 175 (Cs.av [(u64 1), (AV.sl 12 0 1 1)])),
(AObj.cells 215 (Cs.av ([(u64 1), (u64 0), (u64 0), (AV.sl 13 0 1 1), (AV.lit (Value.bool false)), (AV.lit (Value.bool false)), (AV.lit (Value.bool true)), (AV.lit (Value.bool true))] ++ List.replicate 512 (AV.lit (Value.bool false)) ++ [(AV.lit Value.nilFunc)]))),
(AObj.cells 120 (Cs.av [(AV.lit (Value.slice none 0 0))])),
(AObj.cells 181 (Cs.av [(AV.mp 14), (AV.mp 15), (AV.mp 16), (AV.mp 17), (AV.mp 18), (AV.mp 19), (AV.mp 20), (AV.mp 21)])),
(AObj.cells 218 (Cs.av [(AV.slU 22 0 2 5), (AV.slU 23 0 1 5), (AV.slU 24 0 1 5), (AV.slU 25 0 1 5)])),
(AObj.cells 193 (Cs.av [(AV.lit (Value.slice none 0 0)), (i64 0), (i64 0)])),
(AObj.room 117 (Cs.av [(i64 1), (AV.lit (Value.string (bs [97]))), (AV.lit (Value.string (bs [49]))), (u64 1), (u64 1), (u64 1), (i64 1), (i64 1), (AV.lit (Value.string (bs [98]))), (AV.lit (Value.string (bs [50]))), (u64 2), (u64 2), (u64 1), (i64 2)])),
(AObj.cells 142 (Cs.av [(AV.sl 26 0 10 10), (i64 6), (i64 2), (i64 1), (i64 0), (i64 0)])),
(AObj.cells 99 (Cs.tr 10 [(i64 0), (AV.lit (Value.bool false)), (AV.lit (Value.bool false)), (AV.lit (Value.bool false)), (AV.lit (Value.bool false)), (AV.lit (Value.bool false)), (AV.lit (Value.bool false)), (AV.lit (Value.bool false)), (AV.lit (Value.bool false)), (i64 0)] (PM.node (PM.node PM.leaf (some (AV.lit (Value.bool true))) (PM.node (PM.node PM.leaf (some (i64 2)) PM.leaf) none PM.leaf)) (some (i64 0)) (PM.node PM.leaf (some (AV.lit (Value.bool true))) PM.leaf)))),
(AObj.cells 92 (Cs.tr 1 [(u64 0)] (PM.node PM.leaf (some (u64 1)) PM.leaf))),
(AObj.cells 3 (Cs.tr 1 [(i64 0)] (PM.node PM.leaf (some (i64 2)) PM.leaf))),
(AObj.map [] 0),
(AObj.map [((AV.lit (Value.string (bs [98]))), ((AV.agg [(AV.lit (Value.string (bs [98]))), (u64 2), (u64 2), (i64 3), (i64 0)]), 0))] 1),
(AObj.map [] 0),
(AObj.map [((AV.lit (Value.string (bs [97]))), ((AV.agg [(AV.lit (Value.string (bs [97]))), (u64 1), (u64 1), (i64 2), (i64 0)]), 0))] 1),
(AObj.map [] 0),
(AObj.map [] 0),
(AObj.map [] 0),
(AObj.map [] 0),
(AObj.room 66 (Cs.av [(AV.lit (Value.string (bs [97]))), (u64 1), (u64 1), (i64 2), (i64 0), (AV.lit (Value.string (bs [98]))), (u64 2), (u64 2), (i64 3), (i64 0)])),
(AObj.room 66 (Cs.av [(AV.lit (Value.string (bs [97]))), (u64 1), (u64 1), (i64 2), (i64 0)])),
(AObj.room 66 (Cs.av [(AV.lit (Value.string (bs [97]))), (u64 1), (u64 1), (i64 2), (i64 0)])),
(AObj.room 66 (Cs.av [(AV.lit (Value.string (bs [97]))), (u64 1), (u64 1), (i64 2), (i64 0)])),
(AObj.cells 256 (Cs.tr 1930 (List.replicate 192 (AV.lit (v8 0)) ++ [(AV.lit (Value.bool false))]) (N8 (N8 (N8 (N8 (N8 (N8 (N8 (N8 (L8 0) 0 (N8 (L8 0) 0 PM.leaf)) 0 (N8 (L8 0) 0 (L8 0))) 0 (N8 (N8 (L8 0) 0 (L8 0)) 0 (N8 (N8 (L8 0) 0 PM.leaf) 0 PM.leaf))) 0 (N8 (N8 (N8 (L8 0) 0 (L8 0)) 0 (N8 (N8 (L8 0) 0 PM.leaf) 0 PM.leaf)) 0 (N8 (N8 (L8 0) 0 (L8 0)) 0 (N8 (N8 (L8 0) 0 PM.leaf) 0 PM.leaf)))) 0 (N8 (N8 (N8 (N8 (L8 0) 0 (L8 0)) 0 (N8 (N8 (L8 1) 0 PM.leaf) 0 PM.leaf)) 0 (N8 (N8 (L8 0) 0 (L8 49)) 0 (N8 (N8 (L8 98) 0 PM.leaf) 0 PM.leaf))) 0 (N8 (N8 (N8 (L8 0) 0 (L8 0)) 0 (N8 (N8 (L8 0) 0 PM.leaf) 0 PM.leaf)) 0 (N8 (N8 (L8 0) 0 (L8 0)) 0 (N8 (N8 (L8 0) 0 PM.leaf) 0 PM.leaf))))) 83 (N8 (N8 (N8 (N8 (N8 (L8 0) 83 (L8 0)) 83 (N8 (N8 (L8 1) 0 PM.leaf) 0 PM.leaf)) 0 (N8 (N8 (L8 0) 0 (L8 38)) 0 (N8 (N8 (L8 75) 0 PM.leaf) 0 PM.leaf))) 0 (N8 (N8 (N8 (L8 0) 0 (L8 0)) 0 (N8 (N8 (L8 2) 0 PM.leaf) 0 PM.leaf)) 0 (N8 (N8 (L8 0) 0 (L8 0)) 0 (N8 (N8 (L8 0) 0 PM.leaf) 0 PM.leaf)))) 78 (N8 (N8 (N8 (N8 (L8 40) 78 (L8 0)) 78 (N8 (N8 (L8 2) 40 PM.leaf) 40 PM.leaf)) 0 (N8 (N8 (L8 0) 0 (L8 0)) 0 (N8 (N8 (L8 0) 0 PM.leaf) 0 PM.leaf))) 0 (N8 (N8 (N8 (L8 0) 0 (L8 0)) 0 (N8 (N8 (L8 1) 0 PM.leaf) 0 PM.leaf)) 0 (N8 (N8 (L8 0) 0 (L8 0)) 0 (N8 (N8 (L8 0) 0 PM.leaf) 0 PM.leaf)))))) 70 (N8 (N8 (N8 (N8 (N8 (N8 (L8 3) 70 (PM.node (L8 0) (some (AV.lit (Value.bool false))) PM.leaf)) 70 (N8 (L8 3) 3 (L8 0))) 0 (N8 (N8 (L8 0) 0 (L8 0)) 0 (N8 (N8 (L8 0) 0 PM.leaf) 0 PM.leaf))) 0 (N8 (N8 (N8 (L8 0) 0 (L8 0)) 0 (N8 (N8 (L8 0) 0 PM.leaf) 0 PM.leaf)) 0 (N8 (N8 (L8 0) 0 (L8 0)) 0 (N8 (N8 (L8 0) 0 PM.leaf) 0 PM.leaf)))) 220 (N8 (N8 (N8 (N8 (L8 0) 220 (L8 0)) 220 (N8 (N8 (L8 0) 0 PM.leaf) 0 PM.leaf)) 0 (N8 (N8 (L8 0) 0 (L8 0)) 0 (N8 (N8 (L8 0) 0 PM.leaf) 0 PM.leaf))) 0 (N8 (N8 (N8 (L8 0) 0 (L8 0)) 0 (N8 (N8 (L8 0) 0 PM.leaf) 0 PM.leaf)) 0 (N8 (N8 (L8 0) 0 (L8 0)) 0 (N8 (N8 (L8 0) 0 PM.leaf) 0 PM.leaf))))) 10 (N8 (N8 (N8 (N8 (N8 (L8 0) 10 (L8 1)) 10 (N8 (N8 (L8 1) 0 PM.leaf) 0 PM.leaf)) 0 (N8 (N8 (L8 0) 0 (L8 129)) 0 (N8 (N8 (L8 174) 0 PM.leaf) 0 PM.leaf))) 0 (N8 (N8 (N8 (L8 0) 0 (L8 0)) 0 (N8 (N8 (L8 0) 0 PM.leaf) 0 PM.leaf)) 0 (N8 (N8 (L8 0) 0 (L8 0)) 0 (N8 (N8 (L8 0) 0 PM.leaf) 0 PM.leaf)))) 0 (N8 (N8 (N8 (N8 (L8 223) 0 (L8 0)) 0 (N8 (N8 (L8 0) 223 PM.leaf) 223 PM.leaf)) 0 (N8 (N8 (L8 0) 0 (L8 0)) 0 (N8 (N8 (L8 0) 0 PM.leaf) 0 PM.leaf))) 0 (N8 (N8 (N8 (L8 0) 0 (L8 0)) 0 (N8 (N8 (L8 0) 0 PM.leaf) 0 PM.leaf)) 0 (N8 (N8 (L8 0) 0 (L8 0)) 0 (N8 (N8 (L8 0) 0 PM.leaf) 0 PM.leaf))))))) 4 (N8 (N8 (N8 (N8 (N8 (N8 (N8 (L8 0) 4 (N8 (L8 0) 0 PM.leaf)) 4 (PM.node (L8 0) (some (AV.lit (Value.bool false))) (L8 0))) 0 (N8 (N8 (L8 0) 0 (L8 0)) 0 (N8 (N8 (L8 0) 0 PM.leaf) 0 PM.leaf))) 0 (N8 (N8 (N8 (L8 0) 0 (L8 0)) 0 (N8 (N8 (L8 0) 0 PM.leaf) 0 PM.leaf)) 0 (N8 (N8 (L8 0) 0 (L8 0)) 0 (N8 (N8 (L8 0) 0 PM.leaf) 0 PM.leaf)))) 0 (N8 (N8 (N8 (N8 (L8 0) 0 (L8 0)) 0 (N8 (N8 (L8 0) 0 PM.leaf) 0 PM.leaf)) 0 (N8 (N8 (L8 0) 0 (L8 0)) 0 (N8 (N8 (L8 50) 0 PM.leaf) 0 PM.leaf))) 0 (N8 (N8 (N8 (L8 0) 0 (L8 0)) 0 (N8 (N8 (L8 0) 0 PM.leaf) 0 PM.leaf)) 0 (N8 (N8 (L8 0) 0 (L8 0)) 0 (N8 (N8 (L8 0) 0 PM.leaf) 0 PM.leaf))))) 69 (N8 (N8 (N8 (N8 (N8 (L8 0) 69 (L8 1)) 69 (N8 (N8 (L8 0) 0 PM.leaf) 0 PM.leaf)) 0 (N8 (N8 (L8 0) 0 (L8 201)) 0 (N8 (N8 (L8 64) 0 PM.leaf) 0 PM.leaf))) 0 (N8 (N8 (N8 (L8 0) 0 (L8 0)) 0 (N8 (N8 (L8 0) 0 PM.leaf) 0 PM.leaf)) 0 (N8 (N8 (L8 0) 0 (L8 0)) 0 (N8 (N8 (L8 0) 0 PM.leaf) 0 PM.leaf)))) 80 (N8 (N8 (N8 (N8 (L8 132) 80 (L8 0)) 80 (N8 (N8 (L8 0) 132 PM.leaf) 132 PM.leaf)) 0 (N8 (N8 (L8 0) 0 (L8 0)) 0 (N8 (N8 (L8 0) 0 PM.leaf) 0 PM.leaf))) 0 (N8 (N8 (N8 (L8 0) 0 (L8 0)) 0 (N8 (N8 (L8 0) 0 PM.leaf) 0 PM.leaf)) 0 (N8 (N8 (L8 0) 0 (L8 0)) 0 (N8 (N8 (L8 0) 0 PM.leaf) 0 PM.leaf)))))) 85 (N8 (N8 (N8 (N8 (N8 (N8 (L8 0) 85 (N8 (L8 0) 1 PM.leaf)) 85 (N8 (L8 0) 0 PM.leaf)) 0 (N8 (N8 (L8 0) 0 (L8 30)) 0 (N8 (N8 (L8 0) 0 PM.leaf) 0 PM.leaf))) 0 (N8 (N8 (N8 (L8 0) 0 (L8 1)) 0 (N8 (N8 (L8 0) 0 PM.leaf) 0 PM.leaf)) 0 (N8 (N8 (L8 0) 0 (L8 0)) 0 (N8 (N8 (L8 0) 0 PM.leaf) 0 PM.leaf)))) 5 (N8 (N8 (N8 (N8 (L8 107) 5 (L8 1)) 5 (N8 (N8 (L8 0) 107 PM.leaf) 107 PM.leaf)) 0 (N8 (N8 (L8 0) 0 (L8 0)) 0 (N8 (N8 (L8 0) 0 PM.leaf) 0 PM.leaf))) 0 (N8 (N8 (N8 (L8 0) 0 (L8 1)) 0 (N8 (N8 (L8 0) 0 PM.leaf) 0 PM.leaf)) 0 (N8 (N8 (L8 0) 0 (L8 0)) 0 (N8 (N8 (L8 0) 0 PM.leaf) 0 PM.leaf))))) 0 (N8 (N8 (N8 (N8 (N8 (L8 0) 0 (L8 1)) 0 (N8 (N8 (L8 1) 0 PM.leaf) 0 PM.leaf)) 0 (N8 (N8 (L8 0) 0 (L8 97)) 0 (N8 (N8 (L8 244) 0 PM.leaf) 0 PM.leaf))) 0 (N8 (N8 (N8 (L8 0) 0 (L8 0)) 0 (N8 (N8 (L8 0) 0 PM.leaf) 0 PM.leaf)) 0 (N8 (N8 (L8 0) 0 (L8 0)) 0 (N8 (N8 (L8 0) 0 PM.leaf) 0 PM.leaf)))) 0 (N8 (N8 (N8 (N8 (L8 0) 0 (L8 0)) 0 (N8 (N8 (L8 0) 0 PM.leaf) 0 PM.leaf)) 0 (N8 (N8 (L8 0) 0 (L8 0)) 0 (N8 (N8 (L8 0) 0 PM.leaf) 0 PM.leaf))) 0 (N8 (N8 (N8 (L8 0) 0 (L8 0)) 0 (N8 (N8 (L8 0) 0 PM.leaf) 0 PM.leaf)) 0 (N8 (N8 (L8 0) 0 (L8 0)) 0 (N8 (N8 (L8 0) 0 PM.leaf) 0 PM.leaf))))))))))]
abbrev sSG1M : Nat := 27
def sSG1I : List Nat := [0, 1, 2, 3, 4, 5, 6, 7, 8, 9, 10, 11, 12, 13, 14, 15, 16, 17, 18, 19, 20, 21, 22, 23, 24, 25, 26]
end
end Go.Proofs.YtlocaplkfaepnaaGreat
end
section
/- A closed call, run: fusee/scan.Step. -/
namespace Go.Proofs.YtlocaplkfaepnaaGreat
open Go SE
set_option maxRecDepth 100000
noncomputable section
theorem sSG1_look : lookX tblR 36 = none := by kernel_rfl
theorem sSG1_run : runH Tryz.prog tblR tt 2000 40 36 [.ptr 0 0, i64 0, .agg (frL [i64 6, str (bs [98]), str es, str es] nilS)] (hO sSF6M sSF6O) (told sSG1I) = .ok (vmap (atL sSG1I) sSG1V, sSG1O.map fun o => some (omap (atL sSG1I) o)) := by kernel_rfl
theorem sSG1_sp : Sp Tryz.prog 36 [.ptr 0 0, i64 0, .agg (frL [i64 6, str (bs [98]), str es, str es] nilS)] (hO 1 [packed sSF6M sSF6O]) (fun v h => v = sSG1V ∧ h = hO 1 [packed sSG1M sSG1O]) :=
  stageP tt_ok mixed tblR_ok 2000 40 sSF6M sSF6O sSG1M sSG1I sSG1V sSG1O sSG1_look sSG1_run (by kernel_rfl) (by kernel_rfl) (by kernel_rfl)
end
end Go.Proofs.YtlocaplkfaepnaaGreat
end
section
/- What a closed call yields, and the memory behind it: fusee/scan.Step. -/
namespace Go.Proofs.YtlocaplkfaepnaaGreat
open Go SE
set_option maxRecDepth 100000
noncomputable section
def sSG2V : AV := (AV.agg [(i64 6), (AV.lit (Value.string (bs [98]))), (AV.lit (Value.string (bs []))), (AV.lit (Value.string (bs []))), (AV.lit (Value.slice none 0 0)), (i64 8), (u64 1), (AV.lit (Value.string (bs [97]))), (AV.lit (Value.bool true)), (i64 4), (AV.lit (Value.bool false)), (AV.lit (Value.string (bs []))), (u64 0), (u64 0), (i64 0), (i64 0), (i64 (-0 - 1)), (i64 0), (i64 0), (AV.lit (Value.slice none 0 0)), (i64 0), (AV.lit (Value.slice none 0 0)), (i64 0), (AV.lit (Value.bool false)), (AV.lit (Value.string (bs []))), (AV.lit (Value.slice none 0 0)), (AV.lit (Value.slice none 0 0)), (u64 0)])
def sSG2O : List AObj := [
(AObj.cells 94 (Cs.av [(AV.ptr 1 0), (AV.ptr 2 0), (AV.ptr 3 0), (AV.ptr 4 0), (AV.ptr 5 0), (AV.ptr 6 0), (AV.ptr 7 0), (AV.ptr 8 0), (u64 2), (u64 2), (AV.slU 9 0 2 7)])),
(AObj.cells 161 (Cs.av [(AV.ptr 10 0), (AV.lit (Value.int IntKind.u32 1)), (AV.lit (Value.int IntKind.i32 0)), (AV.lit (Value.int IntKind.u32 0))])),
(AObj.cells 172 (Cs.av [(AV.sl 11 0 1 1)])),
(AObj.cells 175 (Cs.av [(u64 1), (AV.sl 12 0 1 1)])),
(AObj.cells 215 (Cs.av ([(u64 1), (u64 0), (u64 0), (AV.sl 13 0 1 1), (AV.lit (Value.bool false)), (AV.lit (Value.bool false)), (AV.lit (Value.bool true)), (AV.lit (Value.bool true))] ++ List.replicate 512 (AV.lit (Value.bool false)) ++ [(AV.lit Value.nilFunc)]))),
(AObj.cells 120 (Cs.av [(AV.lit (Value.slice none 0 0))])),
(AObj.cells 181 (Cs.av [(AV.mp 14), (AV.mp 15), (AV.mp 16), (AV.mp 17), (AV.mp 18), (AV.mp 19), (AV.mp 20), (AV.mp 21)])),
(AObj.cells 218 (Cs.av [(AV.slU 22 0 2 5), (AV.slU 23 0 1 5), (AV.slU 24 0 1 5), (AV.slU 25 0 1 5)])),
(AObj.cells 193 (Cs.av [(AV.lit (Value.slice none 0 0)), (i64 0), (i64 0)])),
(AObj.room 117 (Cs.av [(i64 1), (AV.lit (Value.string (bs [97]))), (AV.lit (Value.string (bs [49]))), (u64 1), (u64 1), (u64 1), (i64 1), (i64 1), (AV.lit (Value.string (bs [98]))), (AV.lit (Value.string (bs [50]))), (u64 2), (u64 2), (u64 1), (i64 2)])),
(AObj.cells 142 (Cs.av [(AV.sl 26 0 10 10), (i64 6), (i64 2), (i64 1), (i64 0), (i64 0)])),
(AObj.cells 99 (Cs.tr 10 [(i64 0), (AV.lit (Value.bool false)), (AV.lit (Value.bool false)), (AV.lit (Value.bool false)), (AV.lit (Value.bool false)), (AV.lit (Value.bool false)), (AV.lit (Value.bool false)), (AV.lit (Value.bool false)), (AV.lit (Value.bool false)), (i64 0)] (PM.node (PM.node PM.leaf (some (AV.lit (Value.bool true))) (PM.node (PM.node PM.leaf (some (i64 2)) PM.leaf) none PM.leaf)) (some (i64 0)) (PM.node PM.leaf (some (AV.lit (Value.bool true))) PM.leaf)))),
(AObj.cells 92 (Cs.tr 1 [(u64 0)] (PM.node PM.leaf (some (u64 1)) PM.leaf))),
(AObj.cells 3 (Cs.tr 1 [(i64 0)] (PM.node PM.leaf (some (i64 2)) PM.leaf))),
(AObj.map [] 0),
(AObj.map [((AV.lit (Value.string (bs [98]))), ((AV.agg [(AV.lit (Value.string (bs [98]))), (u64 2), (u64 2), (i64 3), (i64 0)]), 0))] 1),
(AObj.map [] 0),
(AObj.map [((AV.lit (Value.string (bs [97]))), ((AV.agg [(AV.lit (Value.string (bs [97]))), (u64 1), (u64 1), (i64 2), (i64 0)]), 0))] 1),
(AObj.map [] 0),
(AObj.map [] 0),
(AObj.map [] 0),
(AObj.map [] 0),
(AObj.room 66 (Cs.av [(AV.lit (Value.string (bs [97]))), (u64 1), (u64 1), (i64 2), (i64 0), (AV.lit (Value.string (bs [98]))), (u64 2), (u64 2), (i64 3), (i64 0)])),
(AObj.room 66 (Cs.av [(AV.lit (Value.string (bs [97]))), (u64 1), (u64 1), (i64 2), (i64 0)])),
(AObj.room 66 (Cs.av [(AV.lit (Value.string (bs [97]))), (u64 1), (u64 1), (i64 2), (i64 0)])),
(AObj.room 66 (Cs.av [(AV.lit (Value.string (bs [97]))), (u64 1), (u64 1), (i64 2), (i64 0)])),
(AObj.cells 256 (Cs.tr 1930 (List.replicate 192 (AV.lit (v8 0)) ++ [(AV.lit (Value.bool false))]) (N8 (N8 (N8 (N8 (N8 (N8 (N8 (N8 (L8 0) 0 (N8 (L8 0) 0 PM.leaf)) 0 (N8 (L8 0) 0 (L8 0))) 0 (N8 (N8 (L8 0) 0 (L8 0)) 0 (N8 (N8 (L8 0) 0 PM.leaf) 0 PM.leaf))) 0 (N8 (N8 (N8 (L8 0) 0 (L8 0)) 0 (N8 (N8 (L8 0) 0 PM.leaf) 0 PM.leaf)) 0 (N8 (N8 (L8 0) 0 (L8 0)) 0 (N8 (N8 (L8 0) 0 PM.leaf) 0 PM.leaf)))) 0 (N8 (N8 (N8 (N8 (L8 0) 0 (L8 0)) 0 (N8 (N8 (L8 1) 0 PM.leaf) 0 PM.leaf)) 0 (N8 (N8 (L8 0) 0 (L8 49)) 0 (N8 (N8 (L8 98) 0 PM.leaf) 0 PM.leaf))) 0 (N8 (N8 (N8 (L8 0) 0 (L8 0)) 0 (N8 (N8 (L8 0) 0 PM.leaf) 0 PM.leaf)) 0 (N8 (N8 (L8 0) 0 (L8 0)) 0 (N8 (N8 (L8 0) 0 PM.leaf) 0 PM.leaf))))) 83 (N8 (N8 (N8 (N8 (N8 (L8 0) 83 (L8 0)) 83 (N8 (N8 (L8 1) 0 PM.leaf) 0 PM.leaf)) 0 (N8 (N8 (L8 0) 0 (L8 38)) 0 (N8 (N8 (L8 75) 0 PM.leaf) 0 PM.leaf))) 0 (N8 (N8 (N8 (L8 0) 0 (L8 0)) 0 (N8 (N8 (L8 2) 0 PM.leaf) 0 PM.leaf)) 0 (N8 (N8 (L8 0) 0 (L8 0)) 0 (N8 (N8 (L8 0) 0 PM.leaf) 0 PM.leaf)))) 78 (N8 (N8 (N8 (N8 (L8 40) 78 (L8 0)) 78 (N8 (N8 (L8 2) 40 PM.leaf) 40 PM.leaf)) 0 (N8 (N8 (L8 0) 0 (L8 0)) 0 (N8 (N8 (L8 0) 0 PM.leaf) 0 PM.leaf))) 0 (N8 (N8 (N8 (L8 0) 0 (L8 0)) 0 (N8 (N8 (L8 1) 0 PM.leaf) 0 PM.leaf)) 0 (N8 (N8 (L8 0) 0 (L8 0)) 0 (N8 (N8 (L8 0) 0 PM.leaf) 0 PM.leaf)))))) 70 (N8 (N8 (N8 (N8 (N8 (N8 (L8 3) 70 (PM.node (L8 0) (some (AV.lit (Value.bool false))) PM.leaf)) 70 (N8 (L8 3) 3 (L8 0))) 0 (N8 (N8 (L8 0) 0 (L8 0)) 0 (N8 (N8 (L8 0) 0 PM.leaf) 0 PM.leaf))) 0 (N8 (N8 (N8 (L8 0) 0 (L8 0)) 0 (N8 (N8 (L8 0) 0 PM.leaf) 0 PM.leaf)) 0 (N8 (N8 (L8 0) 0 (L8 0)) 0 (N8 (N8 (L8 0) 0 PM.leaf) 0 PM.leaf)))) 220 (N8 (N8 (N8 (N8 (L8 0) 220 (L8 0)) 220 (N8 (N8 (L8 0) 0 PM.leaf) 0 PM.leaf)) 0 (N8 (N8 (L8 0) 0 (L8 0)) 0 (N8 (N8 (L8 0) 0 PM.leaf) 0 PM.leaf))) 0 (N8 (N8 (N8 (L8 0) 0 (L8 0)) 0 (N8 (N8 (L8 0) 0 PM.leaf) 0 PM.leaf)) 0 (N8 (N8 (L8 0) 0 (L8 0)) 0 (N8 (N8 (L8 0) 0 PM.leaf) 0 PM.leaf))))) 10 (N8 (N8 (N8 (N8 (N8 (L8 0) 10 (L8 1)) 10 (N8 (N8 (L8 1) 0 PM.leaf) 0 PM.leaf)) 0 (N8 (N8 (L8 0) 0 (L8 129)) 0 (N8 (N8 (L8 174) 0 PM.leaf) 0 PM.leaf))) 0 (N8 (N8 (N8 (L8 0) 0 (L8 0)) 0 (N8 (N8 (L8 0) 0 PM.leaf) 0 PM.leaf)) 0 (N8 (N8 (L8 0) 0 (L8 0)) 0 (N8 (N8 (L8 0) 0 PM.leaf) 0 PM.leaf)))) 0 (N8 (N8 (N8 (N8 (L8 223) 0 (L8 0)) 0 (N8 (N8 (L8 0) 223 PM.leaf) 223 PM.leaf)) 0 (N8 (N8 (L8 0) 0 (L8 0)) 0 (N8 (N8 (L8 0) 0 PM.leaf) 0 PM.leaf))) 0 (N8 (N8 (N8 (L8 0) 0 (L8 0)) 0 (N8 (N8 (L8 0) 0 PM.leaf) 0 PM.leaf)) 0 (N8 (N8 (L8 0) 0 (L8 0)) 0 (N8 (N8 (L8 0) 0 PM.leaf) 0 PM.leaf))))))) 4 (N8 (N8 (N8 (N8 (N8 (N8 (N8 (L8 0) 4 (N8 (L8 0) 0 PM.leaf)) 4 (PM.node (L8 0) (some (AV.lit (Value.bool false))) (L8 0))) 0 (N8 (N8 (L8 0) 0 (L8 0)) 0 (N8 (N8 (L8 0) 0 PM.leaf) 0 PM.leaf))) 0 (N8 (N8 (N8 (L8 0) 0 (L8 0)) 0 (N8 (N8 (L8 0) 0 PM.leaf) 0 PM.leaf)) 0 (N8 (N8 (L8 0) 0 (L8 0)) 0 (N8 (N8 (L8 0) 0 PM.leaf) 0 PM.leaf)))) 0 (N8 (N8 (N8 (N8 (L8 0) 0 (L8 0)) 0 (N8 (N8 (L8 0) 0 PM.leaf) 0 PM.leaf)) 0 (N8 (N8 (L8 0) 0 (L8 0)) 0 (N8 (N8 (L8 50) 0 PM.leaf) 0 PM.leaf))) 0 (N8 (N8 (N8 (L8 0) 0 (L8 0)) 0 (N8 (N8 (L8 0) 0 PM.leaf) 0 PM.leaf)) 0 (N8 (N8 (L8 0) 0 (L8 0)) 0 (N8 (N8 (L8 0) 0 PM.leaf) 0 PM.leaf))))) 69 (N8 (N8 (N8 (N8 (N8 (L8 0) 69 (L8 1)) 69 (N8 (N8 (L8 0) 0 PM.leaf) 0 PM.leaf)) 0 (N8 (N8 (L8 0) 0 (L8 201)) 0 (N8 (N8 (L8 64) 0 PM.leaf) 0 PM.leaf))) 0 (N8 (N8 (N8 (L8 0) 0 (L8 0)) 0 (N8 (N8 (L8 0) 0 PM.leaf) 0 PM.leaf)) 0 (N8 (N8 (L8 0) 0 (L8 0)) 0 (N8 (N8 (L8 0) 0 PM.leaf) 0 PM.leaf)))) 80 (N8 (N8 (N8 (N8 (L8 132) 80 (L8 0)) 80 (N8 (N8 (L8 0) 132 PM.leaf) 132 PM.leaf)) 0 (N8 (N8 (L8 0) 0 (L8 0)) 0 (N8 (N8 (L8 0) 0 PM.leaf) 0 PM.leaf))) 0 (N8 (N8 (N8 (L8 0) 0 (L8 0)) 0 (N8 (N8 (L8 0) 0 PM.leaf) 0 PM.leaf)) 0 (N8 (N8 (L8 0) 0 (L8 0)) 0 (N8 (N8 (L8 0) 0 PM.leaf) 0 PM.leaf)))))) 85 (N8 (N8 (N8 (N8 (N8 (N8 (L8 0) 85 (N8 (L8 0) 1 PM.leaf)) 85 (N8 (L8 0) 0 PM.leaf)) 0 (N8 (N8 (L8 0) 0 (L8 30)) 0 (N8 (N8 (L8 0) 0 PM.leaf) 0 PM.leaf))) 0 (N8 (N8 (N8 (L8 0) 0 (L8 1)) 0 (N8 (N8 (L8 0) 0 PM.leaf) 0 PM.leaf)) 0 (N8 (N8 (L8 0) 0 (L8 0)) 0 (N8 (N8 (L8 0) 0 PM.leaf) 0 PM.leaf)))) 5 (N8 (N8 (N8 (N8 (L8 107) 5 (L8 1)) 5 (N8 (N8 (L8 0) 107 PM.leaf) 107 PM.leaf)) 0 (N8 (N8 (L8 0) 0 (L8 0)) 0 (N8 (N8 (L8 0) 0 PM.leaf) 0 PM.leaf))) 0 (N8 (N8 (N8 (L8 0) 0 (L8 1)) 0 (N8 (N8 (L8 0) 0 PM.leaf) 0 PM.leaf)) 0 (N8 (N8 (L8 0) 0 (L8 0)) 0 (N8 (N8 (L8 0) 0 PM.leaf) 0 PM.leaf))))) 0 (N8 (N8 (N8 (N8 (N8 (L8 0) 0 (L8 1)) 0 (N8 (N8 (L8 1) 0 PM.leaf) 0 PM.leaf)) 0 (N8 (N8 (L8 0) 0 (L8 97)) 0 (N8 (N8 (L8 244) 0 PM.leaf) 0 PM.leaf))) 0 (N8 (N8 (N8 (L8 0) 0 (L8 0)) 0 (N8 (N8 (L8 0) 0 PM.leaf) 0 PM.leaf)) 0 (N8 (N8 (L8 0) 0 (L8 0)) 0 (N8 (N8 (L8 0) 0 PM.leaf) 0 PM.leaf)))) 0 (N8 (N8 (N8 (N8 (L8 0) 0 (L8 0)) 0 (N8 (N8 (L8 0) 0 PM.leaf) 0 PM.leaf)) 0 (N8 (N8 (L8 0) 0 (L8 0)) 0 (N8 (N8 (L8 0) 0 PM.leaf) 0 PM.leaf))) 0 (N8 (N8 (N8 (L8 0) 0 (L8 0)) 0 (N8 (N8 (L8 0) 0 PM.leaf) 0 PM.leaf)) 0 (N8 (N8 (L8 0) 0 (L8 0)) 0 (N8 (N8 (L8 0) 0 PM.leaf) 0 PM.leaf))))))))))]
abbrev sSG2M : Nat := 27
def sSG2I : List Nat := [0, 1, 2, 3, 4, 5, 6, 7, 8, 9, 10, 11, 12, 13, 14, 15, 16, 17, 18, 19, 20, 21, 22, 23, 24, 25, 26]
end
end Go.Proofs.YtlocaplkfaepnaaGreat
end
section
/- A closed call, run: fusee/scan.Step. -/
namespace Go.Proofs.YtlocaplkfaepnaaGreat
open Go SE
set_option maxRecDepth 100000
noncomputable section
theorem sSG2_look : lookX tblR 36 = none := by kernel_rfl
theorem sSG2_run : runH Tryz.prog tblR tt 2000 40 36 [.ptr 0 0, i64 0, sSG1V] (hO sSG1M sSG1O) (told sSG2I) = .ok (vmap (atL sSG2I) sSG2V, sSG2O.map fun o => some (omap (atL sSG2I) o)) := by kernel_rfl
theorem sSG2_sp : Sp Tryz.prog 36 [.ptr 0 0, i64 0, sSG1V] (hO 1 [packed sSG1M sSG1O]) (fun v h => v = sSG2V ∧ h = hO 1 [packed sSG2M sSG2O]) :=
  stageP tt_ok mixed tblR_ok 2000 40 sSG1M sSG1O sSG2M sSG2I sSG2V sSG2O sSG2_look sSG2_run (by kernel_rfl) (by kernel_rfl) (by kernel_rfl)
end
end Go.Proofs.YtlocaplkfaepnaaGreat
end
section
/- What a closed call yields, and the memory behind it: fusee/scan.Step. -/
namespace Go.Proofs.YtlocaplkfaepnaaGreat
open Go SE
set_option maxRecDepth 100000
noncomputable section
def sSG3V : AV := (AV.agg [(i64 6), (AV.lit (Value.string (bs [98]))), (AV.lit (Value.string (bs []))), (AV.lit (Value.string (bs []))), (AV.lit (Value.slice none 0 0)), (i64 8), (u64 1), (AV.lit (Value.string (bs [97]))), (AV.lit (Value.bool true)), (i64 3), (AV.lit (Value.bool false)), (AV.lit (Value.string (bs []))), (u64 0), (u64 0), (i64 0), (i64 0), (i64 (-0 - 1)), (i64 0), (i64 0), (AV.lit (Value.slice none 0 0)), (i64 0), (AV.lit (Value.slice none 0 0)), (i64 0), (AV.lit (Value.bool false)), (AV.lit (Value.string (bs []))), (AV.lit (Value.slice none 0 0)), (AV.lit (Value.slice none 0 0)), (u64 0)])
def sSG3O : List AObj := [
(AObj.cells 94 (Cs.av [(AV.ptr 1 0), (AV.ptr 2 0), (AV.ptr 3 0), (AV.ptr 4 0), (AV.ptr 5 0), (AV.ptr 6 0), (AV.ptr 7 0), (AV.ptr 8 0), (u64 2), (u64 2), (AV.slU 9 0 2 7)])),
(AObj.cells 161 (Cs.av [(AV.ptr 10 0), (AV.lit (Value.int IntKind.u32 1)), (AV.lit (Value.int IntKind.i32 0)), (AV.lit (Value.int IntKind.u32 0))])),
(AObj.cells 172 (Cs.av [(AV.sl 11 0 1 1)])),
(AObj.cells 175 (Cs.av [(u64 1), (AV.sl 12 0 1 1)])),
(AObj.cells 215 (Cs.av ([(u64 1), (u64 0), (u64 0), (AV.sl 13 0 1 1), (AV.lit (Value.bool false)), (AV.lit (Value.bool false)), (AV.lit (Value.bool true)), (AV.lit (Value.bool true))] ++ List.replicate 512 (AV.lit (Value.bool false)) ++ [(AV.lit Value.nilFunc)]))),
(AObj.cells 120 (Cs.av [(AV.lit (Value.slice none 0 0))])),
(AObj.cells 181 (Cs.av [(AV.mp 14), (AV.mp 15), (AV.mp 16), (AV.mp 17), (AV.mp 18), (AV.mp 19), (AV.mp 20), (AV.mp 21)])),
(AObj.cells 218 (Cs.av [(AV.slU 22 0 2 5), (AV.slU 23 0 1 5), (AV.slU 24 0 1 5), (AV.slU 25 0 1 5)])),
(AObj.cells 193 (Cs.av [(AV.lit (Value.slice none 0 0)), (i64 0), (i64 0)])),
(AObj.room 117 (Cs.av [(i64 1), (AV.lit (Value.string (bs [97]))), (AV.lit (Value.string (bs [49]))), (u64 1), (u64 1), (u64 1), (i64 1), (i64 1), (AV.lit (Value.string (bs [98]))), (AV.lit (Value.string (bs [50]))), (u64 2), (u64 2), (u64 1), (i64 2)])),
(AObj.cells 142 (Cs.av [(AV.sl 26 0 10 10), (i64 6), (i64 2), (i64 1), (i64 0), (i64 0)])),
(AObj.cells 99 (Cs.tr 10 [(i64 0), (AV.lit (Value.bool false)), (AV.lit (Value.bool false)), (AV.lit (Value.bool false)), (AV.lit (Value.bool false)), (AV.lit (Value.bool false)), (AV.lit (Value.bool false)), (AV.lit (Value.bool false)), (AV.lit (Value.bool false)), (i64 0)] (PM.node (PM.node PM.leaf (some (AV.lit (Value.bool true))) (PM.node (PM.node PM.leaf (some (i64 2)) PM.leaf) none PM.leaf)) (some (i64 0)) (PM.node PM.leaf (some (AV.lit (Value.bool true))) PM.leaf)))),
(AObj.cells 92 (Cs.tr 1 [(u64 0)] (PM.node PM.leaf (some (u64 1)) PM.leaf))),
(AObj.cells 3 (Cs.tr 1 [(i64 0)] (PM.node PM.leaf (some (i64 2)) PM.leaf))),
(AObj.map [] 0),
(AObj.map [((AV.lit (Value.string (bs [98]))), ((AV.agg [(AV.lit (Value.string (bs [98]))), (u64 2), (u64 2), (i64 3), (i64 0)]), 0))] 1),
(AObj.map [] 0),
(AObj.map [((AV.lit (Value.string (bs [97]))), ((AV.agg [(AV.lit (Value.string (bs [97]))), (u64 1), (u64 1), (i64 2), (i64 0)]), 0))] 1),
(AObj.map [] 0),
(AObj.map [] 0),
(AObj.map [] 0),
(AObj.map [] 0),
(AObj.room 66 (Cs.av [(AV.lit (Value.string (bs [97]))), (u64 1), (u64 1), (i64 2), (i64 0), (AV.lit (Value.string (bs [98]))), (u64 2), (u64 2), (i64 3), (i64 0)])),
(AObj.room 66 (Cs.av [(AV.lit (Value.string (bs [97]))), (u64 1), (u64 1), (i64 2), (i64 0)])),
(AObj.room 66 (Cs.av [(AV.lit (Value.string (bs [97]))), (u64 1), (u64 1), (i64 2), (i64 0)])),
(AObj.room 66 (Cs.av [(AV.lit (Value.string (bs [97]))), (u64 1), (u64 1), (i64 2), (i64 0)])),
(AObj.cells 256 (Cs.tr 1930 (List.replicate 192 (AV.lit (v8 0)) ++ [(AV.lit (Value.bool false))]) (N8 (N8 (N8 (N8 (N8 (N8 (N8 (N8 (L8 0) 0 (N8 (L8 0) 0 PM.leaf)) 0 (N8 (L8 0) 0 (L8 0))) 0 (N8 (N8 (L8 0) 0 (L8 0)) 0 (N8 (N8 (L8 0) 0 PM.leaf) 0 PM.leaf))) 0 (N8 (N8 (N8 (L8 0) 0 (L8 0)) 0 (N8 (N8 (L8 0) 0 PM.leaf) 0 PM.leaf)) 0 (N8 (N8 (L8 0) 0 (L8 0)) 0 (N8 (N8 (L8 0) 0 PM.leaf) 0 PM.leaf)))) 0 (N8 (N8 (N8 (N8 (L8 0) 0 (L8 0)) 0 (N8 (N8 (L8 1) 0 PM.leaf) 0 PM.leaf)) 0 (N8 (N8 (L8 0) 0 (L8 49)) 0 (N8 (N8 (L8 98) 0 PM.leaf) 0 PM.leaf))) 0 (N8 (N8 (N8 (L8 0) 0 (L8 0)) 0 (N8 (N8 (L8 0) 0 PM.leaf) 0 PM.leaf)) 0 (N8 (N8 (L8 0) 0 (L8 0)) 0 (N8 (N8 (L8 0) 0 PM.leaf) 0 PM.leaf))))) 83 (N8 (N8 (N8 (N8 (N8 (L8 0) 83 (L8 0)) 83 (N8 (N8 (L8 1) 0 PM.leaf) 0 PM.leaf)) 0 (N8 (N8 (L8 0) 0 (L8 38)) 0 (N8 (N8 (L8 75) 0 PM.leaf) 0 PM.leaf))) 0 (N8 (N8 (N8 (L8 0) 0 (L8 0)) 0 (N8 (N8 (L8 2) 0 PM.leaf) 0 PM.leaf)) 0 (N8 (N8 (L8 0) 0 (L8 0)) 0 (N8 (N8 (L8 0) 0 PM.leaf) 0 PM.leaf)))) 78 (N8 (N8 (N8 (N8 (L8 40) 78 (L8 0)) 78 (N8 (N8 (L8 2) 40 PM.leaf) 40 PM.leaf)) 0 (N8 (N8 (L8 0) 0 (L8 0)) 0 (N8 (N8 (L8 0) 0 PM.leaf) 0 PM.leaf))) 0 (N8 (N8 (N8 (L8 0) 0 (L8 0)) 0 (N8 (N8 (L8 1) 0 PM.leaf) 0 PM.leaf)) 0 (N8 (N8 (L8 0) 0 (L8 0)) 0 (N8 (N8 (L8 0) 0 PM.leaf) 0 PM.leaf)))))) 70 (N8 (N8 (N8 (N8 (N8 (N8 (L8 3) 70 (PM.node (L8 0) (some (AV.lit (Value.bool false))) PM.leaf)) 70 (N8 (L8 3) 3 (L8 0))) 0 (N8 (N8 (L8 0) 0 (L8 0)) 0 (N8 (N8 (L8 0) 0 PM.leaf) 0 PM.leaf))) 0 (N8 (N8 (N8 (L8 0) 0 (L8 0)) 0 (N8 (N8 (L8 0) 0 PM.leaf) 0 PM.leaf)) 0 (N8 (N8 (L8 0) 0 (L8 0)) 0 (N8 (N8 (L8 0) 0 PM.leaf) 0 PM.leaf)))) 220 (N8 (N8 (N8 (N8 (L8 0) 220 (L8 0)) 220 (N8 (N8 (L8 0) 0 PM.leaf) 0 PM.leaf)) 0 (N8 (N8 (L8 0) 0 (L8 0)) 0 (N8 (N8 (L8 0) 0 PM.leaf) 0 PM.leaf))) 0 (N8 (N8 (N8 (L8 0) 0 (L8 0)) 0 (N8 (N8 (L8 0) 0 PM.leaf) 0 PM.leaf)) 0 (N8 (N8 (L8 0) 0 (L8 0)) 0 (N8 (N8 (L8 0) 0 PM.leaf) 0 PM.leaf))))) 10 (N8 (N8 (N8 (N8 (N8 (L8 0) 10 (L8 1)) 10 (N8 (N8 (L8 1) 0 PM.leaf) 0 PM.leaf)) 0 (N8 (N8 (L8 0) 0 (L8 129)) 0 (N8 (N8 (L8 174) 0 PM.leaf) 0 PM.leaf))) 0 (N8 (N8 (N8 (L8 0) 0 (L8 0)) 0 (N8 (N8 (L8 0) 0 PM.leaf) 0 PM.leaf)) 0 (N8 (N8 (L8 0) 0 (L8 0)) 0 (N8 (N8 (L8 0) 0 PM.leaf) 0 PM.leaf)))) 0 (N8 (N8 (N8 (N8 (L8 223) 0 (L8 0)) 0 (N8 (N8 (L8 0) 223 PM.leaf) 223 PM.leaf)) 0 (N8 (N8 (L8 0) 0 (L8 0)) 0 (N8 (N8 (L8 0) 0 PM.leaf) 0 PM.leaf))) 0 (N8 (N8 (N8 (L8 0) 0 (L8 0)) 0 (N8 (N8 (L8 0) 0 PM.leaf) 0 PM.leaf)) 0 (N8 (N8 (L8 0) 0 (L8 0)) 0 (N8 (N8 (L8 0) 0 PM.leaf) 0 PM.leaf))))))) 4 (N8 (N8 (N8 (N8 (N8 (N8 (N8 (L8 0) 4 (N8 (L8 0) 0 PM.leaf)) 4 (PM.node (L8 0) (some (AV.lit (Value.bool false))) (L8 0))) 0 (N8 (N8 (L8 0) 0 (L8 0)) 0 (N8 (N8 (L8 0) 0 PM.leaf) 0 PM.leaf))) 0 (N8 (N8 (N8 (L8 0) 0 (L8 0)) 0 (N8 (N8 (L8 0) 0 PM.leaf) 0 PM.leaf)) 0 (N8 (N8 (L8 0) 0 (L8 0)) 0 (N8 (N8 (L8 0) 0 PM.leaf) 0 PM.leaf)))) 0 (N8 (N8 (N8 (N8 (L8 0) 0 (L8 0)) 0 (N8 (N8 (L8 0) 0 PM.leaf) 0 PM.leaf)) 0 (N8 (N8 (L8 0) 0 (L8 0)) 0 (N8 (N8 (L8 50) 0 PM.leaf) 0 PM.leaf))) 0 (N8 (N8 (N8 (L8 0) 0 (L8 0)) 0 (N8 (N8 (L8 0) 0 PM.leaf) 0 PM.leaf)) 0 (N8 (N8 (L8 0) 0 (L8 0)) 0 (N8 (N8 (L8 0) 0 PM.leaf) 0 PM.leaf))))) 69 (N8 (N8 (N8 (N8 (N8 (L8 0) 69 (L8 1)) 69 (N8 (N8 (L8 0) 0 PM.leaf) 0 PM.leaf)) 0 (N8 (N8 (L8 0) 0 (L8 201)) 0 (N8 (N8 (L8 64) 0 PM.leaf) 0 PM.leaf))) 0 (N8 (N8 (N8 (L8 0) 0 (L8 0)) 0 (N8 (N8 (L8 0) 0 PM.leaf) 0 PM.leaf)) 0 (N8 (N8 (L8 0) 0 (L8 0)) 0 (N8 (N8 (L8 0) 0 PM.leaf) 0 PM.leaf)))) 80 (N8 (N8 (N8 (N8 (L8 132) 80 (L8 0)) 80 (N8 (N8 (L8 0) 132 PM.leaf) 132 PM.leaf)) 0 (N8 (N8 (L8 0) 0 (L8 0)) 0 (N8 (N8 (L8 0) 0 PM.leaf) 0 PM.leaf))) 0 (N8 (N8 (N8 (L8 0) 0 (L8 0)) 0 (N8 (N8 (L8 0) 0 PM.leaf) 0 PM.leaf)) 0 (N8 (N8 (L8 0) 0 (L8 0)) 0 (N8 (N8 (L8 0) 0 PM.leaf) 0 PM.leaf)))))) 85 (N8 (N8 (N8 (N8 (N8 (N8 (L8 0) 85 (N8 (L8 0) 1 PM.leaf)) 85 (N8 (L8 0) 0 PM.leaf)) 0 (N8 (N8 (L8 0) 0 (L8 30)) 0 (N8 (N8 (L8 0) 0 PM.leaf) 0 PM.leaf))) 0 (N8 (N8 (N8 (L8 0) 0 (L8 1)) 0 (N8 (N8 (L8 0) 0 PM.leaf) 0 PM.leaf)) 0 (N8 (N8 (L8 0) 0 (L8 0)) 0 (N8 (N8 (L8 0) 0 PM.leaf) 0 PM.leaf)))) 5 (N8 (N8 (N8 (N8 (L8 107) 5 (L8 1)) 5 (N8 (N8 (L8 0) 107 PM.leaf) 107 PM.leaf)) 0 (N8 (N8 (L8 0) 0 (L8 0)) 0 (N8 (N8 (L8 0) 0 PM.leaf) 0 PM.leaf))) 0 (N8 (N8 (N8 (L8 0) 0 (L8 1)) 0 (N8 (N8 (L8 0) 0 PM.leaf) 0 PM.leaf)) 0 (N8 (N8 (L8 0) 0 (L8 0)) 0 (N8 (N8 (L8 0) 0 PM.leaf) 0 PM.leaf))))) 0 (N8 (N8 (N8 (N8 (N8 (L8 0) 0 (L8 1)) 0 (N8 (N8 (L8 1) 0 PM.leaf) 0 PM.leaf)) 0 (N8 (N8 (L8 0) 0 (L8 97)) 0 (N8 (N8 (L8 244) 0 PM.leaf) 0 PM.leaf))) 0 (N8 (N8 (N8 (L8 0) 0 (L8 0)) 0 (N8 (N8 (L8 0) 0 PM.leaf) 0 PM.leaf)) 0 (N8 (N8 (L8 0) 0 (L8 0)) 0 (N8 (N8 (L8 0) 0 PM.leaf) 0 PM.leaf)))) 0 (N8 (N8 (N8 (N8 (L8 0) 0 (L8 0)) 0 (N8 (N8 (L8 0) 0 PM.leaf) 0 PM.leaf)) 0 (N8 (N8 (L8 0) 0 (L8 0)) 0 (N8 (N8 (L8 0) 0 PM.leaf) 0 PM.leaf))) 0 (N8 (N8 (N8 (L8 0) 0 (L8 0)) 0 (N8 (N8 (L8 0) 0 PM.leaf) 0 PM.leaf)) 0 (N8 (N8 (L8 0) 0 (L8 0)) 0 (N8 (N8 (L8 0) 0 PM.leaf) 0 PM.leaf))))))))))]
abbrev sSG3M : Nat := 27
def sSG3I : List Nat := [0, 1, 2, 3, 4, 5, 6, 7, 8, 9, 10, 11, 12, 13, 14, 15, 16, 17, 18, 19, 20, 21, 22, 23, 24, 25, 26]
end
end Go.Proofs.YtlocaplkfaepnaaGreat
end
section
/- A closed call, run: fusee/scan.Step. -/
namespace Go.Proofs.YtlocaplkfaepnaaGreat
open Go SE
set_option maxRecDepth 100000
noncomputable section
theorem sSG3_look : lookX tblR 36 = none := by kernel_rfl
theorem sSG3_run : runH Tryz.prog tblR tt 2000 40 36 [.ptr 0 0, i64 0, sSG2V] (hO sSG2M sSG2O) (told sSG3I) = .ok (vmap (atL sSG3I) sSG3V, sSG3O.map fun o => some (omap (atL sSG3I) o)) := by kernel_rfl
theorem sSG3_sp : Sp Tryz.prog 36 [.ptr 0 0, i64 0, sSG2V] (hO 1 [packed sSG2M sSG2O]) (fun v h => v = sSG3V ∧ h = hO 1 [packed sSG3M sSG3O]) :=
  stageP tt_ok mixed tblR_ok 2000 40 sSG2M sSG2O sSG3M sSG3I sSG3V sSG3O sSG3_look sSG3_run (by kernel_rfl) (by kernel_rfl) (by kernel_rfl)
end
end Go.Proofs.YtlocaplkfaepnaaGreat
end
section
/- What a closed call yields, and the memory behind it: fusee/scan.Step. -/
namespace Go.Proofs.YtlocaplkfaepnaaGreat
open Go SE
set_option maxRecDepth 100000
noncomputable section
def sSG4V : AV := (AV.agg [(i64 6), (AV.lit (Value.string (bs [98]))), (AV.lit (Value.string (bs []))), (AV.lit (Value.string (bs []))), (AV.lit (Value.slice none 0 0)), (i64 8), (u64 1), (AV.lit (Value.string (bs [97]))), (AV.lit (Value.bool true)), (i64 2), (AV.lit (Value.bool false)), (AV.lit (Value.string (bs []))), (u64 0), (u64 0), (i64 0), (i64 0), (i64 (-0 - 1)), (i64 0), (i64 0), (AV.lit (Value.slice none 0 0)), (i64 0), (AV.lit (Value.slice none 0 0)), (i64 0), (AV.lit (Value.bool false)), (AV.lit (Value.string (bs []))), (AV.lit (Value.slice none 0 0)), (AV.lit (Value.slice none 0 0)), (u64 0)])
def sSG4O : List AObj := [
(AObj.cells 94 (Cs.av [(AV.ptr 1 0), (AV.ptr 2 0), (AV.ptr 3 0), (AV.ptr 4 0), (AV.ptr 5 0), (AV.ptr 6 0), (AV.ptr 7 0), (AV.ptr 8 0), (u64 2), (u64 2), (AV.slU 9 0 2 7)])),
(AObj.cells 161 (Cs.av [(AV.ptr 10 0), (AV.lit (Value.int IntKind.u32 1)), (AV.lit (Value.int IntKind.i32 0)), (AV.lit (Value.int IntKind.u32 0))])),
(AObj.cells 172 (Cs.av [(AV.sl 11 0 1 1)])),
(AObj.cells 175 (Cs.av [(u64 1), (AV.sl 12 0 1 1)])),
(AObj.cells 215 (Cs.av ([(u64 1), (u64 0), (u64 0), (AV.sl 13 0 1 1), (AV.lit (Value.bool false)), (AV.lit (Value.bool false)), (AV.lit (Value.bool true)), (AV.lit (Value.bool true))] ++ List.replicate 512 (AV.lit (Value.bool false)) ++ [(AV.lit Value.nilFunc)]))),
(AObj.cells 120 (Cs.av [(AV.lit (Value.slice none 0 0))])),
(AObj.cells 181 (Cs.av [(AV.mp 14), (AV.mp 15), (AV.mp 16), (AV.mp 17), (AV.mp 18), (AV.mp 19), (AV.mp 20), (AV.mp 21)])),
(AObj.cells 218 (Cs.av [(AV.slU 22 0 2 5), (AV.slU 23 0 1 5), (AV.slU 24 0 1 5), (AV.slU 25 0 1 5)])),
(AObj.cells 193 (Cs.av [(AV.lit (Value.slice none 0 0)), (i64 0), (i64 0)])),
(AObj.room 117 (Cs.av [(i64 1), (AV.lit (Value.string (bs [97]))), (AV.lit (Value.string (bs [49]))), (u64 1), (u64 1), (u64 1), (i64 1), (i64 1), (AV.lit (Value.string (bs [98]))), (AV.lit (Value.string (bs [50]))), (u64 2), (u64 2), (u64 1), (i64 2)])),
(AObj.cells 142 (Cs.av [(AV.sl 26 0 10 10), (i64 6), (i64 2), (i64 1), (i64 0), (i64 0)])),
(AObj.cells 99 (Cs.tr 10 [(i64 0), (AV.lit (Value.bool false)), (AV.lit (Value.bool false)), (AV.lit (Value.bool false)), (AV.lit (Value.bool false)), (AV.lit (Value.bool false)), (AV.lit (Value.bool false)), (AV.lit (Value.bool false)), (AV.lit (Value.bool false)), (i64 0)] (PM.node (PM.node PM.leaf (some (AV.lit (Value.bool true))) (PM.node (PM.node PM.leaf (some (i64 2)) PM.leaf) none PM.leaf)) (some (i64 0)) (PM.node PM.leaf (some (AV.lit (Value.bool true))) PM.leaf)))),
(AObj.cells 92 (Cs.tr 1 [(u64 0)] (PM.node PM.leaf (some (u64 1)) PM.leaf))),
(AObj.cells 3 (Cs.tr 1 [(i64 0)] (PM.node PM.leaf (some (i64 2)) PM.leaf))),
(AObj.map [] 0),
(AObj.map [((AV.lit (Value.string (bs [98]))), ((AV.agg [(AV.lit (Value.string (bs [98]))), (u64 2), (u64 2), (i64 3), (i64 0)]), 0))] 1),
(AObj.map [] 0),
(AObj.map [((AV.lit (Value.string (bs [97]))), ((AV.agg [(AV.lit (Value.string (bs [97]))), (u64 1), (u64 1), (i64 2), (i64 0)]), 0))] 1),
(AObj.map [] 0),
(AObj.map [] 0),
(AObj.map [] 0),
(AObj.map [] 0),
(AObj.room 66 (Cs.av [(AV.lit (Value.string (bs [97]))), (u64 1), (u64 1), (i64 2), (i64 0), (AV.lit (Value.string (bs [98]))), (u64 2), (u64 2), (i64 3), (i64 0)])),
(AObj.room 66 (Cs.av [(AV.lit (Value.string (bs [97]))), (u64 1), (u64 1), (i64 2), (i64 0)])),
(AObj.room 66 (Cs.av [(AV.lit (Value.string (bs [97]))), (u64 1), (u64 1), (i64 2), (i64 0)])),
(AObj.room 66 (Cs.av [(AV.lit (Value.string (bs [97]))), (u64 1), (u64 1), (i64 2), (i64 0)])),
(AObj.cells 256 (Cs.tr 1930 (List.replicate 192 (AV.lit (v8 0)) ++ [(AV.lit (Value.bool false))]) (N8 (N8 (N8 (N8 (N8 (N8 (N8 (N8 (L8 0) 0 (N8 (L8 0) 0 PM.leaf)) 0 (N8 (L8 0) 0 (L8 0))) 0 (N8 (N8 (L8 0) 0 (L8 0)) 0 (N8 (N8 (L8 0) 0 PM.leaf) 0 PM.leaf))) 0 (N8 (N8 (N8 (L8 0) 0 (L8 0)) 0 (N8 (N8 (L8 0) 0 PM.leaf) 0 PM.leaf)) 0 (N8 (N8 (L8 0) 0 (L8 0)) 0 (N8 (N8 (L8 0) 0 PM.leaf) 0 PM.leaf)))) 0 (N8 (N8 (N8 (N8 (L8 0) 0 (L8 0)) 0 (N8 (N8 (L8 1) 0 PM.leaf) 0 PM.leaf)) 0 (N8 (N8 (L8 0) 0 (L8 49)) 0 (N8 (N8 (L8 98) 0 PM.leaf) 0 PM.leaf))) 0 (N8 (N8 (N8 (L8 0) 0 (L8 0)) 0 (N8 (N8 (L8 0) 0 PM.leaf) 0 PM.leaf)) 0 (N8 (N8 (L8 0) 0 (L8 0)) 0 (N8 (N8 (L8 0) 0 PM.leaf) 0 PM.leaf))))) 83 (N8 (N8 (N8 (N8 (N8 (L8 0) 83 (L8 0)) 83 (N8 (N8 (L8 1) 0 PM.leaf) 0 PM.leaf)) 0 (N8 (N8 (L8 0) 0 (L8 38)) 0 (N8 (N8 (L8 75) 0 PM.leaf) 0 PM.leaf))) 0 (N8 (N8 (N8 (L8 0) 0 (L8 0)) 0 (N8 (N8 (L8 2) 0 PM.leaf) 0 PM.leaf)) 0 (N8 (N8 (L8 0) 0 (L8 0)) 0 (N8 (N8 (L8 0) 0 PM.leaf) 0 PM.leaf)))) 78 (N8 (N8 (N8 (N8 (L8 40) 78 (L8 0)) 78 (N8 (N8 (L8 2) 40 PM.leaf) 40 PM.leaf)) 0 (N8 (N8 (L8 0) 0 (L8 0)) 0 (N8 (N8 (L8 0) 0 PM.leaf) 0 PM.leaf))) 0 (N8 (N8 (N8 (L8 0) 0 (L8 0)) 0 (N8 (N8 (L8 1) 0 PM.leaf) 0 PM.leaf)) 0 (N8 (N8 (L8 0) 0 (L8 0)) 0 (N8 (N8 (L8 0) 0 PM.leaf) 0 PM.leaf)))))) 70 (N8 (N8 (N8 (N8 (N8 (N8 (L8 3) 70 (PM.node (L8 0) (some (AV.lit (Value.bool false))) PM.leaf)) 70 (N8 (L8 3) 3 (L8 0))) 0 (N8 (N8 (L8 0) 0 (L8 0)) 0 (N8 (N8 (L8 0) 0 PM.leaf) 0 PM.leaf))) 0 (N8 (N8 (N8 (L8 0) 0 (L8 0)) 0 (N8 (N8 (L8 0) 0 PM.leaf) 0 PM.leaf)) 0 (N8 (N8 (L8 0) 0 (L8 0)) 0 (N8 (N8 (L8 0) 0 PM.leaf) 0 PM.leaf)))) 220 (N8 (N8 (N8 (N8 (L8 0) 220 (L8 0)) 220 (N8 (N8 (L8 0) 0 PM.leaf) 0 PM.leaf)) 0 (N8 (N8 (L8 0) 0 (L8 0)) 0 (N8 (N8 (L8 0) 0 PM.leaf) 0 PM.leaf))) 0 (N8 (N8 (N8 (L8 0) 0 (L8 0)) 0 (N8 (N8 (L8 0) 0 PM.leaf) 0 PM.leaf)) 0 (N8 (N8 (L8 0) 0 (L8 0)) 0 (N8 (N8 (L8 0) 0 PM.leaf) 0 PM.leaf))))) 10 (N8 (N8 (N8 (N8 (N8 (L8 0) 10 (L8 1)) 10 (N8 (N8 (L8 1) 0 PM.leaf) 0 PM.leaf)) 0 (N8 (N8 (L8 0) 0 (L8 129)) 0 (N8 (N8 (L8 174) 0 PM.leaf) 0 PM.leaf))) 0 (N8 (N8 (N8 (L8 0) 0 (L8 0)) 0 (N8 (N8 (L8 0) 0 PM.leaf) 0 PM.leaf)) 0 (N8 (N8 (L8 0) 0 (L8 0)) 0 (N8 (N8 (L8 0) 0 PM.leaf) 0 PM.leaf)))) 0 (N8 (N8 (N8 (N8 (L8 223) 0 (L8 0)) 0 (N8 (N8 (L8 0) 223 PM.leaf) 223 PM.leaf)) 0 (N8 (N8 (L8 0) 0 (L8 0)) 0 (N8 (N8 (L8 0) 0 PM.leaf) 0 PM.leaf))) 0 (N8 (N8 (N8 (L8 0) 0 (L8 0)) 0 (N8 (N8 (L8 0) 0 PM.leaf) 0 PM.leaf)) 0 (N8 (N8 (L8 0) 0 (L8 0)) 0 (N8 (N8 (L8 0) 0 PM.leaf) 0 PM.leaf))))))) 4 (N8 (N8 (N8 (N8 (N8 (N8 (N8 (L8 0) 4 (N8 (L8 0) 0 PM.leaf)) 4 (PM.node (L8 0) (some (AV.lit (Value.bool false))) (L8 0))) 0 (N8 (N8 (L8 0) 0 (L8 0)) 0 (N8 (N8 (L8 0) 0 PM.leaf) 0 PM.leaf))) 0 (N8 (N8 (N8 (L8 0) 0 (L8 0)) 0 (N8 (N8 (L8 0) 0 PM.leaf) 0 PM.leaf)) 0 (N8 (N8 (L8 0) 0 (L8 0)) 0 (N8 (N8 (L8 0) 0 PM.leaf) 0 PM.leaf)))) 0 (N8 (N8 (N8 (N8 (L8 0) 0 (L8 0)) 0 (N8 (N8 (L8 0) 0 PM.leaf) 0 PM.leaf)) 0 (N8 (N8 (L8 0) 0 (L8 0)) 0 (N8 (N8 (L8 50) 0 PM.leaf) 0 PM.leaf))) 0 (N8 (N8 (N8 (L8 0) 0 (L8 0)) 0 (N8 (N8 (L8 0) 0 PM.leaf) 0 PM.leaf)) 0 (N8 (N8 (L8 0) 0 (L8 0)) 0 (N8 (N8 (L8 0) 0 PM.leaf) 0 PM.leaf))))) 69 (N8 (N8 (N8 (N8 (N8 (L8 0) 69 (L8 1)) 69 (N8 (N8 (L8 0) 0 PM.leaf) 0 PM.leaf)) 0 (N8 (N8 (L8 0) 0 (L8 201)) 0 (N8 (N8 (L8 64) 0 PM.leaf) 0 PM.leaf))) 0 (N8 (N8 (N8 (L8 0) 0 (L8 0)) 0 (N8 (N8 (L8 0) 0 PM.leaf) 0 PM.leaf)) 0 (N8 (N8 (L8 0) 0 (L8 0)) 0 (N8 (N8 (L8 0) 0 PM.leaf) 0 PM.leaf)))) 80 (N8 (N8 (N8 (N8 (L8 132) 80 (L8 0)) 80 (N8 (N8 (L8 0) 132 PM.leaf) 132 PM.leaf)) 0 (N8 (N8 (L8 0) 0 (L8 0)) 0 (N8 (N8 (L8 0) 0 PM.leaf) 0 PM.leaf))) 0 (N8 (N8 (N8 (L8 0) 0 (L8 0)) 0 (N8 (N8 (L8 0) 0 PM.leaf) 0 PM.leaf)) 0 (N8 (N8 (L8 0) 0 (L8 0)) 0 (N8 (N8 (L8 0) 0 PM.leaf) 0 PM.leaf)))))) 85 (N8 (N8 (N8 (N8 (N8 (N8 (L8 0) 85 (N8 (L8 0) 1 PM.leaf)) 85 (N8 (L8 0) 0 PM.leaf)) 0 (N8 (N8 (L8 0) 0 (L8 30)) 0 (N8 (N8 (L8 0) 0 PM.leaf) 0 PM.leaf))) 0 (N8 (N8 (N8 (L8 0) 0 (L8 1)) 0 (N8 (N8 (L8 0) 0 PM.leaf) 0 PM.leaf)) 0 (N8 (N8 (L8 0) 0 (L8 0)) 0 (N8 (N8 (L8 0) 0 PM.leaf) 0 PM.leaf)))) 5 (N8 (N8 (N8 (N8 (L8 107) 5 (L8 1)) 5 (N8 (N8 (L8 0) 107 PM.leaf) 107 PM.leaf)) 0 (N8 (N8 (L8 0) 0 (L8 0)) 0 (N8 (N8 (L8 0) 0 PM.leaf) 0 PM.leaf))) 0 (N8 (N8 (N8 (L8 0) 0 (L8 1)) 0 (N8 (N8 (L8 0) 0 PM.leaf) 0 PM.leaf)) 0 (N8 (N8 (L8 0) 0 (L8 0)) 0 (N8 (N8 (L8 0) 0 PM.leaf) 0 PM.leaf))))) 0 (N8 (N8 (N8 (N8 (N8 (L8 0) 0 (L8 1)) 0 (N8 (N8 (L8 1) 0 PM.leaf) 0 PM.leaf)) 0 (N8 (N8 (L8 0) 0 (L8 97)) 0 (N8 (N8 (L8 244) 0 PM.leaf) 0 PM.leaf))) 0 (N8 (N8 (N8 (L8 0) 0 (L8 0)) 0 (N8 (N8 (L8 0) 0 PM.leaf) 0 PM.leaf)) 0 (N8 (N8 (L8 0) 0 (L8 0)) 0 (N8 (N8 (L8 0) 0 PM.leaf) 0 PM.leaf)))) 0 (N8 (N8 (N8 (N8 (L8 0) 0 (L8 0)) 0 (N8 (N8 (L8 0) 0 PM.leaf) 0 PM.leaf)) 0 (N8 (N8 (L8 0) 0 (L8 0)) 0 (N8 (N8 (L8 0) 0 PM.leaf) 0 PM.leaf))) 0 (N8 (N8 (N8 (L8 0) 0 (L8 0)) 0 (N8 (N8 (L8 0) 0 PM.leaf) 0 PM.leaf)) 0 (N8 (N8 (L8 0) 0 (L8 0)) 0 (N8 (N8 (L8 0) 0 PM.leaf) 0 PM.leaf))))))))))]
abbrev sSG4M : Nat := 27
def sSG4I : List Nat := [0, 1, 2, 3, 4, 5, 6, 7, 8, 9, 10, 11, 12, 13, 14, 15, 16, 17, 18, 19, 20, 21, 22, 23, 24, 25, 26]
end
end Go.Proofs.YtlocaplkfaepnaaGreat
end
section
/- A closed call, run: fusee/scan.Step. -/
namespace Go.Proofs.YtlocaplkfaepnaaGreat
open Go SE
set_option maxRecDepth 100000
noncomputable section
theorem sSG4_look : lookX tblR 36 = none := by kernel_rfl
theorem sSG4_run : runH Tryz.prog tblR tt 2000 40 36 [.ptr 0 0, i64 0, sSG3V] (hO sSG3M sSG3O) (told sSG4I) = .ok (vmap (atL sSG4I) sSG4V, sSG4O.map fun o => some (omap (atL sSG4I) o)) := by kernel_rfl
theorem sSG4_sp : Sp Tryz.prog 36 [.ptr 0 0, i64 0, sSG3V] (hO 1 [packed sSG3M sSG3O]) (fun v h => v = sSG4V ∧ h = hO 1 [packed sSG4M sSG4O]) :=
  stageP tt_ok mixed tblR_ok 2000 40 sSG3M sSG3O sSG4M sSG4I sSG4V sSG4O sSG4_look sSG4_run (by kernel_rfl) (by kernel_rfl) (by kernel_rfl)
end
end Go.Proofs.YtlocaplkfaepnaaGreat
end
section
/- What a closed call yields, and the memory behind it: fusee/scan.Step. -/
namespace Go.Proofs.YtlocaplkfaepnaaGreat
open Go SE
set_option maxRecDepth 100000
noncomputable section
def sSG5V : AV := (AV.agg [(i64 6), (AV.lit (Value.string (bs [98]))), (AV.lit (Value.string (bs []))), (AV.lit (Value.string (bs []))), (AV.lit (Value.slice none 0 0)), (i64 8), (u64 1), (AV.lit (Value.string (bs [97]))), (AV.lit (Value.bool true)), (i64 1), (AV.lit (Value.bool false)), (AV.lit (Value.string (bs []))), (u64 0), (u64 0), (i64 0), (i64 0), (i64 (-0 - 1)), (i64 0), (i64 0), (AV.lit (Value.slice none 0 0)), (i64 0), (AV.lit (Value.slice none 0 0)), (i64 0), (AV.lit (Value.bool false)), (AV.lit (Value.string (bs []))), (AV.lit (Value.slice none 0 0)), (AV.lit (Value.slice none 0 0)), (u64 0)])
def sSG5O : List AObj := [
(AObj.cells 94 (Cs.av [(AV.ptr 1 0), (AV.ptr 2 0), (AV.ptr 3 0), (AV.ptr 4 0), (AV.ptr 5 0), (AV.ptr 6 0), (AV.ptr 7 0), (AV.ptr 8 0), (u64 2), (u64 2), (AV.slU 9 0 2 7)])),
(AObj.cells 161 (Cs.av [(AV.ptr 10 0), (AV.lit (Value.int IntKind.u32 1)), (AV.lit (Value.int IntKind.i32 0)), (AV.lit (Value.int IntKind.u32 0))])),
(AObj.cells 172 (Cs.av [(AV.sl 11 0 1 1)])),
(AObj.cells 175 (Cs.av [(u64 1), (AV.sl 12 0 1 1)])),
(AObj.cells 215 (Cs.av ([(u64 1), (u64 0), (u64 0), (AV.sl 13 0 1 1), (AV.lit (Value.bool false)), (AV.lit (Value.bool false)), (AV.lit (Value.bool true)), (AV.lit (Value.bool true))] ++ List.replicate 512 (AV.lit (Value.bool false)) ++ [(AV.lit Value.nilFunc)]))),
(AObj.cells 120 (Cs.av [(AV.lit (Value.slice none 0 0))])),
(AObj.cells 181 (Cs.av [(AV.mp 14), (AV.mp 15), (AV.mp 16), (AV.mp 17), (AV.mp 18), (AV.mp 19), (AV.mp 20), (AV.mp 21)])),
(AObj.cells 218 (Cs.av [(AV.slU 22 0 2 5), (AV.slU 23 0 1 5), (AV.slU 24 0 1 5), (AV.slU 25 0 1 5)])),
(AObj.cells 193 (Cs.av [(AV.lit (Value.slice none 0 0)), (i64 0), (i64 0)])),
(AObj.room 117 (Cs.av [(i64 1), (AV.lit (Value.string (bs [97]))), (AV.lit (Value.string (bs [49]))), (u64 1), (u64 1), (u64 1), (i64 1), (i64 1), (AV.lit (Value.string (bs [98]))), (AV.lit (Value.string (bs [50]))), (u64 2), (u64 2), (u64 1), (i64 2)])),
(AObj.cells 142 (Cs.av [(AV.sl 26 0 10 10), (i64 6), (i64 2), (i64 1), (i64 0), (i64 0)])),
(AObj.cells 99 (Cs.tr 10 [(i64 0), (AV.lit (Value.bool false)), (AV.lit (Value.bool false)), (AV.lit (Value.bool false)), (AV.lit (Value.bool false)), (AV.lit (Value.bool false)), (AV.lit (Value.bool false)), (AV.lit (Value.bool false)), (AV.lit (Value.bool false)), (i64 0)] (PM.node (PM.node PM.leaf (some (AV.lit (Value.bool true))) (PM.node (PM.node PM.leaf (some (i64 2)) PM.leaf) none PM.leaf)) (some (i64 0)) (PM.node PM.leaf (some (AV.lit (Value.bool true))) PM.leaf)))),
(AObj.cells 92 (Cs.tr 1 [(u64 0)] (PM.node PM.leaf (some (u64 1)) PM.leaf))),
(AObj.cells 3 (Cs.tr 1 [(i64 0)] (PM.node PM.leaf (some (i64 2)) PM.leaf))),
(AObj.map [] 0),
(AObj.map [((AV.lit (Value.string (bs [98]))), ((AV.agg [(AV.lit (Value.string (bs [98]))), (u64 2), (u64 2), (i64 3), (i64 0)]), 0))] 1),
(AObj.map [] 0),
(AObj.map [((AV.lit (Value.string (bs [97]))), ((AV.agg [(AV.lit (Value.string (bs [97]))), (u64 1), (u64 1), (i64 2), (i64 0)]), 0))] 1),
(AObj.map [] 0),
(AObj.map [] 0),
(AObj.map [] 0),
(AObj.map [] 0),
(AObj.room 66 (Cs.av [(AV.lit (Value.string (bs [97]))), (u64 1), (u64 1), (i64 2), (i64 0), (AV.lit (Value.string (bs [98]))), (u64 2), (u64 2), (i64 3), (i64 0)])),
(AObj.room 66 (Cs.av [(AV.lit (Value.string (bs [97]))), (u64 1), (u64 1), (i64 2), (i64 0)])),
(AObj.room 66 (Cs.av [(AV.lit (Value.string (bs [97]))), (u64 1), (u64 1), (i64 2), (i64 0)])),
(AObj.room 66 (Cs.av [(AV.lit (Value.string (bs [97]))), (u64 1), (u64 1), (i64 2), (i64 0)])),
(AObj.cells 256 (Cs.tr 1930 (List.replicate 192 (AV.lit (v8 0)) ++ [(AV.lit (Value.bool false))]) (N8 (N8 (N8 (N8 (N8 (N8 (N8 (N8 (L8 0) 0 (N8 (L8 0) 0 PM.leaf)) 0 (N8 (L8 0) 0 (L8 0))) 0 (N8 (N8 (L8 0) 0 (L8 0)) 0 (N8 (N8 (L8 0) 0 PM.leaf) 0 PM.leaf))) 0 (N8 (N8 (N8 (L8 0) 0 (L8 0)) 0 (N8 (N8 (L8 0) 0 PM.leaf) 0 PM.leaf)) 0 (N8 (N8 (L8 0) 0 (L8 0)) 0 (N8 (N8 (L8 0) 0 PM.leaf) 0 PM.leaf)))) 0 (N8 (N8 (N8 (N8 (L8 0) 0 (L8 0)) 0 (N8 (N8 (L8 1) 0 PM.leaf) 0 PM.leaf)) 0 (N8 (N8 (L8 0) 0 (L8 49)) 0 (N8 (N8 (L8 98) 0 PM.leaf) 0 PM.leaf))) 0 (N8 (N8 (N8 (L8 0) 0 (L8 0)) 0 (N8 (N8 (L8 0) 0 PM.leaf) 0 PM.leaf)) 0 (N8 (N8 (L8 0) 0 (L8 0)) 0 (N8 (N8 (L8 0) 0 PM.leaf) 0 PM.leaf))))) 83 (N8 (N8 (N8 (N8 (N8 (L8 0) 83 (L8 0)) 83 (N8 (N8 (L8 1) 0 PM.leaf) 0 PM.leaf)) 0 (N8 (N8 (L8 0) 0 (L8 38)) 0 (N8 (N8 (L8 75) 0 PM.leaf) 0 PM.leaf))) 0 (N8 (N8 (N8 (L8 0) 0 (L8 0)) 0 (N8 (N8 (L8 2) 0 PM.leaf) 0 PM.leaf)) 0 (N8 (N8 (L8 0) 0 (L8 0)) 0 (N8 (N8 (L8 0) 0 PM.leaf) 0 PM.leaf)))) 78 (N8 (N8 (N8 (N8 (L8 40) 78 (L8 0)) 78 (N8 (N8 (L8 2) 40 PM.leaf) 40 PM.leaf)) 0 (N8 (N8 (L8 0) 0 (L8 0)) 0 (N8 (N8 (L8 0) 0 PM.leaf) 0 PM.leaf))) 0 (N8 (N8 (N8 (L8 0) 0 (L8 0)) 0 (N8 (N8 (L8 1) 0 PM.leaf) 0 PM.leaf)) 0 (N8 (N8 (L8 0) 0 (L8 0)) 0 (N8 (N8 (L8 0) 0 PM.leaf) 0 PM.leaf)))))) 70 (N8 (N8 (N8 (N8 (N8 (N8 (L8 3) 70 (PM.node (L8 0) (some (AV.lit (Value.bool false))) PM.leaf)) 70 (N8 (L8 3) 3 (L8 0))) 0 (N8 (N8 (L8 0) 0 (L8 0)) 0 (N8 (N8 (L8 0) 0 PM.leaf) 0 PM.leaf))) 0 (N8 (N8 (N8 (L8 0) 0 (L8 0)) 0 (N8 (N8 (L8 0) 0 PM.leaf) 0 PM.leaf)) 0 (N8 (N8 (L8 0) 0 (L8 0)) 0 (N8 (N8 (L8 0) 0 PM.leaf) 0 PM.leaf)))) 220 (N8 (N8 (N8 (N8 (L8 0) 220 (L8 0)) 220 (N8 (N8 (L8 0) 0 PM.leaf) 0 PM.leaf)) 0 (N8 (N8 (L8 0) 0 (L8 0)) 0 (N8 (N8 (L8 0) 0 PM.leaf) 0 PM.leaf))) 0 (N8 (N8 (N8 (L8 0) 0 (L8 0)) 0 (N8 (N8 (L8 0) 0 PM.leaf) 0 PM.leaf)) 0 (N8 (N8 (L8 0) 0 (L8 0)) 0 (N8 (N8 (L8 0) 0 PM.leaf) 0 PM.leaf))))) 10 (N8 (N8 (N8 (N8 (N8 (L8 0) 10 (L8 1)) 10 (N8 (N8 (L8 1) 0 PM.leaf) 0 PM.leaf)) 0 (N8 (N8 (L8 0) 0 (L8 129)) 0 (N8 (N8 (L8 174) 0 PM.leaf) 0 PM.leaf))) 0 (N8 (N8 (N8 (L8 0) 0 (L8 0)) 0 (N8 (N8 (L8 0) 0 PM.leaf) 0 PM.leaf)) 0 (N8 (N8 (L8 0) 0 (L8 0)) 0 (N8 (N8 (L8 0) 0 PM.leaf) 0 PM.leaf)))) 0 (N8 (N8 (N8 (N8 (L8 223) 0 (L8 0)) 0 (N8 (N8 (L8 0) 223 PM.leaf) 223 PM.leaf)) 0 (N8 (N8 (L8 0) 0 (L8 0)) 0 (N8 (N8 (L8 0) 0 PM.leaf) 0 PM.leaf))) 0 (N8 (N8 (N8 (L8 0) 0 (L8 0)) 0 (N8 (N8 (L8 0) 0 PM.leaf) 0 PM.leaf)) 0 (N8 (N8 (L8 0) 0 (L8 0)) 0 (N8 (N8 (L8 0) 0 PM.leaf) 0 PM.leaf))))))) 4 (N8 (N8 (N8 (N8 (N8 (N8 (N8 (L8 0) 4 (N8 (L8 0) 0 PM.leaf)) 4 (PM.node (L8 0) (some (AV.lit (Value.bool false))) (L8 0))) 0 (N8 (N8 (L8 0) 0 (L8 0)) 0 (N8 (N8 (L8 0) 0 PM.leaf) 0 PM.leaf))) 0 (N8 (N8 (N8 (L8 0) 0 (L8 0)) 0 (N8 (N8 (L8 0) 0 PM.leaf) 0 PM.leaf)) 0 (N8 (N8 (L8 0) 0 (L8 0)) 0 (N8 (N8 (L8 0) 0 PM.leaf) 0 PM.leaf)))) 0 (N8 (N8 (N8 (N8 (L8 0) 0 (L8 0)) 0 (N8 (N8 (L8 0) 0 PM.leaf) 0 PM.leaf)) 0 (N8 (N8 (L8 0) 0 (L8 0)) 0 (N8 (N8 (L8 50) 0 PM.leaf) 0 PM.leaf))) 0 (N8 (N8 (N8 (L8 0) 0 (L8 0)) 0 (N8 (N8 (L8 0) 0 PM.leaf) 0 PM.leaf)) 0 (N8 (N8 (L8 0) 0 (L8 0)) 0 (N8 (N8 (L8 0) 0 PM.leaf) 0 PM.leaf))))) 69 (N8 (N8 (N8 (N8 (N8 (L8 0) 69 (L8 1)) 69 (N8 (N8 (L8 0) 0 PM.leaf) 0 PM.leaf)) 0 (N8 (N8 (L8 0) 0 (L8 201)) 0 (N8 (N8 (L8 64) 0 PM.leaf) 0 PM.leaf))) 0 (N8 (N8 (N8 (L8 0) 0 (L8 0)) 0 (N8 (N8 (L8 0) 0 PM.leaf) 0 PM.leaf)) 0 (N8 (N8 (L8 0) 0 (L8 0)) 0 (N8 (N8 (L8 0) 0 PM.leaf) 0 PM.leaf)))) 80 (N8 (N8 (N8 (N8 (L8 132) 80 (L8 0)) 80 (N8 (N8 (L8 0) 132 PM.leaf) 132 PM.leaf)) 0 (N8 (N8 (L8 0) 0 (L8 0)) 0 (N8 (N8 (L8 0) 0 PM.leaf) 0 PM.leaf))) 0 (N8 (N8 (N8 (L8 0) 0 (L8 0)) 0 (N8 (N8 (L8 0) 0 PM.leaf) 0 PM.leaf)) 0 (N8 (N8 (L8 0) 0 (L8 0)) 0 (N8 (N8 (L8 0) 0 PM.leaf) 0 PM.leaf)))))) 85 (N8 (N8 (N8 (N8 (N8 (N8 (L8 0) 85 (N8 (L8 0) 1 PM.leaf)) 85 (N8 (L8 0) 0 PM.leaf)) 0 (N8 (N8 (L8 0) 0 (L8 30)) 0 (N8 (N8 (L8 0) 0 PM.leaf) 0 PM.leaf))) 0 (N8 (N8 (N8 (L8 0) 0 (L8 1)) 0 (N8 (N8 (L8 0) 0 PM.leaf) 0 PM.leaf)) 0 (N8 (N8 (L8 0) 0 (L8 0)) 0 (N8 (N8 (L8 0) 0 PM.leaf) 0 PM.leaf)))) 5 (N8 (N8 (N8 (N8 (L8 107) 5 (L8 1)) 5 (N8 (N8 (L8 0) 107 PM.leaf) 107 PM.leaf)) 0 (N8 (N8 (L8 0) 0 (L8 0)) 0 (N8 (N8 (L8 0) 0 PM.leaf) 0 PM.leaf))) 0 (N8 (N8 (N8 (L8 0) 0 (L8 1)) 0 (N8 (N8 (L8 0) 0 PM.leaf) 0 PM.leaf)) 0 (N8 (N8 (L8 0) 0 (L8 0)) 0 (N8 (N8 (L8 0) 0 PM.leaf) 0 PM.leaf))))) 0 (N8 (N8 (N8 (N8 (N8 (L8 0) 0 (L8 1)) 0 (N8 (N8 (L8 1) 0 PM.leaf) 0 PM.leaf)) 0 (N8 (N8 (L8 0) 0 (L8 97)) 0 (N8 (N8 (L8 244) 0 PM.leaf) 0 PM.leaf))) 0 (N8 (N8 (N8 (L8 0) 0 (L8 0)) 0 (N8 (N8 (L8 0) 0 PM.leaf) 0 PM.leaf)) 0 (N8 (N8 (L8 0) 0 (L8 0)) 0 (N8 (N8 (L8 0) 0 PM.leaf) 0 PM.leaf)))) 0 (N8 (N8 (N8 (N8 (L8 0) 0 (L8 0)) 0 (N8 (N8 (L8 0) 0 PM.leaf) 0 PM.leaf)) 0 (N8 (N8 (L8 0) 0 (L8 0)) 0 (N8 (N8 (L8 0) 0 PM.leaf) 0 PM.leaf))) 0 (N8 (N8 (N8 (L8 0) 0 (L8 0)) 0 (N8 (N8 (L8 0) 0 PM.leaf) 0 PM.leaf)) 0 (N8 (N8 (L8 0) 0 (L8 0)) 0 (N8 (N8 (L8 0) 0 PM.leaf) 0 PM.leaf))))))))))]
abbrev sSG5M : Nat := 27
def sSG5I : List Nat := [0, 1, 2, 3, 4, 5, 6, 7, 8, 9, 10, 11, 12, 13, 14, 15, 16, 17, 18, 19, 20, 21, 22, 23, 24, 25, 26]
end
end Go.Proofs.YtlocaplkfaepnaaGreat
end
section
/- A closed call, run: fusee/scan.Step. -/
namespace Go.Proofs.YtlocaplkfaepnaaGreat
open Go SE
set_option maxRecDepth 100000
noncomputable section
theorem sSG5_look : lookX tblR 36 = none := by kernel_rfl
theorem sSG5_run : runH Tryz.prog tblR tt 2000 40 36 [.ptr 0 0, i64 0, sSG4V] (hO sSG4M sSG4O) (told sSG5I) = .ok (vmap (atL sSG5I) sSG5V, sSG5O.map fun o => some (omap (atL sSG5I) o)) := by kernel_rfl
theorem sSG5_sp : Sp Tryz.prog 36 [.ptr 0 0, i64 0, sSG4V] (hO 1 [packed sSG4M sSG4O]) (fun v h => v = sSG5V ∧ h = hO 1 [packed sSG5M sSG5O]) :=
  stageP tt_ok mixed tblR_ok 2000 40 sSG4M sSG4O sSG5M sSG5I sSG5V sSG5O sSG5_look sSG5_run (by kernel_rfl) (by kernel_rfl) (by kernel_rfl)
end
end Go.Proofs.YtlocaplkfaepnaaGreat
end
section
/- What a closed call yields, and the memory behind it: fusee/scan.Step. -/
namespace Go.Proofs.YtlocaplkfaepnaaGreat
open Go SE
set_option maxRecDepth 100000
noncomputable section
def sSG6V : AV := (AV.agg [(i64 6), (AV.lit (Value.string (bs [98]))), (AV.lit (Value.string (bs []))), (AV.lit (Value.string (bs []))), (AV.lit (Value.slice none 0 0)), (i64 9), (u64 1), (AV.lit (Value.string (bs [97]))), (AV.lit (Value.bool true)), (i64 1), (AV.lit (Value.bool false)), (AV.lit (Value.string (bs []))), (u64 0), (u64 0), (i64 0), (i64 0), (i64 (-0 - 1)), (i64 0), (i64 0), (AV.lit (Value.slice none 0 0)), (i64 0), (AV.lit (Value.slice none 0 0)), (i64 0), (AV.lit (Value.bool false)), (AV.lit (Value.string (bs []))), (AV.lit (Value.slice none 0 0)), (AV.lit (Value.slice none 0 0)), (u64 0)])
def sSG6O : List AObj := [
(AObj.cells 94 (Cs.av [(AV.ptr 1 0), (AV.ptr 2 0), (AV.ptr 3 0), (AV.ptr 4 0), (AV.ptr 5 0), (AV.ptr 6 0), (AV.ptr 7 0), (AV.ptr 8 0), (u64 2), (u64 2), (AV.slU 9 0 2 7)])),
(AObj.cells 161 (Cs.av [(AV.ptr 10 0), (AV.lit (Value.int IntKind.u32 1)), (AV.lit (Value.int IntKind.i32 0)), (AV.lit (Value.int IntKind.u32 0))])),
(AObj.cells 172 (Cs.av [(AV.sl 11 0 1 1)])),
(AObj.cells 175 (Cs.av [(u64 1), (AV.sl 12 0 1 1)])),
(AObj.cells 215 (Cs.av ([(u64 1), (u64 0), (u64 0), (AV.sl 13 0 1 1), (AV.lit (Value.bool false)), (AV.lit (Value.bool false)), (AV.lit (Value.bool true)), (AV.lit (Value.bool true))] ++ List.replicate 512 (AV.lit (Value.bool false)) ++ [(AV.lit Value.nilFunc)]))),
(AObj.cells 120 (Cs.av [(AV.lit (Value.slice none 0 0))])),
(AObj.cells 181 (Cs.av [(AV.mp 14), (AV.mp 15), (AV.mp 16), (AV.mp 17), (AV.mp 18), (AV.mp 19), (AV.mp 20), (AV.mp 21)])),
(AObj.cells 218 (Cs.av [(AV.slU 22 0 2 5), (AV.slU 23 0 1 5), (AV.slU 24 0 1 5), (AV.slU 25 0 1 5)])),
(AObj.cells 193 (Cs.av [(AV.lit (Value.slice none 0 0)), (i64 0), (i64 0)])),
(AObj.room 117 (Cs.av [(i64 1), (AV.lit (Value.string (bs [97]))), (AV.lit (Value.string (bs [49]))), (u64 1), (u64 1), (u64 1), (i64 1), (i64 1), (AV.lit (Value.string (bs [98]))), (AV.lit (Value.string (bs [50]))), (u64 2), (u64 2), (u64 1), (i64 2)])),
(AObj.cells 142 (Cs.av [(AV.sl 26 0 10 10), (i64 6), (i64 2), (i64 1), (i64 0), (i64 0)])),
(AObj.cells 99 (Cs.tr 10 [(i64 0), (AV.lit (Value.bool false)), (AV.lit (Value.bool false)), (AV.lit (Value.bool false)), (AV.lit (Value.bool false)), (AV.lit (Value.bool false)), (AV.lit (Value.bool false)), (AV.lit (Value.bool false)), (AV.lit (Value.bool false)), (i64 0)] (PM.node (PM.node PM.leaf (some (AV.lit (Value.bool true))) (PM.node (PM.node PM.leaf (some (i64 2)) PM.leaf) none PM.leaf)) (some (i64 0)) (PM.node PM.leaf (some (AV.lit (Value.bool true))) PM.leaf)))),
(AObj.cells 92 (Cs.tr 1 [(u64 0)] (PM.node PM.leaf (some (u64 1)) PM.leaf))),
(AObj.cells 3 (Cs.tr 1 [(i64 0)] (PM.node PM.leaf (some (i64 2)) PM.leaf))),
(AObj.map [] 0),
(AObj.map [((AV.lit (Value.string (bs [98]))), ((AV.agg [(AV.lit (Value.string (bs [98]))), (u64 2), (u64 2), (i64 3), (i64 0)]), 0))] 1),
(AObj.map [] 0),
(AObj.map [((AV.lit (Value.string (bs [97]))), ((AV.agg [(AV.lit (Value.string (bs [97]))), (u64 1), (u64 1), (i64 2), (i64 0)]), 0))] 1),
(AObj.map [] 0),
(AObj.map [] 0),
(AObj.map [] 0),
(AObj.map [] 0),
(AObj.room 66 (Cs.av [(AV.lit (Value.string (bs [97]))), (u64 1), (u64 1), (i64 2), (i64 0), (AV.lit (Value.string (bs [98]))), (u64 2), (u64 2), (i64 3), (i64 0)])),
(AObj.room 66 (Cs.av [(AV.lit (Value.string (bs [97]))), (u64 1), (u64 1), (i64 2), (i64 0)])),
(AObj.room 66 (Cs.av [(AV.lit (Value.string (bs [97]))), (u64 1), (u64 1), (i64 2), (i64 0)])),
(AObj.room 66 (Cs.av [(AV.lit (Value.string (bs [97]))), (u64 1), (u64 1), (i64 2), (i64 0)])),
(AObj.cells 256 (Cs.tr 1930 (List.replicate 192 (AV.lit (v8 0)) ++ [(AV.lit (Value.bool false))]) (N8 (N8 (N8 (N8 (N8 (N8 (N8 (N8 (L8 0) 0 (N8 (L8 0) 0 PM.leaf)) 0 (N8 (L8 0) 0 (L8 0))) 0 (N8 (N8 (L8 0) 0 (L8 0)) 0 (N8 (N8 (L8 0) 0 PM.leaf) 0 PM.leaf))) 0 (N8 (N8 (N8 (L8 0) 0 (L8 0)) 0 (N8 (N8 (L8 0) 0 PM.leaf) 0 PM.leaf)) 0 (N8 (N8 (L8 0) 0 (L8 0)) 0 (N8 (N8 (L8 0) 0 PM.leaf) 0 PM.leaf)))) 0 (N8 (N8 (N8 (N8 (L8 0) 0 (L8 0)) 0 (N8 (N8 (L8 1) 0 PM.leaf) 0 PM.leaf)) 0 (N8 (N8 (L8 0) 0 (L8 49)) 0 (N8 (N8 (L8 98) 0 PM.leaf) 0 PM.leaf))) 0 (N8 (N8 (N8 (L8 0) 0 (L8 0)) 0 (N8 (N8 (L8 0) 0 PM.leaf) 0 PM.leaf)) 0 (N8 (N8 (L8 0) 0 (L8 0)) 0 (N8 (N8 (L8 0) 0 PM.leaf) 0 PM.leaf))))) 83 (N8 (N8 (N8 (N8 (N8 (L8 0) 83 (L8 0)) 83 (N8 (N8 (L8 1) 0 PM.leaf) 0 PM.leaf)) 0 (N8 (N8 (L8 0) 0 (L8 38)) 0 (N8 (N8 (L8 75) 0 PM.leaf) 0 PM.leaf))) 0 (N8 (N8 (N8 (L8 0) 0 (L8 0)) 0 (N8 (N8 (L8 2) 0 PM.leaf) 0 PM.leaf)) 0 (N8 (N8 (L8 0) 0 (L8 0)) 0 (N8 (N8 (L8 0) 0 PM.leaf) 0 PM.leaf)))) 78 (N8 (N8 (N8 (N8 (L8 40) 78 (L8 0)) 78 (N8 (N8 (L8 2) 40 PM.leaf) 40 PM.leaf)) 0 (N8 (N8 (L8 0) 0 (L8 0)) 0 (N8 (N8 (L8 0) 0 PM.leaf) 0 PM.leaf))) 0 (N8 (N8 (N8 (L8 0) 0 (L8 0)) 0 (N8 (N8 (L8 1) 0 PM.leaf) 0 PM.leaf)) 0 (N8 (N8 (L8 0) 0 (L8 0)) 0 (N8 (N8 (L8 0) 0 PM.leaf) 0 PM.leaf)))))) 70 (N8 (N8 (N8 (N8 (N8 (N8 (L8 3) 70 (PM.node (L8 0) (some (AV.lit (Value.bool false))) PM.leaf)) 70 (N8 (L8 3) 3 (L8 0))) 0 (N8 (N8 (L8 0) 0 (L8 0)) 0 (N8 (N8 (L8 0) 0 PM.leaf) 0 PM.leaf))) 0 (N8 (N8 (N8 (L8 0) 0 (L8 0)) 0 (N8 (N8 (L8 0) 0 PM.leaf) 0 PM.leaf)) 0 (N8 (N8 (L8 0) 0 (L8 0)) 0 (N8 (N8 (L8 0) 0 PM.leaf) 0 PM.leaf)))) 220 (N8 (N8 (N8 (N8 (L8 0) 220 (L8 0)) 220 (N8 (N8 (L8 0) 0 PM.leaf) 0 PM.leaf)) 0 (N8 (N8 (L8 0) 0 (L8 0)) 0 (N8 (N8 (L8 0) 0 PM.leaf) 0 PM.leaf))) 0 (N8 (N8 (N8 (L8 0) 0 (L8 0)) 0 (N8 (N8 (L8 0) 0 PM.leaf) 0 PM.leaf)) 0 (N8 (N8 (L8 0) 0 (L8 0)) 0 (N8 (N8 (L8 0) 0 PM.leaf) 0 PM.leaf))))) 10 (N8 (N8 (N8 (N8 (N8 (L8 0) 10 (L8 1)) 10 (N8 (N8 (L8 1) 0 PM.leaf) 0 PM.leaf)) 0 (N8 (N8 (L8 0) 0 (L8 129)) 0 (N8 (N8 (L8 174) 0 PM.leaf) 0 PM.leaf))) 0 (N8 (N8 (N8 (L8 0) 0 (L8 0)) 0 (N8 (N8 (L8 0) 0 PM.leaf) 0 PM.leaf)) 0 (N8 (N8 (L8 0) 0 (L8 0)) 0 (N8 (N8 (L8 0) 0 PM.leaf) 0 PM.leaf)))) 0 (N8 (N8 (N8 (N8 (L8 223) 0 (L8 0)) 0 (N8 (N8 (L8 0) 223 PM.leaf) 223 PM.leaf)) 0 (N8 (N8 (L8 0) 0 (L8 0)) 0 (N8 (N8 (L8 0) 0 PM.leaf) 0 PM.leaf))) 0 (N8 (N8 (N8 (L8 0) 0 (L8 0)) 0 (N8 (N8 (L8 0) 0 PM.leaf) 0 PM.leaf)) 0 (N8 (N8 (L8 0) 0 (L8 0)) 0 (N8 (N8 (L8 0) 0 PM.leaf) 0 PM.leaf))))))) 4 (N8 (N8 (N8 (N8 (N8 (N8 (N8 (L8 0) 4 (N8 (L8 0) 0 PM.leaf)) 4 (PM.node (L8 0) (some (AV.lit (Value.bool false))) (L8 0))) 0 (N8 (N8 (L8 0) 0 (L8 0)) 0 (N8 (N8 (L8 0) 0 PM.leaf) 0 PM.leaf))) 0 (N8 (N8 (N8 (L8 0) 0 (L8 0)) 0 (N8 (N8 (L8 0) 0 PM.leaf) 0 PM.leaf)) 0 (N8 (N8 (L8 0) 0 (L8 0)) 0 (N8 (N8 (L8 0) 0 PM.leaf) 0 PM.leaf)))) 0 (N8 (N8 (N8 (N8 (L8 0) 0 (L8 0)) 0 (N8 (N8 (L8 0) 0 PM.leaf) 0 PM.leaf)) 0 (N8 (N8 (L8 0) 0 (L8 0)) 0 (N8 (N8 (L8 50) 0 PM.leaf) 0 PM.leaf))) 0 (N8 (N8 (N8 (L8 0) 0 (L8 0)) 0 (N8 (N8 (L8 0) 0 PM.leaf) 0 PM.leaf)) 0 (N8 (N8 (L8 0) 0 (L8 0)) 0 (N8 (N8 (L8 0) 0 PM.leaf) 0 PM.leaf))))) 69 (N8 (N8 (N8 (N8 (N8 (L8 0) 69 (L8 1)) 69 (N8 (N8 (L8 0) 0 PM.leaf) 0 PM.leaf)) 0 (N8 (N8 (L8 0) 0 (L8 201)) 0 (N8 (N8 (L8 64) 0 PM.leaf) 0 PM.leaf))) 0 (N8 (N8 (N8 (L8 0) 0 (L8 0)) 0 (N8 (N8 (L8 0) 0 PM.leaf) 0 PM.leaf)) 0 (N8 (N8 (L8 0) 0 (L8 0)) 0 (N8 (N8 (L8 0) 0 PM.leaf) 0 PM.leaf)))) 80 (N8 (N8 (N8 (N8 (L8 132) 80 (L8 0)) 80 (N8 (N8 (L8 0) 132 PM.leaf) 132 PM.leaf)) 0 (N8 (N8 (L8 0) 0 (L8 0)) 0 (N8 (N8 (L8 0) 0 PM.leaf) 0 PM.leaf))) 0 (N8 (N8 (N8 (L8 0) 0 (L8 0)) 0 (N8 (N8 (L8 0) 0 PM.leaf) 0 PM.leaf)) 0 (N8 (N8 (L8 0) 0 (L8 0)) 0 (N8 (N8 (L8 0) 0 PM.leaf) 0 PM.leaf)))))) 85 (N8 (N8 (N8 (N8 (N8 (N8 (L8 0) 85 (N8 (L8 0) 1 PM.leaf)) 85 (N8 (L8 0) 0 PM.leaf)) 0 (N8 (N8 (L8 0) 0 (L8 30)) 0 (N8 (N8 (L8 0) 0 PM.leaf) 0 PM.leaf))) 0 (N8 (N8 (N8 (L8 0) 0 (L8 1)) 0 (N8 (N8 (L8 0) 0 PM.leaf) 0 PM.leaf)) 0 (N8 (N8 (L8 0) 0 (L8 0)) 0 (N8 (N8 (L8 0) 0 PM.leaf) 0 PM.leaf)))) 5 (N8 (N8 (N8 (N8 (L8 107) 5 (L8 1)) 5 (N8 (N8 (L8 0) 107 PM.leaf) 107 PM.leaf)) 0 (N8 (N8 (L8 0) 0 (L8 0)) 0 (N8 (N8 (L8 0) 0 PM.leaf) 0 PM.leaf))) 0 (N8 (N8 (N8 (L8 0) 0 (L8 1)) 0 (N8 (N8 (L8 0) 0 PM.leaf) 0 PM.leaf)) 0 (N8 (N8 (L8 0) 0 (L8 0)) 0 (N8 (N8 (L8 0) 0 PM.leaf) 0 PM.leaf))))) 0 (N8 (N8 (N8 (N8 (N8 (L8 0) 0 (L8 1)) 0 (N8 (N8 (L8 1) 0 PM.leaf) 0 PM.leaf)) 0 (N8 (N8 (L8 0) 0 (L8 97)) 0 (N8 (N8 (L8 244) 0 PM.leaf) 0 PM.leaf))) 0 (N8 (N8 (N8 (L8 0) 0 (L8 0)) 0 (N8 (N8 (L8 0) 0 PM.leaf) 0 PM.leaf)) 0 (N8 (N8 (L8 0) 0 (L8 0)) 0 (N8 (N8 (L8 0) 0 PM.leaf) 0 PM.leaf)))) 0 (N8 (N8 (N8 (N8 (L8 0) 0 (L8 0)) 0 (N8 (N8 (L8 0) 0 PM.leaf) 0 PM.leaf)) 0 (N8 (N8 (L8 0) 0 (L8 0)) 0 (N8 (N8 (L8 0) 0 PM.leaf) 0 PM.leaf))) 0 (N8 (N8 (N8 (L8 0) 0 (L8 0)) 0 (N8 (N8 (L8 0) 0 PM.leaf) 0 PM.leaf)) 0 (N8 (N8 (L8 0) 0 (L8 0)) 0 (N8 (N8 (L8 0) 0 PM.leaf) 0 PM.leaf))))))))))]
abbrev sSG6M : Nat := 27
def sSG6I : List Nat := [0, 1, 2, 3, 4, 5, 6, 7, 8, 9, 10, 11, 12, 13, 14, 15, 16, 17, 18, 19, 20, 21, 22, 23, 24, 25, 26]
end
end Go.Proofs.YtlocaplkfaepnaaGreat
end
section
/- A closed call, run: fusee/scan.Step. -/
namespace Go.Proofs.YtlocaplkfaepnaaGreat
open Go SE
set_option maxRecDepth 100000
noncomputable section
theorem sSG6_look : lookX tblR 36 = none := by kernel_rfl
theorem sSG6_run : runH Tryz.prog tblR tt 2000 40 36 [.ptr 0 0, i64 0, sSG5V] (hO sSG5M sSG5O) (told sSG6I) = .ok (vmap (atL sSG6I) sSG6V, sSG6O.map fun o => some (omap (atL sSG6I) o)) := by kernel_rfl
theorem sSG6_sp : Sp Tryz.prog 36 [.ptr 0 0, i64 0, sSG5V] (hO 1 [packed sSG5M sSG5O]) (fun v h => v = sSG6V ∧ h = hO 1 [packed sSG6M sSG6O]) :=
  stageP tt_ok mixed tblR_ok 2000 40 sSG5M sSG5O sSG6M sSG6I sSG6V sSG6O sSG6_look sSG6_run (by kernel_rfl) (by kernel_rfl) (by kernel_rfl)
end
end Go.Proofs.YtlocaplkfaepnaaGreat
end
section
/- What a closed call yields, and the memory behind it: fusee/scan.Step. -/
namespace Go.Proofs.YtlocaplkfaepnaaGreat
open Go SE
set_option maxRecDepth 100000
noncomputable section
def sSG7V : AV := (AV.agg [(i64 6), (AV.lit (Value.string (bs [98]))), (AV.lit (Value.string (bs []))), (AV.lit (Value.string (bs []))), (AV.lit (Value.slice none 0 0)), (i64 2), (u64 1), (AV.lit (Value.string (bs [98]))), (AV.lit (Value.bool true)), (i64 1), (AV.lit (Value.bool true)), (AV.lit (Value.string (bs [98]))), (u64 2), (u64 2), (i64 3), (i64 0), (i64 (-0 - 1)), (i64 0), (i64 0), (AV.lit (Value.slice none 0 0)), (i64 0), (AV.lit (Value.slice none 0 0)), (i64 0), (AV.lit (Value.bool false)), (AV.lit (Value.string (bs []))), (AV.lit (Value.slice none 0 0)), (AV.lit (Value.slice none 0 0)), (u64 0)])
def sSG7O : List AObj := [
(AObj.cells 94 (Cs.av [(AV.ptr 1 0), (AV.ptr 2 0), (AV.ptr 3 0), (AV.ptr 4 0), (AV.ptr 5 0), (AV.ptr 6 0), (AV.ptr 7 0), (AV.ptr 8 0), (u64 2), (u64 2), (AV.slU 9 0 2 7)])),
(AObj.cells 161 (Cs.av [(AV.ptr 10 0), (AV.lit (Value.int IntKind.u32 1)), (AV.lit (Value.int IntKind.i32 0)), (AV.lit (Value.int IntKind.u32 0))])),
(AObj.cells 172 (Cs.av [(AV.sl 11 0 1 1)])),
(AObj.cells 175 (Cs.av [(u64 1), (AV.sl 12 0 1 1)])),
(AObj.cells 215 (Cs.av ([(u64 1), (u64 0), (u64 0), (AV.sl 13 0 1 1), (AV.lit (Value.bool false)), (AV.lit (Value.bool false)), (AV.lit (Value.bool true)), (AV.lit (Value.bool true))] ++ List.replicate 512 (AV.lit (Value.bool false)) ++ [(AV.lit Value.nilFunc)]))),
(AObj.cells 120 (Cs.av [(AV.lit (Value.slice none 0 0))])),
(AObj.cells 181 (Cs.av [(AV.mp 14), (AV.mp 15), (AV.mp 16), (AV.mp 17), (AV.mp 18), (AV.mp 19), (AV.mp 20), (AV.mp 21)])),
(AObj.cells 218 (Cs.av [(AV.slU 22 0 2 5), (AV.slU 23 0 1 5), (AV.slU 24 0 1 5), (AV.slU 25 0 1 5)])),
(AObj.cells 193 (Cs.av [(AV.lit (Value.slice none 0 0)), (i64 0), (i64 0)])),
(AObj.room 117 (Cs.av [(i64 1), (AV.lit (Value.string (bs [97]))), (AV.lit (Value.string (bs [49]))), (u64 1), (u64 1), (u64 1), (i64 1), (i64 1), (AV.lit (Value.string (bs [98]))), (AV.lit (Value.string (bs [50]))), (u64 2), (u64 2), (u64 1), (i64 2)])),
(AObj.cells 142 (Cs.av [(AV.sl 26 0 10 10), (i64 6), (i64 2), (i64 1), (i64 0), (i64 0)])),
(AObj.cells 99 (Cs.tr 10 [(i64 0), (AV.lit (Value.bool false)), (AV.lit (Value.bool false)), (AV.lit (Value.bool false)), (AV.lit (Value.bool false)), (AV.lit (Value.bool false)), (AV.lit (Value.bool false)), (AV.lit (Value.bool false)), (AV.lit (Value.bool false)), (i64 0)] (PM.node (PM.node PM.leaf (some (AV.lit (Value.bool true))) (PM.node (PM.node PM.leaf (some (i64 2)) PM.leaf) none PM.leaf)) (some (i64 0)) (PM.node PM.leaf (some (AV.lit (Value.bool true))) PM.leaf)))),
(AObj.cells 92 (Cs.tr 1 [(u64 0)] (PM.node PM.leaf (some (u64 1)) PM.leaf))),
(AObj.cells 3 (Cs.tr 1 [(i64 0)] (PM.node PM.leaf (some (i64 2)) PM.leaf))),
(AObj.map [] 0),
(AObj.map [((AV.lit (Value.string (bs [98]))), ((AV.agg [(AV.lit (Value.string (bs [98]))), (u64 2), (u64 2), (i64 3), (i64 0)]), 0))] 1),
(AObj.map [] 0),
(AObj.map [((AV.lit (Value.string (bs [97]))), ((AV.agg [(AV.lit (Value.string (bs [97]))), (u64 1), (u64 1), (i64 2), (i64 0)]), 0))] 1),
(AObj.map [] 0),
(AObj.map [] 0),
(AObj.map [] 0),
(AObj.map [] 0),
(AObj.room 66 (Cs.av [(AV.lit (Value.string (bs [97]))), (u64 1), (u64 1), (i64 2), (i64 0), (AV.lit (Value.string (bs [98]))), (u64 2), (u64 2), (i64 3), (i64 0)])),
(AObj.room 66 (Cs.av [(AV.lit (Value.string (bs [97]))), (u64 1), (u64 1), (i64 2), (i64 0)])),
(AObj.room 66 (Cs.av [(AV.lit (Value.string (bs [97]))), (u64 1), (u64 1), (i64 2), (i64 0)])),
(AObj.room 66 (Cs.av [(AV.lit (Value.string (bs [97]))), (u64 1), (u64 1), (i64 2), (i64 0)])),
(AObj.cells 256 (Cs.tr 1930 (List.replicate 192 (AV.lit (v8 0)) ++ [(AV.lit (Value.bool false))]) (N8 (N8 (N8 (N8 (N8 (N8 (N8 (N8 (L8 0) 0 (N8 (L8 0) 0 PM.leaf)) 0 (N8 (L8 0) 0 (L8 0))) 0 (N8 (N8 (L8 0) 0 (L8 0)) 0 (N8 (N8 (L8 0) 0 PM.leaf) 0 PM.leaf))) 0 (N8 (N8 (N8 (L8 0) 0 (L8 0)) 0 (N8 (N8 (L8 0) 0 PM.leaf) 0 PM.leaf)) 0 (N8 (N8 (L8 0) 0 (L8 0)) 0 (N8 (N8 (L8 0) 0 PM.leaf) 0 PM.leaf)))) 0 (N8 (N8 (N8 (N8 (L8 0) 0 (L8 0)) 0 (N8 (N8 (L8 1) 0 PM.leaf) 0 PM.leaf)) 0 (N8 (N8 (L8 0) 0 (L8 49)) 0 (N8 (N8 (L8 98) 0 PM.leaf) 0 PM.leaf))) 0 (N8 (N8 (N8 (L8 0) 0 (L8 0)) 0 (N8 (N8 (L8 0) 0 PM.leaf) 0 PM.leaf)) 0 (N8 (N8 (L8 0) 0 (L8 0)) 0 (N8 (N8 (L8 0) 0 PM.leaf) 0 PM.leaf))))) 83 (N8 (N8 (N8 (N8 (N8 (L8 0) 83 (L8 0)) 83 (N8 (N8 (L8 1) 0 PM.leaf) 0 PM.leaf)) 0 (N8 (N8 (L8 0) 0 (L8 38)) 0 (N8 (N8 (L8 75) 0 PM.leaf) 0 PM.leaf))) 0 (N8 (N8 (N8 (L8 0) 0 (L8 0)) 0 (N8 (N8 (L8 2) 0 PM.leaf) 0 PM.leaf)) 0 (N8 (N8 (L8 0) 0 (L8 0)) 0 (N8 (N8 (L8 0) 0 PM.leaf) 0 PM.leaf)))) 78 (N8 (N8 (N8 (N8 (L8 40) 78 (L8 0)) 78 (N8 (N8 (L8 2) 40 PM.leaf) 40 PM.leaf)) 0 (N8 (N8 (L8 0) 0 (L8 0)) 0 (N8 (N8 (L8 0) 0 PM.leaf) 0 PM.leaf))) 0 (N8 (N8 (N8 (L8 0) 0 (L8 0)) 0 (N8 (N8 (L8 1) 0 PM.leaf) 0 PM.leaf)) 0 (N8 (N8 (L8 0) 0 (L8 0)) 0 (N8 (N8 (L8 0) 0 PM.leaf) 0 PM.leaf)))))) 70 (N8 (N8 (N8 (N8 (N8 (N8 (L8 3) 70 (PM.node (L8 0) (some (AV.lit (Value.bool false))) PM.leaf)) 70 (N8 (L8 3) 3 (L8 0))) 0 (N8 (N8 (L8 0) 0 (L8 0)) 0 (N8 (N8 (L8 0) 0 PM.leaf) 0 PM.leaf))) 0 (N8 (N8 (N8 (L8 0) 0 (L8 0)) 0 (N8 (N8 (L8 0) 0 PM.leaf) 0 PM.leaf)) 0 (N8 (N8 (L8 0) 0 (L8 0)) 0 (N8 (N8 (L8 0) 0 PM.leaf) 0 PM.leaf)))) 220 (N8 (N8 (N8 (N8 (L8 0) 220 (L8 0)) 220 (N8 (N8 (L8 0) 0 PM.leaf) 0 PM.leaf)) 0 (N8 (N8 (L8 0) 0 (L8 0)) 0 (N8 (N8 (L8 0) 0 PM.leaf) 0 PM.leaf))) 0 (N8 (N8 (N8 (L8 0) 0 (L8 0)) 0 (N8 (N8 (L8 0) 0 PM.leaf) 0 PM.leaf)) 0 (N8 (N8 (L8 0) 0 (L8 0)) 0 (N8 (N8 (L8 0) 0 PM.leaf) 0 PM.leaf))))) 10 (N8 (N8 (N8 (N8 (N8 (L8 0) 10 (L8 1)) 10 (N8 (N8 (L8 1) 0 PM.leaf) 0 PM.leaf)) 0 (N8 (N8 (L8 0) 0 (L8 129)) 0 (N8 (N8 (L8 174) 0 PM.leaf) 0 PM.leaf))) 0 (N8 (N8 (N8 (L8 0) 0 (L8 0)) 0 (N8 (N8 (L8 0) 0 PM.leaf) 0 PM.leaf)) 0 (N8 (N8 (L8 0) 0 (L8 0)) 0 (N8 (N8 (L8 0) 0 PM.leaf) 0 PM.leaf)))) 0 (N8 (N8 (N8 (N8 (L8 223) 0 (L8 0)) 0 (N8 (N8 (L8 0) 223 PM.leaf) 223 PM.leaf)) 0 (N8 (N8 (L8 0) 0 (L8 0)) 0 (N8 (N8 (L8 0) 0 PM.leaf) 0 PM.leaf))) 0 (N8 (N8 (N8 (L8 0) 0 (L8 0)) 0 (N8 (N8 (L8 0) 0 PM.leaf) 0 PM.leaf)) 0 (N8 (N8 (L8 0) 0 (L8 0)) 0 (N8 (N8 (L8 0) 0 PM.leaf) 0 PM.leaf))))))) 4 (N8 (N8 (N8 (N8 (N8 (N8 (N8 (L8 0) 4 (N8 (L8 0) 0 PM.leaf)) 4 (PM.node (L8 0) (some (AV.lit (Value.bool false))) (L8 0))) 0 (N8 (N8 (L8 0) 0 (L8 0)) 0 (N8 (N8 (L8 0) 0 PM.leaf) 0 PM.leaf))) 0 (N8 (N8 (N8 (L8 0) 0 (L8 0)) 0 (N8 (N8 (L8 0) 0 PM.leaf) 0 PM.leaf)) 0 (N8 (N8 (L8 0) 0 (L8 0)) 0 (N8 (N8 (L8 0) 0 PM.leaf) 0 PM.leaf)))) 0 (N8 (N8 (N8 (N8 (L8 0) 0 (L8 0)) 0 (N8 (N8 (L8 0) 0 PM.leaf) 0 PM.leaf)) 0 (N8 (N8 (L8 0) 0 (L8 0)) 0 (N8 (N8 (L8 50) 0 PM.leaf) 0 PM.leaf))) 0 (N8 (N8 (N8 (L8 0) 0 (L8 0)) 0 (N8 (N8 (L8 0) 0 PM.leaf) 0 PM.leaf)) 0 (N8 (N8 (L8 0) 0 (L8 0)) 0 (N8 (N8 (L8 0) 0 PM.leaf) 0 PM.leaf))))) 69 (N8 (N8 (N8 (N8 (N8 (L8 0) 69 (L8 1)) 69 (N8 (N8 (L8 0) 0 PM.leaf) 0 PM.leaf)) 0 (N8 (N8 (L8 0) 0 (L8 201)) 0 (N8 (N8 (L8 64) 0 PM.leaf) 0 PM.leaf))) 0 (N8 (N8 (N8 (L8 0) 0 (L8 0)) 0 (N8 (N8 (L8 0) 0 PM.leaf) 0 PM.leaf)) 0 (N8 (N8 (L8 0) 0 (L8 0)) 0 (N8 (N8 (L8 0) 0 PM.leaf) 0 PM.leaf)))) 80 (N8 (N8 (N8 (N8 (L8 132) 80 (L8 0)) 80 (N8 (N8 (L8 0) 132 PM.leaf) 132 PM.leaf)) 0 (N8 (N8 (L8 0) 0 (L8 0)) 0 (N8 (N8 (L8 0) 0 PM.leaf) 0 PM.leaf))) 0 (N8 (N8 (N8 (L8 0) 0 (L8 0)) 0 (N8 (N8 (L8 0) 0 PM.leaf) 0 PM.leaf)) 0 (N8 (N8 (L8 0) 0 (L8 0)) 0 (N8 (N8 (L8 0) 0 PM.leaf) 0 PM.leaf)))))) 85 (N8 (N8 (N8 (N8 (N8 (N8 (L8 0) 85 (N8 (L8 0) 1 PM.leaf)) 85 (N8 (L8 0) 0 PM.leaf)) 0 (N8 (N8 (L8 0) 0 (L8 30)) 0 (N8 (N8 (L8 0) 0 PM.leaf) 0 PM.leaf))) 0 (N8 (N8 (N8 (L8 0) 0 (L8 1)) 0 (N8 (N8 (L8 0) 0 PM.leaf) 0 PM.leaf)) 0 (N8 (N8 (L8 0) 0 (L8 0)) 0 (N8 (N8 (L8 0) 0 PM.leaf) 0 PM.leaf)))) 5 (N8 (N8 (N8 (N8 (L8 107) 5 (L8 1)) 5 (N8 (N8 (L8 0) 107 PM.leaf) 107 PM.leaf)) 0 (N8 (N8 (L8 0) 0 (L8 0)) 0 (N8 (N8 (L8 0) 0 PM.leaf) 0 PM.leaf))) 0 (N8 (N8 (N8 (L8 0) 0 (L8 1)) 0 (N8 (N8 (L8 0) 0 PM.leaf) 0 PM.leaf)) 0 (N8 (N8 (L8 0) 0 (L8 0)) 0 (N8 (N8 (L8 0) 0 PM.leaf) 0 PM.leaf))))) 0 (N8 (N8 (N8 (N8 (N8 (L8 0) 0 (L8 1)) 0 (N8 (N8 (L8 1) 0 PM.leaf) 0 PM.leaf)) 0 (N8 (N8 (L8 0) 0 (L8 97)) 0 (N8 (N8 (L8 244) 0 PM.leaf) 0 PM.leaf))) 0 (N8 (N8 (N8 (L8 0) 0 (L8 0)) 0 (N8 (N8 (L8 0) 0 PM.leaf) 0 PM.leaf)) 0 (N8 (N8 (L8 0) 0 (L8 0)) 0 (N8 (N8 (L8 0) 0 PM.leaf) 0 PM.leaf)))) 0 (N8 (N8 (N8 (N8 (L8 0) 0 (L8 0)) 0 (N8 (N8 (L8 0) 0 PM.leaf) 0 PM.leaf)) 0 (N8 (N8 (L8 0) 0 (L8 0)) 0 (N8 (N8 (L8 0) 0 PM.leaf) 0 PM.leaf))) 0 (N8 (N8 (N8 (L8 0) 0 (L8 0)) 0 (N8 (N8 (L8 0) 0 PM.leaf) 0 PM.leaf)) 0 (N8 (N8 (L8 0) 0 (L8 0)) 0 (N8 (N8 (L8 0) 0 PM.leaf) 0 PM.leaf))))))))))]
abbrev sSG7M : Nat := 27
def sSG7I : List Nat := [0, 1, 2, 3, 4, 5, 6, 7, 8, 9, 10, 11, 12, 13, 14, 15, 16, 17, 18, 19, 20, 21, 22, 23, 24, 25, 26]
end
end Go.Proofs.YtlocaplkfaepnaaGreat
end
section
/- A closed call, run: fusee/scan.Step. -/
namespace Go.Proofs.YtlocaplkfaepnaaGreat
open Go SE
set_option maxRecDepth 100000
noncomputable section
theorem sSG7_look : lookX tblR 36 = none := by kernel_rfl
theorem sSG7_run : runH Tryz.prog tblR tt 2000 40 36 [.ptr 0 0, i64 0, sSG6V] (hO sSG6M sSG6O) (told sSG7I) = .ok (vmap (atL sSG7I) sSG7V, sSG7O.map fun o => some (omap (atL sSG7I) o)) := by kernel_rfl
theorem sSG7_sp : Sp Tryz.prog 36 [.ptr 0 0, i64 0, sSG6V] (hO 1 [packed sSG6M sSG6O]) (fun v h => v = sSG7V ∧ h = hO 1 [packed sSG7M sSG7O]) :=
  stageP tt_ok mixed tblR_ok 2000 40 sSG6M sSG6O sSG7M sSG7I sSG7V sSG7O sSG7_look sSG7_run (by kernel_rfl) (by kernel_rfl) (by kernel_rfl)
end
end Go.Proofs.YtlocaplkfaepnaaGreat
end
section
/- What a closed call yields, and the memory behind it: fusee/scan.Step. -/
namespace Go.Proofs.YtlocaplkfaepnaaGreat
open Go SE
set_option maxRecDepth 100000
noncomputable section
def sSG8V : AV := (AV.agg [(i64 6), (AV.lit (Value.string (bs [98]))), (AV.lit (Value.string (bs []))), (AV.lit (Value.string (bs []))), (AV.lit (Value.slice none 0 0)), (i64 9), (u64 1), (AV.lit (Value.string (bs [98]))), (AV.lit (Value.bool true)), (i64 1), (AV.lit (Value.bool true)), (AV.lit (Value.string (bs [98]))), (u64 2), (u64 2), (i64 3), (i64 0), (i64 (-0 - 1)), (i64 0), (i64 1), (AV.lit (Value.slice none 0 0)), (i64 0), (AV.lit (Value.slice none 0 0)), (i64 0), (AV.lit (Value.bool false)), (AV.lit (Value.string (bs []))), (AV.sl 1 0 1 1), (AV.lit (Value.slice none 0 0)), (u64 0)])
def sSG8O : List AObj := [
(AObj.cells 94 (Cs.av [(AV.ptr 1 0), (AV.ptr 2 0), (AV.ptr 3 0), (AV.ptr 4 0), (AV.ptr 5 0), (AV.ptr 6 0), (AV.ptr 7 0), (AV.ptr 8 0), (u64 2), (u64 2), (AV.slU 9 0 2 7)])),
(AObj.cells 161 (Cs.av [(AV.ptr 10 0), (AV.lit (Value.int IntKind.u32 1)), (AV.lit (Value.int IntKind.i32 0)), (AV.lit (Value.int IntKind.u32 0))])),
(AObj.cells 172 (Cs.av [(AV.sl 11 0 1 1)])),
(AObj.cells 175 (Cs.av [(u64 1), (AV.sl 12 0 1 1)])),
(AObj.cells 215 (Cs.av ([(u64 1), (u64 0), (u64 0), (AV.sl 13 0 1 1), (AV.lit (Value.bool false)), (AV.lit (Value.bool false)), (AV.lit (Value.bool true)), (AV.lit (Value.bool true))] ++ List.replicate 512 (AV.lit (Value.bool false)) ++ [(AV.lit Value.nilFunc)]))),
(AObj.cells 120 (Cs.av [(AV.lit (Value.slice none 0 0))])),
(AObj.cells 181 (Cs.av [(AV.mp 14), (AV.mp 15), (AV.mp 16), (AV.mp 17), (AV.mp 18), (AV.mp 19), (AV.mp 20), (AV.mp 21)])),
(AObj.cells 218 (Cs.av [(AV.slU 22 0 2 5), (AV.slU 23 0 1 5), (AV.slU 24 0 1 5), (AV.slU 25 0 1 5)])),
(AObj.cells 193 (Cs.av [(AV.lit (Value.slice none 0 0)), (i64 0), (i64 0)])),
(AObj.room 117 (Cs.av [(i64 1), (AV.lit (Value.string (bs [97]))), (AV.lit (Value.string (bs [49]))), (u64 1), (u64 1), (u64 1), (i64 1), (i64 1), (AV.lit (Value.string (bs [98]))), (AV.lit (Value.string (bs [50]))), (u64 2), (u64 2), (u64 1), (i64 2)])),
(AObj.cells 142 (Cs.av [(AV.sl 26 0 10 10), (i64 6), (i64 2), (i64 1), (i64 0), (i64 0)])),
(AObj.cells 99 (Cs.tr 10 [(i64 0), (AV.lit (Value.bool false)), (AV.lit (Value.bool false)), (AV.lit (Value.bool false)), (AV.lit (Value.bool false)), (AV.lit (Value.bool false)), (AV.lit (Value.bool false)), (AV.lit (Value.bool false)), (AV.lit (Value.bool false)), (i64 0)] (PM.node (PM.node PM.leaf (some (AV.lit (Value.bool true))) (PM.node (PM.node PM.leaf (some (i64 2)) PM.leaf) none PM.leaf)) (some (i64 0)) (PM.node PM.leaf (some (AV.lit (Value.bool true))) PM.leaf)))),
(AObj.cells 92 (Cs.tr 1 [(u64 0)] (PM.node PM.leaf (some (u64 1)) PM.leaf))),
(AObj.cells 3 (Cs.tr 1 [(i64 0)] (PM.node PM.leaf (some (i64 2)) PM.leaf))),
(AObj.map [] 0),
(AObj.map [((AV.lit (Value.string (bs [98]))), ((AV.agg [(AV.lit (Value.string (bs [98]))), (u64 2), (u64 2), (i64 3), (i64 0)]), 0))] 1),
(AObj.map [] 0),
(AObj.map [((AV.lit (Value.string (bs [97]))), ((AV.agg [(AV.lit (Value.string (bs [97]))), (u64 1), (u64 1), (i64 2), (i64 0)]), 0))] 1),
(AObj.map [] 0),
(AObj.map [] 0),
(AObj.map [] 0),
(AObj.map [] 0),
(AObj.room 66 (Cs.av [(AV.lit (Value.string (bs [97]))), (u64 1), (u64 1), (i64 2), (i64 0), (AV.lit (Value.string (bs [98]))), (u64 2), (u64 2), (i64 3), (i64 0)])),
(AObj.room 66 (Cs.av [(AV.lit (Value.string (bs [97]))), (u64 1), (u64 1), (i64 2), (i64 0)])),
(AObj.room 66 (Cs.av [(AV.lit (Value.string (bs [97]))), (u64 1), (u64 1), (i64 2), (i64 0)])),
(AObj.room 66 (Cs.av [(AV.lit (Value.string (bs [97]))), (u64 1), (u64 1), (i64 2), (i64 0)])),
(AObj.cells 256 (Cs.tr 1930 (List.replicate 192 (AV.lit (v8 0)) ++ [(AV.lit (Value.bool false))]) (N8 (N8 (N8 (N8 (N8 (N8 (N8 (N8 (L8 0) 0 (N8 (L8 0) 0 PM.leaf)) 0 (N8 (L8 0) 0 (L8 0))) 0 (N8 (N8 (L8 0) 0 (L8 0)) 0 (N8 (N8 (L8 0) 0 PM.leaf) 0 PM.leaf))) 0 (N8 (N8 (N8 (L8 0) 0 (L8 0)) 0 (N8 (N8 (L8 0) 0 PM.leaf) 0 PM.leaf)) 0 (N8 (N8 (L8 0) 0 (L8 0)) 0 (N8 (N8 (L8 0) 0 PM.leaf) 0 PM.leaf)))) 0 (N8 (N8 (N8 (N8 (L8 0) 0 (L8 0)) 0 (N8 (N8 (L8 1) 0 PM.leaf) 0 PM.leaf)) 0 (N8 (N8 (L8 0) 0 (L8 49)) 0 (N8 (N8 (L8 98) 0 PM.leaf) 0 PM.leaf))) 0 (N8 (N8 (N8 (L8 0) 0 (L8 0)) 0 (N8 (N8 (L8 0) 0 PM.leaf) 0 PM.leaf)) 0 (N8 (N8 (L8 0) 0 (L8 0)) 0 (N8 (N8 (L8 0) 0 PM.leaf) 0 PM.leaf))))) 83 (N8 (N8 (N8 (N8 (N8 (L8 0) 83 (L8 0)) 83 (N8 (N8 (L8 1) 0 PM.leaf) 0 PM.leaf)) 0 (N8 (N8 (L8 0) 0 (L8 38)) 0 (N8 (N8 (L8 75) 0 PM.leaf) 0 PM.leaf))) 0 (N8 (N8 (N8 (L8 0) 0 (L8 0)) 0 (N8 (N8 (L8 2) 0 PM.leaf) 0 PM.leaf)) 0 (N8 (N8 (L8 0) 0 (L8 0)) 0 (N8 (N8 (L8 0) 0 PM.leaf) 0 PM.leaf)))) 78 (N8 (N8 (N8 (N8 (L8 40) 78 (L8 0)) 78 (N8 (N8 (L8 2) 40 PM.leaf) 40 PM.leaf)) 0 (N8 (N8 (L8 0) 0 (L8 0)) 0 (N8 (N8 (L8 0) 0 PM.leaf) 0 PM.leaf))) 0 (N8 (N8 (N8 (L8 0) 0 (L8 0)) 0 (N8 (N8 (L8 1) 0 PM.leaf) 0 PM.leaf)) 0 (N8 (N8 (L8 0) 0 (L8 0)) 0 (N8 (N8 (L8 0) 0 PM.leaf) 0 PM.leaf)))))) 70 (N8 (N8 (N8 (N8 (N8 (N8 (L8 3) 70 (PM.node (L8 0) (some (AV.lit (Value.bool false))) PM.leaf)) 70 (N8 (L8 3) 3 (L8 0))) 0 (N8 (N8 (L8 0) 0 (L8 0)) 0 (N8 (N8 (L8 0) 0 PM.leaf) 0 PM.leaf))) 0 (N8 (N8 (N8 (L8 0) 0 (L8 0)) 0 (N8 (N8 (L8 0) 0 PM.leaf) 0 PM.leaf)) 0 (N8 (N8 (L8 0) 0 (L8 0)) 0 (N8 (N8 (L8 0) 0 PM.leaf) 0 PM.leaf)))) 220 (N8 (N8 (N8 (N8 (L8 0) 220 (L8 0)) 220 (N8 (N8 (L8 0) 0 PM.leaf) 0 PM.leaf)) 0 (N8 (N8 (L8 0) 0 (L8 0)) 0 (N8 (N8 (L8 0) 0 PM.leaf) 0 PM.leaf))) 0 (N8 (N8 (N8 (L8 0) 0 (L8 0)) 0 (N8 (N8 (L8 0) 0 PM.leaf) 0 PM.leaf)) 0 (N8 (N8 (L8 0) 0 (L8 0)) 0 (N8 (N8 (L8 0) 0 PM.leaf) 0 PM.leaf))))) 10 (N8 (N8 (N8 (N8 (N8 (L8 0) 10 (L8 1)) 10 (N8 (N8 (L8 1) 0 PM.leaf) 0 PM.leaf)) 0 (N8 (N8 (L8 0) 0 (L8 129)) 0 (N8 (N8 (L8 174) 0 PM.leaf) 0 PM.leaf))) 0 (N8 (N8 (N8 (L8 0) 0 (L8 0)) 0 (N8 (N8 (L8 0) 0 PM.leaf) 0 PM.leaf)) 0 (N8 (N8 (L8 0) 0 (L8 0)) 0 (N8 (N8 (L8 0) 0 PM.leaf) 0 PM.leaf)))) 0 (N8 (N8 (N8 (N8 (L8 223) 0 (L8 0)) 0 (N8 (N8 (L8 0) 223 PM.leaf) 223 PM.leaf)) 0 (N8 (N8 (L8 0) 0 (L8 0)) 0 (N8 (N8 (L8 0) 0 PM.leaf) 0 PM.leaf))) 0 (N8 (N8 (N8 (L8 0) 0 (L8 0)) 0 (N8 (N8 (L8 0) 0 PM.leaf) 0 PM.leaf)) 0 (N8 (N8 (L8 0) 0 (L8 0)) 0 (N8 (N8 (L8 0) 0 PM.leaf) 0 PM.leaf))))))) 4 (N8 (N8 (N8 (N8 (N8 (N8 (N8 (L8 0) 4 (N8 (L8 0) 0 PM.leaf)) 4 (PM.node (L8 0) (some (AV.lit (Value.bool false))) (L8 0))) 0 (N8 (N8 (L8 0) 0 (L8 0)) 0 (N8 (N8 (L8 0) 0 PM.leaf) 0 PM.leaf))) 0 (N8 (N8 (N8 (L8 0) 0 (L8 0)) 0 (N8 (N8 (L8 0) 0 PM.leaf) 0 PM.leaf)) 0 (N8 (N8 (L8 0) 0 (L8 0)) 0 (N8 (N8 (L8 0) 0 PM.leaf) 0 PM.leaf)))) 0 (N8 (N8 (N8 (N8 (L8 0) 0 (L8 0)) 0 (N8 (N8 (L8 0) 0 PM.leaf) 0 PM.leaf)) 0 (N8 (N8 (L8 0) 0 (L8 0)) 0 (N8 (N8 (L8 50) 0 PM.leaf) 0 PM.leaf))) 0 (N8 (N8 (N8 (L8 0) 0 (L8 0)) 0 (N8 (N8 (L8 0) 0 PM.leaf) 0 PM.leaf)) 0 (N8 (N8 (L8 0) 0 (L8 0)) 0 (N8 (N8 (L8 0) 0 PM.leaf) 0 PM.leaf))))) 69 (N8 (N8 (N8 (N8 (N8 (L8 0) 69 (L8 1)) 69 (N8 (N8 (L8 0) 0 PM.leaf) 0 PM.leaf)) 0 (N8 (N8 (L8 0) 0 (L8 201)) 0 (N8 (N8 (L8 64) 0 PM.leaf) 0 PM.leaf))) 0 (N8 (N8 (N8 (L8 0) 0 (L8 0)) 0 (N8 (N8 (L8 0) 0 PM.leaf) 0 PM.leaf)) 0 (N8 (N8 (L8 0) 0 (L8 0)) 0 (N8 (N8 (L8 0) 0 PM.leaf) 0 PM.leaf)))) 80 (N8 (N8 (N8 (N8 (L8 132) 80 (L8 0)) 80 (N8 (N8 (L8 0) 132 PM.leaf) 132 PM.leaf)) 0 (N8 (N8 (L8 0) 0 (L8 0)) 0 (N8 (N8 (L8 0) 0 PM.leaf) 0 PM.leaf))) 0 (N8 (N8 (N8 (L8 0) 0 (L8 0)) 0 (N8 (N8 (L8 0) 0 PM.leaf) 0 PM.leaf)) 0 (N8 (N8 (L8 0) 0 (L8 0)) 0 (N8 (N8 (L8 0) 0 PM.leaf) 0 PM.leaf)))))) 85 (N8 (N8 (N8 (N8 (N8 (N8 (L8 0) 85 (N8 (L8 0) 1 PM.leaf)) 85 (N8 (L8 0) 0 PM.leaf)) 0 (N8 (N8 (L8 0) 0 (L8 30)) 0 (N8 (N8 (L8 0) 0 PM.leaf) 0 PM.leaf))) 0 (N8 (N8 (N8 (L8 0) 0 (L8 1)) 0 (N8 (N8 (L8 0) 0 PM.leaf) 0 PM.leaf)) 0 (N8 (N8 (L8 0) 0 (L8 0)) 0 (N8 (N8 (L8 0) 0 PM.leaf) 0 PM.leaf)))) 5 (N8 (N8 (N8 (N8 (L8 107) 5 (L8 1)) 5 (N8 (N8 (L8 0) 107 PM.leaf) 107 PM.leaf)) 0 (N8 (N8 (L8 0) 0 (L8 0)) 0 (N8 (N8 (L8 0) 0 PM.leaf) 0 PM.leaf))) 0 (N8 (N8 (N8 (L8 0) 0 (L8 1)) 0 (N8 (N8 (L8 0) 0 PM.leaf) 0 PM.leaf)) 0 (N8 (N8 (L8 0) 0 (L8 0)) 0 (N8 (N8 (L8 0) 0 PM.leaf) 0 PM.leaf))))) 0 (N8 (N8 (N8 (N8 (N8 (L8 0) 0 (L8 1)) 0 (N8 (N8 (L8 1) 0 PM.leaf) 0 PM.leaf)) 0 (N8 (N8 (L8 0) 0 (L8 97)) 0 (N8 (N8 (L8 244) 0 PM.leaf) 0 PM.leaf))) 0 (N8 (N8 (N8 (L8 0) 0 (L8 0)) 0 (N8 (N8 (L8 0) 0 PM.leaf) 0 PM.leaf)) 0 (N8 (N8 (L8 0) 0 (L8 0)) 0 (N8 (N8 (L8 0) 0 PM.leaf) 0 PM.leaf)))) 0 (N8 (N8 (N8 (N8 (L8 0) 0 (L8 0)) 0 (N8 (N8 (L8 0) 0 PM.leaf) 0 PM.leaf)) 0 (N8 (N8 (L8 0) 0 (L8 0)) 0 (N8 (N8 (L8 0) 0 PM.leaf) 0 PM.leaf))) 0 (N8 (N8 (N8 (L8 0) 0 (L8 0)) 0 (N8 (N8 (L8 0) 0 PM.leaf) 0 PM.leaf)) 0 (N8 (N8 (L8 0) 0 (L8 0)) 0 (N8 (N8 (L8 0) 0 PM.leaf) 0 PM.leaf))))))))))]
abbrev sSG8M : Nat := 27
abbrev sSG8J : Nat := 1
def sSG8F : List AObj := [
(AObj.room 113 (Cs.av [(AV.lit (Value.string (bs [98]))), (AV.lit (Value.string (bs [50])))]))]
def sSG8X : AV := (AV.agg [(i64 6), (AV.lit (Value.string (bs [98]))), (AV.lit (Value.string (bs []))), (AV.lit (Value.string (bs []))), (AV.lit (Value.slice none 0 0)), (i64 9), (u64 1), (AV.lit (Value.string (bs [98]))), (AV.lit (Value.bool true)), (i64 1), (AV.lit (Value.bool true)), (AV.lit (Value.string (bs [98]))), (u64 2), (u64 2), (i64 3), (i64 0), (i64 (-0 - 1)), (i64 0), (i64 1), (AV.lit (Value.slice none 0 0)), (i64 0), (AV.lit (Value.slice none 0 0)), (i64 0), (AV.lit (Value.bool false)), (AV.lit (Value.string (bs []))), (AV.sl 1 0 1 1), (AV.lit (Value.slice none 0 0)), (u64 0)])
def sSG8H : List AObj := [
(AObj.room 113 (Cs.av [(AV.lit (Value.string (bs [98]))), (AV.lit (Value.string (bs [50])))]))]
def sSG8A : List Nat := [0, 1, 2, 3, 4, 5, 6, 7, 8, 9, 10, 11, 12, 13, 14, 15, 16, 17, 18, 19, 20, 21, 22, 23, 24, 25, 26]
def sSG8B : List Nat := [62]
end
end Go.Proofs.YtlocaplkfaepnaaGreat
end
