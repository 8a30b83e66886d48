import Derived.Test.YtnlpcbdmllpddaaGreatTsa
import Derived.Test.YtnlpcbdmllpddaaGreatTsb
import Derived.Test.YtnlpcbdmllpddaaGreatTsc
import Derived.Test.YtnlpcbdmllpddaaGreatTsd
import Derived.Test.YtnlpcbdmllpddaaGreatTse
import Derived.Test.YtnlpcbdmllpddaaGreatTsf
import Derived.Test.YtnlpcbdmllpddaaGreatTsg
import Derived.Test.YtnlpcbdmllpddaaGreatTsh
import Derived.Test.YtnlpcbdmllpddaaGreatTsi
import Derived.Test.YtnlpcbdmllpddaaGreatTsj
section
/- What a closed call yields, and the memory behind it: fusee/point.Step. -/
namespace Go.Proofs.YtnlpcbdmllpddaaGreat
open Go SE
set_option maxRecDepth 100000
noncomputable section
def sSE5V : AV := (AV.agg [(i64 2), (AV.lit (Value.string (bs [97]))), (AV.lit (Value.string (bs [49]))), (AV.lit (Value.string (bs []))), (AV.lit (Value.slice none 0 0)), (i64 6), (u64 1), (AV.lit (Value.string (bs []))), (AV.lit (Value.bool false)), (i64 0), (AV.lit (Value.bool false)), (AV.lit (Value.string (bs []))), (u64 0), (u64 0), (i64 0), (i64 0), (i64 (-0 - 1)), (i64 0), (i64 0), (AV.lit (Value.slice none 0 0)), (i64 0), (AV.lit (Value.slice none 0 0)), (i64 0), (AV.lit (Value.bool false)), (AV.lit (Value.string (bs []))), (AV.lit (Value.slice none 0 0)), (AV.lit (Value.slice none 0 0)), (u64 1)])
def sSE5O : List AObj := [
(AObj.cells 117 (Cs.av [(AV.ptr 1 0), (AV.ptr 2 0), (AV.ptr 3 0), (AV.ptr 4 0), (AV.ptr 5 0), (AV.ptr 6 0), (AV.ptr 7 0), (AV.ptr 8 0), (u64 1), (u64 1), (AV.slU 9 0 1 7)])),
(AObj.cells 152 (Cs.av [(AV.ptr 10 0), (AV.lit (Value.int IntKind.u32 1)), (AV.lit (Value.int IntKind.i32 0)), (AV.lit (Value.int IntKind.u32 0))])),
(AObj.cells 289 (Cs.av [(AV.sl 11 0 1 1)])),
(AObj.cells 204 (Cs.av [(u64 1), (AV.sl 12 0 1 1)])),
(AObj.cells 201 (Cs.av ([(u64 1), (u64 0), (u64 0), (AV.sl 13 0 1 1), (AV.lit (Value.bool false)), (AV.lit (Value.bool false)), (AV.lit (Value.bool true))] ++ List.replicate 513 (AV.lit (Value.bool false)) ++ [(AV.lit Value.nilFunc)]))),
(AObj.cells 247 (Cs.av [(AV.lit (Value.slice none 0 0))])),
(AObj.cells 269 (Cs.av [(AV.mp 14), (AV.mp 15), (AV.mp 16), (AV.mp 17), (AV.mp 18), (AV.mp 19), (AV.mp 20), (AV.mp 21)])),
(AObj.cells 298 (Cs.av [(AV.slU 22 0 1 5), (AV.slU 23 0 1 5), (AV.slU 24 0 1 5), (AV.slU 25 0 1 5)])),
(AObj.cells 279 (Cs.av [(AV.lit (Value.slice none 0 0)), (i64 0), (i64 0)])),
(AObj.room 155 (Cs.av [(i64 1), (AV.lit (Value.string (bs [97]))), (AV.lit (Value.string (bs [49]))), (u64 1), (u64 1), (u64 1), (i64 1)])),
(AObj.cells 218 (Cs.av [(AV.sl 26 0 10 10), (i64 4), (i64 2), (i64 1), (i64 0), (i64 0)])),
(AObj.cells 261 (Cs.tr 10 [(i64 0), (AV.lit (Value.bool false)), (AV.lit (Value.bool false)), (AV.lit (Value.bool false)), (AV.lit (Value.bool false)), (AV.lit (Value.bool false)), (AV.lit (Value.bool false)), (AV.lit (Value.bool false)), (AV.lit (Value.bool false)), (i64 0)] (PM.node (PM.node PM.leaf (some (AV.lit (Value.bool true))) (PM.node (PM.node PM.leaf (some (i64 1)) PM.leaf) none PM.leaf)) (some (i64 0)) PM.leaf))),
(AObj.cells 115 (Cs.tr 1 [(u64 0)] (PM.node PM.leaf (some (u64 1)) PM.leaf))),
(AObj.cells 3 (Cs.tr 1 [(i64 0)] (PM.node PM.leaf (some (i64 1)) PM.leaf))),
(AObj.map [] 0),
(AObj.map [] 0),
(AObj.map [] 0),
(AObj.map [((AV.lit (Value.string (bs [97]))), ((AV.agg [(AV.lit (Value.string (bs [97]))), (u64 1), (u64 1), (i64 2), (i64 0)]), 0))] 1),
(AObj.map [] 0),
(AObj.map [] 0),
(AObj.map [] 0),
(AObj.map [] 0),
(AObj.room 31 (Cs.av [(AV.lit (Value.string (bs [97]))), (u64 1), (u64 1), (i64 2), (i64 0)])),
(AObj.room 31 (Cs.av [(AV.lit (Value.string (bs [97]))), (u64 1), (u64 1), (i64 2), (i64 0)])),
(AObj.room 31 (Cs.av [(AV.lit (Value.string (bs [97]))), (u64 1), (u64 1), (i64 2), (i64 0)])),
(AObj.room 31 (Cs.av [(AV.lit (Value.string (bs [97]))), (u64 1), (u64 1), (i64 2), (i64 0)])),
(AObj.cells 253 (Cs.tr 1930 (List.replicate 192 (AV.lit (v8 0)) ++ [(AV.lit (Value.bool false))]) (N8 (N8 (N8 (N8 (N8 (N8 (N8 (N8 (L8 0) 0 (L8 0)) 0 (N8 (L8 0) 0 (L8 0))) 0 (N8 (N8 (L8 0) 0 (L8 0)) 0 (N8 (L8 0) 0 PM.leaf))) 0 (N8 (N8 (N8 (L8 0) 0 (L8 0)) 0 (N8 (L8 0) 0 PM.leaf)) 0 (N8 (N8 (L8 0) 0 (L8 0)) 0 (N8 (L8 0) 0 PM.leaf)))) 0 (N8 (N8 (N8 (N8 (L8 0) 0 (L8 0)) 0 (N8 (L8 0) 0 PM.leaf)) 0 (N8 (N8 (L8 0) 0 (L8 49)) 0 (N8 (L8 0) 0 PM.leaf))) 0 (N8 (N8 (N8 (L8 0) 0 (L8 0)) 0 (N8 (L8 0) 0 PM.leaf)) 0 (N8 (N8 (L8 0) 0 (L8 0)) 0 (N8 (L8 0) 0 PM.leaf))))) 83 (N8 (N8 (N8 (N8 (N8 (L8 0) 83 (L8 0)) 83 (N8 (L8 0) 0 PM.leaf)) 0 (N8 (N8 (L8 0) 0 (L8 38)) 0 (N8 (L8 0) 0 PM.leaf))) 0 (N8 (N8 (N8 (L8 0) 0 (L8 0)) 0 (N8 (L8 0) 0 PM.leaf)) 0 (N8 (N8 (L8 0) 0 (L8 0)) 0 (N8 (L8 0) 0 PM.leaf)))) 78 (N8 (N8 (N8 (N8 (L8 40) 78 (L8 0)) 78 (N8 (L8 40) 40 PM.leaf)) 0 (N8 (N8 (L8 0) 0 (L8 0)) 0 (N8 (L8 0) 0 PM.leaf))) 0 (N8 (N8 (N8 (L8 0) 0 (L8 0)) 0 (N8 (L8 0) 0 PM.leaf)) 0 (N8 (N8 (L8 0) 0 (L8 0)) 0 (N8 (L8 0) 0 PM.leaf)))))) 70 (N8 (N8 (N8 (N8 (N8 (N8 (L8 3) 70 (PM.node PM.leaf (some (AV.lit (Value.bool false))) PM.leaf)) 70 (N8 (L8 3) 3 (L8 0))) 0 (N8 (N8 (L8 0) 0 (L8 0)) 0 (N8 (L8 0) 0 PM.leaf))) 0 (N8 (N8 (N8 (L8 0) 0 (L8 0)) 0 (N8 (L8 0) 0 PM.leaf)) 0 (N8 (N8 (L8 0) 0 (L8 0)) 0 (N8 (L8 0) 0 PM.leaf)))) 220 (N8 (N8 (N8 (N8 (L8 0) 220 (L8 0)) 220 (N8 (L8 0) 0 PM.leaf)) 0 (N8 (N8 (L8 0) 0 (L8 0)) 0 (N8 (L8 0) 0 PM.leaf))) 0 (N8 (N8 (N8 (L8 0) 0 (L8 0)) 0 (N8 (L8 0) 0 PM.leaf)) 0 (N8 (N8 (L8 0) 0 (L8 0)) 0 (N8 (L8 0) 0 PM.leaf))))) 10 (N8 (N8 (N8 (N8 (N8 (L8 0) 10 (L8 1)) 10 (N8 (L8 0) 0 PM.leaf)) 0 (N8 (N8 (L8 0) 0 (L8 129)) 0 (N8 (L8 0) 0 PM.leaf))) 0 (N8 (N8 (N8 (L8 0) 0 (L8 0)) 0 (N8 (L8 0) 0 PM.leaf)) 0 (N8 (N8 (L8 0) 0 (L8 0)) 0 (N8 (L8 0) 0 PM.leaf)))) 0 (N8 (N8 (N8 (N8 (L8 223) 0 (L8 0)) 0 (N8 (L8 223) 223 PM.leaf)) 0 (N8 (N8 (L8 0) 0 (L8 0)) 0 (N8 (L8 0) 0 PM.leaf))) 0 (N8 (N8 (N8 (L8 0) 0 (L8 0)) 0 (N8 (L8 0) 0 PM.leaf)) 0 (N8 (N8 (L8 0) 0 (L8 0)) 0 (N8 (L8 0) 0 PM.leaf))))))) 4 (N8 (N8 (N8 (N8 (N8 (N8 (N8 (L8 0) 4 (L8 0)) 4 (PM.node (L8 0) (some (AV.lit (Value.bool false))) (L8 0))) 0 (N8 (N8 (L8 0) 0 (L8 0)) 0 (N8 (L8 0) 0 PM.leaf))) 0 (N8 (N8 (N8 (L8 0) 0 (L8 0)) 0 (N8 (L8 0) 0 PM.leaf)) 0 (N8 (N8 (L8 0) 0 (L8 0)) 0 (N8 (L8 0) 0 PM.leaf)))) 0 (N8 (N8 (N8 (N8 (L8 0) 0 (L8 0)) 0 (N8 (L8 0) 0 PM.leaf)) 0 (N8 (N8 (L8 0) 0 (L8 0)) 0 (N8 (L8 0) 0 PM.leaf))) 0 (N8 (N8 (N8 (L8 0) 0 (L8 0)) 0 (N8 (L8 0) 0 PM.leaf)) 0 (N8 (N8 (L8 0) 0 (L8 0)) 0 (N8 (L8 0) 0 PM.leaf))))) 69 (N8 (N8 (N8 (N8 (N8 (L8 0) 69 (L8 1)) 69 (N8 (L8 0) 0 PM.leaf)) 0 (N8 (N8 (L8 0) 0 (L8 201)) 0 (N8 (L8 0) 0 PM.leaf))) 0 (N8 (N8 (N8 (L8 0) 0 (L8 0)) 0 (N8 (L8 0) 0 PM.leaf)) 0 (N8 (N8 (L8 0) 0 (L8 0)) 0 (N8 (L8 0) 0 PM.leaf)))) 80 (N8 (N8 (N8 (N8 (L8 132) 80 (L8 0)) 80 (N8 (L8 132) 132 PM.leaf)) 0 (N8 (N8 (L8 0) 0 (L8 0)) 0 (N8 (L8 0) 0 PM.leaf))) 0 (N8 (N8 (N8 (L8 0) 0 (L8 0)) 0 (N8 (L8 0) 0 PM.leaf)) 0 (N8 (N8 (L8 0) 0 (L8 0)) 0 (N8 (L8 0) 0 PM.leaf)))))) 85 (N8 (N8 (N8 (N8 (N8 (N8 (L8 0) 85 (L8 1)) 85 (N8 (L8 0) 0 PM.leaf)) 0 (N8 (N8 (L8 0) 0 (L8 30)) 0 (N8 (L8 0) 0 PM.leaf))) 0 (N8 (N8 (N8 (L8 0) 0 (L8 1)) 0 (N8 (L8 0) 0 PM.leaf)) 0 (N8 (N8 (L8 0) 0 (L8 0)) 0 (N8 (L8 0) 0 PM.leaf)))) 5 (N8 (N8 (N8 (N8 (L8 107) 5 (L8 1)) 5 (N8 (L8 107) 107 PM.leaf)) 0 (N8 (N8 (L8 0) 0 (L8 0)) 0 (N8 (L8 0) 0 PM.leaf))) 0 (N8 (N8 (N8 (L8 0) 0 (L8 1)) 0 (N8 (L8 0) 0 PM.leaf)) 0 (N8 (N8 (L8 0) 0 (L8 0)) 0 (N8 (L8 0) 0 PM.leaf))))) 0 (N8 (N8 (N8 (N8 (N8 (L8 0) 0 (L8 1)) 0 (N8 (L8 0) 0 PM.leaf)) 0 (N8 (N8 (L8 0) 0 (L8 97)) 0 (N8 (L8 0) 0 PM.leaf))) 0 (N8 (N8 (N8 (L8 0) 0 (L8 0)) 0 (N8 (L8 0) 0 PM.leaf)) 0 (N8 (N8 (L8 0) 0 (L8 0)) 0 (N8 (L8 0) 0 PM.leaf)))) 0 (N8 (N8 (N8 (N8 (L8 0) 0 (L8 0)) 0 (N8 (L8 0) 0 PM.leaf)) 0 (N8 (N8 (L8 0) 0 (L8 0)) 0 (N8 (L8 0) 0 PM.leaf))) 0 (N8 (N8 (N8 (L8 0) 0 (L8 0)) 0 (N8 (L8 0) 0 PM.leaf)) 0 (N8 (N8 (L8 0) 0 (L8 0)) 0 (N8 (L8 0) 0 PM.leaf))))))))))]
abbrev sSE5M : Nat := 27
def sSE5I : List Nat := [0, 1, 2, 3, 4, 5, 6, 7, 8, 114, 9, 10, 11, 12, 13, 14, 15, 16, 17, 18, 19, 20, 106, 108, 110, 112, 21]
end
end Go.Proofs.YtnlpcbdmllpddaaGreat
end
