import Derived.Test.YtnlpcbdmllpddaaGreatTxa
import Derived.Test.YtnlpcbdmllpddaaGreatTxb
import Derived.Test.YtnlpcbdmllpddaaGreatTxc
import Derived.Test.YtnlpcbdmllpddaaGreatTxd
import Derived.Test.YtnlpcbdmllpddaaGreatTxe
import Derived.Test.YtnlpcbdmllpddaaGreatTxf
import Derived.Test.YtnlpcbdmllpddaaGreatTxg
import Derived.Test.YtnlpcbdmllpddaaGreatTxh
import Derived.Test.YtnlpcbdmllpddaaGreatTxi
import Derived.Test.YtnlpcbdmllpddaaGreatTxj
import Derived.Test.YtnlpcbdmllpddaaGreatTxk
import Derived.Test.YtnlpcbdmllpddaaGreatTxl
import Derived.Test.YtnlpcbdmllpddaaGreatTxm
import Derived.Test.YtnlpcbdmllpddaaGreatTxn
import Derived.Test.YtnlpcbdmllpddaaGreatTxo
import Derived.Test.YtnlpcbdmllpddaaGreatTxp
import Derived.KernelRfl
import Derived.Test.YtnlpcbdmllpddaaGreatChecked
section
/- What a closed call yields, and the memory behind it: fusee/point.Step. -/
namespace Go.Proofs.YtnlpcbdmllpddaaGreat
open Go SE
set_option maxRecDepth 100000
noncomputable section
def sSL4V : AV := (AV.agg [(i64 1), (AV.lit (Value.string (bs [97]))), (AV.lit (Value.string (bs []))), (AV.lit (Value.string (bs []))), (AV.lit (Value.slice none 0 0)), (i64 7), (u64 1), (AV.lit (Value.string (bs []))), (AV.lit (Value.bool false)), (i64 0), (AV.lit (Value.bool true)), (AV.lit (Value.string (bs [97]))), (u64 1), (u64 1), (i64 2), (i64 0), (i64 (-0 - 1)), (i64 0), (i64 1), (AV.lit (Value.slice none 0 0)), (i64 0), (AV.lit (Value.slice none 0 0)), (i64 0), (AV.lit (Value.bool true)), (AV.lit (Value.string (bs [49]))), (AV.lit (Value.slice none 0 0)), (AV.lit (Value.slice none 0 0)), (u64 0)])
def sSL4O : List AObj := [
(AObj.cells 117 (Cs.av [(AV.ptr 1 0), (AV.ptr 2 0), (AV.ptr 3 0), (AV.ptr 4 0), (AV.ptr 5 0), (AV.ptr 6 0), (AV.ptr 7 0), (AV.ptr 8 0), (u64 1), (u64 1), (AV.slU 9 0 1 7)])),
(AObj.cells 152 (Cs.av [(AV.ptr 10 0), (AV.lit (Value.int IntKind.u32 1)), (AV.lit (Value.int IntKind.i32 0)), (AV.lit (Value.int IntKind.u32 0))])),
(AObj.cells 289 (Cs.av [(AV.sl 11 0 1 1)])),
(AObj.cells 204 (Cs.av [(u64 1), (AV.sl 12 0 1 1)])),
(AObj.cells 201 (Cs.av ([(u64 1), (u64 0), (u64 0), (AV.sl 13 0 1 1), (AV.lit (Value.bool false)), (AV.lit (Value.bool false)), (AV.lit (Value.bool true))] ++ List.replicate 513 (AV.lit (Value.bool false)) ++ [(AV.lit Value.nilFunc)]))),
(AObj.cells 247 (Cs.av [(AV.lit (Value.slice none 0 0))])),
(AObj.cells 269 (Cs.av [(AV.mp 14), (AV.mp 15), (AV.mp 16), (AV.mp 17), (AV.mp 18), (AV.mp 19), (AV.mp 20), (AV.mp 21)])),
(AObj.cells 298 (Cs.av [(AV.slU 22 0 1 5), (AV.slU 23 0 1 5), (AV.slU 24 0 1 5), (AV.slU 25 0 1 5)])),
(AObj.cells 279 (Cs.av [(AV.lit (Value.slice none 0 0)), (i64 0), (i64 0)])),
(AObj.room 155 (Cs.av [(i64 1), (AV.lit (Value.string (bs [97]))), (AV.lit (Value.string (bs [49]))), (u64 1), (u64 1), (u64 1), (i64 1)])),
(AObj.cells 218 (Cs.av [(AV.sl 26 0 10 10), (i64 4), (i64 2), (i64 1), (i64 0), (i64 0)])),
(AObj.cells 261 (Cs.tr 10 [(i64 0), (AV.lit (Value.bool false)), (AV.lit (Value.bool false)), (AV.lit (Value.bool false)), (AV.lit (Value.bool false)), (AV.lit (Value.bool false)), (AV.lit (Value.bool false)), (AV.lit (Value.bool false)), (AV.lit (Value.bool false)), (i64 0)] (PM.node (PM.node PM.leaf (some (AV.lit (Value.bool true))) (PM.node (PM.node PM.leaf (some (i64 1)) PM.leaf) none PM.leaf)) (some (i64 0)) PM.leaf))),
(AObj.cells 115 (Cs.tr 1 [(u64 0)] (PM.node PM.leaf (some (u64 0)) PM.leaf))),
(AObj.cells 3 (Cs.tr 1 [(i64 0)] (PM.node PM.leaf (some (i64 1)) PM.leaf))),
(AObj.map [] 0),
(AObj.map [] 0),
(AObj.map [] 0),
(AObj.map [((AV.lit (Value.string (bs [97]))), ((AV.agg [(AV.lit (Value.string (bs [97]))), (u64 1), (u64 1), (i64 2), (i64 0)]), 0))] 1),
(AObj.map [] 0),
(AObj.map [] 0),
(AObj.map [] 0),
(AObj.map [] 0),
(AObj.room 31 (Cs.av [(AV.lit (Value.string (bs [97]))), (u64 1), (u64 1), (i64 2), (i64 0)])),
(AObj.room 31 (Cs.av [(AV.lit (Value.string (bs [97]))), (u64 1), (u64 1), (i64 2), (i64 0)])),
(AObj.room 31 (Cs.av [(AV.lit (Value.string (bs [97]))), (u64 1), (u64 1), (i64 2), (i64 0)])),
(AObj.room 31 (Cs.av [(AV.lit (Value.string (bs [97]))), (u64 1), (u64 1), (i64 2), (i64 0)])),
(AObj.cells 253 (Cs.tr 1930 (List.replicate 192 (AV.lit (v8 0)) ++ [(AV.lit (Value.bool false))]) (N8 (N8 (N8 (N8 (N8 (N8 (N8 (N8 (L8 0) 0 (L8 0)) 0 (N8 (L8 0) 0 (L8 0))) 0 (N8 (N8 (L8 0) 0 (L8 0)) 0 (N8 (L8 0) 0 PM.leaf))) 0 (N8 (N8 (N8 (L8 0) 0 (L8 0)) 0 (N8 (L8 0) 0 PM.leaf)) 0 (N8 (N8 (L8 0) 0 (L8 0)) 0 (N8 (L8 0) 0 PM.leaf)))) 0 (N8 (N8 (N8 (N8 (L8 0) 0 (L8 0)) 0 (N8 (L8 0) 0 PM.leaf)) 0 (N8 (N8 (L8 0) 0 (L8 49)) 0 (N8 (L8 0) 0 PM.leaf))) 0 (N8 (N8 (N8 (L8 0) 0 (L8 0)) 0 (N8 (L8 0) 0 PM.leaf)) 0 (N8 (N8 (L8 0) 0 (L8 0)) 0 (N8 (L8 0) 0 PM.leaf))))) 83 (N8 (N8 (N8 (N8 (N8 (L8 0) 83 (L8 0)) 83 (N8 (L8 0) 0 PM.leaf)) 0 (N8 (N8 (L8 0) 0 (L8 38)) 0 (N8 (L8 0) 0 PM.leaf))) 0 (N8 (N8 (N8 (L8 0) 0 (L8 0)) 0 (N8 (L8 0) 0 PM.leaf)) 0 (N8 (N8 (L8 0) 0 (L8 0)) 0 (N8 (L8 0) 0 PM.leaf)))) 78 (N8 (N8 (N8 (N8 (L8 40) 78 (L8 0)) 78 (N8 (L8 40) 40 PM.leaf)) 0 (N8 (N8 (L8 0) 0 (L8 0)) 0 (N8 (L8 0) 0 PM.leaf))) 0 (N8 (N8 (N8 (L8 0) 0 (L8 0)) 0 (N8 (L8 0) 0 PM.leaf)) 0 (N8 (N8 (L8 0) 0 (L8 0)) 0 (N8 (L8 0) 0 PM.leaf)))))) 70 (N8 (N8 (N8 (N8 (N8 (N8 (L8 3) 70 (PM.node PM.leaf (some (AV.lit (Value.bool false))) PM.leaf)) 70 (N8 (L8 3) 3 (L8 0))) 0 (N8 (N8 (L8 0) 0 (L8 0)) 0 (N8 (L8 0) 0 PM.leaf))) 0 (N8 (N8 (N8 (L8 0) 0 (L8 0)) 0 (N8 (L8 0) 0 PM.leaf)) 0 (N8 (N8 (L8 0) 0 (L8 0)) 0 (N8 (L8 0) 0 PM.leaf)))) 220 (N8 (N8 (N8 (N8 (L8 0) 220 (L8 0)) 220 (N8 (L8 0) 0 PM.leaf)) 0 (N8 (N8 (L8 0) 0 (L8 0)) 0 (N8 (L8 0) 0 PM.leaf))) 0 (N8 (N8 (N8 (L8 0) 0 (L8 0)) 0 (N8 (L8 0) 0 PM.leaf)) 0 (N8 (N8 (L8 0) 0 (L8 0)) 0 (N8 (L8 0) 0 PM.leaf))))) 10 (N8 (N8 (N8 (N8 (N8 (L8 0) 10 (L8 1)) 10 (N8 (L8 0) 0 PM.leaf)) 0 (N8 (N8 (L8 0) 0 (L8 129)) 0 (N8 (L8 0) 0 PM.leaf))) 0 (N8 (N8 (N8 (L8 0) 0 (L8 0)) 0 (N8 (L8 0) 0 PM.leaf)) 0 (N8 (N8 (L8 0) 0 (L8 0)) 0 (N8 (L8 0) 0 PM.leaf)))) 0 (N8 (N8 (N8 (N8 (L8 223) 0 (L8 0)) 0 (N8 (L8 223) 223 PM.leaf)) 0 (N8 (N8 (L8 0) 0 (L8 0)) 0 (N8 (L8 0) 0 PM.leaf))) 0 (N8 (N8 (N8 (L8 0) 0 (L8 0)) 0 (N8 (L8 0) 0 PM.leaf)) 0 (N8 (N8 (L8 0) 0 (L8 0)) 0 (N8 (L8 0) 0 PM.leaf))))))) 4 (N8 (N8 (N8 (N8 (N8 (N8 (N8 (L8 0) 4 (L8 0)) 4 (PM.node (L8 0) (some (AV.lit (Value.bool false))) (L8 0))) 0 (N8 (N8 (L8 0) 0 (L8 0)) 0 (N8 (L8 0) 0 PM.leaf))) 0 (N8 (N8 (N8 (L8 0) 0 (L8 0)) 0 (N8 (L8 0) 0 PM.leaf)) 0 (N8 (N8 (L8 0) 0 (L8 0)) 0 (N8 (L8 0) 0 PM.leaf)))) 0 (N8 (N8 (N8 (N8 (L8 0) 0 (L8 0)) 0 (N8 (L8 0) 0 PM.leaf)) 0 (N8 (N8 (L8 0) 0 (L8 0)) 0 (N8 (L8 0) 0 PM.leaf))) 0 (N8 (N8 (N8 (L8 0) 0 (L8 0)) 0 (N8 (L8 0) 0 PM.leaf)) 0 (N8 (N8 (L8 0) 0 (L8 0)) 0 (N8 (L8 0) 0 PM.leaf))))) 69 (N8 (N8 (N8 (N8 (N8 (L8 0) 69 (L8 1)) 69 (N8 (L8 0) 0 PM.leaf)) 0 (N8 (N8 (L8 0) 0 (L8 201)) 0 (N8 (L8 0) 0 PM.leaf))) 0 (N8 (N8 (N8 (L8 0) 0 (L8 0)) 0 (N8 (L8 0) 0 PM.leaf)) 0 (N8 (N8 (L8 0) 0 (L8 0)) 0 (N8 (L8 0) 0 PM.leaf)))) 80 (N8 (N8 (N8 (N8 (L8 132) 80 (L8 0)) 80 (N8 (L8 132) 132 PM.leaf)) 0 (N8 (N8 (L8 0) 0 (L8 0)) 0 (N8 (L8 0) 0 PM.leaf))) 0 (N8 (N8 (N8 (L8 0) 0 (L8 0)) 0 (N8 (L8 0) 0 PM.leaf)) 0 (N8 (N8 (L8 0) 0 (L8 0)) 0 (N8 (L8 0) 0 PM.leaf)))))) 85 (N8 (N8 (N8 (N8 (N8 (N8 (L8 0) 85 (L8 1)) 85 (N8 (L8 0) 0 PM.leaf)) 0 (N8 (N8 (L8 0) 0 (L8 30)) 0 (N8 (L8 0) 0 PM.leaf))) 0 (N8 (N8 (N8 (L8 0) 0 (L8 1)) 0 (N8 (L8 0) 0 PM.leaf)) 0 (N8 (N8 (L8 0) 0 (L8 0)) 0 (N8 (L8 0) 0 PM.leaf)))) 5 (N8 (N8 (N8 (N8 (L8 107) 5 (L8 1)) 5 (N8 (L8 107) 107 PM.leaf)) 0 (N8 (N8 (L8 0) 0 (L8 0)) 0 (N8 (L8 0) 0 PM.leaf))) 0 (N8 (N8 (N8 (L8 0) 0 (L8 1)) 0 (N8 (L8 0) 0 PM.leaf)) 0 (N8 (N8 (L8 0) 0 (L8 0)) 0 (N8 (L8 0) 0 PM.leaf))))) 0 (N8 (N8 (N8 (N8 (N8 (L8 0) 0 (L8 1)) 0 (N8 (L8 0) 0 PM.leaf)) 0 (N8 (N8 (L8 0) 0 (L8 97)) 0 (N8 (L8 0) 0 PM.leaf))) 0 (N8 (N8 (N8 (L8 0) 0 (L8 0)) 0 (N8 (L8 0) 0 PM.leaf)) 0 (N8 (N8 (L8 0) 0 (L8 0)) 0 (N8 (L8 0) 0 PM.leaf)))) 0 (N8 (N8 (N8 (N8 (L8 0) 0 (L8 0)) 0 (N8 (L8 0) 0 PM.leaf)) 0 (N8 (N8 (L8 0) 0 (L8 0)) 0 (N8 (L8 0) 0 PM.leaf))) 0 (N8 (N8 (N8 (L8 0) 0 (L8 0)) 0 (N8 (L8 0) 0 PM.leaf)) 0 (N8 (N8 (L8 0) 0 (L8 0)) 0 (N8 (L8 0) 0 PM.leaf))))))))))]
abbrev sSL4M : Nat := 27
def sSL4I : List Nat := [0, 1, 2, 3, 4, 5, 6, 7, 8, 9, 10, 11, 12, 13, 14, 15, 16, 17, 18, 19, 20, 21, 22, 23, 24, 25, 26]
end
end Go.Proofs.YtnlpcbdmllpddaaGreat
end
section
/- A closed call, run: fusee/point.Step. -/
namespace Go.Proofs.YtnlpcbdmllpddaaGreat
open Go SE
set_option maxRecDepth 100000
noncomputable section
theorem sSL4_look : lookX tblP 35 = none := by kernel_rfl
theorem sSL4_run : runH Tryz.prog tblP tt 2000 40 35 [.ptr 0 0, i64 0, sSL3V] (hO sSL3M sSL3O) (told sSL4I) = .ok (vmap (atL sSL4I) sSL4V, sSL4O.map fun o => some (omap (atL sSL4I) o)) := by kernel_rfl
theorem sSL4_sp : Sp Tryz.prog 35 [.ptr 0 0, i64 0, sSL3V] (hO 1 [packed sSL3M sSL3O]) (fun v h => v = sSL4V ∧ h = hO 1 [packed sSL4M sSL4O]) :=
  stageP tt_ok mixed tblP_ok 2000 40 sSL3M sSL3O sSL4M sSL4I sSL4V sSL4O sSL4_look sSL4_run (by kernel_rfl) (by kernel_rfl) (by kernel_rfl)
end
end Go.Proofs.YtnlpcbdmllpddaaGreat
end
section
/- Point's awake: contracts of its parts. -/
namespace Go.Proofs.YtnlpcbdmllpddaaGreat
open Go SE
noncomputable section
def putPL : List (Int × WTr) := [(0, ctrT (clo [.ptr 0 0, i64 0, .agg (frL [i64 2, str (bs [97]), str (bs [49]), str es] nilS)] sSAM sSAO sSE1V sSE1M sSE1O)),
  (1, ctrT (clo [.ptr 0 0, i64 0, sSE1V] sSE1M sSE1O sSE2V sSE2M sSE2O)),
  (3, ctrT (clo [.ptr 0 0, i64 0, sSE2V] sSE2M sSE2O sSE3V sSE3M sSE3O)),
  (4, ctrT (clo [.ptr 0 0, i64 0, sSE3V] sSE3M sSE3O sSE4V sSE4M sSE4O)),
  (5, ctrT (clo [.ptr 0 0, i64 0, sSE4V] sSE4M sSE4O sSE5V sSE5M sSE5O)),
  (6, ctrT (clo [.ptr 0 0, i64 0, sSE5V] sSE5M sSE5O sSE6V sSE6M sSE6O))]
theorem putPL_ok : AllT Tryz.prog 35 putPL := ⟨ctrT_ok (clo_ok sSE1_sp), ctrT_ok (clo_ok sSE2_sp), ctrT_ok (clo_ok sSE3_sp), ctrT_ok (clo_ok sSE4_sp), ctrT_ok (clo_ok sSE5_sp), ctrT_ok (clo_ok sSE6_sp), trivial⟩
def getPL : List (Int × WTr) := [(0, ctrT (clo [.ptr 0 0, i64 0, .agg (frL [i64 1, str (bs [97]), str es, str es] nilS)] sSE6M sSE6O sSL1V sSL1M sSL1O)),
  (1, ctrT (clo [.ptr 0 0, i64 0, sSL1V] sSL1M sSL1O sSL2V sSL2M sSL2O)),
  (2, ctrT (clo [.ptr 0 0, i64 0, sSL2V] sSL2M sSL2O sSL3V sSL3M sSL3O)),
  (6, ctrT (clo [.ptr 0 0, i64 0, sSL3V] sSL3M sSL3O sSL4V sSL4M sSL4O))]
theorem getPL_ok : AllT Tryz.prog 35 getPL := ⟨ctrT_ok (clo_ok sSL1_sp), ctrT_ok (clo_ok sSL2_sp), ctrT_ok (clo_ok sSL3_sp), ctrT_ok (clo_ok sSL4_sp), trivial⟩
def putPC : Ctr := clo [.ptr 0 0, i64 0, .agg [i64 2, str (bs [97]), str (bs [49]), str es, nilS]] sSAM sSAO (.tup [.agg [i64 0, boo false, str es, nilS, nilS, u64 1], i64 6, boo true]) sSE6M sSE6O
def getPC : Ctr := clo [.ptr 0 0, i64 0, .agg [i64 1, str (bs [97]), str es, str es, nilS]] sSE6M sSE6O (.tup [.agg [i64 0, boo true, str (bs [49]), nilS, nilS, u64 0], i64 4, boo true]) sSL4M sSL4O
end
end Go.Proofs.YtnlpcbdmllpddaaGreat
end
section
/- Point's awake: what is asked. -/
namespace Go.Proofs.YtnlpcbdmllpddaaGreat
open Go SE
def runPutPVC_wp (x : Own) : Prop := wpF Tryz.prog [(35, byI phaseOf putPL)] tt noAn 400 6 84 (putPC.args x) (hO putPC.k (putPC.os x)) (fun v h' => endsP putPC.k x v h' putPC.outs)
def runPutPVC (x : Own) : Prop :=
  (∃ (x_1 : Own), ((Hd (isMem @sSAM @sSAO x_1)) ∧ (((0 = 0) ∧ (((0 : Int) = (0 : Int)) ∧ ((((2 : Int) = (2 : Int)) ∧ (((@ByteArray.mk (@List.toArray UInt8 (@List.map Nat UInt8 @UInt8.ofNat [97]))) = (@ByteArray.mk (@List.toArray UInt8 (@List.map Nat UInt8 @UInt8.ofNat [97])))) ∧ (((@ByteArray.mk (@List.toArray UInt8 (@List.map Nat UInt8 @UInt8.ofNat [49]))) = (@ByteArray.mk (@List.toArray UInt8 (@List.map Nat UInt8 @UInt8.ofNat [49])))) ∧ ((es = es) ∧ (((Value.slice none 0 0) = (Value.slice none 0 0)) ∧ (((0 : Int) = (0 : Int)) ∧ (((0 : Int) = (0 : Int)) ∧ ((es = (@ByteArray.mk (@List.toArray UInt8 (@List.nil UInt8)))) ∧ ((Bool.false = Bool.false) ∧ (((0 : Int) = (0 : Int)) ∧ ((Bool.false = Bool.false) ∧ ((es = (@ByteArray.mk (@List.toArray UInt8 (@List.nil UInt8)))) ∧ (((0 : Int) = (0 : Int)) ∧ (((0 : Int) = (0 : Int)) ∧ (((0 : Int) = (0 : Int)) ∧ (((0 : Int) = (0 : Int)) ∧ (((-(1 : Int)) = (-(1 : Int))) ∧ (((0 : Int) = (0 : Int)) ∧ (((0 : Int) = (0 : Int)) ∧ (((Value.slice none 0 0) = (Value.slice none 0 0)) ∧ (((0 : Int) = (0 : Int)) ∧ (((Value.slice none 0 0) = (Value.slice none 0 0)) ∧ (((0 : Int) = (0 : Int)) ∧ ((Bool.false = Bool.false) ∧ ((es = (@ByteArray.mk (@List.toArray UInt8 (@List.nil UInt8)))) ∧ (((Value.slice none 0 0) = (Value.slice none 0 0)) ∧ (((Value.slice none 0 0) = (Value.slice none 0 0)) ∧ (((0 : Int) = (0 : Int)) ∧ True)))))))))))))))))))))))))))) ∧ True))) ∧ (((x_1 = x) ∧ True) ∧ (∀ (y : Own), ((Hd (isMem @sSE1M @sSE1O y)) → ((I64 (2 : Int)) ∧ (∃ (x_2 : Own), ((Hd (isMem @sSE1M @sSE1O x_2)) ∧
 (((0 = 0) ∧ (((0 : Int) = (0 : Int)) ∧ ((((2 : Int) = (2 : Int)) ∧ (((@ByteArray.mk (@List.toArray UInt8 (@List.map Nat UInt8 @UInt8.ofNat [97]))) = (@ByteArray.mk (@List.toArray UInt8 (@List.map Nat UInt8 @UInt8.ofNat [97])))) ∧ (((@ByteArray.mk (@List.toArray UInt8 (@List.map Nat UInt8 @UInt8.ofNat [49]))) = (@ByteArray.mk (@List.toArray UInt8 (@List.map Nat UInt8 @UInt8.ofNat [49])))) ∧ (((@ByteArray.mk (@List.toArray UInt8 (@List.map Nat UInt8 @UInt8.ofNat (@List.nil Nat)))) = (@ByteArray.mk (@List.toArray UInt8 (@List.map Nat UInt8 @UInt8.ofNat (@List.nil Nat))))) ∧ (((Value.slice none 0 0) = (Value.slice none 0 0)) ∧ (((1 : Int) = (1 : Int)) ∧ (((1 : Int) = (1 : Int)) ∧ (((@ByteArray.mk (@List.toArray UInt8 (@List.map Nat UInt8 @UInt8.ofNat (@List.nil Nat)))) = (@ByteArray.mk (@List.toArray UInt8 (@List.map Nat UInt8 @UInt8.ofNat (@List.nil Nat))))) ∧ ((Bool.false = Bool.false) ∧ (((0 : Int) = (0 : Int)) ∧ ((Bool.false = Bool.false) ∧ (((@ByteArray.mk (@List.toArray UInt8 (@List.map Nat UInt8 @UInt8.ofNat (@List.nil Nat)))) = (@ByteArray.mk (@List.toArray UInt8 (@List.map Nat UInt8 @UInt8.ofNat (@List.nil Nat))))) ∧ (((0 : Int) = (0 : Int)) ∧ (((0 : Int) = (0 : Int)) ∧ (((0 : Int) = (0 : Int)) ∧ (((0 : Int) = (0 : Int)) ∧ ((((0 : Int) - (1 : Int)) = ((0 : Int) - (1 : Int))) ∧ (((0 : Int) = (0 : Int)) ∧ (((0 : Int) = (0 : Int)) ∧ (((Value.slice none 0 0) = (Value.slice none 0 0)) ∧ (((0 : Int) = (0 : Int)) ∧ (((Value.slice none 0 0) = (Value.slice none 0 0)) ∧ (((0 : Int) = (0 : Int)) ∧
 ((Bool.false = Bool.false) ∧ (((@ByteArray.mk (@List.toArray UInt8 (@List.map Nat UInt8 @UInt8.ofNat (@List.nil Nat)))) = (@ByteArray.mk (@List.toArray UInt8 (@List.map Nat UInt8 @UInt8.ofNat (@List.nil Nat))))) ∧ (((Value.slice none 0 0) = (Value.slice none 0 0)) ∧ (((Value.slice none 0 0) = (Value.slice none 0 0)) ∧ (((0 : Int) = (0 : Int)) ∧ True)))))))))))))))))))))))))))) ∧ True))) ∧ (((x_2 = y) ∧ True) ∧ (∀ (y_1 : Own), ((Hd (isMem @sSE2M @sSE2O y_1)) → ((I64 (3 : Int)) ∧ (∃ (x_3 : Own), ((Hd (isMem @sSE2M @sSE2O x_3)) ∧ (((0 = 0) ∧ (((0 : Int) = (0 : Int)) ∧ ((((2 : Int) = (2 : Int)) ∧ (((@ByteArray.mk (@List.toArray UInt8 (@List.map Nat UInt8 @UInt8.ofNat [97]))) = (@ByteArray.mk (@List.toArray UInt8 (@List.map Nat UInt8 @UInt8.ofNat [97])))) ∧ (((@ByteArray.mk (@List.toArray UInt8 (@List.map Nat UInt8 @UInt8.ofNat [49]))) = (@ByteArray.mk (@List.toArray UInt8 (@List.map Nat UInt8 @UInt8.ofNat [49])))) ∧ (((@ByteArray.mk (@List.toArray UInt8 (@List.map Nat UInt8 @UInt8.ofNat (@List.nil Nat)))) = (@ByteArray.mk (@List.toArray UInt8 (@List.map Nat UInt8 @UInt8.ofNat (@List.nil Nat))))) ∧ (((Value.slice none 0 0) = (Value.slice none 0 0)) ∧ (((3 : Int) = (3 : Int)) ∧ (((1 : Int) = (1 : Int)) ∧ (((@ByteArray.mk (@List.toArray UInt8 (@List.map Nat UInt8 @UInt8.ofNat (@List.nil Nat)))) = (@ByteArray.mk (@List.toArray UInt8 (@List.map Nat UInt8 @UInt8.ofNat (@List.nil Nat))))) ∧ ((Bool.false = Bool.false) ∧ (((0 : Int) = (0 : Int)) ∧ ((Bool.false = Bool.false) ∧ (((@ByteArray.mk (@List.toArray UInt8 (@List.map Nat UInt8 @UInt8.ofNat (@List.nil Nat)))) = (@ByteArray.mk (@List.toArray UInt8 (@List.map Nat UInt8 @UInt8.ofNat (@List.nil Nat))))) ∧
 (((0 : Int) = (0 : Int)) ∧ (((0 : Int) = (0 : Int)) ∧ (((0 : Int) = (0 : Int)) ∧ (((0 : Int) = (0 : Int)) ∧ ((((0 : Int) - (1 : Int)) = ((0 : Int) - (1 : Int))) ∧ (((0 : Int) = (0 : Int)) ∧ (((0 : Int) = (0 : Int)) ∧ (((Value.slice none 0 0) = (Value.slice none 0 0)) ∧ (((0 : Int) = (0 : Int)) ∧ (((Value.slice none 0 0) = (Value.slice none 0 0)) ∧ (((0 : Int) = (0 : Int)) ∧ ((Bool.false = Bool.false) ∧ (((@ByteArray.mk (@List.toArray UInt8 (@List.map Nat UInt8 @UInt8.ofNat (@List.nil Nat)))) = (@ByteArray.mk (@List.toArray UInt8 (@List.map Nat UInt8 @UInt8.ofNat (@List.nil Nat))))) ∧ (((Value.slice none 0 0) = (Value.slice none 0 0)) ∧ (((Value.slice none 0 0) = (Value.slice none 0 0)) ∧ (((0 : Int) = (0 : Int)) ∧ True)))))))))))))))))))))))))))) ∧ True))) ∧ (((x_3 = y_1) ∧ True) ∧ (∀ (y_2 : Own), ((Hd (isMem @sSE3M @sSE3O y_2)) → ((I64 (4 : Int)) ∧ (∃ (x_4 : Own), ((Hd (isMem @sSE3M @sSE3O x_4)) ∧ (((0 = 0) ∧ (((0 : Int) = (0 : Int)) ∧ ((((2 : Int) = (2 : Int)) ∧ (((@ByteArray.mk (@List.toArray UInt8 (@List.map Nat UInt8 @UInt8.ofNat [97]))) = (@ByteArray.mk (@List.toArray UInt8 (@List.map Nat UInt8 @UInt8.ofNat [97])))) ∧ (((@ByteArray.mk (@List.toArray UInt8 (@List.map Nat UInt8 @UInt8.ofNat [49]))) = (@ByteArray.mk (@List.toArray UInt8 (@List.map Nat UInt8 @UInt8.ofNat [49])))) ∧ (((@ByteArray.mk (@List.toArray UInt8 (@List.map Nat UInt8 @UInt8.ofNat (@List.nil Nat)))) = (@ByteArray.mk (@List.toArray UInt8 (@List.map Nat UInt8 @UInt8.ofNat (@List.nil Nat))))) ∧ (((Value.slice none 0 0) = (Value.slice none 0 0)) ∧
 (((4 : Int) = (4 : Int)) ∧ (((1 : Int) = (1 : Int)) ∧ (((@ByteArray.mk (@List.toArray UInt8 (@List.map Nat UInt8 @UInt8.ofNat (@List.nil Nat)))) = (@ByteArray.mk (@List.toArray UInt8 (@List.map Nat UInt8 @UInt8.ofNat (@List.nil Nat))))) ∧ ((Bool.false = Bool.false) ∧ (((0 : Int) = (0 : Int)) ∧ ((Bool.false = Bool.false) ∧ (((@ByteArray.mk (@List.toArray UInt8 (@List.map Nat UInt8 @UInt8.ofNat (@List.nil Nat)))) = (@ByteArray.mk (@List.toArray UInt8 (@List.map Nat UInt8 @UInt8.ofNat (@List.nil Nat))))) ∧ (((0 : Int) = (0 : Int)) ∧ (((0 : Int) = (0 : Int)) ∧ (((0 : Int) = (0 : Int)) ∧ (((0 : Int) = (0 : Int)) ∧ (((2 : Int) = (2 : Int)) ∧ (((0 : Int) = (0 : Int)) ∧ (((0 : Int) = (0 : Int)) ∧ (((Value.slice none 0 0) = (Value.slice none 0 0)) ∧ (((0 : Int) = (0 : Int)) ∧ (((Value.slice none 0 0) = (Value.slice none 0 0)) ∧ (((0 : Int) = (0 : Int)) ∧ ((Bool.false = Bool.false) ∧ (((@ByteArray.mk (@List.toArray UInt8 (@List.map Nat UInt8 @UInt8.ofNat (@List.nil Nat)))) = (@ByteArray.mk (@List.toArray UInt8 (@List.map Nat UInt8 @UInt8.ofNat (@List.nil Nat))))) ∧ (((Value.slice none 0 0) = (Value.slice none 0 0)) ∧ (((Value.slice none 0 0) = (Value.slice none 0 0)) ∧ (((0 : Int) = (0 : Int)) ∧ True)))))))))))))))))))))))))))) ∧ True))) ∧ (((x_4 = y_2) ∧ True) ∧ (∀ (y_3 : Own), ((Hd (isMem @sSE4M @sSE4O y_3)) → ((I64 (5 : Int)) ∧ (∃ (x_5 : Own), ((Hd (isMem @sSE4M @sSE4O x_5)) ∧ (((0 = 0) ∧ (((0 : Int) = (0 : Int)) ∧ ((((2 : Int) = (2 : Int)) ∧ (((@ByteArray.mk (@List.toArray UInt8 (@List.map Nat UInt8 @UInt8.ofNat [97]))) = (@ByteArray.mk (@List.toArray UInt8 (@List.map Nat UInt8 @UInt8.ofNat [97])))) ∧
 (((@ByteArray.mk (@List.toArray UInt8 (@List.map Nat UInt8 @UInt8.ofNat [49]))) = (@ByteArray.mk (@List.toArray UInt8 (@List.map Nat UInt8 @UInt8.ofNat [49])))) ∧ (((@ByteArray.mk (@List.toArray UInt8 (@List.map Nat UInt8 @UInt8.ofNat (@List.nil Nat)))) = (@ByteArray.mk (@List.toArray UInt8 (@List.map Nat UInt8 @UInt8.ofNat (@List.nil Nat))))) ∧ (((Value.slice none 0 0) = (Value.slice none 0 0)) ∧ (((5 : Int) = (5 : Int)) ∧ (((1 : Int) = (1 : Int)) ∧ (((@ByteArray.mk (@List.toArray UInt8 (@List.map Nat UInt8 @UInt8.ofNat (@List.nil Nat)))) = (@ByteArray.mk (@List.toArray UInt8 (@List.map Nat UInt8 @UInt8.ofNat (@List.nil Nat))))) ∧ ((Bool.false = Bool.false) ∧ (((0 : Int) = (0 : Int)) ∧ ((Bool.false = Bool.false) ∧ (((@ByteArray.mk (@List.toArray UInt8 (@List.map Nat UInt8 @UInt8.ofNat (@List.nil Nat)))) = (@ByteArray.mk (@List.toArray UInt8 (@List.map Nat UInt8 @UInt8.ofNat (@List.nil Nat))))) ∧ (((0 : Int) = (0 : Int)) ∧ (((0 : Int) = (0 : Int)) ∧ (((0 : Int) = (0 : Int)) ∧ (((0 : Int) = (0 : Int)) ∧ (((2 : Int) = (2 : Int)) ∧ (((0 : Int) = (0 : Int)) ∧ (((0 : Int) = (0 : Int)) ∧ (((Value.slice none 0 0) = (Value.slice none 0 0)) ∧ (((0 : Int) = (0 : Int)) ∧ (((Value.slice none 0 0) = (Value.slice none 0 0)) ∧ (((0 : Int) = (0 : Int)) ∧ ((Bool.false = Bool.false) ∧ (((@ByteArray.mk (@List.toArray UInt8 (@List.map Nat UInt8 @UInt8.ofNat (@List.nil Nat)))) = (@ByteArray.mk (@List.toArray UInt8 (@List.map Nat UInt8 @UInt8.ofNat (@List.nil Nat))))) ∧ (((Value.slice none 0 0) = (Value.slice none 0 0)) ∧
 (((Value.slice none 0 0) = (Value.slice none 0 0)) ∧ (((0 : Int) = (0 : Int)) ∧ True)))))))))))))))))))))))))))) ∧ True))) ∧ (((x_5 = y_3) ∧ True) ∧ (∀ (y_4 : Own), ((Hd (isMem @sSE5M @sSE5O y_4)) → ((I64 (6 : Int)) ∧ (∃ (x_6 : Own), ((Hd (isMem @sSE5M @sSE5O x_6)) ∧ (((0 = 0) ∧ (((0 : Int) = (0 : Int)) ∧ ((((2 : Int) = (2 : Int)) ∧ (((@ByteArray.mk (@List.toArray UInt8 (@List.map Nat UInt8 @UInt8.ofNat [97]))) = (@ByteArray.mk (@List.toArray UInt8 (@List.map Nat UInt8 @UInt8.ofNat [97])))) ∧ (((@ByteArray.mk (@List.toArray UInt8 (@List.map Nat UInt8 @UInt8.ofNat [49]))) = (@ByteArray.mk (@List.toArray UInt8 (@List.map Nat UInt8 @UInt8.ofNat [49])))) ∧ (((@ByteArray.mk (@List.toArray UInt8 (@List.map Nat UInt8 @UInt8.ofNat (@List.nil Nat)))) = (@ByteArray.mk (@List.toArray UInt8 (@List.map Nat UInt8 @UInt8.ofNat (@List.nil Nat))))) ∧ (((Value.slice none 0 0) = (Value.slice none 0 0)) ∧ (((6 : Int) = (6 : Int)) ∧ (((1 : Int) = (1 : Int)) ∧ (((@ByteArray.mk (@List.toArray UInt8 (@List.map Nat UInt8 @UInt8.ofNat (@List.nil Nat)))) = (@ByteArray.mk (@List.toArray UInt8 (@List.map Nat UInt8 @UInt8.ofNat (@List.nil Nat))))) ∧ ((Bool.false = Bool.false) ∧ (((0 : Int) = (0 : Int)) ∧ ((Bool.false = Bool.false) ∧ (((@ByteArray.mk (@List.toArray UInt8 (@List.map Nat UInt8 @UInt8.ofNat (@List.nil Nat)))) = (@ByteArray.mk (@List.toArray UInt8 (@List.map Nat UInt8 @UInt8.ofNat (@List.nil Nat))))) ∧ (((0 : Int) = (0 : Int)) ∧ (((0 : Int) = (0 : Int)) ∧ (((0 : Int) = (0 : Int)) ∧ (((0 : Int) = (0 : Int)) ∧
 ((((0 : Int) - (1 : Int)) = ((0 : Int) - (1 : Int))) ∧ (((0 : Int) = (0 : Int)) ∧ (((0 : Int) = (0 : Int)) ∧ (((Value.slice none 0 0) = (Value.slice none 0 0)) ∧ (((0 : Int) = (0 : Int)) ∧ (((Value.slice none 0 0) = (Value.slice none 0 0)) ∧ (((0 : Int) = (0 : Int)) ∧ ((Bool.false = Bool.false) ∧ (((@ByteArray.mk (@List.toArray UInt8 (@List.map Nat UInt8 @UInt8.ofNat (@List.nil Nat)))) = (@ByteArray.mk (@List.toArray UInt8 (@List.map Nat UInt8 @UInt8.ofNat (@List.nil Nat))))) ∧ (((Value.slice none 0 0) = (Value.slice none 0 0)) ∧ (((Value.slice none 0 0) = (Value.slice none 0 0)) ∧ (((1 : Int) = (1 : Int)) ∧ True)))))))))))))))))))))))))))) ∧ True))) ∧ (((x_6 = y_4) ∧ True) ∧ (∀ (y_5 : Own), ((Hd (isMem @sSE6M @sSE6O y_5)) → (∃ (y_6 : Own), ((Hd (isMem @sSE6M @sSE6O y_6)) ∧ (((((0 : Int) = (0 : Int)) ∧ ((Bool.false = Bool.false) ∧ ((es = (@ByteArray.mk (@List.toArray UInt8 (@List.map Nat UInt8 @UInt8.ofNat (@List.nil Nat))))) ∧ (((Value.slice none 0 0) = (Value.slice none 0 0)) ∧ (((Value.slice none 0 0) = (Value.slice none 0 0)) ∧ (((1 : Int) = (1 : Int)) ∧ True)))))) ∧ (((6 : Int) = (6 : Int)) ∧ ((Bool.true = Bool.true) ∧ True))) ∧ ((y_6 = y_5) ∧ True)))))))))))))))))))))))))))))))))))))))))))))
theorem runPutPVC_ok (x : Own) : runPutPVC x = runPutPVC_wp x := by kernel_rfl
def runGetPVC_wp (x : Own) : Prop := wpF Tryz.prog [(35, byI phaseOf getPL)] tt noAn 400 6 84 (getPC.args x) (hO getPC.k (getPC.os x)) (fun v h' => endsP getPC.k x v h' getPC.outs)
def runGetPVC (x : Own) : Prop :=
  (∃ (x_1 : Own), ((Hd (isMem @sSE6M @sSE6O x_1)) ∧ (((0 = 0) ∧ (((0 : Int) = (0 : Int)) ∧ ((((1 : Int) = (1 : Int)) ∧ (((@ByteArray.mk (@List.toArray UInt8 (@List.map Nat UInt8 @UInt8.ofNat [97]))) = (@ByteArray.mk (@List.toArray UInt8 (@List.map Nat UInt8 @UInt8.ofNat [97])))) ∧ ((es = es) ∧ ((es = es) ∧ (((Value.slice none 0 0) = (Value.slice none 0 0)) ∧ (((0 : Int) = (0 : Int)) ∧ (((0 : Int) = (0 : Int)) ∧ ((es = (@ByteArray.mk (@List.toArray UInt8 (@List.nil UInt8)))) ∧ ((Bool.false = Bool.false) ∧ (((0 : Int) = (0 : Int)) ∧ ((Bool.false = Bool.false) ∧ ((es = (@ByteArray.mk (@List.toArray UInt8 (@List.nil UInt8)))) ∧ (((0 : Int) = (0 : Int)) ∧ (((0 : Int) = (0 : Int)) ∧ (((0 : Int) = (0 : Int)) ∧ (((0 : Int) = (0 : Int)) ∧ (((-(1 : Int)) = (-(1 : Int))) ∧ (((0 : Int) = (0 : Int)) ∧ (((0 : Int) = (0 : Int)) ∧ (((Value.slice none 0 0) = (Value.slice none 0 0)) ∧ (((0 : Int) = (0 : Int)) ∧ (((Value.slice none 0 0) = (Value.slice none 0 0)) ∧ (((0 : Int) = (0 : Int)) ∧ ((Bool.false = Bool.false) ∧ ((es = (@ByteArray.mk (@List.toArray UInt8 (@List.nil UInt8)))) ∧ (((Value.slice none 0 0) = (Value.slice none 0 0)) ∧ (((Value.slice none 0 0) = (Value.slice none 0 0)) ∧ (((0 : Int) = (0 : Int)) ∧ True)))))))))))))))))))))))))))) ∧ True))) ∧ (((x_1 = x) ∧ True) ∧ (∀ (y : Own), ((Hd (isMem @sSL1M @sSL1O y)) → ((I64 (2 : Int)) ∧ (∃ (x_2 : Own), ((Hd (isMem @sSL1M @sSL1O x_2)) ∧ (((0 = 0) ∧ (((0 : Int) = (0 : Int)) ∧ ((((1 : Int) = (1 : Int)) ∧ (((@ByteArray.mk (@List.toArray UInt8 (@List.map Nat UInt8 @UInt8.ofNat [97]))) = (@ByteArray.mk (@List.toArray UInt8 (@List.map Nat UInt8 @UInt8.ofNat [97])))) ∧
 (((@ByteArray.mk (@List.toArray UInt8 (@List.map Nat UInt8 @UInt8.ofNat (@List.nil Nat)))) = (@ByteArray.mk (@List.toArray UInt8 (@List.map Nat UInt8 @UInt8.ofNat (@List.nil Nat))))) ∧ (((@ByteArray.mk (@List.toArray UInt8 (@List.map Nat UInt8 @UInt8.ofNat (@List.nil Nat)))) = (@ByteArray.mk (@List.toArray UInt8 (@List.map Nat UInt8 @UInt8.ofNat (@List.nil Nat))))) ∧ (((Value.slice none 0 0) = (Value.slice none 0 0)) ∧ (((1 : Int) = (1 : Int)) ∧ (((1 : Int) = (1 : Int)) ∧ (((@ByteArray.mk (@List.toArray UInt8 (@List.map Nat UInt8 @UInt8.ofNat (@List.nil Nat)))) = (@ByteArray.mk (@List.toArray UInt8 (@List.map Nat UInt8 @UInt8.ofNat (@List.nil Nat))))) ∧ ((Bool.false = Bool.false) ∧ (((0 : Int) = (0 : Int)) ∧ ((Bool.false = Bool.false) ∧ (((@ByteArray.mk (@List.toArray UInt8 (@List.map Nat UInt8 @UInt8.ofNat (@List.nil Nat)))) = (@ByteArray.mk (@List.toArray UInt8 (@List.map Nat UInt8 @UInt8.ofNat (@List.nil Nat))))) ∧ (((0 : Int) = (0 : Int)) ∧ (((0 : Int) = (0 : Int)) ∧ (((0 : Int) = (0 : Int)) ∧ (((0 : Int) = (0 : Int)) ∧ ((((0 : Int) - (1 : Int)) = ((0 : Int) - (1 : Int))) ∧ (((0 : Int) = (0 : Int)) ∧ (((0 : Int) = (0 : Int)) ∧ (((Value.slice none 0 0) = (Value.slice none 0 0)) ∧ (((0 : Int) = (0 : Int)) ∧ (((Value.slice none 0 0) = (Value.slice none 0 0)) ∧ (((0 : Int) = (0 : Int)) ∧ ((Bool.false = Bool.false) ∧ (((@ByteArray.mk (@List.toArray UInt8 (@List.map Nat UInt8 @UInt8.ofNat (@List.nil Nat)))) = (@ByteArray.mk (@List.toArray UInt8 (@List.map Nat UInt8 @UInt8.ofNat (@List.nil Nat))))) ∧
 (((Value.slice none 0 0) = (Value.slice none 0 0)) ∧ (((Value.slice none 0 0) = (Value.slice none 0 0)) ∧ (((0 : Int) = (0 : Int)) ∧ True)))))))))))))))))))))))))))) ∧ True))) ∧ (((x_2 = y) ∧ True) ∧ (∀ (y_1 : Own), ((Hd (isMem @sSL2M @sSL2O y_1)) → ((I64 (3 : Int)) ∧ (∃ (x_3 : Own), ((Hd (isMem @sSL2M @sSL2O x_3)) ∧ (((0 = 0) ∧ (((0 : Int) = (0 : Int)) ∧ ((((1 : Int) = (1 : Int)) ∧ (((@ByteArray.mk (@List.toArray UInt8 (@List.map Nat UInt8 @UInt8.ofNat [97]))) = (@ByteArray.mk (@List.toArray UInt8 (@List.map Nat UInt8 @UInt8.ofNat [97])))) ∧ (((@ByteArray.mk (@List.toArray UInt8 (@List.map Nat UInt8 @UInt8.ofNat (@List.nil Nat)))) = (@ByteArray.mk (@List.toArray UInt8 (@List.map Nat UInt8 @UInt8.ofNat (@List.nil Nat))))) ∧ (((@ByteArray.mk (@List.toArray UInt8 (@List.map Nat UInt8 @UInt8.ofNat (@List.nil Nat)))) = (@ByteArray.mk (@List.toArray UInt8 (@List.map Nat UInt8 @UInt8.ofNat (@List.nil Nat))))) ∧ (((Value.slice none 0 0) = (Value.slice none 0 0)) ∧ (((2 : Int) = (2 : Int)) ∧ (((1 : Int) = (1 : Int)) ∧ (((@ByteArray.mk (@List.toArray UInt8 (@List.map Nat UInt8 @UInt8.ofNat (@List.nil Nat)))) = (@ByteArray.mk (@List.toArray UInt8 (@List.map Nat UInt8 @UInt8.ofNat (@List.nil Nat))))) ∧ ((Bool.false = Bool.false) ∧ (((0 : Int) = (0 : Int)) ∧ ((Bool.true = Bool.true) ∧ (((@ByteArray.mk (@List.toArray UInt8 (@List.map Nat UInt8 @UInt8.ofNat [97]))) = (@ByteArray.mk (@List.toArray UInt8 (@List.map Nat UInt8 @UInt8.ofNat [97])))) ∧ (((1 : Int) = (1 : Int)) ∧ (((1 : Int) = (1 : Int)) ∧
 (((2 : Int) = (2 : Int)) ∧ (((0 : Int) = (0 : Int)) ∧ ((((0 : Int) - (1 : Int)) = ((0 : Int) - (1 : Int))) ∧ (((0 : Int) = (0 : Int)) ∧ (((0 : Int) = (0 : Int)) ∧ (((Value.slice none 0 0) = (Value.slice none 0 0)) ∧ (((0 : Int) = (0 : Int)) ∧ (((Value.slice none 0 0) = (Value.slice none 0 0)) ∧ (((0 : Int) = (0 : Int)) ∧ ((Bool.false = Bool.false) ∧ (((@ByteArray.mk (@List.toArray UInt8 (@List.map Nat UInt8 @UInt8.ofNat (@List.nil Nat)))) = (@ByteArray.mk (@List.toArray UInt8 (@List.map Nat UInt8 @UInt8.ofNat (@List.nil Nat))))) ∧ (((Value.slice none 0 0) = (Value.slice none 0 0)) ∧ (((Value.slice none 0 0) = (Value.slice none 0 0)) ∧ (((0 : Int) = (0 : Int)) ∧ True)))))))))))))))))))))))))))) ∧ True))) ∧ (((x_3 = y_1) ∧ True) ∧ (∀ (y_2 : Own), ((Hd (isMem @sSL3M @sSL3O y_2)) → ((I64 (4 : Int)) ∧ (∃ (x_4 : Own), ((Hd (isMem @sSL3M @sSL3O x_4)) ∧ (((0 = 0) ∧ (((0 : Int) = (0 : Int)) ∧ ((((1 : Int) = (1 : Int)) ∧ (((@ByteArray.mk (@List.toArray UInt8 (@List.map Nat UInt8 @UInt8.ofNat [97]))) = (@ByteArray.mk (@List.toArray UInt8 (@List.map Nat UInt8 @UInt8.ofNat [97])))) ∧ (((@ByteArray.mk (@List.toArray UInt8 (@List.map Nat UInt8 @UInt8.ofNat (@List.nil Nat)))) = (@ByteArray.mk (@List.toArray UInt8 (@List.map Nat UInt8 @UInt8.ofNat (@List.nil Nat))))) ∧ (((@ByteArray.mk (@List.toArray UInt8 (@List.map Nat UInt8 @UInt8.ofNat (@List.nil Nat)))) = (@ByteArray.mk (@List.toArray UInt8 (@List.map Nat UInt8 @UInt8.ofNat (@List.nil Nat))))) ∧ (((Value.slice none 0 0) = (Value.slice none 0 0)) ∧
 (((6 : Int) = (6 : Int)) ∧ (((1 : Int) = (1 : Int)) ∧ (((@ByteArray.mk (@List.toArray UInt8 (@List.map Nat UInt8 @UInt8.ofNat (@List.nil Nat)))) = (@ByteArray.mk (@List.toArray UInt8 (@List.map Nat UInt8 @UInt8.ofNat (@List.nil Nat))))) ∧ ((Bool.false = Bool.false) ∧ (((0 : Int) = (0 : Int)) ∧ ((Bool.true = Bool.true) ∧ (((@ByteArray.mk (@List.toArray UInt8 (@List.map Nat UInt8 @UInt8.ofNat [97]))) = (@ByteArray.mk (@List.toArray UInt8 (@List.map Nat UInt8 @UInt8.ofNat [97])))) ∧ (((1 : Int) = (1 : Int)) ∧ (((1 : Int) = (1 : Int)) ∧ (((2 : Int) = (2 : Int)) ∧ (((0 : Int) = (0 : Int)) ∧ ((((0 : Int) - (1 : Int)) = ((0 : Int) - (1 : Int))) ∧ (((0 : Int) = (0 : Int)) ∧ (((1 : Int) = (1 : Int)) ∧ (((Value.slice none 0 0) = (Value.slice none 0 0)) ∧ (((0 : Int) = (0 : Int)) ∧ (((Value.slice none 0 0) = (Value.slice none 0 0)) ∧ (((0 : Int) = (0 : Int)) ∧ ((Bool.true = Bool.true) ∧ (((@ByteArray.mk (@List.toArray UInt8 (@List.map Nat UInt8 @UInt8.ofNat [49]))) = (@ByteArray.mk (@List.toArray UInt8 (@List.map Nat UInt8 @UInt8.ofNat [49])))) ∧ (((Value.slice none 0 0) = (Value.slice none 0 0)) ∧ (((Value.slice none 0 0) = (Value.slice none 0 0)) ∧ (((0 : Int) = (0 : Int)) ∧ True)))))))))))))))))))))))))))) ∧ True))) ∧ (((x_4 = y_2) ∧ True) ∧ (∀ (y_3 : Own), ((Hd (isMem @sSL4M @sSL4O y_3)) → (∃ (y_4 : Own), ((Hd (isMem @sSL4M @sSL4O y_4)) ∧ (((((0 : Int) = (0 : Int)) ∧ ((Bool.true = Bool.true) ∧ (((@ByteArray.mk (@List.toArray UInt8 (@List.map Nat UInt8 @UInt8.ofNat [49]))) = (@ByteArray.mk (@List.toArray UInt8 (@List.map Nat UInt8 @UInt8.ofNat [49])))) ∧
 (((Value.slice none 0 0) = (Value.slice none 0 0)) ∧ (((Value.slice none 0 0) = (Value.slice none 0 0)) ∧ (((0 : Int) = (0 : Int)) ∧ True)))))) ∧ (((4 : Int) = (4 : Int)) ∧ ((Bool.true = Bool.true) ∧ True))) ∧ ((y_4 = y_3) ∧ True)))))))))))))))))))))))))))))))
theorem runGetPVC_ok (x : Own) : runGetPVC x = runGetPVC_wp x := by kernel_rfl
def awakePVC_wp (x : Unit) : Prop := wpF Tryz.prog [(15, ctrT newC), (84, byI kindOf [(2, ctrT putPC), (1, ctrT getPC)])] tt noAn 400 6 34 [] (hO 0 []) (fun v _ => v = boo true)
def awakePVC (x : Unit) : Prop :=
  (∃ (x_1 : Unit), (True ∧ ((((10 : Int) = (10 : Int)) ∧ (((1 : Int) = (1 : Int)) ∧ True)) ∧ (True ∧ (∀ (y : Own), ((Hd (isMem @sSAM @sSAO y)) → (∃ (x_2 : Own), ((Hd (isMem @sSAM @sSAO x_2)) ∧ (((0 = 0) ∧ (((0 : Int) = (0 : Int)) ∧ ((((2 : Int) = (2 : Int)) ∧ (((@ByteArray.mk (@List.toArray UInt8 (@List.map Nat UInt8 @UInt8.ofNat [97]))) = (@ByteArray.mk (@List.toArray UInt8 [(97 : UInt8)]))) ∧ (((@ByteArray.mk (@List.toArray UInt8 (@List.map Nat UInt8 @UInt8.ofNat [49]))) = (@ByteArray.mk (@List.toArray UInt8 [(49 : UInt8)]))) ∧ ((es = (@ByteArray.mk (@List.toArray UInt8 (@List.nil UInt8)))) ∧ (((Value.slice none 0 0) = (Value.slice none 0 0)) ∧ True))))) ∧ True))) ∧ (((x_2 = y) ∧ True) ∧ (∀ (y_1 : Own), ((Hd (isMem @sSE6M @sSE6O y_1)) → (∃ (x_3 : Own), ((Hd (isMem @sSE6M @sSE6O x_3)) ∧ (((0 = 0) ∧ (((0 : Int) = (0 : Int)) ∧ ((((1 : Int) = (1 : Int)) ∧ (((@ByteArray.mk (@List.toArray UInt8 (@List.map Nat UInt8 @UInt8.ofNat [97]))) = (@ByteArray.mk (@List.toArray UInt8 [(97 : UInt8)]))) ∧ ((es = (@ByteArray.mk (@List.toArray UInt8 (@List.nil UInt8)))) ∧ ((es = (@ByteArray.mk (@List.toArray UInt8 (@List.nil UInt8)))) ∧ (((Value.slice none 0 0) = (Value.slice none 0 0)) ∧ True))))) ∧ True))) ∧ (((x_3 = y_1) ∧ True) ∧ (∀ (y_2 : Own), ((Hd (isMem @sSL4M @sSL4O y_2)) → ((AV.lit (Value.bool Bool.true)) = (AV.lit (Value.bool Bool.true)))))))))))))))))))))
theorem awakePVC_ok (x : Unit) : awakePVC x = awakePVC_wp x := by kernel_rfl
end Go.Proofs.YtnlpcbdmllpddaaGreat
end
section
/- Point's awake. -/
namespace Go.Proofs.YtnlpcbdmllpddaaGreat
open Go SE
theorem runPutPVC_true (x : Own) (hx : Hd (isMem sSAM sSAO x)) : runPutPVC x := by
  unfold runPutPVC
  simp +contextual [hx, es, I64]
theorem runGetPVC_true (x : Own) (hx : Hd (isMem sSE6M sSE6O x)) : runGetPVC x := by
  unfold runGetPVC
  simp +contextual [hx, es, I64]
theorem putP_ok : CtrOk Tryz.prog 84 putPC := ctr_endL tt_ok mixed (.cons (byT_ok putPL_ok) .nil) (C := putPC) (fun _ => noAn) 400 6 (fun _ => rfl) (fun _ => ⟨fun _ => rfl, trivial⟩) fun x hx => Eq.mp (runPutPVC_ok x) (runPutPVC_true x hx)
theorem getP_ok : CtrOk Tryz.prog 84 getPC := ctr_endL tt_ok mixed (.cons (byT_ok getPL_ok) .nil) (C := getPC) (fun _ => noAn) 400 6 (fun _ => rfl) (fun _ => ⟨fun _ => rfl, trivial⟩) fun x hx => Eq.mp (runGetPVC_ok x) (runGetPVC_true x hx)
theorem awakePVC_true : awakePVC () := by
  unfold awakePVC
  simp +contextual [es, I64]
theorem awakeP_sp : Sp Tryz.prog 34 [] (hO 0 []) (fun v _ => v = .lit (.bool true)) :=
  wpF_ok tt_ok mixed (.cons (ctrT_ok new_ok) (.cons (byT_ok (l := [(2, _), (1, _)]) ⟨ctrT_ok putP_ok, ctrT_ok getP_ok, trivial⟩) .nil)) noAn 400 6 _ _ _ _ (Eq.mp (awakePVC_ok ()) awakePVC_true)
end Go.Proofs.YtnlpcbdmllpddaaGreat
end
section
/- PointNone: the call. -/
namespace Go.Proofs.YtnlpcbdmllpddaaGreat
open Go SE
theorem last5 {c : Cll} (hs : c.small) : ∃ x7 : Cll, x7.small ∧ (x7.kind = c.kind ∧ x7.key = c.key ∧ x7.value = c.value ∧ x7.to = c.to ∧ x7.gn = c.gn) ∧
    (x7.gn = c.gn ∧ ∀ q, q < x7.gn → [Value.int IntKind.i64 (x7.g q).kind, Value.string (x7.g q).key, Value.string (x7.g q).value, Value.string (x7.g q).to, Value.slice (x7.g q).gp (x7.g q).gn (x7.g q).gc] = [Value.int IntKind.i64 (c.g q).kind, Value.string (c.g q).key, Value.string (c.g q).value, Value.string (c.g q).to, Value.slice (c.g q).gp (c.g q).gn (c.g q).gc]) ∧
    cP (goodM x7 == 0) (cP (badM c == 1) True (AV.lit (Value.bool false) = AV.lit (Value.bool true))) (cP (badM c == goodM x7) True (AV.lit (Value.bool false) = AV.lit (Value.bool true))) := by
  refine ⟨c, hs, ⟨rfl, rfl, rfl, rfl, rfl⟩, ⟨rfl, fun _ _ => rfl⟩, cP_intro (fun h => cP_intro (fun _ => trivial) (fun h2 => ?_)) (fun h => cP_intro (fun _ => trivial) (fun h2 => ?_))⟩
  · have hg : goodM c = 0 := by simpa using h
    simp [bad0 hg] at h2
  · have hg : goodM c ≠ 0 := by simpa using h
    simp [bad1 hg] at h2
theorem pNoneVC_true (c : Cll) (t : Int) : pNoneVC c t := by
  unfold pNoneVC
  simp only [hd_iff, and_true, true_and, Nat.zero_add, Nat.add_zero, unit_ex, unit_all, true_implies, implies_true, Int.toNat_natCast, eq_self, and_self]
  refine ⟨c, ⟨rfl, rfl, rfl, rfl, rfl⟩, ⟨rfl, fun _ _ => rfl⟩, fun y hy => cP_intro (fun h => trivial) (fun h => ?_)⟩
  have hs : c.small := hy (by have := of_decide_eq_false h; omega)
  refine ⟨c, hs, ⟨rfl, rfl, rfl, rfl, rfl⟩, ⟨rfl, fun _ _ => rfl⟩, ?_, ?_⟩
  · intro h0
    refine ⟨c, ⟨rfl, rfl, rfl, rfl⟩, (t, c), ⟨rfl, rfl, rfl, rfl, rfl⟩, c, ⟨⟨rfl, rfl, rfl, rfl⟩, rfl, rfl, rfl, rfl⟩, fun m hm => ?_⟩
    refine cP_intro (fun k => ?_) (fun k1 => cP_intro (fun k => ?_) (fun k2 => cP_intro (fun k => ?_) (fun k3 => ?_)))
    · have hk : c.kind = 1 := by simpa using k
      exact ⟨(m, c), ⟨hm, h0, by dsimp only; omega, by dsimp only; omega⟩, ⟨rfl, rfl, rfl, rfl⟩, rfl, last5 hs⟩
    · have hk : c.kind = 2 := by simpa using k
      exact ⟨(m, c), ⟨hm, h0, by dsimp only; omega, by dsimp only; omega⟩, ⟨rfl, rfl, rfl, rfl⟩, rfl, last5 hs⟩
    · have hk : c.kind = 3 := by simpa using k
      exact ⟨(m, c), ⟨hm, h0, by dsimp only; omega, by dsimp only; omega⟩, ⟨rfl, rfl, rfl, rfl⟩, rfl, last5 hs⟩
    · have g1 : c.kind ≠ 1 := by simpa using k1
      have g2 : c.kind ≠ 2 := by simpa using k2
      have g3 : c.kind ≠ 3 := by simpa using k3
      exact ⟨(m, c), by unfold isP; dsimp only; omega, ⟨rfl, rfl, rfl, rfl⟩, rfl, c, ⟨rfl, rfl, rfl, rfl⟩, rfl, rfl, rfl, rfl⟩
  · intro h1
    refine ⟨c, ⟨hs, h1⟩, ⟨rfl, rfl, rfl, rfl, rfl⟩, ⟨rfl, fun _ _ => rfl⟩, fun p => ?_⟩
    refine ⟨(t, ⟨c, p⟩), ⟨hs, h1⟩, ⟨rfl, rfl, rfl, rfl, rfl, rfl⟩, ⟨rfl, fun _ _ => rfl⟩, fun p1 => ⟨⟨c, p1, p⟩, ⟨hs, h1⟩, ⟨⟨rfl, rfl, rfl, rfl, rfl⟩, rfl, rfl, rfl, rfl, rfl⟩, ⟨⟨rfl, fun _ _ => rfl⟩, rfl, fun _ _ => rfl⟩, fun m hm => ?_⟩⟩
    refine cP_intro (fun k => ?_) (fun k1 => cP_intro (fun k => ?_) (fun k2 => cP_intro (fun k => ?_) (fun k3 => ?_)))
    · have hk : c.kind = 1 := by simpa using k
      exact ⟨(m, ⟨c, p⟩), ⟨hm, ⟨hs, h1⟩, by dsimp only; omega, by dsimp only; omega⟩, ⟨rfl, rfl, rfl, rfl, rfl⟩, ⟨rfl, rfl, fun _ _ => rfl⟩, last5 hs⟩
    · have hk : c.kind = 2 := by simpa using k
      exact ⟨(m, ⟨c, p⟩), ⟨hm, ⟨hs, h1⟩, by dsimp only; omega, by dsimp only; omega⟩, ⟨rfl, rfl, rfl, rfl, rfl⟩, ⟨rfl, rfl, fun _ _ => rfl⟩, last5 hs⟩
    · have hk : c.kind = 3 := by simpa using k
      exact ⟨(m, ⟨c, p⟩), ⟨hm, ⟨hs, h1⟩, by dsimp only; omega, by dsimp only; omega⟩, ⟨rfl, rfl, rfl, rfl, rfl⟩, ⟨rfl, rfl, fun _ _ => rfl⟩, last5 hs⟩
    · have g1 : c.kind ≠ 1 := by simpa using k1
      have g2 : c.kind ≠ 2 := by simpa using k2
      have g3 : c.kind ≠ 3 := by simpa using k3
      exact ⟨(m, ⟨c, p⟩), ⟨⟨hs, h1⟩, by unfold isP; dsimp only; omega⟩, ⟨rfl, rfl, rfl, rfl, rfl⟩, ⟨rfl, rfl, fun _ _ => rfl⟩, fun p2 => ⟨⟨c, p2, p⟩, ⟨hs, h1⟩, ⟨⟨rfl, rfl, rfl, rfl, rfl⟩, rfl, rfl, rfl, rfl, rfl⟩, ⟨rfl, fun _ _ => rfl⟩, rfl, fun _ _ => rfl⟩⟩
theorem tblPN_ok : TblOk Tryz.prog tblPN := .cons (ctrT_ok weight_ok) (.cons (ctrT_ok copy2_ok) (.cons beginT_ok (.cons (ctrT_ok new_ok) (.cons sameTk_ok (.cons pStepT_ok (.cons goodT_ok (.cons (ctrT_ok (say_ok awakeP_sp)) .nil)))))))
theorem pNone_sp (c : Cll) (t : Int) : Sp Tryz.prog 6 [i64 t, c.av 0] (hO 1 c.os) (fun v _ => v = boo true) :=
  wpF_ok tt_ok mixed tblPN_ok noAn 400 6 _ _ _ _ (Eq.mp (pNoneVC_ok c t) (pNoneVC_true c t))
end Go.Proofs.YtnlpcbdmllpddaaGreat
end
section
/- A call that came in, opened. -/
namespace Go.Proofs.YtnlpcbdmllpddaaGreat
open Go SE
open Go.ChangeShapes Go.WideShapes Go.ChangeAt Go.RowKit
theorem own : ownKnob Tryz.prog.godebug = none := by kernel_rfl
theorem laidOut : laidOutB Tryz.prog = true := by kernel_rfl
theorem cells3 : Tryz.prog.cellsOf 3 = 1 := by kernel_rfl
theorem cells9 : Tryz.prog.cellsOf 9 = 1 := by kernel_rfl
theorem cells26 : Tryz.prog.cellsOf 22 = 1 := by kernel_rfl
theorem cells28 : Tryz.prog.cellsOf 24 = 5 := by kernel_rfl
theorem ct28 : Tryz.prog.cellTypes Tryz.prog.depth 24 = some [3, 9, 9, 9, 22] := by kernel_rfl
set_option maxRecDepth 20000 in
theorem trod_call {H : Type} {enc : TypeId × Value → H} {w : World} {base : Nat} {spare : Nat → Bool} {held : Bool} {fuel : Nat} {cs : List Value} {x : DataW H × List MemPlace} (h : DataW.trod enc Tryz.prog w base spare held fuel 24 cs = some x) :
    ∃ l : Mem, cs = l.cells ∧ ∃ fuel' y, DataW.trod enc Tryz.prog w base spare held fuel' 22 [.slice l.gp l.gn l.gc] = some y := by
  obtain ⟨hl, hf⟩ := trod_struct Tryz.underlying24 h
  rw [cells28] at hl
  match cs, hl with
  | [c0, c1, c2, c3, c4], _ =>
    simp only [List.forall_mem_cons, cells3, cells9, cells26, List.drop_zero, List.take_succ_cons, List.take_zero, List.drop_succ_cons] at hf
    obtain ⟨⟨_, _, h0⟩, ⟨_, _, h1⟩, ⟨_, _, h2⟩, ⟨_, _, h3⟩, ⟨_, _, h4⟩, _⟩ := hf
    obtain ⟨n0, e0, _⟩ := DataW.trod_int Tryz.underlying3 h0
    obtain ⟨s1, e1, _⟩ := DataW.trod_string Tryz.underlying9 h1
    obtain ⟨s2, e2, _⟩ := DataW.trod_string Tryz.underlying9 h2
    obtain ⟨s3, e3, _⟩ := DataW.trod_string Tryz.underlying9 h3
    simp only [List.cons.injEq, and_true] at e0 e1 e2 e3
    subst e0 e1 e2 e3
    rcases trod_slice Tryz.underlying22 h4 with e4 | ⟨a, len, cap, e4, _⟩
    · simp only [List.cons.injEq, and_true] at e4
      subst e4
      exact ⟨⟨n0, s1, s2, s3, none, 0, 0⟩, rfl, _, _, h4⟩
    · simp only [List.cons.injEq, and_true] at e4
      subst e4
      exact ⟨⟨n0, s1, s2, s3, some a, len, cap⟩, rfl, _, _, h4⟩
set_option maxRecDepth 20000 in
theorem open_call {H : Type} {enc : TypeId × Value → H} {W : World} {v : Value} {d : DataW H} {ps : List MemPlace} (hok : Value.okWide Tryz.prog W .any 0 24 v) (h : DataW.Trod enc Tryz.prog W 0 (fun _ => true) true 24 v d ps) :
    ∃ (s : Cll) (a : SE.Loc), (∀ (ρ : Ren) (i : Nat), ρ i = some a → VRel ρ (s.av i) v) ∧ ∀ (ρ : Ren) (S : Nat → Prop), OHolds ρ W (fun b => W.heap.size ≤ b) a S (.ro (rowG s)) := by
  obtain ⟨fuel, h⟩ := h
  unfold Value.okWide at hok
  simp only [Tryz.underlying24] at hok
  obtain ⟨cs, rfl, _, hr⟩ := hok
  obtain ⟨l, hl, fuel', y, h4⟩ := trod_call h
  obtain ⟨L⟩ := cs
  have hl : L = l.cells := hl
  subst hl
  have k4 : Cell.okWide Tryz.prog W .any 0 22 (.slice l.gp l.gn l.gc) := row_cell hr ct28 (i := 4) rfl rfl
  obtain ⟨z, c, n, a, _, _, _, hv, ho⟩ := open_cellZ (T := fun b => W.heap.size ≤ b) (f := Mem.cells) (m := 5) ⟨0, ByteArray.empty, ByteArray.empty, ByteArray.empty, none, 0, 0⟩ (fun _ => True) (fun _ => rfl) (by omega) Tryz.underlying22 cells28 k4 h4 (fun b hb => by omega)
    (fun fuel cs y h => by obtain ⟨l, e, _⟩ := trod_call h; exact ⟨l, trivial, e⟩)
  refine ⟨⟨l.kind, l.key, l.value, l.to, c, n⟩, a, fun ρ i hi => ?_, fun ρ S => ho ρ S⟩
  simp only [Cll.av, VRel]
  exact ⟨_, rfl, .cons rfl (.cons rfl (.cons rfl (.cons rfl (.cons (hv ρ i hi).2 .nil))))⟩
end Go.Proofs.YtnlpcbdmllpddaaGreat
end
