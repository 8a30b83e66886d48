import Derived.Test.YtjndgegfonhhfaaWba
import Derived.Test.YtjndgegfonhhfaaWbb
import Derived.Test.YtjndgegfonhhfaaWbc
import Derived.Test.YtjndgegfonhhfaaWbd
import Derived.Test.YtjndgegfonhhfaaWbe
import Derived.Test.YtjndgegfonhhfaaWbf
import Derived.Test.YtjndgegfonhhfaaWbg
import Derived.KernelRfl
set_option linter.unusedVariables false
set_option linter.unusedSimpArgs false
section
/- What a call does to a store: what is asked. -/
namespace Go.Proofs.Ytjndgegfonhhfaa
open Go SE
def getAVC_wp (x : SK) : Prop := wpF Try.prog [(68, ctrT placeA)] tt noAn 200 5 36 (getA.args x) (hO getA.k (getA.os x)) (fun v h' => endsP getA.k x v h' getA.outs)
def getAVC (x : SK) : Prop :=
  (∃ (x_1 : @SK), ((Hd (@SV.ok (@SV.mk x_1.s x_1.key es) Bool.false)) ∧ (((((0 = 0) ∧ (x_1.s.n = x.s.n)) ∧ (True ∧ True)) ∧ ((x_1.key = x.key) ∧ True)) ∧ ((((x_1.s.n = x.s.n) ∧ (∀ (q : Nat), ((q < x_1.s.n) → ([(Value.string (@Shf.pk x_1.s q)), (Value.string (@Shf.pv x_1.s q))] = [(Value.string (@Shf.pk x.s q)), (Value.string (@Shf.pv x.s q))])))) ∧ True) ∧ (∀ (y : Unit), (True → (cP (decide ((@placeI x_1.s x_1.key) < (0 : Int))) (∃ (y_1 : Unit), (True ∧ ((((@getM x.s x.key) = (@ByteArray.mk (@List.toArray UInt8 (@List.nil UInt8)))) ∧ (((@hadM x.s x.key) = Bool.false) ∧ True)) ∧ ((((rowP x.s) = (rowP x.s)) ∧ (Bool.true = Bool.true)) ∧ True)))) ((((0 : Int) ≤ (@placeI x_1.s x_1.key)) ∧ ((@placeI x_1.s x_1.key) < ((x.s.n : Nat) : Int))) ∧ (((0 + (Int.toNat (@placeI x_1.s x_1.key))) < x.s.n) ∧ (∃ (y_1 : Unit), (True ∧ ((((@getM x.s x.key) = (@Shf.pv x.s (0 + (Int.toNat (@placeI x_1.s x_1.key))))) ∧ (((@hadM x.s x.key) = Bool.true) ∧ True)) ∧ ((((rowP x.s) = (rowP x.s)) ∧ (Bool.true = Bool.true)) ∧ True)))))))))))))
theorem getAVC_ok (x : SK) : getAVC x = getAVC_wp x := by kernel_rfl
def getNVC_wp (x : BA) : Prop := wpF Try.prog [] tt noAn 200 5 36 (getN.args x) (hO getN.k (getN.os x)) (fun v h' => endsP getN.k x v h' getN.outs)
def getNVC (x : BA) : Prop :=
  (∃ (y : Unit), (True ∧ (((es = (@ByteArray.mk (@List.toArray UInt8 (@List.nil UInt8)))) ∧ ((Bool.false = Bool.false) ∧ True)) ∧ True)))
theorem getNVC_ok (x : BA) : getNVC x = getNVC_wp x := by kernel_rfl
def apply1VC_wp (x : SC) : Prop := wpF Try.prog tblAp tt noAn 200 7 18 ((applyC 1).args x) (hO (applyC 1).k ((applyC 1).os x)) (fun v h' => endsP (applyC 1).k x v h' (applyC 1).outs)
def apply1VC_6 (x : SC) : Prop := ((((rowP x.s) = (rowP x.s)) ∧ (Bool.true = Bool.true)) ∧ ((((@rowQ x.s) = (@rowQ x.s)) ∧ (Bool.true = Bool.true)) ∧ ((((rowG x.c) = (rowG x.c)) ∧ (Bool.true = Bool.true)) ∧ True)))
def apply1VC_3 (x : SC) (x_2 : Cll) : Prop := ((((AV.agg [(AV.lit (Value.int IntKind.i64 (goodM x_2))), (AV.lit (Value.bool Bool.false)), (AV.lit (Value.string (@ByteArray.mk (@List.toArray UInt8 (@List.nil UInt8))))), (AV.lit (Value.slice none 0 0)), (AV.lit (Value.slice none 0 0)), (AV.lit (Value.int IntKind.u64 (0 : Int)))]) = (AV.agg [(AV.lit (Value.int IntKind.i64 (goodM x_2))), (AV.lit (Value.bool Bool.false)), (AV.lit (Value.string (@ByteArray.mk (@List.toArray UInt8 (@List.nil UInt8))))), (AV.lit (Value.slice none 0 0)), (AV.lit (Value.slice none 0 0)), (AV.lit (Value.int IntKind.u64 (0 : Int)))])) ∧ True) ∧ (True ∧ (∃ (y_2 : Bool), ((Hd (@appR x y_2)) ∧ (((True ∧ (True ∧ True)) ∧ ((True ∧ ((y_2 = Bool.false) ∧ (True ∧ (True ∧ (True ∧ (True ∧ True)))))) ∧ True)) ∧ (apply1VC_6 x))))))
def apply1VC_4 (x : SC) (x_2 : Cll) : Prop := (((x_2.gn = x.c.gn) ∧ (∀ (q : Nat), ((q < x_2.gn) → ([(Value.int IntKind.i64 (Mem.kind (Cll.g x_2 q))), (Value.string (Mem.key (Cll.g x_2 q))), (Value.string (Mem.value (Cll.g x_2 q))), (Value.string (Mem.to (Cll.g x_2 q))), (Value.slice (Mem.gp (Cll.g x_2 q)) (Mem.gn (Cll.g x_2 q)) (Mem.gc (Cll.g x_2 q)))] = [(Value.int IntKind.i64 (Mem.kind (Cll.g x.c q))), (Value.string (Mem.key (Cll.g x.c q))), (Value.string (Mem.value (Cll.g x.c q))), (Value.string (Mem.to (Cll.g x.c q))), (Value.slice (Mem.gp (Cll.g x.c q)) (Mem.gn (Cll.g x.c q)) (Mem.gc (Cll.g x.c q)))])))) ∧ True)
def apply1VC_5 (x : SC) (x_2 : Cll) : Prop := (((x_2.kind = (1 : Int)) ∧ ((x_2.key = x.c.key) ∧ ((x_2.value = x.c.value) ∧ ((x_2.to = x.c.to) ∧ (((0 = 0) ∧ (x_2.gn = x.c.gn)) ∧ True))))) ∧ True)
def apply1VC_1 (x : SC) (x_1 : @Shf) : Prop := (∃ (x_2 : Cll), ((Hd x_2.small) ∧ ((apply1VC_5 x x_2) ∧ ((apply1VC_4 x x_2) ∧ (∀ (y_1 : Unit), (True → (cP (bne (goodM x_2) (0 : Int)) (apply1VC_3 x x_2) (∃ (x_3 : @SK), ((Hd (@SV.ok (@SV.mk x_3.s x_3.key es) Bool.false)) ∧ (((((0 = 0) ∧ (x_3.s.n = x_1.n)) ∧ (True ∧ True)) ∧ ((x_3.key = x.c.key) ∧ True)) ∧ ((((x_3.s.n = x_1.n) ∧ (∀ (q : Nat), ((q < x_3.s.n) → ([(Value.string (@Shf.pk x_3.s q)), (Value.string (@Shf.pv x_3.s q))] = [(Value.string (@Shf.pk x_1 q)), (Value.string (@Shf.pv x_1 q))])))) ∧ True) ∧ (∀ (y_2 : Unit), (True → (True ∧ (True ∧ (True ∧ ((((AV.agg [(AV.lit (Value.int IntKind.i64 (goodM x_2))), (AV.lit (Value.bool (@hadM x_3.s x_3.key))), (AV.lit (Value.string (@getM x_3.s x_3.key))), (AV.lit (Value.slice none 0 0)), (AV.lit (Value.slice none 0 0)), (AV.lit (Value.int IntKind.u64 (0 : Int)))]) = (AV.agg [(AV.lit (Value.int IntKind.i64 (goodM x_2))), (AV.lit (Value.bool (@hadM x_3.s x_3.key))), (AV.lit (Value.string (@getM x_3.s x_3.key))), (AV.lit (Value.slice none 0 0)), (AV.lit (Value.slice none 0 0)), (AV.lit (Value.int IntKind.u64 (0 : Int)))])) ∧ True) ∧ (True ∧ (∃ (y_3 : Bool), ((Hd (@appR x y_3)) ∧ (((True ∧ (True ∧ True)) ∧ ((True ∧ ((y_3 = (@hadM x_3.s x_3.key)) ∧ (True ∧ (True ∧ (True ∧ (True ∧ True)))))) ∧ True)) ∧ (apply1VC_6 x))))))))))))))))))))))
def apply1VC_2 (x : SC) : Prop := (∃ (x_2 : Cll), ((Hd x_2.small) ∧ ((apply1VC_5 x x_2) ∧ ((apply1VC_4 x x_2) ∧ (∀ (y_1 : Unit), (True → (cP (bne (goodM x_2) (0 : Int)) (apply1VC_3 x x_2) (∃ (x_3 : @ByteArray), (True ∧ (((((Value.slice none 0 0) = (Value.slice none 0 0)) ∧ (True ∧ True)) ∧ ((x_3 = x.c.key) ∧ True)) ∧ (True ∧ (∀ (y_2 : Unit), (True → (True ∧ (True ∧ (True ∧ ((((AV.agg [(AV.lit (Value.int IntKind.i64 (goodM x_2))), (AV.lit (Value.bool Bool.false)), (AV.lit (Value.string es)), (AV.lit (Value.slice none 0 0)), (AV.lit (Value.slice none 0 0)), (AV.lit (Value.int IntKind.u64 (0 : Int)))]) = (AV.agg [(AV.lit (Value.int IntKind.i64 (goodM x_2))), (AV.lit (Value.bool Bool.false)), (AV.lit (Value.string es)), (AV.lit (Value.slice none 0 0)), (AV.lit (Value.slice none 0 0)), (AV.lit (Value.int IntKind.u64 (0 : Int)))])) ∧ True) ∧ (True ∧ (∃ (y_3 : Bool), ((Hd (@appR x y_3)) ∧ (((True ∧ (True ∧ True)) ∧ ((True ∧ ((y_3 = Bool.false) ∧ (True ∧ (True ∧ (True ∧ (True ∧ True)))))) ∧ True)) ∧ (apply1VC_6 x))))))))))))))))))))))
def apply1VC (x : SC) : Prop :=
  (∃ (x_1 : @Shf), ((Hd x_1.small) ∧ (((((x_1.zp = x.s.zp) ∧ ((0 = 0) ∧ (x_1.n = x.s.n))) ∧ (((x_1.zq = x.s.zq) ∧ ((0 = 0) ∧ (x_1.m = x.s.m))) ∧ True)) ∧ True) ∧ ((((x_1.n = x.s.n) ∧ (∀ (q : Nat), ((q < x_1.n) → ([(Value.string (@Shf.pk x_1 q)), (Value.string (@Shf.pv x_1 q))] = [(Value.string (@Shf.pk x.s q)), (Value.string (@Shf.pv x.s q))])))) ∧ (((x_1.m = x.s.m) ∧ (∀ (q : Nat), ((q < x_1.m) → ([(Value.string (@Shf.qv x_1 q))] = [(Value.string (@Shf.qv x.s q))])))) ∧ True)) ∧ ((∀ (y : Unit), (((x_1.zp = Bool.true) ∧ (x_1.zq = Bool.true)) → (apply1VC_2 x))) ∧ ((∀ (y : Unit), (((x_1.zp = Bool.true) ∧ (x_1.zq = Bool.false)) → (apply1VC_2 x))) ∧ ((∀ (y : Unit), (((x_1.zp = Bool.false) ∧ (x_1.zq = Bool.true)) → (apply1VC_1 x x_1))) ∧ (∀ (y : Unit), (((x_1.zp = Bool.false) ∧ (x_1.zq = Bool.false)) → (apply1VC_1 x x_1))))))))))
theorem apply1VC_ok (x : SC) : apply1VC x = apply1VC_wp x := by kernel_rfl
def apply2VC_wp (x : SC) : Prop := wpF Try.prog tblAp tt noAn 200 7 18 ((applyC 2).args x) (hO (applyC 2).k ((applyC 2).os x)) (fun v h' => endsP (applyC 2).k x v h' (applyC 2).outs)
def apply2VC_7 (x : SC) (x_2 : Cll) : Prop := (((AV.agg [(AV.lit (Value.int IntKind.i64 (goodM x_2))), (AV.lit (Value.bool Bool.false)), (AV.lit (Value.string (@ByteArray.mk (@List.toArray UInt8 (@List.nil UInt8))))), (AV.lit (Value.slice none 0 0)), (AV.lit (Value.slice none 0 0)), (AV.lit (Value.int IntKind.u64 (0 : Int)))]) = (AV.agg [(AV.lit (Value.int IntKind.i64 (goodM x_2))), (AV.lit (Value.bool Bool.false)), (AV.lit (Value.string (@ByteArray.mk (@List.toArray UInt8 (@List.nil UInt8))))), (AV.lit (Value.slice none 0 0)), (AV.lit (Value.slice none 0 0)), (AV.lit (Value.int IntKind.u64 (0 : Int)))])) ∧ True)
def apply2VC_8 (x : SC) : Prop := ((((rowP x.s) = (rowP x.s)) ∧ (Bool.true = Bool.true)) ∧ ((((@rowQ x.s) = (@rowQ x.s)) ∧ (Bool.true = Bool.true)) ∧ ((((rowG x.c) = (rowG x.c)) ∧ (Bool.true = Bool.true)) ∧ True)))
def apply2VC_1 (x : SC) (x_2 : Cll) (x_3 : @SV) : Prop := ((∀ (y_2 : Unit), ((Hd ((@hadM x_3.s x_3.key) = Bool.true)) → ((((AV.agg [(AV.lit (Value.int IntKind.i64 (goodM x_2))), (AV.lit (Value.bool Bool.true)), (AV.lit (Value.string (@ByteArray.mk (@List.toArray UInt8 (@List.nil UInt8))))), (AV.lit (Value.slice none 0 0)), (AV.lit (Value.slice none 0 0)), (AV.lit (Value.int IntKind.u64 (0 : Int)))]) = (AV.agg [(AV.lit (Value.int IntKind.i64 (goodM x_2))), (AV.lit (Value.bool Bool.true)), (AV.lit (Value.string (@ByteArray.mk (@List.toArray UInt8 (@List.nil UInt8))))), (AV.lit (Value.slice none 0 0)), (AV.lit (Value.slice none 0 0)), (AV.lit (Value.int IntKind.u64 (0 : Int)))])) ∧ True) ∧ (True ∧ (∃ (y_3 : Bool), ((Hd (@appR x y_3)) ∧ (((True ∧ (True ∧ True)) ∧ ((True ∧ ((y_3 = Bool.true) ∧ (True ∧ (True ∧ (True ∧ (True ∧ True)))))) ∧ True)) ∧ (apply2VC_8 x)))))))) ∧ (∀ (y_2 : Nat), ((Hd (((@hadM x_3.s x_3.key) = Bool.false) ∧ (y_2 ≤ x_3.s.n))) → ((apply2VC_7 x x_2) ∧ (True ∧ (∃ (y_3 : Bool), ((Hd (@appR x y_3)) ∧ (((True ∧ (True ∧ True)) ∧ ((True ∧ ((y_3 = Bool.false) ∧ (True ∧ (True ∧ (True ∧ (True ∧ True)))))) ∧ True)) ∧ (apply2VC_8 x)))))))))
def apply2VC_2 (x : SC) (x_2 : Cll) : Prop := ((apply2VC_7 x x_2) ∧ (True ∧ (∃ (y_2 : Bool), ((Hd (@appR x y_2)) ∧ (((True ∧ (True ∧ True)) ∧ ((True ∧ ((y_2 = Bool.false) ∧ (True ∧ (True ∧ (True ∧ (True ∧ True)))))) ∧ True)) ∧ (apply2VC_8 x))))))
def apply2VC_3 (x : SC) (x_2 : Cll) : Prop := (((x_2.gn = x.c.gn) ∧ (∀ (q : Nat), ((q < x_2.gn) → ([(Value.int IntKind.i64 (Mem.kind (Cll.g x_2 q))), (Value.string (Mem.key (Cll.g x_2 q))), (Value.string (Mem.value (Cll.g x_2 q))), (Value.string (Mem.to (Cll.g x_2 q))), (Value.slice (Mem.gp (Cll.g x_2 q)) (Mem.gn (Cll.g x_2 q)) (Mem.gc (Cll.g x_2 q)))] = [(Value.int IntKind.i64 (Mem.kind (Cll.g x.c q))), (Value.string (Mem.key (Cll.g x.c q))), (Value.string (Mem.value (Cll.g x.c q))), (Value.string (Mem.to (Cll.g x.c q))), (Value.slice (Mem.gp (Cll.g x.c q)) (Mem.gn (Cll.g x.c q)) (Mem.gc (Cll.g x.c q)))])))) ∧ True)
def apply2VC_4 (x : SC) (x_2 : Cll) : Prop := (((x_2.kind = (2 : Int)) ∧ ((x_2.key = x.c.key) ∧ ((x_2.value = x.c.value) ∧ ((x_2.to = x.c.to) ∧ (((0 = 0) ∧ (x_2.gn = x.c.gn)) ∧ True))))) ∧ True)
def apply2VC_5 (x : SC) (x_1 : @Shf) (x_3 : @SV) : Prop := ((x_3.s.n = x_1.n) ∧ (∀ (q : Nat), ((q < x_3.s.n) → ([(Value.string (@Shf.pk x_3.s q)), (Value.string (@Shf.pv x_3.s q))] = [(Value.string (@Shf.pk x_1 q)), (Value.string (@Shf.pv x_1 q))]))))
def apply2VC_6 (x : SC) (x_3 : @SV) : Prop := ((0 = 0) ∧ ((x_3.key = x.c.key) ∧ ((x_3.value = x.c.value) ∧ True)))
def apply2VC (x : SC) : Prop :=
  (∃ (x_1 : @Shf), ((Hd x_1.small) ∧ (((((x_1.zp = x.s.zp) ∧ ((0 = 0) ∧ (x_1.n = x.s.n))) ∧ (((x_1.zq = x.s.zq) ∧ ((0 = 0) ∧ (x_1.m = x.s.m))) ∧ True)) ∧ True) ∧ ((((x_1.n = x.s.n) ∧ (∀ (q : Nat), ((q < x_1.n) → ([(Value.string (@Shf.pk x_1 q)), (Value.string (@Shf.pv x_1 q))] = [(Value.string (@Shf.pk x.s q)), (Value.string (@Shf.pv x.s q))])))) ∧ (((x_1.m = x.s.m) ∧ (∀ (q : Nat), ((q < x_1.m) → ([(Value.string (@Shf.qv x_1 q))] = [(Value.string (@Shf.qv x.s q))])))) ∧ True)) ∧ ((∀ (y : Unit), (((x_1.zp = Bool.true) ∧ (x_1.zq = Bool.true)) → (∃ (x_2 : Cll), ((Hd x_2.small) ∧ ((apply2VC_4 x x_2) ∧ ((apply2VC_3 x x_2) ∧ (∀ (y_1 : Unit), (True → (cP (bne (goodM x_2) (0 : Int)) (apply2VC_2 x x_2) (∃ (x_3 : @SV), ((Hd (@SV.ok x_3 Bool.true)) ∧ ((apply2VC_6 x x_3) ∧ (((((Value.slice none 0 0) = (Value.slice none 0 0)) ∧ (((Value.slice none 0 0) = (Value.slice none 0 0)) ∧ True)) ∧ True) ∧ (apply2VC_1 x x_2 x_3)))))))))))))) ∧ ((∀ (y : Unit), (((x_1.zp = Bool.true) ∧ (x_1.zq = Bool.false)) → (∃ (x_2 : Cll), ((Hd x_2.small) ∧ ((apply2VC_4 x x_2) ∧ ((apply2VC_3 x x_2) ∧ (∀ (y_1 : Unit), (True → (cP (bne (goodM x_2) (0 : Int)) (apply2VC_2 x x_2) (∃ (x_3 : @SV), ((Hd (@SV.ok x_3 Bool.true)) ∧ ((apply2VC_6 x x_3) ∧ (((((Value.slice none 0 0) = (Value.slice none 0 0)) ∧ (((0 = 0) ∧ (x_3.s.m = x_1.m)) ∧ True)) ∧ (((x_3.s.m = x_1.m) ∧ (∀ (q : Nat), ((q < x_3.s.m) → ([(Value.string (@Shf.qv x_3.s q))] = [(Value.string (@Shf.qv x_1 q))])))) ∧ True)) ∧ (apply2VC_1 x x_2 x_3)))))))))))))) ∧ ((∀ (y : Unit), (((x_1.zp = Bool.false) ∧
 (x_1.zq = Bool.true)) → (∃ (x_2 : Cll), ((Hd x_2.small) ∧ ((apply2VC_4 x x_2) ∧ ((apply2VC_3 x x_2) ∧ (∀ (y_1 : Unit), (True → (cP (bne (goodM x_2) (0 : Int)) (apply2VC_2 x x_2) (∃ (x_3 : @SV), ((Hd (@SV.ok x_3 (@isNilA (AV.slW 7 0 2 x_1.n)))) ∧ ((apply2VC_6 x x_3) ∧ (((((0 = 0) ∧ (x_3.s.n = x_1.n)) ∧ (((Value.slice none 0 0) = (Value.slice none 0 0)) ∧ True)) ∧ ((apply2VC_5 x x_1 x_3) ∧ True)) ∧ (apply2VC_1 x x_2 x_3)))))))))))))) ∧ (∀ (y : Unit), (((x_1.zp = Bool.false) ∧ (x_1.zq = Bool.false)) → (∃ (x_2 : Cll), ((Hd x_2.small) ∧ ((apply2VC_4 x x_2) ∧ ((apply2VC_3 x x_2) ∧ (∀ (y_1 : Unit), (True → (cP (bne (goodM x_2) (0 : Int)) (apply2VC_2 x x_2) (∃ (x_3 : @SV), ((Hd (@SV.ok x_3 (@isNilA (AV.slW 7 0 2 x_1.n)))) ∧ ((apply2VC_6 x x_3) ∧ (((((0 = 0) ∧ (x_3.s.n = x_1.n)) ∧ (((0 = 0) ∧ (x_3.s.m = x_1.m)) ∧ True)) ∧ ((apply2VC_5 x x_1 x_3) ∧ (((x_3.s.m = x_1.m) ∧ (∀ (q : Nat), ((q < x_3.s.m) → ([(Value.string (@Shf.qv x_3.s q))] = [(Value.string (@Shf.qv x_1 q))])))) ∧ True))) ∧ (apply2VC_1 x x_2 x_3)))))))))))))))))))))
theorem apply2VC_ok (x : SC) : apply2VC x = apply2VC_wp x := by kernel_rfl
def apply3VC_wp (x : SC) : Prop := wpF Try.prog tblAp tt noAn 200 7 18 ((applyC 3).args x) (hO (applyC 3).k ((applyC 3).os x)) (fun v h' => endsP (applyC 3).k x v h' (applyC 3).outs)
def apply3VC_6 (x : SC) (x_2 : Cll) : Prop := (((AV.agg [(AV.lit (Value.int IntKind.i64 (goodM x_2))), (AV.lit (Value.bool Bool.false)), (AV.lit (Value.string (@ByteArray.mk (@List.toArray UInt8 (@List.nil UInt8))))), (AV.lit (Value.slice none 0 0)), (AV.lit (Value.slice none 0 0)), (AV.lit (Value.int IntKind.u64 (0 : Int)))]) = (AV.agg [(AV.lit (Value.int IntKind.i64 (goodM x_2))), (AV.lit (Value.bool Bool.false)), (AV.lit (Value.string (@ByteArray.mk (@List.toArray UInt8 (@List.nil UInt8))))), (AV.lit (Value.slice none 0 0)), (AV.lit (Value.slice none 0 0)), (AV.lit (Value.int IntKind.u64 (0 : Int)))])) ∧ True)
def apply3VC_7 (x : SC) : Prop := ((((rowP x.s) = (rowP x.s)) ∧ (Bool.true = Bool.true)) ∧ ((((@rowQ x.s) = (@rowQ x.s)) ∧ (Bool.true = Bool.true)) ∧ ((((rowG x.c) = (rowG x.c)) ∧ (Bool.true = Bool.true)) ∧ True)))
def apply3VC_1 (x : SC) (x_2 : Cll) (x_3 : @SK) : Prop := ((∀ (y_2 : Unit), ((Hd ((@hadM x_3.s x_3.key) = Bool.false)) → ((apply3VC_6 x x_2) ∧ (True ∧ (∃ (y_3 : Bool), ((Hd (@appR x y_3)) ∧ (((True ∧ (True ∧ True)) ∧ ((True ∧ ((y_3 = Bool.false) ∧ (True ∧ (True ∧ (True ∧ (True ∧ True)))))) ∧ True)) ∧ (apply3VC_7 x)))))))) ∧ (∀ (y_2 : @Shf), ((Hd (@dropR x_3.s x_3.key y_2)) → ((((AV.agg [(AV.lit (Value.int IntKind.i64 (goodM x_2))), (AV.lit (Value.bool Bool.true)), (AV.lit (Value.string (@ByteArray.mk (@List.toArray UInt8 (@List.nil UInt8))))), (AV.lit (Value.slice none 0 0)), (AV.lit (Value.slice none 0 0)), (AV.lit (Value.int IntKind.u64 (0 : Int)))]) = (AV.agg [(AV.lit (Value.int IntKind.i64 (goodM x_2))), (AV.lit (Value.bool Bool.true)), (AV.lit (Value.string (@ByteArray.mk (@List.toArray UInt8 (@List.nil UInt8))))), (AV.lit (Value.slice none 0 0)), (AV.lit (Value.slice none 0 0)), (AV.lit (Value.int IntKind.u64 (0 : Int)))])) ∧ True) ∧ (True ∧ (∃ (y_3 : Bool), ((Hd (@appR x y_3)) ∧ (((True ∧ (True ∧ True)) ∧ ((True ∧ ((y_3 = Bool.true) ∧ (True ∧ (True ∧ (True ∧ (True ∧ True)))))) ∧ True)) ∧ (apply3VC_7 x)))))))))
def apply3VC_2 (x : SC) (x_2 : Cll) : Prop := ((apply3VC_6 x x_2) ∧ (True ∧ (∃ (y_2 : Bool), ((Hd (@appR x y_2)) ∧ (((True ∧ (True ∧ True)) ∧ ((True ∧ ((y_2 = Bool.false) ∧ (True ∧ (True ∧ (True ∧ (True ∧ True)))))) ∧ True)) ∧ (apply3VC_7 x))))))
def apply3VC_3 (x : SC) (x_2 : Cll) : Prop := (((x_2.gn = x.c.gn) ∧ (∀ (q : Nat), ((q < x_2.gn) → ([(Value.int IntKind.i64 (Mem.kind (Cll.g x_2 q))), (Value.string (Mem.key (Cll.g x_2 q))), (Value.string (Mem.value (Cll.g x_2 q))), (Value.string (Mem.to (Cll.g x_2 q))), (Value.slice (Mem.gp (Cll.g x_2 q)) (Mem.gn (Cll.g x_2 q)) (Mem.gc (Cll.g x_2 q)))] = [(Value.int IntKind.i64 (Mem.kind (Cll.g x.c q))), (Value.string (Mem.key (Cll.g x.c q))), (Value.string (Mem.value (Cll.g x.c q))), (Value.string (Mem.to (Cll.g x.c q))), (Value.slice (Mem.gp (Cll.g x.c q)) (Mem.gn (Cll.g x.c q)) (Mem.gc (Cll.g x.c q)))])))) ∧ True)
def apply3VC_4 (x : SC) (x_2 : Cll) : Prop := (((x_2.kind = (3 : Int)) ∧ ((x_2.key = x.c.key) ∧ ((x_2.value = x.c.value) ∧ ((x_2.to = x.c.to) ∧ (((0 = 0) ∧ (x_2.gn = x.c.gn)) ∧ True))))) ∧ True)
def apply3VC_5 (x : SC) (x_1 : @Shf) (x_3 : @SK) : Prop := ((x_3.s.n = x_1.n) ∧ (∀ (q : Nat), ((q < x_3.s.n) → ([(Value.string (@Shf.pk x_3.s q)), (Value.string (@Shf.pv x_3.s q))] = [(Value.string (@Shf.pk x_1 q)), (Value.string (@Shf.pv x_1 q))]))))
def apply3VC (x : SC) : Prop :=
  (∃ (x_1 : @Shf), ((Hd x_1.small) ∧ (((((x_1.zp = x.s.zp) ∧ ((0 = 0) ∧ (x_1.n = x.s.n))) ∧ (((x_1.zq = x.s.zq) ∧ ((0 = 0) ∧ (x_1.m = x.s.m))) ∧ True)) ∧ True) ∧ ((((x_1.n = x.s.n) ∧ (∀ (q : Nat), ((q < x_1.n) → ([(Value.string (@Shf.pk x_1 q)), (Value.string (@Shf.pv x_1 q))] = [(Value.string (@Shf.pk x.s q)), (Value.string (@Shf.pv x.s q))])))) ∧ (((x_1.m = x.s.m) ∧ (∀ (q : Nat), ((q < x_1.m) → ([(Value.string (@Shf.qv x_1 q))] = [(Value.string (@Shf.qv x.s q))])))) ∧ True)) ∧ ((∀ (y : Unit), (((x_1.zp = Bool.true) ∧ (x_1.zq = Bool.true)) → (∃ (x_2 : Cll), ((Hd x_2.small) ∧ ((apply3VC_4 x x_2) ∧ ((apply3VC_3 x x_2) ∧ (∀ (y_1 : Unit), (True → (cP (bne (goodM x_2) (0 : Int)) (apply3VC_2 x x_2) (∃ (x_3 : @SK), ((Hd (@SV.ok (@SV.mk x_3.s x_3.key es) Bool.true)) ∧ (((0 = 0) ∧ ((x_3.key = x.c.key) ∧ True)) ∧ (((((Value.slice none 0 0) = (Value.slice none 0 0)) ∧ (((Value.slice none 0 0) = (Value.slice none 0 0)) ∧ True)) ∧ True) ∧ (apply3VC_1 x x_2 x_3)))))))))))))) ∧ ((∀ (y : Unit), (((x_1.zp = Bool.true) ∧ (x_1.zq = Bool.false)) → (∃ (x_2 : Cll), ((Hd x_2.small) ∧ ((apply3VC_4 x x_2) ∧ ((apply3VC_3 x x_2) ∧ (∀ (y_1 : Unit), (True → (cP (bne (goodM x_2) (0 : Int)) (apply3VC_2 x x_2) (∃ (x_3 : @SK), ((Hd (@SV.ok (@SV.mk x_3.s x_3.key es) Bool.true)) ∧ (((0 = 0) ∧ ((x_3.key = x.c.key) ∧ True)) ∧ (((((Value.slice none 0 0) = (Value.slice none 0 0)) ∧ (((0 = 0) ∧ (x_3.s.m = x_1.m)) ∧ True)) ∧ (((x_3.s.m = x_1.m) ∧ (∀ (q : Nat), ((q < x_3.s.m) → ([(Value.string (@Shf.qv x_3.s q))] = [(Value.string (@Shf.qv x_1 q))])))) ∧
 True)) ∧ (apply3VC_1 x x_2 x_3)))))))))))))) ∧ ((∀ (y : Unit), (((x_1.zp = Bool.false) ∧ (x_1.zq = Bool.true)) → (∃ (x_2 : Cll), ((Hd x_2.small) ∧ ((apply3VC_4 x x_2) ∧ ((apply3VC_3 x x_2) ∧ (∀ (y_1 : Unit), (True → (cP (bne (goodM x_2) (0 : Int)) (apply3VC_2 x x_2) (∃ (x_3 : @SK), ((Hd (@SV.ok (@SV.mk x_3.s x_3.key es) (@isNilA (AV.slW 7 0 2 x_1.n)))) ∧ (((0 = 0) ∧ ((x_3.key = x.c.key) ∧ True)) ∧ (((((0 = 0) ∧ (x_3.s.n = x_1.n)) ∧ (((Value.slice none 0 0) = (Value.slice none 0 0)) ∧ True)) ∧ ((apply3VC_5 x x_1 x_3) ∧ True)) ∧ (apply3VC_1 x x_2 x_3)))))))))))))) ∧ (∀ (y : Unit), (((x_1.zp = Bool.false) ∧ (x_1.zq = Bool.false)) → (∃ (x_2 : Cll), ((Hd x_2.small) ∧ ((apply3VC_4 x x_2) ∧ ((apply3VC_3 x x_2) ∧ (∀ (y_1 : Unit), (True → (cP (bne (goodM x_2) (0 : Int)) (apply3VC_2 x x_2) (∃ (x_3 : @SK), ((Hd (@SV.ok (@SV.mk x_3.s x_3.key es) (@isNilA (AV.slW 7 0 2 x_1.n)))) ∧ (((0 = 0) ∧ ((x_3.key = x.c.key) ∧ True)) ∧ (((((0 = 0) ∧ (x_3.s.n = x_1.n)) ∧ (((0 = 0) ∧ (x_3.s.m = x_1.m)) ∧ True)) ∧ ((apply3VC_5 x x_1 x_3) ∧ (((x_3.s.m = x_1.m) ∧ (∀ (q : Nat), ((q < x_3.s.m) → ([(Value.string (@Shf.qv x_3.s q))] = [(Value.string (@Shf.qv x_1 q))])))) ∧ True))) ∧ (apply3VC_1 x x_2 x_3)))))))))))))))))))))
theorem apply3VC_ok (x : SC) : apply3VC x = apply3VC_wp x := by kernel_rfl
def apply4VC_wp (x : SC) : Prop := wpF Try.prog tblAp tt noAn 200 7 18 ((applyC 4).args x) (hO (applyC 4).k ((applyC 4).os x)) (fun v h' => endsP (applyC 4).k x v h' (applyC 4).outs)
def apply4VC_1 (x : SC) (x_2 : Cll) : Prop := ((((AV.agg [(AV.lit (Value.int IntKind.i64 (goodM x_2))), (AV.lit (Value.bool Bool.false)), (AV.lit (Value.string (@ByteArray.mk (@List.toArray UInt8 (@List.nil UInt8))))), (AV.lit (Value.slice none 0 0)), (AV.lit (Value.slice none 0 0)), (AV.lit (Value.int IntKind.u64 (0 : Int)))]) = (AV.agg [(AV.lit (Value.int IntKind.i64 (goodM x_2))), (AV.lit (Value.bool Bool.false)), (AV.lit (Value.string (@ByteArray.mk (@List.toArray UInt8 (@List.nil UInt8))))), (AV.lit (Value.slice none 0 0)), (AV.lit (Value.slice none 0 0)), (AV.lit (Value.int IntKind.u64 (0 : Int)))])) ∧ True) ∧ (True ∧ (∃ (y_2 : Bool), ((Hd (@appR x y_2)) ∧ (((True ∧ (True ∧ True)) ∧ ((True ∧ ((y_2 = Bool.false) ∧ (True ∧ (True ∧ (True ∧ (True ∧ True)))))) ∧ True)) ∧ ((((rowP x.s) = (rowP x.s)) ∧ (Bool.true = Bool.true)) ∧ ((((@rowQ x.s) = (@rowQ x.s)) ∧ (Bool.true = Bool.true)) ∧ ((((rowG x.c) = (rowG x.c)) ∧ (Bool.true = Bool.true)) ∧ True))))))))
def apply4VC_2 (x : SC) (x_2 : Cll) : Prop := (((x_2.gn = x.c.gn) ∧ (∀ (q : Nat), ((q < x_2.gn) → ([(Value.int IntKind.i64 (Mem.kind (Cll.g x_2 q))), (Value.string (Mem.key (Cll.g x_2 q))), (Value.string (Mem.value (Cll.g x_2 q))), (Value.string (Mem.to (Cll.g x_2 q))), (Value.slice (Mem.gp (Cll.g x_2 q)) (Mem.gn (Cll.g x_2 q)) (Mem.gc (Cll.g x_2 q)))] = [(Value.int IntKind.i64 (Mem.kind (Cll.g x.c q))), (Value.string (Mem.key (Cll.g x.c q))), (Value.string (Mem.value (Cll.g x.c q))), (Value.string (Mem.to (Cll.g x.c q))), (Value.slice (Mem.gp (Cll.g x.c q)) (Mem.gn (Cll.g x.c q)) (Mem.gc (Cll.g x.c q)))])))) ∧ True)
def apply4VC_3 (x : SC) (x_2 : Cll) : Prop := (((x_2.kind = (4 : Int)) ∧ ((x_2.key = x.c.key) ∧ ((x_2.value = x.c.value) ∧ ((x_2.to = x.c.to) ∧ (((0 = 0) ∧ (x_2.gn = x.c.gn)) ∧ True))))) ∧ True)
def apply4VC_4 (x : SC) : Prop := ((@List.all (@List Value) [(@List.take Value 1 [(Value.string x.c.value)])] (fun (l : (@List Value)) => (@Bool.and (@Nat.beq (@List.length Value l) 1) (@List.all Value l @Value.oneCell')))) = Bool.true)
def apply4VC_5 (x : SC) : Prop := (∃ (x_2 : Cll), ((Hd x_2.small) ∧ ((apply4VC_3 x x_2) ∧ ((apply4VC_2 x x_2) ∧ (∀ (y_1 : Unit), (True → (cP (bne (goodM x_2) (0 : Int)) (apply4VC_1 x x_2) ((((AV.lit (Value.slice none 0 0)) = (AV.lit (Value.slice none 0 0))) ∧ True) ∧ (((((2 * (0 + 1)) + 1000) * 16) ≤ 281474976710656) ∧ (True ∧ (True ∧ (apply4VC_1 x x_2))))))))))))
def apply4VC (x : SC) : Prop :=
  (∃ (x_1 : @Shf), ((Hd x_1.small) ∧ (((((x_1.zp = x.s.zp) ∧ ((0 = 0) ∧ (x_1.n = x.s.n))) ∧ (((x_1.zq = x.s.zq) ∧ ((0 = 0) ∧ (x_1.m = x.s.m))) ∧ True)) ∧ True) ∧ ((((x_1.n = x.s.n) ∧ (∀ (q : Nat), ((q < x_1.n) → ([(Value.string (@Shf.pk x_1 q)), (Value.string (@Shf.pv x_1 q))] = [(Value.string (@Shf.pk x.s q)), (Value.string (@Shf.pv x.s q))])))) ∧ (((x_1.m = x.s.m) ∧ (∀ (q : Nat), ((q < x_1.m) → ([(Value.string (@Shf.qv x_1 q))] = [(Value.string (@Shf.qv x.s q))])))) ∧ True)) ∧ ((∀ (y : Unit), (((x_1.zp = Bool.true) ∧ (x_1.zq = Bool.true)) → (apply4VC_5 x))) ∧ ((∀ (y : Unit), (((x_1.zp = Bool.true) ∧ (x_1.zq = Bool.false)) → (∃ (x_2 : Cll), ((Hd x_2.small) ∧ ((apply4VC_3 x x_2) ∧ ((apply4VC_2 x x_2) ∧ (∀ (y_1 : Unit), (True → (cP (bne (goodM x_2) (0 : Int)) (apply4VC_1 x x_2) ((((AV.slW 7 0 1 x_1.m) = (AV.slW 7 0 1 x_1.m)) ∧ True) ∧ ((x_1.m = x_1.m) ∧ ((apply4VC_4 x) ∧ (((((2 * (x_1.m + 1)) + 1000) * 16) ≤ 281474976710656) ∧ (True ∧ (True ∧ (apply4VC_1 x x_2)))))))))))))))) ∧ ((∀ (y : Unit), (((x_1.zp = Bool.false) ∧ (x_1.zq = Bool.true)) → (apply4VC_5 x))) ∧ (∀ (y : Unit), (((x_1.zp = Bool.false) ∧ (x_1.zq = Bool.false)) → (∃ (x_2 : Cll), ((Hd x_2.small) ∧ ((apply4VC_3 x x_2) ∧ ((apply4VC_2 x x_2) ∧ (∀ (y_1 : Unit), (True → (cP (bne (goodM x_2) (0 : Int)) (apply4VC_1 x x_2) ((((AV.slW 8 0 1 x_1.m) = (AV.slW 8 0 1 x_1.m)) ∧ True) ∧ ((x_1.m = x_1.m) ∧ ((apply4VC_4 x) ∧ (((((2 * (x_1.m + 1)) + 1000) * 16) ≤ 281474976710656) ∧ (True ∧ (True ∧ (apply4VC_1 x x_2)))))))))))))))))))))))
theorem apply4VC_ok (x : SC) : apply4VC x = apply4VC_wp x := by kernel_rfl
def apply5VC_wp (x : SC) : Prop := wpF Try.prog tblAp tt noAn 200 7 18 ((applyC 5).args x) (hO (applyC 5).k ((applyC 5).os x)) (fun v h' => endsP (applyC 5).k x v h' (applyC 5).outs)
def apply5VC_6 (x : SC) : Prop := ((((rowP x.s) = (rowP x.s)) ∧ (Bool.true = Bool.true)) ∧ ((((@rowQ x.s) = (@rowQ x.s)) ∧ (Bool.true = Bool.true)) ∧ ((((rowG x.c) = (rowG x.c)) ∧ (Bool.true = Bool.true)) ∧ True)))
def apply5VC_1 (x : SC) (x_2 : Cll) : Prop := ((((AV.agg [(AV.lit (Value.int IntKind.i64 (goodM x_2))), (AV.lit (Value.bool Bool.false)), (AV.lit (Value.string (@ByteArray.mk (@List.toArray UInt8 (@List.nil UInt8))))), (AV.lit (Value.slice none 0 0)), (AV.lit (Value.slice none 0 0)), (AV.lit (Value.int IntKind.u64 (0 : Int)))]) = (AV.agg [(AV.lit (Value.int IntKind.i64 (goodM x_2))), (AV.lit (Value.bool Bool.false)), (AV.lit (Value.string (@ByteArray.mk (@List.toArray UInt8 (@List.nil UInt8))))), (AV.lit (Value.slice none 0 0)), (AV.lit (Value.slice none 0 0)), (AV.lit (Value.int IntKind.u64 (0 : Int)))])) ∧ True) ∧ (True ∧ (∃ (y_2 : Bool), ((Hd (@appR x y_2)) ∧ (((True ∧ (True ∧ True)) ∧ ((True ∧ ((y_2 = Bool.false) ∧ (True ∧ (True ∧ (True ∧ (True ∧ True)))))) ∧ True)) ∧ (apply5VC_6 x))))))
def apply5VC_2 (x : SC) (x_2 : Cll) : Prop := (((x_2.gn = x.c.gn) ∧ (∀ (q : Nat), ((q < x_2.gn) → ([(Value.int IntKind.i64 (Mem.kind (Cll.g x_2 q))), (Value.string (Mem.key (Cll.g x_2 q))), (Value.string (Mem.value (Cll.g x_2 q))), (Value.string (Mem.to (Cll.g x_2 q))), (Value.slice (Mem.gp (Cll.g x_2 q)) (Mem.gn (Cll.g x_2 q)) (Mem.gc (Cll.g x_2 q)))] = [(Value.int IntKind.i64 (Mem.kind (Cll.g x.c q))), (Value.string (Mem.key (Cll.g x.c q))), (Value.string (Mem.value (Cll.g x.c q))), (Value.string (Mem.to (Cll.g x.c q))), (Value.slice (Mem.gp (Cll.g x.c q)) (Mem.gn (Cll.g x.c q)) (Mem.gc (Cll.g x.c q)))])))) ∧ True)
def apply5VC_3 (x : SC) (x_1 : @Shf) (x_2 : Cll) : Prop := ((((0 : Int) ≤ (0 : Int)) ∧ ((1 : Int) ≤ ((x_1.m : Nat) : Int))) ∧ ((0 < x_1.m) ∧ (((0 : Int) ≤ (1 : Int)) ∧ (((1 ≤ x_1.m) ∧ ((x_1.m ≤ x_1.m) ∧ (x_1.m ≤ x_1.m))) ∧ ((((AV.agg [(AV.lit (Value.int IntKind.i64 (goodM x_2))), (AV.lit (Value.bool Bool.true)), (AV.lit (Value.string (@Shf.qv x_1 0))), (AV.lit (Value.slice none 0 0)), (AV.lit (Value.slice none 0 0)), (AV.lit (Value.int IntKind.u64 (0 : Int)))]) = (AV.agg [(AV.lit (Value.int IntKind.i64 (goodM x_2))), (AV.lit (Value.bool Bool.true)), (AV.lit (Value.string (@Shf.qv x_1 0))), (AV.lit (Value.slice none 0 0)), (AV.lit (Value.slice none 0 0)), (AV.lit (Value.int IntKind.u64 (0 : Int)))])) ∧ True) ∧ (True ∧ (∃ (y_2 : Bool), ((Hd (@appR x y_2)) ∧ (((True ∧ (True ∧ True)) ∧ ((True ∧ ((y_2 = Bool.true) ∧ (True ∧ (True ∧ (True ∧ (True ∧ True)))))) ∧ True)) ∧ (apply5VC_6 x))))))))))
def apply5VC_4 (x : SC) (x_2 : Cll) : Prop := (((x_2.kind = (5 : Int)) ∧ ((x_2.key = x.c.key) ∧ ((x_2.value = x.c.value) ∧ ((x_2.to = x.c.to) ∧ (((0 = 0) ∧ (x_2.gn = x.c.gn)) ∧ True))))) ∧ True)
def apply5VC_5 (x : SC) (x_1 : @Shf) : Prop := (∃ (x_2 : Cll), ((Hd x_2.small) ∧ ((apply5VC_4 x x_2) ∧ ((apply5VC_2 x x_2) ∧ (∀ (y_1 : Unit), (True → (cP (bne (goodM x_2) (0 : Int)) (apply5VC_1 x x_2) (cP (BEq.beq ((x_1.m : Nat) : Int) (0 : Int)) (apply5VC_1 x x_2) (apply5VC_3 x x_1 x_2)))))))))
def apply5VC_7 (x : SC) : Prop := (∃ (x_2 : Cll), ((Hd x_2.small) ∧ ((apply5VC_4 x x_2) ∧ ((apply5VC_2 x x_2) ∧ (∀ (y_1 : Unit), (True → (cP (bne (goodM x_2) (0 : Int)) (apply5VC_1 x x_2) (apply5VC_1 x x_2))))))))
def apply5VC (x : SC) : Prop :=
  (∃ (x_1 : @Shf), ((Hd x_1.small) ∧ (((((x_1.zp = x.s.zp) ∧ ((0 = 0) ∧ (x_1.n = x.s.n))) ∧ (((x_1.zq = x.s.zq) ∧ ((0 = 0) ∧ (x_1.m = x.s.m))) ∧ True)) ∧ True) ∧ ((((x_1.n = x.s.n) ∧ (∀ (q : Nat), ((q < x_1.n) → ([(Value.string (@Shf.pk x_1 q)), (Value.string (@Shf.pv x_1 q))] = [(Value.string (@Shf.pk x.s q)), (Value.string (@Shf.pv x.s q))])))) ∧ (((x_1.m = x.s.m) ∧ (∀ (q : Nat), ((q < x_1.m) → ([(Value.string (@Shf.qv x_1 q))] = [(Value.string (@Shf.qv x.s q))])))) ∧ True)) ∧ ((∀ (y : Unit), (((x_1.zp = Bool.true) ∧ (x_1.zq = Bool.true)) → (apply5VC_7 x))) ∧ ((∀ (y : Unit), (((x_1.zp = Bool.true) ∧ (x_1.zq = Bool.false)) → (apply5VC_5 x x_1))) ∧ ((∀ (y : Unit), (((x_1.zp = Bool.false) ∧ (x_1.zq = Bool.true)) → (apply5VC_7 x))) ∧ (∀ (y : Unit), (((x_1.zp = Bool.false) ∧ (x_1.zq = Bool.false)) → (apply5VC_5 x x_1))))))))))
theorem apply5VC_ok (x : SC) : apply5VC x = apply5VC_wp x := by kernel_rfl
def apply6VC_wp (x : SC) : Prop := wpF Try.prog tblAp tt noAn 200 7 18 ((applyC 6).args x) (hO (applyC 6).k ((applyC 6).os x)) (fun v h' => endsP (applyC 6).k x v h' (applyC 6).outs)
def apply6VC_13 (x : SC) : Prop := ((((rowP x.s) = (rowP x.s)) ∧ (Bool.true = Bool.true)) ∧ ((((@rowQ x.s) = (@rowQ x.s)) ∧ (Bool.true = Bool.true)) ∧ ((((rowG x.c) = (rowG x.c)) ∧ (Bool.true = Bool.true)) ∧ True)))
def apply6VC_7 (x : SC) : Prop := (True ∧ (∃ (y_3 : Bool), ((Hd (@appR x y_3)) ∧ (((True ∧ (True ∧ True)) ∧ ((True ∧ ((y_3 = Bool.false) ∧ (True ∧ (True ∧ (True ∧ (True ∧ True)))))) ∧ True)) ∧ (apply6VC_13 x)))))
def apply6VC_1 (x : SC) : Prop := ((((AV.agg [(AV.lit (Value.int IntKind.i64 (0 : Int))), (AV.lit (Value.bool Bool.false)), (AV.lit (Value.string es)), (AV.lit (Value.slice none 0 0)), (AV.lit (Value.slice none 0 0)), (AV.lit (Value.int IntKind.u64 (0 : Int)))]) = (AV.agg [(AV.lit (Value.int IntKind.i64 (0 : Int))), (AV.lit (Value.bool Bool.false)), (AV.lit (Value.string es)), (AV.lit (Value.slice none 0 0)), (AV.lit (Value.slice none 0 0)), (AV.lit (Value.int IntKind.u64 (0 : Int)))])) ∧ True) ∧ (apply6VC_7 x))
def apply6VC_2 (x : SC) (x_2 : Cll) : Prop := ((((AV.agg [(AV.lit (Value.int IntKind.i64 (goodM x_2))), (AV.lit (Value.bool Bool.false)), (AV.lit (Value.string (@ByteArray.mk (@List.toArray UInt8 (@List.nil UInt8))))), (AV.lit (Value.slice none 0 0)), (AV.lit (Value.slice none 0 0)), (AV.lit (Value.int IntKind.u64 (0 : Int)))]) = (AV.agg [(AV.lit (Value.int IntKind.i64 (goodM x_2))), (AV.lit (Value.bool Bool.false)), (AV.lit (Value.string (@ByteArray.mk (@List.toArray UInt8 (@List.nil UInt8))))), (AV.lit (Value.slice none 0 0)), (AV.lit (Value.slice none 0 0)), (AV.lit (Value.int IntKind.u64 (0 : Int)))])) ∧ True) ∧ (True ∧ (∃ (y_2 : Bool), ((Hd (@appR x y_2)) ∧ (((True ∧ (True ∧ True)) ∧ ((True ∧ ((y_2 = Bool.false) ∧ (True ∧ (True ∧ (True ∧ (True ∧ True)))))) ∧ True)) ∧ (apply6VC_13 x))))))
def apply6VC_3 (x : SC) (x_2 : Cll) : Prop := (((0 : Int) = (goodM x_2)) ∧ ((Bool.false = Bool.false) ∧ ((es = (@ByteArray.mk (@List.toArray UInt8 (@List.nil UInt8)))) ∧ (((Value.slice none 0 0) = (Value.slice none 0 0)) ∧ (((Value.slice none 0 0) = (Value.slice none 0 0)) ∧ (((0 : Int) = (0 : Int)) ∧ True))))))
def apply6VC_4 (x : SC) (x_2 : Cll) : Prop := (((x_2.gn = x.c.gn) ∧ (∀ (q : Nat), ((q < x_2.gn) → ([(Value.int IntKind.i64 (Mem.kind (Cll.g x_2 q))), (Value.string (Mem.key (Cll.g x_2 q))), (Value.string (Mem.value (Cll.g x_2 q))), (Value.string (Mem.to (Cll.g x_2 q))), (Value.slice (Mem.gp (Cll.g x_2 q)) (Mem.gn (Cll.g x_2 q)) (Mem.gc (Cll.g x_2 q)))] = [(Value.int IntKind.i64 (Mem.kind (Cll.g x.c q))), (Value.string (Mem.key (Cll.g x.c q))), (Value.string (Mem.value (Cll.g x.c q))), (Value.string (Mem.to (Cll.g x.c q))), (Value.slice (Mem.gp (Cll.g x.c q)) (Mem.gn (Cll.g x.c q)) (Mem.gc (Cll.g x.c q)))])))) ∧ True)
def apply6VC_5 (x : SC) (x_3 : (@Prod @SK2 @BA)) : Prop := ((0 = 0) ∧ ((((6 : Int) = (6 : Int)) ∧ ((x_3.1.key = x.c.key) ∧ ((x_3.2 = x.c.value) ∧ ((x_3.1.to = x.c.to) ∧ (True ∧ True))))) ∧ ((0 = 0) ∧ True)))
def apply6VC_6 (x : SC) (x_3 : (@Prod @SK2 @BA)) : Prop := (∀ (y_2 : Unit), (True → ((((AV.agg [(AV.lit (Value.int IntKind.i64 (0 : Int))), (AV.lit (Value.bool Bool.false)), (AV.lit (Value.string es)), (AV.slW 11 0 2 (@List.length Nat x_3.1.sel)), (AV.lit (Value.slice none 0 0)), (AV.lit (Value.int IntKind.u64 (0 : Int)))]) = (AV.agg [(AV.lit (Value.int IntKind.i64 (0 : Int))), (AV.lit (Value.bool Bool.false)), (AV.lit (Value.string es)), (AV.slW 11 0 2 (@List.length Nat x_3.1.sel)), (AV.lit (Value.slice none 0 0)), (AV.lit (Value.int IntKind.u64 (0 : Int)))])) ∧ True) ∧ (apply6VC_7 x))))
def apply6VC_8 (x : SC) (x_2 : Cll) : Prop := (((x_2.kind = (6 : Int)) ∧ ((x_2.key = x.c.key) ∧ ((x_2.value = x.c.value) ∧ ((x_2.to = x.c.to) ∧ (((0 = 0) ∧ (x_2.gn = x.c.gn)) ∧ True))))) ∧ True)
def apply6VC_9 (x : SC) (x_1 : @Shf) (x_2 : Cll) (x_3 : (@Prod @SK2 @BA)) : Prop := ((((0 = 0) ∧ (x_3.1.s.n = x_1.n)) ∧ (True ∧ True)) ∧ ((apply6VC_3 x x_2) ∧ (((x_3.1.s.n = x_1.n) ∧ (∀ (q : Nat), ((q < x_3.1.s.n) → ([(Value.string (@Shf.pk x_3.1.s q)), (Value.string (@Shf.pv x_3.1.s q))] = [(Value.string (@Shf.pk x_1 q)), (Value.string (@Shf.pv x_1 q))])))) ∧ True)))
def apply6VC_10 (x : SC) (x_2 : Cll) : Prop := (∃ (x_3 : (@Prod @SK2 @BA)), (True ∧ ((apply6VC_5 x x_3) ∧ (((((Value.slice none 0 0) = (Value.slice none 0 0)) ∧ (True ∧ True)) ∧ ((apply6VC_3 x x_2) ∧ True)) ∧ (∀ (y_2 : Unit), (True → (apply6VC_1 x)))))))
def apply6VC_11 (x : SC) (x_2 : Cll) : Prop := (∃ (x_3 : (@Prod @SK2 @BA)), (True ∧ ((apply6VC_5 x x_3) ∧ (((False ∧ (True ∧ True)) ∧ ((apply6VC_3 x x_2) ∧ True)) ∧ (∀ (y_2 : Unit), (True → (apply6VC_1 x)))))))
def apply6VC_12 (x : SC) (x_3 : (@Prod @SK2 @BA)) : Prop := (∀ (y_2 : Unit), ((Hd (x_3.1.sel = (@List.nil Nat))) → (apply6VC_1 x)))
def apply6VC (x : SC) : Prop :=
  (∃ (x_1 : @Shf), ((Hd x_1.small) ∧ (((((x_1.zp = x.s.zp) ∧ ((0 = 0) ∧ (x_1.n = x.s.n))) ∧ (((x_1.zq = x.s.zq) ∧ ((0 = 0) ∧ (x_1.m = x.s.m))) ∧ True)) ∧ True) ∧ ((((x_1.n = x.s.n) ∧ (∀ (q : Nat), ((q < x_1.n) → ([(Value.string (@Shf.pk x_1 q)), (Value.string (@Shf.pv x_1 q))] = [(Value.string (@Shf.pk x.s q)), (Value.string (@Shf.pv x.s q))])))) ∧ (((x_1.m = x.s.m) ∧ (∀ (q : Nat), ((q < x_1.m) → ([(Value.string (@Shf.qv x_1 q))] = [(Value.string (@Shf.qv x.s q))])))) ∧ True)) ∧ ((∀ (y : Unit), (((x_1.zp = Bool.true) ∧ (x_1.zq = Bool.true)) → (∃ (x_2 : Cll), ((Hd x_2.small) ∧ ((apply6VC_8 x x_2) ∧ ((apply6VC_4 x x_2) ∧ (∀ (y_1 : Unit), (True → (cP (bne (goodM x_2) (0 : Int)) (apply6VC_2 x x_2) ((apply6VC_10 x x_2) ∨ (∃ (x_3 : (@Prod @SK2 @BA)), ((Hd x_3.1.ok) ∧ ((apply6VC_5 x x_3) ∧ (((False ∧ (True ∧ True)) ∧ ((apply6VC_3 x x_2) ∧ (False ∧ True))) ∧ ((apply6VC_12 x x_3) ∧ (∀ (y_2 : Unit), (True → ((((AV.agg [(AV.lit (Value.int IntKind.i64 (0 : Int))), (AV.lit (Value.bool Bool.false)), (AV.lit (Value.string es)), (AV.slW 10 0 2 (@List.length Nat x_3.1.sel)), (AV.lit (Value.slice none 0 0)), (AV.lit (Value.int IntKind.u64 (0 : Int)))]) = (AV.agg [(AV.lit (Value.int IntKind.i64 (0 : Int))), (AV.lit (Value.bool Bool.false)), (AV.lit (Value.string es)), (AV.slW 10 0 2 (@List.length Nat x_3.1.sel)), (AV.lit (Value.slice none 0 0)), (AV.lit (Value.int IntKind.u64 (0 : Int)))])) ∧ True) ∧ (apply6VC_7 x))))))))))))))))))) ∧ ((∀ (y : Unit), (((x_1.zp = Bool.true) ∧ (x_1.zq = Bool.false)) → (∃ (x_2 : Cll), ((Hd x_2.small) ∧
 ((apply6VC_8 x x_2) ∧ ((apply6VC_4 x x_2) ∧ (∀ (y_1 : Unit), (True → (cP (bne (goodM x_2) (0 : Int)) (apply6VC_2 x x_2) ((apply6VC_10 x x_2) ∨ (∃ (x_3 : (@Prod @SK2 @BA)), ((Hd x_3.1.ok) ∧ ((apply6VC_5 x x_3) ∧ (((False ∧ (True ∧ True)) ∧ ((apply6VC_3 x x_2) ∧ (False ∧ True))) ∧ ((apply6VC_12 x x_3) ∧ (apply6VC_6 x x_3)))))))))))))))) ∧ ((∀ (y : Unit), (((x_1.zp = Bool.false) ∧ (x_1.zq = Bool.true)) → (∃ (x_2 : Cll), ((Hd x_2.small) ∧ ((apply6VC_8 x x_2) ∧ ((apply6VC_4 x x_2) ∧ (∀ (y_1 : Unit), (True → (cP (bne (goodM x_2) (0 : Int)) (apply6VC_2 x x_2) ((apply6VC_11 x x_2) ∨ (∃ (x_3 : (@Prod @SK2 @BA)), ((Hd x_3.1.ok) ∧ ((apply6VC_5 x x_3) ∧ ((apply6VC_9 x x_1 x_2 x_3) ∧ ((apply6VC_12 x x_3) ∧ (apply6VC_6 x x_3)))))))))))))))) ∧ (∀ (y : Unit), (((x_1.zp = Bool.false) ∧ (x_1.zq = Bool.false)) → (∃ (x_2 : Cll), ((Hd x_2.small) ∧ ((apply6VC_8 x x_2) ∧ ((apply6VC_4 x x_2) ∧ (∀ (y_1 : Unit), (True → (cP (bne (goodM x_2) (0 : Int)) (apply6VC_2 x x_2) ((apply6VC_11 x x_2) ∨ (∃ (x_3 : (@Prod @SK2 @BA)), ((Hd x_3.1.ok) ∧ ((apply6VC_5 x x_3) ∧ ((apply6VC_9 x x_1 x_2 x_3) ∧ ((apply6VC_12 x x_3) ∧ (∀ (y_2 : Unit), (True → ((((AV.agg [(AV.lit (Value.int IntKind.i64 (0 : Int))), (AV.lit (Value.bool Bool.false)), (AV.lit (Value.string es)), (AV.slW 12 0 2 (@List.length Nat x_3.1.sel)), (AV.lit (Value.slice none 0 0)), (AV.lit (Value.int IntKind.u64 (0 : Int)))]) = (AV.agg [(AV.lit (Value.int IntKind.i64 (0 : Int))), (AV.lit (Value.bool Bool.false)), (AV.lit (Value.string es)), (AV.slW 12 0 2 (@List.length Nat x_3.1.sel)), (AV.lit (Value.slice none 0 0)), (AV.lit (Value.int IntKind.u64 (0 : Int)))])) ∧
 True) ∧ (apply6VC_7 x))))))))))))))))))))))))))
theorem apply6VC_ok (x : SC) : apply6VC x = apply6VC_wp x := by kernel_rfl
def apply8VC_wp (x : SC) : Prop := wpF Try.prog tblAp tt noAn 200 7 18 ((applyC 8).args x) (hO (applyC 8).k ((applyC 8).os x)) (fun v h' => endsP (applyC 8).k x v h' (applyC 8).outs)
def apply8VC (x : SC) : Prop :=
  (∃ (x_1 : @Shf), ((Hd x_1.small) ∧ (((((x_1.zp = x.s.zp) ∧ ((0 = 0) ∧ (x_1.n = x.s.n))) ∧ (((x_1.zq = x.s.zq) ∧ ((0 = 0) ∧ (x_1.m = x.s.m))) ∧ True)) ∧ True) ∧ ((((x_1.n = x.s.n) ∧ (∀ (q : Nat), ((q < x_1.n) → ([(Value.string (@Shf.pk x_1 q)), (Value.string (@Shf.pv x_1 q))] = [(Value.string (@Shf.pk x.s q)), (Value.string (@Shf.pv x.s q))])))) ∧ (((x_1.m = x.s.m) ∧ (∀ (q : Nat), ((q < x_1.m) → ([(Value.string (@Shf.qv x_1 q))] = [(Value.string (@Shf.qv x.s q))])))) ∧ True)) ∧ ((∀ (y : Unit), (((x_1.zp = Bool.true) ∧ (x_1.zq = Bool.true)) → (∃ (x_2 : Cll), ((Hd x_2.small) ∧ ((((x_2.kind = (8 : Int)) ∧ ((x_2.key = x.c.key) ∧ ((x_2.value = x.c.value) ∧ ((x_2.to = x.c.to) ∧ (((0 = 0) ∧ (x_2.gn = x.c.gn)) ∧ True))))) ∧ True) ∧ ((((x_2.gn = x.c.gn) ∧ (∀ (q : Nat), ((q < x_2.gn) → ([(Value.int IntKind.i64 (Mem.kind (Cll.g x_2 q))), (Value.string (Mem.key (Cll.g x_2 q))), (Value.string (Mem.value (Cll.g x_2 q))), (Value.string (Mem.to (Cll.g x_2 q))), (Value.slice (Mem.gp (Cll.g x_2 q)) (Mem.gn (Cll.g x_2 q)) (Mem.gc (Cll.g x_2 q)))] = [(Value.int IntKind.i64 (Mem.kind (Cll.g x.c q))), (Value.string (Mem.key (Cll.g x.c q))), (Value.string (Mem.value (Cll.g x.c q))), (Value.string (Mem.to (Cll.g x.c q))), (Value.slice (Mem.gp (Cll.g x.c q)) (Mem.gn (Cll.g x.c q)) (Mem.gc (Cll.g x.c q)))])))) ∧ True) ∧ (∀ (y_1 : Unit), (True → (cP (bne (goodM x_2) (0 : Int)) ((((AV.agg [(AV.lit (Value.int IntKind.i64 (goodM x_2))), (AV.lit (Value.bool Bool.false)), (AV.lit (Value.string (@ByteArray.mk (@List.toArray UInt8 (@List.nil UInt8))))), (AV.lit (Value.slice none 0 0)), (AV.lit (Value.slice none 0 0)), (AV.lit (Value.int IntKind.u64 (0 : Int)))]) = (AV.agg [(AV.lit (Value.int IntKind.i64 (goodM x_2))), (AV.lit (Value.bool Bool.false)), (AV.lit (Value.string (@ByteArray.mk (@List.toArray UInt8 (@List.nil UInt8))))), (AV.lit (Value.slice none 0 0)), (AV.lit (Value.slice none 0 0)), (AV.lit (Value.int IntKind.u64 (0 : Int)))])) ∧
 True) ∧ (True ∧ (∃ (y_2 : Bool), ((Hd (@appR x y_2)) ∧ (((True ∧ (True ∧ True)) ∧ ((True ∧ ((y_2 = Bool.false) ∧ (True ∧ (True ∧ (True ∧ (True ∧ True)))))) ∧ True)) ∧ ((((rowP x.s) = (rowP x.s)) ∧ (Bool.true = Bool.true)) ∧ ((((@rowQ x.s) = (@rowQ x.s)) ∧ (Bool.true = Bool.true)) ∧ ((((rowG x.c) = (rowG x.c)) ∧ (Bool.true = Bool.true)) ∧ True)))))))) ((((AV.agg [(AV.lit (Value.int IntKind.i64 (goodM x_2))), (AV.lit (Value.bool Bool.false)), (AV.lit (Value.string (@ByteArray.mk (@List.toArray UInt8 (@List.nil UInt8))))), (AV.lit (Value.slice none 0 0)), (AV.lit (Value.slice none 0 0)), (AV.lit (Value.int IntKind.u64 (0 : Int)))]) = (AV.agg [(AV.lit (Value.int IntKind.i64 (goodM x_2))), (AV.lit (Value.bool Bool.false)), (AV.lit (Value.string (@ByteArray.mk (@List.toArray UInt8 (@List.nil UInt8))))), (AV.lit (Value.slice none 0 0)), (AV.lit (Value.slice none 0 0)), (AV.lit (Value.int IntKind.u64 (0 : Int)))])) ∧ True) ∧ (True ∧ (∃ (y_2 : Bool), ((Hd (@appR x y_2)) ∧ (((True ∧ (True ∧ True)) ∧ ((True ∧ ((y_2 = Bool.false) ∧ (True ∧ (True ∧ (True ∧ (True ∧ True)))))) ∧ True)) ∧ ((((rowP x.s) = (rowP x.s)) ∧ (Bool.true = Bool.true)) ∧ ((((@rowQ x.s) = (@rowQ x.s)) ∧ (Bool.true = Bool.true)) ∧ ((((rowG x.c) = (rowG x.c)) ∧ (Bool.true = Bool.true)) ∧ True))))))))))))))))) ∧ ((∀ (y : Unit), (((x_1.zp = Bool.true) ∧ (x_1.zq = Bool.false)) → (∃ (x_2 : Cll), ((Hd x_2.small) ∧ ((((x_2.kind = (8 : Int)) ∧ ((x_2.key = x.c.key) ∧ ((x_2.value = x.c.value) ∧ ((x_2.to = x.c.to) ∧ (((0 = 0) ∧ (x_2.gn = x.c.gn)) ∧
 True))))) ∧ True) ∧ ((((x_2.gn = x.c.gn) ∧ (∀ (q : Nat), ((q < x_2.gn) → ([(Value.int IntKind.i64 (Mem.kind (Cll.g x_2 q))), (Value.string (Mem.key (Cll.g x_2 q))), (Value.string (Mem.value (Cll.g x_2 q))), (Value.string (Mem.to (Cll.g x_2 q))), (Value.slice (Mem.gp (Cll.g x_2 q)) (Mem.gn (Cll.g x_2 q)) (Mem.gc (Cll.g x_2 q)))] = [(Value.int IntKind.i64 (Mem.kind (Cll.g x.c q))), (Value.string (Mem.key (Cll.g x.c q))), (Value.string (Mem.value (Cll.g x.c q))), (Value.string (Mem.to (Cll.g x.c q))), (Value.slice (Mem.gp (Cll.g x.c q)) (Mem.gn (Cll.g x.c q)) (Mem.gc (Cll.g x.c q)))])))) ∧ True) ∧ (∀ (y_1 : Unit), (True → (cP (bne (goodM x_2) (0 : Int)) ((((AV.agg [(AV.lit (Value.int IntKind.i64 (goodM x_2))), (AV.lit (Value.bool Bool.false)), (AV.lit (Value.string (@ByteArray.mk (@List.toArray UInt8 (@List.nil UInt8))))), (AV.lit (Value.slice none 0 0)), (AV.lit (Value.slice none 0 0)), (AV.lit (Value.int IntKind.u64 (0 : Int)))]) = (AV.agg [(AV.lit (Value.int IntKind.i64 (goodM x_2))), (AV.lit (Value.bool Bool.false)), (AV.lit (Value.string (@ByteArray.mk (@List.toArray UInt8 (@List.nil UInt8))))), (AV.lit (Value.slice none 0 0)), (AV.lit (Value.slice none 0 0)), (AV.lit (Value.int IntKind.u64 (0 : Int)))])) ∧ True) ∧ (True ∧ (∃ (y_2 : Bool), ((Hd (@appR x y_2)) ∧ (((True ∧ (True ∧ True)) ∧ ((True ∧ ((y_2 = Bool.false) ∧ (True ∧ (True ∧ (True ∧ (True ∧ True)))))) ∧ True)) ∧ ((((rowP x.s) = (rowP x.s)) ∧ (Bool.true = Bool.true)) ∧ ((((@rowQ x.s) = (@rowQ x.s)) ∧ (Bool.true = Bool.true)) ∧
 ((((rowG x.c) = (rowG x.c)) ∧ (Bool.true = Bool.true)) ∧ True)))))))) ((((AV.agg [(AV.lit (Value.int IntKind.i64 (goodM x_2))), (AV.lit (Value.bool Bool.false)), (AV.lit (Value.string (@ByteArray.mk (@List.toArray UInt8 (@List.nil UInt8))))), (AV.lit (Value.slice none 0 0)), (AV.lit (Value.slice none 0 0)), (AV.lit (Value.int IntKind.u64 (0 : Int)))]) = (AV.agg [(AV.lit (Value.int IntKind.i64 (goodM x_2))), (AV.lit (Value.bool Bool.false)), (AV.lit (Value.string (@ByteArray.mk (@List.toArray UInt8 (@List.nil UInt8))))), (AV.lit (Value.slice none 0 0)), (AV.lit (Value.slice none 0 0)), (AV.lit (Value.int IntKind.u64 (0 : Int)))])) ∧ True) ∧ (True ∧ (∃ (y_2 : Bool), ((Hd (@appR x y_2)) ∧ (((True ∧ (True ∧ True)) ∧ ((True ∧ ((y_2 = Bool.false) ∧ (True ∧ (True ∧ (True ∧ (True ∧ True)))))) ∧ True)) ∧ ((((rowP x.s) = (rowP x.s)) ∧ (Bool.true = Bool.true)) ∧ ((((@rowQ x.s) = (@rowQ x.s)) ∧ (Bool.true = Bool.true)) ∧ ((((rowG x.c) = (rowG x.c)) ∧ (Bool.true = Bool.true)) ∧ True))))))))))))))))) ∧ ((∀ (y : Unit), (((x_1.zp = Bool.false) ∧ (x_1.zq = Bool.true)) → (∃ (x_2 : Cll), ((Hd x_2.small) ∧ ((((x_2.kind = (8 : Int)) ∧ ((x_2.key = x.c.key) ∧ ((x_2.value = x.c.value) ∧ ((x_2.to = x.c.to) ∧ (((0 = 0) ∧ (x_2.gn = x.c.gn)) ∧ True))))) ∧ True) ∧ ((((x_2.gn = x.c.gn) ∧ (∀ (q : Nat), ((q < x_2.gn) → ([(Value.int IntKind.i64 (Mem.kind (Cll.g x_2 q))), (Value.string (Mem.key (Cll.g x_2 q))), (Value.string (Mem.value (Cll.g x_2 q))), (Value.string (Mem.to (Cll.g x_2 q))), (Value.slice (Mem.gp (Cll.g x_2 q)) (Mem.gn (Cll.g x_2 q)) (Mem.gc (Cll.g x_2 q)))] = [(Value.int IntKind.i64 (Mem.kind (Cll.g x.c q))), (Value.string (Mem.key (Cll.g x.c q))), (Value.string (Mem.value (Cll.g x.c q))), (Value.string (Mem.to (Cll.g x.c q))), (Value.slice (Mem.gp (Cll.g x.c q)) (Mem.gn (Cll.g x.c q)) (Mem.gc (Cll.g x.c q)))])))) ∧
 True) ∧ (∀ (y_1 : Unit), (True → (cP (bne (goodM x_2) (0 : Int)) ((((AV.agg [(AV.lit (Value.int IntKind.i64 (goodM x_2))), (AV.lit (Value.bool Bool.false)), (AV.lit (Value.string (@ByteArray.mk (@List.toArray UInt8 (@List.nil UInt8))))), (AV.lit (Value.slice none 0 0)), (AV.lit (Value.slice none 0 0)), (AV.lit (Value.int IntKind.u64 (0 : Int)))]) = (AV.agg [(AV.lit (Value.int IntKind.i64 (goodM x_2))), (AV.lit (Value.bool Bool.false)), (AV.lit (Value.string (@ByteArray.mk (@List.toArray UInt8 (@List.nil UInt8))))), (AV.lit (Value.slice none 0 0)), (AV.lit (Value.slice none 0 0)), (AV.lit (Value.int IntKind.u64 (0 : Int)))])) ∧ True) ∧ (True ∧ (∃ (y_2 : Bool), ((Hd (@appR x y_2)) ∧ (((True ∧ (True ∧ True)) ∧ ((True ∧ ((y_2 = Bool.false) ∧ (True ∧ (True ∧ (True ∧ (True ∧ True)))))) ∧ True)) ∧ ((((rowP x.s) = (rowP x.s)) ∧ (Bool.true = Bool.true)) ∧ ((((@rowQ x.s) = (@rowQ x.s)) ∧ (Bool.true = Bool.true)) ∧ ((((rowG x.c) = (rowG x.c)) ∧ (Bool.true = Bool.true)) ∧ True)))))))) ((((AV.agg [(AV.lit (Value.int IntKind.i64 (goodM x_2))), (AV.lit (Value.bool Bool.false)), (AV.lit (Value.string (@ByteArray.mk (@List.toArray UInt8 (@List.nil UInt8))))), (AV.lit (Value.slice none 0 0)), (AV.lit (Value.slice none 0 0)), (AV.lit (Value.int IntKind.u64 (0 : Int)))]) = (AV.agg [(AV.lit (Value.int IntKind.i64 (goodM x_2))), (AV.lit (Value.bool Bool.false)), (AV.lit (Value.string (@ByteArray.mk (@List.toArray UInt8 (@List.nil UInt8))))), (AV.lit (Value.slice none 0 0)), (AV.lit (Value.slice none 0 0)), (AV.lit (Value.int IntKind.u64 (0 : Int)))])) ∧
 True) ∧ (True ∧ (∃ (y_2 : Bool), ((Hd (@appR x y_2)) ∧ (((True ∧ (True ∧ True)) ∧ ((True ∧ ((y_2 = Bool.false) ∧ (True ∧ (True ∧ (True ∧ (True ∧ True)))))) ∧ True)) ∧ ((((rowP x.s) = (rowP x.s)) ∧ (Bool.true = Bool.true)) ∧ ((((@rowQ x.s) = (@rowQ x.s)) ∧ (Bool.true = Bool.true)) ∧ ((((rowG x.c) = (rowG x.c)) ∧ (Bool.true = Bool.true)) ∧ True))))))))))))))))) ∧ (∀ (y : Unit), (((x_1.zp = Bool.false) ∧ (x_1.zq = Bool.false)) → (∃ (x_2 : Cll), ((Hd x_2.small) ∧ ((((x_2.kind = (8 : Int)) ∧ ((x_2.key = x.c.key) ∧ ((x_2.value = x.c.value) ∧ ((x_2.to = x.c.to) ∧ (((0 = 0) ∧ (x_2.gn = x.c.gn)) ∧ True))))) ∧ True) ∧ ((((x_2.gn = x.c.gn) ∧ (∀ (q : Nat), ((q < x_2.gn) → ([(Value.int IntKind.i64 (Mem.kind (Cll.g x_2 q))), (Value.string (Mem.key (Cll.g x_2 q))), (Value.string (Mem.value (Cll.g x_2 q))), (Value.string (Mem.to (Cll.g x_2 q))), (Value.slice (Mem.gp (Cll.g x_2 q)) (Mem.gn (Cll.g x_2 q)) (Mem.gc (Cll.g x_2 q)))] = [(Value.int IntKind.i64 (Mem.kind (Cll.g x.c q))), (Value.string (Mem.key (Cll.g x.c q))), (Value.string (Mem.value (Cll.g x.c q))), (Value.string (Mem.to (Cll.g x.c q))), (Value.slice (Mem.gp (Cll.g x.c q)) (Mem.gn (Cll.g x.c q)) (Mem.gc (Cll.g x.c q)))])))) ∧ True) ∧ (∀ (y_1 : Unit), (True → (cP (bne (goodM x_2) (0 : Int)) ((((AV.agg [(AV.lit (Value.int IntKind.i64 (goodM x_2))), (AV.lit (Value.bool Bool.false)), (AV.lit (Value.string (@ByteArray.mk (@List.toArray UInt8 (@List.nil UInt8))))), (AV.lit (Value.slice none 0 0)), (AV.lit (Value.slice none 0 0)), (AV.lit (Value.int IntKind.u64 (0 : Int)))]) = (AV.agg [(AV.lit (Value.int IntKind.i64 (goodM x_2))), (AV.lit (Value.bool Bool.false)), (AV.lit (Value.string (@ByteArray.mk (@List.toArray UInt8 (@List.nil UInt8))))), (AV.lit (Value.slice none 0 0)), (AV.lit (Value.slice none 0 0)), (AV.lit (Value.int IntKind.u64 (0 : Int)))])) ∧
 True) ∧ (True ∧ (∃ (y_2 : Bool), ((Hd (@appR x y_2)) ∧ (((True ∧ (True ∧ True)) ∧ ((True ∧ ((y_2 = Bool.false) ∧ (True ∧ (True ∧ (True ∧ (True ∧ True)))))) ∧ True)) ∧ ((((rowP x.s) = (rowP x.s)) ∧ (Bool.true = Bool.true)) ∧ ((((@rowQ x.s) = (@rowQ x.s)) ∧ (Bool.true = Bool.true)) ∧ ((((rowG x.c) = (rowG x.c)) ∧ (Bool.true = Bool.true)) ∧ True)))))))) ((((AV.agg [(AV.lit (Value.int IntKind.i64 (goodM x_2))), (AV.lit (Value.bool Bool.false)), (AV.lit (Value.string (@ByteArray.mk (@List.toArray UInt8 (@List.nil UInt8))))), (AV.lit (Value.slice none 0 0)), (AV.lit (Value.slice none 0 0)), (AV.lit (Value.int IntKind.u64 (0 : Int)))]) = (AV.agg [(AV.lit (Value.int IntKind.i64 (goodM x_2))), (AV.lit (Value.bool Bool.false)), (AV.lit (Value.string (@ByteArray.mk (@List.toArray UInt8 (@List.nil UInt8))))), (AV.lit (Value.slice none 0 0)), (AV.lit (Value.slice none 0 0)), (AV.lit (Value.int IntKind.u64 (0 : Int)))])) ∧ True) ∧ (True ∧ (∃ (y_2 : Bool), ((Hd (@appR x y_2)) ∧ (((True ∧ (True ∧ True)) ∧ ((True ∧ ((y_2 = Bool.false) ∧ (True ∧ (True ∧ (True ∧ (True ∧ True)))))) ∧ True)) ∧ ((((rowP x.s) = (rowP x.s)) ∧ (Bool.true = Bool.true)) ∧ ((((@rowQ x.s) = (@rowQ x.s)) ∧ (Bool.true = Bool.true)) ∧ ((((rowG x.c) = (rowG x.c)) ∧ (Bool.true = Bool.true)) ∧ True))))))))))))))))))))))))
theorem apply8VC_ok (x : SC) : apply8VC x = apply8VC_wp x := by kernel_rfl
end Go.Proofs.Ytjndgegfonhhfaa
end
section
/- What a call does to a store: what is asked is so. -/
namespace Go.Proofs.Ytjndgegfonhhfaa
open Go SE
theorem getAVC_true (x : SK) (hx : (SV.mk x.s x.key es).ok false) : getAVC x := by
  unfold getAVC
  simp only [hd_iff, and_true, true_and, Nat.zero_add, Nat.add_zero, unit_ex, unit_all, true_implies, implies_true, Int.toNat_natCast, eq_self, and_self, eL, Nat.sub_zero]
  refine ⟨x, hx, ⟨rfl, rfl⟩, ⟨rfl, fun _ _ => rfl⟩, cP_intro (fun h => ?_) (fun h => ?_)⟩
  · have h := place_neg (s := x.s) (k := x.key) (by have := of_decide_eq_true h; omega)
    exact ⟨by unfold getM; rw [h]; rfl, h⟩
  · have h : placeI x.s x.key ≥ 0 := by have := of_decide_eq_false h; omega
    obtain ⟨e1, e2, e3⟩ := place_nn h
    exact ⟨⟨h, by omega⟩, by omega, by unfold getM; rw [e1, e2]; rfl, e1⟩
theorem getNVC_true (x : BA) : getNVC x := by
  unfold getNVC
  simp only [hd_iff, and_true, true_and, Nat.zero_add, Nat.add_zero, unit_ex, unit_all, true_implies, implies_true, Int.toNat_natCast, eq_self, and_self, eL, Nat.sub_zero]
  rfl
theorem getA_ok : CtrOk Try.prog 36 getA := det_end tt_ok mixed (.cons (ctrT_ok placeA_ok) .nil) (fun _ => noAn) 200 5 (fun _ => rfl) (fun _ => rfl) fun x hx => Eq.mp (getAVC_ok x) (getAVC_true x (hd_iff.1 hx))
theorem getN_ok : CtrOk Try.prog 36 getN := det_end tt_ok mixed .nil (fun _ => noAn) 200 5 (fun _ => rfl) (fun _ => rfl) fun x _ => Eq.mp (getNVC_ok x) (getNVC_true x)
theorem getT_ok (args : List AV) (h : Heap) (K : AV → Heap → Prop) (hq : getT args h K) : Sp Try.prog 36 args h K := by
  unfold getT at hq
  split at hq
  · rename_i p _ _
    cases hb : isNilA p <;> rw [hb] at hq
    · exact ctrT_ok getA_ok _ _ _ hq
    · exact ctrT_ok getN_ok _ _ _ hq
  · exact hq.elim
theorem tblAp_ok : TblOk Try.prog tblAp := .cons (ctrT_ok good_ok) (.cons (ctrT_ok copied_ok) (.cons (orElseT_ok (ctrT_ok scanN_ok) (ctrT_ok scan_ok)) (.cons setT_ok (.cons dropT_ok (.cons getT_ok .nil)))))
theorem sv_ok {x : SC} (hx : x.ok) (z : Bool) (hz : z = true → x.s.zp = true) (value : BA) : (SV.mk x.s x.c.key value).ok z :=
  ⟨fun h => hx.2.1.1 (hz h), by have := hx.1.1; dsimp only; omega, hx.2.2.1, fun k hk => by have := (hx.1.2.2.1 k hk).1; dsimp only at this ⊢; omega⟩
theorem apply2VC_true (x : SC) (hx : x.ok ∧ x.c.kind = 2 ∧ goodM x.c = 0) : apply2VC x := by
  unfold apply2VC
  simp only [apply2VC_7, apply2VC_8, apply2VC_1, apply2VC_2, apply2VC_3, apply2VC_4, apply2VC_5, apply2VC_6]
  simp only [hd_iff, and_true, true_and, Nat.zero_add, Nat.add_zero, unit_ex, unit_all, true_implies, implies_true, Int.toNat_natCast, eq_self, and_self, eL, Nat.sub_zero]
  obtain ⟨ho, hk, hg⟩ := hx
  have hs := ho.1
  have hc := ho.2.2
  have nb : (goodM x.c != 0) = false := by rw [hg]; rfl
  have any : ∀ y, appR x y := fun y => ⟨fun h => by omega, fun h => by omega⟩
  refine ⟨x.s, hs, ⟨⟨rfl, rfl⟩, rfl, rfl⟩, ⟨⟨rfl, fun _ _ => rfl⟩, rfl, fun _ _ => rfl⟩, fun ⟨hp, hq⟩ => ?_, fun ⟨hp, hq⟩ => ?_, fun ⟨hp, hq⟩ => ?_, fun ⟨hp, hq⟩ => ?_⟩
  all_goals refine ⟨x.c, hc, ⟨hk, rfl, rfl, rfl, rfl⟩, ⟨rfl, fun _ _ => rfl⟩, cP_intro (fun h => by rw [nb] at h; cases h) (fun _ => ?_)⟩
  · exact ⟨⟨x.s, x.c.key, x.c.value⟩, sv_ok ho true (fun _ => hp) _, ⟨rfl, rfl⟩, fun _ => ⟨true, any _, rfl⟩, fun _ _ => ⟨false, any _, rfl⟩⟩
  · exact ⟨⟨x.s, x.c.key, x.c.value⟩, sv_ok ho true (fun _ => hp) _, ⟨rfl, rfl⟩, ⟨rfl, rfl, fun _ _ => rfl⟩, fun _ => ⟨true, any _, rfl⟩, fun _ _ => ⟨false, any _, rfl⟩⟩
  · exact ⟨⟨x.s, x.c.key, x.c.value⟩, sv_ok ho false (fun h => by cases h) _, ⟨rfl, rfl⟩, ⟨rfl, rfl, fun _ _ => rfl⟩, fun _ => ⟨true, any _, rfl⟩, fun _ _ => ⟨false, any _, rfl⟩⟩
  · exact ⟨⟨x.s, x.c.key, x.c.value⟩, sv_ok ho false (fun h => by cases h) _, ⟨rfl, rfl⟩, ⟨⟨rfl, rfl⟩, ⟨rfl, fun _ _ => rfl⟩, rfl, fun _ _ => rfl⟩, fun _ => ⟨true, any _, rfl⟩, fun _ _ => ⟨false, any _, rfl⟩⟩
theorem apply3VC_true (x : SC) (hx : x.ok ∧ x.c.kind = 3 ∧ goodM x.c = 0) : apply3VC x := by
  unfold apply3VC
  simp only [apply3VC_6, apply3VC_7, apply3VC_1, apply3VC_2, apply3VC_3, apply3VC_4, apply3VC_5]
  simp only [hd_iff, and_true, true_and, Nat.zero_add, Nat.add_zero, unit_ex, unit_all, true_implies, implies_true, Int.toNat_natCast, eq_self, and_self, eL, Nat.sub_zero]
  obtain ⟨ho, hk, hg⟩ := hx
  have hs := ho.1
  have hc := ho.2.2
  have nb : (goodM x.c != 0) = false := by rw [hg]; rfl
  have no : hadM x.s x.c.key = false → appR x false := fun h => ⟨fun _ => h.symm, fun h => by omega⟩
  have yes : ∀ y, dropR x.s x.c.key y → appR x true := fun y h => ⟨fun _ => h.2.1.symm, fun h => by omega⟩
  refine ⟨x.s, hs, ⟨⟨rfl, rfl⟩, rfl, rfl⟩, ⟨⟨rfl, fun _ _ => rfl⟩, rfl, fun _ _ => rfl⟩, fun ⟨hp, hq⟩ => ?_, fun ⟨hp, hq⟩ => ?_, fun ⟨hp, hq⟩ => ?_, fun ⟨hp, hq⟩ => ?_⟩
  all_goals refine ⟨x.c, hc, ⟨hk, rfl, rfl, rfl, rfl⟩, ⟨rfl, fun _ _ => rfl⟩, cP_intro (fun h => by rw [nb] at h; cases h) (fun _ => ?_)⟩
  · exact ⟨⟨x.s, x.c.key⟩, sv_ok ho true (fun _ => hp) _, rfl, fun h => ⟨false, no h, rfl⟩, fun y h => ⟨true, yes y h, rfl⟩⟩
  · exact ⟨⟨x.s, x.c.key⟩, sv_ok ho true (fun _ => hp) _, rfl, ⟨rfl, rfl, fun _ _ => rfl⟩, fun h => ⟨false, no h, rfl⟩, fun y h => ⟨true, yes y h, rfl⟩⟩
  · exact ⟨⟨x.s, x.c.key⟩, sv_ok ho false (fun h => by cases h) _, rfl, ⟨rfl, rfl, fun _ _ => rfl⟩, fun h => ⟨false, no h, rfl⟩, fun y h => ⟨true, yes y h, rfl⟩⟩
  · exact ⟨⟨x.s, x.c.key⟩, sv_ok ho false (fun h => by cases h) _, rfl, ⟨⟨rfl, rfl⟩, ⟨rfl, fun _ _ => rfl⟩, rfl, fun _ _ => rfl⟩, fun h => ⟨false, no h, rfl⟩, fun y h => ⟨true, yes y h, rfl⟩⟩
theorem apply5VC_true (x : SC) (hx : x.ok ∧ x.c.kind = 5 ∧ goodM x.c = 0) : apply5VC x := by
  unfold apply5VC
  simp only [apply5VC_6, apply5VC_1, apply5VC_2, apply5VC_3, apply5VC_4, apply5VC_5, apply5VC_7]
  simp only [hd_iff, and_true, true_and, Nat.zero_add, Nat.add_zero, unit_ex, unit_all, true_implies, implies_true, Int.toNat_natCast, eq_self, and_self, eL, Nat.sub_zero]
  obtain ⟨ho, hk, hg⟩ := hx
  have hs := ho.1
  have hc := ho.2.2
  have nb : (goodM x.c != 0) = false := by rw [hg]; rfl
  have zero : x.s.m = 0 → appR x false := fun h => ⟨fun h => by omega, fun _ => by rw [h]; rfl⟩
  have some : x.s.m ≠ 0 → appR x true := fun h => ⟨fun h => by omega, fun _ => (decide_eq_true h).symm⟩
  refine ⟨x.s, hs, ⟨⟨rfl, rfl⟩, rfl, rfl⟩, ⟨⟨rfl, fun _ _ => rfl⟩, rfl, fun _ _ => rfl⟩, fun ⟨hp, hq⟩ => ?_, fun ⟨hp, hq⟩ => ?_, fun ⟨hp, hq⟩ => ?_, fun ⟨hp, hq⟩ => ?_⟩
  all_goals refine ⟨x.c, hc, ⟨hk, rfl, rfl, rfl, rfl⟩, ⟨rfl, fun _ _ => rfl⟩, cP_intro (fun h => by rw [nb] at h; cases h) (fun _ => ?_)⟩
  · exact ⟨false, zero (ho.2.1.2 hq), rfl⟩
  · exact cP_intro (fun h => ⟨false, zero (by have := eq_of_beq h; omega), rfl⟩) (fun h => by
      have h : x.s.m ≠ 0 := fun h0 => by rw [h0] at h; simp at h
      exact ⟨⟨by omega, by omega⟩, by omega, by omega, ⟨by omega, by omega⟩, true, some h, rfl⟩)
  · exact ⟨false, zero (ho.2.1.2 hq), rfl⟩
  · exact cP_intro (fun h => ⟨false, zero (by have := eq_of_beq h; omega), rfl⟩) (fun h => by
      have h : x.s.m ≠ 0 := fun h0 => by rw [h0] at h; simp at h
      exact ⟨⟨by omega, by omega⟩, by omega, by omega, ⟨by omega, by omega⟩, true, some h, rfl⟩)
theorem apply1VC_true (x : SC) (hx : x.ok ∧ x.c.kind = 1 ∧ goodM x.c = 0) : apply1VC x := by
  unfold apply1VC
  simp only [apply1VC_6, apply1VC_3, apply1VC_4, apply1VC_5, apply1VC_1, apply1VC_2]
  simp only [hd_iff, and_true, true_and, Nat.zero_add, Nat.add_zero, unit_ex, unit_all, true_implies, implies_true, Int.toNat_natCast, eq_self, and_self, eL, Nat.sub_zero]
  obtain ⟨ho, hk, hg⟩ := hx
  have hs := ho.1
  have hc := ho.2.2
  have nb : (goodM x.c != 0) = false := by rw [hg]; rfl
  have any : ∀ y, appR x y := fun y => ⟨fun h => by omega, fun h => by omega⟩
  refine ⟨x.s, hs, ⟨⟨rfl, rfl⟩, rfl, rfl⟩, ⟨⟨rfl, fun _ _ => rfl⟩, rfl, fun _ _ => rfl⟩, fun ⟨hp, hq⟩ => ?_, fun ⟨hp, hq⟩ => ?_, fun ⟨hp, hq⟩ => ?_, fun ⟨hp, hq⟩ => ?_⟩
  all_goals refine ⟨x.c, hc, ⟨hk, rfl, rfl, rfl, rfl⟩, ⟨rfl, fun _ _ => rfl⟩, cP_intro (fun h => by rw [nb] at h; cases h) (fun _ => ?_)⟩
  · exact ⟨x.c.key, rfl, false, any _, rfl⟩
  · exact ⟨x.c.key, rfl, false, any _, rfl⟩
  · exact ⟨⟨x.s, x.c.key⟩, sv_ok ho false (fun h => by cases h) _, ⟨rfl, rfl⟩, ⟨rfl, fun _ _ => rfl⟩, _, any _, rfl⟩
  · exact ⟨⟨x.s, x.c.key⟩, sv_ok ho false (fun h => by cases h) _, ⟨rfl, rfl⟩, ⟨rfl, fun _ _ => rfl⟩, _, any _, rfl⟩
theorem apply4VC_true (x : SC) (hx : x.ok ∧ x.c.kind = 4 ∧ goodM x.c = 0) : apply4VC x := by
  unfold apply4VC
  simp only [apply4VC_1, apply4VC_2, apply4VC_3, apply4VC_4, apply4VC_5]
  simp only [hd_iff, and_true, true_and, Nat.zero_add, Nat.add_zero, unit_ex, unit_all, true_implies, implies_true, Int.toNat_natCast, eq_self, and_self, eL, Nat.sub_zero]
  obtain ⟨ho, hk, hg⟩ := hx
  have hs := ho.1
  have hc := ho.2.2
  have nb : (goodM x.c != 0) = false := by rw [hg]; rfl
  have any : ∀ y, appR x y := fun y => ⟨fun h => by omega, fun h => by omega⟩
  refine ⟨x.s, hs, ⟨⟨rfl, rfl⟩, rfl, rfl⟩, ⟨⟨rfl, fun _ _ => rfl⟩, rfl, fun _ _ => rfl⟩, fun ⟨hp, hq⟩ => ?_, fun ⟨hp, hq⟩ => ?_, fun ⟨hp, hq⟩ => ?_, fun ⟨hp, hq⟩ => ?_⟩
  all_goals refine ⟨x.c, hc, ⟨hk, rfl, rfl, rfl, rfl⟩, ⟨rfl, fun _ _ => rfl⟩, cP_intro (fun h => by rw [nb] at h; cases h) (fun _ => ?_)⟩
  · exact ⟨by omega, false, any _, rfl⟩
  · exact ⟨rfl, by have := hs.2.1; omega, false, any _, rfl⟩
  · exact ⟨by omega, false, any _, rfl⟩
  · exact ⟨rfl, by have := hs.2.1; omega, false, any _, rfl⟩
theorem apply6VC_true (x : SC) (hx : x.ok ∧ x.c.kind = 6 ∧ goodM x.c = 0) : apply6VC x := by
  unfold apply6VC
  simp only [apply6VC_13, apply6VC_7, apply6VC_1, apply6VC_2, apply6VC_3, apply6VC_4, apply6VC_5, apply6VC_6, apply6VC_8, apply6VC_9, apply6VC_10, apply6VC_11, apply6VC_12]
  simp only [hd_iff, and_true, true_and, Nat.zero_add, Nat.add_zero, unit_ex, unit_all, true_implies, implies_true, Int.toNat_natCast, eq_self, and_self, eL, Nat.sub_zero]
  obtain ⟨ho, hk, hg⟩ := hx
  have hs := ho.1
  have hc := ho.2.2
  have nb : (goodM x.c != 0) = false := by rw [hg]; rfl
  have any : ∀ y, appR x y := fun y => ⟨fun h => by omega, fun h => by omega⟩
  refine ⟨x.s, hs, ⟨⟨rfl, rfl⟩, rfl, rfl⟩, ⟨⟨rfl, fun _ _ => rfl⟩, rfl, fun _ _ => rfl⟩, fun ⟨hp, hq⟩ => ?_, fun ⟨hp, hq⟩ => ?_, fun ⟨hp, hq⟩ => ?_, fun ⟨hp, hq⟩ => ?_⟩
  all_goals refine ⟨x.c, hc, ⟨hk, rfl, rfl, rfl, rfl⟩, ⟨rfl, fun _ _ => rfl⟩, cP_intro (fun h => by rw [nb] at h; cases h) (fun _ => ?_)⟩
  · exact .inl ⟨(⟨x.s, x.c.key, x.c.to⟩, x.c.value), ⟨rfl, rfl, rfl⟩, ⟨hg.symm, rfl⟩, false, any _, rfl⟩
  · exact .inl ⟨(⟨x.s, x.c.key, x.c.to⟩, x.c.value), ⟨rfl, rfl, rfl⟩, ⟨hg.symm, rfl⟩, false, any _, rfl⟩
  · exact .inr ⟨(⟨x.s, x.c.key, x.c.to⟩, x.c.value), ⟨hs, hc.1, hc.2.2.1⟩, ⟨rfl, rfl, rfl⟩, ⟨rfl, ⟨hg.symm, rfl⟩, rfl, fun _ _ => rfl⟩, fun _ => ⟨false, any _, rfl⟩, false, any _, rfl⟩
  · exact .inr ⟨(⟨x.s, x.c.key, x.c.to⟩, x.c.value), ⟨hs, hc.1, hc.2.2.1⟩, ⟨rfl, rfl, rfl⟩, ⟨rfl, ⟨hg.symm, rfl⟩, rfl, fun _ _ => rfl⟩, fun _ => ⟨false, any _, rfl⟩, false, any _, rfl⟩
theorem apply8VC_true (x : SC) (hx : x.ok ∧ x.c.kind = 8 ∧ goodM x.c = 0) : apply8VC x := by
  unfold apply8VC
  simp only [hd_iff, and_true, true_and, Nat.zero_add, Nat.add_zero, unit_ex, unit_all, true_implies, implies_true, Int.toNat_natCast, eq_self, and_self, eL, Nat.sub_zero]
  obtain ⟨ho, hk, hg⟩ := hx
  have hs := ho.1
  have hc := ho.2.2
  have nb : (goodM x.c != 0) = false := by rw [hg]; rfl
  have any : ∀ y, appR x y := fun y => ⟨fun h => by omega, fun h => by omega⟩
  refine ⟨x.s, hs, ⟨⟨rfl, rfl⟩, rfl, rfl⟩, ⟨⟨rfl, fun _ _ => rfl⟩, rfl, fun _ _ => rfl⟩, fun ⟨hp, hq⟩ => ?_, fun ⟨hp, hq⟩ => ?_, fun ⟨hp, hq⟩ => ?_, fun ⟨hp, hq⟩ => ?_⟩
  all_goals refine ⟨x.c, hc, ⟨hk, rfl, rfl, rfl, rfl⟩, ⟨rfl, fun _ _ => rfl⟩, cP_intro (fun h => by rw [nb] at h; cases h) (fun _ => ?_)⟩
  all_goals exact ⟨false, any _, rfl⟩
theorem apply1_ok : CtrOk Try.prog 18 (applyC 1) := ctr_endL tt_ok mixed tblAp_ok (C := applyC 1) (fun _ => noAn) 200 7 (fun _ => rfl) (fun _ => ⟨fun _ => rfl, trivial⟩) fun x hx => Eq.mp (apply1VC_ok x) (apply1VC_true x (hd_iff.1 hx))
theorem apply2_ok : CtrOk Try.prog 18 (applyC 2) := ctr_endL tt_ok mixed tblAp_ok (C := applyC 2) (fun _ => noAn) 200 7 (fun _ => rfl) (fun _ => ⟨fun _ => rfl, trivial⟩) fun x hx => Eq.mp (apply2VC_ok x) (apply2VC_true x (hd_iff.1 hx))
theorem apply3_ok : CtrOk Try.prog 18 (applyC 3) := ctr_endL tt_ok mixed tblAp_ok (C := applyC 3) (fun _ => noAn) 200 7 (fun _ => rfl) (fun _ => ⟨fun _ => rfl, trivial⟩) fun x hx => Eq.mp (apply3VC_ok x) (apply3VC_true x (hd_iff.1 hx))
theorem apply4_ok : CtrOk Try.prog 18 (applyC 4) := ctr_endL tt_ok mixed tblAp_ok (C := applyC 4) (fun _ => noAn) 200 7 (fun _ => rfl) (fun _ => ⟨fun _ => rfl, trivial⟩) fun x hx => Eq.mp (apply4VC_ok x) (apply4VC_true x (hd_iff.1 hx))
theorem apply5_ok : CtrOk Try.prog 18 (applyC 5) := ctr_endL tt_ok mixed tblAp_ok (C := applyC 5) (fun _ => noAn) 200 7 (fun _ => rfl) (fun _ => ⟨fun _ => rfl, trivial⟩) fun x hx => Eq.mp (apply5VC_ok x) (apply5VC_true x (hd_iff.1 hx))
theorem apply6_ok : CtrOk Try.prog 18 (applyC 6) := ctr_endL tt_ok mixed tblAp_ok (C := applyC 6) (fun _ => noAn) 200 7 (fun _ => rfl) (fun _ => ⟨fun _ => rfl, trivial⟩) fun x hx => Eq.mp (apply6VC_ok x) (apply6VC_true x (hd_iff.1 hx))
theorem apply8_ok : CtrOk Try.prog 18 (applyC 8) := ctr_endL tt_ok mixed tblAp_ok (C := applyC 8) (fun _ => noAn) 200 7 (fun _ => rfl) (fun _ => ⟨fun _ => rfl, trivial⟩) fun x hx => Eq.mp (apply8VC_ok x) (apply8VC_true x (hd_iff.1 hx))
end Go.Proofs.Ytjndgegfonhhfaa
end
section
/- What a group does to a store: what is asked is so. -/
namespace Go.Proofs.Ytjndgegfonhhfaa
open Go SE
def updH (hit : Nat → Bool) (i : Nat) (b : Bool) : Nat → Bool := fun q => bif Nat.beq q i then b else hit q
def pushS (c : Shf) (v : BA) : Shf := { c with m := c.m + 1, qv := fun q => bif Nat.beq q c.m then v else c.qv q }
def pushN (c : Shf) (v : BA) : Shf := { c with m := 1, qv := fun _ => v }
theorem hits_row (hit : Nat → Bool) (i : Nat) (b : Bool) : ∀ q, q < i + 1 → [Value.bool (updH hit i b q)] = Cs.eff (fun q => [Value.bool (hit q)]) [(i, List.take 1 [Value.bool b])] q := fun q _ => by
  simp only [Cs.eff, updH]; cases Nat.beq q i <;> rfl
theorem hits_row0 (hit : Nat → Bool) (b : Bool) : ∀ q, q < 1 → [Value.bool (updH hit 0 b q)] = Cs.eff (fun _ => []) [(0, List.take 1 [Value.bool b])] q := fun q hq => by
  obtain rfl : q = 0 := by omega
  rfl
theorem push_row (c : Shf) (v : BA) : ∀ q, q < (pushS c v).m → [Value.string ((pushS c v).qv q)] = Cs.eff (fun k => [Value.string (c.qv k)]) [(c.m, List.take 1 [Value.string v])] q := fun q _ => by
  simp only [Cs.eff, pushS]; cases Nat.beq q c.m <;> rfl
theorem push_row0 (c : Shf) (v : BA) : ∀ q, q < (pushN c v).m → [Value.string ((pushN c v).qv q)] = Cs.eff (fun _ => []) [(0, List.take 1 [Value.string v])] q := fun q hq => by
  obtain rfl : q = 0 := by simp only [pushN] at hq; omega
  rfl
theorem hadM_ins (c : Shf) (i : Nat) (key value k' : BA) (hi : i ≤ c.n) (h : eqB key k' = false) : hadM (insS c i key value) k' = hadM c k' := by
  refine hadM_congr ⟨fun ⟨q, h1, h2⟩ => ?_, fun ⟨q, h1, h2⟩ => ?_⟩
  · by_cases hq : q < i
    · exact ⟨q, by simp only [insS]; omega, by simp only [insS]; rw [insF_lt hq]; exact h2⟩
    · exact ⟨q + 1, by simp only [insS]; omega, by simp only [insS]; rw [insF_gt (by omega)]; exact h2⟩
  · simp only [insS] at h1 h2
    by_cases hq : q < i
    · rw [insF_lt hq] at h2; exact ⟨q, by omega, h2⟩
    · by_cases hq2 : q = i
      · subst hq2; rw [insF_eq, h] at h2; cases h2
      · rw [insF_gt (by omega)] at h2; exact ⟨q - 1, by omega, h2⟩
theorem inv_step {x : SC} {c c' : Shf} {hit : Nat → Bool} {i : Nat} {b : Bool} (h : invH x c hit i) (hn : c'.n ≤ c.n + 1) (hm : c'.m ≤ c.m + 1 ∨ c'.m = 1) (hs : ∀ k, k < c'.n → (c'.pk k).size ≤ 1500)
    (hk : ∀ k', (keyedM (x.c.g i).kind = true → eqB (x.c.g i).key k' = false) → hadM c' k' = hadM c k') (hb : (x.c.g i).kind = 3 → b = hadM x.s (x.c.g i).key) : invH x c' (updH hit i b) (i + 1) := by
  obtain ⟨h1, h2, h3, h4, h5⟩ := h
  refine ⟨by omega, by omega, hs, fun k' hj => ?_, fun j hj h3 => ?_⟩
  · rw [hk k' (hj i (by omega)), h4 k' fun j hj' => hj j (by omega)]
  · unfold updH
    by_cases he : j = i
    · subst he; simp only [Nat.beq_refl, cond_true]; exact hb h3
    · rw [nbeq_ne he]; exact h5 j (by omega) h3
theorem inv_zero (x : SC) (hx : x.ok) : invH x x.s (fun _ => false) 0 :=
  ⟨by omega, by omega, fun k hk => by have := (hx.1.2.2.1 k hk).1; omega, fun _ _ => rfl, fun j hj => by omega⟩
theorem eqB_comm {a b : BA} (h : eqB a b = false) : eqB b a = false := by
  cases hb : eqB b a
  · rfl
  · have e := eqB_iff.1 hb
    rw [e, eqB_iff.2 rfl] at h; cases h
/-- A member's key has not been touched. -/
theorem inv_had {x : SC} {c : Shf} {hit : Nat → Bool} {i : Nat} (h : invH x c hit i) (hm : memOk x.c.g i = true) (hk : keyedM (x.c.g i).kind = true) : hadM c (x.c.g i).key = hadM x.s (x.c.g i).key := by
  refine h.2.2.2.1 _ fun j hj hkj => ?_
  unfold memOk at hm
  simp only [Bool.and_eq_true] at hm
  have := of_decide_eq_true hm.2 j hj
  rw [hk, hkj] at this
  exact eqB_comm (by simpa using this)
theorem drop_sizes {s y : Shf} {key : BA} (h : dropR s key y) (hs : ∀ k, k < s.n → (s.pk k).size ≤ 1500) (hk : key.size ≤ 1500) : ∀ k, k < y.n → (y.pk k).size ≤ 1500 := fun k hk' => by
  cases he : eqB (y.pk k) key with
  | true => rw [eqB_iff.1 he]; exact hk
  | false =>
    have h1 := h.2.2 (y.pk k) he
    rw [(hadM_iff y (y.pk k)).2 ⟨k, hk', eqB_iff.2 rfl⟩] at h1
    obtain ⟨q, q1, q2⟩ := (hadM_iff s (y.pk k)).1 h1.symm
    rw [← eqB_iff.1 q2]; exact hs q q1
theorem key2 {k : Int} (h : k = 2) : keyedM k = true := by subst h; rfl
theorem key3 {k : Int} (h : k = 3) : keyedM k = true := by subst h; rfl
section
variable {x : SC} {c : Shf} {hit : Nat → Bool} {i : Nat}
theorem step_found (h : invH x c hit i) (hk : (x.c.g i).kind = 2) : invH x (setS c (x.c.g i).key (x.c.g i).value) (updH hit i true) (i + 1) :=
  inv_step h (by simp only [setS]; omega) (.inl (by simp only [setS]; omega)) h.2.2.1 (fun k' _ => hadM_congr Iff.rfl) (fun h => by omega)
theorem step_ins (h : invH x c hit i) (hk : (x.c.g i).kind = 2) (hz : (x.c.g i).key.size ≤ 1500) {p : Nat} (hp : p ≤ c.n) : invH x (insS c p (x.c.g i).key (x.c.g i).value) (updH hit i false) (i + 1) :=
  inv_step h (by simp only [insS]; omega) (.inl (by simp only [insS]; omega)) (fun k hk' => by
    simp only [insS] at hk' ⊢
    by_cases h1 : k < p
    · rw [insF_lt h1]; exact h.2.2.1 k (by omega)
    · by_cases h2 : k = p
      · subst h2; rw [insF_eq]; exact hz
      · rw [insF_gt (by omega)]; exact h.2.2.1 (k - 1) (by omega)) (fun k' hk' => hadM_ins c p _ _ k' hp (hk' (key2 hk))) (fun h => by omega)
theorem step_miss (h : invH x c hit i) (hm : memOk x.c.g i = true) (hk : (x.c.g i).kind = 3) (hh : hadM c (x.c.g i).key = false) : invH x c (updH hit i false) (i + 1) :=
  inv_step h (by omega) (.inl (by omega)) h.2.2.1 (fun _ _ => rfl) (fun _ => by rw [← inv_had h hm (key3 hk), hh])
theorem step_drop (h : invH x c hit i) (hm : memOk x.c.g i = true) (hk : (x.c.g i).kind = 3) (hz : (x.c.g i).key.size ≤ 1500) {y : Shf} (hy : dropR c (x.c.g i).key y) : invH x { y with m := c.m, qv := c.qv } (updH hit i true) (i + 1) :=
  inv_step h (by have := hy.1; dsimp only; omega) (.inl (by dsimp only; omega)) (drop_sizes hy h.2.2.1 hz) (fun k' hk' => (hadM_congr Iff.rfl).trans (hy.2.2 k' (eqB_comm (hk' (key3 hk))))) (fun _ => by rw [← inv_had h hm (key3 hk), hy.2.1])
theorem step_push (h : invH x c hit i) (hk : (x.c.g i).kind = 4) (v : BA) : invH x (pushS c v) (updH hit i false) (i + 1) :=
  inv_step h (by simp only [pushS]; omega) (.inl (by simp only [pushS]; omega)) h.2.2.1 (fun k' _ => hadM_congr Iff.rfl) (fun h => by omega)
theorem step_pushN (h : invH x c hit i) (hk : (x.c.g i).kind = 4) (v : BA) : invH x (pushN c v) (updH hit i false) (i + 1) :=
  inv_step h (by simp only [pushN]; omega) (.inr (by simp only [pushN])) h.2.2.1 (fun k' _ => hadM_congr Iff.rfl) (fun h => by omega)
theorem inv_sv (h : invH x c hit i) (hx : x.ok) (hi : i ≤ 3) (hz : (x.c.g i).key.size ≤ 1500) (z : Bool) (hn : z = true → c.n = 0) (value : BA) : (SV.mk c (x.c.g i).key value).ok z :=
  ⟨hn, by have := h.1; have := hx.1.1; dsimp only; omega, hz, h.2.2.1⟩
theorem inv_m (h : invH x c hit i) : c.m ≤ x.s.m + i := h.2.1
theorem inv_hits (h : invH x c hit x.c.gn) : groupR x hit := h.2.2.2.2
end
attribute [local irreducible] invH
set_option maxRecDepth 100000 in
set_option maxHeartbeats 16000000 in
theorem applyGVC_true (x : SC) (hx : x.ok ∧ x.c.kind = 7 ∧ goodM x.c = 0) : applyGVC x := by
  unfold applyGVC
  simp only [applyGVC_17, applyGVC_41, applyGVC_71, applyGVC_1, applyGVC_2, applyGVC_3, applyGVC_4, applyGVC_5, applyGVC_6, applyGVC_13, applyGVC_14, applyGVC_18, applyGVC_15, applyGVC_116, applyGVC_110, applyGVC_104, applyGVC_98, applyGVC_92, applyGVC_86, applyGVC_80, applyGVC_74, applyGVC_68, applyGVC_62, applyGVC_56, applyGVC_50, applyGVC_44, applyGVC_38, applyGVC_32, applyGVC_19, applyGVC_115, applyGVC_109, applyGVC_103, applyGVC_97, applyGVC_91, applyGVC_85, applyGVC_79, applyGVC_73, applyGVC_67, applyGVC_61, applyGVC_55, applyGVC_49, applyGVC_43, applyGVC_37, applyGVC_31, applyGVC_25, applyGVC_39, applyGVC_118, applyGVC_112, applyGVC_106, applyGVC_100, applyGVC_94, applyGVC_88, applyGVC_82, applyGVC_76, applyGVC_70, applyGVC_83, applyGVC_7, applyGVC_48, applyGVC_53, applyGVC_60, applyGVC_8, applyGVC_16, applyGVC_26, applyGVC_21, applyGVC_27, applyGVC_58, applyGVC_120, applyGVC_114, applyGVC_108, applyGVC_102, applyGVC_96, applyGVC_84, applyGVC_9, applyGVC_10, applyGVC_11, applyGVC_12, applyGVC_20, applyGVC_77, applyGVC_22, applyGVC_23, applyGVC_24, applyGVC_28, applyGVC_29, applyGVC_30, applyGVC_33, applyGVC_34, applyGVC_35, applyGVC_51, applyGVC_72, applyGVC_36, applyGVC_45, applyGVC_47, applyGVC_40, applyGVC_42, applyGVC_119, applyGVC_113, applyGVC_107, applyGVC_101, applyGVC_95, applyGVC_90, applyGVC_46, applyGVC_52, applyGVC_54, applyGVC_57, applyGVC_59, applyGVC_63, applyGVC_117, applyGVC_111, applyGVC_105, applyGVC_99, applyGVC_93, applyGVC_87, applyGVC_81, applyGVC_75, applyGVC_69, applyGVC_64, applyGVC_65, applyGVC_66, applyGVC_78, applyGVC_89, hd_iff, and_true, true_and, Nat.zero_add, Nat.add_zero, unit_ex, unit_all, true_implies, implies_true, Int.toNat_natCast, eq_self, and_self, eL, Nat.sub_zero]
  obtain ⟨ho, h7, hg⟩ := hx
  obtain ⟨g1, g2, g3⟩ := mem_kinds hg h7
  have hs := ho.1
  have hc := ho.2.2
  have nb : (goodM x.c != 0) = false := by rw [hg]; rfl
  have hq40 : ∀ m i, m ≤ x.s.m + i → i ≤ 3 → (2 * (m + 1) + 1000) * 16 ≤ 281474976710656 := fun m i h hi => by have := hs.2.1; omega
  refine ⟨x.s, hs, ⟨⟨rfl, rfl⟩, rfl, rfl⟩, ⟨⟨rfl, fun _ _ => rfl⟩, rfl, fun _ _ => rfl⟩, fun ⟨hp, hq⟩ => ?_, fun ⟨hp, hq⟩ => ?_, fun ⟨hp, hq⟩ => ?_, fun ⟨hp, hq⟩ => ?_⟩
  all_goals refine ⟨x.c, hc, ⟨h7, rfl, rfl, rfl, rfl⟩, ⟨rfl, fun _ _ => rfl⟩, cP_intro (fun h => by rw [nb] at h; cases h) (fun _ => ?_)⟩
  · have hn0 := ho.2.1.1 hp
    refine ⟨cP_intro (fun hlt => ?_) (fun hlt => absurd (of_decide_eq_false hlt) (by omega)), ?_, ?_, ?_, ?_⟩
    · refine ⟨⟨by omega, by omega⟩, by omega, ?_⟩
      have hm := g3 0 (by omega)
      have hz : (x.c.g 0).key.size ≤ 1500 := (hc.2.2.2.2 0 (by omega)).1
      rcases mem_kind hm with hk | hk | hk
      · rw [hk]
        refine cP_intro (fun h => absurd h (by decide)) (fun _ => cP_intro (fun _ => ?_) (fun h => absurd h (by decide)))
        refine ⟨⟨x.s, (x.c.g 0).key, (x.c.g 0).value⟩, inv_sv (inv_zero x ho) ho (by omega) hz true (fun _ => hn0) _, ⟨rfl, rfl⟩, fun hh => ?_, fun p hp => ?_⟩
        · exact absurd hh (by rw [hadM_not (fun q hq => by dsimp only at hq; omega)]; decide)
        · have hI := step_ins (inv_zero x ho) hk hz hp.2
          refine ⟨by omega, by unfold I64; omega, ((1, insS x.s p (x.c.g 0).key (x.c.g 0).value), updH (fun _ => false) 0 false), ?_⟩
          repeat' apply And.intro
          all_goals first | exact hI | rfl | (simp only [insS, setS, pushS, pushN]; omega) | omega | exact hg.symm | exact hits_row _ _ _ | exact hits_row0 _ _ | exact push_row _ _ | exact push_row0 _ _ | exact fun _ _ => rfl | assumption
      · rw [hk]
        refine cP_intro (fun h => absurd h (by decide)) (fun _ => cP_intro (fun h => absurd h (by decide)) (fun _ => cP_intro (fun _ => ?_) (fun h => absurd h (by decide))))
        refine ⟨⟨x.s, (x.c.g 0).key⟩, inv_sv (inv_zero x ho) ho (by omega) hz true (fun _ => hn0) _, rfl, fun hh => ?_, fun y hy => ?_⟩
        · have hI := step_miss (inv_zero x ho) hm hk hh
          refine ⟨by omega, by unfold I64; omega, ((1, x.s), updH (fun _ => false) 0 false), ?_⟩
          repeat' apply And.intro
          all_goals first | exact hI | rfl | (simp only [insS, setS, pushS, pushN]; omega) | omega | exact hg.symm | exact hits_row _ _ _ | exact hits_row0 _ _ | exact push_row _ _ | exact push_row0 _ _ | exact fun _ _ => rfl | assumption
        · have := hy.1; dsimp only at this; omega
      · rw [hk]
        refine cP_intro (fun h => absurd h (by decide)) (fun _ => cP_intro (fun h => absurd h (by decide)) (fun _ => cP_intro (fun h => absurd h (by decide)) (fun _ => cP_intro (fun _ => ?_) (fun h => absurd h (by decide)))))
        have hI := step_pushN (inv_zero x ho) hk (x.c.g 0).value
        refine ⟨by omega, by omega, by unfold I64; omega, ((1, pushN x.s (x.c.g 0).value), updH (fun _ => false) 0 false), ?_⟩
        repeat' apply And.intro
        all_goals first | exact hI | rfl | (simp only [insS, setS, pushS, pushN]; omega) | omega | exact hg.symm | exact hits_row _ _ _ | exact hits_row0 _ _ | exact push_row _ _ | exact push_row0 _ _ | exact fun _ _ => rfl | assumption
    · rintro ⟨⟨i, c⟩, hit⟩ ⟨hn0, h1, h2, hinv⟩
      dsimp only at *
      refine cP_intro (fun hlt => ?_) (fun hlt => ?_)
      · have hlt := of_decide_eq_true hlt
        refine ⟨⟨by omega, by omega⟩, by omega, ?_⟩
        have hm := g3 i (by omega)
        have hz : (x.c.g i).key.size ≤ 1500 := (hc.2.2.2.2 i (by omega)).1
        rcases mem_kind hm with hk | hk | hk
        · rw [hk]
          refine cP_intro (fun h => absurd h (by decide)) (fun _ => cP_intro (fun _ => ?_) (fun h => absurd h (by decide)))
          refine ⟨⟨c, (x.c.g i).key, (x.c.g i).value⟩, inv_sv hinv ho (by omega) hz true (fun _ => hn0) _, ⟨rfl, rfl⟩, fun hh => ?_, fun p hp => ?_⟩
          · exact absurd hh (by rw [hadM_not (fun q hq => by dsimp only at hq; omega)]; decide)
          · have hI := step_ins hinv hk hz hp.2
            refine ⟨by omega, by unfold I64; omega, ((i + 1, insS c p (x.c.g i).key (x.c.g i).value), updH hit i false), ?_⟩
            repeat' apply And.intro
            all_goals first | exact hI | rfl | (simp only [insS, setS, pushS, pushN]; omega) | omega | exact hg.symm | exact hits_row _ _ _ | exact hits_row0 _ _ | exact push_row _ _ | exact push_row0 _ _ | exact fun _ _ => rfl | assumption
        · rw [hk]
          refine cP_intro (fun h => absurd h (by decide)) (fun _ => cP_intro (fun h => absurd h (by decide)) (fun _ => cP_intro (fun _ => ?_) (fun h => absurd h (by decide))))
          refine ⟨⟨c, (x.c.g i).key⟩, inv_sv hinv ho (by omega) hz true (fun _ => hn0) _, rfl, fun hh => ?_, fun y hy => ?_⟩
          · have hI := step_miss hinv hm hk hh
            refine ⟨by omega, by unfold I64; omega, ((i + 1, c), updH hit i false), ?_⟩
            repeat' apply And.intro
            all_goals first | exact hI | rfl | (simp only [insS, setS, pushS, pushN]; omega) | omega | exact hg.symm | exact hits_row _ _ _ | exact hits_row0 _ _ | exact push_row _ _ | exact push_row0 _ _ | exact fun _ _ => rfl | assumption
          · have := hy.1; dsimp only at this; omega
        · rw [hk]
          refine cP_intro (fun h => absurd h (by decide)) (fun _ => cP_intro (fun h => absurd h (by decide)) (fun _ => cP_intro (fun h => absurd h (by decide)) (fun _ => cP_intro (fun _ => ?_) (fun h => absurd h (by decide)))))
          have hI := step_pushN hinv hk (x.c.g i).value
          refine ⟨by omega, by omega, by unfold I64; omega, ((i + 1, pushN c (x.c.g i).value), updH hit i false), ?_⟩
          repeat' apply And.intro
          all_goals first | exact hI | rfl | (simp only [insS, setS, pushS, pushN]; omega) | omega | exact hg.symm | exact hits_row _ _ _ | exact hits_row0 _ _ | exact push_row _ _ | exact push_row0 _ _ | exact fun _ _ => rfl | assumption
      · have he : i = x.c.gn := by have := of_decide_eq_false hlt; omega
        subst he
        refine ⟨hit, inv_hits hinv, ?_⟩
        repeat' apply And.intro
        all_goals first | rfl | omega | exact fun _ _ => rfl | exact hg.symm
    · rintro ⟨⟨i, c⟩, hit⟩ ⟨hn0, h1, h2, hinv⟩
      dsimp only at *
      refine cP_intro (fun hlt => ?_) (fun hlt => ?_)
      · have hlt := of_decide_eq_true hlt
        refine ⟨⟨by omega, by omega⟩, by omega, ?_⟩
        have hm := g3 i (by omega)
        have hz : (x.c.g i).key.size ≤ 1500 := (hc.2.2.2.2 i (by omega)).1
        rcases mem_kind hm with hk | hk | hk
        · rw [hk]
          refine cP_intro (fun h => absurd h (by decide)) (fun _ => cP_intro (fun _ => ?_) (fun h => absurd h (by decide)))
          refine ⟨⟨c, (x.c.g i).key, (x.c.g i).value⟩, inv_sv hinv ho (by omega) hz true (fun _ => hn0) _, ⟨rfl, rfl⟩, ⟨rfl, rfl, fun _ _ => rfl⟩, fun hh => ?_, fun p hp => ?_⟩
          · exact absurd hh (by rw [hadM_not (fun q hq => by dsimp only at hq; omega)]; decide)
          · have hI := step_ins hinv hk hz hp.2
            refine ⟨by omega, by unfold I64; omega, ((i + 1, insS c p (x.c.g i).key (x.c.g i).value), updH hit i false), ?_⟩
            repeat' apply And.intro
            all_goals first | exact hI | rfl | (simp only [insS, setS, pushS, pushN]; omega) | omega | exact hg.symm | exact hits_row _ _ _ | exact hits_row0 _ _ | exact push_row _ _ | exact push_row0 _ _ | exact fun _ _ => rfl | assumption
        · rw [hk]
          refine cP_intro (fun h => absurd h (by decide)) (fun _ => cP_intro (fun h => absurd h (by decide)) (fun _ => cP_intro (fun _ => ?_) (fun h => absurd h (by decide))))
          refine ⟨⟨c, (x.c.g i).key⟩, inv_sv hinv ho (by omega) hz true (fun _ => hn0) _, rfl, ⟨rfl, rfl, fun _ _ => rfl⟩, fun hh => ?_, fun y hy => ?_⟩
          · have hI := step_miss hinv hm hk hh
            refine ⟨by omega, by unfold I64; omega, ((i + 1, c), updH hit i false), ?_⟩
            repeat' apply And.intro
            all_goals first | exact hI | rfl | (simp only [insS, setS, pushS, pushN]; omega) | omega | exact hg.symm | exact hits_row _ _ _ | exact hits_row0 _ _ | exact push_row _ _ | exact push_row0 _ _ | exact fun _ _ => rfl | assumption
          · have := hy.1; dsimp only at this; omega
        · rw [hk]
          refine cP_intro (fun h => absurd h (by decide)) (fun _ => cP_intro (fun h => absurd h (by decide)) (fun _ => cP_intro (fun h => absurd h (by decide)) (fun _ => cP_intro (fun _ => ?_) (fun h => absurd h (by decide)))))
          have hI := step_push hinv hk (x.c.g i).value
          refine ⟨rfl, hq40 _ _ (inv_m hinv) (by omega), by omega, by unfold I64; omega, ((i + 1, pushS c (x.c.g i).value), updH hit i false), ?_⟩
          repeat' apply And.intro
          all_goals first | exact hI | rfl | (simp only [insS, setS, pushS, pushN]; omega) | omega | exact hg.symm | exact hits_row _ _ _ | exact hits_row0 _ _ | exact push_row _ _ | exact push_row0 _ _ | exact fun _ _ => rfl | assumption
      · have he : i = x.c.gn := by have := of_decide_eq_false hlt; omega
        subst he
        refine ⟨hit, inv_hits hinv, ?_⟩
        repeat' apply And.intro
        all_goals first | rfl | omega | exact fun _ _ => rfl | exact hg.symm
    · rintro ⟨⟨i, c⟩, hit⟩ ⟨h1, h2, hinv⟩
      dsimp only at *
      refine cP_intro (fun hlt => ?_) (fun hlt => ?_)
      · have hlt := of_decide_eq_true hlt
        refine ⟨⟨by omega, by omega⟩, by omega, ?_⟩
        have hm := g3 i (by omega)
        have hz : (x.c.g i).key.size ≤ 1500 := (hc.2.2.2.2 i (by omega)).1
        rcases mem_kind hm with hk | hk | hk
        · rw [hk]
          refine cP_intro (fun h => absurd h (by decide)) (fun _ => cP_intro (fun _ => ?_) (fun h => absurd h (by decide)))
          refine ⟨⟨c, (x.c.g i).key, (x.c.g i).value⟩, inv_sv hinv ho (by omega) hz false (fun h => by cases h) _, ⟨rfl, rfl⟩, ⟨rfl, rfl, fun _ _ => rfl⟩, fun hh => ?_, fun p hp => ?_⟩
          · have hI := step_found hinv hk
            refine ⟨by omega, by unfold I64; omega, ((i + 1, setS c (x.c.g i).key (x.c.g i).value), updH hit i true), ?_⟩
            repeat' apply And.intro
            all_goals first | exact hI | rfl | (simp only [insS, setS, pushS, pushN]; omega) | omega | exact hg.symm | exact hits_row _ _ _ | exact hits_row0 _ _ | exact push_row _ _ | exact push_row0 _ _ | exact fun _ _ => rfl | assumption
          · have hI := step_ins hinv hk hz hp.2
            refine ⟨by omega, by unfold I64; omega, ((i + 1, insS c p (x.c.g i).key (x.c.g i).value), updH hit i false), ?_⟩
            repeat' apply And.intro
            all_goals first | exact hI | rfl | (simp only [insS, setS, pushS, pushN]; omega) | omega | exact hg.symm | exact hits_row _ _ _ | exact hits_row0 _ _ | exact push_row _ _ | exact push_row0 _ _ | exact fun _ _ => rfl | assumption
        · rw [hk]
          refine cP_intro (fun h => absurd h (by decide)) (fun _ => cP_intro (fun h => absurd h (by decide)) (fun _ => cP_intro (fun _ => ?_) (fun h => absurd h (by decide))))
          refine ⟨⟨c, (x.c.g i).key⟩, inv_sv hinv ho (by omega) hz false (fun h => by cases h) _, rfl, ⟨rfl, rfl, fun _ _ => rfl⟩, fun hh => ?_, fun y hy => ?_⟩
          · have hI := step_miss hinv hm hk hh
            refine ⟨by omega, by unfold I64; omega, ((i + 1, c), updH hit i false), ?_⟩
            repeat' apply And.intro
            all_goals first | exact hI | rfl | (simp only [insS, setS, pushS, pushN]; omega) | omega | exact hg.symm | exact hits_row _ _ _ | exact hits_row0 _ _ | exact push_row _ _ | exact push_row0 _ _ | exact fun _ _ => rfl | assumption
          · have hI := step_drop hinv hm hk hz hy
            refine ⟨by omega, by unfold I64; omega, ((i + 1, { y with m := c.m, qv := c.qv }), updH hit i true), ?_⟩
            repeat' apply And.intro
            all_goals first | exact hI | rfl | (simp only [insS, setS, pushS, pushN]; omega) | omega | exact hg.symm | exact hits_row _ _ _ | exact hits_row0 _ _ | exact push_row _ _ | exact push_row0 _ _ | exact fun _ _ => rfl | assumption
        · rw [hk]
          refine cP_intro (fun h => absurd h (by decide)) (fun _ => cP_intro (fun h => absurd h (by decide)) (fun _ => cP_intro (fun h => absurd h (by decide)) (fun _ => cP_intro (fun _ => ?_) (fun h => absurd h (by decide)))))
          have hI := step_pushN hinv hk (x.c.g i).value
          refine ⟨by omega, by omega, by unfold I64; omega, ((i + 1, pushN c (x.c.g i).value), updH hit i false), ?_⟩
          repeat' apply And.intro
          all_goals first | exact hI | rfl | (simp only [insS, setS, pushS, pushN]; omega) | omega | exact hg.symm | exact hits_row _ _ _ | exact hits_row0 _ _ | exact push_row _ _ | exact push_row0 _ _ | exact fun _ _ => rfl | assumption
      · have he : i = x.c.gn := by have := of_decide_eq_false hlt; omega
        subst he
        refine ⟨hit, inv_hits hinv, ?_⟩
        repeat' apply And.intro
        all_goals first | rfl | omega | exact fun _ _ => rfl | exact hg.symm
    · rintro ⟨⟨i, c⟩, hit⟩ ⟨h1, h2, hinv⟩
      dsimp only at *
      refine cP_intro (fun hlt => ?_) (fun hlt => ?_)
      · have hlt := of_decide_eq_true hlt
        refine ⟨⟨by omega, by omega⟩, by omega, ?_⟩
        have hm := g3 i (by omega)
        have hz : (x.c.g i).key.size ≤ 1500 := (hc.2.2.2.2 i (by omega)).1
        rcases mem_kind hm with hk | hk | hk
        · rw [hk]
          refine cP_intro (fun h => absurd h (by decide)) (fun _ => cP_intro (fun _ => ?_) (fun h => absurd h (by decide)))
          refine ⟨⟨c, (x.c.g i).key, (x.c.g i).value⟩, inv_sv hinv ho (by omega) hz false (fun h => by cases h) _, ⟨rfl, rfl⟩, ⟨⟨rfl, rfl⟩, ⟨rfl, fun _ _ => rfl⟩, rfl, fun _ _ => rfl⟩, fun hh => ?_, fun p hp => ?_⟩
          · have hI := step_found hinv hk
            refine ⟨by omega, by unfold I64; omega, ((i + 1, setS c (x.c.g i).key (x.c.g i).value), updH hit i true), ?_⟩
            repeat' apply And.intro
            all_goals first | exact hI | rfl | (simp only [insS, setS, pushS, pushN]; omega) | omega | exact hg.symm | exact hits_row _ _ _ | exact hits_row0 _ _ | exact push_row _ _ | exact push_row0 _ _ | exact fun _ _ => rfl | assumption
          · have hI := step_ins hinv hk hz hp.2
            refine ⟨by omega, by unfold I64; omega, ((i + 1, insS c p (x.c.g i).key (x.c.g i).value), updH hit i false), ?_⟩
            repeat' apply And.intro
            all_goals first | exact hI | rfl | (simp only [insS, setS, pushS, pushN]; omega) | omega | exact hg.symm | exact hits_row _ _ _ | exact hits_row0 _ _ | exact push_row _ _ | exact push_row0 _ _ | exact fun _ _ => rfl | assumption
        · rw [hk]
          refine cP_intro (fun h => absurd h (by decide)) (fun _ => cP_intro (fun h => absurd h (by decide)) (fun _ => cP_intro (fun _ => ?_) (fun h => absurd h (by decide))))
          refine ⟨⟨c, (x.c.g i).key⟩, inv_sv hinv ho (by omega) hz false (fun h => by cases h) _, rfl, ⟨⟨rfl, rfl⟩, ⟨rfl, fun _ _ => rfl⟩, rfl, fun _ _ => rfl⟩, fun hh => ?_, fun y hy => ?_⟩
          · have hI := step_miss hinv hm hk hh
            refine ⟨by omega, by unfold I64; omega, ((i + 1, c), updH hit i false), ?_⟩
            repeat' apply And.intro
            all_goals first | exact hI | rfl | (simp only [insS, setS, pushS, pushN]; omega) | omega | exact hg.symm | exact hits_row _ _ _ | exact hits_row0 _ _ | exact push_row _ _ | exact push_row0 _ _ | exact fun _ _ => rfl | assumption
          · have hI := step_drop hinv hm hk hz hy
            refine ⟨by omega, by unfold I64; omega, ((i + 1, { y with m := c.m, qv := c.qv }), updH hit i true), ?_⟩
            repeat' apply And.intro
            all_goals first | exact hI | rfl | (simp only [insS, setS, pushS, pushN]; omega) | omega | exact hg.symm | exact hits_row _ _ _ | exact hits_row0 _ _ | exact push_row _ _ | exact push_row0 _ _ | exact fun _ _ => rfl | assumption
        · rw [hk]
          refine cP_intro (fun h => absurd h (by decide)) (fun _ => cP_intro (fun h => absurd h (by decide)) (fun _ => cP_intro (fun h => absurd h (by decide)) (fun _ => cP_intro (fun _ => ?_) (fun h => absurd h (by decide)))))
          have hI := step_push hinv hk (x.c.g i).value
          refine ⟨rfl, hq40 _ _ (inv_m hinv) (by omega), by omega, by unfold I64; omega, ((i + 1, pushS c (x.c.g i).value), updH hit i false), ?_⟩
          repeat' apply And.intro
          all_goals first | exact hI | rfl | (simp only [insS, setS, pushS, pushN]; omega) | omega | exact hg.symm | exact hits_row _ _ _ | exact hits_row0 _ _ | exact push_row _ _ | exact push_row0 _ _ | exact fun _ _ => rfl | assumption
      · have he : i = x.c.gn := by have := of_decide_eq_false hlt; omega
        subst he
        refine ⟨hit, inv_hits hinv, ?_⟩
        repeat' apply And.intro
        all_goals first | rfl | omega | exact fun _ _ => rfl | exact hg.symm
  · have hn0 := ho.2.1.1 hp
    refine ⟨cP_intro (fun hlt => ?_) (fun hlt => absurd (of_decide_eq_false hlt) (by omega)), ?_, ?_, ?_, ?_⟩
    · refine ⟨⟨by omega, by omega⟩, by omega, ?_⟩
      have hm := g3 0 (by omega)
      have hz : (x.c.g 0).key.size ≤ 1500 := (hc.2.2.2.2 0 (by omega)).1
      rcases mem_kind hm with hk | hk | hk
      · rw [hk]
        refine cP_intro (fun h => absurd h (by decide)) (fun _ => cP_intro (fun _ => ?_) (fun h => absurd h (by decide)))
        refine ⟨⟨x.s, (x.c.g 0).key, (x.c.g 0).value⟩, inv_sv (inv_zero x ho) ho (by omega) hz true (fun _ => hn0) _, ⟨rfl, rfl⟩, ⟨rfl, rfl, fun _ _ => rfl⟩, fun hh => ?_, fun p hp => ?_⟩
        · exact absurd hh (by rw [hadM_not (fun q hq => by dsimp only at hq; omega)]; decide)
        · have hI := step_ins (inv_zero x ho) hk hz hp.2
          refine ⟨by omega, by unfold I64; omega, ((1, insS x.s p (x.c.g 0).key (x.c.g 0).value), updH (fun _ => false) 0 false), ?_⟩
          repeat' apply And.intro
          all_goals first | exact hI | rfl | (simp only [insS, setS, pushS, pushN]; omega) | omega | exact hg.symm | exact hits_row _ _ _ | exact hits_row0 _ _ | exact push_row _ _ | exact push_row0 _ _ | exact fun _ _ => rfl | assumption
      · rw [hk]
        refine cP_intro (fun h => absurd h (by decide)) (fun _ => cP_intro (fun h => absurd h (by decide)) (fun _ => cP_intro (fun _ => ?_) (fun h => absurd h (by decide))))
        refine ⟨⟨x.s, (x.c.g 0).key⟩, inv_sv (inv_zero x ho) ho (by omega) hz true (fun _ => hn0) _, rfl, ⟨rfl, rfl, fun _ _ => rfl⟩, fun hh => ?_, fun y hy => ?_⟩
        · have hI := step_miss (inv_zero x ho) hm hk hh
          refine ⟨by omega, by unfold I64; omega, ((1, x.s), updH (fun _ => false) 0 false), ?_⟩
          repeat' apply And.intro
          all_goals first | exact hI | rfl | (simp only [insS, setS, pushS, pushN]; omega) | omega | exact hg.symm | exact hits_row _ _ _ | exact hits_row0 _ _ | exact push_row _ _ | exact push_row0 _ _ | exact fun _ _ => rfl | assumption
        · have := hy.1; dsimp only at this; omega
      · rw [hk]
        refine cP_intro (fun h => absurd h (by decide)) (fun _ => cP_intro (fun h => absurd h (by decide)) (fun _ => cP_intro (fun h => absurd h (by decide)) (fun _ => cP_intro (fun _ => ?_) (fun h => absurd h (by decide)))))
        have hI := step_push (inv_zero x ho) hk (x.c.g 0).value
        refine ⟨rfl, hq40 _ _ (inv_m (inv_zero x ho)) (by omega), by omega, by unfold I64; omega, ((1, pushS x.s (x.c.g 0).value), updH (fun _ => false) 0 false), ?_⟩
        repeat' apply And.intro
        all_goals first | exact hI | rfl | (simp only [insS, setS, pushS, pushN]; omega) | omega | exact hg.symm | exact hits_row _ _ _ | exact hits_row0 _ _ | exact push_row _ _ | exact push_row0 _ _ | exact fun _ _ => rfl | assumption
    · rintro ⟨⟨i, c⟩, hit⟩ ⟨hn0, h1, h2, hinv⟩
      dsimp only at *
      refine cP_intro (fun hlt => ?_) (fun hlt => ?_)
      · have hlt := of_decide_eq_true hlt
        refine ⟨⟨by omega, by omega⟩, by omega, ?_⟩
        have hm := g3 i (by omega)
        have hz : (x.c.g i).key.size ≤ 1500 := (hc.2.2.2.2 i (by omega)).1
        rcases mem_kind hm with hk | hk | hk
        · rw [hk]
          refine cP_intro (fun h => absurd h (by decide)) (fun _ => cP_intro (fun _ => ?_) (fun h => absurd h (by decide)))
          refine ⟨⟨c, (x.c.g i).key, (x.c.g i).value⟩, inv_sv hinv ho (by omega) hz true (fun _ => hn0) _, ⟨rfl, rfl⟩, ⟨rfl, rfl, fun _ _ => rfl⟩, fun hh => ?_, fun p hp => ?_⟩
          · exact absurd hh (by rw [hadM_not (fun q hq => by dsimp only at hq; omega)]; decide)
          · have hI := step_ins hinv hk hz hp.2
            refine ⟨by omega, by unfold I64; omega, ((i + 1, insS c p (x.c.g i).key (x.c.g i).value), updH hit i false), ?_⟩
            repeat' apply And.intro
            all_goals first | exact hI | rfl | (simp only [insS, setS, pushS, pushN]; omega) | omega | exact hg.symm | exact hits_row _ _ _ | exact hits_row0 _ _ | exact push_row _ _ | exact push_row0 _ _ | exact fun _ _ => rfl | assumption
        · rw [hk]
          refine cP_intro (fun h => absurd h (by decide)) (fun _ => cP_intro (fun h => absurd h (by decide)) (fun _ => cP_intro (fun _ => ?_) (fun h => absurd h (by decide))))
          refine ⟨⟨c, (x.c.g i).key⟩, inv_sv hinv ho (by omega) hz true (fun _ => hn0) _, rfl, ⟨rfl, rfl, fun _ _ => rfl⟩, fun hh => ?_, fun y hy => ?_⟩
          · have hI := step_miss hinv hm hk hh
            refine ⟨by omega, by unfold I64; omega, ((i + 1, c), updH hit i false), ?_⟩
            repeat' apply And.intro
            all_goals first | exact hI | rfl | (simp only [insS, setS, pushS, pushN]; omega) | omega | exact hg.symm | exact hits_row _ _ _ | exact hits_row0 _ _ | exact push_row _ _ | exact push_row0 _ _ | exact fun _ _ => rfl | assumption
          · have := hy.1; dsimp only at this; omega
        · rw [hk]
          refine cP_intro (fun h => absurd h (by decide)) (fun _ => cP_intro (fun h => absurd h (by decide)) (fun _ => cP_intro (fun h => absurd h (by decide)) (fun _ => cP_intro (fun _ => ?_) (fun h => absurd h (by decide)))))
          have hI := step_push hinv hk (x.c.g i).value
          refine ⟨rfl, hq40 _ _ (inv_m hinv) (by omega), by omega, by unfold I64; omega, ((i + 1, pushS c (x.c.g i).value), updH hit i false), ?_⟩
          repeat' apply And.intro
          all_goals first | exact hI | rfl | (simp only [insS, setS, pushS, pushN]; omega) | omega | exact hg.symm | exact hits_row _ _ _ | exact hits_row0 _ _ | exact push_row _ _ | exact push_row0 _ _ | exact fun _ _ => rfl | assumption
      · have he : i = x.c.gn := by have := of_decide_eq_false hlt; omega
        subst he
        refine ⟨hit, inv_hits hinv, ?_⟩
        repeat' apply And.intro
        all_goals first | rfl | omega | exact fun _ _ => rfl | exact hg.symm
    · rintro ⟨⟨i, c⟩, hit⟩ ⟨hn0, h1, h2, hinv⟩
      dsimp only at *
      refine cP_intro (fun hlt => ?_) (fun hlt => ?_)
      · have hlt := of_decide_eq_true hlt
        refine ⟨⟨by omega, by omega⟩, by omega, ?_⟩
        have hm := g3 i (by omega)
        have hz : (x.c.g i).key.size ≤ 1500 := (hc.2.2.2.2 i (by omega)).1
        rcases mem_kind hm with hk | hk | hk
        · rw [hk]
          refine cP_intro (fun h => absurd h (by decide)) (fun _ => cP_intro (fun _ => ?_) (fun h => absurd h (by decide)))
          refine ⟨⟨c, (x.c.g i).key, (x.c.g i).value⟩, inv_sv hinv ho (by omega) hz true (fun _ => hn0) _, ⟨rfl, rfl⟩, ⟨rfl, rfl, fun _ _ => rfl⟩, fun hh => ?_, fun p hp => ?_⟩
          · exact absurd hh (by rw [hadM_not (fun q hq => by dsimp only at hq; omega)]; decide)
          · have hI := step_ins hinv hk hz hp.2
            refine ⟨by omega, by unfold I64; omega, ((i + 1, insS c p (x.c.g i).key (x.c.g i).value), updH hit i false), ?_⟩
            repeat' apply And.intro
            all_goals first | exact hI | rfl | (simp only [insS, setS, pushS, pushN]; omega) | omega | exact hg.symm | exact hits_row _ _ _ | exact hits_row0 _ _ | exact push_row _ _ | exact push_row0 _ _ | exact fun _ _ => rfl | assumption
        · rw [hk]
          refine cP_intro (fun h => absurd h (by decide)) (fun _ => cP_intro (fun h => absurd h (by decide)) (fun _ => cP_intro (fun _ => ?_) (fun h => absurd h (by decide))))
          refine ⟨⟨c, (x.c.g i).key⟩, inv_sv hinv ho (by omega) hz true (fun _ => hn0) _, rfl, ⟨rfl, rfl, fun _ _ => rfl⟩, fun hh => ?_, fun y hy => ?_⟩
          · have hI := step_miss hinv hm hk hh
            refine ⟨by omega, by unfold I64; omega, ((i + 1, c), updH hit i false), ?_⟩
            repeat' apply And.intro
            all_goals first | exact hI | rfl | (simp only [insS, setS, pushS, pushN]; omega) | omega | exact hg.symm | exact hits_row _ _ _ | exact hits_row0 _ _ | exact push_row _ _ | exact push_row0 _ _ | exact fun _ _ => rfl | assumption
          · have := hy.1; dsimp only at this; omega
        · rw [hk]
          refine cP_intro (fun h => absurd h (by decide)) (fun _ => cP_intro (fun h => absurd h (by decide)) (fun _ => cP_intro (fun h => absurd h (by decide)) (fun _ => cP_intro (fun _ => ?_) (fun h => absurd h (by decide)))))
          have hI := step_push hinv hk (x.c.g i).value
          refine ⟨rfl, hq40 _ _ (inv_m hinv) (by omega), by omega, by unfold I64; omega, ((i + 1, pushS c (x.c.g i).value), updH hit i false), ?_⟩
          repeat' apply And.intro
          all_goals first | exact hI | rfl | (simp only [insS, setS, pushS, pushN]; omega) | omega | exact hg.symm | exact hits_row _ _ _ | exact hits_row0 _ _ | exact push_row _ _ | exact push_row0 _ _ | exact fun _ _ => rfl | assumption
      · have he : i = x.c.gn := by have := of_decide_eq_false hlt; omega
        subst he
        refine ⟨hit, inv_hits hinv, ?_⟩
        repeat' apply And.intro
        all_goals first | rfl | omega | exact fun _ _ => rfl | exact hg.symm
    · rintro ⟨⟨i, c⟩, hit⟩ ⟨h1, h2, hinv⟩
      dsimp only at *
      refine cP_intro (fun hlt => ?_) (fun hlt => ?_)
      · have hlt := of_decide_eq_true hlt
        refine ⟨⟨by omega, by omega⟩, by omega, ?_⟩
        have hm := g3 i (by omega)
        have hz : (x.c.g i).key.size ≤ 1500 := (hc.2.2.2.2 i (by omega)).1
        rcases mem_kind hm with hk | hk | hk
        · rw [hk]
          refine cP_intro (fun h => absurd h (by decide)) (fun _ => cP_intro (fun _ => ?_) (fun h => absurd h (by decide)))
          refine ⟨⟨c, (x.c.g i).key, (x.c.g i).value⟩, inv_sv hinv ho (by omega) hz false (fun h => by cases h) _, ⟨rfl, rfl⟩, ⟨⟨rfl, rfl⟩, ⟨rfl, fun _ _ => rfl⟩, rfl, fun _ _ => rfl⟩, fun hh => ?_, fun p hp => ?_⟩
          · have hI := step_found hinv hk
            refine ⟨by omega, by unfold I64; omega, ((i + 1, setS c (x.c.g i).key (x.c.g i).value), updH hit i true), ?_⟩
            repeat' apply And.intro
            all_goals first | exact hI | rfl | (simp only [insS, setS, pushS, pushN]; omega) | omega | exact hg.symm | exact hits_row _ _ _ | exact hits_row0 _ _ | exact push_row _ _ | exact push_row0 _ _ | exact fun _ _ => rfl | assumption
          · have hI := step_ins hinv hk hz hp.2
            refine ⟨by omega, by unfold I64; omega, ((i + 1, insS c p (x.c.g i).key (x.c.g i).value), updH hit i false), ?_⟩
            repeat' apply And.intro
            all_goals first | exact hI | rfl | (simp only [insS, setS, pushS, pushN]; omega) | omega | exact hg.symm | exact hits_row _ _ _ | exact hits_row0 _ _ | exact push_row _ _ | exact push_row0 _ _ | exact fun _ _ => rfl | assumption
        · rw [hk]
          refine cP_intro (fun h => absurd h (by decide)) (fun _ => cP_intro (fun h => absurd h (by decide)) (fun _ => cP_intro (fun _ => ?_) (fun h => absurd h (by decide))))
          refine ⟨⟨c, (x.c.g i).key⟩, inv_sv hinv ho (by omega) hz false (fun h => by cases h) _, rfl, ⟨⟨rfl, rfl⟩, ⟨rfl, fun _ _ => rfl⟩, rfl, fun _ _ => rfl⟩, fun hh => ?_, fun y hy => ?_⟩
          · have hI := step_miss hinv hm hk hh
            refine ⟨by omega, by unfold I64; omega, ((i + 1, c), updH hit i false), ?_⟩
            repeat' apply And.intro
            all_goals first | exact hI | rfl | (simp only [insS, setS, pushS, pushN]; omega) | omega | exact hg.symm | exact hits_row _ _ _ | exact hits_row0 _ _ | exact push_row _ _ | exact push_row0 _ _ | exact fun _ _ => rfl | assumption
          · have hI := step_drop hinv hm hk hz hy
            refine ⟨by omega, by unfold I64; omega, ((i + 1, { y with m := c.m, qv := c.qv }), updH hit i true), ?_⟩
            repeat' apply And.intro
            all_goals first | exact hI | rfl | (simp only [insS, setS, pushS, pushN]; omega) | omega | exact hg.symm | exact hits_row _ _ _ | exact hits_row0 _ _ | exact push_row _ _ | exact push_row0 _ _ | exact fun _ _ => rfl | assumption
        · rw [hk]
          refine cP_intro (fun h => absurd h (by decide)) (fun _ => cP_intro (fun h => absurd h (by decide)) (fun _ => cP_intro (fun h => absurd h (by decide)) (fun _ => cP_intro (fun _ => ?_) (fun h => absurd h (by decide)))))
          have hI := step_push hinv hk (x.c.g i).value
          refine ⟨rfl, hq40 _ _ (inv_m hinv) (by omega), by omega, by unfold I64; omega, ((i + 1, pushS c (x.c.g i).value), updH hit i false), ?_⟩
          repeat' apply And.intro
          all_goals first | exact hI | rfl | (simp only [insS, setS, pushS, pushN]; omega) | omega | exact hg.symm | exact hits_row _ _ _ | exact hits_row0 _ _ | exact push_row _ _ | exact push_row0 _ _ | exact fun _ _ => rfl | assumption
      · have he : i = x.c.gn := by have := of_decide_eq_false hlt; omega
        subst he
        refine ⟨hit, inv_hits hinv, ?_⟩
        repeat' apply And.intro
        all_goals first | rfl | omega | exact fun _ _ => rfl | exact hg.symm
    · rintro ⟨⟨i, c⟩, hit⟩ ⟨h1, h2, hinv⟩
      dsimp only at *
      refine cP_intro (fun hlt => ?_) (fun hlt => ?_)
      · have hlt := of_decide_eq_true hlt
        refine ⟨⟨by omega, by omega⟩, by omega, ?_⟩
        have hm := g3 i (by omega)
        have hz : (x.c.g i).key.size ≤ 1500 := (hc.2.2.2.2 i (by omega)).1
        rcases mem_kind hm with hk | hk | hk
        · rw [hk]
          refine cP_intro (fun h => absurd h (by decide)) (fun _ => cP_intro (fun _ => ?_) (fun h => absurd h (by decide)))
          refine ⟨⟨c, (x.c.g i).key, (x.c.g i).value⟩, inv_sv hinv ho (by omega) hz false (fun h => by cases h) _, ⟨rfl, rfl⟩, ⟨⟨rfl, rfl⟩, ⟨rfl, fun _ _ => rfl⟩, rfl, fun _ _ => rfl⟩, fun hh => ?_, fun p hp => ?_⟩
          · have hI := step_found hinv hk
            refine ⟨by omega, by unfold I64; omega, ((i + 1, setS c (x.c.g i).key (x.c.g i).value), updH hit i true), ?_⟩
            repeat' apply And.intro
            all_goals first | exact hI | rfl | (simp only [insS, setS, pushS, pushN]; omega) | omega | exact hg.symm | exact hits_row _ _ _ | exact hits_row0 _ _ | exact push_row _ _ | exact push_row0 _ _ | exact fun _ _ => rfl | assumption
          · have hI := step_ins hinv hk hz hp.2
            refine ⟨by omega, by unfold I64; omega, ((i + 1, insS c p (x.c.g i).key (x.c.g i).value), updH hit i false), ?_⟩
            repeat' apply And.intro
            all_goals first | exact hI | rfl | (simp only [insS, setS, pushS, pushN]; omega) | omega | exact hg.symm | exact hits_row _ _ _ | exact hits_row0 _ _ | exact push_row _ _ | exact push_row0 _ _ | exact fun _ _ => rfl | assumption
        · rw [hk]
          refine cP_intro (fun h => absurd h (by decide)) (fun _ => cP_intro (fun h => absurd h (by decide)) (fun _ => cP_intro (fun _ => ?_) (fun h => absurd h (by decide))))
          refine ⟨⟨c, (x.c.g i).key⟩, inv_sv hinv ho (by omega) hz false (fun h => by cases h) _, rfl, ⟨⟨rfl, rfl⟩, ⟨rfl, fun _ _ => rfl⟩, rfl, fun _ _ => rfl⟩, fun hh => ?_, fun y hy => ?_⟩
          · have hI := step_miss hinv hm hk hh
            refine ⟨by omega, by unfold I64; omega, ((i + 1, c), updH hit i false), ?_⟩
            repeat' apply And.intro
            all_goals first | exact hI | rfl | (simp only [insS, setS, pushS, pushN]; omega) | omega | exact hg.symm | exact hits_row _ _ _ | exact hits_row0 _ _ | exact push_row _ _ | exact push_row0 _ _ | exact fun _ _ => rfl | assumption
          · have hI := step_drop hinv hm hk hz hy
            refine ⟨by omega, by unfold I64; omega, ((i + 1, { y with m := c.m, qv := c.qv }), updH hit i true), ?_⟩
            repeat' apply And.intro
            all_goals first | exact hI | rfl | (simp only [insS, setS, pushS, pushN]; omega) | omega | exact hg.symm | exact hits_row _ _ _ | exact hits_row0 _ _ | exact push_row _ _ | exact push_row0 _ _ | exact fun _ _ => rfl | assumption
        · rw [hk]
          refine cP_intro (fun h => absurd h (by decide)) (fun _ => cP_intro (fun h => absurd h (by decide)) (fun _ => cP_intro (fun h => absurd h (by decide)) (fun _ => cP_intro (fun _ => ?_) (fun h => absurd h (by decide)))))
          have hI := step_push hinv hk (x.c.g i).value
          refine ⟨rfl, hq40 _ _ (inv_m hinv) (by omega), by omega, by unfold I64; omega, ((i + 1, pushS c (x.c.g i).value), updH hit i false), ?_⟩
          repeat' apply And.intro
          all_goals first | exact hI | rfl | (simp only [insS, setS, pushS, pushN]; omega) | omega | exact hg.symm | exact hits_row _ _ _ | exact hits_row0 _ _ | exact push_row _ _ | exact push_row0 _ _ | exact fun _ _ => rfl | assumption
      · have he : i = x.c.gn := by have := of_decide_eq_false hlt; omega
        subst he
        refine ⟨hit, inv_hits hinv, ?_⟩
        repeat' apply And.intro
        all_goals first | rfl | omega | exact fun _ _ => rfl | exact hg.symm
  · refine ⟨cP_intro (fun hlt => ?_) (fun hlt => absurd (of_decide_eq_false hlt) (by omega)), ?_, ?_, ?_, ?_⟩
    · refine ⟨⟨by omega, by omega⟩, by omega, ?_⟩
      have hm := g3 0 (by omega)
      have hz : (x.c.g 0).key.size ≤ 1500 := (hc.2.2.2.2 0 (by omega)).1
      rcases mem_kind hm with hk | hk | hk
      · rw [hk]
        refine cP_intro (fun h => absurd h (by decide)) (fun _ => cP_intro (fun _ => ?_) (fun h => absurd h (by decide)))
        refine ⟨⟨x.s, (x.c.g 0).key, (x.c.g 0).value⟩, inv_sv (inv_zero x ho) ho (by omega) hz false (fun h => by cases h) _, ⟨rfl, rfl⟩, ⟨rfl, rfl, fun _ _ => rfl⟩, fun hh => ?_, fun p hp => ?_⟩
        · have hI := step_found (inv_zero x ho) hk
          refine ⟨by omega, by unfold I64; omega, ((1, setS x.s (x.c.g 0).key (x.c.g 0).value), updH (fun _ => false) 0 true), ?_⟩
          repeat' apply And.intro
          all_goals first | exact hI | rfl | (simp only [insS, setS, pushS, pushN]; omega) | omega | exact hg.symm | exact hits_row _ _ _ | exact hits_row0 _ _ | exact push_row _ _ | exact push_row0 _ _ | exact fun _ _ => rfl | assumption
        · have hI := step_ins (inv_zero x ho) hk hz hp.2
          refine ⟨by omega, by unfold I64; omega, ((1, insS x.s p (x.c.g 0).key (x.c.g 0).value), updH (fun _ => false) 0 false), ?_⟩
          repeat' apply And.intro
          all_goals first | exact hI | rfl | (simp only [insS, setS, pushS, pushN]; omega) | omega | exact hg.symm | exact hits_row _ _ _ | exact hits_row0 _ _ | exact push_row _ _ | exact push_row0 _ _ | exact fun _ _ => rfl | assumption
      · rw [hk]
        refine cP_intro (fun h => absurd h (by decide)) (fun _ => cP_intro (fun h => absurd h (by decide)) (fun _ => cP_intro (fun _ => ?_) (fun h => absurd h (by decide))))
        refine ⟨⟨x.s, (x.c.g 0).key⟩, inv_sv (inv_zero x ho) ho (by omega) hz false (fun h => by cases h) _, rfl, ⟨rfl, rfl, fun _ _ => rfl⟩, fun hh => ?_, fun y hy => ?_⟩
        · have hI := step_miss (inv_zero x ho) hm hk hh
          refine ⟨by omega, by unfold I64; omega, ((1, x.s), updH (fun _ => false) 0 false), ?_⟩
          repeat' apply And.intro
          all_goals first | exact hI | rfl | (simp only [insS, setS, pushS, pushN]; omega) | omega | exact hg.symm | exact hits_row _ _ _ | exact hits_row0 _ _ | exact push_row _ _ | exact push_row0 _ _ | exact fun _ _ => rfl | assumption
        · have hI := step_drop (inv_zero x ho) hm hk hz hy
          refine ⟨by omega, by unfold I64; omega, ((1, { y with m := x.s.m, qv := x.s.qv }), updH (fun _ => false) 0 true), ?_⟩
          repeat' apply And.intro
          all_goals first | exact hI | rfl | (simp only [insS, setS, pushS, pushN]; omega) | omega | exact hg.symm | exact hits_row _ _ _ | exact hits_row0 _ _ | exact push_row _ _ | exact push_row0 _ _ | exact fun _ _ => rfl | assumption
      · rw [hk]
        refine cP_intro (fun h => absurd h (by decide)) (fun _ => cP_intro (fun h => absurd h (by decide)) (fun _ => cP_intro (fun h => absurd h (by decide)) (fun _ => cP_intro (fun _ => ?_) (fun h => absurd h (by decide)))))
        have hI := step_pushN (inv_zero x ho) hk (x.c.g 0).value
        refine ⟨by omega, by omega, by unfold I64; omega, ((1, pushN x.s (x.c.g 0).value), updH (fun _ => false) 0 false), ?_⟩
        repeat' apply And.intro
        all_goals first | exact hI | rfl | (simp only [insS, setS, pushS, pushN]; omega) | omega | exact hg.symm | exact hits_row _ _ _ | exact hits_row0 _ _ | exact push_row _ _ | exact push_row0 _ _ | exact fun _ _ => rfl | assumption
    · rintro ⟨⟨i, c⟩, hit⟩ ⟨h1, h2, hinv⟩
      dsimp only at *
      refine cP_intro (fun hlt => ?_) (fun hlt => ?_)
      · have hlt := of_decide_eq_true hlt
        refine ⟨⟨by omega, by omega⟩, by omega, ?_⟩
        have hm := g3 i (by omega)
        have hz : (x.c.g i).key.size ≤ 1500 := (hc.2.2.2.2 i (by omega)).1
        rcases mem_kind hm with hk | hk | hk
        · rw [hk]
          refine cP_intro (fun h => absurd h (by decide)) (fun _ => cP_intro (fun _ => ?_) (fun h => absurd h (by decide)))
          refine ⟨⟨c, (x.c.g i).key, (x.c.g i).value⟩, inv_sv hinv ho (by omega) hz false (fun h => by cases h) _, ⟨rfl, rfl⟩, ⟨rfl, rfl, fun _ _ => rfl⟩, fun hh => ?_, fun p hp => ?_⟩
          · have hI := step_found hinv hk
            refine ⟨by omega, by unfold I64; omega, ((i + 1, setS c (x.c.g i).key (x.c.g i).value), updH hit i true), ?_⟩
            repeat' apply And.intro
            all_goals first | exact hI | rfl | (simp only [insS, setS, pushS, pushN]; omega) | omega | exact hg.symm | exact hits_row _ _ _ | exact hits_row0 _ _ | exact push_row _ _ | exact push_row0 _ _ | exact fun _ _ => rfl | assumption
          · have hI := step_ins hinv hk hz hp.2
            refine ⟨by omega, by unfold I64; omega, ((i + 1, insS c p (x.c.g i).key (x.c.g i).value), updH hit i false), ?_⟩
            repeat' apply And.intro
            all_goals first | exact hI | rfl | (simp only [insS, setS, pushS, pushN]; omega) | omega | exact hg.symm | exact hits_row _ _ _ | exact hits_row0 _ _ | exact push_row _ _ | exact push_row0 _ _ | exact fun _ _ => rfl | assumption
        · rw [hk]
          refine cP_intro (fun h => absurd h (by decide)) (fun _ => cP_intro (fun h => absurd h (by decide)) (fun _ => cP_intro (fun _ => ?_) (fun h => absurd h (by decide))))
          refine ⟨⟨c, (x.c.g i).key⟩, inv_sv hinv ho (by omega) hz false (fun h => by cases h) _, rfl, ⟨rfl, rfl, fun _ _ => rfl⟩, fun hh => ?_, fun y hy => ?_⟩
          · have hI := step_miss hinv hm hk hh
            refine ⟨by omega, by unfold I64; omega, ((i + 1, c), updH hit i false), ?_⟩
            repeat' apply And.intro
            all_goals first | exact hI | rfl | (simp only [insS, setS, pushS, pushN]; omega) | omega | exact hg.symm | exact hits_row _ _ _ | exact hits_row0 _ _ | exact push_row _ _ | exact push_row0 _ _ | exact fun _ _ => rfl | assumption
          · have hI := step_drop hinv hm hk hz hy
            refine ⟨by omega, by unfold I64; omega, ((i + 1, { y with m := c.m, qv := c.qv }), updH hit i true), ?_⟩
            repeat' apply And.intro
            all_goals first | exact hI | rfl | (simp only [insS, setS, pushS, pushN]; omega) | omega | exact hg.symm | exact hits_row _ _ _ | exact hits_row0 _ _ | exact push_row _ _ | exact push_row0 _ _ | exact fun _ _ => rfl | assumption
        · rw [hk]
          refine cP_intro (fun h => absurd h (by decide)) (fun _ => cP_intro (fun h => absurd h (by decide)) (fun _ => cP_intro (fun h => absurd h (by decide)) (fun _ => cP_intro (fun _ => ?_) (fun h => absurd h (by decide)))))
          have hI := step_pushN hinv hk (x.c.g i).value
          refine ⟨by omega, by omega, by unfold I64; omega, ((i + 1, pushN c (x.c.g i).value), updH hit i false), ?_⟩
          repeat' apply And.intro
          all_goals first | exact hI | rfl | (simp only [insS, setS, pushS, pushN]; omega) | omega | exact hg.symm | exact hits_row _ _ _ | exact hits_row0 _ _ | exact push_row _ _ | exact push_row0 _ _ | exact fun _ _ => rfl | assumption
      · have he : i = x.c.gn := by have := of_decide_eq_false hlt; omega
        subst he
        refine ⟨hit, inv_hits hinv, ?_⟩
        repeat' apply And.intro
        all_goals first | rfl | omega | exact fun _ _ => rfl | exact hg.symm
    · rintro ⟨⟨i, c⟩, hit⟩ ⟨h1, h2, hinv⟩
      dsimp only at *
      refine cP_intro (fun hlt => ?_) (fun hlt => ?_)
      · have hlt := of_decide_eq_true hlt
        refine ⟨⟨by omega, by omega⟩, by omega, ?_⟩
        have hm := g3 i (by omega)
        have hz : (x.c.g i).key.size ≤ 1500 := (hc.2.2.2.2 i (by omega)).1
        rcases mem_kind hm with hk | hk | hk
        · rw [hk]
          refine cP_intro (fun h => absurd h (by decide)) (fun _ => cP_intro (fun _ => ?_) (fun h => absurd h (by decide)))
          refine ⟨⟨c, (x.c.g i).key, (x.c.g i).value⟩, inv_sv hinv ho (by omega) hz false (fun h => by cases h) _, ⟨rfl, rfl⟩, ⟨⟨rfl, rfl⟩, ⟨rfl, fun _ _ => rfl⟩, rfl, fun _ _ => rfl⟩, fun hh => ?_, fun p hp => ?_⟩
          · have hI := step_found hinv hk
            refine ⟨by omega, by unfold I64; omega, ((i + 1, setS c (x.c.g i).key (x.c.g i).value), updH hit i true), ?_⟩
            repeat' apply And.intro
            all_goals first | exact hI | rfl | (simp only [insS, setS, pushS, pushN]; omega) | omega | exact hg.symm | exact hits_row _ _ _ | exact hits_row0 _ _ | exact push_row _ _ | exact push_row0 _ _ | exact fun _ _ => rfl | assumption
          · have hI := step_ins hinv hk hz hp.2
            refine ⟨by omega, by unfold I64; omega, ((i + 1, insS c p (x.c.g i).key (x.c.g i).value), updH hit i false), ?_⟩
            repeat' apply And.intro
            all_goals first | exact hI | rfl | (simp only [insS, setS, pushS, pushN]; omega) | omega | exact hg.symm | exact hits_row _ _ _ | exact hits_row0 _ _ | exact push_row _ _ | exact push_row0 _ _ | exact fun _ _ => rfl | assumption
        · rw [hk]
          refine cP_intro (fun h => absurd h (by decide)) (fun _ => cP_intro (fun h => absurd h (by decide)) (fun _ => cP_intro (fun _ => ?_) (fun h => absurd h (by decide))))
          refine ⟨⟨c, (x.c.g i).key⟩, inv_sv hinv ho (by omega) hz false (fun h => by cases h) _, rfl, ⟨⟨rfl, rfl⟩, ⟨rfl, fun _ _ => rfl⟩, rfl, fun _ _ => rfl⟩, fun hh => ?_, fun y hy => ?_⟩
          · have hI := step_miss hinv hm hk hh
            refine ⟨by omega, by unfold I64; omega, ((i + 1, c), updH hit i false), ?_⟩
            repeat' apply And.intro
            all_goals first | exact hI | rfl | (simp only [insS, setS, pushS, pushN]; omega) | omega | exact hg.symm | exact hits_row _ _ _ | exact hits_row0 _ _ | exact push_row _ _ | exact push_row0 _ _ | exact fun _ _ => rfl | assumption
          · have hI := step_drop hinv hm hk hz hy
            refine ⟨by omega, by unfold I64; omega, ((i + 1, { y with m := c.m, qv := c.qv }), updH hit i true), ?_⟩
            repeat' apply And.intro
            all_goals first | exact hI | rfl | (simp only [insS, setS, pushS, pushN]; omega) | omega | exact hg.symm | exact hits_row _ _ _ | exact hits_row0 _ _ | exact push_row _ _ | exact push_row0 _ _ | exact fun _ _ => rfl | assumption
        · rw [hk]
          refine cP_intro (fun h => absurd h (by decide)) (fun _ => cP_intro (fun h => absurd h (by decide)) (fun _ => cP_intro (fun h => absurd h (by decide)) (fun _ => cP_intro (fun _ => ?_) (fun h => absurd h (by decide)))))
          have hI := step_push hinv hk (x.c.g i).value
          refine ⟨rfl, hq40 _ _ (inv_m hinv) (by omega), by omega, by unfold I64; omega, ((i + 1, pushS c (x.c.g i).value), updH hit i false), ?_⟩
          repeat' apply And.intro
          all_goals first | exact hI | rfl | (simp only [insS, setS, pushS, pushN]; omega) | omega | exact hg.symm | exact hits_row _ _ _ | exact hits_row0 _ _ | exact push_row _ _ | exact push_row0 _ _ | exact fun _ _ => rfl | assumption
      · have he : i = x.c.gn := by have := of_decide_eq_false hlt; omega
        subst he
        refine ⟨hit, inv_hits hinv, ?_⟩
        repeat' apply And.intro
        all_goals first | rfl | omega | exact fun _ _ => rfl | exact hg.symm
    · rintro ⟨⟨i, c⟩, hit⟩ ⟨h1, h2, hinv⟩
      dsimp only at *
      refine cP_intro (fun hlt => ?_) (fun hlt => ?_)
      · have hlt := of_decide_eq_true hlt
        refine ⟨⟨by omega, by omega⟩, by omega, ?_⟩
        have hm := g3 i (by omega)
        have hz : (x.c.g i).key.size ≤ 1500 := (hc.2.2.2.2 i (by omega)).1
        rcases mem_kind hm with hk | hk | hk
        · rw [hk]
          refine cP_intro (fun h => absurd h (by decide)) (fun _ => cP_intro (fun _ => ?_) (fun h => absurd h (by decide)))
          refine ⟨⟨c, (x.c.g i).key, (x.c.g i).value⟩, inv_sv hinv ho (by omega) hz false (fun h => by cases h) _, ⟨rfl, rfl⟩, ⟨rfl, rfl, fun _ _ => rfl⟩, fun hh => ?_, fun p hp => ?_⟩
          · have hI := step_found hinv hk
            refine ⟨by omega, by unfold I64; omega, ((i + 1, setS c (x.c.g i).key (x.c.g i).value), updH hit i true), ?_⟩
            repeat' apply And.intro
            all_goals first | exact hI | rfl | (simp only [insS, setS, pushS, pushN]; omega) | omega | exact hg.symm | exact hits_row _ _ _ | exact hits_row0 _ _ | exact push_row _ _ | exact push_row0 _ _ | exact fun _ _ => rfl | assumption
          · have hI := step_ins hinv hk hz hp.2
            refine ⟨by omega, by unfold I64; omega, ((i + 1, insS c p (x.c.g i).key (x.c.g i).value), updH hit i false), ?_⟩
            repeat' apply And.intro
            all_goals first | exact hI | rfl | (simp only [insS, setS, pushS, pushN]; omega) | omega | exact hg.symm | exact hits_row _ _ _ | exact hits_row0 _ _ | exact push_row _ _ | exact push_row0 _ _ | exact fun _ _ => rfl | assumption
        · rw [hk]
          refine cP_intro (fun h => absurd h (by decide)) (fun _ => cP_intro (fun h => absurd h (by decide)) (fun _ => cP_intro (fun _ => ?_) (fun h => absurd h (by decide))))
          refine ⟨⟨c, (x.c.g i).key⟩, inv_sv hinv ho (by omega) hz false (fun h => by cases h) _, rfl, ⟨rfl, rfl, fun _ _ => rfl⟩, fun hh => ?_, fun y hy => ?_⟩
          · have hI := step_miss hinv hm hk hh
            refine ⟨by omega, by unfold I64; omega, ((i + 1, c), updH hit i false), ?_⟩
            repeat' apply And.intro
            all_goals first | exact hI | rfl | (simp only [insS, setS, pushS, pushN]; omega) | omega | exact hg.symm | exact hits_row _ _ _ | exact hits_row0 _ _ | exact push_row _ _ | exact push_row0 _ _ | exact fun _ _ => rfl | assumption
          · have hI := step_drop hinv hm hk hz hy
            refine ⟨by omega, by unfold I64; omega, ((i + 1, { y with m := c.m, qv := c.qv }), updH hit i true), ?_⟩
            repeat' apply And.intro
            all_goals first | exact hI | rfl | (simp only [insS, setS, pushS, pushN]; omega) | omega | exact hg.symm | exact hits_row _ _ _ | exact hits_row0 _ _ | exact push_row _ _ | exact push_row0 _ _ | exact fun _ _ => rfl | assumption
        · rw [hk]
          refine cP_intro (fun h => absurd h (by decide)) (fun _ => cP_intro (fun h => absurd h (by decide)) (fun _ => cP_intro (fun h => absurd h (by decide)) (fun _ => cP_intro (fun _ => ?_) (fun h => absurd h (by decide)))))
          have hI := step_pushN hinv hk (x.c.g i).value
          refine ⟨by omega, by omega, by unfold I64; omega, ((i + 1, pushN c (x.c.g i).value), updH hit i false), ?_⟩
          repeat' apply And.intro
          all_goals first | exact hI | rfl | (simp only [insS, setS, pushS, pushN]; omega) | omega | exact hg.symm | exact hits_row _ _ _ | exact hits_row0 _ _ | exact push_row _ _ | exact push_row0 _ _ | exact fun _ _ => rfl | assumption
      · have he : i = x.c.gn := by have := of_decide_eq_false hlt; omega
        subst he
        refine ⟨hit, inv_hits hinv, ?_⟩
        repeat' apply And.intro
        all_goals first | rfl | omega | exact fun _ _ => rfl | exact hg.symm
    · rintro ⟨⟨i, c⟩, hit⟩ ⟨h1, h2, hinv⟩
      dsimp only at *
      refine cP_intro (fun hlt => ?_) (fun hlt => ?_)
      · have hlt := of_decide_eq_true hlt
        refine ⟨⟨by omega, by omega⟩, by omega, ?_⟩
        have hm := g3 i (by omega)
        have hz : (x.c.g i).key.size ≤ 1500 := (hc.2.2.2.2 i (by omega)).1
        rcases mem_kind hm with hk | hk | hk
        · rw [hk]
          refine cP_intro (fun h => absurd h (by decide)) (fun _ => cP_intro (fun _ => ?_) (fun h => absurd h (by decide)))
          refine ⟨⟨c, (x.c.g i).key, (x.c.g i).value⟩, inv_sv hinv ho (by omega) hz false (fun h => by cases h) _, ⟨rfl, rfl⟩, ⟨⟨rfl, rfl⟩, ⟨rfl, fun _ _ => rfl⟩, rfl, fun _ _ => rfl⟩, fun hh => ?_, fun p hp => ?_⟩
          · have hI := step_found hinv hk
            refine ⟨by omega, by unfold I64; omega, ((i + 1, setS c (x.c.g i).key (x.c.g i).value), updH hit i true), ?_⟩
            repeat' apply And.intro
            all_goals first | exact hI | rfl | (simp only [insS, setS, pushS, pushN]; omega) | omega | exact hg.symm | exact hits_row _ _ _ | exact hits_row0 _ _ | exact push_row _ _ | exact push_row0 _ _ | exact fun _ _ => rfl | assumption
          · have hI := step_ins hinv hk hz hp.2
            refine ⟨by omega, by unfold I64; omega, ((i + 1, insS c p (x.c.g i).key (x.c.g i).value), updH hit i false), ?_⟩
            repeat' apply And.intro
            all_goals first | exact hI | rfl | (simp only [insS, setS, pushS, pushN]; omega) | omega | exact hg.symm | exact hits_row _ _ _ | exact hits_row0 _ _ | exact push_row _ _ | exact push_row0 _ _ | exact fun _ _ => rfl | assumption
        · rw [hk]
          refine cP_intro (fun h => absurd h (by decide)) (fun _ => cP_intro (fun h => absurd h (by decide)) (fun _ => cP_intro (fun _ => ?_) (fun h => absurd h (by decide))))
          refine ⟨⟨c, (x.c.g i).key⟩, inv_sv hinv ho (by omega) hz false (fun h => by cases h) _, rfl, ⟨⟨rfl, rfl⟩, ⟨rfl, fun _ _ => rfl⟩, rfl, fun _ _ => rfl⟩, fun hh => ?_, fun y hy => ?_⟩
          · have hI := step_miss hinv hm hk hh
            refine ⟨by omega, by unfold I64; omega, ((i + 1, c), updH hit i false), ?_⟩
            repeat' apply And.intro
            all_goals first | exact hI | rfl | (simp only [insS, setS, pushS, pushN]; omega) | omega | exact hg.symm | exact hits_row _ _ _ | exact hits_row0 _ _ | exact push_row _ _ | exact push_row0 _ _ | exact fun _ _ => rfl | assumption
          · have hI := step_drop hinv hm hk hz hy
            refine ⟨by omega, by unfold I64; omega, ((i + 1, { y with m := c.m, qv := c.qv }), updH hit i true), ?_⟩
            repeat' apply And.intro
            all_goals first | exact hI | rfl | (simp only [insS, setS, pushS, pushN]; omega) | omega | exact hg.symm | exact hits_row _ _ _ | exact hits_row0 _ _ | exact push_row _ _ | exact push_row0 _ _ | exact fun _ _ => rfl | assumption
        · rw [hk]
          refine cP_intro (fun h => absurd h (by decide)) (fun _ => cP_intro (fun h => absurd h (by decide)) (fun _ => cP_intro (fun h => absurd h (by decide)) (fun _ => cP_intro (fun _ => ?_) (fun h => absurd h (by decide)))))
          have hI := step_push hinv hk (x.c.g i).value
          refine ⟨rfl, hq40 _ _ (inv_m hinv) (by omega), by omega, by unfold I64; omega, ((i + 1, pushS c (x.c.g i).value), updH hit i false), ?_⟩
          repeat' apply And.intro
          all_goals first | exact hI | rfl | (simp only [insS, setS, pushS, pushN]; omega) | omega | exact hg.symm | exact hits_row _ _ _ | exact hits_row0 _ _ | exact push_row _ _ | exact push_row0 _ _ | exact fun _ _ => rfl | assumption
      · have he : i = x.c.gn := by have := of_decide_eq_false hlt; omega
        subst he
        refine ⟨hit, inv_hits hinv, ?_⟩
        repeat' apply And.intro
        all_goals first | rfl | omega | exact fun _ _ => rfl | exact hg.symm
  · refine ⟨cP_intro (fun hlt => ?_) (fun hlt => absurd (of_decide_eq_false hlt) (by omega)), ?_, ?_, ?_, ?_⟩
    · refine ⟨⟨by omega, by omega⟩, by omega, ?_⟩
      have hm := g3 0 (by omega)
      have hz : (x.c.g 0).key.size ≤ 1500 := (hc.2.2.2.2 0 (by omega)).1
      rcases mem_kind hm with hk | hk | hk
      · rw [hk]
        refine cP_intro (fun h => absurd h (by decide)) (fun _ => cP_intro (fun _ => ?_) (fun h => absurd h (by decide)))
        refine ⟨⟨x.s, (x.c.g 0).key, (x.c.g 0).value⟩, inv_sv (inv_zero x ho) ho (by omega) hz false (fun h => by cases h) _, ⟨rfl, rfl⟩, ⟨⟨rfl, rfl⟩, ⟨rfl, fun _ _ => rfl⟩, rfl, fun _ _ => rfl⟩, fun hh => ?_, fun p hp => ?_⟩
        · have hI := step_found (inv_zero x ho) hk
          refine ⟨by omega, by unfold I64; omega, ((1, setS x.s (x.c.g 0).key (x.c.g 0).value), updH (fun _ => false) 0 true), ?_⟩
          repeat' apply And.intro
          all_goals first | exact hI | rfl | (simp only [insS, setS, pushS, pushN]; omega) | omega | exact hg.symm | exact hits_row _ _ _ | exact hits_row0 _ _ | exact push_row _ _ | exact push_row0 _ _ | exact fun _ _ => rfl | assumption
        · have hI := step_ins (inv_zero x ho) hk hz hp.2
          refine ⟨by omega, by unfold I64; omega, ((1, insS x.s p (x.c.g 0).key (x.c.g 0).value), updH (fun _ => false) 0 false), ?_⟩
          repeat' apply And.intro
          all_goals first | exact hI | rfl | (simp only [insS, setS, pushS, pushN]; omega) | omega | exact hg.symm | exact hits_row _ _ _ | exact hits_row0 _ _ | exact push_row _ _ | exact push_row0 _ _ | exact fun _ _ => rfl | assumption
      · rw [hk]
        refine cP_intro (fun h => absurd h (by decide)) (fun _ => cP_intro (fun h => absurd h (by decide)) (fun _ => cP_intro (fun _ => ?_) (fun h => absurd h (by decide))))
        refine ⟨⟨x.s, (x.c.g 0).key⟩, inv_sv (inv_zero x ho) ho (by omega) hz false (fun h => by cases h) _, rfl, ⟨⟨rfl, rfl⟩, ⟨rfl, fun _ _ => rfl⟩, rfl, fun _ _ => rfl⟩, fun hh => ?_, fun y hy => ?_⟩
        · have hI := step_miss (inv_zero x ho) hm hk hh
          refine ⟨by omega, by unfold I64; omega, ((1, x.s), updH (fun _ => false) 0 false), ?_⟩
          repeat' apply And.intro
          all_goals first | exact hI | rfl | (simp only [insS, setS, pushS, pushN]; omega) | omega | exact hg.symm | exact hits_row _ _ _ | exact hits_row0 _ _ | exact push_row _ _ | exact push_row0 _ _ | exact fun _ _ => rfl | assumption
        · have hI := step_drop (inv_zero x ho) hm hk hz hy
          refine ⟨by omega, by unfold I64; omega, ((1, { y with m := x.s.m, qv := x.s.qv }), updH (fun _ => false) 0 true), ?_⟩
          repeat' apply And.intro
          all_goals first | exact hI | rfl | (simp only [insS, setS, pushS, pushN]; omega) | omega | exact hg.symm | exact hits_row _ _ _ | exact hits_row0 _ _ | exact push_row _ _ | exact push_row0 _ _ | exact fun _ _ => rfl | assumption
      · rw [hk]
        refine cP_intro (fun h => absurd h (by decide)) (fun _ => cP_intro (fun h => absurd h (by decide)) (fun _ => cP_intro (fun h => absurd h (by decide)) (fun _ => cP_intro (fun _ => ?_) (fun h => absurd h (by decide)))))
        have hI := step_push (inv_zero x ho) hk (x.c.g 0).value
        refine ⟨rfl, hq40 _ _ (inv_m (inv_zero x ho)) (by omega), by omega, by unfold I64; omega, ((1, pushS x.s (x.c.g 0).value), updH (fun _ => false) 0 false), ?_⟩
        repeat' apply And.intro
        all_goals first | exact hI | rfl | (simp only [insS, setS, pushS, pushN]; omega) | omega | exact hg.symm | exact hits_row _ _ _ | exact hits_row0 _ _ | exact push_row _ _ | exact push_row0 _ _ | exact fun _ _ => rfl | assumption
    · rintro ⟨⟨i, c⟩, hit⟩ ⟨h1, h2, hinv⟩
      dsimp only at *
      refine cP_intro (fun hlt => ?_) (fun hlt => ?_)
      · have hlt := of_decide_eq_true hlt
        refine ⟨⟨by omega, by omega⟩, by omega, ?_⟩
        have hm := g3 i (by omega)
        have hz : (x.c.g i).key.size ≤ 1500 := (hc.2.2.2.2 i (by omega)).1
        rcases mem_kind hm with hk | hk | hk
        · rw [hk]
          refine cP_intro (fun h => absurd h (by decide)) (fun _ => cP_intro (fun _ => ?_) (fun h => absurd h (by decide)))
          refine ⟨⟨c, (x.c.g i).key, (x.c.g i).value⟩, inv_sv hinv ho (by omega) hz false (fun h => by cases h) _, ⟨rfl, rfl⟩, ⟨⟨rfl, rfl⟩, ⟨rfl, fun _ _ => rfl⟩, rfl, fun _ _ => rfl⟩, fun hh => ?_, fun p hp => ?_⟩
          · have hI := step_found hinv hk
            refine ⟨by omega, by unfold I64; omega, ((i + 1, setS c (x.c.g i).key (x.c.g i).value), updH hit i true), ?_⟩
            repeat' apply And.intro
            all_goals first | exact hI | rfl | (simp only [insS, setS, pushS, pushN]; omega) | omega | exact hg.symm | exact hits_row _ _ _ | exact hits_row0 _ _ | exact push_row _ _ | exact push_row0 _ _ | exact fun _ _ => rfl | assumption
          · have hI := step_ins hinv hk hz hp.2
            refine ⟨by omega, by unfold I64; omega, ((i + 1, insS c p (x.c.g i).key (x.c.g i).value), updH hit i false), ?_⟩
            repeat' apply And.intro
            all_goals first | exact hI | rfl | (simp only [insS, setS, pushS, pushN]; omega) | omega | exact hg.symm | exact hits_row _ _ _ | exact hits_row0 _ _ | exact push_row _ _ | exact push_row0 _ _ | exact fun _ _ => rfl | assumption
        · rw [hk]
          refine cP_intro (fun h => absurd h (by decide)) (fun _ => cP_intro (fun h => absurd h (by decide)) (fun _ => cP_intro (fun _ => ?_) (fun h => absurd h (by decide))))
          refine ⟨⟨c, (x.c.g i).key⟩, inv_sv hinv ho (by omega) hz false (fun h => by cases h) _, rfl, ⟨⟨rfl, rfl⟩, ⟨rfl, fun _ _ => rfl⟩, rfl, fun _ _ => rfl⟩, fun hh => ?_, fun y hy => ?_⟩
          · have hI := step_miss hinv hm hk hh
            refine ⟨by omega, by unfold I64; omega, ((i + 1, c), updH hit i false), ?_⟩
            repeat' apply And.intro
            all_goals first | exact hI | rfl | (simp only [insS, setS, pushS, pushN]; omega) | omega | exact hg.symm | exact hits_row _ _ _ | exact hits_row0 _ _ | exact push_row _ _ | exact push_row0 _ _ | exact fun _ _ => rfl | assumption
          · have hI := step_drop hinv hm hk hz hy
            refine ⟨by omega, by unfold I64; omega, ((i + 1, { y with m := c.m, qv := c.qv }), updH hit i true), ?_⟩
            repeat' apply And.intro
            all_goals first | exact hI | rfl | (simp only [insS, setS, pushS, pushN]; omega) | omega | exact hg.symm | exact hits_row _ _ _ | exact hits_row0 _ _ | exact push_row _ _ | exact push_row0 _ _ | exact fun _ _ => rfl | assumption
        · rw [hk]
          refine cP_intro (fun h => absurd h (by decide)) (fun _ => cP_intro (fun h => absurd h (by decide)) (fun _ => cP_intro (fun h => absurd h (by decide)) (fun _ => cP_intro (fun _ => ?_) (fun h => absurd h (by decide)))))
          have hI := step_push hinv hk (x.c.g i).value
          refine ⟨rfl, hq40 _ _ (inv_m hinv) (by omega), by omega, by unfold I64; omega, ((i + 1, pushS c (x.c.g i).value), updH hit i false), ?_⟩
          repeat' apply And.intro
          all_goals first | exact hI | rfl | (simp only [insS, setS, pushS, pushN]; omega) | omega | exact hg.symm | exact hits_row _ _ _ | exact hits_row0 _ _ | exact push_row _ _ | exact push_row0 _ _ | exact fun _ _ => rfl | assumption
      · have he : i = x.c.gn := by have := of_decide_eq_false hlt; omega
        subst he
        refine ⟨hit, inv_hits hinv, ?_⟩
        repeat' apply And.intro
        all_goals first | rfl | omega | exact fun _ _ => rfl | exact hg.symm
    · rintro ⟨⟨i, c⟩, hit⟩ ⟨h1, h2, hinv⟩
      dsimp only at *
      refine cP_intro (fun hlt => ?_) (fun hlt => ?_)
      · have hlt := of_decide_eq_true hlt
        refine ⟨⟨by omega, by omega⟩, by omega, ?_⟩
        have hm := g3 i (by omega)
        have hz : (x.c.g i).key.size ≤ 1500 := (hc.2.2.2.2 i (by omega)).1
        rcases mem_kind hm with hk | hk | hk
        · rw [hk]
          refine cP_intro (fun h => absurd h (by decide)) (fun _ => cP_intro (fun _ => ?_) (fun h => absurd h (by decide)))
          refine ⟨⟨c, (x.c.g i).key, (x.c.g i).value⟩, inv_sv hinv ho (by omega) hz false (fun h => by cases h) _, ⟨rfl, rfl⟩, ⟨⟨rfl, rfl⟩, ⟨rfl, fun _ _ => rfl⟩, rfl, fun _ _ => rfl⟩, fun hh => ?_, fun p hp => ?_⟩
          · have hI := step_found hinv hk
            refine ⟨by omega, by unfold I64; omega, ((i + 1, setS c (x.c.g i).key (x.c.g i).value), updH hit i true), ?_⟩
            repeat' apply And.intro
            all_goals first | exact hI | rfl | (simp only [insS, setS, pushS, pushN]; omega) | omega | exact hg.symm | exact hits_row _ _ _ | exact hits_row0 _ _ | exact push_row _ _ | exact push_row0 _ _ | exact fun _ _ => rfl | assumption
          · have hI := step_ins hinv hk hz hp.2
            refine ⟨by omega, by unfold I64; omega, ((i + 1, insS c p (x.c.g i).key (x.c.g i).value), updH hit i false), ?_⟩
            repeat' apply And.intro
            all_goals first | exact hI | rfl | (simp only [insS, setS, pushS, pushN]; omega) | omega | exact hg.symm | exact hits_row _ _ _ | exact hits_row0 _ _ | exact push_row _ _ | exact push_row0 _ _ | exact fun _ _ => rfl | assumption
        · rw [hk]
          refine cP_intro (fun h => absurd h (by decide)) (fun _ => cP_intro (fun h => absurd h (by decide)) (fun _ => cP_intro (fun _ => ?_) (fun h => absurd h (by decide))))
          refine ⟨⟨c, (x.c.g i).key⟩, inv_sv hinv ho (by omega) hz false (fun h => by cases h) _, rfl, ⟨⟨rfl, rfl⟩, ⟨rfl, fun _ _ => rfl⟩, rfl, fun _ _ => rfl⟩, fun hh => ?_, fun y hy => ?_⟩
          · have hI := step_miss hinv hm hk hh
            refine ⟨by omega, by unfold I64; omega, ((i + 1, c), updH hit i false), ?_⟩
            repeat' apply And.intro
            all_goals first | exact hI | rfl | (simp only [insS, setS, pushS, pushN]; omega) | omega | exact hg.symm | exact hits_row _ _ _ | exact hits_row0 _ _ | exact push_row _ _ | exact push_row0 _ _ | exact fun _ _ => rfl | assumption
          · have hI := step_drop hinv hm hk hz hy
            refine ⟨by omega, by unfold I64; omega, ((i + 1, { y with m := c.m, qv := c.qv }), updH hit i true), ?_⟩
            repeat' apply And.intro
            all_goals first | exact hI | rfl | (simp only [insS, setS, pushS, pushN]; omega) | omega | exact hg.symm | exact hits_row _ _ _ | exact hits_row0 _ _ | exact push_row _ _ | exact push_row0 _ _ | exact fun _ _ => rfl | assumption
        · rw [hk]
          refine cP_intro (fun h => absurd h (by decide)) (fun _ => cP_intro (fun h => absurd h (by decide)) (fun _ => cP_intro (fun h => absurd h (by decide)) (fun _ => cP_intro (fun _ => ?_) (fun h => absurd h (by decide)))))
          have hI := step_push hinv hk (x.c.g i).value
          refine ⟨rfl, hq40 _ _ (inv_m hinv) (by omega), by omega, by unfold I64; omega, ((i + 1, pushS c (x.c.g i).value), updH hit i false), ?_⟩
          repeat' apply And.intro
          all_goals first | exact hI | rfl | (simp only [insS, setS, pushS, pushN]; omega) | omega | exact hg.symm | exact hits_row _ _ _ | exact hits_row0 _ _ | exact push_row _ _ | exact push_row0 _ _ | exact fun _ _ => rfl | assumption
      · have he : i = x.c.gn := by have := of_decide_eq_false hlt; omega
        subst he
        refine ⟨hit, inv_hits hinv, ?_⟩
        repeat' apply And.intro
        all_goals first | rfl | omega | exact fun _ _ => rfl | exact hg.symm
    · rintro ⟨⟨i, c⟩, hit⟩ ⟨h1, h2, hinv⟩
      dsimp only at *
      refine cP_intro (fun hlt => ?_) (fun hlt => ?_)
      · have hlt := of_decide_eq_true hlt
        refine ⟨⟨by omega, by omega⟩, by omega, ?_⟩
        have hm := g3 i (by omega)
        have hz : (x.c.g i).key.size ≤ 1500 := (hc.2.2.2.2 i (by omega)).1
        rcases mem_kind hm with hk | hk | hk
        · rw [hk]
          refine cP_intro (fun h => absurd h (by decide)) (fun _ => cP_intro (fun _ => ?_) (fun h => absurd h (by decide)))
          refine ⟨⟨c, (x.c.g i).key, (x.c.g i).value⟩, inv_sv hinv ho (by omega) hz false (fun h => by cases h) _, ⟨rfl, rfl⟩, ⟨⟨rfl, rfl⟩, ⟨rfl, fun _ _ => rfl⟩, rfl, fun _ _ => rfl⟩, fun hh => ?_, fun p hp => ?_⟩
          · have hI := step_found hinv hk
            refine ⟨by omega, by unfold I64; omega, ((i + 1, setS c (x.c.g i).key (x.c.g i).value), updH hit i true), ?_⟩
            repeat' apply And.intro
            all_goals first | exact hI | rfl | (simp only [insS, setS, pushS, pushN]; omega) | omega | exact hg.symm | exact hits_row _ _ _ | exact hits_row0 _ _ | exact push_row _ _ | exact push_row0 _ _ | exact fun _ _ => rfl | assumption
          · have hI := step_ins hinv hk hz hp.2
            refine ⟨by omega, by unfold I64; omega, ((i + 1, insS c p (x.c.g i).key (x.c.g i).value), updH hit i false), ?_⟩
            repeat' apply And.intro
            all_goals first | exact hI | rfl | (simp only [insS, setS, pushS, pushN]; omega) | omega | exact hg.symm | exact hits_row _ _ _ | exact hits_row0 _ _ | exact push_row _ _ | exact push_row0 _ _ | exact fun _ _ => rfl | assumption
        · rw [hk]
          refine cP_intro (fun h => absurd h (by decide)) (fun _ => cP_intro (fun h => absurd h (by decide)) (fun _ => cP_intro (fun _ => ?_) (fun h => absurd h (by decide))))
          refine ⟨⟨c, (x.c.g i).key⟩, inv_sv hinv ho (by omega) hz false (fun h => by cases h) _, rfl, ⟨⟨rfl, rfl⟩, ⟨rfl, fun _ _ => rfl⟩, rfl, fun _ _ => rfl⟩, fun hh => ?_, fun y hy => ?_⟩
          · have hI := step_miss hinv hm hk hh
            refine ⟨by omega, by unfold I64; omega, ((i + 1, c), updH hit i false), ?_⟩
            repeat' apply And.intro
            all_goals first | exact hI | rfl | (simp only [insS, setS, pushS, pushN]; omega) | omega | exact hg.symm | exact hits_row _ _ _ | exact hits_row0 _ _ | exact push_row _ _ | exact push_row0 _ _ | exact fun _ _ => rfl | assumption
          · have hI := step_drop hinv hm hk hz hy
            refine ⟨by omega, by unfold I64; omega, ((i + 1, { y with m := c.m, qv := c.qv }), updH hit i true), ?_⟩
            repeat' apply And.intro
            all_goals first | exact hI | rfl | (simp only [insS, setS, pushS, pushN]; omega) | omega | exact hg.symm | exact hits_row _ _ _ | exact hits_row0 _ _ | exact push_row _ _ | exact push_row0 _ _ | exact fun _ _ => rfl | assumption
        · rw [hk]
          refine cP_intro (fun h => absurd h (by decide)) (fun _ => cP_intro (fun h => absurd h (by decide)) (fun _ => cP_intro (fun h => absurd h (by decide)) (fun _ => cP_intro (fun _ => ?_) (fun h => absurd h (by decide)))))
          have hI := step_push hinv hk (x.c.g i).value
          refine ⟨rfl, hq40 _ _ (inv_m hinv) (by omega), by omega, by unfold I64; omega, ((i + 1, pushS c (x.c.g i).value), updH hit i false), ?_⟩
          repeat' apply And.intro
          all_goals first | exact hI | rfl | (simp only [insS, setS, pushS, pushN]; omega) | omega | exact hg.symm | exact hits_row _ _ _ | exact hits_row0 _ _ | exact push_row _ _ | exact push_row0 _ _ | exact fun _ _ => rfl | assumption
      · have he : i = x.c.gn := by have := of_decide_eq_false hlt; omega
        subst he
        refine ⟨hit, inv_hits hinv, ?_⟩
        repeat' apply And.intro
        all_goals first | rfl | omega | exact fun _ _ => rfl | exact hg.symm
    · rintro ⟨⟨i, c⟩, hit⟩ ⟨h1, h2, hinv⟩
      dsimp only at *
      refine cP_intro (fun hlt => ?_) (fun hlt => ?_)
      · have hlt := of_decide_eq_true hlt
        refine ⟨⟨by omega, by omega⟩, by omega, ?_⟩
        have hm := g3 i (by omega)
        have hz : (x.c.g i).key.size ≤ 1500 := (hc.2.2.2.2 i (by omega)).1
        rcases mem_kind hm with hk | hk | hk
        · rw [hk]
          refine cP_intro (fun h => absurd h (by decide)) (fun _ => cP_intro (fun _ => ?_) (fun h => absurd h (by decide)))
          refine ⟨⟨c, (x.c.g i).key, (x.c.g i).value⟩, inv_sv hinv ho (by omega) hz false (fun h => by cases h) _, ⟨rfl, rfl⟩, ⟨⟨rfl, rfl⟩, ⟨rfl, fun _ _ => rfl⟩, rfl, fun _ _ => rfl⟩, fun hh => ?_, fun p hp => ?_⟩
          · have hI := step_found hinv hk
            refine ⟨by omega, by unfold I64; omega, ((i + 1, setS c (x.c.g i).key (x.c.g i).value), updH hit i true), ?_⟩
            repeat' apply And.intro
            all_goals first | exact hI | rfl | (simp only [insS, setS, pushS, pushN]; omega) | omega | exact hg.symm | exact hits_row _ _ _ | exact hits_row0 _ _ | exact push_row _ _ | exact push_row0 _ _ | exact fun _ _ => rfl | assumption
          · have hI := step_ins hinv hk hz hp.2
            refine ⟨by omega, by unfold I64; omega, ((i + 1, insS c p (x.c.g i).key (x.c.g i).value), updH hit i false), ?_⟩
            repeat' apply And.intro
            all_goals first | exact hI | rfl | (simp only [insS, setS, pushS, pushN]; omega) | omega | exact hg.symm | exact hits_row _ _ _ | exact hits_row0 _ _ | exact push_row _ _ | exact push_row0 _ _ | exact fun _ _ => rfl | assumption
        · rw [hk]
          refine cP_intro (fun h => absurd h (by decide)) (fun _ => cP_intro (fun h => absurd h (by decide)) (fun _ => cP_intro (fun _ => ?_) (fun h => absurd h (by decide))))
          refine ⟨⟨c, (x.c.g i).key⟩, inv_sv hinv ho (by omega) hz false (fun h => by cases h) _, rfl, ⟨⟨rfl, rfl⟩, ⟨rfl, fun _ _ => rfl⟩, rfl, fun _ _ => rfl⟩, fun hh => ?_, fun y hy => ?_⟩
          · have hI := step_miss hinv hm hk hh
            refine ⟨by omega, by unfold I64; omega, ((i + 1, c), updH hit i false), ?_⟩
            repeat' apply And.intro
            all_goals first | exact hI | rfl | (simp only [insS, setS, pushS, pushN]; omega) | omega | exact hg.symm | exact hits_row _ _ _ | exact hits_row0 _ _ | exact push_row _ _ | exact push_row0 _ _ | exact fun _ _ => rfl | assumption
          · have hI := step_drop hinv hm hk hz hy
            refine ⟨by omega, by unfold I64; omega, ((i + 1, { y with m := c.m, qv := c.qv }), updH hit i true), ?_⟩
            repeat' apply And.intro
            all_goals first | exact hI | rfl | (simp only [insS, setS, pushS, pushN]; omega) | omega | exact hg.symm | exact hits_row _ _ _ | exact hits_row0 _ _ | exact push_row _ _ | exact push_row0 _ _ | exact fun _ _ => rfl | assumption
        · rw [hk]
          refine cP_intro (fun h => absurd h (by decide)) (fun _ => cP_intro (fun h => absurd h (by decide)) (fun _ => cP_intro (fun h => absurd h (by decide)) (fun _ => cP_intro (fun _ => ?_) (fun h => absurd h (by decide)))))
          have hI := step_push hinv hk (x.c.g i).value
          refine ⟨rfl, hq40 _ _ (inv_m hinv) (by omega), by omega, by unfold I64; omega, ((i + 1, pushS c (x.c.g i).value), updH hit i false), ?_⟩
          repeat' apply And.intro
          all_goals first | exact hI | rfl | (simp only [insS, setS, pushS, pushN]; omega) | omega | exact hg.symm | exact hits_row _ _ _ | exact hits_row0 _ _ | exact push_row _ _ | exact push_row0 _ _ | exact fun _ _ => rfl | assumption
      · have he : i = x.c.gn := by have := of_decide_eq_false hlt; omega
        subst he
        refine ⟨hit, inv_hits hinv, ?_⟩
        repeat' apply And.intro
        all_goals first | rfl | omega | exact fun _ _ => rfl | exact hg.symm
theorem tblG_ok : TblOk Try.prog tblG := .cons (ctrT_ok good_ok) (.cons (ctrT_ok copied_ok) (.cons setT_ok (.cons dropT_ok (.cons stopT_ok (.cons stopT_ok (.cons stopT_ok (.cons stopT_ok .nil)))))))
theorem applyG_ok : CtrOk Try.prog 18 applyG := ctr_endL tt_ok mixed tblG_ok (C := applyG) anG 200 7 (fun _ => rfl) (fun _ => ⟨fun _ => rfl, trivial⟩) fun x hx => Eq.mp (applyGVC_ok x) (applyGVC_true x (hd_iff.1 hx))
end Go.Proofs.Ytjndgegfonhhfaa
end
section
/- CostBlocks: what is asked is so. -/
namespace Go.Proofs.Ytjndgegfonhhfaa
open Go SE
theorem apply_of {k : Int} (hk : k ≠ 7) (h : CtrOk Try.prog 18 (applyC k)) (x : SC) (hx : x.ok ∧ x.c.kind = k ∧ goodM x.c = 0) : Sp Try.prog 18 (applyL.args x) (hO applyL.k (applyL.os x)) (fun v h' => outsP x v h' applyL.outs) := by
  have := (h x (hd_iff.2 hx)).2
  have e : (applyC k).args x = applyL.args x := by
    show [x.s.avZ 0 1, AV.agg [i64 k, str x.c.key, str x.c.value, str x.c.to, .slR 2 0 5 x.c.gn]] = [x.s.avZ 0 1, x.c.av 2]
    unfold Cll.av; rw [hx.2.1]
  rw [e] at this
  refine this.mono fun v h' hh => ?_
  have hh : (∃ y : Bool, Hd (appR x y) ∧ v = .tup [softS, softA (boo y)] ∧ h' = hO 3 x.os) ∨ False := by with_unfolding_all exact hh
  rcases hh with ⟨y, h1, rfl, rfl⟩ | hh
  · with_unfolding_all exact Or.inl ⟨y, hd_iff.2 ⟨by rw [hx.2.1]; exact hk, hd_iff.1 h1⟩, rfl, rfl⟩
  · exact hh.elim
theorem apply_ok : CtrOk Try.prog 18 applyL := fun x hx => ⟨rfl, by
  obtain ⟨ho, hg⟩ := hd_iff.1 hx
  obtain ⟨h1, h2⟩ := kind_of hg
  by_cases h7 : x.c.kind = 7
  · have := (applyG_ok x (hd_iff.2 ⟨ho, h7, hg⟩)).2
    have e : applyG.args x = applyL.args x := by
      show [x.s.avZ 0 1, AV.agg [i64 7, str x.c.key, str x.c.value, str x.c.to, .slR 2 0 5 x.c.gn]] = [x.s.avZ 0 1, x.c.av 2]
      unfold Cll.av; rw [h7]
    rw [e] at this
    refine this.mono fun v h' hh => ?_
    have hh : (∃ y : Nat → Bool, Hd (groupR x y) ∧ v = .tup [softS, .agg [.one, .one, .one, .one, .slW 3 0 1 x.c.gn, .one]] ∧ h' = hO 4 (x.os ++ [hitsO y x.c.gn])) ∨ False := by with_unfolding_all exact hh
    rcases hh with ⟨y, g1, rfl, rfl⟩ | hh
    · with_unfolding_all exact Or.inr (Or.inl ⟨y, hd_iff.2 ⟨h7, hd_iff.1 g1⟩, rfl, rfl⟩)
    · exact hh.elim
  · have hk : x.c.kind = 1 ∨ x.c.kind = 2 ∨ x.c.kind = 3 ∨ x.c.kind = 4 ∨ x.c.kind = 5 ∨ x.c.kind = 6 ∨ x.c.kind = 8 := by omega
    rcases hk with h | h | h | h | h | h | h
    · exact apply_of (by decide) apply1_ok x ⟨ho, h, hg⟩
    · exact apply_of (by decide) apply2_ok x ⟨ho, h, hg⟩
    · exact apply_of (by decide) apply3_ok x ⟨ho, h, hg⟩
    · exact apply_of (by decide) apply4_ok x ⟨ho, h, hg⟩
    · exact apply_of (by decide) apply5_ok x ⟨ho, h, hg⟩
    · exact apply_of (by decide) apply6_ok x ⟨ho, h, hg⟩
    · exact apply_of (by decide) apply8_ok x ⟨ho, h, hg⟩⟩
theorem tblB_ok : TblOk Try.prog tblB := .cons (ctrT_ok great_ok) (.cons (ctrT_ok weight_ok) (.cons (ctrT_ok may_ok) (.cons (ctrT_ok good_ok) (.cons (ctrT_ok call_ok) (.cons (ctrT_ok apply_ok) (.cons awakeT_ok .nil))))))
theorem costBlocks_true (x : SC) (hw : x.s.wf) : costBlocksVC x := by
  unfold costBlocksVC
  simp only [costBlocksVC_1, costBlocksVC_2, costBlocksVC_3, costBlocksVC_4, costBlocksVC_5, costBlocksVC_10, costBlocksVC_11, costBlocksVC_6, costBlocksVC_7, costBlocksVC_8, costBlocksVC_9]
  simp only [hd_iff, and_true, true_and, Nat.zero_add, Nat.add_zero, unit_ex, unit_all, true_implies, implies_true, Int.toNat_natCast, eq_self, and_self]
  refine ⟨x.s, ⟨rfl, rfl⟩, ⟨⟨rfl, fun _ _ => rfl⟩, rfl, fun _ _ => rfl⟩, fun y hy => cP_intro (fun _ => trivial) (fun hb => ⟨x.c, ⟨rfl, rfl, rfl, rfl, rfl⟩, ⟨rfl, fun _ _ => rfl⟩, fun y1 hy1 => cP_intro (fun _ => trivial) (fun hb1 => ?_)⟩)⟩
  have hs := hy hb
  have hc := hy1 (by have := of_decide_eq_false hb1; omega)
  have hx : x.ok := ⟨hs, hw, hc⟩
  refine ⟨x.s, hs, ⟨rfl, rfl⟩, ⟨⟨rfl, fun _ _ => rfl⟩, rfl, fun _ _ => rfl⟩, cP_intro (fun _ => trivial) (fun hm => ⟨x.c, hc, ⟨rfl, rfl, rfl, rfl, rfl⟩, ⟨rfl, fun _ _ => rfl⟩, cP_intro (fun _ => trivial) (fun hg => ?_)⟩)⟩
  have hm : mayM x.s = true := by simpa using hm
  have hg : goodM x.c = 0 := by simpa using hg
  refine ⟨x, hx, ⟨⟨⟨rfl, rfl⟩, rfl, rfl⟩, rfl, rfl, rfl, rfl, rfl⟩, ⟨⟨rfl, fun _ _ => rfl⟩, ⟨rfl, fun _ _ => rfl⟩, rfl, fun _ _ => rfl⟩, x, ⟨hx, hg⟩, ⟨⟨⟨rfl, rfl⟩, rfl, rfl⟩, rfl, rfl, rfl, rfl, rfl⟩, ⟨⟨rfl, fun _ _ => rfl⟩, ⟨rfl, fun _ _ => rfl⟩, rfl, fun _ _ => rfl⟩, fun y ⟨h7, hy⟩ => ?_, fun hit ⟨h7, hr⟩ => ?_⟩
  · have hf := fit_one x hx hm hg h7 y hy
    have hno : ∀ k : Int, (x.c.kind == k) = false → x.c.kind ≠ k := fun k h he => by rw [he] at h; simp at h
    refine cP_intro (fun h2 => ?_) (fun h2 => cP_intro (fun h4 => ?_) (fun h4 => cP_intro (fun h3 => ?_) (fun h3 => cP_intro (fun h5 => ?_) (fun h5 => cP_intro (fun h77 => absurd (eq_of_beq h77) h7) (fun _ => ?_)))))
    · have e : nOf x.c.kind y = 1 := by rw [eq_of_beq h2]; simp [nOf]
      rw [e] at hf; exact fin_b hf false rfl
    · have e : nOf x.c.kind y = 1 := by rw [eq_of_beq h4]; simp [nOf]
      rw [e] at hf; exact fin_b hf false rfl
    · refine cP_intro (fun hy1 => ?_) (fun hy1 => ?_)
      · have e : nOf x.c.kind y = 1 := by rw [eq_of_beq h3, hy1]; simp [nOf, b2i]
        rw [e] at hf; exact fin_b hf false rfl
      · have e : nOf x.c.kind y = 0 := by rw [eq_of_beq h3, hy1]; simp [nOf, b2i]
        rw [e] at hf; exact fin_b hf true rfl
    · refine cP_intro (fun hy1 => ?_) (fun hy1 => ?_)
      · have e : nOf x.c.kind y = 1 := by rw [eq_of_beq h5, hy1]; simp [nOf, b2i]
        rw [e] at hf; exact fin_b hf false rfl
      · have e : nOf x.c.kind y = 0 := by rw [eq_of_beq h5, hy1]; simp [nOf, b2i]
        rw [e] at hf; exact fin_b hf true rfl
    · have e : nOf x.c.kind y = 0 := by simp [nOf, hno _ h2, hno _ h3, hno _ h4, hno _ h5]
      rw [e] at hf; exact fin_b hf true rfl
  · have hf := fit_group x hx hm hg h7
    rw [h7] at hf ⊢
    refine cP_intro (fun h => absurd h (by decide)) (fun _ => cP_intro (fun h => absurd h (by decide)) (fun _ => cP_intro (fun h => absurd h (by decide)) (fun _ => cP_intro (fun h => absurd h (by decide)) (fun _ => cP_intro (fun _ => ?_) (fun h => absurd h (by decide))))))
    obtain ⟨k1, k2, _⟩ := mem_kinds hg h7
    refine ⟨⟨0, by omega, rfl, by simp [cntM]⟩, fun i hi => cP_intro (fun h => cP_intro (fun _ => ?_) (fun h2 => by rw [h] at h2; cases h2)) (fun h => ?_)⟩
    · have hlt := of_decide_eq_true h
      have hlt' : i < x.c.gn := by omega
      have hcl := cntM_le (writesB x.c (hitM x)) i
      have step : ∀ b : Bool, writesB x.c (hitM x) i = b → ((cntM (writesB x.c (hitM x)) (i + 1) : Nat) : Int) = (cntM (writesB x.c (hitM x)) i : Nat) + b2i b := fun b hb => by rw [b2i_cnt, hb]
      refine ⟨⟨by omega, hlt⟩, hlt', cP_intro (fun hk => ⟨by unfold I64; omega, by unfold I64; omega, i + 1, by omega, by omega, by omega, step true ?_⟩) (fun hk => ⟨⟨by omega, hlt⟩, hlt', ?_⟩)⟩
      · have hk : (x.c.g i).kind ≠ 3 := by simpa using hk
        simp [writesB, hk]
      · have hk : (x.c.g i).kind = 3 := by simpa using hk
        have hh := hr i hlt' hk
        refine cP_intro (fun hb => ⟨by unfold I64; omega, by unfold I64; omega, i + 1, by omega, by omega, by omega, step true ?_⟩) (fun hb => ⟨by unfold I64; omega, i + 1, by omega, by omega, by omega, ?_⟩)
        · simp only [writesB, hitM]; rw [← hh, hb, hk]; rfl
        · have := step false (by simp only [writesB, hitM]; rw [← hh, hb, hk]; rfl)
          simpa [b2i] using this
    · have he : i = x.c.gn := by have := of_decide_eq_false h; omega
      subst he
      exact fin_b hf _ rfl
theorem costBlocks_sp (x : SC) (hw : x.s.wf) : Sp Try.prog 5 [x.s.avZ 0 1, x.c.av 2] (hO 3 x.os) (fun v _ => v = .lit (.bool true)) := by
  have h := costBlocks_true x hw
  rw [costBlocksVC_ok] at h
  unfold costBlocksVC_wp at h
  exact (sp_endk tt_ok mixed tblB_ok (anBlocks x) 200 5 3 3 rfl rfl h).mono fun _ _ hh => hh.1
end Go.Proofs.Ytjndgegfonhhfaa
end
section
/- A store and a call that came in, opened. -/
namespace Go.Proofs.Ytjndgegfonhhfaa
open Go SE
open Go.ChangeShapes Go.WideShapes Go.ChangeAt Go.RowKit
theorem own : ownKnob Try.prog.godebug = none := by kernel_rfl
theorem laidOut : laidOutB Try.prog = true := by kernel_rfl
theorem cells3 : Try.prog.cellsOf 3 = 1 := by kernel_rfl
theorem cells9 : Try.prog.cellsOf 9 = 1 := by kernel_rfl
theorem cells22 : Try.prog.cellsOf 22 = 1 := by kernel_rfl
theorem cells23 : Try.prog.cellsOf 23 = 1 := by kernel_rfl
theorem cells26 : Try.prog.cellsOf 26 = 1 := by kernel_rfl
theorem cells25 : Try.prog.cellsOf 25 = 2 := by kernel_rfl
theorem cells28 : Try.prog.cellsOf 28 = 5 := by kernel_rfl
theorem cellsP : Try.prog.cellsOf 73 = 2 := by kernel_rfl
theorem ct25 : Try.prog.cellTypes Try.prog.depth 25 = some [22, 23] := by kernel_rfl
theorem ct28 : Try.prog.cellTypes Try.prog.depth 28 = some [3, 9, 9, 9, 26] := by kernel_rfl
set_option maxRecDepth 20000 in
theorem trod_pair {H : Type} {enc : TypeId × Value → H} {w : World} {base : Nat} {spare : Nat → Bool} {held : Bool} {fuel : Nat} {cs : List Value} {x : DataW H × List MemPlace} (h : DataW.trod enc Try.prog w base spare held fuel 73 cs = some x) : ∃ l : BA × BA, cs = [.string l.1, .string l.2] := by
  obtain ⟨hl, hf⟩ := trod_struct Try.underlying73 h
  rw [cellsP] at hl
  match cs, hl with
  | [c0, c1], _ =>
    simp only [List.forall_mem_cons, cells9, List.drop_zero, List.take_succ_cons, List.take_zero, List.drop_succ_cons] at hf
    obtain ⟨⟨_, _, h0⟩, ⟨_, _, h1⟩, _⟩ := hf
    obtain ⟨s0, e0, _⟩ := DataW.trod_string Try.underlying9 h0
    obtain ⟨s1, e1, _⟩ := DataW.trod_string Try.underlying9 h1
    simp only [List.cons.injEq, and_true] at e0 e1
    subst e0 e1
    exact ⟨(s0, s1), rfl⟩
set_option maxRecDepth 20000 in
theorem trod_call {H : Type} {enc : TypeId × Value → H} {w : World} {base : Nat} {spare : Nat → Bool} {held : Bool} {fuel : Nat} {cs : List Value} {x : DataW H × List MemPlace} (h : DataW.trod enc Try.prog w base spare held fuel 28 cs = some x) :
    ∃ l : Mem, cs = l.cells ∧ ∃ fuel' y, DataW.trod enc Try.prog w base spare held fuel' 26 [.slice l.gp l.gn l.gc] = some y := by
  obtain ⟨hl, hf⟩ := trod_struct Try.underlying28 h
  rw [cells28] at hl
  match cs, hl with
  | [c0, c1, c2, c3, c4], _ =>
    simp only [List.forall_mem_cons, cells3, cells9, cells26, List.drop_zero, List.take_succ_cons, List.take_zero, List.drop_succ_cons] at hf
    obtain ⟨⟨_, _, h0⟩, ⟨_, _, h1⟩, ⟨_, _, h2⟩, ⟨_, _, h3⟩, ⟨_, _, h4⟩, _⟩ := hf
    obtain ⟨n0, e0, _⟩ := DataW.trod_int Try.underlying3 h0
    obtain ⟨s1, e1, _⟩ := DataW.trod_string Try.underlying9 h1
    obtain ⟨s2, e2, _⟩ := DataW.trod_string Try.underlying9 h2
    obtain ⟨s3, e3, _⟩ := DataW.trod_string Try.underlying9 h3
    simp only [List.cons.injEq, and_true] at e0 e1 e2 e3
    subst e0 e1 e2 e3
    rcases trod_slice Try.underlying26 h4 with e4 | ⟨a, len, cap, e4, _⟩
    · simp only [List.cons.injEq, and_true] at e4
      subst e4
      exact ⟨⟨n0, s1, s2, s3, none, 0, 0⟩, rfl, _, _, h4⟩
    · simp only [List.cons.injEq, and_true] at e4
      subst e4
      exact ⟨⟨n0, s1, s2, s3, some a, len, cap⟩, rfl, _, _, h4⟩
set_option maxRecDepth 20000 in
theorem open_shelf {H : Type} {enc : TypeId × Value → H} {W : World} {v : Value} {d : DataW H} {ps : List MemPlace} (hok : Value.okWide Try.prog W .any 0 25 v) (h : DataW.Trod enc Try.prog W 0 (fun _ => true) true 25 v d ps) :
    ∃ (s : Shf) (a b : SE.Loc), s.wf ∧ (∀ (ρ : Ren) (i j : Nat), ρ i = some a → ρ j = some b → VRel ρ (s.avZ i j) v) ∧ (∀ (ρ : Ren) (S : Nat → Prop), OHolds ρ W (fun b => W.heap.size ≤ b) a S (.ro (rowP s))) ∧ ∀ (ρ : Ren) (S : Nat → Prop), OHolds ρ W (fun b => W.heap.size ≤ b) b S (.ro (rowQ s)) := by
  obtain ⟨fuel, h⟩ := h
  unfold Value.okWide at hok
  simp only [Try.underlying25] at hok
  obtain ⟨cs, rfl, _, hr⟩ := hok
  obtain ⟨hl, hf⟩ := trod_struct Try.underlying25 h
  rw [cells25] at hl
  obtain ⟨L⟩ := cs
  change L.length = 2 at hl
  change ∀ f ∈ (_ : List Field), ∃ fuel' y, DataW.trod enc Try.prog W 0 (fun _ => true) true fuel' f.type ((L.drop f.offset).take (Try.prog.cellsOf f.type)) = some y at hf
  match L, hl with
  | [c0, c1], _ =>
    simp only [List.forall_mem_cons, cells22, cells23, List.drop_zero, List.take_succ_cons, List.take_zero, List.drop_succ_cons] at hf
    obtain ⟨⟨_, _, h0⟩, ⟨_, _, h1⟩, _⟩ := hf
    have k0 : Cell.okWide Try.prog W .any 0 22 c0 := row_cell hr ct25 (i := 0) rfl rfl
    have k1 : Cell.okWide Try.prog W .any 0 23 c1 := row_cell hr ct25 (i := 1) rfl rfl
    obtain ⟨z, c, n, a, hz, _, _, hv, ho⟩ := open_cellZ (T := fun b => W.heap.size ≤ b) (f := fun p : BA × BA => [.string p.1, .string p.2]) (m := 2) (ByteArray.empty, ByteArray.empty) (fun _ => True) (fun _ => rfl) (by omega) Try.underlying22 cellsP k0 h0 (fun b hb => by omega)
      (fun fuel cs y h => by obtain ⟨l, e⟩ := trod_pair h; exact ⟨l, trivial, e⟩)
    obtain ⟨z', c', n', a', hz', _, _, hv', ho'⟩ := open_cellZ (T := fun b => W.heap.size ≤ b) (f := fun p : BA => [.string p]) (m := 1) ByteArray.empty (fun _ => True) (fun _ => rfl) (by omega) Try.underlying23 cells9 k1 h1 (fun b hb => by omega)
      (fun fuel cs y h => by obtain ⟨s, e, _⟩ := DataW.trod_string Try.underlying9 h; exact ⟨s, trivial, e⟩)
    refine ⟨⟨fun k => (c k).1, fun k => (c k).2, n, c', n', z, z'⟩, a, a', ⟨hz, hz'⟩, fun ρ i j hi hj => ?_, fun ρ S => ho ρ S, fun ρ S => ho' ρ S⟩
    simp only [Shf.avZ, VRel]
    exact ⟨_, rfl, .cons (hv ρ i hi).1 (.cons (hv' ρ j hj).1 .nil)⟩
set_option maxRecDepth 20000 in
theorem open_call {H : Type} {enc : TypeId × Value → H} {W : World} {v : Value} {d : DataW H} {ps : List MemPlace} (hok : Value.okWide Try.prog W .any 0 28 v) (h : DataW.Trod enc Try.prog W 0 (fun _ => true) true 28 v d ps) :
    ∃ (s : Cll) (a : SE.Loc), (∀ (ρ : Ren) (i : Nat), ρ i = some a → VRel ρ (s.av i) v) ∧ ∀ (ρ : Ren) (S : Nat → Prop), OHolds ρ W (fun b => W.heap.size ≤ b) a S (.ro (rowG s)) := by
  obtain ⟨fuel, h⟩ := h
  unfold Value.okWide at hok
  simp only [Try.underlying28] at hok
  obtain ⟨cs, rfl, _, hr⟩ := hok
  obtain ⟨l, hl, fuel', y, h4⟩ := trod_call h
  obtain ⟨L⟩ := cs
  have hl : L = l.cells := hl
  subst hl
  have k4 : Cell.okWide Try.prog W .any 0 26 (.slice l.gp l.gn l.gc) := row_cell hr ct28 (i := 4) rfl rfl
  obtain ⟨z, c, n, a, _, _, _, hv, ho⟩ := open_cellZ (T := fun b => W.heap.size ≤ b) (f := Mem.cells) (m := 5) ⟨0, ByteArray.empty, ByteArray.empty, ByteArray.empty, none, 0, 0⟩ (fun _ => True) (fun _ => rfl) (by omega) Try.underlying26 cells28 k4 h4 (fun b hb => by omega)
    (fun fuel cs y h => by obtain ⟨l, e, _⟩ := trod_call h; exact ⟨l, trivial, e⟩)
  refine ⟨⟨l.kind, l.key, l.value, l.to, c, n⟩, a, fun ρ i hi => ?_, fun ρ S => ho ρ S⟩
  simp only [Cll.av, VRel]
  exact ⟨_, rfl, .cons rfl (.cons rfl (.cons rfl (.cons rfl (.cons (hv ρ i hi).2 .nil))))⟩
end Go.Proofs.Ytjndgegfonhhfaa
end
