import Derived.Test.YtjndgegfonhhfaaQa
import Derived.Test.YtjndgegfonhhfaaQb
import Derived.Test.YtjndgegfonhhfaaQc
import Derived.Test.YtjndgegfonhhfaaQd
import Derived.Test.YtjndgegfonhhfaaQe
import Derived.Test.YtjndgegfonhhfaaQf
import Derived.Test.YtjndgegfonhhfaaQg
import Derived.Test.YtjndgegfonhhfaaQh
import Derived.Test.YtjndgegfonhhfaaQi
import Derived.Test.YtjndgegfonhhfaaQj
import Derived.Test.YtjndgegfonhhfaaQk
import Derived.KernelRfl
section
/- What is asked of ranges of a store. -/
namespace Go.Proofs.Ytjndgegfonhhfaa
open Go SE
def applyScanVC_wp (x : SC) : Prop := wpF Try.prog [(17, ctrT goodC), (55, ctrT copiedC), (93, orElseT (ctrT scanNC) (ctrT scanC))] tt noAn 200 7 18 (applyScanC.args x) (hO applyScanC.k (applyScanC.os x)) (fun v h' => endsP applyScanC.k x v h' applyScanC.outs)
def applyScanVC (x : SC) : Prop :=
  (∃ (x_1 : @Shf), ((@Hd (@Shf.small x_1)) ∧
  ((((((@Shf.zp x_1) = (@Shf.zp (@SC.s x))) ∧
  (((0 : @Nat) = (0 : @Nat)) ∧
  ((@Shf.n x_1) = (@Shf.n (@SC.s x))))) ∧
  ((((@Shf.zq x_1) = (@Shf.zq (@SC.s x))) ∧
  (((0 : @Nat) = (0 : @Nat)) ∧
  ((@Shf.m x_1) = (@Shf.m (@SC.s x))))) ∧
  True)) ∧
  True) ∧
  (((((@Shf.n x_1) = (@Shf.n (@SC.s x))) ∧
  (∀ (q : @Nat), ((q < (@Shf.n x_1)) → ([(Value.string (@Shf.pk x_1 q)), (Value.string (@Shf.pv x_1 q))] = [(Value.string (@Shf.pk (@SC.s x) q)), (Value.string (@Shf.pv (@SC.s x) q))])))) ∧
  ((((@Shf.m x_1) = (@Shf.m (@SC.s x))) ∧
  (∀ (q : @Nat), ((q < (@Shf.m x_1)) → ([(Value.string (@Shf.qv x_1 q))] = [(Value.string (@Shf.qv (@SC.s x) q))])))) ∧
  True)) ∧
  ((∀ (y : Unit), ((((@Shf.zp x_1) = @Bool.true) ∧
  ((@Shf.zq x_1) = @Bool.true)) → (∃ (x_2 : @Cll), ((@Hd (@Cll.small x_2)) ∧
  (((((@Cll.kind x_2) = (6 : @Int)) ∧
  (((@Cll.key x_2) = (@Cll.key (@SC.c x))) ∧
  (((@Cll.value x_2) = (@Cll.value (@SC.c x))) ∧
  (((@Cll.to x_2) = (@Cll.to (@SC.c x))) ∧
  ((((0 : @Nat) = (0 : @Nat)) ∧
  ((@Cll.gn x_2) = (@Cll.gn (@SC.c x)))) ∧
  True))))) ∧
  True) ∧
  (((((@Cll.gn x_2) = (@Cll.gn (@SC.c x))) ∧
  (∀ (q : @Nat), ((q < (@Cll.gn x_2)) → ([(Value.int @IntKind.i64 (@Mem.kind (@Cll.g x_2 q))), (Value.string (@Mem.key (@Cll.g x_2 q))), (Value.string (@Mem.value (@Cll.g x_2 q))), (Value.string (@Mem.to (@Cll.g x_2 q))), (Value.slice (@Mem.gp (@Cll.g x_2 q)) (@Mem.gn (@Cll.g x_2 q)) (@Mem.gc (@Cll.g x_2 q)))] = [(Value.int @IntKind.i64 (@Mem.kind (@Cll.g (@SC.c x) q))), (Value.string (@Mem.key (@Cll.g (@SC.c x) q))), (Value.string (@Mem.value (@Cll.g (@SC.c x) q))), (Value.string (@Mem.to (@Cll.g (@SC.c x) q))), (Value.slice (@Mem.gp (@Cll.g (@SC.c x) q)) (@Mem.gn (@Cll.g (@SC.c x) q)) (@Mem.gc (@Cll.g (@SC.c x) q)))])))) ∧
  True) ∧
  (∀ (y_1 : Unit), (True → (cP (@bne @Int (@instBEqOfDecidableEq @Int @Int.instDecidableEq) (@goodM x_2) (0 : @Int)) ((((AV.agg [(AV.lit (Value.int @IntKind.i64 (@goodM x_2))), (AV.lit (Value.bool @Bool.false)), (AV.lit (Value.string (@ByteArray.mk (@List.toArray @UInt8 (@List.nil @UInt8))))), (AV.lit (Value.slice (@Option.none @Addr) (0 : @Nat) (0 : @Nat))), (AV.lit (Value.slice (@Option.none @Addr) (0 : @Nat) (0 : @Nat))), (AV.lit (Value.int @IntKind.u64 (0 : @Int)))]) = (AV.agg [(AV.lit (Value.int @IntKind.i64 (@goodM x_2))), (AV.lit (Value.bool @Bool.false)), (AV.lit (Value.string (@ByteArray.mk (@List.toArray @UInt8 (@List.nil @UInt8))))), (AV.lit (Value.slice (@Option.none @Addr) (0 : @Nat) (0 : @Nat))), (AV.lit (Value.slice (@Option.none @Addr) (0 : @Nat) (0 : @Nat))), (AV.lit (Value.int @IntKind.u64 (0 : @Int)))])) ∧
  True) ∧
  (True ∧
  ((∃ (y_2 : Unit), ((@Hd ((@selL (@SC.s x) (@Cll.key (@SC.c x)) (@Cll.to (@SC.c x)) (@Shf.n (@SC.s x))) = (@List.nil @Nat))) ∧
  (((True ∧
  (True ∧
  True)) ∧
  ((((0 : @Int) = (@goodM x_2)) ∧
  ((@Bool.false = @Bool.false) ∧
  ((@es = (@ByteArray.mk (@List.toArray @UInt8 (@List.nil @UInt8)))) ∧
  (((Value.slice (@Option.none @Addr) (0 : @Nat) (0 : @Nat)) = (Value.slice (@Option.none @Addr) (0 : @Nat) (0 : @Nat))) ∧
  (((Value.slice (@Option.none @Addr) (0 : @Nat) (0 : @Nat)) = (Value.slice (@Option.none @Addr) (0 : @Nat) (0 : @Nat))) ∧
  (((0 : @Int) = (0 : @Int)) ∧
  True)))))) ∧
  True)) ∧
  ((((@rowP (@SC.s x)) = (@rowP (@SC.s x))) ∧
  (@Bool.true = @Bool.true)) ∧
  ((((@rowQ (@SC.s x)) = (@rowQ (@SC.s x))) ∧
  (@Bool.true = @Bool.true)) ∧
  ((((@rowG (@SC.c x)) = (@rowG (@SC.c x))) ∧
  (@Bool.true = @Bool.true)) ∧
  True)))))) ∨ (∃ (y_2 : Unit), (True ∧
  (((True ∧
  (True ∧
  True)) ∧
  ((((0 : @Int) = (@goodM x_2)) ∧
  ((@Bool.false = @Bool.false) ∧
  ((@es = (@ByteArray.mk (@List.toArray @UInt8 (@List.nil @UInt8)))) ∧
  (False ∧
  (((Value.slice (@Option.none @Addr) (0 : @Nat) (0 : @Nat)) = (Value.slice (@Option.none @Addr) (0 : @Nat) (0 : @Nat))) ∧
  (((0 : @Int) = (0 : @Int)) ∧
  True)))))) ∧
  True)) ∧
  ((((@rowP (@SC.s x)) = (@rowP (@SC.s x))) ∧
  (@Bool.true = @Bool.true)) ∧
  ((((@rowQ (@SC.s x)) = (@rowQ (@SC.s x))) ∧
  (@Bool.true = @Bool.true)) ∧
  ((((@rowG (@SC.c x)) = (@rowG (@SC.c x))) ∧
  (@Bool.true = @Bool.true)) ∧
  (False ∧
  True)))))))))) ((∃ (x_3 : (@Prod @SK2 @BA)), (True ∧
  ((((0 : @Nat) = (0 : @Nat)) ∧
  ((((6 : @Int) = (6 : @Int)) ∧
  (((@SK2.key (@Prod.fst @SK2 @BA x_3)) = (@Cll.key (@SC.c x))) ∧
  (((@Prod.snd @SK2 @BA x_3) = (@Cll.value (@SC.c x))) ∧
  (((@SK2.to (@Prod.fst @SK2 @BA x_3)) = (@Cll.to (@SC.c x))) ∧
  (True ∧
  True))))) ∧
  (((0 : @Nat) = (0 : @Nat)) ∧
  True))) ∧
  (((((Value.slice (@Option.none @Addr) (0 : @Nat) (0 : @Nat)) = (Value.slice (@Option.none @Addr) (0 : @Nat) (0 : @Nat))) ∧
  (True ∧
  True)) ∧
  ((((0 : @Int) = (@goodM x_2)) ∧
  ((@Bool.false = @Bool.false) ∧
  ((@es = (@ByteArray.mk (@List.toArray @UInt8 (@List.nil @UInt8)))) ∧
  (((Value.slice (@Option.none @Addr) (0 : @Nat) (0 : @Nat)) = (Value.slice (@Option.none @Addr) (0 : @Nat) (0 : @Nat))) ∧
  (((Value.slice (@Option.none @Addr) (0 : @Nat) (0 : @Nat)) = (Value.slice (@Option.none @Addr) (0 : @Nat) (0 : @Nat))) ∧
  (((0 : @Int) = (0 : @Int)) ∧
  True)))))) ∧
  True)) ∧
  (∀ (y_2 : Unit), (True → ((((AV.agg [(AV.lit (Value.int @IntKind.i64 (0 : @Int))), (AV.lit (Value.bool @Bool.false)), (AV.lit (Value.string @es)), (AV.lit (Value.slice (@Option.none @Addr) (0 : @Nat) (0 : @Nat))), (AV.lit (Value.slice (@Option.none @Addr) (0 : @Nat) (0 : @Nat))), (AV.lit (Value.int @IntKind.u64 (0 : @Int)))]) = (AV.agg [(AV.lit (Value.int @IntKind.i64 (0 : @Int))), (AV.lit (Value.bool @Bool.false)), (AV.lit (Value.string @es)), (AV.lit (Value.slice (@Option.none @Addr) (0 : @Nat) (0 : @Nat))), (AV.lit (Value.slice (@Option.none @Addr) (0 : @Nat) (0 : @Nat))), (AV.lit (Value.int @IntKind.u64 (0 : @Int)))])) ∧
  True) ∧
  (True ∧
  ((∃ (y_3 : Unit), ((@Hd ((@selL (@SC.s x) (@Cll.key (@SC.c x)) (@Cll.to (@SC.c x)) (@Shf.n (@SC.s x))) = (@List.nil @Nat))) ∧
  (((True ∧
  (True ∧
  True)) ∧
  ((((0 : @Int) = (0 : @Int)) ∧
  ((@Bool.false = @Bool.false) ∧
  ((@es = @es) ∧
  (((Value.slice (@Option.none @Addr) (0 : @Nat) (0 : @Nat)) = (Value.slice (@Option.none @Addr) (0 : @Nat) (0 : @Nat))) ∧
  (((Value.slice (@Option.none @Addr) (0 : @Nat) (0 : @Nat)) = (Value.slice (@Option.none @Addr) (0 : @Nat) (0 : @Nat))) ∧
  (((0 : @Int) = (0 : @Int)) ∧
  True)))))) ∧
  True)) ∧
  ((((@rowP (@SC.s x)) = (@rowP (@SC.s x))) ∧
  (@Bool.true = @Bool.true)) ∧
  ((((@rowQ (@SC.s x)) = (@rowQ (@SC.s x))) ∧
  (@Bool.true = @Bool.true)) ∧
  ((((@rowG (@SC.c x)) = (@rowG (@SC.c x))) ∧
  (@Bool.true = @Bool.true)) ∧
  True)))))) ∨ (∃ (y_3 : Unit), (True ∧
  (((True ∧
  (True ∧
  True)) ∧
  ((((0 : @Int) = (0 : @Int)) ∧
  ((@Bool.false = @Bool.false) ∧
  ((@es = @es) ∧
  (False ∧
  (((Value.slice (@Option.none @Addr) (0 : @Nat) (0 : @Nat)) = (Value.slice (@Option.none @Addr) (0 : @Nat) (0 : @Nat))) ∧
  (((0 : @Int) = (0 : @Int)) ∧
  True)))))) ∧
  True)) ∧
  ((((@rowP (@SC.s x)) = (@rowP (@SC.s x))) ∧
  (@Bool.true = @Bool.true)) ∧
  ((((@rowQ (@SC.s x)) = (@rowQ (@SC.s x))) ∧
  (@Bool.true = @Bool.true)) ∧
  ((((@rowG (@SC.c x)) = (@rowG (@SC.c x))) ∧
  (@Bool.true = @Bool.true)) ∧
  (False ∧
  True)))))))))))))))) ∨ (∃ (x_3 : (@Prod @SK2 @BA)), ((@Hd (@SK2.ok (@Prod.fst @SK2 @BA x_3))) ∧
  ((((0 : @Nat) = (0 : @Nat)) ∧
  ((((6 : @Int) = (6 : @Int)) ∧
  (((@SK2.key (@Prod.fst @SK2 @BA x_3)) = (@Cll.key (@SC.c x))) ∧
  (((@Prod.snd @SK2 @BA x_3) = (@Cll.value (@SC.c x))) ∧
  (((@SK2.to (@Prod.fst @SK2 @BA x_3)) = (@Cll.to (@SC.c x))) ∧
  (True ∧
  True))))) ∧
  (((0 : @Nat) = (0 : @Nat)) ∧
  True))) ∧
  (((False ∧
  (True ∧
  True)) ∧
  ((((0 : @Int) = (@goodM x_2)) ∧
  ((@Bool.false = @Bool.false) ∧
  ((@es = (@ByteArray.mk (@List.toArray @UInt8 (@List.nil @UInt8)))) ∧
  (((Value.slice (@Option.none @Addr) (0 : @Nat) (0 : @Nat)) = (Value.slice (@Option.none @Addr) (0 : @Nat) (0 : @Nat))) ∧
  (((Value.slice (@Option.none @Addr) (0 : @Nat) (0 : @Nat)) = (Value.slice (@Option.none @Addr) (0 : @Nat) (0 : @Nat))) ∧
  (((0 : @Int) = (0 : @Int)) ∧
  True)))))) ∧
  (False ∧
  True))) ∧
  ((∀ (y_2 : Unit), ((@Hd ((@SK2.sel (@Prod.fst @SK2 @BA x_3)) = (@List.nil @Nat))) → ((((AV.agg [(AV.lit (Value.int @IntKind.i64 (0 : @Int))), (AV.lit (Value.bool @Bool.false)), (AV.lit (Value.string @es)), (AV.lit (Value.slice (@Option.none @Addr) (0 : @Nat) (0 : @Nat))), (AV.lit (Value.slice (@Option.none @Addr) (0 : @Nat) (0 : @Nat))), (AV.lit (Value.int @IntKind.u64 (0 : @Int)))]) = (AV.agg [(AV.lit (Value.int @IntKind.i64 (0 : @Int))), (AV.lit (Value.bool @Bool.false)), (AV.lit (Value.string @es)), (AV.lit (Value.slice (@Option.none @Addr) (0 : @Nat) (0 : @Nat))), (AV.lit (Value.slice (@Option.none @Addr) (0 : @Nat) (0 : @Nat))), (AV.lit (Value.int @IntKind.u64 (0 : @Int)))])) ∧
  True) ∧
  (True ∧
  ((∃ (y_3 : Unit), ((@Hd ((@selL (@SC.s x) (@Cll.key (@SC.c x)) (@Cll.to (@SC.c x)) (@Shf.n (@SC.s x))) = (@List.nil @Nat))) ∧
  (((True ∧
  (True ∧
  True)) ∧
  ((((0 : @Int) = (0 : @Int)) ∧
  ((@Bool.false = @Bool.false) ∧
  ((@es = @es) ∧
  (((Value.slice (@Option.none @Addr) (0 : @Nat) (0 : @Nat)) = (Value.slice (@Option.none @Addr) (0 : @Nat) (0 : @Nat))) ∧
  (((Value.slice (@Option.none @Addr) (0 : @Nat) (0 : @Nat)) = (Value.slice (@Option.none @Addr) (0 : @Nat) (0 : @Nat))) ∧
  (((0 : @Int) = (0 : @Int)) ∧
  True)))))) ∧
  True)) ∧
  ((((@rowP (@SC.s x)) = (@rowP (@SC.s x))) ∧
  (@Bool.true = @Bool.true)) ∧
  ((((@rowQ (@SC.s x)) = (@rowQ (@SC.s x))) ∧
  (@Bool.true = @Bool.true)) ∧
  ((((@rowG (@SC.c x)) = (@rowG (@SC.c x))) ∧
  (@Bool.true = @Bool.true)) ∧
  True)))))) ∨ (∃ (y_3 : Unit), (True ∧
  (((True ∧
  (True ∧
  True)) ∧
  ((((0 : @Int) = (0 : @Int)) ∧
  ((@Bool.false = @Bool.false) ∧
  ((@es = @es) ∧
  (False ∧
  (((Value.slice (@Option.none @Addr) (0 : @Nat) (0 : @Nat)) = (Value.slice (@Option.none @Addr) (0 : @Nat) (0 : @Nat))) ∧
  (((0 : @Int) = (0 : @Int)) ∧
  True)))))) ∧
  True)) ∧
  ((((@rowP (@SC.s x)) = (@rowP (@SC.s x))) ∧
  (@Bool.true = @Bool.true)) ∧
  ((((@rowQ (@SC.s x)) = (@rowQ (@SC.s x))) ∧
  (@Bool.true = @Bool.true)) ∧
  ((((@rowG (@SC.c x)) = (@rowG (@SC.c x))) ∧
  (@Bool.true = @Bool.true)) ∧
  (False ∧
  True)))))))))))) ∧
  (∀ (y_2 : Unit), (True → ((((AV.agg [(AV.lit (Value.int @IntKind.i64 (0 : @Int))), (AV.lit (Value.bool @Bool.false)), (AV.lit (Value.string @es)), (AV.slW (10 : Nat) (0 : @Nat) (2 : @Nat) (@List.length @Nat (@SK2.sel (@Prod.fst @SK2 @BA x_3)))), (AV.lit (Value.slice (@Option.none @Addr) (0 : @Nat) (0 : @Nat))), (AV.lit (Value.int @IntKind.u64 (0 : @Int)))]) = (AV.agg [(AV.lit (Value.int @IntKind.i64 (0 : @Int))), (AV.lit (Value.bool @Bool.false)), (AV.lit (Value.string @es)), (AV.slW (10 : Nat) (0 : @Nat) (2 : @Nat) (@List.length @Nat (@SK2.sel (@Prod.fst @SK2 @BA x_3)))), (AV.lit (Value.slice (@Option.none @Addr) (0 : @Nat) (0 : @Nat))), (AV.lit (Value.int @IntKind.u64 (0 : @Int)))])) ∧
  True) ∧
  (True ∧
  ((∃ (y_3 : Unit), ((@Hd ((@selL (@SC.s x) (@Cll.key (@SC.c x)) (@Cll.to (@SC.c x)) (@Shf.n (@SC.s x))) = (@List.nil @Nat))) ∧
  (((True ∧
  (True ∧
  True)) ∧
  ((((0 : @Int) = (0 : @Int)) ∧
  ((@Bool.false = @Bool.false) ∧
  ((@es = @es) ∧
  (False ∧
  (((Value.slice (@Option.none @Addr) (0 : @Nat) (0 : @Nat)) = (Value.slice (@Option.none @Addr) (0 : @Nat) (0 : @Nat))) ∧
  (((0 : @Int) = (0 : @Int)) ∧
  True)))))) ∧
  True)) ∧
  ((((@rowP (@SC.s x)) = (@rowP (@SC.s x))) ∧
  (@Bool.true = @Bool.true)) ∧
  ((((@rowQ (@SC.s x)) = (@rowQ (@SC.s x))) ∧
  (@Bool.true = @Bool.true)) ∧
  ((((@rowG (@SC.c x)) = (@rowG (@SC.c x))) ∧
  (@Bool.true = @Bool.true)) ∧
  True)))))) ∨ (∃ (y_3 : Unit), (True ∧
  (((True ∧
  (True ∧
  True)) ∧
  ((((0 : @Int) = (0 : @Int)) ∧
  ((@Bool.false = @Bool.false) ∧
  ((@es = @es) ∧
  ((((0 : @Nat) = (0 : @Nat)) ∧
  ((@List.length @Nat (@selL (@SC.s x) (@Cll.key (@SC.c x)) (@Cll.to (@SC.c x)) (@Shf.n (@SC.s x)))) = (@List.length @Nat (@SK2.sel (@Prod.fst @SK2 @BA x_3))))) ∧
  (((Value.slice (@Option.none @Addr) (0 : @Nat) (0 : @Nat)) = (Value.slice (@Option.none @Addr) (0 : @Nat) (0 : @Nat))) ∧
  (((0 : @Int) = (0 : @Int)) ∧
  True)))))) ∧
  True)) ∧
  ((((@rowP (@SC.s x)) = (@rowP (@SC.s x))) ∧
  (@Bool.true = @Bool.true)) ∧
  ((((@rowQ (@SC.s x)) = (@rowQ (@SC.s x))) ∧
  (@Bool.true = @Bool.true)) ∧
  ((((@rowG (@SC.c x)) = (@rowG (@SC.c x))) ∧
  (@Bool.true = @Bool.true)) ∧
  ((((@List.length @Nat (@selL (@SC.s x) (@Cll.key (@SC.c x)) (@Cll.to (@SC.c x)) (@Shf.n (@SC.s x)))) = (@List.length @Nat (@SK2.sel (@Prod.fst @SK2 @BA x_3)))) ∧
  (∀ (q : @Nat), ((q < (@List.length @Nat (@selL (@SC.s x) (@Cll.key (@SC.c x)) (@Cll.to (@SC.c x)) (@Shf.n (@SC.s x))))) → ([(Value.string (@Shf.pk (@SC.s x) (@List.getD @Nat (@selL (@SC.s x) (@Cll.key (@SC.c x)) (@Cll.to (@SC.c x)) (@Shf.n (@SC.s x))) q (0 : @Nat)))), (Value.string (@Shf.pv (@SC.s x) (@List.getD @Nat (@selL (@SC.s x) (@Cll.key (@SC.c x)) (@Cll.to (@SC.c x)) (@Shf.n (@SC.s x))) q (0 : @Nat))))] = [(Value.string (@Shf.pk (@SK2.s (@Prod.fst @SK2 @BA x_3)) (@List.getD @Nat (@SK2.sel (@Prod.fst @SK2 @BA x_3)) q (0 : @Nat)))), (Value.string (@Shf.pv (@SK2.s (@Prod.fst @SK2 @BA x_3)) (@List.getD @Nat (@SK2.sel (@Prod.fst @SK2 @BA x_3)) q (0 : @Nat))))])))) ∧
  True))))))))))))))))))))))))))) ∧
  ((∀ (y : Unit), ((((@Shf.zp x_1) = @Bool.true) ∧
  ((@Shf.zq x_1) = @Bool.false)) → (∃ (x_2 : @Cll), ((@Hd (@Cll.small x_2)) ∧
  (((((@Cll.kind x_2) = (6 : @Int)) ∧
  (((@Cll.key x_2) = (@Cll.key (@SC.c x))) ∧
  (((@Cll.value x_2) = (@Cll.value (@SC.c x))) ∧
  (((@Cll.to x_2) = (@Cll.to (@SC.c x))) ∧
  ((((0 : @Nat) = (0 : @Nat)) ∧
  ((@Cll.gn x_2) = (@Cll.gn (@SC.c x)))) ∧
  True))))) ∧
  True) ∧
  (((((@Cll.gn x_2) = (@Cll.gn (@SC.c x))) ∧
  (∀ (q : @Nat), ((q < (@Cll.gn x_2)) → ([(Value.int @IntKind.i64 (@Mem.kind (@Cll.g x_2 q))), (Value.string (@Mem.key (@Cll.g x_2 q))), (Value.string (@Mem.value (@Cll.g x_2 q))), (Value.string (@Mem.to (@Cll.g x_2 q))), (Value.slice (@Mem.gp (@Cll.g x_2 q)) (@Mem.gn (@Cll.g x_2 q)) (@Mem.gc (@Cll.g x_2 q)))] = [(Value.int @IntKind.i64 (@Mem.kind (@Cll.g (@SC.c x) q))), (Value.string (@Mem.key (@Cll.g (@SC.c x) q))), (Value.string (@Mem.value (@Cll.g (@SC.c x) q))), (Value.string (@Mem.to (@Cll.g (@SC.c x) q))), (Value.slice (@Mem.gp (@Cll.g (@SC.c x) q)) (@Mem.gn (@Cll.g (@SC.c x) q)) (@Mem.gc (@Cll.g (@SC.c x) q)))])))) ∧
  True) ∧
  (∀ (y_1 : Unit), (True → (cP (@bne @Int (@instBEqOfDecidableEq @Int @Int.instDecidableEq) (@goodM x_2) (0 : @Int)) ((((AV.agg [(AV.lit (Value.int @IntKind.i64 (@goodM x_2))), (AV.lit (Value.bool @Bool.false)), (AV.lit (Value.string (@ByteArray.mk (@List.toArray @UInt8 (@List.nil @UInt8))))), (AV.lit (Value.slice (@Option.none @Addr) (0 : @Nat) (0 : @Nat))), (AV.lit (Value.slice (@Option.none @Addr) (0 : @Nat) (0 : @Nat))), (AV.lit (Value.int @IntKind.u64 (0 : @Int)))]) = (AV.agg [(AV.lit (Value.int @IntKind.i64 (@goodM x_2))), (AV.lit (Value.bool @Bool.false)), (AV.lit (Value.string (@ByteArray.mk (@List.toArray @UInt8 (@List.nil @UInt8))))), (AV.lit (Value.slice (@Option.none @Addr) (0 : @Nat) (0 : @Nat))), (AV.lit (Value.slice (@Option.none @Addr) (0 : @Nat) (0 : @Nat))), (AV.lit (Value.int @IntKind.u64 (0 : @Int)))])) ∧
  True) ∧
  (True ∧
  ((∃ (y_2 : Unit), ((@Hd ((@selL (@SC.s x) (@Cll.key (@SC.c x)) (@Cll.to (@SC.c x)) (@Shf.n (@SC.s x))) = (@List.nil @Nat))) ∧
  (((True ∧
  (True ∧
  True)) ∧
  ((((0 : @Int) = (@goodM x_2)) ∧
  ((@Bool.false = @Bool.false) ∧
  ((@es = (@ByteArray.mk (@List.toArray @UInt8 (@List.nil @UInt8)))) ∧
  (((Value.slice (@Option.none @Addr) (0 : @Nat) (0 : @Nat)) = (Value.slice (@Option.none @Addr) (0 : @Nat) (0 : @Nat))) ∧
  (((Value.slice (@Option.none @Addr) (0 : @Nat) (0 : @Nat)) = (Value.slice (@Option.none @Addr) (0 : @Nat) (0 : @Nat))) ∧
  (((0 : @Int) = (0 : @Int)) ∧
  True)))))) ∧
  True)) ∧
  ((((@rowP (@SC.s x)) = (@rowP (@SC.s x))) ∧
  (@Bool.true = @Bool.true)) ∧
  ((((@rowQ (@SC.s x)) = (@rowQ (@SC.s x))) ∧
  (@Bool.true = @Bool.true)) ∧
  ((((@rowG (@SC.c x)) = (@rowG (@SC.c x))) ∧
  (@Bool.true = @Bool.true)) ∧
  True)))))) ∨ (∃ (y_2 : Unit), (True ∧
  (((True ∧
  (True ∧
  True)) ∧
  ((((0 : @Int) = (@goodM x_2)) ∧
  ((@Bool.false = @Bool.false) ∧
  ((@es = (@ByteArray.mk (@List.toArray @UInt8 (@List.nil @UInt8)))) ∧
  (False ∧
  (((Value.slice (@Option.none @Addr) (0 : @Nat) (0 : @Nat)) = (Value.slice (@Option.none @Addr) (0 : @Nat) (0 : @Nat))) ∧
  (((0 : @Int) = (0 : @Int)) ∧
  True)))))) ∧
  True)) ∧
  ((((@rowP (@SC.s x)) = (@rowP (@SC.s x))) ∧
  (@Bool.true = @Bool.true)) ∧
  ((((@rowQ (@SC.s x)) = (@rowQ (@SC.s x))) ∧
  (@Bool.true = @Bool.true)) ∧
  ((((@rowG (@SC.c x)) = (@rowG (@SC.c x))) ∧
  (@Bool.true = @Bool.true)) ∧
  (False ∧
  True)))))))))) ((∃ (x_3 : (@Prod @SK2 @BA)), (True ∧
  ((((0 : @Nat) = (0 : @Nat)) ∧
  ((((6 : @Int) = (6 : @Int)) ∧
  (((@SK2.key (@Prod.fst @SK2 @BA x_3)) = (@Cll.key (@SC.c x))) ∧
  (((@Prod.snd @SK2 @BA x_3) = (@Cll.value (@SC.c x))) ∧
  (((@SK2.to (@Prod.fst @SK2 @BA x_3)) = (@Cll.to (@SC.c x))) ∧
  (True ∧
  True))))) ∧
  (((0 : @Nat) = (0 : @Nat)) ∧
  True))) ∧
  (((((Value.slice (@Option.none @Addr) (0 : @Nat) (0 : @Nat)) = (Value.slice (@Option.none @Addr) (0 : @Nat) (0 : @Nat))) ∧
  (True ∧
  True)) ∧
  ((((0 : @Int) = (@goodM x_2)) ∧
  ((@Bool.false = @Bool.false) ∧
  ((@es = (@ByteArray.mk (@List.toArray @UInt8 (@List.nil @UInt8)))) ∧
  (((Value.slice (@Option.none @Addr) (0 : @Nat) (0 : @Nat)) = (Value.slice (@Option.none @Addr) (0 : @Nat) (0 : @Nat))) ∧
  (((Value.slice (@Option.none @Addr) (0 : @Nat) (0 : @Nat)) = (Value.slice (@Option.none @Addr) (0 : @Nat) (0 : @Nat))) ∧
  (((0 : @Int) = (0 : @Int)) ∧
  True)))))) ∧
  True)) ∧
  (∀ (y_2 : Unit), (True → ((((AV.agg [(AV.lit (Value.int @IntKind.i64 (0 : @Int))), (AV.lit (Value.bool @Bool.false)), (AV.lit (Value.string @es)), (AV.lit (Value.slice (@Option.none @Addr) (0 : @Nat) (0 : @Nat))), (AV.lit (Value.slice (@Option.none @Addr) (0 : @Nat) (0 : @Nat))), (AV.lit (Value.int @IntKind.u64 (0 : @Int)))]) = (AV.agg [(AV.lit (Value.int @IntKind.i64 (0 : @Int))), (AV.lit (Value.bool @Bool.false)), (AV.lit (Value.string @es)), (AV.lit (Value.slice (@Option.none @Addr) (0 : @Nat) (0 : @Nat))), (AV.lit (Value.slice (@Option.none @Addr) (0 : @Nat) (0 : @Nat))), (AV.lit (Value.int @IntKind.u64 (0 : @Int)))])) ∧
  True) ∧
  (True ∧
  ((∃ (y_3 : Unit), ((@Hd ((@selL (@SC.s x) (@Cll.key (@SC.c x)) (@Cll.to (@SC.c x)) (@Shf.n (@SC.s x))) = (@List.nil @Nat))) ∧
  (((True ∧
  (True ∧
  True)) ∧
  ((((0 : @Int) = (0 : @Int)) ∧
  ((@Bool.false = @Bool.false) ∧
  ((@es = @es) ∧
  (((Value.slice (@Option.none @Addr) (0 : @Nat) (0 : @Nat)) = (Value.slice (@Option.none @Addr) (0 : @Nat) (0 : @Nat))) ∧
  (((Value.slice (@Option.none @Addr) (0 : @Nat) (0 : @Nat)) = (Value.slice (@Option.none @Addr) (0 : @Nat) (0 : @Nat))) ∧
  (((0 : @Int) = (0 : @Int)) ∧
  True)))))) ∧
  True)) ∧
  ((((@rowP (@SC.s x)) = (@rowP (@SC.s x))) ∧
  (@Bool.true = @Bool.true)) ∧
  ((((@rowQ (@SC.s x)) = (@rowQ (@SC.s x))) ∧
  (@Bool.true = @Bool.true)) ∧
  ((((@rowG (@SC.c x)) = (@rowG (@SC.c x))) ∧
  (@Bool.true = @Bool.true)) ∧
  True)))))) ∨ (∃ (y_3 : Unit), (True ∧
  (((True ∧
  (True ∧
  True)) ∧
  ((((0 : @Int) = (0 : @Int)) ∧
  ((@Bool.false = @Bool.false) ∧
  ((@es = @es) ∧
  (False ∧
  (((Value.slice (@Option.none @Addr) (0 : @Nat) (0 : @Nat)) = (Value.slice (@Option.none @Addr) (0 : @Nat) (0 : @Nat))) ∧
  (((0 : @Int) = (0 : @Int)) ∧
  True)))))) ∧
  True)) ∧
  ((((@rowP (@SC.s x)) = (@rowP (@SC.s x))) ∧
  (@Bool.true = @Bool.true)) ∧
  ((((@rowQ (@SC.s x)) = (@rowQ (@SC.s x))) ∧
  (@Bool.true = @Bool.true)) ∧
  ((((@rowG (@SC.c x)) = (@rowG (@SC.c x))) ∧
  (@Bool.true = @Bool.true)) ∧
  (False ∧
  True)))))))))))))))) ∨ (∃ (x_3 : (@Prod @SK2 @BA)), ((@Hd (@SK2.ok (@Prod.fst @SK2 @BA x_3))) ∧
  ((((0 : @Nat) = (0 : @Nat)) ∧
  ((((6 : @Int) = (6 : @Int)) ∧
  (((@SK2.key (@Prod.fst @SK2 @BA x_3)) = (@Cll.key (@SC.c x))) ∧
  (((@Prod.snd @SK2 @BA x_3) = (@Cll.value (@SC.c x))) ∧
  (((@SK2.to (@Prod.fst @SK2 @BA x_3)) = (@Cll.to (@SC.c x))) ∧
  (True ∧
  True))))) ∧
  (((0 : @Nat) = (0 : @Nat)) ∧
  True))) ∧
  (((False ∧
  (True ∧
  True)) ∧
  ((((0 : @Int) = (@goodM x_2)) ∧
  ((@Bool.false = @Bool.false) ∧
  ((@es = (@ByteArray.mk (@List.toArray @UInt8 (@List.nil @UInt8)))) ∧
  (((Value.slice (@Option.none @Addr) (0 : @Nat) (0 : @Nat)) = (Value.slice (@Option.none @Addr) (0 : @Nat) (0 : @Nat))) ∧
  (((Value.slice (@Option.none @Addr) (0 : @Nat) (0 : @Nat)) = (Value.slice (@Option.none @Addr) (0 : @Nat) (0 : @Nat))) ∧
  (((0 : @Int) = (0 : @Int)) ∧
  True)))))) ∧
  (False ∧
  True))) ∧
  ((∀ (y_2 : Unit), ((@Hd ((@SK2.sel (@Prod.fst @SK2 @BA x_3)) = (@List.nil @Nat))) → ((((AV.agg [(AV.lit (Value.int @IntKind.i64 (0 : @Int))), (AV.lit (Value.bool @Bool.false)), (AV.lit (Value.string @es)), (AV.lit (Value.slice (@Option.none @Addr) (0 : @Nat) (0 : @Nat))), (AV.lit (Value.slice (@Option.none @Addr) (0 : @Nat) (0 : @Nat))), (AV.lit (Value.int @IntKind.u64 (0 : @Int)))]) = (AV.agg [(AV.lit (Value.int @IntKind.i64 (0 : @Int))), (AV.lit (Value.bool @Bool.false)), (AV.lit (Value.string @es)), (AV.lit (Value.slice (@Option.none @Addr) (0 : @Nat) (0 : @Nat))), (AV.lit (Value.slice (@Option.none @Addr) (0 : @Nat) (0 : @Nat))), (AV.lit (Value.int @IntKind.u64 (0 : @Int)))])) ∧
  True) ∧
  (True ∧
  ((∃ (y_3 : Unit), ((@Hd ((@selL (@SC.s x) (@Cll.key (@SC.c x)) (@Cll.to (@SC.c x)) (@Shf.n (@SC.s x))) = (@List.nil @Nat))) ∧
  (((True ∧
  (True ∧
  True)) ∧
  ((((0 : @Int) = (0 : @Int)) ∧
  ((@Bool.false = @Bool.false) ∧
  ((@es = @es) ∧
  (((Value.slice (@Option.none @Addr) (0 : @Nat) (0 : @Nat)) = (Value.slice (@Option.none @Addr) (0 : @Nat) (0 : @Nat))) ∧
  (((Value.slice (@Option.none @Addr) (0 : @Nat) (0 : @Nat)) = (Value.slice (@Option.none @Addr) (0 : @Nat) (0 : @Nat))) ∧
  (((0 : @Int) = (0 : @Int)) ∧
  True)))))) ∧
  True)) ∧
  ((((@rowP (@SC.s x)) = (@rowP (@SC.s x))) ∧
  (@Bool.true = @Bool.true)) ∧
  ((((@rowQ (@SC.s x)) = (@rowQ (@SC.s x))) ∧
  (@Bool.true = @Bool.true)) ∧
  ((((@rowG (@SC.c x)) = (@rowG (@SC.c x))) ∧
  (@Bool.true = @Bool.true)) ∧
  True)))))) ∨ (∃ (y_3 : Unit), (True ∧
  (((True ∧
  (True ∧
  True)) ∧
  ((((0 : @Int) = (0 : @Int)) ∧
  ((@Bool.false = @Bool.false) ∧
  ((@es = @es) ∧
  (False ∧
  (((Value.slice (@Option.none @Addr) (0 : @Nat) (0 : @Nat)) = (Value.slice (@Option.none @Addr) (0 : @Nat) (0 : @Nat))) ∧
  (((0 : @Int) = (0 : @Int)) ∧
  True)))))) ∧
  True)) ∧
  ((((@rowP (@SC.s x)) = (@rowP (@SC.s x))) ∧
  (@Bool.true = @Bool.true)) ∧
  ((((@rowQ (@SC.s x)) = (@rowQ (@SC.s x))) ∧
  (@Bool.true = @Bool.true)) ∧
  ((((@rowG (@SC.c x)) = (@rowG (@SC.c x))) ∧
  (@Bool.true = @Bool.true)) ∧
  (False ∧
  True)))))))))))) ∧
  (∀ (y_2 : Unit), (True → ((((AV.agg [(AV.lit (Value.int @IntKind.i64 (0 : @Int))), (AV.lit (Value.bool @Bool.false)), (AV.lit (Value.string @es)), (AV.slW (11 : Nat) (0 : @Nat) (2 : @Nat) (@List.length @Nat (@SK2.sel (@Prod.fst @SK2 @BA x_3)))), (AV.lit (Value.slice (@Option.none @Addr) (0 : @Nat) (0 : @Nat))), (AV.lit (Value.int @IntKind.u64 (0 : @Int)))]) = (AV.agg [(AV.lit (Value.int @IntKind.i64 (0 : @Int))), (AV.lit (Value.bool @Bool.false)), (AV.lit (Value.string @es)), (AV.slW (11 : Nat) (0 : @Nat) (2 : @Nat) (@List.length @Nat (@SK2.sel (@Prod.fst @SK2 @BA x_3)))), (AV.lit (Value.slice (@Option.none @Addr) (0 : @Nat) (0 : @Nat))), (AV.lit (Value.int @IntKind.u64 (0 : @Int)))])) ∧
  True) ∧
  (True ∧
  ((∃ (y_3 : Unit), ((@Hd ((@selL (@SC.s x) (@Cll.key (@SC.c x)) (@Cll.to (@SC.c x)) (@Shf.n (@SC.s x))) = (@List.nil @Nat))) ∧
  (((True ∧
  (True ∧
  True)) ∧
  ((((0 : @Int) = (0 : @Int)) ∧
  ((@Bool.false = @Bool.false) ∧
  ((@es = @es) ∧
  (False ∧
  (((Value.slice (@Option.none @Addr) (0 : @Nat) (0 : @Nat)) = (Value.slice (@Option.none @Addr) (0 : @Nat) (0 : @Nat))) ∧
  (((0 : @Int) = (0 : @Int)) ∧
  True)))))) ∧
  True)) ∧
  ((((@rowP (@SC.s x)) = (@rowP (@SC.s x))) ∧
  (@Bool.true = @Bool.true)) ∧
  ((((@rowQ (@SC.s x)) = (@rowQ (@SC.s x))) ∧
  (@Bool.true = @Bool.true)) ∧
  ((((@rowG (@SC.c x)) = (@rowG (@SC.c x))) ∧
  (@Bool.true = @Bool.true)) ∧
  True)))))) ∨ (∃ (y_3 : Unit), (True ∧
  (((True ∧
  (True ∧
  True)) ∧
  ((((0 : @Int) = (0 : @Int)) ∧
  ((@Bool.false = @Bool.false) ∧
  ((@es = @es) ∧
  ((((0 : @Nat) = (0 : @Nat)) ∧
  ((@List.length @Nat (@selL (@SC.s x) (@Cll.key (@SC.c x)) (@Cll.to (@SC.c x)) (@Shf.n (@SC.s x)))) = (@List.length @Nat (@SK2.sel (@Prod.fst @SK2 @BA x_3))))) ∧
  (((Value.slice (@Option.none @Addr) (0 : @Nat) (0 : @Nat)) = (Value.slice (@Option.none @Addr) (0 : @Nat) (0 : @Nat))) ∧
  (((0 : @Int) = (0 : @Int)) ∧
  True)))))) ∧
  True)) ∧
  ((((@rowP (@SC.s x)) = (@rowP (@SC.s x))) ∧
  (@Bool.true = @Bool.true)) ∧
  ((((@rowQ (@SC.s x)) = (@rowQ (@SC.s x))) ∧
  (@Bool.true = @Bool.true)) ∧
  ((((@rowG (@SC.c x)) = (@rowG (@SC.c x))) ∧
  (@Bool.true = @Bool.true)) ∧
  ((((@List.length @Nat (@selL (@SC.s x) (@Cll.key (@SC.c x)) (@Cll.to (@SC.c x)) (@Shf.n (@SC.s x)))) = (@List.length @Nat (@SK2.sel (@Prod.fst @SK2 @BA x_3)))) ∧
  (∀ (q : @Nat), ((q < (@List.length @Nat (@selL (@SC.s x) (@Cll.key (@SC.c x)) (@Cll.to (@SC.c x)) (@Shf.n (@SC.s x))))) → ([(Value.string (@Shf.pk (@SC.s x) (@List.getD @Nat (@selL (@SC.s x) (@Cll.key (@SC.c x)) (@Cll.to (@SC.c x)) (@Shf.n (@SC.s x))) q (0 : @Nat)))), (Value.string (@Shf.pv (@SC.s x) (@List.getD @Nat (@selL (@SC.s x) (@Cll.key (@SC.c x)) (@Cll.to (@SC.c x)) (@Shf.n (@SC.s x))) q (0 : @Nat))))] = [(Value.string (@Shf.pk (@SK2.s (@Prod.fst @SK2 @BA x_3)) (@List.getD @Nat (@SK2.sel (@Prod.fst @SK2 @BA x_3)) q (0 : @Nat)))), (Value.string (@Shf.pv (@SK2.s (@Prod.fst @SK2 @BA x_3)) (@List.getD @Nat (@SK2.sel (@Prod.fst @SK2 @BA x_3)) q (0 : @Nat))))])))) ∧
  True))))))))))))))))))))))))))) ∧
  ((∀ (y : Unit), ((((@Shf.zp x_1) = @Bool.false) ∧
  ((@Shf.zq x_1) = @Bool.true)) → (∃ (x_2 : @Cll), ((@Hd (@Cll.small x_2)) ∧
  (((((@Cll.kind x_2) = (6 : @Int)) ∧
  (((@Cll.key x_2) = (@Cll.key (@SC.c x))) ∧
  (((@Cll.value x_2) = (@Cll.value (@SC.c x))) ∧
  (((@Cll.to x_2) = (@Cll.to (@SC.c x))) ∧
  ((((0 : @Nat) = (0 : @Nat)) ∧
  ((@Cll.gn x_2) = (@Cll.gn (@SC.c x)))) ∧
  True))))) ∧
  True) ∧
  (((((@Cll.gn x_2) = (@Cll.gn (@SC.c x))) ∧
  (∀ (q : @Nat), ((q < (@Cll.gn x_2)) → ([(Value.int @IntKind.i64 (@Mem.kind (@Cll.g x_2 q))), (Value.string (@Mem.key (@Cll.g x_2 q))), (Value.string (@Mem.value (@Cll.g x_2 q))), (Value.string (@Mem.to (@Cll.g x_2 q))), (Value.slice (@Mem.gp (@Cll.g x_2 q)) (@Mem.gn (@Cll.g x_2 q)) (@Mem.gc (@Cll.g x_2 q)))] = [(Value.int @IntKind.i64 (@Mem.kind (@Cll.g (@SC.c x) q))), (Value.string (@Mem.key (@Cll.g (@SC.c x) q))), (Value.string (@Mem.value (@Cll.g (@SC.c x) q))), (Value.string (@Mem.to (@Cll.g (@SC.c x) q))), (Value.slice (@Mem.gp (@Cll.g (@SC.c x) q)) (@Mem.gn (@Cll.g (@SC.c x) q)) (@Mem.gc (@Cll.g (@SC.c x) q)))])))) ∧
  True) ∧
  (∀ (y_1 : Unit), (True → (cP (@bne @Int (@instBEqOfDecidableEq @Int @Int.instDecidableEq) (@goodM x_2) (0 : @Int)) ((((AV.agg [(AV.lit (Value.int @IntKind.i64 (@goodM x_2))), (AV.lit (Value.bool @Bool.false)), (AV.lit (Value.string (@ByteArray.mk (@List.toArray @UInt8 (@List.nil @UInt8))))), (AV.lit (Value.slice (@Option.none @Addr) (0 : @Nat) (0 : @Nat))), (AV.lit (Value.slice (@Option.none @Addr) (0 : @Nat) (0 : @Nat))), (AV.lit (Value.int @IntKind.u64 (0 : @Int)))]) = (AV.agg [(AV.lit (Value.int @IntKind.i64 (@goodM x_2))), (AV.lit (Value.bool @Bool.false)), (AV.lit (Value.string (@ByteArray.mk (@List.toArray @UInt8 (@List.nil @UInt8))))), (AV.lit (Value.slice (@Option.none @Addr) (0 : @Nat) (0 : @Nat))), (AV.lit (Value.slice (@Option.none @Addr) (0 : @Nat) (0 : @Nat))), (AV.lit (Value.int @IntKind.u64 (0 : @Int)))])) ∧
  True) ∧
  (True ∧
  ((∃ (y_2 : Unit), ((@Hd ((@selL (@SC.s x) (@Cll.key (@SC.c x)) (@Cll.to (@SC.c x)) (@Shf.n (@SC.s x))) = (@List.nil @Nat))) ∧
  (((True ∧
  (True ∧
  True)) ∧
  ((((0 : @Int) = (@goodM x_2)) ∧
  ((@Bool.false = @Bool.false) ∧
  ((@es = (@ByteArray.mk (@List.toArray @UInt8 (@List.nil @UInt8)))) ∧
  (((Value.slice (@Option.none @Addr) (0 : @Nat) (0 : @Nat)) = (Value.slice (@Option.none @Addr) (0 : @Nat) (0 : @Nat))) ∧
  (((Value.slice (@Option.none @Addr) (0 : @Nat) (0 : @Nat)) = (Value.slice (@Option.none @Addr) (0 : @Nat) (0 : @Nat))) ∧
  (((0 : @Int) = (0 : @Int)) ∧
  True)))))) ∧
  True)) ∧
  ((((@rowP (@SC.s x)) = (@rowP (@SC.s x))) ∧
  (@Bool.true = @Bool.true)) ∧
  ((((@rowQ (@SC.s x)) = (@rowQ (@SC.s x))) ∧
  (@Bool.true = @Bool.true)) ∧
  ((((@rowG (@SC.c x)) = (@rowG (@SC.c x))) ∧
  (@Bool.true = @Bool.true)) ∧
  True)))))) ∨ (∃ (y_2 : Unit), (True ∧
  (((True ∧
  (True ∧
  True)) ∧
  ((((0 : @Int) = (@goodM x_2)) ∧
  ((@Bool.false = @Bool.false) ∧
  ((@es = (@ByteArray.mk (@List.toArray @UInt8 (@List.nil @UInt8)))) ∧
  (False ∧
  (((Value.slice (@Option.none @Addr) (0 : @Nat) (0 : @Nat)) = (Value.slice (@Option.none @Addr) (0 : @Nat) (0 : @Nat))) ∧
  (((0 : @Int) = (0 : @Int)) ∧
  True)))))) ∧
  True)) ∧
  ((((@rowP (@SC.s x)) = (@rowP (@SC.s x))) ∧
  (@Bool.true = @Bool.true)) ∧
  ((((@rowQ (@SC.s x)) = (@rowQ (@SC.s x))) ∧
  (@Bool.true = @Bool.true)) ∧
  ((((@rowG (@SC.c x)) = (@rowG (@SC.c x))) ∧
  (@Bool.true = @Bool.true)) ∧
  (False ∧
  True)))))))))) ((∃ (x_3 : (@Prod @SK2 @BA)), (True ∧
  ((((0 : @Nat) = (0 : @Nat)) ∧
  ((((6 : @Int) = (6 : @Int)) ∧
  (((@SK2.key (@Prod.fst @SK2 @BA x_3)) = (@Cll.key (@SC.c x))) ∧
  (((@Prod.snd @SK2 @BA x_3) = (@Cll.value (@SC.c x))) ∧
  (((@SK2.to (@Prod.fst @SK2 @BA x_3)) = (@Cll.to (@SC.c x))) ∧
  (True ∧
  True))))) ∧
  (((0 : @Nat) = (0 : @Nat)) ∧
  True))) ∧
  (((False ∧
  (True ∧
  True)) ∧
  ((((0 : @Int) = (@goodM x_2)) ∧
  ((@Bool.false = @Bool.false) ∧
  ((@es = (@ByteArray.mk (@List.toArray @UInt8 (@List.nil @UInt8)))) ∧
  (((Value.slice (@Option.none @Addr) (0 : @Nat) (0 : @Nat)) = (Value.slice (@Option.none @Addr) (0 : @Nat) (0 : @Nat))) ∧
  (((Value.slice (@Option.none @Addr) (0 : @Nat) (0 : @Nat)) = (Value.slice (@Option.none @Addr) (0 : @Nat) (0 : @Nat))) ∧
  (((0 : @Int) = (0 : @Int)) ∧
  True)))))) ∧
  True)) ∧
  (∀ (y_2 : Unit), (True → ((((AV.agg [(AV.lit (Value.int @IntKind.i64 (0 : @Int))), (AV.lit (Value.bool @Bool.false)), (AV.lit (Value.string @es)), (AV.lit (Value.slice (@Option.none @Addr) (0 : @Nat) (0 : @Nat))), (AV.lit (Value.slice (@Option.none @Addr) (0 : @Nat) (0 : @Nat))), (AV.lit (Value.int @IntKind.u64 (0 : @Int)))]) = (AV.agg [(AV.lit (Value.int @IntKind.i64 (0 : @Int))), (AV.lit (Value.bool @Bool.false)), (AV.lit (Value.string @es)), (AV.lit (Value.slice (@Option.none @Addr) (0 : @Nat) (0 : @Nat))), (AV.lit (Value.slice (@Option.none @Addr) (0 : @Nat) (0 : @Nat))), (AV.lit (Value.int @IntKind.u64 (0 : @Int)))])) ∧
  True) ∧
  (True ∧
  ((∃ (y_3 : Unit), ((@Hd ((@selL (@SC.s x) (@Cll.key (@SC.c x)) (@Cll.to (@SC.c x)) (@Shf.n (@SC.s x))) = (@List.nil @Nat))) ∧
  (((True ∧
  (True ∧
  True)) ∧
  ((((0 : @Int) = (0 : @Int)) ∧
  ((@Bool.false = @Bool.false) ∧
  ((@es = @es) ∧
  (((Value.slice (@Option.none @Addr) (0 : @Nat) (0 : @Nat)) = (Value.slice (@Option.none @Addr) (0 : @Nat) (0 : @Nat))) ∧
  (((Value.slice (@Option.none @Addr) (0 : @Nat) (0 : @Nat)) = (Value.slice (@Option.none @Addr) (0 : @Nat) (0 : @Nat))) ∧
  (((0 : @Int) = (0 : @Int)) ∧
  True)))))) ∧
  True)) ∧
  ((((@rowP (@SC.s x)) = (@rowP (@SC.s x))) ∧
  (@Bool.true = @Bool.true)) ∧
  ((((@rowQ (@SC.s x)) = (@rowQ (@SC.s x))) ∧
  (@Bool.true = @Bool.true)) ∧
  ((((@rowG (@SC.c x)) = (@rowG (@SC.c x))) ∧
  (@Bool.true = @Bool.true)) ∧
  True)))))) ∨ (∃ (y_3 : Unit), (True ∧
  (((True ∧
  (True ∧
  True)) ∧
  ((((0 : @Int) = (0 : @Int)) ∧
  ((@Bool.false = @Bool.false) ∧
  ((@es = @es) ∧
  (False ∧
  (((Value.slice (@Option.none @Addr) (0 : @Nat) (0 : @Nat)) = (Value.slice (@Option.none @Addr) (0 : @Nat) (0 : @Nat))) ∧
  (((0 : @Int) = (0 : @Int)) ∧
  True)))))) ∧
  True)) ∧
  ((((@rowP (@SC.s x)) = (@rowP (@SC.s x))) ∧
  (@Bool.true = @Bool.true)) ∧
  ((((@rowQ (@SC.s x)) = (@rowQ (@SC.s x))) ∧
  (@Bool.true = @Bool.true)) ∧
  ((((@rowG (@SC.c x)) = (@rowG (@SC.c x))) ∧
  (@Bool.true = @Bool.true)) ∧
  (False ∧
  True)))))))))))))))) ∨ (∃ (x_3 : (@Prod @SK2 @BA)), ((@Hd (@SK2.ok (@Prod.fst @SK2 @BA x_3))) ∧
  ((((0 : @Nat) = (0 : @Nat)) ∧
  ((((6 : @Int) = (6 : @Int)) ∧
  (((@SK2.key (@Prod.fst @SK2 @BA x_3)) = (@Cll.key (@SC.c x))) ∧
  (((@Prod.snd @SK2 @BA x_3) = (@Cll.value (@SC.c x))) ∧
  (((@SK2.to (@Prod.fst @SK2 @BA x_3)) = (@Cll.to (@SC.c x))) ∧
  (True ∧
  True))))) ∧
  (((0 : @Nat) = (0 : @Nat)) ∧
  True))) ∧
  ((((((0 : @Nat) = (0 : @Nat)) ∧
  ((@Shf.n (@SK2.s (@Prod.fst @SK2 @BA x_3))) = (@Shf.n x_1))) ∧
  (True ∧
  True)) ∧
  ((((0 : @Int) = (@goodM x_2)) ∧
  ((@Bool.false = @Bool.false) ∧
  ((@es = (@ByteArray.mk (@List.toArray @UInt8 (@List.nil @UInt8)))) ∧
  (((Value.slice (@Option.none @Addr) (0 : @Nat) (0 : @Nat)) = (Value.slice (@Option.none @Addr) (0 : @Nat) (0 : @Nat))) ∧
  (((Value.slice (@Option.none @Addr) (0 : @Nat) (0 : @Nat)) = (Value.slice (@Option.none @Addr) (0 : @Nat) (0 : @Nat))) ∧
  (((0 : @Int) = (0 : @Int)) ∧
  True)))))) ∧
  ((((@Shf.n (@SK2.s (@Prod.fst @SK2 @BA x_3))) = (@Shf.n x_1)) ∧
  (∀ (q : @Nat), ((q < (@Shf.n (@SK2.s (@Prod.fst @SK2 @BA x_3)))) → ([(Value.string (@Shf.pk (@SK2.s (@Prod.fst @SK2 @BA x_3)) q)), (Value.string (@Shf.pv (@SK2.s (@Prod.fst @SK2 @BA x_3)) q))] = [(Value.string (@Shf.pk x_1 q)), (Value.string (@Shf.pv x_1 q))])))) ∧
  True))) ∧
  ((∀ (y_2 : Unit), ((@Hd ((@SK2.sel (@Prod.fst @SK2 @BA x_3)) = (@List.nil @Nat))) → ((((AV.agg [(AV.lit (Value.int @IntKind.i64 (0 : @Int))), (AV.lit (Value.bool @Bool.false)), (AV.lit (Value.string @es)), (AV.lit (Value.slice (@Option.none @Addr) (0 : @Nat) (0 : @Nat))), (AV.lit (Value.slice (@Option.none @Addr) (0 : @Nat) (0 : @Nat))), (AV.lit (Value.int @IntKind.u64 (0 : @Int)))]) = (AV.agg [(AV.lit (Value.int @IntKind.i64 (0 : @Int))), (AV.lit (Value.bool @Bool.false)), (AV.lit (Value.string @es)), (AV.lit (Value.slice (@Option.none @Addr) (0 : @Nat) (0 : @Nat))), (AV.lit (Value.slice (@Option.none @Addr) (0 : @Nat) (0 : @Nat))), (AV.lit (Value.int @IntKind.u64 (0 : @Int)))])) ∧
  True) ∧
  (True ∧
  ((∃ (y_3 : Unit), ((@Hd ((@selL (@SC.s x) (@Cll.key (@SC.c x)) (@Cll.to (@SC.c x)) (@Shf.n (@SC.s x))) = (@List.nil @Nat))) ∧
  (((True ∧
  (True ∧
  True)) ∧
  ((((0 : @Int) = (0 : @Int)) ∧
  ((@Bool.false = @Bool.false) ∧
  ((@es = @es) ∧
  (((Value.slice (@Option.none @Addr) (0 : @Nat) (0 : @Nat)) = (Value.slice (@Option.none @Addr) (0 : @Nat) (0 : @Nat))) ∧
  (((Value.slice (@Option.none @Addr) (0 : @Nat) (0 : @Nat)) = (Value.slice (@Option.none @Addr) (0 : @Nat) (0 : @Nat))) ∧
  (((0 : @Int) = (0 : @Int)) ∧
  True)))))) ∧
  True)) ∧
  ((((@rowP (@SC.s x)) = (@rowP (@SC.s x))) ∧
  (@Bool.true = @Bool.true)) ∧
  ((((@rowQ (@SC.s x)) = (@rowQ (@SC.s x))) ∧
  (@Bool.true = @Bool.true)) ∧
  ((((@rowG (@SC.c x)) = (@rowG (@SC.c x))) ∧
  (@Bool.true = @Bool.true)) ∧
  True)))))) ∨ (∃ (y_3 : Unit), (True ∧
  (((True ∧
  (True ∧
  True)) ∧
  ((((0 : @Int) = (0 : @Int)) ∧
  ((@Bool.false = @Bool.false) ∧
  ((@es = @es) ∧
  (False ∧
  (((Value.slice (@Option.none @Addr) (0 : @Nat) (0 : @Nat)) = (Value.slice (@Option.none @Addr) (0 : @Nat) (0 : @Nat))) ∧
  (((0 : @Int) = (0 : @Int)) ∧
  True)))))) ∧
  True)) ∧
  ((((@rowP (@SC.s x)) = (@rowP (@SC.s x))) ∧
  (@Bool.true = @Bool.true)) ∧
  ((((@rowQ (@SC.s x)) = (@rowQ (@SC.s x))) ∧
  (@Bool.true = @Bool.true)) ∧
  ((((@rowG (@SC.c x)) = (@rowG (@SC.c x))) ∧
  (@Bool.true = @Bool.true)) ∧
  (False ∧
  True)))))))))))) ∧
  (∀ (y_2 : Unit), (True → ((((AV.agg [(AV.lit (Value.int @IntKind.i64 (0 : @Int))), (AV.lit (Value.bool @Bool.false)), (AV.lit (Value.string @es)), (AV.slW (11 : Nat) (0 : @Nat) (2 : @Nat) (@List.length @Nat (@SK2.sel (@Prod.fst @SK2 @BA x_3)))), (AV.lit (Value.slice (@Option.none @Addr) (0 : @Nat) (0 : @Nat))), (AV.lit (Value.int @IntKind.u64 (0 : @Int)))]) = (AV.agg [(AV.lit (Value.int @IntKind.i64 (0 : @Int))), (AV.lit (Value.bool @Bool.false)), (AV.lit (Value.string @es)), (AV.slW (11 : Nat) (0 : @Nat) (2 : @Nat) (@List.length @Nat (@SK2.sel (@Prod.fst @SK2 @BA x_3)))), (AV.lit (Value.slice (@Option.none @Addr) (0 : @Nat) (0 : @Nat))), (AV.lit (Value.int @IntKind.u64 (0 : @Int)))])) ∧
  True) ∧
  (True ∧
  ((∃ (y_3 : Unit), ((@Hd ((@selL (@SC.s x) (@Cll.key (@SC.c x)) (@Cll.to (@SC.c x)) (@Shf.n (@SC.s x))) = (@List.nil @Nat))) ∧
  (((True ∧
  (True ∧
  True)) ∧
  ((((0 : @Int) = (0 : @Int)) ∧
  ((@Bool.false = @Bool.false) ∧
  ((@es = @es) ∧
  (False ∧
  (((Value.slice (@Option.none @Addr) (0 : @Nat) (0 : @Nat)) = (Value.slice (@Option.none @Addr) (0 : @Nat) (0 : @Nat))) ∧
  (((0 : @Int) = (0 : @Int)) ∧
  True)))))) ∧
  True)) ∧
  ((((@rowP (@SC.s x)) = (@rowP (@SC.s x))) ∧
  (@Bool.true = @Bool.true)) ∧
  ((((@rowQ (@SC.s x)) = (@rowQ (@SC.s x))) ∧
  (@Bool.true = @Bool.true)) ∧
  ((((@rowG (@SC.c x)) = (@rowG (@SC.c x))) ∧
  (@Bool.true = @Bool.true)) ∧
  True)))))) ∨ (∃ (y_3 : Unit), (True ∧
  (((True ∧
  (True ∧
  True)) ∧
  ((((0 : @Int) = (0 : @Int)) ∧
  ((@Bool.false = @Bool.false) ∧
  ((@es = @es) ∧
  ((((0 : @Nat) = (0 : @Nat)) ∧
  ((@List.length @Nat (@selL (@SC.s x) (@Cll.key (@SC.c x)) (@Cll.to (@SC.c x)) (@Shf.n (@SC.s x)))) = (@List.length @Nat (@SK2.sel (@Prod.fst @SK2 @BA x_3))))) ∧
  (((Value.slice (@Option.none @Addr) (0 : @Nat) (0 : @Nat)) = (Value.slice (@Option.none @Addr) (0 : @Nat) (0 : @Nat))) ∧
  (((0 : @Int) = (0 : @Int)) ∧
  True)))))) ∧
  True)) ∧
  ((((@rowP (@SC.s x)) = (@rowP (@SC.s x))) ∧
  (@Bool.true = @Bool.true)) ∧
  ((((@rowQ (@SC.s x)) = (@rowQ (@SC.s x))) ∧
  (@Bool.true = @Bool.true)) ∧
  ((((@rowG (@SC.c x)) = (@rowG (@SC.c x))) ∧
  (@Bool.true = @Bool.true)) ∧
  ((((@List.length @Nat (@selL (@SC.s x) (@Cll.key (@SC.c x)) (@Cll.to (@SC.c x)) (@Shf.n (@SC.s x)))) = (@List.length @Nat (@SK2.sel (@Prod.fst @SK2 @BA x_3)))) ∧
  (∀ (q : @Nat), ((q < (@List.length @Nat (@selL (@SC.s x) (@Cll.key (@SC.c x)) (@Cll.to (@SC.c x)) (@Shf.n (@SC.s x))))) → ([(Value.string (@Shf.pk (@SC.s x) (@List.getD @Nat (@selL (@SC.s x) (@Cll.key (@SC.c x)) (@Cll.to (@SC.c x)) (@Shf.n (@SC.s x))) q (0 : @Nat)))), (Value.string (@Shf.pv (@SC.s x) (@List.getD @Nat (@selL (@SC.s x) (@Cll.key (@SC.c x)) (@Cll.to (@SC.c x)) (@Shf.n (@SC.s x))) q (0 : @Nat))))] = [(Value.string (@Shf.pk (@SK2.s (@Prod.fst @SK2 @BA x_3)) (@List.getD @Nat (@SK2.sel (@Prod.fst @SK2 @BA x_3)) q (0 : @Nat)))), (Value.string (@Shf.pv (@SK2.s (@Prod.fst @SK2 @BA x_3)) (@List.getD @Nat (@SK2.sel (@Prod.fst @SK2 @BA x_3)) q (0 : @Nat))))])))) ∧
  True))))))))))))))))))))))))))) ∧
  (∀ (y : Unit), ((((@Shf.zp x_1) = @Bool.false) ∧
  ((@Shf.zq x_1) = @Bool.false)) → (∃ (x_2 : @Cll), ((@Hd (@Cll.small x_2)) ∧
  (((((@Cll.kind x_2) = (6 : @Int)) ∧
  (((@Cll.key x_2) = (@Cll.key (@SC.c x))) ∧
  (((@Cll.value x_2) = (@Cll.value (@SC.c x))) ∧
  (((@Cll.to x_2) = (@Cll.to (@SC.c x))) ∧
  ((((0 : @Nat) = (0 : @Nat)) ∧
  ((@Cll.gn x_2) = (@Cll.gn (@SC.c x)))) ∧
  True))))) ∧
  True) ∧
  (((((@Cll.gn x_2) = (@Cll.gn (@SC.c x))) ∧
  (∀ (q : @Nat), ((q < (@Cll.gn x_2)) → ([(Value.int @IntKind.i64 (@Mem.kind (@Cll.g x_2 q))), (Value.string (@Mem.key (@Cll.g x_2 q))), (Value.string (@Mem.value (@Cll.g x_2 q))), (Value.string (@Mem.to (@Cll.g x_2 q))), (Value.slice (@Mem.gp (@Cll.g x_2 q)) (@Mem.gn (@Cll.g x_2 q)) (@Mem.gc (@Cll.g x_2 q)))] = [(Value.int @IntKind.i64 (@Mem.kind (@Cll.g (@SC.c x) q))), (Value.string (@Mem.key (@Cll.g (@SC.c x) q))), (Value.string (@Mem.value (@Cll.g (@SC.c x) q))), (Value.string (@Mem.to (@Cll.g (@SC.c x) q))), (Value.slice (@Mem.gp (@Cll.g (@SC.c x) q)) (@Mem.gn (@Cll.g (@SC.c x) q)) (@Mem.gc (@Cll.g (@SC.c x) q)))])))) ∧
  True) ∧
  (∀ (y_1 : Unit), (True → (cP (@bne @Int (@instBEqOfDecidableEq @Int @Int.instDecidableEq) (@goodM x_2) (0 : @Int)) ((((AV.agg [(AV.lit (Value.int @IntKind.i64 (@goodM x_2))), (AV.lit (Value.bool @Bool.false)), (AV.lit (Value.string (@ByteArray.mk (@List.toArray @UInt8 (@List.nil @UInt8))))), (AV.lit (Value.slice (@Option.none @Addr) (0 : @Nat) (0 : @Nat))), (AV.lit (Value.slice (@Option.none @Addr) (0 : @Nat) (0 : @Nat))), (AV.lit (Value.int @IntKind.u64 (0 : @Int)))]) = (AV.agg [(AV.lit (Value.int @IntKind.i64 (@goodM x_2))), (AV.lit (Value.bool @Bool.false)), (AV.lit (Value.string (@ByteArray.mk (@List.toArray @UInt8 (@List.nil @UInt8))))), (AV.lit (Value.slice (@Option.none @Addr) (0 : @Nat) (0 : @Nat))), (AV.lit (Value.slice (@Option.none @Addr) (0 : @Nat) (0 : @Nat))), (AV.lit (Value.int @IntKind.u64 (0 : @Int)))])) ∧
  True) ∧
  (True ∧
  ((∃ (y_2 : Unit), ((@Hd ((@selL (@SC.s x) (@Cll.key (@SC.c x)) (@Cll.to (@SC.c x)) (@Shf.n (@SC.s x))) = (@List.nil @Nat))) ∧
  (((True ∧
  (True ∧
  True)) ∧
  ((((0 : @Int) = (@goodM x_2)) ∧
  ((@Bool.false = @Bool.false) ∧
  ((@es = (@ByteArray.mk (@List.toArray @UInt8 (@List.nil @UInt8)))) ∧
  (((Value.slice (@Option.none @Addr) (0 : @Nat) (0 : @Nat)) = (Value.slice (@Option.none @Addr) (0 : @Nat) (0 : @Nat))) ∧
  (((Value.slice (@Option.none @Addr) (0 : @Nat) (0 : @Nat)) = (Value.slice (@Option.none @Addr) (0 : @Nat) (0 : @Nat))) ∧
  (((0 : @Int) = (0 : @Int)) ∧
  True)))))) ∧
  True)) ∧
  ((((@rowP (@SC.s x)) = (@rowP (@SC.s x))) ∧
  (@Bool.true = @Bool.true)) ∧
  ((((@rowQ (@SC.s x)) = (@rowQ (@SC.s x))) ∧
  (@Bool.true = @Bool.true)) ∧
  ((((@rowG (@SC.c x)) = (@rowG (@SC.c x))) ∧
  (@Bool.true = @Bool.true)) ∧
  True)))))) ∨ (∃ (y_2 : Unit), (True ∧
  (((True ∧
  (True ∧
  True)) ∧
  ((((0 : @Int) = (@goodM x_2)) ∧
  ((@Bool.false = @Bool.false) ∧
  ((@es = (@ByteArray.mk (@List.toArray @UInt8 (@List.nil @UInt8)))) ∧
  (False ∧
  (((Value.slice (@Option.none @Addr) (0 : @Nat) (0 : @Nat)) = (Value.slice (@Option.none @Addr) (0 : @Nat) (0 : @Nat))) ∧
  (((0 : @Int) = (0 : @Int)) ∧
  True)))))) ∧
  True)) ∧
  ((((@rowP (@SC.s x)) = (@rowP (@SC.s x))) ∧
  (@Bool.true = @Bool.true)) ∧
  ((((@rowQ (@SC.s x)) = (@rowQ (@SC.s x))) ∧
  (@Bool.true = @Bool.true)) ∧
  ((((@rowG (@SC.c x)) = (@rowG (@SC.c x))) ∧
  (@Bool.true = @Bool.true)) ∧
  (False ∧
  True)))))))))) ((∃ (x_3 : (@Prod @SK2 @BA)), (True ∧
  ((((0 : @Nat) = (0 : @Nat)) ∧
  ((((6 : @Int) = (6 : @Int)) ∧
  (((@SK2.key (@Prod.fst @SK2 @BA x_3)) = (@Cll.key (@SC.c x))) ∧
  (((@Prod.snd @SK2 @BA x_3) = (@Cll.value (@SC.c x))) ∧
  (((@SK2.to (@Prod.fst @SK2 @BA x_3)) = (@Cll.to (@SC.c x))) ∧
  (True ∧
  True))))) ∧
  (((0 : @Nat) = (0 : @Nat)) ∧
  True))) ∧
  (((False ∧
  (True ∧
  True)) ∧
  ((((0 : @Int) = (@goodM x_2)) ∧
  ((@Bool.false = @Bool.false) ∧
  ((@es = (@ByteArray.mk (@List.toArray @UInt8 (@List.nil @UInt8)))) ∧
  (((Value.slice (@Option.none @Addr) (0 : @Nat) (0 : @Nat)) = (Value.slice (@Option.none @Addr) (0 : @Nat) (0 : @Nat))) ∧
  (((Value.slice (@Option.none @Addr) (0 : @Nat) (0 : @Nat)) = (Value.slice (@Option.none @Addr) (0 : @Nat) (0 : @Nat))) ∧
  (((0 : @Int) = (0 : @Int)) ∧
  True)))))) ∧
  True)) ∧
  (∀ (y_2 : Unit), (True → ((((AV.agg [(AV.lit (Value.int @IntKind.i64 (0 : @Int))), (AV.lit (Value.bool @Bool.false)), (AV.lit (Value.string @es)), (AV.lit (Value.slice (@Option.none @Addr) (0 : @Nat) (0 : @Nat))), (AV.lit (Value.slice (@Option.none @Addr) (0 : @Nat) (0 : @Nat))), (AV.lit (Value.int @IntKind.u64 (0 : @Int)))]) = (AV.agg [(AV.lit (Value.int @IntKind.i64 (0 : @Int))), (AV.lit (Value.bool @Bool.false)), (AV.lit (Value.string @es)), (AV.lit (Value.slice (@Option.none @Addr) (0 : @Nat) (0 : @Nat))), (AV.lit (Value.slice (@Option.none @Addr) (0 : @Nat) (0 : @Nat))), (AV.lit (Value.int @IntKind.u64 (0 : @Int)))])) ∧
  True) ∧
  (True ∧
  ((∃ (y_3 : Unit), ((@Hd ((@selL (@SC.s x) (@Cll.key (@SC.c x)) (@Cll.to (@SC.c x)) (@Shf.n (@SC.s x))) = (@List.nil @Nat))) ∧
  (((True ∧
  (True ∧
  True)) ∧
  ((((0 : @Int) = (0 : @Int)) ∧
  ((@Bool.false = @Bool.false) ∧
  ((@es = @es) ∧
  (((Value.slice (@Option.none @Addr) (0 : @Nat) (0 : @Nat)) = (Value.slice (@Option.none @Addr) (0 : @Nat) (0 : @Nat))) ∧
  (((Value.slice (@Option.none @Addr) (0 : @Nat) (0 : @Nat)) = (Value.slice (@Option.none @Addr) (0 : @Nat) (0 : @Nat))) ∧
  (((0 : @Int) = (0 : @Int)) ∧
  True)))))) ∧
  True)) ∧
  ((((@rowP (@SC.s x)) = (@rowP (@SC.s x))) ∧
  (@Bool.true = @Bool.true)) ∧
  ((((@rowQ (@SC.s x)) = (@rowQ (@SC.s x))) ∧
  (@Bool.true = @Bool.true)) ∧
  ((((@rowG (@SC.c x)) = (@rowG (@SC.c x))) ∧
  (@Bool.true = @Bool.true)) ∧
  True)))))) ∨ (∃ (y_3 : Unit), (True ∧
  (((True ∧
  (True ∧
  True)) ∧
  ((((0 : @Int) = (0 : @Int)) ∧
  ((@Bool.false = @Bool.false) ∧
  ((@es = @es) ∧
  (False ∧
  (((Value.slice (@Option.none @Addr) (0 : @Nat) (0 : @Nat)) = (Value.slice (@Option.none @Addr) (0 : @Nat) (0 : @Nat))) ∧
  (((0 : @Int) = (0 : @Int)) ∧
  True)))))) ∧
  True)) ∧
  ((((@rowP (@SC.s x)) = (@rowP (@SC.s x))) ∧
  (@Bool.true = @Bool.true)) ∧
  ((((@rowQ (@SC.s x)) = (@rowQ (@SC.s x))) ∧
  (@Bool.true = @Bool.true)) ∧
  ((((@rowG (@SC.c x)) = (@rowG (@SC.c x))) ∧
  (@Bool.true = @Bool.true)) ∧
  (False ∧
  True)))))))))))))))) ∨ (∃ (x_3 : (@Prod @SK2 @BA)), ((@Hd (@SK2.ok (@Prod.fst @SK2 @BA x_3))) ∧
  ((((0 : @Nat) = (0 : @Nat)) ∧
  ((((6 : @Int) = (6 : @Int)) ∧
  (((@SK2.key (@Prod.fst @SK2 @BA x_3)) = (@Cll.key (@SC.c x))) ∧
  (((@Prod.snd @SK2 @BA x_3) = (@Cll.value (@SC.c x))) ∧
  (((@SK2.to (@Prod.fst @SK2 @BA x_3)) = (@Cll.to (@SC.c x))) ∧
  (True ∧
  True))))) ∧
  (((0 : @Nat) = (0 : @Nat)) ∧
  True))) ∧
  ((((((0 : @Nat) = (0 : @Nat)) ∧
  ((@Shf.n (@SK2.s (@Prod.fst @SK2 @BA x_3))) = (@Shf.n x_1))) ∧
  (True ∧
  True)) ∧
  ((((0 : @Int) = (@goodM x_2)) ∧
  ((@Bool.false = @Bool.false) ∧
  ((@es = (@ByteArray.mk (@List.toArray @UInt8 (@List.nil @UInt8)))) ∧
  (((Value.slice (@Option.none @Addr) (0 : @Nat) (0 : @Nat)) = (Value.slice (@Option.none @Addr) (0 : @Nat) (0 : @Nat))) ∧
  (((Value.slice (@Option.none @Addr) (0 : @Nat) (0 : @Nat)) = (Value.slice (@Option.none @Addr) (0 : @Nat) (0 : @Nat))) ∧
  (((0 : @Int) = (0 : @Int)) ∧
  True)))))) ∧
  ((((@Shf.n (@SK2.s (@Prod.fst @SK2 @BA x_3))) = (@Shf.n x_1)) ∧
  (∀ (q : @Nat), ((q < (@Shf.n (@SK2.s (@Prod.fst @SK2 @BA x_3)))) → ([(Value.string (@Shf.pk (@SK2.s (@Prod.fst @SK2 @BA x_3)) q)), (Value.string (@Shf.pv (@SK2.s (@Prod.fst @SK2 @BA x_3)) q))] = [(Value.string (@Shf.pk x_1 q)), (Value.string (@Shf.pv x_1 q))])))) ∧
  True))) ∧
  ((∀ (y_2 : Unit), ((@Hd ((@SK2.sel (@Prod.fst @SK2 @BA x_3)) = (@List.nil @Nat))) → ((((AV.agg [(AV.lit (Value.int @IntKind.i64 (0 : @Int))), (AV.lit (Value.bool @Bool.false)), (AV.lit (Value.string @es)), (AV.lit (Value.slice (@Option.none @Addr) (0 : @Nat) (0 : @Nat))), (AV.lit (Value.slice (@Option.none @Addr) (0 : @Nat) (0 : @Nat))), (AV.lit (Value.int @IntKind.u64 (0 : @Int)))]) = (AV.agg [(AV.lit (Value.int @IntKind.i64 (0 : @Int))), (AV.lit (Value.bool @Bool.false)), (AV.lit (Value.string @es)), (AV.lit (Value.slice (@Option.none @Addr) (0 : @Nat) (0 : @Nat))), (AV.lit (Value.slice (@Option.none @Addr) (0 : @Nat) (0 : @Nat))), (AV.lit (Value.int @IntKind.u64 (0 : @Int)))])) ∧
  True) ∧
  (True ∧
  ((∃ (y_3 : Unit), ((@Hd ((@selL (@SC.s x) (@Cll.key (@SC.c x)) (@Cll.to (@SC.c x)) (@Shf.n (@SC.s x))) = (@List.nil @Nat))) ∧
  (((True ∧
  (True ∧
  True)) ∧
  ((((0 : @Int) = (0 : @Int)) ∧
  ((@Bool.false = @Bool.false) ∧
  ((@es = @es) ∧
  (((Value.slice (@Option.none @Addr) (0 : @Nat) (0 : @Nat)) = (Value.slice (@Option.none @Addr) (0 : @Nat) (0 : @Nat))) ∧
  (((Value.slice (@Option.none @Addr) (0 : @Nat) (0 : @Nat)) = (Value.slice (@Option.none @Addr) (0 : @Nat) (0 : @Nat))) ∧
  (((0 : @Int) = (0 : @Int)) ∧
  True)))))) ∧
  True)) ∧
  ((((@rowP (@SC.s x)) = (@rowP (@SC.s x))) ∧
  (@Bool.true = @Bool.true)) ∧
  ((((@rowQ (@SC.s x)) = (@rowQ (@SC.s x))) ∧
  (@Bool.true = @Bool.true)) ∧
  ((((@rowG (@SC.c x)) = (@rowG (@SC.c x))) ∧
  (@Bool.true = @Bool.true)) ∧
  True)))))) ∨ (∃ (y_3 : Unit), (True ∧
  (((True ∧
  (True ∧
  True)) ∧
  ((((0 : @Int) = (0 : @Int)) ∧
  ((@Bool.false = @Bool.false) ∧
  ((@es = @es) ∧
  (False ∧
  (((Value.slice (@Option.none @Addr) (0 : @Nat) (0 : @Nat)) = (Value.slice (@Option.none @Addr) (0 : @Nat) (0 : @Nat))) ∧
  (((0 : @Int) = (0 : @Int)) ∧
  True)))))) ∧
  True)) ∧
  ((((@rowP (@SC.s x)) = (@rowP (@SC.s x))) ∧
  (@Bool.true = @Bool.true)) ∧
  ((((@rowQ (@SC.s x)) = (@rowQ (@SC.s x))) ∧
  (@Bool.true = @Bool.true)) ∧
  ((((@rowG (@SC.c x)) = (@rowG (@SC.c x))) ∧
  (@Bool.true = @Bool.true)) ∧
  (False ∧
  True)))))))))))) ∧
  (∀ (y_2 : Unit), (True → ((((AV.agg [(AV.lit (Value.int @IntKind.i64 (0 : @Int))), (AV.lit (Value.bool @Bool.false)), (AV.lit (Value.string @es)), (AV.slW (12 : Nat) (0 : @Nat) (2 : @Nat) (@List.length @Nat (@SK2.sel (@Prod.fst @SK2 @BA x_3)))), (AV.lit (Value.slice (@Option.none @Addr) (0 : @Nat) (0 : @Nat))), (AV.lit (Value.int @IntKind.u64 (0 : @Int)))]) = (AV.agg [(AV.lit (Value.int @IntKind.i64 (0 : @Int))), (AV.lit (Value.bool @Bool.false)), (AV.lit (Value.string @es)), (AV.slW (12 : Nat) (0 : @Nat) (2 : @Nat) (@List.length @Nat (@SK2.sel (@Prod.fst @SK2 @BA x_3)))), (AV.lit (Value.slice (@Option.none @Addr) (0 : @Nat) (0 : @Nat))), (AV.lit (Value.int @IntKind.u64 (0 : @Int)))])) ∧
  True) ∧
  (True ∧
  ((∃ (y_3 : Unit), ((@Hd ((@selL (@SC.s x) (@Cll.key (@SC.c x)) (@Cll.to (@SC.c x)) (@Shf.n (@SC.s x))) = (@List.nil @Nat))) ∧
  (((True ∧
  (True ∧
  True)) ∧
  ((((0 : @Int) = (0 : @Int)) ∧
  ((@Bool.false = @Bool.false) ∧
  ((@es = @es) ∧
  (False ∧
  (((Value.slice (@Option.none @Addr) (0 : @Nat) (0 : @Nat)) = (Value.slice (@Option.none @Addr) (0 : @Nat) (0 : @Nat))) ∧
  (((0 : @Int) = (0 : @Int)) ∧
  True)))))) ∧
  True)) ∧
  ((((@rowP (@SC.s x)) = (@rowP (@SC.s x))) ∧
  (@Bool.true = @Bool.true)) ∧
  ((((@rowQ (@SC.s x)) = (@rowQ (@SC.s x))) ∧
  (@Bool.true = @Bool.true)) ∧
  ((((@rowG (@SC.c x)) = (@rowG (@SC.c x))) ∧
  (@Bool.true = @Bool.true)) ∧
  True)))))) ∨ (∃ (y_3 : Unit), (True ∧
  (((True ∧
  (True ∧
  True)) ∧
  ((((0 : @Int) = (0 : @Int)) ∧
  ((@Bool.false = @Bool.false) ∧
  ((@es = @es) ∧
  ((((0 : @Nat) = (0 : @Nat)) ∧
  ((@List.length @Nat (@selL (@SC.s x) (@Cll.key (@SC.c x)) (@Cll.to (@SC.c x)) (@Shf.n (@SC.s x)))) = (@List.length @Nat (@SK2.sel (@Prod.fst @SK2 @BA x_3))))) ∧
  (((Value.slice (@Option.none @Addr) (0 : @Nat) (0 : @Nat)) = (Value.slice (@Option.none @Addr) (0 : @Nat) (0 : @Nat))) ∧
  (((0 : @Int) = (0 : @Int)) ∧
  True)))))) ∧
  True)) ∧
  ((((@rowP (@SC.s x)) = (@rowP (@SC.s x))) ∧
  (@Bool.true = @Bool.true)) ∧
  ((((@rowQ (@SC.s x)) = (@rowQ (@SC.s x))) ∧
  (@Bool.true = @Bool.true)) ∧
  ((((@rowG (@SC.c x)) = (@rowG (@SC.c x))) ∧
  (@Bool.true = @Bool.true)) ∧
  ((((@List.length @Nat (@selL (@SC.s x) (@Cll.key (@SC.c x)) (@Cll.to (@SC.c x)) (@Shf.n (@SC.s x)))) = (@List.length @Nat (@SK2.sel (@Prod.fst @SK2 @BA x_3)))) ∧
  (∀ (q : @Nat), ((q < (@List.length @Nat (@selL (@SC.s x) (@Cll.key (@SC.c x)) (@Cll.to (@SC.c x)) (@Shf.n (@SC.s x))))) → ([(Value.string (@Shf.pk (@SC.s x) (@List.getD @Nat (@selL (@SC.s x) (@Cll.key (@SC.c x)) (@Cll.to (@SC.c x)) (@Shf.n (@SC.s x))) q (0 : @Nat)))), (Value.string (@Shf.pv (@SC.s x) (@List.getD @Nat (@selL (@SC.s x) (@Cll.key (@SC.c x)) (@Cll.to (@SC.c x)) (@Shf.n (@SC.s x))) q (0 : @Nat))))] = [(Value.string (@Shf.pk (@SK2.s (@Prod.fst @SK2 @BA x_3)) (@List.getD @Nat (@SK2.sel (@Prod.fst @SK2 @BA x_3)) q (0 : @Nat)))), (Value.string (@Shf.pv (@SK2.s (@Prod.fst @SK2 @BA x_3)) (@List.getD @Nat (@SK2.sel (@Prod.fst @SK2 @BA x_3)) q (0 : @Nat))))])))) ∧
  True))))))))))))))))))))))))))))))))))
theorem applyScanVC_ok (x : SC) : applyScanVC x = applyScanVC_wp x := by kernel_rfl
end Go.Proofs.Ytjndgegfonhhfaa
end
section
/- A range by the abstract store: what is asked is so. -/
namespace Go.Proofs.Ytjndgegfonhhfaa
open Go SE
theorem applyScanVC_true (x : SC) (hx : x.ok ∧ x.c.kind = 6 ∧ goodM x.c = 0) : applyScanVC x := by
  unfold applyScanVC
  simp only [hd_iff, and_true, true_and, Nat.zero_add, Nat.add_zero, unit_ex, unit_all, true_implies, implies_true, Int.toNat_natCast, eq_self, and_self]
  obtain ⟨⟨hs, hw, hc⟩, h6, hg⟩ := hx
  have nb : (goodM x.c != 0) = false := by rw [hg]; rfl
  have none : x.s.zp = true → selL x.s x.c.key x.c.to x.s.n = [] := fun h => by rw [hw.1 h]; rfl
  have hk : SK2.ok ⟨x.s, x.c.key, x.c.to⟩ := ⟨hs, hc.1, hc.2.2.1⟩
  refine ⟨x.s, hs, ⟨⟨rfl, rfl⟩, rfl, rfl⟩, ⟨⟨rfl, fun _ _ => rfl⟩, rfl, fun _ _ => rfl⟩, fun ⟨hp, _⟩ => ?_, fun ⟨hp, _⟩ => ?_, fun ⟨hp, _⟩ => ?_, fun ⟨hp, _⟩ => ?_⟩
  all_goals
    refine ⟨x.c, hc, ⟨h6, rfl, rfl, rfl, rfl⟩, ⟨rfl, fun _ _ => rfl⟩, cP_intro (fun h => by rw [nb] at h; cases h) (fun _ => ?_)⟩
    first
      | exact .inl ⟨(⟨x.s, x.c.key, x.c.to⟩, x.c.value), ⟨rfl, rfl, rfl⟩, ⟨hg.symm, rfl⟩, .inl (none hp)⟩
      | exact .inr ⟨(⟨x.s, x.c.key, x.c.to⟩, x.c.value), hk, ⟨rfl, rfl, rfl⟩, ⟨rfl, ⟨hg.symm, rfl⟩, rfl, fun _ _ => rfl⟩, fun h => .inl h, .inr ⟨rfl, rfl, fun _ _ => rfl⟩⟩
theorem applyScan_ok : CtrOk Try.prog 18 applyScanC := ctr_endL tt_ok mixed (.cons (ctrT_ok good_ok) (.cons (ctrT_ok copied_ok) (.cons (orElseT_ok (ctrT_ok scanN_ok) (ctrT_ok scan_ok)) .nil))) (C := applyScanC) (fun _ => noAn) 200 7 (fun _ => rfl) (fun _ => ⟨fun _ => rfl, fun _ => rfl, trivial⟩) fun x hx => Eq.mp (applyScanVC_ok x) (applyScanVC_true x (hd_iff.1 hx))
end Go.Proofs.Ytjndgegfonhhfaa
end
section
/- What a call costs: contracts. -/
namespace Go.Proofs.Ytjndgegfonhhfaa
open Go SE
noncomputable section
def rscanC : Ctr := det SP (fun x => [x.s.av 0 1, x.av]) 2 (fun x => x.s.os) (fun x => Hd (x.s.small ∧ x.key.size ≤ 1500)) (fun x => i64 (scanTo x.s x.key x.to (3 + seekM x.s x.key) x.s.n)) 2 (fun x => x.s.os)
def anRScan (x : SP) : FuncId → Anns := loopN 50 0 (fun i => [(6, i64 i), (5, i64 (scanTo x.s x.key x.to (3 + seekM x.s x.key) i))]) (fun _ => True) x.s.n
def callC : Ctr := det SC (fun x => [x.s.avZ 0 1, x.c.av 2]) 3 SC.os (fun x => Hd x.ok) (fun x => (callM x.s x.c).av) 3 SC.os
/-- The steps of a range, by what was selected. -/
def selSum (s : Shf) (L : List Nat) (x0 : Int) : Nat → Int
  | 0 => x0
  | i + 1 => selSum s L x0 i + (1 + linesM ((s.pk (L.getD i 0)).size + (s.pv (L.getD i 0)).size : Nat))
def costO (n : Int) : AObj := .cells 33 (.av [i64 n, i64 0, i64 0, i64 0, i64 0, i64 0])
def SC.sel (x : SC) : List Nat := selL x.s x.c.key x.c.to x.s.n
def anCall (x : SC) : FuncId → Anns := fun f => bif Nat.beq f 12 then (fun b fr _ => bif Nat.beq b 1 then [{ σ := Nat, fr := fun i => [(118, i64 i)], ob := fun i => [(idAt fr 9, some (costO (selSum x.s x.sel (3 + seekM x.s x.c.key) i)))], inv := fun i => i ≤ x.sel.length, meas := fun i => x.sel.length - i }] else []) else fun _ _ _ => []
def anRCall (x : SC) : FuncId → Anns := fun f => bif Nat.beq f 13 then (fun b fr _ => bif Nat.beq b 1 then [{ σ := Nat, fr := fun i => [(8, i64 i)], ob := fun i => [(idAt fr 5, some (.cells 33 (.av (groupTo x.s x.c.g i).avs)))], inv := fun i => i ≤ x.c.gn, meas := fun i => x.c.gn - i }] else []) else fun _ _ _ => []
def tblC : WTbl := [(16, ctrT mayC), (43, ctrT mayC), (17, ctrT goodC), (44, ctrT goodC), (41, ctrT seekC), (78, ctrT seekC),
  (38, ctrT putC), (39, ctrT delC), (48, ctrT partC), (42, ctrT groupC), (18, ctrT applyScanC), (50, ctrT rscanC)] ++ (tblW ++ tblN)
end
end Go.Proofs.Ytjndgegfonhhfaa
end
