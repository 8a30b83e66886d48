import Derived.Test.YtjndgegfonhhfaaQa
import Derived.Test.YtjndgegfonhhfaaQb
import Derived.Test.YtjndgegfonhhfaaQc
import Derived.Test.YtjndgegfonhhfaaQd
import Derived.Test.YtjndgegfonhhfaaQe
import Derived.Test.YtjndgegfonhhfaaQf
import Derived.Test.YtjndgegfonhhfaaQg
import Derived.Test.YtjndgegfonhhfaaQh
import Derived.Test.YtjndgegfonhhfaaQi
import Derived.Test.YtjndgegfonhhfaaQj
import Derived.Test.YtjndgegfonhhfaaQk
import Derived.Test.YtjndgegfonhhfaaQl
import Derived.KernelRfl
section
/- What is asked of what a call costs. -/
namespace Go.Proofs.Ytjndgegfonhhfaa
open Go SE
def rscanVC_wp (x : SP) : Prop := wpF Try.prog ((78, ctrT seekC) :: tblN) tt (anRScan x) 200 5 50 (rscanC.args x) (hO rscanC.k (rscanC.os x)) (fun v h' => endsP rscanC.k x v h' rscanC.outs)
def rscanVC (x : SP) : Prop :=
  (∃ (x_1 : @SK), ((@Hd (@SK.ok x_1)) ∧
  ((((((0 : @Nat) = (0 : @Nat)) ∧
  ((@Shf.n (@SK.s x_1)) = (@Shf.n (@SP.s x)))) ∧
  ((((0 : @Nat) = (0 : @Nat)) ∧
  ((@Shf.m (@SK.s x_1)) = (@Shf.m (@SP.s x)))) ∧
  True)) ∧
  (((@SK.key x_1) = (@SP.key x)) ∧
  True)) ∧
  (((((@Shf.n (@SK.s x_1)) = (@Shf.n (@SP.s x))) ∧
  (∀ (q : @Nat), ((q < (@Shf.n (@SK.s x_1))) → ([(Value.string (@Shf.pk (@SK.s x_1) q)), (Value.string (@Shf.pv (@SK.s x_1) q))] = [(Value.string (@Shf.pk (@SP.s x) q)), (Value.string (@Shf.pv (@SP.s x) q))])))) ∧
  ((((@Shf.m (@SK.s x_1)) = (@Shf.m (@SP.s x))) ∧
  (∀ (q : @Nat), ((q < (@Shf.m (@SK.s x_1))) → ([(Value.string (@Shf.qv (@SK.s x_1) q))] = [(Value.string (@Shf.qv (@SP.s x) q))])))) ∧
  True)) ∧
  (∀ (y : Unit), (True → ((@I64 ((3 : @Int) + (@seekM (@SK.s x_1) (@SK.key x_1)))) ∧
  ((∃ (s : @Nat), (((s ≤ (@Shf.n (@SP.s x))) ∧
  True) ∧
  (True ∧
  (((((s : Nat) : @Int) = (0 : @Int)) ∧
  (((@scanTo (@SP.s x) (@SP.key x) (@SP.to x) ((3 : @Int) + (@seekM (@SP.s x) (@SP.key x))) s) = ((3 : @Int) + (@seekM (@SK.s x_1) (@SK.key x_1)))) ∧
  True)) ∧
  ((((@SP.kind x) = (@SP.kind x)) ∧
  (((@SP.key x) = (@SP.key x)) ∧
  (((@SP.value x) = (@SP.value x)) ∧
  (((@SP.to x) = (@SP.to x)) ∧
  (True ∧
  True))))) ∧
  (((((0 : @Nat) = (0 : @Nat)) ∧
  ((@Shf.n (@SP.s x)) = (@Shf.n (@SP.s x)))) ∧
  ((((0 : @Nat) = (0 : @Nat)) ∧
  ((@Shf.m (@SP.s x)) = (@Shf.m (@SP.s x)))) ∧
  True)) ∧
  ((((@rowQ (@SP.s x)) = (@rowQ (@SP.s x))) ∧
  (@Bool.true = @Bool.true)) ∧
  ((((@rowP (@SP.s x)) = (@rowP (@SP.s x))) ∧
  (@Bool.true = @Bool.true)) ∧
  True)))))))) ∧
  ((∀ (s : @Nat), (((s ≤ (@Shf.n (@SP.s x))) ∧
  True) → (cP (decide (((s : Nat) : @Int) < (((@Shf.n (@SP.s x)) : Nat) : @Int))) ((((0 : @Int) ≤ ((s : Nat) : @Int)) ∧
  (((s : Nat) : @Int) < (((@Shf.n (@SP.s x)) : Nat) : @Int))) ∧
  ((((0 : @Nat) + s) < (@Shf.n (@SP.s x))) ∧
  (cP (@Bool.not (@Op.bytesLess (@ByteArray.toList (@Shf.pk (@SP.s x) ((0 : @Nat) + s))) (@ByteArray.toList (@SP.key x)))) (cP (@BEq.beq (@List @UInt8) (@List.instBEq @UInt8 (@instBEqOfDecidableEq @UInt8 @instDecidableEqUInt8)) (@ByteArray.toList (@SP.to x)) (@ByteArray.toList (@ByteArray.mk (@List.toArray @UInt8 (@List.nil @UInt8))))) ((@I64 ((@scanTo (@SP.s x) (@SP.key x) (@SP.to x) ((3 : @Int) + (@seekM (@SP.s x) (@SP.key x))) s) + (1 : @Int))) ∧
  ((@I64 ((((@ByteArray.size (@Shf.pk (@SP.s x) ((0 : @Nat) + s))) : Nat) : @Int) + (((@ByteArray.size (@Shf.pv (@SP.s x) ((0 : @Nat) + s))) : Nat) : @Int))) ∧
  (∃ (x_2 : @Int), (True ∧
  (((x_2 = ((((@ByteArray.size (@Shf.pk (@SP.s x) ((0 : @Nat) + s))) : Nat) : @Int) + (((@ByteArray.size (@Shf.pv (@SP.s x) ((0 : @Nat) + s))) : Nat) : @Int))) ∧
  True) ∧
  (True ∧
  (∀ (y_1 : Unit), (True → (∃ (x_3 : @Int), (True ∧
  (((x_3 = (@needM x_2)) ∧
  True) ∧
  (True ∧
  (∀ (y_2 : Unit), (True → ((@I64 (((@scanTo (@SP.s x) (@SP.key x) (@SP.to x) ((3 : @Int) + (@seekM (@SP.s x) (@SP.key x))) s) + (1 : @Int)) + (@spanM x_3))) ∧
  ((@I64 (((s : Nat) : @Int) + (1 : @Int))) ∧
  (∃ (s_1 : @Nat), (((s_1 ≤ (@Shf.n (@SP.s x))) ∧
  True) ∧
  ((((@Shf.n (@SP.s x)) - s_1) < ((@Shf.n (@SP.s x)) - s)) ∧
  (((((s_1 : Nat) : @Int) = (((s : Nat) : @Int) + (1 : @Int))) ∧
  (((@scanTo (@SP.s x) (@SP.key x) (@SP.to x) ((3 : @Int) + (@seekM (@SP.s x) (@SP.key x))) s_1) = (((@scanTo (@SP.s x) (@SP.key x) (@SP.to x) ((3 : @Int) + (@seekM (@SP.s x) (@SP.key x))) s) + (1 : @Int)) + (@spanM x_3))) ∧
  True)) ∧
  ((((@SP.kind x) = (@SP.kind x)) ∧
  (((@SP.key x) = (@SP.key x)) ∧
  (((@SP.value x) = (@SP.value x)) ∧
  (((@SP.to x) = (@SP.to x)) ∧
  (True ∧
  True))))) ∧
  (((((0 : @Nat) = (0 : @Nat)) ∧
  ((@Shf.n (@SP.s x)) = (@Shf.n (@SP.s x)))) ∧
  ((((0 : @Nat) = (0 : @Nat)) ∧
  ((@Shf.m (@SP.s x)) = (@Shf.m (@SP.s x)))) ∧
  True)) ∧
  ((((@rowQ (@SP.s x)) = (@rowQ (@SP.s x))) ∧
  (@Bool.true = @Bool.true)) ∧
  ((((@rowP (@SP.s x)) = (@rowP (@SP.s x))) ∧
  (@Bool.true = @Bool.true)) ∧
  True)))))))))))))))))))))))) (cP (@Op.bytesLess (@ByteArray.toList (@Shf.pk (@SP.s x) ((0 : @Nat) + s))) (@ByteArray.toList (@SP.to x))) ((@I64 ((@scanTo (@SP.s x) (@SP.key x) (@SP.to x) ((3 : @Int) + (@seekM (@SP.s x) (@SP.key x))) s) + (1 : @Int))) ∧
  ((@I64 ((((@ByteArray.size (@Shf.pk (@SP.s x) ((0 : @Nat) + s))) : Nat) : @Int) + (((@ByteArray.size (@Shf.pv (@SP.s x) ((0 : @Nat) + s))) : Nat) : @Int))) ∧
  (∃ (x_2 : @Int), (True ∧
  (((x_2 = ((((@ByteArray.size (@Shf.pk (@SP.s x) ((0 : @Nat) + s))) : Nat) : @Int) + (((@ByteArray.size (@Shf.pv (@SP.s x) ((0 : @Nat) + s))) : Nat) : @Int))) ∧
  True) ∧
  (True ∧
  (∀ (y_1 : Unit), (True → (∃ (x_3 : @Int), (True ∧
  (((x_3 = (@needM x_2)) ∧
  True) ∧
  (True ∧
  (∀ (y_2 : Unit), (True → ((@I64 (((@scanTo (@SP.s x) (@SP.key x) (@SP.to x) ((3 : @Int) + (@seekM (@SP.s x) (@SP.key x))) s) + (1 : @Int)) + (@spanM x_3))) ∧
  ((@I64 (((s : Nat) : @Int) + (1 : @Int))) ∧
  (∃ (s_1 : @Nat), (((s_1 ≤ (@Shf.n (@SP.s x))) ∧
  True) ∧
  ((((@Shf.n (@SP.s x)) - s_1) < ((@Shf.n (@SP.s x)) - s)) ∧
  (((((s_1 : Nat) : @Int) = (((s : Nat) : @Int) + (1 : @Int))) ∧
  (((@scanTo (@SP.s x) (@SP.key x) (@SP.to x) ((3 : @Int) + (@seekM (@SP.s x) (@SP.key x))) s_1) = (((@scanTo (@SP.s x) (@SP.key x) (@SP.to x) ((3 : @Int) + (@seekM (@SP.s x) (@SP.key x))) s) + (1 : @Int)) + (@spanM x_3))) ∧
  True)) ∧
  ((((@SP.kind x) = (@SP.kind x)) ∧
  (((@SP.key x) = (@SP.key x)) ∧
  (((@SP.value x) = (@SP.value x)) ∧
  (((@SP.to x) = (@SP.to x)) ∧
  (True ∧
  True))))) ∧
  (((((0 : @Nat) = (0 : @Nat)) ∧
  ((@Shf.n (@SP.s x)) = (@Shf.n (@SP.s x)))) ∧
  ((((0 : @Nat) = (0 : @Nat)) ∧
  ((@Shf.m (@SP.s x)) = (@Shf.m (@SP.s x)))) ∧
  True)) ∧
  ((((@rowQ (@SP.s x)) = (@rowQ (@SP.s x))) ∧
  (@Bool.true = @Bool.true)) ∧
  ((((@rowP (@SP.s x)) = (@rowP (@SP.s x))) ∧
  (@Bool.true = @Bool.true)) ∧
  True)))))))))))))))))))))))) ((@I64 (((s : Nat) : @Int) + (1 : @Int))) ∧
  (∃ (s_1 : @Nat), (((s_1 ≤ (@Shf.n (@SP.s x))) ∧
  True) ∧
  ((((@Shf.n (@SP.s x)) - s_1) < ((@Shf.n (@SP.s x)) - s)) ∧
  (((((s_1 : Nat) : @Int) = (((s : Nat) : @Int) + (1 : @Int))) ∧
  (((@scanTo (@SP.s x) (@SP.key x) (@SP.to x) ((3 : @Int) + (@seekM (@SP.s x) (@SP.key x))) s_1) = (@scanTo (@SP.s x) (@SP.key x) (@SP.to x) ((3 : @Int) + (@seekM (@SP.s x) (@SP.key x))) s)) ∧
  True)) ∧
  ((((@SP.kind x) = (@SP.kind x)) ∧
  (((@SP.key x) = (@SP.key x)) ∧
  (((@SP.value x) = (@SP.value x)) ∧
  (((@SP.to x) = (@SP.to x)) ∧
  (True ∧
  True))))) ∧
  (((((0 : @Nat) = (0 : @Nat)) ∧
  ((@Shf.n (@SP.s x)) = (@Shf.n (@SP.s x)))) ∧
  ((((0 : @Nat) = (0 : @Nat)) ∧
  ((@Shf.m (@SP.s x)) = (@Shf.m (@SP.s x)))) ∧
  True)) ∧
  ((((@rowQ (@SP.s x)) = (@rowQ (@SP.s x))) ∧
  (@Bool.true = @Bool.true)) ∧
  ((((@rowP (@SP.s x)) = (@rowP (@SP.s x))) ∧
  (@Bool.true = @Bool.true)) ∧
  True))))))))))) ((@I64 (((s : Nat) : @Int) + (1 : @Int))) ∧
  (∃ (s_1 : @Nat), (((s_1 ≤ (@Shf.n (@SP.s x))) ∧
  True) ∧
  ((((@Shf.n (@SP.s x)) - s_1) < ((@Shf.n (@SP.s x)) - s)) ∧
  (((((s_1 : Nat) : @Int) = (((s : Nat) : @Int) + (1 : @Int))) ∧
  (((@scanTo (@SP.s x) (@SP.key x) (@SP.to x) ((3 : @Int) + (@seekM (@SP.s x) (@SP.key x))) s_1) = (@scanTo (@SP.s x) (@SP.key x) (@SP.to x) ((3 : @Int) + (@seekM (@SP.s x) (@SP.key x))) s)) ∧
  True)) ∧
  ((((@SP.kind x) = (@SP.kind x)) ∧
  (((@SP.key x) = (@SP.key x)) ∧
  (((@SP.value x) = (@SP.value x)) ∧
  (((@SP.to x) = (@SP.to x)) ∧
  (True ∧
  True))))) ∧
  (((((0 : @Nat) = (0 : @Nat)) ∧
  ((@Shf.n (@SP.s x)) = (@Shf.n (@SP.s x)))) ∧
  ((((0 : @Nat) = (0 : @Nat)) ∧
  ((@Shf.m (@SP.s x)) = (@Shf.m (@SP.s x)))) ∧
  True)) ∧
  ((((@rowQ (@SP.s x)) = (@rowQ (@SP.s x))) ∧
  (@Bool.true = @Bool.true)) ∧
  ((((@rowP (@SP.s x)) = (@rowP (@SP.s x))) ∧
  (@Bool.true = @Bool.true)) ∧
  True)))))))))))) (∃ (y_1 : Unit), (True ∧
  (((@scanTo (@SP.s x) (@SP.key x) (@SP.to x) ((3 : @Int) + (@seekM (@SP.s x) (@SP.key x))) (@Shf.n (@SP.s x))) = (@scanTo (@SP.s x) (@SP.key x) (@SP.to x) ((3 : @Int) + (@seekM (@SP.s x) (@SP.key x))) s)) ∧
  ((((@rowP (@SP.s x)) = (@rowP (@SP.s x))) ∧
  (@Bool.true = @Bool.true)) ∧
  ((((@rowQ (@SP.s x)) = (@rowQ (@SP.s x))) ∧
  (@Bool.true = @Bool.true)) ∧
  True)))))))) ∧
  True)))))))))
theorem rscanVC_ok (x : SP) : rscanVC x = rscanVC_wp x := by kernel_rfl
def callVC_wp (x : SC) : Prop := wpF Try.prog tblC tt (anCall x) 200 5 12 (callC.args x) (hO callC.k (callC.os x)) (fun v h' => endsP callC.k x v h' callC.outs)
def callVC (x : SC) : Prop :=
  (∃ (x_1 : @Shf), ((@Hd (@Shf.small x_1)) ∧
  ((((((0 : @Nat) = (0 : @Nat)) ∧
  ((@Shf.n x_1) = (@Shf.n (@SC.s x)))) ∧
  ((((0 : @Nat) = (0 : @Nat)) ∧
  ((@Shf.m x_1) = (@Shf.m (@SC.s x)))) ∧
  True)) ∧
  True) ∧
  (((((@Shf.n x_1) = (@Shf.n (@SC.s x))) ∧
  (∀ (q : @Nat), ((q < (@Shf.n x_1)) → ([(Value.string (@Shf.pk x_1 q)), (Value.string (@Shf.pv x_1 q))] = [(Value.string (@Shf.pk (@SC.s x) q)), (Value.string (@Shf.pv (@SC.s x) q))])))) ∧
  ((((@Shf.m x_1) = (@Shf.m (@SC.s x))) ∧
  (∀ (q : @Nat), ((q < (@Shf.m x_1)) → ([(Value.string (@Shf.qv x_1 q))] = [(Value.string (@Shf.qv (@SC.s x) q))])))) ∧
  True)) ∧
  (∀ (y : Unit), (True → (cP (@Bool.not (@mayM x_1)) (∃ (y_1 : Unit), (True ∧
  ((((@Cst.s0 (@callM (@SC.s x) (@SC.c x))) = (0 : @Int)) ∧
  (((@Cst.s1 (@callM (@SC.s x) (@SC.c x))) = (0 : @Int)) ∧
  (((@Cst.s2 (@callM (@SC.s x) (@SC.c x))) = (0 : @Int)) ∧
  (((@Cst.s3 (@callM (@SC.s x) (@SC.c x))) = (0 : @Int)) ∧
  (((@Cst.s4 (@callM (@SC.s x) (@SC.c x))) = (0 : @Int)) ∧
  (((@Cst.s5 (@callM (@SC.s x) (@SC.c x))) = (0 : @Int)) ∧
  True)))))) ∧
  ((((@rowP (@SC.s x)) = (@rowP (@SC.s x))) ∧
  (@Bool.true = @Bool.true)) ∧
  ((((@rowQ (@SC.s x)) = (@rowQ (@SC.s x))) ∧
  (@Bool.true = @Bool.true)) ∧
  ((((@rowG (@SC.c x)) = (@rowG (@SC.c x))) ∧
  (@Bool.true = @Bool.true)) ∧
  True)))))) (∃ (x_2 : @Cll), ((@Hd (@Cll.small x_2)) ∧
  (((((@Cll.kind x_2) = (@Cll.kind (@SC.c x))) ∧
  (((@Cll.key x_2) = (@Cll.key (@SC.c x))) ∧
  (((@Cll.value x_2) = (@Cll.value (@SC.c x))) ∧
  (((@Cll.to x_2) = (@Cll.to (@SC.c x))) ∧
  ((((0 : @Nat) = (0 : @Nat)) ∧
  ((@Cll.gn x_2) = (@Cll.gn (@SC.c x)))) ∧
  True))))) ∧
  True) ∧
  (((((@Cll.gn x_2) = (@Cll.gn (@SC.c x))) ∧
  (∀ (q : @Nat), ((q < (@Cll.gn x_2)) → ([(Value.int @IntKind.i64 (@Mem.kind (@Cll.g x_2 q))), (Value.string (@Mem.key (@Cll.g x_2 q))), (Value.string (@Mem.value (@Cll.g x_2 q))), (Value.string (@Mem.to (@Cll.g x_2 q))), (Value.slice (@Mem.gp (@Cll.g x_2 q)) (@Mem.gn (@Cll.g x_2 q)) (@Mem.gc (@Cll.g x_2 q)))] = [(Value.int @IntKind.i64 (@Mem.kind (@Cll.g (@SC.c x) q))), (Value.string (@Mem.key (@Cll.g (@SC.c x) q))), (Value.string (@Mem.value (@Cll.g (@SC.c x) q))), (Value.string (@Mem.to (@Cll.g (@SC.c x) q))), (Value.slice (@Mem.gp (@Cll.g (@SC.c x) q)) (@Mem.gn (@Cll.g (@SC.c x) q)) (@Mem.gc (@Cll.g (@SC.c x) q)))])))) ∧
  True) ∧
  (∀ (y_1 : Unit), (True → (cP (@bne @Int (@instBEqOfDecidableEq @Int @Int.instDecidableEq) (@goodM x_2) (0 : @Int)) (∃ (y_2 : Unit), (True ∧
  ((((@Cst.s0 (@callM (@SC.s x) (@SC.c x))) = (1 : @Int)) ∧
  (((@Cst.s1 (@callM (@SC.s x) (@SC.c x))) = (0 : @Int)) ∧
  (((@Cst.s2 (@callM (@SC.s x) (@SC.c x))) = (0 : @Int)) ∧
  (((@Cst.s3 (@callM (@SC.s x) (@SC.c x))) = (0 : @Int)) ∧
  (((@Cst.s4 (@callM (@SC.s x) (@SC.c x))) = (0 : @Int)) ∧
  (((@Cst.s5 (@callM (@SC.s x) (@SC.c x))) = (0 : @Int)) ∧
  True)))))) ∧
  ((((@rowP (@SC.s x)) = (@rowP (@SC.s x))) ∧
  (@Bool.true = @Bool.true)) ∧
  ((((@rowQ (@SC.s x)) = (@rowQ (@SC.s x))) ∧
  (@Bool.true = @Bool.true)) ∧
  ((((@rowG (@SC.c x)) = (@rowG (@SC.c x))) ∧
  (@Bool.true = @Bool.true)) ∧
  True)))))) (cP (@BEq.beq @Int (@instBEqOfDecidableEq @Int @Int.instDecidableEq) (@Cll.kind (@SC.c x)) (1 : @Int)) (∃ (x_3 : @SK), ((@Hd (@SK.ok x_3)) ∧
  ((((((0 : @Nat) = (0 : @Nat)) ∧
  ((@Shf.n (@SK.s x_3)) = (@Shf.n (@SC.s x)))) ∧
  ((((0 : @Nat) = (0 : @Nat)) ∧
  ((@Shf.m (@SK.s x_3)) = (@Shf.m (@SC.s x)))) ∧
  True)) ∧
  (((@SK.key x_3) = (@Cll.key (@SC.c x))) ∧
  True)) ∧
  (((((@Shf.n (@SK.s x_3)) = (@Shf.n (@SC.s x))) ∧
  (∀ (q : @Nat), ((q < (@Shf.n (@SK.s x_3))) → ([(Value.string (@Shf.pk (@SK.s x_3) q)), (Value.string (@Shf.pv (@SK.s x_3) q))] = [(Value.string (@Shf.pk (@SC.s x) q)), (Value.string (@Shf.pv (@SC.s x) q))])))) ∧
  ((((@Shf.m (@SK.s x_3)) = (@Shf.m (@SC.s x))) ∧
  (∀ (q : @Nat), ((q < (@Shf.m (@SK.s x_3))) → ([(Value.string (@Shf.qv (@SK.s x_3) q))] = [(Value.string (@Shf.qv (@SC.s x) q))])))) ∧
  True)) ∧
  (∀ (y_2 : Unit), (True → ((@I64 ((2 : @Int) + (@findM (@SK.s x_3) (@SK.key x_3)))) ∧
  (∃ (x_4 : @SK), ((@Hd (@SK.ok x_4)) ∧
  ((((((0 : @Nat) = (0 : @Nat)) ∧
  ((@Shf.n (@SK.s x_4)) = (@Shf.n (@SC.s x)))) ∧
  ((((0 : @Nat) = (0 : @Nat)) ∧
  ((@Shf.m (@SK.s x_4)) = (@Shf.m (@SC.s x)))) ∧
  True)) ∧
  (((@SK.key x_4) = (@Cll.key (@SC.c x))) ∧
  True)) ∧
  (((((@Shf.n (@SK.s x_4)) = (@Shf.n (@SC.s x))) ∧
  (∀ (q : @Nat), ((q < (@Shf.n (@SK.s x_4))) → ([(Value.string (@Shf.pk (@SK.s x_4) q)), (Value.string (@Shf.pv (@SK.s x_4) q))] = [(Value.string (@Shf.pk (@SC.s x) q)), (Value.string (@Shf.pv (@SC.s x) q))])))) ∧
  ((((@Shf.m (@SK.s x_4)) = (@Shf.m (@SC.s x))) ∧
  (∀ (q : @Nat), ((q < (@Shf.m (@SK.s x_4))) → ([(Value.string (@Shf.qv (@SK.s x_4) q))] = [(Value.string (@Shf.qv (@SC.s x) q))])))) ∧
  True)) ∧
  (∀ (y_3 : Unit), (True → (cP (@hadM (@SK.s x_4) (@SK.key x_4)) ((@I64 ((((@ByteArray.size (@Cll.key (@SC.c x))) : Nat) : @Int) + (((@ByteArray.size (@getM (@SK.s x_4) (@SK.key x_4))) : Nat) : @Int))) ∧
  (∃ (x_5 : @Int), (True ∧
  (((x_5 = ((((@ByteArray.size (@Cll.key (@SC.c x))) : Nat) : @Int) + (((@ByteArray.size (@getM (@SK.s x_4) (@SK.key x_4))) : Nat) : @Int))) ∧
  True) ∧
  (True ∧
  (∀ (y_4 : Unit), (True → (∃ (x_6 : @Int), (True ∧
  (((x_6 = (@needM x_5)) ∧
  True) ∧
  (True ∧
  (∀ (y_5 : Unit), (True → ((((AV.lit (Value.int @IntKind.i64 ((2 : @Int) + (@findM (@SK.s x_3) (@SK.key x_3))))) = (AV.lit (Value.int @IntKind.i64 ((2 : @Int) + (@findM (@SK.s x_3) (@SK.key x_3)))))) ∧
  True) ∧
  ((@I64 (((2 : @Int) + (@findM (@SK.s x_3) (@SK.key x_3))) + (@spanM x_6))) ∧
  (True ∧
  (∃ (y_6 : Unit), (True ∧
  ((((@Cst.s0 (@callM (@SC.s x) (@SC.c x))) = (((2 : @Int) + (@findM (@SK.s x_3) (@SK.key x_3))) + (@spanM x_6))) ∧
  (((@Cst.s1 (@callM (@SC.s x) (@SC.c x))) = (0 : @Int)) ∧
  (((@Cst.s2 (@callM (@SC.s x) (@SC.c x))) = (0 : @Int)) ∧
  (((@Cst.s3 (@callM (@SC.s x) (@SC.c x))) = (0 : @Int)) ∧
  (((@Cst.s4 (@callM (@SC.s x) (@SC.c x))) = (0 : @Int)) ∧
  (((@Cst.s5 (@callM (@SC.s x) (@SC.c x))) = (0 : @Int)) ∧
  True)))))) ∧
  ((((@rowP (@SC.s x)) = (@rowP (@SC.s x))) ∧
  (@Bool.true = @Bool.true)) ∧
  ((((@rowQ (@SC.s x)) = (@rowQ (@SC.s x))) ∧
  (@Bool.true = @Bool.true)) ∧
  ((((@rowG (@SC.c x)) = (@rowG (@SC.c x))) ∧
  (@Bool.true = @Bool.true)) ∧
  True)))))))))))))))))))))) (∃ (y_4 : Unit), (True ∧
  ((((@Cst.s0 (@callM (@SC.s x) (@SC.c x))) = ((2 : @Int) + (@findM (@SK.s x_3) (@SK.key x_3)))) ∧
  (((@Cst.s1 (@callM (@SC.s x) (@SC.c x))) = (0 : @Int)) ∧
  (((@Cst.s2 (@callM (@SC.s x) (@SC.c x))) = (0 : @Int)) ∧
  (((@Cst.s3 (@callM (@SC.s x) (@SC.c x))) = (0 : @Int)) ∧
  (((@Cst.s4 (@callM (@SC.s x) (@SC.c x))) = (0 : @Int)) ∧
  (((@Cst.s5 (@callM (@SC.s x) (@SC.c x))) = (0 : @Int)) ∧
  True)))))) ∧
  ((((@rowP (@SC.s x)) = (@rowP (@SC.s x))) ∧
  (@Bool.true = @Bool.true)) ∧
  ((((@rowQ (@SC.s x)) = (@rowQ (@SC.s x))) ∧
  (@Bool.true = @Bool.true)) ∧
  ((((@rowG (@SC.c x)) = (@rowG (@SC.c x))) ∧
  (@Bool.true = @Bool.true)) ∧
  True)))))))))))))))))))) (cP (@BEq.beq @Int (@instBEqOfDecidableEq @Int @Int.instDecidableEq) (@Cll.kind (@SC.c x)) (2 : @Int)) (∃ (x_3 : @SP), ((@Hd (@SP.ok x_3)) ∧
  ((((((0 : @Nat) = (0 : @Nat)) ∧
  ((@Shf.n (@SP.s x_3)) = (@Shf.n (@SC.s x)))) ∧
  ((((0 : @Nat) = (0 : @Nat)) ∧
  ((@Shf.m (@SP.s x_3)) = (@Shf.m (@SC.s x)))) ∧
  True)) ∧
  ((((@SP.kind x_3) = (@Cll.kind (@SC.c x))) ∧
  (((@SP.key x_3) = (@Cll.key (@SC.c x))) ∧
  (((@SP.value x_3) = (@Cll.value (@SC.c x))) ∧
  (((@SP.to x_3) = (@Cll.to (@SC.c x))) ∧
  (True ∧
  True))))) ∧
  True)) ∧
  (((((@Shf.n (@SP.s x_3)) = (@Shf.n (@SC.s x))) ∧
  (∀ (q : @Nat), ((q < (@Shf.n (@SP.s x_3))) → ([(Value.string (@Shf.pk (@SP.s x_3) q)), (Value.string (@Shf.pv (@SP.s x_3) q))] = [(Value.string (@Shf.pk (@SC.s x) q)), (Value.string (@Shf.pv (@SC.s x) q))])))) ∧
  ((((@Shf.m (@SP.s x_3)) = (@Shf.m (@SC.s x))) ∧
  (∀ (q : @Nat), ((q < (@Shf.m (@SP.s x_3))) → ([(Value.string (@Shf.qv (@SP.s x_3) q))] = [(Value.string (@Shf.qv (@SC.s x) q))])))) ∧
  True)) ∧
  (∀ (y_2 : Unit), (True → (((@List.length @Cst [(@Cst.mk (3 : @Int) (0 : @Int) (0 : @Int) (0 : @Int) (0 : @Int) (0 : @Int)), (@Cst.mk ((((@linesM ((((@ByteArray.size (@SP.key x_3)) + (@ByteArray.size (@SP.value x_3))) : Nat) : @Int)) + (1 : @Int)) + (@findM (@SP.s x_3) (@SP.key x_3))) + (0 : @Int)) ((@linesM ((((@ByteArray.size (@SP.key x_3)) + (@ByteArray.size (@SP.value x_3))) : Nat) : @Int)) + (1 : @Int)) (0 : @Int) (0 : @Int) (@linesM ((((@ByteArray.size (@SP.key x_3)) + (@ByteArray.size (@SP.value x_3))) : Nat) : @Int)) (@b2i (@hadM (@SP.s x_3) (@SP.key x_3))))]) < (4611686018427387904 : @Nat)) ∧
  (∃ (y_3 : Unit), (True ∧
  ((((@Cst.s0 (@callM (@SC.s x) (@SC.c x))) = (@Cst.heldM (3 : @Int) ((((@linesM ((((@ByteArray.size (@SP.key x_3)) + (@ByteArray.size (@SP.value x_3))) : Nat) : @Int)) + (1 : @Int)) + (@findM (@SP.s x_3) (@SP.key x_3))) + (0 : @Int)))) ∧
  (((@Cst.s1 (@callM (@SC.s x) (@SC.c x))) = (@Cst.heldM (0 : @Int) ((@linesM ((((@ByteArray.size (@SP.key x_3)) + (@ByteArray.size (@SP.value x_3))) : Nat) : @Int)) + (1 : @Int)))) ∧
  (((@Cst.s2 (@callM (@SC.s x) (@SC.c x))) = (0 : @Int)) ∧
  (((@Cst.s3 (@callM (@SC.s x) (@SC.c x))) = (0 : @Int)) ∧
  (((@Cst.s4 (@callM (@SC.s x) (@SC.c x))) = (@Cst.heldM (0 : @Int) (@linesM ((((@ByteArray.size (@SP.key x_3)) + (@ByteArray.size (@SP.value x_3))) : Nat) : @Int)))) ∧
  (((@Cst.s5 (@callM (@SC.s x) (@SC.c x))) = (@Cst.heldM (0 : @Int) (@b2i (@hadM (@SP.s x_3) (@SP.key x_3))))) ∧
  True)))))) ∧
  ((((@rowP (@SC.s x)) = (@rowP (@SC.s x))) ∧
  (@Bool.true = @Bool.true)) ∧
  ((((@rowQ (@SC.s x)) = (@rowQ (@SC.s x))) ∧
  (@Bool.true = @Bool.true)) ∧
  ((((@rowG (@SC.c x)) = (@rowG (@SC.c x))) ∧
  (@Bool.true = @Bool.true)) ∧
  True))))))))))))) (cP (@BEq.beq @Int (@instBEqOfDecidableEq @Int @Int.instDecidableEq) (@Cll.kind (@SC.c x)) (3 : @Int)) (∃ (x_3 : @SK), ((@Hd (@SK.ok x_3)) ∧
  ((((((0 : @Nat) = (0 : @Nat)) ∧
  ((@Shf.n (@SK.s x_3)) = (@Shf.n (@SC.s x)))) ∧
  ((((0 : @Nat) = (0 : @Nat)) ∧
  ((@Shf.m (@SK.s x_3)) = (@Shf.m (@SC.s x)))) ∧
  True)) ∧
  (((@SK.key x_3) = (@Cll.key (@SC.c x))) ∧
  True)) ∧
  (((((@Shf.n (@SK.s x_3)) = (@Shf.n (@SC.s x))) ∧
  (∀ (q : @Nat), ((q < (@Shf.n (@SK.s x_3))) → ([(Value.string (@Shf.pk (@SK.s x_3) q)), (Value.string (@Shf.pv (@SK.s x_3) q))] = [(Value.string (@Shf.pk (@SC.s x) q)), (Value.string (@Shf.pv (@SC.s x) q))])))) ∧
  ((((@Shf.m (@SK.s x_3)) = (@Shf.m (@SC.s x))) ∧
  (∀ (q : @Nat), ((q < (@Shf.m (@SK.s x_3))) → ([(Value.string (@Shf.qv (@SK.s x_3) q))] = [(Value.string (@Shf.qv (@SC.s x) q))])))) ∧
  True)) ∧
  (∀ (y_2 : Unit), (True → (((@List.length @Cst [(@Cst.mk (2 : @Int) (0 : @Int) (0 : @Int) (0 : @Int) (0 : @Int) (0 : @Int)), (@Cst.mk (@Cst.s0 (@partM (@SK.s x_3) (3 : @Int) (@SK.key x_3) (@SK.key x_3) (0 : @Int))) (@Cst.s1 (@partM (@SK.s x_3) (3 : @Int) (@SK.key x_3) (@SK.key x_3) (0 : @Int))) (@Cst.s2 (@partM (@SK.s x_3) (3 : @Int) (@SK.key x_3) (@SK.key x_3) (0 : @Int))) (@Cst.s3 (@partM (@SK.s x_3) (3 : @Int) (@SK.key x_3) (@SK.key x_3) (0 : @Int))) (@Cst.s4 (@partM (@SK.s x_3) (3 : @Int) (@SK.key x_3) (@SK.key x_3) (0 : @Int))) (@Cst.s5 (@partM (@SK.s x_3) (3 : @Int) (@SK.key x_3) (@SK.key x_3) (0 : @Int))))]) < (4611686018427387904 : @Nat)) ∧
  (cP (decide (@GT.gt @Int @Int.instLTInt (@Cst.heldM (0 : @Int) (@Cst.s5 (@partM (@SK.s x_3) (3 : @Int) (@SK.key x_3) (@SK.key x_3) (0 : @Int)))) (0 : @Int))) ((@I64 ((@Cst.heldM (2 : @Int) (@Cst.s0 (@partM (@SK.s x_3) (3 : @Int) (@SK.key x_3) (@SK.key x_3) (0 : @Int)))) + (1 : @Int))) ∧
  (∃ (y_3 : Unit), (True ∧
  ((((@Cst.s0 (@callM (@SC.s x) (@SC.c x))) = ((@Cst.heldM (2 : @Int) (@Cst.s0 (@partM (@SK.s x_3) (3 : @Int) (@SK.key x_3) (@SK.key x_3) (0 : @Int)))) + (1 : @Int))) ∧
  (((@Cst.s1 (@callM (@SC.s x) (@SC.c x))) = (@Cst.heldM (0 : @Int) (@Cst.s1 (@partM (@SK.s x_3) (3 : @Int) (@SK.key x_3) (@SK.key x_3) (0 : @Int))))) ∧
  (((@Cst.s2 (@callM (@SC.s x) (@SC.c x))) = (@Cst.heldM (0 : @Int) (@Cst.s2 (@partM (@SK.s x_3) (3 : @Int) (@SK.key x_3) (@SK.key x_3) (0 : @Int))))) ∧
  (((@Cst.s3 (@callM (@SC.s x) (@SC.c x))) = (@Cst.heldM (0 : @Int) (@Cst.s3 (@partM (@SK.s x_3) (3 : @Int) (@SK.key x_3) (@SK.key x_3) (0 : @Int))))) ∧
  (((@Cst.s4 (@callM (@SC.s x) (@SC.c x))) = (@Cst.heldM (0 : @Int) (@Cst.s4 (@partM (@SK.s x_3) (3 : @Int) (@SK.key x_3) (@SK.key x_3) (0 : @Int))))) ∧
  (((@Cst.s5 (@callM (@SC.s x) (@SC.c x))) = (@Cst.heldM (0 : @Int) (@Cst.s5 (@partM (@SK.s x_3) (3 : @Int) (@SK.key x_3) (@SK.key x_3) (0 : @Int))))) ∧
  True)))))) ∧
  ((((@rowP (@SC.s x)) = (@rowP (@SC.s x))) ∧
  (@Bool.true = @Bool.true)) ∧
  ((((@rowQ (@SC.s x)) = (@rowQ (@SC.s x))) ∧
  (@Bool.true = @Bool.true)) ∧
  ((((@rowG (@SC.c x)) = (@rowG (@SC.c x))) ∧
  (@Bool.true = @Bool.true)) ∧
  True))))))) (∃ (y_3 : Unit), (True ∧
  ((((@Cst.s0 (@callM (@SC.s x) (@SC.c x))) = (@Cst.heldM (2 : @Int) (@Cst.s0 (@partM (@SK.s x_3) (3 : @Int) (@SK.key x_3) (@SK.key x_3) (0 : @Int))))) ∧
  (((@Cst.s1 (@callM (@SC.s x) (@SC.c x))) = (@Cst.heldM (0 : @Int) (@Cst.s1 (@partM (@SK.s x_3) (3 : @Int) (@SK.key x_3) (@SK.key x_3) (0 : @Int))))) ∧
  (((@Cst.s2 (@callM (@SC.s x) (@SC.c x))) = (@Cst.heldM (0 : @Int) (@Cst.s2 (@partM (@SK.s x_3) (3 : @Int) (@SK.key x_3) (@SK.key x_3) (0 : @Int))))) ∧
  (((@Cst.s3 (@callM (@SC.s x) (@SC.c x))) = (@Cst.heldM (0 : @Int) (@Cst.s3 (@partM (@SK.s x_3) (3 : @Int) (@SK.key x_3) (@SK.key x_3) (0 : @Int))))) ∧
  (((@Cst.s4 (@callM (@SC.s x) (@SC.c x))) = (@Cst.heldM (0 : @Int) (@Cst.s4 (@partM (@SK.s x_3) (3 : @Int) (@SK.key x_3) (@SK.key x_3) (0 : @Int))))) ∧
  (((@Cst.s5 (@callM (@SC.s x) (@SC.c x))) = (@Cst.heldM (0 : @Int) (@Cst.s5 (@partM (@SK.s x_3) (3 : @Int) (@SK.key x_3) (@SK.key x_3) (0 : @Int))))) ∧
  True)))))) ∧
  ((((@rowP (@SC.s x)) = (@rowP (@SC.s x))) ∧
  (@Bool.true = @Bool.true)) ∧
  ((((@rowQ (@SC.s x)) = (@rowQ (@SC.s x))) ∧
  (@Bool.true = @Bool.true)) ∧
  ((((@rowG (@SC.c x)) = (@rowG (@SC.c x))) ∧
  (@Bool.true = @Bool.true)) ∧
  True)))))))))))))) (cP (@BEq.beq @Int (@instBEqOfDecidableEq @Int @Int.instDecidableEq) (@Cll.kind (@SC.c x)) (4 : @Int)) (∃ (x_3 : @Int), (True ∧
  (((x_3 = (((@ByteArray.size (@Cll.value (@SC.c x))) : Nat) : @Int)) ∧
  True) ∧
  (True ∧
  (∀ (y_2 : Unit), (True → (((@List.length @Cst [(@Cst.mk (3 : @Int) (0 : @Int) (0 : @Int) (0 : @Int) (0 : @Int) (0 : @Int)), (@Cst.mk ((@linesM x_3) + (1 : @Int)) ((@linesM x_3) + (1 : @Int)) (0 : @Int) (0 : @Int) (@linesM x_3) (0 : @Int))]) < (4611686018427387904 : @Nat)) ∧
  (∃ (y_3 : Unit), (True ∧
  ((((@Cst.s0 (@callM (@SC.s x) (@SC.c x))) = (@Cst.heldM (3 : @Int) ((@linesM x_3) + (1 : @Int)))) ∧
  (((@Cst.s1 (@callM (@SC.s x) (@SC.c x))) = (@Cst.heldM (0 : @Int) ((@linesM x_3) + (1 : @Int)))) ∧
  (((@Cst.s2 (@callM (@SC.s x) (@SC.c x))) = (0 : @Int)) ∧
  (((@Cst.s3 (@callM (@SC.s x) (@SC.c x))) = (0 : @Int)) ∧
  (((@Cst.s4 (@callM (@SC.s x) (@SC.c x))) = (@Cst.heldM (0 : @Int) (@linesM x_3))) ∧
  (((@Cst.s5 (@callM (@SC.s x) (@SC.c x))) = (0 : @Int)) ∧
  True)))))) ∧
  ((((@rowP (@SC.s x)) = (@rowP (@SC.s x))) ∧
  (@Bool.true = @Bool.true)) ∧
  ((((@rowQ (@SC.s x)) = (@rowQ (@SC.s x))) ∧
  (@Bool.true = @Bool.true)) ∧
  ((((@rowG (@SC.c x)) = (@rowG (@SC.c x))) ∧
  (@Bool.true = @Bool.true)) ∧
  True))))))))))))) (cP (@BEq.beq @Int (@instBEqOfDecidableEq @Int @Int.instDecidableEq) (@Cll.kind (@SC.c x)) (5 : @Int)) (cP (@BEq.beq @Int (@instBEqOfDecidableEq @Int @Int.instDecidableEq) (((@Shf.m (@SC.s x)) : Nat) : @Int) (0 : @Int)) (∃ (y_2 : Unit), (True ∧
  ((((@Cst.s0 (@callM (@SC.s x) (@SC.c x))) = (3 : @Int)) ∧
  (((@Cst.s1 (@callM (@SC.s x) (@SC.c x))) = (0 : @Int)) ∧
  (((@Cst.s2 (@callM (@SC.s x) (@SC.c x))) = (0 : @Int)) ∧
  (((@Cst.s3 (@callM (@SC.s x) (@SC.c x))) = (0 : @Int)) ∧
  (((@Cst.s4 (@callM (@SC.s x) (@SC.c x))) = (0 : @Int)) ∧
  (((@Cst.s5 (@callM (@SC.s x) (@SC.c x))) = (0 : @Int)) ∧
  True)))))) ∧
  ((((@rowP (@SC.s x)) = (@rowP (@SC.s x))) ∧
  (@Bool.true = @Bool.true)) ∧
  ((((@rowQ (@SC.s x)) = (@rowQ (@SC.s x))) ∧
  (@Bool.true = @Bool.true)) ∧
  ((((@rowG (@SC.c x)) = (@rowG (@SC.c x))) ∧
  (@Bool.true = @Bool.true)) ∧
  True)))))) ((((0 : @Int) ≤ (0 : @Int)) ∧
  ((1 : @Int) ≤ (((@Shf.m (@SC.s x)) : Nat) : @Int))) ∧
  (((0 : @Nat) < (@Shf.m (@SC.s x))) ∧
  (∃ (x_3 : @Int), (True ∧
  (((x_3 = (((@ByteArray.size (@Shf.qv (@SC.s x) (0 : @Nat))) : Nat) : @Int)) ∧
  True) ∧
  (True ∧
  (∀ (y_2 : Unit), (True → (∃ (x_4 : @Int), (True ∧
  (((x_4 = (@needM x_3)) ∧
  True) ∧
  (True ∧
  (∀ (y_3 : Unit), (True → ((@I64 ((6 : @Int) + (@spanM x_4))) ∧
  (∃ (y_4 : Unit), (True ∧
  ((((@Cst.s0 (@callM (@SC.s x) (@SC.c x))) = ((6 : @Int) + (@spanM x_4))) ∧
  (((@Cst.s1 (@callM (@SC.s x) (@SC.c x))) = (2 : @Int)) ∧
  (((@Cst.s2 (@callM (@SC.s x) (@SC.c x))) = (0 : @Int)) ∧
  (((@Cst.s3 (@callM (@SC.s x) (@SC.c x))) = (0 : @Int)) ∧
  (((@Cst.s4 (@callM (@SC.s x) (@SC.c x))) = (1 : @Int)) ∧
  (((@Cst.s5 (@callM (@SC.s x) (@SC.c x))) = (1 : @Int)) ∧
  True)))))) ∧
  ((((@rowP (@SC.s x)) = (@rowP (@SC.s x))) ∧
  (@Bool.true = @Bool.true)) ∧
  ((((@rowQ (@SC.s x)) = (@rowQ (@SC.s x))) ∧
  (@Bool.true = @Bool.true)) ∧
  ((((@rowG (@SC.c x)) = (@rowG (@SC.c x))) ∧
  (@Bool.true = @Bool.true)) ∧
  True)))))))))))))))))))))) (cP (@BEq.beq @Int (@instBEqOfDecidableEq @Int @Int.instDecidableEq) (@Cll.kind (@SC.c x)) (6 : @Int)) (∃ (x_3 : @SK), ((@Hd (@SK.ok x_3)) ∧
  ((((((0 : @Nat) = (0 : @Nat)) ∧
  ((@Shf.n (@SK.s x_3)) = (@Shf.n (@SC.s x)))) ∧
  ((((0 : @Nat) = (0 : @Nat)) ∧
  ((@Shf.m (@SK.s x_3)) = (@Shf.m (@SC.s x)))) ∧
  True)) ∧
  (((@SK.key x_3) = (@Cll.key (@SC.c x))) ∧
  True)) ∧
  (((((@Shf.n (@SK.s x_3)) = (@Shf.n (@SC.s x))) ∧
  (∀ (q : @Nat), ((q < (@Shf.n (@SK.s x_3))) → ([(Value.string (@Shf.pk (@SK.s x_3) q)), (Value.string (@Shf.pv (@SK.s x_3) q))] = [(Value.string (@Shf.pk (@SC.s x) q)), (Value.string (@Shf.pv (@SC.s x) q))])))) ∧
  ((((@Shf.m (@SK.s x_3)) = (@Shf.m (@SC.s x))) ∧
  (∀ (q : @Nat), ((q < (@Shf.m (@SK.s x_3))) → ([(Value.string (@Shf.qv (@SK.s x_3) q))] = [(Value.string (@Shf.qv (@SC.s x) q))])))) ∧
  True)) ∧
  (∀ (y_2 : Unit), (True → ((@I64 ((3 : @Int) + (@seekM (@SK.s x_3) (@SK.key x_3)))) ∧
  (∃ (x_4 : @SC), ((@Hd ((@SC.ok x_4) ∧
  (((@Cll.kind (@SC.c x_4)) = (6 : @Int)) ∧
  ((@goodM (@SC.c x_4)) = (0 : @Int))))) ∧
  ((((((@Shf.zp (@SC.s x_4)) = (@Shf.zp (@SC.s x))) ∧
  (((0 : @Nat) = (0 : @Nat)) ∧
  ((@Shf.n (@SC.s x_4)) = (@Shf.n (@SC.s x))))) ∧
  ((((@Shf.zq (@SC.s x_4)) = (@Shf.zq (@SC.s x))) ∧
  (((0 : @Nat) = (0 : @Nat)) ∧
  ((@Shf.m (@SC.s x_4)) = (@Shf.m (@SC.s x))))) ∧
  True)) ∧
  ((((6 : @Int) = (@Cll.kind (@SC.c x))) ∧
  (((@Cll.key (@SC.c x_4)) = (@Cll.key (@SC.c x))) ∧
  (((@Cll.value (@SC.c x_4)) = (@Cll.value (@SC.c x))) ∧
  (((@Cll.to (@SC.c x_4)) = (@Cll.to (@SC.c x))) ∧
  ((((0 : @Nat) = (0 : @Nat)) ∧
  ((@Cll.gn (@SC.c x_4)) = (@Cll.gn (@SC.c x)))) ∧
  True))))) ∧
  True)) ∧
  (((((@Shf.n (@SC.s x_4)) = (@Shf.n (@SC.s x))) ∧
  (∀ (q : @Nat), ((q < (@Shf.n (@SC.s x_4))) → ([(Value.string (@Shf.pk (@SC.s x_4) q)), (Value.string (@Shf.pv (@SC.s x_4) q))] = [(Value.string (@Shf.pk (@SC.s x) q)), (Value.string (@Shf.pv (@SC.s x) q))])))) ∧
  ((((@Shf.m (@SC.s x_4)) = (@Shf.m (@SC.s x))) ∧
  (∀ (q : @Nat), ((q < (@Shf.m (@SC.s x_4))) → ([(Value.string (@Shf.qv (@SC.s x_4) q))] = [(Value.string (@Shf.qv (@SC.s x) q))])))) ∧
  ((((@Cll.gn (@SC.c x_4)) = (@Cll.gn (@SC.c x))) ∧
  (∀ (q : @Nat), ((q < (@Cll.gn (@SC.c x_4))) → ([(Value.int @IntKind.i64 (@Mem.kind (@Cll.g (@SC.c x_4) q))), (Value.string (@Mem.key (@Cll.g (@SC.c x_4) q))), (Value.string (@Mem.value (@Cll.g (@SC.c x_4) q))), (Value.string (@Mem.to (@Cll.g (@SC.c x_4) q))), (Value.slice (@Mem.gp (@Cll.g (@SC.c x_4) q)) (@Mem.gn (@Cll.g (@SC.c x_4) q)) (@Mem.gc (@Cll.g (@SC.c x_4) q)))] = [(Value.int @IntKind.i64 (@Mem.kind (@Cll.g (@SC.c x) q))), (Value.string (@Mem.key (@Cll.g (@SC.c x) q))), (Value.string (@Mem.value (@Cll.g (@SC.c x) q))), (Value.string (@Mem.to (@Cll.g (@SC.c x) q))), (Value.slice (@Mem.gp (@Cll.g (@SC.c x) q)) (@Mem.gn (@Cll.g (@SC.c x) q)) (@Mem.gc (@Cll.g (@SC.c x) q)))])))) ∧
  True))) ∧
  ((∀ (y_3 : Unit), ((@Hd ((@selL (@SC.s x_4) (@Cll.key (@SC.c x_4)) (@Cll.to (@SC.c x_4)) (@Shf.n (@SC.s x_4))) = (@List.nil @Nat))) → ((∃ (s : @Nat), ((s ≤ (@List.length @Nat (@SC.sel x))) ∧
  (True ∧
  (((((s : Nat) : @Int) = (0 : @Int)) ∧
  True) ∧
  ((((0 : @Int) = (0 : @Int)) ∧
  ((@Bool.false = @Bool.false) ∧
  ((@es = @es) ∧
  (((Value.slice (@Option.none @Addr) (0 : @Nat) (0 : @Nat)) = (Value.slice (@Option.none @Addr) (0 : @Nat) (0 : @Nat))) ∧
  (((Value.slice (@Option.none @Addr) (0 : @Nat) (0 : @Nat)) = (Value.slice (@Option.none @Addr) (0 : @Nat) (0 : @Nat))) ∧
  (((0 : @Int) = (0 : @Int)) ∧
  True)))))) ∧
  ((True ∧
  (True ∧
  True)) ∧
  ((((@selSum (@SC.s x) (@SC.sel x) ((3 : @Int) + (@seekM (@SC.s x) (@Cll.key (@SC.c x)))) s) = ((3 : @Int) + (@seekM (@SK.s x_3) (@SK.key x_3)))) ∧
  (((0 : @Int) = (0 : @Int)) ∧
  (((0 : @Int) = (0 : @Int)) ∧
  (((0 : @Int) = (0 : @Int)) ∧
  (((0 : @Int) = (0 : @Int)) ∧
  (((0 : @Int) = (0 : @Int)) ∧
  True)))))) ∧
  ((((0 : @Int) = (0 : @Int)) ∧
  (((0 : @Int) = (0 : @Int)) ∧
  (((0 : @Int) = (0 : @Int)) ∧
  (((0 : @Int) = (0 : @Int)) ∧
  (((0 : @Int) = (0 : @Int)) ∧
  (((0 : @Int) = (0 : @Int)) ∧
  True)))))) ∧
  ((((@Cll.kind (@SC.c x)) = (@Cll.kind (@SC.c x))) ∧
  (((@Cll.key (@SC.c x)) = (@Cll.key (@SC.c x))) ∧
  (((@Cll.value (@SC.c x)) = (@Cll.value (@SC.c x))) ∧
  (((@Cll.to (@SC.c x)) = (@Cll.to (@SC.c x))) ∧
  ((((0 : @Nat) = (0 : @Nat)) ∧
  ((@Cll.gn (@SC.c x)) = (@Cll.gn (@SC.c x)))) ∧
  True))))) ∧
  (((((@Shf.zp (@SC.s x)) = (@Shf.zp (@SC.s x))) ∧
  (((0 : @Nat) = (0 : @Nat)) ∧
  ((@Shf.n (@SC.s x)) = (@Shf.n (@SC.s x))))) ∧
  ((((@Shf.zq (@SC.s x)) = (@Shf.zq (@SC.s x))) ∧
  (((0 : @Nat) = (0 : @Nat)) ∧
  ((@Shf.m (@SC.s x)) = (@Shf.m (@SC.s x))))) ∧
  True)) ∧
  ((((@rowG (@SC.c x)) = (@rowG (@SC.c x))) ∧
  (@Bool.true = @Bool.true)) ∧
  ((((@rowQ (@SC.s x)) = (@rowQ (@SC.s x))) ∧
  (@Bool.true = @Bool.true)) ∧
  ((((@rowP (@SC.s x)) = (@rowP (@SC.s x))) ∧
  (@Bool.true = @Bool.true)) ∧
  True))))))))))))) ∧
  ((∀ (s : @Nat), ((s ≤ (@List.length @Nat (@SC.sel x))) → (∃ (y_4 : Unit), (True ∧
  ((((@Cst.s0 (@callM (@SC.s x) (@SC.c x))) = (@selSum (@SC.s x) (@SC.sel x) ((3 : @Int) + (@seekM (@SC.s x) (@Cll.key (@SC.c x)))) s)) ∧
  (((@Cst.s1 (@callM (@SC.s x) (@SC.c x))) = (0 : @Int)) ∧
  (((@Cst.s2 (@callM (@SC.s x) (@SC.c x))) = (0 : @Int)) ∧
  (((@Cst.s3 (@callM (@SC.s x) (@SC.c x))) = (0 : @Int)) ∧
  (((@Cst.s4 (@callM (@SC.s x) (@SC.c x))) = (0 : @Int)) ∧
  (((@Cst.s5 (@callM (@SC.s x) (@SC.c x))) = (0 : @Int)) ∧
  True)))))) ∧
  ((((@rowP (@SC.s x)) = (@rowP (@SC.s x))) ∧
  (@Bool.true = @Bool.true)) ∧
  ((((@rowQ (@SC.s x)) = (@rowQ (@SC.s x))) ∧
  (@Bool.true = @Bool.true)) ∧
  ((((@rowG (@SC.c x)) = (@rowG (@SC.c x))) ∧
  (@Bool.true = @Bool.true)) ∧
  True)))))))) ∧
  True)))) ∧
  (∀ (y_3 : Unit), (True → ((∃ (s : @Nat), ((s ≤ (@List.length @Nat (@SC.sel x))) ∧
  (True ∧
  (((((s : Nat) : @Int) = (0 : @Int)) ∧
  True) ∧
  ((((0 : @Int) = (0 : @Int)) ∧
  ((@Bool.false = @Bool.false) ∧
  ((@es = @es) ∧
  ((((0 : @Nat) = (0 : @Nat)) ∧
  ((@List.length @Nat (@selL (@SC.s x_4) (@Cll.key (@SC.c x_4)) (@Cll.to (@SC.c x_4)) (@Shf.n (@SC.s x_4)))) = (@List.length @Nat (@selL (@SC.s x_4) (@Cll.key (@SC.c x_4)) (@Cll.to (@SC.c x_4)) (@Shf.n (@SC.s x_4)))))) ∧
  (((Value.slice (@Option.none @Addr) (0 : @Nat) (0 : @Nat)) = (Value.slice (@Option.none @Addr) (0 : @Nat) (0 : @Nat))) ∧
  (((0 : @Int) = (0 : @Int)) ∧
  True)))))) ∧
  ((True ∧
  (True ∧
  True)) ∧
  ((((@List.length @Nat (@selL (@SC.s x_4) (@Cll.key (@SC.c x_4)) (@Cll.to (@SC.c x_4)) (@Shf.n (@SC.s x_4)))) = (@List.length @Nat (@selL (@SC.s x_4) (@Cll.key (@SC.c x_4)) (@Cll.to (@SC.c x_4)) (@Shf.n (@SC.s x_4))))) ∧
  (∀ (q : @Nat), ((q < (@List.length @Nat (@selL (@SC.s x_4) (@Cll.key (@SC.c x_4)) (@Cll.to (@SC.c x_4)) (@Shf.n (@SC.s x_4))))) → ([(Value.string (@Shf.pk (@SC.s x_4) (@List.getD @Nat (@selL (@SC.s x_4) (@Cll.key (@SC.c x_4)) (@Cll.to (@SC.c x_4)) (@Shf.n (@SC.s x_4))) q (0 : @Nat)))), (Value.string (@Shf.pv (@SC.s x_4) (@List.getD @Nat (@selL (@SC.s x_4) (@Cll.key (@SC.c x_4)) (@Cll.to (@SC.c x_4)) (@Shf.n (@SC.s x_4))) q (0 : @Nat))))] = [(Value.string (@Shf.pk (@SC.s x_4) (@List.getD @Nat (@selL (@SC.s x_4) (@Cll.key (@SC.c x_4)) (@Cll.to (@SC.c x_4)) (@Shf.n (@SC.s x_4))) q (0 : @Nat)))), (Value.string (@Shf.pv (@SC.s x_4) (@List.getD @Nat (@selL (@SC.s x_4) (@Cll.key (@SC.c x_4)) (@Cll.to (@SC.c x_4)) (@Shf.n (@SC.s x_4))) q (0 : @Nat))))])))) ∧
  ((((@selSum (@SC.s x) (@SC.sel x) ((3 : @Int) + (@seekM (@SC.s x) (@Cll.key (@SC.c x)))) s) = ((3 : @Int) + (@seekM (@SK.s x_3) (@SK.key x_3)))) ∧
  (((0 : @Int) = (0 : @Int)) ∧
  (((0 : @Int) = (0 : @Int)) ∧
  (((0 : @Int) = (0 : @Int)) ∧
  (((0 : @Int) = (0 : @Int)) ∧
  (((0 : @Int) = (0 : @Int)) ∧
  True)))))) ∧
  ((((0 : @Int) = (0 : @Int)) ∧
  (((0 : @Int) = (0 : @Int)) ∧
  (((0 : @Int) = (0 : @Int)) ∧
  (((0 : @Int) = (0 : @Int)) ∧
  (((0 : @Int) = (0 : @Int)) ∧
  (((0 : @Int) = (0 : @Int)) ∧
  True)))))) ∧
  ((((@Cll.kind (@SC.c x)) = (@Cll.kind (@SC.c x))) ∧
  (((@Cll.key (@SC.c x)) = (@Cll.key (@SC.c x))) ∧
  (((@Cll.value (@SC.c x)) = (@Cll.value (@SC.c x))) ∧
  (((@Cll.to (@SC.c x)) = (@Cll.to (@SC.c x))) ∧
  ((((0 : @Nat) = (0 : @Nat)) ∧
  ((@Cll.gn (@SC.c x)) = (@Cll.gn (@SC.c x)))) ∧
  True))))) ∧
  (((((@Shf.zp (@SC.s x)) = (@Shf.zp (@SC.s x))) ∧
  (((0 : @Nat) = (0 : @Nat)) ∧
  ((@Shf.n (@SC.s x)) = (@Shf.n (@SC.s x))))) ∧
  ((((@Shf.zq (@SC.s x)) = (@Shf.zq (@SC.s x))) ∧
  (((0 : @Nat) = (0 : @Nat)) ∧
  ((@Shf.m (@SC.s x)) = (@Shf.m (@SC.s x))))) ∧
  True)) ∧
  ((((@rowG (@SC.c x)) = (@rowG (@SC.c x))) ∧
  (@Bool.true = @Bool.true)) ∧
  ((((@rowQ (@SC.s x)) = (@rowQ (@SC.s x))) ∧
  (@Bool.true = @Bool.true)) ∧
  ((((@rowP (@SC.s x)) = (@rowP (@SC.s x))) ∧
  (@Bool.true = @Bool.true)) ∧
  True)))))))))))))) ∧
  ((∀ (s : @Nat), ((s ≤ (@List.length @Nat (@SC.sel x))) → (cP (decide (((s : Nat) : @Int) < (((@List.length @Nat (@selL (@SC.s x_4) (@Cll.key (@SC.c x_4)) (@Cll.to (@SC.c x_4)) (@Shf.n (@SC.s x_4)))) : Nat) : @Int))) ((((0 : @Int) ≤ ((s : Nat) : @Int)) ∧
  (((s : Nat) : @Int) < (((@List.length @Nat (@selL (@SC.s x_4) (@Cll.key (@SC.c x_4)) (@Cll.to (@SC.c x_4)) (@Shf.n (@SC.s x_4)))) : Nat) : @Int))) ∧
  ((((0 : @Nat) + s) < (@List.length @Nat (@selL (@SC.s x_4) (@Cll.key (@SC.c x_4)) (@Cll.to (@SC.c x_4)) (@Shf.n (@SC.s x_4))))) ∧
  ((@I64 ((((@ByteArray.size (@Shf.pk (@SC.s x_4) (@List.getD @Nat (@selL (@SC.s x_4) (@Cll.key (@SC.c x_4)) (@Cll.to (@SC.c x_4)) (@Shf.n (@SC.s x_4))) ((0 : @Nat) + s) (0 : @Nat)))) : Nat) : @Int) + (((@ByteArray.size (@Shf.pv (@SC.s x_4) (@List.getD @Nat (@selL (@SC.s x_4) (@Cll.key (@SC.c x_4)) (@Cll.to (@SC.c x_4)) (@Shf.n (@SC.s x_4))) ((0 : @Nat) + s) (0 : @Nat)))) : Nat) : @Int))) ∧
  (∃ (x_5 : @Int), (True ∧
  (((x_5 = ((((@ByteArray.size (@Shf.pk (@SC.s x_4) (@List.getD @Nat (@selL (@SC.s x_4) (@Cll.key (@SC.c x_4)) (@Cll.to (@SC.c x_4)) (@Shf.n (@SC.s x_4))) ((0 : @Nat) + s) (0 : @Nat)))) : Nat) : @Int) + (((@ByteArray.size (@Shf.pv (@SC.s x_4) (@List.getD @Nat (@selL (@SC.s x_4) (@Cll.key (@SC.c x_4)) (@Cll.to (@SC.c x_4)) (@Shf.n (@SC.s x_4))) ((0 : @Nat) + s) (0 : @Nat)))) : Nat) : @Int))) ∧
  True) ∧
  (True ∧
  (∀ (y_4 : Unit), (True → (∃ (x_6 : @Int), (True ∧
  (((x_6 = (@needM x_5)) ∧
  True) ∧
  (True ∧
  (∀ (y_5 : Unit), (True → ((((AV.lit (Value.int @IntKind.i64 (@selSum (@SC.s x) (@SC.sel x) ((3 : @Int) + (@seekM (@SC.s x) (@Cll.key (@SC.c x)))) s))) = (AV.lit (Value.int @IntKind.i64 (@selSum (@SC.s x) (@SC.sel x) ((3 : @Int) + (@seekM (@SC.s x) (@Cll.key (@SC.c x)))) s)))) ∧
  True) ∧
  ((@I64 ((1 : @Int) + (@spanM x_6))) ∧
  ((@I64 ((@selSum (@SC.s x) (@SC.sel x) ((3 : @Int) + (@seekM (@SC.s x) (@Cll.key (@SC.c x)))) s) + ((1 : @Int) + (@spanM x_6)))) ∧
  (True ∧
  ((@I64 (((s : Nat) : @Int) + (1 : @Int))) ∧
  (∃ (s_1 : @Nat), ((s_1 ≤ (@List.length @Nat (@SC.sel x))) ∧
  ((((@List.length @Nat (@SC.sel x)) - s_1) < ((@List.length @Nat (@SC.sel x)) - s)) ∧
  (((((s_1 : Nat) : @Int) = (((s : Nat) : @Int) + (1 : @Int))) ∧
  True) ∧
  ((((0 : @Int) = (0 : @Int)) ∧
  ((@Bool.false = @Bool.false) ∧
  ((@es = @es) ∧
  ((((0 : @Nat) = (0 : @Nat)) ∧
  ((@List.length @Nat (@selL (@SC.s x_4) (@Cll.key (@SC.c x_4)) (@Cll.to (@SC.c x_4)) (@Shf.n (@SC.s x_4)))) = (@List.length @Nat (@selL (@SC.s x_4) (@Cll.key (@SC.c x_4)) (@Cll.to (@SC.c x_4)) (@Shf.n (@SC.s x_4)))))) ∧
  (((Value.slice (@Option.none @Addr) (0 : @Nat) (0 : @Nat)) = (Value.slice (@Option.none @Addr) (0 : @Nat) (0 : @Nat))) ∧
  (((0 : @Int) = (0 : @Int)) ∧
  True)))))) ∧
  ((True ∧
  (True ∧
  True)) ∧
  ((((@List.length @Nat (@selL (@SC.s x_4) (@Cll.key (@SC.c x_4)) (@Cll.to (@SC.c x_4)) (@Shf.n (@SC.s x_4)))) = (@List.length @Nat (@selL (@SC.s x_4) (@Cll.key (@SC.c x_4)) (@Cll.to (@SC.c x_4)) (@Shf.n (@SC.s x_4))))) ∧
  (∀ (q : @Nat), ((q < (@List.length @Nat (@selL (@SC.s x_4) (@Cll.key (@SC.c x_4)) (@Cll.to (@SC.c x_4)) (@Shf.n (@SC.s x_4))))) → ([(Value.string (@Shf.pk (@SC.s x_4) (@List.getD @Nat (@selL (@SC.s x_4) (@Cll.key (@SC.c x_4)) (@Cll.to (@SC.c x_4)) (@Shf.n (@SC.s x_4))) q (0 : @Nat)))), (Value.string (@Shf.pv (@SC.s x_4) (@List.getD @Nat (@selL (@SC.s x_4) (@Cll.key (@SC.c x_4)) (@Cll.to (@SC.c x_4)) (@Shf.n (@SC.s x_4))) q (0 : @Nat))))] = [(Value.string (@Shf.pk (@SC.s x_4) (@List.getD @Nat (@selL (@SC.s x_4) (@Cll.key (@SC.c x_4)) (@Cll.to (@SC.c x_4)) (@Shf.n (@SC.s x_4))) q (0 : @Nat)))), (Value.string (@Shf.pv (@SC.s x_4) (@List.getD @Nat (@selL (@SC.s x_4) (@Cll.key (@SC.c x_4)) (@Cll.to (@SC.c x_4)) (@Shf.n (@SC.s x_4))) q (0 : @Nat))))])))) ∧
  ((((@selSum (@SC.s x) (@SC.sel x) ((3 : @Int) + (@seekM (@SC.s x) (@Cll.key (@SC.c x)))) s_1) = ((@selSum (@SC.s x) (@SC.sel x) ((3 : @Int) + (@seekM (@SC.s x) (@Cll.key (@SC.c x)))) s) + ((1 : @Int) + (@spanM x_6)))) ∧
  (((0 : @Int) = (0 : @Int)) ∧
  (((0 : @Int) = (0 : @Int)) ∧
  (((0 : @Int) = (0 : @Int)) ∧
  (((0 : @Int) = (0 : @Int)) ∧
  (((0 : @Int) = (0 : @Int)) ∧
  True)))))) ∧
  ((((0 : @Int) = (0 : @Int)) ∧
  (((0 : @Int) = (0 : @Int)) ∧
  (((0 : @Int) = (0 : @Int)) ∧
  (((0 : @Int) = (0 : @Int)) ∧
  (((0 : @Int) = (0 : @Int)) ∧
  (((0 : @Int) = (0 : @Int)) ∧
  True)))))) ∧
  ((((@Cll.kind (@SC.c x)) = (@Cll.kind (@SC.c x))) ∧
  (((@Cll.key (@SC.c x)) = (@Cll.key (@SC.c x))) ∧
  (((@Cll.value (@SC.c x)) = (@Cll.value (@SC.c x))) ∧
  (((@Cll.to (@SC.c x)) = (@Cll.to (@SC.c x))) ∧
  ((((0 : @Nat) = (0 : @Nat)) ∧
  ((@Cll.gn (@SC.c x)) = (@Cll.gn (@SC.c x)))) ∧
  True))))) ∧
  (((((@Shf.zp (@SC.s x)) = (@Shf.zp (@SC.s x))) ∧
  (((0 : @Nat) = (0 : @Nat)) ∧
  ((@Shf.n (@SC.s x)) = (@Shf.n (@SC.s x))))) ∧
  ((((@Shf.zq (@SC.s x)) = (@Shf.zq (@SC.s x))) ∧
  (((0 : @Nat) = (0 : @Nat)) ∧
  ((@Shf.m (@SC.s x)) = (@Shf.m (@SC.s x))))) ∧
  True)) ∧
  ((((@rowG (@SC.c x)) = (@rowG (@SC.c x))) ∧
  (@Bool.true = @Bool.true)) ∧
  ((((@rowQ (@SC.s x)) = (@rowQ (@SC.s x))) ∧
  (@Bool.true = @Bool.true)) ∧
  ((((@rowP (@SC.s x)) = (@rowP (@SC.s x))) ∧
  (@Bool.true = @Bool.true)) ∧
  True)))))))))))))))))))))))))))))))))) (∃ (y_4 : Unit), (True ∧
  ((((@Cst.s0 (@callM (@SC.s x) (@SC.c x))) = (@selSum (@SC.s x) (@SC.sel x) ((3 : @Int) + (@seekM (@SC.s x) (@Cll.key (@SC.c x)))) s)) ∧
  (((@Cst.s1 (@callM (@SC.s x) (@SC.c x))) = (0 : @Int)) ∧
  (((@Cst.s2 (@callM (@SC.s x) (@SC.c x))) = (0 : @Int)) ∧
  (((@Cst.s3 (@callM (@SC.s x) (@SC.c x))) = (0 : @Int)) ∧
  (((@Cst.s4 (@callM (@SC.s x) (@SC.c x))) = (0 : @Int)) ∧
  (((@Cst.s5 (@callM (@SC.s x) (@SC.c x))) = (0 : @Int)) ∧
  True)))))) ∧
  ((((@rowP (@SC.s x)) = (@rowP (@SC.s x))) ∧
  (@Bool.true = @Bool.true)) ∧
  ((((@rowQ (@SC.s x)) = (@rowQ (@SC.s x))) ∧
  (@Bool.true = @Bool.true)) ∧
  ((((@rowG (@SC.c x)) = (@rowG (@SC.c x))) ∧
  (@Bool.true = @Bool.true)) ∧
  True))))))))) ∧
  True)))))))))))))))) (cP (@BEq.beq @Int (@instBEqOfDecidableEq @Int @Int.instDecidableEq) (@Cll.kind (@SC.c x)) (7 : @Int)) (∃ (x_3 : @SG), ((@Hd (@SG.ok x_3)) ∧
  ((((((0 : @Nat) = (0 : @Nat)) ∧
  ((@Shf.n (@SG.s x_3)) = (@Shf.n (@SC.s x)))) ∧
  ((((0 : @Nat) = (0 : @Nat)) ∧
  ((@Shf.m (@SG.s x_3)) = (@Shf.m (@SC.s x)))) ∧
  True)) ∧
  ((((0 : @Nat) = (0 : @Nat)) ∧
  ((@SG.n x_3) = (@Cll.gn (@SC.c x)))) ∧
  True)) ∧
  (((((@Shf.n (@SG.s x_3)) = (@Shf.n (@SC.s x))) ∧
  (∀ (q : @Nat), ((q < (@Shf.n (@SG.s x_3))) → ([(Value.string (@Shf.pk (@SG.s x_3) q)), (Value.string (@Shf.pv (@SG.s x_3) q))] = [(Value.string (@Shf.pk (@SC.s x) q)), (Value.string (@Shf.pv (@SC.s x) q))])))) ∧
  ((((@Shf.m (@SG.s x_3)) = (@Shf.m (@SC.s x))) ∧
  (∀ (q : @Nat), ((q < (@Shf.m (@SG.s x_3))) → ([(Value.string (@Shf.qv (@SG.s x_3) q))] = [(Value.string (@Shf.qv (@SC.s x) q))])))) ∧
  ((((@SG.n x_3) = (@Cll.gn (@SC.c x))) ∧
  (∀ (q : @Nat), ((q < (@SG.n x_3)) → ([(Value.int @IntKind.i64 (@Mem.kind (@SG.g x_3 q))), (Value.string (@Mem.key (@SG.g x_3 q))), (Value.string (@Mem.value (@SG.g x_3 q))), (Value.string (@Mem.to (@SG.g x_3 q))), (Value.slice (@Mem.gp (@SG.g x_3 q)) (@Mem.gn (@SG.g x_3 q)) (@Mem.gc (@SG.g x_3 q)))] = [(Value.int @IntKind.i64 (@Mem.kind (@Cll.g (@SC.c x) q))), (Value.string (@Mem.key (@Cll.g (@SC.c x) q))), (Value.string (@Mem.value (@Cll.g (@SC.c x) q))), (Value.string (@Mem.to (@Cll.g (@SC.c x) q))), (Value.slice (@Mem.gp (@Cll.g (@SC.c x) q)) (@Mem.gn (@Cll.g (@SC.c x) q)) (@Mem.gc (@Cll.g (@SC.c x) q)))])))) ∧
  True))) ∧
  (∀ (y_2 : Unit), (True → (∃ (y_3 : Unit), (True ∧
  ((((@Cst.s0 (@callM (@SC.s x) (@SC.c x))) = (@Cst.s0 (@groupTo (@SG.s x_3) (@SG.g x_3) (@SG.n x_3)))) ∧
  (((@Cst.s1 (@callM (@SC.s x) (@SC.c x))) = (@Cst.s1 (@groupTo (@SG.s x_3) (@SG.g x_3) (@SG.n x_3)))) ∧
  (((@Cst.s2 (@callM (@SC.s x) (@SC.c x))) = (@Cst.s2 (@groupTo (@SG.s x_3) (@SG.g x_3) (@SG.n x_3)))) ∧
  (((@Cst.s3 (@callM (@SC.s x) (@SC.c x))) = (@Cst.s3 (@groupTo (@SG.s x_3) (@SG.g x_3) (@SG.n x_3)))) ∧
  (((@Cst.s4 (@callM (@SC.s x) (@SC.c x))) = (@Cst.s4 (@groupTo (@SG.s x_3) (@SG.g x_3) (@SG.n x_3)))) ∧
  (((@Cst.s5 (@callM (@SC.s x) (@SC.c x))) = (@Cst.s5 (@groupTo (@SG.s x_3) (@SG.g x_3) (@SG.n x_3)))) ∧
  True)))))) ∧
  ((((@rowP (@SC.s x)) = (@rowP (@SC.s x))) ∧
  (@Bool.true = @Bool.true)) ∧
  ((((@rowQ (@SC.s x)) = (@rowQ (@SC.s x))) ∧
  (@Bool.true = @Bool.true)) ∧
  ((((@rowG (@SC.c x)) = (@rowG (@SC.c x))) ∧
  (@Bool.true = @Bool.true)) ∧
  True)))))))))))) (∃ (y_2 : Unit), (True ∧
  ((((@Cst.s0 (@callM (@SC.s x) (@SC.c x))) = (0 : @Int)) ∧
  (((@Cst.s1 (@callM (@SC.s x) (@SC.c x))) = (0 : @Int)) ∧
  (((@Cst.s2 (@callM (@SC.s x) (@SC.c x))) = (0 : @Int)) ∧
  (((@Cst.s3 (@callM (@SC.s x) (@SC.c x))) = (0 : @Int)) ∧
  (((@Cst.s4 (@callM (@SC.s x) (@SC.c x))) = (0 : @Int)) ∧
  (((@Cst.s5 (@callM (@SC.s x) (@SC.c x))) = (0 : @Int)) ∧
  True)))))) ∧
  ((((@rowP (@SC.s x)) = (@rowP (@SC.s x))) ∧
  (@Bool.true = @Bool.true)) ∧
  ((((@rowQ (@SC.s x)) = (@rowQ (@SC.s x))) ∧
  (@Bool.true = @Bool.true)) ∧
  ((((@rowG (@SC.c x)) = (@rowG (@SC.c x))) ∧
  (@Bool.true = @Bool.true)) ∧
  True)))))))))))))))))))))))))))
theorem callVC_ok (x : SC) : callVC x = callVC_wp x := by kernel_rfl
def rcallVC_wp (x : SC) : Prop := wpF Try.prog tblC tt (anRCall x) 200 5 13 (callC.args x) (hO callC.k (callC.os x)) (fun v h' => endsP callC.k x v h' callC.outs)
def rcallVC (x : SC) : Prop :=
  (∃ (x_1 : @Shf), ((@Hd (@Shf.small x_1)) ∧
  ((((((0 : @Nat) = (0 : @Nat)) ∧
  ((@Shf.n x_1) = (@Shf.n (@SC.s x)))) ∧
  ((((0 : @Nat) = (0 : @Nat)) ∧
  ((@Shf.m x_1) = (@Shf.m (@SC.s x)))) ∧
  True)) ∧
  True) ∧
  (((((@Shf.n x_1) = (@Shf.n (@SC.s x))) ∧
  (∀ (q : @Nat), ((q < (@Shf.n x_1)) → ([(Value.string (@Shf.pk x_1 q)), (Value.string (@Shf.pv x_1 q))] = [(Value.string (@Shf.pk (@SC.s x) q)), (Value.string (@Shf.pv (@SC.s x) q))])))) ∧
  ((((@Shf.m x_1) = (@Shf.m (@SC.s x))) ∧
  (∀ (q : @Nat), ((q < (@Shf.m x_1)) → ([(Value.string (@Shf.qv x_1 q))] = [(Value.string (@Shf.qv (@SC.s x) q))])))) ∧
  True)) ∧
  (∀ (y : Unit), (True → (cP (@Bool.not (@mayM x_1)) (∃ (y_1 : Unit), (True ∧
  ((((@Cst.s0 (@callM (@SC.s x) (@SC.c x))) = (0 : @Int)) ∧
  (((@Cst.s1 (@callM (@SC.s x) (@SC.c x))) = (0 : @Int)) ∧
  (((@Cst.s2 (@callM (@SC.s x) (@SC.c x))) = (0 : @Int)) ∧
  (((@Cst.s3 (@callM (@SC.s x) (@SC.c x))) = (0 : @Int)) ∧
  (((@Cst.s4 (@callM (@SC.s x) (@SC.c x))) = (0 : @Int)) ∧
  (((@Cst.s5 (@callM (@SC.s x) (@SC.c x))) = (0 : @Int)) ∧
  True)))))) ∧
  ((((@rowP (@SC.s x)) = (@rowP (@SC.s x))) ∧
  (@Bool.true = @Bool.true)) ∧
  ((((@rowQ (@SC.s x)) = (@rowQ (@SC.s x))) ∧
  (@Bool.true = @Bool.true)) ∧
  ((((@rowG (@SC.c x)) = (@rowG (@SC.c x))) ∧
  (@Bool.true = @Bool.true)) ∧
  True)))))) (∃ (x_2 : @Cll), ((@Hd (@Cll.small x_2)) ∧
  (((((@Cll.kind x_2) = (@Cll.kind (@SC.c x))) ∧
  (((@Cll.key x_2) = (@Cll.key (@SC.c x))) ∧
  (((@Cll.value x_2) = (@Cll.value (@SC.c x))) ∧
  (((@Cll.to x_2) = (@Cll.to (@SC.c x))) ∧
  ((((0 : @Nat) = (0 : @Nat)) ∧
  ((@Cll.gn x_2) = (@Cll.gn (@SC.c x)))) ∧
  True))))) ∧
  True) ∧
  (((((@Cll.gn x_2) = (@Cll.gn (@SC.c x))) ∧
  (∀ (q : @Nat), ((q < (@Cll.gn x_2)) → ([(Value.int @IntKind.i64 (@Mem.kind (@Cll.g x_2 q))), (Value.string (@Mem.key (@Cll.g x_2 q))), (Value.string (@Mem.value (@Cll.g x_2 q))), (Value.string (@Mem.to (@Cll.g x_2 q))), (Value.slice (@Mem.gp (@Cll.g x_2 q)) (@Mem.gn (@Cll.g x_2 q)) (@Mem.gc (@Cll.g x_2 q)))] = [(Value.int @IntKind.i64 (@Mem.kind (@Cll.g (@SC.c x) q))), (Value.string (@Mem.key (@Cll.g (@SC.c x) q))), (Value.string (@Mem.value (@Cll.g (@SC.c x) q))), (Value.string (@Mem.to (@Cll.g (@SC.c x) q))), (Value.slice (@Mem.gp (@Cll.g (@SC.c x) q)) (@Mem.gn (@Cll.g (@SC.c x) q)) (@Mem.gc (@Cll.g (@SC.c x) q)))])))) ∧
  True) ∧
  (∀ (y_1 : Unit), (True → (cP (@bne @Int (@instBEqOfDecidableEq @Int @Int.instDecidableEq) (@goodM x_2) (0 : @Int)) (∃ (y_2 : Unit), (True ∧
  ((((@Cst.s0 (@callM (@SC.s x) (@SC.c x))) = (1 : @Int)) ∧
  (((@Cst.s1 (@callM (@SC.s x) (@SC.c x))) = (0 : @Int)) ∧
  (((@Cst.s2 (@callM (@SC.s x) (@SC.c x))) = (0 : @Int)) ∧
  (((@Cst.s3 (@callM (@SC.s x) (@SC.c x))) = (0 : @Int)) ∧
  (((@Cst.s4 (@callM (@SC.s x) (@SC.c x))) = (0 : @Int)) ∧
  (((@Cst.s5 (@callM (@SC.s x) (@SC.c x))) = (0 : @Int)) ∧
  True)))))) ∧
  ((((@rowP (@SC.s x)) = (@rowP (@SC.s x))) ∧
  (@Bool.true = @Bool.true)) ∧
  ((((@rowQ (@SC.s x)) = (@rowQ (@SC.s x))) ∧
  (@Bool.true = @Bool.true)) ∧
  ((((@rowG (@SC.c x)) = (@rowG (@SC.c x))) ∧
  (@Bool.true = @Bool.true)) ∧
  True)))))) (cP (@BEq.beq @Int (@instBEqOfDecidableEq @Int @Int.instDecidableEq) (@Cll.kind (@SC.c x)) (1 : @Int)) (∃ (x_3 : @SK), ((@Hd (@SK.ok x_3)) ∧
  ((((((0 : @Nat) = (0 : @Nat)) ∧
  ((@Shf.n (@SK.s x_3)) = (@Shf.n (@SC.s x)))) ∧
  ((((0 : @Nat) = (0 : @Nat)) ∧
  ((@Shf.m (@SK.s x_3)) = (@Shf.m (@SC.s x)))) ∧
  True)) ∧
  (((@SK.key x_3) = (@Cll.key (@SC.c x))) ∧
  True)) ∧
  (((((@Shf.n (@SK.s x_3)) = (@Shf.n (@SC.s x))) ∧
  (∀ (q : @Nat), ((q < (@Shf.n (@SK.s x_3))) → ([(Value.string (@Shf.pk (@SK.s x_3) q)), (Value.string (@Shf.pv (@SK.s x_3) q))] = [(Value.string (@Shf.pk (@SC.s x) q)), (Value.string (@Shf.pv (@SC.s x) q))])))) ∧
  ((((@Shf.m (@SK.s x_3)) = (@Shf.m (@SC.s x))) ∧
  (∀ (q : @Nat), ((q < (@Shf.m (@SK.s x_3))) → ([(Value.string (@Shf.qv (@SK.s x_3) q))] = [(Value.string (@Shf.qv (@SC.s x) q))])))) ∧
  True)) ∧
  (∀ (y_2 : Unit), (True → (∃ (x_4 : @SK), ((@Hd (@SK.ok x_4)) ∧
  ((((((0 : @Nat) = (0 : @Nat)) ∧
  ((@Shf.n (@SK.s x_4)) = (@Shf.n (@SC.s x)))) ∧
  ((((0 : @Nat) = (0 : @Nat)) ∧
  ((@Shf.m (@SK.s x_4)) = (@Shf.m (@SC.s x)))) ∧
  True)) ∧
  (((@SK.key x_4) = (@Cll.key (@SC.c x))) ∧
  True)) ∧
  (((((@Shf.n (@SK.s x_4)) = (@Shf.n (@SC.s x))) ∧
  (∀ (q : @Nat), ((q < (@Shf.n (@SK.s x_4))) → ([(Value.string (@Shf.pk (@SK.s x_4) q)), (Value.string (@Shf.pv (@SK.s x_4) q))] = [(Value.string (@Shf.pk (@SC.s x) q)), (Value.string (@Shf.pv (@SC.s x) q))])))) ∧
  ((((@Shf.m (@SK.s x_4)) = (@Shf.m (@SC.s x))) ∧
  (∀ (q : @Nat), ((q < (@Shf.m (@SK.s x_4))) → ([(Value.string (@Shf.qv (@SK.s x_4) q))] = [(Value.string (@Shf.qv (@SC.s x) q))])))) ∧
  True)) ∧
  (∀ (y_3 : Unit), (True → ((@I64 ((2 : @Int) + (@findM (@SK.s x_4) (@SK.key x_4)))) ∧
  (cP (@hadM (@SK.s x_3) (@SK.key x_3)) ((@I64 ((((@ByteArray.size (@Cll.key (@SC.c x))) : Nat) : @Int) + (((@ByteArray.size (@getM (@SK.s x_3) (@SK.key x_3))) : Nat) : @Int))) ∧
  (∃ (x_5 : @Int), (True ∧
  (((x_5 = ((((@ByteArray.size (@Cll.key (@SC.c x))) : Nat) : @Int) + (((@ByteArray.size (@getM (@SK.s x_3) (@SK.key x_3))) : Nat) : @Int))) ∧
  True) ∧
  (True ∧
  (∀ (y_4 : Unit), (True → (∃ (x_6 : @Int), (True ∧
  (((x_6 = (@needM x_5)) ∧
  True) ∧
  (True ∧
  (∀ (y_5 : Unit), (True → ((((AV.lit (Value.int @IntKind.i64 ((2 : @Int) + (@findM (@SK.s x_4) (@SK.key x_4))))) = (AV.lit (Value.int @IntKind.i64 ((2 : @Int) + (@findM (@SK.s x_4) (@SK.key x_4)))))) ∧
  True) ∧
  ((@I64 (((2 : @Int) + (@findM (@SK.s x_4) (@SK.key x_4))) + (@spanM x_6))) ∧
  (True ∧
  (∃ (y_6 : Unit), (True ∧
  ((((@Cst.s0 (@callM (@SC.s x) (@SC.c x))) = (((2 : @Int) + (@findM (@SK.s x_4) (@SK.key x_4))) + (@spanM x_6))) ∧
  (((@Cst.s1 (@callM (@SC.s x) (@SC.c x))) = (0 : @Int)) ∧
  (((@Cst.s2 (@callM (@SC.s x) (@SC.c x))) = (0 : @Int)) ∧
  (((@Cst.s3 (@callM (@SC.s x) (@SC.c x))) = (0 : @Int)) ∧
  (((@Cst.s4 (@callM (@SC.s x) (@SC.c x))) = (0 : @Int)) ∧
  (((@Cst.s5 (@callM (@SC.s x) (@SC.c x))) = (0 : @Int)) ∧
  True)))))) ∧
  ((((@rowP (@SC.s x)) = (@rowP (@SC.s x))) ∧
  (@Bool.true = @Bool.true)) ∧
  ((((@rowQ (@SC.s x)) = (@rowQ (@SC.s x))) ∧
  (@Bool.true = @Bool.true)) ∧
  ((((@rowG (@SC.c x)) = (@rowG (@SC.c x))) ∧
  (@Bool.true = @Bool.true)) ∧
  True)))))))))))))))))))))) (∃ (y_4 : Unit), (True ∧
  ((((@Cst.s0 (@callM (@SC.s x) (@SC.c x))) = ((2 : @Int) + (@findM (@SK.s x_4) (@SK.key x_4)))) ∧
  (((@Cst.s1 (@callM (@SC.s x) (@SC.c x))) = (0 : @Int)) ∧
  (((@Cst.s2 (@callM (@SC.s x) (@SC.c x))) = (0 : @Int)) ∧
  (((@Cst.s3 (@callM (@SC.s x) (@SC.c x))) = (0 : @Int)) ∧
  (((@Cst.s4 (@callM (@SC.s x) (@SC.c x))) = (0 : @Int)) ∧
  (((@Cst.s5 (@callM (@SC.s x) (@SC.c x))) = (0 : @Int)) ∧
  True)))))) ∧
  ((((@rowP (@SC.s x)) = (@rowP (@SC.s x))) ∧
  (@Bool.true = @Bool.true)) ∧
  ((((@rowQ (@SC.s x)) = (@rowQ (@SC.s x))) ∧
  (@Bool.true = @Bool.true)) ∧
  ((((@rowG (@SC.c x)) = (@rowG (@SC.c x))) ∧
  (@Bool.true = @Bool.true)) ∧
  True)))))))))))))))))))) (cP (@BEq.beq @Int (@instBEqOfDecidableEq @Int @Int.instDecidableEq) (@Cll.kind (@SC.c x)) (2 : @Int)) (∃ (x_3 : @SP), ((@Hd (@SP.ok x_3)) ∧
  ((((((0 : @Nat) = (0 : @Nat)) ∧
  ((@Shf.n (@SP.s x_3)) = (@Shf.n (@SC.s x)))) ∧
  ((((0 : @Nat) = (0 : @Nat)) ∧
  ((@Shf.m (@SP.s x_3)) = (@Shf.m (@SC.s x)))) ∧
  True)) ∧
  ((((@SP.kind x_3) = (@Cll.kind (@SC.c x))) ∧
  (((@SP.key x_3) = (@Cll.key (@SC.c x))) ∧
  (((@SP.value x_3) = (@Cll.value (@SC.c x))) ∧
  (((@SP.to x_3) = (@Cll.to (@SC.c x))) ∧
  (True ∧
  True))))) ∧
  (((@SP.e x_3) = (1 : @Int)) ∧
  True))) ∧
  (((((@Shf.n (@SP.s x_3)) = (@Shf.n (@SC.s x))) ∧
  (∀ (q : @Nat), ((q < (@Shf.n (@SP.s x_3))) → ([(Value.string (@Shf.pk (@SP.s x_3) q)), (Value.string (@Shf.pv (@SP.s x_3) q))] = [(Value.string (@Shf.pk (@SC.s x) q)), (Value.string (@Shf.pv (@SC.s x) q))])))) ∧
  ((((@Shf.m (@SP.s x_3)) = (@Shf.m (@SC.s x))) ∧
  (∀ (q : @Nat), ((q < (@Shf.m (@SP.s x_3))) → ([(Value.string (@Shf.qv (@SP.s x_3) q))] = [(Value.string (@Shf.qv (@SC.s x) q))])))) ∧
  True)) ∧
  (∀ (y_2 : Unit), (True → ((@I64 ((@Cst.s0 (@SP.pt x_3)) + (2 : @Int))) ∧
  (∃ (y_3 : Unit), (True ∧
  ((((@Cst.s0 (@callM (@SC.s x) (@SC.c x))) = ((@Cst.s0 (@SP.pt x_3)) + (2 : @Int))) ∧
  (((@Cst.s1 (@callM (@SC.s x) (@SC.c x))) = (@Cst.s1 (@SP.pt x_3))) ∧
  (((@Cst.s2 (@callM (@SC.s x) (@SC.c x))) = (@Cst.s2 (@SP.pt x_3))) ∧
  (((@Cst.s3 (@callM (@SC.s x) (@SC.c x))) = (@Cst.s3 (@SP.pt x_3))) ∧
  (((@Cst.s4 (@callM (@SC.s x) (@SC.c x))) = (@Cst.s4 (@SP.pt x_3))) ∧
  (((@Cst.s5 (@callM (@SC.s x) (@SC.c x))) = (@Cst.s5 (@SP.pt x_3))) ∧
  True)))))) ∧
  ((((@rowP (@SC.s x)) = (@rowP (@SC.s x))) ∧
  (@Bool.true = @Bool.true)) ∧
  ((((@rowQ (@SC.s x)) = (@rowQ (@SC.s x))) ∧
  (@Bool.true = @Bool.true)) ∧
  ((((@rowG (@SC.c x)) = (@rowG (@SC.c x))) ∧
  (@Bool.true = @Bool.true)) ∧
  True))))))))))))) (cP (@BEq.beq @Int (@instBEqOfDecidableEq @Int @Int.instDecidableEq) (@Cll.kind (@SC.c x)) (3 : @Int)) (∃ (x_3 : @SP), ((@Hd (@SP.ok x_3)) ∧
  ((((((0 : @Nat) = (0 : @Nat)) ∧
  ((@Shf.n (@SP.s x_3)) = (@Shf.n (@SC.s x)))) ∧
  ((((0 : @Nat) = (0 : @Nat)) ∧
  ((@Shf.m (@SP.s x_3)) = (@Shf.m (@SC.s x)))) ∧
  True)) ∧
  ((((@SP.kind x_3) = (@Cll.kind (@SC.c x))) ∧
  (((@SP.key x_3) = (@Cll.key (@SC.c x))) ∧
  (((@SP.value x_3) = (@Cll.value (@SC.c x))) ∧
  (((@SP.to x_3) = (@Cll.to (@SC.c x))) ∧
  (True ∧
  True))))) ∧
  (((@SP.e x_3) = (1 : @Int)) ∧
  True))) ∧
  (((((@Shf.n (@SP.s x_3)) = (@Shf.n (@SC.s x))) ∧
  (∀ (q : @Nat), ((q < (@Shf.n (@SP.s x_3))) → ([(Value.string (@Shf.pk (@SP.s x_3) q)), (Value.string (@Shf.pv (@SP.s x_3) q))] = [(Value.string (@Shf.pk (@SC.s x) q)), (Value.string (@Shf.pv (@SC.s x) q))])))) ∧
  ((((@Shf.m (@SP.s x_3)) = (@Shf.m (@SC.s x))) ∧
  (∀ (q : @Nat), ((q < (@Shf.m (@SP.s x_3))) → ([(Value.string (@Shf.qv (@SP.s x_3) q))] = [(Value.string (@Shf.qv (@SC.s x) q))])))) ∧
  True)) ∧
  (∀ (y_2 : Unit), (True → ((@I64 ((@Cst.s0 (@SP.pt x_3)) + (2 : @Int))) ∧
  (∃ (y_3 : Unit), (True ∧
  ((((@Cst.s0 (@callM (@SC.s x) (@SC.c x))) = ((@Cst.s0 (@SP.pt x_3)) + (2 : @Int))) ∧
  (((@Cst.s1 (@callM (@SC.s x) (@SC.c x))) = (@Cst.s1 (@SP.pt x_3))) ∧
  (((@Cst.s2 (@callM (@SC.s x) (@SC.c x))) = (@Cst.s2 (@SP.pt x_3))) ∧
  (((@Cst.s3 (@callM (@SC.s x) (@SC.c x))) = (@Cst.s3 (@SP.pt x_3))) ∧
  (((@Cst.s4 (@callM (@SC.s x) (@SC.c x))) = (@Cst.s4 (@SP.pt x_3))) ∧
  (((@Cst.s5 (@callM (@SC.s x) (@SC.c x))) = (@Cst.s5 (@SP.pt x_3))) ∧
  True)))))) ∧
  ((((@rowP (@SC.s x)) = (@rowP (@SC.s x))) ∧
  (@Bool.true = @Bool.true)) ∧
  ((((@rowQ (@SC.s x)) = (@rowQ (@SC.s x))) ∧
  (@Bool.true = @Bool.true)) ∧
  ((((@rowG (@SC.c x)) = (@rowG (@SC.c x))) ∧
  (@Bool.true = @Bool.true)) ∧
  True))))))))))))) (cP (@BEq.beq @Int (@instBEqOfDecidableEq @Int @Int.instDecidableEq) (@Cll.kind (@SC.c x)) (4 : @Int)) (∃ (x_3 : @SP), ((@Hd (@SP.ok x_3)) ∧
  ((((((0 : @Nat) = (0 : @Nat)) ∧
  ((@Shf.n (@SP.s x_3)) = (@Shf.n (@SC.s x)))) ∧
  ((((0 : @Nat) = (0 : @Nat)) ∧
  ((@Shf.m (@SP.s x_3)) = (@Shf.m (@SC.s x)))) ∧
  True)) ∧
  ((((@SP.kind x_3) = (@Cll.kind (@SC.c x))) ∧
  (((@SP.key x_3) = (@Cll.key (@SC.c x))) ∧
  (((@SP.value x_3) = (@Cll.value (@SC.c x))) ∧
  (((@SP.to x_3) = (@Cll.to (@SC.c x))) ∧
  (True ∧
  True))))) ∧
  (((@SP.e x_3) = (1 : @Int)) ∧
  True))) ∧
  (((((@Shf.n (@SP.s x_3)) = (@Shf.n (@SC.s x))) ∧
  (∀ (q : @Nat), ((q < (@Shf.n (@SP.s x_3))) → ([(Value.string (@Shf.pk (@SP.s x_3) q)), (Value.string (@Shf.pv (@SP.s x_3) q))] = [(Value.string (@Shf.pk (@SC.s x) q)), (Value.string (@Shf.pv (@SC.s x) q))])))) ∧
  ((((@Shf.m (@SP.s x_3)) = (@Shf.m (@SC.s x))) ∧
  (∀ (q : @Nat), ((q < (@Shf.m (@SP.s x_3))) → ([(Value.string (@Shf.qv (@SP.s x_3) q))] = [(Value.string (@Shf.qv (@SC.s x) q))])))) ∧
  True)) ∧
  (∀ (y_2 : Unit), (True → ((@I64 ((@Cst.s0 (@SP.pt x_3)) + (2 : @Int))) ∧
  (∃ (y_3 : Unit), (True ∧
  ((((@Cst.s0 (@callM (@SC.s x) (@SC.c x))) = ((@Cst.s0 (@SP.pt x_3)) + (2 : @Int))) ∧
  (((@Cst.s1 (@callM (@SC.s x) (@SC.c x))) = (@Cst.s1 (@SP.pt x_3))) ∧
  (((@Cst.s2 (@callM (@SC.s x) (@SC.c x))) = (@Cst.s2 (@SP.pt x_3))) ∧
  (((@Cst.s3 (@callM (@SC.s x) (@SC.c x))) = (@Cst.s3 (@SP.pt x_3))) ∧
  (((@Cst.s4 (@callM (@SC.s x) (@SC.c x))) = (@Cst.s4 (@SP.pt x_3))) ∧
  (((@Cst.s5 (@callM (@SC.s x) (@SC.c x))) = (@Cst.s5 (@SP.pt x_3))) ∧
  True)))))) ∧
  ((((@rowP (@SC.s x)) = (@rowP (@SC.s x))) ∧
  (@Bool.true = @Bool.true)) ∧
  ((((@rowQ (@SC.s x)) = (@rowQ (@SC.s x))) ∧
  (@Bool.true = @Bool.true)) ∧
  ((((@rowG (@SC.c x)) = (@rowG (@SC.c x))) ∧
  (@Bool.true = @Bool.true)) ∧
  True))))))))))))) (cP (@BEq.beq @Int (@instBEqOfDecidableEq @Int @Int.instDecidableEq) (@Cll.kind (@SC.c x)) (5 : @Int)) (cP (decide (@GT.gt @Int @Int.instLTInt (((@Shf.m (@SC.s x)) : Nat) : @Int) (0 : @Int))) ((((0 : @Int) ≤ (0 : @Int)) ∧
  ((1 : @Int) ≤ (((@Shf.m (@SC.s x)) : Nat) : @Int))) ∧
  (((0 : @Nat) < (@Shf.m (@SC.s x))) ∧
  (∃ (x_3 : @Int), (True ∧
  (((x_3 = (((@ByteArray.size (@Shf.qv (@SC.s x) (0 : @Nat))) : Nat) : @Int)) ∧
  True) ∧
  (True ∧
  (∀ (y_2 : Unit), (True → (∃ (x_4 : @Int), (True ∧
  (((x_4 = (@needM x_3)) ∧
  True) ∧
  (True ∧
  (∀ (y_3 : Unit), (True → ((@I64 ((6 : @Int) + (@spanM x_4))) ∧
  (∃ (y_4 : Unit), (True ∧
  ((((@Cst.s0 (@callM (@SC.s x) (@SC.c x))) = ((6 : @Int) + (@spanM x_4))) ∧
  (((@Cst.s1 (@callM (@SC.s x) (@SC.c x))) = (2 : @Int)) ∧
  (((@Cst.s2 (@callM (@SC.s x) (@SC.c x))) = (0 : @Int)) ∧
  (((@Cst.s3 (@callM (@SC.s x) (@SC.c x))) = (0 : @Int)) ∧
  (((@Cst.s4 (@callM (@SC.s x) (@SC.c x))) = (1 : @Int)) ∧
  (((@Cst.s5 (@callM (@SC.s x) (@SC.c x))) = (1 : @Int)) ∧
  True)))))) ∧
  ((((@rowP (@SC.s x)) = (@rowP (@SC.s x))) ∧
  (@Bool.true = @Bool.true)) ∧
  ((((@rowQ (@SC.s x)) = (@rowQ (@SC.s x))) ∧
  (@Bool.true = @Bool.true)) ∧
  ((((@rowG (@SC.c x)) = (@rowG (@SC.c x))) ∧
  (@Bool.true = @Bool.true)) ∧
  True))))))))))))))))))))) (∃ (y_2 : Unit), (True ∧
  ((((@Cst.s0 (@callM (@SC.s x) (@SC.c x))) = (3 : @Int)) ∧
  (((@Cst.s1 (@callM (@SC.s x) (@SC.c x))) = (0 : @Int)) ∧
  (((@Cst.s2 (@callM (@SC.s x) (@SC.c x))) = (0 : @Int)) ∧
  (((@Cst.s3 (@callM (@SC.s x) (@SC.c x))) = (0 : @Int)) ∧
  (((@Cst.s4 (@callM (@SC.s x) (@SC.c x))) = (0 : @Int)) ∧
  (((@Cst.s5 (@callM (@SC.s x) (@SC.c x))) = (0 : @Int)) ∧
  True)))))) ∧
  ((((@rowP (@SC.s x)) = (@rowP (@SC.s x))) ∧
  (@Bool.true = @Bool.true)) ∧
  ((((@rowQ (@SC.s x)) = (@rowQ (@SC.s x))) ∧
  (@Bool.true = @Bool.true)) ∧
  ((((@rowG (@SC.c x)) = (@rowG (@SC.c x))) ∧
  (@Bool.true = @Bool.true)) ∧
  True))))))) (cP (@BEq.beq @Int (@instBEqOfDecidableEq @Int @Int.instDecidableEq) (@Cll.kind (@SC.c x)) (6 : @Int)) (∃ (x_3 : @SP), ((@Hd ((@Shf.small (@SP.s x_3)) ∧
  ((@ByteArray.size (@SP.key x_3)) ≤ (1500 : @Nat)))) ∧
  ((((((0 : @Nat) = (0 : @Nat)) ∧
  ((@Shf.n (@SP.s x_3)) = (@Shf.n (@SC.s x)))) ∧
  ((((0 : @Nat) = (0 : @Nat)) ∧
  ((@Shf.m (@SP.s x_3)) = (@Shf.m (@SC.s x)))) ∧
  True)) ∧
  ((((@SP.kind x_3) = (@Cll.kind (@SC.c x))) ∧
  (((@SP.key x_3) = (@Cll.key (@SC.c x))) ∧
  (((@SP.value x_3) = (@Cll.value (@SC.c x))) ∧
  (((@SP.to x_3) = (@Cll.to (@SC.c x))) ∧
  (True ∧
  True))))) ∧
  True)) ∧
  (((((@Shf.n (@SP.s x_3)) = (@Shf.n (@SC.s x))) ∧
  (∀ (q : @Nat), ((q < (@Shf.n (@SP.s x_3))) → ([(Value.string (@Shf.pk (@SP.s x_3) q)), (Value.string (@Shf.pv (@SP.s x_3) q))] = [(Value.string (@Shf.pk (@SC.s x) q)), (Value.string (@Shf.pv (@SC.s x) q))])))) ∧
  ((((@Shf.m (@SP.s x_3)) = (@Shf.m (@SC.s x))) ∧
  (∀ (q : @Nat), ((q < (@Shf.m (@SP.s x_3))) → ([(Value.string (@Shf.qv (@SP.s x_3) q))] = [(Value.string (@Shf.qv (@SC.s x) q))])))) ∧
  True)) ∧
  (∀ (y_2 : Unit), (True → (∃ (y_3 : Unit), (True ∧
  ((((@Cst.s0 (@callM (@SC.s x) (@SC.c x))) = (@scanTo (@SP.s x_3) (@SP.key x_3) (@SP.to x_3) ((3 : @Int) + (@seekM (@SP.s x_3) (@SP.key x_3))) (@Shf.n (@SP.s x_3)))) ∧
  (((@Cst.s1 (@callM (@SC.s x) (@SC.c x))) = (0 : @Int)) ∧
  (((@Cst.s2 (@callM (@SC.s x) (@SC.c x))) = (0 : @Int)) ∧
  (((@Cst.s3 (@callM (@SC.s x) (@SC.c x))) = (0 : @Int)) ∧
  (((@Cst.s4 (@callM (@SC.s x) (@SC.c x))) = (0 : @Int)) ∧
  (((@Cst.s5 (@callM (@SC.s x) (@SC.c x))) = (0 : @Int)) ∧
  True)))))) ∧
  ((((@rowP (@SC.s x)) = (@rowP (@SC.s x))) ∧
  (@Bool.true = @Bool.true)) ∧
  ((((@rowQ (@SC.s x)) = (@rowQ (@SC.s x))) ∧
  (@Bool.true = @Bool.true)) ∧
  ((((@rowG (@SC.c x)) = (@rowG (@SC.c x))) ∧
  (@Bool.true = @Bool.true)) ∧
  True)))))))))))) (cP (@BEq.beq @Int (@instBEqOfDecidableEq @Int @Int.instDecidableEq) (@Cll.kind (@SC.c x)) (7 : @Int)) ((∃ (s : @Nat), ((s ≤ (@Cll.gn (@SC.c x))) ∧
  (True ∧
  (((((s : Nat) : @Int) = (0 : @Int)) ∧
  True) ∧
  ((((@Cst.s0 (@groupTo (@SC.s x) (@Cll.g (@SC.c x)) s)) = (3 : @Int)) ∧
  (((@Cst.s1 (@groupTo (@SC.s x) (@Cll.g (@SC.c x)) s)) = (0 : @Int)) ∧
  (((@Cst.s2 (@groupTo (@SC.s x) (@Cll.g (@SC.c x)) s)) = (0 : @Int)) ∧
  (((@Cst.s3 (@groupTo (@SC.s x) (@Cll.g (@SC.c x)) s)) = (0 : @Int)) ∧
  (((@Cst.s4 (@groupTo (@SC.s x) (@Cll.g (@SC.c x)) s)) = (0 : @Int)) ∧
  (((@Cst.s5 (@groupTo (@SC.s x) (@Cll.g (@SC.c x)) s)) = (0 : @Int)) ∧
  True)))))) ∧
  ((((0 : @Int) = (0 : @Int)) ∧
  (((0 : @Int) = (0 : @Int)) ∧
  (((0 : @Int) = (0 : @Int)) ∧
  (((0 : @Int) = (0 : @Int)) ∧
  (((0 : @Int) = (0 : @Int)) ∧
  (((0 : @Int) = (0 : @Int)) ∧
  True)))))) ∧
  ((((@Cll.kind (@SC.c x)) = (@Cll.kind (@SC.c x))) ∧
  (((@Cll.key (@SC.c x)) = (@Cll.key (@SC.c x))) ∧
  (((@Cll.value (@SC.c x)) = (@Cll.value (@SC.c x))) ∧
  (((@Cll.to (@SC.c x)) = (@Cll.to (@SC.c x))) ∧
  ((((0 : @Nat) = (0 : @Nat)) ∧
  ((@Cll.gn (@SC.c x)) = (@Cll.gn (@SC.c x)))) ∧
  True))))) ∧
  (((((@Shf.zp (@SC.s x)) = (@Shf.zp (@SC.s x))) ∧
  (((0 : @Nat) = (0 : @Nat)) ∧
  ((@Shf.n (@SC.s x)) = (@Shf.n (@SC.s x))))) ∧
  ((((@Shf.zq (@SC.s x)) = (@Shf.zq (@SC.s x))) ∧
  (((0 : @Nat) = (0 : @Nat)) ∧
  ((@Shf.m (@SC.s x)) = (@Shf.m (@SC.s x))))) ∧
  True)) ∧
  ((((@rowG (@SC.c x)) = (@rowG (@SC.c x))) ∧
  (@Bool.true = @Bool.true)) ∧
  ((((@rowQ (@SC.s x)) = (@rowQ (@SC.s x))) ∧
  (@Bool.true = @Bool.true)) ∧
  ((((@rowP (@SC.s x)) = (@rowP (@SC.s x))) ∧
  (@Bool.true = @Bool.true)) ∧
  True))))))))))) ∧
  ((∀ (s : @Nat), ((s ≤ (@Cll.gn (@SC.c x))) → (cP (decide (((s : Nat) : @Int) < (((@Cll.gn (@SC.c x)) : Nat) : @Int))) ((((0 : @Int) ≤ ((s : Nat) : @Int)) ∧
  (((s : Nat) : @Int) < (((@Cll.gn (@SC.c x)) : Nat) : @Int))) ∧
  ((((0 : @Nat) + s) < (@Cll.gn (@SC.c x))) ∧
  (∃ (x_3 : @SP), ((@Hd (@SP.ok x_3)) ∧
  ((((((0 : @Nat) = (0 : @Nat)) ∧
  ((@Shf.n (@SP.s x_3)) = (@Shf.n (@SC.s x)))) ∧
  ((((0 : @Nat) = (0 : @Nat)) ∧
  ((@Shf.m (@SP.s x_3)) = (@Shf.m (@SC.s x)))) ∧
  True)) ∧
  ((((@SP.kind x_3) = (@Mem.kind (@Cll.g (@SC.c x) ((0 : @Nat) + s)))) ∧
  (((@SP.key x_3) = (@Mem.key (@Cll.g (@SC.c x) ((0 : @Nat) + s)))) ∧
  (((@SP.value x_3) = (@Mem.value (@Cll.g (@SC.c x) ((0 : @Nat) + s)))) ∧
  (((@SP.to x_3) = (@Mem.to (@Cll.g (@SC.c x) ((0 : @Nat) + s)))) ∧
  (True ∧
  True))))) ∧
  (((@SP.e x_3) = (0 : @Int)) ∧
  True))) ∧
  (((((@Shf.n (@SP.s x_3)) = (@Shf.n (@SC.s x))) ∧
  (∀ (q : @Nat), ((q < (@Shf.n (@SP.s x_3))) → ([(Value.string (@Shf.pk (@SP.s x_3) q)), (Value.string (@Shf.pv (@SP.s x_3) q))] = [(Value.string (@Shf.pk (@SC.s x) q)), (Value.string (@Shf.pv (@SC.s x) q))])))) ∧
  ((((@Shf.m (@SP.s x_3)) = (@Shf.m (@SC.s x))) ∧
  (∀ (q : @Nat), ((q < (@Shf.m (@SP.s x_3))) → ([(Value.string (@Shf.qv (@SP.s x_3) q))] = [(Value.string (@Shf.qv (@SC.s x) q))])))) ∧
  True)) ∧
  (∀ (y_2 : Unit), (True → ((((AV.agg [(AV.lit (Value.int @IntKind.i64 (@Cst.s0 (@groupTo (@SC.s x) (@Cll.g (@SC.c x)) s)))), (AV.lit (Value.int @IntKind.i64 (@Cst.s1 (@groupTo (@SC.s x) (@Cll.g (@SC.c x)) s)))), (AV.lit (Value.int @IntKind.i64 (@Cst.s2 (@groupTo (@SC.s x) (@Cll.g (@SC.c x)) s)))), (AV.lit (Value.int @IntKind.i64 (@Cst.s3 (@groupTo (@SC.s x) (@Cll.g (@SC.c x)) s)))), (AV.lit (Value.int @IntKind.i64 (@Cst.s4 (@groupTo (@SC.s x) (@Cll.g (@SC.c x)) s)))), (AV.lit (Value.int @IntKind.i64 (@Cst.s5 (@groupTo (@SC.s x) (@Cll.g (@SC.c x)) s))))]) = (AV.agg [(AV.lit (Value.int @IntKind.i64 (@Cst.s0 (@groupTo (@SC.s x) (@Cll.g (@SC.c x)) s)))), (AV.lit (Value.int @IntKind.i64 (@Cst.s1 (@groupTo (@SC.s x) (@Cll.g (@SC.c x)) s)))), (AV.lit (Value.int @IntKind.i64 (@Cst.s2 (@groupTo (@SC.s x) (@Cll.g (@SC.c x)) s)))), (AV.lit (Value.int @IntKind.i64 (@Cst.s3 (@groupTo (@SC.s x) (@Cll.g (@SC.c x)) s)))), (AV.lit (Value.int @IntKind.i64 (@Cst.s4 (@groupTo (@SC.s x) (@Cll.g (@SC.c x)) s)))), (AV.lit (Value.int @IntKind.i64 (@Cst.s5 (@groupTo (@SC.s x) (@Cll.g (@SC.c x)) s))))])) ∧
  True) ∧
  ((@I64 ((@imax (0 : @Int) (@imin (@Cst.s0 (@groupTo (@SC.s x) (@Cll.g (@SC.c x)) s)) (1099511627776 : @Int))) + (@imax (0 : @Int) (@imin (@Cst.s0 (@SP.pt x_3)) (1099511627776 : @Int))))) ∧
  ((((AV.lit (Value.int @IntKind.i64 (@Cst.s5 (@SP.pt x_3)))) = (AV.lit (Value.int @IntKind.i64 (@Cst.s5 (@SP.pt x_3))))) ∧
  (((AV.lit (Value.int @IntKind.i64 (@Cst.s5 (@groupTo (@SC.s x) (@Cll.g (@SC.c x)) s)))) = (AV.lit (Value.int @IntKind.i64 (@Cst.s5 (@groupTo (@SC.s x) (@Cll.g (@SC.c x)) s))))) ∧
  (((AV.lit (Value.int @IntKind.i64 (@Cst.s4 (@SP.pt x_3)))) = (AV.lit (Value.int @IntKind.i64 (@Cst.s4 (@SP.pt x_3))))) ∧
  (((AV.lit (Value.int @IntKind.i64 (@Cst.s4 (@groupTo (@SC.s x) (@Cll.g (@SC.c x)) s)))) = (AV.lit (Value.int @IntKind.i64 (@Cst.s4 (@groupTo (@SC.s x) (@Cll.g (@SC.c x)) s))))) ∧
  (((AV.lit (Value.int @IntKind.i64 (@Cst.s3 (@SP.pt x_3)))) = (AV.lit (Value.int @IntKind.i64 (@Cst.s3 (@SP.pt x_3))))) ∧
  (((AV.lit (Value.int @IntKind.i64 (@Cst.s3 (@groupTo (@SC.s x) (@Cll.g (@SC.c x)) s)))) = (AV.lit (Value.int @IntKind.i64 (@Cst.s3 (@groupTo (@SC.s x) (@Cll.g (@SC.c x)) s))))) ∧
  (((AV.lit (Value.int @IntKind.i64 (@Cst.s2 (@SP.pt x_3)))) = (AV.lit (Value.int @IntKind.i64 (@Cst.s2 (@SP.pt x_3))))) ∧
  (((AV.lit (Value.int @IntKind.i64 (@Cst.s2 (@groupTo (@SC.s x) (@Cll.g (@SC.c x)) s)))) = (AV.lit (Value.int @IntKind.i64 (@Cst.s2 (@groupTo (@SC.s x) (@Cll.g (@SC.c x)) s))))) ∧
  (((AV.lit (Value.int @IntKind.i64 (@Cst.s1 (@SP.pt x_3)))) = (AV.lit (Value.int @IntKind.i64 (@Cst.s1 (@SP.pt x_3))))) ∧
  (((AV.lit (Value.int @IntKind.i64 (@Cst.s1 (@groupTo (@SC.s x) (@Cll.g (@SC.c x)) s)))) = (AV.lit (Value.int @IntKind.i64 (@Cst.s1 (@groupTo (@SC.s x) (@Cll.g (@SC.c x)) s))))) ∧
  True)))))))))) ∧
  ((@I64 ((@imax (0 : @Int) (@imin (@Cst.s1 (@groupTo (@SC.s x) (@Cll.g (@SC.c x)) s)) (1099511627776 : @Int))) + (@imax (0 : @Int) (@imin (@Cst.s1 (@SP.pt x_3)) (1099511627776 : @Int))))) ∧
  ((((AV.lit (Value.int @IntKind.i64 (@Cst.s5 (@SP.pt x_3)))) = (AV.lit (Value.int @IntKind.i64 (@Cst.s5 (@SP.pt x_3))))) ∧
  (((AV.lit (Value.int @IntKind.i64 (@Cst.s5 (@groupTo (@SC.s x) (@Cll.g (@SC.c x)) s)))) = (AV.lit (Value.int @IntKind.i64 (@Cst.s5 (@groupTo (@SC.s x) (@Cll.g (@SC.c x)) s))))) ∧
  (((AV.lit (Value.int @IntKind.i64 (@Cst.s4 (@SP.pt x_3)))) = (AV.lit (Value.int @IntKind.i64 (@Cst.s4 (@SP.pt x_3))))) ∧
  (((AV.lit (Value.int @IntKind.i64 (@Cst.s4 (@groupTo (@SC.s x) (@Cll.g (@SC.c x)) s)))) = (AV.lit (Value.int @IntKind.i64 (@Cst.s4 (@groupTo (@SC.s x) (@Cll.g (@SC.c x)) s))))) ∧
  (((AV.lit (Value.int @IntKind.i64 (@Cst.s3 (@SP.pt x_3)))) = (AV.lit (Value.int @IntKind.i64 (@Cst.s3 (@SP.pt x_3))))) ∧
  (((AV.lit (Value.int @IntKind.i64 (@Cst.s3 (@groupTo (@SC.s x) (@Cll.g (@SC.c x)) s)))) = (AV.lit (Value.int @IntKind.i64 (@Cst.s3 (@groupTo (@SC.s x) (@Cll.g (@SC.c x)) s))))) ∧
  (((AV.lit (Value.int @IntKind.i64 (@Cst.s2 (@SP.pt x_3)))) = (AV.lit (Value.int @IntKind.i64 (@Cst.s2 (@SP.pt x_3))))) ∧
  (((AV.lit (Value.int @IntKind.i64 (@Cst.s2 (@groupTo (@SC.s x) (@Cll.g (@SC.c x)) s)))) = (AV.lit (Value.int @IntKind.i64 (@Cst.s2 (@groupTo (@SC.s x) (@Cll.g (@SC.c x)) s))))) ∧
  True)))))))) ∧
  ((@I64 ((@imax (0 : @Int) (@imin (@Cst.s2 (@groupTo (@SC.s x) (@Cll.g (@SC.c x)) s)) (1099511627776 : @Int))) + (@imax (0 : @Int) (@imin (@Cst.s2 (@SP.pt x_3)) (1099511627776 : @Int))))) ∧
  ((((AV.lit (Value.int @IntKind.i64 (@Cst.s5 (@SP.pt x_3)))) = (AV.lit (Value.int @IntKind.i64 (@Cst.s5 (@SP.pt x_3))))) ∧
  (((AV.lit (Value.int @IntKind.i64 (@Cst.s5 (@groupTo (@SC.s x) (@Cll.g (@SC.c x)) s)))) = (AV.lit (Value.int @IntKind.i64 (@Cst.s5 (@groupTo (@SC.s x) (@Cll.g (@SC.c x)) s))))) ∧
  (((AV.lit (Value.int @IntKind.i64 (@Cst.s4 (@SP.pt x_3)))) = (AV.lit (Value.int @IntKind.i64 (@Cst.s4 (@SP.pt x_3))))) ∧
  (((AV.lit (Value.int @IntKind.i64 (@Cst.s4 (@groupTo (@SC.s x) (@Cll.g (@SC.c x)) s)))) = (AV.lit (Value.int @IntKind.i64 (@Cst.s4 (@groupTo (@SC.s x) (@Cll.g (@SC.c x)) s))))) ∧
  (((AV.lit (Value.int @IntKind.i64 (@Cst.s3 (@SP.pt x_3)))) = (AV.lit (Value.int @IntKind.i64 (@Cst.s3 (@SP.pt x_3))))) ∧
  (((AV.lit (Value.int @IntKind.i64 (@Cst.s3 (@groupTo (@SC.s x) (@Cll.g (@SC.c x)) s)))) = (AV.lit (Value.int @IntKind.i64 (@Cst.s3 (@groupTo (@SC.s x) (@Cll.g (@SC.c x)) s))))) ∧
  True)))))) ∧
  ((@I64 ((@imax (0 : @Int) (@imin (@Cst.s3 (@groupTo (@SC.s x) (@Cll.g (@SC.c x)) s)) (1099511627776 : @Int))) + (@imax (0 : @Int) (@imin (@Cst.s3 (@SP.pt x_3)) (1099511627776 : @Int))))) ∧
  ((((AV.lit (Value.int @IntKind.i64 (@Cst.s5 (@SP.pt x_3)))) = (AV.lit (Value.int @IntKind.i64 (@Cst.s5 (@SP.pt x_3))))) ∧
  (((AV.lit (Value.int @IntKind.i64 (@Cst.s5 (@groupTo (@SC.s x) (@Cll.g (@SC.c x)) s)))) = (AV.lit (Value.int @IntKind.i64 (@Cst.s5 (@groupTo (@SC.s x) (@Cll.g (@SC.c x)) s))))) ∧
  (((AV.lit (Value.int @IntKind.i64 (@Cst.s4 (@SP.pt x_3)))) = (AV.lit (Value.int @IntKind.i64 (@Cst.s4 (@SP.pt x_3))))) ∧
  (((AV.lit (Value.int @IntKind.i64 (@Cst.s4 (@groupTo (@SC.s x) (@Cll.g (@SC.c x)) s)))) = (AV.lit (Value.int @IntKind.i64 (@Cst.s4 (@groupTo (@SC.s x) (@Cll.g (@SC.c x)) s))))) ∧
  True)))) ∧
  ((@I64 ((@imax (0 : @Int) (@imin (@Cst.s4 (@groupTo (@SC.s x) (@Cll.g (@SC.c x)) s)) (1099511627776 : @Int))) + (@imax (0 : @Int) (@imin (@Cst.s4 (@SP.pt x_3)) (1099511627776 : @Int))))) ∧
  ((((AV.lit (Value.int @IntKind.i64 (@Cst.s5 (@SP.pt x_3)))) = (AV.lit (Value.int @IntKind.i64 (@Cst.s5 (@SP.pt x_3))))) ∧
  (((AV.lit (Value.int @IntKind.i64 (@Cst.s5 (@groupTo (@SC.s x) (@Cll.g (@SC.c x)) s)))) = (AV.lit (Value.int @IntKind.i64 (@Cst.s5 (@groupTo (@SC.s x) (@Cll.g (@SC.c x)) s))))) ∧
  True)) ∧
  ((@I64 ((@imax (0 : @Int) (@imin (@Cst.s5 (@groupTo (@SC.s x) (@Cll.g (@SC.c x)) s)) (1099511627776 : @Int))) + (@imax (0 : @Int) (@imin (@Cst.s5 (@SP.pt x_3)) (1099511627776 : @Int))))) ∧
  (True ∧
  (True ∧
  (True ∧
  (True ∧
  ((@I64 (((s : Nat) : @Int) + (1 : @Int))) ∧
  (∃ (s_1 : @Nat), ((s_1 ≤ (@Cll.gn (@SC.c x))) ∧
  ((((@Cll.gn (@SC.c x)) - s_1) < ((@Cll.gn (@SC.c x)) - s)) ∧
  (((((s_1 : Nat) : @Int) = (((s : Nat) : @Int) + (1 : @Int))) ∧
  True) ∧
  ((((@Cst.s0 (@groupTo (@SC.s x) (@Cll.g (@SC.c x)) s_1)) = (@imin ((@imax (0 : @Int) (@imin (@Cst.s0 (@groupTo (@SC.s x) (@Cll.g (@SC.c x)) s)) (1099511627776 : @Int))) + (@imax (0 : @Int) (@imin (@Cst.s0 (@SP.pt x_3)) (1099511627776 : @Int)))) (1099511627776 : @Int))) ∧
  (((@Cst.s1 (@groupTo (@SC.s x) (@Cll.g (@SC.c x)) s_1)) = (@imin ((@imax (0 : @Int) (@imin (@Cst.s1 (@groupTo (@SC.s x) (@Cll.g (@SC.c x)) s)) (1099511627776 : @Int))) + (@imax (0 : @Int) (@imin (@Cst.s1 (@SP.pt x_3)) (1099511627776 : @Int)))) (1099511627776 : @Int))) ∧
  (((@Cst.s2 (@groupTo (@SC.s x) (@Cll.g (@SC.c x)) s_1)) = (@imin ((@imax (0 : @Int) (@imin (@Cst.s2 (@groupTo (@SC.s x) (@Cll.g (@SC.c x)) s)) (1099511627776 : @Int))) + (@imax (0 : @Int) (@imin (@Cst.s2 (@SP.pt x_3)) (1099511627776 : @Int)))) (1099511627776 : @Int))) ∧
  (((@Cst.s3 (@groupTo (@SC.s x) (@Cll.g (@SC.c x)) s_1)) = (@imin ((@imax (0 : @Int) (@imin (@Cst.s3 (@groupTo (@SC.s x) (@Cll.g (@SC.c x)) s)) (1099511627776 : @Int))) + (@imax (0 : @Int) (@imin (@Cst.s3 (@SP.pt x_3)) (1099511627776 : @Int)))) (1099511627776 : @Int))) ∧
  (((@Cst.s4 (@groupTo (@SC.s x) (@Cll.g (@SC.c x)) s_1)) = (@imin ((@imax (0 : @Int) (@imin (@Cst.s4 (@groupTo (@SC.s x) (@Cll.g (@SC.c x)) s)) (1099511627776 : @Int))) + (@imax (0 : @Int) (@imin (@Cst.s4 (@SP.pt x_3)) (1099511627776 : @Int)))) (1099511627776 : @Int))) ∧
  (((@Cst.s5 (@groupTo (@SC.s x) (@Cll.g (@SC.c x)) s_1)) = (@imin ((@imax (0 : @Int) (@imin (@Cst.s5 (@groupTo (@SC.s x) (@Cll.g (@SC.c x)) s)) (1099511627776 : @Int))) + (@imax (0 : @Int) (@imin (@Cst.s5 (@SP.pt x_3)) (1099511627776 : @Int)))) (1099511627776 : @Int))) ∧
  True)))))) ∧
  ((((0 : @Int) = (0 : @Int)) ∧
  (((0 : @Int) = (0 : @Int)) ∧
  (((0 : @Int) = (0 : @Int)) ∧
  (((0 : @Int) = (0 : @Int)) ∧
  (((0 : @Int) = (0 : @Int)) ∧
  (((0 : @Int) = (0 : @Int)) ∧
  True)))))) ∧
  ((((@Cll.kind (@SC.c x)) = (@Cll.kind (@SC.c x))) ∧
  (((@Cll.key (@SC.c x)) = (@Cll.key (@SC.c x))) ∧
  (((@Cll.value (@SC.c x)) = (@Cll.value (@SC.c x))) ∧
  (((@Cll.to (@SC.c x)) = (@Cll.to (@SC.c x))) ∧
  ((((0 : @Nat) = (0 : @Nat)) ∧
  ((@Cll.gn (@SC.c x)) = (@Cll.gn (@SC.c x)))) ∧
  True))))) ∧
  (((((@Shf.zp (@SC.s x)) = (@Shf.zp (@SC.s x))) ∧
  (((0 : @Nat) = (0 : @Nat)) ∧
  ((@Shf.n (@SC.s x)) = (@Shf.n (@SC.s x))))) ∧
  ((((@Shf.zq (@SC.s x)) = (@Shf.zq (@SC.s x))) ∧
  (((0 : @Nat) = (0 : @Nat)) ∧
  ((@Shf.m (@SC.s x)) = (@Shf.m (@SC.s x))))) ∧
  True)) ∧
  ((((@rowG (@SC.c x)) = (@rowG (@SC.c x))) ∧
  (@Bool.true = @Bool.true)) ∧
  ((((@rowQ (@SC.s x)) = (@rowQ (@SC.s x))) ∧
  (@Bool.true = @Bool.true)) ∧
  ((((@rowP (@SC.s x)) = (@rowP (@SC.s x))) ∧
  (@Bool.true = @Bool.true)) ∧
  True)))))))))))))))))))))))))))))))))))) (∃ (y_2 : Unit), (True ∧
  ((((@Cst.s0 (@callM (@SC.s x) (@SC.c x))) = (@Cst.s0 (@groupTo (@SC.s x) (@Cll.g (@SC.c x)) s))) ∧
  (((@Cst.s1 (@callM (@SC.s x) (@SC.c x))) = (@Cst.s1 (@groupTo (@SC.s x) (@Cll.g (@SC.c x)) s))) ∧
  (((@Cst.s2 (@callM (@SC.s x) (@SC.c x))) = (@Cst.s2 (@groupTo (@SC.s x) (@Cll.g (@SC.c x)) s))) ∧
  (((@Cst.s3 (@callM (@SC.s x) (@SC.c x))) = (@Cst.s3 (@groupTo (@SC.s x) (@Cll.g (@SC.c x)) s))) ∧
  (((@Cst.s4 (@callM (@SC.s x) (@SC.c x))) = (@Cst.s4 (@groupTo (@SC.s x) (@Cll.g (@SC.c x)) s))) ∧
  (((@Cst.s5 (@callM (@SC.s x) (@SC.c x))) = (@Cst.s5 (@groupTo (@SC.s x) (@Cll.g (@SC.c x)) s))) ∧
  True)))))) ∧
  ((((@rowP (@SC.s x)) = (@rowP (@SC.s x))) ∧
  (@Bool.true = @Bool.true)) ∧
  ((((@rowQ (@SC.s x)) = (@rowQ (@SC.s x))) ∧
  (@Bool.true = @Bool.true)) ∧
  ((((@rowG (@SC.c x)) = (@rowG (@SC.c x))) ∧
  (@Bool.true = @Bool.true)) ∧
  True))))))))) ∧
  True)) (∃ (y_2 : Unit), (True ∧
  ((((@Cst.s0 (@callM (@SC.s x) (@SC.c x))) = (0 : @Int)) ∧
  (((@Cst.s1 (@callM (@SC.s x) (@SC.c x))) = (0 : @Int)) ∧
  (((@Cst.s2 (@callM (@SC.s x) (@SC.c x))) = (0 : @Int)) ∧
  (((@Cst.s3 (@callM (@SC.s x) (@SC.c x))) = (0 : @Int)) ∧
  (((@Cst.s4 (@callM (@SC.s x) (@SC.c x))) = (0 : @Int)) ∧
  (((@Cst.s5 (@callM (@SC.s x) (@SC.c x))) = (0 : @Int)) ∧
  True)))))) ∧
  ((((@rowP (@SC.s x)) = (@rowP (@SC.s x))) ∧
  (@Bool.true = @Bool.true)) ∧
  ((((@rowQ (@SC.s x)) = (@rowQ (@SC.s x))) ∧
  (@Bool.true = @Bool.true)) ∧
  ((((@rowG (@SC.c x)) = (@rowG (@SC.c x))) ∧
  (@Bool.true = @Bool.true)) ∧
  True)))))))))))))))))))))))))))
theorem rcallVC_ok (x : SC) : rcallVC x = rcallVC_wp x := by kernel_rfl
end Go.Proofs.Ytjndgegfonhhfaa
end
section
/- What a call costs: plain laws. -/
namespace Go.Proofs.Ytjndgegfonhhfaa
open Go SE
theorem call_may {s : Shf} {c : Cll} (h : mayM s = false) : callM s c = Cst.zero := by unfold callM; rw [h]; rfl
theorem call_bad {s : Shf} {c : Cll} (h : mayM s = true) (hg : goodM c ≠ 0) : callM s c = ⟨1, 0, 0, 0, 0, 0⟩ := by unfold callM; rw [h, decide_eq_false hg]; rfl
theorem call1 {s : Shf} {c : Cll} (h : mayM s = true) (hg : goodM c = 0) (hk : c.kind = 1) : callM s c = ⟨2 + findM s c.key + (bif hadM s c.key then linesM (c.key.size + (s.pv (placeM s c.key)).size : Nat) else 0), 0, 0, 0, 0, 0⟩ := by
  unfold callM; rw [h, decide_eq_true hg, hk]; rfl
theorem call2 {s : Shf} {c : Cll} (h : mayM s = true) (hg : goodM c = 0) (hk : c.kind = 2 ∨ c.kind = 3 ∨ c.kind = 4) : callM s c = two (partM s c.kind c.key c.value 1) := by
  unfold callM; rw [h, decide_eq_true hg]; rcases hk with hk | hk | hk <;> rw [hk] <;> rfl
theorem call5 {s : Shf} {c : Cll} (h : mayM s = true) (hg : goodM c = 0) (hk : c.kind = 5) : callM s c = bif decide (s.m = 0) then ⟨3, 0, 0, 0, 0, 0⟩ else ⟨6 + linesM (s.qv 0).size, 2, 0, 0, 1, 1⟩ := by
  unfold callM; rw [h, decide_eq_true hg, hk]; rfl
theorem call6 {s : Shf} {c : Cll} (h : mayM s = true) (hg : goodM c = 0) (hk : c.kind = 6) : callM s c = ⟨scanTo s c.key c.to (3 + seekM s c.key) s.n, 0, 0, 0, 0, 0⟩ := by
  unfold callM; rw [h, decide_eq_true hg, hk]; rfl
theorem call7 {s : Shf} {c : Cll} (h : mayM s = true) (hg : goodM c = 0) (hk : c.kind = 7) : callM s c = groupTo s c.g c.gn := by
  unfold callM; rw [h, decide_eq_true hg, hk]; rfl
theorem call8 {s : Shf} {c : Cll} (h : mayM s = true) (hg : goodM c = 0) (h1 : c.kind ≠ 1) (h2 : c.kind ≠ 2) (h3 : c.kind ≠ 3) (h4 : c.kind ≠ 4) (h5 : c.kind ≠ 5) (h6 : c.kind ≠ 6) (h7 : c.kind ≠ 7) : callM s c = Cst.zero := by
  unfold callM; rw [h, decide_eq_true hg]; simp [h1, h2, h3, h4, h5, h6, h7]
theorem good_group {c : Cll} (hg : goodM c = 0) (hk : c.kind = 7) : c.gn ≤ 3 ∧ ∀ k, k < c.gn → groupedM (c.g k).kind = true := by
  have hs : shapeM c = true := by
    unfold goodM at hg
    cases h : shapeM c with
    | true => rfl
    | false => rw [h] at hg; cases hg
  unfold shapeM at hs
  rw [hk] at hs
  simp only [ne_eq, not_true_eq_false, decide_false, Bool.false_or, Bool.and_eq_true, decide_eq_true_eq] at hs
  refine ⟨hs.2.2.1, fun k hk => ?_⟩
  have := hs.2.2.2 k hk
  unfold memOk at this
  simp only [Bool.and_eq_true] at this
  exact this.1.1
theorem selSum_app (s : Shf) (L : List Nat) (i : Nat) (x0 : Int) : ∀ k, k ≤ L.length → selSum s (L ++ [i]) x0 k = selSum s L x0 k
  | 0, _ => rfl
  | k + 1, h => by
    simp only [selSum]
    rw [selSum_app s L i x0 k (by omega), getD_app, if_pos (by omega)]
theorem selSum_scan (s : Shf) (k t : BA) (x0 : Int) : ∀ i, selSum s (selL s k t i) x0 (selL s k t i).length = scanTo s k t x0 i
  | 0 => rfl
  | i + 1 => by
    have ih := selSum_scan s k t x0 i
    cases h : inM s k t i with
    | false =>
      rw [sel_out h]
      simp only [scanTo, h, cond_false]; exact ih
    | true =>
      rw [sel_in h]
      simp only [scanTo, h, cond_true, List.length_append, List.length_singleton, selSum]
      rw [selSum_app _ _ _ _ _ (Nat.le_refl _), ih, getD_app, if_neg (by omega), if_pos rfl]
      omega
theorem scanTo_le (s : Shf) (k t : BA) (x0 : Int) : ∀ i : Nat, x0 ≤ scanTo s k t x0 i ∧ scanTo s k t x0 i ≤ x0 + 9 * i
  | 0 => by simp [scanTo]
  | i + 1 => by
    have ih := scanTo_le s k t x0 i
    have := linesM_le ((s.pk i).size + (s.pv i).size : Nat)
    simp only [scanTo]
    cases inM s k t i with
    | true => simp only [cond_true]; omega
    | false => simp only [cond_false]; omega
theorem sel_lt (s : Shf) (k t : BA) : ∀ n q, q < (selL s k t n).length → (selL s k t n).getD q 0 < n
  | 0, q, h => by simp [selL] at h
  | n + 1, q, h => by
    cases hi : inM s k t n with
    | false =>
      rw [sel_out hi] at h ⊢
      have := sel_lt s k t n q h; omega
    | true =>
      rw [sel_in hi] at h ⊢
      rw [getD_app]
      split
      · rename_i h2; have := sel_lt s k t n q h2; omega
      · split <;> omega
theorem selSum_le (s : Shf) (L : List Nat) (x0 : Int) : ∀ i : Nat, x0 ≤ selSum s L x0 i ∧ selSum s L x0 i ≤ x0 + 9 * i
  | 0 => by simp [selSum]
  | i + 1 => by
    have ih := selSum_le s L x0 i
    have := linesM_le ((s.pk (L.getD i 0)).size + (s.pv (L.getD i 0)).size : Nat)
    simp only [selSum]
    omega
theorem seekM_le (s : Shf) (key : BA) (h : s.n ≤ 40) : 0 ≤ seekM s key ∧ seekM s key ≤ 164 := by
  have := skS_le s key 4
  unfold seekM; omega
end Go.Proofs.Ytjndgegfonhhfaa
end
section
/- What a call costs: what is asked is so. -/
namespace Go.Proofs.Ytjndgegfonhhfaa
open Go SE
theorem rscanVC_true (x : SP) (hx : x.s.small ∧ x.key.size ≤ 1500) : rscanVC x := by
  unfold rscanVC
  have et : ∀ t : BA, (t.toList == (ByteArray.mk #[]).toList) = emp t := fun _ => rfl
  simp only [hd_iff, and_true, true_and, Nat.zero_add, Nat.add_zero, unit_ex, unit_all, true_implies, implies_true, Int.toNat_natCast, eq_self, and_self, lL, et]
  obtain ⟨hs, hk⟩ := hx
  have hn := hs.1
  have hsk := seekM_le x.s x.key hn
  have hp := fun i hi => hs.2.2.1 i hi
  refine ⟨⟨x.s, x.key⟩, ⟨hs, hk⟩, ⟨⟨rfl, rfl⟩, rfl⟩, ⟨⟨rfl, fun _ _ => rfl⟩, rfl, fun _ _ => rfl⟩, by unfold I64; dsimp only; omega, ⟨0, by omega, rfl, rfl⟩, fun i hi => cP_intro (fun hb => ?_) (fun hb => ?_)⟩
  · have hb := of_decide_eq_true hb
    have hl : i < x.s.n := by omega
    have hz := scanTo_le x.s x.key x.to (3 + seekM x.s x.key) i
    have hpi := hp i hl
    have hL := linesM_le ((x.s.pk i).size + (x.s.pv i).size : Nat)
    have stay : inM x.s x.key x.to i = false → I64 ((i : Int) + 1) ∧ ∃ q : Nat, q ≤ x.s.n ∧ x.s.n - q < x.s.n - i ∧ ((q : Int) = (i : Int) + 1 ∧ scanTo x.s x.key x.to (3 + seekM x.s x.key) q = scanTo x.s x.key x.to (3 + seekM x.s x.key) i) := fun h => ⟨by unfold I64; omega, i + 1, by omega, by omega, rfl, by simp [scanTo, h]⟩
    have go : inM x.s x.key x.to i = true → I64 (scanTo x.s x.key x.to (3 + seekM x.s x.key) i + 1) ∧ I64 (((x.s.pk i).size : Int) + ((x.s.pv i).size : Int)) ∧ ∃ z : Int, z = ((x.s.pk i).size : Int) + ((x.s.pv i).size : Int) ∧ ∃ y : Int, y = needM z ∧ I64 (scanTo x.s x.key x.to (3 + seekM x.s x.key) i + 1 + spanM y) ∧ I64 ((i : Int) + 1) ∧ ∃ q : Nat, q ≤ x.s.n ∧ x.s.n - q < x.s.n - i ∧ ((q : Int) = (i : Int) + 1 ∧ scanTo x.s x.key x.to (3 + seekM x.s x.key) q = scanTo x.s x.key x.to (3 + seekM x.s x.key) i + 1 + spanM y) := fun h => by
      have e : ((x.s.pk i).size : Int) + ((x.s.pv i).size : Int) = ((x.s.pk i).size + (x.s.pv i).size : Nat) := by omega
      rw [e]
      refine ⟨by unfold I64; omega, by unfold I64; omega, _, rfl, _, rfl, ?_, by unfold I64; omega, i + 1, by omega, by omega, rfl, ?_⟩
      · have : spanM (needM ((x.s.pk i).size + (x.s.pv i).size : Nat)) = linesM ((x.s.pk i).size + (x.s.pv i).size : Nat) := rfl
        rw [this]; unfold I64; omega
      · simp only [scanTo, h, cond_true]; rfl
    refine ⟨⟨by omega, hb⟩, hl, cP_intro (fun h1 => cP_intro (fun h2 => go ?_) (fun h2 => cP_intro (fun h3 => go ?_) (fun h3 => stay ?_))) (fun h1 => stay ?_)⟩
    · have h1 : lsB (x.s.pk i) x.key = false := by simpa using h1
      unfold inM; rw [h1, h2]; rfl
    · have h1 : lsB (x.s.pk i) x.key = false := by simpa using h1
      unfold inM; rw [h1, h3]; simp
    · unfold inM; rw [h2, h3]; simp
    · have h1 : lsB (x.s.pk i) x.key = true := by simpa using h1
      unfold inM; rw [h1]; rfl
  · have : i = x.s.n := by have := of_decide_eq_false hb; omega
    subst this; rfl
theorem rscan_ok : CtrOk Try.prog 50 rscanC := det_end tt_ok mixed (.cons (ctrT_ok rseek_ok) tblN_ok) anRScan 200 5 (fun _ => rfl) (fun _ => rfl) fun x hx => Eq.mp (rscanVC_ok x) (rscanVC_true x (hd_iff.1 hx))
theorem tblC_ok : TblOk Try.prog tblC := .append (.cons (ctrT_ok may_ok) (.cons (ctrT_ok rmay_ok) (.cons (ctrT_ok good_ok) (.cons (ctrT_ok rgood_ok) (.cons (ctrT_ok seek_ok) (.cons (ctrT_ok rseek_ok) (.cons (ctrT_ok put_ok) (.cons (ctrT_ok del_ok) (.cons (ctrT_ok part_ok) (.cons (ctrT_ok group_ok) (.cons (ctrT_ok applyScan_ok) (.cons (ctrT_ok rscan_ok) .nil)))))))))))) (.append tblW_ok tblN_ok)
theorem callVC_true (x : SC) (hx : x.ok) : callVC x := by
  unfold callVC
  simp only [hd_iff, and_true, true_and, Nat.zero_add, Nat.add_zero, unit_ex, unit_all, true_implies, implies_true, Int.toNat_natCast, eq_self, and_self]
  obtain ⟨hs, hw, hc⟩ := hx
  have hn := hs.1
  have hk : SK.ok ⟨x.s, x.c.key⟩ := ⟨hs, hc.1⟩
  have hf := findM_le x.s x.c.key hn
  have hsk := seekM_le x.s x.c.key hn
  refine ⟨x.s, hs, ⟨rfl, rfl⟩, ⟨⟨rfl, fun _ _ => rfl⟩, rfl, fun _ _ => rfl⟩, cP_intro (fun h => ?_) (fun hm => ⟨x.c, hc, ⟨rfl, rfl, rfl, rfl, rfl⟩, ⟨rfl, fun _ _ => rfl⟩, cP_intro (fun h => ?_) (fun hg => ?_)⟩)⟩
  · rw [call_may (by simpa using h)]; exact ⟨rfl, rfl, rfl, rfl, rfl, rfl⟩
  · have hm : mayM x.s = true := by simpa using hm
    rw [call_bad hm (by simpa using h)]; exact ⟨rfl, rfl, rfl, rfl, rfl, rfl⟩
  have hm : mayM x.s = true := by simpa using hm
  have hg : goodM x.c = 0 := by simpa using hg
  refine cP_intro (fun h1 => ?_) (fun h1 => cP_intro (fun h2 => ?_) (fun h2 => cP_intro (fun h3 => ?_) (fun h3 => cP_intro (fun h4 => ?_) (fun h4 => cP_intro (fun h5 => ?_) (fun h5 => cP_intro (fun h6 => ?_) (fun h6 => cP_intro (fun h7 => ?_) (fun h7 => ?_)))))))
  all_goals simp only [beq_iff_eq, beq_eq_false_iff_ne] at *
  · rw [call1 hm hg h1]
    refine ⟨⟨x.s, x.c.key⟩, hk, ⟨⟨rfl, rfl⟩, rfl⟩, ⟨⟨rfl, fun _ _ => rfl⟩, rfl, fun _ _ => rfl⟩, by unfold I64; dsimp only; omega, ⟨x.s, x.c.key⟩, hk, ⟨⟨rfl, rfl⟩, rfl⟩, ⟨⟨rfl, fun _ _ => rfl⟩, rfl, fun _ _ => rfl⟩, ?_⟩
    dsimp only
    cases hh : hadM x.s x.c.key with
    | false => refine cP_intro (fun h => by cases h) (fun _ => ?_); simp
    | true =>
      have hp : placeM x.s x.c.key < x.s.n := by unfold hadM at hh; exact of_decide_eq_true hh
      have hgm : getM x.s x.c.key = x.s.pv (placeM x.s x.c.key) := by unfold getM; rw [hh]; rfl
      have hv := (hs.2.2.1 _ hp).2
      have hL := linesM_le (x.c.key.size + (x.s.pv (placeM x.s x.c.key)).size : Nat)
      refine cP_intro (fun _ => ?_) (fun h => by cases h)
      rw [hgm]
      have e : (x.c.key.size : Int) + ((x.s.pv (placeM x.s x.c.key)).size : Int) = (x.c.key.size + (x.s.pv (placeM x.s x.c.key)).size : Nat) := by omega
      rw [e]
      have e2 : spanM (needM (x.c.key.size + (x.s.pv (placeM x.s x.c.key)).size : Nat)) = linesM (x.c.key.size + (x.s.pv (placeM x.s x.c.key)).size : Nat) := rfl
      have := hc.1
      exact ⟨by unfold I64; omega, _, rfl, _, rfl, by rw [e2]; unfold I64; omega, rfl, rfl, rfl, rfl, rfl, rfl⟩
  · rw [call2 hm hg (.inl h2), h2, part2]
    have hL := linesM_le (x.c.key.size + x.c.value.size : Nat)
    refine ⟨⟨x.s, x.c.kind, x.c.key, x.c.value, x.c.to, 0⟩, ⟨hs, hc.1, hc.2.1, .inl rfl⟩, ⟨⟨rfl, rfl⟩, h2.symm ▸ rfl, rfl, rfl, rfl⟩, ⟨⟨rfl, fun _ _ => rfl⟩, rfl, fun _ _ => rfl⟩, ?_⟩
    dsimp only [two]
    have hb : 0 ≤ b2i (hadM x.s x.c.key) ∧ b2i (hadM x.s x.c.key) ≤ 1 := by unfold b2i; cases hadM x.s x.c.key <;> simp
    refine ⟨by simp, ?_, ?_, rfl, rfl, ?_, ?_⟩
    · rw [held_small (by omega) (by omega) (by omega)]; omega
    · rw [held0 (by omega) (by omega)]
    · rw [held0 (by omega) (by omega)]
    · rw [held0 (by omega) (by omega)]
  · rw [call2 hm hg (.inr (.inl h3)), h3, part3]
    refine ⟨⟨x.s, x.c.key⟩, hk, ⟨⟨rfl, rfl⟩, rfl⟩, ⟨⟨rfl, fun _ _ => rfl⟩, rfl, fun _ _ => rfl⟩, by simp, ?_⟩
    dsimp only
    rw [part3]
    cases hh : hadM x.s x.c.key with
    | true =>
      simp only [cond_true, two]
      rw [held_small (a := 2) (by omega) (by omega) (by omega)]
      refine cP_intro (fun _ => ⟨by unfold I64; omega, by omega, ?_, ?_, ?_, ?_, ?_⟩) (fun h => by have h := of_decide_eq_false h; rw [held0 (by omega) (by omega)] at h; omega)
      all_goals (rw [held0 (by omega) (by omega)])
    | false =>
      simp only [cond_false, two]
      rw [held_small (a := 2) (by omega) (by omega) (by omega)]
      refine cP_intro (fun h => by have h := of_decide_eq_true h; rw [held0 (by omega) (by omega)] at h; omega) (fun _ => ⟨by omega, ?_, ?_, ?_, ?_, ?_⟩)
      all_goals (rw [held0 (by omega) (by omega)])
  · rw [call2 hm hg (.inr (.inr h4)), h4, part4]
    have hL := linesM_le (x.c.value.size : Nat)
    dsimp only [two]
    refine ⟨_, rfl, by simp, ?_, ?_, rfl, rfl, ?_, rfl⟩
    · rw [held_small (by omega) (by omega) (by omega)]; omega
    · rw [held0 (by omega) (by omega)]
    · rw [held0 (by omega) (by omega)]
  · rw [call5 hm hg h5]
    have hL := linesM_le ((x.s.qv 0).size : Nat)
    refine cP_intro (fun h => ?_) (fun h => ?_)
    · have : x.s.m = 0 := by have h := eq_of_beq h; omega
      rw [decide_eq_true this]; exact ⟨rfl, rfl, rfl, rfl, rfl, rfl⟩
    · have : x.s.m ≠ 0 := by have h := ne_of_beq_false h; omega
      rw [decide_eq_false this]
      have e : spanM (needM ((x.s.qv 0).size : Nat)) = linesM ((x.s.qv 0).size : Nat) := rfl
      refine ⟨⟨by omega, by omega⟩, by omega, _, rfl, _, rfl, by rw [e]; unfold I64; omega, ?_⟩
      exact ⟨rfl, rfl, rfl, rfl, rfl, rfl⟩
  · rw [call6 hm hg h6]
    have hss := selSum_scan x.s x.c.key x.c.to (3 + seekM x.s x.c.key) x.s.n
    have hlen := sel_le x.s x.c.key x.c.to x.s.n
    refine ⟨⟨x.s, x.c.key⟩, hk, ⟨⟨rfl, rfl⟩, rfl⟩, ⟨⟨rfl, fun _ _ => rfl⟩, rfl, fun _ _ => rfl⟩, by unfold I64; dsimp only; omega, x, ⟨⟨hs, hw, hc⟩, h6, hg⟩, ?_⟩
    have hse : x.sel = selL x.s x.c.key x.c.to x.s.n := rfl
    have hp := fun i hi => hs.2.2.1 i hi
    refine ⟨⟨⟨⟨rfl, rfl⟩, rfl, rfl⟩, h6.symm, rfl, rfl, rfl, rfl⟩, ⟨⟨rfl, fun _ _ => rfl⟩, ⟨rfl, fun _ _ => rfl⟩, rfl, fun _ _ => rfl⟩, fun hnil => ⟨⟨0, by omega, rfl, rfl⟩, fun i hi => ?_⟩, ⟨0, by omega, rfl, rfl⟩, fun i hi => cP_intro (fun hb => ?_) (fun hb => ?_)⟩
    · rw [hse, hnil] at hi
      have : i = 0 := by simpa using hi
      subst this
      rw [hnil] at hss
      exact ⟨hss.symm, rfl, rfl, rfl, rfl, rfl⟩
    · have hb := of_decide_eq_true hb
      have hl : i < (selL x.s x.c.key x.c.to x.s.n).length := by omega
      have hq := hp _ (sel_lt x.s x.c.key x.c.to x.s.n i hl)
      have hz := selSum_le x.s x.sel (3 + seekM x.s x.c.key) i
      have hL := linesM_le ((x.s.pk ((selL x.s x.c.key x.c.to x.s.n).getD i 0)).size + (x.s.pv ((selL x.s x.c.key x.c.to x.s.n).getD i 0)).size : Nat)
      have e : ((x.s.pk ((selL x.s x.c.key x.c.to x.s.n).getD i 0)).size : Int) + ((x.s.pv ((selL x.s x.c.key x.c.to x.s.n).getD i 0)).size : Int) = ((x.s.pk ((selL x.s x.c.key x.c.to x.s.n).getD i 0)).size + (x.s.pv ((selL x.s x.c.key x.c.to x.s.n).getD i 0)).size : Nat) := by omega
      rw [e]
      have e2 : spanM (needM ((x.s.pk ((selL x.s x.c.key x.c.to x.s.n).getD i 0)).size + (x.s.pv ((selL x.s x.c.key x.c.to x.s.n).getD i 0)).size : Nat)) = linesM ((x.s.pk ((selL x.s x.c.key x.c.to x.s.n).getD i 0)).size + (x.s.pv ((selL x.s x.c.key x.c.to x.s.n).getD i 0)).size : Nat) := rfl
      exact ⟨⟨by omega, hb⟩, hl, by unfold I64; omega, _, rfl, _, rfl, by rw [e2]; unfold I64; omega, by rw [e2]; unfold I64; omega, by unfold I64; omega, i + 1, by rw [hse]; omega, by rw [hse]; omega, rfl, rfl⟩
    · have hb := of_decide_eq_false hb
      have : i = (selL x.s x.c.key x.c.to x.s.n).length := by rw [hse] at hi; omega
      subst this
      exact ⟨hss.symm, rfl, rfl, rfl, rfl, rfl⟩
  · rw [call7 hm hg h7]
    obtain ⟨g1, g2⟩ := good_group hg h7
    exact ⟨⟨x.s, x.c.g, x.c.gn⟩, ⟨hs, g1, fun k hk => ⟨hc.2.2.2.2 k hk, g2 k hk⟩⟩, ⟨⟨rfl, rfl⟩, rfl⟩, ⟨⟨rfl, fun _ _ => rfl⟩, ⟨rfl, fun _ _ => rfl⟩, rfl, fun _ _ => rfl⟩, rfl, rfl, rfl, rfl, rfl, rfl⟩
  · rw [call8 hm hg h1 h2 h3 h4 h5 h6 h7]; exact ⟨rfl, rfl, rfl, rfl, rfl, rfl⟩
end Go.Proofs.Ytjndgegfonhhfaa
end
section
/- What a call costs, as the document says: what is asked is so. -/
namespace Go.Proofs.Ytjndgegfonhhfaa
open Go SE
theorem part_le {s : Shf} (hs : s.n ≤ 40) {k : Int} (hk : k = 2 ∨ k = 3 ∨ k = 4) (key v : BA) : I64 ((partM s k key v 1).s0 + 2) := by
  have hf := findM_le s key hs
  have h1 := linesM_le (key.size + v.size : Nat)
  have h2 := linesM_le (v.size : Nat)
  rcases hk with hk | hk | hk <;> subst hk
  · rw [part2]; unfold I64; dsimp only; omega
  · rw [part3]; cases hadM s key <;> (unfold I64; simp only [cond_true, cond_false]; omega)
  · rw [part4]; unfold I64; dsimp only; omega
theorem rcallVC_true (x : SC) (hx : x.ok) : rcallVC x := by
  unfold rcallVC
  simp only [hd_iff, and_true, true_and, Nat.zero_add, Nat.add_zero, unit_ex, unit_all, true_implies, implies_true, Int.toNat_natCast, eq_self, and_self]
  obtain ⟨hs, hw, hc⟩ := hx
  have hn := hs.1
  have hk : SK.ok ⟨x.s, x.c.key⟩ := ⟨hs, hc.1⟩
  have hf := findM_le x.s x.c.key hn
  refine ⟨x.s, hs, ⟨rfl, rfl⟩, ⟨⟨rfl, fun _ _ => rfl⟩, rfl, fun _ _ => rfl⟩, cP_intro (fun h => ?_) (fun hm => ⟨x.c, hc, ⟨rfl, rfl, rfl, rfl, rfl⟩, ⟨rfl, fun _ _ => rfl⟩, cP_intro (fun h => ?_) (fun hg => ?_)⟩)⟩
  · rw [call_may (by simpa using h)]; exact ⟨rfl, rfl, rfl, rfl, rfl, rfl⟩
  · have hm : mayM x.s = true := by simpa using hm
    rw [call_bad hm (by simpa using h)]; exact ⟨rfl, rfl, rfl, rfl, rfl, rfl⟩
  have hm : mayM x.s = true := by simpa using hm
  have hg : goodM x.c = 0 := by simpa using hg
  refine cP_intro (fun h1 => ?_) (fun h1 => cP_intro (fun h2 => ?_) (fun h2 => cP_intro (fun h3 => ?_) (fun h3 => cP_intro (fun h4 => ?_) (fun h4 => cP_intro (fun h5 => ?_) (fun h5 => cP_intro (fun h6 => ?_) (fun h6 => cP_intro (fun h7 => ?_) (fun h7 => ?_)))))))
  all_goals simp only [beq_iff_eq, beq_eq_false_iff_ne] at *
  · rw [call1 hm hg h1]
    refine ⟨⟨x.s, x.c.key⟩, hk, ⟨⟨rfl, rfl⟩, rfl⟩, ⟨⟨rfl, fun _ _ => rfl⟩, rfl, fun _ _ => rfl⟩, ⟨x.s, x.c.key⟩, hk, ⟨⟨rfl, rfl⟩, rfl⟩, ⟨⟨rfl, fun _ _ => rfl⟩, rfl, fun _ _ => rfl⟩, by unfold I64; dsimp only; omega, ?_⟩
    dsimp only
    cases hh : hadM x.s x.c.key with
    | false => refine cP_intro (fun h => by cases h) (fun _ => ?_); simp
    | true =>
      have hp : placeM x.s x.c.key < x.s.n := by unfold hadM at hh; exact of_decide_eq_true hh
      have hgm : getM x.s x.c.key = x.s.pv (placeM x.s x.c.key) := by unfold getM; rw [hh]; rfl
      have hv := (hs.2.2.1 _ hp).2
      have hL := linesM_le (x.c.key.size + (x.s.pv (placeM x.s x.c.key)).size : Nat)
      refine cP_intro (fun _ => ?_) (fun h => by cases h)
      rw [hgm]
      have e : (x.c.key.size : Int) + ((x.s.pv (placeM x.s x.c.key)).size : Int) = (x.c.key.size + (x.s.pv (placeM x.s x.c.key)).size : Nat) := by omega
      rw [e]
      have e2 : spanM (needM (x.c.key.size + (x.s.pv (placeM x.s x.c.key)).size : Nat)) = linesM (x.c.key.size + (x.s.pv (placeM x.s x.c.key)).size : Nat) := rfl
      have := hc.1
      exact ⟨by unfold I64; omega, _, rfl, _, rfl, by rw [e2]; unfold I64; omega, rfl, rfl, rfl, rfl, rfl, rfl⟩
  · rw [call2 hm hg (.inl h2)]
    exact ⟨⟨x.s, x.c.kind, x.c.key, x.c.value, x.c.to, 1⟩, ⟨hs, hc.1, hc.2.1, .inr rfl⟩, ⟨⟨rfl, rfl⟩, ⟨rfl, rfl, rfl, rfl⟩, rfl⟩, ⟨⟨rfl, fun _ _ => rfl⟩, rfl, fun _ _ => rfl⟩, part_le hn (.inl h2) _ _, rfl, rfl, rfl, rfl, rfl, rfl⟩
  · rw [call2 hm hg (.inr (.inl h3))]
    exact ⟨⟨x.s, x.c.kind, x.c.key, x.c.value, x.c.to, 1⟩, ⟨hs, hc.1, hc.2.1, .inr rfl⟩, ⟨⟨rfl, rfl⟩, ⟨rfl, rfl, rfl, rfl⟩, rfl⟩, ⟨⟨rfl, fun _ _ => rfl⟩, rfl, fun _ _ => rfl⟩, part_le hn (.inr (.inl h3)) _ _, rfl, rfl, rfl, rfl, rfl, rfl⟩
  · rw [call2 hm hg (.inr (.inr h4))]
    exact ⟨⟨x.s, x.c.kind, x.c.key, x.c.value, x.c.to, 1⟩, ⟨hs, hc.1, hc.2.1, .inr rfl⟩, ⟨⟨rfl, rfl⟩, ⟨rfl, rfl, rfl, rfl⟩, rfl⟩, ⟨⟨rfl, fun _ _ => rfl⟩, rfl, fun _ _ => rfl⟩, part_le hn (.inr (.inr h4)) _ _, rfl, rfl, rfl, rfl, rfl, rfl⟩
  · rw [call5 hm hg h5]
    have hL := linesM_le ((x.s.qv 0).size : Nat)
    refine cP_intro (fun h => ?_) (fun h => ?_)
    · have : x.s.m ≠ 0 := by have h := of_decide_eq_true h; omega
      rw [decide_eq_false this]
      have e : spanM (needM ((x.s.qv 0).size : Nat)) = linesM ((x.s.qv 0).size : Nat) := rfl
      refine ⟨⟨by omega, by omega⟩, by omega, _, rfl, _, rfl, by rw [e]; unfold I64; omega, ?_⟩
      exact ⟨rfl, rfl, rfl, rfl, rfl, rfl⟩
    · have : x.s.m = 0 := by have h := of_decide_eq_false h; omega
      rw [decide_eq_true this]; exact ⟨rfl, rfl, rfl, rfl, rfl, rfl⟩
  · rw [call6 hm hg h6]
    exact ⟨⟨x.s, x.c.kind, x.c.key, x.c.value, x.c.to, 1⟩, ⟨hs, hc.1⟩, ⟨⟨rfl, rfl⟩, rfl, rfl, rfl, rfl⟩, ⟨⟨rfl, fun _ _ => rfl⟩, rfl, fun _ _ => rfl⟩, rfl, rfl, rfl, rfl, rfl, rfl⟩
  · rw [call7 hm hg h7]
    obtain ⟨g1, g2⟩ := good_group hg h7
    refine ⟨⟨0, by omega, rfl, rfl, rfl, rfl, rfl, rfl, rfl⟩, fun i hi => cP_intro (fun hb => ?_) (fun hb => ?_)⟩
    · have hb := of_decide_eq_true hb
      have hl : i < x.c.gn := by omega
      have hmm := hc.2.2.2.2 i hl
      obtain ⟨k0, k1, k2, k3, k4, k5⟩ := groupTo_ok x.s x.c.g i
      refine ⟨⟨by omega, hb⟩, hl, ⟨x.s, (x.c.g i).kind, (x.c.g i).key, (x.c.g i).value, (x.c.g i).to, 0⟩, ⟨hs, hmm.1, hmm.2.1, .inl rfl⟩, ⟨⟨rfl, rfl⟩, ⟨rfl, rfl, rfl, rfl⟩, rfl⟩, ⟨⟨rfl, fun _ _ => rfl⟩, rfl, fun _ _ => rfl⟩, Cst.more_i64 _ k0, Cst.more_i64 _ k1, Cst.more_i64 _ k2, Cst.more_i64 _ k3, Cst.more_i64 _ k4, Cst.more_i64 _ k5, by unfold I64; omega, i + 1, by omega, by omega, rfl, ?_⟩
      rw [Cst.more_held k0, Cst.more_held k1, Cst.more_held k2, Cst.more_held k3, Cst.more_held k4, Cst.more_held k5]
      exact ⟨rfl, rfl, rfl, rfl, rfl, rfl⟩
    · have : i = x.c.gn := by have := of_decide_eq_false hb; omega
      subst this
      exact ⟨rfl, rfl, rfl, rfl, rfl, rfl⟩
  · rw [call8 hm hg h1 h2 h3 h4 h5 h6 h7]; exact ⟨rfl, rfl, rfl, rfl, rfl, rfl⟩
theorem call_ok : CtrOk Try.prog 12 callC := det_end tt_ok mixed tblC_ok anCall 200 5 (fun _ => rfl) (fun _ => rfl) fun x hx => Eq.mp (callVC_ok x) (callVC_true x (hd_iff.1 hx))
theorem rcall_ok : CtrOk Try.prog 13 callC := det_end tt_ok mixed tblC_ok anRCall 200 5 (fun _ => rfl) (fun _ => rfl) fun x hx => Eq.mp (rcallVC_ok x) (rcallVC_true x (hd_iff.1 hx))
theorem great_tbl : TblOk Try.prog [] := .nil
end Go.Proofs.Ytjndgegfonhhfaa
end
section
/- A slice within a value that came in, as a row. -/
namespace Go.Proofs.Ytjndgegfonhhfaa.SE
open Go
open Go.ChangeShapes Go.WideShapes Go.ChangeAt Go.RowKit
theorem slice_cells {P : Program} {W : World} {t e : TypeId} {v : Value} (ht : P.underlying t = some (.slice e)) (hok : Cell.okWide P W .any 0 t v) : v.cells.toList = [v] := by
  unfold Cell.okWide at hok
  simp only [ht] at hok
  unfold Cell.ok at hok
  simp only [ht] at hok
  split at hok <;> first | exact hok.elim | (rename_i hh; cases hh; done) | rfl | (rename_i hh; cases hh; rfl)
theorem open_cellZ {H : Type} {enc : TypeId × Value → H} {P : Program} {W : World} {T : Nat → Prop} {t e : TypeId} {v : Value} {fuel : Nat} {y : DataW H × List MemPlace} {α : Type} {f : α → List Value} {m : Nat} (a0 : α) (ok : α → Prop) (hf : ∀ a, (f a).length = m) (hm : 0 < m)
    (ht : P.underlying t = some (.slice e)) (hc : P.cellsOf e = m) (hok : Cell.okWide P W .any 0 t v) (h : DataW.trod enc P W 0 (fun _ => true) true fuel t [v] = some y) (hT : ∀ b, b < W.heap.size → ¬ T b)
    (hel : ∀ fuel cs y, DataW.trod enc P W 0 (fun _ => true) true fuel e cs = some y → ∃ a, ok a ∧ cs = f a) :
    ∃ (z : Bool) (c : Nat → α) (n : Nat) (a : Loc), (z = true → n = 0) ∧ n ≤ maxLen ∧ (∀ k, k < n → ok (c k)) ∧ (∀ (ρ : Ren) (i : Nat), ρ i = some a → VRel ρ (.slZ z i 0 m n) v ∧ VRel ρ (.slR i 0 m n) v) ∧ ∀ (ρ : Ren) (S : Nat → Prop), OHolds ρ W T a S (.ro (.row m n (fun k => f (c k)) [])) := by
  have hok' : Value.okWide P W .any 0 t v := by unfold Value.okWide; simpa only [ht] using hok
  have h' : DataW.Trod enc P W 0 (fun _ => true) true t v y.1 y.2 := ⟨fuel, by rw [slice_cells ht hok]; exact h⟩
  obtain ⟨x, cap, a, h1, h2, h3⟩ := open_rows ok hf hm ht hc hok' h' hT hel
  cases x with
  | none =>
    refine ⟨true, fun _ => a0, 0, a, fun _ => rfl, Nat.zero_le _, fun k hk => by omega, fun ρ i hi => ?_, fun ρ S => .inl (by simp [Cs.size])⟩
    have := h2 ρ i hi
    simp only [argV, VRel] at this ⊢
    exact ⟨.inl ⟨trivial, trivial, this⟩, .inl ⟨trivial, this⟩⟩
  | some l =>
    obtain ⟨g1, g2, g3⟩ := h1 l rfl
    refine ⟨false, fun k => l.getD k a0, l.length, a, fun h => (by cases h), Nat.le_trans g2 g3, fun k hk => g1 _ (by simp [hk]), fun ρ i hi => ?_, fun ρ S => ?_⟩
    · have := h2 ρ i hi
      simp only [argV, VRel] at this ⊢
      obtain ⟨a', ha', hv⟩ := this
      exact ⟨.inr ⟨trivial, a', _, cap, ha', hv, g2, fun _ => by simp⟩, .inr ⟨a', _, cap, ha', hv, g2, fun _ => by simp⟩⟩
    · have := h3 ρ S
      simp only [argO, OHolds, Cs.size] at this ⊢
      rcases this with h0 | ⟨hT', arr, e', f', hb, hcr⟩
      · left; rwa [flat_length hf] at h0
      · refine .inr ⟨hT', arr, e', f', hb, fun k u hk => ?_⟩
        have hlt := Cs.get_lt hk
        simp only [Cs.size] at hlt
        have hkl : k / m < l.length := Nat.div_lt_of_lt_mul (by rw [Nat.mul_comm]; exact hlt)
        have hg : l[k / m]? = some (l.getD (k / m) a0) := by simp [hkl]
        have hfl := flat_get (f := f) hf l (k / m) (k % m) _ hg (Nat.mod_lt _ hm)
        rw [Nat.div_add_mod'] at hfl
        simp only [Cs.get, nblt_iff.2 hlt, cond_true, Cs.eff] at hk
        split at hk
        · rename_i y hy
          cases hk
          refine hcr k (.lit y) ?_
          simp only [Cs.get, hfl, hy]
        · rename_i hy
          have : k % m < (f (l.getD (k / m) a0)).length := by rw [hf]; exact Nat.mod_lt _ hm
          rw [List.getElem?_eq_getElem this] at hy; cases hy
/-- The cells of a struct that came in. -/
theorem row_cell {P : Program} {W : World} {t : TypeId} {cs : Array Value} {ts : List TypeId} (h : Row.okWide P W .any 0 t cs) (ht : P.cellTypes P.depth t = some ts) {i : Nat} {v : Value} {u : TypeId} (hi : cs[i]? = some v) (hu : ts[i % ts.length]? = some u) : Cell.okWide P W .any 0 u v := by
  obtain ⟨ts', e, _, h⟩ := h
  rw [ht] at e; cases e
  obtain ⟨u', hu', hc⟩ := h i v hi
  rw [hu] at hu'; cases hu'
  exact hc
end Go.Proofs.Ytjndgegfonhhfaa.SE
end
