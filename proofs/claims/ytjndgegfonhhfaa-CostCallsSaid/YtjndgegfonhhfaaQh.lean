import Derived.Test.YtjndgegfonhhfaaQa
import Derived.Test.YtjndgegfonhhfaaQb
import Derived.Test.YtjndgegfonhhfaaQc
import Derived.Test.YtjndgegfonhhfaaQd
import Derived.Test.YtjndgegfonhhfaaQe
import Derived.Test.YtjndgegfonhhfaaQf
import Derived.Test.YtjndgegfonhhfaaQg
section
namespace Go.Proofs.Ytjndgegfonhhfaa
open Go SE
def rlongMemVC_wp (x : Mem) : Prop := wpF Try.prog [] tt noAn 200 5 73 (longMemC.args x) (hO longMemC.k (longMemC.os x)) (fun v h' => endsP longMemC.k x v h' longMemC.outs)
def rlongMemVC (x : Mem) : Prop :=
  (cP (@BEq.beq @Int (@instBEqOfDecidableEq @Int @Int.instDecidableEq) (@Mem.kind x) (1 : @Int)) (∃ (y : Unit), (True ∧
  (((@longK (@Mem.kind x) (@Mem.key x) (@Mem.value x) (@Mem.to x)) = (decide (@GT.gt @Int @Int.instLTInt (((@ByteArray.size (@Mem.key x)) : Nat) : @Int) (16 : @Int)))) ∧
  True))) (cP (@BEq.beq @Int (@instBEqOfDecidableEq @Int @Int.instDecidableEq) (@Mem.kind x) (3 : @Int)) (∃ (y : Unit), (True ∧
  (((@longK (@Mem.kind x) (@Mem.key x) (@Mem.value x) (@Mem.to x)) = (decide (@GT.gt @Int @Int.instLTInt (((@ByteArray.size (@Mem.key x)) : Nat) : @Int) (16 : @Int)))) ∧
  True))) (cP (@BEq.beq @Int (@instBEqOfDecidableEq @Int @Int.instDecidableEq) (@Mem.kind x) (2 : @Int)) (cP (decide (@GT.gt @Int @Int.instLTInt (((@ByteArray.size (@Mem.key x)) : Nat) : @Int) (16 : @Int))) (∃ (y : Unit), (True ∧
  (((@longK (@Mem.kind x) (@Mem.key x) (@Mem.value x) (@Mem.to x)) = @Bool.true) ∧
  True))) (∃ (y : Unit), (True ∧
  (((@longK (@Mem.kind x) (@Mem.key x) (@Mem.value x) (@Mem.to x)) = (decide (@GT.gt @Int @Int.instLTInt (((@ByteArray.size (@Mem.value x)) : Nat) : @Int) (400 : @Int)))) ∧
  True)))) (cP (@BEq.beq @Int (@instBEqOfDecidableEq @Int @Int.instDecidableEq) (@Mem.kind x) (4 : @Int)) (∃ (y : Unit), (True ∧
  (((@longK (@Mem.kind x) (@Mem.key x) (@Mem.value x) (@Mem.to x)) = (decide (@GT.gt @Int @Int.instLTInt (((@ByteArray.size (@Mem.value x)) : Nat) : @Int) (400 : @Int)))) ∧
  True))) (cP (@BEq.beq @Int (@instBEqOfDecidableEq @Int @Int.instDecidableEq) (@Mem.kind x) (6 : @Int)) (cP (decide (@GT.gt @Int @Int.instLTInt (((@ByteArray.size (@Mem.key x)) : Nat) : @Int) (16 : @Int))) (∃ (y : Unit), (True ∧
  (((@longK (@Mem.kind x) (@Mem.key x) (@Mem.value x) (@Mem.to x)) = @Bool.true) ∧
  True))) (∃ (y : Unit), (True ∧
  (((@longK (@Mem.kind x) (@Mem.key x) (@Mem.value x) (@Mem.to x)) = (decide (@GT.gt @Int @Int.instLTInt (((@ByteArray.size (@Mem.to x)) : Nat) : @Int) (16 : @Int)))) ∧
  True)))) (cP (@BEq.beq @Int (@instBEqOfDecidableEq @Int @Int.instDecidableEq) (@Mem.kind x) (7 : @Int)) (∃ (y : Unit), (True ∧
  (((@longK (@Mem.kind x) (@Mem.key x) (@Mem.value x) (@Mem.to x)) = @Bool.false) ∧
  True))) (∃ (y : Unit), (True ∧
  (((@longK (@Mem.kind x) (@Mem.key x) (@Mem.value x) (@Mem.to x)) = @Bool.false) ∧
  True)))))))))
theorem rlongMemVC_ok (x : Mem) : rlongMemVC x = rlongMemVC_wp x := by kernel_rfl
def rlongVC_wp (x : Cll) : Prop := wpF Try.prog [(73, ctrT longMemC)] tt (anRLong x) 200 5 73 (longC.args x) (hO longC.k (longC.os x)) (fun v h' => endsP longC.k x v h' longC.outs)
def rlongVC (x : Cll) : Prop :=
  (cP (@BEq.beq @Int (@instBEqOfDecidableEq @Int @Int.instDecidableEq) (@Cll.kind x) (1 : @Int)) (∃ (y : Unit), (True ∧
  (((@longM x) = (decide (@GT.gt @Int @Int.instLTInt (((@ByteArray.size (@Cll.key x)) : Nat) : @Int) (16 : @Int)))) ∧
  ((((@rowG x) = (@rowG x)) ∧
  (@Bool.true = @Bool.true)) ∧
  True)))) (cP (@BEq.beq @Int (@instBEqOfDecidableEq @Int @Int.instDecidableEq) (@Cll.kind x) (3 : @Int)) (∃ (y : Unit), (True ∧
  (((@longM x) = (decide (@GT.gt @Int @Int.instLTInt (((@ByteArray.size (@Cll.key x)) : Nat) : @Int) (16 : @Int)))) ∧
  ((((@rowG x) = (@rowG x)) ∧
  (@Bool.true = @Bool.true)) ∧
  True)))) (cP (@BEq.beq @Int (@instBEqOfDecidableEq @Int @Int.instDecidableEq) (@Cll.kind x) (2 : @Int)) (cP (decide (@GT.gt @Int @Int.instLTInt (((@ByteArray.size (@Cll.key x)) : Nat) : @Int) (16 : @Int))) (∃ (y : Unit), (True ∧
  (((@longM x) = @Bool.true) ∧
  ((((@rowG x) = (@rowG x)) ∧
  (@Bool.true = @Bool.true)) ∧
  True)))) (∃ (y : Unit), (True ∧
  (((@longM x) = (decide (@GT.gt @Int @Int.instLTInt (((@ByteArray.size (@Cll.value x)) : Nat) : @Int) (400 : @Int)))) ∧
  ((((@rowG x) = (@rowG x)) ∧
  (@Bool.true = @Bool.true)) ∧
  True))))) (cP (@BEq.beq @Int (@instBEqOfDecidableEq @Int @Int.instDecidableEq) (@Cll.kind x) (4 : @Int)) (∃ (y : Unit), (True ∧
  (((@longM x) = (decide (@GT.gt @Int @Int.instLTInt (((@ByteArray.size (@Cll.value x)) : Nat) : @Int) (400 : @Int)))) ∧
  ((((@rowG x) = (@rowG x)) ∧
  (@Bool.true = @Bool.true)) ∧
  True)))) (cP (@BEq.beq @Int (@instBEqOfDecidableEq @Int @Int.instDecidableEq) (@Cll.kind x) (6 : @Int)) (cP (decide (@GT.gt @Int @Int.instLTInt (((@ByteArray.size (@Cll.key x)) : Nat) : @Int) (16 : @Int))) (∃ (y : Unit), (True ∧
  (((@longM x) = @Bool.true) ∧
  ((((@rowG x) = (@rowG x)) ∧
  (@Bool.true = @Bool.true)) ∧
  True)))) (∃ (y : Unit), (True ∧
  (((@longM x) = (decide (@GT.gt @Int @Int.instLTInt (((@ByteArray.size (@Cll.to x)) : Nat) : @Int) (16 : @Int)))) ∧
  ((((@rowG x) = (@rowG x)) ∧
  (@Bool.true = @Bool.true)) ∧
  True))))) (cP (@BEq.beq @Int (@instBEqOfDecidableEq @Int @Int.instDecidableEq) (@Cll.kind x) (7 : @Int)) ((∃ (s : @Nat), (((s ≤ (@Cll.gn x)) ∧
  (@Hd (@invLong x s))) ∧
  (True ∧
  (((((s : Nat) : @Int) = (0 : @Int)) ∧
  True) ∧
  ((((@Cll.kind x) = (@Cll.kind x)) ∧
  (((@Cll.key x) = (@Cll.key x)) ∧
  (((@Cll.value x) = (@Cll.value x)) ∧
  (((@Cll.to x) = (@Cll.to x)) ∧
  ((((0 : @Nat) = (0 : @Nat)) ∧
  ((@Cll.gn x) = (@Cll.gn x))) ∧
  True))))) ∧
  ((((@rowG x) = (@rowG x)) ∧
  (@Bool.true = @Bool.true)) ∧
  True)))))) ∧
  ((∀ (s : @Nat), (((s ≤ (@Cll.gn x)) ∧
  (@Hd (@invLong x s))) → (cP (decide (((s : Nat) : @Int) < (((@Cll.gn x) : Nat) : @Int))) ((((0 : @Int) ≤ ((s : Nat) : @Int)) ∧
  (((s : Nat) : @Int) < (((@Cll.gn x) : Nat) : @Int))) ∧
  ((((0 : @Nat) + s) < (@Cll.gn x)) ∧
  (∃ (x_1 : @Mem), (True ∧
  (((((@Mem.kind x_1) = (@Mem.kind (@Cll.g x ((0 : @Nat) + s)))) ∧
  (((@Mem.key x_1) = (@Mem.key (@Cll.g x ((0 : @Nat) + s)))) ∧
  (((@Mem.value x_1) = (@Mem.value (@Cll.g x ((0 : @Nat) + s)))) ∧
  (((@Mem.to x_1) = (@Mem.to (@Cll.g x ((0 : @Nat) + s)))) ∧
  (((Value.slice (@Mem.gp x_1) (0 : @Nat) (@Mem.gc x_1)) = (Value.slice (@Mem.gp (@Cll.g x ((0 : @Nat) + s))) (@Mem.gn (@Cll.g x ((0 : @Nat) + s))) (@Mem.gc (@Cll.g x ((0 : @Nat) + s))))) ∧
  True))))) ∧
  True) ∧
  (True ∧
  (∀ (y : Unit), (True → (cP (@longK (@Mem.kind x_1) (@Mem.key x_1) (@Mem.value x_1) (@Mem.to x_1)) (∃ (y_1 : Unit), (True ∧
  (((@longM x) = @Bool.true) ∧
  ((((@rowG x) = (@rowG x)) ∧
  (@Bool.true = @Bool.true)) ∧
  True)))) ((@I64 (((s : Nat) : @Int) + (1 : @Int))) ∧
  (∃ (s_1 : @Nat), (((s_1 ≤ (@Cll.gn x)) ∧
  (@Hd (@invLong x s_1))) ∧
  ((((@Cll.gn x) - s_1) < ((@Cll.gn x) - s)) ∧
  (((((s_1 : Nat) : @Int) = (((s : Nat) : @Int) + (1 : @Int))) ∧
  True) ∧
  ((((@Cll.kind x) = (@Cll.kind x)) ∧
  (((@Cll.key x) = (@Cll.key x)) ∧
  (((@Cll.value x) = (@Cll.value x)) ∧
  (((@Cll.to x) = (@Cll.to x)) ∧
  ((((0 : @Nat) = (0 : @Nat)) ∧
  ((@Cll.gn x) = (@Cll.gn x))) ∧
  True))))) ∧
  ((((@rowG x) = (@rowG x)) ∧
  (@Bool.true = @Bool.true)) ∧
  True)))))))))))))))) (∃ (y : Unit), (True ∧
  (((@longM x) = @Bool.false) ∧
  ((((@rowG x) = (@rowG x)) ∧
  (@Bool.true = @Bool.true)) ∧
  True))))))) ∧
  True)) (∃ (y : Unit), (True ∧
  (((@longM x) = @Bool.false) ∧
  ((((@rowG x) = (@rowG x)) ∧
  (@Bool.true = @Bool.true)) ∧
  True))))))))))
theorem rlongVC_ok (x : Cll) : rlongVC x = rlongVC_wp x := by kernel_rfl
def rshapeMemVC_wp (x : Mem) : Prop := wpF Try.prog [] tt noAn 200 5 72 (rshapeMemC.args x) (hO rshapeMemC.k (rshapeMemC.os x)) (fun v h' => endsP rshapeMemC.k x v h' rshapeMemC.outs)
def rshapeMemVC (x : Mem) : Prop :=
  (cP (@BEq.beq @Int (@instBEqOfDecidableEq @Int @Int.instDecidableEq) (@Mem.kind x) (1 : @Int)) (cP (@BEq.beq (@List @UInt8) (@List.instBEq @UInt8 (@instBEqOfDecidableEq @UInt8 @instDecidableEqUInt8)) (@ByteArray.toList (@Mem.key x)) (@ByteArray.toList (@ByteArray.mk (@List.toArray @UInt8 (@List.nil @UInt8))))) (∃ (y : Unit), (True ∧
  (((@rshapeK (@Mem.kind x) (@Mem.key x)) = (1 : @Int)) ∧
  True))) (∃ (y : Unit), (True ∧
  (((@rshapeK (@Mem.kind x) (@Mem.key x)) = (0 : @Int)) ∧
  True)))) (cP (@BEq.beq @Int (@instBEqOfDecidableEq @Int @Int.instDecidableEq) (@Mem.kind x) (2 : @Int)) (cP (@BEq.beq (@List @UInt8) (@List.instBEq @UInt8 (@instBEqOfDecidableEq @UInt8 @instDecidableEqUInt8)) (@ByteArray.toList (@Mem.key x)) (@ByteArray.toList (@ByteArray.mk (@List.toArray @UInt8 (@List.nil @UInt8))))) (∃ (y : Unit), (True ∧
  (((@rshapeK (@Mem.kind x) (@Mem.key x)) = (1 : @Int)) ∧
  True))) (∃ (y : Unit), (True ∧
  (((@rshapeK (@Mem.kind x) (@Mem.key x)) = (0 : @Int)) ∧
  True)))) (cP (@BEq.beq @Int (@instBEqOfDecidableEq @Int @Int.instDecidableEq) (@Mem.kind x) (3 : @Int)) (cP (@BEq.beq (@List @UInt8) (@List.instBEq @UInt8 (@instBEqOfDecidableEq @UInt8 @instDecidableEqUInt8)) (@ByteArray.toList (@Mem.key x)) (@ByteArray.toList (@ByteArray.mk (@List.toArray @UInt8 (@List.nil @UInt8))))) (∃ (y : Unit), (True ∧
  (((@rshapeK (@Mem.kind x) (@Mem.key x)) = (1 : @Int)) ∧
  True))) (∃ (y : Unit), (True ∧
  (((@rshapeK (@Mem.kind x) (@Mem.key x)) = (0 : @Int)) ∧
  True)))) (cP (@BEq.beq @Int (@instBEqOfDecidableEq @Int @Int.instDecidableEq) (@Mem.kind x) (4 : @Int)) (∃ (y : Unit), (True ∧
  (((@rshapeK (@Mem.kind x) (@Mem.key x)) = (0 : @Int)) ∧
  True))) (cP (@BEq.beq @Int (@instBEqOfDecidableEq @Int @Int.instDecidableEq) (@Mem.kind x) (5 : @Int)) (∃ (y : Unit), (True ∧
  (((@rshapeK (@Mem.kind x) (@Mem.key x)) = (0 : @Int)) ∧
  True))) (cP (@BEq.beq @Int (@instBEqOfDecidableEq @Int @Int.instDecidableEq) (@Mem.kind x) (6 : @Int)) (∃ (y : Unit), (True ∧
  (((@rshapeK (@Mem.kind x) (@Mem.key x)) = (0 : @Int)) ∧
  True))) (cP (@BEq.beq @Int (@instBEqOfDecidableEq @Int @Int.instDecidableEq) (@Mem.kind x) (8 : @Int)) (∃ (y : Unit), (True ∧
  (((@rshapeK (@Mem.kind x) (@Mem.key x)) = (0 : @Int)) ∧
  True))) (cP (@BEq.beq @Int (@instBEqOfDecidableEq @Int @Int.instDecidableEq) (@Mem.kind x) (7 : @Int)) (∃ (y : Unit), (True ∧
  (((@rshapeK (@Mem.kind x) (@Mem.key x)) = (1 : @Int)) ∧
  True))) (∃ (y : Unit), (True ∧
  (((@rshapeK (@Mem.kind x) (@Mem.key x)) = (1 : @Int)) ∧
  True)))))))))))
theorem rshapeMemVC_ok (x : Mem) : rshapeMemVC x = rshapeMemVC_wp x := by kernel_rfl
def rshapeVC_wp (x : Cll) : Prop := wpF Try.prog [(72, ctrT rshapeMemC)] tt (anRShape x) 200 5 72 (rshapeC.args x) (hO rshapeC.k (rshapeC.os x)) (fun v h' => endsP rshapeC.k x v h' rshapeC.outs)
def rshapeVC (x : Cll) : Prop :=
  (cP (@BEq.beq @Int (@instBEqOfDecidableEq @Int @Int.instDecidableEq) (@Cll.kind x) (1 : @Int)) (cP (@BEq.beq (@List @UInt8) (@List.instBEq @UInt8 (@instBEqOfDecidableEq @UInt8 @instDecidableEqUInt8)) (@ByteArray.toList (@Cll.key x)) (@ByteArray.toList (@ByteArray.mk (@List.toArray @UInt8 (@List.nil @UInt8))))) (∃ (y : Unit), (True ∧
  (((@b2i (@Bool.not (@shapeM x))) = (1 : @Int)) ∧
  ((((@rowG x) = (@rowG x)) ∧
  (@Bool.true = @Bool.true)) ∧
  True)))) (∃ (y : Unit), (True ∧
  (((@b2i (@Bool.not (@shapeM x))) = (0 : @Int)) ∧
  ((((@rowG x) = (@rowG x)) ∧
  (@Bool.true = @Bool.true)) ∧
  True))))) (cP (@BEq.beq @Int (@instBEqOfDecidableEq @Int @Int.instDecidableEq) (@Cll.kind x) (2 : @Int)) (cP (@BEq.beq (@List @UInt8) (@List.instBEq @UInt8 (@instBEqOfDecidableEq @UInt8 @instDecidableEqUInt8)) (@ByteArray.toList (@Cll.key x)) (@ByteArray.toList (@ByteArray.mk (@List.toArray @UInt8 (@List.nil @UInt8))))) (∃ (y : Unit), (True ∧
  (((@b2i (@Bool.not (@shapeM x))) = (1 : @Int)) ∧
  ((((@rowG x) = (@rowG x)) ∧
  (@Bool.true = @Bool.true)) ∧
  True)))) (∃ (y : Unit), (True ∧
  (((@b2i (@Bool.not (@shapeM x))) = (0 : @Int)) ∧
  ((((@rowG x) = (@rowG x)) ∧
  (@Bool.true = @Bool.true)) ∧
  True))))) (cP (@BEq.beq @Int (@instBEqOfDecidableEq @Int @Int.instDecidableEq) (@Cll.kind x) (3 : @Int)) (cP (@BEq.beq (@List @UInt8) (@List.instBEq @UInt8 (@instBEqOfDecidableEq @UInt8 @instDecidableEqUInt8)) (@ByteArray.toList (@Cll.key x)) (@ByteArray.toList (@ByteArray.mk (@List.toArray @UInt8 (@List.nil @UInt8))))) (∃ (y : Unit), (True ∧
  (((@b2i (@Bool.not (@shapeM x))) = (1 : @Int)) ∧
  ((((@rowG x) = (@rowG x)) ∧
  (@Bool.true = @Bool.true)) ∧
  True)))) (∃ (y : Unit), (True ∧
  (((@b2i (@Bool.not (@shapeM x))) = (0 : @Int)) ∧
  ((((@rowG x) = (@rowG x)) ∧
  (@Bool.true = @Bool.true)) ∧
  True))))) (cP (@BEq.beq @Int (@instBEqOfDecidableEq @Int @Int.instDecidableEq) (@Cll.kind x) (4 : @Int)) (∃ (y : Unit), (True ∧
  (((@b2i (@Bool.not (@shapeM x))) = (0 : @Int)) ∧
  ((((@rowG x) = (@rowG x)) ∧
  (@Bool.true = @Bool.true)) ∧
  True)))) (cP (@BEq.beq @Int (@instBEqOfDecidableEq @Int @Int.instDecidableEq) (@Cll.kind x) (5 : @Int)) (∃ (y : Unit), (True ∧
  (((@b2i (@Bool.not (@shapeM x))) = (0 : @Int)) ∧
  ((((@rowG x) = (@rowG x)) ∧
  (@Bool.true = @Bool.true)) ∧
  True)))) (cP (@BEq.beq @Int (@instBEqOfDecidableEq @Int @Int.instDecidableEq) (@Cll.kind x) (6 : @Int)) (∃ (y : Unit), (True ∧
  (((@b2i (@Bool.not (@shapeM x))) = (0 : @Int)) ∧
  ((((@rowG x) = (@rowG x)) ∧
  (@Bool.true = @Bool.true)) ∧
  True)))) (cP (@BEq.beq @Int (@instBEqOfDecidableEq @Int @Int.instDecidableEq) (@Cll.kind x) (8 : @Int)) (∃ (y : Unit), (True ∧
  (((@b2i (@Bool.not (@shapeM x))) = (0 : @Int)) ∧
  ((((@rowG x) = (@rowG x)) ∧
  (@Bool.true = @Bool.true)) ∧
  True)))) (cP (@BEq.beq @Int (@instBEqOfDecidableEq @Int @Int.instDecidableEq) (@Cll.kind x) (7 : @Int)) (cP (decide ((((@Cll.gn x) : Nat) : @Int) < (1 : @Int))) (∃ (y : Unit), (True ∧
  (((@b2i (@Bool.not (@shapeM x))) = (1 : @Int)) ∧
  ((((@rowG x) = (@rowG x)) ∧
  (@Bool.true = @Bool.true)) ∧
  True)))) (cP (decide (@GT.gt @Int @Int.instLTInt (((@Cll.gn x) : Nat) : @Int) (3 : @Int))) (∃ (y : Unit), (True ∧
  (((@b2i (@Bool.not (@shapeM x))) = (1 : @Int)) ∧
  ((((@rowG x) = (@rowG x)) ∧
  (@Bool.true = @Bool.true)) ∧
  True)))) ((∃ (s : @Nat), (((s ≤ (@Cll.gn x)) ∧
  (@Hd (@invMs x s))) ∧
  (True ∧
  (((((s : Nat) : @Int) = (0 : @Int)) ∧
  True) ∧
  ((((@Cll.kind x) = (@Cll.kind x)) ∧
  (((@Cll.key x) = (@Cll.key x)) ∧
  (((@Cll.value x) = (@Cll.value x)) ∧
  (((@Cll.to x) = (@Cll.to x)) ∧
  ((((0 : @Nat) = (0 : @Nat)) ∧
  ((@Cll.gn x) = (@Cll.gn x))) ∧
  True))))) ∧
  ((((@rowG x) = (@rowG x)) ∧
  (@Bool.true = @Bool.true)) ∧
  True)))))) ∧
  ((∀ (s : @Nat), (((s ≤ (@Cll.gn x)) ∧
  (@Hd (@invMs x s))) → (cP (decide (((s : Nat) : @Int) < (((@Cll.gn x) : Nat) : @Int))) ((((0 : @Int) ≤ ((s : Nat) : @Int)) ∧
  (((s : Nat) : @Int) < (((@Cll.gn x) : Nat) : @Int))) ∧
  ((((0 : @Nat) + s) < (@Cll.gn x)) ∧
  (cP (@bne @Int (@instBEqOfDecidableEq @Int @Int.instDecidableEq) (@Mem.kind (@Cll.g x ((0 : @Nat) + s))) (2 : @Int)) (cP (@bne @Int (@instBEqOfDecidableEq @Int @Int.instDecidableEq) (@Mem.kind (@Cll.g x ((0 : @Nat) + s))) (3 : @Int)) (cP (@bne @Int (@instBEqOfDecidableEq @Int @Int.instDecidableEq) (@Mem.kind (@Cll.g x ((0 : @Nat) + s))) (4 : @Int)) (∃ (y : Unit), (True ∧
  (((@b2i (@Bool.not (@shapeM x))) = (1 : @Int)) ∧
  ((((@rowG x) = (@rowG x)) ∧
  (@Bool.true = @Bool.true)) ∧
  True)))) ((((0 : @Int) ≤ ((s : Nat) : @Int)) ∧
  (((s : Nat) : @Int) < (((@Cll.gn x) : Nat) : @Int))) ∧
  ((((0 : @Nat) + s) < (@Cll.gn x)) ∧
  (∃ (x_1 : @Mem), (True ∧
  (((((@Mem.kind x_1) = (@Mem.kind (@Cll.g x ((0 : @Nat) + s)))) ∧
  (((@Mem.key x_1) = (@Mem.key (@Cll.g x ((0 : @Nat) + s)))) ∧
  (((@Mem.value x_1) = (@Mem.value (@Cll.g x ((0 : @Nat) + s)))) ∧
  (((@Mem.to x_1) = (@Mem.to (@Cll.g x ((0 : @Nat) + s)))) ∧
  (((Value.slice (@Mem.gp x_1) (0 : @Nat) (@Mem.gc x_1)) = (Value.slice (@Mem.gp (@Cll.g x ((0 : @Nat) + s))) (@Mem.gn (@Cll.g x ((0 : @Nat) + s))) (@Mem.gc (@Cll.g x ((0 : @Nat) + s))))) ∧
  True))))) ∧
  ((@Bool.true = @Bool.true) ∧
  True)) ∧
  (True ∧
  (∀ (y : Unit), (True → (cP (@bne @Int (@instBEqOfDecidableEq @Int @Int.instDecidableEq) (@rshapeK (@Mem.kind x_1) (@Mem.key x_1)) (0 : @Int)) (∃ (y_1 : Unit), (True ∧
  (((@b2i (@Bool.not (@shapeM x))) = (1 : @Int)) ∧
  ((((@rowG x) = (@rowG x)) ∧
  (@Bool.true = @Bool.true)) ∧
  True)))) ((∃ (s_1 : @Nat), (((s_1 ≤ (Int.toNat ((s : Nat) : @Int))) ∧
  (@Hd (@invJ x (Int.toNat ((s : Nat) : @Int)) s_1))) ∧
  (True ∧
  (((((s_1 : Nat) : @Int) = (0 : @Int)) ∧
  True) ∧
  ((((@Cll.kind x) = (@Cll.kind x)) ∧
  (((@Cll.key x) = (@Cll.key x)) ∧
  (((@Cll.value x) = (@Cll.value x)) ∧
  (((@Cll.to x) = (@Cll.to x)) ∧
  ((((0 : @Nat) = (0 : @Nat)) ∧
  ((@Cll.gn x) = (@Cll.gn x))) ∧
  True))))) ∧
  ((((@rowG x) = (@rowG x)) ∧
  (@Bool.true = @Bool.true)) ∧
  True)))))) ∧
  ((∀ (s_1 : @Nat), (((s_1 ≤ (Int.toNat ((s : Nat) : @Int))) ∧
  (@Hd (@invJ x (Int.toNat ((s : Nat) : @Int)) s_1))) → (cP (decide (((s_1 : Nat) : @Int) < ((s : Nat) : @Int))) (cP (@bne @Int (@instBEqOfDecidableEq @Int @Int.instDecidableEq) (@Mem.kind (@Cll.g x ((0 : @Nat) + s))) (4 : @Int)) ((((0 : @Int) ≤ ((s_1 : Nat) : @Int)) ∧
  (((s_1 : Nat) : @Int) < (((@Cll.gn x) : Nat) : @Int))) ∧
  ((((0 : @Nat) + s_1) < (@Cll.gn x)) ∧
  (cP (@bne @Int (@instBEqOfDecidableEq @Int @Int.instDecidableEq) (@Mem.kind (@Cll.g x ((0 : @Nat) + s_1))) (4 : @Int)) ((((0 : @Int) ≤ ((s : Nat) : @Int)) ∧
  (((s : Nat) : @Int) < (((@Cll.gn x) : Nat) : @Int))) ∧
  ((((0 : @Nat) + s) < (@Cll.gn x)) ∧
  ((((0 : @Int) ≤ ((s_1 : Nat) : @Int)) ∧
  (((s_1 : Nat) : @Int) < (((@Cll.gn x) : Nat) : @Int))) ∧
  ((((0 : @Nat) + s_1) < (@Cll.gn x)) ∧
  (cP (@BEq.beq (@List @UInt8) (@List.instBEq @UInt8 (@instBEqOfDecidableEq @UInt8 @instDecidableEqUInt8)) (@ByteArray.toList (@Mem.key (@Cll.g x ((0 : @Nat) + s)))) (@ByteArray.toList (@Mem.key (@Cll.g x ((0 : @Nat) + s_1))))) (∃ (y_1 : Unit), (True ∧
  (((@b2i (@Bool.not (@shapeM x))) = (1 : @Int)) ∧
  ((((@rowG x) = (@rowG x)) ∧
  (@Bool.true = @Bool.true)) ∧
  True)))) ((@I64 (((s_1 : Nat) : @Int) + (1 : @Int))) ∧
  (∃ (s_2 : @Nat), (((s_2 ≤ (Int.toNat ((s : Nat) : @Int))) ∧
  (@Hd (@invJ x (Int.toNat ((s : Nat) : @Int)) s_2))) ∧
  ((((Int.toNat ((s : Nat) : @Int)) - s_2) < ((Int.toNat ((s : Nat) : @Int)) - s_1)) ∧
  (((((s_2 : Nat) : @Int) = (((s_1 : Nat) : @Int) + (1 : @Int))) ∧
  True) ∧
  ((((@Cll.kind x) = (@Cll.kind x)) ∧
  (((@Cll.key x) = (@Cll.key x)) ∧
  (((@Cll.value x) = (@Cll.value x)) ∧
  (((@Cll.to x) = (@Cll.to x)) ∧
  ((((0 : @Nat) = (0 : @Nat)) ∧
  ((@Cll.gn x) = (@Cll.gn x))) ∧
  True))))) ∧
  ((((@rowG x) = (@rowG x)) ∧
  (@Bool.true = @Bool.true)) ∧
  True)))))))))))) ((@I64 (((s_1 : Nat) : @Int) + (1 : @Int))) ∧
  (∃ (s_2 : @Nat), (((s_2 ≤ (Int.toNat ((s : Nat) : @Int))) ∧
  (@Hd (@invJ x (Int.toNat ((s : Nat) : @Int)) s_2))) ∧
  ((((Int.toNat ((s : Nat) : @Int)) - s_2) < ((Int.toNat ((s : Nat) : @Int)) - s_1)) ∧
  (((((s_2 : Nat) : @Int) = (((s_1 : Nat) : @Int) + (1 : @Int))) ∧
  True) ∧
  ((((@Cll.kind x) = (@Cll.kind x)) ∧
  (((@Cll.key x) = (@Cll.key x)) ∧
  (((@Cll.value x) = (@Cll.value x)) ∧
  (((@Cll.to x) = (@Cll.to x)) ∧
  ((((0 : @Nat) = (0 : @Nat)) ∧
  ((@Cll.gn x) = (@Cll.gn x))) ∧
  True))))) ∧
  ((((@rowG x) = (@rowG x)) ∧
  (@Bool.true = @Bool.true)) ∧
  True)))))))))) ((@I64 (((s_1 : Nat) : @Int) + (1 : @Int))) ∧
  (∃ (s_2 : @Nat), (((s_2 ≤ (Int.toNat ((s : Nat) : @Int))) ∧
  (@Hd (@invJ x (Int.toNat ((s : Nat) : @Int)) s_2))) ∧
  ((((Int.toNat ((s : Nat) : @Int)) - s_2) < ((Int.toNat ((s : Nat) : @Int)) - s_1)) ∧
  (((((s_2 : Nat) : @Int) = (((s_1 : Nat) : @Int) + (1 : @Int))) ∧
  True) ∧
  ((((@Cll.kind x) = (@Cll.kind x)) ∧
  (((@Cll.key x) = (@Cll.key x)) ∧
  (((@Cll.value x) = (@Cll.value x)) ∧
  (((@Cll.to x) = (@Cll.to x)) ∧
  ((((0 : @Nat) = (0 : @Nat)) ∧
  ((@Cll.gn x) = (@Cll.gn x))) ∧
  True))))) ∧
  ((((@rowG x) = (@rowG x)) ∧
  (@Bool.true = @Bool.true)) ∧
  True)))))))) ((@I64 (((s : Nat) : @Int) + (1 : @Int))) ∧
  (∃ (s_2 : @Nat), (((s_2 ≤ (@Cll.gn x)) ∧
  (@Hd (@invMs x s_2))) ∧
  ((((@Cll.gn x) - s_2) < ((@Cll.gn x) - s)) ∧
  (((((s_2 : Nat) : @Int) = (((s : Nat) : @Int) + (1 : @Int))) ∧
  True) ∧
  ((((@Cll.kind x) = (@Cll.kind x)) ∧
  (((@Cll.key x) = (@Cll.key x)) ∧
  (((@Cll.value x) = (@Cll.value x)) ∧
  (((@Cll.to x) = (@Cll.to x)) ∧
  ((((0 : @Nat) = (0 : @Nat)) ∧
  ((@Cll.gn x) = (@Cll.gn x))) ∧
  True))))) ∧
  ((((@rowG x) = (@rowG x)) ∧
  (@Bool.true = @Bool.true)) ∧
  True)))))))))) ∧
  True)))))))))))) ((((0 : @Int) ≤ ((s : Nat) : @Int)) ∧
  (((s : Nat) : @Int) < (((@Cll.gn x) : Nat) : @Int))) ∧
  ((((0 : @Nat) + s) < (@Cll.gn x)) ∧
  (∃ (x_1 : @Mem), (True ∧
  (((((@Mem.kind x_1) = (@Mem.kind (@Cll.g x ((0 : @Nat) + s)))) ∧
  (((@Mem.key x_1) = (@Mem.key (@Cll.g x ((0 : @Nat) + s)))) ∧
  (((@Mem.value x_1) = (@Mem.value (@Cll.g x ((0 : @Nat) + s)))) ∧
  (((@Mem.to x_1) = (@Mem.to (@Cll.g x ((0 : @Nat) + s)))) ∧
  (((Value.slice (@Mem.gp x_1) (0 : @Nat) (@Mem.gc x_1)) = (Value.slice (@Mem.gp (@Cll.g x ((0 : @Nat) + s))) (@Mem.gn (@Cll.g x ((0 : @Nat) + s))) (@Mem.gc (@Cll.g x ((0 : @Nat) + s))))) ∧
  True))))) ∧
  ((@Bool.true = @Bool.true) ∧
  True)) ∧
  (True ∧
  (∀ (y : Unit), (True → (cP (@bne @Int (@instBEqOfDecidableEq @Int @Int.instDecidableEq) (@rshapeK (@Mem.kind x_1) (@Mem.key x_1)) (0 : @Int)) (∃ (y_1 : Unit), (True ∧
  (((@b2i (@Bool.not (@shapeM x))) = (1 : @Int)) ∧
  ((((@rowG x) = (@rowG x)) ∧
  (@Bool.true = @Bool.true)) ∧
  True)))) ((∃ (s_1 : @Nat), (((s_1 ≤ (Int.toNat ((s : Nat) : @Int))) ∧
  (@Hd (@invJ x (Int.toNat ((s : Nat) : @Int)) s_1))) ∧
  (True ∧
  (((((s_1 : Nat) : @Int) = (0 : @Int)) ∧
  True) ∧
  ((((@Cll.kind x) = (@Cll.kind x)) ∧
  (((@Cll.key x) = (@Cll.key x)) ∧
  (((@Cll.value x) = (@Cll.value x)) ∧
  (((@Cll.to x) = (@Cll.to x)) ∧
  ((((0 : @Nat) = (0 : @Nat)) ∧
  ((@Cll.gn x) = (@Cll.gn x))) ∧
  True))))) ∧
  ((((@rowG x) = (@rowG x)) ∧
  (@Bool.true = @Bool.true)) ∧
  True)))))) ∧
  ((∀ (s_1 : @Nat), (((s_1 ≤ (Int.toNat ((s : Nat) : @Int))) ∧
  (@Hd (@invJ x (Int.toNat ((s : Nat) : @Int)) s_1))) → (cP (decide (((s_1 : Nat) : @Int) < ((s : Nat) : @Int))) (cP (@bne @Int (@instBEqOfDecidableEq @Int @Int.instDecidableEq) (@Mem.kind (@Cll.g x ((0 : @Nat) + s))) (4 : @Int)) ((((0 : @Int) ≤ ((s_1 : Nat) : @Int)) ∧
  (((s_1 : Nat) : @Int) < (((@Cll.gn x) : Nat) : @Int))) ∧
  ((((0 : @Nat) + s_1) < (@Cll.gn x)) ∧
  (cP (@bne @Int (@instBEqOfDecidableEq @Int @Int.instDecidableEq) (@Mem.kind (@Cll.g x ((0 : @Nat) + s_1))) (4 : @Int)) ((((0 : @Int) ≤ ((s : Nat) : @Int)) ∧
  (((s : Nat) : @Int) < (((@Cll.gn x) : Nat) : @Int))) ∧
  ((((0 : @Nat) + s) < (@Cll.gn x)) ∧
  ((((0 : @Int) ≤ ((s_1 : Nat) : @Int)) ∧
  (((s_1 : Nat) : @Int) < (((@Cll.gn x) : Nat) : @Int))) ∧
  ((((0 : @Nat) + s_1) < (@Cll.gn x)) ∧
  (cP (@BEq.beq (@List @UInt8) (@List.instBEq @UInt8 (@instBEqOfDecidableEq @UInt8 @instDecidableEqUInt8)) (@ByteArray.toList (@Mem.key (@Cll.g x ((0 : @Nat) + s)))) (@ByteArray.toList (@Mem.key (@Cll.g x ((0 : @Nat) + s_1))))) (∃ (y_1 : Unit), (True ∧
  (((@b2i (@Bool.not (@shapeM x))) = (1 : @Int)) ∧
  ((((@rowG x) = (@rowG x)) ∧
  (@Bool.true = @Bool.true)) ∧
  True)))) ((@I64 (((s_1 : Nat) : @Int) + (1 : @Int))) ∧
  (∃ (s_2 : @Nat), (((s_2 ≤ (Int.toNat ((s : Nat) : @Int))) ∧
  (@Hd (@invJ x (Int.toNat ((s : Nat) : @Int)) s_2))) ∧
  ((((Int.toNat ((s : Nat) : @Int)) - s_2) < ((Int.toNat ((s : Nat) : @Int)) - s_1)) ∧
  (((((s_2 : Nat) : @Int) = (((s_1 : Nat) : @Int) + (1 : @Int))) ∧
  True) ∧
  ((((@Cll.kind x) = (@Cll.kind x)) ∧
  (((@Cll.key x) = (@Cll.key x)) ∧
  (((@Cll.value x) = (@Cll.value x)) ∧
  (((@Cll.to x) = (@Cll.to x)) ∧
  ((((0 : @Nat) = (0 : @Nat)) ∧
  ((@Cll.gn x) = (@Cll.gn x))) ∧
  True))))) ∧
  ((((@rowG x) = (@rowG x)) ∧
  (@Bool.true = @Bool.true)) ∧
  True)))))))))))) ((@I64 (((s_1 : Nat) : @Int) + (1 : @Int))) ∧
  (∃ (s_2 : @Nat), (((s_2 ≤ (Int.toNat ((s : Nat) : @Int))) ∧
  (@Hd (@invJ x (Int.toNat ((s : Nat) : @Int)) s_2))) ∧
  ((((Int.toNat ((s : Nat) : @Int)) - s_2) < ((Int.toNat ((s : Nat) : @Int)) - s_1)) ∧
  (((((s_2 : Nat) : @Int) = (((s_1 : Nat) : @Int) + (1 : @Int))) ∧
  True) ∧
  ((((@Cll.kind x) = (@Cll.kind x)) ∧
  (((@Cll.key x) = (@Cll.key x)) ∧
  (((@Cll.value x) = (@Cll.value x)) ∧
  (((@Cll.to x) = (@Cll.to x)) ∧
  ((((0 : @Nat) = (0 : @Nat)) ∧
  ((@Cll.gn x) = (@Cll.gn x))) ∧
  True))))) ∧
  ((((@rowG x) = (@rowG x)) ∧
  (@Bool.true = @Bool.true)) ∧
  True)))))))))) ((@I64 (((s_1 : Nat) : @Int) + (1 : @Int))) ∧
  (∃ (s_2 : @Nat), (((s_2 ≤ (Int.toNat ((s : Nat) : @Int))) ∧
  (@Hd (@invJ x (Int.toNat ((s : Nat) : @Int)) s_2))) ∧
  ((((Int.toNat ((s : Nat) : @Int)) - s_2) < ((Int.toNat ((s : Nat) : @Int)) - s_1)) ∧
  (((((s_2 : Nat) : @Int) = (((s_1 : Nat) : @Int) + (1 : @Int))) ∧
  True) ∧
  ((((@Cll.kind x) = (@Cll.kind x)) ∧
  (((@Cll.key x) = (@Cll.key x)) ∧
  (((@Cll.value x) = (@Cll.value x)) ∧
  (((@Cll.to x) = (@Cll.to x)) ∧
  ((((0 : @Nat) = (0 : @Nat)) ∧
  ((@Cll.gn x) = (@Cll.gn x))) ∧
  True))))) ∧
  ((((@rowG x) = (@rowG x)) ∧
  (@Bool.true = @Bool.true)) ∧
  True)))))))) ((@I64 (((s : Nat) : @Int) + (1 : @Int))) ∧
  (∃ (s_2 : @Nat), (((s_2 ≤ (@Cll.gn x)) ∧
  (@Hd (@invMs x s_2))) ∧
  ((((@Cll.gn x) - s_2) < ((@Cll.gn x) - s)) ∧
  (((((s_2 : Nat) : @Int) = (((s : Nat) : @Int) + (1 : @Int))) ∧
  True) ∧
  ((((@Cll.kind x) = (@Cll.kind x)) ∧
  (((@Cll.key x) = (@Cll.key x)) ∧
  (((@Cll.value x) = (@Cll.value x)) ∧
  (((@Cll.to x) = (@Cll.to x)) ∧
  ((((0 : @Nat) = (0 : @Nat)) ∧
  ((@Cll.gn x) = (@Cll.gn x))) ∧
  True))))) ∧
  ((((@rowG x) = (@rowG x)) ∧
  (@Bool.true = @Bool.true)) ∧
  True)))))))))) ∧
  True)))))))))))) ((((0 : @Int) ≤ ((s : Nat) : @Int)) ∧
  (((s : Nat) : @Int) < (((@Cll.gn x) : Nat) : @Int))) ∧
  ((((0 : @Nat) + s) < (@Cll.gn x)) ∧
  (∃ (x_1 : @Mem), (True ∧
  (((((@Mem.kind x_1) = (@Mem.kind (@Cll.g x ((0 : @Nat) + s)))) ∧
  (((@Mem.key x_1) = (@Mem.key (@Cll.g x ((0 : @Nat) + s)))) ∧
  (((@Mem.value x_1) = (@Mem.value (@Cll.g x ((0 : @Nat) + s)))) ∧
  (((@Mem.to x_1) = (@Mem.to (@Cll.g x ((0 : @Nat) + s)))) ∧
  (((Value.slice (@Mem.gp x_1) (0 : @Nat) (@Mem.gc x_1)) = (Value.slice (@Mem.gp (@Cll.g x ((0 : @Nat) + s))) (@Mem.gn (@Cll.g x ((0 : @Nat) + s))) (@Mem.gc (@Cll.g x ((0 : @Nat) + s))))) ∧
  True))))) ∧
  ((@Bool.true = @Bool.true) ∧
  True)) ∧
  (True ∧
  (∀ (y : Unit), (True → (cP (@bne @Int (@instBEqOfDecidableEq @Int @Int.instDecidableEq) (@rshapeK (@Mem.kind x_1) (@Mem.key x_1)) (0 : @Int)) (∃ (y_1 : Unit), (True ∧
  (((@b2i (@Bool.not (@shapeM x))) = (1 : @Int)) ∧
  ((((@rowG x) = (@rowG x)) ∧
  (@Bool.true = @Bool.true)) ∧
  True)))) ((∃ (s_1 : @Nat), (((s_1 ≤ (Int.toNat ((s : Nat) : @Int))) ∧
  (@Hd (@invJ x (Int.toNat ((s : Nat) : @Int)) s_1))) ∧
  (True ∧
  (((((s_1 : Nat) : @Int) = (0 : @Int)) ∧
  True) ∧
  ((((@Cll.kind x) = (@Cll.kind x)) ∧
  (((@Cll.key x) = (@Cll.key x)) ∧
  (((@Cll.value x) = (@Cll.value x)) ∧
  (((@Cll.to x) = (@Cll.to x)) ∧
  ((((0 : @Nat) = (0 : @Nat)) ∧
  ((@Cll.gn x) = (@Cll.gn x))) ∧
  True))))) ∧
  ((((@rowG x) = (@rowG x)) ∧
  (@Bool.true = @Bool.true)) ∧
  True)))))) ∧
  ((∀ (s_1 : @Nat), (((s_1 ≤ (Int.toNat ((s : Nat) : @Int))) ∧
  (@Hd (@invJ x (Int.toNat ((s : Nat) : @Int)) s_1))) → (cP (decide (((s_1 : Nat) : @Int) < ((s : Nat) : @Int))) (cP (@bne @Int (@instBEqOfDecidableEq @Int @Int.instDecidableEq) (@Mem.kind (@Cll.g x ((0 : @Nat) + s))) (4 : @Int)) ((((0 : @Int) ≤ ((s_1 : Nat) : @Int)) ∧
  (((s_1 : Nat) : @Int) < (((@Cll.gn x) : Nat) : @Int))) ∧
  ((((0 : @Nat) + s_1) < (@Cll.gn x)) ∧
  (cP (@bne @Int (@instBEqOfDecidableEq @Int @Int.instDecidableEq) (@Mem.kind (@Cll.g x ((0 : @Nat) + s_1))) (4 : @Int)) ((((0 : @Int) ≤ ((s : Nat) : @Int)) ∧
  (((s : Nat) : @Int) < (((@Cll.gn x) : Nat) : @Int))) ∧
  ((((0 : @Nat) + s) < (@Cll.gn x)) ∧
  ((((0 : @Int) ≤ ((s_1 : Nat) : @Int)) ∧
  (((s_1 : Nat) : @Int) < (((@Cll.gn x) : Nat) : @Int))) ∧
  ((((0 : @Nat) + s_1) < (@Cll.gn x)) ∧
  (cP (@BEq.beq (@List @UInt8) (@List.instBEq @UInt8 (@instBEqOfDecidableEq @UInt8 @instDecidableEqUInt8)) (@ByteArray.toList (@Mem.key (@Cll.g x ((0 : @Nat) + s)))) (@ByteArray.toList (@Mem.key (@Cll.g x ((0 : @Nat) + s_1))))) (∃ (y_1 : Unit), (True ∧
  (((@b2i (@Bool.not (@shapeM x))) = (1 : @Int)) ∧
  ((((@rowG x) = (@rowG x)) ∧
  (@Bool.true = @Bool.true)) ∧
  True)))) ((@I64 (((s_1 : Nat) : @Int) + (1 : @Int))) ∧
  (∃ (s_2 : @Nat), (((s_2 ≤ (Int.toNat ((s : Nat) : @Int))) ∧
  (@Hd (@invJ x (Int.toNat ((s : Nat) : @Int)) s_2))) ∧
  ((((Int.toNat ((s : Nat) : @Int)) - s_2) < ((Int.toNat ((s : Nat) : @Int)) - s_1)) ∧
  (((((s_2 : Nat) : @Int) = (((s_1 : Nat) : @Int) + (1 : @Int))) ∧
  True) ∧
  ((((@Cll.kind x) = (@Cll.kind x)) ∧
  (((@Cll.key x) = (@Cll.key x)) ∧
  (((@Cll.value x) = (@Cll.value x)) ∧
  (((@Cll.to x) = (@Cll.to x)) ∧
  ((((0 : @Nat) = (0 : @Nat)) ∧
  ((@Cll.gn x) = (@Cll.gn x))) ∧
  True))))) ∧
  ((((@rowG x) = (@rowG x)) ∧
  (@Bool.true = @Bool.true)) ∧
  True)))))))))))) ((@I64 (((s_1 : Nat) : @Int) + (1 : @Int))) ∧
  (∃ (s_2 : @Nat), (((s_2 ≤ (Int.toNat ((s : Nat) : @Int))) ∧
  (@Hd (@invJ x (Int.toNat ((s : Nat) : @Int)) s_2))) ∧
  ((((Int.toNat ((s : Nat) : @Int)) - s_2) < ((Int.toNat ((s : Nat) : @Int)) - s_1)) ∧
  (((((s_2 : Nat) : @Int) = (((s_1 : Nat) : @Int) + (1 : @Int))) ∧
  True) ∧
  ((((@Cll.kind x) = (@Cll.kind x)) ∧
  (((@Cll.key x) = (@Cll.key x)) ∧
  (((@Cll.value x) = (@Cll.value x)) ∧
  (((@Cll.to x) = (@Cll.to x)) ∧
  ((((0 : @Nat) = (0 : @Nat)) ∧
  ((@Cll.gn x) = (@Cll.gn x))) ∧
  True))))) ∧
  ((((@rowG x) = (@rowG x)) ∧
  (@Bool.true = @Bool.true)) ∧
  True)))))))))) ((@I64 (((s_1 : Nat) : @Int) + (1 : @Int))) ∧
  (∃ (s_2 : @Nat), (((s_2 ≤ (Int.toNat ((s : Nat) : @Int))) ∧
  (@Hd (@invJ x (Int.toNat ((s : Nat) : @Int)) s_2))) ∧
  ((((Int.toNat ((s : Nat) : @Int)) - s_2) < ((Int.toNat ((s : Nat) : @Int)) - s_1)) ∧
  (((((s_2 : Nat) : @Int) = (((s_1 : Nat) : @Int) + (1 : @Int))) ∧
  True) ∧
  ((((@Cll.kind x) = (@Cll.kind x)) ∧
  (((@Cll.key x) = (@Cll.key x)) ∧
  (((@Cll.value x) = (@Cll.value x)) ∧
  (((@Cll.to x) = (@Cll.to x)) ∧
  ((((0 : @Nat) = (0 : @Nat)) ∧
  ((@Cll.gn x) = (@Cll.gn x))) ∧
  True))))) ∧
  ((((@rowG x) = (@rowG x)) ∧
  (@Bool.true = @Bool.true)) ∧
  True)))))))) ((@I64 (((s : Nat) : @Int) + (1 : @Int))) ∧
  (∃ (s_2 : @Nat), (((s_2 ≤ (@Cll.gn x)) ∧
  (@Hd (@invMs x s_2))) ∧
  ((((@Cll.gn x) - s_2) < ((@Cll.gn x) - s)) ∧
  (((((s_2 : Nat) : @Int) = (((s : Nat) : @Int) + (1 : @Int))) ∧
  True) ∧
  ((((@Cll.kind x) = (@Cll.kind x)) ∧
  (((@Cll.key x) = (@Cll.key x)) ∧
  (((@Cll.value x) = (@Cll.value x)) ∧
  (((@Cll.to x) = (@Cll.to x)) ∧
  ((((0 : @Nat) = (0 : @Nat)) ∧
  ((@Cll.gn x) = (@Cll.gn x))) ∧
  True))))) ∧
  ((((@rowG x) = (@rowG x)) ∧
  (@Bool.true = @Bool.true)) ∧
  True)))))))))) ∧
  True)))))))))))))) (∃ (y : Unit), (True ∧
  (((@b2i (@Bool.not (@shapeM x))) = (0 : @Int)) ∧
  ((((@rowG x) = (@rowG x)) ∧
  (@Bool.true = @Bool.true)) ∧
  True))))))) ∧
  True)))) (∃ (y : Unit), (True ∧
  (((@b2i (@Bool.not (@shapeM x))) = (1 : @Int)) ∧
  ((((@rowG x) = (@rowG x)) ∧
  (@Bool.true = @Bool.true)) ∧
  True))))))))))))
theorem rshapeVC_ok (x : Cll) : rshapeVC x = rshapeVC_wp x := by kernel_rfl
def goodVC_wp (x : Cll) : Prop := wpF Try.prog [(53, ctrT shapeC), (54, ctrT longC)] tt noAn 200 5 17 (goodC.args x) (hO goodC.k (goodC.os x)) (fun v h' => endsP goodC.k x v h' goodC.outs)
def goodVC (x : Cll) : Prop :=
  (∃ (x_1 : @Cll), (((@Cll.gn x_1) < (1099511627776 : @Nat)) ∧
  (((((@Cll.kind x_1) = (@Cll.kind x)) ∧
  (((@Cll.key x_1) = (@Cll.key x)) ∧
  (((@Cll.value x_1) = (@Cll.value x)) ∧
  (((@Cll.to x_1) = (@Cll.to x)) ∧
  ((((0 : @Nat) = (0 : @Nat)) ∧
  ((@Cll.gn x_1) = (@Cll.gn x))) ∧
  True))))) ∧
  True) ∧
  (((((@Cll.gn x_1) = (@Cll.gn x)) ∧
  (∀ (q : @Nat), ((q < (@Cll.gn x_1)) → ([(Value.int @IntKind.i64 (@Mem.kind (@Cll.g x_1 q))), (Value.string (@Mem.key (@Cll.g x_1 q))), (Value.string (@Mem.value (@Cll.g x_1 q))), (Value.string (@Mem.to (@Cll.g x_1 q))), (Value.slice (@Mem.gp (@Cll.g x_1 q)) (@Mem.gn (@Cll.g x_1 q)) (@Mem.gc (@Cll.g x_1 q)))] = [(Value.int @IntKind.i64 (@Mem.kind (@Cll.g x q))), (Value.string (@Mem.key (@Cll.g x q))), (Value.string (@Mem.value (@Cll.g x q))), (Value.string (@Mem.to (@Cll.g x q))), (Value.slice (@Mem.gp (@Cll.g x q)) (@Mem.gn (@Cll.g x q)) (@Mem.gc (@Cll.g x q)))])))) ∧
  True) ∧
  (∀ (y : Unit), (True → (cP (@Bool.not (@shapeM x_1)) (∃ (y_1 : Unit), (True ∧
  (((@goodM x) = (1 : @Int)) ∧
  ((((@rowG x) = (@rowG x)) ∧
  (@Bool.true = @Bool.true)) ∧
  True)))) (∃ (x_2 : @Cll), ((@Hd (@Cll.small x_2)) ∧
  (((((@Cll.kind x_2) = (@Cll.kind x)) ∧
  (((@Cll.key x_2) = (@Cll.key x)) ∧
  (((@Cll.value x_2) = (@Cll.value x)) ∧
  (((@Cll.to x_2) = (@Cll.to x)) ∧
  ((((0 : @Nat) = (0 : @Nat)) ∧
  ((@Cll.gn x_2) = (@Cll.gn x))) ∧
  True))))) ∧
  True) ∧
  (((((@Cll.gn x_2) = (@Cll.gn x)) ∧
  (∀ (q : @Nat), ((q < (@Cll.gn x_2)) → ([(Value.int @IntKind.i64 (@Mem.kind (@Cll.g x_2 q))), (Value.string (@Mem.key (@Cll.g x_2 q))), (Value.string (@Mem.value (@Cll.g x_2 q))), (Value.string (@Mem.to (@Cll.g x_2 q))), (Value.slice (@Mem.gp (@Cll.g x_2 q)) (@Mem.gn (@Cll.g x_2 q)) (@Mem.gc (@Cll.g x_2 q)))] = [(Value.int @IntKind.i64 (@Mem.kind (@Cll.g x q))), (Value.string (@Mem.key (@Cll.g x q))), (Value.string (@Mem.value (@Cll.g x q))), (Value.string (@Mem.to (@Cll.g x q))), (Value.slice (@Mem.gp (@Cll.g x q)) (@Mem.gn (@Cll.g x q)) (@Mem.gc (@Cll.g x q)))])))) ∧
  True) ∧
  (∀ (y_1 : Unit), (True → (cP (@longM x_2) (∃ (y_2 : Unit), (True ∧
  (((@goodM x) = (5 : @Int)) ∧
  ((((@rowG x) = (@rowG x)) ∧
  (@Bool.true = @Bool.true)) ∧
  True)))) (∃ (y_2 : Unit), (True ∧
  (((@goodM x) = (0 : @Int)) ∧
  ((((@rowG x) = (@rowG x)) ∧
  (@Bool.true = @Bool.true)) ∧
  True))))))))))))))))))
theorem goodVC_ok (x : Cll) : goodVC x = goodVC_wp x := by kernel_rfl
def rgoodVC_wp (x : Cll) : Prop := wpF Try.prog [(72, ctrT rshapeC), (73, ctrT longC)] tt noAn 200 5 44 (goodC.args x) (hO goodC.k (goodC.os x)) (fun v h' => endsP goodC.k x v h' goodC.outs)
def rgoodVC (x : Cll) : Prop :=
  (∃ (x_1 : @Cll), ((@Hd (@Cll.small x_1)) ∧
  (((((@Cll.kind x_1) = (@Cll.kind x)) ∧
  (((@Cll.key x_1) = (@Cll.key x)) ∧
  (((@Cll.value x_1) = (@Cll.value x)) ∧
  (((@Cll.to x_1) = (@Cll.to x)) ∧
  ((((0 : @Nat) = (0 : @Nat)) ∧
  ((@Cll.gn x_1) = (@Cll.gn x))) ∧
  True))))) ∧
  ((@Bool.false = @Bool.false) ∧
  True)) ∧
  (((((@Cll.gn x_1) = (@Cll.gn x)) ∧
  (∀ (q : @Nat), ((q < (@Cll.gn x_1)) → ([(Value.int @IntKind.i64 (@Mem.kind (@Cll.g x_1 q))), (Value.string (@Mem.key (@Cll.g x_1 q))), (Value.string (@Mem.value (@Cll.g x_1 q))), (Value.string (@Mem.to (@Cll.g x_1 q))), (Value.slice (@Mem.gp (@Cll.g x_1 q)) (@Mem.gn (@Cll.g x_1 q)) (@Mem.gc (@Cll.g x_1 q)))] = [(Value.int @IntKind.i64 (@Mem.kind (@Cll.g x q))), (Value.string (@Mem.key (@Cll.g x q))), (Value.string (@Mem.value (@Cll.g x q))), (Value.string (@Mem.to (@Cll.g x q))), (Value.slice (@Mem.gp (@Cll.g x q)) (@Mem.gn (@Cll.g x q)) (@Mem.gc (@Cll.g x q)))])))) ∧
  True) ∧
  (∀ (y : Unit), (True → (cP (@BEq.beq @Int (@instBEqOfDecidableEq @Int @Int.instDecidableEq) (@b2i (@Bool.not (@shapeM x_1))) (0 : @Int)) (∃ (x_2 : @Cll), ((@Hd (@Cll.small x_2)) ∧
  (((((@Cll.kind x_2) = (@Cll.kind x)) ∧
  (((@Cll.key x_2) = (@Cll.key x)) ∧
  (((@Cll.value x_2) = (@Cll.value x)) ∧
  (((@Cll.to x_2) = (@Cll.to x)) ∧
  ((((0 : @Nat) = (0 : @Nat)) ∧
  ((@Cll.gn x_2) = (@Cll.gn x))) ∧
  True))))) ∧
  True) ∧
  (((((@Cll.gn x_2) = (@Cll.gn x)) ∧
  (∀ (q : @Nat), ((q < (@Cll.gn x_2)) → ([(Value.int @IntKind.i64 (@Mem.kind (@Cll.g x_2 q))), (Value.string (@Mem.key (@Cll.g x_2 q))), (Value.string (@Mem.value (@Cll.g x_2 q))), (Value.string (@Mem.to (@Cll.g x_2 q))), (Value.slice (@Mem.gp (@Cll.g x_2 q)) (@Mem.gn (@Cll.g x_2 q)) (@Mem.gc (@Cll.g x_2 q)))] = [(Value.int @IntKind.i64 (@Mem.kind (@Cll.g x q))), (Value.string (@Mem.key (@Cll.g x q))), (Value.string (@Mem.value (@Cll.g x q))), (Value.string (@Mem.to (@Cll.g x q))), (Value.slice (@Mem.gp (@Cll.g x q)) (@Mem.gn (@Cll.g x q)) (@Mem.gc (@Cll.g x q)))])))) ∧
  True) ∧
  (∀ (y_1 : Unit), (True → (cP (@longM x_2) (∃ (y_2 : Unit), (True ∧
  (((@goodM x) = (5 : @Int)) ∧
  ((((@rowG x) = (@rowG x)) ∧
  (@Bool.true = @Bool.true)) ∧
  True)))) (∃ (y_2 : Unit), (True ∧
  (((@goodM x) = (@b2i (@Bool.not (@shapeM x_1)))) ∧
  ((((@rowG x) = (@rowG x)) ∧
  (@Bool.true = @Bool.true)) ∧
  True))))))))))) (∃ (y_1 : Unit), (True ∧
  (((@goodM x) = (@b2i (@Bool.not (@shapeM x_1)))) ∧
  ((((@rowG x) = (@rowG x)) ∧
  (@Bool.true = @Bool.true)) ∧
  True)))))))))))
theorem rgoodVC_ok (x : Cll) : rgoodVC x = rgoodVC_wp x := by kernel_rfl
def weightVC_wp (x : Cll) : Prop := wpF Try.prog [] tt (anWeight x) 200 5 10 (weightC.args x) (hO weightC.k (weightC.os x)) (fun v h' => endsP weightC.k x v h' weightC.outs)
def weightVC (x : Cll) : Prop :=
  (cP (decide (@GT.gt @Int @Int.instLTInt (((@ByteArray.size (@Cll.key x)) : Nat) : @Int) (1500 : @Int))) ((@I64 (1501 : @Int)) ∧
  (∃ (y : @Int), ((@Hd ((y ≤ (1500 : @Int)) → (@Cll.small x))) ∧
  ((y = (1501 : @Int)) ∧
  ((((@rowG x) = (@rowG x)) ∧
  (@Bool.true = @Bool.true)) ∧
  True))))) (cP (decide (@GT.gt @Int @Int.instLTInt (((@ByteArray.size (@Cll.value x)) : Nat) : @Int) (1500 : @Int))) ((@I64 (1501 : @Int)) ∧
  (∃ (y : @Int), ((@Hd ((y ≤ (1500 : @Int)) → (@Cll.small x))) ∧
  ((y = (1501 : @Int)) ∧
  ((((@rowG x) = (@rowG x)) ∧
  (@Bool.true = @Bool.true)) ∧
  True))))) (cP (decide (@GT.gt @Int @Int.instLTInt (((@ByteArray.size (@Cll.to x)) : Nat) : @Int) (1500 : @Int))) ((@I64 (1501 : @Int)) ∧
  (∃ (y : @Int), ((@Hd ((y ≤ (1500 : @Int)) → (@Cll.small x))) ∧
  ((y = (1501 : @Int)) ∧
  ((((@rowG x) = (@rowG x)) ∧
  (@Bool.true = @Bool.true)) ∧
  True))))) (cP (decide (@GT.gt @Int @Int.instLTInt (((@Cll.gn x) : Nat) : @Int) (1500 : @Int))) ((@I64 (1501 : @Int)) ∧
  (∃ (y : @Int), ((@Hd ((y ≤ (1500 : @Int)) → (@Cll.small x))) ∧
  ((y = (1501 : @Int)) ∧
  ((((@rowG x) = (@rowG x)) ∧
  (@Bool.true = @Bool.true)) ∧
  True))))) ((@I64 ((((@ByteArray.size (@Cll.key x)) : Nat) : @Int) + (((@ByteArray.size (@Cll.value x)) : Nat) : @Int))) ∧
  ((@I64 (((((@ByteArray.size (@Cll.key x)) : Nat) : @Int) + (((@ByteArray.size (@Cll.value x)) : Nat) : @Int)) + (((@ByteArray.size (@Cll.to x)) : Nat) : @Int))) ∧
  ((∃ (s : (@Prod @Nat @Int)), ((((@Prod.fst @Nat @Int s) ≤ (@Cll.gn x)) ∧
  (@Hd (@invW x s))) ∧
  (True ∧
  ((((((@Prod.fst @Nat @Int s) : Nat) : @Int) = (0 : @Int)) ∧
  (((@Prod.snd @Nat @Int s) = (((((@ByteArray.size (@Cll.key x)) : Nat) : @Int) + (((@ByteArray.size (@Cll.value x)) : Nat) : @Int)) + (((@ByteArray.size (@Cll.to x)) : Nat) : @Int))) ∧
  True)) ∧
  ((((@Cll.kind x) = (@Cll.kind x)) ∧
  (((@Cll.key x) = (@Cll.key x)) ∧
  (((@Cll.value x) = (@Cll.value x)) ∧
  (((@Cll.to x) = (@Cll.to x)) ∧
  ((((0 : @Nat) = (0 : @Nat)) ∧
  ((@Cll.gn x) = (@Cll.gn x))) ∧
  True))))) ∧
  ((((@rowG x) = (@rowG x)) ∧
  (@Bool.true = @Bool.true)) ∧
  True)))))) ∧
  ((∀ (s : (@Prod @Nat @Int)), ((((@Prod.fst @Nat @Int s) ≤ (@Cll.gn x)) ∧
  (@Hd (@invW x s))) → (cP (decide ((((@Prod.fst @Nat @Int s) : Nat) : @Int) < (((@Cll.gn x) : Nat) : @Int))) (cP (decide ((@Prod.snd @Nat @Int s) ≤ (1500 : @Int))) ((((0 : @Int) ≤ (((@Prod.fst @Nat @Int s) : Nat) : @Int)) ∧
  ((((@Prod.fst @Nat @Int s) : Nat) : @Int) < (((@Cll.gn x) : Nat) : @Int))) ∧
  ((((0 : @Nat) + (@Prod.fst @Nat @Int s)) < (@Cll.gn x)) ∧
  (cP (decide (@GT.gt @Int @Int.instLTInt (((@ByteArray.size (@Mem.key (@Cll.g x ((0 : @Nat) + (@Prod.fst @Nat @Int s))))) : Nat) : @Int) (1500 : @Int))) ((@I64 (1501 : @Int)) ∧
  (∃ (y : @Int), ((@Hd ((y ≤ (1500 : @Int)) → (@Cll.small x))) ∧
  ((y = (1501 : @Int)) ∧
  ((((@rowG x) = (@rowG x)) ∧
  (@Bool.true = @Bool.true)) ∧
  True))))) (cP (decide (@GT.gt @Int @Int.instLTInt (((@ByteArray.size (@Mem.value (@Cll.g x ((0 : @Nat) + (@Prod.fst @Nat @Int s))))) : Nat) : @Int) (1500 : @Int))) ((@I64 (1501 : @Int)) ∧
  (∃ (y : @Int), ((@Hd ((y ≤ (1500 : @Int)) → (@Cll.small x))) ∧
  ((y = (1501 : @Int)) ∧
  ((((@rowG x) = (@rowG x)) ∧
  (@Bool.true = @Bool.true)) ∧
  True))))) (cP (decide (@GT.gt @Int @Int.instLTInt (((@ByteArray.size (@Mem.to (@Cll.g x ((0 : @Nat) + (@Prod.fst @Nat @Int s))))) : Nat) : @Int) (1500 : @Int))) ((@I64 (1501 : @Int)) ∧
  (∃ (y : @Int), ((@Hd ((y ≤ (1500 : @Int)) → (@Cll.small x))) ∧
  ((y = (1501 : @Int)) ∧
  ((((@rowG x) = (@rowG x)) ∧
  (@Bool.true = @Bool.true)) ∧
  True))))) (cP (decide (@GT.gt @Int @Int.instLTInt (((@Mem.gn (@Cll.g x ((0 : @Nat) + (@Prod.fst @Nat @Int s)))) : Nat) : @Int) (0 : @Int))) ((@I64 (1501 : @Int)) ∧
  (∃ (y : @Int), ((@Hd ((y ≤ (1500 : @Int)) → (@Cll.small x))) ∧
  ((y = (1501 : @Int)) ∧
  ((((@rowG x) = (@rowG x)) ∧
  (@Bool.true = @Bool.true)) ∧
  True))))) ((@I64 ((@Prod.snd @Nat @Int s) + (((@ByteArray.size (@Mem.key (@Cll.g x ((0 : @Nat) + (@Prod.fst @Nat @Int s))))) : Nat) : @Int))) ∧
  ((@I64 (((@Prod.snd @Nat @Int s) + (((@ByteArray.size (@Mem.key (@Cll.g x ((0 : @Nat) + (@Prod.fst @Nat @Int s))))) : Nat) : @Int)) + (((@ByteArray.size (@Mem.value (@Cll.g x ((0 : @Nat) + (@Prod.fst @Nat @Int s))))) : Nat) : @Int))) ∧
  ((@I64 ((((@Prod.snd @Nat @Int s) + (((@ByteArray.size (@Mem.key (@Cll.g x ((0 : @Nat) + (@Prod.fst @Nat @Int s))))) : Nat) : @Int)) + (((@ByteArray.size (@Mem.value (@Cll.g x ((0 : @Nat) + (@Prod.fst @Nat @Int s))))) : Nat) : @Int)) + (((@ByteArray.size (@Mem.to (@Cll.g x ((0 : @Nat) + (@Prod.fst @Nat @Int s))))) : Nat) : @Int))) ∧
  ((@I64 ((((@Prod.fst @Nat @Int s) : Nat) : @Int) + (1 : @Int))) ∧
  (∃ (s_1 : (@Prod @Nat @Int)), ((((@Prod.fst @Nat @Int s_1) ≤ (@Cll.gn x)) ∧
  (@Hd (@invW x s_1))) ∧
  ((((@Cll.gn x) - (@Prod.fst @Nat @Int s_1)) < ((@Cll.gn x) - (@Prod.fst @Nat @Int s))) ∧
  ((((((@Prod.fst @Nat @Int s_1) : Nat) : @Int) = ((((@Prod.fst @Nat @Int s) : Nat) : @Int) + (1 : @Int))) ∧
  (((@Prod.snd @Nat @Int s_1) = ((((@Prod.snd @Nat @Int s) + (((@ByteArray.size (@Mem.key (@Cll.g x ((0 : @Nat) + (@Prod.fst @Nat @Int s))))) : Nat) : @Int)) + (((@ByteArray.size (@Mem.value (@Cll.g x ((0 : @Nat) + (@Prod.fst @Nat @Int s))))) : Nat) : @Int)) + (((@ByteArray.size (@Mem.to (@Cll.g x ((0 : @Nat) + (@Prod.fst @Nat @Int s))))) : Nat) : @Int))) ∧
  True)) ∧
  ((((@Cll.kind x) = (@Cll.kind x)) ∧
  (((@Cll.key x) = (@Cll.key x)) ∧
  (((@Cll.value x) = (@Cll.value x)) ∧
  (((@Cll.to x) = (@Cll.to x)) ∧
  ((((0 : @Nat) = (0 : @Nat)) ∧
  ((@Cll.gn x) = (@Cll.gn x))) ∧
  True))))) ∧
  ((((@rowG x) = (@rowG x)) ∧
  (@Bool.true = @Bool.true)) ∧
  True)))))))))))))))) ((@I64 (1501 : @Int)) ∧
  (∃ (y : @Int), ((@Hd ((y ≤ (1500 : @Int)) → (@Cll.small x))) ∧
  ((y = (@imin (@Prod.snd @Nat @Int s) (1501 : @Int))) ∧
  ((((@rowG x) = (@rowG x)) ∧
  (@Bool.true = @Bool.true)) ∧
  True)))))) ((@I64 (1501 : @Int)) ∧
  (∃ (y : @Int), ((@Hd ((y ≤ (1500 : @Int)) → (@Cll.small x))) ∧
  ((y = (@imin (@Prod.snd @Nat @Int s) (1501 : @Int))) ∧
  ((((@rowG x) = (@rowG x)) ∧
  (@Bool.true = @Bool.true)) ∧
  True)))))))) ∧
  True))))))))
theorem weightVC_ok (x : Cll) : weightVC x = weightVC_wp x := by kernel_rfl
def greatVC_wp (x : Shf) : Prop := wpF Try.prog [] tt (anGreat x) 200 5 9 (greatC.args x) (hO greatC.k (greatC.os x)) (fun v h' => endsP greatC.k x v h' greatC.outs)
def greatVC (x : Shf) : Prop :=
  (cP (decide (@GT.gt @Int @Int.instLTInt (((@Shf.n x) : Nat) : @Int) (40 : @Int))) (∃ (y : @Bool), ((@Hd ((y = @Bool.false) → (@Shf.small x))) ∧
  ((y = @Bool.true) ∧
  ((((@rowP x) = (@rowP x)) ∧
  (@Bool.true = @Bool.true)) ∧
  ((((@rowQ x) = (@rowQ x)) ∧
  (@Bool.true = @Bool.true)) ∧
  True))))) (cP (decide (@GT.gt @Int @Int.instLTInt (((@Shf.m x) : Nat) : @Int) (40 : @Int))) (∃ (y : @Bool), ((@Hd ((y = @Bool.false) → (@Shf.small x))) ∧
  ((y = @Bool.true) ∧
  ((((@rowP x) = (@rowP x)) ∧
  (@Bool.true = @Bool.true)) ∧
  ((((@rowQ x) = (@rowQ x)) ∧
  (@Bool.true = @Bool.true)) ∧
  True))))) ((∃ (s : @Nat), (((s ≤ (@Shf.n x)) ∧
  (@Hd (@invG x s))) ∧
  (True ∧
  (((((s : Nat) : @Int) = (0 : @Int)) ∧
  True) ∧
  (((((0 : @Nat) = (0 : @Nat)) ∧
  ((@Shf.n x) = (@Shf.n x))) ∧
  ((((0 : @Nat) = (0 : @Nat)) ∧
  ((@Shf.m x) = (@Shf.m x))) ∧
  True)) ∧
  ((((@rowQ x) = (@rowQ x)) ∧
  (@Bool.true = @Bool.true)) ∧
  ((((@rowP x) = (@rowP x)) ∧
  (@Bool.true = @Bool.true)) ∧
  True))))))) ∧
  ((∀ (s : @Nat), (((s ≤ (@Shf.n x)) ∧
  (@Hd (@invG x s))) → (cP (decide (((s : Nat) : @Int) < (((@Shf.n x) : Nat) : @Int))) ((((0 : @Int) ≤ ((s : Nat) : @Int)) ∧
  (((s : Nat) : @Int) < (((@Shf.n x) : Nat) : @Int))) ∧
  ((((0 : @Nat) + s) < (@Shf.n x)) ∧
  (cP (decide (@GT.gt @Int @Int.instLTInt (((@ByteArray.size (@Shf.pk x ((0 : @Nat) + s))) : Nat) : @Int) (600 : @Int))) (∃ (y : @Bool), ((@Hd ((y = @Bool.false) → (@Shf.small x))) ∧
  ((y = @Bool.true) ∧
  ((((@rowP x) = (@rowP x)) ∧
  (@Bool.true = @Bool.true)) ∧
  ((((@rowQ x) = (@rowQ x)) ∧
  (@Bool.true = @Bool.true)) ∧
  True))))) ((((0 : @Int) ≤ ((s : Nat) : @Int)) ∧
  (((s : Nat) : @Int) < (((@Shf.n x) : Nat) : @Int))) ∧
  ((((0 : @Nat) + s) < (@Shf.n x)) ∧
  (cP (decide (@GT.gt @Int @Int.instLTInt (((@ByteArray.size (@Shf.pv x ((0 : @Nat) + s))) : Nat) : @Int) (600 : @Int))) (∃ (y : @Bool), ((@Hd ((y = @Bool.false) → (@Shf.small x))) ∧
  ((y = @Bool.true) ∧
  ((((@rowP x) = (@rowP x)) ∧
  (@Bool.true = @Bool.true)) ∧
  ((((@rowQ x) = (@rowQ x)) ∧
  (@Bool.true = @Bool.true)) ∧
  True))))) ((@I64 (((s : Nat) : @Int) + (1 : @Int))) ∧
  (∃ (s_1 : @Nat), (((s_1 ≤ (@Shf.n x)) ∧
  (@Hd (@invG x s_1))) ∧
  ((((@Shf.n x) - s_1) < ((@Shf.n x) - s)) ∧
  (((((s_1 : Nat) : @Int) = (((s : Nat) : @Int) + (1 : @Int))) ∧
  True) ∧
  (((((0 : @Nat) = (0 : @Nat)) ∧
  ((@Shf.n x) = (@Shf.n x))) ∧
  ((((0 : @Nat) = (0 : @Nat)) ∧
  ((@Shf.m x) = (@Shf.m x))) ∧
  True)) ∧
  ((((@rowQ x) = (@rowQ x)) ∧
  (@Bool.true = @Bool.true)) ∧
  ((((@rowP x) = (@rowP x)) ∧
  (@Bool.true = @Bool.true)) ∧
  True)))))))))))))) ((∃ (s_1 : @Nat), (((s_1 ≤ (@Shf.m x)) ∧
  (@Hd (@invQ x s_1))) ∧
  (True ∧
  (((((s_1 : Nat) : @Int) = (0 : @Int)) ∧
  True) ∧
  (((((0 : @Nat) = (0 : @Nat)) ∧
  ((@Shf.n x) = (@Shf.n x))) ∧
  ((((0 : @Nat) = (0 : @Nat)) ∧
  ((@Shf.m x) = (@Shf.m x))) ∧
  True)) ∧
  ((((@rowQ x) = (@rowQ x)) ∧
  (@Bool.true = @Bool.true)) ∧
  ((((@rowP x) = (@rowP x)) ∧
  (@Bool.true = @Bool.true)) ∧
  True))))))) ∧
  ((∀ (s_1 : @Nat), (((s_1 ≤ (@Shf.m x)) ∧
  (@Hd (@invQ x s_1))) → (cP (decide (((s_1 : Nat) : @Int) < (((@Shf.m x) : Nat) : @Int))) ((((0 : @Int) ≤ ((s_1 : Nat) : @Int)) ∧
  (((s_1 : Nat) : @Int) < (((@Shf.m x) : Nat) : @Int))) ∧
  ((((0 : @Nat) + s_1) < (@Shf.m x)) ∧
  (cP (decide (@GT.gt @Int @Int.instLTInt (((@ByteArray.size (@Shf.qv x ((0 : @Nat) + s_1))) : Nat) : @Int) (600 : @Int))) (∃ (y : @Bool), ((@Hd ((y = @Bool.false) → (@Shf.small x))) ∧
  ((y = @Bool.true) ∧
  ((((@rowP x) = (@rowP x)) ∧
  (@Bool.true = @Bool.true)) ∧
  ((((@rowQ x) = (@rowQ x)) ∧
  (@Bool.true = @Bool.true)) ∧
  True))))) ((@I64 (((s_1 : Nat) : @Int) + (1 : @Int))) ∧
  (∃ (s_2 : @Nat), (((s_2 ≤ (@Shf.m x)) ∧
  (@Hd (@invQ x s_2))) ∧
  ((((@Shf.m x) - s_2) < ((@Shf.m x) - s_1)) ∧
  (((((s_2 : Nat) : @Int) = (((s_1 : Nat) : @Int) + (1 : @Int))) ∧
  True) ∧
  (((((0 : @Nat) = (0 : @Nat)) ∧
  ((@Shf.n x) = (@Shf.n x))) ∧
  ((((0 : @Nat) = (0 : @Nat)) ∧
  ((@Shf.m x) = (@Shf.m x))) ∧
  True)) ∧
  ((((@rowQ x) = (@rowQ x)) ∧
  (@Bool.true = @Bool.true)) ∧
  ((((@rowP x) = (@rowP x)) ∧
  (@Bool.true = @Bool.true)) ∧
  True))))))))))) (∃ (y : @Bool), ((@Hd ((y = @Bool.false) → (@Shf.small x))) ∧
  ((y = @Bool.false) ∧
  ((((@rowP x) = (@rowP x)) ∧
  (@Bool.true = @Bool.true)) ∧
  ((((@rowQ x) = (@rowQ x)) ∧
  (@Bool.true = @Bool.true)) ∧
  True)))))))) ∧
  True))))) ∧
  True))))
theorem greatVC_ok (x : Shf) : greatVC x = greatVC_wp x := by kernel_rfl
end Go.Proofs.Ytjndgegfonhhfaa
end
