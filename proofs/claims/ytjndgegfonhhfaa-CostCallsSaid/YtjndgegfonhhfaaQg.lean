import Derived.Test.YtjndgegfonhhfaaQa
import Derived.Test.YtjndgegfonhhfaaQb
import Derived.Test.YtjndgegfonhhfaaQc
import Derived.Test.YtjndgegfonhhfaaQd
import Derived.Test.YtjndgegfonhhfaaQe
import Derived.Test.YtjndgegfonhhfaaQf
import Derived.KernelRfl
section
/- What is asked of good calls. -/
namespace Go.Proofs.Ytjndgegfonhhfaa
open Go SE
def tblK : WTbl := [(80, ctrT keyedC), (81, ctrT groupedC)]
def keyedVC_wp (x : Int) : Prop := wpF Try.prog [] tt noAn 200 5 80 (keyedC.args x) (hO keyedC.k (keyedC.os x)) (fun v h' => endsP keyedC.k x v h' keyedC.outs)
def keyedVC (x : Int) : Prop :=
  (cP (@BEq.beq @Int (@instBEqOfDecidableEq @Int @Int.instDecidableEq) x (1 : @Int)) (∃ (y : Unit), (True ∧
  (((@keyedM x) = @Bool.true) ∧
  True))) (cP (@BEq.beq @Int (@instBEqOfDecidableEq @Int @Int.instDecidableEq) x (2 : @Int)) (∃ (y : Unit), (True ∧
  (((@keyedM x) = @Bool.true) ∧
  True))) (∃ (y : Unit), (True ∧
  (((@keyedM x) = (@BEq.beq @Int (@instBEqOfDecidableEq @Int @Int.instDecidableEq) x (3 : @Int))) ∧
  True)))))
theorem keyedVC_ok (x : Int) : keyedVC x = keyedVC_wp x := by kernel_rfl
def groupedVC_wp (x : Int) : Prop := wpF Try.prog [] tt noAn 200 5 81 (groupedC.args x) (hO groupedC.k (groupedC.os x)) (fun v h' => endsP groupedC.k x v h' groupedC.outs)
def groupedVC (x : Int) : Prop :=
  (cP (@BEq.beq @Int (@instBEqOfDecidableEq @Int @Int.instDecidableEq) x (2 : @Int)) (∃ (y : Unit), (True ∧
  (((@groupedM x) = @Bool.true) ∧
  True))) (cP (@BEq.beq @Int (@instBEqOfDecidableEq @Int @Int.instDecidableEq) x (3 : @Int)) (∃ (y : Unit), (True ∧
  (((@groupedM x) = @Bool.true) ∧
  True))) (∃ (y : Unit), (True ∧
  (((@groupedM x) = (@BEq.beq @Int (@instBEqOfDecidableEq @Int @Int.instDecidableEq) x (4 : @Int))) ∧
  True)))))
theorem groupedVC_ok (x : Int) : groupedVC x = groupedVC_wp x := by kernel_rfl
def shapeVC_wp (x : Cll) : Prop := wpF Try.prog tblK tt (anShape x) 200 5 53 (shapeC.args x) (hO shapeC.k (shapeC.os x)) (fun v h' => endsP shapeC.k x v h' shapeC.outs)
def shapeVC (x : Cll) : Prop :=
  (cP (decide ((@Cll.kind x) < (1 : @Int))) (∃ (y : Unit), (True ∧
  (((@shapeM x) = @Bool.false) ∧
  ((((@rowG x) = (@rowG x)) ∧
  (@Bool.true = @Bool.true)) ∧
  True)))) (cP (decide (@GT.gt @Int @Int.instLTInt (@Cll.kind x) (8 : @Int))) (∃ (y : Unit), (True ∧
  (((@shapeM x) = @Bool.false) ∧
  ((((@rowG x) = (@rowG x)) ∧
  (@Bool.true = @Bool.true)) ∧
  True)))) (∃ (x_1 : @Int), (True ∧
  (((x_1 = (@Cll.kind x)) ∧
  True) ∧
  (True ∧
  (∀ (y : Unit), (True → (cP (@keyedM x_1) (cP (@BEq.beq (@List @UInt8) (@List.instBEq @UInt8 (@instBEqOfDecidableEq @UInt8 @instDecidableEqUInt8)) (@ByteArray.toList (@Cll.key x)) (@ByteArray.toList (@ByteArray.mk (@List.toArray @UInt8 (@List.nil @UInt8))))) (∃ (y_1 : Unit), (True ∧
  (((@shapeM x) = @Bool.false) ∧
  ((((@rowG x) = (@rowG x)) ∧
  (@Bool.true = @Bool.true)) ∧
  True)))) (cP (@bne @Int (@instBEqOfDecidableEq @Int @Int.instDecidableEq) (@Cll.kind x) (7 : @Int)) (∃ (y_1 : Unit), (True ∧
  (((@shapeM x) = @Bool.true) ∧
  ((((@rowG x) = (@rowG x)) ∧
  (@Bool.true = @Bool.true)) ∧
  True)))) (cP (decide ((((@Cll.gn x) : Nat) : @Int) < (1 : @Int))) (∃ (y_1 : Unit), (True ∧
  (((@shapeM x) = @Bool.false) ∧
  ((((@rowG x) = (@rowG x)) ∧
  (@Bool.true = @Bool.true)) ∧
  True)))) (cP (decide (@GT.gt @Int @Int.instLTInt (((@Cll.gn x) : Nat) : @Int) (3 : @Int))) (∃ (y_1 : Unit), (True ∧
  (((@shapeM x) = @Bool.false) ∧
  ((((@rowG x) = (@rowG x)) ∧
  (@Bool.true = @Bool.true)) ∧
  True)))) ((∃ (s : @Nat), (((s ≤ (@Cll.gn x)) ∧
  (@Hd (@invMs x s))) ∧
  (True ∧
  (((((s : Nat) : @Int) = (0 : @Int)) ∧
  True) ∧
  ((((@Cll.kind x) = (@Cll.kind x)) ∧
  (((@Cll.key x) = (@Cll.key x)) ∧
  (((@Cll.value x) = (@Cll.value x)) ∧
  (((@Cll.to x) = (@Cll.to x)) ∧
  ((((0 : @Nat) = (0 : @Nat)) ∧
  ((@Cll.gn x) = (@Cll.gn x))) ∧
  True))))) ∧
  ((((@rowG x) = (@rowG x)) ∧
  (@Bool.true = @Bool.true)) ∧
  True)))))) ∧
  ((∀ (s : @Nat), (((s ≤ (@Cll.gn x)) ∧
  (@Hd (@invMs x s))) → (cP (decide (((s : Nat) : @Int) < (((@Cll.gn x) : Nat) : @Int))) ((((0 : @Int) ≤ ((s : Nat) : @Int)) ∧
  (((s : Nat) : @Int) < (((@Cll.gn x) : Nat) : @Int))) ∧
  ((((0 : @Nat) + s) < (@Cll.gn x)) ∧
  (∃ (x_2 : @Int), (True ∧
  (((x_2 = (@Mem.kind (@Cll.g x ((0 : @Nat) + s)))) ∧
  True) ∧
  (True ∧
  (∀ (y_1 : Unit), (True → (cP (@Bool.not (@groupedM x_2)) (∃ (y_2 : Unit), (True ∧
  (((@shapeM x) = @Bool.false) ∧
  ((((@rowG x) = (@rowG x)) ∧
  (@Bool.true = @Bool.true)) ∧
  True)))) (∃ (x_3 : @Int), (True ∧
  (((x_3 = (@Mem.kind (@Cll.g x ((0 : @Nat) + s)))) ∧
  True) ∧
  (True ∧
  (∀ (y_2 : Unit), (True → (cP (@keyedM x_3) (cP (@BEq.beq (@List @UInt8) (@List.instBEq @UInt8 (@instBEqOfDecidableEq @UInt8 @instDecidableEqUInt8)) (@ByteArray.toList (@Mem.key (@Cll.g x ((0 : @Nat) + s)))) (@ByteArray.toList (@ByteArray.mk (@List.toArray @UInt8 (@List.nil @UInt8))))) (∃ (y_3 : Unit), (True ∧
  (((@shapeM x) = @Bool.false) ∧
  ((((@rowG x) = (@rowG x)) ∧
  (@Bool.true = @Bool.true)) ∧
  True)))) (((0 : @Int) ≤ ((s : Nat) : @Int)) ∧
  ((((0 : @Nat) ≤ s) ∧
  ((s ≤ (@Cll.gn x)) ∧
  ((@Cll.gn x) ≤ (@Cll.gn x)))) ∧
  ((∃ (s_1 : @Nat), (((s_1 ≤ (Int.toNat ((s : Nat) : @Int))) ∧
  (@Hd (@invJ x (Int.toNat ((s : Nat) : @Int)) s_1))) ∧
  (True ∧
  (((((s_1 : Nat) : @Int) = (0 : @Int)) ∧
  True) ∧
  ((((@Mem.kind (@Cll.g x ((0 : @Nat) + s))) = (@Mem.kind (@Cll.g x ((0 : @Nat) + s)))) ∧
  (((@Mem.key (@Cll.g x ((0 : @Nat) + s))) = (@Mem.key (@Cll.g x ((0 : @Nat) + s)))) ∧
  (((@Mem.value (@Cll.g x ((0 : @Nat) + s))) = (@Mem.value (@Cll.g x ((0 : @Nat) + s)))) ∧
  (((@Mem.to (@Cll.g x ((0 : @Nat) + s))) = (@Mem.to (@Cll.g x ((0 : @Nat) + s)))) ∧
  (((Value.slice (@Mem.gp (@Cll.g x ((0 : @Nat) + s))) (@Mem.gn (@Cll.g x ((0 : @Nat) + s))) (@Mem.gc (@Cll.g x ((0 : @Nat) + s)))) = (Value.slice (@Mem.gp (@Cll.g x ((0 : @Nat) + s))) (@Mem.gn (@Cll.g x ((0 : @Nat) + s))) (@Mem.gc (@Cll.g x ((0 : @Nat) + s))))) ∧
  True))))) ∧
  ((((@Cll.kind x) = (@Cll.kind x)) ∧
  (((@Cll.key x) = (@Cll.key x)) ∧
  (((@Cll.value x) = (@Cll.value x)) ∧
  (((@Cll.to x) = (@Cll.to x)) ∧
  ((((0 : @Nat) = (0 : @Nat)) ∧
  ((@Cll.gn x) = (@Cll.gn x))) ∧
  True))))) ∧
  ((((@rowG x) = (@rowG x)) ∧
  (@Bool.true = @Bool.true)) ∧
  True))))))) ∧
  ((∀ (s_1 : @Nat), (((s_1 ≤ (Int.toNat ((s : Nat) : @Int))) ∧
  (@Hd (@invJ x (Int.toNat ((s : Nat) : @Int)) s_1))) → (cP (decide (((s_1 : Nat) : @Int) < (((s - (0 : @Nat)) : Nat) : @Int))) ((((0 : @Int) ≤ ((s_1 : Nat) : @Int)) ∧
  (((s_1 : Nat) : @Int) < (((s - (0 : @Nat)) : Nat) : @Int))) ∧
  ((((0 : @Nat) + s_1) < (@Cll.gn x)) ∧
  (∃ (x_4 : @Int), (True ∧
  (((x_4 = (@Mem.kind (@Cll.g x ((0 : @Nat) + s)))) ∧
  True) ∧
  (True ∧
  (∀ (y_3 : Unit), (True → (cP (@keyedM x_4) (∃ (x_5 : @Int), (True ∧
  (((x_5 = (@Mem.kind (@Cll.g x ((0 : @Nat) + s_1)))) ∧
  True) ∧
  (True ∧
  (∀ (y_4 : Unit), (True → (cP (@keyedM x_5) (cP (@BEq.beq (@List @UInt8) (@List.instBEq @UInt8 (@instBEqOfDecidableEq @UInt8 @instDecidableEqUInt8)) (@ByteArray.toList (@Mem.key (@Cll.g x ((0 : @Nat) + s)))) (@ByteArray.toList (@Mem.key (@Cll.g x ((0 : @Nat) + s_1))))) (∃ (y_5 : Unit), (True ∧
  (((@shapeM x) = @Bool.false) ∧
  ((((@rowG x) = (@rowG x)) ∧
  (@Bool.true = @Bool.true)) ∧
  True)))) ((@I64 (((s_1 : Nat) : @Int) + (1 : @Int))) ∧
  (∃ (s_2 : @Nat), (((s_2 ≤ (Int.toNat ((s : Nat) : @Int))) ∧
  (@Hd (@invJ x (Int.toNat ((s : Nat) : @Int)) s_2))) ∧
  ((((Int.toNat ((s : Nat) : @Int)) - s_2) < ((Int.toNat ((s : Nat) : @Int)) - s_1)) ∧
  (((((s_2 : Nat) : @Int) = (((s_1 : Nat) : @Int) + (1 : @Int))) ∧
  True) ∧
  ((((@Mem.kind (@Cll.g x ((0 : @Nat) + s))) = (@Mem.kind (@Cll.g x ((0 : @Nat) + s)))) ∧
  (((@Mem.key (@Cll.g x ((0 : @Nat) + s))) = (@Mem.key (@Cll.g x ((0 : @Nat) + s)))) ∧
  (((@Mem.value (@Cll.g x ((0 : @Nat) + s))) = (@Mem.value (@Cll.g x ((0 : @Nat) + s)))) ∧
  (((@Mem.to (@Cll.g x ((0 : @Nat) + s))) = (@Mem.to (@Cll.g x ((0 : @Nat) + s)))) ∧
  (((Value.slice (@Mem.gp (@Cll.g x ((0 : @Nat) + s))) (@Mem.gn (@Cll.g x ((0 : @Nat) + s))) (@Mem.gc (@Cll.g x ((0 : @Nat) + s)))) = (Value.slice (@Mem.gp (@Cll.g x ((0 : @Nat) + s))) (@Mem.gn (@Cll.g x ((0 : @Nat) + s))) (@Mem.gc (@Cll.g x ((0 : @Nat) + s))))) ∧
  True))))) ∧
  ((((@Cll.kind x) = (@Cll.kind x)) ∧
  (((@Cll.key x) = (@Cll.key x)) ∧
  (((@Cll.value x) = (@Cll.value x)) ∧
  (((@Cll.to x) = (@Cll.to x)) ∧
  ((((0 : @Nat) = (0 : @Nat)) ∧
  ((@Cll.gn x) = (@Cll.gn x))) ∧
  True))))) ∧
  ((((@rowG x) = (@rowG x)) ∧
  (@Bool.true = @Bool.true)) ∧
  True))))))))) ((@I64 (((s_1 : Nat) : @Int) + (1 : @Int))) ∧
  (∃ (s_2 : @Nat), (((s_2 ≤ (Int.toNat ((s : Nat) : @Int))) ∧
  (@Hd (@invJ x (Int.toNat ((s : Nat) : @Int)) s_2))) ∧
  ((((Int.toNat ((s : Nat) : @Int)) - s_2) < ((Int.toNat ((s : Nat) : @Int)) - s_1)) ∧
  (((((s_2 : Nat) : @Int) = (((s_1 : Nat) : @Int) + (1 : @Int))) ∧
  True) ∧
  ((((@Mem.kind (@Cll.g x ((0 : @Nat) + s))) = (@Mem.kind (@Cll.g x ((0 : @Nat) + s)))) ∧
  (((@Mem.key (@Cll.g x ((0 : @Nat) + s))) = (@Mem.key (@Cll.g x ((0 : @Nat) + s)))) ∧
  (((@Mem.value (@Cll.g x ((0 : @Nat) + s))) = (@Mem.value (@Cll.g x ((0 : @Nat) + s)))) ∧
  (((@Mem.to (@Cll.g x ((0 : @Nat) + s))) = (@Mem.to (@Cll.g x ((0 : @Nat) + s)))) ∧
  (((Value.slice (@Mem.gp (@Cll.g x ((0 : @Nat) + s))) (@Mem.gn (@Cll.g x ((0 : @Nat) + s))) (@Mem.gc (@Cll.g x ((0 : @Nat) + s)))) = (Value.slice (@Mem.gp (@Cll.g x ((0 : @Nat) + s))) (@Mem.gn (@Cll.g x ((0 : @Nat) + s))) (@Mem.gc (@Cll.g x ((0 : @Nat) + s))))) ∧
  True))))) ∧
  ((((@Cll.kind x) = (@Cll.kind x)) ∧
  (((@Cll.key x) = (@Cll.key x)) ∧
  (((@Cll.value x) = (@Cll.value x)) ∧
  (((@Cll.to x) = (@Cll.to x)) ∧
  ((((0 : @Nat) = (0 : @Nat)) ∧
  ((@Cll.gn x) = (@Cll.gn x))) ∧
  True))))) ∧
  ((((@rowG x) = (@rowG x)) ∧
  (@Bool.true = @Bool.true)) ∧
  True))))))))))))))) ((@I64 (((s_1 : Nat) : @Int) + (1 : @Int))) ∧
  (∃ (s_2 : @Nat), (((s_2 ≤ (Int.toNat ((s : Nat) : @Int))) ∧
  (@Hd (@invJ x (Int.toNat ((s : Nat) : @Int)) s_2))) ∧
  ((((Int.toNat ((s : Nat) : @Int)) - s_2) < ((Int.toNat ((s : Nat) : @Int)) - s_1)) ∧
  (((((s_2 : Nat) : @Int) = (((s_1 : Nat) : @Int) + (1 : @Int))) ∧
  True) ∧
  ((((@Mem.kind (@Cll.g x ((0 : @Nat) + s))) = (@Mem.kind (@Cll.g x ((0 : @Nat) + s)))) ∧
  (((@Mem.key (@Cll.g x ((0 : @Nat) + s))) = (@Mem.key (@Cll.g x ((0 : @Nat) + s)))) ∧
  (((@Mem.value (@Cll.g x ((0 : @Nat) + s))) = (@Mem.value (@Cll.g x ((0 : @Nat) + s)))) ∧
  (((@Mem.to (@Cll.g x ((0 : @Nat) + s))) = (@Mem.to (@Cll.g x ((0 : @Nat) + s)))) ∧
  (((Value.slice (@Mem.gp (@Cll.g x ((0 : @Nat) + s))) (@Mem.gn (@Cll.g x ((0 : @Nat) + s))) (@Mem.gc (@Cll.g x ((0 : @Nat) + s)))) = (Value.slice (@Mem.gp (@Cll.g x ((0 : @Nat) + s))) (@Mem.gn (@Cll.g x ((0 : @Nat) + s))) (@Mem.gc (@Cll.g x ((0 : @Nat) + s))))) ∧
  True))))) ∧
  ((((@Cll.kind x) = (@Cll.kind x)) ∧
  (((@Cll.key x) = (@Cll.key x)) ∧
  (((@Cll.value x) = (@Cll.value x)) ∧
  (((@Cll.to x) = (@Cll.to x)) ∧
  ((((0 : @Nat) = (0 : @Nat)) ∧
  ((@Cll.gn x) = (@Cll.gn x))) ∧
  True))))) ∧
  ((((@rowG x) = (@rowG x)) ∧
  (@Bool.true = @Bool.true)) ∧
  True))))))))))))))))) ((@I64 (((s : Nat) : @Int) + (1 : @Int))) ∧
  (∃ (s_2 : @Nat), (((s_2 ≤ (@Cll.gn x)) ∧
  (@Hd (@invMs x s_2))) ∧
  ((((@Cll.gn x) - s_2) < ((@Cll.gn x) - s)) ∧
  (((((s_2 : Nat) : @Int) = (((s : Nat) : @Int) + (1 : @Int))) ∧
  True) ∧
  ((((@Cll.kind x) = (@Cll.kind x)) ∧
  (((@Cll.key x) = (@Cll.key x)) ∧
  (((@Cll.value x) = (@Cll.value x)) ∧
  (((@Cll.to x) = (@Cll.to x)) ∧
  ((((0 : @Nat) = (0 : @Nat)) ∧
  ((@Cll.gn x) = (@Cll.gn x))) ∧
  True))))) ∧
  ((((@rowG x) = (@rowG x)) ∧
  (@Bool.true = @Bool.true)) ∧
  True)))))))))) ∧
  True))))) (((0 : @Int) ≤ ((s : Nat) : @Int)) ∧
  ((((0 : @Nat) ≤ s) ∧
  ((s ≤ (@Cll.gn x)) ∧
  ((@Cll.gn x) ≤ (@Cll.gn x)))) ∧
  ((∃ (s_1 : @Nat), (((s_1 ≤ (Int.toNat ((s : Nat) : @Int))) ∧
  (@Hd (@invJ x (Int.toNat ((s : Nat) : @Int)) s_1))) ∧
  (True ∧
  (((((s_1 : Nat) : @Int) = (0 : @Int)) ∧
  True) ∧
  ((((@Mem.kind (@Cll.g x ((0 : @Nat) + s))) = (@Mem.kind (@Cll.g x ((0 : @Nat) + s)))) ∧
  (((@Mem.key (@Cll.g x ((0 : @Nat) + s))) = (@Mem.key (@Cll.g x ((0 : @Nat) + s)))) ∧
  (((@Mem.value (@Cll.g x ((0 : @Nat) + s))) = (@Mem.value (@Cll.g x ((0 : @Nat) + s)))) ∧
  (((@Mem.to (@Cll.g x ((0 : @Nat) + s))) = (@Mem.to (@Cll.g x ((0 : @Nat) + s)))) ∧
  (((Value.slice (@Mem.gp (@Cll.g x ((0 : @Nat) + s))) (@Mem.gn (@Cll.g x ((0 : @Nat) + s))) (@Mem.gc (@Cll.g x ((0 : @Nat) + s)))) = (Value.slice (@Mem.gp (@Cll.g x ((0 : @Nat) + s))) (@Mem.gn (@Cll.g x ((0 : @Nat) + s))) (@Mem.gc (@Cll.g x ((0 : @Nat) + s))))) ∧
  True))))) ∧
  ((((@Cll.kind x) = (@Cll.kind x)) ∧
  (((@Cll.key x) = (@Cll.key x)) ∧
  (((@Cll.value x) = (@Cll.value x)) ∧
  (((@Cll.to x) = (@Cll.to x)) ∧
  ((((0 : @Nat) = (0 : @Nat)) ∧
  ((@Cll.gn x) = (@Cll.gn x))) ∧
  True))))) ∧
  ((((@rowG x) = (@rowG x)) ∧
  (@Bool.true = @Bool.true)) ∧
  True))))))) ∧
  ((∀ (s_1 : @Nat), (((s_1 ≤ (Int.toNat ((s : Nat) : @Int))) ∧
  (@Hd (@invJ x (Int.toNat ((s : Nat) : @Int)) s_1))) → (cP (decide (((s_1 : Nat) : @Int) < (((s - (0 : @Nat)) : Nat) : @Int))) ((((0 : @Int) ≤ ((s_1 : Nat) : @Int)) ∧
  (((s_1 : Nat) : @Int) < (((s - (0 : @Nat)) : Nat) : @Int))) ∧
  ((((0 : @Nat) + s_1) < (@Cll.gn x)) ∧
  (∃ (x_4 : @Int), (True ∧
  (((x_4 = (@Mem.kind (@Cll.g x ((0 : @Nat) + s)))) ∧
  True) ∧
  (True ∧
  (∀ (y_3 : Unit), (True → (cP (@keyedM x_4) (∃ (x_5 : @Int), (True ∧
  (((x_5 = (@Mem.kind (@Cll.g x ((0 : @Nat) + s_1)))) ∧
  True) ∧
  (True ∧
  (∀ (y_4 : Unit), (True → (cP (@keyedM x_5) (cP (@BEq.beq (@List @UInt8) (@List.instBEq @UInt8 (@instBEqOfDecidableEq @UInt8 @instDecidableEqUInt8)) (@ByteArray.toList (@Mem.key (@Cll.g x ((0 : @Nat) + s)))) (@ByteArray.toList (@Mem.key (@Cll.g x ((0 : @Nat) + s_1))))) (∃ (y_5 : Unit), (True ∧
  (((@shapeM x) = @Bool.false) ∧
  ((((@rowG x) = (@rowG x)) ∧
  (@Bool.true = @Bool.true)) ∧
  True)))) ((@I64 (((s_1 : Nat) : @Int) + (1 : @Int))) ∧
  (∃ (s_2 : @Nat), (((s_2 ≤ (Int.toNat ((s : Nat) : @Int))) ∧
  (@Hd (@invJ x (Int.toNat ((s : Nat) : @Int)) s_2))) ∧
  ((((Int.toNat ((s : Nat) : @Int)) - s_2) < ((Int.toNat ((s : Nat) : @Int)) - s_1)) ∧
  (((((s_2 : Nat) : @Int) = (((s_1 : Nat) : @Int) + (1 : @Int))) ∧
  True) ∧
  ((((@Mem.kind (@Cll.g x ((0 : @Nat) + s))) = (@Mem.kind (@Cll.g x ((0 : @Nat) + s)))) ∧
  (((@Mem.key (@Cll.g x ((0 : @Nat) + s))) = (@Mem.key (@Cll.g x ((0 : @Nat) + s)))) ∧
  (((@Mem.value (@Cll.g x ((0 : @Nat) + s))) = (@Mem.value (@Cll.g x ((0 : @Nat) + s)))) ∧
  (((@Mem.to (@Cll.g x ((0 : @Nat) + s))) = (@Mem.to (@Cll.g x ((0 : @Nat) + s)))) ∧
  (((Value.slice (@Mem.gp (@Cll.g x ((0 : @Nat) + s))) (@Mem.gn (@Cll.g x ((0 : @Nat) + s))) (@Mem.gc (@Cll.g x ((0 : @Nat) + s)))) = (Value.slice (@Mem.gp (@Cll.g x ((0 : @Nat) + s))) (@Mem.gn (@Cll.g x ((0 : @Nat) + s))) (@Mem.gc (@Cll.g x ((0 : @Nat) + s))))) ∧
  True))))) ∧
  ((((@Cll.kind x) = (@Cll.kind x)) ∧
  (((@Cll.key x) = (@Cll.key x)) ∧
  (((@Cll.value x) = (@Cll.value x)) ∧
  (((@Cll.to x) = (@Cll.to x)) ∧
  ((((0 : @Nat) = (0 : @Nat)) ∧
  ((@Cll.gn x) = (@Cll.gn x))) ∧
  True))))) ∧
  ((((@rowG x) = (@rowG x)) ∧
  (@Bool.true = @Bool.true)) ∧
  True))))))))) ((@I64 (((s_1 : Nat) : @Int) + (1 : @Int))) ∧
  (∃ (s_2 : @Nat), (((s_2 ≤ (Int.toNat ((s : Nat) : @Int))) ∧
  (@Hd (@invJ x (Int.toNat ((s : Nat) : @Int)) s_2))) ∧
  ((((Int.toNat ((s : Nat) : @Int)) - s_2) < ((Int.toNat ((s : Nat) : @Int)) - s_1)) ∧
  (((((s_2 : Nat) : @Int) = (((s_1 : Nat) : @Int) + (1 : @Int))) ∧
  True) ∧
  ((((@Mem.kind (@Cll.g x ((0 : @Nat) + s))) = (@Mem.kind (@Cll.g x ((0 : @Nat) + s)))) ∧
  (((@Mem.key (@Cll.g x ((0 : @Nat) + s))) = (@Mem.key (@Cll.g x ((0 : @Nat) + s)))) ∧
  (((@Mem.value (@Cll.g x ((0 : @Nat) + s))) = (@Mem.value (@Cll.g x ((0 : @Nat) + s)))) ∧
  (((@Mem.to (@Cll.g x ((0 : @Nat) + s))) = (@Mem.to (@Cll.g x ((0 : @Nat) + s)))) ∧
  (((Value.slice (@Mem.gp (@Cll.g x ((0 : @Nat) + s))) (@Mem.gn (@Cll.g x ((0 : @Nat) + s))) (@Mem.gc (@Cll.g x ((0 : @Nat) + s)))) = (Value.slice (@Mem.gp (@Cll.g x ((0 : @Nat) + s))) (@Mem.gn (@Cll.g x ((0 : @Nat) + s))) (@Mem.gc (@Cll.g x ((0 : @Nat) + s))))) ∧
  True))))) ∧
  ((((@Cll.kind x) = (@Cll.kind x)) ∧
  (((@Cll.key x) = (@Cll.key x)) ∧
  (((@Cll.value x) = (@Cll.value x)) ∧
  (((@Cll.to x) = (@Cll.to x)) ∧
  ((((0 : @Nat) = (0 : @Nat)) ∧
  ((@Cll.gn x) = (@Cll.gn x))) ∧
  True))))) ∧
  ((((@rowG x) = (@rowG x)) ∧
  (@Bool.true = @Bool.true)) ∧
  True))))))))))))))) ((@I64 (((s_1 : Nat) : @Int) + (1 : @Int))) ∧
  (∃ (s_2 : @Nat), (((s_2 ≤ (Int.toNat ((s : Nat) : @Int))) ∧
  (@Hd (@invJ x (Int.toNat ((s : Nat) : @Int)) s_2))) ∧
  ((((Int.toNat ((s : Nat) : @Int)) - s_2) < ((Int.toNat ((s : Nat) : @Int)) - s_1)) ∧
  (((((s_2 : Nat) : @Int) = (((s_1 : Nat) : @Int) + (1 : @Int))) ∧
  True) ∧
  ((((@Mem.kind (@Cll.g x ((0 : @Nat) + s))) = (@Mem.kind (@Cll.g x ((0 : @Nat) + s)))) ∧
  (((@Mem.key (@Cll.g x ((0 : @Nat) + s))) = (@Mem.key (@Cll.g x ((0 : @Nat) + s)))) ∧
  (((@Mem.value (@Cll.g x ((0 : @Nat) + s))) = (@Mem.value (@Cll.g x ((0 : @Nat) + s)))) ∧
  (((@Mem.to (@Cll.g x ((0 : @Nat) + s))) = (@Mem.to (@Cll.g x ((0 : @Nat) + s)))) ∧
  (((Value.slice (@Mem.gp (@Cll.g x ((0 : @Nat) + s))) (@Mem.gn (@Cll.g x ((0 : @Nat) + s))) (@Mem.gc (@Cll.g x ((0 : @Nat) + s)))) = (Value.slice (@Mem.gp (@Cll.g x ((0 : @Nat) + s))) (@Mem.gn (@Cll.g x ((0 : @Nat) + s))) (@Mem.gc (@Cll.g x ((0 : @Nat) + s))))) ∧
  True))))) ∧
  ((((@Cll.kind x) = (@Cll.kind x)) ∧
  (((@Cll.key x) = (@Cll.key x)) ∧
  (((@Cll.value x) = (@Cll.value x)) ∧
  (((@Cll.to x) = (@Cll.to x)) ∧
  ((((0 : @Nat) = (0 : @Nat)) ∧
  ((@Cll.gn x) = (@Cll.gn x))) ∧
  True))))) ∧
  ((((@rowG x) = (@rowG x)) ∧
  (@Bool.true = @Bool.true)) ∧
  True))))))))))))))))) ((@I64 (((s : Nat) : @Int) + (1 : @Int))) ∧
  (∃ (s_2 : @Nat), (((s_2 ≤ (@Cll.gn x)) ∧
  (@Hd (@invMs x s_2))) ∧
  ((((@Cll.gn x) - s_2) < ((@Cll.gn x) - s)) ∧
  (((((s_2 : Nat) : @Int) = (((s : Nat) : @Int) + (1 : @Int))) ∧
  True) ∧
  ((((@Cll.kind x) = (@Cll.kind x)) ∧
  (((@Cll.key x) = (@Cll.key x)) ∧
  (((@Cll.value x) = (@Cll.value x)) ∧
  (((@Cll.to x) = (@Cll.to x)) ∧
  ((((0 : @Nat) = (0 : @Nat)) ∧
  ((@Cll.gn x) = (@Cll.gn x))) ∧
  True))))) ∧
  ((((@rowG x) = (@rowG x)) ∧
  (@Bool.true = @Bool.true)) ∧
  True)))))))))) ∧
  True)))))))))))))))))))) (∃ (y_1 : Unit), (True ∧
  (((@shapeM x) = @Bool.true) ∧
  ((((@rowG x) = (@rowG x)) ∧
  (@Bool.true = @Bool.true)) ∧
  True))))))) ∧
  True)))))) (cP (@bne @Int (@instBEqOfDecidableEq @Int @Int.instDecidableEq) (@Cll.kind x) (7 : @Int)) (∃ (y_1 : Unit), (True ∧
  (((@shapeM x) = @Bool.true) ∧
  ((((@rowG x) = (@rowG x)) ∧
  (@Bool.true = @Bool.true)) ∧
  True)))) (cP (decide ((((@Cll.gn x) : Nat) : @Int) < (1 : @Int))) (∃ (y_1 : Unit), (True ∧
  (((@shapeM x) = @Bool.false) ∧
  ((((@rowG x) = (@rowG x)) ∧
  (@Bool.true = @Bool.true)) ∧
  True)))) (cP (decide (@GT.gt @Int @Int.instLTInt (((@Cll.gn x) : Nat) : @Int) (3 : @Int))) (∃ (y_1 : Unit), (True ∧
  (((@shapeM x) = @Bool.false) ∧
  ((((@rowG x) = (@rowG x)) ∧
  (@Bool.true = @Bool.true)) ∧
  True)))) ((∃ (s : @Nat), (((s ≤ (@Cll.gn x)) ∧
  (@Hd (@invMs x s))) ∧
  (True ∧
  (((((s : Nat) : @Int) = (0 : @Int)) ∧
  True) ∧
  ((((@Cll.kind x) = (@Cll.kind x)) ∧
  (((@Cll.key x) = (@Cll.key x)) ∧
  (((@Cll.value x) = (@Cll.value x)) ∧
  (((@Cll.to x) = (@Cll.to x)) ∧
  ((((0 : @Nat) = (0 : @Nat)) ∧
  ((@Cll.gn x) = (@Cll.gn x))) ∧
  True))))) ∧
  ((((@rowG x) = (@rowG x)) ∧
  (@Bool.true = @Bool.true)) ∧
  True)))))) ∧
  ((∀ (s : @Nat), (((s ≤ (@Cll.gn x)) ∧
  (@Hd (@invMs x s))) → (cP (decide (((s : Nat) : @Int) < (((@Cll.gn x) : Nat) : @Int))) ((((0 : @Int) ≤ ((s : Nat) : @Int)) ∧
  (((s : Nat) : @Int) < (((@Cll.gn x) : Nat) : @Int))) ∧
  ((((0 : @Nat) + s) < (@Cll.gn x)) ∧
  (∃ (x_2 : @Int), (True ∧
  (((x_2 = (@Mem.kind (@Cll.g x ((0 : @Nat) + s)))) ∧
  True) ∧
  (True ∧
  (∀ (y_1 : Unit), (True → (cP (@Bool.not (@groupedM x_2)) (∃ (y_2 : Unit), (True ∧
  (((@shapeM x) = @Bool.false) ∧
  ((((@rowG x) = (@rowG x)) ∧
  (@Bool.true = @Bool.true)) ∧
  True)))) (∃ (x_3 : @Int), (True ∧
  (((x_3 = (@Mem.kind (@Cll.g x ((0 : @Nat) + s)))) ∧
  True) ∧
  (True ∧
  (∀ (y_2 : Unit), (True → (cP (@keyedM x_3) (cP (@BEq.beq (@List @UInt8) (@List.instBEq @UInt8 (@instBEqOfDecidableEq @UInt8 @instDecidableEqUInt8)) (@ByteArray.toList (@Mem.key (@Cll.g x ((0 : @Nat) + s)))) (@ByteArray.toList (@ByteArray.mk (@List.toArray @UInt8 (@List.nil @UInt8))))) (∃ (y_3 : Unit), (True ∧
  (((@shapeM x) = @Bool.false) ∧
  ((((@rowG x) = (@rowG x)) ∧
  (@Bool.true = @Bool.true)) ∧
  True)))) (((0 : @Int) ≤ ((s : Nat) : @Int)) ∧
  ((((0 : @Nat) ≤ s) ∧
  ((s ≤ (@Cll.gn x)) ∧
  ((@Cll.gn x) ≤ (@Cll.gn x)))) ∧
  ((∃ (s_1 : @Nat), (((s_1 ≤ (Int.toNat ((s : Nat) : @Int))) ∧
  (@Hd (@invJ x (Int.toNat ((s : Nat) : @Int)) s_1))) ∧
  (True ∧
  (((((s_1 : Nat) : @Int) = (0 : @Int)) ∧
  True) ∧
  ((((@Mem.kind (@Cll.g x ((0 : @Nat) + s))) = (@Mem.kind (@Cll.g x ((0 : @Nat) + s)))) ∧
  (((@Mem.key (@Cll.g x ((0 : @Nat) + s))) = (@Mem.key (@Cll.g x ((0 : @Nat) + s)))) ∧
  (((@Mem.value (@Cll.g x ((0 : @Nat) + s))) = (@Mem.value (@Cll.g x ((0 : @Nat) + s)))) ∧
  (((@Mem.to (@Cll.g x ((0 : @Nat) + s))) = (@Mem.to (@Cll.g x ((0 : @Nat) + s)))) ∧
  (((Value.slice (@Mem.gp (@Cll.g x ((0 : @Nat) + s))) (@Mem.gn (@Cll.g x ((0 : @Nat) + s))) (@Mem.gc (@Cll.g x ((0 : @Nat) + s)))) = (Value.slice (@Mem.gp (@Cll.g x ((0 : @Nat) + s))) (@Mem.gn (@Cll.g x ((0 : @Nat) + s))) (@Mem.gc (@Cll.g x ((0 : @Nat) + s))))) ∧
  True))))) ∧
  ((((@Cll.kind x) = (@Cll.kind x)) ∧
  (((@Cll.key x) = (@Cll.key x)) ∧
  (((@Cll.value x) = (@Cll.value x)) ∧
  (((@Cll.to x) = (@Cll.to x)) ∧
  ((((0 : @Nat) = (0 : @Nat)) ∧
  ((@Cll.gn x) = (@Cll.gn x))) ∧
  True))))) ∧
  ((((@rowG x) = (@rowG x)) ∧
  (@Bool.true = @Bool.true)) ∧
  True))))))) ∧
  ((∀ (s_1 : @Nat), (((s_1 ≤ (Int.toNat ((s : Nat) : @Int))) ∧
  (@Hd (@invJ x (Int.toNat ((s : Nat) : @Int)) s_1))) → (cP (decide (((s_1 : Nat) : @Int) < (((s - (0 : @Nat)) : Nat) : @Int))) ((((0 : @Int) ≤ ((s_1 : Nat) : @Int)) ∧
  (((s_1 : Nat) : @Int) < (((s - (0 : @Nat)) : Nat) : @Int))) ∧
  ((((0 : @Nat) + s_1) < (@Cll.gn x)) ∧
  (∃ (x_4 : @Int), (True ∧
  (((x_4 = (@Mem.kind (@Cll.g x ((0 : @Nat) + s)))) ∧
  True) ∧
  (True ∧
  (∀ (y_3 : Unit), (True → (cP (@keyedM x_4) (∃ (x_5 : @Int), (True ∧
  (((x_5 = (@Mem.kind (@Cll.g x ((0 : @Nat) + s_1)))) ∧
  True) ∧
  (True ∧
  (∀ (y_4 : Unit), (True → (cP (@keyedM x_5) (cP (@BEq.beq (@List @UInt8) (@List.instBEq @UInt8 (@instBEqOfDecidableEq @UInt8 @instDecidableEqUInt8)) (@ByteArray.toList (@Mem.key (@Cll.g x ((0 : @Nat) + s)))) (@ByteArray.toList (@Mem.key (@Cll.g x ((0 : @Nat) + s_1))))) (∃ (y_5 : Unit), (True ∧
  (((@shapeM x) = @Bool.false) ∧
  ((((@rowG x) = (@rowG x)) ∧
  (@Bool.true = @Bool.true)) ∧
  True)))) ((@I64 (((s_1 : Nat) : @Int) + (1 : @Int))) ∧
  (∃ (s_2 : @Nat), (((s_2 ≤ (Int.toNat ((s : Nat) : @Int))) ∧
  (@Hd (@invJ x (Int.toNat ((s : Nat) : @Int)) s_2))) ∧
  ((((Int.toNat ((s : Nat) : @Int)) - s_2) < ((Int.toNat ((s : Nat) : @Int)) - s_1)) ∧
  (((((s_2 : Nat) : @Int) = (((s_1 : Nat) : @Int) + (1 : @Int))) ∧
  True) ∧
  ((((@Mem.kind (@Cll.g x ((0 : @Nat) + s))) = (@Mem.kind (@Cll.g x ((0 : @Nat) + s)))) ∧
  (((@Mem.key (@Cll.g x ((0 : @Nat) + s))) = (@Mem.key (@Cll.g x ((0 : @Nat) + s)))) ∧
  (((@Mem.value (@Cll.g x ((0 : @Nat) + s))) = (@Mem.value (@Cll.g x ((0 : @Nat) + s)))) ∧
  (((@Mem.to (@Cll.g x ((0 : @Nat) + s))) = (@Mem.to (@Cll.g x ((0 : @Nat) + s)))) ∧
  (((Value.slice (@Mem.gp (@Cll.g x ((0 : @Nat) + s))) (@Mem.gn (@Cll.g x ((0 : @Nat) + s))) (@Mem.gc (@Cll.g x ((0 : @Nat) + s)))) = (Value.slice (@Mem.gp (@Cll.g x ((0 : @Nat) + s))) (@Mem.gn (@Cll.g x ((0 : @Nat) + s))) (@Mem.gc (@Cll.g x ((0 : @Nat) + s))))) ∧
  True))))) ∧
  ((((@Cll.kind x) = (@Cll.kind x)) ∧
  (((@Cll.key x) = (@Cll.key x)) ∧
  (((@Cll.value x) = (@Cll.value x)) ∧
  (((@Cll.to x) = (@Cll.to x)) ∧
  ((((0 : @Nat) = (0 : @Nat)) ∧
  ((@Cll.gn x) = (@Cll.gn x))) ∧
  True))))) ∧
  ((((@rowG x) = (@rowG x)) ∧
  (@Bool.true = @Bool.true)) ∧
  True))))))))) ((@I64 (((s_1 : Nat) : @Int) + (1 : @Int))) ∧
  (∃ (s_2 : @Nat), (((s_2 ≤ (Int.toNat ((s : Nat) : @Int))) ∧
  (@Hd (@invJ x (Int.toNat ((s : Nat) : @Int)) s_2))) ∧
  ((((Int.toNat ((s : Nat) : @Int)) - s_2) < ((Int.toNat ((s : Nat) : @Int)) - s_1)) ∧
  (((((s_2 : Nat) : @Int) = (((s_1 : Nat) : @Int) + (1 : @Int))) ∧
  True) ∧
  ((((@Mem.kind (@Cll.g x ((0 : @Nat) + s))) = (@Mem.kind (@Cll.g x ((0 : @Nat) + s)))) ∧
  (((@Mem.key (@Cll.g x ((0 : @Nat) + s))) = (@Mem.key (@Cll.g x ((0 : @Nat) + s)))) ∧
  (((@Mem.value (@Cll.g x ((0 : @Nat) + s))) = (@Mem.value (@Cll.g x ((0 : @Nat) + s)))) ∧
  (((@Mem.to (@Cll.g x ((0 : @Nat) + s))) = (@Mem.to (@Cll.g x ((0 : @Nat) + s)))) ∧
  (((Value.slice (@Mem.gp (@Cll.g x ((0 : @Nat) + s))) (@Mem.gn (@Cll.g x ((0 : @Nat) + s))) (@Mem.gc (@Cll.g x ((0 : @Nat) + s)))) = (Value.slice (@Mem.gp (@Cll.g x ((0 : @Nat) + s))) (@Mem.gn (@Cll.g x ((0 : @Nat) + s))) (@Mem.gc (@Cll.g x ((0 : @Nat) + s))))) ∧
  True))))) ∧
  ((((@Cll.kind x) = (@Cll.kind x)) ∧
  (((@Cll.key x) = (@Cll.key x)) ∧
  (((@Cll.value x) = (@Cll.value x)) ∧
  (((@Cll.to x) = (@Cll.to x)) ∧
  ((((0 : @Nat) = (0 : @Nat)) ∧
  ((@Cll.gn x) = (@Cll.gn x))) ∧
  True))))) ∧
  ((((@rowG x) = (@rowG x)) ∧
  (@Bool.true = @Bool.true)) ∧
  True))))))))))))))) ((@I64 (((s_1 : Nat) : @Int) + (1 : @Int))) ∧
  (∃ (s_2 : @Nat), (((s_2 ≤ (Int.toNat ((s : Nat) : @Int))) ∧
  (@Hd (@invJ x (Int.toNat ((s : Nat) : @Int)) s_2))) ∧
  ((((Int.toNat ((s : Nat) : @Int)) - s_2) < ((Int.toNat ((s : Nat) : @Int)) - s_1)) ∧
  (((((s_2 : Nat) : @Int) = (((s_1 : Nat) : @Int) + (1 : @Int))) ∧
  True) ∧
  ((((@Mem.kind (@Cll.g x ((0 : @Nat) + s))) = (@Mem.kind (@Cll.g x ((0 : @Nat) + s)))) ∧
  (((@Mem.key (@Cll.g x ((0 : @Nat) + s))) = (@Mem.key (@Cll.g x ((0 : @Nat) + s)))) ∧
  (((@Mem.value (@Cll.g x ((0 : @Nat) + s))) = (@Mem.value (@Cll.g x ((0 : @Nat) + s)))) ∧
  (((@Mem.to (@Cll.g x ((0 : @Nat) + s))) = (@Mem.to (@Cll.g x ((0 : @Nat) + s)))) ∧
  (((Value.slice (@Mem.gp (@Cll.g x ((0 : @Nat) + s))) (@Mem.gn (@Cll.g x ((0 : @Nat) + s))) (@Mem.gc (@Cll.g x ((0 : @Nat) + s)))) = (Value.slice (@Mem.gp (@Cll.g x ((0 : @Nat) + s))) (@Mem.gn (@Cll.g x ((0 : @Nat) + s))) (@Mem.gc (@Cll.g x ((0 : @Nat) + s))))) ∧
  True))))) ∧
  ((((@Cll.kind x) = (@Cll.kind x)) ∧
  (((@Cll.key x) = (@Cll.key x)) ∧
  (((@Cll.value x) = (@Cll.value x)) ∧
  (((@Cll.to x) = (@Cll.to x)) ∧
  ((((0 : @Nat) = (0 : @Nat)) ∧
  ((@Cll.gn x) = (@Cll.gn x))) ∧
  True))))) ∧
  ((((@rowG x) = (@rowG x)) ∧
  (@Bool.true = @Bool.true)) ∧
  True))))))))))))))))) ((@I64 (((s : Nat) : @Int) + (1 : @Int))) ∧
  (∃ (s_2 : @Nat), (((s_2 ≤ (@Cll.gn x)) ∧
  (@Hd (@invMs x s_2))) ∧
  ((((@Cll.gn x) - s_2) < ((@Cll.gn x) - s)) ∧
  (((((s_2 : Nat) : @Int) = (((s : Nat) : @Int) + (1 : @Int))) ∧
  True) ∧
  ((((@Cll.kind x) = (@Cll.kind x)) ∧
  (((@Cll.key x) = (@Cll.key x)) ∧
  (((@Cll.value x) = (@Cll.value x)) ∧
  (((@Cll.to x) = (@Cll.to x)) ∧
  ((((0 : @Nat) = (0 : @Nat)) ∧
  ((@Cll.gn x) = (@Cll.gn x))) ∧
  True))))) ∧
  ((((@rowG x) = (@rowG x)) ∧
  (@Bool.true = @Bool.true)) ∧
  True)))))))))) ∧
  True))))) (((0 : @Int) ≤ ((s : Nat) : @Int)) ∧
  ((((0 : @Nat) ≤ s) ∧
  ((s ≤ (@Cll.gn x)) ∧
  ((@Cll.gn x) ≤ (@Cll.gn x)))) ∧
  ((∃ (s_1 : @Nat), (((s_1 ≤ (Int.toNat ((s : Nat) : @Int))) ∧
  (@Hd (@invJ x (Int.toNat ((s : Nat) : @Int)) s_1))) ∧
  (True ∧
  (((((s_1 : Nat) : @Int) = (0 : @Int)) ∧
  True) ∧
  ((((@Mem.kind (@Cll.g x ((0 : @Nat) + s))) = (@Mem.kind (@Cll.g x ((0 : @Nat) + s)))) ∧
  (((@Mem.key (@Cll.g x ((0 : @Nat) + s))) = (@Mem.key (@Cll.g x ((0 : @Nat) + s)))) ∧
  (((@Mem.value (@Cll.g x ((0 : @Nat) + s))) = (@Mem.value (@Cll.g x ((0 : @Nat) + s)))) ∧
  (((@Mem.to (@Cll.g x ((0 : @Nat) + s))) = (@Mem.to (@Cll.g x ((0 : @Nat) + s)))) ∧
  (((Value.slice (@Mem.gp (@Cll.g x ((0 : @Nat) + s))) (@Mem.gn (@Cll.g x ((0 : @Nat) + s))) (@Mem.gc (@Cll.g x ((0 : @Nat) + s)))) = (Value.slice (@Mem.gp (@Cll.g x ((0 : @Nat) + s))) (@Mem.gn (@Cll.g x ((0 : @Nat) + s))) (@Mem.gc (@Cll.g x ((0 : @Nat) + s))))) ∧
  True))))) ∧
  ((((@Cll.kind x) = (@Cll.kind x)) ∧
  (((@Cll.key x) = (@Cll.key x)) ∧
  (((@Cll.value x) = (@Cll.value x)) ∧
  (((@Cll.to x) = (@Cll.to x)) ∧
  ((((0 : @Nat) = (0 : @Nat)) ∧
  ((@Cll.gn x) = (@Cll.gn x))) ∧
  True))))) ∧
  ((((@rowG x) = (@rowG x)) ∧
  (@Bool.true = @Bool.true)) ∧
  True))))))) ∧
  ((∀ (s_1 : @Nat), (((s_1 ≤ (Int.toNat ((s : Nat) : @Int))) ∧
  (@Hd (@invJ x (Int.toNat ((s : Nat) : @Int)) s_1))) → (cP (decide (((s_1 : Nat) : @Int) < (((s - (0 : @Nat)) : Nat) : @Int))) ((((0 : @Int) ≤ ((s_1 : Nat) : @Int)) ∧
  (((s_1 : Nat) : @Int) < (((s - (0 : @Nat)) : Nat) : @Int))) ∧
  ((((0 : @Nat) + s_1) < (@Cll.gn x)) ∧
  (∃ (x_4 : @Int), (True ∧
  (((x_4 = (@Mem.kind (@Cll.g x ((0 : @Nat) + s)))) ∧
  True) ∧
  (True ∧
  (∀ (y_3 : Unit), (True → (cP (@keyedM x_4) (∃ (x_5 : @Int), (True ∧
  (((x_5 = (@Mem.kind (@Cll.g x ((0 : @Nat) + s_1)))) ∧
  True) ∧
  (True ∧
  (∀ (y_4 : Unit), (True → (cP (@keyedM x_5) (cP (@BEq.beq (@List @UInt8) (@List.instBEq @UInt8 (@instBEqOfDecidableEq @UInt8 @instDecidableEqUInt8)) (@ByteArray.toList (@Mem.key (@Cll.g x ((0 : @Nat) + s)))) (@ByteArray.toList (@Mem.key (@Cll.g x ((0 : @Nat) + s_1))))) (∃ (y_5 : Unit), (True ∧
  (((@shapeM x) = @Bool.false) ∧
  ((((@rowG x) = (@rowG x)) ∧
  (@Bool.true = @Bool.true)) ∧
  True)))) ((@I64 (((s_1 : Nat) : @Int) + (1 : @Int))) ∧
  (∃ (s_2 : @Nat), (((s_2 ≤ (Int.toNat ((s : Nat) : @Int))) ∧
  (@Hd (@invJ x (Int.toNat ((s : Nat) : @Int)) s_2))) ∧
  ((((Int.toNat ((s : Nat) : @Int)) - s_2) < ((Int.toNat ((s : Nat) : @Int)) - s_1)) ∧
  (((((s_2 : Nat) : @Int) = (((s_1 : Nat) : @Int) + (1 : @Int))) ∧
  True) ∧
  ((((@Mem.kind (@Cll.g x ((0 : @Nat) + s))) = (@Mem.kind (@Cll.g x ((0 : @Nat) + s)))) ∧
  (((@Mem.key (@Cll.g x ((0 : @Nat) + s))) = (@Mem.key (@Cll.g x ((0 : @Nat) + s)))) ∧
  (((@Mem.value (@Cll.g x ((0 : @Nat) + s))) = (@Mem.value (@Cll.g x ((0 : @Nat) + s)))) ∧
  (((@Mem.to (@Cll.g x ((0 : @Nat) + s))) = (@Mem.to (@Cll.g x ((0 : @Nat) + s)))) ∧
  (((Value.slice (@Mem.gp (@Cll.g x ((0 : @Nat) + s))) (@Mem.gn (@Cll.g x ((0 : @Nat) + s))) (@Mem.gc (@Cll.g x ((0 : @Nat) + s)))) = (Value.slice (@Mem.gp (@Cll.g x ((0 : @Nat) + s))) (@Mem.gn (@Cll.g x ((0 : @Nat) + s))) (@Mem.gc (@Cll.g x ((0 : @Nat) + s))))) ∧
  True))))) ∧
  ((((@Cll.kind x) = (@Cll.kind x)) ∧
  (((@Cll.key x) = (@Cll.key x)) ∧
  (((@Cll.value x) = (@Cll.value x)) ∧
  (((@Cll.to x) = (@Cll.to x)) ∧
  ((((0 : @Nat) = (0 : @Nat)) ∧
  ((@Cll.gn x) = (@Cll.gn x))) ∧
  True))))) ∧
  ((((@rowG x) = (@rowG x)) ∧
  (@Bool.true = @Bool.true)) ∧
  True))))))))) ((@I64 (((s_1 : Nat) : @Int) + (1 : @Int))) ∧
  (∃ (s_2 : @Nat), (((s_2 ≤ (Int.toNat ((s : Nat) : @Int))) ∧
  (@Hd (@invJ x (Int.toNat ((s : Nat) : @Int)) s_2))) ∧
  ((((Int.toNat ((s : Nat) : @Int)) - s_2) < ((Int.toNat ((s : Nat) : @Int)) - s_1)) ∧
  (((((s_2 : Nat) : @Int) = (((s_1 : Nat) : @Int) + (1 : @Int))) ∧
  True) ∧
  ((((@Mem.kind (@Cll.g x ((0 : @Nat) + s))) = (@Mem.kind (@Cll.g x ((0 : @Nat) + s)))) ∧
  (((@Mem.key (@Cll.g x ((0 : @Nat) + s))) = (@Mem.key (@Cll.g x ((0 : @Nat) + s)))) ∧
  (((@Mem.value (@Cll.g x ((0 : @Nat) + s))) = (@Mem.value (@Cll.g x ((0 : @Nat) + s)))) ∧
  (((@Mem.to (@Cll.g x ((0 : @Nat) + s))) = (@Mem.to (@Cll.g x ((0 : @Nat) + s)))) ∧
  (((Value.slice (@Mem.gp (@Cll.g x ((0 : @Nat) + s))) (@Mem.gn (@Cll.g x ((0 : @Nat) + s))) (@Mem.gc (@Cll.g x ((0 : @Nat) + s)))) = (Value.slice (@Mem.gp (@Cll.g x ((0 : @Nat) + s))) (@Mem.gn (@Cll.g x ((0 : @Nat) + s))) (@Mem.gc (@Cll.g x ((0 : @Nat) + s))))) ∧
  True))))) ∧
  ((((@Cll.kind x) = (@Cll.kind x)) ∧
  (((@Cll.key x) = (@Cll.key x)) ∧
  (((@Cll.value x) = (@Cll.value x)) ∧
  (((@Cll.to x) = (@Cll.to x)) ∧
  ((((0 : @Nat) = (0 : @Nat)) ∧
  ((@Cll.gn x) = (@Cll.gn x))) ∧
  True))))) ∧
  ((((@rowG x) = (@rowG x)) ∧
  (@Bool.true = @Bool.true)) ∧
  True))))))))))))))) ((@I64 (((s_1 : Nat) : @Int) + (1 : @Int))) ∧
  (∃ (s_2 : @Nat), (((s_2 ≤ (Int.toNat ((s : Nat) : @Int))) ∧
  (@Hd (@invJ x (Int.toNat ((s : Nat) : @Int)) s_2))) ∧
  ((((Int.toNat ((s : Nat) : @Int)) - s_2) < ((Int.toNat ((s : Nat) : @Int)) - s_1)) ∧
  (((((s_2 : Nat) : @Int) = (((s_1 : Nat) : @Int) + (1 : @Int))) ∧
  True) ∧
  ((((@Mem.kind (@Cll.g x ((0 : @Nat) + s))) = (@Mem.kind (@Cll.g x ((0 : @Nat) + s)))) ∧
  (((@Mem.key (@Cll.g x ((0 : @Nat) + s))) = (@Mem.key (@Cll.g x ((0 : @Nat) + s)))) ∧
  (((@Mem.value (@Cll.g x ((0 : @Nat) + s))) = (@Mem.value (@Cll.g x ((0 : @Nat) + s)))) ∧
  (((@Mem.to (@Cll.g x ((0 : @Nat) + s))) = (@Mem.to (@Cll.g x ((0 : @Nat) + s)))) ∧
  (((Value.slice (@Mem.gp (@Cll.g x ((0 : @Nat) + s))) (@Mem.gn (@Cll.g x ((0 : @Nat) + s))) (@Mem.gc (@Cll.g x ((0 : @Nat) + s)))) = (Value.slice (@Mem.gp (@Cll.g x ((0 : @Nat) + s))) (@Mem.gn (@Cll.g x ((0 : @Nat) + s))) (@Mem.gc (@Cll.g x ((0 : @Nat) + s))))) ∧
  True))))) ∧
  ((((@Cll.kind x) = (@Cll.kind x)) ∧
  (((@Cll.key x) = (@Cll.key x)) ∧
  (((@Cll.value x) = (@Cll.value x)) ∧
  (((@Cll.to x) = (@Cll.to x)) ∧
  ((((0 : @Nat) = (0 : @Nat)) ∧
  ((@Cll.gn x) = (@Cll.gn x))) ∧
  True))))) ∧
  ((((@rowG x) = (@rowG x)) ∧
  (@Bool.true = @Bool.true)) ∧
  True))))))))))))))))) ((@I64 (((s : Nat) : @Int) + (1 : @Int))) ∧
  (∃ (s_2 : @Nat), (((s_2 ≤ (@Cll.gn x)) ∧
  (@Hd (@invMs x s_2))) ∧
  ((((@Cll.gn x) - s_2) < ((@Cll.gn x) - s)) ∧
  (((((s_2 : Nat) : @Int) = (((s : Nat) : @Int) + (1 : @Int))) ∧
  True) ∧
  ((((@Cll.kind x) = (@Cll.kind x)) ∧
  (((@Cll.key x) = (@Cll.key x)) ∧
  (((@Cll.value x) = (@Cll.value x)) ∧
  (((@Cll.to x) = (@Cll.to x)) ∧
  ((((0 : @Nat) = (0 : @Nat)) ∧
  ((@Cll.gn x) = (@Cll.gn x))) ∧
  True))))) ∧
  ((((@rowG x) = (@rowG x)) ∧
  (@Bool.true = @Bool.true)) ∧
  True)))))))))) ∧
  True)))))))))))))))))))) (∃ (y_1 : Unit), (True ∧
  (((@shapeM x) = @Bool.true) ∧
  ((((@rowG x) = (@rowG x)) ∧
  (@Bool.true = @Bool.true)) ∧
  True))))))) ∧
  True))))))))))))))
theorem shapeVC_ok (x : Cll) : shapeVC x = shapeVC_wp x := by kernel_rfl
def longMemVC_wp (x : Mem) : Prop := wpF Try.prog [] tt noAn 200 5 54 (longMemC.args x) (hO longMemC.k (longMemC.os x)) (fun v h' => endsP longMemC.k x v h' longMemC.outs)
def longMemVC (x : Mem) : Prop :=
  (cP (@BEq.beq @Int (@instBEqOfDecidableEq @Int @Int.instDecidableEq) (@Mem.kind x) (1 : @Int)) (∃ (y : Unit), (True ∧
  (((@longK (@Mem.kind x) (@Mem.key x) (@Mem.value x) (@Mem.to x)) = (decide (@GT.gt @Int @Int.instLTInt (((@ByteArray.size (@Mem.key x)) : Nat) : @Int) (16 : @Int)))) ∧
  True))) (cP (@BEq.beq @Int (@instBEqOfDecidableEq @Int @Int.instDecidableEq) (@Mem.kind x) (3 : @Int)) (∃ (y : Unit), (True ∧
  (((@longK (@Mem.kind x) (@Mem.key x) (@Mem.value x) (@Mem.to x)) = (decide (@GT.gt @Int @Int.instLTInt (((@ByteArray.size (@Mem.key x)) : Nat) : @Int) (16 : @Int)))) ∧
  True))) (cP (@BEq.beq @Int (@instBEqOfDecidableEq @Int @Int.instDecidableEq) (@Mem.kind x) (2 : @Int)) (cP (decide (@GT.gt @Int @Int.instLTInt (((@ByteArray.size (@Mem.key x)) : Nat) : @Int) (16 : @Int))) (∃ (y : Unit), (True ∧
  (((@longK (@Mem.kind x) (@Mem.key x) (@Mem.value x) (@Mem.to x)) = @Bool.true) ∧
  True))) (∃ (y : Unit), (True ∧
  (((@longK (@Mem.kind x) (@Mem.key x) (@Mem.value x) (@Mem.to x)) = (decide (@GT.gt @Int @Int.instLTInt (((@ByteArray.size (@Mem.value x)) : Nat) : @Int) (400 : @Int)))) ∧
  True)))) (cP (@BEq.beq @Int (@instBEqOfDecidableEq @Int @Int.instDecidableEq) (@Mem.kind x) (4 : @Int)) (∃ (y : Unit), (True ∧
  (((@longK (@Mem.kind x) (@Mem.key x) (@Mem.value x) (@Mem.to x)) = (decide (@GT.gt @Int @Int.instLTInt (((@ByteArray.size (@Mem.value x)) : Nat) : @Int) (400 : @Int)))) ∧
  True))) (cP (@BEq.beq @Int (@instBEqOfDecidableEq @Int @Int.instDecidableEq) (@Mem.kind x) (6 : @Int)) (cP (decide (@GT.gt @Int @Int.instLTInt (((@ByteArray.size (@Mem.key x)) : Nat) : @Int) (16 : @Int))) (∃ (y : Unit), (True ∧
  (((@longK (@Mem.kind x) (@Mem.key x) (@Mem.value x) (@Mem.to x)) = @Bool.true) ∧
  True))) (∃ (y : Unit), (True ∧
  (((@longK (@Mem.kind x) (@Mem.key x) (@Mem.value x) (@Mem.to x)) = (decide (@GT.gt @Int @Int.instLTInt (((@ByteArray.size (@Mem.to x)) : Nat) : @Int) (16 : @Int)))) ∧
  True)))) (cP (@BEq.beq @Int (@instBEqOfDecidableEq @Int @Int.instDecidableEq) (@Mem.kind x) (7 : @Int)) (∃ (y : Unit), (True ∧
  (((@longK (@Mem.kind x) (@Mem.key x) (@Mem.value x) (@Mem.to x)) = @Bool.false) ∧
  True))) (∃ (y : Unit), (True ∧
  (((@longK (@Mem.kind x) (@Mem.key x) (@Mem.value x) (@Mem.to x)) = @Bool.false) ∧
  True)))))))))
theorem longMemVC_ok (x : Mem) : longMemVC x = longMemVC_wp x := by kernel_rfl
def longVC_wp (x : Cll) : Prop := wpF Try.prog [(54, ctrT longMemC)] tt (anLong x) 200 5 54 (longC.args x) (hO longC.k (longC.os x)) (fun v h' => endsP longC.k x v h' longC.outs)
def longVC (x : Cll) : Prop :=
  (cP (@BEq.beq @Int (@instBEqOfDecidableEq @Int @Int.instDecidableEq) (@Cll.kind x) (1 : @Int)) (∃ (y : Unit), (True ∧
  (((@longM x) = (decide (@GT.gt @Int @Int.instLTInt (((@ByteArray.size (@Cll.key x)) : Nat) : @Int) (16 : @Int)))) ∧
  ((((@rowG x) = (@rowG x)) ∧
  (@Bool.true = @Bool.true)) ∧
  True)))) (cP (@BEq.beq @Int (@instBEqOfDecidableEq @Int @Int.instDecidableEq) (@Cll.kind x) (3 : @Int)) (∃ (y : Unit), (True ∧
  (((@longM x) = (decide (@GT.gt @Int @Int.instLTInt (((@ByteArray.size (@Cll.key x)) : Nat) : @Int) (16 : @Int)))) ∧
  ((((@rowG x) = (@rowG x)) ∧
  (@Bool.true = @Bool.true)) ∧
  True)))) (cP (@BEq.beq @Int (@instBEqOfDecidableEq @Int @Int.instDecidableEq) (@Cll.kind x) (2 : @Int)) (cP (decide (@GT.gt @Int @Int.instLTInt (((@ByteArray.size (@Cll.key x)) : Nat) : @Int) (16 : @Int))) (∃ (y : Unit), (True ∧
  (((@longM x) = @Bool.true) ∧
  ((((@rowG x) = (@rowG x)) ∧
  (@Bool.true = @Bool.true)) ∧
  True)))) (∃ (y : Unit), (True ∧
  (((@longM x) = (decide (@GT.gt @Int @Int.instLTInt (((@ByteArray.size (@Cll.value x)) : Nat) : @Int) (400 : @Int)))) ∧
  ((((@rowG x) = (@rowG x)) ∧
  (@Bool.true = @Bool.true)) ∧
  True))))) (cP (@BEq.beq @Int (@instBEqOfDecidableEq @Int @Int.instDecidableEq) (@Cll.kind x) (4 : @Int)) (∃ (y : Unit), (True ∧
  (((@longM x) = (decide (@GT.gt @Int @Int.instLTInt (((@ByteArray.size (@Cll.value x)) : Nat) : @Int) (400 : @Int)))) ∧
  ((((@rowG x) = (@rowG x)) ∧
  (@Bool.true = @Bool.true)) ∧
  True)))) (cP (@BEq.beq @Int (@instBEqOfDecidableEq @Int @Int.instDecidableEq) (@Cll.kind x) (6 : @Int)) (cP (decide (@GT.gt @Int @Int.instLTInt (((@ByteArray.size (@Cll.key x)) : Nat) : @Int) (16 : @Int))) (∃ (y : Unit), (True ∧
  (((@longM x) = @Bool.true) ∧
  ((((@rowG x) = (@rowG x)) ∧
  (@Bool.true = @Bool.true)) ∧
  True)))) (∃ (y : Unit), (True ∧
  (((@longM x) = (decide (@GT.gt @Int @Int.instLTInt (((@ByteArray.size (@Cll.to x)) : Nat) : @Int) (16 : @Int)))) ∧
  ((((@rowG x) = (@rowG x)) ∧
  (@Bool.true = @Bool.true)) ∧
  True))))) (cP (@BEq.beq @Int (@instBEqOfDecidableEq @Int @Int.instDecidableEq) (@Cll.kind x) (7 : @Int)) ((∃ (s : @Nat), (((s ≤ (@Cll.gn x)) ∧
  (@Hd (@invLong x s))) ∧
  (True ∧
  (((((s : Nat) : @Int) = (0 : @Int)) ∧
  True) ∧
  ((((@Cll.kind x) = (@Cll.kind x)) ∧
  (((@Cll.key x) = (@Cll.key x)) ∧
  (((@Cll.value x) = (@Cll.value x)) ∧
  (((@Cll.to x) = (@Cll.to x)) ∧
  ((((0 : @Nat) = (0 : @Nat)) ∧
  ((@Cll.gn x) = (@Cll.gn x))) ∧
  True))))) ∧
  ((((@rowG x) = (@rowG x)) ∧
  (@Bool.true = @Bool.true)) ∧
  True)))))) ∧
  ((∀ (s : @Nat), (((s ≤ (@Cll.gn x)) ∧
  (@Hd (@invLong x s))) → (cP (decide (((s : Nat) : @Int) < (((@Cll.gn x) : Nat) : @Int))) ((((0 : @Int) ≤ ((s : Nat) : @Int)) ∧
  (((s : Nat) : @Int) < (((@Cll.gn x) : Nat) : @Int))) ∧
  ((((0 : @Nat) + s) < (@Cll.gn x)) ∧
  (∃ (x_1 : @Mem), (True ∧
  (((((@Mem.kind x_1) = (@Mem.kind (@Cll.g x ((0 : @Nat) + s)))) ∧
  (((@Mem.key x_1) = (@Mem.key (@Cll.g x ((0 : @Nat) + s)))) ∧
  (((@Mem.value x_1) = (@Mem.value (@Cll.g x ((0 : @Nat) + s)))) ∧
  (((@Mem.to x_1) = (@Mem.to (@Cll.g x ((0 : @Nat) + s)))) ∧
  (((Value.slice (@Mem.gp x_1) (0 : @Nat) (@Mem.gc x_1)) = (Value.slice (@Mem.gp (@Cll.g x ((0 : @Nat) + s))) (@Mem.gn (@Cll.g x ((0 : @Nat) + s))) (@Mem.gc (@Cll.g x ((0 : @Nat) + s))))) ∧
  True))))) ∧
  True) ∧
  (True ∧
  (∀ (y : Unit), (True → (cP (@longK (@Mem.kind x_1) (@Mem.key x_1) (@Mem.value x_1) (@Mem.to x_1)) (∃ (y_1 : Unit), (True ∧
  (((@longM x) = (decide (@GE.ge @Int @Int.instLEInt ((s : Nat) : @Int) (0 : @Int)))) ∧
  ((((@rowG x) = (@rowG x)) ∧
  (@Bool.true = @Bool.true)) ∧
  True)))) ((@I64 (((s : Nat) : @Int) + (1 : @Int))) ∧
  (∃ (s_1 : @Nat), (((s_1 ≤ (@Cll.gn x)) ∧
  (@Hd (@invLong x s_1))) ∧
  ((((@Cll.gn x) - s_1) < ((@Cll.gn x) - s)) ∧
  (((((s_1 : Nat) : @Int) = (((s : Nat) : @Int) + (1 : @Int))) ∧
  True) ∧
  ((((@Cll.kind x) = (@Cll.kind x)) ∧
  (((@Cll.key x) = (@Cll.key x)) ∧
  (((@Cll.value x) = (@Cll.value x)) ∧
  (((@Cll.to x) = (@Cll.to x)) ∧
  ((((0 : @Nat) = (0 : @Nat)) ∧
  ((@Cll.gn x) = (@Cll.gn x))) ∧
  True))))) ∧
  ((((@rowG x) = (@rowG x)) ∧
  (@Bool.true = @Bool.true)) ∧
  True)))))))))))))))) (∃ (y : Unit), (True ∧
  (((@longM x) = @Bool.false) ∧
  ((((@rowG x) = (@rowG x)) ∧
  (@Bool.true = @Bool.true)) ∧
  True))))))) ∧
  True)) (∃ (y : Unit), (True ∧
  (((@longM x) = @Bool.false) ∧
  ((((@rowG x) = (@rowG x)) ∧
  (@Bool.true = @Bool.true)) ∧
  True))))))))))
theorem longVC_ok (x : Cll) : longVC x = longVC_wp x := by kernel_rfl
end Go.Proofs.Ytjndgegfonhhfaa
end
