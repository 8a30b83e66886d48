import Derived.Test.YtjndgegfonhhfaaQa
import Derived.Test.YtjndgegfonhhfaaQb
import Derived.Test.YtjndgegfonhhfaaQc
import Derived.Test.YtjndgegfonhhfaaQd
import Derived.Test.YtjndgegfonhhfaaQe
import Derived.Test.YtjndgegfonhhfaaQf
import Derived.Test.YtjndgegfonhhfaaQg
import Derived.Test.YtjndgegfonhhfaaQh
import Derived.Test.YtjndgegfonhhfaaQi
import Derived.KernelRfl
section
/- What is asked of costs of calls. -/
namespace Go.Proofs.Ytjndgegfonhhfaa
open Go SE
def writeVC_wp (x : Int) : Prop := wpF Try.prog tblN tt noAn 200 5 40 (writeC.args x) (hO writeC.k (writeC.os x)) (fun v h' => endsP writeC.k x v h' writeC.outs)
def writeVC (x : Int) : Prop :=
  (∃ (x_1 : @Int), (True ∧
  (((x_1 = x) ∧
  True) ∧
  (True ∧
  (∀ (y : Unit), (True → (∃ (x_2 : @Int), (True ∧
  (((x_2 = (@needM x_1)) ∧
  True) ∧
  (True ∧
  (∀ (y_1 : Unit), (True → ((@I64 ((@spanM x_2) + (1 : @Int))) ∧
  ((@I64 ((@spanM x_2) + (1 : @Int))) ∧
  (∃ (y_2 : Unit), (True ∧
  (((((@linesM x) + (1 : @Int)) = ((@spanM x_2) + (1 : @Int))) ∧
  ((((@linesM x) + (1 : @Int)) = ((@spanM x_2) + (1 : @Int))) ∧
  (((0 : @Int) = (0 : @Int)) ∧
  (((0 : @Int) = (0 : @Int)) ∧
  (((@linesM x) = (@spanM x_2)) ∧
  (((0 : @Int) = (0 : @Int)) ∧
  True)))))) ∧
  True)))))))))))))))))
theorem writeVC_ok (x : Int) : writeVC x = writeVC_wp x := by kernel_rfl
def rwriteVC_wp (x : Int) : Prop := wpF Try.prog tblN tt noAn 200 5 77 (writeC.args x) (hO writeC.k (writeC.os x)) (fun v h' => endsP writeC.k x v h' writeC.outs)
def rwriteVC (x : Int) : Prop :=
  (∃ (x_1 : @Int), (True ∧
  (((x_1 = x) ∧
  True) ∧
  (True ∧
  (∀ (y : Unit), (True → (∃ (x_2 : @Int), (True ∧
  (((x_2 = (@needM x_1)) ∧
  True) ∧
  (True ∧
  (∀ (y_1 : Unit), (True → ((@I64 ((@spanM x_2) + (1 : @Int))) ∧
  (∃ (x_3 : @Int), (True ∧
  (((x_3 = x) ∧
  True) ∧
  (True ∧
  (∀ (y_2 : Unit), (True → (∃ (x_4 : @Int), (True ∧
  (((x_4 = (@needM x_3)) ∧
  True) ∧
  (True ∧
  (∀ (y_3 : Unit), (True → ((@I64 ((@spanM x_4) + (1 : @Int))) ∧
  (∃ (x_5 : @Int), (True ∧
  (((x_5 = x) ∧
  True) ∧
  (True ∧
  (∀ (y_4 : Unit), (True → (∃ (x_6 : @Int), (True ∧
  (((x_6 = (@needM x_5)) ∧
  True) ∧
  (True ∧
  (∀ (y_5 : Unit), (True → (∃ (y_6 : Unit), (True ∧
  (((((@linesM x) + (1 : @Int)) = ((@spanM x_2) + (1 : @Int))) ∧
  ((((@linesM x) + (1 : @Int)) = ((@spanM x_4) + (1 : @Int))) ∧
  (((0 : @Int) = (0 : @Int)) ∧
  (((0 : @Int) = (0 : @Int)) ∧
  (((@linesM x) = (@spanM x_6)) ∧
  (((0 : @Int) = (0 : @Int)) ∧
  True)))))) ∧
  True)))))))))))))))))))))))))))))))))))))))))
theorem rwriteVC_ok (x : Int) : rwriteVC x = rwriteVC_wp x := by kernel_rfl
def putVC_wp (x : SP) : Prop := wpF Try.prog tblW tt noAn 200 5 38 (putC.args x) (hO putC.k (putC.os x)) (fun v h' => endsP putC.k x v h' putC.outs)
def putVC (x : SP) : Prop :=
  ((@I64 ((((@ByteArray.size (@SP.key x)) : Nat) : @Int) + (((@ByteArray.size (@SP.value x)) : Nat) : @Int))) ∧
  ((∃ (x_1 : @Int), (True ∧
  (((x_1 = ((((@ByteArray.size (@SP.key x)) : Nat) : @Int) + (((@ByteArray.size (@SP.value x)) : Nat) : @Int))) ∧
  True) ∧
  (True ∧
  (∀ (y : Unit), (True → ((((AV.lit (Value.string (@SP.key x))) = (AV.lit (Value.string (@SP.key x)))) ∧
  (((AV.agg [(AV.slR (0 : @Nat) (0 : @Nat) (2 : @Nat) (@Shf.n (@SP.s x))), (AV.slR (1 : @Nat) (0 : @Nat) (1 : @Nat) (@Shf.m (@SP.s x)))]) = (AV.agg [(AV.slR (0 : @Nat) (0 : @Nat) (2 : @Nat) (@Shf.n (@SP.s x))), (AV.slR (1 : @Nat) (0 : @Nat) (1 : @Nat) (@Shf.m (@SP.s x)))])) ∧
  True)) ∧
  ((∃ (x_2 : @SK), ((@Hd (@SK.ok x_2)) ∧
  ((((((0 : @Nat) = (0 : @Nat)) ∧
  ((@Shf.n (@SK.s x_2)) = (@Shf.n (@SP.s x)))) ∧
  ((((0 : @Nat) = (0 : @Nat)) ∧
  ((@Shf.m (@SK.s x_2)) = (@Shf.m (@SP.s x)))) ∧
  True)) ∧
  (((@SK.key x_2) = (@SP.key x)) ∧
  True)) ∧
  (((((@Shf.n (@SK.s x_2)) = (@Shf.n (@SP.s x))) ∧
  (∀ (q : @Nat), ((q < (@Shf.n (@SK.s x_2))) → ([(Value.string (@Shf.pk (@SK.s x_2) q)), (Value.string (@Shf.pv (@SK.s x_2) q))] = [(Value.string (@Shf.pk (@SP.s x) q)), (Value.string (@Shf.pv (@SP.s x) q))])))) ∧
  ((((@Shf.m (@SK.s x_2)) = (@Shf.m (@SP.s x))) ∧
  (∀ (q : @Nat), ((q < (@Shf.m (@SK.s x_2))) → ([(Value.string (@Shf.qv (@SK.s x_2) q))] = [(Value.string (@Shf.qv (@SP.s x) q))])))) ∧
  True)) ∧
  (∀ (y_1 : Unit), (True → (True ∧
  ((True ∧
  ((((@List.length @Cst [(@Cst.mk ((@linesM x_1) + (1 : @Int)) ((@linesM x_1) + (1 : @Int)) (0 : @Int) (0 : @Int) (@linesM x_1) (0 : @Int)), (@Cst.mk (@findM (@SK.s x_2) (@SK.key x_2)) (0 : @Int) (0 : @Int) (0 : @Int) (0 : @Int) (0 : @Int))]) < (4611686018427387904 : @Nat)) ∧
  (True ∧
  (True ∧
  (True ∧
  (∃ (x_3 : @SK), ((@Hd (@SK.ok x_3)) ∧
  ((((((0 : @Nat) = (0 : @Nat)) ∧
  ((@Shf.n (@SK.s x_3)) = (@Shf.n (@SP.s x)))) ∧
  ((((0 : @Nat) = (0 : @Nat)) ∧
  ((@Shf.m (@SK.s x_3)) = (@Shf.m (@SP.s x)))) ∧
  True)) ∧
  (((@SK.key x_3) = (@SP.key x)) ∧
  True)) ∧
  (((((@Shf.n (@SK.s x_3)) = (@Shf.n (@SP.s x))) ∧
  (∀ (q : @Nat), ((q < (@Shf.n (@SK.s x_3))) → ([(Value.string (@Shf.pk (@SK.s x_3) q)), (Value.string (@Shf.pv (@SK.s x_3) q))] = [(Value.string (@Shf.pk (@SP.s x) q)), (Value.string (@Shf.pv (@SP.s x) q))])))) ∧
  ((((@Shf.m (@SK.s x_3)) = (@Shf.m (@SP.s x))) ∧
  (∀ (q : @Nat), ((q < (@Shf.m (@SK.s x_3))) → ([(Value.string (@Shf.qv (@SK.s x_3) q))] = [(Value.string (@Shf.qv (@SP.s x) q))])))) ∧
  True)) ∧
  (∀ (y_2 : Unit), (True → (cP (@hadM (@SK.s x_3) (@SK.key x_3)) (∃ (y_3 : Unit), (True ∧
  (((((((@linesM ((((@ByteArray.size (@SP.key x)) + (@ByteArray.size (@SP.value x))) : Nat) : @Int)) + (1 : @Int)) + (@findM (@SP.s x) (@SP.key x))) + (0 : @Int)) = (@Cst.heldM (@Cst.heldM (0 : @Int) ((@linesM x_1) + (1 : @Int))) (@findM (@SK.s x_2) (@SK.key x_2)))) ∧
  ((((@linesM ((((@ByteArray.size (@SP.key x)) + (@ByteArray.size (@SP.value x))) : Nat) : @Int)) + (1 : @Int)) = (@Cst.heldM (@Cst.heldM (0 : @Int) ((@linesM x_1) + (1 : @Int))) (0 : @Int))) ∧
  (((0 : @Int) = (0 : @Int)) ∧
  (((0 : @Int) = (0 : @Int)) ∧
  (((@linesM ((((@ByteArray.size (@SP.key x)) + (@ByteArray.size (@SP.value x))) : Nat) : @Int)) = (@Cst.heldM (@Cst.heldM (0 : @Int) (@linesM x_1)) (0 : @Int))) ∧
  (((@b2i (@hadM (@SP.s x) (@SP.key x))) = (1 : @Int)) ∧
  True)))))) ∧
  ((((@rowP (@SP.s x)) = (@rowP (@SP.s x))) ∧
  (@Bool.true = @Bool.true)) ∧
  ((((@rowQ (@SP.s x)) = (@rowQ (@SP.s x))) ∧
  (@Bool.true = @Bool.true)) ∧
  True))))) (∃ (y_3 : Unit), (True ∧
  (((((((@linesM ((((@ByteArray.size (@SP.key x)) + (@ByteArray.size (@SP.value x))) : Nat) : @Int)) + (1 : @Int)) + (@findM (@SP.s x) (@SP.key x))) + (0 : @Int)) = (@Cst.heldM (@Cst.heldM (0 : @Int) ((@linesM x_1) + (1 : @Int))) (@findM (@SK.s x_2) (@SK.key x_2)))) ∧
  ((((@linesM ((((@ByteArray.size (@SP.key x)) + (@ByteArray.size (@SP.value x))) : Nat) : @Int)) + (1 : @Int)) = (@Cst.heldM (@Cst.heldM (0 : @Int) ((@linesM x_1) + (1 : @Int))) (0 : @Int))) ∧
  (((0 : @Int) = (0 : @Int)) ∧
  (((0 : @Int) = (0 : @Int)) ∧
  (((@linesM ((((@ByteArray.size (@SP.key x)) + (@ByteArray.size (@SP.value x))) : Nat) : @Int)) = (@Cst.heldM (@Cst.heldM (0 : @Int) (@linesM x_1)) (0 : @Int))) ∧
  (((@b2i (@hadM (@SP.s x) (@SP.key x))) = (0 : @Int)) ∧
  True)))))) ∧
  ((((@rowP (@SP.s x)) = (@rowP (@SP.s x))) ∧
  (@Bool.true = @Bool.true)) ∧
  ((((@rowQ (@SP.s x)) = (@rowQ (@SP.s x))) ∧
  (@Bool.true = @Bool.true)) ∧
  True)))))))))))))))) ∧
  (True ∧
  (((@List.length @Cst [(@Cst.mk ((@linesM x_1) + (1 : @Int)) ((@linesM x_1) + (1 : @Int)) (0 : @Int) (0 : @Int) (@linesM x_1) (0 : @Int)), (@Cst.mk (@findM (@SK.s x_2) (@SK.key x_2)) (0 : @Int) (0 : @Int) (0 : @Int) (0 : @Int) (0 : @Int))]) < (4611686018427387904 : @Nat)) ∧
  (True ∧
  (True ∧
  (∃ (x_3 : @SK), ((@Hd (@SK.ok x_3)) ∧
  ((((((0 : @Nat) = (0 : @Nat)) ∧
  ((@Shf.n (@SK.s x_3)) = (@Shf.n (@SP.s x)))) ∧
  ((((0 : @Nat) = (0 : @Nat)) ∧
  ((@Shf.m (@SK.s x_3)) = (@Shf.m (@SP.s x)))) ∧
  True)) ∧
  (((@SK.key x_3) = (@SP.key x)) ∧
  True)) ∧
  (((((@Shf.n (@SK.s x_3)) = (@Shf.n (@SP.s x))) ∧
  (∀ (q : @Nat), ((q < (@Shf.n (@SK.s x_3))) → ([(Value.string (@Shf.pk (@SK.s x_3) q)), (Value.string (@Shf.pv (@SK.s x_3) q))] = [(Value.string (@Shf.pk (@SP.s x) q)), (Value.string (@Shf.pv (@SP.s x) q))])))) ∧
  ((((@Shf.m (@SK.s x_3)) = (@Shf.m (@SP.s x))) ∧
  (∀ (q : @Nat), ((q < (@Shf.m (@SK.s x_3))) → ([(Value.string (@Shf.qv (@SK.s x_3) q))] = [(Value.string (@Shf.qv (@SP.s x) q))])))) ∧
  True)) ∧
  (∀ (y_2 : Unit), (True → (cP (@hadM (@SK.s x_3) (@SK.key x_3)) (∃ (y_3 : Unit), (True ∧
  (((((((@linesM ((((@ByteArray.size (@SP.key x)) + (@ByteArray.size (@SP.value x))) : Nat) : @Int)) + (1 : @Int)) + (@findM (@SP.s x) (@SP.key x))) + (0 : @Int)) = (@Cst.heldM (@Cst.heldM (0 : @Int) ((@linesM x_1) + (1 : @Int))) (@findM (@SK.s x_2) (@SK.key x_2)))) ∧
  ((((@linesM ((((@ByteArray.size (@SP.key x)) + (@ByteArray.size (@SP.value x))) : Nat) : @Int)) + (1 : @Int)) = (@Cst.heldM (@Cst.heldM (0 : @Int) ((@linesM x_1) + (1 : @Int))) (0 : @Int))) ∧
  (((0 : @Int) = (0 : @Int)) ∧
  (((0 : @Int) = (0 : @Int)) ∧
  (((@linesM ((((@ByteArray.size (@SP.key x)) + (@ByteArray.size (@SP.value x))) : Nat) : @Int)) = (@Cst.heldM (@Cst.heldM (0 : @Int) (@linesM x_1)) (0 : @Int))) ∧
  (((@b2i (@hadM (@SP.s x) (@SP.key x))) = (1 : @Int)) ∧
  True)))))) ∧
  ((((@rowP (@SP.s x)) = (@rowP (@SP.s x))) ∧
  (@Bool.true = @Bool.true)) ∧
  ((((@rowQ (@SP.s x)) = (@rowQ (@SP.s x))) ∧
  (@Bool.true = @Bool.true)) ∧
  True))))) (∃ (y_3 : Unit), (True ∧
  (((((((@linesM ((((@ByteArray.size (@SP.key x)) + (@ByteArray.size (@SP.value x))) : Nat) : @Int)) + (1 : @Int)) + (@findM (@SP.s x) (@SP.key x))) + (0 : @Int)) = (@Cst.heldM (@Cst.heldM (0 : @Int) ((@linesM x_1) + (1 : @Int))) (@findM (@SK.s x_2) (@SK.key x_2)))) ∧
  ((((@linesM ((((@ByteArray.size (@SP.key x)) + (@ByteArray.size (@SP.value x))) : Nat) : @Int)) + (1 : @Int)) = (@Cst.heldM (@Cst.heldM (0 : @Int) ((@linesM x_1) + (1 : @Int))) (0 : @Int))) ∧
  (((0 : @Int) = (0 : @Int)) ∧
  (((0 : @Int) = (0 : @Int)) ∧
  (((@linesM ((((@ByteArray.size (@SP.key x)) + (@ByteArray.size (@SP.value x))) : Nat) : @Int)) = (@Cst.heldM (@Cst.heldM (0 : @Int) (@linesM x_1)) (0 : @Int))) ∧
  (((@b2i (@hadM (@SP.s x) (@SP.key x))) = (0 : @Int)) ∧
  True)))))) ∧
  ((((@rowP (@SP.s x)) = (@rowP (@SP.s x))) ∧
  (@Bool.true = @Bool.true)) ∧
  ((((@rowQ (@SP.s x)) = (@rowQ (@SP.s x))) ∧
  (@Bool.true = @Bool.true)) ∧
  True)))))))))))))))))) ∧
  (True ∧
  (True ∧
  (((@List.length @Cst [(@Cst.mk ((@linesM x_1) + (1 : @Int)) ((@linesM x_1) + (1 : @Int)) (0 : @Int) (0 : @Int) (@linesM x_1) (0 : @Int)), (@Cst.mk (@findM (@SK.s x_2) (@SK.key x_2)) (0 : @Int) (0 : @Int) (0 : @Int) (0 : @Int) (0 : @Int))]) < (4611686018427387904 : @Nat)) ∧
  (True ∧
  (True ∧
  (∃ (x_3 : @SK), ((@Hd (@SK.ok x_3)) ∧
  ((((((0 : @Nat) = (0 : @Nat)) ∧
  ((@Shf.n (@SK.s x_3)) = (@Shf.n (@SP.s x)))) ∧
  ((((0 : @Nat) = (0 : @Nat)) ∧
  ((@Shf.m (@SK.s x_3)) = (@Shf.m (@SP.s x)))) ∧
  True)) ∧
  (((@SK.key x_3) = (@SP.key x)) ∧
  True)) ∧
  (((((@Shf.n (@SK.s x_3)) = (@Shf.n (@SP.s x))) ∧
  (∀ (q : @Nat), ((q < (@Shf.n (@SK.s x_3))) → ([(Value.string (@Shf.pk (@SK.s x_3) q)), (Value.string (@Shf.pv (@SK.s x_3) q))] = [(Value.string (@Shf.pk (@SP.s x) q)), (Value.string (@Shf.pv (@SP.s x) q))])))) ∧
  ((((@Shf.m (@SK.s x_3)) = (@Shf.m (@SP.s x))) ∧
  (∀ (q : @Nat), ((q < (@Shf.m (@SK.s x_3))) → ([(Value.string (@Shf.qv (@SK.s x_3) q))] = [(Value.string (@Shf.qv (@SP.s x) q))])))) ∧
  True)) ∧
  (∀ (y_2 : Unit), (True → (cP (@hadM (@SK.s x_3) (@SK.key x_3)) (∃ (y_3 : Unit), (True ∧
  (((((((@linesM ((((@ByteArray.size (@SP.key x)) + (@ByteArray.size (@SP.value x))) : Nat) : @Int)) + (1 : @Int)) + (@findM (@SP.s x) (@SP.key x))) + (0 : @Int)) = (@Cst.heldM (@Cst.heldM (0 : @Int) ((@linesM x_1) + (1 : @Int))) (@findM (@SK.s x_2) (@SK.key x_2)))) ∧
  ((((@linesM ((((@ByteArray.size (@SP.key x)) + (@ByteArray.size (@SP.value x))) : Nat) : @Int)) + (1 : @Int)) = (@Cst.heldM (@Cst.heldM (0 : @Int) ((@linesM x_1) + (1 : @Int))) (0 : @Int))) ∧
  (((0 : @Int) = (0 : @Int)) ∧
  (((0 : @Int) = (0 : @Int)) ∧
  (((@linesM ((((@ByteArray.size (@SP.key x)) + (@ByteArray.size (@SP.value x))) : Nat) : @Int)) = (@Cst.heldM (@Cst.heldM (0 : @Int) (@linesM x_1)) (0 : @Int))) ∧
  (((@b2i (@hadM (@SP.s x) (@SP.key x))) = (1 : @Int)) ∧
  True)))))) ∧
  ((((@rowP (@SP.s x)) = (@rowP (@SP.s x))) ∧
  (@Bool.true = @Bool.true)) ∧
  ((((@rowQ (@SP.s x)) = (@rowQ (@SP.s x))) ∧
  (@Bool.true = @Bool.true)) ∧
  True))))) (∃ (y_3 : Unit), (True ∧
  (((((((@linesM ((((@ByteArray.size (@SP.key x)) + (@ByteArray.size (@SP.value x))) : Nat) : @Int)) + (1 : @Int)) + (@findM (@SP.s x) (@SP.key x))) + (0 : @Int)) = (@Cst.heldM (@Cst.heldM (0 : @Int) ((@linesM x_1) + (1 : @Int))) (@findM (@SK.s x_2) (@SK.key x_2)))) ∧
  ((((@linesM ((((@ByteArray.size (@SP.key x)) + (@ByteArray.size (@SP.value x))) : Nat) : @Int)) + (1 : @Int)) = (@Cst.heldM (@Cst.heldM (0 : @Int) ((@linesM x_1) + (1 : @Int))) (0 : @Int))) ∧
  (((0 : @Int) = (0 : @Int)) ∧
  (((0 : @Int) = (0 : @Int)) ∧
  (((@linesM ((((@ByteArray.size (@SP.key x)) + (@ByteArray.size (@SP.value x))) : Nat) : @Int)) = (@Cst.heldM (@Cst.heldM (0 : @Int) (@linesM x_1)) (0 : @Int))) ∧
  (((@b2i (@hadM (@SP.s x) (@SP.key x))) = (0 : @Int)) ∧
  True)))))) ∧
  ((((@rowP (@SP.s x)) = (@rowP (@SP.s x))) ∧
  (@Bool.true = @Bool.true)) ∧
  ((((@rowQ (@SP.s x)) = (@rowQ (@SP.s x))) ∧
  (@Bool.true = @Bool.true)) ∧
  True))))))))))))))))))))))))) ∧
  ((((AV.lit (Value.string (@SP.key x))) = (AV.lit (Value.string (@SP.key x)))) ∧
  (((AV.agg [(AV.slR (0 : @Nat) (0 : @Nat) (2 : @Nat) (@Shf.n (@SP.s x))), (AV.slR (1 : @Nat) (0 : @Nat) (1 : @Nat) (@Shf.m (@SP.s x)))]) = (AV.agg [(AV.slR (0 : @Nat) (0 : @Nat) (2 : @Nat) (@Shf.n (@SP.s x))), (AV.slR (1 : @Nat) (0 : @Nat) (1 : @Nat) (@Shf.m (@SP.s x)))])) ∧
  True)) ∧
  (∃ (x_2 : @SK), ((@Hd (@SK.ok x_2)) ∧
  ((((((0 : @Nat) = (0 : @Nat)) ∧
  ((@Shf.n (@SK.s x_2)) = (@Shf.n (@SP.s x)))) ∧
  ((((0 : @Nat) = (0 : @Nat)) ∧
  ((@Shf.m (@SK.s x_2)) = (@Shf.m (@SP.s x)))) ∧
  True)) ∧
  (((@SK.key x_2) = (@SP.key x)) ∧
  True)) ∧
  (((((@Shf.n (@SK.s x_2)) = (@Shf.n (@SP.s x))) ∧
  (∀ (q : @Nat), ((q < (@Shf.n (@SK.s x_2))) → ([(Value.string (@Shf.pk (@SK.s x_2) q)), (Value.string (@Shf.pv (@SK.s x_2) q))] = [(Value.string (@Shf.pk (@SP.s x) q)), (Value.string (@Shf.pv (@SP.s x) q))])))) ∧
  ((((@Shf.m (@SK.s x_2)) = (@Shf.m (@SP.s x))) ∧
  (∀ (q : @Nat), ((q < (@Shf.m (@SK.s x_2))) → ([(Value.string (@Shf.qv (@SK.s x_2) q))] = [(Value.string (@Shf.qv (@SP.s x) q))])))) ∧
  True)) ∧
  (∀ (y_1 : Unit), (True → (True ∧
  (True ∧
  (((@List.length @Cst [(@Cst.mk ((@linesM x_1) + (1 : @Int)) ((@linesM x_1) + (1 : @Int)) (0 : @Int) (0 : @Int) (@linesM x_1) (0 : @Int)), (@Cst.mk (@findM (@SK.s x_2) (@SK.key x_2)) (0 : @Int) (0 : @Int) (0 : @Int) (0 : @Int) (0 : @Int))]) < (4611686018427387904 : @Nat)) ∧
  (True ∧
  (True ∧
  (∃ (x_3 : @SK), ((@Hd (@SK.ok x_3)) ∧
  ((((((0 : @Nat) = (0 : @Nat)) ∧
  ((@Shf.n (@SK.s x_3)) = (@Shf.n (@SP.s x)))) ∧
  ((((0 : @Nat) = (0 : @Nat)) ∧
  ((@Shf.m (@SK.s x_3)) = (@Shf.m (@SP.s x)))) ∧
  True)) ∧
  (((@SK.key x_3) = (@SP.key x)) ∧
  True)) ∧
  (((((@Shf.n (@SK.s x_3)) = (@Shf.n (@SP.s x))) ∧
  (∀ (q : @Nat), ((q < (@Shf.n (@SK.s x_3))) → ([(Value.string (@Shf.pk (@SK.s x_3) q)), (Value.string (@Shf.pv (@SK.s x_3) q))] = [(Value.string (@Shf.pk (@SP.s x) q)), (Value.string (@Shf.pv (@SP.s x) q))])))) ∧
  ((((@Shf.m (@SK.s x_3)) = (@Shf.m (@SP.s x))) ∧
  (∀ (q : @Nat), ((q < (@Shf.m (@SK.s x_3))) → ([(Value.string (@Shf.qv (@SK.s x_3) q))] = [(Value.string (@Shf.qv (@SP.s x) q))])))) ∧
  True)) ∧
  (∀ (y_2 : Unit), (True → (cP (@hadM (@SK.s x_3) (@SK.key x_3)) (∃ (y_3 : Unit), (True ∧
  (((((((@linesM ((((@ByteArray.size (@SP.key x)) + (@ByteArray.size (@SP.value x))) : Nat) : @Int)) + (1 : @Int)) + (@findM (@SP.s x) (@SP.key x))) + (0 : @Int)) = (@Cst.heldM (@Cst.heldM (0 : @Int) ((@linesM x_1) + (1 : @Int))) (@findM (@SK.s x_2) (@SK.key x_2)))) ∧
  ((((@linesM ((((@ByteArray.size (@SP.key x)) + (@ByteArray.size (@SP.value x))) : Nat) : @Int)) + (1 : @Int)) = (@Cst.heldM (@Cst.heldM (0 : @Int) ((@linesM x_1) + (1 : @Int))) (0 : @Int))) ∧
  (((0 : @Int) = (0 : @Int)) ∧
  (((0 : @Int) = (0 : @Int)) ∧
  (((@linesM ((((@ByteArray.size (@SP.key x)) + (@ByteArray.size (@SP.value x))) : Nat) : @Int)) = (@Cst.heldM (@Cst.heldM (0 : @Int) (@linesM x_1)) (0 : @Int))) ∧
  (((@b2i (@hadM (@SP.s x) (@SP.key x))) = (1 : @Int)) ∧
  True)))))) ∧
  ((((@rowP (@SP.s x)) = (@rowP (@SP.s x))) ∧
  (@Bool.true = @Bool.true)) ∧
  ((((@rowQ (@SP.s x)) = (@rowQ (@SP.s x))) ∧
  (@Bool.true = @Bool.true)) ∧
  True))))) (∃ (y_3 : Unit), (True ∧
  (((((((@linesM ((((@ByteArray.size (@SP.key x)) + (@ByteArray.size (@SP.value x))) : Nat) : @Int)) + (1 : @Int)) + (@findM (@SP.s x) (@SP.key x))) + (0 : @Int)) = (@Cst.heldM (@Cst.heldM (0 : @Int) ((@linesM x_1) + (1 : @Int))) (@findM (@SK.s x_2) (@SK.key x_2)))) ∧
  ((((@linesM ((((@ByteArray.size (@SP.key x)) + (@ByteArray.size (@SP.value x))) : Nat) : @Int)) + (1 : @Int)) = (@Cst.heldM (@Cst.heldM (0 : @Int) ((@linesM x_1) + (1 : @Int))) (0 : @Int))) ∧
  (((0 : @Int) = (0 : @Int)) ∧
  (((0 : @Int) = (0 : @Int)) ∧
  (((@linesM ((((@ByteArray.size (@SP.key x)) + (@ByteArray.size (@SP.value x))) : Nat) : @Int)) = (@Cst.heldM (@Cst.heldM (0 : @Int) (@linesM x_1)) (0 : @Int))) ∧
  (((@b2i (@hadM (@SP.s x) (@SP.key x))) = (0 : @Int)) ∧
  True)))))) ∧
  ((((@rowP (@SP.s x)) = (@rowP (@SP.s x))) ∧
  (@Bool.true = @Bool.true)) ∧
  ((((@rowQ (@SP.s x)) = (@rowQ (@SP.s x))) ∧
  (@Bool.true = @Bool.true)) ∧
  True)))))))))))))))))))))))))))))))) ∧
  ((((AV.lit (Value.string (@SP.key x))) = (AV.lit (Value.string (@SP.key x)))) ∧
  (((AV.agg [(AV.slR (0 : @Nat) (0 : @Nat) (2 : @Nat) (@Shf.n (@SP.s x))), (AV.slR (1 : @Nat) (0 : @Nat) (1 : @Nat) (@Shf.m (@SP.s x)))]) = (AV.agg [(AV.slR (0 : @Nat) (0 : @Nat) (2 : @Nat) (@Shf.n (@SP.s x))), (AV.slR (1 : @Nat) (0 : @Nat) (1 : @Nat) (@Shf.m (@SP.s x)))])) ∧
  (((AV.lit (Value.string (@SP.value x))) = (AV.lit (Value.string (@SP.value x)))) ∧
  (((AV.lit (Value.string (@SP.key x))) = (AV.lit (Value.string (@SP.key x)))) ∧
  True)))) ∧
  (∃ (x_1 : @Int), (True ∧
  (((x_1 = ((((@ByteArray.size (@SP.key x)) : Nat) : @Int) + (((@ByteArray.size (@SP.value x)) : Nat) : @Int))) ∧
  True) ∧
  (True ∧
  (∀ (y : Unit), (True → ((((AV.lit (Value.string (@SP.key x))) = (AV.lit (Value.string (@SP.key x)))) ∧
  (((AV.agg [(AV.slR (0 : @Nat) (0 : @Nat) (2 : @Nat) (@Shf.n (@SP.s x))), (AV.slR (1 : @Nat) (0 : @Nat) (1 : @Nat) (@Shf.m (@SP.s x)))]) = (AV.agg [(AV.slR (0 : @Nat) (0 : @Nat) (2 : @Nat) (@Shf.n (@SP.s x))), (AV.slR (1 : @Nat) (0 : @Nat) (1 : @Nat) (@Shf.m (@SP.s x)))])) ∧
  True)) ∧
  (∃ (x_2 : @SK), ((@Hd (@SK.ok x_2)) ∧
  ((((((0 : @Nat) = (0 : @Nat)) ∧
  ((@Shf.n (@SK.s x_2)) = (@Shf.n (@SP.s x)))) ∧
  ((((0 : @Nat) = (0 : @Nat)) ∧
  ((@Shf.m (@SK.s x_2)) = (@Shf.m (@SP.s x)))) ∧
  True)) ∧
  (((@SK.key x_2) = (@SP.key x)) ∧
  True)) ∧
  (((((@Shf.n (@SK.s x_2)) = (@Shf.n (@SP.s x))) ∧
  (∀ (q : @Nat), ((q < (@Shf.n (@SK.s x_2))) → ([(Value.string (@Shf.pk (@SK.s x_2) q)), (Value.string (@Shf.pv (@SK.s x_2) q))] = [(Value.string (@Shf.pk (@SP.s x) q)), (Value.string (@Shf.pv (@SP.s x) q))])))) ∧
  ((((@Shf.m (@SK.s x_2)) = (@Shf.m (@SP.s x))) ∧
  (∀ (q : @Nat), ((q < (@Shf.m (@SK.s x_2))) → ([(Value.string (@Shf.qv (@SK.s x_2) q))] = [(Value.string (@Shf.qv (@SP.s x) q))])))) ∧
  True)) ∧
  (∀ (y_1 : Unit), (True → (True ∧
  (True ∧
  (((@List.length @Cst [(@Cst.mk ((@linesM x_1) + (1 : @Int)) ((@linesM x_1) + (1 : @Int)) (0 : @Int) (0 : @Int) (@linesM x_1) (0 : @Int)), (@Cst.mk (@findM (@SK.s x_2) (@SK.key x_2)) (0 : @Int) (0 : @Int) (0 : @Int) (0 : @Int) (0 : @Int))]) < (4611686018427387904 : @Nat)) ∧
  (True ∧
  (True ∧
  (∃ (x_3 : @SK), ((@Hd (@SK.ok x_3)) ∧
  ((((((0 : @Nat) = (0 : @Nat)) ∧
  ((@Shf.n (@SK.s x_3)) = (@Shf.n (@SP.s x)))) ∧
  ((((0 : @Nat) = (0 : @Nat)) ∧
  ((@Shf.m (@SK.s x_3)) = (@Shf.m (@SP.s x)))) ∧
  True)) ∧
  (((@SK.key x_3) = (@SP.key x)) ∧
  True)) ∧
  (((((@Shf.n (@SK.s x_3)) = (@Shf.n (@SP.s x))) ∧
  (∀ (q : @Nat), ((q < (@Shf.n (@SK.s x_3))) → ([(Value.string (@Shf.pk (@SK.s x_3) q)), (Value.string (@Shf.pv (@SK.s x_3) q))] = [(Value.string (@Shf.pk (@SP.s x) q)), (Value.string (@Shf.pv (@SP.s x) q))])))) ∧
  ((((@Shf.m (@SK.s x_3)) = (@Shf.m (@SP.s x))) ∧
  (∀ (q : @Nat), ((q < (@Shf.m (@SK.s x_3))) → ([(Value.string (@Shf.qv (@SK.s x_3) q))] = [(Value.string (@Shf.qv (@SP.s x) q))])))) ∧
  True)) ∧
  (∀ (y_2 : Unit), (True → (cP (@hadM (@SK.s x_3) (@SK.key x_3)) (∃ (y_3 : Unit), (True ∧
  (((((((@linesM ((((@ByteArray.size (@SP.key x)) + (@ByteArray.size (@SP.value x))) : Nat) : @Int)) + (1 : @Int)) + (@findM (@SP.s x) (@SP.key x))) + (0 : @Int)) = (@Cst.heldM (@Cst.heldM (0 : @Int) ((@linesM x_1) + (1 : @Int))) (@findM (@SK.s x_2) (@SK.key x_2)))) ∧
  ((((@linesM ((((@ByteArray.size (@SP.key x)) + (@ByteArray.size (@SP.value x))) : Nat) : @Int)) + (1 : @Int)) = (@Cst.heldM (@Cst.heldM (0 : @Int) ((@linesM x_1) + (1 : @Int))) (0 : @Int))) ∧
  (((0 : @Int) = (0 : @Int)) ∧
  (((0 : @Int) = (0 : @Int)) ∧
  (((@linesM ((((@ByteArray.size (@SP.key x)) + (@ByteArray.size (@SP.value x))) : Nat) : @Int)) = (@Cst.heldM (@Cst.heldM (0 : @Int) (@linesM x_1)) (0 : @Int))) ∧
  (((@b2i (@hadM (@SP.s x) (@SP.key x))) = (1 : @Int)) ∧
  True)))))) ∧
  ((((@rowP (@SP.s x)) = (@rowP (@SP.s x))) ∧
  (@Bool.true = @Bool.true)) ∧
  ((((@rowQ (@SP.s x)) = (@rowQ (@SP.s x))) ∧
  (@Bool.true = @Bool.true)) ∧
  True))))) (∃ (y_3 : Unit), (True ∧
  (((((((@linesM ((((@ByteArray.size (@SP.key x)) + (@ByteArray.size (@SP.value x))) : Nat) : @Int)) + (1 : @Int)) + (@findM (@SP.s x) (@SP.key x))) + (0 : @Int)) = (@Cst.heldM (@Cst.heldM (0 : @Int) ((@linesM x_1) + (1 : @Int))) (@findM (@SK.s x_2) (@SK.key x_2)))) ∧
  ((((@linesM ((((@ByteArray.size (@SP.key x)) + (@ByteArray.size (@SP.value x))) : Nat) : @Int)) + (1 : @Int)) = (@Cst.heldM (@Cst.heldM (0 : @Int) ((@linesM x_1) + (1 : @Int))) (0 : @Int))) ∧
  (((0 : @Int) = (0 : @Int)) ∧
  (((0 : @Int) = (0 : @Int)) ∧
  (((@linesM ((((@ByteArray.size (@SP.key x)) + (@ByteArray.size (@SP.value x))) : Nat) : @Int)) = (@Cst.heldM (@Cst.heldM (0 : @Int) (@linesM x_1)) (0 : @Int))) ∧
  (((@b2i (@hadM (@SP.s x) (@SP.key x))) = (0 : @Int)) ∧
  True)))))) ∧
  ((((@rowP (@SP.s x)) = (@rowP (@SP.s x))) ∧
  (@Bool.true = @Bool.true)) ∧
  ((((@rowQ (@SP.s x)) = (@rowQ (@SP.s x))) ∧
  (@Bool.true = @Bool.true)) ∧
  True)))))))))))))))))))))))))))))))))
theorem putVC_ok (x : SP) : putVC x = putVC_wp x := by kernel_rfl
def delVC_wp (x : SK) : Prop := wpF Try.prog tblW tt noAn 200 5 39 (delC.args x) (hO delC.k (delC.os x)) (fun v h' => endsP delC.k x v h' delC.outs)
def delVC (x : SK) : Prop :=
  (∃ (x_1 : @SK), ((@Hd (@SK.ok x_1)) ∧
  ((((((0 : @Nat) = (0 : @Nat)) ∧
  ((@Shf.n (@SK.s x_1)) = (@Shf.n (@SK.s x)))) ∧
  ((((0 : @Nat) = (0 : @Nat)) ∧
  ((@Shf.m (@SK.s x_1)) = (@Shf.m (@SK.s x)))) ∧
  True)) ∧
  (((@SK.key x_1) = (@SK.key x)) ∧
  True)) ∧
  (((((@Shf.n (@SK.s x_1)) = (@Shf.n (@SK.s x))) ∧
  (∀ (q : @Nat), ((q < (@Shf.n (@SK.s x_1))) → ([(Value.string (@Shf.pk (@SK.s x_1) q)), (Value.string (@Shf.pv (@SK.s x_1) q))] = [(Value.string (@Shf.pk (@SK.s x) q)), (Value.string (@Shf.pv (@SK.s x) q))])))) ∧
  ((((@Shf.m (@SK.s x_1)) = (@Shf.m (@SK.s x))) ∧
  (∀ (q : @Nat), ((q < (@Shf.m (@SK.s x_1))) → ([(Value.string (@Shf.qv (@SK.s x_1) q))] = [(Value.string (@Shf.qv (@SK.s x) q))])))) ∧
  True)) ∧
  (∀ (y : Unit), (True → (∃ (x_2 : @SK), ((@Hd (@SK.ok x_2)) ∧
  ((((((0 : @Nat) = (0 : @Nat)) ∧
  ((@Shf.n (@SK.s x_2)) = (@Shf.n (@SK.s x)))) ∧
  ((((0 : @Nat) = (0 : @Nat)) ∧
  ((@Shf.m (@SK.s x_2)) = (@Shf.m (@SK.s x)))) ∧
  True)) ∧
  (((@SK.key x_2) = (@SK.key x)) ∧
  True)) ∧
  (((((@Shf.n (@SK.s x_2)) = (@Shf.n (@SK.s x))) ∧
  (∀ (q : @Nat), ((q < (@Shf.n (@SK.s x_2))) → ([(Value.string (@Shf.pk (@SK.s x_2) q)), (Value.string (@Shf.pv (@SK.s x_2) q))] = [(Value.string (@Shf.pk (@SK.s x) q)), (Value.string (@Shf.pv (@SK.s x) q))])))) ∧
  ((((@Shf.m (@SK.s x_2)) = (@Shf.m (@SK.s x))) ∧
  (∀ (q : @Nat), ((q < (@Shf.m (@SK.s x_2))) → ([(Value.string (@Shf.qv (@SK.s x_2) q))] = [(Value.string (@Shf.qv (@SK.s x) q))])))) ∧
  True)) ∧
  (∀ (y_1 : Unit), (True → (cP (@hadM (@SK.s x_2) (@SK.key x_2)) (((@List.length @Cst [(@Cst.mk (@findM (@SK.s x_1) (@SK.key x_1)) (0 : @Int) (0 : @Int) (0 : @Int) (0 : @Int) (0 : @Int)), (@Cst.mk (2 : @Int) (2 : @Int) (0 : @Int) (0 : @Int) (1 : @Int) (1 : @Int))]) < (4611686018427387904 : @Nat)) ∧
  (∃ (y_2 : Unit), (True ∧
  ((((@Cst.s0 (@partM (@SK.s x) (3 : @Int) (@SK.key x) (@SK.key x) (0 : @Int))) = (@Cst.heldM (@Cst.heldM (0 : @Int) (@findM (@SK.s x_1) (@SK.key x_1))) (2 : @Int))) ∧
  (((@Cst.s1 (@partM (@SK.s x) (3 : @Int) (@SK.key x) (@SK.key x) (0 : @Int))) = (2 : @Int)) ∧
  (((@Cst.s2 (@partM (@SK.s x) (3 : @Int) (@SK.key x) (@SK.key x) (0 : @Int))) = (0 : @Int)) ∧
  (((@Cst.s3 (@partM (@SK.s x) (3 : @Int) (@SK.key x) (@SK.key x) (0 : @Int))) = (0 : @Int)) ∧
  (((@Cst.s4 (@partM (@SK.s x) (3 : @Int) (@SK.key x) (@SK.key x) (0 : @Int))) = (1 : @Int)) ∧
  (((@Cst.s5 (@partM (@SK.s x) (3 : @Int) (@SK.key x) (@SK.key x) (0 : @Int))) = (1 : @Int)) ∧
  True)))))) ∧
  ((((@rowP (@SK.s x)) = (@rowP (@SK.s x))) ∧
  (@Bool.true = @Bool.true)) ∧
  ((((@rowQ (@SK.s x)) = (@rowQ (@SK.s x))) ∧
  (@Bool.true = @Bool.true)) ∧
  True)))))) (∃ (y_2 : Unit), (True ∧
  ((((@Cst.s0 (@partM (@SK.s x) (3 : @Int) (@SK.key x) (@SK.key x) (0 : @Int))) = (@findM (@SK.s x_1) (@SK.key x_1))) ∧
  (((@Cst.s1 (@partM (@SK.s x) (3 : @Int) (@SK.key x) (@SK.key x) (0 : @Int))) = (0 : @Int)) ∧
  (((@Cst.s2 (@partM (@SK.s x) (3 : @Int) (@SK.key x) (@SK.key x) (0 : @Int))) = (0 : @Int)) ∧
  (((@Cst.s3 (@partM (@SK.s x) (3 : @Int) (@SK.key x) (@SK.key x) (0 : @Int))) = (0 : @Int)) ∧
  (((@Cst.s4 (@partM (@SK.s x) (3 : @Int) (@SK.key x) (@SK.key x) (0 : @Int))) = (0 : @Int)) ∧
  (((@Cst.s5 (@partM (@SK.s x) (3 : @Int) (@SK.key x) (@SK.key x) (0 : @Int))) = (0 : @Int)) ∧
  True)))))) ∧
  ((((@rowP (@SK.s x)) = (@rowP (@SK.s x))) ∧
  (@Bool.true = @Bool.true)) ∧
  ((((@rowQ (@SK.s x)) = (@rowQ (@SK.s x))) ∧
  (@Bool.true = @Bool.true)) ∧
  True))))))))))))))))))
theorem delVC_ok (x : SK) : delVC x = delVC_wp x := by kernel_rfl
def partVC_wp (x : SP) : Prop := wpF Try.prog tblW tt noAn 200 5 48 (partC.args x) (hO partC.k (partC.os x)) (fun v h' => endsP partC.k x v h' partC.outs)
def partVC (x : SP) : Prop :=
  (∃ (x_1 : @SK), ((@Hd (@SK.ok x_1)) ∧
  ((((((0 : @Nat) = (0 : @Nat)) ∧
  ((@Shf.n (@SK.s x_1)) = (@Shf.n (@SP.s x)))) ∧
  ((((0 : @Nat) = (0 : @Nat)) ∧
  ((@Shf.m (@SK.s x_1)) = (@Shf.m (@SP.s x)))) ∧
  True)) ∧
  (((@SK.key x_1) = (@SP.key x)) ∧
  True)) ∧
  (((((@Shf.n (@SK.s x_1)) = (@Shf.n (@SP.s x))) ∧
  (∀ (q : @Nat), ((q < (@Shf.n (@SK.s x_1))) → ([(Value.string (@Shf.pk (@SK.s x_1) q)), (Value.string (@Shf.pv (@SK.s x_1) q))] = [(Value.string (@Shf.pk (@SP.s x) q)), (Value.string (@Shf.pv (@SP.s x) q))])))) ∧
  ((((@Shf.m (@SK.s x_1)) = (@Shf.m (@SP.s x))) ∧
  (∀ (q : @Nat), ((q < (@Shf.m (@SK.s x_1))) → ([(Value.string (@Shf.qv (@SK.s x_1) q))] = [(Value.string (@Shf.qv (@SP.s x) q))])))) ∧
  True)) ∧
  (∀ (y : Unit), (True → (cP (@BEq.beq @Int (@instBEqOfDecidableEq @Int @Int.instDecidableEq) (@SP.kind x) (2 : @Int)) ((@I64 ((((@ByteArray.size (@SP.key x)) : Nat) : @Int) + (((@ByteArray.size (@SP.value x)) : Nat) : @Int))) ∧
  (∃ (x_2 : @Int), (True ∧
  (((x_2 = ((((@ByteArray.size (@SP.key x)) : Nat) : @Int) + (((@ByteArray.size (@SP.value x)) : Nat) : @Int))) ∧
  True) ∧
  (True ∧
  (∀ (y_1 : Unit), (True → (∃ (x_3 : @SK), ((@Hd (@SK.ok x_3)) ∧
  ((((((0 : @Nat) = (0 : @Nat)) ∧
  ((@Shf.n (@SK.s x_3)) = (@Shf.n (@SP.s x)))) ∧
  ((((0 : @Nat) = (0 : @Nat)) ∧
  ((@Shf.m (@SK.s x_3)) = (@Shf.m (@SP.s x)))) ∧
  True)) ∧
  (((@SK.key x_3) = (@SP.key x)) ∧
  True)) ∧
  (((((@Shf.n (@SK.s x_3)) = (@Shf.n (@SP.s x))) ∧
  (∀ (q : @Nat), ((q < (@Shf.n (@SK.s x_3))) → ([(Value.string (@Shf.pk (@SK.s x_3) q)), (Value.string (@Shf.pv (@SK.s x_3) q))] = [(Value.string (@Shf.pk (@SP.s x) q)), (Value.string (@Shf.pv (@SP.s x) q))])))) ∧
  ((((@Shf.m (@SK.s x_3)) = (@Shf.m (@SP.s x))) ∧
  (∀ (q : @Nat), ((q < (@Shf.m (@SK.s x_3))) → ([(Value.string (@Shf.qv (@SK.s x_3) q))] = [(Value.string (@Shf.qv (@SP.s x) q))])))) ∧
  True)) ∧
  (∀ (y_2 : Unit), (True → ((((AV.lit (Value.int @IntKind.i64 ((@linesM x_2) + (1 : @Int)))) = (AV.lit (Value.int @IntKind.i64 ((@linesM x_2) + (1 : @Int))))) ∧
  True) ∧
  ((@I64 (((@linesM x_2) + (1 : @Int)) + (@findM (@SK.s x_3) (@SK.key x_3)))) ∧
  ((@I64 ((((@linesM x_2) + (1 : @Int)) + (@findM (@SK.s x_3) (@SK.key x_3))) + (@SP.e x))) ∧
  (True ∧
  (cP (@hadM (@SK.s x_1) (@SK.key x_1)) (∃ (y_3 : Unit), (True ∧
  ((((@Cst.s0 (@SP.pt x)) = ((((@linesM x_2) + (1 : @Int)) + (@findM (@SK.s x_3) (@SK.key x_3))) + (@SP.e x))) ∧
  (((@Cst.s1 (@SP.pt x)) = ((@linesM x_2) + (1 : @Int))) ∧
  (((@Cst.s2 (@SP.pt x)) = (0 : @Int)) ∧
  (((@Cst.s3 (@SP.pt x)) = (0 : @Int)) ∧
  (((@Cst.s4 (@SP.pt x)) = (@linesM x_2)) ∧
  (((@Cst.s5 (@SP.pt x)) = (1 : @Int)) ∧
  True)))))) ∧
  ((((@rowP (@SP.s x)) = (@rowP (@SP.s x))) ∧
  (@Bool.true = @Bool.true)) ∧
  ((((@rowQ (@SP.s x)) = (@rowQ (@SP.s x))) ∧
  (@Bool.true = @Bool.true)) ∧
  True))))) (∃ (y_3 : Unit), (True ∧
  ((((@Cst.s0 (@SP.pt x)) = ((((@linesM x_2) + (1 : @Int)) + (@findM (@SK.s x_3) (@SK.key x_3))) + (@SP.e x))) ∧
  (((@Cst.s1 (@SP.pt x)) = ((@linesM x_2) + (1 : @Int))) ∧
  (((@Cst.s2 (@SP.pt x)) = (0 : @Int)) ∧
  (((@Cst.s3 (@SP.pt x)) = (0 : @Int)) ∧
  (((@Cst.s4 (@SP.pt x)) = (@linesM x_2)) ∧
  (((@Cst.s5 (@SP.pt x)) = (0 : @Int)) ∧
  True)))))) ∧
  ((((@rowP (@SP.s x)) = (@rowP (@SP.s x))) ∧
  (@Bool.true = @Bool.true)) ∧
  ((((@rowQ (@SP.s x)) = (@rowQ (@SP.s x))) ∧
  (@Bool.true = @Bool.true)) ∧
  True))))))))))))))))))))))) (cP (@BEq.beq @Int (@instBEqOfDecidableEq @Int @Int.instDecidableEq) (@SP.kind x) (3 : @Int)) (cP (@hadM (@SK.s x_1) (@SK.key x_1)) ((@I64 ((2 : @Int) + (@SP.e x))) ∧
  (∃ (x_2 : @SK), ((@Hd (@SK.ok x_2)) ∧
  ((((((0 : @Nat) = (0 : @Nat)) ∧
  ((@Shf.n (@SK.s x_2)) = (@Shf.n (@SP.s x)))) ∧
  ((((0 : @Nat) = (0 : @Nat)) ∧
  ((@Shf.m (@SK.s x_2)) = (@Shf.m (@SP.s x)))) ∧
  True)) ∧
  (((@SK.key x_2) = (@SP.key x)) ∧
  True)) ∧
  (((((@Shf.n (@SK.s x_2)) = (@Shf.n (@SP.s x))) ∧
  (∀ (q : @Nat), ((q < (@Shf.n (@SK.s x_2))) → ([(Value.string (@Shf.pk (@SK.s x_2) q)), (Value.string (@Shf.pv (@SK.s x_2) q))] = [(Value.string (@Shf.pk (@SP.s x) q)), (Value.string (@Shf.pv (@SP.s x) q))])))) ∧
  ((((@Shf.m (@SK.s x_2)) = (@Shf.m (@SP.s x))) ∧
  (∀ (q : @Nat), ((q < (@Shf.m (@SK.s x_2))) → ([(Value.string (@Shf.qv (@SK.s x_2) q))] = [(Value.string (@Shf.qv (@SP.s x) q))])))) ∧
  True)) ∧
  (∀ (y_1 : Unit), (True → ((((AV.lit (Value.int @IntKind.i64 ((2 : @Int) + (@SP.e x)))) = (AV.lit (Value.int @IntKind.i64 ((2 : @Int) + (@SP.e x))))) ∧
  True) ∧
  ((@I64 (((2 : @Int) + (@SP.e x)) + (@findM (@SK.s x_2) (@SK.key x_2)))) ∧
  (True ∧
  (∃ (y_2 : Unit), (True ∧
  ((((@Cst.s0 (@SP.pt x)) = (((2 : @Int) + (@SP.e x)) + (@findM (@SK.s x_2) (@SK.key x_2)))) ∧
  (((@Cst.s1 (@SP.pt x)) = (2 : @Int)) ∧
  (((@Cst.s2 (@SP.pt x)) = (0 : @Int)) ∧
  (((@Cst.s3 (@SP.pt x)) = (0 : @Int)) ∧
  (((@Cst.s4 (@SP.pt x)) = (1 : @Int)) ∧
  (((@Cst.s5 (@SP.pt x)) = (1 : @Int)) ∧
  True)))))) ∧
  ((((@rowP (@SP.s x)) = (@rowP (@SP.s x))) ∧
  (@Bool.true = @Bool.true)) ∧
  ((((@rowQ (@SP.s x)) = (@rowQ (@SP.s x))) ∧
  (@Bool.true = @Bool.true)) ∧
  True))))))))))))))) (∃ (x_2 : @SK), ((@Hd (@SK.ok x_2)) ∧
  ((((((0 : @Nat) = (0 : @Nat)) ∧
  ((@Shf.n (@SK.s x_2)) = (@Shf.n (@SP.s x)))) ∧
  ((((0 : @Nat) = (0 : @Nat)) ∧
  ((@Shf.m (@SK.s x_2)) = (@Shf.m (@SP.s x)))) ∧
  True)) ∧
  (((@SK.key x_2) = (@SP.key x)) ∧
  True)) ∧
  (((((@Shf.n (@SK.s x_2)) = (@Shf.n (@SP.s x))) ∧
  (∀ (q : @Nat), ((q < (@Shf.n (@SK.s x_2))) → ([(Value.string (@Shf.pk (@SK.s x_2) q)), (Value.string (@Shf.pv (@SK.s x_2) q))] = [(Value.string (@Shf.pk (@SP.s x) q)), (Value.string (@Shf.pv (@SP.s x) q))])))) ∧
  ((((@Shf.m (@SK.s x_2)) = (@Shf.m (@SP.s x))) ∧
  (∀ (q : @Nat), ((q < (@Shf.m (@SK.s x_2))) → ([(Value.string (@Shf.qv (@SK.s x_2) q))] = [(Value.string (@Shf.qv (@SP.s x) q))])))) ∧
  True)) ∧
  (∀ (y_1 : Unit), (True → ((((AV.lit (Value.int @IntKind.i64 (0 : @Int))) = (AV.lit (Value.int @IntKind.i64 (0 : @Int)))) ∧
  True) ∧
  ((@I64 ((0 : @Int) + (@findM (@SK.s x_2) (@SK.key x_2)))) ∧
  (True ∧
  (∃ (y_2 : Unit), (True ∧
  ((((@Cst.s0 (@SP.pt x)) = ((0 : @Int) + (@findM (@SK.s x_2) (@SK.key x_2)))) ∧
  (((@Cst.s1 (@SP.pt x)) = (0 : @Int)) ∧
  (((@Cst.s2 (@SP.pt x)) = (0 : @Int)) ∧
  (((@Cst.s3 (@SP.pt x)) = (0 : @Int)) ∧
  (((@Cst.s4 (@SP.pt x)) = (0 : @Int)) ∧
  (((@Cst.s5 (@SP.pt x)) = (0 : @Int)) ∧
  True)))))) ∧
  ((((@rowP (@SP.s x)) = (@rowP (@SP.s x))) ∧
  (@Bool.true = @Bool.true)) ∧
  ((((@rowQ (@SP.s x)) = (@rowQ (@SP.s x))) ∧
  (@Bool.true = @Bool.true)) ∧
  True))))))))))))))) (cP (@BEq.beq @Int (@instBEqOfDecidableEq @Int @Int.instDecidableEq) (@SP.kind x) (4 : @Int)) (∃ (x_2 : @Int), (True ∧
  (((x_2 = (((@ByteArray.size (@SP.value x)) : Nat) : @Int)) ∧
  True) ∧
  (True ∧
  (∀ (y_1 : Unit), (True → ((@I64 (((@linesM x_2) + (1 : @Int)) + (1 : @Int))) ∧
  (∃ (y_2 : Unit), (True ∧
  ((((@Cst.s0 (@SP.pt x)) = (((@linesM x_2) + (1 : @Int)) + (1 : @Int))) ∧
  (((@Cst.s1 (@SP.pt x)) = ((@linesM x_2) + (1 : @Int))) ∧
  (((@Cst.s2 (@SP.pt x)) = (0 : @Int)) ∧
  (((@Cst.s3 (@SP.pt x)) = (0 : @Int)) ∧
  (((@Cst.s4 (@SP.pt x)) = (@linesM x_2)) ∧
  (((@Cst.s5 (@SP.pt x)) = (0 : @Int)) ∧
  True)))))) ∧
  ((((@rowP (@SP.s x)) = (@rowP (@SP.s x))) ∧
  (@Bool.true = @Bool.true)) ∧
  ((((@rowQ (@SP.s x)) = (@rowQ (@SP.s x))) ∧
  (@Bool.true = @Bool.true)) ∧
  True)))))))))))) (∃ (y_1 : Unit), (True ∧
  ((((@Cst.s0 (@SP.pt x)) = (0 : @Int)) ∧
  (((@Cst.s1 (@SP.pt x)) = (0 : @Int)) ∧
  (((@Cst.s2 (@SP.pt x)) = (0 : @Int)) ∧
  (((@Cst.s3 (@SP.pt x)) = (0 : @Int)) ∧
  (((@Cst.s4 (@SP.pt x)) = (0 : @Int)) ∧
  (((@Cst.s5 (@SP.pt x)) = (0 : @Int)) ∧
  True)))))) ∧
  ((((@rowP (@SP.s x)) = (@rowP (@SP.s x))) ∧
  (@Bool.true = @Bool.true)) ∧
  ((((@rowQ (@SP.s x)) = (@rowQ (@SP.s x))) ∧
  (@Bool.true = @Bool.true)) ∧
  True))))))))))))))
theorem partVC_ok (x : SP) : partVC x = partVC_wp x := by kernel_rfl
def groupVC_wp (x : SG) : Prop := wpF Try.prog ((38, ctrT putC) :: (39, ctrT delC) :: tblW) tt (anGroup x) 200 5 42 (groupC.args x) (hO groupC.k (groupC.os x)) (fun v h' => endsP groupC.k x v h' groupC.outs)
def groupVC (x : SG) : Prop :=
  ((∃ (s : @Nat), ((s ≤ (@SG.n x)) ∧
  (True ∧
  (((((s : Nat) : @Int) = (0 : @Int)) ∧
  True) ∧
  ((((@Cst.s0 (@groupTo (@SG.s x) (@SG.g x) s)) = (3 : @Int)) ∧
  (((@Cst.s1 (@groupTo (@SG.s x) (@SG.g x) s)) = (0 : @Int)) ∧
  (((@Cst.s2 (@groupTo (@SG.s x) (@SG.g x) s)) = (0 : @Int)) ∧
  (((@Cst.s3 (@groupTo (@SG.s x) (@SG.g x) s)) = (0 : @Int)) ∧
  (((@Cst.s4 (@groupTo (@SG.s x) (@SG.g x) s)) = (0 : @Int)) ∧
  (((@Cst.s5 (@groupTo (@SG.s x) (@SG.g x) s)) = (0 : @Int)) ∧
  True)))))) ∧
  ((((0 : @Int) = (0 : @Int)) ∧
  (((0 : @Int) = (0 : @Int)) ∧
  (((0 : @Int) = (0 : @Int)) ∧
  (((0 : @Int) = (0 : @Int)) ∧
  (((0 : @Int) = (0 : @Int)) ∧
  (((0 : @Int) = (0 : @Int)) ∧
  True)))))) ∧
  (((((0 : @Nat) = (0 : @Nat)) ∧
  ((@Shf.n (@SG.s x)) = (@Shf.n (@SG.s x)))) ∧
  ((((0 : @Nat) = (0 : @Nat)) ∧
  ((@Shf.m (@SG.s x)) = (@Shf.m (@SG.s x)))) ∧
  True)) ∧
  ((((@Cs.row (5 : @Nat) (@SG.n x) (fun (k : @Nat) => (@Mem.cells (@SG.g x k))) (@List.nil (@Prod @Nat (@List @Value)))) = (@Cs.row (5 : @Nat) (@SG.n x) (fun (k : @Nat) => (@Mem.cells (@SG.g x k))) (@List.nil (@Prod @Nat (@List @Value))))) ∧
  (@Bool.true = @Bool.true)) ∧
  ((((@rowQ (@SG.s x)) = (@rowQ (@SG.s x))) ∧
  (@Bool.true = @Bool.true)) ∧
  ((((@rowP (@SG.s x)) = (@rowP (@SG.s x))) ∧
  (@Bool.true = @Bool.true)) ∧
  True)))))))))) ∧
  ((∀ (s : @Nat), ((s ≤ (@SG.n x)) → (cP (decide (((s : Nat) : @Int) < (((@SG.n x) : Nat) : @Int))) ((((0 : @Int) ≤ ((s : Nat) : @Int)) ∧
  (((s : Nat) : @Int) < (((@SG.n x) : Nat) : @Int))) ∧
  ((((0 : @Nat) + s) < (@SG.n x)) ∧
  (cP (@BEq.beq @Int (@instBEqOfDecidableEq @Int @Int.instDecidableEq) (@Mem.kind (@SG.g x ((0 : @Nat) + s))) (2 : @Int)) (∃ (x_1 : @SP), ((@Hd (@SP.ok x_1)) ∧
  ((((((0 : @Nat) = (0 : @Nat)) ∧
  ((@Shf.n (@SP.s x_1)) = (@Shf.n (@SG.s x)))) ∧
  ((((0 : @Nat) = (0 : @Nat)) ∧
  ((@Shf.m (@SP.s x_1)) = (@Shf.m (@SG.s x)))) ∧
  True)) ∧
  ((((@SP.kind x_1) = (@Mem.kind (@SG.g x ((0 : @Nat) + s)))) ∧
  (((@SP.key x_1) = (@Mem.key (@SG.g x ((0 : @Nat) + s)))) ∧
  (((@SP.value x_1) = (@Mem.value (@SG.g x ((0 : @Nat) + s)))) ∧
  (((@SP.to x_1) = (@Mem.to (@SG.g x ((0 : @Nat) + s)))) ∧
  (True ∧
  True))))) ∧
  True)) ∧
  (((((@Shf.n (@SP.s x_1)) = (@Shf.n (@SG.s x))) ∧
  (∀ (q : @Nat), ((q < (@Shf.n (@SP.s x_1))) → ([(Value.string (@Shf.pk (@SP.s x_1) q)), (Value.string (@Shf.pv (@SP.s x_1) q))] = [(Value.string (@Shf.pk (@SG.s x) q)), (Value.string (@Shf.pv (@SG.s x) q))])))) ∧
  ((((@Shf.m (@SP.s x_1)) = (@Shf.m (@SG.s x))) ∧
  (∀ (q : @Nat), ((q < (@Shf.m (@SP.s x_1))) → ([(Value.string (@Shf.qv (@SP.s x_1) q))] = [(Value.string (@Shf.qv (@SG.s x) q))])))) ∧
  True)) ∧
  (∀ (y : Unit), (True → ((((AV.agg [(AV.lit (Value.int @IntKind.i64 (@Cst.s0 (@groupTo (@SG.s x) (@SG.g x) s)))), (AV.lit (Value.int @IntKind.i64 (@Cst.s1 (@groupTo (@SG.s x) (@SG.g x) s)))), (AV.lit (Value.int @IntKind.i64 (@Cst.s2 (@groupTo (@SG.s x) (@SG.g x) s)))), (AV.lit (Value.int @IntKind.i64 (@Cst.s3 (@groupTo (@SG.s x) (@SG.g x) s)))), (AV.lit (Value.int @IntKind.i64 (@Cst.s4 (@groupTo (@SG.s x) (@SG.g x) s)))), (AV.lit (Value.int @IntKind.i64 (@Cst.s5 (@groupTo (@SG.s x) (@SG.g x) s))))]) = (AV.agg [(AV.lit (Value.int @IntKind.i64 (@Cst.s0 (@groupTo (@SG.s x) (@SG.g x) s)))), (AV.lit (Value.int @IntKind.i64 (@Cst.s1 (@groupTo (@SG.s x) (@SG.g x) s)))), (AV.lit (Value.int @IntKind.i64 (@Cst.s2 (@groupTo (@SG.s x) (@SG.g x) s)))), (AV.lit (Value.int @IntKind.i64 (@Cst.s3 (@groupTo (@SG.s x) (@SG.g x) s)))), (AV.lit (Value.int @IntKind.i64 (@Cst.s4 (@groupTo (@SG.s x) (@SG.g x) s)))), (AV.lit (Value.int @IntKind.i64 (@Cst.s5 (@groupTo (@SG.s x) (@SG.g x) s))))])) ∧
  True) ∧
  (True ∧
  (((@List.length @Cst [(@Cst.mk (@Cst.s0 (@groupTo (@SG.s x) (@SG.g x) s)) (@Cst.s1 (@groupTo (@SG.s x) (@SG.g x) s)) (@Cst.s2 (@groupTo (@SG.s x) (@SG.g x) s)) (@Cst.s3 (@groupTo (@SG.s x) (@SG.g x) s)) (@Cst.s4 (@groupTo (@SG.s x) (@SG.g x) s)) (@Cst.s5 (@groupTo (@SG.s x) (@SG.g x) s))), (@Cst.mk ((((@linesM ((((@ByteArray.size (@SP.key x_1)) + (@ByteArray.size (@SP.value x_1))) : Nat) : @Int)) + (1 : @Int)) + (@findM (@SP.s x_1) (@SP.key x_1))) + (0 : @Int)) ((@linesM ((((@ByteArray.size (@SP.key x_1)) + (@ByteArray.size (@SP.value x_1))) : Nat) : @Int)) + (1 : @Int)) (0 : @Int) (0 : @Int) (@linesM ((((@ByteArray.size (@SP.key x_1)) + (@ByteArray.size (@SP.value x_1))) : Nat) : @Int)) (@b2i (@hadM (@SP.s x_1) (@SP.key x_1))))]) < (4611686018427387904 : @Nat)) ∧
  (True ∧
  (True ∧
  ((@I64 (((s : Nat) : @Int) + (1 : @Int))) ∧
  (∃ (s_1 : @Nat), ((s_1 ≤ (@SG.n x)) ∧
  ((((@SG.n x) - s_1) < ((@SG.n x) - s)) ∧
  (((((s_1 : Nat) : @Int) = (((s : Nat) : @Int) + (1 : @Int))) ∧
  True) ∧
  ((((@Cst.s0 (@groupTo (@SG.s x) (@SG.g x) s_1)) = (@Cst.heldM (@Cst.heldM (0 : @Int) (@Cst.s0 (@groupTo (@SG.s x) (@SG.g x) s))) ((((@linesM ((((@ByteArray.size (@SP.key x_1)) + (@ByteArray.size (@SP.value x_1))) : Nat) : @Int)) + (1 : @Int)) + (@findM (@SP.s x_1) (@SP.key x_1))) + (0 : @Int)))) ∧
  (((@Cst.s1 (@groupTo (@SG.s x) (@SG.g x) s_1)) = (@Cst.heldM (@Cst.heldM (0 : @Int) (@Cst.s1 (@groupTo (@SG.s x) (@SG.g x) s))) ((@linesM ((((@ByteArray.size (@SP.key x_1)) + (@ByteArray.size (@SP.value x_1))) : Nat) : @Int)) + (1 : @Int)))) ∧
  (((@Cst.s2 (@groupTo (@SG.s x) (@SG.g x) s_1)) = (@Cst.heldM (@Cst.heldM (0 : @Int) (@Cst.s2 (@groupTo (@SG.s x) (@SG.g x) s))) (0 : @Int))) ∧
  (((@Cst.s3 (@groupTo (@SG.s x) (@SG.g x) s_1)) = (@Cst.heldM (@Cst.heldM (0 : @Int) (@Cst.s3 (@groupTo (@SG.s x) (@SG.g x) s))) (0 : @Int))) ∧
  (((@Cst.s4 (@groupTo (@SG.s x) (@SG.g x) s_1)) = (@Cst.heldM (@Cst.heldM (0 : @Int) (@Cst.s4 (@groupTo (@SG.s x) (@SG.g x) s))) (@linesM ((((@ByteArray.size (@SP.key x_1)) + (@ByteArray.size (@SP.value x_1))) : Nat) : @Int)))) ∧
  (((@Cst.s5 (@groupTo (@SG.s x) (@SG.g x) s_1)) = (@Cst.heldM (@Cst.heldM (0 : @Int) (@Cst.s5 (@groupTo (@SG.s x) (@SG.g x) s))) (@b2i (@hadM (@SP.s x_1) (@SP.key x_1))))) ∧
  True)))))) ∧
  ((((0 : @Int) = (0 : @Int)) ∧
  (((0 : @Int) = (0 : @Int)) ∧
  (((0 : @Int) = (0 : @Int)) ∧
  (((0 : @Int) = (0 : @Int)) ∧
  (((0 : @Int) = (0 : @Int)) ∧
  (((0 : @Int) = (0 : @Int)) ∧
  True)))))) ∧
  (((((0 : @Nat) = (0 : @Nat)) ∧
  ((@Shf.n (@SG.s x)) = (@Shf.n (@SG.s x)))) ∧
  ((((0 : @Nat) = (0 : @Nat)) ∧
  ((@Shf.m (@SG.s x)) = (@Shf.m (@SG.s x)))) ∧
  True)) ∧
  ((((@Cs.row (5 : @Nat) (@SG.n x) (fun (k : @Nat) => (@Mem.cells (@SG.g x k))) (@List.nil (@Prod @Nat (@List @Value)))) = (@Cs.row (5 : @Nat) (@SG.n x) (fun (k : @Nat) => (@Mem.cells (@SG.g x k))) (@List.nil (@Prod @Nat (@List @Value))))) ∧
  (@Bool.true = @Bool.true)) ∧
  ((((@rowQ (@SG.s x)) = (@rowQ (@SG.s x))) ∧
  (@Bool.true = @Bool.true)) ∧
  ((((@rowP (@SG.s x)) = (@rowP (@SG.s x))) ∧
  (@Bool.true = @Bool.true)) ∧
  True)))))))))))))))))))))) (cP (@BEq.beq @Int (@instBEqOfDecidableEq @Int @Int.instDecidableEq) (@Mem.kind (@SG.g x ((0 : @Nat) + s))) (3 : @Int)) (∃ (x_1 : @SK), ((@Hd (@SK.ok x_1)) ∧
  ((((((0 : @Nat) = (0 : @Nat)) ∧
  ((@Shf.n (@SK.s x_1)) = (@Shf.n (@SG.s x)))) ∧
  ((((0 : @Nat) = (0 : @Nat)) ∧
  ((@Shf.m (@SK.s x_1)) = (@Shf.m (@SG.s x)))) ∧
  True)) ∧
  (((@SK.key x_1) = (@Mem.key (@SG.g x ((0 : @Nat) + s)))) ∧
  True)) ∧
  (((((@Shf.n (@SK.s x_1)) = (@Shf.n (@SG.s x))) ∧
  (∀ (q : @Nat), ((q < (@Shf.n (@SK.s x_1))) → ([(Value.string (@Shf.pk (@SK.s x_1) q)), (Value.string (@Shf.pv (@SK.s x_1) q))] = [(Value.string (@Shf.pk (@SG.s x) q)), (Value.string (@Shf.pv (@SG.s x) q))])))) ∧
  ((((@Shf.m (@SK.s x_1)) = (@Shf.m (@SG.s x))) ∧
  (∀ (q : @Nat), ((q < (@Shf.m (@SK.s x_1))) → ([(Value.string (@Shf.qv (@SK.s x_1) q))] = [(Value.string (@Shf.qv (@SG.s x) q))])))) ∧
  True)) ∧
  (∀ (y : Unit), (True → ((((AV.agg [(AV.lit (Value.int @IntKind.i64 (@Cst.s0 (@groupTo (@SG.s x) (@SG.g x) s)))), (AV.lit (Value.int @IntKind.i64 (@Cst.s1 (@groupTo (@SG.s x) (@SG.g x) s)))), (AV.lit (Value.int @IntKind.i64 (@Cst.s2 (@groupTo (@SG.s x) (@SG.g x) s)))), (AV.lit (Value.int @IntKind.i64 (@Cst.s3 (@groupTo (@SG.s x) (@SG.g x) s)))), (AV.lit (Value.int @IntKind.i64 (@Cst.s4 (@groupTo (@SG.s x) (@SG.g x) s)))), (AV.lit (Value.int @IntKind.i64 (@Cst.s5 (@groupTo (@SG.s x) (@SG.g x) s))))]) = (AV.agg [(AV.lit (Value.int @IntKind.i64 (@Cst.s0 (@groupTo (@SG.s x) (@SG.g x) s)))), (AV.lit (Value.int @IntKind.i64 (@Cst.s1 (@groupTo (@SG.s x) (@SG.g x) s)))), (AV.lit (Value.int @IntKind.i64 (@Cst.s2 (@groupTo (@SG.s x) (@SG.g x) s)))), (AV.lit (Value.int @IntKind.i64 (@Cst.s3 (@groupTo (@SG.s x) (@SG.g x) s)))), (AV.lit (Value.int @IntKind.i64 (@Cst.s4 (@groupTo (@SG.s x) (@SG.g x) s)))), (AV.lit (Value.int @IntKind.i64 (@Cst.s5 (@groupTo (@SG.s x) (@SG.g x) s))))])) ∧
  True) ∧
  (True ∧
  (((@List.length @Cst [(@Cst.mk (@Cst.s0 (@groupTo (@SG.s x) (@SG.g x) s)) (@Cst.s1 (@groupTo (@SG.s x) (@SG.g x) s)) (@Cst.s2 (@groupTo (@SG.s x) (@SG.g x) s)) (@Cst.s3 (@groupTo (@SG.s x) (@SG.g x) s)) (@Cst.s4 (@groupTo (@SG.s x) (@SG.g x) s)) (@Cst.s5 (@groupTo (@SG.s x) (@SG.g x) s))), (@Cst.mk (@Cst.s0 (@partM (@SK.s x_1) (3 : @Int) (@SK.key x_1) (@SK.key x_1) (0 : @Int))) (@Cst.s1 (@partM (@SK.s x_1) (3 : @Int) (@SK.key x_1) (@SK.key x_1) (0 : @Int))) (@Cst.s2 (@partM (@SK.s x_1) (3 : @Int) (@SK.key x_1) (@SK.key x_1) (0 : @Int))) (@Cst.s3 (@partM (@SK.s x_1) (3 : @Int) (@SK.key x_1) (@SK.key x_1) (0 : @Int))) (@Cst.s4 (@partM (@SK.s x_1) (3 : @Int) (@SK.key x_1) (@SK.key x_1) (0 : @Int))) (@Cst.s5 (@partM (@SK.s x_1) (3 : @Int) (@SK.key x_1) (@SK.key x_1) (0 : @Int))))]) < (4611686018427387904 : @Nat)) ∧
  (True ∧
  (True ∧
  ((@I64 (((s : Nat) : @Int) + (1 : @Int))) ∧
  (∃ (s_1 : @Nat), ((s_1 ≤ (@SG.n x)) ∧
  ((((@SG.n x) - s_1) < ((@SG.n x) - s)) ∧
  (((((s_1 : Nat) : @Int) = (((s : Nat) : @Int) + (1 : @Int))) ∧
  True) ∧
  ((((@Cst.s0 (@groupTo (@SG.s x) (@SG.g x) s_1)) = (@Cst.heldM (@Cst.heldM (0 : @Int) (@Cst.s0 (@groupTo (@SG.s x) (@SG.g x) s))) (@Cst.s0 (@partM (@SK.s x_1) (3 : @Int) (@SK.key x_1) (@SK.key x_1) (0 : @Int))))) ∧
  (((@Cst.s1 (@groupTo (@SG.s x) (@SG.g x) s_1)) = (@Cst.heldM (@Cst.heldM (0 : @Int) (@Cst.s1 (@groupTo (@SG.s x) (@SG.g x) s))) (@Cst.s1 (@partM (@SK.s x_1) (3 : @Int) (@SK.key x_1) (@SK.key x_1) (0 : @Int))))) ∧
  (((@Cst.s2 (@groupTo (@SG.s x) (@SG.g x) s_1)) = (@Cst.heldM (@Cst.heldM (0 : @Int) (@Cst.s2 (@groupTo (@SG.s x) (@SG.g x) s))) (@Cst.s2 (@partM (@SK.s x_1) (3 : @Int) (@SK.key x_1) (@SK.key x_1) (0 : @Int))))) ∧
  (((@Cst.s3 (@groupTo (@SG.s x) (@SG.g x) s_1)) = (@Cst.heldM (@Cst.heldM (0 : @Int) (@Cst.s3 (@groupTo (@SG.s x) (@SG.g x) s))) (@Cst.s3 (@partM (@SK.s x_1) (3 : @Int) (@SK.key x_1) (@SK.key x_1) (0 : @Int))))) ∧
  (((@Cst.s4 (@groupTo (@SG.s x) (@SG.g x) s_1)) = (@Cst.heldM (@Cst.heldM (0 : @Int) (@Cst.s4 (@groupTo (@SG.s x) (@SG.g x) s))) (@Cst.s4 (@partM (@SK.s x_1) (3 : @Int) (@SK.key x_1) (@SK.key x_1) (0 : @Int))))) ∧
  (((@Cst.s5 (@groupTo (@SG.s x) (@SG.g x) s_1)) = (@Cst.heldM (@Cst.heldM (0 : @Int) (@Cst.s5 (@groupTo (@SG.s x) (@SG.g x) s))) (@Cst.s5 (@partM (@SK.s x_1) (3 : @Int) (@SK.key x_1) (@SK.key x_1) (0 : @Int))))) ∧
  True)))))) ∧
  ((((0 : @Int) = (0 : @Int)) ∧
  (((0 : @Int) = (0 : @Int)) ∧
  (((0 : @Int) = (0 : @Int)) ∧
  (((0 : @Int) = (0 : @Int)) ∧
  (((0 : @Int) = (0 : @Int)) ∧
  (((0 : @Int) = (0 : @Int)) ∧
  True)))))) ∧
  (((((0 : @Nat) = (0 : @Nat)) ∧
  ((@Shf.n (@SG.s x)) = (@Shf.n (@SG.s x)))) ∧
  ((((0 : @Nat) = (0 : @Nat)) ∧
  ((@Shf.m (@SG.s x)) = (@Shf.m (@SG.s x)))) ∧
  True)) ∧
  ((((@Cs.row (5 : @Nat) (@SG.n x) (fun (k : @Nat) => (@Mem.cells (@SG.g x k))) (@List.nil (@Prod @Nat (@List @Value)))) = (@Cs.row (5 : @Nat) (@SG.n x) (fun (k : @Nat) => (@Mem.cells (@SG.g x k))) (@List.nil (@Prod @Nat (@List @Value))))) ∧
  (@Bool.true = @Bool.true)) ∧
  ((((@rowQ (@SG.s x)) = (@rowQ (@SG.s x))) ∧
  (@Bool.true = @Bool.true)) ∧
  ((((@rowP (@SG.s x)) = (@rowP (@SG.s x))) ∧
  (@Bool.true = @Bool.true)) ∧
  True)))))))))))))))))))))) (∃ (x_1 : @Int), (True ∧
  (((x_1 = (((@ByteArray.size (@Mem.value (@SG.g x ((0 : @Nat) + s)))) : Nat) : @Int)) ∧
  True) ∧
  (True ∧
  (∀ (y : Unit), (True → ((((AV.agg [(AV.lit (Value.int @IntKind.i64 (@Cst.s0 (@groupTo (@SG.s x) (@SG.g x) s)))), (AV.lit (Value.int @IntKind.i64 (@Cst.s1 (@groupTo (@SG.s x) (@SG.g x) s)))), (AV.lit (Value.int @IntKind.i64 (@Cst.s2 (@groupTo (@SG.s x) (@SG.g x) s)))), (AV.lit (Value.int @IntKind.i64 (@Cst.s3 (@groupTo (@SG.s x) (@SG.g x) s)))), (AV.lit (Value.int @IntKind.i64 (@Cst.s4 (@groupTo (@SG.s x) (@SG.g x) s)))), (AV.lit (Value.int @IntKind.i64 (@Cst.s5 (@groupTo (@SG.s x) (@SG.g x) s))))]) = (AV.agg [(AV.lit (Value.int @IntKind.i64 (@Cst.s0 (@groupTo (@SG.s x) (@SG.g x) s)))), (AV.lit (Value.int @IntKind.i64 (@Cst.s1 (@groupTo (@SG.s x) (@SG.g x) s)))), (AV.lit (Value.int @IntKind.i64 (@Cst.s2 (@groupTo (@SG.s x) (@SG.g x) s)))), (AV.lit (Value.int @IntKind.i64 (@Cst.s3 (@groupTo (@SG.s x) (@SG.g x) s)))), (AV.lit (Value.int @IntKind.i64 (@Cst.s4 (@groupTo (@SG.s x) (@SG.g x) s)))), (AV.lit (Value.int @IntKind.i64 (@Cst.s5 (@groupTo (@SG.s x) (@SG.g x) s))))])) ∧
  True) ∧
  (True ∧
  (((@List.length @Cst [(@Cst.mk (@Cst.s0 (@groupTo (@SG.s x) (@SG.g x) s)) (@Cst.s1 (@groupTo (@SG.s x) (@SG.g x) s)) (@Cst.s2 (@groupTo (@SG.s x) (@SG.g x) s)) (@Cst.s3 (@groupTo (@SG.s x) (@SG.g x) s)) (@Cst.s4 (@groupTo (@SG.s x) (@SG.g x) s)) (@Cst.s5 (@groupTo (@SG.s x) (@SG.g x) s))), (@Cst.mk (1 : @Int) (0 : @Int) (0 : @Int) (0 : @Int) (0 : @Int) (0 : @Int)), (@Cst.mk ((@linesM x_1) + (1 : @Int)) ((@linesM x_1) + (1 : @Int)) (0 : @Int) (0 : @Int) (@linesM x_1) (0 : @Int))]) < (4611686018427387904 : @Nat)) ∧
  (True ∧
  (True ∧
  ((@I64 (((s : Nat) : @Int) + (1 : @Int))) ∧
  (∃ (s_1 : @Nat), ((s_1 ≤ (@SG.n x)) ∧
  ((((@SG.n x) - s_1) < ((@SG.n x) - s)) ∧
  (((((s_1 : Nat) : @Int) = (((s : Nat) : @Int) + (1 : @Int))) ∧
  True) ∧
  ((((@Cst.s0 (@groupTo (@SG.s x) (@SG.g x) s_1)) = (@Cst.heldM (@Cst.heldM (@Cst.heldM (0 : @Int) (@Cst.s0 (@groupTo (@SG.s x) (@SG.g x) s))) (1 : @Int)) ((@linesM x_1) + (1 : @Int)))) ∧
  (((@Cst.s1 (@groupTo (@SG.s x) (@SG.g x) s_1)) = (@Cst.heldM (@Cst.heldM (@Cst.heldM (0 : @Int) (@Cst.s1 (@groupTo (@SG.s x) (@SG.g x) s))) (0 : @Int)) ((@linesM x_1) + (1 : @Int)))) ∧
  (((@Cst.s2 (@groupTo (@SG.s x) (@SG.g x) s_1)) = (@Cst.heldM (@Cst.heldM (@Cst.heldM (0 : @Int) (@Cst.s2 (@groupTo (@SG.s x) (@SG.g x) s))) (0 : @Int)) (0 : @Int))) ∧
  (((@Cst.s3 (@groupTo (@SG.s x) (@SG.g x) s_1)) = (@Cst.heldM (@Cst.heldM (@Cst.heldM (0 : @Int) (@Cst.s3 (@groupTo (@SG.s x) (@SG.g x) s))) (0 : @Int)) (0 : @Int))) ∧
  (((@Cst.s4 (@groupTo (@SG.s x) (@SG.g x) s_1)) = (@Cst.heldM (@Cst.heldM (@Cst.heldM (0 : @Int) (@Cst.s4 (@groupTo (@SG.s x) (@SG.g x) s))) (0 : @Int)) (@linesM x_1))) ∧
  (((@Cst.s5 (@groupTo (@SG.s x) (@SG.g x) s_1)) = (@Cst.heldM (@Cst.heldM (@Cst.heldM (0 : @Int) (@Cst.s5 (@groupTo (@SG.s x) (@SG.g x) s))) (0 : @Int)) (0 : @Int))) ∧
  True)))))) ∧
  ((((0 : @Int) = (0 : @Int)) ∧
  (((0 : @Int) = (0 : @Int)) ∧
  (((0 : @Int) = (0 : @Int)) ∧
  (((0 : @Int) = (0 : @Int)) ∧
  (((0 : @Int) = (0 : @Int)) ∧
  (((0 : @Int) = (0 : @Int)) ∧
  True)))))) ∧
  (((((0 : @Nat) = (0 : @Nat)) ∧
  ((@Shf.n (@SG.s x)) = (@Shf.n (@SG.s x)))) ∧
  ((((0 : @Nat) = (0 : @Nat)) ∧
  ((@Shf.m (@SG.s x)) = (@Shf.m (@SG.s x)))) ∧
  True)) ∧
  ((((@Cs.row (5 : @Nat) (@SG.n x) (fun (k : @Nat) => (@Mem.cells (@SG.g x k))) (@List.nil (@Prod @Nat (@List @Value)))) = (@Cs.row (5 : @Nat) (@SG.n x) (fun (k : @Nat) => (@Mem.cells (@SG.g x k))) (@List.nil (@Prod @Nat (@List @Value))))) ∧
  (@Bool.true = @Bool.true)) ∧
  ((((@rowQ (@SG.s x)) = (@rowQ (@SG.s x))) ∧
  (@Bool.true = @Bool.true)) ∧
  ((((@rowP (@SG.s x)) = (@rowP (@SG.s x))) ∧
  (@Bool.true = @Bool.true)) ∧
  True)))))))))))))))))))))))))) (∃ (y : Unit), (True ∧
  ((((@Cst.s0 (@groupTo (@SG.s x) (@SG.g x) (@SG.n x))) = (@Cst.s0 (@groupTo (@SG.s x) (@SG.g x) s))) ∧
  (((@Cst.s1 (@groupTo (@SG.s x) (@SG.g x) (@SG.n x))) = (@Cst.s1 (@groupTo (@SG.s x) (@SG.g x) s))) ∧
  (((@Cst.s2 (@groupTo (@SG.s x) (@SG.g x) (@SG.n x))) = (@Cst.s2 (@groupTo (@SG.s x) (@SG.g x) s))) ∧
  (((@Cst.s3 (@groupTo (@SG.s x) (@SG.g x) (@SG.n x))) = (@Cst.s3 (@groupTo (@SG.s x) (@SG.g x) s))) ∧
  (((@Cst.s4 (@groupTo (@SG.s x) (@SG.g x) (@SG.n x))) = (@Cst.s4 (@groupTo (@SG.s x) (@SG.g x) s))) ∧
  (((@Cst.s5 (@groupTo (@SG.s x) (@SG.g x) (@SG.n x))) = (@Cst.s5 (@groupTo (@SG.s x) (@SG.g x) s))) ∧
  True)))))) ∧
  ((((@rowP (@SG.s x)) = (@rowP (@SG.s x))) ∧
  (@Bool.true = @Bool.true)) ∧
  ((((@rowQ (@SG.s x)) = (@rowQ (@SG.s x))) ∧
  (@Bool.true = @Bool.true)) ∧
  ((((@Cs.row (5 : @Nat) (@SG.n x) (fun (k : @Nat) => (@Mem.cells (@SG.g x k))) (@List.nil (@Prod @Nat (@List @Value)))) = (@Cs.row (5 : @Nat) (@SG.n x) (fun (k : @Nat) => (@Mem.cells (@SG.g x k))) (@List.nil (@Prod @Nat (@List @Value))))) ∧
  (@Bool.true = @Bool.true)) ∧
  True))))))))) ∧
  True))
theorem groupVC_ok (x : SG) : groupVC x = groupVC_wp x := by kernel_rfl
end Go.Proofs.Ytjndgegfonhhfaa
end
section
/- Costs of calls: what is asked is so. -/
namespace Go.Proofs.Ytjndgegfonhhfaa
open Go SE
theorem linesM_le (n : Int) : 0 ≤ linesM n ∧ linesM n ≤ 8 := by
  unfold linesM
  rcases needM_cases n with h | h | h | h | h | h
  · rw [h.2]; decide
  · rw [h.2.2]; decide
  · rw [h.2.2]; decide
  · rw [h.2.2]; decide
  · rw [h.2.2]; decide
  · rw [h.2]; decide
theorem held_small {a b : Int} (h1 : 0 ≤ a) (h2 : 0 ≤ b) (h3 : a + b ≤ 1099511627776) : Cst.heldM a b = a + b := by unfold Cst.heldM Cst.maxCost imin imax; grind
theorem held0 {b : Int} (h1 : 0 ≤ b) (h2 : b ≤ 1099511627776) : Cst.heldM 0 b = b := by unfold Cst.heldM Cst.maxCost imin imax; grind
theorem held_assoc {a b c : Int} (h : Cst.okI a) (hb : 0 ≤ b) (hc : 0 ≤ c) : Cst.heldM (Cst.heldM a b) c = Cst.heldM a (b + c) := by unfold Cst.okI Cst.heldM Cst.maxCost imin imax at *; grind
theorem findM_le (s : Shf) (key : BA) (h : s.n ≤ 40) : 1 ≤ findM s key ∧ findM s key ≤ 41 := by
  have := cntM_le (nearM s key) s.n
  unfold findM; omega
theorem writeVC_true (n : Int) : writeVC n := by
  unfold writeVC
  simp only [hd_iff, and_true, true_and, Nat.zero_add, Nat.add_zero, unit_ex, unit_all, true_implies, implies_true, Int.toNat_natCast, eq_self, and_self]
  have := linesM_le n
  have e : spanM (needM n) = linesM n := rfl
  refine ⟨n, rfl, needM n, rfl, ?_⟩
  rw [e]
  have i : I64 (linesM n + 1) := by unfold I64; omega
  exact ⟨i, i, rfl, rfl, rfl⟩
theorem rwriteVC_true (n : Int) : rwriteVC n := by
  unfold rwriteVC
  simp only [hd_iff, and_true, true_and, Nat.zero_add, Nat.add_zero, unit_ex, unit_all, true_implies, implies_true, Int.toNat_natCast, eq_self, and_self]
  have := linesM_le n
  have e : spanM (needM n) = linesM n := rfl
  have i : I64 (spanM (needM n) + 1) := by rw [e]; unfold I64; omega
  exact ⟨n, rfl, needM n, rfl, i, n, rfl, needM n, rfl, i, n, rfl, needM n, rfl, rfl, rfl, rfl⟩
theorem putVC_true (x : SP) (hx : x.ok) : putVC x := by
  unfold putVC
  simp only [hd_iff, and_true, true_and, Nat.zero_add, Nat.add_zero, unit_ex, unit_all, true_implies, implies_true, Int.toNat_natCast, eq_self, and_self]
  have hl := linesM_le (x.key.size + x.value.size : Nat)
  have hf := findM_le x.s x.key hx.1.1
  have hk : SK.ok ⟨x.s, x.key⟩ := ⟨hx.1, hx.2.1⟩
  have e1 : Cst.heldM (Cst.heldM 0 (linesM (x.key.size + x.value.size : Nat) + 1)) (findM x.s x.key) = linesM (x.key.size + x.value.size : Nat) + 1 + findM x.s x.key := by
    rw [held0 (by omega) (by omega), held_small (by omega) (by omega) (by omega)]; try omega
  have e3 : Cst.heldM (Cst.heldM 0 (linesM (x.key.size + x.value.size : Nat) + 1)) 0 = linesM (x.key.size + x.value.size : Nat) + 1 := by
    rw [held0 (by omega) (by omega), held_small (by omega) (by omega) (by omega)]; try omega
  have e4 : Cst.heldM (Cst.heldM 0 (linesM (x.key.size + x.value.size : Nat))) 0 = linesM (x.key.size + x.value.size : Nat) := by
    rw [held0 (by omega) (by omega), held_small (by omega) (by omega) (by omega)]; try omega
  refine ⟨by have := hx.2.1; have := hx.2.2.1; unfold I64; omega, ((x.key.size + x.value.size : Nat) : Int), by omega, ⟨x.s, x.key⟩, hk, ⟨⟨rfl, rfl⟩, rfl⟩, ⟨⟨rfl, fun _ _ => rfl⟩, rfl, fun _ _ => rfl⟩, by simp, ⟨x.s, x.key⟩, hk, ⟨⟨rfl, rfl⟩, rfl⟩, ⟨⟨rfl, fun _ _ => rfl⟩, rfl, fun _ _ => rfl⟩, ?_⟩
  dsimp only
  rw [e1, e3, e4]
  refine cP_intro (fun h => ⟨by omega, rfl, rfl, by rw [h]; rfl⟩) (fun h => ⟨by omega, rfl, rfl, by rw [h]; rfl⟩)
theorem part3 (s : Shf) (key v : BA) (e : Int) : partM s 3 key v e = bif hadM s key then ⟨2 + e + findM s key, 2, 0, 0, 1, 1⟩ else ⟨findM s key, 0, 0, 0, 0, 0⟩ := rfl
theorem delVC_true (x : SK) (hx : x.ok) : delVC x := by
  unfold delVC
  simp only [hd_iff, and_true, true_and, Nat.zero_add, Nat.add_zero, unit_ex, unit_all, true_implies, implies_true, Int.toNat_natCast, eq_self, and_self]
  have hf := findM_le x.s x.key hx.n
  refine ⟨x, hx, ⟨⟨rfl, rfl⟩, rfl⟩, ⟨⟨rfl, fun _ _ => rfl⟩, rfl, fun _ _ => rfl⟩, x, hx, ⟨⟨rfl, rfl⟩, rfl⟩, ⟨⟨rfl, fun _ _ => rfl⟩, rfl, fun _ _ => rfl⟩, ?_⟩
  rw [part3]
  have e1 : Cst.heldM (Cst.heldM 0 (findM x.s x.key)) 2 = 2 + 0 + findM x.s x.key := by
    rw [held0 (by omega) (by omega), held_small (by omega) (by omega) (by omega)]; try omega
  refine cP_intro (fun h => ?_) (fun h => ?_)
  · rw [h]; simp [e1]
  · rw [h]; simp
theorem partVC_true (x : SP) (hx : x.ok) : partVC x := by
  unfold partVC
  simp only [hd_iff, and_true, true_and, Nat.zero_add, Nat.add_zero, unit_ex, unit_all, true_implies, implies_true, Int.toNat_natCast, eq_self, and_self, SP.pt]
  have hf := findM_le x.s x.key hx.1.1
  have hk : SK.ok ⟨x.s, x.key⟩ := ⟨hx.1, hx.2.1⟩
  have he := hx.2.2.2
  have hl := linesM_le (x.key.size + x.value.size : Nat)
  have hv := linesM_le (x.value.size : Nat)
  refine ⟨⟨x.s, x.key⟩, hk, ⟨⟨rfl, rfl⟩, rfl⟩, ⟨⟨rfl, fun _ _ => rfl⟩, rfl, fun _ _ => rfl⟩, cP_intro (fun h2 => ?_) (fun h2 => cP_intro (fun h3 => ?_) (fun h3 => cP_intro (fun h4 => ?_) (fun h4 => ?_)))⟩
  · have h2 : x.kind = 2 := by simpa using h2
    refine ⟨by have := hx.2.1; have := hx.2.2.1; unfold I64; omega, ((x.key.size + x.value.size : Nat) : Int), by omega, ⟨x.s, x.key⟩, hk, ⟨⟨rfl, rfl⟩, rfl⟩, ⟨⟨rfl, fun _ _ => rfl⟩, rfl, fun _ _ => rfl⟩, by unfold I64; dsimp only; omega, by unfold I64; dsimp only; omega, ?_⟩
    have ep : partM x.s x.kind x.key x.value x.e = ⟨linesM (x.key.size + x.value.size : Nat) + 1 + findM x.s x.key + x.e, linesM (x.key.size + x.value.size : Nat) + 1, 0, 0, linesM (x.key.size + x.value.size : Nat), b2i (hadM x.s x.key)⟩ := by rw [h2]; rfl
    rw [ep]
    refine cP_intro (fun h => ⟨rfl, rfl, rfl, rfl, rfl, by dsimp only at h ⊢; rw [h]; rfl⟩) (fun h => ⟨rfl, rfl, rfl, rfl, rfl, by dsimp only at h ⊢; rw [h]; rfl⟩)
  · have h3 : x.kind = 3 := by simpa using h3
    rw [h3, part3]
    refine cP_intro (fun h => ?_) (fun h => ?_)
    · dsimp only at h
      rw [h]
      exact ⟨by unfold I64; omega, ⟨x.s, x.key⟩, hk, ⟨⟨rfl, rfl⟩, rfl⟩, ⟨⟨rfl, fun _ _ => rfl⟩, rfl, fun _ _ => rfl⟩, by unfold I64; dsimp only; omega, rfl, rfl, rfl, rfl, rfl, rfl⟩
    · dsimp only at h
      rw [h]
      exact ⟨⟨x.s, x.key⟩, hk, ⟨⟨rfl, rfl⟩, rfl⟩, ⟨⟨rfl, fun _ _ => rfl⟩, rfl, fun _ _ => rfl⟩, by unfold I64; dsimp only; omega, (Int.zero_add _).symm, rfl, rfl, rfl, rfl, rfl⟩
  · have h4 : x.kind = 4 := by simpa using h4
    rw [h4]
    exact ⟨_, rfl, by unfold I64; omega, rfl, rfl, rfl, rfl, rfl, rfl⟩
  · have h2 : x.kind ≠ 2 := by simpa using h2
    have h3 : x.kind ≠ 3 := by simpa using h3
    have h4 : x.kind ≠ 4 := by simpa using h4
    have : partM x.s x.kind x.key x.value x.e = Cst.zero := by simp [partM, h2, h3, h4]
    rw [this]
    exact ⟨rfl, rfl, rfl, rfl, rfl, rfl⟩
theorem groupTo_ok (s : Shf) (g : Nat → Mem) : ∀ n, (groupTo s g n).ok
  | 0 => by unfold groupTo Cst.ok Cst.okI Cst.maxCost; simp
  | n + 1 => Cst.add_ok (groupTo_ok s g n)
theorem part4 (s : Shf) (key v : BA) (e : Int) : partM s 4 key v e = ⟨linesM (v.size : Nat) + 1 + 1, linesM (v.size : Nat) + 1, 0, 0, linesM (v.size : Nat), 0⟩ := rfl
theorem part2 (s : Shf) (key v : BA) (e : Int) : partM s 2 key v e = ⟨linesM (key.size + v.size : Nat) + 1 + findM s key + e, linesM (key.size + v.size : Nat) + 1, 0, 0, linesM (key.size + v.size : Nat), b2i (hadM s key)⟩ := rfl
theorem groupVC_true (x : SG) (hx : x.ok) : groupVC x := by
  unfold groupVC
  simp only [hd_iff, and_true, true_and, Nat.zero_add, Nat.add_zero, unit_ex, unit_all, true_implies, implies_true, Int.toNat_natCast, eq_self, and_self]
  obtain ⟨hs, hn, hg⟩ := hx
  refine ⟨⟨0, by omega, rfl, rfl, rfl, rfl, rfl, rfl, rfl⟩, fun i hi => cP_intro (fun hb => ?_) (fun hb => ?_)⟩
  · have hb := of_decide_eq_true hb
    have hl : i < x.n := by omega
    obtain ⟨hm, hk⟩ := hg i hl
    obtain ⟨k0, k1, k2, k3, k4, k5⟩ := groupTo_ok x.s x.g i
    have z : ∀ {a : Int}, Cst.okI a → Cst.heldM 0 a = a := fun h => held0 h.1 h.2
    have hadd : groupTo x.s x.g (i + 1) = Cst.add (groupTo x.s x.g i) (partM x.s (x.g i).kind (x.g i).key (x.g i).value 0) := rfl
    simp only [z k0, z k1, z k2, z k3, z k4, z k5]
    refine ⟨⟨by omega, hb⟩, hl, cP_intro (fun h2 => ?_) (fun h2 => cP_intro (fun h3 => ?_) (fun h3 => ?_))⟩
    · have h2 : (x.g i).kind = 2 := by simpa using h2
      rw [h2, part2] at hadd
      exact ⟨⟨x.s, (x.g i).kind, (x.g i).key, (x.g i).value, (x.g i).to, 0⟩, ⟨hs, hm.1, hm.2.1, .inl rfl⟩, ⟨⟨rfl, rfl⟩, rfl, rfl, rfl, rfl⟩, ⟨⟨rfl, fun _ _ => rfl⟩, rfl, fun _ _ => rfl⟩, by simp, by unfold I64; omega, i + 1, by omega, by omega, rfl, by rw [hadd]; rfl, by rw [hadd]; rfl, by rw [hadd]; rfl, by rw [hadd]; rfl, by rw [hadd]; rfl, by rw [hadd]; rfl⟩
    · have h3 : (x.g i).kind = 3 := by simpa using h3
      rw [h3] at hadd
      have e : partM x.s 3 (x.g i).key (x.g i).value 0 = partM x.s 3 (x.g i).key (x.g i).key 0 := rfl
      rw [e] at hadd
      exact ⟨⟨x.s, (x.g i).key⟩, ⟨hs, hm.1⟩, ⟨⟨rfl, rfl⟩, rfl⟩, ⟨⟨rfl, fun _ _ => rfl⟩, rfl, fun _ _ => rfl⟩, by simp, by unfold I64; omega, i + 1, by omega, by omega, rfl, by rw [hadd]; rfl, by rw [hadd]; rfl, by rw [hadd]; rfl, by rw [hadd]; rfl, by rw [hadd]; rfl, by rw [hadd]; rfl⟩
    · have h2 : (x.g i).kind ≠ 2 := by simpa using h2
      have h3 : (x.g i).kind ≠ 3 := by simpa using h3
      have h4 : (x.g i).kind = 4 := by
        simp only [groupedM, Bool.or_eq_true, decide_eq_true_eq] at hk
        omega
      rw [h4, part4] at hadd
      have hL := linesM_le ((x.g i).value.size : Nat)
      exact ⟨_, rfl, by simp, by unfold I64; omega, i + 1, by omega, by omega, rfl, by rw [hadd, held_assoc k0 (by omega) (by omega)]; simp only [Cst.add]; congr 1; omega, by rw [hadd, held_assoc k1 (by omega) (by omega)]; simp only [Cst.add]; congr 1; omega, by rw [hadd, held_assoc k2 (by omega) (by omega)]; rfl, by rw [hadd, held_assoc k3 (by omega) (by omega)]; rfl, by rw [hadd, held_assoc k4 (by omega) (by omega)]; simp only [Cst.add]; congr 1; omega, by rw [hadd, held_assoc k5 (by omega) (by omega)]; rfl⟩
  · have : i = x.n := by have := of_decide_eq_false hb; omega
    subst this
    exact ⟨rfl, rfl, rfl, rfl, rfl, rfl⟩
theorem write_ok : CtrOk Try.prog 40 writeC := det_end tt_ok mixed tblN_ok (fun _ => noAn) 200 5 (fun _ => rfl) (fun _ => rfl) fun x _ => Eq.mp (writeVC_ok x) (writeVC_true x)
theorem rwrite_ok : CtrOk Try.prog 77 writeC := det_end tt_ok mixed tblN_ok (fun _ => noAn) 200 5 (fun _ => rfl) (fun _ => rfl) fun x _ => Eq.mp (rwriteVC_ok x) (rwriteVC_true x)
theorem tblW_ok : TblOk Try.prog tblW := .cons (ctrT_ok write_ok) (.cons (ctrT_ok rwrite_ok) (.cons (ctrT_ok find_ok) (.cons (ctrT_ok rfind_ok) (.cons (ctrT_ok get_ok) (.cons (ctrT_ok rget_ok) (.cons (sumT_of sum_sp) .nil))))))
theorem put_ok : CtrOk Try.prog 38 putC := det_end tt_ok mixed tblW_ok (fun _ => noAn) 200 5 (fun _ => rfl) (fun _ => rfl) fun x hx => Eq.mp (putVC_ok x) (putVC_true x (hd_iff.1 hx))
theorem del_ok : CtrOk Try.prog 39 delC := det_end tt_ok mixed tblW_ok (fun _ => noAn) 200 5 (fun _ => rfl) (fun _ => rfl) fun x hx => Eq.mp (delVC_ok x) (delVC_true x (hd_iff.1 hx))
theorem part_ok : CtrOk Try.prog 48 partC := det_end tt_ok mixed tblW_ok (fun _ => noAn) 200 5 (fun _ => rfl) (fun _ => rfl) fun x hx => Eq.mp (partVC_ok x) (partVC_true x (hd_iff.1 hx))
theorem group_ok : CtrOk Try.prog 42 groupC := det_end tt_ok mixed (.cons (ctrT_ok put_ok) (.cons (ctrT_ok del_ok) tblW_ok)) anGroup 200 5 (fun _ => rfl) (fun _ => rfl) fun x hx => Eq.mp (groupVC_ok x) (groupVC_true x (hd_iff.1 hx))
end Go.Proofs.Ytjndgegfonhhfaa
end
section
/- Ranges of a store: contracts. -/
namespace Go.Proofs.Ytjndgegfonhhfaa
open Go SE
noncomputable section
theorem isExt_cmp : IsExt Try.prog 129 Extern.BytealgCompare.compare := ⟨Try.f129, by kernel_rfl, by kernel_rfl, by kernel_rfl, by kernel_rfl, by kernel_rfl⟩
def tblX : WTbl := [(129, cmpX)]
theorem tblX_ok : TblOk Try.prog tblX := .consX (cmpX_ok isExt_cmp) .nil
/-- A list of pairs, a list of texts: that may be none. -/
structure ZP where
  z : Bool
  n : Nat
  pk : Nat → BA
  pv : Nat → BA
def ZP.row (x : ZP) : Cs := .row 2 x.n (fun k => [.string (x.pk k), .string (x.pv k)]) []
structure ZQ where
  z : Bool
  n : Nat
  qv : Nat → BA
def ZQ.row (x : ZQ) : Cs := .row 1 x.n (fun k => [.string (x.qv k)]) []
def nilS : AV := .lit (.slice none 0 0)
def clonePC : Ctr := { X := ZP, args := fun x => [.slZ x.z 0 0 2 x.n], k := 1, os := fun x => [.ro x.row], pre := fun x => x.n < 1099511627776, outs := [{ Y := Unit, post := fun x _ => x.z = true, ret := fun _ _ => nilS, m := 1, os := fun x _ => [.ro x.row] }, { Y := Unit, post := fun x _ => x.z = false, ret := fun x _ => .slW 1 0 2 x.n, m := 2, os := fun x _ => [.ro x.row, .room 73 x.row] }] }
def cloneQC : Ctr := { X := ZQ, args := fun x => [.slZ x.z 0 0 1 x.n], k := 1, os := fun x => [.ro x.row], pre := fun x => x.n < 1099511627776, outs := [{ Y := Unit, post := fun x _ => x.z = true, ret := fun _ _ => nilS, m := 1, os := fun x _ => [.ro x.row] }, { Y := Unit, post := fun x _ => x.z = false, ret := fun x _ => .slW 1 0 1 x.n, m := 2, os := fun x _ => [.ro x.row, .room 9 x.row] }] }
def copiedC : Ctr := { X := Shf, args := fun s => [s.avZ 0 1], k := 2, os := Shf.os, pre := fun s => Hd s.small, outs := [
  { Y := Unit, post := fun s _ => s.zp = true ∧ s.zq = true, ret := fun _ _ => .agg [nilS, nilS], m := 2, os := fun s _ => s.os },
  { Y := Unit, post := fun s _ => s.zp = true ∧ s.zq = false, ret := fun s _ => .agg [nilS, .slW 2 0 1 s.m], m := 3, os := fun s _ => s.os ++ [.room 9 (rowQ s)] },
  { Y := Unit, post := fun s _ => s.zp = false ∧ s.zq = true, ret := fun s _ => .agg [.slW 2 0 2 s.n, nilS], m := 3, os := fun s _ => s.os ++ [.room 73 (rowP s)] },
  { Y := Unit, post := fun s _ => s.zp = false ∧ s.zq = false, ret := fun s _ => .agg [.slW 2 0 2 s.n, .slW 3 0 1 s.m], m := 4, os := fun s _ => s.os ++ [.room 73 (rowP s), .room 9 (rowQ s)] }] }
structure SC where
  s : Shf
  c : Cll
def SC.ok (x : SC) : Prop := x.s.small ∧ x.s.wf ∧ x.c.small
def SC.os (x : SC) : List AObj := [.ro (rowP x.s), .ro (rowQ x.s), .ro (rowG x.c)]
/-- The pairs of a range, among the first i. -/
def selL (s : Shf) (key to : BA) : Nat → List Nat
  | 0 => []
  | i + 1 => bif inM s key to i then selL s key to i ++ [i] else selL s key to i
def selRow (s : Shf) (L : List Nat) : Cs := .row 2 L.length (fun k => [.string (s.pk (L.getD k 0)), .string (s.pv (L.getD k 0))]) []
def es : BA := ByteArray.mk #[]
def ansV (code : Int) (found : Bool) (v : BA) (pairs hits : AV) : AV := .agg [i64 code, boo found, str v, pairs, hits, .lit (.int .u64 0)]
def zAns : AV := ansV 0 false es nilS nilS
def ansL (pairs : AV) : List AV := [i64 0, boo false, str es, pairs, nilS, .lit (.int .u64 0)]
structure SK2 where
  s : Shf
  key : BA
  to : BA
def SK2.ok (x : SK2) : Prop := x.s.small ∧ x.key.size ≤ 1500 ∧ x.to.size ≤ 1500
def SK2.sel (x : SK2) : List Nat := selL x.s x.key x.to x.s.n
def scanArgs (x : SK2) (v : BA) : List AV := [.ptr 0 0, .agg [i64 6, str x.key, str v, str x.to, .any], .ptr 1 0]
/-- Of none. -/
def scanNC : Ctr := det (SK2 × BA) (fun x => scanArgs x.1 x.2) 2 (fun _ => [.ro (.av [nilS, .any]), .cells 45 (.av (ansL nilS))]) (fun _ => True) (fun _ => .tup []) 2 (fun _ => [.ro (.av [nilS, .any]), .cells 45 (.av (ansL nilS))])
def scanC : Ctr := { X := SK2 × BA, args := fun x => scanArgs x.1 x.2, k := 3, os := fun x => [.ro (.av [.slR 2 0 2 x.1.s.n, .any]), .cells 45 (.av (ansL nilS)), .ro (rowP x.1.s)], pre := fun x => Hd x.1.ok, outs := [
  { Y := Unit, post := fun x _ => Hd (x.1.sel = []), ret := fun _ _ => .tup [], m := 3, os := fun x _ => [.ro (.av [.slR 2 0 2 x.1.s.n, .any]), .cells 45 (.av (ansL nilS)), .ro (rowP x.1.s)] },
  { Y := Unit, post := fun _ _ => True, ret := fun _ _ => .tup [], m := 4, os := fun x _ => [.ro (.av [.slR 2 0 2 x.1.s.n, .any]), .cells 45 (.av (ansL (.slW 3 0 2 x.1.sel.length))), .ro (rowP x.1.s), .room 73 (selRow x.1.s x.1.sel)] }] }
def applyScanC : Ctr := { X := SC, args := fun x => [x.s.avZ 0 1, .agg [i64 6, str x.c.key, str x.c.value, str x.c.to, .slR 2 0 5 x.c.gn]], k := 3, os := SC.os, pre := fun x => Hd (x.ok ∧ x.c.kind = 6 ∧ goodM x.c = 0), outs := [
  { Y := Unit, post := fun x _ => Hd (selL x.s x.c.key x.c.to x.s.n = []), ret := fun x _ => .tup [.agg [.one, .one], zAns], m := 3, os := fun x _ => x.os },
  { Y := Unit, post := fun x _ => True, ret := fun x _ => .tup [.agg [.one, .one], ansV 0 false es (.slW 3 0 2 (selL x.s x.c.key x.c.to x.s.n).length) nilS], m := 4, os := fun x _ => x.os ++ [.room 73 (selRow x.s (selL x.s x.c.key x.c.to x.s.n))] }] }
def idAt (fr : Fr) (t : Nat) : Nat := match SE.look fr t with
  | AV.ptr i _ => i
  | _ => 0
def anScan (x : SK2) : FuncId → Anns := fun f => bif Nat.beq f 93 then (fun b fr h => bif Nat.beq b 0 then
  [{ σ := Nat, fr := fun i => [(13, i64 i)], ob := fun _ => [(1, some (.cells 45 (.av (ansL nilS))))], inv := fun i => i ≤ x.s.n ∧ Hd (selL x.s x.key x.to i = []), meas := fun i => x.s.n - i },
   { σ := Nat, fr := fun i => [(13, i64 i)], ob := fun i => [(1, some (.cells 45 (.av (ansL (.slW h.next 0 2 (selL x.s x.key x.to i).length))))), (h.next, some (.room 73 (selRow x.s (selL x.s x.key x.to i))))], inv := fun i => i ≤ x.s.n, meas := fun i => x.s.n - i, nx := 1 }] else []) else fun _ _ _ => []
def orElseT (A B : WTr) : WTr := fun args h K => A args h K ∨ B args h K
theorem orElseT_ok {P : Program} {f : FuncId} {A B : WTr} (hA : ∀ args h K, A args h K → Sp P f args h K) (hB : ∀ args h K, B args h K → Sp P f args h K) (args : List AV) (h : Heap) (K : AV → Heap → Prop) (hq : orElseT A B args h K) : Sp P f args h K := hq.elim (hA _ _ _) (hB _ _ _)
end
end Go.Proofs.Ytjndgegfonhhfaa
end
