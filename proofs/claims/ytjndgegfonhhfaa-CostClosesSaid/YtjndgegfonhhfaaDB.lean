/- What is asked of a closing, and of numbers that are lent. -/
import Derived.Test.YtjndgegfonhhfaaDA
import Derived.KernelRfl
namespace Go.Proofs.Ytjndgegfonhhfaa
open Go SE
def closeVC_wp (x : Nts) : Prop := wpF Try.prog [] tt (anClose x) 200 5 23 (closeC.args x) (hO closeC.k (closeC.os x)) (fun v h' => endsP closeC.k x v h' closeC.outs)
def closeVC (x : Nts) : Prop :=
  ((∃ (s : @Nat), ((s ≤ (@Go.Proofs.Ytjndgegfonhhfaa.Nts.n x)) ∧
  (True ∧
  (((((s : Nat) : @Int) = (0 : @Int)) ∧
  (((((@Go.Proofs.Ytjndgegfonhhfaa.cntTo (@Go.Proofs.Ytjndgegfonhhfaa.Nts.g x) s (258 : @Nat)) : Nat) : @Int) = (0 : @Int)) ∧
  True)) ∧
  ((((258 : @Nat) = (258 : @Nat)) ∧
  (∀ (q : @Nat), ((q < (258 : @Nat)) → ([(Go.Value.bool (@Go.Proofs.Ytjndgegfonhhfaa.met (@Go.Proofs.Ytjndgegfonhhfaa.Nts.g x) s q))] = [(Go.Value.bool @Bool.false)])))) ∧
  ((((0 : @Int) = (0 : @Int)) ∧
  (((0 : @Int) = (0 : @Int)) ∧
  (((0 : @Int) = (0 : @Int)) ∧
  (((0 : @Int) = (0 : @Int)) ∧
  (((0 : @Int) = (0 : @Int)) ∧
  (((0 : @Int) = (0 : @Int)) ∧
  True)))))) ∧
  ((((@Go.Proofs.Ytjndgegfonhhfaa.SE.Cs.row (1 : @Nat) (@Go.Proofs.Ytjndgegfonhhfaa.Nts.N x) (fun (k : @Nat) => [(Go.Value.int @Go.IntKind.i64 (@Go.Proofs.Ytjndgegfonhhfaa.Nts.g x k))]) (@List.nil (@Prod @Nat (@List @Go.Value)))) = (@Go.Proofs.Ytjndgegfonhhfaa.SE.Cs.row (1 : @Nat) (@Go.Proofs.Ytjndgegfonhhfaa.Nts.N x) (fun (k : @Nat) => [(Go.Value.int @Go.IntKind.i64 (@Go.Proofs.Ytjndgegfonhhfaa.Nts.g x k))]) (@List.nil (@Prod @Nat (@List @Go.Value))))) ∧
  (@Bool.true = @Bool.true)) ∧
  True))))))) ∧
  ((∀ (s : @Nat), ((s ≤ (@Go.Proofs.Ytjndgegfonhhfaa.Nts.n x)) → (Go.Proofs.Ytjndgegfonhhfaa.SE.cP (decide (((s : Nat) : @Int) < (((@Go.Proofs.Ytjndgegfonhhfaa.Nts.n x) : Nat) : @Int))) ((((0 : @Int) ≤ ((s : Nat) : @Int)) ∧
  (((s : Nat) : @Int) < (((@Go.Proofs.Ytjndgegfonhhfaa.Nts.n x) : Nat) : @Int))) ∧
  ((((0 : @Nat) + s) < (@Go.Proofs.Ytjndgegfonhhfaa.Nts.N x)) ∧
  (Go.Proofs.Ytjndgegfonhhfaa.SE.cP (decide (@GE.ge @Int @Int.instLEInt (@Go.Proofs.Ytjndgegfonhhfaa.Nts.g x ((0 : @Nat) + s)) (0 : @Int))) (Go.Proofs.Ytjndgegfonhhfaa.SE.cP (decide ((@Go.Proofs.Ytjndgegfonhhfaa.Nts.g x ((0 : @Nat) + s)) < (258 : @Int))) ((((0 : @Int) ≤ (@Go.Proofs.Ytjndgegfonhhfaa.Nts.g x ((0 : @Nat) + s))) ∧
  ((@Go.Proofs.Ytjndgegfonhhfaa.Nts.g x ((0 : @Nat) + s)) < (258 : @Int))) ∧
  (((Int.toNat (@Go.Proofs.Ytjndgegfonhhfaa.Nts.g x ((0 : @Nat) + s))) < (258 : @Nat)) ∧
  (Go.Proofs.Ytjndgegfonhhfaa.SE.cP (@Bool.not (@Go.Proofs.Ytjndgegfonhhfaa.met (@Go.Proofs.Ytjndgegfonhhfaa.Nts.g x) s (Int.toNat (@Go.Proofs.Ytjndgegfonhhfaa.Nts.g x ((0 : @Nat) + s))))) ((((0 : @Int) ≤ (@Go.Proofs.Ytjndgegfonhhfaa.Nts.g x ((0 : @Nat) + s))) ∧
  ((@Go.Proofs.Ytjndgegfonhhfaa.Nts.g x ((0 : @Nat) + s)) < (258 : @Int))) ∧
  (((Int.toNat (@Go.Proofs.Ytjndgegfonhhfaa.Nts.g x ((0 : @Nat) + s))) < (258 : @Nat)) ∧
  ((@Go.Proofs.Ytjndgegfonhhfaa.SE.I64 ((((@Go.Proofs.Ytjndgegfonhhfaa.cntTo (@Go.Proofs.Ytjndgegfonhhfaa.Nts.g x) s (258 : @Nat)) : Nat) : @Int) + (1 : @Int))) ∧
  ((@Go.Proofs.Ytjndgegfonhhfaa.SE.I64 (((s : Nat) : @Int) + (1 : @Int))) ∧
  (∃ (s_1 : @Nat), ((s_1 ≤ (@Go.Proofs.Ytjndgegfonhhfaa.Nts.n x)) ∧
  ((((@Go.Proofs.Ytjndgegfonhhfaa.Nts.n x) - s_1) < ((@Go.Proofs.Ytjndgegfonhhfaa.Nts.n x) - s)) ∧
  (((((s_1 : Nat) : @Int) = (((s : Nat) : @Int) + (1 : @Int))) ∧
  (((((@Go.Proofs.Ytjndgegfonhhfaa.cntTo (@Go.Proofs.Ytjndgegfonhhfaa.Nts.g x) s_1 (258 : @Nat)) : Nat) : @Int) = ((((@Go.Proofs.Ytjndgegfonhhfaa.cntTo (@Go.Proofs.Ytjndgegfonhhfaa.Nts.g x) s (258 : @Nat)) : Nat) : @Int) + (1 : @Int))) ∧
  True)) ∧
  ((((258 : @Nat) = (258 : @Nat)) ∧
  (∀ (q : @Nat), ((q < (258 : @Nat)) → ([(Go.Value.bool (@Go.Proofs.Ytjndgegfonhhfaa.met (@Go.Proofs.Ytjndgegfonhhfaa.Nts.g x) s_1 q))] = (@Go.Proofs.Ytjndgegfonhhfaa.SE.Cs.eff (fun (k : @Nat) => [(Go.Value.bool (@Go.Proofs.Ytjndgegfonhhfaa.met (@Go.Proofs.Ytjndgegfonhhfaa.Nts.g x) s k))]) [(@Prod.mk @Nat (@List @Go.Value) (Int.toNat (@Go.Proofs.Ytjndgegfonhhfaa.Nts.g x ((0 : @Nat) + s))) [(Go.Value.bool @Bool.true)])] q))))) ∧
  ((((0 : @Int) = (0 : @Int)) ∧
  (((0 : @Int) = (0 : @Int)) ∧
  (((0 : @Int) = (0 : @Int)) ∧
  (((0 : @Int) = (0 : @Int)) ∧
  (((0 : @Int) = (0 : @Int)) ∧
  (((0 : @Int) = (0 : @Int)) ∧
  True)))))) ∧
  ((((@Go.Proofs.Ytjndgegfonhhfaa.SE.Cs.row (1 : @Nat) (@Go.Proofs.Ytjndgegfonhhfaa.Nts.N x) (fun (k : @Nat) => [(Go.Value.int @Go.IntKind.i64 (@Go.Proofs.Ytjndgegfonhhfaa.Nts.g x k))]) (@List.nil (@Prod @Nat (@List @Go.Value)))) = (@Go.Proofs.Ytjndgegfonhhfaa.SE.Cs.row (1 : @Nat) (@Go.Proofs.Ytjndgegfonhhfaa.Nts.N x) (fun (k : @Nat) => [(Go.Value.int @Go.IntKind.i64 (@Go.Proofs.Ytjndgegfonhhfaa.Nts.g x k))]) (@List.nil (@Prod @Nat (@List @Go.Value))))) ∧
  (@Bool.true = @Bool.true)) ∧
  True))))))))))) ((@Go.Proofs.Ytjndgegfonhhfaa.SE.I64 (((s : Nat) : @Int) + (1 : @Int))) ∧
  (∃ (s_1 : @Nat), ((s_1 ≤ (@Go.Proofs.Ytjndgegfonhhfaa.Nts.n x)) ∧
  ((((@Go.Proofs.Ytjndgegfonhhfaa.Nts.n x) - s_1) < ((@Go.Proofs.Ytjndgegfonhhfaa.Nts.n x) - s)) ∧
  (((((s_1 : Nat) : @Int) = (((s : Nat) : @Int) + (1 : @Int))) ∧
  (((((@Go.Proofs.Ytjndgegfonhhfaa.cntTo (@Go.Proofs.Ytjndgegfonhhfaa.Nts.g x) s_1 (258 : @Nat)) : Nat) : @Int) = (((@Go.Proofs.Ytjndgegfonhhfaa.cntTo (@Go.Proofs.Ytjndgegfonhhfaa.Nts.g x) s (258 : @Nat)) : Nat) : @Int)) ∧
  True)) ∧
  ((((258 : @Nat) = (258 : @Nat)) ∧
  (∀ (q : @Nat), ((q < (258 : @Nat)) → ([(Go.Value.bool (@Go.Proofs.Ytjndgegfonhhfaa.met (@Go.Proofs.Ytjndgegfonhhfaa.Nts.g x) s_1 q))] = [(Go.Value.bool (@Go.Proofs.Ytjndgegfonhhfaa.met (@Go.Proofs.Ytjndgegfonhhfaa.Nts.g x) s q))])))) ∧
  ((((0 : @Int) = (0 : @Int)) ∧
  (((0 : @Int) = (0 : @Int)) ∧
  (((0 : @Int) = (0 : @Int)) ∧
  (((0 : @Int) = (0 : @Int)) ∧
  (((0 : @Int) = (0 : @Int)) ∧
  (((0 : @Int) = (0 : @Int)) ∧
  True)))))) ∧
  ((((@Go.Proofs.Ytjndgegfonhhfaa.SE.Cs.row (1 : @Nat) (@Go.Proofs.Ytjndgegfonhhfaa.Nts.N x) (fun (k : @Nat) => [(Go.Value.int @Go.IntKind.i64 (@Go.Proofs.Ytjndgegfonhhfaa.Nts.g x k))]) (@List.nil (@Prod @Nat (@List @Go.Value)))) = (@Go.Proofs.Ytjndgegfonhhfaa.SE.Cs.row (1 : @Nat) (@Go.Proofs.Ytjndgegfonhhfaa.Nts.N x) (fun (k : @Nat) => [(Go.Value.int @Go.IntKind.i64 (@Go.Proofs.Ytjndgegfonhhfaa.Nts.g x k))]) (@List.nil (@Prod @Nat (@List @Go.Value))))) ∧
  (@Bool.true = @Bool.true)) ∧
  True))))))))))) ((@Go.Proofs.Ytjndgegfonhhfaa.SE.I64 (((s : Nat) : @Int) + (1 : @Int))) ∧
  (∃ (s_1 : @Nat), ((s_1 ≤ (@Go.Proofs.Ytjndgegfonhhfaa.Nts.n x)) ∧
  ((((@Go.Proofs.Ytjndgegfonhhfaa.Nts.n x) - s_1) < ((@Go.Proofs.Ytjndgegfonhhfaa.Nts.n x) - s)) ∧
  (((((s_1 : Nat) : @Int) = (((s : Nat) : @Int) + (1 : @Int))) ∧
  (((((@Go.Proofs.Ytjndgegfonhhfaa.cntTo (@Go.Proofs.Ytjndgegfonhhfaa.Nts.g x) s_1 (258 : @Nat)) : Nat) : @Int) = (((@Go.Proofs.Ytjndgegfonhhfaa.cntTo (@Go.Proofs.Ytjndgegfonhhfaa.Nts.g x) s (258 : @Nat)) : Nat) : @Int)) ∧
  True)) ∧
  ((((258 : @Nat) = (258 : @Nat)) ∧
  (∀ (q : @Nat), ((q < (258 : @Nat)) → ([(Go.Value.bool (@Go.Proofs.Ytjndgegfonhhfaa.met (@Go.Proofs.Ytjndgegfonhhfaa.Nts.g x) s_1 q))] = [(Go.Value.bool (@Go.Proofs.Ytjndgegfonhhfaa.met (@Go.Proofs.Ytjndgegfonhhfaa.Nts.g x) s q))])))) ∧
  ((((0 : @Int) = (0 : @Int)) ∧
  (((0 : @Int) = (0 : @Int)) ∧
  (((0 : @Int) = (0 : @Int)) ∧
  (((0 : @Int) = (0 : @Int)) ∧
  (((0 : @Int) = (0 : @Int)) ∧
  (((0 : @Int) = (0 : @Int)) ∧
  True)))))) ∧
  ((((@Go.Proofs.Ytjndgegfonhhfaa.SE.Cs.row (1 : @Nat) (@Go.Proofs.Ytjndgegfonhhfaa.Nts.N x) (fun (k : @Nat) => [(Go.Value.int @Go.IntKind.i64 (@Go.Proofs.Ytjndgegfonhhfaa.Nts.g x k))]) (@List.nil (@Prod @Nat (@List @Go.Value)))) = (@Go.Proofs.Ytjndgegfonhhfaa.SE.Cs.row (1 : @Nat) (@Go.Proofs.Ytjndgegfonhhfaa.Nts.N x) (fun (k : @Nat) => [(Go.Value.int @Go.IntKind.i64 (@Go.Proofs.Ytjndgegfonhhfaa.Nts.g x k))]) (@List.nil (@Prod @Nat (@List @Go.Value))))) ∧
  (@Bool.true = @Bool.true)) ∧
  True))))))))) ((@Go.Proofs.Ytjndgegfonhhfaa.SE.I64 (((s : Nat) : @Int) + (1 : @Int))) ∧
  (∃ (s_1 : @Nat), ((s_1 ≤ (@Go.Proofs.Ytjndgegfonhhfaa.Nts.n x)) ∧
  ((((@Go.Proofs.Ytjndgegfonhhfaa.Nts.n x) - s_1) < ((@Go.Proofs.Ytjndgegfonhhfaa.Nts.n x) - s)) ∧
  (((((s_1 : Nat) : @Int) = (((s : Nat) : @Int) + (1 : @Int))) ∧
  (((((@Go.Proofs.Ytjndgegfonhhfaa.cntTo (@Go.Proofs.Ytjndgegfonhhfaa.Nts.g x) s_1 (258 : @Nat)) : Nat) : @Int) = (((@Go.Proofs.Ytjndgegfonhhfaa.cntTo (@Go.Proofs.Ytjndgegfonhhfaa.Nts.g x) s (258 : @Nat)) : Nat) : @Int)) ∧
  True)) ∧
  ((((258 : @Nat) = (258 : @Nat)) ∧
  (∀ (q : @Nat), ((q < (258 : @Nat)) → ([(Go.Value.bool (@Go.Proofs.Ytjndgegfonhhfaa.met (@Go.Proofs.Ytjndgegfonhhfaa.Nts.g x) s_1 q))] = [(Go.Value.bool (@Go.Proofs.Ytjndgegfonhhfaa.met (@Go.Proofs.Ytjndgegfonhhfaa.Nts.g x) s q))])))) ∧
  ((((0 : @Int) = (0 : @Int)) ∧
  (((0 : @Int) = (0 : @Int)) ∧
  (((0 : @Int) = (0 : @Int)) ∧
  (((0 : @Int) = (0 : @Int)) ∧
  (((0 : @Int) = (0 : @Int)) ∧
  (((0 : @Int) = (0 : @Int)) ∧
  True)))))) ∧
  ((((@Go.Proofs.Ytjndgegfonhhfaa.SE.Cs.row (1 : @Nat) (@Go.Proofs.Ytjndgegfonhhfaa.Nts.N x) (fun (k : @Nat) => [(Go.Value.int @Go.IntKind.i64 (@Go.Proofs.Ytjndgegfonhhfaa.Nts.g x k))]) (@List.nil (@Prod @Nat (@List @Go.Value)))) = (@Go.Proofs.Ytjndgegfonhhfaa.SE.Cs.row (1 : @Nat) (@Go.Proofs.Ytjndgegfonhhfaa.Nts.N x) (fun (k : @Nat) => [(Go.Value.int @Go.IntKind.i64 (@Go.Proofs.Ytjndgegfonhhfaa.Nts.g x k))]) (@List.nil (@Prod @Nat (@List @Go.Value))))) ∧
  (@Bool.true = @Bool.true)) ∧
  True))))))))))) ((@Go.Proofs.Ytjndgegfonhhfaa.SE.I64 ((((@Go.Proofs.Ytjndgegfonhhfaa.cntTo (@Go.Proofs.Ytjndgegfonhhfaa.Nts.g x) s (258 : @Nat)) : Nat) : @Int) + (4 : @Int))) ∧
  ((@Go.Proofs.Ytjndgegfonhhfaa.SE.I64 ((((@Go.Proofs.Ytjndgegfonhhfaa.cntTo (@Go.Proofs.Ytjndgegfonhhfaa.Nts.g x) s (258 : @Nat)) : Nat) : @Int) + (1 : @Int))) ∧
  (∃ (y : Unit), (True ∧
  (((((((@Go.Proofs.Ytjndgegfonhhfaa.cntTo (@Go.Proofs.Ytjndgegfonhhfaa.Nts.g x) (@Go.Proofs.Ytjndgegfonhhfaa.Nts.n x) (258 : @Nat)) : Nat) : @Int) + (4 : @Int)) = ((((@Go.Proofs.Ytjndgegfonhhfaa.cntTo (@Go.Proofs.Ytjndgegfonhhfaa.Nts.g x) s (258 : @Nat)) : Nat) : @Int) + (4 : @Int))) ∧
  (((1 : @Int) = (1 : @Int)) ∧
  ((((((@Go.Proofs.Ytjndgegfonhhfaa.cntTo (@Go.Proofs.Ytjndgegfonhhfaa.Nts.g x) (@Go.Proofs.Ytjndgegfonhhfaa.Nts.n x) (258 : @Nat)) : Nat) : @Int) + (1 : @Int)) = ((((@Go.Proofs.Ytjndgegfonhhfaa.cntTo (@Go.Proofs.Ytjndgegfonhhfaa.Nts.g x) s (258 : @Nat)) : Nat) : @Int) + (1 : @Int))) ∧
  (((2 : @Int) = (2 : @Int)) ∧
  (((0 : @Int) = (0 : @Int)) ∧
  (((0 : @Int) = (0 : @Int)) ∧
  True)))))) ∧
  ((((@Go.Proofs.Ytjndgegfonhhfaa.SE.Cs.row (1 : @Nat) (@Go.Proofs.Ytjndgegfonhhfaa.Nts.N x) (fun (k : @Nat) => [(Go.Value.int @Go.IntKind.i64 (@Go.Proofs.Ytjndgegfonhhfaa.Nts.g x k))]) (@List.nil (@Prod @Nat (@List @Go.Value)))) = (@Go.Proofs.Ytjndgegfonhhfaa.SE.Cs.row (1 : @Nat) (@Go.Proofs.Ytjndgegfonhhfaa.Nts.N x) (fun (k : @Nat) => [(Go.Value.int @Go.IntKind.i64 (@Go.Proofs.Ytjndgegfonhhfaa.Nts.g x k))]) (@List.nil (@Prod @Nat (@List @Go.Value))))) ∧
  (@Bool.true = @Bool.true)) ∧
  True))))))))) ∧
  True))
theorem closeVC_ok (x : Nts) : closeVC x = closeVC_wp x := by kernel_rfl
def rcloseVC_wp (x : Nts) : Prop := wpF Try.prog [] tt (anRClose x) 200 5 24 (closeC.args x) (hO closeC.k (closeC.os x)) (fun v h' => endsP closeC.k x v h' closeC.outs)
def rcloseVC (x : Nts) : Prop :=
  ((∃ (s : @Nat), ((s ≤ (258 : @Nat)) ∧
  (True ∧
  (((((s : Nat) : @Int) = (0 : @Int)) ∧
  (((((@Go.Proofs.Ytjndgegfonhhfaa.cntTo (@Go.Proofs.Ytjndgegfonhhfaa.Nts.g x) (@Go.Proofs.Ytjndgegfonhhfaa.Nts.n x) s) : Nat) : @Int) = (0 : @Int)) ∧
  True)) ∧
  ((((0 : @Int) = (0 : @Int)) ∧
  (((0 : @Int) = (0 : @Int)) ∧
  (((0 : @Int) = (0 : @Int)) ∧
  (((0 : @Int) = (0 : @Int)) ∧
  (((0 : @Int) = (0 : @Int)) ∧
  (((0 : @Int) = (0 : @Int)) ∧
  True)))))) ∧
  ((((@Go.Proofs.Ytjndgegfonhhfaa.SE.Cs.row (1 : @Nat) (@Go.Proofs.Ytjndgegfonhhfaa.Nts.N x) (fun (k : @Nat) => [(Go.Value.int @Go.IntKind.i64 (@Go.Proofs.Ytjndgegfonhhfaa.Nts.g x k))]) (@List.nil (@Prod @Nat (@List @Go.Value)))) = (@Go.Proofs.Ytjndgegfonhhfaa.SE.Cs.row (1 : @Nat) (@Go.Proofs.Ytjndgegfonhhfaa.Nts.N x) (fun (k : @Nat) => [(Go.Value.int @Go.IntKind.i64 (@Go.Proofs.Ytjndgegfonhhfaa.Nts.g x k))]) (@List.nil (@Prod @Nat (@List @Go.Value))))) ∧
  (@Bool.true = @Bool.true)) ∧
  True)))))) ∧
  ((∀ (s : @Nat), ((s ≤ (258 : @Nat)) → (Go.Proofs.Ytjndgegfonhhfaa.SE.cP (decide (((s : Nat) : @Int) < (258 : @Int))) ((∃ (s_1 : @Nat), ((s_1 ≤ (@Go.Proofs.Ytjndgegfonhhfaa.Nts.n x)) ∧
  (True ∧
  (((((s_1 : Nat) : @Int) = (0 : @Int)) ∧
  (((@Go.Proofs.Ytjndgegfonhhfaa.met (@Go.Proofs.Ytjndgegfonhhfaa.Nts.g x) s_1 (Int.toNat ((s : Nat) : @Int))) = @Bool.false) ∧
  True)) ∧
  ((((0 : @Int) = (0 : @Int)) ∧
  (((0 : @Int) = (0 : @Int)) ∧
  (((0 : @Int) = (0 : @Int)) ∧
  (((0 : @Int) = (0 : @Int)) ∧
  (((0 : @Int) = (0 : @Int)) ∧
  (((0 : @Int) = (0 : @Int)) ∧
  True)))))) ∧
  ((((@Go.Proofs.Ytjndgegfonhhfaa.SE.Cs.row (1 : @Nat) (@Go.Proofs.Ytjndgegfonhhfaa.Nts.N x) (fun (k : @Nat) => [(Go.Value.int @Go.IntKind.i64 (@Go.Proofs.Ytjndgegfonhhfaa.Nts.g x k))]) (@List.nil (@Prod @Nat (@List @Go.Value)))) = (@Go.Proofs.Ytjndgegfonhhfaa.SE.Cs.row (1 : @Nat) (@Go.Proofs.Ytjndgegfonhhfaa.Nts.N x) (fun (k : @Nat) => [(Go.Value.int @Go.IntKind.i64 (@Go.Proofs.Ytjndgegfonhhfaa.Nts.g x k))]) (@List.nil (@Prod @Nat (@List @Go.Value))))) ∧
  (@Bool.true = @Bool.true)) ∧
  True)))))) ∧
  ((∀ (s_1 : @Nat), ((s_1 ≤ (@Go.Proofs.Ytjndgegfonhhfaa.Nts.n x)) → (Go.Proofs.Ytjndgegfonhhfaa.SE.cP (decide (((s_1 : Nat) : @Int) < (((@Go.Proofs.Ytjndgegfonhhfaa.Nts.n x) : Nat) : @Int))) (Go.Proofs.Ytjndgegfonhhfaa.SE.cP (@Go.Proofs.Ytjndgegfonhhfaa.met (@Go.Proofs.Ytjndgegfonhhfaa.Nts.g x) s_1 (Int.toNat ((s : Nat) : @Int))) ((@Go.Proofs.Ytjndgegfonhhfaa.SE.I64 (((s_1 : Nat) : @Int) + (1 : @Int))) ∧
  (∃ (s_2 : @Nat), ((s_2 ≤ (@Go.Proofs.Ytjndgegfonhhfaa.Nts.n x)) ∧
  ((((@Go.Proofs.Ytjndgegfonhhfaa.Nts.n x) - s_2) < ((@Go.Proofs.Ytjndgegfonhhfaa.Nts.n x) - s_1)) ∧
  (((((s_2 : Nat) : @Int) = (((s_1 : Nat) : @Int) + (1 : @Int))) ∧
  (((@Go.Proofs.Ytjndgegfonhhfaa.met (@Go.Proofs.Ytjndgegfonhhfaa.Nts.g x) s_2 (Int.toNat ((s : Nat) : @Int))) = @Bool.true) ∧
  True)) ∧
  ((((0 : @Int) = (0 : @Int)) ∧
  (((0 : @Int) = (0 : @Int)) ∧
  (((0 : @Int) = (0 : @Int)) ∧
  (((0 : @Int) = (0 : @Int)) ∧
  (((0 : @Int) = (0 : @Int)) ∧
  (((0 : @Int) = (0 : @Int)) ∧
  True)))))) ∧
  ((((@Go.Proofs.Ytjndgegfonhhfaa.SE.Cs.row (1 : @Nat) (@Go.Proofs.Ytjndgegfonhhfaa.Nts.N x) (fun (k : @Nat) => [(Go.Value.int @Go.IntKind.i64 (@Go.Proofs.Ytjndgegfonhhfaa.Nts.g x k))]) (@List.nil (@Prod @Nat (@List @Go.Value)))) = (@Go.Proofs.Ytjndgegfonhhfaa.SE.Cs.row (1 : @Nat) (@Go.Proofs.Ytjndgegfonhhfaa.Nts.N x) (fun (k : @Nat) => [(Go.Value.int @Go.IntKind.i64 (@Go.Proofs.Ytjndgegfonhhfaa.Nts.g x k))]) (@List.nil (@Prod @Nat (@List @Go.Value))))) ∧
  (@Bool.true = @Bool.true)) ∧
  True))))))) ((((0 : @Int) ≤ ((s_1 : Nat) : @Int)) ∧
  (((s_1 : Nat) : @Int) < (((@Go.Proofs.Ytjndgegfonhhfaa.Nts.n x) : Nat) : @Int))) ∧
  ((((0 : @Nat) + s_1) < (@Go.Proofs.Ytjndgegfonhhfaa.Nts.N x)) ∧
  ((@Go.Proofs.Ytjndgegfonhhfaa.SE.I64 (((s_1 : Nat) : @Int) + (1 : @Int))) ∧
  (∃ (s_2 : @Nat), ((s_2 ≤ (@Go.Proofs.Ytjndgegfonhhfaa.Nts.n x)) ∧
  ((((@Go.Proofs.Ytjndgegfonhhfaa.Nts.n x) - s_2) < ((@Go.Proofs.Ytjndgegfonhhfaa.Nts.n x) - s_1)) ∧
  (((((s_2 : Nat) : @Int) = (((s_1 : Nat) : @Int) + (1 : @Int))) ∧
  (((@Go.Proofs.Ytjndgegfonhhfaa.met (@Go.Proofs.Ytjndgegfonhhfaa.Nts.g x) s_2 (Int.toNat ((s : Nat) : @Int))) = (@BEq.beq @Int (@instBEqOfDecidableEq @Int @Int.instDecidableEq) (@Go.Proofs.Ytjndgegfonhhfaa.Nts.g x ((0 : @Nat) + s_1)) ((s : Nat) : @Int))) ∧
  True)) ∧
  ((((0 : @Int) = (0 : @Int)) ∧
  (((0 : @Int) = (0 : @Int)) ∧
  (((0 : @Int) = (0 : @Int)) ∧
  (((0 : @Int) = (0 : @Int)) ∧
  (((0 : @Int) = (0 : @Int)) ∧
  (((0 : @Int) = (0 : @Int)) ∧
  True)))))) ∧
  ((((@Go.Proofs.Ytjndgegfonhhfaa.SE.Cs.row (1 : @Nat) (@Go.Proofs.Ytjndgegfonhhfaa.Nts.N x) (fun (k : @Nat) => [(Go.Value.int @Go.IntKind.i64 (@Go.Proofs.Ytjndgegfonhhfaa.Nts.g x k))]) (@List.nil (@Prod @Nat (@List @Go.Value)))) = (@Go.Proofs.Ytjndgegfonhhfaa.SE.Cs.row (1 : @Nat) (@Go.Proofs.Ytjndgegfonhhfaa.Nts.N x) (fun (k : @Nat) => [(Go.Value.int @Go.IntKind.i64 (@Go.Proofs.Ytjndgegfonhhfaa.Nts.g x k))]) (@List.nil (@Prod @Nat (@List @Go.Value))))) ∧
  (@Bool.true = @Bool.true)) ∧
  True)))))))))) (Go.Proofs.Ytjndgegfonhhfaa.SE.cP (@Go.Proofs.Ytjndgegfonhhfaa.met (@Go.Proofs.Ytjndgegfonhhfaa.Nts.g x) s_1 (Int.toNat ((s : Nat) : @Int))) ((@Go.Proofs.Ytjndgegfonhhfaa.SE.I64 ((((@Go.Proofs.Ytjndgegfonhhfaa.cntTo (@Go.Proofs.Ytjndgegfonhhfaa.Nts.g x) (@Go.Proofs.Ytjndgegfonhhfaa.Nts.n x) s) : Nat) : @Int) + (1 : @Int))) ∧
  ((@Go.Proofs.Ytjndgegfonhhfaa.SE.I64 (((s : Nat) : @Int) + (1 : @Int))) ∧
  (∃ (s_2 : @Nat), ((s_2 ≤ (258 : @Nat)) ∧
  ((((258 : @Nat) - s_2) < ((258 : @Nat) - s)) ∧
  (((((s_2 : Nat) : @Int) = (((s : Nat) : @Int) + (1 : @Int))) ∧
  (((((@Go.Proofs.Ytjndgegfonhhfaa.cntTo (@Go.Proofs.Ytjndgegfonhhfaa.Nts.g x) (@Go.Proofs.Ytjndgegfonhhfaa.Nts.n x) s_2) : Nat) : @Int) = ((((@Go.Proofs.Ytjndgegfonhhfaa.cntTo (@Go.Proofs.Ytjndgegfonhhfaa.Nts.g x) (@Go.Proofs.Ytjndgegfonhhfaa.Nts.n x) s) : Nat) : @Int) + (1 : @Int))) ∧
  True)) ∧
  ((((0 : @Int) = (0 : @Int)) ∧
  (((0 : @Int) = (0 : @Int)) ∧
  (((0 : @Int) = (0 : @Int)) ∧
  (((0 : @Int) = (0 : @Int)) ∧
  (((0 : @Int) = (0 : @Int)) ∧
  (((0 : @Int) = (0 : @Int)) ∧
  True)))))) ∧
  ((((@Go.Proofs.Ytjndgegfonhhfaa.SE.Cs.row (1 : @Nat) (@Go.Proofs.Ytjndgegfonhhfaa.Nts.N x) (fun (k : @Nat) => [(Go.Value.int @Go.IntKind.i64 (@Go.Proofs.Ytjndgegfonhhfaa.Nts.g x k))]) (@List.nil (@Prod @Nat (@List @Go.Value)))) = (@Go.Proofs.Ytjndgegfonhhfaa.SE.Cs.row (1 : @Nat) (@Go.Proofs.Ytjndgegfonhhfaa.Nts.N x) (fun (k : @Nat) => [(Go.Value.int @Go.IntKind.i64 (@Go.Proofs.Ytjndgegfonhhfaa.Nts.g x k))]) (@List.nil (@Prod @Nat (@List @Go.Value))))) ∧
  (@Bool.true = @Bool.true)) ∧
  True)))))))) ((@Go.Proofs.Ytjndgegfonhhfaa.SE.I64 (((s : Nat) : @Int) + (1 : @Int))) ∧
  (∃ (s_2 : @Nat), ((s_2 ≤ (258 : @Nat)) ∧
  ((((258 : @Nat) - s_2) < ((258 : @Nat) - s)) ∧
  (((((s_2 : Nat) : @Int) = (((s : Nat) : @Int) + (1 : @Int))) ∧
  (((((@Go.Proofs.Ytjndgegfonhhfaa.cntTo (@Go.Proofs.Ytjndgegfonhhfaa.Nts.g x) (@Go.Proofs.Ytjndgegfonhhfaa.Nts.n x) s_2) : Nat) : @Int) = (((@Go.Proofs.Ytjndgegfonhhfaa.cntTo (@Go.Proofs.Ytjndgegfonhhfaa.Nts.g x) (@Go.Proofs.Ytjndgegfonhhfaa.Nts.n x) s) : Nat) : @Int)) ∧
  True)) ∧
  ((((0 : @Int) = (0 : @Int)) ∧
  (((0 : @Int) = (0 : @Int)) ∧
  (((0 : @Int) = (0 : @Int)) ∧
  (((0 : @Int) = (0 : @Int)) ∧
  (((0 : @Int) = (0 : @Int)) ∧
  (((0 : @Int) = (0 : @Int)) ∧
  True)))))) ∧
  ((((@Go.Proofs.Ytjndgegfonhhfaa.SE.Cs.row (1 : @Nat) (@Go.Proofs.Ytjndgegfonhhfaa.Nts.N x) (fun (k : @Nat) => [(Go.Value.int @Go.IntKind.i64 (@Go.Proofs.Ytjndgegfonhhfaa.Nts.g x k))]) (@List.nil (@Prod @Nat (@List @Go.Value)))) = (@Go.Proofs.Ytjndgegfonhhfaa.SE.Cs.row (1 : @Nat) (@Go.Proofs.Ytjndgegfonhhfaa.Nts.N x) (fun (k : @Nat) => [(Go.Value.int @Go.IntKind.i64 (@Go.Proofs.Ytjndgegfonhhfaa.Nts.g x k))]) (@List.nil (@Prod @Nat (@List @Go.Value))))) ∧
  (@Bool.true = @Bool.true)) ∧
  True))))))))))) ∧
  True)) ((@Go.Proofs.Ytjndgegfonhhfaa.SE.I64 ((((@Go.Proofs.Ytjndgegfonhhfaa.cntTo (@Go.Proofs.Ytjndgegfonhhfaa.Nts.g x) (@Go.Proofs.Ytjndgegfonhhfaa.Nts.n x) s) : Nat) : @Int) + (4 : @Int))) ∧
  ((@Go.Proofs.Ytjndgegfonhhfaa.SE.I64 ((((@Go.Proofs.Ytjndgegfonhhfaa.cntTo (@Go.Proofs.Ytjndgegfonhhfaa.Nts.g x) (@Go.Proofs.Ytjndgegfonhhfaa.Nts.n x) s) : Nat) : @Int) + (1 : @Int))) ∧
  (∃ (y : Unit), (True ∧
  (((((((@Go.Proofs.Ytjndgegfonhhfaa.cntTo (@Go.Proofs.Ytjndgegfonhhfaa.Nts.g x) (@Go.Proofs.Ytjndgegfonhhfaa.Nts.n x) (258 : @Nat)) : Nat) : @Int) + (4 : @Int)) = ((((@Go.Proofs.Ytjndgegfonhhfaa.cntTo (@Go.Proofs.Ytjndgegfonhhfaa.Nts.g x) (@Go.Proofs.Ytjndgegfonhhfaa.Nts.n x) s) : Nat) : @Int) + (4 : @Int))) ∧
  (((1 : @Int) = (1 : @Int)) ∧
  ((((((@Go.Proofs.Ytjndgegfonhhfaa.cntTo (@Go.Proofs.Ytjndgegfonhhfaa.Nts.g x) (@Go.Proofs.Ytjndgegfonhhfaa.Nts.n x) (258 : @Nat)) : Nat) : @Int) + (1 : @Int)) = ((((@Go.Proofs.Ytjndgegfonhhfaa.cntTo (@Go.Proofs.Ytjndgegfonhhfaa.Nts.g x) (@Go.Proofs.Ytjndgegfonhhfaa.Nts.n x) s) : Nat) : @Int) + (1 : @Int))) ∧
  (((2 : @Int) = (2 : @Int)) ∧
  (((0 : @Int) = (0 : @Int)) ∧
  (((0 : @Int) = (0 : @Int)) ∧
  True)))))) ∧
  ((((@Go.Proofs.Ytjndgegfonhhfaa.SE.Cs.row (1 : @Nat) (@Go.Proofs.Ytjndgegfonhhfaa.Nts.N x) (fun (k : @Nat) => [(Go.Value.int @Go.IntKind.i64 (@Go.Proofs.Ytjndgegfonhhfaa.Nts.g x k))]) (@List.nil (@Prod @Nat (@List @Go.Value)))) = (@Go.Proofs.Ytjndgegfonhhfaa.SE.Cs.row (1 : @Nat) (@Go.Proofs.Ytjndgegfonhhfaa.Nts.N x) (fun (k : @Nat) => [(Go.Value.int @Go.IntKind.i64 (@Go.Proofs.Ytjndgegfonhhfaa.Nts.g x k))]) (@List.nil (@Prod @Nat (@List @Go.Value))))) ∧
  (@Bool.true = @Bool.true)) ∧
  True))))))))) ∧
  True))
theorem rcloseVC_ok (x : Nts) : rcloseVC x = rcloseVC_wp x := by kernel_rfl
def lendVC_wp (x : Nts) : Prop := wpF Try.prog [] tt (fun _ _ _ _ => []) 200 5 22 (lendC.args x) (hO lendC.k (lendC.os x)) (fun v h' => endsP lendC.k x v h' lendC.outs)
def lendVC (x : Nts) : Prop :=
  ((@Go.Proofs.Ytjndgegfonhhfaa.SE.I64 ((((@Go.Proofs.Ytjndgegfonhhfaa.Nts.n x) : Nat) : @Int) + (3 : @Int))) ∧
  ((((0 : @Int) ≤ (0 : @Int)) ∧
  (((0 : @Int) ≤ ((((@Go.Proofs.Ytjndgegfonhhfaa.Nts.n x) : Nat) : @Int) + (3 : @Int))) ∧
  ((((8 : @Int) * ((((@Go.Proofs.Ytjndgegfonhhfaa.Nts.n x) : Nat) : @Int) + (3 : @Int))) ≤ (281474976710656 : @Int)) ∧
  (((((@Go.Proofs.Ytjndgegfonhhfaa.Nts.n x) : Nat) : @Int) + (3 : @Int)) < (4611686018427387904 : @Int))))) ∧
  (((0 : @Nat) ≤ (Int.toNat ((((@Go.Proofs.Ytjndgegfonhhfaa.Nts.n x) : Nat) : @Int) + (3 : @Int)))) ∧
  ((((0 : @Nat) + (@Go.Proofs.Ytjndgegfonhhfaa.Nts.n x)) ≤ (@Go.Proofs.Ytjndgegfonhhfaa.Nts.n x)) ∧
  (Go.Proofs.Ytjndgegfonhhfaa.SE.cP (@Nat.beq (@Go.Proofs.Ytjndgegfonhhfaa.Nts.n x) (0 : @Nat)) ((@Go.Proofs.Ytjndgegfonhhfaa.SE.I64 ((((@Go.Proofs.Ytjndgegfonhhfaa.Nts.n x) : Nat) : @Int) + (3 : @Int))) ∧
  (((0 : @Int) ≤ ((((@Go.Proofs.Ytjndgegfonhhfaa.Nts.n x) : Nat) : @Int) + (3 : @Int))) ∧
  (((0 : @Int) ≤ (((@Go.Proofs.Ytjndgegfonhhfaa.Nts.n x) : Nat) : @Int)) ∧
  ((((@Go.Proofs.Ytjndgegfonhhfaa.Nts.n x) ≤ (Int.toNat ((((@Go.Proofs.Ytjndgegfonhhfaa.Nts.n x) : Nat) : @Int) + (3 : @Int)))) ∧
  (((Int.toNat ((((@Go.Proofs.Ytjndgegfonhhfaa.Nts.n x) : Nat) : @Int) + (3 : @Int))) ≤ (Int.toNat ((((@Go.Proofs.Ytjndgegfonhhfaa.Nts.n x) : Nat) : @Int) + (3 : @Int)))) ∧
  ((Int.toNat ((((@Go.Proofs.Ytjndgegfonhhfaa.Nts.n x) : Nat) : @Int) + (3 : @Int))) ≤ (Int.toNat ((((@Go.Proofs.Ytjndgegfonhhfaa.Nts.n x) : Nat) : @Int) + (3 : @Int)))))) ∧
  ((((0 : @Int) ≤ (0 : @Int)) ∧
  ((1 : @Int) ≤ ((((Int.toNat ((((@Go.Proofs.Ytjndgegfonhhfaa.Nts.n x) : Nat) : @Int) + (3 : @Int))) - (@Go.Proofs.Ytjndgegfonhhfaa.Nts.n x)) : Nat) : @Int))) ∧
  (((((0 : @Nat) + (@Go.Proofs.Ytjndgegfonhhfaa.Nts.n x)) + (0 : @Nat)) < (Int.toNat ((((@Go.Proofs.Ytjndgegfonhhfaa.Nts.n x) : Nat) : @Int) + (3 : @Int)))) ∧
  ((@Go.Proofs.Ytjndgegfonhhfaa.SE.I64 (1 : @Int)) ∧
  ((((0 : @Int) ≤ (1 : @Int)) ∧
  ((2 : @Int) ≤ ((((Int.toNat ((((@Go.Proofs.Ytjndgegfonhhfaa.Nts.n x) : Nat) : @Int) + (3 : @Int))) - (@Go.Proofs.Ytjndgegfonhhfaa.Nts.n x)) : Nat) : @Int))) ∧
  (((((0 : @Nat) + (@Go.Proofs.Ytjndgegfonhhfaa.Nts.n x)) + (1 : @Nat)) < (Int.toNat ((((@Go.Proofs.Ytjndgegfonhhfaa.Nts.n x) : Nat) : @Int) + (3 : @Int)))) ∧
  ((@Go.Proofs.Ytjndgegfonhhfaa.SE.I64 (2 : @Int)) ∧
  ((((0 : @Int) ≤ (2 : @Int)) ∧
  ((3 : @Int) ≤ ((((Int.toNat ((((@Go.Proofs.Ytjndgegfonhhfaa.Nts.n x) : Nat) : @Int) + (3 : @Int))) - (@Go.Proofs.Ytjndgegfonhhfaa.Nts.n x)) : Nat) : @Int))) ∧
  (((((0 : @Nat) + (@Go.Proofs.Ytjndgegfonhhfaa.Nts.n x)) + (2 : @Nat)) < (Int.toNat ((((@Go.Proofs.Ytjndgegfonhhfaa.Nts.n x) : Nat) : @Int) + (3 : @Int)))) ∧
  ((@Go.Proofs.Ytjndgegfonhhfaa.SE.I64 (3 : @Int)) ∧
  (∃ (y : Unit), (True ∧
  ((((0 : @Nat) = (0 : @Nat)) ∧
  (((@Go.Proofs.Ytjndgegfonhhfaa.Nts.n x) = (0 : @Nat)) ∧
  (((@Go.Proofs.Ytjndgegfonhhfaa.Nts.n x) + (3 : @Nat)) = (Int.toNat ((((@Go.Proofs.Ytjndgegfonhhfaa.Nts.n x) : Nat) : @Int) + (3 : @Int)))))) ∧
  ((((@Go.Proofs.Ytjndgegfonhhfaa.SE.Cs.row (1 : @Nat) (@Go.Proofs.Ytjndgegfonhhfaa.Nts.n x) (fun (k : @Nat) => [(Go.Value.int @Go.IntKind.i64 (@Go.Proofs.Ytjndgegfonhhfaa.Nts.g x k))]) (@List.nil (@Prod @Nat (@List @Go.Value)))) = (@Go.Proofs.Ytjndgegfonhhfaa.SE.Cs.row (1 : @Nat) (@Go.Proofs.Ytjndgegfonhhfaa.Nts.n x) (fun (k : @Nat) => [(Go.Value.int @Go.IntKind.i64 (@Go.Proofs.Ytjndgegfonhhfaa.Nts.g x k))]) (@List.nil (@Prod @Nat (@List @Go.Value))))) ∧
  (@Bool.true = @Bool.true)) ∧
  (((((@Go.Proofs.Ytjndgegfonhhfaa.Nts.n x) + (3 : @Nat)) = (Int.toNat ((((@Go.Proofs.Ytjndgegfonhhfaa.Nts.n x) : Nat) : @Int) + (3 : @Int)))) ∧
  (∀ (q : @Nat), ((q < ((@Go.Proofs.Ytjndgegfonhhfaa.Nts.n x) + (3 : @Nat))) → ([(Go.Value.int @Go.IntKind.i64 (@cond @Int (@Nat.blt q (@Go.Proofs.Ytjndgegfonhhfaa.Nts.n x)) (@Go.Proofs.Ytjndgegfonhhfaa.Nts.g x q) (-(777 : @Int))))] = (@Go.Proofs.Ytjndgegfonhhfaa.SE.Cs.eff (fun (x_1 : @Nat) => [(Go.Value.int @Go.IntKind.i64 (0 : @Int))]) [(@Prod.mk @Nat (@List @Go.Value) (((0 : @Nat) + (@Go.Proofs.Ytjndgegfonhhfaa.Nts.n x)) + (2 : @Nat)) [(Go.Value.int @Go.IntKind.i64 (-(777 : @Int)))]), (@Prod.mk @Nat (@List @Go.Value) (((0 : @Nat) + (@Go.Proofs.Ytjndgegfonhhfaa.Nts.n x)) + (1 : @Nat)) [(Go.Value.int @Go.IntKind.i64 (-(777 : @Int)))]), (@Prod.mk @Nat (@List @Go.Value) (((0 : @Nat) + (@Go.Proofs.Ytjndgegfonhhfaa.Nts.n x)) + (0 : @Nat)) [(Go.Value.int @Go.IntKind.i64 (-(777 : @Int)))])] q))))) ∧
  True)))))))))))))))))) (Go.Proofs.Ytjndgegfonhhfaa.SE.cP (@Nat.ble ((0 : @Nat) + (@Go.Proofs.Ytjndgegfonhhfaa.Nts.n x)) (Int.toNat ((((@Go.Proofs.Ytjndgegfonhhfaa.Nts.n x) : Nat) : @Int) + (3 : @Int)))) ((∀ (k : @Nat), ((k < (@Go.Proofs.Ytjndgegfonhhfaa.Nts.n x)) → ((@Bool.and (@Nat.beq (@List.length @Go.Value [(Go.Value.int @Go.IntKind.i64 (@Go.Proofs.Ytjndgegfonhhfaa.Nts.g x ((0 : @Nat) + k)))]) (1 : @Nat)) (@List.all @Go.Value [(Go.Value.int @Go.IntKind.i64 (@Go.Proofs.Ytjndgegfonhhfaa.Nts.g x ((0 : @Nat) + k)))] @Go.Value.oneCell')) = @Bool.true))) ∧
  ((((0 : @Nat) + ((0 : @Nat) + (@Go.Proofs.Ytjndgegfonhhfaa.Nts.n x))) ≤ (Int.toNat ((((@Go.Proofs.Ytjndgegfonhhfaa.Nts.n x) : Nat) : @Int) + (3 : @Int)))) ∧
  ((@Go.Proofs.Ytjndgegfonhhfaa.SE.I64 ((((@Go.Proofs.Ytjndgegfonhhfaa.Nts.n x) : Nat) : @Int) + (3 : @Int))) ∧
  (((0 : @Int) ≤ ((((@Go.Proofs.Ytjndgegfonhhfaa.Nts.n x) : Nat) : @Int) + (3 : @Int))) ∧
  (((0 : @Int) ≤ (((@Go.Proofs.Ytjndgegfonhhfaa.Nts.n x) : Nat) : @Int)) ∧
  ((((@Go.Proofs.Ytjndgegfonhhfaa.Nts.n x) ≤ (Int.toNat ((((@Go.Proofs.Ytjndgegfonhhfaa.Nts.n x) : Nat) : @Int) + (3 : @Int)))) ∧
  (((Int.toNat ((((@Go.Proofs.Ytjndgegfonhhfaa.Nts.n x) : Nat) : @Int) + (3 : @Int))) ≤ (Int.toNat ((((@Go.Proofs.Ytjndgegfonhhfaa.Nts.n x) : Nat) : @Int) + (3 : @Int)))) ∧
  ((Int.toNat ((((@Go.Proofs.Ytjndgegfonhhfaa.Nts.n x) : Nat) : @Int) + (3 : @Int))) ≤ (Int.toNat ((((@Go.Proofs.Ytjndgegfonhhfaa.Nts.n x) : Nat) : @Int) + (3 : @Int)))))) ∧
  ((((0 : @Int) ≤ (0 : @Int)) ∧
  ((1 : @Int) ≤ ((((Int.toNat ((((@Go.Proofs.Ytjndgegfonhhfaa.Nts.n x) : Nat) : @Int) + (3 : @Int))) - (@Go.Proofs.Ytjndgegfonhhfaa.Nts.n x)) : Nat) : @Int))) ∧
  (((((0 : @Nat) + (@Go.Proofs.Ytjndgegfonhhfaa.Nts.n x)) + (0 : @Nat)) < (Int.toNat ((((@Go.Proofs.Ytjndgegfonhhfaa.Nts.n x) : Nat) : @Int) + (3 : @Int)))) ∧
  ((@Go.Proofs.Ytjndgegfonhhfaa.SE.I64 (1 : @Int)) ∧
  ((((0 : @Int) ≤ (1 : @Int)) ∧
  ((2 : @Int) ≤ ((((Int.toNat ((((@Go.Proofs.Ytjndgegfonhhfaa.Nts.n x) : Nat) : @Int) + (3 : @Int))) - (@Go.Proofs.Ytjndgegfonhhfaa.Nts.n x)) : Nat) : @Int))) ∧
  (((((0 : @Nat) + (@Go.Proofs.Ytjndgegfonhhfaa.Nts.n x)) + (1 : @Nat)) < (Int.toNat ((((@Go.Proofs.Ytjndgegfonhhfaa.Nts.n x) : Nat) : @Int) + (3 : @Int)))) ∧
  ((@Go.Proofs.Ytjndgegfonhhfaa.SE.I64 (2 : @Int)) ∧
  ((((0 : @Int) ≤ (2 : @Int)) ∧
  ((3 : @Int) ≤ ((((Int.toNat ((((@Go.Proofs.Ytjndgegfonhhfaa.Nts.n x) : Nat) : @Int) + (3 : @Int))) - (@Go.Proofs.Ytjndgegfonhhfaa.Nts.n x)) : Nat) : @Int))) ∧
  (((((0 : @Nat) + (@Go.Proofs.Ytjndgegfonhhfaa.Nts.n x)) + (2 : @Nat)) < (Int.toNat ((((@Go.Proofs.Ytjndgegfonhhfaa.Nts.n x) : Nat) : @Int) + (3 : @Int)))) ∧
  ((@Go.Proofs.Ytjndgegfonhhfaa.SE.I64 (3 : @Int)) ∧
  (∃ (y : Unit), (True ∧
  ((((0 : @Nat) = (0 : @Nat)) ∧
  (((@Go.Proofs.Ytjndgegfonhhfaa.Nts.n x) = ((0 : @Nat) + (@Go.Proofs.Ytjndgegfonhhfaa.Nts.n x))) ∧
  (((@Go.Proofs.Ytjndgegfonhhfaa.Nts.n x) + (3 : @Nat)) = (Int.toNat ((((@Go.Proofs.Ytjndgegfonhhfaa.Nts.n x) : Nat) : @Int) + (3 : @Int)))))) ∧
  ((((@Go.Proofs.Ytjndgegfonhhfaa.SE.Cs.row (1 : @Nat) (@Go.Proofs.Ytjndgegfonhhfaa.Nts.n x) (fun (k : @Nat) => [(Go.Value.int @Go.IntKind.i64 (@Go.Proofs.Ytjndgegfonhhfaa.Nts.g x k))]) (@List.nil (@Prod @Nat (@List @Go.Value)))) = (@Go.Proofs.Ytjndgegfonhhfaa.SE.Cs.row (1 : @Nat) (@Go.Proofs.Ytjndgegfonhhfaa.Nts.n x) (fun (k : @Nat) => [(Go.Value.int @Go.IntKind.i64 (@Go.Proofs.Ytjndgegfonhhfaa.Nts.g x k))]) (@List.nil (@Prod @Nat (@List @Go.Value))))) ∧
  (@Bool.true = @Bool.true)) ∧
  (((((@Go.Proofs.Ytjndgegfonhhfaa.Nts.n x) + (3 : @Nat)) = (Int.toNat ((((@Go.Proofs.Ytjndgegfonhhfaa.Nts.n x) : Nat) : @Int) + (3 : @Int)))) ∧
  (∀ (q : @Nat), ((q < ((@Go.Proofs.Ytjndgegfonhhfaa.Nts.n x) + (3 : @Nat))) → ([(Go.Value.int @Go.IntKind.i64 (@cond @Int (@Nat.blt q (@Go.Proofs.Ytjndgegfonhhfaa.Nts.n x)) (@Go.Proofs.Ytjndgegfonhhfaa.Nts.g x q) (-(777 : @Int))))] = (@Go.Proofs.Ytjndgegfonhhfaa.SE.Cs.eff (fun (p : @Nat) => (@cond (@List @Go.Value) (@Bool.and (@Nat.ble (0 : @Nat) p) (@Nat.blt p ((0 : @Nat) + (@Go.Proofs.Ytjndgegfonhhfaa.Nts.n x)))) [(Go.Value.int @Go.IntKind.i64 (@Go.Proofs.Ytjndgegfonhhfaa.Nts.g x ((0 : @Nat) + (p - (0 : @Nat)))))] [(Go.Value.int @Go.IntKind.i64 (0 : @Int))])) [(@Prod.mk @Nat (@List @Go.Value) (((0 : @Nat) + (@Go.Proofs.Ytjndgegfonhhfaa.Nts.n x)) + (2 : @Nat)) [(Go.Value.int @Go.IntKind.i64 (-(777 : @Int)))]), (@Prod.mk @Nat (@List @Go.Value) (((0 : @Nat) + (@Go.Proofs.Ytjndgegfonhhfaa.Nts.n x)) + (1 : @Nat)) [(Go.Value.int @Go.IntKind.i64 (-(777 : @Int)))]), (@Prod.mk @Nat (@List @Go.Value) (((0 : @Nat) + (@Go.Proofs.Ytjndgegfonhhfaa.Nts.n x)) + (0 : @Nat)) [(Go.Value.int @Go.IntKind.i64 (-(777 : @Int)))])] q))))) ∧
  True)))))))))))))))))))) ((((((2 : @Nat) * ((0 : @Nat) + (@Go.Proofs.Ytjndgegfonhhfaa.Nts.n x))) + (1000 : @Nat)) * (8 : @Nat)) ≤ (281474976710656 : @Nat)) ∧
  ((@Go.Proofs.Ytjndgegfonhhfaa.SE.I64 ((((@Go.Proofs.Ytjndgegfonhhfaa.Nts.n x) : Nat) : @Int) + (3 : @Int))) ∧
  (((0 : @Int) ≤ ((((@Go.Proofs.Ytjndgegfonhhfaa.Nts.n x) : Nat) : @Int) + (3 : @Int))) ∧
  (((0 : @Int) ≤ (((@Go.Proofs.Ytjndgegfonhhfaa.Nts.n x) : Nat) : @Int)) ∧
  ((((@Go.Proofs.Ytjndgegfonhhfaa.Nts.n x) ≤ (Int.toNat ((((@Go.Proofs.Ytjndgegfonhhfaa.Nts.n x) : Nat) : @Int) + (3 : @Int)))) ∧
  (((Int.toNat ((((@Go.Proofs.Ytjndgegfonhhfaa.Nts.n x) : Nat) : @Int) + (3 : @Int))) ≤ ((0 : @Nat) + (@Go.Proofs.Ytjndgegfonhhfaa.Nts.n x))) ∧
  (((0 : @Nat) + (@Go.Proofs.Ytjndgegfonhhfaa.Nts.n x)) ≤ ((0 : @Nat) + (@Go.Proofs.Ytjndgegfonhhfaa.Nts.n x))))) ∧
  ((((0 : @Int) ≤ (0 : @Int)) ∧
  ((1 : @Int) ≤ ((((Int.toNat ((((@Go.Proofs.Ytjndgegfonhhfaa.Nts.n x) : Nat) : @Int) + (3 : @Int))) - (@Go.Proofs.Ytjndgegfonhhfaa.Nts.n x)) : Nat) : @Int))) ∧
  (((((0 : @Nat) + (@Go.Proofs.Ytjndgegfonhhfaa.Nts.n x)) + (0 : @Nat)) < ((0 : @Nat) + (@Go.Proofs.Ytjndgegfonhhfaa.Nts.n x))) ∧
  ((@Go.Proofs.Ytjndgegfonhhfaa.SE.I64 (1 : @Int)) ∧
  ((((0 : @Int) ≤ (1 : @Int)) ∧
  ((2 : @Int) ≤ ((((Int.toNat ((((@Go.Proofs.Ytjndgegfonhhfaa.Nts.n x) : Nat) : @Int) + (3 : @Int))) - (@Go.Proofs.Ytjndgegfonhhfaa.Nts.n x)) : Nat) : @Int))) ∧
  (((((0 : @Nat) + (@Go.Proofs.Ytjndgegfonhhfaa.Nts.n x)) + (1 : @Nat)) < ((0 : @Nat) + (@Go.Proofs.Ytjndgegfonhhfaa.Nts.n x))) ∧
  ((@Go.Proofs.Ytjndgegfonhhfaa.SE.I64 (2 : @Int)) ∧
  ((((0 : @Int) ≤ (2 : @Int)) ∧
  ((3 : @Int) ≤ ((((Int.toNat ((((@Go.Proofs.Ytjndgegfonhhfaa.Nts.n x) : Nat) : @Int) + (3 : @Int))) - (@Go.Proofs.Ytjndgegfonhhfaa.Nts.n x)) : Nat) : @Int))) ∧
  (((((0 : @Nat) + (@Go.Proofs.Ytjndgegfonhhfaa.Nts.n x)) + (2 : @Nat)) < ((0 : @Nat) + (@Go.Proofs.Ytjndgegfonhhfaa.Nts.n x))) ∧
  ((@Go.Proofs.Ytjndgegfonhhfaa.SE.I64 (3 : @Int)) ∧
  (∃ (y : Unit), (True ∧
  (False ∧
  ((((@Go.Proofs.Ytjndgegfonhhfaa.SE.Cs.row (1 : @Nat) (@Go.Proofs.Ytjndgegfonhhfaa.Nts.n x) (fun (k : @Nat) => [(Go.Value.int @Go.IntKind.i64 (@Go.Proofs.Ytjndgegfonhhfaa.Nts.g x k))]) (@List.nil (@Prod @Nat (@List @Go.Value)))) = (@Go.Proofs.Ytjndgegfonhhfaa.SE.Cs.row (1 : @Nat) (@Go.Proofs.Ytjndgegfonhhfaa.Nts.n x) (fun (k : @Nat) => [(Go.Value.int @Go.IntKind.i64 (@Go.Proofs.Ytjndgegfonhhfaa.Nts.g x k))]) (@List.nil (@Prod @Nat (@List @Go.Value))))) ∧
  (@Bool.true = @Bool.true)) ∧
  (((((@Go.Proofs.Ytjndgegfonhhfaa.Nts.n x) + (3 : @Nat)) = (Int.toNat ((((@Go.Proofs.Ytjndgegfonhhfaa.Nts.n x) : Nat) : @Int) + (3 : @Int)))) ∧
  (∀ (q : @Nat), ((q < ((@Go.Proofs.Ytjndgegfonhhfaa.Nts.n x) + (3 : @Nat))) → ([(Go.Value.int @Go.IntKind.i64 (@cond @Int (@Nat.blt q (@Go.Proofs.Ytjndgegfonhhfaa.Nts.n x)) (@Go.Proofs.Ytjndgegfonhhfaa.Nts.g x q) (-(777 : @Int))))] = [(Go.Value.int @Go.IntKind.i64 (0 : @Int))])))) ∧
  True)))))))))))))))))))))))))
theorem lendVC_ok (x : Nts) : lendVC x = lendVC_wp x := by kernel_rfl
def keptVC_wp (x : Nts) : Prop := wpF Try.prog [] tt (anSame x) 200 5 27 (keptC.args x) (hO keptC.k (keptC.os x)) (fun v h' => endsP keptC.k x v h' keptC.outs)
def keptVC (x : Nts) : Prop :=
  ((@Go.Proofs.Ytjndgegfonhhfaa.SE.I64 ((((@Go.Proofs.Ytjndgegfonhhfaa.Nts.n x) : Nat) : @Int) + (3 : @Int))) ∧
  (((0 : @Int) ≤ ((((@Go.Proofs.Ytjndgegfonhhfaa.Nts.n x) : Nat) : @Int) + (3 : @Int))) ∧
  (((0 : @Int) ≤ (((@Go.Proofs.Ytjndgegfonhhfaa.Nts.n x) : Nat) : @Int)) ∧
  ((((@Go.Proofs.Ytjndgegfonhhfaa.Nts.n x) ≤ (Int.toNat ((((@Go.Proofs.Ytjndgegfonhhfaa.Nts.n x) : Nat) : @Int) + (3 : @Int)))) ∧
  (((Int.toNat ((((@Go.Proofs.Ytjndgegfonhhfaa.Nts.n x) : Nat) : @Int) + (3 : @Int))) ≤ ((@Go.Proofs.Ytjndgegfonhhfaa.Nts.n x) + (3 : @Nat))) ∧
  (((@Go.Proofs.Ytjndgegfonhhfaa.Nts.n x) + (3 : @Nat)) ≤ ((@Go.Proofs.Ytjndgegfonhhfaa.Nts.n x) + (3 : @Nat))))) ∧
  ((((0 : @Int) ≤ (0 : @Int)) ∧
  ((1 : @Int) ≤ ((((Int.toNat ((((@Go.Proofs.Ytjndgegfonhhfaa.Nts.n x) : Nat) : @Int) + (3 : @Int))) - (@Go.Proofs.Ytjndgegfonhhfaa.Nts.n x)) : Nat) : @Int))) ∧
  (((((0 : @Nat) + (@Go.Proofs.Ytjndgegfonhhfaa.Nts.n x)) + (0 : @Nat)) < ((@Go.Proofs.Ytjndgegfonhhfaa.Nts.n x) + (3 : @Nat))) ∧
  (Go.Proofs.Ytjndgegfonhhfaa.SE.cP (@bne @Int (@instBEqOfDecidableEq @Int @Int.instDecidableEq) (@cond @Int (@Nat.blt (((0 : @Nat) + (@Go.Proofs.Ytjndgegfonhhfaa.Nts.n x)) + (0 : @Nat)) (@Go.Proofs.Ytjndgegfonhhfaa.Nts.n x)) (@Go.Proofs.Ytjndgegfonhhfaa.Nts.g x (((0 : @Nat) + (@Go.Proofs.Ytjndgegfonhhfaa.Nts.n x)) + (0 : @Nat))) (-(777 : @Int))) (-(777 : @Int))) (∃ (y : Unit), (True ∧
  ((@Bool.true = @Bool.false) ∧
  ((((@Go.Proofs.Ytjndgegfonhhfaa.SE.Cs.row (1 : @Nat) ((@Go.Proofs.Ytjndgegfonhhfaa.Nts.n x) + (3 : @Nat)) (fun (k : @Nat) => [(Go.Value.int @Go.IntKind.i64 (@cond @Int (@Nat.blt k (@Go.Proofs.Ytjndgegfonhhfaa.Nts.n x)) (@Go.Proofs.Ytjndgegfonhhfaa.Nts.g x k) (-(777 : @Int))))]) (@List.nil (@Prod @Nat (@List @Go.Value)))) = (@Go.Proofs.Ytjndgegfonhhfaa.SE.Cs.row (1 : @Nat) ((@Go.Proofs.Ytjndgegfonhhfaa.Nts.n x) + (3 : @Nat)) (fun (k : @Nat) => [(Go.Value.int @Go.IntKind.i64 (@cond @Int (@Nat.blt k (@Go.Proofs.Ytjndgegfonhhfaa.Nts.n x)) (@Go.Proofs.Ytjndgegfonhhfaa.Nts.g x k) (-(777 : @Int))))]) (@List.nil (@Prod @Nat (@List @Go.Value))))) ∧
  (@Bool.true = @Bool.true)) ∧
  ((((@Go.Proofs.Ytjndgegfonhhfaa.SE.Cs.row (1 : @Nat) (@Go.Proofs.Ytjndgegfonhhfaa.Nts.n x) (fun (k : @Nat) => [(Go.Value.int @Go.IntKind.i64 (@Go.Proofs.Ytjndgegfonhhfaa.Nts.g x k))]) (@List.nil (@Prod @Nat (@List @Go.Value)))) = (@Go.Proofs.Ytjndgegfonhhfaa.SE.Cs.row (1 : @Nat) (@Go.Proofs.Ytjndgegfonhhfaa.Nts.n x) (fun (k : @Nat) => [(Go.Value.int @Go.IntKind.i64 (@Go.Proofs.Ytjndgegfonhhfaa.Nts.g x k))]) (@List.nil (@Prod @Nat (@List @Go.Value))))) ∧
  (@Bool.true = @Bool.true)) ∧
  True))))) ((@Go.Proofs.Ytjndgegfonhhfaa.SE.I64 (1 : @Int)) ∧
  ((((0 : @Int) ≤ (1 : @Int)) ∧
  ((2 : @Int) ≤ ((((Int.toNat ((((@Go.Proofs.Ytjndgegfonhhfaa.Nts.n x) : Nat) : @Int) + (3 : @Int))) - (@Go.Proofs.Ytjndgegfonhhfaa.Nts.n x)) : Nat) : @Int))) ∧
  (((((0 : @Nat) + (@Go.Proofs.Ytjndgegfonhhfaa.Nts.n x)) + (1 : @Nat)) < ((@Go.Proofs.Ytjndgegfonhhfaa.Nts.n x) + (3 : @Nat))) ∧
  (Go.Proofs.Ytjndgegfonhhfaa.SE.cP (@bne @Int (@instBEqOfDecidableEq @Int @Int.instDecidableEq) (@cond @Int (@Nat.blt (((0 : @Nat) + (@Go.Proofs.Ytjndgegfonhhfaa.Nts.n x)) + (1 : @Nat)) (@Go.Proofs.Ytjndgegfonhhfaa.Nts.n x)) (@Go.Proofs.Ytjndgegfonhhfaa.Nts.g x (((0 : @Nat) + (@Go.Proofs.Ytjndgegfonhhfaa.Nts.n x)) + (1 : @Nat))) (-(777 : @Int))) (-(777 : @Int))) (∃ (y : Unit), (True ∧
  ((@Bool.true = @Bool.false) ∧
  ((((@Go.Proofs.Ytjndgegfonhhfaa.SE.Cs.row (1 : @Nat) ((@Go.Proofs.Ytjndgegfonhhfaa.Nts.n x) + (3 : @Nat)) (fun (k : @Nat) => [(Go.Value.int @Go.IntKind.i64 (@cond @Int (@Nat.blt k (@Go.Proofs.Ytjndgegfonhhfaa.Nts.n x)) (@Go.Proofs.Ytjndgegfonhhfaa.Nts.g x k) (-(777 : @Int))))]) (@List.nil (@Prod @Nat (@List @Go.Value)))) = (@Go.Proofs.Ytjndgegfonhhfaa.SE.Cs.row (1 : @Nat) ((@Go.Proofs.Ytjndgegfonhhfaa.Nts.n x) + (3 : @Nat)) (fun (k : @Nat) => [(Go.Value.int @Go.IntKind.i64 (@cond @Int (@Nat.blt k (@Go.Proofs.Ytjndgegfonhhfaa.Nts.n x)) (@Go.Proofs.Ytjndgegfonhhfaa.Nts.g x k) (-(777 : @Int))))]) (@List.nil (@Prod @Nat (@List @Go.Value))))) ∧
  (@Bool.true = @Bool.true)) ∧
  ((((@Go.Proofs.Ytjndgegfonhhfaa.SE.Cs.row (1 : @Nat) (@Go.Proofs.Ytjndgegfonhhfaa.Nts.n x) (fun (k : @Nat) => [(Go.Value.int @Go.IntKind.i64 (@Go.Proofs.Ytjndgegfonhhfaa.Nts.g x k))]) (@List.nil (@Prod @Nat (@List @Go.Value)))) = (@Go.Proofs.Ytjndgegfonhhfaa.SE.Cs.row (1 : @Nat) (@Go.Proofs.Ytjndgegfonhhfaa.Nts.n x) (fun (k : @Nat) => [(Go.Value.int @Go.IntKind.i64 (@Go.Proofs.Ytjndgegfonhhfaa.Nts.g x k))]) (@List.nil (@Prod @Nat (@List @Go.Value))))) ∧
  (@Bool.true = @Bool.true)) ∧
  True))))) ((@Go.Proofs.Ytjndgegfonhhfaa.SE.I64 (2 : @Int)) ∧
  ((((0 : @Int) ≤ (2 : @Int)) ∧
  ((3 : @Int) ≤ ((((Int.toNat ((((@Go.Proofs.Ytjndgegfonhhfaa.Nts.n x) : Nat) : @Int) + (3 : @Int))) - (@Go.Proofs.Ytjndgegfonhhfaa.Nts.n x)) : Nat) : @Int))) ∧
  (((((0 : @Nat) + (@Go.Proofs.Ytjndgegfonhhfaa.Nts.n x)) + (2 : @Nat)) < ((@Go.Proofs.Ytjndgegfonhhfaa.Nts.n x) + (3 : @Nat))) ∧
  (Go.Proofs.Ytjndgegfonhhfaa.SE.cP (@bne @Int (@instBEqOfDecidableEq @Int @Int.instDecidableEq) (@cond @Int (@Nat.blt (((0 : @Nat) + (@Go.Proofs.Ytjndgegfonhhfaa.Nts.n x)) + (2 : @Nat)) (@Go.Proofs.Ytjndgegfonhhfaa.Nts.n x)) (@Go.Proofs.Ytjndgegfonhhfaa.Nts.g x (((0 : @Nat) + (@Go.Proofs.Ytjndgegfonhhfaa.Nts.n x)) + (2 : @Nat))) (-(777 : @Int))) (-(777 : @Int))) (∃ (y : Unit), (True ∧
  ((@Bool.true = @Bool.false) ∧
  ((((@Go.Proofs.Ytjndgegfonhhfaa.SE.Cs.row (1 : @Nat) ((@Go.Proofs.Ytjndgegfonhhfaa.Nts.n x) + (3 : @Nat)) (fun (k : @Nat) => [(Go.Value.int @Go.IntKind.i64 (@cond @Int (@Nat.blt k (@Go.Proofs.Ytjndgegfonhhfaa.Nts.n x)) (@Go.Proofs.Ytjndgegfonhhfaa.Nts.g x k) (-(777 : @Int))))]) (@List.nil (@Prod @Nat (@List @Go.Value)))) = (@Go.Proofs.Ytjndgegfonhhfaa.SE.Cs.row (1 : @Nat) ((@Go.Proofs.Ytjndgegfonhhfaa.Nts.n x) + (3 : @Nat)) (fun (k : @Nat) => [(Go.Value.int @Go.IntKind.i64 (@cond @Int (@Nat.blt k (@Go.Proofs.Ytjndgegfonhhfaa.Nts.n x)) (@Go.Proofs.Ytjndgegfonhhfaa.Nts.g x k) (-(777 : @Int))))]) (@List.nil (@Prod @Nat (@List @Go.Value))))) ∧
  (@Bool.true = @Bool.true)) ∧
  ((((@Go.Proofs.Ytjndgegfonhhfaa.SE.Cs.row (1 : @Nat) (@Go.Proofs.Ytjndgegfonhhfaa.Nts.n x) (fun (k : @Nat) => [(Go.Value.int @Go.IntKind.i64 (@Go.Proofs.Ytjndgegfonhhfaa.Nts.g x k))]) (@List.nil (@Prod @Nat (@List @Go.Value)))) = (@Go.Proofs.Ytjndgegfonhhfaa.SE.Cs.row (1 : @Nat) (@Go.Proofs.Ytjndgegfonhhfaa.Nts.n x) (fun (k : @Nat) => [(Go.Value.int @Go.IntKind.i64 (@Go.Proofs.Ytjndgegfonhhfaa.Nts.g x k))]) (@List.nil (@Prod @Nat (@List @Go.Value))))) ∧
  (@Bool.true = @Bool.true)) ∧
  True))))) ((@Go.Proofs.Ytjndgegfonhhfaa.SE.I64 (3 : @Int)) ∧
  (Go.Proofs.Ytjndgegfonhhfaa.SE.cP (@bne @Int (@instBEqOfDecidableEq @Int @Int.instDecidableEq) (((@Go.Proofs.Ytjndgegfonhhfaa.Nts.n x) : Nat) : @Int) (((@Go.Proofs.Ytjndgegfonhhfaa.Nts.n x) : Nat) : @Int)) (∃ (y : Unit), (True ∧
  ((@Bool.true = @Bool.false) ∧
  ((((@Go.Proofs.Ytjndgegfonhhfaa.SE.Cs.row (1 : @Nat) ((@Go.Proofs.Ytjndgegfonhhfaa.Nts.n x) + (3 : @Nat)) (fun (k : @Nat) => [(Go.Value.int @Go.IntKind.i64 (@cond @Int (@Nat.blt k (@Go.Proofs.Ytjndgegfonhhfaa.Nts.n x)) (@Go.Proofs.Ytjndgegfonhhfaa.Nts.g x k) (-(777 : @Int))))]) (@List.nil (@Prod @Nat (@List @Go.Value)))) = (@Go.Proofs.Ytjndgegfonhhfaa.SE.Cs.row (1 : @Nat) ((@Go.Proofs.Ytjndgegfonhhfaa.Nts.n x) + (3 : @Nat)) (fun (k : @Nat) => [(Go.Value.int @Go.IntKind.i64 (@cond @Int (@Nat.blt k (@Go.Proofs.Ytjndgegfonhhfaa.Nts.n x)) (@Go.Proofs.Ytjndgegfonhhfaa.Nts.g x k) (-(777 : @Int))))]) (@List.nil (@Prod @Nat (@List @Go.Value))))) ∧
  (@Bool.true = @Bool.true)) ∧
  ((((@Go.Proofs.Ytjndgegfonhhfaa.SE.Cs.row (1 : @Nat) (@Go.Proofs.Ytjndgegfonhhfaa.Nts.n x) (fun (k : @Nat) => [(Go.Value.int @Go.IntKind.i64 (@Go.Proofs.Ytjndgegfonhhfaa.Nts.g x k))]) (@List.nil (@Prod @Nat (@List @Go.Value)))) = (@Go.Proofs.Ytjndgegfonhhfaa.SE.Cs.row (1 : @Nat) (@Go.Proofs.Ytjndgegfonhhfaa.Nts.n x) (fun (k : @Nat) => [(Go.Value.int @Go.IntKind.i64 (@Go.Proofs.Ytjndgegfonhhfaa.Nts.g x k))]) (@List.nil (@Prod @Nat (@List @Go.Value))))) ∧
  (@Bool.true = @Bool.true)) ∧
  True))))) ((∃ (s : @Nat), ((s ≤ (@Go.Proofs.Ytjndgegfonhhfaa.Nts.n x)) ∧
  (True ∧
  (((((s : Nat) : @Int) = (0 : @Int)) ∧
  True) ∧
  ((((@Go.Proofs.Ytjndgegfonhhfaa.SE.Cs.row (1 : @Nat) (@Go.Proofs.Ytjndgegfonhhfaa.Nts.n x) (fun (k : @Nat) => [(Go.Value.int @Go.IntKind.i64 (@Go.Proofs.Ytjndgegfonhhfaa.Nts.g x k))]) (@List.nil (@Prod @Nat (@List @Go.Value)))) = (@Go.Proofs.Ytjndgegfonhhfaa.SE.Cs.row (1 : @Nat) (@Go.Proofs.Ytjndgegfonhhfaa.Nts.n x) (fun (k : @Nat) => [(Go.Value.int @Go.IntKind.i64 (@Go.Proofs.Ytjndgegfonhhfaa.Nts.g x k))]) (@List.nil (@Prod @Nat (@List @Go.Value))))) ∧
  (@Bool.true = @Bool.true)) ∧
  ((((@Go.Proofs.Ytjndgegfonhhfaa.SE.Cs.row (1 : @Nat) ((@Go.Proofs.Ytjndgegfonhhfaa.Nts.n x) + (3 : @Nat)) (fun (k : @Nat) => [(Go.Value.int @Go.IntKind.i64 (@cond @Int (@Nat.blt k (@Go.Proofs.Ytjndgegfonhhfaa.Nts.n x)) (@Go.Proofs.Ytjndgegfonhhfaa.Nts.g x k) (-(777 : @Int))))]) (@List.nil (@Prod @Nat (@List @Go.Value)))) = (@Go.Proofs.Ytjndgegfonhhfaa.SE.Cs.row (1 : @Nat) ((@Go.Proofs.Ytjndgegfonhhfaa.Nts.n x) + (3 : @Nat)) (fun (k : @Nat) => [(Go.Value.int @Go.IntKind.i64 (@cond @Int (@Nat.blt k (@Go.Proofs.Ytjndgegfonhhfaa.Nts.n x)) (@Go.Proofs.Ytjndgegfonhhfaa.Nts.g x k) (-(777 : @Int))))]) (@List.nil (@Prod @Nat (@List @Go.Value))))) ∧
  (@Bool.true = @Bool.true)) ∧
  True)))))) ∧
  ((∀ (s : @Nat), ((s ≤ (@Go.Proofs.Ytjndgegfonhhfaa.Nts.n x)) → (Go.Proofs.Ytjndgegfonhhfaa.SE.cP (decide (((s : Nat) : @Int) < (((@Go.Proofs.Ytjndgegfonhhfaa.Nts.n x) : Nat) : @Int))) ((((0 : @Int) ≤ ((s : Nat) : @Int)) ∧
  (((s : Nat) : @Int) < (((@Go.Proofs.Ytjndgegfonhhfaa.Nts.n x) : Nat) : @Int))) ∧
  ((((0 : @Nat) + s) < ((@Go.Proofs.Ytjndgegfonhhfaa.Nts.n x) + (3 : @Nat))) ∧
  ((((0 : @Int) ≤ ((s : Nat) : @Int)) ∧
  (((s : Nat) : @Int) < (((@Go.Proofs.Ytjndgegfonhhfaa.Nts.n x) : Nat) : @Int))) ∧
  ((((0 : @Nat) + s) < (@Go.Proofs.Ytjndgegfonhhfaa.Nts.n x)) ∧
  (Go.Proofs.Ytjndgegfonhhfaa.SE.cP (@bne @Int (@instBEqOfDecidableEq @Int @Int.instDecidableEq) (@cond @Int (@Nat.blt ((0 : @Nat) + s) (@Go.Proofs.Ytjndgegfonhhfaa.Nts.n x)) (@Go.Proofs.Ytjndgegfonhhfaa.Nts.g x ((0 : @Nat) + s)) (-(777 : @Int))) (@Go.Proofs.Ytjndgegfonhhfaa.Nts.g x ((0 : @Nat) + s))) (∃ (y : Unit), (True ∧
  ((@Bool.true = @Bool.false) ∧
  ((((@Go.Proofs.Ytjndgegfonhhfaa.SE.Cs.row (1 : @Nat) ((@Go.Proofs.Ytjndgegfonhhfaa.Nts.n x) + (3 : @Nat)) (fun (k : @Nat) => [(Go.Value.int @Go.IntKind.i64 (@cond @Int (@Nat.blt k (@Go.Proofs.Ytjndgegfonhhfaa.Nts.n x)) (@Go.Proofs.Ytjndgegfonhhfaa.Nts.g x k) (-(777 : @Int))))]) (@List.nil (@Prod @Nat (@List @Go.Value)))) = (@Go.Proofs.Ytjndgegfonhhfaa.SE.Cs.row (1 : @Nat) ((@Go.Proofs.Ytjndgegfonhhfaa.Nts.n x) + (3 : @Nat)) (fun (k : @Nat) => [(Go.Value.int @Go.IntKind.i64 (@cond @Int (@Nat.blt k (@Go.Proofs.Ytjndgegfonhhfaa.Nts.n x)) (@Go.Proofs.Ytjndgegfonhhfaa.Nts.g x k) (-(777 : @Int))))]) (@List.nil (@Prod @Nat (@List @Go.Value))))) ∧
  (@Bool.true = @Bool.true)) ∧
  ((((@Go.Proofs.Ytjndgegfonhhfaa.SE.Cs.row (1 : @Nat) (@Go.Proofs.Ytjndgegfonhhfaa.Nts.n x) (fun (k : @Nat) => [(Go.Value.int @Go.IntKind.i64 (@Go.Proofs.Ytjndgegfonhhfaa.Nts.g x k))]) (@List.nil (@Prod @Nat (@List @Go.Value)))) = (@Go.Proofs.Ytjndgegfonhhfaa.SE.Cs.row (1 : @Nat) (@Go.Proofs.Ytjndgegfonhhfaa.Nts.n x) (fun (k : @Nat) => [(Go.Value.int @Go.IntKind.i64 (@Go.Proofs.Ytjndgegfonhhfaa.Nts.g x k))]) (@List.nil (@Prod @Nat (@List @Go.Value))))) ∧
  (@Bool.true = @Bool.true)) ∧
  True))))) ((@Go.Proofs.Ytjndgegfonhhfaa.SE.I64 (((s : Nat) : @Int) + (1 : @Int))) ∧
  (∃ (s_1 : @Nat), ((s_1 ≤ (@Go.Proofs.Ytjndgegfonhhfaa.Nts.n x)) ∧
  ((((@Go.Proofs.Ytjndgegfonhhfaa.Nts.n x) - s_1) < ((@Go.Proofs.Ytjndgegfonhhfaa.Nts.n x) - s)) ∧
  (((((s_1 : Nat) : @Int) = (((s : Nat) : @Int) + (1 : @Int))) ∧
  True) ∧
  ((((@Go.Proofs.Ytjndgegfonhhfaa.SE.Cs.row (1 : @Nat) (@Go.Proofs.Ytjndgegfonhhfaa.Nts.n x) (fun (k : @Nat) => [(Go.Value.int @Go.IntKind.i64 (@Go.Proofs.Ytjndgegfonhhfaa.Nts.g x k))]) (@List.nil (@Prod @Nat (@List @Go.Value)))) = (@Go.Proofs.Ytjndgegfonhhfaa.SE.Cs.row (1 : @Nat) (@Go.Proofs.Ytjndgegfonhhfaa.Nts.n x) (fun (k : @Nat) => [(Go.Value.int @Go.IntKind.i64 (@Go.Proofs.Ytjndgegfonhhfaa.Nts.g x k))]) (@List.nil (@Prod @Nat (@List @Go.Value))))) ∧
  (@Bool.true = @Bool.true)) ∧
  ((((@Go.Proofs.Ytjndgegfonhhfaa.SE.Cs.row (1 : @Nat) ((@Go.Proofs.Ytjndgegfonhhfaa.Nts.n x) + (3 : @Nat)) (fun (k : @Nat) => [(Go.Value.int @Go.IntKind.i64 (@cond @Int (@Nat.blt k (@Go.Proofs.Ytjndgegfonhhfaa.Nts.n x)) (@Go.Proofs.Ytjndgegfonhhfaa.Nts.g x k) (-(777 : @Int))))]) (@List.nil (@Prod @Nat (@List @Go.Value)))) = (@Go.Proofs.Ytjndgegfonhhfaa.SE.Cs.row (1 : @Nat) ((@Go.Proofs.Ytjndgegfonhhfaa.Nts.n x) + (3 : @Nat)) (fun (k : @Nat) => [(Go.Value.int @Go.IntKind.i64 (@cond @Int (@Nat.blt k (@Go.Proofs.Ytjndgegfonhhfaa.Nts.n x)) (@Go.Proofs.Ytjndgegfonhhfaa.Nts.g x k) (-(777 : @Int))))]) (@List.nil (@Prod @Nat (@List @Go.Value))))) ∧
  (@Bool.true = @Bool.true)) ∧
  True)))))))))))) (∃ (y : Unit), (True ∧
  ((@Bool.true = @Bool.true) ∧
  ((((@Go.Proofs.Ytjndgegfonhhfaa.SE.Cs.row (1 : @Nat) ((@Go.Proofs.Ytjndgegfonhhfaa.Nts.n x) + (3 : @Nat)) (fun (k : @Nat) => [(Go.Value.int @Go.IntKind.i64 (@cond @Int (@Nat.blt k (@Go.Proofs.Ytjndgegfonhhfaa.Nts.n x)) (@Go.Proofs.Ytjndgegfonhhfaa.Nts.g x k) (-(777 : @Int))))]) (@List.nil (@Prod @Nat (@List @Go.Value)))) = (@Go.Proofs.Ytjndgegfonhhfaa.SE.Cs.row (1 : @Nat) ((@Go.Proofs.Ytjndgegfonhhfaa.Nts.n x) + (3 : @Nat)) (fun (k : @Nat) => [(Go.Value.int @Go.IntKind.i64 (@cond @Int (@Nat.blt k (@Go.Proofs.Ytjndgegfonhhfaa.Nts.n x)) (@Go.Proofs.Ytjndgegfonhhfaa.Nts.g x k) (-(777 : @Int))))]) (@List.nil (@Prod @Nat (@List @Go.Value))))) ∧
  (@Bool.true = @Bool.true)) ∧
  ((((@Go.Proofs.Ytjndgegfonhhfaa.SE.Cs.row (1 : @Nat) (@Go.Proofs.Ytjndgegfonhhfaa.Nts.n x) (fun (k : @Nat) => [(Go.Value.int @Go.IntKind.i64 (@Go.Proofs.Ytjndgegfonhhfaa.Nts.g x k))]) (@List.nil (@Prod @Nat (@List @Go.Value)))) = (@Go.Proofs.Ytjndgegfonhhfaa.SE.Cs.row (1 : @Nat) (@Go.Proofs.Ytjndgegfonhhfaa.Nts.n x) (fun (k : @Nat) => [(Go.Value.int @Go.IntKind.i64 (@Go.Proofs.Ytjndgegfonhhfaa.Nts.g x k))]) (@List.nil (@Prod @Nat (@List @Go.Value))))) ∧
  (@Bool.true = @Bool.true)) ∧
  True)))))))) ∧
  True)))))))))))))))))))
theorem keptVC_ok (x : Nts) : keptVC x = keptVC_wp x := by kernel_rfl
def rslabsVC_wp (a : Int) : Prop := wpF Try.prog [] tt (anSlabs a) 200 5 60 (slabsC.args a) (hO slabsC.k (slabsC.os a)) (fun v h' => endsP slabsC.k a v h' slabsC.outs)
def rslabsVC (a : Int) : Prop :=
  ((∃ (s : @Nat), (((s ≤ (32 : @Nat)) ∧
  ((s = (0 : @Nat)) ∨ (((2 : @Int) + ((8 : @Int) * ((s : Nat) : @Int))) ≤ a))) ∧
  (True ∧
  (((((s : Nat) : @Int) = (0 : @Int)) ∧
  True) ∧
  True)))) ∧
  ((∀ (s : @Nat), (((s ≤ (32 : @Nat)) ∧
  ((s = (0 : @Nat)) ∨ (((2 : @Int) + ((8 : @Int) * ((s : Nat) : @Int))) ≤ a))) → (Go.Proofs.Ytjndgegfonhhfaa.SE.cP (decide (((s : Nat) : @Int) < (32 : @Int))) ((@Go.Proofs.Ytjndgegfonhhfaa.SE.I64 (((s : Nat) : @Int) + (1 : @Int))) ∧
  ((@Go.Proofs.Ytjndgegfonhhfaa.SE.I64 ((8 : @Int) * (((s : Nat) : @Int) + (1 : @Int)))) ∧
  ((@Go.Proofs.Ytjndgegfonhhfaa.SE.I64 ((2 : @Int) + ((8 : @Int) * (((s : Nat) : @Int) + (1 : @Int))))) ∧
  (Go.Proofs.Ytjndgegfonhhfaa.SE.cP (decide (((2 : @Int) + ((8 : @Int) * (((s : Nat) : @Int) + (1 : @Int)))) ≤ a)) ((@Go.Proofs.Ytjndgegfonhhfaa.SE.I64 (((s : Nat) : @Int) + (1 : @Int))) ∧
  (∃ (s_1 : @Nat), (((s_1 ≤ (32 : @Nat)) ∧
  ((s_1 = (0 : @Nat)) ∨ (((2 : @Int) + ((8 : @Int) * ((s_1 : Nat) : @Int))) ≤ a))) ∧
  ((((32 : @Nat) - s_1) < ((32 : @Nat) - s)) ∧
  (((((s_1 : Nat) : @Int) = (((s : Nat) : @Int) + (1 : @Int))) ∧
  True) ∧
  True))))) (∃ (y : Unit), (True ∧
  (((@Go.Proofs.Ytjndgegfonhhfaa.slabsM a) = ((s : Nat) : @Int)) ∧
  True))))))) (∃ (y : Unit), (True ∧
  (((@Go.Proofs.Ytjndgegfonhhfaa.slabsM a) = ((s : Nat) : @Int)) ∧
  True)))))) ∧
  True))
theorem rslabsVC_ok (a : Int) : rslabsVC a = rslabsVC_wp a := by kernel_rfl
def slabsVC_wp (a : Int) : Prop := wpF Try.prog [] tt (fun _ _ _ _ => []) 200 5 59 (slabsC.args a) (hO slabsC.k (slabsC.os a)) (fun v h' => endsP slabsC.k a v h' slabsC.outs)
def slabsVC (a : Int) : Prop :=
  (Go.Proofs.Ytjndgegfonhhfaa.SE.cP (decide (a < (10 : @Int))) (∃ (y : Unit), (True ∧
  (((@Go.Proofs.Ytjndgegfonhhfaa.slabsM a) = (0 : @Int)) ∧
  True))) ((@Go.Proofs.Ytjndgegfonhhfaa.SE.I64 ((@Go.Proofs.Ytjndgegfonhhfaa.SE.imin a (258 : @Int)) - (2 : @Int))) ∧
  ((((8 : @Int) = (0 : @Int)) → False) ∧
  ((@Go.Proofs.Ytjndgegfonhhfaa.SE.I64 (@Int.tdiv ((@Go.Proofs.Ytjndgegfonhhfaa.SE.imin a (258 : @Int)) - (2 : @Int)) (8 : @Int))) ∧
  (∃ (y : Unit), (True ∧
  (((@Go.Proofs.Ytjndgegfonhhfaa.slabsM a) = (@Int.tdiv ((@Go.Proofs.Ytjndgegfonhhfaa.SE.imin a (258 : @Int)) - (2 : @Int)) (8 : @Int))) ∧
  True)))))))
theorem slabsVC_ok (a : Int) : slabsVC a = slabsVC_wp a := by kernel_rfl
end Go.Proofs.Ytjndgegfonhhfaa
