/- What is asked of CostCloses. -/
import Derived.Test.YtjndgegfonhhfaaDF
import Derived.KernelRfl
namespace Go.Proofs.Ytjndgegfonhhfaa
open Go SE
def costClosesVC_wp (x : Nts) (a b : Int) : Prop := wpF Try.prog tblD tt (fun _ _ _ _ => []) 200 5 7 [.slR 0 0 1 x.n, i64 a, i64 b] (hO 1 [.ro (rowI x.g x.n)]) (fun v h' => endP 1 (.lit (.bool true)) [.ro (rowI x.g x.n)] v h')
def costClosesVC (x : Nts) (a b : Int) : Prop :=
  (Go.Proofs.Ytjndgegfonhhfaa.SE.cP (decide (@GT.gt @Int @Int.instLTInt (((@Go.Proofs.Ytjndgegfonhhfaa.Nts.n x) : Nat) : @Int) (400 : @Int))) ((@Bool.true = @Bool.true) ∧
  ((((@Go.Proofs.Ytjndgegfonhhfaa.SE.Cs.row (1 : @Nat) (@Go.Proofs.Ytjndgegfonhhfaa.Nts.n x) (fun (k : @Nat) => [(Go.Value.int @Go.IntKind.i64 (@Go.Proofs.Ytjndgegfonhhfaa.Nts.g x k))]) (@List.nil (@Prod @Nat (@List @Go.Value)))) = (@Go.Proofs.Ytjndgegfonhhfaa.SE.Cs.row (1 : @Nat) (@Go.Proofs.Ytjndgegfonhhfaa.Nts.n x) (fun (k : @Nat) => [(Go.Value.int @Go.IntKind.i64 (@Go.Proofs.Ytjndgegfonhhfaa.Nts.g x k))]) (@List.nil (@Prod @Nat (@List @Go.Value))))) ∧
  (@Bool.true = @Bool.true)) ∧
  True)) (∃ (x_1 : @Go.Proofs.Ytjndgegfonhhfaa.Nts), (((@Go.Proofs.Ytjndgegfonhhfaa.Nts.n x_1) < (1099511627776 : @Nat)) ∧
  (((((0 : @Nat) = (0 : @Nat)) ∧
  ((@Go.Proofs.Ytjndgegfonhhfaa.Nts.n x_1) = (@Go.Proofs.Ytjndgegfonhhfaa.Nts.n x))) ∧
  True) ∧
  (((((@Go.Proofs.Ytjndgegfonhhfaa.Nts.n x_1) = (@Go.Proofs.Ytjndgegfonhhfaa.Nts.n x)) ∧
  (∀ (q : @Nat), ((q < (@Go.Proofs.Ytjndgegfonhhfaa.Nts.n x_1)) → ([(Go.Value.int @Go.IntKind.i64 (@Go.Proofs.Ytjndgegfonhhfaa.Nts.g x_1 q))] = [(Go.Value.int @Go.IntKind.i64 (@Go.Proofs.Ytjndgegfonhhfaa.Nts.g x q))])))) ∧
  True) ∧
  (∀ (y : Unit), (True → (∃ (x_2 : @Go.Proofs.Ytjndgegfonhhfaa.Nts), ((((@Go.Proofs.Ytjndgegfonhhfaa.Nts.n x_2) ≤ (@Go.Proofs.Ytjndgegfonhhfaa.Nts.N x_2)) ∧
  ((@Go.Proofs.Ytjndgegfonhhfaa.Nts.n x_2) < (1099511627776 : @Nat))) ∧
  (((((0 : @Nat) = (0 : @Nat)) ∧
  ((@Go.Proofs.Ytjndgegfonhhfaa.Nts.n x_2) = (@Go.Proofs.Ytjndgegfonhhfaa.Nts.n x_1))) ∧
  True) ∧
  (((((@Go.Proofs.Ytjndgegfonhhfaa.Nts.N x_2) = ((@Go.Proofs.Ytjndgegfonhhfaa.Nts.n x_1) + (3 : @Nat))) ∧
  (∀ (q : @Nat), ((q < (@Go.Proofs.Ytjndgegfonhhfaa.Nts.N x_2)) → ([(Go.Value.int @Go.IntKind.i64 (@Go.Proofs.Ytjndgegfonhhfaa.Nts.g x_2 q))] = [(Go.Value.int @Go.IntKind.i64 (@cond @Int (@Nat.blt q (@Go.Proofs.Ytjndgegfonhhfaa.Nts.n x_1)) (@Go.Proofs.Ytjndgegfonhhfaa.Nts.g x_1 q) (-(777 : @Int))))])))) ∧
  True) ∧
  (∀ (y_1 : Unit), (True → (∃ (x_3 : @Go.Proofs.Ytjndgegfonhhfaa.Nts), ((((@Go.Proofs.Ytjndgegfonhhfaa.Nts.n x_3) ≤ (@Go.Proofs.Ytjndgegfonhhfaa.Nts.N x_3)) ∧
  ((@Go.Proofs.Ytjndgegfonhhfaa.Nts.n x_3) < (1099511627776 : @Nat))) ∧
  (((((0 : @Nat) = (0 : @Nat)) ∧
  ((@Go.Proofs.Ytjndgegfonhhfaa.Nts.n x_3) = (@Go.Proofs.Ytjndgegfonhhfaa.Nts.n x))) ∧
  True) ∧
  (((((@Go.Proofs.Ytjndgegfonhhfaa.Nts.N x_3) = (@Go.Proofs.Ytjndgegfonhhfaa.Nts.n x)) ∧
  (∀ (q : @Nat), ((q < (@Go.Proofs.Ytjndgegfonhhfaa.Nts.N x_3)) → ([(Go.Value.int @Go.IntKind.i64 (@Go.Proofs.Ytjndgegfonhhfaa.Nts.g x_3 q))] = [(Go.Value.int @Go.IntKind.i64 (@Go.Proofs.Ytjndgegfonhhfaa.Nts.g x q))])))) ∧
  True) ∧
  (∀ (y_2 : Unit), (True → (Go.Proofs.Ytjndgegfonhhfaa.SE.cP (@Bool.and (@BEq.beq @Int (@instBEqOfDecidableEq @Int @Int.instDecidableEq) ((((@Go.Proofs.Ytjndgegfonhhfaa.cntTo (@Go.Proofs.Ytjndgegfonhhfaa.Nts.g x_2) (@Go.Proofs.Ytjndgegfonhhfaa.Nts.n x_2) (258 : @Nat)) : Nat) : @Int) + (4 : @Int)) ((((@Go.Proofs.Ytjndgegfonhhfaa.cntTo (@Go.Proofs.Ytjndgegfonhhfaa.Nts.g x_3) (@Go.Proofs.Ytjndgegfonhhfaa.Nts.n x_3) (258 : @Nat)) : Nat) : @Int) + (4 : @Int))) (@Bool.and @Bool.true (@Bool.and (@BEq.beq @Int (@instBEqOfDecidableEq @Int @Int.instDecidableEq) ((((@Go.Proofs.Ytjndgegfonhhfaa.cntTo (@Go.Proofs.Ytjndgegfonhhfaa.Nts.g x_2) (@Go.Proofs.Ytjndgegfonhhfaa.Nts.n x_2) (258 : @Nat)) : Nat) : @Int) + (1 : @Int)) ((((@Go.Proofs.Ytjndgegfonhhfaa.cntTo (@Go.Proofs.Ytjndgegfonhhfaa.Nts.g x_3) (@Go.Proofs.Ytjndgegfonhhfaa.Nts.n x_3) (258 : @Nat)) : Nat) : @Int) + (1 : @Int))) @Bool.true))) (∃ (x_4 : (@Prod @Int @Int)), (True ∧
  ((((@Prod.fst @Int @Int x_4) = a) ∧
  (((@Prod.snd @Int @Int x_4) = b) ∧
  True)) ∧
  (True ∧
  (∀ (y_3 : Unit), (True → (∃ (x_5 : (@Prod @Int @Int)), (True ∧
  ((((@Prod.fst @Int @Int x_5) = a) ∧
  (((@Prod.snd @Int @Int x_5) = b) ∧
  True)) ∧
  (True ∧
  (∀ (y_4 : Unit), (True → (Go.Proofs.Ytjndgegfonhhfaa.SE.cP (@Bool.and (@BEq.beq @Int (@instBEqOfDecidableEq @Int @Int.instDecidableEq) (@Go.Proofs.Ytjndgegfonhhfaa.rvS (@Prod.fst @Int @Int x_4) (@Prod.snd @Int @Int x_4)) (@Go.Proofs.Ytjndgegfonhhfaa.rvS (@Prod.fst @Int @Int x_5) (@Prod.snd @Int @Int x_5))) (@Bool.and (@BEq.beq @Int (@instBEqOfDecidableEq @Int @Int.instDecidableEq) (@Go.Proofs.Ytjndgegfonhhfaa.rvN (@Prod.fst @Int @Int x_4) (@Prod.snd @Int @Int x_4)) (@Go.Proofs.Ytjndgegfonhhfaa.rvN (@Prod.fst @Int @Int x_5) (@Prod.snd @Int @Int x_5))) (@Bool.and (@BEq.beq @Int (@instBEqOfDecidableEq @Int @Int.instDecidableEq) (@Go.Proofs.Ytjndgegfonhhfaa.rvN (@Prod.fst @Int @Int x_4) (@Prod.snd @Int @Int x_4)) (@Go.Proofs.Ytjndgegfonhhfaa.rvN (@Prod.fst @Int @Int x_5) (@Prod.snd @Int @Int x_5))) (@Bool.and (@BEq.beq @Int (@instBEqOfDecidableEq @Int @Int.instDecidableEq) (@Go.Proofs.Ytjndgegfonhhfaa.rvF (@Prod.fst @Int @Int x_4)) (@Go.Proofs.Ytjndgegfonhhfaa.rvF (@Prod.fst @Int @Int x_5))) @Bool.true)))) (∃ (x_6 : @Go.Proofs.Ytjndgegfonhhfaa.Nts), (((@Go.Proofs.Ytjndgegfonhhfaa.Nts.n x_6) < (1099511627776 : @Nat)) ∧
  (((((0 : @Nat) = (0 : @Nat)) ∧
  (((@Go.Proofs.Ytjndgegfonhhfaa.Nts.n x_6) = (@Go.Proofs.Ytjndgegfonhhfaa.Nts.n x_1)) ∧
  (((@Go.Proofs.Ytjndgegfonhhfaa.Nts.n x_6) + (3 : @Nat)) = ((@Go.Proofs.Ytjndgegfonhhfaa.Nts.n x_1) + (3 : @Nat))))) ∧
  ((((0 : @Nat) = (0 : @Nat)) ∧
  ((@Go.Proofs.Ytjndgegfonhhfaa.Nts.n x_6) = (@Go.Proofs.Ytjndgegfonhhfaa.Nts.n x))) ∧
  True)) ∧
  ((((((@Go.Proofs.Ytjndgegfonhhfaa.Nts.n x_6) + (3 : @Nat)) = ((@Go.Proofs.Ytjndgegfonhhfaa.Nts.n x_1) + (3 : @Nat))) ∧
  (∀ (q : @Nat), ((q < ((@Go.Proofs.Ytjndgegfonhhfaa.Nts.n x_6) + (3 : @Nat))) → ([(Go.Value.int @Go.IntKind.i64 (@cond @Int (@Nat.blt q (@Go.Proofs.Ytjndgegfonhhfaa.Nts.n x_6)) (@Go.Proofs.Ytjndgegfonhhfaa.Nts.g x_6 q) (-(777 : @Int))))] = [(Go.Value.int @Go.IntKind.i64 (@cond @Int (@Nat.blt q (@Go.Proofs.Ytjndgegfonhhfaa.Nts.n x_1)) (@Go.Proofs.Ytjndgegfonhhfaa.Nts.g x_1 q) (-(777 : @Int))))])))) ∧
  ((((@Go.Proofs.Ytjndgegfonhhfaa.Nts.n x_6) = (@Go.Proofs.Ytjndgegfonhhfaa.Nts.n x)) ∧
  (∀ (q : @Nat), ((q < (@Go.Proofs.Ytjndgegfonhhfaa.Nts.n x_6)) → ([(Go.Value.int @Go.IntKind.i64 (@Go.Proofs.Ytjndgegfonhhfaa.Nts.g x_6 q))] = [(Go.Value.int @Go.IntKind.i64 (@Go.Proofs.Ytjndgegfonhhfaa.Nts.g x q))])))) ∧
  True)) ∧
  (∀ (y_5 : Unit), (True → ((@Bool.true = @Bool.true) ∧
  ((((@Go.Proofs.Ytjndgegfonhhfaa.SE.Cs.row (1 : @Nat) (@Go.Proofs.Ytjndgegfonhhfaa.Nts.n x) (fun (k : @Nat) => [(Go.Value.int @Go.IntKind.i64 (@Go.Proofs.Ytjndgegfonhhfaa.Nts.g x k))]) (@List.nil (@Prod @Nat (@List @Go.Value)))) = (@Go.Proofs.Ytjndgegfonhhfaa.SE.Cs.row (1 : @Nat) (@Go.Proofs.Ytjndgegfonhhfaa.Nts.n x) (fun (k : @Nat) => [(Go.Value.int @Go.IntKind.i64 (@Go.Proofs.Ytjndgegfonhhfaa.Nts.g x k))]) (@List.nil (@Prod @Nat (@List @Go.Value))))) ∧
  (@Bool.true = @Bool.true)) ∧
  True)))))))) ((@Bool.true = @Bool.false) ∧
  ((((@Go.Proofs.Ytjndgegfonhhfaa.SE.Cs.row (1 : @Nat) (@Go.Proofs.Ytjndgegfonhhfaa.Nts.n x) (fun (k : @Nat) => [(Go.Value.int @Go.IntKind.i64 (@Go.Proofs.Ytjndgegfonhhfaa.Nts.g x k))]) (@List.nil (@Prod @Nat (@List @Go.Value)))) = (@Go.Proofs.Ytjndgegfonhhfaa.SE.Cs.row (1 : @Nat) (@Go.Proofs.Ytjndgegfonhhfaa.Nts.n x) (fun (k : @Nat) => [(Go.Value.int @Go.IntKind.i64 (@Go.Proofs.Ytjndgegfonhhfaa.Nts.g x k))]) (@List.nil (@Prod @Nat (@List @Go.Value))))) ∧
  (@Bool.true = @Bool.true)) ∧
  True))))))))))))))) ((@Bool.true = @Bool.false) ∧
  ((((@Go.Proofs.Ytjndgegfonhhfaa.SE.Cs.row (1 : @Nat) (@Go.Proofs.Ytjndgegfonhhfaa.Nts.n x) (fun (k : @Nat) => [(Go.Value.int @Go.IntKind.i64 (@Go.Proofs.Ytjndgegfonhhfaa.Nts.g x k))]) (@List.nil (@Prod @Nat (@List @Go.Value)))) = (@Go.Proofs.Ytjndgegfonhhfaa.SE.Cs.row (1 : @Nat) (@Go.Proofs.Ytjndgegfonhhfaa.Nts.n x) (fun (k : @Nat) => [(Go.Value.int @Go.IntKind.i64 (@Go.Proofs.Ytjndgegfonhhfaa.Nts.g x k))]) (@List.nil (@Prod @Nat (@List @Go.Value))))) ∧
  (@Bool.true = @Bool.true)) ∧
  True))))))))))))))))))))))
theorem costClosesVC_ok (x : Nts) (a b : Int) : costClosesVC x a b = costClosesVC_wp x a b := by kernel_rfl
end Go.Proofs.Ytjndgegfonhhfaa
