/- What is asked of a sum. -/
import Derived.Test.YtjndgegfonhhfaaCD
import Derived.KernelRfl
namespace Go.Proofs.Ytjndgegfonhhfaa
open Go SE
def sumVC_wp (c : Nat → Cst) (n : Nat) (r : Cst) : Prop := wpF Try.prog [] tt (anSum c n) 200 5 15 [.slR 0 0 6 n] (hO 1 [.ro (rowC c n)]) (fun v h' => endP 1 r.av [.ro (rowC c n)] v h')
def sumVC (c : Nat → Cst) (n : Nat) (r : Cst) : Prop :=
  ((∃ (s : @Nat), ((s ≤ n) ∧
  (True ∧
  (((((s : Nat) : @Int) = (0 : @Int)) ∧
  True) ∧
  ((((@Go.Proofs.Ytjndgegfonhhfaa.Cst.s0 (@Go.Proofs.Ytjndgegfonhhfaa.Cst.sum c s)) = (0 : @Int)) ∧
  (((@Go.Proofs.Ytjndgegfonhhfaa.Cst.s1 (@Go.Proofs.Ytjndgegfonhhfaa.Cst.sum c s)) = (0 : @Int)) ∧
  (((@Go.Proofs.Ytjndgegfonhhfaa.Cst.s2 (@Go.Proofs.Ytjndgegfonhhfaa.Cst.sum c s)) = (0 : @Int)) ∧
  (((@Go.Proofs.Ytjndgegfonhhfaa.Cst.s3 (@Go.Proofs.Ytjndgegfonhhfaa.Cst.sum c s)) = (0 : @Int)) ∧
  (((@Go.Proofs.Ytjndgegfonhhfaa.Cst.s4 (@Go.Proofs.Ytjndgegfonhhfaa.Cst.sum c s)) = (0 : @Int)) ∧
  (((@Go.Proofs.Ytjndgegfonhhfaa.Cst.s5 (@Go.Proofs.Ytjndgegfonhhfaa.Cst.sum c s)) = (0 : @Int)) ∧
  True)))))) ∧
  ((((0 : @Int) = (0 : @Int)) ∧
  (((0 : @Int) = (0 : @Int)) ∧
  (((0 : @Int) = (0 : @Int)) ∧
  (((0 : @Int) = (0 : @Int)) ∧
  (((0 : @Int) = (0 : @Int)) ∧
  (((0 : @Int) = (0 : @Int)) ∧
  True)))))) ∧
  ((((@Go.Proofs.Ytjndgegfonhhfaa.SE.Cs.row (6 : @Nat) n (fun (k : @Nat) => [(Go.Value.int @Go.IntKind.i64 (@Go.Proofs.Ytjndgegfonhhfaa.Cst.s0 (c k))), (Go.Value.int @Go.IntKind.i64 (@Go.Proofs.Ytjndgegfonhhfaa.Cst.s1 (c k))), (Go.Value.int @Go.IntKind.i64 (@Go.Proofs.Ytjndgegfonhhfaa.Cst.s2 (c k))), (Go.Value.int @Go.IntKind.i64 (@Go.Proofs.Ytjndgegfonhhfaa.Cst.s3 (c k))), (Go.Value.int @Go.IntKind.i64 (@Go.Proofs.Ytjndgegfonhhfaa.Cst.s4 (c k))), (Go.Value.int @Go.IntKind.i64 (@Go.Proofs.Ytjndgegfonhhfaa.Cst.s5 (c k)))]) (@List.nil (@Prod @Nat (@List @Go.Value)))) = (@Go.Proofs.Ytjndgegfonhhfaa.SE.Cs.row (6 : @Nat) n (fun (k : @Nat) => [(Go.Value.int @Go.IntKind.i64 (@Go.Proofs.Ytjndgegfonhhfaa.Cst.s0 (c k))), (Go.Value.int @Go.IntKind.i64 (@Go.Proofs.Ytjndgegfonhhfaa.Cst.s1 (c k))), (Go.Value.int @Go.IntKind.i64 (@Go.Proofs.Ytjndgegfonhhfaa.Cst.s2 (c k))), (Go.Value.int @Go.IntKind.i64 (@Go.Proofs.Ytjndgegfonhhfaa.Cst.s3 (c k))), (Go.Value.int @Go.IntKind.i64 (@Go.Proofs.Ytjndgegfonhhfaa.Cst.s4 (c k))), (Go.Value.int @Go.IntKind.i64 (@Go.Proofs.Ytjndgegfonhhfaa.Cst.s5 (c k)))]) (@List.nil (@Prod @Nat (@List @Go.Value))))) ∧
  (@Bool.true = @Bool.true)) ∧
  True))))))) ∧
  ((∀ (s : @Nat), ((s ≤ n) → (Go.Proofs.Ytjndgegfonhhfaa.SE.cP (decide (((s : Nat) : @Int) < ((n : Nat) : @Int))) ((((0 : @Int) ≤ ((s : Nat) : @Int)) ∧
  (((s : Nat) : @Int) < ((n : Nat) : @Int))) ∧
  ((((0 : @Nat) + s) < n) ∧
  (Go.Proofs.Ytjndgegfonhhfaa.SE.cP (@Bool.and (@BEq.beq @Int (@instBEqOfDecidableEq @Int @Int.instDecidableEq) (@Go.Proofs.Ytjndgegfonhhfaa.Cst.s0 (c ((0 : @Nat) + s))) (0 : @Int)) (@Bool.and (@BEq.beq @Int (@instBEqOfDecidableEq @Int @Int.instDecidableEq) (@Go.Proofs.Ytjndgegfonhhfaa.Cst.s1 (c ((0 : @Nat) + s))) (0 : @Int)) (@Bool.and (@BEq.beq @Int (@instBEqOfDecidableEq @Int @Int.instDecidableEq) (@Go.Proofs.Ytjndgegfonhhfaa.Cst.s2 (c ((0 : @Nat) + s))) (0 : @Int)) (@Bool.and (@BEq.beq @Int (@instBEqOfDecidableEq @Int @Int.instDecidableEq) (@Go.Proofs.Ytjndgegfonhhfaa.Cst.s3 (c ((0 : @Nat) + s))) (0 : @Int)) (@Bool.and (@BEq.beq @Int (@instBEqOfDecidableEq @Int @Int.instDecidableEq) (@Go.Proofs.Ytjndgegfonhhfaa.Cst.s4 (c ((0 : @Nat) + s))) (0 : @Int)) (@Bool.and (@BEq.beq @Int (@instBEqOfDecidableEq @Int @Int.instDecidableEq) (@Go.Proofs.Ytjndgegfonhhfaa.Cst.s5 (c ((0 : @Nat) + s))) (0 : @Int)) @Bool.true)))))) ((@Go.Proofs.Ytjndgegfonhhfaa.SE.I64 (((s : Nat) : @Int) + (1 : @Int))) ∧
  (∃ (s_1 : @Nat), ((s_1 ≤ n) ∧
  (((n - s_1) < (n - s)) ∧
  (((((s_1 : Nat) : @Int) = (((s : Nat) : @Int) + (1 : @Int))) ∧
  True) ∧
  ((((@Go.Proofs.Ytjndgegfonhhfaa.Cst.s0 (@Go.Proofs.Ytjndgegfonhhfaa.Cst.sum c s_1)) = (@Go.Proofs.Ytjndgegfonhhfaa.Cst.s0 (@Go.Proofs.Ytjndgegfonhhfaa.Cst.sum c s))) ∧
  (((@Go.Proofs.Ytjndgegfonhhfaa.Cst.s1 (@Go.Proofs.Ytjndgegfonhhfaa.Cst.sum c s_1)) = (@Go.Proofs.Ytjndgegfonhhfaa.Cst.s1 (@Go.Proofs.Ytjndgegfonhhfaa.Cst.sum c s))) ∧
  (((@Go.Proofs.Ytjndgegfonhhfaa.Cst.s2 (@Go.Proofs.Ytjndgegfonhhfaa.Cst.sum c s_1)) = (@Go.Proofs.Ytjndgegfonhhfaa.Cst.s2 (@Go.Proofs.Ytjndgegfonhhfaa.Cst.sum c s))) ∧
  (((@Go.Proofs.Ytjndgegfonhhfaa.Cst.s3 (@Go.Proofs.Ytjndgegfonhhfaa.Cst.sum c s_1)) = (@Go.Proofs.Ytjndgegfonhhfaa.Cst.s3 (@Go.Proofs.Ytjndgegfonhhfaa.Cst.sum c s))) ∧
  (((@Go.Proofs.Ytjndgegfonhhfaa.Cst.s4 (@Go.Proofs.Ytjndgegfonhhfaa.Cst.sum c s_1)) = (@Go.Proofs.Ytjndgegfonhhfaa.Cst.s4 (@Go.Proofs.Ytjndgegfonhhfaa.Cst.sum c s))) ∧
  (((@Go.Proofs.Ytjndgegfonhhfaa.Cst.s5 (@Go.Proofs.Ytjndgegfonhhfaa.Cst.sum c s_1)) = (@Go.Proofs.Ytjndgegfonhhfaa.Cst.s5 (@Go.Proofs.Ytjndgegfonhhfaa.Cst.sum c s))) ∧
  True)))))) ∧
  ((((0 : @Int) = (0 : @Int)) ∧
  (((0 : @Int) = (0 : @Int)) ∧
  (((0 : @Int) = (0 : @Int)) ∧
  (((0 : @Int) = (0 : @Int)) ∧
  (((0 : @Int) = (0 : @Int)) ∧
  (((0 : @Int) = (0 : @Int)) ∧
  True)))))) ∧
  ((((@Go.Proofs.Ytjndgegfonhhfaa.SE.Cs.row (6 : @Nat) n (fun (k : @Nat) => [(Go.Value.int @Go.IntKind.i64 (@Go.Proofs.Ytjndgegfonhhfaa.Cst.s0 (c k))), (Go.Value.int @Go.IntKind.i64 (@Go.Proofs.Ytjndgegfonhhfaa.Cst.s1 (c k))), (Go.Value.int @Go.IntKind.i64 (@Go.Proofs.Ytjndgegfonhhfaa.Cst.s2 (c k))), (Go.Value.int @Go.IntKind.i64 (@Go.Proofs.Ytjndgegfonhhfaa.Cst.s3 (c k))), (Go.Value.int @Go.IntKind.i64 (@Go.Proofs.Ytjndgegfonhhfaa.Cst.s4 (c k))), (Go.Value.int @Go.IntKind.i64 (@Go.Proofs.Ytjndgegfonhhfaa.Cst.s5 (c k)))]) (@List.nil (@Prod @Nat (@List @Go.Value)))) = (@Go.Proofs.Ytjndgegfonhhfaa.SE.Cs.row (6 : @Nat) n (fun (k : @Nat) => [(Go.Value.int @Go.IntKind.i64 (@Go.Proofs.Ytjndgegfonhhfaa.Cst.s0 (c k))), (Go.Value.int @Go.IntKind.i64 (@Go.Proofs.Ytjndgegfonhhfaa.Cst.s1 (c k))), (Go.Value.int @Go.IntKind.i64 (@Go.Proofs.Ytjndgegfonhhfaa.Cst.s2 (c k))), (Go.Value.int @Go.IntKind.i64 (@Go.Proofs.Ytjndgegfonhhfaa.Cst.s3 (c k))), (Go.Value.int @Go.IntKind.i64 (@Go.Proofs.Ytjndgegfonhhfaa.Cst.s4 (c k))), (Go.Value.int @Go.IntKind.i64 (@Go.Proofs.Ytjndgegfonhhfaa.Cst.s5 (c k)))]) (@List.nil (@Prod @Nat (@List @Go.Value))))) ∧
  (@Bool.true = @Bool.true)) ∧
  True)))))))) ((@Go.Proofs.Ytjndgegfonhhfaa.SE.I64 ((1099511627776 : @Int) - (@Go.Proofs.Ytjndgegfonhhfaa.Cst.s0 (@Go.Proofs.Ytjndgegfonhhfaa.Cst.sum c s)))) ∧
  ((@Go.Proofs.Ytjndgegfonhhfaa.SE.I64 ((@Go.Proofs.Ytjndgegfonhhfaa.Cst.s0 (@Go.Proofs.Ytjndgegfonhhfaa.Cst.sum c s)) + (@Go.Proofs.Ytjndgegfonhhfaa.SE.imin (@Go.Proofs.Ytjndgegfonhhfaa.SE.imax (@Go.Proofs.Ytjndgegfonhhfaa.Cst.s0 (c ((0 : @Nat) + s))) (0 : @Int)) ((1099511627776 : @Int) - (@Go.Proofs.Ytjndgegfonhhfaa.Cst.s0 (@Go.Proofs.Ytjndgegfonhhfaa.Cst.sum c s)))))) ∧
  ((((Go.Proofs.Ytjndgegfonhhfaa.SE.AV.lit (Go.Value.int @Go.IntKind.i64 (@Go.Proofs.Ytjndgegfonhhfaa.Cst.s2 (c ((0 : @Nat) + s))))) = (Go.Proofs.Ytjndgegfonhhfaa.SE.AV.lit (Go.Value.int @Go.IntKind.i64 (@Go.Proofs.Ytjndgegfonhhfaa.Cst.s2 (c ((0 : @Nat) + s)))))) ∧
  (((Go.Proofs.Ytjndgegfonhhfaa.SE.AV.lit (Go.Value.int @Go.IntKind.i64 (@Go.Proofs.Ytjndgegfonhhfaa.Cst.s2 (@Go.Proofs.Ytjndgegfonhhfaa.Cst.sum c s)))) = (Go.Proofs.Ytjndgegfonhhfaa.SE.AV.lit (Go.Value.int @Go.IntKind.i64 (@Go.Proofs.Ytjndgegfonhhfaa.Cst.s2 (@Go.Proofs.Ytjndgegfonhhfaa.Cst.sum c s))))) ∧
  (((Go.Proofs.Ytjndgegfonhhfaa.SE.AV.lit (Go.Value.int @Go.IntKind.i64 (@Go.Proofs.Ytjndgegfonhhfaa.Cst.s1 (c ((0 : @Nat) + s))))) = (Go.Proofs.Ytjndgegfonhhfaa.SE.AV.lit (Go.Value.int @Go.IntKind.i64 (@Go.Proofs.Ytjndgegfonhhfaa.Cst.s1 (c ((0 : @Nat) + s)))))) ∧
  (((Go.Proofs.Ytjndgegfonhhfaa.SE.AV.lit (Go.Value.int @Go.IntKind.i64 (@Go.Proofs.Ytjndgegfonhhfaa.Cst.s1 (@Go.Proofs.Ytjndgegfonhhfaa.Cst.sum c s)))) = (Go.Proofs.Ytjndgegfonhhfaa.SE.AV.lit (Go.Value.int @Go.IntKind.i64 (@Go.Proofs.Ytjndgegfonhhfaa.Cst.s1 (@Go.Proofs.Ytjndgegfonhhfaa.Cst.sum c s))))) ∧
  True)))) ∧
  ((@Go.Proofs.Ytjndgegfonhhfaa.SE.I64 ((1099511627776 : @Int) - (@Go.Proofs.Ytjndgegfonhhfaa.Cst.s1 (@Go.Proofs.Ytjndgegfonhhfaa.Cst.sum c s)))) ∧
  ((@Go.Proofs.Ytjndgegfonhhfaa.SE.I64 ((@Go.Proofs.Ytjndgegfonhhfaa.Cst.s1 (@Go.Proofs.Ytjndgegfonhhfaa.Cst.sum c s)) + (@Go.Proofs.Ytjndgegfonhhfaa.SE.imin (@Go.Proofs.Ytjndgegfonhhfaa.SE.imax (@Go.Proofs.Ytjndgegfonhhfaa.Cst.s1 (c ((0 : @Nat) + s))) (0 : @Int)) ((1099511627776 : @Int) - (@Go.Proofs.Ytjndgegfonhhfaa.Cst.s1 (@Go.Proofs.Ytjndgegfonhhfaa.Cst.sum c s)))))) ∧
  ((((Go.Proofs.Ytjndgegfonhhfaa.SE.AV.lit (Go.Value.int @Go.IntKind.i64 (@Go.Proofs.Ytjndgegfonhhfaa.Cst.s2 (c ((0 : @Nat) + s))))) = (Go.Proofs.Ytjndgegfonhhfaa.SE.AV.lit (Go.Value.int @Go.IntKind.i64 (@Go.Proofs.Ytjndgegfonhhfaa.Cst.s2 (c ((0 : @Nat) + s)))))) ∧
  (((Go.Proofs.Ytjndgegfonhhfaa.SE.AV.lit (Go.Value.int @Go.IntKind.i64 (@Go.Proofs.Ytjndgegfonhhfaa.Cst.s2 (@Go.Proofs.Ytjndgegfonhhfaa.Cst.sum c s)))) = (Go.Proofs.Ytjndgegfonhhfaa.SE.AV.lit (Go.Value.int @Go.IntKind.i64 (@Go.Proofs.Ytjndgegfonhhfaa.Cst.s2 (@Go.Proofs.Ytjndgegfonhhfaa.Cst.sum c s))))) ∧
  True)) ∧
  ((@Go.Proofs.Ytjndgegfonhhfaa.SE.I64 ((1099511627776 : @Int) - (@Go.Proofs.Ytjndgegfonhhfaa.Cst.s2 (@Go.Proofs.Ytjndgegfonhhfaa.Cst.sum c s)))) ∧
  ((@Go.Proofs.Ytjndgegfonhhfaa.SE.I64 ((@Go.Proofs.Ytjndgegfonhhfaa.Cst.s2 (@Go.Proofs.Ytjndgegfonhhfaa.Cst.sum c s)) + (@Go.Proofs.Ytjndgegfonhhfaa.SE.imin (@Go.Proofs.Ytjndgegfonhhfaa.SE.imax (@Go.Proofs.Ytjndgegfonhhfaa.Cst.s2 (c ((0 : @Nat) + s))) (0 : @Int)) ((1099511627776 : @Int) - (@Go.Proofs.Ytjndgegfonhhfaa.Cst.s2 (@Go.Proofs.Ytjndgegfonhhfaa.Cst.sum c s)))))) ∧
  (True ∧
  (True ∧
  (True ∧
  (True ∧
  ((@Go.Proofs.Ytjndgegfonhhfaa.SE.I64 ((1099511627776 : @Int) - (@Go.Proofs.Ytjndgegfonhhfaa.Cst.s3 (@Go.Proofs.Ytjndgegfonhhfaa.Cst.sum c s)))) ∧
  ((@Go.Proofs.Ytjndgegfonhhfaa.SE.I64 ((@Go.Proofs.Ytjndgegfonhhfaa.Cst.s3 (@Go.Proofs.Ytjndgegfonhhfaa.Cst.sum c s)) + (@Go.Proofs.Ytjndgegfonhhfaa.SE.imin (@Go.Proofs.Ytjndgegfonhhfaa.SE.imax (@Go.Proofs.Ytjndgegfonhhfaa.Cst.s3 (c ((0 : @Nat) + s))) (0 : @Int)) ((1099511627776 : @Int) - (@Go.Proofs.Ytjndgegfonhhfaa.Cst.s3 (@Go.Proofs.Ytjndgegfonhhfaa.Cst.sum c s)))))) ∧
  ((((Go.Proofs.Ytjndgegfonhhfaa.SE.AV.lit (Go.Value.int @Go.IntKind.i64 (@Go.Proofs.Ytjndgegfonhhfaa.Cst.s5 (c ((0 : @Nat) + s))))) = (Go.Proofs.Ytjndgegfonhhfaa.SE.AV.lit (Go.Value.int @Go.IntKind.i64 (@Go.Proofs.Ytjndgegfonhhfaa.Cst.s5 (c ((0 : @Nat) + s)))))) ∧
  (((Go.Proofs.Ytjndgegfonhhfaa.SE.AV.lit (Go.Value.int @Go.IntKind.i64 (@Go.Proofs.Ytjndgegfonhhfaa.Cst.s5 (@Go.Proofs.Ytjndgegfonhhfaa.Cst.sum c s)))) = (Go.Proofs.Ytjndgegfonhhfaa.SE.AV.lit (Go.Value.int @Go.IntKind.i64 (@Go.Proofs.Ytjndgegfonhhfaa.Cst.s5 (@Go.Proofs.Ytjndgegfonhhfaa.Cst.sum c s))))) ∧
  (((Go.Proofs.Ytjndgegfonhhfaa.SE.AV.lit (Go.Value.int @Go.IntKind.i64 (@Go.Proofs.Ytjndgegfonhhfaa.Cst.s4 (c ((0 : @Nat) + s))))) = (Go.Proofs.Ytjndgegfonhhfaa.SE.AV.lit (Go.Value.int @Go.IntKind.i64 (@Go.Proofs.Ytjndgegfonhhfaa.Cst.s4 (c ((0 : @Nat) + s)))))) ∧
  (((Go.Proofs.Ytjndgegfonhhfaa.SE.AV.lit (Go.Value.int @Go.IntKind.i64 (@Go.Proofs.Ytjndgegfonhhfaa.Cst.s4 (@Go.Proofs.Ytjndgegfonhhfaa.Cst.sum c s)))) = (Go.Proofs.Ytjndgegfonhhfaa.SE.AV.lit (Go.Value.int @Go.IntKind.i64 (@Go.Proofs.Ytjndgegfonhhfaa.Cst.s4 (@Go.Proofs.Ytjndgegfonhhfaa.Cst.sum c s))))) ∧
  True)))) ∧
  ((@Go.Proofs.Ytjndgegfonhhfaa.SE.I64 ((1099511627776 : @Int) - (@Go.Proofs.Ytjndgegfonhhfaa.Cst.s4 (@Go.Proofs.Ytjndgegfonhhfaa.Cst.sum c s)))) ∧
  ((@Go.Proofs.Ytjndgegfonhhfaa.SE.I64 ((@Go.Proofs.Ytjndgegfonhhfaa.Cst.s4 (@Go.Proofs.Ytjndgegfonhhfaa.Cst.sum c s)) + (@Go.Proofs.Ytjndgegfonhhfaa.SE.imin (@Go.Proofs.Ytjndgegfonhhfaa.SE.imax (@Go.Proofs.Ytjndgegfonhhfaa.Cst.s4 (c ((0 : @Nat) + s))) (0 : @Int)) ((1099511627776 : @Int) - (@Go.Proofs.Ytjndgegfonhhfaa.Cst.s4 (@Go.Proofs.Ytjndgegfonhhfaa.Cst.sum c s)))))) ∧
  ((((Go.Proofs.Ytjndgegfonhhfaa.SE.AV.lit (Go.Value.int @Go.IntKind.i64 (@Go.Proofs.Ytjndgegfonhhfaa.Cst.s5 (c ((0 : @Nat) + s))))) = (Go.Proofs.Ytjndgegfonhhfaa.SE.AV.lit (Go.Value.int @Go.IntKind.i64 (@Go.Proofs.Ytjndgegfonhhfaa.Cst.s5 (c ((0 : @Nat) + s)))))) ∧
  (((Go.Proofs.Ytjndgegfonhhfaa.SE.AV.lit (Go.Value.int @Go.IntKind.i64 (@Go.Proofs.Ytjndgegfonhhfaa.Cst.s5 (@Go.Proofs.Ytjndgegfonhhfaa.Cst.sum c s)))) = (Go.Proofs.Ytjndgegfonhhfaa.SE.AV.lit (Go.Value.int @Go.IntKind.i64 (@Go.Proofs.Ytjndgegfonhhfaa.Cst.s5 (@Go.Proofs.Ytjndgegfonhhfaa.Cst.sum c s))))) ∧
  True)) ∧
  ((@Go.Proofs.Ytjndgegfonhhfaa.SE.I64 ((1099511627776 : @Int) - (@Go.Proofs.Ytjndgegfonhhfaa.Cst.s5 (@Go.Proofs.Ytjndgegfonhhfaa.Cst.sum c s)))) ∧
  ((@Go.Proofs.Ytjndgegfonhhfaa.SE.I64 ((@Go.Proofs.Ytjndgegfonhhfaa.Cst.s5 (@Go.Proofs.Ytjndgegfonhhfaa.Cst.sum c s)) + (@Go.Proofs.Ytjndgegfonhhfaa.SE.imin (@Go.Proofs.Ytjndgegfonhhfaa.SE.imax (@Go.Proofs.Ytjndgegfonhhfaa.Cst.s5 (c ((0 : @Nat) + s))) (0 : @Int)) ((1099511627776 : @Int) - (@Go.Proofs.Ytjndgegfonhhfaa.Cst.s5 (@Go.Proofs.Ytjndgegfonhhfaa.Cst.sum c s)))))) ∧
  (True ∧
  (True ∧
  (True ∧
  (True ∧
  ((@Go.Proofs.Ytjndgegfonhhfaa.SE.I64 (((s : Nat) : @Int) + (1 : @Int))) ∧
  (∃ (s_1 : @Nat), ((s_1 ≤ n) ∧
  (((n - s_1) < (n - s)) ∧
  (((((s_1 : Nat) : @Int) = (((s : Nat) : @Int) + (1 : @Int))) ∧
  True) ∧
  ((((@Go.Proofs.Ytjndgegfonhhfaa.Cst.s0 (@Go.Proofs.Ytjndgegfonhhfaa.Cst.sum c s_1)) = ((@Go.Proofs.Ytjndgegfonhhfaa.Cst.s0 (@Go.Proofs.Ytjndgegfonhhfaa.Cst.sum c s)) + (@Go.Proofs.Ytjndgegfonhhfaa.SE.imin (@Go.Proofs.Ytjndgegfonhhfaa.SE.imax (@Go.Proofs.Ytjndgegfonhhfaa.Cst.s0 (c ((0 : @Nat) + s))) (0 : @Int)) ((1099511627776 : @Int) - (@Go.Proofs.Ytjndgegfonhhfaa.Cst.s0 (@Go.Proofs.Ytjndgegfonhhfaa.Cst.sum c s)))))) ∧
  (((@Go.Proofs.Ytjndgegfonhhfaa.Cst.s1 (@Go.Proofs.Ytjndgegfonhhfaa.Cst.sum c s_1)) = ((@Go.Proofs.Ytjndgegfonhhfaa.Cst.s1 (@Go.Proofs.Ytjndgegfonhhfaa.Cst.sum c s)) + (@Go.Proofs.Ytjndgegfonhhfaa.SE.imin (@Go.Proofs.Ytjndgegfonhhfaa.SE.imax (@Go.Proofs.Ytjndgegfonhhfaa.Cst.s1 (c ((0 : @Nat) + s))) (0 : @Int)) ((1099511627776 : @Int) - (@Go.Proofs.Ytjndgegfonhhfaa.Cst.s1 (@Go.Proofs.Ytjndgegfonhhfaa.Cst.sum c s)))))) ∧
  (((@Go.Proofs.Ytjndgegfonhhfaa.Cst.s2 (@Go.Proofs.Ytjndgegfonhhfaa.Cst.sum c s_1)) = ((@Go.Proofs.Ytjndgegfonhhfaa.Cst.s2 (@Go.Proofs.Ytjndgegfonhhfaa.Cst.sum c s)) + (@Go.Proofs.Ytjndgegfonhhfaa.SE.imin (@Go.Proofs.Ytjndgegfonhhfaa.SE.imax (@Go.Proofs.Ytjndgegfonhhfaa.Cst.s2 (c ((0 : @Nat) + s))) (0 : @Int)) ((1099511627776 : @Int) - (@Go.Proofs.Ytjndgegfonhhfaa.Cst.s2 (@Go.Proofs.Ytjndgegfonhhfaa.Cst.sum c s)))))) ∧
  (((@Go.Proofs.Ytjndgegfonhhfaa.Cst.s3 (@Go.Proofs.Ytjndgegfonhhfaa.Cst.sum c s_1)) = ((@Go.Proofs.Ytjndgegfonhhfaa.Cst.s3 (@Go.Proofs.Ytjndgegfonhhfaa.Cst.sum c s)) + (@Go.Proofs.Ytjndgegfonhhfaa.SE.imin (@Go.Proofs.Ytjndgegfonhhfaa.SE.imax (@Go.Proofs.Ytjndgegfonhhfaa.Cst.s3 (c ((0 : @Nat) + s))) (0 : @Int)) ((1099511627776 : @Int) - (@Go.Proofs.Ytjndgegfonhhfaa.Cst.s3 (@Go.Proofs.Ytjndgegfonhhfaa.Cst.sum c s)))))) ∧
  (((@Go.Proofs.Ytjndgegfonhhfaa.Cst.s4 (@Go.Proofs.Ytjndgegfonhhfaa.Cst.sum c s_1)) = ((@Go.Proofs.Ytjndgegfonhhfaa.Cst.s4 (@Go.Proofs.Ytjndgegfonhhfaa.Cst.sum c s)) + (@Go.Proofs.Ytjndgegfonhhfaa.SE.imin (@Go.Proofs.Ytjndgegfonhhfaa.SE.imax (@Go.Proofs.Ytjndgegfonhhfaa.Cst.s4 (c ((0 : @Nat) + s))) (0 : @Int)) ((1099511627776 : @Int) - (@Go.Proofs.Ytjndgegfonhhfaa.Cst.s4 (@Go.Proofs.Ytjndgegfonhhfaa.Cst.sum c s)))))) ∧
  (((@Go.Proofs.Ytjndgegfonhhfaa.Cst.s5 (@Go.Proofs.Ytjndgegfonhhfaa.Cst.sum c s_1)) = ((@Go.Proofs.Ytjndgegfonhhfaa.Cst.s5 (@Go.Proofs.Ytjndgegfonhhfaa.Cst.sum c s)) + (@Go.Proofs.Ytjndgegfonhhfaa.SE.imin (@Go.Proofs.Ytjndgegfonhhfaa.SE.imax (@Go.Proofs.Ytjndgegfonhhfaa.Cst.s5 (c ((0 : @Nat) + s))) (0 : @Int)) ((1099511627776 : @Int) - (@Go.Proofs.Ytjndgegfonhhfaa.Cst.s5 (@Go.Proofs.Ytjndgegfonhhfaa.Cst.sum c s)))))) ∧
  True)))))) ∧
  ((((0 : @Int) = (0 : @Int)) ∧
  (((0 : @Int) = (0 : @Int)) ∧
  (((0 : @Int) = (0 : @Int)) ∧
  (((0 : @Int) = (0 : @Int)) ∧
  (((0 : @Int) = (0 : @Int)) ∧
  (((0 : @Int) = (0 : @Int)) ∧
  True)))))) ∧
  ((((@Go.Proofs.Ytjndgegfonhhfaa.SE.Cs.row (6 : @Nat) n (fun (k : @Nat) => [(Go.Value.int @Go.IntKind.i64 (@Go.Proofs.Ytjndgegfonhhfaa.Cst.s0 (c k))), (Go.Value.int @Go.IntKind.i64 (@Go.Proofs.Ytjndgegfonhhfaa.Cst.s1 (c k))), (Go.Value.int @Go.IntKind.i64 (@Go.Proofs.Ytjndgegfonhhfaa.Cst.s2 (c k))), (Go.Value.int @Go.IntKind.i64 (@Go.Proofs.Ytjndgegfonhhfaa.Cst.s3 (c k))), (Go.Value.int @Go.IntKind.i64 (@Go.Proofs.Ytjndgegfonhhfaa.Cst.s4 (c k))), (Go.Value.int @Go.IntKind.i64 (@Go.Proofs.Ytjndgegfonhhfaa.Cst.s5 (c k)))]) (@List.nil (@Prod @Nat (@List @Go.Value)))) = (@Go.Proofs.Ytjndgegfonhhfaa.SE.Cs.row (6 : @Nat) n (fun (k : @Nat) => [(Go.Value.int @Go.IntKind.i64 (@Go.Proofs.Ytjndgegfonhhfaa.Cst.s0 (c k))), (Go.Value.int @Go.IntKind.i64 (@Go.Proofs.Ytjndgegfonhhfaa.Cst.s1 (c k))), (Go.Value.int @Go.IntKind.i64 (@Go.Proofs.Ytjndgegfonhhfaa.Cst.s2 (c k))), (Go.Value.int @Go.IntKind.i64 (@Go.Proofs.Ytjndgegfonhhfaa.Cst.s3 (c k))), (Go.Value.int @Go.IntKind.i64 (@Go.Proofs.Ytjndgegfonhhfaa.Cst.s4 (c k))), (Go.Value.int @Go.IntKind.i64 (@Go.Proofs.Ytjndgegfonhhfaa.Cst.s5 (c k)))]) (@List.nil (@Prod @Nat (@List @Go.Value))))) ∧
  (@Bool.true = @Bool.true)) ∧
  True))))))))))))))))))))))))))))))))))) ((((@Go.Proofs.Ytjndgegfonhhfaa.Cst.s0 r) = (@Go.Proofs.Ytjndgegfonhhfaa.Cst.s0 (@Go.Proofs.Ytjndgegfonhhfaa.Cst.sum c s))) ∧
  (((@Go.Proofs.Ytjndgegfonhhfaa.Cst.s1 r) = (@Go.Proofs.Ytjndgegfonhhfaa.Cst.s1 (@Go.Proofs.Ytjndgegfonhhfaa.Cst.sum c s))) ∧
  (((@Go.Proofs.Ytjndgegfonhhfaa.Cst.s2 r) = (@Go.Proofs.Ytjndgegfonhhfaa.Cst.s2 (@Go.Proofs.Ytjndgegfonhhfaa.Cst.sum c s))) ∧
  (((@Go.Proofs.Ytjndgegfonhhfaa.Cst.s3 r) = (@Go.Proofs.Ytjndgegfonhhfaa.Cst.s3 (@Go.Proofs.Ytjndgegfonhhfaa.Cst.sum c s))) ∧
  (((@Go.Proofs.Ytjndgegfonhhfaa.Cst.s4 r) = (@Go.Proofs.Ytjndgegfonhhfaa.Cst.s4 (@Go.Proofs.Ytjndgegfonhhfaa.Cst.sum c s))) ∧
  (((@Go.Proofs.Ytjndgegfonhhfaa.Cst.s5 r) = (@Go.Proofs.Ytjndgegfonhhfaa.Cst.s5 (@Go.Proofs.Ytjndgegfonhhfaa.Cst.sum c s))) ∧
  True)))))) ∧
  ((((@Go.Proofs.Ytjndgegfonhhfaa.SE.Cs.row (6 : @Nat) n (fun (k : @Nat) => [(Go.Value.int @Go.IntKind.i64 (@Go.Proofs.Ytjndgegfonhhfaa.Cst.s0 (c k))), (Go.Value.int @Go.IntKind.i64 (@Go.Proofs.Ytjndgegfonhhfaa.Cst.s1 (c k))), (Go.Value.int @Go.IntKind.i64 (@Go.Proofs.Ytjndgegfonhhfaa.Cst.s2 (c k))), (Go.Value.int @Go.IntKind.i64 (@Go.Proofs.Ytjndgegfonhhfaa.Cst.s3 (c k))), (Go.Value.int @Go.IntKind.i64 (@Go.Proofs.Ytjndgegfonhhfaa.Cst.s4 (c k))), (Go.Value.int @Go.IntKind.i64 (@Go.Proofs.Ytjndgegfonhhfaa.Cst.s5 (c k)))]) (@List.nil (@Prod @Nat (@List @Go.Value)))) = (@Go.Proofs.Ytjndgegfonhhfaa.SE.Cs.row (6 : @Nat) n (fun (k : @Nat) => [(Go.Value.int @Go.IntKind.i64 (@Go.Proofs.Ytjndgegfonhhfaa.Cst.s0 (c k))), (Go.Value.int @Go.IntKind.i64 (@Go.Proofs.Ytjndgegfonhhfaa.Cst.s1 (c k))), (Go.Value.int @Go.IntKind.i64 (@Go.Proofs.Ytjndgegfonhhfaa.Cst.s2 (c k))), (Go.Value.int @Go.IntKind.i64 (@Go.Proofs.Ytjndgegfonhhfaa.Cst.s3 (c k))), (Go.Value.int @Go.IntKind.i64 (@Go.Proofs.Ytjndgegfonhhfaa.Cst.s4 (c k))), (Go.Value.int @Go.IntKind.i64 (@Go.Proofs.Ytjndgegfonhhfaa.Cst.s5 (c k)))]) (@List.nil (@Prod @Nat (@List @Go.Value))))) ∧
  (@Bool.true = @Bool.true)) ∧
  True))))) ∧
  True))
theorem sumVC_ok (c : Nat → Cst) (n : Nat) (r : Cst) : sumVC c n r = sumVC_wp c n r := by kernel_rfl
end Go.Proofs.Ytjndgegfonhhfaa
