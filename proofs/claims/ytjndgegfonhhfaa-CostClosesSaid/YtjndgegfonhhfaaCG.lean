/- A program that is awake. -/
import Derived.Test.YtjndgegfonhhfaaCD
import Derived.KernelRfl
namespace Go.Proofs.Ytjndgegfonhhfaa
open Go SE
def awakeVC_wp  : Prop := wpF Try.prog [] tt (fun _ _ _ _ => []) 400 20 11 [] (hO 0 []) (fun v h' => endP 0 (.lit (.bool true)) [] v h')
def awakeVC  : Prop :=
  ((@Go.Proofs.Ytjndgegfonhhfaa.SE.I64 (2 : @Int)) ∧
  (((@Int.NonNeg (0 : @Int)) ∧
  ((@Go.Proofs.Ytjndgegfonhhfaa.SE.I64 (0 : @Int)) ∧
  ((@Go.Proofs.Ytjndgegfonhhfaa.SE.I64 (0 : @Int)) ∧
  ((@Go.Proofs.Ytjndgegfonhhfaa.SE.I64 (28 : @Int)) ∧
  ((@Int.NonNeg (0 : @Int)) ∧
  ((@Go.Proofs.Ytjndgegfonhhfaa.SE.I64 (2 : @Int)) ∧
  ((@Go.Proofs.Ytjndgegfonhhfaa.SE.I64 (2 : @Int)) ∧
  ((((Go.Proofs.Ytjndgegfonhhfaa.SE.AV.lit (Go.Value.string (@ByteArray.mk (@List.toArray @UInt8 [(97 : @UInt8)])))) = (Go.Proofs.Ytjndgegfonhhfaa.SE.AV.lit (Go.Value.string (@ByteArray.mk (@List.toArray @UInt8 [(97 : @UInt8)]))))) ∧
  (((Go.Proofs.Ytjndgegfonhhfaa.SE.AV.agg [(Go.Proofs.Ytjndgegfonhhfaa.SE.AV.lit (Go.Value.slice (@Option.none @Go.Addr) (0 : @Nat) (0 : @Nat))), (Go.Proofs.Ytjndgegfonhhfaa.SE.AV.lit (Go.Value.slice (@Option.none @Go.Addr) (0 : @Nat) (0 : @Nat)))]) = (Go.Proofs.Ytjndgegfonhhfaa.SE.AV.agg [(Go.Proofs.Ytjndgegfonhhfaa.SE.AV.lit (Go.Value.slice (@Option.none @Go.Addr) (0 : @Nat) (0 : @Nat))), (Go.Proofs.Ytjndgegfonhhfaa.SE.AV.lit (Go.Value.slice (@Option.none @Go.Addr) (0 : @Nat) (0 : @Nat)))])) ∧
  True)) ∧
  ((True ∧
  ((True ∧
  ((((@Int.NonNeg (0 : @Int)) ∧
  (@Int.NonNeg (1 : @Int))) ∧
  ((@Go.Proofs.Ytjndgegfonhhfaa.SE.I64 (1099511627776 : @Int)) ∧
  ((@Go.Proofs.Ytjndgegfonhhfaa.SE.I64 (2 : @Int)) ∧
  ((((Go.Proofs.Ytjndgegfonhhfaa.SE.AV.lit (Go.Value.int @Go.IntKind.i64 (0 : @Int))) = (Go.Proofs.Ytjndgegfonhhfaa.SE.AV.lit (Go.Value.int @Go.IntKind.i64 (0 : @Int)))) ∧
  (((Go.Proofs.Ytjndgegfonhhfaa.SE.AV.lit (Go.Value.int @Go.IntKind.i64 (0 : @Int))) = (Go.Proofs.Ytjndgegfonhhfaa.SE.AV.lit (Go.Value.int @Go.IntKind.i64 (0 : @Int)))) ∧
  (((Go.Proofs.Ytjndgegfonhhfaa.SE.AV.lit (Go.Value.int @Go.IntKind.i64 (2 : @Int))) = (Go.Proofs.Ytjndgegfonhhfaa.SE.AV.lit (Go.Value.int @Go.IntKind.i64 (2 : @Int)))) ∧
  (((Go.Proofs.Ytjndgegfonhhfaa.SE.AV.lit (Go.Value.int @Go.IntKind.i64 (0 : @Int))) = (Go.Proofs.Ytjndgegfonhhfaa.SE.AV.lit (Go.Value.int @Go.IntKind.i64 (0 : @Int)))) ∧
  True)))) ∧
  ((@Go.Proofs.Ytjndgegfonhhfaa.SE.I64 (1099511627776 : @Int)) ∧
  ((@Go.Proofs.Ytjndgegfonhhfaa.SE.I64 (2 : @Int)) ∧
  ((((Go.Proofs.Ytjndgegfonhhfaa.SE.AV.lit (Go.Value.int @Go.IntKind.i64 (0 : @Int))) = (Go.Proofs.Ytjndgegfonhhfaa.SE.AV.lit (Go.Value.int @Go.IntKind.i64 (0 : @Int)))) ∧
  (((Go.Proofs.Ytjndgegfonhhfaa.SE.AV.lit (Go.Value.int @Go.IntKind.i64 (0 : @Int))) = (Go.Proofs.Ytjndgegfonhhfaa.SE.AV.lit (Go.Value.int @Go.IntKind.i64 (0 : @Int)))) ∧
  True)) ∧
  ((@Go.Proofs.Ytjndgegfonhhfaa.SE.I64 (1099511627776 : @Int)) ∧
  ((@Go.Proofs.Ytjndgegfonhhfaa.SE.I64 (0 : @Int)) ∧
  (True ∧
  (True ∧
  (True ∧
  (True ∧
  ((@Go.Proofs.Ytjndgegfonhhfaa.SE.I64 (1099511627776 : @Int)) ∧
  ((@Go.Proofs.Ytjndgegfonhhfaa.SE.I64 (0 : @Int)) ∧
  ((((Go.Proofs.Ytjndgegfonhhfaa.SE.AV.lit (Go.Value.int @Go.IntKind.i64 (0 : @Int))) = (Go.Proofs.Ytjndgegfonhhfaa.SE.AV.lit (Go.Value.int @Go.IntKind.i64 (0 : @Int)))) ∧
  (((Go.Proofs.Ytjndgegfonhhfaa.SE.AV.lit (Go.Value.int @Go.IntKind.i64 (0 : @Int))) = (Go.Proofs.Ytjndgegfonhhfaa.SE.AV.lit (Go.Value.int @Go.IntKind.i64 (0 : @Int)))) ∧
  (((Go.Proofs.Ytjndgegfonhhfaa.SE.AV.lit (Go.Value.int @Go.IntKind.i64 (1 : @Int))) = (Go.Proofs.Ytjndgegfonhhfaa.SE.AV.lit (Go.Value.int @Go.IntKind.i64 (1 : @Int)))) ∧
  (((Go.Proofs.Ytjndgegfonhhfaa.SE.AV.lit (Go.Value.int @Go.IntKind.i64 (0 : @Int))) = (Go.Proofs.Ytjndgegfonhhfaa.SE.AV.lit (Go.Value.int @Go.IntKind.i64 (0 : @Int)))) ∧
  True)))) ∧
  ((@Go.Proofs.Ytjndgegfonhhfaa.SE.I64 (1099511627776 : @Int)) ∧
  ((@Go.Proofs.Ytjndgegfonhhfaa.SE.I64 (1 : @Int)) ∧
  ((((Go.Proofs.Ytjndgegfonhhfaa.SE.AV.lit (Go.Value.int @Go.IntKind.i64 (0 : @Int))) = (Go.Proofs.Ytjndgegfonhhfaa.SE.AV.lit (Go.Value.int @Go.IntKind.i64 (0 : @Int)))) ∧
  (((Go.Proofs.Ytjndgegfonhhfaa.SE.AV.lit (Go.Value.int @Go.IntKind.i64 (0 : @Int))) = (Go.Proofs.Ytjndgegfonhhfaa.SE.AV.lit (Go.Value.int @Go.IntKind.i64 (0 : @Int)))) ∧
  True)) ∧
  ((@Go.Proofs.Ytjndgegfonhhfaa.SE.I64 (1099511627776 : @Int)) ∧
  ((@Go.Proofs.Ytjndgegfonhhfaa.SE.I64 (0 : @Int)) ∧
  (True ∧
  (True ∧
  (True ∧
  (True ∧
  ((@Go.Proofs.Ytjndgegfonhhfaa.SE.I64 (1 : @Int)) ∧
  (((@Int.NonNeg (1 : @Int)) ∧
  (@Int.NonNeg (0 : @Int))) ∧
  ((@Go.Proofs.Ytjndgegfonhhfaa.SE.I64 (1099511627774 : @Int)) ∧
  ((@Go.Proofs.Ytjndgegfonhhfaa.SE.I64 (3 : @Int)) ∧
  ((((Go.Proofs.Ytjndgegfonhhfaa.SE.AV.lit (Go.Value.int @Go.IntKind.i64 (0 : @Int))) = (Go.Proofs.Ytjndgegfonhhfaa.SE.AV.lit (Go.Value.int @Go.IntKind.i64 (0 : @Int)))) ∧
  (((Go.Proofs.Ytjndgegfonhhfaa.SE.AV.lit (Go.Value.int @Go.IntKind.i64 (0 : @Int))) = (Go.Proofs.Ytjndgegfonhhfaa.SE.AV.lit (Go.Value.int @Go.IntKind.i64 (0 : @Int)))) ∧
  (((Go.Proofs.Ytjndgegfonhhfaa.SE.AV.lit (Go.Value.int @Go.IntKind.i64 (0 : @Int))) = (Go.Proofs.Ytjndgegfonhhfaa.SE.AV.lit (Go.Value.int @Go.IntKind.i64 (0 : @Int)))) ∧
  (((Go.Proofs.Ytjndgegfonhhfaa.SE.AV.lit (Go.Value.int @Go.IntKind.i64 (2 : @Int))) = (Go.Proofs.Ytjndgegfonhhfaa.SE.AV.lit (Go.Value.int @Go.IntKind.i64 (2 : @Int)))) ∧
  True)))) ∧
  ((@Go.Proofs.Ytjndgegfonhhfaa.SE.I64 (1099511627774 : @Int)) ∧
  ((@Go.Proofs.Ytjndgegfonhhfaa.SE.I64 (2 : @Int)) ∧
  ((((Go.Proofs.Ytjndgegfonhhfaa.SE.AV.lit (Go.Value.int @Go.IntKind.i64 (0 : @Int))) = (Go.Proofs.Ytjndgegfonhhfaa.SE.AV.lit (Go.Value.int @Go.IntKind.i64 (0 : @Int)))) ∧
  (((Go.Proofs.Ytjndgegfonhhfaa.SE.AV.lit (Go.Value.int @Go.IntKind.i64 (0 : @Int))) = (Go.Proofs.Ytjndgegfonhhfaa.SE.AV.lit (Go.Value.int @Go.IntKind.i64 (0 : @Int)))) ∧
  True)) ∧
  ((@Go.Proofs.Ytjndgegfonhhfaa.SE.I64 (1099511627776 : @Int)) ∧
  ((@Go.Proofs.Ytjndgegfonhhfaa.SE.I64 (0 : @Int)) ∧
  (True ∧
  (True ∧
  (True ∧
  (True ∧
  ((@Go.Proofs.Ytjndgegfonhhfaa.SE.I64 (1099511627776 : @Int)) ∧
  ((@Go.Proofs.Ytjndgegfonhhfaa.SE.I64 (0 : @Int)) ∧
  ((((Go.Proofs.Ytjndgegfonhhfaa.SE.AV.lit (Go.Value.int @Go.IntKind.i64 (0 : @Int))) = (Go.Proofs.Ytjndgegfonhhfaa.SE.AV.lit (Go.Value.int @Go.IntKind.i64 (0 : @Int)))) ∧
  (((Go.Proofs.Ytjndgegfonhhfaa.SE.AV.lit (Go.Value.int @Go.IntKind.i64 (0 : @Int))) = (Go.Proofs.Ytjndgegfonhhfaa.SE.AV.lit (Go.Value.int @Go.IntKind.i64 (0 : @Int)))) ∧
  (((Go.Proofs.Ytjndgegfonhhfaa.SE.AV.lit (Go.Value.int @Go.IntKind.i64 (0 : @Int))) = (Go.Proofs.Ytjndgegfonhhfaa.SE.AV.lit (Go.Value.int @Go.IntKind.i64 (0 : @Int)))) ∧
  (((Go.Proofs.Ytjndgegfonhhfaa.SE.AV.lit (Go.Value.int @Go.IntKind.i64 (1 : @Int))) = (Go.Proofs.Ytjndgegfonhhfaa.SE.AV.lit (Go.Value.int @Go.IntKind.i64 (1 : @Int)))) ∧
  True)))) ∧
  ((@Go.Proofs.Ytjndgegfonhhfaa.SE.I64 (1099511627775 : @Int)) ∧
  ((@Go.Proofs.Ytjndgegfonhhfaa.SE.I64 (1 : @Int)) ∧
  ((((Go.Proofs.Ytjndgegfonhhfaa.SE.AV.lit (Go.Value.int @Go.IntKind.i64 (0 : @Int))) = (Go.Proofs.Ytjndgegfonhhfaa.SE.AV.lit (Go.Value.int @Go.IntKind.i64 (0 : @Int)))) ∧
  (((Go.Proofs.Ytjndgegfonhhfaa.SE.AV.lit (Go.Value.int @Go.IntKind.i64 (0 : @Int))) = (Go.Proofs.Ytjndgegfonhhfaa.SE.AV.lit (Go.Value.int @Go.IntKind.i64 (0 : @Int)))) ∧
  True)) ∧
  ((@Go.Proofs.Ytjndgegfonhhfaa.SE.I64 (1099511627776 : @Int)) ∧
  ((@Go.Proofs.Ytjndgegfonhhfaa.SE.I64 (0 : @Int)) ∧
  (True ∧
  (True ∧
  (True ∧
  (True ∧
  ((@Go.Proofs.Ytjndgegfonhhfaa.SE.I64 (2 : @Int)) ∧
  (True ∧
  (True ∧
  (True ∧
  (((@Int.NonNeg (0 : @Int)) ∧
  (@Int.NonNeg (1 : @Int))) ∧
  ((@Go.Proofs.Ytjndgegfonhhfaa.SE.I64 (1099511627776 : @Int)) ∧
  ((@Go.Proofs.Ytjndgegfonhhfaa.SE.I64 (3 : @Int)) ∧
  ((((Go.Proofs.Ytjndgegfonhhfaa.SE.AV.lit (Go.Value.int @Go.IntKind.i64 (0 : @Int))) = (Go.Proofs.Ytjndgegfonhhfaa.SE.AV.lit (Go.Value.int @Go.IntKind.i64 (0 : @Int)))) ∧
  (((Go.Proofs.Ytjndgegfonhhfaa.SE.AV.lit (Go.Value.int @Go.IntKind.i64 (0 : @Int))) = (Go.Proofs.Ytjndgegfonhhfaa.SE.AV.lit (Go.Value.int @Go.IntKind.i64 (0 : @Int)))) ∧
  (((Go.Proofs.Ytjndgegfonhhfaa.SE.AV.lit (Go.Value.int @Go.IntKind.i64 (0 : @Int))) = (Go.Proofs.Ytjndgegfonhhfaa.SE.AV.lit (Go.Value.int @Go.IntKind.i64 (0 : @Int)))) ∧
  (((Go.Proofs.Ytjndgegfonhhfaa.SE.AV.lit (Go.Value.int @Go.IntKind.i64 (0 : @Int))) = (Go.Proofs.Ytjndgegfonhhfaa.SE.AV.lit (Go.Value.int @Go.IntKind.i64 (0 : @Int)))) ∧
  True)))) ∧
  ((@Go.Proofs.Ytjndgegfonhhfaa.SE.I64 (1099511627776 : @Int)) ∧
  ((@Go.Proofs.Ytjndgegfonhhfaa.SE.I64 (0 : @Int)) ∧
  ((((Go.Proofs.Ytjndgegfonhhfaa.SE.AV.lit (Go.Value.int @Go.IntKind.i64 (0 : @Int))) = (Go.Proofs.Ytjndgegfonhhfaa.SE.AV.lit (Go.Value.int @Go.IntKind.i64 (0 : @Int)))) ∧
  (((Go.Proofs.Ytjndgegfonhhfaa.SE.AV.lit (Go.Value.int @Go.IntKind.i64 (0 : @Int))) = (Go.Proofs.Ytjndgegfonhhfaa.SE.AV.lit (Go.Value.int @Go.IntKind.i64 (0 : @Int)))) ∧
  True)) ∧
  ((@Go.Proofs.Ytjndgegfonhhfaa.SE.I64 (1099511627776 : @Int)) ∧
  ((@Go.Proofs.Ytjndgegfonhhfaa.SE.I64 (0 : @Int)) ∧
  (True ∧
  (True ∧
  (True ∧
  (True ∧
  ((@Go.Proofs.Ytjndgegfonhhfaa.SE.I64 (1099511627776 : @Int)) ∧
  ((@Go.Proofs.Ytjndgegfonhhfaa.SE.I64 (0 : @Int)) ∧
  ((((Go.Proofs.Ytjndgegfonhhfaa.SE.AV.lit (Go.Value.int @Go.IntKind.i64 (0 : @Int))) = (Go.Proofs.Ytjndgegfonhhfaa.SE.AV.lit (Go.Value.int @Go.IntKind.i64 (0 : @Int)))) ∧
  (((Go.Proofs.Ytjndgegfonhhfaa.SE.AV.lit (Go.Value.int @Go.IntKind.i64 (0 : @Int))) = (Go.Proofs.Ytjndgegfonhhfaa.SE.AV.lit (Go.Value.int @Go.IntKind.i64 (0 : @Int)))) ∧
  (((Go.Proofs.Ytjndgegfonhhfaa.SE.AV.lit (Go.Value.int @Go.IntKind.i64 (0 : @Int))) = (Go.Proofs.Ytjndgegfonhhfaa.SE.AV.lit (Go.Value.int @Go.IntKind.i64 (0 : @Int)))) ∧
  (((Go.Proofs.Ytjndgegfonhhfaa.SE.AV.lit (Go.Value.int @Go.IntKind.i64 (0 : @Int))) = (Go.Proofs.Ytjndgegfonhhfaa.SE.AV.lit (Go.Value.int @Go.IntKind.i64 (0 : @Int)))) ∧
  True)))) ∧
  ((@Go.Proofs.Ytjndgegfonhhfaa.SE.I64 (1099511627776 : @Int)) ∧
  ((@Go.Proofs.Ytjndgegfonhhfaa.SE.I64 (0 : @Int)) ∧
  ((((Go.Proofs.Ytjndgegfonhhfaa.SE.AV.lit (Go.Value.int @Go.IntKind.i64 (0 : @Int))) = (Go.Proofs.Ytjndgegfonhhfaa.SE.AV.lit (Go.Value.int @Go.IntKind.i64 (0 : @Int)))) ∧
  (((Go.Proofs.Ytjndgegfonhhfaa.SE.AV.lit (Go.Value.int @Go.IntKind.i64 (0 : @Int))) = (Go.Proofs.Ytjndgegfonhhfaa.SE.AV.lit (Go.Value.int @Go.IntKind.i64 (0 : @Int)))) ∧
  True)) ∧
  ((@Go.Proofs.Ytjndgegfonhhfaa.SE.I64 (1099511627776 : @Int)) ∧
  ((@Go.Proofs.Ytjndgegfonhhfaa.SE.I64 (0 : @Int)) ∧
  (True ∧
  (True ∧
  (True ∧
  (True ∧
  ((@Go.Proofs.Ytjndgegfonhhfaa.SE.I64 (1 : @Int)) ∧
  (((@Int.NonNeg (1 : @Int)) ∧
  (@Int.NonNeg (0 : @Int))) ∧
  ((@Go.Proofs.Ytjndgegfonhhfaa.SE.I64 (1099511627773 : @Int)) ∧
  ((@Go.Proofs.Ytjndgegfonhhfaa.SE.I64 (6 : @Int)) ∧
  ((((Go.Proofs.Ytjndgegfonhhfaa.SE.AV.lit (Go.Value.int @Go.IntKind.i64 (0 : @Int))) = (Go.Proofs.Ytjndgegfonhhfaa.SE.AV.lit (Go.Value.int @Go.IntKind.i64 (0 : @Int)))) ∧
  (((Go.Proofs.Ytjndgegfonhhfaa.SE.AV.lit (Go.Value.int @Go.IntKind.i64 (0 : @Int))) = (Go.Proofs.Ytjndgegfonhhfaa.SE.AV.lit (Go.Value.int @Go.IntKind.i64 (0 : @Int)))) ∧
  (((Go.Proofs.Ytjndgegfonhhfaa.SE.AV.lit (Go.Value.int @Go.IntKind.i64 (2 : @Int))) = (Go.Proofs.Ytjndgegfonhhfaa.SE.AV.lit (Go.Value.int @Go.IntKind.i64 (2 : @Int)))) ∧
  (((Go.Proofs.Ytjndgegfonhhfaa.SE.AV.lit (Go.Value.int @Go.IntKind.i64 (0 : @Int))) = (Go.Proofs.Ytjndgegfonhhfaa.SE.AV.lit (Go.Value.int @Go.IntKind.i64 (0 : @Int)))) ∧
  True)))) ∧
  ((@Go.Proofs.Ytjndgegfonhhfaa.SE.I64 (1099511627776 : @Int)) ∧
  ((@Go.Proofs.Ytjndgegfonhhfaa.SE.I64 (2 : @Int)) ∧
  ((((Go.Proofs.Ytjndgegfonhhfaa.SE.AV.lit (Go.Value.int @Go.IntKind.i64 (0 : @Int))) = (Go.Proofs.Ytjndgegfonhhfaa.SE.AV.lit (Go.Value.int @Go.IntKind.i64 (0 : @Int)))) ∧
  (((Go.Proofs.Ytjndgegfonhhfaa.SE.AV.lit (Go.Value.int @Go.IntKind.i64 (0 : @Int))) = (Go.Proofs.Ytjndgegfonhhfaa.SE.AV.lit (Go.Value.int @Go.IntKind.i64 (0 : @Int)))) ∧
  True)) ∧
  ((@Go.Proofs.Ytjndgegfonhhfaa.SE.I64 (1099511627776 : @Int)) ∧
  ((@Go.Proofs.Ytjndgegfonhhfaa.SE.I64 (0 : @Int)) ∧
  (True ∧
  (True ∧
  (True ∧
  (True ∧
  ((@Go.Proofs.Ytjndgegfonhhfaa.SE.I64 (1099511627776 : @Int)) ∧
  ((@Go.Proofs.Ytjndgegfonhhfaa.SE.I64 (0 : @Int)) ∧
  ((((Go.Proofs.Ytjndgegfonhhfaa.SE.AV.lit (Go.Value.int @Go.IntKind.i64 (0 : @Int))) = (Go.Proofs.Ytjndgegfonhhfaa.SE.AV.lit (Go.Value.int @Go.IntKind.i64 (0 : @Int)))) ∧
  (((Go.Proofs.Ytjndgegfonhhfaa.SE.AV.lit (Go.Value.int @Go.IntKind.i64 (0 : @Int))) = (Go.Proofs.Ytjndgegfonhhfaa.SE.AV.lit (Go.Value.int @Go.IntKind.i64 (0 : @Int)))) ∧
  (((Go.Proofs.Ytjndgegfonhhfaa.SE.AV.lit (Go.Value.int @Go.IntKind.i64 (1 : @Int))) = (Go.Proofs.Ytjndgegfonhhfaa.SE.AV.lit (Go.Value.int @Go.IntKind.i64 (1 : @Int)))) ∧
  (((Go.Proofs.Ytjndgegfonhhfaa.SE.AV.lit (Go.Value.int @Go.IntKind.i64 (0 : @Int))) = (Go.Proofs.Ytjndgegfonhhfaa.SE.AV.lit (Go.Value.int @Go.IntKind.i64 (0 : @Int)))) ∧
  True)))) ∧
  ((@Go.Proofs.Ytjndgegfonhhfaa.SE.I64 (1099511627776 : @Int)) ∧
  ((@Go.Proofs.Ytjndgegfonhhfaa.SE.I64 (1 : @Int)) ∧
  ((((Go.Proofs.Ytjndgegfonhhfaa.SE.AV.lit (Go.Value.int @Go.IntKind.i64 (0 : @Int))) = (Go.Proofs.Ytjndgegfonhhfaa.SE.AV.lit (Go.Value.int @Go.IntKind.i64 (0 : @Int)))) ∧
  (((Go.Proofs.Ytjndgegfonhhfaa.SE.AV.lit (Go.Value.int @Go.IntKind.i64 (0 : @Int))) = (Go.Proofs.Ytjndgegfonhhfaa.SE.AV.lit (Go.Value.int @Go.IntKind.i64 (0 : @Int)))) ∧
  True)) ∧
  ((@Go.Proofs.Ytjndgegfonhhfaa.SE.I64 (1099511627776 : @Int)) ∧
  ((@Go.Proofs.Ytjndgegfonhhfaa.SE.I64 (0 : @Int)) ∧
  (True ∧
  (True ∧
  (True ∧
  (True ∧
  ((@Go.Proofs.Ytjndgegfonhhfaa.SE.I64 (2 : @Int)) ∧
  (((@Int.NonNeg (0 : @Int)) ∧
  (@Int.NonNeg (2 : @Int))) ∧
  (((@Int.NonNeg (5 : @Int)) ∧
  (@Int.NonNeg (252 : @Int))) ∧
  (((5 : @Nat) < (258 : @Nat)) ∧
  (((@Int.NonNeg (5 : @Int)) ∧
  (@Int.NonNeg (252 : @Int))) ∧
  (((5 : @Nat) < (258 : @Nat)) ∧
  ((@Go.Proofs.Ytjndgegfonhhfaa.SE.I64 (1 : @Int)) ∧
  ((@Go.Proofs.Ytjndgegfonhhfaa.SE.I64 (1 : @Int)) ∧
  (((@Int.NonNeg (1 : @Int)) ∧
  (@Int.NonNeg (1 : @Int))) ∧
  (((@Int.NonNeg (3 : @Int)) ∧
  (@Int.NonNeg (254 : @Int))) ∧
  (((3 : @Nat) < (258 : @Nat)) ∧
  (((@Int.NonNeg (3 : @Int)) ∧
  (@Int.NonNeg (254 : @Int))) ∧
  (((3 : @Nat) < (258 : @Nat)) ∧
  ((@Go.Proofs.Ytjndgegfonhhfaa.SE.I64 (2 : @Int)) ∧
  ((@Go.Proofs.Ytjndgegfonhhfaa.SE.I64 (2 : @Int)) ∧
  (((@Int.NonNeg (2 : @Int)) ∧
  (@Int.NonNeg (0 : @Int))) ∧
  (((@Int.NonNeg (5 : @Int)) ∧
  (@Int.NonNeg (252 : @Int))) ∧
  (((5 : @Nat) < (258 : @Nat)) ∧
  ((@Go.Proofs.Ytjndgegfonhhfaa.SE.I64 (3 : @Int)) ∧
  ((@Go.Proofs.Ytjndgegfonhhfaa.SE.I64 (6 : @Int)) ∧
  ((@Go.Proofs.Ytjndgegfonhhfaa.SE.I64 (3 : @Int)) ∧
  ((@Bool.true = @Bool.true) ∧
  True)))))))))))))))))))))))))))))))))))))))))))))))))))))))))))))))))))))))))))))))))))))))))))))))))))))))))))))))))))))))))))))))) ∧
  (True ∧
  (((@Int.NonNeg (0 : @Int)) ∧
  (@Int.NonNeg (1 : @Int))) ∧
  ((@Go.Proofs.Ytjndgegfonhhfaa.SE.I64 (1099511627776 : @Int)) ∧
  ((@Go.Proofs.Ytjndgegfonhhfaa.SE.I64 (2 : @Int)) ∧
  ((((Go.Proofs.Ytjndgegfonhhfaa.SE.AV.lit (Go.Value.int @Go.IntKind.i64 (0 : @Int))) = (Go.Proofs.Ytjndgegfonhhfaa.SE.AV.lit (Go.Value.int @Go.IntKind.i64 (0 : @Int)))) ∧
  (((Go.Proofs.Ytjndgegfonhhfaa.SE.AV.lit (Go.Value.int @Go.IntKind.i64 (0 : @Int))) = (Go.Proofs.Ytjndgegfonhhfaa.SE.AV.lit (Go.Value.int @Go.IntKind.i64 (0 : @Int)))) ∧
  (((Go.Proofs.Ytjndgegfonhhfaa.SE.AV.lit (Go.Value.int @Go.IntKind.i64 (2 : @Int))) = (Go.Proofs.Ytjndgegfonhhfaa.SE.AV.lit (Go.Value.int @Go.IntKind.i64 (2 : @Int)))) ∧
  (((Go.Proofs.Ytjndgegfonhhfaa.SE.AV.lit (Go.Value.int @Go.IntKind.i64 (0 : @Int))) = (Go.Proofs.Ytjndgegfonhhfaa.SE.AV.lit (Go.Value.int @Go.IntKind.i64 (0 : @Int)))) ∧
  True)))) ∧
  ((@Go.Proofs.Ytjndgegfonhhfaa.SE.I64 (1099511627776 : @Int)) ∧
  ((@Go.Proofs.Ytjndgegfonhhfaa.SE.I64 (2 : @Int)) ∧
  ((((Go.Proofs.Ytjndgegfonhhfaa.SE.AV.lit (Go.Value.int @Go.IntKind.i64 (0 : @Int))) = (Go.Proofs.Ytjndgegfonhhfaa.SE.AV.lit (Go.Value.int @Go.IntKind.i64 (0 : @Int)))) ∧
  (((Go.Proofs.Ytjndgegfonhhfaa.SE.AV.lit (Go.Value.int @Go.IntKind.i64 (0 : @Int))) = (Go.Proofs.Ytjndgegfonhhfaa.SE.AV.lit (Go.Value.int @Go.IntKind.i64 (0 : @Int)))) ∧
  True)) ∧
  ((@Go.Proofs.Ytjndgegfonhhfaa.SE.I64 (1099511627776 : @Int)) ∧
  ((@Go.Proofs.Ytjndgegfonhhfaa.SE.I64 (0 : @Int)) ∧
  (True ∧
  (True ∧
  (True ∧
  (True ∧
  ((@Go.Proofs.Ytjndgegfonhhfaa.SE.I64 (1099511627776 : @Int)) ∧
  ((@Go.Proofs.Ytjndgegfonhhfaa.SE.I64 (0 : @Int)) ∧
  ((((Go.Proofs.Ytjndgegfonhhfaa.SE.AV.lit (Go.Value.int @Go.IntKind.i64 (0 : @Int))) = (Go.Proofs.Ytjndgegfonhhfaa.SE.AV.lit (Go.Value.int @Go.IntKind.i64 (0 : @Int)))) ∧
  (((Go.Proofs.Ytjndgegfonhhfaa.SE.AV.lit (Go.Value.int @Go.IntKind.i64 (0 : @Int))) = (Go.Proofs.Ytjndgegfonhhfaa.SE.AV.lit (Go.Value.int @Go.IntKind.i64 (0 : @Int)))) ∧
  (((Go.Proofs.Ytjndgegfonhhfaa.SE.AV.lit (Go.Value.int @Go.IntKind.i64 (1 : @Int))) = (Go.Proofs.Ytjndgegfonhhfaa.SE.AV.lit (Go.Value.int @Go.IntKind.i64 (1 : @Int)))) ∧
  (((Go.Proofs.Ytjndgegfonhhfaa.SE.AV.lit (Go.Value.int @Go.IntKind.i64 (0 : @Int))) = (Go.Proofs.Ytjndgegfonhhfaa.SE.AV.lit (Go.Value.int @Go.IntKind.i64 (0 : @Int)))) ∧
  True)))) ∧
  ((@Go.Proofs.Ytjndgegfonhhfaa.SE.I64 (1099511627776 : @Int)) ∧
  ((@Go.Proofs.Ytjndgegfonhhfaa.SE.I64 (1 : @Int)) ∧
  ((((Go.Proofs.Ytjndgegfonhhfaa.SE.AV.lit (Go.Value.int @Go.IntKind.i64 (0 : @Int))) = (Go.Proofs.Ytjndgegfonhhfaa.SE.AV.lit (Go.Value.int @Go.IntKind.i64 (0 : @Int)))) ∧
  (((Go.Proofs.Ytjndgegfonhhfaa.SE.AV.lit (Go.Value.int @Go.IntKind.i64 (0 : @Int))) = (Go.Proofs.Ytjndgegfonhhfaa.SE.AV.lit (Go.Value.int @Go.IntKind.i64 (0 : @Int)))) ∧
  True)) ∧
  ((@Go.Proofs.Ytjndgegfonhhfaa.SE.I64 (1099511627776 : @Int)) ∧
  ((@Go.Proofs.Ytjndgegfonhhfaa.SE.I64 (0 : @Int)) ∧
  (True ∧
  (True ∧
  (True ∧
  (True ∧
  ((@Go.Proofs.Ytjndgegfonhhfaa.SE.I64 (1 : @Int)) ∧
  (((@Int.NonNeg (1 : @Int)) ∧
  (@Int.NonNeg (0 : @Int))) ∧
  ((@Go.Proofs.Ytjndgegfonhhfaa.SE.I64 (1099511627774 : @Int)) ∧
  ((@Go.Proofs.Ytjndgegfonhhfaa.SE.I64 (3 : @Int)) ∧
  ((((Go.Proofs.Ytjndgegfonhhfaa.SE.AV.lit (Go.Value.int @Go.IntKind.i64 (0 : @Int))) = (Go.Proofs.Ytjndgegfonhhfaa.SE.AV.lit (Go.Value.int @Go.IntKind.i64 (0 : @Int)))) ∧
  (((Go.Proofs.Ytjndgegfonhhfaa.SE.AV.lit (Go.Value.int @Go.IntKind.i64 (0 : @Int))) = (Go.Proofs.Ytjndgegfonhhfaa.SE.AV.lit (Go.Value.int @Go.IntKind.i64 (0 : @Int)))) ∧
  (((Go.Proofs.Ytjndgegfonhhfaa.SE.AV.lit (Go.Value.int @Go.IntKind.i64 (0 : @Int))) = (Go.Proofs.Ytjndgegfonhhfaa.SE.AV.lit (Go.Value.int @Go.IntKind.i64 (0 : @Int)))) ∧
  (((Go.Proofs.Ytjndgegfonhhfaa.SE.AV.lit (Go.Value.int @Go.IntKind.i64 (2 : @Int))) = (Go.Proofs.Ytjndgegfonhhfaa.SE.AV.lit (Go.Value.int @Go.IntKind.i64 (2 : @Int)))) ∧
  True)))) ∧
  ((@Go.Proofs.Ytjndgegfonhhfaa.SE.I64 (1099511627774 : @Int)) ∧
  ((@Go.Proofs.Ytjndgegfonhhfaa.SE.I64 (2 : @Int)) ∧
  ((((Go.Proofs.Ytjndgegfonhhfaa.SE.AV.lit (Go.Value.int @Go.IntKind.i64 (0 : @Int))) = (Go.Proofs.Ytjndgegfonhhfaa.SE.AV.lit (Go.Value.int @Go.IntKind.i64 (0 : @Int)))) ∧
  (((Go.Proofs.Ytjndgegfonhhfaa.SE.AV.lit (Go.Value.int @Go.IntKind.i64 (0 : @Int))) = (Go.Proofs.Ytjndgegfonhhfaa.SE.AV.lit (Go.Value.int @Go.IntKind.i64 (0 : @Int)))) ∧
  True)) ∧
  ((@Go.Proofs.Ytjndgegfonhhfaa.SE.I64 (1099511627776 : @Int)) ∧
  ((@Go.Proofs.Ytjndgegfonhhfaa.SE.I64 (0 : @Int)) ∧
  (True ∧
  (True ∧
  (True ∧
  (True ∧
  ((@Go.Proofs.Ytjndgegfonhhfaa.SE.I64 (1099511627776 : @Int)) ∧
  ((@Go.Proofs.Ytjndgegfonhhfaa.SE.I64 (0 : @Int)) ∧
  ((((Go.Proofs.Ytjndgegfonhhfaa.SE.AV.lit (Go.Value.int @Go.IntKind.i64 (0 : @Int))) = (Go.Proofs.Ytjndgegfonhhfaa.SE.AV.lit (Go.Value.int @Go.IntKind.i64 (0 : @Int)))) ∧
  (((Go.Proofs.Ytjndgegfonhhfaa.SE.AV.lit (Go.Value.int @Go.IntKind.i64 (0 : @Int))) = (Go.Proofs.Ytjndgegfonhhfaa.SE.AV.lit (Go.Value.int @Go.IntKind.i64 (0 : @Int)))) ∧
  (((Go.Proofs.Ytjndgegfonhhfaa.SE.AV.lit (Go.Value.int @Go.IntKind.i64 (0 : @Int))) = (Go.Proofs.Ytjndgegfonhhfaa.SE.AV.lit (Go.Value.int @Go.IntKind.i64 (0 : @Int)))) ∧
  (((Go.Proofs.Ytjndgegfonhhfaa.SE.AV.lit (Go.Value.int @Go.IntKind.i64 (1 : @Int))) = (Go.Proofs.Ytjndgegfonhhfaa.SE.AV.lit (Go.Value.int @Go.IntKind.i64 (1 : @Int)))) ∧
  True)))) ∧
  ((@Go.Proofs.Ytjndgegfonhhfaa.SE.I64 (1099511627775 : @Int)) ∧
  ((@Go.Proofs.Ytjndgegfonhhfaa.SE.I64 (1 : @Int)) ∧
  ((((Go.Proofs.Ytjndgegfonhhfaa.SE.AV.lit (Go.Value.int @Go.IntKind.i64 (0 : @Int))) = (Go.Proofs.Ytjndgegfonhhfaa.SE.AV.lit (Go.Value.int @Go.IntKind.i64 (0 : @Int)))) ∧
  (((Go.Proofs.Ytjndgegfonhhfaa.SE.AV.lit (Go.Value.int @Go.IntKind.i64 (0 : @Int))) = (Go.Proofs.Ytjndgegfonhhfaa.SE.AV.lit (Go.Value.int @Go.IntKind.i64 (0 : @Int)))) ∧
  True)) ∧
  ((@Go.Proofs.Ytjndgegfonhhfaa.SE.I64 (1099511627776 : @Int)) ∧
  ((@Go.Proofs.Ytjndgegfonhhfaa.SE.I64 (0 : @Int)) ∧
  (True ∧
  (True ∧
  (True ∧
  (True ∧
  ((@Go.Proofs.Ytjndgegfonhhfaa.SE.I64 (2 : @Int)) ∧
  (True ∧
  (True ∧
  (((@Int.NonNeg (0 : @Int)) ∧
  (@Int.NonNeg (1 : @Int))) ∧
  ((@Go.Proofs.Ytjndgegfonhhfaa.SE.I64 (1099511627776 : @Int)) ∧
  ((@Go.Proofs.Ytjndgegfonhhfaa.SE.I64 (3 : @Int)) ∧
  ((((Go.Proofs.Ytjndgegfonhhfaa.SE.AV.lit (Go.Value.int @Go.IntKind.i64 (0 : @Int))) = (Go.Proofs.Ytjndgegfonhhfaa.SE.AV.lit (Go.Value.int @Go.IntKind.i64 (0 : @Int)))) ∧
  (((Go.Proofs.Ytjndgegfonhhfaa.SE.AV.lit (Go.Value.int @Go.IntKind.i64 (0 : @Int))) = (Go.Proofs.Ytjndgegfonhhfaa.SE.AV.lit (Go.Value.int @Go.IntKind.i64 (0 : @Int)))) ∧
  (((Go.Proofs.Ytjndgegfonhhfaa.SE.AV.lit (Go.Value.int @Go.IntKind.i64 (0 : @Int))) = (Go.Proofs.Ytjndgegfonhhfaa.SE.AV.lit (Go.Value.int @Go.IntKind.i64 (0 : @Int)))) ∧
  (((Go.Proofs.Ytjndgegfonhhfaa.SE.AV.lit (Go.Value.int @Go.IntKind.i64 (0 : @Int))) = (Go.Proofs.Ytjndgegfonhhfaa.SE.AV.lit (Go.Value.int @Go.IntKind.i64 (0 : @Int)))) ∧
  True)))) ∧
  ((@Go.Proofs.Ytjndgegfonhhfaa.SE.I64 (1099511627776 : @Int)) ∧
  ((@Go.Proofs.Ytjndgegfonhhfaa.SE.I64 (0 : @Int)) ∧
  ((((Go.Proofs.Ytjndgegfonhhfaa.SE.AV.lit (Go.Value.int @Go.IntKind.i64 (0 : @Int))) = (Go.Proofs.Ytjndgegfonhhfaa.SE.AV.lit (Go.Value.int @Go.IntKind.i64 (0 : @Int)))) ∧
  (((Go.Proofs.Ytjndgegfonhhfaa.SE.AV.lit (Go.Value.int @Go.IntKind.i64 (0 : @Int))) = (Go.Proofs.Ytjndgegfonhhfaa.SE.AV.lit (Go.Value.int @Go.IntKind.i64 (0 : @Int)))) ∧
  True)) ∧
  ((@Go.Proofs.Ytjndgegfonhhfaa.SE.I64 (1099511627776 : @Int)) ∧
  ((@Go.Proofs.Ytjndgegfonhhfaa.SE.I64 (0 : @Int)) ∧
  (True ∧
  (True ∧
  (True ∧
  (True ∧
  ((@Go.Proofs.Ytjndgegfonhhfaa.SE.I64 (1099511627776 : @Int)) ∧
  ((@Go.Proofs.Ytjndgegfonhhfaa.SE.I64 (0 : @Int)) ∧
  ((((Go.Proofs.Ytjndgegfonhhfaa.SE.AV.lit (Go.Value.int @Go.IntKind.i64 (0 : @Int))) = (Go.Proofs.Ytjndgegfonhhfaa.SE.AV.lit (Go.Value.int @Go.IntKind.i64 (0 : @Int)))) ∧
  (((Go.Proofs.Ytjndgegfonhhfaa.SE.AV.lit (Go.Value.int @Go.IntKind.i64 (0 : @Int))) = (Go.Proofs.Ytjndgegfonhhfaa.SE.AV.lit (Go.Value.int @Go.IntKind.i64 (0 : @Int)))) ∧
  (((Go.Proofs.Ytjndgegfonhhfaa.SE.AV.lit (Go.Value.int @Go.IntKind.i64 (0 : @Int))) = (Go.Proofs.Ytjndgegfonhhfaa.SE.AV.lit (Go.Value.int @Go.IntKind.i64 (0 : @Int)))) ∧
  (((Go.Proofs.Ytjndgegfonhhfaa.SE.AV.lit (Go.Value.int @Go.IntKind.i64 (0 : @Int))) = (Go.Proofs.Ytjndgegfonhhfaa.SE.AV.lit (Go.Value.int @Go.IntKind.i64 (0 : @Int)))) ∧
  True)))) ∧
  ((@Go.Proofs.Ytjndgegfonhhfaa.SE.I64 (1099511627776 : @Int)) ∧
  ((@Go.Proofs.Ytjndgegfonhhfaa.SE.I64 (0 : @Int)) ∧
  ((((Go.Proofs.Ytjndgegfonhhfaa.SE.AV.lit (Go.Value.int @Go.IntKind.i64 (0 : @Int))) = (Go.Proofs.Ytjndgegfonhhfaa.SE.AV.lit (Go.Value.int @Go.IntKind.i64 (0 : @Int)))) ∧
  (((Go.Proofs.Ytjndgegfonhhfaa.SE.AV.lit (Go.Value.int @Go.IntKind.i64 (0 : @Int))) = (Go.Proofs.Ytjndgegfonhhfaa.SE.AV.lit (Go.Value.int @Go.IntKind.i64 (0 : @Int)))) ∧
  True)) ∧
  ((@Go.Proofs.Ytjndgegfonhhfaa.SE.I64 (1099511627776 : @Int)) ∧
  ((@Go.Proofs.Ytjndgegfonhhfaa.SE.I64 (0 : @Int)) ∧
  (True ∧
  (True ∧
  (True ∧
  (True ∧
  ((@Go.Proofs.Ytjndgegfonhhfaa.SE.I64 (1 : @Int)) ∧
  (((@Int.NonNeg (1 : @Int)) ∧
  (@Int.NonNeg (0 : @Int))) ∧
  ((@Go.Proofs.Ytjndgegfonhhfaa.SE.I64 (1099511627773 : @Int)) ∧
  ((@Go.Proofs.Ytjndgegfonhhfaa.SE.I64 (6 : @Int)) ∧
  ((((Go.Proofs.Ytjndgegfonhhfaa.SE.AV.lit (Go.Value.int @Go.IntKind.i64 (0 : @Int))) = (Go.Proofs.Ytjndgegfonhhfaa.SE.AV.lit (Go.Value.int @Go.IntKind.i64 (0 : @Int)))) ∧
  (((Go.Proofs.Ytjndgegfonhhfaa.SE.AV.lit (Go.Value.int @Go.IntKind.i64 (0 : @Int))) = (Go.Proofs.Ytjndgegfonhhfaa.SE.AV.lit (Go.Value.int @Go.IntKind.i64 (0 : @Int)))) ∧
  (((Go.Proofs.Ytjndgegfonhhfaa.SE.AV.lit (Go.Value.int @Go.IntKind.i64 (2 : @Int))) = (Go.Proofs.Ytjndgegfonhhfaa.SE.AV.lit (Go.Value.int @Go.IntKind.i64 (2 : @Int)))) ∧
  (((Go.Proofs.Ytjndgegfonhhfaa.SE.AV.lit (Go.Value.int @Go.IntKind.i64 (0 : @Int))) = (Go.Proofs.Ytjndgegfonhhfaa.SE.AV.lit (Go.Value.int @Go.IntKind.i64 (0 : @Int)))) ∧
  True)))) ∧
  ((@Go.Proofs.Ytjndgegfonhhfaa.SE.I64 (1099511627776 : @Int)) ∧
  ((@Go.Proofs.Ytjndgegfonhhfaa.SE.I64 (2 : @Int)) ∧
  ((((Go.Proofs.Ytjndgegfonhhfaa.SE.AV.lit (Go.Value.int @Go.IntKind.i64 (0 : @Int))) = (Go.Proofs.Ytjndgegfonhhfaa.SE.AV.lit (Go.Value.int @Go.IntKind.i64 (0 : @Int)))) ∧
  (((Go.Proofs.Ytjndgegfonhhfaa.SE.AV.lit (Go.Value.int @Go.IntKind.i64 (0 : @Int))) = (Go.Proofs.Ytjndgegfonhhfaa.SE.AV.lit (Go.Value.int @Go.IntKind.i64 (0 : @Int)))) ∧
  True)) ∧
  ((@Go.Proofs.Ytjndgegfonhhfaa.SE.I64 (1099511627776 : @Int)) ∧
  ((@Go.Proofs.Ytjndgegfonhhfaa.SE.I64 (0 : @Int)) ∧
  (True ∧
  (True ∧
  (True ∧
  (True ∧
  ((@Go.Proofs.Ytjndgegfonhhfaa.SE.I64 (1099511627776 : @Int)) ∧
  ((@Go.Proofs.Ytjndgegfonhhfaa.SE.I64 (0 : @Int)) ∧
  ((((Go.Proofs.Ytjndgegfonhhfaa.SE.AV.lit (Go.Value.int @Go.IntKind.i64 (0 : @Int))) = (Go.Proofs.Ytjndgegfonhhfaa.SE.AV.lit (Go.Value.int @Go.IntKind.i64 (0 : @Int)))) ∧
  (((Go.Proofs.Ytjndgegfonhhfaa.SE.AV.lit (Go.Value.int @Go.IntKind.i64 (0 : @Int))) = (Go.Proofs.Ytjndgegfonhhfaa.SE.AV.lit (Go.Value.int @Go.IntKind.i64 (0 : @Int)))) ∧
  (((Go.Proofs.Ytjndgegfonhhfaa.SE.AV.lit (Go.Value.int @Go.IntKind.i64 (1 : @Int))) = (Go.Proofs.Ytjndgegfonhhfaa.SE.AV.lit (Go.Value.int @Go.IntKind.i64 (1 : @Int)))) ∧
  (((Go.Proofs.Ytjndgegfonhhfaa.SE.AV.lit (Go.Value.int @Go.IntKind.i64 (0 : @Int))) = (Go.Proofs.Ytjndgegfonhhfaa.SE.AV.lit (Go.Value.int @Go.IntKind.i64 (0 : @Int)))) ∧
  True)))) ∧
  ((@Go.Proofs.Ytjndgegfonhhfaa.SE.I64 (1099511627776 : @Int)) ∧
  ((@Go.Proofs.Ytjndgegfonhhfaa.SE.I64 (1 : @Int)) ∧
  ((((Go.Proofs.Ytjndgegfonhhfaa.SE.AV.lit (Go.Value.int @Go.IntKind.i64 (0 : @Int))) = (Go.Proofs.Ytjndgegfonhhfaa.SE.AV.lit (Go.Value.int @Go.IntKind.i64 (0 : @Int)))) ∧
  (((Go.Proofs.Ytjndgegfonhhfaa.SE.AV.lit (Go.Value.int @Go.IntKind.i64 (0 : @Int))) = (Go.Proofs.Ytjndgegfonhhfaa.SE.AV.lit (Go.Value.int @Go.IntKind.i64 (0 : @Int)))) ∧
  True)) ∧
  ((@Go.Proofs.Ytjndgegfonhhfaa.SE.I64 (1099511627776 : @Int)) ∧
  ((@Go.Proofs.Ytjndgegfonhhfaa.SE.I64 (0 : @Int)) ∧
  (True ∧
  (True ∧
  (True ∧
  (True ∧
  ((@Go.Proofs.Ytjndgegfonhhfaa.SE.I64 (2 : @Int)) ∧
  (((@Int.NonNeg (0 : @Int)) ∧
  (@Int.NonNeg (2 : @Int))) ∧
  (((@Int.NonNeg (5 : @Int)) ∧
  (@Int.NonNeg (252 : @Int))) ∧
  (((5 : @Nat) < (258 : @Nat)) ∧
  (((@Int.NonNeg (5 : @Int)) ∧
  (@Int.NonNeg (252 : @Int))) ∧
  (((5 : @Nat) < (258 : @Nat)) ∧
  ((@Go.Proofs.Ytjndgegfonhhfaa.SE.I64 (1 : @Int)) ∧
  ((@Go.Proofs.Ytjndgegfonhhfaa.SE.I64 (1 : @Int)) ∧
  (((@Int.NonNeg (1 : @Int)) ∧
  (@Int.NonNeg (1 : @Int))) ∧
  (((@Int.NonNeg (3 : @Int)) ∧
  (@Int.NonNeg (254 : @Int))) ∧
  (((3 : @Nat) < (258 : @Nat)) ∧
  (((@Int.NonNeg (3 : @Int)) ∧
  (@Int.NonNeg (254 : @Int))) ∧
  (((3 : @Nat) < (258 : @Nat)) ∧
  ((@Go.Proofs.Ytjndgegfonhhfaa.SE.I64 (2 : @Int)) ∧
  ((@Go.Proofs.Ytjndgegfonhhfaa.SE.I64 (2 : @Int)) ∧
  (((@Int.NonNeg (2 : @Int)) ∧
  (@Int.NonNeg (0 : @Int))) ∧
  (((@Int.NonNeg (5 : @Int)) ∧
  (@Int.NonNeg (252 : @Int))) ∧
  (((5 : @Nat) < (258 : @Nat)) ∧
  ((@Go.Proofs.Ytjndgegfonhhfaa.SE.I64 (3 : @Int)) ∧
  ((@Go.Proofs.Ytjndgegfonhhfaa.SE.I64 (6 : @Int)) ∧
  ((@Go.Proofs.Ytjndgegfonhhfaa.SE.I64 (3 : @Int)) ∧
  ((@Bool.true = @Bool.true) ∧
  True)))))))))))))))))))))))))))))))))))))))))))))))))))))))))))))))))))))))))))))))))))))))))))))))))))))))))))))))))))))))))))))))))) ∧
  (True ∧
  (True ∧
  (((@Int.NonNeg (0 : @Int)) ∧
  (@Int.NonNeg (1 : @Int))) ∧
  ((@Go.Proofs.Ytjndgegfonhhfaa.SE.I64 (1099511627776 : @Int)) ∧
  ((@Go.Proofs.Ytjndgegfonhhfaa.SE.I64 (2 : @Int)) ∧
  ((((Go.Proofs.Ytjndgegfonhhfaa.SE.AV.lit (Go.Value.int @Go.IntKind.i64 (0 : @Int))) = (Go.Proofs.Ytjndgegfonhhfaa.SE.AV.lit (Go.Value.int @Go.IntKind.i64 (0 : @Int)))) ∧
  (((Go.Proofs.Ytjndgegfonhhfaa.SE.AV.lit (Go.Value.int @Go.IntKind.i64 (0 : @Int))) = (Go.Proofs.Ytjndgegfonhhfaa.SE.AV.lit (Go.Value.int @Go.IntKind.i64 (0 : @Int)))) ∧
  (((Go.Proofs.Ytjndgegfonhhfaa.SE.AV.lit (Go.Value.int @Go.IntKind.i64 (2 : @Int))) = (Go.Proofs.Ytjndgegfonhhfaa.SE.AV.lit (Go.Value.int @Go.IntKind.i64 (2 : @Int)))) ∧
  (((Go.Proofs.Ytjndgegfonhhfaa.SE.AV.lit (Go.Value.int @Go.IntKind.i64 (0 : @Int))) = (Go.Proofs.Ytjndgegfonhhfaa.SE.AV.lit (Go.Value.int @Go.IntKind.i64 (0 : @Int)))) ∧
  True)))) ∧
  ((@Go.Proofs.Ytjndgegfonhhfaa.SE.I64 (1099511627776 : @Int)) ∧
  ((@Go.Proofs.Ytjndgegfonhhfaa.SE.I64 (2 : @Int)) ∧
  ((((Go.Proofs.Ytjndgegfonhhfaa.SE.AV.lit (Go.Value.int @Go.IntKind.i64 (0 : @Int))) = (Go.Proofs.Ytjndgegfonhhfaa.SE.AV.lit (Go.Value.int @Go.IntKind.i64 (0 : @Int)))) ∧
  (((Go.Proofs.Ytjndgegfonhhfaa.SE.AV.lit (Go.Value.int @Go.IntKind.i64 (0 : @Int))) = (Go.Proofs.Ytjndgegfonhhfaa.SE.AV.lit (Go.Value.int @Go.IntKind.i64 (0 : @Int)))) ∧
  True)) ∧
  ((@Go.Proofs.Ytjndgegfonhhfaa.SE.I64 (1099511627776 : @Int)) ∧
  ((@Go.Proofs.Ytjndgegfonhhfaa.SE.I64 (0 : @Int)) ∧
  (True ∧
  (True ∧
  (True ∧
  (True ∧
  ((@Go.Proofs.Ytjndgegfonhhfaa.SE.I64 (1099511627776 : @Int)) ∧
  ((@Go.Proofs.Ytjndgegfonhhfaa.SE.I64 (0 : @Int)) ∧
  ((((Go.Proofs.Ytjndgegfonhhfaa.SE.AV.lit (Go.Value.int @Go.IntKind.i64 (0 : @Int))) = (Go.Proofs.Ytjndgegfonhhfaa.SE.AV.lit (Go.Value.int @Go.IntKind.i64 (0 : @Int)))) ∧
  (((Go.Proofs.Ytjndgegfonhhfaa.SE.AV.lit (Go.Value.int @Go.IntKind.i64 (0 : @Int))) = (Go.Proofs.Ytjndgegfonhhfaa.SE.AV.lit (Go.Value.int @Go.IntKind.i64 (0 : @Int)))) ∧
  (((Go.Proofs.Ytjndgegfonhhfaa.SE.AV.lit (Go.Value.int @Go.IntKind.i64 (1 : @Int))) = (Go.Proofs.Ytjndgegfonhhfaa.SE.AV.lit (Go.Value.int @Go.IntKind.i64 (1 : @Int)))) ∧
  (((Go.Proofs.Ytjndgegfonhhfaa.SE.AV.lit (Go.Value.int @Go.IntKind.i64 (0 : @Int))) = (Go.Proofs.Ytjndgegfonhhfaa.SE.AV.lit (Go.Value.int @Go.IntKind.i64 (0 : @Int)))) ∧
  True)))) ∧
  ((@Go.Proofs.Ytjndgegfonhhfaa.SE.I64 (1099511627776 : @Int)) ∧
  ((@Go.Proofs.Ytjndgegfonhhfaa.SE.I64 (1 : @Int)) ∧
  ((((Go.Proofs.Ytjndgegfonhhfaa.SE.AV.lit (Go.Value.int @Go.IntKind.i64 (0 : @Int))) = (Go.Proofs.Ytjndgegfonhhfaa.SE.AV.lit (Go.Value.int @Go.IntKind.i64 (0 : @Int)))) ∧
  (((Go.Proofs.Ytjndgegfonhhfaa.SE.AV.lit (Go.Value.int @Go.IntKind.i64 (0 : @Int))) = (Go.Proofs.Ytjndgegfonhhfaa.SE.AV.lit (Go.Value.int @Go.IntKind.i64 (0 : @Int)))) ∧
  True)) ∧
  ((@Go.Proofs.Ytjndgegfonhhfaa.SE.I64 (1099511627776 : @Int)) ∧
  ((@Go.Proofs.Ytjndgegfonhhfaa.SE.I64 (0 : @Int)) ∧
  (True ∧
  (True ∧
  (True ∧
  (True ∧
  ((@Go.Proofs.Ytjndgegfonhhfaa.SE.I64 (1 : @Int)) ∧
  (((@Int.NonNeg (1 : @Int)) ∧
  (@Int.NonNeg (0 : @Int))) ∧
  ((@Go.Proofs.Ytjndgegfonhhfaa.SE.I64 (1099511627774 : @Int)) ∧
  ((@Go.Proofs.Ytjndgegfonhhfaa.SE.I64 (3 : @Int)) ∧
  ((((Go.Proofs.Ytjndgegfonhhfaa.SE.AV.lit (Go.Value.int @Go.IntKind.i64 (0 : @Int))) = (Go.Proofs.Ytjndgegfonhhfaa.SE.AV.lit (Go.Value.int @Go.IntKind.i64 (0 : @Int)))) ∧
  (((Go.Proofs.Ytjndgegfonhhfaa.SE.AV.lit (Go.Value.int @Go.IntKind.i64 (0 : @Int))) = (Go.Proofs.Ytjndgegfonhhfaa.SE.AV.lit (Go.Value.int @Go.IntKind.i64 (0 : @Int)))) ∧
  (((Go.Proofs.Ytjndgegfonhhfaa.SE.AV.lit (Go.Value.int @Go.IntKind.i64 (0 : @Int))) = (Go.Proofs.Ytjndgegfonhhfaa.SE.AV.lit (Go.Value.int @Go.IntKind.i64 (0 : @Int)))) ∧
  (((Go.Proofs.Ytjndgegfonhhfaa.SE.AV.lit (Go.Value.int @Go.IntKind.i64 (2 : @Int))) = (Go.Proofs.Ytjndgegfonhhfaa.SE.AV.lit (Go.Value.int @Go.IntKind.i64 (2 : @Int)))) ∧
  True)))) ∧
  ((@Go.Proofs.Ytjndgegfonhhfaa.SE.I64 (1099511627774 : @Int)) ∧
  ((@Go.Proofs.Ytjndgegfonhhfaa.SE.I64 (2 : @Int)) ∧
  ((((Go.Proofs.Ytjndgegfonhhfaa.SE.AV.lit (Go.Value.int @Go.IntKind.i64 (0 : @Int))) = (Go.Proofs.Ytjndgegfonhhfaa.SE.AV.lit (Go.Value.int @Go.IntKind.i64 (0 : @Int)))) ∧
  (((Go.Proofs.Ytjndgegfonhhfaa.SE.AV.lit (Go.Value.int @Go.IntKind.i64 (0 : @Int))) = (Go.Proofs.Ytjndgegfonhhfaa.SE.AV.lit (Go.Value.int @Go.IntKind.i64 (0 : @Int)))) ∧
  True)) ∧
  ((@Go.Proofs.Ytjndgegfonhhfaa.SE.I64 (1099511627776 : @Int)) ∧
  ((@Go.Proofs.Ytjndgegfonhhfaa.SE.I64 (0 : @Int)) ∧
  (True ∧
  (True ∧
  (True ∧
  (True ∧
  ((@Go.Proofs.Ytjndgegfonhhfaa.SE.I64 (1099511627776 : @Int)) ∧
  ((@Go.Proofs.Ytjndgegfonhhfaa.SE.I64 (0 : @Int)) ∧
  ((((Go.Proofs.Ytjndgegfonhhfaa.SE.AV.lit (Go.Value.int @Go.IntKind.i64 (0 : @Int))) = (Go.Proofs.Ytjndgegfonhhfaa.SE.AV.lit (Go.Value.int @Go.IntKind.i64 (0 : @Int)))) ∧
  (((Go.Proofs.Ytjndgegfonhhfaa.SE.AV.lit (Go.Value.int @Go.IntKind.i64 (0 : @Int))) = (Go.Proofs.Ytjndgegfonhhfaa.SE.AV.lit (Go.Value.int @Go.IntKind.i64 (0 : @Int)))) ∧
  (((Go.Proofs.Ytjndgegfonhhfaa.SE.AV.lit (Go.Value.int @Go.IntKind.i64 (0 : @Int))) = (Go.Proofs.Ytjndgegfonhhfaa.SE.AV.lit (Go.Value.int @Go.IntKind.i64 (0 : @Int)))) ∧
  (((Go.Proofs.Ytjndgegfonhhfaa.SE.AV.lit (Go.Value.int @Go.IntKind.i64 (1 : @Int))) = (Go.Proofs.Ytjndgegfonhhfaa.SE.AV.lit (Go.Value.int @Go.IntKind.i64 (1 : @Int)))) ∧
  True)))) ∧
  ((@Go.Proofs.Ytjndgegfonhhfaa.SE.I64 (1099511627775 : @Int)) ∧
  ((@Go.Proofs.Ytjndgegfonhhfaa.SE.I64 (1 : @Int)) ∧
  ((((Go.Proofs.Ytjndgegfonhhfaa.SE.AV.lit (Go.Value.int @Go.IntKind.i64 (0 : @Int))) = (Go.Proofs.Ytjndgegfonhhfaa.SE.AV.lit (Go.Value.int @Go.IntKind.i64 (0 : @Int)))) ∧
  (((Go.Proofs.Ytjndgegfonhhfaa.SE.AV.lit (Go.Value.int @Go.IntKind.i64 (0 : @Int))) = (Go.Proofs.Ytjndgegfonhhfaa.SE.AV.lit (Go.Value.int @Go.IntKind.i64 (0 : @Int)))) ∧
  True)) ∧
  ((@Go.Proofs.Ytjndgegfonhhfaa.SE.I64 (1099511627776 : @Int)) ∧
  ((@Go.Proofs.Ytjndgegfonhhfaa.SE.I64 (0 : @Int)) ∧
  (True ∧
  (True ∧
  (True ∧
  (True ∧
  ((@Go.Proofs.Ytjndgegfonhhfaa.SE.I64 (2 : @Int)) ∧
  (True ∧
  (True ∧
  (((@Int.NonNeg (0 : @Int)) ∧
  (@Int.NonNeg (1 : @Int))) ∧
  ((@Go.Proofs.Ytjndgegfonhhfaa.SE.I64 (1099511627776 : @Int)) ∧
  ((@Go.Proofs.Ytjndgegfonhhfaa.SE.I64 (3 : @Int)) ∧
  ((((Go.Proofs.Ytjndgegfonhhfaa.SE.AV.lit (Go.Value.int @Go.IntKind.i64 (0 : @Int))) = (Go.Proofs.Ytjndgegfonhhfaa.SE.AV.lit (Go.Value.int @Go.IntKind.i64 (0 : @Int)))) ∧
  (((Go.Proofs.Ytjndgegfonhhfaa.SE.AV.lit (Go.Value.int @Go.IntKind.i64 (0 : @Int))) = (Go.Proofs.Ytjndgegfonhhfaa.SE.AV.lit (Go.Value.int @Go.IntKind.i64 (0 : @Int)))) ∧
  (((Go.Proofs.Ytjndgegfonhhfaa.SE.AV.lit (Go.Value.int @Go.IntKind.i64 (0 : @Int))) = (Go.Proofs.Ytjndgegfonhhfaa.SE.AV.lit (Go.Value.int @Go.IntKind.i64 (0 : @Int)))) ∧
  (((Go.Proofs.Ytjndgegfonhhfaa.SE.AV.lit (Go.Value.int @Go.IntKind.i64 (0 : @Int))) = (Go.Proofs.Ytjndgegfonhhfaa.SE.AV.lit (Go.Value.int @Go.IntKind.i64 (0 : @Int)))) ∧
  True)))) ∧
  ((@Go.Proofs.Ytjndgegfonhhfaa.SE.I64 (1099511627776 : @Int)) ∧
  ((@Go.Proofs.Ytjndgegfonhhfaa.SE.I64 (0 : @Int)) ∧
  ((((Go.Proofs.Ytjndgegfonhhfaa.SE.AV.lit (Go.Value.int @Go.IntKind.i64 (0 : @Int))) = (Go.Proofs.Ytjndgegfonhhfaa.SE.AV.lit (Go.Value.int @Go.IntKind.i64 (0 : @Int)))) ∧
  (((Go.Proofs.Ytjndgegfonhhfaa.SE.AV.lit (Go.Value.int @Go.IntKind.i64 (0 : @Int))) = (Go.Proofs.Ytjndgegfonhhfaa.SE.AV.lit (Go.Value.int @Go.IntKind.i64 (0 : @Int)))) ∧
  True)) ∧
  ((@Go.Proofs.Ytjndgegfonhhfaa.SE.I64 (1099511627776 : @Int)) ∧
  ((@Go.Proofs.Ytjndgegfonhhfaa.SE.I64 (0 : @Int)) ∧
  (True ∧
  (True ∧
  (True ∧
  (True ∧
  ((@Go.Proofs.Ytjndgegfonhhfaa.SE.I64 (1099511627776 : @Int)) ∧
  ((@Go.Proofs.Ytjndgegfonhhfaa.SE.I64 (0 : @Int)) ∧
  ((((Go.Proofs.Ytjndgegfonhhfaa.SE.AV.lit (Go.Value.int @Go.IntKind.i64 (0 : @Int))) = (Go.Proofs.Ytjndgegfonhhfaa.SE.AV.lit (Go.Value.int @Go.IntKind.i64 (0 : @Int)))) ∧
  (((Go.Proofs.Ytjndgegfonhhfaa.SE.AV.lit (Go.Value.int @Go.IntKind.i64 (0 : @Int))) = (Go.Proofs.Ytjndgegfonhhfaa.SE.AV.lit (Go.Value.int @Go.IntKind.i64 (0 : @Int)))) ∧
  (((Go.Proofs.Ytjndgegfonhhfaa.SE.AV.lit (Go.Value.int @Go.IntKind.i64 (0 : @Int))) = (Go.Proofs.Ytjndgegfonhhfaa.SE.AV.lit (Go.Value.int @Go.IntKind.i64 (0 : @Int)))) ∧
  (((Go.Proofs.Ytjndgegfonhhfaa.SE.AV.lit (Go.Value.int @Go.IntKind.i64 (0 : @Int))) = (Go.Proofs.Ytjndgegfonhhfaa.SE.AV.lit (Go.Value.int @Go.IntKind.i64 (0 : @Int)))) ∧
  True)))) ∧
  ((@Go.Proofs.Ytjndgegfonhhfaa.SE.I64 (1099511627776 : @Int)) ∧
  ((@Go.Proofs.Ytjndgegfonhhfaa.SE.I64 (0 : @Int)) ∧
  ((((Go.Proofs.Ytjndgegfonhhfaa.SE.AV.lit (Go.Value.int @Go.IntKind.i64 (0 : @Int))) = (Go.Proofs.Ytjndgegfonhhfaa.SE.AV.lit (Go.Value.int @Go.IntKind.i64 (0 : @Int)))) ∧
  (((Go.Proofs.Ytjndgegfonhhfaa.SE.AV.lit (Go.Value.int @Go.IntKind.i64 (0 : @Int))) = (Go.Proofs.Ytjndgegfonhhfaa.SE.AV.lit (Go.Value.int @Go.IntKind.i64 (0 : @Int)))) ∧
  True)) ∧
  ((@Go.Proofs.Ytjndgegfonhhfaa.SE.I64 (1099511627776 : @Int)) ∧
  ((@Go.Proofs.Ytjndgegfonhhfaa.SE.I64 (0 : @Int)) ∧
  (True ∧
  (True ∧
  (True ∧
  (True ∧
  ((@Go.Proofs.Ytjndgegfonhhfaa.SE.I64 (1 : @Int)) ∧
  (((@Int.NonNeg (1 : @Int)) ∧
  (@Int.NonNeg (0 : @Int))) ∧
  ((@Go.Proofs.Ytjndgegfonhhfaa.SE.I64 (1099511627773 : @Int)) ∧
  ((@Go.Proofs.Ytjndgegfonhhfaa.SE.I64 (6 : @Int)) ∧
  ((((Go.Proofs.Ytjndgegfonhhfaa.SE.AV.lit (Go.Value.int @Go.IntKind.i64 (0 : @Int))) = (Go.Proofs.Ytjndgegfonhhfaa.SE.AV.lit (Go.Value.int @Go.IntKind.i64 (0 : @Int)))) ∧
  (((Go.Proofs.Ytjndgegfonhhfaa.SE.AV.lit (Go.Value.int @Go.IntKind.i64 (0 : @Int))) = (Go.Proofs.Ytjndgegfonhhfaa.SE.AV.lit (Go.Value.int @Go.IntKind.i64 (0 : @Int)))) ∧
  (((Go.Proofs.Ytjndgegfonhhfaa.SE.AV.lit (Go.Value.int @Go.IntKind.i64 (2 : @Int))) = (Go.Proofs.Ytjndgegfonhhfaa.SE.AV.lit (Go.Value.int @Go.IntKind.i64 (2 : @Int)))) ∧
  (((Go.Proofs.Ytjndgegfonhhfaa.SE.AV.lit (Go.Value.int @Go.IntKind.i64 (0 : @Int))) = (Go.Proofs.Ytjndgegfonhhfaa.SE.AV.lit (Go.Value.int @Go.IntKind.i64 (0 : @Int)))) ∧
  True)))) ∧
  ((@Go.Proofs.Ytjndgegfonhhfaa.SE.I64 (1099511627776 : @Int)) ∧
  ((@Go.Proofs.Ytjndgegfonhhfaa.SE.I64 (2 : @Int)) ∧
  ((((Go.Proofs.Ytjndgegfonhhfaa.SE.AV.lit (Go.Value.int @Go.IntKind.i64 (0 : @Int))) = (Go.Proofs.Ytjndgegfonhhfaa.SE.AV.lit (Go.Value.int @Go.IntKind.i64 (0 : @Int)))) ∧
  (((Go.Proofs.Ytjndgegfonhhfaa.SE.AV.lit (Go.Value.int @Go.IntKind.i64 (0 : @Int))) = (Go.Proofs.Ytjndgegfonhhfaa.SE.AV.lit (Go.Value.int @Go.IntKind.i64 (0 : @Int)))) ∧
  True)) ∧
  ((@Go.Proofs.Ytjndgegfonhhfaa.SE.I64 (1099511627776 : @Int)) ∧
  ((@Go.Proofs.Ytjndgegfonhhfaa.SE.I64 (0 : @Int)) ∧
  (True ∧
  (True ∧
  (True ∧
  (True ∧
  ((@Go.Proofs.Ytjndgegfonhhfaa.SE.I64 (1099511627776 : @Int)) ∧
  ((@Go.Proofs.Ytjndgegfonhhfaa.SE.I64 (0 : @Int)) ∧
  ((((Go.Proofs.Ytjndgegfonhhfaa.SE.AV.lit (Go.Value.int @Go.IntKind.i64 (0 : @Int))) = (Go.Proofs.Ytjndgegfonhhfaa.SE.AV.lit (Go.Value.int @Go.IntKind.i64 (0 : @Int)))) ∧
  (((Go.Proofs.Ytjndgegfonhhfaa.SE.AV.lit (Go.Value.int @Go.IntKind.i64 (0 : @Int))) = (Go.Proofs.Ytjndgegfonhhfaa.SE.AV.lit (Go.Value.int @Go.IntKind.i64 (0 : @Int)))) ∧
  (((Go.Proofs.Ytjndgegfonhhfaa.SE.AV.lit (Go.Value.int @Go.IntKind.i64 (1 : @Int))) = (Go.Proofs.Ytjndgegfonhhfaa.SE.AV.lit (Go.Value.int @Go.IntKind.i64 (1 : @Int)))) ∧
  (((Go.Proofs.Ytjndgegfonhhfaa.SE.AV.lit (Go.Value.int @Go.IntKind.i64 (0 : @Int))) = (Go.Proofs.Ytjndgegfonhhfaa.SE.AV.lit (Go.Value.int @Go.IntKind.i64 (0 : @Int)))) ∧
  True)))) ∧
  ((@Go.Proofs.Ytjndgegfonhhfaa.SE.I64 (1099511627776 : @Int)) ∧
  ((@Go.Proofs.Ytjndgegfonhhfaa.SE.I64 (1 : @Int)) ∧
  ((((Go.Proofs.Ytjndgegfonhhfaa.SE.AV.lit (Go.Value.int @Go.IntKind.i64 (0 : @Int))) = (Go.Proofs.Ytjndgegfonhhfaa.SE.AV.lit (Go.Value.int @Go.IntKind.i64 (0 : @Int)))) ∧
  (((Go.Proofs.Ytjndgegfonhhfaa.SE.AV.lit (Go.Value.int @Go.IntKind.i64 (0 : @Int))) = (Go.Proofs.Ytjndgegfonhhfaa.SE.AV.lit (Go.Value.int @Go.IntKind.i64 (0 : @Int)))) ∧
  True)) ∧
  ((@Go.Proofs.Ytjndgegfonhhfaa.SE.I64 (1099511627776 : @Int)) ∧
  ((@Go.Proofs.Ytjndgegfonhhfaa.SE.I64 (0 : @Int)) ∧
  (True ∧
  (True ∧
  (True ∧
  (True ∧
  ((@Go.Proofs.Ytjndgegfonhhfaa.SE.I64 (2 : @Int)) ∧
  (((@Int.NonNeg (0 : @Int)) ∧
  (@Int.NonNeg (2 : @Int))) ∧
  (((@Int.NonNeg (5 : @Int)) ∧
  (@Int.NonNeg (252 : @Int))) ∧
  (((5 : @Nat) < (258 : @Nat)) ∧
  (((@Int.NonNeg (5 : @Int)) ∧
  (@Int.NonNeg (252 : @Int))) ∧
  (((5 : @Nat) < (258 : @Nat)) ∧
  ((@Go.Proofs.Ytjndgegfonhhfaa.SE.I64 (1 : @Int)) ∧
  ((@Go.Proofs.Ytjndgegfonhhfaa.SE.I64 (1 : @Int)) ∧
  (((@Int.NonNeg (1 : @Int)) ∧
  (@Int.NonNeg (1 : @Int))) ∧
  (((@Int.NonNeg (3 : @Int)) ∧
  (@Int.NonNeg (254 : @Int))) ∧
  (((3 : @Nat) < (258 : @Nat)) ∧
  (((@Int.NonNeg (3 : @Int)) ∧
  (@Int.NonNeg (254 : @Int))) ∧
  (((3 : @Nat) < (258 : @Nat)) ∧
  ((@Go.Proofs.Ytjndgegfonhhfaa.SE.I64 (2 : @Int)) ∧
  ((@Go.Proofs.Ytjndgegfonhhfaa.SE.I64 (2 : @Int)) ∧
  (((@Int.NonNeg (2 : @Int)) ∧
  (@Int.NonNeg (0 : @Int))) ∧
  (((@Int.NonNeg (5 : @Int)) ∧
  (@Int.NonNeg (252 : @Int))) ∧
  (((5 : @Nat) < (258 : @Nat)) ∧
  ((@Go.Proofs.Ytjndgegfonhhfaa.SE.I64 (3 : @Int)) ∧
  ((@Go.Proofs.Ytjndgegfonhhfaa.SE.I64 (6 : @Int)) ∧
  ((@Go.Proofs.Ytjndgegfonhhfaa.SE.I64 (3 : @Int)) ∧
  ((@Bool.true = @Bool.true) ∧
  True))))))))))))))))))))))))))))))))))))))))))))))))))))))))))))))))))))))))))))))))))))))))))))))))))))))))))))))))))))))))))))))))))) ∧
  ((((Go.Proofs.Ytjndgegfonhhfaa.SE.AV.lit (Go.Value.string (@ByteArray.mk (@List.toArray @UInt8 [(97 : @UInt8)])))) = (Go.Proofs.Ytjndgegfonhhfaa.SE.AV.lit (Go.Value.string (@ByteArray.mk (@List.toArray @UInt8 [(97 : @UInt8)]))))) ∧
  (((Go.Proofs.Ytjndgegfonhhfaa.SE.AV.agg [(Go.Proofs.Ytjndgegfonhhfaa.SE.AV.lit (Go.Value.slice (@Option.none @Go.Addr) (0 : @Nat) (0 : @Nat))), (Go.Proofs.Ytjndgegfonhhfaa.SE.AV.lit (Go.Value.slice (@Option.none @Go.Addr) (0 : @Nat) (0 : @Nat)))]) = (Go.Proofs.Ytjndgegfonhhfaa.SE.AV.agg [(Go.Proofs.Ytjndgegfonhhfaa.SE.AV.lit (Go.Value.slice (@Option.none @Go.Addr) (0 : @Nat) (0 : @Nat))), (Go.Proofs.Ytjndgegfonhhfaa.SE.AV.lit (Go.Value.slice (@Option.none @Go.Addr) (0 : @Nat) (0 : @Nat)))])) ∧
  True)) ∧
  (True ∧
  (True ∧
  (((@Int.NonNeg (0 : @Int)) ∧
  (@Int.NonNeg (1 : @Int))) ∧
  ((@Go.Proofs.Ytjndgegfonhhfaa.SE.I64 (1099511627776 : @Int)) ∧
  ((@Go.Proofs.Ytjndgegfonhhfaa.SE.I64 (2 : @Int)) ∧
  ((((Go.Proofs.Ytjndgegfonhhfaa.SE.AV.lit (Go.Value.int @Go.IntKind.i64 (0 : @Int))) = (Go.Proofs.Ytjndgegfonhhfaa.SE.AV.lit (Go.Value.int @Go.IntKind.i64 (0 : @Int)))) ∧
  (((Go.Proofs.Ytjndgegfonhhfaa.SE.AV.lit (Go.Value.int @Go.IntKind.i64 (0 : @Int))) = (Go.Proofs.Ytjndgegfonhhfaa.SE.AV.lit (Go.Value.int @Go.IntKind.i64 (0 : @Int)))) ∧
  (((Go.Proofs.Ytjndgegfonhhfaa.SE.AV.lit (Go.Value.int @Go.IntKind.i64 (2 : @Int))) = (Go.Proofs.Ytjndgegfonhhfaa.SE.AV.lit (Go.Value.int @Go.IntKind.i64 (2 : @Int)))) ∧
  (((Go.Proofs.Ytjndgegfonhhfaa.SE.AV.lit (Go.Value.int @Go.IntKind.i64 (0 : @Int))) = (Go.Proofs.Ytjndgegfonhhfaa.SE.AV.lit (Go.Value.int @Go.IntKind.i64 (0 : @Int)))) ∧
  True)))) ∧
  ((@Go.Proofs.Ytjndgegfonhhfaa.SE.I64 (1099511627776 : @Int)) ∧
  ((@Go.Proofs.Ytjndgegfonhhfaa.SE.I64 (2 : @Int)) ∧
  ((((Go.Proofs.Ytjndgegfonhhfaa.SE.AV.lit (Go.Value.int @Go.IntKind.i64 (0 : @Int))) = (Go.Proofs.Ytjndgegfonhhfaa.SE.AV.lit (Go.Value.int @Go.IntKind.i64 (0 : @Int)))) ∧
  (((Go.Proofs.Ytjndgegfonhhfaa.SE.AV.lit (Go.Value.int @Go.IntKind.i64 (0 : @Int))) = (Go.Proofs.Ytjndgegfonhhfaa.SE.AV.lit (Go.Value.int @Go.IntKind.i64 (0 : @Int)))) ∧
  True)) ∧
  ((@Go.Proofs.Ytjndgegfonhhfaa.SE.I64 (1099511627776 : @Int)) ∧
  ((@Go.Proofs.Ytjndgegfonhhfaa.SE.I64 (0 : @Int)) ∧
  (True ∧
  (True ∧
  (True ∧
  (True ∧
  ((@Go.Proofs.Ytjndgegfonhhfaa.SE.I64 (1099511627776 : @Int)) ∧
  ((@Go.Proofs.Ytjndgegfonhhfaa.SE.I64 (0 : @Int)) ∧
  ((((Go.Proofs.Ytjndgegfonhhfaa.SE.AV.lit (Go.Value.int @Go.IntKind.i64 (0 : @Int))) = (Go.Proofs.Ytjndgegfonhhfaa.SE.AV.lit (Go.Value.int @Go.IntKind.i64 (0 : @Int)))) ∧
  (((Go.Proofs.Ytjndgegfonhhfaa.SE.AV.lit (Go.Value.int @Go.IntKind.i64 (0 : @Int))) = (Go.Proofs.Ytjndgegfonhhfaa.SE.AV.lit (Go.Value.int @Go.IntKind.i64 (0 : @Int)))) ∧
  (((Go.Proofs.Ytjndgegfonhhfaa.SE.AV.lit (Go.Value.int @Go.IntKind.i64 (1 : @Int))) = (Go.Proofs.Ytjndgegfonhhfaa.SE.AV.lit (Go.Value.int @Go.IntKind.i64 (1 : @Int)))) ∧
  (((Go.Proofs.Ytjndgegfonhhfaa.SE.AV.lit (Go.Value.int @Go.IntKind.i64 (0 : @Int))) = (Go.Proofs.Ytjndgegfonhhfaa.SE.AV.lit (Go.Value.int @Go.IntKind.i64 (0 : @Int)))) ∧
  True)))) ∧
  ((@Go.Proofs.Ytjndgegfonhhfaa.SE.I64 (1099511627776 : @Int)) ∧
  ((@Go.Proofs.Ytjndgegfonhhfaa.SE.I64 (1 : @Int)) ∧
  ((((Go.Proofs.Ytjndgegfonhhfaa.SE.AV.lit (Go.Value.int @Go.IntKind.i64 (0 : @Int))) = (Go.Proofs.Ytjndgegfonhhfaa.SE.AV.lit (Go.Value.int @Go.IntKind.i64 (0 : @Int)))) ∧
  (((Go.Proofs.Ytjndgegfonhhfaa.SE.AV.lit (Go.Value.int @Go.IntKind.i64 (0 : @Int))) = (Go.Proofs.Ytjndgegfonhhfaa.SE.AV.lit (Go.Value.int @Go.IntKind.i64 (0 : @Int)))) ∧
  True)) ∧
  ((@Go.Proofs.Ytjndgegfonhhfaa.SE.I64 (1099511627776 : @Int)) ∧
  ((@Go.Proofs.Ytjndgegfonhhfaa.SE.I64 (0 : @Int)) ∧
  (True ∧
  (True ∧
  (True ∧
  (True ∧
  ((@Go.Proofs.Ytjndgegfonhhfaa.SE.I64 (1 : @Int)) ∧
  (((@Int.NonNeg (1 : @Int)) ∧
  (@Int.NonNeg (0 : @Int))) ∧
  ((@Go.Proofs.Ytjndgegfonhhfaa.SE.I64 (1099511627774 : @Int)) ∧
  ((@Go.Proofs.Ytjndgegfonhhfaa.SE.I64 (3 : @Int)) ∧
  ((((Go.Proofs.Ytjndgegfonhhfaa.SE.AV.lit (Go.Value.int @Go.IntKind.i64 (0 : @Int))) = (Go.Proofs.Ytjndgegfonhhfaa.SE.AV.lit (Go.Value.int @Go.IntKind.i64 (0 : @Int)))) ∧
  (((Go.Proofs.Ytjndgegfonhhfaa.SE.AV.lit (Go.Value.int @Go.IntKind.i64 (0 : @Int))) = (Go.Proofs.Ytjndgegfonhhfaa.SE.AV.lit (Go.Value.int @Go.IntKind.i64 (0 : @Int)))) ∧
  (((Go.Proofs.Ytjndgegfonhhfaa.SE.AV.lit (Go.Value.int @Go.IntKind.i64 (0 : @Int))) = (Go.Proofs.Ytjndgegfonhhfaa.SE.AV.lit (Go.Value.int @Go.IntKind.i64 (0 : @Int)))) ∧
  (((Go.Proofs.Ytjndgegfonhhfaa.SE.AV.lit (Go.Value.int @Go.IntKind.i64 (2 : @Int))) = (Go.Proofs.Ytjndgegfonhhfaa.SE.AV.lit (Go.Value.int @Go.IntKind.i64 (2 : @Int)))) ∧
  True)))) ∧
  ((@Go.Proofs.Ytjndgegfonhhfaa.SE.I64 (1099511627774 : @Int)) ∧
  ((@Go.Proofs.Ytjndgegfonhhfaa.SE.I64 (2 : @Int)) ∧
  ((((Go.Proofs.Ytjndgegfonhhfaa.SE.AV.lit (Go.Value.int @Go.IntKind.i64 (0 : @Int))) = (Go.Proofs.Ytjndgegfonhhfaa.SE.AV.lit (Go.Value.int @Go.IntKind.i64 (0 : @Int)))) ∧
  (((Go.Proofs.Ytjndgegfonhhfaa.SE.AV.lit (Go.Value.int @Go.IntKind.i64 (0 : @Int))) = (Go.Proofs.Ytjndgegfonhhfaa.SE.AV.lit (Go.Value.int @Go.IntKind.i64 (0 : @Int)))) ∧
  True)) ∧
  ((@Go.Proofs.Ytjndgegfonhhfaa.SE.I64 (1099511627776 : @Int)) ∧
  ((@Go.Proofs.Ytjndgegfonhhfaa.SE.I64 (0 : @Int)) ∧
  (True ∧
  (True ∧
  (True ∧
  (True ∧
  ((@Go.Proofs.Ytjndgegfonhhfaa.SE.I64 (1099511627776 : @Int)) ∧
  ((@Go.Proofs.Ytjndgegfonhhfaa.SE.I64 (0 : @Int)) ∧
  ((((Go.Proofs.Ytjndgegfonhhfaa.SE.AV.lit (Go.Value.int @Go.IntKind.i64 (0 : @Int))) = (Go.Proofs.Ytjndgegfonhhfaa.SE.AV.lit (Go.Value.int @Go.IntKind.i64 (0 : @Int)))) ∧
  (((Go.Proofs.Ytjndgegfonhhfaa.SE.AV.lit (Go.Value.int @Go.IntKind.i64 (0 : @Int))) = (Go.Proofs.Ytjndgegfonhhfaa.SE.AV.lit (Go.Value.int @Go.IntKind.i64 (0 : @Int)))) ∧
  (((Go.Proofs.Ytjndgegfonhhfaa.SE.AV.lit (Go.Value.int @Go.IntKind.i64 (0 : @Int))) = (Go.Proofs.Ytjndgegfonhhfaa.SE.AV.lit (Go.Value.int @Go.IntKind.i64 (0 : @Int)))) ∧
  (((Go.Proofs.Ytjndgegfonhhfaa.SE.AV.lit (Go.Value.int @Go.IntKind.i64 (1 : @Int))) = (Go.Proofs.Ytjndgegfonhhfaa.SE.AV.lit (Go.Value.int @Go.IntKind.i64 (1 : @Int)))) ∧
  True)))) ∧
  ((@Go.Proofs.Ytjndgegfonhhfaa.SE.I64 (1099511627775 : @Int)) ∧
  ((@Go.Proofs.Ytjndgegfonhhfaa.SE.I64 (1 : @Int)) ∧
  ((((Go.Proofs.Ytjndgegfonhhfaa.SE.AV.lit (Go.Value.int @Go.IntKind.i64 (0 : @Int))) = (Go.Proofs.Ytjndgegfonhhfaa.SE.AV.lit (Go.Value.int @Go.IntKind.i64 (0 : @Int)))) ∧
  (((Go.Proofs.Ytjndgegfonhhfaa.SE.AV.lit (Go.Value.int @Go.IntKind.i64 (0 : @Int))) = (Go.Proofs.Ytjndgegfonhhfaa.SE.AV.lit (Go.Value.int @Go.IntKind.i64 (0 : @Int)))) ∧
  True)) ∧
  ((@Go.Proofs.Ytjndgegfonhhfaa.SE.I64 (1099511627776 : @Int)) ∧
  ((@Go.Proofs.Ytjndgegfonhhfaa.SE.I64 (0 : @Int)) ∧
  (True ∧
  (True ∧
  (True ∧
  (True ∧
  ((@Go.Proofs.Ytjndgegfonhhfaa.SE.I64 (2 : @Int)) ∧
  (True ∧
  (True ∧
  (((@Int.NonNeg (0 : @Int)) ∧
  (@Int.NonNeg (1 : @Int))) ∧
  ((@Go.Proofs.Ytjndgegfonhhfaa.SE.I64 (1099511627776 : @Int)) ∧
  ((@Go.Proofs.Ytjndgegfonhhfaa.SE.I64 (3 : @Int)) ∧
  ((((Go.Proofs.Ytjndgegfonhhfaa.SE.AV.lit (Go.Value.int @Go.IntKind.i64 (0 : @Int))) = (Go.Proofs.Ytjndgegfonhhfaa.SE.AV.lit (Go.Value.int @Go.IntKind.i64 (0 : @Int)))) ∧
  (((Go.Proofs.Ytjndgegfonhhfaa.SE.AV.lit (Go.Value.int @Go.IntKind.i64 (0 : @Int))) = (Go.Proofs.Ytjndgegfonhhfaa.SE.AV.lit (Go.Value.int @Go.IntKind.i64 (0 : @Int)))) ∧
  (((Go.Proofs.Ytjndgegfonhhfaa.SE.AV.lit (Go.Value.int @Go.IntKind.i64 (0 : @Int))) = (Go.Proofs.Ytjndgegfonhhfaa.SE.AV.lit (Go.Value.int @Go.IntKind.i64 (0 : @Int)))) ∧
  (((Go.Proofs.Ytjndgegfonhhfaa.SE.AV.lit (Go.Value.int @Go.IntKind.i64 (0 : @Int))) = (Go.Proofs.Ytjndgegfonhhfaa.SE.AV.lit (Go.Value.int @Go.IntKind.i64 (0 : @Int)))) ∧
  True)))) ∧
  ((@Go.Proofs.Ytjndgegfonhhfaa.SE.I64 (1099511627776 : @Int)) ∧
  ((@Go.Proofs.Ytjndgegfonhhfaa.SE.I64 (0 : @Int)) ∧
  ((((Go.Proofs.Ytjndgegfonhhfaa.SE.AV.lit (Go.Value.int @Go.IntKind.i64 (0 : @Int))) = (Go.Proofs.Ytjndgegfonhhfaa.SE.AV.lit (Go.Value.int @Go.IntKind.i64 (0 : @Int)))) ∧
  (((Go.Proofs.Ytjndgegfonhhfaa.SE.AV.lit (Go.Value.int @Go.IntKind.i64 (0 : @Int))) = (Go.Proofs.Ytjndgegfonhhfaa.SE.AV.lit (Go.Value.int @Go.IntKind.i64 (0 : @Int)))) ∧
  True)) ∧
  ((@Go.Proofs.Ytjndgegfonhhfaa.SE.I64 (1099511627776 : @Int)) ∧
  ((@Go.Proofs.Ytjndgegfonhhfaa.SE.I64 (0 : @Int)) ∧
  (True ∧
  (True ∧
  (True ∧
  (True ∧
  ((@Go.Proofs.Ytjndgegfonhhfaa.SE.I64 (1099511627776 : @Int)) ∧
  ((@Go.Proofs.Ytjndgegfonhhfaa.SE.I64 (0 : @Int)) ∧
  ((((Go.Proofs.Ytjndgegfonhhfaa.SE.AV.lit (Go.Value.int @Go.IntKind.i64 (0 : @Int))) = (Go.Proofs.Ytjndgegfonhhfaa.SE.AV.lit (Go.Value.int @Go.IntKind.i64 (0 : @Int)))) ∧
  (((Go.Proofs.Ytjndgegfonhhfaa.SE.AV.lit (Go.Value.int @Go.IntKind.i64 (0 : @Int))) = (Go.Proofs.Ytjndgegfonhhfaa.SE.AV.lit (Go.Value.int @Go.IntKind.i64 (0 : @Int)))) ∧
  (((Go.Proofs.Ytjndgegfonhhfaa.SE.AV.lit (Go.Value.int @Go.IntKind.i64 (0 : @Int))) = (Go.Proofs.Ytjndgegfonhhfaa.SE.AV.lit (Go.Value.int @Go.IntKind.i64 (0 : @Int)))) ∧
  (((Go.Proofs.Ytjndgegfonhhfaa.SE.AV.lit (Go.Value.int @Go.IntKind.i64 (0 : @Int))) = (Go.Proofs.Ytjndgegfonhhfaa.SE.AV.lit (Go.Value.int @Go.IntKind.i64 (0 : @Int)))) ∧
  True)))) ∧
  ((@Go.Proofs.Ytjndgegfonhhfaa.SE.I64 (1099511627776 : @Int)) ∧
  ((@Go.Proofs.Ytjndgegfonhhfaa.SE.I64 (0 : @Int)) ∧
  ((((Go.Proofs.Ytjndgegfonhhfaa.SE.AV.lit (Go.Value.int @Go.IntKind.i64 (0 : @Int))) = (Go.Proofs.Ytjndgegfonhhfaa.SE.AV.lit (Go.Value.int @Go.IntKind.i64 (0 : @Int)))) ∧
  (((Go.Proofs.Ytjndgegfonhhfaa.SE.AV.lit (Go.Value.int @Go.IntKind.i64 (0 : @Int))) = (Go.Proofs.Ytjndgegfonhhfaa.SE.AV.lit (Go.Value.int @Go.IntKind.i64 (0 : @Int)))) ∧
  True)) ∧
  ((@Go.Proofs.Ytjndgegfonhhfaa.SE.I64 (1099511627776 : @Int)) ∧
  ((@Go.Proofs.Ytjndgegfonhhfaa.SE.I64 (0 : @Int)) ∧
  (True ∧
  (True ∧
  (True ∧
  (True ∧
  ((@Go.Proofs.Ytjndgegfonhhfaa.SE.I64 (1 : @Int)) ∧
  (((@Int.NonNeg (1 : @Int)) ∧
  (@Int.NonNeg (0 : @Int))) ∧
  ((@Go.Proofs.Ytjndgegfonhhfaa.SE.I64 (1099511627773 : @Int)) ∧
  ((@Go.Proofs.Ytjndgegfonhhfaa.SE.I64 (6 : @Int)) ∧
  ((((Go.Proofs.Ytjndgegfonhhfaa.SE.AV.lit (Go.Value.int @Go.IntKind.i64 (0 : @Int))) = (Go.Proofs.Ytjndgegfonhhfaa.SE.AV.lit (Go.Value.int @Go.IntKind.i64 (0 : @Int)))) ∧
  (((Go.Proofs.Ytjndgegfonhhfaa.SE.AV.lit (Go.Value.int @Go.IntKind.i64 (0 : @Int))) = (Go.Proofs.Ytjndgegfonhhfaa.SE.AV.lit (Go.Value.int @Go.IntKind.i64 (0 : @Int)))) ∧
  (((Go.Proofs.Ytjndgegfonhhfaa.SE.AV.lit (Go.Value.int @Go.IntKind.i64 (2 : @Int))) = (Go.Proofs.Ytjndgegfonhhfaa.SE.AV.lit (Go.Value.int @Go.IntKind.i64 (2 : @Int)))) ∧
  (((Go.Proofs.Ytjndgegfonhhfaa.SE.AV.lit (Go.Value.int @Go.IntKind.i64 (0 : @Int))) = (Go.Proofs.Ytjndgegfonhhfaa.SE.AV.lit (Go.Value.int @Go.IntKind.i64 (0 : @Int)))) ∧
  True)))) ∧
  ((@Go.Proofs.Ytjndgegfonhhfaa.SE.I64 (1099511627776 : @Int)) ∧
  ((@Go.Proofs.Ytjndgegfonhhfaa.SE.I64 (2 : @Int)) ∧
  ((((Go.Proofs.Ytjndgegfonhhfaa.SE.AV.lit (Go.Value.int @Go.IntKind.i64 (0 : @Int))) = (Go.Proofs.Ytjndgegfonhhfaa.SE.AV.lit (Go.Value.int @Go.IntKind.i64 (0 : @Int)))) ∧
  (((Go.Proofs.Ytjndgegfonhhfaa.SE.AV.lit (Go.Value.int @Go.IntKind.i64 (0 : @Int))) = (Go.Proofs.Ytjndgegfonhhfaa.SE.AV.lit (Go.Value.int @Go.IntKind.i64 (0 : @Int)))) ∧
  True)) ∧
  ((@Go.Proofs.Ytjndgegfonhhfaa.SE.I64 (1099511627776 : @Int)) ∧
  ((@Go.Proofs.Ytjndgegfonhhfaa.SE.I64 (0 : @Int)) ∧
  (True ∧
  (True ∧
  (True ∧
  (True ∧
  ((@Go.Proofs.Ytjndgegfonhhfaa.SE.I64 (1099511627776 : @Int)) ∧
  ((@Go.Proofs.Ytjndgegfonhhfaa.SE.I64 (0 : @Int)) ∧
  ((((Go.Proofs.Ytjndgegfonhhfaa.SE.AV.lit (Go.Value.int @Go.IntKind.i64 (0 : @Int))) = (Go.Proofs.Ytjndgegfonhhfaa.SE.AV.lit (Go.Value.int @Go.IntKind.i64 (0 : @Int)))) ∧
  (((Go.Proofs.Ytjndgegfonhhfaa.SE.AV.lit (Go.Value.int @Go.IntKind.i64 (0 : @Int))) = (Go.Proofs.Ytjndgegfonhhfaa.SE.AV.lit (Go.Value.int @Go.IntKind.i64 (0 : @Int)))) ∧
  (((Go.Proofs.Ytjndgegfonhhfaa.SE.AV.lit (Go.Value.int @Go.IntKind.i64 (1 : @Int))) = (Go.Proofs.Ytjndgegfonhhfaa.SE.AV.lit (Go.Value.int @Go.IntKind.i64 (1 : @Int)))) ∧
  (((Go.Proofs.Ytjndgegfonhhfaa.SE.AV.lit (Go.Value.int @Go.IntKind.i64 (0 : @Int))) = (Go.Proofs.Ytjndgegfonhhfaa.SE.AV.lit (Go.Value.int @Go.IntKind.i64 (0 : @Int)))) ∧
  True)))) ∧
  ((@Go.Proofs.Ytjndgegfonhhfaa.SE.I64 (1099511627776 : @Int)) ∧
  ((@Go.Proofs.Ytjndgegfonhhfaa.SE.I64 (1 : @Int)) ∧
  ((((Go.Proofs.Ytjndgegfonhhfaa.SE.AV.lit (Go.Value.int @Go.IntKind.i64 (0 : @Int))) = (Go.Proofs.Ytjndgegfonhhfaa.SE.AV.lit (Go.Value.int @Go.IntKind.i64 (0 : @Int)))) ∧
  (((Go.Proofs.Ytjndgegfonhhfaa.SE.AV.lit (Go.Value.int @Go.IntKind.i64 (0 : @Int))) = (Go.Proofs.Ytjndgegfonhhfaa.SE.AV.lit (Go.Value.int @Go.IntKind.i64 (0 : @Int)))) ∧
  True)) ∧
  ((@Go.Proofs.Ytjndgegfonhhfaa.SE.I64 (1099511627776 : @Int)) ∧
  ((@Go.Proofs.Ytjndgegfonhhfaa.SE.I64 (0 : @Int)) ∧
  (True ∧
  (True ∧
  (True ∧
  (True ∧
  ((@Go.Proofs.Ytjndgegfonhhfaa.SE.I64 (2 : @Int)) ∧
  (((@Int.NonNeg (0 : @Int)) ∧
  (@Int.NonNeg (2 : @Int))) ∧
  (((@Int.NonNeg (5 : @Int)) ∧
  (@Int.NonNeg (252 : @Int))) ∧
  (((5 : @Nat) < (258 : @Nat)) ∧
  (((@Int.NonNeg (5 : @Int)) ∧
  (@Int.NonNeg (252 : @Int))) ∧
  (((5 : @Nat) < (258 : @Nat)) ∧
  ((@Go.Proofs.Ytjndgegfonhhfaa.SE.I64 (1 : @Int)) ∧
  ((@Go.Proofs.Ytjndgegfonhhfaa.SE.I64 (1 : @Int)) ∧
  (((@Int.NonNeg (1 : @Int)) ∧
  (@Int.NonNeg (1 : @Int))) ∧
  (((@Int.NonNeg (3 : @Int)) ∧
  (@Int.NonNeg (254 : @Int))) ∧
  (((3 : @Nat) < (258 : @Nat)) ∧
  (((@Int.NonNeg (3 : @Int)) ∧
  (@Int.NonNeg (254 : @Int))) ∧
  (((3 : @Nat) < (258 : @Nat)) ∧
  ((@Go.Proofs.Ytjndgegfonhhfaa.SE.I64 (2 : @Int)) ∧
  ((@Go.Proofs.Ytjndgegfonhhfaa.SE.I64 (2 : @Int)) ∧
  (((@Int.NonNeg (2 : @Int)) ∧
  (@Int.NonNeg (0 : @Int))) ∧
  (((@Int.NonNeg (5 : @Int)) ∧
  (@Int.NonNeg (252 : @Int))) ∧
  (((5 : @Nat) < (258 : @Nat)) ∧
  ((@Go.Proofs.Ytjndgegfonhhfaa.SE.I64 (3 : @Int)) ∧
  ((@Go.Proofs.Ytjndgegfonhhfaa.SE.I64 (6 : @Int)) ∧
  ((@Go.Proofs.Ytjndgegfonhhfaa.SE.I64 (3 : @Int)) ∧
  ((@Bool.true = @Bool.true) ∧
  True))))))))))))))))))))))))))))))))))))))))))))))))))))))))))))))))))))))))))))))))))))))))))))))))))))))))))))))))))))))))))))))))))))))))))) ∧
  ((((Go.Proofs.Ytjndgegfonhhfaa.SE.AV.lit (Go.Value.string (@ByteArray.mk (@List.toArray @UInt8 [(97 : @UInt8)])))) = (Go.Proofs.Ytjndgegfonhhfaa.SE.AV.lit (Go.Value.string (@ByteArray.mk (@List.toArray @UInt8 [(97 : @UInt8)]))))) ∧
  (((Go.Proofs.Ytjndgegfonhhfaa.SE.AV.agg [(Go.Proofs.Ytjndgegfonhhfaa.SE.AV.lit (Go.Value.slice (@Option.none @Go.Addr) (0 : @Nat) (0 : @Nat))), (Go.Proofs.Ytjndgegfonhhfaa.SE.AV.lit (Go.Value.slice (@Option.none @Go.Addr) (0 : @Nat) (0 : @Nat)))]) = (Go.Proofs.Ytjndgegfonhhfaa.SE.AV.agg [(Go.Proofs.Ytjndgegfonhhfaa.SE.AV.lit (Go.Value.slice (@Option.none @Go.Addr) (0 : @Nat) (0 : @Nat))), (Go.Proofs.Ytjndgegfonhhfaa.SE.AV.lit (Go.Value.slice (@Option.none @Go.Addr) (0 : @Nat) (0 : @Nat)))])) ∧
  (((Go.Proofs.Ytjndgegfonhhfaa.SE.AV.lit (Go.Value.string (@ByteArray.mk (@List.toArray @UInt8 [(49 : @UInt8)])))) = (Go.Proofs.Ytjndgegfonhhfaa.SE.AV.lit (Go.Value.string (@ByteArray.mk (@List.toArray @UInt8 [(49 : @UInt8)]))))) ∧
  (((Go.Proofs.Ytjndgegfonhhfaa.SE.AV.lit (Go.Value.string (@ByteArray.mk (@List.toArray @UInt8 [(97 : @UInt8)])))) = (Go.Proofs.Ytjndgegfonhhfaa.SE.AV.lit (Go.Value.string (@ByteArray.mk (@List.toArray @UInt8 [(97 : @UInt8)]))))) ∧
  True)))) ∧
  ((@Int.NonNeg (0 : @Int)) ∧
  ((@Go.Proofs.Ytjndgegfonhhfaa.SE.I64 (0 : @Int)) ∧
  ((@Go.Proofs.Ytjndgegfonhhfaa.SE.I64 (0 : @Int)) ∧
  ((@Go.Proofs.Ytjndgegfonhhfaa.SE.I64 (28 : @Int)) ∧
  ((@Int.NonNeg (0 : @Int)) ∧
  ((@Go.Proofs.Ytjndgegfonhhfaa.SE.I64 (2 : @Int)) ∧
  ((@Go.Proofs.Ytjndgegfonhhfaa.SE.I64 (2 : @Int)) ∧
  ((((Go.Proofs.Ytjndgegfonhhfaa.SE.AV.lit (Go.Value.string (@ByteArray.mk (@List.toArray @UInt8 [(97 : @UInt8)])))) = (Go.Proofs.Ytjndgegfonhhfaa.SE.AV.lit (Go.Value.string (@ByteArray.mk (@List.toArray @UInt8 [(97 : @UInt8)]))))) ∧
  (((Go.Proofs.Ytjndgegfonhhfaa.SE.AV.agg [(Go.Proofs.Ytjndgegfonhhfaa.SE.AV.lit (Go.Value.slice (@Option.none @Go.Addr) (0 : @Nat) (0 : @Nat))), (Go.Proofs.Ytjndgegfonhhfaa.SE.AV.lit (Go.Value.slice (@Option.none @Go.Addr) (0 : @Nat) (0 : @Nat)))]) = (Go.Proofs.Ytjndgegfonhhfaa.SE.AV.agg [(Go.Proofs.Ytjndgegfonhhfaa.SE.AV.lit (Go.Value.slice (@Option.none @Go.Addr) (0 : @Nat) (0 : @Nat))), (Go.Proofs.Ytjndgegfonhhfaa.SE.AV.lit (Go.Value.slice (@Option.none @Go.Addr) (0 : @Nat) (0 : @Nat)))])) ∧
  True)) ∧
  (True ∧
  (True ∧
  (((@Int.NonNeg (0 : @Int)) ∧
  (@Int.NonNeg (1 : @Int))) ∧
  ((@Go.Proofs.Ytjndgegfonhhfaa.SE.I64 (1099511627776 : @Int)) ∧
  ((@Go.Proofs.Ytjndgegfonhhfaa.SE.I64 (2 : @Int)) ∧
  ((((Go.Proofs.Ytjndgegfonhhfaa.SE.AV.lit (Go.Value.int @Go.IntKind.i64 (0 : @Int))) = (Go.Proofs.Ytjndgegfonhhfaa.SE.AV.lit (Go.Value.int @Go.IntKind.i64 (0 : @Int)))) ∧
  (((Go.Proofs.Ytjndgegfonhhfaa.SE.AV.lit (Go.Value.int @Go.IntKind.i64 (0 : @Int))) = (Go.Proofs.Ytjndgegfonhhfaa.SE.AV.lit (Go.Value.int @Go.IntKind.i64 (0 : @Int)))) ∧
  (((Go.Proofs.Ytjndgegfonhhfaa.SE.AV.lit (Go.Value.int @Go.IntKind.i64 (2 : @Int))) = (Go.Proofs.Ytjndgegfonhhfaa.SE.AV.lit (Go.Value.int @Go.IntKind.i64 (2 : @Int)))) ∧
  (((Go.Proofs.Ytjndgegfonhhfaa.SE.AV.lit (Go.Value.int @Go.IntKind.i64 (0 : @Int))) = (Go.Proofs.Ytjndgegfonhhfaa.SE.AV.lit (Go.Value.int @Go.IntKind.i64 (0 : @Int)))) ∧
  True)))) ∧
  ((@Go.Proofs.Ytjndgegfonhhfaa.SE.I64 (1099511627776 : @Int)) ∧
  ((@Go.Proofs.Ytjndgegfonhhfaa.SE.I64 (2 : @Int)) ∧
  ((((Go.Proofs.Ytjndgegfonhhfaa.SE.AV.lit (Go.Value.int @Go.IntKind.i64 (0 : @Int))) = (Go.Proofs.Ytjndgegfonhhfaa.SE.AV.lit (Go.Value.int @Go.IntKind.i64 (0 : @Int)))) ∧
  (((Go.Proofs.Ytjndgegfonhhfaa.SE.AV.lit (Go.Value.int @Go.IntKind.i64 (0 : @Int))) = (Go.Proofs.Ytjndgegfonhhfaa.SE.AV.lit (Go.Value.int @Go.IntKind.i64 (0 : @Int)))) ∧
  True)) ∧
  ((@Go.Proofs.Ytjndgegfonhhfaa.SE.I64 (1099511627776 : @Int)) ∧
  ((@Go.Proofs.Ytjndgegfonhhfaa.SE.I64 (0 : @Int)) ∧
  (True ∧
  (True ∧
  (True ∧
  (True ∧
  ((@Go.Proofs.Ytjndgegfonhhfaa.SE.I64 (1099511627776 : @Int)) ∧
  ((@Go.Proofs.Ytjndgegfonhhfaa.SE.I64 (0 : @Int)) ∧
  ((((Go.Proofs.Ytjndgegfonhhfaa.SE.AV.lit (Go.Value.int @Go.IntKind.i64 (0 : @Int))) = (Go.Proofs.Ytjndgegfonhhfaa.SE.AV.lit (Go.Value.int @Go.IntKind.i64 (0 : @Int)))) ∧
  (((Go.Proofs.Ytjndgegfonhhfaa.SE.AV.lit (Go.Value.int @Go.IntKind.i64 (0 : @Int))) = (Go.Proofs.Ytjndgegfonhhfaa.SE.AV.lit (Go.Value.int @Go.IntKind.i64 (0 : @Int)))) ∧
  (((Go.Proofs.Ytjndgegfonhhfaa.SE.AV.lit (Go.Value.int @Go.IntKind.i64 (1 : @Int))) = (Go.Proofs.Ytjndgegfonhhfaa.SE.AV.lit (Go.Value.int @Go.IntKind.i64 (1 : @Int)))) ∧
  (((Go.Proofs.Ytjndgegfonhhfaa.SE.AV.lit (Go.Value.int @Go.IntKind.i64 (0 : @Int))) = (Go.Proofs.Ytjndgegfonhhfaa.SE.AV.lit (Go.Value.int @Go.IntKind.i64 (0 : @Int)))) ∧
  True)))) ∧
  ((@Go.Proofs.Ytjndgegfonhhfaa.SE.I64 (1099511627776 : @Int)) ∧
  ((@Go.Proofs.Ytjndgegfonhhfaa.SE.I64 (1 : @Int)) ∧
  ((((Go.Proofs.Ytjndgegfonhhfaa.SE.AV.lit (Go.Value.int @Go.IntKind.i64 (0 : @Int))) = (Go.Proofs.Ytjndgegfonhhfaa.SE.AV.lit (Go.Value.int @Go.IntKind.i64 (0 : @Int)))) ∧
  (((Go.Proofs.Ytjndgegfonhhfaa.SE.AV.lit (Go.Value.int @Go.IntKind.i64 (0 : @Int))) = (Go.Proofs.Ytjndgegfonhhfaa.SE.AV.lit (Go.Value.int @Go.IntKind.i64 (0 : @Int)))) ∧
  True)) ∧
  ((@Go.Proofs.Ytjndgegfonhhfaa.SE.I64 (1099511627776 : @Int)) ∧
  ((@Go.Proofs.Ytjndgegfonhhfaa.SE.I64 (0 : @Int)) ∧
  (True ∧
  (True ∧
  (True ∧
  (True ∧
  ((@Go.Proofs.Ytjndgegfonhhfaa.SE.I64 (1 : @Int)) ∧
  (((@Int.NonNeg (1 : @Int)) ∧
  (@Int.NonNeg (0 : @Int))) ∧
  ((@Go.Proofs.Ytjndgegfonhhfaa.SE.I64 (1099511627774 : @Int)) ∧
  ((@Go.Proofs.Ytjndgegfonhhfaa.SE.I64 (3 : @Int)) ∧
  ((((Go.Proofs.Ytjndgegfonhhfaa.SE.AV.lit (Go.Value.int @Go.IntKind.i64 (0 : @Int))) = (Go.Proofs.Ytjndgegfonhhfaa.SE.AV.lit (Go.Value.int @Go.IntKind.i64 (0 : @Int)))) ∧
  (((Go.Proofs.Ytjndgegfonhhfaa.SE.AV.lit (Go.Value.int @Go.IntKind.i64 (0 : @Int))) = (Go.Proofs.Ytjndgegfonhhfaa.SE.AV.lit (Go.Value.int @Go.IntKind.i64 (0 : @Int)))) ∧
  (((Go.Proofs.Ytjndgegfonhhfaa.SE.AV.lit (Go.Value.int @Go.IntKind.i64 (0 : @Int))) = (Go.Proofs.Ytjndgegfonhhfaa.SE.AV.lit (Go.Value.int @Go.IntKind.i64 (0 : @Int)))) ∧
  (((Go.Proofs.Ytjndgegfonhhfaa.SE.AV.lit (Go.Value.int @Go.IntKind.i64 (2 : @Int))) = (Go.Proofs.Ytjndgegfonhhfaa.SE.AV.lit (Go.Value.int @Go.IntKind.i64 (2 : @Int)))) ∧
  True)))) ∧
  ((@Go.Proofs.Ytjndgegfonhhfaa.SE.I64 (1099511627774 : @Int)) ∧
  ((@Go.Proofs.Ytjndgegfonhhfaa.SE.I64 (2 : @Int)) ∧
  ((((Go.Proofs.Ytjndgegfonhhfaa.SE.AV.lit (Go.Value.int @Go.IntKind.i64 (0 : @Int))) = (Go.Proofs.Ytjndgegfonhhfaa.SE.AV.lit (Go.Value.int @Go.IntKind.i64 (0 : @Int)))) ∧
  (((Go.Proofs.Ytjndgegfonhhfaa.SE.AV.lit (Go.Value.int @Go.IntKind.i64 (0 : @Int))) = (Go.Proofs.Ytjndgegfonhhfaa.SE.AV.lit (Go.Value.int @Go.IntKind.i64 (0 : @Int)))) ∧
  True)) ∧
  ((@Go.Proofs.Ytjndgegfonhhfaa.SE.I64 (1099511627776 : @Int)) ∧
  ((@Go.Proofs.Ytjndgegfonhhfaa.SE.I64 (0 : @Int)) ∧
  (True ∧
  (True ∧
  (True ∧
  (True ∧
  ((@Go.Proofs.Ytjndgegfonhhfaa.SE.I64 (1099511627776 : @Int)) ∧
  ((@Go.Proofs.Ytjndgegfonhhfaa.SE.I64 (0 : @Int)) ∧
  ((((Go.Proofs.Ytjndgegfonhhfaa.SE.AV.lit (Go.Value.int @Go.IntKind.i64 (0 : @Int))) = (Go.Proofs.Ytjndgegfonhhfaa.SE.AV.lit (Go.Value.int @Go.IntKind.i64 (0 : @Int)))) ∧
  (((Go.Proofs.Ytjndgegfonhhfaa.SE.AV.lit (Go.Value.int @Go.IntKind.i64 (0 : @Int))) = (Go.Proofs.Ytjndgegfonhhfaa.SE.AV.lit (Go.Value.int @Go.IntKind.i64 (0 : @Int)))) ∧
  (((Go.Proofs.Ytjndgegfonhhfaa.SE.AV.lit (Go.Value.int @Go.IntKind.i64 (0 : @Int))) = (Go.Proofs.Ytjndgegfonhhfaa.SE.AV.lit (Go.Value.int @Go.IntKind.i64 (0 : @Int)))) ∧
  (((Go.Proofs.Ytjndgegfonhhfaa.SE.AV.lit (Go.Value.int @Go.IntKind.i64 (1 : @Int))) = (Go.Proofs.Ytjndgegfonhhfaa.SE.AV.lit (Go.Value.int @Go.IntKind.i64 (1 : @Int)))) ∧
  True)))) ∧
  ((@Go.Proofs.Ytjndgegfonhhfaa.SE.I64 (1099511627775 : @Int)) ∧
  ((@Go.Proofs.Ytjndgegfonhhfaa.SE.I64 (1 : @Int)) ∧
  ((((Go.Proofs.Ytjndgegfonhhfaa.SE.AV.lit (Go.Value.int @Go.IntKind.i64 (0 : @Int))) = (Go.Proofs.Ytjndgegfonhhfaa.SE.AV.lit (Go.Value.int @Go.IntKind.i64 (0 : @Int)))) ∧
  (((Go.Proofs.Ytjndgegfonhhfaa.SE.AV.lit (Go.Value.int @Go.IntKind.i64 (0 : @Int))) = (Go.Proofs.Ytjndgegfonhhfaa.SE.AV.lit (Go.Value.int @Go.IntKind.i64 (0 : @Int)))) ∧
  True)) ∧
  ((@Go.Proofs.Ytjndgegfonhhfaa.SE.I64 (1099511627776 : @Int)) ∧
  ((@Go.Proofs.Ytjndgegfonhhfaa.SE.I64 (0 : @Int)) ∧
  (True ∧
  (True ∧
  (True ∧
  (True ∧
  ((@Go.Proofs.Ytjndgegfonhhfaa.SE.I64 (2 : @Int)) ∧
  (True ∧
  (True ∧
  (((@Int.NonNeg (0 : @Int)) ∧
  (@Int.NonNeg (1 : @Int))) ∧
  ((@Go.Proofs.Ytjndgegfonhhfaa.SE.I64 (1099511627776 : @Int)) ∧
  ((@Go.Proofs.Ytjndgegfonhhfaa.SE.I64 (3 : @Int)) ∧
  ((((Go.Proofs.Ytjndgegfonhhfaa.SE.AV.lit (Go.Value.int @Go.IntKind.i64 (0 : @Int))) = (Go.Proofs.Ytjndgegfonhhfaa.SE.AV.lit (Go.Value.int @Go.IntKind.i64 (0 : @Int)))) ∧
  (((Go.Proofs.Ytjndgegfonhhfaa.SE.AV.lit (Go.Value.int @Go.IntKind.i64 (0 : @Int))) = (Go.Proofs.Ytjndgegfonhhfaa.SE.AV.lit (Go.Value.int @Go.IntKind.i64 (0 : @Int)))) ∧
  (((Go.Proofs.Ytjndgegfonhhfaa.SE.AV.lit (Go.Value.int @Go.IntKind.i64 (0 : @Int))) = (Go.Proofs.Ytjndgegfonhhfaa.SE.AV.lit (Go.Value.int @Go.IntKind.i64 (0 : @Int)))) ∧
  (((Go.Proofs.Ytjndgegfonhhfaa.SE.AV.lit (Go.Value.int @Go.IntKind.i64 (0 : @Int))) = (Go.Proofs.Ytjndgegfonhhfaa.SE.AV.lit (Go.Value.int @Go.IntKind.i64 (0 : @Int)))) ∧
  True)))) ∧
  ((@Go.Proofs.Ytjndgegfonhhfaa.SE.I64 (1099511627776 : @Int)) ∧
  ((@Go.Proofs.Ytjndgegfonhhfaa.SE.I64 (0 : @Int)) ∧
  ((((Go.Proofs.Ytjndgegfonhhfaa.SE.AV.lit (Go.Value.int @Go.IntKind.i64 (0 : @Int))) = (Go.Proofs.Ytjndgegfonhhfaa.SE.AV.lit (Go.Value.int @Go.IntKind.i64 (0 : @Int)))) ∧
  (((Go.Proofs.Ytjndgegfonhhfaa.SE.AV.lit (Go.Value.int @Go.IntKind.i64 (0 : @Int))) = (Go.Proofs.Ytjndgegfonhhfaa.SE.AV.lit (Go.Value.int @Go.IntKind.i64 (0 : @Int)))) ∧
  True)) ∧
  ((@Go.Proofs.Ytjndgegfonhhfaa.SE.I64 (1099511627776 : @Int)) ∧
  ((@Go.Proofs.Ytjndgegfonhhfaa.SE.I64 (0 : @Int)) ∧
  (True ∧
  (True ∧
  (True ∧
  (True ∧
  ((@Go.Proofs.Ytjndgegfonhhfaa.SE.I64 (1099511627776 : @Int)) ∧
  ((@Go.Proofs.Ytjndgegfonhhfaa.SE.I64 (0 : @Int)) ∧
  ((((Go.Proofs.Ytjndgegfonhhfaa.SE.AV.lit (Go.Value.int @Go.IntKind.i64 (0 : @Int))) = (Go.Proofs.Ytjndgegfonhhfaa.SE.AV.lit (Go.Value.int @Go.IntKind.i64 (0 : @Int)))) ∧
  (((Go.Proofs.Ytjndgegfonhhfaa.SE.AV.lit (Go.Value.int @Go.IntKind.i64 (0 : @Int))) = (Go.Proofs.Ytjndgegfonhhfaa.SE.AV.lit (Go.Value.int @Go.IntKind.i64 (0 : @Int)))) ∧
  (((Go.Proofs.Ytjndgegfonhhfaa.SE.AV.lit (Go.Value.int @Go.IntKind.i64 (0 : @Int))) = (Go.Proofs.Ytjndgegfonhhfaa.SE.AV.lit (Go.Value.int @Go.IntKind.i64 (0 : @Int)))) ∧
  (((Go.Proofs.Ytjndgegfonhhfaa.SE.AV.lit (Go.Value.int @Go.IntKind.i64 (0 : @Int))) = (Go.Proofs.Ytjndgegfonhhfaa.SE.AV.lit (Go.Value.int @Go.IntKind.i64 (0 : @Int)))) ∧
  True)))) ∧
  ((@Go.Proofs.Ytjndgegfonhhfaa.SE.I64 (1099511627776 : @Int)) ∧
  ((@Go.Proofs.Ytjndgegfonhhfaa.SE.I64 (0 : @Int)) ∧
  ((((Go.Proofs.Ytjndgegfonhhfaa.SE.AV.lit (Go.Value.int @Go.IntKind.i64 (0 : @Int))) = (Go.Proofs.Ytjndgegfonhhfaa.SE.AV.lit (Go.Value.int @Go.IntKind.i64 (0 : @Int)))) ∧
  (((Go.Proofs.Ytjndgegfonhhfaa.SE.AV.lit (Go.Value.int @Go.IntKind.i64 (0 : @Int))) = (Go.Proofs.Ytjndgegfonhhfaa.SE.AV.lit (Go.Value.int @Go.IntKind.i64 (0 : @Int)))) ∧
  True)) ∧
  ((@Go.Proofs.Ytjndgegfonhhfaa.SE.I64 (1099511627776 : @Int)) ∧
  ((@Go.Proofs.Ytjndgegfonhhfaa.SE.I64 (0 : @Int)) ∧
  (True ∧
  (True ∧
  (True ∧
  (True ∧
  ((@Go.Proofs.Ytjndgegfonhhfaa.SE.I64 (1 : @Int)) ∧
  (((@Int.NonNeg (1 : @Int)) ∧
  (@Int.NonNeg (0 : @Int))) ∧
  ((@Go.Proofs.Ytjndgegfonhhfaa.SE.I64 (1099511627773 : @Int)) ∧
  ((@Go.Proofs.Ytjndgegfonhhfaa.SE.I64 (6 : @Int)) ∧
  ((((Go.Proofs.Ytjndgegfonhhfaa.SE.AV.lit (Go.Value.int @Go.IntKind.i64 (0 : @Int))) = (Go.Proofs.Ytjndgegfonhhfaa.SE.AV.lit (Go.Value.int @Go.IntKind.i64 (0 : @Int)))) ∧
  (((Go.Proofs.Ytjndgegfonhhfaa.SE.AV.lit (Go.Value.int @Go.IntKind.i64 (0 : @Int))) = (Go.Proofs.Ytjndgegfonhhfaa.SE.AV.lit (Go.Value.int @Go.IntKind.i64 (0 : @Int)))) ∧
  (((Go.Proofs.Ytjndgegfonhhfaa.SE.AV.lit (Go.Value.int @Go.IntKind.i64 (2 : @Int))) = (Go.Proofs.Ytjndgegfonhhfaa.SE.AV.lit (Go.Value.int @Go.IntKind.i64 (2 : @Int)))) ∧
  (((Go.Proofs.Ytjndgegfonhhfaa.SE.AV.lit (Go.Value.int @Go.IntKind.i64 (0 : @Int))) = (Go.Proofs.Ytjndgegfonhhfaa.SE.AV.lit (Go.Value.int @Go.IntKind.i64 (0 : @Int)))) ∧
  True)))) ∧
  ((@Go.Proofs.Ytjndgegfonhhfaa.SE.I64 (1099511627776 : @Int)) ∧
  ((@Go.Proofs.Ytjndgegfonhhfaa.SE.I64 (2 : @Int)) ∧
  ((((Go.Proofs.Ytjndgegfonhhfaa.SE.AV.lit (Go.Value.int @Go.IntKind.i64 (0 : @Int))) = (Go.Proofs.Ytjndgegfonhhfaa.SE.AV.lit (Go.Value.int @Go.IntKind.i64 (0 : @Int)))) ∧
  (((Go.Proofs.Ytjndgegfonhhfaa.SE.AV.lit (Go.Value.int @Go.IntKind.i64 (0 : @Int))) = (Go.Proofs.Ytjndgegfonhhfaa.SE.AV.lit (Go.Value.int @Go.IntKind.i64 (0 : @Int)))) ∧
  True)) ∧
  ((@Go.Proofs.Ytjndgegfonhhfaa.SE.I64 (1099511627776 : @Int)) ∧
  ((@Go.Proofs.Ytjndgegfonhhfaa.SE.I64 (0 : @Int)) ∧
  (True ∧
  (True ∧
  (True ∧
  (True ∧
  ((@Go.Proofs.Ytjndgegfonhhfaa.SE.I64 (1099511627776 : @Int)) ∧
  ((@Go.Proofs.Ytjndgegfonhhfaa.SE.I64 (0 : @Int)) ∧
  ((((Go.Proofs.Ytjndgegfonhhfaa.SE.AV.lit (Go.Value.int @Go.IntKind.i64 (0 : @Int))) = (Go.Proofs.Ytjndgegfonhhfaa.SE.AV.lit (Go.Value.int @Go.IntKind.i64 (0 : @Int)))) ∧
  (((Go.Proofs.Ytjndgegfonhhfaa.SE.AV.lit (Go.Value.int @Go.IntKind.i64 (0 : @Int))) = (Go.Proofs.Ytjndgegfonhhfaa.SE.AV.lit (Go.Value.int @Go.IntKind.i64 (0 : @Int)))) ∧
  (((Go.Proofs.Ytjndgegfonhhfaa.SE.AV.lit (Go.Value.int @Go.IntKind.i64 (1 : @Int))) = (Go.Proofs.Ytjndgegfonhhfaa.SE.AV.lit (Go.Value.int @Go.IntKind.i64 (1 : @Int)))) ∧
  (((Go.Proofs.Ytjndgegfonhhfaa.SE.AV.lit (Go.Value.int @Go.IntKind.i64 (0 : @Int))) = (Go.Proofs.Ytjndgegfonhhfaa.SE.AV.lit (Go.Value.int @Go.IntKind.i64 (0 : @Int)))) ∧
  True)))) ∧
  ((@Go.Proofs.Ytjndgegfonhhfaa.SE.I64 (1099511627776 : @Int)) ∧
  ((@Go.Proofs.Ytjndgegfonhhfaa.SE.I64 (1 : @Int)) ∧
  ((((Go.Proofs.Ytjndgegfonhhfaa.SE.AV.lit (Go.Value.int @Go.IntKind.i64 (0 : @Int))) = (Go.Proofs.Ytjndgegfonhhfaa.SE.AV.lit (Go.Value.int @Go.IntKind.i64 (0 : @Int)))) ∧
  (((Go.Proofs.Ytjndgegfonhhfaa.SE.AV.lit (Go.Value.int @Go.IntKind.i64 (0 : @Int))) = (Go.Proofs.Ytjndgegfonhhfaa.SE.AV.lit (Go.Value.int @Go.IntKind.i64 (0 : @Int)))) ∧
  True)) ∧
  ((@Go.Proofs.Ytjndgegfonhhfaa.SE.I64 (1099511627776 : @Int)) ∧
  ((@Go.Proofs.Ytjndgegfonhhfaa.SE.I64 (0 : @Int)) ∧
  (True ∧
  (True ∧
  (True ∧
  (True ∧
  ((@Go.Proofs.Ytjndgegfonhhfaa.SE.I64 (2 : @Int)) ∧
  (((@Int.NonNeg (0 : @Int)) ∧
  (@Int.NonNeg (2 : @Int))) ∧
  (((@Int.NonNeg (5 : @Int)) ∧
  (@Int.NonNeg (252 : @Int))) ∧
  (((5 : @Nat) < (258 : @Nat)) ∧
  (((@Int.NonNeg (5 : @Int)) ∧
  (@Int.NonNeg (252 : @Int))) ∧
  (((5 : @Nat) < (258 : @Nat)) ∧
  ((@Go.Proofs.Ytjndgegfonhhfaa.SE.I64 (1 : @Int)) ∧
  ((@Go.Proofs.Ytjndgegfonhhfaa.SE.I64 (1 : @Int)) ∧
  (((@Int.NonNeg (1 : @Int)) ∧
  (@Int.NonNeg (1 : @Int))) ∧
  (((@Int.NonNeg (3 : @Int)) ∧
  (@Int.NonNeg (254 : @Int))) ∧
  (((3 : @Nat) < (258 : @Nat)) ∧
  (((@Int.NonNeg (3 : @Int)) ∧
  (@Int.NonNeg (254 : @Int))) ∧
  (((3 : @Nat) < (258 : @Nat)) ∧
  ((@Go.Proofs.Ytjndgegfonhhfaa.SE.I64 (2 : @Int)) ∧
  ((@Go.Proofs.Ytjndgegfonhhfaa.SE.I64 (2 : @Int)) ∧
  (((@Int.NonNeg (2 : @Int)) ∧
  (@Int.NonNeg (0 : @Int))) ∧
  (((@Int.NonNeg (5 : @Int)) ∧
  (@Int.NonNeg (252 : @Int))) ∧
  (((5 : @Nat) < (258 : @Nat)) ∧
  ((@Go.Proofs.Ytjndgegfonhhfaa.SE.I64 (3 : @Int)) ∧
  ((@Go.Proofs.Ytjndgegfonhhfaa.SE.I64 (6 : @Int)) ∧
  ((@Go.Proofs.Ytjndgegfonhhfaa.SE.I64 (3 : @Int)) ∧
  ((@Bool.true = @Bool.true) ∧
  True))))))))))))))))))))))))))))))))))))))))))))))))))))))))))))))))))))))))))))))))))))))))))))))))))))))))))))))))))))))))))))))))))))))))))))
theorem awakeVC_ok  : awakeVC  = awakeVC_wp  := by kernel_rfl
def refBetweenVC_wp (a0 a1 a2 a3 a4 b0 b1 b2 b3 b4 : Int) (r : Cst) : Prop := wpF Try.prog [] tt (fun _ _ _ _ => []) 200 5 20 [.agg [i64 a0, i64 a1, i64 a2, i64 a3, i64 a4], .agg [i64 b0, i64 b1, i64 b2, i64 b3, i64 b4]] (hO 0 []) (fun v h' => endP 0 r.av [] v h')
def refBetweenVC (a0 a1 a2 a3 a4 b0 b1 b2 b3 b4 : Int) (r : Cst) : Prop :=
  ((@Go.Proofs.Ytjndgegfonhhfaa.SE.I64 ((@Go.Proofs.Ytjndgegfonhhfaa.SE.imax (0 : @Int) b0) - (@Go.Proofs.Ytjndgegfonhhfaa.SE.imax (0 : @Int) a0))) ∧
  ((((Go.Proofs.Ytjndgegfonhhfaa.SE.AV.lit (Go.Value.int @Go.IntKind.i64 b2)) = (Go.Proofs.Ytjndgegfonhhfaa.SE.AV.lit (Go.Value.int @Go.IntKind.i64 b2))) ∧
  (((Go.Proofs.Ytjndgegfonhhfaa.SE.AV.lit (Go.Value.int @Go.IntKind.i64 a2)) = (Go.Proofs.Ytjndgegfonhhfaa.SE.AV.lit (Go.Value.int @Go.IntKind.i64 a2))) ∧
  (((Go.Proofs.Ytjndgegfonhhfaa.SE.AV.lit (Go.Value.int @Go.IntKind.i64 b1)) = (Go.Proofs.Ytjndgegfonhhfaa.SE.AV.lit (Go.Value.int @Go.IntKind.i64 b1))) ∧
  (((Go.Proofs.Ytjndgegfonhhfaa.SE.AV.lit (Go.Value.int @Go.IntKind.i64 a1)) = (Go.Proofs.Ytjndgegfonhhfaa.SE.AV.lit (Go.Value.int @Go.IntKind.i64 a1))) ∧
  True)))) ∧
  ((@Go.Proofs.Ytjndgegfonhhfaa.SE.I64 ((@Go.Proofs.Ytjndgegfonhhfaa.SE.imax (0 : @Int) b1) - (@Go.Proofs.Ytjndgegfonhhfaa.SE.imax (0 : @Int) a1))) ∧
  ((((Go.Proofs.Ytjndgegfonhhfaa.SE.AV.lit (Go.Value.int @Go.IntKind.i64 b2)) = (Go.Proofs.Ytjndgegfonhhfaa.SE.AV.lit (Go.Value.int @Go.IntKind.i64 b2))) ∧
  (((Go.Proofs.Ytjndgegfonhhfaa.SE.AV.lit (Go.Value.int @Go.IntKind.i64 a2)) = (Go.Proofs.Ytjndgegfonhhfaa.SE.AV.lit (Go.Value.int @Go.IntKind.i64 a2))) ∧
  True)) ∧
  ((@Go.Proofs.Ytjndgegfonhhfaa.SE.I64 ((@Go.Proofs.Ytjndgegfonhhfaa.SE.imax (0 : @Int) b2) - (@Go.Proofs.Ytjndgegfonhhfaa.SE.imax (0 : @Int) a2))) ∧
  (True ∧
  (True ∧
  ((((@Go.Proofs.Ytjndgegfonhhfaa.Cst.s0 r) = (0 : @Int)) ∧
  (((@Go.Proofs.Ytjndgegfonhhfaa.Cst.s1 r) = (@Go.Proofs.Ytjndgegfonhhfaa.SE.imax (0 : @Int) ((@Go.Proofs.Ytjndgegfonhhfaa.SE.imax (0 : @Int) b0) - (@Go.Proofs.Ytjndgegfonhhfaa.SE.imax (0 : @Int) a0)))) ∧
  (((@Go.Proofs.Ytjndgegfonhhfaa.Cst.s2 r) = (@Go.Proofs.Ytjndgegfonhhfaa.SE.imax (0 : @Int) ((@Go.Proofs.Ytjndgegfonhhfaa.SE.imax (0 : @Int) b1) - (@Go.Proofs.Ytjndgegfonhhfaa.SE.imax (0 : @Int) a1)))) ∧
  (((@Go.Proofs.Ytjndgegfonhhfaa.Cst.s3 r) = (@Go.Proofs.Ytjndgegfonhhfaa.SE.imax (0 : @Int) ((@Go.Proofs.Ytjndgegfonhhfaa.SE.imax (0 : @Int) b2) - (@Go.Proofs.Ytjndgegfonhhfaa.SE.imax (0 : @Int) a2)))) ∧
  (((@Go.Proofs.Ytjndgegfonhhfaa.Cst.s4 r) = (0 : @Int)) ∧
  (((@Go.Proofs.Ytjndgegfonhhfaa.Cst.s5 r) = (0 : @Int)) ∧
  True)))))) ∧
  True))))))))
theorem refBetweenVC_ok (a0 a1 a2 a3 a4 b0 b1 b2 b3 b4 : Int) (r : Cst) : refBetweenVC a0 a1 a2 a3 a4 b0 b1 b2 b3 b4 r = refBetweenVC_wp a0 a1 a2 a3 a4 b0 b1 b2 b3 b4 r := by kernel_rfl
def betweenVC_wp (a0 a1 a2 a3 a4 b0 b1 b2 b3 b4 : Int) (r : Cst) : Prop := wpF Try.prog [] tt (fun _ _ _ _ => []) 200 5 19 [.agg [i64 a0, i64 a1, i64 a2, i64 a3, i64 a4], .agg [i64 b0, i64 b1, i64 b2, i64 b3, i64 b4]] (hO 0 []) (fun v h' => endP 0 r.av [] v h')
def betweenVC (a0 a1 a2 a3 a4 b0 b1 b2 b3 b4 : Int) (r : Cst) : Prop :=
  ((@Go.Proofs.Ytjndgegfonhhfaa.SE.I64 ((@Go.Proofs.Ytjndgegfonhhfaa.SE.imax b0 (0 : @Int)) - (@Go.Proofs.Ytjndgegfonhhfaa.SE.imax a0 (0 : @Int)))) ∧
  ((((Go.Proofs.Ytjndgegfonhhfaa.SE.AV.lit (Go.Value.int @Go.IntKind.i64 a2)) = (Go.Proofs.Ytjndgegfonhhfaa.SE.AV.lit (Go.Value.int @Go.IntKind.i64 a2))) ∧
  (((Go.Proofs.Ytjndgegfonhhfaa.SE.AV.lit (Go.Value.int @Go.IntKind.i64 b2)) = (Go.Proofs.Ytjndgegfonhhfaa.SE.AV.lit (Go.Value.int @Go.IntKind.i64 b2))) ∧
  (((Go.Proofs.Ytjndgegfonhhfaa.SE.AV.lit (Go.Value.int @Go.IntKind.i64 a1)) = (Go.Proofs.Ytjndgegfonhhfaa.SE.AV.lit (Go.Value.int @Go.IntKind.i64 a1))) ∧
  (((Go.Proofs.Ytjndgegfonhhfaa.SE.AV.lit (Go.Value.int @Go.IntKind.i64 b1)) = (Go.Proofs.Ytjndgegfonhhfaa.SE.AV.lit (Go.Value.int @Go.IntKind.i64 b1))) ∧
  True)))) ∧
  ((@Go.Proofs.Ytjndgegfonhhfaa.SE.I64 ((@Go.Proofs.Ytjndgegfonhhfaa.SE.imax b1 (0 : @Int)) - (@Go.Proofs.Ytjndgegfonhhfaa.SE.imax a1 (0 : @Int)))) ∧
  ((((Go.Proofs.Ytjndgegfonhhfaa.SE.AV.lit (Go.Value.int @Go.IntKind.i64 a2)) = (Go.Proofs.Ytjndgegfonhhfaa.SE.AV.lit (Go.Value.int @Go.IntKind.i64 a2))) ∧
  (((Go.Proofs.Ytjndgegfonhhfaa.SE.AV.lit (Go.Value.int @Go.IntKind.i64 b2)) = (Go.Proofs.Ytjndgegfonhhfaa.SE.AV.lit (Go.Value.int @Go.IntKind.i64 b2))) ∧
  True)) ∧
  ((@Go.Proofs.Ytjndgegfonhhfaa.SE.I64 ((@Go.Proofs.Ytjndgegfonhhfaa.SE.imax b2 (0 : @Int)) - (@Go.Proofs.Ytjndgegfonhhfaa.SE.imax a2 (0 : @Int)))) ∧
  (True ∧
  (True ∧
  ((((@Go.Proofs.Ytjndgegfonhhfaa.Cst.s0 r) = (0 : @Int)) ∧
  (((@Go.Proofs.Ytjndgegfonhhfaa.Cst.s1 r) = (@Go.Proofs.Ytjndgegfonhhfaa.SE.imax ((@Go.Proofs.Ytjndgegfonhhfaa.SE.imax b0 (0 : @Int)) - (@Go.Proofs.Ytjndgegfonhhfaa.SE.imax a0 (0 : @Int))) (0 : @Int))) ∧
  (((@Go.Proofs.Ytjndgegfonhhfaa.Cst.s2 r) = (@Go.Proofs.Ytjndgegfonhhfaa.SE.imax ((@Go.Proofs.Ytjndgegfonhhfaa.SE.imax b1 (0 : @Int)) - (@Go.Proofs.Ytjndgegfonhhfaa.SE.imax a1 (0 : @Int))) (0 : @Int))) ∧
  (((@Go.Proofs.Ytjndgegfonhhfaa.Cst.s3 r) = (@Go.Proofs.Ytjndgegfonhhfaa.SE.imax ((@Go.Proofs.Ytjndgegfonhhfaa.SE.imax b2 (0 : @Int)) - (@Go.Proofs.Ytjndgegfonhhfaa.SE.imax a2 (0 : @Int))) (0 : @Int))) ∧
  (((@Go.Proofs.Ytjndgegfonhhfaa.Cst.s4 r) = (0 : @Int)) ∧
  (((@Go.Proofs.Ytjndgegfonhhfaa.Cst.s5 r) = (0 : @Int)) ∧
  True)))))) ∧
  True))))))))
theorem betweenVC_ok (a0 a1 a2 a3 a4 b0 b1 b2 b3 b4 : Int) (r : Cst) : betweenVC a0 a1 a2 a3 a4 b0 b1 b2 b3 b4 r = betweenVC_wp a0 a1 a2 a3 a4 b0 b1 b2 b3 b4 r := by kernel_rfl
def refSumVC_wp (c : Nat → Cst) (n : Nat) (r : Cst) : Prop := wpF Try.prog [] tt (anRefSum c n) 200 5 21 [.slR 0 0 6 n] (hO 1 [.ro (rowC c n)]) (fun v h' => endP 1 r.av [.ro (rowC c n)] v h')
def refSumVC (c : Nat → Cst) (n : Nat) (r : Cst) : Prop :=
  ((∃ (s : @Nat), ((s ≤ n) ∧
  (True ∧
  (((((s : Nat) : @Int) = (0 : @Int)) ∧
  True) ∧
  ((((@Go.Proofs.Ytjndgegfonhhfaa.Cst.s0 (@Go.Proofs.Ytjndgegfonhhfaa.Cst.sum c s)) = (0 : @Int)) ∧
  (((@Go.Proofs.Ytjndgegfonhhfaa.Cst.s1 (@Go.Proofs.Ytjndgegfonhhfaa.Cst.sum c s)) = (0 : @Int)) ∧
  (((@Go.Proofs.Ytjndgegfonhhfaa.Cst.s2 (@Go.Proofs.Ytjndgegfonhhfaa.Cst.sum c s)) = (0 : @Int)) ∧
  (((@Go.Proofs.Ytjndgegfonhhfaa.Cst.s3 (@Go.Proofs.Ytjndgegfonhhfaa.Cst.sum c s)) = (0 : @Int)) ∧
  (((@Go.Proofs.Ytjndgegfonhhfaa.Cst.s4 (@Go.Proofs.Ytjndgegfonhhfaa.Cst.sum c s)) = (0 : @Int)) ∧
  (((@Go.Proofs.Ytjndgegfonhhfaa.Cst.s5 (@Go.Proofs.Ytjndgegfonhhfaa.Cst.sum c s)) = (0 : @Int)) ∧
  True)))))) ∧
  ((((0 : @Int) = (0 : @Int)) ∧
  (((0 : @Int) = (0 : @Int)) ∧
  (((0 : @Int) = (0 : @Int)) ∧
  (((0 : @Int) = (0 : @Int)) ∧
  (((0 : @Int) = (0 : @Int)) ∧
  (((0 : @Int) = (0 : @Int)) ∧
  True)))))) ∧
  ((((@Go.Proofs.Ytjndgegfonhhfaa.SE.Cs.row (6 : @Nat) n (fun (k : @Nat) => [(Go.Value.int @Go.IntKind.i64 (@Go.Proofs.Ytjndgegfonhhfaa.Cst.s0 (c k))), (Go.Value.int @Go.IntKind.i64 (@Go.Proofs.Ytjndgegfonhhfaa.Cst.s1 (c k))), (Go.Value.int @Go.IntKind.i64 (@Go.Proofs.Ytjndgegfonhhfaa.Cst.s2 (c k))), (Go.Value.int @Go.IntKind.i64 (@Go.Proofs.Ytjndgegfonhhfaa.Cst.s3 (c k))), (Go.Value.int @Go.IntKind.i64 (@Go.Proofs.Ytjndgegfonhhfaa.Cst.s4 (c k))), (Go.Value.int @Go.IntKind.i64 (@Go.Proofs.Ytjndgegfonhhfaa.Cst.s5 (c k)))]) (@List.nil (@Prod @Nat (@List @Go.Value)))) = (@Go.Proofs.Ytjndgegfonhhfaa.SE.Cs.row (6 : @Nat) n (fun (k : @Nat) => [(Go.Value.int @Go.IntKind.i64 (@Go.Proofs.Ytjndgegfonhhfaa.Cst.s0 (c k))), (Go.Value.int @Go.IntKind.i64 (@Go.Proofs.Ytjndgegfonhhfaa.Cst.s1 (c k))), (Go.Value.int @Go.IntKind.i64 (@Go.Proofs.Ytjndgegfonhhfaa.Cst.s2 (c k))), (Go.Value.int @Go.IntKind.i64 (@Go.Proofs.Ytjndgegfonhhfaa.Cst.s3 (c k))), (Go.Value.int @Go.IntKind.i64 (@Go.Proofs.Ytjndgegfonhhfaa.Cst.s4 (c k))), (Go.Value.int @Go.IntKind.i64 (@Go.Proofs.Ytjndgegfonhhfaa.Cst.s5 (c k)))]) (@List.nil (@Prod @Nat (@List @Go.Value))))) ∧
  (@Bool.true = @Bool.true)) ∧
  True))))))) ∧
  ((∀ (s : @Nat), ((s ≤ n) → (Go.Proofs.Ytjndgegfonhhfaa.SE.cP (decide (((s : Nat) : @Int) < ((n : Nat) : @Int))) ((((0 : @Int) ≤ ((s : Nat) : @Int)) ∧
  (((s : Nat) : @Int) < ((n : Nat) : @Int))) ∧
  ((((0 : @Nat) + s) < n) ∧
  ((@Go.Proofs.Ytjndgegfonhhfaa.SE.I64 ((@Go.Proofs.Ytjndgegfonhhfaa.SE.imax (0 : @Int) (@Go.Proofs.Ytjndgegfonhhfaa.SE.imin (@Go.Proofs.Ytjndgegfonhhfaa.Cst.s0 (@Go.Proofs.Ytjndgegfonhhfaa.Cst.sum c s)) (1099511627776 : @Int))) + (@Go.Proofs.Ytjndgegfonhhfaa.SE.imax (0 : @Int) (@Go.Proofs.Ytjndgegfonhhfaa.SE.imin (@Go.Proofs.Ytjndgegfonhhfaa.Cst.s0 (c ((0 : @Nat) + s))) (1099511627776 : @Int))))) ∧
  ((((Go.Proofs.Ytjndgegfonhhfaa.SE.AV.lit (Go.Value.int @Go.IntKind.i64 (@Go.Proofs.Ytjndgegfonhhfaa.Cst.s5 (c ((0 : @Nat) + s))))) = (Go.Proofs.Ytjndgegfonhhfaa.SE.AV.lit (Go.Value.int @Go.IntKind.i64 (@Go.Proofs.Ytjndgegfonhhfaa.Cst.s5 (c ((0 : @Nat) + s)))))) ∧
  (((Go.Proofs.Ytjndgegfonhhfaa.SE.AV.lit (Go.Value.int @Go.IntKind.i64 (@Go.Proofs.Ytjndgegfonhhfaa.Cst.s5 (@Go.Proofs.Ytjndgegfonhhfaa.Cst.sum c s)))) = (Go.Proofs.Ytjndgegfonhhfaa.SE.AV.lit (Go.Value.int @Go.IntKind.i64 (@Go.Proofs.Ytjndgegfonhhfaa.Cst.s5 (@Go.Proofs.Ytjndgegfonhhfaa.Cst.sum c s))))) ∧
  (((Go.Proofs.Ytjndgegfonhhfaa.SE.AV.lit (Go.Value.int @Go.IntKind.i64 (@Go.Proofs.Ytjndgegfonhhfaa.Cst.s4 (c ((0 : @Nat) + s))))) = (Go.Proofs.Ytjndgegfonhhfaa.SE.AV.lit (Go.Value.int @Go.IntKind.i64 (@Go.Proofs.Ytjndgegfonhhfaa.Cst.s4 (c ((0 : @Nat) + s)))))) ∧
  (((Go.Proofs.Ytjndgegfonhhfaa.SE.AV.lit (Go.Value.int @Go.IntKind.i64 (@Go.Proofs.Ytjndgegfonhhfaa.Cst.s4 (@Go.Proofs.Ytjndgegfonhhfaa.Cst.sum c s)))) = (Go.Proofs.Ytjndgegfonhhfaa.SE.AV.lit (Go.Value.int @Go.IntKind.i64 (@Go.Proofs.Ytjndgegfonhhfaa.Cst.s4 (@Go.Proofs.Ytjndgegfonhhfaa.Cst.sum c s))))) ∧
  (((Go.Proofs.Ytjndgegfonhhfaa.SE.AV.lit (Go.Value.int @Go.IntKind.i64 (@Go.Proofs.Ytjndgegfonhhfaa.Cst.s3 (c ((0 : @Nat) + s))))) = (Go.Proofs.Ytjndgegfonhhfaa.SE.AV.lit (Go.Value.int @Go.IntKind.i64 (@Go.Proofs.Ytjndgegfonhhfaa.Cst.s3 (c ((0 : @Nat) + s)))))) ∧
  (((Go.Proofs.Ytjndgegfonhhfaa.SE.AV.lit (Go.Value.int @Go.IntKind.i64 (@Go.Proofs.Ytjndgegfonhhfaa.Cst.s3 (@Go.Proofs.Ytjndgegfonhhfaa.Cst.sum c s)))) = (Go.Proofs.Ytjndgegfonhhfaa.SE.AV.lit (Go.Value.int @Go.IntKind.i64 (@Go.Proofs.Ytjndgegfonhhfaa.Cst.s3 (@Go.Proofs.Ytjndgegfonhhfaa.Cst.sum c s))))) ∧
  (((Go.Proofs.Ytjndgegfonhhfaa.SE.AV.lit (Go.Value.int @Go.IntKind.i64 (@Go.Proofs.Ytjndgegfonhhfaa.Cst.s2 (c ((0 : @Nat) + s))))) = (Go.Proofs.Ytjndgegfonhhfaa.SE.AV.lit (Go.Value.int @Go.IntKind.i64 (@Go.Proofs.Ytjndgegfonhhfaa.Cst.s2 (c ((0 : @Nat) + s)))))) ∧
  (((Go.Proofs.Ytjndgegfonhhfaa.SE.AV.lit (Go.Value.int @Go.IntKind.i64 (@Go.Proofs.Ytjndgegfonhhfaa.Cst.s2 (@Go.Proofs.Ytjndgegfonhhfaa.Cst.sum c s)))) = (Go.Proofs.Ytjndgegfonhhfaa.SE.AV.lit (Go.Value.int @Go.IntKind.i64 (@Go.Proofs.Ytjndgegfonhhfaa.Cst.s2 (@Go.Proofs.Ytjndgegfonhhfaa.Cst.sum c s))))) ∧
  (((Go.Proofs.Ytjndgegfonhhfaa.SE.AV.lit (Go.Value.int @Go.IntKind.i64 (@Go.Proofs.Ytjndgegfonhhfaa.Cst.s1 (c ((0 : @Nat) + s))))) = (Go.Proofs.Ytjndgegfonhhfaa.SE.AV.lit (Go.Value.int @Go.IntKind.i64 (@Go.Proofs.Ytjndgegfonhhfaa.Cst.s1 (c ((0 : @Nat) + s)))))) ∧
  (((Go.Proofs.Ytjndgegfonhhfaa.SE.AV.lit (Go.Value.int @Go.IntKind.i64 (@Go.Proofs.Ytjndgegfonhhfaa.Cst.s1 (@Go.Proofs.Ytjndgegfonhhfaa.Cst.sum c s)))) = (Go.Proofs.Ytjndgegfonhhfaa.SE.AV.lit (Go.Value.int @Go.IntKind.i64 (@Go.Proofs.Ytjndgegfonhhfaa.Cst.s1 (@Go.Proofs.Ytjndgegfonhhfaa.Cst.sum c s))))) ∧
  True)))))))))) ∧
  ((@Go.Proofs.Ytjndgegfonhhfaa.SE.I64 ((@Go.Proofs.Ytjndgegfonhhfaa.SE.imax (0 : @Int) (@Go.Proofs.Ytjndgegfonhhfaa.SE.imin (@Go.Proofs.Ytjndgegfonhhfaa.Cst.s1 (@Go.Proofs.Ytjndgegfonhhfaa.Cst.sum c s)) (1099511627776 : @Int))) + (@Go.Proofs.Ytjndgegfonhhfaa.SE.imax (0 : @Int) (@Go.Proofs.Ytjndgegfonhhfaa.SE.imin (@Go.Proofs.Ytjndgegfonhhfaa.Cst.s1 (c ((0 : @Nat) + s))) (1099511627776 : @Int))))) ∧
  ((((Go.Proofs.Ytjndgegfonhhfaa.SE.AV.lit (Go.Value.int @Go.IntKind.i64 (@Go.Proofs.Ytjndgegfonhhfaa.Cst.s5 (c ((0 : @Nat) + s))))) = (Go.Proofs.Ytjndgegfonhhfaa.SE.AV.lit (Go.Value.int @Go.IntKind.i64 (@Go.Proofs.Ytjndgegfonhhfaa.Cst.s5 (c ((0 : @Nat) + s)))))) ∧
  (((Go.Proofs.Ytjndgegfonhhfaa.SE.AV.lit (Go.Value.int @Go.IntKind.i64 (@Go.Proofs.Ytjndgegfonhhfaa.Cst.s5 (@Go.Proofs.Ytjndgegfonhhfaa.Cst.sum c s)))) = (Go.Proofs.Ytjndgegfonhhfaa.SE.AV.lit (Go.Value.int @Go.IntKind.i64 (@Go.Proofs.Ytjndgegfonhhfaa.Cst.s5 (@Go.Proofs.Ytjndgegfonhhfaa.Cst.sum c s))))) ∧
  (((Go.Proofs.Ytjndgegfonhhfaa.SE.AV.lit (Go.Value.int @Go.IntKind.i64 (@Go.Proofs.Ytjndgegfonhhfaa.Cst.s4 (c ((0 : @Nat) + s))))) = (Go.Proofs.Ytjndgegfonhhfaa.SE.AV.lit (Go.Value.int @Go.IntKind.i64 (@Go.Proofs.Ytjndgegfonhhfaa.Cst.s4 (c ((0 : @Nat) + s)))))) ∧
  (((Go.Proofs.Ytjndgegfonhhfaa.SE.AV.lit (Go.Value.int @Go.IntKind.i64 (@Go.Proofs.Ytjndgegfonhhfaa.Cst.s4 (@Go.Proofs.Ytjndgegfonhhfaa.Cst.sum c s)))) = (Go.Proofs.Ytjndgegfonhhfaa.SE.AV.lit (Go.Value.int @Go.IntKind.i64 (@Go.Proofs.Ytjndgegfonhhfaa.Cst.s4 (@Go.Proofs.Ytjndgegfonhhfaa.Cst.sum c s))))) ∧
  (((Go.Proofs.Ytjndgegfonhhfaa.SE.AV.lit (Go.Value.int @Go.IntKind.i64 (@Go.Proofs.Ytjndgegfonhhfaa.Cst.s3 (c ((0 : @Nat) + s))))) = (Go.Proofs.Ytjndgegfonhhfaa.SE.AV.lit (Go.Value.int @Go.IntKind.i64 (@Go.Proofs.Ytjndgegfonhhfaa.Cst.s3 (c ((0 : @Nat) + s)))))) ∧
  (((Go.Proofs.Ytjndgegfonhhfaa.SE.AV.lit (Go.Value.int @Go.IntKind.i64 (@Go.Proofs.Ytjndgegfonhhfaa.Cst.s3 (@Go.Proofs.Ytjndgegfonhhfaa.Cst.sum c s)))) = (Go.Proofs.Ytjndgegfonhhfaa.SE.AV.lit (Go.Value.int @Go.IntKind.i64 (@Go.Proofs.Ytjndgegfonhhfaa.Cst.s3 (@Go.Proofs.Ytjndgegfonhhfaa.Cst.sum c s))))) ∧
  (((Go.Proofs.Ytjndgegfonhhfaa.SE.AV.lit (Go.Value.int @Go.IntKind.i64 (@Go.Proofs.Ytjndgegfonhhfaa.Cst.s2 (c ((0 : @Nat) + s))))) = (Go.Proofs.Ytjndgegfonhhfaa.SE.AV.lit (Go.Value.int @Go.IntKind.i64 (@Go.Proofs.Ytjndgegfonhhfaa.Cst.s2 (c ((0 : @Nat) + s)))))) ∧
  (((Go.Proofs.Ytjndgegfonhhfaa.SE.AV.lit (Go.Value.int @Go.IntKind.i64 (@Go.Proofs.Ytjndgegfonhhfaa.Cst.s2 (@Go.Proofs.Ytjndgegfonhhfaa.Cst.sum c s)))) = (Go.Proofs.Ytjndgegfonhhfaa.SE.AV.lit (Go.Value.int @Go.IntKind.i64 (@Go.Proofs.Ytjndgegfonhhfaa.Cst.s2 (@Go.Proofs.Ytjndgegfonhhfaa.Cst.sum c s))))) ∧
  True)))))))) ∧
  ((@Go.Proofs.Ytjndgegfonhhfaa.SE.I64 ((@Go.Proofs.Ytjndgegfonhhfaa.SE.imax (0 : @Int) (@Go.Proofs.Ytjndgegfonhhfaa.SE.imin (@Go.Proofs.Ytjndgegfonhhfaa.Cst.s2 (@Go.Proofs.Ytjndgegfonhhfaa.Cst.sum c s)) (1099511627776 : @Int))) + (@Go.Proofs.Ytjndgegfonhhfaa.SE.imax (0 : @Int) (@Go.Proofs.Ytjndgegfonhhfaa.SE.imin (@Go.Proofs.Ytjndgegfonhhfaa.Cst.s2 (c ((0 : @Nat) + s))) (1099511627776 : @Int))))) ∧
  ((((Go.Proofs.Ytjndgegfonhhfaa.SE.AV.lit (Go.Value.int @Go.IntKind.i64 (@Go.Proofs.Ytjndgegfonhhfaa.Cst.s5 (c ((0 : @Nat) + s))))) = (Go.Proofs.Ytjndgegfonhhfaa.SE.AV.lit (Go.Value.int @Go.IntKind.i64 (@Go.Proofs.Ytjndgegfonhhfaa.Cst.s5 (c ((0 : @Nat) + s)))))) ∧
  (((Go.Proofs.Ytjndgegfonhhfaa.SE.AV.lit (Go.Value.int @Go.IntKind.i64 (@Go.Proofs.Ytjndgegfonhhfaa.Cst.s5 (@Go.Proofs.Ytjndgegfonhhfaa.Cst.sum c s)))) = (Go.Proofs.Ytjndgegfonhhfaa.SE.AV.lit (Go.Value.int @Go.IntKind.i64 (@Go.Proofs.Ytjndgegfonhhfaa.Cst.s5 (@Go.Proofs.Ytjndgegfonhhfaa.Cst.sum c s))))) ∧
  (((Go.Proofs.Ytjndgegfonhhfaa.SE.AV.lit (Go.Value.int @Go.IntKind.i64 (@Go.Proofs.Ytjndgegfonhhfaa.Cst.s4 (c ((0 : @Nat) + s))))) = (Go.Proofs.Ytjndgegfonhhfaa.SE.AV.lit (Go.Value.int @Go.IntKind.i64 (@Go.Proofs.Ytjndgegfonhhfaa.Cst.s4 (c ((0 : @Nat) + s)))))) ∧
  (((Go.Proofs.Ytjndgegfonhhfaa.SE.AV.lit (Go.Value.int @Go.IntKind.i64 (@Go.Proofs.Ytjndgegfonhhfaa.Cst.s4 (@Go.Proofs.Ytjndgegfonhhfaa.Cst.sum c s)))) = (Go.Proofs.Ytjndgegfonhhfaa.SE.AV.lit (Go.Value.int @Go.IntKind.i64 (@Go.Proofs.Ytjndgegfonhhfaa.Cst.s4 (@Go.Proofs.Ytjndgegfonhhfaa.Cst.sum c s))))) ∧
  (((Go.Proofs.Ytjndgegfonhhfaa.SE.AV.lit (Go.Value.int @Go.IntKind.i64 (@Go.Proofs.Ytjndgegfonhhfaa.Cst.s3 (c ((0 : @Nat) + s))))) = (Go.Proofs.Ytjndgegfonhhfaa.SE.AV.lit (Go.Value.int @Go.IntKind.i64 (@Go.Proofs.Ytjndgegfonhhfaa.Cst.s3 (c ((0 : @Nat) + s)))))) ∧
  (((Go.Proofs.Ytjndgegfonhhfaa.SE.AV.lit (Go.Value.int @Go.IntKind.i64 (@Go.Proofs.Ytjndgegfonhhfaa.Cst.s3 (@Go.Proofs.Ytjndgegfonhhfaa.Cst.sum c s)))) = (Go.Proofs.Ytjndgegfonhhfaa.SE.AV.lit (Go.Value.int @Go.IntKind.i64 (@Go.Proofs.Ytjndgegfonhhfaa.Cst.s3 (@Go.Proofs.Ytjndgegfonhhfaa.Cst.sum c s))))) ∧
  True)))))) ∧
  ((@Go.Proofs.Ytjndgegfonhhfaa.SE.I64 ((@Go.Proofs.Ytjndgegfonhhfaa.SE.imax (0 : @Int) (@Go.Proofs.Ytjndgegfonhhfaa.SE.imin (@Go.Proofs.Ytjndgegfonhhfaa.Cst.s3 (@Go.Proofs.Ytjndgegfonhhfaa.Cst.sum c s)) (1099511627776 : @Int))) + (@Go.Proofs.Ytjndgegfonhhfaa.SE.imax (0 : @Int) (@Go.Proofs.Ytjndgegfonhhfaa.SE.imin (@Go.Proofs.Ytjndgegfonhhfaa.Cst.s3 (c ((0 : @Nat) + s))) (1099511627776 : @Int))))) ∧
  ((((Go.Proofs.Ytjndgegfonhhfaa.SE.AV.lit (Go.Value.int @Go.IntKind.i64 (@Go.Proofs.Ytjndgegfonhhfaa.Cst.s5 (c ((0 : @Nat) + s))))) = (Go.Proofs.Ytjndgegfonhhfaa.SE.AV.lit (Go.Value.int @Go.IntKind.i64 (@Go.Proofs.Ytjndgegfonhhfaa.Cst.s5 (c ((0 : @Nat) + s)))))) ∧
  (((Go.Proofs.Ytjndgegfonhhfaa.SE.AV.lit (Go.Value.int @Go.IntKind.i64 (@Go.Proofs.Ytjndgegfonhhfaa.Cst.s5 (@Go.Proofs.Ytjndgegfonhhfaa.Cst.sum c s)))) = (Go.Proofs.Ytjndgegfonhhfaa.SE.AV.lit (Go.Value.int @Go.IntKind.i64 (@Go.Proofs.Ytjndgegfonhhfaa.Cst.s5 (@Go.Proofs.Ytjndgegfonhhfaa.Cst.sum c s))))) ∧
  (((Go.Proofs.Ytjndgegfonhhfaa.SE.AV.lit (Go.Value.int @Go.IntKind.i64 (@Go.Proofs.Ytjndgegfonhhfaa.Cst.s4 (c ((0 : @Nat) + s))))) = (Go.Proofs.Ytjndgegfonhhfaa.SE.AV.lit (Go.Value.int @Go.IntKind.i64 (@Go.Proofs.Ytjndgegfonhhfaa.Cst.s4 (c ((0 : @Nat) + s)))))) ∧
  (((Go.Proofs.Ytjndgegfonhhfaa.SE.AV.lit (Go.Value.int @Go.IntKind.i64 (@Go.Proofs.Ytjndgegfonhhfaa.Cst.s4 (@Go.Proofs.Ytjndgegfonhhfaa.Cst.sum c s)))) = (Go.Proofs.Ytjndgegfonhhfaa.SE.AV.lit (Go.Value.int @Go.IntKind.i64 (@Go.Proofs.Ytjndgegfonhhfaa.Cst.s4 (@Go.Proofs.Ytjndgegfonhhfaa.Cst.sum c s))))) ∧
  True)))) ∧
  ((@Go.Proofs.Ytjndgegfonhhfaa.SE.I64 ((@Go.Proofs.Ytjndgegfonhhfaa.SE.imax (0 : @Int) (@Go.Proofs.Ytjndgegfonhhfaa.SE.imin (@Go.Proofs.Ytjndgegfonhhfaa.Cst.s4 (@Go.Proofs.Ytjndgegfonhhfaa.Cst.sum c s)) (1099511627776 : @Int))) + (@Go.Proofs.Ytjndgegfonhhfaa.SE.imax (0 : @Int) (@Go.Proofs.Ytjndgegfonhhfaa.SE.imin (@Go.Proofs.Ytjndgegfonhhfaa.Cst.s4 (c ((0 : @Nat) + s))) (1099511627776 : @Int))))) ∧
  ((((Go.Proofs.Ytjndgegfonhhfaa.SE.AV.lit (Go.Value.int @Go.IntKind.i64 (@Go.Proofs.Ytjndgegfonhhfaa.Cst.s5 (c ((0 : @Nat) + s))))) = (Go.Proofs.Ytjndgegfonhhfaa.SE.AV.lit (Go.Value.int @Go.IntKind.i64 (@Go.Proofs.Ytjndgegfonhhfaa.Cst.s5 (c ((0 : @Nat) + s)))))) ∧
  (((Go.Proofs.Ytjndgegfonhhfaa.SE.AV.lit (Go.Value.int @Go.IntKind.i64 (@Go.Proofs.Ytjndgegfonhhfaa.Cst.s5 (@Go.Proofs.Ytjndgegfonhhfaa.Cst.sum c s)))) = (Go.Proofs.Ytjndgegfonhhfaa.SE.AV.lit (Go.Value.int @Go.IntKind.i64 (@Go.Proofs.Ytjndgegfonhhfaa.Cst.s5 (@Go.Proofs.Ytjndgegfonhhfaa.Cst.sum c s))))) ∧
  True)) ∧
  ((@Go.Proofs.Ytjndgegfonhhfaa.SE.I64 ((@Go.Proofs.Ytjndgegfonhhfaa.SE.imax (0 : @Int) (@Go.Proofs.Ytjndgegfonhhfaa.SE.imin (@Go.Proofs.Ytjndgegfonhhfaa.Cst.s5 (@Go.Proofs.Ytjndgegfonhhfaa.Cst.sum c s)) (1099511627776 : @Int))) + (@Go.Proofs.Ytjndgegfonhhfaa.SE.imax (0 : @Int) (@Go.Proofs.Ytjndgegfonhhfaa.SE.imin (@Go.Proofs.Ytjndgegfonhhfaa.Cst.s5 (c ((0 : @Nat) + s))) (1099511627776 : @Int))))) ∧
  (True ∧
  (True ∧
  (True ∧
  (True ∧
  ((@Go.Proofs.Ytjndgegfonhhfaa.SE.I64 (((s : Nat) : @Int) + (1 : @Int))) ∧
  (∃ (s_1 : @Nat), ((s_1 ≤ n) ∧
  (((n - s_1) < (n - s)) ∧
  (((((s_1 : Nat) : @Int) = (((s : Nat) : @Int) + (1 : @Int))) ∧
  True) ∧
  ((((@Go.Proofs.Ytjndgegfonhhfaa.Cst.s0 (@Go.Proofs.Ytjndgegfonhhfaa.Cst.sum c s_1)) = (@Go.Proofs.Ytjndgegfonhhfaa.SE.imin ((@Go.Proofs.Ytjndgegfonhhfaa.SE.imax (0 : @Int) (@Go.Proofs.Ytjndgegfonhhfaa.SE.imin (@Go.Proofs.Ytjndgegfonhhfaa.Cst.s0 (@Go.Proofs.Ytjndgegfonhhfaa.Cst.sum c s)) (1099511627776 : @Int))) + (@Go.Proofs.Ytjndgegfonhhfaa.SE.imax (0 : @Int) (@Go.Proofs.Ytjndgegfonhhfaa.SE.imin (@Go.Proofs.Ytjndgegfonhhfaa.Cst.s0 (c ((0 : @Nat) + s))) (1099511627776 : @Int)))) (1099511627776 : @Int))) ∧
  (((@Go.Proofs.Ytjndgegfonhhfaa.Cst.s1 (@Go.Proofs.Ytjndgegfonhhfaa.Cst.sum c s_1)) = (@Go.Proofs.Ytjndgegfonhhfaa.SE.imin ((@Go.Proofs.Ytjndgegfonhhfaa.SE.imax (0 : @Int) (@Go.Proofs.Ytjndgegfonhhfaa.SE.imin (@Go.Proofs.Ytjndgegfonhhfaa.Cst.s1 (@Go.Proofs.Ytjndgegfonhhfaa.Cst.sum c s)) (1099511627776 : @Int))) + (@Go.Proofs.Ytjndgegfonhhfaa.SE.imax (0 : @Int) (@Go.Proofs.Ytjndgegfonhhfaa.SE.imin (@Go.Proofs.Ytjndgegfonhhfaa.Cst.s1 (c ((0 : @Nat) + s))) (1099511627776 : @Int)))) (1099511627776 : @Int))) ∧
  (((@Go.Proofs.Ytjndgegfonhhfaa.Cst.s2 (@Go.Proofs.Ytjndgegfonhhfaa.Cst.sum c s_1)) = (@Go.Proofs.Ytjndgegfonhhfaa.SE.imin ((@Go.Proofs.Ytjndgegfonhhfaa.SE.imax (0 : @Int) (@Go.Proofs.Ytjndgegfonhhfaa.SE.imin (@Go.Proofs.Ytjndgegfonhhfaa.Cst.s2 (@Go.Proofs.Ytjndgegfonhhfaa.Cst.sum c s)) (1099511627776 : @Int))) + (@Go.Proofs.Ytjndgegfonhhfaa.SE.imax (0 : @Int) (@Go.Proofs.Ytjndgegfonhhfaa.SE.imin (@Go.Proofs.Ytjndgegfonhhfaa.Cst.s2 (c ((0 : @Nat) + s))) (1099511627776 : @Int)))) (1099511627776 : @Int))) ∧
  (((@Go.Proofs.Ytjndgegfonhhfaa.Cst.s3 (@Go.Proofs.Ytjndgegfonhhfaa.Cst.sum c s_1)) = (@Go.Proofs.Ytjndgegfonhhfaa.SE.imin ((@Go.Proofs.Ytjndgegfonhhfaa.SE.imax (0 : @Int) (@Go.Proofs.Ytjndgegfonhhfaa.SE.imin (@Go.Proofs.Ytjndgegfonhhfaa.Cst.s3 (@Go.Proofs.Ytjndgegfonhhfaa.Cst.sum c s)) (1099511627776 : @Int))) + (@Go.Proofs.Ytjndgegfonhhfaa.SE.imax (0 : @Int) (@Go.Proofs.Ytjndgegfonhhfaa.SE.imin (@Go.Proofs.Ytjndgegfonhhfaa.Cst.s3 (c ((0 : @Nat) + s))) (1099511627776 : @Int)))) (1099511627776 : @Int))) ∧
  (((@Go.Proofs.Ytjndgegfonhhfaa.Cst.s4 (@Go.Proofs.Ytjndgegfonhhfaa.Cst.sum c s_1)) = (@Go.Proofs.Ytjndgegfonhhfaa.SE.imin ((@Go.Proofs.Ytjndgegfonhhfaa.SE.imax (0 : @Int) (@Go.Proofs.Ytjndgegfonhhfaa.SE.imin (@Go.Proofs.Ytjndgegfonhhfaa.Cst.s4 (@Go.Proofs.Ytjndgegfonhhfaa.Cst.sum c s)) (1099511627776 : @Int))) + (@Go.Proofs.Ytjndgegfonhhfaa.SE.imax (0 : @Int) (@Go.Proofs.Ytjndgegfonhhfaa.SE.imin (@Go.Proofs.Ytjndgegfonhhfaa.Cst.s4 (c ((0 : @Nat) + s))) (1099511627776 : @Int)))) (1099511627776 : @Int))) ∧
  (((@Go.Proofs.Ytjndgegfonhhfaa.Cst.s5 (@Go.Proofs.Ytjndgegfonhhfaa.Cst.sum c s_1)) = (@Go.Proofs.Ytjndgegfonhhfaa.SE.imin ((@Go.Proofs.Ytjndgegfonhhfaa.SE.imax (0 : @Int) (@Go.Proofs.Ytjndgegfonhhfaa.SE.imin (@Go.Proofs.Ytjndgegfonhhfaa.Cst.s5 (@Go.Proofs.Ytjndgegfonhhfaa.Cst.sum c s)) (1099511627776 : @Int))) + (@Go.Proofs.Ytjndgegfonhhfaa.SE.imax (0 : @Int) (@Go.Proofs.Ytjndgegfonhhfaa.SE.imin (@Go.Proofs.Ytjndgegfonhhfaa.Cst.s5 (c ((0 : @Nat) + s))) (1099511627776 : @Int)))) (1099511627776 : @Int))) ∧
  True)))))) ∧
  ((((0 : @Int) = (0 : @Int)) ∧
  (((0 : @Int) = (0 : @Int)) ∧
  (((0 : @Int) = (0 : @Int)) ∧
  (((0 : @Int) = (0 : @Int)) ∧
  (((0 : @Int) = (0 : @Int)) ∧
  (((0 : @Int) = (0 : @Int)) ∧
  True)))))) ∧
  ((((@Go.Proofs.Ytjndgegfonhhfaa.SE.Cs.row (6 : @Nat) n (fun (k : @Nat) => [(Go.Value.int @Go.IntKind.i64 (@Go.Proofs.Ytjndgegfonhhfaa.Cst.s0 (c k))), (Go.Value.int @Go.IntKind.i64 (@Go.Proofs.Ytjndgegfonhhfaa.Cst.s1 (c k))), (Go.Value.int @Go.IntKind.i64 (@Go.Proofs.Ytjndgegfonhhfaa.Cst.s2 (c k))), (Go.Value.int @Go.IntKind.i64 (@Go.Proofs.Ytjndgegfonhhfaa.Cst.s3 (c k))), (Go.Value.int @Go.IntKind.i64 (@Go.Proofs.Ytjndgegfonhhfaa.Cst.s4 (c k))), (Go.Value.int @Go.IntKind.i64 (@Go.Proofs.Ytjndgegfonhhfaa.Cst.s5 (c k)))]) (@List.nil (@Prod @Nat (@List @Go.Value)))) = (@Go.Proofs.Ytjndgegfonhhfaa.SE.Cs.row (6 : @Nat) n (fun (k : @Nat) => [(Go.Value.int @Go.IntKind.i64 (@Go.Proofs.Ytjndgegfonhhfaa.Cst.s0 (c k))), (Go.Value.int @Go.IntKind.i64 (@Go.Proofs.Ytjndgegfonhhfaa.Cst.s1 (c k))), (Go.Value.int @Go.IntKind.i64 (@Go.Proofs.Ytjndgegfonhhfaa.Cst.s2 (c k))), (Go.Value.int @Go.IntKind.i64 (@Go.Proofs.Ytjndgegfonhhfaa.Cst.s3 (c k))), (Go.Value.int @Go.IntKind.i64 (@Go.Proofs.Ytjndgegfonhhfaa.Cst.s4 (c k))), (Go.Value.int @Go.IntKind.i64 (@Go.Proofs.Ytjndgegfonhhfaa.Cst.s5 (c k)))]) (@List.nil (@Prod @Nat (@List @Go.Value))))) ∧
  (@Bool.true = @Bool.true)) ∧
  True))))))))))))))))))))))))) ((((@Go.Proofs.Ytjndgegfonhhfaa.Cst.s0 r) = (@Go.Proofs.Ytjndgegfonhhfaa.Cst.s0 (@Go.Proofs.Ytjndgegfonhhfaa.Cst.sum c s))) ∧
  (((@Go.Proofs.Ytjndgegfonhhfaa.Cst.s1 r) = (@Go.Proofs.Ytjndgegfonhhfaa.Cst.s1 (@Go.Proofs.Ytjndgegfonhhfaa.Cst.sum c s))) ∧
  (((@Go.Proofs.Ytjndgegfonhhfaa.Cst.s2 r) = (@Go.Proofs.Ytjndgegfonhhfaa.Cst.s2 (@Go.Proofs.Ytjndgegfonhhfaa.Cst.sum c s))) ∧
  (((@Go.Proofs.Ytjndgegfonhhfaa.Cst.s3 r) = (@Go.Proofs.Ytjndgegfonhhfaa.Cst.s3 (@Go.Proofs.Ytjndgegfonhhfaa.Cst.sum c s))) ∧
  (((@Go.Proofs.Ytjndgegfonhhfaa.Cst.s4 r) = (@Go.Proofs.Ytjndgegfonhhfaa.Cst.s4 (@Go.Proofs.Ytjndgegfonhhfaa.Cst.sum c s))) ∧
  (((@Go.Proofs.Ytjndgegfonhhfaa.Cst.s5 r) = (@Go.Proofs.Ytjndgegfonhhfaa.Cst.s5 (@Go.Proofs.Ytjndgegfonhhfaa.Cst.sum c s))) ∧
  True)))))) ∧
  ((((@Go.Proofs.Ytjndgegfonhhfaa.SE.Cs.row (6 : @Nat) n (fun (k : @Nat) => [(Go.Value.int @Go.IntKind.i64 (@Go.Proofs.Ytjndgegfonhhfaa.Cst.s0 (c k))), (Go.Value.int @Go.IntKind.i64 (@Go.Proofs.Ytjndgegfonhhfaa.Cst.s1 (c k))), (Go.Value.int @Go.IntKind.i64 (@Go.Proofs.Ytjndgegfonhhfaa.Cst.s2 (c k))), (Go.Value.int @Go.IntKind.i64 (@Go.Proofs.Ytjndgegfonhhfaa.Cst.s3 (c k))), (Go.Value.int @Go.IntKind.i64 (@Go.Proofs.Ytjndgegfonhhfaa.Cst.s4 (c k))), (Go.Value.int @Go.IntKind.i64 (@Go.Proofs.Ytjndgegfonhhfaa.Cst.s5 (c k)))]) (@List.nil (@Prod @Nat (@List @Go.Value)))) = (@Go.Proofs.Ytjndgegfonhhfaa.SE.Cs.row (6 : @Nat) n (fun (k : @Nat) => [(Go.Value.int @Go.IntKind.i64 (@Go.Proofs.Ytjndgegfonhhfaa.Cst.s0 (c k))), (Go.Value.int @Go.IntKind.i64 (@Go.Proofs.Ytjndgegfonhhfaa.Cst.s1 (c k))), (Go.Value.int @Go.IntKind.i64 (@Go.Proofs.Ytjndgegfonhhfaa.Cst.s2 (c k))), (Go.Value.int @Go.IntKind.i64 (@Go.Proofs.Ytjndgegfonhhfaa.Cst.s3 (c k))), (Go.Value.int @Go.IntKind.i64 (@Go.Proofs.Ytjndgegfonhhfaa.Cst.s4 (c k))), (Go.Value.int @Go.IntKind.i64 (@Go.Proofs.Ytjndgegfonhhfaa.Cst.s5 (c k)))]) (@List.nil (@Prod @Nat (@List @Go.Value))))) ∧
  (@Bool.true = @Bool.true)) ∧
  True))))) ∧
  True))
theorem refSumVC_ok (c : Nat → Cst) (n : Nat) (r : Cst) : refSumVC c n r = refSumVC_wp c n r := by kernel_rfl
end Go.Proofs.Ytjndgegfonhhfaa
