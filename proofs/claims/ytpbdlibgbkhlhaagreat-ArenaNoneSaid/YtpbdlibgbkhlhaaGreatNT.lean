/- What is asked of a step of a sum. -/
import Derived.Test.YtpbdlibgbkhlhaaGreatNS
import Derived.KernelRfl
namespace Go.Proofs.YtpbdlibgbkhlhaaGreat
open Go SE
def stepVC_wp (p : Int × Int) : Prop := wpF Tryz.prog [] tt (anStep p) 200 5 271 (stepC.args p) (hO stepC.k (stepC.os p)) (fun v h' => endsP stepC.k p v h' stepC.outs)
def stepVC (p : Int × Int) : Prop :=
  ((∃ (s : @Nat), ((s ≤ (8 : @Nat)) ∧
  (True ∧
  (((((s : Nat) : @Int) = (0 : @Int)) ∧
  (((@bitsM (@x32 (@Prod.fst @Int @Int p) (@Prod.snd @Int @Int p)) s) = (@IntKind.wrap @IntKind.u32 (((@BitVec.toNat (32 : @Nat) (@HXor.hXor (@BitVec (32 : @Nat)) (@BitVec (32 : @Nat)) (@BitVec (32 : @Nat)) (@instHXorOfXorOp (@BitVec (32 : @Nat)) (@BitVec.instXorOp (32 : @Nat))) (@BitVec.ofInt (32 : @Nat) (@Prod.fst @Int @Int p)) (@BitVec.ofInt (32 : @Nat) (@IntKind.wrap @IntKind.u32 (@Prod.snd @Int @Int p))))) : Nat) : @Int))) ∧
  True)) ∧
  True)))) ∧
  ((∀ (s : @Nat), ((s ≤ (8 : @Nat)) → (cP (decide (((s : Nat) : @Int) < (8 : @Int))) ((@I64 (((s : Nat) : @Int) + (1 : @Int))) ∧
  ((((2 : @Int) = (0 : @Int)) → False) ∧
  (cP (@BEq.beq @Int (@instBEqOfDecidableEq @Int @Int.instDecidableEq) (@Int.tmod (@bitsM (@x32 (@Prod.fst @Int @Int p) (@Prod.snd @Int @Int p)) s) (2 : @Int)) (0 : @Int)) ((((2 : @Int) = (0 : @Int)) → False) ∧
  (∃ (s_1 : @Nat), ((s_1 ≤ (8 : @Nat)) ∧
  ((((8 : @Nat) - s_1) < ((8 : @Nat) - s)) ∧
  (((((s_1 : Nat) : @Int) = (((s : Nat) : @Int) + (1 : @Int))) ∧
  (((@bitsM (@x32 (@Prod.fst @Int @Int p) (@Prod.snd @Int @Int p)) s_1) = (@IntKind.wrap @IntKind.u32 (@Int.tdiv (@bitsM (@x32 (@Prod.fst @Int @Int p) (@Prod.snd @Int @Int p)) s) (2 : @Int)))) ∧
  True)) ∧
  True))))) ((((2 : @Int) = (0 : @Int)) → False) ∧
  (∃ (s_1 : @Nat), ((s_1 ≤ (8 : @Nat)) ∧
  ((((8 : @Nat) - s_1) < ((8 : @Nat) - s)) ∧
  (((((s_1 : Nat) : @Int) = (((s : Nat) : @Int) + (1 : @Int))) ∧
  (((@bitsM (@x32 (@Prod.fst @Int @Int p) (@Prod.snd @Int @Int p)) s_1) = (@IntKind.wrap @IntKind.u32 (((@BitVec.toNat (32 : @Nat) (@HXor.hXor (@BitVec (32 : @Nat)) (@BitVec (32 : @Nat)) (@BitVec (32 : @Nat)) (@instHXorOfXorOp (@BitVec (32 : @Nat)) (@BitVec.instXorOp (32 : @Nat))) (@BitVec.ofInt (32 : @Nat) (@IntKind.wrap @IntKind.u32 (@Int.tdiv (@bitsM (@x32 (@Prod.fst @Int @Int p) (@Prod.snd @Int @Int p)) s) (2 : @Int)))) (@BitVec.ofInt (32 : @Nat) (3988292384 : @Int)))) : Nat) : @Int))) ∧
  True)) ∧
  True)))))))) (∃ (y : Unit), (True ∧
  (((@stepM (@Prod.fst @Int @Int p) (@Prod.snd @Int @Int p)) = (@bitsM (@x32 (@Prod.fst @Int @Int p) (@Prod.snd @Int @Int p)) s)) ∧
  True)))))) ∧
  True))
theorem stepVC_ok (p : Int × Int) : stepVC p = stepVC_wp p := by kernel_rfl
end Go.Proofs.YtpbdlibgbkhlhaaGreat
