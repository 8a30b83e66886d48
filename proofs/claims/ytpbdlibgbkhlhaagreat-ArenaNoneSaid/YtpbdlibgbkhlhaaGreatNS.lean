/- A step of a sum. -/
import Derived.Test.YtpbdlibgbkhlhaaGreatNB
import Derived.Test.YtpbdlibgbkhlhaaGreatV16
namespace Go.Proofs.YtpbdlibgbkhlhaaGreat
open Go SE
def x32 (a b : Int) : Int := IntKind.u32.wrap ((BitVec.ofInt 32 a ^^^ BitVec.ofInt 32 b).toNat : Nat)
def bitM (c : Int) : Int := bif decide (c % 2 = 0) then c / 2 else x32 (c / 2) 3988292384
def bitsM (c : Int) : Nat → Int
  | 0 => c
  | k + 1 => bitM (bitsM c k)
def stepM (c x : Int) : Int := bitsM (x32 c x) 8
def U32 (c : Int) : Prop := 0 ≤ c ∧ c < 4294967296
theorem wrap_u32 (z : Int) : U32 (IntKind.u32.wrap z) := by
  unfold IntKind.wrap U32
  simp [IntKind.bits, IntKind.signed]
  omega
theorem wrap_u32_id {z : Int} (h : U32 z) : IntKind.u32.wrap z = z := by
  unfold IntKind.wrap U32 at *
  simp [IntKind.bits, IntKind.signed]
  omega
theorem x32_U (a b : Int) : U32 (x32 a b) := wrap_u32 _
theorem bitM_U {c : Int} (h : U32 c) : U32 (bitM c) := by
  unfold bitM
  cases decide (c % 2 = 0)
  · exact x32_U _ _
  · unfold U32 at *; simp only [cond_true]; omega
theorem bitsM_U {c : Int} (h : U32 c) : ∀ k, U32 (bitsM c k)
  | 0 => h
  | k + 1 => bitM_U (bitsM_U h k)
def u32 (c : Int) : AV := .lit (.int .u32 c)
def stepC : Ctr := det (Int × Int) (fun p => [u32 p.1, .lit (.int .u8 p.2)]) 0 (fun _ => []) (fun p => U32 p.1 ∧ 0 ≤ p.2 ∧ p.2 < 256) (fun p => u32 (stepM p.1 p.2)) 0 (fun _ => [])
def anStep (p : Int × Int) : FuncId → Anns := fun f =>
  bif Nat.beq f 271 then (fun b fr h => bif Nat.beq b 0 then [{ σ := Nat, fr := fun k => [(5, i64 k), (0, u32 (bitsM (x32 p.1 p.2) k))], ob := fun _ => [], inv := fun k => k ≤ 8, meas := fun k => 8 - k }] else []) else
fun _ _ _ => []
end Go.Proofs.YtpbdlibgbkhlhaaGreat
