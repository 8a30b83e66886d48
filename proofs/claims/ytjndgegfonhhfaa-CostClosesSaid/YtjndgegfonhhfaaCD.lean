/- Costs and their sums. -/
import Derived.Test.YtjndgegfonhhfaaCB
namespace Go.Proofs.Ytjndgegfonhhfaa
open Go SE
/-- A cost. -/
structure Cst where
  s0 : Int
  s1 : Int
  s2 : Int
  s3 : Int
  s4 : Int
  s5 : Int
deriving DecidableEq
namespace Cst
def cells (x : Cst) : List Value := [.int .i64 x.s0, .int .i64 x.s1, .int .i64 x.s2, .int .i64 x.s3, .int .i64 x.s4, .int .i64 x.s5]
def avs (x : Cst) : List AV := [i64 x.s0, i64 x.s1, i64 x.s2, i64 x.s3, i64 x.s4, i64 x.s5]
def av (x : Cst) : AV := .agg x.avs
def zero : Cst := ⟨0, 0, 0, 0, 0, 0⟩
def maxCost : Int := 1099511627776
def heldM (a b : Int) : Int := a + imin (imax b 0) (maxCost - a)
def add (x y : Cst) : Cst := ⟨heldM x.s0 y.s0, heldM x.s1 y.s1, heldM x.s2 y.s2, heldM x.s3 y.s3, heldM x.s4 y.s4, heldM x.s5 y.s5⟩
def sum (c : Nat → Cst) : Nat → Cst
  | 0 => zero
  | i + 1 => add (sum c i) (c i)
def okI (a : Int) : Prop := 0 ≤ a ∧ a ≤ maxCost
def ok (x : Cst) : Prop := okI x.s0 ∧ okI x.s1 ∧ okI x.s2 ∧ okI x.s3 ∧ okI x.s4 ∧ okI x.s5
end Cst
def rowC (c : Nat → Cst) (n : Nat) : Cs := .row 6 n (fun k => (c k).cells) []
def anSum (c : Nat → Cst) (n : Nat) : FuncId → Anns := fun g => bif Nat.beq g 15 then (fun b fr h => bif Nat.beq b 0 then [{ σ := Nat, fr := fun i => [(8, i64 i)], ob := fun i => [(2, some (.cells 33 (.av (Cst.sum c i).avs)))], inv := fun i => i ≤ n, meas := fun i => n - i }] else []) else fun _ _ _ => []
def anRefSum (c : Nat → Cst) (n : Nat) : FuncId → Anns := fun g => bif Nat.beq g 21 then (fun b fr h => bif Nat.beq b 0 then [{ σ := Nat, fr := fun i => [(4, i64 i)], ob := fun i => [(2, some (.cells 33 (.av (Cst.sum c i).avs)))], inv := fun i => i ≤ n, meas := fun i => n - i }] else []) else fun _ _ _ => []
end Go.Proofs.Ytjndgegfonhhfaa
