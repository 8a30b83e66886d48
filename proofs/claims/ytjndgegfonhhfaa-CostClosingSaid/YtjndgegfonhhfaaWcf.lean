import Derived.Test.YtjndgegfonhhfaaWca
import Derived.Test.YtjndgegfonhhfaaWcb
import Derived.Test.YtjndgegfonhhfaaWcc
import Derived.Test.YtjndgegfonhhfaaWcd
import Derived.Test.YtjndgegfonhhfaaWce
import Derived.Test.YtjndgegfonhhfaaRows
import Derived.KernelRfl
set_option linter.unusedVariables false
set_option linter.unusedSimpArgs false
set_option linter.unnecessarySimpa false
section
/- The words of the cost seat. -/
namespace Go.Proofs.Ytjndgegfonhhfaa
open Go SE
noncomputable def tt : TT := mkTI Try.prog
theorem tt_ok : tt.ok Try.prog := fun _ _ h => h
set_option maxRecDepth 20000
theorem mixed : Try.prog.follows .mixedOrders = true := by kernel_rfl
def i64 (n : Int) : AV := .lit (.int .i64 n)
end Go.Proofs.Ytjndgegfonhhfaa
end
section
/- A closing: what was met, how many. -/
namespace Go.Proofs.Ytjndgegfonhhfaa
open Go SE
/-- Is the line k among the first i notes? -/
def met (g : Nat → Int) : Nat → Nat → Bool
  | 0, _ => false
  | i + 1, k => bif decide (g i = (k : Int)) then true else met g i k
/-- How many of the first m lines are among the first i notes. -/
def cntTo (g : Nat → Int) (i : Nat) : Nat → Nat
  | 0 => 0
  | m + 1 => bif met g i m then cntTo g i m + 1 else cntTo g i m
theorem cntTo_le (g : Nat → Int) (i : Nat) : ∀ m, cntTo g i m ≤ m
  | 0 => Nat.le_refl _
  | m + 1 => by have := cntTo_le g i m; simp only [cntTo]; cases met g i m <;> simp <;> omega
theorem cntTo_zero (g : Nat → Int) : ∀ m, cntTo g 0 m = 0
  | 0 => rfl
  | m + 1 => by simp [cntTo, met, cntTo_zero g m]
theorem met_at {g : Nat → Int} {i k : Nat} (h : met g i k = true) : met g (i + 1) k = true := by
  simp only [met, h]; cases decide (g i = (k : Int)) <;> rfl
theorem met_new {g : Nat → Int} {i k : Nat} (h : g i = (k : Int)) : met g (i + 1) k = true := by
  simp [met, h]
theorem met_old {g : Nat → Int} {i k : Nat} (h : g i ≠ (k : Int)) : met g (i + 1) k = met g i k := by
  simp [met, h]
theorem cntTo_same {g : Nat → Int} {i : Nat} : ∀ {m : Nat}, (∀ k, k < m → met g (i + 1) k = met g i k) → cntTo g (i + 1) m = cntTo g i m
  | 0, _ => rfl
  | m + 1, h => by simp only [cntTo]; rw [cntTo_same fun k hk => h k (by omega), h m (by omega)]
theorem cntTo_more {g : Nat → Int} {i q : Nat} (hq : g i = (q : Int)) (hn : met g i q = false) : ∀ {m : Nat}, q < m → cntTo g (i + 1) m = cntTo g i m + 1
  | m + 1, h => by
    by_cases hm : q = m
    · subst hm
      simp only [cntTo, met_new hq, hn, cond_true, cond_false]
      rw [cntTo_same fun k hk => met_old (by omega)]
    · simp only [cntTo, met_old (g := g) (i := i) (k := m) (by omega)]
      rw [cntTo_more hq hn (by omega)]
      cases met g i m <;> simp <;> omega
def rowI (g : Nat → Int) (n : Nat) : Cs := .row 1 n (fun k => [.int .i64 (g k)]) []
def lentG (g : Nat → Int) (n k : Nat) : List Value := [.int .i64 (bif Nat.blt k n then g k else -777)]
def lentI (g : Nat → Int) (n : Nat) : AObj := .cells 3 (.row 1 (n + 3) (lentG g n) [])
def metO (g : Nat → Int) (i : Nat) : AObj := .cells 95 (.row 1 258 (fun k => [.bool (met g i k)]) [])
structure Nts where
  g : Nat → Int
  n : Nat
  N : Nat
def closed (g : Nat → Int) (n : Nat) : AV := .agg [i64 ((cntTo g n 258 : Nat) + 4 : Int), i64 1, i64 ((cntTo g n 258 : Nat) + 1 : Int), i64 2, i64 0, i64 0]
def closeC : Ctr := det Nts (fun x => [.slR 0 0 1 x.n]) 1 (fun x => [.ro (rowI x.g x.N)]) (fun x => x.n ≤ x.N ∧ x.n < 1099511627776) (fun x => closed x.g x.n) 1 (fun x => [.ro (rowI x.g x.N)])
def anClose (x : Nts) : FuncId → Anns := fun f => bif Nat.beq f 23 then (fun b fr h => bif Nat.beq b 0 then [{ σ := Nat, fr := fun i => [(9, i64 i), (4, i64 (cntTo x.g i 258))], ob := fun i => [(2, some (metO x.g i))], inv := fun i => i ≤ x.n, meas := fun i => x.n - i }] else []) else fun _ _ _ => []
def anRClose (x : Nts) : FuncId → Anns := fun f => bif Nat.beq f 24 then (fun b fr h => bif Nat.beq b 0 then [{ σ := Nat, fr := fun m => [(4, i64 m), (3, i64 (cntTo x.g x.n m))], ob := fun _ => [], inv := fun m => m ≤ 258, meas := fun m => 258 - m }] else
    bif Nat.beq b 2 then [{ σ := Nat, fr := fun i => [(6, i64 i), (5, .lit (.bool (met x.g i (intAt fr 4).toNat)))], ob := fun _ => [], inv := fun i => i ≤ x.n, meas := fun i => x.n - i }] else []) else fun _ _ _ => []
def lendC : Ctr := det Nts (fun x => [.slR 0 0 1 x.n]) 1 (fun x => [.ro (rowI x.g x.n)]) (fun x => x.n < 1099511627776) (fun x => .slE 1 0 1 x.n (x.n + 3)) 2 (fun x => [.ro (rowI x.g x.n), lentI x.g x.n])
def keptC : Ctr := det Nts (fun x => [.slE 0 0 1 x.n (x.n + 3), .slR 1 0 1 x.n]) 2 (fun x => [.ro (.row 1 (x.n + 3) (lentG x.g x.n) []), .ro (rowI x.g x.n)]) (fun x => x.n < 1099511627776) (fun _ => .lit (.bool true)) 2 (fun x => [.ro (.row 1 (x.n + 3) (lentG x.g x.n) []), .ro (rowI x.g x.n)])
def anSame (x : Nts) : FuncId → Anns := fun f => bif Nat.beq f 61 then (fun b fr h => bif Nat.beq b 0 then [{ σ := Nat, fr := fun i => [(5, i64 i)], ob := fun _ => [], inv := fun i => i ≤ x.n, meas := fun i => x.n - i }] else []) else fun _ _ _ => []
def slabsM (a : Int) : Int := if a < 10 then 0 else Int.tdiv (imin a 258 - 2) 8
def slabsC : Ctr := det Int (fun a => [i64 a]) 0 (fun _ => []) (fun _ => True) (fun a => i64 (slabsM a)) 0 (fun _ => [])
def anSlabs (a : Int) : FuncId → Anns := fun f => bif Nat.beq f 60 then (fun b fr h => bif Nat.beq b 0 then [{ σ := Nat, fr := fun k => [(3, i64 k)], ob := fun _ => [], inv := fun k => k ≤ 32 ∧ (k = 0 ∨ 2 + 8 * (k : Int) ≤ a), meas := fun k => 32 - k }] else []) else fun _ _ _ => []
end Go.Proofs.Ytjndgegfonhhfaa
end
section
/- What is asked of a closing, and of numbers that are lent. -/
namespace Go.Proofs.Ytjndgegfonhhfaa
open Go SE
def closeVC_wp (x : Nts) : Prop := wpF Try.prog [] tt (anClose x) 200 5 23 (closeC.args x) (hO closeC.k (closeC.os x)) (fun v h' => endsP closeC.k x v h' closeC.outs)
def closeVC (x : Nts) : Prop :=
  ((∃ (s : Nat), ((s ≤ (@Nts.n x)) ∧ (True ∧ (((((s : Nat) : Int) = (0 : Int)) ∧ (((((@cntTo (@Nts.g x) s 258) : Nat) : Int) = (0 : Int)) ∧ True)) ∧ (((258 = 258) ∧ (∀ (q : Nat), ((q < 258) → ([(Value.bool (@met (@Nts.g x) s q))] = [(Value.bool Bool.false)])))) ∧ ((((0 : Int) = (0 : Int)) ∧ (((0 : Int) = (0 : Int)) ∧ (((0 : Int) = (0 : Int)) ∧ (((0 : Int) = (0 : Int)) ∧ (((0 : Int) = (0 : Int)) ∧ (((0 : Int) = (0 : Int)) ∧ True)))))) ∧ ((((@rowI (@Nts.g x) (@Nts.N x)) = (@rowI (@Nts.g x) (@Nts.N x))) ∧ (Bool.true = Bool.true)) ∧ True))))))) ∧ ((∀ (s : Nat), ((s ≤ (@Nts.n x)) → (cP (decide (((s : Nat) : Int) < (((@Nts.n x) : Nat) : Int))) ((((0 : Int) ≤ ((s : Nat) : Int)) ∧ (((s : Nat) : Int) < (((@Nts.n x) : Nat) : Int))) ∧ (((0 + s) < (@Nts.N x)) ∧ (cP (decide (@GE.ge Int @Int.instLEInt (@Nts.g x (0 + s)) (0 : Int))) (cP (decide ((@Nts.g x (0 + s)) < (258 : Int))) ((((0 : Int) ≤ (@Nts.g x (0 + s))) ∧ ((@Nts.g x (0 + s)) < (258 : Int))) ∧ (((Int.toNat (@Nts.g x (0 + s))) < 258) ∧ (cP (@Bool.not (@met (@Nts.g x) s (Int.toNat (@Nts.g x (0 + s))))) ((((0 : Int) ≤ (@Nts.g x (0 + s))) ∧ ((@Nts.g x (0 + s)) < (258 : Int))) ∧ (((Int.toNat (@Nts.g x (0 + s))) < 258) ∧ ((I64 ((((@cntTo (@Nts.g x) s 258) : Nat) : Int) + (1 : Int))) ∧ ((I64 (((s : Nat) : Int) + (1 : Int))) ∧ (∃ (s_1 : Nat), ((s_1 ≤ (@Nts.n x)) ∧ ((((@Nts.n x) - s_1) < ((@Nts.n x) - s)) ∧ (((((s_1 : Nat) : Int) = (((s : Nat) : Int) + (1 : Int))) ∧ (((((@cntTo (@Nts.g x) s_1 258) : Nat) : Int) = ((((@cntTo (@Nts.g x) s 258) : Nat) : Int) + (1 : Int))) ∧
 True)) ∧ (((258 = 258) ∧ (∀ (q : Nat), ((q < 258) → ([(Value.bool (@met (@Nts.g x) s_1 q))] = (@Cs.eff (fun (k : Nat) => [(Value.bool (@met (@Nts.g x) s k))]) [(@Prod.mk Nat (@List Value) (Int.toNat (@Nts.g x (0 + s))) [(Value.bool Bool.true)])] q))))) ∧ ((((0 : Int) = (0 : Int)) ∧ (((0 : Int) = (0 : Int)) ∧ (((0 : Int) = (0 : Int)) ∧ (((0 : Int) = (0 : Int)) ∧ (((0 : Int) = (0 : Int)) ∧ (((0 : Int) = (0 : Int)) ∧ True)))))) ∧ ((((@rowI (@Nts.g x) (@Nts.N x)) = (@rowI (@Nts.g x) (@Nts.N x))) ∧ (Bool.true = Bool.true)) ∧ True))))))))))) ((I64 (((s : Nat) : Int) + (1 : Int))) ∧ (∃ (s_1 : Nat), ((s_1 ≤ (@Nts.n x)) ∧ ((((@Nts.n x) - s_1) < ((@Nts.n x) - s)) ∧ (((((s_1 : Nat) : Int) = (((s : Nat) : Int) + (1 : Int))) ∧ (((((@cntTo (@Nts.g x) s_1 258) : Nat) : Int) = (((@cntTo (@Nts.g x) s 258) : Nat) : Int)) ∧ True)) ∧ (((258 = 258) ∧ (∀ (q : Nat), ((q < 258) → ([(Value.bool (@met (@Nts.g x) s_1 q))] = [(Value.bool (@met (@Nts.g x) s q))])))) ∧ ((((0 : Int) = (0 : Int)) ∧ (((0 : Int) = (0 : Int)) ∧ (((0 : Int) = (0 : Int)) ∧ (((0 : Int) = (0 : Int)) ∧ (((0 : Int) = (0 : Int)) ∧ (((0 : Int) = (0 : Int)) ∧ True)))))) ∧ ((((@rowI (@Nts.g x) (@Nts.N x)) = (@rowI (@Nts.g x) (@Nts.N x))) ∧ (Bool.true = Bool.true)) ∧ True))))))))))) ((I64 (((s : Nat) : Int) + (1 : Int))) ∧ (∃ (s_1 : Nat), ((s_1 ≤ (@Nts.n x)) ∧ ((((@Nts.n x) - s_1) < ((@Nts.n x) - s)) ∧ (((((s_1 : Nat) : Int) = (((s : Nat) : Int) + (1 : Int))) ∧ (((((@cntTo (@Nts.g x) s_1 258) : Nat) : Int) = (((@cntTo (@Nts.g x) s 258) : Nat) : Int)) ∧
 True)) ∧ (((258 = 258) ∧ (∀ (q : Nat), ((q < 258) → ([(Value.bool (@met (@Nts.g x) s_1 q))] = [(Value.bool (@met (@Nts.g x) s q))])))) ∧ ((((0 : Int) = (0 : Int)) ∧ (((0 : Int) = (0 : Int)) ∧ (((0 : Int) = (0 : Int)) ∧ (((0 : Int) = (0 : Int)) ∧ (((0 : Int) = (0 : Int)) ∧ (((0 : Int) = (0 : Int)) ∧ True)))))) ∧ ((((@rowI (@Nts.g x) (@Nts.N x)) = (@rowI (@Nts.g x) (@Nts.N x))) ∧ (Bool.true = Bool.true)) ∧ True))))))))) ((I64 (((s : Nat) : Int) + (1 : Int))) ∧ (∃ (s_1 : Nat), ((s_1 ≤ (@Nts.n x)) ∧ ((((@Nts.n x) - s_1) < ((@Nts.n x) - s)) ∧ (((((s_1 : Nat) : Int) = (((s : Nat) : Int) + (1 : Int))) ∧ (((((@cntTo (@Nts.g x) s_1 258) : Nat) : Int) = (((@cntTo (@Nts.g x) s 258) : Nat) : Int)) ∧ True)) ∧ (((258 = 258) ∧ (∀ (q : Nat), ((q < 258) → ([(Value.bool (@met (@Nts.g x) s_1 q))] = [(Value.bool (@met (@Nts.g x) s q))])))) ∧ ((((0 : Int) = (0 : Int)) ∧ (((0 : Int) = (0 : Int)) ∧ (((0 : Int) = (0 : Int)) ∧ (((0 : Int) = (0 : Int)) ∧ (((0 : Int) = (0 : Int)) ∧ (((0 : Int) = (0 : Int)) ∧ True)))))) ∧ ((((@rowI (@Nts.g x) (@Nts.N x)) = (@rowI (@Nts.g x) (@Nts.N x))) ∧ (Bool.true = Bool.true)) ∧ True))))))))))) ((I64 ((((@cntTo (@Nts.g x) s 258) : Nat) : Int) + (4 : Int))) ∧ ((I64 ((((@cntTo (@Nts.g x) s 258) : Nat) : Int) + (1 : Int))) ∧ (∃ (y : Unit), (True ∧ (((((((@cntTo (@Nts.g x) (@Nts.n x) 258) : Nat) : Int) + (4 : Int)) = ((((@cntTo (@Nts.g x) s 258) : Nat) : Int) + (4 : Int))) ∧ (((1 : Int) = (1 : Int)) ∧ ((((((@cntTo (@Nts.g x) (@Nts.n x) 258) : Nat) : Int) + (1 : Int)) = ((((@cntTo (@Nts.g x) s 258) : Nat) : Int) + (1 : Int))) ∧
 (((2 : Int) = (2 : Int)) ∧ (((0 : Int) = (0 : Int)) ∧ (((0 : Int) = (0 : Int)) ∧ True)))))) ∧ ((((@rowI (@Nts.g x) (@Nts.N x)) = (@rowI (@Nts.g x) (@Nts.N x))) ∧ (Bool.true = Bool.true)) ∧ True))))))))) ∧ True))
theorem closeVC_ok (x : Nts) : closeVC x = closeVC_wp x := by kernel_rfl
def rcloseVC_wp (x : Nts) : Prop := wpF Try.prog [] tt (anRClose x) 200 5 24 (closeC.args x) (hO closeC.k (closeC.os x)) (fun v h' => endsP closeC.k x v h' closeC.outs)
def rcloseVC (x : Nts) : Prop :=
  ((∃ (s : Nat), ((s ≤ 258) ∧ (True ∧ (((((s : Nat) : Int) = (0 : Int)) ∧ (((((@cntTo (@Nts.g x) (@Nts.n x) s) : Nat) : Int) = (0 : Int)) ∧ True)) ∧ ((((0 : Int) = (0 : Int)) ∧ (((0 : Int) = (0 : Int)) ∧ (((0 : Int) = (0 : Int)) ∧ (((0 : Int) = (0 : Int)) ∧ (((0 : Int) = (0 : Int)) ∧ (((0 : Int) = (0 : Int)) ∧ True)))))) ∧ ((((@rowI (@Nts.g x) (@Nts.N x)) = (@rowI (@Nts.g x) (@Nts.N x))) ∧ (Bool.true = Bool.true)) ∧ True)))))) ∧ ((∀ (s : Nat), ((s ≤ 258) → (cP (decide (((s : Nat) : Int) < (258 : Int))) ((∃ (s_1 : Nat), ((s_1 ≤ (@Nts.n x)) ∧ (True ∧ (((((s_1 : Nat) : Int) = (0 : Int)) ∧ (((@met (@Nts.g x) s_1 (Int.toNat ((s : Nat) : Int))) = Bool.false) ∧ True)) ∧ ((((0 : Int) = (0 : Int)) ∧ (((0 : Int) = (0 : Int)) ∧ (((0 : Int) = (0 : Int)) ∧ (((0 : Int) = (0 : Int)) ∧ (((0 : Int) = (0 : Int)) ∧ (((0 : Int) = (0 : Int)) ∧ True)))))) ∧ ((((@rowI (@Nts.g x) (@Nts.N x)) = (@rowI (@Nts.g x) (@Nts.N x))) ∧ (Bool.true = Bool.true)) ∧ True)))))) ∧ ((∀ (s_1 : Nat), ((s_1 ≤ (@Nts.n x)) → (cP (decide (((s_1 : Nat) : Int) < (((@Nts.n x) : Nat) : Int))) (cP (@met (@Nts.g x) s_1 s) ((I64 (((s_1 : Nat) : Int) + (1 : Int))) ∧ (∃ (s_2 : Nat), ((s_2 ≤ (@Nts.n x)) ∧ ((((@Nts.n x) - s_2) < ((@Nts.n x) - s_1)) ∧ (((((s_2 : Nat) : Int) = (((s_1 : Nat) : Int) + (1 : Int))) ∧ (((@met (@Nts.g x) s_2 (Int.toNat ((s : Nat) : Int))) = Bool.true) ∧ True)) ∧ ((((0 : Int) = (0 : Int)) ∧ (((0 : Int) = (0 : Int)) ∧ (((0 : Int) = (0 : Int)) ∧ (((0 : Int) = (0 : Int)) ∧ (((0 : Int) = (0 : Int)) ∧ (((0 : Int) = (0 : Int)) ∧
 True)))))) ∧ ((((@rowI (@Nts.g x) (@Nts.N x)) = (@rowI (@Nts.g x) (@Nts.N x))) ∧ (Bool.true = Bool.true)) ∧ True))))))) ((((0 : Int) ≤ ((s_1 : Nat) : Int)) ∧ (((s_1 : Nat) : Int) < (((@Nts.n x) : Nat) : Int))) ∧ (((0 + s_1) < (@Nts.N x)) ∧ ((I64 (((s_1 : Nat) : Int) + (1 : Int))) ∧ (∃ (s_2 : Nat), ((s_2 ≤ (@Nts.n x)) ∧ ((((@Nts.n x) - s_2) < ((@Nts.n x) - s_1)) ∧ (((((s_2 : Nat) : Int) = (((s_1 : Nat) : Int) + (1 : Int))) ∧ (((@met (@Nts.g x) s_2 (Int.toNat ((s : Nat) : Int))) = (BEq.beq (@Nts.g x (0 + s_1)) ((s : Nat) : Int))) ∧ True)) ∧ ((((0 : Int) = (0 : Int)) ∧ (((0 : Int) = (0 : Int)) ∧ (((0 : Int) = (0 : Int)) ∧ (((0 : Int) = (0 : Int)) ∧ (((0 : Int) = (0 : Int)) ∧ (((0 : Int) = (0 : Int)) ∧ True)))))) ∧ ((((@rowI (@Nts.g x) (@Nts.N x)) = (@rowI (@Nts.g x) (@Nts.N x))) ∧ (Bool.true = Bool.true)) ∧ True)))))))))) (cP (@met (@Nts.g x) s_1 s) ((I64 ((((@cntTo (@Nts.g x) (@Nts.n x) s) : Nat) : Int) + (1 : Int))) ∧ ((I64 (((s : Nat) : Int) + (1 : Int))) ∧ (∃ (s_2 : Nat), ((s_2 ≤ 258) ∧ (((258 - s_2) < (258 - s)) ∧ (((((s_2 : Nat) : Int) = (((s : Nat) : Int) + (1 : Int))) ∧ (((((@cntTo (@Nts.g x) (@Nts.n x) s_2) : Nat) : Int) = ((((@cntTo (@Nts.g x) (@Nts.n x) s) : Nat) : Int) + (1 : Int))) ∧ True)) ∧ ((((0 : Int) = (0 : Int)) ∧ (((0 : Int) = (0 : Int)) ∧ (((0 : Int) = (0 : Int)) ∧ (((0 : Int) = (0 : Int)) ∧ (((0 : Int) = (0 : Int)) ∧ (((0 : Int) = (0 : Int)) ∧ True)))))) ∧ ((((@rowI (@Nts.g x) (@Nts.N x)) = (@rowI (@Nts.g x) (@Nts.N x))) ∧ (Bool.true = Bool.true)) ∧ True)))))))) ((I64 (((s : Nat) : Int) + (1 : Int))) ∧
 (∃ (s_2 : Nat), ((s_2 ≤ 258) ∧ (((258 - s_2) < (258 - s)) ∧ (((((s_2 : Nat) : Int) = (((s : Nat) : Int) + (1 : Int))) ∧ (((((@cntTo (@Nts.g x) (@Nts.n x) s_2) : Nat) : Int) = (((@cntTo (@Nts.g x) (@Nts.n x) s) : Nat) : Int)) ∧ True)) ∧ ((((0 : Int) = (0 : Int)) ∧ (((0 : Int) = (0 : Int)) ∧ (((0 : Int) = (0 : Int)) ∧ (((0 : Int) = (0 : Int)) ∧ (((0 : Int) = (0 : Int)) ∧ (((0 : Int) = (0 : Int)) ∧ True)))))) ∧ ((((@rowI (@Nts.g x) (@Nts.N x)) = (@rowI (@Nts.g x) (@Nts.N x))) ∧ (Bool.true = Bool.true)) ∧ True))))))))))) ∧ True)) ((I64 ((((@cntTo (@Nts.g x) (@Nts.n x) s) : Nat) : Int) + (4 : Int))) ∧ ((I64 ((((@cntTo (@Nts.g x) (@Nts.n x) s) : Nat) : Int) + (1 : Int))) ∧ (∃ (y : Unit), (True ∧ (((((((@cntTo (@Nts.g x) (@Nts.n x) 258) : Nat) : Int) + (4 : Int)) = ((((@cntTo (@Nts.g x) (@Nts.n x) s) : Nat) : Int) + (4 : Int))) ∧ (((1 : Int) = (1 : Int)) ∧ ((((((@cntTo (@Nts.g x) (@Nts.n x) 258) : Nat) : Int) + (1 : Int)) = ((((@cntTo (@Nts.g x) (@Nts.n x) s) : Nat) : Int) + (1 : Int))) ∧ (((2 : Int) = (2 : Int)) ∧ (((0 : Int) = (0 : Int)) ∧ (((0 : Int) = (0 : Int)) ∧ True)))))) ∧ ((((@rowI (@Nts.g x) (@Nts.N x)) = (@rowI (@Nts.g x) (@Nts.N x))) ∧ (Bool.true = Bool.true)) ∧ True))))))))) ∧ True))
def lendVC_wp (x : Nts) : Prop := wpF Try.prog [] tt (fun _ _ _ _ => []) 200 5 22 (lendC.args x) (hO lendC.k (lendC.os x)) (fun v h' => endsP lendC.k x v h' lendC.outs)
def lendVC (x : Nts) : Prop :=
  ((I64 ((((@Nts.n x) : Nat) : Int) + (3 : Int))) ∧ ((((0 : Int) ≤ (0 : Int)) ∧ (((0 : Int) ≤ ((((@Nts.n x) : Nat) : Int) + (3 : Int))) ∧ ((((8 : Int) * ((((@Nts.n x) : Nat) : Int) + (3 : Int))) ≤ (281474976710656 : Int)) ∧ (((((@Nts.n x) : Nat) : Int) + (3 : Int)) < (4611686018427387904 : Int))))) ∧ ((0 ≤ (Int.toNat ((((@Nts.n x) : Nat) : Int) + (3 : Int)))) ∧ (((0 + (@Nts.n x)) ≤ (@Nts.n x)) ∧ (cP (@Nat.beq (@Nts.n x) 0) ((I64 ((((@Nts.n x) : Nat) : Int) + (3 : Int))) ∧ (((0 : Int) ≤ ((((@Nts.n x) : Nat) : Int) + (3 : Int))) ∧ (((0 : Int) ≤ (((@Nts.n x) : Nat) : Int)) ∧ ((((@Nts.n x) ≤ (Int.toNat ((((@Nts.n x) : Nat) : Int) + (3 : Int)))) ∧ (((Int.toNat ((((@Nts.n x) : Nat) : Int) + (3 : Int))) ≤ (Int.toNat ((((@Nts.n x) : Nat) : Int) + (3 : Int)))) ∧ ((Int.toNat ((((@Nts.n x) : Nat) : Int) + (3 : Int))) ≤ (Int.toNat ((((@Nts.n x) : Nat) : Int) + (3 : Int)))))) ∧ ((((0 : Int) ≤ (0 : Int)) ∧ ((1 : Int) ≤ ((((Int.toNat ((((@Nts.n x) : Nat) : Int) + (3 : Int))) - (@Nts.n x)) : Nat) : Int))) ∧ ((((0 + (@Nts.n x)) + 0) < (Int.toNat ((((@Nts.n x) : Nat) : Int) + (3 : Int)))) ∧ ((I64 (1 : Int)) ∧ ((((0 : Int) ≤ (1 : Int)) ∧ ((2 : Int) ≤ ((((Int.toNat ((((@Nts.n x) : Nat) : Int) + (3 : Int))) - (@Nts.n x)) : Nat) : Int))) ∧ ((((0 + (@Nts.n x)) + 1) < (Int.toNat ((((@Nts.n x) : Nat) : Int) + (3 : Int)))) ∧ ((I64 (2 : Int)) ∧ ((((0 : Int) ≤ (2 : Int)) ∧ ((3 : Int) ≤ ((((Int.toNat ((((@Nts.n x) : Nat) : Int) + (3 : Int))) - (@Nts.n x)) : Nat) : Int))) ∧ ((((0 + (@Nts.n x)) + 2) < (Int.toNat ((((@Nts.n x) : Nat) : Int) + (3 : Int)))) ∧
 ((I64 (3 : Int)) ∧ (∃ (y : Unit), (True ∧ (((0 = 0) ∧ (((@Nts.n x) = 0) ∧ (((@Nts.n x) + 3) = (Int.toNat ((((@Nts.n x) : Nat) : Int) + (3 : Int)))))) ∧ ((((@rowI (@Nts.g x) (@Nts.n x)) = (@rowI (@Nts.g x) (@Nts.n x))) ∧ (Bool.true = Bool.true)) ∧ (((((@Nts.n x) + 3) = (Int.toNat ((((@Nts.n x) : Nat) : Int) + (3 : Int)))) ∧ (∀ (q : Nat), ((q < ((@Nts.n x) + 3)) → ([(Value.int IntKind.i64 (@cond Int (@Nat.blt q (@Nts.n x)) (@Nts.g x q) (-(777 : Int))))] = (@Cs.eff (fun (x_1 : Nat) => [(Value.int IntKind.i64 (0 : Int))]) [(@Prod.mk Nat (@List Value) ((0 + (@Nts.n x)) + 2) [(Value.int IntKind.i64 (-(777 : Int)))]), (@Prod.mk Nat (@List Value) ((0 + (@Nts.n x)) + 1) [(Value.int IntKind.i64 (-(777 : Int)))]), (@Prod.mk Nat (@List Value) ((0 + (@Nts.n x)) + 0) [(Value.int IntKind.i64 (-(777 : Int)))])] q))))) ∧ True)))))))))))))))))) (cP (@Nat.ble (0 + (@Nts.n x)) (Int.toNat ((((@Nts.n x) : Nat) : Int) + (3 : Int)))) ((∀ (k : Nat), ((k < (@Nts.n x)) → ((@Bool.and (@Nat.beq (@List.length Value [(Value.int IntKind.i64 (@Nts.g x (0 + k)))]) 1) (@List.all Value [(Value.int IntKind.i64 (@Nts.g x (0 + k)))] @Value.oneCell')) = Bool.true))) ∧ (((0 + (0 + (@Nts.n x))) ≤ (Int.toNat ((((@Nts.n x) : Nat) : Int) + (3 : Int)))) ∧ ((I64 ((((@Nts.n x) : Nat) : Int) + (3 : Int))) ∧ (((0 : Int) ≤ ((((@Nts.n x) : Nat) : Int) + (3 : Int))) ∧ (((0 : Int) ≤ (((@Nts.n x) : Nat) : Int)) ∧ ((((@Nts.n x) ≤ (Int.toNat ((((@Nts.n x) : Nat) : Int) + (3 : Int)))) ∧ (((Int.toNat ((((@Nts.n x) : Nat) : Int) + (3 : Int))) ≤ (Int.toNat ((((@Nts.n x) : Nat) : Int) + (3 : Int)))) ∧
 ((Int.toNat ((((@Nts.n x) : Nat) : Int) + (3 : Int))) ≤ (Int.toNat ((((@Nts.n x) : Nat) : Int) + (3 : Int)))))) ∧ ((((0 : Int) ≤ (0 : Int)) ∧ ((1 : Int) ≤ ((((Int.toNat ((((@Nts.n x) : Nat) : Int) + (3 : Int))) - (@Nts.n x)) : Nat) : Int))) ∧ ((((0 + (@Nts.n x)) + 0) < (Int.toNat ((((@Nts.n x) : Nat) : Int) + (3 : Int)))) ∧ ((I64 (1 : Int)) ∧ ((((0 : Int) ≤ (1 : Int)) ∧ ((2 : Int) ≤ ((((Int.toNat ((((@Nts.n x) : Nat) : Int) + (3 : Int))) - (@Nts.n x)) : Nat) : Int))) ∧ ((((0 + (@Nts.n x)) + 1) < (Int.toNat ((((@Nts.n x) : Nat) : Int) + (3 : Int)))) ∧ ((I64 (2 : Int)) ∧ ((((0 : Int) ≤ (2 : Int)) ∧ ((3 : Int) ≤ ((((Int.toNat ((((@Nts.n x) : Nat) : Int) + (3 : Int))) - (@Nts.n x)) : Nat) : Int))) ∧ ((((0 + (@Nts.n x)) + 2) < (Int.toNat ((((@Nts.n x) : Nat) : Int) + (3 : Int)))) ∧ ((I64 (3 : Int)) ∧ (∃ (y : Unit), (True ∧ (((0 = 0) ∧ (((@Nts.n x) = (0 + (@Nts.n x))) ∧ (((@Nts.n x) + 3) = (Int.toNat ((((@Nts.n x) : Nat) : Int) + (3 : Int)))))) ∧ ((((@rowI (@Nts.g x) (@Nts.n x)) = (@rowI (@Nts.g x) (@Nts.n x))) ∧ (Bool.true = Bool.true)) ∧ (((((@Nts.n x) + 3) = (Int.toNat ((((@Nts.n x) : Nat) : Int) + (3 : Int)))) ∧ (∀ (q : Nat), ((q < ((@Nts.n x) + 3)) → ([(Value.int IntKind.i64 (@cond Int (@Nat.blt q (@Nts.n x)) (@Nts.g x q) (-(777 : Int))))] = (@Cs.eff (fun (p : Nat) => (@cond (@List Value) (@Bool.and (@Nat.ble 0 p) (@Nat.blt p (0 + (@Nts.n x)))) [(Value.int IntKind.i64 (@Nts.g x (0 + (p - 0))))] [(Value.int IntKind.i64 (0 : Int))])) [(@Prod.mk Nat (@List Value) ((0 + (@Nts.n x)) + 2) [(Value.int IntKind.i64 (-(777 : Int)))]), (@Prod.mk Nat (@List Value) ((0 + (@Nts.n x)) + 1) [(Value.int IntKind.i64 (-(777 : Int)))]), (@Prod.mk Nat (@List Value) ((0 + (@Nts.n x)) + 0) [(Value.int IntKind.i64 (-(777 : Int)))])] q))))) ∧
 True)))))))))))))))))))) (((((2 * (0 + (@Nts.n x))) + 1000) * 8) ≤ 281474976710656) ∧ ((I64 ((((@Nts.n x) : Nat) : Int) + (3 : Int))) ∧ (((0 : Int) ≤ ((((@Nts.n x) : Nat) : Int) + (3 : Int))) ∧ (((0 : Int) ≤ (((@Nts.n x) : Nat) : Int)) ∧ ((((@Nts.n x) ≤ (Int.toNat ((((@Nts.n x) : Nat) : Int) + (3 : Int)))) ∧ (((Int.toNat ((((@Nts.n x) : Nat) : Int) + (3 : Int))) ≤ (0 + (@Nts.n x))) ∧ ((0 + (@Nts.n x)) ≤ (0 + (@Nts.n x))))) ∧ ((((0 : Int) ≤ (0 : Int)) ∧ ((1 : Int) ≤ ((((Int.toNat ((((@Nts.n x) : Nat) : Int) + (3 : Int))) - (@Nts.n x)) : Nat) : Int))) ∧ ((((0 + (@Nts.n x)) + 0) < (0 + (@Nts.n x))) ∧ ((I64 (1 : Int)) ∧ ((((0 : Int) ≤ (1 : Int)) ∧ ((2 : Int) ≤ ((((Int.toNat ((((@Nts.n x) : Nat) : Int) + (3 : Int))) - (@Nts.n x)) : Nat) : Int))) ∧ ((((0 + (@Nts.n x)) + 1) < (0 + (@Nts.n x))) ∧ ((I64 (2 : Int)) ∧ ((((0 : Int) ≤ (2 : Int)) ∧ ((3 : Int) ≤ ((((Int.toNat ((((@Nts.n x) : Nat) : Int) + (3 : Int))) - (@Nts.n x)) : Nat) : Int))) ∧ ((((0 + (@Nts.n x)) + 2) < (0 + (@Nts.n x))) ∧ ((I64 (3 : Int)) ∧ (∃ (y : Unit), (True ∧ (False ∧ ((((@rowI (@Nts.g x) (@Nts.n x)) = (@rowI (@Nts.g x) (@Nts.n x))) ∧ (Bool.true = Bool.true)) ∧ (((((@Nts.n x) + 3) = (Int.toNat ((((@Nts.n x) : Nat) : Int) + (3 : Int)))) ∧ (∀ (q : Nat), ((q < ((@Nts.n x) + 3)) → ([(Value.int IntKind.i64 (@cond Int (@Nat.blt q (@Nts.n x)) (@Nts.g x q) (-(777 : Int))))] = [(Value.int IntKind.i64 (0 : Int))])))) ∧ True)))))))))))))))))))))))))
def keptVC_wp (x : Nts) : Prop := wpF Try.prog [] tt (anSame x) 200 5 27 (keptC.args x) (hO keptC.k (keptC.os x)) (fun v h' => endsP keptC.k x v h' keptC.outs)
def keptVC (x : Nts) : Prop :=
  ((I64 ((((@Nts.n x) : Nat) : Int) + (3 : Int))) ∧ (((0 : Int) ≤ ((((@Nts.n x) : Nat) : Int) + (3 : Int))) ∧ (((0 : Int) ≤ (((@Nts.n x) : Nat) : Int)) ∧ ((((@Nts.n x) ≤ (Int.toNat ((((@Nts.n x) : Nat) : Int) + (3 : Int)))) ∧ (((Int.toNat ((((@Nts.n x) : Nat) : Int) + (3 : Int))) ≤ ((@Nts.n x) + 3)) ∧ (((@Nts.n x) + 3) ≤ ((@Nts.n x) + 3)))) ∧ ((((0 : Int) ≤ (0 : Int)) ∧ ((1 : Int) ≤ ((((Int.toNat ((((@Nts.n x) : Nat) : Int) + (3 : Int))) - (@Nts.n x)) : Nat) : Int))) ∧ ((((0 + (@Nts.n x)) + 0) < ((@Nts.n x) + 3)) ∧ (cP (bne (@cond Int (@Nat.blt ((0 + (@Nts.n x)) + 0) (@Nts.n x)) (@Nts.g x ((0 + (@Nts.n x)) + 0)) (-(777 : Int))) (-(777 : Int))) (∃ (y : Unit), (True ∧ ((Bool.true = Bool.false) ∧ ((((@Cs.row 1 ((@Nts.n x) + 3) (@lentG (@Nts.g x) (@Nts.n x)) (@List.nil (@Prod Nat (@List Value)))) = (@Cs.row 1 ((@Nts.n x) + 3) (@lentG (@Nts.g x) (@Nts.n x)) (@List.nil (@Prod Nat (@List Value))))) ∧ (Bool.true = Bool.true)) ∧ ((((@rowI (@Nts.g x) (@Nts.n x)) = (@rowI (@Nts.g x) (@Nts.n x))) ∧ (Bool.true = Bool.true)) ∧ True))))) ((I64 (1 : Int)) ∧ ((((0 : Int) ≤ (1 : Int)) ∧ ((2 : Int) ≤ ((((Int.toNat ((((@Nts.n x) : Nat) : Int) + (3 : Int))) - (@Nts.n x)) : Nat) : Int))) ∧ ((((0 + (@Nts.n x)) + 1) < ((@Nts.n x) + 3)) ∧ (cP (bne (@cond Int (@Nat.blt ((0 + (@Nts.n x)) + 1) (@Nts.n x)) (@Nts.g x ((0 + (@Nts.n x)) + 1)) (-(777 : Int))) (-(777 : Int))) (∃ (y : Unit), (True ∧ ((Bool.true = Bool.false) ∧ ((((@Cs.row 1 ((@Nts.n x) + 3) (@lentG (@Nts.g x) (@Nts.n x)) (@List.nil (@Prod Nat (@List Value)))) = (@Cs.row 1 ((@Nts.n x) + 3) (@lentG (@Nts.g x) (@Nts.n x)) (@List.nil (@Prod Nat (@List Value))))) ∧
 (Bool.true = Bool.true)) ∧ ((((@rowI (@Nts.g x) (@Nts.n x)) = (@rowI (@Nts.g x) (@Nts.n x))) ∧ (Bool.true = Bool.true)) ∧ True))))) ((I64 (2 : Int)) ∧ ((((0 : Int) ≤ (2 : Int)) ∧ ((3 : Int) ≤ ((((Int.toNat ((((@Nts.n x) : Nat) : Int) + (3 : Int))) - (@Nts.n x)) : Nat) : Int))) ∧ ((((0 + (@Nts.n x)) + 2) < ((@Nts.n x) + 3)) ∧ (cP (bne (@cond Int (@Nat.blt ((0 + (@Nts.n x)) + 2) (@Nts.n x)) (@Nts.g x ((0 + (@Nts.n x)) + 2)) (-(777 : Int))) (-(777 : Int))) (∃ (y : Unit), (True ∧ ((Bool.true = Bool.false) ∧ ((((@Cs.row 1 ((@Nts.n x) + 3) (@lentG (@Nts.g x) (@Nts.n x)) (@List.nil (@Prod Nat (@List Value)))) = (@Cs.row 1 ((@Nts.n x) + 3) (@lentG (@Nts.g x) (@Nts.n x)) (@List.nil (@Prod Nat (@List Value))))) ∧ (Bool.true = Bool.true)) ∧ ((((@rowI (@Nts.g x) (@Nts.n x)) = (@rowI (@Nts.g x) (@Nts.n x))) ∧ (Bool.true = Bool.true)) ∧ True))))) ((I64 (3 : Int)) ∧ (cP (bne (((@Nts.n x) : Nat) : Int) (((@Nts.n x) : Nat) : Int)) (∃ (y : Unit), (True ∧ ((Bool.true = Bool.false) ∧ ((((@Cs.row 1 ((@Nts.n x) + 3) (@lentG (@Nts.g x) (@Nts.n x)) (@List.nil (@Prod Nat (@List Value)))) = (@Cs.row 1 ((@Nts.n x) + 3) (@lentG (@Nts.g x) (@Nts.n x)) (@List.nil (@Prod Nat (@List Value))))) ∧ (Bool.true = Bool.true)) ∧ ((((@rowI (@Nts.g x) (@Nts.n x)) = (@rowI (@Nts.g x) (@Nts.n x))) ∧ (Bool.true = Bool.true)) ∧ True))))) ((∃ (s : Nat), ((s ≤ (@Nts.n x)) ∧ (True ∧ (((((s : Nat) : Int) = (0 : Int)) ∧ True) ∧ ((((@rowI (@Nts.g x) (@Nts.n x)) = (@rowI (@Nts.g x) (@Nts.n x))) ∧ (Bool.true = Bool.true)) ∧ ((((@Cs.row 1 ((@Nts.n x) + 3) (@lentG (@Nts.g x) (@Nts.n x)) (@List.nil (@Prod Nat (@List Value)))) = (@Cs.row 1 ((@Nts.n x) + 3) (@lentG (@Nts.g x) (@Nts.n x)) (@List.nil (@Prod Nat (@List Value))))) ∧
 (Bool.true = Bool.true)) ∧ True)))))) ∧ ((∀ (s : Nat), ((s ≤ (@Nts.n x)) → (cP (decide (((s : Nat) : Int) < (((@Nts.n x) : Nat) : Int))) ((((0 : Int) ≤ ((s : Nat) : Int)) ∧ (((s : Nat) : Int) < (((@Nts.n x) : Nat) : Int))) ∧ (((0 + s) < ((@Nts.n x) + 3)) ∧ ((((0 : Int) ≤ ((s : Nat) : Int)) ∧ (((s : Nat) : Int) < (((@Nts.n x) : Nat) : Int))) ∧ (((0 + s) < (@Nts.n x)) ∧ (cP (bne (@cond Int (@Nat.blt (0 + s) (@Nts.n x)) (@Nts.g x (0 + s)) (-(777 : Int))) (@Nts.g x (0 + s))) (∃ (y : Unit), (True ∧ ((Bool.true = Bool.false) ∧ ((((@Cs.row 1 ((@Nts.n x) + 3) (@lentG (@Nts.g x) (@Nts.n x)) (@List.nil (@Prod Nat (@List Value)))) = (@Cs.row 1 ((@Nts.n x) + 3) (@lentG (@Nts.g x) (@Nts.n x)) (@List.nil (@Prod Nat (@List Value))))) ∧ (Bool.true = Bool.true)) ∧ ((((@rowI (@Nts.g x) (@Nts.n x)) = (@rowI (@Nts.g x) (@Nts.n x))) ∧ (Bool.true = Bool.true)) ∧ True))))) ((I64 (((s : Nat) : Int) + (1 : Int))) ∧ (∃ (s_1 : Nat), ((s_1 ≤ (@Nts.n x)) ∧ ((((@Nts.n x) - s_1) < ((@Nts.n x) - s)) ∧ (((((s_1 : Nat) : Int) = (((s : Nat) : Int) + (1 : Int))) ∧ True) ∧ ((((@rowI (@Nts.g x) (@Nts.n x)) = (@rowI (@Nts.g x) (@Nts.n x))) ∧ (Bool.true = Bool.true)) ∧ ((((@Cs.row 1 ((@Nts.n x) + 3) (@lentG (@Nts.g x) (@Nts.n x)) (@List.nil (@Prod Nat (@List Value)))) = (@Cs.row 1 ((@Nts.n x) + 3) (@lentG (@Nts.g x) (@Nts.n x)) (@List.nil (@Prod Nat (@List Value))))) ∧ (Bool.true = Bool.true)) ∧ True)))))))))))) (∃ (y : Unit), (True ∧ ((Bool.true = Bool.true) ∧ ((((@Cs.row 1 ((@Nts.n x) + 3) (@lentG (@Nts.g x) (@Nts.n x)) (@List.nil (@Prod Nat (@List Value)))) = (@Cs.row 1 ((@Nts.n x) + 3) (@lentG (@Nts.g x) (@Nts.n x)) (@List.nil (@Prod Nat (@List Value))))) ∧
 (Bool.true = Bool.true)) ∧ ((((@rowI (@Nts.g x) (@Nts.n x)) = (@rowI (@Nts.g x) (@Nts.n x))) ∧ (Bool.true = Bool.true)) ∧ True)))))))) ∧ True)))))))))))))))))))
def rslabsVC_wp (a : Int) : Prop := wpF Try.prog [] tt (anSlabs a) 200 5 60 (slabsC.args a) (hO slabsC.k (slabsC.os a)) (fun v h' => endsP slabsC.k a v h' slabsC.outs)
def rslabsVC (a : Int) : Prop :=
  ((∃ (s : Nat), (((s ≤ 32) ∧ ((s = 0) ∨ (((2 : Int) + ((8 : Int) * ((s : Nat) : Int))) ≤ a))) ∧ (True ∧ (((((s : Nat) : Int) = (0 : Int)) ∧ True) ∧ True)))) ∧ ((∀ (s : Nat), (((s ≤ 32) ∧ ((s = 0) ∨ (((2 : Int) + ((8 : Int) * ((s : Nat) : Int))) ≤ a))) → (cP (decide (((s : Nat) : Int) < (32 : Int))) ((I64 (((s : Nat) : Int) + (1 : Int))) ∧ ((I64 ((8 : Int) * (((s : Nat) : Int) + (1 : Int)))) ∧ ((I64 ((2 : Int) + ((8 : Int) * (((s : Nat) : Int) + (1 : Int))))) ∧ (cP (decide (((2 : Int) + ((8 : Int) * (((s : Nat) : Int) + (1 : Int)))) ≤ a)) ((I64 (((s : Nat) : Int) + (1 : Int))) ∧ (∃ (s_1 : Nat), (((s_1 ≤ 32) ∧ ((s_1 = 0) ∨ (((2 : Int) + ((8 : Int) * ((s_1 : Nat) : Int))) ≤ a))) ∧ (((32 - s_1) < (32 - s)) ∧ (((((s_1 : Nat) : Int) = (((s : Nat) : Int) + (1 : Int))) ∧ True) ∧ True))))) (∃ (y : Unit), (True ∧ (((@slabsM a) = ((s : Nat) : Int)) ∧ True))))))) (∃ (y : Unit), (True ∧ (((@slabsM a) = ((s : Nat) : Int)) ∧ True)))))) ∧ True))
def slabsVC_wp (a : Int) : Prop := wpF Try.prog [] tt (fun _ _ _ _ => []) 200 5 59 (slabsC.args a) (hO slabsC.k (slabsC.os a)) (fun v h' => endsP slabsC.k a v h' slabsC.outs)
def slabsVC (a : Int) : Prop :=
  (cP (decide (a < (10 : Int))) (∃ (y : Unit), (True ∧ (((@slabsM a) = (0 : Int)) ∧ True))) ((I64 ((imin a (258 : Int)) - (2 : Int))) ∧ ((((8 : Int) = (0 : Int)) → False) ∧ ((I64 (@Int.tdiv ((imin a (258 : Int)) - (2 : Int)) (8 : Int))) ∧ (∃ (y : Unit), (True ∧ (((@slabsM a) = (@Int.tdiv ((imin a (258 : Int)) - (2 : Int)) (8 : Int))) ∧ True)))))))
end Go.Proofs.Ytjndgegfonhhfaa
end
section
/- Costs and their sums. -/
namespace Go.Proofs.Ytjndgegfonhhfaa
open Go SE
/-- A cost. -/
structure Cst where
  s0 : Int
  s1 : Int
  s2 : Int
  s3 : Int
  s4 : Int
  s5 : Int
deriving DecidableEq
namespace Cst
def cells (x : Cst) : List Value := [.int .i64 x.s0, .int .i64 x.s1, .int .i64 x.s2, .int .i64 x.s3, .int .i64 x.s4, .int .i64 x.s5]
def avs (x : Cst) : List AV := [i64 x.s0, i64 x.s1, i64 x.s2, i64 x.s3, i64 x.s4, i64 x.s5]
def av (x : Cst) : AV := .agg x.avs
def zero : Cst := ⟨0, 0, 0, 0, 0, 0⟩
def maxCost : Int := 1099511627776
def heldM (a b : Int) : Int := a + imin (imax b 0) (maxCost - a)
def add (x y : Cst) : Cst := ⟨heldM x.s0 y.s0, heldM x.s1 y.s1, heldM x.s2 y.s2, heldM x.s3 y.s3, heldM x.s4 y.s4, heldM x.s5 y.s5⟩
def sum (c : Nat → Cst) : Nat → Cst
  | 0 => zero
  | i + 1 => add (sum c i) (c i)
def okI (a : Int) : Prop := 0 ≤ a ∧ a ≤ maxCost
def ok (x : Cst) : Prop := okI x.s0 ∧ okI x.s1 ∧ okI x.s2 ∧ okI x.s3 ∧ okI x.s4 ∧ okI x.s5
end Cst
def rowC (c : Nat → Cst) (n : Nat) : Cs := .row 6 n (fun k => (c k).cells) []
def anSum (c : Nat → Cst) (n : Nat) : FuncId → Anns := fun g => bif Nat.beq g 15 then (fun b fr h => bif Nat.beq b 0 then [{ σ := Nat, fr := fun i => [(8, i64 i)], ob := fun i => [(2, some (.cells 33 (.av (Cst.sum c i).avs)))], inv := fun i => i ≤ n, meas := fun i => n - i }] else []) else fun _ _ _ => []
def anRefSum (c : Nat → Cst) (n : Nat) : FuncId → Anns := fun g => bif Nat.beq g 21 then (fun b fr h => bif Nat.beq b 0 then [{ σ := Nat, fr := fun i => [(4, i64 i)], ob := fun i => [(2, some (.cells 33 (.av (Cst.sum c i).avs)))], inv := fun i => i ≤ n, meas := fun i => n - i }] else []) else fun _ _ _ => []
end Go.Proofs.Ytjndgegfonhhfaa
end
section
/- What is asked of a sum. -/
namespace Go.Proofs.Ytjndgegfonhhfaa
open Go SE
def sumVC_wp (c : Nat → Cst) (n : Nat) (r : Cst) : Prop := wpF Try.prog [] tt (anSum c n) 200 5 15 [.slR 0 0 6 n] (hO 1 [.ro (rowC c n)]) (fun v h' => endP 1 r.av [.ro (rowC c n)] v h')
def sumVC (c : Nat → Cst) (n : Nat) (r : Cst) : Prop :=
  ((∃ (s : Nat), ((s ≤ n) ∧ (True ∧ (((((s : Nat) : Int) = (0 : Int)) ∧ True) ∧ ((((@Cst.s0 (@Cst.sum c s)) = (0 : Int)) ∧ (((@Cst.s1 (@Cst.sum c s)) = (0 : Int)) ∧ (((@Cst.s2 (@Cst.sum c s)) = (0 : Int)) ∧ (((@Cst.s3 (@Cst.sum c s)) = (0 : Int)) ∧ (((@Cst.s4 (@Cst.sum c s)) = (0 : Int)) ∧ (((@Cst.s5 (@Cst.sum c s)) = (0 : Int)) ∧ True)))))) ∧ ((((0 : Int) = (0 : Int)) ∧ (((0 : Int) = (0 : Int)) ∧ (((0 : Int) = (0 : Int)) ∧ (((0 : Int) = (0 : Int)) ∧ (((0 : Int) = (0 : Int)) ∧ (((0 : Int) = (0 : Int)) ∧ True)))))) ∧ ((((@rowC c n) = (@rowC c n)) ∧ (Bool.true = Bool.true)) ∧ True))))))) ∧ ((∀ (s : Nat), ((s ≤ n) → (cP (decide (((s : Nat) : Int) < ((n : Nat) : Int))) ((((0 : Int) ≤ ((s : Nat) : Int)) ∧ (((s : Nat) : Int) < ((n : Nat) : Int))) ∧ (((0 + s) < n) ∧ (cP (@Bool.and (BEq.beq (@Cst.s0 (c (0 + s))) (0 : Int)) (@Bool.and (BEq.beq (@Cst.s1 (c (0 + s))) (0 : Int)) (@Bool.and (BEq.beq (@Cst.s2 (c (0 + s))) (0 : Int)) (@Bool.and (BEq.beq (@Cst.s3 (c (0 + s))) (0 : Int)) (@Bool.and (BEq.beq (@Cst.s4 (c (0 + s))) (0 : Int)) (@Bool.and (BEq.beq (@Cst.s5 (c (0 + s))) (0 : Int)) Bool.true)))))) ((I64 (((s : Nat) : Int) + (1 : Int))) ∧ (∃ (s_1 : Nat), ((s_1 ≤ n) ∧ (((n - s_1) < (n - s)) ∧ (((((s_1 : Nat) : Int) = (((s : Nat) : Int) + (1 : Int))) ∧ True) ∧ ((((@Cst.s0 (@Cst.sum c s_1)) = (@Cst.s0 (@Cst.sum c s))) ∧ (((@Cst.s1 (@Cst.sum c s_1)) = (@Cst.s1 (@Cst.sum c s))) ∧ (((@Cst.s2 (@Cst.sum c s_1)) = (@Cst.s2 (@Cst.sum c s))) ∧ (((@Cst.s3 (@Cst.sum c s_1)) = (@Cst.s3 (@Cst.sum c s))) ∧
 (((@Cst.s4 (@Cst.sum c s_1)) = (@Cst.s4 (@Cst.sum c s))) ∧ (((@Cst.s5 (@Cst.sum c s_1)) = (@Cst.s5 (@Cst.sum c s))) ∧ True)))))) ∧ ((((0 : Int) = (0 : Int)) ∧ (((0 : Int) = (0 : Int)) ∧ (((0 : Int) = (0 : Int)) ∧ (((0 : Int) = (0 : Int)) ∧ (((0 : Int) = (0 : Int)) ∧ (((0 : Int) = (0 : Int)) ∧ True)))))) ∧ ((((@rowC c n) = (@rowC c n)) ∧ (Bool.true = Bool.true)) ∧ True)))))))) ((I64 ((1099511627776 : Int) - (@Cst.s0 (@Cst.sum c s)))) ∧ ((I64 ((@Cst.s0 (@Cst.sum c s)) + (imin (@imax (@Cst.s0 (c (0 + s))) (0 : Int)) ((1099511627776 : Int) - (@Cst.s0 (@Cst.sum c s)))))) ∧ ((((AV.lit (Value.int IntKind.i64 (@Cst.s2 (c (0 + s))))) = (AV.lit (Value.int IntKind.i64 (@Cst.s2 (c (0 + s)))))) ∧ (((AV.lit (Value.int IntKind.i64 (@Cst.s2 (@Cst.sum c s)))) = (AV.lit (Value.int IntKind.i64 (@Cst.s2 (@Cst.sum c s))))) ∧ (((AV.lit (Value.int IntKind.i64 (@Cst.s1 (c (0 + s))))) = (AV.lit (Value.int IntKind.i64 (@Cst.s1 (c (0 + s)))))) ∧ (((AV.lit (Value.int IntKind.i64 (@Cst.s1 (@Cst.sum c s)))) = (AV.lit (Value.int IntKind.i64 (@Cst.s1 (@Cst.sum c s))))) ∧ True)))) ∧ ((I64 ((1099511627776 : Int) - (@Cst.s1 (@Cst.sum c s)))) ∧ ((I64 ((@Cst.s1 (@Cst.sum c s)) + (imin (@imax (@Cst.s1 (c (0 + s))) (0 : Int)) ((1099511627776 : Int) - (@Cst.s1 (@Cst.sum c s)))))) ∧ ((((AV.lit (Value.int IntKind.i64 (@Cst.s2 (c (0 + s))))) = (AV.lit (Value.int IntKind.i64 (@Cst.s2 (c (0 + s)))))) ∧ (((AV.lit (Value.int IntKind.i64 (@Cst.s2 (@Cst.sum c s)))) = (AV.lit (Value.int IntKind.i64 (@Cst.s2 (@Cst.sum c s))))) ∧
 True)) ∧ ((I64 ((1099511627776 : Int) - (@Cst.s2 (@Cst.sum c s)))) ∧ ((I64 ((@Cst.s2 (@Cst.sum c s)) + (imin (@imax (@Cst.s2 (c (0 + s))) (0 : Int)) ((1099511627776 : Int) - (@Cst.s2 (@Cst.sum c s)))))) ∧ (True ∧ (True ∧ (True ∧ (True ∧ ((I64 ((1099511627776 : Int) - (@Cst.s3 (@Cst.sum c s)))) ∧ ((I64 ((@Cst.s3 (@Cst.sum c s)) + (imin (@imax (@Cst.s3 (c (0 + s))) (0 : Int)) ((1099511627776 : Int) - (@Cst.s3 (@Cst.sum c s)))))) ∧ ((((AV.lit (Value.int IntKind.i64 (@Cst.s5 (c (0 + s))))) = (AV.lit (Value.int IntKind.i64 (@Cst.s5 (c (0 + s)))))) ∧ (((AV.lit (Value.int IntKind.i64 (@Cst.s5 (@Cst.sum c s)))) = (AV.lit (Value.int IntKind.i64 (@Cst.s5 (@Cst.sum c s))))) ∧ (((AV.lit (Value.int IntKind.i64 (@Cst.s4 (c (0 + s))))) = (AV.lit (Value.int IntKind.i64 (@Cst.s4 (c (0 + s)))))) ∧ (((AV.lit (Value.int IntKind.i64 (@Cst.s4 (@Cst.sum c s)))) = (AV.lit (Value.int IntKind.i64 (@Cst.s4 (@Cst.sum c s))))) ∧ True)))) ∧ ((I64 ((1099511627776 : Int) - (@Cst.s4 (@Cst.sum c s)))) ∧ ((I64 ((@Cst.s4 (@Cst.sum c s)) + (imin (@imax (@Cst.s4 (c (0 + s))) (0 : Int)) ((1099511627776 : Int) - (@Cst.s4 (@Cst.sum c s)))))) ∧ ((((AV.lit (Value.int IntKind.i64 (@Cst.s5 (c (0 + s))))) = (AV.lit (Value.int IntKind.i64 (@Cst.s5 (c (0 + s)))))) ∧ (((AV.lit (Value.int IntKind.i64 (@Cst.s5 (@Cst.sum c s)))) = (AV.lit (Value.int IntKind.i64 (@Cst.s5 (@Cst.sum c s))))) ∧ True)) ∧ ((I64 ((1099511627776 : Int) - (@Cst.s5 (@Cst.sum c s)))) ∧ ((I64 ((@Cst.s5 (@Cst.sum c s)) + (imin (@imax (@Cst.s5 (c (0 + s))) (0 : Int)) ((1099511627776 : Int) - (@Cst.s5 (@Cst.sum c s)))))) ∧
 (True ∧ (True ∧ (True ∧ (True ∧ ((I64 (((s : Nat) : Int) + (1 : Int))) ∧ (∃ (s_1 : Nat), ((s_1 ≤ n) ∧ (((n - s_1) < (n - s)) ∧ (((((s_1 : Nat) : Int) = (((s : Nat) : Int) + (1 : Int))) ∧ True) ∧ ((((@Cst.s0 (@Cst.sum c s_1)) = ((@Cst.s0 (@Cst.sum c s)) + (imin (@imax (@Cst.s0 (c (0 + s))) (0 : Int)) ((1099511627776 : Int) - (@Cst.s0 (@Cst.sum c s)))))) ∧ (((@Cst.s1 (@Cst.sum c s_1)) = ((@Cst.s1 (@Cst.sum c s)) + (imin (@imax (@Cst.s1 (c (0 + s))) (0 : Int)) ((1099511627776 : Int) - (@Cst.s1 (@Cst.sum c s)))))) ∧ (((@Cst.s2 (@Cst.sum c s_1)) = ((@Cst.s2 (@Cst.sum c s)) + (imin (@imax (@Cst.s2 (c (0 + s))) (0 : Int)) ((1099511627776 : Int) - (@Cst.s2 (@Cst.sum c s)))))) ∧ (((@Cst.s3 (@Cst.sum c s_1)) = ((@Cst.s3 (@Cst.sum c s)) + (imin (@imax (@Cst.s3 (c (0 + s))) (0 : Int)) ((1099511627776 : Int) - (@Cst.s3 (@Cst.sum c s)))))) ∧ (((@Cst.s4 (@Cst.sum c s_1)) = ((@Cst.s4 (@Cst.sum c s)) + (imin (@imax (@Cst.s4 (c (0 + s))) (0 : Int)) ((1099511627776 : Int) - (@Cst.s4 (@Cst.sum c s)))))) ∧ (((@Cst.s5 (@Cst.sum c s_1)) = ((@Cst.s5 (@Cst.sum c s)) + (imin (@imax (@Cst.s5 (c (0 + s))) (0 : Int)) ((1099511627776 : Int) - (@Cst.s5 (@Cst.sum c s)))))) ∧ True)))))) ∧ ((((0 : Int) = (0 : Int)) ∧ (((0 : Int) = (0 : Int)) ∧ (((0 : Int) = (0 : Int)) ∧ (((0 : Int) = (0 : Int)) ∧ (((0 : Int) = (0 : Int)) ∧ (((0 : Int) = (0 : Int)) ∧ True)))))) ∧ ((((@rowC c n) = (@rowC c n)) ∧ (Bool.true = Bool.true)) ∧ True))))))))))))))))))))))))))))))))))) (((r.s0 = (@Cst.s0 (@Cst.sum c s))) ∧ ((r.s1 = (@Cst.s1 (@Cst.sum c s))) ∧
 ((r.s2 = (@Cst.s2 (@Cst.sum c s))) ∧ ((r.s3 = (@Cst.s3 (@Cst.sum c s))) ∧ ((r.s4 = (@Cst.s4 (@Cst.sum c s))) ∧ ((r.s5 = (@Cst.s5 (@Cst.sum c s))) ∧ True)))))) ∧ ((((@rowC c n) = (@rowC c n)) ∧ (Bool.true = Bool.true)) ∧ True))))) ∧ True))
end Go.Proofs.Ytjndgegfonhhfaa
end
section
/- Sums. -/
namespace Go.Proofs.Ytjndgegfonhhfaa
open Go SE
namespace Cst
theorem held_ok {a b : Int} (h : okI a) : okI (heldM a b) := by unfold okI heldM maxCost imin imax at *; grind
theorem held_zero {a : Int} (h : okI a) : heldM a 0 = a := by unfold okI heldM maxCost imin imax at *; grind
theorem add_ok {x y : Cst} (h : x.ok) : (add x y).ok := by
  obtain ⟨h0, h1, h2, h3, h4, h5⟩ := h
  exact ⟨held_ok h0, held_ok h1, held_ok h2, held_ok h3, held_ok h4, held_ok h5⟩
theorem add_zero {x y : Cst} (h : x.ok) (h0 : y.s0 = 0) (h1 : y.s1 = 0) (h2 : y.s2 = 0) (h3 : y.s3 = 0) (h4 : y.s4 = 0) (h5 : y.s5 = 0) : add x y = x := by
  obtain ⟨k0, k1, k2, k3, k4, k5⟩ := h
  simp only [add, h0, h1, h2, h3, h4, h5, held_zero k0, held_zero k1, held_zero k2, held_zero k3, held_zero k4, held_zero k5]
end Cst
end Go.Proofs.Ytjndgegfonhhfaa
end
section
/- A program that is awake. -/
namespace Go.Proofs.Ytjndgegfonhhfaa
open Go SE
def awakeVC_wp  : Prop := wpF Try.prog [] tt (fun _ _ _ _ => []) 400 20 11 [] (hO 0 []) (fun v h' => endP 0 (.lit (.bool true)) [] v h')
def awakeVC_1  : Prop := ((AV.lit (Value.int IntKind.i64 (0 : Int))) = (AV.lit (Value.int IntKind.i64 (0 : Int))))
def awakeVC_2  : Prop := ((I64 (1099511627776 : Int)) ∧ ((I64 (0 : Int)) ∧ (True ∧ (True ∧ (True ∧ (True ∧ ((I64 (2 : Int)) ∧ ((((0 : Int) ≤ (0 : Int)) ∧ ((0 : Int) ≤ (2 : Int))) ∧ ((((0 : Int) ≤ (5 : Int)) ∧ ((0 : Int) ≤ (252 : Int))) ∧ ((5 < 258) ∧ ((((0 : Int) ≤ (5 : Int)) ∧ ((0 : Int) ≤ (252 : Int))) ∧ ((5 < 258) ∧ ((I64 (1 : Int)) ∧ ((I64 (1 : Int)) ∧ ((((0 : Int) ≤ (1 : Int)) ∧ ((0 : Int) ≤ (1 : Int))) ∧ ((((0 : Int) ≤ (3 : Int)) ∧ ((0 : Int) ≤ (254 : Int))) ∧ ((3 < 258) ∧ ((((0 : Int) ≤ (3 : Int)) ∧ ((0 : Int) ≤ (254 : Int))) ∧ ((3 < 258) ∧ ((I64 (2 : Int)) ∧ ((I64 (2 : Int)) ∧ ((((0 : Int) ≤ (2 : Int)) ∧ ((0 : Int) ≤ (0 : Int))) ∧ ((((0 : Int) ≤ (5 : Int)) ∧ ((0 : Int) ≤ (252 : Int))) ∧ ((5 < 258) ∧ ((I64 (3 : Int)) ∧ ((I64 (6 : Int)) ∧ ((I64 (3 : Int)) ∧ ((Bool.true = Bool.true) ∧ True))))))))))))))))))))))))))))
def awakeVC_3  : Prop := ((AV.lit (Value.int IntKind.i64 (2 : Int))) = (AV.lit (Value.int IntKind.i64 (2 : Int))))
def awakeVC_4  : Prop := ((AV.lit (Value.int IntKind.i64 (1 : Int))) = (AV.lit (Value.int IntKind.i64 (1 : Int))))
def awakeVC_8  : Prop := ((AV.lit (Value.string (@ByteArray.mk (@List.toArray UInt8 [(97 : UInt8)])))) = (AV.lit (Value.string (@ByteArray.mk (@List.toArray UInt8 [(97 : UInt8)])))))
def awakeVC_9  : Prop := ((AV.agg [(AV.lit (Value.slice none 0 0)), (AV.lit (Value.slice none 0 0))]) = (AV.agg [(AV.lit (Value.slice none 0 0)), (AV.lit (Value.slice none 0 0))]))
def awakeVC_5  : Prop := ((awakeVC_8 ) ∧ ((awakeVC_9 ) ∧ True))
def awakeVC_6  : Prop := (((0 : Int) ≤ (0 : Int)) ∧ ((0 : Int) ≤ (1 : Int)))
def awakeVC_11  : Prop := ((awakeVC_1 ) ∧ ((awakeVC_1 ) ∧ True))
def awakeVC_12  : Prop := ((awakeVC_1 ) ∧ ((awakeVC_1 ) ∧ ((awakeVC_3 ) ∧ ((awakeVC_1 ) ∧ True))))
def awakeVC_13  : Prop := ((awakeVC_1 ) ∧ ((awakeVC_1 ) ∧ ((awakeVC_4 ) ∧ ((awakeVC_1 ) ∧ True))))
def awakeVC_10  : Prop := (True ∧ (True ∧ ((awakeVC_6 ) ∧ ((I64 (1099511627776 : Int)) ∧ ((I64 (3 : Int)) ∧ (((awakeVC_1 ) ∧ ((awakeVC_1 ) ∧ (awakeVC_11 ))) ∧ ((I64 (1099511627776 : Int)) ∧ ((I64 (0 : Int)) ∧ ((awakeVC_11 ) ∧ ((I64 (1099511627776 : Int)) ∧ ((I64 (0 : Int)) ∧ (True ∧ (True ∧ (True ∧ (True ∧ ((I64 (1099511627776 : Int)) ∧ ((I64 (0 : Int)) ∧ (((awakeVC_1 ) ∧ ((awakeVC_1 ) ∧ (awakeVC_11 ))) ∧ ((I64 (1099511627776 : Int)) ∧ ((I64 (0 : Int)) ∧ ((awakeVC_11 ) ∧ ((I64 (1099511627776 : Int)) ∧ ((I64 (0 : Int)) ∧ (True ∧ (True ∧ (True ∧ (True ∧ ((I64 (1 : Int)) ∧ ((((0 : Int) ≤ (1 : Int)) ∧ ((0 : Int) ≤ (0 : Int))) ∧ ((I64 (1099511627773 : Int)) ∧ ((I64 (6 : Int)) ∧ ((awakeVC_12 ) ∧ ((I64 (1099511627776 : Int)) ∧ ((I64 (2 : Int)) ∧ ((awakeVC_11 ) ∧ ((I64 (1099511627776 : Int)) ∧ ((I64 (0 : Int)) ∧ (True ∧ (True ∧ (True ∧ (True ∧ ((I64 (1099511627776 : Int)) ∧ ((I64 (0 : Int)) ∧ ((awakeVC_13 ) ∧ ((I64 (1099511627776 : Int)) ∧ ((I64 (1 : Int)) ∧ ((awakeVC_11 ) ∧ (awakeVC_2 ))))))))))))))))))))))))))))))))))))))))))))))))
def awakeVC_7  : Prop := (True ∧ ((awakeVC_6 ) ∧ ((I64 (1099511627776 : Int)) ∧ ((I64 (2 : Int)) ∧ ((awakeVC_12 ) ∧ ((I64 (1099511627776 : Int)) ∧ ((I64 (2 : Int)) ∧ ((awakeVC_11 ) ∧ ((I64 (1099511627776 : Int)) ∧ ((I64 (0 : Int)) ∧ (True ∧ (True ∧ (True ∧ (True ∧ ((I64 (1099511627776 : Int)) ∧ ((I64 (0 : Int)) ∧ ((awakeVC_13 ) ∧ ((I64 (1099511627776 : Int)) ∧ ((I64 (1 : Int)) ∧ ((awakeVC_11 ) ∧ ((I64 (1099511627776 : Int)) ∧ ((I64 (0 : Int)) ∧ (True ∧ (True ∧ (True ∧ (True ∧ ((I64 (1 : Int)) ∧ ((((0 : Int) ≤ (1 : Int)) ∧ ((0 : Int) ≤ (0 : Int))) ∧ ((I64 (1099511627774 : Int)) ∧ ((I64 (3 : Int)) ∧ (((awakeVC_1 ) ∧ ((awakeVC_1 ) ∧ ((awakeVC_1 ) ∧ ((awakeVC_3 ) ∧ True)))) ∧ ((I64 (1099511627774 : Int)) ∧ ((I64 (2 : Int)) ∧ ((awakeVC_11 ) ∧ ((I64 (1099511627776 : Int)) ∧ ((I64 (0 : Int)) ∧ (True ∧ (True ∧ (True ∧ (True ∧ ((I64 (1099511627776 : Int)) ∧ ((I64 (0 : Int)) ∧ (((awakeVC_1 ) ∧ ((awakeVC_1 ) ∧ ((awakeVC_1 ) ∧ ((awakeVC_4 ) ∧ True)))) ∧ ((I64 (1099511627775 : Int)) ∧ ((I64 (1 : Int)) ∧ ((awakeVC_11 ) ∧ ((I64 (1099511627776 : Int)) ∧ ((I64 (0 : Int)) ∧ (True ∧ (True ∧ (True ∧ (True ∧ ((I64 (2 : Int)) ∧ (awakeVC_10 ))))))))))))))))))))))))))))))))))))))))))))))))))))))
def awakeVC  : Prop :=
  ((I64 (2 : Int)) ∧ ((((0 : Int) ≤ (0 : Int)) ∧ ((I64 (0 : Int)) ∧ ((I64 (0 : Int)) ∧ ((I64 (28 : Int)) ∧ (((0 : Int) ≤ (0 : Int)) ∧ ((I64 (2 : Int)) ∧ ((I64 (2 : Int)) ∧ ((awakeVC_5 ) ∧ ((True ∧ ((True ∧ (((awakeVC_6 ) ∧ ((I64 (1099511627776 : Int)) ∧ ((I64 (2 : Int)) ∧ ((awakeVC_12 ) ∧ ((I64 (1099511627776 : Int)) ∧ ((I64 (2 : Int)) ∧ ((awakeVC_11 ) ∧ ((I64 (1099511627776 : Int)) ∧ ((I64 (0 : Int)) ∧ (True ∧ (True ∧ (True ∧ (True ∧ ((I64 (1099511627776 : Int)) ∧ ((I64 (0 : Int)) ∧ ((awakeVC_13 ) ∧ ((I64 (1099511627776 : Int)) ∧ ((I64 (1 : Int)) ∧ ((awakeVC_11 ) ∧ ((I64 (1099511627776 : Int)) ∧ ((I64 (0 : Int)) ∧ (True ∧ (True ∧ (True ∧ (True ∧ ((I64 (1 : Int)) ∧ ((((0 : Int) ≤ (1 : Int)) ∧ ((0 : Int) ≤ (0 : Int))) ∧ ((I64 (1099511627774 : Int)) ∧ ((I64 (3 : Int)) ∧ (((awakeVC_1 ) ∧ ((awakeVC_1 ) ∧ ((awakeVC_1 ) ∧ ((awakeVC_3 ) ∧ True)))) ∧ ((I64 (1099511627774 : Int)) ∧ ((I64 (2 : Int)) ∧ ((awakeVC_11 ) ∧ ((I64 (1099511627776 : Int)) ∧ ((I64 (0 : Int)) ∧ (True ∧ (True ∧ (True ∧ (True ∧ ((I64 (1099511627776 : Int)) ∧ ((I64 (0 : Int)) ∧ (((awakeVC_1 ) ∧ ((awakeVC_1 ) ∧ ((awakeVC_1 ) ∧ ((awakeVC_4 ) ∧ True)))) ∧ ((I64 (1099511627775 : Int)) ∧ ((I64 (1 : Int)) ∧ ((awakeVC_11 ) ∧ ((I64 (1099511627776 : Int)) ∧ ((I64 (0 : Int)) ∧ (True ∧ (True ∧ (True ∧ (True ∧ ((I64 (2 : Int)) ∧ (True ∧ (awakeVC_10 )))))))))))))))))))))))))))))))))))))))))))))))))))))) ∧ (awakeVC_7 ))) ∧ (True ∧ (awakeVC_7 )))) ∧ ((awakeVC_5 ) ∧ (True ∧ (awakeVC_7 )))))))))))) ∧ (((awakeVC_8 ) ∧ ((awakeVC_9 ) ∧ (((AV.lit (Value.string (@ByteArray.mk (@List.toArray UInt8 [(49 : UInt8)])))) = (AV.lit (Value.string (@ByteArray.mk (@List.toArray UInt8 [(49 : UInt8)]))))) ∧
 ((awakeVC_8 ) ∧ True)))) ∧ (((0 : Int) ≤ (0 : Int)) ∧ ((I64 (0 : Int)) ∧ ((I64 (0 : Int)) ∧ ((I64 (28 : Int)) ∧ (((0 : Int) ≤ (0 : Int)) ∧ ((I64 (2 : Int)) ∧ ((I64 (2 : Int)) ∧ ((awakeVC_5 ) ∧ (True ∧ (awakeVC_7 )))))))))))))
theorem awakeVC_ok  : awakeVC  = awakeVC_wp  := by kernel_rfl
def refBetweenVC_wp (a0 a1 a2 a3 a4 b0 b1 b2 b3 b4 : Int) (r : Cst) : Prop := wpF Try.prog [] tt (fun _ _ _ _ => []) 200 5 20 [.agg [i64 a0, i64 a1, i64 a2, i64 a3, i64 a4], .agg [i64 b0, i64 b1, i64 b2, i64 b3, i64 b4]] (hO 0 []) (fun v h' => endP 0 r.av [] v h')
def refBetweenVC (a0 a1 a2 a3 a4 b0 b1 b2 b3 b4 : Int) (r : Cst) : Prop :=
  ((I64 ((@imax (0 : Int) b0) - (@imax (0 : Int) a0))) ∧ ((((AV.lit (Value.int IntKind.i64 b2)) = (AV.lit (Value.int IntKind.i64 b2))) ∧ (((AV.lit (Value.int IntKind.i64 a2)) = (AV.lit (Value.int IntKind.i64 a2))) ∧ (((AV.lit (Value.int IntKind.i64 b1)) = (AV.lit (Value.int IntKind.i64 b1))) ∧ (((AV.lit (Value.int IntKind.i64 a1)) = (AV.lit (Value.int IntKind.i64 a1))) ∧ True)))) ∧ ((I64 ((@imax (0 : Int) b1) - (@imax (0 : Int) a1))) ∧ ((((AV.lit (Value.int IntKind.i64 b2)) = (AV.lit (Value.int IntKind.i64 b2))) ∧ (((AV.lit (Value.int IntKind.i64 a2)) = (AV.lit (Value.int IntKind.i64 a2))) ∧ True)) ∧ ((I64 ((@imax (0 : Int) b2) - (@imax (0 : Int) a2))) ∧ (True ∧ (True ∧ (((r.s0 = (0 : Int)) ∧ ((r.s1 = (@imax (0 : Int) ((@imax (0 : Int) b0) - (@imax (0 : Int) a0)))) ∧ ((r.s2 = (@imax (0 : Int) ((@imax (0 : Int) b1) - (@imax (0 : Int) a1)))) ∧ ((r.s3 = (@imax (0 : Int) ((@imax (0 : Int) b2) - (@imax (0 : Int) a2)))) ∧ ((r.s4 = (0 : Int)) ∧ ((r.s5 = (0 : Int)) ∧ True)))))) ∧ True))))))))
def betweenVC_wp (a0 a1 a2 a3 a4 b0 b1 b2 b3 b4 : Int) (r : Cst) : Prop := wpF Try.prog [] tt (fun _ _ _ _ => []) 200 5 19 [.agg [i64 a0, i64 a1, i64 a2, i64 a3, i64 a4], .agg [i64 b0, i64 b1, i64 b2, i64 b3, i64 b4]] (hO 0 []) (fun v h' => endP 0 r.av [] v h')
def betweenVC (a0 a1 a2 a3 a4 b0 b1 b2 b3 b4 : Int) (r : Cst) : Prop :=
  ((I64 ((@imax b0 (0 : Int)) - (@imax a0 (0 : Int)))) ∧ ((((AV.lit (Value.int IntKind.i64 a2)) = (AV.lit (Value.int IntKind.i64 a2))) ∧ (((AV.lit (Value.int IntKind.i64 b2)) = (AV.lit (Value.int IntKind.i64 b2))) ∧ (((AV.lit (Value.int IntKind.i64 a1)) = (AV.lit (Value.int IntKind.i64 a1))) ∧ (((AV.lit (Value.int IntKind.i64 b1)) = (AV.lit (Value.int IntKind.i64 b1))) ∧ True)))) ∧ ((I64 ((@imax b1 (0 : Int)) - (@imax a1 (0 : Int)))) ∧ ((((AV.lit (Value.int IntKind.i64 a2)) = (AV.lit (Value.int IntKind.i64 a2))) ∧ (((AV.lit (Value.int IntKind.i64 b2)) = (AV.lit (Value.int IntKind.i64 b2))) ∧ True)) ∧ ((I64 ((@imax b2 (0 : Int)) - (@imax a2 (0 : Int)))) ∧ (True ∧ (True ∧ (((r.s0 = (0 : Int)) ∧ ((r.s1 = (@imax ((@imax b0 (0 : Int)) - (@imax a0 (0 : Int))) (0 : Int))) ∧ ((r.s2 = (@imax ((@imax b1 (0 : Int)) - (@imax a1 (0 : Int))) (0 : Int))) ∧ ((r.s3 = (@imax ((@imax b2 (0 : Int)) - (@imax a2 (0 : Int))) (0 : Int))) ∧ ((r.s4 = (0 : Int)) ∧ ((r.s5 = (0 : Int)) ∧ True)))))) ∧ True))))))))
def refSumVC_wp (c : Nat → Cst) (n : Nat) (r : Cst) : Prop := wpF Try.prog [] tt (anRefSum c n) 200 5 21 [.slR 0 0 6 n] (hO 1 [.ro (rowC c n)]) (fun v h' => endP 1 r.av [.ro (rowC c n)] v h')
def refSumVC (c : Nat → Cst) (n : Nat) (r : Cst) : Prop :=
  ((∃ (s : Nat), ((s ≤ n) ∧ (True ∧ (((((s : Nat) : Int) = (0 : Int)) ∧ True) ∧ ((((@Cst.s0 (@Cst.sum c s)) = (0 : Int)) ∧ (((@Cst.s1 (@Cst.sum c s)) = (0 : Int)) ∧ (((@Cst.s2 (@Cst.sum c s)) = (0 : Int)) ∧ (((@Cst.s3 (@Cst.sum c s)) = (0 : Int)) ∧ (((@Cst.s4 (@Cst.sum c s)) = (0 : Int)) ∧ (((@Cst.s5 (@Cst.sum c s)) = (0 : Int)) ∧ True)))))) ∧ ((((0 : Int) = (0 : Int)) ∧ (((0 : Int) = (0 : Int)) ∧ (((0 : Int) = (0 : Int)) ∧ (((0 : Int) = (0 : Int)) ∧ (((0 : Int) = (0 : Int)) ∧ (((0 : Int) = (0 : Int)) ∧ True)))))) ∧ ((((@rowC c n) = (@rowC c n)) ∧ (Bool.true = Bool.true)) ∧ True))))))) ∧ ((∀ (s : Nat), ((s ≤ n) → (cP (decide (((s : Nat) : Int) < ((n : Nat) : Int))) ((((0 : Int) ≤ ((s : Nat) : Int)) ∧ (((s : Nat) : Int) < ((n : Nat) : Int))) ∧ (((0 + s) < n) ∧ ((I64 ((@imax (0 : Int) (imin (@Cst.s0 (@Cst.sum c s)) (1099511627776 : Int))) + (@imax (0 : Int) (imin (@Cst.s0 (c (0 + s))) (1099511627776 : Int))))) ∧ ((((AV.lit (Value.int IntKind.i64 (@Cst.s5 (c (0 + s))))) = (AV.lit (Value.int IntKind.i64 (@Cst.s5 (c (0 + s)))))) ∧ (((AV.lit (Value.int IntKind.i64 (@Cst.s5 (@Cst.sum c s)))) = (AV.lit (Value.int IntKind.i64 (@Cst.s5 (@Cst.sum c s))))) ∧ (((AV.lit (Value.int IntKind.i64 (@Cst.s4 (c (0 + s))))) = (AV.lit (Value.int IntKind.i64 (@Cst.s4 (c (0 + s)))))) ∧ (((AV.lit (Value.int IntKind.i64 (@Cst.s4 (@Cst.sum c s)))) = (AV.lit (Value.int IntKind.i64 (@Cst.s4 (@Cst.sum c s))))) ∧ (((AV.lit (Value.int IntKind.i64 (@Cst.s3 (c (0 + s))))) = (AV.lit (Value.int IntKind.i64 (@Cst.s3 (c (0 + s)))))) ∧
 (((AV.lit (Value.int IntKind.i64 (@Cst.s3 (@Cst.sum c s)))) = (AV.lit (Value.int IntKind.i64 (@Cst.s3 (@Cst.sum c s))))) ∧ (((AV.lit (Value.int IntKind.i64 (@Cst.s2 (c (0 + s))))) = (AV.lit (Value.int IntKind.i64 (@Cst.s2 (c (0 + s)))))) ∧ (((AV.lit (Value.int IntKind.i64 (@Cst.s2 (@Cst.sum c s)))) = (AV.lit (Value.int IntKind.i64 (@Cst.s2 (@Cst.sum c s))))) ∧ (((AV.lit (Value.int IntKind.i64 (@Cst.s1 (c (0 + s))))) = (AV.lit (Value.int IntKind.i64 (@Cst.s1 (c (0 + s)))))) ∧ (((AV.lit (Value.int IntKind.i64 (@Cst.s1 (@Cst.sum c s)))) = (AV.lit (Value.int IntKind.i64 (@Cst.s1 (@Cst.sum c s))))) ∧ True)))))))))) ∧ ((I64 ((@imax (0 : Int) (imin (@Cst.s1 (@Cst.sum c s)) (1099511627776 : Int))) + (@imax (0 : Int) (imin (@Cst.s1 (c (0 + s))) (1099511627776 : Int))))) ∧ ((((AV.lit (Value.int IntKind.i64 (@Cst.s5 (c (0 + s))))) = (AV.lit (Value.int IntKind.i64 (@Cst.s5 (c (0 + s)))))) ∧ (((AV.lit (Value.int IntKind.i64 (@Cst.s5 (@Cst.sum c s)))) = (AV.lit (Value.int IntKind.i64 (@Cst.s5 (@Cst.sum c s))))) ∧ (((AV.lit (Value.int IntKind.i64 (@Cst.s4 (c (0 + s))))) = (AV.lit (Value.int IntKind.i64 (@Cst.s4 (c (0 + s)))))) ∧ (((AV.lit (Value.int IntKind.i64 (@Cst.s4 (@Cst.sum c s)))) = (AV.lit (Value.int IntKind.i64 (@Cst.s4 (@Cst.sum c s))))) ∧ (((AV.lit (Value.int IntKind.i64 (@Cst.s3 (c (0 + s))))) = (AV.lit (Value.int IntKind.i64 (@Cst.s3 (c (0 + s)))))) ∧ (((AV.lit (Value.int IntKind.i64 (@Cst.s3 (@Cst.sum c s)))) = (AV.lit (Value.int IntKind.i64 (@Cst.s3 (@Cst.sum c s))))) ∧ (((AV.lit (Value.int IntKind.i64 (@Cst.s2 (c (0 + s))))) = (AV.lit (Value.int IntKind.i64 (@Cst.s2 (c (0 + s)))))) ∧
 (((AV.lit (Value.int IntKind.i64 (@Cst.s2 (@Cst.sum c s)))) = (AV.lit (Value.int IntKind.i64 (@Cst.s2 (@Cst.sum c s))))) ∧ True)))))))) ∧ ((I64 ((@imax (0 : Int) (imin (@Cst.s2 (@Cst.sum c s)) (1099511627776 : Int))) + (@imax (0 : Int) (imin (@Cst.s2 (c (0 + s))) (1099511627776 : Int))))) ∧ ((((AV.lit (Value.int IntKind.i64 (@Cst.s5 (c (0 + s))))) = (AV.lit (Value.int IntKind.i64 (@Cst.s5 (c (0 + s)))))) ∧ (((AV.lit (Value.int IntKind.i64 (@Cst.s5 (@Cst.sum c s)))) = (AV.lit (Value.int IntKind.i64 (@Cst.s5 (@Cst.sum c s))))) ∧ (((AV.lit (Value.int IntKind.i64 (@Cst.s4 (c (0 + s))))) = (AV.lit (Value.int IntKind.i64 (@Cst.s4 (c (0 + s)))))) ∧ (((AV.lit (Value.int IntKind.i64 (@Cst.s4 (@Cst.sum c s)))) = (AV.lit (Value.int IntKind.i64 (@Cst.s4 (@Cst.sum c s))))) ∧ (((AV.lit (Value.int IntKind.i64 (@Cst.s3 (c (0 + s))))) = (AV.lit (Value.int IntKind.i64 (@Cst.s3 (c (0 + s)))))) ∧ (((AV.lit (Value.int IntKind.i64 (@Cst.s3 (@Cst.sum c s)))) = (AV.lit (Value.int IntKind.i64 (@Cst.s3 (@Cst.sum c s))))) ∧ True)))))) ∧ ((I64 ((@imax (0 : Int) (imin (@Cst.s3 (@Cst.sum c s)) (1099511627776 : Int))) + (@imax (0 : Int) (imin (@Cst.s3 (c (0 + s))) (1099511627776 : Int))))) ∧ ((((AV.lit (Value.int IntKind.i64 (@Cst.s5 (c (0 + s))))) = (AV.lit (Value.int IntKind.i64 (@Cst.s5 (c (0 + s)))))) ∧ (((AV.lit (Value.int IntKind.i64 (@Cst.s5 (@Cst.sum c s)))) = (AV.lit (Value.int IntKind.i64 (@Cst.s5 (@Cst.sum c s))))) ∧ (((AV.lit (Value.int IntKind.i64 (@Cst.s4 (c (0 + s))))) = (AV.lit (Value.int IntKind.i64 (@Cst.s4 (c (0 + s)))))) ∧
 (((AV.lit (Value.int IntKind.i64 (@Cst.s4 (@Cst.sum c s)))) = (AV.lit (Value.int IntKind.i64 (@Cst.s4 (@Cst.sum c s))))) ∧ True)))) ∧ ((I64 ((@imax (0 : Int) (imin (@Cst.s4 (@Cst.sum c s)) (1099511627776 : Int))) + (@imax (0 : Int) (imin (@Cst.s4 (c (0 + s))) (1099511627776 : Int))))) ∧ ((((AV.lit (Value.int IntKind.i64 (@Cst.s5 (c (0 + s))))) = (AV.lit (Value.int IntKind.i64 (@Cst.s5 (c (0 + s)))))) ∧ (((AV.lit (Value.int IntKind.i64 (@Cst.s5 (@Cst.sum c s)))) = (AV.lit (Value.int IntKind.i64 (@Cst.s5 (@Cst.sum c s))))) ∧ True)) ∧ ((I64 ((@imax (0 : Int) (imin (@Cst.s5 (@Cst.sum c s)) (1099511627776 : Int))) + (@imax (0 : Int) (imin (@Cst.s5 (c (0 + s))) (1099511627776 : Int))))) ∧ (True ∧ (True ∧ (True ∧ (True ∧ ((I64 (((s : Nat) : Int) + (1 : Int))) ∧ (∃ (s_1 : Nat), ((s_1 ≤ n) ∧ (((n - s_1) < (n - s)) ∧ (((((s_1 : Nat) : Int) = (((s : Nat) : Int) + (1 : Int))) ∧ True) ∧ ((((@Cst.s0 (@Cst.sum c s_1)) = (imin ((@imax (0 : Int) (imin (@Cst.s0 (@Cst.sum c s)) (1099511627776 : Int))) + (@imax (0 : Int) (imin (@Cst.s0 (c (0 + s))) (1099511627776 : Int)))) (1099511627776 : Int))) ∧ (((@Cst.s1 (@Cst.sum c s_1)) = (imin ((@imax (0 : Int) (imin (@Cst.s1 (@Cst.sum c s)) (1099511627776 : Int))) + (@imax (0 : Int) (imin (@Cst.s1 (c (0 + s))) (1099511627776 : Int)))) (1099511627776 : Int))) ∧ (((@Cst.s2 (@Cst.sum c s_1)) = (imin ((@imax (0 : Int) (imin (@Cst.s2 (@Cst.sum c s)) (1099511627776 : Int))) + (@imax (0 : Int) (imin (@Cst.s2 (c (0 + s))) (1099511627776 : Int)))) (1099511627776 : Int))) ∧
 (((@Cst.s3 (@Cst.sum c s_1)) = (imin ((@imax (0 : Int) (imin (@Cst.s3 (@Cst.sum c s)) (1099511627776 : Int))) + (@imax (0 : Int) (imin (@Cst.s3 (c (0 + s))) (1099511627776 : Int)))) (1099511627776 : Int))) ∧ (((@Cst.s4 (@Cst.sum c s_1)) = (imin ((@imax (0 : Int) (imin (@Cst.s4 (@Cst.sum c s)) (1099511627776 : Int))) + (@imax (0 : Int) (imin (@Cst.s4 (c (0 + s))) (1099511627776 : Int)))) (1099511627776 : Int))) ∧ (((@Cst.s5 (@Cst.sum c s_1)) = (imin ((@imax (0 : Int) (imin (@Cst.s5 (@Cst.sum c s)) (1099511627776 : Int))) + (@imax (0 : Int) (imin (@Cst.s5 (c (0 + s))) (1099511627776 : Int)))) (1099511627776 : Int))) ∧ True)))))) ∧ ((((0 : Int) = (0 : Int)) ∧ (((0 : Int) = (0 : Int)) ∧ (((0 : Int) = (0 : Int)) ∧ (((0 : Int) = (0 : Int)) ∧ (((0 : Int) = (0 : Int)) ∧ (((0 : Int) = (0 : Int)) ∧ True)))))) ∧ ((((@rowC c n) = (@rowC c n)) ∧ (Bool.true = Bool.true)) ∧ True))))))))))))))))))))))))) (((r.s0 = (@Cst.s0 (@Cst.sum c s))) ∧ ((r.s1 = (@Cst.s1 (@Cst.sum c s))) ∧ ((r.s2 = (@Cst.s2 (@Cst.sum c s))) ∧ ((r.s3 = (@Cst.s3 (@Cst.sum c s))) ∧ ((r.s4 = (@Cst.s4 (@Cst.sum c s))) ∧ ((r.s5 = (@Cst.s5 (@Cst.sum c s))) ∧ True)))))) ∧ ((((@rowC c n) = (@rowC c n)) ∧ (Bool.true = Bool.true)) ∧ True))))) ∧ True))
end Go.Proofs.Ytjndgegfonhhfaa
end
section
/- Sums, told of any memory; a program that is awake. -/
namespace Go.Proofs.Ytjndgegfonhhfaa
open Go SE
theorem awake_true : awakeVC := by
  unfold awakeVC
  simp only [awakeVC_1, awakeVC_2, awakeVC_3, awakeVC_4, awakeVC_8, awakeVC_9, awakeVC_5, awakeVC_6, awakeVC_11, awakeVC_12, awakeVC_13, awakeVC_10, awakeVC_7]
  repeat' (first | exact trivial | exact rfl | exact Int.NonNeg.mk _ | (refine ⟨?_, ?_⟩) | decide)
theorem awake_sp : Sp Try.prog 11 [] (hO 0 []) (fun v h' => v = .lit (.bool true) ∧ h' = hO 0 []) := by
  have h := awake_true
  rw [awakeVC_ok] at h
  exact sp_endk tt_ok mixed TblOk.nil (fun _ _ _ _ => []) 400 20 0 0 rfl rfl h
def awakeT : WTr := fun args h K => match args with
  | [] => K (.lit (.bool true)) h
  | _ => False
theorem awakeT_ok (args : List AV) (h : Heap) (K : AV → Heap → Prop) (hq : awakeT args h K) : Sp Try.prog 11 args h K := by
  unfold awakeT at hq
  split at hq
  · exact (sp_plain h awake_sp (fun _ _ hh => hh.1) rfl rfl).mono fun v h' ⟨e1, e2⟩ => by subst e1 e2; exact hq
  · exact hq.elim
theorem Cst.litsOnly (x : Cst) : litsOnly x.av = true := rfl

/-- A cost of these cells. -/
def parseC : List Value → Option Cst
  | [.int .i64 a, .int .i64 b, .int .i64 c, .int .i64 d, .int .i64 e, .int .i64 f] => some ⟨a, b, c, d, e, f⟩
  | _ => none
def parseL : List (List Value) → Option (List Cst)
  | [] => some []
  | l :: r => match parseC l with
    | some x => match parseL r with
      | some xs => some (x :: xs)
      | none => none
    | none => none
def sumFrom (x : Cst) : List Cst → Cst
  | [] => x
  | y :: r => sumFrom (Cst.add x y) r
/-- The sum of what is given. -/
def sumT : WTr := fun args h K => match args with
  | [x] => vView h x 6 fun
    | .few L => match parseL L with
      | some cs => cs.length < 4611686018427387904 ∧ K (sumFrom Cst.zero cs).av h
      | none => False
    | .many n g => n < 4611686018427387904 ∧ ∃ c : Nat → Cst, (∀ k, k < n → g k = (c k).cells) ∧ K (Cst.sum c n).av h
  | _ => False
def tbl : WTbl := [(15, sumT), (21, sumT), (11, awakeT)]
end Go.Proofs.Ytjndgegfonhhfaa
end
section
/- Closings, and numbers that are lent: what is asked is so. -/
namespace Go.Proofs.Ytjndgegfonhhfaa
open Go SE
set_option maxRecDepth 4000
theorem closeVC_true (x : Nts) (hx : x.n ≤ x.N ∧ x.n < 1099511627776) : closeVC x := by
  obtain ⟨h1, h2⟩ := hx
  unfold closeVC
  simp only [and_true, true_and, Nat.zero_add]
  have hI : ∀ i : Nat, i < x.n → I64 ((i : Int) + 1) := fun i hi => by unfold I64; omega
  have hc : ∀ i : Nat, I64 ((cntTo x.g i 258 : Int) + 1) ∧ I64 ((cntTo x.g i 258 : Int) + 4) := fun i => by have := cntTo_le x.g i 258; unfold I64; omega
  refine ⟨⟨0, by omega, ⟨rfl, by rw [cntTo_zero]; rfl⟩, fun q _ => rfl⟩, fun s hs => cP_intro (fun hb => ?_) (fun hb => ?_)⟩
  · have hlt : s < x.n := by have := of_decide_eq_true hb; omega
    have same : (∀ k : Nat, k < 258 → x.g s ≠ (k : Int)) → cntTo x.g (s + 1) 258 = cntTo x.g s 258 ∧ ∀ q, q < 258 → met x.g (s + 1) q = met x.g s q := fun hn =>
      ⟨cntTo_same fun k hk => met_old (hn k hk), fun q hq => met_old (hn q hq)⟩
    refine ⟨⟨by omega, by omega⟩, by omega, cP_intro (fun hg => ?_) (fun hg => ?_)⟩
    · have hg := of_decide_eq_true hg
      refine cP_intro (fun hl => ?_) (fun hl => ?_)
      · have hl := of_decide_eq_true hl
        obtain ⟨q, hq⟩ : ∃ q : Nat, x.g s = (q : Int) := ⟨(x.g s).toNat, by omega⟩
        have hq2 : q < 258 := by omega
        simp only [hq, Int.toNat_natCast] at hl ⊢
        refine ⟨⟨by omega, hl⟩, hq2, cP_intro (fun hm => ?_) (fun hm => ?_)⟩
        · have hm : met x.g s q = false := by simpa using hm
          refine ⟨⟨by omega, hl⟩, hq2, (hc s).1, hI s hlt, s + 1, by omega, by omega, ⟨rfl, by rw [cntTo_more hq hm hq2]; rfl⟩, fun p hp => ?_⟩
          simp only [Cs.eff]
          cases hb : Nat.beq p q with
          | true => have := Nat.eq_of_beq_eq_true hb; subst this; simp only [cond_true, met_new hq]
          | false =>
            have hpq : p ≠ q := fun h => by
              subst h
              rw [Nat.beq_refl] at hb; cases hb
            simp only [cond_false]
            rw [met_old (g := x.g) (i := s) (k := p) (by omega)]
        · have hm : met x.g s q = true := by simpa using hm
          have e : ∀ p : Nat, met x.g (s + 1) p = met x.g s p := fun p => by
            by_cases h : x.g s = (p : Int)
            · have : p = q := by omega
              subst this; rw [met_at hm, hm]
            · exact met_old h
          exact ⟨hI s hlt, s + 1, by omega, by omega, ⟨rfl, by rw [cntTo_same fun k _ => e k]⟩, fun p _ => by rw [e]⟩
      · have hl := of_decide_eq_false hl
        obtain ⟨e1, e2⟩ := same fun k hk => by omega
        exact ⟨hI s hlt, s + 1, by omega, by omega, ⟨rfl, by rw [e1]⟩, fun p hp => by rw [e2 p hp]⟩
    · have hg := of_decide_eq_false hg
      obtain ⟨e1, e2⟩ := same fun k hk => by omega
      exact ⟨hI s hlt, s + 1, by omega, by omega, ⟨rfl, by rw [e1]⟩, fun p hp => by rw [e2 p hp]⟩
  · have : s = x.n := by have := of_decide_eq_false hb; omega
    subst this
    exact ⟨(hc _).2, (hc _).1, (), rfl, rfl⟩
theorem close_ok : CtrOk Try.prog 23 closeC := det_end tt_ok mixed TblOk.nil anClose 200 5 (fun _ => rfl) (fun _ => rfl) fun x hx => Eq.mp (closeVC_ok x) (closeVC_true x hx)
def tblS : WTbl := [(59, ctrT slabsC), (60, ctrT slabsC)]
def rvN (a b : Int) : Int := if a < 10 then 0 else if a > 258 then 0 else imax 0 (imin b 258)
def rvS (a b : Int) : Int := if a < 10 then 0 else if a > 258 then 0 else 5 + imax 0 (imin b 258) + 8 * slabsM a
def rvF (a : Int) : Int := if a < 10 then 0 else if a > 258 then 0 else 2
def reviveC : Ctr := det (Int × Int) (fun p => [i64 p.1, i64 p.2]) 0 (fun _ => []) (fun _ => True) (fun p => .agg [i64 (rvS p.1 p.2), i64 (rvN p.1 p.2), i64 (rvN p.1 p.2), i64 (rvF p.1), i64 0, i64 0]) 0 (fun _ => [])
end Go.Proofs.Ytjndgegfonhhfaa
end
section
/- Costs that come in. -/
namespace Go.Proofs.Ytjndgegfonhhfaa
open Go SE
open Go.ChangeShapes Go.WideShapes Go.ChangeAt Go.RowKit
theorem cells3 : Try.prog.cellsOf 3 = 1 := by kernel_rfl
end Go.Proofs.Ytjndgegfonhhfaa
end
section
/- Sums of texts. -/
namespace Go.Proofs.Ytjndgegfonhhfaa
open Go SE
def x32 (a b : Int) : Int := IntKind.u32.wrap ((BitVec.ofInt 32 a ^^^ BitVec.ofInt 32 b).toNat : Nat)
def bitM (c : Int) : Int := bif decide (c % 2 = 0) then c / 2 else x32 (c / 2) 3988292384
def bitsM (c : Int) : Nat → Int
  | 0 => c
  | k + 1 => bitM (bitsM c k)
def stepM (c x : Int) : Int := bitsM (x32 c x) 8
def crcTo (s : ByteArray) : Nat → Int
  | 0 => 4294967295
  | i + 1 => stepM (crcTo s i) (strAt s i)
noncomputable def textM (s : ByteArray) : Int := hide (x32 (crcTo s s.size) 4294967295)
def U32 (c : Int) : Prop := 0 ≤ c ∧ c < 4294967296
theorem wrap_u32 (z : Int) : U32 (IntKind.u32.wrap z) := by
  unfold IntKind.wrap U32
  simp [IntKind.bits, IntKind.signed]
  omega
theorem wrap_u32_id {z : Int} (h : U32 z) : IntKind.u32.wrap z = z := by
  unfold IntKind.wrap U32 at *
  simp [IntKind.bits, IntKind.signed]
  omega
theorem x32_U (a b : Int) : U32 (x32 a b) := wrap_u32 _
theorem bitM_U {c : Int} (h : U32 c) : U32 (bitM c) := by
  unfold bitM
  cases decide (c % 2 = 0)
  · exact x32_U _ _
  · unfold U32 at *; simp only [cond_true]; omega
theorem bitsM_U {c : Int} (h : U32 c) : ∀ k, U32 (bitsM c k)
  | 0 => h
  | k + 1 => bitM_U (bitsM_U h k)
def u32 (c : Int) : AV := .lit (.int .u32 c)
def stepC : Ctr := det (Int × Int) (fun p => [u32 p.1, .lit (.int .u8 p.2)]) 0 (fun _ => []) (fun p => U32 p.1 ∧ 0 ≤ p.2 ∧ p.2 < 256) (fun p => u32 (stepM p.1 p.2)) 0 (fun _ => [])
def anStep (p : Int × Int) : FuncId → Anns := fun f =>
  bif Nat.beq f 120 then (fun b fr h => bif Nat.beq b 0 then [{ σ := Nat, fr := fun k => [(5, i64 k), (0, u32 (bitsM (x32 p.1 p.2) k))], ob := fun _ => [], inv := fun k => k ≤ 8, meas := fun k => 8 - k }] else []) else
  bif Nat.beq f 121 then (fun b fr h => bif Nat.beq b 0 then [{ σ := Nat, fr := fun k => [(5, i64 k), (0, u32 (bitsM (x32 p.1 p.2) k))], ob := fun _ => [], inv := fun k => k ≤ 8, meas := fun k => 8 - k }] else []) else
  fun _ _ _ => []
def strV (s : ByteArray) : AV := .lit (.string s)
noncomputable def textC : Ctr := det ByteArray (fun s => [strV s]) 0 (fun _ => []) (fun s => s.size < 1099511627776) (fun s => u32 (textM s)) 0 (fun _ => [])
def anText (s : ByteArray) : FuncId → Anns := fun f =>
  bif Nat.beq f 102 then (fun b fr h => bif Nat.beq b 0 then [{ σ := Nat, fr := fun i => [(7, i64 i), (3, u32 (crcTo s i))], ob := fun _ => [], inv := fun i => i ≤ s.size, meas := fun i => s.size - i }] else []) else
  bif Nat.beq f 106 then (fun b fr h => bif Nat.beq b 0 then [{ σ := Nat, fr := fun i => [(4, i64 i), (3, u32 (crcTo s i))], ob := fun _ => [], inv := fun i => i ≤ s.size, meas := fun i => s.size - i }] else []) else
  fun _ _ _ => []
end Go.Proofs.Ytjndgegfonhhfaa
end
section
/- What is asked of sums of texts. -/
namespace Go.Proofs.Ytjndgegfonhhfaa
open Go SE
def stepVC_wp (p : Int × Int) : Prop := wpF Try.prog [] tt (anStep p) 200 5 120 (stepC.args p) (hO stepC.k (stepC.os p)) (fun v h' => endsP stepC.k p v h' stepC.outs)
def stepVC (p : Int × Int) : Prop :=
  ((∃ (s : Nat), ((s ≤ 8) ∧ (True ∧ (((((s : Nat) : Int) = (0 : Int)) ∧ (((@bitsM (@x32 p.1 p.2) s) = (IntKind.wrap IntKind.u32 (((@BitVec.toNat 32 (@HXor.hXor (@BitVec 32) (@BitVec 32) (@BitVec 32) (@instHXorOfXorOp (@BitVec 32) (@BitVec.instXorOp 32)) (@BitVec.ofInt 32 p.1) (@BitVec.ofInt 32 (IntKind.wrap IntKind.u32 p.2)))) : Nat) : Int))) ∧ True)) ∧ True)))) ∧ ((∀ (s : Nat), ((s ≤ 8) → (cP (decide (((s : Nat) : Int) < (8 : Int))) ((I64 (((s : Nat) : Int) + (1 : Int))) ∧ ((((2 : Int) = (0 : Int)) → False) ∧ (cP (BEq.beq (@Int.tmod (@bitsM (@x32 p.1 p.2) s) (2 : Int)) (0 : Int)) ((((2 : Int) = (0 : Int)) → False) ∧ (∃ (s_1 : Nat), ((s_1 ≤ 8) ∧ (((8 - s_1) < (8 - s)) ∧ (((((s_1 : Nat) : Int) = (((s : Nat) : Int) + (1 : Int))) ∧ (((@bitsM (@x32 p.1 p.2) s_1) = (IntKind.wrap IntKind.u32 (@Int.tdiv (@bitsM (@x32 p.1 p.2) s) (2 : Int)))) ∧ True)) ∧ True))))) ((((2 : Int) = (0 : Int)) → False) ∧ (∃ (s_1 : Nat), ((s_1 ≤ 8) ∧ (((8 - s_1) < (8 - s)) ∧ (((((s_1 : Nat) : Int) = (((s : Nat) : Int) + (1 : Int))) ∧ (((@bitsM (@x32 p.1 p.2) s_1) = (IntKind.wrap IntKind.u32 (((@BitVec.toNat 32 (@HXor.hXor (@BitVec 32) (@BitVec 32) (@BitVec 32) (@instHXorOfXorOp (@BitVec 32) (@BitVec.instXorOp 32)) (@BitVec.ofInt 32 (IntKind.wrap IntKind.u32 (@Int.tdiv (@bitsM (@x32 p.1 p.2) s) (2 : Int)))) (@BitVec.ofInt 32 (3988292384 : Int)))) : Nat) : Int))) ∧ True)) ∧ True)))))))) (∃ (y : Unit), (True ∧ (((@stepM p.1 p.2) = (@bitsM (@x32 p.1 p.2) s)) ∧ True)))))) ∧ True))
theorem stepVC_ok (p : Int × Int) : stepVC p = stepVC_wp p := by kernel_rfl
def rstepVC_wp (p : Int × Int) : Prop := wpF Try.prog [] tt (anStep p) 200 5 121 (stepC.args p) (hO stepC.k (stepC.os p)) (fun v h' => endsP stepC.k p v h' stepC.outs)
def rstepVC (p : Int × Int) : Prop :=
  ((∃ (s : Nat), ((s ≤ 8) ∧ (True ∧ (((((s : Nat) : Int) = (0 : Int)) ∧ (((@bitsM (@x32 p.1 p.2) s) = (IntKind.wrap IntKind.u32 (((@BitVec.toNat 32 (@HXor.hXor (@BitVec 32) (@BitVec 32) (@BitVec 32) (@instHXorOfXorOp (@BitVec 32) (@BitVec.instXorOp 32)) (@BitVec.ofInt 32 p.1) (@BitVec.ofInt 32 (IntKind.wrap IntKind.u32 p.2)))) : Nat) : Int))) ∧ True)) ∧ True)))) ∧ ((∀ (s : Nat), ((s ≤ 8) → (cP (decide (((s : Nat) : Int) < (8 : Int))) ((((2 : Int) = (0 : Int)) → False) ∧ (cP (BEq.beq (IntKind.wrap IntKind.u32 (((@BitVec.toNat 32 (@HAnd.hAnd (@BitVec 32) (@BitVec 32) (@BitVec 32) (@instHAndOfAndOp (@BitVec 32) (@BitVec.instAndOp 32)) (@BitVec.ofInt 32 (@bitsM (@x32 p.1 p.2) s)) (@BitVec.ofInt 32 (1 : Int)))) : Nat) : Int)) (1 : Int)) ((I64 (((s : Nat) : Int) + (1 : Int))) ∧ (∃ (s_1 : Nat), ((s_1 ≤ 8) ∧ (((8 - s_1) < (8 - s)) ∧ (((((s_1 : Nat) : Int) = (((s : Nat) : Int) + (1 : Int))) ∧ (((@bitsM (@x32 p.1 p.2) s_1) = (IntKind.wrap IntKind.u32 (((@BitVec.toNat 32 (@HXor.hXor (@BitVec 32) (@BitVec 32) (@BitVec 32) (@instHXorOfXorOp (@BitVec 32) (@BitVec.instXorOp 32)) (@BitVec.ofInt 32 (IntKind.wrap IntKind.u32 (@Int.tdiv (@bitsM (@x32 p.1 p.2) s) (2 : Int)))) (@BitVec.ofInt 32 (3988292384 : Int)))) : Nat) : Int))) ∧ True)) ∧ True))))) ((I64 (((s : Nat) : Int) + (1 : Int))) ∧ (∃ (s_1 : Nat), ((s_1 ≤ 8) ∧ (((8 - s_1) < (8 - s)) ∧ (((((s_1 : Nat) : Int) = (((s : Nat) : Int) + (1 : Int))) ∧ (((@bitsM (@x32 p.1 p.2) s_1) = (IntKind.wrap IntKind.u32 (@Int.tdiv (@bitsM (@x32 p.1 p.2) s) (2 : Int)))) ∧
 True)) ∧ True))))))) (∃ (y : Unit), (True ∧ (((@stepM p.1 p.2) = (@bitsM (@x32 p.1 p.2) s)) ∧ True)))))) ∧ True))
def textVC_wp (s : ByteArray) : Prop := wpF Try.prog [(120, ctrT stepC)] tt (anText s) 200 5 102 (textC.args s) (hO textC.k (textC.os s)) (fun v h' => endsP textC.k s v h' textC.outs)
def textVC (s : ByteArray) : Prop :=
  ((∃ (s_1 : Nat), ((s_1 ≤ (@ByteArray.size s)) ∧ (True ∧ (((((s_1 : Nat) : Int) = (0 : Int)) ∧ (((@crcTo s s_1) = (4294967295 : Int)) ∧ True)) ∧ True)))) ∧ ((∀ (s_1 : Nat), ((s_1 ≤ (@ByteArray.size s)) → (cP (decide (((s_1 : Nat) : Int) < (((@ByteArray.size s) : Nat) : Int))) ((((0 : Int) ≤ ((s_1 : Nat) : Int)) ∧ (((s_1 : Nat) : Int) < (((@ByteArray.size s) : Nat) : Int))) ∧ (∃ (x : (@Prod Int Int)), (((((0 : Int) ≤ x.1) ∧ (x.1 < (4294967296 : Int))) ∧ (((0 : Int) ≤ x.2) ∧ (x.2 < (256 : Int)))) ∧ (((x.1 = (@crcTo s s_1)) ∧ ((x.2 = (@strAt s s_1)) ∧ True)) ∧ (True ∧ (∀ (y : Unit), (True → ((I64 (((s_1 : Nat) : Int) + (1 : Int))) ∧ (∃ (s_2 : Nat), ((s_2 ≤ (@ByteArray.size s)) ∧ ((((@ByteArray.size s) - s_2) < ((@ByteArray.size s) - s_1)) ∧ (((((s_2 : Nat) : Int) = (((s_1 : Nat) : Int) + (1 : Int))) ∧ (((@crcTo s s_2) = (@stepM x.1 x.2)) ∧ True)) ∧ True)))))))))))) (∃ (y : Unit), (True ∧ (((@textM s) = (IntKind.wrap IntKind.u32 (((@BitVec.toNat 32 (@HXor.hXor (@BitVec 32) (@BitVec 32) (@BitVec 32) (@instHXorOfXorOp (@BitVec 32) (@BitVec.instXorOp 32)) (@BitVec.ofInt 32 (@crcTo s s_1)) (@BitVec.ofInt 32 (4294967295 : Int)))) : Nat) : Int))) ∧ True)))))) ∧ True))
def rtextVC_wp (s : ByteArray) : Prop := wpF Try.prog [(121, ctrT stepC)] tt (anText s) 200 5 106 (textC.args s) (hO textC.k (textC.os s)) (fun v h' => endsP textC.k s v h' textC.outs)
def rtextVC (s : ByteArray) : Prop :=
  ((∃ (s_1 : Nat), ((s_1 ≤ (@ByteArray.size s)) ∧ (True ∧ (((((s_1 : Nat) : Int) = (0 : Int)) ∧ (((@crcTo s s_1) = (4294967295 : Int)) ∧ True)) ∧ True)))) ∧ ((∀ (s_1 : Nat), ((s_1 ≤ (@ByteArray.size s)) → (cP (decide (((s_1 : Nat) : Int) < (((@ByteArray.size s) : Nat) : Int))) ((((0 : Int) ≤ ((s_1 : Nat) : Int)) ∧ (((s_1 : Nat) : Int) < (((@ByteArray.size s) : Nat) : Int))) ∧ (∃ (x : (@Prod Int Int)), (((((0 : Int) ≤ x.1) ∧ (x.1 < (4294967296 : Int))) ∧ (((0 : Int) ≤ x.2) ∧ (x.2 < (256 : Int)))) ∧ (((x.1 = (@crcTo s s_1)) ∧ ((x.2 = (@strAt s s_1)) ∧ True)) ∧ (True ∧ (∀ (y : Unit), (True → ((I64 (((s_1 : Nat) : Int) + (1 : Int))) ∧ (∃ (s_2 : Nat), ((s_2 ≤ (@ByteArray.size s)) ∧ ((((@ByteArray.size s) - s_2) < ((@ByteArray.size s) - s_1)) ∧ (((((s_2 : Nat) : Int) = (((s_1 : Nat) : Int) + (1 : Int))) ∧ (((@crcTo s s_2) = (@stepM x.1 x.2)) ∧ True)) ∧ True)))))))))))) (∃ (y : Unit), (True ∧ (((@textM s) = (IntKind.wrap IntKind.u32 (((@BitVec.toNat 32 (@HXor.hXor (@BitVec 32) (@BitVec 32) (@BitVec 32) (@instHXorOfXorOp (@BitVec 32) (@BitVec.instXorOp 32)) (@BitVec.ofInt 32 (@crcTo s s_1)) (@BitVec.ofInt 32 (4294967295 : Int)))) : Nat) : Int))) ∧ True)))))) ∧ True))
end Go.Proofs.Ytjndgegfonhhfaa
end
section
/- Sums of texts: what is asked is so. -/
namespace Go.Proofs.Ytjndgegfonhhfaa
open Go SE
theorem half {c : Int} (h : U32 c) : Int.tmod c 2 = c % 2 ∧ IntKind.u32.wrap (Int.tdiv c 2) = c / 2 := by
  have e : Int.tdiv c 2 = c / 2 := Int.tdiv_eq_ediv_of_nonneg h.1
  refine ⟨Int.tmod_eq_emod_of_nonneg h.1, ?_⟩
  rw [e]; exact wrap_u32_id (by unfold U32 at *; omega)
theorem stepVC_true (p : Int × Int) (hp : U32 p.1 ∧ 0 ≤ p.2 ∧ p.2 < 256) : stepVC p := by
  unfold stepVC
  have hw : IntKind.u32.wrap p.2 = p.2 := wrap_u32_id (by unfold U32; omega)
  have hx : ∀ a b, IntKind.u32.wrap ((BitVec.ofInt 32 a ^^^ BitVec.ofInt 32 b).toNat : Nat) = x32 a b := fun _ _ => rfl
  simp only [and_true, true_and, hw, hx]
  refine ⟨⟨0, by omega, rfl, rfl⟩, fun s hs => cP_intro (fun hb => ?_) (fun hb => ?_)⟩
  · have hb := of_decide_eq_true hb
    obtain ⟨h1, h2⟩ := half (bitsM_U (x32_U p.1 p.2) s)
    rw [h1, h2]
    refine ⟨by unfold I64; omega, by omega, cP_intro (fun hc => ?_) (fun hc => ?_)⟩
    · have hc : bitsM (x32 p.1 p.2) s % 2 = 0 := by simpa using hc
      exact ⟨by omega, s + 1, by omega, by omega, rfl, by simp [bitsM, bitM, hc]⟩
    · have hc : bitsM (x32 p.1 p.2) s % 2 ≠ 0 := by simpa using hc
      exact ⟨by omega, s + 1, by omega, by omega, rfl, by simp only [bitsM, bitM, hc, decide_false, cond_false]⟩
  · have : s = 8 := by have := of_decide_eq_false hb; omega
    subst this
    exact ⟨(), rfl⟩
theorem step_ok : CtrOk Try.prog 120 stepC := det_end tt_ok mixed TblOk.nil anStep 200 5 (fun _ => rfl) (fun _ => rfl) fun x hx => Eq.mp (stepVC_ok x) (stepVC_true x hx)
end Go.Proofs.Ytjndgegfonhhfaa
end
section
/- Sums of bytes; numbers laid into bytes. -/
namespace Go.Proofs.Ytjndgegfonhhfaa
open Go SE
theorem eff_nil (g : Nat → List Value) (q : Nat) : Cs.eff g [] q = g q := rfl
theorem ble0 (q : Nat) : Nat.ble 0 q = true := by simp
theorem blt_iff_decide (a b : Nat) : Nat.blt a b = decide (a < b) := by
  by_cases h : a < b
  · rw [nblt_iff.2 h]; simp [h]
  · have : Nat.blt a b = false := by
      cases hb : Nat.blt a b with
      | false => rfl
      | true => exact absurd (nblt_iff.1 hb) h
    rw [this]; simp [h]
theorem ble_iff_decide (a b : Nat) : Nat.ble a b = decide (a ≤ b) := by
  by_cases h : a ≤ b
  · rw [show Nat.ble a b = true by simpa using h]; simp [h]
  · have : Nat.ble a b = false := by
      cases hb : Nat.ble a b with
      | false => rfl
      | true => exact absurd (by simpa using hb) h
    rw [this]; simp [h]
theorem bif_decide {α : Type} {p : Prop} [Decidable p] {x y : α} : (bif decide p then x else y) = if p then x else y := by by_cases h : p <;> simp [h]
theorem nbeq_decide (a b : Nat) : Nat.beq a b = decide (a = b) := by
  by_cases h : a = b
  · subst h; simp
  · rw [nbeq_ne h]; simp [h]
theorem cond_one {b : Bool} {x y : Value} : (bif b then [x] else [y]) = [bif b then x else y] := by cases b <;> rfl
theorem cond_int {b : Bool} {k : IntKind} {x y : Int} : (bif b then Value.int k x else Value.int k y) = .int k (bif b then x else y) := by cases b <;> rfl
theorem cond_bool {b : Bool} {x y : Bool} : (bif b then Value.bool x else Value.bool y) = .bool (bif b then x else y) := by cases b <;> rfl
theorem ones_int {k : IntKind} {x : Int} : ([Value.int k x].length.beq 1 && [Value.int k x].all Value.oneCell') = true := rfl
theorem ones_bool {x : Bool} : ([Value.bool x].length.beq 1 && [Value.bool x].all Value.oneCell') = true := rfl
theorem row_int {k : IntKind} {x y : Int} : ([Value.int k x] = [Value.int k y]) = (x = y) := by simp
theorem row_bool {x y : Bool} : ([Value.bool x] = [Value.bool y]) = (x = y) := by simp
def u8 (n : Int) : AV := .lit (.int .u8 n)
def u64 (n : Int) : AV := .lit (.int .u64 n)
def rowB (g : Nat → Int) (n : Nat) : Cs := .row 1 n (fun k => [.int .u8 (g k)]) []
/-- Bytes from q on, n of N. -/
structure Bys where
  g : Nat → Int
  q : Nat
  n : Nat
  N : Nat
namespace Bys
def ok (b : Bys) : Prop := b.q + b.n ≤ b.N ∧ b.n < 1099511627776 ∧ ∀ k, 0 ≤ b.g k ∧ b.g k < 256
def ro (b : Bys) : AObj := .ro (rowB b.g b.N)
def av (b : Bys) (i : Nat) : AV := .slR i b.q 1 b.n
end Bys
def foldB (c : Int) (g : Nat → Int) : Nat → Int
  | 0 => c
  | i + 1 => stepM (foldB c g i) (g i)
noncomputable def addM (c : Int) (g : Nat → Int) (n : Nat) : Int := hide (x32 (foldB (x32 c 4294967295) g n) 4294967295)
theorem foldB_U {c : Int} (h : U32 c) (g : Nat → Int) : ∀ n, U32 (foldB c g n)
  | 0 => h
  | n + 1 => bitsM_U (x32_U _ _) 8
theorem addM_U (c : Int) (g : Nat → Int) (n : Nat) : U32 (addM c g n) := by unfold addM; rw [hide_eq]; exact x32_U _ _
structure AddX where
  c : Int
  b : Bys
noncomputable def addC : Ctr := det AddX (fun x => [u32 x.c, x.b.av 0]) 1 (fun x => [x.b.ro]) (fun x => Hd (U32 x.c ∧ x.b.ok)) (fun x => u32 (addM x.c (fun k => x.b.g (x.b.q + k)) x.b.n)) 1 (fun x => [x.b.ro])
def anAdd (x : AddX) : FuncId → Anns := fun f =>
  bif Nat.beq f 136 then (fun b fr h => bif Nat.beq b 0 then [{ σ := Nat, fr := fun k => [(11, i64 k), (0, u32 (foldB (x32 x.c 4294967295) (fun k => x.b.g (x.b.q + k)) k))], ob := fun _ => [], inv := fun k => k ≤ x.b.n, meas := fun k => x.b.n - k }] else []) else
  fun _ _ _ => []
/-- A number's bytes, the lowest first, laid over others. -/
def putG (g : Nat → Int) (at_ w : Nat) (v : Int) (k : Nat) : Int := if at_ ≤ k ∧ k < at_ + w then v / 256 ^ (k - at_) % 256 else g k
structure PutX where
  b : Bys
  at_ : Nat
  w : Nat
  v : Int
  c : Nat
def PutX.ok (x : PutX) : Prop := x.b.ok ∧ x.at_ + x.w ≤ x.b.n ∧ 1 ≤ x.w ∧ x.w ≤ 8 ∧ 0 ≤ x.v ∧ x.v < 256 ^ x.w
def PutX.res (x : PutX) : Nat → Int := putG (fun k => x.b.g (x.b.q + k)) x.at_ x.w x.v
noncomputable def putC : Ctr := det PutX (fun x => [.slE 0 x.b.q 1 x.b.n x.c, i64 x.at_, i64 x.w, u64 x.v]) 1 (fun x => [x.b.ro]) (fun x => Hd x.ok) (fun x => .tup [.slW 1 0 1 x.b.n, i64 0]) 2 (fun x => [x.b.ro, .room 5 (rowB x.res x.b.n)])
def anPut (x : PutX) : FuncId → Anns := fun f =>
  bif Nat.beq f 130 then (fun b fr h => bif Nat.beq b 0 then [{ σ := Nat, fr := fun k => [(32, i64 k)], ob := fun k => [(1, none), (2, some (.room 5 (rowB (putG (fun k => x.b.g (x.b.q + k)) x.at_ k x.v) x.b.n)))], inv := fun k => k ≤ x.w, meas := fun k => x.w - k, nx := 0 }] else []) else
  fun _ _ _ => []
end Go.Proofs.Ytjndgegfonhhfaa
end
section
/- What is asked of sums of bytes, and of numbers laid into bytes. -/
namespace Go.Proofs.Ytjndgegfonhhfaa
open Go SE
def addVC_wp (x : AddX) : Prop := wpF Try.prog [(120, ctrT stepC)] tt (anAdd x) 200 5 136 (addC.args x) (hO addC.k (addC.os x)) (fun v h' => endsP addC.k x v h' addC.outs)
def addVC (x : AddX) : Prop :=
  ((∃ (s : Nat), ((s ≤ x.b.n) ∧ (True ∧ (((((s : Nat) : Int) = (0 : Int)) ∧ (((@foldB (@x32 x.c (4294967295 : Int)) (fun (k : Nat) => (@Bys.g x.b (x.b.q + k))) s) = (IntKind.wrap IntKind.u32 (((@BitVec.toNat 32 (@HXor.hXor (@BitVec 32) (@BitVec 32) (@BitVec 32) (@instHXorOfXorOp (@BitVec 32) (@BitVec.instXorOp 32)) (@BitVec.ofInt 32 x.c) (@BitVec.ofInt 32 (4294967295 : Int)))) : Nat) : Int))) ∧ True)) ∧ ((((@rowB x.b.g x.b.N) = (@rowB x.b.g x.b.N)) ∧ (Bool.true = Bool.true)) ∧ True))))) ∧ ((∀ (s : Nat), ((s ≤ x.b.n) → (cP (decide (((s : Nat) : Int) < ((x.b.n : Nat) : Int))) ((((0 : Int) ≤ ((s : Nat) : Int)) ∧ (((s : Nat) : Int) < ((x.b.n : Nat) : Int))) ∧ (((x.b.q + s) < x.b.N) ∧ (∃ (x_1 : (@Prod Int Int)), (((((0 : Int) ≤ x_1.1) ∧ (x_1.1 < (4294967296 : Int))) ∧ (((0 : Int) ≤ x_1.2) ∧ (x_1.2 < (256 : Int)))) ∧ (((x_1.1 = (@foldB (@x32 x.c (4294967295 : Int)) (fun (k : Nat) => (@Bys.g x.b (x.b.q + k))) s)) ∧ ((x_1.2 = (@Bys.g x.b (x.b.q + s))) ∧ True)) ∧ (True ∧ (∀ (y : Unit), (True → ((I64 (((s : Nat) : Int) + (1 : Int))) ∧ (∃ (s_1 : Nat), ((s_1 ≤ x.b.n) ∧ (((x.b.n - s_1) < (x.b.n - s)) ∧ (((((s_1 : Nat) : Int) = (((s : Nat) : Int) + (1 : Int))) ∧ (((@foldB (@x32 x.c (4294967295 : Int)) (fun (k : Nat) => (@Bys.g x.b (x.b.q + k))) s_1) = (@stepM x_1.1 x_1.2)) ∧ True)) ∧ ((((@rowB x.b.g x.b.N) = (@rowB x.b.g x.b.N)) ∧ (Bool.true = Bool.true)) ∧ True)))))))))))))) (∃ (y : Unit), (True ∧ (((@addM x.c (fun (k : Nat) => (@Bys.g x.b (x.b.q + k))) x.b.n) = (IntKind.wrap IntKind.u32 (((@BitVec.toNat 32 (@HXor.hXor (@BitVec 32) (@BitVec 32) (@BitVec 32) (@instHXorOfXorOp (@BitVec 32) (@BitVec.instXorOp 32)) (@BitVec.ofInt 32 (@foldB (@x32 x.c (4294967295 : Int)) (fun (k : Nat) => (@Bys.g x.b (x.b.q + k))) s)) (@BitVec.ofInt 32 (4294967295 : Int)))) : Nat) : Int))) ∧
 ((((@rowB x.b.g x.b.N) = (@rowB x.b.g x.b.N)) ∧ (Bool.true = Bool.true)) ∧ True))))))) ∧ True))
theorem addVC_ok (x : AddX) : addVC x = addVC_wp x := by kernel_rfl
def putVC_wp (x : PutX) : Prop := wpF Try.prog [] tt (anPut x) 200 5 130 (putC.args x) (hO putC.k (putC.os x)) (fun v h' => endsP putC.k x v h' putC.outs)
def putVC (x : PutX) : Prop :=
  (cP (decide (((x.w : Nat) : Int) < (1 : Int))) (∃ (y : Unit), (True ∧ ((False ∧ (((0 : Int) = (1 : Int)) ∧ True)) ∧ ((((@rowB x.b.g x.b.N) = (@rowB x.b.g x.b.N)) ∧ (Bool.true = Bool.true)) ∧ (False ∧ True))))) (cP (decide (@GT.gt Int @Int.instLTInt ((x.w : Nat) : Int) (8 : Int))) (∃ (y : Unit), (True ∧ ((False ∧ (((0 : Int) = (1 : Int)) ∧ True)) ∧ ((((@rowB x.b.g x.b.N) = (@rowB x.b.g x.b.N)) ∧ (Bool.true = Bool.true)) ∧ (False ∧ True))))) ((I64 (((x.b.n : Nat) : Int) - ((x.w : Nat) : Int))) ∧ (cP (decide (@GT.gt Int @Int.instLTInt ((x.at_ : Nat) : Int) (((x.b.n : Nat) : Int) - ((x.w : Nat) : Int)))) (∃ (y : Unit), (True ∧ ((False ∧ (((0 : Int) = (2 : Int)) ∧ True)) ∧ ((((@rowB x.b.g x.b.N) = (@rowB x.b.g x.b.N)) ∧ (Bool.true = Bool.true)) ∧ (False ∧ True))))) (cP (decide (((x.w : Nat) : Int) < (8 : Int))) ((I64 ((8 : Int) * ((x.w : Nat) : Int))) ∧ (((0 : Int) ≤ ((8 : Int) * ((x.w : Nat) : Int))) ∧ (cP (bne (@Int.fdiv x.v (@HPow.hPow Int Nat Int (@instHPow Int Nat (@instPowNat Int @Int.instNatPow)) (2 : Int) (@Min.min Nat @instMinNat (Int.toNat ((8 : Int) * ((x.w : Nat) : Int))) 64))) (0 : Int)) (∃ (y : Unit), (True ∧ ((False ∧ (((0 : Int) = (11 : Int)) ∧ True)) ∧ ((((@rowB x.b.g x.b.N) = (@rowB x.b.g x.b.N)) ∧ (Bool.true = Bool.true)) ∧ (False ∧ True))))) (((x.b.q + x.b.n) ≤ x.b.N) ∧ (cP (@Nat.beq x.b.n 0) ((∃ (s : Nat), ((s ≤ x.w) ∧ (True ∧ (((((s : Nat) : Int) = (0 : Int)) ∧ True) ∧ ((((@rowB x.b.g x.b.N) = (@rowB x.b.g x.b.N)) ∧ (Bool.true = Bool.true)) ∧ True))))) ∧ ((∀ (s : Nat), ((s ≤ x.w) → (cP (decide (((s : Nat) : Int) < ((x.w : Nat) : Int))) ((I64 (((x.at_ : Nat) : Int) + ((s : Nat) : Int))) ∧
 ((I64 ((8 : Int) * ((s : Nat) : Int))) ∧ (((0 : Int) ≤ ((8 : Int) * ((s : Nat) : Int))) ∧ ((((0 : Int) ≤ (((x.at_ : Nat) : Int) + ((s : Nat) : Int))) ∧ ((((x.at_ : Nat) : Int) + ((s : Nat) : Int)) < (0 : Int))) ∧ False)))) (∃ (y : Unit), (True ∧ ((((x.b.n = 0) ∧ ((0 = 0) ∧ (0 = 0))) ∧ (((0 : Int) = (0 : Int)) ∧ True)) ∧ ((((@rowB x.b.g x.b.N) = (@rowB x.b.g x.b.N)) ∧ (Bool.true = Bool.true)) ∧ (False ∧ True)))))))) ∧ True)) (((((2 * (0 + x.b.n)) + 1000) * 1) ≤ 281474976710656) ∧ ((∃ (s : Nat), ((s ≤ x.w) ∧ (True ∧ (((((s : Nat) : Int) = (0 : Int)) ∧ True) ∧ (((x.b.n = (0 + x.b.n)) ∧ (∀ (q : Nat), ((q < x.b.n) → ([(Value.int IntKind.u8 (@putG (fun (k : Nat) => (@Bys.g x.b (x.b.q + k))) x.at_ s x.v q))] = [(Value.int IntKind.u8 (@Bys.g x.b (x.b.q + (q - 0))))])))) ∧ ((((@rowB x.b.g x.b.N) = (@rowB x.b.g x.b.N)) ∧ (Bool.true = Bool.true)) ∧ True)))))) ∧ ((∀ (s : Nat), ((s ≤ x.w) → (cP (decide (((s : Nat) : Int) < ((x.w : Nat) : Int))) ((I64 (((x.at_ : Nat) : Int) + ((s : Nat) : Int))) ∧ ((I64 ((8 : Int) * ((s : Nat) : Int))) ∧ (((0 : Int) ≤ ((8 : Int) * ((s : Nat) : Int))) ∧ ((((0 : Int) ≤ (((x.at_ : Nat) : Int) + ((s : Nat) : Int))) ∧ ((((x.at_ : Nat) : Int) + ((s : Nat) : Int)) < (((0 + x.b.n) : Nat) : Int))) ∧ (((0 + (Int.toNat (((x.at_ : Nat) : Int) + ((s : Nat) : Int)))) < x.b.n) ∧ ((I64 (((s : Nat) : Int) + (1 : Int))) ∧ (∃ (s_1 : Nat), ((s_1 ≤ x.w) ∧ (((x.w - s_1) < (x.w - s)) ∧ (((((s_1 : Nat) : Int) = (((s : Nat) : Int) + (1 : Int))) ∧ True) ∧ (((x.b.n = x.b.n) ∧ (∀ (q : Nat), ((q < x.b.n) → ([(Value.int IntKind.u8 (@putG (fun (k : Nat) => (@Bys.g x.b (x.b.q + k))) x.at_ s_1 x.v q))] = (@Cs.eff (fun (k : Nat) => [(Value.int IntKind.u8 (@putG (fun (k_1 : Nat) => (@Bys.g x.b (x.b.q + k_1))) x.at_ s x.v k))]) [(@Prod.mk Nat (@List Value) (0 + (Int.toNat (((x.at_ : Nat) : Int) + ((s : Nat) : Int)))) [(Value.int IntKind.u8 (IntKind.wrap IntKind.u8 (@Int.fdiv x.v (@HPow.hPow Int Nat Int (@instHPow Int Nat (@instPowNat Int @Int.instNatPow)) (2 : Int) (@Min.min Nat @instMinNat (Int.toNat ((8 : Int) * ((s : Nat) : Int))) 64)))))])] q))))) ∧
 ((((@rowB x.b.g x.b.N) = (@rowB x.b.g x.b.N)) ∧ (Bool.true = Bool.true)) ∧ True)))))))))))) (∃ (y : Unit), (True ∧ ((((0 = 0) ∧ (x.b.n = (0 + x.b.n))) ∧ (((0 : Int) = (0 : Int)) ∧ True)) ∧ ((((@rowB x.b.g x.b.N) = (@rowB x.b.g x.b.N)) ∧ (Bool.true = Bool.true)) ∧ (((x.b.n = x.b.n) ∧ (∀ (q : Nat), ((q < x.b.n) → ([(Value.int IntKind.u8 (@PutX.res x q))] = [(Value.int IntKind.u8 (@putG (fun (k : Nat) => (@Bys.g x.b (x.b.q + k))) x.at_ s x.v q))])))) ∧ True)))))))) ∧ True)))))))) (((x.b.q + x.b.n) ≤ x.b.N) ∧ (cP (@Nat.beq x.b.n 0) ((∃ (s : Nat), ((s ≤ x.w) ∧ (True ∧ (((((s : Nat) : Int) = (0 : Int)) ∧ True) ∧ ((((@rowB x.b.g x.b.N) = (@rowB x.b.g x.b.N)) ∧ (Bool.true = Bool.true)) ∧ True))))) ∧ ((∀ (s : Nat), ((s ≤ x.w) → (cP (decide (((s : Nat) : Int) < ((x.w : Nat) : Int))) ((I64 (((x.at_ : Nat) : Int) + ((s : Nat) : Int))) ∧ ((I64 ((8 : Int) * ((s : Nat) : Int))) ∧ (((0 : Int) ≤ ((8 : Int) * ((s : Nat) : Int))) ∧ ((((0 : Int) ≤ (((x.at_ : Nat) : Int) + ((s : Nat) : Int))) ∧ ((((x.at_ : Nat) : Int) + ((s : Nat) : Int)) < (0 : Int))) ∧ False)))) (∃ (y : Unit), (True ∧ ((((x.b.n = 0) ∧ ((0 = 0) ∧ (0 = 0))) ∧ (((0 : Int) = (0 : Int)) ∧ True)) ∧ ((((@rowB x.b.g x.b.N) = (@rowB x.b.g x.b.N)) ∧ (Bool.true = Bool.true)) ∧ (False ∧ True)))))))) ∧ True)) (((((2 * (0 + x.b.n)) + 1000) * 1) ≤ 281474976710656) ∧ ((∃ (s : Nat), ((s ≤ x.w) ∧ (True ∧ (((((s : Nat) : Int) = (0 : Int)) ∧ True) ∧ (((x.b.n = (0 + x.b.n)) ∧ (∀ (q : Nat), ((q < x.b.n) → ([(Value.int IntKind.u8 (@putG (fun (k : Nat) => (@Bys.g x.b (x.b.q + k))) x.at_ s x.v q))] = [(Value.int IntKind.u8 (@Bys.g x.b (x.b.q + (q - 0))))])))) ∧
 ((((@rowB x.b.g x.b.N) = (@rowB x.b.g x.b.N)) ∧ (Bool.true = Bool.true)) ∧ True)))))) ∧ ((∀ (s : Nat), ((s ≤ x.w) → (cP (decide (((s : Nat) : Int) < ((x.w : Nat) : Int))) ((I64 (((x.at_ : Nat) : Int) + ((s : Nat) : Int))) ∧ ((I64 ((8 : Int) * ((s : Nat) : Int))) ∧ (((0 : Int) ≤ ((8 : Int) * ((s : Nat) : Int))) ∧ ((((0 : Int) ≤ (((x.at_ : Nat) : Int) + ((s : Nat) : Int))) ∧ ((((x.at_ : Nat) : Int) + ((s : Nat) : Int)) < (((0 + x.b.n) : Nat) : Int))) ∧ (((0 + (Int.toNat (((x.at_ : Nat) : Int) + ((s : Nat) : Int)))) < x.b.n) ∧ ((I64 (((s : Nat) : Int) + (1 : Int))) ∧ (∃ (s_1 : Nat), ((s_1 ≤ x.w) ∧ (((x.w - s_1) < (x.w - s)) ∧ (((((s_1 : Nat) : Int) = (((s : Nat) : Int) + (1 : Int))) ∧ True) ∧ (((x.b.n = x.b.n) ∧ (∀ (q : Nat), ((q < x.b.n) → ([(Value.int IntKind.u8 (@putG (fun (k : Nat) => (@Bys.g x.b (x.b.q + k))) x.at_ s_1 x.v q))] = (@Cs.eff (fun (k : Nat) => [(Value.int IntKind.u8 (@putG (fun (k_1 : Nat) => (@Bys.g x.b (x.b.q + k_1))) x.at_ s x.v k))]) [(@Prod.mk Nat (@List Value) (0 + (Int.toNat (((x.at_ : Nat) : Int) + ((s : Nat) : Int)))) [(Value.int IntKind.u8 (IntKind.wrap IntKind.u8 (@Int.fdiv x.v (@HPow.hPow Int Nat Int (@instHPow Int Nat (@instPowNat Int @Int.instNatPow)) (2 : Int) (@Min.min Nat @instMinNat (Int.toNat ((8 : Int) * ((s : Nat) : Int))) 64)))))])] q))))) ∧ ((((@rowB x.b.g x.b.N) = (@rowB x.b.g x.b.N)) ∧ (Bool.true = Bool.true)) ∧ True)))))))))))) (∃ (y : Unit), (True ∧ ((((0 = 0) ∧ (x.b.n = (0 + x.b.n))) ∧ (((0 : Int) = (0 : Int)) ∧ True)) ∧ ((((@rowB x.b.g x.b.N) = (@rowB x.b.g x.b.N)) ∧
 (Bool.true = Bool.true)) ∧ (((x.b.n = x.b.n) ∧ (∀ (q : Nat), ((q < x.b.n) → ([(Value.int IntKind.u8 (@PutX.res x q))] = [(Value.int IntKind.u8 (@putG (fun (k : Nat) => (@Bys.g x.b (x.b.q + k))) x.at_ s x.v q))])))) ∧ True)))))))) ∧ True))))))))))
theorem putVC_ok (x : PutX) : putVC x = putVC_wp x := by kernel_rfl
end Go.Proofs.Ytjndgegfonhhfaa
end
section
/- Sums of bytes, and numbers laid into bytes: what is asked is so. -/
namespace Go.Proofs.Ytjndgegfonhhfaa
open Go SE
theorem addVC_true (x : AddX) (hx : U32 x.c ∧ x.b.ok) : addVC x := by
  obtain ⟨hc, h1, h2, h3⟩ := hx
  unfold addVC
  have hw : ∀ a b, IntKind.u32.wrap ((BitVec.ofInt 32 a ^^^ BitVec.ofInt 32 b).toNat : Nat) = x32 a b := fun _ _ => rfl
  simp only [hd_iff, and_true, true_and, Nat.zero_add, Nat.add_zero, unit_ex, unit_all, true_implies, implies_true, Int.toNat_natCast, eq_self, and_self, hw]
  refine ⟨⟨0, by omega, rfl, rfl⟩, fun s hs => cP_intro (fun hb => ?_) (fun hb => ?_)⟩
  · have hb := of_decide_eq_true hb
    refine ⟨⟨by omega, by omega⟩, by omega, (foldB (x32 x.c 4294967295) (fun k => x.b.g (x.b.q + k)) s, x.b.g (x.b.q + s)), ⟨foldB_U (x32_U _ _) _ s, h3 _⟩, ⟨rfl, rfl⟩, by unfold I64; omega, s + 1, by omega, by omega, by omega, rfl⟩
  · have : s = x.b.n := by have := of_decide_eq_false hb; omega
    subst this
    unfold addM; rw [hide_eq]
theorem foldB_congr {c : Int} {g g' : Nat → Int} : ∀ {n : Nat}, (∀ k, k < n → g k = g' k) → foldB c g n = foldB c g' n
  | 0, _ => rfl
  | n + 1, h => by simp only [foldB]; rw [foldB_congr (n := n) fun k hk => h k (by omega), h n (by omega)]
theorem addM_congr {c : Int} {g g' : Nat → Int} {n : Nat} (h : ∀ k, k < n → g k = g' k) : addM c g n = addM c g' n := by unfold addM; rw [hide_eq, hide_eq, foldB_congr h]
theorem add_ok : CtrOk Try.prog 136 addC := det_end tt_ok mixed (.cons (ctrT_ok step_ok) .nil) anAdd 200 5 (fun _ => rfl) (fun _ => rfl) fun x hx => Eq.mp (addVC_ok x) (addVC_true x (hd_iff.1 hx))
theorem pow_min {s : Nat} (h : s ≤ 8) : (2 : Int) ^ (min (((8 : Int) * (s : Nat)).toNat) 64) = 256 ^ s := by
  have e : ((8 : Int) * (s : Nat)).toNat = 8 * s := by omega
  rw [e, Nat.min_eq_left (by omega)]
  rw [show (256 : Int) = 2 ^ 8 by rfl, ← Int.pow_mul]
theorem u8wrap (z : Int) : IntKind.u8.wrap z = z % 256 := by
  unfold IntKind.wrap
  simp [IntKind.bits, IntKind.signed]
theorem putG_more (g : Nat → Int) (a s : Nat) (v : Int) (q : Nat) : putG g a (s + 1) v q = if q = a + s then v / 256 ^ s % 256 else putG g a s v q := by
  unfold putG
  by_cases h : q = a + s
  · subst h; simp
  · rw [if_neg h]
    by_cases h2 : a ≤ q ∧ q < a + s
    · rw [if_pos h2, if_pos (by omega)]
    · rw [if_neg h2, if_neg (by omega)]
theorem putVC_true (x : PutX) (hx : x.ok) : putVC x := by
  obtain ⟨⟨h1, h2, h3⟩, h4, h5, h6, h7, h8⟩ := hx
  have z0 : ∀ (g : Nat → Int) a v q, putG g a 0 v q = g q := fun g a v q => by unfold putG; rw [if_neg (by omega)]
  have key : ∀ s : Nat, s < x.w → ∀ q, [Value.int .u8 (putG (fun k => x.b.g (x.b.q + k)) x.at_ (s + 1) x.v q)] = Cs.eff (fun k => [Value.int .u8 (putG (fun k => x.b.g (x.b.q + k)) x.at_ s x.v k)]) [((((x.at_ : Int) + (s : Int)).toNat), [Value.int .u8 (IntKind.u8.wrap (Int.fdiv x.v (2 ^ (min ((8 * (s : Int)).toNat) 64))))])] q := fun s hs q => by
    rw [pow_min (by omega), u8wrap, show ((x.at_ : Int) + (s : Int)).toNat = x.at_ + s by omega, putG_more]
    simp only [Cs.eff]
    by_cases h : q = x.at_ + s
    · subst h
      have : Int.fdiv x.v (256 ^ s) = x.v / 256 ^ s := Int.fdiv_eq_ediv_of_nonneg _ (Int.le_of_lt (Int.pow_pos (by omega)))
      simp [this]
    · simp [h, nbeq_ne h]
  unfold putVC
  have hn : x.b.n ≠ 0 := by omega
  simp only [hd_iff, and_true, true_and, Nat.zero_add, Nat.add_zero, unit_ex, unit_all, true_implies, implies_true, Int.toNat_natCast, eq_self, and_self, z0]
  have i64 : ∀ z : Int, -9223372036854775808 ≤ z → z ≤ 9223372036854775807 → I64 z := fun z a b => ⟨a, b⟩
  refine cP_intro (fun h => absurd (of_decide_eq_true h) (by omega)) fun _ => cP_intro (fun h => absurd (of_decide_eq_true h) (by omega)) fun _ => ⟨i64 _ (by omega) (by omega), cP_intro (fun h => absurd (of_decide_eq_true h) (by omega)) fun _ =>
    cP_intro (fun hb => ⟨i64 _ (by omega) (by omega), by omega, cP_intro (fun h => ?_) (fun _ => ?_)⟩) (fun _ => ?_)⟩
  · rw [pow_min h6, show Int.fdiv x.v (256 ^ x.w) = 0 by rw [Int.fdiv_eq_ediv_of_nonneg _ (Int.le_of_lt (Int.pow_pos (by omega)))]; exact Int.ediv_eq_zero_of_lt h7 h8] at h
    cases h
  all_goals
    refine ⟨h1, cP_intro (fun h => absurd (Nat.eq_of_beq_eq_true h) hn) fun _ => ⟨by omega, ⟨0, by omega, rfl, fun q _ => by rw [z0]; rfl⟩, fun s hs => cP_intro (fun h => ?_) (fun h => ?_)⟩⟩
    · have h := of_decide_eq_true h
      exact ⟨i64 _ (by omega) (by omega), i64 _ (by omega) (by omega), by omega, ⟨by omega, by omega⟩, by omega, i64 _ (by omega) (by omega), s + 1, by omega, by omega, by omega, fun q _ => key s (by omega) q⟩
    · have : s = x.w := by have := of_decide_eq_false h; omega
      subst this
      exact fun q _ => rfl
theorem put_ok : CtrOk Try.prog 130 putC := det_end tt_ok mixed TblOk.nil anPut 200 5 (fun _ => rfl) (fun _ => rfl) fun x hx => Eq.mp (putVC_ok x) (putVC_true x (hd_iff.1 hx))
end Go.Proofs.Ytjndgegfonhhfaa
end
section
/- The clock's line. -/
namespace Go.Proofs.Ytjndgegfonhhfaa
open Go SE
noncomputable def bsumC : Ctr := det Bys (fun b => [b.av 0]) 1 (fun b => [b.ro]) (fun b => Hd b.ok) (fun b => u32 (addM 0 (fun k => b.g (b.q + k)) b.n)) 1 (fun b => [b.ro])
/-- Of any slice of bytes. -/
noncomputable def sumBT : WTr := fun args h K => match args with
  | [x] => vView h x 1 fun e => ∃ (n : Nat) (g : Nat → Int), e.len = n ∧ n < 1099511627776 ∧ (∀ k, k < n → e.el k = [.int .u8 (g k)]) ∧ (∀ k, 0 ≤ g k ∧ g k < 256) ∧ K (u32 (addM 0 g n)) h
  | _ => False
def isE : List AV → Bool
  | .slE .. :: _ => true
  | _ => false
def head9 (v : Int) (k : Nat) : Int := if k = 0 then 3 else v / 256 ^ (k - 1) % 256
noncomputable def clockG (v : Int) (k : Nat) : Int := if k < 9 then head9 v k else if k < 13 then addM 0 (head9 v) 9 / 256 ^ (k - 9) % 256 else 0
noncomputable def clockC : Ctr := det Int (fun v => [u64 v]) 0 (fun _ => []) (fun v => Hd (0 ≤ v ∧ v < 18446744073709551616)) (fun _ => .slE 0 0 1 64 64) 1 (fun v => [.cells 155 (rowB (clockG v) 64)])
noncomputable def tblK : WTbl := [(135, sumBT), (130, orT isE (ctrT putC) (fun args h K => wpF Try.prog [] tt (fun _ _ _ _ => []) 200 5 130 args h K))]
end Go.Proofs.Ytjndgegfonhhfaa
end
section
/- What is asked of the clock's line. -/
namespace Go.Proofs.Ytjndgegfonhhfaa
open Go SE
def bsumVC_wp (b : Bys) : Prop := wpF Try.prog [(136, ctrT addC)] tt (fun _ _ _ _ => []) 200 5 135 (bsumC.args b) (hO bsumC.k (bsumC.os b)) (fun v h' => endsP bsumC.k b v h' bsumC.outs)
def bsumVC (b : Bys) : Prop :=
  (∃ (x : @AddX), ((Hd ((@U32 x.c) ∧ x.b.ok)) ∧ (((x.c = (0 : Int)) ∧ (((x.b.q = b.q) ∧ (x.b.n = b.n)) ∧ True)) ∧ ((((x.b.N = b.N) ∧ (∀ (q : Nat), ((q < x.b.N) → ([(Value.int IntKind.u8 (@Bys.g x.b q))] = [(Value.int IntKind.u8 (@Bys.g b q))])))) ∧ True) ∧ (∀ (y : Unit), (True → (∃ (y_1 : Unit), (True ∧ (((@addM (0 : Int) (fun (k : Nat) => (@Bys.g b (b.q + k))) b.n) = (@addM x.c (fun (k : Nat) => (@Bys.g x.b (x.b.q + k))) x.b.n)) ∧ ((((@rowB b.g b.N) = (@rowB b.g b.N)) ∧ (Bool.true = Bool.true)) ∧ True))))))))))
theorem bsumVC_ok (b : Bys) : bsumVC b = bsumVC_wp b := by kernel_rfl
def clockVC_wp (x : Int) : Prop := wpF Try.prog tblK tt (fun _ _ _ _ => []) 200 5 118 (clockC.args x) (hO clockC.k (clockC.os x)) (fun v h' => endsP clockC.k x v h' clockC.outs)
def clockVC_1 (x : Int) (k : Nat) (x_2 : @PutX) : Prop := ((@Bool.and (@Nat.beq (@List.length Value [(Value.int IntKind.u8 (@PutX.res x_2 (0 + k)))]) 1) (@List.all Value [(Value.int IntKind.u8 (@PutX.res x_2 (0 + k)))] @Value.oneCell')) = Bool.true)
def clockVC_2 (x : Int) : Prop := ((0 ≤ 64) ∧ ((64 ≤ 64) ∧ (64 ≤ 64)))
def clockVC_3 (x : Int) (k : Nat) (x_1 : @PutX) : Prop := ((@Bool.and (@Nat.beq (@List.length Value [(Value.int IntKind.u8 (@PutX.res x_1 (0 + k)))]) 1) (@List.all Value [(Value.int IntKind.u8 (@PutX.res x_1 (0 + k)))] @Value.oneCell')) = Bool.true)
def clockVC_4 (x : Int) (g : (∀ (a : Nat), Int)) (n : Nat) (x_2 : @PutX) : Prop := (((x_2.b.q = 0) ∧ ((x_2.b.n = 64) ∧ (x_2.c = 64))) ∧ ((((x_2.at_ : Nat) : Int) = (9 : Int)) ∧ ((((x_2.w : Nat) : Int) = (4 : Int)) ∧ ((x_2.v = (IntKind.wrap IntKind.u64 (@addM (0 : Int) g n))) ∧ True))))
def clockVC (x : Int) : Prop :=
  (∃ (x_1 : @PutX), ((Hd x_1.ok) ∧ ((((x_1.b.q = 0) ∧ ((x_1.b.n = 9) ∧ (x_1.c = 9))) ∧ ((((x_1.at_ : Nat) : Int) = (1 : Int)) ∧ ((((x_1.w : Nat) : Int) = (8 : Int)) ∧ ((x_1.v = x) ∧ True)))) ∧ ((((x_1.b.N = 9) ∧ (∀ (q : Nat), ((q < x_1.b.N) → ([(Value.int IntKind.u8 (@Bys.g x_1.b q))] = [(@List.getD Value [(Value.int IntKind.u8 (3 : Int)), (Value.int IntKind.u8 (0 : Int)), (Value.int IntKind.u8 (0 : Int)), (Value.int IntKind.u8 (0 : Int)), (Value.int IntKind.u8 (0 : Int)), (Value.int IntKind.u8 (0 : Int)), (Value.int IntKind.u8 (0 : Int)), (Value.int IntKind.u8 (0 : Int)), (Value.int IntKind.u8 (0 : Int))] q (@Inhabited.default Value @instInhabitedValue))])))) ∧ True) ∧ (∀ (y : Unit), (True → ((clockVC_2 x) ∧ ((64 ≤ 64) ∧ (cP (@Nat.ble x_1.b.n 64) (((0 + x_1.b.n) ≤ x_1.b.n) ∧ ((∀ (k : Nat), ((k < x_1.b.n) → (clockVC_3 x k x_1))) ∧ ((clockVC_2 x) ∧ (((0 + x_1.b.n) ≤ x_1.b.n) ∧ (∃ (n : Nat), (∃ (g : (∀ (a : Nat), Int)), ((x_1.b.n = n) ∧ ((n < 1099511627776) ∧ ((∀ (k : Nat), ((k < n) → ([(Value.int IntKind.u8 (@PutX.res x_1 (0 + k)))] = [(Value.int IntKind.u8 (g k))]))) ∧ ((∀ (k : Nat), (((0 : Int) ≤ (g k)) ∧ ((g k) < (256 : Int)))) ∧ (True ∧ (∃ (x_2 : @PutX), ((Hd x_2.ok) ∧ ((clockVC_4 x g n x_2) ∧ ((((x_2.b.N = 64) ∧ (∀ (q : Nat), ((q < x_2.b.N) → ([(Value.int IntKind.u8 (@Bys.g x_2.b q))] = (@Cs.eff (fun (p : Nat) => (@cond (@List Value) (@Bool.and (@Nat.ble 0 p) (@Nat.blt p (0 + x_1.b.n))) [(Value.int IntKind.u8 (@PutX.res x_1 (0 + (p - 0))))] [(Value.int IntKind.u8 (0 : Int))])) (@List.nil (@Prod Nat (@List Value))) q))))) ∧
 True) ∧ (∀ (y_1 : Unit), (True → (True ∧ ((clockVC_2 x) ∧ ((64 ≤ 64) ∧ (cP (@Nat.ble x_2.b.n 64) (((0 + x_2.b.n) ≤ x_2.b.n) ∧ ((∀ (k : Nat), ((k < x_2.b.n) → (clockVC_1 x k x_2))) ∧ ((∀ (k : Nat), ((k < 64) → ((@Bool.and (@Nat.beq (@List.length Value (@Cs.eff (fun (p : Nat) => (@cond (@List Value) (@Bool.and (@Nat.ble 0 p) (@Nat.blt p (0 + x_2.b.n))) [(Value.int IntKind.u8 (@PutX.res x_2 (0 + (p - 0))))] (@Cs.eff (fun (p_1 : Nat) => (@cond (@List Value) (@Bool.and (@Nat.ble 0 p_1) (@Nat.blt p_1 (0 + x_1.b.n))) [(Value.int IntKind.u8 (@PutX.res x_1 (0 + (p_1 - 0))))] [(Value.int IntKind.u8 (0 : Int))])) (@List.nil (@Prod Nat (@List Value))) p))) (@List.nil (@Prod Nat (@List Value))) k)) 1) (@List.all Value (@Cs.eff (fun (p : Nat) => (@cond (@List Value) (@Bool.and (@Nat.ble 0 p) (@Nat.blt p (0 + x_2.b.n))) [(Value.int IntKind.u8 (@PutX.res x_2 (0 + (p - 0))))] (@Cs.eff (fun (p_1 : Nat) => (@cond (@List Value) (@Bool.and (@Nat.ble 0 p_1) (@Nat.blt p_1 (0 + x_1.b.n))) [(Value.int IntKind.u8 (@PutX.res x_1 (0 + (p_1 - 0))))] [(Value.int IntKind.u8 (0 : Int))])) (@List.nil (@Prod Nat (@List Value))) p))) (@List.nil (@Prod Nat (@List Value))) k) @Value.oneCell')) = Bool.true))) ∧ ((∀ (k : Nat), ((k < 64) → ((@Bool.and (@Nat.beq (@List.length Value (@Cs.eff (@Cs.eff (fun (p : Nat) => (@cond (@List Value) (@Bool.and (@Nat.ble 0 p) (@Nat.blt p (0 + x_2.b.n))) [(Value.int IntKind.u8 (@PutX.res x_2 (0 + (p - 0))))] (@Cs.eff (fun (p_1 : Nat) => (@cond (@List Value) (@Bool.and (@Nat.ble 0 p_1) (@Nat.blt p_1 (0 + x_1.b.n))) [(Value.int IntKind.u8 (@PutX.res x_1 (0 + (p_1 - 0))))] [(Value.int IntKind.u8 (0 : Int))])) (@List.nil (@Prod Nat (@List Value))) p))) (@List.nil (@Prod Nat (@List Value)))) (@List.nil (@Prod Nat (@List Value))) k)) 1) (@List.all Value (@Cs.eff (@Cs.eff (fun (p : Nat) => (@cond (@List Value) (@Bool.and (@Nat.ble 0 p) (@Nat.blt p (0 + x_2.b.n))) [(Value.int IntKind.u8 (@PutX.res x_2 (0 + (p - 0))))] (@Cs.eff (fun (p_1 : Nat) => (@cond (@List Value) (@Bool.and (@Nat.ble 0 p_1) (@Nat.blt p_1 (0 + x_1.b.n))) [(Value.int IntKind.u8 (@PutX.res x_1 (0 + (p_1 - 0))))] [(Value.int IntKind.u8 (0 : Int))])) (@List.nil (@Prod Nat (@List Value))) p))) (@List.nil (@Prod Nat (@List Value)))) (@List.nil (@Prod Nat (@List Value))) k) @Value.oneCell')) = Bool.true))) ∧
 ((∀ (k : Nat), ((k < 64) → ((@Bool.and (@Nat.beq (@List.length Value (@Cs.eff (@Cs.eff (@Cs.eff (fun (p : Nat) => (@cond (@List Value) (@Bool.and (@Nat.ble 0 p) (@Nat.blt p (0 + x_2.b.n))) [(Value.int IntKind.u8 (@PutX.res x_2 (0 + (p - 0))))] (@Cs.eff (fun (p_1 : Nat) => (@cond (@List Value) (@Bool.and (@Nat.ble 0 p_1) (@Nat.blt p_1 (0 + x_1.b.n))) [(Value.int IntKind.u8 (@PutX.res x_1 (0 + (p_1 - 0))))] [(Value.int IntKind.u8 (0 : Int))])) (@List.nil (@Prod Nat (@List Value))) p))) (@List.nil (@Prod Nat (@List Value)))) (@List.nil (@Prod Nat (@List Value)))) (@List.nil (@Prod Nat (@List Value))) k)) 1) (@List.all Value (@Cs.eff (@Cs.eff (@Cs.eff (fun (p : Nat) => (@cond (@List Value) (@Bool.and (@Nat.ble 0 p) (@Nat.blt p (0 + x_2.b.n))) [(Value.int IntKind.u8 (@PutX.res x_2 (0 + (p - 0))))] (@Cs.eff (fun (p_1 : Nat) => (@cond (@List Value) (@Bool.and (@Nat.ble 0 p_1) (@Nat.blt p_1 (0 + x_1.b.n))) [(Value.int IntKind.u8 (@PutX.res x_1 (0 + (p_1 - 0))))] [(Value.int IntKind.u8 (0 : Int))])) (@List.nil (@Prod Nat (@List Value))) p))) (@List.nil (@Prod Nat (@List Value)))) (@List.nil (@Prod Nat (@List Value)))) (@List.nil (@Prod Nat (@List Value))) k) @Value.oneCell')) = Bool.true))) ∧ ((clockVC_2 x) ∧ (∃ (y_2 : Unit), (True ∧ (((0 = 0) ∧ ((64 = 64) ∧ (64 = 64))) ∧ (((64 = 64) ∧ (∀ (q : Nat), ((q < 64) → ([(Value.int IntKind.u8 (@clockG x q))] = (@Cs.eff (@Cs.eff (@Cs.eff (@Cs.eff (fun (p : Nat) => (@cond (@List Value) (@Bool.and (@Nat.ble 0 p) (@Nat.blt p (0 + x_2.b.n))) [(Value.int IntKind.u8 (@PutX.res x_2 (0 + (p - 0))))] (@Cs.eff (fun (p_1 : Nat) => (@cond (@List Value) (@Bool.and (@Nat.ble 0 p_1) (@Nat.blt p_1 (0 + x_1.b.n))) [(Value.int IntKind.u8 (@PutX.res x_1 (0 + (p_1 - 0))))] [(Value.int IntKind.u8 (0 : Int))])) (@List.nil (@Prod Nat (@List Value))) p))) (@List.nil (@Prod Nat (@List Value)))) (@List.nil (@Prod Nat (@List Value)))) (@List.nil (@Prod Nat (@List Value)))) (@List.nil (@Prod Nat (@List Value))) q))))) ∧
 True)))))))))) ((64 ≤ x_2.b.n) ∧ ((∀ (k : Nat), ((k < 64) → (clockVC_1 x k x_2))) ∧ ((∀ (k : Nat), ((k < 64) → ((@Bool.and (@Nat.beq (@List.length Value (@Cs.eff (fun (p : Nat) => (@cond (@List Value) (@Bool.and (@Nat.ble 0 p) (@Nat.blt p 64)) [(Value.int IntKind.u8 (@PutX.res x_2 (0 + (p - 0))))] (@Cs.eff (fun (p_1 : Nat) => (@cond (@List Value) (@Bool.and (@Nat.ble 0 p_1) (@Nat.blt p_1 (0 + x_1.b.n))) [(Value.int IntKind.u8 (@PutX.res x_1 (0 + (p_1 - 0))))] [(Value.int IntKind.u8 (0 : Int))])) (@List.nil (@Prod Nat (@List Value))) p))) (@List.nil (@Prod Nat (@List Value))) k)) 1) (@List.all Value (@Cs.eff (fun (p : Nat) => (@cond (@List Value) (@Bool.and (@Nat.ble 0 p) (@Nat.blt p 64)) [(Value.int IntKind.u8 (@PutX.res x_2 (0 + (p - 0))))] (@Cs.eff (fun (p_1 : Nat) => (@cond (@List Value) (@Bool.and (@Nat.ble 0 p_1) (@Nat.blt p_1 (0 + x_1.b.n))) [(Value.int IntKind.u8 (@PutX.res x_1 (0 + (p_1 - 0))))] [(Value.int IntKind.u8 (0 : Int))])) (@List.nil (@Prod Nat (@List Value))) p))) (@List.nil (@Prod Nat (@List Value))) k) @Value.oneCell')) = Bool.true))) ∧ ((∀ (k : Nat), ((k < 64) → ((@Bool.and (@Nat.beq (@List.length Value (@Cs.eff (@Cs.eff (fun (p : Nat) => (@cond (@List Value) (@Bool.and (@Nat.ble 0 p) (@Nat.blt p 64)) [(Value.int IntKind.u8 (@PutX.res x_2 (0 + (p - 0))))] (@Cs.eff (fun (p_1 : Nat) => (@cond (@List Value) (@Bool.and (@Nat.ble 0 p_1) (@Nat.blt p_1 (0 + x_1.b.n))) [(Value.int IntKind.u8 (@PutX.res x_1 (0 + (p_1 - 0))))] [(Value.int IntKind.u8 (0 : Int))])) (@List.nil (@Prod Nat (@List Value))) p))) (@List.nil (@Prod Nat (@List Value)))) (@List.nil (@Prod Nat (@List Value))) k)) 1) (@List.all Value (@Cs.eff (@Cs.eff (fun (p : Nat) => (@cond (@List Value) (@Bool.and (@Nat.ble 0 p) (@Nat.blt p 64)) [(Value.int IntKind.u8 (@PutX.res x_2 (0 + (p - 0))))] (@Cs.eff (fun (p_1 : Nat) => (@cond (@List Value) (@Bool.and (@Nat.ble 0 p_1) (@Nat.blt p_1 (0 + x_1.b.n))) [(Value.int IntKind.u8 (@PutX.res x_1 (0 + (p_1 - 0))))] [(Value.int IntKind.u8 (0 : Int))])) (@List.nil (@Prod Nat (@List Value))) p))) (@List.nil (@Prod Nat (@List Value)))) (@List.nil (@Prod Nat (@List Value))) k) @Value.oneCell')) = Bool.true))) ∧
 ((∀ (k : Nat), ((k < 64) → ((@Bool.and (@Nat.beq (@List.length Value (@Cs.eff (@Cs.eff (@Cs.eff (fun (p : Nat) => (@cond (@List Value) (@Bool.and (@Nat.ble 0 p) (@Nat.blt p 64)) [(Value.int IntKind.u8 (@PutX.res x_2 (0 + (p - 0))))] (@Cs.eff (fun (p_1 : Nat) => (@cond (@List Value) (@Bool.and (@Nat.ble 0 p_1) (@Nat.blt p_1 (0 + x_1.b.n))) [(Value.int IntKind.u8 (@PutX.res x_1 (0 + (p_1 - 0))))] [(Value.int IntKind.u8 (0 : Int))])) (@List.nil (@Prod Nat (@List Value))) p))) (@List.nil (@Prod Nat (@List Value)))) (@List.nil (@Prod Nat (@List Value)))) (@List.nil (@Prod Nat (@List Value))) k)) 1) (@List.all Value (@Cs.eff (@Cs.eff (@Cs.eff (fun (p : Nat) => (@cond (@List Value) (@Bool.and (@Nat.ble 0 p) (@Nat.blt p 64)) [(Value.int IntKind.u8 (@PutX.res x_2 (0 + (p - 0))))] (@Cs.eff (fun (p_1 : Nat) => (@cond (@List Value) (@Bool.and (@Nat.ble 0 p_1) (@Nat.blt p_1 (0 + x_1.b.n))) [(Value.int IntKind.u8 (@PutX.res x_1 (0 + (p_1 - 0))))] [(Value.int IntKind.u8 (0 : Int))])) (@List.nil (@Prod Nat (@List Value))) p))) (@List.nil (@Prod Nat (@List Value)))) (@List.nil (@Prod Nat (@List Value)))) (@List.nil (@Prod Nat (@List Value))) k) @Value.oneCell')) = Bool.true))) ∧ ((clockVC_2 x) ∧ (∃ (y_2 : Unit), (True ∧ (((0 = 0) ∧ ((64 = 64) ∧ (64 = 64))) ∧ (((64 = 64) ∧ (∀ (q : Nat), ((q < 64) → ([(Value.int IntKind.u8 (@clockG x q))] = (@Cs.eff (@Cs.eff (@Cs.eff (@Cs.eff (fun (p : Nat) => (@cond (@List Value) (@Bool.and (@Nat.ble 0 p) (@Nat.blt p 64)) [(Value.int IntKind.u8 (@PutX.res x_2 (0 + (p - 0))))] (@Cs.eff (fun (p_1 : Nat) => (@cond (@List Value) (@Bool.and (@Nat.ble 0 p_1) (@Nat.blt p_1 (0 + x_1.b.n))) [(Value.int IntKind.u8 (@PutX.res x_1 (0 + (p_1 - 0))))] [(Value.int IntKind.u8 (0 : Int))])) (@List.nil (@Prod Nat (@List Value))) p))) (@List.nil (@Prod Nat (@List Value)))) (@List.nil (@Prod Nat (@List Value)))) (@List.nil (@Prod Nat (@List Value)))) (@List.nil (@Prod Nat (@List Value))) q))))) ∧
 True))))))))))))))))))))))))))))))) ((64 ≤ x_1.b.n) ∧ ((∀ (k : Nat), ((k < 64) → (clockVC_3 x k x_1))) ∧ ((clockVC_2 x) ∧ (((0 + x_1.b.n) ≤ x_1.b.n) ∧ (∃ (n : Nat), (∃ (g : (∀ (a : Nat), Int)), ((x_1.b.n = n) ∧ ((n < 1099511627776) ∧ ((∀ (k : Nat), ((k < n) → ([(Value.int IntKind.u8 (@PutX.res x_1 (0 + k)))] = [(Value.int IntKind.u8 (g k))]))) ∧ ((∀ (k : Nat), (((0 : Int) ≤ (g k)) ∧ ((g k) < (256 : Int)))) ∧ (True ∧ (∃ (x_2 : @PutX), ((Hd x_2.ok) ∧ ((clockVC_4 x g n x_2) ∧ ((((x_2.b.N = 64) ∧ (∀ (q : Nat), ((q < x_2.b.N) → ([(Value.int IntKind.u8 (@Bys.g x_2.b q))] = (@Cs.eff (fun (p : Nat) => (@cond (@List Value) (@Bool.and (@Nat.ble 0 p) (@Nat.blt p 64)) [(Value.int IntKind.u8 (@PutX.res x_1 (0 + (p - 0))))] [(Value.int IntKind.u8 (0 : Int))])) (@List.nil (@Prod Nat (@List Value))) q))))) ∧ True) ∧ (∀ (y_1 : Unit), (True → (True ∧ ((clockVC_2 x) ∧ ((64 ≤ 64) ∧ (cP (@Nat.ble x_2.b.n 64) (((0 + x_2.b.n) ≤ x_2.b.n) ∧ ((∀ (k : Nat), ((k < x_2.b.n) → (clockVC_1 x k x_2))) ∧ ((∀ (k : Nat), ((k < 64) → ((@Bool.and (@Nat.beq (@List.length Value (@Cs.eff (fun (p : Nat) => (@cond (@List Value) (@Bool.and (@Nat.ble 0 p) (@Nat.blt p (0 + x_2.b.n))) [(Value.int IntKind.u8 (@PutX.res x_2 (0 + (p - 0))))] (@Cs.eff (fun (p_1 : Nat) => (@cond (@List Value) (@Bool.and (@Nat.ble 0 p_1) (@Nat.blt p_1 64)) [(Value.int IntKind.u8 (@PutX.res x_1 (0 + (p_1 - 0))))] [(Value.int IntKind.u8 (0 : Int))])) (@List.nil (@Prod Nat (@List Value))) p))) (@List.nil (@Prod Nat (@List Value))) k)) 1) (@List.all Value (@Cs.eff (fun (p : Nat) => (@cond (@List Value) (@Bool.and (@Nat.ble 0 p) (@Nat.blt p (0 + x_2.b.n))) [(Value.int IntKind.u8 (@PutX.res x_2 (0 + (p - 0))))] (@Cs.eff (fun (p_1 : Nat) => (@cond (@List Value) (@Bool.and (@Nat.ble 0 p_1) (@Nat.blt p_1 64)) [(Value.int IntKind.u8 (@PutX.res x_1 (0 + (p_1 - 0))))] [(Value.int IntKind.u8 (0 : Int))])) (@List.nil (@Prod Nat (@List Value))) p))) (@List.nil (@Prod Nat (@List Value))) k) @Value.oneCell')) = Bool.true))) ∧
 ((∀ (k : Nat), ((k < 64) → ((@Bool.and (@Nat.beq (@List.length Value (@Cs.eff (@Cs.eff (fun (p : Nat) => (@cond (@List Value) (@Bool.and (@Nat.ble 0 p) (@Nat.blt p (0 + x_2.b.n))) [(Value.int IntKind.u8 (@PutX.res x_2 (0 + (p - 0))))] (@Cs.eff (fun (p_1 : Nat) => (@cond (@List Value) (@Bool.and (@Nat.ble 0 p_1) (@Nat.blt p_1 64)) [(Value.int IntKind.u8 (@PutX.res x_1 (0 + (p_1 - 0))))] [(Value.int IntKind.u8 (0 : Int))])) (@List.nil (@Prod Nat (@List Value))) p))) (@List.nil (@Prod Nat (@List Value)))) (@List.nil (@Prod Nat (@List Value))) k)) 1) (@List.all Value (@Cs.eff (@Cs.eff (fun (p : Nat) => (@cond (@List Value) (@Bool.and (@Nat.ble 0 p) (@Nat.blt p (0 + x_2.b.n))) [(Value.int IntKind.u8 (@PutX.res x_2 (0 + (p - 0))))] (@Cs.eff (fun (p_1 : Nat) => (@cond (@List Value) (@Bool.and (@Nat.ble 0 p_1) (@Nat.blt p_1 64)) [(Value.int IntKind.u8 (@PutX.res x_1 (0 + (p_1 - 0))))] [(Value.int IntKind.u8 (0 : Int))])) (@List.nil (@Prod Nat (@List Value))) p))) (@List.nil (@Prod Nat (@List Value)))) (@List.nil (@Prod Nat (@List Value))) k) @Value.oneCell')) = Bool.true))) ∧ ((∀ (k : Nat), ((k < 64) → ((@Bool.and (@Nat.beq (@List.length Value (@Cs.eff (@Cs.eff (@Cs.eff (fun (p : Nat) => (@cond (@List Value) (@Bool.and (@Nat.ble 0 p) (@Nat.blt p (0 + x_2.b.n))) [(Value.int IntKind.u8 (@PutX.res x_2 (0 + (p - 0))))] (@Cs.eff (fun (p_1 : Nat) => (@cond (@List Value) (@Bool.and (@Nat.ble 0 p_1) (@Nat.blt p_1 64)) [(Value.int IntKind.u8 (@PutX.res x_1 (0 + (p_1 - 0))))] [(Value.int IntKind.u8 (0 : Int))])) (@List.nil (@Prod Nat (@List Value))) p))) (@List.nil (@Prod Nat (@List Value)))) (@List.nil (@Prod Nat (@List Value)))) (@List.nil (@Prod Nat (@List Value))) k)) 1) (@List.all Value (@Cs.eff (@Cs.eff (@Cs.eff (fun (p : Nat) => (@cond (@List Value) (@Bool.and (@Nat.ble 0 p) (@Nat.blt p (0 + x_2.b.n))) [(Value.int IntKind.u8 (@PutX.res x_2 (0 + (p - 0))))] (@Cs.eff (fun (p_1 : Nat) => (@cond (@List Value) (@Bool.and (@Nat.ble 0 p_1) (@Nat.blt p_1 64)) [(Value.int IntKind.u8 (@PutX.res x_1 (0 + (p_1 - 0))))] [(Value.int IntKind.u8 (0 : Int))])) (@List.nil (@Prod Nat (@List Value))) p))) (@List.nil (@Prod Nat (@List Value)))) (@List.nil (@Prod Nat (@List Value)))) (@List.nil (@Prod Nat (@List Value))) k) @Value.oneCell')) = Bool.true))) ∧
 ((clockVC_2 x) ∧ (∃ (y_2 : Unit), (True ∧ (((0 = 0) ∧ ((64 = 64) ∧ (64 = 64))) ∧ (((64 = 64) ∧ (∀ (q : Nat), ((q < 64) → ([(Value.int IntKind.u8 (@clockG x q))] = (@Cs.eff (@Cs.eff (@Cs.eff (@Cs.eff (fun (p : Nat) => (@cond (@List Value) (@Bool.and (@Nat.ble 0 p) (@Nat.blt p (0 + x_2.b.n))) [(Value.int IntKind.u8 (@PutX.res x_2 (0 + (p - 0))))] (@Cs.eff (fun (p_1 : Nat) => (@cond (@List Value) (@Bool.and (@Nat.ble 0 p_1) (@Nat.blt p_1 64)) [(Value.int IntKind.u8 (@PutX.res x_1 (0 + (p_1 - 0))))] [(Value.int IntKind.u8 (0 : Int))])) (@List.nil (@Prod Nat (@List Value))) p))) (@List.nil (@Prod Nat (@List Value)))) (@List.nil (@Prod Nat (@List Value)))) (@List.nil (@Prod Nat (@List Value)))) (@List.nil (@Prod Nat (@List Value))) q))))) ∧ True)))))))))) ((64 ≤ x_2.b.n) ∧ ((∀ (k : Nat), ((k < 64) → (clockVC_1 x k x_2))) ∧ ((∀ (k : Nat), ((k < 64) → ((@Bool.and (@Nat.beq (@List.length Value (@Cs.eff (fun (p : Nat) => (@cond (@List Value) (@Bool.and (@Nat.ble 0 p) (@Nat.blt p 64)) [(Value.int IntKind.u8 (@PutX.res x_2 (0 + (p - 0))))] (@Cs.eff (fun (p_1 : Nat) => (@cond (@List Value) (@Bool.and (@Nat.ble 0 p_1) (@Nat.blt p_1 64)) [(Value.int IntKind.u8 (@PutX.res x_1 (0 + (p_1 - 0))))] [(Value.int IntKind.u8 (0 : Int))])) (@List.nil (@Prod Nat (@List Value))) p))) (@List.nil (@Prod Nat (@List Value))) k)) 1) (@List.all Value (@Cs.eff (fun (p : Nat) => (@cond (@List Value) (@Bool.and (@Nat.ble 0 p) (@Nat.blt p 64)) [(Value.int IntKind.u8 (@PutX.res x_2 (0 + (p - 0))))] (@Cs.eff (fun (p_1 : Nat) => (@cond (@List Value) (@Bool.and (@Nat.ble 0 p_1) (@Nat.blt p_1 64)) [(Value.int IntKind.u8 (@PutX.res x_1 (0 + (p_1 - 0))))] [(Value.int IntKind.u8 (0 : Int))])) (@List.nil (@Prod Nat (@List Value))) p))) (@List.nil (@Prod Nat (@List Value))) k) @Value.oneCell')) = Bool.true))) ∧
 ((∀ (k : Nat), ((k < 64) → ((@Bool.and (@Nat.beq (@List.length Value (@Cs.eff (@Cs.eff (fun (p : Nat) => (@cond (@List Value) (@Bool.and (@Nat.ble 0 p) (@Nat.blt p 64)) [(Value.int IntKind.u8 (@PutX.res x_2 (0 + (p - 0))))] (@Cs.eff (fun (p_1 : Nat) => (@cond (@List Value) (@Bool.and (@Nat.ble 0 p_1) (@Nat.blt p_1 64)) [(Value.int IntKind.u8 (@PutX.res x_1 (0 + (p_1 - 0))))] [(Value.int IntKind.u8 (0 : Int))])) (@List.nil (@Prod Nat (@List Value))) p))) (@List.nil (@Prod Nat (@List Value)))) (@List.nil (@Prod Nat (@List Value))) k)) 1) (@List.all Value (@Cs.eff (@Cs.eff (fun (p : Nat) => (@cond (@List Value) (@Bool.and (@Nat.ble 0 p) (@Nat.blt p 64)) [(Value.int IntKind.u8 (@PutX.res x_2 (0 + (p - 0))))] (@Cs.eff (fun (p_1 : Nat) => (@cond (@List Value) (@Bool.and (@Nat.ble 0 p_1) (@Nat.blt p_1 64)) [(Value.int IntKind.u8 (@PutX.res x_1 (0 + (p_1 - 0))))] [(Value.int IntKind.u8 (0 : Int))])) (@List.nil (@Prod Nat (@List Value))) p))) (@List.nil (@Prod Nat (@List Value)))) (@List.nil (@Prod Nat (@List Value))) k) @Value.oneCell')) = Bool.true))) ∧ ((∀ (k : Nat), ((k < 64) → ((@Bool.and (@Nat.beq (@List.length Value (@Cs.eff (@Cs.eff (@Cs.eff (fun (p : Nat) => (@cond (@List Value) (@Bool.and (@Nat.ble 0 p) (@Nat.blt p 64)) [(Value.int IntKind.u8 (@PutX.res x_2 (0 + (p - 0))))] (@Cs.eff (fun (p_1 : Nat) => (@cond (@List Value) (@Bool.and (@Nat.ble 0 p_1) (@Nat.blt p_1 64)) [(Value.int IntKind.u8 (@PutX.res x_1 (0 + (p_1 - 0))))] [(Value.int IntKind.u8 (0 : Int))])) (@List.nil (@Prod Nat (@List Value))) p))) (@List.nil (@Prod Nat (@List Value)))) (@List.nil (@Prod Nat (@List Value)))) (@List.nil (@Prod Nat (@List Value))) k)) 1) (@List.all Value (@Cs.eff (@Cs.eff (@Cs.eff (fun (p : Nat) => (@cond (@List Value) (@Bool.and (@Nat.ble 0 p) (@Nat.blt p 64)) [(Value.int IntKind.u8 (@PutX.res x_2 (0 + (p - 0))))] (@Cs.eff (fun (p_1 : Nat) => (@cond (@List Value) (@Bool.and (@Nat.ble 0 p_1) (@Nat.blt p_1 64)) [(Value.int IntKind.u8 (@PutX.res x_1 (0 + (p_1 - 0))))] [(Value.int IntKind.u8 (0 : Int))])) (@List.nil (@Prod Nat (@List Value))) p))) (@List.nil (@Prod Nat (@List Value)))) (@List.nil (@Prod Nat (@List Value)))) (@List.nil (@Prod Nat (@List Value))) k) @Value.oneCell')) = Bool.true))) ∧
 ((clockVC_2 x) ∧ (∃ (y_2 : Unit), (True ∧ (((0 = 0) ∧ ((64 = 64) ∧ (64 = 64))) ∧ (((64 = 64) ∧ (∀ (q : Nat), ((q < 64) → ([(Value.int IntKind.u8 (@clockG x q))] = (@Cs.eff (@Cs.eff (@Cs.eff (@Cs.eff (fun (p : Nat) => (@cond (@List Value) (@Bool.and (@Nat.ble 0 p) (@Nat.blt p 64)) [(Value.int IntKind.u8 (@PutX.res x_2 (0 + (p - 0))))] (@Cs.eff (fun (p_1 : Nat) => (@cond (@List Value) (@Bool.and (@Nat.ble 0 p_1) (@Nat.blt p_1 64)) [(Value.int IntKind.u8 (@PutX.res x_1 (0 + (p_1 - 0))))] [(Value.int IntKind.u8 (0 : Int))])) (@List.nil (@Prod Nat (@List Value))) p))) (@List.nil (@Prod Nat (@List Value)))) (@List.nil (@Prod Nat (@List Value)))) (@List.nil (@Prod Nat (@List Value)))) (@List.nil (@Prod Nat (@List Value))) q))))) ∧ True))))))))))))))))))))))))))))))))))))))))
theorem clockVC_ok (x : Int) : clockVC x = clockVC_wp x := by kernel_rfl
end Go.Proofs.Ytjndgegfonhhfaa
end
section
/- The clock's line: what is asked is so. -/
namespace Go.Proofs.Ytjndgegfonhhfaa
open Go SE
theorem bsumVC_true (b : Bys) (hb : b.ok) : bsumVC b := by
  unfold bsumVC
  simp only [hd_iff, and_true, true_and, Nat.zero_add, Nat.add_zero, unit_ex, unit_all, true_implies, implies_true, Int.toNat_natCast, eq_self, and_self]
  exact ⟨⟨0, b⟩, ⟨(show U32 0 from ⟨by omega, by omega⟩), hb⟩, ⟨rfl, rfl, rfl⟩, ⟨rfl, fun _ _ => rfl⟩, rfl⟩
theorem div_mod_u8 (v : Int) (k : Nat) : 0 ≤ v / 256 ^ k % 256 ∧ v / 256 ^ k % 256 < 256 := ⟨Int.emod_nonneg _ (by omega), Int.emod_lt_of_pos _ (by omega)⟩
theorem putG_u8 {g : Nat → Int} (h : ∀ k, 0 ≤ g k ∧ g k < 256) (a w : Nat) (v : Int) (k : Nat) : 0 ≤ putG g a w v k ∧ putG g a w v k < 256 := by
  unfold putG
  split
  · exact div_mod_u8 _ _
  · exact h k
theorem clockVC_true (v : Int) (hv : 0 ≤ v ∧ v < 18446744073709551616) : clockVC v := by
  unfold clockVC
  simp only [clockVC_1, clockVC_2, clockVC_3, clockVC_4]
  simp only [hd_iff, and_true, true_and, Nat.zero_add, Nat.add_zero, unit_ex, unit_all, true_implies, implies_true, Int.toNat_natCast, eq_self, and_self]
  let b0 : Bys := ⟨fun k => if k = 0 then 3 else 0, 0, 9, 9⟩
  let x1 : PutX := ⟨b0, 1, 8, v, 9⟩
  have ok1 : x1.ok := ⟨⟨by simp [x1, b0], by simp [x1, b0], fun k => by simp only [x1, b0]; split <;> omega⟩, by simp [x1, b0], by simp [x1], by simp [x1], hv.1, hv.2⟩
  have r1 : ∀ k, k < 9 → x1.res k = head9 v k := fun k hk => by
    simp only [PutX.res, putG, head9, x1, b0]
    by_cases h : k = 0
    · subst h; simp
    · rw [if_pos (by omega), if_neg h]
  have u1 : ∀ k, 0 ≤ x1.res k ∧ x1.res k < 256 := putG_u8 (fun k => ok1.1.2.2 _) _ _ _
  let b1 : Bys := ⟨fun k => if k < 9 then x1.res k else 0, 0, 64, 64⟩
  let x2 : PutX := ⟨b1, 9, 4, addM 0 x1.res 9, 64⟩
  have c1 : addM 0 x1.res 9 = addM 0 (head9 v) 9 := addM_congr r1
  have hU := addM_U 0 x1.res 9
  have ok2 : x2.ok := ⟨⟨by simp [x2, b1], by simp [x2, b1], fun k => by
    show 0 ≤ (if k < 9 then x1.res k else 0) ∧ (if k < 9 then x1.res k else 0) < 256
    split
    · exact u1 k
    · exact ⟨by omega, by omega⟩⟩, by simp [x2, b1], by simp [x2], by simp [x2], hU.1, hU.2⟩
  have w64 : IntKind.u64.wrap (addM 0 x1.res 9) = addM 0 x1.res 9 := by
    have := hU.1; have := hU.2
    unfold IntKind.wrap; simp [IntKind.bits, IntKind.signed]; omega
  have nb : x1.b.n = 9 := rfl
  have nb2 : x2.b.n = 64 := rfl
  have ble9 : Nat.ble 9 64 = true := rfl
  have ble64 : Nat.ble 64 64 = true := rfl
  refine ⟨x1, ok1, ⟨⟨rfl, rfl, rfl⟩, rfl, rfl, rfl⟩, ⟨rfl, fun q hq => ?_⟩, by omega, by omega, ?_⟩
  · have hq : q < 9 := hq
    match q, hq with
    | 0, _ | 1, _ | 2, _ | 3, _ | 4, _ | 5, _ | 6, _ | 7, _ | 8, _ => rfl
  simp only [nb, ble9, cP, eff_nil, cond_one, cond_int, ones_int, row_int, ones_bool, row_bool, cond_bool, ble0, Bool.true_and, Nat.sub_zero, implies_true, true_and]
  refine ⟨by omega, by omega, by omega, 9, x1.res, rfl, by omega, fun _ _ => rfl, u1, x2, ok2, ⟨⟨rfl, rfl, rfl⟩, rfl, rfl, w64.symm⟩, ⟨rfl, fun q hq => ?_⟩, by omega, by omega, ?_⟩
  · show (if q < 9 then x1.res q else 0) = _
    rw [blt_iff_decide, bif_decide]
  simp only [nb2, ble64, cP, eff_nil, cond_one, cond_int, ones_int, row_int, ones_bool, row_bool, cond_bool, ble0, Bool.true_and, Nat.sub_zero, implies_true, true_and]
  refine ⟨by omega, by omega, fun q hq => ?_⟩
  simp [nblt_iff.2 hq]
  show clockG v q = putG (fun k => if 0 + k < 9 then x1.res (0 + k) else 0) 9 4 (addM 0 x1.res 9) q
  simp only [clockG, putG, c1, Nat.zero_add]
  by_cases h : q < 9
  · rw [if_pos h, if_neg (by omega), if_pos h, r1 q h]
  · by_cases h2 : q < 13
    · rw [if_neg h, if_pos h2, if_pos (by omega)]
    · rw [if_neg h, if_neg h2, if_neg (by omega), if_neg h]
end Go.Proofs.Ytjndgegfonhhfaa
end
section
/- The device; the clock's line as a contract. -/
namespace Go.Proofs.Ytjndgegfonhhfaa
open Go SE
theorem det_val {P : Program} {f : FuncId} {X : Type} {args : X → List AV} {k m : Nat} {os os' : X → List AObj} {pre : X → Prop} {ret : X → AV} (hC : CtrOk P f (det X args k os pre ret m os')) (x : X) (hp : pre x) : Sp P f (args x) (hO k (os x)) (fun v _ => v = ret x) :=
  (hC x hp).2.mono fun _ _ hh => by
    have ha : allOuts x (fun v _ => v = ret x) (det X args k os pre ret m os').outs := fun _ _ => rfl
    exact allOuts_ok ha hh
theorem bsum_ok : CtrOk Try.prog 135 bsumC := det_end tt_ok mixed (.cons (ctrT_ok add_ok) .nil) (fun _ _ _ _ _ => []) 200 5 (fun _ => rfl) (fun _ => rfl) fun x hx => Eq.mp (bsumVC_ok x) (bsumVC_true x (hd_iff.1 hx))
theorem sumBT_ok (args : List AV) (h : Heap) (K : AV → Heap → Prop) (hq : sumBT args h K) : Sp Try.prog 135 args h K := by
  unfold sumBT at hq
  split at hq
  · refine sp_slice (bsum_ok ⟨fun _ => 0, 0, 0, 0⟩ (hd_iff.2 ⟨by simp, by simp, fun _ => by simp⟩)).2.1 (by omega) hq fun e he => ?_
    obtain ⟨n, g, h1, h2, h3, h4, hK⟩ := he
    have hs := det_val bsum_ok ⟨g, 0, n, n⟩ (hd_iff.2 ⟨by simp, h2, h4⟩)
    refine ⟨n, fun k => [.int .u8 (g k)], u32 (addM 0 (fun k => g (0 + k)) n), h1, h3, rfl, ?_, hs⟩
    simpa only [Nat.zero_add] using hK
  · exact hq.elim
theorem tblK_ok : TblOk Try.prog tblK := .cons sumBT_ok (.cons (orT_ok (ctrT_ok put_ok) fun _ _ _ hq => wpF_ok tt_ok mixed TblOk.nil _ _ _ _ _ _ _ hq) .nil)
theorem clock_ok : CtrOk Try.prog 118 clockC := det_end tt_ok mixed tblK_ok (fun _ _ _ _ _ => []) 200 5 (fun _ => rfl) (fun _ => rfl) fun x hx => Eq.mp (clockVC_ok x) (clockVC_true x (hd_iff.1 hx))
theorem ext_load64 : IsExt Try.prog 96 (Extern.Atomic.loadT (.int .u64)) := ⟨Try.f96, by kernel_rfl, by kernel_rfl, by kernel_rfl, by kernel_rfl, by kernel_rfl⟩
theorem ext_store64 : IsExt Try.prog 95 Extern.Atomic.storeT := ⟨Try.f95, by kernel_rfl, by kernel_rfl, by kernel_rfl, by kernel_rfl, by kernel_rfl⟩
theorem ext_cas64 : IsExt Try.prog 97 (Extern.Atomic.casT (.int .u64)) := ⟨Try.f97, by kernel_rfl, by kernel_rfl, by kernel_rfl, by kernel_rfl, by kernel_rfl⟩
theorem ext_addi64 : IsExt Try.prog 125 (Extern.Atomic.update (Op.intArith .add) .i64 true) := ⟨Try.f125, by kernel_rfl, by kernel_rfl, by kernel_rfl, by kernel_rfl, by kernel_rfl⟩
theorem ext_loadi64 : IsExt Try.prog 101 (Extern.Atomic.loadT (.int .i64)) := ⟨Try.f101, by kernel_rfl, by kernel_rfl, by kernel_rfl, by kernel_rfl, by kernel_rfl⟩
/-- Atomics. -/
noncomputable def tblX : WTbl := [(96, loadX .u64), (95, storeX .u64), (97, casX .u64), (125, addX .i64), (101, loadX .i64)]
theorem tblX_ok : TblOk Try.prog tblX := .consX (fun _ _ _ hq => loadX_ok _ _ _ ext_load64 hq) (.consX (fun _ _ _ hq => storeX_ok _ _ _ ext_store64 hq) (.consX (fun _ _ _ hq => casX_ok _ _ _ ext_cas64 hq)
  (.consX (fun _ _ _ hq => addX_ok _ _ _ ext_addi64 hq) (.consX (fun _ _ _ hq => loadX_ok _ _ _ ext_loadi64 hq) .nil))))
/-- A device: its cells' bytes (of each line those of now, kept, on the way), what is sent, how often it was asked. -/
structure DevM where
  n : Nat
  b : Nat → Int
  s : Nat → Bool
  st : Int
  fl : Int
  fe : Int
  ba : Int
  cu : Int
def small (z : Int) : Prop := 0 ≤ z ∧ z < 1099511627776
/-- What lies at a cell of a device's row. -/
noncomputable def devR (d : DevM) (p : Nat) : List Value := hide [if p % 193 = 192 then .bool (d.s (p / 193)) else .int .u8 (d.b p)]
theorem devR_eq (d : DevM) (p : Nat) : devR d p = [if p % 193 = 192 then .bool (d.s (p / 193)) else .int .u8 (d.b p)] := hide_eq _
namespace DevM
def ok (d : DevM) : Prop := d.n ≤ 258 ∧ (∀ p, 0 ≤ d.b p ∧ d.b p < 256) ∧ small d.st ∧ small d.fl ∧ small d.fe ∧ small d.ba ∧ small d.cu
def dev (i : Nat) (d : DevM) : AObj := .cells 111 (.av [.slE i 0 193 d.n d.n, i64 d.st, i64 d.fl, i64 d.fe, i64 d.ba, i64 d.cu])
noncomputable def cells (d : DevM) : AObj := .cells 146 (.row 1 (d.n * 193) (devR d) [])
noncomputable def os (d : DevM) : List AObj := [d.dev 1, d.cells]
def _root_.Go.Proofs.Ytjndgegfonhhfaa.newDev (n : Nat) : DevM := ⟨n, fun _ => 0, fun _ => false, 0, 0, 0, 0, 0⟩
def flush (d : DevM) (k : Nat) : DevM := { d with b := fun p => if k * 193 + 128 ≤ p ∧ p < k * 193 + 192 then d.b (p - 128) else d.b p, s := fun q => if q = k then true else d.s q, fl := if k < d.n then d.fl + 1 else d.fl }
/-- The first k lines are fenced. -/
def fenceTo (d : DevM) (k : Nat) : DevM := { d with b := fun p => if p / 193 < k ∧ d.s (p / 193) = true ∧ 64 ≤ p % 193 ∧ p % 193 < 128 then d.b (p + 64) else d.b p, s := fun q => if q < k then false else d.s q }
def fence (d : DevM) : DevM := { d.fenceTo d.n with fe := d.fe + 1 }
def store (d : DevM) (k a n : Nat) (g : Nat → Int) : DevM := { d with b := fun p => if k * 193 + a ≤ p ∧ p < k * 193 + a + n then g (p - (k * 193 + a)) else d.b p, st := d.st + 1 }
end DevM
noncomputable def newdC : Ctr := det Nat (fun n => [i64 n]) 0 (fun _ => []) (fun n => Hd (1 ≤ n ∧ n ≤ 258)) (fun _ => .tup [.ptr 0 0, i64 0]) 2 (fun n => (newDev n).os)
structure DevL where
  d : DevM
  k : Nat
noncomputable def flushC : Ctr := det DevL (fun x => [.ptr 0 0, i64 x.k]) 2 (fun x => x.d.os) (fun x => Hd (x.d.ok ∧ x.k < 258)) (fun x => i64 (if x.k < x.d.n then 0 else 2)) 2 (fun x => (x.d.flush x.k).os)
noncomputable def fenceC : Ctr := det DevM (fun _ => [.ptr 0 0]) 2 (fun d => d.os) (fun d => Hd d.ok) (fun _ => i64 0) 2 (fun d => d.fence.os)
noncomputable def anFence (d : DevM) : FuncId → Anns := fun f =>
  bif Nat.beq f 99 then (fun b fr h => bif Nat.beq b 0 then [{ σ := Nat, fr := fun k => [(12, i64 k)], ob := fun k => [(1, some (d.fenceTo k).cells)], inv := fun k => k ≤ d.n, meas := fun k => d.n - k }] else []) else
  fun _ _ _ => []
structure DevS where
  d : DevM
  k : Nat
  a : Nat
  b : Bys
noncomputable def storeC : Ctr := det DevS (fun x => [.ptr 0 0, i64 x.k, i64 x.a, x.b.av 2]) 3 (fun x => x.d.os ++ [x.b.ro]) (fun x => Hd (x.d.ok ∧ x.k < x.d.n ∧ x.b.ok ∧ x.a + x.b.n ≤ 64)) (fun _ => i64 0) 3 (fun x => (x.d.store x.k x.a x.b.n (fun q => x.b.g (x.b.q + q))).os ++ [x.b.ro])
end Go.Proofs.Ytjndgegfonhhfaa
end
section
/- What is asked of a device. -/
namespace Go.Proofs.Ytjndgegfonhhfaa
open Go SE
def newdVC_wp (n : Nat) : Prop := wpF Try.prog [] tt (fun _ _ _ _ => []) 200 5 29 (newdC.args n) (hO newdC.k (newdC.os n)) (fun v h' => endsP newdC.k n v h' newdC.outs)
def newdVC (n : Nat) : Prop :=
  (cP (decide (((n : Nat) : Int) < (1 : Int))) (∃ (y : Unit), (True ∧ ((False ∧ (((0 : Int) = (2 : Int)) ∧ True)) ∧ (False ∧ (False ∧ True))))) (cP (decide (@GT.gt Int @Int.instLTInt ((n : Nat) : Int) (258 : Int))) (∃ (y : Unit), (True ∧ ((False ∧ (((0 : Int) = (2 : Int)) ∧ True)) ∧ (False ∧ (False ∧ True))))) ((((0 : Int) ≤ ((n : Nat) : Int)) ∧ ((((n : Nat) : Int) ≤ ((n : Nat) : Int)) ∧ ((((193 : Int) * ((n : Nat) : Int)) ≤ (281474976710656 : Int)) ∧ (((n : Nat) : Int) < (4611686018427387904 : Int))))) ∧ (∃ (y : Unit), (True ∧ (((0 = 0) ∧ (((0 : Int) = (0 : Int)) ∧ True)) ∧ ((((0 = 0) ∧ ((n = n) ∧ (n = n))) ∧ (((0 : Int) = (0 : Int)) ∧ (((0 : Int) = (0 : Int)) ∧ (((0 : Int) = (0 : Int)) ∧ (((0 : Int) = (0 : Int)) ∧ (((0 : Int) = (0 : Int)) ∧ True)))))) ∧ ((((n * 193) = (n * 193)) ∧ (∀ (q : Nat), (∀ (j : Nat), ((q < n) → ((j < 193) → (∃ (v : Value), (((getElem? (List.replicate 192 (Value.int IntKind.u8 (0 : Int)) ++ [(Value.bool Bool.false)]) j) = (@Option.some Value v)) ∧ ((@Cs.eff (@devR (@newDev n)) (@List.nil (@Prod Nat (@List Value))) ((q * 193) + j)) = [v])))))))) ∧ True))))))))
theorem newdVC_ok (n : Nat) : newdVC n = newdVC_wp n := by kernel_rfl
def flushVC_wp (x : DevL) : Prop := wpF Try.prog tblX tt (fun _ _ _ _ => []) 200 5 98 (flushC.args x) (hO flushC.k (flushC.os x)) (fun v h' => endsP flushC.k x v h' flushC.outs)
def flushVC (x : DevL) : Prop :=
  (cP (decide (@GE.ge Int @Int.instLEInt ((x.k : Nat) : Int) ((x.d.n : Nat) : Int))) (∃ (y : Unit), (True ∧ (((@ite Int (x.k < x.d.n) (@Nat.decLt x.k x.d.n) (0 : Int) (2 : Int)) = (2 : Int)) ∧ ((((0 = 0) ∧ ((x.d.n = x.d.n) ∧ (x.d.n = x.d.n))) ∧ ((x.d.st = x.d.st) ∧ (((@ite Int (x.k < x.d.n) (@Nat.decLt x.k x.d.n) (x.d.fl + (1 : Int)) x.d.fl) = x.d.fl) ∧ ((x.d.fe = x.d.fe) ∧ ((x.d.ba = x.d.ba) ∧ ((x.d.cu = x.d.cu) ∧ True)))))) ∧ ((((x.d.n * 193) = (x.d.n * 193)) ∧ (∀ (q : Nat), ((q < (x.d.n * 193)) → ((@Cs.eff (@devR (@DevM.flush x.d x.k)) (@List.nil (@Prod Nat (@List Value))) q) = (@Cs.eff (@devR x.d) (@List.nil (@Prod Nat (@List Value))) q))))) ∧ True))))) ((I64 (64 : Int)) ∧ ((((0 : Int) ≤ ((x.k : Nat) : Int)) ∧ (((x.k : Nat) : Int) < ((x.d.n : Nat) : Int))) ∧ ((((((0 + x.k) * 193) + 0) + 64) ≤ (x.d.n * 193)) ∧ ((((((0 + x.k) * 193) + 128) + 64) ≤ (x.d.n * 193)) ∧ ((∀ (k : Nat), ((k < 64) → ((@Bool.and (@Nat.beq (@List.length Value (@Cs.eff (@devR x.d) (@List.nil (@Prod Nat (@List Value))) ((((0 + x.k) * 193) + 0) + k))) 1) (@List.all Value (@Cs.eff (@devR x.d) (@List.nil (@Prod Nat (@List Value))) ((((0 + x.k) * 193) + 0) + k)) @Value.oneCell')) = Bool.true))) ∧ (((((0 + x.k) * 193) + 192) < (x.d.n * 193)) ∧ ((I64 (x.d.fl + (1 : Int))) ∧ (∃ (y : Unit), (True ∧ (((@ite Int (x.k < x.d.n) (@Nat.decLt x.k x.d.n) (0 : Int) (2 : Int)) = (0 : Int)) ∧ ((((0 = 0) ∧ ((x.d.n = x.d.n) ∧ (x.d.n = x.d.n))) ∧ ((x.d.st = x.d.st) ∧ (((@ite Int (x.k < x.d.n) (@Nat.decLt x.k x.d.n) (x.d.fl + (1 : Int)) x.d.fl) = (x.d.fl + (1 : Int))) ∧
 ((x.d.fe = x.d.fe) ∧ ((x.d.ba = x.d.ba) ∧ ((x.d.cu = x.d.cu) ∧ True)))))) ∧ ((((x.d.n * 193) = (x.d.n * 193)) ∧ (∀ (q : Nat), ((q < (x.d.n * 193)) → ((@Cs.eff (@devR (@DevM.flush x.d x.k)) (@List.nil (@Prod Nat (@List Value))) q) = (@Cs.eff (fun (p : Nat) => (@cond (@List Value) (@Bool.and (@Nat.ble (((0 + x.k) * 193) + 128) p) (@Nat.blt p ((((0 + x.k) * 193) + 128) + 64))) (@Cs.eff (@devR x.d) (@List.nil (@Prod Nat (@List Value))) ((((0 + x.k) * 193) + 0) + (p - (((0 + x.k) * 193) + 128)))) (@Cs.eff (@devR x.d) (@List.nil (@Prod Nat (@List Value))) p))) [(@Prod.mk Nat (@List Value) (((0 + x.k) * 193) + 192) [(Value.bool Bool.true)])] q))))) ∧ True)))))))))))))
theorem flushVC_ok (x : DevL) : flushVC x = flushVC_wp x := by kernel_rfl
def fenceVC_wp (d : DevM) : Prop := wpF Try.prog tblX tt (anFence d) 200 5 99 (fenceC.args d) (hO fenceC.k (fenceC.os d)) (fun v h' => endsP fenceC.k d v h' fenceC.outs)
def fenceVC (d : DevM) : Prop :=
  ((∃ (s : Nat), ((s ≤ d.n) ∧ (True ∧ (((((s : Nat) : Int) = (0 : Int)) ∧ True) ∧ ((((d.n * 193) = (d.n * 193)) ∧ (∀ (q : Nat), ((q < (d.n * 193)) → ((@Cs.eff (@devR (@DevM.fenceTo d s)) (@List.nil (@Prod Nat (@List Value))) q) = (@Cs.eff (@devR d) (@List.nil (@Prod Nat (@List Value))) q))))) ∧ ((((0 = 0) ∧ ((d.n = d.n) ∧ (d.n = d.n))) ∧ ((d.st = d.st) ∧ ((d.fl = d.fl) ∧ ((d.fe = d.fe) ∧ ((d.ba = d.ba) ∧ ((d.cu = d.cu) ∧ True)))))) ∧ True)))))) ∧ ((∀ (s : Nat), ((s ≤ d.n) → (cP (decide (((s : Nat) : Int) < ((d.n : Nat) : Int))) ((((0 : Int) ≤ ((s : Nat) : Int)) ∧ (((s : Nat) : Int) < ((d.n : Nat) : Int))) ∧ (((((0 + s) * 193) + 192) < (d.n * 193)) ∧ (∃ (b : Bool), (((getElem? (@devR (@DevM.fenceTo d s) (((0 + s) * 193) + 192)) 0) = (@Option.some Value (Value.bool b))) ∧ (cP b ((((((0 + s) * 193) + 128) + 64) ≤ (d.n * 193)) ∧ ((((((0 + s) * 193) + 64) + 64) ≤ (d.n * 193)) ∧ ((∀ (k : Nat), ((k < 64) → ((@Bool.and (@Nat.beq (@List.length Value (@Cs.eff (@devR (@DevM.fenceTo d s)) (@List.nil (@Prod Nat (@List Value))) ((((0 + s) * 193) + 128) + k))) 1) (@List.all Value (@Cs.eff (@devR (@DevM.fenceTo d s)) (@List.nil (@Prod Nat (@List Value))) ((((0 + s) * 193) + 128) + k)) @Value.oneCell')) = Bool.true))) ∧ (((((0 + s) * 193) + 192) < (d.n * 193)) ∧ ((I64 (((s : Nat) : Int) + (1 : Int))) ∧ (∃ (s_1 : Nat), ((s_1 ≤ d.n) ∧ (((d.n - s_1) < (d.n - s)) ∧ (((((s_1 : Nat) : Int) = (((s : Nat) : Int) + (1 : Int))) ∧ True) ∧ ((((d.n * 193) = (d.n * 193)) ∧ (∀ (q : Nat), ((q < (d.n * 193)) → ((@Cs.eff (@devR (@DevM.fenceTo d s_1)) (@List.nil (@Prod Nat (@List Value))) q) = (@Cs.eff (fun (p : Nat) => (@cond (@List Value) (@Bool.and (@Nat.ble (((0 + s) * 193) + 64) p) (@Nat.blt p ((((0 + s) * 193) + 64) + 64))) (@Cs.eff (@devR (@DevM.fenceTo d s)) (@List.nil (@Prod Nat (@List Value))) ((((0 + s) * 193) + 128) + (p - (((0 + s) * 193) + 64)))) (@Cs.eff (@devR (@DevM.fenceTo d s)) (@List.nil (@Prod Nat (@List Value))) p))) [(@Prod.mk Nat (@List Value) (((0 + s) * 193) + 192) [(Value.bool Bool.false)])] q))))) ∧
 ((((0 = 0) ∧ ((d.n = d.n) ∧ (d.n = d.n))) ∧ ((d.st = d.st) ∧ ((d.fl = d.fl) ∧ ((d.fe = d.fe) ∧ ((d.ba = d.ba) ∧ ((d.cu = d.cu) ∧ True)))))) ∧ True))))))))))) ((I64 (((s : Nat) : Int) + (1 : Int))) ∧ (∃ (s_1 : Nat), ((s_1 ≤ d.n) ∧ (((d.n - s_1) < (d.n - s)) ∧ (((((s_1 : Nat) : Int) = (((s : Nat) : Int) + (1 : Int))) ∧ True) ∧ ((((d.n * 193) = (d.n * 193)) ∧ (∀ (q : Nat), ((q < (d.n * 193)) → ((@Cs.eff (@devR (@DevM.fenceTo d s_1)) (@List.nil (@Prod Nat (@List Value))) q) = (@Cs.eff (@devR (@DevM.fenceTo d s)) (@List.nil (@Prod Nat (@List Value))) q))))) ∧ ((((0 = 0) ∧ ((d.n = d.n) ∧ (d.n = d.n))) ∧ ((d.st = d.st) ∧ ((d.fl = d.fl) ∧ ((d.fe = d.fe) ∧ ((d.ba = d.ba) ∧ ((d.cu = d.cu) ∧ True)))))) ∧ True)))))))))))) ((I64 (d.fe + (1 : Int))) ∧ (∃ (y : Unit), (True ∧ (((0 : Int) = (0 : Int)) ∧ ((((0 = 0) ∧ ((d.n = d.n) ∧ (d.n = d.n))) ∧ ((d.st = d.st) ∧ ((d.fl = d.fl) ∧ (((d.fe + (1 : Int)) = (d.fe + (1 : Int))) ∧ ((d.ba = d.ba) ∧ ((d.cu = d.cu) ∧ True)))))) ∧ ((((d.n * 193) = (d.n * 193)) ∧ (∀ (q : Nat), ((q < (d.n * 193)) → ((@Cs.eff (@devR d.fence) (@List.nil (@Prod Nat (@List Value))) q) = (@Cs.eff (@devR (@DevM.fenceTo d s)) (@List.nil (@Prod Nat (@List Value))) q))))) ∧ True))))))))) ∧ True))
theorem fenceVC_ok (d : DevM) : fenceVC d = fenceVC_wp d := by kernel_rfl
def storeVC_wp (x : DevS) : Prop := wpF Try.prog tblX tt (fun _ _ _ _ => []) 200 5 117 (storeC.args x) (hO storeC.k (storeC.os x)) (fun v h' => endsP storeC.k x v h' storeC.outs)
def storeVC (x : DevS) : Prop :=
  (cP (decide (@GE.ge Int @Int.instLEInt ((x.k : Nat) : Int) ((x.d.n : Nat) : Int))) (∃ (y : Unit), (True ∧ (((0 : Int) = (2 : Int)) ∧ ((((0 = 0) ∧ ((x.d.n = x.d.n) ∧ (x.d.n = x.d.n))) ∧ (((x.d.st + (1 : Int)) = x.d.st) ∧ ((x.d.fl = x.d.fl) ∧ ((x.d.fe = x.d.fe) ∧ ((x.d.ba = x.d.ba) ∧ ((x.d.cu = x.d.cu) ∧ True)))))) ∧ ((((x.d.n * 193) = (x.d.n * 193)) ∧ (∀ (q : Nat), ((q < (x.d.n * 193)) → ((@Cs.eff (@devR (@DevM.store x.d x.k x.a x.b.n (fun (q_1 : Nat) => (@Bys.g x.b (x.b.q + q_1))))) (@List.nil (@Prod Nat (@List Value))) q) = (@Cs.eff (@devR x.d) (@List.nil (@Prod Nat (@List Value))) q))))) ∧ ((((@rowB x.b.g x.b.N) = (@rowB x.b.g x.b.N)) ∧ (Bool.true = Bool.true)) ∧ True)))))) ((I64 ((64 : Int) - ((x.b.n : Nat) : Int))) ∧ (cP (decide (@GT.gt Int @Int.instLTInt ((x.a : Nat) : Int) ((64 : Int) - ((x.b.n : Nat) : Int)))) (∃ (y : Unit), (True ∧ (((0 : Int) = (2 : Int)) ∧ ((((0 = 0) ∧ ((x.d.n = x.d.n) ∧ (x.d.n = x.d.n))) ∧ (((x.d.st + (1 : Int)) = x.d.st) ∧ ((x.d.fl = x.d.fl) ∧ ((x.d.fe = x.d.fe) ∧ ((x.d.ba = x.d.ba) ∧ ((x.d.cu = x.d.cu) ∧ True)))))) ∧ ((((x.d.n * 193) = (x.d.n * 193)) ∧ (∀ (q : Nat), ((q < (x.d.n * 193)) → ((@Cs.eff (@devR (@DevM.store x.d x.k x.a x.b.n (fun (q_1 : Nat) => (@Bys.g x.b (x.b.q + q_1))))) (@List.nil (@Prod Nat (@List Value))) q) = (@Cs.eff (@devR x.d) (@List.nil (@Prod Nat (@List Value))) q))))) ∧ ((((@rowB x.b.g x.b.N) = (@rowB x.b.g x.b.N)) ∧ (Bool.true = Bool.true)) ∧ True)))))) ((((0 : Int) ≤ ((x.k : Nat) : Int)) ∧ (((x.k : Nat) : Int) < ((x.d.n : Nat) : Int))) ∧
 (((0 : Int) ≤ ((x.a : Nat) : Int)) ∧ (((x.a ≤ 64) ∧ ((64 ≤ 64) ∧ (64 ≤ 64))) ∧ (((((((0 + x.k) * 193) + 0) + x.a) + (64 - x.a)) ≤ (x.d.n * 193)) ∧ (cP (@Nat.ble x.b.n (64 - x.a)) (((x.b.q + x.b.n) ≤ x.b.N) ∧ ((∀ (k : Nat), ((k < x.b.n) → ((@Bool.and (@Nat.beq (@List.length Value [(Value.int IntKind.u8 (@Bys.g x.b (x.b.q + k)))]) 1) (@List.all Value [(Value.int IntKind.u8 (@Bys.g x.b (x.b.q + k)))] @Value.oneCell')) = Bool.true))) ∧ ((I64 (x.d.st + (1 : Int))) ∧ (∃ (y : Unit), (True ∧ (((0 : Int) = (0 : Int)) ∧ ((((0 = 0) ∧ ((x.d.n = x.d.n) ∧ (x.d.n = x.d.n))) ∧ (((x.d.st + (1 : Int)) = (x.d.st + (1 : Int))) ∧ ((x.d.fl = x.d.fl) ∧ ((x.d.fe = x.d.fe) ∧ ((x.d.ba = x.d.ba) ∧ ((x.d.cu = x.d.cu) ∧ True)))))) ∧ ((((x.d.n * 193) = (x.d.n * 193)) ∧ (∀ (q : Nat), ((q < (x.d.n * 193)) → ((@Cs.eff (@devR (@DevM.store x.d x.k x.a x.b.n (fun (q_1 : Nat) => (@Bys.g x.b (x.b.q + q_1))))) (@List.nil (@Prod Nat (@List Value))) q) = (@Cs.eff (fun (p : Nat) => (@cond (@List Value) (@Bool.and (@Nat.ble ((((0 + x.k) * 193) + 0) + x.a) p) (@Nat.blt p (((((0 + x.k) * 193) + 0) + x.a) + x.b.n))) [(Value.int IntKind.u8 (@Bys.g x.b (x.b.q + (p - ((((0 + x.k) * 193) + 0) + x.a)))))] (@Cs.eff (@devR x.d) (@List.nil (@Prod Nat (@List Value))) p))) (@List.nil (@Prod Nat (@List Value))) q))))) ∧ ((((@rowB x.b.g x.b.N) = (@rowB x.b.g x.b.N)) ∧ (Bool.true = Bool.true)) ∧ True))))))))) (((x.b.q + (64 - x.a)) ≤ x.b.N) ∧ ((∀ (k : Nat), ((k < (64 - x.a)) → ((@Bool.and (@Nat.beq (@List.length Value [(Value.int IntKind.u8 (@Bys.g x.b (x.b.q + k)))]) 1) (@List.all Value [(Value.int IntKind.u8 (@Bys.g x.b (x.b.q + k)))] @Value.oneCell')) = Bool.true))) ∧
 ((I64 (x.d.st + (1 : Int))) ∧ (∃ (y : Unit), (True ∧ (((0 : Int) = (0 : Int)) ∧ ((((0 = 0) ∧ ((x.d.n = x.d.n) ∧ (x.d.n = x.d.n))) ∧ (((x.d.st + (1 : Int)) = (x.d.st + (1 : Int))) ∧ ((x.d.fl = x.d.fl) ∧ ((x.d.fe = x.d.fe) ∧ ((x.d.ba = x.d.ba) ∧ ((x.d.cu = x.d.cu) ∧ True)))))) ∧ ((((x.d.n * 193) = (x.d.n * 193)) ∧ (∀ (q : Nat), ((q < (x.d.n * 193)) → ((@Cs.eff (@devR (@DevM.store x.d x.k x.a x.b.n (fun (q_1 : Nat) => (@Bys.g x.b (x.b.q + q_1))))) (@List.nil (@Prod Nat (@List Value))) q) = (@Cs.eff (fun (p : Nat) => (@cond (@List Value) (@Bool.and (@Nat.ble ((((0 + x.k) * 193) + 0) + x.a) p) (@Nat.blt p (((((0 + x.k) * 193) + 0) + x.a) + (64 - x.a)))) [(Value.int IntKind.u8 (@Bys.g x.b (x.b.q + (p - ((((0 + x.k) * 193) + 0) + x.a)))))] (@Cs.eff (@devR x.d) (@List.nil (@Prod Nat (@List Value))) p))) (@List.nil (@Prod Nat (@List Value))) q))))) ∧ ((((@rowB x.b.g x.b.N) = (@rowB x.b.g x.b.N)) ∧ (Bool.true = Bool.true)) ∧ True)))))))))))))))))
theorem storeVC_ok (x : DevS) : storeVC x = storeVC_wp x := by kernel_rfl
end Go.Proofs.Ytjndgegfonhhfaa
end
section
/- The device: what is asked is so. -/
namespace Go.Proofs.Ytjndgegfonhhfaa
open Go SE
set_option linter.unusedSimpArgs false
theorem dev_one (d : DevM) (p : Nat) : ((devR d p).length.beq 1 && (devR d p).all Value.oneCell') = true := by
  rw [devR_eq]
  split <;> rfl
theorem newdVC_true (n : Nat) (hn : 1 ≤ n ∧ n ≤ 258) : newdVC n := by
  unfold newdVC
  simp only [hd_iff, and_true, true_and, Nat.zero_add, Nat.add_zero, unit_ex, unit_all, true_implies, implies_true, Int.toNat_natCast, eq_self, and_self, eff_nil, cond_one, cond_int, ones_int, row_int, ones_bool, row_bool, cond_bool, ble0, Bool.true_and, Nat.sub_zero]
  refine cP_intro (fun h => absurd (of_decide_eq_true h) (by omega)) fun _ => cP_intro (fun h => absurd (of_decide_eq_true h) (by omega)) fun _ => ⟨by omega, fun q j _ hj => ?_⟩
  rw [devR_eq, show (q * 193 + j) % 193 = j by omega]
  by_cases h : j = 192
  · subst h; exact ⟨_, rfl, rfl⟩
  · rw [if_neg h]
    refine ⟨.int .u8 0, ?_, rfl⟩
    rw [List.getElem?_append_left (by rw [List.length_replicate]; omega), List.getElem?_replicate, if_pos (by omega)]
theorem flushVC_true (x : DevL) (hx : x.d.ok ∧ x.k < 258) : flushVC x := by
  obtain ⟨⟨h1, h2, h3, h4, h5, h6⟩, hk⟩ := hx
  unfold small at *
  unfold flushVC
  simp only [hd_iff, and_true, true_and, Nat.zero_add, Nat.add_zero, unit_ex, unit_all, true_implies, implies_true, Int.toNat_natCast, eq_self, and_self, eff_nil, cond_one, cond_int, ones_int, row_int, ones_bool, row_bool, cond_bool, ble0, Bool.true_and, Nat.sub_zero]
  refine cP_intro (fun h => ?_) fun h => ?_
  · have h := of_decide_eq_true h
    refine ⟨by rw [if_neg (by omega)], by rw [if_neg (by omega)], fun q hq => ?_⟩
    simp only [devR_eq, DevM.flush]
    grind
  · have h : x.k < x.d.n := by have := of_decide_eq_false h; omega
    rw [if_pos h, if_pos h]
    refine ⟨by unfold I64; omega, by omega, by omega, by omega, fun k _ => dev_one _ _, by omega, by unfold I64; omega, rfl, rfl, fun q hq => ?_⟩
    simp only [Cs.eff, blt_iff_decide, ble_iff_decide, nbeq_decide, bif_decide, ← Bool.decide_and, devR_eq, DevM.flush]
    grind
theorem fenceVC_true (d : DevM) (hd : d.ok) : fenceVC d := by
  obtain ⟨h1, h2, h3, h4, h5, h6⟩ := hd
  unfold small at *
  unfold fenceVC
  simp only [hd_iff, and_true, true_and, Nat.zero_add, Nat.add_zero, unit_ex, unit_all, true_implies, implies_true, Int.toNat_natCast, eq_self, and_self, eff_nil, cond_one, cond_int, ones_int, row_int, ones_bool, row_bool, cond_bool, ble0, Bool.true_and, Nat.sub_zero]
  refine ⟨⟨0, by omega, by omega, fun q hq => ?_⟩, fun s hs => cP_intro (fun hb => ?_) (fun hb => ?_)⟩
  · simp only [devR_eq, DevM.fenceTo]; grind
  · have hb := of_decide_eq_true hb
    refine ⟨by omega, by omega, d.s s, ?_, cP_intro (fun hc => ?_) (fun hc => ?_)⟩
    · simp only [devR_eq, DevM.fenceTo]; grind
    · refine ⟨by omega, by omega, fun k _ => dev_one _ _, by omega, by unfold I64; omega, s + 1, by omega, by omega, by omega, fun q hq => ?_⟩
      simp only [Cs.eff, blt_iff_decide, ble_iff_decide, nbeq_decide, bif_decide, ← Bool.decide_and, devR_eq, DevM.fenceTo]; grind (splits := 30)
    · refine ⟨by unfold I64; omega, s + 1, by omega, by omega, by omega, fun q hq => ?_⟩
      simp only [devR_eq, DevM.fenceTo]; grind
  · have : s = d.n := by have := of_decide_eq_false hb; omega
    subst this
    exact ⟨by unfold I64; omega, fun q _ => rfl⟩
theorem storeVC_true (x : DevS) (hx : x.d.ok ∧ x.k < x.d.n ∧ x.b.ok ∧ x.a + x.b.n ≤ 64) : storeVC x := by
  obtain ⟨⟨h1, h2, h3, h4, h5, h6⟩, hk, hb, ha⟩ := hx
  unfold small at *
  unfold storeVC
  simp only [hd_iff, and_true, true_and, Nat.zero_add, Nat.add_zero, unit_ex, unit_all, true_implies, implies_true, Int.toNat_natCast, eq_self, and_self, eff_nil, cond_one, cond_int, ones_int, row_int, ones_bool, row_bool, cond_bool, ble0, Bool.true_and, Nat.sub_zero]
  obtain ⟨b1, b2, b3⟩ := hb
  refine cP_intro (fun h => absurd (of_decide_eq_true h) (by omega)) fun _ => ⟨by unfold I64; omega, cP_intro (fun h => absurd (of_decide_eq_true h) (by omega)) fun _ => ⟨by omega, by omega, by omega, by omega, cP_intro (fun h => ?_) (fun h => ?_)⟩⟩
  · refine ⟨b1, by unfold I64; omega, fun q hq => ?_⟩
    simp only [Cs.eff, blt_iff_decide, ble_iff_decide, nbeq_decide, bif_decide, ← Bool.decide_and, devR_eq, DevM.store]; grind
  · have : ¬ x.b.n ≤ 64 - x.a := fun hh => by rw [show Nat.ble x.b.n (64 - x.a) = true by simpa using hh] at h; cases h
    omega
theorem newd_ok : CtrOk Try.prog 29 newdC := det_end tt_ok mixed TblOk.nil (fun _ _ _ _ _ => []) 200 5 (fun _ => rfl) (fun _ => rfl) fun x hx => Eq.mp (newdVC_ok x) (newdVC_true x (hd_iff.1 hx))
theorem flush_ok : CtrOk Try.prog 98 flushC := det_end tt_ok mixed tblX_ok (fun _ _ _ _ _ => []) 200 5 (fun _ => rfl) (fun _ => rfl) fun x hx => Eq.mp (flushVC_ok x) (flushVC_true x (hd_iff.1 hx))
theorem fence_ok : CtrOk Try.prog 99 fenceC := det_end tt_ok mixed tblX_ok anFence 200 5 (fun _ => rfl) (fun _ => rfl) fun x hx => Eq.mp (fenceVC_ok x) (fenceVC_true x (hd_iff.1 hx))
theorem store_ok : CtrOk Try.prog 117 storeC := det_end tt_ok mixed tblX_ok (fun _ _ _ _ _ => []) 200 5 (fun _ => rfl) (fun _ => rfl) fun x hx => Eq.mp (storeVC_ok x) (storeVC_true x (hd_iff.1 hx))
end Go.Proofs.Ytjndgegfonhhfaa
end
section
/- The clock. -/
namespace Go.Proofs.Ytjndgegfonhhfaa
open Go SE
structure ClkM where
  t : Nat
  now : Int
  dur : Int
  clos : Int
  o : Nat → Int
  N : Nat → Bool
  L : Nat → Bool
def boolR (f : Nat → Bool) : Cs := .row 1 258 (fun k => [.bool (f k)]) []
def U64 (z : Int) : Prop := 0 ≤ z ∧ z < 4611686018427387904
/-- What the clock's next step is. -/
def stA (i : Nat) : Nat → AV
  | 0 => .lit .nilFunc
  | 1 => .fn (.func 65) [.ptr i 0] []
  | 2 => .fn (.func 100) [.ptr i 0] []
  | 3 => .fn (.func 119) [.ptr i 0] []
  | _ => .fn (.func 127) [.ptr i 0] []
def stV (ph : Nat) : AV := stA 0 ph
/-- Which step is next, as a clock's memory tells. -/
def phOf (args : List AV) (h : Heap) : Nat := match args with
  | .ptr i _ :: _ => match cellAt h i 520 with
    | some (.fn (.func f) _ _) => bif Nat.beq f 65 then 1 else bif Nat.beq f 100 then 2 else bif Nat.beq f 119 then 3 else 4
    | _ => 0
  | _ => 0
namespace ClkM
def ok (c : ClkM) : Prop := 1 ≤ c.t ∧ c.t ≤ 4 ∧ U64 c.now ∧ U64 c.dur ∧ U64 c.clos ∧ ∀ k, small (c.o k)
def clkA (c : ClkM) (i : Nat) (st : AV) : AObj := .cells 103 (.cat (.av [u64 c.now, u64 c.dur, u64 c.clos, .slE i 0 1 c.t c.t]) (.cat (boolR c.N) (.cat (boolR c.L) (.av [st]))))
def clk (c : ClkM) (ph : Nat) : AObj := c.clkA 1 (stV ph)
def owed (c : ClkM) : AObj := .cells 3 (.row 1 c.t (fun k => [.int .i64 (c.o k)]) [])
def os (c : ClkM) (ph : Nat) : List AObj := [c.clk ph, c.owed]
def note (c : ClkM) (t : Nat) (l : Int) : ClkM := { c with o := fun k => if k = t ∧ 0 ≤ l ∧ l < 258 then c.o k + 1 else c.o k, N := fun q => c.N q || decide (l = (q : Nat)) }
def start (c : ClkM) : ClkM := { c with now := c.now + 1, clos := c.now, o := fun _ => 0, N := fun _ => false, L := c.N }
def unleft (c : ClkM) (k : Nat) : ClkM := { c with L := fun q => if q = k then false else c.L q }
def fin (c : ClkM) : ClkM := { c with dur := c.clos, clos := 0 }
end ClkM
def newClk (t : Nat) (d : Int) : ClkM := ⟨t, d + 1, d, 0, fun _ => 0, fun _ => false, fun _ => false⟩
def newkC : Ctr := det (Nat × Int) (fun p => [i64 p.1, u64 p.2]) 0 (fun _ => []) (fun p => Hd (1 ≤ p.1 ∧ p.1 ≤ 4 ∧ 0 ≤ p.2 ∧ p.2 ≤ 1152921504606846976)) (fun _ => .tup [.ptr 0 0, i64 0]) 2 (fun p => (newClk p.1 p.2).os 0)
structure ClkN where
  c : ClkM
  t : Nat
  l : Int
def noteC (ph : Nat) : Ctr := det ClkN (fun x => [.ptr 0 0, i64 x.t, i64 x.l]) 2 (fun x => x.c.os ph) (fun x => Hd (x.c.ok ∧ x.t < x.c.t)) (fun x => i64 (if 0 ≤ x.l ∧ x.l < 258 then 0 else 2)) 2 (fun x => (x.c.note x.t x.l).os ph)
def beginC : Ctr := det ClkM (fun _ => [.ptr 0 0]) 2 (fun c => c.os 0) (fun c => Hd (c.ok ∧ c.clos = 0)) (fun _ => i64 0) 2 (fun c => c.start.os 1)
structure ClkD where
  c : ClkM
  d : DevM
namespace ClkD
def ok (x : ClkD) : Prop := x.c.ok ∧ x.d.ok ∧ x.c.clos ≠ 0 ∧ 1 < x.d.n
noncomputable def os (x : ClkD) (ph : Nat) : List AObj := x.c.os ph ++ [x.d.dev 3, x.d.cells]
end ClkD
def stRet (a : Int) : AV := .tup [i64 a, i64 0]
/-- The flushing of a line that is left; when none is, a fence. -/
noncomputable def step1C : Ctr := { X := ClkD, args := fun _ => [.ptr 0 0, .ptr 2 0], k := 4, os := fun x => x.os 1, pre := fun x => Hd x.ok, outs := [
  { Y := Nat, post := fun x k => Hd (k < 258 ∧ x.c.L k = true ∧ ∀ j, j < k → x.c.L j = false), ret := fun _ _ => stRet 1, m := 4, os := fun x k => ClkD.os ⟨x.c.unleft k, x.d.flush k⟩ 1 },
  { Y := Unit, post := fun x _ => Hd (∀ j, j < 258 → x.c.L j = false), ret := fun _ _ => stRet 2, m := 4, os := fun x _ => ClkD.os ⟨x.c, x.d.fence⟩ 2 }] }
def anStep1 (x : ClkD) : FuncId → Anns := fun f =>
  bif Nat.beq f 65 then (fun b fr h => bif Nat.beq b 0 then [{ σ := Nat, fr := fun k => [(11, i64 k)], ob := fun _ => [], inv := fun k => Hd (k ≤ 258 ∧ ∀ j, j < k → x.c.L j = false), meas := fun k => 258 - k }] else []) else
  fun _ _ _ => []
noncomputable def step2C : Ctr := det ClkD (fun _ => [.ptr 0 0, .ptr 2 0]) 4 (fun x => x.os 2) (fun x => Hd x.ok) (fun _ => stRet 3) 4 (fun x => ClkD.os ⟨x.c, x.d.store 1 0 64 (clockG x.c.clos)⟩ 3)
noncomputable def step3C : Ctr := det ClkD (fun _ => [.ptr 0 0, .ptr 2 0]) 4 (fun x => x.os 3) (fun x => Hd x.ok) (fun _ => stRet 1) 4 (fun x => ClkD.os ⟨x.c, x.d.flush 1⟩ 4)
noncomputable def step4C : Ctr := det ClkD (fun _ => [.ptr 0 0, .ptr 2 0]) 4 (fun x => x.os 4) (fun x => Hd x.ok) (fun _ => stRet 2) 4 (fun x => ClkD.os ⟨x.c.fin, x.d.fence⟩ 0)
noncomputable def tblQ : WTbl := tblX ++ [(98, ctrT flushC), (99, ctrT fenceC), (117, ctrT storeC), (118, ctrT clockC)]
theorem tblQ_ok : TblOk Try.prog tblQ := .append tblX_ok (.cons (ctrT_ok flush_ok) (.cons (ctrT_ok fence_ok) (.cons (ctrT_ok store_ok) (.cons (ctrT_ok clock_ok) .nil))))
end Go.Proofs.Ytjndgegfonhhfaa
end
section
/- What is asked of the clock. -/
namespace Go.Proofs.Ytjndgegfonhhfaa
open Go SE
def newkVC_wp (p : Nat × Int) : Prop := wpF Try.prog tblX tt (fun _ _ _ _ => []) 200 5 28 (newkC.args p) (hO newkC.k (newkC.os p)) (fun v h' => endsP newkC.k p v h' newkC.outs)
def newkVC (p : Nat × Int) : Prop :=
  (cP (decide (((p.1 : Nat) : Int) < (1 : Int))) (∃ (y : Unit), (True ∧ ((False ∧ (((0 : Int) = (2 : Int)) ∧ True)) ∧ (False ∧ (False ∧ True))))) (cP (decide (@GT.gt Int @Int.instLTInt ((p.1 : Nat) : Int) (4 : Int))) (∃ (y : Unit), (True ∧ ((False ∧ (((0 : Int) = (2 : Int)) ∧ True)) ∧ (False ∧ (False ∧ True))))) (cP (decide (@GT.gt Int @Int.instLTInt p.2 (1152921504606846976 : Int))) (∃ (y : Unit), (True ∧ ((False ∧ (((0 : Int) = (10 : Int)) ∧ True)) ∧ (False ∧ (False ∧ True))))) ((((0 : Int) ≤ ((p.1 : Nat) : Int)) ∧ ((((p.1 : Nat) : Int) ≤ ((p.1 : Nat) : Int)) ∧ ((((8 : Int) * ((p.1 : Nat) : Int)) ≤ (281474976710656 : Int)) ∧ (((p.1 : Nat) : Int) < (4611686018427387904 : Int))))) ∧ (∃ (y : Unit), (True ∧ (((0 = 0) ∧ (((0 : Int) = (0 : Int)) ∧ True)) ∧ (((((p.2 + (1 : Int)) = (IntKind.wrap IntKind.u64 (p.2 + (1 : Int)))) ∧ ((p.2 = p.2) ∧ (((0 : Int) = (0 : Int)) ∧ (((0 = 0) ∧ ((p.1 = p.1) ∧ (p.1 = p.1))) ∧ True)))) ∧ (((258 = 258) ∧ (∀ (q : Nat), ((q < 258) → ([(Value.bool Bool.false)] = [(Value.bool Bool.false)])))) ∧ (((258 = 258) ∧ (∀ (q : Nat), ((q < 258) → ([(Value.bool Bool.false)] = [(Value.bool Bool.false)])))) ∧ ((@Value.nilFunc = @Value.nilFunc) ∧ True)))) ∧ (((p.1 = p.1) ∧ (∀ (q : Nat), ((q < p.1) → ([(Value.int IntKind.i64 (0 : Int))] = [(Value.int IntKind.i64 (0 : Int))])))) ∧ True)))))))))
theorem newkVC_ok (p : Nat × Int) : newkVC p = newkVC_wp p := by kernel_rfl
def noteVC_wp (x : ClkN) : Prop := wpF Try.prog tblX tt (fun _ _ _ _ => []) 200 5 30 ((noteC 0).args x) (hO (noteC 0).k ((noteC 0).os x)) (fun v h' => endsP (noteC 0).k x v h' (noteC 0).outs)
def noteVC (x : ClkN) : Prop :=
  (cP (decide (@GE.ge Int @Int.instLEInt ((x.t : Nat) : Int) ((x.c.t : Nat) : Int))) (∃ (y : Unit), (True ∧ (((@ite Int (((0 : Int) ≤ x.l) ∧ (x.l < (258 : Int))) (@instDecidableAnd ((0 : Int) ≤ x.l) (x.l < (258 : Int)) (@Int.decLe (0 : Int) x.l) (@Int.decLt x.l (258 : Int))) (0 : Int) (2 : Int)) = (1 : Int)) ∧ ((((x.c.now = x.c.now) ∧ ((x.c.dur = x.c.dur) ∧ ((x.c.clos = x.c.clos) ∧ (((0 = 0) ∧ ((x.c.t = x.c.t) ∧ (x.c.t = x.c.t))) ∧ True)))) ∧ (((258 = 258) ∧ (∀ (q : Nat), ((q < 258) → ([(Value.bool (@Bool.or (@ClkM.N x.c q) (decide (x.l = ((q : Nat) : Int)))))] = [(Value.bool (@ClkM.N x.c q))])))) ∧ (((258 = 258) ∧ (∀ (q : Nat), ((q < 258) → ([(Value.bool (@ClkM.L x.c q))] = [(Value.bool (@ClkM.L x.c q))])))) ∧ ((@Value.nilFunc = @Value.nilFunc) ∧ True)))) ∧ (((x.c.t = x.c.t) ∧ (∀ (q : Nat), ((q < x.c.t) → ([(Value.int IntKind.i64 (@ite Int ((q = x.t) ∧ (((0 : Int) ≤ x.l) ∧ (x.l < (258 : Int)))) (@instDecidableAnd (q = x.t) (((0 : Int) ≤ x.l) ∧ (x.l < (258 : Int))) (@instDecidableEqNat q x.t) (@instDecidableAnd ((0 : Int) ≤ x.l) (x.l < (258 : Int)) (@Int.decLe (0 : Int) x.l) (@Int.decLt x.l (258 : Int)))) ((@ClkM.o x.c q) + (1 : Int)) (@ClkM.o x.c q)))] = [(Value.int IntKind.i64 (@ClkM.o x.c q))])))) ∧ True))))) (cP (decide (x.l < (0 : Int))) (∃ (y : Unit), (True ∧ (((@ite Int (((0 : Int) ≤ x.l) ∧ (x.l < (258 : Int))) (@instDecidableAnd ((0 : Int) ≤ x.l) (x.l < (258 : Int)) (@Int.decLe (0 : Int) x.l) (@Int.decLt x.l (258 : Int))) (0 : Int) (2 : Int)) = (2 : Int)) ∧ ((((x.c.now = x.c.now) ∧
 ((x.c.dur = x.c.dur) ∧ ((x.c.clos = x.c.clos) ∧ (((0 = 0) ∧ ((x.c.t = x.c.t) ∧ (x.c.t = x.c.t))) ∧ True)))) ∧ (((258 = 258) ∧ (∀ (q : Nat), ((q < 258) → ([(Value.bool (@Bool.or (@ClkM.N x.c q) (decide (x.l = ((q : Nat) : Int)))))] = [(Value.bool (@ClkM.N x.c q))])))) ∧ (((258 = 258) ∧ (∀ (q : Nat), ((q < 258) → ([(Value.bool (@ClkM.L x.c q))] = [(Value.bool (@ClkM.L x.c q))])))) ∧ ((@Value.nilFunc = @Value.nilFunc) ∧ True)))) ∧ (((x.c.t = x.c.t) ∧ (∀ (q : Nat), ((q < x.c.t) → ([(Value.int IntKind.i64 (@ite Int ((q = x.t) ∧ (((0 : Int) ≤ x.l) ∧ (x.l < (258 : Int)))) (@instDecidableAnd (q = x.t) (((0 : Int) ≤ x.l) ∧ (x.l < (258 : Int))) (@instDecidableEqNat q x.t) (@instDecidableAnd ((0 : Int) ≤ x.l) (x.l < (258 : Int)) (@Int.decLe (0 : Int) x.l) (@Int.decLt x.l (258 : Int)))) ((@ClkM.o x.c q) + (1 : Int)) (@ClkM.o x.c q)))] = [(Value.int IntKind.i64 (@ClkM.o x.c q))])))) ∧ True))))) (cP (decide (@GE.ge Int @Int.instLEInt x.l (258 : Int))) (∃ (y : Unit), (True ∧ (((@ite Int (((0 : Int) ≤ x.l) ∧ (x.l < (258 : Int))) (@instDecidableAnd ((0 : Int) ≤ x.l) (x.l < (258 : Int)) (@Int.decLe (0 : Int) x.l) (@Int.decLt x.l (258 : Int))) (0 : Int) (2 : Int)) = (2 : Int)) ∧ ((((x.c.now = x.c.now) ∧ ((x.c.dur = x.c.dur) ∧ ((x.c.clos = x.c.clos) ∧ (((0 = 0) ∧ ((x.c.t = x.c.t) ∧ (x.c.t = x.c.t))) ∧ True)))) ∧ (((258 = 258) ∧ (∀ (q : Nat), ((q < 258) → ([(Value.bool (@Bool.or (@ClkM.N x.c q) (decide (x.l = ((q : Nat) : Int)))))] = [(Value.bool (@ClkM.N x.c q))])))) ∧ (((258 = 258) ∧ (∀ (q : Nat), ((q < 258) → ([(Value.bool (@ClkM.L x.c q))] = [(Value.bool (@ClkM.L x.c q))])))) ∧
 ((@Value.nilFunc = @Value.nilFunc) ∧ True)))) ∧ (((x.c.t = x.c.t) ∧ (∀ (q : Nat), ((q < x.c.t) → ([(Value.int IntKind.i64 (@ite Int ((q = x.t) ∧ (((0 : Int) ≤ x.l) ∧ (x.l < (258 : Int)))) (@instDecidableAnd (q = x.t) (((0 : Int) ≤ x.l) ∧ (x.l < (258 : Int))) (@instDecidableEqNat q x.t) (@instDecidableAnd ((0 : Int) ≤ x.l) (x.l < (258 : Int)) (@Int.decLe (0 : Int) x.l) (@Int.decLt x.l (258 : Int)))) ((@ClkM.o x.c q) + (1 : Int)) (@ClkM.o x.c q)))] = [(Value.int IntKind.i64 (@ClkM.o x.c q))])))) ∧ True))))) ((((0 : Int) ≤ ((x.t : Nat) : Int)) ∧ (((x.t : Nat) : Int) < ((x.c.t : Nat) : Int))) ∧ (((0 + x.t) < x.c.t) ∧ ((I64 ((@ClkM.o x.c (0 + x.t)) + (1 : Int))) ∧ ((((0 : Int) ≤ ((x.t : Nat) : Int)) ∧ (((x.t : Nat) : Int) < ((x.c.t : Nat) : Int))) ∧ (((0 + x.t) < x.c.t) ∧ ((((0 : Int) ≤ x.l) ∧ (x.l < (258 : Int))) ∧ (((Int.toNat x.l) < 258) ∧ (∃ (y : Unit), (True ∧ (((@ite Int (((0 : Int) ≤ x.l) ∧ (x.l < (258 : Int))) (@instDecidableAnd ((0 : Int) ≤ x.l) (x.l < (258 : Int)) (@Int.decLe (0 : Int) x.l) (@Int.decLt x.l (258 : Int))) (0 : Int) (2 : Int)) = (0 : Int)) ∧ ((((x.c.now = x.c.now) ∧ ((x.c.dur = x.c.dur) ∧ ((x.c.clos = x.c.clos) ∧ (((0 = 0) ∧ ((x.c.t = x.c.t) ∧ (x.c.t = x.c.t))) ∧ True)))) ∧ (((258 = 258) ∧ (∀ (q : Nat), ((q < 258) → ([(Value.bool (@Bool.or (@ClkM.N x.c q) (decide (x.l = ((q : Nat) : Int)))))] = (@Cs.eff (fun (k : Nat) => [(Value.bool (@ClkM.N x.c k))]) [(@Prod.mk Nat (@List Value) (Int.toNat x.l) [(Value.bool Bool.true)])] q))))) ∧ (((258 = 258) ∧ (∀ (q : Nat), ((q < 258) → ([(Value.bool (@ClkM.L x.c q))] = [(Value.bool (@ClkM.L x.c q))])))) ∧
 ((@Value.nilFunc = @Value.nilFunc) ∧ True)))) ∧ (((x.c.t = x.c.t) ∧ (∀ (q : Nat), ((q < x.c.t) → ([(Value.int IntKind.i64 (@ite Int ((q = x.t) ∧ (((0 : Int) ≤ x.l) ∧ (x.l < (258 : Int)))) (@instDecidableAnd (q = x.t) (((0 : Int) ≤ x.l) ∧ (x.l < (258 : Int))) (@instDecidableEqNat q x.t) (@instDecidableAnd ((0 : Int) ≤ x.l) (x.l < (258 : Int)) (@Int.decLe (0 : Int) x.l) (@Int.decLt x.l (258 : Int)))) ((@ClkM.o x.c q) + (1 : Int)) (@ClkM.o x.c q)))] = (@Cs.eff (fun (k : Nat) => [(Value.int IntKind.i64 (@ClkM.o x.c k))]) [(@Prod.mk Nat (@List Value) (0 + x.t) [(Value.int IntKind.i64 ((@ClkM.o x.c (0 + x.t)) + (1 : Int)))])] q))))) ∧ True)))))))))))))))
theorem noteVC_ok (x : ClkN) : noteVC x = noteVC_wp x := by kernel_rfl
def beginVC_wp (c : ClkM) : Prop := wpF Try.prog tblX tt (fun _ _ _ _ => []) 200 5 31 (beginC.args c) (hO beginC.k (beginC.os c)) (fun v h' => endsP beginC.k c v h' beginC.outs)
def beginVC (c : ClkM) : Prop :=
  (cP (decide (c.clos = (0 : Int))) ((∀ (k : Nat), ((k < 258) → ((@Bool.and (@Nat.beq (@List.length Value [(Value.bool (@ClkM.N c k))]) 1) (@List.all Value [(Value.bool (@ClkM.N c k))] @Value.oneCell')) = Bool.true))) ∧ ((∀ (k : Nat), ((k < 258) → ((@Bool.and (@Nat.beq (@List.length Value [(Value.bool Bool.false)]) 1) (@List.all Value [(Value.bool Bool.false)] @Value.oneCell')) = Bool.true))) ∧ (((0 + c.t) ≤ c.t) ∧ (∃ (y : Unit), (True ∧ (((0 : Int) = (0 : Int)) ∧ (((((c.now + (1 : Int)) = (IntKind.wrap IntKind.u64 (c.now + (1 : Int)))) ∧ ((c.dur = c.dur) ∧ ((c.now = c.now) ∧ (((0 = 0) ∧ ((c.t = c.t) ∧ (c.t = c.t))) ∧ True)))) ∧ (((258 = 258) ∧ (∀ (q : Nat), ((q < 258) → ([(Value.bool Bool.false)] = [(Value.bool Bool.false)])))) ∧ (((258 = 258) ∧ (∀ (q : Nat), ((q < 258) → ([(Value.bool (@ClkM.N c q))] = [(Value.bool (@ClkM.N c q))])))) ∧ ((((@Fn.func (65 : @FuncId)) = (@Fn.func 65)) ∧ (((0 = 0) ∧ True) ∧ True)) ∧ True)))) ∧ (((c.t = c.t) ∧ (∀ (q : Nat), ((q < c.t) → ([(Value.int IntKind.i64 (0 : Int))] = (@Cs.eff (fun (p : Nat) => (@cond (@List Value) (@Bool.and (@Nat.ble 0 p) (@Nat.blt p (0 + c.t))) [(Value.int IntKind.i64 (0 : Int))] [(Value.int IntKind.i64 (@ClkM.o c p))])) (@List.nil (@Prod Nat (@List Value))) q))))) ∧ True)))))))) (∃ (y : Unit), (True ∧ (((0 : Int) = (7 : Int)) ∧ (((((c.now + (1 : Int)) = c.now) ∧ ((c.dur = c.dur) ∧ ((c.now = c.clos) ∧ (((0 = 0) ∧ ((c.t = c.t) ∧ (c.t = c.t))) ∧ True)))) ∧ (((258 = 258) ∧ (∀ (q : Nat), ((q < 258) → ([(Value.bool Bool.false)] = [(Value.bool (@ClkM.N c q))])))) ∧
 (((258 = 258) ∧ (∀ (q : Nat), ((q < 258) → ([(Value.bool (@ClkM.N c q))] = [(Value.bool (@ClkM.L c q))])))) ∧ (False ∧ True)))) ∧ (((c.t = c.t) ∧ (∀ (q : Nat), ((q < c.t) → ([(Value.int IntKind.i64 (0 : Int))] = [(Value.int IntKind.i64 (@ClkM.o c q))])))) ∧ True))))))
theorem beginVC_ok (c : ClkM) : beginVC c = beginVC_wp c := by kernel_rfl
def step1VC_wp (x : ClkD) : Prop := wpF Try.prog tblQ tt (anStep1 x) 200 5 34 (step1C.args x) (hO step1C.k (step1C.os x)) (fun v h' => endsP step1C.k x v h' step1C.outs)
def step1VC (x : ClkD) : Prop :=
  (cP (BEq.beq x.c.clos (0 : Int)) ((∃ (y : Nat), ((Hd ((y < 258) ∧ (((@ClkM.L x.c y) = Bool.true) ∧ (∀ (j : Nat), ((j < y) → ((@ClkM.L x.c j) = Bool.false)))))) ∧ ((((1 : Int) = (0 : Int)) ∧ (((0 : Int) = (12 : Int)) ∧ True)) ∧ ((((x.c.now = x.c.now) ∧ ((x.c.dur = x.c.dur) ∧ ((x.c.clos = x.c.clos) ∧ (((0 = 0) ∧ ((x.c.t = x.c.t) ∧ (x.c.t = x.c.t))) ∧ True)))) ∧ (((258 = 258) ∧ (∀ (q : Nat), ((q < 258) → ([(Value.bool (@ClkM.N x.c q))] = [(Value.bool (@ClkM.N x.c q))])))) ∧ (((258 = 258) ∧ (∀ (q : Nat), ((q < 258) → ([(Value.bool (@ite Bool (q = y) (@instDecidableEqNat q y) Bool.false (@ClkM.L x.c q)))] = [(Value.bool (@ClkM.L x.c q))])))) ∧ ((((@Fn.func (65 : @FuncId)) = (@Fn.func (65 : @FuncId))) ∧ (((0 = 0) ∧ True) ∧ True)) ∧ True)))) ∧ (((x.c.t = x.c.t) ∧ (∀ (q : Nat), ((q < x.c.t) → ([(Value.int IntKind.i64 (@ClkM.o x.c q))] = [(Value.int IntKind.i64 (@ClkM.o x.c q))])))) ∧ ((((0 = 0) ∧ ((x.d.n = x.d.n) ∧ (x.d.n = x.d.n))) ∧ ((x.d.st = x.d.st) ∧ (((@ite Int (y < x.d.n) (@Nat.decLt y x.d.n) (x.d.fl + (1 : Int)) x.d.fl) = x.d.fl) ∧ ((x.d.fe = x.d.fe) ∧ ((x.d.ba = x.d.ba) ∧ ((x.d.cu = x.d.cu) ∧ True)))))) ∧ ((((x.d.n * 193) = (x.d.n * 193)) ∧ (∀ (q : Nat), ((q < (x.d.n * 193)) → ((@Cs.eff (@devR (@DevM.flush x.d y)) (@List.nil (@Prod Nat (@List Value))) q) = (@Cs.eff (@devR x.d) (@List.nil (@Prod Nat (@List Value))) q))))) ∧ True))))))) ∨ (∃ (y : Unit), ((Hd (∀ (j : Nat), ((j < 258) → ((@ClkM.L x.c j) = Bool.false)))) ∧ ((((2 : Int) = (0 : Int)) ∧ (((0 : Int) = (12 : Int)) ∧ True)) ∧
 ((((x.c.now = x.c.now) ∧ ((x.c.dur = x.c.dur) ∧ ((x.c.clos = x.c.clos) ∧ (((0 = 0) ∧ ((x.c.t = x.c.t) ∧ (x.c.t = x.c.t))) ∧ True)))) ∧ (((258 = 258) ∧ (∀ (q : Nat), ((q < 258) → ([(Value.bool (@ClkM.N x.c q))] = [(Value.bool (@ClkM.N x.c q))])))) ∧ (((258 = 258) ∧ (∀ (q : Nat), ((q < 258) → ([(Value.bool (@ClkM.L x.c q))] = [(Value.bool (@ClkM.L x.c q))])))) ∧ ((((@Fn.func (100 : @FuncId)) = (@Fn.func (65 : @FuncId))) ∧ (((0 = 0) ∧ True) ∧ True)) ∧ True)))) ∧ (((x.c.t = x.c.t) ∧ (∀ (q : Nat), ((q < x.c.t) → ([(Value.int IntKind.i64 (@ClkM.o x.c q))] = [(Value.int IntKind.i64 (@ClkM.o x.c q))])))) ∧ ((((0 = 0) ∧ ((x.d.n = x.d.n) ∧ (x.d.n = x.d.n))) ∧ ((x.d.st = x.d.st) ∧ ((x.d.fl = x.d.fl) ∧ (((x.d.fe + (1 : Int)) = x.d.fe) ∧ ((x.d.ba = x.d.ba) ∧ ((x.d.cu = x.d.cu) ∧ True)))))) ∧ ((((x.d.n * 193) = (x.d.n * 193)) ∧ (∀ (q : Nat), ((q < (x.d.n * 193)) → ((@Cs.eff (@devR x.d.fence) (@List.nil (@Prod Nat (@List Value))) q) = (@Cs.eff (@devR x.d) (@List.nil (@Prod Nat (@List Value))) q))))) ∧ True)))))))) ((∃ (s : Nat), ((Hd ((s ≤ 258) ∧ (∀ (j : Nat), ((j < s) → ((@ClkM.L x.c j) = Bool.false))))) ∧ (True ∧ (((((s : Nat) : Int) = (0 : Int)) ∧ True) ∧ ((((x.d.n * 193) = (x.d.n * 193)) ∧ (∀ (q : Nat), ((q < (x.d.n * 193)) → ((@Cs.eff (@devR x.d) (@List.nil (@Prod Nat (@List Value))) q) = (@Cs.eff (@devR x.d) (@List.nil (@Prod Nat (@List Value))) q))))) ∧ ((((0 = 0) ∧ ((x.d.n = x.d.n) ∧ (x.d.n = x.d.n))) ∧ ((x.d.st = x.d.st) ∧ ((x.d.fl = x.d.fl) ∧ ((x.d.fe = x.d.fe) ∧ ((x.d.ba = x.d.ba) ∧
 ((x.d.cu = x.d.cu) ∧ True)))))) ∧ (((x.c.t = x.c.t) ∧ (∀ (q : Nat), ((q < x.c.t) → ([(Value.int IntKind.i64 (@ClkM.o x.c q))] = [(Value.int IntKind.i64 (@ClkM.o x.c q))])))) ∧ ((((x.c.now = x.c.now) ∧ ((x.c.dur = x.c.dur) ∧ ((x.c.clos = x.c.clos) ∧ (((0 = 0) ∧ ((x.c.t = x.c.t) ∧ (x.c.t = x.c.t))) ∧ True)))) ∧ (((258 = 258) ∧ (∀ (q : Nat), ((q < 258) → ([(Value.bool (@ClkM.N x.c q))] = [(Value.bool (@ClkM.N x.c q))])))) ∧ (((258 = 258) ∧ (∀ (q : Nat), ((q < 258) → ([(Value.bool (@ClkM.L x.c q))] = [(Value.bool (@ClkM.L x.c q))])))) ∧ ((((@Fn.func (65 : @FuncId)) = (@Fn.func (65 : @FuncId))) ∧ (((0 = 0) ∧ True) ∧ True)) ∧ True)))) ∧ True)))))))) ∧ ((∀ (s : Nat), ((Hd ((s ≤ 258) ∧ (∀ (j : Nat), ((j < s) → ((@ClkM.L x.c j) = Bool.false))))) → (cP (decide (((s : Nat) : Int) < (258 : Int))) ((((0 : Int) ≤ ((s : Nat) : Int)) ∧ (((s : Nat) : Int) < (258 : Int))) ∧ ((s < 258) ∧ (cP (@ClkM.L x.c s) ((((0 : Int) ≤ ((s : Nat) : Int)) ∧ (((s : Nat) : Int) < (258 : Int))) ∧ ((s < 258) ∧ (∃ (x_1 : @DevL), ((Hd (x_1.d.ok ∧ (x_1.k < 258))) ∧ (((0 = 0) ∧ ((((x_1.k : Nat) : Int) = ((s : Nat) : Int)) ∧ True)) ∧ (((((0 = 0) ∧ ((x_1.d.n = x.d.n) ∧ (x_1.d.n = x.d.n))) ∧ ((x_1.d.st = x.d.st) ∧ ((x_1.d.fl = x.d.fl) ∧ ((x_1.d.fe = x.d.fe) ∧ ((x_1.d.ba = x.d.ba) ∧ ((x_1.d.cu = x.d.cu) ∧ True)))))) ∧ ((((x_1.d.n * 193) = (x.d.n * 193)) ∧ (∀ (q : Nat), ((q < (x_1.d.n * 193)) → ((@Cs.eff (@devR x_1.d) (@List.nil (@Prod Nat (@List Value))) q) = (@Cs.eff (@devR x.d) (@List.nil (@Prod Nat (@List Value))) q))))) ∧
 True)) ∧ (∀ (y : Unit), (True → ((∃ (y_1 : Nat), ((Hd ((y_1 < 258) ∧ (((@ClkM.L x.c y_1) = Bool.true) ∧ (∀ (j : Nat), ((j < y_1) → ((@ClkM.L x.c j) = Bool.false)))))) ∧ ((((1 : Int) = (1 : Int)) ∧ (((0 : Int) = (0 : Int)) ∧ True)) ∧ ((((x.c.now = x.c.now) ∧ ((x.c.dur = x.c.dur) ∧ ((x.c.clos = x.c.clos) ∧ (((0 = 0) ∧ ((x.c.t = x.c.t) ∧ (x.c.t = x.c.t))) ∧ True)))) ∧ (((258 = 258) ∧ (∀ (q : Nat), ((q < 258) → ([(Value.bool (@ClkM.N x.c q))] = [(Value.bool (@ClkM.N x.c q))])))) ∧ (((258 = 258) ∧ (∀ (q : Nat), ((q < 258) → ([(Value.bool (@ite Bool (q = y_1) (@instDecidableEqNat q y_1) Bool.false (@ClkM.L x.c q)))] = (@Cs.eff (fun (k : Nat) => [(Value.bool (@ClkM.L x.c k))]) [(@Prod.mk Nat (@List Value) s [(Value.bool Bool.false)])] q))))) ∧ ((((@Fn.func (65 : @FuncId)) = (@Fn.func (65 : @FuncId))) ∧ (((0 = 0) ∧ True) ∧ True)) ∧ True)))) ∧ (((x.c.t = x.c.t) ∧ (∀ (q : Nat), ((q < x.c.t) → ([(Value.int IntKind.i64 (@ClkM.o x.c q))] = [(Value.int IntKind.i64 (@ClkM.o x.c q))])))) ∧ ((((0 = 0) ∧ ((x.d.n = x_1.d.n) ∧ (x.d.n = x_1.d.n))) ∧ ((x.d.st = x_1.d.st) ∧ (((@ite Int (y_1 < x.d.n) (@Nat.decLt y_1 x.d.n) (x.d.fl + (1 : Int)) x.d.fl) = (@ite Int (x_1.k < x_1.d.n) (@Nat.decLt x_1.k x_1.d.n) (x_1.d.fl + (1 : Int)) x_1.d.fl)) ∧ ((x.d.fe = x_1.d.fe) ∧ ((x.d.ba = x_1.d.ba) ∧ ((x.d.cu = x_1.d.cu) ∧ True)))))) ∧ ((((x.d.n * 193) = (x_1.d.n * 193)) ∧ (∀ (q : Nat), ((q < (x.d.n * 193)) → ((@Cs.eff (@devR (@DevM.flush x.d y_1)) (@List.nil (@Prod Nat (@List Value))) q) = (@Cs.eff (@devR (@DevM.flush x_1.d x_1.k)) (@List.nil (@Prod Nat (@List Value))) q))))) ∧
 True))))))) ∨ (∃ (y_1 : Unit), ((Hd (∀ (j : Nat), ((j < 258) → ((@ClkM.L x.c j) = Bool.false)))) ∧ ((((2 : Int) = (1 : Int)) ∧ (((0 : Int) = (0 : Int)) ∧ True)) ∧ ((((x.c.now = x.c.now) ∧ ((x.c.dur = x.c.dur) ∧ ((x.c.clos = x.c.clos) ∧ (((0 = 0) ∧ ((x.c.t = x.c.t) ∧ (x.c.t = x.c.t))) ∧ True)))) ∧ (((258 = 258) ∧ (∀ (q : Nat), ((q < 258) → ([(Value.bool (@ClkM.N x.c q))] = [(Value.bool (@ClkM.N x.c q))])))) ∧ (((258 = 258) ∧ (∀ (q : Nat), ((q < 258) → ([(Value.bool (@ClkM.L x.c q))] = (@Cs.eff (fun (k : Nat) => [(Value.bool (@ClkM.L x.c k))]) [(@Prod.mk Nat (@List Value) s [(Value.bool Bool.false)])] q))))) ∧ ((((@Fn.func (100 : @FuncId)) = (@Fn.func (65 : @FuncId))) ∧ (((0 = 0) ∧ True) ∧ True)) ∧ True)))) ∧ (((x.c.t = x.c.t) ∧ (∀ (q : Nat), ((q < x.c.t) → ([(Value.int IntKind.i64 (@ClkM.o x.c q))] = [(Value.int IntKind.i64 (@ClkM.o x.c q))])))) ∧ ((((0 = 0) ∧ ((x.d.n = x_1.d.n) ∧ (x.d.n = x_1.d.n))) ∧ ((x.d.st = x_1.d.st) ∧ ((x.d.fl = (@ite Int (x_1.k < x_1.d.n) (@Nat.decLt x_1.k x_1.d.n) (x_1.d.fl + (1 : Int)) x_1.d.fl)) ∧ (((x.d.fe + (1 : Int)) = x_1.d.fe) ∧ ((x.d.ba = x_1.d.ba) ∧ ((x.d.cu = x_1.d.cu) ∧ True)))))) ∧ ((((x.d.n * 193) = (x_1.d.n * 193)) ∧ (∀ (q : Nat), ((q < (x.d.n * 193)) → ((@Cs.eff (@devR x.d.fence) (@List.nil (@Prod Nat (@List Value))) q) = (@Cs.eff (@devR (@DevM.flush x_1.d x_1.k)) (@List.nil (@Prod Nat (@List Value))) q))))) ∧ True)))))))))))))))) ((I64 (((s : Nat) : Int) + (1 : Int))) ∧ (∃ (s_1 : Nat), ((Hd ((s_1 ≤ 258) ∧ (∀ (j : Nat), ((j < s_1) → ((@ClkM.L x.c j) = Bool.false))))) ∧
 (((258 - s_1) < (258 - s)) ∧ (((((s_1 : Nat) : Int) = (((s : Nat) : Int) + (1 : Int))) ∧ True) ∧ ((((x.d.n * 193) = (x.d.n * 193)) ∧ (∀ (q : Nat), ((q < (x.d.n * 193)) → ((@Cs.eff (@devR x.d) (@List.nil (@Prod Nat (@List Value))) q) = (@Cs.eff (@devR x.d) (@List.nil (@Prod Nat (@List Value))) q))))) ∧ ((((0 = 0) ∧ ((x.d.n = x.d.n) ∧ (x.d.n = x.d.n))) ∧ ((x.d.st = x.d.st) ∧ ((x.d.fl = x.d.fl) ∧ ((x.d.fe = x.d.fe) ∧ ((x.d.ba = x.d.ba) ∧ ((x.d.cu = x.d.cu) ∧ True)))))) ∧ (((x.c.t = x.c.t) ∧ (∀ (q : Nat), ((q < x.c.t) → ([(Value.int IntKind.i64 (@ClkM.o x.c q))] = [(Value.int IntKind.i64 (@ClkM.o x.c q))])))) ∧ ((((x.c.now = x.c.now) ∧ ((x.c.dur = x.c.dur) ∧ ((x.c.clos = x.c.clos) ∧ (((0 = 0) ∧ ((x.c.t = x.c.t) ∧ (x.c.t = x.c.t))) ∧ True)))) ∧ (((258 = 258) ∧ (∀ (q : Nat), ((q < 258) → ([(Value.bool (@ClkM.N x.c q))] = [(Value.bool (@ClkM.N x.c q))])))) ∧ (((258 = 258) ∧ (∀ (q : Nat), ((q < 258) → ([(Value.bool (@ClkM.L x.c q))] = [(Value.bool (@ClkM.L x.c q))])))) ∧ ((((@Fn.func (65 : @FuncId)) = (@Fn.func (65 : @FuncId))) ∧ (((0 = 0) ∧ True) ∧ True)) ∧ True)))) ∧ True)))))))))))) (∃ (x_1 : @DevM), ((Hd x_1.ok) ∧ (((0 = 0) ∧ True) ∧ (((((0 = 0) ∧ ((x_1.n = x.d.n) ∧ (x_1.n = x.d.n))) ∧ ((x_1.st = x.d.st) ∧ ((x_1.fl = x.d.fl) ∧ ((x_1.fe = x.d.fe) ∧ ((x_1.ba = x.d.ba) ∧ ((x_1.cu = x.d.cu) ∧ True)))))) ∧ ((((x_1.n * 193) = (x.d.n * 193)) ∧ (∀ (q : Nat), ((q < (x_1.n * 193)) → ((@Cs.eff (@devR x_1) (@List.nil (@Prod Nat (@List Value))) q) = (@Cs.eff (@devR x.d) (@List.nil (@Prod Nat (@List Value))) q))))) ∧
 True)) ∧ (∀ (y : Unit), (True → ((∃ (y_1 : Nat), ((Hd ((y_1 < 258) ∧ (((@ClkM.L x.c y_1) = Bool.true) ∧ (∀ (j : Nat), ((j < y_1) → ((@ClkM.L x.c j) = Bool.false)))))) ∧ ((((1 : Int) = (2 : Int)) ∧ (((0 : Int) = (0 : Int)) ∧ True)) ∧ ((((x.c.now = x.c.now) ∧ ((x.c.dur = x.c.dur) ∧ ((x.c.clos = x.c.clos) ∧ (((0 = 0) ∧ ((x.c.t = x.c.t) ∧ (x.c.t = x.c.t))) ∧ True)))) ∧ (((258 = 258) ∧ (∀ (q : Nat), ((q < 258) → ([(Value.bool (@ClkM.N x.c q))] = [(Value.bool (@ClkM.N x.c q))])))) ∧ (((258 = 258) ∧ (∀ (q : Nat), ((q < 258) → ([(Value.bool (@ite Bool (q = y_1) (@instDecidableEqNat q y_1) Bool.false (@ClkM.L x.c q)))] = [(Value.bool (@ClkM.L x.c q))])))) ∧ ((((@Fn.func (65 : @FuncId)) = (@Fn.func 100)) ∧ (((0 = 0) ∧ True) ∧ True)) ∧ True)))) ∧ (((x.c.t = x.c.t) ∧ (∀ (q : Nat), ((q < x.c.t) → ([(Value.int IntKind.i64 (@ClkM.o x.c q))] = [(Value.int IntKind.i64 (@ClkM.o x.c q))])))) ∧ ((((0 = 0) ∧ ((x.d.n = x_1.n) ∧ (x.d.n = x_1.n))) ∧ ((x.d.st = x_1.st) ∧ (((@ite Int (y_1 < x.d.n) (@Nat.decLt y_1 x.d.n) (x.d.fl + (1 : Int)) x.d.fl) = x_1.fl) ∧ ((x.d.fe = (x_1.fe + (1 : Int))) ∧ ((x.d.ba = x_1.ba) ∧ ((x.d.cu = x_1.cu) ∧ True)))))) ∧ ((((x.d.n * 193) = (x_1.n * 193)) ∧ (∀ (q : Nat), ((q < (x.d.n * 193)) → ((@Cs.eff (@devR (@DevM.flush x.d y_1)) (@List.nil (@Prod Nat (@List Value))) q) = (@Cs.eff (@devR x_1.fence) (@List.nil (@Prod Nat (@List Value))) q))))) ∧ True))))))) ∨ (∃ (y_1 : Unit), ((Hd (∀ (j : Nat), ((j < 258) → ((@ClkM.L x.c j) = Bool.false)))) ∧ ((((2 : Int) = (2 : Int)) ∧ (((0 : Int) = (0 : Int)) ∧
 True)) ∧ ((((x.c.now = x.c.now) ∧ ((x.c.dur = x.c.dur) ∧ ((x.c.clos = x.c.clos) ∧ (((0 = 0) ∧ ((x.c.t = x.c.t) ∧ (x.c.t = x.c.t))) ∧ True)))) ∧ (((258 = 258) ∧ (∀ (q : Nat), ((q < 258) → ([(Value.bool (@ClkM.N x.c q))] = [(Value.bool (@ClkM.N x.c q))])))) ∧ (((258 = 258) ∧ (∀ (q : Nat), ((q < 258) → ([(Value.bool (@ClkM.L x.c q))] = [(Value.bool (@ClkM.L x.c q))])))) ∧ ((((@Fn.func (100 : @FuncId)) = (@Fn.func 100)) ∧ (((0 = 0) ∧ True) ∧ True)) ∧ True)))) ∧ (((x.c.t = x.c.t) ∧ (∀ (q : Nat), ((q < x.c.t) → ([(Value.int IntKind.i64 (@ClkM.o x.c q))] = [(Value.int IntKind.i64 (@ClkM.o x.c q))])))) ∧ ((((0 = 0) ∧ ((x.d.n = x_1.n) ∧ (x.d.n = x_1.n))) ∧ ((x.d.st = x_1.st) ∧ ((x.d.fl = x_1.fl) ∧ (((x.d.fe + (1 : Int)) = (x_1.fe + (1 : Int))) ∧ ((x.d.ba = x_1.ba) ∧ ((x.d.cu = x_1.cu) ∧ True)))))) ∧ ((((x.d.n * 193) = (x_1.n * 193)) ∧ (∀ (q : Nat), ((q < (x.d.n * 193)) → ((@Cs.eff (@devR x.d.fence) (@List.nil (@Prod Nat (@List Value))) q) = (@Cs.eff (@devR x_1.fence) (@List.nil (@Prod Nat (@List Value))) q))))) ∧ True))))))))))))))))) ∧ True)))
theorem step1VC_ok (x : ClkD) : step1VC x = step1VC_wp x := by kernel_rfl
def step2VC_wp (x : ClkD) : Prop := wpF Try.prog tblQ tt (fun _ _ _ _ => []) 200 5 34 (step2C.args x) (hO step2C.k (step2C.os x)) (fun v h' => endsP step2C.k x v h' step2C.outs)
def step2VC (x : ClkD) : Prop :=
  (cP (BEq.beq x.c.clos (0 : Int)) (∃ (y : Unit), (True ∧ ((((3 : Int) = (0 : Int)) ∧ (((0 : Int) = (12 : Int)) ∧ True)) ∧ ((((x.c.now = x.c.now) ∧ ((x.c.dur = x.c.dur) ∧ ((x.c.clos = x.c.clos) ∧ (((0 = 0) ∧ ((x.c.t = x.c.t) ∧ (x.c.t = x.c.t))) ∧ True)))) ∧ (((258 = 258) ∧ (∀ (q : Nat), ((q < 258) → ([(Value.bool (@ClkM.N x.c q))] = [(Value.bool (@ClkM.N x.c q))])))) ∧ (((258 = 258) ∧ (∀ (q : Nat), ((q < 258) → ([(Value.bool (@ClkM.L x.c q))] = [(Value.bool (@ClkM.L x.c q))])))) ∧ ((((@Fn.func (119 : @FuncId)) = (@Fn.func (100 : @FuncId))) ∧ (((0 = 0) ∧ True) ∧ True)) ∧ True)))) ∧ (((x.c.t = x.c.t) ∧ (∀ (q : Nat), ((q < x.c.t) → ([(Value.int IntKind.i64 (@ClkM.o x.c q))] = [(Value.int IntKind.i64 (@ClkM.o x.c q))])))) ∧ ((((0 = 0) ∧ ((x.d.n = x.d.n) ∧ (x.d.n = x.d.n))) ∧ (((x.d.st + (1 : Int)) = x.d.st) ∧ ((x.d.fl = x.d.fl) ∧ ((x.d.fe = x.d.fe) ∧ ((x.d.ba = x.d.ba) ∧ ((x.d.cu = x.d.cu) ∧ True)))))) ∧ ((((x.d.n * 193) = (x.d.n * 193)) ∧ (∀ (q : Nat), ((q < (x.d.n * 193)) → ((@Cs.eff (@devR (@DevM.store x.d 1 0 64 (@clockG x.c.clos))) (@List.nil (@Prod Nat (@List Value))) q) = (@Cs.eff (@devR x.d) (@List.nil (@Prod Nat (@List Value))) q))))) ∧ True))))))) (∃ (x_1 : Int), ((Hd (((0 : Int) ≤ x_1) ∧ (x_1 < (18446744073709551616 : Int)))) ∧ (((x_1 = x.c.clos) ∧ True) ∧ (True ∧ (∀ (y : Unit), (True → (∃ (x_2 : @DevS), ((Hd (x_2.d.ok ∧ ((x_2.k < x_2.d.n) ∧ (x_2.b.ok ∧ ((x_2.a + x_2.b.n) ≤ 64))))) ∧ (((0 = 0) ∧ ((((x_2.k : Nat) : Int) = (1 : Int)) ∧ ((((x_2.a : Nat) : Int) = (0 : Int)) ∧ (((x_2.b.q = 0) ∧
 (x_2.b.n = 64)) ∧ True)))) ∧ (((((0 = 0) ∧ ((x_2.d.n = x.d.n) ∧ (x_2.d.n = x.d.n))) ∧ ((x_2.d.st = x.d.st) ∧ ((x_2.d.fl = x.d.fl) ∧ ((x_2.d.fe = x.d.fe) ∧ ((x_2.d.ba = x.d.ba) ∧ ((x_2.d.cu = x.d.cu) ∧ True)))))) ∧ ((((x_2.d.n * 193) = (x.d.n * 193)) ∧ (∀ (q : Nat), ((q < (x_2.d.n * 193)) → ((@Cs.eff (@devR x_2.d) (@List.nil (@Prod Nat (@List Value))) q) = (@Cs.eff (@devR x.d) (@List.nil (@Prod Nat (@List Value))) q))))) ∧ (((x_2.b.N = 64) ∧ (∀ (q : Nat), ((q < x_2.b.N) → ([(Value.int IntKind.u8 (@Bys.g x_2.b q))] = [(Value.int IntKind.u8 (@clockG x_1 q))])))) ∧ True))) ∧ (∀ (y_1 : Unit), (True → (∃ (y_2 : Unit), (True ∧ ((((3 : Int) = (3 : Int)) ∧ (((0 : Int) = (0 : Int)) ∧ True)) ∧ ((((x.c.now = x.c.now) ∧ ((x.c.dur = x.c.dur) ∧ ((x.c.clos = x.c.clos) ∧ (((0 = 0) ∧ ((x.c.t = x.c.t) ∧ (x.c.t = x.c.t))) ∧ True)))) ∧ (((258 = 258) ∧ (∀ (q : Nat), ((q < 258) → ([(Value.bool (@ClkM.N x.c q))] = [(Value.bool (@ClkM.N x.c q))])))) ∧ (((258 = 258) ∧ (∀ (q : Nat), ((q < 258) → ([(Value.bool (@ClkM.L x.c q))] = [(Value.bool (@ClkM.L x.c q))])))) ∧ ((((@Fn.func (119 : @FuncId)) = (@Fn.func 119)) ∧ (((0 = 0) ∧ True) ∧ True)) ∧ True)))) ∧ (((x.c.t = x.c.t) ∧ (∀ (q : Nat), ((q < x.c.t) → ([(Value.int IntKind.i64 (@ClkM.o x.c q))] = [(Value.int IntKind.i64 (@ClkM.o x.c q))])))) ∧ ((((0 = 0) ∧ ((x.d.n = x_2.d.n) ∧ (x.d.n = x_2.d.n))) ∧ (((x.d.st + (1 : Int)) = (x_2.d.st + (1 : Int))) ∧ ((x.d.fl = x_2.d.fl) ∧ ((x.d.fe = x_2.d.fe) ∧ ((x.d.ba = x_2.d.ba) ∧ ((x.d.cu = x_2.d.cu) ∧ True)))))) ∧ ((((x.d.n * 193) = (x_2.d.n * 193)) ∧
 (∀ (q : Nat), ((q < (x.d.n * 193)) → ((@Cs.eff (@devR (@DevM.store x.d 1 0 64 (@clockG x.c.clos))) (@List.nil (@Prod Nat (@List Value))) q) = (@Cs.eff (@devR (@DevM.store x_2.d x_2.k x_2.a x_2.b.n (fun (q_1 : Nat) => (@Bys.g x_2.b (x_2.b.q + q_1))))) (@List.nil (@Prod Nat (@List Value))) q))))) ∧ True))))))))))))))))))))
theorem step2VC_ok (x : ClkD) : step2VC x = step2VC_wp x := by kernel_rfl
def step3VC_wp (x : ClkD) : Prop := wpF Try.prog tblQ tt (fun _ _ _ _ => []) 200 5 34 (step3C.args x) (hO step3C.k (step3C.os x)) (fun v h' => endsP step3C.k x v h' step3C.outs)
def step3VC (x : ClkD) : Prop :=
  (cP (BEq.beq x.c.clos (0 : Int)) (∃ (y : Unit), (True ∧ ((((1 : Int) = (0 : Int)) ∧ (((0 : Int) = (12 : Int)) ∧ True)) ∧ ((((x.c.now = x.c.now) ∧ ((x.c.dur = x.c.dur) ∧ ((x.c.clos = x.c.clos) ∧ (((0 = 0) ∧ ((x.c.t = x.c.t) ∧ (x.c.t = x.c.t))) ∧ True)))) ∧ (((258 = 258) ∧ (∀ (q : Nat), ((q < 258) → ([(Value.bool (@ClkM.N x.c q))] = [(Value.bool (@ClkM.N x.c q))])))) ∧ (((258 = 258) ∧ (∀ (q : Nat), ((q < 258) → ([(Value.bool (@ClkM.L x.c q))] = [(Value.bool (@ClkM.L x.c q))])))) ∧ ((((@Fn.func (127 : @FuncId)) = (@Fn.func (119 : @FuncId))) ∧ (((0 = 0) ∧ True) ∧ True)) ∧ True)))) ∧ (((x.c.t = x.c.t) ∧ (∀ (q : Nat), ((q < x.c.t) → ([(Value.int IntKind.i64 (@ClkM.o x.c q))] = [(Value.int IntKind.i64 (@ClkM.o x.c q))])))) ∧ ((((0 = 0) ∧ ((x.d.n = x.d.n) ∧ (x.d.n = x.d.n))) ∧ ((x.d.st = x.d.st) ∧ (((@ite Int (1 < x.d.n) (@Nat.decLt 1 x.d.n) (x.d.fl + (1 : Int)) x.d.fl) = x.d.fl) ∧ ((x.d.fe = x.d.fe) ∧ ((x.d.ba = x.d.ba) ∧ ((x.d.cu = x.d.cu) ∧ True)))))) ∧ ((((x.d.n * 193) = (x.d.n * 193)) ∧ (∀ (q : Nat), ((q < (x.d.n * 193)) → ((@Cs.eff (@devR (@DevM.flush x.d 1)) (@List.nil (@Prod Nat (@List Value))) q) = (@Cs.eff (@devR x.d) (@List.nil (@Prod Nat (@List Value))) q))))) ∧ True))))))) (∃ (x_1 : @DevL), ((Hd (x_1.d.ok ∧ (x_1.k < 258))) ∧ (((0 = 0) ∧ ((((x_1.k : Nat) : Int) = (1 : Int)) ∧ True)) ∧ (((((0 = 0) ∧ ((x_1.d.n = x.d.n) ∧ (x_1.d.n = x.d.n))) ∧ ((x_1.d.st = x.d.st) ∧ ((x_1.d.fl = x.d.fl) ∧ ((x_1.d.fe = x.d.fe) ∧ ((x_1.d.ba = x.d.ba) ∧ ((x_1.d.cu = x.d.cu) ∧ True)))))) ∧ ((((x_1.d.n * 193) = (x.d.n * 193)) ∧
 (∀ (q : Nat), ((q < (x_1.d.n * 193)) → ((@Cs.eff (@devR x_1.d) (@List.nil (@Prod Nat (@List Value))) q) = (@Cs.eff (@devR x.d) (@List.nil (@Prod Nat (@List Value))) q))))) ∧ True)) ∧ (∀ (y : Unit), (True → (∃ (y_1 : Unit), (True ∧ ((((1 : Int) = (1 : Int)) ∧ (((0 : Int) = (0 : Int)) ∧ True)) ∧ ((((x.c.now = x.c.now) ∧ ((x.c.dur = x.c.dur) ∧ ((x.c.clos = x.c.clos) ∧ (((0 = 0) ∧ ((x.c.t = x.c.t) ∧ (x.c.t = x.c.t))) ∧ True)))) ∧ (((258 = 258) ∧ (∀ (q : Nat), ((q < 258) → ([(Value.bool (@ClkM.N x.c q))] = [(Value.bool (@ClkM.N x.c q))])))) ∧ (((258 = 258) ∧ (∀ (q : Nat), ((q < 258) → ([(Value.bool (@ClkM.L x.c q))] = [(Value.bool (@ClkM.L x.c q))])))) ∧ ((((@Fn.func (127 : @FuncId)) = (@Fn.func 127)) ∧ (((0 = 0) ∧ True) ∧ True)) ∧ True)))) ∧ (((x.c.t = x.c.t) ∧ (∀ (q : Nat), ((q < x.c.t) → ([(Value.int IntKind.i64 (@ClkM.o x.c q))] = [(Value.int IntKind.i64 (@ClkM.o x.c q))])))) ∧ ((((0 = 0) ∧ ((x.d.n = x_1.d.n) ∧ (x.d.n = x_1.d.n))) ∧ ((x.d.st = x_1.d.st) ∧ (((@ite Int (1 < x.d.n) (@Nat.decLt 1 x.d.n) (x.d.fl + (1 : Int)) x.d.fl) = (@ite Int (x_1.k < x_1.d.n) (@Nat.decLt x_1.k x_1.d.n) (x_1.d.fl + (1 : Int)) x_1.d.fl)) ∧ ((x.d.fe = x_1.d.fe) ∧ ((x.d.ba = x_1.d.ba) ∧ ((x.d.cu = x_1.d.cu) ∧ True)))))) ∧ ((((x.d.n * 193) = (x_1.d.n * 193)) ∧ (∀ (q : Nat), ((q < (x.d.n * 193)) → ((@Cs.eff (@devR (@DevM.flush x.d 1)) (@List.nil (@Prod Nat (@List Value))) q) = (@Cs.eff (@devR (@DevM.flush x_1.d x_1.k)) (@List.nil (@Prod Nat (@List Value))) q))))) ∧ True))))))))))))))
theorem step3VC_ok (x : ClkD) : step3VC x = step3VC_wp x := by kernel_rfl
def step4VC_wp (x : ClkD) : Prop := wpF Try.prog tblQ tt (fun _ _ _ _ => []) 200 5 34 (step4C.args x) (hO step4C.k (step4C.os x)) (fun v h' => endsP step4C.k x v h' step4C.outs)
def step4VC (x : ClkD) : Prop :=
  (cP (BEq.beq x.c.clos (0 : Int)) (∃ (y : Unit), (True ∧ ((((2 : Int) = (0 : Int)) ∧ (((0 : Int) = (12 : Int)) ∧ True)) ∧ ((((x.c.now = x.c.now) ∧ ((x.c.clos = x.c.dur) ∧ (((0 : Int) = x.c.clos) ∧ (((0 = 0) ∧ ((x.c.t = x.c.t) ∧ (x.c.t = x.c.t))) ∧ True)))) ∧ (((258 = 258) ∧ (∀ (q : Nat), ((q < 258) → ([(Value.bool (@ClkM.N x.c q))] = [(Value.bool (@ClkM.N x.c q))])))) ∧ (((258 = 258) ∧ (∀ (q : Nat), ((q < 258) → ([(Value.bool (@ClkM.L x.c q))] = [(Value.bool (@ClkM.L x.c q))])))) ∧ (False ∧ True)))) ∧ (((x.c.t = x.c.t) ∧ (∀ (q : Nat), ((q < x.c.t) → ([(Value.int IntKind.i64 (@ClkM.o x.c q))] = [(Value.int IntKind.i64 (@ClkM.o x.c q))])))) ∧ ((((0 = 0) ∧ ((x.d.n = x.d.n) ∧ (x.d.n = x.d.n))) ∧ ((x.d.st = x.d.st) ∧ ((x.d.fl = x.d.fl) ∧ (((x.d.fe + (1 : Int)) = x.d.fe) ∧ ((x.d.ba = x.d.ba) ∧ ((x.d.cu = x.d.cu) ∧ True)))))) ∧ ((((x.d.n * 193) = (x.d.n * 193)) ∧ (∀ (q : Nat), ((q < (x.d.n * 193)) → ((@Cs.eff (@devR x.d.fence) (@List.nil (@Prod Nat (@List Value))) q) = (@Cs.eff (@devR x.d) (@List.nil (@Prod Nat (@List Value))) q))))) ∧ True))))))) (∃ (x_1 : @DevM), ((Hd x_1.ok) ∧ (((0 = 0) ∧ True) ∧ (((((0 = 0) ∧ ((x_1.n = x.d.n) ∧ (x_1.n = x.d.n))) ∧ ((x_1.st = x.d.st) ∧ ((x_1.fl = x.d.fl) ∧ ((x_1.fe = x.d.fe) ∧ ((x_1.ba = x.d.ba) ∧ ((x_1.cu = x.d.cu) ∧ True)))))) ∧ ((((x_1.n * 193) = (x.d.n * 193)) ∧ (∀ (q : Nat), ((q < (x_1.n * 193)) → ((@Cs.eff (@devR x_1) (@List.nil (@Prod Nat (@List Value))) q) = (@Cs.eff (@devR x.d) (@List.nil (@Prod Nat (@List Value))) q))))) ∧ True)) ∧ (∀ (y : Unit), (True → (True ∧
 (True ∧ (∃ (y_1 : Unit), (True ∧ ((((2 : Int) = (2 : Int)) ∧ (((0 : Int) = (0 : Int)) ∧ True)) ∧ ((((x.c.now = x.c.now) ∧ ((x.c.clos = x.c.clos) ∧ (((0 : Int) = (0 : Int)) ∧ (((0 = 0) ∧ ((x.c.t = x.c.t) ∧ (x.c.t = x.c.t))) ∧ True)))) ∧ (((258 = 258) ∧ (∀ (q : Nat), ((q < 258) → ([(Value.bool (@ClkM.N x.c q))] = [(Value.bool (@ClkM.N x.c q))])))) ∧ (((258 = 258) ∧ (∀ (q : Nat), ((q < 258) → ([(Value.bool (@ClkM.L x.c q))] = [(Value.bool (@ClkM.L x.c q))])))) ∧ ((@Value.nilFunc = @Value.nilFunc) ∧ True)))) ∧ (((x.c.t = x.c.t) ∧ (∀ (q : Nat), ((q < x.c.t) → ([(Value.int IntKind.i64 (@ClkM.o x.c q))] = [(Value.int IntKind.i64 (@ClkM.o x.c q))])))) ∧ ((((0 = 0) ∧ ((x.d.n = x_1.n) ∧ (x.d.n = x_1.n))) ∧ ((x.d.st = x_1.st) ∧ ((x.d.fl = x_1.fl) ∧ (((x.d.fe + (1 : Int)) = (x_1.fe + (1 : Int))) ∧ ((x.d.ba = x_1.ba) ∧ ((x.d.cu = x_1.cu) ∧ True)))))) ∧ ((((x.d.n * 193) = (x_1.n * 193)) ∧ (∀ (q : Nat), ((q < (x.d.n * 193)) → ((@Cs.eff (@devR x.d.fence) (@List.nil (@Prod Nat (@List Value))) q) = (@Cs.eff (@devR x_1.fence) (@List.nil (@Prod Nat (@List Value))) q))))) ∧ True))))))))))))))))
theorem step4VC_ok (x : ClkD) : step4VC x = step4VC_wp x := by kernel_rfl
end Go.Proofs.Ytjndgegfonhhfaa
end
section
/- The clock: what is asked is so. -/
namespace Go.Proofs.Ytjndgegfonhhfaa
open Go SE
set_option linter.unusedSimpArgs false
theorem newkVC_true (p : Nat × Int) (hp : 1 ≤ p.1 ∧ p.1 ≤ 4 ∧ 0 ≤ p.2 ∧ p.2 ≤ 1152921504606846976) : newkVC p := by
  unfold newkVC
  simp only [hd_iff, and_true, true_and, Nat.zero_add, Nat.add_zero, unit_ex, unit_all, true_implies, implies_true, Int.toNat_natCast, eq_self, and_self, eff_nil, cond_one, cond_int, ones_int, row_int, ones_bool, row_bool, cond_bool, ble0, Bool.true_and, Nat.sub_zero]
  refine cP_intro (fun h => absurd (of_decide_eq_true h) (by omega)) fun _ => cP_intro (fun h => absurd (of_decide_eq_true h) (by omega)) fun _ => cP_intro (fun h => absurd (of_decide_eq_true h) (by omega)) fun _ => ⟨by omega, ?_⟩
  unfold IntKind.wrap; simp [IntKind.bits, IntKind.signed]; omega
theorem noteVC_true (x : ClkN) (hx : x.c.ok ∧ x.t < x.c.t) : noteVC x := by
  obtain ⟨⟨h1, h2, h3, h4, h5, h6⟩, ht⟩ := hx
  have hs := h6 x.t
  unfold small at hs
  unfold noteVC
  simp only [hd_iff, and_true, true_and, Nat.zero_add, Nat.add_zero, unit_ex, unit_all, true_implies, implies_true, Int.toNat_natCast, eq_self, and_self, eff_nil, cond_one, cond_int, ones_int, row_int, ones_bool, row_bool, cond_bool, ble0, Bool.true_and, Nat.sub_zero]
  refine cP_intro (fun h => absurd (of_decide_eq_true h) (by omega)) fun _ => cP_intro (fun h => ?_) fun h => cP_intro (fun h2 => ?_) fun h2 => ?_
  · have h := of_decide_eq_true h
    exact ⟨by rw [if_neg (by omega)], fun q hq => by simp; intro; omega, fun q hq => by rw [if_neg (by omega)]⟩
  · have h := of_decide_eq_true h2
    exact ⟨by rw [if_neg (by omega)], fun q hq => by simp; intro; omega, fun q hq => by rw [if_neg (by omega)]⟩
  · have h := of_decide_eq_false h
    have h2 := of_decide_eq_false h2
    have hl : 0 ≤ x.l ∧ x.l < 258 := by omega
    refine ⟨by omega, by omega, by unfold I64; omega, by omega, by omega, hl, by omega, by rw [if_pos hl], fun q hq => ?_, fun q hq => ?_⟩
    · simp only [Cs.eff, blt_iff_decide, ble_iff_decide, nbeq_decide, bif_decide, ← Bool.decide_and]
      by_cases e : q = x.l.toNat
      · rw [if_pos e, show decide (x.l = (q : Int)) = true by simp; omega, Bool.or_true]
      · rw [if_neg e, show decide (x.l = (q : Int)) = false by simp; omega, Bool.or_false]
    · simp only [Cs.eff, blt_iff_decide, ble_iff_decide, nbeq_decide, bif_decide, ← Bool.decide_and]
      by_cases e : q = x.t
      · subst e; rw [if_pos ⟨rfl, hl⟩, if_pos rfl]
      · rw [if_neg (by omega), if_neg e]
theorem beginVC_true (c : ClkM) (hx : c.ok ∧ c.clos = 0) : beginVC c := by
  obtain ⟨⟨h1, h2, h3, h4, h5, h6⟩, hc⟩ := hx
  unfold U64 at *
  unfold beginVC
  simp only [hd_iff, and_true, true_and, Nat.zero_add, Nat.add_zero, unit_ex, unit_all, true_implies, implies_true, Int.toNat_natCast, eq_self, and_self, eff_nil, cond_one, cond_int, ones_int, row_int, ones_bool, row_bool, cond_bool, ble0, Bool.true_and, Nat.sub_zero]
  refine cP_intro (fun h => ⟨by omega, ?_, fun q hq => by rw [nblt_iff.2 hq]; rfl⟩) fun h => absurd hc (of_decide_eq_false h)
  unfold IntKind.wrap; simp [IntKind.bits, IntKind.signed]; omega
set_option maxRecDepth 8000 in
theorem step1VC_true (x : ClkD) (hx : x.ok) : step1VC x := by
  obtain ⟨hc, hd, hz, hn⟩ := hx
  unfold step1VC
  simp only [hd_iff, and_true, true_and, Nat.zero_add, Nat.add_zero, unit_ex, unit_all, true_implies, implies_true, Int.toNat_natCast, eq_self, and_self, eff_nil, cond_one, cond_int, ones_int, row_int, ones_bool, row_bool, cond_bool, ble0, Bool.true_and, Nat.sub_zero]
  refine cP_intro (fun h => absurd (by simpa using h) hz) fun _ => ⟨⟨0, ⟨Nat.zero_le _, fun j hj => absurd hj (Nat.not_lt_zero j)⟩, Int.natCast_zero⟩, fun s hs => cP_intro (fun h => ?_) fun h => ?_⟩
  · have h := of_decide_eq_true h
    refine ⟨by omega, by omega, cP_intro (fun hl => ?_) fun hl => ?_⟩
    · refine ⟨by omega, by omega, ⟨x.d, s⟩, ⟨hd, (show s < 258 by omega)⟩, rfl, ⟨⟨rfl, rfl, rfl, rfl, rfl, rfl⟩, rfl, fun _ _ => rfl⟩, .inl ⟨s, ⟨by omega, hl, hs.2⟩, fun q hq => ?_, ⟨rfl, rfl, rfl, rfl, rfl, rfl⟩, rfl, fun _ _ => rfl⟩⟩
      simp only [Cs.eff, blt_iff_decide, ble_iff_decide, nbeq_decide, bif_decide, ← Bool.decide_and]
      by_cases e : q = s
      · rw [if_pos e, if_pos e]
      · rw [if_neg e, if_neg e]
    · refine ⟨by unfold I64; omega, s + 1, ⟨by omega, fun j hj => ?_⟩, by omega, by omega⟩
      by_cases e : j = s
      · subst e; exact hl
      · exact hs.2 j (by omega)
  · have h := of_decide_eq_false h
    have : s = 258 := by omega
    subst this
    exact ⟨x.d, hd, ⟨⟨rfl, rfl, rfl, rfl, rfl, rfl⟩, rfl, fun _ _ => rfl⟩, .inr ⟨hs.2, ⟨rfl, rfl, rfl, rfl, rfl, rfl⟩, rfl, fun _ _ => rfl⟩⟩
theorem clockG_u8 (v : Int) (k : Nat) : 0 ≤ clockG v k ∧ clockG v k < 256 := by
  unfold clockG head9
  split
  · split
    · omega
    · exact div_mod_u8 _ _
  · split
    · exact div_mod_u8 _ _
    · omega
theorem step2VC_true (x : ClkD) (hx : x.ok) : step2VC x := by
  obtain ⟨hc, hd, hz, hn⟩ := hx
  have hU := hc.2.2.2.2.1
  unfold U64 at hU
  unfold step2VC
  simp only [hd_iff, and_true, true_and, Nat.zero_add, Nat.add_zero, unit_ex, unit_all, true_implies, implies_true, Int.toNat_natCast, eq_self, and_self, eff_nil, cond_one, cond_int, ones_int, row_int, ones_bool, row_bool, cond_bool, ble0, Bool.true_and, Nat.sub_zero]
  refine cP_intro (fun h => absurd (by simpa using h) hz) fun _ => ⟨x.c.clos, by omega, rfl, ⟨x.d, 1, 0, ⟨clockG x.c.clos, 0, 64, 64⟩⟩, ⟨hd, hn, ⟨by simp, by simp, clockG_u8 _⟩, by simp⟩, ⟨rfl, rfl, rfl, rfl⟩, ⟨⟨rfl, rfl, rfl, rfl, rfl, rfl⟩, ⟨rfl, fun _ _ => rfl⟩, rfl, fun _ _ => rfl⟩, ⟨rfl, rfl, rfl, rfl, rfl, rfl⟩, rfl, fun q _ => ?_⟩
  simp only [Nat.zero_add]
theorem step3VC_true (x : ClkD) (hx : x.ok) : step3VC x := by
  obtain ⟨hc, hd, hz, hn⟩ := hx
  unfold step3VC
  simp only [hd_iff, and_true, true_and, Nat.zero_add, Nat.add_zero, unit_ex, unit_all, true_implies, implies_true, Int.toNat_natCast, eq_self, and_self, eff_nil, cond_one, cond_int, ones_int, row_int, ones_bool, row_bool, cond_bool, ble0, Bool.true_and, Nat.sub_zero]
  exact cP_intro (fun h => absurd (by simpa using h) hz) fun _ => ⟨⟨x.d, 1⟩, ⟨hd, (show 1 < 258 by omega)⟩, rfl, ⟨⟨rfl, rfl, rfl, rfl, rfl, rfl⟩, rfl, fun _ _ => rfl⟩, ⟨rfl, rfl, rfl, rfl, rfl, rfl⟩, rfl, fun _ _ => rfl⟩
theorem step4VC_true (x : ClkD) (hx : x.ok) : step4VC x := by
  obtain ⟨hc, hd, hz, hn⟩ := hx
  unfold step4VC
  simp only [hd_iff, and_true, true_and, Nat.zero_add, Nat.add_zero, unit_ex, unit_all, true_implies, implies_true, Int.toNat_natCast, eq_self, and_self, eff_nil, cond_one, cond_int, ones_int, row_int, ones_bool, row_bool, cond_bool, ble0, Bool.true_and, Nat.sub_zero]
  exact cP_intro (fun h => absurd (by simpa using h) hz) fun _ => ⟨x.d, hd, ⟨⟨rfl, rfl, rfl, rfl, rfl, rfl⟩, rfl, fun _ _ => rfl⟩, ⟨rfl, rfl, rfl, rfl, rfl, rfl⟩, rfl, fun _ _ => rfl⟩
theorem newk_ok : CtrOk Try.prog 28 newkC := det_end tt_ok mixed tblX_ok (fun _ _ _ _ _ => []) 200 5 (fun _ => rfl) (fun _ => rfl) fun x hx => Eq.mp (newkVC_ok x) (newkVC_true x (hd_iff.1 hx))
theorem note_ok : CtrOk Try.prog 30 (noteC 0) := det_end tt_ok mixed tblX_ok (fun _ _ _ _ _ => []) 200 5 (fun _ => rfl) (fun _ => rfl) fun x hx => Eq.mp (noteVC_ok x) (noteVC_true x (hd_iff.1 hx))
theorem begin_ok : CtrOk Try.prog 31 beginC := det_end tt_ok mixed tblX_ok (fun _ _ _ _ _ => []) 200 5 (fun _ => rfl) (fun _ => rfl) fun x hx => Eq.mp (beginVC_ok x) (beginVC_true x (hd_iff.1 hx))
theorem step1_ok : CtrOk Try.prog 34 step1C := ctr_endL tt_ok mixed tblQ_ok anStep1 200 5 (fun _ => rfl) (fun _ => ⟨fun _ => rfl, fun _ => rfl, trivial⟩) fun x hx => Eq.mp (step1VC_ok x) (step1VC_true x (hd_iff.1 hx))
theorem step2_ok : CtrOk Try.prog 34 step2C := det_end tt_ok mixed tblQ_ok (fun _ _ _ _ _ => []) 200 5 (fun _ => rfl) (fun _ => rfl) fun x hx => Eq.mp (step2VC_ok x) (step2VC_true x (hd_iff.1 hx))
theorem step3_ok : CtrOk Try.prog 34 step3C := det_end tt_ok mixed tblQ_ok (fun _ _ _ _ _ => []) 200 5 (fun _ => rfl) (fun _ => rfl) fun x hx => Eq.mp (step3VC_ok x) (step3VC_true x (hd_iff.1 hx))
theorem step4_ok : CtrOk Try.prog 34 step4C := det_end tt_ok mixed tblQ_ok (fun _ _ _ _ _ => []) 200 5 (fun _ => rfl) (fun _ => rfl) fun x hx => Eq.mp (step4VC_ok x) (step4VC_true x (hd_iff.1 hx))
/-- A step of the clock, whichever is next. -/
noncomputable def stepT : WTr := fun args h K => bif Nat.beq (phOf args h) 1 then ctrT step1C args h K else bif Nat.beq (phOf args h) 2 then ctrT step2C args h K else bif Nat.beq (phOf args h) 3 then ctrT step3C args h K else
  bif Nat.beq (phOf args h) 4 then ctrT step4C args h K else False
theorem stepT_ok (args : List AV) (h : Heap) (K : AV → Heap → Prop) (hq : stepT args h K) : Sp Try.prog 34 args h K := by
  unfold stepT at hq
  cases h1 : Nat.beq (phOf args h) 1 <;> rw [h1] at hq
  · cases h2 : Nat.beq (phOf args h) 2 <;> rw [h2] at hq
    · cases h3 : Nat.beq (phOf args h) 3 <;> rw [h3] at hq
      · cases h4 : Nat.beq (phOf args h) 4 <;> rw [h4] at hq
        · exact hq.elim
        · exact ctrT_ok step4_ok _ _ _ hq
      · exact ctrT_ok step3_ok _ _ _ hq
    · exact ctrT_ok step2_ok _ _ _ hq
  · exact ctrT_ok step1_ok _ _ _ hq
end Go.Proofs.Ytjndgegfonhhfaa
end
section
/- CostClosing: the state as it goes on. -/
namespace Go.Proofs.Ytjndgegfonhhfaa
open Go SE
set_option linter.unusedSimpArgs false
/-- How many of the first m lines are left. -/
def cntB (L : Nat → Bool) : Nat → Nat
  | 0 => 0
  | m + 1 => bif L m then cntB L m + 1 else cntB L m
structure ClkF where
  L : Nat → Bool
  d : DevM
  n : Nat
def clk0 (g : Nat → Int) (i : Nat) (o : Int) : ClkM := ⟨1, 1, 0, 0, fun _ => o, met g i, fun _ => false⟩
def clkF (L : Nat → Bool) (dur clos : Int) : ClkM := ⟨1, 2, dur, clos, fun _ => 0, fun _ => false, L⟩
/-- A form of the closing's loop: what the clock does next. -/
noncomputable def formK (ph : Nat) (dur clos : Int) (iv : ClkF → Prop) : LAnn :=
  { σ := ClkF, fr := fun s => [(9, i64 s.n)], ob := fun s => [(1, some ((clkF s.L dur clos).clkA 2 (stA 1 ph))), (2, some (clkF s.L dur clos).owed), (3, some (s.d.dev 4)), (4, some s.d.cells)], inv := fun s => Hd (s.d.ok ∧ s.d.n = 258 ∧ iv s), meas := fun s => 400 - s.n, test := fun _ h => Nat.beq (phOf [.ptr 1 0] h) ph }
def devI (s : ClkF) (st fl fe : Int) : Prop := s.d.st = st ∧ s.d.fl = fl ∧ s.d.fe = fe
noncomputable def anClosing (x : Nts) : FuncId → Anns := fun f => bif Nat.beq f 8 then (fun b _ _ =>
  bif Nat.beq b 0 then [{ σ := Nat × Int, fr := fun s => [(7, i64 s.1)], ob := fun s => [(1, some ((clk0 x.g s.1 s.2).clkA 2 (stA 1 0))), (2, some (clk0 x.g s.1 s.2).owed)], inv := fun s => Hd (s.1 ≤ x.n ∧ 0 ≤ s.2 ∧ s.2 ≤ s.1), meas := fun s => x.n - s.1 }] else
  bif Nat.beq b 2 then [
    formK 1 0 1 (fun s => s.n + cntB s.L 258 = cntTo x.g x.n 258 ∧ devI s 0 s.n 0),
    formK 2 0 1 (fun s => s.n = cntTo x.g x.n 258 + 1 ∧ devI s 0 (cntTo x.g x.n 258) 1),
    formK 3 0 1 (fun s => s.n = cntTo x.g x.n 258 + 2 ∧ devI s 1 (cntTo x.g x.n 258) 1),
    formK 4 0 1 (fun s => s.n = cntTo x.g x.n 258 + 3 ∧ devI s 1 (cntTo x.g x.n 258 + 1) 1),
    formK 0 1 0 (fun s => s.n = cntTo x.g x.n 258 + 4 ∧ devI s 1 (cntTo x.g x.n 258 + 1) 2)] else []) else fun _ _ _ => []
noncomputable def tblZ : WTbl := tblX ++ [(11, awakeT), (23, ctrT closeC), (28, ctrT newkC), (29, ctrT newdC), (30, ctrT (noteC 0)), (31, ctrT beginC), (34, stepT)]
theorem tblZ_ok : TblOk Try.prog tblZ := .append tblX_ok (.cons awakeT_ok (.cons (ctrT_ok close_ok) (.cons (ctrT_ok newk_ok) (.cons (ctrT_ok newd_ok) (.cons (ctrT_ok note_ok) (.cons (ctrT_ok begin_ok) (.cons stepT_ok .nil)))))))
end Go.Proofs.Ytjndgegfonhhfaa
end
section
/- What is asked of CostClosing. -/
namespace Go.Proofs.Ytjndgegfonhhfaa
open Go SE
def closingVC_wp (x : Nts) : Prop := wpF Try.prog tblZ tt (anClosing x) 200 5 8 [.slR 0 0 1 x.n] (hO 1 [.ro (rowI x.g x.n)]) (fun v h' => endP 1 (.lit (.bool true)) [.ro (rowI x.g x.n)] v h')
def closingVC_7 (x : Nts) : Prop := (((AV.agg [(AV.lit (Value.int IntKind.i64 (0 : Int))), (AV.lit (Value.int IntKind.i64 (0 : Int))), (AV.lit (Value.int IntKind.i64 (0 : Int))), (AV.lit (Value.int IntKind.i64 (0 : Int))), (AV.lit (Value.int IntKind.i64 (0 : Int)))]) = (AV.agg [(AV.lit (Value.int IntKind.i64 (0 : Int))), (AV.lit (Value.int IntKind.i64 (0 : Int))), (AV.lit (Value.int IntKind.i64 (0 : Int))), (AV.lit (Value.int IntKind.i64 (0 : Int))), (AV.lit (Value.int IntKind.i64 (0 : Int)))])) ∧ True)
def closingVC_13 (x : Nts) : Prop := ((((@rowI (@Nts.g x) (@Nts.n x)) = (@rowI (@Nts.g x) (@Nts.n x))) ∧ (Bool.true = Bool.true)) ∧ True)
def closingVC_8 (x : Nts) (s_1 : @ClkF) : Prop := (True ∧ (True ∧ (True ∧ (True ∧ (∃ (x_4 : @Nts), ((((@Nts.n x_4) ≤ (@Nts.N x_4)) ∧ ((@Nts.n x_4) < 1099511627776)) ∧ ((((0 = 0) ∧ ((@Nts.n x_4) = (@Nts.n x))) ∧ True) ∧ (((((@Nts.N x_4) = (@Nts.n x)) ∧ (∀ (q : Nat), ((q < (@Nts.N x_4)) → ([(Value.int IntKind.i64 (@Nts.g x_4 q))] = [(Value.int IntKind.i64 (@Nts.g x q))])))) ∧ True) ∧ (∀ (y_3 : Unit), (True → ((((AV.agg [(AV.lit (Value.int IntKind.i64 ((s_1.n : Nat) : Int))), (AV.lit (Value.int IntKind.i64 (@imax ((@imax s_1.d.st (0 : Int)) - (0 : Int)) (0 : Int)))), (AV.lit (Value.int IntKind.i64 (@imax ((@imax s_1.d.fl (0 : Int)) - (0 : Int)) (0 : Int)))), (AV.lit (Value.int IntKind.i64 (@imax ((@imax s_1.d.fe (0 : Int)) - (0 : Int)) (0 : Int)))), (AV.lit (Value.int IntKind.i64 (0 : Int))), (AV.lit (Value.int IntKind.i64 (0 : Int)))]) = (AV.agg [(AV.lit (Value.int IntKind.i64 ((s_1.n : Nat) : Int))), (AV.lit (Value.int IntKind.i64 (@imax ((@imax s_1.d.st (0 : Int)) - (0 : Int)) (0 : Int)))), (AV.lit (Value.int IntKind.i64 (@imax ((@imax s_1.d.fl (0 : Int)) - (0 : Int)) (0 : Int)))), (AV.lit (Value.int IntKind.i64 (@imax ((@imax s_1.d.fe (0 : Int)) - (0 : Int)) (0 : Int)))), (AV.lit (Value.int IntKind.i64 (0 : Int))), (AV.lit (Value.int IntKind.i64 (0 : Int)))])) ∧ True) ∧ (cP (@Bool.and (BEq.beq ((s_1.n : Nat) : Int) ((((@cntTo (@Nts.g x_4) (@Nts.n x_4) 258) : Nat) : Int) + (4 : Int))) (@Bool.and (BEq.beq (@imax ((@imax s_1.d.st (0 : Int)) - (0 : Int)) (0 : Int)) (1 : Int)) (@Bool.and (BEq.beq (@imax ((@imax s_1.d.fl (0 : Int)) - (0 : Int)) (0 : Int)) ((((@cntTo (@Nts.g x_4) (@Nts.n x_4) 258) : Nat) : Int) + (1 : Int))) (@Bool.and (BEq.beq (@imax ((@imax s_1.d.fe (0 : Int)) - (0 : Int)) (0 : Int)) (2 : Int)) Bool.true)))) (True ∧ ((Bool.true = Bool.true) ∧ (closingVC_13 x))) (True ∧ ((Bool.true = Bool.false) ∧ (closingVC_13 x)))))))))))))))
def closingVC_9 (x : Nts) : Prop := ((AV.lit (Value.int IntKind.i64 (0 : Int))) = (AV.lit (Value.int IntKind.i64 (0 : Int))))
def closingVC_24 (x : Nts) (s_1 : @ClkF) : Prop := ((AV.lit (Value.int IntKind.i64 s_1.d.fe)) = (AV.lit (Value.int IntKind.i64 s_1.d.fe)))
def closingVC_17 (x : Nts) (s_1 : @ClkF) : Prop := ((closingVC_9 x) ∧ ((closingVC_24 x s_1) ∧ ((closingVC_9 x) ∧ (((AV.lit (Value.int IntKind.i64 s_1.d.fl)) = (AV.lit (Value.int IntKind.i64 s_1.d.fl))) ∧ True))))
def closingVC_1 (x : Nts) (s_1 : @ClkF) : Prop := ((closingVC_7 x) ∧ ((I64 ((@imax s_1.d.st (0 : Int)) - (0 : Int))) ∧ ((closingVC_17 x s_1) ∧ ((I64 ((@imax s_1.d.fl (0 : Int)) - (0 : Int))) ∧ (((closingVC_9 x) ∧ ((closingVC_24 x s_1) ∧ True)) ∧ ((I64 ((@imax s_1.d.fe (0 : Int)) - (0 : Int))) ∧ (closingVC_8 x s_1)))))))
def closingVC_2 (x : Nts) (s_1 : @ClkF) : Prop := ((I64 ((@imax s_1.d.st (0 : Int)) - (0 : Int))) ∧ ((closingVC_17 x s_1) ∧ ((I64 ((@imax s_1.d.fl (0 : Int)) - (0 : Int))) ∧ (((closingVC_9 x) ∧ ((closingVC_24 x s_1) ∧ True)) ∧ ((I64 ((@imax s_1.d.fe (0 : Int)) - (0 : Int))) ∧ (True ∧ (closingVC_8 x s_1)))))))
def closingVC_3 (x : Nts) : Prop := (((0 : Int) = (0 : Int)) ∧ (((0 : Int) = (0 : Int)) ∧ (((0 : Int) = (0 : Int)) ∧ (((0 : Int) = (0 : Int)) ∧ (((0 : Int) = (0 : Int)) ∧ True)))))
def closingVC_4 (x : Nts) (s_1 : @ClkF) (x_4 : @ClkD) : Prop := (((x_4.c.t = 1) ∧ (∀ (q : Nat), ((q < x_4.c.t) → ([(Value.int IntKind.i64 (@ClkM.o x_4.c q))] = [(Value.int IntKind.i64 (0 : Int))])))) ∧ ((((0 = 0) ∧ ((x_4.d.n = s_1.d.n) ∧ (x_4.d.n = s_1.d.n))) ∧ ((x_4.d.st = s_1.d.st) ∧ ((x_4.d.fl = s_1.d.fl) ∧ ((x_4.d.fe = s_1.d.fe) ∧ ((x_4.d.ba = s_1.d.ba) ∧ ((x_4.d.cu = s_1.d.cu) ∧ True)))))) ∧ ((((x_4.d.n * 193) = (s_1.d.n * 193)) ∧ (∀ (q : Nat), ((q < (x_4.d.n * 193)) → ((@Cs.eff (@devR x_4.d) (@List.nil (@Prod Nat (@List Value))) q) = (@Cs.eff (@devR s_1.d) (@List.nil (@Prod Nat (@List Value))) q))))) ∧ True)))
def closingVC_5 (x : Nts) (x_4 : @ClkD) : Prop := ((1 = x_4.c.t) ∧ (∀ (q : Nat), ((q < 1) → ([(Value.int IntKind.i64 (0 : Int))] = [(Value.int IntKind.i64 (@ClkM.o x_4.c q))]))))
def closingVC_6 (x : Nts) (x_4 : @ClkD) : Prop := ((x_4.c.now = (2 : Int)) ∧ ((x_4.c.dur = (0 : Int)) ∧ ((x_4.c.clos = (1 : Int)) ∧ (((0 = 0) ∧ ((x_4.c.t = 1) ∧ (x_4.c.t = 1))) ∧ True))))
def closingVC_10 (x : Nts) (x_4 : @ClkD) : Prop := (((2 : Int) = x_4.c.now) ∧ (((0 : Int) = x_4.c.dur) ∧ (((1 : Int) = x_4.c.clos) ∧ (((0 = 0) ∧ ((1 = x_4.c.t) ∧ (1 = x_4.c.t))) ∧ True))))
def closingVC_11 (x : Nts) (x_4 : @ClkD) : Prop := ((258 = 258) ∧ (∀ (q : Nat), ((q < 258) → ([(Value.bool Bool.false)] = [(Value.bool (@ClkM.N x_4.c q))]))))
def closingVC_12 (x : Nts) (x_4 : @ClkD) : Prop := ((258 = 258) ∧ (∀ (q : Nat), ((q < 258) → ([(Value.bool (@ClkM.N x_4.c q))] = [(Value.bool Bool.false)]))))
def closingVC_14 (x : Nts) (s_1 : @ClkF) : Prop := ((True ∧ (True ∧ (True ∧ (True ∧ (True ∧ (True ∧ ((closingVC_7 x) ∧ ((closingVC_2 x s_1) ∧ (closingVC_1 x s_1))))))))) ∧ ((closingVC_7 x) ∧ (True ∧ (True ∧ (True ∧ (True ∧ (True ∧ (True ∧ (closingVC_1 x s_1)))))))))
def closingVC_15 (x : Nts) (s_1 : @ClkF) (x_4 : @ClkD) : Prop := ((258 = 258) ∧ (∀ (q : Nat), ((q < 258) → ([(Value.bool (@ClkM.L x_4.c q))] = [(Value.bool (@ClkF.L s_1 q))]))))
def closingVC_16 (x : Nts) (s_2 : @ClkF) (x_4 : @ClkD) : Prop := ((258 = 258) ∧ (∀ (q : Nat), ((q < 258) → ([(Value.bool (@ClkF.L s_2 q))] = [(Value.bool (@ClkM.L x_4.c q))]))))
def closingVC_18 (x : Nts) (x_2 : Nat) : Prop := (((x_2 * 193) = (x_2 * 193)) ∧ (∀ (q : Nat), ((q < (x_2 * 193)) → ((@Cs.eff (@devR (@newDev x_2)) (@List.nil (@Prod Nat (@List Value))) q) = (@Cs.eff (@devR (@newDev x_2)) (@List.nil (@Prod Nat (@List Value))) q)))))
def closingVC_19 (x : Nts) (s_2 : @ClkF) (x_4 : @ClkD) : Prop := (((s_2.d.n * 193) = (x_4.d.n * 193)) ∧ (∀ (q : Nat), ((q < (s_2.d.n * 193)) → ((@Cs.eff (@devR s_2.d) (@List.nil (@Prod Nat (@List Value))) q) = (@Cs.eff (@devR x_4.d.fence) (@List.nil (@Prod Nat (@List Value))) q)))))
def closingVC_20 (x : Nts) : Prop := ((((@Fn.func (65 : @FuncId)) = (@Fn.func (65 : @FuncId))) ∧ (((0 = 0) ∧ True) ∧ True)) ∧ True)
def closingVC_21 (x : Nts) (s_2 : @ClkF) (x_4 : @ClkD) : Prop := (((0 = 0) ∧ ((s_2.d.n = x_4.d.n) ∧ (s_2.d.n = x_4.d.n))) ∧ ((s_2.d.st = x_4.d.st) ∧ ((s_2.d.fl = x_4.d.fl) ∧ ((s_2.d.fe = (x_4.d.fe + (1 : Int))) ∧ ((s_2.d.ba = x_4.d.ba) ∧ ((s_2.d.cu = x_4.d.cu) ∧ True))))))
def closingVC_22 (x : Nts) (s_1 : @ClkF) (s_2 : @ClkF) : Prop := ((((s_2.n : Nat) : Int) = (((s_1.n : Nat) : Int) + (1 : Int))) ∧ True)
def closingVC_23 (x : Nts) (s_1 : @ClkF) : Prop := (s_1.d.ok ∧ ((s_1.d.n = 258) ∧ (((s_1.n + (@cntB s_1.L 258)) = (@cntTo (@Nts.g x) (@Nts.n x) 258)) ∧ (@devI s_1 (0 : Int) ((s_1.n : Nat) : Int) (0 : Int)))))
def closingVC (x : Nts) : Prop :=
  (cP (decide (@GT.gt Int @Int.instLTInt (((@Nts.n x) : Nat) : Int) (300 : Int))) ((Bool.true = Bool.true) ∧ (closingVC_13 x)) (∃ (x_1 : (@Prod Nat Int)), ((Hd ((1 ≤ x_1.1) ∧ ((x_1.1 ≤ 4) ∧ (((0 : Int) ≤ x_1.2) ∧ (x_1.2 ≤ (1152921504606846976 : Int)))))) ∧ (((((x_1.1 : Nat) : Int) = (1 : Int)) ∧ ((x_1.2 = (0 : Int)) ∧ True)) ∧ (True ∧ (∀ (y : Unit), (True → (∃ (x_2 : Nat), ((Hd ((1 ≤ x_2) ∧ (x_2 ≤ 258))) ∧ (((((x_2 : Nat) : Int) = (258 : Int)) ∧ True) ∧ (True ∧ (∀ (y_1 : Unit), (True → ((∃ (s : (@Prod Nat Int)), ((Hd ((s.1 ≤ (@Nts.n x)) ∧ (((0 : Int) ≤ s.2) ∧ (s.2 ≤ ((s.1 : Nat) : Int))))) ∧ (True ∧ (((((s.1 : Nat) : Int) = (0 : Int)) ∧ True) ∧ ((closingVC_18 x x_2) ∧ ((((0 = 0) ∧ ((x_2 = x_2) ∧ (x_2 = x_2))) ∧ (closingVC_3 x)) ∧ (((1 = x_1.1) ∧ (∀ (q : Nat), ((q < 1) → ([(Value.int IntKind.i64 s.2)] = [(Value.int IntKind.i64 (0 : Int))])))) ∧ (((((1 : Int) = (x_1.2 + (1 : Int))) ∧ (((0 : Int) = x_1.2) ∧ (((0 : Int) = (0 : Int)) ∧ (((0 = 0) ∧ ((1 = x_1.1) ∧ (1 = x_1.1))) ∧ True)))) ∧ (((258 = 258) ∧ (∀ (q : Nat), ((q < 258) → ([(Value.bool (@met (@Nts.g x) s.1 q))] = [(Value.bool Bool.false)])))) ∧ (((258 = 258) ∧ (∀ (q : Nat), ((q < 258) → ([(Value.bool Bool.false)] = [(Value.bool Bool.false)])))) ∧ ((@Value.nilFunc = @Value.nilFunc) ∧ True)))) ∧ (closingVC_13 x))))))))) ∧ ((∀ (s : (@Prod Nat Int)), ((Hd ((s.1 ≤ (@Nts.n x)) ∧ (((0 : Int) ≤ s.2) ∧ (s.2 ≤ ((s.1 : Nat) : Int))))) → (cP (decide (((s.1 : Nat) : Int) < (((@Nts.n x) : Nat) : Int))) ((((0 : Int) ≤ ((s.1 : Nat) : Int)) ∧
 (((s.1 : Nat) : Int) < (((@Nts.n x) : Nat) : Int))) ∧ (((0 + s.1) < (@Nts.n x)) ∧ (∃ (x_3 : @ClkN), ((Hd (x_3.c.ok ∧ (x_3.t < x_3.c.t))) ∧ (((0 = 0) ∧ ((((x_3.t : Nat) : Int) = (0 : Int)) ∧ ((x_3.l = (@Nts.g x (0 + s.1))) ∧ True))) ∧ (((((x_3.c.now = (1 : Int)) ∧ ((x_3.c.dur = (0 : Int)) ∧ ((x_3.c.clos = (0 : Int)) ∧ (((0 = 0) ∧ ((x_3.c.t = 1) ∧ (x_3.c.t = 1))) ∧ True)))) ∧ (((258 = 258) ∧ (∀ (q : Nat), ((q < 258) → ([(Value.bool (@ClkM.N x_3.c q))] = [(Value.bool (@met (@Nts.g x) s.1 q))])))) ∧ (((258 = 258) ∧ (∀ (q : Nat), ((q < 258) → ([(Value.bool (@ClkM.L x_3.c q))] = [(Value.bool Bool.false)])))) ∧ ((@Value.nilFunc = @Value.nilFunc) ∧ True)))) ∧ (((x_3.c.t = 1) ∧ (∀ (q : Nat), ((q < x_3.c.t) → ([(Value.int IntKind.i64 (@ClkM.o x_3.c q))] = [(Value.int IntKind.i64 s.2)])))) ∧ True)) ∧ (∀ (y_2 : Unit), (True → ((I64 (((s.1 : Nat) : Int) + (1 : Int))) ∧ (∃ (s_1 : (@Prod Nat Int)), ((Hd ((s_1.1 ≤ (@Nts.n x)) ∧ (((0 : Int) ≤ s_1.2) ∧ (s_1.2 ≤ ((s_1.1 : Nat) : Int))))) ∧ ((((@Nts.n x) - s_1.1) < ((@Nts.n x) - s.1)) ∧ (((((s_1.1 : Nat) : Int) = (((s.1 : Nat) : Int) + (1 : Int))) ∧ True) ∧ ((closingVC_18 x x_2) ∧ ((((0 = 0) ∧ ((x_2 = x_2) ∧ (x_2 = x_2))) ∧ (closingVC_3 x)) ∧ (((1 = x_3.c.t) ∧ (∀ (q : Nat), ((q < 1) → ([(Value.int IntKind.i64 s_1.2)] = [(Value.int IntKind.i64 (@ite Int ((q = x_3.t) ∧ (((0 : Int) ≤ x_3.l) ∧ (x_3.l < (258 : Int)))) (@instDecidableAnd (q = x_3.t) (((0 : Int) ≤ x_3.l) ∧ (x_3.l < (258 : Int))) (@instDecidableEqNat q x_3.t) (@instDecidableAnd ((0 : Int) ≤ x_3.l) (x_3.l < (258 : Int)) (@Int.decLe (0 : Int) x_3.l) (@Int.decLt x_3.l (258 : Int)))) ((@ClkM.o x_3.c q) + (1 : Int)) (@ClkM.o x_3.c q)))])))) ∧
 (((((1 : Int) = x_3.c.now) ∧ (((0 : Int) = x_3.c.dur) ∧ (((0 : Int) = x_3.c.clos) ∧ (((0 = 0) ∧ ((1 = x_3.c.t) ∧ (1 = x_3.c.t))) ∧ True)))) ∧ (((258 = 258) ∧ (∀ (q : Nat), ((q < 258) → ([(Value.bool (@met (@Nts.g x) s_1.1 q))] = [(Value.bool (@Bool.or (@ClkM.N x_3.c q) (decide (x_3.l = ((q : Nat) : Int)))))])))) ∧ (((258 = 258) ∧ (∀ (q : Nat), ((q < 258) → ([(Value.bool Bool.false)] = [(Value.bool (@ClkM.L x_3.c q))])))) ∧ ((@Value.nilFunc = @Value.nilFunc) ∧ True)))) ∧ (closingVC_13 x)))))))))))))))))) (∃ (x_3 : @ClkM), ((Hd (x_3.ok ∧ (x_3.clos = (0 : Int)))) ∧ (((0 = 0) ∧ True) ∧ (((((x_3.now = (1 : Int)) ∧ ((x_3.dur = (0 : Int)) ∧ ((x_3.clos = (0 : Int)) ∧ (((0 = 0) ∧ ((x_3.t = 1) ∧ (x_3.t = 1))) ∧ True)))) ∧ (((258 = 258) ∧ (∀ (q : Nat), ((q < 258) → ([(Value.bool (@ClkM.N x_3 q))] = [(Value.bool (@met (@Nts.g x) s.1 q))])))) ∧ (((258 = 258) ∧ (∀ (q : Nat), ((q < 258) → ([(Value.bool (@ClkM.L x_3 q))] = [(Value.bool Bool.false)])))) ∧ ((@Value.nilFunc = @Value.nilFunc) ∧ True)))) ∧ (((x_3.t = 1) ∧ (∀ (q : Nat), ((q < x_3.t) → ([(Value.int IntKind.i64 (@ClkM.o x_3 q))] = [(Value.int IntKind.i64 s.2)])))) ∧ True)) ∧ (∀ (y_2 : Unit), (True → (True ∧ (True ∧ (True ∧ (True ∧ (True ∧ (True ∧ ((∃ (s_1 : @ClkF), ((Hd (closingVC_23 x s_1)) ∧ (True ∧ (((((s_1.n : Nat) : Int) = (0 : Int)) ∧ True) ∧ ((closingVC_3 x) ∧ ((closingVC_3 x) ∧ ((((s_1.d.n * 193) = (x_2 * 193)) ∧ (∀ (q : Nat), ((q < (s_1.d.n * 193)) → ((@Cs.eff (@devR s_1.d) (@List.nil (@Prod Nat (@List Value))) q) = (@Cs.eff (@devR (@newDev x_2)) (@List.nil (@Prod Nat (@List Value))) q))))) ∧
 ((((0 = 0) ∧ ((s_1.d.n = x_2) ∧ (s_1.d.n = x_2))) ∧ ((s_1.d.st = (0 : Int)) ∧ ((s_1.d.fl = (0 : Int)) ∧ ((s_1.d.fe = (0 : Int)) ∧ ((s_1.d.ba = (0 : Int)) ∧ ((s_1.d.cu = (0 : Int)) ∧ True)))))) ∧ (((1 = x_3.t) ∧ (∀ (q : Nat), ((q < 1) → ([(Value.int IntKind.i64 (0 : Int))] = [(Value.int IntKind.i64 (0 : Int))])))) ∧ (((((2 : Int) = (x_3.now + (1 : Int))) ∧ (((0 : Int) = x_3.dur) ∧ (((1 : Int) = x_3.now) ∧ (((0 = 0) ∧ ((1 = x_3.t) ∧ (1 = x_3.t))) ∧ True)))) ∧ (((258 = 258) ∧ (∀ (q : Nat), ((q < 258) → ([(Value.bool Bool.false)] = [(Value.bool Bool.false)])))) ∧ (((258 = 258) ∧ (∀ (q : Nat), ((q < 258) → ([(Value.bool (@ClkF.L s_1 q))] = [(Value.bool (@ClkM.N x_3 q))])))) ∧ (closingVC_20 x)))) ∧ (closingVC_13 x))))))))))) ∧ ((∀ (s_1 : @ClkF), ((Hd (closingVC_23 x s_1)) → (cP (decide (((s_1.n : Nat) : Int) < (400 : Int))) (∃ (x_4 : @ClkD), ((Hd x_4.ok) ∧ (((0 = 0) ∧ ((0 = 0) ∧ True)) ∧ ((((closingVC_6 x x_4) ∧ ((closingVC_12 x x_4) ∧ ((closingVC_15 x s_1 x_4) ∧ (closingVC_20 x)))) ∧ (closingVC_4 x s_1 x_4)) ∧ ((∀ (y_3 : Nat), ((Hd ((y_3 < 258) ∧ (((@ClkM.L x_4.c y_3) = Bool.true) ∧ (∀ (j : Nat), ((j < y_3) → ((@ClkM.L x_4.c j) = Bool.false)))))) → ((I64 (((s_1.n : Nat) : Int) + (1 : Int))) ∧ (∃ (s_2 : @ClkF), ((Hd (s_2.d.ok ∧ ((s_2.d.n = 258) ∧ (((s_2.n + (@cntB s_2.L 258)) = (@cntTo (@Nts.g x) (@Nts.n x) 258)) ∧ (@devI s_2 (0 : Int) ((s_2.n : Nat) : Int) (0 : Int)))))) ∧ (((400 - s_2.n) < (400 - s_1.n)) ∧ ((closingVC_22 x s_1 s_2) ∧ ((closingVC_3 x) ∧ ((closingVC_3 x) ∧ ((((s_2.d.n * 193) = (x_4.d.n * 193)) ∧
 (∀ (q : Nat), ((q < (s_2.d.n * 193)) → ((@Cs.eff (@devR s_2.d) (@List.nil (@Prod Nat (@List Value))) q) = (@Cs.eff (@devR (@DevM.flush x_4.d y_3)) (@List.nil (@Prod Nat (@List Value))) q))))) ∧ ((((0 = 0) ∧ ((s_2.d.n = x_4.d.n) ∧ (s_2.d.n = x_4.d.n))) ∧ ((s_2.d.st = x_4.d.st) ∧ ((s_2.d.fl = (@ite Int (y_3 < x_4.d.n) (@Nat.decLt y_3 x_4.d.n) (x_4.d.fl + (1 : Int)) x_4.d.fl)) ∧ ((s_2.d.fe = x_4.d.fe) ∧ ((s_2.d.ba = x_4.d.ba) ∧ ((s_2.d.cu = x_4.d.cu) ∧ True)))))) ∧ ((closingVC_5 x x_4) ∧ (((closingVC_10 x x_4) ∧ ((closingVC_11 x x_4) ∧ (((258 = 258) ∧ (∀ (q : Nat), ((q < 258) → ([(Value.bool (@ClkF.L s_2 q))] = [(Value.bool (@ite Bool (q = y_3) (@instDecidableEqNat q y_3) Bool.false (@ClkM.L x_4.c q)))])))) ∧ (closingVC_20 x)))) ∧ (closingVC_13 x)))))))))))))) ∧ (∀ (y_3 : Unit), ((Hd (∀ (j : Nat), ((j < 258) → ((@ClkM.L x_4.c j) = Bool.false)))) → ((I64 (((s_1.n : Nat) : Int) + (1 : Int))) ∧ (∃ (s_2 : @ClkF), ((Hd (s_2.d.ok ∧ ((s_2.d.n = 258) ∧ ((s_2.n = ((@cntTo (@Nts.g x) (@Nts.n x) 258) + 1)) ∧ (@devI s_2 (0 : Int) (((@cntTo (@Nts.g x) (@Nts.n x) 258) : Nat) : Int) (1 : Int)))))) ∧ (((400 - s_2.n) < (400 - s_1.n)) ∧ ((closingVC_22 x s_1 s_2) ∧ ((closingVC_3 x) ∧ ((closingVC_3 x) ∧ ((closingVC_19 x s_2 x_4) ∧ ((closingVC_21 x s_2 x_4) ∧ ((closingVC_5 x x_4) ∧ (((closingVC_10 x x_4) ∧ ((closingVC_11 x x_4) ∧ ((closingVC_16 x s_2 x_4) ∧ ((((@Fn.func (100 : @FuncId)) = (@Fn.func (100 : @FuncId))) ∧ (((0 = 0) ∧ True) ∧ True)) ∧ True)))) ∧ (closingVC_13 x))))))))))))))))))) (closingVC_14 x s_1)))) ∧
 ((∀ (s_1 : @ClkF), ((Hd (s_1.d.ok ∧ ((s_1.d.n = 258) ∧ ((s_1.n = ((@cntTo (@Nts.g x) (@Nts.n x) 258) + 1)) ∧ (@devI s_1 (0 : Int) (((@cntTo (@Nts.g x) (@Nts.n x) 258) : Nat) : Int) (1 : Int)))))) → (cP (decide (((s_1.n : Nat) : Int) < (400 : Int))) (∃ (x_4 : @ClkD), ((Hd x_4.ok) ∧ (((0 = 0) ∧ ((0 = 0) ∧ True)) ∧ ((((closingVC_6 x x_4) ∧ ((closingVC_12 x x_4) ∧ ((closingVC_15 x s_1 x_4) ∧ ((((@Fn.func (100 : @FuncId)) = (@Fn.func (100 : @FuncId))) ∧ (((0 = 0) ∧ True) ∧ True)) ∧ True)))) ∧ (closingVC_4 x s_1 x_4)) ∧ (∀ (y_3 : Unit), (True → ((I64 (((s_1.n : Nat) : Int) + (1 : Int))) ∧ (∃ (s_2 : @ClkF), ((Hd (s_2.d.ok ∧ ((s_2.d.n = 258) ∧ ((s_2.n = ((@cntTo (@Nts.g x) (@Nts.n x) 258) + 2)) ∧ (@devI s_2 (1 : Int) (((@cntTo (@Nts.g x) (@Nts.n x) 258) : Nat) : Int) (1 : Int)))))) ∧ (((400 - s_2.n) < (400 - s_1.n)) ∧ ((closingVC_22 x s_1 s_2) ∧ ((closingVC_3 x) ∧ ((closingVC_3 x) ∧ ((((s_2.d.n * 193) = (x_4.d.n * 193)) ∧ (∀ (q : Nat), ((q < (s_2.d.n * 193)) → ((@Cs.eff (@devR s_2.d) (@List.nil (@Prod Nat (@List Value))) q) = (@Cs.eff (@devR (@DevM.store x_4.d 1 0 64 (@clockG x_4.c.clos))) (@List.nil (@Prod Nat (@List Value))) q))))) ∧ ((((0 = 0) ∧ ((s_2.d.n = x_4.d.n) ∧ (s_2.d.n = x_4.d.n))) ∧ ((s_2.d.st = (x_4.d.st + (1 : Int))) ∧ ((s_2.d.fl = x_4.d.fl) ∧ ((s_2.d.fe = x_4.d.fe) ∧ ((s_2.d.ba = x_4.d.ba) ∧ ((s_2.d.cu = x_4.d.cu) ∧ True)))))) ∧ ((closingVC_5 x x_4) ∧ (((closingVC_10 x x_4) ∧ ((closingVC_11 x x_4) ∧ ((closingVC_16 x s_2 x_4) ∧ ((((@Fn.func (119 : @FuncId)) = (@Fn.func (119 : @FuncId))) ∧
 (((0 = 0) ∧ True) ∧ True)) ∧ True)))) ∧ (closingVC_13 x)))))))))))))))))) (closingVC_14 x s_1)))) ∧ ((∀ (s_1 : @ClkF), ((Hd (s_1.d.ok ∧ ((s_1.d.n = 258) ∧ ((s_1.n = ((@cntTo (@Nts.g x) (@Nts.n x) 258) + 2)) ∧ (@devI s_1 (1 : Int) (((@cntTo (@Nts.g x) (@Nts.n x) 258) : Nat) : Int) (1 : Int)))))) → (cP (decide (((s_1.n : Nat) : Int) < (400 : Int))) (∃ (x_4 : @ClkD), ((Hd x_4.ok) ∧ (((0 = 0) ∧ ((0 = 0) ∧ True)) ∧ ((((closingVC_6 x x_4) ∧ ((closingVC_12 x x_4) ∧ ((closingVC_15 x s_1 x_4) ∧ ((((@Fn.func (119 : @FuncId)) = (@Fn.func (119 : @FuncId))) ∧ (((0 = 0) ∧ True) ∧ True)) ∧ True)))) ∧ (closingVC_4 x s_1 x_4)) ∧ (∀ (y_3 : Unit), (True → ((I64 (((s_1.n : Nat) : Int) + (1 : Int))) ∧ (∃ (s_2 : @ClkF), ((Hd (s_2.d.ok ∧ ((s_2.d.n = 258) ∧ ((s_2.n = ((@cntTo (@Nts.g x) (@Nts.n x) 258) + 3)) ∧ (@devI s_2 (1 : Int) ((((@cntTo (@Nts.g x) (@Nts.n x) 258) : Nat) : Int) + (1 : Int)) (1 : Int)))))) ∧ (((400 - s_2.n) < (400 - s_1.n)) ∧ ((closingVC_22 x s_1 s_2) ∧ ((closingVC_3 x) ∧ ((closingVC_3 x) ∧ ((((s_2.d.n * 193) = (x_4.d.n * 193)) ∧ (∀ (q : Nat), ((q < (s_2.d.n * 193)) → ((@Cs.eff (@devR s_2.d) (@List.nil (@Prod Nat (@List Value))) q) = (@Cs.eff (@devR (@DevM.flush x_4.d 1)) (@List.nil (@Prod Nat (@List Value))) q))))) ∧ ((((0 = 0) ∧ ((s_2.d.n = x_4.d.n) ∧ (s_2.d.n = x_4.d.n))) ∧ ((s_2.d.st = x_4.d.st) ∧ ((s_2.d.fl = (@ite Int (1 < x_4.d.n) (@Nat.decLt 1 x_4.d.n) (x_4.d.fl + (1 : Int)) x_4.d.fl)) ∧ ((s_2.d.fe = x_4.d.fe) ∧ ((s_2.d.ba = x_4.d.ba) ∧ ((s_2.d.cu = x_4.d.cu) ∧ True)))))) ∧
 ((closingVC_5 x x_4) ∧ (((closingVC_10 x x_4) ∧ ((closingVC_11 x x_4) ∧ ((closingVC_16 x s_2 x_4) ∧ ((((@Fn.func (127 : @FuncId)) = (@Fn.func (127 : @FuncId))) ∧ (((0 = 0) ∧ True) ∧ True)) ∧ True)))) ∧ (closingVC_13 x)))))))))))))))))) (closingVC_14 x s_1)))) ∧ ((∀ (s_1 : @ClkF), ((Hd (s_1.d.ok ∧ ((s_1.d.n = 258) ∧ ((s_1.n = ((@cntTo (@Nts.g x) (@Nts.n x) 258) + 3)) ∧ (@devI s_1 (1 : Int) ((((@cntTo (@Nts.g x) (@Nts.n x) 258) : Nat) : Int) + (1 : Int)) (1 : Int)))))) → (cP (decide (((s_1.n : Nat) : Int) < (400 : Int))) (∃ (x_4 : @ClkD), ((Hd x_4.ok) ∧ (((0 = 0) ∧ ((0 = 0) ∧ True)) ∧ ((((closingVC_6 x x_4) ∧ ((closingVC_12 x x_4) ∧ ((closingVC_15 x s_1 x_4) ∧ ((((@Fn.func (127 : @FuncId)) = (@Fn.func (127 : @FuncId))) ∧ (((0 = 0) ∧ True) ∧ True)) ∧ True)))) ∧ (closingVC_4 x s_1 x_4)) ∧ (∀ (y_3 : Unit), (True → ((I64 (((s_1.n : Nat) : Int) + (1 : Int))) ∧ (∃ (s_2 : @ClkF), ((Hd (s_2.d.ok ∧ ((s_2.d.n = 258) ∧ ((s_2.n = ((@cntTo (@Nts.g x) (@Nts.n x) 258) + 4)) ∧ (@devI s_2 (1 : Int) ((((@cntTo (@Nts.g x) (@Nts.n x) 258) : Nat) : Int) + (1 : Int)) (2 : Int)))))) ∧ (((400 - s_2.n) < (400 - s_1.n)) ∧ ((closingVC_22 x s_1 s_2) ∧ ((closingVC_3 x) ∧ ((closingVC_3 x) ∧ ((closingVC_19 x s_2 x_4) ∧ ((closingVC_21 x s_2 x_4) ∧ ((closingVC_5 x x_4) ∧ (((((2 : Int) = x_4.c.now) ∧ (((1 : Int) = x_4.c.clos) ∧ (((0 : Int) = (0 : Int)) ∧ (((0 = 0) ∧ ((1 = x_4.c.t) ∧ (1 = x_4.c.t))) ∧ True)))) ∧ ((closingVC_11 x x_4) ∧ ((closingVC_16 x s_2 x_4) ∧ ((@Value.nilFunc = @Value.nilFunc) ∧ True)))) ∧ (closingVC_13 x)))))))))))))))))) (closingVC_14 x s_1)))) ∧
 ((∀ (s_1 : @ClkF), ((Hd (s_1.d.ok ∧ ((s_1.d.n = 258) ∧ ((s_1.n = ((@cntTo (@Nts.g x) (@Nts.n x) 258) + 4)) ∧ (@devI s_1 (1 : Int) ((((@cntTo (@Nts.g x) (@Nts.n x) 258) : Nat) : Int) + (1 : Int)) (2 : Int)))))) → (closingVC_14 x s_1))) ∧ True))))))))))))))))))))) ∧ True)))))))))))))))
theorem closingVC_ok (x : Nts) : closingVC x = closingVC_wp x := by kernel_rfl
end Go.Proofs.Ytjndgegfonhhfaa
end
section
/- CostClosing: what is asked is so. -/
namespace Go.Proofs.Ytjndgegfonhhfaa
open Go SE
set_option linter.unusedSimpArgs false
theorem cntB_none {L : Nat → Bool} : ∀ {m : Nat}, (∀ j, j < m → L j = false) → cntB L m = 0
  | 0, _ => rfl
  | m + 1, h => by simp only [cntB, h m (by omega), cond_false]; exact cntB_none fun j hj => h j (by omega)
theorem cntB_same {L L' : Nat → Bool} : ∀ {m : Nat}, (∀ j, j < m → L' j = L j) → cntB L' m = cntB L m
  | 0, _ => rfl
  | m + 1, h => by simp only [cntB, h m (by omega)]; rw [cntB_same fun j hj => h j (by omega)]
theorem cntB_clear {L : Nat → Bool} {y : Nat} (hy : L y = true) : ∀ {m : Nat}, y < m → cntB (fun q => if q = y then false else L q) m + 1 = cntB L m
  | m + 1, h => by
    simp only [cntB]
    by_cases e : m = y
    · subst e
      rw [if_pos rfl, hy, cond_false, cond_true, cntB_same (L := L) fun j hj => if_neg (by omega)]
    · have := cntB_clear hy (m := m) (by omega)
      rw [if_neg e]
      cases L m <;> simp only [cond_true, cond_false] <;> omega
theorem cntB_met (g : Nat → Int) (i : Nat) : ∀ m, cntB (met g i) m = cntTo g i m
  | 0 => rfl
  | m + 1 => by simp only [cntB, cntTo, cntB_met g i m]
theorem DevM.flush_good {d : DevM} (h : d.ok) (k : Nat) (hf : d.fl + 1 < 1099511627776) : (d.flush k).ok := by
  obtain ⟨h1, h2, h3, h4, h5, h6⟩ := h
  refine ⟨h1, fun p => ?_, h3, ?_, h5, h6⟩
  · simp only [DevM.flush]; split <;> exact h2 _
  · unfold small at *; simp only [DevM.flush]; split <;> omega
theorem DevM.fence_good {d : DevM} (h : d.ok) (hf : d.fe + 1 < 1099511627776) : d.fence.ok := by
  obtain ⟨h1, h2, h3, h4, h5, h6⟩ := h
  refine ⟨h1, fun p => ?_, h3, h4, ?_, h6⟩
  · simp only [DevM.fence, DevM.fenceTo]; split <;> exact h2 _
  · unfold small at *; simp only [DevM.fence, DevM.fenceTo]; omega
theorem DevM.store_good {d : DevM} (h : d.ok) (k a n : Nat) {g : Nat → Int} (hg : ∀ q, 0 ≤ g q ∧ g q < 256) (hf : d.st + 1 < 1099511627776) : (d.store k a n g).ok := by
  obtain ⟨h1, h2, h3, h4, h5, h6⟩ := h
  refine ⟨h1, fun p => ?_, ?_, h4, h5, h6⟩
  · simp only [DevM.store]
    split
    · exact hg _
    · exact h2 _
  · unfold small at *; simp only [DevM.store]; omega
theorem newDev_good (n : Nat) (h : n ≤ 258) : (newDev n).ok := ⟨h, fun _ => ⟨Int.le_refl 0, (by decide : (0 : Int) < 256)⟩, ⟨Int.le_refl 0, (by decide : (0 : Int) < 1099511627776)⟩, ⟨Int.le_refl 0, (by decide : (0 : Int) < 1099511627776)⟩, ⟨Int.le_refl 0, (by decide : (0 : Int) < 1099511627776)⟩,
  ⟨Int.le_refl 0, (by decide : (0 : Int) < 1099511627776)⟩, ⟨Int.le_refl 0, (by decide : (0 : Int) < 1099511627776)⟩⟩
theorem clkF_good (L : Nat → Bool) {d : DevM} (hd : d.ok) (hn : d.n = 258) : ClkD.ok ⟨clkF L 0 1, d⟩ := by
  refine ⟨⟨?_, ?_, ?_, ?_, ?_, ?_⟩, hd, ?_, ?_⟩ <;> simp [clkF, U64, small, hn]
set_option maxRecDepth 20000 in
theorem closingVC_true (x : Nts) : closingVC x := by
  have hT := cntTo_le x.g x.n 258
  generalize hTT : cntTo x.g x.n 258 = T at hT
  unfold closingVC
  simp only [closingVC_7, closingVC_13, closingVC_8, closingVC_9, closingVC_24, closingVC_17, closingVC_1, closingVC_2, closingVC_3, closingVC_4, closingVC_5, closingVC_6, closingVC_10, closingVC_11, closingVC_12, closingVC_14, closingVC_15, closingVC_16, closingVC_18, closingVC_19, closingVC_20, closingVC_21, closingVC_22, closingVC_23]
  simp only [hd_iff, and_true, true_and, Nat.zero_add, Nat.add_zero, unit_ex, unit_all, true_implies, implies_true, Int.toNat_natCast, eq_self, and_self, eff_nil, cond_one, cond_int, ones_int, row_int, ones_bool, row_bool, cond_bool, ble0, Bool.true_and, Nat.sub_zero, hTT]
  refine cP_intro (fun _ => trivial) fun hb => ?_
  have hb := of_decide_eq_false hb
  refine ⟨(1, 0), ⟨by decide, by decide, by decide, by decide⟩, ⟨rfl, rfl⟩, 258, ⟨by omega, by omega⟩, rfl, ⟨(0, 0), ⟨Nat.zero_le _, by decide, by decide⟩, rfl, ⟨rfl, fun _ _ => rfl⟩, ⟨rfl, rfl, rfl⟩, fun _ _ => rfl⟩, fun s hs => cP_intro (fun h => ?_) fun h => ?_⟩
  · have h := of_decide_eq_true h
    obtain ⟨i, o⟩ := s
    simp only at hs h ⊢
    refine ⟨by omega, by omega, ⟨clk0 x.g i o, 0, x.g i⟩, ⟨⟨by simp [clk0], by simp [clk0], by simp [clk0, U64], by simp [clk0, U64], by simp [clk0, U64], fun k => by simp only [clk0, small]; omega⟩, by simp [clk0]⟩, ⟨rfl, rfl⟩, ⟨⟨⟨rfl, rfl, rfl, rfl⟩, fun _ _ => rfl, fun _ _ => rfl⟩, rfl, fun _ _ => rfl⟩,
      by unfold I64; omega, (i + 1, if 0 ≤ x.g i ∧ x.g i < 258 then o + 1 else o), ⟨by show i + 1 ≤ x.n; omega, ?_, ?_⟩, by show x.n - (i + 1) < x.n - i; omega, by show ((i + 1 : Nat) : Int) = _; omega, ⟨rfl, fun q hq => ?_⟩, ⟨rfl, rfl, rfl, rfl⟩, fun q _ => ?_, fun _ _ => rfl⟩
    · show 0 ≤ (if 0 ≤ x.g i ∧ x.g i < 258 then o + 1 else o); split <;> omega
    · show (if 0 ≤ x.g i ∧ x.g i < 258 then o + 1 else o) ≤ ((i + 1 : Nat) : Int); split <;> omega
    · have : q = 0 := by omega
      subst this
      show (if _ then o + 1 else o) = (if 0 = 0 ∧ 0 ≤ x.g i ∧ x.g i < 258 then o + 1 else o)
      simp
    · show met x.g (i + 1) q = (met x.g i q || decide (x.g i = (q : Int)))
      simp only [met]
      cases decide (x.g i = (q : Int)) <;> simp
  · have h := of_decide_eq_false h
    obtain ⟨i, o⟩ := s
    simp only at hs h ⊢
    have hi : i = x.n := by omega
    subst hi
    have fin : ∀ s : ClkF, s.n = T + 4 → devI s 1 (T + 1) 2 → (I64 (imax s.d.st 0 - 0) ∧ I64 (imax s.d.fl 0 - 0) ∧ I64 (imax s.d.fe 0 - 0) ∧ ∃ y : Nts, (y.n ≤ y.N ∧ y.n < 1099511627776) ∧ y.n = x.n ∧ (y.N = x.n ∧ ∀ q, q < y.N → y.g q = x.g q) ∧
        cP ((s.n : Int) == (cntTo y.g y.n 258 : Int) + 4 && (imax (imax s.d.st 0 - 0) 0 == 1 && (imax (imax s.d.fl 0 - 0) 0 == (cntTo y.g y.n 258 : Int) + 1 && (imax (imax s.d.fe 0 - 0) 0 == 2 && true)))) True (true = false)) := by
      rintro s e ⟨e1, e2, e3⟩
      have m1 : imax (1 : Int) 0 = 1 := rfl
      have m2 : imax (2 : Int) 0 = 2 := rfl
      have m3 : imax ((T : Int) + 1) 0 = T + 1 := by unfold imax; rw [if_neg (by omega)]
      rw [e1, e2, e3, m1, m2, m3]
      refine ⟨by unfold I64; omega, by unfold I64; omega, by unfold I64; omega, ⟨x.g, x.n, x.n⟩, ⟨Nat.le_refl _, (show x.n < 1099511627776 by omega)⟩, rfl, ⟨rfl, fun _ _ => rfl⟩, ?_⟩
      show cP ((s.n : Int) == (cntTo x.g x.n 258 : Int) + 4 && ((imax (1 - 0) 0 : Int) == 1 && ((imax ((T : Int) + 1 - 0) 0 : Int) == (cntTo x.g x.n 258 : Int) + 1 && ((imax (2 - 0) 0 : Int) == 2 && true)))) True (true = false)
      rw [hTT, Int.sub_zero, Int.sub_zero, Int.sub_zero, m1, m2, m3, e]
      simp [cP]
    have hz : ∀ {p : Prop}, ¬ p → p → False := fun a b => a b
    refine ⟨clk0 x.g x.n o, ⟨⟨by simp [clk0], by simp [clk0], by simp [clk0, U64], by simp [clk0, U64], by simp [clk0, U64], fun k => by simp only [clk0, small]; omega⟩, rfl⟩, ⟨⟨⟨rfl, rfl, rfl, rfl⟩, fun _ _ => rfl, fun _ _ => rfl⟩, rfl, fun _ _ => rfl⟩,
      ⟨⟨met x.g x.n, newDev 258, 0⟩, ⟨newDev_good _ (Nat.le_refl _), rfl, by rw [cntB_met, hTT, Nat.zero_add], rfl, rfl, rfl⟩, rfl, ⟨rfl, fun _ _ => rfl⟩, ⟨rfl, rfl, rfl, rfl, rfl, rfl⟩, rfl, ⟨rfl, rfl, rfl, rfl⟩, fun _ _ => rfl⟩, ?_, ?_, ?_, ?_, ?_⟩
    · rintro s ⟨hd, hn, hc, e1, e2, e3⟩
      refine cP_intro (fun h => ?_) (fun h => absurd (of_decide_eq_false h) (by omega))
      refine ⟨⟨clkF s.L 0 1, s.d⟩, clkF_good _ hd hn, ⟨⟨⟨rfl, rfl, rfl, rfl⟩, fun _ _ => rfl, fun _ _ => rfl⟩, ⟨rfl, fun _ _ => rfl⟩, ⟨rfl, rfl, rfl, rfl, rfl, rfl⟩, rfl, fun _ _ => rfl⟩, ?_, ?_⟩
      · rintro y ⟨hy, hL, _⟩
        have hcl := cntB_clear (L := s.L) hL hy
        refine ⟨by unfold I64; omega, ⟨fun q => if q = y then false else s.L q, s.d.flush y, s.n + 1⟩, ⟨DevM.flush_good hd y (by omega), hn, ?_, e1, ?_, e3⟩, ?_, by show ((s.n + 1 : Nat) : Int) = _; omega, ⟨rfl, fun _ _ => rfl⟩, ⟨rfl, rfl, rfl, rfl, rfl, rfl⟩, ⟨rfl, fun _ _ => rfl⟩, ⟨rfl, rfl, rfl, rfl⟩, fun _ _ => rfl, fun _ _ => rfl⟩
        · show s.n + 1 + cntB (fun q => if q = y then false else s.L q) 258 = T
          omega
        · show (if y < s.d.n then s.d.fl + 1 else s.d.fl) = ((s.n + 1 : Nat) : Int)
          rw [if_pos (by omega)]; omega
        · show 400 - (s.n + 1) < 400 - s.n
          omega
      · intro hall
        have h0 := cntB_none hall
        refine ⟨by unfold I64; omega, ⟨s.L, s.d.fence, s.n + 1⟩, ⟨DevM.fence_good hd (by omega), hn, ?_, e1, ?_, ?_⟩, ?_, by show ((s.n + 1 : Nat) : Int) = _; omega, ⟨rfl, fun _ _ => rfl⟩, ⟨rfl, rfl, rfl, rfl, rfl, rfl⟩, ⟨rfl, fun _ _ => rfl⟩, ⟨rfl, rfl, rfl, rfl⟩, fun _ _ => rfl, fun _ _ => rfl⟩
        · show s.n + 1 = T + 1
          have : cntB s.L 258 = 0 := h0
          omega
        · show s.d.fl = T
          have : cntB s.L 258 = 0 := h0
          omega
        · show s.d.fe + 1 = 1
          omega
        · show 400 - (s.n + 1) < 400 - s.n
          omega
    · rintro s ⟨hd, hn, hc, e1, e2, e3⟩
      refine cP_intro (fun h => ?_) (fun h => absurd (of_decide_eq_false h) (by omega))
      refine ⟨⟨clkF s.L 0 1, s.d⟩, clkF_good _ hd hn, ⟨⟨⟨rfl, rfl, rfl, rfl⟩, fun _ _ => rfl, fun _ _ => rfl⟩, ⟨rfl, fun _ _ => rfl⟩, ⟨rfl, rfl, rfl, rfl, rfl, rfl⟩, rfl, fun _ _ => rfl⟩,
        by unfold I64; omega, ⟨s.L, s.d.store 1 0 64 (clockG 1), s.n + 1⟩, ⟨DevM.store_good hd _ _ _ (clockG_u8 _) (by omega), hn, ?_, ?_, e2, e3⟩, ?_, by show ((s.n + 1 : Nat) : Int) = _; omega, ⟨rfl, fun _ _ => rfl⟩, ⟨rfl, rfl, rfl, rfl, rfl, rfl⟩, ⟨rfl, fun _ _ => rfl⟩, ⟨rfl, rfl, rfl, rfl⟩, fun _ _ => rfl, fun _ _ => rfl⟩
      · show s.n + 1 = T + 2; omega
      · show s.d.st + 1 = 1; omega
      · show 400 - (s.n + 1) < 400 - s.n; omega
    · rintro s ⟨hd, hn, hc, e1, e2, e3⟩
      refine cP_intro (fun h => ?_) (fun h => absurd (of_decide_eq_false h) (by omega))
      refine ⟨⟨clkF s.L 0 1, s.d⟩, clkF_good _ hd hn, ⟨⟨⟨rfl, rfl, rfl, rfl⟩, fun _ _ => rfl, fun _ _ => rfl⟩, ⟨rfl, fun _ _ => rfl⟩, ⟨rfl, rfl, rfl, rfl, rfl, rfl⟩, rfl, fun _ _ => rfl⟩,
        by unfold I64; omega, ⟨s.L, s.d.flush 1, s.n + 1⟩, ⟨DevM.flush_good hd 1 (by omega), hn, ?_, e1, ?_, e3⟩, ?_, by show ((s.n + 1 : Nat) : Int) = _; omega, ⟨rfl, fun _ _ => rfl⟩, ⟨rfl, rfl, rfl, rfl, rfl, rfl⟩, ⟨rfl, fun _ _ => rfl⟩, ⟨rfl, rfl, rfl, rfl⟩, fun _ _ => rfl, fun _ _ => rfl⟩
      · show s.n + 1 = T + 3; omega
      · show (if 1 < s.d.n then s.d.fl + 1 else s.d.fl) = T + 1
        rw [if_pos (by omega)]; omega
      · show 400 - (s.n + 1) < 400 - s.n; omega
    · rintro s ⟨hd, hn, hc, e1, e2, e3⟩
      refine cP_intro (fun h => ?_) (fun h => absurd (of_decide_eq_false h) (by omega))
      refine ⟨⟨clkF s.L 0 1, s.d⟩, clkF_good _ hd hn, ⟨⟨⟨rfl, rfl, rfl, rfl⟩, fun _ _ => rfl, fun _ _ => rfl⟩, ⟨rfl, fun _ _ => rfl⟩, ⟨rfl, rfl, rfl, rfl, rfl, rfl⟩, rfl, fun _ _ => rfl⟩,
        by unfold I64; omega, ⟨s.L, s.d.fence, s.n + 1⟩, ⟨DevM.fence_good hd (by omega), hn, ?_, e1, e2, ?_⟩, ?_, by show ((s.n + 1 : Nat) : Int) = _; omega, ⟨rfl, fun _ _ => rfl⟩, ⟨rfl, rfl, rfl, rfl, rfl, rfl⟩, ⟨rfl, fun _ _ => rfl⟩, ⟨rfl, rfl, rfl⟩, fun _ _ => rfl, fun _ _ => rfl⟩
      · show s.n + 1 = T + 4; omega
      · show s.d.fe + 1 = 2; omega
      · show 400 - (s.n + 1) < 400 - s.n; omega
    · rintro s ⟨hd, hn, hc, hI⟩
      exact fin s hc hI
end Go.Proofs.Ytjndgegfonhhfaa
end
section
/- CostClosing: whatever was noted, the statement that a closing takes just the steps, and asks of the device just what is told ahead, answers true. There are no conditions. -/
namespace Go.Proofs.Ytjndgegfonhhfaa
open Go SE
open Go.ChangeShapes Go.WideShapes Go.ChangeAt Go.RowKit
theorem costClosing_sp (x : Nts) : Sp Try.prog 8 [.slR 0 0 1 x.n] (hO 1 [.ro (rowI x.g x.n)]) (fun v _ => v = .lit (.bool true)) := by
  have h := closingVC_true x
  rw [closingVC_ok] at h
  unfold closingVC_wp at h
  exact (sp_endk tt_ok mixed tblZ_ok (anClosing x) 200 5 1 1 rfl rfl h).mono fun _ _ hh => hh.1
theorem own : ownKnob Try.prog.godebug = none := by kernel_rfl
theorem laidOut : laidOutB Try.prog = true := by kernel_rfl
namespace CostClosing
theorem again : readAgain Try.prog Try.f8.params.toList = true := by kernel_rfl
set_option maxRecDepth 100000 in
theorem lifted (os : Os) (started : os.Started) (H : Type) (enc : TypeId × Value → H) :
    ReturnsInHanded {} Try.checked os 8 .any (Rows.costClosingSpec.pre6 enc Try.prog Try.f8 Rows.costClosingRow.domain false) (Rows.costClosingSpec.post enc Try.prog Try.f8 false true false false) := by
  refine returnsInHanded_of_change (C := Try.checked) own started (by kernel_rfl) Try.func8
    (ChangeSpec.witness6 (enc := enc) (C := Try.checked) false ⟨#[], #[.slice none 0 0], []⟩ 8 (by kernel_rfl) (by kernel_rfl) (by kernel_rfl) (by kernel_rfl)) ?_
  intro W base args ds gs before hval0 hW hcnd _
  have hval : ∀ (j : Nat) t v, Try.f8.params[j]? = some t → args[j]? = some v → Value.okWide Try.prog W .any base t v := hval0
  have hW' := hW
  obtain ⟨p, q, hA0, hV, rfl, hfz, hnd⟩ := hW
  have hA : DataW.TrodAll enc Try.prog W 0 (fun _ => true) true Try.f8.params.toList args.toList ds p := hA0
  rw [Try.params8] at hA hval
  obtain ⟨v0, vs0, d0, ds0, p0, q0, hargs, rfl, rfl, h0, r0⟩ := trodAll_cons hA
  obtain ⟨rfl, rfl, rfl⟩ := trodAll_nil r0
  obtain rfl : args = #[v0] := by cases args; simp_all
  obtain ⟨rfl, rfl⟩ := trodVars_none hV
  obtain ⟨g, n, a, _, _, hv0, ho0⟩ := open_row (T := fun b => W.heap.size ≤ b) (f := fun z : Int => [.int .i64 z]) (m := 1) 0 (fun _ => True) (fun _ => rfl) (by omega) Try.underlying53 cells3 (hval 0 53 v0 rfl rfl) h0 (fun b hb => by omega)
    (fun fuel cs y h => by
      obtain ⟨z, e, _⟩ := DataW.trod_int Try.underlying3 h
      exact ⟨z, trivial, e⟩)
  refine (Sp.callsOver 1 [.ro (rowI g n)] [a] (costClosing_sp ⟨g, n, n⟩) rfl W ⟨ho0 _ _, trivial⟩ (vs := #[v0]) (.cons (hv0 _ 0 rfl) .nil) (fun _ _ h => h)).mono fun e W' ⟨he, hg⟩ => ?_
  subst he
  exact ⟨_, rfl, post_true laidOut again hW' hg rfl rfl Try.underlying4 rfl rfl rfl⟩

theorem over : Rows.costClosingRow.holds Try.pinned (OpenSpec.ofChange Rows.costClosingSpec) :=
  OpenClaim.holds_of_wide 8 Try.f8 rfl rfl rfl rfl rfl rfl rfl ⟨rfl, rfl, rfl, rfl, rfl⟩ rfl rfl rfl rfl rfl (by kernel_rfl) Try.func8 (by kernel_rfl)
    (of_decide_eq_true (by kernel_rfl)) (by unfold Func.isWrapper; rw [if_neg (of_decide_eq_false (by kernel_rfl))]; exact ⟨rfl, rfl⟩)
    (fun os started H enc _ => lifted os started H enc)
theorem proved : Rows.CostClosingSaid := over
end CostClosing
end Go.Proofs.Ytjndgegfonhhfaa
end
