/- A closing: what was met, how many. -/
import Derived.Test.YtjndgegfonhhfaaCB
import Derived.Test.YtjndgegfonhhfaaV14
namespace Go.Proofs.Ytjndgegfonhhfaa
open Go SE
/-- Is the line k among the first i notes? -/
def met (g : Nat → Int) : Nat → Nat → Bool
  | 0, _ => false
  | i + 1, k => bif decide (g i = (k : Int)) then true else met g i k
/-- How many of the first m lines are among the first i notes. -/
def cntTo (g : Nat → Int) (i : Nat) : Nat → Nat
  | 0 => 0
  | m + 1 => bif met g i m then cntTo g i m + 1 else cntTo g i m
theorem cntTo_le (g : Nat → Int) (i : Nat) : ∀ m, cntTo g i m ≤ m
  | 0 => Nat.le_refl _
  | m + 1 => by have := cntTo_le g i m; simp only [cntTo]; cases met g i m <;> simp <;> omega
theorem cntTo_zero (g : Nat → Int) : ∀ m, cntTo g 0 m = 0
  | 0 => rfl
  | m + 1 => by simp [cntTo, met, cntTo_zero g m]
theorem met_at {g : Nat → Int} {i k : Nat} (h : met g i k = true) : met g (i + 1) k = true := by
  simp only [met, h]; cases decide (g i = (k : Int)) <;> rfl
theorem met_new {g : Nat → Int} {i k : Nat} (h : g i = (k : Int)) : met g (i + 1) k = true := by
  simp [met, h]
theorem met_old {g : Nat → Int} {i k : Nat} (h : g i ≠ (k : Int)) : met g (i + 1) k = met g i k := by
  simp [met, h]
theorem cntTo_same {g : Nat → Int} {i : Nat} : ∀ {m : Nat}, (∀ k, k < m → met g (i + 1) k = met g i k) → cntTo g (i + 1) m = cntTo g i m
  | 0, _ => rfl
  | m + 1, h => by simp only [cntTo]; rw [cntTo_same fun k hk => h k (by omega), h m (by omega)]
theorem cntTo_more {g : Nat → Int} {i q : Nat} (hq : g i = (q : Int)) (hn : met g i q = false) : ∀ {m : Nat}, q < m → cntTo g (i + 1) m = cntTo g i m + 1
  | m + 1, h => by
    by_cases hm : q = m
    · subst hm
      simp only [cntTo, met_new hq, hn, cond_true, cond_false]
      rw [cntTo_same fun k hk => met_old (by omega)]
    · simp only [cntTo, met_old (g := g) (i := i) (k := m) (by omega)]
      rw [cntTo_more hq hn (by omega)]
      cases met g i m <;> simp <;> omega
def rowI (g : Nat → Int) (n : Nat) : Cs := .row 1 n (fun k => [.int .i64 (g k)]) []
def lentG (g : Nat → Int) (n k : Nat) : List Value := [.int .i64 (bif Nat.blt k n then g k else -777)]
def lentI (g : Nat → Int) (n : Nat) : AObj := .cells 3 (.row 1 (n + 3) (lentG g n) [])
def metO (g : Nat → Int) (i : Nat) : AObj := .cells 95 (.row 1 258 (fun k => [.bool (met g i k)]) [])
theorem met_congr {g g' : Nat → Int} : ∀ {i : Nat} (k : Nat), (∀ j, j < i → g j = g' j) → met g i k = met g' i k
  | 0, _, _ => rfl
  | i + 1, k, h => by simp only [met]; rw [h i (by omega), met_congr k fun j hj => h j (by omega)]
theorem cntTo_congr {g g' : Nat → Int} {i : Nat} (h : ∀ j, j < i → g j = g' j) : ∀ m, cntTo g i m = cntTo g' i m
  | 0 => rfl
  | m + 1 => by simp only [cntTo]; rw [cntTo_congr h m, met_congr m h]
structure Nts where
  g : Nat → Int
  n : Nat
  N : Nat
def closed (g : Nat → Int) (n : Nat) : AV := .agg [i64 ((cntTo g n 258 : Nat) + 4 : Int), i64 1, i64 ((cntTo g n 258 : Nat) + 1 : Int), i64 2, i64 0, i64 0]
def closeC : Ctr := det Nts (fun x => [.slR 0 0 1 x.n]) 1 (fun x => [.ro (rowI x.g x.N)]) (fun x => x.n ≤ x.N ∧ x.n < 1099511627776) (fun x => closed x.g x.n) 1 (fun x => [.ro (rowI x.g x.N)])
def anClose (x : Nts) : FuncId → Anns := fun f => bif Nat.beq f 23 then (fun b fr h => bif Nat.beq b 0 then [{ σ := Nat, fr := fun i => [(9, i64 i), (4, i64 (cntTo x.g i 258))], ob := fun i => [(2, some (metO x.g i))], inv := fun i => i ≤ x.n, meas := fun i => x.n - i }] else []) else fun _ _ _ => []
def anRClose (x : Nts) : FuncId → Anns := fun f => bif Nat.beq f 24 then (fun b fr h => bif Nat.beq b 0 then [{ σ := Nat, fr := fun m => [(4, i64 m), (3, i64 (cntTo x.g x.n m))], ob := fun _ => [], inv := fun m => m ≤ 258, meas := fun m => 258 - m }] else
    bif Nat.beq b 2 then [{ σ := Nat, fr := fun i => [(6, i64 i), (5, .lit (.bool (met x.g i (intAt fr 4).toNat)))], ob := fun _ => [], inv := fun i => i ≤ x.n, meas := fun i => x.n - i }] else []) else fun _ _ _ => []
def lendC : Ctr := det Nts (fun x => [.slR 0 0 1 x.n]) 1 (fun x => [.ro (rowI x.g x.n)]) (fun x => x.n < 1099511627776) (fun x => .slE 1 0 1 x.n (x.n + 3)) 2 (fun x => [.ro (rowI x.g x.n), lentI x.g x.n])
def keptC : Ctr := det Nts (fun x => [.slE 0 0 1 x.n (x.n + 3), .slR 1 0 1 x.n]) 2 (fun x => [.ro (.row 1 (x.n + 3) (lentG x.g x.n) []), .ro (rowI x.g x.n)]) (fun x => x.n < 1099511627776) (fun _ => .lit (.bool true)) 2 (fun x => [.ro (.row 1 (x.n + 3) (lentG x.g x.n) []), .ro (rowI x.g x.n)])
def anSame (x : Nts) : FuncId → Anns := fun f => bif Nat.beq f 61 then (fun b fr h => bif Nat.beq b 0 then [{ σ := Nat, fr := fun i => [(5, i64 i)], ob := fun _ => [], inv := fun i => i ≤ x.n, meas := fun i => x.n - i }] else []) else fun _ _ _ => []
def slabsM (a : Int) : Int := if a < 10 then 0 else Int.tdiv (imin a 258 - 2) 8
def slabsC : Ctr := det Int (fun a => [i64 a]) 0 (fun _ => []) (fun _ => True) (fun a => i64 (slabsM a)) 0 (fun _ => [])
def anSlabs (a : Int) : FuncId → Anns := fun f => bif Nat.beq f 60 then (fun b fr h => bif Nat.beq b 0 then [{ σ := Nat, fr := fun k => [(3, i64 k)], ob := fun _ => [], inv := fun k => k ≤ 32 ∧ (k = 0 ∨ 2 + 8 * (k : Int) ≤ a), meas := fun k => 32 - k }] else []) else fun _ _ _ => []
end Go.Proofs.Ytjndgegfonhhfaa
