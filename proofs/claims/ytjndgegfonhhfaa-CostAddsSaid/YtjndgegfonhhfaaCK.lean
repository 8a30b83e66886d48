/- Sums of costs: in whatever order. -/
import Derived.Test.YtjndgegfonhhfaaCH
namespace Go.Proofs.Ytjndgegfonhhfaa
open Go SE
namespace Cst
def hsum (f : Nat → Int) : Nat → Int
  | 0 => 0
  | n + 1 => heldM (hsum f n) (f n)
def tot (f : Nat → Int) : Nat → Int
  | 0 => 0
  | n + 1 => tot f n + imax (f n) 0
theorem tot_nonneg (f : Nat → Int) : ∀ n, 0 ≤ tot f n
  | 0 => Int.le_refl _
  | n + 1 => by
    have := tot_nonneg f n
    simp only [tot]; unfold imax; grind
theorem hsum_eq (f : Nat → Int) : ∀ n, hsum f n = imin (tot f n) maxCost
  | 0 => by simp [hsum, tot, imin, maxCost]
  | n + 1 => by
    have h1 := tot_nonneg f n
    simp only [hsum, tot, hsum_eq f n]
    unfold heldM imin imax maxCost; grind
theorem tot_congr {f g : Nat → Int} : ∀ n, (∀ k, k < n → f k = g k) → tot f n = tot g n
  | 0, _ => rfl
  | n + 1, h => by simp only [tot]; rw [tot_congr n (fun k hk => h k (by omega)), h n (by omega)]
theorem tot_split (f : Nat → Int) (k : Nat) : ∀ m, tot f (k + m) = tot f k + tot (fun i => f (k + i)) m
  | 0 => by simp [tot]
  | m + 1 => by
    rw [← Nat.add_assoc]
    simp only [tot]; rw [tot_split f k m]; omega
theorem tot_rev : ∀ (n : Nat) (f : Nat → Int), tot (fun i => f (n - 1 - i)) n = tot f n
  | 0, _ => rfl
  | n + 1, f => by
    have h1 := tot_split f 1 n
    have h2 := tot_rev n (fun i => f (1 + i))
    rw [Nat.add_comm 1 n] at h1
    rw [h1, ← h2]
    simp only [tot]
    have h3 : tot (fun i => f (n + 1 - 1 - i)) n = tot (fun i => f (1 + (n - 1 - i))) n := tot_congr n fun k hk => by
      congr 1; omega
    have h4 : n + 1 - 1 - n = 0 := by omega
    rw [h3, h4]; omega
theorem sum_s0 (c : Nat → Cst) : ∀ n, (sum c n).s0 = hsum (fun i => (c i).s0) n
  | 0 => rfl
  | n + 1 => by simp only [sum, add, hsum, sum_s0 c n]
theorem sum_s1 (c : Nat → Cst) : ∀ n, (sum c n).s1 = hsum (fun i => (c i).s1) n
  | 0 => rfl
  | n + 1 => by simp only [sum, add, hsum, sum_s1 c n]
theorem sum_s2 (c : Nat → Cst) : ∀ n, (sum c n).s2 = hsum (fun i => (c i).s2) n
  | 0 => rfl
  | n + 1 => by simp only [sum, add, hsum, sum_s2 c n]
theorem sum_s3 (c : Nat → Cst) : ∀ n, (sum c n).s3 = hsum (fun i => (c i).s3) n
  | 0 => rfl
  | n + 1 => by simp only [sum, add, hsum, sum_s3 c n]
theorem sum_s4 (c : Nat → Cst) : ∀ n, (sum c n).s4 = hsum (fun i => (c i).s4) n
  | 0 => rfl
  | n + 1 => by simp only [sum, add, hsum, sum_s4 c n]
theorem sum_s5 (c : Nat → Cst) : ∀ n, (sum c n).s5 = hsum (fun i => (c i).s5) n
  | 0 => rfl
  | n + 1 => by simp only [sum, add, hsum, sum_s5 c n]
theorem ext' {x y : Cst} (h0 : x.s0 = y.s0) (h1 : x.s1 = y.s1) (h2 : x.s2 = y.s2) (h3 : x.s3 = y.s3) (h4 : x.s4 = y.s4) (h5 : x.s5 = y.s5) : x = y := by
  cases x; cases y; simp_all
theorem sum_congr {c d : Nat → Cst} (n : Nat) (h : ∀ k, k < n → c k = d k) : sum c n = sum d n := by
  induction n with
  | zero => rfl
  | succ n ih => simp only [sum]; rw [ih fun k hk => h k (by omega), h n (by omega)]
theorem sum_rev (c : Nat → Cst) (n : Nat) : sum (fun i => c (n - 1 - i)) n = sum c n := by
  have e : ∀ f : Nat → Int, hsum (fun i => f (n - 1 - i)) n = hsum f n := fun f => by rw [hsum_eq, hsum_eq, tot_rev]
  exact ext' (by rw [sum_s0, sum_s0]; exact e fun i => (c i).s0) (by rw [sum_s1, sum_s1]; exact e fun i => (c i).s1) (by rw [sum_s2, sum_s2]; exact e fun i => (c i).s2)
    (by rw [sum_s3, sum_s3]; exact e fun i => (c i).s3) (by rw [sum_s4, sum_s4]; exact e fun i => (c i).s4) (by rw [sum_s5, sum_s5]; exact e fun i => (c i).s5)
theorem hsum_split (f : Nat → Int) (k m : Nat) : heldM (heldM 0 (hsum f k)) (hsum (fun i => f (k + i)) m) = hsum f (k + m) := by
  rw [hsum_eq, hsum_eq, hsum_eq, tot_split]
  have h1 := tot_nonneg f k
  have h2 := tot_nonneg (fun i => f (k + i)) m
  unfold heldM imin imax maxCost; grind
theorem sum_split (c : Nat → Cst) (k m : Nat) : sumFrom zero [sum c k, sum (fun i => c (k + i)) m] = sum c (k + m) := by
  simp only [sumFrom]
  exact ext' (by rw [sum_s0]; simp only [add, sum_s0, zero]; exact hsum_split (fun i => (c i).s0) k m) (by rw [sum_s1]; simp only [add, sum_s1, zero]; exact hsum_split (fun i => (c i).s1) k m)
    (by rw [sum_s2]; simp only [add, sum_s2, zero]; exact hsum_split (fun i => (c i).s2) k m) (by rw [sum_s3]; simp only [add, sum_s3, zero]; exact hsum_split (fun i => (c i).s3) k m)
    (by rw [sum_s4]; simp only [add, sum_s4, zero]; exact hsum_split (fun i => (c i).s4) k m) (by rw [sum_s5]; simp only [add, sum_s5, zero]; exact hsum_split (fun i => (c i).s5) k m)
end Cst
def anAdds (c : Nat → Cst) (n : Nat) : FuncId → Anns := fun g => bif Nat.beq g 4 then (fun b => bif Nat.beq b 0 then
  [{ σ := Unit, fr := fun _ => [(6, .lit (.slice none 0 0)), (7, i64 ((n : Int) - 1))], ob := fun _ => [], inv := fun _ => True, meas := fun _ => n },
   { σ := Nat, fr := fun i => [(6, .slW 1 0 6 (i + 1)), (7, i64 ((n : Int) - 2 - (i : Int)))], ob := fun i => [(1, some (.room 33 (.row 6 (i + 1) (fun k => (c (n - 1 - k)).cells) [])))], inv := fun i => i + 1 ≤ n, meas := fun i => n - 1 - i, nx := 1 }] else []) else fun _ => []
end Go.Proofs.Ytjndgegfonhhfaa
