/- Sums. -/
import Derived.Test.YtjndgegfonhhfaaCE
namespace Go.Proofs.Ytjndgegfonhhfaa
open Go SE
namespace Cst
theorem held_ok {a b : Int} (h : okI a) : okI (heldM a b) := by unfold okI heldM maxCost imin imax at *; grind
theorem held_zero {a : Int} (h : okI a) : heldM a 0 = a := by unfold okI heldM maxCost imin imax at *; grind
theorem add_ok {x y : Cst} (h : x.ok) : (add x y).ok := by
  obtain ⟨h0, h1, h2, h3, h4, h5⟩ := h
  exact ⟨held_ok h0, held_ok h1, held_ok h2, held_ok h3, held_ok h4, held_ok h5⟩
theorem zero_ok : zero.ok := by unfold ok zero okI maxCost; simp
theorem sum_ok (c : Nat → Cst) : ∀ n, (sum c n).ok
  | 0 => zero_ok
  | n + 1 => add_ok (sum_ok c n)
theorem add_zero {x y : Cst} (h : x.ok) (h0 : y.s0 = 0) (h1 : y.s1 = 0) (h2 : y.s2 = 0) (h3 : y.s3 = 0) (h4 : y.s4 = 0) (h5 : y.s5 = 0) : add x y = x := by
  obtain ⟨k0, k1, k2, k3, k4, k5⟩ := h
  simp only [add, h0, h1, h2, h3, h4, h5, held_zero k0, held_zero k1, held_zero k2, held_zero k3, held_zero k4, held_zero k5]
theorem held_i64 {a b : Int} (h : okI a) : I64 (1099511627776 - a) ∧ I64 (a + imin (imax b 0) (1099511627776 - a)) := by
  have := held_ok (b := b) h
  unfold okI heldM maxCost at *; unfold I64; grind
end Cst
theorem sumVC_true (c : Nat → Cst) (n : Nat) (hn : n < 4611686018427387904) : sumVC c n (Cst.sum c n) := by
  unfold sumVC
  refine ⟨⟨(0 : Nat), ?_⟩, fun (s : Nat) (hs : s ≤ n) => ?_, trivial⟩
  · simp [Cst.sum, Cst.zero]
  obtain ⟨k0, k1, k2, k3, k4, k5⟩ := Cst.sum_ok c s
  simp only [Nat.zero_add, Int.toNat_natCast]
  refine cP_intro (fun hb => ?_) (fun hb => ?_)
  · have hb : (s : Int) < n := of_decide_eq_true hb
    have hsn : s < n := by omega
    have hI : I64 ((s : Int) + 1) := by unfold I64; omega
    refine ⟨⟨by omega, hb⟩, hsn, cP_intro (fun hz => ?_) (fun hz => ?_)⟩
    · simp only [Bool.and_eq_true, beq_iff_eq, Bool.and_true] at hz
      obtain ⟨z0, z1, z2, z3, z4, z5⟩ := hz
      have e : Cst.sum c (s + 1) = Cst.sum c s := Cst.add_zero (Cst.sum_ok c s) z0 z1 z2 z3 z4 z5
      refine ⟨hI, (s + 1 : Nat), ?_⟩
      simp only [e, and_true, true_and]
      exact ⟨by omega, by omega, by push_cast; rfl⟩
    · have a0 := fun b => Cst.held_i64 (b := b) k0
      have a1 := fun b => Cst.held_i64 (b := b) k1
      have a2 := fun b => Cst.held_i64 (b := b) k2
      have a3 := fun b => Cst.held_i64 (b := b) k3
      have a4 := fun b => Cst.held_i64 (b := b) k4
      have a5 := fun b => Cst.held_i64 (b := b) k5
      refine ⟨(a0 0).1, (a0 _).2, by simp, (a1 0).1, (a1 _).2, by simp, (a2 0).1, (a2 _).2, trivial, trivial, trivial, trivial, (a3 0).1, (a3 _).2, by simp, (a4 0).1, (a4 _).2, by simp, (a5 0).1, (a5 _).2, trivial, trivial, trivial, trivial, hI, (s + 1 : Nat), ?_⟩
      simp only [Cst.sum, Cst.add, Cst.heldM, Cst.maxCost, and_true, true_and]
      exact ⟨by omega, by omega, by push_cast; rfl⟩
  · have hb : ¬ (s : Int) < n := of_decide_eq_false hb
    obtain rfl : s = n := by omega
    simp
theorem sum_sp (c : Nat → Cst) (n : Nat) (hn : n < 4611686018427387904) : Sp Try.prog 15 [.slR 0 0 6 n] (hO 1 [.ro (rowC c n)]) (fun v h' => v = (Cst.sum c n).av ∧ h' = hO 1 [.ro (rowC c n)]) := by
  have h := sumVC_true c n hn
  rw [sumVC_ok] at h
  unfold sumVC_wp at h
  exact sp_endk tt_ok mixed TblOk.nil (anSum c n) 200 5 1 1 rfl rfl h
end Go.Proofs.Ytjndgegfonhhfaa
