/- CostAdds: what is asked is so. -/
import Derived.Test.YtjndgegfonhhfaaCL
namespace Go.Proofs.Ytjndgegfonhhfaa
open Go SE
theorem wrap_u64 (z : Int) : 0 ≤ IntKind.u64.wrap z ∧ IntKind.u64.wrap z < 18446744073709551616 := by
  unfold IntKind.wrap
  simp [IntKind.bits, IntKind.signed]
  omega
theorem costAdds_true (c : Nat → Cst) (n : Nat) (x : Int) : costAddsVC c n x := by
  unfold costAddsVC
  refine cP_intro (fun hb => by simp) (fun hb => ?_)
  have hn : n ≤ 60 := by have := of_decide_eq_false hb; omega
  have hw : IntKind.u64.wrap ((n : Int) + 1) = (n : Int) + 1 := by
    unfold IntKind.wrap
    simp [IntKind.bits, IntKind.signed]
    omega
  have hx := wrap_u64 x
  rw [hw]
  have hK1 : 0 ≤ Int.tmod (IntKind.u64.wrap x) ((n : Int) + 1) := Int.tmod_nonneg _ hx.1
  have hK2 : Int.tmod (IntKind.u64.wrap x) ((n : Int) + 1) < (n : Int) + 1 := Int.tmod_lt_of_pos _ (by omega)
  generalize Int.tmod (IntKind.u64.wrap x) ((n : Int) + 1) = K at hK1 hK2 ⊢
  obtain ⟨k, rfl⟩ : ∃ k : Nat, K = (k : Int) := ⟨K.toNat, by omega⟩
  have hk : k ≤ n := by omega
  simp only [Int.toNat_natCast, Nat.zero_add, Nat.sub_zero]
  refine ⟨by unfold I64; omega, by omega, by unfold I64; omega, by unfold I64; omega, .inl ⟨(), by simp⟩, fun s _ => ?_, fun (s : Nat) (hs : s + 1 ≤ n) => ?_, trivial⟩
  · refine cP_intro (fun hb => ?_) (fun hb => ?_)
    · have hb : (n : Int) - 1 ≥ 0 := of_decide_eq_true hb
      have e : ((n : Int) - 1).toNat = n - 1 := by omega
      rw [e]
      refine ⟨⟨by omega, by omega⟩, by omega, by decide, by unfold I64; omega, .inr ⟨(0 : Nat), by omega, by omega, ⟨⟨trivial, rfl⟩, by omega, trivial⟩, ⟨rfl, fun q hq => ?_⟩, ⟨trivial, trivial⟩, trivial⟩⟩
      obtain rfl : q = 0 := by omega
      simp [Cs.eff]
    · have hb : ¬ (n : Int) - 1 ≥ 0 := of_decide_eq_false hb
      obtain rfl : n = 0 := by omega
      obtain rfl : k = 0 := by omega
      refine ⟨by omega, by omega, c, by simp, by omega, by simp, cP_intro (fun _ => ?_) (fun h => ?_)⟩
      · refine ⟨by omega, ⟨by omega, by omega, by omega⟩, by omega, ⟨by omega, by omega, by omega⟩, by omega, by omega, c, by simp, by simp, by omega, by omega, c, by simp, by simp, by simp, by simp, by simp, cP_intro (fun _ => ?_) (fun h => ?_)⟩
        · simp
        · simp [Cst.sum, sumFrom, Cst.add, Cst.heldM, Cst.zero, imin, imax, Cst.maxCost] at h
      · simp [Cst.sum, Cst.zero] at h
  · refine cP_intro (fun hb => ?_) (fun hb => ?_)
    · have hb : (n : Int) - 2 - (s : Int) ≥ 0 := of_decide_eq_true hb
      have e : ((n : Int) - 2 - (s : Int)).toNat = n - 1 - (s + 1) := by omega
      rw [e]
      refine ⟨⟨by omega, by omega⟩, by omega, trivial, rfl, by omega, by unfold I64; omega, .inr ⟨(s + 1 : Nat), by omega, by omega, ⟨⟨trivial, rfl⟩, by omega, trivial⟩, ⟨rfl, fun q hq => ?_⟩, ⟨trivial, trivial⟩, trivial⟩⟩
      simp only [Cs.eff]
      cases hbq : Nat.beq q (s + 1) with
      | true => have := Nat.eq_of_beq_eq_true hbq; subst this; rfl
      | false => rfl
    · have hb : ¬ (n : Int) - 2 - (s : Int) ≥ 0 := of_decide_eq_false hb
      obtain rfl : n = s + 1 := by omega
      have e2 : sumFrom Cst.zero [Cst.sum c k, Cst.sum (fun i => c (k + i)) (s + 1 - k)] = Cst.sum c (s + 1) := by
        rw [Cst.sum_split]; congr 1; omega
      have e3 : sumFrom Cst.zero [⟨(Cst.sum c k).s0, (Cst.sum c k).s1, (Cst.sum c k).s2, (Cst.sum c k).s3, (Cst.sum c k).s4, (Cst.sum c k).s5⟩, ⟨(Cst.sum (fun i => c (k + i)) (s + 1 - k)).s0, (Cst.sum (fun i => c (k + i)) (s + 1 - k)).s1, (Cst.sum (fun i => c (k + i)) (s + 1 - k)).s2, (Cst.sum (fun i => c (k + i)) (s + 1 - k)).s3, (Cst.sum (fun i => c (k + i)) (s + 1 - k)).s4, (Cst.sum (fun i => c (k + i)) (s + 1 - k)).s5⟩] = Cst.sum c (s + 1) := e2
      refine ⟨by omega, by omega, c, fun _ _ => rfl, by omega, by omega, fun i => c (s + 1 - 1 - i), fun _ _ => rfl, by simp, ?_⟩
      simp only [Cst.sum_rev c (s + 1)]
      refine cP_intro (fun _ => ⟨by omega, ⟨by omega, hk, by omega⟩, by omega, ⟨hk, by omega, by omega⟩, hk, by omega, c, fun _ _ => rfl, by simp, by omega, by omega, fun i => c (k + i), fun _ _ => rfl, by simp, by simp, by simp, by simp, ?_⟩) (fun h => by simp at h)
      simp only [e3]
      exact cP_intro (fun _ => by simp) (fun h => by simp at h)
theorem costAdds_sp (c : Nat → Cst) (n : Nat) (x : Int) : Sp Try.prog 4 [.slR 0 0 6 n, i64 x] (hO 1 [.ro (rowC c n)]) (fun v _ => v = .lit (.bool true)) := by
  have h := costAdds_true c n x
  rw [costAddsVC_ok] at h
  unfold costAddsVC_wp at h
  exact (sp_endk tt_ok mixed tbl_ok (anAdds c n) 200 5 1 1 rfl rfl h).mono fun _ _ hh => hh.1
end Go.Proofs.Ytjndgegfonhhfaa
