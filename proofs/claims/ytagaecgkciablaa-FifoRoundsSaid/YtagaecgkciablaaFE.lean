/- Rounds: the walk. -/
import Derived.Test.YtagaecgkciablaaFD
namespace Go.Proofs.Ytagaecgkciablaa
open Go SE
set_option maxRecDepth 20000
set_option maxHeartbeats 1000000

theorem u64_mod (n : Int) : IntKind.u64.wrap n = n % 18446744073709551616 := by simp [IntKind.wrap, IntKind.bits, IntKind.signed]
theorem u64_lo (a : Int) : 0 ≤ IntKind.u64.wrap a := by rw [u64_mod]; omega
theorem low_val (a : Int) (m : Nat) (hm : 0 < m) (hm' : m < 2 ^ 62) : ∃ n : Nat, n < m ∧ IntKind.i64.wrap ((IntKind.u64.wrap a).tmod (m : Int)) = (n : Int) := by
  obtain ⟨b, hb⟩ := Int.eq_ofNat_of_zero_le (u64_lo a)
  refine ⟨b % m, Nat.mod_lt _ hm, ?_⟩
  rw [hb, tmod_nat]
  exact wrap_nat (by have := Nat.mod_lt b hm; omega)
theorem low_sp (a : Int) (m : Nat) (hm : 0 < m) (hm' : m < 2 ^ 62) (hw : IntKind.u64.wrap (m : Int) = (m : Int)) : Sp Try.prog 6 [.lit (.int .i64 a), .lit (.int .i64 (m : Int))] (hO 0 [])
    (fun v h => (∃ n : Nat, n < m ∧ v = .lit (.int .i64 (n : Int))) ∧ h = hO 0 []) := by
  obtain ⟨n, hn, he⟩ := low_val a m hm hm'
  refine spec_of_awp tt_ok Try.func6 rfl rfl rfl ?_
  refine awp_seq (awp_region rfl (rplan_all tt_ok false rfl ?_))
  refine awp_seq (awp_region rfl (rplan_k tt_ok false 4 rfl ?_))
  refine rplan_xx tt_ok false (stepX_of false (stepR_of rfl rfl rfl (show binN tt .rem 41 (.lit (.int .u64 (IntKind.u64.wrap a))) (.lit (.int .u64 (IntKind.u64.wrap (m : Int)))) = some (.lit (.int .u64 ((IntKind.u64.wrap a).tmod (m : Int)))) from
    binI rfl (by rw [hw]; simp only [intN]; rw [if_neg (by omega)])))) ?_
  refine rplan_xx tt_ok false (stepX_of false (stepR_of rfl rfl rfl (show convN tt 41 3 (.lit (.int .u64 ((IntKind.u64.wrap a).tmod (m : Int)))) = some (.lit (.int .i64 (n : Int))) from by
    rw [← he]; rfl))) ?_
  refine rplan_all tt_ok false rfl ?_
  exact awp_ret ⟨.inr rfl, _, rfl, ⟨n, hn, rfl⟩, rfl⟩

def mk (v : Nat) : Lk := ⟨⟨#[]⟩, 0, (v : Int), 0, 0⟩
/-- What waits ahead of round i. -/
def win (k i : Nat) : List Lk := (List.range' (i - k) (i - (i - k))).map mk
theorem win_push (k i : Nat) : win k i ++ [mk i] = (List.range' (i - k) (i + 1 - (i - k))).map mk := by
  rw [win, show i + 1 - (i - k) = (i - (i - k)) + 1 by omega, List.range'_concat, List.map_append]
  simp
theorem win_zero (k : Nat) : win k 0 = [] := by simp [win]
theorem win_len (k i : Nat) : (win k i).length ≤ k := by simp [win]; omega
theorem win_lo {k i : Nat} (h : i < k) : win k i ++ [mk i] = win k (i + 1) := by
  rw [win_push, win]; congr 2 <;> omega
theorem win_hi {k i : Nat} (h : k ≤ i) : win k i ++ [mk i] = mk (i - k) :: win k (i + 1) := by
  rw [win_push, win, show i + 1 - (i - k) = (i + 1 - (i + 1 - k)) + 1 by omega, List.range'_succ, List.map_cons]
  congr 3; omega

def fr0 (n k i : Nat) : Fr := frL [(4, .lit (.bool false)), (5, .lit (.int .i64 (n : Int))), (6, .lit (.int .i64 (k : Int))), (7, .ptr 0 0), (8, .lit (.int .i64 (i : Int)))]

theorem thenA_exit {id : Nat} {K : Fr → Heap → Prop} {Q : Exit → Fr → Heap → Prop} {fr : Fr} {h : Heap} (hq : Q (.exit id) fr h) : thenA K Q (.exit id) fr h := hq
theorem blockA_self {id : Nat} {Q : Exit → Fr → Heap → Prop} {fr : Fr} {h : Heap} (hq : Q .normal fr h) : blockA id Q (.exit id) fr h := by simpa [blockA] using hq
theorem rounds_sp (a b : Int) : Sp Try.prog 3 [.lit (.int .i64 a), .lit (.int .i64 b)] (hO 0 []) (fun v _ => v = .lit (.bool true)) := by
  refine spec_of_awp tt_ok Try.func3 rfl rfl rfl ?_
  refine awp_seq (awp_region rfl (rplan_all tt_ok false rfl ?_))
  refine awp_seq (awp_region rfl (rplan_k tt_ok false 1 rfl ?_))
  refine rplan_callL 0 [] [] (low_sp a 2000 (by omega) (by omega) rfl) rfl rfl rfl rfl rfl rfl rfl rfl rfl trivial rfl rfl ?_
  rintro _ _ ⟨⟨n, hn, rfl⟩, rfl⟩
  refine rplan_k tt_ok false 1 rfl ?_
  refine rplan_callL 0 [] [] (low_sp b 20 (by omega) (by omega) rfl) rfl rfl rfl rfl rfl rfl rfl rfl rfl trivial rfl rfl ?_
  rintro _ _ ⟨⟨k, hk, rfl⟩, rfl⟩
  refine rplan_all tt_ok false rfl ?_
  refine awp_seq (awp_region rfl ?_)
  refine rplan_callL 0 [] [] new_sp rfl rfl rfl rfl rfl rfl rfl rfl rfl trivial rfl rfl ?_
  rintro _ _ ⟨rfl, rfl⟩
  refine rplan_all tt_ok false rfl ?_
  refine awp_seq (awp_seq (awp_region rfl (rplan_all tt_ok false rfl ?_)))
  refine awp_cond rfl (fun hb => by cases hb) (fun _ => awp_skip ?_)
  refine awp_seq (awp_seq (awp_region rfl (rplan_all tt_ok false rfl ?_)))
  refine awp_sub 1 [0] [(4, .lit (.bool false)), (5, .lit (.int .i64 (n : Int))), (6, .lit (.int .i64 (k : Int))), (7, .ptr 0 0), (8, .lit (.int .i64 ((0 : Nat) : Int)))] [lineO (win k 0)] rfl rfl
    ⟨⟨lineO [], rfl, by rw [win_zero]; exact soft_map rfl⟩, trivial⟩ ⟨⟨rfl, rfl⟩, ⟨rfl, rfl⟩, ⟨rfl, rfl⟩, ⟨rfl, rfl⟩, ⟨rfl, rfl⟩, trivial⟩ ?_
  have hnk : IntKind.i64.wrap ((n : Int) + (k : Int)) = ((n + k : Nat) : Int) := add_nat (by omega)
  refine awp_block (awp_loop (fun m fr h => ∃ i, i ≤ n + k ∧ m = n + k - i ∧ fr = fr0 n k i ∧ h = hO 1 [lineO (win k i)]) (m := n + k) ⟨0, by omega, by omega, rfl, rfl⟩ ?_)
  rintro m fr h ⟨i, hi, rfl, rfl, rfl⟩
  have hui : IntKind.u64.wrap (i : Int) = (i : Int) := by rw [u64_mod]; omega
  have hi1 : IntKind.i64.wrap ((i : Int) + 1) = ((i + 1 : Nat) : Int) := add_nat (a := i) (b := 1) (by omega)
  refine awp_seq (awp_seq (awp_region rfl (rplan_all tt_ok false rfl ?_)))
  refine awp_cond rfl (fun hb => awp_skip ?_) (fun hb => awp_exit ?_)
  · have hin : i < n + k := by
      have : (i : Int) < IntKind.i64.wrap ((n : Int) + (k : Int)) := of_decide_eq_true hb
      rw [hnk] at this; omega
    refine awp_seq (AWp.mono (Q := fun e fr h => e = .normal ∧ fr = fr0 n k i ∧ h = hO 1 [lineO (win k (i + 1))]) ?_ (awp_less (awp_block ?_)))
    · rintro _ _ _ ⟨rfl, rfl, rfl⟩
      refine awp_less (awp_region rfl (rplan_k tt_ok false 1 rfl ?_))
      refine rplan_xx tt_ok false (stepX_of false (stepR_of rfl rfl rfl (show binN tt .add 3 (.lit (.int .i64 (i : Int))) (.lit (.int .i64 1)) = some (.lit (.int .i64 ((i + 1 : Nat) : Int))) from
        binI rfl (by show some (Value.int .i64 (IntKind.i64.wrap _)) = _; rw [hi1])))) ?_
      refine rplan_all tt_ok false rfl ?_
      exact .inr ⟨1, [0], [(4, .lit (.bool false)), (5, .lit (.int .i64 (n : Int))), (6, .lit (.int .i64 (k : Int))), (7, .ptr 0 0), (8, .lit (.int .i64 ((i + 1 : Nat) : Int)))], [lineO (win k (i + 1))], rfl, rfl,
        ⟨⟨lineO (win k (i + 1)), rfl, soft_map rfl⟩, trivial⟩, ⟨⟨rfl, rfl⟩, ⟨rfl, rfl⟩, ⟨rfl, rfl⟩, ⟨rfl, rfl⟩, ⟨rfl, rfl⟩, trivial⟩, n + k - (i + 1), by omega, i + 1, by omega, rfl, rfl, rfl⟩
    · refine awp_seq (awp_region rfl (rplan_k tt_ok false 2 rfl ?_))
      refine rplan_xx tt_ok false (stepX_of false (stepR_of rfl rfl rfl (show convN tt 3 26 (.lit (.int .i64 (i : Int))) = some (.lit (.int .u64 (i : Int))) from by
        show some (AV.lit (.int .u64 (IntKind.u64.wrap (i : Int)))) = _; rw [hui]))) ?_
      refine rplan_k tt_ok false 1 rfl ?_
      refine rplan_callL 1 [0] [lineO (win k i)] (Push_sp (win k i) (mk i) (by have := win_len k i; omega)) rfl rfl rfl rfl rfl rfl rfl rfl rfl ⟨⟨rfl, _, rfl, .inl rfl⟩, trivial⟩ rfl rfl ?_
      rintro _ _ ⟨rfl, rfl⟩
      refine rplan_all tt_ok false rfl ?_
      refine awp_seq (awp_seq (awp_region rfl (rplan_all tt_ok false rfl ?_)))
      refine awp_cond rfl (fun hb => awp_exit (thenA_exit (blockA_self ?_))) (fun hb => awp_skip ?_)
      · have hik : i < k := by
          have : (i : Int) < (k : Int) := of_decide_eq_true hb
          omega
        exact .inr ⟨1, [0], [(4, .lit (.bool false)), (5, .lit (.int .i64 (n : Int))), (6, .lit (.int .i64 (k : Int))), (7, .ptr 0 0), (8, .lit (.int .i64 (i : Int)))], [lineO (win k (i + 1))], rfl, rfl,
          ⟨⟨lineO (win k i ++ [mk i]), rfl, by rw [win_lo hik]; exact soft_map rfl⟩, trivial⟩, ⟨⟨rfl, rfl⟩, ⟨rfl, rfl⟩, ⟨rfl, rfl⟩, ⟨rfl, rfl⟩, ⟨rfl, rfl⟩, trivial⟩, rfl, rfl, rfl⟩
      · have hki : k ≤ i := by
          have : ¬ (i : Int) < (k : Int) := of_decide_eq_false hb
          omega
        refine awp_sub 1 [0] [(4, .lit (.bool false)), (5, .lit (.int .i64 (n : Int))), (6, .lit (.int .i64 (k : Int))), (7, .ptr 0 0), (8, .lit (.int .i64 (i : Int)))] [lineO (mk (i - k) :: win k (i + 1))] rfl rfl
          ⟨⟨lineO (win k i ++ [mk i]), rfl, by rw [win_hi hki]; exact soft_map rfl⟩, trivial⟩ ⟨⟨rfl, rfl⟩, ⟨rfl, rfl⟩, ⟨rfl, rfl⟩, ⟨rfl, rfl⟩, ⟨rfl, rfl⟩, trivial⟩ ?_
        refine awp_seq (awp_region rfl (rplan_k tt_ok false 1 rfl ?_))
        refine rplan_callL 1 [0] [lineO (mk (i - k) :: win k (i + 1))] (Pop_sp (mk (i - k) :: win k (i + 1))) rfl rfl rfl rfl rfl rfl rfl rfl rfl ⟨⟨rfl, _, rfl, .inl rfl⟩, trivial⟩ rfl rfl ?_
        rintro _ _ ⟨rfl, rfl⟩
        refine rplan_all tt_ok false rfl ?_
        refine awp_seq (awp_region rfl (rplan_all tt_ok false rfl ?_))
        refine awp_cond rfl (fun hb => ?_) (fun hb => awp_skip ?_)
        · exfalso
          have hik : IntKind.u64.wrap (IntKind.i64.wrap ((i : Int) - (k : Int))) = ((i - k : Nat) : Int) := by
            rw [show (i : Int) - (k : Int) = ((i - k : Nat) : Int) by omega, wrap_nat (by omega), u64_mod]; omega
          have : (((i - k : Nat) : Int) != IntKind.u64.wrap (IntKind.i64.wrap ((i : Int) - (k : Int)))) = true := hb
          rw [hik] at this; simp at this
        · exact .inr ⟨1, [0], [(4, .lit (.bool false)), (5, .lit (.int .i64 (n : Int))), (6, .lit (.int .i64 (k : Int))), (7, .ptr 0 0), (8, .lit (.int .i64 (i : Int)))], [lineO (win k (i + 1))], rfl, rfl,
            ⟨⟨lineO (win k (i + 1)), rfl, soft_map rfl⟩, trivial⟩, ⟨⟨rfl, rfl⟩, ⟨rfl, rfl⟩, ⟨rfl, rfl⟩, ⟨rfl, rfl⟩, ⟨rfl, rfl⟩, trivial⟩, rfl, rfl, rfl⟩
  · have hin : i = n + k := by
      have : ¬ (i : Int) < IntKind.i64.wrap ((n : Int) + (k : Int)) := of_decide_eq_false hb
      rw [hnk] at this; omega
    subst hin
    refine thenA_exit (thenA_exit (blockA_self ?_))
    refine awp_seq (awp_region rfl (rplan_k tt_ok false 1 rfl ?_))
    refine rplan_callL 1 [0] [lineO (win k (n + k))] (Len_sp (win k (n + k))) rfl rfl rfl rfl rfl rfl rfl rfl rfl ⟨⟨rfl, _, rfl, .inl rfl⟩, trivial⟩ rfl rfl ?_
    rintro _ _ ⟨rfl, rfl⟩
    refine rplan_k tt_ok false 1 rfl ?_
    refine rplan_xx tt_ok false (stepX_of false (stepR_of rfl rfl rfl (show binN tt .eql 3 (.lit (.int .i64 ((win k (n + k)).length : Int))) (.lit (.int .i64 (k : Int))) = some (.lit (.bool true)) from
      binI rfl (by
        have : (win k (n + k)).length = k := by simp [win]
        rw [this]; simp [intN])))) ?_
    refine rplan_k tt_ok false 1 rfl ?_
    refine rplan_callL 0 [] [] awake_sp rfl rfl rfl rfl rfl rfl rfl rfl rfl trivial rfl rfl ?_
    rintro _ _ rfl
    refine rplan_all tt_ok false rfl ?_
    exact awp_ret ⟨.inr rfl, _, rfl, rfl⟩
end Go.Proofs.Ytagaecgkciablaa
