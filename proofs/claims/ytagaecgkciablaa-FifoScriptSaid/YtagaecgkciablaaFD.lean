/- The wake call, and the calls of the package. -/
import Derived.Test.YtagaecgkciablaaFC
import Derived.Test.YtagaecgkciablaaSE17
namespace Go.Proofs.Ytagaecgkciablaa
open Go SE
set_option maxRecDepth 20000
set_option maxHeartbeats 1000000
theorem awake_run : ranTo (runF Try.prog tt 200 20 11 [] (hO 0 [])) saysTrue = true := by kernel_rfl
theorem awake_sp : Sp Try.prog 11 [] (hO 0 []) (fun v _ => v = .lit (.bool true)) :=
  (sp_run tt_ok mixed 200 20 awake_run).mono fun _ _ h => saysTrue_spec h

theorem new_sp : Sp Try.prog 7 [] (hO 0 []) (fun v h => v = .ptr 0 0 ∧ h = hO 1 [lineO []]) := by
  refine sp_leq (spec_of_awp tt_ok Try.func7 rfl rfl rfl ?_)
  refine awp_seq (awp_region rfl (rplan_all tt_ok false rfl ?_))
  refine awp_seq (awp_region rfl (rplan_all tt_ok false rfl ?_))
  exact awp_ret ⟨.inr rfl, _, rfl, _, _, leq_close (Φ := LineΦ []) 1 [0] [nilO] rfl rfl rfl (Nat.le_of_ble_eq_true rfl) (.inl ⟨rfl, rfl⟩) ⟨⟨rfl, rfl, rfl⟩, trivial⟩, rfl, rfl⟩

theorem Push_sp (xs : List Lk) (x : Lk) (hx : xs.length < 1000) : Sp Try.prog 8 [.ptr 0 0, x.av] (hO 1 [lineO xs]) (fun v h => v = .tup [] ∧ h = hO 1 [lineO (xs ++ [x])]) := by
  refine sp_leq (spec_of_awp tt_ok Try.func8 rfl rfl rfl ?_)
  refine awp_seq (awp_region rfl (rplan_all tt_ok false rfl ?_))
  refine awp_seq (awp_region rfl (rplan_all tt_ok false rfl ?_))
  refine awp_cond rfl (fun _ => ?_) (fun hb => by cases hb)
  refine awp_draw mixed (pl := [.nn 0, .nn 1, .nn 2, .rr [3], .xx 4]) (by kernel_rfl) (rplan_k tt_ok false 5 rfl ?_)
  refine rplan_callL 1 [0] [lineO xs] (push_sp xs x hx) rfl rfl rfl rfl rfl rfl rfl rfl rfl ⟨⟨rfl, _, rfl, .inl rfl⟩, trivial⟩ rfl rfl ?_
  rintro _ _ ⟨rfl, rfl⟩
  refine rplan_all tt_ok false rfl ?_
  exact ⟨.inl rfl, _, rfl, _, _, leq_sub 1 [0] [lineO (xs ++ [x])] rfl rfl ⟨⟨lineO (xs ++ [x]), rfl, soft_map rfl⟩, trivial⟩ rfl rfl, rfl, rfl⟩

theorem Pop_sp (xs : List Lk) : Sp Try.prog 9 [.ptr 0 0] (hO 1 [lineO xs]) (fun v h => v = .tup [(xs.headD Lk.zero).av, .lit (.bool !xs.isEmpty)] ∧ h = hO 1 [lineO xs.tail]) := by
  refine sp_leq (spec_of_awp tt_ok Try.func9 rfl rfl rfl ?_)
  refine awp_seq (awp_region rfl (rplan_all tt_ok false rfl ?_))
  refine awp_seq (awp_seq (awp_region rfl (rplan_all tt_ok false rfl ?_)))
  refine awp_cond rfl (fun hb => by cases hb) (fun _ => awp_skip ?_)
  refine awp_seq (awp_region rfl (rplan_k tt_ok false 3 rfl ?_))
  refine rplan_callL 1 [0] [lineO xs] (pop_sp xs) rfl rfl rfl rfl rfl rfl rfl rfl rfl ⟨⟨rfl, _, rfl, .inl rfl⟩, trivial⟩ rfl rfl ?_
  rintro _ _ ⟨rfl, rfl⟩
  refine rplan_all tt_ok false rfl ?_
  exact awp_ret ⟨.inr rfl, _, rfl, _, _, leq_sub 1 [0] [lineO xs.tail] rfl rfl ⟨⟨lineO xs.tail, rfl, soft_map rfl⟩, trivial⟩ rfl rfl, rfl, rfl⟩

theorem Head_sp (xs : List Lk) : Sp Try.prog 12 [.ptr 0 0] (hO 1 [lineO xs]) (fun v h => v = .tup [(xs.headD Lk.zero).av, .lit (.bool !xs.isEmpty)] ∧ h = hO 1 [lineO xs]) := by
  refine sp_leq (spec_of_awp tt_ok Try.func12 rfl rfl rfl ?_)
  refine awp_seq (awp_region rfl (rplan_all tt_ok false rfl ?_))
  refine awp_seq (awp_seq (awp_region rfl (rplan_all tt_ok false rfl ?_)))
  refine awp_cond rfl (fun hb => by cases hb) (fun _ => awp_skip ?_)
  refine awp_seq (awp_region rfl (rplan_k tt_ok false 3 rfl ?_))
  refine rplan_callL 1 [0] [lineO xs] (head_sp xs) rfl rfl rfl rfl rfl rfl rfl rfl rfl ⟨⟨rfl, _, rfl, .inl rfl⟩, trivial⟩ rfl rfl ?_
  rintro _ _ ⟨rfl, rfl⟩
  refine rplan_all tt_ok false rfl ?_
  exact awp_ret ⟨.inr rfl, _, rfl, _, _, leq_sub 1 [0] [lineO xs] rfl rfl ⟨⟨lineO xs, rfl, soft_map rfl⟩, trivial⟩ rfl rfl, rfl, rfl⟩

theorem callable10 : Callable Try.prog 10 := ⟨_, Try.func10, rfl, rfl⟩
theorem Len_sp (xs : List Lk) : Sp Try.prog 10 [.ptr 0 0] (hO 1 [lineO xs]) (fun v h => v = .lit (.int .i64 (xs.length : Int)) ∧ h = hO 1 [lineO xs]) := by
  refine sp_openq (i := 0) (Φ := LineΦ xs) rfl callable10 ?_
  rintro h0 (⟨rfl, rfl⟩ | ⟨ls, p, hr, hl, rfl⟩)
  · refine spec_of_awp tt_ok Try.func10 rfl rfl rfl ?_
    refine awp_seq (awp_region rfl (rplan_all tt_ok false rfl ?_))
    refine awp_seq (awp_seq (awp_region rfl (rplan_all tt_ok false rfl ?_)))
    refine awp_cond rfl (fun hb => by cases hb) (fun _ => awp_skip ?_)
    refine awp_seq (awp_region rfl (rplan_all tt_ok false rfl ?_))
    exact awp_ret ⟨.inr rfl, _, rfl, _, _, (leq_close (Φ := LineΦ []) 1 [0] [nilO] rfl rfl rfl (Nat.le_of_ble_eq_true rfl) (.inl ⟨rfl, rfl⟩) ⟨⟨rfl, rfl, rfl⟩, trivial⟩).trans
      (leq_sub 1 [0] [lineO []] rfl rfl ⟨⟨lineO [], rfl, soft_map rfl⟩, trivial⟩ rfl rfl), rfl, rfl⟩
  · refine spec_of_awp tt_ok Try.func10 rfl rfl rfl ?_
    refine awp_seq (awp_region rfl (rplan_all tt_ok false rfl ?_))
    refine awp_seq (awp_seq (awp_region rfl (rplan_all tt_ok false rfl ?_)))
    refine awp_cond rfl (fun hb => by cases hb) (fun _ => awp_skip ?_)
    refine awp_seq (awp_region rfl (rplan_all tt_ok false rfl ?_))
    exact awp_ret ⟨.inr rfl, _, rfl, _, _, (leq_close (Φ := LineΦ xs) 2 [0, 1] [ringO ls p xs.length, .room 28 (.raw (flat Lk.cells ls))] rfl rfl rfl (Nat.le_of_ble_eq_true rfl) (.inr ⟨ls, p, hr, hl, rfl⟩) ⟨⟨rfl, rfl, rfl⟩, ⟨rfl, rfl, rfl⟩, trivial⟩).trans
      (leq_sub 1 [0] [lineO xs] rfl rfl ⟨⟨lineO xs, rfl, soft_map rfl⟩, trivial⟩ rfl rfl), rfl, rfl⟩
end Go.Proofs.Ytagaecgkciablaa
