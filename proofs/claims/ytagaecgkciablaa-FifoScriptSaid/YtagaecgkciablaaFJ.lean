/- Links that are alike; links that are written over. -/
import Derived.Test.YtagaecgkciablaaFI
namespace Go.Proofs.Ytagaecgkciablaa
open Go SE
set_option maxRecDepth 20000
set_option maxHeartbeats 1000000

def sameB (x y : Lk) : Bool := (x.key.toList == y.key.toList) && ((x.id == y.id) && ((x.ver == y.ver) && ((x.line == y.line) && ((x.cls == y.cls) && true))))
theorem neq_lk (x y : Lk) : binN tt .neq 28 x.av y.av = some (.lit (.bool (!sameB x y))) := by kernel_rfl
theorem sameB_self (x : Lk) : sameB x x = true := by simp [sameB]

theorem same_sp (xs : List Lk) (za zb : Bool) (ha : za = true → xs = []) (hb : zb = true → xs = []) (hn : xs.length < 1000) : Sp Try.prog 14 [lkV 0 xs za, lkV 1 xs zb] (hO 2 [lkO xs za, lkO xs zb])
    (fun v h => v = .lit (.bool true) ∧ h = hO 2 [lkO xs za, lkO xs zb]) := by
  refine sp_leq (spec_of_awp tt_ok Try.func14 rfl rfl rfl ?_)
  refine awp_seq (awp_region rfl (rplan_all tt_ok false rfl ?_))
  refine awp_seq (awp_seq (awp_region rfl (rplan_k tt_ok false 1 rfl ?_)))
  refine rplan_xx tt_ok false (stepX_of false (stepR_of rfl rfl rfl (show lenN tt 34 (lkV 0 xs za) = some (.lit (.int .i64 (xs.length : Int))) from len_vec rfl rfl ha))) ?_
  refine rplan_k tt_ok false 1 rfl ?_
  refine rplan_xx tt_ok false (stepX_of false (stepR_of rfl rfl rfl (show lenN tt 34 (lkV 1 xs zb) = some (.lit (.int .i64 (xs.length : Int))) from len_vec rfl rfl hb))) ?_
  refine rplan_all tt_ok false rfl ?_
  refine awp_cond rfl (fun hb => absurd hb (by simp)) (fun _ => awp_skip ?_)
  refine awp_seq (awp_seq (awp_region rfl (rplan_all tt_ok false rfl ?_)))
  refine awp_sub 2 [0, 1] [(0, lkV 0 xs za), (1, lkV 1 xs zb), (5, .lit (.int .i64 ((0 : Nat) : Int)))] [lkO xs za, lkO xs zb] rfl rfl ⟨⟨_, rfl, soft_vec _ _ _ _⟩, ⟨_, rfl, soft_vec _ _ _ _⟩, trivial⟩
    ⟨⟨vmap_vec _ _ _ rfl _ _, vbelow_vec _ _ rfl _ _⟩, ⟨vmap_vec _ _ _ rfl _ _, vbelow_vec _ _ rfl _ _⟩, ⟨rfl, rfl⟩, trivial⟩ ?_
  refine awp_block (awp_loop (fun m fr h => ∃ i, i ≤ xs.length ∧ m = xs.length - i ∧ fr = frL [(0, lkV 0 xs za), (1, lkV 1 xs zb), (5, .lit (.int .i64 (i : Int)))] ∧ h = hO 2 [lkO xs za, lkO xs zb]) (m := xs.length) ⟨0, by omega, by omega, rfl, rfl⟩ ?_)
  rintro m fr h ⟨i, hi, rfl, rfl, rfl⟩
  have hi1 : IntKind.i64.wrap ((i : Int) + 1) = ((i + 1 : Nat) : Int) := add_nat (a := i) (b := 1) (by omega)
  refine awp_seq (awp_seq (awp_region rfl (rplan_k tt_ok false 2 rfl ?_)))
  refine rplan_xx tt_ok false (stepX_of false (stepR_of rfl rfl rfl (show lenN tt 34 (lkV 0 xs za) = some (.lit (.int .i64 (xs.length : Int))) from len_vec rfl rfl ha))) ?_
  refine rplan_all tt_ok false rfl ?_
  refine awp_cond rfl (fun hb => awp_skip ?_) (fun hb => awp_exit ?_)
  · have hix : i < xs.length := by
      have : (i : Int) < (xs.length : Int) := of_decide_eq_true hb
      omega
    have hxi : xs[i]? = some xs[i] := List.getElem?_eq_getElem hix
    refine awp_less (awp_seq (awp_block (awp_seq (awp_draw mixed (pl := [.nn 0, .nn 1, .nn 2, .nn 4, .nn 5, .nn 6, .rr [3, 7, 8]]) (by kernel_rfl) (rplan_k tt_ok false 2 rfl ?_)))))
    refine rplan_nn tt_ok (stepN_of rfl rfl rfl (show indexAddrN tt 34 (lkV 0 xs za) (.lit (.int .i64 (i : Int))) = some (.ptr 0 (i * 5)) from idx_vec rfl rfl rfl rfl ha hix)) ?_
    refine rplan_k tt_ok false 2 rfl ?_
    refine rplan_nn tt_ok (stepN_of rfl rfl rfl (show indexAddrN tt 34 (lkV 1 xs zb) (.lit (.int .i64 (i : Int))) = some (.ptr 1 (i * 5)) from idx_vec rfl rfl rfl rfl ‹zb = true → xs = []› hix)) ?_
    refine rplan_rr_cons tt_ok (stepR_load rfl rfl rfl rfl (show loadA tt 28 (.ptr 0 (i * 5)) _ = some xs[i].av from loadE (f := Lk.cells) rfl rfl rfl cells_len (rawAt_vec (z := za) ha rfl (by omega)) hxi)) ?_
    refine rplan_rr_cons tt_ok (stepR_load rfl rfl rfl rfl (show loadA tt 28 (.ptr 1 (i * 5)) _ = some xs[i].av from loadE (f := Lk.cells) rfl rfl rfl cells_len (rawAt_vec (z := zb) ‹zb = true → xs = []› rfl (by omega)) hxi)) ?_
    refine rplan_rr_cons tt_ok (stepR_of rfl rfl rfl (show binN tt .neq 28 xs[i].av xs[i].av = some (.lit (.bool false)) from by rw [neq_lk, sameB_self]; rfl)) ?_
    refine rplan_all tt_ok false rfl ?_
    refine awp_cond rfl (fun hb => by cases hb) (fun _ => awp_skip ?_)
    refine awp_region rfl (rplan_k tt_ok false 1 rfl ?_)
    refine rplan_xx tt_ok false (stepX_of false (stepR_of rfl rfl rfl (show binN tt .add 3 (.lit (.int .i64 (i : Int))) (.lit (.int .i64 1)) = some (.lit (.int .i64 ((i + 1 : Nat) : Int))) from
      binI rfl (by show some (Value.int .i64 (IntKind.i64.wrap _)) = _; rw [hi1])))) ?_
    refine rplan_all tt_ok false rfl ?_
    exact .inr ⟨2, [0, 1], [(0, lkV 0 xs za), (1, lkV 1 xs zb), (5, .lit (.int .i64 ((i + 1 : Nat) : Int)))], [lkO xs za, lkO xs zb], rfl, rfl, ⟨⟨_, rfl, soft_vec _ _ _ _⟩, ⟨_, rfl, soft_vec _ _ _ _⟩, trivial⟩,
      ⟨⟨vmap_vec _ _ _ rfl _ _, vbelow_vec _ _ rfl _ _⟩, ⟨vmap_vec _ _ _ rfl _ _, vbelow_vec _ _ rfl _ _⟩, ⟨rfl, rfl⟩, trivial⟩, xs.length - (i + 1), by omega, i + 1, by omega, rfl, rfl, rfl⟩
  · refine thenA_exit' (thenA_exit' (blockA_self' ?_))
    refine awp_seq (awp_region rfl (rplan_all tt_ok false rfl ?_))
    exact awp_ret ⟨.inr rfl, _, rfl, _, _, Leq.refl (Nat.le_of_ble_eq_true rfl), rfl, rfl⟩

def ovr : Lk := ⟨⟨#[111, 118, 101, 114]⟩, 0, 0, -9, 0⟩
theorem over_sp (xs : List Lk) (z : Bool) (hz : z = true → xs = []) (hn : xs.length < 1000) : Sp Try.prog 15 [lkV 0 xs z] (hO 1 [lkO xs z]) (fun v h => v = .tup [] ∧ h = hO 1 []) := by
  refine sp_leq (spec_of_awp tt_ok Try.func15 rfl rfl rfl ?_)
  refine awp_seq (awp_seq (awp_region rfl (rplan_all tt_ok false rfl ?_)))
  refine awp_sub 1 [0] [(0, lkV 0 xs z), (2, .lit (.int .i64 ((0 : Nat) : Int)))] [lkO xs z] rfl rfl ⟨⟨_, rfl, soft_vec _ _ _ _⟩, trivial⟩ ⟨⟨vmap_vec _ _ _ rfl _ _, vbelow_vec _ _ rfl _ _⟩, ⟨rfl, rfl⟩, trivial⟩ ?_
  refine awp_block (awp_loop (fun m fr h => ∃ i l, i ≤ xs.length ∧ m = xs.length - i ∧ l.length = xs.length ∧ fr = frL [(0, lkV 0 l z), (2, .lit (.int .i64 (i : Int)))] ∧ h = hO 1 [lkO l z]) (m := xs.length) ⟨0, xs, by omega, by omega, rfl, rfl, rfl⟩ ?_)
  rintro m fr h ⟨i, l, hi, rfl, hl, rfl, rfl⟩
  have hzl : z = true → l = [] := fun h => List.eq_nil_of_length_eq_zero (by rw [hl, hz h]; rfl)
  have hi1 : IntKind.i64.wrap ((i : Int) + 1) = ((i + 1 : Nat) : Int) := add_nat (a := i) (b := 1) (by omega)
  refine awp_seq (awp_seq (awp_region rfl (rplan_k tt_ok false 2 rfl ?_)))
  refine rplan_xx tt_ok false (stepX_of false (stepR_of rfl rfl rfl (show lenN tt 34 (lkV 0 l z) = some (.lit (.int .i64 (l.length : Int))) from len_vec rfl rfl hzl))) ?_
  refine rplan_all tt_ok false rfl ?_
  refine awp_cond rfl (fun hb => awp_skip ?_) (fun hb => awp_exit ?_)
  · have hix : i < l.length := by
      have : (i : Int) < (l.length : Int) := of_decide_eq_true hb
      omega
    obtain rfl : z = false := by
      cases z with
      | false => rfl
      | true => rw [hzl rfl] at hix; simp at hix
    refine awp_less (awp_seq (awp_block (awp_region rfl (rplan_k tt_ok false 3 rfl ?_))))
    refine rplan_xx tt_ok false (stepX_of false (stepR_of rfl rfl rfl (show indexAddrN tt 34 (.slU 0 0 l.length 5) (.lit (.int .i64 (i : Int))) = some (.ptr 0 (i * 5)) from idxU0 rfl rfl rfl rfl hix))) ?_
    refine rplan_xx tt_ok false (stepX_act false rfl rfl rfl rfl rfl (opX_store (show storeA tt 28 (.ptr 0 (i * 5)) ovr.av _ = some _ from storeE (f := Lk.cells) (l := l) rfl rfl (Nat.le_of_ble_eq_true rfl) cells_len (cells_one ovr) rfl rfl rfl hix))) ?_
    refine rplan_all tt_ok false rfl ?_
    refine awp_region rfl (rplan_k tt_ok false 1 rfl ?_)
    refine rplan_xx tt_ok false (stepX_of false (stepR_of rfl rfl rfl (show binN tt .add 3 (.lit (.int .i64 (i : Int))) (.lit (.int .i64 1)) = some (.lit (.int .i64 ((i + 1 : Nat) : Int))) from
      binI rfl (by show some (Value.int .i64 (IntKind.i64.wrap _)) = _; rw [hi1])))) ?_
    refine rplan_all tt_ok false rfl ?_
    exact .inr ⟨1, [0], [(0, .slU 0 0 l.length 5), (2, .lit (.int .i64 ((i + 1 : Nat) : Int)))], [.room 28 (.raw (flat Lk.cells (l.set i ovr)))], rfl, rfl, ⟨⟨_, rfl, soft_map rfl⟩, trivial⟩,
      ⟨⟨rfl, rfl⟩, ⟨rfl, rfl⟩, trivial⟩, xs.length - (i + 1), by omega, i + 1, l.set i ovr, by omega, rfl, by rw [List.length_set]; exact hl, by rw [lkV, vecV, List.length_set]; rfl, rfl⟩
  · refine thenA_exit' (thenA_exit' (blockA_self' ?_))
    refine awp_region rfl (rplan_k tt_ok false 3 rfl ?_)
    cases z with
    | true =>
      refine rplan_all tt_ok false rfl ?_
      exact ⟨.inl rfl, _, rfl, _, _, leq_drop rfl rfl, rfl, rfl⟩
    | false =>
      refine rplan_xx tt_ok false (stepX_act false rfl rfl rfl rfl rfl (opX_append (show appendA tt 34 34 (.slU 0 0 l.length 5) (.sl 1 0 1 1) _ = some _ from
        append_one (f := Lk.cells) (by' := 48) (a := ⟨⟨#[98, 101, 121, 111, 110, 100]⟩, 0, 0, 0, 0⟩) cells_len rfl rfl rfl rfl rfl rfl rfl rfl rfl rfl rfl rfl (cells_one _) (by omega)))) ?_
      refine rplan_all tt_ok false rfl ?_
      exact ⟨.inl rfl, _, rfl, _, _, leq_drop rfl rfl, rfl, rfl⟩
end Go.Proofs.Ytagaecgkciablaa
