/- The calls on a line, second part: push. -/
import Derived.Test.YtagaecgkciablaaFB
namespace Go.Proofs.Ytagaecgkciablaa
open Go SE
set_option maxRecDepth 20000
set_option maxHeartbeats 1000000

theorem cells_one (x : Lk) : ∀ v ∈ x.cells, v.oneCell' = true := by simp [Lk.cells, Value.oneCell']
theorem segFrom {h : Heap} {j p m c : Nat} {ls : List Lk} (hr : RawAt h j (flat Lk.cells ls)) (hp : p ≤ ls.length) (hm : m = ls.length - p) : segOf h (.slU j (p * 5) m c) m 5 = some (.raw (flat Lk.cells (ls.drop p))) := by
  subst hm
  rw [seg_row (a := p) cells_len hr rfl (by omega), List.take_of_length_le (by simp)]
theorem segTo {h : Heap} {j p c : Nat} {ls : List Lk} (hr : RawAt h j (flat Lk.cells ls)) (hp : p ≤ ls.length) : segOf h (.slU j (0 * 5) p c) p 5 = some (.raw (flat Lk.cells (ls.take p))) := by
  rw [seg_row (a := 0) cells_len hr rfl (by omega), List.drop_zero]

theorem ringO_of {ls : List Lk} {p n m : Nat} (h : ls.length = m) : ringO ls p n = .cells 45 (.av [.slU 1 0 m 5, .lit (.int .i64 p), .lit (.int .i64 n)]) := by subst h; rfl

theorem callable16 : Callable Try.prog 16 := ⟨_, Try.func16, rfl, rfl⟩
theorem push_sp (xs : List Lk) (x : Lk) (hx : xs.length < 1000) : Sp Try.prog 16 [.ptr 0 0, x.av] (hO 1 [lineO xs])
    (fun v h => v = .tup [] ∧ h = hO 1 [lineO (xs ++ [x])]) := by
  refine sp_openq (i := 0) (Φ := LineΦ xs) rfl callable16 ?_
  rintro h0 (⟨rfl, rfl⟩ | ⟨ls, p, hr, hl, rfl⟩)
  · refine spec_of_awp tt_ok Try.func16 rfl rfl rfl ?_
    refine awp_seq (awp_region rfl (rplan_all tt_ok false rfl ?_))
    refine awp_seq (awp_seq (awp_draw mixed (pl := [.nn 0, .nn 1, .nn 2, .nn 4, .nn 5, .nn 6, .rr [3, 7, 8, 9]]) (by kernel_rfl) (rplan_all tt_ok false rfl ?_)))
    refine awp_cond rfl (fun _ => ?_) (fun hb => by cases hb)
    refine awp_seq (awp_region rfl (rplan_all tt_ok true rfl ?_))
    refine awp_seq (awp_draw mixed (pl := [.nn 0, .nn 1, .nn 2, .nn 3, .nn 5, .nn 6, .nn 7, .rr [4, 8, 9], .xx 10, .nn 11]) (by kernel_rfl) (rplan_all tt_ok false rfl ?_))
    refine awp_seq (awp_draw mixed (pl := [.nn 0, .nn 1, .nn 2, .nn 3, .nn 5, .nn 6, .nn 7, .rr [4, 8, 9], .xx 10, .nn 11]) (by kernel_rfl) (rplan_all tt_ok false rfl ?_))
    refine awp_region rfl (rplan_all tt_ok false rfl ?_)
    refine awp_region rfl (rplan_all tt_ok false rfl ?_)
    exact ⟨.inl rfl, _, rfl, _, _, (leq_close (Φ := LineΦ [x]) 2 [0, 6] [ringO [x] 0 1, .room 28 (.raw (flat Lk.cells [x]))] rfl rfl rfl (Nat.le_of_ble_eq_true rfl)
      (.inr ⟨[x], 0, ⟨by simp, by simp, fun i hi => by simp at hi; subst hi; rfl⟩, by simp, rfl⟩) ⟨⟨rfl, rfl, rfl⟩, ⟨rfl, rfl, rfl⟩, trivial⟩).trans
        (leq_sub 1 [0] [lineO [x]] rfl rfl ⟨⟨lineO [x], rfl, soft_map rfl⟩, trivial⟩ rfl rfl), rfl, rfl⟩
  · have hlt := hr.lt
    have hle := hr.le
    have hn1 : IntKind.i64.wrap ((xs.length : Int) + 1) = ((xs.length + 1 : Nat) : Int) := add_nat (a := xs.length) (b := 1) (by omega)
    refine spec_of_awp tt_ok Try.func16 rfl rfl rfl ?_
    refine awp_seq (awp_region rfl (rplan_all tt_ok false rfl ?_))
    refine awp_seq (awp_seq (awp_draw mixed (pl := [.nn 0, .nn 1, .nn 2, .nn 4, .nn 5, .nn 6, .rr [3, 7, 8, 9]]) (by kernel_rfl) (rplan_all tt_ok false rfl ?_)))
    refine awp_cond rfl (fun hb => ?_) (fun hb => ?_)
    · have hn : xs.length = ls.length := by simpa [Int.natCast_inj] using hb
      have h2n : intN .mul .i64 2 (xs.length : Int) = some (.int .i64 ((2 * xs.length : Nat) : Int)) := by
        show some (Value.int .i64 (IntKind.i64.wrap _)) = _
        rw [show (2 : Int) * (xs.length : Int) = ((2 * xs.length : Nat) : Int) by omega, wrap_nat (by omega)]
      have h2n1 : intN .add .i64 ((2 * xs.length : Nat) : Int) 1 = some (.int .i64 ((2 * xs.length + 1 : Nat) : Int)) := by
        show some (Value.int .i64 (IntKind.i64.wrap _)) = _
        rw [show ((2 * xs.length : Nat) : Int) + 1 = ((2 * xs.length + 1 : Nat) : Int) by omega, wrap_nat (by omega)]
      refine awp_seq (awp_region rfl (rplan_k tt_ok true 4 rfl ?_))
      refine rplan_xx tt_ok true (stepX_of true (stepR_of rfl rfl rfl (show binN tt .mul 3 (.lit (.int .i64 2)) (.lit (.int .i64 (xs.length : Int))) = some (.lit (.int .i64 ((2 * xs.length : Nat) : Int))) from binI rfl h2n))) ?_
      refine rplan_xx tt_ok true (stepX_of true (stepR_of rfl rfl rfl (show binN tt .add 3 (.lit (.int .i64 ((2 * xs.length : Nat) : Int))) (.lit (.int .i64 1)) = some (.lit (.int .i64 ((2 * xs.length + 1 : Nat) : Int))) from binI rfl h2n1))) ?_
      have hmk := fun h => makeRoom (tt := tt) (t := 34) (e := 28) (h := h) (k := .i64) (k' := .i64) (c := 2 * xs.length + 1) (m := 5) (by' := 48) rfl rfl rfl rfl rfl rfl (by omega) (by omega)
      refine rplan_xx tt_ok true (stepX_act true rfl rfl rfl rfl rfl (opX_makeU (hmk _))) ?_
      refine rplan_all tt_ok true rfl ?_
      refine awp_seq (awp_draw mixed (pl := [.nn 0, .nn 1, .nn 2, .nn 3, .nn 5, .nn 6, .nn 7, .rr [4, 8, 9], .xx 10, .nn 11]) (by kernel_rfl) (rplan_k tt_ok false 9 rfl ?_))
      refine rplan_rr_cons tt_ok (stepR_of rfl rfl rfl (show sliceN tt 34 (.slU 1 0 ls.length 5) (some (.lit (.int .i64 (p : Int)))) none none = some (.slU 1 (p * 5) (ls.length - p) 5) from sliceFrom rfl rfl rfl rfl rfl hlt)) ?_
      refine rplan_rr_nil (rplan_xx tt_ok false (stepX_act false rfl rfl rfl rfl rfl (opX_append (show appendA tt 34 34 (.slU 3 0 0 5) (.slU 1 (p * 5) (ls.length - p) 5) _ = some (.slU 4 0 (0 + (ls.length - p)) 5, _) from
        appendRow (f := Lk.cells) (A := []) (B := ls.drop p) (by' := 48) cells_len rfl rfl rfl rfl rfl rfl rfl rfl rfl rfl rfl (segFrom ⟨_, rfl, rfl⟩ (by omega) rfl) cells_one (by omega)))) ?_)
      refine rplan_all tt_ok false rfl ?_
      refine awp_seq (awp_draw mixed (pl := [.nn 0, .nn 1, .nn 2, .nn 3, .nn 5, .nn 6, .nn 7, .rr [4, 8, 9], .xx 10, .nn 11]) (by kernel_rfl) (rplan_k tt_ok false 9 rfl ?_))
      refine rplan_rr_cons tt_ok (stepR_of rfl rfl rfl (show sliceN tt 34 (.slU 1 0 ls.length 5) none (some (.lit (.int .i64 (p : Int)))) none = some (.slU 1 (0 * 5) p 5) from sliceTo rfl rfl rfl rfl rfl (by omega))) ?_
      refine rplan_rr_nil (rplan_xx tt_ok false (stepX_act false rfl rfl rfl rfl rfl (opX_append (show appendA tt 34 34 (.slU 4 0 (0 + (ls.length - p)) 5) (.slU 1 (0 * 5) p 5) _ = some (.slU 5 0 (0 + (ls.length - p) + p) 5, _) from
        appendRow (f := Lk.cells) (A := ls.drop p) (B := ls.take p) (by' := 48) cells_len rfl rfl rfl rfl rfl rfl rfl rfl rfl (by simp) rfl (segTo ⟨_, rfl, rfl⟩ (by omega)) cells_one (by omega)))) ?_)
      refine rplan_all tt_ok false rfl ?_
      refine awp_region rfl (rplan_k tt_ok false 5 rfl ?_)
      refine rplan_xx tt_ok false (stepX_act false rfl rfl rfl rfl rfl (opX_append (show appendA tt 34 34 (.slU 5 0 (0 + (ls.length - p) + p) 5) (.sl 6 0 1 1) _ = some (.slU 7 0 (0 + (ls.length - p) + p + 1) 5, _) from
        appendU (L := flat Lk.cells (ls.drop p ++ ls.take p)) (d := .av (x.cells.map .lit)) (c' := .raw (flat Lk.cells (ls.drop p ++ ls.take p) ++ x.cells)) rfl rfl rfl rfl rfl rfl rfl rfl (by rw [flat_length cells_len, List.length_append, List.length_drop, List.length_take, Nat.min_eq_left (by omega), Nat.zero_add]) rfl rfl rfl rfl
          (show (2 * ((0 + (ls.length - p) + p) + 1) + 1000) * 48 ≤ 2 ^ 48 by omega)))) ?_
      refine rplan_all tt_ok false rfl ?_
      have hlen : (ls.drop p ++ ls.take p ++ [x]).length = 0 + (ls.length - p) + p + 1 := by simp; omega
      have hfl : flat Lk.cells (ls.drop p ++ ls.take p) ++ x.cells = flat Lk.cells (ls.drop p ++ ls.take p ++ [x]) := by rw [flat_append (r := [x]), flat_one]
      refine awp_sub 3 [0, 1, 7] [(0, .ptr 0 0)] [AObj.cells 45 (.av [.slU 2 0 (0 + (ls.length - p) + p + 1) 5, .lit (.int .i64 0), .lit (.int .i64 xs.length)]), .room 28 (.raw (flat Lk.cells ls)), .room 28 (.raw (flat Lk.cells (ls.drop p ++ ls.take p) ++ x.cells))] rfl rfl
        ⟨⟨.cells 45 (.av [.slU 7 0 (0 + (ls.length - p) + p + 1) 5, .lit (.int .i64 0), .lit (.int .i64 xs.length)]), rfl, soft_map rfl⟩, ⟨.room 28 (.raw (flat Lk.cells ls)), rfl, soft_map rfl⟩, ⟨.room 28 (.raw (flat Lk.cells (ls.drop p ++ ls.take p) ++ x.cells)), rfl, soft_map rfl⟩, trivial⟩ ⟨⟨rfl, rfl⟩, trivial⟩ ?_
      refine awp_region rfl (rplan_k tt_ok false 4 rfl ?_)
      refine rplan_xx tt_ok false (stepX_of false (stepR_of rfl rfl rfl (show binN tt .add 3 (.lit (.int .i64 (xs.length : Int))) (.lit (.int .i64 1)) = some (.lit (.int .i64 ((xs.length + 1 : Nat) : Int))) from
        binI rfl (by show some (Value.int .i64 (IntKind.i64.wrap _)) = _; rw [hn1])))) ?_
      refine rplan_all tt_ok false rfl ?_
      exact ⟨.inl rfl, _, rfl, _, _, (leq_close (Φ := LineΦ (xs ++ [x])) 2 [0, 2] [ringO (ls.drop p ++ ls.take p ++ [x]) 0 (xs.length + 1), .room 28 (.raw (flat Lk.cells (ls.drop p ++ ls.take p ++ [x])))] rfl rfl rfl (Nat.le_of_ble_eq_true rfl)
        (.inr ⟨ls.drop p ++ ls.take p ++ [x], 0, hr.grow hn, by rw [hlen]; omega, by rw [List.length_append]; rfl⟩) ⟨⟨rfl, rfl, by rw [ringO_of hlen]; rfl⟩, ⟨rfl, rfl, by rw [← hfl]; rfl⟩, trivial⟩).trans
          (leq_sub 1 [0] [lineO (xs ++ [x])] rfl rfl ⟨⟨lineO (xs ++ [x]), rfl, soft_map rfl⟩, trivial⟩ rfl rfl), rfl, rfl⟩
    · have hn : xs.length < ls.length := by
        have : ¬ xs.length = ls.length := by simpa [Int.natCast_inj] using hb
        omega
      have hpn : IntKind.i64.wrap ((p : Int) + (xs.length : Int)) = ((p + xs.length : Nat) : Int) := add_nat (by omega)
      have hmod : (p + xs.length) % ls.length < ls.length := Nat.mod_lt _ (by omega)
      refine awp_draw mixed (pl := [.nn 0, .nn 1, .nn 2, .nn 4, .nn 5, .nn 6, .nn 8, .nn 9, .nn 10, .nn 13, .nn 14, .nn 15, .rr [3, 7, 11, 12, 16, 17, 18, 19, 20], .xx 21]) (by kernel_rfl) (rplan_k tt_ok false 18 rfl ?_)
      refine rplan_rr_cons tt_ok (stepR_of rfl rfl rfl (show binN tt .rem 3 (.lit (.int .i64 (IntKind.i64.wrap ((p : Int) + (xs.length : Int))))) (.lit (.int .i64 (ls.length : Int))) = some (.lit (.int .i64 (((p + xs.length) % ls.length : Nat) : Int))) from
        binI rfl (by rw [hpn]; exact rem_nat (by omega)))) ?_
      refine rplan_k tt_ok false 1 rfl ?_
      refine rplan_rr_cons tt_ok (stepR_of rfl rfl rfl (show indexAddrN tt 34 (.slU 1 0 ls.length 5) (.lit (.int .i64 (((p + xs.length) % ls.length : Nat) : Int))) = some (.ptr 1 ((p + xs.length) % ls.length * 5)) from idxU0 rfl rfl rfl rfl hmod)) ?_
      refine rplan_rr_nil (rplan_xx tt_ok false (stepX_act false rfl rfl rfl rfl rfl (opX_store (show storeA tt 28 (.ptr 1 ((p + xs.length) % ls.length * 5)) x.av _ = some _ from storeE (f := Lk.cells) rfl rfl (Nat.le_of_ble_eq_true rfl) cells_len (cells_one x) rfl rfl rfl hmod))) (rplan_nil ?_))
      refine awp_region rfl (rplan_k tt_ok false 4 rfl ?_)
      refine rplan_xx tt_ok false (stepX_of false (stepR_of rfl rfl rfl (show binN tt .add 3 (.lit (.int .i64 (xs.length : Int))) (.lit (.int .i64 1)) = some (.lit (.int .i64 ((xs.length + 1 : Nat) : Int))) from
        binI rfl (by show some (Value.int .i64 (IntKind.i64.wrap _)) = _; rw [hn1])))) ?_
      refine rplan_all tt_ok false rfl ?_
      exact ⟨.inl rfl, _, rfl, _, _, (leq_close (Φ := LineΦ (xs ++ [x])) 2 [0, 1] [ringO (ls.set ((p + xs.length) % ls.length) x) p (xs.length + 1), .room 28 (.raw (flat Lk.cells (ls.set ((p + xs.length) % ls.length) x)))] rfl rfl rfl (Nat.le_of_ble_eq_true rfl)
        (.inr ⟨ls.set ((p + xs.length) % ls.length) x, p, hr.put hn, by rw [List.length_set]; exact hl, by rw [List.length_append]; rfl⟩) ⟨⟨rfl, rfl, by rw [ringO_of (List.length_set ..)]; rfl⟩, ⟨rfl, rfl, rfl⟩, trivial⟩).trans
          (leq_sub 1 [0] [lineO (xs ++ [x])] rfl rfl ⟨⟨lineO (xs ++ [x]), rfl, soft_map rfl⟩, trivial⟩ rfl rfl), rfl, rfl⟩
end Go.Proofs.Ytagaecgkciablaa
