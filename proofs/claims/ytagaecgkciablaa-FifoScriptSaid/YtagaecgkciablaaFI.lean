/- All of a line; links that are alike; links that are written over. -/
import Derived.Test.YtagaecgkciablaaFD
import Derived.Test.YtagaecgkciablaaSE20
namespace Go.Proofs.Ytagaecgkciablaa
open Go SE
set_option maxRecDepth 20000
set_option maxHeartbeats 1000000

abbrev lkV (i : Nat) (l : List Lk) (z : Bool) : AV := vecV 5 i l z
abbrev lkO (l : List Lk) (z : Bool) : AObj := vecO Lk.cells 28 l z

theorem thenA_exit' {id : Nat} {K : Fr → Heap → Prop} {Q : Exit → Fr → Heap → Prop} {fr : Fr} {h : Heap} (hq : Q (.exit id) fr h) : thenA K Q (.exit id) fr h := hq
theorem blockA_self' {id : Nat} {Q : Exit → Fr → Heap → Prop} {fr : Fr} {h : Heap} (hq : Q .normal fr h) : blockA id Q (.exit id) fr h := by simpa [blockA] using hq

theorem callable19 : Callable Try.prog 19 := ⟨_, Try.func19, rfl, rfl⟩
theorem all_sp (xs : List Lk) : Sp Try.prog 19 [.ptr 0 0] (hO 1 [lineO xs]) (fun v h => v = lkV 1 xs xs.isEmpty ∧ h = hO 2 [lineO xs, lkO xs xs.isEmpty]) := by
  refine sp_openq (i := 0) (Φ := LineΦ xs) rfl callable19 ?_
  rintro h0 (⟨rfl, rfl⟩ | ⟨ls, p, hr, hl, rfl⟩)
  · refine spec_of_awp tt_ok Try.func19 rfl rfl rfl (runC_ok tt_ok mixed (callOk_none _) 40 40 (Nat.le_refl _) _ _ _ _ _ _ _ rfl ⟨.inr rfl, _, rfl, _, _, (leq_close (Φ := LineΦ []) 1 [0] [nilO] rfl rfl rfl (Nat.le_of_ble_eq_true rfl) (.inl ⟨rfl, rfl⟩) ⟨⟨rfl, rfl, rfl⟩, trivial⟩).trans
      ((leq_sub (v' := .lit (.slice none 0 0)) 1 [0] [lineO []] rfl rfl ⟨⟨lineO [], rfl, soft_map rfl⟩, trivial⟩ rfl rfl).trans ((leq_top (Nat.le_of_ble_eq_true rfl)).trans
        (leq_sub (v' := .lit (.slice none 0 0)) 2 [0, 1] [lineO [], lkO [] true] rfl rfl ⟨⟨lineO [], rfl, soft_map rfl⟩, ⟨_, rfl, soft_vec _ _ _ _⟩, trivial⟩ rfl rfl))), rfl, rfl⟩)
  · refine spec_of_awp tt_ok Try.func19 rfl rfl rfl ?_
    refine awp_seq (awp_region rfl (rplan_all tt_ok false rfl ?_))
    refine awp_seq (awp_region rfl (rplan_all tt_ok false rfl ?_))
    refine awp_seq (awp_seq (awp_region rfl (rplan_all tt_ok false rfl ?_)))
    refine awp_top (awp_sub 3 [0, 1, 2] [(0, .ptr 0 0), (3, lkV 2 [] true), (8, .lit (.int .i64 (xs.length : Int))), (9, .lit (.int .i64 ((0 : Nat) : Int)))]
      [ringO ls p xs.length, .room 28 (.raw (flat Lk.cells ls)), lkO [] true] rfl rfl ⟨⟨_, rfl, soft_map rfl⟩, ⟨_, rfl, soft_map rfl⟩, ⟨_, rfl, soft_vec _ _ _ _⟩, trivial⟩ ⟨⟨rfl, rfl⟩, ⟨rfl, rfl⟩, ⟨rfl, rfl⟩, ⟨rfl, rfl⟩, trivial⟩ ?_)
    refine awp_block (awp_loop (fun m fr h => ∃ i z, i ≤ xs.length ∧ z = Nat.beq i 0 ∧ m = xs.length - i ∧ fr = frL [(0, .ptr 0 0), (3, lkV 2 (xs.take i) z), (8, .lit (.int .i64 (xs.length : Int))), (9, .lit (.int .i64 (i : Int)))]
      ∧ h = hO 3 [ringO ls p xs.length, .room 28 (.raw (flat Lk.cells ls)), lkO (xs.take i) z]) (m := xs.length) ⟨0, true, by omega, rfl, by omega, by simp, by simp⟩ ?_)
    rintro m fr h ⟨i, z, hi, hz, rfl, rfl, rfl⟩
    have hlt := hr.lt
    have hle := hr.le
    have hzn : z = true → xs.take i = [] := fun h => by
      have : i = 0 := Nat.eq_of_beq_eq_true (hz.symm.trans h)
      simp [this]
    have hi1 : IntKind.i64.wrap ((i : Int) + 1) = ((i + 1 : Nat) : Int) := add_nat (a := i) (b := 1) (by omega)
    refine awp_seq (awp_region rfl (rplan_all tt_ok false rfl ?_))
    refine awp_seq (awp_cond rfl (fun hb => awp_skip ?_) (fun hb => awp_exit ?_))
    · have hix : i < xs.length := by
        have : (i : Int) < (xs.length : Int) := of_decide_eq_true hb
        omega
      have hpi : IntKind.i64.wrap ((p : Int) + (i : Int)) = ((p + i : Nat) : Int) := add_nat (by omega)
      have hmod : (p + i) % ls.length < ls.length := Nat.mod_lt _ (by omega)
      have hat : ls[(p + i) % ls.length]? = some xs[i] := by rw [hr.at' i hix]; exact List.getElem?_eq_getElem hix
      have htk : xs.take i ++ [xs[i]] = xs.take (i + 1) := by rw [List.take_add_one, List.getElem?_eq_getElem hix]; rfl
      refine awp_less (awp_seq (awp_block (awp_seq (awp_region rfl (rplan_all tt_ok false rfl ?_)))))
      refine awp_draw mixed (pl := [.nn 0, .nn 1, .nn 2, .nn 3, .nn 5, .nn 6, .nn 7, .nn 9, .nn 11, .nn 12, .nn 13, .rr [4, 8, 10, 14, 15, 16, 17, 18], .xx 19, .xx 20, .nn 21]) (by kernel_rfl) (rplan_k tt_ok false 16 rfl ?_)
      refine rplan_rr_cons tt_ok (stepR_of rfl rfl rfl (show binN tt .rem 3 (.lit (.int .i64 (IntKind.i64.wrap ((p : Int) + (i : Int))))) (.lit (.int .i64 (ls.length : Int))) = some (.lit (.int .i64 (((p + i) % ls.length : Nat) : Int))) from
        binI rfl (by rw [hpi]; exact rem_nat (by omega)))) ?_
      refine rplan_rr_cons tt_ok (stepR_of rfl rfl rfl (show indexAddrN tt 34 (.slU 1 0 ls.length 5) (.lit (.int .i64 (((p + i) % ls.length : Nat) : Int))) = some (.ptr 1 ((p + i) % ls.length * 5)) from idxU0 rfl rfl rfl rfl hmod)) ?_
      refine rplan_rr_cons tt_ok (stepR_load rfl rfl rfl rfl (show loadA tt 28 (.ptr 1 ((p + i) % ls.length * 5)) _ = some xs[i].av from loadE (f := Lk.cells) rfl rfl rfl cells_len ⟨_, rfl, rfl⟩ hat)) ?_
      refine rplan_rr_nil (rplan_k tt_ok false 1 rfl ?_)
      have hl1 : (xs.take (i + 1)).length = (xs.take i).length + 1 := by rw [← htk, List.length_append]; rfl
      cases z
      · refine rplan_xx tt_ok false (stepX_act false rfl rfl rfl rfl rfl (opX_append (show appendA tt 34 34 (.slU 2 0 (xs.take i).length 5) (.sl 3 0 1 1) _ = some _ from
          append_one (f := Lk.cells) (by' := 48) (a := xs[i]) cells_len rfl rfl rfl rfl rfl rfl rfl rfl rfl rfl rfl rfl (cells_one _) (by rw [List.length_take, Nat.min_eq_left (by omega)]; omega)))) ?_
        refine rplan_all tt_ok false rfl ?_
        refine awp_region rfl ?_
        refine rplan_xx tt_ok false (stepX_of false (stepR_of rfl rfl rfl (show binN tt .add 3 (.lit (.int .i64 (i : Int))) (.lit (.int .i64 1)) = some (.lit (.int .i64 ((i + 1 : Nat) : Int))) from
          binI rfl (by show some (Value.int .i64 (IntKind.i64.wrap _)) = _; rw [hi1])))) ?_
        refine rplan_all tt_ok false rfl ?_
        exact .inr ⟨3, [0, 1, 4], [(0, .ptr 0 0), (3, .slU 2 0 ((xs.take i).length + 1) 5), (8, .lit (.int .i64 (xs.length : Int))), (9, .lit (.int .i64 ((i + 1 : Nat) : Int)))], [ringO ls p xs.length, .room 28 (.raw (flat Lk.cells ls)), .room 28 (.raw (flat Lk.cells (xs.take i ++ [xs[i]])))], rfl, rfl,
          ⟨⟨_, rfl, soft_map rfl⟩, ⟨_, rfl, soft_map rfl⟩, ⟨_, rfl, soft_map rfl⟩, trivial⟩, ⟨⟨rfl, rfl⟩, ⟨rfl, rfl⟩, ⟨rfl, rfl⟩, ⟨rfl, rfl⟩, trivial⟩,
          xs.length - (i + 1), by omega, i + 1, false, by omega, rfl, rfl, by rw [← hl1]; rfl, by rw [htk]; rfl⟩
      · have hi0 : i = 0 := Nat.eq_of_beq_eq_true hz.symm
        subst hi0
        refine rplan_all tt_ok false rfl ?_
        refine awp_region rfl ?_
        refine rplan_xx tt_ok false (stepX_of false (stepR_of rfl rfl rfl (show binN tt .add 3 (.lit (.int .i64 ((0 : Nat) : Int))) (.lit (.int .i64 1)) = some (.lit (.int .i64 ((0 + 1 : Nat) : Int))) from
          binI rfl (by show some (Value.int .i64 (IntKind.i64.wrap _)) = _; rw [hi1])))) ?_
        refine rplan_all tt_ok false rfl ?_
        exact .inr ⟨3, [0, 1, 4], [(0, .ptr 0 0), (3, .slU 2 0 ((xs.take 0).length + 1) 5), (8, .lit (.int .i64 (xs.length : Int))), (9, .lit (.int .i64 ((0 + 1 : Nat) : Int)))], [ringO ls p xs.length, .room 28 (.raw (flat Lk.cells ls)), .room 28 (.raw xs[0].cells)], rfl, rfl,
          ⟨⟨_, rfl, soft_map rfl⟩, ⟨_, rfl, soft_map rfl⟩, ⟨_, rfl, soft_avraw _ _ _ _⟩, trivial⟩, ⟨⟨rfl, rfl⟩, ⟨rfl, rfl⟩, ⟨rfl, rfl⟩, ⟨rfl, rfl⟩, trivial⟩,
          xs.length - (0 + 1), by omega, 0 + 1, false, by omega, rfl, rfl, by rw [← htk]; simp [vecV], by rw [← htk]; simp [vecO, flat]⟩
    · have hin : i = xs.length := by
        have : ¬ (i : Int) < (xs.length : Int) := of_decide_eq_false hb
        omega
      subst hin
      refine thenA_exit' (thenA_exit' (blockA_self' ?_))
      refine awp_seq (awp_region rfl (rplan_all tt_ok false rfl ?_))
      have hze : z = xs.isEmpty := by rw [hz]; cases xs <;> rfl
      subst hze
      exact awp_ret ⟨.inr rfl, _, rfl, _, _, (leq_close (Φ := LineΦ xs) 2 [0, 1] [ringO ls p xs.length, .room 28 (.raw (flat Lk.cells ls))] rfl rfl rfl (Nat.le_of_ble_eq_true rfl) (.inr ⟨ls, p, hr, hl, rfl⟩) ⟨⟨rfl, rfl, rfl⟩, ⟨rfl, rfl, rfl⟩, trivial⟩).trans
        (leq_sub (v' := lkV 1 (xs.take xs.length) xs.isEmpty) 2 [0, 2] [lineO xs, lkO (xs.take xs.length) xs.isEmpty] rfl rfl ⟨⟨lineO xs, rfl, soft_map rfl⟩, ⟨_, rfl, soft_vec _ _ _ _⟩, trivial⟩ (vmap_vec _ _ _ rfl _ _) (vbelow_vec _ _ rfl _ _)), by rw [List.take_length], by rw [List.take_length]⟩

theorem All_sp (xs : List Lk) : Sp Try.prog 13 [.ptr 0 0] (hO 1 [lineO xs]) (fun v h => v = lkV 1 xs xs.isEmpty ∧ h = hO 2 [lineO xs, lkO xs xs.isEmpty]) := by
  refine sp_leq (spec_of_awp tt_ok Try.func13 rfl rfl rfl ?_)
  refine awp_seq (awp_region rfl (rplan_all tt_ok false rfl ?_))
  refine awp_seq (awp_seq (awp_region rfl (rplan_all tt_ok false rfl ?_)))
  refine awp_cond rfl (fun hb => by cases hb) (fun _ => awp_skip ?_)
  refine awp_seq (awp_region rfl (rplan_k tt_ok false 3 rfl ?_))
  refine rplan_callL 1 [0] [lineO xs] (all_sp xs) rfl rfl rfl rfl rfl rfl rfl rfl rfl ⟨⟨rfl, _, rfl, .inl rfl⟩, trivial⟩ rfl rfl ?_
  rintro _ _ ⟨rfl, rfl⟩
  generalize xs.isEmpty = z
  cases z
  · refine rplan_all tt_ok false rfl ?_
    exact awp_ret ⟨.inr rfl, _, rfl, _, _, leq_sub (v' := .slU 1 0 xs.length 5) 2 [0, 1] [lineO xs, .room 28 (.raw (flat Lk.cells xs))] rfl rfl ⟨⟨lineO xs, rfl, soft_map rfl⟩, ⟨_, rfl, soft_map rfl⟩, trivial⟩ rfl rfl, rfl, rfl⟩
  · refine rplan_all tt_ok false rfl ?_
    exact awp_ret ⟨.inr rfl, _, rfl, _, _, leq_sub (v' := .lit (.slice none 0 0)) 2 [0, 1] [lineO xs, .abs topOwn] rfl rfl ⟨⟨lineO xs, rfl, soft_map rfl⟩, ⟨_, rfl, soft_map rfl⟩, trivial⟩ rfl rfl, rfl, rfl⟩
end Go.Proofs.Ytagaecgkciablaa
