/- A script: the walk. -/
import Derived.Test.YtagaecgkciablaaFJ
namespace Go.Proofs.Ytagaecgkciablaa
open Go SE
set_option maxRecDepth 20000
set_option maxHeartbeats 1000000

def bcell (b : Bool) : List Value := [.bool b]
theorem bcell_len (b : Bool) : (bcell b).length = 1 := rfl
theorem len_arg {α : Type} {tt : TT} {t e' : TypeId} {ti : TI} {i c : Nat} {x : Option (List α)} (hti : tt t = some ti) (hd : ti.desc = .slice e') : lenN tt t (argV i c x) = some (.lit (.int .i64 ((x.getD []).length : Int))) := by
  cases x
  · simp only [lenN, hti, hd, argV]; rfl
  · simp only [lenN, hti, hd, argV]; rfl
theorem idx_arg {α : Type} {tt : TT} {t e' : TypeId} {ti te : TI} {i c p m : Nat} {kk : IntKind} {x : Option (List α)} (hti : tt t = some ti) (hd : ti.desc = .slice e') (hte : tt e' = some te) (hm : te.size = m) (hp : p < (x.getD []).length) :
    indexAddrN tt t (argV i c x) (.lit (.int kk (p : Int))) = some (.ptr i (p * m)) := by
  cases x with
  | none => simp at hp
  | some l =>
    subst hm
    simp only [Option.getD_some] at hp
    simp only [indexAddrN, hti, hd, hte, argV]
    rw [if_pos ⟨by omega, by omega⟩, Int.toNat_natCast, Nat.zero_add]
theorem rawAt_argx {α : Type} {f : α → List Value} {h : Heap} {i : Nat} {x : Option (List α)} (hi : h.get i = some (argO f x)) (hp : 0 < (x.getD []).length) : RawAt h i (flat f (x.getD [])) := by
  cases x with
  | none => simp at hp
  | some l => exact ⟨_, hi, rfl⟩
theorem vmap_arg {α : Type} (τ : Nat → Nat) (i j c : Nat) (h : τ i = j) (x : Option (List α)) : SE.vmap τ (argV i c x) = argV j c x := by subst h; cases x <;> rfl
theorem vbelow_arg {α : Type} (n i c : Nat) (h : Nat.blt i n = true) (x : Option (List α)) : vbelow n (argV i c x) = true := by
  cases x
  · rfl
  · exact h
theorem flat_bcell (l : List Bool) : flat bcell l = l.map .bool := by induction l with
  | nil => rfl
  | cons b l ih => show bcell b ++ flat bcell l = _; rw [ih]; rfl
theorem loadB {h : Heap} {i p : Nat} {l : List Bool} {b : Bool} (hr : RawAt h i (flat bcell l)) (hp : l[p]? = some b) : loadA tt 4 (.ptr i (p * 1)) h = some (.lit (.bool b)) := by
  rw [Nat.mul_one]
  rw [flat_bcell] at hr
  exact load_elem1 rfl rfl hr (by rw [List.getElem?_map, hp]; rfl)

section
variable (ox : Option (List Lk)) (op : Option (List Bool)) (c1 c2 : Nat)
/-- The state of the loop. -/
def sF (w : List Lk) (z : Bool) (i : Nat) : List (Nat × AV) := [(0, argV 0 c1 ox), (1, argV 1 c2 op), (5, .ptr 2 0), (6, lkV 3 w z), (7, .lit (.int .i64 (i : Int)))]
def sO (w : List Lk) (z : Bool) : List AObj := [argO Lk.cells ox, argO bcell op, lineO w, lkO w z]
end
theorem soft_s (τ : Nat → Nat) (n : Nat) (ox : Option (List Lk)) : Soft τ n (argO Lk.cells ox) (argO Lk.cells ox) := soft_arg _ _ _ _
def zeroO : AObj := .cells 28 (.av (Lk.zero.cells.map .lit))
theorem script_sp (ox : Option (List Lk)) (op : Option (List Bool)) (c1 c2 : Nat) : Sp Try.prog 4 [argV 0 c1 ox, argV 1 c2 op] (hO 2 [argO Lk.cells ox, argO bcell op]) (fun v _ => v = .lit (.bool true)) := by
  refine spec_of_awp tt_ok Try.func4 rfl rfl rfl ?_
  refine awp_seq (awp_region rfl (rplan_all tt_ok false rfl ?_))
  refine awp_seq (awp_seq (awp_region rfl (rplan_k tt_ok false 1 rfl ?_)))
  refine rplan_xx tt_ok false (stepX_of false (stepR_of rfl rfl rfl (show lenN tt 34 (argV 0 c1 ox) = some (.lit (.int .i64 ((ox.getD []).length : Int))) from len_arg rfl rfl))) ?_
  refine rplan_all tt_ok false rfl ?_
  refine awp_cond rfl (fun hb => ?_) (fun hb => awp_skip ?_)
  · refine awp_seq (awp_region rfl ?_)
    refine rplan_callL 0 [] [] awake_sp rfl rfl rfl rfl rfl rfl rfl rfl rfl trivial rfl rfl ?_
    rintro _ _ rfl
    refine rplan_all tt_ok false rfl ?_
    exact awp_ret ⟨.inr rfl, _, rfl, rfl⟩
  have hlen : (ox.getD []).length ≤ 300 := by
    have : ¬ ((ox.getD []).length : Int) > 300 := of_decide_eq_false hb
    omega
  refine awp_seq (awp_region rfl ?_)
  refine rplan_callL 0 [] [] new_sp rfl rfl rfl rfl rfl rfl rfl rfl rfl trivial rfl rfl ?_
  rintro _ _ ⟨rfl, rfl⟩
  refine rplan_all tt_ok false rfl ?_
  refine awp_seq (awp_seq (awp_region rfl (rplan_all tt_ok false rfl ?_)))
  refine awp_cond rfl (fun hb => by cases hb) (fun _ => awp_skip ?_)
  refine awp_seq (awp_region rfl (rplan_all tt_ok false rfl ?_))
  refine awp_seq (awp_seq (awp_region rfl (rplan_all tt_ok false rfl ?_)))
  refine awp_top (awp_sub 4 [0, 1, 2, 3] (sF ox op c1 c2 [] true 0) (sO ox op [] true) rfl rfl ⟨⟨_, rfl, soft_arg _ _ _ _⟩, ⟨_, rfl, soft_arg _ _ _ _⟩, ⟨_, rfl, soft_map rfl⟩, ⟨_, rfl, soft_vec _ _ _ _⟩, trivial⟩
    ⟨⟨vmap_arg _ _ _ _ rfl _, vbelow_arg _ _ _ rfl _⟩, ⟨vmap_arg _ _ _ _ rfl _, vbelow_arg _ _ _ rfl _⟩, ⟨rfl, rfl⟩, ⟨rfl, rfl⟩, ⟨rfl, rfl⟩, trivial⟩ ?_)
  refine awp_block (awp_loop (fun m fr h => ∃ i w z, i ≤ (ox.getD []).length ∧ m = (ox.getD []).length - i ∧ w.length ≤ i ∧ (z = true → w = []) ∧ fr = frL (sF ox op c1 c2 w z i) ∧ h = hO 4 (sO ox op w z)) (m := (ox.getD []).length)
    ⟨0, [], true, by omega, by omega, by simp, fun _ => rfl, rfl, rfl⟩ ?_)
  rintro m fr h ⟨i, w, z, hi, rfl, hw, hz, rfl, rfl⟩
  have hi1 : IntKind.i64.wrap ((i : Int) + 1) = ((i + 1 : Nat) : Int) := add_nat (a := i) (b := 1) (by omega)
  refine awp_seq (awp_seq (awp_region rfl (rplan_k tt_ok false 2 rfl ?_)))
  refine rplan_xx tt_ok false (stepX_of false (stepR_of rfl rfl rfl (show lenN tt 34 (argV 0 c1 ox) = some (.lit (.int .i64 ((ox.getD []).length : Int))) from len_arg rfl rfl))) ?_
  refine rplan_all tt_ok false rfl ?_
  refine awp_cond rfl (fun hb => awp_skip ?_) (fun hb => awp_exit ?_)
  · have hix : i < (ox.getD []).length := by
      have : (i : Int) < ((ox.getD []).length : Int) := of_decide_eq_true hb
      omega
    refine awp_seq (AWp.mono (Q := fun e fr h => e = .normal ∧ ∃ w' z', w'.length ≤ i + 1 ∧ (z' = true → w' = []) ∧ fr = frL (sF ox op c1 c2 w' z' i) ∧ h = hO 4 (sO ox op w' z')) ?_ (awp_block ?_))
    · rintro _ _ _ ⟨rfl, w', z', hw', hz', rfl, rfl⟩
      refine awp_less (awp_region rfl (rplan_k tt_ok false 1 rfl ?_))
      refine rplan_xx tt_ok false (stepX_of false (stepR_of rfl rfl rfl (show binN tt .add 3 (.lit (.int .i64 (i : Int))) (.lit (.int .i64 1)) = some (.lit (.int .i64 ((i + 1 : Nat) : Int))) from
        binI rfl (by show some (Value.int .i64 (IntKind.i64.wrap _)) = _; rw [hi1])))) ?_
      refine rplan_all tt_ok false rfl ?_
      exact .inr ⟨4, [0, 1, 2, 3], sF ox op c1 c2 w' z' (i + 1), sO ox op w' z', rfl, rfl, ⟨⟨_, rfl, soft_arg _ _ _ _⟩, ⟨_, rfl, soft_arg _ _ _ _⟩, ⟨_, rfl, soft_map rfl⟩, ⟨_, rfl, soft_vec _ _ _ _⟩, trivial⟩,
        ⟨⟨vmap_arg _ _ _ _ rfl _, vbelow_arg _ _ _ rfl _⟩, ⟨vmap_arg _ _ _ _ rfl _, vbelow_arg _ _ _ rfl _⟩, ⟨rfl, rfl⟩, ⟨vmap_vec _ _ _ rfl _ _, vbelow_vec _ _ rfl _ _⟩, ⟨rfl, rfl⟩, trivial⟩,
        (ox.getD []).length - (i + 1), by omega, i + 1, w', z', by omega, rfl, hw', hz', rfl, rfl⟩
    refine awp_seq (awp_region rfl (rplan_all tt_ok false rfl ?_))
    refine awp_seq (AWp.mono (Q := fun e fr h => e = .normal ∧ ∃ w' z', w'.length ≤ i + 1 ∧ (z' = true → w' = []) ∧ fr = frL (sF ox op c1 c2 w' z' i) ∧ h = hO 4 (sO ox op w' z')) ?_
      (awp_less (awp_seq (AWp.mono (Q := fun e fr h => e = .normal ∧ ∃ b, fr = frL ((8, .ptr 4 0) :: (36, .lit (.bool b)) :: sF ox op c1 c2 w z i) ∧ h = hO 5 [argO Lk.cells ox, argO bcell op, lineO w, lkO w z, zeroO]) ?_ (awp_less ?_)))))
    rotate_left 2
    · -- the flag
      refine awp_region rfl (rplan_k tt_ok false 2 rfl ?_)
      refine rplan_xx tt_ok false (stepX_of false (stepR_of rfl rfl rfl (show lenN tt 35 (argV 1 c2 op) = some (.lit (.int .i64 ((op.getD []).length : Int))) from len_arg rfl rfl))) ?_
      by_cases hp : i < (op.getD []).length
      · refine rplan_xx tt_ok false (stepX_of false (stepR_of rfl rfl rfl (show binN tt .lss 3 (.lit (.int .i64 (i : Int))) (.lit (.int .i64 ((op.getD []).length : Int))) = some (.lit (.bool true)) from binI rfl (by simp [intN, hp])))) ?_
        refine rplan_k tt_ok false 3 rfl ?_
        refine rplan_xx tt_ok false (stepX_of false (stepR_of rfl rfl rfl (show indexAddrN tt 35 (argV 1 c2 op) (.lit (.int .i64 (i : Int))) = some (.ptr 1 (i * 1)) from idx_arg rfl rfl rfl rfl hp))) ?_
        refine rplan_xx tt_ok false (stepX_of false (stepR_load rfl rfl rfl rfl (opR_load (show loadA tt 4 (.ptr 1 (i * 1)) _ = some (.lit (.bool (op.getD [])[i])) from loadB (rawAt_argx rfl (by omega)) (List.getElem?_eq_getElem hp))))) ?_
        refine rplan_all tt_ok false rfl ?_
        exact .inr ⟨5, [0, 1, 2, 3, 4], (8, .ptr 4 0) :: (36, .lit (.bool (op.getD [])[i])) :: sF ox op c1 c2 w z i, [argO Lk.cells ox, argO bcell op, lineO w, lkO w z, zeroO], rfl, rfl, ⟨⟨_, rfl, soft_arg _ _ _ _⟩, ⟨_, rfl, soft_arg _ _ _ _⟩, ⟨_, rfl, soft_map rfl⟩, ⟨_, rfl, soft_vec _ _ _ _⟩, ⟨zeroO, rfl, soft_map rfl⟩, trivial⟩,
          ⟨⟨rfl, rfl⟩, ⟨rfl, rfl⟩, ⟨vmap_arg _ _ _ _ rfl _, vbelow_arg _ _ _ rfl _⟩, ⟨vmap_arg _ _ _ _ rfl _, vbelow_arg _ _ _ rfl _⟩, ⟨rfl, rfl⟩, ⟨vmap_vec _ _ _ rfl _ _, vbelow_vec _ _ rfl _ _⟩, ⟨rfl, rfl⟩, trivial⟩, rfl, _, rfl, rfl⟩
      · refine rplan_xx tt_ok false (stepX_of false (stepR_of rfl rfl rfl (show binN tt .lss 3 (.lit (.int .i64 (i : Int))) (.lit (.int .i64 ((op.getD []).length : Int))) = some (.lit (.bool false)) from binI rfl (by simp [intN]; omega)))) ?_
        refine rplan_all tt_ok false rfl ?_
        exact .inr ⟨5, [0, 1, 2, 3, 4], (8, .ptr 4 0) :: (36, .lit (.bool false)) :: sF ox op c1 c2 w z i, [argO Lk.cells ox, argO bcell op, lineO w, lkO w z, zeroO], rfl, rfl, ⟨⟨_, rfl, soft_arg _ _ _ _⟩, ⟨_, rfl, soft_arg _ _ _ _⟩, ⟨_, rfl, soft_map rfl⟩, ⟨_, rfl, soft_vec _ _ _ _⟩, ⟨zeroO, rfl, soft_map rfl⟩, trivial⟩,
          ⟨⟨rfl, rfl⟩, ⟨rfl, rfl⟩, ⟨vmap_arg _ _ _ _ rfl _, vbelow_arg _ _ _ rfl _⟩, ⟨vmap_arg _ _ _ _ rfl _, vbelow_arg _ _ _ rfl _⟩, ⟨rfl, rfl⟩, ⟨vmap_vec _ _ _ rfl _ _, vbelow_vec _ _ rfl _ _⟩, ⟨rfl, rfl⟩, trivial⟩, rfl, _, rfl, rfl⟩
    · -- behind it
      rintro _ _ _ ⟨rfl, w', z', hw', hz', rfl, rfl⟩
      refine awp_seq (awp_seq (awp_region rfl (rplan_k tt_ok false 1 rfl ?_)))
      refine rplan_callL 1 [2] [lineO w'] (Len_sp w') rfl rfl rfl rfl rfl rfl rfl rfl rfl ⟨⟨rfl, _, rfl, .inl rfl⟩, trivial⟩ rfl rfl ?_
      rintro _ _ ⟨rfl, rfl⟩
      refine rplan_k tt_ok false 1 rfl ?_
      refine rplan_xx tt_ok false (stepX_of false (stepR_of rfl rfl rfl (show lenN tt 34 (lkV 3 w' z') = some (.lit (.int .i64 (w'.length : Int))) from len_vec rfl rfl hz'))) ?_
      refine rplan_xx tt_ok false (stepX_of false (stepR_of rfl rfl rfl (show binN tt .neq 3 (.lit (.int .i64 (w'.length : Int))) (.lit (.int .i64 (w'.length : Int))) = some (.lit (.bool false)) from binI rfl (by simp [intN])))) ?_
      refine rplan_all tt_ok false rfl ?_
      refine awp_cond rfl (fun hb => by cases hb) (fun _ => awp_skip ?_)
      refine awp_less (awp_seq (awp_region rfl (rplan_k tt_ok false 1 rfl ?_)))
      refine rplan_xx tt_ok false (stepX_of false (stepR_of rfl rfl rfl (show binN tt .rem 3 (.lit (.int .i64 (i : Int))) (.lit (.int .i64 ((7 : Nat) : Int))) = some (.lit (.int .i64 ((i % 7 : Nat) : Int))) from binI rfl (rem_nat (by omega))))) ?_
      refine rplan_all tt_ok false rfl ?_
      refine awp_cond rfl (fun _ => ?_) (fun _ => awp_skip (.inr ⟨4, [0, 1, 2, 3], sF ox op c1 c2 w' z' i, sO ox op w' z', rfl, rfl, ⟨⟨_, rfl, soft_arg _ _ _ _⟩, ⟨_, rfl, soft_arg _ _ _ _⟩, ⟨_, rfl, soft_map rfl⟩, ⟨_, rfl, soft_vec _ _ _ _⟩, trivial⟩, ⟨⟨vmap_arg _ _ _ _ rfl _, vbelow_arg _ _ _ rfl _⟩, ⟨vmap_arg _ _ _ _ rfl _, vbelow_arg _ _ _ rfl _⟩, ⟨rfl, rfl⟩, ⟨vmap_vec _ _ _ rfl _ _, vbelow_vec _ _ rfl _ _⟩, ⟨rfl, rfl⟩, trivial⟩, rfl, w', z', hw', hz', rfl, rfl⟩))
      refine awp_seq (AWp.mono (Q := fun e fr h => e = .normal ∧ ∃ z2, (z2 = true → w' = []) ∧ fr = frL ((13, lkV 4 w' z2) :: sF ox op c1 c2 w' z' i) ∧ h = hO 5 [argO Lk.cells ox, argO bcell op, lineO w', lkO w' z', lkO w' z2]) ?_ (awp_less ?_))
      rotate_left
      · refine awp_region rfl (rplan_k tt_ok false 1 rfl ?_)
        refine rplan_callL 1 [2] [lineO w'] (All_sp w') rfl rfl rfl rfl rfl rfl rfl rfl rfl ⟨⟨rfl, _, rfl, .inl rfl⟩, trivial⟩ rfl rfl ?_
        rintro _ _ ⟨rfl, rfl⟩
        have hze : w'.isEmpty = true → w' = [] := by simp
        generalize w'.isEmpty = z2 at hze ⊢
        cases z2
        · refine rplan_all tt_ok false rfl ?_
          exact .inr ⟨5, [0, 1, 2, 3, 4], (13, lkV 4 w' false) :: sF ox op c1 c2 w' z' i, [argO Lk.cells ox, argO bcell op, lineO w', lkO w' z', lkO w' false], rfl, rfl, ⟨⟨_, rfl, soft_arg _ _ _ _⟩, ⟨_, rfl, soft_arg _ _ _ _⟩, ⟨_, rfl, soft_map rfl⟩, ⟨_, rfl, soft_vec _ _ _ _⟩, ⟨_, rfl, soft_map rfl⟩, trivial⟩,
            ⟨⟨rfl, rfl⟩, ⟨vmap_arg _ _ _ _ rfl _, vbelow_arg _ _ _ rfl _⟩, ⟨vmap_arg _ _ _ _ rfl _, vbelow_arg _ _ _ rfl _⟩, ⟨rfl, rfl⟩, ⟨vmap_vec _ _ _ rfl _ _, vbelow_vec _ _ rfl _ _⟩, ⟨rfl, rfl⟩, trivial⟩, rfl, false, hze, rfl, rfl⟩
        · refine rplan_all tt_ok false rfl ?_
          exact .inr ⟨5, [0, 1, 2, 3, 4], (13, lkV 4 w' true) :: sF ox op c1 c2 w' z' i, [argO Lk.cells ox, argO bcell op, lineO w', lkO w' z', lkO w' true], rfl, rfl, ⟨⟨_, rfl, soft_arg _ _ _ _⟩, ⟨_, rfl, soft_arg _ _ _ _⟩, ⟨_, rfl, soft_map rfl⟩, ⟨_, rfl, soft_vec _ _ _ _⟩, ⟨_, rfl, soft_map rfl⟩, trivial⟩,
            ⟨⟨rfl, rfl⟩, ⟨vmap_arg _ _ _ _ rfl _, vbelow_arg _ _ _ rfl _⟩, ⟨vmap_arg _ _ _ _ rfl _, vbelow_arg _ _ _ rfl _⟩, ⟨rfl, rfl⟩, ⟨vmap_vec _ _ _ rfl _ _, vbelow_vec _ _ rfl _ _⟩, ⟨rfl, rfl⟩, trivial⟩, rfl, true, hze, rfl, rfl⟩
      · rintro _ _ _ ⟨rfl, z2, hz2, rfl, rfl⟩
        refine awp_seq (AWp.mono (Q := fun e fr h => e = .normal ∧ fr = frL ((13, lkV 4 w' z2) :: sF ox op c1 c2 w' z' i) ∧ h = hO 5 [argO Lk.cells ox, argO bcell op, lineO w', lkO w' z', lkO w' z2]) ?_ (awp_less ?_))
        rotate_left
        · refine awp_seq (awp_region rfl (rplan_k tt_ok false 2 rfl ?_))
          refine rplan_callL 2 [4, 3] [lkO w' z2, lkO w' z'] (same_sp w' z2 z' hz2 hz' (by omega)) rfl rfl rfl rfl rfl rfl rfl rfl rfl ⟨⟨obelow_vec _ _ _, _, rfl, fits_vec _ _ _⟩, ⟨obelow_vec _ _ _, _, rfl, fits_vec _ _ _⟩, trivial⟩
            (by show [lkV 4 w' z2, lkV 3 w' z'] = [SE.vmap _ (lkV 0 w' z2), SE.vmap _ (lkV 1 w' z')]; rw [vmap_vec _ 0 4 rfl, vmap_vec _ 1 3 rfl]) (by simp only [lbelow, vbelow_vec 2 0 rfl, vbelow_vec 2 1 rfl, Bool.and_self]) ?_
          rintro _ _ ⟨rfl, rfl⟩
          refine rplan_all tt_ok false rfl ?_
          refine awp_cond rfl (fun hb => by cases hb) (fun _ => awp_skip ?_)
          exact .inr ⟨5, [0, 1, 2, 3, 4], (13, lkV 4 w' z2) :: sF ox op c1 c2 w' z' i, [argO Lk.cells ox, argO bcell op, lineO w', lkO w' z', lkO w' z2], rfl, rfl,
            ⟨⟨argO Lk.cells ox, (by cases z2 <;> cases z' <;> rfl), soft_arg _ _ _ _⟩, ⟨argO bcell op, (by cases z2 <;> cases z' <;> rfl), soft_arg _ _ _ _⟩, ⟨lineO w', (by cases z2 <;> cases z' <;> rfl), soft_map rfl⟩, ⟨lkO w' z', (by cases z2 <;> cases z' <;> rfl), soft_vec _ _ _ _⟩, ⟨lkO w' z2, (by cases z2 <;> cases z' <;> rfl), soft_vec _ _ _ _⟩, trivial⟩,
            ⟨⟨vmap_vec _ _ _ rfl _ _, vbelow_vec _ _ rfl _ _⟩, ⟨vmap_arg _ _ _ _ rfl _, vbelow_arg _ _ _ rfl _⟩, ⟨vmap_arg _ _ _ _ rfl _, vbelow_arg _ _ _ rfl _⟩, ⟨rfl, rfl⟩, ⟨vmap_vec _ _ _ rfl _ _, vbelow_vec _ _ rfl _ _⟩, ⟨rfl, rfl⟩, trivial⟩, rfl, rfl, rfl⟩
        · rintro _ _ _ ⟨rfl, rfl, rfl⟩
          refine awp_region rfl (rplan_k tt_ok false 1 rfl ?_)
          refine rplan_callL 1 [4] [lkO w' z2] (over_sp w' z2 hz2 (by omega)) rfl rfl rfl rfl rfl rfl rfl rfl rfl ⟨⟨obelow_vec _ _ _, _, rfl, fits_vec _ _ _⟩, trivial⟩
            (by show [lkV 4 w' z2] = [SE.vmap _ (lkV 0 w' z2)]; rw [vmap_vec _ 0 4 rfl]) (by simp only [lbelow, vbelow_vec 1 0 rfl, Bool.and_self]) ?_
          rintro _ _ ⟨rfl, rfl⟩
          refine rplan_all tt_ok false rfl ?_
          exact .inr ⟨4, [0, 1, 2, 3], sF ox op c1 c2 w' z' i, sO ox op w' z', rfl, rfl, ⟨⟨argO Lk.cells ox, (by cases z2 <;> rfl), soft_arg _ _ _ _⟩, ⟨argO bcell op, (by cases z2 <;> rfl), soft_arg _ _ _ _⟩, ⟨lineO w', (by cases z2 <;> rfl), soft_map rfl⟩, ⟨lkO w' z', (by cases z2 <;> rfl), soft_vec _ _ _ _⟩, trivial⟩, ⟨⟨vmap_arg _ _ _ _ rfl _, vbelow_arg _ _ _ rfl _⟩, ⟨vmap_arg _ _ _ _ rfl _, vbelow_arg _ _ _ rfl _⟩, ⟨rfl, rfl⟩, ⟨vmap_vec _ _ _ rfl _ _, vbelow_vec _ _ rfl _ _⟩, ⟨rfl, rfl⟩, trivial⟩, rfl, w', z', hw', hz', rfl, rfl⟩
    · rintro _ _ _ ⟨rfl, b, rfl, rfl⟩
      refine awp_cond rfl (fun hb => ?_) (fun hb => ?_)
      · -- taken off
        subst hb
        cases w with
        | nil =>
          refine awp_seq (awp_seq (awp_region rfl (rplan_k tt_ok false 1 rfl ?_)))
          refine rplan_xx tt_ok false (stepX_of false (stepR_of rfl rfl rfl (show lenN tt 34 (lkV 3 [] z) = some (.lit (.int .i64 0)) from len_vec rfl rfl hz))) ?_
          refine rplan_all tt_ok false rfl ?_
          refine awp_cond rfl (fun hb => by cases hb) (fun _ => awp_skip ?_)
          refine awp_seq (awp_region rfl (rplan_k tt_ok false 1 rfl ?_))
          refine rplan_callL 1 [2] [lineO []] (Head_sp []) rfl rfl rfl rfl rfl rfl rfl rfl rfl ⟨⟨rfl, _, rfl, .inl rfl⟩, trivial⟩ rfl rfl ?_
          rintro _ _ ⟨rfl, rfl⟩
          refine rplan_all tt_ok false rfl ?_
          refine awp_seq (awp_region rfl (rplan_k tt_ok false 1 rfl ?_))
          refine rplan_callL 1 [2] [lineO []] (Pop_sp []) rfl rfl rfl rfl rfl rfl rfl rfl rfl ⟨⟨rfl, _, rfl, .inl rfl⟩, trivial⟩ rfl rfl ?_
          rintro _ _ ⟨rfl, rfl⟩
          refine rplan_all tt_ok false rfl ?_
          refine awp_seq (awp_seq (awp_region rfl (rplan_k tt_ok false 2 rfl ?_)))
          refine rplan_xx tt_ok false (stepX_of false (stepR_of rfl rfl rfl (show binN tt .neq 28 Lk.zero.av Lk.zero.av = some (.lit (.bool false)) from by rw [neq_lk, sameB_self]; rfl))) ?_
          refine rplan_k tt_ok false 3 rfl ?_
          refine rplan_xx tt_ok false (stepX_of false (stepR_of rfl rfl rfl (show binN tt .neq 28 Lk.zero.av Lk.zero.av = some (.lit (.bool false)) from by rw [neq_lk, sameB_self]; rfl))) ?_
          refine rplan_k tt_ok false 4 rfl ?_
          refine rplan_xx tt_ok false (stepX_of false (stepR_of rfl rfl rfl (show lenN tt 34 (lkV 3 [] z) = some (.lit (.int .i64 0)) from len_vec rfl rfl hz))) ?_
          refine rplan_all tt_ok false rfl ?_
          refine awp_cond rfl (fun hb => by cases hb) (fun _ => awp_skip ?_)
          refine awp_seq (awp_region rfl (rplan_k tt_ok false 1 rfl ?_))
          refine rplan_xx tt_ok false (stepX_of false (stepR_of rfl rfl rfl (show lenN tt 34 (lkV 3 [] z) = some (.lit (.int .i64 0)) from len_vec rfl rfl hz))) ?_
          refine rplan_all tt_ok false rfl ?_
          refine awp_cond rfl (fun hb => by cases hb) (fun _ => awp_skip ?_)
          exact .inr ⟨4, [0, 1, 2, 3], sF ox op c1 c2 [] z i, sO ox op [] z, rfl, rfl, ⟨⟨_, rfl, soft_arg _ _ _ _⟩, ⟨_, rfl, soft_arg _ _ _ _⟩, ⟨_, rfl, soft_map rfl⟩, ⟨_, rfl, soft_vec _ _ _ _⟩, trivial⟩, ⟨⟨vmap_arg _ _ _ _ rfl _, vbelow_arg _ _ _ rfl _⟩, ⟨vmap_arg _ _ _ _ rfl _, vbelow_arg _ _ _ rfl _⟩, ⟨rfl, rfl⟩, ⟨vmap_vec _ _ _ rfl _ _, vbelow_vec _ _ rfl _ _⟩, ⟨rfl, rfl⟩, trivial⟩, rfl, [], z, by simp, hz, rfl, rfl⟩
        | cons x t =>
          obtain rfl : z = false := by
            cases z with
            | false => rfl
            | true => exact absurd (hz rfl) (by simp)
          have hgt : intN .gtr .i64 ((x :: t).length : Int) 0 = some (.bool true) := by simp [intN]
          refine awp_seq (awp_seq (awp_region rfl (rplan_k tt_ok false 2 rfl ?_)))
          refine rplan_xx tt_ok false (stepX_of false (stepR_of rfl rfl rfl (show binN tt .gtr 3 (.lit (.int .i64 ((x :: t).length : Int))) (.lit (.int .i64 0)) = some (.lit (.bool true)) from binI rfl hgt))) ?_
          refine rplan_all tt_ok false rfl ?_
          refine awp_cond rfl (fun _ => ?_) (fun hb => by cases hb)
          refine awp_region rfl (rplan_k tt_ok false 1 rfl ?_)
          refine rplan_xx tt_ok false (stepX_of false (stepR_of rfl rfl rfl (show indexAddrN tt 34 (.slU 3 0 (x :: t).length 5) (.lit (.int .i64 ((0 : Nat) : Int))) = some (.ptr 3 (0 * 5)) from idxU0 rfl rfl rfl rfl (by simp)))) ?_
          refine rplan_xx tt_ok false (stepX_of false (stepR_load rfl rfl rfl rfl (opR_load (show loadA tt 28 (.ptr 3 (0 * 5)) _ = some x.av from loadE (f := Lk.cells) (l := x :: t) rfl rfl rfl cells_len ⟨_, rfl, rfl⟩ rfl)))) ?_
          refine rplan_all tt_ok false rfl ?_
          refine awp_seq (awp_region rfl (rplan_k tt_ok false 1 rfl ?_))
          refine rplan_callL 1 [2] [lineO (x :: t)] (Head_sp (x :: t)) rfl rfl rfl rfl rfl rfl rfl rfl rfl ⟨⟨rfl, _, rfl, .inl rfl⟩, trivial⟩ rfl rfl ?_
          rintro _ _ ⟨rfl, rfl⟩
          refine rplan_all tt_ok false rfl ?_
          refine awp_seq (awp_region rfl (rplan_k tt_ok false 1 rfl ?_))
          refine rplan_callL 1 [2] [lineO (x :: t)] (Pop_sp (x :: t)) rfl rfl rfl rfl rfl rfl rfl rfl rfl ⟨⟨rfl, _, rfl, .inl rfl⟩, trivial⟩ rfl rfl ?_
          rintro _ _ ⟨rfl, rfl⟩
          refine rplan_all tt_ok false rfl ?_
          refine awp_seq (awp_seq (awp_region rfl (rplan_k tt_ok false 2 rfl ?_)))
          refine rplan_xx tt_ok false (stepX_of false (stepR_of rfl rfl rfl (show binN tt .neq 28 x.av x.av = some (.lit (.bool false)) from by rw [neq_lk, sameB_self]; rfl))) ?_
          refine rplan_k tt_ok false 3 rfl ?_
          refine rplan_xx tt_ok false (stepX_of false (stepR_of rfl rfl rfl (show binN tt .neq 28 x.av x.av = some (.lit (.bool false)) from by rw [neq_lk, sameB_self]; rfl))) ?_
          refine rplan_k tt_ok false 5 rfl ?_
          refine rplan_xx tt_ok false (stepX_of false (stepR_of rfl rfl rfl (show binN tt .gtr 3 (.lit (.int .i64 ((x :: t).length : Int))) (.lit (.int .i64 0)) = some (.lit (.bool true)) from binI rfl hgt))) ?_
          refine rplan_all tt_ok false rfl ?_
          refine awp_cond rfl (fun hb => by cases hb) (fun _ => awp_skip ?_)
          refine awp_seq (awp_region rfl (rplan_k tt_ok false 2 rfl ?_))
          refine rplan_xx tt_ok false (stepX_of false (stepR_of rfl rfl rfl (show binN tt .gtr 3 (.lit (.int .i64 ((x :: t).length : Int))) (.lit (.int .i64 0)) = some (.lit (.bool true)) from binI rfl hgt))) ?_
          refine rplan_all tt_ok false rfl ?_
          refine awp_cond rfl (fun _ => ?_) (fun hb => by cases hb)
          refine awp_region rfl (rplan_k tt_ok false 1 rfl ?_)
          cases t with
          | nil =>
            refine rplan_sliceEnd (m := 1) (b := 0) (j := 3) (sz := 5) tt_ok rfl rfl rfl rfl rfl rfl rfl rfl rfl rfl ?_ ?_
            · refine rplan_xx tt_ok false (stepX_act false rfl rfl rfl rfl rfl (opX_append (show appendA tt 34 34 (.lit (.slice none 0 0)) (.slU 3 (1 * 5) 0 5) _ = some (.lit (.slice none 0 0), _) from
                append_nil0 rfl rfl rfl rfl rfl rfl rfl rfl (seg_row (f := Lk.cells) (a := 1) (ls := [x]) cells_len ⟨_, rfl, rfl⟩ rfl (by simp))))) ?_
              refine rplan_all tt_ok false rfl ?_
              exact .inr ⟨4, [0, 1, 2, 3], sF ox op c1 c2 [] true i, sO ox op [] true, rfl, rfl, ⟨⟨_, rfl, soft_arg _ _ _ _⟩, ⟨_, rfl, soft_arg _ _ _ _⟩, ⟨_, rfl, soft_map rfl⟩, ⟨_, rfl, soft_top _ _ _⟩, trivial⟩, ⟨⟨vmap_arg _ _ _ _ rfl _, vbelow_arg _ _ _ rfl _⟩, ⟨vmap_arg _ _ _ _ rfl _, vbelow_arg _ _ _ rfl _⟩, ⟨rfl, rfl⟩, ⟨rfl, rfl⟩, ⟨rfl, rfl⟩, trivial⟩, rfl, [], true, by simp, (fun _ => rfl), rfl, rfl⟩
            · refine rplan_xx tt_ok false (stepX_act false rfl rfl rfl rfl rfl (opX_append (show appendA tt 34 34 (.lit (.slice none 0 0)) (.slU 3 (0 * 5) 0 5) _ = some (.lit (.slice none 0 0), _) from
                append_nil0 rfl rfl rfl rfl rfl rfl rfl rfl (seg_row (f := Lk.cells) (a := 0) (ls := [x]) cells_len ⟨_, rfl, rfl⟩ rfl (by simp))))) ?_
              refine rplan_all tt_ok false rfl ?_
              exact .inr ⟨4, [0, 1, 2, 3], sF ox op c1 c2 [] true i, sO ox op [] true, rfl, rfl, ⟨⟨_, rfl, soft_arg _ _ _ _⟩, ⟨_, rfl, soft_arg _ _ _ _⟩, ⟨_, rfl, soft_map rfl⟩, ⟨_, rfl, soft_top _ _ _⟩, trivial⟩, ⟨⟨vmap_arg _ _ _ _ rfl _, vbelow_arg _ _ _ rfl _⟩, ⟨vmap_arg _ _ _ _ rfl _, vbelow_arg _ _ _ rfl _⟩, ⟨rfl, rfl⟩, ⟨rfl, rfl⟩, ⟨rfl, rfl⟩, trivial⟩, rfl, [], true, by simp, (fun _ => rfl), rfl, rfl⟩
          | cons y t =>
            refine rplan_xx tt_ok false (stepX_of false (stepR_of rfl rfl rfl (show sliceN tt 34 (.slU 3 0 (x :: y :: t).length 5) (some (.lit (.int .i64 ((1 : Nat) : Int)))) none none = some (.slU 3 (1 * 5) ((x :: y :: t).length - 1) 5) from sliceFrom rfl rfl rfl rfl rfl (by simp)))) ?_
            refine rplan_xx tt_ok false (stepX_act false rfl rfl rfl rfl rfl (opX_append (show appendA tt 34 34 (.lit (.slice none 0 0)) (.slU 3 (1 * 5) ((x :: y :: t).length - 1) 5) _ = some _ from
              append_copy (f := Lk.cells) (B := y :: t) (by' := 48) rfl rfl rfl rfl rfl rfl rfl rfl rfl (by simp) (segFrom (p := 1) (ls := x :: y :: t) ⟨_, rfl, rfl⟩ (by simp) rfl) cells_one (by simp at hw ⊢; omega)))) ?_
            refine rplan_all tt_ok false rfl ?_
            exact .inr ⟨4, [0, 1, 2, 7], [(0, argV 0 c1 ox), (1, argV 1 c2 op), (5, .ptr 2 0), (6, .slU 3 0 ((x :: y :: t).length - 1) 5), (7, .lit (.int .i64 (i : Int)))], sO ox op (y :: t) false, rfl, rfl,
              ⟨⟨_, rfl, soft_arg _ _ _ _⟩, ⟨_, rfl, soft_arg _ _ _ _⟩, ⟨_, rfl, soft_map rfl⟩, ⟨_, rfl, soft_map rfl⟩, trivial⟩,
              ⟨⟨vmap_arg _ _ _ _ rfl _, vbelow_arg _ _ _ rfl _⟩, ⟨vmap_arg _ _ _ _ rfl _, vbelow_arg _ _ _ rfl _⟩, ⟨rfl, rfl⟩, ⟨rfl, rfl⟩, ⟨rfl, rfl⟩, trivial⟩, rfl, y :: t, false, by simp at hw ⊢; omega, (by intro h; cases h), rfl, rfl⟩
      · -- laid behind
        have hxi : (ox.getD [])[i]? = some (ox.getD [])[i] := List.getElem?_eq_getElem hix
        refine awp_seq (awp_region rfl (rplan_k tt_ok false 3 rfl ?_))
        refine rplan_xx tt_ok false (stepX_of false (stepR_of rfl rfl rfl (show indexAddrN tt 34 (argV 0 c1 ox) (.lit (.int .i64 (i : Int))) = some (.ptr 0 (i * 5)) from idx_arg rfl rfl rfl rfl hix))) ?_
        refine rplan_xx tt_ok false (stepX_of false (stepR_load rfl rfl rfl rfl (opR_load (show loadA tt 28 (.ptr 0 (i * 5)) _ = some ((ox.getD [])[i]).av from loadE (f := Lk.cells) rfl rfl rfl cells_len (rawAt_argx rfl (by omega)) hxi)))) ?_
        refine rplan_callL 1 [2] [lineO w] (Push_sp w (ox.getD [])[i] (by omega)) rfl rfl rfl rfl rfl rfl rfl rfl rfl ⟨⟨rfl, _, rfl, .inl rfl⟩, trivial⟩ rfl rfl ?_
        rintro _ _ ⟨rfl, rfl⟩
        refine rplan_all tt_ok false rfl ?_
        refine awp_region rfl (rplan_k tt_ok false 3 rfl ?_)
        refine rplan_xx tt_ok false (stepX_of false (stepR_of rfl rfl rfl (show indexAddrN tt 34 (argV 0 c1 ox) (.lit (.int .i64 (i : Int))) = some (.ptr 0 (i * 5)) from idx_arg rfl rfl rfl rfl hix))) ?_
        refine rplan_xx tt_ok false (stepX_of false (stepR_load rfl rfl rfl rfl (opR_load (show loadA tt 28 (.ptr 0 (i * 5)) _ = some ((ox.getD [])[i]).av from loadE (f := Lk.cells) rfl rfl rfl cells_len (rawAt_argx rfl (by omega)) hxi)))) ?_
        refine rplan_k tt_ok false 1 rfl ?_
        have hlw : (w ++ [(ox.getD [])[i]]).length = w.length + 1 := by simp
        cases z with
        | false =>
          refine rplan_xx tt_ok false (stepX_act false rfl rfl rfl rfl rfl (opX_append (show appendA tt 34 34 (.slU 3 0 w.length 5) (.sl 5 0 1 1) _ = some _ from
            append_one (f := Lk.cells) (by' := 48) (a := (ox.getD [])[i]) cells_len rfl rfl rfl rfl rfl rfl rfl rfl rfl rfl rfl rfl (cells_one _) (by omega)))) ?_
          refine rplan_all tt_ok false rfl ?_
          exact .inr ⟨4, [0, 1, 2, 6], [(0, argV 0 c1 ox), (1, argV 1 c2 op), (5, .ptr 2 0), (6, .slU 3 0 (w.length + 1) 5), (7, .lit (.int .i64 (i : Int)))], sO ox op (w ++ [(ox.getD [])[i]]) false, rfl, rfl,
            ⟨⟨_, rfl, soft_arg _ _ _ _⟩, ⟨_, rfl, soft_arg _ _ _ _⟩, ⟨_, rfl, soft_map rfl⟩, ⟨_, rfl, soft_map rfl⟩, trivial⟩,
            ⟨⟨vmap_arg _ _ _ _ rfl _, vbelow_arg _ _ _ rfl _⟩, ⟨vmap_arg _ _ _ _ rfl _, vbelow_arg _ _ _ rfl _⟩, ⟨rfl, rfl⟩, ⟨rfl, rfl⟩, ⟨rfl, rfl⟩, trivial⟩, rfl, w ++ [(ox.getD [])[i]], false, by rw [hlw]; omega, (by intro h; cases h), by rw [← hlw]; rfl, rfl⟩
        | true =>
          obtain rfl := hz rfl
          refine rplan_all tt_ok false rfl ?_
          exact .inr ⟨4, [0, 1, 2, 6], [(0, argV 0 c1 ox), (1, argV 1 c2 op), (5, .ptr 2 0), (6, .slU 3 0 1 5), (7, .lit (.int .i64 (i : Int)))], [argO Lk.cells ox, argO bcell op, lineO [(ox.getD [])[i]], .room 28 (.raw ((ox.getD [])[i]).cells)], rfl, rfl,
            ⟨⟨_, rfl, soft_arg _ _ _ _⟩, ⟨_, rfl, soft_arg _ _ _ _⟩, ⟨_, rfl, soft_map rfl⟩, ⟨_, rfl, soft_avraw _ _ _ _⟩, trivial⟩,
            ⟨⟨vmap_arg _ _ _ _ rfl _, vbelow_arg _ _ _ rfl _⟩, ⟨vmap_arg _ _ _ _ rfl _, vbelow_arg _ _ _ rfl _⟩, ⟨rfl, rfl⟩, ⟨rfl, rfl⟩, ⟨rfl, rfl⟩, trivial⟩, rfl, [(ox.getD [])[i]], false, by simp, (by intro h; cases h), rfl, by simp [sO, vecO, flat]⟩
  · refine thenA_exit' (thenA_exit' (blockA_self' ?_))
    refine awp_seq (awp_region rfl (rplan_k tt_ok false 1 rfl ?_))
    refine rplan_callL 1 [2] [lineO w] (All_sp w) rfl rfl rfl rfl rfl rfl rfl rfl rfl ⟨⟨rfl, _, rfl, .inl rfl⟩, trivial⟩ rfl rfl ?_
    rintro _ _ ⟨rfl, rfl⟩
    have hze : w.isEmpty = true → w = [] := by simp
    generalize w.isEmpty = z2 at hze ⊢
    cases z2 <;> cases z <;> (
      refine rplan_k tt_ok false 1 rfl ?_
      refine rplan_callL 2 [4, 3] [lkO w _, lkO w _] (same_sp w _ _ hze hz (by omega)) rfl rfl rfl rfl rfl rfl rfl rfl rfl ⟨⟨rfl, _, rfl, .inl rfl⟩, ⟨rfl, _, rfl, .inl rfl⟩, trivial⟩ rfl rfl ?_
      rintro _ _ ⟨rfl, rfl⟩
      refine rplan_k tt_ok false 1 rfl ?_
      refine rplan_callL 0 [] [] awake_sp rfl rfl rfl rfl rfl rfl rfl rfl rfl trivial rfl rfl ?_
      rintro _ _ rfl
      refine rplan_all tt_ok false rfl ?_
      exact awp_ret ⟨.inr rfl, _, rfl, rfl⟩)
end Go.Proofs.Ytagaecgkciablaa
