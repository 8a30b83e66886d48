import Derived.Test.YtnlpcbdmllpddaaGreatTwa
import Derived.Test.YtnlpcbdmllpddaaGreatTwb
import Derived.Test.YtnlpcbdmllpddaaGreatTwc
import Derived.Test.YtnlpcbdmllpddaaGreatTwd
import Derived.Tactics
import Derived.Tactics2
import Derived.Defers
import Derived.Laws.Pointers
import Derived.Laws.LoneSync
import Derived.RegionTactic
import Derived.RegionCalls
import Derived.ChangeAlike
import Derived.Laws.IdiomStrings
section
/- Calls that came in: what is asked is so; contracts. -/
namespace Go.Proofs.YtnlpcbdmllpddaaGreat
open Go SE
theorem weightVC_true (c : Cll) : weightVC c := by
  unfold weightVC
  have big : ∃ y : Int, (y ≤ 600 → c.small) ∧ y = 601 := ⟨601, fun h => by omega, rfl⟩
  have i1 : I64 601 := by unfold I64; omega
  simp only [hd_iff, and_true, true_and, Nat.zero_add, Nat.add_zero, unit_ex, unit_all, true_implies, implies_true, Int.toNat_natCast, eq_self, and_self, i1, big]
  refine cP_intro (fun _ => trivial) (fun h1 => cP_intro (fun _ => trivial) (fun h2 => cP_intro (fun _ => trivial) (fun h3 => cP_intro (fun _ => trivial) (fun h4 => ?_))))
  have h1 := of_decide_eq_false h1
  have h2 := of_decide_eq_false h2
  have h3 := of_decide_eq_false h3
  have h4 := of_decide_eq_false h4
  have hm : ∀ z : Int, imin z 601 ≤ 600 → z ≤ 600 := fun z h => by unfold imin at h; grind
  refine ⟨by unfold I64; omega, by unfold I64; omega, ⟨(0, _), ⟨by omega, by simp; omega, by simp; omega, fun k hk => by simp at hk⟩, rfl, rfl⟩, fun ⟨i, z⟩ ⟨hi, h0, hz, hall⟩ => cP_intro (fun hb => ?_) (fun hb => ?_)⟩
  · dsimp only at *
    have hb := of_decide_eq_true hb
    refine cP_intro (fun hw => ?_) (fun hw => ⟨imin z 601, fun h => ?_, rfl⟩)
    · refine ⟨⟨by omega, hb⟩, by omega, cP_intro (fun _ => trivial) (fun g1 => cP_intro (fun _ => trivial) (fun g2 => cP_intro (fun _ => trivial) (fun g3 => cP_intro (fun _ => trivial) (fun g4 => ?_))))⟩
      have hw := of_decide_eq_true hw
      have g1 := of_decide_eq_false g1
      have g2 := of_decide_eq_false g2
      have g3 := of_decide_eq_false g3
      have g4 := of_decide_eq_false g4
      refine ⟨by unfold I64; omega, by unfold I64; omega, by unfold I64; omega, by unfold I64; omega, (i + 1, _), ⟨by dsimp only; omega, by dsimp only; omega, by dsimp only; omega, fun k hk => ?_⟩, by dsimp only; omega, rfl, rfl⟩
      rcases Nat.lt_or_ge k i with h | h
      · exact hall k h
      · have : k = i := by dsimp only at hk; omega
        subst this; exact ⟨by omega, by omega, by omega, by omega⟩
    · have hw := of_decide_eq_false hw
      have := hm _ h; omega
  · dsimp only at *
    have : i = c.gn := by have := of_decide_eq_false hb; omega
    subst this
    exact ⟨imin z 601, fun h => ⟨by omega, by omega, by omega, by omega, hall⟩, rfl⟩
theorem weight_ok : CtrOk Tryz.prog 9 weightC := ctr_end tt_ok mixed TblOk.nil (C := weightC) anWeight 200 6 (fun _ => rfl) (fun x o ho y => by have ho := List.mem_singleton.1 ho; subst ho; rfl) fun x _ => Eq.mp (weightVC_ok x) (weightVC_true x)
/-- A slice of nothing, at an address that nobody tells. -/
theorem raw_sp {P : Program} {f : FuncId} {args : List AV} (hs : Sp P f args (hO 0 []) (fun v _ => rawEnd v)) : Sp P f args (hO 0 []) (fun v h' => ∃ q, v = .lit (.slice q 0 0) ∧ h' = hO 0 []) := by
  refine ⟨hs.1, fun ρ T w vs hR hl => (hs.2 ρ T w vs hR hl).mono ?_⟩
  rintro e w' ⟨ρ', v, u, h', c1, c2, c3, c4, c5, c6, hk⟩
  have hu : ∃ q, u = .slice q 0 0 := by
    unfold rawEnd at hk
    split at hk
    · simp only [VRel] at c4; exact ⟨_, c4⟩
    · simp only [VRel] at c4
      obtain ⟨a, _, c4⟩ := c4
      exact ⟨_, c4⟩
    · exact hk.elim
  obtain ⟨q, rfl⟩ := hu
  obtain ⟨S, h1, h2, h3, h4, h5⟩ := c3
  refine ⟨fun _ => none, .lit (.slice q 0 0), _, hO 0 [], fun i hi => absurd hi (by simp [hO]), Nat.le_refl _, ⟨fun _ _ => False, fun i o hi => ?_, fun i j o o' b hi => ?_, fun i o b hi => ?_, fun i hi => rfl, h5⟩, by simp only [VRel], c5, c6, q, rfl, rfl⟩
  all_goals rw [hO_get (n := 0) (os := []) rfl] at hi; simp at hi
theorem cloneR_ok : CtrOk Tryz.prog 43 cloneRC := fun x _ => ⟨rfl, (raw_sp (by
  obtain ⟨p, n⟩ := x
  cases p with
  | none => exact wpF_ok tt_ok mixed TblOk.nil noAn 200 6 _ _ _ _ (Eq.mp (cloneRNVC_ok n) (by unfold cloneRNVC; simp only [hd_iff, and_true, true_and, Nat.zero_add, Nat.add_zero, unit_ex, unit_all, true_implies, implies_true, Int.toNat_natCast, eq_self, and_self]))
  | some a => exact wpF_ok tt_ok mixed TblOk.nil noAn 200 6 _ _ _ _ (Eq.mp (cloneRSVC_ok a n) (by unfold cloneRSVC; simp only [hd_iff, and_true, true_and, Nat.zero_add, Nat.add_zero, unit_ex, unit_all, true_implies, implies_true, Int.toNat_natCast, eq_self, and_self])))).mono fun v h' ⟨q, h1, h2⟩ => by with_unfolding_all exact Or.inl ⟨q, trivial, h1, h2⟩⟩
theorem cloneWVC_true (x : Rw) (hx : 1 ≤ x.n ∧ x.n ≤ 600) : cloneWVC x := by
  unfold cloneWVC
  simp only [hd_iff, and_true, true_and, Nat.zero_add, Nat.add_zero, unit_ex, unit_all, true_implies, implies_true, Int.toNat_natCast, eq_self, and_self]
  refine ⟨Nat.le_refl _, cP_intro (fun h => ?_) (fun h => ⟨by omega, fun q hq => rfl⟩)⟩
  have := Nat.eq_of_beq_eq_true h
  omega
theorem cloneW_ok : CtrOk Tryz.prog 43 cloneWC := det_end tt_ok mixed TblOk.nil (fun _ => noAn) 200 6 (fun _ => rfl) (fun _ => rfl) fun x hx => Eq.mp (cloneWVC_ok x) (cloneWVC_true x hx)
theorem es_eq : es = ByteArray.mk (List.toArray ([] : List UInt8)) := rfl
theorem cloneN_ok : CtrOk Tryz.prog 43 cloneNC := det_end tt_ok mixed TblOk.nil (fun _ => noAn) 200 6 (fun _ => rfl) (fun _ => rfl) fun x _ => Eq.mp (cloneNVC_ok x) (by unfold cloneNVC; simp only [hd_iff, and_true, true_and, Nat.zero_add, Nat.add_zero, unit_ex, unit_all, true_implies, implies_true, Int.toNat_natCast, eq_self, and_self])
theorem beginM_ok : CtrOk Tryz.prog 11 beginMC := ctr_endL tt_ok mixed (.cons (ctrT_ok cloneR_ok) .nil) (C := beginMC) (fun _ => noAn) 200 6 (fun _ => rfl) (fun _ => ⟨fun _ => rfl, trivial⟩) fun x _ => Eq.mp (beginMVC_ok x) (by unfold beginMVC; simp only [hd_iff, and_true, true_and, Nat.zero_add, Nat.add_zero, unit_ex, unit_all, true_implies, implies_true, Int.toNat_natCast, eq_self, and_self, es_eq]; exact ⟨(x.gp, x.gc), rfl, fun y => ⟨y, rfl⟩⟩)
theorem beginN_ok : CtrOk Tryz.prog 11 beginNC := ctr_endL tt_ok mixed (.cons (ctrT_ok cloneN_ok) .nil) (C := beginNC) (fun _ => noAn) 200 6 (fun _ => rfl) (fun _ => ⟨fun _ => rfl, trivial⟩) fun x _ => Eq.mp (beginNVC_ok x) (by unfold beginNVC; simp only [hd_iff, and_true, true_and, Nat.zero_add, Nat.add_zero, unit_ex, unit_all, true_implies, implies_true, Int.toNat_natCast, eq_self, and_self, es_eq])
theorem callM_ok : CtrOk Tryz.prog 102 callMC := ctr_endL tt_ok mixed (.cons (ctrT_ok cloneR_ok) .nil) (C := callMC) (fun _ => noAn) 200 6 (fun _ => rfl) (fun _ => ⟨fun _ => rfl, trivial⟩) fun x _ => Eq.mp (callMVC_ok x) (by unfold callMVC; simp only [hd_iff, and_true, true_and, Nat.zero_add, Nat.add_zero, unit_ex, unit_all, true_implies, implies_true, Int.toNat_natCast, eq_self, and_self]; exact ⟨(x.2, 0), rfl, fun y => ⟨y, rfl⟩⟩)
theorem callN_ok : CtrOk Tryz.prog 102 callNC := ctr_endL tt_ok mixed (.cons (ctrT_ok cloneN_ok) .nil) (C := callNC) (fun _ => noAn) 200 6 (fun _ => rfl) (fun _ => ⟨fun _ => rfl, trivial⟩) fun x _ => Eq.mp (callNVC_ok x) (by unfold callNVC; simp only [hd_iff, and_true, true_and, Nat.zero_add, Nat.add_zero, unit_ex, unit_all, true_implies, implies_true, Int.toNat_natCast, eq_self, and_self])
theorem cloneFN_ok : CtrOk Tryz.prog 45 cloneFN := ctr_endL tt_ok mixed (.cons (ctrT_ok callN_ok) .nil) (C := cloneFN) (fun _ => noAn) 200 6 (fun _ => rfl) (fun _ => ⟨fun _ => rfl, trivial⟩) fun x _ => Eq.mp (cloneFNVC_ok x) (by unfold cloneFNVC; simp only [hd_iff, and_true, true_and, Nat.zero_add, Nat.add_zero, unit_ex, unit_all, true_implies, implies_true, Int.toNat_natCast, eq_self, and_self]; exact ⟨x, ⟨rfl, rfl, rfl, rfl⟩, rfl, rfl, rfl, rfl⟩)
theorem sameCN_ok : CtrOk Tryz.prog 56 sameCN := ctr_endL tt_ok mixed TblOk.nil (C := sameCN) (fun _ => noAn) 200 6 (fun _ => rfl) (fun _ => ⟨fun _ => rfl, trivial⟩) fun x _ => Eq.mp (sameCNVC_ok x) (by unfold sameCNVC; simp [cP])
end Go.Proofs.YtnlpcbdmllpddaaGreat
end
section
/- Once: the slow road, taken for the first time. -/
namespace Go.Proofs.YtnlpcbdmllpddaaGreat
open Go
theorem disable (w : World) : (callFunc 311 #[]).run Tryz.prog w = .ok (.value (.tuple #[])) w := run_call_mark0 Tryz.func311 (by kernel_rfl) (by kernel_rfl) (by kernel_rfl) .disable (by kernel_rfl) w
theorem enable (w : World) : (callFunc 313 #[]).run Tryz.prog w = .ok (.value (.tuple #[])) w := run_call_mark0 Tryz.func313 (by kernel_rfl) (by kernel_rfl) (by kernel_rfl) .enable (by kernel_rfl) w
theorem acquire (a : Addr) (w : World) : (callFunc 314 #[.pointer (some a)]).run Tryz.prog w = .ok (.value (.tuple #[])) w := run_call_marked Tryz.func314 (by kernel_rfl) (by kernel_rfl) (by kernel_rfl) .acquire (by kernel_rfl) a w
theorem releaseMerge (a : Addr) (w : World) : (callFunc 316 #[.pointer (some a)]).run Tryz.prog w = .ok (.value (.tuple #[])) w := run_call_marked Tryz.func316 (by kernel_rfl) (by kernel_rfl) (by kernel_rfl) .releaseMerge (by kernel_rfl) a w
set_option maxRecDepth 100000 in
set_option maxHeartbeats 1600000 in
/-- The inner lock, free. -/
theorem ilock_free (a : Addr) (w : World) (hc : w.cell? a = some (.int .i32 0)) (hz : w.frozen? a = false) :
    Calls Tryz.prog 290 #[.pointer (some a)] w fun e w' => e = .returned (.tuple #[]) ∧ w' = w.setCell a (.int .i32 1) := by
  have hd := disable
  have he := enable
  have ha := acquire
  have hcas := run_call_cas_hit (P := Tryz.prog) Tryz.func312 (by kernel_rfl) (by kernel_rfl) (by kernel_rfl) .i32 (by kernel_rfl) (y := 1) hc hz
  have hc' : (w.setCell a (.int .i32 1)).cell? a = some (.int .i32 1) := World.cell?_setCell_same w a _ hc
  have hcv := run_convert_to_unsafe (P := Tryz.prog) (src := 399) (dst := 403) Tryz.underlying399 Tryz.underlying403 (by kernel_rfl) hc'
  go_enter Tryz.func290, Tryz.ntmps290
  go_wp2
  all_goals first | exact ⟨rfl, rfl⟩ | (first | go_end0 | (simp only [Exit.inBlock, Exit.then]; refine bodyPost_ret (results_none rfl _ _ _) rfl ?_) | refine bodyPost_ret (results_none rfl _ _ _) rfl ?_)
  all_goals exact ⟨rfl, rfl⟩
set_option maxRecDepth 100000 in
set_option maxHeartbeats 1600000 in
/-- The lock, free. -/
theorem lock_free (a : Addr) (w : World) (hc : w.cell? a = some (.int .i32 0)) (hz : w.frozen? a = false) :
    Calls Tryz.prog 254 #[.pointer (some a)] w fun e w' => e = .returned (.tuple #[]) ∧ w' = w.setCell a (.int .i32 1) := by
  go_enter Tryz.func254, Tryz.ntmps254
  go_wp2_with (go_at_call 290; refine (ilock_free a w hc hz).mono ?_; rintro e w' ⟨rfl, rfl⟩)
  all_goals first | exact ⟨rfl, rfl⟩ | (go_wp2; go_end0; exact ⟨rfl, rfl⟩) | (go_end0; exact ⟨rfl, rfl⟩)
set_option maxRecDepth 100000 in
set_option maxHeartbeats 1600000 in
/-- 'Store(true)' of a Bool, entered as a deferred call. -/
theorem store_deferred (a : Addr) (x : Value) (u : FrameMode) (w : World) (hc : w.cell? a = some x) (hz : w.frozen? a = false) :
    CallsD Tryz.prog 256 #[.pointer (some a), .bool true] u w fun e u' w' => u' = u ∧ (e = .returned (.tuple #[]) ∧ w' = w.drew.setCell a (.int .u32 1)) := by
  have hc' : w.drew.cell? a = some x := by go_simp
  have hz' : w.drew.frozen? a = false := by go_simp
  have hst := run_call_store (P := Tryz.prog) Tryz.func292 (by kernel_rfl) (by kernel_rfl) (by kernel_rfl) (by kernel_rfl) (k := .u32) (y := 1) hc' hz'
  go_enter_d Tryz.func256, Tryz.ntmps256
  go_wp2
  go_region_calls
  all_goals (go_end0; exact ⟨rfl, rfl⟩)
set_option maxRecDepth 100000 in
set_option maxHeartbeats 1600000 in
/-- The inner lock let go. -/
theorem iunlock (a : Addr) (w : World) (hc : w.cell? a = some (.int .i32 1)) (hz : w.frozen? a = false) :
    Calls Tryz.prog 291 #[.pointer (some a)] w fun e w' => e = .returned (.tuple #[]) ∧ w' = w.setCell a (.int .i32 0) := by
  have hd := disable
  have he := enable
  have hr := releaseMerge
  have hadd := run_call_add (P := Tryz.prog) Tryz.func317 (by kernel_rfl) (by kernel_rfl) (by kernel_rfl) .i32 (by kernel_rfl) (y := -1) (s := 0) hc hz (by simp [go_sem]; rfl)
  have hcv := run_convert_to_unsafe (P := Tryz.prog) (src := 399) (dst := 403) Tryz.underlying399 Tryz.underlying403 (by kernel_rfl) hc
  go_enter Tryz.func291, Tryz.ntmps291
  go_wp2
  all_goals first | exact ⟨rfl, rfl⟩ | go_end0
  all_goals first | exact ⟨rfl, rfl⟩ | go_wp2
  all_goals first | exact ⟨rfl, rfl⟩ | go_end0
  all_goals first | exact ⟨rfl, rfl⟩
set_option maxRecDepth 100000 in
set_option maxHeartbeats 1600000 in
/-- The lock let go, entered as a deferred call. -/
theorem unlock_deferred (a : Addr) (u : FrameMode) (w : World) (hc : w.cell? a = some (.int .i32 1)) (hz : w.frozen? a = false) :
    CallsD Tryz.prog 255 #[.pointer (some a)] u w fun e u' w' => u' = u ∧ (e = .returned (.tuple #[]) ∧ w' = w.setCell a (.int .i32 0)) := by
  go_enter_d Tryz.func255, Tryz.ntmps255
  go_wp2_with (go_at_call 291; refine (iunlock a w hc hz).mono ?_; rintro e w' ⟨rfl, rfl⟩)
  all_goals first | exact ⟨rfl, rfl⟩ | (go_wp2; go_end0; exact ⟨rfl, rfl⟩) | (go_end0; exact ⟨rfl, rfl⟩)
end Go.Proofs.YtnlpcbdmllpddaaGreat
end
section
/- Bytes of nothing are alike. -/
namespace Go.Proofs.YtnlpcbdmllpddaaGreat
open Go
theorem conv0 (w : World) : (convert 32 9 (.slice none 0 0)).run Tryz.prog w = .ok (.string ⟨#[]⟩) w := by
  rw [run_convert_bytes_string w _ _ _ none 0 0 (by kernel_rfl : Tryz.prog.underlying 32 = some (.slice 5)) (by kernel_rfl) (by kernel_rfl)]
  rfl
theorem sameB_calls (w : World) : Calls Tryz.prog 53 #[.slice none 0 0, .slice none 0 0] w fun e w' => e = .returned (.bool true) ∧ w' = w := by
  go_enter Tryz.func53, Tryz.ntmps53
  have := conv0
  go_wp2
  go_ret
  exact ⟨rfl, rfl⟩
open SE in
theorem sameB_ok : CtrOk Tryz.prog 53 sameBC := fun x _ => ⟨rfl, ⟨_, Tryz.func53, by kernel_rfl, by kernel_rfl⟩, fun ρ T w vs hR hl => by
  obtain rfl : vs = #[.slice none 0 0, .slice none 0 0] := by
    simp only [sameBC, det, nilS, LRel, VRel] at hl
    obtain ⟨u0, _, hvs, rfl, u1, _, rfl, rfl, rfl⟩ := hl
    exact vs2 hvs
  refine (sameB_calls w).mono ?_
  rintro e w' ⟨rfl, rfl⟩
  exact ⟨ρ, boo true, _, hO 0 [], fun _ _ => rfl, Nat.le_refl _, hR, by simp only [boo, VRel], rfl, Keeps.refl _ _, by with_unfolding_all exact Or.inl ⟨(), trivial, rfl, rfl⟩⟩⟩
end Go.Proofs.YtnlpcbdmllpddaaGreat
end
