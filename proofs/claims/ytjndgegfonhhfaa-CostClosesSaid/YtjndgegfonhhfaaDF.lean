/- Revivals. -/
import Derived.Test.YtjndgegfonhhfaaDE
namespace Go.Proofs.Ytjndgegfonhhfaa
open Go SE
theorem slabsM_le (a : Int) : 0 ≤ slabsM a ∧ slabsM a ≤ 40 := by
  have h3 : ∀ c : Int, imin c 258 = if c ≤ 258 then c else 258 := fun c => by unfold imin; grind
  unfold slabsM
  split
  · omega
  · rw [Int.tdiv_eq_ediv_of_nonneg (by rw [h3]; split <;> omega), h3]; split <;> omega
theorem mm (b : Int) : imin (imax b 0) 258 = imax 0 (imin b 258) ∧ 0 ≤ imax 0 (imin b 258) ∧ imax 0 (imin b 258) ≤ 258 := by unfold imin imax; grind
theorem reviveVC_true (p : Int × Int) : reviveVC p := by
  obtain ⟨a, b⟩ := p
  unfold reviveVC
  obtain ⟨e, h1, h2⟩ := mm b
  obtain ⟨h3, h4⟩ := slabsM_le a
  simp only [e, and_true, true_and, rvS, rvN, rvF]
  generalize imax 0 (imin b 258) = c at h1 h2 ⊢
  have i1 : I64 (5 + c) := by unfold I64; omega
  have i2 : I64 (8 * slabsM a) := by unfold I64; omega
  have i3 : I64 (5 + c + 8 * slabsM a) := by unfold I64; omega
  refine cP_intro (fun hb => ?_) (fun hb => ?_)
  · have hb := of_decide_eq_true hb
    exact ⟨(), by simp [hb]⟩
  · have hb := of_decide_eq_false hb
    refine cP_intro (fun hc => ?_) (fun hc => ?_)
    · have hc := of_decide_eq_true hc
      exact ⟨(), by simp [hb, show 258 < a by omega]⟩
    · have hc := of_decide_eq_false hc
      refine ⟨i1, a, rfl, fun _ _ => ⟨i2, i3, (), ?_⟩⟩
      simp [hb, show ¬ 258 < a by omega]
theorem rreviveVC_true (p : Int × Int) : rreviveVC p := by
  obtain ⟨a, b⟩ := p
  unfold rreviveVC
  obtain ⟨e, h1, h2⟩ := mm b
  obtain ⟨h3, h4⟩ := slabsM_le a
  simp only [e, and_true, true_and, rvS, rvN, rvF]
  generalize imax 0 (imin b 258) = c at h1 h2 ⊢
  have i1 : I64 (5 + c) := by unfold I64; omega
  have i2 : I64 (8 * slabsM a) := by unfold I64; omega
  have i3 : I64 (5 + c + 8 * slabsM a) := by unfold I64; omega
  refine cP_intro (fun hb => ?_) (fun hb => ?_)
  · have hb := of_decide_eq_true hb
    exact ⟨(), by simp [hb]⟩
  · have hb := of_decide_eq_false hb
    refine cP_intro (fun hc => ?_) (fun hc => ?_)
    · have hc := of_decide_eq_true hc
      exact ⟨(), by simp [hb, show 258 < a by omega]⟩
    · have hc := of_decide_eq_false hc
      refine ⟨i1, a, rfl, fun _ _ => ⟨i2, i3, (), ?_⟩⟩
      simp [hb, show ¬ 258 < a by omega]
theorem revive_ok : CtrOk Try.prog 25 reviveC := det_end tt_ok mixed tblS_ok (fun _ _ _ _ _ => []) 200 5 (fun _ => rfl) (fun _ => rfl) fun x _ => Eq.mp (reviveVC_ok x) (reviveVC_true x)
theorem rrevive_ok : CtrOk Try.prog 26 reviveC := det_end tt_ok mixed tblS_ok (fun _ _ _ _ _ => []) 200 5 (fun _ => rfl) (fun _ => rfl) fun x _ => Eq.mp (rreviveVC_ok x) (rreviveVC_true x)
def tblD : WTbl := [(23, ctrT closeC), (24, ctrT closeC), (22, ctrT lendC), (27, ctrT keptC), (25, ctrT reviveC), (26, ctrT reviveC), (11, awakeT)]
theorem tblD_ok : TblOk Try.prog tblD := .cons (ctrT_ok close_ok) (.cons (ctrT_ok rclose_ok) (.cons (ctrT_ok lend_ok) (.cons (ctrT_ok kept_ok) (.cons (ctrT_ok revive_ok) (.cons (ctrT_ok rrevive_ok) (.cons awakeT_ok .nil))))))
end Go.Proofs.Ytjndgegfonhhfaa
