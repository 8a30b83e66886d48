/- Closings, and numbers that are lent: what is asked is so. -/
import Derived.Test.YtjndgegfonhhfaaDB
import Derived.Test.YtjndgegfonhhfaaCH
namespace Go.Proofs.Ytjndgegfonhhfaa
open Go SE
set_option maxRecDepth 4000
theorem closeVC_true (x : Nts) (hx : x.n ≤ x.N ∧ x.n < 1099511627776) : closeVC x := by
  obtain ⟨h1, h2⟩ := hx
  unfold closeVC
  simp only [and_true, true_and, Nat.zero_add]
  have hI : ∀ i : Nat, i < x.n → I64 ((i : Int) + 1) := fun i hi => by unfold I64; omega
  have hc : ∀ i : Nat, I64 ((cntTo x.g i 258 : Int) + 1) ∧ I64 ((cntTo x.g i 258 : Int) + 4) := fun i => by have := cntTo_le x.g i 258; unfold I64; omega
  refine ⟨⟨0, by omega, ⟨rfl, by rw [cntTo_zero]; rfl⟩, fun q _ => rfl⟩, fun s hs => cP_intro (fun hb => ?_) (fun hb => ?_)⟩
  · have hlt : s < x.n := by have := of_decide_eq_true hb; omega
    have same : (∀ k : Nat, k < 258 → x.g s ≠ (k : Int)) → cntTo x.g (s + 1) 258 = cntTo x.g s 258 ∧ ∀ q, q < 258 → met x.g (s + 1) q = met x.g s q := fun hn =>
      ⟨cntTo_same fun k hk => met_old (hn k hk), fun q hq => met_old (hn q hq)⟩
    refine ⟨⟨by omega, by omega⟩, by omega, cP_intro (fun hg => ?_) (fun hg => ?_)⟩
    · have hg := of_decide_eq_true hg
      refine cP_intro (fun hl => ?_) (fun hl => ?_)
      · have hl := of_decide_eq_true hl
        obtain ⟨q, hq⟩ : ∃ q : Nat, x.g s = (q : Int) := ⟨(x.g s).toNat, by omega⟩
        have hq2 : q < 258 := by omega
        simp only [hq, Int.toNat_natCast] at hl ⊢
        refine ⟨⟨by omega, hl⟩, hq2, cP_intro (fun hm => ?_) (fun hm => ?_)⟩
        · have hm : met x.g s q = false := by simpa using hm
          refine ⟨⟨by omega, hl⟩, hq2, (hc s).1, hI s hlt, s + 1, by omega, by omega, ⟨rfl, by rw [cntTo_more hq hm hq2]; rfl⟩, fun p hp => ?_⟩
          simp only [Cs.eff]
          cases hb : Nat.beq p q with
          | true => have := Nat.eq_of_beq_eq_true hb; subst this; simp only [cond_true, met_new hq]
          | false =>
            have hpq : p ≠ q := fun h => by
              subst h
              rw [Nat.beq_refl] at hb; cases hb
            simp only [cond_false]
            rw [met_old (g := x.g) (i := s) (k := p) (by omega)]
        · have hm : met x.g s q = true := by simpa using hm
          have e : ∀ p : Nat, met x.g (s + 1) p = met x.g s p := fun p => by
            by_cases h : x.g s = (p : Int)
            · have : p = q := by omega
              subst this; rw [met_at hm, hm]
            · exact met_old h
          exact ⟨hI s hlt, s + 1, by omega, by omega, ⟨rfl, by rw [cntTo_same fun k _ => e k]⟩, fun p _ => by rw [e]⟩
      · have hl := of_decide_eq_false hl
        obtain ⟨e1, e2⟩ := same fun k hk => by omega
        exact ⟨hI s hlt, s + 1, by omega, by omega, ⟨rfl, by rw [e1]⟩, fun p hp => by rw [e2 p hp]⟩
    · have hg := of_decide_eq_false hg
      obtain ⟨e1, e2⟩ := same fun k hk => by omega
      exact ⟨hI s hlt, s + 1, by omega, by omega, ⟨rfl, by rw [e1]⟩, fun p hp => by rw [e2 p hp]⟩
  · have : s = x.n := by have := of_decide_eq_false hb; omega
    subst this
    exact ⟨(hc _).2, (hc _).1, (), rfl, rfl⟩
theorem close_ok : CtrOk Try.prog 23 closeC := det_end tt_ok mixed TblOk.nil anClose 200 5 (fun _ => rfl) (fun _ => rfl) fun x hx => Eq.mp (closeVC_ok x) (closeVC_true x hx)
theorem rcloseVC_true (x : Nts) (hx : x.n ≤ x.N ∧ x.n < 1099511627776) : rcloseVC x := by
  obtain ⟨h1, h2⟩ := hx
  unfold rcloseVC
  simp only [and_true, true_and, Nat.zero_add, Int.toNat_natCast]
  have hI : ∀ i : Nat, i < x.n → I64 ((i : Int) + 1) := fun i hi => by unfold I64; omega
  have hc : ∀ m : Nat, m ≤ 258 → I64 ((cntTo x.g x.n m : Int) + 1) ∧ I64 ((cntTo x.g x.n m : Int) + 4) ∧ I64 ((m : Int) + 1) := fun m hm => by have := cntTo_le x.g x.n m; unfold I64; omega
  refine ⟨⟨0, by omega, rfl, rfl⟩, fun s hs => cP_intro (fun hb => ?_) (fun hb => ?_)⟩
  · have hlt : s < 258 := by have := of_decide_eq_true hb; omega
    refine ⟨⟨0, by omega, rfl, rfl⟩, fun i hi => cP_intro (fun hb => ?_) (fun hb => ?_)⟩
    · have hi : i < x.n := by have := of_decide_eq_true hb; omega
      refine cP_intro (fun hm => ?_) (fun hm => ?_)
      · exact ⟨hI i hi, i + 1, by omega, by omega, rfl, by rw [met_at hm]⟩
      · refine ⟨⟨by omega, by omega⟩, by omega, hI i hi, i + 1, by omega, by omega, rfl, ?_⟩
        simp only [met]
        by_cases h : x.g i = (s : Int)
        · simp [h]
        · simp [h, hm]
    · have : i = x.n := by have := of_decide_eq_false hb; omega
      subst this
      refine cP_intro (fun hm => ?_) (fun hm => ?_)
      · exact ⟨(hc s hs).1, (hc s hs).2.2, s + 1, by omega, by omega, rfl, by simp [cntTo, hm]⟩
      · exact ⟨(hc s hs).2.2, s + 1, by omega, by omega, rfl, by simp [cntTo, hm]⟩
  · have : s = 258 := by have := of_decide_eq_false hb; omega
    subst this
    exact ⟨(hc _ (by omega)).2.1, (hc _ (by omega)).1, (), rfl, rfl⟩
theorem rclose_ok : CtrOk Try.prog 24 closeC := det_end tt_ok mixed TblOk.nil anRClose 200 5 (fun _ => rfl) (fun _ => rfl) fun x hx => Eq.mp (rcloseVC_ok x) (rcloseVC_true x hx)
theorem lendVC_true (x : Nts) (hx : x.n < 1099511627776) : lendVC x := by
  unfold lendVC
  have h3 : ((x.n : Int) + 3).toNat = x.n + 3 := by omega
  have hI : I64 ((x.n : Int) + 3) := by unfold I64; omega
  simp only [and_true, true_and, Nat.zero_add, Int.toNat_natCast, h3, hI, Nat.add_zero, Nat.sub_zero]
  have hn : ∀ a b : Nat, a ≠ b → Nat.beq a b = false := fun a b h => nbeq_ne h
  have hlt : ∀ a b : Nat, b ≤ a → Nat.blt a b = false := fun a b h => by
    cases hb : Nat.blt a b with
    | false => rfl
    | true => have := nblt_iff.1 hb; omega
  have hI2 : I64 1 ∧ I64 2 ∧ I64 3 := by unfold I64; omega
  obtain ⟨i1, i2, i3⟩ := hI2
  refine ⟨⟨by omega, by omega, by omega, by omega⟩, by omega, by omega, cP_intro (fun hb => ?_) (fun hb => ?_)⟩
  · have h0 : x.n = 0 := Nat.eq_of_beq_eq_true hb
    refine ⟨by omega, by omega, ⟨by omega, by omega, by omega⟩, ⟨by omega, by omega⟩, by omega, i1, ⟨by omega, by omega⟩, by omega, i2, ⟨by omega, by omega⟩, by omega, i3, (), ⟨h0, fun q hq => ?_⟩⟩
    rw [h0] at hq ⊢
    rcases (by omega : q = 0 ∨ q = 1 ∨ q = 2) with rfl | rfl | rfl <;> rfl
  · refine cP_intro (fun hc => ?_) (fun hc => ?_)
    · refine ⟨fun k _ => rfl, by omega, by omega, by omega, ⟨by omega, by omega, by omega⟩, ⟨by omega, by omega⟩, by omega, i1, ⟨by omega, by omega⟩, by omega, i2, ⟨by omega, by omega⟩, by omega, i3, (), fun q hq => ?_⟩
      simp only [Cs.eff]
      rcases (by omega : q < x.n ∨ q = x.n ∨ q = x.n + 1 ∨ q = x.n + 2) with h | h | h | h
      · rw [hn q (x.n + 2) (by omega), hn q (x.n + 1) (by omega), hn q x.n (by omega)]
        have h1 : Nat.blt q x.n = true := nblt_iff.2 h
        have h2 : Nat.ble 0 q = true := by simp
        simp only [h1, h2, cond_true, cond_false, Bool.and_self]
      · subst h; rw [hn _ (x.n + 2) (by omega), hn _ (x.n + 1) (by omega), hlt _ _ (Nat.le_refl _)]; simp [Nat.beq_refl]
      · subst h; rw [hn _ (x.n + 2) (by omega), hlt _ _ (by omega)]; simp [Nat.beq_refl]
      · subst h; rw [hlt _ _ (by omega)]; simp [Nat.beq_refl]
    · have : Nat.ble x.n (x.n + 3) = true := by simp
      rw [this] at hc; cases hc
theorem lend_ok : CtrOk Try.prog 22 lendC := det_end tt_ok mixed TblOk.nil (fun _ _ _ _ _ => []) 200 5 (fun _ => rfl) (fun _ => rfl) fun x hx => Eq.mp (lendVC_ok x) (lendVC_true x hx)
theorem keptVC_true (x : Nts) (hx : x.n < 1099511627776) : keptVC x := by
  unfold keptVC
  have h3 : ((x.n : Int) + 3).toNat = x.n + 3 := by omega
  have hI : I64 ((x.n : Int) + 3) := by unfold I64; omega
  have hlt : ∀ a b : Nat, b ≤ a → Nat.blt a b = false := fun a b h => by
    cases hb : Nat.blt a b with
    | false => rfl
    | true => have := nblt_iff.1 hb; omega
  have hI2 : I64 1 ∧ I64 2 ∧ I64 3 := by unfold I64; omega
  obtain ⟨i1, i2, i3⟩ := hI2
  simp only [and_true, true_and, Nat.zero_add, Int.toNat_natCast, h3, hI, Nat.add_zero, Nat.sub_zero, hlt _ _ (Nat.le_refl x.n), hlt (x.n + 1) x.n (by omega), hlt (x.n + 2) x.n (by omega), cond_false, bne_self_eq_false, cP]
  refine ⟨by omega, by omega, ⟨by omega, by omega, by omega⟩, ⟨by omega, by omega⟩, by omega, i1, ⟨by omega, by omega⟩, by omega, i2, ⟨by omega, by omega⟩, by omega, i3, ⟨0, by omega, rfl⟩, fun s hs => cP_intro (fun hb => ?_) (fun _ => ⟨(), trivial⟩)⟩
  have hb := of_decide_eq_true hb
  have hs' : s < x.n := by omega
  have e : Nat.blt s x.n = true := nblt_iff.2 hs'
  simp only [e, cond_true, bne_self_eq_false]
  exact ⟨⟨by omega, by omega⟩, by omega, ⟨by omega, by omega⟩, by omega, by unfold I64; omega, s + 1, by omega, by omega, rfl⟩
theorem kept_ok : CtrOk Try.prog 27 keptC := det_end tt_ok mixed TblOk.nil anSame 200 5 (fun _ => rfl) (fun _ => rfl) fun x hx => Eq.mp (keptVC_ok x) (keptVC_true x hx)
theorem slabs_ok : CtrOk Try.prog 59 slabsC := det_end tt_ok mixed TblOk.nil (fun _ _ _ _ _ => []) 200 5 (fun _ => rfl) (fun _ => rfl) fun a _ => Eq.mp (slabsVC_ok a) (by
  unfold slabsVC
  have h3 : ∀ c : Int, imin c 258 = if c ≤ 258 then c else 258 := fun c => by unfold imin; grind
  refine cP_intro (fun hb => ?_) (fun hb => ?_)
  · have := of_decide_eq_true hb
    simp [slabsM, this]
  · have := of_decide_eq_false hb
    have hm : 10 ≤ imin a 258 ∧ imin a 258 ≤ 258 := by rw [h3]; split <;> omega
    have hd : Int.tdiv (imin a 258 - 2) 8 = (imin a 258 - 2) / 8 := Int.tdiv_eq_ediv_of_nonneg (by omega)
    refine ⟨by unfold I64; omega, by omega, by rw [hd]; unfold I64; omega, (), trivial, by simp [slabsM, this], trivial⟩)
theorem rslabs_ok : CtrOk Try.prog 60 slabsC := det_end tt_ok mixed TblOk.nil anSlabs 200 5 (fun _ => rfl) (fun _ => rfl) fun a _ => Eq.mp (rslabsVC_ok a) (by
  unfold rslabsVC
  simp only [and_true, true_and]
  have h3 : ∀ c : Int, imin c 258 = if c ≤ 258 then c else 258 := fun c => by unfold imin; grind
  have hd : 10 ≤ a → Int.tdiv (imin a 258 - 2) 8 = (imin a 258 - 2) / 8 := fun h => Int.tdiv_eq_ediv_of_nonneg (by rw [h3]; split <;> omega)
  refine ⟨⟨0, ⟨by omega, .inl rfl⟩, rfl⟩, fun s hs => cP_intro (fun hb => ?_) (fun hb => ?_)⟩
  · have hb := of_decide_eq_true hb
    refine ⟨by unfold I64; omega, by unfold I64; omega, by unfold I64; omega, cP_intro (fun hc => ?_) (fun hc => ?_)⟩
    · have hc := of_decide_eq_true hc
      exact ⟨by unfold I64; omega, s + 1, ⟨by omega, .inr (by omega)⟩, by omega, rfl⟩
    · have hc := of_decide_eq_false hc
      refine ⟨(), ?_⟩
      unfold slabsM
      split
      · omega
      · rw [hd (by omega), h3]; split <;> omega
  · have hb := of_decide_eq_false hb
    refine ⟨(), ?_⟩
    unfold slabsM
    split
    · omega
    · rw [hd (by omega), h3]; split <;> omega)
def tblS : WTbl := [(59, ctrT slabsC), (60, ctrT slabsC)]
theorem tblS_ok : TblOk Try.prog tblS := .cons (ctrT_ok slabs_ok) (.cons (ctrT_ok rslabs_ok) .nil)
def rvN (a b : Int) : Int := if a < 10 then 0 else if a > 258 then 0 else imax 0 (imin b 258)
def rvS (a b : Int) : Int := if a < 10 then 0 else if a > 258 then 0 else 5 + imax 0 (imin b 258) + 8 * slabsM a
def rvF (a : Int) : Int := if a < 10 then 0 else if a > 258 then 0 else 2
def reviveC : Ctr := det (Int × Int) (fun p => [i64 p.1, i64 p.2]) 0 (fun _ => []) (fun _ => True) (fun p => .agg [i64 (rvS p.1 p.2), i64 (rvN p.1 p.2), i64 (rvN p.1 p.2), i64 (rvF p.1), i64 0, i64 0]) 0 (fun _ => [])
end Go.Proofs.Ytjndgegfonhhfaa
