/- A slice that came in, as a row. -/
import Derived.Test.YtpbdlibgbkhlhaaGreatV12
import Derived.Test.YtpbdlibgbkhlhaaGreatE19
namespace Go.Proofs.YtpbdlibgbkhlhaaGreat.SE
open Go
open Go.ChangeShapes Go.WideShapes Go.ChangeAt Go.RowKit
theorem open_row {H : Type} {enc : TypeId × Value → H} {P : Program} {W : World} {T : Nat → Prop} {t e : TypeId} {v : Value} {d : DataW H} {ps : List MemPlace} {α : Type} {f : α → List Value} {m : Nat} (a0 : α) (ok : α → Prop) (hf : ∀ a, (f a).length = m) (hm : 0 < m)
    (ht : P.underlying t = some (.slice e)) (hc : P.cellsOf e = m) (hok : Value.okWide P W .any 0 t v) (h : DataW.Trod enc P W 0 (fun _ => true) true t v d ps) (hT : ∀ b, b < W.heap.size → ¬ T b)
    (hel : ∀ fuel cs y, DataW.trod enc P W 0 (fun _ => true) true fuel e cs = some y → ∃ a, ok a ∧ cs = f a) :
    ∃ (c : Nat → α) (n : Nat) (a : Loc), n ≤ maxLen ∧ (∀ k, k < n → ok (c k)) ∧ (∀ (ρ : Ren) (i : Nat), ρ i = some a → VRel ρ (.slR i 0 m n) v) ∧ ∀ (ρ : Ren) (S : Nat → Prop), OHolds ρ W T a S (.ro (.row m n (fun k => f (c k)) [])) := by
  obtain ⟨x, cap, a, h1, h2, h3⟩ := open_rows ok hf hm ht hc hok h hT hel
  cases x with
  | none =>
    refine ⟨fun _ => a0, 0, a, Nat.zero_le _, fun k hk => by omega, fun ρ i hi => ?_, fun ρ S => .inl (by simp [Cs.size])⟩
    have := h2 ρ i hi
    simp only [argV, VRel] at this ⊢
    exact .inl ⟨trivial, this⟩
  | some l =>
    obtain ⟨g1, g2, g3⟩ := h1 l rfl
    refine ⟨fun k => l.getD k a0, l.length, a, Nat.le_trans g2 g3, fun k hk => g1 _ (by simp [hk]), fun ρ i hi => ?_, fun ρ S => ?_⟩
    · have := h2 ρ i hi
      simp only [argV, VRel] at this ⊢
      obtain ⟨a', ha', hv⟩ := this
      exact .inr ⟨a', _, cap, ha', hv, g2, fun _ => by simp⟩
    · have := h3 ρ S
      simp only [argO, OHolds, Cs.size] at this ⊢
      rcases this with h0 | ⟨hT', arr, e', f', hb, hcr⟩
      · left; rwa [flat_length hf] at h0
      · refine .inr ⟨hT', arr, e', f', hb, fun k u hk => ?_⟩
        have hlt := Cs.get_lt hk
        simp only [Cs.size] at hlt
        have hkl : k / m < l.length := Nat.div_lt_of_lt_mul (by rw [Nat.mul_comm]; exact hlt)
        have hg : l[k / m]? = some (l.getD (k / m) a0) := by simp [hkl]
        have hfl := flat_get (f := f) hf l (k / m) (k % m) _ hg (Nat.mod_lt _ hm)
        rw [Nat.div_add_mod'] at hfl
        simp only [Cs.get, nblt_iff.2 hlt, cond_true, Cs.eff] at hk
        split at hk
        · rename_i y hy
          cases hk
          refine hcr k (.lit y) ?_
          simp only [Cs.get, hfl, hy]
        · rename_i hy
          have : k % m < (f (l.getD (k / m) a0)).length := by rw [hf]; exact Nat.mod_lt _ hm
          rw [List.getElem?_eq_getElem this] at hy; cases hy
end Go.Proofs.YtpbdlibgbkhlhaaGreat.SE
