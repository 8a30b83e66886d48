import Derived.Test.YtjndgegfonhhfaaQa
import Derived.Test.YtjndgegfonhhfaaQb
import Derived.Test.YtjndgegfonhhfaaQc
import Derived.Test.YtjndgegfonhhfaaQd
import Derived.Test.YtjndgegfonhhfaaQe
section
/- Stores that are read: what is asked is so. -/
namespace Go.Proofs.Ytjndgegfonhhfaa
open Go SE
theorem eL (a b : BA) : (a.toList == b.toList) = eqB a b := rfl
theorem lL (a b : BA) : Op.bytesLess a.toList b.toList = lsB a b := rfl
theorem cntM_le (p : Nat → Bool) : ∀ n, cntM p n ≤ n
  | 0 => Nat.le_refl _
  | n + 1 => by have := cntM_le p n; simp only [cntM]; cases p n <;> simp <;> omega
theorem SK.ok.n {x : SK} (h : x.ok) : x.s.n ≤ 40 := h.1.1
theorem findVC_true (x : SK) (hx : x.ok) : findVC x := by
  unfold findVC
  have hn := hx.n
  have hk : ∀ k, k < x.s.n → (x.s.pk k).size < 1099511627776 := fun k h => by have := (hx.1.2.2.1 k h).1; omega
  have hkey : x.key.size < 1099511627776 := by have := hx.2; omega
  simp only [hd_iff, and_true, true_and, Nat.zero_add, Nat.add_zero, unit_ex, unit_all, true_implies, implies_true, Int.toNat_natCast, eq_self, and_self, eL, lL]
  refine ⟨⟨0, by omega, rfl, rfl⟩, fun i hi => cP_intro (fun hb => ?_) (fun hb => ?_)⟩
  · have hb := of_decide_eq_true hb
    have hl : i < x.s.n := by omega
    have hc := cntM_le (nearM x.s x.key) i
    refine ⟨⟨by omega, hb⟩, hl, cP_intro (fun h1 => ⟨_, hk i hl, rfl, _, hkey, rfl, cP_intro (fun h2 => ?_) (fun h2 => ?_)⟩) (fun h1 => ?_)⟩
    · have h2 := of_decide_eq_true h2
      exact ⟨by unfold I64; omega, by unfold I64; omega, i + 1, by omega, by omega, rfl, by simp [cntM, nearM, h1, h2]; omega⟩
    · have h2 := of_decide_eq_false h2
      exact ⟨by unfold I64; omega, i + 1, by omega, by omega, rfl, by simp [cntM, nearM, h1, h2]⟩
    · exact ⟨by unfold I64; omega, i + 1, by omega, by omega, rfl, by simp [cntM, nearM, h1]⟩
  · have : i = x.s.n := by have := of_decide_eq_false hb; omega
    subst this; rfl
theorem rfindVC_true (x : SK) (hx : x.ok) : rfindVC x := by
  unfold rfindVC
  have hn := hx.n
  have hk : ∀ k, k < x.s.n → (x.s.pk k).size < 1099511627776 := fun k h => by have := (hx.1.2.2.1 k h).1; omega
  have hkey : x.key.size < 1099511627776 := by have := hx.2; omega
  simp only [hd_iff, and_true, true_and, Nat.zero_add, Nat.add_zero, unit_ex, unit_all, true_implies, implies_true, Int.toNat_natCast, eq_self, and_self, eL, lL]
  refine ⟨⟨0, by omega, rfl, rfl⟩, fun i hi => cP_intro (fun hb => ?_) (fun hb => ?_)⟩
  · have hb := of_decide_eq_true hb
    have hl : i < x.s.n := by omega
    have hc := cntM_le (nearM x.s x.key) i
    refine ⟨⟨by omega, hb⟩, hl, cP_intro (fun h1 => ⟨_, hk i hl, rfl, _, hkey, rfl, cP_intro (fun h2 => ?_) (fun h2 => ?_)⟩) (fun h1 => ?_)⟩
    · have h2 := of_decide_eq_true h2
      exact ⟨by unfold I64; omega, by unfold I64; omega, i + 1, by omega, by omega, rfl, by simp [cntM, nearM, h1, h2]; omega⟩
    · have h2 := of_decide_eq_false h2
      exact ⟨by unfold I64; omega, i + 1, by omega, by omega, rfl, by simp [cntM, nearM, h1, h2]⟩
    · exact ⟨by unfold I64; omega, i + 1, by omega, by omega, rfl, by simp [cntM, nearM, h1]⟩
  · have : i = x.s.n := by have := of_decide_eq_false hb; omega
    subst this; rfl
/-! ### Ahead of a key -/
theorem runM_spec (p : Nat → Bool) : ∀ f i, runM p f i ≤ f ∧ (∀ j, j < runM p f i → p (i + j) = true) ∧ (runM p f i < f → p (i + runM p f i) = false)
  | 0, i => by simp [runM]
  | f + 1, i => by
    obtain ⟨h1, h2, h3⟩ := runM_spec p f (i + 1)
    cases hp : p i with
    | false => simp [runM, hp]
    | true =>
      simp only [runM, hp, cond_true]
      refine ⟨by omega, fun j hj => ?_, fun hlt => ?_⟩
      · cases j with
        | zero => exact hp
        | succ j => have := h2 j (by omega); rwa [show i + 1 + j = i + (j + 1) by omega] at this
      · have := h3 (by omega); rwa [show i + 1 + runM p f (i + 1) = i + (runM p f (i + 1) + 1) by omega] at this
theorem skN_le (lv : Nat → Int) (l : Int) (a : Nat) (n : Int) : ∀ j : Nat, n ≤ skN lv l a n j ∧ skN lv l a n j ≤ n + j
  | 0 => by simp [skN]
  | j + 1 => by have := skN_le lv l a n j; simp only [skN]; cases decide (l ≤ lv (a + j)) <;> simp <;> omega
theorem skA_le (lv : Nat → Int) (l : Int) (a : Nat) : ∀ j : Nat, skA lv l a j ≤ a + j
  | 0 => by simp [skA]
  | j + 1 => by have := skA_le lv l a j; simp only [skA]; cases decide (l ≤ lv (a + j)) <;> simp <;> omega
theorem skJ_spec (s : Shf) (key : BA) (a : Nat) : skJ s key a ≤ s.n - a ∧ (∀ j, j < skJ s key a → lsB (s.pk (a + j)) key = true) ∧ (skJ s key a < s.n - a → lsB (s.pk (a + skJ s key a)) key = false) := runM_spec _ _ _
theorem skS_le (s : Shf) (key : BA) : ∀ k : Nat, (skS s key k).2 ≤ s.n ∧ 0 ≤ (skS s key k).1 ∧ (skS s key k).1 ≤ k * (s.n + 1)
  | 0 => by simp [skS]
  | k + 1 => by
    obtain ⟨h1, h2, h3⟩ := skS_le s key k
    have g1 := skA_le (fun i => levelM (s.pk i)) (4 - k) (skS s key k).2 (skJ s key (skS s key k).2)
    have g2 := skN_le (fun i => levelM (s.pk i)) (4 - k) (skS s key k).2 ((skS s key k).1 + 1) (skJ s key (skS s key k).2)
    have g3 := (skJ_spec s key (skS s key k).2).1
    simp only [skS, skAx, skNx]
    have e : ((k + 1 : Nat) : Int) * ((s.n : Int) + 1) = (k : Int) * ((s.n : Int) + 1) + s.n + 1 := by rw [Int.natCast_add, Int.add_mul]; omega
    rw [e]
    omega
theorem seekVC_true (x : SK) (hx : x.ok) : seekVC x := by
  unfold seekVC
  have hn := hx.n
  have hk : ∀ k, k < x.s.n → (x.s.pk k).size < 1099511627776 := fun k h => by have := (hx.1.2.2.1 k h).1; omega
  simp only [hd_iff, and_true, true_and, Nat.zero_add, Nat.add_zero, unit_ex, unit_all, true_implies, implies_true, Int.toNat_natCast, eq_self, and_self, eL, lL]
  refine ⟨⟨0, by omega, by omega, rfl, rfl⟩, fun k hk4 => cP_intro (fun hb => ?_) (fun hb => ?_)⟩
  · have hb := of_decide_eq_true hb
    obtain ⟨l1, l2, l3⟩ := skS_le x.s x.key k
    have l4 : (k : Int) * ((x.s.n : Int) + 1) ≤ 4 * 41 := by
      have h : k * (x.s.n + 1) ≤ 4 * 41 := Nat.mul_le_mul hk4 (by omega)
      have : ((k * (x.s.n + 1) : Nat) : Int) ≤ ((4 * 41 : Nat) : Int) := Int.ofNat_le.2 h
      simpa using this
    have e4 : skS x.s x.key (k + 1) = (skNx x.s x.key (4 - k) (skS x.s x.key k).2 (skS x.s x.key k).1, skAx x.s x.key (4 - k) (skS x.s x.key k).2) := rfl
    revert e4 l1 l2 l3
    generalize skS x.s x.key k = z
    obtain ⟨n0, a0⟩ := z
    intro l1 l2 l3 e4
    dsimp only at l1 l2 l3 e4 ⊢
    obtain ⟨j1, j2, j3⟩ := skJ_spec x.s x.key a0
    refine ⟨by unfold I64; omega, ⟨0, by omega, rfl, rfl, rfl⟩, fun j hj => ?_⟩
    have hN := skN_le (fun i => levelM (x.s.pk i)) (4 - k) a0 (n0 + 1) j
    have hA := skA_le (fun i => levelM (x.s.pk i)) (4 - k) a0 j
    have next : I64 (4 - (k : Int) - 1) ∧ (j = skJ x.s x.key a0 → ∃ y : Nat, y ≤ 4 ∧ 4 - y < 4 - k ∧ (4 - (y : Int) = 4 - (k : Int) - 1 ∧ (skS x.s x.key y).1 = skN (fun i => levelM (x.s.pk i)) (4 - k) a0 (n0 + 1) j ∧ ((skS x.s x.key y).2 : Int) = (skA (fun i => levelM (x.s.pk i)) (4 - k) a0 j : Nat))) := by
      refine ⟨by unfold I64; omega, fun hj => ⟨k + 1, by omega, by omega, by omega, ?_, ?_⟩⟩
      · rw [e4]; subst hj; rfl
      · rw [e4]; subst hj; rfl
    refine cP_intro (fun hb => ?_) (fun hb => ?_)
    · have hb := of_decide_eq_true hb
      refine ⟨⟨by omega, hb⟩, by omega, cP_intro (fun h1 => ?_) (fun h1 => ?_)⟩
      · have hjlt : j < skJ x.s x.key a0 := by
          rcases Nat.lt_or_ge j (skJ x.s x.key a0) with h | h
          · exact h
          · have : j = skJ x.s x.key a0 := by omega
            subst this
            rw [j3 (by omega)] at h1; cases h1
        refine ⟨⟨by omega, hb⟩, by omega, _, hk _ (by omega), rfl, cP_intro (fun h2 => ?_) (fun h2 => ?_)⟩
        · have h2 := of_decide_eq_true h2
          exact ⟨by unfold I64; omega, by unfold I64; omega, by unfold I64; omega, j + 1, by omega, by omega, by omega, by simp [skN, show (4 : Int) - k ≤ levelM (x.s.pk (a0 + j)) from h2], by simp [skA, show (4 : Int) - k ≤ levelM (x.s.pk (a0 + j)) from h2]⟩
        · have h2 := of_decide_eq_false h2
          exact ⟨by unfold I64; omega, j + 1, by omega, by omega, by omega, by simp [skN, show ¬ (4 : Int) - k ≤ levelM (x.s.pk (a0 + j)) from h2], by simp [skA, show ¬ (4 : Int) - k ≤ levelM (x.s.pk (a0 + j)) from h2]⟩
      · have hjeq : j = skJ x.s x.key a0 := by
          rcases Nat.lt_or_ge j (skJ x.s x.key a0) with h | h
          · rw [j2 j h] at h1; cases h1
          · omega
        exact ⟨next.1, next.2 hjeq⟩
    · have hb := of_decide_eq_false hb
      exact ⟨next.1, next.2 (by omega)⟩
  · have : k = 4 := by have := of_decide_eq_false hb; omega
    subst this; rfl
theorem rseekVC_true (x : SK) (hx : x.ok) : rseekVC x := by
  have h := seekVC_true x hx
  unfold seekVC at h
  unfold rseekVC
  exact h
/-! ### Rising keys -/
theorem mayM_true {s : Shf} (h : ∀ j, j < s.n → 1 ≤ j → lsB (s.pk (j - 1)) (s.pk j) = true) : mayM s = true := decide_eq_true h
theorem mayM_false {s : Shf} {j : Nat} (h1 : j < s.n) (h2 : 1 ≤ j) (h : lsB (s.pk (j - 1)) (s.pk j) = false) : mayM s = false := decide_eq_false fun hh => by rw [hh j h1 h2] at h; cases h
theorem mayVC_true (s : Shf) (hs : s.small) : mayVC s := by
  unfold mayVC
  have hn := hs.1
  simp only [hd_iff, and_true, true_and, Nat.zero_add, Nat.add_zero, unit_ex, unit_all, true_implies, implies_true, Int.toNat_natCast, eq_self, and_self, eL, lL]
  refine ⟨⟨0, ⟨by omega, fun j hj => by omega⟩, rfl⟩, fun i ⟨hi, hall⟩ => cP_intro (fun hb => ?_) (fun hb => ?_)⟩
  · have hb := of_decide_eq_true hb
    have hl : i < s.n := by omega
    refine ⟨⟨by omega, hb⟩, hl, cP_intro (fun h1 => ?_) (fun h1 => ?_)⟩
    · have h1 := of_decide_eq_true h1
      have e : ((i : Int) - 1).toNat = i - 1 := by omega
      rw [e]
      refine ⟨by unfold I64; omega, ⟨by omega, by omega⟩, by omega, cP_intro (fun h2 => ?_) (fun h2 => ?_)⟩
      · exact mayM_false hl (by omega) (by simpa using h2)
      · have h2 : lsB (s.pk (i - 1)) (s.pk i) = true := by simpa using h2
        refine ⟨by unfold I64; omega, i + 1, ⟨by omega, fun j hj hj1 => ?_⟩, by omega, rfl⟩
        rcases Nat.lt_or_ge j i with h | h
        · exact hall j h hj1
        · have : j = i := by omega
          subst this; exact h2
    · have h1 := of_decide_eq_false h1
      exact ⟨by unfold I64; omega, i + 1, ⟨by omega, fun j hj hj1 => by omega⟩, by omega, rfl⟩
  · have : i = s.n := by have := of_decide_eq_false hb; omega
    subst this; exact mayM_true hall
theorem rmayVC_true (s : Shf) (hs : s.small) : rmayVC s := by
  unfold rmayVC
  have hn := hs.1
  simp only [hd_iff, and_true, true_and, Nat.zero_add, Nat.add_zero, unit_ex, unit_all, true_implies, implies_true, Int.toNat_natCast, eq_self, and_self, eL, lL]
  refine ⟨⟨1, ⟨by omega, by omega, fun j hj => by omega⟩, rfl⟩, fun i ⟨hi1, hi, hall⟩ => cP_intro (fun hb => ?_) (fun hb => ?_)⟩
  · have hb := of_decide_eq_true hb
    have hl : i < s.n := by omega
    have e : ((i : Int) - 1).toNat = i - 1 := by omega
    rw [e]
    refine ⟨by unfold I64; omega, ⟨by omega, by omega⟩, by omega, ⟨by omega, by omega⟩, by omega, cP_intro (fun h2 => ?_) (fun h2 => ?_)⟩
    · exact mayM_false hl (by omega) (by simpa using h2)
    · have h2 : lsB (s.pk (i - 1)) (s.pk i) = true := by simpa using h2
      refine ⟨by unfold I64; omega, i + 1, ⟨by omega, by omega, fun j hj hj1 => ?_⟩, by omega, rfl⟩
      rcases Nat.lt_or_ge j i with h | h
      · exact hall j h hj1
      · have : j = i := by omega
        subst this; exact h2
  · have hb := of_decide_eq_false hb
    exact mayM_true fun j hj hj1 => hall j (by omega) hj1
/-! ### Where a key's pair is -/
theorem firstM_at {p : Nat → Bool} {n : Nat} : ∀ {f i j : Nat}, i + f = n → i ≤ j → j < n → (∀ k, i ≤ k → k < j → p k = false) → p j = true → firstM p n f i = j
  | 0, i, j, h1, h2, h3, _, _ => by omega
  | f + 1, i, j, h1, h2, h3, h4, h5 => by
    simp only [firstM]
    rcases Nat.lt_or_ge i j with h | h
    · rw [h4 i (Nat.le_refl _) h, cond_false]
      exact firstM_at (by omega) (by omega) h3 (fun k hk => h4 k (by omega)) h5
    · have : i = j := by omega
      subst this; rw [h5, cond_true]
theorem firstM_none {p : Nat → Bool} {n : Nat} : ∀ {f i : Nat}, i + f = n → (∀ k, i ≤ k → k < n → p k = false) → firstM p n f i = n
  | 0, _, _, _ => rfl
  | f + 1, i, h1, h4 => by
    simp only [firstM]
    rw [h4 i (Nat.le_refl _) (by omega), cond_false]
    exact firstM_none (by omega) (fun k hk => h4 k (by omega))
theorem place_at {s : Shf} {key : BA} {i : Nat} (hi : i < s.n) (h : ∀ j, j < i → eqB (s.pk j) key = false) (hp : eqB (s.pk i) key = true) : placeM s key = i ∧ hadM s key = true := by
  have : placeM s key = i := firstM_at (p := fun i => eqB (s.pk i) key) (by omega) (Nat.zero_le _) hi (fun k _ hk => h k hk) hp
  exact ⟨this, by unfold hadM; rw [this]; exact decide_eq_true hi⟩
theorem place_none {s : Shf} {key : BA} (h : ∀ j, j < s.n → eqB (s.pk j) key = false) : hadM s key = false := by
  have : placeM s key = s.n := firstM_none (p := fun i => eqB (s.pk i) key) (by omega) (fun k _ hk => h k hk)
  unfold hadM; rw [this]; simp
theorem placeVC_true (x : SK) (hx : x.ok) : placeVC x := by
  unfold placeVC
  have hn := hx.n
  simp only [hd_iff, and_true, true_and, Nat.zero_add, Nat.add_zero, unit_ex, unit_all, true_implies, implies_true, Int.toNat_natCast, eq_self, and_self, eL, lL]
  refine ⟨⟨0, ⟨by omega, fun j hj => by omega⟩, rfl⟩, fun i ⟨hi, hall⟩ => cP_intro (fun hb => ?_) (fun hb => ?_)⟩
  · have hb := of_decide_eq_true hb
    have hl : i < x.s.n := by omega
    refine ⟨⟨by omega, hb⟩, hl, cP_intro (fun h1 => ?_) (fun h1 => ?_)⟩
    · obtain ⟨e1, e2⟩ := place_at hl hall h1
      simp [placeI, e1, e2]
    · refine ⟨by unfold I64; omega, i + 1, ⟨by omega, fun j hj => ?_⟩, by omega, rfl⟩
      rcases Nat.lt_or_ge j i with h | h
      · exact hall j h
      · have : j = i := by omega
        subst this; exact h1
  · have : i = x.s.n := by have := of_decide_eq_false hb; omega
    subst this
    simp [placeI, place_none hall]
theorem getVC_true (x : SK) (hx : x.ok) : getVC x := by
  unfold getVC
  simp only [hd_iff, and_true, true_and, Nat.zero_add, Nat.add_zero, unit_ex, unit_all, true_implies, implies_true, Int.toNat_natCast, eq_self, and_self, eL, lL]
  refine ⟨x, hx, ⟨⟨rfl, rfl⟩, rfl⟩, ⟨⟨rfl, fun _ _ => rfl⟩, rfl, fun _ _ => rfl⟩, ?_⟩
  have hlt : hadM x.s x.key = true → placeM x.s x.key < x.s.n := of_decide_eq_true
  cases hh : hadM x.s x.key with
  | true =>
    have := hlt hh
    refine cP_intro (fun h => ?_) (fun h => ?_)
    · have := of_decide_eq_true h
      simp [placeI, hh] at this
      omega
    · simp [placeI, getM, hh]; omega
  | false =>
    refine cP_intro (fun h => ?_) (fun h => ?_)
    · simp [getM, hh]
    · have := of_decide_eq_false h
      simp [placeI, hh] at this
theorem rgetVC_true (x : SK) (hx : x.ok) : rgetVC x := by
  unfold rgetVC
  have hn := hx.n
  simp only [hd_iff, and_true, true_and, Nat.zero_add, Nat.add_zero, unit_ex, unit_all, true_implies, implies_true, Int.toNat_natCast, eq_self, and_self, eL, lL]
  refine ⟨⟨0, ⟨by omega, fun j hj => by omega⟩, rfl⟩, fun i ⟨hi, hall⟩ => cP_intro (fun hb => ?_) (fun hb => ?_)⟩
  · have hb := of_decide_eq_true hb
    have hl : i < x.s.n := by omega
    refine ⟨⟨by omega, hb⟩, hl, cP_intro (fun h1 => ?_) (fun h1 => ?_)⟩
    · obtain ⟨e1, e2⟩ := place_at hl hall h1
      exact ⟨⟨by omega, hb⟩, hl, by simp [getM, e1, e2], e2⟩
    · refine ⟨by unfold I64; omega, i + 1, ⟨by omega, fun j hj => ?_⟩, by omega, rfl⟩
      rcases Nat.lt_or_ge j i with h | h
      · exact hall j h
      · have : j = i := by omega
        subst this; exact h1
  · have : i = x.s.n := by have := of_decide_eq_false hb; omega
    subst this
    have := place_none hall
    simp [getM, this]
end Go.Proofs.Ytjndgegfonhhfaa
end
section
/- Good calls; calls and stores that are gone through: contracts. -/
namespace Go.Proofs.Ytjndgegfonhhfaa
open Go SE
noncomputable section
def Cll.os (c : Cll) : List AObj := [.ro (rowG c)]
def keyedC : Ctr := det Int (fun k => [i64 k]) 0 (fun _ => []) (fun _ => True) (fun k => boo (keyedM k)) 0 (fun _ => [])
def groupedC : Ctr := det Int (fun k => [i64 k]) 0 (fun _ => []) (fun _ => True) (fun k => boo (groupedM k)) 0 (fun _ => [])
def shapeC : Ctr := det Cll (fun c => [c.av 0]) 1 Cll.os (fun c => c.gn < 1099511627776) (fun c => boo (shapeM c)) 1 Cll.os
def longMemC : Ctr := det Mem (fun x => [x.av]) 0 (fun _ => []) (fun _ => True) (fun x => boo (longK x.kind x.key x.value x.to)) 0 (fun _ => [])
def longC : Ctr := det Cll (fun c => [c.av 0]) 1 Cll.os (fun c => Hd c.small) (fun c => boo (longM c)) 1 Cll.os
def goodC : Ctr := det Cll (fun c => [c.av 0]) 1 Cll.os (fun c => Hd c.small) (fun c => i64 (goodM c)) 1 Cll.os
def rshapeK (k : Int) (key : BA) : Int := bif keyedM k then b2i (emp key) else bif decide (k = 4) || decide (k = 5) || decide (k = 6) || decide (k = 8) then 0 else 1
def rshapeMemC : Ctr := det Mem (fun x => [x.av, boo true]) 0 (fun _ => []) (fun _ => True) (fun x => i64 (rshapeK x.kind x.key)) 0 (fun _ => [])
def rshapeC : Ctr := det Cll (fun c => [c.av 0, boo false]) 1 Cll.os (fun c => Hd c.small) (fun c => i64 (b2i (!shapeM c))) 1 Cll.os
def weightC : Ctr := { X := Cll, args := fun c => [c.av 0, i64 1500], k := 1, os := Cll.os, pre := fun _ => True, outs := [{ Y := Int, post := fun c y => Hd (y ≤ 1500 → c.small), ret := fun _ y => i64 y, m := 1, os := fun c _ => c.os }] }
def greatC : Ctr := { X := Shf, args := fun s => [s.av 0 1], k := 2, os := Shf.os, pre := fun _ => True, outs := [{ Y := Bool, post := fun s y => Hd (y = false → s.small), ret := fun _ y => boo y, m := 2, os := fun s _ => s.os }] }
def invMs (c : Cll) (i : Nat) : Prop := ∀ j, j < i → memOk c.g j = true
def clash (c : Cll) (i j : Nat) : Bool := keyedM (c.g i).kind && keyedM (c.g j).kind && eqB (c.g i).key (c.g j).key
def invJ (c : Cll) (i j : Nat) : Prop := ∀ q, q < j → clash c i q = false
def invLong (c : Cll) (i : Nat) : Prop := ∀ j, j < i → longK (c.g j).kind (c.g j).key (c.g j).value (c.g j).to = false
def invW (c : Cll) (p : Nat × Int) : Prop := 0 ≤ p.2 ∧ p.2 ≤ 4500 * (p.1 + 1) ∧ ∀ k, k < p.1 → (c.g k).small
def invG (s : Shf) (i : Nat) : Prop := ∀ k, k < i → (s.pk k).size ≤ 600 ∧ (s.pv k).size ≤ 600
def invQ (s : Shf) (i : Nat) : Prop := ∀ k, k < i → (s.qv k).size ≤ 600
def anShape (c : Cll) : FuncId → Anns := fun f => bif Nat.beq f 53 then (fun b fr _ =>
  bif Nat.beq b 0 then [{ σ := Nat, fr := fun i => [(41, i64 i)], ob := fun _ => [], inv := fun i => i ≤ c.gn ∧ Hd (invMs c i), meas := fun i => c.gn - i }] else
  bif Nat.beq b 2 then [{ σ := Nat, fr := fun j => [(65, i64 j)], ob := fun _ => [], inv := fun j => j ≤ (intAt fr 3).toNat ∧ Hd (invJ c (intAt fr 3).toNat j), meas := fun j => (intAt fr 3).toNat - j }] else []) else fun _ _ _ => []
def anLong (c : Cll) : FuncId → Anns := loopN 109 0 (fun i => [(8, i64 i)]) (fun i => Hd (invLong c i)) c.gn
def anRLong (c : Cll) : FuncId → Anns := loopN 73 1 (fun i => [(3, i64 i)]) (fun i => Hd (invLong c i)) c.gn
def anRShape (c : Cll) : FuncId → Anns := fun f => bif Nat.beq f 72 then (fun b fr _ =>
  bif Nat.beq b 1 then [{ σ := Nat, fr := fun i => [(5, i64 i)], ob := fun _ => [], inv := fun i => i ≤ c.gn ∧ Hd (invMs c i), meas := fun i => c.gn - i }] else
  bif Nat.beq b 3 then [{ σ := Nat, fr := fun j => [(7, i64 j)], ob := fun _ => [], inv := fun j => j ≤ (intAt fr 5).toNat ∧ Hd (invJ c (intAt fr 5).toNat j), meas := fun j => (intAt fr 5).toNat - j }] else []) else fun _ _ _ => []
def anWeight (c : Cll) : FuncId → Anns := fun f => bif Nat.beq f 10 then (fun b _ _ =>
  bif Nat.beq b 0 then [{ σ := Nat × Int, fr := fun p => [(6, i64 p.1), (5, i64 p.2)], ob := fun _ => [], inv := fun p => p.1 ≤ c.gn ∧ Hd (invW c p), meas := fun p => c.gn - p.1 }] else []) else fun _ _ _ => []
def anGreat (s : Shf) : FuncId → Anns := fun f => bif Nat.beq f 9 then (fun b _ _ =>
  bif Nat.beq b 0 then [{ σ := Nat, fr := fun i => [(3, i64 i)], ob := fun _ => [], inv := fun i => i ≤ s.n ∧ Hd (invG s i), meas := fun i => s.n - i }] else
  bif Nat.beq b 2 then [{ σ := Nat, fr := fun i => [(4, i64 i)], ob := fun _ => [], inv := fun i => i ≤ s.m ∧ Hd (invQ s i), meas := fun i => s.m - i }] else []) else fun _ _ _ => []
end
end Go.Proofs.Ytjndgegfonhhfaa
end
