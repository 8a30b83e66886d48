/- Loops by what holds at their heads; code; functions. -/
import Derived.Test.YtpbdlibgbkhlhaaGreatV9
namespace Go.Proofs.YtpbdlibgbkhlhaaGreat.SE
open Go

theorem eqO_soft {τ : Tau} {N : Nat} {o : AObj} {x : Option AObj} (hn : obelow N o = true) (h : eqO τ o x) : ∃ o', x = some o' ∧ Soft (tau τ) N o o' := by
  have low : ∀ {c : Cs} {ρ ρ0 : Ren} {arr : Array Value} {b : Nat}, cbelow 0 c = true → CRel ρ c arr b → CRel ρ0 c arr b := fun hc hr k v hk => by
    obtain ⟨u, hu, hv⟩ := hr k v hk
    exact ⟨u, hu, vbelow0 (cbelow_get hc hk) hv⟩
  unfold eqO at h
  split at h
  · rename_i e c e' c'
    cases hb : Nat.beq e e' <;> rw [hb] at h
    · exact h.elim
    · simp only [cond_true] at h
      have := Nat.eq_of_beq_eq_true hb; subst this
      refine ⟨_, rfl, fun ρ ρ0 w T a S hρ ⟨h0, hS, arr, h1, h2, h3, h4⟩ => ⟨h0, hS, arr, h1, by rw [eqC_size h]; exact h2, by rw [eqC_size h]; exact h3, eqC_ok hρ hn h (by omega) h4⟩⟩
  · rename_i e c e' c'
    cases hb : Nat.beq e e' <;> rw [hb] at h
    · exact h.elim
    · simp only [cond_true] at h
      have := Nat.eq_of_beq_eq_true hb; subst this
      refine ⟨_, rfl, fun ρ ρ0 w T a S hρ ⟨h0, hS, arr, h1, h2, h3, h4⟩ => ⟨h0, hS, arr, h1, h2, by rw [eqC_size h]; exact h3, eqC_ok hρ hn h (by omega) h4⟩⟩
  · rename_i e c e' c'
    cases hb : Nat.beq e e' <;> rw [hb] at h
    · exact h.elim
    · simp only [cond_true] at h
      have := Nat.eq_of_beq_eq_true hb; subst this
      refine ⟨_, rfl, fun ρ ρ0 w T a S hρ ⟨h0, hS, arr, h1, h2, h3, h4⟩ => ⟨h0, hS, arr, h1, by omega, by rw [eqC_size h]; omega, eqC_ok hρ hn h (by omega) h4⟩⟩
  · rename_i l m
    refine ⟨_, rfl, fun ρ ρ0 w T a S hρ ho => ho.imp (fun h0 => ?_) fun ⟨hT, arr, e, f, h1, h2⟩ => ⟨hT, arr, e, f, h1, eqC_av hρ hn h h2⟩⟩
    simp only [Cs.size] at h0 ⊢
    rw [eqL_len h]; exact h0
  · obtain ⟨rfl, hc⟩ := h
    exact ⟨_, rfl, fun ρ ρ0 w T a S hρ ho => ho.imp id fun ⟨hT, arr, e, f, h1, h2⟩ => ⟨hT, arr, e, f, h1, low hc h2⟩⟩
  · rename_i es cl es' cl'
    obtain ⟨rfl, rfl, hb⟩ := h
    refine ⟨_, rfl, fun ρ ρ0 w T a S hρ ⟨hS, arr, h1, h2⟩ => ⟨hS, arr, h1, ?_⟩⟩
    have : ∀ (es : List (AV × AV × Nat)) (l : List MapEntry), (es.all fun x => vbelow 0 x.1 && vbelow 0 x.2.1) = true → MRel ρ es l → MRel ρ0 es l := by
      intro es
      induction es with
      | nil => intro l _ h; exact h
      | cons x es ih =>
        rintro l hb ⟨e, l', rfl, q1, q2, q3, q4⟩
        simp only [List.all_cons, Bool.and_eq_true] at hb
        exact ⟨e, l', rfl, vbelow0 hb.1.1 q1, vbelow0 hb.1.2 q2, q3, ih l' hb.2 q4⟩
    exact this _ _ hb h2
  · subst h
    exact ⟨_, rfl, fun ρ ρ0 w T a S hρ ho => ho⟩
  · exact h.elim

theorem St.sub2 {k n : Nat} {ρ : Ren} {T : Nat → Prop} {fr fr' : Fr} {h h' : Heap} {a : Act} {w : World} (hs : St k n ρ T fr h a w) (τ : Nat → Nat) (hτk : ∀ i, i < k → τ i = i) (hk : k ≤ h'.next)
    (hinj : ∀ i j, i < h'.next → j < h'.next → τ i = τ j → i = j) (hobj : ∀ i o0, h'.get i = some o0 → i < h'.next ∧ ∃ o, h.get (τ i) = some o ∧ Soft τ h'.next o0 o)
    (hfr : ∀ t, ∀ (ρ ρ0 : Ren) u, (∀ i, i < h'.next → ρ0 i = ρ (τ i)) → VRel ρ (look fr t) u → VRel ρ0 (look fr' t) u) : ∃ ρ', (∀ i, i < k → ρ' i = ρ i) ∧ St k n ρ' T fr' h' a w := by
  obtain ⟨S, h1, h2, h3, h4, h5⟩ := hs.rel
  let ρ' : Ren := fun i => if i < h'.next then ρ (τ i) else none
  have hρ : ∀ i, i < h'.next → ρ' i = ρ (τ i) := fun i hi => by simp [ρ', hi]
  refine ⟨ρ', fun i hi => by rw [hρ i (by omega), hτk i hi], hk, ⟨fun i => S (τ i), fun i o0 hi => ?_, fun i j o o' b hi hj hij hSi hSj => ?_, fun i o0 b hi hS => ?_, fun i hi => by simp [ρ']; omega, h5⟩, ⟨hs.fr.size, hs.fr.defers, fun t => ?_⟩⟩
  · obtain ⟨hlt, o, ho, hsoft⟩ := hobj i o0 hi
    obtain ⟨x, hx, hh⟩ := h1 _ o ho
    exact ⟨x, by rw [hρ i hlt]; exact hx, hsoft ρ ρ' w T x _ hρ hh⟩
  · obtain ⟨hlt, x, hx, _⟩ := hobj i o hi
    obtain ⟨hlt', y, hy, _⟩ := hobj j o' hj
    exact h2 _ _ x y b hx hy (fun he => hij (hinj i j hlt hlt' he)) hSi hSj
  · obtain ⟨hlt, x, hx, _⟩ := hobj i o0 hi
    exact h3 _ x b hx hS
  · exact hfr t ρ ρ' _ hρ (hs.fr.vals t)

/-- The renaming gives new numbers to some of those from k on. -/
def tauOk (k N : Nat) (τ : Tau) : Bool := τ.all (fun p => Nat.ble k p.1 && Nat.ble N p.2) && distinct (τ.map (·.2))
where
  distinct : List Nat → Bool
    | [] => true
    | x :: l => l.all (fun y => !Nat.beq x y) && distinct l
theorem tau_cases (τ : Tau) (i : Nat) : tau τ i = i ∨ ∃ p ∈ τ, p.1 = i ∧ p.2 = tau τ i := by
  induction τ with
  | nil => exact .inl rfl
  | cons p τ ih =>
    simp only [tau]
    cases hb : Nat.beq p.1 i with
    | true => exact .inr ⟨p, by simp, Nat.eq_of_beq_eq_true hb, rfl⟩
    | false =>
      rcases ih with h | ⟨q, hq, h1, h2⟩
      · exact .inl h
      · exact .inr ⟨q, by simp [hq], h1, h2⟩
theorem distinct_inj {τ : Tau} (h : tauOk.distinct (τ.map (·.2)) = true) : ∀ p ∈ τ, ∀ q ∈ τ, p.2 = q.2 → p = q := by
  induction τ with
  | nil => intro p hp; cases hp
  | cons x τ ih =>
    simp only [List.map_cons, tauOk.distinct, Bool.and_eq_true, List.all_eq_true, Bool.not_eq_true'] at h
    obtain ⟨h1, h2⟩ := h
    have ne : ∀ y ∈ τ, x.2 ≠ y.2 := fun y hy he => by
      have := h1 y.2 (List.mem_map_of_mem hy)
      rw [he, Nat.beq_refl] at this; cases this
    intro p hp q hq he
    rcases List.mem_cons.1 hp with hp1 | hp1
    · rcases List.mem_cons.1 hq with hq1 | hq1
      · rw [hp1, hq1]
      · exact (ne q hq1 (by rw [← hp1]; exact he)).elim
    · rcases List.mem_cons.1 hq with hq1 | hq1
      · exact (ne p hp1 (by rw [← hq1]; exact he.symm)).elim
      · exact ih h2 p hp1 q hq1 he
theorem tauOk_spec {k N : Nat} {τ : Tau} (h : tauOk k N τ = true) : (∀ i, i < k → tau τ i = i) ∧ ∀ i j, i < N → j < N → tau τ i = tau τ j → i = j := by
  simp only [tauOk, Bool.and_eq_true, List.all_eq_true, Nat.ble_eq] at h
  obtain ⟨h1, h2⟩ := h
  refine ⟨fun i hi => ?_, fun i j hi hj he => ?_⟩
  · rcases tau_cases τ i with h | ⟨p, hp, h3, _⟩
    · exact h
    · have := (h1 p hp).1; omega
  · rcases tau_cases τ i with ha | ⟨p, hp, h3, h4⟩ <;> rcases tau_cases τ j with hb | ⟨q, hq, h5, h6⟩
    · omega
    · have := (h1 q hq).2; omega
    · have := (h1 p hp).2; omega
    · have := distinct_inj h2 p hp q hq (by omega)
      subst this; omega
mutual
/-- Numbers below N that stay. -/
def vsame (N : Nat) (τ : Tau) : AV → Bool
  | .any => true
  | .lit _ => true
  | .ptr i _ => Nat.blt i N && Nat.beq (tau τ i) i
  | .sl i _ _ _ => Nat.blt i N && Nat.beq (tau τ i) i
  | .slU i _ _ _ => Nat.blt i N && Nat.beq (tau τ i) i
  | .ptrE i _ _ _ => Nat.blt i N && Nat.beq (tau τ i) i
  | .slE i _ _ _ _ => Nat.blt i N && Nat.beq (tau τ i) i
  | .slW i _ _ _ => Nat.blt i N && Nat.beq (tau τ i) i
  | .slR i _ _ _ => Nat.blt i N && Nat.beq (tau τ i) i
  | .slZ _ i _ _ _ => Nat.blt i N && Nat.beq (tau τ i) i
  | .one => true
  | .mp i => Nat.blt i N && Nat.beq (tau τ i) i
  | .fn _ a b => lsame N τ a && lsame N τ b
  | .agg l => lsame N τ l
  | .tup l => lsame N τ l
  | .ifc _ v => vsame N τ v
def lsame (N : Nat) (τ : Tau) : List AV → Bool
  | [] => true
  | a :: l => vsame N τ a && lsame N τ l
end
mutual
theorem vsame_ok {N : Nat} {τ : Tau} {ρ ρ0 : Ren} (hρ : ∀ i, i < N → ρ0 i = ρ (tau τ i)) : ∀ (v : AV) (u : Value), vsame N τ v = true → VRel ρ v u → VRel ρ0 v u
  | .any, _, _, _ => by simp only [VRel]
  | .lit _, _, _, h => by simpa only [VRel] using h
  | .ptr i o, u, hs, h => by simp only [vsame, Bool.and_eq_true] at hs; have e := hρ i (nblt_iff.1 hs.1); rw [Nat.eq_of_beq_eq_true hs.2] at e; simp only [VRel, e] at h ⊢; exact h
  | .sl i o n c, u, hs, h => by simp only [vsame, Bool.and_eq_true] at hs; have e := hρ i (nblt_iff.1 hs.1); rw [Nat.eq_of_beq_eq_true hs.2] at e; simp only [VRel, e] at h ⊢; exact h
  | .slU i o n c, u, hs, h => by simp only [vsame, Bool.and_eq_true] at hs; have e := hρ i (nblt_iff.1 hs.1); rw [Nat.eq_of_beq_eq_true hs.2] at e; simp only [VRel, e] at h ⊢; exact h
  | .ptrE i k m j, u, hs, h => by simp only [vsame, Bool.and_eq_true] at hs; have e := hρ i (nblt_iff.1 hs.1); rw [Nat.eq_of_beq_eq_true hs.2] at e; simp only [VRel, e] at h ⊢; exact h
  | .slE i k m n c, u, hs, h => by simp only [vsame, Bool.and_eq_true] at hs; have e := hρ i (nblt_iff.1 hs.1); rw [Nat.eq_of_beq_eq_true hs.2] at e; simp only [VRel, e] at h ⊢; exact h
  | .slW i k m n, u, hs, h => by simp only [vsame, Bool.and_eq_true] at hs; have e := hρ i (nblt_iff.1 hs.1); rw [Nat.eq_of_beq_eq_true hs.2] at e; simp only [VRel, e] at h ⊢; exact h
  | .slR i k m n, u, hs, h => by simp only [vsame, Bool.and_eq_true] at hs; have e := hρ i (nblt_iff.1 hs.1); rw [Nat.eq_of_beq_eq_true hs.2] at e; simp only [VRel, e] at h ⊢; exact h
  | .slZ z i k m n, u, hs, h => by simp only [vsame, Bool.and_eq_true] at hs; have e := hρ i (nblt_iff.1 hs.1); rw [Nat.eq_of_beq_eq_true hs.2] at e; simp only [VRel, e] at h ⊢; exact h
  | .one, u, hs, h => by simpa only [VRel] using h
  | .mp i, u, hs, h => by simp only [vsame, Bool.and_eq_true] at hs; have e := hρ i (nblt_iff.1 hs.1); rw [Nat.eq_of_beq_eq_true hs.2] at e; simp only [VRel, e] at h ⊢; exact h
  | .fn f a b, u, hs, h => by
    simp only [vsame, Bool.and_eq_true] at hs
    simp only [VRel] at h ⊢
    obtain ⟨x, y, hv, h1, h2⟩ := h
    exact ⟨x, y, hv, lsame_ok hρ _ _ hs.1 h1, lsame_ok hρ _ _ hs.2 h2⟩
  | .agg l, u, hs, h => by
    simp only [vsame] at hs
    simp only [VRel] at h ⊢
    obtain ⟨x, hv, h1⟩ := h
    exact ⟨x, hv, lsame_ok hρ _ _ hs h1⟩
  | .tup l, u, hs, h => by
    simp only [vsame] at hs
    simp only [VRel] at h ⊢
    obtain ⟨x, hv, h1⟩ := h
    exact ⟨x, hv, lsame_ok hρ _ _ hs h1⟩
  | .ifc t v, u, hs, h => by
    simp only [vsame] at hs
    simp only [VRel] at h ⊢
    obtain ⟨x, hv, h1⟩ := h
    exact ⟨x, hv, vsame_ok hρ _ _ hs h1⟩
theorem lsame_ok {N : Nat} {τ : Tau} {ρ ρ0 : Ren} (hρ : ∀ i, i < N → ρ0 i = ρ (tau τ i)) : ∀ (l : List AV) (u : List Value), lsame N τ l = true → LRel ρ l u → LRel ρ0 l u
  | [], _, _, h => by simpa [LRel] using h
  | a :: l, _, hs, h => by
    simp only [lsame, Bool.and_eq_true] at hs
    simp only [LRel] at h ⊢
    obtain ⟨v, vs, rfl, h1, h2⟩ := h
    exact ⟨v, vs, rfl, vsame_ok hρ _ _ hs.1 h1, lsame_ok hρ _ _ hs.2 h2⟩
end

/-! ### The head of a loop -/
/-- A form of the state at a loop's head: the slots and objects that the loop turns (none: nothing is known of an object). -/
structure LAnn where
  σ : Type
  fr : σ → List (Nat × AV)
  ob : σ → List (Nat × Option AObj)
  inv : σ → Prop
  meas : σ → Nat
  nx : Nat := 0
def lookO (ob : List (Nat × Option AObj)) (h : Heap) (i : Nat) : Option AObj := match ob with
  | [] => h.get i
  | (j, o) :: r => bif Nat.beq i j then o else lookO r h i
/-- The objects that are there. -/
def wantO (ob : List (Nat × Option AObj)) (h : Heap) : Nat → List (Nat × AObj)
  | 0 => []
  | i + 1 => match lookO ob h i with
    | some o => (i, o) :: wantO ob h i
    | none => wantO ob h i
def heapOf (N : Nat) (l : List (Nat × AObj)) : Heap := ⟨N, l.map fun p => (p.1, some p.2)⟩
def inW (W : List Nat) (t : Nat) : Bool := W.any fun x => Nat.beq x t
def keepL (fr : Fr) (W : List Nat) : Nat → List (Nat × AV)
  | 0 => []
  | t + 1 => bif inW W t then keepL fr W t else (match look fr t with
    | .any => keepL fr W t
    | v => (t, v) :: keepL fr W t)
def frAt (l : List (Nat × AV)) (fr : Fr) (W : List Nat) (n : Nat) : Fr := frL (l ++ keepL fr W n)
def matO (h : Heap) : List (Nat × AObj) → Tau → Tau
  | [], τ => τ
  | (i, o) :: r, τ => matO h r (match o, h.get (tau τ i) with
    | .cells _ (.av l), some (.cells _ (.av m)) => matL l m τ
    | _, _ => τ)
def eqOs (τ : Tau) (h : Heap) : List (Nat × AObj) → Prop
  | [] => True
  | (i, o) :: r => eqO τ o (h.get (tau τ i)) ∧ eqOs τ h r
def obsBelow (N : Nat) (l : List (Nat × AObj)) : Bool := l.all fun p => obelow N p.2
/-- The state (fr, h) is of that form. -/
def fitP (k N n : Nat) (l : List (Nat × AV)) (W : List Nat) (fr0 : Fr) (obs : List (Nat × AObj)) (fr : Fr) (h : Heap) : Prop :=
  go (matO h obs (matL (l.map (·.2)) (l.map fun p => look fr p.1) []))
where
  go (τ : Tau) : Prop := bif tauOk k N τ && lbelow N (l.map (·.2)) && obsBelow N obs && l.all (fun p => inW W p.1) && (keepL fr0 W n).all (fun p => vsame N τ p.2) && Nat.ble k N then (eqL τ (l.map (·.2)) (l.map fun p => look fr p.1) ∧ eqOs τ h obs) else False

def Agree (n : Nat) (W : List Nat) (fr fr' : Fr) : Prop := ∀ t, t < n → inW W t = false → look fr' t = look fr t
theorem inW_iff {W : List Nat} {t : Nat} : inW W t = true ↔ t ∈ W := by
  simp only [inW, List.any_eq_true]
  exact ⟨fun ⟨x, hx, hb⟩ => by rw [← Nat.eq_of_beq_eq_true hb]; exact hx, fun h => ⟨t, h, Nat.beq_refl _⟩⟩
theorem heapOf_get (N : Nat) : ∀ (l : List (Nat × AObj)) (i : Nat) (o : AObj), (heapOf N l).get i = some o → (i, o) ∈ l
  | [], i, o, h => by simp [heapOf, Heap.get, HM.get] at h
  | (j, x) :: l, i, o, h => by
    simp only [heapOf, Heap.get, List.map_cons, HM.get] at h
    cases hb : Nat.beq j i <;> rw [hb] at h
    · have := heapOf_get N l i o (by simpa [heapOf, Heap.get] using h)
      exact List.mem_cons_of_mem _ this
    · simp at h; subst h; rw [Nat.eq_of_beq_eq_true hb]; simp
theorem wantO_lt {ob : List (Nat × Option AObj)} {h : Heap} : ∀ {N : Nat} {p : Nat × AObj}, p ∈ wantO ob h N → p.1 < N
  | 0, p, hp => by cases hp
  | i + 1, p, hp => by
    simp only [wantO] at hp
    split at hp
    · rcases List.mem_cons.1 hp with rfl | hp
      · simp
      · have := wantO_lt hp; omega
    · have := wantO_lt hp; omega
theorem find_keep {fr : Fr} {W : List Nat} {t : Nat} : ∀ (n : Nat), (match (keepL fr W n).find? (fun p => p.1 == t) with | some p => p.2 | none => AV.any) = if t < n ∧ inW W t = false then look fr t else .any
  | 0 => by simp [keepL]
  | m + 1 => by
    have ih := find_keep (fr := fr) (W := W) (t := t) m
    simp only [keepL]
    cases hw : inW W m with
    | true =>
      simp only [cond_true, ih]
      by_cases h : t = m
      · subst h; simp [hw]
      · by_cases h2 : t < m
        · simp [h2, Nat.lt_succ_of_lt h2]
        · rw [if_neg (by omega), if_neg (by omega)]
    | false =>
      simp only [cond_false]
      have key : ∀ v : AV, look fr m = v → (match ((match v with | .any => keepL fr W m | v => (m, v) :: keepL fr W m) : List (Nat × AV)).find? (fun p => p.1 == t) with | some p => p.2 | none => AV.any) = if t < m + 1 ∧ inW W t = false then look fr t else .any := by
        have any : look fr m = .any → (match (keepL fr W m).find? (fun p => p.1 == t) with | some p => p.2 | none => AV.any) = if t < m + 1 ∧ inW W t = false then look fr t else .any := fun hv => by
          rw [ih]
          by_cases h : t = m
          · subst h; simp [hw, hv]
          · by_cases h2 : t < m
            · simp [h2, Nat.lt_succ_of_lt h2]
            · rw [if_neg (by omega), if_neg (by omega)]
        have other : ∀ v, look fr m = v → (match ((m, v) :: keepL fr W m).find? (fun p => p.1 == t) with | some p => p.2 | none => AV.any) = if t < m + 1 ∧ inW W t = false then look fr t else .any := fun v hv => by
          simp only [List.find?_cons]
          by_cases h : m = t
          · subst h; simp [hw, hv]
          · have : (m == t) = false := by simpa using h
            rw [this]
            simp only []
            rw [ih]
            by_cases h2 : t < m
            · simp [h2, Nat.lt_succ_of_lt h2]
            · rw [if_neg (by omega), if_neg (by omega)]
        intro v hv
        cases v
        case any => exact any hv
        all_goals exact other _ hv
      exact key _ rfl
theorem look_frAt {l : List (Nat × AV)} {fr : Fr} {W : List Nat} {n t : Nat} : look (frAt l fr W n) t = match l.find? (fun p => p.1 == t) with | some p => p.2 | none => if t < n ∧ inW W t = false then look fr t else .any := by
  unfold frAt
  rw [look_frL, List.find?_append]
  cases hf : l.find? (fun p => p.1 == t) with
  | some p => simp
  | none => simp only [Option.none_or]; exact find_keep n

theorem fit_sub {k N n : Nat} {l : List (Nat × AV)} {W : List Nat} {fr0 fr : Fr} {obs : List (Nat × AObj)} {h : Heap} (hN : ∀ p ∈ obs, p.1 < N) (hag : Agree n W fr0 fr) (hf : fitP k N n l W fr0 obs fr h) {ρ : Ren} {T : Nat → Prop} {a : Act} {w : World} (hs : St k n ρ T fr h a w) :
    ∃ ρ', (∀ i, i < k → ρ' i = ρ i) ∧ St k n ρ' T (frAt l fr0 W n) (heapOf N obs) a w := by
  unfold fitP at hf
  generalize hτ : matO h obs (matL (l.map (·.2)) (l.map fun p => look fr p.1) []) = τ at hf
  unfold fitP.go at hf
  cases hb : (tauOk k N τ && lbelow N (l.map (·.2)) && obsBelow N obs && l.all (fun p => inW W p.1) && (keepL fr0 W n).all (fun p => vsame N τ p.2) && Nat.ble k N) with
  | false => rw [hb] at hf; exact hf.elim
  | true =>
    rw [hb] at hf; simp only [cond_true] at hf
    simp only [Bool.and_eq_true, List.all_eq_true, obsBelow, Nat.ble_eq] at hb
    obtain ⟨⟨⟨⟨⟨b1, b2⟩, b3⟩, b4⟩, b5⟩, b6⟩ := hb
    obtain ⟨t1, t2⟩ := tauOk_spec b1
    have hos : ∀ p ∈ obs, eqO τ p.2 (h.get (tau τ p.1)) := by
      have : ∀ obs : List (Nat × AObj), eqOs τ h obs → ∀ p ∈ obs, eqO τ p.2 (h.get (tau τ p.1)) := by
        intro obs
        induction obs with
        | nil => intro _ p hp; cases hp
        | cons x r ih =>
          intro he p hp
          rcases List.mem_cons.1 hp with rfl | hp
          · exact he.1
          · exact ih he.2 p hp
      exact this obs hf.2
    have hvs : ∀ p ∈ l, vbelow N p.2 = true ∧ eqV τ p.2 (look fr p.1) := by
      have : ∀ l : List (Nat × AV), lbelow N (l.map (·.2)) = true → eqL τ (l.map (·.2)) (l.map fun p => look fr p.1) → ∀ p ∈ l, vbelow N p.2 = true ∧ eqV τ p.2 (look fr p.1) := by
        intro l
        induction l with
        | nil => intro _ _ p hp; cases hp
        | cons x r ih =>
          intro hb he p hp
          simp only [List.map_cons, lbelow, Bool.and_eq_true] at hb
          simp only [List.map_cons, eqL] at he
          rcases List.mem_cons.1 hp with rfl | hp
          · exact ⟨hb.1, he.1⟩
          · exact ih hb.2 he.2 p hp
      exact this l b2 hf.1
    refine hs.sub2 (h' := heapOf N obs) (tau τ) t1 b6 t2 (fun i o0 hi => ?_) (fun t ρ ρ0 u hρ hu => ?_)
    · have hm := heapOf_get N obs i o0 hi
      obtain ⟨o', ho', hsoft⟩ := eqO_soft (b3 _ hm) (hos _ hm)
      exact ⟨hN _ hm, o', ho', hsoft⟩
    · rw [look_frAt]
      split
      · rename_i p hp
        have hpl := List.mem_of_find?_eq_some hp
        have hpt : p.1 = t := by simpa using List.find?_some hp
        obtain ⟨c1, c2⟩ := hvs p hpl
        rw [hpt] at c2
        exact eqV_ok hρ _ _ _ c1 c2 hu
      · split
        · rename_i ht
          rw [hag t ht.1 ht.2] at hu
          refine vsame_ok hρ _ _ ?_ hu
          have hk := find_keep (fr := fr0) (W := W) (t := t) n
          rw [if_pos ht] at hk
          cases hff : (keepL fr0 W n).find? (fun p => p.1 == t) with
          | none => rw [hff] at hk; simp only at hk; rw [← hk]; rfl
          | some p =>
            rw [hff] at hk; simp only at hk
            rw [← hk]
            exact b5 p (List.mem_of_find?_eq_some hff)
        · simp only [VRel]
end Go.Proofs.YtpbdlibgbkhlhaaGreat.SE
