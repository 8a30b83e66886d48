/- What is asked of code, and of functions: by their text, their calls' contracts and what holds at the heads of loops. -/
import Derived.Test.YtpbdlibgbkhlhaaGreatV8
namespace Go.Proofs.YtpbdlibgbkhlhaaGreat.SE
open Go

/-! ### States that say less -/
abbrev Tau := List (Nat × Nat)
def tau : Tau → Nat → Nat
  | [], i => i
  | (a, b) :: r, i => bif Nat.beq a i then b else tau r i
def addT (i j : Nat) (τ : Tau) : Tau := bif Nat.beq (tau τ i) j then τ else (i, j) :: τ
mutual
/-- Which numbers of what is wanted stand for which of what there is. -/
def matV : AV → AV → Tau → Tau
  | .ptr i _, .ptr j _, τ => addT i j τ
  | .sl i _ _ _, .sl j _ _ _, τ => addT i j τ
  | .slU i _ _ _, .slU j _ _ _, τ => addT i j τ
  | .ptrE i _ _ _, .ptrE j _ _ _, τ => addT i j τ
  | .slE i _ _ _ _, .slE j _ _ _ _, τ => addT i j τ
  | .slW i _ _ _, .slW j _ _ _, τ => addT i j τ
  | .slR i _ _ _, .slR j _ _ _, τ => addT i j τ
  | .slR i _ _ _, .slE j _ _ _ _, τ => addT i j τ
  | .slR i _ _ _, .slW j _ _ _, τ => addT i j τ
  | .slR i _ _ _, .slZ _ j _ _ _, τ => addT i j τ
  | .slW i _ _ _, .sl j _ _ _, τ => addT i j τ
  | .slZ _ i _ _ _, .slZ _ j _ _ _, τ => addT i j τ
  | .slZ _ i _ _ _, .slE j _ _ _ _, τ => addT i j τ
  | .slZ _ i _ _ _, .slW j _ _ _, τ => addT i j τ
  | .ifc _ a, .ifc _ b, τ => matV a b τ
  | .mp i, .mp j, τ => addT i j τ
  | .agg l, .agg m, τ => matL l m τ
  | .tup l, .tup m, τ => matL l m τ
  | .fn _ a b, .fn _ a' b', τ => matL b b' (matL a a' τ)
  | _, _, τ => τ
def matL : List AV → List AV → Tau → Tau
  | a :: l, b :: m, τ => matL l m (matV a b τ)
  | _, _, τ => τ
end
def eqVal : Value → Value → Prop
  | .int k a, .int k' b => if k = k' then a = b else False
  | .bool a, .bool b => a = b
  | .string a, .string b => a = b
  | a, b => a = b
theorem eqVal_ok {a b : Value} (h : eqVal a b) : a = b := by
  unfold eqVal at h
  split at h
  · split at h
    · rename_i hk; rw [hk, h]
    · exact h.elim
  · rw [h]
  · rw [h]
  · exact h
mutual
/-- What is wanted, and what there is. -/
def eqV (τ : Tau) : AV → AV → Prop
  | .any, _ => True
  | .one, b => bif oneCell b then True else False
  | .lit a, .lit b => eqVal a b
  | .ptr i o, .ptr j p => bif Nat.beq (tau τ i) j then o = p else False
  | .sl i o n c, .sl j p n' c' => bif Nat.beq (tau τ i) j then (o = p ∧ n = n' ∧ c = c') else False
  | .slU i o n s, .slU j p n' s' => bif Nat.beq (tau τ i) j then (o = p ∧ n = n' ∧ s = s') else False
  | .ptrE i k m o, .ptrE j k' m' p => bif Nat.beq (tau τ i) j && Nat.beq m m' then (k = k' ∧ o = p) else False
  | .slE i k m n c, .slE j k' m' n' c' => bif Nat.beq (tau τ i) j && Nat.beq m m' then (k = k' ∧ n = n' ∧ c = c') else False
  | .slW i k m n, .slW j k' m' n' => bif Nat.beq (tau τ i) j && Nat.beq m m' then (k = k' ∧ n = n') else False
  | .slW i _ _ n, .sl j _ n' c' => bif Nat.beq (tau τ i) j then (n = 0 ∧ n' = 0 ∧ c' = 0) else False
  | .slR i k m n, .slR j k' m' n' => bif Nat.beq (tau τ i) j && Nat.beq m m' then (k = k' ∧ n = n') else False
  | .slR i k m n, .slE j k' m' n' _ => bif Nat.beq (tau τ i) j && Nat.beq m m' then (k = k' ∧ n = n') else False
  | .slR i k m n, .slW j k' m' n' => bif Nat.beq (tau τ i) j && Nat.beq m m' then (k = k' ∧ n = n') else False
  | .slR i k m n, .slZ _ j k' m' n' => bif Nat.beq (tau τ i) j && Nat.beq m m' then (k = k' ∧ n = n') else False
  | .slZ z i k m n, .slZ z' j k' m' n' => bif Nat.beq (tau τ i) j && Nat.beq m m' then (z = z' ∧ k = k' ∧ n = n') else False
  | .slZ z i k m n, .slE j k' m' n' _ => bif Nat.beq (tau τ i) j && Nat.beq m m' then (z = false ∧ k = k' ∧ n = n') else False
  | .slZ z i k m n, .slW j k' m' n' => bif Nat.beq (tau τ i) j && Nat.beq m m' then (z = false ∧ k = k' ∧ n = n') else False
  | .ifc t a, .ifc t' b => t = t' ∧ eqV τ a b
  | .mp i, .mp j => bif Nat.beq (tau τ i) j then True else False
  | .agg l, .agg m => eqL τ l m
  | .tup l, .tup m => eqL τ l m
  | .fn f a b, .fn g a' b' => f = g ∧ eqL τ a a' ∧ eqL τ b b'
  | _, _ => False
def eqL (τ : Tau) : List AV → List AV → Prop
  | [], [] => True
  | a :: l, b :: m => eqV τ a b ∧ eqL τ l m
  | _, _ => False
end
mutual
theorem eqV_ok {τ : Tau} {ρ ρ0 : Ren} {N : Nat} (hρ : ∀ i, i < N → ρ0 i = ρ (tau τ i)) : ∀ (a b : AV) (u : Value), vbelow N a = true → eqV τ a b → VRel ρ b u → VRel ρ0 a u
  | .any, _, _, _, _, _ => by simp only [VRel]
  | .one, b, u, _, h, hb => by
    simp only [eqV] at h
    cases hc : oneCell b with
    | false => rw [hc] at h; exact h.elim
    | true => simp only [VRel]; exact oneCell_spec hc hb
  | .lit x, b, u, _, h, hb => by
    cases b <;> simp only [eqV] at h
    have := eqVal_ok h; subst this
    simpa only [VRel] using hb
  | .ptr i o, b, u, hn, h, hb => by
    cases b <;> simp only [eqV] at h
    rename_i j p
    cases hh : Nat.beq (tau τ i) j <;> rw [hh] at h
    · exact h.elim
    · simp only [cond_true] at h; subst h
      simp only [vbelow] at hn
      simp only [VRel] at hb ⊢
      rw [hρ i (nblt_iff.1 hn), Nat.eq_of_beq_eq_true hh]; exact hb
  | .sl i o n c, b, u, hn, h, hb => by
    cases b <;> simp only [eqV] at h
    rename_i j p n' c'
    cases hh : Nat.beq (tau τ i) j <;> rw [hh] at h
    · exact h.elim
    · simp only [cond_true] at h; obtain ⟨rfl, rfl, rfl⟩ := h
      simp only [vbelow] at hn
      simp only [VRel] at hb ⊢
      rw [hρ i (nblt_iff.1 hn), Nat.eq_of_beq_eq_true hh]; exact hb
  | .slU i o n c, b, u, hn, h, hb => by
    cases b <;> simp only [eqV] at h
    rename_i j p n' c'
    cases hh : Nat.beq (tau τ i) j <;> rw [hh] at h
    · exact h.elim
    · simp only [cond_true] at h; obtain ⟨rfl, rfl, rfl⟩ := h
      simp only [vbelow] at hn
      simp only [VRel] at hb ⊢
      rw [hρ i (nblt_iff.1 hn), Nat.eq_of_beq_eq_true hh]; exact hb
  | .ptrE i k m o, b, u, hn, h, hb => by
    cases b <;> simp only [eqV] at h
    rename_i j k' m' p
    cases hh : (Nat.beq (tau τ i) j && Nat.beq m m') <;> rw [hh] at h
    · exact h.elim
    · simp only [Bool.and_eq_true] at hh
      simp only [cond_true] at h; obtain ⟨rfl, rfl⟩ := h
      have := Nat.eq_of_beq_eq_true hh.2; subst this
      simp only [vbelow] at hn
      simp only [VRel] at hb ⊢
      rw [hρ i (nblt_iff.1 hn), Nat.eq_of_beq_eq_true hh.1]; exact hb
  | .slE i k m n c, b, u, hn, h, hb => by
    cases b <;> simp only [eqV] at h
    rename_i j k' m' n' c'
    cases hh : (Nat.beq (tau τ i) j && Nat.beq m m') <;> rw [hh] at h
    · exact h.elim
    · simp only [Bool.and_eq_true] at hh
      simp only [cond_true] at h; obtain ⟨rfl, rfl, rfl⟩ := h
      have := Nat.eq_of_beq_eq_true hh.2; subst this
      simp only [vbelow] at hn
      simp only [VRel] at hb ⊢
      rw [hρ i (nblt_iff.1 hn), Nat.eq_of_beq_eq_true hh.1]; exact hb
  | .slW i k m n, b, u, hn, h, hb => by
    cases b <;> simp only [eqV] at h
    · rename_i j o n' c'
      cases hh : Nat.beq (tau τ i) j <;> rw [hh] at h
      · exact h.elim
      · simp only [cond_true] at h
        obtain ⟨rfl, rfl, rfl⟩ := h
        simp only [vbelow] at hn
        simp only [VRel] at hb ⊢
        rw [hρ i (nblt_iff.1 hn), Nat.eq_of_beq_eq_true hh]
        obtain ⟨a, h1, h2⟩ := hb
        exact ⟨a, _, 0, h1, h2, Nat.le_refl _, fun h => (h rfl).elim⟩
    rename_i j k' m' n'
    cases hh : (Nat.beq (tau τ i) j && Nat.beq m m') <;> rw [hh] at h
    · exact h.elim
    · simp only [Bool.and_eq_true] at hh
      simp only [cond_true] at h; obtain ⟨rfl, rfl⟩ := h
      have := Nat.eq_of_beq_eq_true hh.2; subst this
      simp only [vbelow] at hn
      simp only [VRel] at hb ⊢
      rw [hρ i (nblt_iff.1 hn), Nat.eq_of_beq_eq_true hh.1]; exact hb
  | .slR i k m n, b, u, hn, h, hb => by
    simp only [vbelow] at hn
    cases b <;> simp only [eqV] at h
    · rename_i j k' m' n' c'
      cases hh : (Nat.beq (tau τ i) j && Nat.beq m m') <;> rw [hh] at h
      · exact h.elim
      · simp only [Bool.and_eq_true] at hh
        simp only [cond_true] at h; obtain ⟨rfl, rfl⟩ := h
        have := Nat.eq_of_beq_eq_true hh.2; subst this
        simp only [VRel] at hb ⊢
        rw [hρ i (nblt_iff.1 hn), Nat.eq_of_beq_eq_true hh.1]
        obtain ⟨a, p, h1, h2, h3, h4⟩ := hb
        exact .inr ⟨a, p, c', h1, h2, h3, fun hn => h4 (by omega)⟩
    · rename_i j k' m' n'
      cases hh : (Nat.beq (tau τ i) j && Nat.beq m m') <;> rw [hh] at h
      · exact h.elim
      · simp only [Bool.and_eq_true] at hh
        simp only [cond_true] at h; obtain ⟨rfl, rfl⟩ := h
        have := Nat.eq_of_beq_eq_true hh.2; subst this
        simp only [VRel] at hb ⊢
        rw [hρ i (nblt_iff.1 hn), Nat.eq_of_beq_eq_true hh.1]
        obtain ⟨a, p, c, h1, h2, h3, h4⟩ := hb
        exact .inr ⟨a, p, c, h1, h2, h3, fun hn => (h4 (by omega)).1⟩
    · rename_i j k' m' n'
      cases hh : (Nat.beq (tau τ i) j && Nat.beq m m') <;> rw [hh] at h
      · exact h.elim
      · simp only [Bool.and_eq_true] at hh
        simp only [cond_true] at h; obtain ⟨rfl, rfl⟩ := h
        have := Nat.eq_of_beq_eq_true hh.2; subst this
        simp only [VRel] at hb ⊢
        rw [hρ i (nblt_iff.1 hn), Nat.eq_of_beq_eq_true hh.1]; exact hb
    · rename_i z j k' m' n'
      cases hh : (Nat.beq (tau τ i) j && Nat.beq m m') <;> rw [hh] at h
      · exact h.elim
      · simp only [Bool.and_eq_true] at hh
        simp only [cond_true] at h; obtain ⟨rfl, rfl⟩ := h
        have := Nat.eq_of_beq_eq_true hh.2; subst this
        simp only [VRel] at hb ⊢
        rw [hρ i (nblt_iff.1 hn), Nat.eq_of_beq_eq_true hh.1]
        rcases hb with ⟨_, h1, h2⟩ | ⟨_, h1⟩
        · exact .inl ⟨h1, h2⟩
        · exact .inr h1
  | .slZ z i k m n, b, u, hn, h, hb => by
    simp only [vbelow] at hn
    cases b <;> simp only [eqV] at h
    · rename_i j k' m' n' c'
      cases hh : (Nat.beq (tau τ i) j && Nat.beq m m') <;> rw [hh] at h
      · exact h.elim
      · simp only [Bool.and_eq_true] at hh
        simp only [cond_true] at h; obtain ⟨rfl, rfl, rfl⟩ := h
        have := Nat.eq_of_beq_eq_true hh.2; subst this
        simp only [VRel] at hb ⊢
        rw [hρ i (nblt_iff.1 hn), Nat.eq_of_beq_eq_true hh.1]
        obtain ⟨a, p, h1, h2, h3, h4⟩ := hb
        exact .inr ⟨trivial, a, p, c', h1, h2, h3, fun hn => h4 (by omega)⟩
    · rename_i j k' m' n'
      cases hh : (Nat.beq (tau τ i) j && Nat.beq m m') <;> rw [hh] at h
      · exact h.elim
      · simp only [Bool.and_eq_true] at hh
        simp only [cond_true] at h; obtain ⟨rfl, rfl, rfl⟩ := h
        have := Nat.eq_of_beq_eq_true hh.2; subst this
        simp only [VRel] at hb ⊢
        rw [hρ i (nblt_iff.1 hn), Nat.eq_of_beq_eq_true hh.1]
        obtain ⟨a, p, c, h1, h2, h3, h4⟩ := hb
        exact .inr ⟨trivial, a, p, c, h1, h2, h3, fun hn => (h4 (by omega)).1⟩
    · rename_i z' j k' m' n'
      cases hh : (Nat.beq (tau τ i) j && Nat.beq m m') <;> rw [hh] at h
      · exact h.elim
      · simp only [Bool.and_eq_true] at hh
        simp only [cond_true] at h; obtain ⟨rfl, rfl, rfl⟩ := h
        have := Nat.eq_of_beq_eq_true hh.2; subst this
        simp only [VRel] at hb ⊢
        rw [hρ i (nblt_iff.1 hn), Nat.eq_of_beq_eq_true hh.1]
        exact hb
  | .mp i, b, u, hn, h, hb => by
    cases b <;> simp only [eqV] at h
    rename_i j
    cases hh : Nat.beq (tau τ i) j <;> rw [hh] at h
    · exact h.elim
    · simp only [vbelow] at hn
      simp only [VRel] at hb ⊢
      rw [hρ i (nblt_iff.1 hn), Nat.eq_of_beq_eq_true hh]; exact hb
  | .agg l, b, u, hn, h, hb => by
    cases b <;> simp only [eqV] at h
    simp only [vbelow] at hn
    simp only [VRel] at hb ⊢
    obtain ⟨vs, hv, hl⟩ := hb
    exact ⟨vs, hv, eqL_ok hρ _ _ _ hn h hl⟩
  | .tup l, b, u, hn, h, hb => by
    cases b <;> simp only [eqV] at h
    simp only [vbelow] at hn
    simp only [VRel] at hb ⊢
    obtain ⟨vs, hv, hl⟩ := hb
    exact ⟨vs, hv, eqL_ok hρ _ _ _ hn h hl⟩
  | .fn f x y, b, u, hn, h, hb => by
    cases b <;> simp only [eqV] at h
    simp only [vbelow, Bool.and_eq_true] at hn
    simp only [VRel] at hb ⊢
    obtain ⟨rfl, h1, h2⟩ := h
    obtain ⟨p, q, hv, l1, l2⟩ := hb
    exact ⟨p, q, hv, eqL_ok hρ _ _ _ hn.1 h1 l1, eqL_ok hρ _ _ _ hn.2 h2 l2⟩
  | .ifc t x, b, u, hn, h, hb => by
    cases b <;> simp only [eqV] at h
    obtain ⟨rfl, h⟩ := h
    simp only [vbelow] at hn
    simp only [VRel] at hb ⊢
    obtain ⟨y, h1, h2⟩ := hb
    exact ⟨y, h1, eqV_ok hρ _ _ _ hn h h2⟩
theorem eqL_ok {τ : Tau} {ρ ρ0 : Ren} {N : Nat} (hρ : ∀ i, i < N → ρ0 i = ρ (tau τ i)) : ∀ (a b : List AV) (u : List Value), lbelow N a = true → eqL τ a b → LRel ρ b u → LRel ρ0 a u
  | [], [], u, _, _, hb => by simpa [LRel] using hb
  | x :: a, y :: b, u, hn, h, hb => by
    simp only [lbelow, Bool.and_eq_true] at hn
    simp only [eqL] at h
    simp only [LRel] at hb ⊢
    obtain ⟨v, vs, rfl, h1, h2⟩ := hb
    exact ⟨v, vs, rfl, eqV_ok hρ _ _ _ hn.1 h.1 h1, eqL_ok hρ _ _ _ hn.2 h.2 h2⟩
  | [], _ :: _, _, _, h, _ => by simp only [eqL] at h
  | _ :: _, [], _, _, h, _ => by simp only [eqL] at h
end
def eqC (τ : Tau) : Cs → Cs → Prop
  | .av l, .av m => eqL τ l m
  | .raw l, .raw m => l = m
  | .row m n g wr, .row m' n' g' wr' => bif Nat.beq m m' then (n = n' ∧ ∀ q, q < n → Cs.eff g wr q = Cs.eff g' wr' q) else False
  | .row m n g wr, .av l => match litsOf l with
    | some vs => vs.length = n * m ∧ ∀ q, q < n → Cs.eff g wr q = (vs.drop (q * m)).take m
    | none => False
  | _, _ => False
theorem eqC_size {τ : Tau} {c d : Cs} (h : eqC τ c d) : c.size = d.size := by
  have len : ∀ (l m : List AV), eqL τ l m → l.length = m.length := by
    intro l
    induction l with
    | nil => intro m h; cases m <;> simp_all [eqL]
    | cons a l ih => intro m h; cases m with
      | nil => simp [eqL] at h
      | cons b m => simp only [eqL] at h; simp [ih m h.2]
  unfold eqC at h
  split at h
  · exact len _ _ h
  · rw [h]
  · rename_i m n g wr m' n' g' wr'
    cases hb : Nat.beq m m' <;> rw [hb] at h
    · exact h.elim
    · simp only [cond_true] at h
      have := Nat.eq_of_beq_eq_true hb; subst this
      simp [Cs.size, h.1]
  · split at h
    · rename_i vs hvs
      have := litsOf_spec hvs; subst this
      simp [Cs.size, h.1]
    · exact h.elim
  · exact h.elim
theorem eqC_av {τ : Tau} {ρ ρ0 : Ren} {N : Nat} (hρ : ∀ i, i < N → ρ0 i = ρ (tau τ i)) {l m : List AV} (hn : lbelow N l = true) (h : eqL τ l m) {arr : Array Value} {b : Nat} (hc : CRel ρ (.av m) arr b) : CRel ρ0 (.av l) arr b := by
  have get : ∀ (l m : List AV) (k : Nat) (v : AV), lbelow N l = true → eqL τ l m → l[k]? = some v → ∃ w, m[k]? = some w ∧ eqV τ v w ∧ vbelow N v = true := by
    intro l
    induction l with
    | nil => intro m k v _ _ h; simp at h
    | cons a l ih => intro m k v hn h hk; cases m with
      | nil => simp [eqL] at h
      | cons y m =>
        simp only [eqL] at h
        simp only [lbelow, Bool.and_eq_true] at hn
        cases k with
        | zero => simp at hk; subst hk; exact ⟨y, rfl, h.1, hn.1⟩
        | succ k => simpa using ih m k v hn.2 h.2 (by simpa using hk)
  intro k v hk
  obtain ⟨w, hw, he, hb⟩ := get l m k v hn h hk
  obtain ⟨u, hu, hr⟩ := hc k w hw
  exact ⟨u, hu, eqV_ok hρ _ _ _ hb he hr⟩
theorem eqL_len {τ : Tau} : ∀ {l m : List AV}, eqL τ l m → l.length = m.length
  | [], [], _ => rfl
  | a :: l, b :: m, h => by simp only [eqL] at h; simp [eqL_len h.2]
  | [], _ :: _, h => by simp only [eqL] at h
  | _ :: _, [], h => by simp only [eqL] at h
theorem eqC_ok {τ : Tau} {ρ ρ0 : Ren} {N : Nat} (hρ : ∀ i, i < N → ρ0 i = ρ (tau τ i)) {c d : Cs} (hn : cbelow N c = true) (h : eqC τ c d) {arr : Array Value} {b : Nat} (hsz : b + d.size ≤ arr.size) (hc : CRel ρ d arr b) : CRel ρ0 c arr b := by
  unfold eqC at h
  split at h
  · rename_i l m
    have get : ∀ (l m : List AV) (k : Nat) (v : AV), lbelow N l = true → eqL τ l m → l[k]? = some v → ∃ w, m[k]? = some w ∧ eqV τ v w ∧ vbelow N v = true := by
      intro l
      induction l with
      | nil => intro m k v _ _ h; simp at h
      | cons a l ih => intro m k v hn h hk; cases m with
        | nil => simp [eqL] at h
        | cons y m =>
          simp only [eqL] at h
          simp only [lbelow, Bool.and_eq_true] at hn
          cases k with
          | zero => simp at hk; subst hk; exact ⟨y, rfl, h.1, hn.1⟩
          | succ k => simpa using ih m k v hn.2 h.2 (by simpa using hk)
    intro k v hk
    obtain ⟨w, hw, he, hb⟩ := get l m k v hn h hk
    obtain ⟨u, hu, hr⟩ := hc k w hw
    exact ⟨u, hu, eqV_ok hρ _ _ _ hb he hr⟩
  · subst h
    intro k v hk
    obtain ⟨u, hu, hr⟩ := hc k v hk
    simp only [Cs.get] at hk
    split at hk
    · cases hk; exact ⟨u, hu, by simpa only [VRel] using hr⟩
    · cases hk
  · rename_i m n g wr m' n' g' wr'
    cases hb : Nat.beq m m' <;> rw [hb] at h
    · exact h.elim
    · simp only [cond_true] at h
      have := Nat.eq_of_beq_eq_true hb; subst this
      obtain ⟨rfl, h⟩ := h
      intro k v hk
      have hlt := Cs.get_lt hk
      simp only [Cs.size] at hlt
      have hq : k / m < n := Nat.div_lt_of_lt_mul (by rw [Nat.mul_comm]; exact hlt)
      simp only [Cs.get, nblt_iff.2 hlt, cond_true, h _ hq] at hk
      obtain ⟨u, hu, hr⟩ := hc k v (by simp only [Cs.get, nblt_iff.2 hlt, cond_true]; exact hk)
      refine ⟨u, hu, ?_⟩
      split at hk
      · cases hk; simpa only [VRel] using hr
      · cases hk; simp only [VRel]
  · rename_i m n g wr l
    split at h
    · rename_i vs hvs
      have := litsOf_spec hvs; subst this
      obtain ⟨hl, h⟩ := h
      intro k v hk
      have hlt := Cs.get_lt hk
      simp only [Cs.size] at hlt
      have hq : k / m < n := Nat.div_lt_of_lt_mul (by rw [Nat.mul_comm]; exact hlt)
      have hm : 0 < m := Nat.pos_of_ne_zero fun h0 => by rw [h0] at hlt; simp at hlt
      simp only [Cs.get, nblt_iff.2 hlt, cond_true, h _ hq] at hk
      rw [List.getElem?_take, if_pos (Nat.mod_lt _ hm), List.getElem?_drop, Nat.div_add_mod'] at hk
      rw [List.getElem?_eq_getElem (by omega)] at hk
      cases hk
      obtain ⟨u, hu, hr⟩ := hc k (.lit vs[k]) (by simp only [Cs.get, List.getElem?_map]; rw [List.getElem?_eq_getElem (by omega)]; rfl)
      exact ⟨u, hu, by simpa only [VRel] using hr⟩
    · exact h.elim
  · exact h.elim
/-- An object that is wanted, and the one there is. -/
def eqO (τ : Tau) : AObj → Option AObj → Prop
  | .cells e c, some (.cells e' c') => bif Nat.beq e e' then eqC τ c c' else False
  | .room e c, some (.room e' c') => bif Nat.beq e e' then eqC τ c c' else False
  | .room e c, some (.cells e' c') => bif Nat.beq e e' then eqC τ c c' else False
  | .ro (.av l), some (.ro (.av m)) => eqL τ l m
  | .ro c, some (.ro c') => c = c' ∧ cbelow 0 c = true
  | .map es cl, some (.map es' cl') => es = es' ∧ cl = cl' ∧ (es.all fun x => vbelow 0 x.1 && vbelow 0 x.2.1) = true
  | .abs A, some (.abs B) => A = B
  | _, _ => False
theorem vbelow0 {v : AV} (h : vbelow 0 v = true) {ρ ρ0 : Ren} {u : Value} (hv : VRel ρ v u) : VRel ρ0 v u := by
  have h1 := VRel.vmap (τ := id) (ρ := ρ) (ρ' := ρ) (fun i a h => h) v u hv
  have e : ∀ v, vmap id v = v := by
    intro v
    exact (vmap_id v)
  rw [e] at h1
  exact VRel.vback (τ := id) (ρ' := ρ) (n := 0) (fun i hi => absurd hi (Nat.not_lt_zero _)) v u h (by rw [e]; exact hv)
where
  vmap_id : ∀ v : AV, vmap id v = v
    | .any | .lit _ | .ptr .. | .sl .. | .slU .. | .ptrE .. | .slE .. | .slW .. | .slR .. | .slZ .. | .one | .mp _ => rfl
    | .agg l => by simp only [vmap, lmap_id l]
    | .tup l => by simp only [vmap, lmap_id l]
    | .fn f a b => by simp only [vmap, lmap_id a, lmap_id b]
    | .ifc t x => by simp only [vmap, vmap_id x]
  lmap_id : ∀ l : List AV, lmap id l = l
    | [] => rfl
    | a :: l => by simp only [lmap, vmap_id a, lmap_id l]
end Go.Proofs.YtpbdlibgbkhlhaaGreat.SE
