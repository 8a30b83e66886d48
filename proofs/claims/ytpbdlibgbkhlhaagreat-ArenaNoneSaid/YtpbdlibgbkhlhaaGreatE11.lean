/- Numbers of objects turned; a part of a heap taken out and laid back; functions called over a greater heap; memory that nobody looks into. -/
import Derived.Test.YtpbdlibgbkhlhaaGreatE10
namespace Go.Proofs.YtpbdlibgbkhlhaaGreat.SE
open Go

mutual
def vmap (τ : Nat → Nat) : AV → AV
  | .any => .any
  | .lit v => .lit v
  | .ptr i o => .ptr (τ i) o
  | .sl i o n c => .sl (τ i) o n c
  | .slU i o n s => .slU (τ i) o n s
  | .ptrE i k m j => .ptrE (τ i) k m j
  | .slE i k m n c => .slE (τ i) k m n c
  | .slW i k m n => .slW (τ i) k m n
  | .slR i k m n => .slR (τ i) k m n
  | .slZ z i k m n => .slZ z (τ i) k m n
  | .one => .one
  | .mp i => .mp (τ i)
  | .fn f a b => .fn f (lmap τ a) (lmap τ b)
  | .agg l => .agg (lmap τ l)
  | .tup l => .tup (lmap τ l)
  | .ifc t v => .ifc t (vmap τ v)
def lmap (τ : Nat → Nat) : List AV → List AV
  | [] => []
  | a :: l => vmap τ a :: lmap τ l
end
mutual
/-- All numbers of objects in it are below n. -/
def vbelow (n : Nat) : AV → Bool
  | .any => true
  | .lit _ => true
  | .ptr i _ => Nat.blt i n
  | .sl i _ _ _ => Nat.blt i n
  | .slU i _ _ _ => Nat.blt i n
  | .ptrE i _ _ _ => Nat.blt i n
  | .slE i _ _ _ _ => Nat.blt i n
  | .slW i _ _ _ => Nat.blt i n
  | .slR i _ _ _ => Nat.blt i n
  | .slZ _ i _ _ _ => Nat.blt i n
  | .one => true
  | .mp i => Nat.blt i n
  | .fn _ a b => lbelow n a && lbelow n b
  | .agg l => lbelow n l
  | .tup l => lbelow n l
  | .ifc _ v => vbelow n v
def lbelow (n : Nat) : List AV → Bool
  | [] => true
  | a :: l => vbelow n a && lbelow n l
end
theorem lmap_eq (τ : Nat → Nat) : ∀ l, lmap τ l = l.map (vmap τ)
  | [] => rfl
  | a :: l => by simp [lmap, lmap_eq τ l]
theorem lbelow_get {n : Nat} : ∀ {l : List AV} {k : Nat} {a : AV}, lbelow n l = true → l[k]? = some a → vbelow n a = true
  | [], k, a, _, h => by simp at h
  | b :: l, 0, a, hb, h => by simp at h; subst h; simp only [lbelow, Bool.and_eq_true] at hb; exact hb.1
  | b :: l, k + 1, a, hb, h => by simp only [lbelow, Bool.and_eq_true] at hb; exact lbelow_get hb.2 (by simpa using h)

mutual
theorem VRel.vmap {τ : Nat → Nat} {ρ ρ' : Ren} (h : ∀ i a, ρ i = some a → ρ' (τ i) = some a) : ∀ (v : AV) (u : Value), VRel ρ v u → VRel ρ' (vmap τ v) u
  | .any, _, _ => by simp [VRel, SE.vmap]
  | .lit x, _, hv => by simpa [VRel, SE.vmap] using hv
  | .ptr i o, u, hv => by simp only [VRel, SE.vmap] at hv ⊢; obtain ⟨a, ha, hv⟩ := hv; exact ⟨a, h _ _ ha, hv⟩
  | .sl i o n c, u, hv => by simp only [VRel, SE.vmap] at hv ⊢; obtain ⟨a, ha, hv⟩ := hv; exact ⟨a, h _ _ ha, hv⟩
  | .slU i o n s, u, hv => by simp only [VRel, SE.vmap] at hv ⊢; obtain ⟨a, c, ha, hv⟩ := hv; exact ⟨a, c, h _ _ ha, hv⟩
  | .ptrE i k m j, u, hv => by simp only [VRel, SE.vmap] at hv ⊢; obtain ⟨a, ha, hv⟩ := hv; exact ⟨a, h _ _ ha, hv⟩
  | .slE i k m n c, u, hv => by simp only [VRel, SE.vmap] at hv ⊢; obtain ⟨a, p, ha, hv⟩ := hv; exact ⟨a, p, h _ _ ha, hv⟩
  | .slW i k m n, u, hv => by simp only [VRel, SE.vmap] at hv ⊢; obtain ⟨a, p, c, ha, hv⟩ := hv; exact ⟨a, p, c, h _ _ ha, hv⟩
  | .slR i k m n, u, hv => by simp only [VRel, SE.vmap] at hv ⊢; exact hv.imp id fun ⟨a, p, c, ha, hv⟩ => ⟨a, p, c, h _ _ ha, hv⟩
  | .slZ z i k m n, u, hv => by simp only [VRel, SE.vmap] at hv ⊢; exact hv.imp id fun ⟨hz, a, p, c, ha, hv⟩ => ⟨hz, a, p, c, h _ _ ha, hv⟩
  | .one, u, hv => by simpa only [VRel, SE.vmap] using hv
  | .mp i, u, hv => by simp only [VRel, SE.vmap] at hv ⊢; obtain ⟨a, ha, hv⟩ := hv; exact ⟨a, h _ _ ha, hv⟩
  | .fn f a b, u, hv => by simp only [VRel, SE.vmap] at hv ⊢; obtain ⟨x, y, hv, h1, h2⟩ := hv; exact ⟨x, y, hv, LRel.lmap h _ _ h1, LRel.lmap h _ _ h2⟩
  | .agg l, u, hv => by simp only [VRel, SE.vmap] at hv ⊢; obtain ⟨x, hv, h1⟩ := hv; exact ⟨x, hv, LRel.lmap h _ _ h1⟩
  | .tup l, u, hv => by simp only [VRel, SE.vmap] at hv ⊢; obtain ⟨x, hv, h1⟩ := hv; exact ⟨x, hv, LRel.lmap h _ _ h1⟩
  | .ifc t v, u, hv => by simp only [VRel, SE.vmap] at hv ⊢; obtain ⟨x, hv, h1⟩ := hv; exact ⟨x, hv, VRel.vmap h _ _ h1⟩
theorem LRel.lmap {τ : Nat → Nat} {ρ ρ' : Ren} (h : ∀ i a, ρ i = some a → ρ' (τ i) = some a) : ∀ (l : List AV) (u : List Value), LRel ρ l u → LRel ρ' (lmap τ l) u
  | [], _, hv => by simpa [LRel, SE.lmap] using hv
  | a :: l, _, hv => by simp only [LRel, SE.lmap] at hv ⊢; obtain ⟨v, vs, rfl, h1, h2⟩ := hv; exact ⟨v, vs, rfl, VRel.vmap h _ _ h1, LRel.lmap h _ _ h2⟩
end
mutual
theorem VRel.vback {τ : Nat → Nat} {ρ ρ' : Ren} {n : Nat} (h : ∀ i, i < n → ρ i = ρ' (τ i)) : ∀ (v : AV) (u : Value), vbelow n v = true → VRel ρ' (vmap τ v) u → VRel ρ v u
  | .any, _, _, _ => by simp [VRel]
  | .lit x, _, _, hv => by simpa [VRel, SE.vmap] using hv
  | .ptr i o, u, hb, hv => by simp only [VRel, SE.vmap, vbelow] at hb hv ⊢; obtain ⟨a, ha, hv⟩ := hv; exact ⟨a, by rw [h i (nblt_iff.1 hb)]; exact ha, hv⟩
  | .sl i o n c, u, hb, hv => by simp only [VRel, SE.vmap, vbelow] at hb hv ⊢; obtain ⟨a, ha, hv⟩ := hv; exact ⟨a, by rw [h i (nblt_iff.1 hb)]; exact ha, hv⟩
  | .slU i o n s, u, hb, hv => by simp only [VRel, SE.vmap, vbelow] at hb hv ⊢; obtain ⟨a, c, ha, hv⟩ := hv; exact ⟨a, c, by rw [h i (nblt_iff.1 hb)]; exact ha, hv⟩
  | .ptrE i k m j, u, hb, hv => by simp only [VRel, SE.vmap, vbelow] at hb hv ⊢; obtain ⟨a, ha, hv⟩ := hv; exact ⟨a, by rw [h i (nblt_iff.1 hb)]; exact ha, hv⟩
  | .slE i k m n c, u, hb, hv => by simp only [VRel, SE.vmap, vbelow] at hb hv ⊢; obtain ⟨a, p, ha, hv⟩ := hv; exact ⟨a, p, by rw [h i (nblt_iff.1 hb)]; exact ha, hv⟩
  | .slW i k m n, u, hb, hv => by simp only [VRel, SE.vmap, vbelow] at hb hv ⊢; obtain ⟨a, p, c, ha, hv⟩ := hv; exact ⟨a, p, c, by rw [h i (nblt_iff.1 hb)]; exact ha, hv⟩
  | .slR i k m n, u, hb, hv => by simp only [VRel, SE.vmap, vbelow] at hb hv ⊢; exact hv.imp id fun ⟨a, p, c, ha, hv⟩ => ⟨a, p, c, by rw [h i (nblt_iff.1 hb)]; exact ha, hv⟩
  | .slZ z i k m n, u, hb, hv => by simp only [VRel, SE.vmap, vbelow] at hb hv ⊢; exact hv.imp id fun ⟨hz, a, p, c, ha, hv⟩ => ⟨hz, a, p, c, by rw [h i (nblt_iff.1 hb)]; exact ha, hv⟩
  | .one, u, hb, hv => by simpa only [VRel, SE.vmap] using hv
  | .mp i, u, hb, hv => by simp only [VRel, SE.vmap, vbelow] at hb hv ⊢; obtain ⟨a, ha, hv⟩ := hv; exact ⟨a, by rw [h i (nblt_iff.1 hb)]; exact ha, hv⟩
  | .fn f a b, u, hb, hv => by simp only [VRel, SE.vmap, vbelow, Bool.and_eq_true] at hb hv ⊢; obtain ⟨x, y, hv, h1, h2⟩ := hv; exact ⟨x, y, hv, LRel.lback h _ _ hb.1 h1, LRel.lback h _ _ hb.2 h2⟩
  | .agg l, u, hb, hv => by simp only [VRel, SE.vmap, vbelow] at hb hv ⊢; obtain ⟨x, hv, h1⟩ := hv; exact ⟨x, hv, LRel.lback h _ _ hb h1⟩
  | .tup l, u, hb, hv => by simp only [VRel, SE.vmap, vbelow] at hb hv ⊢; obtain ⟨x, hv, h1⟩ := hv; exact ⟨x, hv, LRel.lback h _ _ hb h1⟩
  | .ifc t v, u, hb, hv => by simp only [VRel, SE.vmap, vbelow] at hb hv ⊢; obtain ⟨x, hv, h1⟩ := hv; exact ⟨x, hv, VRel.vback h _ _ hb h1⟩
theorem LRel.lback {τ : Nat → Nat} {ρ ρ' : Ren} {n : Nat} (h : ∀ i, i < n → ρ i = ρ' (τ i)) : ∀ (l : List AV) (u : List Value), lbelow n l = true → LRel ρ' (lmap τ l) u → LRel ρ l u
  | [], _, _, hv => by simpa [LRel, SE.lmap] using hv
  | a :: l, _, hb, hv => by simp only [LRel, SE.lmap, lbelow, Bool.and_eq_true] at hb hv ⊢; obtain ⟨v, vs, rfl, h1, h2⟩ := hv; exact ⟨v, vs, rfl, VRel.vback h _ _ hb.1 h1, LRel.lback h _ _ hb.2 h2⟩
end

def PM.map {α β : Type} (f : α → β) : PM α → PM β
  | .leaf => .leaf
  | .node l v r => .node (l.map f) (match v with | some x => some (f x) | none => none) (r.map f)
theorem PM.get_map {α β : Type} (f : α → β) : ∀ (t : PM α) (n : Nat), (t.map f).get n = match t.get n with | some x => some (f x) | none => none
  | .leaf, n => rfl
  | .node l v r, n => by
    simp only [PM.map, PM.get]
    cases Nat.beq n 0 with
    | true => rfl
    | false =>
      cases Nat.beq (n % 2) 1 with
      | true => exact PM.get_map f l _
      | false => exact PM.get_map f r _
def PM.all {α : Type} (f : α → Bool) : PM α → Bool
  | .leaf => true
  | .node l v r => l.all f && (match v with | some x => f x | none => true) && r.all f
theorem PM.all_get {α : Type} {f : α → Bool} : ∀ {t : PM α} {n : Nat} {x : α}, t.all f = true → t.get n = some x → f x = true
  | .leaf, n, x, _, h => by cases h
  | .node l v r, n, x, ha, h => by
    simp only [PM.all, Bool.and_eq_true] at ha
    simp only [PM.get] at h
    cases hb : Nat.beq n 0 with
    | true => rw [hb] at h; simp only [cond_true] at h; subst h; exact ha.1.2
    | false =>
      rw [hb] at h; simp only [cond_false] at h
      cases hc : Nat.beq (n % 2) 1 with
      | true => rw [hc] at h; exact PM.all_get ha.1.1 h
      | false => rw [hc] at h; exact PM.all_get ha.2 h

def cmap (τ : Nat → Nat) : Cs → Cs
  | .av l => .av (lmap τ l)
  | .raw l => .raw l
  | .tr n z t => .tr n (lmap τ z) (t.map (vmap τ))
  | .row m n g wr => .row m n g wr
def cbelow (n : Nat) : Cs → Bool
  | .av l => lbelow n l
  | .raw _ => true
  | .tr _ z t => lbelow n z && t.all (vbelow n)
  | .row .. => true
theorem cmap_size (τ : Nat → Nat) (c : Cs) : (cmap τ c).size = c.size := by
  cases c <;> simp [cmap, Cs.size, lmap_eq]
theorem cmap_get (τ : Nat → Nat) (c : Cs) (k : Nat) : (cmap τ c).get k = match c.get k with | some v => some (vmap τ v) | none => none := by
  cases c with
  | av l => simp only [cmap, Cs.get, lmap_eq, List.getElem?_map]; cases l[k]? <;> rfl
  | raw l => simp only [cmap, Cs.get]; cases l[k]? <;> simp [vmap]
  | tr n z t =>
    simp only [cmap, Cs.get, PM.get_map, lmap_eq, List.length_map, List.getElem?_map]
    cases Nat.blt k n with
    | false => rfl
    | true => simp only [cond_true]; cases t.get k with
      | some v => rfl
      | none => cases z[k % z.length]? <;> rfl
  | row m n g wr =>
    simp only [cmap, Cs.get]
    cases Nat.blt k (n * m) with
    | false => rfl
    | true => simp only [cond_true]; cases (Cs.eff g wr (k / m))[k % m]? <;> simp [vmap]
theorem cbelow_get {n : Nat} {c : Cs} {k : Nat} {v : AV} (h : cbelow n c = true) (hg : c.get k = some v) : vbelow n v = true := by
  cases c with
  | av l => exact lbelow_get h hg
  | raw l =>
    simp only [Cs.get] at hg
    split at hg
    · cases hg; rfl
    · cases hg
  | tr m z t =>
    simp only [cbelow, Bool.and_eq_true] at h
    simp only [Cs.get] at hg
    cases hb : Nat.blt k m with
    | false => rw [hb] at hg; simp at hg
    | true =>
      rw [hb] at hg; simp only [cond_true] at hg
      split at hg
      · rename_i x hx; cases hg; exact PM.all_get h.2 hx
      · exact lbelow_get h.1 hg
  | row m n' g wr =>
    simp only [Cs.get] at hg
    cases hb : Nat.blt k (n' * m) with
    | false => rw [hb] at hg; simp at hg
    | true =>
      rw [hb] at hg; simp only [cond_true] at hg
      split at hg
      · cases hg; rfl
      · cases hg; rfl

def omap (τ : Nat → Nat) : AObj → AObj
  | .cells e c => .cells e (cmap τ c)
  | .room e c => .room e (cmap τ c)
  | .ro c => .ro (cmap τ c)
  | .map es k => .map (es.map fun x => (vmap τ x.1, vmap τ x.2.1, x.2.2)) k
  | .abs A => .abs A
  | .iter m since seen st => .iter (m.map τ) since seen st
def obelow (n : Nat) : AObj → Bool
  | .cells _ c => cbelow n c
  | .room _ c => cbelow n c
  | .ro c => cbelow n c
  | .map es _ => es.all fun x => vbelow n x.1 && vbelow n x.2.1
  | .abs _ => true
  | .iter m _ _ _ => match m with
    | some i => Nat.blt i n
    | none => true

theorem CRel.cmap {τ : Nat → Nat} {ρ ρ' : Ren} (h : ∀ i a, ρ i = some a → ρ' (τ i) = some a) {c : Cs} {arr : Array Value} {b : Nat} (hc : CRel ρ c arr b) : CRel ρ' (cmap τ c) arr b := by
  intro k v hk
  rw [cmap_get] at hk
  cases hg : c.get k with
  | none => rw [hg] at hk; cases hk
  | some x =>
    rw [hg] at hk; cases hk
    obtain ⟨u, hu, hr⟩ := hc k x hg
    exact ⟨u, hu, VRel.vmap h _ _ hr⟩
theorem CRel.cback {τ : Nat → Nat} {ρ ρ' : Ren} {n : Nat} (h : ∀ i, i < n → ρ i = ρ' (τ i)) {c : Cs} {arr : Array Value} {b : Nat} (hb : cbelow n c = true) (hc : CRel ρ' (SE.cmap τ c) arr b) : CRel ρ c arr b := by
  intro k v hk
  obtain ⟨u, hu, hr⟩ := hc k (vmap τ v) (by rw [cmap_get, hk])
  exact ⟨u, hu, VRel.vback h _ _ (cbelow_get hb hk) hr⟩
theorem MRel.mmap {τ : Nat → Nat} {ρ ρ' : Ren} (h : ∀ i a, ρ i = some a → ρ' (τ i) = some a) : ∀ {xs : List (AV × AV × Nat)} {es : List MapEntry}, MRel ρ xs es → MRel ρ' (xs.map fun x => (vmap τ x.1, vmap τ x.2.1, x.2.2)) es
  | [], _, hm => hm
  | _ :: _, _, ⟨e, es', he, h1, h2, h3, h4⟩ => ⟨e, es', he, VRel.vmap h _ _ h1, VRel.vmap h _ _ h2, h3, MRel.mmap h h4⟩
theorem MRel.mback {τ : Nat → Nat} {ρ ρ' : Ren} {n : Nat} (h : ∀ i, i < n → ρ i = ρ' (τ i)) : ∀ {xs : List (AV × AV × Nat)} {es : List MapEntry}, (xs.all fun x => vbelow n x.1 && vbelow n x.2.1) = true →
    MRel ρ' (xs.map fun x => (vmap τ x.1, vmap τ x.2.1, x.2.2)) es → MRel ρ xs es
  | [], _, _, hm => hm
  | x :: xs, _, hb, ⟨e, es', he, h1, h2, h3, h4⟩ => by
    simp only [List.all_cons, Bool.and_eq_true] at hb
    exact ⟨e, es', he, VRel.vback h _ _ hb.1.1 h1, VRel.vback h _ _ hb.1.2 h2, h3, MRel.mback h (by simpa using hb.2) h4⟩

theorem OHolds.omap {τ : Nat → Nat} {ρ ρ' : Ren} (h : ∀ i a, ρ i = some a → ρ' (τ i) = some a) {w : World} {T : Nat → Prop} {a : Loc} {S : Nat → Prop} {o : AObj} (ho : OHolds ρ w T a S o) : OHolds ρ' w T a S (omap τ o) := by
  cases o with
  | cells e c => obtain ⟨h0, hS, arr, h1, h2, h3, h4⟩ := ho; exact ⟨h0, hS, arr, h1, by rw [cmap_size]; exact h2, by rw [cmap_size]; exact h3, h4.cmap h⟩
  | room e c => obtain ⟨h0, hS, arr, h1, h2, h3, h4⟩ := ho; exact ⟨h0, hS, arr, h1, h2, by rw [cmap_size]; exact h3, h4.cmap h⟩
  | ro c =>
    rcases ho with h0 | ⟨hT, arr, e, f, h1, h2⟩
    · exact .inl (by rw [cmap_size]; exact h0)
    · exact .inr ⟨hT, arr, e, f, h1, h2.cmap h⟩
  | map es k => obtain ⟨hS, arr, h1, h2⟩ := ho; exact ⟨hS, arr, h1, h2.mmap h⟩
  | abs A => exact ho
  | iter m since seen st =>
    obtain ⟨h0, hS, mb, h1, h2⟩ := ho
    refine ⟨h0, hS, mb, ?_, h2⟩
    cases m with
    | none => exact h1
    | some i => obtain ⟨b, hb, hm⟩ := h1; exact ⟨b, h _ _ hb, hm⟩
theorem OHolds.oback {τ : Nat → Nat} {ρ ρ' : Ren} {n : Nat} (h : ∀ i, i < n → ρ i = ρ' (τ i)) {w : World} {T : Nat → Prop} {a : Loc} {S : Nat → Prop} {o : AObj} (hb : obelow n o = true)
    (ho : OHolds ρ' w T a S (SE.omap τ o)) : OHolds ρ w T a S o := by
  cases o with
  | cells e c => obtain ⟨h0, hS, arr, h1, h2, h3, h4⟩ := ho; rw [cmap_size] at h2 h3; exact ⟨h0, hS, arr, h1, h2, h3, h4.cback h hb⟩
  | room e c => obtain ⟨h0, hS, arr, h1, h2, h3, h4⟩ := ho; rw [cmap_size] at h3; exact ⟨h0, hS, arr, h1, h2, h3, h4.cback h hb⟩
  | ro c =>
    rcases ho with h0 | ⟨hT, arr, e, f, h1, h2⟩
    · exact .inl (by rw [← cmap_size τ]; exact h0)
    · exact .inr ⟨hT, arr, e, f, h1, h2.cback h hb⟩
  | map es k => obtain ⟨hS, arr, h1, h2⟩ := ho; exact ⟨hS, arr, h1, h2.mback h hb⟩
  | abs A => exact ho
  | iter m since seen st =>
    obtain ⟨h0, hS, mb, h1, h2⟩ := ho
    refine ⟨h0, hS, mb, ?_, h2⟩
    cases m with
    | none => exact h1
    | some i => obtain ⟨b, hb2, hm⟩ := h1; exact ⟨b, (h i (nblt_iff.1 hb)).trans hb2, hm⟩

def isRo : AObj → Bool
  | .ro _ => true
  | _ => false
/-- What an object depends on but for what is read only. -/
theorem OHolds.turnT {ρ : Ren} {w : World} {T T' : Nat → Prop} {a : Loc} {S : Nat → Prop} {o : AObj} (hr : isRo o = false) (ho : OHolds ρ w T a S o) : OHolds ρ w T' a S o := by
  cases o <;> first | exact ho | (simp [isRo] at hr)
theorem OHolds.owned {ρ : Ren} {w w' : World} {T : Nat → Prop} {a : Loc} {S : Nat → Prop} {o : AObj} (hr : isRo o = false) (ho : OHolds ρ w T a S o) (hw : ∀ b, S b → w'.heap[b]? = w.heap[b]?) : OHolds ρ w' T a S o := by
  refine OHolds.turnT (T := fun _ => True) hr ((OHolds.turnT (T' := fun _ => True) hr ho).stays fun b hb => hw b ?_)
  rcases hb with hb | hb
  · exact hb
  · exact (hb trivial).elim

/-- Part of a world: as 'Rel', but for what is new. -/
def RelS (h : Heap) (ρ : Ren) (T : Nat → Prop) (w : World) : Prop :=
  ∃ S : Nat → Nat → Prop,
    (∀ i o, h.get i = some o → ∃ a, ρ i = some a ∧ OHolds ρ w T a (S i) o) ∧
    (∀ i j o o' b, h.get i = some o → h.get j = some o' → i ≠ j → S i b → S j b → False) ∧
    (∀ i o b, h.get i = some o → S i b → T b ∧ b < w.heap.size) ∧
    (∀ i, h.next ≤ i → ρ i = none)
theorem Rel.relS {h : Heap} {ρ : Ren} {T : Nat → Prop} {w : World} (hR : Rel h ρ T w) : RelS h ρ T w := let ⟨S, h1, h2, h3, h4, _⟩ := hR; ⟨S, h1, h2, h3, h4⟩
theorem RelS.rel {h : Heap} {ρ : Ren} {T : Nat → Prop} {w : World} (hR : RelS h ρ T w) (hT : ∀ b, w.heap.size ≤ b → T b) : Rel h ρ T w := let ⟨S, h1, h2, h3, h4⟩ := hR; ⟨S, h1, h2, h3, h4, hT⟩

/-- How the numbers of a part lie in the whole: the part's first k ones by τ, its new ones behind the whole's. -/
def lay (τ : Nat → Nat) (k next : Nat) (i : Nat) : Nat := if i < k then τ i else next + (i - k)

/-- Does the part's object stand for the whole's? -/
def fits (τ : Nat → Nat) (o0 o : AObj) : Prop :=
  o = omap τ o0 ∨ ∃ c, o0 = .ro c ∧ o.conts = some (cmap τ c)

/-- A part of a heap, taken out: what may be written in it is what its objects own. -/
theorem Rel.part {h h0 : Heap} {ρ : Ren} {T : Nat → Prop} {w : World} {S : Nat → Nat → Prop} {τ : Nat → Nat}
    (h1 : ∀ i o, h.get i = some o → ∃ a, ρ i = some a ∧ OHolds ρ w T a (S i) o)
    (h2 : ∀ i j o o' b, h.get i = some o → h.get j = some o' → i ≠ j → S i b → S j b → False)
    (h3 : ∀ i o b, h.get i = some o → S i b → T b ∧ b < w.heap.size)
    (hinj : ∀ i j, i < h0.next → j < h0.next → τ i = τ j → i = j)
    (hfit : ∀ i o0, h0.get i = some o0 → i < h0.next ∧ obelow h0.next o0 = true ∧ ∃ o, h.get (τ i) = some o ∧ fits τ o0 o) :
    RelS h0 (fun i => if i < h0.next then ρ (τ i) else none) (fun b => ∃ i o0, h0.get i = some o0 ∧ isRo o0 = false ∧ S (τ i) b) w := by
  have hρ : ∀ i, i < h0.next → (fun i => if i < h0.next then ρ (τ i) else none) i = ρ (τ i) := fun i hi => by simp [hi]
  refine ⟨fun i b => (∃ o0, h0.get i = some o0 ∧ isRo o0 = false) ∧ S (τ i) b, fun i o0 hi => ?_, fun i j o o' b hi hj hij hSi hSj => ?_, fun i o0 b hi hS => ?_, fun i hi => by simp; omega⟩
  · obtain ⟨hlt, hbel, o, ho, hf⟩ := hfit i o0 hi
    obtain ⟨a, ha, hh⟩ := h1 _ o ho
    refine ⟨a, by rw [hρ i hlt]; exact ha, ?_⟩
    cases hro : isRo o0 with
    | false =>
      have hf' : o = omap τ o0 := by
        rcases hf with hf | ⟨c, rfl, _⟩
        · exact hf
        · simp [isRo] at hro
      subst hf'
      have := OHolds.oback hρ hbel hh
      have he : (fun b => (∃ o0, h0.get i = some o0 ∧ isRo o0 = false) ∧ S (τ i) b) = S (τ i) := by
        funext b; simp only [hi, Option.some.injEq, exists_eq_left', hro, true_and]
      show OHolds _ w _ a (fun b => (∃ o0, h0.get i = some o0 ∧ isRo o0 = false) ∧ S (τ i) b) o0
      rw [he]
      exact this.turnT hro
    | true =>
      cases o0 <;> simp [isRo] at hro
      rename_i c
      have notT : ∀ b, (b = a.blk) → (∀ (x : AObj), h.get (τ i) = some x → isRo x = true → ¬ T b) → ¬ ∃ j o1, h0.get j = some o1 ∧ isRo o1 = false ∧ S (τ j) b := by
        intro b hb hT ⟨j, o1, hj, hro1, hSj⟩
        obtain ⟨hjlt, _, oj, hoj, hfj⟩ := hfit j o1 hj
        by_cases hij : j = i
        · subst hij
          rw [hi] at hj; cases hj; simp [isRo] at hro1
        · have hne : τ j ≠ τ i := fun h' => hij (hinj j i hjlt hlt h')
          subst hb
          cases hro2 : isRo o with
          | true => exact hT o ho hro2 (h3 _ oj _ hoj hSj).1
          | false =>
            have hSi : S (τ i) a.blk := by
              rcases hf with hf | ⟨c', hc', hcs⟩
              · rw [hf] at hro2; simp [SE.omap, isRo] at hro2
              · cases o with
                | cells e x => exact hh.2.1
                | room e x => exact hh.2.1
                | ro x => simp [isRo] at hro2
                | map es q => simp [AObj.conts] at hcs
                | abs A => simp [AObj.conts] at hcs
                | iter m since seen st => simp [AObj.conts] at hcs
            exact h2 _ _ _ _ _ hoj ho hne hSj hSi
      have cc : ∃ x, o.conts = some x ∧ x = cmap τ c := by
        rcases hf with hf | ⟨c', hc', hcs⟩
        · subst hf; exact ⟨_, rfl, rfl⟩
        · cases hc'; exact ⟨_, hcs, rfl⟩
      obtain ⟨x, hx, rfl⟩ := cc
      cases o with
      | cells e y =>
        simp only [AObj.conts, Option.some.injEq] at hx; subst hx
        obtain ⟨g0, gS, arr, g1, g2, g3, g4⟩ := hh
        refine .inr ⟨notT _ rfl (fun z hz hz' => ?_), arr, e, (0, 0), g1, ?_⟩
        · rw [ho] at hz; cases hz; simp [isRo] at hz'
        · rw [g0]; exact g4.cback hρ hbel
      | room e y =>
        simp only [AObj.conts, Option.some.injEq] at hx; subst hx
        obtain ⟨g0, gS, arr, g1, g2, g3, g4⟩ := hh
        refine .inr ⟨notT _ rfl (fun z hz hz' => ?_), arr, e, (0, 0), g1, ?_⟩
        · rw [ho] at hz; cases hz; simp [isRo] at hz'
        · rw [g0]; exact g4.cback hρ hbel
      | ro y =>
        simp only [AObj.conts, Option.some.injEq] at hx; subst hx
        rcases hh with h0 | ⟨gT, arr, e, f, g1, g2⟩
        · exact .inl (by rw [← cmap_size τ]; exact h0)
        · exact .inr ⟨notT _ rfl (fun z hz hz' => gT), arr, e, f, g1, g2.cback hρ hbel⟩
      | map es q => simp [AObj.conts] at hx
      | abs A => simp [AObj.conts] at hx
      | iter m since seen st => simp [AObj.conts] at hx
  · exact h2 (τ i) (τ j) (Classical.choose (hfit i o hi).2.2) (Classical.choose (hfit j o' hj).2.2) b (Classical.choose_spec (hfit i o hi).2.2).1 (Classical.choose_spec (hfit j o' hj).2.2).1
      (fun h' => hij (hinj i j (hfit i o hi).1 (hfit j o' hj).1 h')) hSi.2 hSj.2
  · obtain ⟨hlt, _, x, hx, _⟩ := hfit i o0 hi
    exact ⟨⟨i, o0, hi, by obtain ⟨y, hy, hr⟩ := hS.1; rw [hi] at hy; cases hy; exact hr, hS.2⟩, (h3 _ x b hx hS.2).2⟩

/-- And laid back, as it has become. -/
theorem Rel.back {h h0' h' : Heap} {ρ ρ0' : Ren} {T T0 : Nat → Prop} {w w' : World} {S : Nat → Nat → Prop} {τ : Nat → Nat} {k0 : Nat} {own : Nat → Prop}
    (h1 : ∀ i o, h.get i = some o → ∃ a, ρ i = some a ∧ OHolds ρ w T a (S i) o)
    (h2 : ∀ i j o o' b, h.get i = some o → h.get j = some o' → i ≠ j → S i b → S j b → False)
    (h3 : ∀ i o b, h.get i = some o → S i b → T b ∧ b < w.heap.size)
    (h4 : ∀ i, h.next ≤ i → ρ i = none) (h5 : ∀ b, w.heap.size ≤ b → T b)
    (hT0 : ∀ b, T0 b → ∃ i o, i < k0 ∧ own i ∧ h.get (τ i) = some o ∧ S (τ i) b)
    (hτ : ∀ i, i < k0 → τ i < h.next)
    (hk : Keeps (fun b => T0 b ∨ w.heap.size ≤ b) w w')
    (hρ0 : ∀ i, i < k0 → ρ0' i = ρ (τ i)) (hk0 : k0 ≤ h0'.next)
    (hR : RelS h0' ρ0' (fun b => T0 b ∨ w.heap.size ≤ b) w')
    (hro : ∀ i o0, h0'.get i = some o0 → isRo o0 = true → i < k0 ∧ ¬ own i)
    (hn : h'.next = h.next + (h0'.next - k0))
    (hg : ∀ j o, h'.get j = some o → (j < h.next ∧ h.get j = some o ∧ ∀ i, i < k0 → own i → τ i ≠ j) ∨ (∃ i o0, h0'.get i = some o0 ∧ (k0 ≤ i ∨ own i) ∧ j = lay τ k0 h.next i ∧ o = omap (lay τ k0 h.next) o0)) 
    (hinj : ∀ i j, i < k0 → j < k0 → τ i = τ j → i = j) :
    ∃ ρ', ρ.le ρ' ∧ (∀ i, i < h.next → ρ' i = ρ i) ∧ (∀ i a, ρ0' i = some a → ρ' (lay τ k0 h.next i) = some a) ∧ Rel h' ρ' T w' ∧ Keeps T w w' := by
  obtain ⟨S0, r1, r2, r3, r4⟩ := hR
  let ρ' : Ren := fun j => if j < h.next then ρ j else if j < h.next + (h0'.next - k0) then ρ0' (k0 + (j - h.next)) else none
  have hle : ρ.le ρ' := fun i a ha => by
    have : i < h.next := by
      rcases Nat.lt_or_ge i h.next with h' | h'
      · exact h'
      · rw [h4 i h'] at ha; cases ha
    simp [ρ', this, ha]
  have hlay : ∀ i a, ρ0' i = some a → ρ' (lay τ k0 h.next i) = some a := fun i a ha => by
    have hi : i < h0'.next := by
      rcases Nat.lt_or_ge i h0'.next with h' | h'
      · exact h'
      · rw [r4 i h'] at ha; cases ha
    by_cases hik : i < k0
    · simp only [lay, if_pos hik, ρ', if_pos (hτ i hik)]
      rw [← hρ0 i hik]; exact ha
    · simp only [lay, if_neg hik, ρ']
      rw [if_neg (by omega), if_pos (by omega)]
      have : k0 + (h.next + (i - k0) - h.next) = i := by omega
      rw [this]; exact ha
  have hTT : ∀ b, b < w.heap.size → (T0 b ∨ w.heap.size ≤ b) → T b := fun b hb h => by
    rcases h with h | h
    · obtain ⟨i, o, _, _, ho, hS⟩ := hT0 b h
      exact (h3 _ o b ho hS).1
    · exact h5 b h
  have hTold : ∀ b, ¬ T b → b < w.heap.size := fun b hb => by
    rcases Nat.lt_or_ge b w.heap.size with h' | h'
    · exact h'
    · exact (hb (h5 b h')).elim
  have hkT : Keeps T w w' := hk.mono hTT hTold
  -- what stays of the whole lies apart from the part
  have apart : ∀ j o, h.get j = some o → (∀ i, i < k0 → own i → τ i ≠ j) → ∀ b, S j b → ¬ (T0 b ∨ w.heap.size ≤ b) := fun j o hj hne b hS hT => by
    have := (h3 j o b hj hS).2
    rcases hT with hT | hT
    · obtain ⟨i, x, hik, hown, hx, hSx⟩ := hT0 b hT
      exact h2 _ _ _ _ b hx hj (hne i hik hown) hSx hS
    · omega
  let old : Nat → Prop := fun j => j < h.next ∧ ∀ i, i < k0 → own i → τ i ≠ j
  let S' : Nat → Nat → Prop := fun j b => (old j ∧ S j b) ∨ (∃ i, j = lay τ k0 h.next i ∧ (k0 ≤ i ∨ own i) ∧ i < h0'.next ∧ S0 i b)
  have layold : ∀ i, (k0 ≤ i ∨ (i < k0 ∧ own i)) → ¬ old (lay τ k0 h.next i) := fun i hi ho => by
    by_cases hik : i < k0
    · simp only [lay, if_pos hik] at ho
      rcases hi with hi | hi
      · omega
      · exact ho.2 i hik hi.2 rfl
    · simp only [lay, if_neg hik] at ho
      have := ho.1; omega
  have layinj : ∀ i j, (k0 ≤ i ∨ own i) → (k0 ≤ j ∨ own j) → lay τ k0 h.next i = lay τ k0 h.next j → i = j := fun i j _ _ he => by
    unfold lay at he
    by_cases hik : i < k0
    · by_cases hjk : j < k0
      · rw [if_pos hik, if_pos hjk] at he; exact hinj i j hik hjk he
      · rw [if_pos hik, if_neg hjk] at he; have := hτ i hik; omega
    · by_cases hjk : j < k0
      · rw [if_neg hik, if_pos hjk] at he; have := hτ j hjk; omega
      · rw [if_neg hik, if_neg hjk] at he; omega
  refine ⟨ρ', hle, fun i hi => by simp [ρ', hi], hlay, ⟨S', fun j o hj => ?_, fun i j o o' b hi hj hij hSi hSj => ?_, fun j o b hj hS => ?_, fun j hj => ?_, fun b hb => h5 b (Nat.le_trans hk.size hb)⟩, hkT⟩
  · rcases hg j o hj with ⟨hlt, hjo, hne⟩ | ⟨i, o0, hi, hki, rfl, rfl⟩
    · obtain ⟨a, ha, hh⟩ := h1 j o hjo
      refine ⟨a, hle _ _ ha, ?_⟩
      have hSe : S' j = S j := by
        funext b
        apply propext
        constructor
        · rintro (⟨_, hS⟩ | ⟨i, hji, hki, _, _⟩)
          · exact hS
          · exfalso
            have : old j := ⟨hlt, hne⟩
            rw [hji] at this
            refine layold i ?_ this
            rcases hki with hki | hki
            · exact .inl hki
            · by_cases hik : i < k0
              · exact .inr ⟨hik, hki⟩
              · exact .inl (by omega)
        · intro hS; exact .inl ⟨⟨hlt, hne⟩, hS⟩
      rw [hSe]
      refine (hh.stays fun b hb => hk.block b ?_).mono hle
      rcases hb with hb | hb
      · exact apart j o hjo hne b hb
      · intro hT
        exact hb (hTT b (hTold b hb) hT)
    · obtain ⟨a, ha, hh⟩ := r1 i o0 hi
      refine ⟨a, hlay i a ha, ?_⟩
      have hnr : isRo o0 = false := by
        cases hr : isRo o0 with
        | false => rfl
        | true =>
          obtain ⟨hlt, hno⟩ := hro i o0 hi hr
          rcases hki with h' | h'
          · omega
          · exact (hno h').elim
      have hilt : i < h0'.next := by
        rcases Nat.lt_or_ge i h0'.next with h' | h'
        · exact h'
        · rw [r4 i h'] at ha; cases ha
      have hSe : S' (lay τ k0 h.next i) = S0 i := by
        funext b
        apply propext
        constructor
        · rintro (⟨ho, _⟩ | ⟨i', he, hki', _, hS⟩)
          · exfalso
            refine layold i ?_ ho
            rcases hki with hki | hki
            · exact .inl hki
            · by_cases hik : i < k0
              · exact .inr ⟨hik, hki⟩
              · exact .inl (by omega)
          · rw [layinj i i' hki hki' he]; exact hS
        · intro hS; exact .inr ⟨i, rfl, hki, hilt, hS⟩
      rw [hSe]
      exact (OHolds.omap hlay hh).turnT (by cases o0 <;> simp [isRo] at hnr <;> rfl)
  · have cases1 : ∀ j o, h'.get j = some o → ∀ b, S' j b → (old j ∧ S j b ∧ ∃ x, h.get j = some x) ∨ ∃ i o0, h0'.get i = some o0 ∧ (k0 ≤ i ∨ own i) ∧ j = lay τ k0 h.next i ∧ S0 i b := by
      intro j o hj b hS
      rcases hS with ⟨ho, hS⟩ | ⟨i, rfl, hki, hilt, hS⟩
      · rcases hg j o hj with ⟨_, hjo, _⟩ | ⟨i, o0, hi, hki, rfl, _⟩
        · exact .inl ⟨ho, hS, o, hjo⟩
        · exfalso
          refine layold i ?_ ho
          rcases hki with hki | hki
          · exact .inl hki
          · by_cases hik : i < k0
            · exact .inr ⟨hik, hki⟩
            · exact .inl (by omega)
      · rcases hg _ o hj with ⟨hlt, _, hne⟩ | ⟨i', o0, hi, hki', he, _⟩
        · exfalso
          refine layold i ?_ ⟨hlt, hne⟩
          rcases hki with hki | hki
          · exact .inl hki
          · by_cases hik : i < k0
            · exact .inr ⟨hik, hki⟩
            · exact .inl (by omega)
        · have := layinj i i' hki hki' he
          subst this
          exact .inr ⟨i, o0, hi, hki, rfl, hS⟩
    rcases cases1 i o hi b hSi with ⟨oi, si, x, hx⟩ | ⟨i1, x1, hx1, hk1, rfl, s1⟩
    · rcases cases1 j o' hj b hSj with ⟨oj, sj, y, hy⟩ | ⟨j1, y1, hy1, hk1, rfl, s1⟩
      · exact h2 i j x y b hx hy hij si sj
      · exact apart i x hx oi.2 b si (r3 j1 y1 b hy1 s1).1
    · rcases cases1 j o' hj b hSj with ⟨oj, sj, y, hy⟩ | ⟨j1, y1, hy1, hk2, rfl, s2⟩
      · exact apart j y hy oj.2 b sj (r3 i1 x1 b hx1 s1).1
      · exact r2 i1 j1 x1 y1 b hx1 hy1 (fun h' => hij (by rw [h'])) s1 s2
  · rcases hS with ⟨ho, hS⟩ | ⟨i, rfl, hki, hilt, hS⟩
    · rcases hg j o hj with ⟨_, hjo, _⟩ | ⟨i, o0, hi, hki, rfl, _⟩
      · have := h3 j o b hjo hS
        exact ⟨this.1, Nat.lt_of_lt_of_le this.2 hk.size⟩
      · exfalso
        refine layold i ?_ ho
        rcases hki with hki | hki
        · exact .inl hki
        · by_cases hik : i < k0
          · exact .inr ⟨hik, hki⟩
          · exact .inl (by omega)
    · rcases hg _ o hj with ⟨hlt, _, hne⟩ | ⟨i', o0, hi, hki', he, _⟩
      · exfalso
        refine layold i ?_ ⟨hlt, hne⟩
        rcases hki with hki | hki
        · exact .inl hki
        · by_cases hik : i < k0
          · exact .inr ⟨hik, hki⟩
          · exact .inl (by omega)
      · have := layinj i i' hki hki' he
        subst this
        have := r3 i o0 b hi hS
        refine ⟨?_, this.2⟩
        rcases Nat.lt_or_ge b w.heap.size with hb | hb
        · exact hTT b hb this.1
        · exact h5 b hb
  · rw [hn] at hj
    simp only [ρ']
    rw [if_neg (by omega), if_neg (by omega)]
end Go.Proofs.YtpbdlibgbkhlhaaGreat.SE
