/- Values, heaps and frames that stand for Go's values and worlds up to the numbers of blocks. Plain definitions and small laws. -/
import Derived.Calls
import Derived.Laws.World
import Derived.Laws.Sem
namespace Go.Proofs.YtpbdlibgbkhlhaaGreat.SE
open Go

/-- Where an object lies: its block, where it begins there, how many cells the block has. -/
structure Loc where
  blk : Nat
  base : Nat
  lim : Nat

abbrev Ren := Nat → Option Loc
def Ren.le (ρ ρ' : Ren) : Prop := ∀ i a, ρ i = some a → ρ' i = some a
theorem Ren.le_refl (ρ : Ren) : ρ.le ρ := fun _ _ h => h
theorem Ren.le_trans {a b c : Ren} (h : a.le b) (k : b.le c) : a.le c := fun i x hx => k i x (h i x hx)

inductive AV where
  | any
  | lit (v : Value)
  | ptr (i off : Nat)
  | sl (i off len cap : Nat)
  | slU (i off len sz : Nat)
  | ptrE (i k m j : Nat)
  | slE (i k m len cap : Nat)
  | slW (i k m len : Nat)
  | slR (i k m len : Nat)
  | slZ (z : Bool) (i k m len : Nat)
  | one
  | mp (i : Nat)
  | fn (f : Fn) (first cap : List AV)
  | agg (cs : List AV)
  | tup (vs : List AV)
  | ifc (t : TypeId) (v : AV)

mutual
def VRel (ρ : Ren) : AV → Value → Prop
  | .any, _ => True
  | .lit u, v => v = u
  | .ptr i o, v => ∃ a, ρ i = some a ∧ v = .pointer (some ⟨a.blk, a.base + o, none⟩)
  | .sl i o n c, v => ∃ a, ρ i = some a ∧ v = .slice (some ⟨a.blk, a.base + o, none⟩) n c
  | .slU i o n sz, v => ∃ a c, ρ i = some a ∧ v = .slice (some ⟨a.blk, a.base + o, none⟩) n c ∧ n ≤ c ∧ o + c * sz ≤ a.lim
  | .ptrE i k m j, v => ∃ a, ρ i = some a ∧ v = .pointer (some ⟨a.blk, a.base + (k * m + j), none⟩)
  | .slE i k m n c, v => ∃ a p, ρ i = some a ∧ v = .slice (some ⟨a.blk, p, none⟩) n c ∧ n ≤ c ∧ (c ≠ 0 → p = a.base + k * m)
  | .slW i k m n, v => ∃ a p c, ρ i = some a ∧ v = .slice (some ⟨a.blk, p, none⟩) n c ∧ n ≤ c ∧ (c ≠ 0 → p = a.base + k * m ∧ k * m + c * m ≤ a.lim)
  | .slR i k m n, v => (n = 0 ∧ v = .slice none 0 0) ∨ ∃ a p c, ρ i = some a ∧ v = .slice (some ⟨a.blk, p, none⟩) n c ∧ n ≤ c ∧ (n ≠ 0 → p = a.base + k * m)
  | .slZ z i k m n, v => (z = true ∧ n = 0 ∧ v = .slice none 0 0) ∨ (z = false ∧ ∃ a p c, ρ i = some a ∧ v = .slice (some ⟨a.blk, p, none⟩) n c ∧ n ≤ c ∧ (n ≠ 0 → p = a.base + k * m))
  | .one, v => v.oneCell' = true
  | .mp i, v => ∃ a, ρ i = some a ∧ v = .map (some a.blk)
  | .fn f fs cs, v => ∃ x y, v = .func f x y ∧ LRel ρ fs x.toList ∧ LRel ρ cs y.toList
  | .agg cs, v => ∃ vs, v = .agg vs ∧ LRel ρ cs vs.toList
  | .tup cs, v => ∃ vs, v = .tuple vs ∧ LRel ρ cs vs.toList
  | .ifc t x, v => ∃ y, v = .iface t y ∧ VRel ρ x y
def LRel (ρ : Ren) : List AV → List Value → Prop
  | [], vs => vs = []
  | a :: as, vs => ∃ v vs', vs = v :: vs' ∧ VRel ρ a v ∧ LRel ρ as vs'
end

mutual
theorem VRel.mono {ρ ρ' : Ren} (h : ρ.le ρ') : ∀ (a : AV) (v : Value), VRel ρ a v → VRel ρ' a v
  | .any, _, _ => by simp [VRel]
  | .lit u, _, hv => by simpa [VRel] using hv
  | .ptr i o, v, hv => by simp only [VRel] at hv ⊢; obtain ⟨a, ha, hv⟩ := hv; exact ⟨a, h _ _ ha, hv⟩
  | .sl i o n c, v, hv => by simp only [VRel] at hv ⊢; obtain ⟨a, ha, hv⟩ := hv; exact ⟨a, h _ _ ha, hv⟩
  | .slU i o n sz, v, hv => by simp only [VRel] at hv ⊢; obtain ⟨a, c, ha, hv⟩ := hv; exact ⟨a, c, h _ _ ha, hv⟩
  | .ptrE i k m j, v, hv => by simp only [VRel] at hv ⊢; obtain ⟨a, ha, hv⟩ := hv; exact ⟨a, h _ _ ha, hv⟩
  | .slE i k m n c, v, hv => by simp only [VRel] at hv ⊢; obtain ⟨a, p, ha, hv⟩ := hv; exact ⟨a, p, h _ _ ha, hv⟩
  | .slW i k m n, v, hv => by simp only [VRel] at hv ⊢; obtain ⟨a, p, c, ha, hv⟩ := hv; exact ⟨a, p, c, h _ _ ha, hv⟩
  | .slR i k m n, v, hv => by simp only [VRel] at hv ⊢; exact hv.imp id fun ⟨a, p, c, ha, hv⟩ => ⟨a, p, c, h _ _ ha, hv⟩
  | .slZ z i k m n, v, hv => by simp only [VRel] at hv ⊢; exact hv.imp id fun ⟨hz, a, p, c, ha, hv⟩ => ⟨hz, a, p, c, h _ _ ha, hv⟩
  | .one, v, hv => by simpa only [VRel] using hv
  | .mp i, v, hv => by simp only [VRel] at hv ⊢; obtain ⟨a, ha, hv⟩ := hv; exact ⟨a, h _ _ ha, hv⟩
  | .fn f fs cs, v, hv => by
    simp only [VRel] at hv ⊢; obtain ⟨x, y, hv, h1, h2⟩ := hv; exact ⟨x, y, hv, LRel.mono h _ _ h1, LRel.mono h _ _ h2⟩
  | .agg cs, v, hv => by simp only [VRel] at hv ⊢; obtain ⟨vs, hv, h1⟩ := hv; exact ⟨vs, hv, LRel.mono h _ _ h1⟩
  | .tup cs, v, hv => by simp only [VRel] at hv ⊢; obtain ⟨vs, hv, h1⟩ := hv; exact ⟨vs, hv, LRel.mono h _ _ h1⟩
  | .ifc t x, v, hv => by simp only [VRel] at hv ⊢; obtain ⟨y, hv, h1⟩ := hv; exact ⟨y, hv, VRel.mono h _ _ h1⟩
theorem LRel.mono {ρ ρ' : Ren} (h : ρ.le ρ') : ∀ (a : List AV) (v : List Value), LRel ρ a v → LRel ρ' a v
  | [], _, hv => by simpa [LRel] using hv
  | a :: as, vs, hv => by
    simp only [LRel] at hv ⊢; obtain ⟨v, vs', hv, h1, h2⟩ := hv; exact ⟨v, vs', hv, VRel.mono h _ _ h1, LRel.mono h _ _ h2⟩
end

theorem LRel.nil {ρ : Ren} : LRel ρ [] [] := by simp [LRel]
theorem LRel.cons {ρ : Ren} {a : AV} {v : Value} {as : List AV} {vs : List Value} (h : VRel ρ a v) (hs : LRel ρ as vs) : LRel ρ (a :: as) (v :: vs) := by
  simp only [LRel]; exact ⟨v, vs, rfl, h, hs⟩
theorem LRel.length {ρ : Ren} : ∀ {as : List AV} {vs : List Value}, LRel ρ as vs → as.length = vs.length
  | [], vs, h => by simp [LRel] at h; simp [h]
  | a :: as, vs, h => by
    simp only [LRel] at h; obtain ⟨v, vs', rfl, _, h2⟩ := h; simp [LRel.length h2]
theorem LRel.get {ρ : Ren} : ∀ {as : List AV} {vs : List Value}, LRel ρ as vs → ∀ (k : Nat) (a : AV), as[k]? = some a → ∃ v, vs[k]? = some v ∧ VRel ρ a v
  | [], _, _, k, a, ha => by simp at ha
  | x :: as, vs, h, k, a, ha => by
    simp only [LRel] at h; obtain ⟨v, vs', rfl, h1, h2⟩ := h
    cases k with
    | zero => simp at ha; subst ha; exact ⟨v, rfl, h1⟩
    | succ k => simp at ha; simpa using LRel.get h2 k a ha
theorem LRel.of_get {ρ : Ren} : ∀ {as : List AV} {vs : List Value}, as.length = vs.length → (∀ (k : Nat) (a : AV), as[k]? = some a → ∃ v, vs[k]? = some v ∧ VRel ρ a v) → LRel ρ as vs
  | [], vs, hl, _ => by simp at hl; simp [LRel, List.eq_nil_of_length_eq_zero hl.symm]
  | a :: as, [], hl, _ => by simp at hl
  | a :: as, v :: vs, hl, h => by
    refine .cons ?_ (.of_get (by simpa using hl) fun k b hb => by simpa using h (k + 1) b (by simpa using hb))
    obtain ⟨u, hu, hr⟩ := h 0 a rfl
    simp at hu; subst hu; exact hr
theorem LRel.append {ρ : Ren} : ∀ {as bs : List AV} {vs us : List Value}, LRel ρ as vs → LRel ρ bs us → LRel ρ (as ++ bs) (vs ++ us)
  | [], bs, vs, us, h, k => by simp [LRel] at h; subst h; simpa using k
  | a :: as, bs, vs, us, h, k => by
    simp only [LRel] at h; obtain ⟨v, vs', rfl, h1, h2⟩ := h
    exact .cons h1 (LRel.append h2 k)
theorem LRel.lits {ρ : Ren} (l : List Value) : LRel ρ (l.map .lit) l := by
  induction l with
  | nil => exact .nil
  | cons v l ih => exact .cons (by simp [VRel]) ih

/-! ### Maps by numbers -/
inductive PM (α : Type) where
  | leaf
  | node (l : PM α) (v : Option α) (r : PM α)

theorem nbeq_ne {m n : Nat} (h : m ≠ n) : Nat.beq m n = false := by
  cases hh : Nat.beq m n with
  | false => rfl
  | true => exact absurd (Nat.eq_of_beq_eq_true hh) h
theorem nblt_iff {m n : Nat} : Nat.blt m n = true ↔ m < n := by simp [Nat.blt, Nat.lt_iff_add_one_le]
namespace PM
variable {α : Type}
def get : PM α → Nat → Option α
  | .leaf, _ => none
  | .node l v r, n => bif Nat.beq n 0 then v else bif Nat.beq (n % 2) 1 then l.get (n / 2) else r.get (n / 2 - 1)
def setF : Nat → PM α → Nat → Option α → PM α
  | 0, t, _, _ => t
  | f + 1, .leaf, n, x => bif Nat.beq n 0 then .node .leaf x .leaf else bif Nat.beq (n % 2) 1 then .node (setF f .leaf (n / 2) x) none .leaf else .node .leaf none (setF f .leaf (n / 2 - 1) x)
  | f + 1, .node l v r, n, x => bif Nat.beq n 0 then .node l x r else bif Nat.beq (n % 2) 1 then .node (setF f l (n / 2) x) v r else .node l v (setF f r (n / 2 - 1) x)
def set (t : PM α) (n : Nat) (x : Option α) : PM α := setF (n + 1) t n x

theorem get_setF : ∀ (f : Nat) (t : PM α) (n : Nat) (x : Option α) (m : Nat), n < f → (setF f t n x).get m = if m = n then x else t.get m
  | 0, _, _, _, _, h => by omega
  | f + 1, t, n, x, m, h => by
    have key : ∀ (l r : PM α) (v : Option α), (bif Nat.beq n 0 then PM.node l x r else bif Nat.beq (n % 2) 1 then .node (setF f l (n / 2) x) v r else .node l v (setF f r (n / 2 - 1) x)).get m = if m = n then x else (PM.node l v r).get m := by
      intro l r v
      by_cases h0 : n = 0
      · subst h0
        by_cases hm : m = 0
        · subst hm; simp [get]
        · have : Nat.beq m 0 = false := nbeq_ne hm
          simp [get, hm, this]
      · have hb : Nat.beq n 0 = false := nbeq_ne h0
        rcases Nat.mod_two_eq_zero_or_one n with hp | hp
        · have hp' : Nat.beq (n % 2) 1 = false := nbeq_ne (by omega)
          simp only [hb, hp', cond_false]
          by_cases hm0 : m = 0
          · subst hm0; simp [get, Ne.symm h0]
          · have hmb : Nat.beq m 0 = false := nbeq_ne hm0
            rcases Nat.mod_two_eq_zero_or_one m with hq | hq
            · have hq' : Nat.beq (m % 2) 1 = false := nbeq_ne (by omega)
              simp only [get, hmb, hq', cond_false]
              rw [get_setF f r (n / 2 - 1) x (m / 2 - 1) (by omega)]
              by_cases hmn : m = n
              · simp [hmn]
              · rw [if_neg hmn, if_neg (by omega)]
            · have hq' : Nat.beq (m % 2) 1 = true := by rw [hq]; rfl
              simp only [get, hmb, hq', cond_false, cond_true]
              rw [if_neg (by omega)]
        · have hp' : Nat.beq (n % 2) 1 = true := by rw [hp]; rfl
          simp only [hb, hp', cond_false, cond_true]
          by_cases hm0 : m = 0
          · subst hm0; simp [get, Ne.symm h0]
          · have hmb : Nat.beq m 0 = false := nbeq_ne hm0
            rcases Nat.mod_two_eq_zero_or_one m with hq | hq
            · have hq' : Nat.beq (m % 2) 1 = false := nbeq_ne (by omega)
              simp only [get, hmb, hq', cond_false]
              rw [if_neg (by omega)]
            · have hq' : Nat.beq (m % 2) 1 = true := by rw [hq]; rfl
              simp only [get, hmb, hq', cond_false, cond_true]
              rw [get_setF f l (n / 2) x (m / 2) (by omega)]
              by_cases hmn : m = n
              · simp [hmn]
              · rw [if_neg hmn, if_neg (by omega)]
    cases t with
    | leaf =>
      have hl : ∀ k, (PM.leaf : PM α).get k = none := fun _ => rfl
      have := key .leaf .leaf none
      simp only [setF]
      rw [this]
      by_cases hm : m = n
      · simp [hm]
      · rw [if_neg hm, if_neg hm]
        simp only [get]
        cases Nat.beq m 0 <;> cases Nat.beq (m % 2) 1 <;> rfl
    | node l v r => simpa only [setF] using key l r v
theorem get_set (t : PM α) (n : Nat) (x : Option α) (m : Nat) : (t.set n x).get m = if m = n then x else t.get m := get_setF _ t n x m (by omega)
@[simp] theorem get_leaf (n : Nat) : (PM.leaf : PM α).get n = none := rfl
end PM

/-! ### Contents -/
inductive Cs where
  | av (l : List AV)
  | raw (l : List Value)
  | tr (n : Nat) (z : List AV) (t : PM AV)
  | row (m n : Nat) (g : Nat → List Value) (wr : List (Nat × List Value))

namespace Cs
/-- A row's element, behind what was written. -/
def eff (g : Nat → List Value) : List (Nat × List Value) → Nat → List Value
  | [], q => g q
  | (k, c) :: r, q => bif Nat.beq q k then c else eff g r q
def size : Cs → Nat
  | .av l => l.length
  | .raw l => l.length
  | .tr n _ _ => n
  | .row m n _ _ => n * m
def get : Cs → Nat → Option AV
  | .av l, k => l[k]?
  | .raw l, k => match l[k]? with
    | some v => some (.lit v)
    | none => none
  | .tr n z t, k => bif Nat.blt k n then (match t.get k with | some v => some v | none => z[k % z.length]?) else none
  | .row m n g wr, k => bif Nat.blt k (n * m) then (match (eff g wr (k / m))[k % m]? with | some v => some (.lit v) | none => some .any) else none
def set : Cs → Nat → AV → Option Cs
  | .av l, k, v => bif Nat.blt k l.length then some (.av (l.set k v)) else none
  | .raw l, k, v => match v with
    | .lit u => bif Nat.blt k l.length then some (.raw (l.set k u)) else none
    | _ => none
  | .tr n z t, k, v => bif Nat.blt k n then some (.tr n z (t.set k (some v))) else none
  | .row .., _, _ => none

theorem get_lt {c : Cs} {k : Nat} {v : AV} (h : c.get k = some v) : k < c.size := by
  cases c with
  | av l => exact (List.getElem?_eq_some_iff.1 h).1
  | raw l =>
    simp only [get] at h
    split at h
    · rename_i u hu; exact (List.getElem?_eq_some_iff.1 hu).1
    · cases h
  | tr n z t =>
    simp only [get] at h
    cases hb : Nat.blt k n with
    | true => simpa [size] using hb
    | false => rw [hb] at h; simp at h
  | row m n g wr =>
    simp only [get] at h
    cases hb : Nat.blt k (n * m) with
    | true => simpa [size] using hb
    | false => rw [hb] at h; simp at h

theorem set_spec {c c' : Cs} {k : Nat} {v : AV} (h : c.set k v = some c') : k < c.size ∧ c'.size = c.size ∧ ∀ j, c'.get j = if j = k then some v else c.get j := by
  cases c with
  | av l =>
    simp only [set] at h
    cases hb : Nat.blt k l.length with
    | false => rw [hb] at h; simp at h
    | true =>
      rw [hb] at h; simp at h; subst h
      have hk : k < l.length := by simpa using hb
      refine ⟨hk, by simp [size], fun j => ?_⟩
      simp only [get, List.getElem?_set]
      by_cases hj : j = k
      · subst hj; simp [hk]
      · rw [if_neg (Ne.symm hj), if_neg hj]
  | raw l =>
    cases v with
    | lit u =>
      simp only [set] at h
      cases hb : Nat.blt k l.length with
      | false => rw [hb] at h; simp at h
      | true =>
        rw [hb] at h; simp at h; subst h
        have hk : k < l.length := by simpa using hb
        refine ⟨hk, by simp [size], fun j => ?_⟩
        simp only [get, List.getElem?_set]
        by_cases hj : j = k
        · subst hj; simp [hk]
        · rw [if_neg (Ne.symm hj), if_neg hj]
    | _ => simp [set] at h
  | tr n z t =>
    simp only [set] at h
    cases hb : Nat.blt k n with
    | false => rw [hb] at h; simp at h
    | true =>
      rw [hb] at h; simp at h; subst h
      have hk : k < n := by simpa using hb
      refine ⟨hk, rfl, fun j => ?_⟩
      simp only [get, PM.get_set]
      by_cases hj : j = k
      · subst hj; simp [hb]
      · simp only [if_neg hj]
  | row m n g wr => simp [set] at h
end Cs

/-- What a part of memory is that nobody looks into: it speaks of its own blocks alone. -/
structure Own where
  holds : World → Loc → (Nat → Prop) → Prop
  stays : ∀ w w' a S, holds w a S → (∀ x, S x → w'.heap[x]? = w.heap[x]?) → holds w' a S

inductive AObj where
  | cells (e : TypeId) (c : Cs)
  | room (e : TypeId) (c : Cs)
  | ro (c : Cs)
  | map (es : List (AV × AV × Nat)) (clock : Nat)
  | abs (A : Own)
  | iter (m : Option Nat) (since : Nat) (seen : List Nat) (stepped : Nat)

def CRel (ρ : Ren) (c : Cs) (arr : Array Value) (b : Nat) : Prop := ∀ k v, c.get k = some v → ∃ u, arr[b + k]? = some u ∧ VRel ρ v u
theorem CRel.mono {ρ ρ' : Ren} (h : ρ.le ρ') {c : Cs} {arr : Array Value} {b : Nat} (hc : CRel ρ c arr b) : CRel ρ' c arr b :=
  fun k v hk => let ⟨u, hu, hr⟩ := hc k v hk; ⟨u, hu, VRel.mono h _ _ hr⟩

def MRel (ρ : Ren) : List (AV × AV × Nat) → List MapEntry → Prop
  | [], es => es = []
  | x :: xs, es => ∃ e es', es = e :: es' ∧ VRel ρ x.1 e.key ∧ VRel ρ x.2.1 e.val ∧ e.born = x.2.2 ∧ MRel ρ xs es'
theorem MRel.mono {ρ ρ' : Ren} (h : ρ.le ρ') : ∀ {xs : List (AV × AV × Nat)} {es : List MapEntry}, MRel ρ xs es → MRel ρ' xs es
  | [], _, hm => hm
  | _ :: _, _, ⟨e, es', he, h1, h2, h3, h4⟩ => ⟨e, es', he, VRel.mono h _ _ h1, VRel.mono h _ _ h2, h3, MRel.mono h h4⟩

/-- The map of an iterator. -/
def IRel (ρ : Ren) : Option Nat → Option Nat → Prop
  | none, m => m = none
  | some i, m => ∃ a, ρ i = some a ∧ m = some a.blk
theorem IRel.mono {ρ ρ' : Ren} (h : ρ.le ρ') {m : Option Nat} {b : Option Nat} (hm : IRel ρ m b) : IRel ρ' m b := by
  cases m with
  | none => exact hm
  | some i => obtain ⟨a, ha, hb⟩ := hm; exact ⟨a, h _ _ ha, hb⟩

def OHolds (ρ : Ren) (w : World) (T : Nat → Prop) (a : Loc) (S : Nat → Prop) : AObj → Prop
  | .cells e c => a.base = 0 ∧ S a.blk ∧ ∃ arr, w.heap[a.blk]? = some (.cells arr e (0, 0)) ∧ arr.size = c.size ∧ a.lim = c.size ∧ CRel ρ c arr 0
  | .room e c => a.base = 0 ∧ S a.blk ∧ ∃ arr, w.heap[a.blk]? = some (.cells arr e (0, 0)) ∧ arr.size = a.lim ∧ c.size ≤ a.lim ∧ CRel ρ c arr 0
  | .ro c => c.size = 0 ∨ (¬ T a.blk ∧ ∃ arr e f, w.heap[a.blk]? = some (.cells arr e f) ∧ CRel ρ c arr a.base)
  | .map es clock => S a.blk ∧ ∃ arr, w.heap[a.blk]? = some (.map arr clock) ∧ MRel ρ es arr.toList
  | .abs A => A.holds w a S
  | .iter m since seen st => a.base = 0 ∧ S a.blk ∧ ∃ mb, IRel ρ m mb ∧ w.heap[a.blk]? = some (.mapIter mb since seen.toArray st)

theorem OHolds.stays {ρ : Ren} {w w' : World} {T : Nat → Prop} {a : Loc} {S : Nat → Prop} {o : AObj} (h : OHolds ρ w T a S o)
    (hw : ∀ b, S b ∨ ¬ T b → w'.heap[b]? = w.heap[b]?) : OHolds ρ w' T a S o := by
  cases o with
  | cells e c => obtain ⟨h0, hS, arr, h1, h2⟩ := h; exact ⟨h0, hS, arr, by rw [hw _ (.inl hS)]; exact h1, h2⟩
  | room e c => obtain ⟨h0, hS, arr, h1, h2⟩ := h; exact ⟨h0, hS, arr, by rw [hw _ (.inl hS)]; exact h1, h2⟩
  | ro c =>
    rcases h with h0 | ⟨hT, arr, e, f, h1, h2⟩
    · exact .inl h0
    · exact .inr ⟨hT, arr, e, f, by rw [hw _ (.inr hT)]; exact h1, h2⟩
  | map es clock => obtain ⟨hS, arr, h1, h2⟩ := h; exact ⟨hS, arr, by rw [hw _ (.inl hS)]; exact h1, h2⟩
  | abs A => exact A.stays _ _ _ _ h fun x hx => hw x (.inl hx)
  | iter m since seen st => obtain ⟨h0, hS, mb, h1, h2⟩ := h; exact ⟨h0, hS, mb, h1, by rw [hw _ (.inl hS)]; exact h2⟩
theorem OHolds.mono {ρ ρ' : Ren} (hρ : ρ.le ρ') {w : World} {T : Nat → Prop} {a : Loc} {S : Nat → Prop} {o : AObj} (h : OHolds ρ w T a S o) : OHolds ρ' w T a S o := by
  cases o with
  | cells e c => obtain ⟨h0, hS, arr, h1, h2, h3, h4⟩ := h; exact ⟨h0, hS, arr, h1, h2, h3, h4.mono hρ⟩
  | room e c => obtain ⟨h0, hS, arr, h1, h2, h3, h4⟩ := h; exact ⟨h0, hS, arr, h1, h2, h3, h4.mono hρ⟩
  | ro c =>
    rcases h with h0 | ⟨hT, arr, e, f, h1, h2⟩
    · exact .inl h0
    · exact .inr ⟨hT, arr, e, f, h1, h2.mono hρ⟩
  | map es clock => obtain ⟨hS, arr, h1, h2⟩ := h; exact ⟨hS, arr, h1, h2.mono hρ⟩
  | abs A => exact h
  | iter m since seen st => obtain ⟨h0, hS, mb, h1, h2⟩ := h; exact ⟨h0, hS, mb, h1.mono hρ, h2⟩

/-- What was laid down, the latest first. -/
abbrev HM := List (Nat × Option AObj)
namespace HM
def get : HM → Nat → Option AObj
  | [], _ => none
  | (k, o) :: r, i => bif Nat.beq k i then o else get r i
def set (t : HM) (i : Nat) (o : Option AObj) : HM := match t with
  | [] => [(i, o)]
  | (k, x) :: r => bif Nat.beq k i then (i, o) :: r else (i, o) :: (k, x) :: r
theorem get_set (t : HM) (i : Nat) (o : Option AObj) (j : Nat) : (t.set i o).get j = if j = i then o else t.get j := by
  have hb : ∀ a b : Nat, Nat.beq a b = decide (a = b) := fun a b => by
    by_cases h : a = b
    · subst h; simp
    · simp [h, nbeq_ne h]
  cases t with
  | nil =>
    simp only [set, get, hb]
    by_cases h : j = i
    · subst h; simp
    · simp [h, Ne.symm h]
  | cons p r =>
    obtain ⟨k, x⟩ := p
    simp only [set, hb]
    by_cases hk : k = i
    · subst hk
      simp only [decide_true, cond_true, get, hb]
      by_cases h : j = k
      · subst h; simp
      · simp [h, Ne.symm h]
    · simp only [hk, decide_false, cond_false, get, hb]
      by_cases h : j = i
      · subst h; simp
      · simp [h, Ne.symm h]
theorem get_leaf (i : Nat) : get [] i = none := rfl
def filt (f : AObj → Bool) : HM → HM
  | [] => []
  | (k, o) :: r => (k, match o with | some x => bif f x then some x else none | none => none) :: filt f r
theorem get_filt (f : AObj → Bool) : ∀ (t : HM) (n : Nat), (filt f t).get n = match t.get n with | some x => bif f x then some x else none | none => none
  | [], n => rfl
  | (k, o) :: r, n => by
    simp only [filt, get]
    cases Nat.beq k n with
    | true => rfl
    | false => exact get_filt f r n
theorem set_set (t : HM) (i : Nat) (x y : Option AObj) : (t.set i x).set i y = t.set i y := by
  cases t with
  | nil => simp [set]
  | cons p r =>
    obtain ⟨k, z⟩ := p
    simp only [set]
    cases hb : Nat.beq k i <;> simp
end HM

structure Heap where
  next : Nat
  m : HM
namespace Heap
def get (h : Heap) (i : Nat) : Option AObj := h.m.get i
def set : Heap → Nat → AObj → Heap
  | ⟨n, m⟩, i, o => ⟨n, m.set i (some o)⟩
def drop : Heap → Nat → Heap
  | ⟨n, m⟩, i => ⟨n, m.set i none⟩
def push : Heap → AObj → Heap
  | ⟨n, m⟩, o => ⟨n + 1, m.set n (some o)⟩
/-- A new object, and what is made of its number. -/
def new : Heap → (Nat → AV) → AObj → AV × Heap
  | ⟨n, m⟩, f, o => (f n, ⟨n + 1, m.set n (some o)⟩)
theorem new_eq (h : Heap) (f : Nat → AV) (o : AObj) : h.new f o = (f h.next, h.push o) := by cases h; rfl
theorem get_set (h : Heap) (i : Nat) (o : AObj) (j : Nat) : (h.set i o).get j = if j = i then some o else h.get j := by cases h; exact HM.get_set _ _ _ _
theorem get_drop (h : Heap) (i j : Nat) : (h.drop i).get j = if j = i then none else h.get j := by cases h; exact HM.get_set _ _ _ _
theorem get_push (h : Heap) (o : AObj) (j : Nat) : (h.push o).get j = if j = h.next then some o else h.get j := by cases h; exact HM.get_set _ _ _ _
@[simp] theorem next_set (h : Heap) (i : Nat) (o : AObj) : (h.set i o).next = h.next := by cases h; rfl
@[simp] theorem next_drop (h : Heap) (i : Nat) : (h.drop i).next = h.next := by cases h; rfl
@[simp] theorem next_push (h : Heap) (o : AObj) : (h.push o).next = h.next + 1 := by cases h; rfl
end Heap

/-- The heap h stands for the world w: each object lies where ρ says; what may be written lies in T, each block in one object. -/
def Rel (h : Heap) (ρ : Ren) (T : Nat → Prop) (w : World) : Prop :=
  ∃ S : Nat → Nat → Prop,
    (∀ i o, h.get i = some o → ∃ a, ρ i = some a ∧ OHolds ρ w T a (S i) o) ∧
    (∀ i j o o' b, h.get i = some o → h.get j = some o' → i ≠ j → S i b → S j b → False) ∧
    (∀ i o b, h.get i = some o → S i b → T b ∧ b < w.heap.size) ∧
    (∀ i, h.next ≤ i → ρ i = none) ∧
    (∀ b, w.heap.size ≤ b → T b)

structure Keeps (T : Nat → Prop) (w w' : World) : Prop where
  size : w.heap.size ≤ w'.heap.size
  os : w'.os = w.os
  tape : w'.tape = w.tape
  output : w'.output = w.output
  block : ∀ b, ¬ T b → w'.heap[b]? = w.heap[b]?
theorem Keeps.refl (T : Nat → Prop) (w : World) : Keeps T w w := ⟨Nat.le_refl _, rfl, rfl, rfl, fun _ _ => rfl⟩
theorem Keeps.trans {T : Nat → Prop} {a b c : World} (h : Keeps T a b) (k : Keeps T b c) : Keeps T a c :=
  ⟨Nat.le_trans h.size k.size, k.os.trans h.os, k.tape.trans h.tape, k.output.trans h.output, fun x hx => (k.block x hx).trans (h.block x hx)⟩
theorem Keeps.drew (T : Nat → Prop) (w : World) : Keeps T w w.drew := ⟨Nat.le_refl _, rfl, rfl, rfl, fun _ _ => rfl⟩
theorem Keeps.mono {T T' : Nat → Prop} {w w' : World} (h : Keeps T w w') (hT : ∀ b, b < w.heap.size → T b → T' b) (hw : ∀ b, ¬ T' b → b < w.heap.size) : Keeps T' w w' :=
  ⟨h.size, h.os, h.tape, h.output, fun b hb => h.block b fun hT' => hb (hT b (hw b hb) hT')⟩

theorem Rel.drew {h : Heap} {ρ : Ren} {T : Nat → Prop} {w : World} (hR : Rel h ρ T w) : Rel h ρ T w.drew := by
  obtain ⟨S, h1, h2, h3, h4, h5⟩ := hR
  exact ⟨S, fun i o hi => let ⟨a, ha, ho⟩ := h1 i o hi; ⟨a, ha, ho.stays fun _ _ => rfl⟩, h2, h3, h4, h5⟩

/-- A heap of the same worlds that says less. -/
theorem Rel.less {h h' : Heap} {ρ : Ren} {T : Nat → Prop} {w : World} (hR : Rel h ρ T w) (hn : h.next ≤ h'.next) (hg : ∀ i o, h'.get i = some o → h.get i = some o) : Rel h' ρ T w := by
  obtain ⟨S, h1, h2, h3, h4, h5⟩ := hR
  exact ⟨S, fun i o hi => h1 i o (hg i o hi), fun i j o o' b hi hj => h2 i j o o' b (hg i o hi) (hg j o' hj), fun i o b hi => h3 i o b (hg i o hi), fun i hi => h4 i (Nat.le_trans hn hi), h5⟩

/-- Room of one's own: a new block. -/
theorem Rel.push {h : Heap} {ρ : Ren} {T : Nat → Prop} {w : World} (hR : Rel h ρ T w) {o : AObj} {ob : Obj} (lim : Nat)
    (ho : OHolds ρ (w.alloc ob) T ⟨w.heap.size, 0, lim⟩ (fun b => b = w.heap.size) o) :
    ∃ ρ', ρ.le ρ' ∧ ρ' h.next = some ⟨w.heap.size, 0, lim⟩ ∧ (∀ i, i < h.next → ρ' i = ρ i) ∧ Rel (h.push o) ρ' T (w.alloc ob) := by
  obtain ⟨S, h1, h2, h3, h4, h5⟩ := hR
  let ρ' : Ren := fun i => if i = h.next then some ⟨w.heap.size, 0, lim⟩ else ρ i
  have hle : ρ.le ρ' := fun i a ha => by
    by_cases hi : i = h.next
    · rw [hi, h4 h.next (Nat.le_refl _)] at ha; cases ha
    · simp [ρ', hi, ha]
  refine ⟨ρ', hle, by simp [ρ'], fun i hi => by simp [ρ', Nat.ne_of_lt hi], ?_⟩
  refine ⟨fun i => if i = h.next then (fun b => b = w.heap.size) else S i, fun i x hi => ?_, fun i j x y b hi hj hij hSi hSj => ?_, fun i x b hi hSi => ?_, fun i hi => ?_, fun b hb => h5 b (by simp at hb; omega)⟩
  · rw [Heap.get_push] at hi
    by_cases hin : i = h.next
    · rw [if_pos hin] at hi; cases hi
      refine ⟨⟨w.heap.size, 0, lim⟩, by simp [ρ', hin], ?_⟩
      simpa [hin] using ho.mono hle
    · rw [if_neg hin] at hi
      obtain ⟨a, ha, hx⟩ := h1 i x hi
      refine ⟨a, hle _ _ ha, ?_⟩
      simp only [if_neg hin]
      refine (hx.stays fun b hb => ?_).mono hle
      have hlt : b < w.heap.size := by
        rcases hb with hb | hb
        · exact (h3 i x b hi hb).2
        · rcases Nat.lt_or_ge b w.heap.size with h' | h'
          · exact h'
          · exact (hb (h5 b h')).elim
      show (w.heap.push ob)[b]? = _
      rw [Array.getElem?_push, if_neg (by omega)]
  · rw [Heap.get_push] at hi hj
    by_cases hin : i = h.next
    · have hjn : j ≠ h.next := fun h' => hij (hin.trans h'.symm)
      rw [if_neg hjn] at hj
      simp only [hin, if_true] at hSi
      simp only [if_neg hjn] at hSj
      have := (h3 j y b hj hSj).2
      omega
    · rw [if_neg hin] at hi
      simp only [if_neg hin] at hSi
      by_cases hjn : j = h.next
      · simp only [hjn, if_true] at hSj
        have := (h3 i x b hi hSi).2
        omega
      · rw [if_neg hjn] at hj
        simp only [if_neg hjn] at hSj
        exact h2 i j x y b hi hj hij hSi hSj
  · rw [Heap.get_push] at hi
    by_cases hin : i = h.next
    · simp only [hin, if_true] at hSi
      subst hSi
      exact ⟨h5 _ (Nat.le_refl _), by simp⟩
    · rw [if_neg hin] at hi
      simp only [if_neg hin] at hSi
      have := h3 i x b hi hSi
      exact ⟨this.1, by simp; omega⟩
  · have : i ≠ h.next := fun h' => by simp at hi; omega
    simp only [ρ', if_neg this]
    exact h4 i (by simp at hi; omega)

theorem Keeps.alloc {T : Nat → Prop} {w : World} (ob : Obj) (hT : ∀ b, w.heap.size ≤ b → T b) : Keeps T w (w.alloc ob) :=
  ⟨by simp, rfl, rfl, rfl, fun b hb => by
    have hlt : b < w.heap.size := by
      rcases Nat.lt_or_ge b w.heap.size with h' | h'
      · exact h'
      · exact (hb (hT b h')).elim
    show (w.heap.push ob)[b]? = _
    rw [Array.getElem?_push, if_neg (by omega)]⟩

/-- One object turns, in its own block. -/
theorem Rel.upd {h : Heap} {ρ : Ren} {T : Nat → Prop} {w w' : World} (hR : Rel h ρ T w) {i : Nat} {o o' : AObj} {a : Loc} (hi : h.get i = some o) (ha : ρ i = some a)
    (hsize : w'.heap.size = w.heap.size) (hw : ∀ b, b ≠ a.blk → w'.heap[b]? = w.heap[b]?)
    (hown : ∀ S, OHolds ρ w T a S o → S a.blk) (hnew : ∀ S, S a.blk → OHolds ρ w T a S o → OHolds ρ w' T a S o') : Rel (h.set i o') ρ T w' := by
  obtain ⟨S, h1, h2, h3, h4, h5⟩ := hR
  obtain ⟨a', ha', ho⟩ := h1 i o hi
  obtain rfl : a' = a := Option.some.inj (ha'.symm.trans ha)
  have hSi := hown _ ho
  refine ⟨S, fun j x hj => ?_, fun j k x y b hj hk hjk => ?_, fun j x b hj hS => ?_, fun j hj => h4 j (by simpa using hj), fun b hb => h5 b (by omega)⟩
  · rw [Heap.get_set] at hj
    by_cases hji : j = i
    · subst hji
      rw [if_pos rfl] at hj; cases hj
      exact ⟨a', ha, hnew _ hSi ho⟩
    · rw [if_neg hji] at hj
      obtain ⟨b, hb, hx⟩ := h1 j x hj
      refine ⟨b, hb, hx.stays fun c hc => hw c fun hcb => ?_⟩
      subst hcb
      rcases hc with hc | hc
      · exact h2 j i x o _ hj hi hji hc hSi
      · exact hc (h3 i o _ hi hSi).1
  · have get : ∀ j x, (h.set i o').get j = some x → ∃ y, h.get j = some y := fun j x hj => by
      rw [Heap.get_set] at hj
      by_cases hji : j = i
      · exact ⟨o, hji ▸ hi⟩
      · rw [if_neg hji] at hj; exact ⟨x, hj⟩
    obtain ⟨x', hx'⟩ := get j x hj
    obtain ⟨y', hy'⟩ := get k y hk
    exact h2 j k x' y' b hx' hy' hjk
  · rw [Heap.get_set] at hj
    by_cases hji : j = i
    · subst hji
      have := h3 j o b hi hS
      exact ⟨this.1, by omega⟩
    · rw [if_neg hji] at hj
      have := h3 j x b hj hS
      exact ⟨this.1, by omega⟩

theorem Rel.own_T {h : Heap} {ρ : Ren} {T : Nat → Prop} {w : World} (hR : Rel h ρ T w) {i : Nat} {o : AObj} {a : Loc} (hi : h.get i = some o) (ha : ρ i = some a)
    (hown : ∀ S, OHolds ρ w T a S o → S a.blk) : T a.blk := by
  obtain ⟨S, h1, h2, h3, h4, h5⟩ := hR
  obtain ⟨a', ha', ho⟩ := h1 i o hi
  obtain rfl : a' = a := Option.some.inj (ha'.symm.trans ha)
  exact (h3 i o _ hi (hown _ ho)).1
end Go.Proofs.YtpbdlibgbkhlhaaGreat.SE
