import Derived.Orders
import Derived.Still
import Derived.Calls
import Derived.Laws.World
import Derived.Laws.Sem
import Derived.Laws.StructEq
import Derived.Control
set_option linter.unusedVariables false
set_option linter.unusedSimpArgs false
set_option linter.unnecessarySimpa false
namespace Go.Proofs.YtenfleoejgjklaaGreat
open Go
theorem ah {α : Type _} {a : α} {l : List α} : (a :: l)[0]? = some a := rfl
theorem aj {α : Type _} (a b : α) : (some a = some b) = (a = b) := Option.some.injEq a b
theorem ak {n m : Nat} (h : Nat.beq n m = true) : n = m := Nat.eq_of_beq_eq_true h
theorem au (n : Nat) : (n : Int).toNat = n := rfl
theorem ay (n : Nat) : 0 + n = n := Nat.zero_add n
theorem aA (a b : Bool) : (Value.bool a = Value.bool b) = (a = b) := Value.bool.injEq a b
theorem aB {α : Sort _} {p : α → Prop} {b : α} : (∃ a, b = a ∧ p a) ↔ p b := exists_eq_left'
theorem aC (k : IntKind) (a : Int) (j : IntKind) (b : Int) : (Value.int k a = Value.int j b) = (k = j ∧ a = b) := Value.int.injEq k a j b
theorem aF {α : Sort _} {p : α → Prop} {b : α} : (∃ a, a = b ∧ p a) ↔ p b := exists_eq_left
theorem aG (b : Bool) : (true && b) = b := Bool.true_and b
theorem aH (n : Nat) : n + 0 = n := rfl
theorem aI (a b : Bool) : ((a && b) = true) = (a = true ∧ b = true) := Bool.and_eq_true a b
theorem aJ (α : Sort _) : (α → True) = True := implies_true α
theorem aK (n : Nat) : n - 0 = n := rfl
theorem aN (p : Prop) : (True → p) = p := true_implies p
theorem aO {α : Sort _} {a b : α} : cond true a b = a := rfl
theorem aP {α : Sort _} {a b : α} : cond false a b = b := rfl
theorem aQ {p : Prop} [inst : Decidable p] (h : decide p = true) : p := of_decide_eq_true h
theorem aS {p : Prop} [inst : Decidable p] (h : decide p = false) : ¬ p := of_decide_eq_false h
theorem aT (p : Prop) : (True ∧ p) = p := true_and p
theorem aU (p : Prop) : (p ∧ True) = p := and_true p
theorem aV (p : Prop) : (p ∧ p) = p := and_self p
theorem aW {α : Sort _} (a : α) : (a = a) = True := eq_self a
theorem aX (n : Nat) : n ≤ n := Nat.le_refl n
end Go.Proofs.YtenfleoejgjklaaGreat
section
namespace Go.Proofs.YtenfleoejgjklaaGreat.SE
open Go

inductive Stp where
 | nn (i : Nat)
 | rr (l : List Nat)
 | xx (i : Nat)

section
variable {P : Program} {ops : Array Oper} {Q : Exit->Act->World->Prop}

def Cj (P : Program) (ops : Array Oper) (w : World) (K : Act->Prop) : List Nat->Act->Prop
 | [],a => K a
 | i :: rest,a => ∃ o v,ops[i]? = some o/\YieldsAt P ops w o v a/\Cj P ops w K rest (a.put o.dst v)

def vY (P : Program) (ops : Array Oper) (Q : Exit->Act->World->Prop) : List Stp->Act->World->Prop
 | [],a,w => Q .normal a w
 | .nn i :: rest,a,w => ∃ o v,ops[i]? = some o/\Yields P ops o v a/\vY P ops Q rest (a.put o.dst v) w
 | .rr l :: rest,a,w => Cj P ops w (fun a' => vY P ops Q rest a' w) l a
 | .xx i :: rest,a,w => wpOp P ops Q i (vY P ops Q rest) a w

def without (ops : Array Oper) (r : Nat) (l : List Nat) : Nat->Array Bool->Array Bool
 | 0,s => s
 | n + 1,s => match ((Region.ready .any ops s).filter fun i => i != r && l.contains i) with
  | [] => s
  | i :: _ => without ops r l n (s.setIfInBounds i true)

def isN : Op->Bool
 | .move _ | .assign _ | .pick .. | .nilCheck _ | .binOp .. | .unOp .. | .makeFunc .. | .slice .. | .fieldAddr .. | .field .. | .indexAddr .. | .index .. | .extract .. | .build .. => true
 | .convert .. => true
 | .call c => match c.callee with
  | .builtin .len => true
  | .builtin .cap => true
  | .builtin .min => true
  | .builtin .max => true
  | _ => false
 | _ => false
theorem YieldsAt.wpOp' {w : World} {i : Nat} {o : Oper} {v : Value} {a : Act} (hi : ops[i]? = some o) (hy : YieldsAt P ops w o v a)
  {K : Act->World->Prop} (h : K (a.put o.dst v) w) : wpOp P ops Q i K a w :=
 wpOp_of_stOp (K := fun a' => K a' w) (fun _ h => h) (hy.stOp hi h)

theorem UQ {s t : Array Bool} (hsz : s.size = t.size) (h : ∀ i,s.getD i false = t.getD i false) : s = t := by
 apply Array.ext hsz
 intro i h1 h2
 have := h i
 simpa [h1,h2] using this

end
end Go.Proofs.YtenfleoejgjklaaGreat.SE
end
section
namespace Go.Proofs.YtenfleoejgjklaaGreat.SE
open Go

structure Loc where
 blk : Nat
 base : Nat
 lim : Nat

abbrev Ren := Nat->Option Loc
def Ren.le (ρ ρ' : Ren) : Prop := ∀ i a,ρ i = some a->ρ' i = some a
theorem Ren.le_refl (ρ : Ren) : ρ.le ρ := fun _ _ h => h
theorem Ren.le_trans {a b c : Ren} (h : a.le b) (k : b.le c) : a.le c := fun i x hx => k i x (h i x hx)

inductive AV where
 | any
 | lit (v : Value)
 | ptr (i off : Nat)
 | sl (i off len cap : Nat)
 | slU (i off len sz : Nat)
 | ou (i k m j : Nat)
 | slE (i k m len cap : Nat)
 | slW (i k m len : Nat)
 | slR (i k m len : Nat)
 | slZ (z : Bool) (i k m len : Nat)
 | one
 | arr (n : Nat) (g : Nat->List Value)
 | mp (i : Nat)
 | fn (f : Fn) (first cap : List AV)
 | agg (cs : List AV)
 | tup (vs : List AV)
 | ifc (t : TypeId) (v : AV)

mutual
def bP (ρ : Ren) : AV->Value->Prop
 | .any,_ => True
 | .lit u,v => v = u
 | .ptr i o,v => ∃ a,ρ i = some a/\v = .pointer (some ⟨a.blk,a.base + o,none⟩)
 | .sl i o n c,v => ∃ a,ρ i = some a/\v = .slice (some ⟨a.blk,a.base + o,none⟩) n c
 | .slU i o n sz,v => ∃ a c,ρ i = some a/\v = .slice (some ⟨a.blk,a.base + o,none⟩) n c/\n<=c/\o + c * sz<=a.lim
 | .ou i k m j,v => ∃ a,ρ i = some a/\v = .pointer (some ⟨a.blk,a.base + (k * m + j),none⟩)
 | .slE i k m n c,v => ∃ a p,ρ i = some a/\v = .slice (some ⟨a.blk,p,none⟩) n c/\n<=c/\(c ≠ 0->p = a.base + k * m)
 | .slW i k m n,v => ∃ a p c,ρ i = some a/\v = .slice (some ⟨a.blk,p,none⟩) n c/\n<=c/\(c ≠ 0->p = a.base + k * m/\k * m + c * m<=a.lim)
 | .slR i k m n,v => (n = 0/\v = .slice none 0 0) ∨ ∃ a p c,ρ i = some a/\v = .slice (some ⟨a.blk,p,none⟩) n c/\n<=c/\(n ≠ 0->p = a.base + k * m)
 | .slZ z i k m n,v => (z = true/\n = 0/\v = .slice none 0 0) ∨ (z = false/\∃ a p c,ρ i = some a/\v = .slice (some ⟨a.blk,p,none⟩) n c/\n<=c/\(n ≠ 0->p = a.base + k * m))
 | .one,v => v.oneCell' = true
 | .arr n g,v => ∃ A,v = .agg A/\A.size = n/\∀ k u,k < n->(g k)[0]? = some u->A[k]? = some u
 | .mp i,v => ∃ a,ρ i = some a/\v = .map (some a.blk)
 | .fn f fs cs,v => ∃ x y,v = .func f x y/\dZ ρ fs x.toList/\dZ ρ cs y.toList
 | .agg cs,v => ∃ vs,v = .agg vs/\dZ ρ cs vs.toList
 | .tup cs,v => ∃ vs,v = .tuple vs/\dZ ρ cs vs.toList
 | .ifc t x,v => ∃ y,v = .iface t y/\bP ρ x y
def dZ (ρ : Ren) : List AV->List Value->Prop
 | [],vs => vs = []
 | a :: as,vs => ∃ v vs',vs = v :: vs'/\bP ρ a v/\dZ ρ as vs'
end

mutual
theorem bP.mono {ρ ρ' : Ren} (h : ρ.le ρ') : ∀ (a : AV) (v : Value),bP ρ a v->bP ρ' a v
 | .any,_,_ => by simp [bP]
 | .lit u,_,hv => by simpa [bP] using hv
 | .ptr i o,v,hv => by simp only [bP] at hv ⊢; obtain ⟨a,ha,hv⟩ := hv; exact ⟨a,h _ _ ha,hv⟩
 | .sl i o n c,v,hv => by simp only [bP] at hv ⊢; obtain ⟨a,ha,hv⟩ := hv; exact ⟨a,h _ _ ha,hv⟩
 | .slU i o n sz,v,hv => by simp only [bP] at hv ⊢; obtain ⟨a,c,ha,hv⟩ := hv; exact ⟨a,c,h _ _ ha,hv⟩
 | .ou i k m j,v,hv => by simp only [bP] at hv ⊢; obtain ⟨a,ha,hv⟩ := hv; exact ⟨a,h _ _ ha,hv⟩
 | .slE i k m n c,v,hv => by simp only [bP] at hv ⊢; obtain ⟨a,p,ha,hv⟩ := hv; exact ⟨a,p,h _ _ ha,hv⟩
 | .slW i k m n,v,hv => by simp only [bP] at hv ⊢; obtain ⟨a,p,c,ha,hv⟩ := hv; exact ⟨a,p,c,h _ _ ha,hv⟩
 | .slR i k m n,v,hv => by simp only [bP] at hv ⊢; exact hv.imp id fun ⟨a,p,c,ha,hv⟩ => ⟨a,p,c,h _ _ ha,hv⟩
 | .slZ z i k m n,v,hv => by simp only [bP] at hv ⊢; exact hv.imp id fun ⟨hz,a,p,c,ha,hv⟩ => ⟨hz,a,p,c,h _ _ ha,hv⟩
 | .one,v,hv => by simpa only [bP] using hv
 | .arr n g,v,hv => by simpa only [bP] using hv
 | .mp i,v,hv => by simp only [bP] at hv ⊢; obtain ⟨a,ha,hv⟩ := hv; exact ⟨a,h _ _ ha,hv⟩
 | .fn f fs cs,v,hv => by
  simp only [bP] at hv ⊢; obtain ⟨x,y,hv,h1,h2⟩ := hv; exact ⟨x,y,hv,dZ.mono h _ _ h1,dZ.mono h _ _ h2⟩
 | .agg cs,v,hv => by simp only [bP] at hv ⊢; obtain ⟨vs,hv,h1⟩ := hv; exact ⟨vs,hv,dZ.mono h _ _ h1⟩
 | .tup cs,v,hv => by simp only [bP] at hv ⊢; obtain ⟨vs,hv,h1⟩ := hv; exact ⟨vs,hv,dZ.mono h _ _ h1⟩
 | .ifc t x,v,hv => by simp only [bP] at hv ⊢; obtain ⟨y,hv,h1⟩ := hv; exact ⟨y,hv,bP.mono h _ _ h1⟩
theorem dZ.mono {ρ ρ' : Ren} (h : ρ.le ρ') : ∀ (a : List AV) (v : List Value),dZ ρ a v->dZ ρ' a v
 | [],_,hv => by simpa [dZ] using hv
 | a :: as,vs,hv => by
  simp only [dZ] at hv ⊢; obtain ⟨v,vs',hv,h1,h2⟩ := hv; exact ⟨v,vs',hv,bP.mono h _ _ h1,dZ.mono h _ _ h2⟩
end

theorem dZ.nil {ρ : Ren} : dZ ρ [] [] := by simp [dZ]
theorem dZ.cons {ρ : Ren} {a : AV} {v : Value} {as : List AV} {vs : List Value} (h : bP ρ a v) (hs : dZ ρ as vs) : dZ ρ (a :: as) (v :: vs) := by
 simp only [dZ]; exact ⟨v,vs,rfl,h,hs⟩
theorem dZ.length {ρ : Ren} : ∀ {as : List AV} {vs : List Value},dZ ρ as vs->as.length = vs.length
 | [],vs,h => by simp [dZ] at h; simp [h]
 | a :: as,vs,h => by
  simp only [dZ] at h; obtain ⟨v,vs',rfl,_,h2⟩ := h; simp [dZ.length h2]
theorem dZ.get {ρ : Ren} : ∀ {as : List AV} {vs : List Value},dZ ρ as vs->∀ (k : Nat) (a : AV),as[k]? = some a->∃ v,vs[k]? = some v/\bP ρ a v
 | [],_,_,k,a,ha => by simp at ha
 | x :: as,vs,h,k,a,ha => by
  simp only [dZ] at h; obtain ⟨v,vs',rfl,h1,h2⟩ := h
  cases k with
  | zero => simp at ha; subst ha; exact ⟨v,rfl,h1⟩
  | succ k => simp at ha; simpa using dZ.get h2 k a ha
theorem dZ.Yj {ρ : Ren} : ∀ {as : List AV} {vs : List Value},as.length = vs.length->(∀ (k : Nat) (a : AV),as[k]? = some a->∃ v,vs[k]? = some v/\bP ρ a v)->dZ ρ as vs
 | [],vs,hl,_ => by simp at hl; simp [dZ,List.eq_nil_of_length_eq_zero hl.symm]
 | a :: as,[],hl,_ => by simp at hl
 | a :: as,v :: vs,hl,h => by
  refine .cons ?_ (.Yj (by simpa using hl) fun k b hb => by simpa using h (k + 1) b (by simpa using hb))
  obtain ⟨u,hu,hr⟩ := h 0 a rfl
  simp at hu; subst hu; exact hr
theorem dZ.append {ρ : Ren} : ∀ {as bs : List AV} {vs us : List Value},dZ ρ as vs->dZ ρ bs us->dZ ρ (as ++ bs) (vs ++ us)
 | [],bs,vs,us,h,k => by simp [dZ] at h; subst h; simpa using k
 | a :: as,bs,vs,us,h,k => by
  simp only [dZ] at h; obtain ⟨v,vs',rfl,h1,h2⟩ := h
  exact .cons h1 (dZ.append h2 k)
theorem dZ.lits {ρ : Ren} (l : List Value) : dZ ρ (l.map .lit) l := by
 induction l with
 | nil => exact .nil
 | cons v l ih => exact .cons (by simp [bP]) ih

inductive PM (α : Type) where
 | leaf
 | node (l : PM α) (v : Option α) (r : PM α)

theorem iT {m n : Nat} (h : m ≠ n) : Nat.beq m n = false := by
 cases hh : Nat.beq m n with
 | false => rfl
 | true => exact absurd (ak hh) h
theorem bQ {m n : Nat} : Nat.blt m n = true ↔ m < n := by simp [Nat.blt,Nat.lt_iff_add_one_le]
namespace PM
variable {α : Type}
def get : PM α->Nat->Option α
 | .leaf,_ => none
 | .node l v r,n => bif Nat.beq n 0 then v else bif Nat.beq (n % 2) 1 then l.get (n / 2) else r.get (n / 2 - 1)
def ai0 : Nat->PM α->Nat->Option α->PM α
 | 0,t,_,_ => t
 | f + 1,.leaf,n,x => bif Nat.beq n 0 then .node .leaf x .leaf else bif Nat.beq (n % 2) 1 then .node (ai0 f .leaf (n / 2) x) none .leaf else .node .leaf none (ai0 f .leaf (n / 2 - 1) x)
 | f + 1,.node l v r,n,x => bif Nat.beq n 0 then .node l x r else bif Nat.beq (n % 2) 1 then .node (ai0 f l (n / 2) x) v r else .node l v (ai0 f r (n / 2 - 1) x)
def set (t : PM α) (n : Nat) (x : Option α) : PM α := ai0 (n + 1) t n x

theorem KW : ∀ (f : Nat) (t : PM α) (n : Nat) (x : Option α) (m : Nat),n < f->(ai0 f t n x).get m = if m = n then x else t.get m
 | 0,_,_,_,_,h => by omega
 | f + 1,t,n,x,m,h => by
  have key : ∀ (l r : PM α) (v : Option α),(bif Nat.beq n 0 then PM.node l x r else bif Nat.beq (n % 2) 1 then .node (ai0 f l (n / 2) x) v r else .node l v (ai0 f r (n / 2 - 1) x)).get m = if m = n then x else (PM.node l v r).get m := by
   intro l r v
   by_cases h0 : n = 0
   ·subst h0
    by_cases hm : m = 0
    ·subst hm; simp [get]
    ·have : Nat.beq m 0 = false := iT hm
     simp [get,hm,this]
   ·have hb : Nat.beq n 0 = false := iT h0
    rcases Nat.mod_two_eq_zero_or_one n with hp | hp
    ·have hp' : Nat.beq (n % 2) 1 = false := iT (by omega)
     simp only [hb,hp',aP]
     by_cases hm0 : m = 0
     ·subst hm0; simp [get,Ne.symm h0]
     ·have hmb : Nat.beq m 0 = false := iT hm0
      rcases Nat.mod_two_eq_zero_or_one m with hq | hq
      ·have hq' : Nat.beq (m % 2) 1 = false := iT (by omega)
       simp only [get,hmb,hq',aP]
       rw [KW f r (n / 2 - 1) x (m / 2 - 1) (by omega)]
       by_cases hmn : m = n
       ·simp [hmn]
       ·rw [if_neg hmn,if_neg (by omega)]
      ·have hq' : Nat.beq (m % 2) 1 = true := by rw [hq]; rfl
       simp only [get,hmb,hq',aP,aO]
       rw [if_neg (by omega)]
    ·have hp' : Nat.beq (n % 2) 1 = true := by rw [hp]; rfl
     simp only [hb,hp',aP,aO]
     by_cases hm0 : m = 0
     ·subst hm0; simp [get,Ne.symm h0]
     ·have hmb : Nat.beq m 0 = false := iT hm0
      rcases Nat.mod_two_eq_zero_or_one m with hq | hq
      ·have hq' : Nat.beq (m % 2) 1 = false := iT (by omega)
       simp only [get,hmb,hq',aP]
       rw [if_neg (by omega)]
      ·have hq' : Nat.beq (m % 2) 1 = true := by rw [hq]; rfl
       simp only [get,hmb,hq',aP,aO]
       rw [KW f l (n / 2) x (m / 2) (by omega)]
       by_cases hmn : m = n
       ·simp [hmn]
       ·rw [if_neg hmn,if_neg (by omega)]
  cases t with
  | leaf =>
   have hl : ∀ k,(PM.leaf : PM α).get k = none := fun _ => rfl
   have := key .leaf .leaf none
   simp only [ai0]
   rw [this]
   by_cases hm : m = n
   ·simp [hm]
   ·rw [if_neg hm,if_neg hm]
    simp only [get]
    cases Nat.beq m 0 <;> cases Nat.beq (m % 2) 1 <;> rfl
  | node l v r => simpa only [ai0] using key l r v
theorem fG (t : PM α) (n : Nat) (x : Option α) (m : Nat) : (t.set n x).get m = if m = n then x else t.get m := KW _ t n x m (by omega)
@[simp] theorem oZ (n : Nat) : (PM.leaf : PM α).get n = none := rfl
end PM

inductive Cs where
 | av (l : List AV)
 | raw (l : List Value)
 | tr (n : Nat) (z : List AV) (t : PM AV)
 | row (m n : Nat) (g : Nat->List Value) (wr : List (Nat × List Value))
 | cat (a b : Cs)

namespace Cs
def eff (g : Nat->List Value) : List (Nat × List Value)->Nat->List Value
 | [],q => g q
 | (k,c) :: r,q => bif Nat.beq q k then c else eff g r q
def size : Cs->Nat
 | .av l => l.length
 | .raw l => l.length
 | .tr n _ _ => n
 | .row m n _ _ => n * m
 | .cat a b => a.size + b.size
def get : Cs->Nat->Option AV
 | .av l,k => l[k]?
 | .raw l,k => match l[k]? with
  | some v => some (.lit v)
  | none => none
 | .tr n z t,k => bif Nat.blt k n then (match t.get k with | some v => some v | none => z[k % z.length]?) else none
 | .row m n g wr,k => bif Nat.blt k (n * m) then (match (eff g wr (k / m))[k % m]? with | some v => some (.lit v) | none => some .any) else none
 | .cat a b,k => bif Nat.blt k a.size then a.get k else b.get (k - a.size)
def set : Cs->Nat->AV->Option Cs
 | .av l,k,v => bif Nat.blt k l.length then some (.av (l.set k v)) else none
 | .raw l,k,v => match v with
  | .lit u => bif Nat.blt k l.length then some (.raw (l.set k u)) else none
  | _ => none
 | .tr n z t,k,v => bif Nat.blt k n then some (.tr n z (t.set k (some v))) else none
 | .row ..,_,_ => none
 | .cat a b,k,v => bif Nat.blt k a.size then (match a.set k v with
  | some a' => some (.cat a' b)
  | none => none) else (match b.set (k - a.size) v with
  | some b' => some (.cat a b')
  | none => none)

theorem eF {c : Cs} {k : Nat} {v : AV} (h : c.get k = some v) : k < c.size := by
 induction c generalizing k v with
 | av l => exact (List.getElem?_eq_some_iff.1 h).1
 | raw l =>
  simp only [get] at h
  split at h
  ·rename_i u hu; exact (List.getElem?_eq_some_iff.1 hu).1
  ·cases h
 | tr n z t =>
  simp only [get] at h
  cases hb : Nat.blt k n with
  | true => simpa [size] using hb
  | false => rw [hb] at h; simp at h
 | row m n g wr =>
  simp only [get] at h
  cases hb : Nat.blt k (n * m) with
  | true => simpa [size] using hb
  | false => rw [hb] at h; simp at h
 | cat x y ihx ihy =>
  simp only [get] at h
  simp only [size]
  cases hb : Nat.blt k x.size with
  | true => rw [hb] at h; have := ihx h; omega
  | false => rw [hb] at h; have := ihy h; omega

theorem vZ {c c' : Cs} {k : Nat} {v : AV} (h : c.set k v = some c') : k < c.size/\c'.size = c.size/\∀ j,c'.get j = if j = k then some v else c.get j := by
 induction c generalizing c' k v with
 | av l =>
  simp only [set] at h
  cases hb : Nat.blt k l.length with
  | false => rw [hb] at h; simp at h
  | true =>
   rw [hb] at h; simp at h; subst h
   have hk : k < l.length := by simpa using hb
   refine ⟨hk,by simp [size],fun j => ?_⟩
   simp only [get,List.getElem?_set]
   by_cases hj : j = k
   ·subst hj; simp [hk]
   ·rw [if_neg (Ne.symm hj),if_neg hj]
 | raw l =>
  cases v with
  | lit u =>
   simp only [set] at h
   cases hb : Nat.blt k l.length with
   | false => rw [hb] at h; simp at h
   | true =>
    rw [hb] at h; simp at h; subst h
    have hk : k < l.length := by simpa using hb
    refine ⟨hk,by simp [size],fun j => ?_⟩
    simp only [get,List.getElem?_set]
    by_cases hj : j = k
    ·subst hj; simp [hk]
    ·rw [if_neg (Ne.symm hj),if_neg hj]
  | _ => simp [set] at h
 | tr n z t =>
  simp only [set] at h
  cases hb : Nat.blt k n with
  | false => rw [hb] at h; simp at h
  | true =>
   rw [hb] at h; simp at h; subst h
   have hk : k < n := by simpa using hb
   refine ⟨hk,rfl,fun j => ?_⟩
   simp only [get,PM.fG]
   by_cases hj : j = k
   ·subst hj; simp [hb]
   ·simp only [if_neg hj]
 | row m n g wr => simp [set] at h
 | cat x y ihx ihy =>
  simp only [set] at h
  cases hb : Nat.blt k x.size with
  | true =>
   rw [hb] at h; simp only [aO] at h
   split at h
   ·rename_i x' hx
    cases h
    obtain ⟨h1,h2,h3⟩ := ihx hx
    refine ⟨by simp only [size]; omega,by simp only [size,h2],fun j => ?_⟩
    simp only [get,h2,h3]
    cases hj : Nat.blt j x.size with
    | true => simp only [aO]
    | false =>
     have : ¬ j < x.size := fun hh => by rw [bQ.2 hh] at hj; cases hj
     have hjk : j ≠ k := by omega
     simp only [aP,if_neg hjk]
   ·cases h
  | false =>
   have hkx : ¬ k < x.size := fun hh => by rw [bQ.2 hh] at hb; cases hb
   rw [hb] at h; simp only [aP] at h
   split at h
   ·rename_i y' hy
    cases h
    obtain ⟨h1,h2,h3⟩ := ihy hy
    refine ⟨by simp only [size]; omega,by simp only [size,h2],fun j => ?_⟩
    simp only [get,h3]
    cases hj : Nat.blt j x.size with
    | true =>
     have := bQ.1 hj
     have hjk : j ≠ k := by omega
     simp only [aO,if_neg hjk]
    | false =>
     have : ¬ j < x.size := fun hh => by rw [bQ.2 hh] at hj; cases hj
     simp only [aP]
     by_cases he : j = k
     ·have he2 : j - x.size = k - x.size := by omega
      rw [if_pos he2,if_pos he]
     ·have he2 : ¬ j - x.size = k - x.size := by omega
      rw [if_neg he2,if_neg he]
   ·cases h
end Cs

structure Own where
 holds : World->Loc->(Nat->Prop)->Prop
 stays : ∀ w w' a S,holds w a S->(∀ x,S x->w'.heap[x]? = w.heap[x]?)->holds w' a S

inductive dF where
 | cells (e : TypeId) (c : Cs)
 | room (e : TypeId) (c : Cs)
 | ro (c : Cs)
 | map (es : List (AV × AV × Nat)) (clock : Nat)
 | abs (A : Own)
 | iter (m : Option Nat) (since : Nat) (seen : List Nat) (stepped : Nat)

def gy (ρ : Ren) (c : Cs) (arr : Array Value) (b : Nat) : Prop := ∀ k v,c.get k = some v->∃ u,arr[b + k]? = some u/\bP ρ v u
theorem gy.mono {ρ ρ' : Ren} (h : ρ.le ρ') {c : Cs} {arr : Array Value} {b : Nat} (hc : gy ρ c arr b) : gy ρ' c arr b :=
 fun k v hk => let ⟨u,hu,hr⟩ := hc k v hk; ⟨u,hu,bP.mono h _ _ hr⟩

def jY (ρ : Ren) : List (AV × AV × Nat)->List MapEntry->Prop
 | [],es => es = []
 | x :: xs,es => ∃ e es',es = e :: es'/\bP ρ x.1 e.key/\bP ρ x.2.1 e.val/\e.born = x.2.2/\jY ρ xs es'
theorem jY.mono {ρ ρ' : Ren} (h : ρ.le ρ') : ∀ {xs : List (AV × AV × Nat)} {es : List MapEntry},jY ρ xs es->jY ρ' xs es
 | [],_,hm => hm
 | _ :: _,_,⟨e,es',he,h1,h2,h3,h4⟩ => ⟨e,es',he,bP.mono h _ _ h1,bP.mono h _ _ h2,h3,jY.mono h h4⟩

def al3 (ρ : Ren) : Option Nat->Option Nat->Prop
 | none,m => m = none
 | some i,m => ∃ a,ρ i = some a/\m = some a.blk
theorem al3.mono {ρ ρ' : Ren} (h : ρ.le ρ') {m : Option Nat} {b : Option Nat} (hm : al3 ρ m b) : al3 ρ' m b := by
 cases m with
 | none => exact hm
 | some i => obtain ⟨a,ha,hb⟩ := hm; exact ⟨a,h _ _ ha,hb⟩

def dS (ρ : Ren) (w : World) (T : Nat->Prop) (a : Loc) (S : Nat->Prop) : dF->Prop
 | .cells e c => a.base = 0/\S a.blk/\∃ arr,w.heap[a.blk]? = some (.cells arr e (0,0))/\arr.size = c.size/\a.lim = c.size/\gy ρ c arr 0
 | .room e c => a.base = 0/\S a.blk/\∃ arr,w.heap[a.blk]? = some (.cells arr e (0,0))/\arr.size = a.lim/\c.size<=a.lim/\gy ρ c arr 0
 | .ro c => c.size = 0 ∨ (¬ T a.blk/\∃ arr e f,w.heap[a.blk]? = some (.cells arr e f)/\gy ρ c arr a.base)
 | .map es clock => S a.blk/\∃ arr,w.heap[a.blk]? = some (.map arr clock)/\jY ρ es arr.toList
 | .abs A => A.holds w a S
 | .iter m since seen st => a.base = 0/\S a.blk/\∃ mb,al3 ρ m mb/\w.heap[a.blk]? = some (.mapIter mb since seen.toArray st)

theorem dS.stays {ρ : Ren} {w w' : World} {T : Nat->Prop} {a : Loc} {S : Nat->Prop} {o : dF} (h : dS ρ w T a S o)
  (hw : ∀ b,S b ∨ ¬ T b->w'.heap[b]? = w.heap[b]?) : dS ρ w' T a S o := by
 cases o with
 | cells e c => obtain ⟨h0,hS,arr,h1,h2⟩ := h; exact ⟨h0,hS,arr,by rw [hw _ (.inl hS)]; exact h1,h2⟩
 | room e c => obtain ⟨h0,hS,arr,h1,h2⟩ := h; exact ⟨h0,hS,arr,by rw [hw _ (.inl hS)]; exact h1,h2⟩
 | ro c =>
  rcases h with h0 | ⟨hT,arr,e,f,h1,h2⟩
  ·exact .inl h0
  ·exact .inr ⟨hT,arr,e,f,by rw [hw _ (.inr hT)]; exact h1,h2⟩
 | map es clock => obtain ⟨hS,arr,h1,h2⟩ := h; exact ⟨hS,arr,by rw [hw _ (.inl hS)]; exact h1,h2⟩
 | abs A => exact A.stays _ _ _ _ h fun x hx => hw x (.inl hx)
 | iter m since seen st => obtain ⟨h0,hS,mb,h1,h2⟩ := h; exact ⟨h0,hS,mb,h1,by rw [hw _ (.inl hS)]; exact h2⟩
theorem dS.mono {ρ ρ' : Ren} (hρ : ρ.le ρ') {w : World} {T : Nat->Prop} {a : Loc} {S : Nat->Prop} {o : dF} (h : dS ρ w T a S o) : dS ρ' w T a S o := by
 cases o with
 | cells e c => obtain ⟨h0,hS,arr,h1,h2,h3,h4⟩ := h; exact ⟨h0,hS,arr,h1,h2,h3,h4.mono hρ⟩
 | room e c => obtain ⟨h0,hS,arr,h1,h2,h3,h4⟩ := h; exact ⟨h0,hS,arr,h1,h2,h3,h4.mono hρ⟩
 | ro c =>
  rcases h with h0 | ⟨hT,arr,e,f,h1,h2⟩
  ·exact .inl h0
  ·exact .inr ⟨hT,arr,e,f,h1,h2.mono hρ⟩
 | map es clock => obtain ⟨hS,arr,h1,h2⟩ := h; exact ⟨hS,arr,h1,h2.mono hρ⟩
 | abs A => exact h
 | iter m since seen st => obtain ⟨h0,hS,mb,h1,h2⟩ := h; exact ⟨h0,hS,mb,h1.mono hρ,h2⟩

abbrev HM := List (Nat × Option dF)
namespace HM
def get : HM->Nat->Option dF
 | [],_ => none
 | (k,o) :: r,i => bif Nat.beq k i then o else get r i
def set (t : HM) (i : Nat) (o : Option dF) : HM := match t with
 | [] => [(i,o)]
 | (k,x) :: r => bif Nat.beq k i then (i,o) :: r else (i,o) :: (k,x) :: r
theorem fG (t : HM) (i : Nat) (o : Option dF) (j : Nat) : (t.set i o).get j = if j = i then o else t.get j := by
 have hb : ∀ a b : Nat,Nat.beq a b = decide (a = b) := fun a b => by
  by_cases h : a = b
  ·subst h; simp
  ·simp [h,iT h]
 cases t with
 | nil =>
  simp only [set,get,hb]
  by_cases h : j = i
  ·subst h; simp
  ·simp [h,Ne.symm h]
 | cons p r =>
  obtain ⟨k,x⟩ := p
  simp only [set,hb]
  by_cases hk : k = i
  ·subst hk
   simp only [decide_true,aO,get,hb]
   by_cases h : j = k
   ·subst h; simp
   ·simp [h,Ne.symm h]
  ·simp only [hk,decide_false,aP,get,hb]
   by_cases h : j = i
   ·subst h; simp
   ·simp [h,Ne.symm h]
theorem oZ (i : Nat) : get [] i = none := rfl
def filt (f : dF->Bool) : HM->HM
 | [] => []
 | (k,o) :: r => (k,match o with | some x => bif f x then some x else none | none => none) :: filt f r
theorem KX (f : dF->Bool) : ∀ (t : HM) (n : Nat),(filt f t).get n = match t.get n with | some x => bif f x then some x else none | none => none
 | [],n => rfl
 | (k,o) :: r,n => by
  simp only [filt,get]
  cases Nat.beq k n with
  | true => rfl
  | false => exact KX f r n
end HM

structure Heap where
 next : Nat
 m : HM
namespace Heap
def get (h : Heap) (i : Nat) : Option dF := h.m.get i
def set : Heap->Nat->dF->Heap
 | ⟨n,m⟩,i,o => ⟨n,m.set i (some o)⟩
def drop : Heap->Nat->Heap
 | ⟨n,m⟩,i => ⟨n,m.set i none⟩
def push : Heap->dF->Heap
 | ⟨n,m⟩,o => ⟨n + 1,m.set n (some o)⟩
def new : Heap->(Nat->AV)->dF->AV × Heap
 | ⟨n,m⟩,f,o => (f n,⟨n + 1,m.set n (some o)⟩)
theorem Ae (h : Heap) (f : Nat->AV) (o : dF) : h.new f o = (f h.next,h.push o) := by cases h; rfl
theorem fG (h : Heap) (i : Nat) (o : dF) (j : Nat) : (h.set i o).get j = if j = i then some o else h.get j := by cases h; exact HM.fG _ _ _ _
theorem jK (h : Heap) (i j : Nat) : (h.drop i).get j = if j = i then none else h.get j := by cases h; exact HM.fG _ _ _ _
theorem jL (h : Heap) (o : dF) (j : Nat) : (h.push o).get j = if j = h.next then some o else h.get j := by cases h; exact HM.fG _ _ _ _
@[simp] theorem next_set (h : Heap) (i : Nat) (o : dF) : (h.set i o).next = h.next := by cases h; rfl
@[simp] theorem adG (h : Heap) (i : Nat) : (h.drop i).next = h.next := by cases h; rfl
@[simp] theorem aoV (h : Heap) (o : dF) : (h.push o).next = h.next + 1 := by cases h; rfl
end Heap

def Rel (h : Heap) (ρ : Ren) (T : Nat->Prop) (w : World) : Prop :=
 ∃ S : Nat->Nat->Prop,
  (∀ i o,h.get i = some o->∃ a,ρ i = some a/\dS ρ w T a (S i) o) /\
  (∀ i j o o' b,h.get i = some o->h.get j = some o'->i ≠ j->S i b->S j b->False) /\
  (∀ i o b,h.get i = some o->S i b->T b/\b < w.heap.size) /\
  (∀ i,h.next<=i->ρ i = none) /\
  (∀ b,w.heap.size<=b->T b)

structure Keeps (T : Nat->Prop) (w w' : World) : Prop where
 size : w.heap.size<=w'.heap.size
 os : w'.os = w.os
 tape : w'.tape = w.tape
 output : w'.output = w.output
 block : ∀ b,¬ T b->w'.heap[b]? = w.heap[b]?
theorem Keeps.refl (T : Nat->Prop) (w : World) : Keeps T w w := ⟨aX _,rfl,rfl,rfl,fun _ _ => rfl⟩
theorem Keeps.trans {T : Nat->Prop} {a b c : World} (h : Keeps T a b) (k : Keeps T b c) : Keeps T a c :=
 ⟨Nat.le_trans h.size k.size,k.os.trans h.os,k.tape.trans h.tape,k.output.trans h.output,fun x hx => (k.block x hx).trans (h.block x hx)⟩
theorem Keeps.drew (T : Nat->Prop) (w : World) : Keeps T w w.drew := ⟨aX _,rfl,rfl,rfl,fun _ _ => rfl⟩
theorem Keeps.mono {T T' : Nat->Prop} {w w' : World} (h : Keeps T w w') (hT : ∀ b,b < w.heap.size->T b->T' b) (hw : ∀ b,¬ T' b->b < w.heap.size) : Keeps T' w w' :=
 ⟨h.size,h.os,h.tape,h.output,fun b hb => h.block b fun hT' => hb (hT b (hw b hb) hT')⟩

theorem Rel.drew {h : Heap} {ρ : Ren} {T : Nat->Prop} {w : World} (hR : Rel h ρ T w) : Rel h ρ T w.drew := by
 obtain ⟨S,h1,h2,h3,h4,h5⟩ := hR
 exact ⟨S,fun i o hi => let ⟨a,ha,ho⟩ := h1 i o hi; ⟨a,ha,ho.stays fun _ _ => rfl⟩,h2,h3,h4,h5⟩

theorem Rel.less {h h' : Heap} {ρ : Ren} {T : Nat->Prop} {w : World} (hR : Rel h ρ T w) (hn : h.next<=h'.next) (hg : ∀ i o,h'.get i = some o->h.get i = some o) : Rel h' ρ T w := by
 obtain ⟨S,h1,h2,h3,h4,h5⟩ := hR
 exact ⟨S,fun i o hi => h1 i o (hg i o hi),fun i j o o' b hi hj => h2 i j o o' b (hg i o hi) (hg j o' hj),fun i o b hi => h3 i o b (hg i o hi),fun i hi => h4 i (Nat.le_trans hn hi),h5⟩

theorem Rel.push {h : Heap} {ρ : Ren} {T : Nat->Prop} {w : World} (hR : Rel h ρ T w) {o : dF} {ob : Obj} (lim : Nat)
  (ho : dS ρ (w.alloc ob) T ⟨w.heap.size,0,lim⟩ (fun b => b = w.heap.size) o) :
  ∃ ρ',ρ.le ρ'/\ρ' h.next = some ⟨w.heap.size,0,lim⟩/\(∀ i,i < h.next->ρ' i = ρ i)/\Rel (h.push o) ρ' T (w.alloc ob) := by
 obtain ⟨S,h1,h2,h3,h4,h5⟩ := hR
 let ρ' : Ren := fun i => if i = h.next then some ⟨w.heap.size,0,lim⟩ else ρ i
 have hle : ρ.le ρ' := fun i a ha => by
  by_cases hi : i = h.next
  ·rw [hi,h4 h.next (aX _)] at ha; cases ha
  ·simp [ρ',hi,ha]
 refine ⟨ρ',hle,by simp [ρ'],fun i hi => by simp [ρ',Nat.ne_of_lt hi],?_⟩
 refine ⟨fun i => if i = h.next then (fun b => b = w.heap.size) else S i,fun i x hi => ?_,fun i j x y b hi hj hij hSi hSj => ?_,fun i x b hi hSi => ?_,fun i hi => ?_,fun b hb => h5 b (by simp at hb; omega)⟩
 ·rw [Heap.jL] at hi
  by_cases hin : i = h.next
  ·rw [if_pos hin] at hi; cases hi
   refine ⟨⟨w.heap.size,0,lim⟩,by simp [ρ',hin],?_⟩
   simpa [hin] using ho.mono hle
  ·rw [if_neg hin] at hi
   obtain ⟨a,ha,hx⟩ := h1 i x hi
   refine ⟨a,hle _ _ ha,?_⟩
   simp only [if_neg hin]
   refine (hx.stays fun b hb => ?_).mono hle
   have hlt : b < w.heap.size := by
    rcases hb with hb | hb
    ·exact (h3 i x b hi hb).2
    ·rcases Nat.lt_or_ge b w.heap.size with h' | h'
     ·exact h'
     ·exact (hb (h5 b h')).elim
   show (w.heap.push ob)[b]? = _
   rw [Array.getElem?_push,if_neg (by omega)]
 ·rw [Heap.jL] at hi hj
  by_cases hin : i = h.next
  ·have hjn : j ≠ h.next := fun h' => hij (hin.trans h'.symm)
   rw [if_neg hjn] at hj
   simp only [hin,if_true] at hSi
   simp only [if_neg hjn] at hSj
   have := (h3 j y b hj hSj).2
   omega
  ·rw [if_neg hin] at hi
   simp only [if_neg hin] at hSi
   by_cases hjn : j = h.next
   ·simp only [hjn,if_true] at hSj
    have := (h3 i x b hi hSi).2
    omega
   ·rw [if_neg hjn] at hj
    simp only [if_neg hjn] at hSj
    exact h2 i j x y b hi hj hij hSi hSj
 ·rw [Heap.jL] at hi
  by_cases hin : i = h.next
  ·simp only [hin,if_true] at hSi
   subst hSi
   exact ⟨h5 _ (aX _),by simp⟩
  ·rw [if_neg hin] at hi
   simp only [if_neg hin] at hSi
   have := h3 i x b hi hSi
   exact ⟨this.1,by simp; omega⟩
 ·have : i ≠ h.next := fun h' => by simp at hi; omega
  simp only [ρ',if_neg this]
  exact h4 i (by simp at hi; omega)

theorem Keeps.alloc {T : Nat->Prop} {w : World} (ob : Obj) (hT : ∀ b,w.heap.size<=b->T b) : Keeps T w (w.alloc ob) :=
 ⟨by simp,rfl,rfl,rfl,fun b hb => by
  have hlt : b < w.heap.size := by
   rcases Nat.lt_or_ge b w.heap.size with h' | h'
   ·exact h'
   ·exact (hb (hT b h')).elim
  show (w.heap.push ob)[b]? = _
  rw [Array.getElem?_push,if_neg (by omega)]⟩

theorem Rel.upd {h : Heap} {ρ : Ren} {T : Nat->Prop} {w w' : World} (hR : Rel h ρ T w) {i : Nat} {o o' : dF} {a : Loc} (hi : h.get i = some o) (ha : ρ i = some a)
  (hsize : w'.heap.size = w.heap.size) (hw : ∀ b,b ≠ a.blk->w'.heap[b]? = w.heap[b]?)
  (hown : ∀ S,dS ρ w T a S o->S a.blk) (hnew : ∀ S,S a.blk->dS ρ w T a S o->dS ρ w' T a S o') : Rel (h.set i o') ρ T w' := by
 obtain ⟨S,h1,h2,h3,h4,h5⟩ := hR
 obtain ⟨a',ha',ho⟩ := h1 i o hi
 obtain rfl : a' = a := Option.some.inj (ha'.symm.trans ha)
 have hSi := hown _ ho
 refine ⟨S,fun j x hj => ?_,fun j k x y b hj hk hjk => ?_,fun j x b hj hS => ?_,fun j hj => h4 j (by simpa using hj),fun b hb => h5 b (by omega)⟩
 ·rw [Heap.fG] at hj
  by_cases hji : j = i
  ·subst hji
   rw [if_pos rfl] at hj; cases hj
   exact ⟨a',ha,hnew _ hSi ho⟩
  ·rw [if_neg hji] at hj
   obtain ⟨b,hb,hx⟩ := h1 j x hj
   refine ⟨b,hb,hx.stays fun c hc => hw c fun hcb => ?_⟩
   subst hcb
   rcases hc with hc | hc
   ·exact h2 j i x o _ hj hi hji hc hSi
   ·exact hc (h3 i o _ hi hSi).1
 ·have get : ∀ j x,(h.set i o').get j = some x->∃ y,h.get j = some y := fun j x hj => by
   rw [Heap.fG] at hj
   by_cases hji : j = i
   ·exact ⟨o,hji ▸ hi⟩
   ·rw [if_neg hji] at hj; exact ⟨x,hj⟩
  obtain ⟨x',hx'⟩ := get j x hj
  obtain ⟨y',hy'⟩ := get k y hk
  exact h2 j k x' y' b hx' hy' hjk
 ·rw [Heap.fG] at hj
  by_cases hji : j = i
  ·subst hji
   have := h3 j o b hi hS
   exact ⟨this.1,by omega⟩
  ·rw [if_neg hji] at hj
   have := h3 j x b hj hS
   exact ⟨this.1,by omega⟩

theorem Rel.UR {h : Heap} {ρ : Ren} {T : Nat->Prop} {w : World} (hR : Rel h ρ T w) {i : Nat} {o : dF} {a : Loc} (hi : h.get i = some o) (ha : ρ i = some a)
  (hown : ∀ S,dS ρ w T a S o->S a.blk) : T a.blk := by
 obtain ⟨S,h1,h2,h3,h4,h5⟩ := hR
 obtain ⟨a',ha',ho⟩ := h1 i o hi
 obtain rfl : a' = a := Option.some.inj (ha'.symm.trans ha)
 exact (h3 i o _ hi (hown _ ho)).1
end Go.Proofs.YtenfleoejgjklaaGreat.SE
end
section
namespace Go.Proofs.YtenfleoejgjklaaGreat.SE
open Go

inductive TD where
 | bool | string
 | int (k : IntKind)
 | ptr (e : TypeId)
 | slice (e : TypeId)
 | array (n : Nat) (e : TypeId)
 | struct (fs : List (Nat × TypeId × Bool)) (held : Bool)
 | map (k e : TypeId)
 | func
 | other

structure TI where
 size : Nat
 bytes : Nat
 zero : List Value
 guard : Bool
 desc : TD
 zv : Value

def TI.agg (t : TI) : Bool := match t.desc with
 | .struct .. => true
 | .array .. => true
 | _ => false

def vV (p : Program) (t : TypeId) : TypeDesc->TD
 | .bool => .bool
 | .int k => .int k
 | .string => .string
 | .pointer e => .ptr e
 | .slice e => .slice e
 | .array n e => .array n e
 | .struct fs => .struct (fs.toList.map fun f => (f.offset, f.type, f.name != "_")) (p.stoodInHeld t)
 | .map k e => .map k e
 | .func .. => .func
 | _ => .other

def aoW (p : Program) (t : TypeId) : Option TI :=
 match p.info? t,p.underlying t with
 | some i,some d => match i.zero with
  | some z => some { size := i.size,bytes := i.bytes,zero := z.cells.toList,guard := p.eqGuardType p.depth t,desc := vV p t d,zv := z }
  | none => none
 | _,_ => none

abbrev TT := TypeId->Option TI
def TT.ok (P : Program) (tt : TT) : Prop := ∀ t ti,tt t = some ti->aoW P t = some ti

theorem TT.ok.info {P : Program} {tt : TT} (h : tt.ok P) {t : TypeId} {ti : TI} (ht : tt t = some ti) :
  ∃ i d z,P.info? t = some i/\P.underlying t = some d/\i.size = ti.size/\i.bytes = ti.bytes/\i.zero = some z/\z.cells.toList = ti.zero/\vV P t d = ti.desc := by
 have := h t ti ht
 unfold aoW at this
 split at this
 ·rename_i i d hi hd
  split at this
  ·rename_i z hz
   cases this
   exact ⟨i,d,z,hi,hd,rfl,rfl,hz,rfl,rfl⟩
  ·cases this
 ·cases this

section runs
variable {P : Program} {tt : TT} (hT : tt.ok P) {t : TypeId} {ti : TI} (ht : tt t = some ti) (w : World)
include hT ht
theorem run_sizeOf : (sizeOf t).run P w = .ok ti.size w := by
 obtain ⟨i,d,z,hi,_,hs,_⟩ := hT.info ht
 simp [sizeOf,typeInfo,hi,hs]
theorem wo : (isAgg t).run P w = .ok ti.agg w := by
 obtain ⟨i,d,z,_,hd,_,_,_,_,hm⟩ := hT.info ht
 simp only [isAgg,underlying,Sem.run_bind,run_program,Result.andThen_ok,hd,Sem.run_pure]
 cases d <;> simp [vV] at hm <;> simp [TI.agg,← hm]
theorem adH : (zeroValue t).run P w = .ok ti.zv w := by
 have := hT t ti ht
 unfold aoW at this
 split at this
 ·rename_i i d hi hd
  split at this
  ·rename_i z hz
   cases this
   simp [zeroValue,typeInfo,hi,hz]
  ·cases this
 ·cases this
theorem jc : ∃ z,(zeroValue t).run P w = .ok z w/\z.cells.toList = ti.zero := by
 obtain ⟨i,d,z,hi,_,_,_,hz,hzc,_⟩ := hT.info ht
 exact ⟨z,by simp [zeroValue,typeInfo,hi,hz],hzc⟩
theorem adI : ∃ i,(typeInfo t).run P w = .ok i w/\i.bytes = ti.bytes/\i.size = ti.size := by
 obtain ⟨i,d,z,hi,_,hs,hb,_⟩ := hT.info ht
 exact ⟨i,by simp [typeInfo,hi],hb,hs⟩
theorem dh : ∃ d,(underlying t).run P w = .ok d w/\P.underlying t = some d/\vV P t d = ti.desc := by
 obtain ⟨i,d,z,_,hd,_,_,_,_,hm⟩ := hT.info ht
 exact ⟨d,by simp [underlying,hd],hd,hm⟩
end runs

theorem bZ {P : Program} {t e : TypeId} {d : TypeDesc} (h : vV P t d = .slice e) : d = .slice e := by cases d <;> simp [vV] at h; rw [h]
theorem kD {P : Program} {t e : TypeId} {n : Nat} {d : TypeDesc} (h : vV P t d = .array n e) : d = .array n e := by cases d <;> simp [vV] at h; rw [h.1,h.2]
theorem sZ {P : Program} {t e : TypeId} {d : TypeDesc} (h : vV P t d = .ptr e) : d = .pointer e := by cases d <;> simp [vV] at h; rw [h]
theorem tq {P : Program} {t k e : TypeId} {d : TypeDesc} (h : vV P t d = .map k e) : d = .map k e := by cases d <;> simp [vV] at h; rw [h.1,h.2]
theorem iF {P : Program} {t : TypeId} {d : TypeDesc} (h : vV P t d = .string) : d = .string := by cases d <;> simp [vV] at h; rfl
theorem adJ {P : Program} {t : TypeId} {d : TypeDesc} (h : vV P t d = .bool) : d = .bool := by cases d <;> simp [vV] at h; rfl
theorem wu {P : Program} {t : TypeId} {k : IntKind} {d : TypeDesc} (h : vV P t d = .int k) : d = .int k := by cases d <;> simp [vV] at h; rw [h]
theorem TT.ok.guard {P : Program} {tt : TT} (h : tt.ok P) {t : TypeId} {ti : TI} (ht : tt t = some ti) : P.eqGuardType P.depth t = ti.guard := by
 have := h t ti ht
 unfold aoW at this
 split at this
 ·split at this
  ·cases this; rfl
  ·cases this
 ·cases this
theorem Dw {P : Program} {t : TypeId} {d : TypeDesc} (h : vV P t d = .func) : ∃ a b c,d = .func a b c := by cases d <;> simp [vV] at h; exact ⟨_,_,_,rfl⟩
theorem pq {P : Program} {t : TypeId} {d : TypeDesc} {fs : List (Nat × TypeId × Bool)} {b : Bool} (h : vV P t d = .struct fs b) :
  ∃ gs, d = .struct gs ∧ gs.toList.map (fun f => (f.offset, f.type, f.name != "_")) = fs ∧ P.stoodInHeld t = b := by
 cases d <;> simp [vV] at h; exact ⟨_,rfl,h.1,h.2⟩

def oneCell : AV->Bool
 | .any | .agg _ | .tup _ | .arr .. => false
 | .lit v => v.oneCell'
 | _ => true

def iU : AV->Option (List AV)
 | .any => none
 | .arr .. => none
 | .agg cs => some cs
 | .lit (.agg vs) => some (vs.toList.map .lit)
 | v => some [v]

theorem lW {ρ : Ren} {v : AV} {u : Value} {cs : List AV} (h : iU v = some cs) (hv : bP ρ v u) : dZ ρ cs u.cells.toList := by
 cases v with
 | any => simp [iU] at h
 | arr n g => simp [iU] at h
 | agg l => simp only [iU,aj] at h; subst h; simp only [bP] at hv; obtain ⟨vs,rfl,hl⟩ := hv; exact hl
 | lit x =>
  simp only [bP] at hv; subst hv
  cases u <;> simp only [iU,aj] at h <;> subst h <;> first | exact dZ.lits _ | exact .cons (by simp [bP]) .nil
 | ptr i o => simp only [iU,aj] at h; subst h; have hv' := hv; simp only [bP] at hv; obtain ⟨a,_,rfl⟩ := hv; exact .cons hv' .nil
 | sl i o n c => simp only [iU,aj] at h; subst h; have hv' := hv; simp only [bP] at hv; obtain ⟨a,_,rfl⟩ := hv; exact .cons hv' .nil
 | slU i o n c => simp only [iU,aj] at h; subst h; have hv' := hv; simp only [bP] at hv; obtain ⟨a,_,_,rfl,_⟩ := hv; exact .cons hv' .nil
 | ou i k m j => simp only [iU,aj] at h; subst h; have hv' := hv; simp only [bP] at hv; obtain ⟨a,_,rfl⟩ := hv; exact .cons hv' .nil
 | slE i k m n c => simp only [iU,aj] at h; subst h; have hv' := hv; simp only [bP] at hv; obtain ⟨a,p,_,rfl,_⟩ := hv; exact .cons hv' .nil
 | slW i k m n => simp only [iU,aj] at h; subst h; have hv' := hv; simp only [bP] at hv; obtain ⟨a,p,c,_,rfl,_⟩ := hv; exact .cons hv' .nil
 | slR i k m n => simp only [iU,aj] at h; subst h; have hv' := hv; simp only [bP] at hv; rcases hv with ⟨_,rfl⟩ | ⟨a,p,c,_,rfl,_⟩ <;> exact .cons hv' .nil
 | slZ z i k m n => simp only [iU,aj] at h; subst h; have hv' := hv; simp only [bP] at hv; rcases hv with ⟨_,_,rfl⟩ | ⟨_,a,p,c,_,rfl,_⟩ <;> exact .cons hv' .nil
 | one => simp only [iU,aj] at h; subst h; have hv' := hv; simp only [bP] at hv; cases u <;> first | exact .cons hv' .nil | (simp [Value.oneCell'] at hv)
 | mp i => simp only [iU,aj] at h; subst h; have hv' := hv; simp only [bP] at hv; obtain ⟨a,_,rfl⟩ := hv; exact .cons hv' .nil
 | fn f x y => simp only [iU,aj] at h; subst h; have hv' := hv; simp only [bP] at hv; obtain ⟨a,_,rfl,_⟩ := hv; exact .cons hv' .nil
 | tup l => simp only [iU,aj] at h; subst h; have hv' := hv; simp only [bP] at hv; obtain ⟨a,rfl,_⟩ := hv; exact .cons hv' .nil
 | ifc t x => simp only [iU,aj] at h; subst h; have hv' := hv; simp only [bP] at hv; obtain ⟨a,rfl,_⟩ := hv; exact .cons hv' .nil

theorem qI {ρ : Ren} {v : AV} {u : Value} (h : oneCell v = true) (hv : bP ρ v u) : u.oneCell' = true := by
 cases v <;> simp [oneCell] at h <;> simp only [bP] at hv
 case lit x => subst hv; exact h
 case ptr i o => obtain ⟨a,_,rfl⟩ := hv; rfl
 case sl i o n c => obtain ⟨a,_,rfl⟩ := hv; rfl
 case slU i o n c => obtain ⟨a,_,_,rfl,_⟩ := hv; rfl
 case ou i k m j => obtain ⟨a,_,rfl⟩ := hv; rfl
 case slE i k m n c => obtain ⟨a,p,_,rfl,_⟩ := hv; rfl
 case slW i k m n => obtain ⟨a,p,c,_,rfl,_⟩ := hv; rfl
 case slR i k m n => rcases hv with ⟨_,rfl⟩ | ⟨a,p,c,_,rfl,_⟩ <;> rfl
 case slZ z i k m n => rcases hv with ⟨_,_,rfl⟩ | ⟨_,a,p,c,_,rfl,_⟩ <;> rfl
 case one => exact hv
 case mp i => obtain ⟨a,_,rfl⟩ := hv; rfl
 case fn f x y => obtain ⟨a,_,rfl,_⟩ := hv; rfl
 case ifc t x => obtain ⟨a,rfl,_⟩ := hv; rfl

def NOk (P : Program) (s : Sem Value) (ρ : Ren) (v : AV) : Prop := ∃ u,(∀ w,s.run P w = .ok u w)/\bP ρ v u
def ROk (P : Program) (s : Sem Value) (ρ : Ren) (w : World) (v : AV) : Prop := ∃ u,s.run P w = .ok u w/\bP ρ v u
def XOk (P : Program) (s : Sem Value) (h : Heap) (ρ : Ren) (T : Nat->Prop) (w : World) (v : AV) (h' : Heap) : Prop :=
 ∃ u w' ρ',s.run P w = .ok u w'/\(∀ i,i < h.next->ρ' i = ρ i)/\ρ.le ρ'/\h.next<=h'.next/\Rel h' ρ' T w'/\bP ρ' v u/\Keeps T w w'
def dF.eP : dF->Option Cs
 | .cells _ c => some c
 | .room _ c => some c
 | .ro c => some c
 | _ => none

def cellAt (h : Heap) (i o : Nat) : Option AV :=
 match h.get i with
 | some x => match x.eP with
  | some c => c.get o
  | none => none
 | none => none

theorem Rel.cell {h : Heap} {ρ : Ren} {T : Nat->Prop} {w : World} (hR : Rel h ρ T w) {i o : Nat} {v : AV} (hc : cellAt h i o = some v) :
  ∃ a,ρ i = some a/\∃ u,w.cell? ⟨a.blk,a.base + o,none⟩ = some u/\bP ρ v u := by
 obtain ⟨S,h1,_⟩ := hR
 unfold cellAt at hc
 split at hc
 ·rename_i x hx
  obtain ⟨a,ha,ho⟩ := h1 i x hx
  refine ⟨a,ha,?_⟩
  cases x <;> simp [dF.eP] at hc
  case cells e c =>
   obtain ⟨h0,hS,arr,hb,hsz,_,hcr⟩ := ho
   obtain ⟨u,hu,hr⟩ := hcr o v hc
   exact ⟨u,by simp [World.cell?,hb,h0]; simpa using hu,hr⟩
  case room e c =>
   obtain ⟨h0,hS,arr,hb,hsz,_,hcr⟩ := ho
   obtain ⟨u,hu,hr⟩ := hcr o v hc
   exact ⟨u,by simp [World.cell?,hb,h0]; simpa using hu,hr⟩
  case ro c =>
   rcases ho with h0 | ⟨hT,arr,e,f,hb,hcr⟩
   ·have := Cs.eF hc
    omega
   ·obtain ⟨u,hu,hr⟩ := hcr o v hc
    exact ⟨u,by simp [World.cell?,hb]; exact hu,hr⟩
 ·cases hc

def Yk (h : Heap) (i : Nat) : Nat->Nat->Option (List AV)
 | _,0 => some []
 | o,n + 1 => match cellAt h i o with
  | some v => match Yk h i (o + 1) n with
   | some l => some (v :: l)
   | none => none
  | none => none

theorem uO {h : Heap} {i : Nat} : ∀ {n o : Nat} {l : List AV},Yk h i o n = some l->l.length = n
 | 0,o,l,hg => by simp [Yk] at hg; simp [← hg]
 | n + 1,o,l,hg => by
  simp only [Yk] at hg
  split at hg
  ·split at hg
   ·rename_i l' hl
    cases hg
    simp [uO hl]
   ·cases hg
  ·cases hg

theorem dV (b o n : Nat) : (Addr.add ⟨b,o,none⟩ n) = ⟨b,o + n,none⟩ := by
 unfold Addr.add
 split
 ·rename_i h; subst h; rfl
 ·rfl

theorem run_loadCellsFrom {P : Program} {h : Heap} {ρ : Ren} {T : Nat->Prop} {w : World} (hR : Rel h ρ T w) {i : Nat} {a : Loc} (ha : ρ i = some a) (o : Nat) :
  ∀ (n k : Nat) (acc : Array Value) (l : List AV),Yk h i (o + k) n = some l ->
   ∃ vs : List Value,(loadCellsFrom ⟨a.blk,a.base + o,none⟩ k n acc).run P w = .ok (acc ++ vs.toArray) w/\dZ ρ l vs
 | 0,k,acc,l,hg => by
  simp [Yk] at hg; subst hg
  exact ⟨[],by simp [loadCellsFrom],.nil⟩
 | n + 1,k,acc,l,hg => by
  simp only [Yk] at hg
  split at hg
  ·rename_i v hv
   split at hg
   ·rename_i l' hl
    cases hg
    obtain ⟨a',ha',u,hu,hr⟩ := hR.cell hv
    obtain rfl : a' = a := Option.some.inj (ha'.symm.trans ha)
    obtain ⟨vs,hvs,hlr⟩ := run_loadCellsFrom (P := P) hR ha o n (k + 1) (acc.push u) l' (by rw [← Nat.add_assoc]; exact hl)
    refine ⟨u :: vs,?_,.cons hr hlr⟩
    have e : a'.base + (o + k) = a'.base + o + k := by omega
    rw [e] at hu
    simp only [loadCellsFrom,Sem.run_bind,run_load,dV,hu,Result.andThen_ok,hvs]
    congr 1
    apply Array.ext'
    simp
   ·cases hg
  ·cases hg

def Gy (tt : TT) (t : TypeId) (a : AV) (h : Heap) : Option AV :=
 match a with
 | .ptr i o => match tt t with
  | some ti => bif ti.agg then (match Yk h i o ti.size with | some l => some (.agg l) | none => none) else cellAt h i o
  | none => none
 | _ => none

theorem nC {P : Program} {tt : TT} (hT : tt.ok P) {h : Heap} {ρ : Ren} {T : Nat->Prop} {w : World} (hR : Rel h ρ T w) {t : TypeId} {a v : AV} {u : Value}
  (hl : Gy tt t a h = some v) (hu : bP ρ a u) : ROk P (Instr.loadAt t u) ρ w v := by
 unfold Gy at hl
 split at hl
 ·rename_i i o
  split at hl
  ·rename_i ti hti
   simp only [bP] at hu
   obtain ⟨a,ha,rfl⟩ := hu
   cases hagg : ti.agg with
   | true =>
    rw [hagg] at hl
    simp only [aO] at hl
    split at hl
    ·rename_i l hg
     cases hl
     obtain ⟨vs,hvs,hlr⟩ := run_loadCellsFrom (P := P) hR ha o ti.size 0 #[] l hg
     refine ⟨.agg vs.toArray,?_,by simp only [bP]; exact ⟨vs.toArray,rfl,by simpa using hlr⟩⟩
     simp [Instr.loadAt,Instr.sureAddr,loadVar,wo hT hti,hagg,run_sizeOf hT hti,loadCells,hvs]
    ·cases hl
   | false =>
    rw [hagg] at hl
    simp only [aP] at hl
    obtain ⟨a',ha',u,hu,hr⟩ := hR.cell hl
    obtain rfl : a' = a := Option.some.inj (ha'.symm.trans ha)
    exact ⟨u,by simp [Instr.loadAt,Instr.sureAddr,loadVar,wo hT hti,hagg,hu],hr⟩
  ·cases hl
 ·cases hl

def setCell (h : Heap) (i o : Nat) (v : AV) : Option Heap :=
 match h.get i with
 | some (.cells e c) => match c.set o v with
  | some c' => some (h.set i (.cells e c'))
  | none => none
 | some (.room e c) => match c.set o v with
  | some c' => some (h.set i (.room e c'))
  | none => none
 | _ => none

theorem gy.set {ρ : Ren} {c c' : Cs} {arr : Array Value} {o : Nat} {v : AV} {u : Value} (hc : gy ρ c arr 0) (hs : c.set o v = some c') (hsz : c.size<=arr.size) (hv : bP ρ v u) :
  gy ρ c' (arr.setIfInBounds o u) 0 := by
 obtain ⟨hlt,_,hget⟩ := Cs.vZ hs
 intro k x hx
 rw [hget] at hx
 by_cases hk : k = o
 ·subst hk
  rw [if_pos rfl] at hx; cases hx
  refine ⟨u,?_,hv⟩
  have : k < arr.size := by omega
  simp [this]
 ·rw [if_neg hk] at hx
  obtain ⟨y,hy,hr⟩ := hc k x hx
  exact ⟨y,by simp only [ay] at hy ⊢; rw [Array.getElem?_setIfInBounds_ne (Ne.symm hk)]; exact hy,hr⟩

theorem heap_setCell {w : World} {b o : Nat} {u : Value} {arr : Array Value} {e : TypeId} (hb : w.heap[b]? = some (.cells arr e (0,0))) :
  (w.setCell ⟨b,o,none⟩ u).heap[b]? = some (.cells (arr.setIfInBounds o u) e (0,0)) := by
 simp [World.setCell,Array.getElem?_modify,hb]
theorem lX {w : World} {b c o : Nat} {u : Value} (h : c ≠ b) : (w.setCell ⟨b,o,none⟩ u).heap[c]? = w.heap[c]? := by
 simp only [World.setCell,Array.getElem?_modify]
 rw [if_neg (Ne.symm h)]

theorem Iz {P : Program} {h h' : Heap} {ρ : Ren} {T : Nat->Prop} {w : World} (hR : Rel h ρ T w) {i o : Nat} {v : AV} {u : Value} {a : Loc}
  (hs : setCell h i o v = some h') (ha : ρ i = some a) (h1 : oneCell v = true) (hv : bP ρ v u) :
  (store ⟨a.blk,a.base + o,none⟩ u).run P w = .ok () (w.setCell ⟨a.blk,a.base + o,none⟩ u)/\Rel h' ρ T (w.setCell ⟨a.blk,a.base + o,none⟩ u)/\h'.next = h.next /\
   Keeps T w (w.setCell ⟨a.blk,a.base + o,none⟩ u) := by
 have hu1 := qI h1 hv
 have main : ∀ (x x' : dF) (c c' : Cs) (e : TypeId) (arr : Array Value),h.get i = some x->h' = h.set i x'->c.set o v = some c'->a.base = 0 ->
   w.heap[a.blk]? = some (.cells arr e (0,0))->c.size<=arr.size->(∀ S,dS ρ w T a S x->S a.blk) ->
   (∀ S,S a.blk->dS ρ w T a S x->dS ρ (w.setCell ⟨a.blk,a.base + o,none⟩ u) T a S x') ->
   (store ⟨a.blk,a.base + o,none⟩ u).run P w = .ok () (w.setCell ⟨a.blk,a.base + o,none⟩ u)/\Rel h' ρ T (w.setCell ⟨a.blk,a.base + o,none⟩ u)/\h'.next = h.next /\
    Keeps T w (w.setCell ⟨a.blk,a.base + o,none⟩ u) := by
  intro x x' c c' e arr hx hh' hset h0 hb hsz hown hnew
  subst hh'
  obtain ⟨hlt,_,_⟩ := Cs.vZ hset
  have ho : a.base + o < arr.size := by omega
  refine ⟨?_,hR.upd hx ha (by simp) (fun b hb' => lX hb') hown hnew,by simp,⟨by simp,rfl,rfl,rfl,fun b hb' => ?_⟩⟩
  ·rw [run_store P w _ u _ hu1]
   have hcell : w.cell? ⟨a.blk,a.base + o,none⟩ = some arr[a.base + o] := by simp [World.cell?,hb,ho]
   have hfz : w.frozen? ⟨a.blk,a.base + o,none⟩ = false := by simp [World.frozen?,hb]
   simp [hcell,hfz]
  ·refine lX fun hbb => hb' ?_
   subst hbb
   exact hR.UR hx ha hown
 obtain ⟨S,r1,_⟩ := id hR
 unfold setCell at hs
 split at hs
 ·rename_i e c hx
  split at hs
  ·rename_i c' hset
   cases hs
   obtain ⟨a',ha',ho⟩ := r1 i _ hx
   obtain rfl : a' = a := Option.some.inj (ha'.symm.trans ha)
   obtain ⟨h0,hS,arr,hb,hsz,hlim,hcr⟩ := ho
   refine main _ _ c c' e arr hx rfl hset h0 hb (by omega) (fun S' h => h.2.1) fun S' hS' h => ?_
   obtain ⟨_,_,arr',hb',hsz',hlim',aoX⟩ := h
   rw [hb] at hb'; cases hb'
   refine ⟨h0,hS',_,heap_setCell hb,by simp [hsz,(Cs.vZ hset).2.1],by rw [(Cs.vZ hset).2.1]; exact hlim,?_⟩
   rw [h0,ay]
   exact hcr.set hset (by omega) hv
  ·cases hs
 ·rename_i e c hx
  split at hs
  ·rename_i c' hset
   cases hs
   obtain ⟨a',ha',ho⟩ := r1 i _ hx
   obtain rfl : a' = a := Option.some.inj (ha'.symm.trans ha)
   obtain ⟨h0,hS,arr,hb,hsz,hle,hcr⟩ := ho
   refine main _ _ c c' e arr hx rfl hset h0 hb (by omega) (fun S' h => h.2.1) fun S' hS' h => ?_
   obtain ⟨_,_,arr',hb',hsz',hle',aoX⟩ := h
   rw [hb] at hb'; cases hb'
   refine ⟨h0,hS',_,heap_setCell hb,by simp [hsz],by rw [(Cs.vZ hset).2.1]; exact hle,?_⟩
   rw [h0,ay]
   exact hcr.set hset (by omega) hv
  ·cases hs
 ·cases hs

def aoY (h : Heap) (i : Nat) : Nat->List AV->Option Heap
 | _,[] => some h
 | o,v :: vs => bif oneCell v then (match setCell h i o v with
  | some h' => aoY h' i (o + 1) vs
  | none => none) else none

theorem adK {P : Program} {T : Nat->Prop} {ρ : Ren} {i : Nat} {a : Loc} (ha : ρ i = some a) (o : Nat) :
  ∀ (vs : List AV) (us : List Value) (k : Nat) (h h' : Heap) (w : World),Rel h ρ T w->aoY h i (o + k) vs = some h'->dZ ρ vs us ->
   ∃ w',(storeCells ⟨a.blk,a.base + o,none⟩ us k).run P w = .ok () w'/\Rel h' ρ T w'/\h'.next = h.next/\Keeps T w w'
 | [],us,k,h,h',w,hR,hs,hl => by
  simp [dZ] at hl; subst hl
  simp [aoY] at hs; subst hs
  exact ⟨w,by simp [storeCells],hR,rfl,Keeps.refl _ _⟩
 | v :: vs,us,k,h,h',w,hR,hs,hl => by
  simp only [dZ] at hl
  obtain ⟨u,us',rfl,hv,hl'⟩ := hl
  simp only [aoY] at hs
  cases h1 : oneCell v with
  | false => rw [h1] at hs; simp at hs
  | true =>
   rw [h1] at hs
   simp only [aO] at hs
   split at hs
   ·rename_i h2 hset
    obtain ⟨hrun,hR2,hn2,hk2⟩ := Iz (P := P) hR hset ha h1 hv
    obtain ⟨w',hrun',hR',hn',hk'⟩ := adK (P := P) ha o vs us' (k + 1) h2 h' _ hR2 (by rw [← Nat.add_assoc]; exact hs) hl'
    refine ⟨w',?_,hR',by omega,hk2.trans hk'⟩
    have e : a.base + (o + k) = a.base + o + k := by omega
    rw [e] at hrun hrun'
    simp only [storeCells,Sem.run_bind,dV,hrun,Result.andThen_ok,hrun']
   ·cases hs

def PI (tt : TT) (t : TypeId) (a v : AV) (h : Heap) : Option Heap :=
 match a with
 | .ptr i o => match tt t with
  | some ti => match iU v with
   | some cs => bif Nat.beq cs.length ti.size then aoY h i o cs else none
   | none => none
  | none => none
 | _ => none

theorem Dx {P : Program} {tt : TT} (hT : tt.ok P) {h h' : Heap} {ρ : Ren} {T : Nat->Prop} {w : World} (hR : Rel h ρ T w) {t : TypeId} {a v : AV} {u x : Value}
  (hl : PI tt t a v h = some h') (hu : bP ρ a u) (hx : bP ρ v x) :
  ∃ w',(Instr.storeAt t u x).run P w = .ok () w'/\Rel h' ρ T w'/\h'.next = h.next/\Keeps T w w' := by
 unfold PI at hl
 split at hl
 ·rename_i i o
  split at hl
  ·rename_i ti hti
   split at hl
   ·rename_i cs hcs
    cases hb : Nat.beq cs.length ti.size with
    | false => rw [hb] at hl; simp at hl
    | true =>
     rw [hb] at hl
     simp only [aO] at hl
     have hlen : cs.length = ti.size := ak hb
     simp only [bP] at hu
     obtain ⟨a,ha,rfl⟩ := hu
     have hlr := lW hcs hx
     obtain ⟨w',hrun,hR',hn,hk⟩ := adK (P := P) ha o cs x.cells.toList 0 h h' w hR hl hlr
     refine ⟨w',?_,hR',hn,hk⟩
     have : x.cells.size = ti.size := by rw [← Array.length_toList,← hlr.length,hlen]
     simp only [Instr.storeAt,Instr.sureAddr,Sem.run_bind,Sem.run_pure,Result.andThen_ok,storeVar,run_sizeOf hT hti]
     rw [if_neg (by simpa using this)]
     simp [hrun]
   ·cases hl
  ·cases hl
 ·cases hl

theorem Rel.kE {h : Heap} {ρ : Ren} {T : Nat->Prop} {w : World} (hR : Rel h ρ T w) {e : TypeId} {c : Cs} {arr : Array Value} (hsz : arr.size = c.size)
  (hc : gy ρ c arr 0) : ∃ ρ',ρ.le ρ'/\ρ' h.next = some ⟨w.heap.size,0,c.size⟩/\(∀ i,i < h.next->ρ' i = ρ i)/\Rel (h.push (.cells e c)) ρ' T (w.alloc (.cells arr e)) /\
   Keeps T w (w.alloc (.cells arr e)) := by
 have hnew : (w.alloc (.cells arr e)).heap[w.heap.size]? = some (.cells arr e (0,0)) := by
  show (w.heap.push _)[w.heap.size]? = _
  simp
 obtain ⟨ρ',h1,h2,h3,h4⟩ := hR.push (o := .cells e c) (ob := .cells arr e) c.size ⟨rfl,rfl,arr,hnew,hsz,rfl,hc⟩
 obtain ⟨S,_,_,_,_,h5⟩ := hR
 exact ⟨ρ',h1,h2,h3,h4,Keeps.alloc _ h5⟩

theorem gy.av {ρ : Ren} {l : List AV} {vs : List Value} (h : dZ ρ l vs) : gy ρ (.av l) vs.toArray 0 := by
 intro k v hk
 obtain ⟨u,hu,hr⟩ := h.get k v hk
 exact ⟨u,by simpa using hu,hr⟩

def aoZ (e : TypeId) (v : AV) (h : Heap) : Option (AV × Heap) :=
 match iU v with
 | some cs => some (h.new (fun n => .ptr n 0) (.cells e (.av cs)))
 | none => none
theorem adL {P : Program} {h h' : Heap} {ρ : Ren} {T : Nat->Prop} {w : World} (hR : Rel h ρ T w) {e : TypeId} {v r : AV} {u : Value}
  (hb : aoZ e v h = some (r,h')) (hu : bP ρ v u) : XOk P (Instr.box e u) h ρ T w r h' := by
 unfold aoZ at hb
 split at hb
 ·rename_i cs hcs
  rw [Heap.Ae] at hb
  cases hb
  have hlr := lW hcs hu
  obtain ⟨ρ',h1,h2,h3,h4,h5⟩ := hR.kE (e := e) (c := .av cs) (arr := u.cells) (by rw [← Array.length_toList,← hlr.length]; rfl) (by simpa using gy.av hlr)
  refine ⟨.pointer (some ⟨w.heap.size,0,none⟩),_,ρ',?_,h3,h1,by simp,h4,by simp only [bP]; exact ⟨_,h2,rfl⟩,h5⟩
  simp [Instr.box,newVar,newRow]
 ·cases hb

def Yl (z : List Value) : List AV := z.map .lit
def IB (tt : TT) (e : TypeId) (h : Heap) : Option (AV × Heap) :=
 match tt e with
 | some ti => some (h.new (fun n => .ptr n 0) (.cells e (bif Nat.blt 40 ti.zero.length then .tr ti.zero.length (Yl ti.zero) .leaf else .av (Yl ti.zero))))
 | none => none

theorem gy.al4 {ρ : Ren} {l : List AV} {vs : List Value} (h : dZ ρ l vs) : gy ρ (.tr l.length l .leaf) vs.toArray 0 := by
 intro k v hk
 simp only [Cs.get,PM.oZ] at hk
 cases hb : Nat.blt k l.length with
 | false => rw [hb] at hk; simp at hk
 | true =>
  rw [hb] at hk
  simp only [aO] at hk
  have : k < l.length := by simpa using bQ.1 hb
  rw [Nat.mod_eq_of_lt this] at hk
  obtain ⟨u,hu,hr⟩ := h.get k v hk
  exact ⟨u,by simpa using hu,hr⟩

theorem PK {P : Program} {tt : TT} (hT : tt.ok P) {h h' : Heap} {ρ : Ren} {T : Nat->Prop} {w : World} (hR : Rel h ρ T w) {e : TypeId} {r : AV}
  (hb : IB tt e h = some (r,h')) : XOk P (Instr.alloc e true (.tuple #[])) h ρ T w r h' := by
 unfold IB at hb
 split at hb
 ·rename_i ti hti
  rw [Heap.Ae] at hb
  cases hb
  obtain ⟨z,hz,hzc⟩ := jc (P := P) hT hti w
  have hlr : dZ ρ (Yl ti.zero) z.cells.toList := by rw [hzc]; exact dZ.lits _
  have hsz : z.cells.size = ti.zero.length := by rw [← Array.length_toList,hzc]
  have hl : (Yl ti.zero).length = ti.zero.length := by simp [Yl]
  obtain ⟨ρ',h1,h2,h3,h4,h5⟩ := hR.kE (e := e) (c := bif Nat.blt 40 ti.zero.length then .tr ti.zero.length (Yl ti.zero) .leaf else .av (Yl ti.zero)) (arr := z.cells)
   (by cases Nat.blt 40 ti.zero.length <;> simp [Cs.size,hsz,hl])
   (by
    cases Nat.blt 40 ti.zero.length with
    | false => simpa using gy.av hlr
    | true => have := gy.al4 hlr; rw [hl] at this; simpa using this)
  refine ⟨.pointer (some ⟨w.heap.size,0,none⟩),_,ρ',?_,h3,h1,by simp,h4,by simp only [bP]; exact ⟨_,h2,rfl⟩,h5⟩
  simp [Instr.alloc,hz,newVar,newRow]
 ·cases hb
end Go.Proofs.YtenfleoejgjklaaGreat.SE
end
section
namespace Go.Proofs.YtenfleoejgjklaaGreat.SE
open Go

def wz : AV->Option (List AV)
 | .agg cs => some cs
 | .lit (.agg vs) => some (vs.toList.map .lit)
 | _ => none
theorem jC {ρ : Ren} {v : AV} {u : Value} {cs : List AV} (h : wz v = some cs) (hv : bP ρ v u) : ∃ vs,u = .agg vs/\dZ ρ cs vs.toList := by
 cases v with
 | agg l => simp only [wz,aj] at h; subst h; simpa only [bP] using hv
 | lit x =>
  simp only [bP] at hv; subst hv
  cases u <;> simp only [wz,aj] at h <;> first | (subst h; exact ⟨_,rfl,dZ.lits _⟩) | cases h
 | _ => simp [wz] at h

def takeN : Nat->Nat->List AV->Option (List AV)
 | o,n,l => bif Nat.ble (o + n) l.length then some ((l.drop o).take n) else none

def Bh (tt : TT) (t : TypeId) (cs : List AV) (o : Nat) : Option AV :=
 match tt t with
 | some ti => bif ti.agg then (match takeN o ti.size cs with | some l => some (.agg l) | none => none) else cs[o]?
 | none => none

theorem dZ.take {ρ : Ren} {as : List AV} {vs : List Value} (h : dZ ρ as vs) (o n : Nat) : dZ ρ ((as.drop o).take n) ((vs.drop o).take n) := by
 refine dZ.Yj (by simp [h.length]) fun k a ha => ?_
 rw [List.getElem?_take] at ha
 split at ha
 ·rename_i hk
  rw [List.getElem?_drop] at ha
  obtain ⟨v,hv,hr⟩ := h.get _ _ ha
  exact ⟨v,by rw [List.getElem?_take,if_pos hk,List.getElem?_drop]; exact hv,hr⟩
 ·cases ha

theorem tu {P : Program} {tt : TT} (hT : tt.ok P) {t : TypeId} {cs : List AV} {vs : Array Value} {o : Nat} {r : AV} {ρ : Ren} (h : Bh tt t cs o = some r)
  (hv : dZ ρ cs vs.toList) : NOk P (part t vs o) ρ r := by
 unfold Bh at h
 split at h
 ·rename_i ti hti
  cases ha : ti.agg with
  | true =>
   rw [ha] at h
   simp only [aO,takeN] at h
   cases hb : Nat.ble (o + ti.size) cs.length with
   | false => rw [hb] at h; simp at h
   | true =>
    rw [hb] at h; simp only [aO,aj] at h; subst h
    refine ⟨.agg (vs.extract o (o + ti.size)),fun w => by simp [part,wo hT hti,ha,run_sizeOf hT hti],?_⟩
    simp only [bP]
    refine ⟨_,rfl,?_⟩
    have : (vs.extract o (o + ti.size)).toList = (vs.toList.drop o).take ti.size := by
     rw [Array.toList_extract,List.extract_eq_take_drop]
     congr 1; omega
    rw [this]
    exact hv.take _ _
  | false =>
   rw [ha] at h
   simp only [aP] at h
   obtain ⟨u,hu,hr⟩ := hv.get _ _ h
   refine ⟨u,fun w => ?_,hr⟩
   have : vs[o]? = some u := by simpa using hu
   simp [part,wo hT hti,ha,this]
 ·cases h

def Cm : TD->AV->AV->Option Bool
 | .bool,.lit (.bool a),.lit (.bool b) => some (a == b)
 | .int _,.lit (.int k a),.lit (.int k' b) => if k = k' then some (a == b) else none
 | .string,.lit (.string a),.lit (.string b) => some (a.toList == b.toList)
 | .ptr _,.lit (.pointer none),.lit (.pointer none) => some true
 | .ptr _,.lit (.pointer none),.ptr _ _ => some false
 | .ptr _,.ptr _ _,.lit (.pointer none) => some false
 | .slice _,.lit (.slice none _ _),.lit (.slice none _ _) => some true
 | .slice _,.lit (.slice (some _) _ _),.lit (.slice none _ _) => some false
 | .slice _,.lit (.slice none _ _),.sl _ _ _ _ => some false
 | .slice _,.sl _ _ _ _,.lit (.slice none _ _) => some false
 | .slice _,.lit (.slice none _ _),.slU _ _ _ _ => some false
 | .slice _,.slU _ _ _ _,.lit (.slice none _ _) => some false
 | .slice _,.lit (.slice none _ _),.slE _ _ _ _ _ => some false
 | .slice _,.slE _ _ _ _ _,.lit (.slice none _ _) => some false
 | .slice _,.lit (.slice none _ _),.slW _ _ _ _ => some false
 | .slice _,.slW _ _ _ _,.lit (.slice none _ _) => some false
 | .slice _,.lit (.slice none _ _),.slZ z _ _ _ _ => some z
 | .slice _,.slZ z _ _ _ _,.lit (.slice none _ _) => some z
 | .ptr _,.lit (.pointer none),.ou _ _ _ _ => some false
 | .ptr _,.ou _ _ _ _,.lit (.pointer none) => some false
 | .map _ _,.lit (.map none),.lit (.map none) => some true
 | .map _ _,.lit (.map none),.mp _ => some false
 | .map _ _,.mp _,.lit (.map none) => some false
 | .func,.lit .nilFunc,.lit .nilFunc => some true
 | .func,.lit .nilFunc,.fn _ _ _ => some false
 | .func,.fn _ _ _,.lit .nilFunc => some false
 | _,_,_ => none

set_option maxHeartbeats 2000000 in
theorem UU {P : Program} {tt : TT} (hT : tt.ok P) {t : TypeId} {ti : TI} (hti : tt t = some ti) {x y : AV} {u v : Value} {r : Bool} {ρ : Ren}
  (h : Cm ti.desc x y = some r) (hu : bP ρ x u) (hv : bP ρ y v) (d : Nat) (w : World) : (Op.equalIn (d + 1) t u v).run P w = .ok r w := by
 obtain ⟨dd,hrun,jX,hmk⟩ := dh (P := P) hT hti w
 unfold Cm at h
 split at h
 all_goals (try simp only [bP] at hu hv)
 ·cases h; rw [adJ (hmk.trans ‹_›)] at hrun; subst hu; subst hv
  simp [Op.equalIn,hrun]
 ·rw [wu (hmk.trans ‹_›)] at hrun; subst hu; subst hv
  split at h
  ·rename_i hk; cases h; subst hk
   simp [Op.equalIn,hrun]
  ·cases h
 ·cases h; rw [iF (hmk.trans ‹_›)] at hrun; subst hu; subst hv
  simp [Op.equalIn,hrun,beq_toListBytes]
 ·cases h; rw [sZ (hmk.trans ‹_›)] at hrun; subst hu; subst hv
  simp [Op.equalIn,hrun]
 ·cases h; rw [sZ (hmk.trans ‹_›)] at hrun; subst hu; obtain ⟨a,_,rfl⟩ := hv
  simp [Op.equalIn,hrun]
 ·cases h; rw [sZ (hmk.trans ‹_›)] at hrun; subst hv; obtain ⟨a,_,rfl⟩ := hu
  simp [Op.equalIn,hrun]
 ·cases h; rw [bZ (hmk.trans ‹_›)] at hrun; subst hu; subst hv
  simp [Op.equalIn,hrun]
 ·cases h; rw [bZ (hmk.trans ‹_›)] at hrun; subst hu; subst hv
  simp [Op.equalIn,hrun]
 ·cases h; rw [bZ (hmk.trans ‹_›)] at hrun; subst hu; obtain ⟨a,_,rfl⟩ := hv
  simp [Op.equalIn,hrun]
 ·cases h; rw [bZ (hmk.trans ‹_›)] at hrun; subst hv; obtain ⟨a,_,rfl⟩ := hu
  simp [Op.equalIn,hrun]
 ·cases h; rw [bZ (hmk.trans ‹_›)] at hrun; subst hu; obtain ⟨a,_,_,rfl,_⟩ := hv
  simp [Op.equalIn,hrun]
 ·cases h; rw [bZ (hmk.trans ‹_›)] at hrun; subst hv; obtain ⟨a,_,_,rfl,_⟩ := hu
  simp [Op.equalIn,hrun]
 ·cases h; rw [bZ (hmk.trans ‹_›)] at hrun; subst hu; obtain ⟨a,_,_,rfl,_⟩ := hv
  simp [Op.equalIn,hrun]
 ·cases h; rw [bZ (hmk.trans ‹_›)] at hrun; subst hv; obtain ⟨a,_,_,rfl,_⟩ := hu
  simp [Op.equalIn,hrun]
 ·cases h; rw [bZ (hmk.trans ‹_›)] at hrun; subst hu; obtain ⟨a,_,_,_,rfl,_⟩ := hv
  simp [Op.equalIn,hrun]
 ·cases h; rw [bZ (hmk.trans ‹_›)] at hrun; subst hv; obtain ⟨a,_,_,_,rfl,_⟩ := hu
  simp [Op.equalIn,hrun]
 ·cases h; rw [bZ (hmk.trans ‹_›)] at hrun; subst hu
  rcases hv with ⟨hz,_,rfl⟩ | ⟨hz,a,_,_,_,rfl,_⟩ <;> simp [Op.equalIn,hrun,hz]
 ·cases h; rw [bZ (hmk.trans ‹_›)] at hrun; subst hv
  rcases hu with ⟨hz,_,rfl⟩ | ⟨hz,a,_,_,_,rfl,_⟩ <;> simp [Op.equalIn,hrun,hz]
 ·cases h; rw [sZ (hmk.trans ‹_›)] at hrun; subst hu; obtain ⟨a,_,rfl⟩ := hv
  simp [Op.equalIn,hrun]
 ·cases h; rw [sZ (hmk.trans ‹_›)] at hrun; subst hv; obtain ⟨a,_,rfl⟩ := hu
  simp [Op.equalIn,hrun]
 ·cases h; rw [tq (hmk.trans ‹_›)] at hrun; subst hu; subst hv
  simp [Op.equalIn,hrun]
 ·cases h; rw [tq (hmk.trans ‹_›)] at hrun; subst hu; obtain ⟨a,_,rfl⟩ := hv
  simp [Op.equalIn,hrun]
 ·cases h; rw [tq (hmk.trans ‹_›)] at hrun; subst hv; obtain ⟨a,_,rfl⟩ := hu
  simp [Op.equalIn,hrun]
 ·cases h; obtain ⟨a,b,c,hf⟩ := Dw (hmk.trans ‹_›); rw [hf] at hrun; subst hu; subst hv
  simp [Op.equalIn,hrun]
 ·cases h; obtain ⟨a,b,c,hf⟩ := Dw (hmk.trans ‹_›); rw [hf] at hrun; subst hu; obtain ⟨_,_,rfl,_⟩ := hv
  simp [Op.equalIn,hrun]
 ·cases h; obtain ⟨a,b,c,hf⟩ := Dw (hmk.trans ‹_›); rw [hf] at hrun; subst hv; obtain ⟨_,_,rfl,_⟩ := hu
  simp [Op.equalIn,hrun]
 ·cases h

def lY (tt : TT) (f : TypeId->AV->AV->Option Bool) : List (Nat × TypeId × Bool)->List AV->List AV->Option Bool
 | [],_,_ => some true
 | (o,t,true) :: fs,xs,ys => match Bh tt t xs o,Bh tt t ys o with
  | some a,some b => match f t a b with
   | some r => (match lY tt f fs xs ys with | some q => some (r && q) | none => none)
   | none => none
  | _,_ => none
 | (_,_,false) :: fs,xs,ys => lY tt f fs xs ys
def wB (tt : TT) (f : AV->AV->Option Bool) (e : TypeId) (s : Nat) : Nat->Nat->List AV->List AV->Option Bool
 | 0,_,_,_ => some true
 | n + 1,k,xs,ys => match Bh tt e xs (k * s),Bh tt e ys (k * s) with
  | some a,some b => match f a b with
   | some r => (match wB tt f e s n (k + 1) xs ys with | some q => some (r && q) | none => none)
   | none => none
  | _,_ => none
def eqA (tt : TT) : Nat->TypeId->AV->AV->Option Bool
 | 0,_,_,_ => none
 | d + 1,t,x,y => match tt t with
  | some ti => match ti.desc with
   | .struct fs false => match wz x,wz y with
    | some xs,some ys => lY tt (eqA tt d) fs xs ys
    | _,_ => none
   | .array n e => match wz x,wz y,tt e with
    | some xs,some ys,some te => wB tt (eqA tt d e) e te.size n 0 xs ys
    | _,_,_ => none
   | dd => Cm dd x y
  | none => none

theorem run_equalIn_array {P : Program} (w : World) (d : Nat) (t e : TypeId) (n : Nat) (xs ys : Array Value) (ht : P.underlying t = some (.array n e)) {s : Nat} (hs : ∀ w,(sizeOf e).run P w = .ok s w)
  (q : Nat->Bool) (hq : ∀ i,i < n->∃ a b,(∀ w,(part e xs (i * s)).run P w = .ok a w)/\(∀ w,(part e ys (i * s)).run P w = .ok b w)/\∀ w,(Op.equalIn d e a b).run P w = .ok (q i) w) :
  (Op.equalIn (d + 1) t (.agg xs) (.agg ys)).run P w = .ok ((List.range' 0 n).all q) w := by
 simp only [Op.equalIn,Sem.run_bind,underlying,run_program,Result.andThen_ok,ht,Sem.run_pure,hs]
 simp only [Std.Legacy.Range.forIn_eq_forIn_range',Std.Legacy.Range.size,aK,Nat.add_sub_cancel,Nat.div_one]
 have key : ∀ (m k : Nat),k + m<=n->∀ w,((forIn (m := Sem) (List.range' k m) ((none,()) : Option Bool × Unit) fun i r => do
    let a ← part e xs (i * s)
    let b ← part e ys (i * s)
    let c ← Op.equalIn d e a b
    if (!c) = true then pure (ForInStep.done (some false,())) else pure (ForInStep.yield (none,())))).run P w =
    .ok (if (List.range' k m).all q then none else some false,()) w := by
  intro m
  induction m with
  | zero => intro k _ w; simp
  | succ m ih =>
   intro k hk w
   obtain ⟨a,b,ha,hb,hc⟩ := hq k (by omega)
   simp only [List.range'_succ,List.forIn_cons,Sem.run_bind,ha,hb,hc,Result.andThen_ok,Sem.run_ite,List.all_cons]
   cases hqk : q k with
   | true =>
    simp only [Bool.not_true,Bool.false_eq_true,if_false,Sem.run_pure,Result.andThen_ok,aG]
    exact ih (k + 1) (by omega) w
   | false => simp
 rw [key n 0 (by omega) w]
 simp only [Result.andThen_ok]
 cases (List.range' 0 n).all q <;> rfl

def EqOk (P : Program) (ρ : Ren) (D : Nat) (t : TypeId) (f : AV->AV->Option Bool) : Prop :=
 ∀ (x y : AV) (u v : Value) (r : Bool),f x y = some r->bP ρ x u->bP ρ y v->∀ w,(Op.equalIn D t u v).run P w = .ok r w

theorem qJ {P : Program} {tt : TT} (hT : tt.ok P) {ρ : Ren} {D : Nat} {f : TypeId->AV->AV->Option Bool} (hf : ∀ t,EqOk P ρ D t (f t)) :
  ∀ (fs : List (Nat × TypeId × Bool)) (xs ys : List AV) (us vs : Array Value) (r : Bool),lY tt f fs xs ys = some r ->
  dZ ρ xs us.toList → dZ ρ ys vs.toList → ∀ gs : List Field, gs.map (fun f => (f.offset, f.type, f.name != "_")) = fs → ∀ w, (Op.eqFields D us vs gs).run P w = .ok r w
 | [],xs,ys,us,vs,r,h,_,_ => fun gs hgs w => by
  simp [lY] at h; subst h
  have : gs = [] := by simpa using hgs
  subst this
  simp [Op.eqFields]
 | (o,t,true) :: fs,xs,ys,us,vs,r,h,hu,hv => fun gs hgs w => by
  cases gs with
  | nil => simp at hgs
  | cons g gs =>
   simp only [List.map_cons,List.cons.injEq,Prod.mk.injEq] at hgs
   obtain ⟨⟨rfl,rfl,hn⟩,hgs⟩ := hgs
   simp only [lY] at h
   split at h
   ·rename_i a b ha hb
    split at h
    ·rename_i q hq
     split at h
     ·rename_i q2 hq2
      cases h
      obtain ⟨ua,hua,hra⟩ := tu (P := P) hT ha hu
      obtain ⟨ub,hub,hrb⟩ := tu (P := P) hT hb hv
      have h1 := hf g.type a b ua ub q hq hra hrb
      have h2 := qJ hT hf fs xs ys us vs q2 hq2 hu hv gs hgs
      have hn' : g.name ≠ "_" := by simpa using hn
      simp only [Op.eqFields,if_pos hn',Sem.run_bind,hua,hub,h1,Result.andThen_ok,Sem.run_ite]
      cases q
      ·simp
      ·simp [h2]
     ·cases h
    ·cases h
   ·cases h
 | (o,t,false) :: fs,xs,ys,us,vs,r,h,hu,hv => fun gs hgs w => by
  cases gs with
  | nil => simp at hgs
  | cons g gs =>
   simp only [List.map_cons,List.cons.injEq,Prod.mk.injEq] at hgs
   obtain ⟨⟨rfl,rfl,hn⟩,hgs⟩ := hgs
   simp only [lY] at h
   have hn' : ¬ g.name ≠ "_" := by simpa using hn
   simp only [Op.eqFields,if_neg hn']
   exact qJ hT hf fs xs ys us vs r h hu hv gs hgs w

theorem Dy {P : Program} {tt : TT} (hT : tt.ok P) {ρ : Ren} {D : Nat} {f : AV->AV->Option Bool} {e : TypeId} (hf : EqOk P ρ D e f) {s : Nat} :
  ∀ (n k : Nat) (xs ys : List AV) (us vs : Array Value) (r : Bool),wB tt f e s n k xs ys = some r ->
  dZ ρ xs us.toList->dZ ρ ys vs.toList->∃ q : Nat->Bool,(∀ i,k<=i->i < k + n->∃ a b,(∀ w,(part e us (i * s)).run P w = .ok a w)/\(∀ w,(part e vs (i * s)).run P w = .ok b w) /\
   ∀ w,(Op.equalIn D e a b).run P w = .ok (q i) w)/\(List.range' k n).all q = r
 | 0,k,xs,ys,us,vs,r,h,_,_ => by
  simp [wB] at h; subst h
  exact ⟨fun _ => true,fun i h1 h2 => by omega,rfl⟩
 | n + 1,k,xs,ys,us,vs,r,h,hu,hv => by
  simp only [wB] at h
  split at h
  ·rename_i a b ha hb
   split at h
   ·rename_i q hq
    split at h
    ·rename_i q2 hq2
     cases h
     obtain ⟨ua,hua,hra⟩ := tu (P := P) hT ha hu
     obtain ⟨ub,hub,hrb⟩ := tu (P := P) hT hb hv
     have h1 := hf a b ua ub q hq hra hrb
     obtain ⟨p,hp,hpr⟩ := Dy hT hf n (k + 1) xs ys us vs q2 hq2 hu hv
     refine ⟨fun i => if i = k then q else p i,fun i h1' h2' => ?_,?_⟩
     ·by_cases hik : i = k
      ·subst hik; exact ⟨ua,ub,hua,hub,fun w => by simpa using h1 w⟩
      ·obtain ⟨a',b',h3,h4,h5⟩ := hp i (by omega) (by omega)
       exact ⟨a',b',h3,h4,fun w => by simpa [hik] using h5 w⟩
     ·rw [List.range'_succ,List.all_cons,if_pos rfl,← hpr]
      congr 1
      apply Bool.eq_iff_iff.2
      simp only [List.all_eq_true,List.mem_range'_1]
      constructor
      ·intro hh x hx; have := hh x hx; rwa [if_neg (by omega)] at this
      ·intro hh x hx; rw [if_neg (by omega)]; exact hh x hx
    ·cases h
   ·cases h
  ·cases h

theorem adM {P : Program} {tt : TT} (hT : tt.ok P) {ρ : Ren} : ∀ (d : Nat) (t : TypeId) (D : Nat),d<=D->EqOk P ρ D t (eqA tt d t)
 | 0,_,_,_ => fun _ _ _ _ _ h => by simp [eqA] at h
 | d + 1,t,D,hD => fun x y u v r h hu hv w => by
  obtain ⟨D,rfl⟩ : ∃ k,D = k + 1 := ⟨D - 1,by omega⟩
  simp only [eqA] at h
  split at h
  ·rename_i ti hti
   split at h
   ·rename_i fs hfs
    split at h
    ·rename_i xs ys hxs hys
     obtain ⟨us,rfl,hus⟩ := jC hxs hu
     obtain ⟨vs,rfl,hvs⟩ := jC hys hv
     obtain ⟨dd,_,jX,hmk⟩ := dh (P := P) hT hti w
     obtain ⟨gs,rfl,hgs,hheld⟩ := pq (hmk.trans hfs)
     have hf : P.underlying t = some (.struct (P.fieldsOf t)) := by simp [Program.fieldsOf,jX]
     rw [run_equalIn_struct w D t us vs hf hheld]
     have hg : (P.fieldsOf t) = gs := by simp [Program.fieldsOf,jX]
     rw [hg]
     exact qJ hT (fun t => adM hT d t D (by omega)) fs xs ys us vs r h hus hvs gs.toList hgs w
    ·cases h
   ·rename_i n e hne
    split at h
    ·rename_i xs ys te hxs hys hte
     obtain ⟨us,rfl,hus⟩ := jC hxs hu
     obtain ⟨vs,rfl,hvs⟩ := jC hys hv
     obtain ⟨dd,_,jX,hmk⟩ := dh (P := P) hT hti w
     obtain rfl := kD (hmk.trans hne)
     obtain ⟨q,hq,hr⟩ := Dy hT (adM hT d e D (by omega)) n 0 xs ys us vs r h hus hvs
     rw [run_equalIn_array w D t e n us vs jX (fun w => run_sizeOf hT hte w) q (fun i hi => by simpa using hq i (by omega) (by omega)),hr]
    ·cases h
   ·exact UU hT hti h hu hv D w
  ·cases h
end Go.Proofs.YtenfleoejgjklaaGreat.SE
end
section
namespace Go.Proofs.YtenfleoejgjklaaGreat.SE
open Go

def ady (op : BinOp) (k : IntKind) (a b : Int) : Option Value :=
 match op with
 | .add => some (.int k (k.wrap (a + b)))
 | .sub => some (.int k (k.wrap (a - b)))
 | .mul => some (.int k (k.wrap (a * b)))
 | .quo => if b = 0 then none else some (.int k (k.wrap (a.tdiv b)))
 | .rem => if b = 0 then none else some (.int k (a.tmod b))
 | .and => some (.int k (k.wrap (BitVec.ofInt k.bits a &&& BitVec.ofInt k.bits b).toNat))
 | .or => some (.int k (k.wrap (BitVec.ofInt k.bits a ||| BitVec.ofInt k.bits b).toNat))
 | .xor => some (.int k (k.wrap (BitVec.ofInt k.bits a ^^^ BitVec.ofInt k.bits b).toNat))
 | .andNot => some (.int k (k.wrap (BitVec.ofInt k.bits a &&& ~~~BitVec.ofInt k.bits b).toNat))
 | .eql => some (.bool (a == b))
 | .neq => some (.bool (a != b))
 | .lss => some (.bool (a < b))
 | .leq => some (.bool (a<=b))
 | .gtr => some (.bool (a > b))
 | .geq => some (.bool (a ≥ b))
 | _ => none

def shN (op : BinOp) (k : IntKind) (a b : Int) : Option Value :=
 match op with
 | .shl => if b < 0 then none else some (.int k (k.wrap (a * 2 ^ (min b.toNat k.bits))))
 | .shr => if b < 0 then none else some (.int k (a.fdiv (2 ^ (min b.toNat k.bits))))
 | _ => none

def aja (op : BinOp) (a b : ByteArray) : Option Value :=
 match op with
 | .add => if ((a.size + b.size : Nat) : Int) > IntKind.i64.max then none else some (.string (a ++ b))
 | .eql => some (.bool (a.toList == b.toList))
 | .neq => some (.bool !(a.toList == b.toList))
 | .lss => some (.bool (Op.bytesLess a.toList b.toList))
 | .leq => some (.bool (Op.bytesLess a.toList b.toList || a.toList == b.toList))
 | .gtr => some (.bool !(Op.bytesLess a.toList b.toList || a.toList == b.toList))
 | .geq => some (.bool !(Op.bytesLess a.toList b.toList))
 | _ => none

def ai1 : BinOp->Bool
 | .shl => true
 | .shr => true
 | _ => false

def Ym : Option Value->Option AV
 | some v => some (.lit v)
 | none => none

def abo (tt : TT) (op : BinOp) (t : TypeId) (x y : AV) : Option AV :=
 match x,y with
 | .lit (.int k a),.lit (.int k' b) => bif ai1 op then Ym (shN op k a b) else if k = k' then Ym (ady op k a b) else none
 | .lit (.string a),.lit (.string b) => Ym (aja op a b)
 | x,y => match tt t with
  | some ti => bif ti.guard then none else match eqA tt 40 t x y with
   | some r => match op with
    | .eql => some (.lit (.bool r))
    | .neq => some (.lit (.bool (!r)))
    | _ => none
   | none => none
  | none => none

def IC : Value->Bool
 | .bool _ | .pointer _ | .slice _ _ _ | .map _ | .func _ _ _ | .nilFunc | .agg _ => true
 | _ => false
theorem abp {u : Value} (h : IC u = true) (t : TypeId) (v : Value) : binOp .eql t u v = (do pure (.bool (← Op.equal t u v))) := by
 cases u <;> simp [IC] at h <;> cases v <;> simp [binOp]
theorem abq {u : Value} (h : IC u = true) (t : TypeId) (v : Value) : binOp .neq t u v = (do pure (.bool (!(← Op.equal t u v)))) := by
 cases u <;> simp [IC] at h <;> cases v <;> simp [binOp]

theorem adN {tt : TT} {ρ : Ren} {d : Nat} {t : TypeId} {x y : AV} {u : Value} {r : Bool} (h : eqA tt d t x y = some r) (hu : bP ρ x u) :
  IC u = true ∨ (∃ k a k' b,x = .lit (.int k a)/\y = .lit (.int k' b)) ∨ (∃ a b,x = .lit (.string a)/\y = .lit (.string b)) := by
 cases d with
 | zero => simp [eqA] at h
 | succ d =>
  simp only [eqA] at h
  split at h
  ·split at h
   ·split at h
    ·rename_i xs ys hxs hys
     obtain ⟨us,rfl,hus⟩ := jC hxs hu
     exact .inl rfl
    ·cases h
   ·split at h
    ·rename_i xs ys te hxs hys hte
     obtain ⟨us,rfl,hus⟩ := jC hxs hu
     exact .inl rfl
    ·cases h
   ·unfold Cm at h
    split at h
    all_goals first
     | exact .inr (.inl ⟨_,_,_,_,rfl,rfl⟩)
     | exact .inr (.inr ⟨_,_,rfl,rfl⟩)
     | cases h; done
     | skip
    all_goals simp only [bP] at hu
    all_goals first
     | (subst hu; exact .inl rfl)
     | (rcases hu with ⟨_,_,rfl⟩ | ⟨_,_,_,_,_,rfl,_⟩ <;> exact .inl rfl)
     | (obtain ⟨_,_,rfl⟩ := hu; exact .inl rfl)
     | (obtain ⟨_,_,_,rfl,_⟩ := hu; exact .inl rfl)
     | (obtain ⟨_,_,_,_,rfl,_⟩ := hu; exact .inl rfl)
     | (rcases hu with ⟨_,rfl⟩ | ⟨_,_,_,_,rfl,_⟩ <;> exact .inl rfl)
     | (obtain ⟨_,_,rfl,_⟩ := hu; exact .inl rfl)
  ·cases h

theorem UW {P : Program} {op : BinOp} {t : TypeId} {xo yo : Operand} {u v : Value} (hg : P.eqGuardType P.depth t = false) (hu : u ≠ .nilIface) (w : World) :
  (eqGuard op t xo yo u v).run P w = .ok () w := by
 cases op
 case eql => unfold eqGuard; cases u <;> first | exact absurd rfl hu | (cases v <;> simp [hg])
 case neq => unfold eqGuard; cases u <;> first | exact absurd rfl hu | (cases v <;> simp [hg])
 all_goals simp [eqGuard]

def alp (op : BinOp) (t : TypeId) (xo yo : Operand) (a b : Value) : Sem Value := do
 eqGuard op t xo yo a b
 binOp op t a b

theorem lZ {P : Program} {op : BinOp} {t : TypeId} {xo yo : Operand} {u v : Value} (hu : ∀ vs,u ≠ .agg vs) (hu' : u ≠ .nilIface) (w : World) : (eqGuard op t xo yo u v).run P w = .ok () w := by
 cases op
 case eql => unfold eqGuard; cases u <;> first | exact absurd rfl hu' | exact absurd rfl (hu _) | (cases v <;> simp)
 case neq => unfold eqGuard; cases u <;> first | exact absurd rfl hu' | exact absurd rfl (hu _) | (cases v <;> simp)
 all_goals simp [eqGuard]

theorem ao0 {P : Program} {op : BinOp} {k k' : IntKind} {a b : Int} {r : Value} {t : TypeId} (h : shN op k a b = some r) (w : World) : (binOp op t (.int k a) (.int k' b)).run P w = .ok r w := by
 cases op <;> simp [shN] at h
 all_goals
  obtain ⟨hb,rfl⟩ := h
  have hb' : ¬ b < 0 := by omega
  simp [binOp,Op.shift,hb']

theorem al5 {P : Program} {op : BinOp} {k : IntKind} {a b : Int} {r : Value} {t : TypeId} (hs : ai1 op = false) (h : ady op k a b = some r) (w : World) :
  (binOp op t (.int k a) (.int k b)).run P w = .ok r w := by
 cases op <;> simp [ady] at h <;> simp [ai1] at hs
 case quo => obtain ⟨hb,rfl⟩ := h; simp [binOp,Op.intDiv,hb]
 case rem => obtain ⟨hb,rfl⟩ := h; simp [binOp,Op.intDiv,hb]
 all_goals (subst h; simp [binOp,Op.intArith,Op.intBits,Op.intCmp])

theorem al6 {P : Program} {op : BinOp} {a b : ByteArray} {r : Value} {t : TypeId} (h : aja op a b = some r) (w : World) : (binOp op t (.string a) (.string b)).run P w = .ok r w := by
 cases op <;> simp only [aja,aj] at h <;> try (first | cases h; done)
 case add =>
  split at h
  ·cases h
  ·rename_i hh
   cases h
   simp only [binOp,Op.stringOp,if_neg hh,Sem.run_pure]
 all_goals (subst h; simp [binOp,Op.stringOp])

theorem wC {o : Option Value} {v : AV} (h : Ym o = some v) : ∃ u,o = some u/\v = .lit u := by
 cases o <;> simp [Ym] at h
 exact ⟨_,rfl,h.symm⟩

theorem adO {P : Program} {tt : TT} (hT : tt.ok P) {ρ : Ren} {op : BinOp} {t : TypeId} {xo yo : Operand} {x y r : AV} {u v : Value} (h : abo tt op t x y = some r)
  (hu : bP ρ x u) (hv : bP ρ y v) : NOk P (alp op t xo yo u v) ρ r := by
 unfold abo at h
 split at h
 ·rename_i k a k' b
  simp only [bP] at hu hv; subst hu; subst hv
  cases hs : ai1 op with
  | true =>
   rw [hs] at h; simp only [aO] at h
   obtain ⟨q,hq,rfl⟩ := wC h
   refine ⟨q,fun w => ?_,by simp [bP]⟩
   simp only [alp,Sem.run_bind,lZ (u := .int k a) (by simp) (by simp),Result.andThen_ok,ao0 hq]
  | false =>
   rw [hs] at h; simp only [aP] at h
   split at h
   ·rename_i hk; subst hk
    obtain ⟨q,hq,rfl⟩ := wC h
    refine ⟨q,fun w => ?_,by simp [bP]⟩
    simp only [alp,Sem.run_bind,lZ (u := .int k a) (by simp) (by simp),Result.andThen_ok,al5 hs hq]
   ·cases h
 ·rename_i a b
  simp only [bP] at hu hv; subst hu; subst hv
  obtain ⟨q,hq,rfl⟩ := wC h
  refine ⟨q,fun w => ?_,by simp [bP]⟩
  simp only [alp,Sem.run_bind,lZ (u := .string a) (by simp) (by simp),Result.andThen_ok,al6 hq]
 ·rename_i hni hns
  split at h
  ·rename_i ti hti
   cases hg : ti.guard with
   | true => rw [hg] at h; simp at h
   | false =>
    rw [hg] at h; simp only [aP] at h
    split at h
    ·rename_i q hq
     have heq : ∀ w,(Op.equal t u v).run P w = .ok q w := adM hT 40 t 10000 (by omega) x y u v q hq hu hv
     have hnn : IC u = true := by
      rcases adN hq hu with h1 | ⟨k,a,k',b,rfl,rfl⟩ | ⟨a,b,rfl,rfl⟩
      ·exact h1
      ·exact (hni _ _ _ _ rfl rfl).elim
      ·exact (hns _ _ rfl rfl).elim
     have hgr : ∀ w,(eqGuard op t xo yo u v).run P w = .ok () w := UW (by rw [hT.guard hti]; exact hg) (fun hh => by rw [hh] at hnn; cases hnn)
     split at h
     ·cases h
      refine ⟨.bool q,fun w => ?_,by simp [bP]⟩
      simp only [alp,Sem.run_bind,hgr,Result.andThen_ok,abp hnn,heq,Sem.run_pure]
     ·cases h
      refine ⟨.bool (!q),fun w => ?_,by simp [bP]⟩
      simp only [alp,Sem.run_bind,hgr,Result.andThen_ok,abq hnn,heq,Sem.run_pure]
     ·cases h
    ·cases h
  ·cases h

def unN (op : UnOp) (x : AV) : Option AV :=
 match op,x with
 | .neg,.lit (.int k a) => some (.lit (.int k (k.wrap (0 - a))))
 | .xor,.lit (.int k a) => Ym (ady .xor k (if k.signed then -1 else k.max) a)
 | .not,.lit (.bool b) => some (.lit (.bool (!b)))
 | _,_ => none
theorem ao1 {P : Program} {ρ : Ren} {op : UnOp} {x r : AV} {u : Value} (h : unN op x = some r) (hu : bP ρ x u) : NOk P (Op.unary op u) ρ r := by
 unfold unN at h
 split at h
 ·cases h; simp only [bP] at hu; subst hu
  exact ⟨_,fun w => by simp [Op.unary,Op.intArith]; rfl,by simp [bP]⟩
 ·simp only [bP] at hu; subst hu
  obtain ⟨q,hq,rfl⟩ := wC h
  simp only [ady,aj] at hq
  exact ⟨q,fun w => by simp [Op.unary,Op.intBits]; exact hq,by simp [bP]⟩
 ·cases h; simp only [bP] at hu; subst hu
  exact ⟨_,fun w => by simp [Op.unary]; rfl,by simp [bP]⟩
 ·cases h

def adP (tt : TT) (src dst : TypeId) (x : AV) : Option AV :=
 match tt src,tt dst with
 | some ts,some td => match ts.desc,td.desc,x with
  | .int _,.int k,.lit (.int _ n) => some (.lit (.int k (k.wrap n)))
  | .string,.string,.lit (.string s) => some (.lit (.string s))
  | _,_,_ => none
 | _,_ => none
theorem KY {P : Program} {tt : TT} (hT : tt.ok P) {ρ : Ren} {src dst : TypeId} {x r : AV} {u : Value} (h : adP tt src dst x = some r) (hu : bP ρ x u) : NOk P (convert src dst u) ρ r := by
 unfold adP at h
 split at h
 ·rename_i ts td hts htd
  split at h
  ·rename_i k0 k k1 n hs hd
   cases h; simp only [bP] at hu; subst hu
   refine ⟨.int k (k.wrap n),fun w => ?_,by simp only [bP]⟩
   obtain ⟨d1,r1,_,m1⟩ := dh (P := P) hT hts w
   obtain ⟨d2,r2,_,m2⟩ := dh (P := P) hT htd w
   rw [wu (m1.trans hs)] at r1; rw [wu (m2.trans hd)] at r2
   simp [convert,r1,r2,Conv.intToInt]
  ·rename_i s hs hd
   cases h; simp only [bP] at hu; subst hu
   refine ⟨.string s,fun w => ?_,by simp only [bP]⟩
   obtain ⟨d1,r1,_,m1⟩ := dh (P := P) hT hts w
   obtain ⟨d2,r2,_,m2⟩ := dh (P := P) hT htd w
   rw [iF (m1.trans hs)] at r1; rw [iF (m2.trans hd)] at r2
   simp [convert,r1,r2]
  ·cases h
 ·cases h

def nilN (x : AV) : Option AV :=
 match x with
 | .ptr i o => some (.ptr i o)
 | .ou i k m j => some (.ou i k m j)
 | .fn (.func f) a b => some (.fn (.func f) a b)
 | .fn (.via t p f q) a b => some (.fn (.via t p f q) a b)
 | _ => none
def fJ (x : Value) : Sem Next :=
 match x with
 | .pointer none | .nilIface | .nilFunc => runtimePanic .nilDeref
 | .func (.method name) first captured =>
  match (first[0]? : Option Value) with
  | some .nilIface => runtimePanic .nilDeref
  | some (.iface t w) => do
   if (← nilAhead ((← program).types.size + Made.depth) t w name) != some false then
    unsupported (.noEntry "op/nilCheck.the method's receiver behind this interface value is a nil pointer, or cannot be seen to be none, and the arguments act or may panic (ledger 612)")
   pure (.value (.func (.method name) first captured))
  | _ => pure (.value (.func (.method name) first captured))
 | x => pure (.value x)
theorem al7 {P : Program} {ρ : Ren} {x r : AV} {u : Value} (h : nilN x = some r) (hu : bP ρ x u) : ∃ v,(∀ w,(fJ u).run P w = .ok (.value v) w)/\bP ρ r v := by
 unfold nilN at h
 split at h
 ·cases h; have hu' := hu; simp only [bP] at hu; obtain ⟨a,_,rfl⟩ := hu; exact ⟨_,fun w => by simp [fJ],hu'⟩
 ·cases h; have hu' := hu; simp only [bP] at hu; obtain ⟨a,_,rfl⟩ := hu; exact ⟨_,fun w => by simp [fJ],hu'⟩
 ·cases h; have hu' := hu; simp only [bP] at hu; obtain ⟨a,b,rfl,_⟩ := hu; exact ⟨_,fun w => by simp [fJ],hu'⟩
 ·cases h; have hu' := hu; simp only [bP] at hu; obtain ⟨a,b,rfl,_⟩ := hu; exact ⟨_,fun w => by simp [fJ],hu'⟩
 ·cases h

def jD (tt : TT) (s : TypeId) (x : AV) (f : Nat) : Option AV :=
 match tt s,x with
 | some ts,.ptr i o => match ts.desc with
  | .struct fs _ => match fs[f]? with
   | some (off,t,_) => match tt t with
    | some tf => bif Nat.beq tf.size 0 then none else some (.ptr i (o + off))
    | none => none
   | none => none
  | _ => none
 | _,_ => none
theorem pz {P : Program} {tt : TT} (hT : tt.ok P) {ρ : Ren} {s : TypeId} {f : Nat} {x r : AV} {u : Value} (h : jD tt s x f = some r) (hu : bP ρ x u) :
  NOk P (Instr.fieldAt s u f) ρ r := by
 unfold jD at h
 split at h
 ·rename_i ts i o hts
  split at h
  ·rename_i fs held hfs
   split at h
   ·rename_i off t b hf
    split at h
    ·rename_i tf htf
     cases hz : Nat.beq tf.size 0 with
     | true => rw [hz] at h; simp at h
     | false =>
      rw [hz] at h; simp only [aP,aj] at h; subst h
      simp only [bP] at hu; obtain ⟨a,ha,rfl⟩ := hu
      have hz' : tf.size ≠ 0 := fun h0 => by rw [h0] at hz; cases hz
      obtain ⟨gs, hgs⟩ : ∃ gs : Array Field, P.underlying s = some (.struct gs) ∧ gs.toList.map (fun f => (f.offset, f.type, f.name != "_")) = fs := by
       obtain ⟨d1,_,jX,m1⟩ := dh (P := P) hT hts default
       obtain ⟨gs,rfl,hg,_⟩ := pq (m1.trans hfs)
       exact ⟨gs,jX,hg⟩
      obtain ⟨jX,hg⟩ := hgs
      rw [← hg,List.getElem?_map] at hf
      cases hgf : gs.toList[f]? with
      | none => rw [hgf] at hf; cases hf
      | some g =>
       rw [hgf] at hf; simp only [Option.map_some,aj,Prod.mk.injEq] at hf
       obtain ⟨rfl,rfl,_⟩ := hf
       refine ⟨.pointer (some ⟨a.blk,a.base + o + g.offset,none⟩),fun w => ?_,?_⟩
       ·have hgf' : gs[f]? = some g := by simpa using hgf
        simp [Instr.fieldAt,underlying,jX,hgf',Instr.sureAddr,fieldPlace,run_sizeOf hT htf,hz',dV]
       ·simp only [bP]; exact ⟨a,ha,by rw [Nat.add_assoc]⟩
    ·cases h
   ·cases h
  ·cases h
 ·cases h

def kF (tt : TT) (t : TypeId) (x ix : AV) : Option AV :=
 match tt t,ix with
 | some ti,.lit (.int _ k) => match ti.desc,x with
  | .array n e,.ptr i o => match tt e with
   | some te => if 0<=k/\k < (n : Int) then some (.ptr i (o + k.toNat * te.size)) else none
   | none => none
  | .slice e,.sl i o n _ => match tt e with
   | some te => if 0<=k/\k < (n : Int) then some (.ptr i (o + k.toNat * te.size)) else none
   | none => none
  | .slice e,.slU i o n _ => match tt e with
   | some te => if 0<=k/\k < (n : Int) then some (.ptr i (o + k.toNat * te.size)) else none
   | none => none
  | _,_ => none
 | _,_ => none
theorem jM {P : Program} {tt : TT} (hT : tt.ok P) {ρ : Ren} {t : TypeId} {x ix r : AV} {u v : Value} (h : kF tt t x ix = some r) (hu : bP ρ x u) (hv : bP ρ ix v) :
  NOk P (Instr.indexAt t u v) ρ r := by
 unfold kF at h
 split at h
 ·rename_i ti kk k hti
  simp only [bP] at hv; subst hv
  split at h
  ·rename_i n e i o hd
   split at h
   ·rename_i te hte
    split at h
    ·rename_i hk
     cases h; simp only [bP] at hu; obtain ⟨a,ha,rfl⟩ := hu
     refine ⟨.pointer (some ⟨a.blk,a.base + o + k.toNat * te.size,none⟩),fun w => ?_,by simp only [bP]; exact ⟨a,ha,by rw [Nat.add_assoc]⟩⟩
     obtain ⟨d1,r1,_,m1⟩ := dh (P := P) hT hti w
     rw [kD (m1.trans hd)] at r1
     simp [Instr.indexAt,asIntOf,r1,Instr.sureAddr,hk,run_sizeOf hT hte,dV]
    ·cases h
   ·cases h
  ·rename_i e i o n c hd
   split at h
   ·rename_i te hte
    split at h
    ·rename_i hk
     cases h; simp only [bP] at hu; obtain ⟨a,ha,rfl⟩ := hu
     refine ⟨.pointer (some ⟨a.blk,a.base + o + k.toNat * te.size,none⟩),fun w => ?_,by simp only [bP]; exact ⟨a,ha,by rw [Nat.add_assoc]⟩⟩
     obtain ⟨d1,r1,_,m1⟩ := dh (P := P) hT hti w
     rw [bZ (m1.trans hd)] at r1
     simp [Instr.indexAt,asIntOf,r1,hk,run_sizeOf hT hte,dV]
    ·cases h
   ·cases h
  ·rename_i e i o n c hd
   split at h
   ·rename_i te hte
    split at h
    ·rename_i hk
     cases h; simp only [bP] at hu; obtain ⟨a,c,ha,rfl,_⟩ := hu
     refine ⟨.pointer (some ⟨a.blk,a.base + o + k.toNat * te.size,none⟩),fun w => ?_,by simp only [bP]; exact ⟨a,ha,by rw [Nat.add_assoc]⟩⟩
     obtain ⟨d1,r1,_,m1⟩ := dh (P := P) hT hti w
     rw [bZ (m1.trans hd)] at r1
     simp [Instr.indexAt,asIntOf,r1,hk,run_sizeOf hT hte,dV]
    ·cases h
   ·cases h
  ·cases h
 ·cases h

def fieldN (tt : TT) (t : TypeId) (x : AV) (f : Nat) : Option AV :=
 match tt t,wz x with
 | some ti,some cs => match ti.desc with
  | .struct fs _ => match fs[f]? with
   | some (off,ft,_) => Bh tt ft cs off
   | none => none
  | _ => none
 | _,_ => none
theorem wF {P : Program} {tt : TT} (hT : tt.ok P) {ρ : Ren} {t : TypeId} {f : Nat} {x r : AV} {u : Value} (h : fieldN tt t x f = some r) (hu : bP ρ x u) : NOk P (Instr.field t u f) ρ r := by
 unfold fieldN at h
 split at h
 ·rename_i ti cs hti hcs
  obtain ⟨vs,rfl,hvs⟩ := jC hcs hu
  split at h
  ·rename_i fs held hfs
   split at h
   ·rename_i off ft b hf
    obtain ⟨q,hq,hr⟩ := tu (P := P) hT h hvs
    obtain ⟨gs, jX, hg⟩ : ∃ gs : Array Field, P.underlying t = some (.struct gs) ∧ gs.toList.map (fun f => (f.offset, f.type, f.name != "_")) = fs := by
     obtain ⟨d1,_,jX,m1⟩ := dh (P := P) hT hti default
     obtain ⟨gs,rfl,hg,_⟩ := pq (m1.trans hfs)
     exact ⟨gs,jX,hg⟩
    rw [← hg,List.getElem?_map] at hf
    cases hgf : gs.toList[f]? with
    | none => rw [hgf] at hf; cases hf
    | some g =>
     rw [hgf] at hf; simp only [Option.map_some,aj,Prod.mk.injEq] at hf
     obtain ⟨rfl,rfl,_⟩ := hf
     refine ⟨q,fun w => ?_,hr⟩
     have hgf' : gs[f]? = some g := by simpa using hgf
     simp [Instr.field,underlying,jX,hgf',asAgg,hq]
   ·cases h
  ·cases h
 ·cases h

def IG (tt : TT) (t : TypeId) (x ix : AV) : Option AV :=
 match tt t,ix with
 | some ti,.lit (.int _ k) => match ti.desc,x with
  | .string,.lit (.string s) => match (if 0<=k then s[k.toNat]? else none) with
   | some b => some (.lit (.int .u8 b.toNat))
   | none => none
  | .array n e,x => match wz x,tt e with
   | some cs,some te => if 0<=k/\k < (n : Int) then Bh tt e cs (k.toNat * te.size) else none
   | _,_ => none
  | _,_ => none
 | _,_ => none
theorem wG {P : Program} {tt : TT} (hT : tt.ok P) {ρ : Ren} {t : TypeId} {x ix r : AV} {u v : Value} (h : IG tt t x ix = some r) (hu : bP ρ x u) (hv : bP ρ ix v) : NOk P (Instr.index t u v) ρ r := by
 unfold IG at h
 split at h
 ·rename_i ti kk k hti
  simp only [bP] at hv; subst hv
  split at h
  ·rename_i s hd
   simp only [bP] at hu; subst hu
   split at h
   ·rename_i b hb
    cases h
    refine ⟨.int .u8 b.toNat,fun w => ?_,by simp only [bP]⟩
    obtain ⟨d1,r1,_,m1⟩ := dh (P := P) hT hti w
    rw [iF (m1.trans hd)] at r1
    simp [Instr.index,asIntOf,r1,hb]
   ·cases h
  ·rename_i n e hd
   split at h
   ·rename_i cs te hcs hte
    obtain ⟨vs,rfl,hvs⟩ := jC hcs hu
    split at h
    ·rename_i hk
     obtain ⟨q,hq,hr⟩ := tu (P := P) hT h hvs
     refine ⟨q,fun w => ?_,hr⟩
     obtain ⟨d1,r1,_,m1⟩ := dh (P := P) hT hti w
     rw [kD (m1.trans hd)] at r1
     simp [Instr.index,asIntOf,r1,hk,run_sizeOf hT hte,hq]
    ·cases h
   ·cases h
  ·cases h
 ·cases h

def KZ (x : AV) (ix : Nat) : Option AV :=
 match x with
 | .tup vs => vs[ix]?
 | _ => none
theorem UY {P : Program} {ρ : Ren} {x r : AV} {ix : Nat} {u : Value} (h : KZ x ix = some r) (hu : bP ρ x u) : NOk P (Instr.extract u ix) ρ r := by
 unfold KZ at h
 split at h
 ·simp only [bP] at hu; obtain ⟨vs,rfl,hl⟩ := hu
  obtain ⟨q,hq,hr⟩ := hl.get _ _ h
  refine ⟨q,fun w => ?_,hr⟩
  have : vs[ix]? = some q := by simpa using hq
  simp [Instr.extract,this]
 ·cases h
end Go.Proofs.YtenfleoejgjklaaGreat.SE
end
section
namespace Go.Proofs.YtenfleoejgjklaaGreat.SE
open Go

def bnd (x : Option AV) (d lim : Nat) : Option Nat :=
 match x with
 | none => some d
 | some (.lit (.int _ k)) => if 0<=k/\k<=(lim : Int) then some k.toNat else none
 | some _ => none

def pF (ρ : Ren) : Option AV->Option Value->Prop
 | none,v => v = none
 | some a,v => ∃ u,v = some u/\bP ρ a u

theorem lH {P : Program} {ρ : Ren} {a : AV} {u : Value} {d lim k : Nat} {c : BoundsCode} (h : bnd (some a) d lim = some k) (hu : bP ρ a u) (w : World) :
  (Instr.sliceBound u lim c).run P w = .ok k w := by
 unfold bnd at h
 split at h
 ·rename_i hn; cases hn
 ·rename_i kk i ha
  cases ha
  simp only [bP] at hu; subst hu
  split at h
  ·rename_i hk
   cases h
   simp [Instr.sliceBound,asIntOf,hk]
  ·cases h
 ·cases h

def PL (n c : Nat) (lo hi mx : Option AV) : Option (Nat × Nat × Nat) :=
 match bnd mx c c with
 | some m => match hi,mx with
  | none,some _ => none
  | _,_ => match bnd hi n m with
   | some h => match bnd lo 0 h with
    | some l => some (l,h,m)
    | none => none
   | none => none
 | none => none

theorem uP {P : Program} {ρ : Ren} {b : Bool} {n c : Nat} {lo hi mx : Option AV} {vl vh vm : Option Value} {r : Nat × Nat × Nat} (h : PL n c lo hi mx = some r)
  (hl : pF ρ lo vl) (hh : pF ρ hi vh) (hm : pF ρ mx vm) (w : World) : (Instr.sliceBounds b n c vl vh vm).run P w = .ok r w := by
 unfold PL at h
 split at h
 ·rename_i m hmx
  split at h
  ·cases h
  ·rename_i hne
   split at h
   ·rename_i hv hhv
    split at h
    ·rename_i l hl'
     cases h
     unfold Instr.sliceBounds
     cases mx with
     | none =>
      simp only [pF] at hm; subst hm
      simp only [bnd,aj] at hmx; subst hmx
      cases hi with
      | none =>
       simp only [pF] at hh; subst hh
       simp only [bnd,aj] at hhv; subst hhv
       cases lo with
       | none => simp only [pF] at hl; subst hl; simp only [bnd,aj] at hl'; subst hl'; rfl
       | some x => simp only [pF] at hl; obtain ⟨u,rfl,hu⟩ := hl; simp [lH (P := P) hl' hu]
      | some y =>
       simp only [pF] at hh; obtain ⟨uy,rfl,huy⟩ := hh
       cases lo with
       | none => simp only [pF] at hl; subst hl; simp only [bnd,aj] at hl'; subst hl'; simp [lH (P := P) hhv huy]
       | some x => simp only [pF] at hl; obtain ⟨u,rfl,hu⟩ := hl; simp [lH (P := P) hl' hu,lH (P := P) hhv huy]
     | some z =>
      simp only [pF] at hm; obtain ⟨uz,rfl,huz⟩ := hm
      cases hi with
      | none => exact (hne _ rfl rfl).elim
      | some y =>
       simp only [pF] at hh; obtain ⟨uy,rfl,huy⟩ := hh
       cases lo with
       | none => simp only [pF] at hl; subst hl; simp only [bnd,aj] at hl'; subst hl'; simp [lH (P := P) hhv huy,lH (P := P) hmx huz]
       | some x => simp only [pF] at hl; obtain ⟨u,rfl,hu⟩ := hl; simp [lH (P := P) hl' hu,lH (P := P) hhv huy,lH (P := P) hmx huz]
    ·cases h
   ·cases h
 ·cases h

theorem alq {x : Option AV} {d lim k : Nat} (h : bnd x d lim = some k) : x = none/\k = d ∨ k<=lim := by
 unfold bnd at h
 split at h
 ·cases h; exact .inl ⟨rfl,rfl⟩
 ·split at h
  ·rename_i hk; cases h; exact .inr (by omega)
  ·cases h
 ·cases h
theorem al8 {n : Nat} {lo hi : Option AV} {l h m : Nat} (hb : PL n n lo hi none = some (l,h,m)) : l<=h/\h<=n := by
 unfold PL at hb
 split at hb
 ·rename_i m' hm
  have hm' : m' = n := by simpa [bnd] using hm.symm
  subst hm'
  split at hb
  ·cases hb
  ·split at hb
   ·rename_i h' hh
    split at hb
    ·rename_i l' hl
     cases hb
     have h1 := alq hh
     have h2 := alq hl
     omega
    ·cases hb
   ·cases hb
 ·cases hb
theorem adQ {x : Option AV} {d lim lim' k : Nat} (h : bnd x d lim = some k) (hl : lim<=lim') : bnd x d lim' = some k := by
 unfold bnd at h ⊢
 split at h
 ·exact h
 ·split at h
  ·rename_i hk; cases h; rw [if_pos (by omega)]
  ·cases h
 ·cases h
theorem PN (n c : Nat) (lo hi : Option AV) : PL n c lo hi none = match bnd hi n c with
  | some h => (match bnd lo 0 h with | some l => some (l,h,c) | none => none)
  | none => none := by
 cases hi <;> rfl
theorem CB {n c : Nat} {lo hi : Option AV} {l h m : Nat} (hb : PL n n lo hi none = some (l,h,m)) (hc : n<=c) : PL n c lo hi none = some (l,h,c) := by
 rw [PN] at hb ⊢
 cases hh : bnd hi n n with
 | none => rw [hh] at hb; cases hb
 | some h' =>
  rw [hh] at hb
  rw [adQ hh hc]
  cases hl : bnd lo 0 h' with
  | none => simp only [hl] at hb; cases hb
  | some l' => simp only [hl] at hb; cases hb; simp only [hl]

def oC (tt : TT) (t : TypeId) (x : AV) (lo hi mx : Option AV) : Option AV :=
 match tt t with
 | some ti => match ti.desc,x with
  | .string,.lit (.string s) => match mx with
   | none => match PL s.size s.size lo hi none with
    | some (l,h,_) => some (.lit (.string (s.extract l h)))
    | none => none
   | some _ => none
  | .slice e,.sl i o n c => match tt e with
   | some te => match PL n c lo hi mx with
    | some (l,h,m) => some (.sl i (if m = l then o else o + l * te.size) (h - l) (m - l))
    | none => none
   | none => none
  | .slice e,.slU i o n sz => match tt e,mx with
   | some te,none => match PL n n lo hi none with
    | some (l,h,_) => if (l < n ∨ l = 0)/\sz = te.size then some (.slU i (o + l * te.size) (h - l) sz) else none
    | none => none
   | _,_ => none
  | .slice e,.lit (.slice none n c) => match tt e with
   | some _ => match PL n c lo hi mx with
    | some (l,h,m) => some (.lit (.slice none (h - l) (m - l)))
    | none => none
   | none => none
  | .array n e,.ptr i o => match tt e with
   | some te => match PL n n lo hi mx with
    | some (l,h,m) => some (.sl i (if m = l then o else o + l * te.size) (h - l) (m - l))
    | none => none
   | none => none
  | _,_ => none
 | none => none

theorem l7 {P : Program} {tt : TT} (hT : tt.ok P) {ρ : Ren} {t : TypeId} {x r : AV} {u : Value} {lo hi mx : Option AV} {vl vh vm : Option Value} (h : oC tt t x lo hi mx = some r)
  (hu : bP ρ x u) (hl : pF ρ lo vl) (hh : pF ρ hi vh) (hm : pF ρ mx vm) : NOk P (Instr.sliceAt t u vl vh vm) ρ r := by
 unfold oC at h
 split at h
 ·rename_i ti hti
  split at h
  ·rename_i s hd
   split at h
   ·split at h
    ·rename_i l hh' m hb
     cases h; simp only [bP] at hu; subst hu; simp only [pF] at hm; subst hm
     refine ⟨.string (s.extract l hh'),fun w => ?_,by simp only [bP]⟩
     obtain ⟨d1,r1,_,m1⟩ := dh (P := P) hT hti w
     rw [iF (m1.trans hd)] at r1
     have hb' := uP (P := P) (b := false) (vm := none) hb hl hh (by simp [pF]) w
     simp [Instr.sliceAt,Instr.slice,r1,hb']
    ·cases h
   ·cases h
  ·rename_i e i o n c hd
   split at h
   ·rename_i te hte
    split at h
    ·rename_i l hh' m hb
     cases h; simp only [bP] at hu; obtain ⟨a,ha,rfl⟩ := hu
     refine ⟨.slice (if m = l then some ⟨a.blk,a.base + o,none⟩ else some ⟨a.blk,a.base + o + l * te.size,none⟩) (hh' - l) (m - l),fun w => ?_,?_⟩
     ·obtain ⟨d1,r1,_,m1⟩ := dh (P := P) hT hti w
      rw [bZ (m1.trans hd)] at r1
      have hb' := uP (P := P) (b := true) hb hl hh hm w
      simp [Instr.sliceAt,Instr.slice,r1,hb',run_sizeOf hT hte,dV]
     ·simp only [bP]
      refine ⟨a,ha,?_⟩
      split <;> simp [Nat.add_assoc]
    ·cases h
   ·cases h
  ·rename_i e i o n sz hd
   split at h
   ·rename_i te hte
    split at h
    ·rename_i l hh' m hb
     split at h
     ·rename_i hc
      obtain ⟨hc,rfl⟩ := hc
      cases h; simp only [bP] at hu; obtain ⟨a,c,ha,rfl,hnc,hlim⟩ := hu
      simp only [pF] at hm; subst hm
      obtain ⟨hb1,hb2⟩ := al8 hb
      have hb' : ∀ w,(Instr.sliceBounds true n c vl vh none).run P w = .ok (l,hh',c) w := fun w => uP (P := P) (b := true) (CB hb hnc) hl hh (by simp [pF]) w
      refine ⟨.slice (if c = l then some ⟨a.blk,a.base + o,none⟩ else some ⟨a.blk,a.base + o + l * te.size,none⟩) (hh' - l) (c - l),fun w => ?_,?_⟩
      ·obtain ⟨d1,r1,_,m1⟩ := dh (P := P) hT hti w
       rw [bZ (m1.trans hd)] at r1
       simp [Instr.sliceAt,Instr.slice,r1,hb',run_sizeOf hT hte,dV]
      ·simp only [bP]
       refine ⟨a,c - l,ha,?_,by omega,?_⟩
       ·rcases hc with hc | hc
        ·rw [if_neg (by omega),Nat.add_assoc]
        ·subst hc; simp
       ·have : o + l * te.size + (c - l) * te.size = o + c * te.size := by
         rw [Nat.add_assoc,← Nat.add_mul]; congr 2; omega
        omega
     ·cases h
    ·cases h
   ·cases h
  ·rename_i e n c hd
   split at h
   ·rename_i te hte
    split at h
    ·rename_i l hh' m hb
     cases h; simp only [bP] at hu; subst hu
     refine ⟨.slice none (hh' - l) (m - l),fun w => ?_,by simp only [bP]⟩
     obtain ⟨d1,r1,_,m1⟩ := dh (P := P) hT hti w
     rw [bZ (m1.trans hd)] at r1
     have hb' := uP (P := P) (b := true) hb hl hh hm w
     simp [Instr.sliceAt,Instr.slice,r1,hb',run_sizeOf hT hte]
    ·cases h
   ·cases h
  ·rename_i n e i o hd
   split at h
   ·rename_i te hte
    split at h
    ·rename_i l hh' m hb
     cases h; simp only [bP] at hu; obtain ⟨a,ha,rfl⟩ := hu
     refine ⟨.slice (if m = l then some ⟨a.blk,a.base + o,none⟩ else some ⟨a.blk,a.base + o + l * te.size,none⟩) (hh' - l) (m - l),fun w => ?_,?_⟩
     ·obtain ⟨d1,r1,_,m1⟩ := dh (P := P) hT hti w
      rw [kD (m1.trans hd)] at r1
      have hb' := uP (P := P) (b := false) hb hl hh hm w
      simp only [Instr.sliceAt,r1,Sem.run_bind,Result.andThen_ok,Instr.sureAddr,Sem.run_pure,hb',run_sizeOf hT hte,dV]
      split <;> rfl
     ·simp only [bP]
      refine ⟨a,ha,?_⟩
      split <;> simp [Nat.add_assoc]
    ·cases h
   ·cases h
  ·cases h
 ·cases h

def lenN (tt : TT) (t : TypeId) (x : AV) : Option AV :=
 match tt t with
 | some ti => match ti.desc,x with
  | .string,.lit (.string s) => some (.lit (.int .i64 s.size))
  | .slice _,.sl _ _ n _ => some (.lit (.int .i64 n))
  | .slice _,.slU _ _ n _ => some (.lit (.int .i64 n))
  | .slice _,.slE _ _ _ n _ => some (.lit (.int .i64 n))
  | .slice _,.slW _ _ _ n => some (.lit (.int .i64 n))
  | .slice _,.slR _ _ _ n => some (.lit (.int .i64 n))
  | .slice _,.slZ _ _ _ _ n => some (.lit (.int .i64 n))
  | .slice _,.lit (.slice _ n _) => some (.lit (.int .i64 n))
  | .array n _,_ => some (.lit (.int .i64 n))
  | .map _ _,.lit (.map none) => some (.lit (.int .i64 0))
  | .ptr a,_ => match tt a with
   | some ta => match ta.desc with
    | .array n _ => some (.lit (.int .i64 n))
    | _ => none
   | none => none
  | _,_ => none
 | none => none
theorem al9 {P : Program} {tt : TT} (hT : tt.ok P) {ρ : Ren} {t ty : TypeId} {x r : AV} {u : Value} {ts : Array TypeId} {us : Array Value} (h : lenN tt t x = some r) (hu : bP ρ x u)
  (hts : ts[0]? = some t) (hus : us[0]? = some u) : NOk P (Builtin.len_ ts ty us) ρ r := by
 unfold lenN at h
 split at h
 ·rename_i ti hti
  have hr : ∀ w,∃ d,(underlying t).run P w = .ok d w/\P.underlying t = some d/\vV P t d = ti.desc := fun w => dh (P := P) hT hti w
  split at h
  ·rename_i s hd
   cases h; simp only [bP] at hu; subst hu
   refine ⟨.int .i64 s.size,fun w => ?_,by simp only [bP]⟩
   obtain ⟨d1,r1,_,m1⟩ := hr w; rw [iF (m1.trans hd)] at r1
   simp [Builtin.len_,hts,hus,r1,goInt]
  ·rename_i e i o n c hd
   cases h; simp only [bP] at hu; obtain ⟨a,_,rfl⟩ := hu
   refine ⟨.int .i64 n,fun w => ?_,by simp only [bP]⟩
   obtain ⟨d1,r1,_,m1⟩ := hr w; rw [bZ (m1.trans hd)] at r1
   simp [Builtin.len_,hts,hus,r1,goInt]
  ·rename_i e i o n c hd
   cases h; simp only [bP] at hu; obtain ⟨a,_,_,rfl,_⟩ := hu
   refine ⟨.int .i64 n,fun w => ?_,by simp only [bP]⟩
   obtain ⟨d1,r1,_,m1⟩ := hr w; rw [bZ (m1.trans hd)] at r1
   simp [Builtin.len_,hts,hus,r1,goInt]
  ·rename_i e i k m n c hd
   cases h; simp only [bP] at hu; obtain ⟨a,_,_,rfl,_⟩ := hu
   refine ⟨.int .i64 n,fun w => ?_,by simp only [bP]⟩
   obtain ⟨d1,r1,_,m1⟩ := hr w; rw [bZ (m1.trans hd)] at r1
   simp [Builtin.len_,hts,hus,r1,goInt]
  ·rename_i e i k m n hd
   cases h; simp only [bP] at hu; obtain ⟨a,_,_,_,rfl,_⟩ := hu
   refine ⟨.int .i64 n,fun w => ?_,by simp only [bP]⟩
   obtain ⟨d1,r1,_,m1⟩ := hr w; rw [bZ (m1.trans hd)] at r1
   simp [Builtin.len_,hts,hus,r1,goInt]
  ·rename_i e i k m n hd
   cases h; simp only [bP] at hu
   refine ⟨.int .i64 n,fun w => ?_,by simp only [bP]⟩
   obtain ⟨d1,r1,_,m1⟩ := hr w; rw [bZ (m1.trans hd)] at r1
   rcases hu with ⟨rfl,rfl⟩ | ⟨a,_,_,_,rfl,_⟩ <;> simp [Builtin.len_,hts,hus,r1,goInt]
  ·rename_i e z i k m n hd
   cases h; simp only [bP] at hu
   refine ⟨.int .i64 n,fun w => ?_,by simp only [bP]⟩
   obtain ⟨d1,r1,_,m1⟩ := hr w; rw [bZ (m1.trans hd)] at r1
   rcases hu with ⟨_,rfl,rfl⟩ | ⟨_,a,_,_,_,rfl,_⟩ <;> simp [Builtin.len_,hts,hus,r1,goInt]
  ·rename_i e a n c hd
   cases h; simp only [bP] at hu; subst hu
   refine ⟨.int .i64 n,fun w => ?_,by simp only [bP]⟩
   obtain ⟨d1,r1,_,m1⟩ := hr w; rw [bZ (m1.trans hd)] at r1
   simp [Builtin.len_,hts,hus,r1,goInt]
  ·rename_i n e hd
   cases h
   refine ⟨.int .i64 n,fun w => ?_,by simp only [bP]⟩
   obtain ⟨d1,r1,_,m1⟩ := hr w; rw [kD (m1.trans hd)] at r1
   simp [Builtin.len_,hts,hus,r1,goInt]
  ·rename_i k e hd
   cases h; simp only [bP] at hu; subst hu
   refine ⟨.int .i64 0,fun w => ?_,by simp only [bP]⟩
   obtain ⟨d1,r1,_,m1⟩ := hr w; rw [tq (m1.trans hd)] at r1
   simp [Builtin.len_,hts,hus,r1,goInt]
  ·rename_i a hd
   split at h
   ·rename_i ta hta
    split at h
    ·rename_i n e hd2
     cases h
     refine ⟨.int .i64 n,fun w => ?_,by simp only [bP]⟩
     obtain ⟨d1,r1,_,m1⟩ := hr w; rw [sZ (m1.trans hd)] at r1
     obtain ⟨d2,r2,_,m2⟩ := dh (P := P) hT hta w; rw [kD (m2.trans hd2)] at r2
     simp [Builtin.len_,hts,hus,r1,r2,goInt]
    ·cases h
   ·cases h
  ·cases h
 ·cases h

def iL (tt : TT) (t : TypeId) (x : AV) : Option AV :=
 match tt t with
 | some ti => match ti.desc,x with
  | .slice _,.sl _ _ _ c => some (.lit (.int .i64 c))
  | .slice _,.slE _ _ _ _ c => some (.lit (.int .i64 c))
  | .slice _,.lit (.slice _ _ c) => some (.lit (.int .i64 c))
  | _,_ => none
 | none => none
theorem ama {P : Program} {tt : TT} (hT : tt.ok P) {ρ : Ren} {t ty : TypeId} {x r : AV} {u : Value} {ts : Array TypeId} {us : Array Value} (h : iL tt t x = some r) (hu : bP ρ x u)
  (hts : ts[0]? = some t) (hus : us[0]? = some u) : NOk P (Builtin.cap_ ts ty us) ρ r := by
 unfold iL at h
 split at h
 ·rename_i ti hti
  split at h
  ·rename_i e i o n c hd
   cases h; simp only [bP] at hu; obtain ⟨a,_,rfl⟩ := hu
   refine ⟨.int .i64 c,fun w => ?_,by simp only [bP]⟩
   obtain ⟨d1,r1,_,m1⟩ := dh (P := P) hT hti w; rw [bZ (m1.trans hd)] at r1
   simp [Builtin.cap_,hts,hus,r1,goInt]
  ·rename_i e i k m n c hd
   cases h; simp only [bP] at hu; obtain ⟨a,_,_,rfl,_⟩ := hu
   refine ⟨.int .i64 c,fun w => ?_,by simp only [bP]⟩
   obtain ⟨d1,r1,_,m1⟩ := dh (P := P) hT hti w; rw [bZ (m1.trans hd)] at r1
   simp [Builtin.cap_,hts,hus,r1,goInt]
  ·rename_i e a n c hd
   cases h; simp only [bP] at hu; subst hu
   refine ⟨.int .i64 c,fun w => ?_,by simp only [bP]⟩
   obtain ⟨d1,r1,_,m1⟩ := dh (P := P) hT hti w; rw [bZ (m1.trans hd)] at r1
   simp [Builtin.cap_,hts,hus,r1,goInt]
  ·cases h
 ·cases h

def foldI (f : Int->Int->Int) : AV->List AV->Option AV
 | .lit (.int k a),[] => some (.lit (.int k a))
 | .lit (.int k a),.lit (.int _ b) :: r => foldI f (.lit (.int k (f a b))) r
 | _,_ => none
theorem La {P : Program} {ρ : Ren} {f : Int->Int->Int} {g : Value->Value->Sem Value} (hg : ∀ k a k' b w,(g (.int k a) (.int k' b)).run P w = .ok (.int k (f a b)) w) :
  ∀ (l : List AV) (us : List Value) (x r : AV) (u : Value),foldI f x l = some r->bP ρ x u->dZ ρ l us->NOk P (us.foldlM g u) ρ r
 | [],us,x,r,u,h,hu,hl => by
  simp only [dZ] at hl; subst hl
  unfold foldI at h
  split at h
  ·cases h; simp only [bP] at hu; subst hu; exact ⟨_,fun w => by simp; rfl,by simp only [bP]⟩
  ·rename_i he; cases he
  ·cases h
 | y :: l,us,x,r,u,h,hu,hl => by
  simp only [dZ] at hl; obtain ⟨v,us',rfl,hv,hl⟩ := hl
  unfold foldI at h
  split at h
  ·rename_i he; cases he
  ·rename_i k a k' b r' he
   cases he
   simp only [bP] at hu hv; subst hu; subst hv
   obtain ⟨q,hq,hr⟩ := La (P := P) hg l us' _ r (.int k (f a b)) h (by simp only [bP]) hl
   exact ⟨q,fun w => by simp [hg,hq],hr⟩
  ·cases h

def ni (a b : Int) : Int := if b < a then b else a
def imax (a b : Int) : Int := if b > a then b else a
def minN (l : List AV) : Option AV := match l with
 | [] => none
 | x :: r => foldI ni x r
def maxN (l : List AV) : Option AV := match l with
 | [] => none
 | x :: r => foldI imax x r
theorem amb {P : Program} {ρ : Ren} {l : List AV} {us : Array Value} {r : AV} {ts : Array TypeId} {ty : TypeId} (h : minN l = some r) (hl : dZ ρ l us.toList) : NOk P (Builtin.min_ ts ty us) ρ r := by
 cases l with
 | nil => cases h
 | cons x l =>
  simp only [dZ] at hl; obtain ⟨v,us',he,hv,hl⟩ := hl
  obtain ⟨q,hq,hr⟩ := La (P := P) (g := Builtin.min2) (fun k a k' b w => by simp [Builtin.min2,ni]) l us' x r v h hv hl
  exact ⟨q,fun w => by simp only [Builtin.min_,he]; exact hq w,hr⟩
theorem amc {P : Program} {ρ : Ren} {l : List AV} {us : Array Value} {r : AV} {ts : Array TypeId} {ty : TypeId} (h : maxN l = some r) (hl : dZ ρ l us.toList) : NOk P (Builtin.max_ ts ty us) ρ r := by
 cases l with
 | nil => cases h
 | cons x l =>
  simp only [dZ] at hl; obtain ⟨v,us',he,hv,hl⟩ := hl
  obtain ⟨q,hq,hr⟩ := La (P := P) (g := Builtin.max2) (fun k a k' b w => by simp [Builtin.max2,imax]) l us' x r v h hv hl
  exact ⟨q,fun w => by simp only [Builtin.max_,he]; exact hq w,hr⟩

theorem UZ {P : Program} {ρ : Ren} {f : Fn} {as bs : List AV} {us vs : Array Value} (ha : dZ ρ as us.toList) (hb : dZ ρ bs vs.toList) : NOk P (Instr.makeFunc f us vs) ρ (.fn f as bs) :=
 ⟨.func f us vs,fun w => by simp [Instr.makeFunc],by simp only [bP]; exact ⟨us,vs,rfl,ha,hb⟩⟩

def splice (off : Nat) (cs l : List AV) : List AV := l.take off ++ cs ++ l.drop (off + cs.length)
def U0 (place : Nat->Option (Nat × Nat)) (cells : List AV) : List (Nat × AV)->Option (List AV)
 | [] => some cells
 | (i,v) :: rest => match place i,iU v with
  | some (off,size),some cs => bif Nat.beq cs.length size && Nat.ble (off + size) cells.length then U0 place (splice off cs cells) rest else none
  | _,_ => none

def amd (ρ : Ren) : List (Nat × AV)->List (Nat × Value)->Prop
 | [],us => us = []
 | (i,a) :: l,us => ∃ u us',us = (i,u) :: us'/\bP ρ a u/\amd ρ l us'

theorem Gz (cs : List Value) : ∀ (off k : Nat) (arr : Array Value),((cs.zipIdx k).foldl (fun a (x : Value × Nat) => a.setIfInBounds (off + x.2) x.1) arr).size = arr.size := by
 induction cs with
 | nil => intro off k arr; simp
 | cons c cs ih => intro off k arr; simp only [List.zipIdx_cons,List.foldl_cons]; rw [ih]; simp

theorem Lc (cs : List Value) : ∀ (off k : Nat) (arr : Array Value) (j : Nat),off + k + cs.length<=arr.size ->
  ((cs.zipIdx k).foldl (fun a (x : Value × Nat) => a.setIfInBounds (off + x.2) x.1) arr)[j]? = if off + k<=j/\j < off + k + cs.length then cs[j - (off + k)]? else arr[j]? := by
 induction cs with
 | nil => intro off k arr j h; simp; intro h1 h2; omega
 | cons c cs ih =>
  intro off k arr j h
  simp only [List.zipIdx_cons,List.foldl_cons,List.length_cons] at h ⊢
  rw [ih off (k + 1) _ j (by simp; omega)]
  by_cases h1 : off + k = j
  ·rw [if_neg (by omega),if_pos (by omega)]
   subst h1
   have : off + k < arr.size := by omega
   simp [this]
  ·rw [Array.getElem?_setIfInBounds_ne h1]
   by_cases h2 : off + k<=j/\j < off + k + (cs.length + 1)
   ·rw [if_pos h2,if_pos (by omega)]
    have : j - (off + k) = (j - (off + (k + 1))) + 1 := by omega
    rw [this]; simp
   ·rw [if_neg h2,if_neg (by omega)]

theorem abr {ρ : Ren} {off : Nat} {cs l : List AV} {us : List Value} {arr : Array Value} (hl : dZ ρ l arr.toList) (hc : dZ ρ cs us) (hb : off + cs.length<=l.length) :
  dZ ρ (splice off cs l) ((us.zipIdx.foldl (fun a (x : Value × Nat) => a.setIfInBounds (off + x.2) x.1) arr).toList) := by
 have hlen := hl.length
 have hcl := hc.length
 have hsz : off + 0 + us.length<=arr.size := by rw [← hcl,← Array.length_toList,← hlen]; omega
 refine dZ.Yj ?_ fun k a ha => ?_
 ·refine Eq.trans ?_ (Array.length_toList.trans (Gz us off 0 arr)).symm
  simp only [splice,List.length_append,List.length_take,List.length_drop]
  rw [← Array.length_toList,← hlen]; omega
 ·simp only [Array.getElem?_toList]
  rw [Lc us off 0 arr k hsz]
  simp only [splice,List.getElem?_append,List.length_append,List.length_take] at ha
  rw [Nat.min_eq_left (by omega)] at ha
  by_cases h1 : off<=k/\k < off + us.length
  ·rw [if_pos (by omega)]
   rw [if_pos (by omega),if_neg (by omega)] at ha
   simpa using hc.get _ _ ha
  ·rw [if_neg (by omega)]
   have : l[k]? = some a := by
    by_cases h2 : k < off
    ·rw [if_pos (by omega),if_pos h2,List.getElem?_take,if_pos h2] at ha; exact ha
    ·rw [if_neg (by omega),List.getElem?_drop] at ha
     have e : off + cs.length + (k - (off + cs.length)) = k := by omega
     rw [e] at ha; exact ha
   simpa using hl.get _ _ this

theorem CG {ρ : Ren} {place : Nat->Option (Nat × Nat)} : ∀ (ps : List (Nat × AV)) (us : List (Nat × Value)) (l r : List AV) (arr : Array Value),U0 place l ps = some r->amd ρ ps us->dZ ρ l arr.toList ->
  ∃ arr',Instr.fill place arr us = some arr'/\dZ ρ r arr'.toList
 | [],us,l,r,arr,h,hp,hl => by
  simp only [amd] at hp; subst hp
  simp only [U0,aj] at h; subst h
  exact ⟨arr,rfl,hl⟩
 | (i,v) :: ps,us,l,r,arr,h,hp,hl => by
  simp only [amd] at hp; obtain ⟨u,us',rfl,hv,hp⟩ := hp
  simp only [U0] at h
  split at h
  ·rename_i off size cs hpl hcs
   cases hb : (Nat.beq cs.length size && Nat.ble (off + size) l.length) with
   | false => rw [hb] at h; simp at h
   | true =>
    rw [hb] at h; simp only [aO] at h
    simp only [aI,Nat.ble_eq] at hb
    have h1 : cs.length = size := ak hb.1
    have hcr := lW hcs hv
    have hcl : u.cells.size = size := by rw [← Array.length_toList,← hcr.length,h1]
    have hsz : arr.size = l.length := by rw [← Array.length_toList,← hl.length]
    obtain ⟨arr',ha,hr⟩ := CG ps us' _ r (u.cells.zipIdx.foldl (fun cs (c,j) => cs.setIfInBounds (off + j) c) arr) h hp (by
     have := abr (off := off) hl hcr (by omega)
     rw [← Array.foldl_toList,Array.toList_zipIdx]
     exact this)
    refine ⟨arr',?_,hr⟩
    have hn : (u.cells.size ≠ size || decide (off + u.cells.size > arr.size)) = false := by
     simp [hcl]; omega
    have hn' : ¬ (u.cells.size ≠ size || decide (off + u.cells.size > arr.size)) = true := by rw [hn]; simp
    simp only [Instr.fill,hpl]
    rw [if_neg (by simpa using hn')]
    exact ha
  ·cases h

def adR (tt : TT) (fs : List (Nat × TypeId × Bool)) (i : Nat) : Option (Nat × Nat) :=
 match fs[i]? with
 | some (o,ft,_) => match tt ft with
  | some tf => some (o,tf.size)
  | none => none
 | none => none
def adS (tt : TT) (t : TypeId) (ps : List (Nat × AV)) : Option AV :=
 match tt t with
 | some ti => match ti.desc with
  | .struct fs _ => match U0 (adR tt fs) (Yl ti.zero) ps with
   | some l => bif fs.all (fun f => (tt f.2.1).isSome) then some (.agg l) else none
   | none => none
  | .array _ e => match tt e with
   | some te => match U0 (fun i => some (i * te.size,te.size)) (Yl ti.zero) ps with
    | some l => some (.agg l)
    | none => none
   | none => none
  | _ => none
 | none => none

theorem qK {P : Program} {tt : TT} (hT : tt.ok P) : ∀ (gs : List Field),(∀ g ∈ gs,(tt g.type).isSome = true)->∀ w,
  (gs.mapM (fun f => do pure (f.offset,← sizeOf f.type)) : Sem (List (Nat × Nat))).run P w = .ok (gs.map fun g => (g.offset,((tt g.type).map TI.size).getD 0)) w
 | [],_,w => by simp
 | g :: gs,h,w => by
  have hg := h g (by simp)
  cases htg : tt g.type with
  | none => rw [htg] at hg; cases hg
  | some tg =>
   have ih := qK (P := P) hT gs (fun x hx => h x (by simp [hx]))
   simp only [List.mapM_cons,Sem.run_bind,run_sizeOf hT htg,Result.andThen_ok,Sem.run_pure,ih,List.map_cons,htg,Option.map_some,Option.getD_some]

theorem adT {P : Program} {tt : TT} (hT : tt.ok P) {ρ : Ren} {t : TypeId} {ps : List (Nat × AV)} {us : Array (Nat × Value)} {r : AV} (h : adS tt t ps = some r) (hp : amd ρ ps us.toList) :
  NOk P (Instr.build t us) ρ r := by
 unfold adS at h
 split at h
 ·rename_i ti hti
  obtain ⟨_,_,z,hi,_,_,_,hz,hzc,_⟩ := hT.info hti
  have hzr : ∀ w,(zeroValue t).run P w = .ok z w := fun w => by simp [zeroValue,typeInfo,hi,hz]
  have hzl : dZ ρ (Yl ti.zero) z.cells.toList := by rw [hzc]; exact dZ.lits _
  split at h
  ·rename_i fs held hfs
   split at h
   ·rename_i l hf
    cases ha : fs.all (fun f => (tt f.2.1).isSome) with
    | false => rw [ha] at h; simp at h
    | true =>
     rw [ha] at h; simp only [aO,aj] at h; subst h
     obtain ⟨gs, jX, hg⟩ : ∃ gs : Array Field, P.underlying t = some (.struct gs) ∧ gs.toList.map (fun f => (f.offset, f.type, f.name != "_")) = fs := by
      obtain ⟨d1,_,jX,m1⟩ := dh (P := P) hT hti default
      obtain ⟨gs,rfl,hg,_⟩ := pq (m1.trans hfs)
      exact ⟨gs,jX,hg⟩
     have hall : ∀ g ∈ gs.toList,(tt g.type).isSome = true := by
      rw [← hg,List.all_map,List.all_eq_true] at ha
      exact fun g hgm => ha g hgm
     obtain ⟨arr',abt,hr⟩ := CG ps us.toList _ l z.cells hf hp hzl
     refine ⟨.agg arr',fun w => ?_,by simp only [bP]; exact ⟨arr',rfl,hr⟩⟩
     have hm := qK (P := P) hT gs.toList hall w
     have hm' : (gs.mapM (fun f => do pure (f.offset,← sizeOf f.type)) : Sem (Array (Nat × Nat))).run P w = .ok (gs.toList.map fun g => (g.offset,((tt g.type).map TI.size).getD 0)).toArray w := by
      rw [Array.mapM_eq_mapM_toList,Sem.run_map,hm]; rfl
     have hpl : (fun i => ((gs.toList.map fun g => (g.offset,((tt g.type).map TI.size).getD 0)).toArray)[i]?) = adR tt fs := by
      funext i
      unfold adR
      rw [← hg,List.getElem?_map]
      simp only [List.getElem?_toArray,List.getElem?_map]
      cases hgi : gs.toList[i]? with
      | none => rfl
      | some g =>
       have := hall g (List.mem_of_getElem? hgi)
       cases htg : tt g.type with
       | none => rw [htg] at this; cases this
       | some tg => simp [htg]
     simp only [Instr.build,Sem.run_bind,hzr,Result.andThen_ok,underlying,run_program,jX,Sem.run_pure,hm',hpl,abt]
   ·cases h
  ·rename_i n e hd
   split at h
   ·rename_i te hte
    split at h
    ·rename_i l hf
     cases h
     obtain ⟨arr',abt,hr⟩ := CG ps us.toList _ l z.cells hf hp hzl
     refine ⟨.agg arr',fun w => ?_,by simp only [bP]; exact ⟨arr',rfl,hr⟩⟩
     obtain ⟨d1,r1,_,m1⟩ := dh (P := P) hT hti w
     rw [kD (m1.trans hd)] at r1
     simp only [Instr.build,Sem.run_bind,hzr,Result.andThen_ok,r1,run_sizeOf hT hte,abt,Sem.run_pure]
    ·cases h
   ·cases h
  ·cases h
 ·cases h
end Go.Proofs.YtenfleoejgjklaaGreat.SE
end
section
namespace Go.Proofs.YtenfleoejgjklaaGreat.SE
open Go

def oD : List AV->Option (List Value)
 | [] => some []
 | .lit v :: r => match oD r with
  | some l => some (v :: l)
  | none => none
 | _ :: _ => none
theorem gQ : ∀ {l : List AV} {m : List Value},oD l = some m->l = m.map .lit
 | [],m,h => by simp [oD] at h; simp [← h]
 | a :: r,m,h => by
  cases a with
  | lit v =>
   simp only [oD] at h
   split at h
   ·rename_i l hl; cases h; simp [gQ hl]
   ·cases h
  | _ => simp [oD] at h

namespace Cs
def sub (c : Cs) (o m : Nat) : Option Cs := match c with
 | .av l => bif Nat.ble (o + m) l.length then some (.av ((l.drop o).take m)) else none
 | .raw l => bif Nat.ble (o + m) l.length then some (.raw ((l.drop o).take m)) else none
 | .tr n z t => bif Nat.ble (o + m) n && !Nat.beq z.length 0 then some (.av ((List.range m).map fun k => ((Cs.tr n z t).get (o + k)).getD .any)) else none
 | .row .. => none
 | .cat .. => none

def app (c d : Cs) : Option Cs := match c,d with
 | .av l,.av m => some (.av (l ++ m))
 | .raw l,.raw m => some (.raw (l ++ m))
 | .raw l,.av m => match oD m with
  | some m => some (.raw (l ++ m))
  | none => match l with
   | [] => some (.av m)
   | _ => none
 | .av l,.raw m => match l with
  | [] => some (.raw m)
  | l => some (.av (l ++ m.map .lit))
 | _,_ => none

def jO (off : Nat) (cs l : List Value) : List Value := l.take off ++ cs ++ l.drop (off + cs.length)
def putAt : List AV->Nat->PM AV->PM AV
 | [],_,t => t
 | v :: r,k,t => putAt r (k + 1) (t.set k (some v))
def put (c : Cs) (o : Nat) (d : Cs) : Option Cs := bif Nat.ble (o + d.size) c.size then (match c,d with
 | .av l,.av m => some (.av (splice o m l))
 | .av l,.raw m => some (.av (splice o (m.map .lit) l))
 | .raw l,.raw m => some (.raw (jO o m l))
 | .raw l,.av m => match oD m with
  | some m => some (.raw (jO o m l))
  | none => none
 | .tr n z t,.av m => some (.tr n z (putAt m o t))
 | .tr n z t,.raw m => some (.tr n z (putAt (m.map .lit) o t))
 | _,_ => none) else none

def Seg (c : Cs) (o m : Nat) (d : Cs) : Prop := d.size = m/\∀ k,k < m->d.get k = c.get (o + k)/\∃ v,c.get (o + k) = some v

theorem Dz {α : Type} (l : List α) (o m k : Nat) : ((l.drop o).take m)[k]? = if k < m then l[o + k]? else none := by
 rw [List.getElem?_take,List.getElem?_drop]

theorem nD {c d : Cs} {o m : Nat} (h : c.sub o m = some d) : o + m<=c.size/\Seg c o m d := by
 cases c with
 | av l =>
  simp only [sub] at h
  cases hb : Nat.ble (o + m) l.length with
  | false => rw [hb] at h; simp at h
  | true =>
   rw [hb] at h; simp at h; subst h
   have hb' : o + m<=l.length := by simpa using hb
   refine ⟨hb',by simp [size]; omega,fun k hk => ?_⟩
   have hlt : o + k < l.length := by omega
   simp only [get,Dz,if_pos hk]
   exact ⟨trivial,l[o + k],List.getElem?_eq_getElem hlt⟩
 | raw l =>
  simp only [sub] at h
  cases hb : Nat.ble (o + m) l.length with
  | false => rw [hb] at h; simp at h
  | true =>
   rw [hb] at h; simp at h; subst h
   have hb' : o + m<=l.length := by simpa using hb
   refine ⟨hb',by simp [size]; omega,fun k hk => ?_⟩
   have hlt : o + k < l.length := by omega
   simp only [get,Dz,if_pos hk]
   exact ⟨trivial,.lit l[o + k],by rw [List.getElem?_eq_getElem hlt]⟩
 | tr n z t =>
  simp only [sub] at h
  cases hb : (Nat.ble (o + m) n && !Nat.beq z.length 0) with
  | false => rw [hb] at h; simp at h
  | true =>
   rw [hb] at h; simp only [aO,aj] at h; subst h
   simp only [aI,Nat.ble_eq,Bool.not_eq_true'] at hb
   have hz : z.length ≠ 0 := fun h0 => by rw [h0] at hb; cases hb.2
   refine ⟨hb.1,by simp [size],fun k hk => ?_⟩
   have hlt : Nat.blt (o + k) n = true := bQ.2 (by omega)
   have hex : ∃ v,(Cs.tr n z t).get (o + k) = some v := by
    simp only [get,hlt,aO]
    cases t.get (o + k) with
    | some v => exact ⟨v,rfl⟩
    | none =>
     have : (o + k) % z.length < z.length := Nat.mod_lt _ (by omega)
     exact ⟨z[(o + k) % z.length],by simp [this]⟩
   refine ⟨?_,hex⟩
   obtain ⟨v,hv⟩ := hex
   show (List.map _ (List.range m))[k]? = _
   simp [hk,hv]
 | row m' n g wr => simp [sub] at h
 | cat a b => simp [sub] at h

theorem CJ {c d e : Cs} (h : c.app d = some e) : e.size = c.size + d.size/\(∀ k,k < c.size->e.get k = c.get k)/\∀ k,e.get (c.size + k) = d.get k := by
 have key1 : ∀ (l m : List AV) (k : Nat),k < l.length->(l ++ m)[k]? = l[k]? := fun l m k hk => by rw [List.getElem?_append_left hk]
 have key2 : ∀ (l m : List AV) (k : Nat),(l ++ m)[l.length + k]? = m[k]? := fun l m k => by rw [List.getElem?_append_right (by omega)]; simp
 have kU : ∀ (l : List Value) (k : Nat),(Cs.raw l).get k = (l.map AV.lit)[k]? := fun l k => by
  simp only [get,List.getElem?_map]; cases l[k]? <;> rfl
 cases c with
 | av l =>
  cases d with
  | av m => simp only [app,aj] at h; subst h; exact ⟨by simp [size],fun k hk => key1 l m k hk,fun k => key2 l m k⟩
  | raw m =>
   cases l with
   | nil =>
    simp only [app,aj] at h; subst h
    exact ⟨by simp [size],fun k hk => by simp [size] at hk,fun k => by simp [size]⟩
   | cons a l =>
    simp only [app,aj] at h; subst h
    refine ⟨by simp [size]; omega,fun k hk => key1 _ _ k hk,fun k => ?_⟩
    rw [kU]; exact key2 _ _ k
  | tr n z t => simp [app] at h
  | row m' n g wr => simp [app] at h
  | cat a b => simp [app] at h
 | raw l =>
  cases d with
  | av m =>
   simp only [app] at h
   split at h
   ·rename_i m' hm
    cases h
    have := gQ hm; subst this
    refine ⟨by simp [size],fun k hk => ?_,fun k => ?_⟩
    ·rw [kU,kU,List.map_append]; exact key1 _ _ k (by simpa [size] using hk)
    ·rw [kU,List.map_append]
     have := key2 (l.map AV.lit) (m'.map AV.lit) k
     simpa [size,get] using this
   ·split at h
    ·cases h; exact ⟨by simp [size],fun k hk => by simp [size] at hk,fun k => by simp [size]⟩
    ·cases h
  | raw m =>
   simp only [app,aj] at h; subst h
   refine ⟨by simp [size],fun k hk => ?_,fun k => ?_⟩
   ·rw [kU,kU,List.map_append]; exact key1 _ _ k (by simpa [size] using hk)
   ·rw [kU,kU,List.map_append]
    have := key2 (l.map AV.lit) (m.map AV.lit) k
    simpa [size] using this
  | tr n z t => simp [app] at h
  | row m' n g wr => simp [app] at h
  | cat a b => simp [app] at h
 | tr n z t => simp [app] at h
 | row m' n g wr => simp [app] at h
 | cat a b => simp [app] at h

theorem wH : ∀ (m : List AV) (o : Nat) (t : PM AV) (k : Nat),(putAt m o t).get k = if o<=k/\k < o + m.length then m[k - o]? else t.get k
 | [],o,t,k => by simp [putAt]; intro h1 h2; omega
 | v :: r,o,t,k => by
  simp only [putAt]
  rw [wH r (o + 1) _ k,PM.fG]
  simp only [List.length_cons]
  by_cases h1 : o = k
  ·subst h1; rw [if_neg (by omega),if_pos rfl,if_pos (by omega)]; simp
  ·by_cases h2 : o<=k/\k < o + (r.length + 1)
   ·rw [if_pos (by omega),if_pos h2]
    have : k - o = (k - (o + 1)) + 1 := by omega
    rw [this]; simp
   ·rw [if_neg (by omega),if_neg (Ne.symm h1),if_neg h2]

theorem oG {α : Type} (o : Nat) (m l : List α) (h : o + m.length<=l.length) (k : Nat) :
  (l.take o ++ m ++ l.drop (o + m.length))[k]? = if o<=k/\k < o + m.length then m[k - o]? else l[k]? := by
 simp only [List.getElem?_append,List.length_append,List.length_take]
 rw [Nat.min_eq_left (by omega)]
 by_cases h1 : k < o
 ·rw [if_pos (by omega),if_pos h1,if_neg (by omega),List.getElem?_take,if_pos h1]
 ·by_cases h2 : k < o + m.length
  ·rw [if_pos h2,if_neg h1,if_pos (by omega)]
  ·rw [if_neg h2,if_neg (by omega),List.getElem?_drop]
   congr 1; omega

theorem CO {c d e : Cs} {o : Nat} (h : c.put o d = some e) : o + d.size<=c.size/\e.size = c.size/\∀ k,e.get k = if o<=k/\k < o + d.size then d.get (k - o) else c.get k := by
 have kU : ∀ (l : List Value) (k : Nat),(Cs.raw l).get k = (l.map AV.lit)[k]? := fun l k => by
  simp only [get,List.getElem?_map]; cases l[k]? <;> rfl
 unfold put at h
 cases hb : Nat.ble (o + d.size) c.size with
 | false => rw [hb] at h; simp at h
 | true =>
  rw [hb] at h; simp only [aO] at h
  have hb' : o + d.size<=c.size := by simpa using hb
  refine ⟨hb',?_⟩
  split at h
  ·rename_i l m
   cases h; simp only [size] at hb' ⊢
   exact ⟨by simp [splice]; omega,fun k => oG o m l hb' k⟩
  ·rename_i l m
   cases h; simp only [size] at hb' ⊢
   refine ⟨by simp [splice]; omega,fun k => ?_⟩
   have := oG o (m.map AV.lit) l (by simpa using hb') k
   rw [kU]
   simpa [splice,get] using this
  ·rename_i l m
   cases h; simp only [size] at hb' ⊢
   refine ⟨by simp [jO]; omega,fun k => ?_⟩
   rw [kU,kU,kU]
   have := oG o (m.map AV.lit) (l.map AV.lit) (by simpa using hb') k
   simpa [jO,List.map_append,List.map_take,List.map_drop] using this
  ·rename_i l m
   split at h
   ·rename_i m' hm
    cases h
    have := gQ hm; subst this
    simp only [size,List.length_map] at hb' ⊢
    refine ⟨by simp [jO]; omega,fun k => ?_⟩
    rw [kU,kU]
    have := oG o (m'.map AV.lit) (l.map AV.lit) (by simpa using hb') k
    simpa [get,jO,List.map_append,List.map_take,List.map_drop] using this
   ·cases h
  ·rename_i n z t m
   cases h; simp only [size] at hb' ⊢
   refine ⟨trivial,fun k => ?_⟩
   simp only [get,wH]
   by_cases h1 : o<=k/\k < o + m.length
   ·have : Nat.blt k n = true := bQ.2 (by omega)
    have h3 : k - o < m.length := by omega
    simp only [if_pos h1,this,aO]
    simp [h3]
   ·simp only [if_neg h1]; exact (if_neg h1).symm
  ·rename_i n z t m
   cases h; simp only [size] at hb' ⊢
   refine ⟨trivial,fun k => ?_⟩
   rw [kU]
   simp only [get,wH,List.length_map]
   by_cases h1 : o<=k/\k < o + m.length
   ·have : Nat.blt k n = true := bQ.2 (by omega)
    have h3 : k - o < m.length := by omega
    simp only [if_pos h1,this,aO]
    simp [h3]
   ·simp only [if_neg h1]; exact (if_neg h1).symm
  ·cases h
end Cs

theorem U1 {h : Heap} {i : Nat} : ∀ (m o : Nat),(∀ k,k < m->∃ v,cellAt h i (o + k) = some v)->∃ l,Yk h i o m = some l/\l.length = m/\∀ k,k < m->l[k]? = cellAt h i (o + k)
 | 0,o,_ => ⟨[],rfl,rfl,fun k hk => by omega⟩
 | m + 1,o,hc => by
  obtain ⟨v,hv⟩ := hc 0 (by omega)
  obtain ⟨l,hl,hlen,hget⟩ := U1 m (o + 1) (fun k hk => by obtain ⟨x,hx⟩ := hc (k + 1) (by omega); exact ⟨x,by rw [← hx]; congr 1; omega⟩)
  refine ⟨v :: l,by simp [Yk] at hv ⊢; simp [hv,hl],by simp [hlen],fun k hk => ?_⟩
  cases k with
  | zero => simpa using hv.symm
  | succ k => simp only [List.getElem?_cons_succ]; rw [hget k (by omega)]; congr 1; omega

def Bj (h : Heap) (x : AV) (n size : Nat) : Option Cs :=
 match x with
 | .sl i o _ _ => match h.get i with
  | some ob => match ob.eP with
   | some c => c.sub o (n * size)
   | none => none
  | none => none
 | .slU i o _ _ => match h.get i with
  | some ob => match ob.eP with
   | some c => c.sub o (n * size)
   | none => none
  | none => none
 | .lit (.slice none _ _) => some (.av [])
 | .lit (.string s) => bif Nat.beq size 1 then some (.raw ((s.extract 0 n).data.toList.map fun b => .int .u8 b.toNat)) else none
 | _ => none

theorem wI {P : Program} {h : Heap} {ρ : Ren} {T : Nat->Prop} {w : World} (hR : Rel h ρ T w) {i o m : Nat} {ob : dF} {c d : Cs} {a : Loc} (hi : h.get i = some ob) (hc : ob.eP = some c)
  (hs : c.sub o m = some d) (ha : ρ i = some a) : ∃ vs : Array Value,(loadCells ⟨a.blk,a.base + o,none⟩ m).run P w = .ok vs w/\vs.size = d.size/\gy ρ d vs 0 := by
 obtain ⟨hle,hsz,hseg⟩ := Cs.nD hs
 have hcell : ∀ k,cellAt h i k = c.get k := fun k => by simp [cellAt,hi,hc]
 obtain ⟨l,hl,hlen,hget⟩ := U1 (h := h) (i := i) m o (fun k hk => by rw [hcell]; exact (hseg k hk).2)
 obtain ⟨vs,hvs,hlr⟩ := run_loadCellsFrom (P := P) hR ha o m 0 #[] l (by simpa using hl)
 refine ⟨vs.toArray,by simpa [loadCells] using hvs,by simp [← hlr.length,hlen,hsz],fun k v hk => ?_⟩
 have hkm : k < m := by rw [← hsz]; exact Cs.eF hk
 have : l[k]? = some v := by rw [hget k hkm,hcell,← (hseg k hkm).1,hk]
 obtain ⟨u,hu,hr⟩ := hlr.get k v this
 exact ⟨u,by simpa using hu,hr⟩

theorem iM {P : Program} {h : Heap} {ρ : Ren} {T : Nat->Prop} {w : World} (hR : Rel h ρ T w) {x : AV} {u : Value} {n size : Nat} {d : Cs} (hs : Bj h x n size = some d) (hu : bP ρ x u) :
  ∃ vs : Array Value,(Builtin.firstCells size n u).run P w = .ok vs w/\vs.size = d.size/\gy ρ d vs 0 := by
 unfold Bj at hs
 split at hs
 ·split at hs
  ·rename_i ob hi
   split at hs
   ·rename_i c hc
    simp only [bP] at hu; obtain ⟨a,ha,rfl⟩ := hu
    simpa [Builtin.firstCells] using wI (P := P) hR hi hc hs ha
   ·cases hs
  ·cases hs
 ·split at hs
  ·rename_i ob hi
   split at hs
   ·rename_i c hc
    simp only [bP] at hu; obtain ⟨a,_,ha,rfl,_⟩ := hu
    simpa [Builtin.firstCells] using wI (P := P) hR hi hc hs ha
   ·cases hs
  ·cases hs
 ·cases hs; simp only [bP] at hu; subst hu
  exact ⟨#[],by simp [Builtin.firstCells],rfl,fun k v hk => by simp [Cs.get] at hk⟩
 ·rename_i s
  cases hb : Nat.beq size 1 with
  | false => rw [hb] at hs; simp at hs
  | true =>
  rw [hb] at hs; simp only [aO,aj] at hs; subst hs
  simp only [bP] at hu; subst hu
  refine ⟨(s.extract 0 n).data.map fun b => .int .u8 b.toNat,by simp only [Builtin.firstCells,Sem.run_pure],by simp [Cs.size],fun k v hk => ?_⟩
  simp only [Cs.get] at hk
  split at hk
  ·rename_i y hy
   cases hk
   refine ⟨y,?_,by simp only [bP]⟩
   rw [List.getElem?_map,Array.getElem?_toList] at hy
   rw [ay,Array.getElem?_map]
   exact hy
  ·cases hk
 ·cases hs

theorem ig {P : Program} {e : TypeId} (b : Nat) : ∀ (us : List Value) (o k : Nat) (w : World) (arr : Array Value),w.heap[b]? = some (.cells arr e (0,0))->(∀ u ∈ us,u.oneCell' = true)->o + k + us.length<=arr.size ->
  ∃ w' arr',(storeCells ⟨b,o,none⟩ us k).run P w = .ok () w'/\w'.heap[b]? = some (.cells arr' e (0,0))/\arr'.size = arr.size/\w'.heap.size = w.heap.size/\(∀ c,c ≠ b->w'.heap[c]? = w.heap[c]?) /\
   w'.os = w.os/\w'.tape = w.tape/\w'.output = w.output/\∀ j,arr'[j]? = if o + k<=j/\j < o + k + us.length then us[j - (o + k)]? else arr[j]?
 | [],o,k,w,arr,hb,_,_ => ⟨w,arr,by simp [storeCells],hb,rfl,rfl,fun _ _ => rfl,rfl,rfl,rfl,fun j => by simp; intro h1 h2; omega⟩
 | u :: us,o,k,w,arr,hb,h1,hsz => by
  simp only [List.length_cons] at hsz
  have ho : o + k < arr.size := by omega
  obtain ⟨w',arr',hrun,hb',hsz',hw,hne,ho1,ho2,ho3,hget⟩ := ig (P := P) b us o (k + 1) (w.setCell ⟨b,o + k,none⟩ u) (arr.setIfInBounds (o + k) u) (heap_setCell hb) (fun x hx => h1 x (by simp [hx])) (by simp; omega)
  refine ⟨w',arr',?_,hb',by simpa using hsz',by simpa using hw,fun c hc => by rw [hne c hc,lX hc],ho1,ho2,ho3,fun j => ?_⟩
  ·have hcell : w.cell? ⟨b,o + k,none⟩ = some arr[o + k] := by simp [World.cell?,hb,ho]
   have hfz : w.frozen? ⟨b,o + k,none⟩ = false := by simp [World.frozen?,hb]
   simp only [storeCells,Sem.run_bind,dV,run_store P w _ u _ (h1 u (by simp)),hcell,hfz,Bool.false_eq_true,if_false,Result.andThen_ok,hrun]
  ·rw [hget]
   simp only [List.length_cons]
   by_cases h2 : o + k = j
   ·rw [if_neg (by omega),if_pos (by omega)]
    subst h2; simp [ho]
   ·by_cases h3 : o + k<=j/\j < o + k + (us.length + 1)
    ·rw [if_pos (by omega),if_pos h3]
     have : j - (o + k) = (j - (o + (k + 1))) + 1 := by omega
     rw [this]; simp
    ·rw [if_neg (by omega),if_neg h3,Array.getElem?_setIfInBounds_ne h2]

def jq : Cs->Bool
 | .av l => l.all oneCell
 | .raw l => l.all Value.oneCell'
 | .tr .. => false
 | .row .. => false
 | .cat .. => false
theorem wJ {ρ : Ren} {d : Cs} {vs : Array Value} (h : jq d = true) (hsz : vs.size = d.size) (hc : gy ρ d vs 0) : ∀ u ∈ vs.toList,u.oneCell' = true := by
 intro u hu
 obtain ⟨k,hk⟩ := List.mem_iff_getElem?.1 hu
 have hk' : vs[k]? = some u := by simpa using hk
 have hlt : k < d.size := by rw [← hsz]; exact (Array.getElem?_eq_some_iff.1 hk').1
 cases d with
 | av l =>
  simp only [Cs.size] at hlt
  obtain ⟨y,hy,hr⟩ := hc k l[k] (by simp [Cs.get,hlt])
  rw [ay,hk'] at hy; cases hy
  exact qI (List.all_eq_true.1 h _ (List.getElem_mem hlt)) hr
 | raw l =>
  simp only [Cs.size] at hlt
  obtain ⟨y,hy,hr⟩ := hc k (.lit l[k]) (by simp [Cs.get,hlt])
  rw [ay,hk'] at hy; cases hy
  simp only [bP] at hr; subst hr
  exact List.all_eq_true.1 h _ (List.getElem_mem hlt)
 | tr n z t => cases h
 | row m n g wr => cases h
 | cat a b => cases h

def PS (h : Heap) (i o : Nat) (d : Cs) : Option Heap :=
 match h.get i with
 | some (.cells e c) => match c.put o d with
  | some c' => some (h.set i (.cells e c'))
  | none => none
 | some (.room e c) => match c.put o d with
  | some c' => some (h.set i (.room e c'))
  | none => none
 | _ => none

theorem gy.put {ρ : Ren} {c c' d : Cs} {arr arr' vs : Array Value} {o : Nat} (hc : gy ρ c arr 0) (hp : c.put o d = some c') (hd : gy ρ d vs 0) (hvs : vs.size = d.size)
  (hget : ∀ j,arr'[j]? = if o<=j/\j < o + vs.size then vs[j - o]? else arr[j]?) : gy ρ c' arr' 0 := by
 obtain ⟨_,_,hg⟩ := Cs.CO hp
 intro k v hk
 rw [hg] at hk
 simp only [ay]
 rw [hget,hvs]
 by_cases h1 : o<=k/\k < o + d.size
 ·rw [if_pos h1] at hk ⊢
  obtain ⟨u,hu,hr⟩ := hd _ _ hk
  exact ⟨u,by simpa using hu,hr⟩
 ·rw [if_neg h1] at hk ⊢
  obtain ⟨u,hu,hr⟩ := hc _ _ hk
  exact ⟨u,by simpa using hu,hr⟩

theorem DC {P : Program} {h h' : Heap} {ρ : Ren} {T : Nat->Prop} {w : World} (hR : Rel h ρ T w) {i o : Nat} {d : Cs} {vs : Array Value} {a : Loc} (hs : PS h i o d = some h') (ha : ρ i = some a)
  (h1 : jq d = true) (hvs : vs.size = d.size) (hd : gy ρ d vs 0) :
  ∃ w',(storeCells ⟨a.blk,a.base + o,none⟩ vs.toList).run P w = .ok () w'/\Rel h' ρ T w'/\h'.next = h.next/\Keeps T w w' := by
 have hone := wJ h1 hvs hd
 have main : ∀ (x : dF) (c c' : Cs) (e : TypeId) (arr : Array Value) (mk : Cs->dF),h.get i = some x->h' = h.set i (mk c')->c.put o d = some c'->a.base = 0->w.heap[a.blk]? = some (.cells arr e (0,0))->c.size<=arr.size ->
   gy ρ c arr 0->(∀ S,dS ρ w T a S x->S a.blk) ->
   (∀ S (w' : World) arr',S a.blk->dS ρ w T a S x->w'.heap[a.blk]? = some (.cells arr' e (0,0))->arr'.size = arr.size->gy ρ c' arr' 0->dS ρ w' T a S (mk c')) ->
   ∃ w',(storeCells ⟨a.blk,a.base + o,none⟩ vs.toList).run P w = .ok () w'/\Rel h' ρ T w'/\h'.next = h.next/\Keeps T w w' := by
  intro x c c' e arr mk hx hh' hput h0 hb hsz hcr hown hnew
  obtain ⟨hle,_,_⟩ := Cs.CO hput
  obtain ⟨w',arr',hrun,hb',hsz',hw,hne,ho1,ho2,ho3,hget⟩ := ig (P := P) a.blk vs.toList (a.base + o) 0 w arr hb hone (by simp [hvs]; omega)
  have adU : ∀ j,arr'[j]? = if o<=j/\j < o + vs.size then vs[j - o]? else arr[j]? := fun j => by
   rw [hget]; simp [h0]
  subst hh'
  refine ⟨w',hrun,hR.upd hx ha hw hne hown fun S hS hx' => hnew S w' arr' hS hx' hb' hsz' (hcr.put hput hd hvs adU),by simp,⟨by omega,ho1,ho2,ho3,fun b hb2 => hne b fun hbb => hb2 ?_⟩⟩
  subst hbb
  exact hR.UR hx ha hown
 obtain ⟨S,r1,_⟩ := id hR
 unfold PS at hs
 split at hs
 ·rename_i e c hx
  split at hs
  ·rename_i c' hput
   cases hs
   obtain ⟨a',ha',ho⟩ := r1 i _ hx
   obtain rfl : a' = a := Option.some.inj (ha'.symm.trans ha)
   obtain ⟨h0,hS,arr,hb,hsz,hlim,hcr⟩ := ho
   refine main _ c c' e arr (dF.cells e) hx rfl hput h0 hb (by omega) hcr (fun S' h => h.2.1) fun S' w' arr' hS' _ hb' hsz' hc' => ?_
   have hcs := (Cs.CO hput).2.1
   exact ⟨h0,hS',arr',hb',by omega,by omega,hc'⟩
  ·cases hs
 ·rename_i e c hx
  split at hs
  ·rename_i c' hput
   cases hs
   obtain ⟨a',ha',ho⟩ := r1 i _ hx
   obtain rfl : a' = a := Option.some.inj (ha'.symm.trans ha)
   obtain ⟨h0,hS,arr,hb,hsz,hle,hcr⟩ := ho
   refine main _ c c' e arr (dF.room e) hx rfl hput h0 hb (by omega) hcr (fun S' h => h.2.1) fun S' w' arr' hS' _ hb' hsz' hc' => ?_
   have hcs := (Cs.CO hput).2.1
   exact ⟨h0,hS',arr',hb',by omega,by omega,hc'⟩
  ·cases hs
 ·cases hs
end Go.Proofs.YtenfleoejgjklaaGreat.SE
end
section
namespace Go.Proofs.YtenfleoejgjklaaGreat.SE
open Go

theorem Rel.move {h : Heap} {ρ : Ren} {T : Nat->Prop} {w : World} (hR : Rel h ρ T w) {i : Nat} {o : dF} {a : Loc} (hi : h.get i = some o) (ha : ρ i = some a) :
  ∃ ρ',ρ.le ρ'/\ρ' h.next = some a/\(∀ i,i < h.next->ρ' i = ρ i)/\Rel ((h.drop i).push o) ρ' T w := by
 obtain ⟨S,h1,h2,h3,h4,h5⟩ := hR
 have hin : i < h.next := by
  rcases Nat.lt_or_ge i h.next with h' | h'
  ·exact h'
  ·rw [h4 i h'] at ha; cases ha
 let ρ' : Ren := fun j => if j = h.next then some a else ρ j
 have hle : ρ.le ρ' := fun j b hb => by
  by_cases hj : j = h.next
  ·rw [hj,h4 h.next (aX _)] at hb; cases hb
  ·simp [ρ',hj,hb]
 refine ⟨ρ',hle,by simp [ρ'],fun j hj => by simp [ρ',Nat.ne_of_lt hj],fun j => if j = h.next then S i else S j,fun j x hj => ?_,fun j k x y b hj hk hjk hSj hSk => ?_,fun j x b hj hSj => ?_,fun j hj => ?_,h5⟩
 ·rw [Heap.jL] at hj
  by_cases hjn : j = h.next
  ·rw [if_pos (by simpa using hjn)] at hj; cases hj
   obtain ⟨a',ha',ho⟩ := h1 i o hi
   obtain rfl : a' = a := Option.some.inj (ha'.symm.trans ha)
   refine ⟨a',by simp [ρ',hjn],?_⟩
   simp only [if_pos hjn]
   exact ho.mono hle
  ·rw [if_neg (by simpa using hjn),Heap.jK] at hj
   split at hj
   ·cases hj
   ·obtain ⟨b,hb,hx⟩ := h1 j x hj
    refine ⟨b,hle _ _ hb,?_⟩
    simp only [if_neg hjn]
    exact hx.mono hle
 ·have get : ∀ j x,((h.drop i).push o).get j = some x->(j = h.next/\x = o) ∨ (j ≠ h.next/\j ≠ i/\h.get j = some x) := fun j x hj => by
   rw [Heap.jL] at hj
   by_cases hjn : j = h.next
   ·rw [if_pos (by simpa using hjn)] at hj; cases hj; exact .inl ⟨hjn,rfl⟩
   ·rw [if_neg (by simpa using hjn),Heap.jK] at hj
    split at hj
    ·cases hj
    ·rename_i hji; exact .inr ⟨hjn,hji,hj⟩
  rcases get j x hj with ⟨hjn,rfl⟩ | ⟨hjn,hji,hjx⟩
  ·rcases get k y hk with ⟨hkn,_⟩ | ⟨hkn,hki,hky⟩
   ·exact hjk (hjn.trans hkn.symm)
   ·simp only [if_pos hjn] at hSj; simp only [if_neg hkn] at hSk
    exact h2 i k x y b hi hky (Ne.symm hki) hSj hSk
  ·rcases get k y hk with ⟨hkn,rfl⟩ | ⟨hkn,hki,hky⟩
   ·simp only [if_neg hjn] at hSj; simp only [if_pos hkn] at hSk
    exact h2 j i x y b hjx hi hji hSj hSk
   ·simp only [if_neg hjn] at hSj; simp only [if_neg hkn] at hSk
    exact h2 j k x y b hjx hky hjk hSj hSk
 ·rw [Heap.jL] at hj
  by_cases hjn : j = h.next
  ·simp only [if_pos hjn] at hSj; exact h3 i o b hi hSj
  ·simp only [if_neg hjn] at hSj
   rw [if_neg (by simpa using hjn),Heap.jK] at hj
   split at hj
   ·cases hj
   ·exact h3 j x b hj hSj
 ·have hj' : h.next + 1<=j := by simpa using hj
  have : j ≠ h.next := by omega
  simp only [ρ',if_neg this]
  exact h4 j (by omega)

theorem Rel.push_room {h : Heap} {ρ : Ren} {T : Nat->Prop} {w : World} (hR : Rel h ρ T w) {e : TypeId} {c : Cs} {arr : Array Value} (hsz : c.size<=arr.size)
  (hc : gy ρ c arr 0) : ∃ ρ',ρ.le ρ'/\ρ' h.next = some ⟨w.heap.size,0,arr.size⟩/\(∀ i,i < h.next->ρ' i = ρ i)/\Rel (h.push (.room e c)) ρ' T (w.alloc (.cells arr e)) /\
   Keeps T w (w.alloc (.cells arr e)) := by
 have hnew : (w.alloc (.cells arr e)).heap[w.heap.size]? = some (.cells arr e (0,0)) := by
  show (w.heap.push _)[w.heap.size]? = _
  simp
 obtain ⟨ρ',h1,h2,h3,h4⟩ := hR.push (o := .room e c) (ob := .cells arr e) arr.size ⟨rfl,rfl,arr,hnew,rfl,hsz,hc⟩
 obtain ⟨S,_,_,_,_,h5⟩ := hR
 exact ⟨ρ',h1,h2,h3,h4,Keeps.alloc _ h5⟩

def adz : AV->Option Nat
 | .sl _ _ n _ => some n
 | .slU _ _ n _ => some n
 | .lit (.slice none 0 _) => some 0
 | .lit (.string s) => some s.size
 | _ => none
theorem adV {P : Program} {ρ : Ren} {x : AV} {u : Value} {n : Nat} (h : adz x = some n) (hu : bP ρ x u) (w : World) : (Builtin.lenOf u).run P w = .ok n w := by
 unfold adz at h
 split at h
 ·cases h; simp only [bP] at hu; obtain ⟨a,_,rfl⟩ := hu; simp [Builtin.lenOf]
 ·cases h; simp only [bP] at hu; obtain ⟨a,_,_,rfl,_⟩ := hu; simp [Builtin.lenOf]
 ·cases h; simp only [bP] at hu; subst hu; simp [Builtin.lenOf]
 ·cases h; simp only [bP] at hu; subst hu; simp [Builtin.lenOf]
 ·cases h

def Af : TD->Bool
 | .int _ => true
 | _ => false

def Ld (tt : TT) (t xt : TypeId) (s x : AV) (h : Heap) : Option (AV × Heap) :=
 match tt t,tt xt,adz x with
 | some ti,some tx,some n => bif Af tx.desc then none else (match ti.desc with
  | .slice e => match tt e with
   | some te => bif Nat.beq te.bytes 0 || !Nat.beq te.zero.length te.size then none else (match Bj h x n te.size with
    | some d => match s with
     | .lit (.slice none 0 0) => if n = 0 then some (.lit (.slice none 0 0),h) else
       bif Nat.ble ((2 * n + 1000) * te.bytes) (2 ^ 48) && jq d then some (h.new (fun k => .slU k 0 n te.size) (.room e d)) else none
     | .sl i o sn sc => if sn + n<=sc then (if n = 0 then some (.sl i o sn sc,h) else bif jq d then (match PS h i (o + sn * te.size) d with
           | some h' => some (.sl i o (sn + n) sc,h')
           | none => none) else none) else
       bif Nat.ble ((2 * (sn + n) + 1000) * te.bytes) (2 ^ 48) then (match Bj h s sn te.size with
        | some c => match c.app d with
         | some c' => some (h.new (fun k => .slU k 0 (sn + n) te.size) (.room e c'))
         | none => none
        | none => none) else none
     | .slU i 0 sn sz => match h.get i with
      | some (.room e' c) => bif Nat.beq sz te.size && Nat.beq c.size (sn * te.size) && Nat.beq e' e && Nat.ble ((2 * (sn + n) + 1000) * te.bytes) (2 ^ 48) && jq d then (match c.app d with
        | some c' => some ((h.drop i).new (fun k => .slU k 0 (sn + n) te.size) (.room e c'))
        | none => none) else none
      | _ => none
     | _ => none
    | none => none)
   | none => none
  | _ => none)
 | _,_,_ => none

theorem PU (L : Nat) : ∀ (r c : Nat),c < L->Builtin.growBy L r c<=2 * L + 192
 | 0,c,h => by simp [Builtin.growBy]; omega
 | r + 1,c,h => by
  simp only [Builtin.growBy]
  rw [if_neg (by omega)]
  by_cases h2 : c + (c + 768) / 4 < L
  ·exact PU L r _ h2
  ·cases r with
   | zero => simp [Builtin.growBy]; omega
   | succ r => simp only [Builtin.growBy]; rw [if_pos (by omega)]; omega
theorem nextslicecap_le {L c : Nat} (h : c < L) : Builtin.nextslicecap L c<=2 * L + 1000 := by
 unfold Builtin.nextslicecap
 split
 ·omega
 ·split
  ·omega
  ·have := PU L 4 c h; omega

theorem gy.app {ρ : Ren} {c d e : Cs} {us vs : Array Value} {rest : Array Value} (h : c.app d = some e) (hc : gy ρ c us 0) (hd : gy ρ d vs 0) (hus : us.size = c.size) (hvs : vs.size = d.size) :
  gy ρ e (us ++ vs ++ rest) 0 := by
 obtain ⟨hsz,h1,h2⟩ := Cs.CJ h
 intro k v hk
 have hlt := Cs.eF hk
 simp only [ay]
 by_cases hkc : k < c.size
 ·rw [h1 k hkc] at hk
  obtain ⟨u,hu,hr⟩ := hc _ _ hk
  refine ⟨u,?_,hr⟩
  rw [Array.getElem?_append_left (by simp; omega),Array.getElem?_append_left (by omega)]
  simpa using hu
 ·obtain ⟨j,rfl⟩ : ∃ j,k = c.size + j := ⟨k - c.size,by omega⟩
  rw [h2] at hk
  obtain ⟨u,hu,hr⟩ := hd _ _ hk
  have hj := Cs.eF hk
  refine ⟨u,?_,hr⟩
  rw [Array.getElem?_append_left (by simp; omega),Array.getElem?_append_right (by omega)]
  simpa [hus] using hu

theorem jE {P : Program} {tt : TT} (hT : tt.ok P) {h : Heap} {ρ : Ren} {T : Nat->Prop} {w : World} (hR : Rel h ρ T w) {e : TypeId} {te : TI} (hte : tt e = some te) (hb0 : te.bytes ≠ 0) (hz : te.zero.length = te.size)
  {need sCap : Nat} (hcap : sCap < need) (hlim : (2 * need + 1000) * te.bytes<=2 ^ 48) {us vs : Array Value}
  {c : Cs} (hsz : us.size + vs.size = need * te.size) (hcs : c.size = need * te.size) (hc : ∀ rest,gy ρ c (us ++ vs ++ rest) 0) :
  ∃ i z newCap ρ',(∀ w,(typeInfo e).run P w = .ok i w)/\i.bytes = te.bytes/\(∀ w,(zeroValue e).run P w = .ok z w)/\Builtin.nextslicecap need sCap * te.bytes<=2 ^ 48 /\
   (choose (.appendCap need sCap e)).run P w = .ok newCap w.drew/\need<=newCap/\(∀ i,i < h.next->ρ' i = ρ i)/\ρ.le ρ' /\
   Rel (h.push (.room e c)) ρ' T (w.drew.alloc (.cells (us ++ vs ++ Builtin.zeroCells z.cells (newCap - need)) e)) /\
   bP ρ' (.slU h.next 0 need te.size) (.slice (some ⟨w.heap.size,0,none⟩) need newCap) /\
   Keeps T w (w.drew.alloc (.cells (us ++ vs ++ Builtin.zeroCells z.cells (newCap - need)) e)) := by
 obtain ⟨i',d,z,hi',_,his,hib,hzz,hzc,_⟩ := hT.info hte
 have hiw : ∀ w,(typeInfo e).run P w = .ok i' w := fun w => by simp [typeInfo,hi']
 have hzr : ∀ w,(zeroValue e).run P w = .ok z w := fun w => by simp [zeroValue,typeInfo,hi',hzz]
 have hn1 : Builtin.nextslicecap need sCap * te.bytes<=2 ^ 48 :=
  Nat.le_trans (Nat.mul_le_mul_right _ (nextslicecap_le hcap)) hlim
 have ame : need < 2 ^ 62 := by
  have : need * 1<=(2 * need + 1000) * te.bytes := Nat.mul_le_mul (by omega) (by omega)
  omega
 let newCap := need + w.tape w.drawn (.appendCap need sCap e) % (2 ^ 63 - need)
 have hch : (choose (.appendCap need sCap e)).run P w = .ok newCap w.drew := by
  rw [run_choose]
  rfl
 have hzsz : z.cells.size = te.size := by rw [← Array.length_toList,hzc,hz]
 have hnc : need<=newCap := by simp [newCap]
 have Yn : (us ++ vs ++ Builtin.zeroCells z.cells (newCap - need)).size = newCap * te.size := by
  simp only [Array.size_append,Builtin.zeroCells,Array.size_map,Array.size_range,hzsz,hsz]
  rw [← Nat.add_mul]; congr 1; omega
 obtain ⟨ρ',h1,h2,h3,h4,h5⟩ := (hR.drew).push_room (e := e) (c := c) (arr := us ++ vs ++ Builtin.zeroCells z.cells (newCap - need)) (by rw [Yn,hcs]; exact Nat.mul_le_mul_right _ hnc) (hc _)
 refine ⟨i',z,newCap,ρ',hiw,hib,hzr,hn1,hch,hnc,h3,h1,h4,?_,(Keeps.drew T w).trans h5⟩
 simp only [bP]
 exact ⟨_,newCap,h2,rfl,hnc,by show 0 + newCap * te.size<=Array.size _; rw [Yn]; omega⟩

theorem Yo {h : Heap} {x : AV} {n size : Nat} {d : Cs} (hl : adz x = some n) (hs : Bj h x n size = some d) : d.size = n * size := by
 unfold Bj at hs
 split at hs
 ·split at hs
  ·split at hs
   ·exact (Cs.nD hs).2.1
   ·cases hs
  ·cases hs
 ·split at hs
  ·split at hs
   ·exact (Cs.nD hs).2.1
   ·cases hs
  ·cases hs
 ·cases hs
  unfold adz at hl
  split at hl <;> first | (cases hl; simp [Cs.size]; done) | (rename_i heq; cases heq; done) | cases hl
 ·cases hb : Nat.beq size 1 with
  | false => rw [hb] at hs; simp at hs
  | true =>
   rw [hb] at hs; simp only [aO,aj] at hs; subst hs
   simp only [adz,aj] at hl
   subst hl
   have := ak hb
   subst this; simp [Cs.size]
 ·cases hs

theorem amf {c d e : Cs} (h : c.app d = some e) : c.sub 0 c.size = some c := by
 cases c with
 | av l => have : Nat.ble l.length l.length = true := by simp
           simp [Cs.sub,Cs.size,this]
 | raw l => have : Nat.ble l.length l.length = true := by simp
            simp [Cs.sub,Cs.size,this]
 | tr n z t => simp [Cs.app] at h
 | row m n g wr => cases d <;> simp [Cs.app] at h
 | cat a b => cases d <;> simp [Cs.app] at h

theorem run_append_grow {P : Program} {w : World} {t xt ty e : TypeId} {ts : Array TypeId} {us : Array Value} {base : Option Addr} {sLen sCap n size newCap : Nat} {v z : Value} {i : TypeInfo} {dx : TypeDesc} {old new : Array Value}
  (ht0 : ts[0]? = some t) (ht1 : ts[1]? = some xt) (hu0 : us[0]? = some (.slice base sLen sCap)) (hu1 : us[1]? = some v) (jX : ∀ w,(underlying t).run P w = .ok (.slice e) w)
  (hsz : ∀ w,(sizeOf e).run P w = .ok size w) (hdx : ∀ w,(underlying xt).run P w = .ok dx w) (hdn : ∀ k,dx ≠ .int k) (hlen : ∀ w,(Builtin.lenOf v).run P w = .ok n w) (hi : ∀ w,(typeInfo e).run P w = .ok i w)
  (hb : i.bytes ≠ 0) (hz : ∀ w,(zeroValue e).run P w = .ok z w) (hcap : sCap < sLen + n) (hnx : Builtin.nextslicecap (sLen + n) sCap * i.bytes<=2 ^ 48)
  (hch : (choose (.appendCap (sLen + n) sCap e)).run P w = .ok newCap w.drew) (hold : (Builtin.firstCells size sLen (.slice base sLen sCap)).run P w.drew = .ok old w.drew) (hnew : (Builtin.firstCells size n v).run P w.drew = .ok new w.drew) :
  (Builtin.append_ ts ty us).run P w = .ok (.slice (some ⟨w.heap.size,0,none⟩) (sLen + n) newCap) (w.drew.alloc (.cells (old ++ new ++ Builtin.zeroCells z.cells (newCap - (sLen + n))) e)) := by
 simp only [Builtin.append_,ht0,ht1,hu0,hu1,Sem.run_bind,jX,Result.andThen_ok,hsz,hdx,hlen,Sem.run_pure,Bool.false_eq_true,if_false,Sem.run_ite]
 rw [if_neg (by omega)]
 simp only [hi,Result.andThen_ok]
 rw [if_neg (by rintro ⟨_,h⟩; rcases h with h | h; exact h; exact hb h),if_neg (by omega)]
 simp only [hch,Result.andThen_ok,run_askRoom,hold,Bool.not_false,if_true,hnew,hz,newRow,Sem.run_bind,run_newObj,Sem.run_pure]
 rfl

theorem run_append_room {P : Program} {w w' : World} {t xt ty e : TypeId} {ts : Array TypeId} {us : Array Value} {base : Option Addr} {sLen sCap n size : Nat} {v : Value} {dx : TypeDesc} {new : Array Value}
  (ht0 : ts[0]? = some t) (ht1 : ts[1]? = some xt) (hu0 : us[0]? = some (.slice base sLen sCap)) (hu1 : us[1]? = some v) (jX : ∀ w,(underlying t).run P w = .ok (.slice e) w)
  (hsz : ∀ w,(sizeOf e).run P w = .ok size w) (hdx : ∀ w,(underlying xt).run P w = .ok dx w) (hdn : ∀ k,dx ≠ .int k) (hlen : ∀ w,(Builtin.lenOf v).run P w = .ok n w)
  (hcap : sLen + n<=sCap) (hnew : (Builtin.firstCells size n v).run P w = .ok new w) (hst : (match base with | some a => storeCells (a.add (sLen * size)) new.toList | none => pure ()).run P w = .ok () w') :
  (Builtin.append_ ts ty us).run P w = .ok (.slice base (sLen + n) sCap) w' := by
 simp only [Builtin.append_,ht0,ht1,hu0,hu1,Sem.run_bind,jX,Result.andThen_ok,hsz,hdx,hlen,Sem.run_pure,Bool.false_eq_true,if_false,Sem.run_ite]
 rw [if_pos hcap]
 cases base with
 | none =>
  simp only [Bool.not_false,if_true,hnew,Result.andThen_ok]
  simp only [Sem.run_pure,Result.ok.injEq,aT] at hst
  rw [hst]
  rfl
 | some a =>
  simp only [] at hst
  simp only [Bool.not_false,if_true,hnew,Result.andThen_ok,hst,Sem.run_bind,Sem.run_pure]

theorem II {P : Program} {tt : TT} (hT : tt.ok P) {h h' : Heap} {ρ : Ren} {T : Nat->Prop} {w : World} (hR : Rel h ρ T w) {t xt ty : TypeId} {s x r : AV} {u v : Value} {ts : Array TypeId} {us : Array Value}
  (hb : Ld tt t xt s x h = some (r,h')) (hu : bP ρ s u) (hv : bP ρ x v) (ht0 : ts[0]? = some t) (ht1 : ts[1]? = some xt) (hu0 : us[0]? = some u) (hu1 : us[1]? = some v) : XOk P (Builtin.append_ ts ty us) h ρ T w r h' := by
 unfold Ld at hb
 split at hb
 ·rename_i ti tx n hti htx hn
  cases hxi : Af tx.desc with
  | true => rw [hxi] at hb; simp at hb
  | false =>
   rw [hxi] at hb
   simp only [aP] at hb
   split at hb
   ·rename_i e hd
    split at hb
    ·rename_i te hte
     cases hbz : (Nat.beq te.bytes 0 || !Nat.beq te.zero.length te.size) with
     | true => rw [hbz] at hb; simp at hb
     | false =>
      rw [hbz] at hb; simp only [aP] at hb
      simp only [Bool.or_eq_false_iff,Bool.not_eq_false'] at hbz
      have hb0 : te.bytes ≠ 0 := fun h0 => by rw [h0] at hbz; cases hbz.1
      have hz : te.zero.length = te.size := ak hbz.2
      have jX : ∀ w,(underlying t).run P w = .ok (.slice e) w := fun w => by
       obtain ⟨d1,r1,_,m1⟩ := dh (P := P) hT hti w
       rw [bZ (m1.trans hd)] at r1; exact r1
      have hundx : ∃ dx,(∀ w,(underlying xt).run P w = .ok dx w)/\∀ k,dx ≠ .int k := by
       obtain ⟨d1,_,p1,m1⟩ := dh (P := P) hT htx w
       refine ⟨d1,fun w => by simp [underlying,p1],fun k hk => ?_⟩
       subst hk
       rw [← m1] at hxi; cases hxi
      obtain ⟨dx,hdx,hdn⟩ := hundx
      have hzeros : (dx matches .int _) = false := by
       cases dx <;> first | rfl | exact absurd rfl (hdn _)
      have hlen : ∀ w,(Builtin.lenOf v).run P w = .ok n w := adV hn hv
      split at hb
      ·rename_i d hseg
       have alr := Yo hn hseg
       obtain ⟨vs,hvs,CP,hvc⟩ := iM (P := P) hR hseg hv
       obtain ⟨vs',hvs',qH,adW⟩ := iM (P := P) hR.drew hseg hv
       split at hb
       ·-- a nil slice
        simp only [bP] at hu; subst hu
        split at hb
        ·rename_i hn0
         cases hb; subst hn0
         refine ⟨.slice none 0 0,w,ρ,?_,fun _ _ => rfl,Ren.le_refl _,aX _,hR,by simp only [bP],Keeps.refl _ _⟩
         exact run_append_room (w' := w) ht0 ht1 hu0 hu1 jX (fun w => run_sizeOf hT hte w) hdx hdn hlen (by omega) hvs rfl
        ·rename_i hn0
         cases hck : (Nat.ble ((2 * n + 1000) * te.bytes) (2 ^ 48) && jq d) with
         | false => rw [hck] at hb; simp at hb
         | true =>
          rw [hck] at hb; simp only [aO,Heap.Ae,aj,Prod.mk.injEq] at hb
          obtain ⟨rfl,rfl⟩ := hb
          simp only [aI,Nat.ble_eq] at hck
          obtain ⟨i,z,newCap,ρ',g1,g2,g3,g4,g5,g6,g7,g8,g9,g10,g11⟩ := jE (P := P) hT hR hte hb0 hz (need := 0 + n) (sCap := 0) (by omega) (by simpa using hck.1) (us := #[]) (vs := vs') (c := d)
           (by simp [qH,alr]) (by simpa using alr) (fun rest => by
            intro k y hk
            obtain ⟨q,hq,hr⟩ := adW k y hk
            have hlt : k < vs'.size := by rw [qH]; exact Cs.eF hk
            refine ⟨q,?_,hr⟩
            simp only [ay] at hq ⊢
            rw [Array.getElem?_append_left (by simpa using hlt)]
            simpa using hq)
          refine ⟨_,_,ρ',run_append_grow ht0 ht1 hu0 hu1 jX (fun w => run_sizeOf hT hte w) hdx hdn hlen g1 (by omega) g3 (by omega) (by rw [g2]; exact g4) g5 (by simp [Builtin.firstCells]) hvs',g7,g8,by simp,g9,by simpa using g10,g11⟩
       ·-- a slice whose capacity is known
        rename_i i o sn sc
        have hu' := hu
        simp only [bP] at hu; obtain ⟨a,ha,rfl⟩ := hu
        split at hb
        ·rename_i hle
         split at hb
         ·rename_i hn0
          cases hb; subst hn0
          have amg : vs = #[] := by rw [Nat.zero_mul] at alr; exact Array.eq_empty_of_size_eq_zero (by omega)
          subst amg
          refine ⟨_,w,ρ,run_append_room (w' := w) ht0 ht1 hu0 hu1 jX (fun w => run_sizeOf hT hte w) hdx hdn hlen hle hvs (by simp [storeCells]),fun _ _ => rfl,Ren.le_refl _,aX _,hR,by simpa only [aH] using hu',Keeps.refl _ _⟩
         ·cases h1 : jq d with
          | false => rw [h1] at hb; simp at hb
          | true =>
           rw [h1] at hb; simp only [aO] at hb
           split at hb
           ·rename_i h2 hput
            cases hb
            obtain ⟨w',hst,hR',hn',hk'⟩ := DC (P := P) hR hput ha h1 CP hvc
            refine ⟨_,w',ρ,run_append_room (w' := w') ht0 ht1 hu0 hu1 jX (fun w => run_sizeOf hT hte w) hdx hdn hlen hle hvs ?_,fun _ _ => rfl,Ren.le_refl _,by omega,hR',by simp only [bP]; exact ⟨a,ha,rfl⟩,hk'⟩
            simp only [dV]
            rw [Nat.add_assoc]
            exact hst
           ·cases hb
        ·rename_i hgt
         cases hck : Nat.ble ((2 * (sn + n) + 1000) * te.bytes) (2 ^ 48) with
         | false => rw [hck] at hb; simp at hb
         | true =>
          rw [hck] at hb; simp only [aO] at hb
          split at hb
          ·rename_i c ao2
           split at hb
           ·rename_i c' happ
            rw [Heap.Ae] at hb
            cases hb
            obtain ⟨os,hos,PV,hoc⟩ := iM (P := P) hR.drew ao2 hu'
            have hcsz : c.size = sn * te.size := by
             refine Yo (x := .sl i o sn sc) rfl ao2
            obtain ⟨ii,z,newCap,ρ',g1,g2,g3,g4,g5,g6,g7,g8,g9,g10,g11⟩ := jE (P := P) hT hR hte hb0 hz (need := sn + n) (sCap := sc) (by omega) (by simpa using hck) (us := os) (vs := vs') (c := c')
             (by rw [PV,qH,hcsz,alr,Nat.add_mul]) (by rw [(Cs.CJ happ).1,hcsz,alr,Nat.add_mul]) (fun rest => gy.app happ hoc adW PV qH)
            exact ⟨_,_,ρ',run_append_grow ht0 ht1 hu0 hu1 jX (fun w => run_sizeOf hT hte w) hdx hdn hlen g1 (by omega) g3 (by omega) (by rw [g2]; exact g4) g5 hos hvs',g7,g8,by simp,g9,g10,g11⟩
           ·cases hb
          ·cases hb
       ·-- a slice whose capacity is not known
        rename_i i sn sz
        split at hb
        ·rename_i e' c hi
         cases hck : (Nat.beq sz te.size && Nat.beq c.size (sn * te.size) && Nat.beq e' e && Nat.ble ((2 * (sn + n) + 1000) * te.bytes) (2 ^ 48) && jq d) with
         | false => rw [hck] at hb; simp at hb
         | true =>
          rw [hck] at hb; simp only [aO] at hb
          simp only [aI,Nat.ble_eq] at hck
          obtain ⟨⟨⟨⟨k1,k2⟩,k3⟩,k4⟩,k5⟩ := hck
          have k1 := ak k1
          have k2 := ak k2
          have k3 := ak k3
          subst k1; subst k3
          split at hb
          ·rename_i c' happ
           rw [Heap.Ae,Heap.adG] at hb
           cases hb
           have hu' := hu
           simp only [bP] at hu; obtain ⟨a,sc,ha,rfl,hle,hlim⟩ := hu
           obtain ⟨S,r1,_⟩ := id hR
           obtain ⟨a',ha',ho⟩ := r1 i _ hi
           obtain rfl : a' = a := Option.some.inj (ha'.symm.trans ha)
           obtain ⟨h0,hS,arr,hb1,Yn,ao3,hcr⟩ := ho
           have ao4 : c'.size = (sn + n) * te.size := by rw [(Cs.CJ happ).1,k2,alr,Nat.add_mul]
           by_cases hroom : sn + n<=sc
           ·-- in place
            have hfit : sn * te.size + vs.size<=arr.size := by
             rw [Yn,CP,alr,← Nat.add_mul]
             exact Nat.le_trans (Nat.mul_le_mul_right _ hroom) (by omega)
            obtain ⟨w',arr',hrun,hb',hsz',hw,hne,ho1,ho2,ho3,hget⟩ := ig (P := P) a'.blk vs.toList (a'.base + 0 + sn * te.size) 0 w arr hb1 (wJ k5 CP hvc) (by simp [h0]; omega)
            have aoX : gy ρ c' arr' 0 := by
             obtain ⟨q1,q2,q3⟩ := Cs.CJ happ
             intro k y hk
             simp only [ay]
             rw [hget]
             simp only [h0,ay,aH,Array.length_toList]
             by_cases hkc : k < c.size
             ·rw [if_neg (by omega)]
              rw [q2 k hkc] at hk
              simpa using hcr k y hk
             ·obtain ⟨j,rfl⟩ : ∃ j,k = c.size + j := ⟨k - c.size,by omega⟩
              rw [q3] at hk
              have hj := Cs.eF hk
              rw [if_pos (by omega)]
              obtain ⟨q,hq,hr⟩ := hvc j y hk
              refine ⟨q,?_,hr⟩
              have : c.size + j - sn * te.size = j := by omega
              rw [this]
              simpa using hq
            have hR' : Rel (h.set i (.room e' c')) ρ T w' := hR.upd hi ha hw hne (fun S h => h.2.1) fun S' hS' hx => ⟨h0,hS',arr',hb',by omega,by rw [ao4]; exact Nat.le_trans (Nat.mul_le_mul_right _ hroom) (by omega),aoX⟩
            obtain ⟨ρ',m1,m2,m3,m4⟩ := hR'.move (i := i) (o := .room e' c') (a := a') (by rw [Heap.fG,if_pos rfl]) ha
            refine ⟨_,w',ρ',run_append_room (w' := w') ht0 ht1 hu0 hu1 jX (fun w => run_sizeOf hT hte w) hdx hdn hlen hroom hvs ?_,m3,m1,by simp,?_,?_,?_⟩
            ·simp only [dV]; exact hrun
            ·refine m4.less (aX _) fun j x hj => ?_
             rw [Heap.jL] at hj ⊢
             have hnx : ((h.set i (.room e' c')).drop i).next = (h.drop i).next := by simp
             rw [hnx]
             split at hj
             ·rename_i hjn; rw [if_pos hjn]; exact hj
             ·rename_i hjn
              rw [if_neg hjn,Heap.jK]
              rw [Heap.jK] at hj
              split at hj
              ·cases hj
              ·rename_i hji; rw [if_neg hji,Heap.fG,if_neg hji]; exact hj
            ·simp only [bP]
             exact ⟨a',sc,m2,by simp,hroom,hlim⟩
            ·refine ⟨by omega,ho1,ho2,ho3,fun b hb2 => hne b fun hbb => hb2 ?_⟩
             subst hbb
             exact hR.UR hi ha (fun S h => h.2.1)
           ·-- it grows
            obtain ⟨os,hos,PV,hoc⟩ := iM (P := P) hR.drew (x := .slU i 0 sn te.size) (n := sn) (size := te.size) (d := c) (by
             simp only [Bj,hi,dF.eP]
             rw [← k2]; exact amf happ) hu'
            obtain ⟨ii,z,newCap,ρ',g1,g2,g3,g4,g5,g6,g7,g8,g9,g10,g11⟩ := jE (P := P) hT hR hte hb0 hz (need := sn + n) (sCap := sc) (by omega) k4 (us := os) (vs := vs') (c := c')
             (by rw [PV,qH,k2,alr,Nat.add_mul]) ao4 (fun rest => gy.app happ hoc adW PV qH)
            refine ⟨_,_,ρ',run_append_grow ht0 ht1 hu0 hu1 jX (fun w => run_sizeOf hT hte w) hdx hdn hlen g1 (by omega) g3 (by omega) (by rw [g2]; exact g4) g5 hos hvs',g7,g8,by simp,?_,g10,g11⟩
            refine g9.less (aX _) fun j x hj => ?_
            rw [Heap.jL] at hj ⊢
            have hnx : (h.drop i).next = h.next := by simp
            rw [hnx] at hj
            split at hj
            ·rename_i hjn; rw [if_pos hjn]; exact hj
            ·rename_i hjn
             rw [if_neg hjn]
             rw [Heap.jK] at hj
             split at hj
             ·cases hj
             ·exact hj
          ·cases hb
        ·cases hb
       ·cases hb
      ·cases hb
    ·cases hb
   ·cases hb
 ·cases hb

def amh (tt : TT) (t : TypeId) (x y : AV) (h : Heap) : Option (AV × Heap) :=
 match tt t,adz x,adz y with
 | some ti,some dn,some n => match ti.desc with
  | .slice e => match tt e with
   | some te => match Bj h y (Nat.min n dn) te.size with
    | some d => match x with
     | .sl i o _ _ => if Nat.min n dn = 0 then some (.lit (.int .i64 0),h) else bif jq d then (match PS h i o d with
      | some h' => some (.lit (.int .i64 (Nat.min n dn)),h')
      | none => none) else none
     | .slU i o _ _ => if Nat.min n dn = 0 then some (.lit (.int .i64 0),h) else bif jq d then (match PS h i o d with
      | some h' => some (.lit (.int .i64 (Nat.min n dn)),h')
      | none => none) else none
     | .lit (.slice none _ _) => if Nat.min n dn = 0 then some (.lit (.int .i64 0),h) else none
     | _ => none
    | none => none
   | none => none
  | _ => none
 | _,_,_ => none

theorem wL {P : Program} {w w' : World} {t ty e : TypeId} {ts : Array TypeId} {us : Array Value} {base : Option Addr} {dn sc n size : Nat} {v : Value} {new : Array Value}
  (ht0 : ts[0]? = some t) (hu0 : us[0]? = some (.slice base dn sc)) (hu1 : us[1]? = some v) (jX : ∀ w,(underlying t).run P w = .ok (.slice e) w)
  (hsz : ∀ w,(sizeOf e).run P w = .ok size w) (hlen : ∀ w,(Builtin.lenOf v).run P w = .ok n w) (hnew : (Builtin.firstCells size (Nat.min n dn) v).run P w = .ok new w)
  (hst : (match base with | some a => storeCells a new.toList | none => pure ()).run P w = .ok () w') : (Builtin.copy_ ts ty us).run P w = .ok (.int .i64 (Nat.min n dn)) w' := by
 simp only [Builtin.copy_,ht0,hu0,hu1,Sem.run_bind,jX,Result.andThen_ok,hsz,hlen,hnew]
 cases base with
 | none =>
  simp only [Sem.run_pure,Result.ok.injEq,aT] at hst
  rw [hst]; rfl
 | some a =>
  simp only [] at hst
  simp only [hst,Sem.run_bind,Result.andThen_ok]; rfl

theorem ajb {P : Program} {tt : TT} (hT : tt.ok P) {h h' : Heap} {ρ : Ren} {T : Nat->Prop} {w : World} (hR : Rel h ρ T w) {t ty : TypeId} {x y r : AV} {u v : Value} {ts : Array TypeId} {us : Array Value}
  (hb : amh tt t x y h = some (r,h')) (hu : bP ρ x u) (hv : bP ρ y v) (ht0 : ts[0]? = some t) (hu0 : us[0]? = some u) (hu1 : us[1]? = some v) : XOk P (Builtin.copy_ ts ty us) h ρ T w r h' := by
 unfold amh at hb
 split at hb
 ·rename_i ti dn n hti hdn hn
  split at hb
  ·rename_i e hd
   split at hb
   ·rename_i te hte
    have jX : ∀ w,(underlying t).run P w = .ok (.slice e) w := fun w => by
     obtain ⟨d1,r1,_,m1⟩ := dh (P := P) hT hti w
     rw [bZ (m1.trans hd)] at r1; exact r1
    have hlen : ∀ w,(Builtin.lenOf v).run P w = .ok n w := adV hn hv
    split at hb
    ·rename_i d hseg
     obtain ⟨vs,hvs,CP,hvc⟩ := iM (P := P) hR hseg hv
     have zero : ∀ (_ : Nat.min n dn = 0),vs = #[] := fun h0 => by
      have hds : d.size = 0 := by
       unfold Bj at hseg
       split at hseg
       ·split at hseg
        ·split at hseg
         ·have := (Cs.nD hseg).2.1; rw [h0,Nat.zero_mul] at this; exact this
         ·cases hseg
        ·cases hseg
       ·split at hseg
        ·split at hseg
         ·have := (Cs.nD hseg).2.1; rw [h0,Nat.zero_mul] at this; exact this
         ·cases hseg
        ·cases hseg
       ·cases hseg; rfl
       ·cases hbb : Nat.beq te.size 1 with
        | false => rw [hbb] at hseg; simp at hseg
        | true => rw [hbb] at hseg; simp only [aO,aj] at hseg; subst hseg; simp [Cs.size,h0]
       ·cases hseg
      exact Array.eq_empty_of_size_eq_zero (by omega)
     split at hb
     ·rename_i i o sn sc
      simp only [adz,aj] at hdn; subst hdn
      simp only [bP] at hu; obtain ⟨a,ha,rfl⟩ := hu
      split at hb
      ·rename_i h0
       cases hb
       have := zero h0; subst this
       refine ⟨_,w,ρ,wL (w' := w) ht0 hu0 hu1 jX (fun w => run_sizeOf hT hte w) hlen hvs (by simp [storeCells]),fun _ _ => rfl,Ren.le_refl _,aX _,hR,by simp only [bP]; rw [h0]; rfl,Keeps.refl _ _⟩
      ·cases h1 : jq d with
       | false => rw [h1] at hb; simp at hb
       | true =>
        rw [h1] at hb; simp only [aO] at hb
        split at hb
        ·rename_i h2 hput
         cases hb
         obtain ⟨w',hst,hR',hn',hk'⟩ := DC (P := P) hR hput ha h1 CP hvc
         exact ⟨_,w',ρ,wL (w' := w') ht0 hu0 hu1 jX (fun w => run_sizeOf hT hte w) hlen hvs hst,fun _ _ => rfl,Ren.le_refl _,by omega,hR',by simp only [bP],hk'⟩
        ·cases hb
     ·rename_i i o sn sz
      simp only [adz,aj] at hdn; subst hdn
      simp only [bP] at hu; obtain ⟨a,c,ha,rfl,_⟩ := hu
      split at hb
      ·rename_i h0
       cases hb
       have := zero h0; subst this
       refine ⟨_,w,ρ,wL (w' := w) ht0 hu0 hu1 jX (fun w => run_sizeOf hT hte w) hlen hvs (by simp [storeCells]),fun _ _ => rfl,Ren.le_refl _,aX _,hR,by simp only [bP]; rw [h0]; rfl,Keeps.refl _ _⟩
      ·cases h1 : jq d with
       | false => rw [h1] at hb; simp at hb
       | true =>
        rw [h1] at hb; simp only [aO] at hb
        split at hb
        ·rename_i h2 hput
         cases hb
         obtain ⟨w',hst,hR',hn',hk'⟩ := DC (P := P) hR hput ha h1 CP hvc
         exact ⟨_,w',ρ,wL (w' := w') ht0 hu0 hu1 jX (fun w => run_sizeOf hT hte w) hlen hvs hst,fun _ _ => rfl,Ren.le_refl _,by omega,hR',by simp only [bP],hk'⟩
        ·cases hb
     ·simp only [bP] at hu; subst hu
      have hd0 : dn = 0 := by
       unfold adz at hdn
       split at hdn <;> first | cases hdn; done | (cases hdn; rfl) | (rename_i heq; cases heq; done) | (rename_i heq; cases heq; cases hdn; rfl)
      split at hb
      ·rename_i h0
       cases hb
       have := zero h0; subst this
       rename_i q1 q2
       have e0 : ∃ q,us[0]? = some (.slice none 0 q) := by
        unfold adz at hdn
        split at hdn <;> first | cases hdn; done | (rename_i heq; cases heq; done) | (rename_i heq; cases heq; exact ⟨_,hu0⟩) | cases hdn
       obtain ⟨q,e0⟩ := e0
       subst hd0
       refine ⟨_,w,ρ,wL (w' := w) ht0 e0 hu1 jX (fun w => run_sizeOf hT hte w) hlen hvs rfl,fun _ _ => rfl,Ren.le_refl _,aX _,hR,by simp only [bP]; rw [h0]; rfl,Keeps.refl _ _⟩
      ·cases hb
     ·cases hb
    ·cases hb
   ·cases hb
  ·cases hb
 ·cases hb

def ami (tt : TT) (t : TypeId) (l c : AV) (h : Heap) : Option (AV × Heap) :=
 match tt t,l,c with
 | some ti,.lit (.int _ l),.lit (.int _ c) => match ti.desc with
  | .slice e => match tt e with
   | some te => if 0<=l/\l<=c/\(te.bytes : Int) * c<=2 ^ 48/\c < 2 ^ 62 then
     bif Nat.beq te.zero.length te.size then some (h.new (fun k => .sl k 0 l.toNat c.toNat) (.cells e (.tr (c.toNat * te.size) (Yl te.zero) .leaf))) else none
    else none
   | none => none
  | _ => none
 | _,_,_ => none
def amj (tt : TT) (t : TypeId) (l c : AV) (h : Heap) : Option (AV × Heap) :=
 match tt t,l,c with
 | some ti,.lit (.int _ 0),.lit (.int _ c) => match ti.desc with
  | .slice e => match tt e with
   | some te => if 0<=c/\(te.bytes : Int) * c<=2 ^ 48/\c < 2 ^ 62 then
     bif Nat.beq te.zero.length te.size then some (h.new (fun k => .slU k 0 0 te.size) (.room e (.raw []))) else none
    else none
   | none => none
  | _ => none
 | _,_,_ => none

theorem wrap_i64 {c : Int} (h0 : 0<=c) (h1 : c < 2 ^ 62) : IntKind.i64.wrap c = c := by
 have e : (2 : Int) ^ 62 = 4611686018427387904 := rfl
 rw [e] at h1
 simp [IntKind.wrap,IntKind.bits,IntKind.signed]
 omega

theorem run_make {P : Program} {tt : TT} (hT : tt.ok P) {w : World} {t e : TypeId} {ti te : TI} (hti : tt t = some ti) (hd : ti.desc = .slice e) (hte : tt e = some te) {k k' : IntKind} {l c : Int}
  (hc : 0<=l/\l<=c/\(te.bytes : Int) * c<=2 ^ 48/\c < 2 ^ 62) (hz : te.zero.length = te.size) :
  ∃ arr : Array Value,(Instr.makeSlice t (.int k l) (.int k' c)).run P w = .ok (.slice (some ⟨w.heap.size,0,none⟩) l.toNat c.toNat) (w.alloc (.cells arr e))/\arr.size = c.toNat * te.size /\
   ∀ j,j < c.toNat * te.size->arr[j]? = te.zero[j % te.zero.length]? := by
 obtain ⟨i,hi,hib,his⟩ := adI (P := P) hT hte w
 obtain ⟨z,hzr,hzc⟩ := jc (P := P) hT hte w
 obtain ⟨d1,r1,_,m1⟩ := dh (P := P) hT hti w
 rw [bZ (m1.trans hd)] at r1
 obtain ⟨h0,h1,h2,h3⟩ := hc
 have wl : IntKind.i64.wrap l = l := wrap_i64 h0 (by omega)
 have wc : IntKind.i64.wrap c = c := wrap_i64 (by omega) h3
 have hn : ¬ ((c < 0 ∨ (i.bytes : Int) * c > 2 ^ 48) ∨ l < 0 ∨ l > c) := by rw [hib]; omega
 have hn' : ¬ ((decide (c < 0) || decide ((i.bytes : Int) * c > 2 ^ 48) || decide (l < 0) || decide (l > c)) = true) := by
  simp only [Bool.or_eq_true,decide_eq_true_eq]; omega
 have hz0 : z.cells.size = te.size := by rw [← Array.length_toList,hzc,hz]
 let n := c.toNat * te.size
 by_cases hn0 : n = 0
 ·refine ⟨(Array.range n).map (fun _ => default),?_,by simp [n],fun j hj => by omega⟩
  simp only [Instr.makeSlice,Sem.run_bind,r1,Result.andThen_ok,asInt,asIntOf,Sem.run_pure,hi,wl,wc,Sem.run_ite]
  rw [if_neg (by simpa using hn')]
  simp only [run_askRoom,Result.andThen_ok,run_sizeOf hT hte]
  have hn0' : c.toNat * te.size = 0 := hn0
  simp [hn0',newRow,n]
 ·refine ⟨(Array.range n).map (z.cells[· % z.cells.size]!),?_,by simp [n],fun j hj => ?_⟩
  ·simp only [Instr.makeSlice,Sem.run_bind,r1,Result.andThen_ok,asInt,asIntOf,Sem.run_pure,hi,wl,wc,Sem.run_ite]
   rw [if_neg (by simpa using hn')]
   simp only [run_askRoom,Result.andThen_ok,run_sizeOf hT hte]
   have hn0' : ¬ c.toNat * te.size = 0 := hn0
   simp [hn0',newRow,hzr,n]
  ·have hj' : j < n := hj
   have hzpos : 0 < z.cells.size := by
    rw [hz0]; exact Nat.pos_of_ne_zero fun h => hn0 (by simp [n,h])
   have hm : j % z.cells.size < z.cells.size := Nat.mod_lt _ hzpos
   rw [Array.getElem?_map,Array.getElem?_range]
   simp only [hj',if_true,Option.map_some]
   rw [← hzc,Array.length_toList,Array.getElem?_toList]
   simp [hm]

theorem ajc {P : Program} {tt : TT} (hT : tt.ok P) {h h' : Heap} {ρ : Ren} {T : Nat->Prop} {w : World} (hR : Rel h ρ T w) {t : TypeId} {l c r : AV} {u v : Value}
  (hb : ami tt t l c h = some (r,h')) (hu : bP ρ l u) (hv : bP ρ c v) : XOk P (Instr.makeSlice t u v) h ρ T w r h' := by
 unfold ami at hb
 split at hb
 ·rename_i ti k l k' c hti
  simp only [bP] at hu hv; subst hu; subst hv
  split at hb
  ·rename_i e hd
   split at hb
   ·rename_i te hte
    split at hb
    ·rename_i hc
     cases hz : Nat.beq te.zero.length te.size with
     | false => rw [hz] at hb; simp at hb
     | true =>
      rw [hz] at hb; simp only [aO,Heap.Ae,aj,Prod.mk.injEq] at hb
      obtain ⟨rfl,rfl⟩ := hb
      have hz := ak hz
      obtain ⟨arr,hrun,Yn,ajd⟩ := run_make (P := P) hT (w := w) hti hd hte (k := k) (k' := k') hc hz
      obtain ⟨ρ',h1,h2,h3,h4,h5⟩ := hR.kE (e := e) (c := .tr (c.toNat * te.size) (Yl te.zero) .leaf) (arr := arr) (by simp [Cs.size,Yn]) (by
       intro j y hj
       have hlt := Cs.eF hj
       simp only [Cs.size] at hlt
       simp only [Cs.get,bQ.2 hlt,aO,PM.oZ,Yl,List.length_map,List.getElem?_map] at hj
       rw [ay,ajd j hlt]
       cases hq : te.zero[j % te.zero.length]? with
       | none => rw [hq] at hj; cases hj
       | some q => rw [hq] at hj; cases hj; exact ⟨q,rfl,by simp only [bP]⟩)
      exact ⟨_,_,ρ',hrun,h3,h1,by simp,h4,by simp only [bP]; exact ⟨_,h2,rfl⟩,h5⟩
    ·cases hb
   ·cases hb
  ·cases hb
 ·cases hb

theorem aje {P : Program} {tt : TT} (hT : tt.ok P) {h h' : Heap} {ρ : Ren} {T : Nat->Prop} {w : World} (hR : Rel h ρ T w) {t : TypeId} {l c r : AV} {u v : Value}
  (hb : amj tt t l c h = some (r,h')) (hu : bP ρ l u) (hv : bP ρ c v) : XOk P (Instr.makeSlice t u v) h ρ T w r h' := by
 unfold amj at hb
 split at hb
 ·rename_i ti k k' c hti
  simp only [bP] at hu hv; subst hu; subst hv
  split at hb
  ·rename_i e hd
   split at hb
   ·rename_i te hte
    split at hb
    ·rename_i hc
     cases hz : Nat.beq te.zero.length te.size with
     | false => rw [hz] at hb; simp at hb
     | true =>
      rw [hz] at hb; simp only [aO,Heap.Ae,aj,Prod.mk.injEq] at hb
      obtain ⟨rfl,rfl⟩ := hb
      have hz := ak hz
      obtain ⟨arr,hrun,Yn,ajd⟩ := run_make (P := P) hT (w := w) hti hd hte (k := k) (k' := k') (l := 0) ⟨by omega,hc.1,hc.2⟩ hz
      obtain ⟨ρ',h1,h2,h3,h4,h5⟩ := hR.push_room (e := e) (c := .raw []) (arr := arr) (by simp [Cs.size]) (by intro j y hj; simp [Cs.get] at hj)
      exact ⟨_,_,ρ',hrun,h3,h1,by simp,h4,by simp only [bP]; exact ⟨_,c.toNat,h2,rfl,by simp,by simp [Yn]⟩,h5⟩
    ·cases hb
   ·cases hb
  ·cases hb
 ·cases hb

def pG (tt : TT) (t : TypeId) (len : Nat) (ps : List (Nat × AV)) (h : Heap) : Option (AV × Heap) :=
 match tt t with
 | some ti => match ti.desc with
  | .slice e => match tt e with
   | some te => bif Nat.beq te.size 0 || !Nat.beq te.zero.length te.size || Nat.ble (2 ^ 24 + 1) (len * te.size) then none else
    match U0 (fun i => some (i * te.size,te.size)) ((List.range (len * te.size)).map fun j => .lit (te.zero[j % te.zero.length]?.getD default)) ps with
    | some l => some (h.new (fun k => .sl k 0 len len) (.cells e (.av l)))
    | none => none
   | none => none
  | _ => none
 | none => none

theorem GH {P : Program} {tt : TT} (hT : tt.ok P) {h h' : Heap} {ρ : Ren} {T : Nat->Prop} {w : World} (hR : Rel h ρ T w) {t : TypeId} {len : Nat} {ps : List (Nat × AV)} {us : Array (Nat × Value)} {r : AV}
  (hb : pG tt t len ps h = some (r,h')) (hp : amd ρ ps us.toList) : XOk P (Instr.buildSlice t len us) h ρ T w r h' := by
 unfold pG at hb
 split at hb
 ·rename_i ti hti
  split at hb
  ·rename_i e hd
   split at hb
   ·rename_i te hte
    cases hck : (Nat.beq te.size 0 || !Nat.beq te.zero.length te.size || Nat.ble (2 ^ 24 + 1) (len * te.size)) with
    | true => rw [hck] at hb; simp at hb
    | false =>
     rw [hck] at hb; simp only [aP] at hb
     simp only [Bool.or_eq_false_iff,Bool.not_eq_false'] at hck
     obtain ⟨⟨k1,k2⟩,k3⟩ := hck
     have k1 : te.size ≠ 0 := fun h0 => by rw [h0] at k1; cases k1
     have k2 := ak k2
     have k3 : ¬ len * te.size > 2 ^ 24 := fun h0 => by
      have : Nat.ble (2 ^ 24 + 1) (len * te.size) = true := by rw [Nat.ble_eq]; omega
      rw [this] at k3; cases k3
     split at hb
     ·rename_i l hf
      rw [Heap.Ae] at hb
      cases hb
      obtain ⟨d1,r1,_,m1⟩ := dh (P := P) hT hti w
      rw [bZ (m1.trans hd)] at r1
      obtain ⟨z,hzr,hzc⟩ := jc (P := P) hT hte w
      have hz0 : z.cells.size = te.size := by rw [← Array.length_toList,hzc,k2]
      let als : Array Value := if len * te.size = 0 then (Array.range (len * te.size)).map (fun _ => default) else (Array.range (len * te.size)).map (z.cells[· % z.cells.size]!)
      have hl0 : dZ ρ ((List.range (len * te.size)).map fun j => AV.lit (te.zero[j % te.zero.length]?.getD default)) als.toList := by
       refine dZ.Yj (by simp only [als]; split <;> simp) fun k a ha => ?_
       rw [List.getElem?_map] at ha
       cases hk : (List.range (len * te.size))[k]? with
       | none => rw [hk] at ha; cases ha
       | some j =>
        rw [hk] at ha; simp only [Option.map_some,aj] at ha; subst ha
        obtain ⟨hlt,hj⟩ := List.getElem?_eq_some_iff.1 hk
        simp at hlt hj; subst hj
        have hne : ¬ len * te.size = 0 := by omega
        have hm : k % z.cells.size < z.cells.size := Nat.mod_lt _ (by omega)
        refine ⟨te.zero[k % te.zero.length]?.getD default,?_,by simp only [bP]⟩
        simp only [als,if_neg hne,Array.getElem?_toList,Array.getElem?_map,Array.getElem?_range,hlt,if_true,Option.map_some,aj]
        rw [← hzc,Array.length_toList,Array.getElem?_toList]
        simp [hm]
      obtain ⟨arr',abt,hr⟩ := CG ps us.toList _ l als hf hp hl0
      obtain ⟨ρ',h1,h2,h3,h4,h5⟩ := hR.kE (e := e) (c := .av l) (arr := arr') (by rw [← Array.length_toList,← hr.length]; rfl) (by simpa using gy.av hr)
      refine ⟨.slice (some ⟨w.heap.size,0,none⟩) len len,_,ρ',?_,h3,h1,by simp,h4,by simp only [bP]; exact ⟨_,h2,rfl⟩,h5⟩
      simp only [Instr.buildSlice,Sem.run_bind,r1,Result.andThen_ok,run_sizeOf hT hte,Sem.run_ite]
      rw [if_neg k3]
      by_cases hn0 : len * te.size = 0
      ·simp only [if_pos hn0,Sem.run_pure,Result.andThen_ok]
       have : als = (Array.range (len * te.size)).map (fun x => (#[] : Array Value)[x % (#[] : Array Value).size]!) := by
        simp only [als,if_pos hn0]; congr 1
       rw [← this,abt]
       simp only [newRow,Sem.run_bind,run_newObj,Sem.run_pure,Result.andThen_ok]
       rfl
      ·simp only [if_neg hn0,hzr,Sem.run_pure,Result.andThen_ok]
       have : als = (Array.range (len * te.size)).map (z.cells[· % z.cells.size]!) := by simp only [als,if_neg hn0]
       rw [← this,abt]
       simp only [newRow,Sem.run_bind,run_newObj,Sem.run_pure,Result.andThen_ok]
       rfl
     ·cases hb
   ·cases hb
  ·cases hb
 ·cases hb
end Go.Proofs.YtenfleoejgjklaaGreat.SE
end
section
namespace Go.Proofs.YtenfleoejgjklaaGreat.SE
open Go

abbrev Fr := PM AV
def look (fr : Fr) (t : Nat) : AV := match fr.get t with
 | some v => v
 | none => .any
def GI (fr : Fr) (d : Option Tmp) (v : AV) : Fr := match d with
 | some d => fr.set d (some v)
 | none => fr
def evA (fr : Fr) : Operand->AV
 | .tmp t => look fr t
 | .const v => .lit v
 | .global _ => .any
 | .func f => .fn (.func f) [] []

structure nU (ρ : Ren) (n : Nat) (fr : Fr) (a : Act) : Prop where
 size : a.tmps.size = n
 defers : a.defers = []
 vals : ∀ t,bP ρ (look fr t) (a.tmps.getD t undef)

theorem jP {fr : Fr} {d : Tmp} {v : AV} (t : Nat) : look (GI fr (some d) v) t = if t = d then v else look fr t := by
 simp only [look,GI,PM.fG]
 by_cases h : t = d
 ·simp [h]
 ·simp [h]

def PW (n : Nat) : Option Tmp->Bool
 | some d => Nat.blt d n
 | none => true

theorem nU.put {ρ : Ren} {n : Nat} {fr : Fr} {a : Act} (h : nU ρ n fr a) {d : Option Tmp} {v : AV} {u : Value} (hd : PW n d = true) (hv : bP ρ v u) : nU ρ n (GI fr d v) (a.put d u) := by
 cases d with
 | none => exact h
 | some d =>
  have hd' : d < n := bQ.1 hd
  refine ⟨by simp [Act.put,h.size],h.defers,fun t => ?_⟩
  rw [jP]
  by_cases ht : t = d
  ·subst ht
   rw [if_pos rfl]
   have : t < a.tmps.size := by rw [h.size]; exact hd'
   simpa [Act.put,this] using hv
  ·rw [if_neg ht]
   have := h.vals t
   simp only [Act.put,Array.getD_eq_getD_getElem?] at this ⊢
   rw [Array.getElem?_setIfInBounds_ne (Ne.symm ht)]
   exact this
theorem nU.mono {ρ ρ' : Ren} (hρ : ρ.le ρ') {n : Nat} {fr : Fr} {a : Act} (h : nU ρ n fr a) : nU ρ' n fr a := ⟨h.size,h.defers,fun t => bP.mono hρ _ _ (h.vals t)⟩
theorem nU.ev {ρ : Ren} {n : Nat} {fr : Fr} {a : Act} (h : nU ρ n fr a) (x : Operand) : bP ρ (evA fr x) (a.eval x) := by
 cases x with
 | tmp t => exact h.vals t
 | const v => simp only [evA,bP,Act.eval]
 | global g => simp only [evA,bP]
 | func f => simp only [evA,bP,Act.eval]; exact ⟨#[],#[],rfl,.nil,.nil⟩

def ai2 (f : Operand->AV) : Option Operand->Option AV
 | none => none
 | some x => some (f x)
theorem tC {ρ : Ren} {f : Operand->AV} {g : Operand->Value} (h : ∀ x,bP ρ (f x) (g x)) (o : Option Operand) : pF ρ (ai2 f o) (o.map g) := by
 cases o with
 | none => rfl
 | some x => exact ⟨_,rfl,h x⟩
theorem pI {ρ : Ren} {f : Operand->AV} {g : Operand->Value} (h : ∀ x,bP ρ (f x) (g x)) : ∀ l : List Operand,dZ ρ (l.map f) (l.map g)
 | [] => .nil
 | x :: l => .cons (h x) (pI h l)
theorem Le {ρ : Ren} {f : Operand->AV} {g : Operand->Value} (h : ∀ x,bP ρ (f x) (g x)) : ∀ l : List (Nat × Operand),amd ρ (l.map fun p => (p.1,f p.2)) (l.map fun p => (p.1,g p.2))
 | [] => rfl
 | (_,x) :: l => ⟨_,_,rfl,h x,Le h l⟩

def bltN (tt : TT) (b : Builtin) (ts : List TypeId) (xs : List AV) : Option AV :=
 match b,ts,xs with
 | .len,t :: _,x :: _ => lenN tt t x
 | .cap,t :: _,x :: _ => iL tt t x
 | .min,_,xs => minN xs
 | .max,_,xs => maxN xs
 | _,_,_ => none

def opN (tt : TT) (op : Op) (ev : Operand->AV) : Option AV :=
 match op with
 | .move x => some (ev x)
 | .assign x => some (ev x)
 | .pick c a b => match ev c with
  | .lit (.bool t) => some (bif t then ev a else ev b)
  | _ => none
 | .nilCheck x => nilN (ev x)
 | .binOp o t x y _ => abo tt o t (ev x) (ev y)
 | .unOp o _ x => unN o (ev x)
 | .convert s d x => adP tt s d (ev x)
 | .makeFunc f a b => some (.fn f (a.toList.map ev) (b.toList.map ev))
 | .slice t x lo hi mx => oC tt t (ev x) (ai2 ev lo) (ai2 ev hi) (ai2 ev mx)
 | .fieldAddr s x f => jD tt s (ev x) f
 | .field s x f => fieldN tt s (ev x) f
 | .indexAddr t x i => kF tt t (ev x) (ev i)
 | .index t x i => IG tt t (ev x) (ev i)
 | .extract x i => KZ (ev x) i
 | .build t ps => adS tt t (ps.toList.map fun p => (p.1,ev p.2))
 | .call c => match c.callee with
  | .builtin b => bltN tt b c.argTypes.toList (c.args.toList.map ev)
  | _ => none
 | _ => none

theorem nG {P : Program} {w w' : World} {s : Sem Value} {u : Value} (h : s.run P w = .ok u w') : (do pure (Next.value (← s)) : Sem Next).run P w = .ok (.value u) w' := by
 simp [h]

theorem iV {e : Operand->Value} {c : Call} {b : Builtin} (h : c.callee = .builtin b) (ty : TypeId) (P : Program) (w : World) :
  ∃ cs,(resolve e c ty).run P w = .ok { target := .builtin b c.argTypes ty cs,args := c.args.map e } w := by
 unfold resolve
 simp only [h]
 exact ⟨_,rfl⟩

theorem ao5 {P : Program} {tt : TT} (hT : tt.ok P) {ρ : Ren} {o : Oper} {ev : Operand->AV} {e : Operand->Value} (he : ∀ x,bP ρ (ev x) (e x)) {v : AV} (h : opN tt o.op ev = some v) :
  ∃ u,(∀ w,(execOp e o).run P w = .ok (.value u) w)/\bP ρ v u := by
 obtain ⟨dst,op,ty,pos,after,guard⟩ := o
 have wrap : ∀ {s : Sem Value},NOk P s ρ v->∃ u,(∀ w,(do pure (Next.value (← s)) : Sem Next).run P w = .ok (.value u) w)/\bP ρ v u :=
  fun ⟨u,hu,hr⟩ => ⟨u,fun w => nG (hu w),hr⟩
 cases op <;> simp only [opN] at h <;> try (cases h; done)
 case move x => cases h; exact ⟨e x,fun w => by simp [execOp],he x⟩
 case assign x => cases h; exact ⟨e x,fun w => by simp [execOp],he x⟩
 case pick c a b =>
  split at h
  ·rename_i t ht
   cases h
   have := he c
   rw [ht] at this
   simp only [bP] at this
   cases t with
   | true => exact ⟨e a,fun w => by simp [execOp,this,asBool],he a⟩
   | false => exact ⟨e b,fun w => by simp [execOp,this,asBool],he b⟩
  ·cases h
 case nilCheck x =>
  obtain ⟨u,hu,hr⟩ := al7 (P := P) h (he x)
  refine ⟨u,fun w => ?_,hr⟩
  have := hu w
  unfold fJ at this
  simp only [execOp]
  exact this
 case binOp o t x y yt => exact wrap (adO (P := P) (xo := x) (yo := y) hT h (he x) (he y))
 case unOp o t x => exact wrap (ao1 (P := P) h (he x))
 case convert s d x => exact wrap (KY (P := P) hT h (he x))
 case makeFunc f a b =>
  cases h
  refine wrap (UZ (P := P) ?_ ?_)
  ·simpa using pI he a.toList
  ·simpa using pI he b.toList
 case slice t x lo hi mx => exact wrap (l7 (P := P) hT h (he x) (tC he lo) (tC he hi) (tC he mx))
 case fieldAddr s x f => exact wrap (pz (P := P) hT h (he x))
 case field s x f => exact wrap (wF (P := P) hT h (he x))
 case indexAddr t x i => exact wrap (jM (P := P) hT h (he x) (he i))
 case index t x i => exact wrap (wG (P := P) hT h (he x) (he i))
 case extract x i => exact wrap (UY (P := P) h (he x))
 case build t ps =>
  refine wrap (adT (P := P) hT h ?_)
  simpa using Le he ps.toList
 case call c =>
  split at h
  ·rename_i b hb
   have hl : dZ ρ (c.args.toList.map ev) (c.args.map e).toList := by simpa using pI he c.args.toList
   have key : ∀ {s : Array TypeId->TypeId->Array Value->Sem Value},(∀ cs args w,(builtin b c.argTypes ty cs args).run P w = (do pure (Next.value (← s c.argTypes ty args)) : Sem Next).run P w)->NOk P (s c.argTypes ty (c.args.map e)) ρ v ->
     ∃ u,(∀ w,(execOp e ⟨dst,.call c,ty,pos,after,guard⟩).run P w = .ok (.value u) w)/\bP ρ v u := by
    intro s hs ⟨u,hu,hr⟩
    refine ⟨u,fun w => ?_,hr⟩
    obtain ⟨cs,hcs⟩ := iV (e := e) hb ty P w
    simp only [execOp,Sem.run_bind,hcs,Result.andThen_ok,invoke,hs]
    simp [hu]
   have first : ∀ x r,c.args.toList.map ev = x :: r->∃ u,(c.args.map e)[0]? = some u/\bP ρ x u := fun x r hx => by
    rw [hx] at hl
    obtain ⟨u,hu,hr⟩ := hl.get 0 x rfl
    exact ⟨u,by simpa using hu,hr⟩
   have firstT : ∀ t r,c.argTypes.toList = t :: r->c.argTypes[0]? = some t := fun t r ht => by
    rw [← Array.getElem?_toList,ht]; rfl
   unfold bltN at h
   split at h
   ·rename_i t r x r' ht hx
    obtain ⟨u,hu,hr⟩ := first x r' hx
    exact key (s := Builtin.len_) (fun cs args w => rfl) (al9 hT h hr (firstT t r ht) hu)
   ·rename_i t r x r' ht hx
    obtain ⟨u,hu,hr⟩ := first x r' hx
    exact key (s := Builtin.cap_) (fun cs args w => rfl) (ama hT h hr (firstT t r ht) hu)
   ·exact key (s := Builtin.min_) (fun cs args w => rfl) (amb h hl)
   ·exact key (s := Builtin.max_) (fun cs args w => rfl) (amc h hl)
   ·cases h
  ·cases h

def bltX (tt : TT) (b : Builtin) (ts : List TypeId) (xs : List AV) (h : Heap) : Option (AV × Heap) :=
 match b,ts,xs with
 | .append,t :: t' :: _,x :: y :: _ => Ld tt t t' x y h
 | .copy,t :: _,x :: y :: _ => amh tt t x y h
 | _,_,_ => none

def opX (u : Bool) (tt : TT) (op : Op) (ev : Operand->AV) (h : Heap) : Option (AV × Heap) :=
 match op with
 | .alloc e => IB tt e h
 | .box e x => aoZ e (ev x) h
 | .store t a x => match PI tt t (ev a) (ev x) h with
  | some h' => some (.lit undef,h')
  | none => none
 | .makeSlice t l c => bif u then amj tt t (ev l) (ev c) h else ami tt t (ev l) (ev c) h
 | .buildSlice t n ps => pG tt t n (ps.toList.map fun p => (p.1,ev p.2)) h
 | .call c => match c.callee with
  | .builtin b => bltX tt b c.argTypes.toList (c.args.toList.map ev) h
  | _ => none
 | _ => none

def PX (P : Program) (s : Sem Next) (w : World) (u : Value) (w' : World) : Prop := s.run P w = .ok (.value u) w' ∨ (s.run P w = .ok .skip w'/\u = undef)

theorem alu {P : Program} {tt : TT} (hT : tt.ok P) {h h' : Heap} {ρ : Ren} {T : Nat->Prop} {w : World} (hR : Rel h ρ T w) {b : Bool} {o : Oper} {ev : Operand->AV} {e : Operand->Value} (he : ∀ x,bP ρ (ev x) (e x)) {v : AV}
  (hh : opX b tt o.op ev h = some (v,h')) : ∃ u w' ρ',PX P (execOp e o) w u w'/\(∀ i,i < h.next->ρ' i = ρ i)/\ρ.le ρ'/\h.next<=h'.next/\Rel h' ρ' T w'/\bP ρ' v u/\Keeps T w w' := by
 obtain ⟨dst,op,ty,pos,after,guard⟩ := o
 have wrap : ∀ {s : Sem Value},XOk P s h ρ T w v h'->∃ u w' ρ',PX P (do pure (Next.value (← s)) : Sem Next) w u w'/\(∀ i,i < h.next->ρ' i = ρ i)/\ρ.le ρ'/\h.next<=h'.next/\Rel h' ρ' T w'/\bP ρ' v u/\Keeps T w w' :=
  fun ⟨u,w',ρ',h1,h2⟩ => ⟨u,w',ρ',.inl (nG h1),h2⟩
 cases op <;> simp only [opX] at hh <;> try (cases hh; done)
 case alloc el => exact wrap (PK hT hR hh)
 case box el x => exact wrap (adL hR hh (he x))
 case store t a x =>
  split at hh
  ·rename_i h2 hs
   cases hh
   obtain ⟨w',hrun,hR',hn,hk⟩ := Dx (P := P) hT hR hs (he a) (he x)
   exact ⟨undef,w',ρ,.inr ⟨by simp [execOp,hrun],rfl⟩,fun _ _ => rfl,Ren.le_refl _,by omega,hR',by simp only [bP],hk⟩
  ·cases hh
 case makeSlice t l c =>
  cases b with
  | true => exact wrap (aje hT hR hh (he l) (he c))
  | false => exact wrap (ajc hT hR hh (he l) (he c))
 case buildSlice t n ps =>
  refine wrap (GH hT hR hh ?_)
  simpa using Le he ps.toList
 case call c =>
  split at hh
  ·rename_i bb hb
   have hl : dZ ρ (c.args.toList.map ev) (c.args.map e).toList := by simpa using pI he c.args.toList
   have key : ∀ {s : Array TypeId->TypeId->Array Value->Sem Value},(∀ cs args w,(builtin bb c.argTypes ty cs args).run P w = (do pure (Next.value (← s c.argTypes ty args)) : Sem Next).run P w) ->
     XOk P (s c.argTypes ty (c.args.map e)) h ρ T w v h' ->
     ∃ u w' ρ',PX P (execOp e ⟨dst,.call c,ty,pos,after,guard⟩) w u w'/\(∀ i,i < h.next->ρ' i = ρ i)/\ρ.le ρ'/\h.next<=h'.next/\Rel h' ρ' T w'/\bP ρ' v u/\Keeps T w w' := by
    intro s hs ⟨u,w',ρ',h1,h2⟩
    refine ⟨u,w',ρ',.inl ?_,h2⟩
    obtain ⟨cs,hcs⟩ := iV (e := e) hb ty P w
    simp only [execOp,Sem.run_bind,hcs,Result.andThen_ok,invoke,hs]
    simp [h1]
   unfold bltX at hh
   split at hh
   ·rename_i t t' r x y r' ht hx
    rw [hx] at hl
    obtain ⟨u0,hu0,hr0⟩ := hl.get 0 x rfl
    obtain ⟨u1,hu1,hr1⟩ := hl.get 1 y rfl
    exact key (s := Builtin.append_) (fun cs args w => rfl) (II hT hR hh hr0 hr1 (by rw [← Array.getElem?_toList,ht]; rfl) (by rw [← Array.getElem?_toList,ht]; rfl) (by simpa using hu0) (by simpa using hu1))
   ·rename_i t r x y r' ht hx
    rw [hx] at hl
    obtain ⟨u0,hu0,hr0⟩ := hl.get 0 x rfl
    obtain ⟨u1,hu1,hr1⟩ := hl.get 1 y rfl
    exact key (s := Builtin.copy_) (fun cs args w => rfl) (ajb hT hR hh hr0 hr1 (by rw [← Array.getElem?_toList,ht]; rfl) (by simpa using hu0) (by simpa using hu1))
   ·cases hh
  ·cases hh
end Go.Proofs.YtenfleoejgjklaaGreat.SE
end
section
namespace Go.Proofs.YtenfleoejgjklaaGreat.SE
open Go

structure St (k n : Nat) (ρ : Ren) (T : Nat->Prop) (fr : Fr) (h : Heap) (a : Act) (w : World) : Prop where
 le : k<=h.next
 rel : Rel h ρ T w
 fr : nU ρ n fr a

def After (k n : Nat) (ρ₀ : Ren) (T : Nat->Prop) (w₀ : World) (Q : Fr->Heap->Prop) (a : Act) (w : World) : Prop :=
 ∃ ρ fr h,(∀ i,i < k->ρ i = ρ₀ i)/\St k n ρ T fr h a w/\Keeps T w₀ w/\Q fr h

theorem After.trans {k n : Nat} {ρ₀ ρ₁ : Ren} {T : Nat->Prop} {w₀ w₁ : World} {Q : Fr->Heap->Prop} {a : Act} {w : World} (hρ : ∀ i,i < k->ρ₁ i = ρ₀ i) (hk : Keeps T w₀ w₁) (h : After k n ρ₁ T w₁ Q a w) : After k n ρ₀ T w₀ Q a w := by
 obtain ⟨ρ,fr,h',h1,h2,h3,h4⟩ := h
 exact ⟨ρ,fr,h',fun i hi => (h1 i hi).trans (hρ i hi),h2,hk.trans h3,h4⟩
theorem After.mono {k n : Nat} {ρ₀ : Ren} {T : Nat->Prop} {w₀ : World} {Q Q' : Fr->Heap->Prop} (hq : ∀ fr h,Q fr h->Q' fr h) {a : Act} {w : World} (h : After k n ρ₀ T w₀ Q a w) : After k n ρ₀ T w₀ Q' a w :=
 let ⟨ρ,fr,h',h1,h2,h3,h4⟩ := h; ⟨ρ,fr,h',h1,h2,h3,hq _ _ h4⟩

def PY (k n : Nat) (ρ₀ : Ren) (T : Nat->Prop) (w₀ : World) (Q : Fr->Heap->Prop) : Exit->Act->World->Prop
 | .normal,a,w => After k n ρ₀ T w₀ Q a w
 | _,_,_ => False

def amk (P : Program) (k n : Nat) (ops : Array Oper) (pl : List Stp) (Q : Fr->Heap->Prop) (fr : Fr) (h : Heap) : Prop :=
 ∀ ρ T w a,St k n ρ T fr h a w->vY P ops (PY k n ρ T w Q) pl a w

def qL (ops : Array Oper) (o : Oper) (fr : Fr) : Option Bool :=
 match o.guard with
 | none => some true
 | some (j,want) => match ops[j]? with
  | some oj => match oj.dst with
   | some d => match look fr d with
    | .lit (.bool b) => some (b == want)
    | .lit (.tuple _) => some false
    | _ => none
   | none => none
  | none => none

theorem abu {ops : Array Oper} {o : Oper} {fr : Fr} {ρ : Ren} {n : Nat} {a : Act} (hf : nU ρ n fr a) {b : Bool} (h : qL ops o fr = some b) : Region.wanted o (yielded ops a.tmps) = b := by
 unfold qL at h
 unfold Region.wanted
 split at h
 ·rename_i hg; cases h; simp [hg]
 ·rename_i j want hg
  simp only [hg]
  split at h
  ·rename_i oj hoj
   split at h
   ·rename_i d hd
    have hv := hf.vals d
    split at h
    ·rename_i x hx
     cases h
     rw [hx] at hv; simp only [bP] at hv
     have : a.tmps[d]? = some (.bool x) := by
      simp only [Array.getD_eq_getD_getElem?] at hv
      cases hh : a.tmps[d]? with
      | none => rw [hh] at hv; simp [undef] at hv
      | some y => rw [hh] at hv; simpa using hv
     simp [yielded,hoj,hd,this]
    ·rename_i x hx
     cases h
     rw [hx] at hv; simp only [bP] at hv
     cases hh : a.tmps[d]? with
     | none => simp [yielded,hoj,hd,hh]
     | some y =>
      simp only [Array.getD_eq_getD_getElem?,hh,Option.getD_some] at hv
      subst hv
      simp [yielded,hoj,hd,hh]
    ·cases h
   ·cases h
  ·cases h

theorem PZ {P : Program} {ops : Array Oper} {Q : Exit->Act->World->Prop} {i : Nat} {o : Oper} {a : Act} {w w' : World} {u : Value} {K : Act->World->Prop} (ho : ops[i]? = some o)
  (hw : Region.wanted o (yielded ops a.tmps) = true) (hr : PX P (execOp a.eval o) w u w') (hK : K (a.put o.dst u) w') : wpOp P ops Q i K a w := by
 unfold wpOp
 simp only [ho,hw,if_true,Oper.wp]
 refine .inl ?_
 rcases hr with hr | ⟨hr,rfl⟩
 ·rw [hr]; exact hK
 ·rw [hr]; exact hK

section
variable {P : Program} {tt : TT} {k n : Nat} {ops : Array Oper} {Q : Fr->Heap->Prop} {fr : Fr} {h : Heap}

theorem IJ {ρ₀ ρ₁ : Ren} {T : Nat->Prop} {w₀ w₁ : World} (hρ : ∀ i,i < k->ρ₁ i = ρ₀ i) (hk : Keeps T w₀ w₁) (e : Exit) (a : Act) (w : World) (hh : PY k n ρ₁ T w₁ Q e a w) : PY k n ρ₀ T w₀ Q e a w := by
 cases e <;> first | exact After.trans hρ hk hh | exact hh.elim

theorem Oper.ajf {o : Oper} {a : Act} {w : World} {K K' : Act->World->Prop} {Q Q' : Exit->Act->World->Prop} (h : ∀ a w,K a w->K' a w) (hq : ∀ e a w,Q e a w->Q' e a w)
  (hh : o.wp P a w K Q) : o.wp P a w K' Q' := by
 unfold Oper.wp at *
 generalize (execOp a.eval o).run P w = r at *
 cases r with
 | ok n w' =>
  cases n <;> simp only [Oper.upon] at hh ⊢ <;> first
   | exact h _ _ hh
   | exact Calls.mono hh (fun e w'' he => by cases e <;> first | exact h _ _ he | exact hq _ _ _ he | exact (let ⟨a,w,q⟩ := he; ⟨a,w,hq _ _ _ q⟩))
   | exact Rows.mono hh (fun _ _ he => h _ _ he)
 | halt x w' => cases x <;> simp only [Oper.upon] at hh ⊢ <;> first | exact hq _ _ _ hh | exact hh
theorem abv {i : Nat} {a : Act} {w : World} {K K' : Act->World->Prop} {Q Q' : Exit->Act->World->Prop} (h : ∀ a w,K a w->K' a w) (hq : ∀ e a w,Q e a w->Q' e a w)
  (hh : wpOp P ops Q i K a w) : wpOp P ops Q' i K' a w := by
 unfold wpOp at *
 split
 ·exact h _ _ (by simpa [*] using hh)
 ·rename_i o ho
  simp only [ho] at hh
  split
  ·rename_i hw; simp only [hw,if_true] at hh; exact hh.imp (Oper.ajf h hq) (fun ⟨h1,a,w,h2⟩ => ⟨h1,a,w,hq _ _ _ h2⟩)
  ·rename_i hw; simp only [hw] at hh; exact h _ _ hh
theorem wM {w : World} {K K' : Act->Prop} (h : ∀ a,K a->K' a) : ∀ (l : List Nat) (a : Act),Cj P ops w K l a->Cj P ops w K' l a
 | [],a,hh => h a hh
 | _ :: l,_,⟨o,v,ho,hy,hh⟩ => ⟨o,v,ho,hy,wM h l _ hh⟩
theorem jr {Q Q' : Exit->Act->World->Prop} (hq : ∀ e a w,Q e a w->Q' e a w) : ∀ (pl : List Stp) (a : Act) (w : World),vY P ops Q pl a w->vY P ops Q' pl a w
 | [],_,_,h => hq _ _ _ h
 | .nn _ :: rest,_,w,⟨o,v,ho,hy,h⟩ => ⟨o,v,ho,hy,jr hq rest _ w h⟩
 | .rr l :: rest,a,w,h => wM (fun a' h' => jr hq rest a' w h') l a h
 | .xx _ :: rest,_,_,h => abv (fun a' w' h' => jr hq rest a' w' h') hq h

theorem amk.after {pl : List Stp} {Q' : Fr->Heap->Prop} {ρ₀ : Ren} {T : Nat->Prop} {w₀ : World} (hp : ∀ fr h,Q fr h->amk P k n ops pl Q' fr h) {a : Act} {w : World} (ha : After k n ρ₀ T w₀ Q a w) : vY P ops (PY k n ρ₀ T w₀ Q') pl a w := by
 obtain ⟨ρ,fr,h,h1,h2,h3,h4⟩ := ha
 exact jr (IJ h1 h3) pl a w (hp fr h h4 ρ T w a h2)

end

def CQ (P : Program) (f : FuncId) : Prop := ∃ fn, P.funcs[f]? = some fn ∧ (fn.name == "runtime.NumGoroutine") = false ∧ fn.body.isSome = true

def Sp (P : Program) (f : FuncId) (args : List AV) (h : Heap) (K : AV->Heap->Prop) : Prop :=
 CQ P f/\∀ ρ T w vs,Rel h ρ T w->dZ ρ args vs.toList ->
  Calls P f vs w (fun e w' => ∃ ρ' v u h',(∀ i,i < h.next->ρ' i = ρ i)/\h.next<=h'.next/\Rel h' ρ' T w'/\bP ρ' v u/\e = .returned u/\Keeps T w w'/\K v h')

theorem Sp.mono {P : Program} {f : FuncId} {args : List AV} {h : Heap} {K K' : AV->Heap->Prop} (hs : Sp P f args h K) (hk : ∀ v h',K v h'->K' v h') : Sp P f args h K' :=
 ⟨hs.1,fun ρ T w vs h1 h2 => (hs.2 ρ T w vs h1 h2).mono fun _ _ ⟨ρ',v,u,h',a,b,c,d,e,f,g⟩ => ⟨ρ',v,u,h',a,b,c,d,e,f,hk _ _ g⟩⟩

theorem Ag {P : Program} {f : FuncId} (h : CQ P f) (args : Array Value) (w : World) : (callFunc f args).run P w = .ok (.enter f args) w := by
 obtain ⟨fn,hf,hn,hb⟩ := h
 have hb' : fn.body.isNone = false := by cases hbb : fn.body with
  | none => rw [hbb] at hb; cases hb
  | some x => rfl
 simp only [callFunc,Sem.run_bind,run_program,Result.andThen_ok,hf,hn,hb',Bool.false_eq_true,if_false,Sem.run_pure]

section
variable {P : Program} {tt : TT} {k n : Nat} {ops : Array Oper} {Q : Fr->Heap->Prop} {fr : Fr} {h : Heap}
end

def P5 (k n : Nat) (ρ₀ : Ren) (T : Nat->Prop) (w₀ : World) (Q : Exit->Fr->Heap->Prop) (e : Exit) (a : Act) (w : World) : Prop :=
 match e with
 | .normal => After k n ρ₀ T w₀ (Q .normal) a w
 | .exit id => After k n ρ₀ T w₀ (Q (.exit id)) a w
 | .ret => After k n ρ₀ T w₀ (Q .ret) a w
 | _ => False

def AWp (P : Program) (k n : Nat) (c : Code) (Q : Exit->Fr->Heap->Prop) (fr : Fr) (h : Heap) : Prop :=
 ∀ ρ T w a,St k n ρ T fr h a w->c.wp P (P5 k n ρ T w Q) a w

section
variable {P : Program} {k n : Nat} {Q : Exit->Fr->Heap->Prop} {fr : Fr} {h : Heap}

theorem DF {ρ₀ ρ₁ : Ren} {T : Nat->Prop} {w₀ w₁ : World} (hρ : ∀ i,i < k->ρ₁ i = ρ₀ i) (hk : Keeps T w₀ w₁) (e : Exit) (a : Act) (w : World) (hh : P5 k n ρ₁ T w₁ Q e a w) : P5 k n ρ₀ T w₀ Q e a w := by
 cases e <;> first | exact After.trans hρ hk hh | exact hh.elim
theorem abw {Q' : Exit->Fr->Heap->Prop} (hq : ∀ e fr h,Q e fr h->Q' e fr h) {ρ₀ : Ren} {T : Nat->Prop} {w₀ : World} (e : Exit) (a : Act) (w : World) (hh : P5 k n ρ₀ T w₀ Q e a w) : P5 k n ρ₀ T w₀ Q' e a w := by
 cases e <;> first | exact After.mono (hq _) hh | exact hh.elim
theorem AWp.mono {c : Code} {Q' : Exit->Fr->Heap->Prop} (hq : ∀ e fr h,Q e fr h->Q' e fr h) (hc : AWp P k n c Q fr h) : AWp P k n c Q' fr h :=
 fun ρ T w a hs => wp_mono (hc ρ T w a hs) (abw hq)

theorem AWp.after {c : Code} {R : Fr->Heap->Prop} {ρ₀ : Ren} {T : Nat->Prop} {w₀ : World} (hp : ∀ fr h,R fr h->AWp P k n c Q fr h) {a : Act} {w : World} (ha : After k n ρ₀ T w₀ R a w) : c.wp P (P5 k n ρ₀ T w₀ Q) a w := by
 obtain ⟨ρ,fr,h,h1,h2,h3,h4⟩ := ha
 exact wp_mono (hp fr h h4 ρ T w a h2) (DF h1 h3)

def aml (K : Fr->Heap->Prop) (Q : Exit->Fr->Heap->Prop) : Exit->Fr->Heap->Prop
 | .normal,fr,h => K fr h
 | e,fr,h => Q e fr h
def IK (id : Nat) (Q : Exit->Fr->Heap->Prop) : Exit->Fr->Heap->Prop
 | .exit id',fr,h => if id' = id then Q .normal fr h else Q (.exit id') fr h
 | e,fr,h => Q e fr h

theorem ajg (hq : Q .normal fr h) : AWp P k n .skip Q fr h :=
 fun ρ _ _ _ hs => wp_skip ⟨ρ,fr,h,fun _ _ => rfl,hs,Keeps.refl _ _,hq⟩
theorem amm (hq : Q .ret fr h) : AWp P k n .ret Q fr h :=
 fun ρ _ _ _ hs => wp_ret ⟨ρ,fr,h,fun _ _ => rfl,hs,Keeps.refl _ _,hq⟩
theorem ajh {id : Nat} (hq : Q (.exit id) fr h) : AWp P k n (.exit id) Q fr h :=
 fun ρ _ _ _ hs => wp_exit ⟨ρ,fr,h,fun _ _ => rfl,hs,Keeps.refl _ _,hq⟩
theorem amn {x y : Code} (hx : AWp P k n x (aml (fun fr h => AWp P k n y Q fr h) Q) fr h) : AWp P k n (.seq x y) Q fr h := by
 intro ρ T w a hs
 refine wp_seq (wp_mono (hx ρ T w a hs) fun e a' w' hh => ?_)
 cases e <;> first | exact AWp.after (fun _ _ h => h) hh | exact hh
theorem Yp {c : Operand} {x y : Code} {b : Bool} (hc : evA fr c = .lit (.bool b)) (ht : b = true->AWp P k n x Q fr h) (hf : b = false->AWp P k n y Q fr h) : AWp P k n (.cond c x y) Q fr h := by
 intro ρ T w a hs
 have hv := hs.fr.ev c
 rw [hc] at hv; simp only [bP] at hv
 exact wp_cond_split hv (fun hb => ht hb ρ T w a hs) (fun hb => hf hb ρ T w a hs)
theorem P6 {id : Nat} {c : Code} (hc : AWp P k n c (IK id Q) fr h) : AWp P k n (.block id c) Q fr h := by
 intro ρ T w a hs
 refine wp_block (wp_mono (hc ρ T w a hs) fun e a' w' hh => ?_)
 cases e with
 | exit id' =>
  simp only [P5,Exit.inBlock] at hh ⊢
  by_cases hid : id' = id
  ·simp only [hid,if_true]
   exact hh.mono fun fr h hq => by simpa [IK,hid] using hq
  ·simp only [hid,if_false]
   exact hh.mono fun fr h hq => by simpa [IK,hid] using hq
 | _ => exact hh
theorem Yq {c : Code} (I : Nat->Fr->Heap->Prop) {m : Nat} (h0 : I m fr h) (round : ∀ m fr h,I m fr h->AWp P k n c (aml (fun fr h => ∃ m',m' < m/\I m' fr h) Q) fr h) : AWp P k n (.loop c) Q fr h := by
 intro ρ₀ T w₀ a hs
 let I' : Act->World->Nat->Prop := fun a w m => After k n ρ₀ T w₀ (I m) a w
 have key : ∀ m a w,I' a w m->∀ (b : Frame) (kk : List Item) (cs : List Frame),∃ e a' w',P5 k n ρ₀ T w₀ Q e a' w'/\Arrives P (lone (b.at a (.code c :: .inLoop c :: kk)) cs w) b kk cs e a' w' := by
  intro m
  induction m using Nat.strongRecOn with
  | _ m ih =>
   intro a w hI b kk cs
   obtain ⟨e,a₁,w₁,hq,harr⟩ := AWp.after (fun fr h hi => round m fr h hi) hI b (.inLoop c :: kk) cs
   cases e with
   | normal =>
    obtain ⟨ρ,fr,h,q1,q2,q3,m',hm',q4⟩ := hq
    obtain ⟨e₂,a₂,w₂,hq₂,harr₂⟩ := ih m' hm' a₁ w₁ ⟨ρ,fr,h,q1,q2,q3,q4⟩ b kk cs
    exact ⟨e₂,a₂,w₂,hq₂,.of_steps (Steps.trans harr (.one step_inLoop)) harr₂⟩
   | exit id => exact ⟨.exit id,a₁,w₁,hq,.pass (x := .inLoop c) rfl (fun _ _ => .inl (by simp)) harr⟩
   | ret => exact ⟨.ret,a₁,w₁,hq,.pass (x := .inLoop c) rfl (fun _ _ => .inl (by simp)) harr⟩
   | goto l => exact hq.elim
   | panic ch => exact hq.elim
   | outgrown => exact hq.elim
 intro b kk cs
 obtain ⟨e,a',w',hq,harr⟩ := key m a w₀ ⟨ρ₀,fr,h,fun _ _ => rfl,hs,Keeps.refl _ _,h0⟩ b kk cs
 exact ⟨e,a',w',hq,.of_steps (.one step_loop) harr⟩

theorem Yr {P : Program} {ops : Array Oper} {Q : Exit->Act->World->Prop} : ∀ (l : List Nat) (a : Act) (w : World),vY P ops Q (l.map .xx) a w->wpOps P ops Q l a w
 | [],a,w,h => h
 | i :: l,a,w,h => by
  rw [wpOps_cons]
  exact wpOp_mono (fun a' w' h' => Yr l a' w' h') h

theorem abx {id : Nat} {ops : Array Oper} {pl : List Stp} (hpl : (List.range ops.size).map Stp.xx = pl) (hp : amk P k n ops pl (Q .normal) fr h) : AWp P k n (.region id ops false) Q fr h := by
 intro ρ T w a hs
 refine wp_region (Yr _ a w ?_)
 rw [hpl]
 exact jr (fun e a w h => by cases e <;> first | exact h | exact h.elim) pl a w (hp ρ T w a hs)
end
end Go.Proofs.YtenfleoejgjklaaGreat.SE
end
