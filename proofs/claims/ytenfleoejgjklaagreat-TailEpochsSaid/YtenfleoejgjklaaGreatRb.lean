import Derived.Test.YtenfleoejgjklaaGreatRa
import Derived.WalkKit
import Derived.ProofKit
import Derived.OpenShut
import Derived.Below
import Derived.Carry
import Derived.MapKept
set_option linter.unusedVariables false
set_option linter.unusedSimpArgs false
set_option linter.unnecessarySimpa false
section
namespace Go.Proofs.YtenfleoejgjklaaGreat.SE
open Go

mutual
def iQ (τ : Nat->Nat) : AV->AV
 | .any => .any
 | .lit v => .lit v
 | .ptr i o => .ptr (τ i) o
 | .sl i o n c => .sl (τ i) o n c
 | .slU i o n s => .slU (τ i) o n s
 | .og i k m j => .og (τ i) k m j
 | .slE i k m n c => .slE (τ i) k m n c
 | .slW i k m n => .slW (τ i) k m n
 | .slR i k m n => .slR (τ i) k m n
 | .slZ z i k m n => .slZ z (τ i) k m n
 | .one => .one
 | .arr n g => .arr n g
 | .mp i => .mp (τ i)
 | .fn f a b => .fn f (lmap τ a) (lmap τ b)
 | .agg l => .agg (lmap τ l)
 | .tup l => .tup (lmap τ l)
 | .ifc t v => .ifc t (iQ τ v)
def lmap (τ : Nat->Nat) : List AV->List AV
 | [] => []
 | a :: l => iQ τ a :: lmap τ l
end
mutual
def dQ (n : Nat) : AV->Bool
 | .any => true
 | .lit _ => true
 | .ptr i _ => Nat.blt i n
 | .sl i _ _ _ => Nat.blt i n
 | .slU i _ _ _ => Nat.blt i n
 | .og i _ _ _ => Nat.blt i n
 | .slE i _ _ _ _ => Nat.blt i n
 | .slW i _ _ _ => Nat.blt i n
 | .slR i _ _ _ => Nat.blt i n
 | .slZ _ i _ _ _ => Nat.blt i n
 | .one => true
 | .arr .. => true
 | .mp i => Nat.blt i n
 | .fn _ a b => gY n a && gY n b
 | .agg l => gY n l
 | .tup l => gY n l
 | .ifc _ v => dQ n v
def gY (n : Nat) : List AV->Bool
 | [] => true
 | a :: l => dQ n a && gY n l
end
theorem L9 (τ : Nat->Nat) : ∀ l,lmap τ l = l.map (iQ τ)
 | [] => rfl
 | a :: l => by simp [lmap,L9 τ l]
theorem zl {n : Nat} : ∀ {l : List AV} {k : Nat} {a : AV},gY n l = true->l[k]? = some a->dQ n a = true
 | [],k,a,_,h => by simp at h
 | b :: l,0,a,hb,h => by simp at h; subst h; simp only [gY,aI] at hb; exact hb.1
 | b :: l,k + 1,a,hb,h => by simp only [gY,aI] at hb; exact zl hb.2 (by simpa using h)

mutual
theorem bP.iQ {τ : Nat->Nat} {ρ ρ' : Ren} (h : ∀ i a,ρ i = some a->ρ' (τ i) = some a) : ∀ (v : AV) (u : Value),bP ρ v u->bP ρ' (iQ τ v) u
 | .any,_,_ => by simp [bP,SE.iQ]
 | .lit x,_,hv => by simpa [bP,SE.iQ] using hv
 | .ptr i o,u,hv => by simp only [bP,SE.iQ] at hv ⊢; obtain ⟨a,ha,hv⟩ := hv; exact ⟨a,h _ _ ha,hv⟩
 | .sl i o n c,u,hv => by simp only [bP,SE.iQ] at hv ⊢; obtain ⟨a,ha,hv⟩ := hv; exact ⟨a,h _ _ ha,hv⟩
 | .slU i o n s,u,hv => by simp only [bP,SE.iQ] at hv ⊢; obtain ⟨a,c,ha,hv⟩ := hv; exact ⟨a,c,h _ _ ha,hv⟩
 | .og i k m j,u,hv => by simp only [bP,SE.iQ] at hv ⊢; obtain ⟨a,ha,hv⟩ := hv; exact ⟨a,h _ _ ha,hv⟩
 | .slE i k m n c,u,hv => by simp only [bP,SE.iQ] at hv ⊢; obtain ⟨a,p,ha,hv⟩ := hv; exact ⟨a,p,h _ _ ha,hv⟩
 | .slW i k m n,u,hv => by simp only [bP,SE.iQ] at hv ⊢; obtain ⟨a,p,c,ha,hv⟩ := hv; exact ⟨a,p,c,h _ _ ha,hv⟩
 | .slR i k m n,u,hv => by simp only [bP,SE.iQ] at hv ⊢; exact hv.imp id fun ⟨a,p,c,ha,hv⟩ => ⟨a,p,c,h _ _ ha,hv⟩
 | .slZ z i k m n,u,hv => by simp only [bP,SE.iQ] at hv ⊢; exact hv.imp id fun ⟨hz,a,p,c,ha,hv⟩ => ⟨hz,a,p,c,h _ _ ha,hv⟩
 | .one,u,hv => by simpa only [bP,SE.iQ] using hv
 | .arr ..,u,hv => by simpa only [bP,SE.iQ] using hv
 | .mp i,u,hv => by simp only [bP,SE.iQ] at hv ⊢; obtain ⟨a,ha,hv⟩ := hv; exact ⟨a,h _ _ ha,hv⟩
 | .fn f a b,u,hv => by simp only [bP,SE.iQ] at hv ⊢; obtain ⟨x,y,hv,h1,h2⟩ := hv; exact ⟨x,y,hv,dZ.lmap h _ _ h1,dZ.lmap h _ _ h2⟩
 | .agg l,u,hv => by simp only [bP,SE.iQ] at hv ⊢; obtain ⟨x,hv,h1⟩ := hv; exact ⟨x,hv,dZ.lmap h _ _ h1⟩
 | .tup l,u,hv => by simp only [bP,SE.iQ] at hv ⊢; obtain ⟨x,hv,h1⟩ := hv; exact ⟨x,hv,dZ.lmap h _ _ h1⟩
 | .ifc t v,u,hv => by simp only [bP,SE.iQ] at hv ⊢; obtain ⟨x,hv,h1⟩ := hv; exact ⟨x,hv,bP.iQ h _ _ h1⟩
theorem dZ.lmap {τ : Nat->Nat} {ρ ρ' : Ren} (h : ∀ i a,ρ i = some a->ρ' (τ i) = some a) : ∀ (l : List AV) (u : List Value),dZ ρ l u->dZ ρ' (lmap τ l) u
 | [],_,hv => by simpa [dZ,SE.lmap] using hv
 | a :: l,_,hv => by simp only [dZ,SE.lmap] at hv ⊢; obtain ⟨v,vs,rfl,h1,h2⟩ := hv; exact ⟨v,vs,rfl,bP.iQ h _ _ h1,dZ.lmap h _ _ h2⟩
end
mutual
theorem bP.Mc {τ : Nat->Nat} {ρ ρ' : Ren} {n : Nat} (h : ∀ i,i < n->ρ i = ρ' (τ i)) : ∀ (v : AV) (u : Value),dQ n v = true->bP ρ' (iQ τ v) u->bP ρ v u
 | .any,_,_,_ => by simp [bP]
 | .lit x,_,_,hv => by simpa [bP,SE.iQ] using hv
 | .ptr i o,u,hb,hv => by simp only [bP,SE.iQ,dQ] at hb hv ⊢; obtain ⟨a,ha,hv⟩ := hv; exact ⟨a,by rw [h i (bQ.1 hb)]; exact ha,hv⟩
 | .sl i o n c,u,hb,hv => by simp only [bP,SE.iQ,dQ] at hb hv ⊢; obtain ⟨a,ha,hv⟩ := hv; exact ⟨a,by rw [h i (bQ.1 hb)]; exact ha,hv⟩
 | .slU i o n s,u,hb,hv => by simp only [bP,SE.iQ,dQ] at hb hv ⊢; obtain ⟨a,c,ha,hv⟩ := hv; exact ⟨a,c,by rw [h i (bQ.1 hb)]; exact ha,hv⟩
 | .og i k m j,u,hb,hv => by simp only [bP,SE.iQ,dQ] at hb hv ⊢; obtain ⟨a,ha,hv⟩ := hv; exact ⟨a,by rw [h i (bQ.1 hb)]; exact ha,hv⟩
 | .slE i k m n c,u,hb,hv => by simp only [bP,SE.iQ,dQ] at hb hv ⊢; obtain ⟨a,p,ha,hv⟩ := hv; exact ⟨a,p,by rw [h i (bQ.1 hb)]; exact ha,hv⟩
 | .slW i k m n,u,hb,hv => by simp only [bP,SE.iQ,dQ] at hb hv ⊢; obtain ⟨a,p,c,ha,hv⟩ := hv; exact ⟨a,p,c,by rw [h i (bQ.1 hb)]; exact ha,hv⟩
 | .slR i k m n,u,hb,hv => by simp only [bP,SE.iQ,dQ] at hb hv ⊢; exact hv.imp id fun ⟨a,p,c,ha,hv⟩ => ⟨a,p,c,by rw [h i (bQ.1 hb)]; exact ha,hv⟩
 | .slZ z i k m n,u,hb,hv => by simp only [bP,SE.iQ,dQ] at hb hv ⊢; exact hv.imp id fun ⟨hz,a,p,c,ha,hv⟩ => ⟨hz,a,p,c,by rw [h i (bQ.1 hb)]; exact ha,hv⟩
 | .one,u,hb,hv => by simpa only [bP,SE.iQ] using hv
 | .arr ..,u,hb,hv => by simpa only [bP,SE.iQ] using hv
 | .mp i,u,hb,hv => by simp only [bP,SE.iQ,dQ] at hb hv ⊢; obtain ⟨a,ha,hv⟩ := hv; exact ⟨a,by rw [h i (bQ.1 hb)]; exact ha,hv⟩
 | .fn f a b,u,hb,hv => by simp only [bP,SE.iQ,dQ,aI] at hb hv ⊢; obtain ⟨x,y,hv,h1,h2⟩ := hv; exact ⟨x,y,hv,dZ.ac8 h _ _ hb.1 h1,dZ.ac8 h _ _ hb.2 h2⟩
 | .agg l,u,hb,hv => by simp only [bP,SE.iQ,dQ] at hb hv ⊢; obtain ⟨x,hv,h1⟩ := hv; exact ⟨x,hv,dZ.ac8 h _ _ hb h1⟩
 | .tup l,u,hb,hv => by simp only [bP,SE.iQ,dQ] at hb hv ⊢; obtain ⟨x,hv,h1⟩ := hv; exact ⟨x,hv,dZ.ac8 h _ _ hb h1⟩
 | .ifc t v,u,hb,hv => by simp only [bP,SE.iQ,dQ] at hb hv ⊢; obtain ⟨x,hv,h1⟩ := hv; exact ⟨x,hv,bP.Mc h _ _ hb h1⟩
theorem dZ.ac8 {τ : Nat->Nat} {ρ ρ' : Ren} {n : Nat} (h : ∀ i,i < n->ρ i = ρ' (τ i)) : ∀ (l : List AV) (u : List Value),gY n l = true->dZ ρ' (lmap τ l) u->dZ ρ l u
 | [],_,_,hv => by simpa [dZ,SE.lmap] using hv
 | a :: l,_,hb,hv => by simp only [dZ,SE.lmap,gY,aI] at hb hv ⊢; obtain ⟨v,vs,rfl,h1,h2⟩ := hv; exact ⟨v,vs,rfl,bP.Mc h _ _ hb.1 h1,dZ.ac8 h _ _ hb.2 h2⟩
end

def PM.map {α β : Type} (f : α->β) : PM α->PM β
 | .leaf => .leaf
 | .node l v r => .node (l.map f) (match v with | some x => some (f x) | none => none) (r.map f)
theorem PM.get_map {α β : Type} (f : α->β) : ∀ (t : PM α) (n : Nat),(t.map f).get n = match t.get n with | some x => some (f x) | none => none
 | .leaf,n => rfl
 | .node l v r,n => by
  simp only [PM.map,PM.get]
  cases Nat.beq n 0 with
  | true => rfl
  | false =>
   cases Nat.beq (n % 2) 1 with
   | true => exact PM.get_map f l _
   | false => exact PM.get_map f r _
def PM.all {α : Type} (f : α->Bool) : PM α->Bool
 | .leaf => true
 | .node l v r => l.all f && (match v with | some x => f x | none => true) && r.all f
theorem PM.V6 {α : Type} {f : α->Bool} : ∀ {t : PM α} {n : Nat} {x : α},t.all f = true->t.get n = some x->f x = true
 | .leaf,n,x,_,h => by cases h
 | .node l v r,n,x,ha,h => by
  simp only [PM.all,aI] at ha
  simp only [PM.get] at h
  cases hb : Nat.beq n 0 with
  | true => rw [hb] at h; simp only [aO] at h; subst h; exact ha.1.2
  | false =>
   rw [hb] at h; simp only [aP] at h
   cases hc : Nat.beq (n % 2) 1 with
   | true => rw [hc] at h; exact PM.V6 ha.1.1 h
   | false => rw [hc] at h; exact PM.V6 ha.2 h

def Hy (τ : Nat->Nat) : Cs->Cs
 | .av l => .av (lmap τ l)
 | .raw l => .raw l
 | .tr n z t => .tr n (lmap τ z) (t.map (iQ τ))
 | .row m n g wr => .row m n g wr
 | .cat a b => .cat (Hy τ a) (Hy τ b)
def ku (n : Nat) : Cs->Bool
 | .av l => gY n l
 | .raw _ => true
 | .tr _ z t => gY n z && t.all (dQ n)
 | .row .. => true
 | .cat a b => ku n a && ku n b
theorem jQ (τ : Nat->Nat) (c : Cs) : (Hy τ c).size = c.size := by
 induction c <;> simp_all [Hy,Cs.size,L9]
theorem Zz (τ : Nat->Nat) (c : Cs) (k : Nat) : (Hy τ c).get k = match c.get k with | some v => some (iQ τ v) | none => none := by
 induction c generalizing k with
 | av l => simp only [Hy,Cs.get,L9,List.getElem?_map]; cases l[k]? <;> rfl
 | raw l => simp only [Hy,Cs.get]; cases l[k]? <;> simp [iQ]
 | tr n z t =>
  simp only [Hy,Cs.get,PM.get_map,L9,List.length_map,List.getElem?_map]
  cases Nat.blt k n with
  | false => rfl
  | true => simp only [aO]; cases t.get k with
   | some v => rfl
   | none => cases z[k % z.length]? <;> rfl
 | row m n g wr =>
  simp only [Hy,Cs.get]
  cases Nat.blt k (n * m) with
  | false => rfl
  | true => simp only [aO]; cases (Cs.eff g wr (k / m))[k % m]? <;> simp [iQ]
 | cat x y ihx ihy =>
  simp only [Hy,Cs.get,jQ]
  cases Nat.blt k x.size with
  | true => exact ihx k
  | false => exact ihy _
theorem zn {n : Nat} {c : Cs} {k : Nat} {v : AV} (h : ku n c = true) (hg : c.get k = some v) : dQ n v = true := by
 induction c generalizing k v with
 | av l => exact zl h hg
 | raw l =>
  simp only [Cs.get] at hg
  split at hg
  ·cases hg; rfl
  ·cases hg
 | tr m z t =>
  simp only [ku,aI] at h
  simp only [Cs.get] at hg
  cases hb : Nat.blt k m with
  | false => rw [hb] at hg; simp at hg
  | true =>
   rw [hb] at hg; simp only [aO] at hg
   split at hg
   ·rename_i x hx; cases hg; exact PM.V6 h.2 hx
   ·exact zl h.1 hg
 | row m n' g wr =>
  simp only [Cs.get] at hg
  cases hb : Nat.blt k (n' * m) with
  | false => rw [hb] at hg; simp at hg
  | true =>
   rw [hb] at hg; simp only [aO] at hg
   split at hg
   ·cases hg; rfl
   ·cases hg; rfl
 | cat x y ihx ihy =>
  simp only [ku,aI] at h
  simp only [Cs.get] at hg
  cases hb : Nat.blt k x.size with
  | true => rw [hb] at hg; exact ihx h.1 hg
  | false => rw [hb] at hg; exact ihy h.2 hg

def omap (τ : Nat->Nat) : bZ->bZ
 | .cells e c => .cells e (Hy τ c)
 | .room e c => .room e (Hy τ c)
 | .ro c => .ro (Hy τ c)
 | .map es k => .map (es.map fun x => (iQ τ x.1,iQ τ x.2.1,x.2.2)) k
 | .abs A => .abs A
 | .iter m since seen st => .iter (m.map τ) since seen st
def l9 (n : Nat) : bZ->Bool
 | .cells _ c => ku n c
 | .room _ c => ku n c
 | .ro c => ku n c
 | .map es _ => es.all fun x => dQ n x.1 && dQ n x.2.1
 | .abs _ => true
 | .iter m _ _ _ => match m with
  | some i => Nat.blt i n
  | none => true

theorem gB.Hy {τ : Nat->Nat} {ρ ρ' : Ren} (h : ∀ i a,ρ i = some a->ρ' (τ i) = some a) {c : Cs} {arr : Array Value} {b : Nat} (hc : gB ρ c arr b) : gB ρ' (Hy τ c) arr b := by
 intro k v hk
 rw [Zz] at hk
 cases hg : c.get k with
 | none => rw [hg] at hk; cases hk
 | some x =>
  rw [hg] at hk; cases hk
  obtain ⟨u,hu,hr⟩ := hc k x hg
  exact ⟨u,hu,bP.iQ h _ _ hr⟩
theorem gB.ac9 {τ : Nat->Nat} {ρ ρ' : Ren} {n : Nat} (h : ∀ i,i < n->ρ i = ρ' (τ i)) {c : Cs} {arr : Array Value} {b : Nat} (hb : ku n c = true) (hc : gB ρ' (SE.Hy τ c) arr b) : gB ρ c arr b := by
 intro k v hk
 obtain ⟨u,hu,hr⟩ := hc k (iQ τ v) (by rw [Zz,hk])
 exact ⟨u,hu,bP.Mc h _ _ (zn hb hk) hr⟩
theorem jZ.mmap {τ : Nat->Nat} {ρ ρ' : Ren} (h : ∀ i a,ρ i = some a->ρ' (τ i) = some a) : ∀ {xs : List (AV × AV × Nat)} {es : List MapEntry},jZ ρ xs es->jZ ρ' (xs.map fun x => (iQ τ x.1,iQ τ x.2.1,x.2.2)) es
 | [],_,hm => hm
 | _ :: _,_,⟨e,es',he,h1,h2,h3,h4⟩ => ⟨e,es',he,bP.iQ h _ _ h1,bP.iQ h _ _ h2,h3,jZ.mmap h h4⟩
theorem jZ.aqM {τ : Nat->Nat} {ρ ρ' : Ren} {n : Nat} (h : ∀ i,i < n->ρ i = ρ' (τ i)) : ∀ {xs : List (AV × AV × Nat)} {es : List MapEntry},(xs.all fun x => dQ n x.1 && dQ n x.2.1) = true ->
  jZ ρ' (xs.map fun x => (iQ τ x.1,iQ τ x.2.1,x.2.2)) es->jZ ρ xs es
 | [],_,_,hm => hm
 | x :: xs,_,hb,⟨e,es',he,h1,h2,h3,h4⟩ => by
  simp only [List.all_cons,aI] at hb
  exact ⟨e,es',he,bP.Mc h _ _ hb.1.1 h1,bP.Mc h _ _ hb.1.2 h2,h3,jZ.aqM h (by simpa using hb.2) h4⟩

theorem dS.omap {τ : Nat->Nat} {ρ ρ' : Ren} (h : ∀ i a,ρ i = some a->ρ' (τ i) = some a) {w : World} {T : Nat->Prop} {a : Loc} {S : Nat->Prop} {o : bZ} (ho : dS ρ w T a S o) : dS ρ' w T a S (omap τ o) := by
 cases o with
 | cells e c => obtain ⟨h0,hS,arr,h1,h2,h3,h4⟩ := ho; exact ⟨h0,hS,arr,h1,by rw [jQ]; exact h2,by rw [jQ]; exact h3,h4.Hy h⟩
 | room e c => obtain ⟨h0,hS,arr,h1,h2,h3,h4⟩ := ho; exact ⟨h0,hS,arr,h1,h2,by rw [jQ]; exact h3,h4.Hy h⟩
 | ro c =>
  rcases ho with h0 | ⟨hT,arr,e,f,h1,h2⟩
  ·exact .inl (by rw [jQ]; exact h0)
  ·exact .inr ⟨hT,arr,e,f,h1,h2.Hy h⟩
 | map es k => obtain ⟨hS,arr,h1,h2⟩ := ho; exact ⟨hS,arr,h1,h2.mmap h⟩
 | abs A => exact ho
 | iter m since seen st =>
  obtain ⟨h0,hS,mb,h1,h2⟩ := ho
  refine ⟨h0,hS,mb,?_,h2⟩
  cases m with
  | none => exact h1
  | some i => obtain ⟨b,hb,hm⟩ := h1; exact ⟨b,h _ _ hb,hm⟩
theorem dS.aqN {τ : Nat->Nat} {ρ ρ' : Ren} {n : Nat} (h : ∀ i,i < n->ρ i = ρ' (τ i)) {w : World} {T : Nat->Prop} {a : Loc} {S : Nat->Prop} {o : bZ} (hb : l9 n o = true)
  (ho : dS ρ' w T a S (SE.omap τ o)) : dS ρ w T a S o := by
 cases o with
 | cells e c => obtain ⟨h0,hS,arr,h1,h2,h3,h4⟩ := ho; rw [jQ] at h2 h3; exact ⟨h0,hS,arr,h1,h2,h3,h4.ac9 h hb⟩
 | room e c => obtain ⟨h0,hS,arr,h1,h2,h3,h4⟩ := ho; rw [jQ] at h3; exact ⟨h0,hS,arr,h1,h2,h3,h4.ac9 h hb⟩
 | ro c =>
  rcases ho with h0 | ⟨hT,arr,e,f,h1,h2⟩
  ·exact .inl (by rw [← jQ τ]; exact h0)
  ·exact .inr ⟨hT,arr,e,f,h1,h2.ac9 h hb⟩
 | map es k => obtain ⟨hS,arr,h1,h2⟩ := ho; exact ⟨hS,arr,h1,h2.aqM h hb⟩
 | abs A => exact ho
 | iter m since seen st =>
  obtain ⟨h0,hS,mb,h1,h2⟩ := ho
  refine ⟨h0,hS,mb,?_,h2⟩
  cases m with
  | none => exact h1
  | some i => obtain ⟨b,hb2,hm⟩ := h1; exact ⟨b,(h i (bQ.1 hb)).trans hb2,hm⟩

def jY : bZ->Bool
 | .ro _ => true
 | _ => false
theorem dS.Ei {ρ : Ren} {w : World} {T T' : Nat->Prop} {a : Loc} {S : Nat->Prop} {o : bZ} (hr : jY o = false) (ho : dS ρ w T a S o) : dS ρ w T' a S o := by
 cases o <;> first | exact ho | (simp [jY] at hr)
theorem dS.owned {ρ : Ren} {w w' : World} {T : Nat->Prop} {a : Loc} {S : Nat->Prop} {o : bZ} (hr : jY o = false) (ho : dS ρ w T a S o) (hw : ∀ b,S b->w'.heap[b]? = w.heap[b]?) : dS ρ w' T a S o := by
 refine dS.Ei (T := fun _ => True) hr ((dS.Ei (T' := fun _ => True) hr ho).stays fun b hb => hw b ?_)
 rcases hb with hb | hb
 ·exact hb
 ·exact (hb trivial).elim

def akK (h : Heap) (ρ : Ren) (T : Nat->Prop) (w : World) : Prop :=
 ∃ S : Nat->Nat->Prop,
  (∀ i o,h.get i = some o->∃ a,ρ i = some a/\dS ρ w T a (S i) o) /\
  (∀ i j o o' b,h.get i = some o->h.get j = some o'->i ≠ j->S i b->S j b->False) /\
  (∀ i o b,h.get i = some o->S i b->T b/\b < w.heap.size) /\
  (∀ i,h.next<=i->ρ i = none)
theorem Rel.relS {h : Heap} {ρ : Ren} {T : Nat->Prop} {w : World} (hR : Rel h ρ T w) : akK h ρ T w := let ⟨S,h1,h2,h3,h4,_⟩ := hR; ⟨S,h1,h2,h3,h4⟩
theorem akK.rel {h : Heap} {ρ : Ren} {T : Nat->Prop} {w : World} (hR : akK h ρ T w) (hT : ∀ b,w.heap.size<=b->T b) : Rel h ρ T w := let ⟨S,h1,h2,h3,h4⟩ := hR; ⟨S,h1,h2,h3,h4,hT⟩

def lay (τ : Nat->Nat) (k next : Nat) (i : Nat) : Nat := if i < k then τ i else next + (i - k)

def fits (τ : Nat->Nat) (o0 o : bZ) : Prop :=
 o = omap τ o0 ∨ ∃ c,o0 = .ro c/\o.eX = some (Hy τ c)

theorem Rel.part {h h0 : Heap} {ρ : Ren} {T : Nat->Prop} {w : World} {S : Nat->Nat->Prop} {τ : Nat->Nat}
  (h1 : ∀ i o,h.get i = some o->∃ a,ρ i = some a/\dS ρ w T a (S i) o)
  (h2 : ∀ i j o o' b,h.get i = some o->h.get j = some o'->i ≠ j->S i b->S j b->False)
  (h3 : ∀ i o b,h.get i = some o->S i b->T b/\b < w.heap.size)
  (hinj : ∀ i j,i < h0.next->j < h0.next->τ i = τ j->i = j)
  (hfit : ∀ i o0,h0.get i = some o0->i < h0.next/\l9 h0.next o0 = true/\∃ o,h.get (τ i) = some o/\fits τ o0 o) :
  akK h0 (fun i => if i < h0.next then ρ (τ i) else none) (fun b => ∃ i o0,h0.get i = some o0/\jY o0 = false/\S (τ i) b) w := by
 have hρ : ∀ i,i < h0.next->(fun i => if i < h0.next then ρ (τ i) else none) i = ρ (τ i) := fun i hi => by simp [hi]
 refine ⟨fun i b => (∃ o0,h0.get i = some o0/\jY o0 = false)/\S (τ i) b,fun i o0 hi => ?_,fun i j o o' b hi hj hij hSi hSj => ?_,fun i o0 b hi hS => ?_,fun i hi => by simp; omega⟩
 ·obtain ⟨hlt,hbel,o,ho,hf⟩ := hfit i o0 hi
  obtain ⟨a,ha,hh⟩ := h1 _ o ho
  refine ⟨a,by rw [hρ i hlt]; exact ha,?_⟩
  cases hro : jY o0 with
  | false =>
   have hf' : o = omap τ o0 := by
    rcases hf with hf | ⟨c,rfl,_⟩
    ·exact hf
    ·simp [jY] at hro
   subst hf'
   have := dS.aqN hρ hbel hh
   have he : (fun b => (∃ o0,h0.get i = some o0/\jY o0 = false)/\S (τ i) b) = S (τ i) := by
    funext b; simp only [hi,aj,aB,hro,aT]
   show dS _ w _ a (fun b => (∃ o0,h0.get i = some o0/\jY o0 = false)/\S (τ i) b) o0
   rw [he]
   exact this.Ei hro
  | true =>
   cases o0 <;> simp [jY] at hro
   rename_i c
   have aof : ∀ b,(b = a.blk)->(∀ (x : bZ),h.get (τ i) = some x->jY x = true->¬ T b)->¬ ∃ j o1,h0.get j = some o1/\jY o1 = false/\S (τ j) b := by
    intro b hb hT ⟨j,o1,hj,hro1,hSj⟩
    obtain ⟨hjlt,_,oj,hoj,hfj⟩ := hfit j o1 hj
    by_cases hij : j = i
    ·subst hij
     rw [hi] at hj; cases hj; simp [jY] at hro1
    ·have hne : τ j ≠ τ i := fun h' => hij (hinj j i hjlt hlt h')
     subst hb
     cases aog : jY o with
     | true => exact hT o ho aog (h3 _ oj _ hoj hSj).1
     | false =>
      have hSi : S (τ i) a.blk := by
       rcases hf with hf | ⟨c',hc',hcs⟩
       ·rw [hf] at aog; simp [SE.omap,jY] at aog
       ·cases o with
        | cells e x => exact hh.2.1
        | room e x => exact hh.2.1
        | ro x => simp [jY] at aog
        | map es q => simp [bZ.eX] at hcs
        | abs A => simp [bZ.eX] at hcs
        | iter m since seen st => simp [bZ.eX] at hcs
      exact h2 _ _ _ _ _ hoj ho hne hSj hSi
   have cc : ∃ x,o.eX = some x/\x = Hy τ c := by
    rcases hf with hf | ⟨c',hc',hcs⟩
    ·subst hf; exact ⟨_,rfl,rfl⟩
    ·cases hc'; exact ⟨_,hcs,rfl⟩
   obtain ⟨x,hx,rfl⟩ := cc
   cases o with
   | cells e y =>
    simp only [bZ.eX,aj] at hx; subst hx
    obtain ⟨g0,gS,arr,g1,g2,g3,g4⟩ := hh
    refine .inr ⟨aof _ rfl (fun z hz hz' => ?_),arr,e,(0,0),g1,?_⟩
    ·rw [ho] at hz; cases hz; simp [jY] at hz'
    ·rw [g0]; exact g4.ac9 hρ hbel
   | room e y =>
    simp only [bZ.eX,aj] at hx; subst hx
    obtain ⟨g0,gS,arr,g1,g2,g3,g4⟩ := hh
    refine .inr ⟨aof _ rfl (fun z hz hz' => ?_),arr,e,(0,0),g1,?_⟩
    ·rw [ho] at hz; cases hz; simp [jY] at hz'
    ·rw [g0]; exact g4.ac9 hρ hbel
   | ro y =>
    simp only [bZ.eX,aj] at hx; subst hx
    rcases hh with h0 | ⟨gT,arr,e,f,g1,g2⟩
    ·exact .inl (by rw [← jQ τ]; exact h0)
    ·exact .inr ⟨aof _ rfl (fun z hz hz' => gT),arr,e,f,g1,g2.ac9 hρ hbel⟩
   | map es q => simp [bZ.eX] at hx
   | abs A => simp [bZ.eX] at hx
   | iter m since seen st => simp [bZ.eX] at hx
 ·exact h2 (τ i) (τ j) (Classical.choose (hfit i o hi).2.2) (Classical.choose (hfit j o' hj).2.2) b (Classical.choose_spec (hfit i o hi).2.2).1 (Classical.choose_spec (hfit j o' hj).2.2).1
   (fun h' => hij (hinj i j (hfit i o hi).1 (hfit j o' hj).1 h')) hSi.2 hSj.2
 ·obtain ⟨hlt,_,x,hx,_⟩ := hfit i o0 hi
  exact ⟨⟨i,o0,hi,by obtain ⟨y,hy,hr⟩ := hS.1; rw [hi] at hy; cases hy; exact hr,hS.2⟩,(h3 _ x b hx hS.2).2⟩

theorem Rel.back {h h0' h' : Heap} {ρ ρ0' : Ren} {T T0 : Nat->Prop} {w w' : World} {S : Nat->Nat->Prop} {τ : Nat->Nat} {k0 : Nat} {own : Nat->Prop}
  (h1 : ∀ i o,h.get i = some o->∃ a,ρ i = some a/\dS ρ w T a (S i) o)
  (h2 : ∀ i j o o' b,h.get i = some o->h.get j = some o'->i ≠ j->S i b->S j b->False)
  (h3 : ∀ i o b,h.get i = some o->S i b->T b/\b < w.heap.size)
  (h4 : ∀ i,h.next<=i->ρ i = none) (h5 : ∀ b,w.heap.size<=b->T b)
  (hT0 : ∀ b,T0 b->∃ i o,i < k0/\own i/\h.get (τ i) = some o/\S (τ i) b)
  (hτ : ∀ i,i < k0->τ i < h.next)
  (hk : Keeps (fun b => T0 b ∨ w.heap.size<=b) w w')
  (hρ0 : ∀ i,i < k0->ρ0' i = ρ (τ i)) (hk0 : k0<=h0'.next)
  (hR : akK h0' ρ0' (fun b => T0 b ∨ w.heap.size<=b) w')
  (hro : ∀ i o0,h0'.get i = some o0->jY o0 = true->i < k0/\¬ own i)
  (hn : h'.next = h.next + (h0'.next - k0))
  (hg : ∀ j o,h'.get j = some o->(j < h.next/\h.get j = some o/\∀ i,i < k0->own i->τ i ≠ j) ∨ (∃ i o0,h0'.get i = some o0/\(k0<=i ∨ own i)/\j = lay τ k0 h.next i/\o = omap (lay τ k0 h.next) o0)) 
  (hinj : ∀ i j,i < k0->j < k0->τ i = τ j->i = j) :
  ∃ ρ',ρ.le ρ'/\(∀ i,i < h.next->ρ' i = ρ i)/\(∀ i a,ρ0' i = some a->ρ' (lay τ k0 h.next i) = some a)/\Rel h' ρ' T w'/\Keeps T w w' := by
 obtain ⟨S0,r1,r2,r3,r4⟩ := hR
 let ρ' : Ren := fun j => if j < h.next then ρ j else if j < h.next + (h0'.next - k0) then ρ0' (k0 + (j - h.next)) else none
 have hle : ρ.le ρ' := fun i a ha => by
  have : i < h.next := by
   rcases Nat.lt_or_ge i h.next with h' | h'
   ·exact h'
   ·rw [h4 i h'] at ha; cases ha
  simp [ρ',this,ha]
 have hlay : ∀ i a,ρ0' i = some a->ρ' (lay τ k0 h.next i) = some a := fun i a ha => by
  have hi : i < h0'.next := by
   rcases Nat.lt_or_ge i h0'.next with h' | h'
   ·exact h'
   ·rw [r4 i h'] at ha; cases ha
  by_cases hik : i < k0
  ·simp only [lay,if_pos hik,ρ',if_pos (hτ i hik)]
   rw [← hρ0 i hik]; exact ha
  ·simp only [lay,if_neg hik,ρ']
   rw [if_neg (by omega),if_pos (by omega)]
   have : k0 + (h.next + (i - k0) - h.next) = i := by omega
   rw [this]; exact ha
 have hTT : ∀ b,b < w.heap.size->(T0 b ∨ w.heap.size<=b)->T b := fun b hb h => by
  rcases h with h | h
  ·obtain ⟨i,o,_,_,ho,hS⟩ := hT0 b h
   exact (h3 _ o b ho hS).1
  ·exact h5 b h
 have aqO : ∀ b,¬ T b->b < w.heap.size := fun b hb => by
  rcases Nat.lt_or_ge b w.heap.size with h' | h'
  ·exact h'
  ·exact (hb (h5 b h')).elim
 have hkT : Keeps T w w' := hk.mono hTT aqO
 have apart : ∀ j o,h.get j = some o->(∀ i,i < k0->own i->τ i ≠ j)->∀ b,S j b->¬ (T0 b ∨ w.heap.size<=b) := fun j o hj hne b hS hT => by
  have := (h3 j o b hj hS).2
  rcases hT with hT | hT
  ·obtain ⟨i,x,hik,hown,hx,hSx⟩ := hT0 b hT
   exact h2 _ _ _ _ b hx hj (hne i hik hown) hSx hS
  ·omega
 let old : Nat->Prop := fun j => j < h.next/\∀ i,i < k0->own i->τ i ≠ j
 let S' : Nat->Nat->Prop := fun j b => (old j/\S j b) ∨ (∃ i,j = lay τ k0 h.next i/\(k0<=i ∨ own i)/\i < h0'.next/\S0 i b)
 have Jj : ∀ i,(k0<=i ∨ (i < k0/\own i))->¬ old (lay τ k0 h.next i) := fun i hi ho => by
  by_cases hik : i < k0
  ·simp only [lay,if_pos hik] at ho
   rcases hi with hi | hi
   ·omega
   ·exact ho.2 i hik hi.2 rfl
  ·simp only [lay,if_neg hik] at ho
   have := ho.1; omega
 have afw : ∀ i j,(k0<=i ∨ own i)->(k0<=j ∨ own j)->lay τ k0 h.next i = lay τ k0 h.next j->i = j := fun i j _ _ he => by
  unfold lay at he
  by_cases hik : i < k0
  ·by_cases hjk : j < k0
   ·rw [if_pos hik,if_pos hjk] at he; exact hinj i j hik hjk he
   ·rw [if_pos hik,if_neg hjk] at he; have := hτ i hik; omega
  ·by_cases hjk : j < k0
   ·rw [if_neg hik,if_pos hjk] at he; have := hτ j hjk; omega
   ·rw [if_neg hik,if_neg hjk] at he; omega
 refine ⟨ρ',hle,fun i hi => by simp [ρ',hi],hlay,⟨S',fun j o hj => ?_,fun i j o o' b hi hj hij hSi hSj => ?_,fun j o b hj hS => ?_,fun j hj => ?_,fun b hb => h5 b (Nat.le_trans hk.size hb)⟩,hkT⟩
 ·rcases hg j o hj with ⟨hlt,hjo,hne⟩ | ⟨i,o0,hi,hki,rfl,rfl⟩
  ·obtain ⟨a,ha,hh⟩ := h1 j o hjo
   refine ⟨a,hle _ _ ha,?_⟩
   have hSe : S' j = S j := by
    funext b
    apply propext
    constructor
    ·rintro (⟨_,hS⟩ | ⟨i,hji,hki,_,_⟩)
     ·exact hS
     ·exfalso
      have : old j := ⟨hlt,hne⟩
      rw [hji] at this
      refine Jj i ?_ this
      rcases hki with hki | hki
      ·exact .inl hki
      ·by_cases hik : i < k0
       ·exact .inr ⟨hik,hki⟩
       ·exact .inl (by omega)
    ·intro hS; exact .inl ⟨⟨hlt,hne⟩,hS⟩
   rw [hSe]
   refine (hh.stays fun b hb => hk.block b ?_).mono hle
   rcases hb with hb | hb
   ·exact apart j o hjo hne b hb
   ·intro hT
    exact hb (hTT b (aqO b hb) hT)
  ·obtain ⟨a,ha,hh⟩ := r1 i o0 hi
   refine ⟨a,hlay i a ha,?_⟩
   have hnr : jY o0 = false := by
    cases hr : jY o0 with
    | false => rfl
    | true =>
     obtain ⟨hlt,hno⟩ := hro i o0 hi hr
     rcases hki with h' | h'
     ·omega
     ·exact (hno h').elim
   have hilt : i < h0'.next := by
    rcases Nat.lt_or_ge i h0'.next with h' | h'
    ·exact h'
    ·rw [r4 i h'] at ha; cases ha
   have hSe : S' (lay τ k0 h.next i) = S0 i := by
    funext b
    apply propext
    constructor
    ·rintro (⟨ho,_⟩ | ⟨i',he,aqP,_,hS⟩)
     ·exfalso
      refine Jj i ?_ ho
      rcases hki with hki | hki
      ·exact .inl hki
      ·by_cases hik : i < k0
       ·exact .inr ⟨hik,hki⟩
       ·exact .inl (by omega)
     ·rw [afw i i' hki aqP he]; exact hS
    ·intro hS; exact .inr ⟨i,rfl,hki,hilt,hS⟩
   rw [hSe]
   exact (dS.omap hlay hh).Ei (by cases o0 <;> simp [jY] at hnr <;> rfl)
 ·have afx : ∀ j o,h'.get j = some o->∀ b,S' j b->(old j/\S j b/\∃ x,h.get j = some x) ∨ ∃ i o0,h0'.get i = some o0/\(k0<=i ∨ own i)/\j = lay τ k0 h.next i/\S0 i b := by
   intro j o hj b hS
   rcases hS with ⟨ho,hS⟩ | ⟨i,rfl,hki,hilt,hS⟩
   ·rcases hg j o hj with ⟨_,hjo,_⟩ | ⟨i,o0,hi,hki,rfl,_⟩
    ·exact .inl ⟨ho,hS,o,hjo⟩
    ·exfalso
     refine Jj i ?_ ho
     rcases hki with hki | hki
     ·exact .inl hki
     ·by_cases hik : i < k0
      ·exact .inr ⟨hik,hki⟩
      ·exact .inl (by omega)
   ·rcases hg _ o hj with ⟨hlt,_,hne⟩ | ⟨i',o0,hi,aqP,he,_⟩
    ·exfalso
     refine Jj i ?_ ⟨hlt,hne⟩
     rcases hki with hki | hki
     ·exact .inl hki
     ·by_cases hik : i < k0
      ·exact .inr ⟨hik,hki⟩
      ·exact .inl (by omega)
    ·have := afw i i' hki aqP he
     subst this
     exact .inr ⟨i,o0,hi,hki,rfl,hS⟩
  rcases afx i o hi b hSi with ⟨oi,si,x,hx⟩ | ⟨i1,x1,hx1,hk1,rfl,s1⟩
  ·rcases afx j o' hj b hSj with ⟨oj,sj,y,hy⟩ | ⟨j1,y1,hy1,hk1,rfl,s1⟩
   ·exact h2 i j x y b hx hy hij si sj
   ·exact apart i x hx oi.2 b si (r3 j1 y1 b hy1 s1).1
  ·rcases afx j o' hj b hSj with ⟨oj,sj,y,hy⟩ | ⟨j1,y1,hy1,hk2,rfl,s2⟩
   ·exact apart j y hy oj.2 b sj (r3 i1 x1 b hx1 s1).1
   ·exact r2 i1 j1 x1 y1 b hx1 hy1 (fun h' => hij (by rw [h'])) s1 s2
 ·rcases hS with ⟨ho,hS⟩ | ⟨i,rfl,hki,hilt,hS⟩
  ·rcases hg j o hj with ⟨_,hjo,_⟩ | ⟨i,o0,hi,hki,rfl,_⟩
   ·have := h3 j o b hjo hS
    exact ⟨this.1,Nat.lt_of_lt_of_le this.2 hk.size⟩
   ·exfalso
    refine Jj i ?_ ho
    rcases hki with hki | hki
    ·exact .inl hki
    ·by_cases hik : i < k0
     ·exact .inr ⟨hik,hki⟩
     ·exact .inl (by omega)
  ·rcases hg _ o hj with ⟨hlt,_,hne⟩ | ⟨i',o0,hi,aqP,he,_⟩
   ·exfalso
    refine Jj i ?_ ⟨hlt,hne⟩
    rcases hki with hki | hki
    ·exact .inl hki
    ·by_cases hik : i < k0
     ·exact .inr ⟨hik,hki⟩
     ·exact .inl (by omega)
   ·have := afw i i' hki aqP he
    subst this
    have := r3 i o0 b hi hS
    refine ⟨?_,this.2⟩
    rcases Nat.lt_or_ge b w.heap.size with hb | hb
    ·exact hTT b hb this.1
    ·exact h5 b hb
 ·rw [hn] at hj
  simp only [ρ']
  rw [if_neg (by omega),if_neg (by omega)]
end Go.Proofs.YtenfleoejgjklaaGreat.SE
end
section
namespace Go.Proofs.YtenfleoejgjklaaGreat.SE
open Go

def aqo : List bZ->Nat->HM->HM
 | [],_,t => t
 | v :: r,k,t => aqo r (k + 1) (t.set k (some v))
theorem ZA : ∀ (m : List bZ) (o : Nat) (t : HM) (k : Nat),(aqo m o t).get k = if o<=k/\k < o + m.length then m[k - o]? else t.get k
 | [],o,t,k => by simp [aqo]; intro h1 h2; omega
 | v :: r,o,t,k => by
  simp only [aqo]
  rw [ZA r (o + 1) _ k,HM.fF]
  simp only [List.length_cons]
  by_cases h1 : o = k
  ·subst h1; rw [if_neg (by omega),if_pos rfl,if_pos (by omega)]; simp
  ·by_cases h2 : o<=k/\k < o + (r.length + 1)
   ·rw [if_pos (by omega),if_pos h2]
    have : k - o = (k - (o + 1)) + 1 := by omega
    rw [this]; simp
   ·rw [if_neg (by omega),if_neg (Ne.symm h1),if_neg h2]
def hO (n : Nat) (os : List bZ) : Heap := ⟨n,aqo os 0 []⟩
def hOf (os : List bZ) : Heap := hO os.length os
theorem gW (os : List bZ) (i : Nat) : (hOf os).get i = os[i]? := by
 simp only [hOf,hO,Heap.get,ZA,Nat.zero_le,aT,ay,aK]
 split
 ·rfl
 ·rename_i h; simp [HM.pq]; omega
theorem pK (os : List bZ) : (hOf os).next = os.length := rfl

def frL : List (Nat × AV)->Fr
 | [] => .leaf
 | (t,v) :: l => (frL l).set t (some v)
theorem ZB : ∀ (l : List (Nat × AV)) (t : Nat),look (frL l) t = match l.find? (fun p => p.1 == t) with | some p => p.2 | none => .any
 | [],t => rfl
 | (s,v) :: l,t => by
  have ih := ZB l t
  simp only [frL,look,PM.fF,List.find?_cons] at ih ⊢
  by_cases h : t = s
  ·subst h; simp
  ·have h' : (s == t) = false := by simpa using Ne.symm h
   rw [if_neg h,h']
   exact ih

def atL (l : List Nat) (i : Nat) : Nat := l.getD i 0

theorem akK.less {h h' : Heap} {ρ : Ren} {T : Nat->Prop} {w : World} (hR : akK h ρ T w) (hn : h'.next = h.next) (hg : ∀ i o,h'.get i = some o->h.get i = some o) : akK h' ρ T w := by
 obtain ⟨S,h1,h2,h3,h4⟩ := hR
 exact ⟨S,fun i o hi => h1 i o (hg i o hi),fun i j o o' b hi hj => h2 i j o o' b (hg i o hi) (hg j o' hj),fun i o b hi => h3 i o b (hg i o hi),fun i hi => h4 i (by omega)⟩

def aqp (h : Heap) : Heap := ⟨h.next,h.m.filt (fun o => !jY o)⟩
theorem DC {h : Heap} {i : Nat} {o : bZ} (hg : (aqp h).get i = some o) : h.get i = some o/\jY o = false := by
 unfold aqp Heap.get at hg
 simp only [HM.LV] at hg
 split at hg
 ·rename_i x hx
  cases hr : jY x with
  | true => rw [hr] at hg; simp at hg
  | false => rw [hr] at hg; simp at hg; subst hg; exact ⟨hx,hr⟩
 ·cases hg
theorem afy {h : Heap} {i : Nat} {o : bZ} (hg : h.get i = some o) (hr : jY o = false) : (aqp h).get i = some o := by
 unfold aqp Heap.get
 simp only [HM.LV]
 have : h.m.get i = some o := hg
 simp [this,hr]
def gives (h0 : Heap) (i : Nat) : Bool := match h0.get i with
 | some o => !jY o
 | none => true

def uP (lay : Nat->Nat) (skip : Nat->Bool) (h0' : Heap) : List Nat->HM->HM
 | [],m => m
 | i :: l,m => uP lay skip h0' l (bif skip i then m else (match h0'.get i with
  | some o => bif jY o then m.set (lay i) none else m.set (lay i) (some (omap lay o))
  | none => m.set (lay i) none))
def xA (τ : Nat->Nat) : Heap->Heap->Heap->Heap
 | ⟨k,m0⟩,⟨n,m⟩,⟨k',m'⟩ => ⟨n + (k' - k),uP (lay τ k n) (fun i => Nat.blt i k && !gives ⟨k,m0⟩ i) ⟨k',m'⟩ (List.range k') m⟩
theorem oC (τ : Nat->Nat) (h0 h h0' : Heap) : xA τ h0 h h0' =
  ⟨h.next + (h0'.next - h0.next),uP (lay τ h0.next h.next) (fun i => Nat.blt i h0.next && !gives h0 i) h0' (List.range h0'.next) h.m⟩ := by
 cases h0; cases h; cases h0'; rfl

theorem uo (lay : Nat->Nat) (skip : Nat->Bool) (h0' : Heap) : ∀ (l : List Nat) (m : HM) (j : Nat) (o : bZ),(uP lay skip h0' l m).get j = some o ->
  (m.get j = some o/\∀ i ∈ l,skip i = false->lay i ≠ j) ∨ ∃ i o0,i ∈ l/\skip i = false/\h0'.get i = some o0/\jY o0 = false/\j = lay i/\o = omap lay o0
 | [],m,j,o,h => .inl ⟨h,fun i hi => by cases hi⟩
 | i :: l,m,j,o,h => by
  simp only [uP] at h
  rcases uo lay skip h0' l _ j o h with ⟨hm,hne⟩ | ⟨i',o0,hi',rest⟩
  ·cases hs : skip i with
   | true =>
    rw [hs] at hm; simp only [aO] at hm
    exact .inl ⟨hm,fun x hx hxs => by
     rcases List.mem_cons.1 hx with hx | hx
     ·subst hx; rw [hs] at hxs; cases hxs
     ·exact hne x hx hxs⟩
   | false =>
    rw [hs] at hm; simp only [aP] at hm
    by_cases hij : lay i = j
    ·split at hm
     ·rename_i o0 ho0
      cases hr : jY o0 with
      | true => rw [hr] at hm; simp only [aO] at hm; rw [HM.fF,if_pos hij.symm] at hm; cases hm
      | false =>
       rw [hr] at hm; simp only [aP] at hm
       rw [HM.fF,if_pos hij.symm] at hm
       cases hm
       exact .inr ⟨i,o0,by simp,hs,ho0,hr,hij.symm,rfl⟩
     ·rw [HM.fF,if_pos hij.symm] at hm; cases hm
    ·refine .inl ⟨?_,fun x hx hxs => ?_⟩
     ·split at hm
      ·rename_i o0 ho0
       cases hr : jY o0 with
       | true => rw [hr] at hm; simp only [aO] at hm; rw [HM.fF,if_neg (Ne.symm hij)] at hm; exact hm
       | false => rw [hr] at hm; simp only [aP] at hm; rw [HM.fF,if_neg (Ne.symm hij)] at hm; exact hm
      ·rw [HM.fF,if_neg (Ne.symm hij)] at hm; exact hm
     ·rcases List.mem_cons.1 hx with hx | hx
      ·subst hx; exact hij
      ·exact hne x hx hxs
  ·exact .inr ⟨i',o0,by simp [hi'],rest⟩

theorem Sp.frame {P : Program} {f : FuncId} {vH args : List AV} {h0 h : Heap} {K0 : AV->Heap->Prop} (τ : Nat->Nat) (hs : Sp P f vH h0 K0)
  (hfit : ∀ i o0,h0.get i = some o0->i < h0.next/\l9 h0.next o0 = true/\∃ o,h.get (τ i) = some o/\fits τ o0 o)
  (hinj : ∀ i j,i < h0.next->j < h0.next->τ i = τ j->i = j) (hτ : ∀ i,i < h0.next->τ i < h.next) (hargs : lmap τ vH = args) (hbel : gY h0.next vH = true) :
  Sp P f args h (fun v h' => ∃ v0 h0',K0 v0 h0'/\v = iQ (lay τ h0.next h.next) v0/\h' = xA τ h0 h h0') := by
 refine ⟨hs.1,fun ρ T w vs hR hl => ?_⟩
 obtain ⟨S,h1,h2,h3,h4,h5⟩ := hR
 have hpart := Rel.part (h0 := h0) (τ := τ) h1 h2 h3 hinj hfit
 let ρ0 : Ren := fun i => if i < h0.next then ρ (τ i) else none
 let T0 : Nat->Prop := fun b => ∃ i o0,h0.get i = some o0/\jY o0 = false/\S (τ i) b
 have hρ0 : ∀ i,i < h0.next->ρ0 i = ρ (τ i) := fun i hi => by simp [ρ0,hi]
 have hR0 : Rel h0 ρ0 (fun b => T0 b ∨ w.heap.size<=b) w := by
  obtain ⟨S0,r1,r2,r3,r4⟩ := hpart
  refine ⟨S0,fun i o hi => ?_,r2,fun i o b hi hS => ⟨.inl (r3 i o b hi hS).1,(r3 i o b hi hS).2⟩,r4,fun b hb => .inr hb⟩
  obtain ⟨a,ha,hh⟩ := r1 i o hi
  refine ⟨a,ha,?_⟩
  cases hr : jY o with
  | false => exact hh.Ei hr
  | true =>
   cases o <;> simp [jY] at hr
   rcases hh with h0 | ⟨hT,arr,e,f,g1,g2⟩
   ·exact .inl h0
   refine .inr ⟨fun hT' => ?_,arr,e,f,g1,g2⟩
   rcases hT' with hT' | hT'
   ·exact hT hT'
   ·have : a.blk < w.heap.size := (Array.getElem?_eq_some_iff.1 g1).1
    omega
 have hl0 : dZ ρ0 vH vs.toList := dZ.ac8 hρ0 _ _ hbel (by rw [hargs]; exact hl)
 refine (hs.2 ρ0 _ w vs hR0 hl0).mono ?_
 rintro e w' ⟨ρ0',v0,u,h0',q1,q2,q3,q4,rfl,q5,q6⟩
 have hT0' : ∀ b,T0 b->∃ i o,i < h0.next/\gives h0 i = true/\h.get (τ i) = some o/\S (τ i) b := by
  rintro b ⟨i,o0,hi,hr,hS⟩
  obtain ⟨hlt,_,o,ho,_⟩ := hfit i o0 hi
  exact ⟨i,o,hlt,by simp [gives,hi,hr],ho,hS⟩
 have hlow : ∀ j o,h.get j = some o->j < h.next := fun j o hj => by
  obtain ⟨a,ha,_⟩ := h1 j o hj
  rcases Nat.lt_or_ge j h.next with h' | h'
  ·exact h'
  ·rw [h4 j h'] at ha; cases ha
 obtain ⟨ρ',b1,b2,b3,b4,b5⟩ := Rel.back (h' := xA τ h0 h h0') (own := fun i => gives h0 i = true) (τ := τ) (k0 := h0.next) (ρ0' := ρ0') (h0' := aqp h0') (T0 := T0) h1 h2 h3 h4 h5 hT0' hτ q5
  (fun i hi => (q1 i hi).trans (hρ0 i hi)) q2 (q3.relS.less rfl fun i o hi => (DC hi).1)
  (fun i o0 hi hr => by rw [(DC hi).2] at hr; cases hr) (by rw [oC]; rfl)
  (fun j o hj => by
   rw [oC] at hj
   have hj' : (uP (lay τ h0.next h.next) (fun i => Nat.blt i h0.next && !gives h0 i) h0' (List.range h0'.next) h.m).get j = some o := hj
   rcases uo _ _ h0' _ _ j o hj' with ⟨hm,hne⟩ | ⟨i,o0,hi,hsk,ho0,hr,rfl,rfl⟩
   ·refine .inl ⟨hlow j o hm,hm,fun i hik hgv => ?_⟩
    have hi : i ∈ List.range h0'.next := List.mem_range.2 (Nat.lt_of_lt_of_le hik q2)
    have := hne i hi (by simp [hgv])
    simpa [lay,hik] using this
   ·refine .inr ⟨i,o0,afy ho0 hr,?_,rfl,rfl⟩
    simp only [Bool.and_eq_false_iff,Bool.not_eq_false'] at hsk
    rcases hsk with h' | h'
    ·refine .inl ?_
     rcases Nat.lt_or_ge i h0.next with hlt | hge
     ·rw [bQ.2 hlt] at h'; cases h'
     ·exact hge
    ·exact .inr h') hinj
 exact ⟨ρ',iQ (lay τ h0.next h.next) v0,u,xA τ h0 h h0',b2,by rw [oC]; simp,b4,bP.iQ b3 _ _ q4,rfl,b5,v0,h0',q6,rfl,rfl⟩

def aoh (τ : Nat->Nat) (n : Nat) (o0 o : bZ) : Prop :=
 ∀ ρ ρ0 w T a S,(∀ i,i < n->ρ0 i = ρ (τ i))->dS ρ w T a S o->dS ρ0 w T a S o0
def aqQ (τ : Nat->Nat) (n : Nat) (c0 c : Cs) : Prop := ∀ k v,c0.get k = some v->v = .any ∨ (c.get k = some (iQ τ v)/\dQ n v = true)
theorem aqQ.rel {τ : Nat->Nat} {n : Nat} {c0 c : Cs} (h : aqQ τ n c0 c) {ρ ρ0 : Ren} (hρ : ∀ i,i < n->ρ0 i = ρ (τ i)) {arr : Array Value} {b : Nat} (hc : gB ρ c arr b) (hsz : b + c0.size<=arr.size) : gB ρ0 c0 arr b := by
 intro k v hk
 rcases h k v hk with rfl | ⟨h1,h2⟩
 ·have hlt := Cs.eu hk
  exact ⟨arr[b + k],by rw [Array.getElem?_eq_getElem],by simp only [bP]⟩
 ·obtain ⟨u,hu,hr⟩ := hc k _ h1
  exact ⟨u,hu,bP.Mc hρ v u h2 hr⟩
theorem St.sub {k n : Nat} {ρ : Ren} {T : Nat->Prop} {fr fr' : Fr} {h h' : Heap} {a : Act} {w : World} (hs : St k n ρ T fr h a w) (τ : Nat->Nat) (hτk : ∀ i,i < k->τ i = i) (hk : k<=h'.next)
  (hinj : ∀ i j,i < h'.next->j < h'.next->τ i = τ j->i = j) (VO : ∀ i o0,h'.get i = some o0->i < h'.next/\∃ o,h.get (τ i) = some o/\aoh τ h'.next o0 o)
  (hfr : ∀ t,look fr' t = .any ∨ (iQ τ (look fr' t) = look fr t/\dQ h'.next (look fr' t) = true)) : ∃ ρ',(∀ i,i < k->ρ' i = ρ i)/\St k n ρ' T fr' h' a w := by
 obtain ⟨S,h1,h2,h3,h4,h5⟩ := hs.rel
 let ρ' : Ren := fun i => if i < h'.next then ρ (τ i) else none
 have hρ : ∀ i,i < h'.next->ρ' i = ρ (τ i) := fun i hi => by simp [ρ',hi]
 refine ⟨ρ',fun i hi => by rw [hρ i (by omega),hτk i hi],hk,⟨fun i => S (τ i),fun i o0 hi => ?_,fun i j o o' b hi hj hij hSi hSj => ?_,fun i o0 b hi hS => ?_,fun i hi => by simp [ρ']; omega,h5⟩,⟨hs.fr.size,hs.fr.defers,fun t => ?_⟩⟩
 ·obtain ⟨hlt,o,ho,Ej⟩ := VO i o0 hi
  obtain ⟨x,hx,hh⟩ := h1 _ o ho
  exact ⟨x,by rw [hρ i hlt]; exact hx,Ej ρ ρ' w T x _ hρ hh⟩
 ·obtain ⟨hlt,x,hx,_⟩ := VO i o hi
  obtain ⟨hlt',y,hy,_⟩ := VO j o' hj
  exact h2 _ _ x y b hx hy (fun he => hij (hinj i j hlt hlt' he)) hSi hSj
 ·obtain ⟨hlt,x,hx,_⟩ := VO i o0 hi
  exact h3 _ x b hx hS
 ·rcases hfr t with ht | ⟨ht,hb⟩
  ·rw [ht]; simp only [bP]
  ·have := hs.fr.vals t
   rw [← ht] at this
   exact bP.Mc hρ _ _ hb this

def QL (τ : Nat->Nat) (n : Nat) (h : Heap) : Nat->List bZ->Prop
 | _,[] => True
 | i,o :: os => (∃ o',h.get (τ i) = some o'/\aoh τ n o o')/\QL τ n h (i + 1) os
def afz (τ : Nat->Nat) (n : Nat) (fr : Fr) : List (Nat × AV)->Prop
 | [] => True
 | (t,v) :: l => (iQ τ v = look fr t/\dQ n v = true)/\afz τ n fr l
theorem QL.get {τ : Nat->Nat} {n : Nat} {h : Heap} : ∀ {os : List bZ} {i : Nat},QL τ n h i os->∀ j o,os[j]? = some o->∃ o',h.get (τ (i + j)) = some o'/\aoh τ n o o'
 | [],_,_,j,o,hj => by simp at hj
 | x :: os,i,hs,0,o,hj => by simp at hj; subst hj; exact hs.1
 | x :: os,i,hs,j + 1,o,hj => by
  have := hs.2.get j o (by simpa using hj)
  rw [show i + (j + 1) = i + 1 + j by omega]
  exact this
theorem afz.look {τ : Nat->Nat} {n : Nat} {fr : Fr} : ∀ {l : List (Nat × AV)},afz τ n fr l->∀ t,look (frL l) t = .any ∨ (iQ τ (look (frL l) t) = look fr t/\dQ n (look (frL l) t) = true)
 | [],_,t => .inl rfl
 | (s,v) :: l,hs,t => by
  have ih := hs.2.look t
  have : SE.look (frL ((s,v) :: l)) t = if t = s then v else SE.look (frL l) t := by
   simp only [SE.look,frL,PM.fF]
   by_cases ht : t = s
   ·simp [ht]
   ·simp [ht]
  rw [this]
  by_cases ht : t = s
  ·subst ht; rw [if_pos rfl]; exact .inr hs.1
  ·rw [if_neg ht]; exact ih
def Hz (k : Nat) (ids : List Nat) (m : Nat) : Bool := Nat.beq ids.length m && Nat.ble k m && decide ids.Nodup && decide (ids.take k = List.range k)
theorem zo {k m : Nat} {ids : List Nat} (h : Hz k ids m = true) : k<=m/\(∀ i,i < k->atL ids i = i)/\∀ i j,i < m->j < m->atL ids i = atL ids j->i = j := by
 simp only [Hz,aI,decide_eq_true_eq,Nat.ble_eq] at h
 obtain ⟨⟨⟨h1,h2⟩,h3⟩,h4⟩ := h
 have h1 := ak h1
 refine ⟨h2,fun i hi => ?_,fun i j hi hj he => ?_⟩
 ·have : (ids.take k)[i]? = some i := by rw [h4]; simp [hi]
  rw [List.getElem?_take,if_pos hi] at this
  simp [atL,List.getD_eq_getElem?_getD,this]
 ·have hi' : i < ids.length := by omega
  have hj' : j < ids.length := by omega
  simp only [atL,List.getD_eq_getElem?_getD,List.getElem?_eq_getElem hi',List.getElem?_eq_getElem hj',Option.getD_some] at he
  exact (List.getElem_inj h3).1 he

theorem St.subL {k n : Nat} {ρ : Ren} {T : Nat->Prop} {fr : Fr} {h : Heap} {a : Act} {w : World} (hs : St k n ρ T fr h a w) (m : Nat) (ids : List Nat) (l : List (Nat × AV)) (os : List bZ) (hm : os.length = m) (aoi : Hz k ids m = true)
  (VO : QL (atL ids) m h 0 os) (hfr : afz (atL ids) m fr l) : ∃ ρ',(∀ i,i < k->ρ' i = ρ i)/\St k n ρ' T (frL l) (hO m os) a w := by
 subst hm
 show ∃ ρ',(∀ i,i < k->ρ' i = ρ i)/\St k n ρ' T (frL l) (hOf os) a w
 obtain ⟨h1,h2,h3⟩ := zo aoi
 refine hs.sub (atL ids) h2 h1 h3 (fun i o0 hi => ?_) hfr.look
 rw [gW] at hi
 obtain ⟨o,ho,hsf⟩ := VO.get i o0 hi
 rw [ay] at ho
 exact ⟨(List.getElem?_eq_some_iff.1 hi).1,o,ho,hsf⟩

section
variable {P : Program} {k n : Nat} {fr : Fr} {h : Heap}
def Less (k : Nat) (Q : Fr->Heap->Prop) (fr : Fr) (h : Heap) : Prop :=
 ∃ m ids l os,os.length = m/\Hz k ids m = true/\QL (atL ids) m h 0 os/\afz (atL ids) m fr l/\Q (frL l) (hO m os)
theorem After.less {ρ₀ : Ren} {T : Nat->Prop} {w₀ : World} {Q : Fr->Heap->Prop} {a : Act} {w : World} (hh : After k n ρ₀ T w₀ (Less k Q) a w) : After k n ρ₀ T w₀ Q a w := by
 obtain ⟨ρ,fr,h,h1,h2,h3,m,ids,l,os,q0,q1,q2,q3,q4⟩ := hh
 obtain ⟨ρ',r1,r2⟩ := h2.subL m ids l os q0 q1 q2 q3
 exact ⟨ρ',frL l,hO m os,fun i hi => (r1 i hi).trans (h1 i hi),r2,h3,q4⟩
end

def ank (ld : TypeId->AV->Heap->Option AV) (fr : Fr) (h : Heap) : List ResultVar->Option (List AV)
 | [] => some []
 | .tmp t :: r => match ank ld fr h r with
  | some l => some (look fr t :: l)
  | none => none
 | .cell a ty :: r => match ld ty (look fr a) h,ank ld fr h r with
  | some v,some l => some (v :: l)
  | _,_ => none
def aqR (ld : TypeId->AV->Heap->Option AV) (fn : Func) (fr : Fr) (h : Heap) : Option AV :=
 match ank ld fr h fn.results.toList with
 | some [v] => some v
 | some l => some (.tup l)
 | none => none
def LdOk (P : Program) (ld : TypeId->AV->Heap->Option AV) : Prop := ∀ (h : Heap) (ρ : Ren) (T : Nat->Prop) (w : World),Rel h ρ T w->∀ t a v u,ld t a h = some v->bP ρ a u->(∃ i o,a = .ptr i o)/\ROk P (Instr.loadAt t u) ρ w v
def resS (tmps : Array Value) : ResultVar->Sem Value
 | .tmp t => pure (tmps.getD t undef)
 | .cell a t => do loadVar t (← asAddr (tmps.getD a undef))

theorem V7 {P : Program} {ld : TypeId->AV->Heap->Option AV} (hT : LdOk P ld) {k n : Nat} {ρ : Ren} {T : Nat->Prop} {fr : Fr} {h : Heap} {a : Act} {w : World} (hs : St k n ρ T fr h a w) : ∀ (l : List ResultVar) (r : List AV),ank ld fr h l = some r ->
  ∃ us,(l.mapM (resS a.tmps)).run P w = .ok us w/\dZ ρ r us
 | [],r,hr => by simp only [ank,aj] at hr; subst hr; exact ⟨[],by simp,.nil⟩
 | .tmp t :: l,r,hr => by
  simp only [ank] at hr
  split at hr
  ·rename_i l' hl
   cases hr
   obtain ⟨us,h1,h2⟩ := V7 (P := P) hT hs l l' hl
   exact ⟨_ :: us,by simp [resS,h1],.cons (hs.fr.vals t) h2⟩
  ·cases hr
 | .cell x ty :: l,r,hr => by
  simp only [ank] at hr
  split at hr
  ·rename_i v l' hv hl
   cases hr
   obtain ⟨us,h1,h2⟩ := V7 (P := P) hT hs l l' hl
   obtain ⟨⟨i,o,hx⟩,u,hu,hur⟩ := hT _ _ _ _ hs.rel _ _ _ _ hv (hs.fr.vals x)
   have hvx := hs.fr.vals x
   refine ⟨u :: us,?_,.cons hur h2⟩
   rw [hx] at hvx; simp only [bP] at hvx
   obtain ⟨b,_,hb⟩ := hvx
   have hu' : (loadVar ty ⟨b.blk,b.base + o,none⟩).run P w = .ok u w := by
    rw [hb] at hu
    simpa [Instr.loadAt,Instr.sureAddr] using hu
   simp only [List.mapM_cons,resS,hb,asAddr,Sem.run_bind,Sem.run_pure,Result.andThen_ok,hu',h1]
  ·cases hr

theorem aoj {P : Program} {ld : TypeId->AV->Heap->Option AV} (hT : LdOk P ld) {k n : Nat} {ρ : Ren} {T : Nat->Prop} {fr : Fr} {h : Heap} {a : Act} {w : World} (hs : St k n ρ T fr h a w) {fn : Func} {v : AV} (hr : aqR ld fn fr h = some v) :
  ∃ u,(results fn a.tmps).run P w = .ok u w/\bP ρ v u := by
 unfold aqR at hr
 have main : ∀ r,ank ld fr h fn.results.toList = some r->∃ us : List Value,(results fn a.tmps).run P w = .ok (if h : us.toArray.size = 1 then us.toArray[0] else .tuple us.toArray) w/\dZ ρ r us := by
  intro r hrr
  obtain ⟨us,h1,h2⟩ := V7 (P := P) hT hs _ r hrr
  refine ⟨us,?_,h2⟩
  have he : (fn.results.mapM (resS a.tmps)).run P w = .ok us.toArray w := by
   rw [Array.mapM_eq_mapM_toList,Sem.run_map,h1]; rfl
  unfold results
  simp only [Sem.run_bind]
  refine (congrArg (fun r => Result.andThen r _) (?_ : _ = Result.ok us.toArray w)).trans rfl
  rw [← he]
  congr 2
 split at hr
 ·rename_i x hx
  cases hr
  obtain ⟨us,h1,h2⟩ := main _ hx
  simp only [dZ] at h2
  obtain ⟨u,us',rfl,h3,rfl⟩ := h2
  exact ⟨u,by simpa using h1,h3⟩
 ·rename_i l hne hx
  cases hr
  obtain ⟨us,h1,h2⟩ := main _ hx
  have hl : us.length ≠ 1 := fun h1 => by
   rw [← h2.length] at h1
   match l,h1 with
   | [y],_ => exact hne y rfl
  refine ⟨.tuple us.toArray,?_,by simp only [bP]; exact ⟨_,rfl,by simpa using h2⟩⟩
  rw [h1,dif_neg (by simpa using hl)]
 ·cases hr

def QM (args : List AV) : Fr := Cs.putAt args 0 .leaf
theorem ada (args : List AV) (t : Nat) : look (QM args) t = args.getD t .any := by
 simp only [look,QM,Cs.xg,Nat.zero_le,aT,ay,aK,HM.pq,List.getD_eq_getElem?_getD]
 by_cases h : t < args.length
 ·rw [if_pos h]; simp [h]
 ·rw [if_neg h]; simp [h]

theorem QN {P : Program} {ld : TypeId → AV → Heap → Option AV} (hT : LdOk P ld) {f : FuncId} {fn : Func} {c : Code} {args : List AV} {h : Heap} {K : AV → Heap → Prop} (hf : P.funcs[f]? = some fn) (hn : (fn.name == "runtime.NumGoroutine") = false)
  (hb : fn.body = some c) (hl : Nat.ble args.length fn.ntmps = true)
  (hc : AWp P h.next fn.ntmps c (fun e fr' h' => (e = .normal ∨ e = .ret)/\∃ v,aqR ld fn fr' h' = some v/\K v h') (QM args) h) : Sp P f args h K := by
 refine ⟨⟨fn,hf,hn,by rw [hb]; rfl⟩,fun ρ T w vs hR hlr => ?_⟩
 refine calls_of_wp hf hb ?_
 have hlen : vs.size = args.length := by rw [← Array.length_toList,← hlr.length]
 have hle : args.length<=fn.ntmps := by simpa using hl
 have hst : St h.next fn.ntmps ρ T (QM args) h { tmps := vs ++ Array.replicate (fn.ntmps - vs.size) undef,defers := [] } w := by
  refine ⟨aX _,hR,⟨by simp; omega,rfl,fun t => ?_⟩⟩
  rw [ada,Array.getD_eq_getD_getElem?,List.getD_eq_getElem?_getD]
  by_cases ht : t < args.length
  ·obtain ⟨u,hu,hr⟩ := hlr.get t args[t] (by simp [ht])
   have : (vs ++ Array.replicate (fn.ntmps - vs.size) undef)[t]? = some u := by
    rw [Array.getElem?_append_left (by omega)]; simpa using hu
   simpa [this,ht] using hr
  ·simp only [List.getElem?_eq_none (Nat.le_of_not_lt ht),Option.getD_none,bP]
 refine wp_mono (hc ρ T w _ hst) fun e a' w' hh => ?_
 have fin : ∀ e,After h.next fn.ntmps ρ T w (fun fr' h' => (e = Exit.normal ∨ e = .ret)/\∃ v,aqR ld fn fr' h' = some v/\K v h') a' w'->(e = .normal ∨ e = .ret)/\a'.defers = []/\∃ v,(results fn a'.tmps).run P w' = .ok v w' /\
   ∃ ρ' v0 u h',(∀ i,i < h.next->ρ' i = ρ i)/\h.next<=h'.next/\Rel h' ρ' T w'/\bP ρ' v0 u/\Ending.returned v = .returned u/\Keeps T w w'/\K v0 h' := by
  rintro e ⟨ρ',fr',h',q1,q2,q3,q4,v,q5,q6⟩
  obtain ⟨u,hu,hr⟩ := aoj (P := P) hT q2 q5
  exact ⟨q4,q2.fr.defers,u,hu,ρ',v,u,h',q1,q2.le,q2.rel,hr,rfl,q3,q6⟩
 cases e with
 | normal => exact (fin .normal hh).2
 | ret => exact (fin .ret hh).2
 | exit id => have := (fin (.exit id) hh).1; simp at this
 | _ => exact hh.elim
end Go.Proofs.YtenfleoejgjklaaGreat.SE
end
section
namespace Go.Proofs.YtenfleoejgjklaaGreat.SE
open Go

section
variable {P : Program} {tt : TT} {k n : Nat} {ops : Array Oper} {Q : Fr->Heap->Prop} {fr : Fr} {h : Heap}
end

section
variable {α : Type} {f : α->List Value} {m : Nat} (hf : ∀ a,(f a).length = m)
include hf
end

def fE : bZ->Bool
 | .cells .. => true
 | .room .. => true
 | _ => false
end Go.Proofs.YtenfleoejgjklaaGreat.SE
end
section
namespace Go.Proofs.YtenfleoejgjklaaGreat.SE
open Go

def adb (Φ : Heap->Prop) : Own where
 holds w a S := ∃ h ρ,Φ h/\0 < h.next/\(∀ i o,h.get i = some o->jY o = false)/\ρ 0 = some a/\akK h ρ S w
 stays w w' a S := by
  rintro ⟨h,ρ,hΦ,h0,hro,ha,T,h1,h2,h3,h4⟩ hw
  have key : ∀ i o,h.get i = some o->∀ b,T i b->w'.heap[b]? = w.heap[b]? := fun i o hi b hb => hw b (h3 i o b hi hb).1
  refine ⟨h,ρ,hΦ,h0,hro,ha,T,fun i o hi => ?_,h2,fun i o b hi hb => ⟨(h3 i o b hi hb).1,?_⟩,h4⟩
  ·obtain ⟨x,hx,hh⟩ := h1 i o hi
   exact ⟨x,hx,hh.owned (hro i o hi) (key i o hi)⟩
  ·have hlt := (h3 i o b hi hb).2
   have := key i o hi b hb
   rw [Array.getElem?_eq_getElem hlt] at this
   exact (Array.getElem?_eq_some_iff.1 this).1

def afA (i : Nat) : Heap->Heap->Heap
 | ⟨n,m⟩,⟨k,m0⟩ => ⟨n + (k - 1),uP (lay (fun _ => i) 1 n) (fun _ => false) ⟨k,m0⟩ (List.range k) m⟩
theorem Md (i : Nat) (h h0 : Heap) : afA i h h0 = ⟨h.next + (h0.next - 1),uP (lay (fun _ => i) 1 h.next) (fun _ => false) h0 (List.range h0.next) h.m⟩ := by cases h; cases h0; rfl

theorem Rel.open {h : Heap} {ρ : Ren} {T : Nat->Prop} {w : World} (hR : Rel h ρ T w) {i : Nat} {Φ : Heap->Prop} (hi : h.get i = some (.abs (adb Φ))) :
  ∃ h0 ρ',Φ h0/\ρ.le ρ'/\(∀ j,j < h.next->ρ' j = ρ j)/\h.next<=(afA i h h0).next/\Rel (afA i h h0) ρ' T w := by
 obtain ⟨S,h1,h2,h3,h4,h5⟩ := hR
 obtain ⟨a,ha,h0,ρ0,hΦ,hn0,hro,ha0,hRS⟩ := h1 i _ hi
 have hin : i < h.next := by
  rcases Nat.lt_or_ge i h.next with h' | h'
  ·exact h'
  ·rw [h4 i h'] at ha; cases ha
 have hlow : ∀ j o,h.get j = some o->j < h.next := fun j o hj => by
  obtain ⟨x,hx,_⟩ := h1 j o hj
  rcases Nat.lt_or_ge j h.next with h' | h'
  ·exact h'
  ·rw [h4 j h'] at hx; cases hx
 obtain ⟨S0,r1,r2,r3,r4⟩ := hRS
 obtain ⟨ρ',b1,b2,b3,b4,b5⟩ := Rel.back (h' := afA i h h0) (own := fun _ => True) (τ := fun _ => i) (k0 := 1) (ρ0' := ρ0) (h0' := h0) (T0 := S i) (w := w) (w' := w) h1 h2 h3 h4 h5
  (fun b hb => ⟨0,_,by omega,trivial,hi,hb⟩) (fun j _ => hin) (Keeps.refl _ _) (fun j hj => by
   have : j = 0 := by omega
   subst this; rw [ha0]; exact ha.symm) hn0
  ⟨S0,fun j o hj => by
   obtain ⟨x,hx,hh⟩ := r1 j o hj
   exact ⟨x,hx,hh.Ei (hro j o hj)⟩,r2,fun j o b hj hb => ⟨.inl (r3 j o b hj hb).1,(r3 j o b hj hb).2⟩,r4⟩
  (fun j o hj hr => by rw [hro j o hj] at hr; cases hr) (by rw [Md])
  (fun j o hj => by
   rw [Md] at hj
   have hj' : (uP (lay (fun _ => i) 1 h.next) (fun _ => false) h0 (List.range h0.next) h.m).get j = some o := hj
   rcases uo _ _ h0 _ _ j o hj' with ⟨hm,hne⟩ | ⟨x,o0,hx,_,ho0,hr,rfl,rfl⟩
   ·refine .inl ⟨hlow j o hm,hm,fun x hx _ => ?_⟩
    have hx0 : x = 0 := by omega
    subst hx0
    have := hne 0 (List.mem_range.2 hn0) rfl
    simpa [lay] using this
   ·exact .inr ⟨x,o0,ho0,.inr trivial,rfl,rfl⟩) (fun x y hx hy _ => by omega)
 exact ⟨h0,ρ',hΦ,b1,b2,by rw [Md]; simp,b4⟩

theorem St.open {k n : Nat} {ρ : Ren} {T : Nat->Prop} {fr : Fr} {h : Heap} {a : Act} {w : World} (hs : St k n ρ T fr h a w) {i : Nat} {Φ : Heap->Prop} (hi : h.get i = some (.abs (adb Φ))) :
  ∃ h0 ρ',Φ h0/\(∀ j,j < k->ρ' j = ρ j)/\St k n ρ' T fr (afA i h h0) a w := by
 obtain ⟨h0,ρ',b1,b2,b3,b4,b5⟩ := hs.rel.open hi
 exact ⟨h0,ρ',b1,fun j hj => b3 j (Nat.lt_of_lt_of_le hj hs.le),Nat.le_trans hs.le b4,b5,hs.fr.mono b2⟩

def Leq (k : Nat) (v : AV) (h : Heap) (v' : AV) (h' : Heap) : Prop :=
 k<=h'.next/\∀ ρ T w u,Rel h ρ T w->bP ρ v u->∃ ρ',(∀ i,i < k->ρ' i = ρ i)/\Rel h' ρ' T w/\bP ρ' v' u
theorem Leq.refl {k : Nat} {v : AV} {h : Heap} (hk : k<=h.next) : Leq k v h v h := ⟨hk,fun ρ _ _ _ hR hv => ⟨ρ,fun _ _ => rfl,hR,hv⟩⟩
theorem Leq.trans {k : Nat} {v v' v'' : AV} {h h' h'' : Heap} (a : Leq k v h v' h') (b : Leq k v' h' v'' h'') : Leq k v h v'' h'' :=
 ⟨b.1,fun ρ T w u hR hv => by
  obtain ⟨ρ',h1,h2,h3⟩ := a.2 ρ T w u hR hv
  obtain ⟨ρ'',g1,g2,g3⟩ := b.2 ρ' T w u h2 h3
  exact ⟨ρ'',fun i hi => (g1 i hi).trans (h1 i hi),g2,g3⟩⟩
theorem anl {P : Program} {f : FuncId} {args : List AV} {h : Heap} {K : AV->Heap->Prop} (hs : Sp P f args h (fun v h' => ∃ v' h'',Leq h.next v h' v' h''/\K v' h'')) : Sp P f args h K := by
 refine ⟨hs.1,fun ρ T w vs hR hl => (hs.2 ρ T w vs hR hl).mono ?_⟩
 rintro e w' ⟨ρ',v,u,h',c1,c2,c3,c4,c5,c6,v',h'',hq,hK⟩
 obtain ⟨ρ2,g1,g2,g3⟩ := hq.2 ρ' T w' u c3 c4
 exact ⟨ρ2,v',u,h'',fun i hi => (g1 i hi).trans (c1 i hi),hq.1,g2,g3,c5,c6,hK⟩

theorem Rel.sub {h h' : Heap} {ρ : Ren} {T : Nat->Prop} {w : World} (hR : Rel h ρ T w) (τ : Nat->Nat)
  (hinj : ∀ i j,i < h'.next->j < h'.next->τ i = τ j->i = j) (VO : ∀ i o0,h'.get i = some o0->i < h'.next/\∃ o,h.get (τ i) = some o/\aoh τ h'.next o0 o) :
  Rel h' (fun i => if i < h'.next then ρ (τ i) else none) T w := by
 obtain ⟨S,h1,h2,h3,h4,h5⟩ := hR
 have hρ : ∀ i,i < h'.next->(fun i => if i < h'.next then ρ (τ i) else none) i = ρ (τ i) := fun i hi => by simp [hi]
 refine ⟨fun i => S (τ i),fun i o0 hi => ?_,fun i j o o' b hi hj hij hSi hSj => ?_,fun i o0 b hi hS => ?_,fun i hi => by simp; omega,h5⟩
 ·obtain ⟨hlt,o,ho,Ej⟩ := VO i o0 hi
  obtain ⟨x,hx,hh⟩ := h1 _ o ho
  exact ⟨x,by rw [hρ i hlt]; exact hx,Ej ρ _ w T x _ hρ hh⟩
 ·obtain ⟨hlt,x,hx,_⟩ := VO i o hi
  obtain ⟨hlt',y,hy,_⟩ := VO j o' hj
  exact h2 _ _ x y b hx hy (fun he => hij (hinj i j hlt hlt' he)) hSi hSj
 ·obtain ⟨hlt,x,hx,_⟩ := VO i o0 hi
  exact h3 _ x b hx hS

theorem Rel.close {h hc h0 : Heap} {ρ : Ren} {T : Nat->Prop} {w : World} {Φ : Heap->Prop} {τ : Nat->Nat} (hR : Rel h ρ T w) (hΦ : Φ h0) (h00 : 0 < h0.next)
  (hfit : ∀ i o0,h0.get i = some o0->i < h0.next/\l9 h0.next o0 = true/\jY o0 = false/\h.get (τ i) = some (omap τ o0)) (hinj : ∀ i j,i < h0.next->j < h0.next->τ i = τ j->i = j)
  (hex : ∃ o,h.get (τ 0) = some o) (hn : hc.next = h.next)
  (hg : ∀ j o,hc.get j = some o->(j = τ 0/\o = .abs (adb Φ)) ∨ (h.get j = some o/\∀ i,i < h0.next->τ i ≠ j)) : Rel hc ρ T w := by
 obtain ⟨S,h1,h2,h3,h4,h5⟩ := hR
 obtain ⟨o00,ho00⟩ := hex
 obtain ⟨a,ha,_⟩ := h1 _ _ ho00
 have hpart := Rel.part (h0 := h0) (τ := τ) h1 h2 h3 hinj (fun i o0 hi => ⟨(hfit i o0 hi).1,(hfit i o0 hi).2.1,_,(hfit i o0 hi).2.2.2,.inl rfl⟩)
 let T0 : Nat->Prop := fun b => ∃ i o0,h0.get i = some o0/\jY o0 = false/\S (τ i) b
 have hT0 : ∀ b,T0 b->∃ i o,i < h0.next/\h.get (τ i) = some o/\S (τ i) b := by
  rintro b ⟨i,o0,hi,_,hS⟩
  exact ⟨i,_,(hfit i o0 hi).1,(hfit i o0 hi).2.2.2,hS⟩
 refine ⟨fun j b => (j = τ 0/\T0 b) ∨ ((∀ i,i < h0.next->τ i ≠ j)/\S j b),fun j o hj => ?_,fun i j o o' b hi hj hij hSi hSj => ?_,fun j o b hj hS => ?_,fun j hj => h4 j (by omega),h5⟩
 ·rcases hg j o hj with ⟨rfl,rfl⟩ | ⟨hjo,hne⟩
  ·refine ⟨a,ha,?_⟩
   have he : (fun b => (τ 0 = τ 0/\T0 b) ∨ ((∀ i,i < h0.next->τ i ≠ τ 0)/\S (τ 0) b)) = T0 := by
    funext b; apply propext; constructor
    ·rintro (⟨_,h⟩ | ⟨h,_⟩)
     ·exact h
     ·exact (h 0 h00 rfl).elim
    ·intro h; exact .inl ⟨rfl,h⟩
   show (adb Φ).holds w a (fun b => (τ 0 = τ 0/\T0 b) ∨ ((∀ i,i < h0.next->τ i ≠ τ 0)/\S (τ 0) b))
   rw [he]
   exact ⟨h0,_,hΦ,h00,fun i o hi => (hfit i o hi).2.2.1,by simp [h00,ha],hpart⟩
  ·obtain ⟨x,hx,hh⟩ := h1 j o hjo
   refine ⟨x,hx,?_⟩
   have he : (fun b => (j = τ 0/\T0 b) ∨ ((∀ i,i < h0.next->τ i ≠ j)/\S j b)) = S j := by
    funext b; apply propext; constructor
    ·rintro (⟨h,_⟩ | ⟨_,h⟩)
     ·exact (hne 0 h00 h.symm).elim
     ·exact h
    ·intro h; exact .inr ⟨hne,h⟩
   show dS ρ w T x (fun b => (j = τ 0/\T0 b) ∨ ((∀ i,i < h0.next->τ i ≠ j)/\S j b)) o
   rw [he]; exact hh
 ·have one : ∀ i j o',(∀ x,hc.get i = some x->True)->i = τ 0->hc.get j = some o'->i ≠ j->T0 b->((j = τ 0/\T0 b) ∨ ((∀ i,i < h0.next->τ i ≠ j)/\S j b))->False := by
   intro i j o' _ hi0 hj hij hT hS
   rcases hS with ⟨h,_⟩ | ⟨hne,hS⟩
   ·exact hij (hi0.trans h.symm)
   ·rcases hg j o' hj with ⟨h,_⟩ | ⟨hjo,_⟩
    ·exact hij (hi0.trans h.symm)
    ·obtain ⟨q,oq,hq,hoq,hSq⟩ := hT0 b hT
     exact h2 _ _ _ _ b hoq hjo (hne q hq) hSq hS
  rcases hSi with ⟨hi0,hT⟩ | ⟨hne,hS⟩
  ·exact one i j o' (fun _ _ => trivial) hi0 hj hij hT hSj
  ·rcases hSj with ⟨hj0,hT⟩ | ⟨hne',hS'⟩
   ·exact one j i o (fun _ _ => trivial) hj0 hi (Ne.symm hij) hT (.inr ⟨hne,hS⟩)
   ·rcases hg i o hi with ⟨h,_⟩ | ⟨hio,_⟩
    ·exact (hne 0 h00 h.symm).elim
    ·rcases hg j o' hj with ⟨h,_⟩ | ⟨hjo,_⟩
     ·exact (hne' 0 h00 h.symm).elim
     ·exact h2 i j o o' b hio hjo hij hS hS'
 ·rcases hS with ⟨_,hT⟩ | ⟨hne,hS⟩
  ·obtain ⟨i,o',_,ho',hSi⟩ := hT0 b hT
   exact h3 _ o' b ho' hSi
  ·rcases hg j o hj with ⟨h,_⟩ | ⟨hjo,_⟩
   ·exact (hne 0 h00 h.symm).elim
   ·exact h3 j o b hjo hS

def ade (l : List Nat) (h : Heap) : Heap := match l with
 | [] => h
 | i :: l => ade l (h.drop i)
def qV (Φ : Heap->Prop) (ids : List Nat) (h : Heap) : Heap := (ade ids h).set (atL ids 0) (.abs (adb Φ))
theorem QO : ∀ (l : List Nat) (h : Heap) (j : Nat) (o : bZ),(ade l h).get j = some o->h.get j = some o/\j ∉ l
 | [],h,j,o,hg => ⟨hg,by simp⟩
 | i :: l,h,j,o,hg => by
  obtain ⟨h1,h2⟩ := QO l (h.drop i) j o hg
  rw [Heap.jw] at h1
  split at h1
  ·cases h1
  ·rename_i hji; exact ⟨h1,by simp [hji,h2]⟩
theorem zq : ∀ (l : List Nat) (h : Heap),(ade l h).next = h.next
 | [],_ => rfl
 | i :: l,h => by simp [ade,zq l]
def Em (τ : Nat->Nat) (n : Nat) (h : Heap) : Nat->List bZ->Prop
 | _,[] => True
 | i,o :: os => (l9 n o = true/\jY o = false/\h.get (τ i) = some (omap τ o))/\Em τ n h (i + 1) os
theorem Em.get {τ : Nat->Nat} {n : Nat} {h : Heap} : ∀ {os : List bZ} {i : Nat},Em τ n h i os->∀ j o,os[j]? = some o->l9 n o = true/\jY o = false/\h.get (τ (i + j)) = some (omap τ o)
 | [],_,_,j,o,hj => by simp at hj
 | x :: os,i,hs,0,o,hj => by simp at hj; subst hj; exact hs.1
 | x :: os,i,hs,j + 1,o,hj => by
  have := hs.2.get j o (by simpa using hj)
  rw [show i + (j + 1) = i + 1 + j by omega]
  exact this
theorem afB {k : Nat} {v : AV} {h : Heap} {Φ : Heap->Prop} (m : Nat) (ids : List Nat) (os : List bZ) (hm : os.length = m) (h0 : Nat.blt 0 m = true) (aoi : Hz 0 ids m = true) (hk : k<=h.next) (hΦ : Φ (hO m os)) (hfit : Em (atL ids) m h 0 os) :
  Leq k v h v (qV Φ ids h) := by
 subst hm
 obtain ⟨_,_,h3⟩ := zo aoi
 have hlen : ids.length = os.length := by simp only [Hz,aI] at aoi; exact ak aoi.1.1.1
 have hpos : 0 < os.length := bQ.1 h0
 have hn : (qV Φ ids h).next = h.next := by simp [qV,zq]
 refine ⟨by rw [hn]; exact hk,fun ρ T w u hR hv => ⟨ρ,fun _ _ => rfl,?_,hv⟩⟩
 refine hR.close (h0 := hOf os) (τ := atL ids) hΦ hpos (fun i o0 hi => ?_) h3 ?_ hn (fun j o hj => ?_)
 ·rw [gW] at hi
  have := hfit.get i o0 hi
  rw [ay] at this
  exact ⟨(List.getElem?_eq_some_iff.1 hi).1,this⟩
 ·obtain ⟨o,ho⟩ : ∃ o,os[0]? = some o := ⟨os[0],by simp [hpos]⟩
  have := (hfit.get 0 o ho).2.2
  exact ⟨_,this⟩
 ·unfold qV at hj
  rw [Heap.fF] at hj
  split at hj
  ·rename_i hj0; cases hj; exact .inl ⟨hj0,rfl⟩
  ·obtain ⟨g1,g2⟩ := QO ids h j o hj
   refine .inr ⟨g1,fun i hi he => g2 ?_⟩
   have hi' : i < ids.length := by rw [hlen]; exact hi
   rw [← he]
   simp only [atL,List.getD_eq_getElem?_getD,List.getElem?_eq_getElem hi',Option.getD_some]
   exact List.getElem_mem hi'
end Go.Proofs.YtenfleoejgjklaaGreat.SE
end
section
namespace Go.Proofs.YtenfleoejgjklaaGreat.SE
open Go

theorem Me (a b : Nat) : (a : Int).tmod (b : Int) = ((a % b : Nat) : Int) := (Int.ofNat_tmod a b).symm
theorem akY {a : Nat} (h : a < 2 ^ 62) : IntKind.i64.wrap (a : Int) = (a : Int) := wrap_i64 (by omega) (by omega)
end Go.Proofs.YtenfleoejgjklaaGreat.SE
end
section
namespace Go.Proofs.YtenfleoejgjklaaGreat.SE
open Go

def aok (τ : Nat->Nat) (n : Nat) (h : Heap) : Nat->List bZ->Prop
 | _,[] => True
 | i,o :: os => (l9 n o = true/\∃ o',h.get (τ i) = some o'/\fits τ o o')/\aok τ n h (i + 1) os
theorem aok.get {τ : Nat->Nat} {n : Nat} {h : Heap} : ∀ {os : List bZ} {i : Nat},aok τ n h i os->∀ j o,os[j]? = some o->l9 n o = true/\∃ o',h.get (τ (i + j)) = some o'/\fits τ o o'
 | [],_,_,j,o,hj => by simp at hj
 | x :: os,i,hs,0,o,hj => by simp at hj; subst hj; exact hs.1
 | x :: os,i,hs,j + 1,o,hj => by
  have := hs.2.get j o (by simpa using hj)
  rw [show i + (j + 1) = i + 1 + j by omega]
  exact this
section
variable {P : Program} {tt : TT} {k n : Nat} {ops : Array Oper} {Q : Fr->Heap->Prop} {fr : Fr} {h : Heap}
end

end Go.Proofs.YtenfleoejgjklaaGreat.SE
end
section
namespace Go.Proofs.YtenfleoejgjklaaGreat.SE
open Go

abbrev RunFn := FuncId->List AV->Heap->Option (AV × Heap)
def isDone : Exit->Bool
 | .normal => true
 | .ret => true
 | _ => false
section
variable {P : Program} {tt : TT} {k n : Nat} {call : RunFn}
end
end Go.Proofs.YtenfleoejgjklaaGreat.SE
end
section
namespace Go.Proofs.YtenfleoejgjklaaGreat.SE
open Go
open Go.ChangeShapes Go.WideShapes Go.ChangeAt Go.RowKit

theorem Keeps.below {W w' : World} (h : Keeps (fun b => W.heap.size<=b) W w') : Below W.heap.size W w' := ⟨h.os,h.tape,h.output,h.size,fun k hk => h.block k (by omega)⟩
theorem aol (W : World) : Rel (hO 0 []) (fun _ => none) (fun b => W.heap.size<=b) W :=
 ⟨fun _ _ => False,fun i o hi => by simp [hO,aqo,Heap.get,HM.pq] at hi,fun _ _ _ _ _ _ _ _ h => h.elim,fun _ _ _ _ h => h.elim,fun _ _ => rfl,fun _ h => h⟩
theorem Sp.calls {P : Program} {f : FuncId} {args : List AV} {K : AV->Heap->Prop} (hs : Sp P f args (hO 0 []) K) (W : World) {vs : Array Value} (hv : dZ (fun _ => none) args vs.toList) (hK : ∀ v h,K v h->v = .lit (.bool true)) :
  Calls P f vs W (fun e w' => e = .returned (.bool true)/\Below W.heap.size W w') := by
 refine (hs.2 _ _ W vs (aol W) hv).mono ?_
 rintro e w' ⟨ρ',v,u,h',_,_,_,hu,rfl,hk,hKv⟩
 have := hK _ _ hKv
 subst this
 simp only [bP] at hu
 subst hu
 exact ⟨rfl,hk.below⟩

def qW (P : Program) (ts : List TypeId) : Bool := ts.all fun t => P.readableRec t && decide (t < P.types.size)
theorem xB {H : Type} {enc : TypeId × Value->H} {P : Program} (hl : laidOutB P = true) {W W' : World} (hb : Below W.heap.size W W') : ∀ {ts : List TypeId} {vs : List Value} {ds : List (DataW H)} {ps : List MemPlace},qW P ts = true ->
  DataW.TrodAll enc P W 0 (fun _ => true) true ts vs ds ps->(∀ x ∈ ps,x.block < W.heap.size)->DataW.TrodAll enc P W' 0 (fun b => decide (b < W.heap.size)) true ts vs ds ps
 | [],_,_,_,_,h,_ => by
  obtain ⟨rfl,rfl,rfl⟩ := trodAll_nil h
  exact trodAll_mk0
 | t :: ts,_,_,_,hr,h,hlt => by
  obtain ⟨v,vs1,d,ds1,a,b,rfl,rfl,rfl,h1,h2⟩ := trodAll_cons h
  simp only [qW,List.all_cons,aI,decide_eq_true_eq] at hr
  refine ⟨a,b,Below.trod hl hr.1.1 hr.1.2 h1 hb (fun x hx => hlt x (by simp [hx])),xB hl hb (by simpa [qW] using hr.2) h2 (fun x hx => hlt x (by simp [hx])),rfl⟩

theorem afC {H : Type} {enc : TypeId × Value->H} {P : Program} {f : Func} {s : ChangeSpec} {apart handsOn : Bool} {W W' : World} {args : Array Value} {ds gs : List (DataW H)} {before : List MemPlace} {tb : TypeId}
  (hl : laidOutB P = true) (hr : qW P f.params.toList = true) (hW : DataW.Whole enc P f.params.toList s.vars apart W args.toList ds gs before) (hb : Below W.heap.size W W') (hvars : s.vars = [])
  (hrt : f.resultTypes = #[tb]) (ht : P.underlying tb = some .bool) (h1 : (s.fn H (ds ++ gs)).results = [.lit (.bool true)]) (h2 : (s.fn H (ds ++ gs)).args = ds) (h3 : (s.fn H (ds ++ gs)).vars = []) :
  s.post enc P f apart true handsOn false W args (.bool true) W' := by
 have hlt := hW.lt
 obtain ⟨p,q,hA,hV,hpq,hfz,hnd⟩ := hW
 refine ⟨ds,gs,before,[],p,[],⟨p,q,hA,hV,hpq,hfz,hnd⟩,?_,?_,?_,hb.frame _,fun h => by cases h⟩
 ·rw [h1,hrt]
  exact trodAll_cons_mk (shut_bool ht _) trodAll_mk0
 ·rw [h2]
  exact xB hl hb hr hA (fun x hx => hlt x (by rw [hpq]; simp [hx]))
 ·rw [h3,hvars]; rfl
end Go.Proofs.YtenfleoejgjklaaGreat.SE
end
section
namespace Go.Proofs.YtenfleoejgjklaaGreat.SE
open Go

section
variable {H : Type} {enc : TypeId × Value->H} {P : Program} {w : World} {base : Nat} {spare : Nat->Bool} {held : Bool} {fuel : Nat} {t : TypeId} {cs : List Value} {x : DataW H × List MemPlace}
end

end Go.Proofs.YtenfleoejgjklaaGreat.SE
end
section
namespace Go.Proofs.YtenfleoejgjklaaGreat.SE
open Go
open Go.RowKit

section
variable {α : Type} (f : α->List Value) (e : TypeId) (sz : Nat)
end
section
variable {α : Type} {f : α->List Value} {e : TypeId} {sz : Nat}
end
def adf (as : List Loc) : Ren := fun i => as[i]?
def DF (W : World) (T : Nat->Prop) (ρ : Ren) : List bZ->List Loc->Prop
 | [],[] => True
 | o :: os,a :: as => dS ρ W T a (fun _ => False) o/\DF W T ρ os as
 | _,_ => False
theorem DF.get {W : World} {T : Nat->Prop} {ρ : Ren} : ∀ {os : List bZ} {as : List Loc},DF W T ρ os as->as.length = os.length/\∀ (i : Nat) (o : bZ),os[i]? = some o->∃ a : Loc,as[i]? = some a/\dS ρ W T a (fun _ => False) o
 | [],[],_ => ⟨rfl,fun i o h => by simp at h⟩
 | o :: os,a :: as,⟨h1,h2⟩ => by
  obtain ⟨g1,g2⟩ := h2.get
  refine ⟨by simp [g1],fun i x hx => ?_⟩
  cases i with
  | zero => simp at hx; subst hx; exact ⟨a,rfl,h1⟩
  | succ i => simpa using g2 i x (by simpa using hx)
end Go.Proofs.YtenfleoejgjklaaGreat.SE
end
section
namespace Go.Proofs.YtenfleoejgjklaaGreat.SE
open Go

def cP (b : Bool) (x y : Prop) : Prop := match b with
 | true => x
 | false => y
theorem bg {b : Bool} {x y : Prop} (h1 : b = true->x) (h2 : b = false->y) : cP b x y := by
 cases b with
 | true => exact h1 rfl
 | false => exact h2 rfl
theorem jR {b : Bool} {x y : Prop} (h : cP b x y) : (b = true/\x) ∨ (b = false/\y) := by cases b <;> simp_all [cP]

theorem afD {m n k j : Nat} (hk : k < n) (hj : j < m) : k * m + j < n * m/\(k * m + j) / m = k/\(k * m + j) % m = j := by
 have hm : 0 < m := by omega
 refine ⟨?_,?_,?_⟩
 ·have : (k + 1) * m<=n * m := Nat.mul_le_mul_right _ hk
  rw [Nat.add_mul] at this; omega
 ·rw [Nat.mul_comm,Nat.mul_add_div hm,Nat.div_eq_of_lt hj]; omega
 ·rw [Nat.mul_comm,Nat.mul_add_mod,Nat.mod_eq_of_lt hj]
theorem En {m n k j : Nat} {g : Nat->List Value} {wr : List (Nat × List Value)} {v : Value} (hk : k < n) (hj : j < m) (hv : (Cs.eff g wr k)[j]? = some v) : (Cs.row m n g wr).get (k * m + j) = some (.lit v) := by
 obtain ⟨h1,h2,h3⟩ := afD hk hj
 have : Nat.blt (k * m + j) (n * m) = true := bQ.2 h1
 simp only [Cs.get,this,aO,h2,h3,hv]
def jJ : Cs->Nat->Option (Nat × Nat × Nat × (Nat->List Value) × List (Nat × List Value))
 | .row m n g wr,_ => some (0,m,n,g,wr)
 | .cat a b,j => bif Nat.blt j a.size then jJ a j else (match jJ b (j - a.size) with
  | some (o,r) => some (a.size + o,r)
  | none => none)
 | _,_ => none
def putRow : Cs->Nat->Cs->Cs
 | .row ..,_,r => r
 | .cat a b,j,r => bif Nat.blt j a.size then .cat (putRow a j r) b else .cat a (putRow b (j - a.size) r)
 | c,_,_ => c
theorem xC {a b : Cs} {j : Nat} {r : Nat × Nat × Nat × (Nat->List Value) × List (Nat × List Value)} (h : jJ (.cat a b) j = some r) :
  (j < a.size/\jJ a j = some r) ∨ (¬ j < a.size/\∃ o,jJ b (j - a.size) = some (o,r.2)/\r.1 = a.size + o) := by
 simp only [jJ] at h
 cases hb : Nat.blt j a.size with
 | true => rw [hb] at h; exact .inl ⟨bQ.1 hb,h⟩
 | false =>
  rw [hb] at h
  refine .inr ⟨(fun hh => by rw [bQ.2 hh] at hb; cases hb),?_⟩
  simp only [aP] at h
  split at h
  ·rename_i o r' hr; cases h; exact ⟨o,hr,rfl⟩
  ·cases h
theorem uq : ∀ {c : Cs} {j o m n : Nat} {g : Nat->List Value} {wr : List (Nat × List Value)},jJ c j = some (o,m,n,g,wr)->o + n * m<=c.size/\(Nat.ble o j = true ∨ o = 0) := by
 intro c
 induction c with
 | cat a b iha ihb =>
  intro j o m n g wr h
  rcases xC h with ⟨hj,h⟩ | ⟨hj,o',h,e⟩
  ·have := iha h; simp only [Cs.size]; exact ⟨by omega,this.2⟩
  ·have := ihb h
   simp only at e; subst e
   simp only [Cs.size,Nat.ble_eq] at this ⊢
   exact ⟨by omega,.inl (by omega)⟩
 | row m' n' g' wr' =>
  intro j o m n g wr h
  simp only [jJ,aj,Prod.mk.injEq] at h
  obtain ⟨rfl,rfl,rfl,rfl,rfl⟩ := h
  simp [Cs.size]
 | _ => intro j o m n g wr h; simp [jJ] at h
theorem qX : ∀ {c : Cs} {j o m n : Nat} {g : Nat->List Value} {wr : List (Nat × List Value)},jJ c j = some (o,m,n,g,wr)->∀ p,p < n * m->c.get (o + p) = (Cs.row m n g wr).get p := by
 intro c
 induction c with
 | cat a b iha ihb =>
  intro j o m n g wr h p hp
  rcases xC h with ⟨hj,h⟩ | ⟨hj,o',h,e⟩
  ·have := uq h
   have hb : Nat.blt (o + p) a.size = true := bQ.2 (by omega)
   simp only [Cs.get,hb,aO]
   rw [iha h p hp]; rfl
  ·simp only at e; subst e
   have hb : Nat.blt (a.size + o' + p) a.size = false := by
    cases hh : Nat.blt (a.size + o' + p) a.size
    ·rfl
    ·have := bQ.1 hh; omega
   have := ihb h p hp
   simp only [Cs.get] at this
   simp only [Cs.get,hb,aP,show a.size + o' + p - a.size = o' + p by omega]
   exact this
 | row m' n' g' wr' =>
  intro j o m n g wr h p hp
  simp only [jJ,aj,Prod.mk.injEq] at h
  obtain ⟨rfl,rfl,rfl,rfl,rfl⟩ := h
  rw [ay]
 | _ => intro j o m n g wr h; simp [jJ] at h
theorem ZC {h : Heap} {i : Nat} {ob : bZ} {c : Cs} {j0 o m n k : Nat} {g : Nat->List Value} {wr : List (Nat × List Value)} (hi : h.get i = some ob) (hc : ob.eX = some c) (hr : jJ c j0 = some (o,m,n,g,wr)) (hk : k < n) :
  ∀ (vs : List Value) (j : Nat),j + vs.length<=m->(∀ q,q < vs.length->(Cs.eff g wr k)[j + q]? = vs[q]?)->Zq h i (o + (k * m + j)) vs.length = some (vs.map .lit)
 | [],j,_,_ => rfl
 | v :: vs,j,hm,hv => by
  simp only [List.length_cons] at hm
  have h0 := hv 0 (by simp)
  simp only [aH,ah] at h0
  have hcell : cellAt h i (o + (k * m + j)) = some (.lit v) := by simp only [cellAt,hi,hc]; rw [qX hr _ (afD hk (by omega)).1]; exact En hk (by omega) h0
  have ih := ZC hi hc hr hk vs (j + 1) (by omega) (fun q hq => by
   have := hv (q + 1) (by simpa using hq)
   rw [List.getElem?_cons_succ] at this
   rw [← this]; congr 1; omega)
  rw [show o + (k * m + (j + 1)) = o + (k * m + j) + 1 by omega] at ih
  simp [Zq,hcell,ih]

def HY (g : Nat->List Value) (wr : List (Nat × List Value)) (k : Nat) (Q : List Value->Prop) : Prop := match wr with
 | [] => Q (g k)
 | (q,c) :: r => cP (Nat.beq k q) (Q c) (HY g r k Q)
theorem xE {g : Nat->List Value} {k : Nat} {Q : List Value->Prop} : ∀ {wr : List (Nat × List Value)},HY g wr k Q->Q (Cs.eff g wr k)
 | [],h => h
 | (q,c) :: r,h => by
  simp only [HY] at h
  simp only [Cs.eff]
  rcases jR h with ⟨hb,h⟩ | ⟨hb,h⟩
  ·rw [hb]; exact h
  ·rw [hb]; exact xE h

def rowA (tt : TT) (t : TypeId) (h : Heap) (i o : Nat) : Option (Nat × (Nat->List Value)) :=
 match tt t,h.get i with
 | some ti,some ob => match ob.eX with
  | some c => match jJ c o with
   | some (o',m,n,g,wr) => bif Nat.beq o o' && Nat.beq m 1 && Nat.beq n ti.size && Nat.blt 8 n && ti.agg then some (n,Cs.eff g wr) else none
   | none => none
  | none => none
 | _,_ => none
theorem MB {h : Heap} {i : Nat} {ob : bZ} {c : Cs} {j0 o N : Nat} {g : Nat->List Value} {wr : List (Nat × List Value)} (hi : h.get i = some ob) (hc : ob.eX = some c) (hr : jJ c j0 = some (o,1,N,g,wr)) :
  ∀ (n p : Nat),p + n<=N->∃ L,Zq h i (o + p) n = some L/\∀ q,q < n->L[q]? = (Cs.row 1 N g wr).get (p + q)
 | 0,p,_ => ⟨[],rfl,fun q hq => absurd hq (Nat.not_lt_zero _)⟩
 | n + 1,p,hp => by
  obtain ⟨v,hv⟩ : ∃ v,(Cs.row 1 N g wr).get p = some v := by
   simp only [Cs.get,bQ.2 (show p < N * 1 by omega),aO]
   split <;> exact ⟨_,rfl⟩
  have hcell : cellAt h i (o + p) = some v := by simp only [cellAt,hi,hc]; rw [qX hr _ (by omega)]; exact hv
  obtain ⟨L,h1,h2⟩ := MB hi hc hr n (p + 1) (by omega)
  refine ⟨v :: L,by simp only [Zq,hcell]; rw [show o + p + 1 = o + (p + 1) by omega,h1],fun q hq => ?_⟩
  cases q with
  | zero => simpa using hv.symm
  | succ q => rw [List.getElem?_cons_succ,h2 q (by omega)]; congr 1; omega
theorem afE {P : Program} {tt : TT} (hT : tt.ok P) {h : Heap} {ρ : Ren} {T : Nat->Prop} {w : World} (hR : Rel h ρ T w) {t : TypeId} {i o n : Nat} {f : Nat->List Value} {u : Value}
  (hr : rowA tt t h i o = some (n,f)) (hu : bP ρ (.ptr i o) u) : ROk P (Instr.loadAt t u) ρ w (.arr n f) := by
 unfold rowA at hr
 split at hr
 ·rename_i ti ob hti hi
  split at hr
  ·rename_i c hc
   split at hr
   ·rename_i o' m N g wr hrow
    cases hb : (Nat.beq o o' && Nat.beq m 1 && Nat.beq N ti.size && Nat.blt 8 N && ti.agg) with
    | false => rw [hb] at hr; cases hr
    | true =>
     rw [hb] at hr; cases hr
     simp only [aI] at hb
     obtain ⟨⟨⟨⟨h1,h2⟩,h3⟩,_⟩,hagg⟩ := hb
     have := ak h1; subst this
     have := ak h2; subst this
     have := ak h3; subst this
     obtain ⟨L,hL,hget⟩ := MB hi hc hrow ti.size 0 (by omega)
     rw [aH] at hL
     obtain ⟨v,hrun,hv⟩ := nG (P := P) hT hR (t := t) (a := .ptr i o) (v := .agg L) (by simp [Hr,hti,hagg,hL]) hu
     refine ⟨v,hrun,?_⟩
     simp only [bP] at hv ⊢
     obtain ⟨vs,rfl,hlr⟩ := hv
     refine ⟨vs,rfl,?_,fun k x hk hx => ?_⟩
     ·rw [← Array.length_toList,← hlr.length]; exact vF hL
     ·have hg := hget k hk
      rw [ay] at hg
      have hx' : (Cs.row 1 ti.size g wr).get k = some (.lit x) := by
       simp only [Cs.get,bQ.2 (show k < ti.size * 1 by omega),aO,Nat.div_one,Nat.mod_one,hx]
      rw [hx'] at hg
      obtain ⟨y,hy,hyr⟩ := hlr.get k _ hg
      simp only [bP] at hyr; subst hyr
      simpa using hy
   ·cases hr
  ·cases hr
 ·cases hr

def uw (ti : TI) (m n : Nat) (g : Nat->List Value) (wr : List (Nat × List Value)) (k j : Nat) (Q : AV->Prop) : Prop :=
 bif Nat.ble (j + ti.size) m then (k < n/\HY g wr k fun l => bif ti.agg then (bif Nat.ble (j + ti.size) l.length then Q (.agg (((l.drop j).take ti.size).map .lit)) else False) else (match l[j]? with
  | some v => bif Nat.beq ti.size 1 then Q (.lit v) else False
  | none => False)) else False
def xG (d : TD) (l : List Value) (Q : AV->Prop) : Prop := match d with
 | .bool => ∃ b,l[0]? = some (.bool b)/\Q (.lit (.bool b))
 | .int k => ∃ z,l[0]? = some (.int k z)/\Q (.lit (.int k z))
 | _ => match l[0]? with
  | some v => Q (.lit v)
  | none => False
theorem Eo {d : TD} {l : List Value} {Q : AV->Prop} (h : xG d l Q) : ∃ v,l[0]? = some v/\Q (.lit v) := by
 unfold xG at h
 split at h
 ·obtain ⟨b,h1,h2⟩ := h; exact ⟨_,h1,h2⟩
 ·obtain ⟨b,h1,h2⟩ := h; exact ⟨_,h1,h2⟩
 ·split at h
  ·rename_i v hv; exact ⟨_,hv,h⟩
  ·exact h.elim
def xH (ti : TI) (n : Nat) (g : Nat->List Value) (wr : List (Nat × List Value)) (p : Nat) (Q : AV->Prop) : Prop :=
 bif ti.agg && Nat.blt 8 ti.size then (p + ti.size<=n/\Q (.arr ti.size (fun q => Cs.eff g wr (p + q)))) else bif !ti.agg && Nat.beq ti.size 1 then (p < n/\HY g wr p fun l => xG ti.desc l Q) else False
def V8 (tt : TT) (t : TypeId) (a : AV) (h : Heap) (Q : AV->Prop) : Prop :=
 match a with
 | .og i k m j => match tt t,h.get i with
  | some ti,some ob => match ob.eX with
   | some c => match jJ c j with
    | some (o,m',n,g,wr) => bif Nat.beq m m' && Nat.ble o j then uw ti m n g wr k (j - o) Q else bif Nat.beq m' 1 && Nat.beq o 0 then xH ti n g wr (k * m + j) Q else False
    | none => False
   | none => False
  | _,_ => False
 | .ptr i o => match rowA tt t h i o with
  | some (n,f) => Q (.arr n f)
  | none => match Hr tt t (.ptr i o) h with
   | some v => Q v
   | none => False
 | a => match Hr tt t a h with
  | some v => Q v
  | none => False
theorem adg {P : Program} {tt : TT} (hT : tt.ok P) {h : Heap} {ρ : Ren} {T : Nat->Prop} {w : World} (hR : Rel h ρ T w) {t : TypeId} {ti : TI} {u : Value} {Q : AV->Prop} {i m n k j j0 o : Nat} {ob : bZ} {c : Cs} {g : Nat->List Value} {wr : List (Nat × List Value)}
  (hti : tt t = some ti) (hi : h.get i = some ob) (hc : ob.eX = some c) (hr : jJ c j0 = some (o,m,n,g,wr)) (hl : uw ti m n g wr k j Q) (hu : bP ρ (.ptr i (o + (k * m + j))) u) : ∃ v,ROk P (Instr.loadAt t u) ρ w v/\Q v := by
 unfold uw at hl
 cases hs : Nat.ble (j + ti.size) m with
 | false => rw [hs] at hl; exact hl.elim
 | true =>
  rw [hs] at hl; simp only [aO] at hl
  have hs' : j + ti.size<=m := by simpa using hs
  obtain ⟨hk,hl⟩ := hl
  have hl := xE hl
  cases hagg : ti.agg with
  | true =>
   rw [hagg] at hl; simp only [aO] at hl
   cases hle : Nat.ble (j + ti.size) (Cs.eff g wr k).length with
   | false => rw [hle] at hl; exact hl.elim
   | true =>
    rw [hle] at hl; simp only [aO] at hl
    have hle' : j + ti.size<=(Cs.eff g wr k).length := by simpa using hle
    have hlen : (((Cs.eff g wr k).drop j).take ti.size).length = ti.size := by simp; omega
    have hg := ZC hi hc hr hk (((Cs.eff g wr k).drop j).take ti.size) j (by omega) (fun q hq => by
     rw [hlen] at hq; rw [List.getElem?_take,if_pos hq,List.getElem?_drop])
    rw [hlen] at hg
    exact ⟨_,nG hT hR (a := .ptr i (o + (k * m + j))) (by simp [Hr,hti,hagg,hg]) hu,hl⟩
  | false =>
   rw [hagg] at hl; simp only [aP] at hl
   split at hl
   ·rename_i v hv
    cases h1 : Nat.beq ti.size 1 with
    | false => rw [h1] at hl; exact hl.elim
    | true =>
     rw [h1] at hl; simp only [aO] at hl
     have h1' := ak h1
     have hcell : cellAt h i (o + (k * m + j)) = some (.lit v) := by
      simp only [cellAt,hi,hc]; rw [qX hr _ (afD hk (by omega)).1]; exact En hk (by omega) hv
     exact ⟨_,nG hT hR (a := .ptr i (o + (k * m + j))) (by simp [Hr,hti,hagg,hcell]) hu,hl⟩
   ·exact hl.elim
theorem V9 {P : Program} {tt : TT} (hT : tt.ok P) {h : Heap} {ρ : Ren} {T : Nat->Prop} {w : World} (hR : Rel h ρ T w) {t : TypeId} {ti : TI} {u : Value} {Q : AV->Prop} {i n p j0 : Nat} {ob : bZ} {c : Cs} {g : Nat->List Value} {wr : List (Nat × List Value)}
  (hti : tt t = some ti) (hi : h.get i = some ob) (hc : ob.eX = some c) (hr : jJ c j0 = some (0,1,n,g,wr)) (hl : xH ti n g wr p Q) (hu : bP ρ (.ptr i p) u) : ∃ v,ROk P (Instr.loadAt t u) ρ w v/\Q v := by
 unfold xH at hl
 cases hb : (ti.agg && Nat.blt 8 ti.size) with
 | false =>
  rw [hb] at hl; simp only [aP] at hl
  cases hb2 : (!ti.agg && Nat.beq ti.size 1) with
  | false => rw [hb2] at hl; exact hl.elim
  | true =>
   rw [hb2] at hl; simp only [aO] at hl
   simp only [aI,Bool.not_eq_true'] at hb2
   obtain ⟨hp,hl⟩ := hl
   obtain ⟨v,hv,hl⟩ := Eo (xE hl)
   have hcell : cellAt h i p = some (.lit v) := by
    simp only [cellAt,hi,hc]
    have := qX hr p (by omega)
    rw [ay] at this
    rw [this]
    have := En (m := 1) (g := g) (wr := wr) (n := n) (k := p) (j := 0) (v := v) hp (by omega) hv
    simpa using this
   exact ⟨_,nG hT hR (a := .ptr i p) (by simp [Hr,hti,hb2.1,hcell]) hu,hl⟩
 | true =>
  rw [hb] at hl; simp only [aO] at hl
  simp only [aI] at hb
  obtain ⟨hle,hl⟩ := hl
  obtain ⟨L,hL,hget⟩ := MB hi hc hr ti.size p hle
  rw [ay] at hL
  obtain ⟨v,hrun,hv⟩ := nG (P := P) hT hR (t := t) (a := .ptr i p) (v := .agg L) (by simp [Hr,hti,hb.1,hL]) hu
  refine ⟨_,⟨v,hrun,?_⟩,hl⟩
  simp only [bP] at hv ⊢
  obtain ⟨vs,rfl,hlr⟩ := hv
  refine ⟨vs,rfl,?_,fun k x hk hx => ?_⟩
  ·rw [← Array.length_toList,← hlr.length]; exact vF hL
  ·have hg := hget k hk
   have hx' : (Cs.row 1 n g wr).get (p + k) = some (.lit x) := by
    simp only [Cs.get,bQ.2 (show p + k < n * 1 by omega),aO,Nat.div_one,Nat.mod_one,hx]
   rw [hx'] at hg
   obtain ⟨y,hy,hyr⟩ := hlr.get k _ hg
   simp only [bP] at hyr; subst hyr
   simpa using hy
theorem ZE {P : Program} {tt : TT} (hT : tt.ok P) {h : Heap} {ρ : Ren} {T : Nat->Prop} {w : World} (hR : Rel h ρ T w) {t : TypeId} {a : AV} {u : Value} {Q : AV->Prop}
  (hl : V8 tt t a h Q) (hu : bP ρ a u) : ∃ v,ROk P (Instr.loadAt t u) ρ w v/\Q v := by
 unfold V8 at hl
 split at hl
 ·rename_i i k m j
  split at hl
  ·rename_i ti ob hti hi
   split at hl
   ·rename_i c hc
    split at hl
    ·rename_i o m' n g wr hr
     cases hb : Nat.beq m m' && Nat.ble o j with
     | false =>
      rw [hb] at hl; simp only [aP] at hl
      cases hb2 : Nat.beq m' 1 && Nat.beq o 0 with
      | false => rw [hb2] at hl; exact hl.elim
      | true =>
       rw [hb2] at hl; simp only [aO] at hl
       simp only [aI] at hb2
       have := ak hb2.1; subst this
       have := ak hb2.2; subst this
       exact V9 hT hR hti hi hc hr hl (by simpa only [bP] using hu)
     | true =>
      rw [hb] at hl; simp only [aO] at hl
      simp only [aI,Nat.ble_eq] at hb
      obtain ⟨hb,hoj⟩ := hb
      have := ak hb; subst this
      refine adg hT hR hti hi hc hr hl ?_
      simp only [bP] at hu ⊢
      rw [show o + (k * m + (j - o)) = k * m + j by omega]; exact hu
    ·exact hl.elim
   ·exact hl.elim
  ·exact hl.elim
 ·rename_i i o
  split at hl
  ·rename_i n f hr
   exact ⟨_,afE hT hR hr hu,hl⟩
  ·split at hl
   ·rename_i v hv
    exact ⟨v,nG hT hR hv hu,hl⟩
   ·exact hl.elim
 ·split at hl
  ·rename_i v hv
   exact ⟨v,nG hT hR hv hu,hl⟩
  ·exact hl.elim

def mg (x : bZ) (c : Cs) : bZ := match x with
 | .cells e _ => .cells e c
 | .room e _ => .room e c
 | x => x

theorem xI {ρ : Ren} {x y : Cs} {arr : Array Value} {b : Nat} : gB ρ (.cat x y) arr b ↔ gB ρ x arr b/\gB ρ y arr (b + x.size) := by
 constructor
 ·intro h
  refine ⟨fun k v hk => ?_,fun k v hk => ?_⟩
  ·exact h k v (by simp only [Cs.get,bQ.2 (Cs.eu hk),aO]; exact hk)
  ·have hb : Nat.blt (x.size + k) x.size = false := by
    cases hh : Nat.blt (x.size + k) x.size
    ·rfl
    ·have := bQ.1 hh; omega
   obtain ⟨u,hu,hr⟩ := h (x.size + k) v (by simp only [Cs.get,hb,aP,Nat.add_sub_cancel_left]; exact hk)
   exact ⟨u,by rw [Nat.add_assoc]; exact hu,hr⟩
 ·rintro ⟨h1,h2⟩ k v hk
  simp only [Cs.get] at hk
  cases hb : Nat.blt k x.size with
  | true => rw [hb] at hk; exact h1 k v hk
  | false =>
   have : ¬ k < x.size := fun hh => by rw [bQ.2 hh] at hb; cases hb
   rw [hb] at hk
   obtain ⟨u,hu,hr⟩ := h2 _ v hk
   exact ⟨u,by rw [← hu]; congr 1; omega,hr⟩
theorem afF {ρ : Ren} {arr : Array Value} : ∀ {c : Cs} {j o m n b : Nat} {g : Nat->List Value} {wr : List (Nat × List Value)},jJ c j = some (o,m,n,g,wr)->gB ρ c arr b->gB ρ (.row m n g wr) arr (b + o) := by
 intro c j o m n b g wr h hc p v hv
 have hlt := Cs.eu hv
 simp only [Cs.size] at hlt
 obtain ⟨u,hu,hr⟩ := hc (o + p) v (by rw [qX h p hlt]; exact hv)
 exact ⟨u,by rw [Nat.add_assoc]; exact hu,hr⟩
theorem mD : ∀ {c : Cs} {j o m n : Nat} {g : Nat->List Value} {wr : List (Nat × List Value)} {r : Cs},jJ c j = some (o,m,n,g,wr)->r.size = n * m->(putRow c j r).size = c.size := by
 intro c
 induction c with
 | cat a b iha ihb =>
  intro j o m n g wr r h hr
  rcases xC h with ⟨hj,h⟩ | ⟨hj,o',h,e⟩
  ·simp only [putRow,bQ.2 hj,aO,Cs.size,iha h hr]
  ·have hb : Nat.blt j a.size = false := by
    cases hh : Nat.blt j a.size
    ·rfl
    ·exact absurd (bQ.1 hh) hj
   simp only [putRow,hb,aP,Cs.size,ihb h hr]
 | row m' n' g' wr' =>
  intro j o m n g wr r h hr
  simp only [jJ,aj,Prod.mk.injEq] at h
  obtain ⟨rfl,rfl,rfl,rfl,rfl⟩ := h
  simp only [putRow,hr,Cs.size]
 | _ => intro j o m n g wr r h; simp [jJ] at h
theorem Jk {ρ : Ren} {arr arr' : Array Value} : ∀ {c : Cs} {j o m n b : Nat} {g : Nat->List Value} {wr : List (Nat × List Value)} {r : Cs},jJ c j = some (o,m,n,g,wr)->r.size = n * m->gB ρ c arr b ->
  (∀ q,¬ (b + o<=q/\q < b + o + n * m)->arr'[q]? = arr[q]?)->gB ρ r arr' (b + o)->gB ρ (putRow c j r) arr' b := by
 intro c
 induction c with
 | cat a y iha ihb =>
  intro j o m n b g wr r h hr hc hq hn
  rw [xI] at hc
  rcases xC h with ⟨hj,h⟩ | ⟨hj,o',h,e⟩
  ·simp only [putRow,bQ.2 hj,aO]
   rw [xI,mD h hr]
   refine ⟨iha h hr hc.1 hq hn,fun p v hv => ?_⟩
   obtain ⟨u,hu,hr⟩ := hc.2 p v hv
   have := (uq h).1
   exact ⟨u,by rw [hq _ (by omega)]; exact hu,hr⟩
  ·simp only at e; subst e
   have hb : Nat.blt j a.size = false := by
    cases hh : Nat.blt j a.size
    ·rfl
    ·exact absurd (bQ.1 hh) hj
   simp only [putRow,hb,aP]
   rw [xI]
   refine ⟨fun p v hv => ?_,ihb h hr hc.2 (fun q hh => hq q (by omega)) (by rw [Nat.add_assoc]; exact hn)⟩
   obtain ⟨u,hu,hr⟩ := hc.1 p v hv
   have := Cs.eu hv
   exact ⟨u,by rw [hq _ (by omega)]; exact hu,hr⟩
 | row m' n' g' wr' =>
  intro j o m n b g wr r h hr hc hq hn
  simp only [jJ,aj,Prod.mk.injEq] at h
  obtain ⟨rfl,rfl,rfl,rfl,rfl⟩ := h
  exact hn
 | _ => intro j o m n b g wr r h; simp [jJ] at h

theorem xJ {P : Program} {h : Heap} {ρ : Ren} {T : Nat->Prop} {w : World} (hR : Rel h ρ T w) {i m n k j j0 o : Nat} {ob : bZ} {c : Cs} {g : Nat->List Value} {wr : List (Nat × List Value)} {a : Loc} {cs : List Value}
  (hi : h.get i = some ob) (hrow : fE ob = true) (hc : ob.eX = some c) (hr : jJ c j0 = some (o,m,n,g,wr)) (ha : ρ i = some a) (hk : k < n) (hj : j + cs.length<=m) (hle : j + cs.length<=(Cs.eff g wr k).length) (h1 : ∀ u ∈ cs,u.oneCell' = true) :
  ∃ w',(storeCells ⟨a.blk,a.base + (o + (k * m + j)),none⟩ cs).run P w = .ok () w'/\Rel (h.set i (mg ob (putRow c j0 (.row m n g ((k,Cs.jO j cs (Cs.eff g wr k)) :: wr))))) ρ T w'/\Keeps T w w' := by
 have hKM : k * m + m<=n * m := by
  have : (k + 1) * m<=n * m := Nat.mul_le_mul_right _ hk
  rw [Nat.add_mul] at this; omega
 have key : ∀ (arr arr' : Array Value),gB ρ (.row m n g wr) arr o->o + n * m<=arr.size->arr'.size = arr.size ->
   (∀ q,arr'[o + q]? = if k * m + j<=q/\q < k * m + j + cs.length then cs[q - (k * m + j)]? else arr[o + q]?)->gB ρ (.row m n g ((k,Cs.jO j cs (Cs.eff g wr k)) :: wr)) arr' o := by
  intro arr arr' hcr hsz hsz' hget q v hv
  have hlt := Cs.eu hv
  simp only [Cs.size] at hlt
  simp only [Cs.get,bQ.2 hlt,aO] at hv
  have hm : 0 < m := by
   rcases Nat.eq_zero_or_pos m with h0 | h0
   ·subst h0; simp at hlt
   ·exact h0
  have hqm := Nat.div_add_mod' q m
  have hqlt := Nat.mod_lt q hm
  rw [hget]
  have old : ∀ x,(Cs.eff g wr (q / m))[q % m]? = some x->∃ u,arr[o + q]? = some u/\bP ρ (.lit x) u := fun x hx => by
   have : (Cs.row m n g wr).get q = some (.lit x) := by simp only [Cs.get,bQ.2 hlt,aO,hx]
   obtain ⟨u,hu,hr⟩ := hcr q _ this
   exact ⟨u,hu,hr⟩
  have hsp : ∀ p,(Cs.jO j cs (Cs.eff g wr k))[p]? = if j<=p/\p < j + cs.length then cs[p - j]? else (Cs.eff g wr k)[p]? := fun p => Cs.oz j cs _ hle p
  by_cases hqk : q / m = k
  ·rw [hqk] at hv
   simp only [Cs.eff,Nat.beq_refl,aO,hsp] at hv
   by_cases hin : j<=q % m/\q % m < j + cs.length
   ·rw [if_pos hin] at hv
    rw [hqk] at hqm
    rw [if_pos (by omega),show q - (k * m + j) = q % m - j by omega]
    split at hv
    ·rename_i x hx; cases hv; exact ⟨x,hx,by simp [bP]⟩
    ·rename_i hx
     rw [List.getElem?_eq_none_iff] at hx
     omega
   ·rw [if_neg hin] at hv
    rw [hqk] at hqm
    rw [if_neg fun hh => hin ⟨by omega,by omega⟩]
    split at hv
    ·rename_i x hx; cases hv; exact old x (by rw [hqk]; exact hx)
    ·cases hv; exact ⟨arr[o + q],Array.getElem?_eq_getElem (by omega),by simp [bP]⟩
  ·simp only [Cs.eff,iV hqk,aP] at hv
   have hne : ¬ (k * m + j<=q/\q < k * m + j + cs.length) := fun hh => by
    apply hqk
    exact Nat.div_eq_of_lt_le (by omega) (by rw [Nat.add_mul]; omega)
   rw [if_neg hne]
   split at hv
   ·rename_i x hx; cases hv; exact old x hx
   ·cases hv; exact ⟨arr[o + q],Array.getElem?_eq_getElem (by omega),by simp [bP]⟩
 obtain ⟨S,r1,_⟩ := id hR
 obtain ⟨a',ha',ho⟩ := r1 i _ hi
 obtain rfl : a' = a := Option.some.inj (ha'.symm.trans ha)
 have main : ∀ (e : TypeId) (arr : Array Value),a'.base = 0->w.heap[a'.blk]? = some (.cells arr e (0,0))->c.size<=arr.size->gB ρ c arr 0->(∀ S,dS ρ w T a' S ob->S a'.blk) ->
   (∀ S (w' : World) arr',S a'.blk->dS ρ w T a' S ob->w'.heap[a'.blk]? = some (.cells arr' e (0,0))->arr'.size = arr.size->gB ρ (putRow c j0 (.row m n g ((k,Cs.jO j cs (Cs.eff g wr k)) :: wr))) arr' 0 ->
    dS ρ w' T a' S (mg ob (putRow c j0 (.row m n g ((k,Cs.jO j cs (Cs.eff g wr k)) :: wr))))) ->
   ∃ w',(storeCells ⟨a'.blk,a'.base + (o + (k * m + j)),none⟩ cs).run P w = .ok () w'/\Rel (h.set i (mg ob (putRow c j0 (.row m n g ((k,Cs.jO j cs (Cs.eff g wr k)) :: wr))))) ρ T w'/\Keeps T w w' := by
  intro e arr h0 hb hsz hcr hown hnew
  have hrs := (uq hr).1
  obtain ⟨w',arr',hrun,hb',hsz',hw,hne,ho1,ho2,ho3,hget⟩ := iq (P := P) a'.blk cs (a'.base + (o + (k * m + j))) 0 w arr hb h1 (by omega)
  have akZ : ∀ q,arr'[q]? = if o + (k * m + j)<=q/\q < o + (k * m + j) + cs.length then cs[q - (o + (k * m + j))]? else arr[q]? := fun q => by
   rw [hget]; simp only [h0,ay,aH]
  have aft : ∀ q,arr'[o + q]? = if k * m + j<=q/\q < k * m + j + cs.length then cs[q - (k * m + j)]? else arr[o + q]? := fun q => by
   rw [akZ]
   by_cases hh : k * m + j<=q/\q < k * m + j + cs.length
   ·rw [if_pos hh,if_pos (by omega)]; congr 1; omega
   ·rw [if_neg hh,if_neg (by omega)]
  have hrow1 := afF hr hcr
  rw [ay] at hrow1
  have hnew1 := Jk (arr' := arr') (r := (.row m n g ((k,Cs.jO j cs (Cs.eff g wr k)) :: wr))) hr rfl hcr (fun q hq => by rw [akZ,if_neg (by omega)]) (by rw [ay]; exact key arr arr' hrow1 (by omega) hsz' aft)
  refine ⟨w',hrun,hR.upd hi ha hw hne hown fun S hS hx => hnew S w' arr' hS hx hb' hsz' hnew1,⟨by omega,ho1,ho2,ho3,fun b hb2 => hne b fun hbb => hb2 ?_⟩⟩
  subst hbb
  exact hR.VW hi ha hown
 cases ob with
 | cells e c' =>
  simp only [bZ.eX,aj] at hc; subst hc
  obtain ⟨h0,hS,arr,hb,hsz,hlim,hcr⟩ := ho
  refine main e arr h0 hb (by omega) hcr (fun S' h => h.2.1) fun S' w' arr' hS' hx hb' hsz' hc' => ?_
  exact ⟨h0,hS',arr',hb',by rw [hsz',hsz]; exact (mD hr rfl).symm,by rw [hlim]; exact (mD hr rfl).symm,hc'⟩
 | room e c' =>
  simp only [bZ.eX,aj] at hc; subst hc
  obtain ⟨h0,hS,arr,hb,hsz,hle',hcr⟩ := ho
  refine main e arr h0 hb (by omega) hcr (fun S' h => h.2.1) fun S' w' arr' hS' hx hb' hsz' hc' => ?_
  exact ⟨h0,hS',arr',hb',by omega,by rw [mD hr rfl]; exact hle',hc'⟩
 | _ => simp [fE] at hrow

theorem Cc {P : Program} {h : Heap} {ρ : Ren} {T : Nat->Prop} {w : World} (hR : Rel h ρ T w) {i p : Nat} {ob : bZ} {c d : Cs} {a : Loc} {cs : List Value}
  (hi : h.get i = some ob) (hrow : fE ob = true) (hc : ob.eX = some c) (ha : ρ i = some a) (hp : p + cs.length<=c.size) (h1 : ∀ u ∈ cs,u.oneCell' = true) (hd : d.size = c.size)
  (key : ∀ (arr arr' : Array Value),gB ρ c arr 0->c.size<=arr.size->arr'.size = arr.size->(∀ q,arr'[q]? = if p<=q/\q < p + cs.length then cs[q - p]? else arr[q]?)->gB ρ d arr' 0) :
  ∃ w',(storeCells ⟨a.blk,a.base + p,none⟩ cs).run P w = .ok () w'/\Rel (h.set i (mg ob d)) ρ T w'/\Keeps T w w' := by
 obtain ⟨S,r1,_⟩ := id hR
 obtain ⟨a',ha',ho⟩ := r1 i _ hi
 obtain rfl : a' = a := Option.some.inj (ha'.symm.trans ha)
 have main : ∀ (e : TypeId) (arr : Array Value),a'.base = 0->w.heap[a'.blk]? = some (.cells arr e (0,0))->c.size<=arr.size->gB ρ c arr 0->(∀ S,dS ρ w T a' S ob->S a'.blk) ->
   (∀ S (w' : World) arr',S a'.blk->dS ρ w T a' S ob->w'.heap[a'.blk]? = some (.cells arr' e (0,0))->arr'.size = arr.size->gB ρ d arr' 0->dS ρ w' T a' S (mg ob d)) ->
   ∃ w',(storeCells ⟨a'.blk,a'.base + p,none⟩ cs).run P w = .ok () w'/\Rel (h.set i (mg ob d)) ρ T w'/\Keeps T w w' := by
  intro e arr h0 hb hsz hcr hown hnew
  obtain ⟨w',arr',hrun,hb',hsz',hw,hne,ho1,ho2,ho3,hget⟩ := iq (P := P) a'.blk cs (a'.base + p) 0 w arr hb h1 (by omega)
  have akZ : ∀ q,arr'[q]? = if p<=q/\q < p + cs.length then cs[q - p]? else arr[q]? := fun q => by
   rw [hget]; simp only [h0,ay,aH]
  refine ⟨w',hrun,hR.upd hi ha hw hne hown fun S hS hx => hnew S w' arr' hS hx hb' hsz' (key arr arr' hcr hsz hsz' akZ),⟨by omega,ho1,ho2,ho3,fun b hb2 => hne b fun hbb => hb2 ?_⟩⟩
  subst hbb
  exact hR.VW hi ha hown
 cases ob with
 | cells e c' =>
  simp only [bZ.eX,aj] at hc; subst hc
  obtain ⟨h0,hS,arr,hb,hsz,hlim,hcr⟩ := ho
  refine main e arr h0 hb (by omega) hcr (fun S' h => h.2.1) fun S' w' arr' hS' hx hb' hsz' hc' => ?_
  exact ⟨h0,hS',arr',hb',by rw [hsz',hsz]; exact hd.symm,by rw [hlim]; exact hd.symm,hc'⟩
 | room e c' =>
  simp only [bZ.eX,aj] at hc; subst hc
  obtain ⟨h0,hS,arr,hb,hsz,hle',hcr⟩ := ho
  refine main e arr h0 hb (by omega) hcr (fun S' h => h.2.1) fun S' w' arr' hS' hx hb' hsz' hc' => ?_
  exact ⟨h0,hS',arr',hb',by omega,by rw [hd]; exact hle',hc'⟩
 | _ => simp [fE] at hrow

def stoA (tt : TT) (t : TypeId) (i o n : Nat) (g : Nat->List Value) (h : Heap) (Q : Heap->Prop) : Prop :=
 match tt t,h.get i with
 | some ti,some ob => match ob.eX with
  | some c => match jJ c o with
   | some (o',m,N,_,_) => bif Nat.beq o o' && Nat.beq m 1 && Nat.beq n N && Nat.beq n ti.size && fE ob then ((∀ k,k < n->(Nat.beq (g k).length 1 && (g k).all Value.oneCell') = true)/\Q (h.set i (mg ob (putRow c o (.row 1 n g []))))) else False
   | none => False
  | none => False
 | _,_ => False
theorem aom {P : Program} {tt : TT} (hT : tt.ok P) {h : Heap} {ρ : Ren} {T : Nat->Prop} {w : World} (hR : Rel h ρ T w) {t : TypeId} {i o n : Nat} {g : Nat->List Value} {u x : Value} {Q : Heap->Prop}
  (hl : stoA tt t i o n g h Q) (hu : bP ρ (.ptr i o) u) (hx : bP ρ (.arr n g) x) : ∃ w' h',(Instr.storeAt t u x).run P w = .ok () w'/\Rel h' ρ T w'/\h'.next = h.next/\Keeps T w w'/\Q h' := by
 unfold stoA at hl
 split at hl
 ·rename_i ti ob hti hi
  split at hl
  ·rename_i c hc
   split at hl
   ·rename_i o' m N g0 wr hr
    cases hb : (Nat.beq o o' && Nat.beq m 1 && Nat.beq n N && Nat.beq n ti.size && fE ob) with
    | false => rw [hb] at hl; exact hl.elim
    | true =>
     rw [hb] at hl; simp only [aO] at hl
     simp only [aI] at hb
     obtain ⟨⟨⟨⟨e1,e2⟩,e3⟩,e4⟩,hrow⟩ := hb
     have := ak e1; subst this
     have := ak e2; subst this
     have := ak e3; subst this
     have e4 := ak e4
     obtain ⟨hall,hq⟩ := hl
     simp only [bP] at hu hx
     obtain ⟨a,ha,rfl⟩ := hu
     obtain ⟨A,rfl,hA,hg⟩ := hx
     have hel : ∀ k (hk : k < n),∃ v,g k = [v]/\v.oneCell' = true/\A[k]? = some v := fun k hk => by
      have := hall k hk
      simp only [aI,List.all_eq_true] at this
      obtain ⟨v,hv⟩ := List.length_eq_one_iff.1 (ak this.1)
      exact ⟨v,hv,this.2 v (by rw [hv]; simp),hg k v hk (by rw [hv]; rfl)⟩
     have hsz := (uq hr).1
     obtain ⟨w',hrun,hR',hk'⟩ := Cc (P := P) hR (p := o) (cs := A.toList) (d := putRow c o (.row 1 n g [])) hi hrow hc ha (by rw [Array.length_toList]; omega)
      (fun y hy => by
       obtain ⟨k,hk,rfl⟩ := List.mem_iff_getElem.1 hy
       rw [Array.length_toList] at hk
       obtain ⟨v,_,h1,h2⟩ := hel k (by omega)
       rw [Array.getElem?_eq_getElem hk] at h2
       cases h2
       simpa using h1)
      (mD hr rfl)
      (fun arr arr' hcr hs hs' hget => by
       refine Jk hr rfl hcr (fun q hq => by rw [hget,if_neg (by rw [Array.length_toList]; omega)]) fun q v hv => ?_
       have hlt := Cs.eu hv
       simp only [Cs.size] at hlt
       obtain ⟨y,h1,_,h2⟩ := hel q (by omega)
       simp only [Cs.get,bQ.2 hlt,aO,Cs.eff,Nat.div_one,Nat.mod_one,h1,ah] at hv
       cases hv
       refine ⟨y,?_,by simp only [bP]⟩
       rw [hget,if_pos (by rw [Array.length_toList]; omega),show 0 + o + q - o = q by omega,Array.getElem?_toList,h2])
     refine ⟨w',_,?_,hR',by simp,hk',hq⟩
     simp only [Instr.storeAt,Instr.sureAddr,Sem.run_bind,Sem.run_pure,Result.andThen_ok,storeVar,run_sizeOf hT hti]
     have hsz2 : (Value.agg A).cells.size = ti.size := by simp only [Value.cells]; omega
     rw [if_neg (by simpa using hsz2)]
     exact hrun
   ·exact hl.elim
  ·exact hl.elim
 ·exact hl.elim

def xK (tt : TT) (t : TypeId) (a v : AV) (h : Heap) (Q : Heap->Prop) : Prop :=
 match a with
 | .og i k m j => match tt t,h.get i,iW v with
  | some ti,some ob,some cs => match ob.eX,ou cs with
   | some c,some vs => match jJ c j with
    | some (o,m',n,g,wr) => bif Nat.beq m m' && Nat.ble o j && fE ob && Nat.beq vs.length ti.size && Nat.ble (j - o + vs.length) m && vs.all Value.oneCell' then (k < n/\HY g wr k fun l =>
     bif Nat.ble (j - o + vs.length) l.length then Q (h.set i (mg ob (putRow c j (.row m n g ((k,Cs.jO (j - o) vs l) :: wr))))) else False) else False
    | none => False
   | _,_ => False
  | _,_,_ => False
 | .ptr i o => match v with
  | .arr n g => stoA tt t i o n g h Q
  | v => match Qy tt t (.ptr i o) v h with
   | some h' => Q h'
   | none => False
 | a => match Qy tt t a v h with
  | some h' => Q h'
  | none => False
theorem mF {P : Program} {tt : TT} (hT : tt.ok P) {h : Heap} {ρ : Ren} {T : Nat->Prop} {w : World} (hR : Rel h ρ T w) {t : TypeId} {a v : AV} {u x : Value} {Q : Heap->Prop}
  (hl : xK tt t a v h Q) (hu : bP ρ a u) (hx : bP ρ v x) : ∃ w' h',(Instr.storeAt t u x).run P w = .ok () w'/\Rel h' ρ T w'/\h'.next = h.next/\Keeps T w w'/\Q h' := by
 unfold xK at hl
 split at hl
 ·rename_i i k m j
  split at hl
  ·rename_i ti ob cs hti hi hcs
   split at hl
   ·rename_i c vs hc hvs
    split at hl
    ·rename_i o m' n g wr hr
     cases hb : (Nat.beq m m' && Nat.ble o j && fE ob && Nat.beq vs.length ti.size && Nat.ble (j - o + vs.length) m && vs.all Value.oneCell') with
     | false => rw [hb] at hl; exact hl.elim
     | true =>
      rw [hb] at hl; simp only [aO] at hl
      simp only [aI,List.all_eq_true,Nat.ble_eq] at hb
      obtain ⟨⟨⟨⟨⟨hm,hoj⟩,hrow⟩,hsz⟩,hjm⟩,h1⟩ := hb
      have := ak hm; subst this
      have hsz := ak hsz
      obtain ⟨hk,hl⟩ := hl
      have hl := xE hl
      cases hle : Nat.ble (j - o + vs.length) (Cs.eff g wr k).length with
      | false => rw [hle] at hl; exact hl.elim
      | true =>
       rw [hle] at hl; simp only [aO] at hl
       have hle' : j - o + vs.length<=(Cs.eff g wr k).length := by simpa using hle
       simp only [bP] at hu
       obtain ⟨a,ha,rfl⟩ := hu
       have hlr := lW hcs hx
       have hcl := gQ hvs
       subst hcl
       have hxv : x.cells.toList = vs := by
        have : ∀ (l : List Value) (r : List Value),dZ ρ (l.map .lit) r->r = l := by
         intro l
         induction l with
         | nil => intro r hr; simpa [dZ] using hr
         | cons y l ih => intro r hr; simp only [List.map_cons,dZ,bP] at hr; obtain ⟨z,zs,rfl,rfl,hr⟩ := hr; rw [ih zs hr]
        exact this _ _ hlr
       obtain ⟨w',hrun,hR',hk'⟩ := xJ (P := P) hR hi hrow hc hr ha hk hjm hle' h1
       rw [show o + (k * m + (j - o)) = k * m + j by omega] at hrun
       refine ⟨w',_,?_,hR',by simp,hk',hl⟩
       have hsz2 : x.cells.size = ti.size := by rw [← Array.length_toList,hxv,hsz]
       simp only [Instr.storeAt,Instr.sureAddr,Sem.run_bind,Sem.run_pure,Result.andThen_ok,storeVar,run_sizeOf hT hti]
       rw [if_neg (by simpa using hsz2)]
       simp only [hxv]
       exact hrun
    ·exact hl.elim
   ·exact hl.elim
  ·exact hl.elim
 ·rename_i i o
  split at hl
  ·exact aom hT hR hl hu hx
  ·split at hl
   ·rename_i h2 hs
    obtain ⟨w',h1,h3,h4,h5⟩ := Eb (P := P) hT hR hs hu hx
    exact ⟨w',h2,h1,h3,h4,h5,hl⟩
   ·exact hl.elim
 ·split at hl
  ·rename_i h2 hs
   obtain ⟨w',h1,h3,h4,h5⟩ := Eb (P := P) hT hR hs hu hx
   exact ⟨w',h2,h1,h3,h4,h5,hl⟩
  ·exact hl.elim
end Go.Proofs.YtenfleoejgjklaaGreat.SE
end
section
namespace Go.Proofs.YtenfleoejgjklaaGreat.SE
open Go

def I64 (z : Int) : Prop := -9223372036854775808<=z/\z<=9223372036854775807
def arith (k : IntKind) (z : Int) (Q : AV->Prop) : Prop := match k with
 | .i64 => I64 z/\Q (.lit (.int .i64 z))
 | k => Q (.lit (.int k (k.wrap z)))
theorem wrap_in {z : Int} (h : -9223372036854775808<=z/\z<=9223372036854775807) : IntKind.i64.wrap z = z := by
 have := h.1; have := h.2
 simp only [IntKind.wrap,IntKind.bits,IntKind.signed]
 simp
 omega
theorem DI {k : IntKind} {z : Int} {Q : AV->Prop} (h : arith k z Q) : Q (.lit (.int k (k.wrap z))) := by
 unfold arith at h
 split at h
 ·rw [wrap_in h.1]; exact h.2
 ·exact h

def ZF : AV->Option (IntKind × Int)
 | .lit (.int k a) => some (k,a)
 | _ => none
theorem Jl {x : AV} {k : IntKind} {a : Int} (h : ZF x = some (k,a)) : x = .lit (.int k a) := by
 unfold ZF at h
 split at h
 ·cases h; rfl
 ·cases h
def ZG : AV->Option ByteArray
 | .lit (.string s) => some s
 | _ => none
theorem Jm {x : AV} {a : ByteArray} (h : ZG x = some a) : x = .lit (.string a) := by
 unfold ZG at h
 split at h
 ·cases h; rfl
 ·cases h
def aqr (op : BinOp) (k : IntKind) (a : Int) (k' : IntKind) (b : Int) (Q : AV->Prop) : Prop := match op with
 | .shl => 0<=b/\Q (.lit (.int k (k.wrap (a * 2 ^ (min b.toNat k.bits)))))
 | .shr => 0<=b/\Q (.lit (.int k (a.fdiv (2 ^ (min b.toNat k.bits)))))
 | op => if k = k' then (match op with
  | .add => arith k (a + b) Q
  | .sub => arith k (a - b) Q
  | .mul => arith k (a * b) Q
  | .quo => b ≠ 0/\arith k (a.tdiv b) Q
  | .rem => b ≠ 0/\Q (.lit (.int k (a.tmod b)))
  | op => match afb op k a b with
   | some v => Q (.lit v)
   | none => False) else False
def aqS (op : BinOp) (a b : ByteArray) (Q : AV->Prop) : Prop := match op with
 | .add => ((a.size + b.size : Nat) : Int)<=9223372036854775807/\Q (.lit (.string (a ++ b)))
 | op => match akQ op a b with
  | some v => Q (.lit v)
  | none => False
def aqs (tt : TT) (op : BinOp) (t : TypeId) (x y : AV) (Q : AV->Prop) : Prop :=
 match ZF x,ZF y with
 | some (k,a),some (k',b) => aqr op k a k' b Q
 | _,_ => match ZG x,ZG y with
  | some a,some b => aqS op a b Q
  | _,_ => match acZ tt op t x y with
   | some v => Q v
   | none => False

theorem aon {P : Program} {tt : TT} (hT : tt.ok P) {ρ : Ren} {op : BinOp} {t : TypeId} {xo yo : Operand} {x y : AV} {u v : Value} {Q : AV->Prop} (h : aqs tt op t x y Q)
  (hu : bP ρ x u) (hv : bP ρ y v) : ∃ r,NOk P (anf op t xo yo u v) ρ r/\Q r := by
 have go : ∀ r,acZ tt op t x y = some r->Q r->∃ r,NOk P (anf op t xo yo u v) ρ r/\Q r := fun r hr hq => ⟨r,afn hT hr hu hv,hq⟩
 unfold aqs at h
 split at h
 ·rename_i k a k' b hx hy
  have := Jl hx; subst this
  have := Jl hy; subst this
  cases op <;> simp only [aqr] at h
  case shl => exact go _ (by have : ¬ b < 0 := by omega
                             simp [acZ,akI,shN,this,Zt]) h.2
  case shr => exact go _ (by have : ¬ b < 0 := by omega
                             simp [acZ,akI,shN,this,Zt]) h.2
  all_goals
   split at h
   ·rename_i hk
    subst hk
    first
     | exact go _ (by simp [acZ,akI,afb,Zt]) (DI h)
     | exact go _ (by simp [acZ,akI,afb,Zt,h.1]) (DI h.2)
     | exact go _ (by simp [acZ,akI,afb,Zt,h.1]) h.2
     | exact go _ (by simp [acZ,akI,afb,Zt]) h
     | (simp only [afb] at h)
   ·exact h.elim
 ·split at h
  ·rename_i a b hx hy
   have := Jm hx; subst this
   have := Jm hy; subst this
   cases op <;> simp only [aqS] at h
   case add =>
    have hm : ¬ ((a.size + b.size : Nat) : Int) > IntKind.i64.max := by
     have : IntKind.i64.max = 9223372036854775807 := by decide
     rw [this]; omega
    exact go _ (by simp only [acZ,akQ,if_neg hm,Zt]) h.2
   all_goals first
    | exact go _ (by simp only [acZ,akQ,Zt]; rfl) (by simpa only [akQ] using h)
    | (simp only [akQ] at h)
  ·split at h
   ·rename_i r hr; exact go r hr h
   ·exact h.elim

def adh (tt : TT) (src dst : TypeId) (x : AV) (Q : AV->Prop) : Prop :=
 match tt src,tt dst with
 | some ts,some td => match ts.desc,td.desc,x with
  | .int _,.int k,.lit (.int _ n) => arith k n Q
  | .string,.string,.lit (.string s) => Q (.lit (.string s))
  | _,_,_ => False
 | _,_ => False
theorem ak0 {P : Program} {tt : TT} (hT : tt.ok P) {ρ : Ren} {src dst : TypeId} {x : AV} {u : Value} {Q : AV->Prop} (h : adh tt src dst x Q) (hu : bP ρ x u) : ∃ r,NOk P (convert src dst u) ρ r/\Q r := by
 unfold adh at h
 split at h
 ·rename_i ts td hts htd
  split at h
  ·rename_i k0 k k1 n hs hd
   exact ⟨_,LW (P := P) (r := .lit (.int k (k.wrap n))) hT (by simp [afo,hts,htd,hs,hd]) hu,DI h⟩
  ·rename_i s hs hd
   exact ⟨_,LW (P := P) (r := .lit (.string s)) hT (by simp [afo,hts,htd,hs,hd]) hu,h⟩
  ·exact h.elim
 ·exact h.elim

def H6 (h : Heap) (i : Nat) : Nat := match h.get i with
 | some ob => match ob.eX with
  | some (.row m _ _ _) => m
  | _ => 0
 | none => 0

def rowH (h : Heap) (i o m : Nat) : Bool := match h.get i with
 | some ob => match ob.eX with
  | some c => match jJ c o with
   | some (o',m',_,_,_) => Nat.beq o o' && Nat.beq m' m
   | none => false
  | none => false
 | none => false

def Jo (tt : TT) (s : TypeId) (x : AV) (f : Nat) (Q : AV->Prop) : Prop :=
 match x with
 | .og i k m j => match jF tt s (.ptr i j) f with
  | some (.ptr _ j') => Q (.og i k m j')
  | _ => False
 | x => match jF tt s x f with
  | some v => Q v
  | none => False
theorem Ce {tt : TT} {s : TypeId} {i f j d : Nat} {r : AV} (h : jF tt s (.ptr i j) f = some r) : ∃ j',r = .ptr i j'/\jF tt s (.ptr i (d + j)) f = some (.ptr i (d + j')) := by
 unfold jF at h ⊢
 split at h
 ·rename_i ts i' o hts hx
  cases hx
  split at h
  ·rename_i fs b hfs
   split at h
   ·rename_i off t b' hf
    split at h
    ·rename_i tf htf
     cases hz : Nat.beq tf.size 0 with
     | true => rw [hz] at h; simp at h
     | false =>
      rw [hz] at h; simp only [aP,aj] at h
      refine ⟨j + off,h.symm,?_⟩
      simp only [hts,hfs,hf,htf,hz,aP,Nat.add_assoc]
    ·cases h
   ·cases h
  ·cases h
 ·cases h
theorem afG {P : Program} {tt : TT} (hT : tt.ok P) {ρ : Ren} {s : TypeId} {f : Nat} {x : AV} {u : Value} {Q : AV->Prop} (h : Jo tt s x f Q) (hu : bP ρ x u) : ∃ r,NOk P (Instr.fieldAt s u f) ρ r/\Q r := by
 unfold Jo at h
 split at h
 ·rename_i i k m j
  split at h
  ·rename_i i' j' hf
   obtain ⟨j2,h2,h3⟩ := Ce (d := k * m) hf
   cases h2
   obtain ⟨r,h4,h5⟩ := pF (P := P) (ρ := ρ) (u := u) hT h3 (by simpa only [bP] using hu)
   exact ⟨_,⟨r,h4,by simpa only [bP] using h5⟩,h⟩
  ·exact h.elim
 ·split at h
  ·rename_i v hv; exact ⟨v,pF hT hv hu,h⟩
  ·exact h.elim

def lQ (tt : TT) (t : TypeId) (x ix : AV) (h : Heap) (Q : AV->Prop) : Prop :=
 match tt t,ix with
 | some ti,.lit (.int _ k) => match ti.desc,x with
  | .array n e,.ptr i o => match tt e with
   | some te => (0<=k/\k < (n : Int))/\(bif rowH h i o te.size then Q (.og i k.toNat te.size o) else Q (.ptr i (o + k.toNat * te.size)))
   | none => False
  | .array n e,.og i q m j => match tt e with
   | some te => (0<=k/\k < (n : Int))/\Q (.og i q m (j + k.toNat * te.size))
   | none => False
  | .slice e,.sl i o n _ => match tt e with
   | some te => (0<=k/\k < (n : Int))/\(bif Nat.beq o 0 && Nat.beq (H6 h i) te.size then Q (.og i k.toNat te.size 0) else Q (.ptr i (o + k.toNat * te.size)))
   | none => False
  | .slice e,.slU i o n _ => match tt e with
   | some te => (0<=k/\k < (n : Int))/\(bif Nat.beq o 0 && Nat.beq (H6 h i) te.size then Q (.og i k.toNat te.size 0) else Q (.ptr i (o + k.toNat * te.size)))
   | none => False
  | .slice e,.slE i q m n _ => match tt e with
   | some te => bif Nat.beq m te.size then ((0<=k/\k < (n : Int))/\Q (.og i (q + k.toNat) m 0)) else False
   | none => False
  | .slice e,.slW i q m n => match tt e with
   | some te => bif Nat.beq m te.size then ((0<=k/\k < (n : Int))/\Q (.og i (q + k.toNat) m 0)) else False
   | none => False
  | .slice e,.slR i q m n => match tt e with
   | some te => bif Nat.beq m te.size then ((0<=k/\k < (n : Int))/\Q (.og i (q + k.toNat) m 0)) else False
   | none => False
  | _,_ => False
 | _,_ => False
theorem mG {P : Program} {tt : TT} (hT : tt.ok P) {t e : TypeId} {ti te : TI} (hti : tt t = some ti) (hd : ti.desc = .slice e) (hte : tt e = some te) {b p n c : Nat} {kk : IntKind} {k : Int} (hk : 0<=k/\k < (n : Int)) (w : World) :
  (Instr.indexAt t (.slice (some ⟨b,p,none⟩) n c) (.int kk k)).run P w = .ok (.pointer (some ⟨b,p + k.toNat * te.size,none⟩)) w := by
 obtain ⟨d1,r1,_,m1⟩ := dh (P := P) hT hti w
 rw [bY (m1.trans hd)] at r1
 simp [Instr.indexAt,asIntOf,r1,hk,run_sizeOf hT hte,dX]
theorem MC {P : Program} {tt : TT} (hT : tt.ok P) {ρ : Ren} {t : TypeId} {x ix : AV} {h : Heap} {u v : Value} {Q : AV->Prop} (hq : lQ tt t x ix h Q) (hu : bP ρ x u) (hv : bP ρ ix v) :
  ∃ r,NOk P (Instr.indexAt t u v) ρ r/\Q r := by
 have row : ∀ (i o m : Nat) (k : Int) (b : Bool),NOk P (Instr.indexAt t u v) ρ (.ptr i (o + k.toNat * m))->b = (Nat.beq o 0 && Nat.beq (H6 h i) m)->(bif b then Q (.og i k.toNat m 0) else Q (.ptr i (o + k.toNat * m)))->∃ r,NOk P (Instr.indexAt t u v) ρ r/\Q r := by
  intro i o m k b hn hb hq
  cases b with
  | false => exact ⟨_,hn,hq⟩
  | true =>
   have hb := hb.symm
   simp only [aI] at hb
   have := ak hb.1; subst this
   obtain ⟨r,h1,h2⟩ := hn
   exact ⟨_,⟨r,h1,by simpa only [bP,ay,aH] using h2⟩,hq⟩
 unfold lQ at hq
 split at hq
 ·rename_i ti kk k hti
  split at hq
  ·rename_i n e i o hd
   split at hq
   ·rename_i te hte
    obtain ⟨hk,hq⟩ := hq
    have hn := jM (P := P) (ρ := ρ) (t := t) (x := .ptr i o) (ix := .lit (.int kk k)) (r := .ptr i (o + k.toNat * te.size)) hT (by simp [kG,hti,hd,hte,hk]) hu hv
    cases hb : rowH h i o te.size with
    | false => rw [hb] at hq; exact ⟨_,hn,hq⟩
    | true =>
     rw [hb] at hq
     obtain ⟨r,h1,h2⟩ := hn
     exact ⟨_,⟨r,h1,by simp only [bP] at h2 ⊢; rw [Nat.add_comm (k.toNat * te.size) o]; exact h2⟩,hq⟩
   ·exact hq.elim
  ·rename_i n e i q m j hd
   split at hq
   ·rename_i te hte
    obtain ⟨hk,hq⟩ := hq
    obtain ⟨r,h1,h2⟩ := jM (P := P) (ρ := ρ) (t := t) (x := .ptr i (q * m + j)) (ix := .lit (.int kk k)) (r := .ptr i (q * m + j + k.toNat * te.size)) hT (by simp [kG,hti,hd,hte,hk]) (by simpa only [bP] using hu) hv
    exact ⟨_,⟨r,h1,by simpa only [bP,Nat.add_assoc] using h2⟩,hq⟩
   ·exact hq.elim
  ·rename_i e i o n c hd
   split at hq
   ·rename_i te hte
    obtain ⟨hk,hq⟩ := hq
    exact row i o te.size k _ (jM (P := P) (ix := .lit (.int kk k)) hT (by simp [kG,hti,hd,hte,hk]) hu hv) rfl hq
   ·exact hq.elim
  ·rename_i e i o n c hd
   split at hq
   ·rename_i te hte
    obtain ⟨hk,hq⟩ := hq
    exact row i o te.size k _ (jM (P := P) (ix := .lit (.int kk k)) hT (by simp [kG,hti,hd,hte,hk]) hu hv) rfl hq
   ·exact hq.elim
  ·rename_i e i q m n c hd
   split at hq
   ·rename_i te hte
    cases hm : Nat.beq m te.size with
    | false => rw [hm] at hq; exact hq.elim
    | true =>
     rw [hm] at hq; simp only [aO] at hq
     have := ak hm; subst this
     obtain ⟨hk,hq⟩ := hq
     simp only [bP] at hu hv; subst hv
     obtain ⟨a,p,ha,rfl,hnc,hp⟩ := hu
     refine ⟨_,⟨_,fun w => mG hT hti hd hte hk w,?_⟩,hq⟩
     have := hp (by omega)
     simp only [bP]
     exact ⟨a,ha,by rw [this,Nat.add_mul]; simp [Nat.add_assoc]⟩
   ·exact hq.elim
  ·rename_i e i q m n hd
   split at hq
   ·rename_i te hte
    cases hm : Nat.beq m te.size with
    | false => rw [hm] at hq; exact hq.elim
    | true =>
     rw [hm] at hq; simp only [aO] at hq
     have := ak hm; subst this
     obtain ⟨hk,hq⟩ := hq
     simp only [bP] at hu hv; subst hv
     obtain ⟨a,p,c,ha,rfl,hnc,hp⟩ := hu
     refine ⟨_,⟨_,fun w => mG hT hti hd hte hk w,?_⟩,hq⟩
     have := (hp (by omega)).1
     simp only [bP]
     exact ⟨a,ha,by rw [this,Nat.add_mul]; simp [Nat.add_assoc]⟩
   ·exact hq.elim
  ·rename_i e i q m n hd
   split at hq
   ·rename_i te hte
    cases hm : Nat.beq m te.size with
    | false => rw [hm] at hq; exact hq.elim
    | true =>
     rw [hm] at hq; simp only [aO] at hq
     have := ak hm; subst this
     obtain ⟨hk,hq⟩ := hq
     simp only [bP] at hu hv; subst hv
     rcases hu with ⟨rfl,_⟩ | ⟨a,p,c,ha,rfl,hnc,hp⟩
     ·omega
     ·refine ⟨_,⟨_,fun w => mG hT hti hd hte hk w,?_⟩,hq⟩
      have := hp (by omega)
      simp only [bP]
      exact ⟨a,ha,by rw [this,Nat.add_mul]; simp [Nat.add_assoc]⟩
   ·exact hq.elim
  ·exact hq.elim
 ·exact hq.elim

def fG (s : ByteArray) (k : Nat) : Int := ((s.data.toList.getD k 0).toNat : Int)
def Jp (tt : TT) (t : TypeId) (x ix : AV) (Q : AV->Prop) : Prop :=
 match tt t,ix with
 | some ti,.lit (.int _ k) => match ti.desc,x with
  | .string,.lit (.string s) => (0<=k/\k < (s.size : Int))/\Q (.lit (.int .u8 (fG s k.toNat)))
  | .array n e,.arr n' g => match tt e with
   | some te => bif !te.agg && Nat.beq te.size 1 then ((0<=k/\k < (n : Int))/\k.toNat < n'/\xG te.desc (g k.toNat) Q) else False
   | none => False
  | .array n e,x => match wV x,tt e with
   | some cs,some te => (0<=k/\k < (n : Int))/\(match BZ tt e cs (k.toNat * te.size) with
    | some v => Q v
    | none => False)
   | _,_ => False
  | _,_ => False
 | _,_ => False
theorem afH {P : Program} {tt : TT} (hT : tt.ok P) {ρ : Ren} {t : TypeId} {x ix : AV} {u v : Value} {Q : AV->Prop} (hq : Jp tt t x ix Q) (hu : bP ρ x u) (hv : bP ρ ix v) : ∃ r,NOk P (Instr.index t u v) ρ r/\Q r := by
 unfold Jp at hq
 split at hq
 ·rename_i ti kk k hti
  split at hq
  ·rename_i s hd
   obtain ⟨hk,hq⟩ := hq
   refine ⟨_,wZ (P := P) (ix := .lit (.int kk k)) (r := .lit (.int .u8 (fG s k.toNat))) hT ?_ hu hv,hq⟩
   have hlt : k.toNat < s.size := by omega
   have hlt' : k.toNat < s.data.size := hlt
   have : s[k.toNat]? = some s[k.toNat] := by simp only [getElem?_def,hlt,dite_true]
   simp only [Jf,hti,hd,if_pos hk.1,this,fG,List.getD_eq_getElem?_getD]
   have e : s.data.toList[k.toNat]? = some s[k.toNat] := by
    rw [Array.getElem?_toList,Array.getElem?_eq_getElem hlt']; rfl
   rw [e]; rfl
  ·rename_i n e n' g hd
   split at hq
   ·rename_i te hte
    cases hb : (!te.agg && Nat.beq te.size 1) with
    | false => rw [hb] at hq; exact hq.elim
    | true =>
     rw [hb] at hq; simp only [aO] at hq
     simp only [aI,Bool.not_eq_true'] at hb
     obtain ⟨hag,hsz⟩ := hb
     have hsz := ak hsz
     obtain ⟨hk,hk',hq⟩ := hq
     simp only [bP] at hu
     obtain ⟨A,rfl,hA,hg⟩ := hu
     have hlt : k.toNat < A.size := by omega
     have hu' : bP ρ (.agg (A.toList.map .lit)) (.agg A) := by simp only [bP]; exact ⟨A,rfl,dZ.lits _⟩
     have hn : NOk P (Instr.index t (.agg A) v) ρ (.lit A[k.toNat]) :=
      wZ (P := P) (x := .agg (A.toList.map .lit)) (ix := .lit (.int kk k)) hT (by simp [Jf,hti,hd,wV,hte,hk,BZ,hag,hsz,hlt]) hu' hv
     obtain ⟨r,h1,h2⟩ := hn
     obtain ⟨y,hy,hq⟩ := Eo hq
     have := hg _ _ hk' hy
     rw [Array.getElem?_eq_getElem hlt] at this
     cases this
     exact ⟨_,⟨r,h1,h2⟩,hq⟩
   ·exact hq.elim
  ·rename_i n e hd hne
   split at hq
   ·rename_i cs te hcs hte
    obtain ⟨hk,hq⟩ := hq
    split at hq
    ·rename_i v hp
     exact ⟨v,wZ (P := P) (ix := .lit (.int kk k)) hT (by simp [Jf,hti,hd,hcs,hte,hk,hp]) hu hv,hq⟩
    ·exact hq.elim
   ·exact hq.elim
  ·exact hq.elim
 ·exact hq.elim

def zu (tt : TT) (t : TypeId) (x : AV) (f : Nat) (Q : AV->Prop) : Prop := match x with
 | .arr n g => match tt t with
  | some ti => match ti.desc with
   | .struct fs _ => match fs[f]? with
    | some (off,ft,_) => match tt ft with
     | some tf => bif Nat.ble (off + tf.size) n then (bif tf.agg then Q (.arr tf.size (fun q => g (off + q))) else bif Nat.beq tf.size 1 then xG tf.desc (g off) Q else False) else False
     | none => False
    | none => False
   | _ => False
  | none => False
 | x => match fieldN tt t x f with
  | some v => Q v
  | none => False
theorem adi {P : Program} {tt : TT} (hT : tt.ok P) {ρ : Ren} {t : TypeId} {f : Nat} {x : AV} {u : Value} {Q : AV->Prop} (h : zu tt t x f Q) (hu : bP ρ x u) : ∃ r,NOk P (Instr.field t u f) ρ r/\Q r := by
 unfold zu at h
 split at h
 ·rename_i n g
  split at h
  ·rename_i ti hti
   split at h
   ·rename_i fs bb hd
    split at h
    ·rename_i off ft b2 hf
     split at h
     ·rename_i tf htf
      cases hb : Nat.ble (off + tf.size) n with
      | false => rw [hb] at h; exact h.elim
      | true =>
       rw [hb] at h; simp only [aO] at h
       have hb : off + tf.size<=n := by simpa using hb
       simp only [bP] at hu
       obtain ⟨A,rfl,hA,hg⟩ := hu
       have hu' : bP ρ (.agg (A.toList.map .lit)) (.agg A) := by simp only [bP]; exact ⟨A,rfl,dZ.lits _⟩
       have hlen : (A.toList.map AV.lit).length = n := by simp [hA]
       cases hagg : tf.agg with
       | true =>
        rw [hagg] at h; simp only [aO] at h
        have hb2 : Nat.ble (off + tf.size) (A.toList.map AV.lit).length = true := by rw [hlen]; simpa using hb
        obtain ⟨r,h1,h2⟩ := wY (P := P) (ρ := ρ) (t := t) (f := f) (r := .agg (((A.toList.map AV.lit).drop off).take tf.size)) hT (by simp only [fieldN,hti,wV,hd,hf,BZ,htf,hagg,aO,takeN,hb2]) hu'
        refine ⟨_,⟨r,h1,?_⟩,h⟩
        simp only [bP] at h2 ⊢
        obtain ⟨vs,rfl,hl⟩ := h2
        refine ⟨vs,rfl,?_,fun k y hk hy => ?_⟩
        ·rw [← Array.length_toList,← hl.length,List.length_take,List.length_drop,hlen]; omega
        ·have := hg (off + k) y (by omega) hy
         obtain ⟨z,hz,hr⟩ := hl.get k (.lit y) (by rw [List.getElem?_take,if_pos hk,List.getElem?_drop,List.getElem?_map,Array.getElem?_toList,this]; rfl)
         simp only [bP] at hr; subst hr
         simpa using hz
       | false =>
        rw [hagg] at h; simp only [aP] at h
        cases hs : Nat.beq tf.size 1 with
        | false => rw [hs] at h; exact h.elim
        | true =>
         rw [hs] at h; simp only [aO] at h
         have hs := ak hs
         obtain ⟨y,hy,hq⟩ := Eo h
         have := hg off y (by omega) hy
         obtain ⟨r,h1,h2⟩ := wY (P := P) (ρ := ρ) (t := t) (f := f) (r := .lit y) hT (by
          simp only [fieldN,hti,wV,hd,hf,BZ,htf,hagg,aP]
          rw [List.getElem?_map,Array.getElem?_toList,this]; rfl) hu'
         exact ⟨_,⟨r,h1,h2⟩,hq⟩
     ·exact h.elim
    ·exact h.elim
   ·exact h.elim
  ·exact h.elim
 ·split at h
  ·rename_i v hv; exact ⟨v,wY hT hv hu,h⟩
  ·exact h.elim

def vB (x : Option AV) (d : Nat) (Q : Nat->Prop) : Prop := match x with
 | none => Q d
 | some (.lit (.int _ z)) => 0<=z/\Q z.toNat
 | _ => False
theorem aoo {ρ : Ren} {x : Option AV} {d : Nat} {Q : Nat->Prop} (h : vB x d Q) {v : Option Value} (hv : pG ρ x v) : ∃ k,Q k/\(x = none/\k = d ∨ ∃ kk,x = some (.lit (.int kk (k : Int)))) := by
 unfold vB at h
 split at h
 ·exact ⟨d,h,.inl ⟨rfl,rfl⟩⟩
 ·rename_i kk z
  refine ⟨z.toNat,h.2,.inr ⟨kk,?_⟩⟩
  rw [Int.toNat_of_nonneg h.1]
 ·exact h.elim
theorem afI {x : Option AV} {d k lim : Nat} (h : x = none/\k = d ∨ ∃ kk,x = some (.lit (.int kk (k : Int)))) (hk : k<=lim) : bnd x d lim = some k := by
 rcases h with ⟨rfl,rfl⟩ | ⟨kk,rfl⟩
 ·rfl
 ·simp only [bnd]
  rw [if_pos ⟨by omega,by omega⟩,au]
def Ci (n c : Nat) (lo hi mx : Option AV) (Q : Nat->Nat->Nat->Prop) : Prop :=
 match hi,mx with
 | none,some _ => False
 | hi,mx => vB mx c fun m => vB hi n fun h => vB lo 0 fun l => (l<=h/\h<=m/\m<=c)/\Q l h m
theorem lH {ρ : Ren} {n c : Nat} {lo hi mx : Option AV} {Q : Nat->Nat->Nat->Prop} (hq : Ci n c lo hi mx Q) {vl vh vm : Option Value} (hl : pG ρ lo vl) (hh : pG ρ hi vh) (hm : pG ρ mx vm) :
  ∃ l h m,Q l h m/\l<=h/\h<=m/\m<=c/\(mx = none->m = c)/\QA n c lo hi mx = some (l,h,m) := by
 unfold Ci at hq
 split at hq
 ·exact hq.elim
 ·rename_i hne
  obtain ⟨m,hq,e1⟩ := aoo hq hm
  obtain ⟨h,hq,e2⟩ := aoo hq hh
  obtain ⟨l,⟨⟨h1,h2,h3⟩,hq⟩,e3⟩ := aoo hq hl
  have hmc : mx = none->m = c := fun e => by
   rcases e1 with ⟨_,e1⟩ | ⟨_,e1⟩
   ·exact e1
   ·rw [e] at e1; cases e1
  refine ⟨l,h,m,hq,h1,h2,h3,hmc,?_⟩
  have b1 := afI e1 h3
  have b2 := afI e2 h2
  have b3 := afI e3 h1
  cases mx with
  | none =>
   have := hmc rfl
   subst this
   rw [QB,b2]; simp only [b3]
  | some y =>
   cases hi with
   | none => exact (hne _ rfl rfl).elim
   | some z => simp only [QA,b1,b2,b3]

def ak1 (i q m n c : Nat) (lo hi mx : Option AV) (Q : AV->Prop) : Prop := Ci n c lo hi mx fun l h c' => Q (.slE i (q + l) m (h - l) (c' - l))
def Jq (tt : TT) (t : TypeId) (x : AV) (lo hi mx : Option AV) (h : Heap) (Q : AV->Prop) : Prop :=
 match tt t with
 | some ti => match ti.desc,x with
  | .string,.lit (.string s) => match mx with
   | none => Ci s.size s.size lo hi none fun l h _ => Q (.lit (.string (s.extract l h)))
   | some _ => False
  | .slice e,.slE i q m n c => match tt e with
   | some te => bif Nat.beq m te.size then ak1 i q m n c lo hi mx Q else False
   | none => False
  | .slice e,.slW i q m n => match tt e with
   | some te => bif Nat.beq m te.size then (match mx with
    | none => Ci n n lo hi none fun l h _ => Q (.slW i (q + l) m (h - l))
    | some x => ak1 i q m n n lo hi (some x) Q) else False
   | none => False
  | .slice e,.slR i q m n => match tt e,mx with
   | some te,none => bif Nat.beq m te.size then Ci n n lo hi none fun l h _ => Q (.slR i (q + l) m (h - l)) else False
   | _,_ => False
  | .slice e,.sl i o n c => match tt e with
   | some te => bif Nat.beq o 0 && Nat.beq (H6 h i) te.size then ak1 i 0 te.size n c lo hi mx Q else (match oh tt t (.sl i o n c) lo hi mx with
    | some v => Q v
    | none => False)
   | none => False
  | .slice e,.slU i o n sz => match tt e with
   | some te => bif Nat.beq o 0 && Nat.beq (H6 h i) te.size && Nat.beq sz te.size then (match mx with
    | none => Ci n n lo hi none fun l h _ => Q (.slW i l te.size (h - l))
    | some x => ak1 i 0 te.size n n lo hi (some x) Q) else (match oh tt t (.slU i o n sz) lo hi mx with
    | some v => Q v
    | none => False)
   | none => False
  | .slice e,.lit (.slice none n c) => match tt e with
   | some _ => Ci n c lo hi mx fun l h m => Q (.lit (.slice none (h - l) (m - l)))
   | none => False
  | .slice e,.lit (.slice (some a) n c) => match tt e with
   | some te => Ci n c lo hi mx fun l h m => Q (.lit (.slice (some (if m = l then a else a.add (l * te.size))) (h - l) (m - l)))
   | none => False
  | .array n e,.ptr i o => match tt e with
   | some te => bif Nat.beq o 0 && Nat.beq (H6 h i) te.size then ak1 i 0 te.size n n lo hi mx Q else (match oh tt t (.ptr i o) lo hi mx with
    | some v => Q v
    | none => False)
   | none => False
  | .array n e,.og i k m j => match tt e with
   | some te => bif Nat.beq te.size 1 && Nat.beq (H6 h i) 1 then ak1 i (k * m + j) 1 n n lo hi mx Q else False
   | none => False
  | _,x => match oh tt t x lo hi mx with
   | some v => Q v
   | none => False
 | none => False

theorem jS {P : Program} {tt : TT} (hT : tt.ok P) {t e : TypeId} {ti te : TI} (hti : tt t = some ti) (hd : ti.desc = .slice e) (hte : tt e = some te) {b p n c l h m : Nat} {lo hi mx : Option AV} {vl vh vm : Option Value} {ρ : Ren}
  (hb : QA n c lo hi mx = some (l,h,m)) (hl : pG ρ lo vl) (hh : pG ρ hi vh) (hm : pG ρ mx vm) (w : World) :
  (Instr.sliceAt t (.slice (some ⟨b,p,none⟩) n c) vl vh vm).run P w = .ok (.slice (if m = l then some ⟨b,p,none⟩ else some ⟨b,p + l * te.size,none⟩) (h - l) (m - l)) w := by
 obtain ⟨d1,r1,_,m1⟩ := dh (P := P) hT hti w
 rw [bY (m1.trans hd)] at r1
 have hb' := vG (P := P) (b := true) hb hl hh hm w
 simp [Instr.sliceAt,Instr.slice,r1,hb',run_sizeOf hT hte,dX]
theorem aop {ρ : Ren} {i q m l h c' c : Nat} {a : Loc} {p : Nat} (ha : ρ i = some a) (hp : c ≠ 0->p = a.base + q * m) (h1 : l<=h) (h2 : h<=c') (h3 : c'<=c) :
  bP ρ (.slE i (q + l) m (h - l) (c' - l)) (.slice (if c' = l then some ⟨a.blk,p,none⟩ else some ⟨a.blk,p + l * m,none⟩) (h - l) (c' - l)) := by
 simp only [bP]
 by_cases hc : c' = l
 ·subst hc
  exact ⟨a,p,ha,by simp,by omega,by omega⟩
 ·refine ⟨a,p + l * m,ha,by simp [hc],by omega,fun _ => ?_⟩
  rw [hp (by omega),Nat.add_mul,Nat.add_assoc]
theorem afJ {P : Program} {tt : TT} (hT : tt.ok P) {ρ : Ren} {t : TypeId} {x : AV} {hp : Heap} {u : Value} {lo hi mx : Option AV} {vl vh vm : Option Value} {Q : AV->Prop} (hq : Jq tt t x lo hi mx hp Q)
  (hu : bP ρ x u) (hl : pG ρ lo vl) (hh : pG ρ hi vh) (hm : pG ρ mx vm) : ∃ r,NOk P (Instr.sliceAt t u vl vh vm) ρ r/\Q r := by
 have old : (match oh tt t x lo hi mx with | some v => Q v | none => False)->∃ r,NOk P (Instr.sliceAt t u vl vh vm) ρ r/\Q r := fun h => by
  split at h
  ·rename_i v hv; exact ⟨v,l7 hT hv hu hl hh hm,h⟩
  ·exact h.elim
 have cut : ∀ {e : TypeId} {ti te : TI} {i q n c p : Nat} {a : Loc} {mx' : Option AV},tt t = some ti->ti.desc = .slice e->tt e = some te->ρ i = some a->u = .slice (some ⟨a.blk,p,none⟩) n c->(c ≠ 0->p = a.base + q * te.size) ->
   pG ρ mx' vm->∀ c0,c0<=c->(mx' = none->c0 = c)->ak1 i q te.size n c0 lo hi mx' Q->∃ r,NOk P (Instr.sliceAt t u vl vh vm) ρ r/\Q r := by
  intro e ti te i q n c p a mx' hti hd hte ha hu hp hm c0 hc0 hc1 hq
  obtain ⟨l,h,c',hq,h1,h2,h3,h4,hb⟩ := lH hq hl hh hm
  have hb' : QA n c lo hi mx' = some (l,h,c') := by
   cases mx' with
   | none => rw [← hc1 rfl]; exact hb
   | some y =>
    unfold QA at hb ⊢
    split at hb
    ·rename_i m hmm
     have e : bnd (some y) c c = bnd (some y) c0 c := by cases y <;> first | rfl | (rename_i v; cases v <;> rfl)
     rw [e,afp hmm hc0]
     exact hb
    ·cases hb
  subst hu
  exact ⟨_,⟨_,fun w => jS hT hti hd hte hb' hl hh hm w,aop ha hp h1 h2 (Nat.le_trans h3 hc0)⟩,hq⟩
 unfold Jq at hq
 split at hq
 ·rename_i ti hti
  split at hq
  ·rename_i s hd
   split at hq
   ·obtain ⟨l,h,m,hq,_,_,_,_,hb⟩ := lH hq hl hh (vm := none) rfl
    exact ⟨_,l7 (P := P) (r := .lit (.string (s.extract l h))) hT (by simp [oh,hti,hd,hb]) hu hl hh hm,hq⟩
   ·exact hq.elim
  ·rename_i e i q m n c hd
   split at hq
   ·rename_i te hte
    cases hmb : Nat.beq m te.size with
    | false => rw [hmb] at hq; exact hq.elim
    | true =>
     rw [hmb] at hq; simp only [aO] at hq
     have := ak hmb; subst this
     simp only [bP] at hu
     obtain ⟨a,p,ha,hue,hnc,hp⟩ := hu
     exact cut hti hd hte ha hue hp hm c (aX _) (fun _ => rfl) hq
   ·exact hq.elim
  ·rename_i e i q m n hd
   split at hq
   ·rename_i te hte
    cases hmb : Nat.beq m te.size with
    | false => rw [hmb] at hq; exact hq.elim
    | true =>
     rw [hmb] at hq; simp only [aO] at hq
     have := ak hmb; subst this
     simp only [bP] at hu
     obtain ⟨a,p,c,ha,hue,hnc,hp⟩ := hu
     split at hq
     ·obtain ⟨l,h,m',hq2,h1,h2,h3,h4,hb⟩ := lH hq hl hh (vm := none) rfl
      simp only [pG] at hm; subst hm
      have := h4 rfl; subst this
      have hb' := Du hb hnc
      subst hue
      refine ⟨_,⟨_,fun w => jS hT hti hd hte hb' hl hh (by simp [pG]) w,?_⟩,hq2⟩
      simp only [bP]
      by_cases hc : c = l
      ·subst hc
       exact ⟨a,p,0,ha,by simp,by omega,by omega⟩
      ·refine ⟨a,p + l * te.size,c - l,ha,by simp [hc],by omega,fun _ => ?_⟩
       obtain ⟨e1,e2⟩ := hp (by omega)
       refine ⟨by rw [e1,Nat.add_mul,Nat.add_assoc],?_⟩
       rw [Nat.add_mul,Nat.add_assoc,← Nat.add_mul,show l + (c - l) = c by omega]
       exact e2
     ·exact cut hti hd hte ha hue (fun h => (hp h).1) hm n hnc (fun h => by cases h) hq
   ·exact hq.elim
  ·rename_i e i q m n hd
   split at hq
   ·rename_i te hte
    cases hmb : Nat.beq m te.size with
    | false => rw [hmb] at hq; exact hq.elim
    | true =>
     rw [hmb] at hq; simp only [aO] at hq
     have := ak hmb; subst this
     simp only [bP] at hu
     simp only [pG] at hm; subst hm
     obtain ⟨l,h,m',hq2,h1,h2,h3,h4,hb⟩ := lH hq hl hh (vm := none) rfl
     have := h4 rfl; subst this
     rcases hu with ⟨rfl,rfl⟩ | ⟨a,p,c,ha,rfl,hnc,hp⟩
     ·obtain ⟨r,hr1,hr2⟩ := l7 (P := P) (ρ := ρ) (t := t) (x := .lit (.slice none 0 0)) (lo := lo) (hi := hi) (mx := none) (r := .lit (.slice none (h - l) (0 - l))) (vm := none) (u := .slice none 0 0) hT (by simp only [oh,hti,hd,hte,hb]) (by simp only [bP]) hl hh rfl
      refine ⟨_,⟨r,hr1,?_⟩,hq2⟩
      simp only [bP] at hr2 ⊢
      have h0 : h = 0 := by omega
      subst h0
      have l0 : l = 0 := by omega
      subst l0
      exact .inl ⟨rfl,by simpa using hr2⟩
     ·have hb' := Du hb hnc
      refine ⟨_,⟨_,fun w => jS hT hti hd hte hb' hl hh (by simp [pG]) w,?_⟩,hq2⟩
      simp only [bP]
      refine .inr ?_
      by_cases hc : c = l
      ·subst hc
       exact ⟨a,p,0,ha,by simp,by omega,by omega⟩
      ·refine ⟨a,p + l * te.size,c - l,ha,by simp [hc],by omega,fun _ => ?_⟩
       rw [hp (by omega),Nat.add_mul,Nat.add_assoc]
   ·exact hq.elim
  ·rename_i e i o n c hd
   split at hq
   ·rename_i te hte
    cases hb : (Nat.beq o 0 && Nat.beq (H6 hp i) te.size) with
    | false => rw [hb] at hq; exact old hq
    | true =>
     rw [hb] at hq; simp only [aO] at hq
     simp only [aI] at hb
     have := ak hb.1; subst this
     simp only [bP] at hu
     obtain ⟨a,ha,hue⟩ := hu
     exact cut (q := 0) hti hd hte ha hue (fun _ => by simp) hm c (aX _) (fun _ => rfl) hq
   ·exact hq.elim
  ·rename_i e i o n sz hd
   split at hq
   ·rename_i te hte
    cases hb : (Nat.beq o 0 && Nat.beq (H6 hp i) te.size && Nat.beq sz te.size) with
    | false => rw [hb] at hq; exact old hq
    | true =>
     rw [hb] at hq; simp only [aO] at hq
     simp only [aI] at hb
     have := ak hb.1.1; subst this
     have := ak hb.2; subst this
     simp only [bP] at hu
     obtain ⟨a,c,ha,hue,hnc,hlim⟩ := hu
     split at hq
     ·obtain ⟨l,h,m',hq2,h1,h2,h3,h4,hb⟩ := lH hq hl hh (vm := none) rfl
      simp only [pG] at hm; subst hm
      have := h4 rfl; subst this
      have hb' := Du hb hnc
      subst hue
      refine ⟨_,⟨_,fun w => jS hT hti hd hte hb' hl hh (by simp [pG]) w,?_⟩,hq2⟩
      simp only [bP]
      by_cases hc : c = l
      ·subst hc
       exact ⟨a,a.base + 0,0,ha,by simp,by omega,by omega⟩
      ·refine ⟨a,a.base + 0 + l * te.size,c - l,ha,by simp [hc],by omega,fun _ => ⟨by simp,?_⟩⟩
       rw [← Nat.add_mul,show l + (c - l) = c by omega]
       omega
     ·exact cut (q := 0) hti hd hte ha hue (fun _ => by simp) hm n hnc (fun h => by cases h) hq
   ·exact hq.elim
  ·rename_i e n c hd
   split at hq
   ·rename_i te hte
    obtain ⟨l,h,m,hq,_,_,_,_,hb⟩ := lH hq hl hh hm
    exact ⟨_,l7 (P := P) (r := .lit (.slice none (h - l) (m - l))) hT (by simp [oh,hti,hd,hte,hb]) hu hl hh hm,hq⟩
   ·exact hq.elim
  ·rename_i e a n c hd
   split at hq
   ·rename_i te hte
    obtain ⟨l,h,m,hq,_,_,_,_,hb⟩ := lH hq hl hh hm
    simp only [bP] at hu; subst hu
    refine ⟨_,⟨.slice (some (if m = l then a else a.add (l * te.size))) (h - l) (m - l),fun w => ?_,by simp only [bP]⟩,hq⟩
    obtain ⟨d1,r1,_,m1⟩ := dh (P := P) hT hti w
    rw [bY (m1.trans hd)] at r1
    have hb' := vG (P := P) (b := true) hb hl hh hm w
    simp only [Instr.sliceAt,Instr.slice,r1,Sem.run_bind,Result.andThen_ok,hb',run_sizeOf hT hte]
    split <;> simp_all
   ·exact hq.elim
  ·rename_i n e i o hd
   split at hq
   ·rename_i te hte
    cases hb : (Nat.beq o 0 && Nat.beq (H6 hp i) te.size) with
    | false => rw [hb] at hq; exact old hq
    | true =>
     rw [hb] at hq; simp only [aO] at hq
     simp only [aI] at hb
     have := ak hb.1; subst this
     obtain ⟨l,h,m,hq,h1,h2,h3,h4,hb⟩ := lH hq hl hh hm
     obtain ⟨r,hr1,hr2⟩ := l7 (P := P) (t := t) (x := .ptr i 0) (lo := lo) (hi := hi) (mx := mx) (r := .sl i (if m = l then 0 else 0 + l * te.size) (h - l) (m - l)) hT (by simp only [oh,hti,hd,hte,hb]) hu hl hh hm
     refine ⟨_,⟨r,hr1,?_⟩,hq⟩
     simp only [bP] at hr2 ⊢
     obtain ⟨a,ha,rfl⟩ := hr2
     exact ⟨a,_,ha,rfl,by omega,fun hc => by rw [if_neg (by omega)]; simp⟩
   ·exact hq.elim
  ·rename_i n e i k m j hd
   split at hq
   ·rename_i te hte
    cases hb : (Nat.beq te.size 1 && Nat.beq (H6 hp i) 1) with
    | false => rw [hb] at hq; exact hq.elim
    | true =>
     rw [hb] at hq; simp only [aO] at hq
     simp only [aI] at hb
     have e1 := ak hb.1
     obtain ⟨l,h,m',hq,h1,h2,h3,h4,hb⟩ := lH hq hl hh hm
     obtain ⟨r,hr1,hr2⟩ := l7 (P := P) (ρ := ρ) (u := u) (t := t) (x := .ptr i (k * m + j)) (lo := lo) (hi := hi) (mx := mx) (r := .sl i (if m' = l then k * m + j else k * m + j + l * te.size) (h - l) (m' - l)) hT (by simp only [oh,hti,hd,hte,hb]) (by simpa only [bP] using hu) hl hh hm
     refine ⟨_,⟨r,hr1,?_⟩,hq⟩
     simp only [bP] at hr2 ⊢
     obtain ⟨a,ha,rfl⟩ := hr2
     exact ⟨a,_,ha,rfl,by omega,fun hc => by rw [if_neg (by omega),e1]; omega⟩
   ·exact hq.elim
  ·exact old hq
 ·exact hq.elim

def nrm : AV->AV
 | .slZ _ i k m n => .slR i k m n
 | v => v
theorem qY {ρ : Ren} {x : AV} {u : Value} (h : bP ρ x u) : bP ρ (nrm x) u := by
 cases x <;> try exact h
 simp only [nrm,bP] at h ⊢
 rcases h with ⟨_,h⟩ | ⟨_,h⟩
 ·exact .inl h
 ·exact .inr h
def vN (tt : TT) (op : Op) (ev : Operand->AV) (h : Heap) (Q : AV->Prop) : Prop :=
 match op with
 | .pick c a b => match ev c with
  | .lit (.bool t) => cP t (Q (ev a)) (Q (ev b))
  | _ => False
 | .binOp o t x y _ => aqs tt o t (ev x) (ev y) Q
 | .convert s d x => adh tt s d (ev x) Q
 | .slice t x lo hi mx => Jq tt t (nrm (ev x)) (akJ ev lo) (akJ ev hi) (akJ ev mx) h Q
 | .fieldAddr s x f => Jo tt s (ev x) f Q
 | .indexAddr t x i => lQ tt t (nrm (ev x)) (ev i) h Q
 | .index t x i => Jp tt t (ev x) (ev i) Q
 | .field t x f => zu tt t (ev x) f Q
 | op => match opN tt op ev with
  | some v => Q v
  | none => False
theorem aqT {P : Program} {tt : TT} (hT : tt.ok P) {ρ : Ren} {o : Oper} {ev : Operand->AV} {e : Operand->Value} (he : ∀ x,bP ρ (ev x) (e x)) {h : Heap} {Q : AV->Prop} (hq : vN tt o.op ev h Q) :
  ∃ v u,(∀ w,(execOp e o).run P w = .ok (.value u) w)/\bP ρ v u/\Q v := by
 have old : (match opN tt o.op ev with | some v => Q v | none => False)->∃ v u,(∀ w,(execOp e o).run P w = .ok (.value u) w)/\bP ρ v u/\Q v := fun hq => by
  split at hq
  ·rename_i v hv
   obtain ⟨u,h1,h2⟩ := aqL (P := P) hT he hv
   exact ⟨v,u,h1,h2,hq⟩
  ·exact hq.elim
 obtain ⟨dst,op,ty,pos,after,guard⟩ := o
 have wrap : ∀ {s : Sem Value},(∃ r,NOk P s ρ r/\Q r)->∃ v u,(∀ w,(do pure (Next.value (← s)) : Sem Next).run P w = .ok (.value u) w)/\bP ρ v u/\Q v :=
  fun ⟨r,⟨u,hu,hr⟩,hq⟩ => ⟨r,u,fun w => nI (hu w),hr,hq⟩
 cases op <;> simp only [vN] at hq <;> try exact old hq
 case pick c a b =>
  split at hq
  ·rename_i t ht
   have := he c
   rw [ht] at this
   simp only [bP] at this
   rcases jR hq with ⟨rfl,hq⟩ | ⟨rfl,hq⟩
   ·exact ⟨_,e a,fun w => by simp [execOp,this,asBool],he a,hq⟩
   ·exact ⟨_,e b,fun w => by simp [execOp,this,asBool],he b,hq⟩
  ·exact hq.elim
 case binOp o t x y yt => exact wrap (aon (P := P) (xo := x) (yo := y) hT hq (he x) (he y))
 case convert s d x => exact wrap (ak0 (P := P) hT hq (he x))
 case slice t x lo hi mx => exact wrap (afJ (P := P) hT hq (qY (he x)) (uj he lo) (uj he hi) (uj he mx))
 case fieldAddr s x f => exact wrap (afG (P := P) hT hq (he x))
 case indexAddr t x i => exact wrap (MC (P := P) hT hq (qY (he x)) (he i))
 case index t x i => exact wrap (afH (P := P) hT hq (he x) (he i))
 case field t x f => exact wrap (adi (P := P) hT hq (he x))
end Go.Proofs.YtenfleoejgjklaaGreat.SE
end
section
namespace Go.Proofs.YtenfleoejgjklaaGreat.SE
open Go

theorem QS {m n k : Nat} {g : Nat->List Value} {wr : List (Nat × List Value)} (hk : k < n * m) : ∃ v,(Cs.row m n g wr).get k = some v := by
 simp only [Cs.get,bQ.2 hk,aO]
 split
 ·exact ⟨_,rfl⟩
 ·exact ⟨_,rfl⟩
theorem afK {m N q n : Nat} {g : Nat->List Value} {wr : List (Nat × List Value)} (hm : 0 < m) (h : q + n<=N) : Cs.Seg (.row m N g wr) (q * m) (n * m) (.row m n (fun k => Cs.eff g wr (q + k)) []) := by
 refine ⟨rfl,fun k hk => ?_⟩
 have hlt : q * m + k < N * m := by
  have : (q + n) * m<=N * m := Nat.mul_le_mul_right _ h
  rw [Nat.add_mul] at this; omega
 have e1 : (q * m + k) / m = q + k / m := by rw [Nat.mul_comm,Nat.mul_add_div hm]
 have e2 : (q * m + k) % m = k % m := by rw [Nat.mul_comm,Nat.mul_add_mod]
 refine ⟨?_,QS hlt⟩
 simp only [Cs.get,bQ.2 hk,bQ.2 hlt,aO,e1,e2,Cs.eff]

theorem MF {P : Program} {h : Heap} {ρ : Ren} {T : Nat->Prop} {w : World} (hR : Rel h ρ T w) {i o m : Nat} {ob : bZ} {c d : Cs} {a : Loc} (hi : h.get i = some ob) (hc : ob.eX = some c)
  (hs : Cs.Seg c o m d) (ha : ρ i = some a) : ∃ vs : Array Value,(loadCells ⟨a.blk,a.base + o,none⟩ m).run P w = .ok vs w/\vs.size = d.size/\gB ρ d vs 0 := by
 obtain ⟨hsz,hseg⟩ := hs
 have hcell : ∀ k,cellAt h i k = c.get k := fun k => by simp [cellAt,hi,hc]
 obtain ⟨l,hl,hlen,hget⟩ := V5 (h := h) (i := i) m o (fun k hk => by rw [hcell]; exact (hseg k hk).2)
 obtain ⟨vs,hvs,hlr⟩ := run_loadCellsFrom (P := P) hR ha o m 0 #[] l (by simpa using hl)
 refine ⟨vs.toArray,by simpa [loadCells] using hvs,by simp [← hlr.length,hlen,hsz],fun k v hk => ?_⟩
 have hkm : k < m := by rw [← hsz]; exact Cs.eu hk
 have : l[k]? = some v := by rw [hget k hkm,hcell,← (hseg k hkm).1,hk]
 obtain ⟨u,hu,hr⟩ := hlr.get k v this
 exact ⟨u,by simpa using hu,hr⟩

inductive dB where
 | few (L : List (List Value))
 | many (n : Nat) (g : Nat->List Value)
namespace dB
def len : dB->Nat
 | .few L => L.length
 | .many n _ => n
def el : dB->Nat->List Value
 | .few L => fun k => L.getD k []
 | .many _ g => g
def ones (m : Nat) : dB->Prop
 | .few L => L.all (fun l => Nat.beq l.length m && l.all Value.oneCell') = true
 | .many n g => ∀ k,k < n->(Nat.beq (g k).length m && (g k).all Value.oneCell') = true
theorem afL {m : Nat} {e : dB} (h : e.ones m) : ∀ k,k < e.len->(Nat.beq (e.el k).length m && (e.el k).all Value.oneCell') = true := by
 cases e with
 | few L =>
  intro k hk
  simp only [ones,List.all_eq_true] at h
  simp only [el,len] at hk ⊢
  rw [List.getD_eq_getElem?_getD,List.getElem?_eq_getElem hk]
  exact h _ (List.getElem_mem hk)
 | many n g => exact h
end dB
def chunk (m : Nat) : Nat->List Value->List (List Value)
 | 0,_ => []
 | n + 1,vs => vs.take m :: chunk m n (vs.drop m)
theorem qZ (m : Nat) : ∀ (n : Nat) (vs : List Value),(chunk m n vs).length = n
 | 0,_ => rfl
 | n + 1,vs => by simp [chunk,qZ m n]
theorem Ep (m : Nat) : ∀ (n k : Nat) (vs : List Value),k < n->(chunk m n vs).getD k [] = (vs.drop (k * m)).take m
 | 0,k,vs,h => by omega
 | n + 1,0,vs,h => by simp [chunk]
 | n + 1,k + 1,vs,h => by
  simp only [chunk,List.getD_cons_succ]
  rw [Ep m n k _ (by omega),List.drop_drop]
  congr 2; rw [Nat.add_mul]; omega

def rowOf (h : Heap) (i m : Nat) (Q : Nat->(Nat->List Value)->List (Nat × List Value)->Prop) : Prop := match h.get i with
 | some ob => match ob.eX with
  | some (.row m' n g wr) => bif Nat.beq m m' then Q n g wr else False
  | _ => False
 | none => False
theorem gZ {h : Heap} {i m : Nat} {Q : Nat->(Nat->List Value)->List (Nat × List Value)->Prop} (hq : rowOf h i m Q) : ∃ ob n g wr,h.get i = some ob/\ob.eX = some (.row m n g wr)/\Q n g wr := by
 unfold rowOf at hq
 split at hq
 ·rename_i ob hi
  split at hq
  ·rename_i m' n g wr hc
   cases hb : Nat.beq m m' with
   | false => rw [hb] at hq; exact hq.elim
   | true =>
    rw [hb] at hq; simp only [aO] at hq
    have := ak hb; subst this
    exact ⟨ob,n,g,wr,hi,hc,hq⟩
  ·exact hq.elim
 ·exact hq.elim

def vNew (h : Heap) (x : AV) (m : Nat) (Q : dB->Prop) : Prop :=
 match x with
 | .sl j o n _ => bif Nat.beq o 0 && Nat.beq (H6 h j) m then rowOf h j m fun N g wr => n<=N/\Q (.many n (fun k => Cs.eff g wr (0 + k))) else (match h.get j with
  | some ob => match ob.eX with
   | some c => match c.sub o (n * m) with
    | some (.av l) => match ou l with
     | some vs => Q (.few (chunk m n vs))
     | none => False
    | some (.raw vs) => Q (.few (chunk m n vs))
    | _ => False
   | none => False
  | none => False)
 | .slE j q m' n _ => bif Nat.beq m m' then rowOf h j m fun N g wr => q + n<=N/\Q (.many n (fun k => Cs.eff g wr (q + k))) else False
 | .slW j q m' n => bif Nat.beq m m' then rowOf h j m fun N g wr => q + n<=N/\Q (.many n (fun k => Cs.eff g wr (q + k))) else False
 | .slR j q m' n => bif Nat.beq m m' then rowOf h j m fun N g wr => q + n<=N/\Q (.many n (fun k => Cs.eff g wr (q + k))) else False
 | .lit (.slice none 0 _) => Q (.few [])
 | .lit (.slice (some _) 0 _) => Q (.few [])
 | .lit (.string s) => bif Nat.beq m 1 then Q (.many s.size (fun k => [.int .u8 (fG s k)])) else False
 | _ => False

def ak2 (P : Program) (h : Heap) (ρ : Ren) (T : Nat->Prop) (m : Nat) (v : Value) (new : dB) : Prop :=
 (∀ w,(Builtin.lenOf v).run P w = .ok new.len w)/\∀ w,Rel h ρ T w->∃ vs : Array Value,(Builtin.firstCells m new.len v).run P w = .ok vs w/\vs.size = new.len * m/\gB ρ (.row m new.len new.el []) vs 0

theorem lI {P : Program} {h : Heap} {ρ : Ren} {T : Nat->Prop} {j q m n c p : Nat} {a : Loc} {ob : bZ} {N : Nat} {g : Nat->List Value} {wr : List (Nat × List Value)} (hm : 0 < m) (hi : h.get j = some ob) (hc : ob.eX = some (.row m N g wr)) (ha : ρ j = some a)
  (hle : q + n<=N) (hp : n ≠ 0->p = a.base + q * m) : ak2 P h ρ T m (.slice (some ⟨a.blk,p,none⟩) n c) (.many n (fun k => Cs.eff g wr (q + k))) := by
 refine ⟨fun w => by simp [Builtin.lenOf,dB.len],fun w hR => ?_⟩
 by_cases hn : n = 0
 ·subst hn
  exact ⟨#[],by simp [Builtin.firstCells,dB.len,loadCells,loadCellsFrom],by simp [dB.len],fun k v hk => by have := Cs.eu hk; simp [Cs.size,dB.len] at this⟩
 ·obtain ⟨vs,h1,h2,h3⟩ := MF (P := P) hR hi hc (afK (n := n) hm hle) ha
  refine ⟨vs,?_,by simpa [Cs.size,dB.len] using h2,h3⟩
  rw [hp hn]
  simpa [Builtin.firstCells,dB.len] using h1
theorem afM {P : Program} {h : Heap} {ρ : Ren} {T : Nat->Prop} {x : AV} {v : Value} {m n : Nat} {d : Cs} {vs : List Value} (hm : 0 < m) (hs : Cb h x n m = some d) (hv : bP ρ x v) (hd : ∀ k,d.get k = (Cs.raw vs).get k) (hsz : d.size = n * m) (hlen : ∀ w,(Builtin.lenOf v).run P w = .ok n w) :
  ak2 P h ρ T m v (.few (chunk m n vs)) := by
 have e : (dB.few (chunk m n vs)).len = n := qZ m n vs
 refine ⟨fun w => by rw [e]; exact hlen w,fun w hR => ?_⟩
 rw [e]
 obtain ⟨us,h1,h2,h3⟩ := iO (P := P) hR hs hv
 refine ⟨us,h1,by rw [h2,hsz],fun k y hk => ?_⟩
 have hlt := Cs.eu hk
 simp only [Cs.size] at hlt
 simp only [Cs.get,bQ.2 hlt,aO,Cs.eff,dB.el] at hk
 have hkn : k / m < n := Nat.div_lt_of_lt_mul (by rw [Nat.mul_comm]; exact hlt)
 rw [Ep m n _ vs hkn,List.getElem?_take,if_pos (Nat.mod_lt _ hm),List.getElem?_drop,Nat.div_add_mod'] at hk
 split at hk
 ·rename_i x hx
  cases hk
  exact h3 k _ (by rw [hd]; simp only [Cs.get,hx])
 ·cases hk
  exact ⟨us[k]'(by rw [h2,hsz]; exact hlt),by rw [ay,Array.getElem?_eq_getElem],by simp [bP]⟩
theorem Es {P : Program} {h : Heap} {ρ : Ren} {T : Nat->Prop} {x : AV} {v : Value} {m : Nat} {Q : dB->Prop} (hm : 0 < m) (hq : vNew h x m Q) (hv : bP ρ x v) : ∃ new,ak2 P h ρ T m v new/\Q new := by
 unfold vNew at hq
 split at hq
 ·rename_i j o n c
  have hv' := hv
  simp only [bP] at hv
  obtain ⟨a,ha,rfl⟩ := hv
  cases hb : (Nat.beq o 0 && Nat.beq (H6 h j) m) with
  | true =>
   rw [hb] at hq; simp only [aO] at hq
   simp only [aI] at hb
   have := ak hb.1; subst this
   obtain ⟨ob,N,g,wr,hi,hc,hle,hq⟩ := gZ hq
   exact ⟨_,lI hm hi hc ha (by omega) (fun _ => by simp),hq⟩
  | false =>
   rw [hb] at hq; simp only [aP] at hq
   split at hq
   ·rename_i ob hi
    split at hq
    ·rename_i c' hc
     have hseg : ∀ d,c'.sub o (n * m) = some d->Cb h (.sl j o n c) n m = some d := fun d hd => by simp [Cb,hi,hc,hd]
     split at hq
     ·rename_i l hsub
      split at hq
      ·rename_i vs hvs
       have := gQ hvs; subst this
       exact ⟨_,afM hm (hseg _ hsub) hv' (fun k => by simp only [Cs.get,List.getElem?_map]; cases vs[k]? <;> rfl) (Cs.nH hsub).2.1 (fun w => by simp [Builtin.lenOf]),hq⟩
      ·exact hq.elim
     ·rename_i vs hsub
      exact ⟨_,afM hm (hseg _ hsub) hv' (fun k => rfl) (Cs.nH hsub).2.1 (fun w => by simp [Builtin.lenOf]),hq⟩
     ·exact hq.elim
    ·exact hq.elim
   ·exact hq.elim
 ·rename_i j q m' n c
  cases hb : Nat.beq m m' with
  | false => rw [hb] at hq; exact hq.elim
  | true =>
   rw [hb] at hq; simp only [aO] at hq
   have := ak hb; subst this
   simp only [bP] at hv
   obtain ⟨a,p,ha,rfl,hnc,hp⟩ := hv
   obtain ⟨ob,N,g,wr,hi,hc,hle,hq⟩ := gZ hq
   exact ⟨_,lI hm hi hc ha hle (fun _ => hp (by omega)),hq⟩
 ·rename_i j q m' n
  cases hb : Nat.beq m m' with
  | false => rw [hb] at hq; exact hq.elim
  | true =>
   rw [hb] at hq; simp only [aO] at hq
   have := ak hb; subst this
   simp only [bP] at hv
   obtain ⟨a,p,c,ha,rfl,hnc,hp⟩ := hv
   obtain ⟨ob,N,g,wr,hi,hc,hle,hq⟩ := gZ hq
   exact ⟨_,lI hm hi hc ha hle (fun _ => (hp (by omega)).1),hq⟩
 ·rename_i j q m' n
  cases hb : Nat.beq m m' with
  | false => rw [hb] at hq; exact hq.elim
  | true =>
   rw [hb] at hq; simp only [aO] at hq
   have := ak hb; subst this
   simp only [bP] at hv
   obtain ⟨ob,N,g,wr,hi,hc,hle,hq⟩ := gZ hq
   rcases hv with ⟨rfl,rfl⟩ | ⟨a,p,c,ha,rfl,hnc,hp⟩
   ·exact ⟨_,⟨fun w => by simp [Builtin.lenOf,dB.len],fun w _ => ⟨#[],by simp [Builtin.firstCells,dB.len],by simp [dB.len],fun k v hk => by have := Cs.eu hk; simp [Cs.size,dB.len] at this⟩⟩,hq⟩
   ·exact ⟨_,lI hm hi hc ha hle hp,hq⟩
 ·simp only [bP] at hv; subst hv
  exact ⟨_,⟨fun w => by simp [Builtin.lenOf,dB.len],fun w _ => ⟨#[],by simp [Builtin.firstCells],by simp [dB.len],fun k v hk => by have := Cs.eu hk; simp [Cs.size,dB.len] at this⟩⟩,hq⟩
 ·simp only [bP] at hv; subst hv
  exact ⟨_,⟨fun w => by simp [Builtin.lenOf,dB.len],fun w _ => ⟨#[],by (show Sem.run P (loadCells _ (0 * m)) w = _; rw [Nat.zero_mul]; rfl),by simp [dB.len],fun k v hk => by have := Cs.eu hk; simp [Cs.size,dB.len] at this⟩⟩,hq⟩
 ·rename_i s
  cases hb : Nat.beq m 1 with
  | false => rw [hb] at hq; exact hq.elim
  | true =>
   rw [hb] at hq; simp only [aO] at hq
   have := ak hb; subst this
   simp only [bP] at hv; subst hv
   refine ⟨_,⟨fun w => by simp [Builtin.lenOf,dB.len],fun w _ => ⟨(s.extract 0 s.size).data.map fun b => .int .u8 b.toNat,by simp only [Builtin.firstCells,Sem.run_pure,dB.len],by simp [dB.len],fun k y hk => ?_⟩⟩,hq⟩
   have hlt := Cs.eu hk
   simp only [Cs.size,dB.len,Nat.mul_one] at hlt
   have hlt2 : Nat.blt k (s.size * 1) = true := bQ.2 (by omega)
   simp only [Cs.get,dB.len,hlt2,aO,Cs.eff,dB.el,Nat.div_one,Nat.mod_one,ah] at hk
   cases hk
   refine ⟨.int .u8 (fG s k),?_,by simp only [bP]⟩
   have hlt3 : k < s.data.size := hlt
   rw [ay,Array.getElem?_map]
   have e : (s.extract 0 s.size).data[k]? = some s.data[k] := by
    rw [ByteArray.extract_zero_size,Array.getElem?_eq_getElem hlt3]
   simp only [e,Option.map_some,fG,List.getD_eq_getElem?_getD,Array.getElem?_toList,Array.getElem?_eq_getElem hlt3,Option.getD_some]
 ·exact hq.elim

def writes : Nat->List (List Value)->List (Nat × List Value)->List (Nat × List Value)
 | _,[],wr => wr
 | k,c :: L,wr => writes (k + 1) L ((k,c) :: wr)
theorem oD {g : Nat->List Value} : ∀ (L : List (List Value)) (k q : Nat) (wr : List (Nat × List Value)),Cs.eff g (writes k L wr) q = if k<=q/\q < k + L.length then L.getD (q - k) [] else Cs.eff g wr q
 | [],k,q,wr => by simp only [writes,List.length_nil]; rw [if_neg (by omega)]
 | c :: L,k,q,wr => by
  simp only [writes,List.length_cons]
  rw [oD L (k + 1) q]
  by_cases h1 : q = k
  ·subst h1
   rw [if_neg (by omega),if_pos (by omega)]
   simp [Cs.eff]
  ·by_cases h2 : k + 1<=q/\q < k + 1 + L.length
   ·rw [if_pos h2,if_pos (by omega),show q - k = (q - (k + 1)) + 1 by omega,List.getD_cons_succ]
   ·rw [if_neg h2,if_neg (by omega)]
    simp [Cs.eff,iV h1]
def nT (m n : Nat) (g : Nat->List Value) (wr : List (Nat × List Value)) (new : dB) : Cs := match new with
 | .few L => .row m (n + L.length) g (writes n L wr)
 | .many k g' => .row m (n + k) (fun q => bif Nat.blt q n then Cs.eff g wr q else g' (q - n)) []
theorem lS {m n : Nat} {g : Nat->List Value} {wr : List (Nat × List Value)} {new : dB} (hm : 0 < m) : (nT m n g wr new).size = n * m + new.len * m/\(∀ k,k < n * m->(nT m n g wr new).get k = (Cs.row m n g wr).get k) /\
  ∀ k,(nT m n g wr new).get (n * m + k) = (Cs.row m new.len new.el []).get k := by
 have key : ∀ (c : Cs) (N : Nat) (f : Nat->List Value) (wr' : List (Nat × List Value)),c = .row m N f wr'->N = n + new.len->(∀ q,q < n->Cs.eff f wr' q = Cs.eff g wr q)->(∀ q,q < new.len->Cs.eff f wr' (n + q) = new.el q) ->
   c.size = n * m + new.len * m/\(∀ k,k < n * m->c.get k = (Cs.row m n g wr).get k)/\∀ k,c.get (n * m + k) = (Cs.row m new.len new.el []).get k := by
  rintro c N f wr' rfl rfl h1 h2
  refine ⟨by simp [Cs.size,Nat.add_mul],fun k hk => ?_,fun k => ?_⟩
  ·have hk2 : k < (n + new.len) * m := by rw [Nat.add_mul]; omega
   have hq : k / m < n := Nat.div_lt_of_lt_mul (by rw [Nat.mul_comm]; exact hk)
   simp only [Cs.get,bQ.2 hk,bQ.2 hk2,aO,h1 _ hq]
  ·have e1 : (n * m + k) / m = n + k / m := by rw [Nat.mul_comm,Nat.mul_add_div hm]
   have e2 : (n * m + k) % m = k % m := by rw [Nat.mul_comm,Nat.mul_add_mod]
   by_cases hk : k < new.len * m
   ·have hk2 : n * m + k < (n + new.len) * m := by rw [Nat.add_mul]; omega
    have hq : k / m < new.len := Nat.div_lt_of_lt_mul (by rw [Nat.mul_comm]; exact hk)
    simp only [Cs.get,bQ.2 hk,bQ.2 hk2,aO,e1,e2,h2 _ hq,Cs.eff]
   ·have hk2 : ¬ n * m + k < (n + new.len) * m := by rw [Nat.add_mul]; omega
    have b1 : Nat.blt k (new.len * m) = false := by cases hb : Nat.blt k (new.len * m); · rfl
                                                    ·exact absurd (bQ.1 hb) hk
    have b2 : Nat.blt (n * m + k) ((n + new.len) * m) = false := by cases hb : Nat.blt (n * m + k) ((n + new.len) * m); · rfl
                                                                    ·exact absurd (bQ.1 hb) hk2
    simp only [Cs.get,b1,b2,aP]
 cases new with
 | few L =>
  refine key _ _ g (writes n L wr) rfl rfl (fun q hq => ?_) (fun q hq => ?_)
  ·rw [oD,if_neg (by omega)]
  ·simp only [dB.len] at hq
   rw [oD,if_pos (by omega),show n + q - n = q by omega]; rfl
 | many k g' =>
  refine key _ _ (fun q => bif Nat.blt q n then Cs.eff g wr q else g' (q - n)) [] rfl rfl (fun q hq => ?_) (fun q hq => ?_)
  ·simp only [Cs.eff,bQ.2 hq,aO]
  ·have : Nat.blt (n + q) n = false := by cases hb : Nat.blt (n + q) n; · rfl
                                          ·have := bQ.1 hb; omega
   simp only [Cs.eff,this,aP,dB.el]; congr 1; omega

def mJ (m N k : Nat) (g : Nat->List Value) (wr : List (Nat × List Value)) (new : dB) : Cs := match new with
 | .few L => .row m N g (writes k L wr)
 | .many n g' => .row m N (fun p => bif Nat.ble k p && Nat.blt p (k + n) then g' (p - k) else Cs.eff g wr p) []
theorem adk {m N k : Nat} {g : Nat->List Value} {wr : List (Nat × List Value)} {new : dB} (hm : 0 < m) (hk : k + new.len<=N) : (mJ m N k g wr new).size = N * m /\
  (∀ p,p < N * m->¬ (k * m<=p/\p < k * m + new.len * m)->(mJ m N k g wr new).get p = (Cs.row m N g wr).get p) /\
  ∀ p,p < new.len * m->(mJ m N k g wr new).get (k * m + p) = (Cs.row m new.len new.el []).get p := by
 have key : ∀ (c : Cs) (f : Nat->List Value) (wr' : List (Nat × List Value)),c = .row m N f wr'->(∀ q,¬ (k<=q/\q < k + new.len)->Cs.eff f wr' q = Cs.eff g wr q)->(∀ q,q < new.len->Cs.eff f wr' (k + q) = new.el q) ->
   c.size = N * m/\(∀ p,p < N * m->¬ (k * m<=p/\p < k * m + new.len * m)->c.get p = (Cs.row m N g wr).get p)/\∀ p,p < new.len * m->c.get (k * m + p) = (Cs.row m new.len new.el []).get p := by
  rintro c f wr' rfl h1 h2
  refine ⟨rfl,fun p hp hn => ?_,fun p hp => ?_⟩
  ·have hq : ¬ (k<=p / m/\p / m < k + new.len) := fun ⟨a,b⟩ => hn ⟨by
     have := Nat.mul_le_mul_right m a
     have := Nat.div_mul_le_self p m
     omega,by
     have h3 : p < (p / m + 1) * m := by rw [Nat.add_mul]; have := Nat.div_add_mod' p m; have := Nat.mod_lt p hm; omega
     have h4 : (p / m + 1) * m<=(k + new.len) * m := Nat.mul_le_mul_right m b
     rw [Nat.add_mul k] at h4; omega⟩
   simp only [Cs.get,bQ.2 hp,aO,h1 _ hq]
  ·have hp2 : k * m + p < N * m := by
    have : (k + new.len) * m<=N * m := Nat.mul_le_mul_right _ hk
    rw [Nat.add_mul] at this; omega
   have e1 : (k * m + p) / m = k + p / m := by rw [Nat.mul_comm,Nat.mul_add_div hm]
   have e2 : (k * m + p) % m = p % m := by rw [Nat.mul_comm,Nat.mul_add_mod]
   have hq : p / m < new.len := Nat.div_lt_of_lt_mul (by rw [Nat.mul_comm]; exact hp)
   simp only [Cs.get,bQ.2 hp,bQ.2 hp2,aO,e1,e2,h2 _ hq,Cs.eff]
 cases new with
 | few L =>
  refine key _ g (writes k L wr) rfl (fun q hq => ?_) (fun q hq => ?_)
  ·simp only [dB.len] at hq; rw [oD,if_neg hq]
  ·simp only [dB.len] at hq
   rw [oD,if_pos (by omega),show k + q - k = q by omega]; rfl
 | many n g' =>
  refine key _ (fun p => bif Nat.ble k p && Nat.blt p (k + n) then g' (p - k) else Cs.eff g wr p) [] rfl (fun q hq => ?_) (fun q hq => ?_)
  ·have : (Nat.ble k q && Nat.blt q (k + n)) = false := by
    cases hb : (Nat.ble k q && Nat.blt q (k + n)) with
    | false => rfl
    | true => simp only [aI,Nat.ble_eq] at hb; exact absurd ⟨hb.1,bQ.1 hb.2⟩ hq
   simp only [Cs.eff,this,aP]
  ·simp only [dB.len] at hq
   have : (Nat.ble k (k + q) && Nat.blt (k + q) (k + n)) = true := by
    simp only [aI,Nat.ble_eq]; exact ⟨by omega,bQ.2 (by omega)⟩
   simp only [Cs.eff,this,aO,dB.el]; congr 1; omega
theorem gG {P : Program} {h : Heap} {ρ : Ren} {T : Nat->Prop} {w : World} (hR : Rel h ρ T w) {i m N k : Nat} {ob : bZ} {g : Nat->List Value} {wr : List (Nat × List Value)} {a : Loc} {cs : List Value} {new : dB} (hm : 0 < m)
  (hi : h.get i = some ob) (hrow : fE ob = true) (hc : ob.eX = some (.row m N g wr)) (ha : ρ i = some a) (hk : k + new.len<=N) (hl : cs.length = new.len * m) (h1 : ∀ u ∈ cs,u.oneCell' = true) (hcs : gB ρ (.row m new.len new.el []) cs.toArray 0) :
  ∃ w',(storeCells ⟨a.blk,a.base + k * m,none⟩ cs).run P w = .ok () w'/\Rel (h.set i (mg ob (mJ m N k g wr new))) ρ T w'/\Keeps T w w' := by
 obtain ⟨q1,q2,q3⟩ := adk (m := m) (N := N) (k := k) (g := g) (wr := wr) (new := new) hm hk
 have hKM : k * m + new.len * m<=N * m := by rw [← Nat.add_mul]; exact Nat.mul_le_mul_right _ hk
 have key : ∀ (arr arr' : Array Value),gB ρ (.row m N g wr) arr 0->N * m<=arr.size->arr'.size = arr.size ->
   (∀ q,arr'[q]? = if k * m<=q/\q < k * m + cs.length then cs[q - k * m]? else arr[q]?)->gB ρ (mJ m N k g wr new) arr' 0 := by
  intro arr arr' hcr hsz hsz' hget q v hv
  have hlt := Cs.eu hv
  rw [q1] at hlt
  rw [ay,hget,hl]
  by_cases hin : k * m<=q/\q < k * m + new.len * m
  ·rw [if_pos hin]
   obtain ⟨p,rfl⟩ : ∃ p,q = k * m + p := ⟨q - k * m,by omega⟩
   rw [q3 p (by omega)] at hv
   obtain ⟨u,hu,hr⟩ := hcs p v hv
   refine ⟨u,?_,hr⟩
   rw [show k * m + p - k * m = p by omega]
   simpa using hu
  ·rw [if_neg hin]
   rw [q2 q hlt hin] at hv
   obtain ⟨u,hu,hr⟩ := hcr q v hv
   exact ⟨u,by simpa using hu,hr⟩
 obtain ⟨S,r1,_⟩ := id hR
 obtain ⟨a',ha',ho⟩ := r1 i _ hi
 obtain rfl : a' = a := Option.some.inj (ha'.symm.trans ha)
 have main : ∀ (e : TypeId) (arr : Array Value),a'.base = 0->w.heap[a'.blk]? = some (.cells arr e (0,0))->N * m<=arr.size->gB ρ (.row m N g wr) arr 0->(∀ S,dS ρ w T a' S ob->S a'.blk) ->
   (∀ S (w' : World) arr',S a'.blk->dS ρ w T a' S ob->w'.heap[a'.blk]? = some (.cells arr' e (0,0))->arr'.size = arr.size->gB ρ (mJ m N k g wr new) arr' 0 ->
    dS ρ w' T a' S (mg ob (mJ m N k g wr new))) ->
   ∃ w',(storeCells ⟨a'.blk,a'.base + k * m,none⟩ cs).run P w = .ok () w'/\Rel (h.set i (mg ob (mJ m N k g wr new))) ρ T w'/\Keeps T w w' := by
  intro e arr h0 hb hsz hcr hown hnew
  obtain ⟨w',arr',hrun,hb',hsz',hw,hne,ho1,ho2,ho3,hget⟩ := iq (P := P) a'.blk cs (a'.base + k * m) 0 w arr hb h1 (by omega)
  have aft : ∀ q,arr'[q]? = if k * m<=q/\q < k * m + cs.length then cs[q - k * m]? else arr[q]? := fun q => by
   rw [hget]; simp only [h0,ay,aH]
  refine ⟨w',hrun,hR.upd hi ha hw hne hown fun S hS hx => hnew S w' arr' hS hx hb' hsz' (key arr arr' hcr hsz hsz' aft),⟨by omega,ho1,ho2,ho3,fun b hb2 => hne b fun hbb => hb2 ?_⟩⟩
  subst hbb
  exact hR.VW hi ha hown
 cases ob with
 | cells e c =>
  simp only [bZ.eX,aj] at hc; subst hc
  obtain ⟨h0,hS,arr,hb,hsz,hlim,hcr⟩ := ho
  refine main e arr h0 hb (by simp only [Cs.size] at hsz; omega) hcr (fun S' h => h.2.1) fun S' w' arr' hS' hx hb' hsz' hc' => ?_
  exact ⟨h0,hS',arr',hb',by rw [hsz',hsz,q1]; rfl,by rw [hlim,q1]; rfl,hc'⟩
 | room e c =>
  simp only [bZ.eX,aj] at hc; subst hc
  obtain ⟨h0,hS,arr,hb,hsz,hle',hcr⟩ := ho
  refine main e arr h0 hb (by simp only [Cs.size] at hle'; omega) hcr (fun S' h => h.2.1) fun S' w' arr' hS' hx hb' hsz' hc' => ?_
  exact ⟨h0,hS',arr',hb',by omega,by rw [q1]; exact hle',hc'⟩
 | _ => simp [fE] at hrow
theorem Jr {ρ : Ren} {m : Nat} {new : dB} {vs : Array Value} (hm : 0 < m) (MG : new.ones m) (Dy : vs.size = new.len * m) (hvc : gB ρ (.row m new.len new.el []) vs 0) : ∀ u ∈ vs.toList,u.oneCell' = true := by
 intro u hu
 obtain ⟨k,hk⟩ := List.mem_iff_getElem?.1 hu
 have hk' : vs[k]? = some u := by simpa using hk
 have hlt : k < new.len * m := by rw [← Dy]; exact (Array.getElem?_eq_some_iff.1 hk').1
 have hkn : k / m < new.len := Nat.div_lt_of_lt_mul (by rw [Nat.mul_comm]; exact hlt)
 have h1 := dB.afL MG (k / m) hkn
 simp only [aI,List.all_eq_true] at h1
 have hl := ak h1.1
 have hmod : k % m < (new.el (k / m)).length := by rw [hl]; exact Nat.mod_lt _ hm
 obtain ⟨y,hy,hr⟩ := hvc k (.lit (new.el (k / m))[k % m]) (by
  simp only [Cs.get,bQ.2 hlt,aO,Cs.eff,List.getElem?_eq_getElem hmod])
 rw [ay,hk'] at hy; cases hy
 simp only [bP] at hr; subst hr
 exact h1.2 _ (List.getElem_mem hmod)

def Et (h : Heap) (i : Nat) : Bool := match h.get i with
 | some ob => fE ob
 | none => false
def setRow (h : Heap) (i : Nat) (c : Cs) : Heap := match h.get i with
 | some ob => h.set i (mg ob c)
 | none => h
def Wh (tt : TT) (t xt : TypeId) (s x : AV) (h : Heap) (Q : AV->Heap->Prop) : Prop :=
 match tt t,tt xt with
 | some ti,some tx => match ti.desc with
  | .slice e => match tt e with
   | some te => bif AQ tx.desc || Nat.beq te.bytes 0 || !Nat.beq te.zero.length te.size || Nat.beq te.size 0 then False else (match s with
    | .lit (.slice none 0 0) => vNew h x te.size fun new => cP (Nat.beq new.len 0) (Q (.lit (.slice none 0 0)) h)
      ((2 * (0 + new.len) + 1000) * te.bytes<=2 ^ 48/\Q (.slW h.next 0 te.size (0 + new.len)) (h.push (.room e (nT te.size 0 (fun _ => []) [] new))))
    | .slE i q m sn c => bif Nat.beq m te.size then (rowOf h i m fun N g wr => q + sn<=N/\vNew h x te.size fun new => cP (Nat.beq new.len 0) (Q (.slE i q m sn c) h)
      (cP (Nat.ble (sn + new.len) c) (new.ones te.size/\q + (sn + new.len)<=N/\(bif Et h i then Q (.slE i q m (sn + new.len) c) (setRow h i (mJ te.size N (q + sn) g wr new)) else False))
      ((2 * (sn + new.len) + 1000) * te.bytes<=2 ^ 48/\Q (.slW h.next 0 te.size (sn + new.len)) (h.push (.room e (nT te.size sn (fun k => Cs.eff g wr (q + k)) [] new)))))) else False
    | .slW i 0 m sn => match h.get i with
     | some (.room e' (.row m' N g wr)) => bif Nat.beq m te.size && Nat.beq m' te.size && Nat.beq e' e then (N = sn/\vNew h x te.size fun new => new.ones te.size/\(2 * (sn + new.len) + 1000) * te.bytes<=2 ^ 48 /\
       Q (.slW h.next 0 te.size (sn + new.len)) ((h.drop i).push (.room e (nT te.size sn g wr new)))) else False
     | _ => False
    | .sl i o 0 0 => vNew h x te.size fun new => cP (Nat.beq new.len 0) (Q (.sl i o 0 0) h)
      ((2 * (0 + new.len) + 1000) * te.bytes<=2 ^ 48/\Q (.slW h.next 0 te.size (0 + new.len)) (h.push (.room e (nT te.size 0 (fun _ => []) [] new))))
    | s => match L6 tt t xt s x h with
     | some (v,h') => Q v h'
     | none => False)
   | none => False
  | _ => False
 | _,_ => False

theorem xM {ρ : Ren} {m n : Nat} {g : Nat->List Value} {wr : List (Nat × List Value)} {new : dB} (hm : 0 < m) {us vs rest : Array Value} (hc : gB ρ (.row m n g wr) us 0) (hd : gB ρ (.row m new.len new.el []) vs 0) (hus : us.size = n * m) (hvs : vs.size = new.len * m) :
  gB ρ (nT m n g wr new) (us ++ vs ++ rest) 0 := by
 obtain ⟨hsz,h1,h2⟩ := lS (m := m) (n := n) (g := g) (wr := wr) (new := new) hm
 intro k v hk
 have hlt := Cs.eu hk
 simp only [ay]
 by_cases hkc : k < n * m
 ·rw [h1 k hkc] at hk
  obtain ⟨u,hu,hr⟩ := hc _ _ hk
  refine ⟨u,?_,hr⟩
  rw [Array.getElem?_append_left (by simp; omega),Array.getElem?_append_left (by omega)]
  simpa using hu
 ·obtain ⟨j,rfl⟩ : ∃ j,k = n * m + j := ⟨k - n * m,by omega⟩
  rw [h2] at hk
  obtain ⟨u,hu,hr⟩ := hd _ _ hk
  have hj := Cs.eu hk
  simp only [Cs.size] at hj
  refine ⟨u,?_,hr⟩
  rw [Array.getElem?_append_left (by simp; omega),Array.getElem?_append_right (by omega)]
  simpa [hus] using hu
def XQ (P : Program) (s : Sem Value) (h : Heap) (ρ : Ren) (T : Nat->Prop) (w : World) (Q : AV->Heap->Prop) : Prop := ∃ v h',XOk P s h ρ T w v h'/\Q v h'

theorem adl {P : Program} {tt : TT} (hT : tt.ok P) {h : Heap} {ρ : Ren} {T : Nat->Prop} {w : World} (hR : Rel h ρ T w) {t xt ty : TypeId} {s x : AV} {u v : Value} {ts : Array TypeId} {us : Array Value} {Q : AV->Heap->Prop}
  (hq : Wh tt t xt s x h Q) (hu : bP ρ s u) (hv : bP ρ x v) (ht0 : ts[0]? = some t) (ht1 : ts[1]? = some xt) (hu0 : us[0]? = some u) (hu1 : us[1]? = some v) : XQ P (Builtin.append_ ts ty us) h ρ T w Q := by
 unfold Wh at hq
 split at hq
 ·rename_i ti tx hti htx
  split at hq
  ·rename_i e hd
   split at hq
   ·rename_i te hte
    cases hbz : (AQ tx.desc || Nat.beq te.bytes 0 || !Nat.beq te.zero.length te.size || Nat.beq te.size 0) with
    | true => rw [hbz] at hq; exact hq.elim
    | false =>
     rw [hbz] at hq; simp only [aP] at hq
     simp only [Bool.or_eq_false_iff,Bool.not_eq_false'] at hbz
     obtain ⟨⟨⟨hxi,hb0⟩,hz⟩,hs0⟩ := hbz
     have hb0 : te.bytes ≠ 0 := fun h0 => by rw [h0] at hb0; cases hb0
     have hm : 0 < te.size := Nat.pos_of_ne_zero fun h0 => by rw [h0] at hs0; cases hs0
     have hz : te.zero.length = te.size := ak hz
     have jX : ∀ w,(underlying t).run P w = .ok (.slice e) w := fun w => by
      obtain ⟨d1,r1,_,m1⟩ := dh (P := P) hT hti w
      rw [bY (m1.trans hd)] at r1; exact r1
     obtain ⟨dx,hdx,hdn⟩ : ∃ dx,(∀ w,(underlying xt).run P w = .ok dx w)/\∀ k,dx ≠ .int k := by
      obtain ⟨d1,_,p1,m1⟩ := dh (P := P) hT htx w
      refine ⟨d1,fun w => by simp [underlying,p1],fun k hk => ?_⟩
      subst hk
      rw [← m1] at hxi; cases hxi
     have hsz := fun w => run_sizeOf (P := P) hT hte w
     split at hq
     ·-- none
      simp only [bP] at hu; subst hu
      obtain ⟨new,⟨hlen,hnew⟩,hq⟩ := Es (P := P) (T := T) hm hq hv
      rcases jR hq with ⟨hn,hq⟩ | ⟨hn,hlim,hq⟩
      ·have hn := ak hn
       obtain ⟨vs,hvs,_⟩ := hnew w hR
       refine ⟨_,_,⟨.slice none 0 0,w,ρ,?_,fun _ _ => rfl,Ren.le_refl _,aX _,hR,by simp only [bP],Keeps.refl _ _⟩,hq⟩
       have := run_append_room (P := P) (w := w) (w' := w) (ty := ty) (base := none) ht0 ht1 hu0 hu1 jX hsz hdx hdn hlen (by omega) hvs rfl
       rw [hn] at this; exact this
      ·have hn : new.len ≠ 0 := fun h0 => by rw [h0] at hn; cases hn
       obtain ⟨vs',hvs',qM,afv⟩ := hnew w.drew hR.drew
       obtain ⟨i,z,newCap,ρ',g1,g2,g3,g4,g5,g6,g7,g8,g9,g10,g11⟩ := jG (P := P) hT hR hte hb0 hz (need := 0 + new.len) (sCap := 0) (by omega) hlim (us := #[]) (vs := vs') (c := nT te.size 0 (fun _ => []) [] new)
        (by simp [qM]) (by rw [(lS hm).1]; simp) (fun rest => xM hm (fun k y hk => by have := Cs.eu hk; simp [Cs.size] at this) afv (by simp) qM)
       refine ⟨_,_,⟨_,_,ρ',run_append_grow ht0 ht1 hu0 hu1 jX hsz hdx hdn hlen g1 (by omega) g3 (by omega) (by rw [g2]; exact g4) g5 (by simp [Builtin.firstCells]) hvs',g7,g8,by simp,g9,?_,g11⟩,hq⟩
       simp only [bP] at g10 ⊢
       obtain ⟨a,c,q1,q2,q3,q4⟩ := g10
       exact ⟨a,_,c,q1,q2,q3,fun _ => ⟨by simp,by omega⟩⟩
     ·-- of elements,its room known
      rename_i i q m sn c
      cases hmb : Nat.beq m te.size with
      | false => rw [hmb] at hq; exact hq.elim
      | true =>
       rw [hmb] at hq; simp only [aO] at hq
       have := ak hmb; subst this
       have hu' := hu
       simp only [bP] at hu
       obtain ⟨a,p,ha,rfl,hnc,hp⟩ := hu
       obtain ⟨ob,N,g,wr,hi,hc,hle,hq⟩ := gZ hq
       obtain ⟨new,⟨hlen,hnew⟩,hq⟩ := Es (P := P) (T := T) hm hq hv
       rcases jR hq with ⟨hn,hq⟩ | ⟨hn,hcap⟩
       ·have hn := ak hn
        obtain ⟨vs,hvs,Dy,_⟩ := hnew w hR
        have an7 : vs = #[] := Array.eq_empty_of_size_eq_zero (by rw [Dy,hn]; simp)
        subst an7
        refine ⟨_,_,⟨_,w,ρ,run_append_room (w' := w) ht0 ht1 hu0 hu1 jX hsz hdx hdn hlen (by omega) hvs (by simp [storeCells]),fun _ _ => rfl,Ren.le_refl _,aX _,hR,?_,Keeps.refl _ _⟩,hq⟩
        rw [hn]; exact hu'
       ·have hn : new.len ≠ 0 := fun h0 => by rw [h0] at hn; cases hn
        rcases jR hcap with ⟨hroom,MG,hin,hq⟩ | ⟨hroom,hlim,hq⟩
        ·have hroom : sn + new.len<=c := by simpa using hroom
         cases how : Et h i with
         | false => rw [how] at hq; exact hq.elim
         | true =>
         rw [how] at hq; simp only [aO] at hq
         have hrow : fE ob = true := by simpa [Et,hi] using how
         have hset : setRow h i (mJ te.size N (q + sn) g wr new) = h.set i (mg ob (mJ te.size N (q + sn) g wr new)) := by simp [setRow,hi]
         rw [hset] at hq
         obtain ⟨vs,hvs,Dy,hvc⟩ := hnew w hR
         have hkN : q + sn + new.len<=N := by omega
         obtain ⟨w',hrun,hR',hk'⟩ := gG (P := P) hR (k := q + sn) (cs := vs.toList) hm hi hrow hc ha hkN (by simpa using Dy) (Jr hm MG Dy hvc) (by simpa using hvc)
         refine ⟨_,_,⟨_,w',ρ,run_append_room (w' := w') ht0 ht1 hu0 hu1 jX hsz hdx hdn hlen hroom hvs ?_,fun _ _ => rfl,Ren.le_refl _,by simp,hR',?_,hk'⟩,hq⟩
         ·simp only [dX]
          rw [hp (by omega),Nat.add_assoc,← Nat.add_mul]; exact hrun
         ·simp only [bP]; exact ⟨a,p,ha,rfl,hroom,hp⟩
        have hcap : c < sn + new.len := by
         cases hb : Nat.ble (sn + new.len) c with
         | true => rw [hb] at hroom; cases hroom
         | false => rcases Nat.lt_or_ge c (sn + new.len) with h' | h'
                    ·exact h'
                    ·have hb2 : Nat.ble (sn + new.len) c = true := by simpa using h'
                     rw [hb2] at hb; cases hb
        obtain ⟨vs',hvs',qM,afv⟩ := hnew w.drew hR.drew
        obtain ⟨_,hold⟩ := lI (P := P) (T := T) (c := c) hm hi hc ha hle (p := p) (fun h => hp (by omega))
        obtain ⟨os,hos,QE,hoc⟩ := hold w.drew hR.drew
        simp only [dB.len,dB.el] at hos QE hoc
        obtain ⟨ii,z,newCap,ρ',g1,g2,g3,g4,g5,g6,g7,g8,g9,g10,g11⟩ := jG (P := P) hT hR hte hb0 hz (need := sn + new.len) (sCap := c) (by omega) hlim (us := os) (vs := vs')
         (c := nT te.size sn (fun k => Cs.eff g wr (q + k)) [] new) (by rw [QE,qM,Nat.add_mul]) (by rw [(lS hm).1,Nat.add_mul]) (fun rest => xM hm hoc afv QE qM)
        refine ⟨_,_,⟨_,_,ρ',run_append_grow ht0 ht1 hu0 hu1 jX hsz hdx hdn hlen g1 (by omega) g3 (by omega) (by rw [g2]; exact g4) g5 hos hvs',g7,g8,by simp,g9,?_,g11⟩,hq⟩
        simp only [bP] at g10 ⊢
        obtain ⟨a,c,q1,q2,q3,q4⟩ := g10
        exact ⟨a,_,c,q1,q2,q3,fun _ => ⟨by simp,by omega⟩⟩
     ·-- of elements,its room not known
      rename_i i m sn
      split at hq
      ·rename_i e' m' N g wr hi
       cases hck : (Nat.beq m te.size && Nat.beq m' te.size && Nat.beq e' e) with
       | false => rw [hck] at hq; exact hq.elim
       | true =>
        rw [hck] at hq; simp only [aO] at hq
        simp only [aI] at hck
        obtain ⟨⟨k1,k2⟩,k3⟩ := hck
        have k1 := ak k1
        have k2 := ak k2
        have k3 := ak k3
        subst k1; subst k3; subst k2
        obtain ⟨rfl,hq⟩ := hq
        obtain ⟨new,⟨hlen,hnew⟩,MG,hlim,hq⟩ := Es (P := P) (T := T) hm hq hv
        simp only [bP] at hu
        obtain ⟨a,p,sc,ha,rfl,hle,hp⟩ := hu
        obtain ⟨S,r1,_⟩ := id hR
        obtain ⟨a',ha',ho⟩ := r1 i _ hi
        obtain rfl : a' = a := Option.some.inj (ha'.symm.trans ha)
        obtain ⟨h0,hS,arr,hb1,Zu,aqJ,hcr⟩ := ho
        obtain ⟨q1,q2,q3⟩ := lS (m := te.size) (n := N) (g := g) (wr := wr) (new := new) hm
        by_cases hroom : N + new.len<=sc
        ·obtain ⟨vs,hvs,Dy,hvc⟩ := hnew w hR
         have hone : ∀ u ∈ vs.toList,u.oneCell' = true := by
          intro u hu
          obtain ⟨k,hk⟩ := List.mem_iff_getElem?.1 hu
          have hk' : vs[k]? = some u := by simpa using hk
          have hlt : k < new.len * te.size := by rw [← Dy]; exact (Array.getElem?_eq_some_iff.1 hk').1
          have hkn : k / te.size < new.len := Nat.div_lt_of_lt_mul (by rw [Nat.mul_comm]; exact hlt)
          have h1 := dB.afL MG (k / te.size) hkn
          simp only [aI,List.all_eq_true] at h1
          have hl := ak h1.1
          have hmod : k % te.size < (new.el (k / te.size)).length := by rw [hl]; exact Nat.mod_lt _ hm
          obtain ⟨y,hy,hr⟩ := hvc k (.lit (new.el (k / te.size))[k % te.size]) (by
           simp only [Cs.get,bQ.2 hlt,aO,Cs.eff,List.getElem?_eq_getElem hmod])
          rw [ay,hk'] at hy; cases hy
          simp only [bP] at hr; subst hr
          exact h1.2 _ (List.getElem_mem hmod)
         obtain ⟨hp1,hp2⟩ : (sc ≠ 0->p = a'.base + 0 * te.size)/\(sc ≠ 0->0 * te.size + sc * te.size<=a'.lim) := ⟨fun h => (hp h).1,fun h => (hp h).2⟩
         have hfit : N * te.size + vs.size<=arr.size := by
          rw [Zu,Dy,← Nat.add_mul]
          rcases Nat.eq_zero_or_pos sc with h00 | h00
          ·have : N + new.len = 0 := by omega
           rw [this]; simp
          ·exact Nat.le_trans (Nat.mul_le_mul_right _ hroom) (by have := hp2 (by omega); omega)
         by_cases hv0 : vs.size = 0
         ·-- nothing is laid down
          have hn0 : new.len = 0 := by
           rw [Dy] at hv0
           rcases Nat.mul_eq_zero.1 hv0 with h' | h'
           ·exact h'
           ·omega
          have an7 : vs = #[] := Array.eq_empty_of_size_eq_zero hv0
          subst an7
          have hR' : Rel (h.set i (.room e' (nT te.size N g wr new))) ρ T w := hR.upd hi ha rfl (fun _ _ => rfl) (fun S h => h.2.1) fun S' hS' hx => ⟨h0,hS',arr,hb1,Zu,by rw [q1,hn0]; simpa [Cs.size] using aqJ,fun k y hk => by
           have hk2 := Cs.eu hk
           rw [q1,hn0] at hk2
           rw [q2 k (by omega)] at hk
           exact hcr k y hk⟩
          obtain ⟨ρ',m1,m2,m3,m4⟩ := hR'.move (i := i) (o := .room e' (nT te.size N g wr new)) (a := a') (by rw [Heap.fF,if_pos rfl]) ha
          refine ⟨_,_,⟨_,w,ρ',run_append_room (w' := w) ht0 ht1 hu0 hu1 jX hsz hdx hdn hlen hroom hvs (by simp [storeCells]),m3,m1,by simp,?_,?_,Keeps.refl _ _⟩,hq⟩
          ·refine m4.less (aX _) fun j x hj => ?_
           rw [Heap.jL] at hj ⊢
           have hnx : ((h.set i (.room e' (nT te.size N g wr new))).drop i).next = (h.drop i).next := by simp
           rw [hnx]
           split at hj
           ·rename_i hjn; rw [if_pos hjn]; exact hj
           ·rename_i hjn
            rw [if_neg hjn,Heap.jw]
            rw [Heap.jw] at hj
            split at hj
            ·cases hj
            ·rename_i hji; rw [if_neg hji,Heap.fF,if_neg hji]; exact hj
          ·simp only [bP]
           exact ⟨a',p,sc,by simpa using m2,by simp,hroom,hp⟩
         ·have hpe : p = a'.base + 0 * te.size := hp1 fun h00 => by
           have : new.len = 0 := by omega
           rw [Dy,this] at hv0; simp at hv0
          obtain ⟨w',arr',hrun,hb',hsz',hw,hne,ho1,ho2,ho3,hget⟩ := iq (P := P) a'.blk vs.toList (p + N * te.size) 0 w arr hb1 hone (by simp; omega)
          have aqD : gB ρ (nT te.size N g wr new) arr' 0 := by
           intro k y hk
           simp only [ay]
           rw [hget]
           simp only [hpe,h0,Nat.zero_mul,ay,aH,Array.length_toList]
           by_cases hkc : k < N * te.size
           ·rw [if_neg (by omega)]
            rw [q2 k hkc] at hk
            simpa using hcr k y hk
           ·obtain ⟨j,rfl⟩ : ∃ j,k = N * te.size + j := ⟨k - N * te.size,by omega⟩
            rw [q3] at hk
            have hj := Cs.eu hk
            simp only [Cs.size] at hj
            rw [if_pos (by omega)]
            obtain ⟨q,hq,hr⟩ := hvc j y hk
            refine ⟨q,?_,hr⟩
            have : N * te.size + j - N * te.size = j := by omega
            rw [this]
            simpa using hq
          have hR' : Rel (h.set i (.room e' (nT te.size N g wr new))) ρ T w' := hR.upd hi ha hw hne (fun S h => h.2.1) fun S' hS' hx => ⟨h0,hS',arr',hb',by omega,by rw [q1]; omega,aqD⟩
          obtain ⟨ρ',m1,m2,m3,m4⟩ := hR'.move (i := i) (o := .room e' (nT te.size N g wr new)) (a := a') (by rw [Heap.fF,if_pos rfl]) ha
          refine ⟨_,_,⟨_,w',ρ',run_append_room (w' := w') ht0 ht1 hu0 hu1 jX hsz hdx hdn hlen hroom hvs ?_,m3,m1,by simp,?_,?_,?_⟩,hq⟩
          ·simp only [dX]; exact hrun
          ·refine m4.less (aX _) fun j x hj => ?_
           rw [Heap.jL] at hj ⊢
           have hnx : ((h.set i (.room e' (nT te.size N g wr new))).drop i).next = (h.drop i).next := by simp
           rw [hnx]
           split at hj
           ·rename_i hjn; rw [if_pos hjn]; exact hj
           ·rename_i hjn
            rw [if_neg hjn,Heap.jw]
            rw [Heap.jw] at hj
            split at hj
            ·cases hj
            ·rename_i hji; rw [if_neg hji,Heap.fF,if_neg hji]; exact hj
          ·simp only [bP]
           exact ⟨a',p,sc,by simpa using m2,by simp,hroom,hp⟩
          ·refine ⟨by omega,ho1,ho2,ho3,fun b hb2 => hne b fun hbb => hb2 ?_⟩
           subst hbb
           exact hR.VW hi ha (fun S h => h.2.1)
        ·obtain ⟨vs',hvs',qM,afv⟩ := hnew w.drew hR.drew
         obtain ⟨_,hold⟩ := lI (P := P) (T := T) (q := 0) (n := N) (p := p) (c := sc) hm hi (by rfl) ha (by omega) (fun h => (hp (by omega)).1)
         obtain ⟨os,hos,QE,hoc⟩ := hold w.drew hR.drew
         simp only [dB.len,dB.el] at hos QE hoc
         have hoc' : gB ρ (.row te.size N g wr) os 0 := fun k y hk => by
          refine hoc k y ?_
          have hk2 := Cs.eu hk
          simp only [Cs.size] at hk2
          simp only [Cs.get,bQ.2 hk2,aO,Cs.eff,ay] at hk ⊢
          exact hk
         obtain ⟨ii,z,newCap,ρ',g1,g2,g3,g4,g5,g6,g7,g8,g9,g10,g11⟩ := jG (P := P) hT hR hte hb0 hz (need := N + new.len) (sCap := sc) (by omega) hlim (us := os) (vs := vs') (c := nT te.size N g wr new)
          (by rw [QE,qM,Nat.add_mul]) (by rw [q1,Nat.add_mul]) (fun rest => xM hm hoc' afv QE qM)
         refine ⟨_,_,⟨_,_,ρ',run_append_grow ht0 ht1 hu0 hu1 jX hsz hdx hdn hlen g1 (by omega) g3 (by omega) (by rw [g2]; exact g4) g5 hos hvs',g7,g8,by simp,?_,?_,g11⟩,hq⟩
         ·refine g9.less (aX _) fun j x hj => ?_
          rw [Heap.jL] at hj ⊢
          have hnx : (h.drop i).next = h.next := by simp
          rw [hnx] at hj
          split at hj
          ·rename_i hjn; rw [if_pos hjn]; exact hj
          ·rename_i hjn
           rw [if_neg hjn]
           rw [Heap.jw] at hj
           split at hj
           ·cases hj
           ·exact hj
         ·simp only [bP] at g10 ⊢
          obtain ⟨a,c,q1,q2,q3,q4⟩ := g10
          exact ⟨a,_,c,q1,q2,q3,fun _ => ⟨by simp,by omega⟩⟩
      ·exact hq.elim
     ·-- of nothing,without room
      rename_i i o
      have hu' := hu
      simp only [bP] at hu; obtain ⟨a0,ha0,rfl⟩ := hu
      obtain ⟨new,⟨hlen,hnew⟩,hq⟩ := Es (P := P) (T := T) hm hq hv
      rcases jR hq with ⟨hn,hq⟩ | ⟨hn,hlim,hq⟩
      ·have hn := ak hn
       obtain ⟨vs,hvs,Dy,_⟩ := hnew w hR
       have an7 : vs = #[] := Array.eq_empty_of_size_eq_zero (by rw [Dy,hn]; simp)
       subst an7
       refine ⟨_,_,⟨_,w,ρ,?_,fun _ _ => rfl,Ren.le_refl _,aX _,hR,hu',Keeps.refl _ _⟩,hq⟩
       have := run_append_room (P := P) (w := w) (w' := w) (ty := ty) (base := some ⟨a0.blk,a0.base + o,none⟩) ht0 ht1 hu0 hu1 jX hsz hdx hdn hlen (by omega) hvs (by simp [storeCells])
       rw [hn] at this; exact this
      ·have hn : new.len ≠ 0 := fun h0 => by rw [h0] at hn; cases hn
       obtain ⟨vs',hvs',qM,afv⟩ := hnew w.drew hR.drew
       obtain ⟨i,z,newCap,ρ',g1,g2,g3,g4,g5,g6,g7,g8,g9,g10,g11⟩ := jG (P := P) hT hR hte hb0 hz (need := 0 + new.len) (sCap := 0) (by omega) hlim (us := #[]) (vs := vs') (c := nT te.size 0 (fun _ => []) [] new)
        (by simp [qM]) (by rw [(lS hm).1]; simp) (fun rest => xM hm (fun k y hk => by have := Cs.eu hk; simp [Cs.size] at this) afv (by simp) qM)
       refine ⟨_,_,⟨_,_,ρ',run_append_grow ht0 ht1 hu0 hu1 jX hsz hdx hdn hlen g1 (by omega) g3 (by omega) (by rw [g2]; exact g4) g5 (by simp [Builtin.firstCells,loadCells,loadCellsFrom]) hvs',g7,g8,by simp,g9,?_,g11⟩,hq⟩
       simp only [bP] at g10 ⊢
       obtain ⟨a,c,q1,q2,q3,q4⟩ := g10
       exact ⟨a,_,c,q1,q2,q3,fun _ => ⟨by simp,by omega⟩⟩
     ·split at hq
      ·rename_i r h' hr
       exact ⟨r,h',Jg hT hR hr hu hv ht0 ht1 hu0 hu1,hq⟩
      ·exact hq.elim
   ·exact hq.elim
  ·exact hq.elim
 ·exact hq.elim
end Go.Proofs.YtenfleoejgjklaaGreat.SE
end
section
namespace Go.Proofs.YtenfleoejgjklaaGreat.SE
open Go

def ak3 : Value->Value->Option Bool
 | .int k a,.int k' b => if k = k' then some (a == b) else none
 | .string a,.string b => some (a == b)
 | _,_ => none
def mM : TD->Value->Bool
 | .int k,.int k' _ => if k' = k then true else false
 | .string,.string _ => true
 | _,_ => false
def aqU : Value->AV
 | .agg cs => .agg (Zr cs.toList)
 | v => .lit v
theorem ZH (ρ : Ren) (z : Value) : bP ρ (aqU z) z := by
 cases z with
 | agg cs => simp only [aqU,bP]; exact ⟨cs,rfl,dZ.lits _⟩
 | _ => simp only [aqU,bP]
def afN (key : Value) : List (AV × AV × Nat)->Nat->(Option (Nat × AV)->Prop)->Prop
 | [],_,Q => Q none
 | (.lit u,v,_) :: r,i,Q => match ak3 key u with
  | some b => cP b (Q (some (i,v))) (afN key r (i + 1) Q)
  | none => False
 | _ :: _,_,_ => False
theorem xO {P : Program} {t : TypeId} {d : TypeDesc} {td : TD} {key : Value} (hd : wO P t d = td) (h : mM td key = true) : MapKept.IsKey d key := by
 cases td <;> cases key <;> simp [mM] at h
 ·rw [iG hd]; trivial
 ·rw [wU hd]; exact h
theorem afO {P : Program} {t : TypeId} {d : TypeDesc} {td : TD} {key u : Value} {b : Bool} (hd : wO P t d = td) (h : mM td key = true) (hs : ak3 key u = some b) : Instr.sameNow d key u = some b/\(b = true->key = u) := by
 cases td <;> cases key <;> simp [mM] at h
 ·cases u <;> simp [ak3] at hs
  rename_i x y
  rw [iG hd]
  refine ⟨by simp [Instr.sameNow,hs],fun hb => ?_⟩
  subst hb
  have : x = y := (MapKept.bytes_beq x y).1 hs
  rw [this]
 ·cases u <;> simp [ak3] at hs
  rename_i k1 a k2 b'
  rw [wU hd]
  refine ⟨by simp [Instr.sameNow,hs],fun hb => ?_⟩
  subst hb
  obtain ⟨h1,h2⟩ := hs
  have h2 : a = b' := by simpa using h2
  rw [h1,h2]
theorem MH {P : Program} {ρ : Ren} {t : TypeId} {d : TypeDesc} {td : TD} {key : Value} {Q : Option (Nat × AV)->Prop} (hd : wO P t d = td) (hk : mM td key = true) : ∀ {es : List (AV × AV × Nat)} {arr : List MapEntry} {i : Nat},jZ ρ es arr->afN key es i Q ->
  (Instr.findNow d key arr i = some none/\Q none) ∨ ∃ j v u e,Instr.findNow d key arr i = some (some (i + j,u))/\bP ρ v u/\Q (some (i + j,v))/\arr[j]? = some e/\e.key = key
 | [],arr,i,hm,hq => by
  simp only [jZ] at hm; subst hm
  exact .inl ⟨rfl,hq⟩
 | (kk,v,b) :: r,arr,i,hm,hq => by
  simp only [jZ] at hm
  obtain ⟨e,arr',rfl,h1,h2,_,h4⟩ := hm
  cases kk <;> simp only [afN] at hq
  rename_i u
  split at hq
  ·rename_i bb hb
   simp only [bP] at h1
   obtain ⟨g1,g2⟩ := afO hd hk hb
   rw [← h1] at g1
   rcases jR hq with ⟨rfl,hq⟩ | ⟨rfl,hq⟩
   ·refine .inr ⟨0,v,e.val,e,?_,h2,hq,rfl,by rw [h1,g2 rfl]⟩
    simp [Instr.findNow,g1]
   ·rcases MH hd hk h4 hq with ⟨q1,q2⟩ | ⟨j,v',u',e',q1,q2,q3,q4,q5⟩
    ·exact .inl ⟨by simp [Instr.findNow,g1,q1],q2⟩
    ·refine .inr ⟨j + 1,v',u',e',?_,q2,by rw [show i + (j + 1) = i + 1 + j by omega]; exact q3,by simpa using q4,q5⟩
     simp [Instr.findNow,g1,q1]; omega
  ·exact hq.elim

theorem jZ.app {ρ : Ren} : ∀ {es : List (AV × AV × Nat)} {arr : List MapEntry} {x : AV × AV × Nat} {e : MapEntry},jZ ρ es arr->bP ρ x.1 e.key->bP ρ x.2.1 e.val->e.born = x.2.2->jZ ρ (es ++ [x]) (arr ++ [e])
 | [],arr,x,e,hm,h1,h2,h3 => by simp only [jZ] at hm; subst hm; exact ⟨e,[],rfl,h1,h2,h3,rfl⟩
 | y :: es,arr,x,e,hm,h1,h2,h3 => by
  simp only [jZ] at hm
  obtain ⟨e0,arr',rfl,g1,g2,g3,g4⟩ := hm
  exact ⟨e0,arr' ++ [e],rfl,g1,g2,g3,g4.app h1 h2 h3⟩
theorem jZ.modify {ρ : Ren} {key val : Value} {v : AV} (hv : bP ρ v val) : ∀ {es : List (AV × AV × Nat)} {arr : List MapEntry} {j : Nat},jZ ρ es arr->jZ ρ (es.modify j fun x => (.lit key,v,x.2.2)) (arr.modify j fun e => { e with key := key,val := val })
 | [],arr,j,hm => by simp only [jZ] at hm; subst hm; simp [jZ]
 | y :: es,arr,0,hm => by
  simp only [jZ] at hm
  obtain ⟨e0,arr',rfl,g1,g2,g3,g4⟩ := hm
  exact ⟨{ e0 with key := key,val := val },arr',rfl,by simp only [bP],hv,g3,g4⟩
 | y :: es,arr,j + 1,hm => by
  simp only [jZ] at hm
  obtain ⟨e0,arr',rfl,g1,g2,g3,g4⟩ := hm
  exact ⟨e0,_,rfl,g1,g2,g3,g4.modify hv⟩
theorem jZ.length {ρ : Ren} : ∀ {es : List (AV × AV × Nat)} {arr : List MapEntry},jZ ρ es arr->arr.length = es.length
 | [],arr,hm => by simp only [jZ] at hm; subst hm; rfl
 | y :: es,arr,hm => by
  simp only [jZ] at hm
  obtain ⟨e0,arr',rfl,g1,g2,g3,g4⟩ := hm
  simp [g4.length]

theorem Rel.afP {h : Heap} {ρ : Ren} {T : Nat->Prop} {w : World} (hR : Rel h ρ T w) {i : Nat} {es : List (AV × AV × Nat)} {clk : Nat} (hi : h.get i = some (.map es clk)) :
  ∃ a arr,ρ i = some a/\w.heap[a.blk]? = some (.map arr clk)/\jZ ρ es arr.toList/\T a.blk := by
 obtain ⟨S,h1,h2,h3,h4,h5⟩ := hR
 obtain ⟨a,ha,hS,arr,hb,hm⟩ := h1 i _ hi
 exact ⟨a,arr,ha,hb,hm,(h3 i _ _ hi hS).1⟩
theorem Rel.anm {h : Heap} {ρ : Ren} {T : Nat->Prop} {w : World} (hR : Rel h ρ T w) {i : Nat} {es es' : List (AV × AV × Nat)} {clk aqt : Nat} {a : Loc} {arr arr' : Array MapEntry} (hi : h.get i = some (.map es clk)) (ha : ρ i = some a)
  (hb : w.heap[a.blk]? = some (.map arr clk)) (hT : T a.blk) (hm : jZ ρ es' arr'.toList) : Rel (h.set i (.map es' aqt)) ρ T { w with heap := w.heap.setIfInBounds a.blk (.map arr' aqt) }/\Keeps T w { w with heap := w.heap.setIfInBounds a.blk (.map arr' aqt) } := by
 have hne : ∀ b,b ≠ a.blk->(w.heap.setIfInBounds a.blk (.map arr' aqt))[b]? = w.heap[b]? := fun b hb => by
  rw [Array.getElem?_setIfInBounds]; rw [if_neg (Ne.symm hb)]
 have hlt : a.blk < w.heap.size := (Array.getElem?_eq_some_iff.1 hb).1
 refine ⟨hR.upd (o := .map es clk) hi ha (by simp) hne (fun S hS => hS.1) (fun S hS _ => ⟨hS,arr',?_,hm⟩),by simp,rfl,rfl,rfl,fun b hb => hne b fun h => hb (h ▸ hT)⟩
 show (w.heap.setIfInBounds a.blk _)[a.blk]? = _
 simp [hlt]

def DJ (tt : TT) (t : TypeId) (hint : Bool) (h : Heap) (Q : AV->Heap->Prop) : Prop := bif hint then False else
 match tt t with
 | some ti => match ti.desc with
  | .map _ _ => Q (.mp h.next) (h.push (.map [] 0))
  | _ => False
 | none => False
theorem Wi {P : Program} {tt : TT} {h : Heap} {ρ : Ren} {T : Nat->Prop} {w : World} (hR : Rel h ρ T w) {t : TypeId} {o : Option Value} {Q : AV->Heap->Prop} (hq : DJ tt t o.isSome h Q) : XQ P (Instr.makeMap t o) h ρ T w Q := by
 cases o with
 | some x => simp [DJ] at hq
 | none =>
  simp only [DJ,Option.isSome_none,aP] at hq
  split at hq
  ·split at hq
   ·obtain ⟨ρ',h1,h2,h3,h4⟩ := hR.push (o := .map [] 0) (ob := .map #[] 0) 0 ⟨rfl,#[],by show (w.heap.push _)[w.heap.size]? = _; simp,rfl⟩
    obtain ⟨_,_,_,_,_,h5⟩ := hR
    refine ⟨_,_,⟨.map (some w.heap.size),w.alloc (.map #[] 0),ρ',?_,h3,h1,by simp,h4,by simp only [bP]; exact ⟨_,h2,rfl⟩,Keeps.alloc _ h5⟩,hq⟩
    rfl
   ·exact hq.elim
  ·exact hq.elim
def ak4 (tt : TT) (t : TypeId) : Option (TI × TI) := match tt t with
 | some ti => match ti.desc with
  | .map kt et => match tt kt,tt et with
   | some tk,some te => some (tk,te)
   | _,_ => none
  | _ => none
 | none => none
theorem ZI {P : Program} {tt : TT} (hT : tt.ok P) {t : TypeId} {tk te : TI} (h : ak4 tt t = some (tk,te)) : ∃ kt et d,P.underlying t = some (.map kt et)/\P.underlying kt = some d/\wO P kt d = tk.desc/\tt et = some te := by
 unfold ak4 at h
 split at h
 ·rename_i ti hti
  split at h
  ·rename_i kt et hd
   split at h
   ·rename_i tk' te' h1 h2
    cases h
    obtain ⟨_,d,_,_,hu,_,_,_,_,hm⟩ := hT.info hti
    obtain ⟨_,d2,_,_,hu2,_,_,_,_,hm2⟩ := hT.info h1
    rw [hd] at hm
    rw [ug hm] at hu
    exact ⟨kt,et,d2,hu,hu2,hm2,h2⟩
   ·cases h
  ·cases h
 ·cases h
def MI (tt : TT) (t : TypeId) (m k v : AV) (h : Heap) (Q : Heap->Prop) : Prop :=
 match ak4 tt t,m,k with
 | some (tk,_),.mp i,.lit key => match h.get i with
  | some (.map es clk) => bif mM tk.desc key then afN key es 0 fun
    | none => Q (h.set i (.map (es ++ [(.lit key,v,clk)]) (clk + 1)))
    | some (j,_) => Q (h.set i (.map (es.modify j fun x => (.lit key,v,x.2.2)) clk)) else False
  | _ => False
 | _,_,_ => False
theorem MJ {P : Program} {t : TypeId} {d : TypeDesc} {td : TD} {key : Value} (hd : wO P t d = td) (h : mM td key = true) : Instr.sameBits 10000 key key = true := by
 cases td <;> cases key <;> simp [mM] at h <;> simp [Instr.sameBits,MapKept.bytes_beq]
theorem xP {P : Program} {t : TypeId} {d : TypeDesc} (h : P.underlying t = some d) (w : World) : (underlying t).run P w = .ok d w := by simp [underlying,h]
theorem Js {P : Program} {tt : TT} (hT : tt.ok P) {h : Heap} {ρ : Ren} {T : Nat->Prop} {w : World} (hR : Rel h ρ T w) {t : TypeId} {m k v : AV} {um uk uv : Value} {Q : Heap->Prop} (hq : MI tt t m k v h Q)
  (hm : bP ρ m um) (hk : bP ρ k uk) (hv : bP ρ v uv) : ∃ w' h',(Instr.mapUpdate t um uk uv).run P w = .ok () w'/\Rel h' ρ T w'/\h'.next = h.next/\Keeps T w w'/\Q h' := by
 unfold MI at hq
 split at hq
 ·rename_i tk te i key hty
  obtain ⟨kt,et,d,h1,h2,h3,h4⟩ := ZI hT hty
  simp only [bP] at hk; subst hk
  simp only [bP] at hm
  obtain ⟨a0,ha0,rfl⟩ := hm
  split at hq
  ·rename_i es clk hi
   cases hkf : mM tk.desc uk with
   | false => rw [hkf] at hq; exact hq.elim
   | true =>
    rw [hkf] at hq; simp only [aO] at hq
    obtain ⟨a,arr,ha,hb,hmr,hTa⟩ := hR.afP hi
    obtain rfl : a = a0 := Option.some.inj (ha.symm.trans ha0)
    have hck := MapKept.run_checkKey (w := w) h2 (xO h3 hkf) false 9999
    rcases MH h3 hkf hmr hq with ⟨q1,q2⟩ | ⟨j,v',u,e,q1,q2,q3,q4,q5⟩
    ·obtain ⟨r1,r2⟩ := hR.anm (es' := es ++ [(.lit uk,v,clk)]) (aqt := clk + 1) (arr' := arr.push { key := uk,val := uv,born := clk }) hi ha hb hTa (by
      rw [Array.toList_push]; exact hmr.app (by simp only [bP]) hv rfl)
     refine ⟨_,_,?_,r1,by simp,r2,q2⟩
     simp [Instr.mapUpdate,xP h1,MapKept.run_getObj_map hb,hck,MapKept.run_findKey h2 q1,MapKept.run_setObj_map _ hb]
    ·rw [ay] at q1 q3
     obtain ⟨r1,r2⟩ := hR.anm (es' := es.modify j fun x => (.lit uk,v,x.2.2)) (aqt := clk) (arr' := arr.modify j fun e => { e with key := uk,val := uv }) hi ha hb hTa (by
      rw [Array.toList_modify]; exact hmr.modify hv)
     refine ⟨_,_,?_,r1,by simp,r2,q3⟩
     have hj : arr[j]? = some e := by rw [← Array.getElem?_toList]; exact q4
     simp [Instr.mapUpdate,xP h1,MapKept.run_getObj_map hb,hck,MapKept.run_findKey h2 q1,MapKept.run_setObj_map _ hb,hj,q5,Instr.keyThatStays,MJ h3 hkf]
  ·exact hq.elim
 ·exact hq.elim
def okV (ok : Bool) (v : AV) (b : Bool) : AV := bif ok then .tup [v,.lit (.bool b)] else v
def Wj (tt : TT) (t : TypeId) (x k : AV) (ok : Bool) (h : Heap) (Q : AV->Prop) : Prop :=
 match ak4 tt t,k with
 | some (tk,te),.lit key => bif mM tk.desc key then (match x with
  | .lit (.map none) => Q (okV ok (aqU te.zv) false)
  | .mp i => match h.get i with
   | some (.map es _) => afN key es 0 fun
    | none => Q (okV ok (aqU te.zv) false)
    | some (_,v) => Q (okV ok v true)
   | _ => False
  | _ => False) else False
 | _,_ => False
theorem Wn {ρ : Ren} {ok b : Bool} {v : AV} {u : Value} (h : bP ρ v u) : bP ρ (okV ok v b) (if ok then .tuple #[u,.bool b] else u) := by
 cases ok with
 | false => exact h
 | true =>
  simp only [okV,aO,if_true,bP]
  exact ⟨_,rfl,.cons h (.cons (by simp only [bP]) .nil)⟩
theorem adn {P : Program} {tt : TT} (hT : tt.ok P) {h : Heap} {ρ : Ren} {T : Nat->Prop} {w : World} (hR : Rel h ρ T w) {t : TypeId} {x k : AV} {ok : Bool} {ux uk : Value} {Q : AV->Prop} (hq : Wj tt t x k ok h Q)
  (hx : bP ρ x ux) (hk : bP ρ k uk) : ∃ v,ROk P (Instr.lookup t ux uk ok) ρ w v/\Q v := by
 unfold Wj at hq
 split at hq
 ·rename_i tk te key hty
  obtain ⟨kt,et,d,h1,h2,h3,h4⟩ := ZI hT hty
  simp only [bP] at hk; subst hk
  cases hkf : mM tk.desc uk with
  | false => rw [hkf] at hq; exact hq.elim
  | true =>
   rw [hkf] at hq; simp only [aO] at hq
   have hck := fun b => MapKept.run_checkKey (w := w) h2 (xO h3 hkf) b 9999
   have hz := afg (P := P) hT h4 w
   split at hq
   ·simp only [bP] at hx; subst hx
    have hf : Instr.findNow d uk [] 0 = some none := rfl
    refine ⟨_,⟨_,?_,Wn (ZH ρ te.zv)⟩,hq⟩
    simp [Instr.lookup,xP h1,hck,MapKept.run_findKey h2 hf,hz]
   ·rename_i i
    simp only [bP] at hx
    obtain ⟨a0,ha0,rfl⟩ := hx
    split at hq
    ·rename_i es clk hi
     obtain ⟨a,arr,ha,hb,hmr,hTa⟩ := hR.afP hi
     obtain rfl : a = a0 := Option.some.inj (ha.symm.trans ha0)
     rcases MH h3 hkf hmr hq with ⟨q1,q2⟩ | ⟨j,v',u,e,q1,q2,q3,q4,q5⟩
     ·refine ⟨_,⟨_,?_,Wn (ZH ρ te.zv)⟩,q2⟩
      simp [Instr.lookup,xP h1,MapKept.run_getObj_map hb,hck,MapKept.run_findKey h2 q1,hz]
     ·refine ⟨_,⟨_,?_,Wn q2⟩,q3⟩
      simp [Instr.lookup,xP h1,MapKept.run_getObj_map hb,hck,MapKept.run_findKey h2 q1]
    ·exact hq.elim
   ·exact hq.elim
 ·exact hq.elim
end Go.Proofs.YtenfleoejgjklaaGreat.SE
end
