import Derived.Test.YtpnhfbegboogbaaGreatQa
import Derived.WalkKit
import Derived.ProofKit
import Derived.OpenShut
import Derived.Below
import Derived.Carry
import Derived.MapKept
set_option linter.unusedVariables false
set_option linter.unusedSimpArgs false
set_option linter.unnecessarySimpa false
section
namespace Go.Proofs.YtpnhfbegboogbaaGreat.SE
open Go

mutual
def vmap (τ : Nat->Nat) : AV->AV
 | .any => .any
 | .lit v => .lit v
 | .ptr i o => .ptr (τ i) o
 | .sl i o n c => .sl (τ i) o n c
 | .slU i o n s => .slU (τ i) o n s
 | .ptrE i k m j => .ptrE (τ i) k m j
 | .slE i k m n c => .slE (τ i) k m n c
 | .slW i k m n => .slW (τ i) k m n
 | .slR i k m n => .slR (τ i) k m n
 | .slZ z i k m n => .slZ z (τ i) k m n
 | .one => .one
 | .arr n g => .arr n g
 | .mp i => .mp (τ i)
 | .fn f a b => .fn f (lmap τ a) (lmap τ b)
 | .agg l => .agg (lmap τ l)
 | .tup l => .tup (lmap τ l)
 | .ifc t v => .ifc t (vmap τ v)
def lmap (τ : Nat->Nat) : List AV->List AV
 | [] => []
 | a :: l => vmap τ a :: lmap τ l
end
mutual
def vbelow (n : Nat) : AV->Bool
 | .any => true
 | .lit _ => true
 | .ptr i _ => Nat.blt i n
 | .sl i _ _ _ => Nat.blt i n
 | .slU i _ _ _ => Nat.blt i n
 | .ptrE i _ _ _ => Nat.blt i n
 | .slE i _ _ _ _ => Nat.blt i n
 | .slW i _ _ _ => Nat.blt i n
 | .slR i _ _ _ => Nat.blt i n
 | .slZ _ i _ _ _ => Nat.blt i n
 | .one => true
 | .arr .. => true
 | .mp i => Nat.blt i n
 | .fn _ a b => lbelow n a && lbelow n b
 | .agg l => lbelow n l
 | .tup l => lbelow n l
 | .ifc _ v => vbelow n v
def lbelow (n : Nat) : List AV->Bool
 | [] => true
 | a :: l => vbelow n a && lbelow n l
end
theorem lmap_eq (τ : Nat->Nat) : ∀ l,lmap τ l = l.map (vmap τ)
 | [] => rfl
 | a :: l => by simp [lmap,lmap_eq τ l]
theorem lbelow_get {n : Nat} : ∀ {l : List AV} {k : Nat} {a : AV},lbelow n l = true->l[k]? = some a->vbelow n a = true
 | [],k,a,_,h => by simp at h
 | b :: l,0,a,hb,h => by simp at h; subst h; simp only [lbelow,Bool.and_eq_true] at hb; exact hb.1
 | b :: l,k + 1,a,hb,h => by simp only [lbelow,Bool.and_eq_true] at hb; exact lbelow_get hb.2 (by simpa using h)

mutual
theorem VRel.vmap {τ : Nat->Nat} {ρ ρ' : Ren} (h : ∀ i a,ρ i = some a->ρ' (τ i) = some a) : ∀ (v : AV) (u : Value),VRel ρ v u->VRel ρ' (vmap τ v) u
 | .any,_,_ => by simp [VRel,SE.vmap]
 | .lit x,_,hv => by simpa [VRel,SE.vmap] using hv
 | .ptr i o,u,hv => by simp only [VRel,SE.vmap] at hv ⊢; obtain ⟨a,ha,hv⟩ := hv; exact ⟨a,h _ _ ha,hv⟩
 | .sl i o n c,u,hv => by simp only [VRel,SE.vmap] at hv ⊢; obtain ⟨a,ha,hv⟩ := hv; exact ⟨a,h _ _ ha,hv⟩
 | .slU i o n s,u,hv => by simp only [VRel,SE.vmap] at hv ⊢; obtain ⟨a,c,ha,hv⟩ := hv; exact ⟨a,c,h _ _ ha,hv⟩
 | .ptrE i k m j,u,hv => by simp only [VRel,SE.vmap] at hv ⊢; obtain ⟨a,ha,hv⟩ := hv; exact ⟨a,h _ _ ha,hv⟩
 | .slE i k m n c,u,hv => by simp only [VRel,SE.vmap] at hv ⊢; obtain ⟨a,p,ha,hv⟩ := hv; exact ⟨a,p,h _ _ ha,hv⟩
 | .slW i k m n,u,hv => by simp only [VRel,SE.vmap] at hv ⊢; obtain ⟨a,p,c,ha,hv⟩ := hv; exact ⟨a,p,c,h _ _ ha,hv⟩
 | .slR i k m n,u,hv => by simp only [VRel,SE.vmap] at hv ⊢; exact hv.imp id fun ⟨a,p,c,ha,hv⟩ => ⟨a,p,c,h _ _ ha,hv⟩
 | .slZ z i k m n,u,hv => by simp only [VRel,SE.vmap] at hv ⊢; exact hv.imp id fun ⟨hz,a,p,c,ha,hv⟩ => ⟨hz,a,p,c,h _ _ ha,hv⟩
 | .one,u,hv => by simpa only [VRel,SE.vmap] using hv
 | .arr ..,u,hv => by simpa only [VRel,SE.vmap] using hv
 | .mp i,u,hv => by simp only [VRel,SE.vmap] at hv ⊢; obtain ⟨a,ha,hv⟩ := hv; exact ⟨a,h _ _ ha,hv⟩
 | .fn f a b,u,hv => by simp only [VRel,SE.vmap] at hv ⊢; obtain ⟨x,y,hv,h1,h2⟩ := hv; exact ⟨x,y,hv,LRel.lmap h _ _ h1,LRel.lmap h _ _ h2⟩
 | .agg l,u,hv => by simp only [VRel,SE.vmap] at hv ⊢; obtain ⟨x,hv,h1⟩ := hv; exact ⟨x,hv,LRel.lmap h _ _ h1⟩
 | .tup l,u,hv => by simp only [VRel,SE.vmap] at hv ⊢; obtain ⟨x,hv,h1⟩ := hv; exact ⟨x,hv,LRel.lmap h _ _ h1⟩
 | .ifc t v,u,hv => by simp only [VRel,SE.vmap] at hv ⊢; obtain ⟨x,hv,h1⟩ := hv; exact ⟨x,hv,VRel.vmap h _ _ h1⟩
theorem LRel.lmap {τ : Nat->Nat} {ρ ρ' : Ren} (h : ∀ i a,ρ i = some a->ρ' (τ i) = some a) : ∀ (l : List AV) (u : List Value),LRel ρ l u->LRel ρ' (lmap τ l) u
 | [],_,hv => by simpa [LRel,SE.lmap] using hv
 | a :: l,_,hv => by simp only [LRel,SE.lmap] at hv ⊢; obtain ⟨v,vs,rfl,h1,h2⟩ := hv; exact ⟨v,vs,rfl,VRel.vmap h _ _ h1,LRel.lmap h _ _ h2⟩
end
mutual
theorem VRel.vback {τ : Nat->Nat} {ρ ρ' : Ren} {n : Nat} (h : ∀ i,i < n->ρ i = ρ' (τ i)) : ∀ (v : AV) (u : Value),vbelow n v = true->VRel ρ' (vmap τ v) u->VRel ρ v u
 | .any,_,_,_ => by simp [VRel]
 | .lit x,_,_,hv => by simpa [VRel,SE.vmap] using hv
 | .ptr i o,u,hb,hv => by simp only [VRel,SE.vmap,vbelow] at hb hv ⊢; obtain ⟨a,ha,hv⟩ := hv; exact ⟨a,by rw [h i (nblt_iff.1 hb)]; exact ha,hv⟩
 | .sl i o n c,u,hb,hv => by simp only [VRel,SE.vmap,vbelow] at hb hv ⊢; obtain ⟨a,ha,hv⟩ := hv; exact ⟨a,by rw [h i (nblt_iff.1 hb)]; exact ha,hv⟩
 | .slU i o n s,u,hb,hv => by simp only [VRel,SE.vmap,vbelow] at hb hv ⊢; obtain ⟨a,c,ha,hv⟩ := hv; exact ⟨a,c,by rw [h i (nblt_iff.1 hb)]; exact ha,hv⟩
 | .ptrE i k m j,u,hb,hv => by simp only [VRel,SE.vmap,vbelow] at hb hv ⊢; obtain ⟨a,ha,hv⟩ := hv; exact ⟨a,by rw [h i (nblt_iff.1 hb)]; exact ha,hv⟩
 | .slE i k m n c,u,hb,hv => by simp only [VRel,SE.vmap,vbelow] at hb hv ⊢; obtain ⟨a,p,ha,hv⟩ := hv; exact ⟨a,p,by rw [h i (nblt_iff.1 hb)]; exact ha,hv⟩
 | .slW i k m n,u,hb,hv => by simp only [VRel,SE.vmap,vbelow] at hb hv ⊢; obtain ⟨a,p,c,ha,hv⟩ := hv; exact ⟨a,p,c,by rw [h i (nblt_iff.1 hb)]; exact ha,hv⟩
 | .slR i k m n,u,hb,hv => by simp only [VRel,SE.vmap,vbelow] at hb hv ⊢; exact hv.imp id fun ⟨a,p,c,ha,hv⟩ => ⟨a,p,c,by rw [h i (nblt_iff.1 hb)]; exact ha,hv⟩
 | .slZ z i k m n,u,hb,hv => by simp only [VRel,SE.vmap,vbelow] at hb hv ⊢; exact hv.imp id fun ⟨hz,a,p,c,ha,hv⟩ => ⟨hz,a,p,c,by rw [h i (nblt_iff.1 hb)]; exact ha,hv⟩
 | .one,u,hb,hv => by simpa only [VRel,SE.vmap] using hv
 | .arr ..,u,hb,hv => by simpa only [VRel,SE.vmap] using hv
 | .mp i,u,hb,hv => by simp only [VRel,SE.vmap,vbelow] at hb hv ⊢; obtain ⟨a,ha,hv⟩ := hv; exact ⟨a,by rw [h i (nblt_iff.1 hb)]; exact ha,hv⟩
 | .fn f a b,u,hb,hv => by simp only [VRel,SE.vmap,vbelow,Bool.and_eq_true] at hb hv ⊢; obtain ⟨x,y,hv,h1,h2⟩ := hv; exact ⟨x,y,hv,LRel.lback h _ _ hb.1 h1,LRel.lback h _ _ hb.2 h2⟩
 | .agg l,u,hb,hv => by simp only [VRel,SE.vmap,vbelow] at hb hv ⊢; obtain ⟨x,hv,h1⟩ := hv; exact ⟨x,hv,LRel.lback h _ _ hb h1⟩
 | .tup l,u,hb,hv => by simp only [VRel,SE.vmap,vbelow] at hb hv ⊢; obtain ⟨x,hv,h1⟩ := hv; exact ⟨x,hv,LRel.lback h _ _ hb h1⟩
 | .ifc t v,u,hb,hv => by simp only [VRel,SE.vmap,vbelow] at hb hv ⊢; obtain ⟨x,hv,h1⟩ := hv; exact ⟨x,hv,VRel.vback h _ _ hb h1⟩
theorem LRel.lback {τ : Nat->Nat} {ρ ρ' : Ren} {n : Nat} (h : ∀ i,i < n->ρ i = ρ' (τ i)) : ∀ (l : List AV) (u : List Value),lbelow n l = true->LRel ρ' (lmap τ l) u->LRel ρ l u
 | [],_,_,hv => by simpa [LRel,SE.lmap] using hv
 | a :: l,_,hb,hv => by simp only [LRel,SE.lmap,lbelow,Bool.and_eq_true] at hb hv ⊢; obtain ⟨v,vs,rfl,h1,h2⟩ := hv; exact ⟨v,vs,rfl,VRel.vback h _ _ hb.1 h1,LRel.lback h _ _ hb.2 h2⟩
end

def PM.map {α β : Type} (f : α->β) : PM α->PM β
 | .leaf => .leaf
 | .node l v r => .node (l.map f) (match v with | some x => some (f x) | none => none) (r.map f)
theorem PM.get_map {α β : Type} (f : α->β) : ∀ (t : PM α) (n : Nat),(t.map f).get n = match t.get n with | some x => some (f x) | none => none
 | .leaf,n => rfl
 | .node l v r,n => by
  simp only [PM.map,PM.get]
  cases Nat.beq n 0 with
  | true => rfl
  | false =>
   cases Nat.beq (n % 2) 1 with
   | true => exact PM.get_map f l _
   | false => exact PM.get_map f r _
def PM.all {α : Type} (f : α->Bool) : PM α->Bool
 | .leaf => true
 | .node l v r => l.all f && (match v with | some x => f x | none => true) && r.all f
theorem PM.all_get {α : Type} {f : α->Bool} : ∀ {t : PM α} {n : Nat} {x : α},t.all f = true->t.get n = some x->f x = true
 | .leaf,n,x,_,h => by cases h
 | .node l v r,n,x,ha,h => by
  simp only [PM.all,Bool.and_eq_true] at ha
  simp only [PM.get] at h
  cases hb : Nat.beq n 0 with
  | true => rw [hb] at h; simp only [cond_true] at h; subst h; exact ha.1.2
  | false =>
   rw [hb] at h; simp only [cond_false] at h
   cases hc : Nat.beq (n % 2) 1 with
   | true => rw [hc] at h; exact PM.all_get ha.1.1 h
   | false => rw [hc] at h; exact PM.all_get ha.2 h

def cmap (τ : Nat->Nat) : Cs->Cs
 | .av l => .av (lmap τ l)
 | .raw l => .raw l
 | .tr n z t => .tr n (lmap τ z) (t.map (vmap τ))
 | .row m n g wr => .row m n g wr
 | .cat a b => .cat (cmap τ a) (cmap τ b)
def cbelow (n : Nat) : Cs->Bool
 | .av l => lbelow n l
 | .raw _ => true
 | .tr _ z t => lbelow n z && t.all (vbelow n)
 | .row .. => true
 | .cat a b => cbelow n a && cbelow n b
theorem cmap_size (τ : Nat->Nat) (c : Cs) : (cmap τ c).size = c.size := by
 induction c <;> simp_all [cmap,Cs.size,lmap_eq]
theorem cmap_get (τ : Nat->Nat) (c : Cs) (k : Nat) : (cmap τ c).get k = match c.get k with | some v => some (vmap τ v) | none => none := by
 induction c generalizing k with
 | av l => simp only [cmap,Cs.get,lmap_eq,List.getElem?_map]; cases l[k]? <;> rfl
 | raw l => simp only [cmap,Cs.get]; cases l[k]? <;> simp [vmap]
 | tr n z t =>
  simp only [cmap,Cs.get,PM.get_map,lmap_eq,List.length_map,List.getElem?_map]
  cases Nat.blt k n with
  | false => rfl
  | true => simp only [cond_true]; cases t.get k with
   | some v => rfl
   | none => cases z[k % z.length]? <;> rfl
 | row m n g wr =>
  simp only [cmap,Cs.get]
  cases Nat.blt k (n * m) with
  | false => rfl
  | true => simp only [cond_true]; cases (Cs.eff g wr (k / m))[k % m]? <;> simp [vmap]
 | cat x y ihx ihy =>
  simp only [cmap,Cs.get,cmap_size]
  cases Nat.blt k x.size with
  | true => exact ihx k
  | false => exact ihy _
theorem cbelow_get {n : Nat} {c : Cs} {k : Nat} {v : AV} (h : cbelow n c = true) (hg : c.get k = some v) : vbelow n v = true := by
 induction c generalizing k v with
 | av l => exact lbelow_get h hg
 | raw l =>
  simp only [Cs.get] at hg
  split at hg
  ·cases hg; rfl
  ·cases hg
 | tr m z t =>
  simp only [cbelow,Bool.and_eq_true] at h
  simp only [Cs.get] at hg
  cases hb : Nat.blt k m with
  | false => rw [hb] at hg; simp at hg
  | true =>
   rw [hb] at hg; simp only [cond_true] at hg
   split at hg
   ·rename_i x hx; cases hg; exact PM.all_get h.2 hx
   ·exact lbelow_get h.1 hg
 | row m n' g wr =>
  simp only [Cs.get] at hg
  cases hb : Nat.blt k (n' * m) with
  | false => rw [hb] at hg; simp at hg
  | true =>
   rw [hb] at hg; simp only [cond_true] at hg
   split at hg
   ·cases hg; rfl
   ·cases hg; rfl
 | cat x y ihx ihy =>
  simp only [cbelow,Bool.and_eq_true] at h
  simp only [Cs.get] at hg
  cases hb : Nat.blt k x.size with
  | true => rw [hb] at hg; exact ihx h.1 hg
  | false => rw [hb] at hg; exact ihy h.2 hg

def omap (τ : Nat->Nat) : AObj->AObj
 | .cells e c => .cells e (cmap τ c)
 | .room e c => .room e (cmap τ c)
 | .ro c => .ro (cmap τ c)
 | .map es k => .map (es.map fun x => (vmap τ x.1,vmap τ x.2.1,x.2.2)) k
 | .abs A => .abs A
 | .iter m since seen st => .iter (m.map τ) since seen st
def obelow (n : Nat) : AObj->Bool
 | .cells _ c => cbelow n c
 | .room _ c => cbelow n c
 | .ro c => cbelow n c
 | .map es _ => es.all fun x => vbelow n x.1 && vbelow n x.2.1
 | .abs _ => true
 | .iter m _ _ _ => match m with
  | some i => Nat.blt i n
  | none => true

theorem CRel.cmap {τ : Nat->Nat} {ρ ρ' : Ren} (h : ∀ i a,ρ i = some a->ρ' (τ i) = some a) {c : Cs} {arr : Array Value} {b : Nat} (hc : CRel ρ c arr b) : CRel ρ' (cmap τ c) arr b := by
 intro k v hk
 rw [cmap_get] at hk
 cases hg : c.get k with
 | none => rw [hg] at hk; cases hk
 | some x =>
  rw [hg] at hk; cases hk
  obtain ⟨u,hu,hr⟩ := hc k x hg
  exact ⟨u,hu,VRel.vmap h _ _ hr⟩
theorem CRel.cback {τ : Nat->Nat} {ρ ρ' : Ren} {n : Nat} (h : ∀ i,i < n->ρ i = ρ' (τ i)) {c : Cs} {arr : Array Value} {b : Nat} (hb : cbelow n c = true) (hc : CRel ρ' (SE.cmap τ c) arr b) : CRel ρ c arr b := by
 intro k v hk
 obtain ⟨u,hu,hr⟩ := hc k (vmap τ v) (by rw [cmap_get,hk])
 exact ⟨u,hu,VRel.vback h _ _ (cbelow_get hb hk) hr⟩
theorem MRel.mmap {τ : Nat->Nat} {ρ ρ' : Ren} (h : ∀ i a,ρ i = some a->ρ' (τ i) = some a) : ∀ {xs : List (AV × AV × Nat)} {es : List MapEntry},MRel ρ xs es->MRel ρ' (xs.map fun x => (vmap τ x.1,vmap τ x.2.1,x.2.2)) es
 | [],_,hm => hm
 | _ :: _,_,⟨e,es',he,h1,h2,h3,h4⟩ => ⟨e,es',he,VRel.vmap h _ _ h1,VRel.vmap h _ _ h2,h3,MRel.mmap h h4⟩
theorem MRel.mback {τ : Nat->Nat} {ρ ρ' : Ren} {n : Nat} (h : ∀ i,i < n->ρ i = ρ' (τ i)) : ∀ {xs : List (AV × AV × Nat)} {es : List MapEntry},(xs.all fun x => vbelow n x.1 && vbelow n x.2.1) = true ->
  MRel ρ' (xs.map fun x => (vmap τ x.1,vmap τ x.2.1,x.2.2)) es->MRel ρ xs es
 | [],_,_,hm => hm
 | x :: xs,_,hb,⟨e,es',he,h1,h2,h3,h4⟩ => by
  simp only [List.all_cons,Bool.and_eq_true] at hb
  exact ⟨e,es',he,VRel.vback h _ _ hb.1.1 h1,VRel.vback h _ _ hb.1.2 h2,h3,MRel.mback h (by simpa using hb.2) h4⟩

theorem OHolds.omap {τ : Nat->Nat} {ρ ρ' : Ren} (h : ∀ i a,ρ i = some a->ρ' (τ i) = some a) {w : World} {T : Nat->Prop} {a : Loc} {S : Nat->Prop} {o : AObj} (ho : OHolds ρ w T a S o) : OHolds ρ' w T a S (omap τ o) := by
 cases o with
 | cells e c => obtain ⟨h0,hS,arr,h1,h2,h3,h4⟩ := ho; exact ⟨h0,hS,arr,h1,by rw [cmap_size]; exact h2,by rw [cmap_size]; exact h3,h4.cmap h⟩
 | room e c => obtain ⟨h0,hS,arr,h1,h2,h3,h4⟩ := ho; exact ⟨h0,hS,arr,h1,h2,by rw [cmap_size]; exact h3,h4.cmap h⟩
 | ro c =>
  rcases ho with h0 | ⟨hT,arr,e,f,h1,h2⟩
  ·exact .inl (by rw [cmap_size]; exact h0)
  ·exact .inr ⟨hT,arr,e,f,h1,h2.cmap h⟩
 | map es k => obtain ⟨hS,arr,h1,h2⟩ := ho; exact ⟨hS,arr,h1,h2.mmap h⟩
 | abs A => exact ho
 | iter m since seen st =>
  obtain ⟨h0,hS,mb,h1,h2⟩ := ho
  refine ⟨h0,hS,mb,?_,h2⟩
  cases m with
  | none => exact h1
  | some i => obtain ⟨b,hb,hm⟩ := h1; exact ⟨b,h _ _ hb,hm⟩
theorem OHolds.oback {τ : Nat->Nat} {ρ ρ' : Ren} {n : Nat} (h : ∀ i,i < n->ρ i = ρ' (τ i)) {w : World} {T : Nat->Prop} {a : Loc} {S : Nat->Prop} {o : AObj} (hb : obelow n o = true)
  (ho : OHolds ρ' w T a S (SE.omap τ o)) : OHolds ρ w T a S o := by
 cases o with
 | cells e c => obtain ⟨h0,hS,arr,h1,h2,h3,h4⟩ := ho; rw [cmap_size] at h2 h3; exact ⟨h0,hS,arr,h1,h2,h3,h4.cback h hb⟩
 | room e c => obtain ⟨h0,hS,arr,h1,h2,h3,h4⟩ := ho; rw [cmap_size] at h3; exact ⟨h0,hS,arr,h1,h2,h3,h4.cback h hb⟩
 | ro c =>
  rcases ho with h0 | ⟨hT,arr,e,f,h1,h2⟩
  ·exact .inl (by rw [← cmap_size τ]; exact h0)
  ·exact .inr ⟨hT,arr,e,f,h1,h2.cback h hb⟩
 | map es k => obtain ⟨hS,arr,h1,h2⟩ := ho; exact ⟨hS,arr,h1,h2.mback h hb⟩
 | abs A => exact ho
 | iter m since seen st =>
  obtain ⟨h0,hS,mb,h1,h2⟩ := ho
  refine ⟨h0,hS,mb,?_,h2⟩
  cases m with
  | none => exact h1
  | some i => obtain ⟨b,hb2,hm⟩ := h1; exact ⟨b,(h i (nblt_iff.1 hb)).trans hb2,hm⟩

def isRo : AObj->Bool
 | .ro _ => true
 | _ => false
theorem OHolds.turnT {ρ : Ren} {w : World} {T T' : Nat->Prop} {a : Loc} {S : Nat->Prop} {o : AObj} (hr : isRo o = false) (ho : OHolds ρ w T a S o) : OHolds ρ w T' a S o := by
 cases o <;> first | exact ho | (simp [isRo] at hr)
theorem OHolds.owned {ρ : Ren} {w w' : World} {T : Nat->Prop} {a : Loc} {S : Nat->Prop} {o : AObj} (hr : isRo o = false) (ho : OHolds ρ w T a S o) (hw : ∀ b,S b->w'.heap[b]? = w.heap[b]?) : OHolds ρ w' T a S o := by
 refine OHolds.turnT (T := fun _ => True) hr ((OHolds.turnT (T' := fun _ => True) hr ho).stays fun b hb => hw b ?_)
 rcases hb with hb | hb
 ·exact hb
 ·exact (hb trivial).elim

def RelS (h : Heap) (ρ : Ren) (T : Nat->Prop) (w : World) : Prop :=
 ∃ S : Nat->Nat->Prop,
  (∀ i o,h.get i = some o->∃ a,ρ i = some a/\OHolds ρ w T a (S i) o) /\
  (∀ i j o o' b,h.get i = some o->h.get j = some o'->i ≠ j->S i b->S j b->False) /\
  (∀ i o b,h.get i = some o->S i b->T b/\b < w.heap.size) /\
  (∀ i,h.next<=i->ρ i = none)
theorem Rel.relS {h : Heap} {ρ : Ren} {T : Nat->Prop} {w : World} (hR : Rel h ρ T w) : RelS h ρ T w := let ⟨S,h1,h2,h3,h4,_⟩ := hR; ⟨S,h1,h2,h3,h4⟩
theorem RelS.rel {h : Heap} {ρ : Ren} {T : Nat->Prop} {w : World} (hR : RelS h ρ T w) (hT : ∀ b,w.heap.size<=b->T b) : Rel h ρ T w := let ⟨S,h1,h2,h3,h4⟩ := hR; ⟨S,h1,h2,h3,h4,hT⟩

def lay (τ : Nat->Nat) (k next : Nat) (i : Nat) : Nat := if i < k then τ i else next + (i - k)

def fits (τ : Nat->Nat) (o0 o : AObj) : Prop :=
 o = omap τ o0 ∨ ∃ c,o0 = .ro c/\o.conts = some (cmap τ c)

theorem Rel.part {h h0 : Heap} {ρ : Ren} {T : Nat->Prop} {w : World} {S : Nat->Nat->Prop} {τ : Nat->Nat}
  (h1 : ∀ i o,h.get i = some o->∃ a,ρ i = some a/\OHolds ρ w T a (S i) o)
  (h2 : ∀ i j o o' b,h.get i = some o->h.get j = some o'->i ≠ j->S i b->S j b->False)
  (h3 : ∀ i o b,h.get i = some o->S i b->T b/\b < w.heap.size)
  (hinj : ∀ i j,i < h0.next->j < h0.next->τ i = τ j->i = j)
  (hfit : ∀ i o0,h0.get i = some o0->i < h0.next/\obelow h0.next o0 = true/\∃ o,h.get (τ i) = some o/\fits τ o0 o) :
  RelS h0 (fun i => if i < h0.next then ρ (τ i) else none) (fun b => ∃ i o0,h0.get i = some o0/\isRo o0 = false/\S (τ i) b) w := by
 have hρ : ∀ i,i < h0.next->(fun i => if i < h0.next then ρ (τ i) else none) i = ρ (τ i) := fun i hi => by simp [hi]
 refine ⟨fun i b => (∃ o0,h0.get i = some o0/\isRo o0 = false)/\S (τ i) b,fun i o0 hi => ?_,fun i j o o' b hi hj hij hSi hSj => ?_,fun i o0 b hi hS => ?_,fun i hi => by simp; omega⟩
 ·obtain ⟨hlt,hbel,o,ho,hf⟩ := hfit i o0 hi
  obtain ⟨a,ha,hh⟩ := h1 _ o ho
  refine ⟨a,by rw [hρ i hlt]; exact ha,?_⟩
  cases hro : isRo o0 with
  | false =>
   have hf' : o = omap τ o0 := by
    rcases hf with hf | ⟨c,rfl,_⟩
    ·exact hf
    ·simp [isRo] at hro
   subst hf'
   have := OHolds.oback hρ hbel hh
   have he : (fun b => (∃ o0,h0.get i = some o0/\isRo o0 = false)/\S (τ i) b) = S (τ i) := by
    funext b; simp only [hi,Option.some.injEq,exists_eq_left',hro,true_and]
   show OHolds _ w _ a (fun b => (∃ o0,h0.get i = some o0/\isRo o0 = false)/\S (τ i) b) o0
   rw [he]
   exact this.turnT hro
  | true =>
   cases o0 <;> simp [isRo] at hro
   rename_i c
   have notT : ∀ b,(b = a.blk)->(∀ (x : AObj),h.get (τ i) = some x->isRo x = true->¬ T b)->¬ ∃ j o1,h0.get j = some o1/\isRo o1 = false/\S (τ j) b := by
    intro b hb hT ⟨j,o1,hj,hro1,hSj⟩
    obtain ⟨hjlt,_,oj,hoj,hfj⟩ := hfit j o1 hj
    by_cases hij : j = i
    ·subst hij
     rw [hi] at hj; cases hj; simp [isRo] at hro1
    ·have hne : τ j ≠ τ i := fun h' => hij (hinj j i hjlt hlt h')
     subst hb
     cases hro2 : isRo o with
     | true => exact hT o ho hro2 (h3 _ oj _ hoj hSj).1
     | false =>
      have hSi : S (τ i) a.blk := by
       rcases hf with hf | ⟨c',hc',hcs⟩
       ·rw [hf] at hro2; simp [SE.omap,isRo] at hro2
       ·cases o with
        | cells e x => exact hh.2.1
        | room e x => exact hh.2.1
        | ro x => simp [isRo] at hro2
        | map es q => simp [AObj.conts] at hcs
        | abs A => simp [AObj.conts] at hcs
        | iter m since seen st => simp [AObj.conts] at hcs
      exact h2 _ _ _ _ _ hoj ho hne hSj hSi
   have cc : ∃ x,o.conts = some x/\x = cmap τ c := by
    rcases hf with hf | ⟨c',hc',hcs⟩
    ·subst hf; exact ⟨_,rfl,rfl⟩
    ·cases hc'; exact ⟨_,hcs,rfl⟩
   obtain ⟨x,hx,rfl⟩ := cc
   cases o with
   | cells e y =>
    simp only [AObj.conts,Option.some.injEq] at hx; subst hx
    obtain ⟨g0,gS,arr,g1,g2,g3,g4⟩ := hh
    refine .inr ⟨notT _ rfl (fun z hz hz' => ?_),arr,e,(0,0),g1,?_⟩
    ·rw [ho] at hz; cases hz; simp [isRo] at hz'
    ·rw [g0]; exact g4.cback hρ hbel
   | room e y =>
    simp only [AObj.conts,Option.some.injEq] at hx; subst hx
    obtain ⟨g0,gS,arr,g1,g2,g3,g4⟩ := hh
    refine .inr ⟨notT _ rfl (fun z hz hz' => ?_),arr,e,(0,0),g1,?_⟩
    ·rw [ho] at hz; cases hz; simp [isRo] at hz'
    ·rw [g0]; exact g4.cback hρ hbel
   | ro y =>
    simp only [AObj.conts,Option.some.injEq] at hx; subst hx
    rcases hh with h0 | ⟨gT,arr,e,f,g1,g2⟩
    ·exact .inl (by rw [← cmap_size τ]; exact h0)
    ·exact .inr ⟨notT _ rfl (fun z hz hz' => gT),arr,e,f,g1,g2.cback hρ hbel⟩
   | map es q => simp [AObj.conts] at hx
   | abs A => simp [AObj.conts] at hx
   | iter m since seen st => simp [AObj.conts] at hx
 ·exact h2 (τ i) (τ j) (Classical.choose (hfit i o hi).2.2) (Classical.choose (hfit j o' hj).2.2) b (Classical.choose_spec (hfit i o hi).2.2).1 (Classical.choose_spec (hfit j o' hj).2.2).1
   (fun h' => hij (hinj i j (hfit i o hi).1 (hfit j o' hj).1 h')) hSi.2 hSj.2
 ·obtain ⟨hlt,_,x,hx,_⟩ := hfit i o0 hi
  exact ⟨⟨i,o0,hi,by obtain ⟨y,hy,hr⟩ := hS.1; rw [hi] at hy; cases hy; exact hr,hS.2⟩,(h3 _ x b hx hS.2).2⟩

theorem Rel.back {h h0' h' : Heap} {ρ ρ0' : Ren} {T T0 : Nat->Prop} {w w' : World} {S : Nat->Nat->Prop} {τ : Nat->Nat} {k0 : Nat} {own : Nat->Prop}
  (h1 : ∀ i o,h.get i = some o->∃ a,ρ i = some a/\OHolds ρ w T a (S i) o)
  (h2 : ∀ i j o o' b,h.get i = some o->h.get j = some o'->i ≠ j->S i b->S j b->False)
  (h3 : ∀ i o b,h.get i = some o->S i b->T b/\b < w.heap.size)
  (h4 : ∀ i,h.next<=i->ρ i = none) (h5 : ∀ b,w.heap.size<=b->T b)
  (hT0 : ∀ b,T0 b->∃ i o,i < k0/\own i/\h.get (τ i) = some o/\S (τ i) b)
  (hτ : ∀ i,i < k0->τ i < h.next)
  (hk : Keeps (fun b => T0 b ∨ w.heap.size<=b) w w')
  (hρ0 : ∀ i,i < k0->ρ0' i = ρ (τ i)) (hk0 : k0<=h0'.next)
  (hR : RelS h0' ρ0' (fun b => T0 b ∨ w.heap.size<=b) w')
  (hro : ∀ i o0,h0'.get i = some o0->isRo o0 = true->i < k0/\¬ own i)
  (hn : h'.next = h.next + (h0'.next - k0))
  (hg : ∀ j o,h'.get j = some o->(j < h.next/\h.get j = some o/\∀ i,i < k0->own i->τ i ≠ j) ∨ (∃ i o0,h0'.get i = some o0/\(k0<=i ∨ own i)/\j = lay τ k0 h.next i/\o = omap (lay τ k0 h.next) o0)) 
  (hinj : ∀ i j,i < k0->j < k0->τ i = τ j->i = j) :
  ∃ ρ',ρ.le ρ'/\(∀ i,i < h.next->ρ' i = ρ i)/\(∀ i a,ρ0' i = some a->ρ' (lay τ k0 h.next i) = some a)/\Rel h' ρ' T w'/\Keeps T w w' := by
 obtain ⟨S0,r1,r2,r3,r4⟩ := hR
 let ρ' : Ren := fun j => if j < h.next then ρ j else if j < h.next + (h0'.next - k0) then ρ0' (k0 + (j - h.next)) else none
 have hle : ρ.le ρ' := fun i a ha => by
  have : i < h.next := by
   rcases Nat.lt_or_ge i h.next with h' | h'
   ·exact h'
   ·rw [h4 i h'] at ha; cases ha
  simp [ρ',this,ha]
 have hlay : ∀ i a,ρ0' i = some a->ρ' (lay τ k0 h.next i) = some a := fun i a ha => by
  have hi : i < h0'.next := by
   rcases Nat.lt_or_ge i h0'.next with h' | h'
   ·exact h'
   ·rw [r4 i h'] at ha; cases ha
  by_cases hik : i < k0
  ·simp only [lay,if_pos hik,ρ',if_pos (hτ i hik)]
   rw [← hρ0 i hik]; exact ha
  ·simp only [lay,if_neg hik,ρ']
   rw [if_neg (by omega),if_pos (by omega)]
   have : k0 + (h.next + (i - k0) - h.next) = i := by omega
   rw [this]; exact ha
 have hTT : ∀ b,b < w.heap.size->(T0 b ∨ w.heap.size<=b)->T b := fun b hb h => by
  rcases h with h | h
  ·obtain ⟨i,o,_,_,ho,hS⟩ := hT0 b h
   exact (h3 _ o b ho hS).1
  ·exact h5 b h
 have hTold : ∀ b,¬ T b->b < w.heap.size := fun b hb => by
  rcases Nat.lt_or_ge b w.heap.size with h' | h'
  ·exact h'
  ·exact (hb (h5 b h')).elim
 have hkT : Keeps T w w' := hk.mono hTT hTold
 have apart : ∀ j o,h.get j = some o->(∀ i,i < k0->own i->τ i ≠ j)->∀ b,S j b->¬ (T0 b ∨ w.heap.size<=b) := fun j o hj hne b hS hT => by
  have := (h3 j o b hj hS).2
  rcases hT with hT | hT
  ·obtain ⟨i,x,hik,hown,hx,hSx⟩ := hT0 b hT
   exact h2 _ _ _ _ b hx hj (hne i hik hown) hSx hS
  ·omega
 let old : Nat->Prop := fun j => j < h.next/\∀ i,i < k0->own i->τ i ≠ j
 let S' : Nat->Nat->Prop := fun j b => (old j/\S j b) ∨ (∃ i,j = lay τ k0 h.next i/\(k0<=i ∨ own i)/\i < h0'.next/\S0 i b)
 have layold : ∀ i,(k0<=i ∨ (i < k0/\own i))->¬ old (lay τ k0 h.next i) := fun i hi ho => by
  by_cases hik : i < k0
  ·simp only [lay,if_pos hik] at ho
   rcases hi with hi | hi
   ·omega
   ·exact ho.2 i hik hi.2 rfl
  ·simp only [lay,if_neg hik] at ho
   have := ho.1; omega
 have layinj : ∀ i j,(k0<=i ∨ own i)->(k0<=j ∨ own j)->lay τ k0 h.next i = lay τ k0 h.next j->i = j := fun i j _ _ he => by
  unfold lay at he
  by_cases hik : i < k0
  ·by_cases hjk : j < k0
   ·rw [if_pos hik,if_pos hjk] at he; exact hinj i j hik hjk he
   ·rw [if_pos hik,if_neg hjk] at he; have := hτ i hik; omega
  ·by_cases hjk : j < k0
   ·rw [if_neg hik,if_pos hjk] at he; have := hτ j hjk; omega
   ·rw [if_neg hik,if_neg hjk] at he; omega
 refine ⟨ρ',hle,fun i hi => by simp [ρ',hi],hlay,⟨S',fun j o hj => ?_,fun i j o o' b hi hj hij hSi hSj => ?_,fun j o b hj hS => ?_,fun j hj => ?_,fun b hb => h5 b (Nat.le_trans hk.size hb)⟩,hkT⟩
 ·rcases hg j o hj with ⟨hlt,hjo,hne⟩ | ⟨i,o0,hi,hki,rfl,rfl⟩
  ·obtain ⟨a,ha,hh⟩ := h1 j o hjo
   refine ⟨a,hle _ _ ha,?_⟩
   have hSe : S' j = S j := by
    funext b
    apply propext
    constructor
    ·rintro (⟨_,hS⟩ | ⟨i,hji,hki,_,_⟩)
     ·exact hS
     ·exfalso
      have : old j := ⟨hlt,hne⟩
      rw [hji] at this
      refine layold i ?_ this
      rcases hki with hki | hki
      ·exact .inl hki
      ·by_cases hik : i < k0
       ·exact .inr ⟨hik,hki⟩
       ·exact .inl (by omega)
    ·intro hS; exact .inl ⟨⟨hlt,hne⟩,hS⟩
   rw [hSe]
   refine (hh.stays fun b hb => hk.block b ?_).mono hle
   rcases hb with hb | hb
   ·exact apart j o hjo hne b hb
   ·intro hT
    exact hb (hTT b (hTold b hb) hT)
  ·obtain ⟨a,ha,hh⟩ := r1 i o0 hi
   refine ⟨a,hlay i a ha,?_⟩
   have hnr : isRo o0 = false := by
    cases hr : isRo o0 with
    | false => rfl
    | true =>
     obtain ⟨hlt,hno⟩ := hro i o0 hi hr
     rcases hki with h' | h'
     ·omega
     ·exact (hno h').elim
   have hilt : i < h0'.next := by
    rcases Nat.lt_or_ge i h0'.next with h' | h'
    ·exact h'
    ·rw [r4 i h'] at ha; cases ha
   have hSe : S' (lay τ k0 h.next i) = S0 i := by
    funext b
    apply propext
    constructor
    ·rintro (⟨ho,_⟩ | ⟨i',he,hki',_,hS⟩)
     ·exfalso
      refine layold i ?_ ho
      rcases hki with hki | hki
      ·exact .inl hki
      ·by_cases hik : i < k0
       ·exact .inr ⟨hik,hki⟩
       ·exact .inl (by omega)
     ·rw [layinj i i' hki hki' he]; exact hS
    ·intro hS; exact .inr ⟨i,rfl,hki,hilt,hS⟩
   rw [hSe]
   exact (OHolds.omap hlay hh).turnT (by cases o0 <;> simp [isRo] at hnr <;> rfl)
 ·have cases1 : ∀ j o,h'.get j = some o->∀ b,S' j b->(old j/\S j b/\∃ x,h.get j = some x) ∨ ∃ i o0,h0'.get i = some o0/\(k0<=i ∨ own i)/\j = lay τ k0 h.next i/\S0 i b := by
   intro j o hj b hS
   rcases hS with ⟨ho,hS⟩ | ⟨i,rfl,hki,hilt,hS⟩
   ·rcases hg j o hj with ⟨_,hjo,_⟩ | ⟨i,o0,hi,hki,rfl,_⟩
    ·exact .inl ⟨ho,hS,o,hjo⟩
    ·exfalso
     refine layold i ?_ ho
     rcases hki with hki | hki
     ·exact .inl hki
     ·by_cases hik : i < k0
      ·exact .inr ⟨hik,hki⟩
      ·exact .inl (by omega)
   ·rcases hg _ o hj with ⟨hlt,_,hne⟩ | ⟨i',o0,hi,hki',he,_⟩
    ·exfalso
     refine layold i ?_ ⟨hlt,hne⟩
     rcases hki with hki | hki
     ·exact .inl hki
     ·by_cases hik : i < k0
      ·exact .inr ⟨hik,hki⟩
      ·exact .inl (by omega)
    ·have := layinj i i' hki hki' he
     subst this
     exact .inr ⟨i,o0,hi,hki,rfl,hS⟩
  rcases cases1 i o hi b hSi with ⟨oi,si,x,hx⟩ | ⟨i1,x1,hx1,hk1,rfl,s1⟩
  ·rcases cases1 j o' hj b hSj with ⟨oj,sj,y,hy⟩ | ⟨j1,y1,hy1,hk1,rfl,s1⟩
   ·exact h2 i j x y b hx hy hij si sj
   ·exact apart i x hx oi.2 b si (r3 j1 y1 b hy1 s1).1
  ·rcases cases1 j o' hj b hSj with ⟨oj,sj,y,hy⟩ | ⟨j1,y1,hy1,hk2,rfl,s2⟩
   ·exact apart j y hy oj.2 b sj (r3 i1 x1 b hx1 s1).1
   ·exact r2 i1 j1 x1 y1 b hx1 hy1 (fun h' => hij (by rw [h'])) s1 s2
 ·rcases hS with ⟨ho,hS⟩ | ⟨i,rfl,hki,hilt,hS⟩
  ·rcases hg j o hj with ⟨_,hjo,_⟩ | ⟨i,o0,hi,hki,rfl,_⟩
   ·have := h3 j o b hjo hS
    exact ⟨this.1,Nat.lt_of_lt_of_le this.2 hk.size⟩
   ·exfalso
    refine layold i ?_ ho
    rcases hki with hki | hki
    ·exact .inl hki
    ·by_cases hik : i < k0
     ·exact .inr ⟨hik,hki⟩
     ·exact .inl (by omega)
  ·rcases hg _ o hj with ⟨hlt,_,hne⟩ | ⟨i',o0,hi,hki',he,_⟩
   ·exfalso
    refine layold i ?_ ⟨hlt,hne⟩
    rcases hki with hki | hki
    ·exact .inl hki
    ·by_cases hik : i < k0
     ·exact .inr ⟨hik,hki⟩
     ·exact .inl (by omega)
   ·have := layinj i i' hki hki' he
    subst this
    have := r3 i o0 b hi hS
    refine ⟨?_,this.2⟩
    rcases Nat.lt_or_ge b w.heap.size with hb | hb
    ·exact hTT b hb this.1
    ·exact h5 b hb
 ·rw [hn] at hj
  simp only [ρ']
  rw [if_neg (by omega),if_neg (by omega)]
end Go.Proofs.YtpnhfbegboogbaaGreat.SE
end
section
namespace Go.Proofs.YtpnhfbegboogbaaGreat.SE
open Go

def putO : List AObj->Nat->HM->HM
 | [],_,t => t
 | v :: r,k,t => putO r (k + 1) (t.set k (some v))
theorem putO_get : ∀ (m : List AObj) (o : Nat) (t : HM) (k : Nat),(putO m o t).get k = if o<=k/\k < o + m.length then m[k - o]? else t.get k
 | [],o,t,k => by simp [putO]; intro h1 h2; omega
 | v :: r,o,t,k => by
  simp only [putO]
  rw [putO_get r (o + 1) _ k,HM.get_set]
  simp only [List.length_cons]
  by_cases h1 : o = k
  ·subst h1; rw [if_neg (by omega),if_pos rfl,if_pos (by omega)]; simp
  ·by_cases h2 : o<=k/\k < o + (r.length + 1)
   ·rw [if_pos (by omega),if_pos h2]
    have : k - o = (k - (o + 1)) + 1 := by omega
    rw [this]; simp
   ·rw [if_neg (by omega),if_neg (Ne.symm h1),if_neg h2]
def hO (n : Nat) (os : List AObj) : Heap := ⟨n,putO os 0 []⟩
def hOf (os : List AObj) : Heap := hO os.length os
theorem hOf_get (os : List AObj) (i : Nat) : (hOf os).get i = os[i]? := by
 simp only [hOf,hO,Heap.get,putO_get,Nat.zero_le,true_and,Nat.zero_add,Nat.sub_zero]
 split
 ·rfl
 ·rename_i h; simp [HM.get_leaf]; omega
theorem hOf_next (os : List AObj) : (hOf os).next = os.length := rfl

def frL : List (Nat × AV)->Fr
 | [] => .leaf
 | (t,v) :: l => (frL l).set t (some v)
theorem look_frL : ∀ (l : List (Nat × AV)) (t : Nat),look (frL l) t = match l.find? (fun p => p.1 == t) with | some p => p.2 | none => .any
 | [],t => rfl
 | (s,v) :: l,t => by
  have ih := look_frL l t
  simp only [frL,look,PM.get_set,List.find?_cons] at ih ⊢
  by_cases h : t = s
  ·subst h; simp
  ·have h' : (s == t) = false := by simpa using Ne.symm h
   rw [if_neg h,h']
   exact ih

def atL (l : List Nat) (i : Nat) : Nat := l.getD i 0

theorem RelS.less {h h' : Heap} {ρ : Ren} {T : Nat->Prop} {w : World} (hR : RelS h ρ T w) (hn : h'.next = h.next) (hg : ∀ i o,h'.get i = some o->h.get i = some o) : RelS h' ρ T w := by
 obtain ⟨S,h1,h2,h3,h4⟩ := hR
 exact ⟨S,fun i o hi => h1 i o (hg i o hi),fun i j o o' b hi hj => h2 i j o o' b (hg i o hi) (hg j o' hj),fun i o b hi => h3 i o b (hg i o hi),fun i hi => h4 i (by omega)⟩

def noRo (h : Heap) : Heap := ⟨h.next,h.m.filt (fun o => !isRo o)⟩
theorem noRo_get {h : Heap} {i : Nat} {o : AObj} (hg : (noRo h).get i = some o) : h.get i = some o/\isRo o = false := by
 unfold noRo Heap.get at hg
 simp only [HM.get_filt] at hg
 split at hg
 ·rename_i x hx
  cases hr : isRo x with
  | true => rw [hr] at hg; simp at hg
  | false => rw [hr] at hg; simp at hg; subst hg; exact ⟨hx,hr⟩
 ·cases hg
theorem noRo_of {h : Heap} {i : Nat} {o : AObj} (hg : h.get i = some o) (hr : isRo o = false) : (noRo h).get i = some o := by
 unfold noRo Heap.get
 simp only [HM.get_filt]
 have : h.m.get i = some o := hg
 simp [this,hr]
def gives (h0 : Heap) (i : Nat) : Bool := match h0.get i with
 | some o => !isRo o
 | none => true

def mergeL (lay : Nat->Nat) (skip : Nat->Bool) (h0' : Heap) : List Nat->HM->HM
 | [],m => m
 | i :: l,m => mergeL lay skip h0' l (bif skip i then m else (match h0'.get i with
  | some o => bif isRo o then m.set (lay i) none else m.set (lay i) (some (omap lay o))
  | none => m.set (lay i) none))
def mergeH (τ : Nat->Nat) : Heap->Heap->Heap->Heap
 | ⟨k,m0⟩,⟨n,m⟩,⟨k',m'⟩ => ⟨n + (k' - k),mergeL (lay τ k n) (fun i => Nat.blt i k && !gives ⟨k,m0⟩ i) ⟨k',m'⟩ (List.range k') m⟩
theorem mergeH_eq (τ : Nat->Nat) (h0 h h0' : Heap) : mergeH τ h0 h h0' =
  ⟨h.next + (h0'.next - h0.next),mergeL (lay τ h0.next h.next) (fun i => Nat.blt i h0.next && !gives h0 i) h0' (List.range h0'.next) h.m⟩ := by
 cases h0; cases h; cases h0'; rfl

theorem mergeL_get (lay : Nat->Nat) (skip : Nat->Bool) (h0' : Heap) : ∀ (l : List Nat) (m : HM) (j : Nat) (o : AObj),(mergeL lay skip h0' l m).get j = some o ->
  (m.get j = some o/\∀ i ∈ l,skip i = false->lay i ≠ j) ∨ ∃ i o0,i ∈ l/\skip i = false/\h0'.get i = some o0/\isRo o0 = false/\j = lay i/\o = omap lay o0
 | [],m,j,o,h => .inl ⟨h,fun i hi => by cases hi⟩
 | i :: l,m,j,o,h => by
  simp only [mergeL] at h
  rcases mergeL_get lay skip h0' l _ j o h with ⟨hm,hne⟩ | ⟨i',o0,hi',rest⟩
  ·cases hs : skip i with
   | true =>
    rw [hs] at hm; simp only [cond_true] at hm
    exact .inl ⟨hm,fun x hx hxs => by
     rcases List.mem_cons.1 hx with hx | hx
     ·subst hx; rw [hs] at hxs; cases hxs
     ·exact hne x hx hxs⟩
   | false =>
    rw [hs] at hm; simp only [cond_false] at hm
    by_cases hij : lay i = j
    ·split at hm
     ·rename_i o0 ho0
      cases hr : isRo o0 with
      | true => rw [hr] at hm; simp only [cond_true] at hm; rw [HM.get_set,if_pos hij.symm] at hm; cases hm
      | false =>
       rw [hr] at hm; simp only [cond_false] at hm
       rw [HM.get_set,if_pos hij.symm] at hm
       cases hm
       exact .inr ⟨i,o0,by simp,hs,ho0,hr,hij.symm,rfl⟩
     ·rw [HM.get_set,if_pos hij.symm] at hm; cases hm
    ·refine .inl ⟨?_,fun x hx hxs => ?_⟩
     ·split at hm
      ·rename_i o0 ho0
       cases hr : isRo o0 with
       | true => rw [hr] at hm; simp only [cond_true] at hm; rw [HM.get_set,if_neg (Ne.symm hij)] at hm; exact hm
       | false => rw [hr] at hm; simp only [cond_false] at hm; rw [HM.get_set,if_neg (Ne.symm hij)] at hm; exact hm
      ·rw [HM.get_set,if_neg (Ne.symm hij)] at hm; exact hm
     ·rcases List.mem_cons.1 hx with hx | hx
      ·subst hx; exact hij
      ·exact hne x hx hxs
  ·exact .inr ⟨i',o0,by simp [hi'],rest⟩

theorem Sp.frame {P : Program} {f : FuncId} {args0 args : List AV} {h0 h : Heap} {K0 : AV->Heap->Prop} (τ : Nat->Nat) (hs : Sp P f args0 h0 K0)
  (hfit : ∀ i o0,h0.get i = some o0->i < h0.next/\obelow h0.next o0 = true/\∃ o,h.get (τ i) = some o/\fits τ o0 o)
  (hinj : ∀ i j,i < h0.next->j < h0.next->τ i = τ j->i = j) (hτ : ∀ i,i < h0.next->τ i < h.next) (hargs : lmap τ args0 = args) (hbel : lbelow h0.next args0 = true) :
  Sp P f args h (fun v h' => ∃ v0 h0',K0 v0 h0'/\v = vmap (lay τ h0.next h.next) v0/\h' = mergeH τ h0 h h0') := by
 refine ⟨hs.1,fun ρ T w vs hR hl => ?_⟩
 obtain ⟨S,h1,h2,h3,h4,h5⟩ := hR
 have hpart := Rel.part (h0 := h0) (τ := τ) h1 h2 h3 hinj hfit
 let ρ0 : Ren := fun i => if i < h0.next then ρ (τ i) else none
 let T0 : Nat->Prop := fun b => ∃ i o0,h0.get i = some o0/\isRo o0 = false/\S (τ i) b
 have hρ0 : ∀ i,i < h0.next->ρ0 i = ρ (τ i) := fun i hi => by simp [ρ0,hi]
 have hR0 : Rel h0 ρ0 (fun b => T0 b ∨ w.heap.size<=b) w := by
  obtain ⟨S0,r1,r2,r3,r4⟩ := hpart
  refine ⟨S0,fun i o hi => ?_,r2,fun i o b hi hS => ⟨.inl (r3 i o b hi hS).1,(r3 i o b hi hS).2⟩,r4,fun b hb => .inr hb⟩
  obtain ⟨a,ha,hh⟩ := r1 i o hi
  refine ⟨a,ha,?_⟩
  cases hr : isRo o with
  | false => exact hh.turnT hr
  | true =>
   cases o <;> simp [isRo] at hr
   rcases hh with h0 | ⟨hT,arr,e,f,g1,g2⟩
   ·exact .inl h0
   refine .inr ⟨fun hT' => ?_,arr,e,f,g1,g2⟩
   rcases hT' with hT' | hT'
   ·exact hT hT'
   ·have : a.blk < w.heap.size := (Array.getElem?_eq_some_iff.1 g1).1
    omega
 have hl0 : LRel ρ0 args0 vs.toList := LRel.lback hρ0 _ _ hbel (by rw [hargs]; exact hl)
 refine (hs.2 ρ0 _ w vs hR0 hl0).mono ?_
 rintro e w' ⟨ρ0',v0,u,h0',q1,q2,q3,q4,rfl,q5,q6⟩
 have hT0' : ∀ b,T0 b->∃ i o,i < h0.next/\gives h0 i = true/\h.get (τ i) = some o/\S (τ i) b := by
  rintro b ⟨i,o0,hi,hr,hS⟩
  obtain ⟨hlt,_,o,ho,_⟩ := hfit i o0 hi
  exact ⟨i,o,hlt,by simp [gives,hi,hr],ho,hS⟩
 have hlow : ∀ j o,h.get j = some o->j < h.next := fun j o hj => by
  obtain ⟨a,ha,_⟩ := h1 j o hj
  rcases Nat.lt_or_ge j h.next with h' | h'
  ·exact h'
  ·rw [h4 j h'] at ha; cases ha
 obtain ⟨ρ',b1,b2,b3,b4,b5⟩ := Rel.back (h' := mergeH τ h0 h h0') (own := fun i => gives h0 i = true) (τ := τ) (k0 := h0.next) (ρ0' := ρ0') (h0' := noRo h0') (T0 := T0) h1 h2 h3 h4 h5 hT0' hτ q5
  (fun i hi => (q1 i hi).trans (hρ0 i hi)) q2 (q3.relS.less rfl fun i o hi => (noRo_get hi).1)
  (fun i o0 hi hr => by rw [(noRo_get hi).2] at hr; cases hr) (by rw [mergeH_eq]; rfl)
  (fun j o hj => by
   rw [mergeH_eq] at hj
   have hj' : (mergeL (lay τ h0.next h.next) (fun i => Nat.blt i h0.next && !gives h0 i) h0' (List.range h0'.next) h.m).get j = some o := hj
   rcases mergeL_get _ _ h0' _ _ j o hj' with ⟨hm,hne⟩ | ⟨i,o0,hi,hsk,ho0,hr,rfl,rfl⟩
   ·refine .inl ⟨hlow j o hm,hm,fun i hik hgv => ?_⟩
    have hi : i ∈ List.range h0'.next := List.mem_range.2 (Nat.lt_of_lt_of_le hik q2)
    have := hne i hi (by simp [hgv])
    simpa [lay,hik] using this
   ·refine .inr ⟨i,o0,noRo_of ho0 hr,?_,rfl,rfl⟩
    simp only [Bool.and_eq_false_iff,Bool.not_eq_false'] at hsk
    rcases hsk with h' | h'
    ·refine .inl ?_
     rcases Nat.lt_or_ge i h0.next with hlt | hge
     ·rw [nblt_iff.2 hlt] at h'; cases h'
     ·exact hge
    ·exact .inr h') hinj
 exact ⟨ρ',vmap (lay τ h0.next h.next) v0,u,mergeH τ h0 h h0',b2,by rw [mergeH_eq]; simp,b4,VRel.vmap b3 _ _ q4,rfl,b5,v0,h0',q6,rfl,rfl⟩

def Soft (τ : Nat->Nat) (n : Nat) (o0 o : AObj) : Prop :=
 ∀ ρ ρ0 w T a S,(∀ i,i < n->ρ0 i = ρ (τ i))->OHolds ρ w T a S o->OHolds ρ0 w T a S o0
def CSoft (τ : Nat->Nat) (n : Nat) (c0 c : Cs) : Prop := ∀ k v,c0.get k = some v->v = .any ∨ (c.get k = some (vmap τ v)/\vbelow n v = true)
theorem CSoft.rel {τ : Nat->Nat} {n : Nat} {c0 c : Cs} (h : CSoft τ n c0 c) {ρ ρ0 : Ren} (hρ : ∀ i,i < n->ρ0 i = ρ (τ i)) {arr : Array Value} {b : Nat} (hc : CRel ρ c arr b) (hsz : b + c0.size<=arr.size) : CRel ρ0 c0 arr b := by
 intro k v hk
 rcases h k v hk with rfl | ⟨h1,h2⟩
 ·have hlt := Cs.get_lt hk
  exact ⟨arr[b + k],by rw [Array.getElem?_eq_getElem],by simp only [VRel]⟩
 ·obtain ⟨u,hu,hr⟩ := hc k _ h1
  exact ⟨u,hu,VRel.vback hρ v u h2 hr⟩
theorem St.sub {k n : Nat} {ρ : Ren} {T : Nat->Prop} {fr fr' : Fr} {h h' : Heap} {a : Act} {w : World} (hs : St k n ρ T fr h a w) (τ : Nat->Nat) (hτk : ∀ i,i < k->τ i = i) (hk : k<=h'.next)
  (hinj : ∀ i j,i < h'.next->j < h'.next->τ i = τ j->i = j) (hobj : ∀ i o0,h'.get i = some o0->i < h'.next/\∃ o,h.get (τ i) = some o/\Soft τ h'.next o0 o)
  (hfr : ∀ t,look fr' t = .any ∨ (vmap τ (look fr' t) = look fr t/\vbelow h'.next (look fr' t) = true)) : ∃ ρ',(∀ i,i < k->ρ' i = ρ i)/\St k n ρ' T fr' h' a w := by
 obtain ⟨S,h1,h2,h3,h4,h5⟩ := hs.rel
 let ρ' : Ren := fun i => if i < h'.next then ρ (τ i) else none
 have hρ : ∀ i,i < h'.next->ρ' i = ρ (τ i) := fun i hi => by simp [ρ',hi]
 refine ⟨ρ',fun i hi => by rw [hρ i (by omega),hτk i hi],hk,⟨fun i => S (τ i),fun i o0 hi => ?_,fun i j o o' b hi hj hij hSi hSj => ?_,fun i o0 b hi hS => ?_,fun i hi => by simp [ρ']; omega,h5⟩,⟨hs.fr.size,hs.fr.defers,fun t => ?_⟩⟩
 ·obtain ⟨hlt,o,ho,hsoft⟩ := hobj i o0 hi
  obtain ⟨x,hx,hh⟩ := h1 _ o ho
  exact ⟨x,by rw [hρ i hlt]; exact hx,hsoft ρ ρ' w T x _ hρ hh⟩
 ·obtain ⟨hlt,x,hx,_⟩ := hobj i o hi
  obtain ⟨hlt',y,hy,_⟩ := hobj j o' hj
  exact h2 _ _ x y b hx hy (fun he => hij (hinj i j hlt hlt' he)) hSi hSj
 ·obtain ⟨hlt,x,hx,_⟩ := hobj i o0 hi
  exact h3 _ x b hx hS
 ·rcases hfr t with ht | ⟨ht,hb⟩
  ·rw [ht]; simp only [VRel]
  ·have := hs.fr.vals t
   rw [← ht] at this
   exact VRel.vback hρ _ _ hb this

def ObjSub (τ : Nat->Nat) (n : Nat) (h : Heap) : Nat->List AObj->Prop
 | _,[] => True
 | i,o :: os => (∃ o',h.get (τ i) = some o'/\Soft τ n o o')/\ObjSub τ n h (i + 1) os
def FrSub (τ : Nat->Nat) (n : Nat) (fr : Fr) : List (Nat × AV)->Prop
 | [] => True
 | (t,v) :: l => (vmap τ v = look fr t/\vbelow n v = true)/\FrSub τ n fr l
theorem ObjSub.get {τ : Nat->Nat} {n : Nat} {h : Heap} : ∀ {os : List AObj} {i : Nat},ObjSub τ n h i os->∀ j o,os[j]? = some o->∃ o',h.get (τ (i + j)) = some o'/\Soft τ n o o'
 | [],_,_,j,o,hj => by simp at hj
 | x :: os,i,hs,0,o,hj => by simp at hj; subst hj; exact hs.1
 | x :: os,i,hs,j + 1,o,hj => by
  have := hs.2.get j o (by simpa using hj)
  rw [show i + (j + 1) = i + 1 + j by omega]
  exact this
theorem FrSub.look {τ : Nat->Nat} {n : Nat} {fr : Fr} : ∀ {l : List (Nat × AV)},FrSub τ n fr l->∀ t,look (frL l) t = .any ∨ (vmap τ (look (frL l) t) = look fr t/\vbelow n (look (frL l) t) = true)
 | [],_,t => .inl rfl
 | (s,v) :: l,hs,t => by
  have ih := hs.2.look t
  have : SE.look (frL ((s,v) :: l)) t = if t = s then v else SE.look (frL l) t := by
   simp only [SE.look,frL,PM.get_set]
   by_cases ht : t = s
   ·simp [ht]
   ·simp [ht]
  rw [this]
  by_cases ht : t = s
  ·subst ht; rw [if_pos rfl]; exact .inr hs.1
  ·rw [if_neg ht]; exact ih
def idsOk (k : Nat) (ids : List Nat) (m : Nat) : Bool := Nat.beq ids.length m && Nat.ble k m && decide ids.Nodup && decide (ids.take k = List.range k)
theorem idsOk_spec {k m : Nat} {ids : List Nat} (h : idsOk k ids m = true) : k<=m/\(∀ i,i < k->atL ids i = i)/\∀ i j,i < m->j < m->atL ids i = atL ids j->i = j := by
 simp only [idsOk,Bool.and_eq_true,decide_eq_true_eq,Nat.ble_eq] at h
 obtain ⟨⟨⟨h1,h2⟩,h3⟩,h4⟩ := h
 have h1 := Nat.eq_of_beq_eq_true h1
 refine ⟨h2,fun i hi => ?_,fun i j hi hj he => ?_⟩
 ·have : (ids.take k)[i]? = some i := by rw [h4]; simp [hi]
  rw [List.getElem?_take,if_pos hi] at this
  simp [atL,List.getD_eq_getElem?_getD,this]
 ·have hi' : i < ids.length := by omega
  have hj' : j < ids.length := by omega
  simp only [atL,List.getD_eq_getElem?_getD,List.getElem?_eq_getElem hi',List.getElem?_eq_getElem hj',Option.getD_some] at he
  exact (List.getElem_inj h3).1 he

theorem St.subL {k n : Nat} {ρ : Ren} {T : Nat->Prop} {fr : Fr} {h : Heap} {a : Act} {w : World} (hs : St k n ρ T fr h a w) (m : Nat) (ids : List Nat) (l : List (Nat × AV)) (os : List AObj) (hm : os.length = m) (hids : idsOk k ids m = true)
  (hobj : ObjSub (atL ids) m h 0 os) (hfr : FrSub (atL ids) m fr l) : ∃ ρ',(∀ i,i < k->ρ' i = ρ i)/\St k n ρ' T (frL l) (hO m os) a w := by
 subst hm
 show ∃ ρ',(∀ i,i < k->ρ' i = ρ i)/\St k n ρ' T (frL l) (hOf os) a w
 obtain ⟨h1,h2,h3⟩ := idsOk_spec hids
 refine hs.sub (atL ids) h2 h1 h3 (fun i o0 hi => ?_) hfr.look
 rw [hOf_get] at hi
 obtain ⟨o,ho,hsf⟩ := hobj.get i o0 hi
 rw [Nat.zero_add] at ho
 exact ⟨(List.getElem?_eq_some_iff.1 hi).1,o,ho,hsf⟩

section
variable {P : Program} {k n : Nat} {fr : Fr} {h : Heap}
def Less (k : Nat) (Q : Fr->Heap->Prop) (fr : Fr) (h : Heap) : Prop :=
 ∃ m ids l os,os.length = m/\idsOk k ids m = true/\ObjSub (atL ids) m h 0 os/\FrSub (atL ids) m fr l/\Q (frL l) (hO m os)
theorem After.less {ρ₀ : Ren} {T : Nat->Prop} {w₀ : World} {Q : Fr->Heap->Prop} {a : Act} {w : World} (hh : After k n ρ₀ T w₀ (Less k Q) a w) : After k n ρ₀ T w₀ Q a w := by
 obtain ⟨ρ,fr,h,h1,h2,h3,m,ids,l,os,q0,q1,q2,q3,q4⟩ := hh
 obtain ⟨ρ',r1,r2⟩ := h2.subL m ids l os q0 q1 q2 q3
 exact ⟨ρ',frL l,hO m os,fun i hi => (r1 i hi).trans (h1 i hi),r2,h3,q4⟩
end

def resL (ld : TypeId->AV->Heap->Option AV) (fr : Fr) (h : Heap) : List ResultVar->Option (List AV)
 | [] => some []
 | .tmp t :: r => match resL ld fr h r with
  | some l => some (look fr t :: l)
  | none => none
 | .cell a ty :: r => match ld ty (look fr a) h,resL ld fr h r with
  | some v,some l => some (v :: l)
  | _,_ => none
def retL (ld : TypeId->AV->Heap->Option AV) (fn : Func) (fr : Fr) (h : Heap) : Option AV :=
 match resL ld fr h fn.results.toList with
 | some [v] => some v
 | some l => some (.tup l)
 | none => none
def LdOk (P : Program) (ld : TypeId->AV->Heap->Option AV) : Prop := ∀ (h : Heap) (ρ : Ren) (T : Nat->Prop) (w : World),Rel h ρ T w->∀ t a v u,ld t a h = some v->VRel ρ a u->(∃ i o,a = .ptr i o)/\ROk P (Instr.loadAt t u) ρ w v
def resS (tmps : Array Value) : ResultVar->Sem Value
 | .tmp t => pure (tmps.getD t undef)
 | .cell a t => do loadVar t (← asAddr (tmps.getD a undef))

theorem resL_ok {P : Program} {ld : TypeId->AV->Heap->Option AV} (hT : LdOk P ld) {k n : Nat} {ρ : Ren} {T : Nat->Prop} {fr : Fr} {h : Heap} {a : Act} {w : World} (hs : St k n ρ T fr h a w) : ∀ (l : List ResultVar) (r : List AV),resL ld fr h l = some r ->
  ∃ us,(l.mapM (resS a.tmps)).run P w = .ok us w/\LRel ρ r us
 | [],r,hr => by simp only [resL,Option.some.injEq] at hr; subst hr; exact ⟨[],by simp,.nil⟩
 | .tmp t :: l,r,hr => by
  simp only [resL] at hr
  split at hr
  ·rename_i l' hl
   cases hr
   obtain ⟨us,h1,h2⟩ := resL_ok (P := P) hT hs l l' hl
   exact ⟨_ :: us,by simp [resS,h1],.cons (hs.fr.vals t) h2⟩
  ·cases hr
 | .cell x ty :: l,r,hr => by
  simp only [resL] at hr
  split at hr
  ·rename_i v l' hv hl
   cases hr
   obtain ⟨us,h1,h2⟩ := resL_ok (P := P) hT hs l l' hl
   obtain ⟨⟨i,o,hx⟩,u,hu,hur⟩ := hT _ _ _ _ hs.rel _ _ _ _ hv (hs.fr.vals x)
   have hvx := hs.fr.vals x
   refine ⟨u :: us,?_,.cons hur h2⟩
   rw [hx] at hvx; simp only [VRel] at hvx
   obtain ⟨b,_,hb⟩ := hvx
   have hu' : (loadVar ty ⟨b.blk,b.base + o,none⟩).run P w = .ok u w := by
    rw [hb] at hu
    simpa [Instr.loadAt,Instr.sureAddr] using hu
   simp only [List.mapM_cons,resS,hb,asAddr,Sem.run_bind,Sem.run_pure,Result.andThen_ok,hu',h1]
  ·cases hr

theorem retL_ok {P : Program} {ld : TypeId->AV->Heap->Option AV} (hT : LdOk P ld) {k n : Nat} {ρ : Ren} {T : Nat->Prop} {fr : Fr} {h : Heap} {a : Act} {w : World} (hs : St k n ρ T fr h a w) {fn : Func} {v : AV} (hr : retL ld fn fr h = some v) :
  ∃ u,(results fn a.tmps).run P w = .ok u w/\VRel ρ v u := by
 unfold retL at hr
 have main : ∀ r,resL ld fr h fn.results.toList = some r->∃ us : List Value,(results fn a.tmps).run P w = .ok (if h : us.toArray.size = 1 then us.toArray[0] else .tuple us.toArray) w/\LRel ρ r us := by
  intro r hrr
  obtain ⟨us,h1,h2⟩ := resL_ok (P := P) hT hs _ r hrr
  refine ⟨us,?_,h2⟩
  have he : (fn.results.mapM (resS a.tmps)).run P w = .ok us.toArray w := by
   rw [Array.mapM_eq_mapM_toList,Sem.run_map,h1]; rfl
  unfold results
  simp only [Sem.run_bind]
  refine (congrArg (fun r => Result.andThen r _) (?_ : _ = Result.ok us.toArray w)).trans rfl
  rw [← he]
  congr 2
 split at hr
 ·rename_i x hx
  cases hr
  obtain ⟨us,h1,h2⟩ := main _ hx
  simp only [LRel] at h2
  obtain ⟨u,us',rfl,h3,rfl⟩ := h2
  exact ⟨u,by simpa using h1,h3⟩
 ·rename_i l hne hx
  cases hr
  obtain ⟨us,h1,h2⟩ := main _ hx
  have hl : us.length ≠ 1 := fun h1 => by
   rw [← h2.length] at h1
   match l,h1 with
   | [y],_ => exact hne y rfl
  refine ⟨.tuple us.toArray,?_,by simp only [VRel]; exact ⟨_,rfl,by simpa using h2⟩⟩
  rw [h1,dif_neg (by simpa using hl)]
 ·cases hr

def entryF (args : List AV) : Fr := Cs.putAt args 0 .leaf
theorem look_entry (args : List AV) (t : Nat) : look (entryF args) t = args.getD t .any := by
 simp only [look,entryF,Cs.putAt_get,Nat.zero_le,true_and,Nat.zero_add,Nat.sub_zero,HM.get_leaf,List.getD_eq_getElem?_getD]
 by_cases h : t < args.length
 ·rw [if_pos h]; simp [h]
 ·rw [if_neg h]; simp [h]

theorem spec_of_awpL {P : Program} {ld : TypeId → AV → Heap → Option AV} (hT : LdOk P ld) {f : FuncId} {fn : Func} {c : Code} {args : List AV} {h : Heap} {K : AV → Heap → Prop} (hf : P.funcs[f]? = some fn) (hn : (fn.name == "runtime.NumGoroutine") = false)
  (hb : fn.body = some c) (hl : Nat.ble args.length fn.ntmps = true)
  (hc : AWp P h.next fn.ntmps c (fun e fr' h' => (e = .normal ∨ e = .ret)/\∃ v,retL ld fn fr' h' = some v/\K v h') (entryF args) h) : Sp P f args h K := by
 refine ⟨⟨fn,hf,hn,by rw [hb]; rfl⟩,fun ρ T w vs hR hlr => ?_⟩
 refine calls_of_wp hf hb ?_
 have hlen : vs.size = args.length := by rw [← Array.length_toList,← hlr.length]
 have hle : args.length<=fn.ntmps := by simpa using hl
 have hst : St h.next fn.ntmps ρ T (entryF args) h { tmps := vs ++ Array.replicate (fn.ntmps - vs.size) undef,defers := [] } w := by
  refine ⟨Nat.le_refl _,hR,⟨by simp; omega,rfl,fun t => ?_⟩⟩
  rw [look_entry,Array.getD_eq_getD_getElem?,List.getD_eq_getElem?_getD]
  by_cases ht : t < args.length
  ·obtain ⟨u,hu,hr⟩ := hlr.get t args[t] (by simp [ht])
   have : (vs ++ Array.replicate (fn.ntmps - vs.size) undef)[t]? = some u := by
    rw [Array.getElem?_append_left (by omega)]; simpa using hu
   simpa [this,ht] using hr
  ·simp only [List.getElem?_eq_none (Nat.le_of_not_lt ht),Option.getD_none,VRel]
 refine wp_mono (hc ρ T w _ hst) fun e a' w' hh => ?_
 have fin : ∀ e,After h.next fn.ntmps ρ T w (fun fr' h' => (e = Exit.normal ∨ e = .ret)/\∃ v,retL ld fn fr' h' = some v/\K v h') a' w'->(e = .normal ∨ e = .ret)/\a'.defers = []/\∃ v,(results fn a'.tmps).run P w' = .ok v w' /\
   ∃ ρ' v0 u h',(∀ i,i < h.next->ρ' i = ρ i)/\h.next<=h'.next/\Rel h' ρ' T w'/\VRel ρ' v0 u/\Ending.returned v = .returned u/\Keeps T w w'/\K v0 h' := by
  rintro e ⟨ρ',fr',h',q1,q2,q3,q4,v,q5,q6⟩
  obtain ⟨u,hu,hr⟩ := retL_ok (P := P) hT q2 q5
  exact ⟨q4,q2.fr.defers,u,hu,ρ',v,u,h',q1,q2.le,q2.rel,hr,rfl,q3,q6⟩
 cases e with
 | normal => exact (fin .normal hh).2
 | ret => exact (fin .ret hh).2
 | exit id => have := (fin (.exit id) hh).1; simp at this
 | _ => exact hh.elim
end Go.Proofs.YtpnhfbegboogbaaGreat.SE
end
section
namespace Go.Proofs.YtpnhfbegboogbaaGreat.SE
open Go

section
variable {P : Program} {tt : TT} {k n : Nat} {ops : Array Oper} {Q : Fr->Heap->Prop} {fr : Fr} {h : Heap}
end

def flat {α : Type} (f : α->List Value) (l : List α) : List Value := l.flatMap f
section
variable {α : Type} {f : α->List Value} {m : Nat} (hf : ∀ a,(f a).length = m)
include hf
theorem flat_length (l : List α) : (flat f l).length = l.length * m := by
 induction l with
 | nil => simp [flat]
 | cons a l ih =>
  have : flat f (a :: l) = f a ++ flat f l := rfl
  rw [this,List.length_append,ih,hf,List.length_cons,Nat.add_mul]; omega
theorem flat_drop : ∀ (l : List α) (i : Nat),(flat f l).drop (i * m) = flat f (l.drop i)
 | l,0 => by simp
 | [],i + 1 => by simp [flat]
 | a :: l,i + 1 => by
  have : flat f (a :: l) = f a ++ flat f l := rfl
  rw [this,List.drop_append,hf,List.drop_eq_nil_of_le (by rw [hf,Nat.add_mul]; omega),List.nil_append,List.drop_succ_cons]
  rw [show (i + 1) * m - m = i * m by rw [Nat.add_mul]; omega]
  exact flat_drop l i
theorem flat_get (l : List α) (i j : Nat) (a : α) (hi : l[i]? = some a) (hj : j < m) : (flat f l)[i * m + j]? = (f a)[j]? := by
 have h1 : (flat f l)[i * m + j]? = ((flat f l).drop (i * m))[j]? := by rw [List.getElem?_drop]
 rw [h1,flat_drop hf]
 have h2 : l.drop i = a :: l.drop (i + 1) := by
  obtain ⟨hlt,ha⟩ := List.getElem?_eq_some_iff.1 hi
  rw [← ha]; exact List.drop_eq_getElem_cons hlt
 rw [h2]
 have h3 : flat f (a :: l.drop (i + 1)) = f a ++ flat f (l.drop (i + 1)) := rfl
 rw [h3,List.getElem?_append_left (by rw [hf]; exact hj)]
end

def isOwnRow : AObj->Bool
 | .cells .. => true
 | .room .. => true
 | _ => false
end Go.Proofs.YtpnhfbegboogbaaGreat.SE
end
section
namespace Go.Proofs.YtpnhfbegboogbaaGreat.SE
open Go

def mkOwn (Φ : Heap->Prop) : Own where
 holds w a S := ∃ h ρ,Φ h/\0 < h.next/\(∀ i o,h.get i = some o->isRo o = false)/\ρ 0 = some a/\RelS h ρ S w
 stays w w' a S := by
  rintro ⟨h,ρ,hΦ,h0,hro,ha,T,h1,h2,h3,h4⟩ hw
  have key : ∀ i o,h.get i = some o->∀ b,T i b->w'.heap[b]? = w.heap[b]? := fun i o hi b hb => hw b (h3 i o b hi hb).1
  refine ⟨h,ρ,hΦ,h0,hro,ha,T,fun i o hi => ?_,h2,fun i o b hi hb => ⟨(h3 i o b hi hb).1,?_⟩,h4⟩
  ·obtain ⟨x,hx,hh⟩ := h1 i o hi
   exact ⟨x,hx,hh.owned (hro i o hi) (key i o hi)⟩
  ·have hlt := (h3 i o b hi hb).2
   have := key i o hi b hb
   rw [Array.getElem?_eq_getElem hlt] at this
   exact (Array.getElem?_eq_some_iff.1 this).1

def openH (i : Nat) : Heap->Heap->Heap
 | ⟨n,m⟩,⟨k,m0⟩ => ⟨n + (k - 1),mergeL (lay (fun _ => i) 1 n) (fun _ => false) ⟨k,m0⟩ (List.range k) m⟩
theorem openH_eq (i : Nat) (h h0 : Heap) : openH i h h0 = ⟨h.next + (h0.next - 1),mergeL (lay (fun _ => i) 1 h.next) (fun _ => false) h0 (List.range h0.next) h.m⟩ := by cases h; cases h0; rfl

theorem Rel.open {h : Heap} {ρ : Ren} {T : Nat->Prop} {w : World} (hR : Rel h ρ T w) {i : Nat} {Φ : Heap->Prop} (hi : h.get i = some (.abs (mkOwn Φ))) :
  ∃ h0 ρ',Φ h0/\ρ.le ρ'/\(∀ j,j < h.next->ρ' j = ρ j)/\h.next<=(openH i h h0).next/\Rel (openH i h h0) ρ' T w := by
 obtain ⟨S,h1,h2,h3,h4,h5⟩ := hR
 obtain ⟨a,ha,h0,ρ0,hΦ,hn0,hro,ha0,hRS⟩ := h1 i _ hi
 have hin : i < h.next := by
  rcases Nat.lt_or_ge i h.next with h' | h'
  ·exact h'
  ·rw [h4 i h'] at ha; cases ha
 have hlow : ∀ j o,h.get j = some o->j < h.next := fun j o hj => by
  obtain ⟨x,hx,_⟩ := h1 j o hj
  rcases Nat.lt_or_ge j h.next with h' | h'
  ·exact h'
  ·rw [h4 j h'] at hx; cases hx
 obtain ⟨S0,r1,r2,r3,r4⟩ := hRS
 obtain ⟨ρ',b1,b2,b3,b4,b5⟩ := Rel.back (h' := openH i h h0) (own := fun _ => True) (τ := fun _ => i) (k0 := 1) (ρ0' := ρ0) (h0' := h0) (T0 := S i) (w := w) (w' := w) h1 h2 h3 h4 h5
  (fun b hb => ⟨0,_,by omega,trivial,hi,hb⟩) (fun j _ => hin) (Keeps.refl _ _) (fun j hj => by
   have : j = 0 := by omega
   subst this; rw [ha0]; exact ha.symm) hn0
  ⟨S0,fun j o hj => by
   obtain ⟨x,hx,hh⟩ := r1 j o hj
   exact ⟨x,hx,hh.turnT (hro j o hj)⟩,r2,fun j o b hj hb => ⟨.inl (r3 j o b hj hb).1,(r3 j o b hj hb).2⟩,r4⟩
  (fun j o hj hr => by rw [hro j o hj] at hr; cases hr) (by rw [openH_eq])
  (fun j o hj => by
   rw [openH_eq] at hj
   have hj' : (mergeL (lay (fun _ => i) 1 h.next) (fun _ => false) h0 (List.range h0.next) h.m).get j = some o := hj
   rcases mergeL_get _ _ h0 _ _ j o hj' with ⟨hm,hne⟩ | ⟨x,o0,hx,_,ho0,hr,rfl,rfl⟩
   ·refine .inl ⟨hlow j o hm,hm,fun x hx _ => ?_⟩
    have hx0 : x = 0 := by omega
    subst hx0
    have := hne 0 (List.mem_range.2 hn0) rfl
    simpa [lay] using this
   ·exact .inr ⟨x,o0,ho0,.inr trivial,rfl,rfl⟩) (fun x y hx hy _ => by omega)
 exact ⟨h0,ρ',hΦ,b1,b2,by rw [openH_eq]; simp,b4⟩

theorem St.open {k n : Nat} {ρ : Ren} {T : Nat->Prop} {fr : Fr} {h : Heap} {a : Act} {w : World} (hs : St k n ρ T fr h a w) {i : Nat} {Φ : Heap->Prop} (hi : h.get i = some (.abs (mkOwn Φ))) :
  ∃ h0 ρ',Φ h0/\(∀ j,j < k->ρ' j = ρ j)/\St k n ρ' T fr (openH i h h0) a w := by
 obtain ⟨h0,ρ',b1,b2,b3,b4,b5⟩ := hs.rel.open hi
 exact ⟨h0,ρ',b1,fun j hj => b3 j (Nat.lt_of_lt_of_le hj hs.le),Nat.le_trans hs.le b4,b5,hs.fr.mono b2⟩

def Leq (k : Nat) (v : AV) (h : Heap) (v' : AV) (h' : Heap) : Prop :=
 k<=h'.next/\∀ ρ T w u,Rel h ρ T w->VRel ρ v u->∃ ρ',(∀ i,i < k->ρ' i = ρ i)/\Rel h' ρ' T w/\VRel ρ' v' u
theorem Leq.refl {k : Nat} {v : AV} {h : Heap} (hk : k<=h.next) : Leq k v h v h := ⟨hk,fun ρ _ _ _ hR hv => ⟨ρ,fun _ _ => rfl,hR,hv⟩⟩
theorem Leq.trans {k : Nat} {v v' v'' : AV} {h h' h'' : Heap} (a : Leq k v h v' h') (b : Leq k v' h' v'' h'') : Leq k v h v'' h'' :=
 ⟨b.1,fun ρ T w u hR hv => by
  obtain ⟨ρ',h1,h2,h3⟩ := a.2 ρ T w u hR hv
  obtain ⟨ρ'',g1,g2,g3⟩ := b.2 ρ' T w u h2 h3
  exact ⟨ρ'',fun i hi => (g1 i hi).trans (h1 i hi),g2,g3⟩⟩
theorem sp_leq {P : Program} {f : FuncId} {args : List AV} {h : Heap} {K : AV->Heap->Prop} (hs : Sp P f args h (fun v h' => ∃ v' h'',Leq h.next v h' v' h''/\K v' h'')) : Sp P f args h K := by
 refine ⟨hs.1,fun ρ T w vs hR hl => (hs.2 ρ T w vs hR hl).mono ?_⟩
 rintro e w' ⟨ρ',v,u,h',c1,c2,c3,c4,c5,c6,v',h'',hq,hK⟩
 obtain ⟨ρ2,g1,g2,g3⟩ := hq.2 ρ' T w' u c3 c4
 exact ⟨ρ2,v',u,h'',fun i hi => (g1 i hi).trans (c1 i hi),hq.1,g2,g3,c5,c6,hK⟩

theorem Rel.sub {h h' : Heap} {ρ : Ren} {T : Nat->Prop} {w : World} (hR : Rel h ρ T w) (τ : Nat->Nat)
  (hinj : ∀ i j,i < h'.next->j < h'.next->τ i = τ j->i = j) (hobj : ∀ i o0,h'.get i = some o0->i < h'.next/\∃ o,h.get (τ i) = some o/\Soft τ h'.next o0 o) :
  Rel h' (fun i => if i < h'.next then ρ (τ i) else none) T w := by
 obtain ⟨S,h1,h2,h3,h4,h5⟩ := hR
 have hρ : ∀ i,i < h'.next->(fun i => if i < h'.next then ρ (τ i) else none) i = ρ (τ i) := fun i hi => by simp [hi]
 refine ⟨fun i => S (τ i),fun i o0 hi => ?_,fun i j o o' b hi hj hij hSi hSj => ?_,fun i o0 b hi hS => ?_,fun i hi => by simp; omega,h5⟩
 ·obtain ⟨hlt,o,ho,hsoft⟩ := hobj i o0 hi
  obtain ⟨x,hx,hh⟩ := h1 _ o ho
  exact ⟨x,by rw [hρ i hlt]; exact hx,hsoft ρ _ w T x _ hρ hh⟩
 ·obtain ⟨hlt,x,hx,_⟩ := hobj i o hi
  obtain ⟨hlt',y,hy,_⟩ := hobj j o' hj
  exact h2 _ _ x y b hx hy (fun he => hij (hinj i j hlt hlt' he)) hSi hSj
 ·obtain ⟨hlt,x,hx,_⟩ := hobj i o0 hi
  exact h3 _ x b hx hS

def OwnFit (τ : Nat->Nat) (n : Nat) (h : Heap) : Nat->List AObj->Prop
 | _,[] => True
 | i,o :: os => (obelow n o = true/\isRo o = false/\h.get (τ i) = some (omap τ o))/\OwnFit τ n h (i + 1) os
theorem OwnFit.get {τ : Nat->Nat} {n : Nat} {h : Heap} : ∀ {os : List AObj} {i : Nat},OwnFit τ n h i os->∀ j o,os[j]? = some o->obelow n o = true/\isRo o = false/\h.get (τ (i + j)) = some (omap τ o)
 | [],_,_,j,o,hj => by simp at hj
 | x :: os,i,hs,0,o,hj => by simp at hj; subst hj; exact hs.1
 | x :: os,i,hs,j + 1,o,hj => by
  have := hs.2.get j o (by simpa using hj)
  rw [show i + (j + 1) = i + 1 + j by omega]
  exact this
end Go.Proofs.YtpnhfbegboogbaaGreat.SE
end
section
namespace Go.Proofs.YtpnhfbegboogbaaGreat.SE
open Go

theorem tmod_nat (a b : Nat) : (a : Int).tmod (b : Int) = ((a % b : Nat) : Int) := (Int.ofNat_tmod a b).symm
theorem wrap_nat {a : Nat} (h : a < 2 ^ 62) : IntKind.i64.wrap (a : Int) = (a : Int) := wrap_i64 (by omega) (by omega)
end Go.Proofs.YtpnhfbegboogbaaGreat.SE
end
section
namespace Go.Proofs.YtpnhfbegboogbaaGreat.SE
open Go

def FrFit (τ : Nat->Nat) (n : Nat) (h : Heap) : Nat->List AObj->Prop
 | _,[] => True
 | i,o :: os => (obelow n o = true/\∃ o',h.get (τ i) = some o'/\fits τ o o')/\FrFit τ n h (i + 1) os
theorem FrFit.get {τ : Nat->Nat} {n : Nat} {h : Heap} : ∀ {os : List AObj} {i : Nat},FrFit τ n h i os->∀ j o,os[j]? = some o->obelow n o = true/\∃ o',h.get (τ (i + j)) = some o'/\fits τ o o'
 | [],_,_,j,o,hj => by simp at hj
 | x :: os,i,hs,0,o,hj => by simp at hj; subst hj; exact hs.1
 | x :: os,i,hs,j + 1,o,hj => by
  have := hs.2.get j o (by simpa using hj)
  rw [show i + (j + 1) = i + 1 + j by omega]
  exact this
section
variable {P : Program} {tt : TT} {k n : Nat} {ops : Array Oper} {Q : Fr->Heap->Prop} {fr : Fr} {h : Heap}
end

end Go.Proofs.YtpnhfbegboogbaaGreat.SE
end
section
namespace Go.Proofs.YtpnhfbegboogbaaGreat.SE
open Go

abbrev RunFn := FuncId->List AV->Heap->Option (AV × Heap)
def isDone : Exit->Bool
 | .normal => true
 | .ret => true
 | _ => false
section
variable {P : Program} {tt : TT} {k n : Nat} {call : RunFn}
end
end Go.Proofs.YtpnhfbegboogbaaGreat.SE
end
section
namespace Go.Proofs.YtpnhfbegboogbaaGreat.SE
open Go
open Go.ChangeShapes Go.WideShapes Go.ChangeAt Go.RowKit

theorem Keeps.below {W w' : World} (h : Keeps (fun b => W.heap.size<=b) W w') : Below W.heap.size W w' := ⟨h.os,h.tape,h.output,h.size,fun k hk => h.block k (by omega)⟩
theorem rel_nil (W : World) : Rel (hO 0 []) (fun _ => none) (fun b => W.heap.size<=b) W :=
 ⟨fun _ _ => False,fun i o hi => by simp [hO,putO,Heap.get,HM.get_leaf] at hi,fun _ _ _ _ _ _ _ _ h => h.elim,fun _ _ _ _ h => h.elim,fun _ _ => rfl,fun _ h => h⟩
theorem Sp.calls {P : Program} {f : FuncId} {args : List AV} {K : AV->Heap->Prop} (hs : Sp P f args (hO 0 []) K) (W : World) {vs : Array Value} (hv : LRel (fun _ => none) args vs.toList) (hK : ∀ v h,K v h->v = .lit (.bool true)) :
  Calls P f vs W (fun e w' => e = .returned (.bool true)/\Below W.heap.size W w') := by
 refine (hs.2 _ _ W vs (rel_nil W) hv).mono ?_
 rintro e w' ⟨ρ',v,u,h',_,_,_,hu,rfl,hk,hKv⟩
 have := hK _ _ hKv
 subst this
 simp only [VRel] at hu
 subst hu
 exact ⟨rfl,hk.below⟩

def readAgain (P : Program) (ts : List TypeId) : Bool := ts.all fun t => P.readableRec t && decide (t < P.types.size)
theorem trodAll_below {H : Type} {enc : TypeId × Value->H} {P : Program} (hl : laidOutB P = true) {W W' : World} (hb : Below W.heap.size W W') : ∀ {ts : List TypeId} {vs : List Value} {ds : List (DataW H)} {ps : List MemPlace},readAgain P ts = true ->
  DataW.TrodAll enc P W 0 (fun _ => true) true ts vs ds ps->(∀ x ∈ ps,x.block < W.heap.size)->DataW.TrodAll enc P W' 0 (fun b => decide (b < W.heap.size)) true ts vs ds ps
 | [],_,_,_,_,h,_ => by
  obtain ⟨rfl,rfl,rfl⟩ := trodAll_nil h
  exact trodAll_mk0
 | t :: ts,_,_,_,hr,h,hlt => by
  obtain ⟨v,vs1,d,ds1,a,b,rfl,rfl,rfl,h1,h2⟩ := trodAll_cons h
  simp only [readAgain,List.all_cons,Bool.and_eq_true,decide_eq_true_eq] at hr
  refine ⟨a,b,Below.trod hl hr.1.1 hr.1.2 h1 hb (fun x hx => hlt x (by simp [hx])),trodAll_below hl hb (by simpa [readAgain] using hr.2) h2 (fun x hx => hlt x (by simp [hx])),rfl⟩

theorem post_true {H : Type} {enc : TypeId × Value->H} {P : Program} {f : Func} {s : ChangeSpec} {apart handsOn : Bool} {W W' : World} {args : Array Value} {ds gs : List (DataW H)} {before : List MemPlace} {tb : TypeId}
  (hl : laidOutB P = true) (hr : readAgain P f.params.toList = true) (hW : DataW.Whole enc P f.params.toList s.vars apart W args.toList ds gs before) (hb : Below W.heap.size W W') (hvars : s.vars = [])
  (hrt : f.resultTypes = #[tb]) (ht : P.underlying tb = some .bool) (h1 : (s.fn H (ds ++ gs)).results = [.lit (.bool true)]) (h2 : (s.fn H (ds ++ gs)).args = ds) (h3 : (s.fn H (ds ++ gs)).vars = []) :
  s.post enc P f apart true handsOn false W args (.bool true) W' := by
 have hlt := hW.lt
 obtain ⟨p,q,hA,hV,hpq,hfz,hnd⟩ := hW
 refine ⟨ds,gs,before,[],p,[],⟨p,q,hA,hV,hpq,hfz,hnd⟩,?_,?_,?_,hb.frame _,fun h => by cases h⟩
 ·rw [h1,hrt]
  exact trodAll_cons_mk (shut_bool ht _) trodAll_mk0
 ·rw [h2]
  exact trodAll_below hl hb hr hA (fun x hx => hlt x (by rw [hpq]; simp [hx]))
 ·rw [h3,hvars]; rfl
end Go.Proofs.YtpnhfbegboogbaaGreat.SE
end
section
namespace Go.Proofs.YtpnhfbegboogbaaGreat.SE
open Go

theorem mapM_some {α β : Type} {f : α->Option β} : ∀ {l : List α} {r : List β},l.mapM f = some r->∀ x ∈ l,∃ y,f x = some y
 | [],_,_,x,hx => by simp at hx
 | a :: l,r,h,x,hx => by
  simp only [List.mapM_cons,Option.bind_eq_bind,Option.bind_eq_some_iff] at h
  obtain ⟨y,hy,ys,hys,_⟩ := h
  rcases List.mem_cons.1 hx with rfl | hx
  ·exact ⟨y,hy⟩
  ·exact mapM_some hys x hx
section
variable {H : Type} {enc : TypeId × Value->H} {P : Program} {w : World} {base : Nat} {spare : Nat->Bool} {held : Bool} {fuel : Nat} {t : TypeId} {cs : List Value} {x : DataW H × List MemPlace}
theorem trod_slice {e : TypeId} (ht : P.underlying t = some (.slice e)) (h : DataW.trod enc P w base spare held fuel t cs = some x) :
  cs = [.slice none 0 0] ∨ ∃ a len cap,cs = [.slice (some a) len cap]/\len<=cap/\cap<=maxLen /\
   ∀ i,i < len->∃ cs' fuel' y,w.cells? base (a.add (i * P.cellsOf e)) (P.cellsOf e) = some cs'/\DataW.trod enc P w base spare held fuel' e cs' = some y := by
 cases fuel with
 | zero => simp [DataW.trod] at h
 | succ fuel =>
  unfold DataW.trod at h
  simp only [ht] at h
  split at h <;> try (rename_i hh; cases hh)
  all_goals try (exact .inl rfl)
  all_goals try (cases h; done)
  all_goals
   rename_i a len cap
   split at h
   ·rename_i hh
    refine .inr ⟨a,len,cap,rfl,hh.2.1,hh.2.2,fun i hi => ?_⟩
    simp only [Option.bind_eq_some_iff] at h
    obtain ⟨elems,he,_⟩ := h
    obtain ⟨y,hy⟩ := mapM_some he i (List.mem_range.2 hi)
    simp only [Option.bind_eq_some_iff] at hy
    obtain ⟨cs',h1,h2⟩ := hy
    exact ⟨cs',fuel,y,h1,h2⟩
   ·cases h

theorem cells_get {a : Addr} {n : Nat} {l : List Value} (h : w.cells? base a n = some l) : l.length = n/\∀ i,i < n->∃ v,l[i]? = some v/\w.cell? (a.add i) = some v := by
 unfold World.cells? at h
 split at h
 ·have key : ∀ (xs : List Nat) (l : List Value),xs.mapM (fun i => w.cell? (a.add i)) = some l->l.length = xs.length/\∀ (k i : Nat),xs[k]? = some i->∃ v : Value,l[k]? = some v/\w.cell? (a.add i) = some v := by
   intro xs
   induction xs with
   | nil => intro l hl; simp at hl; subst hl; simp
   | cons x xs ih =>
    intro l hl
    simp only [List.mapM_cons,Option.bind_eq_bind,Option.bind_eq_some_iff] at hl
    obtain ⟨y,hy,ys,hys,hl⟩ := hl
    simp only [Option.pure_def,Option.some.injEq] at hl
    subst hl
    obtain ⟨h1,h2⟩ := ih ys hys
    refine ⟨by simp [h1],fun k i hk => ?_⟩
    cases k with
    | zero => simp at hk; subst hk; exact ⟨y,by simp,hy⟩
    | succ k => simpa using h2 k i (by simpa using hk)
  obtain ⟨h1,h2⟩ := key _ _ h
  exact ⟨by simpa using h1,fun i hi => h2 i i (by simp [hi])⟩
 ·cases h
end

theorem cell_add {w : World} {b off n : Nat} {v : Value} (h : w.cell? ((⟨b,off,none⟩ : Addr).add n) = some v) : ∃ arr e f,w.heap[b]? = some (.cells arr e f)/\arr[off + n]? = some v := by
 have hb : ((⟨b,off,none⟩ : Addr).add n) = ⟨b,off + n,none⟩ := by
  unfold Addr.add; split
  ·rename_i h0; subst h0; rfl
  ·rfl
 rw [hb] at h
 unfold World.cell? at h
 split at h
 ·rename_i c e f hc
  exact ⟨c,e,f,hc,by simpa using h⟩
 ·cases h

def topOwn : Own where
 holds _ _ _ := True
 stays _ _ _ _ _ _ := trivial
def argO {α : Type} (f : α->List Value) : Option (List α)->AObj
 | none => .abs topOwn
 | some l => .ro (.raw (flat f l))
def argV {α : Type} (i : Nat) (cap : Nat) : Option (List α)->AV
 | none => .lit (.slice none 0 0)
 | some l => .sl i 0 l.length cap
theorem flat_some {α : Type} {f : α->List Value} {m : Nat} (hf : ∀ a,(f a).length = m) (hm : 0 < m) {l : List α} {k : Nat} {v : Value} (h : (flat f l)[k]? = some v) :
  ∃ a,l[k / m]? = some a/\(f a)[k % m]? = some v := by
 have hk : k < l.length * m := by rw [← flat_length hf]; exact (List.getElem?_eq_some_iff.1 h).1
 have hlt : k / m < l.length := Nat.div_lt_of_lt_mul (by rw [Nat.mul_comm]; exact hk)
 refine ⟨l[k / m],List.getElem?_eq_getElem hlt,?_⟩
 rw [← flat_get hf l (k / m) (k % m) _ (List.getElem?_eq_getElem hlt) (Nat.mod_lt _ hm),Nat.div_add_mod']
 exact h
theorem rows_choose {α : Type} {p : Nat->α->Prop} : ∀ (n : Nat),(∀ i,i < n->∃ a,p i a)->∃ l : List α,l.length = n/\∀ i a,l[i]? = some a->p i a
 | 0,_ => ⟨[],rfl,fun i a h => by simp at h⟩
 | n + 1,h => by
  obtain ⟨l,h1,h2⟩ := rows_choose n (fun i hi => h i (by omega))
  obtain ⟨a,ha⟩ := h n (by omega)
  refine ⟨l ++ [a],by simp [h1],fun i b hb => ?_⟩
  by_cases hi : i < l.length
  ·rw [List.getElem?_append_left hi] at hb; exact h2 i b hb
  ·rw [List.getElem?_append_right (by omega)] at hb
   have : i = l.length := by
    have := (List.getElem?_eq_some_iff.1 hb).1
    simp at this; omega
   subst this
   simp at hb; subst hb; rw [h1]; exact ha

theorem open_rows {H : Type} {enc : TypeId × Value->H} {P : Program} {W : World} {T : Nat->Prop} {t e : TypeId} {v : Value} {d : DataW H} {ps : List MemPlace} {α : Type} {f : α->List Value} {m : Nat} (ok : α->Prop) (hf : ∀ a,(f a).length = m) (hm : 0 < m)
  (ht : P.underlying t = some (.slice e)) (hc : P.cellsOf e = m) (hok : Value.okWide P W .any 0 t v) (h : DataW.Trod enc P W 0 (fun _ => true) true t v d ps) (hT : ∀ b,b < W.heap.size->¬ T b)
  (hel : ∀ fuel cs y,DataW.trod enc P W 0 (fun _ => true) true fuel e cs = some y->∃ a,ok a/\cs = f a) :
  ∃ (x : Option (List α)) (cap : Nat) (a : Loc),(∀ l,x = some l->(∀ y ∈ l,ok y)/\l.length<=cap/\cap<=maxLen)/\(∀ (ρ : Ren) (i : Nat),ρ i = some a->VRel ρ (argV i cap x) v)/\∀ (ρ : Ren) (S : Nat->Prop),OHolds ρ W T a S (argO f x) := by
 obtain ⟨fuel,h⟩ := h
 have hok' : Cell.okWide P W .any 0 t v := by unfold Value.okWide at hok; simpa only [ht] using hok
 have hv : v.cells.toList = [v]/\(v = .slice none 0 0 ∨ ∃ a n c,v = .slice (some a) n c/\W.has P .any 0 a e c) := by
  unfold Cell.okWide at hok'
  simp only [ht] at hok'
  unfold Cell.ok at hok'
  simp only [ht] at hok'
  split at hok' <;> first | exact hok'.elim | (rename_i hh; cases hh; done) | skip
  ·exact ⟨rfl,.inl rfl⟩
  ·rename_i a n c hh
   cases hh
   exact ⟨rfl,.inr ⟨a,n,c,rfl,hok'.2.2⟩⟩
 rw [hv.1] at h
 rcases trod_slice ht h with h1 | ⟨a,len,cap,h1,h2,h3,h4⟩
 ·simp only [List.cons.injEq,and_true] at h1
  subst h1
  exact ⟨none,0,⟨0,0,0⟩,(fun l hl => by cases hl),(fun ρ i _ => by simp [argV,VRel]),fun _ _ => trivial⟩
 ·simp only [List.cons.injEq,and_true] at h1
  subst h1
  rcases hv.2 with h | ⟨a',n',c',he,hhas⟩
  ·cases h
  cases he
  obtain ⟨b,off,spot⟩ := a
  obtain ⟨_,hs,row,cells,hsh,_⟩ := hhas
  simp only at hs
  subst hs
  obtain ⟨arr,e0,fz,harr⟩ : ∃ arr e0 fz,W.heap[b]? = some (.cells arr e0 fz) := by
   unfold World.shape? at hsh
   split at hsh
   ·rename_i c el fr hc; exact ⟨c,el,fr,hc⟩
   ·cases hsh
  obtain ⟨l,hl,hl'⟩ := rows_choose (p := fun i (y : α) => ok y/\∀ j u,(f y)[j]? = some u->arr[off + (i * m + j)]? = some u) len (fun i hi => by
   obtain ⟨cs',fuel',y,hc1,hc2⟩ := h4 i hi
   obtain ⟨z,hz,rfl⟩ := hel fuel' cs' y hc2
   refine ⟨z,hz,fun j u hu => ?_⟩
   rw [hc] at hc1
   obtain ⟨g1,g2⟩ := cells_get hc1
   have hj : j < m := by rw [← g1]; exact (List.getElem?_eq_some_iff.1 hu).1
   obtain ⟨u',hu',hcell⟩ := g2 j hj
   rw [hu] at hu'; cases hu'
   have hadd : ((⟨b,off,none⟩ : Addr).add (i * m)).add j = (⟨b,off,none⟩ : Addr).add (i * m + j) := by
    unfold Addr.add
    by_cases h0 : i * m = 0 <;> by_cases h1 : j = 0 <;> simp [h0,h1] <;> omega
   rw [hadd] at hcell
   obtain ⟨arr',e',f',h5,h6⟩ := cell_add hcell
   rw [harr] at h5; cases h5
   exact h6)
  refine ⟨some l,cap,⟨b,off,0⟩,fun l' he => ?_,fun ρ i hi => ?_,fun ρ S => ?_⟩
  ·cases he
   refine ⟨fun y hy => ?_,by rw [hl]; exact h2,h3⟩
   obtain ⟨k,hk,rfl⟩ := List.getElem_of_mem hy
   exact (hl' k _ (List.getElem?_eq_getElem hk)).1
  ·exact ⟨_,hi,by simp [hl]⟩
  ·refine .inr ⟨hT b (Array.getElem?_eq_some_iff.1 harr).1,arr,e0,fz,harr,fun k u hu => ?_⟩
   simp only [Cs.get] at hu
   cases hu2 : (flat f l)[k]? with
   | none => rw [hu2] at hu; cases hu
   | some u2 =>
    rw [hu2] at hu; simp at hu; subst hu
    obtain ⟨z,hz1,hz2⟩ := flat_some hf hm hu2
    refine ⟨u2,?_,by simp [VRel]⟩
    have := (hl' _ _ hz1).2 _ _ hz2
    rw [← this,Nat.div_add_mod']
end Go.Proofs.YtpnhfbegboogbaaGreat.SE
end
section
namespace Go.Proofs.YtpnhfbegboogbaaGreat.SE
open Go
open Go.RowKit

section
variable {α : Type} (f : α->List Value) (e : TypeId) (sz : Nat)
end
section
variable {α : Type} {f : α->List Value} {e : TypeId} {sz : Nat}
end
def renOf (as : List Loc) : Ren := fun i => as[i]?
def HoldsAll (W : World) (T : Nat->Prop) (ρ : Ren) : List AObj->List Loc->Prop
 | [],[] => True
 | o :: os,a :: as => OHolds ρ W T a (fun _ => False) o/\HoldsAll W T ρ os as
 | _,_ => False
theorem HoldsAll.get {W : World} {T : Nat->Prop} {ρ : Ren} : ∀ {os : List AObj} {as : List Loc},HoldsAll W T ρ os as->as.length = os.length/\∀ (i : Nat) (o : AObj),os[i]? = some o->∃ a : Loc,as[i]? = some a/\OHolds ρ W T a (fun _ => False) o
 | [],[],_ => ⟨rfl,fun i o h => by simp at h⟩
 | o :: os,a :: as,⟨h1,h2⟩ => by
  obtain ⟨g1,g2⟩ := h2.get
  refine ⟨by simp [g1],fun i x hx => ?_⟩
  cases i with
  | zero => simp at hx; subst hx; exact ⟨a,rfl,h1⟩
  | succ i => simpa using g2 i x (by simpa using hx)
theorem Sp.callsOver {P : Program} {f : FuncId} {args : List AV} {K : AV->Heap->Prop} (m : Nat) (os : List AObj) (as : List Loc) (hs : Sp P f args (hO m os) K) (hm : os.length = m) (W : World) (hh : HoldsAll W (fun b => W.heap.size<=b) (renOf as) os as) {vs : Array Value}
  (hv : LRel (renOf as) args vs.toList) (hK : ∀ v h,K v h->v = .lit (.bool true)) : Calls P f vs W (fun e w' => e = .returned (.bool true)/\Below W.heap.size W w') := by
 subst hm
 obtain ⟨g1,g2⟩ := hh.get
 have hR : Rel (hOf os) (renOf as) (fun b => W.heap.size<=b) W := by
  refine ⟨fun _ _ => False,fun i o hi => ?_,fun _ _ _ _ _ _ _ _ h => h.elim,fun _ _ _ _ h => h.elim,fun i hi => ?_,fun _ h => h⟩
  ·rw [hOf_get] at hi
   exact g2 i o hi
  ·rw [hOf_next] at hi
   simp only [renOf]
   rw [List.getElem?_eq_none]; omega
 refine (hs.2 _ _ W vs hR hv).mono ?_
 rintro e w' ⟨ρ',v,u,h',_,_,_,hu,rfl,hk,hKv⟩
 have := hK _ _ hKv
 subst this
 simp only [VRel] at hu
 subst hu
 exact ⟨rfl,hk.below⟩
end Go.Proofs.YtpnhfbegboogbaaGreat.SE
end
section
namespace Go.Proofs.YtpnhfbegboogbaaGreat.SE
open Go

def cP (b : Bool) (x y : Prop) : Prop := match b with
 | true => x
 | false => y
theorem cP_intro {b : Bool} {x y : Prop} (h1 : b = true->x) (h2 : b = false->y) : cP b x y := by
 cases b with
 | true => exact h1 rfl
 | false => exact h2 rfl
theorem cP_elim {b : Bool} {x y : Prop} (h : cP b x y) : (b = true/\x) ∨ (b = false/\y) := by cases b <;> simp_all [cP]

theorem row_at {m n k j : Nat} (hk : k < n) (hj : j < m) : k * m + j < n * m/\(k * m + j) / m = k/\(k * m + j) % m = j := by
 have hm : 0 < m := by omega
 refine ⟨?_,?_,?_⟩
 ·have : (k + 1) * m<=n * m := Nat.mul_le_mul_right _ hk
  rw [Nat.add_mul] at this; omega
 ·rw [Nat.mul_comm,Nat.mul_add_div hm,Nat.div_eq_of_lt hj]; omega
 ·rw [Nat.mul_comm,Nat.mul_add_mod,Nat.mod_eq_of_lt hj]
theorem row_get {m n k j : Nat} {g : Nat->List Value} {wr : List (Nat × List Value)} {v : Value} (hk : k < n) (hj : j < m) (hv : (Cs.eff g wr k)[j]? = some v) : (Cs.row m n g wr).get (k * m + j) = some (.lit v) := by
 obtain ⟨h1,h2,h3⟩ := row_at hk hj
 have : Nat.blt (k * m + j) (n * m) = true := nblt_iff.2 h1
 simp only [Cs.get,this,cond_true,h2,h3,hv]
def rowIn : Cs->Nat->Option (Nat × Nat × Nat × (Nat->List Value) × List (Nat × List Value))
 | .row m n g wr,_ => some (0,m,n,g,wr)
 | .cat a b,j => bif Nat.blt j a.size then rowIn a j else (match rowIn b (j - a.size) with
  | some (o,r) => some (a.size + o,r)
  | none => none)
 | _,_ => none
def putRow : Cs->Nat->Cs->Cs
 | .row ..,_,r => r
 | .cat a b,j,r => bif Nat.blt j a.size then .cat (putRow a j r) b else .cat a (putRow b (j - a.size) r)
 | c,_,_ => c
theorem rowIn_cat {a b : Cs} {j : Nat} {r : Nat × Nat × Nat × (Nat->List Value) × List (Nat × List Value)} (h : rowIn (.cat a b) j = some r) :
  (j < a.size/\rowIn a j = some r) ∨ (¬ j < a.size/\∃ o,rowIn b (j - a.size) = some (o,r.2)/\r.1 = a.size + o) := by
 simp only [rowIn] at h
 cases hb : Nat.blt j a.size with
 | true => rw [hb] at h; exact .inl ⟨nblt_iff.1 hb,h⟩
 | false =>
  rw [hb] at h
  refine .inr ⟨(fun hh => by rw [nblt_iff.2 hh] at hb; cases hb),?_⟩
  simp only [cond_false] at h
  split at h
  ·rename_i o r' hr; cases h; exact ⟨o,hr,rfl⟩
  ·cases h
theorem rowIn_size : ∀ {c : Cs} {j o m n : Nat} {g : Nat->List Value} {wr : List (Nat × List Value)},rowIn c j = some (o,m,n,g,wr)->o + n * m<=c.size/\(Nat.ble o j = true ∨ o = 0) := by
 intro c
 induction c with
 | cat a b iha ihb =>
  intro j o m n g wr h
  rcases rowIn_cat h with ⟨hj,h⟩ | ⟨hj,o',h,e⟩
  ·have := iha h; simp only [Cs.size]; exact ⟨by omega,this.2⟩
  ·have := ihb h
   simp only at e; subst e
   simp only [Cs.size,Nat.ble_eq] at this ⊢
   exact ⟨by omega,.inl (by omega)⟩
 | row m' n' g' wr' =>
  intro j o m n g wr h
  simp only [rowIn,Option.some.injEq,Prod.mk.injEq] at h
  obtain ⟨rfl,rfl,rfl,rfl,rfl⟩ := h
  simp [Cs.size]
 | _ => intro j o m n g wr h; simp [rowIn] at h
theorem rowIn_get : ∀ {c : Cs} {j o m n : Nat} {g : Nat->List Value} {wr : List (Nat × List Value)},rowIn c j = some (o,m,n,g,wr)->∀ p,p < n * m->c.get (o + p) = (Cs.row m n g wr).get p := by
 intro c
 induction c with
 | cat a b iha ihb =>
  intro j o m n g wr h p hp
  rcases rowIn_cat h with ⟨hj,h⟩ | ⟨hj,o',h,e⟩
  ·have := rowIn_size h
   have hb : Nat.blt (o + p) a.size = true := nblt_iff.2 (by omega)
   simp only [Cs.get,hb,cond_true]
   rw [iha h p hp]; rfl
  ·simp only at e; subst e
   have hb : Nat.blt (a.size + o' + p) a.size = false := by
    cases hh : Nat.blt (a.size + o' + p) a.size
    ·rfl
    ·have := nblt_iff.1 hh; omega
   have := ihb h p hp
   simp only [Cs.get] at this
   simp only [Cs.get,hb,cond_false,show a.size + o' + p - a.size = o' + p by omega]
   exact this
 | row m' n' g' wr' =>
  intro j o m n g wr h p hp
  simp only [rowIn,Option.some.injEq,Prod.mk.injEq] at h
  obtain ⟨rfl,rfl,rfl,rfl,rfl⟩ := h
  rw [Nat.zero_add]
 | _ => intro j o m n g wr h; simp [rowIn] at h
theorem getN_row {h : Heap} {i : Nat} {ob : AObj} {c : Cs} {j0 o m n k : Nat} {g : Nat->List Value} {wr : List (Nat × List Value)} (hi : h.get i = some ob) (hc : ob.conts = some c) (hr : rowIn c j0 = some (o,m,n,g,wr)) (hk : k < n) :
  ∀ (vs : List Value) (j : Nat),j + vs.length<=m->(∀ q,q < vs.length->(Cs.eff g wr k)[j + q]? = vs[q]?)->getN h i (o + (k * m + j)) vs.length = some (vs.map .lit)
 | [],j,_,_ => rfl
 | v :: vs,j,hm,hv => by
  simp only [List.length_cons] at hm
  have h0 := hv 0 (by simp)
  simp only [Nat.add_zero,List.getElem?_cons_zero] at h0
  have hcell : cellAt h i (o + (k * m + j)) = some (.lit v) := by simp only [cellAt,hi,hc]; rw [rowIn_get hr _ (row_at hk (by omega)).1]; exact row_get hk (by omega) h0
  have ih := getN_row hi hc hr hk vs (j + 1) (by omega) (fun q hq => by
   have := hv (q + 1) (by simpa using hq)
   rw [List.getElem?_cons_succ] at this
   rw [← this]; congr 1; omega)
  rw [show o + (k * m + (j + 1)) = o + (k * m + j) + 1 by omega] at ih
  simp [getN,hcell,ih]

def vElem (g : Nat->List Value) (wr : List (Nat × List Value)) (k : Nat) (Q : List Value->Prop) : Prop := match wr with
 | [] => Q (g k)
 | (q,c) :: r => cP (Nat.beq k q) (Q c) (vElem g r k Q)
theorem vElem_ok {g : Nat->List Value} {k : Nat} {Q : List Value->Prop} : ∀ {wr : List (Nat × List Value)},vElem g wr k Q->Q (Cs.eff g wr k)
 | [],h => h
 | (q,c) :: r,h => by
  simp only [vElem] at h
  simp only [Cs.eff]
  rcases cP_elim h with ⟨hb,h⟩ | ⟨hb,h⟩
  ·rw [hb]; exact h
  ·rw [hb]; exact vElem_ok h

def rowA (tt : TT) (t : TypeId) (h : Heap) (i o : Nat) : Option (Nat × (Nat->List Value)) :=
 match tt t,h.get i with
 | some ti,some ob => match ob.conts with
  | some c => match rowIn c o with
   | some (o',m,n,g,wr) => bif Nat.beq o o' && Nat.beq m 1 && Nat.beq n ti.size && Nat.blt 8 n && ti.agg then some (n,Cs.eff g wr) else none
   | none => none
  | none => none
 | _,_ => none
theorem getN_arr {h : Heap} {i : Nat} {ob : AObj} {c : Cs} {j0 o N : Nat} {g : Nat->List Value} {wr : List (Nat × List Value)} (hi : h.get i = some ob) (hc : ob.conts = some c) (hr : rowIn c j0 = some (o,1,N,g,wr)) :
  ∀ (n p : Nat),p + n<=N->∃ L,getN h i (o + p) n = some L/\∀ q,q < n->L[q]? = (Cs.row 1 N g wr).get (p + q)
 | 0,p,_ => ⟨[],rfl,fun q hq => absurd hq (Nat.not_lt_zero _)⟩
 | n + 1,p,hp => by
  obtain ⟨v,hv⟩ : ∃ v,(Cs.row 1 N g wr).get p = some v := by
   simp only [Cs.get,nblt_iff.2 (show p < N * 1 by omega),cond_true]
   split <;> exact ⟨_,rfl⟩
  have hcell : cellAt h i (o + p) = some v := by simp only [cellAt,hi,hc]; rw [rowIn_get hr _ (by omega)]; exact hv
  obtain ⟨L,h1,h2⟩ := getN_arr hi hc hr n (p + 1) (by omega)
  refine ⟨v :: L,by simp only [getN,hcell]; rw [show o + p + 1 = o + (p + 1) by omega,h1],fun q hq => ?_⟩
  cases q with
  | zero => simpa using hv.symm
  | succ q => rw [List.getElem?_cons_succ,h2 q (by omega)]; congr 1; omega
theorem rowA_ok {P : Program} {tt : TT} (hT : tt.ok P) {h : Heap} {ρ : Ren} {T : Nat->Prop} {w : World} (hR : Rel h ρ T w) {t : TypeId} {i o n : Nat} {f : Nat->List Value} {u : Value}
  (hr : rowA tt t h i o = some (n,f)) (hu : VRel ρ (.ptr i o) u) : ROk P (Instr.loadAt t u) ρ w (.arr n f) := by
 unfold rowA at hr
 split at hr
 ·rename_i ti ob hti hi
  split at hr
  ·rename_i c hc
   split at hr
   ·rename_i o' m N g wr hrow
    cases hb : (Nat.beq o o' && Nat.beq m 1 && Nat.beq N ti.size && Nat.blt 8 N && ti.agg) with
    | false => rw [hb] at hr; cases hr
    | true =>
     rw [hb] at hr; cases hr
     simp only [Bool.and_eq_true] at hb
     obtain ⟨⟨⟨⟨h1,h2⟩,h3⟩,_⟩,hagg⟩ := hb
     have := Nat.eq_of_beq_eq_true h1; subst this
     have := Nat.eq_of_beq_eq_true h2; subst this
     have := Nat.eq_of_beq_eq_true h3; subst this
     obtain ⟨L,hL,hget⟩ := getN_arr hi hc hrow ti.size 0 (by omega)
     rw [Nat.add_zero] at hL
     obtain ⟨v,hrun,hv⟩ := loadA_ok (P := P) hT hR (t := t) (a := .ptr i o) (v := .agg L) (by simp [loadA,hti,hagg,hL]) hu
     refine ⟨v,hrun,?_⟩
     simp only [VRel] at hv ⊢
     obtain ⟨vs,rfl,hlr⟩ := hv
     refine ⟨vs,rfl,?_,fun k x hk hx => ?_⟩
     ·rw [← Array.length_toList,← hlr.length]; exact getN_length hL
     ·have hg := hget k hk
      rw [Nat.zero_add] at hg
      have hx' : (Cs.row 1 ti.size g wr).get k = some (.lit x) := by
       simp only [Cs.get,nblt_iff.2 (show k < ti.size * 1 by omega),cond_true,Nat.div_one,Nat.mod_one,hx]
      rw [hx'] at hg
      obtain ⟨y,hy,hyr⟩ := hlr.get k _ hg
      simp only [VRel] at hyr; subst hyr
      simpa using hy
   ·cases hr
  ·cases hr
 ·cases hr

def vLoadRow (ti : TI) (m n : Nat) (g : Nat->List Value) (wr : List (Nat × List Value)) (k j : Nat) (Q : AV->Prop) : Prop :=
 bif Nat.ble (j + ti.size) m then (k < n/\vElem g wr k fun l => bif ti.agg then (bif Nat.ble (j + ti.size) l.length then Q (.agg (((l.drop j).take ti.size).map .lit)) else False) else (match l[j]? with
  | some v => bif Nat.beq ti.size 1 then Q (.lit v) else False
  | none => False)) else False
def vTyped (d : TD) (l : List Value) (Q : AV->Prop) : Prop := match d with
 | .bool => ∃ b,l[0]? = some (.bool b)/\Q (.lit (.bool b))
 | .int k => ∃ z,l[0]? = some (.int k z)/\Q (.lit (.int k z))
 | _ => match l[0]? with
  | some v => Q (.lit v)
  | none => False
theorem vTyped_ok {d : TD} {l : List Value} {Q : AV->Prop} (h : vTyped d l Q) : ∃ v,l[0]? = some v/\Q (.lit v) := by
 unfold vTyped at h
 split at h
 ·obtain ⟨b,h1,h2⟩ := h; exact ⟨_,h1,h2⟩
 ·obtain ⟨b,h1,h2⟩ := h; exact ⟨_,h1,h2⟩
 ·split at h
  ·rename_i v hv; exact ⟨_,hv,h⟩
  ·exact h.elim
def vLoadFlat (ti : TI) (n : Nat) (g : Nat->List Value) (wr : List (Nat × List Value)) (p : Nat) (Q : AV->Prop) : Prop :=
 bif ti.agg && Nat.blt 8 ti.size then (p + ti.size<=n/\Q (.arr ti.size (fun q => Cs.eff g wr (p + q)))) else bif !ti.agg && Nat.beq ti.size 1 then (p < n/\vElem g wr p fun l => vTyped ti.desc l Q) else False
def vLoad (tt : TT) (t : TypeId) (a : AV) (h : Heap) (Q : AV->Prop) : Prop :=
 match a with
 | .ptrE i k m j => match tt t,h.get i with
  | some ti,some ob => match ob.conts with
   | some c => match rowIn c j with
    | some (o,m',n,g,wr) => bif Nat.beq m m' && Nat.ble o j then vLoadRow ti m n g wr k (j - o) Q else bif Nat.beq m' 1 && Nat.beq o 0 then vLoadFlat ti n g wr (k * m + j) Q else False
    | none => False
   | none => False
  | _,_ => False
 | .ptr i o => match rowA tt t h i o with
  | some (n,f) => Q (.arr n f)
  | none => match loadA tt t (.ptr i o) h with
   | some v => Q v
   | none => False
 | a => match loadA tt t a h with
  | some v => Q v
  | none => False
theorem loadRow_ok {P : Program} {tt : TT} (hT : tt.ok P) {h : Heap} {ρ : Ren} {T : Nat->Prop} {w : World} (hR : Rel h ρ T w) {t : TypeId} {ti : TI} {u : Value} {Q : AV->Prop} {i m n k j j0 o : Nat} {ob : AObj} {c : Cs} {g : Nat->List Value} {wr : List (Nat × List Value)}
  (hti : tt t = some ti) (hi : h.get i = some ob) (hc : ob.conts = some c) (hr : rowIn c j0 = some (o,m,n,g,wr)) (hl : vLoadRow ti m n g wr k j Q) (hu : VRel ρ (.ptr i (o + (k * m + j))) u) : ∃ v,ROk P (Instr.loadAt t u) ρ w v/\Q v := by
 unfold vLoadRow at hl
 cases hs : Nat.ble (j + ti.size) m with
 | false => rw [hs] at hl; exact hl.elim
 | true =>
  rw [hs] at hl; simp only [cond_true] at hl
  have hs' : j + ti.size<=m := by simpa using hs
  obtain ⟨hk,hl⟩ := hl
  have hl := vElem_ok hl
  cases hagg : ti.agg with
  | true =>
   rw [hagg] at hl; simp only [cond_true] at hl
   cases hle : Nat.ble (j + ti.size) (Cs.eff g wr k).length with
   | false => rw [hle] at hl; exact hl.elim
   | true =>
    rw [hle] at hl; simp only [cond_true] at hl
    have hle' : j + ti.size<=(Cs.eff g wr k).length := by simpa using hle
    have hlen : (((Cs.eff g wr k).drop j).take ti.size).length = ti.size := by simp; omega
    have hg := getN_row hi hc hr hk (((Cs.eff g wr k).drop j).take ti.size) j (by omega) (fun q hq => by
     rw [hlen] at hq; rw [List.getElem?_take,if_pos hq,List.getElem?_drop])
    rw [hlen] at hg
    exact ⟨_,loadA_ok hT hR (a := .ptr i (o + (k * m + j))) (by simp [loadA,hti,hagg,hg]) hu,hl⟩
  | false =>
   rw [hagg] at hl; simp only [cond_false] at hl
   split at hl
   ·rename_i v hv
    cases h1 : Nat.beq ti.size 1 with
    | false => rw [h1] at hl; exact hl.elim
    | true =>
     rw [h1] at hl; simp only [cond_true] at hl
     have h1' := Nat.eq_of_beq_eq_true h1
     have hcell : cellAt h i (o + (k * m + j)) = some (.lit v) := by
      simp only [cellAt,hi,hc]; rw [rowIn_get hr _ (row_at hk (by omega)).1]; exact row_get hk (by omega) hv
     exact ⟨_,loadA_ok hT hR (a := .ptr i (o + (k * m + j))) (by simp [loadA,hti,hagg,hcell]) hu,hl⟩
   ·exact hl.elim
theorem loadFlat_ok {P : Program} {tt : TT} (hT : tt.ok P) {h : Heap} {ρ : Ren} {T : Nat->Prop} {w : World} (hR : Rel h ρ T w) {t : TypeId} {ti : TI} {u : Value} {Q : AV->Prop} {i n p j0 : Nat} {ob : AObj} {c : Cs} {g : Nat->List Value} {wr : List (Nat × List Value)}
  (hti : tt t = some ti) (hi : h.get i = some ob) (hc : ob.conts = some c) (hr : rowIn c j0 = some (0,1,n,g,wr)) (hl : vLoadFlat ti n g wr p Q) (hu : VRel ρ (.ptr i p) u) : ∃ v,ROk P (Instr.loadAt t u) ρ w v/\Q v := by
 unfold vLoadFlat at hl
 cases hb : (ti.agg && Nat.blt 8 ti.size) with
 | false =>
  rw [hb] at hl; simp only [cond_false] at hl
  cases hb2 : (!ti.agg && Nat.beq ti.size 1) with
  | false => rw [hb2] at hl; exact hl.elim
  | true =>
   rw [hb2] at hl; simp only [cond_true] at hl
   simp only [Bool.and_eq_true,Bool.not_eq_true'] at hb2
   obtain ⟨hp,hl⟩ := hl
   obtain ⟨v,hv,hl⟩ := vTyped_ok (vElem_ok hl)
   have hcell : cellAt h i p = some (.lit v) := by
    simp only [cellAt,hi,hc]
    have := rowIn_get hr p (by omega)
    rw [Nat.zero_add] at this
    rw [this]
    have := row_get (m := 1) (g := g) (wr := wr) (n := n) (k := p) (j := 0) (v := v) hp (by omega) hv
    simpa using this
   exact ⟨_,loadA_ok hT hR (a := .ptr i p) (by simp [loadA,hti,hb2.1,hcell]) hu,hl⟩
 | true =>
  rw [hb] at hl; simp only [cond_true] at hl
  simp only [Bool.and_eq_true] at hb
  obtain ⟨hle,hl⟩ := hl
  obtain ⟨L,hL,hget⟩ := getN_arr hi hc hr ti.size p hle
  rw [Nat.zero_add] at hL
  obtain ⟨v,hrun,hv⟩ := loadA_ok (P := P) hT hR (t := t) (a := .ptr i p) (v := .agg L) (by simp [loadA,hti,hb.1,hL]) hu
  refine ⟨_,⟨v,hrun,?_⟩,hl⟩
  simp only [VRel] at hv ⊢
  obtain ⟨vs,rfl,hlr⟩ := hv
  refine ⟨vs,rfl,?_,fun k x hk hx => ?_⟩
  ·rw [← Array.length_toList,← hlr.length]; exact getN_length hL
  ·have hg := hget k hk
   have hx' : (Cs.row 1 n g wr).get (p + k) = some (.lit x) := by
    simp only [Cs.get,nblt_iff.2 (show p + k < n * 1 by omega),cond_true,Nat.div_one,Nat.mod_one,hx]
   rw [hx'] at hg
   obtain ⟨y,hy,hyr⟩ := hlr.get k _ hg
   simp only [VRel] at hyr; subst hyr
   simpa using hy
theorem vLoad_ok {P : Program} {tt : TT} (hT : tt.ok P) {h : Heap} {ρ : Ren} {T : Nat->Prop} {w : World} (hR : Rel h ρ T w) {t : TypeId} {a : AV} {u : Value} {Q : AV->Prop}
  (hl : vLoad tt t a h Q) (hu : VRel ρ a u) : ∃ v,ROk P (Instr.loadAt t u) ρ w v/\Q v := by
 unfold vLoad at hl
 split at hl
 ·rename_i i k m j
  split at hl
  ·rename_i ti ob hti hi
   split at hl
   ·rename_i c hc
    split at hl
    ·rename_i o m' n g wr hr
     cases hb : Nat.beq m m' && Nat.ble o j with
     | false =>
      rw [hb] at hl; simp only [cond_false] at hl
      cases hb2 : Nat.beq m' 1 && Nat.beq o 0 with
      | false => rw [hb2] at hl; exact hl.elim
      | true =>
       rw [hb2] at hl; simp only [cond_true] at hl
       simp only [Bool.and_eq_true] at hb2
       have := Nat.eq_of_beq_eq_true hb2.1; subst this
       have := Nat.eq_of_beq_eq_true hb2.2; subst this
       exact loadFlat_ok hT hR hti hi hc hr hl (by simpa only [VRel] using hu)
     | true =>
      rw [hb] at hl; simp only [cond_true] at hl
      simp only [Bool.and_eq_true,Nat.ble_eq] at hb
      obtain ⟨hb,hoj⟩ := hb
      have := Nat.eq_of_beq_eq_true hb; subst this
      refine loadRow_ok hT hR hti hi hc hr hl ?_
      simp only [VRel] at hu ⊢
      rw [show o + (k * m + (j - o)) = k * m + j by omega]; exact hu
    ·exact hl.elim
   ·exact hl.elim
  ·exact hl.elim
 ·rename_i i o
  split at hl
  ·rename_i n f hr
   exact ⟨_,rowA_ok hT hR hr hu,hl⟩
  ·split at hl
   ·rename_i v hv
    exact ⟨v,loadA_ok hT hR hv hu,hl⟩
   ·exact hl.elim
 ·split at hl
  ·rename_i v hv
   exact ⟨v,loadA_ok hT hR hv hu,hl⟩
  ·exact hl.elim

def withC (x : AObj) (c : Cs) : AObj := match x with
 | .cells e _ => .cells e c
 | .room e _ => .room e c
 | x => x

theorem crel_cat {ρ : Ren} {x y : Cs} {arr : Array Value} {b : Nat} : CRel ρ (.cat x y) arr b ↔ CRel ρ x arr b/\CRel ρ y arr (b + x.size) := by
 constructor
 ·intro h
  refine ⟨fun k v hk => ?_,fun k v hk => ?_⟩
  ·exact h k v (by simp only [Cs.get,nblt_iff.2 (Cs.get_lt hk),cond_true]; exact hk)
  ·have hb : Nat.blt (x.size + k) x.size = false := by
    cases hh : Nat.blt (x.size + k) x.size
    ·rfl
    ·have := nblt_iff.1 hh; omega
   obtain ⟨u,hu,hr⟩ := h (x.size + k) v (by simp only [Cs.get,hb,cond_false,Nat.add_sub_cancel_left]; exact hk)
   exact ⟨u,by rw [Nat.add_assoc]; exact hu,hr⟩
 ·rintro ⟨h1,h2⟩ k v hk
  simp only [Cs.get] at hk
  cases hb : Nat.blt k x.size with
  | true => rw [hb] at hk; exact h1 k v hk
  | false =>
   have : ¬ k < x.size := fun hh => by rw [nblt_iff.2 hh] at hb; cases hb
   rw [hb] at hk
   obtain ⟨u,hu,hr⟩ := h2 _ v hk
   exact ⟨u,by rw [← hu]; congr 1; omega,hr⟩
theorem rowIn_rel {ρ : Ren} {arr : Array Value} : ∀ {c : Cs} {j o m n b : Nat} {g : Nat->List Value} {wr : List (Nat × List Value)},rowIn c j = some (o,m,n,g,wr)->CRel ρ c arr b->CRel ρ (.row m n g wr) arr (b + o) := by
 intro c j o m n b g wr h hc p v hv
 have hlt := Cs.get_lt hv
 simp only [Cs.size] at hlt
 obtain ⟨u,hu,hr⟩ := hc (o + p) v (by rw [rowIn_get h p hlt]; exact hv)
 exact ⟨u,by rw [Nat.add_assoc]; exact hu,hr⟩
theorem putRow_size : ∀ {c : Cs} {j o m n : Nat} {g : Nat->List Value} {wr : List (Nat × List Value)} {r : Cs},rowIn c j = some (o,m,n,g,wr)->r.size = n * m->(putRow c j r).size = c.size := by
 intro c
 induction c with
 | cat a b iha ihb =>
  intro j o m n g wr r h hr
  rcases rowIn_cat h with ⟨hj,h⟩ | ⟨hj,o',h,e⟩
  ·simp only [putRow,nblt_iff.2 hj,cond_true,Cs.size,iha h hr]
  ·have hb : Nat.blt j a.size = false := by
    cases hh : Nat.blt j a.size
    ·rfl
    ·exact absurd (nblt_iff.1 hh) hj
   simp only [putRow,hb,cond_false,Cs.size,ihb h hr]
 | row m' n' g' wr' =>
  intro j o m n g wr r h hr
  simp only [rowIn,Option.some.injEq,Prod.mk.injEq] at h
  obtain ⟨rfl,rfl,rfl,rfl,rfl⟩ := h
  simp only [putRow,hr,Cs.size]
 | _ => intro j o m n g wr r h; simp [rowIn] at h
theorem putRow_rel {ρ : Ren} {arr arr' : Array Value} : ∀ {c : Cs} {j o m n b : Nat} {g : Nat->List Value} {wr : List (Nat × List Value)} {r : Cs},rowIn c j = some (o,m,n,g,wr)->r.size = n * m->CRel ρ c arr b ->
  (∀ q,¬ (b + o<=q/\q < b + o + n * m)->arr'[q]? = arr[q]?)->CRel ρ r arr' (b + o)->CRel ρ (putRow c j r) arr' b := by
 intro c
 induction c with
 | cat a y iha ihb =>
  intro j o m n b g wr r h hr hc hq hn
  rw [crel_cat] at hc
  rcases rowIn_cat h with ⟨hj,h⟩ | ⟨hj,o',h,e⟩
  ·simp only [putRow,nblt_iff.2 hj,cond_true]
   rw [crel_cat,putRow_size h hr]
   refine ⟨iha h hr hc.1 hq hn,fun p v hv => ?_⟩
   obtain ⟨u,hu,hr⟩ := hc.2 p v hv
   have := (rowIn_size h).1
   exact ⟨u,by rw [hq _ (by omega)]; exact hu,hr⟩
  ·simp only at e; subst e
   have hb : Nat.blt j a.size = false := by
    cases hh : Nat.blt j a.size
    ·rfl
    ·exact absurd (nblt_iff.1 hh) hj
   simp only [putRow,hb,cond_false]
   rw [crel_cat]
   refine ⟨fun p v hv => ?_,ihb h hr hc.2 (fun q hh => hq q (by omega)) (by rw [Nat.add_assoc]; exact hn)⟩
   obtain ⟨u,hu,hr⟩ := hc.1 p v hv
   have := Cs.get_lt hv
   exact ⟨u,by rw [hq _ (by omega)]; exact hu,hr⟩
 | row m' n' g' wr' =>
  intro j o m n b g wr r h hr hc hq hn
  simp only [rowIn,Option.some.injEq,Prod.mk.injEq] at h
  obtain ⟨rfl,rfl,rfl,rfl,rfl⟩ := h
  exact hn
 | _ => intro j o m n b g wr r h; simp [rowIn] at h

theorem run_storeCells_row {P : Program} {h : Heap} {ρ : Ren} {T : Nat->Prop} {w : World} (hR : Rel h ρ T w) {i m n k j j0 o : Nat} {ob : AObj} {c : Cs} {g : Nat->List Value} {wr : List (Nat × List Value)} {a : Loc} {cs : List Value}
  (hi : h.get i = some ob) (hrow : isOwnRow ob = true) (hc : ob.conts = some c) (hr : rowIn c j0 = some (o,m,n,g,wr)) (ha : ρ i = some a) (hk : k < n) (hj : j + cs.length<=m) (hle : j + cs.length<=(Cs.eff g wr k).length) (h1 : ∀ u ∈ cs,u.oneCell' = true) :
  ∃ w',(storeCells ⟨a.blk,a.base + (o + (k * m + j)),none⟩ cs).run P w = .ok () w'/\Rel (h.set i (withC ob (putRow c j0 (.row m n g ((k,Cs.spliceV j cs (Cs.eff g wr k)) :: wr))))) ρ T w'/\Keeps T w w' := by
 have hKM : k * m + m<=n * m := by
  have : (k + 1) * m<=n * m := Nat.mul_le_mul_right _ hk
  rw [Nat.add_mul] at this; omega
 have key : ∀ (arr arr' : Array Value),CRel ρ (.row m n g wr) arr o->o + n * m<=arr.size->arr'.size = arr.size ->
   (∀ q,arr'[o + q]? = if k * m + j<=q/\q < k * m + j + cs.length then cs[q - (k * m + j)]? else arr[o + q]?)->CRel ρ (.row m n g ((k,Cs.spliceV j cs (Cs.eff g wr k)) :: wr)) arr' o := by
  intro arr arr' hcr hsz hsz' hget q v hv
  have hlt := Cs.get_lt hv
  simp only [Cs.size] at hlt
  simp only [Cs.get,nblt_iff.2 hlt,cond_true] at hv
  have hm : 0 < m := by
   rcases Nat.eq_zero_or_pos m with h0 | h0
   ·subst h0; simp at hlt
   ·exact h0
  have hqm := Nat.div_add_mod' q m
  have hqlt := Nat.mod_lt q hm
  rw [hget]
  have old : ∀ x,(Cs.eff g wr (q / m))[q % m]? = some x->∃ u,arr[o + q]? = some u/\VRel ρ (.lit x) u := fun x hx => by
   have : (Cs.row m n g wr).get q = some (.lit x) := by simp only [Cs.get,nblt_iff.2 hlt,cond_true,hx]
   obtain ⟨u,hu,hr⟩ := hcr q _ this
   exact ⟨u,hu,hr⟩
  have hsp : ∀ p,(Cs.spliceV j cs (Cs.eff g wr k))[p]? = if j<=p/\p < j + cs.length then cs[p - j]? else (Cs.eff g wr k)[p]? := fun p => Cs.splice_get j cs _ hle p
  by_cases hqk : q / m = k
  ·rw [hqk] at hv
   simp only [Cs.eff,Nat.beq_refl,cond_true,hsp] at hv
   by_cases hin : j<=q % m/\q % m < j + cs.length
   ·rw [if_pos hin] at hv
    rw [hqk] at hqm
    rw [if_pos (by omega),show q - (k * m + j) = q % m - j by omega]
    split at hv
    ·rename_i x hx; cases hv; exact ⟨x,hx,by simp [VRel]⟩
    ·rename_i hx
     rw [List.getElem?_eq_none_iff] at hx
     omega
   ·rw [if_neg hin] at hv
    rw [hqk] at hqm
    rw [if_neg fun hh => hin ⟨by omega,by omega⟩]
    split at hv
    ·rename_i x hx; cases hv; exact old x (by rw [hqk]; exact hx)
    ·cases hv; exact ⟨arr[o + q],Array.getElem?_eq_getElem (by omega),by simp [VRel]⟩
  ·simp only [Cs.eff,nbeq_ne hqk,cond_false] at hv
   have hne : ¬ (k * m + j<=q/\q < k * m + j + cs.length) := fun hh => by
    apply hqk
    exact Nat.div_eq_of_lt_le (by omega) (by rw [Nat.add_mul]; omega)
   rw [if_neg hne]
   split at hv
   ·rename_i x hx; cases hv; exact old x hx
   ·cases hv; exact ⟨arr[o + q],Array.getElem?_eq_getElem (by omega),by simp [VRel]⟩
 obtain ⟨S,r1,_⟩ := id hR
 obtain ⟨a',ha',ho⟩ := r1 i _ hi
 obtain rfl : a' = a := Option.some.inj (ha'.symm.trans ha)
 have main : ∀ (e : TypeId) (arr : Array Value),a'.base = 0->w.heap[a'.blk]? = some (.cells arr e (0,0))->c.size<=arr.size->CRel ρ c arr 0->(∀ S,OHolds ρ w T a' S ob->S a'.blk) ->
   (∀ S (w' : World) arr',S a'.blk->OHolds ρ w T a' S ob->w'.heap[a'.blk]? = some (.cells arr' e (0,0))->arr'.size = arr.size->CRel ρ (putRow c j0 (.row m n g ((k,Cs.spliceV j cs (Cs.eff g wr k)) :: wr))) arr' 0 ->
    OHolds ρ w' T a' S (withC ob (putRow c j0 (.row m n g ((k,Cs.spliceV j cs (Cs.eff g wr k)) :: wr))))) ->
   ∃ w',(storeCells ⟨a'.blk,a'.base + (o + (k * m + j)),none⟩ cs).run P w = .ok () w'/\Rel (h.set i (withC ob (putRow c j0 (.row m n g ((k,Cs.spliceV j cs (Cs.eff g wr k)) :: wr))))) ρ T w'/\Keeps T w w' := by
  intro e arr h0 hb hsz hcr hown hnew
  have hrs := (rowIn_size hr).1
  obtain ⟨w',arr',hrun,hb',hsz',hw,hne,ho1,ho2,ho3,hget⟩ := run_storeCells (P := P) a'.blk cs (a'.base + (o + (k * m + j))) 0 w arr hb h1 (by omega)
  have hget0 : ∀ q,arr'[q]? = if o + (k * m + j)<=q/\q < o + (k * m + j) + cs.length then cs[q - (o + (k * m + j))]? else arr[q]? := fun q => by
   rw [hget]; simp only [h0,Nat.zero_add,Nat.add_zero]
  have hget' : ∀ q,arr'[o + q]? = if k * m + j<=q/\q < k * m + j + cs.length then cs[q - (k * m + j)]? else arr[o + q]? := fun q => by
   rw [hget0]
   by_cases hh : k * m + j<=q/\q < k * m + j + cs.length
   ·rw [if_pos hh,if_pos (by omega)]; congr 1; omega
   ·rw [if_neg hh,if_neg (by omega)]
  have hrow1 := rowIn_rel hr hcr
  rw [Nat.zero_add] at hrow1
  have hnew1 := putRow_rel (arr' := arr') (r := (.row m n g ((k,Cs.spliceV j cs (Cs.eff g wr k)) :: wr))) hr rfl hcr (fun q hq => by rw [hget0,if_neg (by omega)]) (by rw [Nat.zero_add]; exact key arr arr' hrow1 (by omega) hsz' hget')
  refine ⟨w',hrun,hR.upd hi ha hw hne hown fun S hS hx => hnew S w' arr' hS hx hb' hsz' hnew1,⟨by omega,ho1,ho2,ho3,fun b hb2 => hne b fun hbb => hb2 ?_⟩⟩
  subst hbb
  exact hR.own_T hi ha hown
 cases ob with
 | cells e c' =>
  simp only [AObj.conts,Option.some.injEq] at hc; subst hc
  obtain ⟨h0,hS,arr,hb,hsz,hlim,hcr⟩ := ho
  refine main e arr h0 hb (by omega) hcr (fun S' h => h.2.1) fun S' w' arr' hS' hx hb' hsz' hc' => ?_
  exact ⟨h0,hS',arr',hb',by rw [hsz',hsz]; exact (putRow_size hr rfl).symm,by rw [hlim]; exact (putRow_size hr rfl).symm,hc'⟩
 | room e c' =>
  simp only [AObj.conts,Option.some.injEq] at hc; subst hc
  obtain ⟨h0,hS,arr,hb,hsz,hle',hcr⟩ := ho
  refine main e arr h0 hb (by omega) hcr (fun S' h => h.2.1) fun S' w' arr' hS' hx hb' hsz' hc' => ?_
  exact ⟨h0,hS',arr',hb',by omega,by rw [putRow_size hr rfl]; exact hle',hc'⟩
 | _ => simp [isOwnRow] at hrow

theorem run_storeCells_c {P : Program} {h : Heap} {ρ : Ren} {T : Nat->Prop} {w : World} (hR : Rel h ρ T w) {i p : Nat} {ob : AObj} {c d : Cs} {a : Loc} {cs : List Value}
  (hi : h.get i = some ob) (hrow : isOwnRow ob = true) (hc : ob.conts = some c) (ha : ρ i = some a) (hp : p + cs.length<=c.size) (h1 : ∀ u ∈ cs,u.oneCell' = true) (hd : d.size = c.size)
  (key : ∀ (arr arr' : Array Value),CRel ρ c arr 0->c.size<=arr.size->arr'.size = arr.size->(∀ q,arr'[q]? = if p<=q/\q < p + cs.length then cs[q - p]? else arr[q]?)->CRel ρ d arr' 0) :
  ∃ w',(storeCells ⟨a.blk,a.base + p,none⟩ cs).run P w = .ok () w'/\Rel (h.set i (withC ob d)) ρ T w'/\Keeps T w w' := by
 obtain ⟨S,r1,_⟩ := id hR
 obtain ⟨a',ha',ho⟩ := r1 i _ hi
 obtain rfl : a' = a := Option.some.inj (ha'.symm.trans ha)
 have main : ∀ (e : TypeId) (arr : Array Value),a'.base = 0->w.heap[a'.blk]? = some (.cells arr e (0,0))->c.size<=arr.size->CRel ρ c arr 0->(∀ S,OHolds ρ w T a' S ob->S a'.blk) ->
   (∀ S (w' : World) arr',S a'.blk->OHolds ρ w T a' S ob->w'.heap[a'.blk]? = some (.cells arr' e (0,0))->arr'.size = arr.size->CRel ρ d arr' 0->OHolds ρ w' T a' S (withC ob d)) ->
   ∃ w',(storeCells ⟨a'.blk,a'.base + p,none⟩ cs).run P w = .ok () w'/\Rel (h.set i (withC ob d)) ρ T w'/\Keeps T w w' := by
  intro e arr h0 hb hsz hcr hown hnew
  obtain ⟨w',arr',hrun,hb',hsz',hw,hne,ho1,ho2,ho3,hget⟩ := run_storeCells (P := P) a'.blk cs (a'.base + p) 0 w arr hb h1 (by omega)
  have hget0 : ∀ q,arr'[q]? = if p<=q/\q < p + cs.length then cs[q - p]? else arr[q]? := fun q => by
   rw [hget]; simp only [h0,Nat.zero_add,Nat.add_zero]
  refine ⟨w',hrun,hR.upd hi ha hw hne hown fun S hS hx => hnew S w' arr' hS hx hb' hsz' (key arr arr' hcr hsz hsz' hget0),⟨by omega,ho1,ho2,ho3,fun b hb2 => hne b fun hbb => hb2 ?_⟩⟩
  subst hbb
  exact hR.own_T hi ha hown
 cases ob with
 | cells e c' =>
  simp only [AObj.conts,Option.some.injEq] at hc; subst hc
  obtain ⟨h0,hS,arr,hb,hsz,hlim,hcr⟩ := ho
  refine main e arr h0 hb (by omega) hcr (fun S' h => h.2.1) fun S' w' arr' hS' hx hb' hsz' hc' => ?_
  exact ⟨h0,hS',arr',hb',by rw [hsz',hsz]; exact hd.symm,by rw [hlim]; exact hd.symm,hc'⟩
 | room e c' =>
  simp only [AObj.conts,Option.some.injEq] at hc; subst hc
  obtain ⟨h0,hS,arr,hb,hsz,hle',hcr⟩ := ho
  refine main e arr h0 hb (by omega) hcr (fun S' h => h.2.1) fun S' w' arr' hS' hx hb' hsz' hc' => ?_
  exact ⟨h0,hS',arr',hb',by omega,by rw [hd]; exact hle',hc'⟩
 | _ => simp [isOwnRow] at hrow

def stoA (tt : TT) (t : TypeId) (i o n : Nat) (g : Nat->List Value) (h : Heap) (Q : Heap->Prop) : Prop :=
 match tt t,h.get i with
 | some ti,some ob => match ob.conts with
  | some c => match rowIn c o with
   | some (o',m,N,_,_) => bif Nat.beq o o' && Nat.beq m 1 && Nat.beq n N && Nat.beq n ti.size && isOwnRow ob then ((∀ k,k < n->(Nat.beq (g k).length 1 && (g k).all Value.oneCell') = true)/\Q (h.set i (withC ob (putRow c o (.row 1 n g []))))) else False
   | none => False
  | none => False
 | _,_ => False
theorem stoA_ok {P : Program} {tt : TT} (hT : tt.ok P) {h : Heap} {ρ : Ren} {T : Nat->Prop} {w : World} (hR : Rel h ρ T w) {t : TypeId} {i o n : Nat} {g : Nat->List Value} {u x : Value} {Q : Heap->Prop}
  (hl : stoA tt t i o n g h Q) (hu : VRel ρ (.ptr i o) u) (hx : VRel ρ (.arr n g) x) : ∃ w' h',(Instr.storeAt t u x).run P w = .ok () w'/\Rel h' ρ T w'/\h'.next = h.next/\Keeps T w w'/\Q h' := by
 unfold stoA at hl
 split at hl
 ·rename_i ti ob hti hi
  split at hl
  ·rename_i c hc
   split at hl
   ·rename_i o' m N g0 wr hr
    cases hb : (Nat.beq o o' && Nat.beq m 1 && Nat.beq n N && Nat.beq n ti.size && isOwnRow ob) with
    | false => rw [hb] at hl; exact hl.elim
    | true =>
     rw [hb] at hl; simp only [cond_true] at hl
     simp only [Bool.and_eq_true] at hb
     obtain ⟨⟨⟨⟨e1,e2⟩,e3⟩,e4⟩,hrow⟩ := hb
     have := Nat.eq_of_beq_eq_true e1; subst this
     have := Nat.eq_of_beq_eq_true e2; subst this
     have := Nat.eq_of_beq_eq_true e3; subst this
     have e4 := Nat.eq_of_beq_eq_true e4
     obtain ⟨hall,hq⟩ := hl
     simp only [VRel] at hu hx
     obtain ⟨a,ha,rfl⟩ := hu
     obtain ⟨A,rfl,hA,hg⟩ := hx
     have hel : ∀ k (hk : k < n),∃ v,g k = [v]/\v.oneCell' = true/\A[k]? = some v := fun k hk => by
      have := hall k hk
      simp only [Bool.and_eq_true,List.all_eq_true] at this
      obtain ⟨v,hv⟩ := List.length_eq_one_iff.1 (Nat.eq_of_beq_eq_true this.1)
      exact ⟨v,hv,this.2 v (by rw [hv]; simp),hg k v hk (by rw [hv]; rfl)⟩
     have hsz := (rowIn_size hr).1
     obtain ⟨w',hrun,hR',hk'⟩ := run_storeCells_c (P := P) hR (p := o) (cs := A.toList) (d := putRow c o (.row 1 n g [])) hi hrow hc ha (by rw [Array.length_toList]; omega)
      (fun y hy => by
       obtain ⟨k,hk,rfl⟩ := List.mem_iff_getElem.1 hy
       rw [Array.length_toList] at hk
       obtain ⟨v,_,h1,h2⟩ := hel k (by omega)
       rw [Array.getElem?_eq_getElem hk] at h2
       cases h2
       simpa using h1)
      (putRow_size hr rfl)
      (fun arr arr' hcr hs hs' hget => by
       refine putRow_rel hr rfl hcr (fun q hq => by rw [hget,if_neg (by rw [Array.length_toList]; omega)]) fun q v hv => ?_
       have hlt := Cs.get_lt hv
       simp only [Cs.size] at hlt
       obtain ⟨y,h1,_,h2⟩ := hel q (by omega)
       simp only [Cs.get,nblt_iff.2 hlt,cond_true,Cs.eff,Nat.div_one,Nat.mod_one,h1,List.getElem?_cons_zero] at hv
       cases hv
       refine ⟨y,?_,by simp only [VRel]⟩
       rw [hget,if_pos (by rw [Array.length_toList]; omega),show 0 + o + q - o = q by omega,Array.getElem?_toList,h2])
     refine ⟨w',_,?_,hR',by simp,hk',hq⟩
     simp only [Instr.storeAt,Instr.sureAddr,Sem.run_bind,Sem.run_pure,Result.andThen_ok,storeVar,run_sizeOf hT hti]
     have hsz2 : (Value.agg A).cells.size = ti.size := by simp only [Value.cells]; omega
     rw [if_neg (by simpa using hsz2)]
     exact hrun
   ·exact hl.elim
  ·exact hl.elim
 ·exact hl.elim

def vStore (tt : TT) (t : TypeId) (a v : AV) (h : Heap) (Q : Heap->Prop) : Prop :=
 match a with
 | .ptrE i k m j => match tt t,h.get i,acells v with
  | some ti,some ob,some cs => match ob.conts,litsOf cs with
   | some c,some vs => match rowIn c j with
    | some (o,m',n,g,wr) => bif Nat.beq m m' && Nat.ble o j && isOwnRow ob && Nat.beq vs.length ti.size && Nat.ble (j - o + vs.length) m && vs.all Value.oneCell' then (k < n/\vElem g wr k fun l =>
     bif Nat.ble (j - o + vs.length) l.length then Q (h.set i (withC ob (putRow c j (.row m n g ((k,Cs.spliceV (j - o) vs l) :: wr))))) else False) else False
    | none => False
   | _,_ => False
  | _,_,_ => False
 | .ptr i o => match v with
  | .arr n g => stoA tt t i o n g h Q
  | v => match storeA tt t (.ptr i o) v h with
   | some h' => Q h'
   | none => False
 | a => match storeA tt t a v h with
  | some h' => Q h'
  | none => False
theorem vStore_ok {P : Program} {tt : TT} (hT : tt.ok P) {h : Heap} {ρ : Ren} {T : Nat->Prop} {w : World} (hR : Rel h ρ T w) {t : TypeId} {a v : AV} {u x : Value} {Q : Heap->Prop}
  (hl : vStore tt t a v h Q) (hu : VRel ρ a u) (hx : VRel ρ v x) : ∃ w' h',(Instr.storeAt t u x).run P w = .ok () w'/\Rel h' ρ T w'/\h'.next = h.next/\Keeps T w w'/\Q h' := by
 unfold vStore at hl
 split at hl
 ·rename_i i k m j
  split at hl
  ·rename_i ti ob cs hti hi hcs
   split at hl
   ·rename_i c vs hc hvs
    split at hl
    ·rename_i o m' n g wr hr
     cases hb : (Nat.beq m m' && Nat.ble o j && isOwnRow ob && Nat.beq vs.length ti.size && Nat.ble (j - o + vs.length) m && vs.all Value.oneCell') with
     | false => rw [hb] at hl; exact hl.elim
     | true =>
      rw [hb] at hl; simp only [cond_true] at hl
      simp only [Bool.and_eq_true,List.all_eq_true,Nat.ble_eq] at hb
      obtain ⟨⟨⟨⟨⟨hm,hoj⟩,hrow⟩,hsz⟩,hjm⟩,h1⟩ := hb
      have := Nat.eq_of_beq_eq_true hm; subst this
      have hsz := Nat.eq_of_beq_eq_true hsz
      obtain ⟨hk,hl⟩ := hl
      have hl := vElem_ok hl
      cases hle : Nat.ble (j - o + vs.length) (Cs.eff g wr k).length with
      | false => rw [hle] at hl; exact hl.elim
      | true =>
       rw [hle] at hl; simp only [cond_true] at hl
       have hle' : j - o + vs.length<=(Cs.eff g wr k).length := by simpa using hle
       simp only [VRel] at hu
       obtain ⟨a,ha,rfl⟩ := hu
       have hlr := acells_spec hcs hx
       have hcl := litsOf_spec hvs
       subst hcl
       have hxv : x.cells.toList = vs := by
        have : ∀ (l : List Value) (r : List Value),LRel ρ (l.map .lit) r->r = l := by
         intro l
         induction l with
         | nil => intro r hr; simpa [LRel] using hr
         | cons y l ih => intro r hr; simp only [List.map_cons,LRel,VRel] at hr; obtain ⟨z,zs,rfl,rfl,hr⟩ := hr; rw [ih zs hr]
        exact this _ _ hlr
       obtain ⟨w',hrun,hR',hk'⟩ := run_storeCells_row (P := P) hR hi hrow hc hr ha hk hjm hle' h1
       rw [show o + (k * m + (j - o)) = k * m + j by omega] at hrun
       refine ⟨w',_,?_,hR',by simp,hk',hl⟩
       have hsz2 : x.cells.size = ti.size := by rw [← Array.length_toList,hxv,hsz]
       simp only [Instr.storeAt,Instr.sureAddr,Sem.run_bind,Sem.run_pure,Result.andThen_ok,storeVar,run_sizeOf hT hti]
       rw [if_neg (by simpa using hsz2)]
       simp only [hxv]
       exact hrun
    ·exact hl.elim
   ·exact hl.elim
  ·exact hl.elim
 ·rename_i i o
  split at hl
  ·exact stoA_ok hT hR hl hu hx
  ·split at hl
   ·rename_i h2 hs
    obtain ⟨w',h1,h3,h4,h5⟩ := storeA_ok (P := P) hT hR hs hu hx
    exact ⟨w',h2,h1,h3,h4,h5,hl⟩
   ·exact hl.elim
 ·split at hl
  ·rename_i h2 hs
   obtain ⟨w',h1,h3,h4,h5⟩ := storeA_ok (P := P) hT hR hs hu hx
   exact ⟨w',h2,h1,h3,h4,h5,hl⟩
  ·exact hl.elim
end Go.Proofs.YtpnhfbegboogbaaGreat.SE
end
section
namespace Go.Proofs.YtpnhfbegboogbaaGreat.SE
open Go

def I64 (z : Int) : Prop := -9223372036854775808<=z/\z<=9223372036854775807
def arith (k : IntKind) (z : Int) (Q : AV->Prop) : Prop := match k with
 | .i64 => I64 z/\Q (.lit (.int .i64 z))
 | k => Q (.lit (.int k (k.wrap z)))
theorem wrap_in {z : Int} (h : -9223372036854775808<=z/\z<=9223372036854775807) : IntKind.i64.wrap z = z := by
 have := h.1; have := h.2
 simp only [IntKind.wrap,IntKind.bits,IntKind.signed]
 simp
 omega
theorem arith_ok {k : IntKind} {z : Int} {Q : AV->Prop} (h : arith k z Q) : Q (.lit (.int k (k.wrap z))) := by
 unfold arith at h
 split at h
 ·rw [wrap_in h.1]; exact h.2
 ·exact h

def intOf? : AV->Option (IntKind × Int)
 | .lit (.int k a) => some (k,a)
 | _ => none
theorem intOf_some {x : AV} {k : IntKind} {a : Int} (h : intOf? x = some (k,a)) : x = .lit (.int k a) := by
 unfold intOf? at h
 split at h
 ·cases h; rfl
 ·cases h
def strOf? : AV->Option ByteArray
 | .lit (.string s) => some s
 | _ => none
theorem strOf_some {x : AV} {a : ByteArray} (h : strOf? x = some a) : x = .lit (.string a) := by
 unfold strOf? at h
 split at h
 ·cases h; rfl
 ·cases h
def vInt (op : BinOp) (k : IntKind) (a : Int) (k' : IntKind) (b : Int) (Q : AV->Prop) : Prop := match op with
 | .shl => 0<=b/\Q (.lit (.int k (k.wrap (a * 2 ^ (min b.toNat k.bits)))))
 | .shr => 0<=b/\Q (.lit (.int k (a.fdiv (2 ^ (min b.toNat k.bits)))))
 | op => if k = k' then (match op with
  | .add => arith k (a + b) Q
  | .sub => arith k (a - b) Q
  | .mul => arith k (a * b) Q
  | .quo => b ≠ 0/\arith k (a.tdiv b) Q
  | .rem => b ≠ 0/\Q (.lit (.int k (a.tmod b)))
  | op => match intN op k a b with
   | some v => Q (.lit v)
   | none => False) else False
def vStr (op : BinOp) (a b : ByteArray) (Q : AV->Prop) : Prop := match op with
 | .add => ((a.size + b.size : Nat) : Int)<=9223372036854775807/\Q (.lit (.string (a ++ b)))
 | op => match strN op a b with
  | some v => Q (.lit v)
  | none => False
def vBin (tt : TT) (op : BinOp) (t : TypeId) (x y : AV) (Q : AV->Prop) : Prop :=
 match intOf? x,intOf? y with
 | some (k,a),some (k',b) => vInt op k a k' b Q
 | _,_ => match strOf? x,strOf? y with
  | some a,some b => vStr op a b Q
  | _,_ => match binN tt op t x y with
   | some v => Q v
   | none => False

theorem vBin_ok {P : Program} {tt : TT} (hT : tt.ok P) {ρ : Ren} {op : BinOp} {t : TypeId} {xo yo : Operand} {x y : AV} {u v : Value} {Q : AV->Prop} (h : vBin tt op t x y Q)
  (hu : VRel ρ x u) (hv : VRel ρ y v) : ∃ r,NOk P (binS op t xo yo u v) ρ r/\Q r := by
 have go : ∀ r,binN tt op t x y = some r->Q r->∃ r,NOk P (binS op t xo yo u v) ρ r/\Q r := fun r hr hq => ⟨r,binN_ok hT hr hu hv,hq⟩
 unfold vBin at h
 split at h
 ·rename_i k a k' b hx hy
  have := intOf_some hx; subst this
  have := intOf_some hy; subst this
  cases op <;> simp only [vInt] at h
  case shl => exact go _ (by have : ¬ b < 0 := by omega
                             simp [binN,isSh,shN,this,lit?]) h.2
  case shr => exact go _ (by have : ¬ b < 0 := by omega
                             simp [binN,isSh,shN,this,lit?]) h.2
  all_goals
   split at h
   ·rename_i hk
    subst hk
    first
     | exact go _ (by simp [binN,isSh,intN,lit?]) (arith_ok h)
     | exact go _ (by simp [binN,isSh,intN,lit?,h.1]) (arith_ok h.2)
     | exact go _ (by simp [binN,isSh,intN,lit?,h.1]) h.2
     | exact go _ (by simp [binN,isSh,intN,lit?]) h
     | (simp only [intN] at h)
   ·exact h.elim
 ·split at h
  ·rename_i a b hx hy
   have := strOf_some hx; subst this
   have := strOf_some hy; subst this
   cases op <;> simp only [vStr] at h
   case add =>
    have hm : ¬ ((a.size + b.size : Nat) : Int) > IntKind.i64.max := by
     have : IntKind.i64.max = 9223372036854775807 := by decide
     rw [this]; omega
    exact go _ (by simp only [binN,strN,if_neg hm,lit?]) h.2
   all_goals first
    | exact go _ (by simp only [binN,strN,lit?]; rfl) (by simpa only [strN] using h)
    | (simp only [strN] at h)
  ·split at h
   ·rename_i r hr; exact go r hr h
   ·exact h.elim

def vConv (tt : TT) (src dst : TypeId) (x : AV) (Q : AV->Prop) : Prop :=
 match tt src,tt dst with
 | some ts,some td => match ts.desc,td.desc,x with
  | .int _,.int k,.lit (.int _ n) => arith k n Q
  | .string,.string,.lit (.string s) => Q (.lit (.string s))
  | _,_,_ => False
 | _,_ => False
theorem vConv_ok {P : Program} {tt : TT} (hT : tt.ok P) {ρ : Ren} {src dst : TypeId} {x : AV} {u : Value} {Q : AV->Prop} (h : vConv tt src dst x Q) (hu : VRel ρ x u) : ∃ r,NOk P (convert src dst u) ρ r/\Q r := by
 unfold vConv at h
 split at h
 ·rename_i ts td hts htd
  split at h
  ·rename_i k0 k k1 n hs hd
   exact ⟨_,convN_ok (P := P) (r := .lit (.int k (k.wrap n))) hT (by simp [convN,hts,htd,hs,hd]) hu,arith_ok h⟩
  ·rename_i s hs hd
   exact ⟨_,convN_ok (P := P) (r := .lit (.string s)) hT (by simp [convN,hts,htd,hs,hd]) hu,h⟩
  ·exact h.elim
 ·exact h.elim

def rowM (h : Heap) (i : Nat) : Nat := match h.get i with
 | some ob => match ob.conts with
  | some (.row m _ _ _) => m
  | _ => 0
 | none => 0

def rowH (h : Heap) (i o m : Nat) : Bool := match h.get i with
 | some ob => match ob.conts with
  | some c => match rowIn c o with
   | some (o',m',_,_,_) => Nat.beq o o' && Nat.beq m' m
   | none => false
  | none => false
 | none => false

def vField (tt : TT) (s : TypeId) (x : AV) (f : Nat) (Q : AV->Prop) : Prop :=
 match x with
 | .ptrE i k m j => match fieldAddrN tt s (.ptr i j) f with
  | some (.ptr _ j') => Q (.ptrE i k m j')
  | _ => False
 | x => match fieldAddrN tt s x f with
  | some v => Q v
  | none => False
theorem fieldAddrN_shift {tt : TT} {s : TypeId} {i f j d : Nat} {r : AV} (h : fieldAddrN tt s (.ptr i j) f = some r) : ∃ j',r = .ptr i j'/\fieldAddrN tt s (.ptr i (d + j)) f = some (.ptr i (d + j')) := by
 unfold fieldAddrN at h ⊢
 split at h
 ·rename_i ts i' o hts hx
  cases hx
  split at h
  ·rename_i fs b hfs
   split at h
   ·rename_i off t b' hf
    split at h
    ·rename_i tf htf
     cases hz : Nat.beq tf.size 0 with
     | true => rw [hz] at h; simp at h
     | false =>
      rw [hz] at h; simp only [cond_false,Option.some.injEq] at h
      refine ⟨j + off,h.symm,?_⟩
      simp only [hts,hfs,hf,htf,hz,cond_false,Nat.add_assoc]
    ·cases h
   ·cases h
  ·cases h
 ·cases h
theorem vField_ok {P : Program} {tt : TT} (hT : tt.ok P) {ρ : Ren} {s : TypeId} {f : Nat} {x : AV} {u : Value} {Q : AV->Prop} (h : vField tt s x f Q) (hu : VRel ρ x u) : ∃ r,NOk P (Instr.fieldAt s u f) ρ r/\Q r := by
 unfold vField at h
 split at h
 ·rename_i i k m j
  split at h
  ·rename_i i' j' hf
   obtain ⟨j2,h2,h3⟩ := fieldAddrN_shift (d := k * m) hf
   cases h2
   obtain ⟨r,h4,h5⟩ := fieldAddrN_ok (P := P) (ρ := ρ) (u := u) hT h3 (by simpa only [VRel] using hu)
   exact ⟨_,⟨r,h4,by simpa only [VRel] using h5⟩,h⟩
  ·exact h.elim
 ·split at h
  ·rename_i v hv; exact ⟨v,fieldAddrN_ok hT hv hu,h⟩
  ·exact h.elim

def vIndexAddr (tt : TT) (t : TypeId) (x ix : AV) (h : Heap) (Q : AV->Prop) : Prop :=
 match tt t,ix with
 | some ti,.lit (.int _ k) => match ti.desc,x with
  | .array n e,.ptr i o => match tt e with
   | some te => (0<=k/\k < (n : Int))/\(bif rowH h i o te.size then Q (.ptrE i k.toNat te.size o) else Q (.ptr i (o + k.toNat * te.size)))
   | none => False
  | .array n e,.ptrE i q m j => match tt e with
   | some te => (0<=k/\k < (n : Int))/\Q (.ptrE i q m (j + k.toNat * te.size))
   | none => False
  | .slice e,.sl i o n _ => match tt e with
   | some te => (0<=k/\k < (n : Int))/\(bif Nat.beq o 0 && Nat.beq (rowM h i) te.size then Q (.ptrE i k.toNat te.size 0) else Q (.ptr i (o + k.toNat * te.size)))
   | none => False
  | .slice e,.slU i o n _ => match tt e with
   | some te => (0<=k/\k < (n : Int))/\(bif Nat.beq o 0 && Nat.beq (rowM h i) te.size then Q (.ptrE i k.toNat te.size 0) else Q (.ptr i (o + k.toNat * te.size)))
   | none => False
  | .slice e,.slE i q m n _ => match tt e with
   | some te => bif Nat.beq m te.size then ((0<=k/\k < (n : Int))/\Q (.ptrE i (q + k.toNat) m 0)) else False
   | none => False
  | .slice e,.slW i q m n => match tt e with
   | some te => bif Nat.beq m te.size then ((0<=k/\k < (n : Int))/\Q (.ptrE i (q + k.toNat) m 0)) else False
   | none => False
  | .slice e,.slR i q m n => match tt e with
   | some te => bif Nat.beq m te.size then ((0<=k/\k < (n : Int))/\Q (.ptrE i (q + k.toNat) m 0)) else False
   | none => False
  | _,_ => False
 | _,_ => False
theorem run_index_slice {P : Program} {tt : TT} (hT : tt.ok P) {t e : TypeId} {ti te : TI} (hti : tt t = some ti) (hd : ti.desc = .slice e) (hte : tt e = some te) {b p n c : Nat} {kk : IntKind} {k : Int} (hk : 0<=k/\k < (n : Int)) (w : World) :
  (Instr.indexAt t (.slice (some ⟨b,p,none⟩) n c) (.int kk k)).run P w = .ok (.pointer (some ⟨b,p + k.toNat * te.size,none⟩)) w := by
 obtain ⟨d1,r1,_,m1⟩ := run_under (P := P) hT hti w
 rw [mkTD_slice (m1.trans hd)] at r1
 simp [Instr.indexAt,asIntOf,r1,hk,run_sizeOf hT hte,add_zero_spot]
theorem vIndexAddr_ok {P : Program} {tt : TT} (hT : tt.ok P) {ρ : Ren} {t : TypeId} {x ix : AV} {h : Heap} {u v : Value} {Q : AV->Prop} (hq : vIndexAddr tt t x ix h Q) (hu : VRel ρ x u) (hv : VRel ρ ix v) :
  ∃ r,NOk P (Instr.indexAt t u v) ρ r/\Q r := by
 have row : ∀ (i o m : Nat) (k : Int) (b : Bool),NOk P (Instr.indexAt t u v) ρ (.ptr i (o + k.toNat * m))->b = (Nat.beq o 0 && Nat.beq (rowM h i) m)->(bif b then Q (.ptrE i k.toNat m 0) else Q (.ptr i (o + k.toNat * m)))->∃ r,NOk P (Instr.indexAt t u v) ρ r/\Q r := by
  intro i o m k b hn hb hq
  cases b with
  | false => exact ⟨_,hn,hq⟩
  | true =>
   have hb := hb.symm
   simp only [Bool.and_eq_true] at hb
   have := Nat.eq_of_beq_eq_true hb.1; subst this
   obtain ⟨r,h1,h2⟩ := hn
   exact ⟨_,⟨r,h1,by simpa only [VRel,Nat.zero_add,Nat.add_zero] using h2⟩,hq⟩
 unfold vIndexAddr at hq
 split at hq
 ·rename_i ti kk k hti
  split at hq
  ·rename_i n e i o hd
   split at hq
   ·rename_i te hte
    obtain ⟨hk,hq⟩ := hq
    have hn := indexAddrN_ok (P := P) (ρ := ρ) (t := t) (x := .ptr i o) (ix := .lit (.int kk k)) (r := .ptr i (o + k.toNat * te.size)) hT (by simp [indexAddrN,hti,hd,hte,hk]) hu hv
    cases hb : rowH h i o te.size with
    | false => rw [hb] at hq; exact ⟨_,hn,hq⟩
    | true =>
     rw [hb] at hq
     obtain ⟨r,h1,h2⟩ := hn
     exact ⟨_,⟨r,h1,by simp only [VRel] at h2 ⊢; rw [Nat.add_comm (k.toNat * te.size) o]; exact h2⟩,hq⟩
   ·exact hq.elim
  ·rename_i n e i q m j hd
   split at hq
   ·rename_i te hte
    obtain ⟨hk,hq⟩ := hq
    obtain ⟨r,h1,h2⟩ := indexAddrN_ok (P := P) (ρ := ρ) (t := t) (x := .ptr i (q * m + j)) (ix := .lit (.int kk k)) (r := .ptr i (q * m + j + k.toNat * te.size)) hT (by simp [indexAddrN,hti,hd,hte,hk]) (by simpa only [VRel] using hu) hv
    exact ⟨_,⟨r,h1,by simpa only [VRel,Nat.add_assoc] using h2⟩,hq⟩
   ·exact hq.elim
  ·rename_i e i o n c hd
   split at hq
   ·rename_i te hte
    obtain ⟨hk,hq⟩ := hq
    exact row i o te.size k _ (indexAddrN_ok (P := P) (ix := .lit (.int kk k)) hT (by simp [indexAddrN,hti,hd,hte,hk]) hu hv) rfl hq
   ·exact hq.elim
  ·rename_i e i o n c hd
   split at hq
   ·rename_i te hte
    obtain ⟨hk,hq⟩ := hq
    exact row i o te.size k _ (indexAddrN_ok (P := P) (ix := .lit (.int kk k)) hT (by simp [indexAddrN,hti,hd,hte,hk]) hu hv) rfl hq
   ·exact hq.elim
  ·rename_i e i q m n c hd
   split at hq
   ·rename_i te hte
    cases hm : Nat.beq m te.size with
    | false => rw [hm] at hq; exact hq.elim
    | true =>
     rw [hm] at hq; simp only [cond_true] at hq
     have := Nat.eq_of_beq_eq_true hm; subst this
     obtain ⟨hk,hq⟩ := hq
     simp only [VRel] at hu hv; subst hv
     obtain ⟨a,p,ha,rfl,hnc,hp⟩ := hu
     refine ⟨_,⟨_,fun w => run_index_slice hT hti hd hte hk w,?_⟩,hq⟩
     have := hp (by omega)
     simp only [VRel]
     exact ⟨a,ha,by rw [this,Nat.add_mul]; simp [Nat.add_assoc]⟩
   ·exact hq.elim
  ·rename_i e i q m n hd
   split at hq
   ·rename_i te hte
    cases hm : Nat.beq m te.size with
    | false => rw [hm] at hq; exact hq.elim
    | true =>
     rw [hm] at hq; simp only [cond_true] at hq
     have := Nat.eq_of_beq_eq_true hm; subst this
     obtain ⟨hk,hq⟩ := hq
     simp only [VRel] at hu hv; subst hv
     obtain ⟨a,p,c,ha,rfl,hnc,hp⟩ := hu
     refine ⟨_,⟨_,fun w => run_index_slice hT hti hd hte hk w,?_⟩,hq⟩
     have := (hp (by omega)).1
     simp only [VRel]
     exact ⟨a,ha,by rw [this,Nat.add_mul]; simp [Nat.add_assoc]⟩
   ·exact hq.elim
  ·rename_i e i q m n hd
   split at hq
   ·rename_i te hte
    cases hm : Nat.beq m te.size with
    | false => rw [hm] at hq; exact hq.elim
    | true =>
     rw [hm] at hq; simp only [cond_true] at hq
     have := Nat.eq_of_beq_eq_true hm; subst this
     obtain ⟨hk,hq⟩ := hq
     simp only [VRel] at hu hv; subst hv
     rcases hu with ⟨rfl,_⟩ | ⟨a,p,c,ha,rfl,hnc,hp⟩
     ·omega
     ·refine ⟨_,⟨_,fun w => run_index_slice hT hti hd hte hk w,?_⟩,hq⟩
      have := hp (by omega)
      simp only [VRel]
      exact ⟨a,ha,by rw [this,Nat.add_mul]; simp [Nat.add_assoc]⟩
   ·exact hq.elim
  ·exact hq.elim
 ·exact hq.elim

def strAt (s : ByteArray) (k : Nat) : Int := ((s.data.toList.getD k 0).toNat : Int)
def vIndex (tt : TT) (t : TypeId) (x ix : AV) (Q : AV->Prop) : Prop :=
 match tt t,ix with
 | some ti,.lit (.int _ k) => match ti.desc,x with
  | .string,.lit (.string s) => (0<=k/\k < (s.size : Int))/\Q (.lit (.int .u8 (strAt s k.toNat)))
  | .array n e,.arr n' g => match tt e with
   | some te => bif !te.agg && Nat.beq te.size 1 then ((0<=k/\k < (n : Int))/\k.toNat < n'/\vTyped te.desc (g k.toNat) Q) else False
   | none => False
  | .array n e,x => match aggOf x,tt e with
   | some cs,some te => (0<=k/\k < (n : Int))/\(match partA tt e cs (k.toNat * te.size) with
    | some v => Q v
    | none => False)
   | _,_ => False
  | _,_ => False
 | _,_ => False
theorem vIndex_ok {P : Program} {tt : TT} (hT : tt.ok P) {ρ : Ren} {t : TypeId} {x ix : AV} {u v : Value} {Q : AV->Prop} (hq : vIndex tt t x ix Q) (hu : VRel ρ x u) (hv : VRel ρ ix v) : ∃ r,NOk P (Instr.index t u v) ρ r/\Q r := by
 unfold vIndex at hq
 split at hq
 ·rename_i ti kk k hti
  split at hq
  ·rename_i s hd
   obtain ⟨hk,hq⟩ := hq
   refine ⟨_,indexN_ok (P := P) (ix := .lit (.int kk k)) (r := .lit (.int .u8 (strAt s k.toNat))) hT ?_ hu hv,hq⟩
   have hlt : k.toNat < s.size := by omega
   have hlt' : k.toNat < s.data.size := hlt
   have : s[k.toNat]? = some s[k.toNat] := by simp only [getElem?_def,hlt,dite_true]
   simp only [indexN,hti,hd,if_pos hk.1,this,strAt,List.getD_eq_getElem?_getD]
   have e : s.data.toList[k.toNat]? = some s[k.toNat] := by
    rw [Array.getElem?_toList,Array.getElem?_eq_getElem hlt']; rfl
   rw [e]; rfl
  ·rename_i n e n' g hd
   split at hq
   ·rename_i te hte
    cases hb : (!te.agg && Nat.beq te.size 1) with
    | false => rw [hb] at hq; exact hq.elim
    | true =>
     rw [hb] at hq; simp only [cond_true] at hq
     simp only [Bool.and_eq_true,Bool.not_eq_true'] at hb
     obtain ⟨hag,hsz⟩ := hb
     have hsz := Nat.eq_of_beq_eq_true hsz
     obtain ⟨hk,hk',hq⟩ := hq
     simp only [VRel] at hu
     obtain ⟨A,rfl,hA,hg⟩ := hu
     have hlt : k.toNat < A.size := by omega
     have hu' : VRel ρ (.agg (A.toList.map .lit)) (.agg A) := by simp only [VRel]; exact ⟨A,rfl,LRel.lits _⟩
     have hn : NOk P (Instr.index t (.agg A) v) ρ (.lit A[k.toNat]) :=
      indexN_ok (P := P) (x := .agg (A.toList.map .lit)) (ix := .lit (.int kk k)) hT (by simp [indexN,hti,hd,aggOf,hte,hk,partA,hag,hsz,hlt]) hu' hv
     obtain ⟨r,h1,h2⟩ := hn
     obtain ⟨y,hy,hq⟩ := vTyped_ok hq
     have := hg _ _ hk' hy
     rw [Array.getElem?_eq_getElem hlt] at this
     cases this
     exact ⟨_,⟨r,h1,h2⟩,hq⟩
   ·exact hq.elim
  ·rename_i n e hd hne
   split at hq
   ·rename_i cs te hcs hte
    obtain ⟨hk,hq⟩ := hq
    split at hq
    ·rename_i v hp
     exact ⟨v,indexN_ok (P := P) (ix := .lit (.int kk k)) hT (by simp [indexN,hti,hd,hcs,hte,hk,hp]) hu hv,hq⟩
    ·exact hq.elim
   ·exact hq.elim
  ·exact hq.elim
 ·exact hq.elim

def vFieldV (tt : TT) (t : TypeId) (x : AV) (f : Nat) (Q : AV->Prop) : Prop := match x with
 | .arr n g => match tt t with
  | some ti => match ti.desc with
   | .struct fs _ => match fs[f]? with
    | some (off,ft,_) => match tt ft with
     | some tf => bif Nat.ble (off + tf.size) n then (bif tf.agg then Q (.arr tf.size (fun q => g (off + q))) else bif Nat.beq tf.size 1 then vTyped tf.desc (g off) Q else False) else False
     | none => False
    | none => False
   | _ => False
  | none => False
 | x => match fieldN tt t x f with
  | some v => Q v
  | none => False
theorem vFieldV_ok {P : Program} {tt : TT} (hT : tt.ok P) {ρ : Ren} {t : TypeId} {f : Nat} {x : AV} {u : Value} {Q : AV->Prop} (h : vFieldV tt t x f Q) (hu : VRel ρ x u) : ∃ r,NOk P (Instr.field t u f) ρ r/\Q r := by
 unfold vFieldV at h
 split at h
 ·rename_i n g
  split at h
  ·rename_i ti hti
   split at h
   ·rename_i fs bb hd
    split at h
    ·rename_i off ft b2 hf
     split at h
     ·rename_i tf htf
      cases hb : Nat.ble (off + tf.size) n with
      | false => rw [hb] at h; exact h.elim
      | true =>
       rw [hb] at h; simp only [cond_true] at h
       have hb : off + tf.size<=n := by simpa using hb
       simp only [VRel] at hu
       obtain ⟨A,rfl,hA,hg⟩ := hu
       have hu' : VRel ρ (.agg (A.toList.map .lit)) (.agg A) := by simp only [VRel]; exact ⟨A,rfl,LRel.lits _⟩
       have hlen : (A.toList.map AV.lit).length = n := by simp [hA]
       cases hagg : tf.agg with
       | true =>
        rw [hagg] at h; simp only [cond_true] at h
        have hb2 : Nat.ble (off + tf.size) (A.toList.map AV.lit).length = true := by rw [hlen]; simpa using hb
        obtain ⟨r,h1,h2⟩ := fieldN_ok (P := P) (ρ := ρ) (t := t) (f := f) (r := .agg (((A.toList.map AV.lit).drop off).take tf.size)) hT (by simp only [fieldN,hti,aggOf,hd,hf,partA,htf,hagg,cond_true,takeN,hb2]) hu'
        refine ⟨_,⟨r,h1,?_⟩,h⟩
        simp only [VRel] at h2 ⊢
        obtain ⟨vs,rfl,hl⟩ := h2
        refine ⟨vs,rfl,?_,fun k y hk hy => ?_⟩
        ·rw [← Array.length_toList,← hl.length,List.length_take,List.length_drop,hlen]; omega
        ·have := hg (off + k) y (by omega) hy
         obtain ⟨z,hz,hr⟩ := hl.get k (.lit y) (by rw [List.getElem?_take,if_pos hk,List.getElem?_drop,List.getElem?_map,Array.getElem?_toList,this]; rfl)
         simp only [VRel] at hr; subst hr
         simpa using hz
       | false =>
        rw [hagg] at h; simp only [cond_false] at h
        cases hs : Nat.beq tf.size 1 with
        | false => rw [hs] at h; exact h.elim
        | true =>
         rw [hs] at h; simp only [cond_true] at h
         have hs := Nat.eq_of_beq_eq_true hs
         obtain ⟨y,hy,hq⟩ := vTyped_ok h
         have := hg off y (by omega) hy
         obtain ⟨r,h1,h2⟩ := fieldN_ok (P := P) (ρ := ρ) (t := t) (f := f) (r := .lit y) hT (by
          simp only [fieldN,hti,aggOf,hd,hf,partA,htf,hagg,cond_false]
          rw [List.getElem?_map,Array.getElem?_toList,this]; rfl) hu'
         exact ⟨_,⟨r,h1,h2⟩,hq⟩
     ·exact h.elim
    ·exact h.elim
   ·exact h.elim
  ·exact h.elim
 ·split at h
  ·rename_i v hv; exact ⟨v,fieldN_ok hT hv hu,h⟩
  ·exact h.elim

def vB (x : Option AV) (d : Nat) (Q : Nat->Prop) : Prop := match x with
 | none => Q d
 | some (.lit (.int _ z)) => 0<=z/\Q z.toNat
 | _ => False
theorem vB_ok {ρ : Ren} {x : Option AV} {d : Nat} {Q : Nat->Prop} (h : vB x d Q) {v : Option Value} (hv : ORel ρ x v) : ∃ k,Q k/\(x = none/\k = d ∨ ∃ kk,x = some (.lit (.int kk (k : Int)))) := by
 unfold vB at h
 split at h
 ·exact ⟨d,h,.inl ⟨rfl,rfl⟩⟩
 ·rename_i kk z
  refine ⟨z.toNat,h.2,.inr ⟨kk,?_⟩⟩
  rw [Int.toNat_of_nonneg h.1]
 ·exact h.elim
theorem bnd_of {x : Option AV} {d k lim : Nat} (h : x = none/\k = d ∨ ∃ kk,x = some (.lit (.int kk (k : Int)))) (hk : k<=lim) : bnd x d lim = some k := by
 rcases h with ⟨rfl,rfl⟩ | ⟨kk,rfl⟩
 ·rfl
 ·simp only [bnd]
  rw [if_pos ⟨by omega,by omega⟩,Int.toNat_natCast]
def vBnds (n c : Nat) (lo hi mx : Option AV) (Q : Nat->Nat->Nat->Prop) : Prop :=
 match hi,mx with
 | none,some _ => False
 | hi,mx => vB mx c fun m => vB hi n fun h => vB lo 0 fun l => (l<=h/\h<=m/\m<=c)/\Q l h m
theorem vBnds_ok {ρ : Ren} {n c : Nat} {lo hi mx : Option AV} {Q : Nat->Nat->Nat->Prop} (hq : vBnds n c lo hi mx Q) {vl vh vm : Option Value} (hl : ORel ρ lo vl) (hh : ORel ρ hi vh) (hm : ORel ρ mx vm) :
  ∃ l h m,Q l h m/\l<=h/\h<=m/\m<=c/\(mx = none->m = c)/\bnds n c lo hi mx = some (l,h,m) := by
 unfold vBnds at hq
 split at hq
 ·exact hq.elim
 ·rename_i hne
  obtain ⟨m,hq,e1⟩ := vB_ok hq hm
  obtain ⟨h,hq,e2⟩ := vB_ok hq hh
  obtain ⟨l,⟨⟨h1,h2,h3⟩,hq⟩,e3⟩ := vB_ok hq hl
  have hmc : mx = none->m = c := fun e => by
   rcases e1 with ⟨_,e1⟩ | ⟨_,e1⟩
   ·exact e1
   ·rw [e] at e1; cases e1
  refine ⟨l,h,m,hq,h1,h2,h3,hmc,?_⟩
  have b1 := bnd_of e1 h3
  have b2 := bnd_of e2 h2
  have b3 := bnd_of e3 h1
  cases mx with
  | none =>
   have := hmc rfl
   subst this
   rw [bnds_none,b2]; simp only [b3]
  | some y =>
   cases hi with
   | none => exact (hne _ rfl rfl).elim
   | some z => simp only [bnds,b1,b2,b3]

def cutE (i q m n c : Nat) (lo hi mx : Option AV) (Q : AV->Prop) : Prop := vBnds n c lo hi mx fun l h c' => Q (.slE i (q + l) m (h - l) (c' - l))
def vSlice (tt : TT) (t : TypeId) (x : AV) (lo hi mx : Option AV) (h : Heap) (Q : AV->Prop) : Prop :=
 match tt t with
 | some ti => match ti.desc,x with
  | .string,.lit (.string s) => match mx with
   | none => vBnds s.size s.size lo hi none fun l h _ => Q (.lit (.string (s.extract l h)))
   | some _ => False
  | .slice e,.slE i q m n c => match tt e with
   | some te => bif Nat.beq m te.size then cutE i q m n c lo hi mx Q else False
   | none => False
  | .slice e,.slW i q m n => match tt e with
   | some te => bif Nat.beq m te.size then (match mx with
    | none => vBnds n n lo hi none fun l h _ => Q (.slW i (q + l) m (h - l))
    | some x => cutE i q m n n lo hi (some x) Q) else False
   | none => False
  | .slice e,.slR i q m n => match tt e,mx with
   | some te,none => bif Nat.beq m te.size then vBnds n n lo hi none fun l h _ => Q (.slR i (q + l) m (h - l)) else False
   | _,_ => False
  | .slice e,.sl i o n c => match tt e with
   | some te => bif Nat.beq o 0 && Nat.beq (rowM h i) te.size then cutE i 0 te.size n c lo hi mx Q else (match sliceN tt t (.sl i o n c) lo hi mx with
    | some v => Q v
    | none => False)
   | none => False
  | .slice e,.slU i o n sz => match tt e with
   | some te => bif Nat.beq o 0 && Nat.beq (rowM h i) te.size && Nat.beq sz te.size then (match mx with
    | none => vBnds n n lo hi none fun l h _ => Q (.slW i l te.size (h - l))
    | some x => cutE i 0 te.size n n lo hi (some x) Q) else (match sliceN tt t (.slU i o n sz) lo hi mx with
    | some v => Q v
    | none => False)
   | none => False
  | .slice e,.lit (.slice none n c) => match tt e with
   | some _ => vBnds n c lo hi mx fun l h m => Q (.lit (.slice none (h - l) (m - l)))
   | none => False
  | .slice e,.lit (.slice (some a) n c) => match tt e with
   | some te => vBnds n c lo hi mx fun l h m => Q (.lit (.slice (some (if m = l then a else a.add (l * te.size))) (h - l) (m - l)))
   | none => False
  | .array n e,.ptr i o => match tt e with
   | some te => bif Nat.beq o 0 && Nat.beq (rowM h i) te.size then cutE i 0 te.size n n lo hi mx Q else (match sliceN tt t (.ptr i o) lo hi mx with
    | some v => Q v
    | none => False)
   | none => False
  | .array n e,.ptrE i k m j => match tt e with
   | some te => bif Nat.beq te.size 1 && Nat.beq (rowM h i) 1 then cutE i (k * m + j) 1 n n lo hi mx Q else False
   | none => False
  | _,x => match sliceN tt t x lo hi mx with
   | some v => Q v
   | none => False
 | none => False

theorem run_slice_slice {P : Program} {tt : TT} (hT : tt.ok P) {t e : TypeId} {ti te : TI} (hti : tt t = some ti) (hd : ti.desc = .slice e) (hte : tt e = some te) {b p n c l h m : Nat} {lo hi mx : Option AV} {vl vh vm : Option Value} {ρ : Ren}
  (hb : bnds n c lo hi mx = some (l,h,m)) (hl : ORel ρ lo vl) (hh : ORel ρ hi vh) (hm : ORel ρ mx vm) (w : World) :
  (Instr.sliceAt t (.slice (some ⟨b,p,none⟩) n c) vl vh vm).run P w = .ok (.slice (if m = l then some ⟨b,p,none⟩ else some ⟨b,p + l * te.size,none⟩) (h - l) (m - l)) w := by
 obtain ⟨d1,r1,_,m1⟩ := run_under (P := P) hT hti w
 rw [mkTD_slice (m1.trans hd)] at r1
 have hb' := bnds_ok (P := P) (b := true) hb hl hh hm w
 simp [Instr.sliceAt,Instr.slice,r1,hb',run_sizeOf hT hte,add_zero_spot]
theorem cut_rel {ρ : Ren} {i q m l h c' c : Nat} {a : Loc} {p : Nat} (ha : ρ i = some a) (hp : c ≠ 0->p = a.base + q * m) (h1 : l<=h) (h2 : h<=c') (h3 : c'<=c) :
  VRel ρ (.slE i (q + l) m (h - l) (c' - l)) (.slice (if c' = l then some ⟨a.blk,p,none⟩ else some ⟨a.blk,p + l * m,none⟩) (h - l) (c' - l)) := by
 simp only [VRel]
 by_cases hc : c' = l
 ·subst hc
  exact ⟨a,p,ha,by simp,by omega,by omega⟩
 ·refine ⟨a,p + l * m,ha,by simp [hc],by omega,fun _ => ?_⟩
  rw [hp (by omega),Nat.add_mul,Nat.add_assoc]
theorem vSlice_ok {P : Program} {tt : TT} (hT : tt.ok P) {ρ : Ren} {t : TypeId} {x : AV} {hp : Heap} {u : Value} {lo hi mx : Option AV} {vl vh vm : Option Value} {Q : AV->Prop} (hq : vSlice tt t x lo hi mx hp Q)
  (hu : VRel ρ x u) (hl : ORel ρ lo vl) (hh : ORel ρ hi vh) (hm : ORel ρ mx vm) : ∃ r,NOk P (Instr.sliceAt t u vl vh vm) ρ r/\Q r := by
 have old : (match sliceN tt t x lo hi mx with | some v => Q v | none => False)->∃ r,NOk P (Instr.sliceAt t u vl vh vm) ρ r/\Q r := fun h => by
  split at h
  ·rename_i v hv; exact ⟨v,sliceN_ok hT hv hu hl hh hm,h⟩
  ·exact h.elim
 have cut : ∀ {e : TypeId} {ti te : TI} {i q n c p : Nat} {a : Loc} {mx' : Option AV},tt t = some ti->ti.desc = .slice e->tt e = some te->ρ i = some a->u = .slice (some ⟨a.blk,p,none⟩) n c->(c ≠ 0->p = a.base + q * te.size) ->
   ORel ρ mx' vm->∀ c0,c0<=c->(mx' = none->c0 = c)->cutE i q te.size n c0 lo hi mx' Q->∃ r,NOk P (Instr.sliceAt t u vl vh vm) ρ r/\Q r := by
  intro e ti te i q n c p a mx' hti hd hte ha hu hp hm c0 hc0 hc1 hq
  obtain ⟨l,h,c',hq,h1,h2,h3,h4,hb⟩ := vBnds_ok hq hl hh hm
  have hb' : bnds n c lo hi mx' = some (l,h,c') := by
   cases mx' with
   | none => rw [← hc1 rfl]; exact hb
   | some y =>
    unfold bnds at hb ⊢
    split at hb
    ·rename_i m hmm
     have e : bnd (some y) c c = bnd (some y) c0 c := by cases y <;> first | rfl | (rename_i v; cases v <;> rfl)
     rw [e,bnd_cap hmm hc0]
     exact hb
    ·cases hb
  subst hu
  exact ⟨_,⟨_,fun w => run_slice_slice hT hti hd hte hb' hl hh hm w,cut_rel ha hp h1 h2 (Nat.le_trans h3 hc0)⟩,hq⟩
 unfold vSlice at hq
 split at hq
 ·rename_i ti hti
  split at hq
  ·rename_i s hd
   split at hq
   ·obtain ⟨l,h,m,hq,_,_,_,_,hb⟩ := vBnds_ok hq hl hh (vm := none) rfl
    exact ⟨_,sliceN_ok (P := P) (r := .lit (.string (s.extract l h))) hT (by simp [sliceN,hti,hd,hb]) hu hl hh hm,hq⟩
   ·exact hq.elim
  ·rename_i e i q m n c hd
   split at hq
   ·rename_i te hte
    cases hmb : Nat.beq m te.size with
    | false => rw [hmb] at hq; exact hq.elim
    | true =>
     rw [hmb] at hq; simp only [cond_true] at hq
     have := Nat.eq_of_beq_eq_true hmb; subst this
     simp only [VRel] at hu
     obtain ⟨a,p,ha,hue,hnc,hp⟩ := hu
     exact cut hti hd hte ha hue hp hm c (Nat.le_refl _) (fun _ => rfl) hq
   ·exact hq.elim
  ·rename_i e i q m n hd
   split at hq
   ·rename_i te hte
    cases hmb : Nat.beq m te.size with
    | false => rw [hmb] at hq; exact hq.elim
    | true =>
     rw [hmb] at hq; simp only [cond_true] at hq
     have := Nat.eq_of_beq_eq_true hmb; subst this
     simp only [VRel] at hu
     obtain ⟨a,p,c,ha,hue,hnc,hp⟩ := hu
     split at hq
     ·obtain ⟨l,h,m',hq2,h1,h2,h3,h4,hb⟩ := vBnds_ok hq hl hh (vm := none) rfl
      simp only [ORel] at hm; subst hm
      have := h4 rfl; subst this
      have hb' := bnds_cap hb hnc
      subst hue
      refine ⟨_,⟨_,fun w => run_slice_slice hT hti hd hte hb' hl hh (by simp [ORel]) w,?_⟩,hq2⟩
      simp only [VRel]
      by_cases hc : c = l
      ·subst hc
       exact ⟨a,p,0,ha,by simp,by omega,by omega⟩
      ·refine ⟨a,p + l * te.size,c - l,ha,by simp [hc],by omega,fun _ => ?_⟩
       obtain ⟨e1,e2⟩ := hp (by omega)
       refine ⟨by rw [e1,Nat.add_mul,Nat.add_assoc],?_⟩
       rw [Nat.add_mul,Nat.add_assoc,← Nat.add_mul,show l + (c - l) = c by omega]
       exact e2
     ·exact cut hti hd hte ha hue (fun h => (hp h).1) hm n hnc (fun h => by cases h) hq
   ·exact hq.elim
  ·rename_i e i q m n hd
   split at hq
   ·rename_i te hte
    cases hmb : Nat.beq m te.size with
    | false => rw [hmb] at hq; exact hq.elim
    | true =>
     rw [hmb] at hq; simp only [cond_true] at hq
     have := Nat.eq_of_beq_eq_true hmb; subst this
     simp only [VRel] at hu
     simp only [ORel] at hm; subst hm
     obtain ⟨l,h,m',hq2,h1,h2,h3,h4,hb⟩ := vBnds_ok hq hl hh (vm := none) rfl
     have := h4 rfl; subst this
     rcases hu with ⟨rfl,rfl⟩ | ⟨a,p,c,ha,rfl,hnc,hp⟩
     ·obtain ⟨r,hr1,hr2⟩ := sliceN_ok (P := P) (ρ := ρ) (t := t) (x := .lit (.slice none 0 0)) (lo := lo) (hi := hi) (mx := none) (r := .lit (.slice none (h - l) (0 - l))) (vm := none) (u := .slice none 0 0) hT (by simp only [sliceN,hti,hd,hte,hb]) (by simp only [VRel]) hl hh rfl
      refine ⟨_,⟨r,hr1,?_⟩,hq2⟩
      simp only [VRel] at hr2 ⊢
      have h0 : h = 0 := by omega
      subst h0
      have l0 : l = 0 := by omega
      subst l0
      exact .inl ⟨rfl,by simpa using hr2⟩
     ·have hb' := bnds_cap hb hnc
      refine ⟨_,⟨_,fun w => run_slice_slice hT hti hd hte hb' hl hh (by simp [ORel]) w,?_⟩,hq2⟩
      simp only [VRel]
      refine .inr ?_
      by_cases hc : c = l
      ·subst hc
       exact ⟨a,p,0,ha,by simp,by omega,by omega⟩
      ·refine ⟨a,p + l * te.size,c - l,ha,by simp [hc],by omega,fun _ => ?_⟩
       rw [hp (by omega),Nat.add_mul,Nat.add_assoc]
   ·exact hq.elim
  ·rename_i e i o n c hd
   split at hq
   ·rename_i te hte
    cases hb : (Nat.beq o 0 && Nat.beq (rowM hp i) te.size) with
    | false => rw [hb] at hq; exact old hq
    | true =>
     rw [hb] at hq; simp only [cond_true] at hq
     simp only [Bool.and_eq_true] at hb
     have := Nat.eq_of_beq_eq_true hb.1; subst this
     simp only [VRel] at hu
     obtain ⟨a,ha,hue⟩ := hu
     exact cut (q := 0) hti hd hte ha hue (fun _ => by simp) hm c (Nat.le_refl _) (fun _ => rfl) hq
   ·exact hq.elim
  ·rename_i e i o n sz hd
   split at hq
   ·rename_i te hte
    cases hb : (Nat.beq o 0 && Nat.beq (rowM hp i) te.size && Nat.beq sz te.size) with
    | false => rw [hb] at hq; exact old hq
    | true =>
     rw [hb] at hq; simp only [cond_true] at hq
     simp only [Bool.and_eq_true] at hb
     have := Nat.eq_of_beq_eq_true hb.1.1; subst this
     have := Nat.eq_of_beq_eq_true hb.2; subst this
     simp only [VRel] at hu
     obtain ⟨a,c,ha,hue,hnc,hlim⟩ := hu
     split at hq
     ·obtain ⟨l,h,m',hq2,h1,h2,h3,h4,hb⟩ := vBnds_ok hq hl hh (vm := none) rfl
      simp only [ORel] at hm; subst hm
      have := h4 rfl; subst this
      have hb' := bnds_cap hb hnc
      subst hue
      refine ⟨_,⟨_,fun w => run_slice_slice hT hti hd hte hb' hl hh (by simp [ORel]) w,?_⟩,hq2⟩
      simp only [VRel]
      by_cases hc : c = l
      ·subst hc
       exact ⟨a,a.base + 0,0,ha,by simp,by omega,by omega⟩
      ·refine ⟨a,a.base + 0 + l * te.size,c - l,ha,by simp [hc],by omega,fun _ => ⟨by simp,?_⟩⟩
       rw [← Nat.add_mul,show l + (c - l) = c by omega]
       omega
     ·exact cut (q := 0) hti hd hte ha hue (fun _ => by simp) hm n hnc (fun h => by cases h) hq
   ·exact hq.elim
  ·rename_i e n c hd
   split at hq
   ·rename_i te hte
    obtain ⟨l,h,m,hq,_,_,_,_,hb⟩ := vBnds_ok hq hl hh hm
    exact ⟨_,sliceN_ok (P := P) (r := .lit (.slice none (h - l) (m - l))) hT (by simp [sliceN,hti,hd,hte,hb]) hu hl hh hm,hq⟩
   ·exact hq.elim
  ·rename_i e a n c hd
   split at hq
   ·rename_i te hte
    obtain ⟨l,h,m,hq,_,_,_,_,hb⟩ := vBnds_ok hq hl hh hm
    simp only [VRel] at hu; subst hu
    refine ⟨_,⟨.slice (some (if m = l then a else a.add (l * te.size))) (h - l) (m - l),fun w => ?_,by simp only [VRel]⟩,hq⟩
    obtain ⟨d1,r1,_,m1⟩ := run_under (P := P) hT hti w
    rw [mkTD_slice (m1.trans hd)] at r1
    have hb' := bnds_ok (P := P) (b := true) hb hl hh hm w
    simp only [Instr.sliceAt,Instr.slice,r1,Sem.run_bind,Result.andThen_ok,hb',run_sizeOf hT hte]
    split <;> simp_all
   ·exact hq.elim
  ·rename_i n e i o hd
   split at hq
   ·rename_i te hte
    cases hb : (Nat.beq o 0 && Nat.beq (rowM hp i) te.size) with
    | false => rw [hb] at hq; exact old hq
    | true =>
     rw [hb] at hq; simp only [cond_true] at hq
     simp only [Bool.and_eq_true] at hb
     have := Nat.eq_of_beq_eq_true hb.1; subst this
     obtain ⟨l,h,m,hq,h1,h2,h3,h4,hb⟩ := vBnds_ok hq hl hh hm
     obtain ⟨r,hr1,hr2⟩ := sliceN_ok (P := P) (t := t) (x := .ptr i 0) (lo := lo) (hi := hi) (mx := mx) (r := .sl i (if m = l then 0 else 0 + l * te.size) (h - l) (m - l)) hT (by simp only [sliceN,hti,hd,hte,hb]) hu hl hh hm
     refine ⟨_,⟨r,hr1,?_⟩,hq⟩
     simp only [VRel] at hr2 ⊢
     obtain ⟨a,ha,rfl⟩ := hr2
     exact ⟨a,_,ha,rfl,by omega,fun hc => by rw [if_neg (by omega)]; simp⟩
   ·exact hq.elim
  ·rename_i n e i k m j hd
   split at hq
   ·rename_i te hte
    cases hb : (Nat.beq te.size 1 && Nat.beq (rowM hp i) 1) with
    | false => rw [hb] at hq; exact hq.elim
    | true =>
     rw [hb] at hq; simp only [cond_true] at hq
     simp only [Bool.and_eq_true] at hb
     have e1 := Nat.eq_of_beq_eq_true hb.1
     obtain ⟨l,h,m',hq,h1,h2,h3,h4,hb⟩ := vBnds_ok hq hl hh hm
     obtain ⟨r,hr1,hr2⟩ := sliceN_ok (P := P) (ρ := ρ) (u := u) (t := t) (x := .ptr i (k * m + j)) (lo := lo) (hi := hi) (mx := mx) (r := .sl i (if m' = l then k * m + j else k * m + j + l * te.size) (h - l) (m' - l)) hT (by simp only [sliceN,hti,hd,hte,hb]) (by simpa only [VRel] using hu) hl hh hm
     refine ⟨_,⟨r,hr1,?_⟩,hq⟩
     simp only [VRel] at hr2 ⊢
     obtain ⟨a,ha,rfl⟩ := hr2
     exact ⟨a,_,ha,rfl,by omega,fun hc => by rw [if_neg (by omega),e1]; omega⟩
   ·exact hq.elim
  ·exact old hq
 ·exact hq.elim

def nrm : AV->AV
 | .slZ _ i k m n => .slR i k m n
 | v => v
theorem nrm_rel {ρ : Ren} {x : AV} {u : Value} (h : VRel ρ x u) : VRel ρ (nrm x) u := by
 cases x <;> try exact h
 simp only [nrm,VRel] at h ⊢
 rcases h with ⟨_,h⟩ | ⟨_,h⟩
 ·exact .inl h
 ·exact .inr h
def vN (tt : TT) (op : Op) (ev : Operand->AV) (h : Heap) (Q : AV->Prop) : Prop :=
 match op with
 | .pick c a b => match ev c with
  | .lit (.bool t) => cP t (Q (ev a)) (Q (ev b))
  | _ => False
 | .binOp o t x y _ => vBin tt o t (ev x) (ev y) Q
 | .convert s d x => vConv tt s d (ev x) Q
 | .slice t x lo hi mx => vSlice tt t (nrm (ev x)) (mapO ev lo) (mapO ev hi) (mapO ev mx) h Q
 | .fieldAddr s x f => vField tt s (ev x) f Q
 | .indexAddr t x i => vIndexAddr tt t (nrm (ev x)) (ev i) h Q
 | .index t x i => vIndex tt t (ev x) (ev i) Q
 | .field t x f => vFieldV tt t (ev x) f Q
 | op => match opN tt op ev with
  | some v => Q v
  | none => False
theorem vN_ok {P : Program} {tt : TT} (hT : tt.ok P) {ρ : Ren} {o : Oper} {ev : Operand->AV} {e : Operand->Value} (he : ∀ x,VRel ρ (ev x) (e x)) {h : Heap} {Q : AV->Prop} (hq : vN tt o.op ev h Q) :
  ∃ v u,(∀ w,(execOp e o).run P w = .ok (.value u) w)/\VRel ρ v u/\Q v := by
 have old : (match opN tt o.op ev with | some v => Q v | none => False)->∃ v u,(∀ w,(execOp e o).run P w = .ok (.value u) w)/\VRel ρ v u/\Q v := fun hq => by
  split at hq
  ·rename_i v hv
   obtain ⟨u,h1,h2⟩ := opN_ok (P := P) hT he hv
   exact ⟨v,u,h1,h2,hq⟩
  ·exact hq.elim
 obtain ⟨dst,op,ty,pos,after,guard⟩ := o
 have wrap : ∀ {s : Sem Value},(∃ r,NOk P s ρ r/\Q r)->∃ v u,(∀ w,(do pure (Next.value (← s)) : Sem Next).run P w = .ok (.value u) w)/\VRel ρ v u/\Q v :=
  fun ⟨r,⟨u,hu,hr⟩,hq⟩ => ⟨r,u,fun w => run_next (hu w),hr,hq⟩
 cases op <;> simp only [vN] at hq <;> try exact old hq
 case pick c a b =>
  split at hq
  ·rename_i t ht
   have := he c
   rw [ht] at this
   simp only [VRel] at this
   rcases cP_elim hq with ⟨rfl,hq⟩ | ⟨rfl,hq⟩
   ·exact ⟨_,e a,fun w => by simp [execOp,this,asBool],he a,hq⟩
   ·exact ⟨_,e b,fun w => by simp [execOp,this,asBool],he b,hq⟩
  ·exact hq.elim
 case binOp o t x y yt => exact wrap (vBin_ok (P := P) (xo := x) (yo := y) hT hq (he x) (he y))
 case convert s d x => exact wrap (vConv_ok (P := P) hT hq (he x))
 case slice t x lo hi mx => exact wrap (vSlice_ok (P := P) hT hq (nrm_rel (he x)) (mapO_rel he lo) (mapO_rel he hi) (mapO_rel he mx))
 case fieldAddr s x f => exact wrap (vField_ok (P := P) hT hq (he x))
 case indexAddr t x i => exact wrap (vIndexAddr_ok (P := P) hT hq (nrm_rel (he x)) (he i))
 case index t x i => exact wrap (vIndex_ok (P := P) hT hq (he x) (he i))
 case field t x f => exact wrap (vFieldV_ok (P := P) hT hq (he x))
end Go.Proofs.YtpnhfbegboogbaaGreat.SE
end
section
namespace Go.Proofs.YtpnhfbegboogbaaGreat.SE
open Go

theorem row_known {m n k : Nat} {g : Nat->List Value} {wr : List (Nat × List Value)} (hk : k < n * m) : ∃ v,(Cs.row m n g wr).get k = some v := by
 simp only [Cs.get,nblt_iff.2 hk,cond_true]
 split
 ·exact ⟨_,rfl⟩
 ·exact ⟨_,rfl⟩
theorem row_seg {m N q n : Nat} {g : Nat->List Value} {wr : List (Nat × List Value)} (hm : 0 < m) (h : q + n<=N) : Cs.Seg (.row m N g wr) (q * m) (n * m) (.row m n (fun k => Cs.eff g wr (q + k)) []) := by
 refine ⟨rfl,fun k hk => ?_⟩
 have hlt : q * m + k < N * m := by
  have : (q + n) * m<=N * m := Nat.mul_le_mul_right _ h
  rw [Nat.add_mul] at this; omega
 have e1 : (q * m + k) / m = q + k / m := by rw [Nat.mul_comm,Nat.mul_add_div hm]
 have e2 : (q * m + k) % m = k % m := by rw [Nat.mul_comm,Nat.mul_add_mod]
 refine ⟨?_,row_known hlt⟩
 simp only [Cs.get,nblt_iff.2 hk,nblt_iff.2 hlt,cond_true,e1,e2,Cs.eff]

theorem loadCells_Seg {P : Program} {h : Heap} {ρ : Ren} {T : Nat->Prop} {w : World} (hR : Rel h ρ T w) {i o m : Nat} {ob : AObj} {c d : Cs} {a : Loc} (hi : h.get i = some ob) (hc : ob.conts = some c)
  (hs : Cs.Seg c o m d) (ha : ρ i = some a) : ∃ vs : Array Value,(loadCells ⟨a.blk,a.base + o,none⟩ m).run P w = .ok vs w/\vs.size = d.size/\CRel ρ d vs 0 := by
 obtain ⟨hsz,hseg⟩ := hs
 have hcell : ∀ k,cellAt h i k = c.get k := fun k => by simp [cellAt,hi,hc]
 obtain ⟨l,hl,hlen,hget⟩ := getN_of (h := h) (i := i) m o (fun k hk => by rw [hcell]; exact (hseg k hk).2)
 obtain ⟨vs,hvs,hlr⟩ := run_loadCellsFrom (P := P) hR ha o m 0 #[] l (by simpa using hl)
 refine ⟨vs.toArray,by simpa [loadCells] using hvs,by simp [← hlr.length,hlen,hsz],fun k v hk => ?_⟩
 have hkm : k < m := by rw [← hsz]; exact Cs.get_lt hk
 have : l[k]? = some v := by rw [hget k hkm,hcell,← (hseg k hkm).1,hk]
 obtain ⟨u,hu,hr⟩ := hlr.get k v this
 exact ⟨u,by simpa using hu,hr⟩

inductive NewEl where
 | few (L : List (List Value))
 | many (n : Nat) (g : Nat->List Value)
namespace NewEl
def len : NewEl->Nat
 | .few L => L.length
 | .many n _ => n
def el : NewEl->Nat->List Value
 | .few L => fun k => L.getD k []
 | .many _ g => g
def ones (m : Nat) : NewEl->Prop
 | .few L => L.all (fun l => Nat.beq l.length m && l.all Value.oneCell') = true
 | .many n g => ∀ k,k < n->(Nat.beq (g k).length m && (g k).all Value.oneCell') = true
theorem ones_el {m : Nat} {e : NewEl} (h : e.ones m) : ∀ k,k < e.len->(Nat.beq (e.el k).length m && (e.el k).all Value.oneCell') = true := by
 cases e with
 | few L =>
  intro k hk
  simp only [ones,List.all_eq_true] at h
  simp only [el,len] at hk ⊢
  rw [List.getD_eq_getElem?_getD,List.getElem?_eq_getElem hk]
  exact h _ (List.getElem_mem hk)
 | many n g => exact h
end NewEl
def chunk (m : Nat) : Nat->List Value->List (List Value)
 | 0,_ => []
 | n + 1,vs => vs.take m :: chunk m n (vs.drop m)
theorem chunk_length (m : Nat) : ∀ (n : Nat) (vs : List Value),(chunk m n vs).length = n
 | 0,_ => rfl
 | n + 1,vs => by simp [chunk,chunk_length m n]
theorem chunk_get (m : Nat) : ∀ (n k : Nat) (vs : List Value),k < n->(chunk m n vs).getD k [] = (vs.drop (k * m)).take m
 | 0,k,vs,h => by omega
 | n + 1,0,vs,h => by simp [chunk]
 | n + 1,k + 1,vs,h => by
  simp only [chunk,List.getD_cons_succ]
  rw [chunk_get m n k _ (by omega),List.drop_drop]
  congr 2; rw [Nat.add_mul]; omega

def rowOf (h : Heap) (i m : Nat) (Q : Nat->(Nat->List Value)->List (Nat × List Value)->Prop) : Prop := match h.get i with
 | some ob => match ob.conts with
  | some (.row m' n g wr) => bif Nat.beq m m' then Q n g wr else False
  | _ => False
 | none => False
theorem rowOf_ok {h : Heap} {i m : Nat} {Q : Nat->(Nat->List Value)->List (Nat × List Value)->Prop} (hq : rowOf h i m Q) : ∃ ob n g wr,h.get i = some ob/\ob.conts = some (.row m n g wr)/\Q n g wr := by
 unfold rowOf at hq
 split at hq
 ·rename_i ob hi
  split at hq
  ·rename_i m' n g wr hc
   cases hb : Nat.beq m m' with
   | false => rw [hb] at hq; exact hq.elim
   | true =>
    rw [hb] at hq; simp only [cond_true] at hq
    have := Nat.eq_of_beq_eq_true hb; subst this
    exact ⟨ob,n,g,wr,hi,hc,hq⟩
  ·exact hq.elim
 ·exact hq.elim

def vNew (h : Heap) (x : AV) (m : Nat) (Q : NewEl->Prop) : Prop :=
 match x with
 | .sl j o n _ => bif Nat.beq o 0 && Nat.beq (rowM h j) m then rowOf h j m fun N g wr => n<=N/\Q (.many n (fun k => Cs.eff g wr (0 + k))) else (match h.get j with
  | some ob => match ob.conts with
   | some c => match c.sub o (n * m) with
    | some (.av l) => match litsOf l with
     | some vs => Q (.few (chunk m n vs))
     | none => False
    | some (.raw vs) => Q (.few (chunk m n vs))
    | _ => False
   | none => False
  | none => False)
 | .slE j q m' n _ => bif Nat.beq m m' then rowOf h j m fun N g wr => q + n<=N/\Q (.many n (fun k => Cs.eff g wr (q + k))) else False
 | .slW j q m' n => bif Nat.beq m m' then rowOf h j m fun N g wr => q + n<=N/\Q (.many n (fun k => Cs.eff g wr (q + k))) else False
 | .slR j q m' n => bif Nat.beq m m' then rowOf h j m fun N g wr => q + n<=N/\Q (.many n (fun k => Cs.eff g wr (q + k))) else False
 | .lit (.slice none 0 _) => Q (.few [])
 | .lit (.slice (some _) 0 _) => Q (.few [])
 | .lit (.string s) => bif Nat.beq m 1 then Q (.many s.size (fun k => [.int .u8 (strAt s k)])) else False
 | _ => False

def NewOk (P : Program) (h : Heap) (ρ : Ren) (T : Nat->Prop) (m : Nat) (v : Value) (new : NewEl) : Prop :=
 (∀ w,(Builtin.lenOf v).run P w = .ok new.len w)/\∀ w,Rel h ρ T w->∃ vs : Array Value,(Builtin.firstCells m new.len v).run P w = .ok vs w/\vs.size = new.len * m/\CRel ρ (.row m new.len new.el []) vs 0

theorem seg_many {P : Program} {h : Heap} {ρ : Ren} {T : Nat->Prop} {j q m n c p : Nat} {a : Loc} {ob : AObj} {N : Nat} {g : Nat->List Value} {wr : List (Nat × List Value)} (hm : 0 < m) (hi : h.get j = some ob) (hc : ob.conts = some (.row m N g wr)) (ha : ρ j = some a)
  (hle : q + n<=N) (hp : n ≠ 0->p = a.base + q * m) : NewOk P h ρ T m (.slice (some ⟨a.blk,p,none⟩) n c) (.many n (fun k => Cs.eff g wr (q + k))) := by
 refine ⟨fun w => by simp [Builtin.lenOf,NewEl.len],fun w hR => ?_⟩
 by_cases hn : n = 0
 ·subst hn
  exact ⟨#[],by simp [Builtin.firstCells,NewEl.len,loadCells,loadCellsFrom],by simp [NewEl.len],fun k v hk => by have := Cs.get_lt hk; simp [Cs.size,NewEl.len] at this⟩
 ·obtain ⟨vs,h1,h2,h3⟩ := loadCells_Seg (P := P) hR hi hc (row_seg (n := n) hm hle) ha
  refine ⟨vs,?_,by simpa [Cs.size,NewEl.len] using h2,h3⟩
  rw [hp hn]
  simpa [Builtin.firstCells,NewEl.len] using h1
theorem seg_few {P : Program} {h : Heap} {ρ : Ren} {T : Nat->Prop} {x : AV} {v : Value} {m n : Nat} {d : Cs} {vs : List Value} (hm : 0 < m) (hs : segOf h x n m = some d) (hv : VRel ρ x v) (hd : ∀ k,d.get k = (Cs.raw vs).get k) (hsz : d.size = n * m) (hlen : ∀ w,(Builtin.lenOf v).run P w = .ok n w) :
  NewOk P h ρ T m v (.few (chunk m n vs)) := by
 have e : (NewEl.few (chunk m n vs)).len = n := chunk_length m n vs
 refine ⟨fun w => by rw [e]; exact hlen w,fun w hR => ?_⟩
 rw [e]
 obtain ⟨us,h1,h2,h3⟩ := firstCells_seg (P := P) hR hs hv
 refine ⟨us,h1,by rw [h2,hsz],fun k y hk => ?_⟩
 have hlt := Cs.get_lt hk
 simp only [Cs.size] at hlt
 simp only [Cs.get,nblt_iff.2 hlt,cond_true,Cs.eff,NewEl.el] at hk
 have hkn : k / m < n := Nat.div_lt_of_lt_mul (by rw [Nat.mul_comm]; exact hlt)
 rw [chunk_get m n _ vs hkn,List.getElem?_take,if_pos (Nat.mod_lt _ hm),List.getElem?_drop,Nat.div_add_mod'] at hk
 split at hk
 ·rename_i x hx
  cases hk
  exact h3 k _ (by rw [hd]; simp only [Cs.get,hx])
 ·cases hk
  exact ⟨us[k]'(by rw [h2,hsz]; exact hlt),by rw [Nat.zero_add,Array.getElem?_eq_getElem],by simp [VRel]⟩
theorem vNew_ok {P : Program} {h : Heap} {ρ : Ren} {T : Nat->Prop} {x : AV} {v : Value} {m : Nat} {Q : NewEl->Prop} (hm : 0 < m) (hq : vNew h x m Q) (hv : VRel ρ x v) : ∃ new,NewOk P h ρ T m v new/\Q new := by
 unfold vNew at hq
 split at hq
 ·rename_i j o n c
  have hv' := hv
  simp only [VRel] at hv
  obtain ⟨a,ha,rfl⟩ := hv
  cases hb : (Nat.beq o 0 && Nat.beq (rowM h j) m) with
  | true =>
   rw [hb] at hq; simp only [cond_true] at hq
   simp only [Bool.and_eq_true] at hb
   have := Nat.eq_of_beq_eq_true hb.1; subst this
   obtain ⟨ob,N,g,wr,hi,hc,hle,hq⟩ := rowOf_ok hq
   exact ⟨_,seg_many hm hi hc ha (by omega) (fun _ => by simp),hq⟩
  | false =>
   rw [hb] at hq; simp only [cond_false] at hq
   split at hq
   ·rename_i ob hi
    split at hq
    ·rename_i c' hc
     have hseg : ∀ d,c'.sub o (n * m) = some d->segOf h (.sl j o n c) n m = some d := fun d hd => by simp [segOf,hi,hc,hd]
     split at hq
     ·rename_i l hsub
      split at hq
      ·rename_i vs hvs
       have := litsOf_spec hvs; subst this
       exact ⟨_,seg_few hm (hseg _ hsub) hv' (fun k => by simp only [Cs.get,List.getElem?_map]; cases vs[k]? <;> rfl) (Cs.sub_spec hsub).2.1 (fun w => by simp [Builtin.lenOf]),hq⟩
      ·exact hq.elim
     ·rename_i vs hsub
      exact ⟨_,seg_few hm (hseg _ hsub) hv' (fun k => rfl) (Cs.sub_spec hsub).2.1 (fun w => by simp [Builtin.lenOf]),hq⟩
     ·exact hq.elim
    ·exact hq.elim
   ·exact hq.elim
 ·rename_i j q m' n c
  cases hb : Nat.beq m m' with
  | false => rw [hb] at hq; exact hq.elim
  | true =>
   rw [hb] at hq; simp only [cond_true] at hq
   have := Nat.eq_of_beq_eq_true hb; subst this
   simp only [VRel] at hv
   obtain ⟨a,p,ha,rfl,hnc,hp⟩ := hv
   obtain ⟨ob,N,g,wr,hi,hc,hle,hq⟩ := rowOf_ok hq
   exact ⟨_,seg_many hm hi hc ha hle (fun _ => hp (by omega)),hq⟩
 ·rename_i j q m' n
  cases hb : Nat.beq m m' with
  | false => rw [hb] at hq; exact hq.elim
  | true =>
   rw [hb] at hq; simp only [cond_true] at hq
   have := Nat.eq_of_beq_eq_true hb; subst this
   simp only [VRel] at hv
   obtain ⟨a,p,c,ha,rfl,hnc,hp⟩ := hv
   obtain ⟨ob,N,g,wr,hi,hc,hle,hq⟩ := rowOf_ok hq
   exact ⟨_,seg_many hm hi hc ha hle (fun _ => (hp (by omega)).1),hq⟩
 ·rename_i j q m' n
  cases hb : Nat.beq m m' with
  | false => rw [hb] at hq; exact hq.elim
  | true =>
   rw [hb] at hq; simp only [cond_true] at hq
   have := Nat.eq_of_beq_eq_true hb; subst this
   simp only [VRel] at hv
   obtain ⟨ob,N,g,wr,hi,hc,hle,hq⟩ := rowOf_ok hq
   rcases hv with ⟨rfl,rfl⟩ | ⟨a,p,c,ha,rfl,hnc,hp⟩
   ·exact ⟨_,⟨fun w => by simp [Builtin.lenOf,NewEl.len],fun w _ => ⟨#[],by simp [Builtin.firstCells,NewEl.len],by simp [NewEl.len],fun k v hk => by have := Cs.get_lt hk; simp [Cs.size,NewEl.len] at this⟩⟩,hq⟩
   ·exact ⟨_,seg_many hm hi hc ha hle hp,hq⟩
 ·simp only [VRel] at hv; subst hv
  exact ⟨_,⟨fun w => by simp [Builtin.lenOf,NewEl.len],fun w _ => ⟨#[],by simp [Builtin.firstCells],by simp [NewEl.len],fun k v hk => by have := Cs.get_lt hk; simp [Cs.size,NewEl.len] at this⟩⟩,hq⟩
 ·simp only [VRel] at hv; subst hv
  exact ⟨_,⟨fun w => by simp [Builtin.lenOf,NewEl.len],fun w _ => ⟨#[],by (show Sem.run P (loadCells _ (0 * m)) w = _; rw [Nat.zero_mul]; rfl),by simp [NewEl.len],fun k v hk => by have := Cs.get_lt hk; simp [Cs.size,NewEl.len] at this⟩⟩,hq⟩
 ·rename_i s
  cases hb : Nat.beq m 1 with
  | false => rw [hb] at hq; exact hq.elim
  | true =>
   rw [hb] at hq; simp only [cond_true] at hq
   have := Nat.eq_of_beq_eq_true hb; subst this
   simp only [VRel] at hv; subst hv
   refine ⟨_,⟨fun w => by simp [Builtin.lenOf,NewEl.len],fun w _ => ⟨(s.extract 0 s.size).data.map fun b => .int .u8 b.toNat,by simp only [Builtin.firstCells,Sem.run_pure,NewEl.len],by simp [NewEl.len],fun k y hk => ?_⟩⟩,hq⟩
   have hlt := Cs.get_lt hk
   simp only [Cs.size,NewEl.len,Nat.mul_one] at hlt
   have hlt2 : Nat.blt k (s.size * 1) = true := nblt_iff.2 (by omega)
   simp only [Cs.get,NewEl.len,hlt2,cond_true,Cs.eff,NewEl.el,Nat.div_one,Nat.mod_one,List.getElem?_cons_zero] at hk
   cases hk
   refine ⟨.int .u8 (strAt s k),?_,by simp only [VRel]⟩
   have hlt3 : k < s.data.size := hlt
   rw [Nat.zero_add,Array.getElem?_map]
   have e : (s.extract 0 s.size).data[k]? = some s.data[k] := by
    rw [ByteArray.extract_zero_size,Array.getElem?_eq_getElem hlt3]
   simp only [e,Option.map_some,strAt,List.getD_eq_getElem?_getD,Array.getElem?_toList,Array.getElem?_eq_getElem hlt3,Option.getD_some]
 ·exact hq.elim

def writes : Nat->List (List Value)->List (Nat × List Value)->List (Nat × List Value)
 | _,[],wr => wr
 | k,c :: L,wr => writes (k + 1) L ((k,c) :: wr)
theorem eff_writes {g : Nat->List Value} : ∀ (L : List (List Value)) (k q : Nat) (wr : List (Nat × List Value)),Cs.eff g (writes k L wr) q = if k<=q/\q < k + L.length then L.getD (q - k) [] else Cs.eff g wr q
 | [],k,q,wr => by simp only [writes,List.length_nil]; rw [if_neg (by omega)]
 | c :: L,k,q,wr => by
  simp only [writes,List.length_cons]
  rw [eff_writes L (k + 1) q]
  by_cases h1 : q = k
  ·subst h1
   rw [if_neg (by omega),if_pos (by omega)]
   simp [Cs.eff]
  ·by_cases h2 : k + 1<=q/\q < k + 1 + L.length
   ·rw [if_pos h2,if_pos (by omega),show q - k = (q - (k + 1)) + 1 by omega,List.getD_cons_succ]
   ·rw [if_neg h2,if_neg (by omega)]
    simp [Cs.eff,nbeq_ne h1]
def appCs (m n : Nat) (g : Nat->List Value) (wr : List (Nat × List Value)) (new : NewEl) : Cs := match new with
 | .few L => .row m (n + L.length) g (writes n L wr)
 | .many k g' => .row m (n + k) (fun q => bif Nat.blt q n then Cs.eff g wr q else g' (q - n)) []
theorem appCs_spec {m n : Nat} {g : Nat->List Value} {wr : List (Nat × List Value)} {new : NewEl} (hm : 0 < m) : (appCs m n g wr new).size = n * m + new.len * m/\(∀ k,k < n * m->(appCs m n g wr new).get k = (Cs.row m n g wr).get k) /\
  ∀ k,(appCs m n g wr new).get (n * m + k) = (Cs.row m new.len new.el []).get k := by
 have key : ∀ (c : Cs) (N : Nat) (f : Nat->List Value) (wr' : List (Nat × List Value)),c = .row m N f wr'->N = n + new.len->(∀ q,q < n->Cs.eff f wr' q = Cs.eff g wr q)->(∀ q,q < new.len->Cs.eff f wr' (n + q) = new.el q) ->
   c.size = n * m + new.len * m/\(∀ k,k < n * m->c.get k = (Cs.row m n g wr).get k)/\∀ k,c.get (n * m + k) = (Cs.row m new.len new.el []).get k := by
  rintro c N f wr' rfl rfl h1 h2
  refine ⟨by simp [Cs.size,Nat.add_mul],fun k hk => ?_,fun k => ?_⟩
  ·have hk2 : k < (n + new.len) * m := by rw [Nat.add_mul]; omega
   have hq : k / m < n := Nat.div_lt_of_lt_mul (by rw [Nat.mul_comm]; exact hk)
   simp only [Cs.get,nblt_iff.2 hk,nblt_iff.2 hk2,cond_true,h1 _ hq]
  ·have e1 : (n * m + k) / m = n + k / m := by rw [Nat.mul_comm,Nat.mul_add_div hm]
   have e2 : (n * m + k) % m = k % m := by rw [Nat.mul_comm,Nat.mul_add_mod]
   by_cases hk : k < new.len * m
   ·have hk2 : n * m + k < (n + new.len) * m := by rw [Nat.add_mul]; omega
    have hq : k / m < new.len := Nat.div_lt_of_lt_mul (by rw [Nat.mul_comm]; exact hk)
    simp only [Cs.get,nblt_iff.2 hk,nblt_iff.2 hk2,cond_true,e1,e2,h2 _ hq,Cs.eff]
   ·have hk2 : ¬ n * m + k < (n + new.len) * m := by rw [Nat.add_mul]; omega
    have b1 : Nat.blt k (new.len * m) = false := by cases hb : Nat.blt k (new.len * m); · rfl
                                                    ·exact absurd (nblt_iff.1 hb) hk
    have b2 : Nat.blt (n * m + k) ((n + new.len) * m) = false := by cases hb : Nat.blt (n * m + k) ((n + new.len) * m); · rfl
                                                                    ·exact absurd (nblt_iff.1 hb) hk2
    simp only [Cs.get,b1,b2,cond_false]
 cases new with
 | few L =>
  refine key _ _ g (writes n L wr) rfl rfl (fun q hq => ?_) (fun q hq => ?_)
  ·rw [eff_writes,if_neg (by omega)]
  ·simp only [NewEl.len] at hq
   rw [eff_writes,if_pos (by omega),show n + q - n = q by omega]; rfl
 | many k g' =>
  refine key _ _ (fun q => bif Nat.blt q n then Cs.eff g wr q else g' (q - n)) [] rfl rfl (fun q hq => ?_) (fun q hq => ?_)
  ·simp only [Cs.eff,nblt_iff.2 hq,cond_true]
  ·have : Nat.blt (n + q) n = false := by cases hb : Nat.blt (n + q) n; · rfl
                                          ·have := nblt_iff.1 hb; omega
   simp only [Cs.eff,this,cond_false,NewEl.el]; congr 1; omega

def insCs (m N k : Nat) (g : Nat->List Value) (wr : List (Nat × List Value)) (new : NewEl) : Cs := match new with
 | .few L => .row m N g (writes k L wr)
 | .many n g' => .row m N (fun p => bif Nat.ble k p && Nat.blt p (k + n) then g' (p - k) else Cs.eff g wr p) []
theorem insCs_spec {m N k : Nat} {g : Nat->List Value} {wr : List (Nat × List Value)} {new : NewEl} (hm : 0 < m) (hk : k + new.len<=N) : (insCs m N k g wr new).size = N * m /\
  (∀ p,p < N * m->¬ (k * m<=p/\p < k * m + new.len * m)->(insCs m N k g wr new).get p = (Cs.row m N g wr).get p) /\
  ∀ p,p < new.len * m->(insCs m N k g wr new).get (k * m + p) = (Cs.row m new.len new.el []).get p := by
 have key : ∀ (c : Cs) (f : Nat->List Value) (wr' : List (Nat × List Value)),c = .row m N f wr'->(∀ q,¬ (k<=q/\q < k + new.len)->Cs.eff f wr' q = Cs.eff g wr q)->(∀ q,q < new.len->Cs.eff f wr' (k + q) = new.el q) ->
   c.size = N * m/\(∀ p,p < N * m->¬ (k * m<=p/\p < k * m + new.len * m)->c.get p = (Cs.row m N g wr).get p)/\∀ p,p < new.len * m->c.get (k * m + p) = (Cs.row m new.len new.el []).get p := by
  rintro c f wr' rfl h1 h2
  refine ⟨rfl,fun p hp hn => ?_,fun p hp => ?_⟩
  ·have hq : ¬ (k<=p / m/\p / m < k + new.len) := fun ⟨a,b⟩ => hn ⟨by
     have := Nat.mul_le_mul_right m a
     have := Nat.div_mul_le_self p m
     omega,by
     have h3 : p < (p / m + 1) * m := by rw [Nat.add_mul]; have := Nat.div_add_mod' p m; have := Nat.mod_lt p hm; omega
     have h4 : (p / m + 1) * m<=(k + new.len) * m := Nat.mul_le_mul_right m b
     rw [Nat.add_mul k] at h4; omega⟩
   simp only [Cs.get,nblt_iff.2 hp,cond_true,h1 _ hq]
  ·have hp2 : k * m + p < N * m := by
    have : (k + new.len) * m<=N * m := Nat.mul_le_mul_right _ hk
    rw [Nat.add_mul] at this; omega
   have e1 : (k * m + p) / m = k + p / m := by rw [Nat.mul_comm,Nat.mul_add_div hm]
   have e2 : (k * m + p) % m = p % m := by rw [Nat.mul_comm,Nat.mul_add_mod]
   have hq : p / m < new.len := Nat.div_lt_of_lt_mul (by rw [Nat.mul_comm]; exact hp)
   simp only [Cs.get,nblt_iff.2 hp,nblt_iff.2 hp2,cond_true,e1,e2,h2 _ hq,Cs.eff]
 cases new with
 | few L =>
  refine key _ g (writes k L wr) rfl (fun q hq => ?_) (fun q hq => ?_)
  ·simp only [NewEl.len] at hq; rw [eff_writes,if_neg hq]
  ·simp only [NewEl.len] at hq
   rw [eff_writes,if_pos (by omega),show k + q - k = q by omega]; rfl
 | many n g' =>
  refine key _ (fun p => bif Nat.ble k p && Nat.blt p (k + n) then g' (p - k) else Cs.eff g wr p) [] rfl (fun q hq => ?_) (fun q hq => ?_)
  ·have : (Nat.ble k q && Nat.blt q (k + n)) = false := by
    cases hb : (Nat.ble k q && Nat.blt q (k + n)) with
    | false => rfl
    | true => simp only [Bool.and_eq_true,Nat.ble_eq] at hb; exact absurd ⟨hb.1,nblt_iff.1 hb.2⟩ hq
   simp only [Cs.eff,this,cond_false]
  ·simp only [NewEl.len] at hq
   have : (Nat.ble k (k + q) && Nat.blt (k + q) (k + n)) = true := by
    simp only [Bool.and_eq_true,Nat.ble_eq]; exact ⟨by omega,nblt_iff.2 (by omega)⟩
   simp only [Cs.eff,this,cond_true,NewEl.el]; congr 1; omega
theorem run_storeCells_ins {P : Program} {h : Heap} {ρ : Ren} {T : Nat->Prop} {w : World} (hR : Rel h ρ T w) {i m N k : Nat} {ob : AObj} {g : Nat->List Value} {wr : List (Nat × List Value)} {a : Loc} {cs : List Value} {new : NewEl} (hm : 0 < m)
  (hi : h.get i = some ob) (hrow : isOwnRow ob = true) (hc : ob.conts = some (.row m N g wr)) (ha : ρ i = some a) (hk : k + new.len<=N) (hl : cs.length = new.len * m) (h1 : ∀ u ∈ cs,u.oneCell' = true) (hcs : CRel ρ (.row m new.len new.el []) cs.toArray 0) :
  ∃ w',(storeCells ⟨a.blk,a.base + k * m,none⟩ cs).run P w = .ok () w'/\Rel (h.set i (withC ob (insCs m N k g wr new))) ρ T w'/\Keeps T w w' := by
 obtain ⟨q1,q2,q3⟩ := insCs_spec (m := m) (N := N) (k := k) (g := g) (wr := wr) (new := new) hm hk
 have hKM : k * m + new.len * m<=N * m := by rw [← Nat.add_mul]; exact Nat.mul_le_mul_right _ hk
 have key : ∀ (arr arr' : Array Value),CRel ρ (.row m N g wr) arr 0->N * m<=arr.size->arr'.size = arr.size ->
   (∀ q,arr'[q]? = if k * m<=q/\q < k * m + cs.length then cs[q - k * m]? else arr[q]?)->CRel ρ (insCs m N k g wr new) arr' 0 := by
  intro arr arr' hcr hsz hsz' hget q v hv
  have hlt := Cs.get_lt hv
  rw [q1] at hlt
  rw [Nat.zero_add,hget,hl]
  by_cases hin : k * m<=q/\q < k * m + new.len * m
  ·rw [if_pos hin]
   obtain ⟨p,rfl⟩ : ∃ p,q = k * m + p := ⟨q - k * m,by omega⟩
   rw [q3 p (by omega)] at hv
   obtain ⟨u,hu,hr⟩ := hcs p v hv
   refine ⟨u,?_,hr⟩
   rw [show k * m + p - k * m = p by omega]
   simpa using hu
  ·rw [if_neg hin]
   rw [q2 q hlt hin] at hv
   obtain ⟨u,hu,hr⟩ := hcr q v hv
   exact ⟨u,by simpa using hu,hr⟩
 obtain ⟨S,r1,_⟩ := id hR
 obtain ⟨a',ha',ho⟩ := r1 i _ hi
 obtain rfl : a' = a := Option.some.inj (ha'.symm.trans ha)
 have main : ∀ (e : TypeId) (arr : Array Value),a'.base = 0->w.heap[a'.blk]? = some (.cells arr e (0,0))->N * m<=arr.size->CRel ρ (.row m N g wr) arr 0->(∀ S,OHolds ρ w T a' S ob->S a'.blk) ->
   (∀ S (w' : World) arr',S a'.blk->OHolds ρ w T a' S ob->w'.heap[a'.blk]? = some (.cells arr' e (0,0))->arr'.size = arr.size->CRel ρ (insCs m N k g wr new) arr' 0 ->
    OHolds ρ w' T a' S (withC ob (insCs m N k g wr new))) ->
   ∃ w',(storeCells ⟨a'.blk,a'.base + k * m,none⟩ cs).run P w = .ok () w'/\Rel (h.set i (withC ob (insCs m N k g wr new))) ρ T w'/\Keeps T w w' := by
  intro e arr h0 hb hsz hcr hown hnew
  obtain ⟨w',arr',hrun,hb',hsz',hw,hne,ho1,ho2,ho3,hget⟩ := run_storeCells (P := P) a'.blk cs (a'.base + k * m) 0 w arr hb h1 (by omega)
  have hget' : ∀ q,arr'[q]? = if k * m<=q/\q < k * m + cs.length then cs[q - k * m]? else arr[q]? := fun q => by
   rw [hget]; simp only [h0,Nat.zero_add,Nat.add_zero]
  refine ⟨w',hrun,hR.upd hi ha hw hne hown fun S hS hx => hnew S w' arr' hS hx hb' hsz' (key arr arr' hcr hsz hsz' hget'),⟨by omega,ho1,ho2,ho3,fun b hb2 => hne b fun hbb => hb2 ?_⟩⟩
  subst hbb
  exact hR.own_T hi ha hown
 cases ob with
 | cells e c =>
  simp only [AObj.conts,Option.some.injEq] at hc; subst hc
  obtain ⟨h0,hS,arr,hb,hsz,hlim,hcr⟩ := ho
  refine main e arr h0 hb (by simp only [Cs.size] at hsz; omega) hcr (fun S' h => h.2.1) fun S' w' arr' hS' hx hb' hsz' hc' => ?_
  exact ⟨h0,hS',arr',hb',by rw [hsz',hsz,q1]; rfl,by rw [hlim,q1]; rfl,hc'⟩
 | room e c =>
  simp only [AObj.conts,Option.some.injEq] at hc; subst hc
  obtain ⟨h0,hS,arr,hb,hsz,hle',hcr⟩ := ho
  refine main e arr h0 hb (by simp only [Cs.size] at hle'; omega) hcr (fun S' h => h.2.1) fun S' w' arr' hS' hx hb' hsz' hc' => ?_
  exact ⟨h0,hS',arr',hb',by omega,by rw [q1]; exact hle',hc'⟩
 | _ => simp [isOwnRow] at hrow
theorem ones_cells {ρ : Ren} {m : Nat} {new : NewEl} {vs : Array Value} (hm : 0 < m) (hones : new.ones m) (hvsz : vs.size = new.len * m) (hvc : CRel ρ (.row m new.len new.el []) vs 0) : ∀ u ∈ vs.toList,u.oneCell' = true := by
 intro u hu
 obtain ⟨k,hk⟩ := List.mem_iff_getElem?.1 hu
 have hk' : vs[k]? = some u := by simpa using hk
 have hlt : k < new.len * m := by rw [← hvsz]; exact (Array.getElem?_eq_some_iff.1 hk').1
 have hkn : k / m < new.len := Nat.div_lt_of_lt_mul (by rw [Nat.mul_comm]; exact hlt)
 have h1 := NewEl.ones_el hones (k / m) hkn
 simp only [Bool.and_eq_true,List.all_eq_true] at h1
 have hl := Nat.eq_of_beq_eq_true h1.1
 have hmod : k % m < (new.el (k / m)).length := by rw [hl]; exact Nat.mod_lt _ hm
 obtain ⟨y,hy,hr⟩ := hvc k (.lit (new.el (k / m))[k % m]) (by
  simp only [Cs.get,nblt_iff.2 hlt,cond_true,Cs.eff,List.getElem?_eq_getElem hmod])
 rw [Nat.zero_add,hk'] at hy; cases hy
 simp only [VRel] at hr; subst hr
 exact h1.2 _ (List.getElem_mem hmod)

def ownOf (h : Heap) (i : Nat) : Bool := match h.get i with
 | some ob => isOwnRow ob
 | none => false
def setRow (h : Heap) (i : Nat) (c : Cs) : Heap := match h.get i with
 | some ob => h.set i (withC ob c)
 | none => h
def vAppend (tt : TT) (t xt : TypeId) (s x : AV) (h : Heap) (Q : AV->Heap->Prop) : Prop :=
 match tt t,tt xt with
 | some ti,some tx => match ti.desc with
  | .slice e => match tt e with
   | some te => bif isIntD tx.desc || Nat.beq te.bytes 0 || !Nat.beq te.zero.length te.size || Nat.beq te.size 0 then False else (match s with
    | .lit (.slice none 0 0) => vNew h x te.size fun new => cP (Nat.beq new.len 0) (Q (.lit (.slice none 0 0)) h)
      ((2 * (0 + new.len) + 1000) * te.bytes<=2 ^ 48/\Q (.slW h.next 0 te.size (0 + new.len)) (h.push (.room e (appCs te.size 0 (fun _ => []) [] new))))
    | .slE i q m sn c => bif Nat.beq m te.size then (rowOf h i m fun N g wr => q + sn<=N/\vNew h x te.size fun new => cP (Nat.beq new.len 0) (Q (.slE i q m sn c) h)
      (cP (Nat.ble (sn + new.len) c) (new.ones te.size/\q + (sn + new.len)<=N/\(bif ownOf h i then Q (.slE i q m (sn + new.len) c) (setRow h i (insCs te.size N (q + sn) g wr new)) else False))
      ((2 * (sn + new.len) + 1000) * te.bytes<=2 ^ 48/\Q (.slW h.next 0 te.size (sn + new.len)) (h.push (.room e (appCs te.size sn (fun k => Cs.eff g wr (q + k)) [] new)))))) else False
    | .slW i 0 m sn => match h.get i with
     | some (.room e' (.row m' N g wr)) => bif Nat.beq m te.size && Nat.beq m' te.size && Nat.beq e' e then (N = sn/\vNew h x te.size fun new => new.ones te.size/\(2 * (sn + new.len) + 1000) * te.bytes<=2 ^ 48 /\
       Q (.slW h.next 0 te.size (sn + new.len)) ((h.drop i).push (.room e (appCs te.size sn g wr new)))) else False
     | _ => False
    | .sl i o 0 0 => vNew h x te.size fun new => cP (Nat.beq new.len 0) (Q (.sl i o 0 0) h)
      ((2 * (0 + new.len) + 1000) * te.bytes<=2 ^ 48/\Q (.slW h.next 0 te.size (0 + new.len)) (h.push (.room e (appCs te.size 0 (fun _ => []) [] new))))
    | s => match appendA tt t xt s x h with
     | some (v,h') => Q v h'
     | none => False)
   | none => False
  | _ => False
 | _,_ => False

theorem crel_app {ρ : Ren} {m n : Nat} {g : Nat->List Value} {wr : List (Nat × List Value)} {new : NewEl} (hm : 0 < m) {us vs rest : Array Value} (hc : CRel ρ (.row m n g wr) us 0) (hd : CRel ρ (.row m new.len new.el []) vs 0) (hus : us.size = n * m) (hvs : vs.size = new.len * m) :
  CRel ρ (appCs m n g wr new) (us ++ vs ++ rest) 0 := by
 obtain ⟨hsz,h1,h2⟩ := appCs_spec (m := m) (n := n) (g := g) (wr := wr) (new := new) hm
 intro k v hk
 have hlt := Cs.get_lt hk
 simp only [Nat.zero_add]
 by_cases hkc : k < n * m
 ·rw [h1 k hkc] at hk
  obtain ⟨u,hu,hr⟩ := hc _ _ hk
  refine ⟨u,?_,hr⟩
  rw [Array.getElem?_append_left (by simp; omega),Array.getElem?_append_left (by omega)]
  simpa using hu
 ·obtain ⟨j,rfl⟩ : ∃ j,k = n * m + j := ⟨k - n * m,by omega⟩
  rw [h2] at hk
  obtain ⟨u,hu,hr⟩ := hd _ _ hk
  have hj := Cs.get_lt hk
  simp only [Cs.size] at hj
  refine ⟨u,?_,hr⟩
  rw [Array.getElem?_append_left (by simp; omega),Array.getElem?_append_right (by omega)]
  simpa [hus] using hu
def XQ (P : Program) (s : Sem Value) (h : Heap) (ρ : Ren) (T : Nat->Prop) (w : World) (Q : AV->Heap->Prop) : Prop := ∃ v h',XOk P s h ρ T w v h'/\Q v h'

theorem vAppend_ok {P : Program} {tt : TT} (hT : tt.ok P) {h : Heap} {ρ : Ren} {T : Nat->Prop} {w : World} (hR : Rel h ρ T w) {t xt ty : TypeId} {s x : AV} {u v : Value} {ts : Array TypeId} {us : Array Value} {Q : AV->Heap->Prop}
  (hq : vAppend tt t xt s x h Q) (hu : VRel ρ s u) (hv : VRel ρ x v) (ht0 : ts[0]? = some t) (ht1 : ts[1]? = some xt) (hu0 : us[0]? = some u) (hu1 : us[1]? = some v) : XQ P (Builtin.append_ ts ty us) h ρ T w Q := by
 unfold vAppend at hq
 split at hq
 ·rename_i ti tx hti htx
  split at hq
  ·rename_i e hd
   split at hq
   ·rename_i te hte
    cases hbz : (isIntD tx.desc || Nat.beq te.bytes 0 || !Nat.beq te.zero.length te.size || Nat.beq te.size 0) with
    | true => rw [hbz] at hq; exact hq.elim
    | false =>
     rw [hbz] at hq; simp only [cond_false] at hq
     simp only [Bool.or_eq_false_iff,Bool.not_eq_false'] at hbz
     obtain ⟨⟨⟨hxi,hb0⟩,hz⟩,hs0⟩ := hbz
     have hb0 : te.bytes ≠ 0 := fun h0 => by rw [h0] at hb0; cases hb0
     have hm : 0 < te.size := Nat.pos_of_ne_zero fun h0 => by rw [h0] at hs0; cases hs0
     have hz : te.zero.length = te.size := Nat.eq_of_beq_eq_true hz
     have hund : ∀ w,(underlying t).run P w = .ok (.slice e) w := fun w => by
      obtain ⟨d1,r1,_,m1⟩ := run_under (P := P) hT hti w
      rw [mkTD_slice (m1.trans hd)] at r1; exact r1
     obtain ⟨dx,hdx,hdn⟩ : ∃ dx,(∀ w,(underlying xt).run P w = .ok dx w)/\∀ k,dx ≠ .int k := by
      obtain ⟨d1,_,p1,m1⟩ := run_under (P := P) hT htx w
      refine ⟨d1,fun w => by simp [underlying,p1],fun k hk => ?_⟩
      subst hk
      rw [← m1] at hxi; cases hxi
     have hsz := fun w => run_sizeOf (P := P) hT hte w
     split at hq
     ·-- none
      simp only [VRel] at hu; subst hu
      obtain ⟨new,⟨hlen,hnew⟩,hq⟩ := vNew_ok (P := P) (T := T) hm hq hv
      rcases cP_elim hq with ⟨hn,hq⟩ | ⟨hn,hlim,hq⟩
      ·have hn := Nat.eq_of_beq_eq_true hn
       obtain ⟨vs,hvs,_⟩ := hnew w hR
       refine ⟨_,_,⟨.slice none 0 0,w,ρ,?_,fun _ _ => rfl,Ren.le_refl _,Nat.le_refl _,hR,by simp only [VRel],Keeps.refl _ _⟩,hq⟩
       have := run_append_room (P := P) (w := w) (w' := w) (ty := ty) (base := none) ht0 ht1 hu0 hu1 hund hsz hdx hdn hlen (by omega) hvs rfl
       rw [hn] at this; exact this
      ·have hn : new.len ≠ 0 := fun h0 => by rw [h0] at hn; cases hn
       obtain ⟨vs',hvs',hvsz',hvc'⟩ := hnew w.drew hR.drew
       obtain ⟨i,z,newCap,ρ',g1,g2,g3,g4,g5,g6,g7,g8,g9,g10,g11⟩ := grow_facts (P := P) hT hR hte hb0 hz (need := 0 + new.len) (sCap := 0) (by omega) hlim (us := #[]) (vs := vs') (c := appCs te.size 0 (fun _ => []) [] new)
        (by simp [hvsz']) (by rw [(appCs_spec hm).1]; simp) (fun rest => crel_app hm (fun k y hk => by have := Cs.get_lt hk; simp [Cs.size] at this) hvc' (by simp) hvsz')
       refine ⟨_,_,⟨_,_,ρ',run_append_grow ht0 ht1 hu0 hu1 hund hsz hdx hdn hlen g1 (by omega) g3 (by omega) (by rw [g2]; exact g4) g5 (by simp [Builtin.firstCells]) hvs',g7,g8,by simp,g9,?_,g11⟩,hq⟩
       simp only [VRel] at g10 ⊢
       obtain ⟨a,c,q1,q2,q3,q4⟩ := g10
       exact ⟨a,_,c,q1,q2,q3,fun _ => ⟨by simp,by omega⟩⟩
     ·-- of elements,its room known
      rename_i i q m sn c
      cases hmb : Nat.beq m te.size with
      | false => rw [hmb] at hq; exact hq.elim
      | true =>
       rw [hmb] at hq; simp only [cond_true] at hq
       have := Nat.eq_of_beq_eq_true hmb; subst this
       have hu' := hu
       simp only [VRel] at hu
       obtain ⟨a,p,ha,rfl,hnc,hp⟩ := hu
       obtain ⟨ob,N,g,wr,hi,hc,hle,hq⟩ := rowOf_ok hq
       obtain ⟨new,⟨hlen,hnew⟩,hq⟩ := vNew_ok (P := P) (T := T) hm hq hv
       rcases cP_elim hq with ⟨hn,hq⟩ | ⟨hn,hcap⟩
       ·have hn := Nat.eq_of_beq_eq_true hn
        obtain ⟨vs,hvs,hvsz,_⟩ := hnew w hR
        have hvs0 : vs = #[] := Array.eq_empty_of_size_eq_zero (by rw [hvsz,hn]; simp)
        subst hvs0
        refine ⟨_,_,⟨_,w,ρ,run_append_room (w' := w) ht0 ht1 hu0 hu1 hund hsz hdx hdn hlen (by omega) hvs (by simp [storeCells]),fun _ _ => rfl,Ren.le_refl _,Nat.le_refl _,hR,?_,Keeps.refl _ _⟩,hq⟩
        rw [hn]; exact hu'
       ·have hn : new.len ≠ 0 := fun h0 => by rw [h0] at hn; cases hn
        rcases cP_elim hcap with ⟨hroom,hones,hin,hq⟩ | ⟨hroom,hlim,hq⟩
        ·have hroom : sn + new.len<=c := by simpa using hroom
         cases how : ownOf h i with
         | false => rw [how] at hq; exact hq.elim
         | true =>
         rw [how] at hq; simp only [cond_true] at hq
         have hrow : isOwnRow ob = true := by simpa [ownOf,hi] using how
         have hset : setRow h i (insCs te.size N (q + sn) g wr new) = h.set i (withC ob (insCs te.size N (q + sn) g wr new)) := by simp [setRow,hi]
         rw [hset] at hq
         obtain ⟨vs,hvs,hvsz,hvc⟩ := hnew w hR
         have hkN : q + sn + new.len<=N := by omega
         obtain ⟨w',hrun,hR',hk'⟩ := run_storeCells_ins (P := P) hR (k := q + sn) (cs := vs.toList) hm hi hrow hc ha hkN (by simpa using hvsz) (ones_cells hm hones hvsz hvc) (by simpa using hvc)
         refine ⟨_,_,⟨_,w',ρ,run_append_room (w' := w') ht0 ht1 hu0 hu1 hund hsz hdx hdn hlen hroom hvs ?_,fun _ _ => rfl,Ren.le_refl _,by simp,hR',?_,hk'⟩,hq⟩
         ·simp only [add_zero_spot]
          rw [hp (by omega),Nat.add_assoc,← Nat.add_mul]; exact hrun
         ·simp only [VRel]; exact ⟨a,p,ha,rfl,hroom,hp⟩
        have hcap : c < sn + new.len := by
         cases hb : Nat.ble (sn + new.len) c with
         | true => rw [hb] at hroom; cases hroom
         | false => rcases Nat.lt_or_ge c (sn + new.len) with h' | h'
                    ·exact h'
                    ·have hb2 : Nat.ble (sn + new.len) c = true := by simpa using h'
                     rw [hb2] at hb; cases hb
        obtain ⟨vs',hvs',hvsz',hvc'⟩ := hnew w.drew hR.drew
        obtain ⟨_,hold⟩ := seg_many (P := P) (T := T) (c := c) hm hi hc ha hle (p := p) (fun h => hp (by omega))
        obtain ⟨os,hos,hosz,hoc⟩ := hold w.drew hR.drew
        simp only [NewEl.len,NewEl.el] at hos hosz hoc
        obtain ⟨ii,z,newCap,ρ',g1,g2,g3,g4,g5,g6,g7,g8,g9,g10,g11⟩ := grow_facts (P := P) hT hR hte hb0 hz (need := sn + new.len) (sCap := c) (by omega) hlim (us := os) (vs := vs')
         (c := appCs te.size sn (fun k => Cs.eff g wr (q + k)) [] new) (by rw [hosz,hvsz',Nat.add_mul]) (by rw [(appCs_spec hm).1,Nat.add_mul]) (fun rest => crel_app hm hoc hvc' hosz hvsz')
        refine ⟨_,_,⟨_,_,ρ',run_append_grow ht0 ht1 hu0 hu1 hund hsz hdx hdn hlen g1 (by omega) g3 (by omega) (by rw [g2]; exact g4) g5 hos hvs',g7,g8,by simp,g9,?_,g11⟩,hq⟩
        simp only [VRel] at g10 ⊢
        obtain ⟨a,c,q1,q2,q3,q4⟩ := g10
        exact ⟨a,_,c,q1,q2,q3,fun _ => ⟨by simp,by omega⟩⟩
     ·-- of elements,its room not known
      rename_i i m sn
      split at hq
      ·rename_i e' m' N g wr hi
       cases hck : (Nat.beq m te.size && Nat.beq m' te.size && Nat.beq e' e) with
       | false => rw [hck] at hq; exact hq.elim
       | true =>
        rw [hck] at hq; simp only [cond_true] at hq
        simp only [Bool.and_eq_true] at hck
        obtain ⟨⟨k1,k2⟩,k3⟩ := hck
        have k1 := Nat.eq_of_beq_eq_true k1
        have k2 := Nat.eq_of_beq_eq_true k2
        have k3 := Nat.eq_of_beq_eq_true k3
        subst k1; subst k3; subst k2
        obtain ⟨rfl,hq⟩ := hq
        obtain ⟨new,⟨hlen,hnew⟩,hones,hlim,hq⟩ := vNew_ok (P := P) (T := T) hm hq hv
        simp only [VRel] at hu
        obtain ⟨a,p,sc,ha,rfl,hle,hp⟩ := hu
        obtain ⟨S,r1,_⟩ := id hR
        obtain ⟨a',ha',ho⟩ := r1 i _ hi
        obtain rfl : a' = a := Option.some.inj (ha'.symm.trans ha)
        obtain ⟨h0,hS,arr,hb1,hasz,hclim,hcr⟩ := ho
        obtain ⟨q1,q2,q3⟩ := appCs_spec (m := te.size) (n := N) (g := g) (wr := wr) (new := new) hm
        by_cases hroom : N + new.len<=sc
        ·obtain ⟨vs,hvs,hvsz,hvc⟩ := hnew w hR
         have hone : ∀ u ∈ vs.toList,u.oneCell' = true := by
          intro u hu
          obtain ⟨k,hk⟩ := List.mem_iff_getElem?.1 hu
          have hk' : vs[k]? = some u := by simpa using hk
          have hlt : k < new.len * te.size := by rw [← hvsz]; exact (Array.getElem?_eq_some_iff.1 hk').1
          have hkn : k / te.size < new.len := Nat.div_lt_of_lt_mul (by rw [Nat.mul_comm]; exact hlt)
          have h1 := NewEl.ones_el hones (k / te.size) hkn
          simp only [Bool.and_eq_true,List.all_eq_true] at h1
          have hl := Nat.eq_of_beq_eq_true h1.1
          have hmod : k % te.size < (new.el (k / te.size)).length := by rw [hl]; exact Nat.mod_lt _ hm
          obtain ⟨y,hy,hr⟩ := hvc k (.lit (new.el (k / te.size))[k % te.size]) (by
           simp only [Cs.get,nblt_iff.2 hlt,cond_true,Cs.eff,List.getElem?_eq_getElem hmod])
          rw [Nat.zero_add,hk'] at hy; cases hy
          simp only [VRel] at hr; subst hr
          exact h1.2 _ (List.getElem_mem hmod)
         obtain ⟨hp1,hp2⟩ : (sc ≠ 0->p = a'.base + 0 * te.size)/\(sc ≠ 0->0 * te.size + sc * te.size<=a'.lim) := ⟨fun h => (hp h).1,fun h => (hp h).2⟩
         have hfit : N * te.size + vs.size<=arr.size := by
          rw [hasz,hvsz,← Nat.add_mul]
          rcases Nat.eq_zero_or_pos sc with h00 | h00
          ·have : N + new.len = 0 := by omega
           rw [this]; simp
          ·exact Nat.le_trans (Nat.mul_le_mul_right _ hroom) (by have := hp2 (by omega); omega)
         by_cases hv0 : vs.size = 0
         ·-- nothing is laid down
          have hn0 : new.len = 0 := by
           rw [hvsz] at hv0
           rcases Nat.mul_eq_zero.1 hv0 with h' | h'
           ·exact h'
           ·omega
          have hvs0 : vs = #[] := Array.eq_empty_of_size_eq_zero hv0
          subst hvs0
          have hR' : Rel (h.set i (.room e' (appCs te.size N g wr new))) ρ T w := hR.upd hi ha rfl (fun _ _ => rfl) (fun S h => h.2.1) fun S' hS' hx => ⟨h0,hS',arr,hb1,hasz,by rw [q1,hn0]; simpa [Cs.size] using hclim,fun k y hk => by
           have hk2 := Cs.get_lt hk
           rw [q1,hn0] at hk2
           rw [q2 k (by omega)] at hk
           exact hcr k y hk⟩
          obtain ⟨ρ',m1,m2,m3,m4⟩ := hR'.move (i := i) (o := .room e' (appCs te.size N g wr new)) (a := a') (by rw [Heap.get_set,if_pos rfl]) ha
          refine ⟨_,_,⟨_,w,ρ',run_append_room (w' := w) ht0 ht1 hu0 hu1 hund hsz hdx hdn hlen hroom hvs (by simp [storeCells]),m3,m1,by simp,?_,?_,Keeps.refl _ _⟩,hq⟩
          ·refine m4.less (Nat.le_refl _) fun j x hj => ?_
           rw [Heap.get_push] at hj ⊢
           have hnx : ((h.set i (.room e' (appCs te.size N g wr new))).drop i).next = (h.drop i).next := by simp
           rw [hnx]
           split at hj
           ·rename_i hjn; rw [if_pos hjn]; exact hj
           ·rename_i hjn
            rw [if_neg hjn,Heap.get_drop]
            rw [Heap.get_drop] at hj
            split at hj
            ·cases hj
            ·rename_i hji; rw [if_neg hji,Heap.get_set,if_neg hji]; exact hj
          ·simp only [VRel]
           exact ⟨a',p,sc,by simpa using m2,by simp,hroom,hp⟩
         ·have hpe : p = a'.base + 0 * te.size := hp1 fun h00 => by
           have : new.len = 0 := by omega
           rw [hvsz,this] at hv0; simp at hv0
          obtain ⟨w',arr',hrun,hb',hsz',hw,hne,ho1,ho2,ho3,hget⟩ := run_storeCells (P := P) a'.blk vs.toList (p + N * te.size) 0 w arr hb1 hone (by simp; omega)
          have hcr' : CRel ρ (appCs te.size N g wr new) arr' 0 := by
           intro k y hk
           simp only [Nat.zero_add]
           rw [hget]
           simp only [hpe,h0,Nat.zero_mul,Nat.zero_add,Nat.add_zero,Array.length_toList]
           by_cases hkc : k < N * te.size
           ·rw [if_neg (by omega)]
            rw [q2 k hkc] at hk
            simpa using hcr k y hk
           ·obtain ⟨j,rfl⟩ : ∃ j,k = N * te.size + j := ⟨k - N * te.size,by omega⟩
            rw [q3] at hk
            have hj := Cs.get_lt hk
            simp only [Cs.size] at hj
            rw [if_pos (by omega)]
            obtain ⟨q,hq,hr⟩ := hvc j y hk
            refine ⟨q,?_,hr⟩
            have : N * te.size + j - N * te.size = j := by omega
            rw [this]
            simpa using hq
          have hR' : Rel (h.set i (.room e' (appCs te.size N g wr new))) ρ T w' := hR.upd hi ha hw hne (fun S h => h.2.1) fun S' hS' hx => ⟨h0,hS',arr',hb',by omega,by rw [q1]; omega,hcr'⟩
          obtain ⟨ρ',m1,m2,m3,m4⟩ := hR'.move (i := i) (o := .room e' (appCs te.size N g wr new)) (a := a') (by rw [Heap.get_set,if_pos rfl]) ha
          refine ⟨_,_,⟨_,w',ρ',run_append_room (w' := w') ht0 ht1 hu0 hu1 hund hsz hdx hdn hlen hroom hvs ?_,m3,m1,by simp,?_,?_,?_⟩,hq⟩
          ·simp only [add_zero_spot]; exact hrun
          ·refine m4.less (Nat.le_refl _) fun j x hj => ?_
           rw [Heap.get_push] at hj ⊢
           have hnx : ((h.set i (.room e' (appCs te.size N g wr new))).drop i).next = (h.drop i).next := by simp
           rw [hnx]
           split at hj
           ·rename_i hjn; rw [if_pos hjn]; exact hj
           ·rename_i hjn
            rw [if_neg hjn,Heap.get_drop]
            rw [Heap.get_drop] at hj
            split at hj
            ·cases hj
            ·rename_i hji; rw [if_neg hji,Heap.get_set,if_neg hji]; exact hj
          ·simp only [VRel]
           exact ⟨a',p,sc,by simpa using m2,by simp,hroom,hp⟩
          ·refine ⟨by omega,ho1,ho2,ho3,fun b hb2 => hne b fun hbb => hb2 ?_⟩
           subst hbb
           exact hR.own_T hi ha (fun S h => h.2.1)
        ·obtain ⟨vs',hvs',hvsz',hvc'⟩ := hnew w.drew hR.drew
         obtain ⟨_,hold⟩ := seg_many (P := P) (T := T) (q := 0) (n := N) (p := p) (c := sc) hm hi (by rfl) ha (by omega) (fun h => (hp (by omega)).1)
         obtain ⟨os,hos,hosz,hoc⟩ := hold w.drew hR.drew
         simp only [NewEl.len,NewEl.el] at hos hosz hoc
         have hoc' : CRel ρ (.row te.size N g wr) os 0 := fun k y hk => by
          refine hoc k y ?_
          have hk2 := Cs.get_lt hk
          simp only [Cs.size] at hk2
          simp only [Cs.get,nblt_iff.2 hk2,cond_true,Cs.eff,Nat.zero_add] at hk ⊢
          exact hk
         obtain ⟨ii,z,newCap,ρ',g1,g2,g3,g4,g5,g6,g7,g8,g9,g10,g11⟩ := grow_facts (P := P) hT hR hte hb0 hz (need := N + new.len) (sCap := sc) (by omega) hlim (us := os) (vs := vs') (c := appCs te.size N g wr new)
          (by rw [hosz,hvsz',Nat.add_mul]) (by rw [q1,Nat.add_mul]) (fun rest => crel_app hm hoc' hvc' hosz hvsz')
         refine ⟨_,_,⟨_,_,ρ',run_append_grow ht0 ht1 hu0 hu1 hund hsz hdx hdn hlen g1 (by omega) g3 (by omega) (by rw [g2]; exact g4) g5 hos hvs',g7,g8,by simp,?_,?_,g11⟩,hq⟩
         ·refine g9.less (Nat.le_refl _) fun j x hj => ?_
          rw [Heap.get_push] at hj ⊢
          have hnx : (h.drop i).next = h.next := by simp
          rw [hnx] at hj
          split at hj
          ·rename_i hjn; rw [if_pos hjn]; exact hj
          ·rename_i hjn
           rw [if_neg hjn]
           rw [Heap.get_drop] at hj
           split at hj
           ·cases hj
           ·exact hj
         ·simp only [VRel] at g10 ⊢
          obtain ⟨a,c,q1,q2,q3,q4⟩ := g10
          exact ⟨a,_,c,q1,q2,q3,fun _ => ⟨by simp,by omega⟩⟩
      ·exact hq.elim
     ·-- of nothing,without room
      rename_i i o
      have hu' := hu
      simp only [VRel] at hu; obtain ⟨a0,ha0,rfl⟩ := hu
      obtain ⟨new,⟨hlen,hnew⟩,hq⟩ := vNew_ok (P := P) (T := T) hm hq hv
      rcases cP_elim hq with ⟨hn,hq⟩ | ⟨hn,hlim,hq⟩
      ·have hn := Nat.eq_of_beq_eq_true hn
       obtain ⟨vs,hvs,hvsz,_⟩ := hnew w hR
       have hvs0 : vs = #[] := Array.eq_empty_of_size_eq_zero (by rw [hvsz,hn]; simp)
       subst hvs0
       refine ⟨_,_,⟨_,w,ρ,?_,fun _ _ => rfl,Ren.le_refl _,Nat.le_refl _,hR,hu',Keeps.refl _ _⟩,hq⟩
       have := run_append_room (P := P) (w := w) (w' := w) (ty := ty) (base := some ⟨a0.blk,a0.base + o,none⟩) ht0 ht1 hu0 hu1 hund hsz hdx hdn hlen (by omega) hvs (by simp [storeCells])
       rw [hn] at this; exact this
      ·have hn : new.len ≠ 0 := fun h0 => by rw [h0] at hn; cases hn
       obtain ⟨vs',hvs',hvsz',hvc'⟩ := hnew w.drew hR.drew
       obtain ⟨i,z,newCap,ρ',g1,g2,g3,g4,g5,g6,g7,g8,g9,g10,g11⟩ := grow_facts (P := P) hT hR hte hb0 hz (need := 0 + new.len) (sCap := 0) (by omega) hlim (us := #[]) (vs := vs') (c := appCs te.size 0 (fun _ => []) [] new)
        (by simp [hvsz']) (by rw [(appCs_spec hm).1]; simp) (fun rest => crel_app hm (fun k y hk => by have := Cs.get_lt hk; simp [Cs.size] at this) hvc' (by simp) hvsz')
       refine ⟨_,_,⟨_,_,ρ',run_append_grow ht0 ht1 hu0 hu1 hund hsz hdx hdn hlen g1 (by omega) g3 (by omega) (by rw [g2]; exact g4) g5 (by simp [Builtin.firstCells,loadCells,loadCellsFrom]) hvs',g7,g8,by simp,g9,?_,g11⟩,hq⟩
       simp only [VRel] at g10 ⊢
       obtain ⟨a,c,q1,q2,q3,q4⟩ := g10
       exact ⟨a,_,c,q1,q2,q3,fun _ => ⟨by simp,by omega⟩⟩
     ·split at hq
      ·rename_i r h' hr
       exact ⟨r,h',appendA_ok hT hR hr hu hv ht0 ht1 hu0 hu1,hq⟩
      ·exact hq.elim
   ·exact hq.elim
  ·exact hq.elim
 ·exact hq.elim
end Go.Proofs.YtpnhfbegboogbaaGreat.SE
end
section
namespace Go.Proofs.YtpnhfbegboogbaaGreat.SE
open Go

def sameK : Value->Value->Option Bool
 | .int k a,.int k' b => if k = k' then some (a == b) else none
 | .string a,.string b => some (a == b)
 | _,_ => none
def keyFits : TD->Value->Bool
 | .int k,.int k' _ => if k' = k then true else false
 | .string,.string _ => true
 | _,_ => false
def avOf : Value->AV
 | .agg cs => .agg (toAV cs.toList)
 | v => .lit v
theorem avOf_rel (ρ : Ren) (z : Value) : VRel ρ (avOf z) z := by
 cases z with
 | agg cs => simp only [avOf,VRel]; exact ⟨cs,rfl,LRel.lits _⟩
 | _ => simp only [avOf,VRel]
def vFind (key : Value) : List (AV × AV × Nat)->Nat->(Option (Nat × AV)->Prop)->Prop
 | [],_,Q => Q none
 | (.lit u,v,_) :: r,i,Q => match sameK key u with
  | some b => cP b (Q (some (i,v))) (vFind key r (i + 1) Q)
  | none => False
 | _ :: _,_,_ => False
theorem keyFits_isKey {P : Program} {t : TypeId} {d : TypeDesc} {td : TD} {key : Value} (hd : mkTD P t d = td) (h : keyFits td key = true) : MapKept.IsKey d key := by
 cases td <;> cases key <;> simp [keyFits] at h
 ·rw [mkTD_string hd]; trivial
 ·rw [mkTD_int hd]; exact h
theorem sameK_now {P : Program} {t : TypeId} {d : TypeDesc} {td : TD} {key u : Value} {b : Bool} (hd : mkTD P t d = td) (h : keyFits td key = true) (hs : sameK key u = some b) : Instr.sameNow d key u = some b/\(b = true->key = u) := by
 cases td <;> cases key <;> simp [keyFits] at h
 ·cases u <;> simp [sameK] at hs
  rename_i x y
  rw [mkTD_string hd]
  refine ⟨by simp [Instr.sameNow,hs],fun hb => ?_⟩
  subst hb
  have : x = y := (MapKept.bytes_beq x y).1 hs
  rw [this]
 ·cases u <;> simp [sameK] at hs
  rename_i k1 a k2 b'
  rw [mkTD_int hd]
  refine ⟨by simp [Instr.sameNow,hs],fun hb => ?_⟩
  subst hb
  obtain ⟨h1,h2⟩ := hs
  have h2 : a = b' := by simpa using h2
  rw [h1,h2]
theorem vFind_ok {P : Program} {ρ : Ren} {t : TypeId} {d : TypeDesc} {td : TD} {key : Value} {Q : Option (Nat × AV)->Prop} (hd : mkTD P t d = td) (hk : keyFits td key = true) : ∀ {es : List (AV × AV × Nat)} {arr : List MapEntry} {i : Nat},MRel ρ es arr->vFind key es i Q ->
  (Instr.findNow d key arr i = some none/\Q none) ∨ ∃ j v u e,Instr.findNow d key arr i = some (some (i + j,u))/\VRel ρ v u/\Q (some (i + j,v))/\arr[j]? = some e/\e.key = key
 | [],arr,i,hm,hq => by
  simp only [MRel] at hm; subst hm
  exact .inl ⟨rfl,hq⟩
 | (kk,v,b) :: r,arr,i,hm,hq => by
  simp only [MRel] at hm
  obtain ⟨e,arr',rfl,h1,h2,_,h4⟩ := hm
  cases kk <;> simp only [vFind] at hq
  rename_i u
  split at hq
  ·rename_i bb hb
   simp only [VRel] at h1
   obtain ⟨g1,g2⟩ := sameK_now hd hk hb
   rw [← h1] at g1
   rcases cP_elim hq with ⟨rfl,hq⟩ | ⟨rfl,hq⟩
   ·refine .inr ⟨0,v,e.val,e,?_,h2,hq,rfl,by rw [h1,g2 rfl]⟩
    simp [Instr.findNow,g1]
   ·rcases vFind_ok hd hk h4 hq with ⟨q1,q2⟩ | ⟨j,v',u',e',q1,q2,q3,q4,q5⟩
    ·exact .inl ⟨by simp [Instr.findNow,g1,q1],q2⟩
    ·refine .inr ⟨j + 1,v',u',e',?_,q2,by rw [show i + (j + 1) = i + 1 + j by omega]; exact q3,by simpa using q4,q5⟩
     simp [Instr.findNow,g1,q1]; omega
  ·exact hq.elim

theorem MRel.app {ρ : Ren} : ∀ {es : List (AV × AV × Nat)} {arr : List MapEntry} {x : AV × AV × Nat} {e : MapEntry},MRel ρ es arr->VRel ρ x.1 e.key->VRel ρ x.2.1 e.val->e.born = x.2.2->MRel ρ (es ++ [x]) (arr ++ [e])
 | [],arr,x,e,hm,h1,h2,h3 => by simp only [MRel] at hm; subst hm; exact ⟨e,[],rfl,h1,h2,h3,rfl⟩
 | y :: es,arr,x,e,hm,h1,h2,h3 => by
  simp only [MRel] at hm
  obtain ⟨e0,arr',rfl,g1,g2,g3,g4⟩ := hm
  exact ⟨e0,arr' ++ [e],rfl,g1,g2,g3,g4.app h1 h2 h3⟩
theorem MRel.modify {ρ : Ren} {key val : Value} {v : AV} (hv : VRel ρ v val) : ∀ {es : List (AV × AV × Nat)} {arr : List MapEntry} {j : Nat},MRel ρ es arr->MRel ρ (es.modify j fun x => (.lit key,v,x.2.2)) (arr.modify j fun e => { e with key := key,val := val })
 | [],arr,j,hm => by simp only [MRel] at hm; subst hm; simp [MRel]
 | y :: es,arr,0,hm => by
  simp only [MRel] at hm
  obtain ⟨e0,arr',rfl,g1,g2,g3,g4⟩ := hm
  exact ⟨{ e0 with key := key,val := val },arr',rfl,by simp only [VRel],hv,g3,g4⟩
 | y :: es,arr,j + 1,hm => by
  simp only [MRel] at hm
  obtain ⟨e0,arr',rfl,g1,g2,g3,g4⟩ := hm
  exact ⟨e0,_,rfl,g1,g2,g3,g4.modify hv⟩
theorem MRel.length {ρ : Ren} : ∀ {es : List (AV × AV × Nat)} {arr : List MapEntry},MRel ρ es arr->arr.length = es.length
 | [],arr,hm => by simp only [MRel] at hm; subst hm; rfl
 | y :: es,arr,hm => by
  simp only [MRel] at hm
  obtain ⟨e0,arr',rfl,g1,g2,g3,g4⟩ := hm
  simp [g4.length]

theorem Rel.mapAt {h : Heap} {ρ : Ren} {T : Nat->Prop} {w : World} (hR : Rel h ρ T w) {i : Nat} {es : List (AV × AV × Nat)} {clk : Nat} (hi : h.get i = some (.map es clk)) :
  ∃ a arr,ρ i = some a/\w.heap[a.blk]? = some (.map arr clk)/\MRel ρ es arr.toList/\T a.blk := by
 obtain ⟨S,h1,h2,h3,h4,h5⟩ := hR
 obtain ⟨a,ha,hS,arr,hb,hm⟩ := h1 i _ hi
 exact ⟨a,arr,ha,hb,hm,(h3 i _ _ hi hS).1⟩
theorem Rel.mapSet {h : Heap} {ρ : Ren} {T : Nat->Prop} {w : World} (hR : Rel h ρ T w) {i : Nat} {es es' : List (AV × AV × Nat)} {clk clk' : Nat} {a : Loc} {arr arr' : Array MapEntry} (hi : h.get i = some (.map es clk)) (ha : ρ i = some a)
  (hb : w.heap[a.blk]? = some (.map arr clk)) (hT : T a.blk) (hm : MRel ρ es' arr'.toList) : Rel (h.set i (.map es' clk')) ρ T { w with heap := w.heap.setIfInBounds a.blk (.map arr' clk') }/\Keeps T w { w with heap := w.heap.setIfInBounds a.blk (.map arr' clk') } := by
 have hne : ∀ b,b ≠ a.blk->(w.heap.setIfInBounds a.blk (.map arr' clk'))[b]? = w.heap[b]? := fun b hb => by
  rw [Array.getElem?_setIfInBounds]; rw [if_neg (Ne.symm hb)]
 have hlt : a.blk < w.heap.size := (Array.getElem?_eq_some_iff.1 hb).1
 refine ⟨hR.upd (o := .map es clk) hi ha (by simp) hne (fun S hS => hS.1) (fun S hS _ => ⟨hS,arr',?_,hm⟩),by simp,rfl,rfl,rfl,fun b hb => hne b fun h => hb (h ▸ hT)⟩
 show (w.heap.setIfInBounds a.blk _)[a.blk]? = _
 simp [hlt]

def vMakeMap (tt : TT) (t : TypeId) (hint : Bool) (h : Heap) (Q : AV->Heap->Prop) : Prop := bif hint then False else
 match tt t with
 | some ti => match ti.desc with
  | .map _ _ => Q (.mp h.next) (h.push (.map [] 0))
  | _ => False
 | none => False
theorem vMakeMap_ok {P : Program} {tt : TT} {h : Heap} {ρ : Ren} {T : Nat->Prop} {w : World} (hR : Rel h ρ T w) {t : TypeId} {o : Option Value} {Q : AV->Heap->Prop} (hq : vMakeMap tt t o.isSome h Q) : XQ P (Instr.makeMap t o) h ρ T w Q := by
 cases o with
 | some x => simp [vMakeMap] at hq
 | none =>
  simp only [vMakeMap,Option.isSome_none,cond_false] at hq
  split at hq
  ·split at hq
   ·obtain ⟨ρ',h1,h2,h3,h4⟩ := hR.push (o := .map [] 0) (ob := .map #[] 0) 0 ⟨rfl,#[],by show (w.heap.push _)[w.heap.size]? = _; simp,rfl⟩
    obtain ⟨_,_,_,_,_,h5⟩ := hR
    refine ⟨_,_,⟨.map (some w.heap.size),w.alloc (.map #[] 0),ρ',?_,h3,h1,by simp,h4,by simp only [VRel]; exact ⟨_,h2,rfl⟩,Keeps.alloc _ h5⟩,hq⟩
    rfl
   ·exact hq.elim
  ·exact hq.elim
def mapTy (tt : TT) (t : TypeId) : Option (TI × TI) := match tt t with
 | some ti => match ti.desc with
  | .map kt et => match tt kt,tt et with
   | some tk,some te => some (tk,te)
   | _,_ => none
  | _ => none
 | none => none
theorem mapTy_ok {P : Program} {tt : TT} (hT : tt.ok P) {t : TypeId} {tk te : TI} (h : mapTy tt t = some (tk,te)) : ∃ kt et d,P.underlying t = some (.map kt et)/\P.underlying kt = some d/\mkTD P kt d = tk.desc/\tt et = some te := by
 unfold mapTy at h
 split at h
 ·rename_i ti hti
  split at h
  ·rename_i kt et hd
   split at h
   ·rename_i tk' te' h1 h2
    cases h
    obtain ⟨_,d,_,_,hu,_,_,_,_,hm⟩ := hT.info hti
    obtain ⟨_,d2,_,_,hu2,_,_,_,_,hm2⟩ := hT.info h1
    rw [hd] at hm
    rw [mkTD_map hm] at hu
    exact ⟨kt,et,d2,hu,hu2,hm2,h2⟩
   ·cases h
  ·cases h
 ·cases h
def vMapPut (tt : TT) (t : TypeId) (m k v : AV) (h : Heap) (Q : Heap->Prop) : Prop :=
 match mapTy tt t,m,k with
 | some (tk,_),.mp i,.lit key => match h.get i with
  | some (.map es clk) => bif keyFits tk.desc key then vFind key es 0 fun
    | none => Q (h.set i (.map (es ++ [(.lit key,v,clk)]) (clk + 1)))
    | some (j,_) => Q (h.set i (.map (es.modify j fun x => (.lit key,v,x.2.2)) clk)) else False
  | _ => False
 | _,_,_ => False
theorem sameBits_same {P : Program} {t : TypeId} {d : TypeDesc} {td : TD} {key : Value} (hd : mkTD P t d = td) (h : keyFits td key = true) : Instr.sameBits 10000 key key = true := by
 cases td <;> cases key <;> simp [keyFits] at h <;> simp [Instr.sameBits,MapKept.bytes_beq]
theorem run_undr {P : Program} {t : TypeId} {d : TypeDesc} (h : P.underlying t = some d) (w : World) : (underlying t).run P w = .ok d w := by simp [underlying,h]
theorem vMapPut_ok {P : Program} {tt : TT} (hT : tt.ok P) {h : Heap} {ρ : Ren} {T : Nat->Prop} {w : World} (hR : Rel h ρ T w) {t : TypeId} {m k v : AV} {um uk uv : Value} {Q : Heap->Prop} (hq : vMapPut tt t m k v h Q)
  (hm : VRel ρ m um) (hk : VRel ρ k uk) (hv : VRel ρ v uv) : ∃ w' h',(Instr.mapUpdate t um uk uv).run P w = .ok () w'/\Rel h' ρ T w'/\h'.next = h.next/\Keeps T w w'/\Q h' := by
 unfold vMapPut at hq
 split at hq
 ·rename_i tk te i key hty
  obtain ⟨kt,et,d,h1,h2,h3,h4⟩ := mapTy_ok hT hty
  simp only [VRel] at hk; subst hk
  simp only [VRel] at hm
  obtain ⟨a0,ha0,rfl⟩ := hm
  split at hq
  ·rename_i es clk hi
   cases hkf : keyFits tk.desc uk with
   | false => rw [hkf] at hq; exact hq.elim
   | true =>
    rw [hkf] at hq; simp only [cond_true] at hq
    obtain ⟨a,arr,ha,hb,hmr,hTa⟩ := hR.mapAt hi
    obtain rfl : a = a0 := Option.some.inj (ha.symm.trans ha0)
    have hck := MapKept.run_checkKey (w := w) h2 (keyFits_isKey h3 hkf) false 9999
    rcases vFind_ok h3 hkf hmr hq with ⟨q1,q2⟩ | ⟨j,v',u,e,q1,q2,q3,q4,q5⟩
    ·obtain ⟨r1,r2⟩ := hR.mapSet (es' := es ++ [(.lit uk,v,clk)]) (clk' := clk + 1) (arr' := arr.push { key := uk,val := uv,born := clk }) hi ha hb hTa (by
      rw [Array.toList_push]; exact hmr.app (by simp only [VRel]) hv rfl)
     refine ⟨_,_,?_,r1,by simp,r2,q2⟩
     simp [Instr.mapUpdate,run_undr h1,MapKept.run_getObj_map hb,hck,MapKept.run_findKey h2 q1,MapKept.run_setObj_map _ hb]
    ·rw [Nat.zero_add] at q1 q3
     obtain ⟨r1,r2⟩ := hR.mapSet (es' := es.modify j fun x => (.lit uk,v,x.2.2)) (clk' := clk) (arr' := arr.modify j fun e => { e with key := uk,val := uv }) hi ha hb hTa (by
      rw [Array.toList_modify]; exact hmr.modify hv)
     refine ⟨_,_,?_,r1,by simp,r2,q3⟩
     have hj : arr[j]? = some e := by rw [← Array.getElem?_toList]; exact q4
     simp [Instr.mapUpdate,run_undr h1,MapKept.run_getObj_map hb,hck,MapKept.run_findKey h2 q1,MapKept.run_setObj_map _ hb,hj,q5,Instr.keyThatStays,sameBits_same h3 hkf]
  ·exact hq.elim
 ·exact hq.elim
def okV (ok : Bool) (v : AV) (b : Bool) : AV := bif ok then .tup [v,.lit (.bool b)] else v
def vLookup (tt : TT) (t : TypeId) (x k : AV) (ok : Bool) (h : Heap) (Q : AV->Prop) : Prop :=
 match mapTy tt t,k with
 | some (tk,te),.lit key => bif keyFits tk.desc key then (match x with
  | .lit (.map none) => Q (okV ok (avOf te.zv) false)
  | .mp i => match h.get i with
   | some (.map es _) => vFind key es 0 fun
    | none => Q (okV ok (avOf te.zv) false)
    | some (_,v) => Q (okV ok v true)
   | _ => False
  | _ => False) else False
 | _,_ => False
theorem okV_rel {ρ : Ren} {ok b : Bool} {v : AV} {u : Value} (h : VRel ρ v u) : VRel ρ (okV ok v b) (if ok then .tuple #[u,.bool b] else u) := by
 cases ok with
 | false => exact h
 | true =>
  simp only [okV,cond_true,if_true,VRel]
  exact ⟨_,rfl,.cons h (.cons (by simp only [VRel]) .nil)⟩
theorem vLookup_ok {P : Program} {tt : TT} (hT : tt.ok P) {h : Heap} {ρ : Ren} {T : Nat->Prop} {w : World} (hR : Rel h ρ T w) {t : TypeId} {x k : AV} {ok : Bool} {ux uk : Value} {Q : AV->Prop} (hq : vLookup tt t x k ok h Q)
  (hx : VRel ρ x ux) (hk : VRel ρ k uk) : ∃ v,ROk P (Instr.lookup t ux uk ok) ρ w v/\Q v := by
 unfold vLookup at hq
 split at hq
 ·rename_i tk te key hty
  obtain ⟨kt,et,d,h1,h2,h3,h4⟩ := mapTy_ok hT hty
  simp only [VRel] at hk; subst hk
  cases hkf : keyFits tk.desc uk with
  | false => rw [hkf] at hq; exact hq.elim
  | true =>
   rw [hkf] at hq; simp only [cond_true] at hq
   have hck := fun b => MapKept.run_checkKey (w := w) h2 (keyFits_isKey h3 hkf) b 9999
   have hz := run_zeroV (P := P) hT h4 w
   split at hq
   ·simp only [VRel] at hx; subst hx
    have hf : Instr.findNow d uk [] 0 = some none := rfl
    refine ⟨_,⟨_,?_,okV_rel (avOf_rel ρ te.zv)⟩,hq⟩
    simp [Instr.lookup,run_undr h1,hck,MapKept.run_findKey h2 hf,hz]
   ·rename_i i
    simp only [VRel] at hx
    obtain ⟨a0,ha0,rfl⟩ := hx
    split at hq
    ·rename_i es clk hi
     obtain ⟨a,arr,ha,hb,hmr,hTa⟩ := hR.mapAt hi
     obtain rfl : a = a0 := Option.some.inj (ha.symm.trans ha0)
     rcases vFind_ok h3 hkf hmr hq with ⟨q1,q2⟩ | ⟨j,v',u,e,q1,q2,q3,q4,q5⟩
     ·refine ⟨_,⟨_,?_,okV_rel (avOf_rel ρ te.zv)⟩,q2⟩
      simp [Instr.lookup,run_undr h1,MapKept.run_getObj_map hb,hck,MapKept.run_findKey h2 q1,hz]
     ·refine ⟨_,⟨_,?_,okV_rel q2⟩,q3⟩
      simp [Instr.lookup,run_undr h1,MapKept.run_getObj_map hb,hck,MapKept.run_findKey h2 q1]
    ·exact hq.elim
   ·exact hq.elim
 ·exact hq.elim
end Go.Proofs.YtpnhfbegboogbaaGreat.SE
end
