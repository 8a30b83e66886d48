import Derived.Orders
import Derived.Still
import Derived.Calls
import Derived.Laws.World
import Derived.Laws.Sem
import Derived.Laws.StructEq
import Derived.Control
set_option linter.unusedVariables false
set_option linter.unusedSimpArgs false
set_option linter.unnecessarySimpa false
namespace Go.Proofs.YtenfleoejgjklaaGreat
open Go
theorem ah {α : Type _} {a : α} {l : List α} : (a :: l)[0]? = some a := rfl
theorem ak {α : Type _} (a b : α) : (some a = some b) = (a = b) := Option.some.injEq a b
theorem au {n m : Nat} (h : Nat.beq n m = true) : n = m := Nat.eq_of_beq_eq_true h
theorem ay (n : Nat) : (n : Int).toNat = n := rfl
theorem aA (n : Nat) : 0 + n = n := Nat.zero_add n
theorem aB (a b : Bool) : (Value.bool a = Value.bool b) = (a = b) := Value.bool.injEq a b
theorem aC {α : Sort _} {p : α → Prop} {b : α} : (∃ a, b = a ∧ p a) ↔ p b := exists_eq_left'
theorem aF (k : IntKind) (a : Int) (j : IntKind) (b : Int) : (Value.int k a = Value.int j b) = (k = j ∧ a = b) := Value.int.injEq k a j b
theorem aG {α : Sort _} {p : α → Prop} {b : α} : (∃ a, a = b ∧ p a) ↔ p b := exists_eq_left
theorem aH (b : Bool) : (true && b) = b := Bool.true_and b
theorem aI (n : Nat) : n + 0 = n := rfl
theorem aJ (a b : Bool) : ((a && b) = true) = (a = true ∧ b = true) := Bool.and_eq_true a b
theorem aK (α : Sort _) : (α → True) = True := implies_true α
theorem aN (n : Nat) : n - 0 = n := rfl
theorem aO (p : Prop) : (True → p) = p := true_implies p
theorem aP {α : Sort _} {a b : α} : cond true a b = a := rfl
theorem aQ {α : Sort _} {a b : α} : cond false a b = b := rfl
theorem aS {p : Prop} [inst : Decidable p] (h : decide p = true) : p := of_decide_eq_true h
theorem aT {p : Prop} [inst : Decidable p] (h : decide p = false) : ¬ p := of_decide_eq_false h
theorem aU (p : Prop) : (True ∧ p) = p := true_and p
theorem aV (p : Prop) : (p ∧ True) = p := and_true p
theorem aW (p : Prop) : (p ∧ p) = p := and_self p
theorem aX {α : Sort _} (a : α) : (a = a) = True := eq_self a
theorem aY (n : Nat) : n ≤ n := Nat.le_refl n
end Go.Proofs.YtenfleoejgjklaaGreat
section
namespace Go.Proofs.YtenfleoejgjklaaGreat.SE
open Go
inductive Stp where
 |nn (i:Nat)
 |rr (l:List Nat)
 |xx (i:Nat)
section
variable{P:Program}{ops:Array Oper}{Q:Exit->Act->World->Prop}
def CQ(P:Program)(ops:Array Oper)(w:World)(K:Act->Prop):List Nat->Act->Prop
 |[],a=>K a
 |i::rest,a=> ∃o v,ops[i]? =some o/\YieldsAt P ops w o v a/\CQ P ops w K rest (a.put o.dst v)
def Ba(P:Program)(ops:Array Oper)(Q:Exit->Act->World->Prop):List Stp->Act->World->Prop
 |[],a,w=>Q .normal a w
 | .nn i::rest,a,w=> ∃o v,ops[i]? =some o/\Yields P ops o v a/\Ba P ops Q rest (a.put o.dst v) w
 | .rr l::rest,a,w=>CQ P ops w (λa'=>Ba P ops Q rest a' w) l a
 | .xx i::rest,a,w=>wpOp P ops Q i (Ba P ops Q rest) a w
def without(ops:Array Oper)(r:Nat)(l:List Nat):Nat->Array Bool->Array Bool
 |0,s=>s
 |n+1,s=>match ((Region.ready .any ops s).filter λi=>i !=r&&l.contains i)with
  |[]=>s
  |i::_=>without ops r l n (s.setIfInBounds i true)
def isN:Op->Bool
 | .move _| .assign _| .pick .. | .nilCheck _| .binOp .. | .unOp .. | .makeFunc .. | .slice .. | .fieldAddr .. | .field .. | .indexAddr .. | .index .. | .extract .. | .build .. =>true
 | .convert .. =>true
 | .call c=>match c.callee with
  | .builtin .len=>true
  | .builtin .cap=>true
  | .builtin .min=>true
  | .builtin .max=>true
  |_=>false
 |_=>false
theorem YieldsAt.wpOp'{w:World}{i:Nat}{o:Oper}{v:Value}{a:Act}(hi:ops[i]? =some o)(hy:YieldsAt P ops w o v a)
  {K:Act->World->Prop} (h:K (a.put o.dst v) w):wpOp P ops Q i K a w:=
 wpOp_of_stOp (K:=λa'=>K a' w) (λ_ h=>h) (hy.stOp hi h)
theorem Ug{s t:Array Bool}(hsz:s.size=t.size)(h: ∀i,s.getD i false=t.getD i false):s=t:=by
 apply Array.ext hsz;intro i h1 h2;have:=h i;simpa[h1,h2]using this
end
structure Loc where
 blk:Nat
 base:Nat
 lim:Nat
abbrev Ren:=Nat->Option Loc
def Ren.le(ρ ρ':Ren):Prop:= ∀i a,ρ i=some a->ρ' i=some a
theorem Ren.le_refl(ρ:Ren):ρ.le ρ:=λ_ _ h=>h
inductive AV where
 |any
 |lit (v:Value)
 |ptr (i off:Nat)
 |sl (i off len cap:Nat)
 |slU (i off len sz:Nat)
 |nH (i k m j:Nat)
 |slE (i k m len cap:Nat)
 |slW (i k m len:Nat)
 |slR (i k m len:Nat)
 |slZ (z:Bool) (i k m len:Nat)
 |slV (z:Bool) (i m len:Nat)
 |one
 |arr (n:Nat) (g:Nat->List Value)
 |mp (i:Nat)
 |fn (f:Fn) (first cap:List AV)
 |agg (cs:List AV)
 |tup (vs:List AV)
 |ifc (t:TypeId) (v:AV)
mutual
def bF(ρ:Ren):AV->Value->Prop
 | .any,_=>True
 | .lit u,v=>v=u
 | .ptr i o,v=> ∃a,ρ i=some a/\v= .pointer (some ⟨a.blk,a.base+o,none⟩)
 | .sl i o n c,v=> ∃a,ρ i=some a/\v= .slice (some ⟨a.blk,a.base+o,none⟩) n c
 | .slU i o n sz,v=> ∃a c,ρ i=some a/\v= .slice (some ⟨a.blk,a.base+o,none⟩) n c/\n<=c/\o+c*sz<=a.lim
 | .nH i k m j,v=> ∃a,ρ i=some a/\v= .pointer (some ⟨a.blk,a.base+(k*m+j),none⟩)
 | .slE i k m n c,v=> ∃a p,ρ i=some a/\v= .slice (some ⟨a.blk,p,none⟩) n c/\n<=c/\(c≠0->p=a.base+k*m)
 | .slW i k m n,v=> ∃a p c,ρ i=some a/\v= .slice (some ⟨a.blk,p,none⟩) n c/\n<=c/\(c≠0->p=a.base+k*m/\k*m+c*m<=a.lim)
 | .slR i k m n,v=>(n=0/\v= .slice none 0 0)\/ ∃a p c,ρ i=some a/\v= .slice (some ⟨a.blk,p,none⟩) n c/\n<=c/\(n≠0->p=a.base+k*m)
 | .slZ z i k m n,v=>(z=true/\n=0/\v= .slice none 0 0)\/(z=false/\ ∃a p c,ρ i=some a/\v= .slice (some ⟨a.blk,p,none⟩) n c/\n<=c/\(n≠0->p=a.base+k*m))
 | .slV z i m n,v=>(z=true/\n=0/\v= .slice none 0 0)\/(z=false/\ ∃a p c,ρ i=some a/\v= .slice (some ⟨a.blk,p,none⟩) n c/\n<=c/\(c≠0->p=a.base/\c*m<=a.lim))
 | .one,v=>v.oneCell'=true
 | .arr n g,v=> ∃A,v= .agg A/\A.size=n/\ ∀k u,k<n->(g k)[0]? =some u->A[k]? =some u
 | .mp i,v=> ∃a,ρ i=some a/\v= .map (some a.blk)
 | .fn f fs cs,v=> ∃x y,v= .func f x y/\dQ ρ fs x.toList/\dQ ρ cs y.toList
 | .agg cs,v=> ∃vs,v= .agg vs/\dQ ρ cs vs.toList
 | .tup cs,v=> ∃vs,v= .tuple vs/\dQ ρ cs vs.toList
 | .ifc t x,v=> ∃y,v= .iface t y/\bF ρ x y
def dQ(ρ:Ren):List AV->List Value->Prop
 |[],vs=>vs=[]
 |a::as,vs=> ∃v vs',vs=v::vs'/\bF ρ a v/\dQ ρ as vs'
end
mutual
theorem bF.mono{ρ ρ':Ren}(h:ρ.le ρ'): ∀(a:AV) (v:Value),bF ρ a v->bF ρ' a v
 | .any,_,_=>by simp[bF]
 | .lit u,_,hv=>by simpa[bF]using hv
 | .ptr i o,v,hv=>by simp only[bF]at hv ⊢;obtain⟨a,ha,hv⟩:=hv;exact⟨a,h _ _ ha,hv⟩
 | .sl i o n c,v,hv=>by simp only[bF]at hv ⊢;obtain⟨a,ha,hv⟩:=hv;exact⟨a,h _ _ ha,hv⟩
 | .slU i o n sz,v,hv=>by simp only[bF]at hv ⊢;obtain⟨a,c,ha,hv⟩:=hv;exact⟨a,c,h _ _ ha,hv⟩
 | .nH i k m j,v,hv=>by simp only[bF]at hv ⊢;obtain⟨a,ha,hv⟩:=hv;exact⟨a,h _ _ ha,hv⟩
 | .slE i k m n c,v,hv=>by simp only[bF]at hv ⊢;obtain⟨a,p,ha,hv⟩:=hv;exact⟨a,p,h _ _ ha,hv⟩
 | .slW i k m n,v,hv=>by simp only[bF]at hv ⊢;obtain⟨a,p,c,ha,hv⟩:=hv;exact⟨a,p,c,h _ _ ha,hv⟩
 | .slR i k m n,v,hv=>by simp only[bF]at hv ⊢;exact hv.imp id λ⟨a,p,c,ha,hv⟩=>⟨a,p,c,h _ _ ha,hv⟩
 | .slZ z i k m n,v,hv=>by simp only[bF]at hv ⊢;exact hv.imp id λ⟨hz,a,p,c,ha,hv⟩=>⟨hz,a,p,c,h _ _ ha,hv⟩
 | .slV z i m n,v,hv=>by simp only[bF]at hv ⊢;exact hv.imp id λ⟨hz,a,p,c,ha,hv⟩=>⟨hz,a,p,c,h _ _ ha,hv⟩
 | .one,v,hv=>by simpa only[bF]using hv
 | .arr n g,v,hv=>by simpa only[bF]using hv
 | .mp i,v,hv=>by simp only[bF]at hv ⊢;obtain⟨a,ha,hv⟩:=hv;exact⟨a,h _ _ ha,hv⟩
 | .fn f fs cs,v,hv=>by
  simp only[bF]at hv ⊢;obtain⟨x,y,hv,h1,h2⟩:=hv;exact⟨x,y,hv,dQ.mono h _ _ h1,dQ.mono h _ _ h2⟩
 | .agg cs,v,hv=>by simp only[bF]at hv ⊢;obtain⟨vs,hv,h1⟩:=hv;exact⟨vs,hv,dQ.mono h _ _ h1⟩
 | .tup cs,v,hv=>by simp only[bF]at hv ⊢;obtain⟨vs,hv,h1⟩:=hv;exact⟨vs,hv,dQ.mono h _ _ h1⟩
 | .ifc t x,v,hv=>by simp only[bF]at hv ⊢;obtain⟨y,hv,h1⟩:=hv;exact⟨y,hv,bF.mono h _ _ h1⟩
theorem dQ.mono{ρ ρ':Ren}(h:ρ.le ρ'): ∀(a:List AV) (v:List Value),dQ ρ a v->dQ ρ' a v
 |[],_,hv=>by simpa[dQ]using hv
 |a::as,vs,hv=>by
  simp only[dQ]at hv ⊢;obtain⟨v,vs',hv,h1,h2⟩:=hv;exact⟨v,vs',hv,bF.mono h _ _ h1,dQ.mono h _ _ h2⟩
end
theorem dQ.nil{ρ:Ren}:dQ ρ [] []:=by simp[dQ]
theorem dQ.cons{ρ:Ren}{a:AV}{v:Value}{as:List AV}{vs:List Value}(h:bF ρ a v)(hs:dQ ρ as vs):dQ ρ (a::as) (v::vs):=by
 simp only[dQ];exact⟨v,vs,rfl,h,hs⟩
theorem dQ.length{ρ:Ren}: ∀{as:List AV} {vs:List Value},dQ ρ as vs->as.length=vs.length
 |[],vs,h=>by simp[dQ]at h;simp[h]
 |a::as,vs,h=>by
  simp only[dQ]at h;obtain⟨v,vs',rfl,_,h2⟩:=h;simp[dQ.length h2]
theorem dQ.get{ρ:Ren}: ∀{as:List AV} {vs:List Value},dQ ρ as vs-> ∀(k:Nat) (a:AV),as[k]? =some a-> ∃v,vs[k]? =some v/\bF ρ a v
 |[],_,_,k,a,ha=>by simp at ha
 |x::as,vs,h,k,a,ha=>by
  simp only[dQ]at h;obtain⟨v,vs',rfl,h1,h2⟩:=h;cases k with
  |zero=>simp at ha;subst ha;exact⟨v,rfl,h1⟩
  |succ k=>simp at ha;simpa using dQ.get h2 k a ha
theorem dQ.Zi{ρ:Ren}: ∀{as:List AV} {vs:List Value},as.length=vs.length->(∀(k:Nat) (a:AV),as[k]? =some a-> ∃v,vs[k]? =some v/\bF ρ a v)->dQ ρ as vs
 |[],vs,hl,_=>by simp at hl;simp[dQ,List.eq_nil_of_length_eq_zero hl.symm]
 |a::as,[],hl,_=>by simp at hl
 |a::as,v::vs,hl,h=>by
  refine .cons ?_ (.Zi (by simpa using hl) λk b hb=>by simpa using h (k+1) b (by simpa using hb));obtain⟨u,hu,hr⟩:=h 0 a rfl;simp at hu;subst hu;exact hr
theorem dQ.append{ρ:Ren}: ∀{as bs:List AV} {vs us:List Value},dQ ρ as vs->dQ ρ bs us->dQ ρ (as++bs) (vs++us)
 |[],bs,vs,us,h,k=>by simp[dQ]at h;subst h;simpa using k
 |a::as,bs,vs,us,h,k=>by
  simp only[dQ]at h;obtain⟨v,vs',rfl,h1,h2⟩:=h;exact .cons h1 (dQ.append h2 k)
theorem dQ.lits{ρ:Ren}(l:List Value):dQ ρ (l.map .lit) l:=by
 induction l with
 |nil=>exact .nil
 |cons v l ih=>exact .cons (by simp[bF]) ih
inductive PM (α:Type) where
 |leaf
 |node (l:PM α) (v:Option α) (r:PM α)
theorem fC{m n:Nat}(h:m≠n):Nat.beq m n=false:=by
 cases hh:Nat.beq m n with
 |false=>rfl
 |true=>exact absurd (au hh) h
theorem bg{m n:Nat}:Nat.blt m n=true↔m<n:=by simp[Nat.blt,Nat.lt_iff_add_one_le]
namespace PM
variable{α:Type}
def get:PM α->Nat->Option α
 | .leaf,_=>none
 | .node l v r,n=>bif Nat.beq n 0 then v else bif Nat.beq (n%2) 1 then l.get (n/2)else r.get (n/2-1)
def ald:Nat->PM α->Nat->Option α->PM α
 |0,t,_,_=>t
 |f+1,.leaf,n,x=>bif Nat.beq n 0 then .node .leaf x .leaf else bif Nat.beq (n%2) 1 then .node (ald f .leaf (n/2) x) none .leaf else .node .leaf none (ald f .leaf (n/2-1) x)
 |f+1,.node l v r,n,x=>bif Nat.beq n 0 then .node l x r else bif Nat.beq (n%2) 1 then .node (ald f l (n/2) x) v r else .node l v (ald f r (n/2-1) x)
def set(t:PM α)(n:Nat)(x:Option α):PM α:=ald (n+1) t n x
theorem Jy: ∀(f:Nat) (t:PM α) (n:Nat) (x:Option α) (m:Nat),n<f->(ald f t n x).get m=if m=n then x else t.get m
 |0,_,_,_,_,h=>by omega
 |f+1,t,n,x,m,h=>by
  have key: ∀(l r:PM α) (v:Option α),(bif Nat.beq n 0 then PM.node l x r else bif Nat.beq (n%2) 1 then .node (ald f l (n/2) x) v r else .node l v (ald f r (n/2-1) x)).get m=if m=n then x else(PM.node l v r).get m:=by
   intro l r v;by_cases h0:n=0
   ·subst h0
    by_cases hm:m=0
    ·subst hm;simp[get]
    ·have:Nat.beq m 0=false:=fC hm
     simp[get,hm,this]
   ·have hb:Nat.beq n 0=false:=fC h0
    rcases Nat.mod_two_eq_zero_or_one n with hp|hp
    ·have hp':Nat.beq (n%2) 1=false:=fC (by omega)
     simp only[hb,hp',aQ];by_cases hm0:m=0
     ·subst hm0;simp[get,Ne.symm h0]
     ·have hmb:Nat.beq m 0=false:=fC hm0
      rcases Nat.mod_two_eq_zero_or_one m with hq|hq
      ·have hq':Nat.beq (m%2) 1=false:=fC (by omega)
       simp only[get,hmb,hq',aQ];rw[Jy f r (n/2-1) x (m/2-1) (by omega)];by_cases hmn:m=n
       ·simp[hmn]
       ·rw[if_neg hmn,if_neg (by omega)]
      ·have hq':Nat.beq (m%2) 1=true:=by rw[hq];rfl
       simp only[get,hmb,hq',aQ,aP];rw[if_neg (by omega)]
    ·have hp':Nat.beq (n%2) 1=true:=by rw[hp];rfl
     simp only[hb,hp',aQ,aP];by_cases hm0:m=0
     ·subst hm0;simp[get,Ne.symm h0]
     ·have hmb:Nat.beq m 0=false:=fC hm0
      rcases Nat.mod_two_eq_zero_or_one m with hq|hq
      ·have hq':Nat.beq (m%2) 1=false:=fC (by omega)
       simp only[get,hmb,hq',aQ];rw[if_neg (by omega)]
      ·have hq':Nat.beq (m%2) 1=true:=by rw[hq];rfl
       simp only[get,hmb,hq',aQ,aP];rw[Jy f l (n/2) x (m/2) (by omega)];by_cases hmn:m=n
       ·simp[hmn]
       ·rw[if_neg hmn,if_neg (by omega)]
  cases t with
  |leaf=>
   have hl: ∀k,(PM.leaf:PM α).get k=none:=λ_=>rfl
   have:=key .leaf .leaf none;simp only[ald];rw[this];by_cases hm:m=n
   ·simp[hm]
   ·rw[if_neg hm,if_neg hm]
    simp only[get];cases Nat.beq m 0<;>cases Nat.beq (m%2) 1<;>rfl
  |node l v r=>simpa only[ald]using key l r v
theorem dR(t:PM α)(n:Nat)(x:Option α)(m:Nat):(t.set n x).get m=if m=n then x else t.get m:=Jy _ t n x m (by omega)
@[simp] theorem uD (n:Nat):(PM.leaf:PM α).get n=none:=rfl
end PM
inductive Cs where
 |av (l:List AV)
 |raw (l:List Value)
 |tr (n:Nat) (z:List AV) (t:PM AV)
 |row (m n:Nat) (g:Nat->List Value) (wr:List (Nat×List Value))
 |cat (a b:Cs)
namespace Cs
def eff(g:Nat->List Value):List (Nat×List Value)->Nat->List Value
 |[],q=>g q
 |(k,c)::r,q=>bif Nat.beq q k then c else eff g r q
def size:Cs->Nat
 | .av l=>l.length
 | .raw l=>l.length
 | .tr n _ _=>n
 | .row m n _ _=>n*m
 | .cat a b=>a.size+b.size
def get:Cs->Nat->Option AV
 | .av l,k=>l[k]?
 | .raw l,k=>match l[k]? with
  |some v=>some (.lit v)
  |none=>none
 | .tr n z t,k=>bif Nat.blt k n then(match t.get k with|some v=>some v|none=>z[k%z.length]?)else none
 | .row m n g wr,k=>bif Nat.blt k (n*m)then(match (eff g wr (k/m))[k%m]? with|some v=>some (.lit v)|none=>some .any)else none
 | .cat a b,k=>bif Nat.blt k a.size then a.get k else b.get (k-a.size)
def set:Cs->Nat->AV->Option Cs
 | .av l,k,v=>bif Nat.blt k l.length then some (.av (l.set k v))else none
 | .raw l,k,v=>match v with
  | .lit u=>bif Nat.blt k l.length then some (.raw (l.set k u))else none
  |_=>none
 | .tr n z t,k,v=>bif Nat.blt k n then some (.tr n z (t.set k (some v)))else none
 | .row ..,_,_=>none
 | .cat a b,k,v=>bif Nat.blt k a.size then(match a.set k v with
  |some a'=>some (.cat a' b)
  |none=>none)else(match b.set (k-a.size) v with
  |some b'=>some (.cat a b')
  |none=>none)
theorem dW{c:Cs}{k:Nat}{v:AV}(h:c.get k=some v):k<c.size:=by
 induction c generalizing k v with
 |av l=>exact(List.getElem?_eq_some_iff.1 h).1
 |raw l=>
  simp only[get]at h;split at h
  ·rename_i u hu;exact(List.getElem?_eq_some_iff.1 hu).1
  ·cases h
 |tr n z t=>
  simp only[get]at h;cases hb:Nat.blt k n with
  |true=>simpa[size]using hb
  |false=>rw[hb]at h;simp at h
 |row m n g wr=>
  simp only[get]at h;cases hb:Nat.blt k (n*m)with
  |true=>simpa[size]using hb
  |false=>rw[hb]at h;simp at h
 |cat x y ihx ihy=>
  simp only[get]at h;simp only[size];cases hb:Nat.blt k x.size with
  |true=>rw[hb]at h;have:=ihx h;omega
  |false=>rw[hb]at h;have:=ihy h;omega
theorem wX{c c':Cs}{k:Nat}{v:AV}(h:c.set k v=some c'):k<c.size/\c'.size=c.size/\ ∀j,c'.get j=if j=k then some v else c.get j:=by
 induction c generalizing c' k v with
 |av l=>
  simp only[set]at h;cases hb:Nat.blt k l.length with
  |false=>rw[hb]at h;simp at h
  |true=>
   rw[hb]at h;simp at h;subst h;have hk:k<l.length:=by simpa using hb
   refine⟨hk,by simp[size],λj=> ?_⟩;simp only[get,List.getElem?_set];by_cases hj:j=k
   ·subst hj;simp[hk]
   ·rw[if_neg (Ne.symm hj),if_neg hj]
 |raw l=>
  cases v with
  |lit u=>
   simp only[set]at h;cases hb:Nat.blt k l.length with
   |false=>rw[hb]at h;simp at h
   |true=>
    rw[hb]at h;simp at h;subst h;have hk:k<l.length:=by simpa using hb
    refine⟨hk,by simp[size],λj=> ?_⟩;simp only[get,List.getElem?_set];by_cases hj:j=k
    ·subst hj;simp[hk]
    ·rw[if_neg (Ne.symm hj),if_neg hj]
  |_=>simp[set]at h
 |tr n z t=>
  simp only[set]at h;cases hb:Nat.blt k n with
  |false=>rw[hb]at h;simp at h
  |true=>
   rw[hb]at h;simp at h;subst h;have hk:k<n:=by simpa using hb
   refine⟨hk,rfl,λj=> ?_⟩;simp only[get,PM.dR];by_cases hj:j=k
   ·subst hj;simp[hb]
   ·simp only[if_neg hj]
 |row m n g wr=>simp[set]at h
 |cat x y ihx ihy=>
  simp only[set]at h;cases hb:Nat.blt k x.size with
  |true=>
   rw[hb]at h;simp only[aP]at h;split at h
   ·rename_i x' hx
    cases h;obtain⟨h1,h2,h3⟩:=ihx hx;refine⟨by simp only[size];omega,by simp only[size,h2],λj=> ?_⟩;simp only[get,h2,h3];cases hj:Nat.blt j x.size with
    |true=>simp only[aP]
    |false=>
     have: ¬j<x.size:=λhh=>by rw[bg.2 hh]at hj;cases hj
     have hjk:j≠k:=by omega
     simp only[aQ,if_neg hjk]
   ·cases h
  |false=>
   have hkx: ¬k<x.size:=λhh=>by rw[bg.2 hh]at hb;cases hb
   rw[hb]at h;simp only[aQ]at h;split at h
   ·rename_i y' hy
    cases h;obtain⟨h1,h2,h3⟩:=ihy hy;refine⟨by simp only[size];omega,by simp only[size,h2],λj=> ?_⟩;simp only[get,h3];cases hj:Nat.blt j x.size with
    |true=>
     have:=bg.1 hj;have hjk:j≠k:=by omega
     simp only[aP,if_neg hjk]
    |false=>
     have: ¬j<x.size:=λhh=>by rw[bg.2 hh]at hj;cases hj
     simp only[aQ];by_cases he:j=k
     ·have he2:j-x.size=k-x.size:=by omega
      rw[if_pos he2,if_pos he]
     ·have he2: ¬j-x.size=k-x.size:=by omega
      rw[if_neg he2,if_neg he]
   ·cases h
end Cs
structure Own where
 holds:World->Loc->(Nat->Prop)->Prop
 stays: ∀w w' a S,holds w a S->(∀x,S x->w'.heap[x]? =w.heap[x]?)->holds w' a S
structure abK where
 key:ByteArray
 val:List Value
 born:Nat
structure MS where
 n:Nat
 g:Nat->abK
 clk:Nat
inductive dF where
 |cells (e:TypeId) (c:Cs)
 |room (e:TypeId) (c:Cs)
 |iC (z:Bool) (e:TypeId) (c:Cs)
 |nK (m:MS)
 |ro (c:Cs)
 |map (es:List (AV×AV×Nat)) (clock:Nat)
 |abs (A:Own)
 |iter (m:Option Nat) (since:Nat) (seen:List Nat) (stepped:Nat)
def fF(ρ:Ren)(c:Cs)(arr:Array Value)(b:Nat):Prop:= ∀k v,c.get k=some v-> ∃u,arr[b+k]? =some u/\bF ρ v u
theorem fF.mono{ρ ρ':Ren}(h:ρ.le ρ'){c:Cs}{arr:Array Value}{b:Nat}(hc:fF ρ c arr b):fF ρ' c arr b:=
 λk v hk=>let ⟨u,hu,hr⟩:=hc k v hk;⟨u,hu,bF.mono h _ _ hr⟩
def kM(ρ:Ren):List (AV×AV×Nat)->List MapEntry->Prop
 |[],es=>es=[]
 |x::xs,es=> ∃e es',es=e::es'/\bF ρ x.1 e.key/\bF ρ x.2.1 e.val/\e.born=x.2.2/\kM ρ xs es'
theorem kM.mono{ρ ρ':Ren}(h:ρ.le ρ'): ∀{xs:List (AV×AV×Nat)} {es:List MapEntry},kM ρ xs es->kM ρ' xs es
 |[],_,hm=>hm
 |_::_,_,⟨e,es',he,h1,h2,h3,h4⟩=>⟨e,es',he,bF.mono h _ _ h1,bF.mono h _ _ h2,h3,kM.mono h h4⟩
def aqd(ρ:Ren):Option Nat->Option Nat->Prop
 |none,m=>m=none
 |some i,m=> ∃a,ρ i=some a/\m=some a.blk
theorem aqd.mono{ρ ρ':Ren}(h:ρ.le ρ'){m:Option Nat}{b:Option Nat}(hm:aqd ρ m b):aqd ρ' m b:=by
 cases m with
 |none=>exact hm
 |some i=>obtain⟨a,ha,hb⟩:=hm;exact⟨a,h _ _ ha,hb⟩
def Jz(m:MS)(arr:Array MapEntry):Prop:=arr.size=m.n/\ ∀j,j<m.n->arr[j]? =some {key:= .string (m.g j).key,val:= .agg (m.g j).val.toArray,born:=(m.g j).born}
def dI(ρ:Ren)(w:World)(T:Nat->Prop)(a:Loc)(S:Nat->Prop):dF->Prop
 | .cells e c=>a.base=0/\S a.blk/\ ∃arr,w.heap[a.blk]? =some (.cells arr e (0,0))/\arr.size=c.size/\a.lim=c.size/\fF ρ c arr 0
 | .room e c=>a.base=0/\S a.blk/\ ∃arr,w.heap[a.blk]? =some (.cells arr e (0,0))/\arr.size=a.lim/\c.size<=a.lim/\fF ρ c arr 0
 | .iC z e c=>(z=true/\c.size=0)\/(z=false/\a.base=0/\S a.blk/\ ∃arr,w.heap[a.blk]? =some (.cells arr e (0,0))/\arr.size=a.lim/\c.size<=a.lim/\fF ρ c arr 0)
 | .nK m=>S a.blk/\ ∃arr,w.heap[a.blk]? =some (.map arr m.clk)/\Jz m arr
 | .ro c=>c.size=0\/(¬T a.blk/\ ∃arr e f,w.heap[a.blk]? =some (.cells arr e f)/\fF ρ c arr a.base)
 | .map es clock=>S a.blk/\ ∃arr,w.heap[a.blk]? =some (.map arr clock)/\kM ρ es arr.toList
 | .abs A=>A.holds w a S
 | .iter m since seen st=>a.base=0/\S a.blk/\ ∃mb,aqd ρ m mb/\w.heap[a.blk]? =some (.mapIter mb since seen.toArray st)
theorem dI.stays{ρ:Ren}{w w':World}{T:Nat->Prop}{a:Loc}{S:Nat->Prop}{o:dF}(h:dI ρ w T a S o)
  (hw: ∀b,S b\/ ¬T b->w'.heap[b]? =w.heap[b]?):dI ρ w' T a S o:=by
 cases o with
 |cells e c=>obtain⟨h0,hS,arr,h1,h2⟩:=h;exact⟨h0,hS,arr,by rw[hw _ (.inl hS)];exact h1,h2⟩
 |room e c=>obtain⟨h0,hS,arr,h1,h2⟩:=h;exact⟨h0,hS,arr,by rw[hw _ (.inl hS)];exact h1,h2⟩
 |iC z e c=>
  rcases h with h|⟨hz,h0,hS,arr,h1,h2⟩
  ·exact .inl h
  ·exact .inr ⟨hz,h0,hS,arr,by rw[hw _ (.inl hS)];exact h1,h2⟩
 |nK m=>obtain⟨hS,arr,h1,h2⟩:=h;exact⟨hS,arr,by rw[hw _ (.inl hS)];exact h1,h2⟩
 |ro c=>
  rcases h with h0|⟨hT,arr,e,f,h1,h2⟩
  ·exact .inl h0
  ·exact .inr ⟨hT,arr,e,f,by rw[hw _ (.inr hT)];exact h1,h2⟩
 |map es clock=>obtain⟨hS,arr,h1,h2⟩:=h;exact⟨hS,arr,by rw[hw _ (.inl hS)];exact h1,h2⟩
 |abs A=>exact A.stays _ _ _ _ h λx hx=>hw x (.inl hx)
 |iter m since seen st=>obtain⟨h0,hS,mb,h1,h2⟩:=h;exact⟨h0,hS,mb,h1,by rw[hw _ (.inl hS)];exact h2⟩
theorem dI.mono{ρ ρ':Ren}(hρ:ρ.le ρ'){w:World}{T:Nat->Prop}{a:Loc}{S:Nat->Prop}{o:dF}(h:dI ρ w T a S o):dI ρ' w T a S o:=by
 cases o with
 |cells e c=>obtain⟨h0,hS,arr,h1,h2,h3,h4⟩:=h;exact⟨h0,hS,arr,h1,h2,h3,h4.mono hρ⟩
 |room e c=>obtain⟨h0,hS,arr,h1,h2,h3,h4⟩:=h;exact⟨h0,hS,arr,h1,h2,h3,h4.mono hρ⟩
 |iC z e c=>
  rcases h with h|⟨hz,h0,hS,arr,h1,h2,h3,h4⟩
  ·exact .inl h
  ·exact .inr ⟨hz,h0,hS,arr,h1,h2,h3,h4.mono hρ⟩
 |nK m=>exact h
 |ro c=>
  rcases h with h0|⟨hT,arr,e,f,h1,h2⟩
  ·exact .inl h0
  ·exact .inr ⟨hT,arr,e,f,h1,h2.mono hρ⟩
 |map es clock=>obtain⟨hS,arr,h1,h2⟩:=h;exact⟨hS,arr,h1,h2.mono hρ⟩
 |abs A=>exact h
 |iter m since seen st=>obtain⟨h0,hS,mb,h1,h2⟩:=h;exact⟨h0,hS,mb,h1.mono hρ,h2⟩
abbrev HM:=List (Nat×Option dF)
namespace HM
def get:HM->Nat->Option dF
 |[],_=>none
 |(k,o)::r,i=>bif Nat.beq k i then o else get r i
def set(t:HM)(i:Nat)(o:Option dF):HM:=match t with
 |[]=>[(i,o)]
 |(k,x)::r=>bif Nat.beq k i then(i,o)::r else(i,o)::(k,x)::r
theorem dR(t:HM)(i:Nat)(o:Option dF)(j:Nat):(t.set i o).get j=if j=i then o else t.get j:=by
 have hb: ∀a b:Nat,Nat.beq a b=decide (a=b):=λa b=>by
  by_cases h:a=b
  ·subst h;simp
  ·simp[h,fC h]
 cases t with
 |nil=>
  simp only[set,get,hb];by_cases h:j=i
  ·subst h;simp
  ·simp[h,Ne.symm h]
 |cons p r=>
  obtain⟨k,x⟩:=p;simp only[set,hb];by_cases hk:k=i
  ·subst hk
   simp only[decide_true,aP,get,hb];by_cases h:j=k
   ·subst h;simp
   ·simp[h,Ne.symm h]
  ·simp only[hk,decide_false,aQ,get,hb]
   by_cases h:j=i
   ·subst h;simp
   ·simp[h,Ne.symm h]
theorem uD(i:Nat):get [] i=none:=rfl
def filt(f:dF->Bool):HM->HM
 |[]=>[]
 |(k,o)::r=>(k,match o with|some x=>bif f x then some x else none|none=>none)::filt f r
theorem JA(f:dF->Bool): ∀(t:HM) (n:Nat),(filt f t).get n=match t.get n with|some x=>bif f x then some x else none|none=>none
 |[],n=>rfl
 |(k,o)::r,n=>by
  simp only[filt,get];cases Nat.beq k n with
  |true=>rfl
  |false=>exact JA f r n
end HM
structure Heap where
 next:Nat
 m:HM
namespace Heap
def get(h:Heap)(i:Nat):Option dF:=h.m.get i
def set:Heap->Nat->dF->Heap
 |⟨n,m⟩,i,o=>⟨n,m.set i (some o)⟩
def drop:Heap->Nat->Heap
 |⟨n,m⟩,i=>⟨n,m.set i none⟩
def push:Heap->dF->Heap
 |⟨n,m⟩,o=>⟨n+1,m.set n (some o)⟩
def new:Heap->(Nat->AV)->dF->AV×Heap
 |⟨n,m⟩,f,o=>(f n,⟨n+1,m.set n (some o)⟩)
theorem Bc(h:Heap)(f:Nat->AV)(o:dF):h.new f o=(f h.next,h.push o):=by cases h;rfl
theorem dR(h:Heap)(i:Nat)(o:dF)(j:Nat):(h.set i o).get j=if j=i then some o else h.get j:=by cases h;exact HM.dR _ _ _ _
theorem fD(h:Heap)(i j:Nat):(h.drop i).get j=if j=i then none else h.get j:=by cases h;exact HM.dR _ _ _ _
theorem fG(h:Heap)(o:dF)(j:Nat):(h.push o).get j=if j=h.next then some o else h.get j:=by cases h;exact HM.dR _ _ _ _
@[simp] theorem Zj (h:Heap) (i:Nat) (o:dF):(h.set i o).next=h.next:=by cases h;rfl
@[simp] theorem wY (h:Heap) (i:Nat):(h.drop i).next=h.next:=by cases h;rfl
@[simp] theorem atB (h:Heap) (o:dF):(h.push o).next=h.next+1:=by cases h;rfl
end Heap
def Rel(h:Heap)(ρ:Ren)(T:Nat->Prop)(w:World):Prop:=
 ∃S:Nat->Nat->Prop,
  (∀i o,h.get i=some o-> ∃a,ρ i=some a/\dI ρ w T a (S i) o)/\
  (∀i j o o' b,h.get i=some o->h.get j=some o'->i≠j->S i b->S j b->False)/\
  (∀i o b,h.get i=some o->S i b->T b/\b<w.heap.size)/\
  (∀i,h.next<=i->ρ i=none)/\
  (∀b,w.heap.size<=b->T b)
structure Keeps (T:Nat->Prop) (w w':World):Prop where
 size:w.heap.size<=w'.heap.size
 os:w'.os=w.os
 tape:w'.tape=w.tape
 output:w'.output=w.output
 block: ∀b,¬T b->w'.heap[b]? =w.heap[b]?
theorem Keeps.refl(T:Nat->Prop)(w:World):Keeps T w w:=⟨aY _,rfl,rfl,rfl,λ_ _=>rfl⟩
theorem Keeps.trans{T:Nat->Prop}{a b c:World}(h:Keeps T a b)(k:Keeps T b c):Keeps T a c:=
 ⟨Nat.le_trans h.size k.size,k.os.trans h.os,k.tape.trans h.tape,k.output.trans h.output,λx hx=>(k.block x hx).trans (h.block x hx)⟩
theorem Keeps.drew(T:Nat->Prop)(w:World):Keeps T w w.drew:=⟨aY _,rfl,rfl,rfl,λ_ _=>rfl⟩
theorem Keeps.mono{T T':Nat->Prop}{w w':World}(h:Keeps T w w')(hT: ∀b,b<w.heap.size->T b->T' b)(hw: ∀b,¬T' b->b<w.heap.size):Keeps T' w w':=
 ⟨h.size,h.os,h.tape,h.output,λb hb=>h.block b λhT'=>hb (hT b (hw b hb) hT')⟩
theorem Rel.drew{h:Heap}{ρ:Ren}{T:Nat->Prop}{w:World}(hR:Rel h ρ T w):Rel h ρ T w.drew:=by
 obtain⟨S,h1,h2,h3,h4,h5⟩:=hR;exact⟨S,λi o hi=>let ⟨a,ha,ho⟩:=h1 i o hi;⟨a,ha,ho.stays λ_ _=>rfl⟩,h2,h3,h4,h5⟩
theorem Rel.less{h h':Heap}{ρ:Ren}{T:Nat->Prop}{w:World}(hR:Rel h ρ T w)(hn:h.next<=h'.next)(hg: ∀i o,h'.get i=some o->h.get i=some o):Rel h' ρ T w:=by
 obtain⟨S,h1,h2,h3,h4,h5⟩:=hR;exact⟨S,λi o hi=>h1 i o (hg i o hi),λi j o o' b hi hj=>h2 i j o o' b (hg i o hi) (hg j o' hj),λi o b hi=>h3 i o b (hg i o hi),λi hi=>h4 i (Nat.le_trans hn hi),h5⟩
theorem Rel.push{h:Heap}{ρ:Ren}{T:Nat->Prop}{w:World}(hR:Rel h ρ T w){o:dF}{ob:Obj}(lim:Nat)
  (ho:dI ρ (w.alloc ob) T ⟨w.heap.size,0,lim⟩ (λb=>b=w.heap.size) o):
  ∃ρ',ρ.le ρ'/\ρ' h.next=some ⟨w.heap.size,0,lim⟩/\(∀i,i<h.next->ρ' i=ρ i)/\Rel (h.push o) ρ' T (w.alloc ob):=by
 obtain⟨S,h1,h2,h3,h4,h5⟩:=hR;let ρ':Ren:=λi=>if i=h.next then some ⟨w.heap.size,0,lim⟩else ρ i
 have hle:ρ.le ρ':=λi a ha=>by
  by_cases hi:i=h.next
  ·rw[hi,h4 h.next (aY _)]at ha;cases ha
  ·simp[ρ',hi,ha]
 refine⟨ρ',hle,by simp[ρ'],λi hi=>by simp[ρ',Nat.ne_of_lt hi],?_⟩;refine⟨λi=>if i=h.next then(λb=>b=w.heap.size)else S i,λi x hi=> ?_,λi j x y b hi hj hij hSi hSj=> ?_,λi x b hi hSi=> ?_,λi hi=> ?_,λb hb=>h5 b (by simp at hb;omega)⟩
 ·rw[Heap.fG]at hi
  by_cases hin:i=h.next
  ·rw[if_pos hin]at hi;cases hi
   refine⟨⟨w.heap.size,0,lim⟩,by simp[ρ',hin],?_⟩;simpa[hin]using ho.mono hle
  ·rw[if_neg hin]at hi
   obtain⟨a,ha,hx⟩:=h1 i x hi;refine⟨a,hle _ _ ha,?_⟩;simp only[if_neg hin];refine(hx.stays λb hb=> ?_).mono hle;have hlt:b<w.heap.size:=by
    rcases hb with hb|hb
    ·exact(h3 i x b hi hb).2
    ·rcases Nat.lt_or_ge b w.heap.size with h'|h'
     ·exact h'
     ·exact(hb (h5 b h')).elim
   show(w.heap.push ob)[b]? =_;rw[Array.getElem?_push,if_neg (by omega)]
 ·rw[Heap.fG]at hi hj
  by_cases hin:i=h.next
  ·have hjn:j≠h.next:=λh'=>hij (hin.trans h'.symm)
   rw[if_neg hjn]at hj;simp only[hin,if_true]at hSi;simp only[if_neg hjn]at hSj;have:=(h3 j y b hj hSj).2;omega
  ·rw[if_neg hin]at hi
   simp only[if_neg hin]at hSi;by_cases hjn:j=h.next
   ·simp only[hjn,if_true]at hSj
    have:=(h3 i x b hi hSi).2;omega
   ·rw[if_neg hjn]at hj
    simp only[if_neg hjn]at hSj;exact h2 i j x y b hi hj hij hSi hSj
 ·rw[Heap.fG]at hi
  by_cases hin:i=h.next
  ·simp only[hin,if_true]at hSi
   subst hSi;exact⟨h5 _ (aY _),by simp⟩
  ·rw[if_neg hin]at hi
   simp only[if_neg hin]at hSi;have:=h3 i x b hi hSi;exact⟨this.1,by simp;omega⟩
 ·have:i≠h.next:=λh'=>by simp at hi;omega
  simp only[ρ',if_neg this];exact h4 i (by simp at hi;omega)
theorem Keeps.alloc{T:Nat->Prop}{w:World}(ob:Obj)(hT: ∀b,w.heap.size<=b->T b):Keeps T w (w.alloc ob):=
 ⟨by simp,rfl,rfl,rfl,λb hb=>by
  have hlt:b<w.heap.size:=by
   rcases Nat.lt_or_ge b w.heap.size with h'|h'
   ·exact h'
   ·exact(hb (hT b h')).elim
  show(w.heap.push ob)[b]? =_
  rw[Array.getElem?_push,if_neg (by omega)]⟩
theorem Rel.upd{h:Heap}{ρ:Ren}{T:Nat->Prop}{w w':World}(hR:Rel h ρ T w){i:Nat}{o o':dF}{a:Loc}(hi:h.get i=some o)(ha:ρ i=some a)
  (hsize:w'.heap.size=w.heap.size) (hw: ∀b,b≠a.blk->w'.heap[b]? =w.heap[b]?)
  (hown: ∀S,dI ρ w T a S o->S a.blk) (hnew: ∀S,S a.blk->dI ρ w T a S o->dI ρ w' T a S o'):Rel (h.set i o') ρ T w':=by
 obtain⟨S,h1,h2,h3,h4,h5⟩:=hR;obtain⟨a',ha',ho⟩:=h1 i o hi;obtain rfl:a'=a:=Option.some.inj (ha'.symm.trans ha);have hSi:=hown _ ho;refine⟨S,λj x hj=> ?_,λj k x y b hj hk hjk=> ?_,λj x b hj hS=> ?_,λj hj=>h4 j (by simpa using hj),λb hb=>h5 b (by omega)⟩
 ·rw[Heap.dR]at hj
  by_cases hji:j=i
  ·subst hji
   rw[if_pos rfl]at hj;cases hj;exact⟨a',ha,hnew _ hSi ho⟩
  ·rw[if_neg hji]at hj
   obtain⟨b,hb,hx⟩:=h1 j x hj;refine⟨b,hb,hx.stays λc hc=>hw c λhcb=> ?_⟩;subst hcb;rcases hc with hc|hc
   ·exact h2 j i x o _ hj hi hji hc hSi
   ·exact hc (h3 i o _ hi hSi).1
 ·have get: ∀j x,(h.set i o').get j=some x-> ∃y,h.get j=some y:=λj x hj=>by
   rw[Heap.dR]at hj;by_cases hji:j=i
   ·exact⟨o,hji▸hi⟩
   ·rw[if_neg hji]at hj;exact⟨x,hj⟩
  obtain⟨x',hx'⟩:=get j x hj;obtain⟨y',hy'⟩:=get k y hk;exact h2 j k x' y' b hx' hy' hjk
 ·rw[Heap.dR]at hj
  by_cases hji:j=i
  ·subst hji
   have:=h3 j o b hi hS;exact⟨this.1,by omega⟩
  ·rw[if_neg hji]at hj
   have:=h3 j x b hj hS;exact⟨this.1,by omega⟩
theorem Rel.Uh{h:Heap}{ρ:Ren}{T:Nat->Prop}{w:World}(hR:Rel h ρ T w){i:Nat}{o:dF}{a:Loc}(hi:h.get i=some o)(ha:ρ i=some a)
  (hown: ∀S,dI ρ w T a S o->S a.blk):T a.blk:=by
 obtain⟨S,h1,h2,h3,h4,h5⟩:=hR;obtain⟨a',ha',ho⟩:=h1 i o hi;obtain rfl:a'=a:=Option.some.inj (ha'.symm.trans ha);exact(h3 i o _ hi (hown _ ho)).1
inductive TD where
 |bool|string
 |int (k:IntKind)
 |ptr (e:TypeId)
 |slice (e:TypeId)
 |array (n:Nat) (e:TypeId)
 |struct (fs:List (Nat×TypeId×Bool)) (held:Bool)
 |map (k e:TypeId)
 |func
 |other
structure TI where
 size:Nat
 bytes:Nat
 zero:List Value
 guard:Bool
 desc:TD
 zv:Value
def TI.agg(t:TI):Bool:=match t.desc with
 | .struct .. =>true
 | .array .. =>true
 |_=>false
def wU(p:Program)(t:TypeId):TypeDesc->TD
 | .bool=> .bool
 | .int k=> .int k
 | .string=> .string
 | .pointer e=> .ptr e
 | .slice e=> .slice e
 | .array n e=> .array n e
 | .struct fs=> .struct (fs.toList.map λf=>(f.offset,f.type,f.name != "_")) (p.stoodInHeld t)
 | .map k e=> .map k e
 | .func .. => .func
 |_=> .other
def atD(p:Program)(t:TypeId):Option TI:=
 match p.info? t,p.underlying t with
 |some i,some d=>match i.zero with
  |some z=>some {size:=i.size,bytes:=i.bytes,zero:=z.cells.toList,guard:=p.eqGuardType p.depth t,desc:=wU p t d,zv:=z}
  |none=>none
 |_,_=>none
abbrev TT:=TypeId->Option TI
def TT.ok(P:Program)(tt:TT):Prop:= ∀t ti,tt t=some ti->atD P t=some ti
theorem TT.ok.info{P:Program}{tt:TT}(h:tt.ok P){t:TypeId}{ti:TI}(ht:tt t=some ti):
  ∃i d z,P.info? t=some i/\P.underlying t=some d/\i.size=ti.size/\i.bytes=ti.bytes/\i.zero=some z/\z.cells.toList=ti.zero/\wU P t d=ti.desc:=by
 have:=h t ti ht;unfold atD at this;split at this
 ·rename_i i d hi hd
  split at this
  ·rename_i z hz
   cases this;exact⟨i,d,z,hi,hd,rfl,rfl,hz,rfl,rfl⟩
  ·cases this
 ·cases this
section runs
variable{P:Program}{tt:TT}(hT:tt.ok P){t:TypeId}{ti:TI}(ht:tt t=some ti)(w:World)
include hT ht
theorem run_sizeOf:(sizeOf t).run P w= .ok ti.size w:=by
 obtain⟨i,d,z,hi,_,hs,_⟩:=hT.info ht;simp[sizeOf,typeInfo,hi,hs]
theorem wZ:(isAgg t).run P w= .ok ti.agg w:=by
 obtain⟨i,d,z,_,hd,_,_,_,_,hm⟩:=hT.info ht;simp only[isAgg,underlying,Sem.run_bind,run_program,Result.andThen_ok,hd,Sem.run_pure];cases d<;>simp[wU]at hm<;>simp[TI.agg,<-hm]
theorem ae0:(zeroValue t).run P w= .ok ti.zv w:=by
 have:=hT t ti ht;unfold atD at this;split at this
 ·rename_i i d hi hd
  split at this
  ·rename_i z hz
   cases this;simp[zeroValue,typeInfo,hi,hz]
  ·cases this
 ·cases this
theorem iZ: ∃z,(zeroValue t).run P w= .ok z w/\z.cells.toList=ti.zero:=by
 obtain⟨i,d,z,hi,_,_,_,hz,hzc,_⟩:=hT.info ht;exact⟨z,by simp[zeroValue,typeInfo,hi,hz],hzc⟩
theorem ae1: ∃i,(typeInfo t).run P w= .ok i w/\i.bytes=ti.bytes/\i.size=ti.size:=by
 obtain⟨i,d,z,hi,_,hs,hb,_⟩:=hT.info ht;exact⟨i,by simp[typeInfo,hi],hb,hs⟩
theorem dH: ∃d,(underlying t).run P w= .ok d w/\P.underlying t=some d/\wU P t d=ti.desc:=by
 obtain⟨i,d,z,_,hd,_,_,_,_,hm⟩:=hT.info ht;exact⟨d,by simp[underlying,hd],hd,hm⟩
end runs
theorem dB{P:Program}{t e:TypeId}{d:TypeDesc}(h:wU P t d= .slice e):d= .slice e:=by cases d<;>simp[wU]at h;rw[h]
theorem jY{P:Program}{t e:TypeId}{n:Nat}{d:TypeDesc}(h:wU P t d= .array n e):d= .array n e:=by cases d<;>simp[wU]at h;rw[h.1,h.2]
theorem uF{P:Program}{t e:TypeId}{d:TypeDesc}(h:wU P t d= .ptr e):d= .pointer e:=by cases d<;>simp[wU]at h;rw[h]
theorem uG{P:Program}{t k e:TypeId}{d:TypeDesc}(h:wU P t d= .map k e):d= .map k e:=by cases d<;>simp[wU]at h;rw[h.1,h.2]
theorem fJ{P:Program}{t:TypeId}{d:TypeDesc}(h:wU P t d= .string):d= .string:=by cases d<;>simp[wU]at h;rfl
theorem ae2{P:Program}{t:TypeId}{d:TypeDesc}(h:wU P t d= .bool):d= .bool:=by cases d<;>simp[wU]at h;rfl
theorem xg{P:Program}{t:TypeId}{k:IntKind}{d:TypeDesc}(h:wU P t d= .int k):d= .int k:=by cases d<;>simp[wU]at h;rw[h]
theorem TT.ok.guard{P:Program}{tt:TT}(h:tt.ok P){t:TypeId}{ti:TI}(ht:tt t=some ti):P.eqGuardType P.depth t=ti.guard:=by
 have:=h t ti ht;unfold atD at this;split at this
 ·split at this
  ·cases this;rfl
  ·cases this
 ·cases this
theorem Du{P:Program}{t:TypeId}{d:TypeDesc}(h:wU P t d= .func): ∃a b c,d= .func a b c:=by cases d<;>simp[wU]at h;exact⟨_,_,_,rfl⟩
theorem pX{P:Program}{t:TypeId}{d:TypeDesc}{fs:List (Nat×TypeId×Bool)}{b:Bool}(h:wU P t d= .struct fs b):
  ∃gs,d= .struct gs/\gs.toList.map (λf=>(f.offset,f.type,f.name != "_"))=fs/\P.stoodInHeld t=b:=by
 cases d<;>simp[wU]at h;exact⟨_,rfl,h.1,h.2⟩
def oneCell:AV->Bool
 | .any| .agg _| .tup _| .arr .. =>false
 | .lit v=>v.oneCell'
 |_=>true
def iO:AV->Option (List AV)
 | .any=>none
 | .arr .. =>none
 | .agg cs=>some cs
 | .lit (.agg vs)=>some (vs.toList.map .lit)
 |v=>some [v]
theorem lY{ρ:Ren}{v:AV}{u:Value}{cs:List AV}(h:iO v=some cs)(hv:bF ρ v u):dQ ρ cs u.cells.toList:=by
 cases v with
 |any=>simp[iO]at h
 |arr n g=>simp[iO]at h
 |agg l=>simp only[iO,ak]at h;subst h;simp only[bF]at hv;obtain⟨vs,rfl,hl⟩:=hv;exact hl
 |lit x=>
  simp only[bF]at hv;subst hv;cases u<;>simp only[iO,ak]at h<;>subst h<;>first|exact dQ.lits _|exact .cons (by simp[bF]) .nil
 |ptr i o=>simp only[iO,ak]at h;subst h;have hv':=hv;simp only[bF]at hv;obtain⟨a,_,rfl⟩:=hv;exact .cons hv' .nil
 |sl i o n c=>simp only[iO,ak]at h;subst h;have hv':=hv;simp only[bF]at hv;obtain⟨a,_,rfl⟩:=hv;exact .cons hv' .nil
 |slU i o n c=>simp only[iO,ak]at h;subst h;have hv':=hv;simp only[bF]at hv;obtain⟨a,_,_,rfl,_⟩:=hv;exact .cons hv' .nil
 |nH i k m j=>simp only[iO,ak]at h;subst h;have hv':=hv;simp only[bF]at hv;obtain⟨a,_,rfl⟩:=hv;exact .cons hv' .nil
 |slE i k m n c=>simp only[iO,ak]at h;subst h;have hv':=hv;simp only[bF]at hv;obtain⟨a,p,_,rfl,_⟩:=hv;exact .cons hv' .nil
 |slW i k m n=>simp only[iO,ak]at h;subst h;have hv':=hv;simp only[bF]at hv;obtain⟨a,p,c,_,rfl,_⟩:=hv;exact .cons hv' .nil
 |slR i k m n=>simp only[iO,ak]at h;subst h;have hv':=hv;simp only[bF]at hv;rcases hv with ⟨_,rfl⟩|⟨a,p,c,_,rfl,_⟩<;>exact .cons hv' .nil
 |slV z i m n=>simp only[iO,ak]at h;subst h;have hv':=hv;simp only[bF]at hv;rcases hv with ⟨_,_,rfl⟩|⟨_,a,p,c,_,rfl,_⟩<;>exact .cons hv' .nil
 |slZ z i k m n=>simp only[iO,ak]at h;subst h;have hv':=hv;simp only[bF]at hv;rcases hv with ⟨_,_,rfl⟩|⟨_,a,p,c,_,rfl,_⟩<;>exact .cons hv' .nil
 |one=>simp only[iO,ak]at h;subst h;have hv':=hv;simp only[bF]at hv;cases u<;>first|exact .cons hv' .nil|(simp[Value.oneCell']at hv)
 |mp i=>simp only[iO,ak]at h;subst h;have hv':=hv;simp only[bF]at hv;obtain⟨a,_,rfl⟩:=hv;exact .cons hv' .nil
 |fn f x y=>simp only[iO,ak]at h;subst h;have hv':=hv;simp only[bF]at hv;obtain⟨a,_,rfl,_⟩:=hv;exact .cons hv' .nil
 |tup l=>simp only[iO,ak]at h;subst h;have hv':=hv;simp only[bF]at hv;obtain⟨a,rfl,_⟩:=hv;exact .cons hv' .nil
 |ifc t x=>simp only[iO,ak]at h;subst h;have hv':=hv;simp only[bF]at hv;obtain⟨a,rfl,_⟩:=hv;exact .cons hv' .nil
theorem qO{ρ:Ren}{v:AV}{u:Value}(h:oneCell v=true)(hv:bF ρ v u):u.oneCell'=true:=by
 cases v<;>simp[oneCell]at h<;>simp only[bF]at hv
 case lit x=>subst hv;exact h
 case ptr i o=>obtain⟨a,_,rfl⟩:=hv;rfl
 case sl i o n c=>obtain⟨a,_,rfl⟩:=hv;rfl
 case slU i o n c=>obtain⟨a,_,_,rfl,_⟩:=hv;rfl
 case nH i k m j=>obtain⟨a,_,rfl⟩:=hv;rfl
 case slE i k m n c=>obtain⟨a,p,_,rfl,_⟩:=hv;rfl
 case slW i k m n=>obtain⟨a,p,c,_,rfl,_⟩:=hv;rfl
 case slR i k m n=>rcases hv with ⟨_,rfl⟩|⟨a,p,c,_,rfl,_⟩<;>rfl
 case slV z i m n=>rcases hv with ⟨_,_,rfl⟩|⟨_,a,p,c,_,rfl,_⟩<;>rfl
 case slZ z i k m n=>rcases hv with ⟨_,_,rfl⟩|⟨_,a,p,c,_,rfl,_⟩<;>rfl
 case one=>exact hv
 case mp i=>obtain⟨a,_,rfl⟩:=hv;rfl
 case fn f x y=>obtain⟨a,_,rfl,_⟩:=hv;rfl
 case ifc t x=>obtain⟨a,rfl,_⟩:=hv;rfl
def NOk(P:Program)(s:Sem Value)(ρ:Ren)(v:AV):Prop:= ∃u,(∀w,s.run P w= .ok u w)/\bF ρ v u
def ROk(P:Program)(s:Sem Value)(ρ:Ren)(w:World)(v:AV):Prop:= ∃u,s.run P w= .ok u w/\bF ρ v u
def XOk(P:Program)(s:Sem Value)(h:Heap)(ρ:Ren)(T:Nat->Prop)(w:World)(v:AV)(h':Heap):Prop:=
 ∃u w' ρ',s.run P w= .ok u w'/\(∀i,i<h.next->ρ' i=ρ i)/\ρ.le ρ'/\h.next<=h'.next/\Rel h' ρ' T w'/\bF ρ' v u/\Keeps T w w'
def dF.eP:dF->Option Cs
 | .cells _ c=>some c
 | .room _ c=>some c
 | .iC _ _ c=>some c
 | .ro c=>some c
 |_=>none
def cellAt(h:Heap)(i o:Nat):Option AV:=
 match h.get i with
 |some x=>match x.eP with
  |some c=>c.get o
  |none=>none
 |none=>none
theorem Rel.cell{h:Heap}{ρ:Ren}{T:Nat->Prop}{w:World}(hR:Rel h ρ T w){i o:Nat}{v:AV}(hc:cellAt h i o=some v):
  ∃a,ρ i=some a/\ ∃u,w.cell? ⟨a.blk,a.base+o,none⟩=some u/\bF ρ v u:=by
 obtain⟨S,h1,_⟩:=hR;unfold cellAt at hc;split at hc
 ·rename_i x hx
  obtain⟨a,ha,ho⟩:=h1 i x hx;refine⟨a,ha,?_⟩;cases x<;>simp[dF.eP]at hc
  case cells e c=>
   obtain⟨h0,hS,arr,hb,hsz,_,hcr⟩:=ho;obtain⟨u,hu,hr⟩:=hcr o v hc;exact⟨u,by simp[World.cell?,hb,h0];simpa using hu,hr⟩
  case room e c=>
   obtain⟨h0,hS,arr,hb,hsz,_,hcr⟩:=ho;obtain⟨u,hu,hr⟩:=hcr o v hc;exact⟨u,by simp[World.cell?,hb,h0];simpa using hu,hr⟩
  case iC z e c=>
   rcases ho with ⟨_,hz⟩|⟨_,h0,hS,arr,hb,hsz,_,hcr⟩
   ·have:=Cs.dW hc
    omega
   ·obtain⟨u,hu,hr⟩:=hcr o v hc
    exact⟨u,by simp[World.cell?,hb,h0];simpa using hu,hr⟩
  case ro c=>
   rcases ho with h0|⟨hT,arr,e,f,hb,hcr⟩
   ·have:=Cs.dW hc
    omega
   ·obtain⟨u,hu,hr⟩:=hcr o v hc
    exact⟨u,by simp[World.cell?,hb];exact hu,hr⟩
 ·cases hc
def Zk(h:Heap)(i:Nat):Nat->Nat->Option (List AV)
 |_,0=>some []
 |o,n+1=>match cellAt h i o with
  |some v=>match Zk h i (o+1) n with
   |some l=>some (v::l)
   |none=>none
  |none=>none
theorem vK{h:Heap}{i:Nat}: ∀{n o:Nat} {l:List AV},Zk h i o n=some l->l.length=n
 |0,o,l,hg=>by simp[Zk]at hg;simp[<-hg]
 |n+1,o,l,hg=>by
  simp only[Zk]at hg;split at hg
  ·split at hg
   ·rename_i l' hl
    cases hg;simp[vK hl]
   ·cases hg
  ·cases hg
theorem dS(b o n:Nat):(Addr.add ⟨b,o,none⟩ n)=⟨b,o+n,none⟩:=by
 unfold Addr.add;split
 ·rename_i h;subst h;rfl
 ·rfl
theorem run_loadCellsFrom{P:Program}{h:Heap}{ρ:Ren}{T:Nat->Prop}{w:World}(hR:Rel h ρ T w){i:Nat}{a:Loc}(ha:ρ i=some a)(o:Nat):
  ∀(n k:Nat) (acc:Array Value) (l:List AV),Zk h i (o+k) n=some l->
   ∃vs:List Value,(loadCellsFrom ⟨a.blk,a.base+o,none⟩ k n acc).run P w= .ok (acc++vs.toArray) w/\dQ ρ l vs
 |0,k,acc,l,hg=>by
  simp[Zk]at hg;subst hg;exact⟨[],by simp[loadCellsFrom],.nil⟩
 |n+1,k,acc,l,hg=>by
  simp only[Zk]at hg;split at hg
  ·rename_i v hv
   split at hg
   ·rename_i l' hl
    cases hg;obtain⟨a',ha',u,hu,hr⟩:=hR.cell hv;obtain rfl:a'=a:=Option.some.inj (ha'.symm.trans ha);obtain⟨vs,hvs,hlr⟩:=run_loadCellsFrom (P:=P) hR ha o n (k+1) (acc.push u) l' (by rw[<-Nat.add_assoc];exact hl);refine⟨u::vs,?_,.cons hr hlr⟩;have e:a'.base+(o+k)=a'.base+o+k:=by omega
    rw[e]at hu;simp only[loadCellsFrom,Sem.run_bind,run_load,dS,hu,Result.andThen_ok,hvs];congr 1;apply Array.ext';simp
   ·cases hg
  ·cases hg
def Gz(tt:TT)(t:TypeId)(a:AV)(h:Heap):Option AV:=
 match a with
 | .ptr i o=>match tt t with
  |some ti=>bif ti.agg then(match Zk h i o ti.size with|some l=>some (.agg l)|none=>none)else cellAt h i o
  |none=>none
 |_=>none
theorem nM{P:Program}{tt:TT}(hT:tt.ok P){h:Heap}{ρ:Ren}{T:Nat->Prop}{w:World}(hR:Rel h ρ T w){t:TypeId}{a v:AV}{u:Value}
  (hl:Gz tt t a h=some v) (hu:bF ρ a u):ROk P (Instr.loadAt t u) ρ w v:=by
 unfold Gz at hl;split at hl
 ·rename_i i o
  split at hl
  ·rename_i ti hti
   simp only[bF]at hu;obtain⟨a,ha,rfl⟩:=hu;cases hagg:ti.agg with
   |true=>
    rw[hagg]at hl;simp only[aP]at hl;split at hl
    ·rename_i l hg
     cases hl;obtain⟨vs,hvs,hlr⟩:=run_loadCellsFrom (P:=P) hR ha o ti.size 0 #[] l hg;refine⟨.agg vs.toArray,?_,by simp only[bF];exact⟨vs.toArray,rfl,by simpa using hlr⟩⟩;simp[Instr.loadAt,Instr.sureAddr,loadVar,wZ hT hti,hagg,run_sizeOf hT hti,loadCells,hvs]
    ·cases hl
   |false=>
    rw[hagg]at hl;simp only[aQ]at hl;obtain⟨a',ha',u,hu,hr⟩:=hR.cell hl;obtain rfl:a'=a:=Option.some.inj (ha'.symm.trans ha);exact⟨u,by simp[Instr.loadAt,Instr.sureAddr,loadVar,wZ hT hti,hagg,hu],hr⟩
  ·cases hl
 ·cases hl
def setCell(h:Heap)(i o:Nat)(v:AV):Option Heap:=
 match h.get i with
 |some (.cells e c)=>match c.set o v with
  |some c'=>some (h.set i (.cells e c'))
  |none=>none
 |some (.room e c)=>match c.set o v with
  |some c'=>some (h.set i (.room e c'))
  |none=>none
 |_=>none
theorem fF.set{ρ:Ren}{c c':Cs}{arr:Array Value}{o:Nat}{v:AV}{u:Value}(hc:fF ρ c arr 0)(hs:c.set o v=some c')(hsz:c.size<=arr.size)(hv:bF ρ v u):
  fF ρ c' (arr.setIfInBounds o u) 0:=by
 obtain⟨hlt,_,hget⟩:=Cs.wX hs;intro k x hx;rw[hget]at hx;by_cases hk:k=o
 ·subst hk
  rw[if_pos rfl]at hx;cases hx;refine⟨u,?_,hv⟩;have:k<arr.size:=by omega
  simp[this]
 ·rw[if_neg hk]at hx
  obtain⟨y,hy,hr⟩:=hc k x hx;exact⟨y,by simp only[aA]at hy ⊢;rw[Array.getElem?_setIfInBounds_ne (Ne.symm hk)];exact hy,hr⟩
theorem heap_setCell{w:World}{b o:Nat}{u:Value}{arr:Array Value}{e:TypeId}(hb:w.heap[b]? =some (.cells arr e (0,0))):
  (w.setCell ⟨b,o,none⟩ u).heap[b]? =some (.cells (arr.setIfInBounds o u) e (0,0)):=by
 simp[World.setCell,Array.getElem?_modify,hb]
theorem lZ{w:World}{b c o:Nat}{u:Value}(h:c≠b):(w.setCell ⟨b,o,none⟩ u).heap[c]? =w.heap[c]? :=by
 simp only[World.setCell,Array.getElem?_modify];rw[if_neg (Ne.symm h)]
theorem Hz{P:Program}{h h':Heap}{ρ:Ren}{T:Nat->Prop}{w:World}(hR:Rel h ρ T w){i o:Nat}{v:AV}{u:Value}{a:Loc}
  (hs:setCell h i o v=some h') (ha:ρ i=some a) (h1:oneCell v=true) (hv:bF ρ v u):
  (store ⟨a.blk,a.base+o,none⟩ u).run P w= .ok () (w.setCell ⟨a.blk,a.base+o,none⟩ u)/\Rel h' ρ T (w.setCell ⟨a.blk,a.base+o,none⟩ u)/\h'.next=h.next/\
   Keeps T w (w.setCell ⟨a.blk,a.base+o,none⟩ u):=by
 have hu1:=qO h1 hv;have main: ∀(x x':dF) (c c':Cs) (e:TypeId) (arr:Array Value),h.get i=some x->h'=h.set i x'->c.set o v=some c'->a.base=0->
   w.heap[a.blk]? =some (.cells arr e (0,0))->c.size<=arr.size->(∀S,dI ρ w T a S x->S a.blk)->
   (∀S,S a.blk->dI ρ w T a S x->dI ρ (w.setCell ⟨a.blk,a.base+o,none⟩ u) T a S x')->
   (store ⟨a.blk,a.base+o,none⟩ u).run P w= .ok () (w.setCell ⟨a.blk,a.base+o,none⟩ u)/\Rel h' ρ T (w.setCell ⟨a.blk,a.base+o,none⟩ u)/\h'.next=h.next/\
    Keeps T w (w.setCell ⟨a.blk,a.base+o,none⟩ u):=by
  intro x x' c c' e arr hx hh' hset h0 hb hsz hown hnew;subst hh';obtain⟨hlt,_,_⟩:=Cs.wX hset;have ho:a.base+o<arr.size:=by omega
  refine⟨?_,hR.upd hx ha (by simp) (λb hb'=>lZ hb') hown hnew,by simp,⟨by simp,rfl,rfl,rfl,λb hb'=> ?_⟩⟩
  ·rw[run_store P w _ u _ hu1]
   have hcell:w.cell? ⟨a.blk,a.base+o,none⟩=some arr[a.base+o]:=by simp[World.cell?,hb,ho]
   have hfz:w.frozen? ⟨a.blk,a.base+o,none⟩=false:=by simp[World.frozen?,hb]
   simp[hcell,hfz]
  ·refine lZ λhbb=>hb' ?_
   subst hbb;exact hR.Uh hx ha hown
 obtain⟨S,r1,_⟩:=id hR;unfold setCell at hs;split at hs
 ·rename_i e c hx
  split at hs
  ·rename_i c' hset
   cases hs;obtain⟨a',ha',ho⟩:=r1 i _ hx;obtain rfl:a'=a:=Option.some.inj (ha'.symm.trans ha);obtain⟨h0,hS,arr,hb,hsz,hlim,hcr⟩:=ho;refine main _ _ c c' e arr hx rfl hset h0 hb (by omega) (λS' h=>h.2.1) λS' hS' h=> ?_
   obtain⟨_,_,arr',hb',hsz',hlim',atE⟩:=h;rw[hb]at hb';cases hb';refine⟨h0,hS',_,heap_setCell hb,by simp[hsz,(Cs.wX hset).2.1],by rw[(Cs.wX hset).2.1];exact hlim,?_⟩;rw[h0,aA];exact hcr.set hset (by omega) hv
  ·cases hs
 ·rename_i e c hx
  split at hs
  ·rename_i c' hset
   cases hs;obtain⟨a',ha',ho⟩:=r1 i _ hx;obtain rfl:a'=a:=Option.some.inj (ha'.symm.trans ha);obtain⟨h0,hS,arr,hb,hsz,hle,hcr⟩:=ho;refine main _ _ c c' e arr hx rfl hset h0 hb (by omega) (λS' h=>h.2.1) λS' hS' h=> ?_
   obtain⟨_,_,arr',hb',hsz',hle',atE⟩:=h;rw[hb]at hb';cases hb';refine⟨h0,hS',_,heap_setCell hb,by simp[hsz],by rw[(Cs.wX hset).2.1];exact hle,?_⟩;rw[h0,aA];exact hcr.set hset (by omega) hv
  ·cases hs
 ·cases hs
def atF(h:Heap)(i:Nat):Nat->List AV->Option Heap
 |_,[]=>some h
 |o,v::vs=>bif oneCell v then(match setCell h i o v with
  |some h'=>atF h' i (o+1) vs
  |none=>none)else none
theorem ae3{P:Program}{T:Nat->Prop}{ρ:Ren}{i:Nat}{a:Loc}(ha:ρ i=some a)(o:Nat):
  ∀(vs:List AV) (us:List Value) (k:Nat) (h h':Heap) (w:World),Rel h ρ T w->atF h i (o+k) vs=some h'->dQ ρ vs us->
   ∃w',(storeCells ⟨a.blk,a.base+o,none⟩ us k).run P w= .ok () w'/\Rel h' ρ T w'/\h'.next=h.next/\Keeps T w w'
 |[],us,k,h,h',w,hR,hs,hl=>by
  simp[dQ]at hl;subst hl;simp[atF]at hs;subst hs;exact⟨w,by simp[storeCells],hR,rfl,Keeps.refl _ _⟩
 |v::vs,us,k,h,h',w,hR,hs,hl=>by
  simp only[dQ]at hl;obtain⟨u,us',rfl,hv,hl'⟩:=hl;simp only[atF]at hs;cases h1:oneCell v with
  |false=>rw[h1]at hs;simp at hs
  |true=>
   rw[h1]at hs;simp only[aP]at hs;split at hs
   ·rename_i h2 hset
    obtain⟨hrun,hR2,hn2,hk2⟩:=Hz (P:=P) hR hset ha h1 hv;obtain⟨w',hrun',hR',hn',hk'⟩:=ae3 (P:=P) ha o vs us' (k+1) h2 h' _ hR2 (by rw[<-Nat.add_assoc];exact hs) hl';refine⟨w',?_,hR',by omega,hk2.trans hk'⟩;have e:a.base+(o+k)=a.base+o+k:=by omega
    rw[e]at hrun hrun';simp only[storeCells,Sem.run_bind,dS,hrun,Result.andThen_ok,hrun']
   ·cases hs
def OL(tt:TT)(t:TypeId)(a v:AV)(h:Heap):Option Heap:=
 match a with
 | .ptr i o=>match tt t with
  |some ti=>match iO v with
   |some cs=>bif Nat.beq cs.length ti.size then atF h i o cs else none
   |none=>none
  |none=>none
 |_=>none
theorem Dv{P:Program}{tt:TT}(hT:tt.ok P){h h':Heap}{ρ:Ren}{T:Nat->Prop}{w:World}(hR:Rel h ρ T w){t:TypeId}{a v:AV}{u x:Value}
  (hl:OL tt t a v h=some h') (hu:bF ρ a u) (hx:bF ρ v x):
  ∃w',(Instr.storeAt t u x).run P w= .ok () w'/\Rel h' ρ T w'/\h'.next=h.next/\Keeps T w w':=by
 unfold OL at hl;split at hl
 ·rename_i i o
  split at hl
  ·rename_i ti hti
   split at hl
   ·rename_i cs hcs
    cases hb:Nat.beq cs.length ti.size with
    |false=>rw[hb]at hl;simp at hl
    |true=>
     rw[hb]at hl;simp only[aP]at hl;have hlen:cs.length=ti.size:=au hb;simp only[bF]at hu;obtain⟨a,ha,rfl⟩:=hu;have hlr:=lY hcs hx;obtain⟨w',hrun,hR',hn,hk⟩:=ae3 (P:=P) ha o cs x.cells.toList 0 h h' w hR hl hlr;refine⟨w',?_,hR',hn,hk⟩;have:x.cells.size=ti.size:=by rw[<-Array.length_toList,<-hlr.length,hlen]
     simp only[Instr.storeAt,Instr.sureAddr,Sem.run_bind,Sem.run_pure,Result.andThen_ok,storeVar,run_sizeOf hT hti];rw[if_neg (by simpa using this)];simp[hrun]
   ·cases hl
  ·cases hl
 ·cases hl
theorem Rel.jZ{h:Heap}{ρ:Ren}{T:Nat->Prop}{w:World}(hR:Rel h ρ T w){e:TypeId}{c:Cs}{arr:Array Value}(hsz:arr.size=c.size)
  (hc:fF ρ c arr 0): ∃ρ',ρ.le ρ'/\ρ' h.next=some ⟨w.heap.size,0,c.size⟩/\(∀i,i<h.next->ρ' i=ρ i)/\Rel (h.push (.cells e c)) ρ' T (w.alloc (.cells arr e))/\
   Keeps T w (w.alloc (.cells arr e)):=by
 have hnew:(w.alloc (.cells arr e)).heap[w.heap.size]? =some (.cells arr e (0,0)):=by
  show(w.heap.push _)[w.heap.size]? =_;simp
 obtain⟨ρ',h1,h2,h3,h4⟩:=hR.push (o:= .cells e c) (ob:= .cells arr e) c.size ⟨rfl,rfl,arr,hnew,hsz,rfl,hc⟩;obtain⟨S,_,_,_,_,h5⟩:=hR;exact⟨ρ',h1,h2,h3,h4,Keeps.alloc _ h5⟩
theorem fF.av{ρ:Ren}{l:List AV}{vs:List Value}(h:dQ ρ l vs):fF ρ (.av l) vs.toArray 0:=by
 intro k v hk;obtain⟨u,hu,hr⟩:=h.get k v hk;exact⟨u,by simpa using hu,hr⟩
def atG(e:TypeId)(v:AV)(h:Heap):Option (AV×Heap):=
 match iO v with
 |some cs=>some (h.new (λn=> .ptr n 0) (.cells e (.av cs)))
 |none=>none
theorem ae4{P:Program}{h h':Heap}{ρ:Ren}{T:Nat->Prop}{w:World}(hR:Rel h ρ T w){e:TypeId}{v r:AV}{u:Value}
  (hb:atG e v h=some (r,h')) (hu:bF ρ v u):XOk P (Instr.box e u) h ρ T w r h':=by
 unfold atG at hb;split at hb
 ·rename_i cs hcs
  rw[Heap.Bc]at hb;cases hb;have hlr:=lY hcs hu;obtain⟨ρ',h1,h2,h3,h4,h5⟩:=hR.jZ (e:=e) (c:= .av cs) (arr:=u.cells) (by rw[<-Array.length_toList,<-hlr.length];rfl) (by simpa using fF.av hlr);refine⟨.pointer (some ⟨w.heap.size,0,none⟩),_,ρ',?_,h3,h1,by simp,h4,by simp only[bF];exact⟨_,h2,rfl⟩,h5⟩;simp[Instr.box,newVar,newRow]
 ·cases hb
def Zl(z:List Value):List AV:=z.map .lit
def HY(tt:TT)(e:TypeId)(h:Heap):Option (AV×Heap):=
 match tt e with
 |some ti=>some (h.new (λn=> .ptr n 0) (.cells e (bif Nat.blt 40 ti.zero.length then .tr ti.zero.length (Zl ti.zero) .leaf else .av (Zl ti.zero))))
 |none=>none
theorem fF.aqe{ρ:Ren}{l:List AV}{vs:List Value}(h:dQ ρ l vs):fF ρ (.tr l.length l .leaf) vs.toArray 0:=by
 intro k v hk;simp only[Cs.get,PM.uD]at hk;cases hb:Nat.blt k l.length with
 |false=>rw[hb]at hk;simp at hk
 |true=>
  rw[hb]at hk;simp only[aP]at hk;have:k<l.length:=by simpa using bg.1 hb
  rw[Nat.mod_eq_of_lt this]at hk;obtain⟨u,hu,hr⟩:=h.get k v hk;exact⟨u,by simpa using hu,hr⟩
theorem OM{P:Program}{tt:TT}(hT:tt.ok P){h h':Heap}{ρ:Ren}{T:Nat->Prop}{w:World}(hR:Rel h ρ T w){e:TypeId}{r:AV}
  (hb:HY tt e h=some (r,h')):XOk P (Instr.alloc e true (.tuple #[])) h ρ T w r h':=by
 unfold HY at hb;split at hb
 ·rename_i ti hti
  rw[Heap.Bc]at hb;cases hb;obtain⟨z,hz,hzc⟩:=iZ (P:=P) hT hti w;have hlr:dQ ρ (Zl ti.zero) z.cells.toList:=by rw[hzc];exact dQ.lits _
  have hsz:z.cells.size=ti.zero.length:=by rw[<-Array.length_toList,hzc]
  have hl:(Zl ti.zero).length=ti.zero.length:=by simp[Zl]
  obtain⟨ρ',h1,h2,h3,h4,h5⟩:=hR.jZ (e:=e) (c:=bif Nat.blt 40 ti.zero.length then .tr ti.zero.length (Zl ti.zero) .leaf else .av (Zl ti.zero)) (arr:=z.cells)
   (by cases Nat.blt 40 ti.zero.length<;>simp[Cs.size,hsz,hl])
   (by
    cases Nat.blt 40 ti.zero.length with
    |false=>simpa using fF.av hlr
    |true=>have:=fF.aqe hlr;rw[hl]at this;simpa using this)
  refine⟨.pointer (some ⟨w.heap.size,0,none⟩),_,ρ',?_,h3,h1,by simp,h4,by simp only[bF];exact⟨_,h2,rfl⟩,h5⟩;simp[Instr.alloc,hz,newVar,newRow]
 ·cases hb
def xq:AV->Option (List AV)
 | .agg cs=>some cs
 | .lit (.agg vs)=>some (vs.toList.map .lit)
 |_=>none
theorem jH{ρ:Ren}{v:AV}{u:Value}{cs:List AV}(h:xq v=some cs)(hv:bF ρ v u): ∃vs,u= .agg vs/\dQ ρ cs vs.toList:=by
 cases v with
 |agg l=>simp only[xq,ak]at h;subst h;simpa only[bF]using hv
 |lit x=>
  simp only[bF]at hv;subst hv;cases u<;>simp only[xq,ak]at h<;>first|(subst h;exact⟨_,rfl,dQ.lits _⟩)|cases h
 |_=>simp[xq]at h
def takeN:Nat->Nat->List AV->Option (List AV)
 |o,n,l=>bif Nat.ble (o+n) l.length then some ((l.drop o).take n)else none
def BR(tt:TT)(t:TypeId)(cs:List AV)(o:Nat):Option AV:=
 match tt t with
 |some ti=>bif ti.agg then(match takeN o ti.size cs with|some l=>some (.agg l)|none=>none)else cs[o]?
 |none=>none
theorem dQ.take{ρ:Ren}{as:List AV}{vs:List Value}(h:dQ ρ as vs)(o n:Nat):dQ ρ ((as.drop o).take n) ((vs.drop o).take n):=by
 refine dQ.Zi (by simp[h.length]) λk a ha=> ?_
 rw[List.getElem?_take]at ha;split at ha
 ·rename_i hk
  rw[List.getElem?_drop]at ha;obtain⟨v,hv,hr⟩:=h.get _ _ ha;exact⟨v,by rw[List.getElem?_take,if_pos hk,List.getElem?_drop];exact hv,hr⟩
 ·cases ha
theorem uH{P:Program}{tt:TT}(hT:tt.ok P){t:TypeId}{cs:List AV}{vs:Array Value}{o:Nat}{r:AV}{ρ:Ren}(h:BR tt t cs o=some r)
  (hv:dQ ρ cs vs.toList):NOk P (part t vs o) ρ r:=by
 unfold BR at h;split at h
 ·rename_i ti hti
  cases ha:ti.agg with
  |true=>
   rw[ha]at h;simp only[aP,takeN]at h;cases hb:Nat.ble (o+ti.size) cs.length with
   |false=>rw[hb]at h;simp at h
   |true=>
    rw[hb]at h;simp only[aP,ak]at h;subst h;refine⟨.agg (vs.extract o (o+ti.size)),λw=>by simp[part,wZ hT hti,ha,run_sizeOf hT hti],?_⟩;simp only[bF];refine⟨_,rfl,?_⟩;have:(vs.extract o (o+ti.size)).toList=(vs.toList.drop o).take ti.size:=by
     rw[Array.toList_extract,List.extract_eq_take_drop];congr 1;omega
    rw[this];exact hv.take _ _
  |false=>
   rw[ha]at h;simp only[aQ]at h;obtain⟨u,hu,hr⟩:=hv.get _ _ h;refine⟨u,λw=> ?_,hr⟩;have:vs[o]? =some u:=by simpa using hu
   simp[part,wZ hT hti,ha,this]
 ·cases h
def CS:TD->AV->AV->Option Bool
 | .bool,.lit (.bool a),.lit (.bool b)=>some (a==b)
 | .int _,.lit (.int k a),.lit (.int k' b)=>if k=k' then some (a==b)else none
 | .string,.lit (.string a),.lit (.string b)=>some (a.toList==b.toList)
 | .ptr _,.lit (.pointer none),.lit (.pointer none)=>some true
 | .ptr _,.lit (.pointer none),.ptr _ _=>some false
 | .ptr _,.ptr _ _,.lit (.pointer none)=>some false
 | .slice _,.lit (.slice none _ _),.lit (.slice none _ _)=>some true
 | .slice _,.lit (.slice (some _) _ _),.lit (.slice none _ _)=>some false
 | .slice _,.lit (.slice none _ _),.sl _ _ _ _=>some false
 | .slice _,.sl _ _ _ _,.lit (.slice none _ _)=>some false
 | .slice _,.lit (.slice none _ _),.slU _ _ _ _=>some false
 | .slice _,.slU _ _ _ _,.lit (.slice none _ _)=>some false
 | .slice _,.lit (.slice none _ _),.slE _ _ _ _ _=>some false
 | .slice _,.slE _ _ _ _ _,.lit (.slice none _ _)=>some false
 | .slice _,.lit (.slice none _ _),.slW _ _ _ _=>some false
 | .slice _,.slW _ _ _ _,.lit (.slice none _ _)=>some false
 | .slice _,.lit (.slice none _ _),.slZ z _ _ _ _=>some z
 | .slice _,.slZ z _ _ _ _,.lit (.slice none _ _)=>some z
 | .slice _,.lit (.slice none _ _),.slV z _ _ _=>some z
 | .slice _,.slV z _ _ _,.lit (.slice none _ _)=>some z
 | .ptr _,.lit (.pointer none),.nH _ _ _ _=>some false
 | .ptr _,.nH _ _ _ _,.lit (.pointer none)=>some false
 | .map _ _,.lit (.map none),.lit (.map none)=>some true
 | .map _ _,.lit (.map none),.mp _=>some false
 | .map _ _,.mp _,.lit (.map none)=>some false
 | .func,.lit .nilFunc,.lit .nilFunc=>some true
 | .func,.lit .nilFunc,.fn _ _ _=>some false
 | .func,.fn _ _ _,.lit .nilFunc=>some false
 |_,_,_=>none
set_option maxHeartbeats 2000000 in
theorem Ui{P:Program}{tt:TT}(hT:tt.ok P){t:TypeId}{ti:TI}(hti:tt t=some ti){x y:AV}{u v:Value}{r:Bool}{ρ:Ren}
  (h:CS ti.desc x y=some r) (hu:bF ρ x u) (hv:bF ρ y v) (d:Nat) (w:World):(Op.equalIn (d+1) t u v).run P w= .ok r w:=by
 obtain⟨dd,hrun,jD,hmk⟩:=dH (P:=P) hT hti w;unfold CS at h;split at h
 all_goals (try simp only[bF]at hu hv)
 ·cases h;rw[ae2 (hmk.trans ‹_›)]at hrun;subst hu;subst hv
  simp[Op.equalIn,hrun]
 ·rw[xg (hmk.trans ‹_›)]at hrun;subst hu;subst hv
  split at h
  ·rename_i hk;cases h;subst hk
   simp[Op.equalIn,hrun]
  ·cases h
 ·cases h;rw[fJ (hmk.trans ‹_›)]at hrun;subst hu;subst hv
  simp[Op.equalIn,hrun,beq_toListBytes]
 ·cases h;rw[uF (hmk.trans ‹_›)]at hrun;subst hu;subst hv
  simp[Op.equalIn,hrun]
 ·cases h;rw[uF (hmk.trans ‹_›)]at hrun;subst hu;obtain⟨a,_,rfl⟩:=hv
  simp[Op.equalIn,hrun]
 ·cases h;rw[uF (hmk.trans ‹_›)]at hrun;subst hv;obtain⟨a,_,rfl⟩:=hu
  simp[Op.equalIn,hrun]
 ·cases h;rw[dB (hmk.trans ‹_›)]at hrun;subst hu;subst hv
  simp[Op.equalIn,hrun]
 ·cases h;rw[dB (hmk.trans ‹_›)]at hrun;subst hu;subst hv
  simp[Op.equalIn,hrun]
 ·cases h;rw[dB (hmk.trans ‹_›)]at hrun;subst hu;obtain⟨a,_,rfl⟩:=hv
  simp[Op.equalIn,hrun]
 ·cases h;rw[dB (hmk.trans ‹_›)]at hrun;subst hv;obtain⟨a,_,rfl⟩:=hu
  simp[Op.equalIn,hrun]
 ·cases h;rw[dB (hmk.trans ‹_›)]at hrun;subst hu;obtain⟨a,_,_,rfl,_⟩:=hv
  simp[Op.equalIn,hrun]
 ·cases h;rw[dB (hmk.trans ‹_›)]at hrun;subst hv;obtain⟨a,_,_,rfl,_⟩:=hu
  simp[Op.equalIn,hrun]
 ·cases h;rw[dB (hmk.trans ‹_›)]at hrun;subst hu;obtain⟨a,_,_,rfl,_⟩:=hv
  simp[Op.equalIn,hrun]
 ·cases h;rw[dB (hmk.trans ‹_›)]at hrun;subst hv;obtain⟨a,_,_,rfl,_⟩:=hu
  simp[Op.equalIn,hrun]
 ·cases h;rw[dB (hmk.trans ‹_›)]at hrun;subst hu;obtain⟨a,_,_,_,rfl,_⟩:=hv
  simp[Op.equalIn,hrun]
 ·cases h;rw[dB (hmk.trans ‹_›)]at hrun;subst hv;obtain⟨a,_,_,_,rfl,_⟩:=hu
  simp[Op.equalIn,hrun]
 ·cases h;rw[dB (hmk.trans ‹_›)]at hrun;subst hu
  rcases hv with ⟨hz,_,rfl⟩|⟨hz,a,_,_,_,rfl,_⟩<;>simp[Op.equalIn,hrun,hz]
 ·cases h;rw[dB (hmk.trans ‹_›)]at hrun;subst hv
  rcases hu with ⟨hz,_,rfl⟩|⟨hz,a,_,_,_,rfl,_⟩<;>simp[Op.equalIn,hrun,hz]
 ·cases h;rw[dB (hmk.trans ‹_›)]at hrun;subst hu
  rcases hv with ⟨hz,_,rfl⟩|⟨hz,a,_,_,_,rfl,_⟩<;>simp[Op.equalIn,hrun,hz]
 ·cases h;rw[dB (hmk.trans ‹_›)]at hrun;subst hv
  rcases hu with ⟨hz,_,rfl⟩|⟨hz,a,_,_,_,rfl,_⟩<;>simp[Op.equalIn,hrun,hz]
 ·cases h;rw[uF (hmk.trans ‹_›)]at hrun;subst hu;obtain⟨a,_,rfl⟩:=hv
  simp[Op.equalIn,hrun]
 ·cases h;rw[uF (hmk.trans ‹_›)]at hrun;subst hv;obtain⟨a,_,rfl⟩:=hu
  simp[Op.equalIn,hrun]
 ·cases h;rw[uG (hmk.trans ‹_›)]at hrun;subst hu;subst hv
  simp[Op.equalIn,hrun]
 ·cases h;rw[uG (hmk.trans ‹_›)]at hrun;subst hu;obtain⟨a,_,rfl⟩:=hv
  simp[Op.equalIn,hrun]
 ·cases h;rw[uG (hmk.trans ‹_›)]at hrun;subst hv;obtain⟨a,_,rfl⟩:=hu
  simp[Op.equalIn,hrun]
 ·cases h;obtain⟨a,b,c,hf⟩:=Du (hmk.trans ‹_›);rw[hf]at hrun;subst hu;subst hv
  simp[Op.equalIn,hrun]
 ·cases h;obtain⟨a,b,c,hf⟩:=Du (hmk.trans ‹_›);rw[hf]at hrun;subst hu;obtain⟨_,_,rfl,_⟩:=hv
  simp[Op.equalIn,hrun]
 ·cases h;obtain⟨a,b,c,hf⟩:=Du (hmk.trans ‹_›);rw[hf]at hrun;subst hv;obtain⟨_,_,rfl,_⟩:=hu
  simp[Op.equalIn,hrun]
 ·cases h
def l7(tt:TT)(f:TypeId->AV->AV->Option Bool):List (Nat×TypeId×Bool)->List AV->List AV->Option Bool
 |[],_,_=>some true
 |(o,t,true)::fs,xs,ys=>match BR tt t xs o,BR tt t ys o with
  |some a,some b=>match f t a b with
   |some r=>(match l7 tt f fs xs ys with|some q=>some (r&&q)|none=>none)
   |none=>none
  |_,_=>none
 |(_,_,false)::fs,xs,ys=>l7 tt f fs xs ys
def xu(tt:TT)(f:AV->AV->Option Bool)(e:TypeId)(s:Nat):Nat->Nat->List AV->List AV->Option Bool
 |0,_,_,_=>some true
 |n+1,k,xs,ys=>match BR tt e xs (k*s),BR tt e ys (k*s)with
  |some a,some b=>match f a b with
   |some r=>(match xu tt f e s n (k+1) xs ys with|some q=>some (r&&q)|none=>none)
   |none=>none
  |_,_=>none
def eqA(tt:TT):Nat->TypeId->AV->AV->Option Bool
 |0,_,_,_=>none
 |d+1,t,x,y=>match tt t with
  |some ti=>match ti.desc with
   | .struct fs false=>match xq x,xq y with
    |some xs,some ys=>l7 tt (eqA tt d) fs xs ys
    |_,_=>none
   | .array n e=>match xq x,xq y,tt e with
    |some xs,some ys,some te=>xu tt (eqA tt d e) e te.size n 0 xs ys
    |_,_,_=>none
   |dd=>CS dd x y
  |none=>none
theorem run_equalIn_array{P:Program}(w:World)(d:Nat)(t e:TypeId)(n:Nat)(xs ys:Array Value)(ht:P.underlying t=some (.array n e)){s:Nat}(hs: ∀w,(sizeOf e).run P w= .ok s w)
  (q:Nat->Bool) (hq: ∀i,i<n-> ∃a b,(∀w,(part e xs (i*s)).run P w= .ok a w)/\(∀w,(part e ys (i*s)).run P w= .ok b w)/\ ∀w,(Op.equalIn d e a b).run P w= .ok (q i) w):
  (Op.equalIn (d+1) t (.agg xs) (.agg ys)).run P w= .ok ((List.range' 0 n).all q) w:=by
 simp only[Op.equalIn,Sem.run_bind,underlying,run_program,Result.andThen_ok,ht,Sem.run_pure,hs];simp only[Std.Legacy.Range.forIn_eq_forIn_range',Std.Legacy.Range.size,aN,Nat.add_sub_cancel,Nat.div_one]
 have key: ∀(m k:Nat),k+m<=n-> ∀w,((forIn (m:=Sem) (List.range' k m) ((none,()):Option Bool×Unit) λi r=>do
    let a<-part e xs (i*s)
    let b<-part e ys (i*s)
    let c<-Op.equalIn d e a b
    if (!c)=true then pure (ForInStep.done (some false,()))else pure (ForInStep.yield (none,())))).run P w=
    .ok (if (List.range' k m).all q then none else some false,()) w:=by
  intro m
  induction m with
  |zero=>intro k _ w;simp
  |succ m ih=>
   intro k hk w;obtain⟨a,b,ha,hb,hc⟩:=hq k (by omega);simp only[List.range'_succ,List.forIn_cons,Sem.run_bind,ha,hb,hc,Result.andThen_ok,Sem.run_ite,List.all_cons];cases hqk:q k with
   |true=>
    simp only[Bool.not_true,Bool.false_eq_true,if_false,Sem.run_pure,Result.andThen_ok,aH];exact ih (k+1) (by omega) w
   |false=>simp
 rw[key n 0 (by omega) w];simp only[Result.andThen_ok];cases (List.range' 0 n).all q<;>rfl
def EqOk(P:Program)(ρ:Ren)(D:Nat)(t:TypeId)(f:AV->AV->Option Bool):Prop:=
 ∀(x y:AV) (u v:Value) (r:Bool),f x y=some r->bF ρ x u->bF ρ y v-> ∀w,(Op.equalIn D t u v).run P w= .ok r w
theorem qP{P:Program}{tt:TT}(hT:tt.ok P){ρ:Ren}{D:Nat}{f:TypeId->AV->AV->Option Bool}(hf: ∀t,EqOk P ρ D t (f t)):
  ∀(fs:List (Nat×TypeId×Bool)) (xs ys:List AV) (us vs:Array Value) (r:Bool),l7 tt f fs xs ys=some r->
  dQ ρ xs us.toList->dQ ρ ys vs.toList-> ∀gs:List Field,gs.map (λf=>(f.offset,f.type,f.name != "_"))=fs-> ∀w,(Op.eqFields D us vs gs).run P w= .ok r w
 |[],xs,ys,us,vs,r,h,_,_=>λgs hgs w=>by
  simp[l7]at h;subst h;have:gs=[]:=by simpa using hgs
  subst this;simp[Op.eqFields]
 |(o,t,true)::fs,xs,ys,us,vs,r,h,hu,hv=>λgs hgs w=>by
  cases gs with
  |nil=>simp at hgs
  |cons g gs=>
   simp only[List.map_cons,List.cons.injEq,Prod.mk.injEq]at hgs;obtain⟨⟨rfl,rfl,hn⟩,hgs⟩:=hgs;simp only[l7]at h;split at h
   ·rename_i a b ha hb
    split at h
    ·rename_i q hq
     split at h
     ·rename_i q2 hq2
      cases h;obtain⟨ua,hua,hra⟩:=uH (P:=P) hT ha hu;obtain⟨ub,hub,hrb⟩:=uH (P:=P) hT hb hv;have h1:=hf g.type a b ua ub q hq hra hrb;have h2:=qP hT hf fs xs ys us vs q2 hq2 hu hv gs hgs;have hn':g.name≠ "_" :=by simpa using hn
      simp only[Op.eqFields,if_pos hn',Sem.run_bind,hua,hub,h1,Result.andThen_ok,Sem.run_ite];cases q
      ·simp
      ·simp[h2]
     ·cases h
    ·cases h
   ·cases h
 |(o,t,false)::fs,xs,ys,us,vs,r,h,hu,hv=>λgs hgs w=>by
  cases gs with
  |nil=>simp at hgs
  |cons g gs=>
   simp only[List.map_cons,List.cons.injEq,Prod.mk.injEq]at hgs;obtain⟨⟨rfl,rfl,hn⟩,hgs⟩:=hgs;simp only[l7]at h;have hn': ¬g.name≠ "_" :=by simpa using hn
   simp only[Op.eqFields,if_neg hn'];exact qP hT hf fs xs ys us vs r h hu hv gs hgs w
theorem Dw{P:Program}{tt:TT}(hT:tt.ok P){ρ:Ren}{D:Nat}{f:AV->AV->Option Bool}{e:TypeId}(hf:EqOk P ρ D e f){s:Nat}:
  ∀(n k:Nat) (xs ys:List AV) (us vs:Array Value) (r:Bool),xu tt f e s n k xs ys=some r->
  dQ ρ xs us.toList->dQ ρ ys vs.toList-> ∃q:Nat->Bool,(∀i,k<=i->i<k+n-> ∃a b,(∀w,(part e us (i*s)).run P w= .ok a w)/\(∀w,(part e vs (i*s)).run P w= .ok b w)/\
   ∀w,(Op.equalIn D e a b).run P w= .ok (q i) w)/\(List.range' k n).all q=r
 |0,k,xs,ys,us,vs,r,h,_,_=>by
  simp[xu]at h;subst h;exact⟨λ_=>true,λi h1 h2=>by omega,rfl⟩
 |n+1,k,xs,ys,us,vs,r,h,hu,hv=>by
  simp only[xu]at h;split at h
  ·rename_i a b ha hb
   split at h
   ·rename_i q hq
    split at h
    ·rename_i q2 hq2
     cases h;obtain⟨ua,hua,hra⟩:=uH (P:=P) hT ha hu;obtain⟨ub,hub,hrb⟩:=uH (P:=P) hT hb hv;have h1:=hf a b ua ub q hq hra hrb;obtain⟨p,hp,hpr⟩:=Dw hT hf n (k+1) xs ys us vs q2 hq2 hu hv;refine⟨λi=>if i=k then q else p i,λi h1' h2'=> ?_,?_⟩
     ·by_cases hik:i=k
      ·subst hik;exact⟨ua,ub,hua,hub,λw=>by simpa using h1 w⟩
      ·obtain⟨a',b',h3,h4,h5⟩:=hp i (by omega) (by omega)
       exact⟨a',b',h3,h4,λw=>by simpa[hik]using h5 w⟩
     ·rw[List.range'_succ,List.all_cons,if_pos rfl,<-hpr]
      congr 1;apply Bool.eq_iff_iff.2;simp only[List.all_eq_true,List.mem_range'_1];constructor
      ·intro hh x hx;have:=hh x hx;rwa [if_neg (by omega)]at this
      ·intro hh x hx;rw[if_neg (by omega)];exact hh x hx
    ·cases h
   ·cases h
  ·cases h
theorem ae5{P:Program}{tt:TT}(hT:tt.ok P){ρ:Ren}: ∀(d:Nat) (t:TypeId) (D:Nat),d<=D->EqOk P ρ D t (eqA tt d t)
 |0,_,_,_=>λ_ _ _ _ _ h=>by simp[eqA]at h
 |d+1,t,D,hD=>λx y u v r h hu hv w=>by
  obtain⟨D,rfl⟩: ∃k,D=k+1:=⟨D-1,by omega⟩;simp only[eqA]at h;split at h
  ·rename_i ti hti
   split at h
   ·rename_i fs hfs
    split at h
    ·rename_i xs ys hxs hys
     obtain⟨us,rfl,hus⟩:=jH hxs hu;obtain⟨vs,rfl,hvs⟩:=jH hys hv;obtain⟨dd,_,jD,hmk⟩:=dH (P:=P) hT hti w;obtain⟨gs,rfl,hgs,hheld⟩:=pX (hmk.trans hfs);have hf:P.underlying t=some (.struct (P.fieldsOf t)):=by simp[Program.fieldsOf,jD]
     rw[run_equalIn_struct w D t us vs hf hheld];have hg:(P.fieldsOf t)=gs:=by simp[Program.fieldsOf,jD]
     rw[hg];exact qP hT (λt=>ae5 hT d t D (by omega)) fs xs ys us vs r h hus hvs gs.toList hgs w
    ·cases h
   ·rename_i n e hne
    split at h
    ·rename_i xs ys te hxs hys hte
     obtain⟨us,rfl,hus⟩:=jH hxs hu;obtain⟨vs,rfl,hvs⟩:=jH hys hv;obtain⟨dd,_,jD,hmk⟩:=dH (P:=P) hT hti w;obtain rfl:=jY (hmk.trans hne);obtain⟨q,hq,hr⟩:=Dw hT (ae5 hT d e D (by omega)) n 0 xs ys us vs r h hus hvs;rw[run_equalIn_array w D t e n us vs jD (λw=>run_sizeOf hT hte w) q (λi hi=>by simpa using hq i (by omega) (by omega)),hr]
    ·cases h
   ·exact Ui hT hti h hu hv D w
  ·cases h
def aeR(op:BinOp)(k:IntKind)(a b:Int):Option Value:=
 match op with
 | .add=>some (.int k (k.wrap (a+b)))
 | .sub=>some (.int k (k.wrap (a-b)))
 | .mul=>some (.int k (k.wrap (a*b)))
 | .quo=>if b=0 then none else some (.int k (k.wrap (a.tdiv b)))
 | .rem=>if b=0 then none else some (.int k (a.tmod b))
 | .and=>some (.int k (k.wrap (BitVec.ofInt k.bits a&&&BitVec.ofInt k.bits b).toNat))
 | .or=>some (.int k (k.wrap (BitVec.ofInt k.bits a|||BitVec.ofInt k.bits b).toNat))
 | .xor=>some (.int k (k.wrap (BitVec.ofInt k.bits a^^^BitVec.ofInt k.bits b).toNat))
 | .andNot=>some (.int k (k.wrap (BitVec.ofInt k.bits a&&& ~~~BitVec.ofInt k.bits b).toNat))
 | .eql=>some (.bool (a==b))
 | .neq=>some (.bool (a !=b))
 | .lss=>some (.bool (a<b))
 | .leq=>some (.bool (a<=b))
 | .gtr=>some (.bool (a>b))
 | .geq=>some (.bool (a>=b))
 |_=>none
def shN(op:BinOp)(k:IntKind)(a b:Int):Option Value:=
 match op with
 | .shl=>if b<0 then none else some (.int k (k.wrap (a*2^(min b.toNat k.bits))))
 | .shr=>if b<0 then none else some (.int k (a.fdiv (2^(min b.toNat k.bits))))
 |_=>none
def alm(op:BinOp)(a b:ByteArray):Option Value:=
 match op with
 | .add=>if ((a.size+b.size:Nat):Int)>IntKind.i64.max then none else some (.string (a++b))
 | .eql=>some (.bool (a.toList==b.toList))
 | .neq=>some (.bool !(a.toList==b.toList))
 | .lss=>some (.bool (Op.bytesLess a.toList b.toList))
 | .leq=>some (.bool (Op.bytesLess a.toList b.toList||a.toList==b.toList))
 | .gtr=>some (.bool !(Op.bytesLess a.toList b.toList||a.toList==b.toList))
 | .geq=>some (.bool !(Op.bytesLess a.toList b.toList))
 |_=>none
def ale:BinOp->Bool
 | .shl=>true
 | .shr=>true
 |_=>false
def Zm :Option Value->Option AV
 |some v=>some (.lit v)
 |none=>none
def abL(tt:TT)(op:BinOp)(t:TypeId)(x y:AV):Option AV:=
 match x,y with
 | .lit (.int k a),.lit (.int k' b)=>bif ale op then Zm (shN op k a b)else if k=k' then Zm (aeR op k a b)else none
 | .lit (.string a),.lit (.string b)=>Zm (alm op a b)
 |x,y=>match tt t with
  |some ti=>bif ti.guard then none else match eqA tt 40 t x y with
   |some r=>match op with
    | .eql=>some (.lit (.bool r))
    | .neq=>some (.lit (.bool (!r)))
    |_=>none
   |none=>none
  |none=>none
def H6:Value->Bool
 | .bool _| .pointer _| .slice _ _ _| .map _| .func _ _ _| .nilFunc| .agg _=>true
 |_=>false
theorem abM{u:Value}(h:H6 u=true)(t:TypeId)(v:Value):binOp .eql t u v=(do pure (.bool (<-Op.equal t u v))):=by
 cases u<;>simp[H6]at h<;>cases v<;>simp[binOp]
theorem abN{u:Value}(h:H6 u=true)(t:TypeId)(v:Value):binOp .neq t u v=(do pure (.bool (!(<-Op.equal t u v)))):=by
 cases u<;>simp[H6]at h<;>cases v<;>simp[binOp]
theorem ae6{tt:TT}{ρ:Ren}{d:Nat}{t:TypeId}{x y:AV}{u:Value}{r:Bool}(h:eqA tt d t x y=some r)(hu:bF ρ x u):
  H6 u=true\/(∃k a k' b,x= .lit (.int k a)/\y= .lit (.int k' b))\/(∃a b,x= .lit (.string a)/\y= .lit (.string b)):=by
 cases d with
 |zero=>simp[eqA]at h
 |succ d=>
  simp only[eqA]at h;split at h
  ·split at h
   ·split at h
    ·rename_i xs ys hxs hys
     obtain⟨us,rfl,hus⟩:=jH hxs hu;exact .inl rfl
    ·cases h
   ·split at h
    ·rename_i xs ys te hxs hys hte
     obtain⟨us,rfl,hus⟩:=jH hxs hu;exact .inl rfl
    ·cases h
   ·unfold CS at h
    split at h
    all_goals first
     |exact .inr (.inl ⟨_,_,_,_,rfl,rfl⟩)
     |exact .inr (.inr ⟨_,_,rfl,rfl⟩)
     |cases h;done
     |skip
    all_goals simp only[bF]at hu
    all_goals first
     |(subst hu;exact .inl rfl)
     |(rcases hu with ⟨_,_,rfl⟩|⟨_,_,_,_,_,rfl,_⟩<;>exact .inl rfl)
     |(obtain⟨_,_,rfl⟩:=hu;exact .inl rfl)
     |(obtain⟨_,_,_,rfl,_⟩:=hu;exact .inl rfl)
     |(obtain⟨_,_,_,_,rfl,_⟩:=hu;exact .inl rfl)
     |(rcases hu with ⟨_,rfl⟩|⟨_,_,_,_,rfl,_⟩<;>exact .inl rfl)
     |(obtain⟨_,_,rfl,_⟩:=hu;exact .inl rfl)
  ·cases h
theorem Uj{P:Program}{op:BinOp}{t:TypeId}{xo yo:Operand}{u v:Value}(hg:P.eqGuardType P.depth t=false)(hu:u≠ .nilIface)(w:World):
  (eqGuard op t xo yo u v).run P w= .ok () w:=by
 cases op
 case eql=>unfold eqGuard;cases u<;>first|exact absurd rfl hu|(cases v<;>simp[hg])
 case neq=>unfold eqGuard;cases u<;>first|exact absurd rfl hu|(cases v<;>simp[hg])
 all_goals simp[eqGuard]
def ao6(op:BinOp)(t:TypeId)(xo yo:Operand)(a b:Value):Sem Value:=do
 eqGuard op t xo yo a b
 binOp op t a b
theorem l9{P:Program}{op:BinOp}{t:TypeId}{xo yo:Operand}{u v:Value}(hu: ∀vs,u≠ .agg vs)(hu':u≠ .nilIface)(w:World):(eqGuard op t xo yo u v).run P w= .ok () w:=by
 cases op
 case eql=>unfold eqGuard;cases u<;>first|exact absurd rfl hu'|exact absurd rfl (hu _)|(cases v<;>simp)
 case neq=>unfold eqGuard;cases u<;>first|exact absurd rfl hu'|exact absurd rfl (hu _)|(cases v<;>simp)
 all_goals simp[eqGuard]
theorem atH{P:Program}{op:BinOp}{k k':IntKind}{a b:Int}{r:Value}{t:TypeId}(h:shN op k a b=some r)(w:World):(binOp op t (.int k a) (.int k' b)).run P w= .ok r w:=by
 cases op<;>simp[shN]at h
 all_goals
  obtain⟨hb,rfl⟩:=h;have hb': ¬b<0:=by omega
  simp[binOp,Op.shift,hb']
theorem aqf{P:Program}{op:BinOp}{k:IntKind}{a b:Int}{r:Value}{t:TypeId}(hs:ale op=false)(h:aeR op k a b=some r)(w:World):
  (binOp op t (.int k a) (.int k b)).run P w= .ok r w:=by
 cases op<;>simp[aeR]at h<;>simp[ale]at hs
 case quo=>obtain⟨hb,rfl⟩:=h;simp[binOp,Op.intDiv,hb]
 case rem=>obtain⟨hb,rfl⟩:=h;simp[binOp,Op.intDiv,hb]
 all_goals (subst h;simp[binOp,Op.intArith,Op.intBits,Op.intCmp])
theorem aqg{P:Program}{op:BinOp}{a b:ByteArray}{r:Value}{t:TypeId}(h:alm op a b=some r)(w:World):(binOp op t (.string a) (.string b)).run P w= .ok r w:=by
 cases op<;>simp only[alm,ak]at h<;>try (first|cases h;done)
 case add=>
  split at h
  ·cases h
  ·rename_i hh
   cases h;simp only[binOp,Op.stringOp,if_neg hh,Sem.run_pure]
 all_goals (subst h;simp[binOp,Op.stringOp])
theorem xw{o:Option Value}{v:AV}(h:Zm o=some v): ∃u,o=some u/\v= .lit u:=by
 cases o<;>simp[Zm]at h;exact⟨_,rfl,h.symm⟩
theorem ae7{P:Program}{tt:TT}(hT:tt.ok P){ρ:Ren}{op:BinOp}{t:TypeId}{xo yo:Operand}{x y r:AV}{u v:Value}(h:abL tt op t x y=some r)
  (hu:bF ρ x u) (hv:bF ρ y v):NOk P (ao6 op t xo yo u v) ρ r:=by
 unfold abL at h;split at h
 ·rename_i k a k' b
  simp only[bF]at hu hv;subst hu;subst hv;cases hs:ale op with
  |true=>
   rw[hs]at h;simp only[aP]at h;obtain⟨q,hq,rfl⟩:=xw h;refine⟨q,λw=> ?_,by simp[bF]⟩;simp only[ao6,Sem.run_bind,l9 (u:= .int k a) (by simp) (by simp),Result.andThen_ok,atH hq]
  |false=>
   rw[hs]at h;simp only[aQ]at h;split at h
   ·rename_i hk;subst hk
    obtain⟨q,hq,rfl⟩:=xw h;refine⟨q,λw=> ?_,by simp[bF]⟩;simp only[ao6,Sem.run_bind,l9 (u:= .int k a) (by simp) (by simp),Result.andThen_ok,aqf hs hq]
   ·cases h
 ·rename_i a b
  simp only[bF]at hu hv;subst hu;subst hv;obtain⟨q,hq,rfl⟩:=xw h;refine⟨q,λw=> ?_,by simp[bF]⟩;simp only[ao6,Sem.run_bind,l9 (u:= .string a) (by simp) (by simp),Result.andThen_ok,aqg hq]
 ·rename_i hni hns
  split at h
  ·rename_i ti hti
   cases hg:ti.guard with
   |true=>rw[hg]at h;simp at h
   |false=>
    rw[hg]at h;simp only[aQ]at h;split at h
    ·rename_i q hq
     have heq: ∀w,(Op.equal t u v).run P w= .ok q w:=ae5 hT 40 t 10000 (by omega) x y u v q hq hu hv;have hnn:H6 u=true:=by
      rcases ae6 hq hu with h1|⟨k,a,k',b,rfl,rfl⟩|⟨a,b,rfl,rfl⟩
      ·exact h1
      ·exact(hni _ _ _ _ rfl rfl).elim
      ·exact(hns _ _ rfl rfl).elim
     have hgr: ∀w,(eqGuard op t xo yo u v).run P w= .ok () w:=Uj (by rw[hT.guard hti];exact hg) (λhh=>by rw[hh]at hnn;cases hnn);split at h
     ·cases h
      refine⟨.bool q,λw=> ?_,by simp[bF]⟩;simp only[ao6,Sem.run_bind,hgr,Result.andThen_ok,abM hnn,heq,Sem.run_pure]
     ·cases h
      refine⟨.bool (!q),λw=> ?_,by simp[bF]⟩;simp only[ao6,Sem.run_bind,hgr,Result.andThen_ok,abN hnn,heq,Sem.run_pure]
     ·cases h
    ·cases h
  ·cases h
def unN(op:UnOp)(x:AV):Option AV:=
 match op,x with
 | .neg,.lit (.int k a)=>some (.lit (.int k (k.wrap (0-a))))
 | .xor,.lit (.int k a)=>Zm (aeR .xor k (if k.signed then-1 else k.max) a)
 | .not,.lit (.bool b)=>some (.lit (.bool (!b)))
 |_,_=>none
theorem atJ{P:Program}{ρ:Ren}{op:UnOp}{x r:AV}{u:Value}(h:unN op x=some r)(hu:bF ρ x u):NOk P (Op.unary op u) ρ r:=by
 unfold unN at h;split at h
 ·cases h;simp only[bF]at hu;subst hu
  exact⟨_,λw=>by simp[Op.unary,Op.intArith];rfl,by simp[bF]⟩
 ·simp only[bF]at hu;subst hu
  obtain⟨q,hq,rfl⟩:=xw h;simp only[aeR,ak]at hq;exact⟨q,λw=>by simp[Op.unary,Op.intBits];exact hq,by simp[bF]⟩
 ·cases h;simp only[bF]at hu;subst hu
  exact⟨_,λw=>by simp[Op.unary];rfl,by simp[bF]⟩
 ·cases h
def ae8(tt:TT)(src dst:TypeId)(x:AV):Option AV:=
 match tt src,tt dst with
 |some ts,some td=>match ts.desc,td.desc,x with
  | .int _,.int k,.lit (.int _ n)=>some (.lit (.int k (k.wrap n)))
  | .string,.string,.lit (.string s)=>some (.lit (.string s))
  |_,_,_=>none
 |_,_=>none
theorem JB{P:Program}{tt:TT}(hT:tt.ok P){ρ:Ren}{src dst:TypeId}{x r:AV}{u:Value}(h:ae8 tt src dst x=some r)(hu:bF ρ x u):NOk P (convert src dst u) ρ r:=by
 unfold ae8 at h;split at h
 ·rename_i ts td hts htd
  split at h
  ·rename_i k0 k k1 n hs hd
   cases h;simp only[bF]at hu;subst hu;refine⟨.int k (k.wrap n),λw=> ?_,by simp only[bF]⟩;obtain⟨d1,r1,_,m1⟩:=dH (P:=P) hT hts w;obtain⟨d2,r2,_,m2⟩:=dH (P:=P) hT htd w;rw[xg (m1.trans hs)]at r1;rw[xg (m2.trans hd)]at r2;simp[convert,r1,r2,Conv.intToInt]
  ·rename_i s hs hd
   cases h;simp only[bF]at hu;subst hu;refine⟨.string s,λw=> ?_,by simp only[bF]⟩;obtain⟨d1,r1,_,m1⟩:=dH (P:=P) hT hts w;obtain⟨d2,r2,_,m2⟩:=dH (P:=P) hT htd w;rw[fJ (m1.trans hs)]at r1;rw[fJ (m2.trans hd)]at r2;simp[convert,r1,r2]
  ·cases h
 ·cases h
def nilN(x:AV):Option AV:=
 match x with
 | .ptr i o=>some (.ptr i o)
 | .nH i k m j=>some (.nH i k m j)
 | .fn (.func f) a b=>some (.fn (.func f) a b)
 | .fn (.via t p f q) a b=>some (.fn (.via t p f q) a b)
 |_=>none
def gQ(x:Value):Sem Next:=
 match x with
 | .pointer none| .nilIface| .nilFunc=>runtimePanic .nilDeref
 | .func (.method name) first captured=>
  match (first[0]? :Option Value)with
  |some .nilIface=>runtimePanic .nilDeref
  |some (.iface t w)=>do
   if (<-nilAhead ((<-program).types.size+Made.depth) t w name) !=some false then
    unsupported (.noEntry "op/nilCheck.the method's receiver behind this interface value is a nil pointer, or cannot be seen to be none, and the arguments act or may panic (ledger 612)")
   pure (.value (.func (.method name) first captured))
  |_=>pure (.value (.func (.method name) first captured))
 |x=>pure (.value x)
theorem aqh{P:Program}{ρ:Ren}{x r:AV}{u:Value}(h:nilN x=some r)(hu:bF ρ x u): ∃v,(∀w,(gQ u).run P w= .ok (.value v) w)/\bF ρ r v:=by
 unfold nilN at h;split at h
 ·cases h;have hu':=hu;simp only[bF]at hu;obtain⟨a,_,rfl⟩:=hu;exact⟨_,λw=>by simp[gQ],hu'⟩
 ·cases h;have hu':=hu;simp only[bF]at hu;obtain⟨a,_,rfl⟩:=hu;exact⟨_,λw=>by simp[gQ],hu'⟩
 ·cases h;have hu':=hu;simp only[bF]at hu;obtain⟨a,b,rfl,_⟩:=hu;exact⟨_,λw=>by simp[gQ],hu'⟩
 ·cases h;have hu':=hu;simp only[bF]at hu;obtain⟨a,b,rfl,_⟩:=hu;exact⟨_,λw=>by simp[gQ],hu'⟩
 ·cases h
def jI(tt:TT)(s:TypeId)(x:AV)(f:Nat):Option AV:=
 match tt s,x with
 |some ts,.ptr i o=>match ts.desc with
  | .struct fs _=>match fs[f]? with
   |some (off,t,_)=>match tt t with
    |some tf=>bif Nat.beq tf.size 0 then none else some (.ptr i (o+off))
    |none=>none
   |none=>none
  |_=>none
 |_,_=>none
theorem pY{P:Program}{tt:TT}(hT:tt.ok P){ρ:Ren}{s:TypeId}{f:Nat}{x r:AV}{u:Value}(h:jI tt s x f=some r)(hu:bF ρ x u):
  NOk P (Instr.fieldAt s u f) ρ r:=by
 unfold jI at h;split at h
 ·rename_i ts i o hts
  split at h
  ·rename_i fs held hfs
   split at h
   ·rename_i off t b hf
    split at h
    ·rename_i tf htf
     cases hz:Nat.beq tf.size 0 with
     |true=>rw[hz]at h;simp at h
     |false=>
      rw[hz]at h;simp only[aQ,ak]at h;subst h;simp only[bF]at hu;obtain⟨a,ha,rfl⟩:=hu;have hz':tf.size≠0:=λh0=>by rw[h0]at hz;cases hz
      obtain⟨gs,hgs⟩: ∃gs:Array Field,P.underlying s=some (.struct gs)/\gs.toList.map (λf=>(f.offset,f.type,f.name != "_"))=fs:=by
       obtain⟨d1,_,jD,m1⟩:=dH (P:=P) hT hts default;obtain⟨gs,rfl,hg,_⟩:=pX (m1.trans hfs);exact⟨gs,jD,hg⟩
      obtain⟨jD,hg⟩:=hgs;rw[<-hg,List.getElem?_map]at hf;cases hgf:gs.toList[f]? with
      |none=>rw[hgf]at hf;cases hf
      |some g=>
       rw[hgf]at hf;simp only[Option.map_some,ak,Prod.mk.injEq]at hf;obtain⟨rfl,rfl,_⟩:=hf;refine⟨.pointer (some ⟨a.blk,a.base+o+g.offset,none⟩),λw=> ?_,?_⟩
       ·have hgf':gs[f]? =some g:=by simpa using hgf
        simp[Instr.fieldAt,underlying,jD,hgf',Instr.sureAddr,fieldPlace,run_sizeOf hT htf,hz',dS]
       ·simp only[bF];exact⟨a,ha,by rw[Nat.add_assoc]⟩
    ·cases h
   ·cases h
  ·cases h
 ·cases h
def ku(tt:TT)(t:TypeId)(x ix:AV):Option AV:=
 match tt t,ix with
 |some ti,.lit (.int _ k)=>match ti.desc,x with
  | .array n e,.ptr i o=>match tt e with
   |some te=>if 0<=k/\k<(n:Int)then some (.ptr i (o+k.toNat*te.size))else none
   |none=>none
  | .slice e,.sl i o n _=>match tt e with
   |some te=>if 0<=k/\k<(n:Int)then some (.ptr i (o+k.toNat*te.size))else none
   |none=>none
  | .slice e,.slU i o n _=>match tt e with
   |some te=>if 0<=k/\k<(n:Int)then some (.ptr i (o+k.toNat*te.size))else none
   |none=>none
  |_,_=>none
 |_,_=>none
theorem jM{P:Program}{tt:TT}(hT:tt.ok P){ρ:Ren}{t:TypeId}{x ix r:AV}{u v:Value}(h:ku tt t x ix=some r)(hu:bF ρ x u)(hv:bF ρ ix v):
  NOk P (Instr.indexAt t u v) ρ r:=by
 unfold ku at h;split at h
 ·rename_i ti kk k hti
  simp only[bF]at hv;subst hv;split at h
  ·rename_i n e i o hd
   split at h
   ·rename_i te hte
    split at h
    ·rename_i hk
     cases h;simp only[bF]at hu;obtain⟨a,ha,rfl⟩:=hu;refine⟨.pointer (some ⟨a.blk,a.base+o+k.toNat*te.size,none⟩),λw=> ?_,by simp only[bF];exact⟨a,ha,by rw[Nat.add_assoc]⟩⟩;obtain⟨d1,r1,_,m1⟩:=dH (P:=P) hT hti w;rw[jY (m1.trans hd)]at r1;simp[Instr.indexAt,asIntOf,r1,Instr.sureAddr,hk,run_sizeOf hT hte,dS]
    ·cases h
   ·cases h
  ·rename_i e i o n c hd
   split at h
   ·rename_i te hte
    split at h
    ·rename_i hk
     cases h;simp only[bF]at hu;obtain⟨a,ha,rfl⟩:=hu;refine⟨.pointer (some ⟨a.blk,a.base+o+k.toNat*te.size,none⟩),λw=> ?_,by simp only[bF];exact⟨a,ha,by rw[Nat.add_assoc]⟩⟩;obtain⟨d1,r1,_,m1⟩:=dH (P:=P) hT hti w;rw[dB (m1.trans hd)]at r1;simp[Instr.indexAt,asIntOf,r1,hk,run_sizeOf hT hte,dS]
    ·cases h
   ·cases h
  ·rename_i e i o n c hd
   split at h
   ·rename_i te hte
    split at h
    ·rename_i hk
     cases h;simp only[bF]at hu;obtain⟨a,c,ha,rfl,_⟩:=hu;refine⟨.pointer (some ⟨a.blk,a.base+o+k.toNat*te.size,none⟩),λw=> ?_,by simp only[bF];exact⟨a,ha,by rw[Nat.add_assoc]⟩⟩;obtain⟨d1,r1,_,m1⟩:=dH (P:=P) hT hti w;rw[dB (m1.trans hd)]at r1;simp[Instr.indexAt,asIntOf,r1,hk,run_sizeOf hT hte,dS]
    ·cases h
   ·cases h
  ·cases h
 ·cases h
def fieldN(tt:TT)(t:TypeId)(x:AV)(f:Nat):Option AV:=
 match tt t,xq x with
 |some ti,some cs=>match ti.desc with
  | .struct fs _=>match fs[f]? with
   |some (off,ft,_)=>BR tt ft cs off
   |none=>none
  |_=>none
 |_,_=>none
theorem xA{P:Program}{tt:TT}(hT:tt.ok P){ρ:Ren}{t:TypeId}{f:Nat}{x r:AV}{u:Value}(h:fieldN tt t x f=some r)(hu:bF ρ x u):NOk P (Instr.field t u f) ρ r:=by
 unfold fieldN at h;split at h
 ·rename_i ti cs hti hcs
  obtain⟨vs,rfl,hvs⟩:=jH hcs hu;split at h
  ·rename_i fs held hfs
   split at h
   ·rename_i off ft b hf
    obtain⟨q,hq,hr⟩:=uH (P:=P) hT h hvs;obtain⟨gs,jD,hg⟩: ∃gs:Array Field,P.underlying t=some (.struct gs)/\gs.toList.map (λf=>(f.offset,f.type,f.name != "_"))=fs:=by
     obtain⟨d1,_,jD,m1⟩:=dH (P:=P) hT hti default;obtain⟨gs,rfl,hg,_⟩:=pX (m1.trans hfs);exact⟨gs,jD,hg⟩
    rw[<-hg,List.getElem?_map]at hf;cases hgf:gs.toList[f]? with
    |none=>rw[hgf]at hf;cases hf
    |some g=>
     rw[hgf]at hf;simp only[Option.map_some,ak,Prod.mk.injEq]at hf;obtain⟨rfl,rfl,_⟩:=hf;refine⟨q,λw=> ?_,hr⟩;have hgf':gs[f]? =some g:=by simpa using hgf
     simp[Instr.field,underlying,jD,hgf',asAgg,hq]
   ·cases h
  ·cases h
 ·cases h
def H7(tt:TT)(t:TypeId)(x ix:AV):Option AV:=
 match tt t,ix with
 |some ti,.lit (.int _ k)=>match ti.desc,x with
  | .string,.lit (.string s)=>match (if 0<=k then s[k.toNat]? else none)with
   |some b=>some (.lit (.int .u8 b.toNat))
   |none=>none
  | .array n e,x=>match xq x,tt e with
   |some cs,some te=>if 0<=k/\k<(n:Int)then BR tt e cs (k.toNat*te.size)else none
   |_,_=>none
  |_,_=>none
 |_,_=>none
theorem xB{P:Program}{tt:TT}(hT:tt.ok P){ρ:Ren}{t:TypeId}{x ix r:AV}{u v:Value}(h:H7 tt t x ix=some r)(hu:bF ρ x u)(hv:bF ρ ix v):NOk P (Instr.index t u v) ρ r:=by
 unfold H7 at h;split at h
 ·rename_i ti kk k hti
  simp only[bF]at hv;subst hv;split at h
  ·rename_i s hd
   simp only[bF]at hu;subst hu;split at h
   ·rename_i b hb
    cases h;refine⟨.int .u8 b.toNat,λw=> ?_,by simp only[bF]⟩;obtain⟨d1,r1,_,m1⟩:=dH (P:=P) hT hti w;rw[fJ (m1.trans hd)]at r1;simp[Instr.index,asIntOf,r1,hb]
   ·cases h
  ·rename_i n e hd
   split at h
   ·rename_i cs te hcs hte
    obtain⟨vs,rfl,hvs⟩:=jH hcs hu;split at h
    ·rename_i hk
     obtain⟨q,hq,hr⟩:=uH (P:=P) hT h hvs;refine⟨q,λw=> ?_,hr⟩;obtain⟨d1,r1,_,m1⟩:=dH (P:=P) hT hti w;rw[jY (m1.trans hd)]at r1;simp[Instr.index,asIntOf,r1,hk,run_sizeOf hT hte,hq]
    ·cases h
   ·cases h
  ·cases h
 ·cases h
def JC(x:AV)(ix:Nat):Option AV:=
 match x with
 | .tup vs=>vs[ix]?
 |_=>none
theorem Uk{P:Program}{ρ:Ren}{x r:AV}{ix:Nat}{u:Value}(h:JC x ix=some r)(hu:bF ρ x u):NOk P (Instr.extract u ix) ρ r:=by
 unfold JC at h;split at h
 ·simp only[bF]at hu;obtain⟨vs,rfl,hl⟩:=hu
  obtain⟨q,hq,hr⟩:=hl.get _ _ h;refine⟨q,λw=> ?_,hr⟩;have:vs[ix]? =some q:=by simpa using hq
  simp[Instr.extract,this]
 ·cases h
def bnd(x:Option AV)(d lim:Nat):Option Nat:=
 match x with
 |none=>some d
 |some (.lit (.int _ k))=>if 0<=k/\k<=(lim:Int)then some k.toNat else none
 |some _=>none
def qc(ρ:Ren):Option AV->Option Value->Prop
 |none,v=>v=none
 |some a,v=> ∃u,v=some u/\bF ρ a u
theorem lM{P:Program}{ρ:Ren}{a:AV}{u:Value}{d lim k:Nat}{c:BoundsCode}(h:bnd (some a) d lim=some k)(hu:bF ρ a u)(w:World):
  (Instr.sliceBound u lim c).run P w= .ok k w:=by
 unfold bnd at h;split at h
 ·rename_i hn;cases hn
 ·rename_i kk i ha
  cases ha;simp only[bF]at hu;subst hu;split at h
  ·rename_i hk
   cases h;simp[Instr.sliceBound,asIntOf,hk]
  ·cases h
 ·cases h
def OO(n c:Nat)(lo hi mx:Option AV):Option (Nat×Nat×Nat):=
 match bnd mx c c with
 |some m=>match hi,mx with
  |none,some _=>none
  |_,_=>match bnd hi n m with
   |some h=>match bnd lo 0 h with
    |some l=>some (l,h,m)
    |none=>none
   |none=>none
 |none=>none
theorem vM{P:Program}{ρ:Ren}{b:Bool}{n c:Nat}{lo hi mx:Option AV}{vl vh vm:Option Value}{r:Nat×Nat×Nat}(h:OO n c lo hi mx=some r)
  (hl:qc ρ lo vl) (hh:qc ρ hi vh) (hm:qc ρ mx vm) (w:World):(Instr.sliceBounds b n c vl vh vm).run P w= .ok r w:=by
 unfold OO at h;split at h
 ·rename_i m hmx
  split at h
  ·cases h
  ·rename_i hne
   split at h
   ·rename_i hv hhv
    split at h
    ·rename_i l hl'
     cases h;unfold Instr.sliceBounds;cases mx with
     |none=>
      simp only[qc]at hm;subst hm;simp only[bnd,ak]at hmx;subst hmx;cases hi with
      |none=>
       simp only[qc]at hh;subst hh;simp only[bnd,ak]at hhv;subst hhv;cases lo with
       |none=>simp only[qc]at hl;subst hl;simp only[bnd,ak]at hl';subst hl';rfl
       |some x=>simp only[qc]at hl;obtain⟨u,rfl,hu⟩:=hl;simp[lM (P:=P) hl' hu]
      |some y=>
       simp only[qc]at hh;obtain⟨uy,rfl,huy⟩:=hh;cases lo with
       |none=>simp only[qc]at hl;subst hl;simp only[bnd,ak]at hl';subst hl';simp[lM (P:=P) hhv huy]
       |some x=>simp only[qc]at hl;obtain⟨u,rfl,hu⟩:=hl;simp[lM (P:=P) hl' hu,lM (P:=P) hhv huy]
     |some z=>
      simp only[qc]at hm;obtain⟨uz,rfl,huz⟩:=hm;cases hi with
      |none=>exact(hne _ rfl rfl).elim
      |some y=>
       simp only[qc]at hh;obtain⟨uy,rfl,huy⟩:=hh;cases lo with
       |none=>simp only[qc]at hl;subst hl;simp only[bnd,ak]at hl';subst hl';simp[lM (P:=P) hhv huy,lM (P:=P) hmx huz]
       |some x=>simp only[qc]at hl;obtain⟨u,rfl,hu⟩:=hl;simp[lM (P:=P) hl' hu,lM (P:=P) hhv huy,lM (P:=P) hmx huz]
    ·cases h
   ·cases h
 ·cases h
theorem ao7{x:Option AV}{d lim k:Nat}(h:bnd x d lim=some k):x=none/\k=d\/k<=lim:=by
 unfold bnd at h;split at h
 ·cases h;exact .inl ⟨rfl,rfl⟩
 ·split at h
  ·rename_i hk;cases h;exact .inr (by omega)
  ·cases h
 ·cases h
theorem aqi{n:Nat}{lo hi:Option AV}{l h m:Nat}(hb:OO n n lo hi none=some (l,h,m)):l<=h/\h<=n:=by
 unfold OO at hb;split at hb
 ·rename_i m' hm
  have hm':m'=n:=by simpa[bnd]using hm.symm
  subst hm';split at hb
  ·cases hb
  ·split at hb
   ·rename_i h' hh
    split at hb
    ·rename_i l' hl
     cases hb;have h1:=ao7 hh;have h2:=ao7 hl;omega
    ·cases hb
   ·cases hb
 ·cases hb
theorem ae9{x:Option AV}{d lim lim' k:Nat}(h:bnd x d lim=some k)(hl:lim<=lim'):bnd x d lim'=some k:=by
 unfold bnd at h ⊢;split at h
 ·exact h
 ·split at h
  ·rename_i hk;cases h;rw[if_pos (by omega)]
  ·cases h
 ·cases h
theorem OQ(n c:Nat)(lo hi:Option AV):OO n c lo hi none=match bnd hi n c with
  |some h=>(match bnd lo 0 h with|some l=>some (l,h,c)|none=>none)
  |none=>none:=by
 cases hi<;>rfl
theorem CU{n c:Nat}{lo hi:Option AV}{l h m:Nat}(hb:OO n n lo hi none=some (l,h,m))(hc:n<=c):OO n c lo hi none=some (l,h,c):=by
 rw[OQ]at hb ⊢;cases hh:bnd hi n n with
 |none=>rw[hh]at hb;cases hb
 |some h'=>
  rw[hh]at hb;rw[ae9 hh hc];cases hl:bnd lo 0 h' with
  |none=>simp only[hl]at hb;cases hb
  |some l'=>simp only[hl]at hb;cases hb;simp only[hl]
def oU(tt:TT)(t:TypeId)(x:AV)(lo hi mx:Option AV):Option AV:=
 match tt t with
 |some ti=>match ti.desc,x with
  | .string,.lit (.string s)=>match mx with
   |none=>match OO s.size s.size lo hi none with
    |some (l,h,_)=>some (.lit (.string (s.extract l h)))
    |none=>none
   |some _=>none
  | .slice e,.sl i o n c=>match tt e with
   |some te=>match OO n c lo hi mx with
    |some (l,h,m)=>some (.sl i (if m=l then o else o+l*te.size) (h-l) (m-l))
    |none=>none
   |none=>none
  | .slice e,.slU i o n sz=>match tt e,mx with
   |some te,none=>match OO n n lo hi none with
    |some (l,h,_)=>if (l<n\/l=0)/\sz=te.size then some (.slU i (o+l*te.size) (h-l) sz)else none
    |none=>none
   |_,_=>none
  | .slice e,.lit (.slice none n c)=>match tt e with
   |some _=>match OO n c lo hi mx with
    |some (l,h,m)=>some (.lit (.slice none (h-l) (m-l)))
    |none=>none
   |none=>none
  | .array n e,.ptr i o=>match tt e with
   |some te=>match OO n n lo hi mx with
    |some (l,h,m)=>some (.sl i (if m=l then o else o+l*te.size) (h-l) (m-l))
    |none=>none
   |none=>none
  |_,_=>none
 |none=>none
theorem mg{P:Program}{tt:TT}(hT:tt.ok P){ρ:Ren}{t:TypeId}{x r:AV}{u:Value}{lo hi mx:Option AV}{vl vh vm:Option Value}(h:oU tt t x lo hi mx=some r)
  (hu:bF ρ x u) (hl:qc ρ lo vl) (hh:qc ρ hi vh) (hm:qc ρ mx vm):NOk P (Instr.sliceAt t u vl vh vm) ρ r:=by
 unfold oU at h;split at h
 ·rename_i ti hti
  split at h
  ·rename_i s hd
   split at h
   ·split at h
    ·rename_i l hh' m hb
     cases h;simp only[bF]at hu;subst hu;simp only[qc]at hm;subst hm;refine⟨.string (s.extract l hh'),λw=> ?_,by simp only[bF]⟩;obtain⟨d1,r1,_,m1⟩:=dH (P:=P) hT hti w;rw[fJ (m1.trans hd)]at r1;have hb':=vM (P:=P) (b:=false) (vm:=none) hb hl hh (by simp[qc]) w;simp[Instr.sliceAt,Instr.slice,r1,hb']
    ·cases h
   ·cases h
  ·rename_i e i o n c hd
   split at h
   ·rename_i te hte
    split at h
    ·rename_i l hh' m hb
     cases h;simp only[bF]at hu;obtain⟨a,ha,rfl⟩:=hu;refine⟨.slice (if m=l then some ⟨a.blk,a.base+o,none⟩else some ⟨a.blk,a.base+o+l*te.size,none⟩) (hh'-l) (m-l),λw=> ?_,?_⟩
     ·obtain⟨d1,r1,_,m1⟩:=dH (P:=P) hT hti w
      rw[dB (m1.trans hd)]at r1;have hb':=vM (P:=P) (b:=true) hb hl hh hm w;simp[Instr.sliceAt,Instr.slice,r1,hb',run_sizeOf hT hte,dS]
     ·simp only[bF]
      refine⟨a,ha,?_⟩;split<;>simp[Nat.add_assoc]
    ·cases h
   ·cases h
  ·rename_i e i o n sz hd
   split at h
   ·rename_i te hte
    split at h
    ·rename_i l hh' m hb
     split at h
     ·rename_i hc
      obtain⟨hc,rfl⟩:=hc;cases h;simp only[bF]at hu;obtain⟨a,c,ha,rfl,hnc,hlim⟩:=hu;simp only[qc]at hm;subst hm;obtain⟨hb1,hb2⟩:=aqi hb;have hb': ∀w,(Instr.sliceBounds true n c vl vh none).run P w= .ok (l,hh',c) w:=λw=>vM (P:=P) (b:=true) (CU hb hnc) hl hh (by simp[qc]) w
      refine⟨.slice (if c=l then some ⟨a.blk,a.base+o,none⟩else some ⟨a.blk,a.base+o+l*te.size,none⟩) (hh'-l) (c-l),λw=> ?_,?_⟩
      ·obtain⟨d1,r1,_,m1⟩:=dH (P:=P) hT hti w
       rw[dB (m1.trans hd)]at r1;simp[Instr.sliceAt,Instr.slice,r1,hb',run_sizeOf hT hte,dS]
      ·simp only[bF]
       refine⟨a,c-l,ha,?_,by omega,?_⟩
       ·rcases hc with hc|hc
        ·rw[if_neg (by omega),Nat.add_assoc]
        ·subst hc;simp
       ·have:o+l*te.size+(c-l)*te.size=o+c*te.size:=by
         rw[Nat.add_assoc,<-Nat.add_mul];congr 2;omega
        omega
     ·cases h
    ·cases h
   ·cases h
  ·rename_i e n c hd
   split at h
   ·rename_i te hte
    split at h
    ·rename_i l hh' m hb
     cases h;simp only[bF]at hu;subst hu;refine⟨.slice none (hh'-l) (m-l),λw=> ?_,by simp only[bF]⟩;obtain⟨d1,r1,_,m1⟩:=dH (P:=P) hT hti w;rw[dB (m1.trans hd)]at r1;have hb':=vM (P:=P) (b:=true) hb hl hh hm w;simp[Instr.sliceAt,Instr.slice,r1,hb',run_sizeOf hT hte]
    ·cases h
   ·cases h
  ·rename_i n e i o hd
   split at h
   ·rename_i te hte
    split at h
    ·rename_i l hh' m hb
     cases h;simp only[bF]at hu;obtain⟨a,ha,rfl⟩:=hu;refine⟨.slice (if m=l then some ⟨a.blk,a.base+o,none⟩else some ⟨a.blk,a.base+o+l*te.size,none⟩) (hh'-l) (m-l),λw=> ?_,?_⟩
     ·obtain⟨d1,r1,_,m1⟩:=dH (P:=P) hT hti w
      rw[jY (m1.trans hd)]at r1;have hb':=vM (P:=P) (b:=false) hb hl hh hm w;simp only[Instr.sliceAt,r1,Sem.run_bind,Result.andThen_ok,Instr.sureAddr,Sem.run_pure,hb',run_sizeOf hT hte,dS];split<;>rfl
     ·simp only[bF]
      refine⟨a,ha,?_⟩;split<;>simp[Nat.add_assoc]
    ·cases h
   ·cases h
  ·cases h
 ·cases h
def lenN(tt:TT)(t:TypeId)(x:AV):Option AV:=
 match tt t with
 |some ti=>match ti.desc,x with
  | .string,.lit (.string s)=>some (.lit (.int .i64 s.size))
  | .slice _,.sl _ _ n _=>some (.lit (.int .i64 n))
  | .slice _,.slU _ _ n _=>some (.lit (.int .i64 n))
  | .slice _,.slE _ _ _ n _=>some (.lit (.int .i64 n))
  | .slice _,.slW _ _ _ n=>some (.lit (.int .i64 n))
  | .slice _,.slR _ _ _ n=>some (.lit (.int .i64 n))
  | .slice _,.slZ _ _ _ _ n=>some (.lit (.int .i64 n))
  | .slice _,.slV _ _ _ n=>some (.lit (.int .i64 n))
  | .slice _,.lit (.slice _ n _)=>some (.lit (.int .i64 n))
  | .array n _,_=>some (.lit (.int .i64 n))
  | .map _ _,.lit (.map none)=>some (.lit (.int .i64 0))
  | .ptr a,_=>match tt a with
   |some ta=>match ta.desc with
    | .array n _=>some (.lit (.int .i64 n))
    |_=>none
   |none=>none
  |_,_=>none
 |none=>none
theorem aqj{P:Program}{tt:TT}(hT:tt.ok P){ρ:Ren}{t ty:TypeId}{x r:AV}{u:Value}{ts:Array TypeId}{us:Array Value}(h:lenN tt t x=some r)(hu:bF ρ x u)
  (hts:ts[0]? =some t) (hus:us[0]? =some u):NOk P (Builtin.len_ ts ty us) ρ r:=by
 unfold lenN at h;split at h
 ·rename_i ti hti
  have hr: ∀w,∃d,(underlying t).run P w= .ok d w/\P.underlying t=some d/\wU P t d=ti.desc:=λw=>dH (P:=P) hT hti w
  split at h
  ·rename_i s hd
   cases h;simp only[bF]at hu;subst hu;refine⟨.int .i64 s.size,λw=> ?_,by simp only[bF]⟩;obtain⟨d1,r1,_,m1⟩:=hr w;rw[fJ (m1.trans hd)]at r1;simp[Builtin.len_,hts,hus,r1,goInt]
  ·rename_i e i o n c hd
   cases h;simp only[bF]at hu;obtain⟨a,_,rfl⟩:=hu;refine⟨.int .i64 n,λw=> ?_,by simp only[bF]⟩;obtain⟨d1,r1,_,m1⟩:=hr w;rw[dB (m1.trans hd)]at r1;simp[Builtin.len_,hts,hus,r1,goInt]
  ·rename_i e i o n c hd
   cases h;simp only[bF]at hu;obtain⟨a,_,_,rfl,_⟩:=hu;refine⟨.int .i64 n,λw=> ?_,by simp only[bF]⟩;obtain⟨d1,r1,_,m1⟩:=hr w;rw[dB (m1.trans hd)]at r1;simp[Builtin.len_,hts,hus,r1,goInt]
  ·rename_i e i k m n c hd
   cases h;simp only[bF]at hu;obtain⟨a,_,_,rfl,_⟩:=hu;refine⟨.int .i64 n,λw=> ?_,by simp only[bF]⟩;obtain⟨d1,r1,_,m1⟩:=hr w;rw[dB (m1.trans hd)]at r1;simp[Builtin.len_,hts,hus,r1,goInt]
  ·rename_i e i k m n hd
   cases h;simp only[bF]at hu;obtain⟨a,_,_,_,rfl,_⟩:=hu;refine⟨.int .i64 n,λw=> ?_,by simp only[bF]⟩;obtain⟨d1,r1,_,m1⟩:=hr w;rw[dB (m1.trans hd)]at r1;simp[Builtin.len_,hts,hus,r1,goInt]
  ·rename_i e i k m n hd
   cases h;simp only[bF]at hu;refine⟨.int .i64 n,λw=> ?_,by simp only[bF]⟩;obtain⟨d1,r1,_,m1⟩:=hr w;rw[dB (m1.trans hd)]at r1;rcases hu with ⟨rfl,rfl⟩|⟨a,_,_,_,rfl,_⟩<;>simp[Builtin.len_,hts,hus,r1,goInt]
  ·rename_i e z i k m n hd
   cases h;simp only[bF]at hu;refine⟨.int .i64 n,λw=> ?_,by simp only[bF]⟩;obtain⟨d1,r1,_,m1⟩:=hr w;rw[dB (m1.trans hd)]at r1;rcases hu with ⟨_,rfl,rfl⟩|⟨_,a,_,_,_,rfl,_⟩<;>simp[Builtin.len_,hts,hus,r1,goInt]
  ·rename_i e z i m n hd
   cases h;simp only[bF]at hu;refine⟨.int .i64 n,λw=> ?_,by simp only[bF]⟩;obtain⟨d1,r1,_,m1⟩:=hr w;rw[dB (m1.trans hd)]at r1;rcases hu with ⟨_,rfl,rfl⟩|⟨_,a,_,_,_,rfl,_⟩<;>simp[Builtin.len_,hts,hus,r1,goInt]
  ·rename_i e a n c hd
   cases h;simp only[bF]at hu;subst hu;refine⟨.int .i64 n,λw=> ?_,by simp only[bF]⟩;obtain⟨d1,r1,_,m1⟩:=hr w;rw[dB (m1.trans hd)]at r1;simp[Builtin.len_,hts,hus,r1,goInt]
  ·rename_i n e hd
   cases h;refine⟨.int .i64 n,λw=> ?_,by simp only[bF]⟩;obtain⟨d1,r1,_,m1⟩:=hr w;rw[jY (m1.trans hd)]at r1;simp[Builtin.len_,hts,hus,r1,goInt]
  ·rename_i k e hd
   cases h;simp only[bF]at hu;subst hu;refine⟨.int .i64 0,λw=> ?_,by simp only[bF]⟩;obtain⟨d1,r1,_,m1⟩:=hr w;rw[uG (m1.trans hd)]at r1;simp[Builtin.len_,hts,hus,r1,goInt]
  ·rename_i a hd
   split at h
   ·rename_i ta hta
    split at h
    ·rename_i n e hd2
     cases h;refine⟨.int .i64 n,λw=> ?_,by simp only[bF]⟩;obtain⟨d1,r1,_,m1⟩:=hr w;rw[uF (m1.trans hd)]at r1;obtain⟨d2,r2,_,m2⟩:=dH (P:=P) hT hta w;rw[jY (m2.trans hd2)]at r2;simp[Builtin.len_,hts,hus,r1,r2,goInt]
    ·cases h
   ·cases h
  ·cases h
 ·cases h
def iI(tt:TT)(t:TypeId)(x:AV):Option AV:=
 match tt t with
 |some ti=>match ti.desc,x with
  | .slice _,.sl _ _ _ c=>some (.lit (.int .i64 c))
  | .slice _,.slE _ _ _ _ c=>some (.lit (.int .i64 c))
  | .slice _,.lit (.slice _ _ c)=>some (.lit (.int .i64 c))
  |_,_=>none
 |none=>none
theorem aqk{P:Program}{tt:TT}(hT:tt.ok P){ρ:Ren}{t ty:TypeId}{x r:AV}{u:Value}{ts:Array TypeId}{us:Array Value}(h:iI tt t x=some r)(hu:bF ρ x u)
  (hts:ts[0]? =some t) (hus:us[0]? =some u):NOk P (Builtin.cap_ ts ty us) ρ r:=by
 unfold iI at h;split at h
 ·rename_i ti hti
  split at h
  ·rename_i e i o n c hd
   cases h;simp only[bF]at hu;obtain⟨a,_,rfl⟩:=hu;refine⟨.int .i64 c,λw=> ?_,by simp only[bF]⟩;obtain⟨d1,r1,_,m1⟩:=dH (P:=P) hT hti w;rw[dB (m1.trans hd)]at r1;simp[Builtin.cap_,hts,hus,r1,goInt]
  ·rename_i e i k m n c hd
   cases h;simp only[bF]at hu;obtain⟨a,_,_,rfl,_⟩:=hu;refine⟨.int .i64 c,λw=> ?_,by simp only[bF]⟩;obtain⟨d1,r1,_,m1⟩:=dH (P:=P) hT hti w;rw[dB (m1.trans hd)]at r1;simp[Builtin.cap_,hts,hus,r1,goInt]
  ·rename_i e a n c hd
   cases h;simp only[bF]at hu;subst hu;refine⟨.int .i64 c,λw=> ?_,by simp only[bF]⟩;obtain⟨d1,r1,_,m1⟩:=dH (P:=P) hT hti w;rw[dB (m1.trans hd)]at r1;simp[Builtin.cap_,hts,hus,r1,goInt]
  ·cases h
 ·cases h
def foldI(f:Int->Int->Int):AV->List AV->Option AV
 | .lit (.int k a),[]=>some (.lit (.int k a))
 | .lit (.int k a),.lit (.int _ b)::r=>foldI f (.lit (.int k (f a b))) r
 |_,_=>none
theorem JD{P:Program}{ρ:Ren}{f:Int->Int->Int}{g:Value->Value->Sem Value}(hg: ∀k a k' b w,(g (.int k a) (.int k' b)).run P w= .ok (.int k (f a b)) w):
  ∀(l:List AV) (us:List Value) (x r:AV) (u:Value),foldI f x l=some r->bF ρ x u->dQ ρ l us->NOk P (us.foldlM g u) ρ r
 |[],us,x,r,u,h,hu,hl=>by
  simp only[dQ]at hl;subst hl;unfold foldI at h;split at h
  ·cases h;simp only[bF]at hu;subst hu;exact⟨_,λw=>by simp;rfl,by simp only[bF]⟩
  ·rename_i he;cases he
  ·cases h
 |y::l,us,x,r,u,h,hu,hl=>by
  simp only[dQ]at hl;obtain⟨v,us',rfl,hv,hl⟩:=hl;unfold foldI at h;split at h
  ·rename_i he;cases he
  ·rename_i k a k' b r' he
   cases he;simp only[bF]at hu hv;subst hu;subst hv;obtain⟨q,hq,hr⟩:=JD (P:=P) hg l us' _ r (.int k (f a b)) h (by simp only[bF]) hl;exact⟨q,λw=>by simp[hg,hq],hr⟩
  ·cases h
def Dx(a b:Int):Int:=if b<a then b else a
def imax(a b:Int):Int:=if b>a then b else a
def minN(l:List AV):Option AV:=match l with
 |[]=>none
 |x::r=>foldI Dx x r
def maxN(l:List AV):Option AV:=match l with
 |[]=>none
 |x::r=>foldI imax x r
theorem aql{P:Program}{ρ:Ren}{l:List AV}{us:Array Value}{r:AV}{ts:Array TypeId}{ty:TypeId}(h:minN l=some r)(hl:dQ ρ l us.toList):NOk P (Builtin.min_ ts ty us) ρ r:=by
 cases l with
 |nil=>cases h
 |cons x l=>
  simp only[dQ]at hl;obtain⟨v,us',he,hv,hl⟩:=hl;obtain⟨q,hq,hr⟩:=JD (P:=P) (g:=Builtin.min2) (λk a k' b w=>by simp[Builtin.min2,Dx]) l us' x r v h hv hl;exact⟨q,λw=>by simp only[Builtin.min_,he];exact hq w,hr⟩
theorem aqm{P:Program}{ρ:Ren}{l:List AV}{us:Array Value}{r:AV}{ts:Array TypeId}{ty:TypeId}(h:maxN l=some r)(hl:dQ ρ l us.toList):NOk P (Builtin.max_ ts ty us) ρ r:=by
 cases l with
 |nil=>cases h
 |cons x l=>
  simp only[dQ]at hl;obtain⟨v,us',he,hv,hl⟩:=hl;obtain⟨q,hq,hr⟩:=JD (P:=P) (g:=Builtin.max2) (λk a k' b w=>by simp[Builtin.max2,imax]) l us' x r v h hv hl;exact⟨q,λw=>by simp only[Builtin.max_,he];exact hq w,hr⟩
theorem Ul{P:Program}{ρ:Ren}{f:Fn}{as bs:List AV}{us vs:Array Value}(ha:dQ ρ as us.toList)(hb:dQ ρ bs vs.toList):NOk P (Instr.makeFunc f us vs) ρ (.fn f as bs):=
 ⟨.func f us vs,λw=>by simp[Instr.makeFunc],by simp only[bF];exact⟨us,vs,rfl,ha,hb⟩⟩
def splice(off:Nat)(cs l:List AV):List AV:=l.take off++cs++l.drop (off+cs.length)
def Um(place:Nat->Option (Nat×Nat))(cells:List AV):List (Nat×AV)->Option (List AV)
 |[]=>some cells
 |(i,v)::rest=>match place i,iO v with
  |some (off,size),some cs=>bif Nat.beq cs.length size&&Nat.ble (off+size) cells.length then Um place (splice off cs cells) rest else none
  |_,_=>none
def aqn(ρ:Ren):List (Nat×AV)->List (Nat×Value)->Prop
 |[],us=>us=[]
 |(i,a)::l,us=> ∃u us',us=(i,u)::us'/\bF ρ a u/\aqn ρ l us'
theorem GH(cs:List Value): ∀(off k:Nat) (arr:Array Value),((cs.zipIdx k).foldl (λa (x:Value×Nat)=>a.setIfInBounds (off+x.2) x.1) arr).size=arr.size:=by
 induction cs with
 |nil=>intro off k arr;simp
 |cons c cs ih=>intro off k arr;simp only[List.zipIdx_cons,List.foldl_cons];rw[ih];simp
theorem JE(cs:List Value): ∀(off k:Nat) (arr:Array Value) (j:Nat),off+k+cs.length<=arr.size->
  ((cs.zipIdx k).foldl (λa (x:Value×Nat)=>a.setIfInBounds (off+x.2) x.1) arr)[j]? =if off+k<=j/\j<off+k+cs.length then cs[j-(off+k)]? else arr[j]? :=by
 induction cs with
 |nil=>intro off k arr j h;simp;intro h1 h2;omega
 |cons c cs ih=>
  intro off k arr j h;simp only[List.zipIdx_cons,List.foldl_cons,List.length_cons]at h ⊢;rw[ih off (k+1) _ j (by simp;omega)];by_cases h1:off+k=j
  ·rw[if_neg (by omega),if_pos (by omega)]
   subst h1;have:off+k<arr.size:=by omega
   simp[this]
  ·rw[Array.getElem?_setIfInBounds_ne h1]
   by_cases h2:off+k<=j/\j<off+k+(cs.length+1)
   ·rw[if_pos h2,if_pos (by omega)]
    have:j-(off+k)=(j-(off+(k+1)))+1:=by omega
    rw[this];simp
   ·rw[if_neg h2,if_neg (by omega)]
theorem abO{ρ:Ren}{off:Nat}{cs l:List AV}{us:List Value}{arr:Array Value}(hl:dQ ρ l arr.toList)(hc:dQ ρ cs us)(hb:off+cs.length<=l.length):
  dQ ρ (splice off cs l) ((us.zipIdx.foldl (λa (x:Value×Nat)=>a.setIfInBounds (off+x.2) x.1) arr).toList):=by
 have hlen:=hl.length;have hcl:=hc.length;have hsz:off+0+us.length<=arr.size:=by rw[<-hcl,<-Array.length_toList,<-hlen];omega
 refine dQ.Zi ?_ λk a ha=> ?_
 ·refine Eq.trans ?_ (Array.length_toList.trans (GH us off 0 arr)).symm
  simp only[splice,List.length_append,List.length_take,List.length_drop];rw[<-Array.length_toList,<-hlen];omega
 ·simp only[Array.getElem?_toList]
  rw[JE us off 0 arr k hsz];simp only[splice,List.getElem?_append,List.length_append,List.length_take]at ha;rw[Nat.min_eq_left (by omega)]at ha;by_cases h1:off<=k/\k<off+us.length
  ·rw[if_pos (by omega)]
   rw[if_pos (by omega),if_neg (by omega)]at ha;simpa using hc.get _ _ ha
  ·rw[if_neg (by omega)]
   have:l[k]? =some a:=by
    by_cases h2:k<off
    ·rw[if_pos (by omega),if_pos h2,List.getElem?_take,if_pos h2]at ha;exact ha
    ·rw[if_neg (by omega),List.getElem?_drop]at ha
     have e:off+cs.length+(k-(off+cs.length))=k:=by omega
     rw[e]at ha;exact ha
   simpa using hl.get _ _ this
theorem CV{ρ:Ren}{place:Nat->Option (Nat×Nat)}: ∀(ps:List (Nat×AV)) (us:List (Nat×Value)) (l r:List AV) (arr:Array Value),Um place l ps=some r->aqn ρ ps us->dQ ρ l arr.toList->
  ∃arr',Instr.fill place arr us=some arr'/\dQ ρ r arr'.toList
 |[],us,l,r,arr,h,hp,hl=>by
  simp only[aqn]at hp;subst hp;simp only[Um,ak]at h;subst h;exact⟨arr,rfl,hl⟩
 |(i,v)::ps,us,l,r,arr,h,hp,hl=>by
  simp only[aqn]at hp;obtain⟨u,us',rfl,hv,hp⟩:=hp;simp only[Um]at h;split at h
  ·rename_i off size cs hpl hcs
   cases hb:(Nat.beq cs.length size&&Nat.ble (off+size) l.length)with
   |false=>rw[hb]at h;simp at h
   |true=>
    rw[hb]at h;simp only[aP]at h;simp only[aJ,Nat.ble_eq]at hb;have h1:cs.length=size:=au hb.1;have hcr:=lY hcs hv;have hcl:u.cells.size=size:=by rw[<-Array.length_toList,<-hcr.length,h1]
    have hsz:arr.size=l.length:=by rw[<-Array.length_toList,<-hl.length]
    obtain⟨arr',ha,hr⟩:=CV ps us' _ r (u.cells.zipIdx.foldl (λcs (c,j)=>cs.setIfInBounds (off+j) c) arr) h hp (by
     have:=abO (off:=off) hl hcr (by omega);rw[<-Array.foldl_toList,Array.toList_zipIdx]
     exact this)
    refine⟨arr',?_,hr⟩;have hn:(u.cells.size≠size||decide (off+u.cells.size>arr.size))=false:=by
     simp[hcl];omega
    have hn': ¬(u.cells.size≠size||decide (off+u.cells.size>arr.size))=true:=by rw[hn];simp
    simp only[Instr.fill,hpl];rw[if_neg (by simpa using hn')];exact ha
  ·cases h
def afa(tt:TT)(fs:List (Nat×TypeId×Bool))(i:Nat):Option (Nat×Nat):=
 match fs[i]? with
 |some (o,ft,_)=>match tt ft with
  |some tf=>some (o,tf.size)
  |none=>none
 |none=>none
def afb(tt:TT)(t:TypeId)(ps:List (Nat×AV)):Option AV:=
 match tt t with
 |some ti=>match ti.desc with
  | .struct fs _=>match Um (afa tt fs) (Zl ti.zero) ps with
   |some l=>bif fs.all (λf=>(tt f.2.1).isSome)then some (.agg l)else none
   |none=>none
  | .array _ e=>match tt e with
   |some te=>match Um (λi=>some (i*te.size,te.size)) (Zl ti.zero) ps with
    |some l=>some (.agg l)
    |none=>none
   |none=>none
  |_=>none
 |none=>none
theorem qQ{P:Program}{tt:TT}(hT:tt.ok P): ∀(gs:List Field),(∀g∈gs,(tt g.type).isSome=true)-> ∀w,
  (gs.mapM (λf=>do pure (f.offset,<-sizeOf f.type)):Sem (List (Nat×Nat))).run P w= .ok (gs.map λg=>(g.offset,((tt g.type).map TI.size).getD 0)) w
 |[],_,w=>by simp
 |g::gs,h,w=>by
  have hg:=h g (by simp);cases htg:tt g.type with
  |none=>rw[htg]at hg;cases hg
  |some tg=>
   have ih:=qQ (P:=P) hT gs (λx hx=>h x (by simp[hx]));simp only[List.mapM_cons,Sem.run_bind,run_sizeOf hT htg,Result.andThen_ok,Sem.run_pure,ih,List.map_cons,htg,Option.map_some,Option.getD_some]
theorem afc{P:Program}{tt:TT}(hT:tt.ok P){ρ:Ren}{t:TypeId}{ps:List (Nat×AV)}{us:Array (Nat×Value)}{r:AV}(h:afb tt t ps=some r)(hp:aqn ρ ps us.toList):
  NOk P (Instr.build t us) ρ r:=by
 unfold afb at h;split at h
 ·rename_i ti hti
  obtain⟨_,_,z,hi,_,_,_,hz,hzc,_⟩:=hT.info hti;have hzr: ∀w,(zeroValue t).run P w= .ok z w:=λw=>by simp[zeroValue,typeInfo,hi,hz]
  have hzl:dQ ρ (Zl ti.zero) z.cells.toList:=by rw[hzc];exact dQ.lits _
  split at h
  ·rename_i fs held hfs
   split at h
   ·rename_i l hf
    cases ha:fs.all (λf=>(tt f.2.1).isSome)with
    |false=>rw[ha]at h;simp at h
    |true=>
     rw[ha]at h;simp only[aP,ak]at h;subst h;obtain⟨gs,jD,hg⟩: ∃gs:Array Field,P.underlying t=some (.struct gs)/\gs.toList.map (λf=>(f.offset,f.type,f.name != "_"))=fs:=by
      obtain⟨d1,_,jD,m1⟩:=dH (P:=P) hT hti default;obtain⟨gs,rfl,hg,_⟩:=pX (m1.trans hfs);exact⟨gs,jD,hg⟩
     have hall: ∀g∈gs.toList,(tt g.type).isSome=true:=by
      rw[<-hg,List.all_map,List.all_eq_true]at ha;exactλg hgm=>ha g hgm
     obtain⟨arr',abP,hr⟩:=CV ps us.toList _ l z.cells hf hp hzl;refine⟨.agg arr',λw=> ?_,by simp only[bF];exact⟨arr',rfl,hr⟩⟩;have hm:=qQ (P:=P) hT gs.toList hall w;have hm':(gs.mapM (λf=>do pure (f.offset,<-sizeOf f.type)):Sem (Array (Nat×Nat))).run P w= .ok (gs.toList.map λg=>(g.offset,((tt g.type).map TI.size).getD 0)).toArray w:=by
      rw[Array.mapM_eq_mapM_toList,Sem.run_map,hm];rfl
     have hpl:(λi=>((gs.toList.map λg=>(g.offset,((tt g.type).map TI.size).getD 0)).toArray)[i]?)=afa tt fs:=by
      funext i;unfold afa;rw[<-hg,List.getElem?_map];simp only[List.getElem?_toArray,List.getElem?_map];cases hgi:gs.toList[i]? with
      |none=>rfl
      |some g=>
       have:=hall g (List.mem_of_getElem? hgi);cases htg:tt g.type with
       |none=>rw[htg]at this;cases this
       |some tg=>simp[htg]
     simp only[Instr.build,Sem.run_bind,hzr,Result.andThen_ok,underlying,run_program,jD,Sem.run_pure,hm',hpl,abP]
   ·cases h
  ·rename_i n e hd
   split at h
   ·rename_i te hte
    split at h
    ·rename_i l hf
     cases h;obtain⟨arr',abP,hr⟩:=CV ps us.toList _ l z.cells hf hp hzl;refine⟨.agg arr',λw=> ?_,by simp only[bF];exact⟨arr',rfl,hr⟩⟩;obtain⟨d1,r1,_,m1⟩:=dH (P:=P) hT hti w;rw[jY (m1.trans hd)]at r1;simp only[Instr.build,Sem.run_bind,hzr,Result.andThen_ok,r1,run_sizeOf hT hte,abP,Sem.run_pure]
    ·cases h
   ·cases h
  ·cases h
 ·cases h
def nN:List AV->Option (List Value)
 |[]=>some []
 | .lit v::r=>match nN r with
  |some l=>some (v::l)
  |none=>none
 |_::_=>none
theorem fM: ∀{l:List AV} {m:List Value},nN l=some m->l=m.map .lit
 |[],m,h=>by simp[nN]at h;simp[<-h]
 |a::r,m,h=>by
  cases a with
  |lit v=>
   simp only[nN]at h;split at h
   ·rename_i l hl;cases h;simp[fM hl]
   ·cases h
  |_=>simp[nN]at h
namespace Cs
def sub(c:Cs)(o m:Nat):Option Cs:=match c with
 | .av l=>bif Nat.ble (o+m) l.length then some (.av ((l.drop o).take m))else none
 | .raw l=>bif Nat.ble (o+m) l.length then some (.raw ((l.drop o).take m))else none
 | .tr n z t=>bif Nat.ble (o+m) n&& !Nat.beq z.length 0 then some (.av ((List.range m).map λk=>((Cs.tr n z t).get (o+k)).getD .any))else none
 | .row .. =>none
 | .cat .. =>none
def app(c d:Cs):Option Cs:=match c,d with
 | .av l,.av m=>some (.av (l++m))
 | .raw l,.raw m=>some (.raw (l++m))
 | .raw l,.av m=>match nN m with
  |some m=>some (.raw (l++m))
  |none=>match l with
   |[]=>some (.av m)
   |_=>none
 | .av l,.raw m=>match l with
  |[]=>some (.raw m)
  |l=>some (.av (l++m.map .lit))
 |_,_=>none
def jO(off:Nat)(cs l:List Value):List Value:=l.take off++cs++l.drop (off+cs.length)
def putAt:List AV->Nat->PM AV->PM AV
 |[],_,t=>t
 |v::r,k,t=>putAt r (k+1) (t.set k (some v))
def put(c:Cs)(o:Nat)(d:Cs):Option Cs:=bif Nat.ble (o+d.size) c.size then(match c,d with
 | .av l,.av m=>some (.av (splice o m l))
 | .av l,.raw m=>some (.av (splice o (m.map .lit) l))
 | .raw l,.raw m=>some (.raw (jO o m l))
 | .raw l,.av m=>match nN m with
  |some m=>some (.raw (jO o m l))
  |none=>none
 | .tr n z t,.av m=>some (.tr n z (putAt m o t))
 | .tr n z t,.raw m=>some (.tr n z (putAt (m.map .lit) o t))
 |_,_=>none)else none
def Seg(c:Cs)(o m:Nat)(d:Cs):Prop:=d.size=m/\ ∀k,k<m->d.get k=c.get (o+k)/\ ∃v,c.get (o+k)=some v
theorem Dy{α:Type}(l:List α)(o m k:Nat):((l.drop o).take m)[k]? =if k<m then l[o+k]? else none:=by
 rw[List.getElem?_take,List.getElem?_drop]
theorem nO{c d:Cs}{o m:Nat}(h:c.sub o m=some d):o+m<=c.size/\Seg c o m d:=by
 cases c with
 |av l=>
  simp only[sub]at h;cases hb:Nat.ble (o+m) l.length with
  |false=>rw[hb]at h;simp at h
  |true=>
   rw[hb]at h;simp at h;subst h;have hb':o+m<=l.length:=by simpa using hb
   refine⟨hb',by simp[size];omega,λk hk=> ?_⟩;have hlt:o+k<l.length:=by omega
   simp only[get,Dy,if_pos hk];exact⟨trivial,l[o+k],List.getElem?_eq_getElem hlt⟩
 |raw l=>
  simp only[sub]at h;cases hb:Nat.ble (o+m) l.length with
  |false=>rw[hb]at h;simp at h
  |true=>
   rw[hb]at h;simp at h;subst h;have hb':o+m<=l.length:=by simpa using hb
   refine⟨hb',by simp[size];omega,λk hk=> ?_⟩;have hlt:o+k<l.length:=by omega
   simp only[get,Dy,if_pos hk];exact⟨trivial,.lit l[o+k],by rw[List.getElem?_eq_getElem hlt]⟩
 |tr n z t=>
  simp only[sub]at h;cases hb:(Nat.ble (o+m) n&& !Nat.beq z.length 0)with
  |false=>rw[hb]at h;simp at h
  |true=>
   rw[hb]at h;simp only[aP,ak]at h;subst h;simp only[aJ,Nat.ble_eq,Bool.not_eq_true']at hb;have hz:z.length≠0:=λh0=>by rw[h0]at hb;cases hb.2
   refine⟨hb.1,by simp[size],λk hk=> ?_⟩;have hlt:Nat.blt (o+k) n=true:=bg.2 (by omega);have hex: ∃v,(Cs.tr n z t).get (o+k)=some v:=by
    simp only[get,hlt,aP];cases t.get (o+k)with
    |some v=>exact⟨v,rfl⟩
    |none=>
     have:(o+k)%z.length<z.length:=Nat.mod_lt _ (by omega);exact⟨z[(o+k)%z.length],by simp[this]⟩
   refine⟨?_,hex⟩;obtain⟨v,hv⟩:=hex;show(List.map _ (List.range m))[k]? =_;simp[hk,hv]
 |row m' n g wr=>simp[sub]at h
 |cat a b=>simp[sub]at h
theorem CW{c d e:Cs}(h:c.app d=some e):e.size=c.size+d.size/\(∀k,k<c.size->e.get k=c.get k)/\ ∀k,e.get (c.size+k)=d.get k:=by
 have key1: ∀(l m:List AV) (k:Nat),k<l.length->(l++m)[k]? =l[k]? :=λl m k hk=>by rw[List.getElem?_append_left hk]
 have key2: ∀(l m:List AV) (k:Nat),(l++m)[l.length+k]? =m[k]? :=λl m k=>by rw[List.getElem?_append_right (by omega)];simp
 have lu: ∀(l:List Value) (k:Nat),(Cs.raw l).get k=(l.map AV.lit)[k]? :=λl k=>by
  simp only[get,List.getElem?_map];cases l[k]? <;>rfl
 cases c with
 |av l=>
  cases d with
  |av m=>simp only[app,ak]at h;subst h;exact⟨by simp[size],λk hk=>key1 l m k hk,λk=>key2 l m k⟩
  |raw m=>
   cases l with
   |nil=>
    simp only[app,ak]at h;subst h;exact⟨by simp[size],λk hk=>by simp[size]at hk,λk=>by simp[size]⟩
   |cons a l=>
    simp only[app,ak]at h;subst h;refine⟨by simp[size];omega,λk hk=>key1 _ _ k hk,λk=> ?_⟩;rw[lu];exact key2 _ _ k
  |tr n z t=>simp[app]at h
  |row m' n g wr=>simp[app]at h
  |cat a b=>simp[app]at h
 |raw l=>
  cases d with
  |av m=>
   simp only[app]at h;split at h
   ·rename_i m' hm
    cases h;have:=fM hm;subst this;refine⟨by simp[size],λk hk=> ?_,λk=> ?_⟩
    ·rw[lu,lu,List.map_append];exact key1 _ _ k (by simpa[size]using hk)
    ·rw[lu,List.map_append]
     have:=key2 (l.map AV.lit) (m'.map AV.lit) k;simpa[size,get]using this
   ·split at h
    ·cases h;exact⟨by simp[size],λk hk=>by simp[size]at hk,λk=>by simp[size]⟩
    ·cases h
  |raw m=>
   simp only[app,ak]at h;subst h;refine⟨by simp[size],λk hk=> ?_,λk=> ?_⟩
   ·rw[lu,lu,List.map_append];exact key1 _ _ k (by simpa[size]using hk)
   ·rw[lu,lu,List.map_append]
    have:=key2 (l.map AV.lit) (m.map AV.lit) k;simpa[size]using this
  |tr n z t=>simp[app]at h
  |row m' n g wr=>simp[app]at h
  |cat a b=>simp[app]at h
 |tr n z t=>simp[app]at h
 |row m' n g wr=>simp[app]at h
 |cat a b=>simp[app]at h
theorem xC: ∀(m:List AV) (o:Nat) (t:PM AV) (k:Nat),(putAt m o t).get k=if o<=k/\k<o+m.length then m[k-o]? else t.get k
 |[],o,t,k=>by simp[putAt];intro h1 h2;omega
 |v::r,o,t,k=>by
  simp only[putAt];rw[xC r (o+1) _ k,PM.dR];simp only[List.length_cons];by_cases h1:o=k
  ·subst h1;rw[if_neg (by omega),if_pos rfl,if_pos (by omega)];simp
  ·by_cases h2:o<=k/\k<o+(r.length+1)
   ·rw[if_pos (by omega),if_pos h2]
    have:k-o=(k-(o+1))+1:=by omega
    rw[this];simp
   ·rw[if_neg (by omega),if_neg (Ne.symm h1),if_neg h2]
theorem oV{α:Type}(o:Nat)(m l:List α)(h:o+m.length<=l.length)(k:Nat):
  (l.take o++m++l.drop (o+m.length))[k]? =if o<=k/\k<o+m.length then m[k-o]? else l[k]? :=by
 simp only[List.getElem?_append,List.length_append,List.length_take];rw[Nat.min_eq_left (by omega)];by_cases h1:k<o
 ·rw[if_pos (by omega),if_pos h1,if_neg (by omega),List.getElem?_take,if_pos h1]
 ·by_cases h2:k<o+m.length
  ·rw[if_pos h2,if_neg h1,if_pos (by omega)]
  ·rw[if_neg h2,if_neg (by omega),List.getElem?_drop]
   congr 1;omega
theorem CX{c d e:Cs}{o:Nat}(h:c.put o d=some e):o+d.size<=c.size/\e.size=c.size/\ ∀k,e.get k=if o<=k/\k<o+d.size then d.get (k-o)else c.get k:=by
 have lu: ∀(l:List Value) (k:Nat),(Cs.raw l).get k=(l.map AV.lit)[k]? :=λl k=>by
  simp only[get,List.getElem?_map];cases l[k]? <;>rfl
 unfold put at h;cases hb:Nat.ble (o+d.size) c.size with
 |false=>rw[hb]at h;simp at h
 |true=>
  rw[hb]at h;simp only[aP]at h;have hb':o+d.size<=c.size:=by simpa using hb
  refine⟨hb',?_⟩;split at h
  ·rename_i l m
   cases h;simp only[size]at hb' ⊢;exact⟨by simp[splice];omega,λk=>oV o m l hb' k⟩
  ·rename_i l m
   cases h;simp only[size]at hb' ⊢;refine⟨by simp[splice];omega,λk=> ?_⟩;have:=oV o (m.map AV.lit) l (by simpa using hb') k;rw[lu];simpa[splice,get]using this
  ·rename_i l m
   cases h;simp only[size]at hb' ⊢;refine⟨by simp[jO];omega,λk=> ?_⟩;rw[lu,lu,lu];have:=oV o (m.map AV.lit) (l.map AV.lit) (by simpa using hb') k;simpa[jO,List.map_append,List.map_take,List.map_drop]using this
  ·rename_i l m
   split at h
   ·rename_i m' hm
    cases h;have:=fM hm;subst this;simp only[size,List.length_map]at hb' ⊢;refine⟨by simp[jO];omega,λk=> ?_⟩;rw[lu,lu];have:=oV o (m'.map AV.lit) (l.map AV.lit) (by simpa using hb') k;simpa[get,jO,List.map_append,List.map_take,List.map_drop]using this
   ·cases h
  ·rename_i n z t m
   cases h;simp only[size]at hb' ⊢;refine⟨trivial,λk=> ?_⟩;simp only[get,xC];by_cases h1:o<=k/\k<o+m.length
   ·have:Nat.blt k n=true:=bg.2 (by omega)
    have h3:k-o<m.length:=by omega
    simp only[if_pos h1,this,aP];simp[h3]
   ·simp only[if_neg h1];exact(if_neg h1).symm
  ·rename_i n z t m
   cases h;simp only[size]at hb' ⊢;refine⟨trivial,λk=> ?_⟩;rw[lu];simp only[get,xC,List.length_map];by_cases h1:o<=k/\k<o+m.length
   ·have:Nat.blt k n=true:=bg.2 (by omega)
    have h3:k-o<m.length:=by omega
    simp only[if_pos h1,this,aP];simp[h3]
   ·simp only[if_neg h1];exact(if_neg h1).symm
  ·cases h
end Cs
theorem Un{h:Heap}{i:Nat}: ∀(m o:Nat),(∀k,k<m-> ∃v,cellAt h i (o+k)=some v)-> ∃l,Zk h i o m=some l/\l.length=m/\ ∀k,k<m->l[k]? =cellAt h i (o+k)
 |0,o,_=>⟨[],rfl,rfl,λk hk=>by omega⟩
 |m+1,o,hc=>by
  obtain⟨v,hv⟩:=hc 0 (by omega);obtain⟨l,hl,hlen,hget⟩:=Un m (o+1) (λk hk=>by obtain⟨x,hx⟩:=hc (k+1) (by omega);exact⟨x,by rw[<-hx];congr 1;omega⟩);refine⟨v::l,by simp[Zk]at hv ⊢;simp[hv,hl],by simp[hlen],λk hk=> ?_⟩;cases k with
  |zero=>simpa using hv.symm
  |succ k=>simp only[List.getElem?_cons_succ];rw[hget k (by omega)];congr 1;omega
def BU(h:Heap)(x:AV)(n size:Nat):Option Cs:=
 match x with
 | .sl i o _ _=>match h.get i with
  |some ob=>match ob.eP with
   |some c=>c.sub o (n*size)
   |none=>none
  |none=>none
 | .slU i o _ _=>match h.get i with
  |some ob=>match ob.eP with
   |some c=>c.sub o (n*size)
   |none=>none
  |none=>none
 | .lit (.slice none _ _)=>some (.av [])
 | .lit (.string s)=>bif Nat.beq size 1 then some (.raw ((s.extract 0 n).data.toList.map λb=> .int .u8 b.toNat))else none
 |_=>none
theorem xE{P:Program}{h:Heap}{ρ:Ren}{T:Nat->Prop}{w:World}(hR:Rel h ρ T w){i o m:Nat}{ob:dF}{c d:Cs}{a:Loc}(hi:h.get i=some ob)(hc:ob.eP=some c)
  (hs:c.sub o m=some d) (ha:ρ i=some a): ∃vs:Array Value,(loadCells ⟨a.blk,a.base+o,none⟩ m).run P w= .ok vs w/\vs.size=d.size/\fF ρ d vs 0:=by
 obtain⟨hle,hsz,hseg⟩:=Cs.nO hs;have hcell: ∀k,cellAt h i k=c.get k:=λk=>by simp[cellAt,hi,hc]
 obtain⟨l,hl,hlen,hget⟩:=Un (h:=h) (i:=i) m o (λk hk=>by rw[hcell];exact(hseg k hk).2);obtain⟨vs,hvs,hlr⟩:=run_loadCellsFrom (P:=P) hR ha o m 0 #[] l (by simpa using hl);refine⟨vs.toArray,by simpa[loadCells]using hvs,by simp[<-hlr.length,hlen,hsz],λk v hk=> ?_⟩;have hkm:k<m:=by rw[<-hsz];exact Cs.dW hk
 have:l[k]? =some v:=by rw[hget k hkm,hcell,<-(hseg k hkm).1,hk]
 obtain⟨u,hu,hr⟩:=hlr.get k v this;exact⟨u,by simpa using hu,hr⟩
theorem iJ{P:Program}{h:Heap}{ρ:Ren}{T:Nat->Prop}{w:World}(hR:Rel h ρ T w){x:AV}{u:Value}{n size:Nat}{d:Cs}(hs:BU h x n size=some d)(hu:bF ρ x u):
  ∃vs:Array Value,(Builtin.firstCells size n u).run P w= .ok vs w/\vs.size=d.size/\fF ρ d vs 0:=by
 unfold BU at hs;split at hs
 ·split at hs
  ·rename_i ob hi
   split at hs
   ·rename_i c hc
    simp only[bF]at hu;obtain⟨a,ha,rfl⟩:=hu;simpa[Builtin.firstCells]using xE (P:=P) hR hi hc hs ha
   ·cases hs
  ·cases hs
 ·split at hs
  ·rename_i ob hi
   split at hs
   ·rename_i c hc
    simp only[bF]at hu;obtain⟨a,_,ha,rfl,_⟩:=hu;simpa[Builtin.firstCells]using xE (P:=P) hR hi hc hs ha
   ·cases hs
  ·cases hs
 ·cases hs;simp only[bF]at hu;subst hu
  exact⟨#[],by simp[Builtin.firstCells],rfl,λk v hk=>by simp[Cs.get]at hk⟩
 ·rename_i s
  cases hb:Nat.beq size 1 with
  |false=>rw[hb]at hs;simp at hs
  |true=>
  rw[hb]at hs;simp only[aP,ak]at hs;subst hs;simp only[bF]at hu;subst hu;refine⟨(s.extract 0 n).data.map λb=> .int .u8 b.toNat,by simp only[Builtin.firstCells,Sem.run_pure],by simp[Cs.size],λk v hk=> ?_⟩;simp only[Cs.get]at hk;split at hk
  ·rename_i y hy
   cases hk;refine⟨y,?_,by simp only[bF]⟩;rw[List.getElem?_map,Array.getElem?_toList]at hy;rw[aA,Array.getElem?_map];exact hy
  ·cases hk
 ·cases hs
theorem ig{P:Program}{e:TypeId}(b:Nat): ∀(us:List Value) (o k:Nat) (w:World) (arr:Array Value),w.heap[b]? =some (.cells arr e (0,0))->(∀u∈us,u.oneCell'=true)->o+k+us.length<=arr.size->
  ∃w' arr',(storeCells ⟨b,o,none⟩ us k).run P w= .ok () w'/\w'.heap[b]? =some (.cells arr' e (0,0))/\arr'.size=arr.size/\w'.heap.size=w.heap.size/\(∀c,c≠b->w'.heap[c]? =w.heap[c]?)/\
   w'.os=w.os/\w'.tape=w.tape/\w'.output=w.output/\ ∀j,arr'[j]? =if o+k<=j/\j<o+k+us.length then us[j-(o+k)]? else arr[j]?
 |[],o,k,w,arr,hb,_,_=>⟨w,arr,by simp[storeCells],hb,rfl,rfl,λ_ _=>rfl,rfl,rfl,rfl,λj=>by simp;intro h1 h2;omega⟩
 |u::us,o,k,w,arr,hb,h1,hsz=>by
  simp only[List.length_cons]at hsz;have ho:o+k<arr.size:=by omega
  obtain⟨w',arr',hrun,hb',hsz',hw,hne,ho1,ho2,ho3,hget⟩:=ig (P:=P) b us o (k+1) (w.setCell ⟨b,o+k,none⟩ u) (arr.setIfInBounds (o+k) u) (heap_setCell hb) (λx hx=>h1 x (by simp[hx])) (by simp;omega);refine⟨w',arr',?_,hb',by simpa using hsz',by simpa using hw,λc hc=>by rw[hne c hc,lZ hc],ho1,ho2,ho3,λj=> ?_⟩
  ·have hcell:w.cell? ⟨b,o+k,none⟩=some arr[o+k]:=by simp[World.cell?,hb,ho]
   have hfz:w.frozen? ⟨b,o+k,none⟩=false:=by simp[World.frozen?,hb]
   simp only[storeCells,Sem.run_bind,dS,run_store P w _ u _ (h1 u (by simp)),hcell,hfz,Bool.false_eq_true,if_false,Result.andThen_ok,hrun]
  ·rw[hget]
   simp only[List.length_cons];by_cases h2:o+k=j
   ·rw[if_neg (by omega),if_pos (by omega)]
    subst h2;simp[ho]
   ·by_cases h3:o+k<=j/\j<o+k+(us.length+1)
    ·rw[if_pos (by omega),if_pos h3]
     have:j-(o+k)=(j-(o+(k+1)))+1:=by omega
     rw[this];simp
    ·rw[if_neg (by omega),if_neg h3,Array.getElem?_setIfInBounds_ne h2]
def jy:Cs->Bool
 | .av l=>l.all oneCell
 | .raw l=>l.all Value.oneCell'
 | .tr .. =>false
 | .row .. =>false
 | .cat .. =>false
theorem xG{ρ:Ren}{d:Cs}{vs:Array Value}(h:jy d=true)(hsz:vs.size=d.size)(hc:fF ρ d vs 0): ∀u∈vs.toList,u.oneCell'=true:=by
 intro u hu;obtain⟨k,hk⟩:=List.mem_iff_getElem?.1 hu;have hk':vs[k]? =some u:=by simpa using hk
 have hlt:k<d.size:=by rw[<-hsz];exact(Array.getElem?_eq_some_iff.1 hk').1
 cases d with
 |av l=>
  simp only[Cs.size]at hlt;obtain⟨y,hy,hr⟩:=hc k l[k] (by simp[Cs.get,hlt]);rw[aA,hk']at hy;cases hy;exact qO (List.all_eq_true.1 h _ (List.getElem_mem hlt)) hr
 |raw l=>
  simp only[Cs.size]at hlt;obtain⟨y,hy,hr⟩:=hc k (.lit l[k]) (by simp[Cs.get,hlt]);rw[aA,hk']at hy;cases hy;simp only[bF]at hr;subst hr;exact List.all_eq_true.1 h _ (List.getElem_mem hlt)
 |tr n z t=>cases h
 |row m n g wr=>cases h
 |cat a b=>cases h
def OT(h:Heap)(i o:Nat)(d:Cs):Option Heap:=
 match h.get i with
 |some (.cells e c)=>match c.put o d with
  |some c'=>some (h.set i (.cells e c'))
  |none=>none
 |some (.room e c)=>match c.put o d with
  |some c'=>some (h.set i (.room e c'))
  |none=>none
 |_=>none
theorem fF.put{ρ:Ren}{c c' d:Cs}{arr arr' vs:Array Value}{o:Nat}(hc:fF ρ c arr 0)(hp:c.put o d=some c')(hd:fF ρ d vs 0)(hvs:vs.size=d.size)
  (hget: ∀j,arr'[j]? =if o<=j/\j<o+vs.size then vs[j-o]? else arr[j]?):fF ρ c' arr' 0:=by
 obtain⟨_,_,hg⟩:=Cs.CX hp;intro k v hk;rw[hg]at hk;simp only[aA];rw[hget,hvs];by_cases h1:o<=k/\k<o+d.size
 ·rw[if_pos h1]at hk ⊢
  obtain⟨u,hu,hr⟩:=hd _ _ hk;exact⟨u,by simpa using hu,hr⟩
 ·rw[if_neg h1]at hk ⊢
  obtain⟨u,hu,hr⟩:=hc _ _ hk;exact⟨u,by simpa using hu,hr⟩
theorem Dz{P:Program}{h h':Heap}{ρ:Ren}{T:Nat->Prop}{w:World}(hR:Rel h ρ T w){i o:Nat}{d:Cs}{vs:Array Value}{a:Loc}(hs:OT h i o d=some h')(ha:ρ i=some a)
  (h1:jy d=true) (hvs:vs.size=d.size) (hd:fF ρ d vs 0):
  ∃w',(storeCells ⟨a.blk,a.base+o,none⟩ vs.toList).run P w= .ok () w'/\Rel h' ρ T w'/\h'.next=h.next/\Keeps T w w':=by
 have hone:=xG h1 hvs hd;have main: ∀(x:dF) (c c':Cs) (e:TypeId) (arr:Array Value) (mk:Cs->dF),h.get i=some x->h'=h.set i (mk c')->c.put o d=some c'->a.base=0->w.heap[a.blk]? =some (.cells arr e (0,0))->c.size<=arr.size->
   fF ρ c arr 0->(∀S,dI ρ w T a S x->S a.blk)->
   (∀S (w':World) arr',S a.blk->dI ρ w T a S x->w'.heap[a.blk]? =some (.cells arr' e (0,0))->arr'.size=arr.size->fF ρ c' arr' 0->dI ρ w' T a S (mk c'))->
   ∃w',(storeCells ⟨a.blk,a.base+o,none⟩ vs.toList).run P w= .ok () w'/\Rel h' ρ T w'/\h'.next=h.next/\Keeps T w w':=by
  intro x c c' e arr mk hx hh' hput h0 hb hsz hcr hown hnew;obtain⟨hle,_,_⟩:=Cs.CX hput;obtain⟨w',arr',hrun,hb',hsz',hw,hne,ho1,ho2,ho3,hget⟩:=ig (P:=P) a.blk vs.toList (a.base+o) 0 w arr hb hone (by simp[hvs];omega);have afd: ∀j,arr'[j]? =if o<=j/\j<o+vs.size then vs[j-o]? else arr[j]? :=λj=>by
   rw[hget];simp[h0]
  subst hh';refine⟨w',hrun,hR.upd hx ha hw hne hown λS hS hx'=>hnew S w' arr' hS hx' hb' hsz' (hcr.put hput hd hvs afd),by simp,⟨by omega,ho1,ho2,ho3,λb hb2=>hne b λhbb=>hb2 ?_⟩⟩;subst hbb;exact hR.Uh hx ha hown
 obtain⟨S,r1,_⟩:=id hR;unfold OT at hs;split at hs
 ·rename_i e c hx
  split at hs
  ·rename_i c' hput
   cases hs;obtain⟨a',ha',ho⟩:=r1 i _ hx;obtain rfl:a'=a:=Option.some.inj (ha'.symm.trans ha);obtain⟨h0,hS,arr,hb,hsz,hlim,hcr⟩:=ho;refine main _ c c' e arr (dF.cells e) hx rfl hput h0 hb (by omega) hcr (λS' h=>h.2.1) λS' w' arr' hS' _ hb' hsz' hc'=> ?_
   have hcs:=(Cs.CX hput).2.1;exact⟨h0,hS',arr',hb',by omega,by omega,hc'⟩
  ·cases hs
 ·rename_i e c hx
  split at hs
  ·rename_i c' hput
   cases hs;obtain⟨a',ha',ho⟩:=r1 i _ hx;obtain rfl:a'=a:=Option.some.inj (ha'.symm.trans ha);obtain⟨h0,hS,arr,hb,hsz,hle,hcr⟩:=ho;refine main _ c c' e arr (dF.room e) hx rfl hput h0 hb (by omega) hcr (λS' h=>h.2.1) λS' w' arr' hS' _ hb' hsz' hc'=> ?_
   have hcs:=(Cs.CX hput).2.1;exact⟨h0,hS',arr',hb',by omega,by omega,hc'⟩
  ·cases hs
 ·cases hs
theorem Rel.move{h:Heap}{ρ:Ren}{T:Nat->Prop}{w:World}(hR:Rel h ρ T w){i:Nat}{o:dF}{a:Loc}(hi:h.get i=some o)(ha:ρ i=some a):
  ∃ρ',ρ.le ρ'/\ρ' h.next=some a/\(∀i,i<h.next->ρ' i=ρ i)/\Rel ((h.drop i).push o) ρ' T w:=by
 obtain⟨S,h1,h2,h3,h4,h5⟩:=hR;have hin:i<h.next:=by
  rcases Nat.lt_or_ge i h.next with h'|h'
  ·exact h'
  ·rw[h4 i h']at ha;cases ha
 let ρ':Ren:=λj=>if j=h.next then some a else ρ j
 have hle:ρ.le ρ':=λj b hb=>by
  by_cases hj:j=h.next
  ·rw[hj,h4 h.next (aY _)]at hb;cases hb
  ·simp[ρ',hj,hb]
 refine⟨ρ',hle,by simp[ρ'],λj hj=>by simp[ρ',Nat.ne_of_lt hj],λj=>if j=h.next then S i else S j,λj x hj=> ?_,λj k x y b hj hk hjk hSj hSk=> ?_,λj x b hj hSj=> ?_,λj hj=> ?_,h5⟩
 ·rw[Heap.fG]at hj
  by_cases hjn:j=h.next
  ·rw[if_pos (by simpa using hjn)]at hj;cases hj
   obtain⟨a',ha',ho⟩:=h1 i o hi;obtain rfl:a'=a:=Option.some.inj (ha'.symm.trans ha);refine⟨a',by simp[ρ',hjn],?_⟩;simp only[if_pos hjn];exact ho.mono hle
  ·rw[if_neg (by simpa using hjn),Heap.fD]at hj
   split at hj
   ·cases hj
   ·obtain⟨b,hb,hx⟩:=h1 j x hj
    refine⟨b,hle _ _ hb,?_⟩;simp only[if_neg hjn];exact hx.mono hle
 ·have get: ∀j x,((h.drop i).push o).get j=some x->(j=h.next/\x=o)\/(j≠h.next/\j≠i/\h.get j=some x):=λj x hj=>by
   rw[Heap.fG]at hj;by_cases hjn:j=h.next
   ·rw[if_pos (by simpa using hjn)]at hj;cases hj;exact .inl ⟨hjn,rfl⟩
   ·rw[if_neg (by simpa using hjn),Heap.fD]at hj
    split at hj
    ·cases hj
    ·rename_i hji;exact .inr ⟨hjn,hji,hj⟩
  rcases get j x hj with ⟨hjn,rfl⟩|⟨hjn,hji,hjx⟩
  ·rcases get k y hk with ⟨hkn,_⟩|⟨hkn,hki,hky⟩
   ·exact hjk (hjn.trans hkn.symm)
   ·simp only[if_pos hjn]at hSj;simp only[if_neg hkn]at hSk
    exact h2 i k x y b hi hky (Ne.symm hki) hSj hSk
  ·rcases get k y hk with ⟨hkn,rfl⟩|⟨hkn,hki,hky⟩
   ·simp only[if_neg hjn]at hSj;simp only[if_pos hkn]at hSk
    exact h2 j i x y b hjx hi hji hSj hSk
   ·simp only[if_neg hjn]at hSj;simp only[if_neg hkn]at hSk
    exact h2 j k x y b hjx hky hjk hSj hSk
 ·rw[Heap.fG]at hj
  by_cases hjn:j=h.next
  ·simp only[if_pos hjn]at hSj;exact h3 i o b hi hSj
  ·simp only[if_neg hjn]at hSj
   rw[if_neg (by simpa using hjn),Heap.fD]at hj;split at hj
   ·cases hj
   ·exact h3 j x b hj hSj
 ·have hj':h.next+1<=j:=by simpa using hj
  have:j≠h.next:=by omega
  simp only[ρ',if_neg this];exact h4 j (by omega)
theorem Rel.push_room{h:Heap}{ρ:Ren}{T:Nat->Prop}{w:World}(hR:Rel h ρ T w){e:TypeId}{c:Cs}{arr:Array Value}(hsz:c.size<=arr.size)
  (hc:fF ρ c arr 0): ∃ρ',ρ.le ρ'/\ρ' h.next=some ⟨w.heap.size,0,arr.size⟩/\(∀i,i<h.next->ρ' i=ρ i)/\Rel (h.push (.room e c)) ρ' T (w.alloc (.cells arr e))/\
   Keeps T w (w.alloc (.cells arr e)):=by
 have hnew:(w.alloc (.cells arr e)).heap[w.heap.size]? =some (.cells arr e (0,0)):=by
  show(w.heap.push _)[w.heap.size]? =_;simp
 obtain⟨ρ',h1,h2,h3,h4⟩:=hR.push (o:= .room e c) (ob:= .cells arr e) arr.size ⟨rfl,rfl,arr,hnew,rfl,hsz,hc⟩;obtain⟨S,_,_,_,_,h5⟩:=hR;exact⟨ρ',h1,h2,h3,h4,Keeps.alloc _ h5⟩
def aeS:AV->Option Nat
 | .sl _ _ n _=>some n
 | .slU _ _ n _=>some n
 | .lit (.slice none 0 _)=>some 0
 | .lit (.string s)=>some s.size
 |_=>none
theorem afe{P:Program}{ρ:Ren}{x:AV}{u:Value}{n:Nat}(h:aeS x=some n)(hu:bF ρ x u)(w:World):(Builtin.lenOf u).run P w= .ok n w:=by
 unfold aeS at h;split at h
 ·cases h;simp only[bF]at hu;obtain⟨a,_,rfl⟩:=hu;simp[Builtin.lenOf]
 ·cases h;simp only[bF]at hu;obtain⟨a,_,_,rfl,_⟩:=hu;simp[Builtin.lenOf]
 ·cases h;simp only[bF]at hu;subst hu;simp[Builtin.lenOf]
 ·cases h;simp only[bF]at hu;subst hu;simp[Builtin.lenOf]
 ·cases h
def Bd:TD->Bool
 | .int _=>true
 |_=>false
def JF(tt:TT)(t xt:TypeId)(s x:AV)(h:Heap):Option (AV×Heap):=
 match tt t,tt xt,aeS x with
 |some ti,some tx,some n=>bif Bd tx.desc then none else(match ti.desc with
  | .slice e=>match tt e with
   |some te=>bif Nat.beq te.bytes 0|| !Nat.beq te.zero.length te.size then none else(match BU h x n te.size with
    |some d=>match s with
     | .lit (.slice none 0 0)=>if n=0 then some (.lit (.slice none 0 0),h)else
       bif Nat.ble ((2*n+1000)*te.bytes) (2^48)&&jy d then some (h.new (λk=> .slU k 0 n te.size) (.room e d))else none
     | .sl i o sn sc=>if sn+n<=sc then(if n=0 then some (.sl i o sn sc,h)else bif jy d then(match OT h i (o+sn*te.size) d with
           |some h'=>some (.sl i o (sn+n) sc,h')
           |none=>none)else none)else
       bif Nat.ble ((2*(sn+n)+1000)*te.bytes) (2^48)then(match BU h s sn te.size with
        |some c=>match c.app d with
         |some c'=>some (h.new (λk=> .slU k 0 (sn+n) te.size) (.room e c'))
         |none=>none
        |none=>none)else none
     | .slU i 0 sn sz=>match h.get i with
      |some (.room e' c)=>bif Nat.beq sz te.size&&Nat.beq c.size (sn*te.size)&&Nat.beq e' e&&Nat.ble ((2*(sn+n)+1000)*te.bytes) (2^48)&&jy d then(match c.app d with
        |some c'=>some ((h.drop i).new (λk=> .slU k 0 (sn+n) te.size) (.room e c'))
        |none=>none)else none
      |_=>none
     |_=>none
    |none=>none)
   |none=>none
  |_=>none)
 |_,_,_=>none
theorem OU(L:Nat): ∀(r c:Nat),c<L->Builtin.growBy L r c<=2*L+192
 |0,c,h=>by simp[Builtin.growBy];omega
 |r+1,c,h=>by
  simp only[Builtin.growBy];rw[if_neg (by omega)];by_cases h2:c+(c+768)/4<L
  ·exact OU L r _ h2
  ·cases r with
   |zero=>simp[Builtin.growBy];omega
   |succ r=>simp only[Builtin.growBy];rw[if_pos (by omega)];omega
theorem nextslicecap_le{L c:Nat}(h:c<L):Builtin.nextslicecap L c<=2*L+1000:=by
 unfold Builtin.nextslicecap;split
 ·omega
 ·split
  ·omega
  ·have:=OU L 4 c h;omega
theorem fF.app{ρ:Ren}{c d e:Cs}{us vs:Array Value}{rest:Array Value}(h:c.app d=some e)(hc:fF ρ c us 0)(hd:fF ρ d vs 0)(hus:us.size=c.size)(hvs:vs.size=d.size):
  fF ρ e (us++vs++rest) 0:=by
 obtain⟨hsz,h1,h2⟩:=Cs.CW h;intro k v hk;have hlt:=Cs.dW hk;simp only[aA];by_cases hkc:k<c.size
 ·rw[h1 k hkc]at hk
  obtain⟨u,hu,hr⟩:=hc _ _ hk;refine⟨u,?_,hr⟩;rw[Array.getElem?_append_left (by simp;omega),Array.getElem?_append_left (by omega)];simpa using hu
 ·obtain⟨j,rfl⟩: ∃j,k=c.size+j:=⟨k-c.size,by omega⟩
  rw[h2]at hk;obtain⟨u,hu,hr⟩:=hd _ _ hk;have hj:=Cs.dW hk;refine⟨u,?_,hr⟩;rw[Array.getElem?_append_left (by simp;omega),Array.getElem?_append_right (by omega)];simpa[hus]using hu
theorem jc{P:Program}{tt:TT}(hT:tt.ok P){h:Heap}{ρ:Ren}{T:Nat->Prop}{w:World}(hR:Rel h ρ T w){e:TypeId}{te:TI}(hte:tt e=some te)(hb0:te.bytes≠0)(hz:te.zero.length=te.size)
  {need sCap:Nat} (hcap:sCap<need) (hlim:(2*need+1000)*te.bytes<=2^48) {us vs:Array Value}
  {c:Cs} (hsz:us.size+vs.size=need*te.size) (hcs:c.size=need*te.size) (hc: ∀rest,fF ρ c (us++vs++rest) 0):
  ∃i z newCap ρ',(∀w,(typeInfo e).run P w= .ok i w)/\i.bytes=te.bytes/\(∀w,(zeroValue e).run P w= .ok z w)/\Builtin.nextslicecap need sCap*te.bytes<=2^48/\
   (choose (.appendCap need sCap e)).run P w= .ok newCap w.drew/\need<=newCap/\(∀i,i<h.next->ρ' i=ρ i)/\ρ.le ρ'/\
   Rel (h.push (.room e c)) ρ' T (w.drew.alloc (.cells (us++vs++Builtin.zeroCells z.cells (newCap-need)) e))/\
   bF ρ' (.slU h.next 0 need te.size) (.slice (some ⟨w.heap.size,0,none⟩) need newCap)/\
   Keeps T w (w.drew.alloc (.cells (us++vs++Builtin.zeroCells z.cells (newCap-need)) e)):=by
 obtain⟨i',d,z,hi',_,his,hib,hzz,hzc,_⟩:=hT.info hte;have hiw: ∀w,(typeInfo e).run P w= .ok i' w:=λw=>by simp[typeInfo,hi']
 have hzr: ∀w,(zeroValue e).run P w= .ok z w:=λw=>by simp[zeroValue,typeInfo,hi',hzz]
 have hn1:Builtin.nextslicecap need sCap*te.bytes<=2^48:=
  Nat.le_trans (Nat.mul_le_mul_right _ (nextslicecap_le hcap)) hlim
 have aqo:need<2^62:=by
  have:need*1<=(2*need+1000)*te.bytes:=Nat.mul_le_mul (by omega) (by omega);omega
 let newCap:=need+w.tape w.drawn (.appendCap need sCap e)%(2^63-need)
 have hch:(choose (.appendCap need sCap e)).run P w= .ok newCap w.drew:=by
  rw[run_choose];rfl
 have hzsz:z.cells.size=te.size:=by rw[<-Array.length_toList,hzc,hz]
 have hnc:need<=newCap:=by simp[newCap]
 have GI:(us++vs++Builtin.zeroCells z.cells (newCap-need)).size=newCap*te.size:=by
  simp only[Array.size_append,Builtin.zeroCells,Array.size_map,Array.size_range,hzsz,hsz];rw[<-Nat.add_mul];congr 1;omega
 obtain⟨ρ',h1,h2,h3,h4,h5⟩:=(hR.drew).push_room (e:=e) (c:=c) (arr:=us++vs++Builtin.zeroCells z.cells (newCap-need)) (by rw[GI,hcs];exact Nat.mul_le_mul_right _ hnc) (hc _);refine⟨i',z,newCap,ρ',hiw,hib,hzr,hn1,hch,hnc,h3,h1,h4,?_,(Keeps.drew T w).trans h5⟩;simp only[bF];exact⟨_,newCap,h2,rfl,hnc,by show 0+newCap*te.size<=Array.size _;rw[GI];omega⟩
theorem Zn{h:Heap}{x:AV}{n size:Nat}{d:Cs}(hl:aeS x=some n)(hs:BU h x n size=some d):d.size=n*size:=by
 unfold BU at hs;split at hs
 ·split at hs
  ·split at hs
   ·exact(Cs.nO hs).2.1
   ·cases hs
  ·cases hs
 ·split at hs
  ·split at hs
   ·exact(Cs.nO hs).2.1
   ·cases hs
  ·cases hs
 ·cases hs
  unfold aeS at hl;split at hl<;>first|(cases hl;simp[Cs.size];done)|(rename_i heq;cases heq;done)|cases hl
 ·cases hb:Nat.beq size 1 with
  |false=>rw[hb]at hs;simp at hs
  |true=>
   rw[hb]at hs;simp only[aP,ak]at hs;subst hs;simp only[aeS,ak]at hl;subst hl;have:=au hb;subst this;simp[Cs.size]
 ·cases hs
theorem aqp{c d e:Cs}(h:c.app d=some e):c.sub 0 c.size=some c:=by
 cases c with
 |av l=>have:Nat.ble l.length l.length=true:=by simp
        simp[Cs.sub,Cs.size,this]
 |raw l=>have:Nat.ble l.length l.length=true:=by simp
         simp[Cs.sub,Cs.size,this]
 |tr n z t=>simp[Cs.app]at h
 |row m n g wr=>cases d<;>simp[Cs.app]at h
 |cat a b=>cases d<;>simp[Cs.app]at h
theorem run_append_grow{P:Program}{w:World}{t xt ty e:TypeId}{ts:Array TypeId}{us:Array Value}{base:Option Addr}{sLen sCap n size newCap:Nat}{v z:Value}{i:TypeInfo}{dx:TypeDesc}{old new:Array Value}
  (ht0:ts[0]? =some t) (ht1:ts[1]? =some xt) (hu0:us[0]? =some (.slice base sLen sCap)) (hu1:us[1]? =some v) (jD: ∀w,(underlying t).run P w= .ok (.slice e) w)
  (hsz: ∀w,(sizeOf e).run P w= .ok size w) (hdx: ∀w,(underlying xt).run P w= .ok dx w) (hdn: ∀k,dx≠ .int k) (hlen: ∀w,(Builtin.lenOf v).run P w= .ok n w) (hi: ∀w,(typeInfo e).run P w= .ok i w)
  (hb:i.bytes≠0) (hz: ∀w,(zeroValue e).run P w= .ok z w) (hcap:sCap<sLen+n) (hnx:Builtin.nextslicecap (sLen+n) sCap*i.bytes<=2^48)
  (hch:(choose (.appendCap (sLen+n) sCap e)).run P w= .ok newCap w.drew) (hold:(Builtin.firstCells size sLen (.slice base sLen sCap)).run P w.drew= .ok old w.drew) (hnew:(Builtin.firstCells size n v).run P w.drew= .ok new w.drew):
  (Builtin.append_ ts ty us).run P w= .ok (.slice (some ⟨w.heap.size,0,none⟩) (sLen+n) newCap) (w.drew.alloc (.cells (old++new++Builtin.zeroCells z.cells (newCap-(sLen+n))) e)):=by
 simp only[Builtin.append_,ht0,ht1,hu0,hu1,Sem.run_bind,jD,Result.andThen_ok,hsz,hdx,hlen,Sem.run_pure,Bool.false_eq_true,if_false,Sem.run_ite];rw[if_neg (by omega)];simp only[hi,Result.andThen_ok];rw[if_neg (by rintro ⟨_,h⟩;rcases h with h|h;exact h;exact hb h),if_neg (by omega)];simp only[hch,Result.andThen_ok,run_askRoom,hold,Bool.not_false,if_true,hnew,hz,newRow,Sem.run_bind,run_newObj,Sem.run_pure];rfl
theorem run_append_room{P:Program}{w w':World}{t xt ty e:TypeId}{ts:Array TypeId}{us:Array Value}{base:Option Addr}{sLen sCap n size:Nat}{v:Value}{dx:TypeDesc}{new:Array Value}
  (ht0:ts[0]? =some t) (ht1:ts[1]? =some xt) (hu0:us[0]? =some (.slice base sLen sCap)) (hu1:us[1]? =some v) (jD: ∀w,(underlying t).run P w= .ok (.slice e) w)
  (hsz: ∀w,(sizeOf e).run P w= .ok size w) (hdx: ∀w,(underlying xt).run P w= .ok dx w) (hdn: ∀k,dx≠ .int k) (hlen: ∀w,(Builtin.lenOf v).run P w= .ok n w)
  (hcap:sLen+n<=sCap) (hnew:(Builtin.firstCells size n v).run P w= .ok new w) (hst:(match base with|some a=>storeCells (a.add (sLen*size)) new.toList|none=>pure ()).run P w= .ok () w'):
  (Builtin.append_ ts ty us).run P w= .ok (.slice base (sLen+n) sCap) w':=by
 simp only[Builtin.append_,ht0,ht1,hu0,hu1,Sem.run_bind,jD,Result.andThen_ok,hsz,hdx,hlen,Sem.run_pure,Bool.false_eq_true,if_false,Sem.run_ite];rw[if_pos hcap];cases base with
 |none=>
  simp only[Bool.not_false,if_true,hnew,Result.andThen_ok];simp only[Sem.run_pure,Result.ok.injEq,aU]at hst;rw[hst];rfl
 |some a=>
  simp only[]at hst;simp only[Bool.not_false,if_true,hnew,Result.andThen_ok,hst,Sem.run_bind,Sem.run_pure]
theorem H8{P:Program}{tt:TT}(hT:tt.ok P){h h':Heap}{ρ:Ren}{T:Nat->Prop}{w:World}(hR:Rel h ρ T w){t xt ty:TypeId}{s x r:AV}{u v:Value}{ts:Array TypeId}{us:Array Value}
  (hb:JF tt t xt s x h=some (r,h')) (hu:bF ρ s u) (hv:bF ρ x v) (ht0:ts[0]? =some t) (ht1:ts[1]? =some xt) (hu0:us[0]? =some u) (hu1:us[1]? =some v):XOk P (Builtin.append_ ts ty us) h ρ T w r h':=by
 unfold JF at hb;split at hb
 ·rename_i ti tx n hti htx hn
  cases hxi:Bd tx.desc with
  |true=>rw[hxi]at hb;simp at hb
  |false=>
   rw[hxi]at hb;simp only[aQ]at hb;split at hb
   ·rename_i e hd
    split at hb
    ·rename_i te hte
     cases hbz:(Nat.beq te.bytes 0|| !Nat.beq te.zero.length te.size)with
     |true=>rw[hbz]at hb;simp at hb
     |false=>
      rw[hbz]at hb;simp only[aQ]at hb;simp only[Bool.or_eq_false_iff,Bool.not_eq_false']at hbz;have hb0:te.bytes≠0:=λh0=>by rw[h0]at hbz;cases hbz.1
      have hz:te.zero.length=te.size:=au hbz.2;have jD: ∀w,(underlying t).run P w= .ok (.slice e) w:=λw=>by
       obtain⟨d1,r1,_,m1⟩:=dH (P:=P) hT hti w;rw[dB (m1.trans hd)]at r1;exact r1
      have hundx: ∃dx,(∀w,(underlying xt).run P w= .ok dx w)/\ ∀k,dx≠ .int k:=by
       obtain⟨d1,_,p1,m1⟩:=dH (P:=P) hT htx w;refine⟨d1,λw=>by simp[underlying,p1],λk hk=> ?_⟩;subst hk;rw[<-m1]at hxi;cases hxi
      obtain⟨dx,hdx,hdn⟩:=hundx;have hzeros:(dx matches .int _)=false:=by
       cases dx<;>first|rfl|exact absurd rfl (hdn _)
      have hlen: ∀w,(Builtin.lenOf v).run P w= .ok n w:=afe hn hv;split at hb
      ·rename_i d hseg
       have ao8:=Zn hn hseg;obtain⟨vs,hvs,Bf,hvc⟩:=iJ (P:=P) hR hseg hv;obtain⟨vs',hvs',oz,abQ⟩:=iJ (P:=P) hR.drew hseg hv;split at hb
       ·--a nil slice
        simp only[bF]at hu;subst hu;split at hb
        ·rename_i hn0
         cases hb;subst hn0;refine⟨.slice none 0 0,w,ρ,?_,λ_ _=>rfl,Ren.le_refl _,aY _,hR,by simp only[bF],Keeps.refl _ _⟩;exact run_append_room (w':=w) ht0 ht1 hu0 hu1 jD (λw=>run_sizeOf hT hte w) hdx hdn hlen (by omega) hvs rfl
        ·rename_i hn0
         cases hck:(Nat.ble ((2*n+1000)*te.bytes) (2^48)&&jy d)with
         |false=>rw[hck]at hb;simp at hb
         |true=>
          rw[hck]at hb;simp only[aP,Heap.Bc,ak,Prod.mk.injEq]at hb;obtain⟨rfl,rfl⟩:=hb;simp only[aJ,Nat.ble_eq]at hck;obtain⟨i,z,newCap,ρ',g1,g2,g3,g4,g5,g6,g7,g8,g9,g10,g11⟩:=jc (P:=P) hT hR hte hb0 hz (need:=0+n) (sCap:=0) (by omega) (by simpa using hck.1) (us:= #[]) (vs:=vs') (c:=d)
           (by simp[oz,ao8]) (by simpa using ao8) (λrest=>by
            intro k y hk;obtain⟨q,hq,hr⟩:=abQ k y hk;have hlt:k<vs'.size:=by rw[oz];exact Cs.dW hk
            refine⟨q,?_,hr⟩;simp only[aA]at hq ⊢;rw[Array.getElem?_append_left (by simpa using hlt)]
            simpa using hq)
          refine⟨_,_,ρ',run_append_grow ht0 ht1 hu0 hu1 jD (λw=>run_sizeOf hT hte w) hdx hdn hlen g1 (by omega) g3 (by omega) (by rw[g2];exact g4) g5 (by simp[Builtin.firstCells]) hvs',g7,g8,by simp,g9,by simpa using g10,g11⟩
       ·--a slice whose capacity is known
        rename_i i o sn sc;have hu':=hu;simp only[bF]at hu;obtain⟨a,ha,rfl⟩:=hu;split at hb
        ·rename_i hle
         split at hb
         ·rename_i hn0
          cases hb;subst hn0;have aln:vs= #[]:=by rw[Nat.zero_mul]at ao8;exact Array.eq_empty_of_size_eq_zero (by omega)
          subst aln;refine⟨_,w,ρ,run_append_room (w':=w) ht0 ht1 hu0 hu1 jD (λw=>run_sizeOf hT hte w) hdx hdn hlen hle hvs (by simp[storeCells]),λ_ _=>rfl,Ren.le_refl _,aY _,hR,by simpa only[aI]using hu',Keeps.refl _ _⟩
         ·cases h1:jy d with
          |false=>rw[h1]at hb;simp at hb
          |true=>
           rw[h1]at hb;simp only[aP]at hb;split at hb
           ·rename_i h2 hput
            cases hb;obtain⟨w',hst,hR',hn',hk'⟩:=Dz (P:=P) hR hput ha h1 Bf hvc;refine⟨_,w',ρ,run_append_room (w':=w') ht0 ht1 hu0 hu1 jD (λw=>run_sizeOf hT hte w) hdx hdn hlen hle hvs ?_,λ_ _=>rfl,Ren.le_refl _,by omega,hR',by simp only[bF];exact⟨a,ha,rfl⟩,hk'⟩;simp only[dS];rw[Nat.add_assoc];exact hst
           ·cases hb
        ·rename_i hgt
         cases hck:Nat.ble ((2*(sn+n)+1000)*te.bytes) (2^48)with
         |false=>rw[hck]at hb;simp at hb
         |true=>
          rw[hck]at hb;simp only[aP]at hb;split at hb
          ·rename_i c atK
           split at hb
           ·rename_i c' happ
            rw[Heap.Bc]at hb;cases hb;obtain⟨os,hos,OV,hoc⟩:=iJ (P:=P) hR.drew atK hu';have hcsz:c.size=sn*te.size:=by
             refine Zn (x:= .sl i o sn sc) rfl atK
            obtain⟨ii,z,newCap,ρ',g1,g2,g3,g4,g5,g6,g7,g8,g9,g10,g11⟩:=jc (P:=P) hT hR hte hb0 hz (need:=sn+n) (sCap:=sc) (by omega) (by simpa using hck) (us:=os) (vs:=vs') (c:=c')
             (by rw[OV,oz,hcsz,ao8,Nat.add_mul]) (by rw[(Cs.CW happ).1,hcsz,ao8,Nat.add_mul]) (λrest=>fF.app happ hoc abQ OV oz)
            exact⟨_,_,ρ',run_append_grow ht0 ht1 hu0 hu1 jD (λw=>run_sizeOf hT hte w) hdx hdn hlen g1 (by omega) g3 (by omega) (by rw[g2];exact g4) g5 hos hvs',g7,g8,by simp,g9,g10,g11⟩
           ·cases hb
          ·cases hb
       ·--a slice whose capacity is not known
        rename_i i sn sz;split at hb
        ·rename_i e' c hi
         cases hck:(Nat.beq sz te.size&&Nat.beq c.size (sn*te.size)&&Nat.beq e' e&&Nat.ble ((2*(sn+n)+1000)*te.bytes) (2^48)&&jy d)with
         |false=>rw[hck]at hb;simp at hb
         |true=>
          rw[hck]at hb;simp only[aP]at hb;simp only[aJ,Nat.ble_eq]at hck;obtain⟨⟨⟨⟨k1,k2⟩,k3⟩,k4⟩,k5⟩:=hck;have k1:=au k1;have k2:=au k2;have k3:=au k3;subst k1;subst k3;split at hb
          ·rename_i c' happ
           rw[Heap.Bc,Heap.wY]at hb;cases hb;have hu':=hu;simp only[bF]at hu;obtain⟨a,sc,ha,rfl,hle,hlim⟩:=hu;obtain⟨S,r1,_⟩:=id hR;obtain⟨a',ha',ho⟩:=r1 i _ hi;obtain rfl:a'=a:=Option.some.inj (ha'.symm.trans ha);obtain⟨h0,hS,arr,hb1,GI,DC,hcr⟩:=ho;have atM:c'.size=(sn+n)*te.size:=by rw[(Cs.CW happ).1,k2,ao8,Nat.add_mul]
           by_cases hroom:sn+n<=sc
           ·--in place
            have hfit:sn*te.size+vs.size<=arr.size:=by
             rw[GI,Bf,ao8,<-Nat.add_mul];exact Nat.le_trans (Nat.mul_le_mul_right _ hroom) (by omega)
            obtain⟨w',arr',hrun,hb',hsz',hw,hne,ho1,ho2,ho3,hget⟩:=ig (P:=P) a'.blk vs.toList (a'.base+0+sn*te.size) 0 w arr hb1 (xG k5 Bf hvc) (by simp[h0];omega);have atE:fF ρ c' arr' 0:=by
             obtain⟨q1,q2,q3⟩:=Cs.CW happ;intro k y hk;simp only[aA];rw[hget];simp only[h0,aA,aI,Array.length_toList];by_cases hkc:k<c.size
             ·rw[if_neg (by omega)]
              rw[q2 k hkc]at hk;simpa using hcr k y hk
             ·obtain⟨j,rfl⟩: ∃j,k=c.size+j:=⟨k-c.size,by omega⟩
              rw[q3]at hk;have hj:=Cs.dW hk;rw[if_pos (by omega)];obtain⟨q,hq,hr⟩:=hvc j y hk;refine⟨q,?_,hr⟩;have:c.size+j-sn*te.size=j:=by omega
              rw[this];simpa using hq
            have hR':Rel (h.set i (.room e' c')) ρ T w':=hR.upd hi ha hw hne (λS h=>h.2.1) λS' hS' hx=>⟨h0,hS',arr',hb',by omega,by rw[atM];exact Nat.le_trans (Nat.mul_le_mul_right _ hroom) (by omega),atE⟩
            obtain⟨ρ',m1,m2,m3,m4⟩:=hR'.move (i:=i) (o:= .room e' c') (a:=a') (by rw[Heap.dR,if_pos rfl]) ha;refine⟨_,w',ρ',run_append_room (w':=w') ht0 ht1 hu0 hu1 jD (λw=>run_sizeOf hT hte w) hdx hdn hlen hroom hvs ?_,m3,m1,by simp,?_,?_,?_⟩
            ·simp only[dS];exact hrun
            ·refine m4.less (aY _) λj x hj=> ?_
             rw[Heap.fG]at hj ⊢;have hnx:((h.set i (.room e' c')).drop i).next=(h.drop i).next:=by simp
             rw[hnx];split at hj
             ·rename_i hjn;rw[if_pos hjn];exact hj
             ·rename_i hjn
              rw[if_neg hjn,Heap.fD];rw[Heap.fD]at hj;split at hj
              ·cases hj
              ·rename_i hji;rw[if_neg hji,Heap.dR,if_neg hji];exact hj
            ·simp only[bF]
             exact⟨a',sc,m2,by simp,hroom,hlim⟩
            ·refine⟨by omega,ho1,ho2,ho3,λb hb2=>hne b λhbb=>hb2 ?_⟩
             subst hbb;exact hR.Uh hi ha (λS h=>h.2.1)
           ·--it grows
            obtain⟨os,hos,OV,hoc⟩:=iJ (P:=P) hR.drew (x:= .slU i 0 sn te.size) (n:=sn) (size:=te.size) (d:=c) (by
             simp only[BU,hi,dF.eP]
             rw[<-k2];exact aqp happ) hu'
            obtain⟨ii,z,newCap,ρ',g1,g2,g3,g4,g5,g6,g7,g8,g9,g10,g11⟩:=jc (P:=P) hT hR hte hb0 hz (need:=sn+n) (sCap:=sc) (by omega) k4 (us:=os) (vs:=vs') (c:=c')
             (by rw[OV,oz,k2,ao8,Nat.add_mul]) atM (λrest=>fF.app happ hoc abQ OV oz)
            refine⟨_,_,ρ',run_append_grow ht0 ht1 hu0 hu1 jD (λw=>run_sizeOf hT hte w) hdx hdn hlen g1 (by omega) g3 (by omega) (by rw[g2];exact g4) g5 hos hvs',g7,g8,by simp,?_,g10,g11⟩;refine g9.less (aY _) λj x hj=> ?_
            rw[Heap.fG]at hj ⊢;have hnx:(h.drop i).next=h.next:=by simp
            rw[hnx]at hj;split at hj
            ·rename_i hjn;rw[if_pos hjn];exact hj
            ·rename_i hjn
             rw[if_neg hjn];rw[Heap.fD]at hj;split at hj
             ·cases hj
             ·exact hj
          ·cases hb
        ·cases hb
       ·cases hb
      ·cases hb
    ·cases hb
   ·cases hb
 ·cases hb
def aqr(tt:TT)(t:TypeId)(x y:AV)(h:Heap):Option (AV×Heap):=
 match tt t,aeS x,aeS y with
 |some ti,some dn,some n=>match ti.desc with
  | .slice e=>match tt e with
   |some te=>match BU h y (Nat.min n dn) te.size with
    |some d=>match x with
     | .sl i o _ _=>if Nat.min n dn=0 then some (.lit (.int .i64 0),h)else bif jy d then(match OT h i o d with
      |some h'=>some (.lit (.int .i64 (Nat.min n dn)),h')
      |none=>none)else none
     | .slU i o _ _=>if Nat.min n dn=0 then some (.lit (.int .i64 0),h)else bif jy d then(match OT h i o d with
      |some h'=>some (.lit (.int .i64 (Nat.min n dn)),h')
      |none=>none)else none
     | .lit (.slice none _ _)=>if Nat.min n dn=0 then some (.lit (.int .i64 0),h)else none
     |_=>none
    |none=>none
   |none=>none
  |_=>none
 |_,_,_=>none
theorem xH{P:Program}{w w':World}{t ty e:TypeId}{ts:Array TypeId}{us:Array Value}{base:Option Addr}{dn sc n size:Nat}{v:Value}{new:Array Value}
  (ht0:ts[0]? =some t) (hu0:us[0]? =some (.slice base dn sc)) (hu1:us[1]? =some v) (jD: ∀w,(underlying t).run P w= .ok (.slice e) w)
  (hsz: ∀w,(sizeOf e).run P w= .ok size w) (hlen: ∀w,(Builtin.lenOf v).run P w= .ok n w) (hnew:(Builtin.firstCells size (Nat.min n dn) v).run P w= .ok new w)
  (hst:(match base with|some a=>storeCells a new.toList|none=>pure ()).run P w= .ok () w'):(Builtin.copy_ ts ty us).run P w= .ok (.int .i64 (Nat.min n dn)) w':=by
 simp only[Builtin.copy_,ht0,hu0,hu1,Sem.run_bind,jD,Result.andThen_ok,hsz,hlen,hnew];cases base with
 |none=>
  simp only[Sem.run_pure,Result.ok.injEq,aU]at hst;rw[hst];rfl
 |some a=>
  simp only[]at hst;simp only[hst,Sem.run_bind,Result.andThen_ok];rfl
theorem alo{P:Program}{tt:TT}(hT:tt.ok P){h h':Heap}{ρ:Ren}{T:Nat->Prop}{w:World}(hR:Rel h ρ T w){t ty:TypeId}{x y r:AV}{u v:Value}{ts:Array TypeId}{us:Array Value}
  (hb:aqr tt t x y h=some (r,h')) (hu:bF ρ x u) (hv:bF ρ y v) (ht0:ts[0]? =some t) (hu0:us[0]? =some u) (hu1:us[1]? =some v):XOk P (Builtin.copy_ ts ty us) h ρ T w r h':=by
 unfold aqr at hb;split at hb
 ·rename_i ti dn n hti hdn hn
  split at hb
  ·rename_i e hd
   split at hb
   ·rename_i te hte
    have jD: ∀w,(underlying t).run P w= .ok (.slice e) w:=λw=>by
     obtain⟨d1,r1,_,m1⟩:=dH (P:=P) hT hti w;rw[dB (m1.trans hd)]at r1;exact r1
    have hlen: ∀w,(Builtin.lenOf v).run P w= .ok n w:=afe hn hv;split at hb
    ·rename_i d hseg
     obtain⟨vs,hvs,Bf,hvc⟩:=iJ (P:=P) hR hseg hv;have zero: ∀(_:Nat.min n dn=0),vs= #[]:=λh0=>by
      have hds:d.size=0:=by
       unfold BU at hseg;split at hseg
       ·split at hseg
        ·split at hseg
         ·have:=(Cs.nO hseg).2.1;rw[h0,Nat.zero_mul]at this;exact this
         ·cases hseg
        ·cases hseg
       ·split at hseg
        ·split at hseg
         ·have:=(Cs.nO hseg).2.1;rw[h0,Nat.zero_mul]at this;exact this
         ·cases hseg
        ·cases hseg
       ·cases hseg;rfl
       ·cases hbb:Nat.beq te.size 1 with
        |false=>rw[hbb]at hseg;simp at hseg
        |true=>rw[hbb]at hseg;simp only[aP,ak]at hseg;subst hseg;simp[Cs.size,h0]
       ·cases hseg
      exact Array.eq_empty_of_size_eq_zero (by omega)
     split at hb
     ·rename_i i o sn sc
      simp only[aeS,ak]at hdn;subst hdn;simp only[bF]at hu;obtain⟨a,ha,rfl⟩:=hu;split at hb
      ·rename_i h0
       cases hb;have:=zero h0;subst this;refine⟨_,w,ρ,xH (w':=w) ht0 hu0 hu1 jD (λw=>run_sizeOf hT hte w) hlen hvs (by simp[storeCells]),λ_ _=>rfl,Ren.le_refl _,aY _,hR,by simp only[bF];rw[h0];rfl,Keeps.refl _ _⟩
      ·cases h1:jy d with
       |false=>rw[h1]at hb;simp at hb
       |true=>
        rw[h1]at hb;simp only[aP]at hb;split at hb
        ·rename_i h2 hput
         cases hb;obtain⟨w',hst,hR',hn',hk'⟩:=Dz (P:=P) hR hput ha h1 Bf hvc;exact⟨_,w',ρ,xH (w':=w') ht0 hu0 hu1 jD (λw=>run_sizeOf hT hte w) hlen hvs hst,λ_ _=>rfl,Ren.le_refl _,by omega,hR',by simp only[bF],hk'⟩
        ·cases hb
     ·rename_i i o sn sz
      simp only[aeS,ak]at hdn;subst hdn;simp only[bF]at hu;obtain⟨a,c,ha,rfl,_⟩:=hu;split at hb
      ·rename_i h0
       cases hb;have:=zero h0;subst this;refine⟨_,w,ρ,xH (w':=w) ht0 hu0 hu1 jD (λw=>run_sizeOf hT hte w) hlen hvs (by simp[storeCells]),λ_ _=>rfl,Ren.le_refl _,aY _,hR,by simp only[bF];rw[h0];rfl,Keeps.refl _ _⟩
      ·cases h1:jy d with
       |false=>rw[h1]at hb;simp at hb
       |true=>
        rw[h1]at hb;simp only[aP]at hb;split at hb
        ·rename_i h2 hput
         cases hb;obtain⟨w',hst,hR',hn',hk'⟩:=Dz (P:=P) hR hput ha h1 Bf hvc;exact⟨_,w',ρ,xH (w':=w') ht0 hu0 hu1 jD (λw=>run_sizeOf hT hte w) hlen hvs hst,λ_ _=>rfl,Ren.le_refl _,by omega,hR',by simp only[bF],hk'⟩
        ·cases hb
     ·simp only[bF]at hu;subst hu
      have hd0:dn=0:=by
       unfold aeS at hdn;split at hdn<;>first|cases hdn;done|(cases hdn;rfl)|(rename_i heq;cases heq;done)|(rename_i heq;cases heq;cases hdn;rfl)
      split at hb
      ·rename_i h0
       cases hb;have:=zero h0;subst this;rename_i q1 q2;have e0: ∃q,us[0]? =some (.slice none 0 q):=by
        unfold aeS at hdn;split at hdn<;>first|cases hdn;done|(rename_i heq;cases heq;done)|(rename_i heq;cases heq;exact⟨_,hu0⟩)|cases hdn
       obtain⟨q,e0⟩:=e0;subst hd0;refine⟨_,w,ρ,xH (w':=w) ht0 e0 hu1 jD (λw=>run_sizeOf hT hte w) hlen hvs rfl,λ_ _=>rfl,Ren.le_refl _,aY _,hR,by simp only[bF];rw[h0];rfl,Keeps.refl _ _⟩
      ·cases hb
     ·cases hb
    ·cases hb
   ·cases hb
  ·cases hb
 ·cases hb
def aqs(tt:TT)(t:TypeId)(l c:AV)(h:Heap):Option (AV×Heap):=
 match tt t,l,c with
 |some ti,.lit (.int _ l),.lit (.int _ c)=>match ti.desc with
  | .slice e=>match tt e with
   |some te=>if 0<=l/\l<=c/\(te.bytes:Int)*c<=2^48/\c<2^62 then
     bif Nat.beq te.zero.length te.size then some (h.new (λk=> .sl k 0 l.toNat c.toNat) (.cells e (.tr (c.toNat*te.size) (Zl te.zero) .leaf)))else none
    else none
   |none=>none
  |_=>none
 |_,_,_=>none
def aqt(tt:TT)(t:TypeId)(l c:AV)(h:Heap):Option (AV×Heap):=
 match tt t,l,c with
 |some ti,.lit (.int _ 0),.lit (.int _ c)=>match ti.desc with
  | .slice e=>match tt e with
   |some te=>if 0<=c/\(te.bytes:Int)*c<=2^48/\c<2^62 then
     bif Nat.beq te.zero.length te.size then some (h.new (λk=> .slU k 0 0 te.size) (.room e (.raw [])))else none
    else none
   |none=>none
  |_=>none
 |_,_,_=>none
theorem wrap_i64{c:Int}(h0:0<=c)(h1:c<2^62):IntKind.i64.wrap c=c:=by
 have e:(2:Int)^62=4611686018427387904:=rfl;rw[e]at h1;simp[IntKind.wrap,IntKind.bits,IntKind.signed];omega
theorem run_make{P:Program}{tt:TT}(hT:tt.ok P){w:World}{t e:TypeId}{ti te:TI}(hti:tt t=some ti)(hd:ti.desc= .slice e)(hte:tt e=some te){k k':IntKind}{l c:Int}
  (hc:0<=l/\l<=c/\(te.bytes:Int)*c<=2^48/\c<2^62) (hz:te.zero.length=te.size):
  ∃arr:Array Value,(Instr.makeSlice t (.int k l) (.int k' c)).run P w= .ok (.slice (some ⟨w.heap.size,0,none⟩) l.toNat c.toNat) (w.alloc (.cells arr e))/\arr.size=c.toNat*te.size/\
   ∀j,j<c.toNat*te.size->arr[j]? =te.zero[j%te.zero.length]? :=by
 obtain⟨i,hi,hib,his⟩:=ae1 (P:=P) hT hte w;obtain⟨z,hzr,hzc⟩:=iZ (P:=P) hT hte w;obtain⟨d1,r1,_,m1⟩:=dH (P:=P) hT hti w;rw[dB (m1.trans hd)]at r1;obtain⟨h0,h1,h2,h3⟩:=hc;have wl:IntKind.i64.wrap l=l:=wrap_i64 h0 (by omega);have wc:IntKind.i64.wrap c=c:=wrap_i64 (by omega) h3;have hn: ¬((c<0\/(i.bytes:Int)*c>2^48)\/l<0\/l>c):=by rw[hib];omega
 have hn': ¬((decide (c<0)||decide ((i.bytes:Int)*c>2^48)||decide (l<0)||decide (l>c))=true):=by
  simp only[Bool.or_eq_true,decide_eq_true_eq];omega
 have hz0:z.cells.size=te.size:=by rw[<-Array.length_toList,hzc,hz]
 let n:=c.toNat*te.size
 by_cases hn0:n=0
 ·refine⟨(Array.range n).map (λ_=>default),?_,by simp[n],λj hj=>by omega⟩
  simp only[Instr.makeSlice,Sem.run_bind,r1,Result.andThen_ok,asInt,asIntOf,Sem.run_pure,hi,wl,wc,Sem.run_ite];rw[if_neg (by simpa using hn')];simp only[run_askRoom,Result.andThen_ok,run_sizeOf hT hte];have hn0':c.toNat*te.size=0:=hn0;simp[hn0',newRow,n]
 ·refine⟨(Array.range n).map (z.cells[·%z.cells.size]!),?_,by simp[n],λj hj=> ?_⟩
  ·simp only[Instr.makeSlice,Sem.run_bind,r1,Result.andThen_ok,asInt,asIntOf,Sem.run_pure,hi,wl,wc,Sem.run_ite]
   rw[if_neg (by simpa using hn')];simp only[run_askRoom,Result.andThen_ok,run_sizeOf hT hte];have hn0': ¬c.toNat*te.size=0:=hn0;simp[hn0',newRow,hzr,n]
  ·have hj':j<n:=hj
   have hzpos:0<z.cells.size:=by
    rw[hz0];exact Nat.pos_of_ne_zero λh=>hn0 (by simp[n,h])
   have hm:j%z.cells.size<z.cells.size:=Nat.mod_lt _ hzpos;rw[Array.getElem?_map,Array.getElem?_range];simp only[hj',if_true,Option.map_some];rw[<-hzc,Array.length_toList,Array.getElem?_toList];simp[hm]
theorem alp{P:Program}{tt:TT}(hT:tt.ok P){h h':Heap}{ρ:Ren}{T:Nat->Prop}{w:World}(hR:Rel h ρ T w){t:TypeId}{l c r:AV}{u v:Value}
  (hb:aqs tt t l c h=some (r,h')) (hu:bF ρ l u) (hv:bF ρ c v):XOk P (Instr.makeSlice t u v) h ρ T w r h':=by
 unfold aqs at hb;split at hb
 ·rename_i ti k l k' c hti
  simp only[bF]at hu hv;subst hu;subst hv;split at hb
  ·rename_i e hd
   split at hb
   ·rename_i te hte
    split at hb
    ·rename_i hc
     cases hz:Nat.beq te.zero.length te.size with
     |false=>rw[hz]at hb;simp at hb
     |true=>
      rw[hz]at hb;simp only[aP,Heap.Bc,ak,Prod.mk.injEq]at hb;obtain⟨rfl,rfl⟩:=hb;have hz:=au hz;obtain⟨arr,hrun,GI,alq⟩:=run_make (P:=P) hT (w:=w) hti hd hte (k:=k) (k':=k') hc hz
      obtain⟨ρ',h1,h2,h3,h4,h5⟩:=hR.jZ (e:=e) (c:= .tr (c.toNat*te.size) (Zl te.zero) .leaf) (arr:=arr) (by simp[Cs.size,GI]) (by
       intro j y hj;have hlt:=Cs.dW hj;simp only[Cs.size]at hlt;simp only[Cs.get,bg.2 hlt,aP,PM.uD,Zl,List.length_map,List.getElem?_map]at hj;rw[aA,alq j hlt];cases hq:te.zero[j%te.zero.length]? with
       |none=>rw[hq]at hj;cases hj
       |some q=>rw[hq]at hj;cases hj;exact⟨q,rfl,by simp only[bF]⟩)
      exact⟨_,_,ρ',hrun,h3,h1,by simp,h4,by simp only[bF];exact⟨_,h2,rfl⟩,h5⟩
    ·cases hb
   ·cases hb
  ·cases hb
 ·cases hb
theorem alr{P:Program}{tt:TT}(hT:tt.ok P){h h':Heap}{ρ:Ren}{T:Nat->Prop}{w:World}(hR:Rel h ρ T w){t:TypeId}{l c r:AV}{u v:Value}
  (hb:aqt tt t l c h=some (r,h')) (hu:bF ρ l u) (hv:bF ρ c v):XOk P (Instr.makeSlice t u v) h ρ T w r h':=by
 unfold aqt at hb;split at hb
 ·rename_i ti k k' c hti
  simp only[bF]at hu hv;subst hu;subst hv;split at hb
  ·rename_i e hd
   split at hb
   ·rename_i te hte
    split at hb
    ·rename_i hc
     cases hz:Nat.beq te.zero.length te.size with
     |false=>rw[hz]at hb;simp at hb
     |true=>
      rw[hz]at hb;simp only[aP,Heap.Bc,ak,Prod.mk.injEq]at hb;obtain⟨rfl,rfl⟩:=hb;have hz:=au hz;obtain⟨arr,hrun,GI,alq⟩:=run_make (P:=P) hT (w:=w) hti hd hte (k:=k) (k':=k') (l:=0) ⟨by omega,hc.1,hc.2⟩ hz;obtain⟨ρ',h1,h2,h3,h4,h5⟩:=hR.push_room (e:=e) (c:= .raw []) (arr:=arr) (by simp[Cs.size]) (by intro j y hj;simp[Cs.get]at hj);exact⟨_,_,ρ',hrun,h3,h1,by simp,h4,by simp only[bF];exact⟨_,c.toNat,h2,rfl,by simp,by simp[GI]⟩,h5⟩
    ·cases hb
   ·cases hb
  ·cases hb
 ·cases hb
def qg(tt:TT)(t:TypeId)(len:Nat)(ps:List (Nat×AV))(h:Heap):Option (AV×Heap):=
 match tt t with
 |some ti=>match ti.desc with
  | .slice e=>match tt e with
   |some te=>bif Nat.beq te.size 0|| !Nat.beq te.zero.length te.size||Nat.ble (2^24+1) (len*te.size)then none else
    match Um (λi=>some (i*te.size,te.size)) ((List.range (len*te.size)).map λj=> .lit (te.zero[j%te.zero.length]?.getD default)) ps with
    |some l=>some (h.new (λk=> .sl k 0 len len) (.cells e (.av l)))
    |none=>none
   |none=>none
  |_=>none
 |none=>none
theorem GK{P:Program}{tt:TT}(hT:tt.ok P){h h':Heap}{ρ:Ren}{T:Nat->Prop}{w:World}(hR:Rel h ρ T w){t:TypeId}{len:Nat}{ps:List (Nat×AV)}{us:Array (Nat×Value)}{r:AV}
  (hb:qg tt t len ps h=some (r,h')) (hp:aqn ρ ps us.toList):XOk P (Instr.buildSlice t len us) h ρ T w r h':=by
 unfold qg at hb;split at hb
 ·rename_i ti hti
  split at hb
  ·rename_i e hd
   split at hb
   ·rename_i te hte
    cases hck:(Nat.beq te.size 0|| !Nat.beq te.zero.length te.size||Nat.ble (2^24+1) (len*te.size))with
    |true=>rw[hck]at hb;simp at hb
    |false=>
     rw[hck]at hb;simp only[aQ]at hb;simp only[Bool.or_eq_false_iff,Bool.not_eq_false']at hck;obtain⟨⟨k1,k2⟩,k3⟩:=hck;have k1:te.size≠0:=λh0=>by rw[h0]at k1;cases k1
     have k2:=au k2;have k3: ¬len*te.size>2^24:=λh0=>by
      have:Nat.ble (2^24+1) (len*te.size)=true:=by rw[Nat.ble_eq];omega
      rw[this]at k3;cases k3
     split at hb
     ·rename_i l hf
      rw[Heap.Bc]at hb;cases hb;obtain⟨d1,r1,_,m1⟩:=dH (P:=P) hT hti w;rw[dB (m1.trans hd)]at r1;obtain⟨z,hzr,hzc⟩:=iZ (P:=P) hT hte w;have hz0:z.cells.size=te.size:=by rw[<-Array.length_toList,hzc,k2]
      let ao9:Array Value:=if len*te.size=0 then(Array.range (len*te.size)).map (λ_=>default)else(Array.range (len*te.size)).map (z.cells[·%z.cells.size]!)
      have hl0:dQ ρ ((List.range (len*te.size)).map λj=>AV.lit (te.zero[j%te.zero.length]?.getD default)) ao9.toList:=by
       refine dQ.Zi (by simp only[ao9];split<;>simp) λk a ha=> ?_
       rw[List.getElem?_map]at ha;cases hk:(List.range (len*te.size))[k]? with
       |none=>rw[hk]at ha;cases ha
       |some j=>
        rw[hk]at ha;simp only[Option.map_some,ak]at ha;subst ha;obtain⟨hlt,hj⟩:=List.getElem?_eq_some_iff.1 hk;simp at hlt hj;subst hj;have hne: ¬len*te.size=0:=by omega
        have hm:k%z.cells.size<z.cells.size:=Nat.mod_lt _ (by omega);refine⟨te.zero[k%te.zero.length]?.getD default,?_,by simp only[bF]⟩;simp only[ao9,if_neg hne,Array.getElem?_toList,Array.getElem?_map,Array.getElem?_range,hlt,if_true,Option.map_some,ak];rw[<-hzc,Array.length_toList,Array.getElem?_toList];simp[hm]
      obtain⟨arr',abP,hr⟩:=CV ps us.toList _ l ao9 hf hp hl0;obtain⟨ρ',h1,h2,h3,h4,h5⟩:=hR.jZ (e:=e) (c:= .av l) (arr:=arr') (by rw[<-Array.length_toList,<-hr.length];rfl) (by simpa using fF.av hr);refine⟨.slice (some ⟨w.heap.size,0,none⟩) len len,_,ρ',?_,h3,h1,by simp,h4,by simp only[bF];exact⟨_,h2,rfl⟩,h5⟩;simp only[Instr.buildSlice,Sem.run_bind,r1,Result.andThen_ok,run_sizeOf hT hte,Sem.run_ite];rw[if_neg k3];by_cases hn0:len*te.size=0
      ·simp only[if_pos hn0,Sem.run_pure,Result.andThen_ok]
       have:ao9=(Array.range (len*te.size)).map (λx=>(#[]:Array Value)[x%(#[]:Array Value).size]!):=by
        simp only[ao9,if_pos hn0];congr 1
       rw[<-this,abP];simp only[newRow,Sem.run_bind,run_newObj,Sem.run_pure,Result.andThen_ok];rfl
      ·simp only[if_neg hn0,hzr,Sem.run_pure,Result.andThen_ok]
       have:ao9=(Array.range (len*te.size)).map (z.cells[·%z.cells.size]!):=by simp only[ao9,if_neg hn0]
       rw[<-this,abP];simp only[newRow,Sem.run_bind,run_newObj,Sem.run_pure,Result.andThen_ok];rfl
     ·cases hb
   ·cases hb
  ·cases hb
 ·cases hb
abbrev Fr:=PM AV
def look(fr:Fr)(t:Nat):AV:=match fr.get t with
 |some v=>v
 |none=> .any
def GL(fr:Fr)(d:Option Tmp)(v:AV):Fr:=match d with
 |some d=>fr.set d (some v)
 |none=>fr
def evA(fr:Fr):Operand->AV
 | .tmp t=>look fr t
 | .const v=> .lit v
 | .global _=> .any
 | .func f=> .fn (.func f) [] []
structure oC (ρ:Ren) (n:Nat) (fr:Fr) (a:Act):Prop where
 size:a.tmps.size=n
 defers:a.defers=[]
 vals: ∀t,bF ρ (look fr t) (a.tmps.getD t undef)
theorem jP{fr:Fr}{d:Tmp}{v:AV}(t:Nat):look (GL fr (some d) v) t=if t=d then v else look fr t:=by
 simp only[look,GL,PM.dR];by_cases h:t=d
 ·simp[h]
 ·simp[h]
def OW(n:Nat):Option Tmp->Bool
 |some d=>Nat.blt d n
 |none=>true
theorem oC.put{ρ:Ren}{n:Nat}{fr:Fr}{a:Act}(h:oC ρ n fr a){d:Option Tmp}{v:AV}{u:Value}(hd:OW n d=true)(hv:bF ρ v u):oC ρ n (GL fr d v) (a.put d u):=by
 cases d with
 |none=>exact h
 |some d=>
  have hd':d<n:=bg.1 hd;refine⟨by simp[Act.put,h.size],h.defers,λt=> ?_⟩;rw[jP];by_cases ht:t=d
  ·subst ht
   rw[if_pos rfl];have:t<a.tmps.size:=by rw[h.size];exact hd'
   simpa[Act.put,this]using hv
  ·rw[if_neg ht]
   have:=h.vals t;simp only[Act.put,Array.getD_eq_getD_getElem?]at this ⊢;rw[Array.getElem?_setIfInBounds_ne (Ne.symm ht)];exact this
theorem oC.mono{ρ ρ':Ren}(hρ:ρ.le ρ'){n:Nat}{fr:Fr}{a:Act}(h:oC ρ n fr a):oC ρ' n fr a:=⟨h.size,h.defers,λt=>bF.mono hρ _ _ (h.vals t)⟩
theorem oC.ev{ρ:Ren}{n:Nat}{fr:Fr}{a:Act}(h:oC ρ n fr a)(x:Operand):bF ρ (evA fr x) (a.eval x):=by
 cases x with
 |tmp t=>exact h.vals t
 |const v=>simp only[evA,bF,Act.eval]
 |global g=>simp only[evA,bF]
 |func f=>simp only[evA,bF,Act.eval];exact⟨#[],#[],rfl,.nil,.nil⟩
def alf(f:Operand->AV):Option Operand->Option AV
 |none=>none
 |some x=>some (f x)
theorem uI{ρ:Ren}{f:Operand->AV}{g:Operand->Value}(h: ∀x,bF ρ (f x) (g x))(o:Option Operand):qc ρ (alf f o) (o.map g):=by
 cases o with
 |none=>rfl
 |some x=>exact⟨_,rfl,h x⟩
theorem mD{ρ:Ren}{f:Operand->AV}{g:Operand->Value}(h: ∀x,bF ρ (f x) (g x)): ∀l:List Operand,dQ ρ (l.map f) (l.map g)
 |[]=> .nil
 |x::l=> .cons (h x) (mD h l)
theorem JG{ρ:Ren}{f:Operand->AV}{g:Operand->Value}(h: ∀x,bF ρ (f x) (g x)): ∀l:List (Nat×Operand),aqn ρ (l.map λp=>(p.1,f p.2)) (l.map λp=>(p.1,g p.2))
 |[]=>rfl
 |(_,x)::l=>⟨_,_,rfl,h x,JG h l⟩
def bltN(tt:TT)(b:Builtin)(ts:List TypeId)(xs:List AV):Option AV:=
 match b,ts,xs with
 | .len,t::_,x::_=>lenN tt t x
 | .cap,t::_,x::_=>iI tt t x
 | .min,_,xs=>minN xs
 | .max,_,xs=>maxN xs
 |_,_,_=>none
def opN(tt:TT)(op:Op)(ev:Operand->AV):Option AV:=
 match op with
 | .move x=>some (ev x)
 | .assign x=>some (ev x)
 | .pick c a b=>match ev c with
  | .lit (.bool t)=>some (bif t then ev a else ev b)
  |_=>none
 | .nilCheck x=>nilN (ev x)
 | .binOp o t x y _=>abL tt o t (ev x) (ev y)
 | .unOp o _ x=>unN o (ev x)
 | .convert s d x=>ae8 tt s d (ev x)
 | .makeFunc f a b=>some (.fn f (a.toList.map ev) (b.toList.map ev))
 | .slice t x lo hi mx=>oU tt t (ev x) (alf ev lo) (alf ev hi) (alf ev mx)
 | .fieldAddr s x f=>jI tt s (ev x) f
 | .field s x f=>fieldN tt s (ev x) f
 | .indexAddr t x i=>ku tt t (ev x) (ev i)
 | .index t x i=>H7 tt t (ev x) (ev i)
 | .extract x i=>JC (ev x) i
 | .build t ps=>afb tt t (ps.toList.map λp=>(p.1,ev p.2))
 | .call c=>match c.callee with
  | .builtin b=>bltN tt b c.argTypes.toList (c.args.toList.map ev)
  |_=>none
 |_=>none
theorem nP{P:Program}{w w':World}{s:Sem Value}{u:Value}(h:s.run P w= .ok u w'):(do pure (Next.value (<-s)):Sem Next).run P w= .ok (.value u) w':=by
 simp[h]
theorem fV{e:Operand->Value}{c:Call}{b:Builtin}(h:c.callee= .builtin b)(ty:TypeId)(P:Program)(w:World):
  ∃cs,(resolve e c ty).run P w= .ok {target:= .builtin b c.argTypes ty cs,args:=c.args.map e} w:=by
 unfold resolve;simp only[h];exact⟨_,rfl⟩
theorem atN{P:Program}{tt:TT}(hT:tt.ok P){ρ:Ren}{o:Oper}{ev:Operand->AV}{e:Operand->Value}(he: ∀x,bF ρ (ev x) (e x)){v:AV}(h:opN tt o.op ev=some v):
  ∃u,(∀w,(execOp e o).run P w= .ok (.value u) w)/\bF ρ v u:=by
 obtain⟨dst,op,ty,pos,after,guard⟩:=o;have wrap: ∀{s:Sem Value},NOk P s ρ v-> ∃u,(∀w,(do pure (Next.value (<-s)):Sem Next).run P w= .ok (.value u) w)/\bF ρ v u:=
  λ⟨u,hu,hr⟩=>⟨u,λw=>nP (hu w),hr⟩
 cases op<;>simp only[opN]at h<;>try (cases h;done)
 case move x=>cases h;exact⟨e x,λw=>by simp[execOp],he x⟩
 case assign x=>cases h;exact⟨e x,λw=>by simp[execOp],he x⟩
 case pick c a b=>
  split at h
  ·rename_i t ht
   cases h;have:=he c;rw[ht]at this;simp only[bF]at this;cases t with
   |true=>exact⟨e a,λw=>by simp[execOp,this,asBool],he a⟩
   |false=>exact⟨e b,λw=>by simp[execOp,this,asBool],he b⟩
  ·cases h
 case nilCheck x=>
  obtain⟨u,hu,hr⟩:=aqh (P:=P) h (he x);refine⟨u,λw=> ?_,hr⟩;have:=hu w;unfold gQ at this;simp only[execOp];exact this
 case binOp o t x y yt=>exact wrap (ae7 (P:=P) (xo:=x) (yo:=y) hT h (he x) (he y))
 case unOp o t x=>exact wrap (atJ (P:=P) h (he x))
 case convert s d x=>exact wrap (JB (P:=P) hT h (he x))
 case makeFunc f a b=>
  cases h;refine wrap (Ul (P:=P) ?_ ?_)
  ·simpa using mD he a.toList
  ·simpa using mD he b.toList
 case slice t x lo hi mx=>exact wrap (mg (P:=P) hT h (he x) (uI he lo) (uI he hi) (uI he mx))
 case fieldAddr s x f=>exact wrap (pY (P:=P) hT h (he x))
 case field s x f=>exact wrap (xA (P:=P) hT h (he x))
 case indexAddr t x i=>exact wrap (jM (P:=P) hT h (he x) (he i))
 case index t x i=>exact wrap (xB (P:=P) hT h (he x) (he i))
 case extract x i=>exact wrap (Uk (P:=P) h (he x))
 case build t ps=>
  refine wrap (afc (P:=P) hT h ?_);simpa using JG he ps.toList
 case call c=>
  split at h
  ·rename_i b hb
   have hl:dQ ρ (c.args.toList.map ev) (c.args.map e).toList:=by simpa using mD he c.args.toList
   have key: ∀{s:Array TypeId->TypeId->Array Value->Sem Value},(∀cs args w,(builtin b c.argTypes ty cs args).run P w=(do pure (Next.value (<-s c.argTypes ty args)):Sem Next).run P w)->NOk P (s c.argTypes ty (c.args.map e)) ρ v->
     ∃u,(∀w,(execOp e ⟨dst,.call c,ty,pos,after,guard⟩).run P w= .ok (.value u) w)/\bF ρ v u:=by
    intro s hs ⟨u,hu,hr⟩;refine⟨u,λw=> ?_,hr⟩;obtain⟨cs,hcs⟩:=fV (e:=e) hb ty P w;simp only[execOp,Sem.run_bind,hcs,Result.andThen_ok,invoke,hs];simp[hu]
   have first: ∀x r,c.args.toList.map ev=x::r-> ∃u,(c.args.map e)[0]? =some u/\bF ρ x u:=λx r hx=>by
    rw[hx]at hl;obtain⟨u,hu,hr⟩:=hl.get 0 x rfl;exact⟨u,by simpa using hu,hr⟩
   have firstT: ∀t r,c.argTypes.toList=t::r->c.argTypes[0]? =some t:=λt r ht=>by
    rw[<-Array.getElem?_toList,ht];rfl
   unfold bltN at h;split at h
   ·rename_i t r x r' ht hx
    obtain⟨u,hu,hr⟩:=first x r' hx
    exact key (s:=Builtin.len_) (λcs args w=>rfl) (aqj hT h hr (firstT t r ht) hu)
   ·rename_i t r x r' ht hx
    obtain⟨u,hu,hr⟩:=first x r' hx
    exact key (s:=Builtin.cap_) (λcs args w=>rfl) (aqk hT h hr (firstT t r ht) hu)
   ·exact key (s:=Builtin.min_) (λcs args w=>rfl) (aql h hl)
   ·exact key (s:=Builtin.max_) (λcs args w=>rfl) (aqm h hl)
   ·cases h
  ·cases h
def bltX(tt:TT)(b:Builtin)(ts:List TypeId)(xs:List AV)(h:Heap):Option (AV×Heap):=
 match b,ts,xs with
 | .append,t::t'::_,x::y::_=>JF tt t t' x y h
 | .copy,t::_,x::y::_=>aqr tt t x y h
 |_,_,_=>none
def opX(u:Bool)(tt:TT)(op:Op)(ev:Operand->AV)(h:Heap):Option (AV×Heap):=
 match op with
 | .alloc e=>HY tt e h
 | .box e x=>atG e (ev x) h
 | .store t a x=>match OL tt t (ev a) (ev x) h with
  |some h'=>some (.lit undef,h')
  |none=>none
 | .makeSlice t l c=>bif u then aqt tt t (ev l) (ev c) h else aqs tt t (ev l) (ev c) h
 | .buildSlice t n ps=>qg tt t n (ps.toList.map λp=>(p.1,ev p.2)) h
 | .call c=>match c.callee with
  | .builtin b=>bltX tt b c.argTypes.toList (c.args.toList.map ev) h
  |_=>none
 |_=>none
def OX(P:Program)(s:Sem Next)(w:World)(u:Value)(w':World):Prop:=s.run P w= .ok (.value u) w'\/(s.run P w= .ok .skip w'/\u=undef)
theorem apa{P:Program}{tt:TT}(hT:tt.ok P){h h':Heap}{ρ:Ren}{T:Nat->Prop}{w:World}(hR:Rel h ρ T w){b:Bool}{o:Oper}{ev:Operand->AV}{e:Operand->Value}(he: ∀x,bF ρ (ev x) (e x)){v:AV}
  (hh:opX b tt o.op ev h=some (v,h')): ∃u w' ρ',OX P (execOp e o) w u w'/\(∀i,i<h.next->ρ' i=ρ i)/\ρ.le ρ'/\h.next<=h'.next/\Rel h' ρ' T w'/\bF ρ' v u/\Keeps T w w':=by
 obtain⟨dst,op,ty,pos,after,guard⟩:=o;have wrap: ∀{s:Sem Value},XOk P s h ρ T w v h'-> ∃u w' ρ',OX P (do pure (Next.value (<-s)):Sem Next) w u w'/\(∀i,i<h.next->ρ' i=ρ i)/\ρ.le ρ'/\h.next<=h'.next/\Rel h' ρ' T w'/\bF ρ' v u/\Keeps T w w':=
  λ⟨u,w',ρ',h1,h2⟩=>⟨u,w',ρ',.inl (nP h1),h2⟩
 cases op<;>simp only[opX]at hh<;>try (cases hh;done)
 case alloc el=>exact wrap (OM hT hR hh)
 case box el x=>exact wrap (ae4 hR hh (he x))
 case store t a x=>
  split at hh
  ·rename_i h2 hs
   cases hh;obtain⟨w',hrun,hR',hn,hk⟩:=Dv (P:=P) hT hR hs (he a) (he x);exact⟨undef,w',ρ,.inr ⟨by simp[execOp,hrun],rfl⟩,λ_ _=>rfl,Ren.le_refl _,by omega,hR',by simp only[bF],hk⟩
  ·cases hh
 case makeSlice t l c=>
  cases b with
  |true=>exact wrap (alr hT hR hh (he l) (he c))
  |false=>exact wrap (alp hT hR hh (he l) (he c))
 case buildSlice t n ps=>
  refine wrap (GK hT hR hh ?_);simpa using JG he ps.toList
 case call c=>
  split at hh
  ·rename_i bb hb
   have hl:dQ ρ (c.args.toList.map ev) (c.args.map e).toList:=by simpa using mD he c.args.toList
   have key: ∀{s:Array TypeId->TypeId->Array Value->Sem Value},(∀cs args w,(builtin bb c.argTypes ty cs args).run P w=(do pure (Next.value (<-s c.argTypes ty args)):Sem Next).run P w)->
     XOk P (s c.argTypes ty (c.args.map e)) h ρ T w v h'->
     ∃u w' ρ',OX P (execOp e ⟨dst,.call c,ty,pos,after,guard⟩) w u w'/\(∀i,i<h.next->ρ' i=ρ i)/\ρ.le ρ'/\h.next<=h'.next/\Rel h' ρ' T w'/\bF ρ' v u/\Keeps T w w':=by
    intro s hs ⟨u,w',ρ',h1,h2⟩;refine⟨u,w',ρ',.inl ?_,h2⟩;obtain⟨cs,hcs⟩:=fV (e:=e) hb ty P w;simp only[execOp,Sem.run_bind,hcs,Result.andThen_ok,invoke,hs];simp[h1]
   unfold bltX at hh;split at hh
   ·rename_i t t' r x y r' ht hx
    rw[hx]at hl;obtain⟨u0,hu0,hr0⟩:=hl.get 0 x rfl;obtain⟨u1,hu1,hr1⟩:=hl.get 1 y rfl;exact key (s:=Builtin.append_) (λcs args w=>rfl) (H8 hT hR hh hr0 hr1 (by rw[<-Array.getElem?_toList,ht];rfl) (by rw[<-Array.getElem?_toList,ht];rfl) (by simpa using hu0) (by simpa using hu1))
   ·rename_i t r x y r' ht hx
    rw[hx]at hl;obtain⟨u0,hu0,hr0⟩:=hl.get 0 x rfl;obtain⟨u1,hu1,hr1⟩:=hl.get 1 y rfl;exact key (s:=Builtin.copy_) (λcs args w=>rfl) (alo hT hR hh hr0 hr1 (by rw[<-Array.getElem?_toList,ht];rfl) (by simpa using hu0) (by simpa using hu1))
   ·cases hh
  ·cases hh
structure St (k n:Nat) (ρ:Ren) (T:Nat->Prop) (fr:Fr) (h:Heap) (a:Act) (w:World):Prop where
 le:k<=h.next
 rel:Rel h ρ T w
 fr:oC ρ n fr a
def After(k n:Nat)(ρ₀:Ren)(T:Nat->Prop)(w₀:World)(Q:Fr->Heap->Prop)(a:Act)(w:World):Prop:=
 ∃ρ fr h,(∀i,i<k->ρ i=ρ₀ i)/\St k n ρ T fr h a w/\Keeps T w₀ w/\Q fr h
theorem After.trans{k n:Nat}{ρ₀ ρ₁:Ren}{T:Nat->Prop}{w₀ w₁:World}{Q:Fr->Heap->Prop}{a:Act}{w:World}(hρ: ∀i,i<k->ρ₁ i=ρ₀ i)(hk:Keeps T w₀ w₁)(h:After k n ρ₁ T w₁ Q a w):After k n ρ₀ T w₀ Q a w:=by
 obtain⟨ρ,fr,h',h1,h2,h3,h4⟩:=h;exact⟨ρ,fr,h',λi hi=>(h1 i hi).trans (hρ i hi),h2,hk.trans h3,h4⟩
theorem After.mono{k n:Nat}{ρ₀:Ren}{T:Nat->Prop}{w₀:World}{Q Q':Fr->Heap->Prop}(hq: ∀fr h,Q fr h->Q' fr h){a:Act}{w:World}(h:After k n ρ₀ T w₀ Q a w):After k n ρ₀ T w₀ Q' a w:=
 let ⟨ρ,fr,h',h1,h2,h3,h4⟩:=h;⟨ρ,fr,h',h1,h2,h3,hq _ _ h4⟩
def Uo(k n:Nat)(ρ₀:Ren)(T:Nat->Prop)(w₀:World)(Q:Fr->Heap->Prop):Exit->Act->World->Prop
 | .normal,a,w=>After k n ρ₀ T w₀ Q a w
 |_,_,_=>False
def RPlan(P:Program)(k n:Nat)(ops:Array Oper)(pl:List Stp)(Q:Fr->Heap->Prop)(fr:Fr)(h:Heap):Prop:=
 ∀ρ T w a,St k n ρ T fr h a w->Ba P ops (Uo k n ρ T w Q) pl a w
def qR(ops:Array Oper)(o:Oper)(fr:Fr):Option Bool:=
 match o.guard with
 |none=>some true
 |some (j,want)=>match ops[j]? with
  |some oj=>match oj.dst with
   |some d=>match look fr d with
    | .lit (.bool b)=>some (b==want)
    | .lit (.tuple _)=>some false
    |_=>none
   |none=>none
  |none=>none
theorem abR{ops:Array Oper}{o:Oper}{fr:Fr}{ρ:Ren}{n:Nat}{a:Act}(hf:oC ρ n fr a){b:Bool}(h:qR ops o fr=some b):Region.wanted o (yielded ops a.tmps)=b:=by
 unfold qR at h;unfold Region.wanted;split at h
 ·rename_i hg;cases h;simp[hg]
 ·rename_i j want hg
  simp only[hg];split at h
  ·rename_i oj hoj
   split at h
   ·rename_i d hd
    have hv:=hf.vals d;split at h
    ·rename_i x hx
     cases h;rw[hx]at hv;simp only[bF]at hv;have:a.tmps[d]? =some (.bool x):=by
      simp only[Array.getD_eq_getD_getElem?]at hv;cases hh:a.tmps[d]? with
      |none=>rw[hh]at hv;simp[undef]at hv
      |some y=>rw[hh]at hv;simpa using hv
     simp[yielded,hoj,hd,this]
    ·rename_i x hx
     cases h;rw[hx]at hv;simp only[bF]at hv;cases hh:a.tmps[d]? with
     |none=>simp[yielded,hoj,hd,hh]
     |some y=>
      simp only[Array.getD_eq_getD_getElem?,hh,Option.getD_some]at hv;subst hv;simp[yielded,hoj,hd,hh]
    ·cases h
   ·cases h
  ·cases h
theorem OY{P:Program}{ops:Array Oper}{Q:Exit->Act->World->Prop}{i:Nat}{o:Oper}{a:Act}{w w':World}{u:Value}{K:Act->World->Prop}(ho:ops[i]? =some o)
  (hw:Region.wanted o (yielded ops a.tmps)=true) (hr:OX P (execOp a.eval o) w u w') (hK:K (a.put o.dst u) w'):wpOp P ops Q i K a w:=by
 unfold wpOp;simp only[ho,hw,if_true,Oper.wp];refine .inl ?_;rcases hr with hr|⟨hr,rfl⟩
 ·rw[hr];exact hK
 ·rw[hr];exact hK
section
variable{P:Program}{tt:TT}{k n:Nat}{ops:Array Oper}{Q:Fr->Heap->Prop}{fr:Fr}{h:Heap}
theorem abS{ρ₀ ρ₁:Ren}{T:Nat->Prop}{w₀ w₁:World}(hρ: ∀i,i<k->ρ₁ i=ρ₀ i)(hk:Keeps T w₀ w₁)(e:Exit)(a:Act)(w:World)(hh:Uo k n ρ₁ T w₁ Q e a w):Uo k n ρ₀ T w₀ Q e a w:=by
 cases e<;>first|exact After.trans hρ hk hh|exact hh.elim
theorem Oper.als{o:Oper}{a:Act}{w:World}{K K':Act->World->Prop}{Q Q':Exit->Act->World->Prop}(h: ∀a w,K a w->K' a w)(hq: ∀e a w,Q e a w->Q' e a w)
  (hh:o.wp P a w K Q):o.wp P a w K' Q':=by
 unfold Oper.wp at*
 generalize (execOp a.eval o).run P w=r at*
 cases r with
 |ok n w'=>
  cases n<;>simp only[Oper.upon]at hh ⊢<;>first
   |exact h _ _ hh
   |exact Calls.mono hh (λe w'' he=>by cases e<;>first|exact h _ _ he|exact hq _ _ _ he|exact(let ⟨a,w,q⟩:=he;⟨a,w,hq _ _ _ q⟩))
   |exact Rows.mono hh (λ_ _ he=>h _ _ he)
 |halt x w'=>cases x<;>simp only[Oper.upon]at hh ⊢<;>first|exact hq _ _ _ hh|exact hh
theorem abT{i:Nat}{a:Act}{w:World}{K K':Act->World->Prop}{Q Q':Exit->Act->World->Prop}(h: ∀a w,K a w->K' a w)(hq: ∀e a w,Q e a w->Q' e a w)
  (hh:wpOp P ops Q i K a w):wpOp P ops Q' i K' a w:=by
 unfold wpOp at*
 split
 ·exact h _ _ (by simpa[*]using hh)
 ·rename_i o ho
  simp only[ho]at hh;split
  ·rename_i hw;simp only[hw,if_true]at hh;exact hh.imp (Oper.als h hq) (λ⟨h1,a,w,h2⟩=>⟨h1,a,w,hq _ _ _ h2⟩)
  ·rename_i hw;simp only[hw]at hh;exact h _ _ hh
theorem xI{w:World}{K K':Act->Prop}(h: ∀a,K a->K' a): ∀(l:List Nat) (a:Act),CQ P ops w K l a->CQ P ops w K' l a
 |[],a,hh=>h a hh
 |_::l,_,⟨o,v,ho,hy,hh⟩=>⟨o,v,ho,hy,xI h l _ hh⟩
theorem kC{Q Q':Exit->Act->World->Prop}(hq: ∀e a w,Q e a w->Q' e a w): ∀(pl:List Stp) (a:Act) (w:World),Ba P ops Q pl a w->Ba P ops Q' pl a w
 |[],_,_,h=>hq _ _ _ h
 | .nn _::rest,_,w,⟨o,v,ho,hy,h⟩=>⟨o,v,ho,hy,kC hq rest _ w h⟩
 | .rr l::rest,a,w,h=>xI (λa' h'=>kC hq rest a' w h') l a h
 | .xx _::rest,_,_,h=>abT (λa' w' h'=>kC hq rest a' w' h') hq h
end
def lN(P:Program)(f:FuncId):Prop:= ∃fn,P.funcs[f]? =some fn/\(fn.name== "runtime.NumGoroutine")=false/\fn.body.isSome=true
def Sp(P:Program)(f:FuncId)(args:List AV)(h:Heap)(K:AV->Heap->Prop):Prop:=
 lN P f/\ ∀ρ T w vs,Rel h ρ T w->dQ ρ args vs.toList->
  Calls P f vs w (λe w'=> ∃ρ' v u h',(∀i,i<h.next->ρ' i=ρ i)/\h.next<=h'.next/\Rel h' ρ' T w'/\bF ρ' v u/\e= .returned u/\Keeps T w w'/\K v h')
theorem Sp.mono{P:Program}{f:FuncId}{args:List AV}{h:Heap}{K K':AV->Heap->Prop}(hs:Sp P f args h K)(hk: ∀v h',K v h'->K' v h'):Sp P f args h K':=
 ⟨hs.1,λρ T w vs h1 h2=>(hs.2 ρ T w vs h1 h2).mono λ_ _ ⟨ρ',v,u,h',a,b,c,d,e,f,g⟩=>⟨ρ',v,u,h',a,b,c,d,e,f,hk _ _ g⟩⟩
theorem Bg{P:Program}{f:FuncId}(h:lN P f)(args:Array Value)(w:World):(callFunc f args).run P w= .ok (.enter f args) w:=by
 obtain⟨fn,hf,hn,hb⟩:=h;have hb':fn.body.isNone=false:=by cases hbb:fn.body with
  |none=>rw[hbb]at hb;cases hb
  |some x=>rfl
 simp only[callFunc,Sem.run_bind,run_program,Result.andThen_ok,hf,hn,hb',Bool.false_eq_true,if_false,Sem.run_pure]
section
variable{P:Program}{tt:TT}{k n:Nat}{ops:Array Oper}{Q:Fr->Heap->Prop}{fr:Fr}{h:Heap}
end
def OZ(k n:Nat)(ρ₀:Ren)(T:Nat->Prop)(w₀:World)(Q:Exit->Fr->Heap->Prop)(e:Exit)(a:Act)(w:World):Prop:=
 match e with
 | .normal=>After k n ρ₀ T w₀ (Q .normal) a w
 | .exit id=>After k n ρ₀ T w₀ (Q (.exit id)) a w
 | .ret=>After k n ρ₀ T w₀ (Q .ret) a w
 |_=>False
def AWp(P:Program)(k n:Nat)(c:Code)(Q:Exit->Fr->Heap->Prop)(fr:Fr)(h:Heap):Prop:=
 ∀ρ T w a,St k n ρ T fr h a w->c.wp P (OZ k n ρ T w Q) a w
section
variable{P:Program}{k n:Nat}{Q:Exit->Fr->Heap->Prop}{fr:Fr}{h:Heap}
theorem vO{ρ₀ ρ₁:Ren}{T:Nat->Prop}{w₀ w₁:World}(hρ: ∀i,i<k->ρ₁ i=ρ₀ i)(hk:Keeps T w₀ w₁)(e:Exit)(a:Act)(w:World)(hh:OZ k n ρ₁ T w₁ Q e a w):OZ k n ρ₀ T w₀ Q e a w:=by
 cases e<;>first|exact After.trans hρ hk hh|exact hh.elim
theorem abU{Q':Exit->Fr->Heap->Prop}(hq: ∀e fr h,Q e fr h->Q' e fr h){ρ₀:Ren}{T:Nat->Prop}{w₀:World}(e:Exit)(a:Act)(w:World)(hh:OZ k n ρ₀ T w₀ Q e a w):OZ k n ρ₀ T w₀ Q' e a w:=by
 cases e<;>first|exact After.mono (hq _) hh|exact hh.elim
theorem AWp.mono{c:Code}{Q':Exit->Fr->Heap->Prop}(hq: ∀e fr h,Q e fr h->Q' e fr h)(hc:AWp P k n c Q fr h):AWp P k n c Q' fr h:=
 λρ T w a hs=>wp_mono (hc ρ T w a hs) (abU hq)
theorem AWp.after{c:Code}{R:Fr->Heap->Prop}{ρ₀:Ren}{T:Nat->Prop}{w₀:World}(hp: ∀fr h,R fr h->AWp P k n c Q fr h){a:Act}{w:World}(ha:After k n ρ₀ T w₀ R a w):c.wp P (OZ k n ρ₀ T w₀ Q) a w:=by
 obtain⟨ρ,fr,h,h1,h2,h3,h4⟩:=ha;exact wp_mono (hp fr h h4 ρ T w a h2) (vO h1 h3)
def aqu(K:Fr->Heap->Prop)(Q:Exit->Fr->Heap->Prop):Exit->Fr->Heap->Prop
 | .normal,fr,h=>K fr h
 |e,fr,h=>Q e fr h
def H9(id:Nat)(Q:Exit->Fr->Heap->Prop):Exit->Fr->Heap->Prop
 | .exit id',fr,h=>if id'=id then Q .normal fr h else Q (.exit id') fr h
 |e,fr,h=>Q e fr h
theorem alu(hq:Q .normal fr h):AWp P k n .skip Q fr h:=
 λρ _ _ _ hs=>wp_skip ⟨ρ,fr,h,λ_ _=>rfl,hs,Keeps.refl _ _,hq⟩
theorem aqv(hq:Q .ret fr h):AWp P k n .ret Q fr h:=
 λρ _ _ _ hs=>wp_ret ⟨ρ,fr,h,λ_ _=>rfl,hs,Keeps.refl _ _,hq⟩
theorem alv{id:Nat}(hq:Q (.exit id) fr h):AWp P k n (.exit id) Q fr h:=
 λρ _ _ _ hs=>wp_exit ⟨ρ,fr,h,λ_ _=>rfl,hs,Keeps.refl _ _,hq⟩
theorem aff{x y:Code}(hx:AWp P k n x (aqu (λfr h=>AWp P k n y Q fr h) Q) fr h):AWp P k n (.seq x y) Q fr h:=by
 intro ρ T w a hs;refine wp_seq (wp_mono (hx ρ T w a hs) λe a' w' hh=> ?_);cases e<;>first|exact AWp.after (λ_ _ h=>h) hh|exact hh
theorem Zo{c:Operand}{x y:Code}{b:Bool}(hc:evA fr c= .lit (.bool b))(ht:b=true->AWp P k n x Q fr h)(hf:b=false->AWp P k n y Q fr h):AWp P k n (.cond c x y) Q fr h:=by
 intro ρ T w a hs;have hv:=hs.fr.ev c;rw[hc]at hv;simp only[bF]at hv;exact wp_cond_split hv (λhb=>ht hb ρ T w a hs) (λhb=>hf hb ρ T w a hs)
theorem O1{id:Nat}{c:Code}(hc:AWp P k n c (H9 id Q) fr h):AWp P k n (.block id c) Q fr h:=by
 intro ρ T w a hs;refine wp_block (wp_mono (hc ρ T w a hs) λe a' w' hh=> ?_);cases e with
 |exit id'=>
  simp only[OZ,Exit.inBlock]at hh ⊢;by_cases hid:id'=id
  ·simp only[hid,if_true]
   exact hh.mono λfr h hq=>by simpa[H9,hid]using hq
  ·simp only[hid,if_false]
   exact hh.mono λfr h hq=>by simpa[H9,hid]using hq
 |_=>exact hh
theorem Zp{c:Code}(I:Nat->Fr->Heap->Prop){m:Nat}(h0:I m fr h)(round: ∀m fr h,I m fr h->AWp P k n c (aqu (λfr h=> ∃m',m'<m/\I m' fr h) Q) fr h):AWp P k n (.loop c) Q fr h:=by
 intro ρ₀ T w₀ a hs;let I':Act->World->Nat->Prop:=λa w m=>After k n ρ₀ T w₀ (I m) a w
 have key: ∀m a w,I' a w m-> ∀(b:Frame) (kk:List Item) (cs:List Frame),∃e a' w',OZ k n ρ₀ T w₀ Q e a' w'/\Arrives P (lone (b.at a (.code c:: .inLoop c::kk)) cs w) b kk cs e a' w':=by
  intro m
  induction m using Nat.strongRecOn with
  |_ m ih=>
   intro a w hI b kk cs;obtain⟨e,a₁,w₁,hq,harr⟩:=AWp.after (λfr h hi=>round m fr h hi) hI b (.inLoop c::kk) cs;cases e with
   |normal=>
    obtain⟨ρ,fr,h,q1,q2,q3,m',hm',q4⟩:=hq;obtain⟨e₂,a₂,w₂,hq₂,harr₂⟩:=ih m' hm' a₁ w₁ ⟨ρ,fr,h,q1,q2,q3,q4⟩ b kk cs;exact⟨e₂,a₂,w₂,hq₂,.of_steps (Steps.trans harr (.one step_inLoop)) harr₂⟩
   |exit id=>exact⟨.exit id,a₁,w₁,hq,.pass (x:= .inLoop c) rfl (λ_ _=> .inl (by simp)) harr⟩
   |ret=>exact⟨.ret,a₁,w₁,hq,.pass (x:= .inLoop c) rfl (λ_ _=> .inl (by simp)) harr⟩
   |goto l=>exact hq.elim
   |panic ch=>exact hq.elim
   |outgrown=>exact hq.elim
 intro b kk cs;obtain⟨e,a',w',hq,harr⟩:=key m a w₀ ⟨ρ₀,fr,h,λ_ _=>rfl,hs,Keeps.refl _ _,h0⟩ b kk cs;exact⟨e,a',w',hq,.of_steps (.one step_loop) harr⟩
theorem Zq{P:Program}{ops:Array Oper}{Q:Exit->Act->World->Prop}: ∀(l:List Nat) (a:Act) (w:World),Ba P ops Q (l.map .xx) a w->wpOps P ops Q l a w
 |[],a,w,h=>h
 |i::l,a,w,h=>by
  rw[wpOps_cons];exact wpOp_mono (λa' w' h'=>Zq l a' w' h') h
theorem abV{id:Nat}{ops:Array Oper}{pl:List Stp}(hpl:(List.range ops.size).map Stp.xx=pl)(hp:RPlan P k n ops pl (Q .normal) fr h):AWp P k n (.region id ops false) Q fr h:=by
 intro ρ T w a hs;refine wp_region (Zq _ a w ?_);rw[hpl];exact kC (λe a w h=>by cases e<;>first|exact h|exact h.elim) pl a w (hp ρ T w a hs)
end
mutual
def jd(τ:Nat->Nat):AV->AV
 | .any=> .any
 | .lit v=> .lit v
 | .ptr i o=> .ptr (τ i) o
 | .sl i o n c=> .sl (τ i) o n c
 | .slU i o n s=> .slU (τ i) o n s
 | .nH i k m j=> .nH (τ i) k m j
 | .slE i k m n c=> .slE (τ i) k m n c
 | .slW i k m n=> .slW (τ i) k m n
 | .slR i k m n=> .slR (τ i) k m n
 | .slZ z i k m n=> .slZ z (τ i) k m n
 | .slV z i m n=> .slV z (τ i) m n
 | .one=> .one
 | .arr n g=> .arr n g
 | .mp i=> .mp (τ i)
 | .fn f a b=> .fn f (lmap τ a) (lmap τ b)
 | .agg l=> .agg (lmap τ l)
 | .tup l=> .tup (lmap τ l)
 | .ifc t v=> .ifc t (jd τ v)
def lmap(τ:Nat->Nat):List AV->List AV
 |[]=>[]
 |a::l=>jd τ a::lmap τ l
end
mutual
def dN(n:Nat):AV->Bool
 | .any=>true
 | .lit _=>true
 | .ptr i _=>Nat.blt i n
 | .sl i _ _ _=>Nat.blt i n
 | .slU i _ _ _=>Nat.blt i n
 | .nH i _ _ _=>Nat.blt i n
 | .slE i _ _ _ _=>Nat.blt i n
 | .slW i _ _ _=>Nat.blt i n
 | .slR i _ _ _=>Nat.blt i n
 | .slZ _ i _ _ _=>Nat.blt i n
 | .slV _ i _ _=>Nat.blt i n
 | .one=>true
 | .arr .. =>true
 | .mp i=>Nat.blt i n
 | .fn _ a b=>gU n a&&gU n b
 | .agg l=>gU n l
 | .tup l=>gU n l
 | .ifc _ v=>dN n v
def gU(n:Nat):List AV->Bool
 |[]=>true
 |a::l=>dN n a&&gU n l
end
theorem JH(τ:Nat->Nat): ∀l,lmap τ l=l.map (jd τ)
 |[]=>rfl
 |a::l=>by simp[lmap,JH τ l]
theorem zh{n:Nat}: ∀{l:List AV} {k:Nat} {a:AV},gU n l=true->l[k]? =some a->dN n a=true
 |[],k,a,_,h=>by simp at h
 |b::l,0,a,hb,h=>by simp at h;subst h;simp only[gU,aJ]at hb;exact hb.1
 |b::l,k+1,a,hb,h=>by simp only[gU,aJ]at hb;exact zh hb.2 (by simpa using h)
mutual
theorem bF.jd{τ:Nat->Nat}{ρ ρ':Ren}(h: ∀i a,ρ i=some a->ρ' (τ i)=some a): ∀(v:AV) (u:Value),bF ρ v u->bF ρ' (jd τ v) u
 | .any,_,_=>by simp[bF,SE.jd]
 | .lit x,_,hv=>by simpa[bF,SE.jd]using hv
 | .ptr i o,u,hv=>by simp only[bF,SE.jd]at hv ⊢;obtain⟨a,ha,hv⟩:=hv;exact⟨a,h _ _ ha,hv⟩
 | .sl i o n c,u,hv=>by simp only[bF,SE.jd]at hv ⊢;obtain⟨a,ha,hv⟩:=hv;exact⟨a,h _ _ ha,hv⟩
 | .slU i o n s,u,hv=>by simp only[bF,SE.jd]at hv ⊢;obtain⟨a,c,ha,hv⟩:=hv;exact⟨a,c,h _ _ ha,hv⟩
 | .nH i k m j,u,hv=>by simp only[bF,SE.jd]at hv ⊢;obtain⟨a,ha,hv⟩:=hv;exact⟨a,h _ _ ha,hv⟩
 | .slE i k m n c,u,hv=>by simp only[bF,SE.jd]at hv ⊢;obtain⟨a,p,ha,hv⟩:=hv;exact⟨a,p,h _ _ ha,hv⟩
 | .slW i k m n,u,hv=>by simp only[bF,SE.jd]at hv ⊢;obtain⟨a,p,c,ha,hv⟩:=hv;exact⟨a,p,c,h _ _ ha,hv⟩
 | .slR i k m n,u,hv=>by simp only[bF,SE.jd]at hv ⊢;exact hv.imp id λ⟨a,p,c,ha,hv⟩=>⟨a,p,c,h _ _ ha,hv⟩
 | .slZ z i k m n,u,hv=>by simp only[bF,SE.jd]at hv ⊢;exact hv.imp id λ⟨hz,a,p,c,ha,hv⟩=>⟨hz,a,p,c,h _ _ ha,hv⟩
 | .slV z i m n,u,hv=>by simp only[bF,SE.jd]at hv ⊢;exact hv.imp id λ⟨hz,a,p,c,ha,hv⟩=>⟨hz,a,p,c,h _ _ ha,hv⟩
 | .one,u,hv=>by simpa only[bF,SE.jd]using hv
 | .arr ..,u,hv=>by simpa only[bF,SE.jd]using hv
 | .mp i,u,hv=>by simp only[bF,SE.jd]at hv ⊢;obtain⟨a,ha,hv⟩:=hv;exact⟨a,h _ _ ha,hv⟩
 | .fn f a b,u,hv=>by simp only[bF,SE.jd]at hv ⊢;obtain⟨x,y,hv,h1,h2⟩:=hv;exact⟨x,y,hv,dQ.lmap h _ _ h1,dQ.lmap h _ _ h2⟩
 | .agg l,u,hv=>by simp only[bF,SE.jd]at hv ⊢;obtain⟨x,hv,h1⟩:=hv;exact⟨x,hv,dQ.lmap h _ _ h1⟩
 | .tup l,u,hv=>by simp only[bF,SE.jd]at hv ⊢;obtain⟨x,hv,h1⟩:=hv;exact⟨x,hv,dQ.lmap h _ _ h1⟩
 | .ifc t v,u,hv=>by simp only[bF,SE.jd]at hv ⊢;obtain⟨x,hv,h1⟩:=hv;exact⟨x,hv,bF.jd h _ _ h1⟩
theorem dQ.lmap{τ:Nat->Nat}{ρ ρ':Ren}(h: ∀i a,ρ i=some a->ρ' (τ i)=some a): ∀(l:List AV) (u:List Value),dQ ρ l u->dQ ρ' (lmap τ l) u
 |[],_,hv=>by simpa[dQ,SE.lmap]using hv
 |a::l,_,hv=>by simp only[dQ,SE.lmap]at hv ⊢;obtain⟨v,vs,rfl,h1,h2⟩:=hv;exact⟨v,vs,rfl,bF.jd h _ _ h1,dQ.lmap h _ _ h2⟩
end
mutual
theorem bF.Ur{τ:Nat->Nat}{ρ ρ':Ren}{n:Nat}(h: ∀i,i<n->ρ i=ρ' (τ i)): ∀(v:AV) (u:Value),dN n v=true->bF ρ' (jd τ v) u->bF ρ v u
 | .any,_,_,_=>by simp[bF]
 | .lit x,_,_,hv=>by simpa[bF,SE.jd]using hv
 | .ptr i o,u,hb,hv=>by simp only[bF,SE.jd,dN]at hb hv ⊢;obtain⟨a,ha,hv⟩:=hv;exact⟨a,by rw[h i (bg.1 hb)];exact ha,hv⟩
 | .sl i o n c,u,hb,hv=>by simp only[bF,SE.jd,dN]at hb hv ⊢;obtain⟨a,ha,hv⟩:=hv;exact⟨a,by rw[h i (bg.1 hb)];exact ha,hv⟩
 | .slU i o n s,u,hb,hv=>by simp only[bF,SE.jd,dN]at hb hv ⊢;obtain⟨a,c,ha,hv⟩:=hv;exact⟨a,c,by rw[h i (bg.1 hb)];exact ha,hv⟩
 | .nH i k m j,u,hb,hv=>by simp only[bF,SE.jd,dN]at hb hv ⊢;obtain⟨a,ha,hv⟩:=hv;exact⟨a,by rw[h i (bg.1 hb)];exact ha,hv⟩
 | .slE i k m n c,u,hb,hv=>by simp only[bF,SE.jd,dN]at hb hv ⊢;obtain⟨a,p,ha,hv⟩:=hv;exact⟨a,p,by rw[h i (bg.1 hb)];exact ha,hv⟩
 | .slW i k m n,u,hb,hv=>by simp only[bF,SE.jd,dN]at hb hv ⊢;obtain⟨a,p,c,ha,hv⟩:=hv;exact⟨a,p,c,by rw[h i (bg.1 hb)];exact ha,hv⟩
 | .slR i k m n,u,hb,hv=>by simp only[bF,SE.jd,dN]at hb hv ⊢;exact hv.imp id λ⟨a,p,c,ha,hv⟩=>⟨a,p,c,by rw[h i (bg.1 hb)];exact ha,hv⟩
 | .slZ z i k m n,u,hb,hv=>by simp only[bF,SE.jd,dN]at hb hv ⊢;exact hv.imp id λ⟨hz,a,p,c,ha,hv⟩=>⟨hz,a,p,c,by rw[h i (bg.1 hb)];exact ha,hv⟩
 | .slV z i m n,u,hb,hv=>by simp only[bF,SE.jd,dN]at hb hv ⊢;exact hv.imp id λ⟨hz,a,p,c,ha,hv⟩=>⟨hz,a,p,c,by rw[h i (bg.1 hb)];exact ha,hv⟩
 | .one,u,hb,hv=>by simpa only[bF,SE.jd]using hv
 | .arr ..,u,hb,hv=>by simpa only[bF,SE.jd]using hv
 | .mp i,u,hb,hv=>by simp only[bF,SE.jd,dN]at hb hv ⊢;obtain⟨a,ha,hv⟩:=hv;exact⟨a,by rw[h i (bg.1 hb)];exact ha,hv⟩
 | .fn f a b,u,hb,hv=>by simp only[bF,SE.jd,dN,aJ]at hb hv ⊢;obtain⟨x,y,hv,h1,h2⟩:=hv;exact⟨x,y,hv,dQ.afg h _ _ hb.1 h1,dQ.afg h _ _ hb.2 h2⟩
 | .agg l,u,hb,hv=>by simp only[bF,SE.jd,dN]at hb hv ⊢;obtain⟨x,hv,h1⟩:=hv;exact⟨x,hv,dQ.afg h _ _ hb h1⟩
 | .tup l,u,hb,hv=>by simp only[bF,SE.jd,dN]at hb hv ⊢;obtain⟨x,hv,h1⟩:=hv;exact⟨x,hv,dQ.afg h _ _ hb h1⟩
 | .ifc t v,u,hb,hv=>by simp only[bF,SE.jd,dN]at hb hv ⊢;obtain⟨x,hv,h1⟩:=hv;exact⟨x,hv,bF.Ur h _ _ hb h1⟩
theorem dQ.afg{τ:Nat->Nat}{ρ ρ':Ren}{n:Nat}(h: ∀i,i<n->ρ i=ρ' (τ i)): ∀(l:List AV) (u:List Value),gU n l=true->dQ ρ' (lmap τ l) u->dQ ρ l u
 |[],_,_,hv=>by simpa[dQ,SE.lmap]using hv
 |a::l,_,hb,hv=>by simp only[dQ,SE.lmap,gU,aJ]at hb hv ⊢;obtain⟨v,vs,rfl,h1,h2⟩:=hv;exact⟨v,vs,rfl,bF.Ur h _ _ hb.1 h1,dQ.afg h _ _ hb.2 h2⟩
end
def PM.map{α β:Type}(f:α->β):PM α->PM β
 | .leaf=> .leaf
 | .node l v r=> .node (l.map f) (match v with|some x=>some (f x)|none=>none) (r.map f)
theorem PM.get_map{α β:Type}(f:α->β): ∀(t:PM α) (n:Nat),(t.map f).get n=match t.get n with|some x=>some (f x)|none=>none
 | .leaf,n=>rfl
 | .node l v r,n=>by
  simp only[PM.map,PM.get];cases Nat.beq n 0 with
  |true=>rfl
  |false=>
   cases Nat.beq (n%2) 1 with
   |true=>exact PM.get_map f l _
   |false=>exact PM.get_map f r _
def PM.all{α:Type}(f:α->Bool):PM α->Bool
 | .leaf=>true
 | .node l v r=>l.all f&&(match v with|some x=>f x|none=>true)&&r.all f
theorem PM.Us{α:Type}{f:α->Bool}: ∀{t:PM α} {n:Nat} {x:α},t.all f=true->t.get n=some x->f x=true
 | .leaf,n,x,_,h=>by cases h
 | .node l v r,n,x,ha,h=>by
  simp only[PM.all,aJ]at ha;simp only[PM.get]at h;cases hb:Nat.beq n 0 with
  |true=>rw[hb]at h;simp only[aP]at h;subst h;exact ha.1.2
  |false=>
   rw[hb]at h;simp only[aQ]at h;cases hc:Nat.beq (n%2) 1 with
   |true=>rw[hc]at h;exact PM.Us ha.1.1 h
   |false=>rw[hc]at h;exact PM.Us ha.2 h
def DF(τ:Nat->Nat):Cs->Cs
 | .av l=> .av (lmap τ l)
 | .raw l=> .raw l
 | .tr n z t=> .tr n (lmap τ z) (t.map (jd τ))
 | .row m n g wr=> .row m n g wr
 | .cat a b=> .cat (DF τ a) (DF τ b)
def jQ(n:Nat):Cs->Bool
 | .av l=>gU n l
 | .raw _=>true
 | .tr _ z t=>gU n z&&t.all (dN n)
 | .row .. =>true
 | .cat a b=>jQ n a&&jQ n b
theorem gV(τ:Nat->Nat)(c:Cs):(DF τ c).size=c.size:=by
 induction c<;>simp_all[DF,Cs.size,JH]
theorem Zr(τ:Nat->Nat)(c:Cs)(k:Nat):(DF τ c).get k=match c.get k with|some v=>some (jd τ v)|none=>none:=by
 induction c generalizing k with
 |av l=>simp only[DF,Cs.get,JH,List.getElem?_map];cases l[k]? <;>rfl
 |raw l=>simp only[DF,Cs.get];cases l[k]? <;>simp[jd]
 |tr n z t=>
  simp only[DF,Cs.get,PM.get_map,JH,List.length_map,List.getElem?_map];cases Nat.blt k n with
  |false=>rfl
  |true=>simp only[aP];cases t.get k with
   |some v=>rfl
   |none=>cases z[k%z.length]? <;>rfl
 |row m n g wr=>
  simp only[DF,Cs.get];cases Nat.blt k (n*m)with
  |false=>rfl
  |true=>simp only[aP];cases (Cs.eff g wr (k/m))[k%m]? <;>simp[jd]
 |cat x y ihx ihy=>
  simp only[DF,Cs.get,gV];cases Nat.blt k x.size with
  |true=>exact ihx k
  |false=>exact ihy _
theorem zi{n:Nat}{c:Cs}{k:Nat}{v:AV}(h:jQ n c=true)(hg:c.get k=some v):dN n v=true:=by
 induction c generalizing k v with
 |av l=>exact zh h hg
 |raw l=>
  simp only[Cs.get]at hg;split at hg
  ·cases hg;rfl
  ·cases hg
 |tr m z t=>
  simp only[jQ,aJ]at h;simp only[Cs.get]at hg;cases hb:Nat.blt k m with
  |false=>rw[hb]at hg;simp at hg
  |true=>
   rw[hb]at hg;simp only[aP]at hg;split at hg
   ·rename_i x hx;cases hg;exact PM.Us h.2 hx
   ·exact zh h.1 hg
 |row m n' g wr=>
  simp only[Cs.get]at hg;cases hb:Nat.blt k (n'*m)with
  |false=>rw[hb]at hg;simp at hg
  |true=>
   rw[hb]at hg;simp only[aP]at hg;split at hg
   ·cases hg;rfl
   ·cases hg;rfl
 |cat x y ihx ihy=>
  simp only[jQ,aJ]at h;simp only[Cs.get]at hg;cases hb:Nat.blt k x.size with
  |true=>rw[hb]at hg;exact ihx h.1 hg
  |false=>rw[hb]at hg;exact ihy h.2 hg
def omap(τ:Nat->Nat):dF->dF
 | .cells e c=> .cells e (DF τ c)
 | .room e c=> .room e (DF τ c)
 | .iC z e c=> .iC z e (DF τ c)
 | .nK m=> .nK m
 | .ro c=> .ro (DF τ c)
 | .map es k=> .map (es.map λx=>(jd τ x.1,jd τ x.2.1,x.2.2)) k
 | .abs A=> .abs A
 | .iter m since seen st=> .iter (m.map τ) since seen st
def oW(n:Nat):dF->Bool
 | .cells _ c=>jQ n c
 | .room _ c=>jQ n c
 | .iC _ _ c=>jQ n c
 | .nK _=>true
 | .ro c=>jQ n c
 | .map es _=>es.all λx=>dN n x.1&&dN n x.2.1
 | .abs _=>true
 | .iter m _ _ _=>match m with
  |some i=>Nat.blt i n
  |none=>true
theorem fF.DF{τ:Nat->Nat}{ρ ρ':Ren}(h: ∀i a,ρ i=some a->ρ' (τ i)=some a){c:Cs}{arr:Array Value}{b:Nat}(hc:fF ρ c arr b):fF ρ' (DF τ c) arr b:=by
 intro k v hk;rw[Zr]at hk;cases hg:c.get k with
 |none=>rw[hg]at hk;cases hk
 |some x=>
  rw[hg]at hk;cases hk;obtain⟨u,hu,hr⟩:=hc k x hg;exact⟨u,hu,bF.jd h _ _ hr⟩
theorem fF.O4{τ:Nat->Nat}{ρ ρ':Ren}{n:Nat}(h: ∀i,i<n->ρ i=ρ' (τ i)){c:Cs}{arr:Array Value}{b:Nat}(hb:jQ n c=true)(hc:fF ρ' (SE.DF τ c) arr b):fF ρ c arr b:=by
 intro k v hk;obtain⟨u,hu,hr⟩:=hc k (jd τ v) (by rw[Zr,hk]);exact⟨u,hu,bF.Ur h _ _ (zi hb hk) hr⟩
theorem kM.mmap{τ:Nat->Nat}{ρ ρ':Ren}(h: ∀i a,ρ i=some a->ρ' (τ i)=some a): ∀{xs:List (AV×AV×Nat)} {es:List MapEntry},kM ρ xs es->kM ρ' (xs.map λx=>(jd τ x.1,jd τ x.2.1,x.2.2)) es
 |[],_,hm=>hm
 |_::_,_,⟨e,es',he,h1,h2,h3,h4⟩=>⟨e,es',he,bF.jd h _ _ h1,bF.jd h _ _ h2,h3,kM.mmap h h4⟩
theorem kM.atO{τ:Nat->Nat}{ρ ρ':Ren}{n:Nat}(h: ∀i,i<n->ρ i=ρ' (τ i)): ∀{xs:List (AV×AV×Nat)} {es:List MapEntry},(xs.all λx=>dN n x.1&&dN n x.2.1)=true->
  kM ρ' (xs.map λx=>(jd τ x.1,jd τ x.2.1,x.2.2)) es->kM ρ xs es
 |[],_,_,hm=>hm
 |x::xs,_,hb,⟨e,es',he,h1,h2,h3,h4⟩=>by
  simp only[List.all_cons,aJ]at hb;exact⟨e,es',he,bF.Ur h _ _ hb.1.1 h1,bF.Ur h _ _ hb.1.2 h2,h3,kM.atO h (by simpa using hb.2) h4⟩
theorem dI.omap{τ:Nat->Nat}{ρ ρ':Ren}(h: ∀i a,ρ i=some a->ρ' (τ i)=some a){w:World}{T:Nat->Prop}{a:Loc}{S:Nat->Prop}{o:dF}(ho:dI ρ w T a S o):dI ρ' w T a S (omap τ o):=by
 cases o with
 |cells e c=>obtain⟨h0,hS,arr,h1,h2,h3,h4⟩:=ho;exact⟨h0,hS,arr,h1,by rw[gV];exact h2,by rw[gV];exact h3,h4.DF h⟩
 |room e c=>obtain⟨h0,hS,arr,h1,h2,h3,h4⟩:=ho;exact⟨h0,hS,arr,h1,h2,by rw[gV];exact h3,h4.DF h⟩
 |iC z e c=>
  rcases ho with ⟨hz,h0⟩|⟨hz,h0,hS,arr,h1,h2,h3,h4⟩
  ·exact .inl ⟨hz,by rw[gV];exact h0⟩
  ·exact .inr ⟨hz,h0,hS,arr,h1,h2,by rw[gV];exact h3,h4.DF h⟩
 |nK m=>exact ho
 |ro c=>
  rcases ho with h0|⟨hT,arr,e,f,h1,h2⟩
  ·exact .inl (by rw[gV];exact h0)
  ·exact .inr ⟨hT,arr,e,f,h1,h2.DF h⟩
 |map es k=>obtain⟨hS,arr,h1,h2⟩:=ho;exact⟨hS,arr,h1,h2.mmap h⟩
 |abs A=>exact ho
 |iter m since seen st=>
  obtain⟨h0,hS,mb,h1,h2⟩:=ho;refine⟨h0,hS,mb,?_,h2⟩;cases m with
  |none=>exact h1
  |some i=>obtain⟨b,hb,hm⟩:=h1;exact⟨b,h _ _ hb,hm⟩
theorem dI.atP{τ:Nat->Nat}{ρ ρ':Ren}{n:Nat}(h: ∀i,i<n->ρ i=ρ' (τ i)){w:World}{T:Nat->Prop}{a:Loc}{S:Nat->Prop}{o:dF}(hb:oW n o=true)
  (ho:dI ρ' w T a S (SE.omap τ o)):dI ρ w T a S o:=by
 cases o with
 |cells e c=>obtain⟨h0,hS,arr,h1,h2,h3,h4⟩:=ho;rw[gV]at h2 h3;exact⟨h0,hS,arr,h1,h2,h3,h4.O4 h hb⟩
 |room e c=>obtain⟨h0,hS,arr,h1,h2,h3,h4⟩:=ho;rw[gV]at h3;exact⟨h0,hS,arr,h1,h2,h3,h4.O4 h hb⟩
 |iC z e c=>
  rcases ho with ⟨hz,h0⟩|⟨hz,h0,hS,arr,h1,h2,h3,h4⟩
  ·exact .inl ⟨hz,by rw[<-gV τ];exact h0⟩
  ·rw[gV]at h3;exact .inr ⟨hz,h0,hS,arr,h1,h2,h3,h4.O4 h hb⟩
 |nK m=>exact ho
 |ro c=>
  rcases ho with h0|⟨hT,arr,e,f,h1,h2⟩
  ·exact .inl (by rw[<-gV τ];exact h0)
  ·exact .inr ⟨hT,arr,e,f,h1,h2.O4 h hb⟩
 |map es k=>obtain⟨hS,arr,h1,h2⟩:=ho;exact⟨hS,arr,h1,h2.atO h hb⟩
 |abs A=>exact ho
 |iter m since seen st=>
  obtain⟨h0,hS,mb,h1,h2⟩:=ho;refine⟨h0,hS,mb,?_,h2⟩;cases m with
  |none=>exact h1
  |some i=>obtain⟨b,hb2,hm⟩:=h1;exact⟨b,(h i (bg.1 hb)).trans hb2,hm⟩
def jX:dF->Bool
 | .ro _=>true
 |_=>false
theorem dI.JI{ρ:Ren}{w:World}{T T':Nat->Prop}{a:Loc}{S:Nat->Prop}{o:dF}(hr:jX o=false)(ho:dI ρ w T a S o):dI ρ w T' a S o:=by
 cases o<;>first|exact ho|(simp[jX]at hr)
theorem dI.owned{ρ:Ren}{w w':World}{T:Nat->Prop}{a:Loc}{S:Nat->Prop}{o:dF}(hr:jX o=false)(ho:dI ρ w T a S o)(hw: ∀b,S b->w'.heap[b]? =w.heap[b]?):dI ρ w' T a S o:=by
 refine dI.JI (T:=λ_=>True) hr ((dI.JI (T':=λ_=>True) hr ho).stays λb hb=>hw b ?_);rcases hb with hb|hb
 ·exact hb
 ·exact(hb trivial).elim
def apb(h:Heap)(ρ:Ren)(T:Nat->Prop)(w:World):Prop:=
 ∃S:Nat->Nat->Prop,
  (∀i o,h.get i=some o-> ∃a,ρ i=some a/\dI ρ w T a (S i) o)/\
  (∀i j o o' b,h.get i=some o->h.get j=some o'->i≠j->S i b->S j b->False)/\
  (∀i o b,h.get i=some o->S i b->T b/\b<w.heap.size)/\
  (∀i,h.next<=i->ρ i=none)
theorem Rel.aqw{h:Heap}{ρ:Ren}{T:Nat->Prop}{w:World}(hR:Rel h ρ T w):apb h ρ T w:=let ⟨S,h1,h2,h3,h4,_⟩:=hR;⟨S,h1,h2,h3,h4⟩
def lay(τ:Nat->Nat)(k next:Nat)(i:Nat):Nat:=if i<k then τ i else next+(i-k)
def fits(τ:Nat->Nat)(o0 o:dF):Prop:=
 o=omap τ o0\/ ∃c,o0= .ro c/\o.eP=some (DF τ c)
theorem Rel.part{h h0:Heap}{ρ:Ren}{T:Nat->Prop}{w:World}{S:Nat->Nat->Prop}{τ:Nat->Nat}
  (h1: ∀i o,h.get i=some o-> ∃a,ρ i=some a/\dI ρ w T a (S i) o)
  (h2: ∀i j o o' b,h.get i=some o->h.get j=some o'->i≠j->S i b->S j b->False)
  (h3: ∀i o b,h.get i=some o->S i b->T b/\b<w.heap.size)
  (hinj: ∀i j,i<h0.next->j<h0.next->τ i=τ j->i=j)
  (hfit: ∀i o0,h0.get i=some o0->i<h0.next/\oW h0.next o0=true/\ ∃o,h.get (τ i)=some o/\fits τ o0 o):
  apb h0 (λi=>if i<h0.next then ρ (τ i)else none) (λb=> ∃i o0,h0.get i=some o0/\jX o0=false/\S (τ i) b) w:=by
 have hρ: ∀i,i<h0.next->(λi=>if i<h0.next then ρ (τ i)else none) i=ρ (τ i):=λi hi=>by simp[hi]
 refine⟨λi b=>(∃o0,h0.get i=some o0/\jX o0=false)/\S (τ i) b,λi o0 hi=> ?_,λi j o o' b hi hj hij hSi hSj=> ?_,λi o0 b hi hS=> ?_,λi hi=>by simp;omega⟩
 ·obtain⟨hlt,hbel,o,ho,hf⟩:=hfit i o0 hi
  obtain⟨a,ha,hh⟩:=h1 _ o ho;refine⟨a,by rw[hρ i hlt];exact ha,?_⟩;cases hro:jX o0 with
  |false=>
   have hf':o=omap τ o0:=by
    rcases hf with hf|⟨c,rfl,_⟩
    ·exact hf
    ·simp[jX]at hro
   subst hf';have:=dI.atP hρ hbel hh;have he:(λb=>(∃o0,h0.get i=some o0/\jX o0=false)/\S (τ i) b)=S (τ i):=by
    funext b;simp only[hi,ak,aC,hro,aU]
   show dI _ w _ a (λb=>(∃o0,h0.get i=some o0/\jX o0=false)/\S (τ i) b) o0;rw[he];exact this.JI hro
  |true=>
   cases o0<;>simp[jX]at hro;rename_i c;have alx:(jX o=false->S (τ i) a.blk)-> ∀b,(b=a.blk)->(∀(x:dF),h.get (τ i)=some x->jX x=true-> ¬T b)-> ¬ ∃j o1,h0.get j=some o1/\jX o1=false/\S (τ j) b:=by
    intro hSi0 b hb hT ⟨j,o1,hj,hro1,hSj⟩;obtain⟨hjlt,_,oj,hoj,hfj⟩:=hfit j o1 hj;by_cases hij:j=i
    ·subst hij
     rw[hi]at hj;cases hj;simp[jX]at hro1
    ·have hne:τ j≠τ i:=λh'=>hij (hinj j i hjlt hlt h')
     subst hb;cases atQ:jX o with
     |true=>exact hT o ho atQ (h3 _ oj _ hoj hSj).1
     |false=>
      have hSi:S (τ i) a.blk:=hSi0 atQ;exact h2 _ _ _ _ _ hoj ho hne hSj hSi
   have cc: ∃x,o.eP=some x/\x=DF τ c:=by
    rcases hf with hf|⟨c',hc',hcs⟩
    ·subst hf;exact⟨_,rfl,rfl⟩
    ·cases hc';exact⟨_,hcs,rfl⟩
   obtain⟨x,hx,rfl⟩:=cc;cases o with
   |cells e y=>
    simp only[dF.eP,ak]at hx;subst hx;obtain⟨g0,gS,arr,g1,g2,g3,g4⟩:=hh;refine .inr ⟨alx (λ_=>gS) _ rfl (λz hz hz'=> ?_),arr,e,(0,0),g1,?_⟩
    ·rw[ho]at hz;cases hz;simp[jX]at hz'
    ·rw[g0];exact g4.O4 hρ hbel
   |room e y=>
    simp only[dF.eP,ak]at hx;subst hx;obtain⟨g0,gS,arr,g1,g2,g3,g4⟩:=hh;refine .inr ⟨alx (λ_=>gS) _ rfl (λz hz hz'=> ?_),arr,e,(0,0),g1,?_⟩
    ·rw[ho]at hz;cases hz;simp[jX]at hz'
    ·rw[g0];exact g4.O4 hρ hbel
   |iC z e y=>
    simp only[dF.eP,ak]at hx;subst hx;rcases hh with ⟨_,h0⟩|⟨_,g0,gS,arr,g1,g2,g3,g4⟩
    ·exact .inl (by rw[<-gV τ];exact h0)
    ·refine .inr ⟨alx (λ_=>gS) _ rfl (λz hz hz'=> ?_),arr,e,(0,0),g1,?_⟩
     ·rw[ho]at hz;cases hz;simp[jX]at hz'
     ·rw[g0];exact g4.O4 hρ hbel
   |nK m=>simp[dF.eP]at hx
   |ro y=>
    simp only[dF.eP,ak]at hx;subst hx;rcases hh with h0|⟨gT,arr,e,f,g1,g2⟩
    ·exact .inl (by rw[<-gV τ];exact h0)
    ·exact .inr ⟨alx (λh=>by simp[jX]at h) _ rfl (λz hz hz'=>gT),arr,e,f,g1,g2.O4 hρ hbel⟩
   |map es q=>simp[dF.eP]at hx
   |abs A=>simp[dF.eP]at hx
   |iter m since seen st=>simp[dF.eP]at hx
 ·exact h2 (τ i) (τ j) (Classical.choose (hfit i o hi).2.2) (Classical.choose (hfit j o' hj).2.2) b (Classical.choose_spec (hfit i o hi).2.2).1 (Classical.choose_spec (hfit j o' hj).2.2).1
   (λh'=>hij (hinj i j (hfit i o hi).1 (hfit j o' hj).1 h')) hSi.2 hSj.2
 ·obtain⟨hlt,_,x,hx,_⟩:=hfit i o0 hi
  exact⟨⟨i,o0,hi,by obtain⟨y,hy,hr⟩:=hS.1;rw[hi]at hy;cases hy;exact hr,hS.2⟩,(h3 _ x b hx hS.2).2⟩
theorem Rel.back{h h0' h':Heap}{ρ ρ0':Ren}{T T0:Nat->Prop}{w w':World}{S:Nat->Nat->Prop}{τ:Nat->Nat}{k0:Nat}{own:Nat->Prop}
  (h1: ∀i o,h.get i=some o-> ∃a,ρ i=some a/\dI ρ w T a (S i) o)
  (h2: ∀i j o o' b,h.get i=some o->h.get j=some o'->i≠j->S i b->S j b->False)
  (h3: ∀i o b,h.get i=some o->S i b->T b/\b<w.heap.size)
  (h4: ∀i,h.next<=i->ρ i=none) (h5: ∀b,w.heap.size<=b->T b)
  (hT0: ∀b,T0 b-> ∃i o,i<k0/\own i/\h.get (τ i)=some o/\S (τ i) b)
  (hτ: ∀i,i<k0->τ i<h.next)
  (hk:Keeps (λb=>T0 b\/w.heap.size<=b) w w')
  (hρ0: ∀i,i<k0->ρ0' i=ρ (τ i)) (hk0:k0<=h0'.next)
  (hR:apb h0' ρ0' (λb=>T0 b\/w.heap.size<=b) w')
  (hro: ∀i o0,h0'.get i=some o0->jX o0=true->i<k0/\ ¬own i)
  (hn:h'.next=h.next+(h0'.next-k0))
  (hg: ∀j o,h'.get j=some o->(j<h.next/\h.get j=some o/\ ∀i,i<k0->own i->τ i≠j)\/(∃i o0,h0'.get i=some o0/\(k0<=i\/own i)/\j=lay τ k0 h.next i/\o=omap (lay τ k0 h.next) o0))
  (hinj: ∀i j,i<k0->j<k0->τ i=τ j->i=j):
  ∃ρ',ρ.le ρ'/\(∀i,i<h.next->ρ' i=ρ i)/\(∀i a,ρ0' i=some a->ρ' (lay τ k0 h.next i)=some a)/\Rel h' ρ' T w'/\Keeps T w w':=by
 obtain⟨S0,r1,r2,r3,r4⟩:=hR;let ρ':Ren:=λj=>if j<h.next then ρ j else if j<h.next+(h0'.next-k0)then ρ0' (k0+(j-h.next))else none
 have hle:ρ.le ρ':=λi a ha=>by
  have:i<h.next:=by
   rcases Nat.lt_or_ge i h.next with h'|h'
   ·exact h'
   ·rw[h4 i h']at ha;cases ha
  simp[ρ',this,ha]
 have hlay: ∀i a,ρ0' i=some a->ρ' (lay τ k0 h.next i)=some a:=λi a ha=>by
  have hi:i<h0'.next:=by
   rcases Nat.lt_or_ge i h0'.next with h'|h'
   ·exact h'
   ·rw[r4 i h']at ha;cases ha
  by_cases hik:i<k0
  ·simp only[lay,if_pos hik,ρ',if_pos (hτ i hik)]
   rw[<-hρ0 i hik];exact ha
  ·simp only[lay,if_neg hik,ρ']
   rw[if_neg (by omega),if_pos (by omega)];have:k0+(h.next+(i-k0)-h.next)=i:=by omega
   rw[this];exact ha
 have hTT: ∀b,b<w.heap.size->(T0 b\/w.heap.size<=b)->T b:=λb hb h=>by
  rcases h with h|h
  ·obtain⟨i,o,_,_,ho,hS⟩:=hT0 b h
   exact(h3 _ o b ho hS).1
  ·exact h5 b h
 have atS: ∀b,¬T b->b<w.heap.size:=λb hb=>by
  rcases Nat.lt_or_ge b w.heap.size with h'|h'
  ·exact h'
  ·exact(hb (h5 b h')).elim
 have hkT:Keeps T w w':=hk.mono hTT atS;have apart: ∀j o,h.get j=some o->(∀i,i<k0->own i->τ i≠j)-> ∀b,S j b-> ¬(T0 b\/w.heap.size<=b):=λj o hj hne b hS hT=>by
  have:=(h3 j o b hj hS).2;rcases hT with hT|hT
  ·obtain⟨i,x,hik,hown,hx,hSx⟩:=hT0 b hT
   exact h2 _ _ _ _ b hx hj (hne i hik hown) hSx hS
  ·omega
 let old:Nat->Prop:=λj=>j<h.next/\ ∀i,i<k0->own i->τ i≠j
 let S':Nat->Nat->Prop:=λj b=>(old j/\S j b)\/(∃i,j=lay τ k0 h.next i/\(k0<=i\/own i)/\i<h0'.next/\S0 i b)
 have Ia: ∀i,(k0<=i\/(i<k0/\own i))-> ¬old (lay τ k0 h.next i):=λi hi ho=>by
  by_cases hik:i<k0
  ·simp only[lay,if_pos hik]at ho
   rcases hi with hi|hi
   ·omega
   ·exact ho.2 i hik hi.2 rfl
  ·simp only[lay,if_neg hik]at ho
   have:=ho.1;omega
 have afh: ∀i j,(k0<=i\/own i)->(k0<=j\/own j)->lay τ k0 h.next i=lay τ k0 h.next j->i=j:=λi j _ _ he=>by
  unfold lay at he;by_cases hik:i<k0
  ·by_cases hjk:j<k0
   ·rw[if_pos hik,if_pos hjk]at he;exact hinj i j hik hjk he
   ·rw[if_pos hik,if_neg hjk]at he;have:=hτ i hik;omega
  ·by_cases hjk:j<k0
   ·rw[if_neg hik,if_pos hjk]at he;have:=hτ j hjk;omega
   ·rw[if_neg hik,if_neg hjk]at he;omega
 refine⟨ρ',hle,λi hi=>by simp[ρ',hi],hlay,⟨S',λj o hj=> ?_,λi j o o' b hi hj hij hSi hSj=> ?_,λj o b hj hS=> ?_,λj hj=> ?_,λb hb=>h5 b (Nat.le_trans hk.size hb)⟩,hkT⟩
 ·rcases hg j o hj with ⟨hlt,hjo,hne⟩|⟨i,o0,hi,hki,rfl,rfl⟩
  ·obtain⟨a,ha,hh⟩:=h1 j o hjo
   refine⟨a,hle _ _ ha,?_⟩;have hSe:S' j=S j:=by
    funext b;apply propext;constructor
    ·rintro (⟨_,hS⟩|⟨i,hji,hki,_,_⟩)
     ·exact hS
     ·exfalso
      have:old j:=⟨hlt,hne⟩;rw[hji]at this;refine Ia i ?_ this;rcases hki with hki|hki
      ·exact .inl hki
      ·by_cases hik:i<k0
       ·exact .inr ⟨hik,hki⟩
       ·exact .inl (by omega)
    ·intro hS;exact .inl ⟨⟨hlt,hne⟩,hS⟩
   rw[hSe];refine(hh.stays λb hb=>hk.block b ?_).mono hle;rcases hb with hb|hb
   ·exact apart j o hjo hne b hb
   ·intro hT
    exact hb (hTT b (atS b hb) hT)
  ·obtain⟨a,ha,hh⟩:=r1 i o0 hi
   refine⟨a,hlay i a ha,?_⟩;have hnr:jX o0=false:=by
    cases hr:jX o0 with
    |false=>rfl
    |true=>
     obtain⟨hlt,hno⟩:=hro i o0 hi hr;rcases hki with h'|h'
     ·omega
     ·exact(hno h').elim
   have hilt:i<h0'.next:=by
    rcases Nat.lt_or_ge i h0'.next with h'|h'
    ·exact h'
    ·rw[r4 i h']at ha;cases ha
   have hSe:S' (lay τ k0 h.next i)=S0 i:=by
    funext b;apply propext;constructor
    ·rintro (⟨ho,_⟩|⟨i',he,atT,_,hS⟩)
     ·exfalso
      refine Ia i ?_ ho;rcases hki with hki|hki
      ·exact .inl hki
      ·by_cases hik:i<k0
       ·exact .inr ⟨hik,hki⟩
       ·exact .inl (by omega)
     ·rw[afh i i' hki atT he];exact hS
    ·intro hS;exact .inr ⟨i,rfl,hki,hilt,hS⟩
   rw[hSe];exact(dI.omap hlay hh).JI (by cases o0<;>simp[jX]at hnr<;>rfl)
 ·have afi: ∀j o,h'.get j=some o-> ∀b,S' j b->(old j/\S j b/\ ∃x,h.get j=some x)\/ ∃i o0,h0'.get i=some o0/\(k0<=i\/own i)/\j=lay τ k0 h.next i/\S0 i b:=by
   intro j o hj b hS;rcases hS with ⟨ho,hS⟩|⟨i,rfl,hki,hilt,hS⟩
   ·rcases hg j o hj with ⟨_,hjo,_⟩|⟨i,o0,hi,hki,rfl,_⟩
    ·exact .inl ⟨ho,hS,o,hjo⟩
    ·exfalso
     refine Ia i ?_ ho;rcases hki with hki|hki
     ·exact .inl hki
     ·by_cases hik:i<k0
      ·exact .inr ⟨hik,hki⟩
      ·exact .inl (by omega)
   ·rcases hg _ o hj with ⟨hlt,_,hne⟩|⟨i',o0,hi,atT,he,_⟩
    ·exfalso
     refine Ia i ?_ ⟨hlt,hne⟩;rcases hki with hki|hki
     ·exact .inl hki
     ·by_cases hik:i<k0
      ·exact .inr ⟨hik,hki⟩
      ·exact .inl (by omega)
    ·have:=afh i i' hki atT he
     subst this;exact .inr ⟨i,o0,hi,hki,rfl,hS⟩
  rcases afi i o hi b hSi with ⟨oi,si,x,hx⟩|⟨i1,x1,hx1,hk1,rfl,s1⟩
  ·rcases afi j o' hj b hSj with ⟨oj,sj,y,hy⟩|⟨j1,y1,hy1,hk1,rfl,s1⟩
   ·exact h2 i j x y b hx hy hij si sj
   ·exact apart i x hx oi.2 b si (r3 j1 y1 b hy1 s1).1
  ·rcases afi j o' hj b hSj with ⟨oj,sj,y,hy⟩|⟨j1,y1,hy1,hk2,rfl,s2⟩
   ·exact apart j y hy oj.2 b sj (r3 i1 x1 b hx1 s1).1
   ·exact r2 i1 j1 x1 y1 b hx1 hy1 (λh'=>hij (by rw[h'])) s1 s2
 ·rcases hS with ⟨ho,hS⟩|⟨i,rfl,hki,hilt,hS⟩
  ·rcases hg j o hj with ⟨_,hjo,_⟩|⟨i,o0,hi,hki,rfl,_⟩
   ·have:=h3 j o b hjo hS
    exact⟨this.1,Nat.lt_of_lt_of_le this.2 hk.size⟩
   ·exfalso
    refine Ia i ?_ ho;rcases hki with hki|hki
    ·exact .inl hki
    ·by_cases hik:i<k0
     ·exact .inr ⟨hik,hki⟩
     ·exact .inl (by omega)
  ·rcases hg _ o hj with ⟨hlt,_,hne⟩|⟨i',o0,hi,atT,he,_⟩
   ·exfalso
    refine Ia i ?_ ⟨hlt,hne⟩;rcases hki with hki|hki
    ·exact .inl hki
    ·by_cases hik:i<k0
     ·exact .inr ⟨hik,hki⟩
     ·exact .inl (by omega)
   ·have:=afh i i' hki atT he
    subst this;have:=r3 i o0 b hi hS;refine⟨?_,this.2⟩;rcases Nat.lt_or_ge b w.heap.size with hb|hb
    ·exact hTT b hb this.1
    ·exact h5 b hb
 ·rw[hn]at hj
  simp only[ρ'];rw[if_neg (by omega),if_neg (by omega)]
def atU:List dF->Nat->HM->HM
 |[],_,t=>t
 |v::r,k,t=>atU r (k+1) (t.set k (some v))
theorem Zt: ∀(m:List dF) (o:Nat) (t:HM) (k:Nat),(atU m o t).get k=if o<=k/\k<o+m.length then m[k-o]? else t.get k
 |[],o,t,k=>by simp[atU];intro h1 h2;omega
 |v::r,o,t,k=>by
  simp only[atU];rw[Zt r (o+1) _ k,HM.dR];simp only[List.length_cons];by_cases h1:o=k
  ·subst h1;rw[if_neg (by omega),if_pos rfl,if_pos (by omega)];simp
  ·by_cases h2:o<=k/\k<o+(r.length+1)
   ·rw[if_pos (by omega),if_pos h2]
    have:k-o=(k-(o+1))+1:=by omega
    rw[this];simp
   ·rw[if_neg (by omega),if_neg (Ne.symm h1),if_neg h2]
def hO(n:Nat)(os:List dF):Heap:=⟨n,atU os 0 []⟩
def hOf(os:List dF):Heap:=hO os.length os
theorem dX(os:List dF)(i:Nat):(hOf os).get i=os[i]? :=by
 simp only[hOf,hO,Heap.get,Zt,Nat.zero_le,aU,aA,aN];split
 ·rfl
 ·rename_i h;simp[HM.uD];omega
theorem nR(os:List dF):(hOf os).next=os.length:=rfl
def frL:List (Nat×AV)->Fr
 |[]=> .leaf
 |(t,v)::l=>(frL l).set t (some v)
theorem Zu: ∀(l:List (Nat×AV)) (t:Nat),look (frL l) t=match l.find? (λp=>p.1==t)with|some p=>p.2|none=> .any
 |[],t=>rfl
 |(s,v)::l,t=>by
  have ih:=Zu l t;simp only[frL,look,PM.dR,List.find?_cons]at ih ⊢;by_cases h:t=s
  ·subst h;simp
  ·have h':(s==t)=false:=by simpa using Ne.symm h
   rw[if_neg h,h'];exact ih
def atL(l:List Nat)(i:Nat):Nat:=l.getD i 0
theorem apb.less{h h':Heap}{ρ:Ren}{T:Nat->Prop}{w:World}(hR:apb h ρ T w)(hn:h'.next=h.next)(hg: ∀i o,h'.get i=some o->h.get i=some o):apb h' ρ T w:=by
 obtain⟨S,h1,h2,h3,h4⟩:=hR;exact⟨S,λi o hi=>h1 i o (hg i o hi),λi j o o' b hi hj=>h2 i j o o' b (hg i o hi) (hg j o' hj),λi o b hi=>h3 i o b (hg i o hi),λi hi=>h4 i (by omega)⟩
def atV(h:Heap):Heap:=⟨h.next,h.m.filt (λo=> !jX o)⟩
theorem Zv{h:Heap}{i:Nat}{o:dF}(hg:(atV h).get i=some o):h.get i=some o/\jX o=false:=by
 unfold atV Heap.get at hg;simp only[HM.JA]at hg;split at hg
 ·rename_i x hx
  cases hr:jX x with
  |true=>rw[hr]at hg;simp at hg
  |false=>rw[hr]at hg;simp at hg;subst hg;exact⟨hx,hr⟩
 ·cases hg
theorem aqx{h:Heap}{i:Nat}{o:dF}(hg:h.get i=some o)(hr:jX o=false):(atV h).get i=some o:=by
 unfold atV Heap.get;simp only[HM.JA];have:h.m.get i=some o:=hg;simp[this,hr]
def gives(h0:Heap)(i:Nat):Bool:=match h0.get i with
 |some o=> !jX o
 |none=>true
def Ib(lay:Nat->Nat)(skip:Nat->Bool)(h0':Heap):List Nat->HM->HM
 |[],m=>m
 |i::l,m=>Ib lay skip h0' l (bif skip i then m else(match h0'.get i with
  |some o=>bif jX o then m.set (lay i) none else m.set (lay i) (some (omap lay o))
  |none=>m.set (lay i) none))
def Ic(τ:Nat->Nat):Heap->Heap->Heap->Heap
 |⟨k,m0⟩,⟨n,m⟩,⟨k',m'⟩=>⟨n+(k'-k),Ib (lay τ k n) (λi=>Nat.blt i k&& !gives ⟨k,m0⟩ i) ⟨k',m'⟩ (List.range k') m⟩
theorem DI(τ:Nat->Nat)(h0 h h0':Heap):Ic τ h0 h h0'=
  ⟨h.next+(h0'.next-h0.next),Ib (lay τ h0.next h.next) (λi=>Nat.blt i h0.next&& !gives h0 i) h0' (List.range h0'.next) h.m⟩:=by
 cases h0;cases h;cases h0';rfl
theorem Ie(lay:Nat->Nat)(skip:Nat->Bool)(h0':Heap): ∀(l:List Nat) (m:HM) (j:Nat) (o:dF),(Ib lay skip h0' l m).get j=some o->
  (m.get j=some o/\ ∀i∈l,skip i=false->lay i≠j)\/ ∃i o0,i∈l/\skip i=false/\h0'.get i=some o0/\jX o0=false/\j=lay i/\o=omap lay o0
 |[],m,j,o,h=> .inl ⟨h,λi hi=>by cases hi⟩
 |i::l,m,j,o,h=>by
  simp only[Ib]at h;rcases Ie lay skip h0' l _ j o h with ⟨hm,hne⟩|⟨i',o0,hi',rest⟩
  ·cases hs:skip i with
   |true=>
    rw[hs]at hm;simp only[aP]at hm
    exact .inl ⟨hm,λx hx hxs=>by
     rcases List.mem_cons.1 hx with hx|hx
     ·subst hx;rw[hs]at hxs;cases hxs
     ·exact hne x hx hxs⟩
   |false=>
    rw[hs]at hm;simp only[aQ]at hm;by_cases hij:lay i=j
    ·split at hm
     ·rename_i o0 ho0
      cases hr:jX o0 with
      |true=>rw[hr]at hm;simp only[aP]at hm;rw[HM.dR,if_pos hij.symm]at hm;cases hm
      |false=>
       rw[hr]at hm;simp only[aQ]at hm;rw[HM.dR,if_pos hij.symm]at hm;cases hm;exact .inr ⟨i,o0,by simp,hs,ho0,hr,hij.symm,rfl⟩
     ·rw[HM.dR,if_pos hij.symm]at hm;cases hm
    ·refine .inl ⟨?_,λx hx hxs=> ?_⟩
     ·split at hm
      ·rename_i o0 ho0
       cases hr:jX o0 with
       |true=>rw[hr]at hm;simp only[aP]at hm;rw[HM.dR,if_neg (Ne.symm hij)]at hm;exact hm
       |false=>rw[hr]at hm;simp only[aQ]at hm;rw[HM.dR,if_neg (Ne.symm hij)]at hm;exact hm
      ·rw[HM.dR,if_neg (Ne.symm hij)]at hm;exact hm
     ·rcases List.mem_cons.1 hx with hx|hx
      ·subst hx;exact hij
      ·exact hne x hx hxs
  ·exact .inr ⟨i',o0,by simp[hi'],rest⟩
def Soft(τ:Nat->Nat)(n:Nat)(o0 o:dF):Prop:=
 ∀ρ ρ0 w T a S,(∀i,i<n->ρ0 i=ρ (τ i))->dI ρ w T a S o->dI ρ0 w T a S o0
def GN(k:Nat)(ids:List Nat)(m:Nat):Bool:=Nat.beq ids.length m&&Nat.ble k m&&decide ids.Nodup&&decide (ids.take k=List.range k)
theorem Ig{k m:Nat}{ids:List Nat}(h:GN k ids m=true):k<=m/\(∀i,i<k->atL ids i=i)/\ ∀i j,i<m->j<m->atL ids i=atL ids j->i=j:=by
 simp only[GN,aJ,decide_eq_true_eq,Nat.ble_eq]at h;obtain⟨⟨⟨h1,h2⟩,h3⟩,h4⟩:=h;have h1:=au h1;refine⟨h2,λi hi=> ?_,λi j hi hj he=> ?_⟩
 ·have:(ids.take k)[i]? =some i:=by rw[h4];simp[hi]
  rw[List.getElem?_take,if_pos hi]at this;simp[atL,List.getD_eq_getElem?_getD,this]
 ·have hi':i<ids.length:=by omega
  have hj':j<ids.length:=by omega
  simp only[atL,List.getD_eq_getElem?_getD,List.getElem?_eq_getElem hi',List.getElem?_eq_getElem hj',Option.getD_some]at he;exact(List.getElem_inj h3).1 he
section
variable{P:Program}{k n:Nat}{fr:Fr}{h:Heap}
end
def apc(ld:TypeId->AV->Heap->Option AV)(fr:Fr)(h:Heap):List ResultVar->Option (List AV)
 |[]=>some []
 | .tmp t::r=>match apc ld fr h r with
  |some l=>some (look fr t::l)
  |none=>none
 | .cell a ty::r=>match ld ty (look fr a) h,apc ld fr h r with
  |some v,some l=>some (v::l)
  |_,_=>none
def atW(ld:TypeId->AV->Heap->Option AV)(fn:Func)(fr:Fr)(h:Heap):Option AV:=
 match apc ld fr h fn.results.toList with
 |some [v]=>some v
 |some l=>some (.tup l)
 |none=>none
def LdOk(P:Program)(ld:TypeId->AV->Heap->Option AV):Prop:= ∀(h:Heap) (ρ:Ren) (T:Nat->Prop) (w:World),Rel h ρ T w-> ∀t a v u,ld t a h=some v->bF ρ a u->(∃i o,a= .ptr i o)/\ROk P (Instr.loadAt t u) ρ w v
def resS(tmps:Array Value):ResultVar->Sem Value
 | .tmp t=>pure (tmps.getD t undef)
 | .cell a t=>do loadVar t (<-asAddr (tmps.getD a undef))
theorem Ut{P:Program}{ld:TypeId->AV->Heap->Option AV}(hT:LdOk P ld){k n:Nat}{ρ:Ren}{T:Nat->Prop}{fr:Fr}{h:Heap}{a:Act}{w:World}(hs:St k n ρ T fr h a w): ∀(l:List ResultVar) (r:List AV),apc ld fr h l=some r->
  ∃us,(l.mapM (resS a.tmps)).run P w= .ok us w/\dQ ρ r us
 |[],r,hr=>by simp only[apc,ak]at hr;subst hr;exact⟨[],by simp,.nil⟩
 | .tmp t::l,r,hr=>by
  simp only[apc]at hr;split at hr
  ·rename_i l' hl
   cases hr;obtain⟨us,h1,h2⟩:=Ut (P:=P) hT hs l l' hl;exact⟨_::us,by simp[resS,h1],.cons (hs.fr.vals t) h2⟩
  ·cases hr
 | .cell x ty::l,r,hr=>by
  simp only[apc]at hr;split at hr
  ·rename_i v l' hv hl
   cases hr;obtain⟨us,h1,h2⟩:=Ut (P:=P) hT hs l l' hl;obtain⟨⟨i,o,hx⟩,u,hu,hur⟩:=hT _ _ _ _ hs.rel _ _ _ _ hv (hs.fr.vals x);have hvx:=hs.fr.vals x;refine⟨u::us,?_,.cons hur h2⟩;rw[hx]at hvx;simp only[bF]at hvx;obtain⟨b,_,hb⟩:=hvx;have hu':(loadVar ty ⟨b.blk,b.base+o,none⟩).run P w= .ok u w:=by
    rw[hb]at hu;simpa[Instr.loadAt,Instr.sureAddr]using hu
   simp only[List.mapM_cons,resS,hb,asAddr,Sem.run_bind,Sem.run_pure,Result.andThen_ok,hu',h1]
  ·cases hr
theorem aqy{P:Program}{ld:TypeId->AV->Heap->Option AV}(hT:LdOk P ld){k n:Nat}{ρ:Ren}{T:Nat->Prop}{fr:Fr}{h:Heap}{a:Act}{w:World}(hs:St k n ρ T fr h a w){fn:Func}{v:AV}(hr:atW ld fn fr h=some v):
  ∃u,(results fn a.tmps).run P w= .ok u w/\bF ρ v u:=by
 unfold atW at hr;have main: ∀r,apc ld fr h fn.results.toList=some r-> ∃us:List Value,(results fn a.tmps).run P w= .ok (if h:us.toArray.size=1 then us.toArray[0]else .tuple us.toArray) w/\dQ ρ r us:=by
  intro r hrr;obtain⟨us,h1,h2⟩:=Ut (P:=P) hT hs _ r hrr;refine⟨us,?_,h2⟩;have he:(fn.results.mapM (resS a.tmps)).run P w= .ok us.toArray w:=by
   rw[Array.mapM_eq_mapM_toList,Sem.run_map,h1];rfl
  unfold results;simp only[Sem.run_bind];refine(congrArg (λr=>Result.andThen r _) (?_:_=Result.ok us.toArray w)).trans rfl;rw[<-he];congr 2
 split at hr
 ·rename_i x hx
  cases hr;obtain⟨us,h1,h2⟩:=main _ hx;simp only[dQ]at h2;obtain⟨u,us',rfl,h3,rfl⟩:=h2;exact⟨u,by simpa using h1,h3⟩
 ·rename_i l hne hx
  cases hr;obtain⟨us,h1,h2⟩:=main _ hx;have hl:us.length≠1:=λh1=>by
   rw[<-h2.length]at h1
   match l,h1 with
   |[y],_=>exact hne y rfl
  refine⟨.tuple us.toArray,?_,by simp only[bF];exact⟨_,rfl,by simpa using h2⟩⟩;rw[h1,dif_neg (by simpa using hl)]
 ·cases hr
def O5(args:List AV):Fr:=Cs.putAt args 0 .leaf
theorem abW(args:List AV)(t:Nat):look (O5 args) t=args.getD t .any:=by
 simp only[look,O5,Cs.xC,Nat.zero_le,aU,aA,aN,HM.uD,List.getD_eq_getElem?_getD];by_cases h:t<args.length
 ·rw[if_pos h];simp[h]
 ·rw[if_neg h];simp[h]
theorem O6{P:Program}{ld:TypeId->AV->Heap->Option AV}(hT:LdOk P ld){f:FuncId}{fn:Func}{c:Code}{args:List AV}{h:Heap}{K:AV->Heap->Prop}(hf:P.funcs[f]? =some fn)(hn:(fn.name== "runtime.NumGoroutine")=false)
  (hb:fn.body=some c) (hl:Nat.ble args.length fn.ntmps=true)
  (hc:AWp P h.next fn.ntmps c (λe fr' h'=>(e= .normal\/e= .ret)/\ ∃v,atW ld fn fr' h'=some v/\K v h') (O5 args) h):Sp P f args h K:=by
 refine⟨⟨fn,hf,hn,by rw[hb];rfl⟩,λρ T w vs hR hlr=> ?_⟩;refine calls_of_wp hf hb ?_;have hlen:vs.size=args.length:=by rw[<-Array.length_toList,<-hlr.length]
 have hle:args.length<=fn.ntmps:=by simpa using hl
 have hst:St h.next fn.ntmps ρ T (O5 args) h {tmps:=vs++Array.replicate (fn.ntmps-vs.size) undef,defers:=[]} w:=by
  refine⟨aY _,hR,⟨by simp;omega,rfl,λt=> ?_⟩⟩;rw[abW,Array.getD_eq_getD_getElem?,List.getD_eq_getElem?_getD];by_cases ht:t<args.length
  ·obtain⟨u,hu,hr⟩:=hlr.get t args[t] (by simp[ht])
   have:(vs++Array.replicate (fn.ntmps-vs.size) undef)[t]? =some u:=by
    rw[Array.getElem?_append_left (by omega)];simpa using hu
   simpa[this,ht]using hr
  ·simp only[List.getElem?_eq_none (Nat.le_of_not_lt ht),Option.getD_none,bF]
 refine wp_mono (hc ρ T w _ hst) λe a' w' hh=> ?_
 have fin: ∀e,After h.next fn.ntmps ρ T w (λfr' h'=>(e=Exit.normal\/e= .ret)/\ ∃v,atW ld fn fr' h'=some v/\K v h') a' w'->(e= .normal\/e= .ret)/\a'.defers=[]/\ ∃v,(results fn a'.tmps).run P w'= .ok v w'/\
   ∃ρ' v0 u h',(∀i,i<h.next->ρ' i=ρ i)/\h.next<=h'.next/\Rel h' ρ' T w'/\bF ρ' v0 u/\Ending.returned v= .returned u/\Keeps T w w'/\K v0 h':=by
  rintro e ⟨ρ',fr',h',q1,q2,q3,q4,v,q5,q6⟩
  obtain⟨u,hu,hr⟩:=aqy (P:=P) hT q2 q5;exact⟨q4,q2.fr.defers,u,hu,ρ',v,u,h',q1,q2.le,q2.rel,hr,rfl,q3,q6⟩
 cases e with
 |normal=>exact(fin .normal hh).2
 |ret=>exact(fin .ret hh).2
 |exit id=>have:=(fin (.exit id) hh).1;simp at this
 |_=>exact hh.elim
end Go.Proofs.YtenfleoejgjklaaGreat.SE
end
