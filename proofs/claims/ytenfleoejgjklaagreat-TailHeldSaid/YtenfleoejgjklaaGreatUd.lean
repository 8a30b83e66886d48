import Derived.Test.YtenfleoejgjklaaGreatUa
import Derived.Test.YtenfleoejgjklaaGreatUb
import Derived.Test.YtenfleoejgjklaaGreatUc
import Derived.Laws.LoneSync
import Derived.Laws.IdiomCopy
import Derived.Lib.Bytealg
import Derived.Lib.Overlaps
set_option linter.unusedVariables false
set_option linter.unusedSimpArgs false
set_option linter.unnecessarySimpa false
section
namespace Go.Proofs.YtenfleoejgjklaaGreat.SE
open Go
set_option maxRecDepth 4000
theorem Rel.block{h:Heap}{ρ:Ren}{T:Nat->Prop}{w:World}(hR:Rel h ρ T w){i:Nat}{ob:dw}{c:Cs}{a:Loc}(hi:h.get i=some ob)(hc:ob.fP=some c)(ha:ρ i=some a):
  c.size=0\/ ∃arr e f,w.heap[a.blk]? =some (.cells arr e f)/\iq ρ c arr a.base:=by
 obtain⟨S,h1,_⟩:=hR
 obtain⟨a',ha',ho⟩:=h1 i ob hi
 obtain rfl:a'=a:=Option.some.inj (ha'.symm.trans ha)
 cases ob<;>simp[dw.fP]at hc
 case cells e c'=>
  subst hc
  obtain⟨h0,hS,arr,hb,hsz,_,hcr⟩:=ho
  exact .inr ⟨arr,e,_,hb,by rw[h0];exact hcr⟩
 case room e c'=>
  subst hc
  obtain⟨h0,hS,arr,hb,hsz,_,hcr⟩:=ho
  exact .inr ⟨arr,e,_,hb,by rw[h0];exact hcr⟩
 case mM z e c'=>
  subst hc
  rcases ho with ⟨_,h0⟩|⟨_,h0,hS,arr,hb,hsz,_,hcr⟩
  ·exact .inl h0
  ·exact .inr ⟨arr,e,_,hb,by rw[h0];exact hcr⟩
 case ro c'=>
  subst hc
  rcases ho with h0|⟨hT,arr,e,f,hb,hcr⟩
  ·exact .inl h0
  ·exact .inr ⟨arr,e,f,hb,hcr⟩
theorem iq.seg{ρ:Ren}{c d:Cs}{o m b:Nat}{arr:Array Value}(hs:Cs.Seg c o m d)(h:iq ρ c arr b):iq ρ d arr (b+o):=fun k v hk=>by
 have hkm:k<m:=by rw[<-hs.1];exact Cs.fB hk
 rw[Nat.add_assoc]
 exact h _ _ (by rw[<-(hs.2 k hkm).1];exact hk)
def adr(w:World)(m:Nat)(new:dL)(v:Value):Prop:=
 ∃a:Loc,(∀(ρ:Ren) i,ρ i=some a->bV ρ (.slR i 0 m new.len) v)/\(new.len*m=0\/ ∃arr e f,w.heap[a.blk]? =some (.cells arr e f)/\ ∀ρ,iq ρ (.row m new.len new.el []) arr a.base)
theorem apM{ρ ρ':Ren}{m n:Nat}{g:Nat->List Value}{wr:List (Nat×List Value)}{arr:Array Value}{b:Nat}(h:iq ρ (.row m n g wr) arr b):iq ρ' (.row m n g wr) arr b:=fun k v hk=>by
 obtain⟨u,hu,hr⟩:=h k v hk
 refine⟨u,hu,?_⟩
 simp only[Cs.get]at hk
 cases hb:Nat.blt k (n*m)with
 |false=>rw[hb]at hk;simp at hk
 |true=>
  rw[hb]at hk;simp only[aO]at hk
  split at hk
  ·cases hk;simpa only[bV]using hr
  ·cases hk;simp only[bV]
theorem Am{h:Heap}{ρ:Ren}{T:Nat->Prop}{w:World}{j q m n c p:Nat}{a:Loc}{ob:dw}{N:Nat}{g:Nat->List Value}{wr:List (Nat×List Value)}(hR:Rel h ρ T w)(hm:0<m)(hi:h.get j=some ob)(hc:ob.fP=some (.row m N g wr))(ha:ρ j=some a)
  (hle:q+n<=N) (hnc:n<=c) (hp:n≠0->p=a.base+q*m):adr w m (.many n (fun k=>Cs.eff g wr (q+k))) (.slice (some ⟨a.blk,p,none⟩) n c):=by
 refine⟨⟨a.blk,a.base+q*m,a.lim⟩,fun ρ0 i h0=> ?_,?_⟩
 ·simp only[bV,dL.len]
  exact .inr ⟨_,p,c,h0,rfl,hnc,fun hn=>by simp only[Nat.zero_mul,aH];exact hp hn⟩
 ·simp only[dL.len,dL.el]
  rcases hR.block hi hc ha with h0|⟨arr,e,f,hb,hcr⟩
  ·simp only[Cs.size]at h0
   left
   rcases Nat.mul_eq_zero.1 h0 with h1|h1
   ·have:n=0:=by omega
    rw[this,Nat.zero_mul]
   ·rw[h1,Nat.mul_zero]
  ·exact .inr ⟨arr,e,f,hb,fun ρ'=>apM (iq.seg (ajz (n:=n) hm hle) hcr)⟩
theorem ads{h:Heap}{ρ:Ren}{T:Nat->Prop}{w:World}{j o m n c:Nat}{a:Loc}{ob:dw}{cc d:Cs}{vs:List Value}(hR:Rel h ρ T w)(hm:0<m)(hi:h.get j=some ob)(hc:ob.fP=some cc)(ha:ρ j=some a)
  (hs:cc.sub o (n*m)=some d) (hd: ∀k,d.get k=(Cs.raw vs).get k) (hnc:n<=c):adr w m (.few (chunk m n vs)) (.slice (some ⟨a.blk,a.base+o,none⟩) n c):=by
 have e:(dL.few (chunk m n vs)).len=n:=uV m n vs
 have hs2:=Cs.qg hs
 refine⟨⟨a.blk,a.base+o,a.lim⟩,fun ρ0 i h0=> ?_,?_⟩
 ·simp only[bV,e]
  exact .inr ⟨_,_,c,h0,rfl,hnc,fun _=>by simp⟩
 ·rw[e]
  by_cases hz:n*m=0
  ·exact .inl hz
  rcases hR.block hi hc ha with h0|⟨arr,e,f,hb,hcr⟩
  ·have:=hs2.1;omega
  ·refine .inr ⟨arr,e,f,hb,fun ρ' k y hk=> ?_⟩
   have h3:=iq.seg hs2.2 hcr
   have hlt:=Cs.fB hk
   simp only[Cs.size]at hlt
   simp only[Cs.get,bW.2 hlt,aO,Cs.eff,dL.el]at hk
   have hkn:k/m<n:=Nat.div_lt_of_lt_mul (by rw[Nat.mul_comm];exact hlt)
   rw[Ho m n _ vs hkn,List.getElem?_take,if_pos (Nat.mod_lt _ hm),List.getElem?_drop,Nat.div_add_mod']at hk
   obtain⟨_,y0,hy0⟩:=hs2.2.2 k hlt
   have hk0:=(hs2.2.2 k hlt).1
   split at hk
   ·rename_i x hx
    cases hk
    obtain⟨u,hu,hr⟩:=h3 k (.lit x) (by rw[hd];simp only[Cs.get,hx])
    exact⟨u,hu,by simpa only[bV]using hr⟩
   ·cases hk
    obtain⟨u,hu,_⟩:=h3 k y0 (by rw[hk0];exact hy0)
    exact⟨u,hu,by simp only[bV]⟩
def ag1(h:Heap)(x:AV)(m:Nat)(Q:dL->Prop):Prop:=match x with
 | .lit (.slice none 0 c)=>bif Nat.beq c 0 then Q (.few [])else False
 | .lit _=>False
 |x=>bif akq x then vNew h (nrm x) m Q else False
where
 /-- It is no longer than it may be. -/
 akq:AV->Bool
  | .sl _ _ n c=>Nat.ble n c
  |_=>true
theorem apN{h:Heap}{ρ:Ren}{T:Nat->Prop}{w:World}{x:AV}{v:Value}{m:Nat}{Q:dL->Prop}(hR:Rel h ρ T w)(hm:0<m)(hq:ag1 h x m Q)(hv:bV ρ x v): ∃new,adr w m new v/\Q new:=by
 unfold ag1 at hq
 split at hq
 ·rename_i c
  cases hb:Nat.beq c 0 with
  |false=>rw[hb]at hq;exact hq.elim
  |true=>
   rw[hb]at hq
   have:=ak hb;subst this
   simp only[bV]at hv;subst hv
   exact⟨.few [],⟨⟨0,0,0⟩,fun ρ0 i h0=>by simp[bV,dL.len],.inl (by simp[dL.len])⟩,hq⟩
 ·exact hq.elim
 rename_i hnl1 avM
 cases hcap:ag1.akq x with
 |false=>rw[hcap]at hq;exact hq.elim
 |true=>
 rw[hcap]at hq;simp only[aO]at hq
 have hcap:ag1.akq (nrm x)=true:=by cases x<;>exact hcap
 have hnl1: ∀c,nrm x= .lit (.slice none 0 c)->False:=by cases x<;>first|exact hnl1|(intro c h;cases h)
 have avM: ∀v,nrm x= .lit v->False:=by cases x<;>first|exact avM|(intro c h;cases h)
 have hv:=yL hv
 generalize nrm x=x at hq hcap hnl1 avM hv
 unfold vNew at hq
 split at hq
 ·rename_i j o n c
  simp only[bV]at hv
  obtain⟨a,ha,rfl⟩:=hv
  have hnc:n<=c:=Nat.le_of_ble_eq_true hcap
  cases hb:(Nat.beq o 0&&Nat.beq (KI h j) m)with
  |true=>
   rw[hb]at hq;simp only[aO]at hq
   simp only[aI]at hb
   have:=ak hb.1;subst this
   obtain⟨ob,N,g,wr,hi,hc,hle,hq⟩:=iT hq
   exact⟨_,Am hR hm hi hc ha (by omega) hnc (fun _=>by simp),hq⟩
  |false=>
   rw[hb]at hq;simp only[aP]at hq
   split at hq
   ·rename_i ob hi
    split at hq
    ·rename_i c' hc
     split at hq
     ·rename_i l hsub
      split at hq
      ·rename_i vs hvs
       have:=iD hvs;subst this
       exact⟨_,ads hR hm hi hc ha hsub (fun k=>by simp only[Cs.get,List.getElem?_map];cases vs[k]? <;>rfl) hnc,hq⟩
      ·exact hq.elim
     ·rename_i vs hsub
      exact⟨_,ads hR hm hi hc ha hsub (fun k=>rfl) hnc,hq⟩
     ·exact hq.elim
    ·exact hq.elim
   ·exact hq.elim
 ·rename_i j q m' n c
  cases hb:Nat.beq m m' with
  |false=>rw[hb]at hq;exact hq.elim
  |true=>
   rw[hb]at hq;simp only[aO]at hq
   have:=ak hb;subst this
   simp only[bV]at hv
   obtain⟨a,p,ha,rfl,hnc,hp⟩:=hv
   obtain⟨ob,N,g,wr,hi,hc,hle,hq⟩:=iT hq
   exact⟨_,Am hR hm hi hc ha hle hnc (fun hn=>hp (by omega)),hq⟩
 ·rename_i j q m' n
  cases hb:Nat.beq m m' with
  |false=>rw[hb]at hq;exact hq.elim
  |true=>
   rw[hb]at hq;simp only[aO]at hq
   have:=ak hb;subst this
   simp only[bV]at hv
   obtain⟨a,p,c,ha,rfl,hnc,hp⟩:=hv
   obtain⟨ob,N,g,wr,hi,hc,hle,hq⟩:=iT hq
   exact⟨_,Am hR hm hi hc ha hle hnc (fun hn=>(hp (by omega)).1),hq⟩
 ·rename_i j q m' n
  cases hb:Nat.beq m m' with
  |false=>rw[hb]at hq;exact hq.elim
  |true=>
   rw[hb]at hq;simp only[aO]at hq
   have:=ak hb;subst this
   simp only[bV]at hv
   obtain⟨ob,N,g,wr,hi,hc,hle,hq⟩:=iT hq
   rcases hv with ⟨rfl,rfl⟩|⟨a,p,c,ha,rfl,hnc,hp⟩
   ·exact⟨_,⟨⟨0,0,0⟩,fun ρ0 i h0=>by simp[bV,dL.len],.inl (by simp[dL.len])⟩,hq⟩
   ·exact⟨_,Am hR hm hi hc ha hle hnc hp,hq⟩
 ·exact(avM _ rfl).elim
 ·exact(avM _ rfl).elim
 ·exact(avM _ rfl).elim
 ·exact hq.elim
theorem Rel.fresh{h:Heap}{ρ:Ren}{T:Nat->Prop}{w w':World}(hR:Rel h ρ T w)(hk:Keeps (fun b=>w.heap.size<=b) w w'):Rel h ρ T w'/\Keeps T w w':=by
 obtain⟨S,h1,h2,h3,h4,h5⟩:=hR
 have hsame: ∀b,b<w.heap.size->w'.heap[b]? =w.heap[b]? :=fun b hb=>hk.block b (by omega)
 refine⟨⟨S,fun i o hi=> ?_,h2,fun i o b hi hs=>⟨(h3 i o b hi hs).1,Nat.lt_of_lt_of_le (h3 i o b hi hs).2 hk.size⟩,h4,fun b hb=>h5 b (Nat.le_trans hk.size hb)⟩,⟨hk.size,hk.os,hk.tape,hk.output,fun b hb=>hsame b (by
  rcases Nat.lt_or_ge b w.heap.size with h|h
  ·exact h
  ·exact(hb (h5 b h)).elim)⟩⟩
 obtain⟨a,ha,ho⟩:=h1 i o hi
 refine⟨a,ha,ho.stays fun b hb=>hsame b ?_⟩
 rcases hb with hb|hb
 ·exact(h3 i o b hi hb).2
 ·rcases Nat.lt_or_ge b w.heap.size with h|h
  ·exact h
  ·exact(hb (h5 b h)).elim
theorem atx{P:Program}{f:FuncId}{args KN:List AV}{h:Heap}(m:Nat)(os:List dw){r:AV}{K0:AV->Heap->Prop}(hs:Sp P f KN (hO m os) K0)(hK: ∀v h',K0 v h'->v=r)(hm:os.length=m)(hr: ∀ρ ρ' u,bV ρ r u->bV ρ' r u)
  (hview: ∀ρ T w vs,Rel h ρ T w->eP ρ args vs-> ∃as,zT w (fun b=>w.heap.size<=b) (KH as) os as/\eP (KH as) KN vs):Sp P f args h (fun v h'=>v=r/\h'=h):=by
 subst hm
 refine⟨hs.1,fun ρ T w vs hR hl=> ?_⟩
 obtain⟨as,hh,hl0⟩:=hview ρ T w vs.toList hR hl
 obtain⟨g1,g2⟩:=hh.get
 have hR0:Rel (hOf os) (KH as) (fun b=>w.heap.size<=b) w:=by
  refine⟨fun _ _=>False,fun i o hi=> ?_,fun _ _ _ _ _ _ _ _ h=>h.elim,fun _ _ _ _ h=>h.elim,fun i hi=> ?_,fun _ h=>h⟩
  ·rw[fG]at hi
   exact g2 i o hi
  ·rw[qj]at hi
   simp only[KH]
   rw[List.getElem?_eq_none];omega
 refine(hs.2 _ _ w vs hR0 hl0).mono ?_
 rintro e w' ⟨ρ',v,u,h',_,_,_,hu,rfl,hk,hKv⟩
 have:=hK _ _ hKv
 subst this
 obtain⟨a1,a2⟩:=hR.fresh hk
 exact⟨ρ,v,u,h,fun _ _=>rfl,aX _,a1,hr _ _ _ hu,rfl,a2,rfl,rfl⟩
def mG:AV->Bool
 | .lit _=>true
 | .agg l=>l.all isLit
 | .tup l=>l.all isLit
 |_=>false
where isLit:AV->Bool
 | .lit _=>true
 |_=>false
theorem Ij{ρ ρ':Ren}: ∀{l:List AV} {us:List Value},l.all mG.isLit=true->eP ρ l us->eP ρ' l us
 |[],us,_,h=>by simpa[eP]using h
 |a::l,us,hl,h=>by
  simp only[List.all_cons,aI]at hl
  simp only[eP]at h ⊢
  obtain⟨v,vs',rfl,h1,h2⟩:=h
  refine⟨v,vs',rfl,?_,Ij hl.2 h2⟩
  cases a<;>simp[mG.isLit]at hl
  simpa only[bV]using h1
theorem yN{r:AV}(h:mG r=true)(ρ ρ':Ren)(u:Value)(hu:bV ρ r u):bV ρ' r u:=by
 cases r<;>simp only[mG,Bool.false_eq_true]at h
 ·simpa only[bV]using hu
 ·simp only[bV]at hu ⊢;obtain⟨vs,rfl,hl⟩:=hu;exact⟨vs,rfl,Ij h hl⟩
 ·simp only[bV]at hu ⊢;obtain⟨vs,rfl,hl⟩:=hu;exact⟨vs,rfl,Ij h hl⟩
theorem ag2{w:World}{m:Nat}{new:dL}{v:Value}(hv:adr w m new v){n:Nat}{g:Nat->List Value}(hn:new.len=n)(hg: ∀k,k<n->new.el k=g k): ∃a:Loc,(∀(ρ:Ren) i,ρ i=some a->bV ρ (.slR i 0 m n) v)/\ ∀ρ,dU ρ w (fun b=>w.heap.size<=b) a (fun _=>False) (.ro (.row m n g [])):=by
 subst hn
 obtain⟨a,h1,h2⟩:=hv
 refine⟨a,h1,fun ρ=> ?_⟩
 rcases h2 with h2|⟨arr,e,f,hb,hc⟩
 ·exact .inl h2
 ·refine .inr ⟨fun hle=> ?_,arr,e,f,hb,fun k x hk=> ?_⟩
  ·have:=(Array.getElem?_eq_some_iff.1 hb).1;omega
  ·refine hc ρ k x ?_
   have hlt:=Cs.fB hk
   simp only[Cs.size]at hlt
   rw[<-hk]
   simp only[Cs.get,bW.2 hlt,aO,Cs.eff,hg _ (Nat.div_lt_of_lt_mul (by rw[Nat.mul_comm];exact hlt))]
theorem Nl{ρ ρ':Ren}: ∀{l:List AV} {us:List Value},l.all mG=true->eP ρ l us->eP ρ' l us
 |[],us,_,h=>by simpa[eP]using h
 |a::l,us,hl,h=>by
  simp only[List.all_cons,aI]at hl
  simp only[eP]at h ⊢
  obtain⟨v,vs',rfl,h1,h2⟩:=h
  exact⟨v,vs',rfl,yN hl.1 _ _ _ h1,Nl hl.2 h2⟩
theorem adt{P:Program}{f:FuncId}{args:List AV}(h:Heap){r:AV}{K0:AV->Heap->Prop}(hs:Sp P f args (hO 0 []) K0)(hK: ∀v h',K0 v h'->v=r)(ha:args.all mG=true)(hr:mG r=true):Sp P f args h (fun v h'=>v=r/\h'=h):=
 atx 0 [] hs hK rfl (yN hr) fun _ _ _ _ _ hl=>⟨[],trivial,Nl ha hl⟩
theorem apO{P:Program}{f:FuncId}{x:AV}{h:Heap}{m:Nat}{new:dL->Prop}{K:AV->Heap->Prop}(hc:zQ P f)(hm:0<m)(hq:ag1 h x m new)
  (hs: ∀e,new e-> ∃n g r,e.len=n/\(∀k,k<n->e.el k=g k)/\mG r=true/\K r h/\Sp P f [.slR 0 0 m n] (hO 1 [.ro (.row m n g [])]) (fun v _=>v=r)):Sp P f [x] h K:=by
 refine⟨hc,fun ρ T w vs hR hl=> ?_⟩
 simp only[eP]at hl
 obtain⟨v,vs',hvs,hv,rfl⟩:=hl
 obtain⟨e,hva,he⟩:=apN hR hm hq hv
 obtain⟨n,g,r,hn,hg,hr,hK,hsp⟩:=hs e he
 obtain⟨a,ha1,ha2⟩:=ag2 hva hn hg
 have hR0:Rel (hOf [.ro (.row m n g [])]) (KH [a]) (fun b=>w.heap.size<=b) w:=by
  refine⟨fun _ _=>False,fun i o hi=> ?_,fun _ _ _ _ _ _ _ _ h=>h.elim,fun _ _ _ _ h=>h.elim,fun i hi=> ?_,fun _ h=>h⟩
  ·rw[fG]at hi
   cases i with
   |zero=>simp at hi;subst hi;exact⟨a,rfl,ha2 _⟩
   |succ i=>simp at hi
  ·rw[qj]at hi
   simp only[KH]
   rw[List.getElem?_eq_none];simpa using hi
 refine(hsp.2 _ _ w vs hR0 (by rw[hvs];simp only[eP];exact⟨v,[],rfl,ha1 _ 0 rfl,rfl⟩)).mono ?_
 rintro e' w' ⟨ρ',v',u,h',_,_,_,hu,rfl,hk,hKv⟩
 subst hKv
 obtain⟨a1,a2⟩:=hR.fresh hk
 exact⟨ρ,v',u,h,fun _ _=>rfl,aX _,a1,yN hr _ _ _ hu,rfl,a2,hK⟩
end Go.Proofs.YtenfleoejgjklaaGreat.SE
end
section
namespace Go.Proofs.YtenfleoejgjklaaGreat.SE
open Go
open Go.ChangeShapes Go.WideShapes Go.ChangeAt Go.RowKit
theorem open_row{H:Type}{enc:TypeId×Value->H}{P:Program}{W:World}{T:Nat->Prop}{t e:TypeId}{v:Value}{d:DataW H}{ps:List MemPlace}{α:Type}{f:α->List Value}{m:Nat}(a0:α)(ok:α->Prop)(hf: ∀a,(f a).length=m)(hm:0<m)
  (ht:P.underlying t=some (.slice e)) (hc:P.cellsOf e=m) (hok:Value.okWide P W .any 0 t v) (h:DataW.Trod enc P W 0 (fun _=>true) true t v d ps) (hT: ∀b,b<W.heap.size-> ¬T b)
  (hel: ∀fuel cs y,DataW.trod enc P W 0 (fun _=>true) true fuel e cs=some y-> ∃a,ok a/\cs=f a):
  ∃(c:Nat->α) (n:Nat) (a:Loc),n<=maxLen/\(∀k,k<n->ok (c k))/\(∀(ρ:Ren) (i:Nat),ρ i=some a->bV ρ (.slR i 0 m n) v)/\ ∀(ρ:Ren) (S:Nat->Prop),dU ρ W T a S (.ro (.row m n (fun k=>f (c k)) [])):=by
 obtain⟨x,cap,a,h1,h2,h3⟩:=ajq ok hf hm ht hc hok h hT hel
 cases x with
 |none=>
  refine⟨fun _=>a0,0,a,Nat.zero_le _,fun k hk=>by omega,fun ρ i hi=> ?_,fun ρ S=> .inl (by simp[Cs.size])⟩
  have:=h2 ρ i hi
  simp only[argV,bV]at this ⊢
  exact .inl ⟨trivial,this⟩
 |some l=>
  obtain⟨g1,g2,g3⟩:=h1 l rfl
  refine⟨fun k=>l.getD k a0,l.length,a,Nat.le_trans g2 g3,fun k hk=>g1 _ (by simp[hk]),fun ρ i hi=> ?_,fun ρ S=> ?_⟩
  ·have:=h2 ρ i hi
   simp only[argV,bV]at this ⊢
   obtain⟨a',ha',hv⟩:=this
   exact .inr ⟨a',_,cap,ha',hv,g2,fun _=>by simp⟩
  ·have:=h3 ρ S
   simp only[argO,dU,Cs.size]at this ⊢
   rcases this with h0|⟨hT',arr,e',f',hb,hcr⟩
   ·left;rwa [flat_length hf]at h0
   ·refine .inr ⟨hT',arr,e',f',hb,fun k u hk=> ?_⟩
    have hlt:=Cs.fB hk
    simp only[Cs.size]at hlt
    have hkl:k/m<l.length:=Nat.div_lt_of_lt_mul (by rw[Nat.mul_comm];exact hlt)
    have hg:l[k/m]? =some (l.getD (k/m) a0):=by simp[hkl]
    have hfl:=flat_get (f:=f) hf l (k/m) (k%m) _ hg (Nat.mod_lt _ hm)
    rw[Nat.div_add_mod']at hfl
    simp only[Cs.get,bW.2 hlt,aO,Cs.eff]at hk
    split at hk
    ·rename_i y hy
     cases hk
     refine hcr k (.lit y) ?_
     simp only[Cs.get,hfl,hy]
    ·rename_i hy
     have:k%m<(f (l.getD (k/m) a0)).length:=by rw[hf];exact Nat.mod_lt _ hm
     rw[List.getElem?_eq_getElem this]at hy;cases hy
end Go.Proofs.YtenfleoejgjklaaGreat.SE
end
section
namespace Go.Proofs.YtenfleoejgjklaaGreat.SE
open Go
def aty(τ:Nat->Nat)(n:Nat)(o0 o:dw):Prop:=
 (lV o0=false/\avH τ n o0 o)\/
 ∃c0 c,o0= .ro c0/\o.fP=some c/\(c.size=0->c0.size=0)/\ ∀ρ ρ0 arr b,(∀i,i<n->ρ0 i=ρ (τ i))->iq ρ c arr b->iq ρ0 c0 arr b
theorem Rel.part2{h h0:Heap}{ρ:Ren}{T:Nat->Prop}{w:World}{S:Nat->Nat->Prop}{τ:Nat->Nat}
  (h1: ∀i o,h.get i=some o-> ∃a,ρ i=some a/\dU ρ w T a (S i) o)
  (h2: ∀i j o o' b,h.get i=some o->h.get j=some o'->i≠j->S i b->S j b->False)
  (h3: ∀i o b,h.get i=some o->S i b->T b/\b<w.heap.size)
  (hinj: ∀i j,i<h0.next->j<h0.next->τ i=τ j->i=j)
  (hfit: ∀i o0,h0.get i=some o0->i<h0.next/\ ∃o,h.get (τ i)=some o/\aty τ h0.next o0 o):
  ar1 h0 (fun i=>if i<h0.next then ρ (τ i)else none) (fun b=> ∃i o0,h0.get i=some o0/\lV o0=false/\S (τ i) b) w:=by
 have hρ: ∀i,i<h0.next->(fun i=>if i<h0.next then ρ (τ i)else none) i=ρ (τ i):=fun i hi=>by simp[hi]
 refine⟨fun i b=>(∃o0,h0.get i=some o0/\lV o0=false)/\S (τ i) b,fun i o0 hi=> ?_,fun i j o o' b hi hj hij hSi hSj=> ?_,fun i o0 b hi hS=> ?_,fun i hi=>by simp;omega⟩
 ·obtain⟨hlt,o,ho,hf⟩:=hfit i o0 hi
  obtain⟨a,ha,hh⟩:=h1 _ o ho
  refine⟨a,by rw[hρ i hlt];exact ha,?_⟩
  rcases hf with ⟨hro,PU⟩|⟨c0,c,rfl,hx,hz,hcc⟩
  ·have:=PU ρ _ w T a (S (τ i)) hρ hh
   have he:(fun b=>(∃o0,h0.get i=some o0/\lV o0=false)/\S (τ i) b)=S (τ i):=by
    funext b;simp only[hi,aj,aB,hro,aT]
   show dU _ w _ a (fun b=>(∃o0,h0.get i=some o0/\lV o0=false)/\S (τ i) b) o0
   rw[he]
   exact this.PS hro
  ·have apg:(lV o=false->S (τ i) a.blk)-> ∀b,(b=a.blk)->(∀(x:dw),h.get (τ i)=some x->lV x=true-> ¬T b)-> ¬ ∃j o1,h0.get j=some o1/\lV o1=false/\S (τ j) b:=by
    intro hSi0 b hb hT ⟨j,o1,hj,hro1,hSj⟩
    obtain⟨hjlt,oj,hoj,hfj⟩:=hfit j o1 hj
    by_cases hij:j=i
    ·subst hij
     rw[hi]at hj;cases hj;simp[lV]at hro1
    ·have hne:τ j≠τ i:=fun h'=>hij (hinj j i hjlt hlt h')
     subst hb
     cases av7:lV o with
     |true=>exact hT o ho av7 (h3 _ oj _ hoj hSj).1
     |false=>
      have hSi:S (τ i) a.blk:=hSi0 av7
      exact h2 _ _ _ _ _ hoj ho hne hSj hSi
   cases o with
   |cells e y=>
    simp only[dw.fP,aj]at hx;subst hx
    obtain⟨g0,gS,arr,g1,g2,g3,g4⟩:=hh
    refine .inr ⟨apg (fun _=>gS) _ rfl (fun z hz hz'=> ?_),arr,e,(0,0),g1,?_⟩
    ·rw[ho]at hz;cases hz;simp[lV]at hz'
    ·rw[g0];exact hcc ρ _ arr 0 hρ g4
   |room e y=>
    simp only[dw.fP,aj]at hx;subst hx
    obtain⟨g0,gS,arr,g1,g2,g3,g4⟩:=hh
    refine .inr ⟨apg (fun _=>gS) _ rfl (fun z hz hz'=> ?_),arr,e,(0,0),g1,?_⟩
    ·rw[ho]at hz;cases hz;simp[lV]at hz'
    ·rw[g0];exact hcc ρ _ arr 0 hρ g4
   |mM z e y=>
    simp only[dw.fP,aj]at hx;subst hx
    rcases hh with ⟨_,h0⟩|⟨_,g0,gS,arr,g1,g2,g3,g4⟩
    ·exact .inl (hz h0)
    ·refine .inr ⟨apg (fun _=>gS) _ rfl (fun z hz hz'=> ?_),arr,e,(0,0),g1,?_⟩
     ·rw[ho]at hz;cases hz;simp[lV]at hz'
     ·rw[g0];exact hcc ρ _ arr 0 hρ g4
   |yH n g k=>simp[dw.fP]at hx
   |ro y=>
    simp only[dw.fP,aj]at hx;subst hx
    rcases hh with h0|⟨gT,arr,e,f,g1,g2⟩
    ·exact .inl (hz h0)
    ·exact .inr ⟨apg (fun h=>by simp[lV]at h) _ rfl (fun z hz hz'=>gT),arr,e,f,g1,hcc ρ _ arr _ hρ g2⟩
   |map es q=>simp[dw.fP]at hx
   |abs A=>simp[dw.fP]at hx
   |iter m since seen st=>simp[dw.fP]at hx
 ·exact h2 (τ i) (τ j) (Classical.choose (hfit i o hi).2) (Classical.choose (hfit j o' hj).2) b (Classical.choose_spec (hfit i o hi).2).1 (Classical.choose_spec (hfit j o' hj).2).1
   (fun h'=>hij (hinj i j (hfit i o hi).1 (hfit j o' hj).1 h')) hSi.2 hSj.2
 ·obtain⟨hlt,x,hx,_⟩:=hfit i o0 hi
  exact⟨⟨i,o0,hi,by obtain⟨y,hy,hr⟩:=hS.1;rw[hi]at hy;cases hy;exact hr,hS.2⟩,(h3 _ x b hx hS.2).2⟩
theorem Sp.awv{P:Program}{f:FuncId}{KN args:List AV}{h0 h:Heap}{K0:AV->Heap->Prop}(τ:Nat->Nat)(hs:Sp P f KN h0 K0)
  (hfit: ∀i o0,h0.get i=some o0->i<h0.next/\ ∃o,h.get (τ i)=some o/\aty τ h0.next o0 o)
  (hinj: ∀i j,i<h0.next->j<h0.next->τ i=τ j->i=j) (hτ: ∀i,i<h0.next->τ i<h.next)
  (hargs: ∀ρ ρ0 u,(∀i,i<h0.next->ρ0 i=ρ (τ i))->eP ρ args u->eP ρ0 KN u):
  Sp P f args h (fun v h'=> ∃v0 h0',K0 v0 h0'/\v=jX (lay τ h0.next h.next) v0/\h'=MJ τ h0 h h0'):=by
 refine⟨hs.1,fun ρ T w vs hR hl=> ?_⟩
 obtain⟨S,h1,h2,h3,h4,h5⟩:=hR
 have hpart:=Rel.part2 (h0:=h0) (τ:=τ) h1 h2 h3 hinj hfit
 let ρ0:Ren:=fun i=>if i<h0.next then ρ (τ i)else none
 let T0:Nat->Prop:=fun b=> ∃i o0,h0.get i=some o0/\lV o0=false/\S (τ i) b
 have hρ0: ∀i,i<h0.next->ρ0 i=ρ (τ i):=fun i hi=>by simp[ρ0,hi]
 have hR0:Rel h0 ρ0 (fun b=>T0 b\/w.heap.size<=b) w:=by
  obtain⟨S0,r1,r2,r3,r4⟩:=hpart
  refine⟨S0,fun i o hi=> ?_,r2,fun i o b hi hS=>⟨.inl (r3 i o b hi hS).1,(r3 i o b hi hS).2⟩,r4,fun b hb=> .inr hb⟩
  obtain⟨a,ha,hh⟩:=r1 i o hi
  refine⟨a,ha,?_⟩
  cases hr:lV o with
  |false=>exact hh.PS hr
  |true=>
   cases o<;>simp[lV]at hr
   rcases hh with h0|⟨hT,arr,e,f,g1,g2⟩
   ·exact .inl h0
   refine .inr ⟨fun hT'=> ?_,arr,e,f,g1,g2⟩
   rcases hT' with hT'|hT'
   ·exact hT hT'
   ·have:a.blk<w.heap.size:=(Array.getElem?_eq_some_iff.1 g1).1
    omega
 have hl0:eP ρ0 KN vs.toList:=hargs ρ ρ0 _ hρ0 hl
 refine(hs.2 ρ0 _ w vs hR0 hl0).mono ?_
 rintro e w' ⟨ρ0',v0,u,h0',q1,q2,q3,q4,rfl,q5,q6⟩
 have hT0': ∀b,T0 b-> ∃i o,i<h0.next/\gives h0 i=true/\h.get (τ i)=some o/\S (τ i) b:=by
  rintro b ⟨i,o0,hi,hr,hS⟩
  obtain⟨hlt,o,ho,_⟩:=hfit i o0 hi
  exact⟨i,o,hlt,by simp[gives,hi,hr],ho,hS⟩
 have hlow: ∀j o,h.get j=some o->j<h.next:=fun j o hj=>by
  obtain⟨a,ha,_⟩:=h1 j o hj
  rcases Nat.lt_or_ge j h.next with h'|h'
  ·exact h'
  ·rw[h4 j h']at ha;cases ha
 obtain⟨ρ',b1,b2,b3,b4,b5⟩:=Rel.back (h':=MJ τ h0 h h0') (own:=fun i=>gives h0 i=true) (τ:=τ) (k0:=h0.next) (ρ0':=ρ0') (h0':=awd h0') (T0:=T0) h1 h2 h3 h4 h5 hT0' hτ q5
  (fun i hi=>(q1 i hi).trans (hρ0 i hi)) q2 (q3.relS.less rfl fun i o hi=>(ac5 hi).1)
  (fun i o0 hi hr=>by rw[(ac5 hi).2]at hr;cases hr) (by rw[G9];rfl)
  (fun j o hj=>by
   rw[G9]at hj
   have hj':(MI (lay τ h0.next h.next) (fun i=>Nat.blt i h0.next&& !gives h0 i) h0' (List.range h0'.next) h.m).get j=some o:=hj
   rcases MK _ _ h0' _ _ j o hj' with ⟨hm,hne⟩|⟨i,o0,hi,hsk,ho0,hr,rfl,rfl⟩
   ·refine .inl ⟨hlow j o hm,hm,fun i hik hgv=> ?_⟩
    have hi:i∈List.range h0'.next:=List.mem_range.2 (Nat.lt_of_lt_of_le hik q2)
    have:=hne i hi (by simp[hgv])
    simpa[lay,hik]using this
   ·refine .inr ⟨i,o0,as7 ho0 hr,?_,rfl,rfl⟩
    simp only[Bool.and_eq_false_iff,Bool.not_eq_false']at hsk
    rcases hsk with h'|h'
    ·refine .inl ?_
     rcases Nat.lt_or_ge i h0.next with hlt|hge
     ·rw[bW.2 hlt]at h';cases h'
     ·exact hge
    ·exact .inr h') hinj
 exact⟨ρ',jX (lay τ h0.next h.next) v0,u,MJ τ h0 h h0',b2,by rw[G9];simp,b4,bV.jX b3 _ _ q4,rfl,b5,v0,h0',q6,rfl,rfl⟩
def eqF(τ:Tau)(o0:dw)(x:Option dw):Prop:=match o0 with
 | .ro c0=>match x with
  |some o=>match o.fP with
   |some c=>eqC τ c0 c
   |none=>False
  |none=>False
 |o0=>eqO τ o0 x
def eqFs(τ:Tau)(h:Heap):Nat->List dw->Prop
 |_,[]=>True
 |i,o::r=>eqF τ o (h.get (tau τ i))/\eqFs τ h (i+1) r
def matF(h:Heap):Nat->List dw->Tau->Tau
 |_,[],τ=>τ
 |i,o::r,τ=>matF h (i+1) r (match o,h.get (tau τ i)with
  | .cells _ c,some (.cells _ d)=>matC c d τ
  | .ro (.av l),some x=>(match x.fP with
   |some (.av m)=>agY l m τ
   |_=>τ)
  |_,_=>τ)
def VF(k n:Nat)(τ:Tau):Bool:=go ((List.range k).map (tau τ))
where
 go:List Nat->Bool
  |[]=>true
  |x::l=>Nat.blt x n&&l.all (fun y=> !Nat.beq x y)&&go l
theorem ZX{k n:Nat}{τ:Tau}(h:VF k n τ=true):(∀i,i<k->tau τ i<n)/\ ∀i j,i<k->j<k->tau τ i=tau τ j->i=j:=by
 have key: ∀l:List Nat,VF.go n l=true->(∀x∈l,x<n)/\ ∀(i j a b:Nat),l[i]? =some a->l[j]? =some b->a=b->i=j:=by
  intro l
  induction l with
  |nil=>intro _;exact⟨fun x hx=>(nomatch hx),fun i j a b ha=>by simp at ha⟩
  |cons x l ih=>
   intro hh
   simp only[VF.go,aI,List.all_eq_true,Bool.not_eq_true']at hh
   obtain⟨⟨h1,h2⟩,h3⟩:=hh
   obtain⟨i1,i2⟩:=ih h3
   have ne: ∀(j:Nat) (b:Nat),l[j]? =some b->x≠b:=fun j b hb he=>by
    have:=h2 b (List.mem_of_getElem? hb)
    rw[he,Nat.beq_refl]at this;cases this
   refine⟨fun y hy=> ?_,fun i j a b ha hb hab=> ?_⟩
   ·rcases List.mem_cons.1 hy with rfl|hy
    ·exact bW.1 h1
    ·exact i1 y hy
   ·cases i with
    |zero=>
     cases j with
     |zero=>rfl
     |succ j=>simp at ha hb;subst ha;exact(ne j b hb hab).elim
    |succ i=>
     cases j with
     |zero=>simp at ha hb;subst hb;exact(ne i a ha hab.symm).elim
     |succ j=>simp at ha hb;rw[i2 i j a b ha hb hab]
 obtain⟨h1,h2⟩:=key _ h
 have at_: ∀i,i<k->((List.range k).map (tau τ))[i]? =some (tau τ i):=fun i hi=>by simp[hi]
 exact⟨fun i hi=>h1 _ (List.mem_of_getElem? (at_ i hi)),fun i j hi hj he=>h2 i j _ _ (at_ i hi) (at_ j hj) he⟩
def obsB(k:Nat)(os:List dw):Bool:=os.all fun o=>oN k o
def akr(k:Nat)(KN:List AV)(os:List dw)(args:List AV)(h:Heap)(Q:Tau->Prop):Prop:=go (matF h 0 os (agY KN args []))
where
 go (τ:Tau):Prop:=bif VF k h.next τ&&iQ k KN&&obsB k os then(eqL τ KN args/\eqFs τ h 0 os/\Q τ)else False
theorem ag3{ρ:Ren}{c:Cs}{arr:Array Value}{b:Nat}(hk: ∀k,k<c.size-> ∃v,c.get k=some v)(h0:0<c.size)(hc:iq ρ c arr b):b+c.size<=arr.size:=by
 obtain⟨v,hv⟩:=hk (c.size-1) (by omega)
 obtain⟨u,hu,_⟩:=hc _ _ hv
 have:=(Array.getElem?_eq_some_iff.1 hu).1
 omega
theorem aks{τ:Tau}{ρ ρ0:Ren}{N:Nat}(hρ: ∀i,i<N->ρ0 i=ρ (tau τ i)){c d:Cs}(hn:lF N c=true)(h:eqC τ c d)(hnc: ∀x y,c≠ .cat x y){arr:Array Value}{b:Nat}(hc:iq ρ d arr b):iq ρ0 c arr b:=by
 have hsz:=lI h
 rcases Nat.eq_zero_or_pos d.size with h0|h0
 ·intro k v hk
  have:=Cs.fB hk
  omega
 ·refine Nb hρ hn h (ag3 (fun k hk=> ?_) h0 hc) hc
  cases d with
  |av l=>exact⟨l[k],List.getElem?_eq_getElem hk⟩
  |raw l=>
   simp only[Cs.size]at hk
   exact⟨.lit l[k],by simp only[Cs.get,List.getElem?_eq_getElem hk]⟩
  |tr n z t=>cases c<;>simp[eqC]at h
  |row m n g wr=>exact Vh hk
  |cat x y=>
   cases c with
   |cat x' y'=>exact(hnc _ _ rfl).elim
   |_=>simp[eqC]at h
theorem apP{τ:Tau}{ρ ρ0:Ren}{N:Nat}(hρ: ∀i,i<N->ρ0 i=ρ (tau τ i)): ∀{c d:Cs},lF N c=true->eqC τ c d-> ∀{arr:Array Value} {b:Nat},iq ρ d arr b->iq ρ0 c arr b:=by
 intro c
 induction c with
 |cat x y ihx ihy=>
  intro d hn h arr b hc
  cases d with
  |cat x' y'=>
   simp only[eqC]at h
   simp only[lF,aI]at hn
   rw[zX]at hc ⊢
   have hx:=lI h.1
   exact⟨ihx hn.1 h.1 hc.1,by rw[hx];exact ihy hn.2 h.2 hc.2⟩
  |_=>simp[eqC]at h
 |_=>intro d hn h arr b hc;exact aks hρ hn h (fun _ _ hh=>by cases hh) hc
theorem apQ{τ:Tau}{N:Nat}{o0:dw}{x:Option dw}(hn:oN N o0=true)(h:eqF τ o0 x): ∃o,x=some o/\aty (tau τ) N o0 o:=by
 unfold eqF at h
 split at h
 ·rename_i c0
  split at h
  ·rename_i o
   split at h
   ·rename_i c hc
    refine⟨o,rfl,.inr ⟨c0,c,rfl,hc,fun hz=>by rw[lI h];exact hz,fun ρ ρ0 arr b hρ hcr=>apP hρ hn h hcr⟩⟩
   ·exact h.elim
  ·exact h.elim
 ·rename_i hne
  obtain⟨o,ho,hs⟩:=Qi hn h
  refine⟨o,ho,.inl ⟨?_,hs⟩⟩
  cases hr:lV o0 with
  |false=>rfl
  |true=>
   cases o0<;>simp[lV]at hr
   exact(hne _ rfl).elim
structure Out (X:Type) where
 Y:Type
 post:X->Y->Prop
 ret:X->Y->AV
 m:Nat
 os:X->Y->List dw
structure Ctr where
 X:Type
 args:X->List AV
 k:Nat
 os:X->List dw
 pre:X->Prop
 outs:List (Out X)
def pU{X:Type}(x:X)(v:AV)(h':Heap):List (Out X)->Prop
 |[]=>False
 |o::r=>(∃y,o.post x y/\v=o.ret x y/\h'=hO o.m (o.os x y))\/pU x v h' r
def Qn{X:Type}(x:X)(Q:AV->Heap->Prop):List (Out X)->Prop
 |[]=>True
 |[o]=> ∀y,o.post x y->Q (o.ret x y) (hO o.m (o.os x y))
 |o::r=>(∀y,o.post x y->Q (o.ret x y) (hO o.m (o.os x y)))/\Qn x Q r
theorem CV{X:Type}{x:X}{Q:AV->Heap->Prop}{v:AV}{h':Heap}: ∀{l:List (Out X)},Qn x Q l->pU x v h' l->Q v h'
 |[o],ha,hp=>by
  rcases hp with ⟨y,h1,rfl,rfl⟩|hp
  ·exact ha y h1
  ·exact hp.elim
 |o::o2::r,ha,hp=>by
  rcases hp with ⟨y,h1,rfl,rfl⟩|hp
  ·exact ha.1 y h1
  ·exact CV ha.2 hp
def bZ(P:Program)(f:FuncId)(C:Ctr):Prop:= ∀x,C.pre x->(C.os x).length=C.k/\Sp P f (C.args x) (hO C.k (C.os x)) (fun v h'=>pU x v h' C.outs)
def eG(C:Ctr):WTr:=fun args h K=> ∃x,C.pre x/\akr C.k (C.args x) (C.os x) args h fun τ=>
 Qn x (fun v h'=>K (jX (lay (tau τ) C.k h.next) v) (MJ (tau τ) (hO C.k (C.os x)) h h')) C.outs
theorem ase{n:Nat}{os:List dw}(h:os.length=n)(i:Nat):(hO n os).get i=os[i]? :=by
 subst h;exact fG os i
theorem bU{P:Program}{f:FuncId}{C:Ctr}(hC:bZ P f C)(args:List AV)(h:Heap)(K:AV->Heap->Prop)(hq:eG C args h K):Sp P f args h K:=by
 obtain⟨x,hp,hq⟩:=hq
 obtain⟨hlen,hs⟩:=hC x hp
 unfold akr at hq
 generalize matF h 0 (C.os x) (agY (C.args x) args [])=τ at hq
 unfold akr.go at hq
 cases hb:(VF C.k h.next τ&&iQ C.k (C.args x)&&obsB C.k (C.os x))with
 |false=>rw[hb]at hq;exact hq.elim
 |true=>
  rw[hb]at hq;simp only[aO]at hq
  simp only[aI]at hb
  obtain⟨⟨b1,b2⟩,b3⟩:=hb
  obtain⟨q1,q2,q3⟩:=hq
  obtain⟨t1,t2⟩:=ZX b1
  have hn:(hO C.k (C.os x)).next=C.k:=rfl
  have hfs: ∀(os:List dw) (i:Nat),eqFs τ h i os-> ∀j o,os[j]? =some o->eqF τ o (h.get (tau τ (i+j))):=by
   intro os
   induction os with
   |nil=>intro i _ j o hj;simp at hj
   |cons o os ih=>
    intro i he j o' hj
    cases j with
    |zero=>simp at hj;subst hj;exact he.1
    |succ j=>simp at hj;have:=ih (i+1) he.2 j o' hj;rwa [show i+1+j=i+(j+1) by omega]at this
  refine(Sp.awv (h:=h) (args:=args) (tau τ) hs (fun i o0 hi=> ?_) (fun i j hi hj=>t2 i j hi hj) (fun i hi=>t1 i hi) (fun ρ ρ0 u hρ hl=>Na hρ _ _ _ b2 q1 hl)).mono ?_
  ·rw[ase hlen]at hi
   have hlt:i<C.k:=by rw[<-hlen];exact(List.getElem?_eq_some_iff.1 hi).1
   refine⟨hlt,?_⟩
   have he:=hfs _ 0 q2 i o0 hi
   rw[ay]at he
   obtain⟨o,ho,hf⟩:=apQ (N:=C.k) (List.all_eq_true.1 b3 o0 (List.mem_of_getElem? hi)) he
   exact⟨o,ho,hf⟩
  ·rintro v h' ⟨v0,h0',hout,rfl,rfl⟩
   exact CV (Q:=fun v h'=>K (jX (lay (tau τ) C.k h.next) v) (MJ (tau τ) (hO C.k (C.os x)) h h')) q3 hout
def orT(b:List AV->Bool)(T U:WTr):WTr:=fun args h K=>bif b args then T args h K else U args h K
theorem aww{P:Program}{f:FuncId}{b:List AV->Bool}{T U:WTr}(hT: ∀args h K,T args h K->Sp P f args h K)(hU: ∀args h K,U args h K->Sp P f args h K)(args:List AV)(h:Heap)(K:AV->Heap->Prop)(hq:orT b T U args h K):Sp P f args h K:=by
 unfold orT at hq
 cases hb:b args with
 |true=>rw[hb]at hq;exact hT _ _ _ hq
 |false=>rw[hb]at hq;exact hU _ _ _ hq
def det(X:Type)(args:X->List AV)(k:Nat)(os:X->List dw)(pre:X->Prop)(ret:X->AV)(m:Nat)(os':X->List dw):Ctr:=
 {X:=X,args:=args,k:=k,os:=os,pre:=pre,outs:=[{Y:=Unit,post:=fun _ _=>True,ret:=fun x _=>ret x,m:=m,os:=fun x _=>os' x}]}
def fA(k:Nat){X:Type}(x:X)(v:AV)(h':Heap):List (Out X)->Prop
 |[]=>False
 |[o]=> ∃y,o.post x y/\endP k (o.ret x y) (o.os x y) v h'
 |o::r=>(∃y,o.post x y/\endP k (o.ret x y) (o.os x y) v h')\/fA k x v h' r
theorem VG{k:Nat}{X:Type}{x:X}{v:AV}{h':Heap}: ∀{l:List (Out X)},(∀o∈l,∀y,(o.os x y).length=o.m)->fA k x v h' l-> ∃v0 h0,Leq k v h' v0 h0/\pU x v0 h0 l
 |[o],hl,⟨y,h1,h2⟩=>⟨_,_,Qm h2,.inl ⟨y,h1,rfl,by rw[hl o (by simp) y]⟩⟩
 |o::o2::r,hl,hh=>by
  rcases hh with ⟨y,h1,h2⟩|hh
  ·exact⟨_,_,Qm h2,.inl ⟨y,h1,rfl,by rw[hl o (by simp) y]⟩⟩
  ·obtain⟨v0,h0,g1,g2⟩:=VG (l:=o2::r) (fun o ho=>hl o (List.mem_cons_of_mem _ ho)) hh
   exact⟨v0,h0,g1,.inr g2⟩
theorem akt{P:Program}{tbl:jY}{tt:TT}(hT:tt.ok P)(hm:P.follows .mixedOrders=true)(ht:fJ P tbl){C:Ctr}(an:C.X->FuncId->tK)(fuel d:Nat){f:FuncId}
  (hk: ∀x,(C.os x).length=C.k) (hl: ∀x,∀o∈C.outs,∀y,(o.os x y).length=o.m)
  (hq: ∀x,C.pre x->wpF P tbl tt (an x) fuel d f (C.args x) (hO C.k (C.os x)) (fun v h'=>fA C.k x v h' C.outs)):bZ P f C:=fun x hp=>
 ⟨hk x,ar5 ((xY hT hm ht (an x) fuel d f _ _ _ (hq x hp)).mono fun v h' hh=>by
  obtain⟨v0,h0,g1,g2⟩:=VG (hl x) hh
  exact⟨v0,h0,g1,g2⟩)⟩
theorem dV{P:Program}{tbl:jY}{tt:TT}(hT:tt.ok P)(hm:P.follows .mixedOrders=true)(ht:fJ P tbl){X:Type}{args:X->List AV}{k:Nat}{os:X->List dw}{pre:X->Prop}{ret:X->AV}{m:Nat}{os':X->List dw}
  (an:X->FuncId->tK) (fuel d:Nat) {f:FuncId} (hk: ∀x,(os x).length=k) (hl: ∀x,(os' x).length=m)
  (hq: ∀x,pre x->wpF P tbl tt (an x) fuel d f (args x) (hO k (os x)) (fun v h'=>fA k x v h' (det X args k os pre ret m os').outs)):bZ P f (det X args k os pre ret m os'):=
 akt hT hm ht (C:=det X args k os pre ret m os') an fuel d hk (fun x o ho y=>by
  have ho:=List.mem_singleton.1 ho
  subst ho;exact hl x) hq
theorem adu{X:Type}{x:X}{o:Out X}{r:List (Out X)}(y:o.Y)(h:o.post x y):pU x (o.ret x y) (hO o.m (o.os x y)) (o::r):= .inl ⟨y,h,rfl,rfl⟩
theorem apR{X:Type}{x:X}{v:AV}{h':Heap}{o:Out X}{r:List (Out X)}(h:pU x v h' r):pU x v h' (o::r):= .inr h
attribute [irreducible] pU
noncomputable def hid{α:Type}(a:α):{b:α//b=a}:=Classical.choice ⟨⟨a,rfl⟩⟩
noncomputable def hide{α:Type}(a:α):α:=(hid a).1
theorem qI{α:Type}(a:α):hide a=a:=(hid a).2
noncomputable def Hd(p:Prop):Prop:=hide p
theorem aY{p:Prop}:Hd p↔p:=by unfold Hd;rw[qI]
theorem tN{b:Bool}{x y:Prop}:cP b x y↔(b=true->x)/\(b=false->y):=by cases b<;>simp[cP]
theorem bP{p:Unit->Prop}:(∃y,p y)↔p ():=⟨fun⟨_,h⟩=>h,fun h=>⟨(),h⟩⟩
theorem bC{p:Unit->Prop}:(∀y,p y)↔p ():=⟨fun h=>h (),fun h _=>h⟩
def atz{X:Type}(x:X):List (Out X)->Prop
 |[]=>True
 |o::r=>(∀y,(o.os x y).length=o.m)/\atz x r
theorem VH{X:Type}{x:X}: ∀{l:List (Out X)},atz x l-> ∀o∈l,∀y,(o.os x y).length=o.m
 |o::r,h,p,hp,y=>by
  rcases List.mem_cons.1 hp with rfl|hp
  ·exact h.1 y
  ·exact VH h.2 p hp y
theorem gB{P:Program}{tbl:jY}{tt:TT}(hT:tt.ok P)(hm:P.follows .mixedOrders=true)(ht:fJ P tbl){C:Ctr}(an:C.X->FuncId->tK)(fuel d:Nat){f:FuncId}
  (hk: ∀x,(C.os x).length=C.k) (hl: ∀x,atz x C.outs)
  (hq: ∀x,C.pre x->wpF P tbl tt (an x) fuel d f (C.args x) (hO C.k (C.os x)) (fun v h'=>fA C.k x v h' C.outs)):bZ P f C:=
 akt hT hm ht an fuel d hk (fun x=>VH (hl x)) hq
def Ap(P:Program)(f:FuncId)(e:Array Value->Sem Value):Prop:= ∃fn,P.funcs[f]? =some fn/\(fn.name== "runtime.NumGoroutine")=false/\fn.body.isNone=true/\Extern.findNext fn=none/\Extern.find fn=some e
theorem toList_data(a:ByteArray):a.toList=a.data.toList:=by
 have go: ∀(n i:Nat) (r:List UInt8),a.size-i=n->ByteArray.toList.loop a i r=r.reverse++a.data.toList.drop i:=by
  intro n
  induction n with
  |zero=>
   intro i r h
   unfold ByteArray.toList.loop
   rw[if_neg (by omega)]
   have:a.data.toList.length<=i:=by simp;have:a.data.size=a.size:=rfl;omega
   rw[List.drop_eq_nil_of_le this,List.append_nil]
  |succ n ih=>
   intro i r h
   unfold ByteArray.toList.loop
   have hi:i<a.size:=by omega
   have hi':i<a.data.toList.length:=by simpa using hi
   rw[if_pos hi,ih (i+1) _ (by omega),List.drop_eq_getElem_cons hi']
   have:a.get! i=a.data.toList[i]:=by
    simp[ByteArray.get!,getElem!_def,Array.getElem?_eq_getElem (show i<a.data.size from hi)]
   simp[this]
 have:=go a.size 0 [] rfl
 simpa[ByteArray.toList]using this
theorem Rel.aku{h h':Heap}{ρ:Ren}{T:Nat->Prop}{w:World}(hR:Rel h ρ T w){i o:Nat}{v:AV}(hs:setCell h i o v=some h'){a:Loc}(ha:ρ i=some a):w.frozen? ⟨a.blk,a.base+o,none⟩=false:=by
 obtain⟨S,r1,_⟩:=hR
 unfold setCell at hs
 split at hs
 ·rename_i e c hx
  obtain⟨a',ha',ho⟩:=r1 i _ hx
  obtain rfl:a'=a:=Option.some.inj (ha'.symm.trans ha)
  obtain⟨h0,hS,arr,hb,_⟩:=ho
  simp[World.frozen?,hb]
 ·rename_i e c hx
  obtain⟨a',ha',ho⟩:=r1 i _ hx
  obtain rfl:a'=a:=Option.some.inj (ha'.symm.trans ha)
  obtain⟨h0,hS,arr,hb,_⟩:=ho
  simp[World.frozen?,hb]
 ·cases hs
def atI(h:Heap)(a:AV)(k:IntKind)(Q:Nat->Nat->Int->Prop):Prop:=match a with
 | .ptr i o=>match cellAt h i o with
  |some (.lit (.int k' x))=>bif decide (k'=k)then Q i o x else False
  |_=>False
 | .qE i q m j=>match h.get i with
  |some ob=>match ob.fP with
   |some (.row m' n g wr)=>bif Nat.beq m 1&&Nat.beq m' 1&&Nat.beq j 0&&gy ob then(q<n/\Hg g wr q fun l=>match l with
    |[.int k' x]=>bif decide (k'=k)then Q i q x else False
    |_=>False)else False
   |_=>False
  |none=>False
 |_=>False
theorem VI{h:Heap}{ρ:Ren}{T:Nat->Prop}{w:World}(hR:Rel h ρ T w){a:AV}{u:Value}{k:IntKind}{Q:Nat->Nat->Int->Prop}(hq:atI h a k Q)(hu:bV ρ a u):
  ∃i o x b,u= .pointer (some ⟨b.blk,b.base+o,none⟩)/\ρ i=some b/\w.cell? ⟨b.blk,b.base+o,none⟩=some (.int k x)/\Q i o x:=by
 unfold atI at hq
 split at hq
 ·rename_i i o
  split at hq
  ·rename_i k' x hc
   by_cases hk:k'=k
   ·subst hk
    simp only[decide_true,aO]at hq
    obtain⟨b,hb,y,hy,hr⟩:=hR.cell hc
    simp only[bV]at hr hu
    obtain⟨b',hb',rfl⟩:=hu
    obtain rfl:b'=b:=Option.some.inj (hb'.symm.trans hb)
    subst hr
    exact⟨i,o,x,b',rfl,hb,hy,hq⟩
   ·simp[hk]at hq
  ·exact hq.elim
 ·rename_i i q m j
  split at hq
  ·rename_i ob hi
   split at hq
   ·rename_i m' n g wr hc
    cases hb:(Nat.beq m 1&&Nat.beq m' 1&&Nat.beq j 0&&gy ob)with
    |false=>rw[hb]at hq;exact hq.elim
    |true=>
     rw[hb]at hq;simp only[aO]at hq
     simp only[aI]at hb
     have:=ak hb.1.1.1;subst this
     have:=ak hb.1.1.2;subst this
     have:=ak hb.1.2;subst this
     obtain⟨hqn,hq⟩:=hq
     have hq:=xE hq
     split at hq
     ·rename_i k' x hl
      by_cases hk:k'=k
      ·subst hk
       simp only[decide_true,aO]at hq
       have hcell:cellAt h i q=some (.lit (.int k' x)):=by
        simp only[cellAt,hi,hc]
        have:=rZ (m:=1) (g:=g) (wr:=wr) (n:=n) (k:=q) (j:=0) (v:= .int k' x) hqn (by omega) (by rw[hl];rfl)
        simpa using this
       obtain⟨b,hb2,y,hy,hr⟩:=hR.cell hcell
       simp only[bV]at hr hu
       obtain⟨b',hb',rfl⟩:=hu
       obtain rfl:b'=b:=Option.some.inj (hb'.symm.trans hb2)
       subst hr
       exact⟨i,q,x,b',by simp,hb2,hy,hq⟩
      ·simp[hk]at hq
     ·exact hq.elim
   ·exact hq.elim
  ·exact hq.elim
 ·exact hq.elim
def apS(h:Heap)(i o:Nat)(k:IntKind)(y:Int)(Q:Heap->Prop):Prop:=match setCell h i o (.lit (.int k y))with
 |some h'=>Q h'
 |none=>match h.get i with
  |some ob=>match ob.fP with
   |some (.row m n g wr)=>bif Nat.beq m 1&&gy ob then(o<n/\Q (h.set i (oO ob (.row 1 n g ((o,[.int k y])::wr)))))else False
   |_=>False
  |none=>False
theorem akv{P:Program}{h:Heap}{ρ:Ren}{T:Nat->Prop}{w:World}(hR:Rel h ρ T w){i o n:Nat}{k:IntKind}{y:Int}{b:Loc}{ob:dw}{g:Nat->List Value}{wr:List (Nat×List Value)}
  (hi:h.get i=some ob) (hc:ob.fP=some (.row 1 n g wr)) (hrow:gy ob=true) (ho:o<n) (hb:ρ i=some b):
  w.frozen? ⟨b.blk,b.base+o,none⟩=false/\Rel (h.set i (oO ob (.row 1 n g ((o,[.int k y])::wr)))) ρ T (w.setCell ⟨b.blk,b.base+o,none⟩ (.int k y))/\Keeps T w (w.setCell ⟨b.blk,b.base+o,none⟩ (.int k y)):=by
 obtain⟨w',hrun,hR',hk'⟩:=iw (P:=P) hR (m:=1) (k:=o) (new:= .few [[.int k y]]) (cs:=[.int k y]) (by omega) hi hrow hc hb (by simp only[dL.len,List.length_cons,List.length_nil];omega) (by simp[dL.len]) (by simp[Value.oneCell']) (fun q z hq=>by
  have hlt:=Cs.fB hq
  simp only[Cs.size,dL.len,List.length_cons,List.length_nil,Nat.mul_one]at hlt
  have h0:q=0:=by simpa using hlt
  subst h0
  have:(Cs.row 1 (dL.few [[Value.int k y]]).len (dL.few [[Value.int k y]]).el []).get 0=some (.lit (.int k y)):=rfl
  rw[this]at hq
  cases hq
  exact⟨.int k y,by simp,by simp only[bV]⟩)
 rw[Nat.mul_one]at hrun
 obtain⟨S,r1,_⟩:=id hR
 obtain⟨a',ha',hh⟩:=r1 i _ hi
 obtain rfl:a'=b:=Option.some.inj (ha'.symm.trans hb)
 obtain⟨arr,e,hblk,h0,hsz⟩: ∃arr e,w.heap[a'.blk]? =some (.cells arr e (0,0))/\a'.base=0/\n<=arr.size:=by
  cases ob with
  |cells e c=>simp only[dw.fP,aj]at hc;subst hc;obtain⟨g0,_,arr,g1,g2,_⟩:=hh;exact⟨arr,e,g1,g0,by rw[g2];simp[Cs.size]⟩
  |room e c=>simp only[dw.fP,aj]at hc;subst hc;obtain⟨g0,_,arr,g1,g2,g3,_⟩:=hh;exact⟨arr,e,g1,g0,by rw[g2];simpa[Cs.size]using g3⟩
  |_=>simp[gy]at hrow
 have hfz:w.frozen? ⟨a'.blk,a'.base+o,none⟩=false:=by simp[World.frozen?,hblk]
 have hcell:(w.cell? ⟨a'.blk,a'.base+o,none⟩).isSome=true:=by
  have:a'.base+o<arr.size:=by omega
  simp[World.cell?,hblk,this]
 have hrun2:=run_storeCells_cells (P:=P) a'.blk (a'.base+o) [.int k y] 0 w
  (fun j hj=>by
   have:j=0:=by simpa using hj
   subst this;simpa using hcell)
  (fun j hj=>by
   have:j=0:=by simpa using hj
   subst this;simpa using hfz) (by simp[Value.oneCell'])
 rw[hrun]at hrun2
 have hw:w'=w.setCell ⟨a'.blk,a'.base+o,none⟩ (.int k y):=by
  simp only[Result.ok.injEq,aT,World.setCells,aH]at hrun2
  exact hrun2
 subst hw
 exact⟨hfz,hR',hk'⟩
theorem qJ{P:Program}{h:Heap}{ρ:Ren}{T:Nat->Prop}{w:World}(hR:Rel h ρ T w){i o:Nat}{k:IntKind}{y:Int}{Q:Heap->Prop}{b:Loc}(hq:apS h i o k y Q)(hb:ρ i=some b):
  ∃h',w.frozen? ⟨b.blk,b.base+o,none⟩=false/\Rel h' ρ T (w.setCell ⟨b.blk,b.base+o,none⟩ (.int k y))/\h'.next=h.next/\Keeps T w (w.setCell ⟨b.blk,b.base+o,none⟩ (.int k y))/\Q h':=by
 unfold apS at hq
 split at hq
 ·rename_i h' hs
  obtain⟨_,h2,h3,h4⟩:=Md (P:=P) hR hs hb rfl (u:= .int k y) (by simp only[bV])
  exact⟨h',hR.aku hs hb,h2,h3,h4,hq⟩
 ·split at hq
  ·rename_i ob hi
   split at hq
   ·rename_i m n g wr hc
    cases hbb:(Nat.beq m 1&&gy ob)with
    |false=>rw[hbb]at hq;exact hq.elim
    |true=>
     rw[hbb]at hq;simp only[aO]at hq
     simp only[aI]at hbb
     have:=ak hbb.1;subst this
     obtain⟨ho,hq⟩:=hq
     obtain⟨g1,g2,g3⟩:=akv (P:=P) (y:=y) (k:=k) hR hi hc hbb.2 ho hb
     exact⟨_,g1,g2,by simp,g3,hq⟩
   ·exact hq.elim
  ·exact hq.elim
def apT(k:IntKind):WTr:=fun args h K=>match args with
 |[a]=>atI h a k fun _ _ x=>K (.lit (.int k x)) h
 |_=>False
def adw(k:IntKind):WTr:=fun args h K=>match args with
 |[a,.lit (.int k' y)]=>bif decide (k'=k)then atI h a k fun i o _=>apS h i o k y fun h'=>K (.tup []) h' else False
 |_=>False
def addX(k:IntKind):WTr:=fun args h K=>match args with
 |[a,.lit (.int k' y)]=>bif decide (k'=k)then atI h a k fun i o x=>arith k (x+y) fun
  | .lit (.int k2 s)=>bif decide (k2=k)then apS h i o k s fun h'=>K (.lit (.int k s)) h' else False
  |_=>False else False
 |_=>False
def casX(k:IntKind):WTr:=fun args h K=>match args with
 |[a,.lit (.int k' x0),.lit (.int k2 y)]=>bif decide (k'=k)&&decide (k2=k)then atI h a k fun i o x=>cP (decide (x=x0)) (apS h i o k y fun h'=>K (.lit (.bool true)) h') (apS h i o k y fun _=>K (.lit (.bool false)) h)else False
 |_=>False
def atA(k:IntKind):WTr:=fun args h K=>match args with
 |[a,.lit (.int k' y)]=>bif decide (k'=k)then atI h a k fun i o x=>apS h i o k y fun h'=>K (.lit (.int k x)) h' else False
 |_=>False
section
variable{P:Program}{f:FuncId}{k:IntKind}(args:List AV)(h:Heap)(K:AV->Heap->Prop)
theorem vs1{vs:Array Value}{a:Value}(h:vs.toList=[a]):vs= #[a]:=by cases vs;simp at h;rw[h]
theorem vs2{vs:Array Value}{a b:Value}(h:vs.toList=[a,b]):vs= #[a,b]:=by cases vs;simp at h;rw[h]
theorem vs3{vs:Array Value}{a b c:Value}(h:vs.toList=[a,b,c]):vs= #[a,b,c]:=by cases vs;simp at h;rw[h]
theorem adx(hf:Ap P f (Extern.Atomic.loadT (.int k)))(hq:apT k args h K):XSp P f args h K:=by
 obtain⟨fn,h1,h2,h3,h4,h5⟩:=hf
 unfold apT at hq
 split at hq
 ·intro ρ T w vs hR hl
  simp only[eP]at hl
  obtain⟨u,_,hvs,hu,rfl⟩:=hl
  obtain⟨i,o,x,b,rfl,hb,hc,hq⟩:=VI hR hq hu
  rw[vs1 hvs]
  exact⟨_,_,_,w,ρ,run_call_load h1 h2 h3 h4 k h5 hc,fun _ _=>rfl,Ren.le_refl _,aX _,hR,by simp only[bV],Keeps.refl _ _,hq⟩
 ·exact hq.elim
theorem VJ(hf:Ap P f Extern.Atomic.storeT)(hq:adw k args h K):XSp P f args h K:=by
 obtain⟨fn,h1,h2,h3,h4,h5⟩:=hf
 unfold adw at hq
 split at hq
 ·rename_i a k' y
  by_cases hk:k'=k
  ·subst hk
   simp only[decide_true,aO]at hq
   intro ρ T w vs hR hl
   simp only[eP,bV]at hl
   obtain⟨u,_,hvs,hu,_,_,rfl,rfl,rfl⟩:=hl
   obtain⟨i,o,x,b,rfl,hb,hc,hq⟩:=VI hR hq hu
   obtain⟨h',g1,g2,g3,g4,hq⟩:=qJ (P:=P) hR hq hb
   rw[vs2 hvs]
   exact⟨_,_,_,_,ρ,run_call_store h1 h2 h3 h4 h5 hc g1,fun _ _=>rfl,Ren.le_refl _,by omega,g2,by simp only[bV];exact⟨_,rfl,.nil⟩,g4,hq⟩
  ·simp[hk]at hq
 ·exact hq.elim
theorem atB(x y:Int)(w:World):(Op.intArith .add k x y).run P w= .ok (.int k (k.wrap (x+y))) w:=by simp[Op.intArith]
theorem akw(hf:Ap P f (Extern.Atomic.update (Op.intArith .add) k true))(hq:addX k args h K):XSp P f args h K:=by
 obtain⟨fn,h1,h2,h3,h4,h5⟩:=hf
 unfold addX at hq
 split at hq
 ·rename_i a k' y
  by_cases hk:k'=k
  ·subst hk
   simp only[decide_true,aO]at hq
   intro ρ T w vs hR hl
   simp only[eP,bV]at hl
   obtain⟨u,_,hvs,hu,_,_,rfl,rfl,rfl⟩:=hl
   obtain⟨i,o,x,b,rfl,hb,hc,hq⟩:=VI hR hq hu
   have hq:=Gl hq
   simp only[decide_true,aO]at hq
   obtain⟨h',g1,g2,g3,g4,hq⟩:=qJ (P:=P) hR hq hb
   rw[vs2 hvs]
   exact⟨_,_,_,_,ρ,run_call_add h1 h2 h3 h4 k' h5 hc g1 (atB _ _ _),fun _ _=>rfl,Ren.le_refl _,by omega,g2,by simp only[bV],g4,hq⟩
  ·simp[hk]at hq
 ·exact hq.elim
theorem atD(hf:Ap P f (Extern.Atomic.casT (.int k)))(hq:casX k args h K):XSp P f args h K:=by
 obtain⟨fn,h1,h2,h3,h4,h5⟩:=hf
 unfold casX at hq
 split at hq
 ·rename_i a k' x0 k2 y
  cases hkk:(decide (k'=k)&&decide (k2=k))with
  |false=>rw[hkk]at hq;exact hq.elim
  |true=>
   simp only[aI,decide_eq_true_eq]at hkk
   obtain⟨rfl,rfl⟩:=hkk
   simp only[decide_true,Bool.and_self,aO]at hq
   intro ρ T w vs hR hl
   simp only[eP,bV]at hl
   obtain⟨u,_,hvs,hu,_,_,rfl,rfl,_,_,rfl,rfl,rfl⟩:=hl
   obtain⟨i,o,x,b,rfl,hb,hc,hq⟩:=VI hR hq hu
   rw[vs3 hvs]
   rcases kR hq with ⟨he,hq2⟩|⟨he,hq2⟩
   ·have he:x=x0:=aQ he
    obtain⟨h',g1,g2,g3,g4,hq3⟩:=qJ (P:=P) hR hq2 hb
    refine⟨.lit (.bool true),h',.bool true,_,ρ,?_,fun _ _=>rfl,Ren.le_refl _,by omega,g2,by simp only[bV],g4,hq3⟩
    rw[<-he]
    exact run_call_cas_hit h1 h2 h3 h4 _ h5 hc g1
   ·have he:=aS he
    obtain⟨h',g1,g2,g3,g4,hq3⟩:=qJ (P:=P) hR hq2 hb
    exact⟨_,_,_,w,ρ,run_call_cas_miss h1 h2 h3 h4 _ h5 hc g1 he,fun _ _=>rfl,Ren.le_refl _,aX _,hR,by simp only[bV],Keeps.refl _ _,hq3⟩
 ·exact hq.elim
end
theorem Qo{P:Program}{f:FuncId}{fn:Func}(hf:P.funcs[f]? =some fn)(hname:(fn.name== "runtime.NumGoroutine")=false)(hb:fn.body.isNone=true)(hn:Extern.findNext fn=none)(k:IntKind)
  (he:Extern.find fn=some (Extern.Atomic.swapT (.int k))) {a:Addr} {x y:Int} {w:World} (hc:w.cell? a=some (.int k x)) (hz:w.frozen? a=false):
  (callFunc f #[.pointer (some a),.int k y]).run P w= .ok (.value (.int k x)) (w.setCell a (.int k y)):=by
 rw[run_callFunc_extern hf hname hb hn he]
 change (Sem.run P (do
  let a'<-asAddr (.pointer (some a))
  let old<-Extern.Atomic.read (.int k) a'
  store a' (.int k y) .atomic
  pure old) w).andThen _=_
 simp[Extern.Atomic.read,asAddr,viewAt,World.shape?_isSome_of_cell? hc,hc,hz,run_store P w a (.int k y) .atomic rfl,Result.andThen]
theorem apU{P:Program}{f:FuncId}{k:IntKind}(args:List AV)(h:Heap)(K:AV->Heap->Prop)(hf:Ap P f (Extern.Atomic.swapT (.int k)))(hq:atA k args h K):XSp P f args h K:=by
 obtain⟨fn,h1,h2,h3,h4,h5⟩:=hf
 unfold atA at hq
 split at hq
 ·rename_i a k' y
  by_cases hk:k'=k
  ·subst hk
   simp only[decide_true,aO]at hq
   intro ρ T w vs hR hl
   simp only[eP,bV]at hl
   obtain⟨u,_,hvs,hu,_,_,rfl,rfl,rfl⟩:=hl
   obtain⟨i,o,x,b,rfl,hb,hc,hq⟩:=VI hR hq hu
   obtain⟨h',g1,g2,g3,g4,hq⟩:=qJ (P:=P) hR hq hb
   rw[vs2 hvs]
   exact⟨_,_,_,_,ρ,Qo h1 h2 h3 h4 k' h5 hc g1,fun _ _=>rfl,Ren.le_refl _,by omega,g2,by simp only[bV],g4,hq⟩
  ·simp[hk]at hq
 ·exact hq.elim
end Go.Proofs.YtenfleoejgjklaaGreat.SE
end
section
namespace Go.Proofs.YtenfleoejgjklaaGreat.SE
open Go
open Go.ChangeShapes Go.WideShapes Go.ChangeAt Go.RowKit

end Go.Proofs.YtenfleoejgjklaaGreat.SE
end
section
namespace Go.Proofs.YtenfleoejgjklaaGreat.SE
open Go
theorem yO(Φ:Heap->Prop)(ids:List Nat)(h:Heap):(uS Φ ids h).next=h.next:=by simp[uS,CG]
theorem VK{P:Program}{f:FuncId}{args:List AV}{h:Heap}{K:AV->Heap->Prop}{Φ:Heap->Prop}(m:Nat)(ids:List Nat)(os:List dw)(hm:os.length=m)(h0:Nat.blt 0 m=true)(awf:Vb 0 ids m=true)(hΦ:Φ (hO m os))(hfit:He (atL ids) m h 0 os)
  (hs:Sp P f args (uS Φ ids h) K):Sp P f args h K:=by
 refine⟨hs.1,fun ρ T w vs hR hl=> ?_⟩
 obtain⟨ρ',e,R',_⟩:=(ajm (k:=h.next) (v:= .any) m ids os hm h0 awf (aX _) hΦ hfit).2 ρ T w undef hR (by simp only[bV])
 have hρ:ρ'=ρ:=by
  funext i
  rcases Nat.lt_or_ge i h.next with hi|hi
  ·exact e i hi
  ·obtain⟨_,_,_,_,g,_⟩:=R'
   obtain⟨_,_,_,_,g',_⟩:=hR
   rw[g i (by rw[yO];exact hi),g' i hi]
 subst hρ
 refine(hs.2 ρ' T w vs R' hl).mono ?_
 rintro e w' ⟨ρ2,v,u,h',c1,c2,c3⟩
 exact⟨ρ2,v,u,h',fun j hj=>c1 j (by rw[yO];exact hj),by rw[<-yO Φ ids h];exact c2,c3⟩
def awx(os:List dw):Own:=aph (fun h=>h=hOf os)
noncomputable def bK(os:List dw):Own:=hide (awx os)
theorem Qp(os:List dw):bK os=awx os:=qI _
inductive PO where
 |m (os:List dw)
 |o (ob:dw)
namespace PO
noncomputable def ab:PO->dw
 |m os=> .abs (bK os)
 |o ob=>ob
def more:PO->Nat
 |m os=>os.length-1
 |o _=>0
def good(n:Nat):PO->Bool
 |m os=> !os.isEmpty&&os.all (fun x=>oN os.length x&& !lV x)
 |o ob=>oN n ob
end PO
def exs:List PO->Nat->Nat
 |_,0=>0
 |[],_+1=>0
 |p::r,j+1=>p.more+exs r j
def phi(n e j i:Nat):Nat:=bif Nat.beq i 0 then j else n+e+(i-1)
noncomputable def oW(n:Nat):Nat->Nat->List PO->List dw
 |_,_,[]=>[]
 |j,e,.m (x::os)::r=>omap (phi n e j) x::oW n (j+1) (e+os.length) r
 |j,e,.m []::r=> .abs (bK [])::oW n (j+1) e r
 |j,e,.o ob::r=>ob::oW n (j+1) e r
def Em(n:Nat):Nat->Nat->List PO->List dw
 |_,_,[]=>[]
 |j,e,.m (_::os)::r=>os.map (omap (phi n e j))++Em n (j+1) (e+os.length) r
 |j,e,.m []::r=>Em n (j+1) e r
 |j,e,.o _::r=>Em n (j+1) e r
noncomputable def dO(n:Nat)(l:List PO):List dw:=oW n 0 0 l++Em n 0 0 l
theorem Gs: ∀{l:List PO} {j:Nat} {p:PO},l[j]? =some p->exs l (j+1)=exs l j+p.more
 |[],j,p,h=>by simp at h
 |q::r,0,p,h=>by simp at h;subst h;simp[exs]
 |q::r,j+1,p,h=>by
  have:=Gs (l:=r) (j:=j) (p:=p) (by simpa using h)
  simp only[exs]at this ⊢
  omega
theorem ady{l:List PO}: ∀{i j:Nat},i<=j->j<=l.length->exs l i<=exs l j:=by
 intro i j h hj
 induction h with
 |refl=>exact aX _
 | @step j h ih=>
  have:=ih (by omega)
  have h2:=Gs (l:=l) (j:=j) (p:=l[j]) (List.getElem?_eq_getElem (by omega))
  show exs l i<=exs l (j+1)
  omega
theorem akx{l:List PO}{j j' i i':Nat}{os os':List dw}(hj:l[j]? =some (.m os))(hj':l[j']? =some (.m os'))(hi:i+1<os.length)(hi':i'+1<os'.length)(h:exs l j+i=exs l j'+i'):j=j'/\i=i':=by
 have s:=Gs hj
 have s':=Gs hj'
 simp only[PO.more]at s s'
 have l1:=(List.getElem?_eq_some_iff.1 hj).1
 have l2:=(List.getElem?_eq_some_iff.1 hj').1
 rcases Nat.lt_trichotomy j j' with hlt|he|hlt
 ·have:=ady (l:=l) (i:=j+1) (j:=j') hlt (by omega)
  omega
 ·subst he;exact⟨rfl,by omega⟩
 ·have:=ady (l:=l) (i:=j'+1) (j:=j) hlt (by omega)
  omega
noncomputable def aky(n e j:Nat):PO->dw
 | .m (x::_)=>omap (phi n e j) x
 | .m []=> .abs (bK [])
 | .o ob=>ob
theorem qW(n:Nat): ∀(l:List PO) (j e k:Nat),(oW n j e l)[k]? =(l[k]?).map (aky n (e+exs l k) (j+k))
 |[],j,e,k=>by simp[oW]
 |p::r,j,e,0=>by
  cases p with
  |m os=>cases os<;>simp[oW,aky,exs]
  |o ob=>simp[oW,aky]
 |p::r,j,e,k+1=>by
  cases p with
  |m os=>
   cases os with
   |nil=>simp only[oW,List.getElem?_cons_succ,qW n r,exs,PO.more,List.length_nil];congr 2<;>omega
   |cons x os=>simp only[oW,List.getElem?_cons_succ,qW n r,exs,PO.more,List.length_cons];congr 2<;>omega
  |o ob=>simp only[oW,List.getElem?_cons_succ,qW n r,exs,PO.more];congr 2<;>omega
theorem iP(n:Nat): ∀(l:List PO) (j e:Nat),(oW n j e l).length=l.length
 |[],_,_=>rfl
 | .m []::r,j,e=>by simp[oW,iP n r]
 | .m (_::_)::r,j,e=>by simp[oW,iP n r]
 | .o _::r,j,e=>by simp[oW,iP n r]
theorem xJ(n:Nat): ∀(l:List PO) (j e k:Nat) (x:dw),(Em n j e l)[k]? =some x↔ ∃t os i,l[t]? =some (.m os)/\i+1<os.length/\k=exs l t+i/\ ∃y,os[i+1]? =some y/\x=omap (phi n (e+exs l t) (j+t)) y
 |[],j,e,k,x=>by simp[Em]
 |p::r,j,e,k,x=>by
  have skip: ∀(e2:Nat) (hp:p.more=0) (he:e2=e),((Em n (j+1) e2 r)[k]? =some x↔ ∃t os i,(p::r)[t]? =some (.m os)/\i+1<os.length/\k=exs (p::r) t+i/\ ∃y,os[i+1]? =some y/\x=omap (phi n (e+exs (p::r) t) (j+t)) y):=by
   intro e2 hp he
   subst he
   rw[xJ n r]
   constructor
   ·rintro ⟨t,os,i,h1,h2,h3,y,h4,h5⟩
    refine⟨t+1,os,i,by simpa using h1,h2,by simp only[exs,hp];omega,y,h4,?_⟩
    rw[h5];simp only[exs,hp];congr 2<;>omega
   ·rintro ⟨t,os,i,h1,h2,h3,y,h4,h5⟩
    cases t with
    |zero=>
     simp at h1;subst h1
     simp only[PO.more]at hp;omega
    |succ t=>
     refine⟨t,os,i,by simpa using h1,h2,by simp only[exs,hp]at h3;omega,y,h4,?_⟩
     rw[h5];simp only[exs,hp];congr 2<;>omega
  cases p with
  |o ob=>exact skip e rfl rfl
  |m os=>
   cases os with
   |nil=>exact skip e rfl rfl
   |cons z os=>
    simp only[Em]
    rcases Nat.lt_or_ge k os.length with hk|hk
    ·rw[List.getElem?_append_left (by simpa using hk)]
     constructor
     ·intro h
      rw[List.getElem?_map]at h
      cases hy:os[k]? with
      |none=>rw[hy]at h;cases h
      |some y=>
       rw[hy]at h;cases h
       exact⟨0,z::os,k,rfl,by simpa using hk,by simp[exs],y,by simpa using hy,by simp[exs]⟩
     ·rintro ⟨t,os',i,h1,h2,h3,y,h4,h5⟩
      cases t with
      |zero=>
       simp at h1;subst h1
       simp only[exs,ay]at h3;subst h3
       rw[List.getElem?_map]
       simp only[List.getElem?_cons_succ]at h4
       rw[h4,h5];simp[exs]
      |succ t=>simp only[exs,PO.more,List.length_cons]at h3;omega
    ·rw[List.getElem?_append_right (by simpa using hk),List.length_map,xJ n r]
     constructor
     ·rintro ⟨t,os',i,h1,h2,h3,y,h4,h5⟩
      refine⟨t+1,os',i,by simpa using h1,h2,by simp only[exs,PO.more,List.length_cons];omega,y,h4,?_⟩
      rw[h5];simp only[exs,PO.more,List.length_cons];congr 2<;>omega
     ·rintro ⟨t,os',i,h1,h2,h3,y,h4,h5⟩
      cases t with
      |zero=>
       simp at h1;subst h1
       simp only[exs,ay]at h3;simp only[List.length_cons]at h2;omega
      |succ t=>
       refine⟨t,os',i,by simpa using h1,h2,by simp only[exs,PO.more,List.length_cons]at h3;omega,y,h4,?_⟩
       rw[h5];simp only[exs,PO.more,List.length_cons];congr 2<;>omega
theorem vg{l:List PO}{q:Nat}{x:dw}(h:(dO l.length l)[q]? =some x):
  (q<l.length/\ ∃p,l[q]? =some p/\x=aky l.length (exs l q) q p)\/ ∃t os i y,l[t]? =some (.m os)/\i+1<os.length/\q=l.length+exs l t+i/\os[i+1]? =some y/\x=omap (phi l.length (exs l t) t) y:=by
 unfold dO at h
 rcases Nat.lt_or_ge q l.length with hq|hq
 ·rw[List.getElem?_append_left (by rw[iP];exact hq),qW,ay,ay,List.getElem?_eq_getElem hq]at h
  simp only[Option.map_some,aj]at h
  exact .inl ⟨hq,l[q],List.getElem?_eq_getElem hq,h.symm⟩
 ·rw[List.getElem?_append_right (by rw[iP];exact hq),iP,xJ]at h
  obtain⟨t,os,i,h1,h2,h3,y,h4,h5⟩:=h
  refine .inr ⟨t,os,i,y,h1,h2,by omega,h4,?_⟩
  rw[h5,ay,ay]
theorem CX{l:List PO}{j:Nat}{p:PO}(h:l[j]? =some p):(dO l.length l)[j]? =some (aky l.length (exs l j) j p):=by
 have hj:=(List.getElem?_eq_some_iff.1 h).1
 unfold dO
 rw[List.getElem?_append_left (by rw[iP];exact hj),qW,ay,ay,h];rfl
theorem Np{l:List PO}{t i:Nat}{os:List dw}{y:dw}(h:l[t]? =some (.m os))(hy:os[i+1]? =some y):(dO l.length l)[l.length+exs l t+i]? =some (omap (phi l.length (exs l t) t) y):=by
 unfold dO
 rw[List.getElem?_append_right (by rw[iP];omega),iP,xJ]
 exact⟨t,os,i,h,(List.getElem?_eq_some_iff.1 hy).1,by omega,y,hy,by rw[ay,ay]⟩
theorem sD(n e j:Nat):phi n e j 0=j:=rfl
theorem og(n e j i:Nat):phi n e j (i+1)=n+e+i:=rfl
theorem apV{l:List PO}{t i:Nat}{os:List dw}{y:dw}(h:l[t]? =some (.m os))(hy:os[i]? =some y):(dO l.length l)[phi l.length (exs l t) t i]? =some (omap (phi l.length (exs l t) t) y):=by
 cases i with
 |zero=>
  rw[sD,CX h]
  cases os with
  |nil=>simp at hy
  |cons z r=>simp at hy;subst hy;rfl
 |succ i=>rw[og];exact Np h hy
theorem Rel.Qq{l:List PO}(hg:l.all (PO.good l.length)=true){ρ:Ren}{T:Nat->Prop}{w:World}(hR:Rel (hOf (l.map PO.ab)) ρ T w):
  ∃ρ',(∀j,j<l.length->ρ' j=ρ j)/\ρ.le ρ'/\Rel (hOf (dO l.length l)) ρ' T w:=by
 obtain⟨S,h1,h2,h3,h4,h5⟩:=hR
 have get: ∀j p,l[j]? =some p->(hOf (l.map PO.ab)).get j=some p.ab:=fun j p h=>by rw[fG,List.getElem?_map,h];rfl
 have dat: ∀j,∃X:Ren×(Nat->Nat->Prop),∀os,l[j]? =some (.m os)->X.1 0=ρ j/\(∀i o,os[i]? =some o-> ∃a,X.1 i=some a/\dU X.1 w (S j) a (X.2 i) o)/\
   (∀i i' o o' b,os[i]? =some o->os[i']? =some o'->i≠i'->X.2 i b->X.2 i' b->False)/\(∀i o b,os[i]? =some o->X.2 i b->S j b/\b<w.heap.size)/\ ∀i,os.length<=i->X.1 i=none:=by
  intro j
  by_cases h: ∃os,l[j]? =some (.m os)
  ·obtain⟨os,h⟩:=h
   obtain⟨a,ha,hh⟩:=h1 j _ (get j _ h)
   rw[show(PO.m os).ab= .abs (bK os) from rfl,Qp]at hh
   obtain⟨h0,ρ0,rfl,hn0,hro,ha0,S0,r1,r2,r3,r4⟩:=hh
   refine⟨(ρ0,S0),fun os' h'=> ?_⟩
   rw[h]at h';cases h'
   exact⟨ha0.trans ha.symm,fun i o hi=>r1 i o (by rw[fG];exact hi),fun i i' o o' b hi hi'=>r2 i i' o o' b (by rw[fG];exact hi) (by rw[fG];exact hi'),fun i o b hi=>r3 i o b (by rw[fG];exact hi),fun i hi=>r4 i hi⟩
  ·exact⟨(ρ,S),fun os h'=>(h ⟨os,h'⟩).elim⟩
 obtain⟨X,hX⟩:=Classical.axiomOfChoice dat
 let at_ (q:Nat) (z:Nat×Nat):Prop:= ∃os,l[z.1]? =some (.m os)/\z.2+1<os.length/\q=l.length+exs l z.1+z.2
 have wit: ∀q,∃z:Nat×Nat,(∃z',at_ q z')->at_ q z:=fun q=>by
  by_cases h: ∃z',at_ q z'
  ·obtain⟨z,hz⟩:=h;exact⟨z,fun _=>hz⟩
  ·exact⟨(0,0),fun h'=>(h h').elim⟩
 obtain⟨Z,hZ⟩:=Classical.axiomOfChoice wit
 have uniq: ∀q z z',at_ q z->at_ q z'->z=z':=by
  rintro q ⟨t,i⟩ ⟨t',i'⟩ ⟨os,a1,a2,a3⟩ ⟨os',b1,b2,b3⟩
  obtain⟨e1,e2⟩:=akx a1 b1 a2 b2 (by omega)
  simp only at e1 e2;subst e1;subst e2;rfl
 have zat: ∀{t i:Nat} {os:List dw},l[t]? =some (.m os)->i+1<os.length->Z (l.length+exs l t+i)=(t,i):=fun{t i os} h hi=>
  uniq _ _ _ (hZ _ ⟨(t,i),os,h,hi,rfl⟩) ⟨os,h,hi,rfl⟩
 let isM (q:Nat):Prop:= ∃os,l[q]? =some (.m os)
 classical
 let ρ':Ren:=fun q=>if q<l.length then ρ q else if∃z',at_ q z' then(X (Z q).1).1 ((Z q).2+1)else none
 let S':Nat->Nat->Prop:=fun q=>if q<l.length then(if isM q then(X q).2 0 else S q)else(X (Z q).1).2 ((Z q).2+1)
 have hlt: ∀{j p},l[j]? =some p->j<l.length:=fun h=>(List.getElem?_eq_some_iff.1 h).1
 have emb: ∀{t:Nat} {os:List dw},l[t]? =some (.m os)-> ∀i a,(X t).1 i=some a->ρ' (phi l.length (exs l t) t i)=some a:=by
  intro t os h i a ha
  cases i with
  |zero=>rw[sD];simp only[ρ',if_pos (hlt h)];rw[<-(hX t os h).1];exact ha
  |succ i=>
   have hi:i+1<os.length:=by
    rcases Nat.lt_or_ge (i+1) os.length with h'|h'
    ·exact h'
    ·rw[(hX t os h).2.2.2.2 _ h']at ha;cases ha
   rw[og]
   simp only[ρ',if_neg (show¬l.length+exs l t+i<l.length by omega)]
   rw[if_pos ⟨(t,i),os,h,hi,rfl⟩,zat h hi];exact ha
 have hle:ρ.le ρ':=fun q a ha=>by
  have hq:q<l.length:=by
   rcases Nat.lt_or_ge q l.length with h'|h'
   ·exact h'
   ·rw[h4 q (by rw[qj,List.length_map];exact h')]at ha;cases ha
  simp only[ρ',if_pos hq];exact ha
 have own: ∀q x,(dO l.length l)[q]? =some x-> ∃j,j<l.length/\ ∀b,S' q b->S j b/\b<w.heap.size:=by
  intro q x hx
  rcases vg hx with ⟨hq,p,hp,_⟩|⟨t,os,i,y,ht,hi,rfl,hy,_⟩
  ·refine⟨q,hq,fun b hb=> ?_⟩
   simp only[S',if_pos hq]at hb
   by_cases hm:isM q
   ·obtain⟨os,hos⟩:=hm
    rw[if_pos ⟨os,hos⟩]at hb
    have:0<os.length:=by
     have:=List.all_eq_true.1 hg _ (List.mem_of_getElem? hos)
     simp only[PO.good,aI,Bool.not_eq_true',List.isEmpty_eq_false_iff]at this
     exact List.length_pos_iff.2 this.1
    exact(hX q os hos).2.2.2.1 0 _ b (List.getElem?_eq_getElem this) hb
   ·rw[if_neg hm]at hb
    exact⟨hb,(h3 q _ b (get q p hp) hb).2⟩
  ·refine⟨t,hlt ht,fun b hb=> ?_⟩
   simp only[S',if_neg (show¬l.length+exs l t+i<l.length by omega),zat ht hi]at hb
   exact(hX t os ht).2.2.2.1 (i+1) y b hy hb
 refine⟨ρ',fun j hj=>by simp only[ρ',if_pos hj],hle,S',fun q x hx=> ?_,fun q q' x x' b hx hx' hqq hS hS'=> ?_,fun q x b hx hS=> ?_,fun q hq=> ?_,h5⟩
 ·rw[fG]at hx
  rcases vg hx with ⟨hq,p,hp,rfl⟩|⟨t,os,i,y,ht,hi,rfl,hy,rfl⟩
  ·cases p with
   |o ob=>
    obtain⟨a,ha,hh⟩:=h1 q _ (get q _ hp)
    refine⟨a,hle _ _ ha,?_⟩
    have hm: ¬isM q:=fun⟨os,h⟩=>by rw[hp]at h;cases h
    simp only[S',if_pos hq,if_neg hm]
    exact hh.mono hle
   |m os=>
    have hgd:=List.all_eq_true.1 hg _ (List.mem_of_getElem? hp)
    cases os with
    |nil=>simp[PO.good]at hgd
    |cons z r=>
     obtain⟨a,ha,hh⟩:=(hX q _ hp).2.1 0 z rfl
     have e0:=emb hp 0 a ha
     rw[sD]at e0
     refine⟨a,e0,?_⟩
     simp only[S',if_pos hq,if_pos (show isM q from ⟨_,hp⟩)]
     simp only[PO.good,aI,List.all_eq_true,Bool.not_eq_true']at hgd
     exact(hh.PS (T':=T) (hgd.2 z (by simp)).2).omap (emb hp)
  ·have hgd:=List.all_eq_true.1 hg _ (List.mem_of_getElem? ht)
   simp only[PO.good,aI,List.all_eq_true,Bool.not_eq_true']at hgd
   obtain⟨a,ha,hh⟩:=(hX t _ ht).2.1 (i+1) y hy
   have e0:=emb ht (i+1) a ha
   rw[og]at e0
   refine⟨a,e0,?_⟩
   simp only[S',if_neg (show¬l.length+exs l t+i<l.length by omega),zat ht hi]
   have hr:=(hgd.2 y (List.mem_of_getElem? hy)).2
   exact(hh.PS (T':=T) hr).omap (emb ht)
 ·rw[fG]at hx hx'
  obtain⟨j,hj,hb⟩:=own q x hx
  obtain⟨j',hj',hb'⟩:=own q' x' hx'
  have hSj:=(hb b hS).1
  have hSj':=(hb' b hS').1
  by_cases hjj:j=j'
  ·--both of one module
   rcases vg hx with ⟨hq,p,hp,_⟩|⟨t,os,i,y,ht,hi,rfl,hy,_⟩
   ·rcases vg hx' with ⟨hq',p',hp',_⟩|⟨t',os',i',y',ht',hi',rfl,hy',_⟩
    ·simp only[S',if_pos hq]at hS
     simp only[S',if_pos hq']at hS'
     have a1:S q b:=by
      by_cases hm:isM q
      ·obtain⟨os,hos⟩:=hm
       rw[if_pos ⟨os,hos⟩]at hS
       have:0<os.length:=by
        have:=List.all_eq_true.1 hg _ (List.mem_of_getElem? hos)
        simp only[PO.good,aI,Bool.not_eq_true',List.isEmpty_eq_false_iff]at this
        exact List.length_pos_iff.2 this.1
       exact((hX q os hos).2.2.2.1 0 _ b (List.getElem?_eq_getElem this) hS).1
      ·rw[if_neg hm]at hS;exact hS
     have a2:S q' b:=by
      by_cases hm:isM q'
      ·obtain⟨os,hos⟩:=hm
       rw[if_pos ⟨os,hos⟩]at hS'
       have:0<os.length:=by
        have:=List.all_eq_true.1 hg _ (List.mem_of_getElem? hos)
        simp only[PO.good,aI,Bool.not_eq_true',List.isEmpty_eq_false_iff]at this
        exact List.length_pos_iff.2 this.1
       exact((hX q' os hos).2.2.2.1 0 _ b (List.getElem?_eq_getElem this) hS').1
      ·rw[if_neg hm]at hS';exact hS'
     exact h2 q q' _ _ b (get q p hp) (get q' p' hp') hqq a1 a2
    ·simp only[S',if_pos hq]at hS
     simp only[S',if_neg (show¬l.length+exs l t'+i'<l.length by omega),zat ht' hi']at hS'
     have a2:=((hX t' os' ht').2.2.2.1 (i'+1) y' b hy' hS').1
     by_cases hm:isM q
     ·obtain⟨os,hos⟩:=hm
      rw[if_pos ⟨os,hos⟩]at hS
      have h0:0<os.length:=by
       have:=List.all_eq_true.1 hg _ (List.mem_of_getElem? hos)
       simp only[PO.good,aI,Bool.not_eq_true',List.isEmpty_eq_false_iff]at this
       exact List.length_pos_iff.2 this.1
      have a1:=((hX q os hos).2.2.2.1 0 _ b (List.getElem?_eq_getElem h0) hS).1
      by_cases hqt:q=t'
      ·subst hqt
       rw[hos]at ht';cases ht'
       exact(hX q _ hos).2.2.1 0 (i'+1) _ _ b (List.getElem?_eq_getElem h0) hy' (by omega) hS hS'
      ·exact h2 q t' _ _ b (get q _ hos) (get t' _ ht') hqt a1 a2
     ·rw[if_neg hm]at hS
      exact h2 q t' _ _ b (get q p hp) (get t' _ ht') (fun e=>hm ⟨os',by rw[e];exact ht'⟩) hS a2
   ·simp only[S',if_neg (show¬l.length+exs l t+i<l.length by omega),zat ht hi]at hS
    have a1:=((hX t os ht).2.2.2.1 (i+1) y b hy hS).1
    rcases vg hx' with ⟨hq',p',hp',_⟩|⟨t',os',i',y',ht',hi',rfl,hy',_⟩
    ·simp only[S',if_pos hq']at hS'
     by_cases hm:isM q'
     ·obtain⟨os',avN⟩:=hm
      rw[if_pos ⟨os',avN⟩]at hS'
      have h0:0<os'.length:=by
       have:=List.all_eq_true.1 hg _ (List.mem_of_getElem? avN)
       simp only[PO.good,aI,Bool.not_eq_true',List.isEmpty_eq_false_iff]at this
       exact List.length_pos_iff.2 this.1
      have a2:=((hX q' os' avN).2.2.2.1 0 _ b (List.getElem?_eq_getElem h0) hS').1
      by_cases hqt:q'=t
      ·subst hqt
       rw[avN]at ht;cases ht
       exact(hX q' _ avN).2.2.1 0 (i+1) _ _ b (List.getElem?_eq_getElem h0) hy (by omega) hS' hS
      ·exact h2 q' t _ _ b (get q' _ avN) (get t _ ht) hqt a2 a1
     ·rw[if_neg hm]at hS'
      exact h2 q' t _ _ b (get q' p' hp') (get t _ ht) (fun e=>hm ⟨os,by rw[e];exact ht⟩) hS' a1
    ·simp only[S',if_neg (show¬l.length+exs l t'+i'<l.length by omega),zat ht' hi']at hS'
     have a2:=((hX t' os' ht').2.2.2.1 (i'+1) y' b hy' hS').1
     by_cases htt:t=t'
     ·subst htt
      rw[ht]at ht';cases ht'
      exact(hX t os ht).2.2.1 (i+1) (i'+1) _ _ b hy hy' (fun e=>hqq (by omega)) hS hS'
     ·exact h2 t t' _ _ b (get t _ ht) (get t' _ ht') htt a1 a2
  ·obtain⟨p,hp⟩: ∃p,l[j]? =some p:=⟨l[j],List.getElem?_eq_getElem hj⟩
   obtain⟨p',hp'⟩: ∃p,l[j']? =some p:=⟨l[j'],List.getElem?_eq_getElem hj'⟩
   exact h2 j j' _ _ b (get j p hp) (get j' p' hp') hjj hSj hSj'
 ·rw[fG]at hx
  obtain⟨j,hj,hb⟩:=own q x hx
  obtain⟨p,hp⟩: ∃p,l[j]? =some p:=⟨l[j],List.getElem?_eq_getElem hj⟩
  exact⟨(h3 j _ b (get j p hp) (hb b hS).1).1,(hb b hS).2⟩
 ·have hn: ¬ ∃z',at_ q z':=by
   rintro ⟨⟨t,i⟩,os,a1,a2,rfl⟩
   have:=Np a1 (List.getElem?_eq_getElem a2)
   have:=(List.getElem?_eq_some_iff.1 this).1
   rw[qj]at hq
   omega
  have hq': ¬q<l.length:=by
   rw[qj]at hq
   unfold dO at hq
   rw[List.length_append,iP]at hq
   omega
  simp only[ρ',if_neg hq',if_neg hn]
theorem Qr{n:Nat}{ρ ρ0:Ren}(h: ∀i,i<n->ρ0 i=ρ i){v:AV}{u:Value}(hb:eF n v=true)(hv:bV ρ v u):bV ρ0 v u:=
 bV.Zt (τ:=id) (ρ':=ρ) (n:=n) h v u hb (by rw[Qg.Qh];exact hv)
theorem Qs{n:Nat}{ρ ρ0:Ren}(h: ∀i,i<n->ρ0 i=ρ i){c:Cs}(hb:lF n c=true){arr:Array Value}{b:Nat}(hc:iq ρ c arr b):iq ρ0 c arr b:=
 fun k v hk=>let ⟨u,hu,hr⟩:=hc k v hk;⟨u,hu,Qr h (CB hb hk) hr⟩
theorem akz{n:Nat}{ρ ρ0:Ren}(h: ∀i,i<n->ρ0 i=ρ i): ∀{xs:List (AV×AV×Nat)} {es:List MapEntry},(xs.all fun x=>eF n x.1&&eF n x.2.1)=true->lU ρ xs es->lU ρ0 xs es
 |[],_,_,hm=>hm
 |x::xs,_,hb,⟨e,es',he,h1,h2,h3,h4⟩=>by
  simp only[List.all_cons,aI]at hb
  exact⟨e,es',he,Qr h hb.1.1 h1,Qr h hb.1.2 h2,h3,akz h (by simpa using hb.2) h4⟩
theorem akA{n:Nat}{ρ ρ0:Ren}(h: ∀i,i<n->ρ0 i=ρ i){o:dw}(hb:oN n o=true){w:World}{T:Nat->Prop}{a:Loc}{S:Nat->Prop}(ho:dU ρ w T a S o):dU ρ0 w T a S o:=by
 cases o with
 |cells e c=>obtain⟨h0,hS,arr,h1,h2,h3,h4⟩:=ho;exact⟨h0,hS,arr,h1,h2,h3,Qs h hb h4⟩
 |room e c=>obtain⟨h0,hS,arr,h1,h2,h3,h4⟩:=ho;exact⟨h0,hS,arr,h1,h2,h3,Qs h hb h4⟩
 |mM z e c=>
  rcases ho with h0|⟨hz,h0,hS,arr,h1,h2,h3,h4⟩
  ·exact .inl h0
  ·exact .inr ⟨hz,h0,hS,arr,h1,h2,h3,Qs h hb h4⟩
 |yH n g k=>exact ho
 |ro c=>
  rcases ho with h0|⟨hT,arr,e,f,h1,h2⟩
  ·exact .inl h0
  ·exact .inr ⟨hT,arr,e,f,h1,Qs h hb h2⟩
 |map es k=>obtain⟨hS,arr,h1,h2⟩:=ho;exact⟨hS,arr,h1,akz h hb h2⟩
 |abs A=>exact ho
 |iter m since seen st=>
  obtain⟨h0,hS,mb,h1,h2⟩:=ho
  refine⟨h0,hS,mb,?_,h2⟩
  cases m with
  |none=>exact h1
  |some i=>obtain⟨b,hb2,hm⟩:=h1;exact⟨b,(h i (bW.1 hb)).trans hb2,hm⟩
theorem Rel.closeAll{l:List PO}(hg:l.all (PO.good l.length)=true){ρ:Ren}{T:Nat->Prop}{w:World}(hR:Rel (hOf (dO l.length l)) ρ T w):
  Rel (hOf (l.map PO.ab)) (fun j=>if j<l.length then ρ j else none) T w:=by
 obtain⟨S,h1,h2,h3,h4,h5⟩:=hR
 have hlt: ∀{j p},l[j]? =some p->j<l.length:=fun h=>(List.getElem?_eq_some_iff.1 h).1
 have gt: ∀{t i:Nat} {os:List dw} {y:dw},l[t]? =some (.m os)->os[i]? =some y->(hOf (dO l.length l)).get (phi l.length (exs l t) t i)=some (omap (phi l.length (exs l t) t) y):=fun h hy=>by rw[fG];exact apV h hy
 have inj: ∀{t t' i i':Nat} {os os':List dw},l[t]? =some (.m os)->l[t']? =some (.m os')->i<os.length->i'<os'.length->phi l.length (exs l t) t i=phi l.length (exs l t') t' i'->t=t'/\i=i':=by
  intro t t' i i' os os' h h' hi hi' e
  have a1:=hlt h
  have a2:=hlt h'
  cases i with
  |zero=>
   cases i' with
   |zero=>exact⟨e,rfl⟩
   |succ i'=>rw[sD,og]at e;omega
  |succ i=>
   cases i' with
   |zero=>rw[sD,og]at e;omega
   |succ i'=>
    rw[og,og]at e
    obtain⟨e1,e2⟩:=akx h h' hi hi' (by omega)
    exact⟨e1,by omega⟩
 let S':Nat->Nat->Prop:=fun j b=>(∃os i,l[j]? =some (.m os)/\i<os.length/\S (phi l.length (exs l j) j i) b)\/((∃ob,l[j]? =some (.o ob))/\S j b)
 have src: ∀j b,S' j b-> ∃q x,(hOf (dO l.length l)).get q=some x/\S q b/\((∃os i,l[j]? =some (.m os)/\i<os.length/\q=phi l.length (exs l j) j i)\/((∃ob,l[j]? =some (.o ob))/\q=j)):=by
  rintro j b (⟨os,i,h,hi,hS⟩|⟨⟨ob,h⟩,hS⟩)
  ·exact⟨_,_,gt h (List.getElem?_eq_getElem hi),hS,.inl ⟨os,i,h,hi,rfl⟩⟩
  ·exact⟨j,_,by rw[fG];exact CX h,hS,.inr ⟨⟨ob,h⟩,rfl⟩⟩
 refine⟨S',fun j x hx=> ?_,fun j j' x x' b hx hx' hjj hS hS'=> ?_,fun j x b hx hS=> ?_,fun j hj=> ?_,h5⟩
 ·rw[fG,List.getElem?_map]at hx
  cases hp:l[j]? with
  |none=>rw[hp]at hx;cases hx
  |some p=>
   rw[hp]at hx
   simp only[Option.map_some,aj]at hx;subst hx
   have hj:=hlt hp
   have hgd:=List.all_eq_true.1 hg _ (List.mem_of_getElem? hp)
   cases p with
   |o ob=>
    obtain⟨a,ha,hh⟩:=h1 j _ (by rw[fG];exact CX hp)
    refine⟨a,by simp only[if_pos hj,ha],?_⟩
    have he:S' j=S j:=by
     funext b;apply propext;constructor
     ·rintro (⟨os,i,h,_⟩|⟨_,h⟩)
      ·rw[hp]at h;cases h
      ·exact h
     ·intro h;exact .inr ⟨⟨ob,hp⟩,h⟩
    rw[he]
    exact akA (n:=l.length) (fun i hi=>by simp only[if_pos hi]) hgd hh
   |m os=>
    simp only[PO.good,aI,List.all_eq_true,Bool.not_eq_true',List.isEmpty_eq_false_iff]at hgd
    have hpos:0<os.length:=List.length_pos_iff.2 hgd.1
    obtain⟨a,ha,_⟩:=h1 _ _ (gt hp (List.getElem?_eq_getElem hpos))
    rw[sD]at ha
    rw[show(PO.m os).ab= .abs (bK os) from rfl,Qp]
    refine⟨a,by simp only[if_pos hj,ha],hOf os,fun i=>if i<os.length then ρ (phi l.length (exs l j) j i)else none,rfl,hpos,fun i o hi=> ?_,by simp only[if_pos hpos,sD,ha],fun i=>S (phi l.length (exs l j) j i),fun i o hi=> ?_,fun i i' o o' b hi hi' hii hb hb'=> ?_,fun i o b hi hb=> ?_,fun i hi=> ?_⟩
    ·rw[fG]at hi;exact(hgd.2 o (List.mem_of_getElem? hi)).2
    ·rw[fG]at hi
     have hil:=(List.getElem?_eq_some_iff.1 hi).1
     obtain⟨b,hb,hh⟩:=h1 _ _ (gt hp hi)
     refine⟨b,by simp only[if_pos hil,hb],?_⟩
     have hr:=(hgd.2 o (List.mem_of_getElem? hi)).2
     exact(dU.av6 (n:=os.length) (fun i hi=>by simp only[if_pos hi]) (hgd.2 o (List.mem_of_getElem? hi)).1 hh).PS hr
    ·rw[fG]at hi hi'
     exact h2 _ _ _ _ b (gt hp hi) (gt hp hi') (fun e=>hii (inj hp hp (List.getElem?_eq_some_iff.1 hi).1 (List.getElem?_eq_some_iff.1 hi').1 e).2) hb hb'
    ·rw[fG]at hi
     exact⟨.inl ⟨os,i,hp,(List.getElem?_eq_some_iff.1 hi).1,hb⟩,(h3 _ _ b (gt hp hi) hb).2⟩
    ·have: ¬i<os.length:=by rw[qj]at hi;omega
     simp only[if_neg this]
 ·obtain⟨q,y,hq,hSq,c⟩:=src j b hS
  obtain⟨q',y',hq',hSq',c'⟩:=src j' b hS'
  refine h2 q q' y y' b hq hq' (fun e=> ?_) hSq hSq'
  rcases c with ⟨os,i,h,hi,rfl⟩|⟨⟨ob,h⟩,rfl⟩
  ·rcases c' with ⟨os',i',h',hi',rfl⟩|⟨⟨ob',h'⟩,rfl⟩
   ·exact hjj (inj h h' hi hi' e).1
   ·cases i with
    |zero=>exact hjj e
    |succ i=>rw[og]at e;have:=hlt h';omega
  ·rcases c' with ⟨os',i',h',hi',rfl⟩|⟨⟨ob',h'⟩,rfl⟩
   ·cases i' with
    |zero=>exact hjj e
    |succ i'=>rw[og]at e;have:=hlt h;omega
   ·exact hjj e
 ·obtain⟨q,y,hq,hSq,_⟩:=src j b hS
  exact h3 q y b hq hSq
 ·rw[qj,List.length_map]at hj
  simp only[if_neg (show¬j<l.length by omega)]
structure akB (X:Type) where
 Y:Type
 post:X->Y->Prop
 ret:X->Y->AV
 m:Nat
 l:X->Y->List PO
noncomputable def akB.out{X:Type}(o:akB X):Out X:={Y:=o.Y,post:=o.post,ret:=o.ret,m:=o.m,os:=fun x y=>(o.l x y).map PO.ab}
structure jR where
 X:Type
 args:X->List AV
 k:Nat
 l:X->List PO
 pre:X->Prop
 outs:List (akB X)
noncomputable def jR.ctr(C:jR):Ctr:={X:=C.X,args:=C.args,k:=C.k,os:=fun x=>(C.l x).map PO.ab,pre:=C.pre,outs:=C.outs.map akB.out}
def akC(k:Nat)(m:Nat)(v0:AV)(l:List PO)(v:AV)(h:Heap):Prop:=
 bif l.all (PO.good m)&&Nat.beq l.length m&&eF m v0&&Nat.ble k m then endP k v0 (dO m l) v h else False
theorem VL{k m:Nat}{v0:AV}{l:List PO}{v:AV}{h:Heap}(hf:akC k m v0 l v h):Leq k v h v0 (hO m (l.map PO.ab))/\l.length=m:=by
 unfold akC at hf
 cases hb:(l.all (PO.good m)&&Nat.beq l.length m&&eF m v0&&Nat.ble k m)with
 |false=>rw[hb]at hf;exact hf.elim
 |true=>
  rw[hb]at hf;simp only[aO]at hf
  simp only[aI,Nat.ble_eq]at hb
  obtain⟨⟨⟨b1,b2⟩,b3⟩,b4⟩:=hb
  have:=ak b2;subst this
  have h1:=Qm hf
  refine⟨h1.trans ⟨b4,fun ρ T w u hR hv=>⟨fun j=>if j<l.length then ρ j else none,fun i hi=>if_pos (Nat.lt_of_lt_of_le hi b4),?_,Qr (n:=l.length) (fun i hi=>by simp only[if_pos hi]) b3 hv⟩⟩,rfl⟩
  have:=hR.closeAll b1
  rw[hOf,List.length_map]at this
  exact this
def dA(k:Nat){X:Type}(x:X)(v:AV)(h':Heap):List (akB X)->Prop
 |[]=>False
 |[o]=> ∃y,o.post x y/\akC k o.m (o.ret x y) (o.l x y) v h'
 |o::r=>(∃y,o.post x y/\akC k o.m (o.ret x y) (o.l x y) v h')\/dA k x v h' r
theorem CY{k:Nat}{X:Type}{x:X}{v:AV}{h':Heap}: ∀{l:List (akB X)},dA k x v h' l-> ∃v0 h0,Leq k v h' v0 h0/\pU x v0 h0 (l.map akB.out)
 |[o],⟨y,h1,h2⟩=>⟨_,_,(VL h2).1,adu (o:=o.out) y h1⟩
 |o::o2::r,hh=>by
  rcases hh with ⟨y,h1,h2⟩|hh
  ·exact⟨_,_,(VL h2).1,adu (o:=o.out) y h1⟩
  ·obtain⟨v0,h0,g1,g2⟩:=CY (l:=o2::r) hh
   exact⟨v0,h0,g1,apR g2⟩
theorem dK{P:Program}{tbl:jY}{tt:TT}(hT:tt.ok P)(hm:P.follows .mixedOrders=true)(ht:fJ P tbl){C:jR}(N:Nat)(an:C.X->FuncId->tK)(fuel d:Nat){f:FuncId}
  (hk: ∀x,(C.l x).length=C.k/\(dO C.k (C.l x)).length=N/\(C.l x).all (PO.good C.k)=true/\iQ C.k (C.args x)=true)
  (hq: ∀x,C.pre x->wpF P tbl tt (an x) fuel d f (C.args x) (hO N (dO C.k (C.l x))) (fun v h'=>dA C.k x v h' C.outs)):bZ P f C.ctr:=fun x hp=>by
 obtain⟨h1,h2,h3,h4⟩:=hk x
 refine⟨by simp only[jR.ctr,List.length_map];exact h1,?_⟩
 have hs:=xY hT hm ht (an x) fuel d f _ _ _ (hq x hp)
 rw[<-h2,<-h1]at hs
 refine⟨hs.1,fun ρ T w vs hR hl=> ?_⟩
 have hR0:Rel (hOf ((C.l x).map PO.ab)) ρ T w:=by rw[hOf,List.length_map,h1];exact hR
 obtain⟨ρ',r1,r2,r3⟩:=Rel.Qq (by rw[h1];exact h3) hR0
 refine(hs.2 ρ' T w vs r3 (eP.mono r2 _ _ hl)).mono ?_
 rintro e w' ⟨ρ2,v,u,h',c1,c2,c3,c4,c5,c6,c7⟩
 obtain⟨v0,h0,g1,g2⟩:=CY c7
 obtain⟨ρ3,q1,q2,q3⟩:=g1.2 ρ2 T w' u c3 c4
 refine⟨ρ3,v0,u,h0,fun j hj=> ?_,?_,q2,q3,c5,c6,g2⟩
 ·have hj':j<C.k:=hj
  have hle:C.k<=(dO C.k (C.l x)).length:=by unfold dO;rw[List.length_append,iP,h1];omega
  rw[q1 j (by rw[h1];exact hj'),c1 j (by show j<(dO _ _).length;rw[h1];omega),r1 j (by rw[h1];exact hj')]
 ·have:=g1.1;rw[h1]at this;exact this
attribute [irreducible] akC
end Go.Proofs.YtenfleoejgjklaaGreat.SE
end
