import Derived.Test.YtenfleoejgjklaaGreatYa
import Derived.Test.YtenfleoejgjklaaGreatYb
import Derived.Laws.IdiomStrings
import Derived.Scope
set_option linter.unusedVariables false
set_option linter.unusedSimpArgs false
set_option linter.unnecessarySimpa false
section
namespace Go.Proofs.YtenfleoejgjklaaGreat.SE
open Go
def adt(tt:TT)(t:TypeId)(x:AV)(h:Heap):Option (AV×Heap):=
 match tt t with
 |some ti=>match ti.desc with
  | .map _ _=>match x with
   | .lit (.map none)=>some (.ptr h.next 0,h.push (.iter none 0 [] 0))
   | .mp i=>match h.get i with
    |some (.map _ clk)=>some (.ptr h.next 0,h.push (.iter (some i) clk [] clk))
    |some (.nC m)=>some (.ptr h.next 0,h.push (.iter (some i) m.clk [] m.clk))
    |_=>none
   |_=>none
  |_=>none
 |none=>none
def anU(it:AV)(h:Heap):Option (AV×Heap):=
 match it with
 | .ptr r 0=>match h.get r with
  |some (.iter none _ _ _)=>some (.tup [.lit (.bool false)],h)
  |some (.iter (some i) since seen last)=>match h.get i with
   |some (.map es clk)=>bif !seen.isEmpty&& !es.isEmpty&&es.all (λx=>decide (x.2.2>=last))then none else
    (match es.filter (λx=> !seen.contains x.2.2)with
    |[]=>some (.tup [.lit (.bool false)],h)
    |[x]=>bif decide (x.2.2<since)then some (.tup [.lit (.bool true),x.1,x.2.1],h.set r (.iter (some i) since (seen++[x.2.2]) clk))else none
    |_=>none)
   |_=>none
  |_=>none
 |_=>none
def adu(it:AV)(h:Heap):Option (AV×Heap):=
 match it with
 | .ptr r 0=>match h.get r with
  |some (.iter (some i) _ seen last)=>match h.get i,seen.getLast? with
   |some (.map es clk),some st=>bif decide (clk=last)then(match es.find? (λx=>x.2.2==st)with
    |some x=>some (.tup [x.1,x.2.1],h)
    |none=>none)else none
   |_,_=>none
  |_=>none
 |_=>none
theorem pF{P:Program}{w:World}{r:Nat}{m:Option Nat}{a c:Nat}{l:Array Nat}(h:w.heap[r]? =some (.mapIter m a l c)):(getObj r).run P w= .ok (.mapIter m a l c) w:=by simp[getObj,Sem.run,h]
theorem X3{P:Program}{w:World}{r:Nat}{m:Option Nat}{a c:Nat}{l:Array Nat}(o':Obj)(h:w.heap[r]? =some (.mapIter m a l c)):(setObj r o').run P w= .ok () {w with heap:=w.heap.setIfInBounds r o'}:=by
 simp[setObj,Sem.run,h]
theorem Rel.iterAt{h:Heap}{ρ:Ren}{T:Nat->Prop}{w:World}(hR:Rel h ρ T w){r:Nat}{m:Option Nat}{since:Nat}{seen:List Nat}{st:Nat}(hi:h.get r=some (.iter m since seen st)):
  ∃a mb,ρ r=some a/\anu ρ m mb/\w.heap[a.blk]? =some (.mapIter mb since seen.toArray st)/\T a.blk/\a.base=0:=by
 obtain⟨S,h1,h2,h3,h4,h5⟩:=hR;obtain⟨a,ha,h0,hS,mb,hm,hb⟩:=h1 r _ hi;exact⟨a,mb,ha,hm,hb,(h3 r _ _ hi hS).1,h0⟩
theorem Rel.adv{h:Heap}{ρ:Ren}{T:Nat->Prop}{w:World}(hR:Rel h ρ T w){r:Nat}{m:Option Nat}{mb:Option Nat}{since:Nat}{seen seen':List Nat}{st st':Nat}{a:Loc}(hi:h.get r=some (.iter m since seen st))(ha:ρ r=some a)
  (hb:w.heap[a.blk]? =some (.mapIter mb since seen.toArray st)) (hm:anu ρ m mb) (hT:T a.blk) (h0:a.base=0):Rel (h.set r (.iter m since seen' st')) ρ T {w with heap:=w.heap.setIfInBounds a.blk (.mapIter mb since seen'.toArray st')}/\
   Keeps T w {w with heap:=w.heap.setIfInBounds a.blk (.mapIter mb since seen'.toArray st')}:=by
 have hne: ∀b,b≠a.blk->(w.heap.setIfInBounds a.blk (.mapIter mb since seen'.toArray st'))[b]? =w.heap[b]? :=λb hb=>by
  rw[Array.getElem?_setIfInBounds];rw[if_neg (Ne.symm hb)]
 have hlt:a.blk<w.heap.size:=(Array.getElem?_eq_some_iff.1 hb).1;refine⟨hR.upd (o:= .iter m since seen st) hi ha (by simp) hne (λS hS=>hS.2.1) (λS hS _=>⟨h0,hS,mb,hm,?_⟩),by simp,rfl,rfl,rfl,λb hb=>hne b λh=>hb (h▸hT)⟩;show(w.heap.setIfInBounds a.blk _)[a.blk]? =_;simp[hlt]
theorem kK.Sl{ρ:Ren}(p:Nat->Bool): ∀{es:List (AV×AV×Nat)} {l:List MapEntry},kK ρ es l->kK ρ (es.filter λx=>p x.2.2) (l.filter λe=>p e.born)
 |[],l,hm=>by have:l=[]:=hm;subst this;exact rfl
 |x::es,l,⟨e,l',he,h1,h2,h3,h4⟩=>by
  subst he;simp only[List.filter_cons,h3];cases p x.2.2 with
  |true=>exact⟨e,_,rfl,h1,h2,h3,kK.Sl p h4⟩
  |false=>exact kK.Sl p h4
theorem kK.allB{ρ:Ren}(p:Nat->Bool): ∀{es:List (AV×AV×Nat)} {l:List MapEntry},kK ρ es l->(es.all λx=>p x.2.2)=(l.all λe=>p e.born)
 |[],l,hm=>by have:l=[]:=hm;subst this;rfl
 |x::es,l,⟨e,l',he,h1,h2,h3,h4⟩=>by
  subst he;simp only[List.all_cons,h3,kK.allB p h4]
theorem kK.aqJ{ρ:Ren}(p:Nat->Bool): ∀{es:List (AV×AV×Nat)} {l:List MapEntry} {x:AV×AV×Nat},kK ρ es l->es.find? (λx=>p x.2.2)=some x-> ∃e,l.find? (λe=>p e.born)=some e/\bn ρ x.1 e.key/\bn ρ x.2.1 e.val
 |[],l,x,hm,hf=>by cases hf
 |y::es,l,x,⟨e,l',he,h1,h2,h3,h4⟩,hf=>by
  subst he;simp only[List.find?_cons]at hf ⊢;rw[h3];cases hp:p y.2.2<;>rw[hp]at hf
  ·exact kK.aqJ p h4 hf
  ·cases hf;exact⟨e,rfl,h1,h2⟩
theorem kK.nilB{ρ:Ren}: ∀{es:List (AV×AV×Nat)} {l:List MapEntry},kK ρ es l->es.isEmpty=l.isEmpty
 |[],l,hm=>by have:l=[]:=hm;subst this;rfl
 |x::es,l,⟨e,l',he,_⟩=>by subst he;rfl
theorem adw{P:Program}{tt:TT}(hT:tt.ok P){h h':Heap}{ρ:Ren}{T:Nat->Prop}{w:World}(hR:Rel h ρ T w){t:TypeId}{x v:AV}{u:Value}(hr:adt tt t x h=some (v,h'))(hu:bn ρ x u):XOk P (Instr.range t u) h ρ T w v h':=by
 have push: ∀(m:Option Nat) (mb:Option Nat) (since:Nat) (st:Nat),anu ρ m mb->(Instr.range t u).run P w= .ok (.pointer (some ⟨w.heap.size,0,none⟩)) (w.alloc (.mapIter mb since #[] st))->XOk P (Instr.range t u) h ρ T w (.ptr h.next 0) (h.push (.iter m since [] st)):=λm mb since st hm hrun=>by
  have hnew:(w.alloc (.mapIter mb since #[] st)).heap[w.heap.size]? =some (.mapIter mb since #[] st):=by
   show(w.heap.push _)[w.heap.size]? =_;simp
  obtain⟨ρ',h1,h2,h3,h4⟩:=hR.push (o:= .iter m since [] st) (ob:= .mapIter mb since #[] st) 0 ⟨rfl,rfl,mb,hm,hnew⟩;obtain⟨S,_,_,_,_,h5⟩:=hR;exact⟨_,_,ρ',hrun,h3,h1,by simp,h4,by simp only[bn];exact⟨_,h2,rfl⟩,Keeps.alloc _ h5⟩
 unfold adt at hr;split at hr
 ·rename_i ti hti
  split at hr
  ·rename_i kt et hd
   obtain⟨d1,r1,_,m1⟩:=dD (P:=P) hT hti w;rw[sO (m1.trans hd)]at r1;split at hr
   ·cases hr
    simp only[bn]at hu;subst hu;exact push none none 0 0 rfl (by simp[Instr.range,r1])
   ·rename_i i
    split at hr
    ·rename_i es clk hi
     cases hr;simp only[bn]at hu;obtain⟨a,ha,rfl⟩:=hu;obtain⟨a',arr,ha',hb,hm,hTa⟩:=hR.ads hi;obtain rfl:a'=a:=Option.some.inj (ha'.symm.trans ha);exact push (some i) (some a'.blk) clk clk ⟨a',ha,rfl⟩ (by simp[Instr.range,r1,MapKept.run_getObj_map hb])
    ·rename_i m hi
     cases hr;simp only[bn]at hu;obtain⟨a,ha,rfl⟩:=hu;obtain⟨a',arr,ha',hb,hm,hTa⟩:=hR.CW hi;obtain rfl:a'=a:=Option.some.inj (ha'.symm.trans ha);exact push (some i) (some a'.blk) m.clk m.clk ⟨a',ha,rfl⟩ (by simp[Instr.range,r1,MapKept.run_getObj_map hb])
    ·cases hr
   ·cases hr
  ·cases hr
 ·cases hr
theorem adx{P:Program}{h h':Heap}{ρ:Ren}{T:Nat->Prop}{w:World}(hR:Rel h ρ T w){x v:AV}{u:Value}(hr:adu x h=some (v,h'))(hu:bn ρ x u):XOk P (Instr.entry u) h ρ T w v h':=by
 unfold adu at hr;split at hr
 ·rename_i r
  split at hr
  ·rename_i i since seen last hi
   split at hr
   ·rename_i es clk st hm hst
    cases hc:decide (clk=last)<;>rw[hc]at hr
    ·cases hr
    ·simp only[aP]at hr
     split at hr
     ·rename_i y hf
      cases hr;simp only[bn]at hu;obtain⟨a,ha,rfl⟩:=hu;obtain⟨a',mb,ha',⟨b,hb,rfl⟩,hit,_,hbase⟩:=hR.iterAt hi;obtain rfl:a'=a:=Option.some.inj (ha'.symm.trans ha);obtain⟨b',arr,hb',hmb,hmr,_⟩:=hR.ads hm;obtain rfl:b'=b:=Option.some.inj (hb'.symm.trans hb);obtain⟨e,he,h1,h2⟩:=kK.aqJ (λn=>n==st) hmr hf;have hcl:clk=last:=aS hc;subst hcl;refine⟨.tuple #[e.key,e.val],w,ρ,?_,λ_ _=>rfl,Ren.le_refl _,aY _,hR,by simp only[bn];exact⟨_,rfl,.cons h1 (.cons h2 .nil)⟩,Keeps.refl _ _⟩;have hback:seen.toArray.back? =some st:=by rw[List.back?_toArray];exact hst
      have hfind:arr.find? (λx=>x.born==st)=some e:=by rw[<-Array.find?_toList];exact he
      simp[Instr.entry,hbase,pF hit,hback,MapKept.run_getObj_map hmb,hfind]
     ·cases hr
   ·cases hr
  ·cases hr
 ·cases hr
theorem ajg{P:Program}{h h':Heap}{ρ:Ren}{T:Nat->Prop}{w:World}(hR:Rel h ρ T w){x v:AV}{u:Value}{ty:TypeId}(hr:anU x h=some (v,h'))(hu:bn ρ x u):XOk P (Instr.next u false ty) h ρ T w v h':=by
 have over:(Instr.next u false ty).run P w= .ok (.tuple #[.bool false]) w->XOk P (Instr.next u false ty) h ρ T w (.tup [.lit (.bool false)]) h:=λhrun=>
  ⟨_,w,ρ,hrun,λ_ _=>rfl,Ren.le_refl _,aY _,hR,by simp only[bn];exact⟨_,rfl,.cons (by simp only[bn]) .nil⟩,Keeps.refl _ _⟩
 unfold anU at hr;split at hr
 ·rename_i r
  split at hr
  ·rename_i since seen last hi
   cases hr;simp only[bn]at hu;obtain⟨a,ha,rfl⟩:=hu;obtain⟨a',mb,ha',hmb,hit,hTa,hbase⟩:=hR.iterAt hi;obtain rfl:a'=a:=Option.some.inj (ha'.symm.trans ha);have hmb:mb=none:=hmb;subst hmb;exact over (by simp[Instr.next,hbase,pF hit])
  ·rename_i i since seen last hi
   split at hr
   ·rename_i es clk hm
    simp only[bn]at hu;obtain⟨a,ha,rfl⟩:=hu;obtain⟨a',mb,ha',hI,hit,hTa,hbase⟩:=hR.iterAt hi;obtain rfl:a'=a:=Option.some.inj (ha'.symm.trans ha);have hI0:=hI;obtain⟨b,hb,rfl⟩:=hI;obtain⟨b',arr,hb',hmb,hmr,_⟩:=hR.ads hm;obtain rfl:b'=b:=Option.some.inj (hb'.symm.trans hb);have hall:=kK.allB (λn=>decide (n>=last)) hmr;have hnil:=kK.nilB hmr;have hfl:=kK.Sl (λn=> !seen.contains n) hmr;cases hg:(!seen.isEmpty&& !es.isEmpty&&es.all (λx=>decide (x.2.2>=last)))<;>rw[hg]at hr
    ·simp only[aQ]at hr
     rw[hnil,hall]at hg;have hg':(!seen.toArray.isEmpty&& !arr.isEmpty&&arr.all (λe=>decide (e.born>=last)))=false:=by
      rw[<-hg];cases seen<;>simp[<-Array.all_toList,Array.isEmpty]
     have hleft:(arr.filter λe=> !seen.toArray.contains e.born).toList=arr.toList.filter λe=> !seen.contains e.born:=by simp
     split at hr
     ·rename_i hnone
      cases hr;rw[hnone]at hfl;have hl0:(arr.filter λe=> !seen.toArray.contains e.born)= #[]:=by apply Array.toList_inj.1;rw[hleft];exact hfl
      refine over ?_;simp only[Instr.next,hbase,aI,Sem.run_bind,pF hit,MapKept.run_getObj_map hmb,Result.andThen_ok,hg',Bool.false_eq_true,if_false,hl0];simp[Question.forced]
     ·rename_i y hone
      rw[hone]at hfl;obtain⟨e,l',hl1,h1,h2,h3,h4⟩:=hfl;have h4:l'=[]:=h4;subst h4;cases hs:decide (y.2.2<since)<;>rw[hs]at hr
      ·cases hr
      ·cases hr
       have hs:=aS hs;have hl0:(arr.filter λe=> !seen.toArray.contains e.born)= #[e]:=by apply Array.toList_inj.1;rw[hleft];exact hl1
       obtain⟨R2,K2⟩:=hR.adv (seen':=seen++[y.2.2]) (st':=clk) hi ha hit hI0 hTa hbase;refine⟨.tuple #[.bool true,e.key,e.val],_,ρ,?_,λ_ _=>rfl,Ren.le_refl _,by simp,R2,by simp only[bn];exact⟨_,rfl,.cons (by simp only[bn]) (.cons h1 (.cons h2 .nil))⟩,K2⟩;have hs':e.born<since:=by rw[h3];exact hs
       simp only[Instr.next,hbase,aI,Sem.run_bind,pF hit,MapKept.run_getObj_map hmb,Result.andThen_ok,hg',Bool.false_eq_true,if_false,hl0];simp[Question.forced,List.filter_cons,h3,hs,Nat.not_le.2 hs,X3 _ hit]
     ·cases hr
    ·cases hr
   ·cases hr
  ·cases hr
 ·cases hr
def ajh(it:AV)(h:Heap):Bool:=match it with
 | .ptr r 0=>match h.get r with
  |some (.iter (some i) _ _ _)=>match h.get i with
   |some (.nC _)=>true
   |_=>false
  |_=>false
 |_=>false
def ady(it:AV)(h:Heap)(Q:AV->Heap->Prop):Prop:=match it with
 | .ptr r 0=>match h.get r with
  |some (.iter (some i) since seen last)=>match h.get i with
   |some (.nC m)=>(∀j,j<m.n->(m.g j).born<m.clk)/\since=m.clk/\last=m.clk/\
     (∀j,j<m.n->(m.g j).born ∉ seen->Q (.tup [.lit (.bool true),.lit (.string (m.g j).key),.agg ((m.g j).val.map .lit)]) (h.set r (.iter (some i) since (seen++[(m.g j).born]) m.clk)))/\
     ((∀j,j<m.n->(m.g j).born∈seen)->Q (.tup [.lit (.bool false)]) h)
   |_=>False
  |_=>False
 |_=>False
def Sm(it:AV)(h:Heap)(Q:AV->Heap->Prop):Prop:=match it with
 | .ptr r 0=>match h.get r with
  |some (.iter (some i) _ seen last)=>match h.get i with
   |some (.nC m)=>last=m.clk/\(∃j,j<m.n/\seen.getLast? =some (m.g j).born)/\ ∀j,j<m.n->seen.getLast? =some (m.g j).born->Q (.tup [.lit (.string (m.g j).key),.agg ((m.g j).val.map .lit)]) h
   |_=>False
  |_=>False
 |_=>False
theorem adz{P:Program}{h:Heap}{ρ:Ren}{T:Nat->Prop}{w:World}(hR:Rel h ρ T w){x:AV}{u:Value}{ty:TypeId}{Q:AV->Heap->Prop}(hq:ady x h Q)(hu:bn ρ x u):XQ P (Instr.next u false ty) h ρ T w Q:=by
 unfold ady at hq;split at hq
 ·rename_i r
  split at hq
  ·rename_i i since seen last hi
   split at hq
   ·rename_i m hm
    obtain⟨hb1,hs1,hs2,hq1,hq2⟩:=hq;obtain⟨n,g,last⟩:=m;simp only at hb1 hs1 hs2 hq1 hq2;subst hs1;subst hs2;simp only[bn]at hu;obtain⟨a,ha,rfl⟩:=hu;obtain⟨a',mb,ha',hI,hit,hTa,hbase⟩:=hR.iterAt hi;obtain rfl:a'=a:=Option.some.inj (ha'.symm.trans ha);have hI0:=hI;obtain⟨b,hb,rfl⟩:=hI;obtain⟨b',arr,hb',hmb,hmr,_⟩:=hR.CW hm;obtain rfl:b'=b:=Option.some.inj (hb'.symm.trans hb);have born: ∀e∈arr,e.born<last:=λe he=>by
     obtain⟨j,hj,_,rfl⟩:=hmr.mem (by simpa using he);exact hb1 j hj
    have hg':(!seen.toArray.isEmpty&& !arr.isEmpty&&arr.all (λe=>decide (e.born>=last)))=false:=by
     by_cases he:arr= #[]
     ·subst he;simp
     ·have:arr.all (λe=>decide (e.born>=last))=false:=by
       rw[<-Bool.not_eq_true];intro hall;rw[Array.all_eq_true_iff_forall_mem]at hall;obtain⟨e,he'⟩:=Array.exists_mem_of_ne_empty arr he;have h1:=hall e he';have h2:=born e he';simp only[decide_eq_true_eq]at h1;omega
      rw[this];simp
    let left:=arr.filter λe=> !seen.toArray.contains e.born
    have hold:left.filter (λe=>decide (e.born<last))=left:=by
     rw[Array.filter_eq_self];intro e he;exact decide_eq_true (born e (Array.mem_filter.1 he).1)
    have hnew:left.filter (λe=>decide (e.born>=last))= #[]:=by
     rw[Array.filter_eq_empty_iff];intro e he;have:=born e (Array.mem_filter.1 he).1;simp only[decide_eq_true_eq];omega
    by_cases hl:left= #[]
    ·refine⟨_,h,⟨.tuple #[.bool false],w,ρ,?_,λ_ _=>rfl,Ren.le_refl _,aY _,hR,by simp only[bn];exact⟨_,rfl,.cons (by simp only[bn]) .nil⟩,Keeps.refl _ _⟩,hq2 λj hj=> ?_⟩
     ·simp only[Instr.next,hbase,aI,Sem.run_bind,pF hit,MapKept.run_getObj_map hmb,Result.andThen_ok]
      have h0:(arr.filter λe=> !seen.toArray.contains e.born)= #[]:=hl;rw[if_neg (by rw[hg'];decide)];simp only[h0,Array.filter_empty,Array.append_empty,Array.map_empty,Array.isEmpty_empty,if_true,Array.size_singleton];rw[Sem.run_bind,run_choose_drew,if_pos (by decide)];rfl
     ·by_cases hc:(g j).born∈seen
      ·exact hc
      ·exfalso
       have hmem:(g j).raw∈left:=Array.mem_filter.2 ⟨by
        have:=hmr.get hj
        exact Array.mem_of_getElem? this,by simpa[ZF.raw]using hc⟩
       rw[hl]at hmem;simp at hmem
    ·have hsz:0<left.size:=Array.size_pos_iff.2 hl
     have key: ∀(k:Nat) (w':World),(choose (.mapNext left.size)).run P w= .ok k w'->Rel h ρ T w'->w'.heap=w.heap->Keeps T w w'->k<left.size->XQ P (Instr.next (.pointer (some ⟨a'.blk,a'.base+0,none⟩)) false ty) h ρ T w Q:=by
      intro k w' hch hR' hheap hK hk;have hmemk:left[k]∈left:=Array.getElem_mem hk;obtain⟨hm1,hm2⟩:=Array.mem_filter.1 hmemk;obtain⟨j,hj,_,hje⟩:=hmr.mem (by simpa using hm1);have hns:(g j).born ∉ seen:=by
       have:left[k].born=(g j).born:=by rw[hje];rfl
       rw[<-this];simpa using hm2
      have hit':w'.heap[a'.blk]? =some (.mapIter (some b'.blk) last seen.toArray last):=by rw[hheap];exact hit
      obtain⟨R2,K2⟩:=hR'.adv (seen':=seen++[(g j).born]) (st':=last) hi ha hit' hI0 hTa hbase;refine⟨_,_,⟨.tuple #[.bool true,.string (g j).key,.agg (g j).val.toArray],_,ρ,?_,λ_ _=>rfl,Ren.le_refl _,by simp,R2,by simp only[bn];exact⟨_,rfl,.cons (by simp only[bn]) (.cons (by simp only[bn]) (.cons (by simp only[bn];exact⟨_,rfl,dP.lits _⟩) .nil))⟩,hK.trans K2⟩,hq1 j hj hns⟩;simp only[Instr.next,hbase,aI,Sem.run_bind,pF hit,MapKept.run_getObj_map hmb,Result.andThen_ok];rw[if_neg (by rw[hg'];decide)];have hne:left.isEmpty=false:=by cases hh:left.isEmpty with
       |false=>rfl
       |true=>exact absurd (Array.isEmpty_iff.1 hh) hl
      have aqK:((if (left.filter λe=>decide (e.born<last)).isEmpty then #[none]else #[])++((left.filter λe=>decide (e.born<last))++left.filter λe=>decide (e.born>=last)).map some:Array (Option MapEntry))=left.map some:=by
       rw[hold,hnew,hne];simp
      have hcs:(left.map some:Array (Option MapEntry)).size=left.size:=by simp
      simp only[left]at aqK hcs hch hje;rw[aqK,hcs,Sem.run_bind,hch];have hgk:(arr.filter λe=> !seen.toArray.contains e.born)[k]? =some (g j).raw:=by rw[Array.getElem?_eq_getElem hk];exact congrArg some hje
      rw[Result.andThen_ok,Array.getElem?_map,hgk];simp[X3 _ hit',ZF.raw]
     by_cases hf:(Question.mapNext left.size).forced=true
     ·exact key 0 w (by rw[run_choose_drew,if_pos hf]) hR rfl (Keeps.refl _ _) hsz
     ·exact key ((Question.mapNext left.size).cut (w.tape w.drawn (Question.mapNext left.size))) w.drew (by rw[run_choose_drew,if_neg hf]) hR.drew rfl (Keeps.drew _ _) (Nat.mod_lt _ hsz)
   ·exact hq.elim
  ·exact hq.elim
 ·exact hq.elim
theorem Z7{P:Program}{h:Heap}{ρ:Ren}{T:Nat->Prop}{w:World}(hR:Rel h ρ T w){x:AV}{u:Value}{Q:AV->Heap->Prop}(hq:Sm x h Q)(hu:bn ρ x u):XQ P (Instr.entry u) h ρ T w Q:=by
 unfold Sm at hq;split at hq
 ·rename_i r
  split at hq
  ·rename_i i since seen last hi
   split at hq
   ·rename_i m hm
    obtain⟨hl,⟨j0,hj0,hs0⟩,hq⟩:=hq;subst hl;simp only[bn]at hu;obtain⟨a,ha,rfl⟩:=hu;obtain⟨a',mb,ha',⟨b,hb,rfl⟩,hit,_,hbase⟩:=hR.iterAt hi;obtain rfl:a'=a:=Option.some.inj (ha'.symm.trans ha);obtain⟨b',arr,hb',hmb,hmr,_⟩:=hR.CW hm;obtain rfl:b'=b:=Option.some.inj (hb'.symm.trans hb);have hback:seen.toArray.back? =some (m.g j0).born:=by rw[List.back?_toArray];exact hs0
    cases hfind:arr.find? (λx=>x.born==(m.g j0).born)with
    |none=>
     exfalso;rw[Array.find?_eq_none]at hfind;have:=hfind (m.g j0).raw (Array.mem_of_getElem? (hmr.get hj0));simp[ZF.raw]at this
    |some e=>
     have he1:=Array.mem_of_find?_eq_some hfind;have he2:=Array.find?_some hfind;obtain⟨j,hj,_,rfl⟩:=hmr.mem (by simpa using he1);have hbj:(m.g j).born=(m.g j0).born:=by simpa[ZF.raw]using he2
     refine⟨_,_,⟨.tuple #[.string (m.g j).key,.agg (m.g j).val.toArray],w,ρ,?_,λ_ _=>rfl,Ren.le_refl _,aY _,hR,by simp only[bn];exact⟨_,rfl,.cons (by simp only[bn]) (.cons (by simp only[bn];exact⟨_,rfl,dP.lits _⟩) .nil)⟩,Keeps.refl _ _⟩,hq j hj (by rw[hbj];exact hs0)⟩;simp[Instr.entry,hbase,pF hit,hback,MapKept.run_getObj_map hmb,hfind,ZF.raw]
   ·exact hq.elim
  ·exact hq.elim
 ·exact hq.elim
def vSrc(h:Heap)(x:AV)(m d:Nat)(Q:dG->Prop):Prop:=
 let cut (q n N:Nat) (g:Nat->List Value) (wr:List (Nat×List Value)):Prop:=cP (Nat.ble n d) (q+n<=N/\Q (.many n (λk=>Cs.eff g wr (q+k)))) (q+d<=N/\Q (.many d (λk=>Cs.eff g wr (q+k))))
 match x with
 | .sl j o n c=>bif Nat.beq o 0&&Nat.beq (FN h j) m then rowOf h j m λN g wr=>cut 0 n N g wr else vNew h (.sl j o n c) m λnew=>new.len<=d/\Q new
 | .slE j q m' n _=>bif Nat.beq m m' then rowOf h j m λN g wr=>cut q n N g wr else False
 | .slW j q m' n=>bif Nat.beq m m' then rowOf h j m λN g wr=>cut q n N g wr else False
 | .slR j q m' n=>bif Nat.beq m m' then rowOf h j m λN g wr=>cut q n N g wr else False
 | .lit (.string s)=>bif Nat.beq m 1 then cP (Nat.ble s.size d) (Q (.many s.size (λk=>[.int .u8 (dY s k)]))) (Q (.many d (λk=>[.int .u8 (dY s k)])))else False
 |x=>vNew h x m λnew=>new.len<=d/\Q new
def adA(P:Program)(h:Heap)(ρ:Ren)(T:Nat->Prop)(m d:Nat)(v:Value)(new:dG):Prop:=
 ∃L,(∀w,(Builtin.lenOf v).run P w= .ok L w)/\new.len=Nat.min L d/\ ∀w,Rel h ρ T w-> ∃vs:Array Value,(Builtin.firstCells m new.len v).run P w= .ok vs w/\vs.size=new.len*m/\fB ρ (.row m new.len new.el []) vs 0
theorem adA.amv{P:Program}{h:Heap}{ρ:Ren}{T:Nat->Prop}{m d:Nat}{v:Value}{new:dG}(hn:adn P h ρ T m v new)(hd:new.len<=d):adA P h ρ T m d v new:=
 ⟨new.len,hn.1,(Nat.min_eq_left hd).symm,hn.2⟩
theorem IZ{P:Program}{h:Heap}{ρ:Ren}{T:Nat->Prop}{j q m n c p d:Nat}{a:Loc}{ob:dB}{N:Nat}{g:Nat->List Value}{wr:List (Nat×List Value)}{Q:dG->Prop}(hm:0<m)(hi:h.get j=some ob)(hc:ob.eu=some (.row m N g wr))(ha:ρ j=some a)
  (hp:n≠0->p=a.base+q*m) (hq:cP (Nat.ble n d) (q+n<=N/\Q (.many n (λk=>Cs.eff g wr (q+k)))) (q+d<=N/\Q (.many d (λk=>Cs.eff g wr (q+k))))): ∃new,adA P h ρ T m d (.slice (some ⟨a.blk,p,none⟩) n c) new/\Q new:=by
 rcases jq hq with ⟨hb,hle,hq⟩|⟨hb,hle,hq⟩
 ·exact⟨_,.amv (lI hm hi hc ha hle hp) (by simpa[dG.len]using hb),hq⟩
 ·have hdn:d<n:=by
   rcases Nat.lt_or_ge d n with h'|h'
   ·exact h'
   ·rw[show Nat.ble n d=true by simpa using h']at hb;cases hb
  refine⟨_,⟨n,λw=>by simp[Builtin.lenOf],by simp only[dG.len];exact(Nat.min_eq_right (by omega)).symm,?_⟩,hq⟩;exact(lI (P:=P) (T:=T) (n:=d) (c:=d) hm hi hc ha hle (λ_=>hp (by omega))).2
theorem anV{P:Program}{h:Heap}{ρ:Ren}{T:Nat->Prop}{x:AV}{v:Value}{m d:Nat}{Q:dG->Prop}(hm:0<m)(hq:vSrc h x m d Q)(hv:bn ρ x v): ∃new,adA P h ρ T m d v new/\Q new:=by
 have plain: ∀{y:AV},bn ρ y v->vNew h y m (λnew=>new.len<=d/\Q new)-> ∃new,adA P h ρ T m d v new/\Q new:=λhy hq=>by
  obtain⟨new,hn,hle,hq⟩:=yF (P:=P) (T:=T) hm hq hy;exact⟨new,.amv hn hle,hq⟩
 unfold vSrc at hq;simp only at hq;split at hq
 ·rename_i j o n c
  cases hb:(Nat.beq o 0&&Nat.beq (FN h j) m)with
  |false=>rw[hb]at hq;exact plain hv hq
  |true=>
   rw[hb]at hq;simp only[aP]at hq;simp only[aJ]at hb;have:=au hb.1;subst this;simp only[bn]at hv;obtain⟨a,ha,rfl⟩:=hv;obtain⟨ob,N,g,wr,hi,hc,hq⟩:=gK hq;exact IZ hm hi hc ha (λ_=>by simp) hq
 ·rename_i j q m' n c
  cases hb:Nat.beq m m' with
  |false=>rw[hb]at hq;exact hq.elim
  |true=>
   rw[hb]at hq;simp only[aP]at hq;have:=au hb;subst this;simp only[bn]at hv;obtain⟨a,p,ha,rfl,hnc,hp⟩:=hv;obtain⟨ob,N,g,wr,hi,hc,hq⟩:=gK hq;exact IZ hm hi hc ha (λ_=>hp (by omega)) hq
 ·rename_i j q m' n
  cases hb:Nat.beq m m' with
  |false=>rw[hb]at hq;exact hq.elim
  |true=>
   rw[hb]at hq;simp only[aP]at hq;have:=au hb;subst this;simp only[bn]at hv;obtain⟨a,p,c,ha,rfl,hnc,hp⟩:=hv;obtain⟨ob,N,g,wr,hi,hc,hq⟩:=gK hq;exact IZ hm hi hc ha (λ_=>(hp (by omega)).1) hq
 ·rename_i j q m' n
  cases hb:Nat.beq m m' with
  |false=>rw[hb]at hq;exact hq.elim
  |true=>
   rw[hb]at hq;simp only[aP]at hq;have:=au hb;subst this;simp only[bn]at hv;obtain⟨ob,N,g,wr,hi,hc,hq⟩:=gK hq;rcases hv with ⟨rfl,rfl⟩|⟨a,p,c,ha,rfl,hnc,hp⟩
   ·rcases jq hq with ⟨hb,hle,hq⟩|⟨hb,hle,hq⟩
    ·exact⟨_,⟨0,λw=>by simp[Builtin.lenOf],by simp[dG.len],λw _=>⟨#[],by simp[Builtin.firstCells,dG.len],by simp[dG.len],λk v hk=>by have:=Cs.dQ hk;simp[Cs.size,dG.len]at this⟩⟩,hq⟩
    ·exact absurd (show true=false from hb) (by decide)
   ·exact IZ hm hi hc ha hp hq
 ·rename_i s
  cases hb:Nat.beq m 1 with
  |false=>rw[hb]at hq;exact hq.elim
  |true=>
   rw[hb]at hq;simp only[aP]at hq;have:=au hb;subst this;simp only[bn]at hv;subst hv;have key: ∀n,n<=s.size-> ∀w,∃vs:Array Value,(Builtin.firstCells 1 n (.string s)).run P w= .ok vs w/\vs.size=n*1/\fB ρ (.row 1 n (λk=>[.int .u8 (dY s k)]) []) vs 0:=λn hn w=>by
    refine⟨(s.extract 0 n).data.map λb=> .int .u8 b.toNat,by simp only[Builtin.firstCells,Sem.run_pure],by rw[Array.size_map,ByteArray.data_extract,Array.size_extract];show min n s.size-0=n*1;omega,λk y hk=> ?_⟩;have hlt:=Cs.dQ hk;simp only[Cs.size,Nat.mul_one]at hlt;have hlt2:Nat.blt k (n*1)=true:=bg.2 (by omega);simp only[Cs.get,hlt2,aP,Cs.eff,Nat.div_one,Nat.mod_one,ah]at hk;cases hk;refine⟨.int .u8 (dY s k),?_,by simp only[bn]⟩;have hlt3:k<s.data.size:=Nat.lt_of_lt_of_le hlt hn;rw[aA,Array.getElem?_map];have e:(s.extract 0 n).data[k]? =some s.data[k]:=by
     rw[ByteArray.data_extract,Array.getElem?_extract];rw[if_pos (by show k<min n s.size-0;omega),aA,Array.getElem?_eq_getElem hlt3]
    simp only[e,Option.map_some,dY,List.getD_eq_getElem?_getD,Array.getElem?_toList,Array.getElem?_eq_getElem hlt3,Option.getD_some]
   rcases jq hq with ⟨hb,hq⟩|⟨hb,hq⟩
   ·have hb:s.size<=d:=by simpa using hb
    refine⟨.many s.size (λk=>[.int .u8 (dY s k)]),⟨s.size,λw=>by simp[Builtin.lenOf],?_,λw _=>key s.size (aY _) w⟩,hq⟩;simp only[dG.len];exact(Nat.min_eq_left hb).symm
   ·have hdn:d<s.size:=by
     rcases Nat.lt_or_ge d s.size with h'|h'
     ·exact h'
     ·rw[show Nat.ble s.size d=true by simpa using h']at hb;cases hb
    refine⟨.many d (λk=>[.int .u8 (dY s k)]),⟨s.size,λw=>by simp[Builtin.lenOf],?_,λw _=>key d (by omega) w⟩,hq⟩;simp only[dG.len];exact(Nat.min_eq_right (by omega)).symm
 ·exact plain hv hq
def anW(tt:TT)(t:TypeId)(d x:AV)(h:Heap)(Q:AV->Heap->Prop):Prop:=
 match tt t with
 |some ti=>match ti.desc with
  | .slice e=>match tt e with
   |some te=>bif Nat.beq te.size 0 then False else(
    let lay (i q m n:Nat):Prop:=bif Nat.beq m te.size&&CV h i then rowOf h i m λN g wr=>q+n<=N/\vSrc h x m n λnew=>new.ones m/\Q (.lit (.int .i64 new.len)) (setRow h i (mG m N q g wr new))else False
    match d with
    | .slE i q m n _=>lay i q m n
    | .slW i q m n=>lay i q m n
    |_=>False)
   |none=>False
  |_=>False
 |none=>False
theorem aji{P:Program}{tt:TT}(hT:tt.ok P){h:Heap}{ρ:Ren}{T:Nat->Prop}{w:World}(hR:Rel h ρ T w){t ty:TypeId}{d x:AV}{u v:Value}{ts:Array TypeId}{us:Array Value}{Q:AV->Heap->Prop}
  (hq:anW tt t d x h Q) (hu:bn ρ d u) (hv:bn ρ x v) (ht0:ts[0]? =some t) (hu0:us[0]? =some u) (hu1:us[1]? =some v):XQ P (Builtin.copy_ ts ty us) h ρ T w Q:=by
 unfold anW at hq;split at hq
 ·rename_i ti hti
  split at hq
  ·rename_i e hd
   split at hq
   ·rename_i te hte
    cases hb:Nat.beq te.size 0 with
    |true=>rw[hb]at hq;exact hq.elim
    |false=>
     rw[hb]at hq;simp only[aQ]at hq;have hm:0<te.size:=Nat.pos_of_ne_zero λh0=>by rw[h0]at hb;cases hb
     have jo: ∀w,(underlying t).run P w= .ok (.slice e) w:=λw=>by
      obtain⟨d1,r1,_,m1⟩:=dD (P:=P) hT hti w;rw[dh (m1.trans hd)]at r1;exact r1
     have hsz:=λw=>run_sizeOf (P:=P) hT hte w
     have key: ∀{i q m n c p:Nat} {a:Loc},(bif Nat.beq m te.size&&CV h i then rowOf h i m λN g wr=>q+n<=N/\vSrc h x m n λnew=>new.ones m/\Q (.lit (.int .i64 new.len)) (setRow h i (mG m N q g wr new))else False)->
       ρ i=some a->u= .slice (some ⟨a.blk,p,none⟩) n c->(n≠0->p=a.base+q*m)->XQ P (Builtin.copy_ ts ty us) h ρ T w Q:=by
      intro i q m n c p a hq ha hue hp;subst hue;cases hb:(Nat.beq m te.size&&CV h i)with
      |false=>rw[hb]at hq;exact hq.elim
      |true=>
       rw[hb]at hq;simp only[aP]at hq;simp only[aJ]at hb;have:=au hb.1;subst this;obtain⟨ob,N,g,wr,hi,hc,hle,hq⟩:=gK hq;obtain⟨new,⟨L,hlen,hmin,hnew⟩,yG,hq⟩:=anV (P:=P) (T:=T) hm hq hv;have hrow:eF ob=true:=by simpa[CV,hi]using hb.2
       have hset:setRow h i (mG te.size N q g wr new)=h.set i (l9 ob (mG te.size N q g wr new)):=by simp[setRow,hi]
       rw[hset]at hq;obtain⟨vs,hvs,Ai,hvc⟩:=hnew w hR;have hdn:new.len<=n:=by rw[hmin];exact Nat.min_le_right _ _
       obtain⟨w',hrun,hR',hk'⟩:=fD (P:=P) hR (k:=q) (cs:=vs.toList) (new:=new) hm hi hrow hc ha (by omega) (by simpa using Ai) (GV hm yG Ai hvc) (by simpa using hvc);have hst:(storeCells ⟨a.blk,p,none⟩ vs.toList).run P w= .ok () w':=by
        by_cases hn:n=0
        ·have h0:new.len=0:=by omega
         have:vs= #[]:=Array.eq_empty_of_size_eq_zero (by rw[Ai,h0];simp);subst this;simpa[storeCells]using hrun
        ·rw[hp hn];exact hrun
       refine⟨_,h.set i (l9 ob (mG te.size N q g wr new)),⟨.int .i64 new.len,w',ρ,?_,λ_ _=>rfl,Ren.le_refl _,by simp,hR',by simp only[bn],hk'⟩,hq⟩;simp only[Builtin.copy_,ht0,hu0,hu1,Sem.run_bind,jo,Result.andThen_ok,hlen,hsz,Sem.run_pure];rw[<-hmin,hvs];simp only[Result.andThen_ok,Sem.run_bind,hst,Sem.run_pure];rfl
     split at hq
     ·rename_i i q m n c
      simp only[bn]at hu;obtain⟨a,p,ha,rfl,hnc,hp⟩:=hu;exact key hq ha rfl (λhn=>hp (by omega))
     ·rename_i i q m n
      simp only[bn]at hu;obtain⟨a,p,c,ha,rfl,hnc,hp⟩:=hu;exact key hq ha rfl (λhn=>(hp (by omega)).1)
     ·exact hq.elim
   ·exact hq.elim
  ·exact hq.elim
 ·exact hq.elim
def adB(tt:TT)(t:TypeId)(d:AV)(h:Heap)(Q:AV->Heap->Prop):Prop:=
 match tt t with
 |some ti=>match ti.desc with
  | .slice e=>match tt e with
   |some te=>bif Nat.beq te.size 0|| !Nat.beq te.zero.length te.size|| !te.zero.all Value.oneCell' then False else(
    let lay (i q m n:Nat):Prop:=bif Nat.beq m te.size&&CV h i then rowOf h i m λN g wr=>q+n<=N/\Q (.tup []) (setRow h i (mG m N q g wr (.many n (λ_=>te.zero))))else False
    match d with
    | .slE i q m n _=>lay i q m n
    | .slW i q m n=>lay i q m n
    |_=>False)
   |none=>False
  |_=>False
 |none=>False
theorem wU(z:Array Value)(n k:Nat)(hk:k<n*z.size):(Builtin.zeroCells z n)[k]? =z[k%z.size]? :=by
 have hz:0<z.size:=Nat.pos_of_ne_zero λh0=>by rw[h0]at hk;simp at hk
 have hm:k%z.size<z.size:=Nat.mod_lt _ hz;unfold Builtin.zeroCells;rw[Array.getElem?_map,Array.getElem?_range,if_pos hk];simp[hm]
theorem adC{P:Program}{tt:TT}(hT:tt.ok P){h:Heap}{ρ:Ren}{T:Nat->Prop}{w:World}(hR:Rel h ρ T w){t ty:TypeId}{d:AV}{u:Value}{ts:Array TypeId}{us:Array Value}{Q:AV->Heap->Prop}
  (hq:adB tt t d h Q) (hu:bn ρ d u) (ht0:ts[0]? =some t) (hu0:us[0]? =some u):XQ P (Builtin.clear_ ts ty us) h ρ T w Q:=by
 unfold adB at hq;split at hq
 ·rename_i ti hti
  split at hq
  ·rename_i e hd
   split at hq
   ·rename_i te hte
    cases hb:(Nat.beq te.size 0|| !Nat.beq te.zero.length te.size|| !te.zero.all Value.oneCell')with
    |true=>rw[hb]at hq;exact hq.elim
    |false=>
     rw[hb]at hq;simp only[aQ]at hq;simp only[Bool.or_eq_false_iff,Bool.not_eq_false',List.all_eq_true]at hb;obtain⟨⟨hs0,hzl⟩,hz1⟩:=hb;have hm:0<te.size:=Nat.pos_of_ne_zero λh0=>by rw[h0]at hs0;cases hs0
     have hzl:=au hzl;have jo: ∀w,(underlying t).run P w= .ok (.slice e) w:=λw=>by
      obtain⟨d1,r1,_,m1⟩:=dD (P:=P) hT hti w;rw[dh (m1.trans hd)]at r1;exact r1
     obtain⟨z,hzr,hzc⟩:=iR (P:=P) hT hte w;have hzs:z.cells.size=te.size:=by rw[<-Array.length_toList,hzc,hzl]
     have key: ∀{i q m n c p:Nat} {a:Loc},(bif Nat.beq m te.size&&CV h i then rowOf h i m λN g wr=>q+n<=N/\Q (.tup []) (setRow h i (mG m N q g wr (.many n (λ_=>te.zero))))else False)->
       ρ i=some a->u= .slice (some ⟨a.blk,p,none⟩) n c->(n≠0->p=a.base+q*m)->XQ P (Builtin.clear_ ts ty us) h ρ T w Q:=by
      intro i q m n c p a hq ha hue hp;subst hue;cases hb:(Nat.beq m te.size&&CV h i)with
      |false=>rw[hb]at hq;exact hq.elim
      |true=>
       rw[hb]at hq;simp only[aP]at hq;simp only[aJ]at hb;have:=au hb.1;subst this;obtain⟨ob,N,g,wr,hi,hc,hle,hq⟩:=gK hq;have hrow:eF ob=true:=by simpa[CV,hi]using hb.2
       have hset:setRow h i (mG te.size N q g wr (.many n (λ_=>te.zero)))=h.set i (l9 ob (mG te.size N q g wr (.many n (λ_=>te.zero)))):=by simp[setRow,hi]
       rw[hset]at hq;have hzz:(Builtin.zeroCells z.cells n).size=n*te.size:=by simp[Builtin.zeroCells,hzs]
       have hget: ∀k,k<n*te.size->(Builtin.zeroCells z.cells n)[k]? =te.zero[k%te.size]? :=λk hk=>by
        rw[wU _ _ _ (by rw[hzs];exact hk),hzs,<-hzc,Array.getElem?_toList]
       obtain⟨w',hrun,hR',hk'⟩:=fD (P:=P) hR (k:=q) (cs:=(Builtin.zeroCells z.cells n).toList) (new:= .many n (λ_=>te.zero)) hm hi hrow hc ha (by simp only[dG.len];exact hle) (by simpa[dG.len]using hzz) (λu hu=>by
        obtain⟨k,hk⟩:=List.mem_iff_getElem?.1 hu;have hk':(Builtin.zeroCells z.cells n)[k]? =some u:=by simpa using hk
        have hlt:k<n*te.size:=by rw[<-hzz];exact(Array.getElem?_eq_some_iff.1 hk').1
        rw[hget k hlt]at hk';exact hz1 u (List.mem_of_getElem? hk')) (λk y hk=>by
        have hlt:=Cs.dQ hk;simp only[Cs.size,dG.len]at hlt;simp only[Cs.get,dG.len,bg.2 hlt,aP,Cs.eff,dG.el]at hk;have hmod:k%te.size<te.zero.length:=by rw[hzl];exact Nat.mod_lt _ hm
        rw[List.getElem?_eq_getElem hmod]at hk;cases hk;refine⟨te.zero[k%te.size],?_,by simp only[bn]⟩;rw[aA];simp only[List.getElem?_toArray,Array.toArray_toList]at*
        rw[hget k hlt,List.getElem?_eq_getElem hmod])
       refine⟨_,h.set i (l9 ob (mG te.size N q g wr (.many n (λ_=>te.zero)))),⟨.tuple #[],w',ρ,?_,λ_ _=>rfl,Ren.le_refl _,by simp,hR',by simp only[bn];exact⟨_,rfl,.nil⟩,hk'⟩,hq⟩;cases n with
       |zero=>
        have e0:(Builtin.zeroCells z.cells 0).toList=[]:=by simp[Builtin.zeroCells]
        rw[e0]at hrun;simp only[storeCells,Sem.run_pure,Result.ok.injEq,aU]at hrun;subst hrun;simp only[Builtin.clear_,ht0,hu0,Sem.run_bind,jo,Result.andThen_ok,Sem.run_pure]
       |succ n=>
        have hst:(storeCells ⟨a.blk,p,none⟩ (Builtin.zeroCells z.cells (n+1)).toList).run P w= .ok () w':=by rw[hp (by omega)];exact hrun
        simp only[Builtin.clear_,ht0,hu0,Sem.run_bind,jo,Result.andThen_ok,hzr,hst,Sem.run_pure]
     split at hq
     ·rename_i i q m n c
      simp only[bn]at hu;obtain⟨a,p,ha,rfl,hnc,hp⟩:=hu;exact key hq ha rfl (λhn=>hp (by omega))
     ·rename_i i q m n
      simp only[bn]at hu;obtain⟨a,p,c,ha,rfl,hnc,hp⟩:=hu;exact key hq ha rfl (λhn=>(hp (by omega)).1)
     ·exact hq.elim
   ·exact hq.elim
  ·exact hq.elim
 ·exact hq.elim
theorem Bd{P:Program}{w:World}{t xt ty e:TypeId}{ts:Array TypeId}{us:Array Value}{base:Option Addr}{sLen sCap size newCap:Nat}{z:Value}{i:TypeInfo}{k k':IntKind}{l:Int}{old:Array Value}
  (ht0:ts[0]? =some t) (ht1:ts[1]? =some xt) (hu0:us[0]? =some (.slice base sLen sCap)) (hu1:us[1]? =some (.int k l)) (jo: ∀w,(underlying t).run P w= .ok (.slice e) w)
  (hsz: ∀w,(sizeOf e).run P w= .ok size w) (hdx: ∀w,(underlying xt).run P w= .ok (.int k') w) (hi: ∀w,(typeInfo e).run P w= .ok i w) (hl0:0<=l) (hl1:l<2^62) (hlb:l*i.bytes<=2^48) (hs0:0<size) (hzz:z.cells.size=size)
  (hb:i.bytes≠0) (hz: ∀w,(zeroValue e).run P w= .ok z w) (hcap:sCap<sLen+l.toNat) (anG:sLen+l.toNat<2^62) (hnx:Builtin.nextslicecap (sLen+l.toNat) sCap*i.bytes<=2^48)
  (hch:(choose (.appendCap (sLen+l.toNat) sCap e)).run P w= .ok newCap w.drew) (hold:(Builtin.firstCells size sLen (.slice base sLen sCap)).run P w.drew= .ok old w.drew):
  (Builtin.append_ ts ty us).run P w= .ok (.slice (some ⟨w.heap.size,0,none⟩) (sLen+l.toNat) newCap) (w.drew.alloc (.cells (old++Builtin.zeroCells z.cells l.toNat++Builtin.zeroCells z.cells (newCap-(sLen+l.toNat))) e)):=by
 have hw:IntKind.i64.wrap l=l:=by
  have:=ai7 (a:=l.toNat) (by omega);rwa [Int.toNat_of_nonneg hl0]at this
 have hmax: ¬(((sLen+l.toNat:Nat):Int)>IntKind.i64.max):=by
  have:IntKind.i64.max=9223372036854775807:=by rfl
  omega
 simp only[Builtin.append_,ht0,ht1,hu0,hu1,Sem.run_bind,jo,Result.andThen_ok,hsz,hdx,asInt,asIntOf,Sem.run_pure,if_true,Sem.run_ite,hw,hi];rw[if_neg (by omega)]
 try simp only[Result.andThen_ok,Sem.run_pure,hi]
 rw[if_neg (by omega)]
 try simp only[Result.andThen_ok,Sem.run_pure]
 rw[if_neg (by omega)]
 try simp only[Result.andThen_ok,Sem.run_pure,Sem.run_bind,hi,Sem.run_ite]
 rw[if_neg (by rintro ⟨h,_⟩;exact hmax h),if_neg (by omega)];simp only[hch,Result.andThen_ok,run_askRoom,hold,Bool.not_true,Bool.false_eq_true,if_false];by_cases h0:l.toNat*size=0
 ·have hl:l.toNat=0:=by
   rcases Nat.mul_eq_zero.1 h0 with h|h
   ·exact h
   ·omega
  have e0:Builtin.zeroCells z.cells l.toNat= #[]:=by rw[hl];simp[Builtin.zeroCells]
  rw[e0];simp only[Sem.run_ite,if_pos h0,Sem.run_pure,Result.andThen_ok,hz,newRow,Sem.run_bind,run_newObj];rfl
 ·simp only[Sem.run_ite,if_neg h0,Sem.run_bind,Sem.run_pure,Result.andThen_ok,hz,newRow,run_newObj]
  rfl
def I4(tt:TT)(t:TypeId)(s x:AV)(h:Heap)(Q:AV->Heap->Prop):Prop:=
 match tt t with
 |some ti=>match ti.desc with
  | .slice e=>match tt e with
   |some te=>bif Nat.beq te.bytes 0|| !Nat.beq te.zero.length te.size||Nat.beq te.size 0 then False else(match s,x with
    | .slE i q m sn c,.lit (.int _ l)=>bif Nat.beq m te.size then(rowOf h i m λN g wr=>q+sn<=N/\0<=l/\c<sn+l.toNat/\(2*(sn+l.toNat)+1000)*te.bytes<=2^48/\
      Q (.slW h.next 0 te.size (sn+l.toNat)) (h.push (.room e (kL te.size sn (λk=>Cs.eff g wr (q+k)) [] (.many l.toNat (λ_=>te.zero))))))else False
    |_,_=>False)
   |none=>False
  |_=>False
 |none=>False
theorem Sr{P:Program}{tt:TT}(hT:tt.ok P){h:Heap}{ρ:Ren}{T:Nat->Prop}{w:World}(hR:Rel h ρ T w){t xt ty:TypeId}{s x:AV}{u v:Value}{ts:Array TypeId}{us:Array Value}{Q:AV->Heap->Prop}{tx:TI}
  (hq:I4 tt t s x h Q) (htx:tt xt=some tx) (hxi:Ah tx.desc=true) (hu:bn ρ s u) (hv:bn ρ x v) (ht0:ts[0]? =some t) (ht1:ts[1]? =some xt) (hu0:us[0]? =some u) (hu1:us[1]? =some v):XQ P (Builtin.append_ ts ty us) h ρ T w Q:=by
 unfold I4 at hq;split at hq
 ·rename_i ti hti
  split at hq
  ·rename_i e hd
   split at hq
   ·rename_i te hte
    cases hbz:(Nat.beq te.bytes 0|| !Nat.beq te.zero.length te.size||Nat.beq te.size 0)with
    |true=>rw[hbz]at hq;exact hq.elim
    |false=>
     rw[hbz]at hq;simp only[aQ]at hq;simp only[Bool.or_eq_false_iff,Bool.not_eq_false']at hbz;obtain⟨⟨hb0,hz⟩,hs0⟩:=hbz;have hb0:te.bytes≠0:=λh0=>by rw[h0]at hb0;cases hb0
     have hm:0<te.size:=Nat.pos_of_ne_zero λh0=>by rw[h0]at hs0;cases hs0
     have hz:te.zero.length=te.size:=au hz;have jo: ∀w,(underlying t).run P w= .ok (.slice e) w:=λw=>by
      obtain⟨d1,r1,_,m1⟩:=dD (P:=P) hT hti w;rw[dh (m1.trans hd)]at r1;exact r1
     obtain⟨k',hdx⟩: ∃k',∀w,(underlying xt).run P w= .ok (.int k') w:=by
      obtain⟨d1,_,p1,m1⟩:=dD (P:=P) hT htx w;rw[<-m1]at hxi;cases d1<;>try (exfalso;revert hxi;simp[vM,Ah];done)
      rename_i k1 _;exact⟨k1,λw=>by simp[underlying,p1]⟩
     have hsz:=λw=>run_sizeOf (P:=P) hT hte w
     split at hq
     ·rename_i i q m sn c k l
      cases hmb:Nat.beq m te.size with
      |false=>rw[hmb]at hq;exact hq.elim
      |true=>
       rw[hmb]at hq;simp only[aP]at hq;have:=au hmb;subst this;simp only[bn]at hu hv;subst hv;obtain⟨a,p,ha,rfl,hnc,hp⟩:=hu;obtain⟨ob,N,g,wr,hi,hc,hle,hl0,hcap,hlim,hq⟩:=gK hq;obtain⟨_,hold⟩:=lI (P:=P) (T:=T) (c:=c) hm hi hc ha hle (p:=p) (λh=>hp (by omega));obtain⟨os,hos,Nw,hoc⟩:=hold w.drew hR.drew;simp only[dG.len,dG.el]at hos Nw hoc;obtain⟨z,hzr0,hzc⟩:=iR (P:=P) hT hte w;have hzs:z.cells.size=te.size:=by rw[<-Array.length_toList,hzc,hz]
       have hzz:(Builtin.zeroCells z.cells l.toNat).size=l.toNat*te.size:=by simp[Builtin.zeroCells,hzs]
       have hnew:fB ρ (.row te.size (dG.many l.toNat (λ_=>te.zero)).len (dG.many l.toNat (λ_=>te.zero)).el []) (Builtin.zeroCells z.cells l.toNat) 0:=λk y hk=>by
        have hlt:=Cs.dQ hk;simp only[Cs.size,dG.len]at hlt;simp only[Cs.get,dG.len,bg.2 hlt,aP,Cs.eff,dG.el]at hk;have hmod:k%te.size<te.zero.length:=by rw[hz];exact Nat.mod_lt _ hm
        rw[List.getElem?_eq_getElem hmod]at hk;cases hk;refine⟨te.zero[k%te.size],?_,by simp only[bn]⟩;rw[aA,wU _ _ _ (by rw[hzs];exact hlt),hzs,<-Array.getElem?_toList,hzc,List.getElem?_eq_getElem hmod]
       obtain⟨ii,z',newCap,ρ',g1,g2,g3,g4,g5,g6,g7,g8,g9,g10,g11⟩:=iT (P:=P) hT hR hte hb0 hz (need:=sn+l.toNat) (sCap:=c) hcap hlim (us:=os) (vs:=Builtin.zeroCells z.cells l.toNat)
        (c:=kL te.size sn (λk=>Cs.eff g wr (q+k)) [] (.many l.toNat (λ_=>te.zero))) (by rw[Nw,hzz,Nat.add_mul]) (by rw[(jY hm).1];simp only[dG.len];rw[Nat.add_mul]) (λrest=>sW hm hoc hnew Nw (by simpa[dG.len]using hzz))
       have hzz':z'=z:=by
        have:=g3 w;rw[hzr0]at this;cases this;rfl
       subst hzz';have anG:sn+l.toNat<2^62:=by
        have:(sn+l.toNat)*1<=(2*(sn+l.toNat)+1000)*te.bytes:=Nat.mul_le_mul (by omega) (by omega);omega
       have hlb:l*ii.bytes<=2^48:=by
        rw[g2];have h1:l.toNat*te.bytes<=(2*(sn+l.toNat)+1000)*te.bytes:=Nat.mul_le_mul_right _ (by omega);have h2:((l.toNat*te.bytes:Nat):Int)<=((2^48:Nat):Int):=Int.ofNat_le.2 (Nat.le_trans h1 hlim);rw[Int.natCast_mul,Int.toNat_of_nonneg hl0]at h2;exact h2
       refine⟨_,_,⟨_,_,ρ',Bd ht0 ht1 hu0 hu1 jo hsz hdx g1 hl0 (by omega) hlb hm hzs (by omega) g3 hcap anG (by rw[g2];exact g4) g5 hos,g7,g8,by simp,g9,?_,g11⟩,hq⟩;simp only[bn]at g10 ⊢;obtain⟨a,c,q1,q2,q3,q4⟩:=g10;exact⟨a,_,c,q1,q2,q3,λ_=>⟨by simp,by omega⟩⟩
     ·exact hq.elim
   ·exact hq.elim
  ·exact hq.elim
 ·exact hq.elim
def vApp(tt:TT)(t xt:TypeId)(s x:AV)(h:Heap)(Q:AV->Heap->Prop):Prop:=match tt xt with
 |some tx=>bif Ah tx.desc then I4 tt t s x h Q else RU tt t xt s x h Q
 |none=>False
theorem anX{P:Program}{tt:TT}(hT:tt.ok P){h:Heap}{ρ:Ren}{T:Nat->Prop}{w:World}(hR:Rel h ρ T w){t xt ty:TypeId}{s x:AV}{u v:Value}{ts:Array TypeId}{us:Array Value}{Q:AV->Heap->Prop}
  (hq:vApp tt t xt s x h Q) (hu:bn ρ s u) (hv:bn ρ x v) (ht0:ts[0]? =some t) (ht1:ts[1]? =some xt) (hu0:us[0]? =some u) (hu1:us[1]? =some v):XQ P (Builtin.append_ ts ty us) h ρ T w Q:=by
 unfold vApp at hq;split at hq
 ·rename_i tx htx
  cases hx:Ah tx.desc with
  |true=>rw[hx]at hq;exact Sr hT hR hq htx hx hu hv ht0 ht1 hu0 hu1
  |false=>rw[hx]at hq;exact ZX hT hR hq hu hv ht0 ht1 hu0 hu1
 ·exact hq.elim
def anY(tt:TT)(t:TypeId)(lz:Bool)(l c:AV)(h:Heap)(Q:AV->Heap->Prop):Prop:=
 match tt t,l,c with
 |some ti,.lit (.int _ a),.lit (.int _ b)=>match ti.desc with
  | .slice e=>match tt e with
   |some te=>bif Nat.beq te.zero.length te.size then(0<=a/\a<=b/\(te.bytes:Int)*b<=2^48/\b<2^62)/\
     (bif lz then Q (.slW h.next 0 te.size 0) (h.push (.room e (.row te.size 0 (λ_=>[]) [])))else Q (.slE h.next 0 te.size a.toNat b.toNat) (h.push (.cells e (.row te.size b.toNat (λ_=>te.zero) []))))else False
   |none=>False
  |_=>False
 |_,_,_=>False
theorem ajj{P:Program}{tt:TT}(hT:tt.ok P){h:Heap}{ρ:Ren}{T:Nat->Prop}{w:World}(hR:Rel h ρ T w){t:TypeId}{lz:Bool}{l c:AV}{u v:Value}{Q:AV->Heap->Prop}
  (hq:anY tt t lz l c h Q) (hu:bn ρ l u) (hv:bn ρ c v) (hz:lz=true-> ∀k a,l= .lit (.int k a)->a=0):XQ P (Instr.makeSlice t u v) h ρ T w Q:=by
 unfold anY at hq;split at hq
 ·rename_i ti k a k' b hti
  simp only[bn]at hu hv;subst hu;subst hv;split at hq
  ·rename_i e hd
   split at hq
   ·rename_i te hte
    cases hzz:Nat.beq te.zero.length te.size with
    |false=>rw[hzz]at hq;exact hq.elim
    |true=>
     rw[hzz]at hq;simp only[aP]at hq;have hzz:=au hzz;obtain⟨hc,hq⟩:=hq;obtain⟨arr,hrun,FD,ai0⟩:=run_make (P:=P) hT (w:=w) hti hd hte (k:=k) (k':=k') hc hzz;cases lz with
     |true=>
      simp only[aP]at hq;have h0:=hz rfl _ _ rfl;subst h0;obtain⟨ρ',h1,h2,h3,h4,h5⟩:=hR.push_room (e:=e) (c:= .row te.size 0 (λ_=>[]) []) (arr:=arr) (by simp[Cs.size]) (by intro j y hj;have:=Cs.dQ hj;simp[Cs.size]at this);exact⟨_,_,⟨_,_,ρ',hrun,h3,h1,by simp,h4,by simp only[bn];exact⟨_,_,b.toNat,h2,rfl,by simp,λ_=>⟨by simp,by simp[FD]⟩⟩,h5⟩,hq⟩
     |false=>
      simp only[aQ]at hq
      obtain⟨ρ',h1,h2,h3,h4,h5⟩:=hR.jV (e:=e) (c:= .row te.size b.toNat (λ_=>te.zero) []) (arr:=arr) (by simp[Cs.size,FD]) (by
       intro j y hj;have hlt:=Cs.dQ hj;simp only[Cs.size]at hlt;simp only[Cs.get,bg.2 hlt,aP,Cs.eff]at hj;rw[aA,ai0 j hlt,hzz];cases hq:te.zero[j%te.size]? with
       |none=>
        rw[hq]at hj;cases hj;rw[List.getElem?_eq_none_iff,hzz]at hq;have:=Nat.mod_lt j (Nat.pos_of_ne_zero (λh0=>by rw[h0]at hlt;simp at hlt):0<te.size);omega
       |some q=>rw[hq]at hj;cases hj;exact⟨q,rfl,by simp only[bn]⟩)
      exact⟨_,_,⟨_,_,ρ',hrun,h3,h1,by simp,h4,by simp only[bn];exact⟨_,_,h2,rfl,by omega,λ_=>by simp⟩,h5⟩,hq⟩
   ·exact hq.elim
  ·exact hq.elim
 ·exact hq.elim
def wV:Nat->List Value->List Value->Bool
 |0,_,l=>l.isEmpty
 |n+1,z,l=>Z8 z (l.take z.length)&&wV n z (l.drop z.length)
where
 anZ:Value->Value->Bool
  | .bool a,.bool b=>a==b
  | .int k a,.int k' b=>decide (k=k')&&a==b
  | .slice none a b,.slice none c d=>Nat.beq a c&&Nat.beq b d
  | .pointer none,.pointer none=>true
  | .map none,.map none=>true
  | .string a,.string b=>a.data.isEmpty&&b.data.isEmpty
  |_,_=>false
 Z8:List Value->List Value->Bool
  |[],[]=>true
  |a::l,b::m=>anZ a b&&Z8 l m
  |_,_=>false
theorem ajk{a b:Value}(h:wV.anZ a b=true):a=b:=by
 unfold wV.anZ at h;split at h<;>simp at h
 ·rw[h]
 ·rw[h.1,h.2]
 ·rw[h.1,h.2]
 ·rfl
 ·rfl
 ·rename_i a b
  obtain⟨⟨a⟩⟩:=a;obtain⟨⟨b⟩⟩:=b;simp at h;rw[h.1,h.2]
theorem X4: ∀{l m:List Value},wV.Z8 l m=true->l=m
 |[],[],_=>rfl
 |[],_::_,h=>by simp[wV.Z8]at h
 |_::_,[],h=>by simp[wV.Z8]at h
 |a::l,b::m,h=>by
  simp only[wV.Z8,aJ]at h;rw[ajk h.1,X4 h.2]
theorem C9{z:List Value}(hz:0<z.length): ∀{n:Nat} {l:List Value},wV n z l=true->l.length=n*z.length/\ ∀k,k<l.length->l[k]? =z[k%z.length]?
 |0,l,h=>by
  have:l=[]:=by simpa[wV]using h
  subst this;simp
 |n+1,l,h=>by
  simp only[wV,aJ]at h;have h1:=X4 h.1;obtain⟨h2,h3⟩:=C9 hz h.2;have hl:z.length=(l.take z.length).length:=by rw[<-h1]
  have hle:z.length<=l.length:=by rw[List.length_take]at hl;omega
  rw[List.length_drop]at h2;refine⟨by rw[Nat.add_mul];omega,λk hk=> ?_⟩;by_cases hkz:k<z.length
  ·rw[Nat.mod_eq_of_lt hkz]
   have:(l.take z.length)[k]? =l[k]? :=by rw[List.getElem?_take,if_pos hkz]
   rw[<-this,<-h1]
  ·have:=h3 (k-z.length) (by rw[List.length_drop];omega)
   rw[List.getElem?_drop,show z.length+(k-z.length)=k by omega]at this;rw[this,<-Nat.mod_eq_sub_mod (by omega)]
def adD(tt:TT)(e:TypeId)(h:Heap)(Q:AV->Heap->Prop):Prop:=
 match tt e with
 |some ti=>match ti.desc with
  | .array n el=>match tt el with
   |some te=>bif Nat.blt 8 n&& !Nat.beq te.zero.length 0&&Nat.beq te.zero.length te.size&&wV n te.zero ti.zero then Q (.ptr h.next 0) (h.push (.cells e (.row te.size n (λ_=>te.zero) [])))else(match Gp tt e h with
    |some (v,h')=>Q v h'
    |none=>False)
   |none=>False
  |_=>match Gp tt e h with
   |some (v,h')=>Q v h'
   |none=>False
 |none=>False
theorem adE{P:Program}{tt:TT}(hT:tt.ok P){h:Heap}{ρ:Ren}{T:Nat->Prop}{w:World}(hR:Rel h ρ T w){e:TypeId}{Q:AV->Heap->Prop}(hq:adD tt e h Q):XQ P (Instr.alloc e true (.tuple #[])) h ρ T w Q:=by
 have old:(match Gp tt e h with|some (v,h')=>Q v h'|none=>False)->XQ P (Instr.alloc e true (.tuple #[])) h ρ T w Q:=λhq=>by
  split at hq
  ·rename_i v h' hv;exact⟨v,h',Nq hT hR hv,hq⟩
  ·exact hq.elim
 unfold adD at hq;split at hq
 ·rename_i ti hti
  split at hq
  ·rename_i n el hd
   split at hq
   ·rename_i te hte
    cases hb:(Nat.blt 8 n&& !Nat.beq te.zero.length 0&&Nat.beq te.zero.length te.size&&wV n te.zero ti.zero)with
    |false=>rw[hb]at hq;exact old hq
    |true=>
     rw[hb]at hq;simp only[aP]at hq;simp only[aJ,Bool.not_eq_true']at hb;obtain⟨⟨⟨_,h0⟩,hz⟩,hrep⟩:=hb;have h0:0<te.zero.length:=Nat.pos_of_ne_zero λhh=>by rw[hh]at h0;cases h0
     have hz:=au hz;obtain⟨r1,r2⟩:=C9 h0 hrep;obtain⟨z,hzr,hzc⟩:=iR (P:=P) hT hti w;have hsz:z.cells.size=n*te.size:=by rw[<-Array.length_toList,hzc,r1,hz]
     obtain⟨ρ',h1,h2,h3,h4,h5⟩:=hR.jV (e:=e) (c:= .row te.size n (λ_=>te.zero) []) (arr:=z.cells) (by simp[Cs.size,hsz]) (by
      intro j y hj;have hlt:=Cs.dQ hj;simp only[Cs.size]at hlt;simp only[Cs.get,bg.2 hlt,aP,Cs.eff]at hj;have:=r2 j (by rw[r1,hz];exact hlt);rw[hz]at this;rw[aA,<-Array.getElem?_toList,hzc,this];split at hj
      ·rename_i q hq;cases hj;exact⟨q,hq,by simp only[bn]⟩
      ·rename_i hq
       rw[List.getElem?_eq_none_iff,hz]at hq;have:=Nat.mod_lt j (by omega:0<te.size)
       omega)
     exact⟨_,_,⟨.pointer (some ⟨w.heap.size,0,none⟩),_,ρ',by simp[Instr.alloc,hzr,newVar,newRow],h3,h1,by simp,h4,by simp only[bn];exact⟨_,h2,rfl⟩,h5⟩,hq⟩
   ·exact hq.elim
  ·exact old hq
 ·exact hq.elim
def I5(tt:TT)(t:TypeId)(i p:Nat)(v:AV)(h:Heap)(Q:Heap->Prop):Prop:=
 match tt t,h.get i with
 |some ti,some ob=>match ob.eu with
  |some (.row m n g wr)=>bif Nat.beq m 1&&eF ob then(match v with
   | .arr n' f=>bif Nat.beq n' ti.size then(p+n'<=n/\(dG.many n' f).ones 1/\Q (h.set i (l9 ob (mG 1 n p g wr (.many n' f)))))else False
   | .lit u=>bif Nat.beq ti.size 1&&u.oneCell' then(p<n/\Q (h.set i (l9 ob (.row 1 n g ((p,[u])::wr)))))else False
   |_=>False)else False
  |_=>False
 |_,_=>False
theorem Sv{P:Program}{tt:TT}(hT:tt.ok P){h:Heap}{ρ:Ren}{T:Nat->Prop}{w:World}(hR:Rel h ρ T w){t:TypeId}{i p:Nat}{v:AV}{u x:Value}{Q:Heap->Prop}
  (hl:I5 tt t i p v h Q) (hu:bn ρ (.ptr i p) u) (hx:bn ρ v x): ∃w' h',(Instr.storeAt t u x).run P w= .ok () w'/\Rel h' ρ T w'/\h'.next=h.next/\Keeps T w w'/\Q h':=by
 unfold I5 at hl;split at hl
 ·rename_i ti ob hti hi
  split at hl
  ·rename_i m n g wr hc
   cases hb:(Nat.beq m 1&&eF ob)with
   |false=>rw[hb]at hl;exact hl.elim
   |true=>
    rw[hb]at hl;simp only[aP]at hl;simp only[aJ]at hb;have:=au hb.1;subst this;simp only[bn]at hu;obtain⟨a,ha,rfl⟩:=hu;have fin: ∀(new:dG) (cs:List Value),x.cells.toList=cs->cs.length=ti.size->p+new.len<=n->cs.length=new.len*1->(∀u∈cs,u.oneCell'=true)->fB ρ (.row 1 new.len new.el []) cs.toArray 0->
      Q (h.set i (l9 ob (mG 1 n p g wr new)))-> ∃w' h',(Instr.storeAt t (.pointer (some ⟨a.blk,a.base+p,none⟩)) x).run P w= .ok () w'/\Rel h' ρ T w'/\h'.next=h.next/\Keeps T w w'/\Q h':=by
     intro new cs hxc hsz hk hln h1 hcr hq;obtain⟨w',hrun,hR',hk'⟩:=fD (P:=P) hR (m:=1) (k:=p) (new:=new) (cs:=cs) (by omega) hi hb.2 hc ha hk hln h1 hcr;refine⟨w',_,?_,hR',by simp,hk',hq⟩;have hsz2:x.cells.size=ti.size:=by rw[<-Array.length_toList,hxc,hsz]
     simp only[Instr.storeAt,Instr.sureAddr,Sem.run_bind,Sem.run_pure,Result.andThen_ok,storeVar,run_sizeOf hT hti];rw[if_neg (by simpa using hsz2)];simp only[hxc];rw[Nat.mul_one]at hrun;exact hrun
    split at hl
    ·rename_i n' f
     cases hs:Nat.beq n' ti.size with
     |false=>rw[hs]at hl;exact hl.elim
     |true=>
      rw[hs]at hl;simp only[aP]at hl;have hs:=au hs;obtain⟨hle,yG,hq⟩:=hl;simp only[bn]at hx;obtain⟨A,rfl,hA,hg⟩:=hx;have hel: ∀k (_:k<n'),∃v,f k=[v]/\v.oneCell'=true/\A[k]? =some v:=λk hk=>by
       have:=yG k hk;simp only[aJ,List.all_eq_true]at this;have hl1:=au this.1;obtain⟨v,hv⟩:=List.length_eq_one_iff.1 hl1;exact⟨v,hv,this.2 v (by rw[hv];simp),hg k v hk (by rw[hv];rfl)⟩
      refine fin (.many n' f) A.toList rfl (by rw[Array.length_toList];omega) hle (by simp only[dG.len,Array.length_toList];omega) (λy hy=> ?_) (λk y hk=> ?_) hq
      ·obtain⟨k,hk,rfl⟩:=List.mem_iff_getElem.1 hy
       rw[Array.length_toList]at hk;obtain⟨v,_,h1,h2⟩:=hel k (by omega);rw[Array.getElem?_eq_getElem hk]at h2;cases h2;simpa using h1
      ·have hlt:=Cs.dQ hk
       simp only[Cs.size,dG.len,Nat.mul_one]at hlt;obtain⟨v,h1,_,h2⟩:=hel k hlt;simp only[Cs.get,dG.len,dG.el,bg.2 (show k<n'*1 by omega),aP,Cs.eff,Nat.div_one,Nat.mod_one,h1,ah]at hk;cases hk;exact⟨v,by rw[aA];simpa using h2,by simp only[bn]⟩
    ·rename_i u
     cases hs:(Nat.beq ti.size 1&&u.oneCell')with
     |false=>rw[hs]at hl;exact hl.elim
     |true=>
      rw[hs]at hl;simp only[aP]at hl;simp only[aJ]at hs;have hs1:=au hs.1;obtain⟨hle,hq⟩:=hl;simp only[bn]at hx;subst hx;have hone:x.cells= #[x]:=by cases x<;>first|rfl|(simp[Value.oneCell']at hs)
      refine fin (.few [[x]]) [x] (by rw[hone]) (by simp[hs1]) (by simp only[dG.len,List.length_cons,List.length_nil];omega) (by simp[dG.len]) (by simpa using hs.2) (λk y hk=> ?_) hq;have hlt:=Cs.dQ hk;simp only[Cs.size,dG.len,List.length_cons,List.length_nil,Nat.mul_one]at hlt;have h0:k=0:=by simpa using hlt
      subst h0;have:(Cs.row 1 (dG.few [[x]]).len (dG.few [[x]]).el []).get 0=some (.lit x):=rfl;rw[this]at hk;cases hk;exact⟨x,by simp,by simp only[bn]⟩
    ·exact hl.elim
  ·exact hl.elim
 ·exact hl.elim
def NS(cs:List AV):Option (Nat×(Nat->List Value)):=match nG cs with
 |some (v::r)=>bif Nat.blt 8 (r.length+1)&&wV r.length [v] r then some (r.length+1,λ_=>[v])else none
 |_=>none
theorem NT{cs:List AV}{n:Nat}{g:Nat->List Value}(h:NS cs=some (n,g)):cs.length=n/\ ∀k,k<n-> ∃v,g k=[v]/\cs[k]? =some (.lit v):=by
 unfold NS at h;split at h
 ·rename_i v r hl
  cases hb:(Nat.blt 8 (r.length+1)&&wV r.length [v] r)with
  |false=>rw[hb]at h;cases h
  |true=>
   rw[hb]at h;cases h;simp only[aJ]at hb;have:=fH hl;subst this;refine⟨by simp,λk hk=>⟨v,rfl,?_⟩⟩;obtain⟨h1,h2⟩:=C9 (by simp) hb.2;cases k with
   |zero=>simp
   |succ k=>
    have:=h2 k (by omega);simp only[List.length_cons,List.length_nil,aA,Nat.mod_one,ah]at this;simp[this]
 ·cases h
theorem Z9{ρ:Ren}{cs:List AV}{n:Nat}{g:Nat->List Value}{x:Value}(h:NS cs=some (n,g))(hx:bn ρ (.agg cs) x):bn ρ (.arr n g) x:=by
 obtain⟨h1,h2⟩:=NT h;simp only[bn]at hx ⊢;obtain⟨vs,rfl,hlr⟩:=hx;refine⟨vs,rfl,by rw[<-Array.length_toList,<-hlr.length,h1],λk u hk hu=> ?_⟩;obtain⟨v,g1,g2⟩:=h2 k hk;rw[g1]at hu;simp at hu;subst hu;obtain⟨y,hy,hr⟩:=hlr.get k _ g2;simp only[bn]at hr;subst hr;simpa using hy
def rowAt(h:Heap)(i o n:Nat):Bool:=match h.get i with
 |some ob=>match ob.eu with
  |some c=>match jD c o with
   |some (o',m,N,_,_)=>Nat.beq o o'&&Nat.beq m 1&&Nat.beq n N
   |none=>false
  |none=>false
 |none=>false
def Sz(tt:TT)(t:TypeId)(i o:Nat)(v:AV)(h:Heap)(Q:Heap->Prop):Prop:=match v with
 | .agg cs=>match NS cs with
  |some (n,g)=>bif rowAt h i o n then wR tt t (.ptr i o) (.arr n g) h Q else wR tt t (.ptr i o) (.agg cs) h Q
  |none=>wR tt t (.ptr i o) (.agg cs) h Q
 |v=>wR tt t (.ptr i o) v h Q
theorem aac{P:Program}{tt:TT}(hT:tt.ok P){h:Heap}{ρ:Ren}{T:Nat->Prop}{w:World}(hR:Rel h ρ T w){t:TypeId}{i o:Nat}{v:AV}{u x:Value}{Q:Heap->Prop}
  (hl:Sz tt t i o v h Q) (hu:bn ρ (.ptr i o) u) (hx:bn ρ v x): ∃w' h',(Instr.storeAt t u x).run P w= .ok () w'/\Rel h' ρ T w'/\h'.next=h.next/\Keeps T w w'/\Q h':=by
 unfold Sz at hl;split at hl
 ·split at hl
  ·rename_i n g hg
   cases hb:rowAt h i o n with
   |true=>rw[hb]at hl;simp only[aP]at hl;exact mD hT hR hl hu (Z9 hg hx)
   |false=>rw[hb]at hl;simp only[aQ]at hl;exact mD hT hR hl hu hx
  ·exact mD hT hR hl hu hx
 ·exact mD hT hR hl hu hx
def X6(l:List AV):Cs->Cs
 | .av r=> .av (l++r)
 | .cat (.av a) b=> .cat (.av (l++a)) b
 |c=> .cat (.av l) c
def SA(tt:TT):List (Nat×TypeId×Bool)->List AV->Cs
 |[],cs=> .av cs
 |(_,ft,_)::fs,cs=>match tt ft with
  |some tf=>match NS (cs.take tf.size),tf.desc with
   |some (n,g),.array _ _=> .cat (.row 1 n g []) (SA tt fs (cs.drop tf.size))
   |_,_=>X6 (cs.take tf.size) (SA tt fs (cs.drop tf.size))
  |none=> .av cs
theorem adF{a b:Cs}{la lb:List AV}(ha:a.size=la.length/\ ∀k v,a.get k=some v->la[k]? =some v)(hb:b.size=lb.length/\ ∀k v,b.get k=some v->lb[k]? =some v):
  (Cs.cat a b).size=(la++lb).length/\ ∀k v,(Cs.cat a b).get k=some v->(la++lb)[k]? =some v:=by
 refine⟨by simp only[Cs.size,List.length_append,ha.1,hb.1],λk v h=> ?_⟩;simp only[Cs.get]at h;cases hk:Nat.blt k a.size with
 |true=>
  rw[hk]at h;rw[List.getElem?_append_left (by have:=bg.1 hk;omega)];exact ha.2 k v h
 |false=>
  have: ¬k<a.size:=λhh=>by rw[bg.2 hh]at hk;cases hk
  rw[hk]at h;rw[List.getElem?_append_right (by omega),<-ha.1];exact hb.2 _ v h
theorem adG(l:List AV):(Cs.av l).size=l.length/\ ∀k v,(Cs.av l).get k=some v->l[k]? =some v:=⟨rfl,λ_ _ h=>h⟩
theorem aad{l r:List AV}{c:Cs}(hc:c.size=r.length/\ ∀k v,c.get k=some v->r[k]? =some v):(X6 l c).size=(l++r).length/\ ∀k v,(X6 l c).get k=some v->(l++r)[k]? =some v:=by
 unfold X6;split
 ·rename_i r'
  refine⟨by have:=hc.1;simp only[Cs.size,List.length_append]at this ⊢;omega,λk v h=> ?_⟩;simp only[Cs.get]at h;rcases Nat.lt_or_ge k l.length with hk|hk
  ·rw[List.getElem?_append_left hk]at h ⊢;exact h
  ·rw[List.getElem?_append_right hk]at h ⊢;exact hc.2 _ v h
 ·rename_i a b
  refine⟨by have:=hc.1;simp only[Cs.size,List.length_append]at this ⊢;omega,λk v h=> ?_⟩;simp only[Cs.get,Cs.size,List.length_append]at h;rcases Nat.lt_or_ge k l.length with hk|hk
  ·rw[bg.2 (show k<l.length+a.length by omega),aP]at h
   rw[List.getElem?_append_left hk]at h ⊢;exact h
  ·rw[List.getElem?_append_right hk]
   refine hc.2 _ v ?_;simp only[Cs.get,Cs.size];cases hb:Nat.blt k (l.length+a.length)with
   |true=>
    have:=bg.1 hb;rw[hb,aP,List.getElem?_append_right hk]at h;rw[bg.2 (show k-l.length<a.length by omega)];exact h
   |false=>
    have: ¬k<l.length+a.length:=λhh=>by rw[bg.2 hh]at hb;cases hb
    have hb2:Nat.blt (k-l.length) a.length=false:=by
     cases hh:Nat.blt (k-l.length) a.length
     ·rfl
     ·have:=bg.1 hh;omega
    rw[hb,aQ]at h;rw[hb2,aQ,show k-l.length-a.length=k-(l.length+a.length) by omega];exact h
 ·exact adF (adG l) hc
theorem NU{tt:TT}: ∀(fs:List (Nat×TypeId×Bool)) (cs:List AV),(SA tt fs cs).size=cs.length/\ ∀k v,(SA tt fs cs).get k=some v->cs[k]? =some v
 |[],cs=>adG cs
 |(_,ft,_)::fs,cs=>by
  unfold SA;split
  ·rename_i tf htf
   have ih:=NU (tt:=tt) fs (cs.drop tf.size);split
   ·rename_i n g _ _ hg _
    have:=adF (a:= .row 1 n g []) (la:=cs.take tf.size) (by
     obtain⟨h1,h2⟩:=NT hg;refine⟨by simp only[Cs.size,Nat.mul_one,h1],λk v h=> ?_⟩;have hlt:=Cs.dQ h;simp only[Cs.size]at hlt;obtain⟨u,g1,g2⟩:=h2 k (by omega);simp only[Cs.get,bg.2 hlt,aP,Cs.eff,Nat.div_one,Nat.mod_one,g1,ah]at h
     cases h;exact g2) ih
    rw[List.take_append_drop]at this;exact this
   ·have:=aad (l:=cs.take tf.size) ih
    rw[List.take_append_drop]at this;exact this
  ·exact adG cs
def amw(tt:TT)(fs:List (Nat×TypeId×Bool)):Bool:=fs.any λf=>match tt f.2.1 with
 |some tf=>match tf.desc with
  | .array n e=>Nat.blt 8 n&&(match tt e with|some te=>Nat.beq te.size 1|none=>false)
  |_=>false
 |none=>false
def vBox(tt:TT)(e:TypeId)(v:AV)(h:Heap)(Q:AV->Heap->Prop):Prop:=
 let old:Prop:=match aqs e v h with
  |some (r,h')=>Q r h'
  |none=>False
 match v,tt e with
 | .agg cs,some ti=>match ti.desc with
  | .struct fs _=>bif amw tt fs then Q (.ptr h.next 0) (h.push (.cells e (SA tt fs cs)))else old
  |_=>old
 |_,_=>old
theorem an0{P:Program}{tt:TT}{h:Heap}{ρ:Ren}{T:Nat->Prop}{w:World}(hR:Rel h ρ T w){e:TypeId}{v:AV}{u:Value}{Q:AV->Heap->Prop}(hq:vBox tt e v h Q)(hu:bn ρ v u):XQ P (Instr.box e u) h ρ T w Q:=by
 have old:(match aqs e v h with|some (r,h')=>Q r h'|none=>False)->XQ P (Instr.box e u) h ρ T w Q:=λhq=>by
  split at hq
  ·rename_i r h' hb;exact⟨r,h',acO hR hb hu,hq⟩
  ·exact hq.elim
 unfold vBox at hq;simp only at hq;split at hq
 ·rename_i cs ti hti
  split at hq
  ·rename_i fs bb hd
   cases hg:amw tt fs with
   |false=>rw[hg]at hq;exact old hq
   |true=>
    rw[hg]at hq;simp only[bn]at hu;obtain⟨vs,rfl,hlr⟩:=hu;obtain⟨p1,p2⟩:=NU (tt:=tt) fs cs
    obtain⟨ρ',h1,h2,h3,h4,h5⟩:=hR.jV (e:=e) (c:=SA tt fs cs) (arr:=vs) (by rw[p1,<-Array.length_toList,<-hlr.length]) (by
     intro k y hk;obtain⟨z,hz,hr⟩:=hlr.get k y (p2 k y hk)
     exact⟨z,by rw[aA];simpa using hz,hr⟩)
    exact⟨_,_,⟨.pointer (some ⟨w.heap.size,0,none⟩),_,ρ',by simp[Instr.box,newVar,newRow,Value.cells],h3,h1,by simp,h4,by simp only[bn];exact⟨_,h2,rfl⟩,h5⟩,hq⟩
  ·exact old hq
 ·exact old hq
def Dc(tt:TT)(t:TypeId)(a v:AV)(h:Heap)(Q:Heap->Prop):Prop:=
 match a with
 | .ni i k m j=>bif Nat.beq (FN h i) 1&& !Nat.beq m 1 then I5 tt t i (k*m+j) v h Q else match tt t,h.get i,iL v with
  |some ti,some ob,some cs=>match ob.eu,nG cs with
   |some (.row m' n g wr),some vs=>bif Nat.beq j 0&&Nat.beq m m'&&eF ob&&Nat.beq vs.length ti.size&&Nat.beq vs.length m&&vs.all Value.oneCell'&& !Nat.beq m 0 then(k<n/\Q (h.set i (l9 ob (.row m n g ((k,vs)::wr)))))else wR tt t (.ni i k m j) v h Q
   |some _,some _=>wR tt t (.ni i k m j) v h Q
   |_,_=>False
  |_,_,_=>False
 | .ptr i o=>Sz tt t i o v h Q
 |a=>wR tt t a v h Q
theorem yH{P:Program}{tt:TT}(hT:tt.ok P){h:Heap}{ρ:Ren}{T:Nat->Prop}{w:World}(hR:Rel h ρ T w){t:TypeId}{a v:AV}{u x:Value}{Q:Heap->Prop}
  (hl:Dc tt t a v h Q) (hu:bn ρ a u) (hx:bn ρ v x): ∃w' h',(Instr.storeAt t u x).run P w= .ok () w'/\Rel h' ρ T w'/\h'.next=h.next/\Keeps T w w'/\Q h':=by
 unfold Dc at hl;split at hl
 ·rename_i i k m j
  cases hfl:(Nat.beq (FN h i) 1&& !Nat.beq m 1)with
  |true=>rw[hfl]at hl;exact Sv hT hR hl (by simpa only[bn]using hu) hx
  |false=>
  rw[hfl]at hl;simp only[aQ]at hl;split at hl
  ·rename_i ti ob cs hti hi hcs
   split at hl
   ·rename_i m' n g wr vs hc hvs
    cases hb:(Nat.beq j 0&&Nat.beq m m'&&eF ob&&Nat.beq vs.length ti.size&&Nat.beq vs.length m&&vs.all Value.oneCell'&& !Nat.beq m 0)with
    |false=>rw[hb]at hl;simp only[aQ]at hl;exact mD hT hR hl hu hx
    |true=>
     rw[hb]at hl;simp only[aP]at hl;simp only[aJ,List.all_eq_true,Bool.not_eq_true']at hb;obtain⟨⟨⟨⟨⟨⟨hj,hm⟩,hrow⟩,hsz⟩,hvm⟩,h1⟩,hm0⟩:=hb;have:=au hm;subst this;have:=au hj;subst this;have hsz:=au hsz;have hvm:=au hvm;have hm0:0<m:=Nat.pos_of_ne_zero λh0=>by rw[h0]at hm0;cases hm0
     obtain⟨hk,hl⟩:=hl;simp only[bn]at hu;obtain⟨a,ha,rfl⟩:=hu;have hlr:=lV hcs hx;have hcl:=fH hvs;subst hcl;have hxv:x.cells.toList=vs:=by
      have: ∀(l:List Value) (r:List Value),dP ρ (l.map .lit) r->r=l:=by
       intro l
       induction l with
       |nil=>intro r hr;simpa[dP]using hr
       |cons y l ih=>intro r hr;simp only[List.map_cons,dP,bn]at hr;obtain⟨z,zs,rfl,rfl,hr⟩:=hr;rw[ih zs hr]
      exact this _ _ hlr
     obtain⟨w',hrun,hR',hk'⟩:=fD (P:=P) hR (k:=k) (new:= .few [vs]) (cs:=vs) hm0 hi hrow hc ha (by simp only[dG.len,List.length_cons,List.length_nil];omega) (by simp[dG.len,hvm]) h1 (λq y hq=>by
      have hlt:=Cs.dQ hq;simp only[Cs.size,dG.len,List.length_cons,List.length_nil,aA,Nat.one_mul]at hlt;have hq2:q<(dG.few [vs]).len*m:=by simp only[dG.len,List.length_cons,List.length_nil];omega
      simp only[Cs.get,bg.2 hq2,aP,Cs.eff,dG.el,Nat.div_eq_of_lt hlt,Nat.mod_eq_of_lt hlt,List.getD_cons_zero]at hq;rw[List.getElem?_eq_getElem (by omega)]at hq;simp only[ak]at hq;subst hq
      exact⟨vs[q],by rw[aA];simp[List.getElem?_eq_getElem (show q<vs.length by omega)],by simp only[bn]⟩)
     refine⟨w',_,?_,hR',by simp,hk',hl⟩;have hsz2:x.cells.size=ti.size:=by rw[<-Array.length_toList,hxv,hsz]
     simp only[Instr.storeAt,Instr.sureAddr,Sem.run_bind,Sem.run_pure,Result.andThen_ok,storeVar,run_sizeOf hT hti];rw[if_neg (by simpa using hsz2)];simp only[hxv];exact hrun
   ·exact mD hT hR hl hu hx
   ·exact hl.elim
  ·exact hl.elim
 ·exact aac hT hR hl hu hx
 ·exact mD hT hR hl hu hx
def SB(tt:TT)(t:TypeId)(a v:AV)(h:Heap)(Q:Heap->Prop):Prop:=
 match a with
 | .ni i k m j=>match h.get i with
  |some (.iF _ e (.row m' n g wr))=>bif Nat.beq m' 0 then False else(k<n/\Dc tt t (.ni i k m j) v (h.set i (.room e (.row m' n g wr))) Q)
  |_=>Dc tt t (.ni i k m j) v h Q
 |a=>Dc tt t a v h Q
theorem aae{P:Program}{tt:TT}(hT:tt.ok P){h:Heap}{ρ:Ren}{T:Nat->Prop}{w:World}(hR:Rel h ρ T w){t:TypeId}{a v:AV}{u x:Value}{Q:Heap->Prop}
  (hl:SB tt t a v h Q) (hu:bn ρ a u) (hx:bn ρ v x): ∃w' h',(Instr.storeAt t u x).run P w= .ok () w'/\Rel h' ρ T w'/\h'.next=h.next/\Keeps T w w'/\Q h':=by
 unfold SB at hl;split at hl
 ·rename_i i k m j
  split at hl
  ·rename_i z e m' n g wr hi
   cases hm:Nat.beq m' 0 with
   |true=>rw[hm]at hl;exact hl.elim
   |false=>
    rw[hm]at hl;obtain⟨hk,hl⟩:=hl;have hm0:m'≠0:=λe0=>by rw[e0]at hm;cases hm
    have hR2:=hR.swap (o':= .room e (.row m' n g wr)) hi λa S ho=>by
     rcases ho with ⟨_,hs⟩|⟨_,ho⟩
     ·have hs:n*m'=0:=hs
      rcases Nat.mul_eq_zero.1 hs with h0|h0
      ·omega
      ·exact absurd h0 hm0
     ·exact ho
    obtain⟨w',h',g1,g2,g3,g4,g5⟩:=yH (P:=P) hT hR2 hl hu hx;exact⟨w',h',g1,g2,g3.trans (by simp),g4,g5⟩
  ·exact yH hT hR hl hu hx
 ·exact yH hT hR hl hu hx
def rowed:AV->Heap->Option (AV×Heap)
 | .sl i o n c,h=>match h.get i with
  |some (.cells e (.av l))=>match nG l with
   |some vs=>bif Nat.beq o 0&&Nat.blt 8 n&&Nat.beq vs.length n&&Nat.ble n c then some (.slE i 0 1 n c,h.set i (.cells e (.row 1 n (λk=>[vs.getD k default]) [])))else none
   |none=>none
  |_=>none
 |_,_=>none
theorem ajl{v v':AV}{h h':Heap}{ρ:Ren}{T:Nat->Prop}{w:World}{u:Value}(hr:rowed v h=some (v',h'))(hR:Rel h ρ T w)(hv:bn ρ v u):Rel h' ρ T w/\bn ρ v' u/\h'.next=h.next:=by
 unfold rowed at hr;split at hr
 ·rename_i i o n c
  split at hr
  ·rename_i e l hi
   split at hr
   ·rename_i vs hvs
    cases hb:(Nat.beq o 0&&Nat.blt 8 n&&Nat.beq vs.length n&&Nat.ble n c)with
    |false=>rw[hb]at hr;cases hr
    |true=>
     rw[hb]at hr;cases hr;simp only[aJ,Nat.ble_eq]at hb;obtain⟨⟨⟨b1,_⟩,b2⟩,b3⟩:=hb;have:=au b1;subst this;have b2:=au b2;have:=fH hvs;subst this;simp only[bn]at hv;obtain⟨a,ha,rfl⟩:=hv;have hl:(Cs.row 1 n (λk=>[vs.getD k default]) []).size=(Cs.av (vs.map .lit)).size:=by simp[Cs.size,b2]
     refine⟨hR.upd hi ha rfl (λ_ _=>rfl) (λS hh=>hh.2.1) λS hS hh=> ?_,by simp only[bn];exact⟨a,_,ha,rfl,b3,λ_=>by simp⟩,by simp⟩;obtain⟨h0,_,arr,h1,h2,h3,h4⟩:=hh;refine⟨h0,hS,arr,h1,by rw[hl];exact h2,by rw[hl];exact h3,λk y hk=> ?_⟩;have hlt:=Cs.dQ hk;simp only[Cs.size]at hlt;simp only[Cs.get,bg.2 hlt,aP,Cs.eff,Nat.div_one,Nat.mod_one,ah]at hk;cases hk;have hk2:k<vs.length:=by omega
     obtain⟨z,hz,hr⟩:=h4 k (.lit vs[k]) (by simp[Cs.get,hk2]);refine⟨z,hz,?_⟩;rw[List.getD_eq_getElem?_getD,List.getElem?_eq_getElem hk2];exact hr
   ·cases hr
  ·cases hr
 ·cases hr
def adH(tt:TT)(t:TypeId)(n:Nat)(ps:List (Nat×AV))(h:Heap)(Q:AV->Heap->Prop):Prop:=match pz tt t n ps h with
 |some (v,h')=>match rowed v h' with
  |some (v2,h2)=>Q v2 h2
  |none=>Q v h'
 |none=>False
def byteOf:List Value->UInt8
 |[.int _ z]=>UInt8.ofNat z.toNat
 |_=>0
def isByte:List Value->Bool
 |[.int .u8 z]=>decide (0<=z)&&decide (z<256)
 |_=>false
def mkStr(n:Nat)(f:Nat->UInt8):ByteArray:=⟨((List.range n).map f).toArray⟩
def an1(tt:TT)(s d:TypeId)(x:AV)(h:Heap)(Q:AV->Prop):Prop:=
 match tt s,tt d with
 |some ts,some td=>match ts.desc,td.desc with
  | .slice e,.string=>match tt e with
   |some te=>match te.desc with
    | .int .u8=>
     let go (i q m n:Nat):Prop:=bif Nat.beq m 1 then rowOf h i 1 λN g wr=>q+n<=N/\(∀k,k<n->isByte (Cs.eff g wr (q+k))=true)/\Q (.lit (.string (mkStr n (λk=>byteOf (Cs.eff g wr (q+k))))))else False
     match x with
     | .slE i q m n _=>go i q m n
     | .slW i q m n=>go i q m n
     |_=>False
    |_=>False
   |none=>False
  |_,_=>False
 |_,_=>False
theorem ajm{P:Program}{tt:TT}(hT:tt.ok P){h:Heap}{ρ:Ren}{T:Nat->Prop}{w:World}(hR:Rel h ρ T w){s d:TypeId}{x:AV}{u:Value}{Q:AV->Prop}(hq:an1 tt s d x h Q)(hu:bn ρ x u): ∃v,ROk P (convert s d u) ρ w v/\Q v:=by
 unfold an1 at hq;split at hq
 ·rename_i ts td hts htd
  split at hq
  ·rename_i e hd1 hd2
   split at hq
   ·rename_i te hte
    split at hq
    ·rename_i hd3
     obtain⟨i1,d1,z1,_,u1,_,_,_,_,m1⟩:=hT.info hts;obtain⟨i2,d2,z2,_,u2,_,_,_,_,m2⟩:=hT.info htd;obtain⟨i3,d3,z3,_,u3,_,_,_,_,m3⟩:=hT.info hte;rw[dh (m1.trans hd1)]at u1;rw[fG (m2.trans hd2)]at u2;have e3:d3= .int .u8:=by have:=m3.trans hd3;cases d3<;>simp[vM]at this;rw[this]
     rw[e3]at u3;have main: ∀(i q m n c p:Nat) (a:Loc),ρ i=some a->u= .slice (some ⟨a.blk,p,none⟩) n c->(n≠0->p=a.base+q*m)->
       (bif Nat.beq m 1 then rowOf h i 1 λN g wr=>q+n<=N/\(∀k,k<n->isByte (Cs.eff g wr (q+k))=true)/\Q (.lit (.string (mkStr n (λk=>byteOf (Cs.eff g wr (q+k))))))else False)-> ∃v,ROk P (convert s d u) ρ w v/\Q v:=by
      rintro i q m n c p a ha rfl hp hq
      cases hm:Nat.beq m 1 with
      |false=>rw[hm]at hq;exact hq.elim
      |true=>
       rw[hm]at hq;simp only[aP]at hq;have:=au hm;subst this;obtain⟨ob,N,g,wr,hi,hc,hle,hby,hq⟩:=gK hq;refine⟨_,⟨.string (mkStr n (λk=>byteOf (Cs.eff g wr (q+k)))),?_,by simp only[bn]⟩,hq⟩;have hlen:((List.range n).map (λk=>byteOf (Cs.eff g wr (q+k)))).length=n:=by simp
       have:=run_convert_bytes_back (P:=P) w s d e ⟨a.blk,p,none⟩ c ((List.range n).map (λk=>byteOf (Cs.eff g wr (q+k)))) u1 u3 u2 (λj hj=>by
        have hjn:j<n:=by simpa using hj
        have hb:=hby j hjn;simp only[List.getElem_map,List.getElem_range];obtain⟨z,hz,h0,h1⟩: ∃z,Cs.eff g wr (q+j)=[.int .u8 z]/\0<=z/\z<256:=by
         unfold isByte at hb;split at hb
         ·rename_i z hz
          simp only[aJ,decide_eq_true_eq]at hb;exact⟨z,hz,hb⟩
         ·cases hb
        have hcell:cellAt h i (q+j)=some (.lit (.int .u8 z)):=by
         simp only[cellAt,hi,hc];have:=CQ (m:=1) (g:=g) (wr:=wr) (n:=N) (k:=q+j) (j:=0) (v:= .int .u8 z) (by omega) (by omega) (by rw[hz];rfl);simpa using this
        obtain⟨b,hb2,y,hy,hr⟩:=hR.cell hcell;obtain rfl:b=a:=Option.some.inj (hb2.symm.trans ha);simp only[bn]at hr;subst hr;have hbz:((byteOf (Cs.eff g wr (q+j))).toNat:Int)=z:=by
         rw[hz];simp only[byteOf,UInt8.toNat_ofNat'];omega
        rw[hbz];have hpe:=hp (by omega);unfold Addr.add;split
        ·rename_i hj0;subst hj0;rw[hpe];simpa using hy
        ·rw[hpe];simpa[Nat.add_assoc]using hy)
       rw[hlen]at this;exact this
     simp only at hq;split at hq
     ·rename_i i q m n c
      simp only[bn]at hu;obtain⟨a,p,ha,hue,hnc,hp⟩:=hu;exact main i q m n c p a ha hue (λhn=>hp (by omega)) hq
     ·rename_i i q m n
      simp only[bn]at hu;obtain⟨a,p,c,ha,hue,hnc,hp⟩:=hu;exact main i q m n c p a ha hue (λhn=>(hp (by omega)).1) hq
     ·exact hq.elim
    ·exact hq.elim
   ·exact hq.elim
  ·exact hq.elim
 ·exact hq.elim
def isText(tt:TT)(s d:TypeId):Bool:=match tt s,tt d with
 |some ts,some td=>match ts.desc,td.desc with
  | .slice _,.string=>true
  |_,_=>false
 |_,_=>false
def vX(tt:TT)(op:Op)(ev:Operand->AV)(h:Heap)(Q:AV->Heap->Prop):Prop:=
 match op with
 | .load t x=>RQ tt t (ev x) h λv=>Q v h
 | .store t a x=>SB tt t (ev a) (ev x) h λh'=>Q (.lit undef) h'
 | .alloc e=>adD tt e h Q
 | .box e x=>vBox tt e (ev x) h Q
 | .convert s d x=>bif isText tt s d then an1 tt s d (ev x) h (λv=>Q v h)else vN tt (.convert s d x) ev h (λv=>Q v h)
 | .buildSlice t n ps=>adH tt t n (ps.toList.map λp=>(p.1,ev p.2)) h Q
 | .makeSlice t l c=>anY tt t false (ev l) (ev c) h Q
 | .makeMap t r=>BI tt t r.isSome h Q
 | .insert t m k x=>IY tt t (ev m) (ev k) (ev x) h λh'=>Q (.lit undef) h'
 | .mapUpdate t m k x=>IY tt t (ev m) (ev k) (ev x) h λh'=>Q (.lit undef) h'
 | .lookup t m k ok=>Si tt t (ev m) (ev k) ok h λv=>Q v h
 | .range t x=>match adt tt t (ev x) h with
  |some (v,h')=>Q v h'
  |none=>False
 | .next it isString=>bif isString then False else(bif ajh (ev it) h then ady (ev it) h Q else(match anU (ev it) h with
  |some (v,h')=>Q v h'
  |none=>False))
 | .entry it=>bif ajh (ev it) h then Sm (ev it) h Q else(match adu (ev it) h with
  |some (v,h')=>Q v h'
  |none=>False)
 | .call c=>match c.callee with
  | .builtin .append=>match c.argTypes.toList,c.args.toList.map ev with
   |t::t'::_,x::y::_=>vApp tt t t' (nrmA x) (nrm y) h Q
   |_,_=>False
  | .builtin .delete=>match c.argTypes.toList,c.args.toList.map ev with
   |t::_,x::y::_=>Sj tt t x y h λh'=>Q (.tup []) h'
   |_,_=>False
  | .builtin .len=>match c.argTypes.toList,c.args.toList.map ev with
   |t::_,.mp i::_=>match anT tt t (.mp i) h with
    |some v=>Q v h
    |none=>False
   |_,_=>vN tt (.call c) ev h (λv=>Q v h)
  | .builtin .copy=>match c.argTypes.toList,c.args.toList.map ev with
   |t::_,x::y::_=>anW tt t (nrm x) (nrm y) h Q
   |_,_=>False
  | .builtin .clear=>match c.argTypes.toList,c.args.toList.map ev with
   |t::_,x::_=>adB tt t (nrm x) h Q
   |_,_=>False
  | .builtin b=>bif isN (.call c)then vN tt (.call c) ev h (λv=>Q v h)else(match opX false tt (.call c) ev h with
   |some (v,h')=>Q v h'
   |none=>False)
  |_=>False
 |op=>bif isN op then vN tt op ev h (λv=>Q v h)else(match opX false tt op ev h with
  |some (v,h')=>Q v h'
  |none=>False)
def XR(P:Program)(s:Sem Next)(h:Heap)(ρ:Ren)(T:Nat->Prop)(w:World)(Q:AV->Heap->Prop):Prop:=
 ∃v h' u w' ρ',Nz P s w u w'/\(∀i,i<h.next->ρ' i=ρ i)/\ρ.le ρ'/\h.next<=h'.next/\Rel h' ρ' T w'/\bn ρ' v u/\Keeps T w w'/\Q v h'
theorem vX_ok{P:Program}{tt:TT}(hT:tt.ok P){h:Heap}{ρ:Ren}{T:Nat->Prop}{w:World}(hR:Rel h ρ T w){o:Oper}{ev:Operand->AV}{e:Operand->Value}(he: ∀x,bn ρ (ev x) (e x))(hcst: ∀v,ev (.const v)= .lit v){Q:AV->Heap->Prop}(hq:vX tt o.op ev h Q):
  XR P (execOp e o) h ρ T w Q:=by
 have wrap: ∀{s:Sem Value},XQ P s h ρ T w Q->XR P (do pure (Next.value (<-s)):Sem Next) h ρ T w Q:=λ⟨v,h',⟨u,w',ρ',h1,h2,h3,h4,h5,h6,h7⟩,hq⟩=>⟨v,h',u,w',ρ',.inl (nI h1),h2,h3,h4,h5,h6,h7,hq⟩
 have nn:vN tt o.op ev h (λv=>Q v h)->XR P (execOp e o) h ρ T w Q:=λhq=>by
  obtain⟨v,u,h1,h2,h3⟩:=aqI (P:=P) hT he hq;exact⟨v,h,u,w,ρ,.inl (h1 w),λ_ _=>rfl,Ren.le_refl _,aY _,hR,h2,Keeps.refl _ _,h3⟩
 have xx:(match opX false tt o.op ev h with|some (v,h')=>Q v h'|none=>False)->XR P (execOp e o) h ρ T w Q:=λhq=>by
  split at hq
  ·rename_i v h' hv
   obtain⟨u,w',ρ',h1,h2,h3,h4,h5,h6,h7⟩:=amq (P:=P) hT hR he hv;exact⟨v,h',u,w',ρ',h1,h2,h3,h4,h5,h6,h7,hq⟩
  ·exact hq.elim
 have both: ∀b:Bool,(bif b then vN tt o.op ev h (λv=>Q v h)else(match opX false tt o.op ev h with|some (v,h')=>Q v h'|none=>False))->XR P (execOp e o) h ρ T w Q:=λb hq=>by
  cases b with
  |true=>exact nn hq
  |false=>exact xx hq
 obtain⟨dst,op,ty,pos,after,guard⟩:=o;cases op<;>simp only[vX]at hq<;>try exact both _ hq
 case load t x=>
  obtain⟨v,⟨u,h1,h2⟩,h3⟩:=XY (P:=P) hT hR hq (he x);exact⟨v,h,u,w,ρ,.inl (by simp only[execOp];exact nI h1),λ_ _=>rfl,Ren.le_refl _,aY _,hR,h2,Keeps.refl _ _,h3⟩
 case store t a x=>
  obtain⟨w',h',h1,h2,h3,h4,h5⟩:=aae (P:=P) hT hR hq (he a) (he x);exact⟨_,h',undef,w',ρ,.inr ⟨by simp[execOp,h1],rfl⟩,λ_ _=>rfl,Ren.le_refl _,by omega,h2,by simp only[bn],h4,h5⟩
 case alloc e=>exact wrap (adE hT hR hq)
 case box e x=>exact wrap (an0 hR hq (he x))
 case convert s d x=>
  cases ht:isText tt s d with
  |false=>rw[ht]at hq;exact nn hq
  |true=>
   rw[ht]at hq;simp only[aP]at hq;obtain⟨v,⟨u,h1,h2⟩,h3⟩:=ajm (P:=P) hT hR hq (he x);exact⟨v,h,u,w,ρ,.inl (by simp only[execOp];exact nI h1),λ_ _=>rfl,Ren.le_refl _,aY _,hR,h2,Keeps.refl _ _,h3⟩
 case buildSlice t n ps=>
  unfold adH at hq;split at hq
  ·rename_i v h' hv
   obtain⟨u,w',ρ',h1,h2,h3,h4,h5,h6,h7⟩:=amq (P:=P) (b:=false) hT hR (o:=⟨dst,.buildSlice t n ps,ty,pos,after,guard⟩) he (v:=v) (h':=h') (by simp only[opX];exact hv);split at hq
   ·rename_i v2 h2' hr
    obtain⟨g1,g2,g3⟩:=ajl hr h5 h6;exact⟨v2,h2',u,w',ρ',h1,h2,h3,by omega,g1,g2,h7,hq⟩
   ·exact⟨v,h',u,w',ρ',h1,h2,h3,h4,h5,h6,h7,hq⟩
  ·exact hq.elim
 case makeMap t r=>exact wrap (RZ (o:=r.map e) hR (by rw[Option.isSome_map];exact hq))
 case insert t m k x=>
  obtain⟨w',h',h1,h2,h3,h4,h5⟩:=GY (P:=P) hT hR hq (he m) (he k) (he x);exact⟨_,h',undef,w',ρ,.inr ⟨by simp[execOp,h1],rfl⟩,λ_ _=>rfl,Ren.le_refl _,by omega,h2,by simp only[bn],h4,h5⟩
 case mapUpdate t m k x=>
  obtain⟨w',h',h1,h2,h3,h4,h5⟩:=GY (P:=P) hT hR hq (he m) (he k) (he x);exact⟨_,h',undef,w',ρ,.inr ⟨by simp[execOp,h1],rfl⟩,λ_ _=>rfl,Ren.le_refl _,by omega,h2,by simp only[bn],h4,h5⟩
 case lookup t m k ok=>
  obtain⟨v,⟨u,h1,h2⟩,h3⟩:=Z4 (P:=P) hT hR hq (he m) (he k);exact⟨v,h,u,w,ρ,.inl (by simp only[execOp];exact nI h1),λ_ _=>rfl,Ren.le_refl _,aY _,hR,h2,Keeps.refl _ _,h3⟩
 case makeSlice t l c=>
  exact wrap (ajj hT hR hq (he l) (he c) λhz=>by cases hz)
 case range t x=>
  split at hq
  ·rename_i v h' hr
   exact wrap ⟨v,h',adw (P:=P) hT hR hr (he x),hq⟩
  ·exact hq.elim
 case next it st=>
  cases st with
  |true=>exact hq.elim
  |false=>
   simp only[aQ]at hq;cases hs:ajh (ev it) h with
   |true=>rw[hs]at hq;exact wrap (adz hR hq (he it))
   |false=>
    rw[hs]at hq;simp only[aQ]at hq;split at hq
    ·rename_i v h' hr
     exact wrap ⟨v,h',ajg hR hr (he it),hq⟩
    ·exact hq.elim
 case entry it=>
  cases hs:ajh (ev it) h with
  |true=>rw[hs]at hq;exact wrap (Z7 hR hq (he it))
  |false=>
   rw[hs]at hq;simp only[aQ]at hq;split at hq
   ·rename_i v h' hr
    exact wrap ⟨v,h',adx hR hr (he it),hq⟩
   ·exact hq.elim
 case call c=>
  split at hq
  ·rename_i hb
   have hl:dP ρ (c.args.toList.map ev) (c.args.map e).toList:=by simpa using l7 he c.args.toList
   split at hq
   ·rename_i t t' r x y r' ht hx
    rw[hx]at hl;obtain⟨u0,hu0,hr0⟩:=hl.get 0 x rfl;obtain⟨u1,hu1,hr1⟩:=hl.get 1 y rfl;obtain⟨v,h',⟨u,w',ρ',h1,h2,h3,h4,h5,h6,h7⟩,hq⟩:=anX (P:=P) (ty:=ty) (ts:=c.argTypes) (us:=c.args.map e) hT hR hq (ajc hr0) (uH hr1) (by rw[<-Array.getElem?_toList,ht];rfl) (by rw[<-Array.getElem?_toList,ht];rfl) (by simpa using hu0) (by simpa using hu1);refine⟨v,h',u,w',ρ',.inl ?_,h2,h3,h4,h5,h6,h7,hq⟩;obtain⟨cs,hcs⟩:=fP (e:=e) hb ty P w;simp only[execOp,Sem.run_bind,hcs,Result.andThen_ok,invoke];show(builtin .append c.argTypes ty cs (c.args.map e)).run P w=_;have:(builtin .append c.argTypes ty cs (c.args.map e)).run P w=(do pure (Next.value (<-Builtin.append_ c.argTypes ty (c.args.map e))):Sem Next).run P w:=rfl;rw[this];simp[h1]
   ·exact hq.elim
  ·rename_i hb
   have hl:dP ρ (c.args.toList.map ev) (c.args.map e).toList:=by simpa using l7 he c.args.toList
   split at hq
   ·rename_i t r x y r' ht hx
    rw[hx]at hl;obtain⟨u0,hu0,hr0⟩:=hl.get 0 x rfl;obtain⟨u1,hu1,hr1⟩:=hl.get 1 y rfl;obtain⟨w',h',h1,h2,h3,h4,h5⟩:=Z5 (P:=P) (ty:=ty) (ts:=c.argTypes) (us:=c.args.map e) hT hR hq hr0 hr1 (by rw[<-Array.getElem?_toList,ht];rfl) (by simpa using hu0) (by simpa using hu1);refine⟨_,h',.tuple #[],w',ρ,.inl ?_,λ_ _=>rfl,Ren.le_refl _,by omega,h2,by simp only[bn];exact⟨_,rfl,.nil⟩,h4,h5⟩;obtain⟨cs,hcs⟩:=fP (e:=e) hb ty P w;simp only[execOp,Sem.run_bind,hcs,Result.andThen_ok,invoke];show(builtin .delete c.argTypes ty cs (c.args.map e)).run P w=_;have:(builtin .delete c.argTypes ty cs (c.args.map e)).run P w=(do pure (Next.value (<-Builtin.delete_ c.argTypes ty (c.args.map e))):Sem Next).run P w:=rfl;rw[this];simp[h1]
   ·exact hq.elim
  ·rename_i hb
   have hl:dP ρ (c.args.toList.map ev) (c.args.map e).toList:=by simpa using l7 he c.args.toList
   split at hq
   ·rename_i t r i r' ht hx
    split at hq
    ·rename_i v hv
     rw[hx]at hl;obtain⟨u0,hu0,hr0⟩:=hl.get 0 _ rfl;obtain⟨u,h1,h2⟩:=ajf (P:=P) (ty:=ty) (ts:=c.argTypes) (us:=c.args.map e) hT hR hv hr0 (by rw[<-Array.getElem?_toList,ht];rfl) (by simpa using hu0);refine⟨v,h,u,w,ρ,.inl ?_,λ_ _=>rfl,Ren.le_refl _,aY _,hR,h2,Keeps.refl _ _,hq⟩;obtain⟨cs,hcs⟩:=fP (e:=e) hb ty P w;simp only[execOp,Sem.run_bind,hcs,Result.andThen_ok,invoke];show(builtin .len c.argTypes ty cs (c.args.map e)).run P w=_;have:(builtin .len c.argTypes ty cs (c.args.map e)).run P w=(do pure (Next.value (<-Builtin.len_ c.argTypes ty (c.args.map e))):Sem Next).run P w:=rfl;rw[this];simp[h1]
    ·exact hq.elim
   ·exact nn hq
  ·rename_i hb
   have hl:dP ρ (c.args.toList.map ev) (c.args.map e).toList:=by simpa using l7 he c.args.toList
   split at hq
   ·rename_i t r x y r' ht hx
    rw[hx]at hl;obtain⟨u0,hu0,hr0⟩:=hl.get 0 x rfl;obtain⟨u1,hu1,hr1⟩:=hl.get 1 y rfl;obtain⟨v,h',⟨u,w',ρ',h1,h2,h3,h4,h5,h6,h7⟩,hq⟩:=aji (P:=P) (ty:=ty) (ts:=c.argTypes) (us:=c.args.map e) hT hR hq (uH hr0) (uH hr1) (by rw[<-Array.getElem?_toList,ht];rfl) (by simpa using hu0) (by simpa using hu1);refine⟨v,h',u,w',ρ',.inl ?_,h2,h3,h4,h5,h6,h7,hq⟩;obtain⟨cs,hcs⟩:=fP (e:=e) hb ty P w;simp only[execOp,Sem.run_bind,hcs,Result.andThen_ok,invoke];show(builtin .copy c.argTypes ty cs (c.args.map e)).run P w=_;have:(builtin .copy c.argTypes ty cs (c.args.map e)).run P w=(do pure (Next.value (<-Builtin.copy_ c.argTypes ty (c.args.map e))):Sem Next).run P w:=rfl;rw[this];simp[h1]
   ·exact hq.elim
  ·rename_i hb
   have hl:dP ρ (c.args.toList.map ev) (c.args.map e).toList:=by simpa using l7 he c.args.toList
   split at hq
   ·rename_i t r x r' ht hx
    rw[hx]at hl;obtain⟨u0,hu0,hr0⟩:=hl.get 0 x rfl;obtain⟨v,h',⟨u,w',ρ',h1,h2,h3,h4,h5,h6,h7⟩,hq⟩:=adC (P:=P) (ty:=ty) (ts:=c.argTypes) (us:=c.args.map e) hT hR hq (uH hr0) (by rw[<-Array.getElem?_toList,ht];rfl) (by simpa using hu0);refine⟨v,h',u,w',ρ',.inl ?_,h2,h3,h4,h5,h6,h7,hq⟩;obtain⟨cs,hcs⟩:=fP (e:=e) hb ty P w;simp only[execOp,Sem.run_bind,hcs,Result.andThen_ok,invoke];show(builtin .clear c.argTypes ty cs (c.args.map e)).run P w=_;have:(builtin .clear c.argTypes ty cs (c.args.map e)).run P w=(do pure (Next.value (<-Builtin.clear_ c.argTypes ty (c.args.map e))):Sem Next).run P w:=rfl;rw[this];simp[h1]
   ·exact hq.elim
  ·exact both _ hq
  ·exact hq.elim
theorem qw{k:IntKind}{z:Int}{Q:AV->Prop}(h:arith k z Q): ∃v,Q v/\arith k z (λr=>r=v):=by
 cases k<;>first|exact⟨_,h,rfl⟩|exact⟨_,h.2,h.1,rfl⟩
theorem ajn{op:BinOp}{k k':IntKind}{a b:Int}{Q:AV->Prop}(h:ap8 op k a k' b Q): ∃v,Q v/\ap8 op k a k' b (λr=>r=v):=by
 by_cases hk:k=k'
 ·subst hk
  cases op<;>simp only[ap8]at h ⊢
  case shl=>exact⟨_,h.2,h.1,rfl⟩
  case shr=>exact⟨_,h.2,h.1,rfl⟩
  case add=>simp only[if_true]at h ⊢;exact qw h
  case sub=>simp only[if_true]at h ⊢;exact qw h
  case mul=>simp only[if_true]at h ⊢;exact qw h
  case quo=>simp only[if_true]at h ⊢;obtain⟨v,h1,h2⟩:=qw h.2;exact⟨v,h1,h.1,h2⟩
  case rem=>simp only[if_true]at h ⊢;exact⟨_,h.2,h.1,rfl⟩
  all_goals
   simp only[if_true,acE]at h ⊢
  all_goals exact⟨_,h,rfl⟩
 ·cases op<;>simp only[ap8]at h ⊢
  case shl=>exact⟨_,h.2,h.1,rfl⟩
  case shr=>exact⟨_,h.2,h.1,rfl⟩
  all_goals
   simp only[if_neg hk]at h
theorem ajo{op:BinOp}{a b:ByteArray}{Q:AV->Prop}(h:aqH op a b Q): ∃v,Q v/\aqH op a b (λr=>r=v):=by
 cases op<;>simp only[aqH]at h ⊢
 case add=>exact⟨_,h.2,h.1,rfl⟩
 all_goals
  simp only[aiW]at h ⊢
 all_goals exact⟨_,h,rfl⟩
theorem ajp{tt:TT}{op:BinOp}{t:TypeId}{x y:AV}{Q:AV->Prop}(h:ap9 tt op t x y Q): ∃v,Q v/\ap9 tt op t x y (λr=>r=v):=by
 unfold ap9 at h ⊢;split at h
 ·exact ajn h
 ·split at h
  ·exact ajo h
  ·split at h
   ·exact⟨_,h,rfl⟩
   ·exact h.elim
theorem adI{tt:TT}{s d:TypeId}{x:AV}{Q:AV->Prop}(h:ZU tt s d x Q): ∃v,Q v/\ZU tt s d x (λr=>r=v):=by
 unfold ZU at h ⊢;split at h
 ·split at h
  ·exact qw h
  ·exact⟨_,h,rfl⟩
  ·exact h.elim
 ·exact h.elim
theorem SC{x:Option AV}{d:Nat}{α:Type}{F:(α->Prop)->Nat->Prop}{Q:α->Prop}(hF: ∀k,F Q k-> ∃v,Q v/\F (λr=>r=v) k)(h:vB x d (F Q)): ∃v,Q v/\vB x d (F (λr=>r=v)):=by
 unfold vB at h ⊢;split at h
 ·exact hF _ h
 ·obtain⟨v,h1,h2⟩:=hF _ h.2
  exact⟨v,h1,h.1,h2⟩
 ·exact h.elim
theorem iq{n c:Nat}{lo hi mx:Option AV}{f:Nat->Nat->Nat->AV}{Q:AV->Prop}(h:Bc n c lo hi mx λl h m=>Q (f l h m)): ∃v,Q v/\Bc n c lo hi mx λl h m=>f l h m=v:=by
 unfold Bc at h ⊢;split at h
 ·exact h.elim
 ·exact SC (x:=mx) (d:=c) (Q:=Q) (F:=λQ m=>vB hi n λh=>vB lo 0 λl=>(l<=h/\h<=m/\m<=c)/\Q (f l h m)) (λm h=>SC (F:=λQ h=>vB lo 0 λl=>(l<=h/\h<=m/\m<=c)/\Q (f l h m)) (λh hh=>
   SC (F:=λQ l=>(l<=h/\h<=m/\m<=c)/\Q (f l h m)) (λl hl=>⟨_,hl.2,hl.1,rfl⟩) hh) h) h
theorem an2{b:Bool}{x y:AV}{Q:AV->Prop}(h:bif b then Q x else Q y): ∃v,Q v/\bif b then x=v else y=v:=by
 cases b with
 |true=>exact⟨_,h,rfl⟩
 |false=>exact⟨_,h,rfl⟩
theorem X7{α:Type}{b:Bool}{F G:(α->Prop)->Prop}{Q:α->Prop}(hF:F Q-> ∃v,Q v/\F (λr=>r=v))(hG:G Q-> ∃v,Q v/\G (λr=>r=v))(h:bif b then F Q else G Q): ∃v,Q v/\bif b then F (λr=>r=v)else G (λr=>r=v):=by
 cases b with
 |true=>exact hF h
 |false=>exact hG h
theorem aaf{tt:TT}{t:TypeId}{x:AV}{lo hi mx:Option AV}{hp:Heap}{Q:AV->Prop}(h:GU tt t x lo hi mx hp Q): ∃v,Q v/\GU tt t x lo hi mx hp (λr=>r=v):=by
 unfold GU at h ⊢;split at h
 ·split at h
  ·split at h
   ·exact iq (f:=λl h _=> .lit (.string (ByteArray.extract _ l h))) h
   ·exact h.elim
  ·split at h
   ·exact X7 (F:=λQ=>ajb _ _ _ _ _ _ _ _ Q) (G:=λ_=>False) (λh=>iq h) (λh=>h.elim) h
   ·exact h.elim
  ·rename_i i q m n _
   split at h
   ·rename_i te hte
    cases hb:Nat.beq m te.size with
    |false=>rw[hb]at h;exact h.elim
    |true=>
     rw[hb]at h;simp only[aP]at h ⊢;split at h
     ·exact iq (f:=λl h _=> .slW i (q+l) m (h-l)) h
     ·exact iq h
   ·exact h.elim
  ·rename_i i q m n _
   split at h
   ·rename_i te hte
    cases hb:Nat.beq m te.size with
    |false=>rw[hb]at h;exact h.elim
    |true=>
     rw[hb]at h;simp only[aP]at h ⊢;exact iq (f:=λl h _=> .slR i (q+l) m (h-l)) h
   ·exact h.elim
  ·rename_i i o n c _
   split at h
   ·rename_i te hte
    cases hb:(Nat.beq o 0&&Nat.beq (FN hp i) te.size)with
    |true=>rw[hb]at h;exact iq h
    |false=>
     rw[hb]at h;simp only[aQ]at h ⊢;split at h
     ·exact⟨_,h,rfl⟩
     ·exact h.elim
   ·exact h.elim
  ·rename_i i o n sz _
   split at h
   ·rename_i te hte
    cases hb:(Nat.beq o 0&&Nat.beq (FN hp i) te.size&&Nat.beq sz te.size)with
    |true=>
     rw[hb]at h;simp only[aP]at h ⊢;split at h
     ·exact iq (f:=λl h _=> .slW i l te.size (h-l)) h
     ·exact iq h
    |false=>
     rw[hb]at h;simp only[aQ]at h ⊢;split at h
     ·exact⟨_,h,rfl⟩
     ·exact h.elim
   ·exact h.elim
  ·split at h
   ·exact iq (f:=λl h m=> .lit (.slice none (h-l) (m-l))) h
   ·exact h.elim
  ·rename_i a n c _
   split at h
   ·rename_i te hte
    exact iq (f:=λl h m=> .lit (.slice (some (if m=l then a else a.add (l*te.size))) (h-l) (m-l))) h
   ·exact h.elim
  ·rename_i n _ i o _
   split at h
   ·rename_i te hte
    cases hb:(Nat.beq o 0&&Nat.beq (FN hp i) te.size)with
    |true=>rw[hb]at h;exact iq h
    |false=>
     rw[hb]at h;simp only[aQ]at h ⊢;split at h
     ·exact⟨_,h,rfl⟩
     ·exact h.elim
   ·exact h.elim
  ·split at h
   ·exact X7 (F:=λQ=>ajb _ _ _ _ _ _ _ _ Q) (G:=λ_=>False) (λh=>iq h) (λh=>h.elim) h
   ·exact h.elim
  ·split at h
   ·exact⟨_,h,rfl⟩
   ·exact h.elim
 ·exact h.elim
theorem aag{tt:TT}{s:TypeId}{x:AV}{f:Nat}{Q:AV->Prop}(h:GN tt s x f Q): ∃v,Q v/\GN tt s x f (λr=>r=v):=by
 unfold GN at h ⊢;split at h
 ·split at h
  ·exact⟨_,h,rfl⟩
  ·exact h.elim
 ·split at h
  ·exact⟨_,h,rfl⟩
  ·exact h.elim
theorem FT{tt:TT}{t:TypeId}{x ix:AV}{hp:Heap}{Q:AV->Prop}(h:lS tt t x ix hp Q): ∃v,Q v/\lS tt t x ix hp (λr=>r=v):=by
 have two: ∀{p:Prop} {b:Bool} {x y:AV},(p/\bif b then Q x else Q y)-> ∃v,Q v/\p/\bif b then x=v else y=v:=λh=>by
  obtain⟨v,h1,h2⟩:=an2 h.2;exact⟨v,h1,h.1,h2⟩
 unfold lS at h ⊢;split at h
 ·split at h
  ·split at h
   ·exact two h
   ·exact h.elim
  ·split at h
   ·exact⟨_,h.2,h.1,rfl⟩
   ·exact h.elim
  ·split at h
   ·exact two h
   ·exact h.elim
  ·split at h
   ·exact two h
   ·exact h.elim
  ·rename_i e i q m n c hd
   split at h
   ·rename_i te hte
    cases hb:Nat.beq m te.size with
    |true=>rw[hb]at h;exact⟨_,h.2,h.1,rfl⟩
    |false=>rw[hb]at h;exact h.elim
   ·exact h.elim
  ·rename_i e i q m n hd
   split at h
   ·rename_i te hte
    cases hb:Nat.beq m te.size with
    |true=>rw[hb]at h;exact⟨_,h.2,h.1,rfl⟩
    |false=>rw[hb]at h;exact h.elim
   ·exact h.elim
  ·rename_i e i q m n hd
   split at h
   ·rename_i te hte
    cases hb:Nat.beq m te.size with
    |true=>rw[hb]at h;exact⟨_,h.2,h.1,rfl⟩
    |false=>rw[hb]at h;exact h.elim
   ·exact h.elim
  ·exact h.elim
 ·exact h.elim
theorem yI{d:TD}{l:List Value}{Q:AV->Prop}(h:wL d l Q): ∃v,Q v/\wL d l (λr=>r=v):=by
 unfold wL at h ⊢;split at h
 ·obtain⟨b,h1,h2⟩:=h;exact⟨_,h2,b,h1,rfl⟩
 ·obtain⟨b,h1,h2⟩:=h;exact⟨_,h2,b,h1,rfl⟩
 ·split at h
  ·exact⟨_,h,rfl⟩
  ·exact h.elim
theorem SG{tt:TT}{t:TypeId}{x:AV}{f:Nat}{Q:AV->Prop}(h:yE tt t x f Q): ∃v,Q v/\yE tt t x f (λr=>r=v):=by
 unfold yE at h ⊢;split at h
 ·split at h
  ·split at h
   ·split at h
    ·rename_i off ft b2 hf
     split at h
     ·rename_i tf htf
      cases hb:Nat.ble (off+tf.size) _ with
      |false=>rw[hb]at h;exact h.elim
      |true=>
       rw[hb]at h;simp only[aP]at h ⊢;cases hagg:tf.agg with
       |true=>rw[hagg]at h;exact⟨_,h,rfl⟩
       |false=>
        rw[hagg]at h;simp only[aQ]at h ⊢;cases hs:Nat.beq tf.size 1 with
        |false=>rw[hs]at h;exact h.elim
        |true=>rw[hs]at h;exact yI h
     ·exact h.elim
    ·exact h.elim
   ·exact h.elim
  ·exact h.elim
 ·split at h
  ·exact⟨_,h,rfl⟩
  ·exact h.elim
theorem aah{tt:TT}{t:TypeId}{x ix:AV}{Q:AV->Prop}(h:GR tt t x ix Q): ∃v,Q v/\GR tt t x ix (λr=>r=v):=by
 unfold GR at h ⊢;split at h
 ·split at h
  ·exact⟨_,h.2,h.1,rfl⟩
  ·split at h
   ·rename_i te hte
    cases hb:(!te.agg&&Nat.beq te.size 1)with
    |false=>rw[hb]at h;exact h.elim
    |true=>
     rw[hb]at h;simp only[aP]at h ⊢;obtain⟨hk,hk',h⟩:=h;obtain⟨v,h1,h2⟩:=yI h;exact⟨v,h1,hk,hk',h2⟩
   ·exact h.elim
  ·split at h
   ·obtain⟨hk,h⟩:=h
    split at h
    ·exact⟨_,h,hk,rfl⟩
    ·exact h.elim
   ·exact h.elim
  ·exact h.elim
 ·exact h.elim
theorem amx{tt:TT}{op:Op}{ev:Operand->AV}{h:Heap}{Q:AV->Prop}(hq:vN tt op ev h Q): ∃v,Q v/\vN tt op ev h (λr=>r=v):=by
 cases op
 case pick c a b=>
  simp only[vN]at hq ⊢;split at hq
  ·rename_i t ht
   rcases jq hq with ⟨rfl,hq⟩|⟨rfl,hq⟩
   ·exact⟨_,hq,rfl⟩
   ·exact⟨_,hq,rfl⟩
  ·exact hq.elim
 case binOp=>exact ajp hq
 case convert=>exact adI hq
 case slice=>exact aaf hq
 case fieldAddr=>exact aag hq
 case indexAddr=>exact FT hq
 case index=>exact aah hq
 case field=>exact SG hq
 all_goals
  simp only[vN]at hq ⊢;split at hq
  ·exact⟨_,hq,rfl⟩
  ·exact hq.elim
theorem Df{α:Type}{g:Nat->List Value}{k:Nat}{F:(α->Prop)->List Value->Prop}{Q:α->Prop}(hF: ∀l,F Q l-> ∃v,Q v/\F (λr=>r=v) l): ∀{wr:List (Nat×List Value)},FM g wr k (F Q)-> ∃v,Q v/\FM g wr k (F (λr=>r=v))
 |[],h=>hF _ h
 |(q,c)::r,h=>by
  simp only[FM]at h ⊢;cases hb:Nat.beq k q with
  |true=>rw[hb]at h;exact hF _ h
  |false=>rw[hb]at h;exact Df hF (wr:=r) h
theorem NV{ti:TI}{m n k j:Nat}{g:Nat->List Value}{wr:List (Nat×List Value)}{Q:AV->Prop}(hq:sV ti m n g wr k j Q): ∃v,Q v/\sV ti m n g wr k j (λr=>r=v):=by
 unfold sV at hq ⊢;cases hs:Nat.ble (j+ti.size) m with
 |false=>rw[hs]at hq;exact hq.elim
 |true=>
  rw[hs]at hq;simp only[aP]at hq ⊢;obtain⟨hk,hq⟩:=hq
  have:=Df (F:=λQ l=>bif ti.agg then(bif Nat.ble (j+ti.size) l.length then Q (AV.agg (((l.drop j).take ti.size).map .lit))else False)else(match l[j]? with
   |some v=>bif Nat.beq ti.size 1 then Q (.lit v)else False
   |none=>False)) (Q:=Q) (λl hl=>by
    cases hagg:ti.agg with
    |true=>
     rw[hagg]at hl;simp only[aP]at hl ⊢;cases hle:Nat.ble (j+ti.size) l.length with
     |true=>rw[hle]at hl;exact⟨_,hl,rfl⟩
     |false=>rw[hle]at hl;exact hl.elim
    |false=>
     rw[hagg]at hl;simp only[aQ]at hl ⊢;cases hv:l[j]? with
     |none=>rw[hv]at hl;exact hl.elim
     |some v=>
      rw[hv]at hl;simp only at hl ⊢;cases h1:Nat.beq ti.size 1 with
      |true=>rw[h1]at hl;exact⟨_,hl,rfl⟩
      |false=>rw[h1]at hl;exact hl.elim) hq
  obtain⟨v,h1,h2⟩:=this;exact⟨v,h1,hk,h2⟩
theorem NW{tt:TT}{t:TypeId}{a:AV}{h:Heap}{Q:AV->Prop}(hq:RQ tt t a h Q): ∃v,Q v/\RQ tt t a h (λr=>r=v):=by
 unfold RQ at hq ⊢;split at hq
 ·rename_i i k m j
  split at hq
  ·rename_i ti ob hti hi
   split at hq
   ·rename_i c hc
    split at hq
    ·rename_i o m' n g wr hr
     cases hb:Nat.beq m m'&&Nat.ble o j with
     |false=>
      rw[hb]at hq;simp only[aQ]at hq ⊢;cases hb2:Nat.beq m' 1&&Nat.beq o 0 with
      |false=>rw[hb2]at hq;exact hq.elim
      |true=>
       rw[hb2]at hq;simp only[aP]at hq ⊢;unfold wM at hq ⊢;cases hb3:ti.agg&&Nat.blt 8 ti.size with
       |true=>rw[hb3]at hq;exact⟨_,hq.2,hq.1,rfl⟩
       |false=>
        rw[hb3]at hq;simp only[aQ]at hq ⊢;cases hb4:(!ti.agg&&Nat.beq ti.size 1)with
        |false=>rw[hb4]at hq;exact hq.elim
        |true=>
         rw[hb4]at hq;obtain⟨hp,hq⟩:=hq;obtain⟨v,h1,h2⟩:=Df (F:=λQ l=>wL ti.desc l Q) (λl hl=>yI hl) hq;exact⟨v,h1,hp,h2⟩
     |true=>
      rw[hb]at hq;exact NV hq
    ·exact hq.elim
   ·exact hq.elim
  ·exact hq.elim
 ·split at hq
  ·exact⟨_,hq,rfl⟩
  ·split at hq
   ·exact⟨_,hq,rfl⟩
   ·exact hq.elim
 ·split at hq
  ·exact⟨_,hq,rfl⟩
  ·exact hq.elim
theorem map_congr{ev ev':Operand->AV}: ∀{l:List Operand},(∀x∈l,ev x=ev' x)->l.map ev=l.map ev':=λh=>List.map_congr_left h
theorem lT{ev ev':Operand->AV}{o:Option Operand}(h: ∀x∈o,ev x=ev' x):aiQ ev o=aiQ ev' o:=by
 cases o with
 |none=>rfl
 |some x=>simp only[aiQ];rw[h x rfl]
theorem adJ{tt:TT}{op:Op}{ev ev':Operand->AV}(h: ∀x∈op.operands,ev x=ev' x):opN tt op ev=opN tt op ev':=by
 cases op<;>simp only[opN]<;>simp[Op.operands]at h
 case move x=>rw[h]
 case assign x=>rw[h]
 case pick c a b=>rw[h.1,h.2.1,h.2.2]
 case nilCheck x=>rw[h]
 case binOp o t x y yt=>rw[h.1,h.2]
 case unOp o t x=>rw[h]
 case convert s d x=>rw[h]
 case makeFunc f a b=>rw[map_congr λx hx=>h x (.inl (by simpa using hx)),map_congr λx hx=>h x (.inr (by simpa using hx))]
 case slice t x lo hi mx=>
  rw[h.1,lT λy hy=>h.2 y (.inl hy),lT (o:=hi) λy hy=>h.2 y (.inr (.inl hy)),lT (o:=mx) λy hy=>h.2 y (.inr (.inr hy))]
 case fieldAddr s x f=>rw[h]
 case field s x f=>rw[h]
 case indexAddr t x i=>rw[h.1,h.2]
 case index t x i=>rw[h.1,h.2]
 case extract x i=>rw[h]
 case build t ps=>
  have:(ps.toList.map λp=>(p.1,ev p.2))=ps.toList.map λp=>(p.1,ev' p.2):=List.map_congr_left λp hp=>by rw[h p.2 p.1 (by simpa using hp)]
  rw[this]
 case call c=>
  have:c.args.toList.map ev=c.args.toList.map ev':=map_congr λx hx=>h x (by simp[Call.operands];exact .inr (by simpa using hx))
  rw[this]
theorem X8{tt:TT}{op:Op}{ev ev':Operand->AV}{hp:Heap}{Q:AV->Prop}(h: ∀x∈op.operands,ev x=ev' x):vN tt op ev hp Q=vN tt op ev' hp Q:=by
 have:=adJ (tt:=tt) h;cases op<;>simp only[vN]<;>simp[Op.operands]at h<;>try rw[this]
 case pick c a b=>rw[h.1,h.2.1,h.2.2]
 case binOp o t x y yt=>rw[h.1,h.2]
 case convert s d x=>rw[h]
 case slice t x lo hi mx=>
  rw[h.1,lT λy hy=>h.2 y (.inl hy),lT (o:=hi) λy hy=>h.2 y (.inr (.inl hy)),lT (o:=mx) λy hy=>h.2 y (.inr (.inr hy))]
 case fieldAddr s x f=>rw[h]
 case indexAddr t x i=>rw[h.1,h.2]
 case index t x i=>rw[h.1,h.2]
 case field t x f=>rw[h]
theorem adK{tt:TT}{op:Op}{ev ev':Operand->AV}{hp:Heap}(h: ∀x∈op.operands,ev x=ev' x):opX false tt op ev hp=opX false tt op ev' hp:=by
 cases op<;>simp only[opX]<;>simp[Op.operands]at h
 case box e x=>rw[h]
 case store t a x=>rw[h.1,h.2]
 case makeSlice t l c=>rw[h.1,h.2]
 case buildSlice t n ps=>
  have:(ps.toList.map λp=>(p.1,ev p.2))=ps.toList.map λp=>(p.1,ev' p.2):=List.map_congr_left λp hp=>by rw[h p.2 p.1 (by simpa using hp)]
  rw[this]
 case call c=>
  have:c.args.toList.map ev=c.args.toList.map ev':=map_congr λx hx=>h x (by simp[Call.operands];exact .inr (by simpa using hx))
  rw[this]
theorem ajq{tt:TT}{op:Op}{ev ev':Operand->AV}{hp:Heap}{Q:AV->Heap->Prop}(h: ∀x∈op.operands,ev x=ev' x):vX tt op ev hp Q=vX tt op ev' hp Q:=by
 have e1:=λ(Q:AV->Prop)=>X8 (tt:=tt) (hp:=hp) (Q:=Q) h
 have e2:=adK (tt:=tt) (hp:=hp) h;cases op<;>simp only[vX]<;>try rw[e1,e2]
 case load t x=>simp[Op.operands]at h;rw[h]
 case store t a x=>simp[Op.operands]at h;rw[h.1,h.2]
 case box e x=>simp[Op.operands]at h;rw[h]
 case convert s d x=>rw[e1];simp[Op.operands]at h;rw[h]
 case buildSlice t n ps=>
  have:(ps.toList.map λp=>(p.1,ev p.2))=ps.toList.map λp=>(p.1,ev' p.2):=List.map_congr_left λp hp=>by rw[h p.2 (by simp[Op.operands];exact⟨p.1,by simpa using hp⟩)]
  rw[this]
 case makeSlice t l c=>simp[Op.operands]at h;rw[h.1,h.2]
 case insert t m k x=>simp[Op.operands]at h;rw[h.1,h.2.1,h.2.2]
 case mapUpdate t m k x=>simp[Op.operands]at h;rw[h.1,h.2.1,h.2.2]
 case lookup t m k ok=>simp[Op.operands]at h;rw[h.1,h.2]
 case range t x=>simp[Op.operands]at h;rw[h]
 case next it st=>simp[Op.operands]at h;rw[h]
 case entry it=>simp[Op.operands]at h;rw[h]
 case call c=>
  have:c.args.toList.map ev=c.args.toList.map ev':=map_congr λx hx=>h x (by simp[Op.operands,Call.operands];exact .inr (by simpa using hx))
  rw[this]
  first|done|(split<;>first|rfl|rw[e1,e2])
def uI(op:Op):List Nat:=op.operands.toList.filterMap λx=>match x with
 | .tmp t=>some t
 |_=>none
def Dh(ops:Array Oper)(o:Oper):List Nat:=match o.guard with
 |some (j,_)=>match ops[j]? with
  |some oj=>oj.dst.toList
  |none=>[]
 |none=>[]
def iO(ops:Array Oper)(o:Oper):List Nat:=Dh ops o++uI o.op
def slotsOf(ops:Array Oper)(i:Nat):List Nat:=match ops[i]? with
 |some o=>iO ops o
 |none=>[]
def iP(ops:Array Oper)(i:Nat):Option Nat:=match ops[i]? with
 |some o=>o.dst
 |none=>none
def DS(ops:Array Oper)(l:List Nat):List Nat:=l.filterMap (iP ops)
def jL(ops:Array Oper)(q j:Nat):Bool:=match ops[q]? with
 |some o=>o.after.toList.any λe=>Region.binds .any e&&Nat.beq e.on j
 |none=>false
def an3(ops:Array Oper)(i:Nat):Nat->List Nat->List Nat
 |0,m=>m
 |j+1,m=>an3 ops i j (bif jL ops i j||m.any (λq=>jL ops q j)then j::m else m)
def anc(ops:Array Oper)(i:Nat):List Nat:=an3 ops i ops.size []
def Closed(ops:Array Oper)(s:Array Bool):Prop:= ∀i j,s.getD i false=true->jL ops i j=true->s.getD j false=true
theorem I7{ops:Array Oper}{s:Array Bool}(hc:Closed ops s){i:Nat}(hi: ∀j,jL ops i j=true->s.getD j false=true): ∀(n:Nat) (m:List Nat),(∀q∈m,s.getD q false=true)-> ∀q∈an3 ops i n m,s.getD q false=true
 |0,m,hm=>hm
 |j+1,m,hm=>by
  refine I7 hc hi j _ λq hq=> ?_
  cases hb:(jL ops i j||m.any (λq=>jL ops q j))with
  |false=>rw[hb]at hq;exact hm q hq
  |true=>
   rw[hb]at hq;rcases List.mem_cons.1 hq with rfl|hq
   ·simp only[Bool.or_eq_true,List.any_eq_true]at hb
    rcases hb with hb|⟨x,hx,hb⟩
    ·exact hi _ hb
    ·exact hc x _ (hm x hx) hb
   ·exact hm q hq
theorem amy{ops:Array Oper}{s:Array Bool}(hc:Closed ops s){i:Nat}(hi:i∈Region.ready .any ops s): ∀q∈anc ops i,s.getD q false=true:=by
 refine I7 hc (λj hj=> ?_) _ _ (λq hq=>by cases hq);obtain⟨_,o,ho,hall⟩:=mem_ready.1 hi;simp only[jL,ho,List.any_eq_true,aJ]at hj;obtain⟨e,he,hb,hj⟩:=hj;have:=hall e (by simpa using he) hb;rwa [au hj]at this
theorem sZ{ops:Array Oper}{s:Array Bool}(hc:Closed ops s){i:Nat}(hi:i∈Region.ready .any ops s):Closed ops (s.setIfInBounds i true):=by
 intro q j hq hj;by_cases hqi:i=q
 ·subst hqi
  obtain⟨_,o,ho,hall⟩:=mem_ready.1 hi;simp only[jL,ho,List.any_eq_true,aJ]at hj;obtain⟨e,he,hb,hj⟩:=hj;have:=hall e (by simpa using he) hb;rw[au hj]at this;exact getD_set_true this
 ·rw[getD_set_ne false hqi]at hq
  exact getD_set_true (hc q j hq hj)
def Di:Fr->List Nat->Fr
 |fr,[]=>fr
 |fr,d::l=>Di (fr.set d none) l
theorem fU: ∀(l:List Nat) (fr:Fr) (t:Nat),look (Di fr l) t=if t∈l then .any else look fr t
 |[],fr,t=>by simp[Di]
 |d::l,fr,t=>by
  simp only[Di];rw[fU l];by_cases h1:t∈l
  ·simp[h1]
  ·by_cases h2:t=d
   ·subst h2;simp[h1,look,PM.dN]
   ·simp[h1,h2,look,PM.dN]
theorem ajr{fr:Fr}{l:List Nat}{op:Op}(h: ∀t∈uI op,t ∉ l): ∀x∈op.operands,evA fr x=evA (Di fr l) x:=by
 intro x hx;cases x with
 |tmp t=>
  have:t∈uI op:=by simp only[uI,List.mem_filterMap];exact⟨.tmp t,by simpa using hx,rfl⟩
  simp only[evA,fU,if_neg (h t this)]
 |const v=>rfl
 |global g=>rfl
 |func f=>rfl
def NY(fr:Fr):List Nat->Fr
 |[]=> .leaf
 |t::S=>(NY fr S).set t (some (look fr t))
theorem wW(fr:Fr): ∀(S:List Nat) (t:Nat),look (NY fr S) t=if t∈S then look fr t else .any
 |[],t=>by simp[NY,look,PM.sK]
 |s::S,t=>by
  have ih:=wW fr S t;have:look (NY fr (s::S)) t=if t=s then look fr s else look (NY fr S) t:=by
   simp only[NY,look,PM.dN];by_cases h:t=s
   ·simp[h]
   ·simp[h]
  rw[this,ih];by_cases h:t=s
  ·simp[h]
  ·simp[h]
structure gZ (ρ:Ren) (n:Nat) (fr:Fr) (a:Act) (S:List Nat):Prop where
 size:a.tmps.size=n
 defers:a.defers=[]
 vals: ∀t∈S,bn ρ (look fr t) (a.tmps.getD t undef)
theorem gZ.keep{ρ:Ren}{n:Nat}{fr:Fr}{a:Act}{S:List Nat}(h:gZ ρ n fr a S):nU ρ n (NY fr S) a:=⟨h.size,h.defers,λt=>by
 rw[wW];by_cases ht:t∈S
 ·rw[if_pos ht];exact h.vals t ht
 ·rw[if_neg ht];simp only[bn]⟩
theorem gZ.SH{ρ:Ren}{n:Nat}{fr:Fr}{a:Act}{l S:List Nat}(h:nU ρ n (Di fr l) a)(hl: ∀t∈S,t ∉ l):gZ ρ n fr a S:=⟨h.size,h.defers,λt ht=>by
 have:=h.vals t;rw[fU,if_neg (hl t ht)]at this
 exact this⟩
theorem gZ.sub{ρ:Ren}{n:Nat}{fr fr':Fr}{a:Act}{S S':List Nat}(h:gZ ρ n fr a S)(hs: ∀t∈S',t∈S)(hl: ∀t∈S',look fr' t=look fr t):gZ ρ n fr' a S':=⟨h.size,h.defers,λt ht=>by rw[hl t ht];exact h.vals t (hs t ht)⟩
theorem X9{fr:Fr}{S:List Nat}{op:Op}(h: ∀t∈uI op,t∈S): ∀x∈op.operands,evA fr x=evA (NY fr S) x:=by
 intro x hx;cases x with
 |tmp t=>
  have:t∈uI op:=by simp only[uI,List.mem_filterMap];exact⟨.tmp t,by simpa using hx,rfl⟩
  simp only[evA,wW,if_pos (h t this)]
 |const v=>rfl
 |global g=>rfl
 |func f=>rfl
def NZ(ops:Array Oper)(o:Oper)(fr:Fr)(yes no:Fr->Prop):Prop:=match o.guard with
 |none=>yes fr
 |some (j,want)=>match ops[j]? with
  |some oj=>match oj.dst with
   |some d=>match look fr d with
    | .lit (.bool b)=>cP b (bif want then yes (FI fr (some d) (.lit (.bool true)))else no (FI fr (some d) (.lit (.bool true)))) (bif want then no (FI fr (some d) (.lit (.bool false)))else yes (FI fr (some d) (.lit (.bool false))))
    | .lit (.tuple _)=>no fr
    |_=>False
   |none=>False
  |none=>False
def Same(fr fr':Fr):Prop:= ∀t,look fr' t=look fr t
theorem Same.put{fr:Fr}{d:Nat}{v:AV}(h:look fr d=v):Same fr (FI fr (some d) v):=λt=>by
 rw[jI];by_cases ht:t=d
 ·rw[if_pos ht,ht,h]
 ·rw[if_neg ht]
theorem Dj{ops:Array Oper}{o:Oper}{fr:Fr}{yes no:Fr->Prop}(h:NZ ops o fr yes no):
  (∃fr',Same fr fr'/\yes fr'/\ ∀ρ n a,gZ ρ n fr a (Dh ops o)->Region.wanted o (yielded ops a.tmps)=true)\/
  (∃fr',Same fr fr'/\no fr'/\ ∀ρ n a,gZ ρ n fr a (Dh ops o)->Region.wanted o (yielded ops a.tmps)=false):=by
 unfold NZ at h;have wnt: ∀{b:Bool},ql ops o fr=some b-> ∀ρ n a,gZ ρ n fr a (Dh ops o)->Region.wanted o (yielded ops a.tmps)=b:=by
  intro b hb ρ n a hs;refine ZM hs.keep ?_;unfold ql at hb ⊢;split at hb
  ·rename_i hg;try simp only[hg]
   exact hb
  ·rename_i j want hg
   try simp only[hg]
   split at hb
   ·rename_i oj hoj
    try simp only[hoj]
    split at hb
    ·rename_i d hd
     try simp only[hd]
     rw[wW,if_pos (by simp[Dh,hg,hoj,hd])];exact hb
    ·cases hb
   ·cases hb
 split at h
 ·rename_i hg
  exact .inl ⟨fr,λ_=>rfl,h,wnt (by simp[ql,hg])⟩
 ·rename_i j want hg
  split at h
  ·rename_i oj hoj
   split at h
   ·rename_i d hd
    split at h
    ·rename_i b hb
     have hw:ql ops o fr=some (b==want):=by simp[ql,hg,hoj,hd,hb]
     rcases jq h with ⟨rfl,h⟩|⟨rfl,h⟩
     ·cases want with
      |true=>exact .inl ⟨_,Same.put hb,h,wnt (by simpa using hw)⟩
      |false=>exact .inr ⟨_,Same.put hb,h,wnt (by simpa using hw)⟩
     ·cases want with
      |true=>exact .inr ⟨_,Same.put hb,h,wnt (by simpa using hw)⟩
      |false=>exact .inl ⟨_,Same.put hb,h,wnt (by simpa using hw)⟩
    ·rename_i x hx
     exact .inr ⟨fr,λ_=>rfl,h,wnt (by simp[ql,hg,hoj,hd,hx])⟩
    ·exact h.elim
   ·exact h.elim
  ·exact h.elim
def isLoad:Op->Bool
 | .load .. =>true
 |_=>false
def FU(tt:TT)(op:Op)(ev:Operand->AV)(h:Heap)(Q:AV->Prop):Prop:=match op with
 | .load t x=>RQ tt t (ev x) h Q
 |op=>bif isN op then vN tt op ev h Q else False
def adL(tt:TT)(n:Nat)(ops:Array Oper)(i:Nat)(fr:Fr)(h:Heap)(Q:Fr->Prop):Prop:=match ops[i]? with
 |some o=>bif Ny n o.dst then NZ ops o fr (λfr1=>FU tt o.op (evA fr1) h λv=>Q (FI fr1 o.dst v)) (λfr1=>Q (FI fr1 o.dst (.lit undef)))else False
 |none=>False
section
variable{P:Program}{tt:TT}{n:Nat}{ops:Array Oper}
def yJ(P:Program)(n:Nat)(ops:Array Oper)(i:Nat)(fr:Fr)(h:Heap):Prop:= ∃o,ops[i]? =some o/\Ny n o.dst=true/\
 ∀ρ T w a,(isLoad o.op=true->Rel h ρ T w)->gZ ρ n fr a (iO ops o)-> ∃u,YieldsAt P ops w o u a/\ ∀d,o.dst=some d->bn ρ (look fr d) u
theorem Ya(hT:tt.ok P){o:Oper}{ev:Operand->AV}{h:Heap}{Q:AV->Prop}(hq:FU tt o.op ev h Q): ∃v,Q v/\ ∀ρ T w e,(isLoad o.op=true->Rel h ρ T w)->(∀x,bn ρ (ev x) (e x))-> ∃u,(execOp e o).run P w= .ok (.value u) w/\bn ρ v u:=by
 obtain⟨dst,op,ty,pos,after,guard⟩:=o;have nn: ∀b:Bool,(bif b then vN tt op ev h Q else False)-> ∃v,Q v/\ ∀(ρ:Ren) (T:Nat->Prop) (w:World) (e:Operand->Value),(isLoad op=true->Rel h ρ T w)->(∀x,bn ρ (ev x) (e x))-> ∃u,(execOp e ⟨dst,op,ty,pos,after,guard⟩).run P w= .ok (.value u) w/\bn ρ v u:=λb hq=>by
  cases b with
  |false=>exact hq.elim
  |true=>
   obtain⟨v,h1,h2⟩:=amx hq;refine⟨v,h1,λρ T w e _ he=> ?_⟩;obtain⟨v',u,h3,h4,rfl⟩:=aqI (P:=P) (o:=⟨dst,op,ty,pos,after,guard⟩) hT he h2;exact⟨u,h3 w,h4⟩
 cases op<;>simp only[FU]at hq<;>try exact nn _ hq
 case load t x=>
  obtain⟨v,h1,h2⟩:=NW hq;refine⟨v,h1,λρ T w e hR he=> ?_⟩;obtain⟨v',⟨u,h3,h4⟩,rfl⟩:=XY (P:=P) hT (hR rfl) h2 (he x);exact⟨u,by simp only[execOp];exact nI h3,h4⟩
theorem adM{op:Op}{ev:Operand->AV}{h:Heap}{Q:AV->Prop}(hq:FU tt op ev h Q): ∃v,Q v/\FU tt op ev h (λr=>r=v):=by
 have nn: ∀b:Bool,(bif b then vN tt op ev h Q else False)-> ∃v,Q v/\(bif b then vN tt op ev h (λr=>r=v)else False):=λb hq=>by
  cases b with
  |false=>exact hq.elim
  |true=>exact amx hq
 cases op
 case load t x=>exact NW hq
 all_goals
  simp only[FU]at hq ⊢;exact nn _ hq
theorem Dk{op:Op}{ev ev':Operand->AV}{h:Heap}{Q:AV->Prop}(he: ∀x∈op.operands,ev x=ev' x):FU tt op ev h Q=FU tt op ev' h Q:=by
 have:=X8 (tt:=tt) (hp:=h) (Q:=Q) he;cases op<;>simp only[FU]<;>try rw[this]
 case load t x=>simp[Op.operands]at he;rw[he]
theorem adN(hT:tt.ok P){i:Nat}{fr:Fr}{h:Heap}{Q:Fr->Prop}(hs: ∀o d,ops[i]? =some o->o.dst=some d->d ∉ iO ops o)(hq:adL tt n ops i fr h Q):
  ∃o fr',ops[i]? =some o/\Q fr'/\(∀t,(∀d,o.dst=some d->t≠d)->look fr' t=look fr t)/\yJ P n ops i fr' h:=by
 unfold adL at hq;split at hq
 ·rename_i o ho
  cases hd:Ny n o.dst with
  |false=>rw[hd]at hq;exact hq.elim
  |true=>
   rw[hd]at hq;simp only[aP]at hq;have agree: ∀{fr1:Fr} {v:AV},Same fr fr1-> ∀t,(∀d,o.dst=some d->t≠d)->look (FI fr1 o.dst v) t=look fr t:=λ{fr1 v} hsame t ht=>by
    cases hod:o.dst with
    |none=>simp only[FI];exact hsame t
    |some d=>rw[jI,if_neg (ht d hod)];exact hsame t
   have back: ∀{fr1:Fr} {v:AV} {ρ:Ren} {a:Act},Same fr fr1->gZ ρ n (FI fr1 o.dst v) a (iO ops o)->gZ ρ n fr a (iO ops o):=λ{fr1 v ρ a} hsame hf=>
    hf.sub (λt ht=>ht) λt ht=>(agree hsame t λd hod hh=>hs o d ho hod (by rw[<-hh];exact ht)).symm
   have gd: ∀{fr':Fr} {ρ:Ren} {a:Act},gZ ρ n fr' a (iO ops o)->gZ ρ n fr' a (Dh ops o):=λhf=>hf.sub (λt ht=>by simp[iO,ht]) λt _=>rfl
   rcases Dj hq with ⟨fr1,hsame,hq,hw⟩|⟨fr1,hsame,hq,hw⟩
   ·obtain⟨v,hv,hy⟩:=adM hq
    refine⟨o,_,ho,hv,agree hsame,o,ho,hd,λρ T w a hR hf=> ?_⟩;have hf0:=back hsame hf;have hf1:gZ ρ n fr1 a (iO ops o):=hf0.sub (λt ht=>ht) λt _=>hsame t
    rw[Dk (X9 (fr:=fr1) (S:=iO ops o) λt ht=>by simp[iO,ht])]at hy;obtain⟨v',hv',hy2⟩:=Ya (P:=P) hT hy;obtain⟨u,h1,h2⟩:=hy2 ρ T w a.eval hR (λx=>hf1.keep.ev x);rw[hv']at h2;refine⟨u,.inl ⟨hw ρ n a (gd hf0),.inl h1⟩,λd hod=> ?_⟩;rw[hod,jI,if_pos rfl];exact h2
   ·refine⟨o,_,ho,hq,agree hsame,o,ho,hd,λρ T w a hR hf=> ?_⟩
    refine⟨undef,.inr ⟨hw ρ n a (gd (back hsame hf)),rfl⟩,λd hod=> ?_⟩;rw[hod,jI,if_pos rfl];simp only[bn]
 ·exact hq.elim
theorem nU.same{ρ:Ren}{fr fr':Fr}{a:Act}(h:nU ρ n fr a)(hs: ∀t,look fr' t=look fr t\/look fr' t= .any):nU ρ n fr' a:=⟨h.size,h.defers,λt=>by
 rcases hs t with h'|h'
 ·rw[h'];exact h.vals t
 ·rw[h'];simp only[bn]⟩
abbrev WFn:=FuncId->List AV->Heap->(AV->Heap->Prop)->Prop
def XSp(P:Program)(f:FuncId)(args:List AV)(h:Heap)(K:AV->Heap->Prop):Prop:= ∀ρ T w vs,Rel h ρ T w->dP ρ args vs.toList->
 ∃v h' u w' ρ',(callFunc f vs).run P w= .ok (.value u) w'/\(∀i,i<h.next->ρ' i=ρ i)/\ρ.le ρ'/\h.next<=h'.next/\Rel h' ρ' T w'/\bn ρ' v u/\Keeps T w w'/\K v h'
def SpE(P:Program)(f:FuncId)(args:List AV)(h:Heap)(K:AV->Heap->Prop):Prop:=Sp P f args h K\/XSp P f args h K
def WOk(P:Program)(call:WFn):Prop:= ∀g args h K,call g args h K->SpE P g args h K
def vDo(call:WFn)(tt:TT)(op:Op)(ev:Operand->AV)(h:Heap)(K:AV->Heap->Prop):Prop:=match op with
 | .call c=>match c.callee with
  | .value x=>match ev x with
   | .fn (.func g) first cap=>call g (first++c.args.toList.map ev++cap) h K
   |_=>False
  |_=>vX tt (.call c) ev h K
 |op=>vX tt op ev h K
def aqc(call:WFn)(tt:TT)(n:Nat)(ops:Array Oper)(i:Nat)(fr:Fr)(h:Heap)(Q:Fr->Heap->Prop):Prop:=match ops[i]? with
 |some o=>bif Ny n o.dst then NZ ops o fr (λfr1=>vDo call tt o.op (evA fr1) h λv h'=>Q (FI fr1 o.dst v) h') (λfr1=>Q (FI fr1 o.dst (.lit undef)) h)else False
 |none=>False
theorem adO{call:WFn}{op:Op}{ev ev':Operand->AV}{h:Heap}{K:AV->Heap->Prop}(he: ∀x∈op.operands,ev x=ev' x):vDo call tt op ev h K=vDo call tt op ev' h K:=by
 have e:=ajq (tt:=tt) (hp:=h) (Q:=K) he;cases op<;>simp only[vDo]<;>try rw[e]
 case call c=>
  have e1:c.args.toList.map ev=c.args.toList.map ev':=map_congr λx hx=>he x (by simp[Op.operands,Call.operands];exact .inr (by simpa using hx))
  split
  ·rename_i x hx
   have e2:ev x=ev' x:=he x (by simp[Op.operands,Call.operands,hx]);rw[e1,e2]
  ·first|rfl|rw[e]
def Then(ρ:Ren)(T:Nat->Prop)(w:World)(h:Heap)(a:Act)(d:Option Nat)(K:AV->Heap->Prop)(a':Act)(w':World):Prop:=
 ∃v h' u ρ',a'=a.put d u/\(∀i,i<h.next->ρ' i=ρ i)/\ρ.le ρ'/\h.next<=h'.next/\Rel h' ρ' T w'/\bn ρ' v u/\Keeps T w w'/\K v h'
theorem aqL(hT:tt.ok P){call:WFn}(hc:WOk P call){Q:Exit->Act->World->Prop}{i:Nat}{o:Oper}(ho:ops[i]? =some o){fr:Fr}{h:Heap}{K:AV->Heap->Prop}{ρ:Ren}{T:Nat->Prop}{w:World}{a:Act}(hR:Rel h ρ T w)
  (hf:nU ρ n fr a) (hw:Region.wanted o (yielded ops a.tmps)=true) (hq:vDo call tt o.op (evA fr) h K):wpOp P ops Q i (Then ρ T w h a o.dst K) a w:=by
 have xx:vX tt o.op (evA fr) h K->wpOp P ops Q i (Then ρ T w h a o.dst K) a w:=λhq=>by
  obtain⟨v,h',u,w',ρ',h1,h2,h3,h4,h5,h6,h7,h8⟩:=vX_ok (P:=P) hT hR (λx=>hf.ev x) (λv=>rfl) hq;exact NC ho hw h1 ⟨v,h',u,ρ',rfl,h2,h3,h4,h5,h6,h7,h8⟩
 obtain⟨dst,op,ty,pos,after,guard⟩:=o;cases op<;>simp only[vDo]at hq<;>try exact xx hq
 case call c=>
  split at hq
  ·rename_i x hcx
   split at hq
   ·rename_i g first cap hx
    have hspec:=hc _ _ _ _ hq;have hxv:=hf.ev x;rw[hx]at hxv;simp only[bn]at hxv;obtain⟨fa,ca,hxe,hfa,hca⟩:=hxv;have hargs:dP ρ (first++c.args.toList.map (evA fr)++cap) (fa++c.args.map a.eval++ca).toList:=by
     simp only[Array.toList_append,Array.toList_map];exact(hfa.append (l7 (λy=>hf.ev y) _)).append hca
    rcases hspec with hspec|hspec
    ·have hrun:(execOp a.eval ⟨dst,.call c,ty,pos,after,guard⟩).run P w= .ok (.enter g (fa++c.args.map a.eval++ca)) w:=by
      simp only[execOp,resolve,hcx,hxe,Sem.run_bind,Deferred.ofValue,Sem.run_pure,Result.andThen_ok,invoke];exact Aj hspec.1 _ _
     unfold wpOp;simp only[ho,hw,if_true,Oper.wp,hrun,Oper.upon];refine .inl ((hspec.2 ρ T w _ hR hargs).mono ?_)
     rintro e w' ⟨ρ',v,u,h',h1,h2,h3,h4,rfl,h5,h6⟩
     have hle:ρ.le ρ':=λj b hb=>by
      have hj:j<h.next:=by
       obtain⟨_,_,_,_,r4,_⟩:=hR;rcases Nat.lt_or_ge j h.next with hlt|hge
       ·exact hlt
       ·rw[r4 j hge]at hb;cases hb
      rw[h1 j hj];exact hb
     exact⟨v,h',u,ρ',rfl,h1,hle,h2,h3,h4,h5,h6⟩
    ·obtain⟨v,h',u,w',ρ',r1,r2,r3,r4,r5,r6,r7,r8⟩:=hspec ρ T w _ hR hargs
     refine NC ho hw (.inl ?_) ⟨v,h',u,ρ',rfl,r2,r3,r4,r5,r6,r7,r8⟩;simp only[execOp,resolve,hcx,hxe,Sem.run_bind,Deferred.ofValue,Sem.run_pure,Result.andThen_ok,invoke];exact r1
   ·exact hq.elim
  ·exact xx hq
theorem adP(hT:tt.ok P){call:WFn}(hc:WOk P call){Q:Exit->Act->World->Prop}{i:Nat}{fr:Fr}{h:Heap}{K:Fr->Heap->Prop}{ρ:Ren}{T:Nat->Prop}{w:World}{a:Act}{l:List Nat}(hR:Rel h ρ T w)
  (hf:nU ρ n (Di fr l) a) (hl: ∀t∈slotsOf ops i,t ∉ l) (hq:aqc call tt n ops i fr h K):
  wpOp P ops Q i (λa' w'=> ∃fr' h' ρ',(∀j,j<h.next->ρ' j=ρ j)/\h.next<=h'.next/\Rel h' ρ' T w'/\nU ρ' n (Di fr' (l.filter λt=>iP ops i !=some t)) a'/\(∀t,iP ops i≠some t->look fr' t=look fr t)/\Keeps T w w'/\K fr' h') a w:=by
 unfold aqc at hq;split at hq
 ·rename_i o ho
  have hso: ∀t∈iO ops o,t ∉ l:=by simpa only[slotsOf,ho]using hl
  have hdo:iP ops i=o.dst:=by simp only[iP,ho]
  cases hd:Ny n o.dst with
  |false=>rw[hd]at hq;exact hq.elim
  |true=>
   rw[hd]at hq;simp only[aP]at hq;have fin: ∀{fr1:Fr} {v:AV} {u:Value} {ρ':Ren},Same fr fr1->ρ.le ρ'->bn ρ' v u->nU ρ' n (Di (FI fr1 o.dst v) (l.filter λt=>iP ops i !=some t)) (a.put o.dst u)/\ ∀t,iP ops i≠some t->look (FI fr1 o.dst v) t=look fr t:=by
    intro fr1 v u ρ' hsame hle hv;refine⟨?_,λt ht=> ?_⟩
    ·have h1:=(hf.mono hle).put (d:=o.dst) hd hv
     refine h1.same λt=> ?_
     rw[fU];by_cases hm:t∈l.filter λt=>iP ops i !=some t
     ·rw[if_pos hm];exact .inr rfl
     ·rw[if_neg hm]
      refine .inl ?_;rw[hdo]at hm;cases hod:o.dst with
      |none=>
       rw[hod]at hm;simp only[FI];rw[fU,if_neg (by simpa using hm)];exact hsame t
      |some d=>
       rw[hod]at hm;rw[jI,jI,fU];by_cases htd:t=d
       ·simp[htd]
       ·rw[if_neg htd,if_neg htd,if_neg (by intro hh;exact hm (List.mem_filter.2 ⟨hh,by simpa using λh=>htd h.symm⟩))]
        exact hsame t
    ·rw[hdo]at ht
     cases hod:o.dst with
     |none=>simp only[FI];exact hsame t
     |some d=>rw[jI,if_neg (λh=>ht (by rw[hod,h]))];exact hsame t
   rcases Dj hq with ⟨fr1,hsame,hq,hw⟩|⟨fr1,hsame,hq,hw⟩
   ·have hf1:nU ρ n (Di fr1 l) a:=hf.same λt=>by rw[fU,fU,hsame t];exact .inl rfl
    rw[adO (ajr (fr:=fr1) (l:=l) λt ht=>hso t (by simp[iO,ht]))]at hq;refine wpOp_mono ?_ (aqL (P:=P) (Q:=Q) hT hc ho hR hf1 (hw ρ n a (.SH hf λt ht=>hso t (by simp[iO,ht]))) hq)
    rintro a' w' ⟨v,h',u,ρ',rfl,h1,h2,h3,h4,h5,h6,h7⟩
    obtain⟨f1,f2⟩:=fin (v:=v) hsame h2 h5;exact⟨_,h',ρ',h1,h3,h4,f1,f2,h6,h7⟩
   ·obtain⟨f1,f2⟩:=fin (v:= .lit undef) (u:=undef) hsame (Ren.le_refl _) (by simp only[bn])
    unfold wpOp;simp only[ho,hw ρ n a (.SH hf λt ht=>hso t (by simp[iO,ht]))];exact⟨_,h,ρ,λ_ _=>rfl,aY _,hR,f1,f2,Keeps.refl _ _,hq⟩
 ·exact hq.elim
end
inductive Pl where
 |nil
 |st (i:Nat) (p:Pl)
 |ac (i:Nat) (np rc:List Nat) (p:Pl)
 |alt (p q:Pl)
def opAt(ops:Array Oper)(i:Nat):Op:=match ops[i]? with
 |some o=>o.op
 |none=> .alloc 0
def aqM(ops:Array Oper)(i:Nat):Bool:=(isN (opAt ops i)||isLoad (opAt ops i))&&(match iP ops i with
 |none=>true
 |some d=> !(slotsOf ops i).contains d&&(List.range ops.size).all λj=>Nat.beq j i||((match iP ops j with|some e=> !Nat.beq e d|none=>true)&&(!(slotsOf ops j).contains d||(anc ops j).contains i)))
def aqN(ops:Array Oper)(i:Nat)(pend np rc:List Nat):Bool:=
 pend.all (λp=>(anc ops i).contains p||np.contains p)&&(slotsOf ops i).all (λt=> !(DS ops np).contains t)&&
 (match iP ops i with|some d=>np.all λp=> !(slotsOf ops p).contains d&&(match iP ops p with|some e=> !Nat.beq e d|none=>true)|none=>true)&&np.all (λp=> !isLoad (opAt ops p)||rc.contains p)
def heads:Pl->List Nat
 | .ac i _ _ _=>[i]
 | .alt p q=>heads p++heads q
 |_=>[]
mutual
def SI(ops:Array Oper):Pl->List Nat->Array Bool->Bool
 | .nil,_,A=>(Region.ready .any ops A).isEmpty
 | .st i p,pend,A=>(Region.ready .any ops A).contains i&&aqM ops i&&SI ops p (i::pend) (A.setIfInBounds i true)
 | .ac i np rc p,pend,A=>(Region.ready .any ops A==[i])&&aqN ops i pend np rc&&SI ops p np (A.setIfInBounds i true)
 | .alt p q,pend,A=>(Region.ready .any ops A==heads p++heads q)&&okH ops p pend A&&okH ops q pend A
def okH(ops:Array Oper):Pl->List Nat->Array Bool->Bool
 | .ac i np rc p,pend,A=>aqN ops i pend np rc&&SI ops p np (A.setIfInBounds i true)
 | .alt p q,pend,A=>okH ops p pend A&&okH ops q pend A
 |_,_,_=>false
end
def oK(ops:Array Oper):Bool:=(List.range ops.size).all λi=>match ops[i]? with
 |some o=>o.after.toList.all λe=> !Region.binds .any e||Nat.blt e.on i
 |none=>true
def an4(ops:Array Oper)(rec:List Nat->Array Bool->Pl)(pend:List Nat)(A:Array Bool)(i:Nat):Pl:=
 let np:=pend.filter λp=> !(anc ops i).contains p
 .ac i np (np.filter λp=>isLoad (opAt ops p)) (rec np (A.setIfInBounds i true))
def Yb(mk:Nat->Pl)(i:Nat):List Nat->Pl
 |[]=>mk i
 |j::l=> .alt (mk i) (Yb mk j l)
def ajs(ops:Array Oper):Nat->List Nat->Array Bool->Pl
 |0,_,_=> .nil
 |f+1,pend,A=>match (Region.ready .any ops A).find? (aqM ops)with
  |some i=> .st i (ajs ops f (i::pend) (A.setIfInBounds i true))
  |none=>match Region.ready .any ops A with
   |[]=> .nil
   |i::l=>Yb (an4 ops (ajs ops f) pend A) i l
def N7(tt:TT)(n:Nat)(ops:Array Oper)(fr:Fr)(h:Heap):List Nat->Prop
 |[]=>True
 |p::l=>(match ops[p]? with
  |some o=>bif Ny n o.dst then NZ ops o fr (λfr1=>FU tt o.op (evA fr1) h λv=>match o.dst with|some d=>v=look fr d|none=>True) (λ_=>match o.dst with|some d=>look fr d= .lit undef|none=>True)else False
  |none=>False)/\N7 tt n ops fr h l
def vPl(call:WFn)(tt:TT)(n:Nat)(ops:Array Oper):Pl->Fr->Heap->(Fr->Heap->Prop)->Prop
 | .nil,fr,h,Q=>Q fr h
 | .st i p,fr,h,Q=>adL tt n ops i fr h λfr'=>vPl call tt n ops p fr' h Q
 | .ac i _ rc p,fr,h,Q=>aqc call tt n ops i fr h λfr' h'=>N7 tt n ops fr' h' rc/\vPl call tt n ops p fr' h' Q
 | .alt p q,fr,h,Q=>vPl call tt n ops p fr h Q/\vPl call tt n ops q fr h Q
section
variable{P:Program}{tt:TT}{n:Nat}{ops:Array Oper}
theorem yJ.congr{i:Nat}{fr fr':Fr}{h:Heap}(hs:yJ P n ops i fr h)(hsl: ∀t∈slotsOf ops i,look fr' t=look fr t)(hd: ∀d,iP ops i=some d->look fr' d=look fr d):yJ P n ops i fr' h:=by
 obtain⟨o,ho,hdo,hq⟩:=hs;have e1:slotsOf ops i=iO ops o:=by simp only[slotsOf,ho]
 have e2:iP ops i=o.dst:=by simp only[iP,ho]
 refine⟨o,ho,hdo,λρ T w a hR hf=> ?_⟩;obtain⟨u,h1,h2⟩:=hq ρ T w a hR (hf.sub (λt ht=>ht) λt ht=>(hsl t (by rw[e1];exact ht)).symm);exact⟨u,h1,λd hod=>by rw[hd d (by rw[e2,hod])];exact h2 d hod⟩
theorem ajt{q j:Nat}{o:Oper}(ho:ops[q]? =some o){e:Edge}(he:e∈o.after)(hb:Region.binds .any e=true)(hj:e.on=j):jL ops q j=true:=by
 simp only[jL,ho,List.any_eq_true,aJ];exact⟨e,by simpa using he,hb,by rw[hj];exact Nat.beq_refl _⟩
theorem Yc{s:Array Bool}{q:Nat}{o:Oper}(hsz:s.size=ops.size)(ho:ops[q]? =some o)(hq:s.getD q false=false)(hd: ∀j,jL ops q j=true->s.getD j false=true):q∈Region.ready .any ops s:=by
 have hlt:q<s.size:=by rw[hsz];exact(Array.getElem?_eq_some_iff.1 ho).1
 refine mem_ready.2 ⟨?_,o,ho,λe he hb=>hd _ (ajt ho he hb rfl)⟩;simp[hlt]at hq ⊢;exact hq
theorem wX{s:Array Bool}{q:Nat}(h:q∈Region.ready .any ops s):q<ops.size/\(s.size=ops.size->s.getD q false=false):=by
 obtain⟨h1,o,ho,_⟩:=mem_ready.1 h;have hlt:=(Array.getElem?_eq_some_iff.1 ho).1;refine⟨hlt,λhsz=> ?_⟩;have:q<s.size:=by omega
 simp[this]at h1 ⊢;exact h1
theorem jr{s:Array Bool}{i:Nat}(hi:i<s.size)(j:Nat):(s.setIfInBounds i true).getD j false=(Nat.beq j i||s.getD j false):=by
 by_cases h:j=i
 ·subst h;simp[hi]
 ·rw[getD_set_ne false (Ne.symm h),eP h];simp
theorem qx{l:List Nat}{d:Nat}:d∈DS ops l↔ ∃p∈l,iP ops p=some d:=by simp[DS]
variable{fr0:Fr}{k:Nat}{Q:Fr->Heap->Prop}{ρ₀:Ren}{T:Nat->Prop}{w₀:World}{call:WFn}
structure JS (P:Program) (tt:TT) (call:WFn) (n:Nat) (ops:Array Oper) (fr0:Fr) (k:Nat) (Q:Fr->Heap->Prop) (ρ₀:Ren) (T:Nat->Prop) (w₀:World) (pl:Pl) (pend Pd:List Nat) (A:Array Bool) (fr:Fr) (h:Heap) (ρ:Ren) (s:Array Bool) (a:Act) (w:World):Prop where
 ok:SI ops pl pend A=true
 asz:A.size=ops.size
 ssz:s.size=ops.size
 sub: ∀i∈Pd,i∈pend
 pdA: ∀i∈Pd,A.getD i false=true
 st: ∀i∈Pd,aqM ops i=true
 eq: ∀i,s.getD i false=(A.getD i false&& !Pd.contains i)
 cs:Closed ops s
 cA:Closed ops A
 ren: ∀i,i<k->ρ i=ρ₀ i
 keeps:Keeps T w₀ w
 kle:k<=h.next
 rel:Rel h ρ T w
 frm:nU ρ n (Di fr (DS ops Pd)) a
 still: ∀p∈Pd,yJ P n ops p fr h
 v:vPl call tt n ops pl fr h Q
 ag: ∀t,(∀i,iP ops i≠some t)->look fr t=look fr0 t
theorem wY{i d:Nat}(h:aqM ops i=true)(hd:iP ops i=some d):d ∉ slotsOf ops i/\ ∀j,j<ops.size->j≠i->iP ops j≠some d/\(d∈slotsOf ops j->i∈anc ops j):=by
 simp only[aqM,hd,aJ,Bool.not_eq_true',List.all_eq_true,List.mem_range,Bool.or_eq_true]at h;obtain⟨_,h1,h2⟩:=h;refine⟨by simpa using h1,λj hj hji=> ?_⟩;rcases h2 j hj with h3|⟨h3,h4⟩
 ·exact absurd (au h3) hji
 ·refine⟨λhh=> ?_,λhh=> ?_⟩
  ·rw[hh]at h3;simp at h3
  ·rcases h4 with h4|h4
   ·simp[hh]at h4
   ·simpa using h4
theorem JS.peek(hT:tt.ok P){i:Nat}{p:Pl}{pend Pd:List Nat}{A:Array Bool}{fr:Fr}{h:Heap}{ρ:Ren}{s:Array Bool}{a:Act}{w:World}(J:JS P tt call n ops fr0 k Q ρ₀ T w₀ (.st i p) pend Pd A fr h ρ s a w):
  ∃fr',JS P tt call n ops fr0 k Q ρ₀ T w₀ p (i::pend) (i::Pd) (A.setIfInBounds i true) fr' h ρ s a w:=by
 have hok:=J.ok;simp only[SI,aJ]at hok;obtain⟨⟨hr,hst⟩,hok⟩:=hok;have hr:i∈Region.ready .any ops A:=by simpa using hr
 obtain⟨hlt,hAi⟩:=wX hr;have hAi:=hAi J.asz;have hns: ∀o d,ops[i]? =some o->o.dst=some d->d ∉ iO ops o:=λo d ho hd=>by
  have:=(wY (d:=d) hst (by simp only[iP,ho,hd])).1;simpa only[slotsOf,ho]using this
 obtain⟨o,fr',ho,hv,hag,hsa⟩:=adN (P:=P) hT hns J.v;have hdo:iP ops i=o.dst:=by simp only[iP,ho]
 have hag: ∀t,iP ops i≠some t->look fr' t=look fr t:=λt ht=>hag t λd hd hh=>ht (by rw[hdo,hd,hh])
 have hiA:i<A.size:=by rw[J.asz];exact hlt
 refine⟨fr',hok,by simp[J.asz],J.ssz,λq hq=> ?_,λq hq=> ?_,λq hq=> ?_,λq=> ?_,J.cs,sZ J.cA hr,J.ren,J.keeps,J.kle,J.rel,?_,λq hq=> ?_,hv,λt ht=>(hag t (ht i)).trans (J.ag t ht)⟩
 ·rcases List.mem_cons.1 hq with rfl|hq
  ·simp
  ·exact List.mem_cons_of_mem _ (J.sub q hq)
 ·rw[jr hiA]
  rcases List.mem_cons.1 hq with rfl|hq
  ·simp
  ·rw[J.pdA q hq];simp
 ·rcases List.mem_cons.1 hq with rfl|hq
  ·exact hst
  ·exact J.st q hq
 ·rw[J.eq q,jr hiA]
  by_cases hqi:q=i
  ·subst hqi;rw[hAi];simp
  ·simp[eP hqi,hqi]
 ·refine J.frm.same λt=> ?_
  rw[fU,fU];by_cases h1:t∈DS ops (i::Pd)
  ·rw[if_pos h1];exact .inr rfl
  ·rw[if_neg h1]
   have h2:t ∉ DS ops Pd:=λhh=>h1 (by obtain⟨p,hp,hpd⟩:=qx.1 hh;exact qx.2 ⟨p,List.mem_cons_of_mem _ hp,hpd⟩)
   rw[if_neg h2];exact .inl (hag t λhh=>h1 (qx.2 ⟨i,by simp,hh⟩))
 ·rcases List.mem_cons.1 hq with rfl|hq
  ·exact hsa
  ·have hqA:=J.pdA q hq
   have hqi:q≠i:=λhh=>by rw[hh,hAi]at hqA;cases hqA
   have hqlt:q<ops.size:=by
    rcases Nat.lt_or_ge q A.size with h'|h'
    ·rw[J.asz]at h';exact h'
    ·simp[Array.getElem?_eq_none h']at hqA
   refine(J.still q hq).congr (λt ht=>hag t λhh=> ?_) (λd hd=>hag d λhh=> ?_)
   ·--it would come behind i
    have:=((wY hst hh).2 q hqlt hqi).2 ht;have hi:=I7 J.cA (λj hj=>J.cA q j hqA hj) ops.size [] (λ_ hq=>by cases hq) i this;rw[hAi]at hi;cases hi
   ·exact((wY hst hh).2 q hqlt hqi).1 hd
theorem JS.done{pl:Pl}{pend Pd:List Nat}{A:Array Bool}{fr:Fr}{h:Heap}{ρ:Ren}{s:Array Bool}{a:Act}{w:World}(J:JS P tt call n ops fr0 k Q ρ₀ T w₀ pl pend Pd A fr h ρ s a w){p:Nat}(hp:p∈Pd)(hr:p∈Region.ready .any ops s)
  {Qx:Exit->Act->World->Prop}:wpOp P ops Qx p (λa' w'=>JS P tt call n ops fr0 k Q ρ₀ T w₀ pl pend (Pd.filter (· !=p)) A fr h ρ (s.setIfInBounds p true) a' w') a w:=by
 obtain⟨o,ho,hdo,hy⟩:=J.still p hp;obtain⟨hlt,hsp⟩:=wX hr;have hps:p<s.size:=by rw[J.ssz];exact hlt
 have e1:slotsOf ops p=iO ops o:=by simp only[slotsOf,ho]
 have e2:iP ops p=o.dst:=by simp only[iP,ho]
 have hsl: ∀t∈iO ops o,t ∉ DS ops Pd:=λt ht hm=>by
  obtain⟨q,hq,hqd⟩:=qx.1 hm;by_cases hqp:q=p
  ·subst hqp
   exact(wY (J.st q hq) hqd).1 (by rw[e1];exact ht)
  ·have:=((wY (J.st q hq) hqd).2 p hlt (Ne.symm hqp)).2 (by rw[e1];exact ht)
   have hs:=amy J.cs hr q this;rw[J.eq q]at hs;simp[hq]at hs
 obtain⟨u,hyu,hru⟩:=hy ρ T w a (λ_=>J.rel) (.SH J.frm hsl);refine YieldsAt.wpOp' ho hyu ⟨J.ok,J.asz,by simp[J.ssz],λq hq=>J.sub q (List.mem_filter.1 hq).1,λq hq=>J.pdA q (List.mem_filter.1 hq).1,λq hq=>J.st q (List.mem_filter.1 hq).1,λq=> ?_,sZ J.cs hr,J.cA,J.ren,J.keeps,J.kle,J.rel,?_,λq hq=>J.still q (List.mem_filter.1 hq).1,J.v,J.ag⟩
 ·rw[jr hps,J.eq q]
  by_cases hqp:q=p
  ·subst hqp;rw[J.pdA q hp];simp
  ·rw[eP hqp]
   simp[hqp]
 ·have h1:=J.frm.put (v:=match o.dst with|some d=>look fr d|none=> .any) hdo (show bn ρ _ u by
   cases hod:o.dst with
   |none=>simp only[bn]
   |some d=>exact hru d hod)
  refine h1.same λt=> ?_
  rw[fU];by_cases hm:t∈DS ops (Pd.filter (· !=p))
  ·rw[if_pos hm];exact .inr rfl
  ·rw[if_neg hm]
   refine .inl ?_;cases hod:o.dst with
   |none=>
    simp only[FI];rw[fU,if_neg];intro hh;obtain⟨q,hq,hqd⟩:=qx.1 hh;refine hm (qx.2 ⟨q,List.mem_filter.2 ⟨hq,?_⟩,hqd⟩);have:q≠p:=λhqp=>by rw[hqp,e2,hod]at hqd;cases hqd
    simpa using this
   |some d=>
    rw[jI];by_cases htd:t=d
    ·rw[if_pos htd,htd]
    ·rw[if_neg htd,fU,if_neg]
     intro hh;obtain⟨q,hq,hqd⟩:=qx.1 hh;refine hm (qx.2 ⟨q,List.mem_filter.2 ⟨hq,?_⟩,hqd⟩);have:q≠p:=λhqp=>by rw[hqp,e2,hod]at hqd;cases hqd;exact htd rfl
     simpa using this
theorem N8: ∀{pl:Pl} {pend:List Nat} {A:Array Bool},okH ops pl pend A=true->heads pl≠[]
 | .ac i np rc p,_,_,_=>by simp[heads]
 | .alt p q,pend,A,h=>by
  simp only[okH,aJ]at h;have:=N8 h.1;simp[heads,this]
 | .nil,_,_,h=>by simp[okH]at h
 | .st _ _,_,_,h=>by simp[okH]at h
theorem BK: ∀{pl:Pl} {pend:List Nat} {A:Array Bool} {fr:Fr} {h:Heap} {j:Nat},okH ops pl pend A=true->j∈heads pl->vPl call tt n ops pl fr h Q->
  ∃np rc p,aqN ops j pend np rc=true/\SI ops p np (A.setIfInBounds j true)=true/\aqc call tt n ops j fr h (λfr' h'=>N7 tt n ops fr' h' rc/\vPl call tt n ops p fr' h' Q)
 | .ac i np rc p,pend,A,fr,h,j,hok,hj,hv=>by
  simp only[heads,List.mem_singleton]at hj;subst hj;simp only[okH,aJ]at hok;exact⟨np,rc,p,hok.1,hok.2,hv⟩
 | .alt p q,pend,A,fr,h,j,hok,hj,hv=>by
  simp only[okH,aJ]at hok;rcases List.mem_append.1 hj with hj|hj
  ·exact BK hok.1 hj hv.1
  ·exact BK hok.2 hj hv.2
 | .nil,_,_,_,_,_,hok,_,_=>by simp[okH]at hok
 | .st _ _,_,_,_,_,_,hok,_,_=>by simp[okH]at hok
theorem N9(hT:tt.ok P){fr:Fr}{h:Heap}: ∀{l:List Nat},N7 tt n ops fr h l-> ∀p∈l,yJ P n ops p fr h
 |q::l,hv,p,hp=>by
  rcases List.mem_cons.1 hp with rfl|hp
  ·have hv:=hv.1
   split at hv
   ·rename_i o ho
    cases hd:Ny n o.dst with
    |false=>rw[hd]at hv;exact hv.elim
    |true=>
     rw[hd]at hv;simp only[aP]at hv;have gd: ∀{fr':Fr} {ρ:Ren} {a:Act},gZ ρ n fr' a (iO ops o)->gZ ρ n fr' a (Dh ops o):=λhf=>hf.sub (λt ht=>by simp[iO,ht]) λt _=>rfl
     rcases Dj hv with ⟨fr1,hsame,hq,hw⟩|⟨fr1,hsame,hq,hw⟩
     ·rw[Dk (X9 (fr:=fr1) (S:=iO ops o) λt ht=>by simp[iO,ht])]at hq
      obtain⟨v,hv,hy⟩:=Ya (P:=P) hT hq;refine⟨o,ho,hd,λρ T w a hR hf=> ?_⟩;have hf1:gZ ρ n fr1 a (iO ops o):=hf.sub (λt ht=>ht) λt _=>hsame t
      obtain⟨u,h1,h2⟩:=hy ρ T w a.eval hR (λx=>hf1.keep.ev x);refine⟨u,.inl ⟨hw ρ n a (gd hf),.inl h1⟩,λd hod=> ?_⟩;rw[hod]at hv;simp only at hv;rw[<-hv];exact h2
     ·refine⟨o,ho,hd,λρ T w a hR hf=>⟨undef,.inr ⟨hw ρ n a (gd hf),rfl⟩,λd hod=> ?_⟩⟩
      rw[hod]at hq;simp only at hq;rw[hq];simp only[bn]
   ·exact hv.elim
  ·exact N9 hT hv.2 p hp
theorem JS.act(hT:tt.ok P)(hc:WOk P call){pl:Pl}{pend Pd:List Nat}{A:Array Bool}{fr:Fr}{h:Heap}{ρ:Ren}{s:Array Bool}{a:Act}{w:World}(J:JS P tt call n ops fr0 k Q ρ₀ T w₀ pl pend Pd A fr h ρ s a w){j:Nat}(hr:j∈Region.ready .any ops s)(hj:j ∉ Pd)
  (an5: ∀i p,pl≠ .st i p) {Qx:Exit->Act->World->Prop}:wpOp P ops Qx j (λa' w'=> ∃pl' adQ Pd' A' fr' h' ρ',JS P tt call n ops fr0 k Q ρ₀ T w₀ pl' adQ Pd' A' fr' h' ρ' (s.setIfInBounds j true) a' w') a w:=by
 obtain⟨hlt,hsj⟩:=wX hr;have hsj:=hsj J.ssz;have hjs:j<s.size:=by rw[J.ssz];exact hlt
 have hjA:j<A.size:=by rw[J.asz];exact hlt
 have hAj:A.getD j false=false:=by
  have:=J.eq j;rw[hsj]at this;have hc:Pd.contains j=false:=by simpa using hj
  rw[hc]at this;simpa using this.symm
 have hsA: ∀q,s.getD q false=true->A.getD q false=true:=λq hq=>by
  rw[J.eq q]at hq;simp only[aJ]at hq;exact hq.1
 obtain⟨h1,o,ho,hall⟩:=mem_ready.1 hr;have hrA:j∈Region.ready .any ops A:=Yc J.asz ho hAj λq hq=>by
  refine hsA q ?_;simp only[jL,ho,List.any_eq_true,aJ]at hq;obtain⟨e,he,hb,hq⟩:=hq;have:=hall e (by simpa using he) hb;rwa [au hq]at this
 have hpick: ∃np rc p,aqN ops j pend np rc=true/\SI ops p np (A.setIfInBounds j true)=true/\aqc call tt n ops j fr h (λfr' h'=>N7 tt n ops fr' h' rc/\vPl call tt n ops p fr' h' Q):=by
  have hok:=J.ok;have hv:=J.v;cases pl with
  |nil=>simp only[SI,List.isEmpty_iff]at hok;rw[hok]at hrA;cases hrA
  |st i p=>exact(an5 i p rfl).elim
  |ac i np rc p=>
   simp only[SI,aJ,beq_iff_eq]at hok;have hji:j=i:=by rw[hok.1.1]at hrA;simpa using hrA
   subst hji;exact⟨np,rc,p,hok.1.2,hok.2,hv⟩
  |alt p q=>
   simp only[SI,aJ,beq_iff_eq]at hok;rw[hok.1.1]at hrA;rcases List.mem_append.1 hrA with hm|hm
   ·exact BK hok.1.2 hm hv.1
   ·exact BK hok.2 hm hv.2
 obtain⟨np,rc,p,hac,hokp,hv⟩:=hpick;simp only[aqN,aJ,List.all_eq_true,Bool.or_eq_true,Bool.not_eq_true']at hac;obtain⟨⟨⟨a1,a2⟩,a3⟩,a4⟩:=hac;have hPnp: ∀q∈Pd,q∈np:=λq hq=>by
  rcases a1 q (J.sub q hq)with h'|h'
  ·have:=amy J.cs hr q (by simpa using h')
   rw[J.eq q]at this;simp[hq]at this
  ·simpa using h'
 have hDS: ∀t,t∈DS ops Pd->t∈DS ops np:=λt ht=>by
  obtain⟨q,hq,hqd⟩:=qx.1 ht;exact qx.2 ⟨q,hPnp q hq,hqd⟩
 refine wpOp_mono ?_ (adP (P:=P) (Q:=Qx) hT hc J.rel J.frm (λt ht hm=>by
  have:=a2 t ht;have h2:=hDS t hm
  simp[h2]at this) hv)
 rintro a' w' ⟨fr',h',ρ',b1,b2,b3,b4,b5,b6,b7,b8⟩
 have hdst: ∀d,iP ops j=some d-> ∀q∈np,d ∉ slotsOf ops q/\iP ops q≠some d:=λd hd q hq=>by
  rw[hd]at a3;simp only[List.all_eq_true,aJ,Bool.not_eq_true']at a3;obtain⟨c1,c2⟩:=a3 q hq;refine⟨by simpa using c1,λhh=> ?_⟩;rw[hh]at c2;simp at c2
 refine⟨p,np,Pd,A.setIfInBounds j true,fr',h',ρ',hokp,by simp[J.asz],by simp[J.ssz],hPnp,λq hq=>getD_set_true (J.pdA q hq),J.st,λq=> ?_,sZ J.cs hr,sZ J.cA hrA,λi hi=>(b1 i (Nat.lt_of_lt_of_le hi J.kle)).trans (J.ren i hi),J.keeps.trans b6,Nat.le_trans J.kle b2,b3,?_,λq hq=> ?_,b8,λt ht=>(b5 t (ht j)).trans (J.ag t ht)⟩
 ·rw[jr hjs,jr hjA,J.eq q]
  by_cases hqj:q=j
  ·subst hqj;simp[hj]
  ·rw[eP hqj];simp
 ·refine b4.same λt=> ?_
  rw[fU,fU];by_cases hm:t∈DS ops Pd
  ·rw[if_pos hm];exact .inr rfl
  ·rw[if_neg hm,if_neg (λhh=>hm (List.mem_filter.1 hh).1)];exact .inl rfl
 ·have hqnp:=hPnp q hq
  rcases a4 q hqnp with hn|hl
  ·--it reads no memory
   have hst:=(J.still q hq).congr (fr':=fr') (λt ht=>b5 t λhh=>(hdst t hh q hqnp).1 ht) (λd hd=>b5 d λhh=>(hdst d hh q hqnp).2 hd);obtain⟨oq,hoq,hdq,hyq⟩:=hst;refine⟨oq,hoq,hdq,λρ T w a hR hf=>hyq ρ T w a (λhl=> ?_) hf⟩;have:opAt ops q=oq.op:=by simp only[opAt,hoq]
   rw[this,hl]at hn;cases hn
  ·exact N9 hT b7 q (by simpa using hl)
theorem JS.norm(hT:tt.ok P): ∀{pl:Pl} {pend Pd:List Nat} {A:Array Bool} {fr:Fr} {h:Heap} {ρ:Ren} {s:Array Bool} {a:Act} {w:World},JS P tt call n ops fr0 k Q ρ₀ T w₀ pl pend Pd A fr h ρ s a w->
  ∃pl' adQ Pd' A' fr' h' ρ',(∀i p,pl'≠ .st i p)/\JS P tt call n ops fr0 k Q ρ₀ T w₀ pl' adQ Pd' A' fr' h' ρ' s a w
 | .st i p,pend,Pd,A,fr,h,ρ,s,a,w,J=>by
  obtain⟨fr',J'⟩:=J.peek hT;exact J'.norm hT
 | .nil,pend,Pd,A,fr,h,ρ,s,a,w,J=>⟨_,_,_,_,_,_,_,(λi p hh=>by cases hh),J⟩
 | .ac ..,pend,Pd,A,fr,h,ρ,s,a,w,J=>⟨_,_,_,_,_,_,_,(λi p hh=>by cases hh),J⟩
 | .alt ..,pend,Pd,A,fr,h,ρ,s,a,w,J=>⟨_,_,_,_,_,_,_,(λi p hh=>by cases hh),J⟩
theorem JS.fin(hdn:oK ops=true){pl:Pl}{pend Pd:List Nat}{A:Array Bool}{fr:Fr}{h:Heap}{ρ:Ren}{s:Array Bool}{a:Act}{w:World}(J:JS P tt call n ops fr0 k Q ρ₀ T w₀ pl pend Pd A fr h ρ s a w)(an5: ∀i p,pl≠ .st i p)
  (hr:Region.ready .any ops s=[]):After k n ρ₀ T w₀ (λfr h=>(∀t,(∀i,iP ops i≠some t)->look fr t=look fr0 t)/\Q fr h) a w:=by
 have hinA: ∀q,A.getD q false=true-> ∃o,ops[q]? =some o:=λq hq=>by
  have:q<A.size:=by
   rcases Nat.lt_or_ge q A.size with h'|h'
   ·exact h'
   ·simp[Array.getElem?_eq_none h']at hq
  rw[J.asz]at this;exact⟨ops[q],by simp[this]⟩
 have hlow: ∀q j,jL ops q j=true->j<q:=λq j hq=>by
  unfold jL at hq;split at hq
  ·rename_i o ho
   have hlt:=(Array.getElem?_eq_some_iff.1 ho).1;simp only[oK,List.all_eq_true,List.mem_range]at hdn;have:=hdn q hlt;simp only[ho,List.all_eq_true,Bool.or_eq_true,Bool.not_eq_true']at this;simp only[List.any_eq_true,aJ]at hq;obtain⟨e,he,hb,hj⟩:=hq;rcases this e he with h'|h'
   ·rw[hb]at h';cases h'
   ·rw[<-au hj];exact bg.1 h'
  ·cases hq
 have hmin: ∀m q,q<=m->q∈Pd->False:=by
  intro m
  induction m using Nat.strongRecOn with
  |_ m ih=>
   intro q hqm hq;obtain⟨o,ho⟩:=hinA q (J.pdA q hq);have:q∈Region.ready .any ops s:=by
    refine Yc J.ssz ho (by rw[J.eq q];simp[hq]) λj hj=> ?_
    have hjq:=hlow q j hj;have hjA:=J.cA q j (J.pdA q hq) hj;rw[J.eq j,hjA];have:j ∉ Pd:=λhh=>ih j (by omega) j (aY _) hh
    simp[this]
   rw[hr]at this;cases this
 have hPd:Pd=[]:=by
  cases Pd with
  |nil=>rfl
  |cons q l=>exact(hmin q q (aY _) (by simp)).elim
 subst hPd;have hsA:s=A:=Rw (by rw[J.ssz,J.asz]) λi=>by rw[J.eq i];simp
 subst hsA;have hok:=J.ok;cases pl with
 |nil=>exact⟨ρ,fr,h,J.ren,⟨J.kle,J.rel,J.frm⟩,J.keeps,J.ag,J.v⟩
 |st i p=>exact(an5 i p rfl).elim
 |ac i np rc p=>
  simp only[SI,aJ,beq_iff_eq]at hok;rw[hr]at hok;cases hok.1.1
 |alt p q=>
  simp only[SI,aJ,beq_iff_eq]at hok;rw[hr]at hok;have:=N8 hok.1.2;cases hp:heads p with
  |nil=>exact(this hp).elim
  |cons x l=>rw[hp]at hok;cases hok.1.1
theorem cnt_lt{p q:Nat->Bool}{x:Nat}: ∀(l:List Nat),(∀y∈l,p y=true->q y=true)->x∈l->q x=true->p x=false->l.countP p<l.countP q
 |[],_,h,_,_=>by cases h
 |y::l,hpq,hx,hqx,hpx=>by
  have hle:l.countP p<=l.countP q:=List.countP_mono_left λy hy=>hpq y (by simp[hy])
  rw[List.countP_cons,List.countP_cons];rcases List.mem_cons.1 hx with rfl|hx
  ·rw[if_neg (by rw[hpx];simp),if_pos hqx];omega
  ·have:=cnt_lt l (λy hy=>hpq y (by simp[hy])) hx hqx hpx
   by_cases hy:p y=true
   ·rw[if_pos hy,if_pos (hpq y (by simp) hy)];omega
   ·rw[if_neg hy];split<;>omega
theorem I8(hT:tt.ok P)(hc:WOk P call)(hdn:oK ops=true): ∀(m:Nat) {pl:Pl} {pend Pd:List Nat} {A:Array Bool} {fr:Fr} {h:Heap} {ρ:Ren} {s:Array Bool} {a:Act} {w:World},JS P tt call n ops fr0 k Q ρ₀ T w₀ pl pend Pd A fr h ρ s a w->
  (List.range ops.size).countP (λi=> !s.getD i false)<=m->wpAny P .any ops (RI k n ρ₀ T w₀ (λfr h=>(∀t,(∀i,iP ops i≠some t)->look fr t=look fr0 t)/\Q fr h)) m s a w
 |0,pl,pend,Pd,A,fr,h,ρ,s,a,w,J,hm=>by
  have hr:Region.ready .any ops s=[]:=by
   cases hr:Region.ready .any ops s with
   |nil=>rfl
   |cons q l=>
    exfalso;obtain⟨hlt,hq⟩:=wX (ops:=ops) (s:=s) (q:=q) (by rw[hr];simp);have:0<(List.range ops.size).countP (λi=> !s.getD i false):=List.countP_pos_iff.2 ⟨q,by simpa using hlt,by simp only[hq J.ssz];rfl⟩;omega
  obtain⟨pl',adQ,Pd',A',fr',h',ρ',hn,J'⟩:=J.norm hT;exact⟨hr,J'.fin hdn hn hr⟩
 |m+1,pl,pend,Pd,A,fr,h,ρ,s,a,w,J,hm=>by
  obtain⟨pl',adQ,Pd',A',fr',h',ρ',hn,J'⟩:=J.norm hT;refine⟨λhr=>J'.fin hdn hn hr,λj hj=> ?_⟩;obtain⟨hlt,hsj⟩:=wX hj;have hsj:=hsj J.ssz;have hjs:j<s.size:=by rw[J.ssz];exact hlt
  have hcnt:(List.range ops.size).countP (λi=> !(s.setIfInBounds j true).getD i false)<=m:=by
   have:=cnt_lt (p:=λi=> !(s.setIfInBounds j true).getD i false) (q:=λi=> !s.getD i false) (x:=j) (List.range ops.size) (λy _ hy=>by
    simp only[jr hjs,Bool.not_eq_true',Bool.or_eq_false_iff]at hy ⊢;exact hy.2) (by simpa using hlt) (by simp only[hsj];rfl) (by simp only[jr hjs,Nat.beq_refl];rfl)
   omega
  by_cases hjp:j∈Pd'
  ·exact wpOp_mono (λa' w' J2=>I8 hT hc hdn m J2 hcnt) (J'.done hjp hj)
  ·exact wpOp_mono (λa' w' ⟨_,_,_,_,_,_,_,J2⟩=>I8 hT hc hdn m J2 hcnt) (J'.act hT hc hj hjp hn)
theorem aju(hT:tt.ok P)(hc:WOk P call)(hm:P.follows .mixedOrders=true){id:Nat}{pl:Pl}(hok:(SI ops pl [] (Array.replicate ops.size false)&&oK ops)=true){fr:Fr}{h:Heap}{Q:Exit->Fr->Heap->Prop}
  (hv:vPl call tt n ops pl fr h (Q .normal)):AWp P k n (.region id ops true) (λe fr' h'=>(∀t,(∀i,iP ops i≠some t)->look fr' t=look fr t)/\Q e fr' h') fr h:=by
 intro ρ T w a hs;simp only[aJ]at hok;have hs':St k n ρ T fr h a w.drew:=⟨hs.le,hs.rel.drew,hs.fr⟩;have hz: ∀i,(Array.replicate ops.size false).getD i false=false:=λi=>by
  by_cases h:i<ops.size<;>simp[h]
 have J:JS P tt call n ops fr k (Q .normal) ρ T w.drew pl [] [] (Array.replicate ops.size false) fr h ρ (Array.replicate ops.size false) a w.drew:=
  ⟨hok.1,by simp,by simp,(λi hi=>by cases hi),(λi hi=>by cases hi),(λi hi=>by cases hi),(λi=>by rw[hz];simp),(λi j hi _=>by rw[hz]at hi;cases hi),(λi j hi _=>by rw[hz]at hi;cases hi),(λ_ _=>rfl),Keeps.refl _ _,hs.le,hs'.rel,hs'.fr,(λp hp=>by cases hp),hv,(λ_ _=>rfl)⟩
 have:=wp_region_any (id:=id) (Q:=RI k n ρ T w.drew (λfr' h=>(∀t,(∀i,iP ops i≠some t)->look fr' t=look fr t)/\Q .normal fr' h)) hm (I8 hT hc hok.2 ops.size J (Nat.le_trans List.countP_le_length (by simp)));refine wp_mono this λe a' w' hh=> ?_
 cases e<;>first|exact After.trans (λ_ _=>rfl) (Keeps.drew T w) hh|exact hh.elim
end
abbrev Tau:=List (Nat×Nat)
def tau:Tau->Nat->Nat
 |[],i=>i
 |(a,b)::r,i=>bif Nat.beq a i then b else tau r i
def I9(i j:Nat)(τ:Tau):Tau:=bif Nat.beq (tau τ i) j then τ else(i,j)::τ
def Oa:Value->Bool
 | .slice none 0 0=>true
 |_=>false
theorem adR{v:Value}(h:Oa v=true):v= .slice none 0 0:=by
 unfold Oa at h;split at h
 ·rfl
 ·cases h
def ghN(i:Nat):Nat:=100000+i
mutual
def matV:AV->AV->Tau->Tau
 | .ptr i _,.ptr j _,τ=>I9 i j τ
 | .sl i _ _ _,.sl j _ _ _,τ=>I9 i j τ
 | .slU i _ _ _,.slU j _ _ _,τ=>I9 i j τ
 | .ni i _ _ _,.ni j _ _ _,τ=>I9 i j τ
 | .slE i _ _ _ _,.slE j _ _ _ _,τ=>I9 i j τ
 | .slW i _ _ _,.slW j _ _ _,τ=>I9 i j τ
 | .slR i _ _ _,.slR j _ _ _,τ=>I9 i j τ
 | .slR i _ _ _,.slE j _ _ _ _,τ=>I9 i j τ
 | .slR i _ _ _,.slW j _ _ _,τ=>I9 i j τ
 | .slR i _ _ _,.slZ _ j _ _ _,τ=>I9 i j τ
 | .slW i _ _ _,.sl j _ _ _,τ=>I9 i j τ
 | .slZ _ i _ _ _,.slZ _ j _ _ _,τ=>I9 i j τ
 | .slZ _ i _ _ _,.slE j _ _ _ _,τ=>I9 i j τ
 | .slZ _ i _ _ _,.slW j _ _ _,τ=>I9 i j τ
 | .slV _ i _ _,.slV _ j _ _,τ=>I9 i j τ
 | .slV _ i _ _,.slW j _ _ _,τ=>I9 i j τ
 | .slR i _ _ _,.slV _ j _ _,τ=>I9 i j τ
 | .slV _ i _ _,.lit v,τ=>bif Oa v then I9 i (ghN i) τ else τ
 | .ifc _ a,.ifc _ b,τ=>matV a b τ
 | .mp i,.mp j,τ=>I9 i j τ
 | .agg l,.agg m,τ=>aai l m τ
 | .tup l,.tup m,τ=>aai l m τ
 | .fn _ a b,.fn _ a' b',τ=>aai b b' (aai a a' τ)
 |_,_,τ=>τ
def aai:List AV->List AV->Tau->Tau
 |a::l,b::m,τ=>aai l m (matV a b τ)
 |_,_,τ=>τ
end
def an6:Value->Value->Prop
 | .int k a,.int k' b=>if k=k' then a=b else False
 | .bool a,.bool b=>a=b
 | .string a,.string b=>a=b
 |a,b=>a=b
theorem ajv{a b:Value}(h:an6 a b):a=b:=by
 unfold an6 at h;split at h
 ·split at h
  ·rename_i hk;rw[hk,h]
  ·exact h.elim
 ·rw[h]
 ·rw[h]
 ·exact h
mutual
def eqV(τ:Tau):AV->AV->Prop
 | .any,_=>True
 | .one,b=>bif oneCell b then True else False
 | .arr n g,.arr n' g'=>n=n'/\ ∀q,q<n->g q=g' q
 | .lit a,.lit b=>an6 a b
 | .ptr i o,.ptr j p=>bif Nat.beq (tau τ i) j then o=p else False
 | .sl i o n c,.sl j p n' c'=>bif Nat.beq (tau τ i) j then(o=p/\n=n'/\c=c')else False
 | .slU i o n s,.slU j p n' s'=>bif Nat.beq (tau τ i) j then(o=p/\n=n'/\s=s')else False
 | .ni i k m o,.ni j k' m' p=>bif Nat.beq (tau τ i) j&&Nat.beq m m' then(k=k'/\o=p)else False
 | .slE i k m n c,.slE j k' m' n' c'=>bif Nat.beq (tau τ i) j&&Nat.beq m m' then(k=k'/\n=n'/\c=c')else False
 | .slW i k m n,.slW j k' m' n'=>bif Nat.beq (tau τ i) j&&Nat.beq m m' then(k=k'/\n=n')else False
 | .slW i _ _ n,.sl j _ n' c'=>bif Nat.beq (tau τ i) j then(n=0/\n'=0/\c'=0)else False
 | .slR i k m n,.slR j k' m' n'=>bif Nat.beq (tau τ i) j&&Nat.beq m m' then(k=k'/\n=n')else False
 | .slR i k m n,.slE j k' m' n' _=>bif Nat.beq (tau τ i) j&&Nat.beq m m' then(k=k'/\n=n')else False
 | .slR i k m n,.slW j k' m' n'=>bif Nat.beq (tau τ i) j&&Nat.beq m m' then(k=k'/\n=n')else False
 | .slR i k m n,.slZ _ j k' m' n'=>bif Nat.beq (tau τ i) j&&Nat.beq m m' then(k=k'/\n=n')else False
 | .slZ z i k m n,.slZ z' j k' m' n'=>bif Nat.beq (tau τ i) j&&Nat.beq m m' then(z=z'/\k=k'/\n=n')else False
 | .slZ z i k m n,.slE j k' m' n' _=>bif Nat.beq (tau τ i) j&&Nat.beq m m' then(z=false/\k=k'/\n=n')else False
 | .slZ z i k m n,.slW j k' m' n'=>bif Nat.beq (tau τ i) j&&Nat.beq m m' then(z=false/\k=k'/\n=n')else False
 | .slR i k m n,.slV _ j m' n'=>bif Nat.beq (tau τ i) j&&Nat.beq m m' then(k=0/\n=n')else False
 | .slV z i m n,.slV z' j m' n'=>bif Nat.beq (tau τ i) j&&Nat.beq m m' then(z=z'/\n=n')else False
 | .slV z i m n,.slW j k' m' n'=>bif Nat.beq (tau τ i) j&&Nat.beq m m'&&Nat.beq k' 0 then(z=false/\n=n')else False
 | .slV z _ _ n,.lit v=>bif Oa v then(z=true/\n=0)else False
 | .ifc t a,.ifc t' b=>t=t'/\eqV τ a b
 | .mp i,.mp j=>bif Nat.beq (tau τ i) j then True else False
 | .agg l,.agg m=>eqL τ l m
 | .tup l,.tup m=>eqL τ l m
 | .fn f a b,.fn g a' b'=>f=g/\eqL τ a a'/\eqL τ b b'
 |_,_=>False
def eqL(τ:Tau):List AV->List AV->Prop
 |[],[]=>True
 |a::l,b::m=>eqV τ a b/\eqL τ l m
 |_,_=>False
end
mutual
theorem GZ{τ:Tau}{ρ ρ0:Ren}{N:Nat}(hρ: ∀i,i<N->ρ0 i=ρ (tau τ i)): ∀(a b:AV) (u:Value),dJ N a=true->eqV τ a b->bn ρ b u->bn ρ0 a u
 | .any,_,_,_,_,_=>by simp only[bn]
 | .one,b,u,_,h,hb=>by
  simp only[eqV]at h;cases hc:oneCell b with
  |false=>rw[hc]at h;exact h.elim
  |true=>simp only[bn];exact qg hc hb
 | .arr n g,b,u,_,h,hb=>by
  cases b<;>simp only[eqV]at h;obtain⟨rfl,h⟩:=h;simp only[bn]at hb ⊢;obtain⟨A,h1,h2,h3⟩:=hb;exact⟨A,h1,h2,λk u hk hu=>h3 k u hk (by rw[<-h k hk];exact hu)⟩
 | .lit x,b,u,_,h,hb=>by
  cases b<;>simp only[eqV]at h;have:=ajv h;subst this;simpa only[bn]using hb
 | .ptr i o,b,u,hn,h,hb=>by
  cases b<;>simp only[eqV]at h;rename_i j p;cases hh:Nat.beq (tau τ i) j<;>rw[hh]at h
  ·exact h.elim
  ·simp only[aP]at h;subst h
   simp only[dJ]at hn;simp only[bn]at hb ⊢;rw[hρ i (bg.1 hn),au hh];exact hb
 | .sl i o n c,b,u,hn,h,hb=>by
  cases b<;>simp only[eqV]at h;rename_i j p n' c';cases hh:Nat.beq (tau τ i) j<;>rw[hh]at h
  ·exact h.elim
  ·simp only[aP]at h;obtain⟨rfl,rfl,rfl⟩:=h
   simp only[dJ]at hn;simp only[bn]at hb ⊢;rw[hρ i (bg.1 hn),au hh];exact hb
 | .slU i o n c,b,u,hn,h,hb=>by
  cases b<;>simp only[eqV]at h;rename_i j p n' c';cases hh:Nat.beq (tau τ i) j<;>rw[hh]at h
  ·exact h.elim
  ·simp only[aP]at h;obtain⟨rfl,rfl,rfl⟩:=h
   simp only[dJ]at hn;simp only[bn]at hb ⊢;rw[hρ i (bg.1 hn),au hh];exact hb
 | .ni i k m o,b,u,hn,h,hb=>by
  cases b<;>simp only[eqV]at h;rename_i j k' m' p;cases hh:(Nat.beq (tau τ i) j&&Nat.beq m m')<;>rw[hh]at h
  ·exact h.elim
  ·simp only[aJ]at hh
   simp only[aP]at h;obtain⟨rfl,rfl⟩:=h;have:=au hh.2;subst this;simp only[dJ]at hn;simp only[bn]at hb ⊢;rw[hρ i (bg.1 hn),au hh.1];exact hb
 | .slE i k m n c,b,u,hn,h,hb=>by
  cases b<;>simp only[eqV]at h;rename_i j k' m' n' c';cases hh:(Nat.beq (tau τ i) j&&Nat.beq m m')<;>rw[hh]at h
  ·exact h.elim
  ·simp only[aJ]at hh
   simp only[aP]at h;obtain⟨rfl,rfl,rfl⟩:=h;have:=au hh.2;subst this;simp only[dJ]at hn;simp only[bn]at hb ⊢;rw[hρ i (bg.1 hn),au hh.1];exact hb
 | .slW i k m n,b,u,hn,h,hb=>by
  cases b<;>simp only[eqV]at h
  ·rename_i j o n' c'
   cases hh:Nat.beq (tau τ i) j<;>rw[hh]at h
   ·exact h.elim
   ·simp only[aP]at h
    obtain⟨rfl,rfl,rfl⟩:=h;simp only[dJ]at hn;simp only[bn]at hb ⊢;rw[hρ i (bg.1 hn),au hh];obtain⟨a,h1,h2⟩:=hb;exact⟨a,_,0,h1,h2,aY _,λh=>(h rfl).elim⟩
  rename_i j k' m' n';cases hh:(Nat.beq (tau τ i) j&&Nat.beq m m')<;>rw[hh]at h
  ·exact h.elim
  ·simp only[aJ]at hh
   simp only[aP]at h;obtain⟨rfl,rfl⟩:=h;have:=au hh.2;subst this;simp only[dJ]at hn;simp only[bn]at hb ⊢;rw[hρ i (bg.1 hn),au hh.1];exact hb
 | .slR i k m n,b,u,hn,h,hb=>by
  simp only[dJ]at hn;cases b<;>simp only[eqV]at h
  ·rename_i j k' m' n' c'
   cases hh:(Nat.beq (tau τ i) j&&Nat.beq m m')<;>rw[hh]at h
   ·exact h.elim
   ·simp only[aJ]at hh
    simp only[aP]at h;obtain⟨rfl,rfl⟩:=h;have:=au hh.2;subst this;simp only[bn]at hb ⊢;rw[hρ i (bg.1 hn),au hh.1];obtain⟨a,p,h1,h2,h3,h4⟩:=hb;exact .inr ⟨a,p,c',h1,h2,h3,λhn=>h4 (by omega)⟩
  ·rename_i j k' m' n'
   cases hh:(Nat.beq (tau τ i) j&&Nat.beq m m')<;>rw[hh]at h
   ·exact h.elim
   ·simp only[aJ]at hh
    simp only[aP]at h;obtain⟨rfl,rfl⟩:=h;have:=au hh.2;subst this;simp only[bn]at hb ⊢;rw[hρ i (bg.1 hn),au hh.1];obtain⟨a,p,c,h1,h2,h3,h4⟩:=hb;exact .inr ⟨a,p,c,h1,h2,h3,λhn=>(h4 (by omega)).1⟩
  ·rename_i j k' m' n'
   cases hh:(Nat.beq (tau τ i) j&&Nat.beq m m')<;>rw[hh]at h
   ·exact h.elim
   ·simp only[aJ]at hh
    simp only[aP]at h;obtain⟨rfl,rfl⟩:=h;have:=au hh.2;subst this;simp only[bn]at hb ⊢;rw[hρ i (bg.1 hn),au hh.1];exact hb
  ·rename_i z j k' m' n'
   cases hh:(Nat.beq (tau τ i) j&&Nat.beq m m')<;>rw[hh]at h
   ·exact h.elim
   ·simp only[aJ]at hh
    simp only[aP]at h;obtain⟨rfl,rfl⟩:=h;have:=au hh.2;subst this;simp only[bn]at hb ⊢;rw[hρ i (bg.1 hn),au hh.1];rcases hb with ⟨_,h1,h2⟩|⟨_,h1⟩
    ·exact .inl ⟨h1,h2⟩
    ·exact .inr h1
  ·rename_i z j m' n'
   cases hh:(Nat.beq (tau τ i) j&&Nat.beq m m')<;>rw[hh]at h
   ·exact h.elim
   ·simp only[aJ]at hh
    simp only[aP]at h;obtain⟨rfl,rfl⟩:=h;have:=au hh.2;subst this;simp only[bn]at hb ⊢;rw[hρ i (bg.1 hn),au hh.1];rcases hb with ⟨_,h1,h2⟩|⟨_,a,p,c,h1,h2,h3,h4⟩
    ·exact .inl ⟨h1,h2⟩
    ·exact .inr ⟨a,p,c,h1,h2,h3,λhn=>by rw[Nat.zero_mul,aI];exact(h4 (by omega)).1⟩
 | .slV z i m n,b,u,hn,h,hb=>by
  simp only[dJ]at hn;cases b<;>simp only[eqV]at h
  ·rename_i v
   cases hh:Oa v<;>rw[hh]at h
   ·exact h.elim
   ·have:=adR hh;subst this
    simp only[aP]at h;obtain⟨rfl,rfl⟩:=h;simp only[bn]at hb ⊢;exact .inl ⟨trivial,trivial,hb⟩
  ·rename_i j k' m' n'
   cases hh:(Nat.beq (tau τ i) j&&Nat.beq m m'&&Nat.beq k' 0)<;>rw[hh]at h
   ·exact h.elim
   ·simp only[aJ]at hh
    simp only[aP]at h;obtain⟨rfl,rfl⟩:=h;have:=au hh.1.2;subst this;have:=au hh.2;subst this;simp only[bn]at hb ⊢;rw[hρ i (bg.1 hn),au hh.1.1];obtain⟨a,p,c,h1,h2,h3,h4⟩:=hb;exact .inr ⟨trivial,a,p,c,h1,h2,h3,λhn=>by have:=h4 hn;rw[Nat.zero_mul,aI,aA]at this;exact this⟩
  ·rename_i z' j m' n'
   cases hh:(Nat.beq (tau τ i) j&&Nat.beq m m')<;>rw[hh]at h
   ·exact h.elim
   ·simp only[aJ]at hh
    simp only[aP]at h;obtain⟨rfl,rfl⟩:=h;have:=au hh.2;subst this;simp only[bn]at hb ⊢;rw[hρ i (bg.1 hn),au hh.1];exact hb
 | .slZ z i k m n,b,u,hn,h,hb=>by
  simp only[dJ]at hn;cases b<;>simp only[eqV]at h
  ·rename_i j k' m' n' c'
   cases hh:(Nat.beq (tau τ i) j&&Nat.beq m m')<;>rw[hh]at h
   ·exact h.elim
   ·simp only[aJ]at hh
    simp only[aP]at h;obtain⟨rfl,rfl,rfl⟩:=h;have:=au hh.2;subst this;simp only[bn]at hb ⊢;rw[hρ i (bg.1 hn),au hh.1];obtain⟨a,p,h1,h2,h3,h4⟩:=hb;exact .inr ⟨trivial,a,p,c',h1,h2,h3,λhn=>h4 (by omega)⟩
  ·rename_i j k' m' n'
   cases hh:(Nat.beq (tau τ i) j&&Nat.beq m m')<;>rw[hh]at h
   ·exact h.elim
   ·simp only[aJ]at hh
    simp only[aP]at h;obtain⟨rfl,rfl,rfl⟩:=h;have:=au hh.2;subst this;simp only[bn]at hb ⊢;rw[hρ i (bg.1 hn),au hh.1];obtain⟨a,p,c,h1,h2,h3,h4⟩:=hb;exact .inr ⟨trivial,a,p,c,h1,h2,h3,λhn=>(h4 (by omega)).1⟩
  ·rename_i z' j k' m' n'
   cases hh:(Nat.beq (tau τ i) j&&Nat.beq m m')<;>rw[hh]at h
   ·exact h.elim
   ·simp only[aJ]at hh
    simp only[aP]at h;obtain⟨rfl,rfl,rfl⟩:=h;have:=au hh.2;subst this;simp only[bn]at hb ⊢;rw[hρ i (bg.1 hn),au hh.1];exact hb
 | .mp i,b,u,hn,h,hb=>by
  cases b<;>simp only[eqV]at h;rename_i j;cases hh:Nat.beq (tau τ i) j<;>rw[hh]at h
  ·exact h.elim
  ·simp only[dJ]at hn
   simp only[bn]at hb ⊢;rw[hρ i (bg.1 hn),au hh];exact hb
 | .agg l,b,u,hn,h,hb=>by
  cases b<;>simp only[eqV]at h;simp only[dJ]at hn;simp only[bn]at hb ⊢;obtain⟨vs,hv,hl⟩:=hb;exact⟨vs,hv,G5 hρ _ _ _ hn h hl⟩
 | .tup l,b,u,hn,h,hb=>by
  cases b<;>simp only[eqV]at h;simp only[dJ]at hn;simp only[bn]at hb ⊢;obtain⟨vs,hv,hl⟩:=hb;exact⟨vs,hv,G5 hρ _ _ _ hn h hl⟩
 | .fn f x y,b,u,hn,h,hb=>by
  cases b<;>simp only[eqV]at h;simp only[dJ,aJ]at hn;simp only[bn]at hb ⊢;obtain⟨rfl,h1,h2⟩:=h;obtain⟨p,q,hv,l1,l2⟩:=hb;exact⟨p,q,hv,G5 hρ _ _ _ hn.1 h1 l1,G5 hρ _ _ _ hn.2 h2 l2⟩
 | .ifc t x,b,u,hn,h,hb=>by
  cases b<;>simp only[eqV]at h;obtain⟨rfl,h⟩:=h;simp only[dJ]at hn;simp only[bn]at hb ⊢;obtain⟨y,h1,h2⟩:=hb;exact⟨y,h1,GZ hρ _ _ _ hn h h2⟩
theorem G5{τ:Tau}{ρ ρ0:Ren}{N:Nat}(hρ: ∀i,i<N->ρ0 i=ρ (tau τ i)): ∀(a b:List AV) (u:List Value),gI N a=true->eqL τ a b->dP ρ b u->dP ρ0 a u
 |[],[],u,_,_,hb=>by simpa[dP]using hb
 |x::a,y::b,u,hn,h,hb=>by
  simp only[gI,aJ]at hn;simp only[eqL]at h;simp only[dP]at hb ⊢;obtain⟨v,vs,rfl,h1,h2⟩:=hb;exact⟨v,vs,rfl,GZ hρ _ _ _ hn.1 h.1 h1,G5 hρ _ _ _ hn.2 h.2 h2⟩
 |[],_::_,_,_,h,_=>by simp only[eqL]at h
 |_::_,[],_,_,h,_=>by simp only[eqL]at h
end
def eqC(τ:Tau):Cs->Cs->Prop
 | .av l,.av m=>eqL τ l m
 | .raw l,.raw m=>l=m
 | .row m n g wr,.row m' n' g' wr'=>bif Nat.beq m m' then(n=n'/\ ∀q,q<n->Cs.eff g wr q=Cs.eff g' wr' q)else bif Nat.beq m 1 then(n=n'*m'/\ ∀q j,q<n'->j<m'-> ∃v,(Cs.eff g' wr' q)[j]? =some v/\Cs.eff g wr (q*m'+j)=[v])else False
 | .row m n g wr,.av l=>match nG l with
  |some vs=>vs.length=n*m/\ ∀q,q<n->Cs.eff g wr q=(vs.drop (q*m)).take m
  |none=>False
 | .cat a b,.cat a' b'=>eqC τ a a'/\eqC τ b b'
 |_,_=>False
theorem adS{τ:Tau}{c d:Cs}(h:eqC τ c d)(hn: ∀x y,c≠ .cat x y):c.size=d.size:=by
 have len: ∀(l m:List AV),eqL τ l m->l.length=m.length:=by
  intro l
  induction l with
  |nil=>intro m h;cases m<;>simp_all[eqL]
  |cons a l ih=>intro m h;cases m with
   |nil=>simp[eqL]at h
   |cons b m=>simp only[eqL]at h;simp[ih m h.2]
 unfold eqC at h;split at h
 ·exact len _ _ h
 ·rw[h]
 ·rename_i m n g wr m' n' g' wr'
  cases hb:Nat.beq m m'<;>rw[hb]at h
  ·simp only[aQ]at h
   cases hb1:Nat.beq m 1<;>rw[hb1]at h
   ·exact h.elim
   ·have:=au hb1;subst this
    simp only[aP]at h;simp[Cs.size,h.1]
  ·simp only[aP]at h
   have:=au hb;subst this;simp[Cs.size,h.1]
 ·split at h
  ·rename_i vs hvs
   have:=fH hvs;subst this;simp[Cs.size,h.1]
  ·exact h.elim
 ·exact(hn _ _ rfl).elim
 ·exact h.elim
theorem jM{τ:Tau}: ∀{c d:Cs},eqC τ c d->c.size=d.size:=by
 intro c
 induction c with
 |cat x y ihx ihy=>
  intro d h;cases d with
  |cat x' y'=>simp only[eqC]at h;simp only[Cs.size,ihx h.1,ihy h.2]
  |_=>simp[eqC]at h
 |_=>intro d h;exact adS h (λ_ _ hh=>by cases hh)
theorem aqO{τ:Tau}{ρ ρ0:Ren}{N:Nat}(hρ: ∀i,i<N->ρ0 i=ρ (tau τ i)){l m:List AV}(hn:gI N l=true)(h:eqL τ l m){arr:Array Value}{b:Nat}(hc:fB ρ (.av m) arr b):fB ρ0 (.av l) arr b:=by
 have get: ∀(l m:List AV) (k:Nat) (v:AV),gI N l=true->eqL τ l m->l[k]? =some v-> ∃w,m[k]? =some w/\eqV τ v w/\dJ N v=true:=by
  intro l
  induction l with
  |nil=>intro m k v _ _ h;simp at h
  |cons a l ih=>intro m k v hn h hk;cases m with
   |nil=>simp[eqL]at h
   |cons y m=>
    simp only[eqL]at h;simp only[gI,aJ]at hn;cases k with
    |zero=>simp at hk;subst hk;exact⟨y,rfl,h.1,hn.1⟩
    |succ k=>simpa using ih m k v hn.2 h.2 (by simpa using hk)
 intro k v hk;obtain⟨w,hw,he,hb⟩:=get l m k v hn h hk;obtain⟨u,hu,hr⟩:=hc k w hw;exact⟨u,hu,GZ hρ _ _ _ hb he hr⟩
theorem adT{τ:Tau}: ∀{l m:List AV},eqL τ l m->l.length=m.length
 |[],[],_=>rfl
 |a::l,b::m,h=>by simp only[eqL]at h;simp[adT h.2]
 |[],_::_,h=>by simp only[eqL]at h
 |_::_,[],h=>by simp only[eqL]at h
theorem an7{τ:Tau}{ρ ρ0:Ren}{N:Nat}(hρ: ∀i,i<N->ρ0 i=ρ (tau τ i)){c d:Cs}(hn:jJ N c=true)(h:eqC τ c d)(hnc: ∀x y,c≠ .cat x y){arr:Array Value}{b:Nat}(hsz:b+d.size<=arr.size)(hc:fB ρ d arr b):fB ρ0 c arr b:=by
 unfold eqC at h;split at h
 ·rename_i l m
  have get: ∀(l m:List AV) (k:Nat) (v:AV),gI N l=true->eqL τ l m->l[k]? =some v-> ∃w,m[k]? =some w/\eqV τ v w/\dJ N v=true:=by
   intro l
   induction l with
   |nil=>intro m k v _ _ h;simp at h
   |cons a l ih=>intro m k v hn h hk;cases m with
    |nil=>simp[eqL]at h
    |cons y m=>
     simp only[eqL]at h;simp only[gI,aJ]at hn;cases k with
     |zero=>simp at hk;subst hk;exact⟨y,rfl,h.1,hn.1⟩
     |succ k=>simpa using ih m k v hn.2 h.2 (by simpa using hk)
  intro k v hk;obtain⟨w,hw,he,hb⟩:=get l m k v hn h hk;obtain⟨u,hu,hr⟩:=hc k w hw;exact⟨u,hu,GZ hρ _ _ _ hb he hr⟩
 ·subst h
  intro k v hk;obtain⟨u,hu,hr⟩:=hc k v hk;simp only[Cs.get]at hk;split at hk
  ·cases hk;exact⟨u,hu,by simpa only[bn]using hr⟩
  ·cases hk
 ·rename_i m n g wr m' n' g' wr'
  cases hb:Nat.beq m m'<;>rw[hb]at h
  ·simp only[aQ]at h
   cases hb1:Nat.beq m 1<;>rw[hb1]at h
   ·exact h.elim
   ·have:=au hb1;subst this
    simp only[aP]at h;obtain⟨rfl,h⟩:=h;intro k v hk;have hlt:=Cs.dQ hk;simp only[Cs.size,Nat.mul_one]at hlt;have hm:0<m':=Nat.pos_of_ne_zero λh0=>by rw[h0]at hlt;simp at hlt
    have hq:k/m'<n':=Nat.div_lt_of_lt_mul (by rw[Nat.mul_comm];exact hlt);obtain⟨y,h1,h2⟩:=h (k/m') (k%m') hq (Nat.mod_lt _ hm);rw[Nat.div_add_mod']at h2;simp only[Cs.get,bg.2 (show k<n'*m'*1 by omega),aP,Nat.div_one,Nat.mod_one,h2,ah]at hk;cases hk;obtain⟨u,hu,hr⟩:=hc k (.lit y) (by simp only[Cs.get,bg.2 hlt,aP,h1]);exact⟨u,hu,by simpa only[bn]using hr⟩
  ·simp only[aP]at h
   have:=au hb;subst this;obtain⟨rfl,h⟩:=h;intro k v hk;have hlt:=Cs.dQ hk;simp only[Cs.size]at hlt;have hq:k/m<n:=Nat.div_lt_of_lt_mul (by rw[Nat.mul_comm];exact hlt);simp only[Cs.get,bg.2 hlt,aP,h _ hq]at hk;obtain⟨u,hu,hr⟩:=hc k v (by simp only[Cs.get,bg.2 hlt,aP];exact hk);refine⟨u,hu,?_⟩;split at hk
   ·cases hk;simpa only[bn]using hr
   ·cases hk;simp only[bn]
 ·rename_i m n g wr l
  split at h
  ·rename_i vs hvs
   have:=fH hvs;subst this;obtain⟨hl,h⟩:=h;intro k v hk;have hlt:=Cs.dQ hk;simp only[Cs.size]at hlt;have hq:k/m<n:=Nat.div_lt_of_lt_mul (by rw[Nat.mul_comm];exact hlt);have hm:0<m:=Nat.pos_of_ne_zero λh0=>by rw[h0]at hlt;simp at hlt
   simp only[Cs.get,bg.2 hlt,aP,h _ hq]at hk;rw[List.getElem?_take,if_pos (Nat.mod_lt _ hm),List.getElem?_drop,Nat.div_add_mod']at hk;rw[List.getElem?_eq_getElem (by omega)]at hk;cases hk;obtain⟨u,hu,hr⟩:=hc k (.lit vs[k]) (by simp only[Cs.get,List.getElem?_map];rw[List.getElem?_eq_getElem (by omega)];rfl);exact⟨u,hu,by simpa only[bn]using hr⟩
  ·exact h.elim
 ·exact(hnc _ _ rfl).elim
 ·exact h.elim
theorem G6{τ:Tau}{ρ ρ0:Ren}{N:Nat}(hρ: ∀i,i<N->ρ0 i=ρ (tau τ i)): ∀{c d:Cs},jJ N c=true->eqC τ c d-> ∀{arr:Array Value} {b:Nat},b+d.size<=arr.size->fB ρ d arr b->fB ρ0 c arr b:=by
 intro c
 induction c with
 |cat x y ihx ihy=>
  intro d hn h arr b hsz hc;cases d with
  |cat x' y'=>
   simp only[eqC]at h;simp only[jJ,aJ]at hn;simp only[Cs.size]at hsz;rw[wO]at hc ⊢;have hx:=jM h.1;exact⟨ihx hn.1 h.1 (by omega) hc.1,by rw[hx];exact ihy hn.2 h.2 (by omega) hc.2⟩
  |_=>simp[eqC]at h
 |_=>intro d hn h arr b hsz hc;exact an7 hρ hn h (λ_ _ hh=>by cases hh) hsz hc
def SK:List (AV×AV×Nat)->List (AV×AV×Nat)->Bool
 |[],[]=>true
 |(.lit (.int k a),.fn (.func f) [] [],b)::l,(.lit (.int k' a'),.fn (.func f') [] [],b')::l'=>decide (k=k')&&decide (a=a')&&Nat.beq f f'&&Nat.beq b b'&&SK l l'
 |_,_=>false
theorem Yd: ∀{l l':List (AV×AV×Nat)},SK l l'=true->l=l'/\(l.all λx=>dJ 0 x.1&&dJ 0 x.2.1)=true
 |[],[],_=>⟨rfl,rfl⟩
 |[],_::_,h=>by simp[SK]at h
 |x::l,[],h=>by simp[SK]at h
 |x::l,y::l',h=>by
  unfold SK at h;split at h
  ·rename_i heq _;cases heq
  ·rename_i k a f b l1 k' a' f' b' l2 e1 e2
   cases e1;cases e2;simp only[aJ,decide_eq_true_eq]at h;obtain⟨⟨⟨⟨rfl,rfl⟩,hf⟩,hb⟩,hl⟩:=h;have:=au hf;subst this;have:=au hb;subst this;obtain⟨rfl,h2⟩:=Yd hl;exact⟨rfl,by simp only[List.all_cons,h2];rfl⟩
  ·cases h
def yK:List (Option AV)->Option (List AV)
 |[]=>some []
 |some v::r=>match yK r with
  |some l=>some (v::l)
  |none=>none
 |none::_=>none
theorem Am: ∀{l:List (Option AV)} {m:List AV},yK l=some m->l=m.map some
 |[],m,h=>by simp[yK]at h;simp[<-h]
 |some v::r,m,h=>by
  unfold yK at h;split at h
  ·rename_i l hl;cases h;rw[Am hl];rfl
  ·cases h
 |none::r,m,h=>by simp[yK]at h
def untr(c d:Cs):Cs:=match c,d with
 | .row ..,.tr n z t=>match yK ((List.range n).map (Cs.tr n z t).get)with
  |some l=> .av l
  |none=>d
 |_,_=>d
theorem Ja(c d:Cs):(untr c d).size=d.size/\ ∀{ρ:Ren} {arr:Array Value} {b:Nat},fB ρ d arr b->fB ρ (untr c d) arr b:=by
 unfold untr;split
 ·rename_i m n' g wr n z t
  split
  ·rename_i l hl
   have hl:=Am hl;have hlen:l.length=n:=by
    have:=congrArg List.length hl;simpa using this.symm
   refine⟨by simp[Cs.size,hlen],λ{ρ arr b} h k v hk=> ?_⟩;simp only[Cs.get]at hk;refine h k v ?_;have e:=congrArg (λx=>x[k]?) hl;have hkn:k<n:=by rw[<-hlen];exact(List.getElem?_eq_some_iff.1 hk).1
   simp only[List.getElem?_map,hk,Option.map_some,List.getElem?_range hkn,ak]at e;exact e
  ·exact⟨rfl,λh=>h⟩
 ·exact⟨rfl,λh=>h⟩
def eqO(τ:Tau):dB->Option dB->Prop
 | .cells e c,some (.cells e' c')=>bif Nat.beq e e' then eqC τ c (untr c c')else False
 | .room e c,some (.room e' c')=>bif Nat.beq e e' then eqC τ c c' else False
 | .room e c,some (.cells e' c')=>bif Nat.beq e e' then eqC τ c c' else False
 | .ro (.av l),some (.ro (.av m))=>eqL τ l m
 | .ro c,some (.ro c')=>c=c'/\jJ 0 c=true
 | .map es cl,some (.map es' cl')=>bif SK es es'&&Nat.beq cl cl' then True else(es=es'/\cl=cl'/\(es.all λx=>dJ 0 x.1&&dJ 0 x.2.1)=true)
 | .iF z e c,some (.iF z' e' c')=>bif Nat.beq e e' then(z=z'/\eqC τ c c')else False
 | .iF z e c,some (.room e' c')=>bif Nat.beq e e' then(z=false/\eqC τ c c')else False
 | .nC m,some (.nC m')=>m=m'
 | .nC m,some (.map [] cl')=>m.n=0/\m.clk=cl'
 | .iter (some i) s l t,some (.iter (some j) s' l' t')=>bif Nat.beq (tau τ i) j then(s=s'/\l=l'/\t=t')else False
 | .abs A,some (.abs B)=>A=B
 |_,_=>False
theorem Jb{v:AV}(h:dJ 0 v=true){ρ ρ0:Ren}{u:Value}(hv:bn ρ v u):bn ρ0 v u:=by
 have h1:=bn.iU (τ:=id) (ρ:=ρ) (ρ':=ρ) (λi a h=>h) v u hv;have e: ∀v,iU id v=v:=by
  intro v;exact(Jc v)
 rw[e]at h1;exact bn.RJ (τ:=id) (ρ':=ρ) (n:=0) (λi hi=>absurd hi (Nat.not_lt_zero _)) v u h (by rw[e];exact hv)
where
 Jc: ∀v:AV,iU id v=v
  | .any| .lit _| .ptr .. | .sl .. | .slU .. | .ni .. | .slE .. | .slW .. | .slR .. | .slZ .. | .slV .. | .one| .arr .. | .mp _=>rfl
  | .agg l=>by simp only[iU,Dl l]
  | .tup l=>by simp only[iU,Dl l]
  | .fn f a b=>by simp only[iU,Dl a,Dl b]
  | .ifc t x=>by simp only[iU,Jc x]
 Dl: ∀l:List AV,lmap id l=l
  |[]=>rfl
  |a::l=>by simp only[lmap,Jc a,Dl l]
theorem Jd{τ:Tau}{N:Nat}{o:dB}{x:Option dB}(hn:oI N o=true)(h:eqO τ o x): ∃o',x=some o'/\Soft (tau τ) N o o':=by
 have low: ∀{c:Cs} {ρ ρ0:Ren} {arr:Array Value} {b:Nat},jJ 0 c=true->fB ρ c arr b->fB ρ0 c arr b:=λhc hr k v hk=>by
  obtain⟨u,hu,hv⟩:=hr k v hk;exact⟨u,hu,Jb (yC hc hk) hv⟩
 unfold eqO at h;split at h
 ·rename_i e c e' c'
  cases hb:Nat.beq e e'<;>rw[hb]at h
  ·exact h.elim
  ·simp only[aP]at h
   have:=au hb;subst this;refine⟨_,rfl,λρ ρ0 w T a S hρ ⟨h0,hS,arr,h1,h2,h3,h4⟩=>⟨h0,hS,arr,h1,by rw[jM h,(Ja _ _).1];exact h2,by rw[jM h,(Ja _ _).1];exact h3,G6 hρ hn h (by rw[(Ja _ _).1];omega) ((Ja _ _).2 h4)⟩⟩
 ·rename_i e c e' c'
  cases hb:Nat.beq e e'<;>rw[hb]at h
  ·exact h.elim
  ·simp only[aP]at h
   have:=au hb;subst this;refine⟨_,rfl,λρ ρ0 w T a S hρ ⟨h0,hS,arr,h1,h2,h3,h4⟩=>⟨h0,hS,arr,h1,h2,by rw[jM h];exact h3,G6 hρ hn h (by omega) h4⟩⟩
 ·rename_i e c e' c'
  cases hb:Nat.beq e e'<;>rw[hb]at h
  ·exact h.elim
  ·simp only[aP]at h
   have:=au hb;subst this;refine⟨_,rfl,λρ ρ0 w T a S hρ ⟨h0,hS,arr,h1,h2,h3,h4⟩=>⟨h0,hS,arr,h1,by omega,by rw[jM h];omega,G6 hρ hn h (by omega) h4⟩⟩
 ·rename_i l m
  refine⟨_,rfl,λρ ρ0 w T a S hρ ho=>ho.imp (λh0=> ?_) λ⟨hT,arr,e,f,h1,h2⟩=>⟨hT,arr,e,f,h1,aqO hρ hn h h2⟩⟩;simp only[Cs.size]at h0 ⊢;rw[adT h];exact h0
 ·obtain⟨rfl,hc⟩:=h
  exact⟨_,rfl,λρ ρ0 w T a S hρ ho=>ho.imp id λ⟨hT,arr,e,f,h1,h2⟩=>⟨hT,arr,e,f,h1,low hc h2⟩⟩
 ·rename_i es cl es' cl'
  have h:es=es'/\cl=cl'/\(es.all λx=>dJ 0 x.1&&dJ 0 x.2.1)=true:=by
   cases hb:(SK es es'&&Nat.beq cl cl')with
   |false=>rw[hb]at h;exact h
   |true=>
    simp only[aJ]at hb;obtain⟨h1,h2⟩:=Yd hb.1;exact⟨h1,au hb.2,h2⟩
  obtain⟨rfl,rfl,hb⟩:=h;refine⟨_,rfl,λρ ρ0 w T a S hρ ⟨hS,arr,h1,h2⟩=>⟨hS,arr,h1,?_⟩⟩;have: ∀(es:List (AV×AV×Nat)) (l:List MapEntry),(es.all λx=>dJ 0 x.1&&dJ 0 x.2.1)=true->kK ρ es l->kK ρ0 es l:=by
   intro es
   induction es with
   |nil=>intro l _ h;exact h
   |cons x es ih=>
    rintro l hb ⟨e,l',rfl,q1,q2,q3,q4⟩
    simp only[List.all_cons,aJ]at hb;exact⟨e,l',rfl,Jb hb.1.1 q1,Jb hb.1.2 q2,q3,ih l' hb.2 q4⟩
  exact this _ _ hb h2
 ·rename_i z e c z' e' c'
  cases hb:Nat.beq e e'<;>rw[hb]at h
  ·exact h.elim
  ·simp only[aP]at h
   have:=au hb;subst this;obtain⟨rfl,h⟩:=h;refine⟨_,rfl,λρ ρ0 w T a S hρ ho=>ho.imp (λ⟨h1,h2⟩=>⟨h1,by rw[jM h];exact h2⟩) λ⟨hz,h0,hS,arr,h1,h2,h3,h4⟩=>⟨hz,h0,hS,arr,h1,h2,by rw[jM h];exact h3,G6 hρ hn h (by omega) h4⟩⟩
 ·rename_i z e c e' c'
  cases hb:Nat.beq e e'<;>rw[hb]at h
  ·exact h.elim
  ·simp only[aP]at h
   have:=au hb;subst this;obtain⟨rfl,h⟩:=h;refine⟨_,rfl,λρ ρ0 w T a S hρ ⟨h0,hS,arr,h1,h2,h3,h4⟩=> .inr ⟨rfl,h0,hS,arr,h1,h2,by rw[jM h];exact h3,G6 hρ hn h (by omega) h4⟩⟩
 ·subst h
  exact⟨_,rfl,λρ ρ0 w T a S hρ ho=>ho⟩
 ·rename_i m cl'
  obtain⟨hn0,rfl⟩:=h;exact⟨_,rfl,λρ ρ0 w T a S hρ ⟨hS,arr,h1,h2⟩=>⟨hS,arr,h1,by simp only[kK]at h2;rw[hn0];simpa using h2,λj hj=>by rw[hn0]at hj;exact absurd hj (Nat.not_lt_zero _)⟩⟩
 ·rename_i i s l t j s' l' t'
  cases hb:Nat.beq (tau τ i) j<;>rw[hb]at h
  ·exact h.elim
  ·simp only[aP]at h
   obtain⟨rfl,rfl,rfl⟩:=h;simp only[oI]at hn;have hij:=au hb;exact⟨_,rfl,λρ ρ0 w T a S hρ ⟨h0,hS,mb,⟨b,hb1,hb2⟩,h2⟩=>⟨h0,hS,mb,⟨b,by rw[hρ i (bg.1 hn),hij];exact hb1,hb2⟩,h2⟩⟩
 ·subst h
  exact⟨_,rfl,λρ ρ0 w T a S hρ ho=>ho⟩
 ·exact h.elim
def noGh:List (Nat×dB)->Bool
 |[]=>true
 |(_,.iF ..)::_=>false
 |_::r=>noGh r
def G7(m:HM):List (Nat×dB)->HM
 |[]=>m
 |(i,.iF _ e (.row w _ _ _))::r=>(ghN i,some (.iF true e (.row w 0 (λ_=>[]) [])))::G7 m r
 |_::r=>G7 m r
def lg(k:Nat)(h:Heap)(obs:List (Nat×dB)):Heap:=bif noGh obs|| !Nat.ble k h.next|| !Nat.ble h.next 100000|| !(obs.all λp=>Nat.blt p.1 100000)then h else⟨200000,G7 h.m obs⟩
theorem oL{m:HM}: ∀{obs:List (Nat×dB)} {j:Nat} {o:dB},(obs.all λp=>Nat.blt p.1 100000)=true->(G7 m obs).get j=some o->m.get j=some o\/(100000<=j/\j<200000/\ ∃e w,o= .iF true e (.row w 0 (λ_=>[]) []))
 |[],j,o,_,h=> .inl h
 |(i,x)::r,j,o,hb,h=>by
  simp only[List.all_cons,aJ]at hb;have hi:=bg.1 hb.1;have skip:(G7 m r).get j=some o->m.get j=some o\/(100000<=j/\j<200000/\ ∃e w,o= .iF true e (.row w 0 (λ_=>[]) [])):=λh=>oL hb.2 h
  unfold G7 at h;split at h
  ·rename_i hh;cases hh
  ·rename_i i' z e w n g wr r' hh
   cases hh;simp only[HM.get]at h;cases hc:Nat.beq (ghN i) j<;>rw[hc]at h
   ·exact skip h
   ·cases h
    have:=au hc;unfold ghN at this;exact .inr ⟨by omega,by omega,e,w,rfl⟩
  ·rename_i y r' _ hh
   cases hh;exact skip h
theorem Rel.lg{h:Heap}{ρ:Ren}{T:Nat->Prop}{w:World}(hR:Rel h ρ T w)(k:Nat)(obs:List (Nat×dB)): ∃ρ',ρ.le ρ'/\(∀i,i<k->ρ' i=ρ i)/\h.next<=(SE.lg k h obs).next/\Rel (SE.lg k h obs) ρ' T w:=by
 unfold SE.lg;cases hb:(noGh obs|| !Nat.ble k h.next|| !Nat.ble h.next 100000|| !(obs.all λp=>Nat.blt p.1 100000))with
 |true=>exact⟨ρ,Ren.le_refl _,λ_ _=>rfl,aY _,hR⟩
 |false=>
  simp only[Bool.or_eq_false_iff,Bool.not_eq_false']at hb;obtain⟨⟨⟨_,hk⟩,hn⟩,ho⟩:=hb;have hn:=Nat.le_of_ble_eq_true hn;have hk:=Nat.le_of_ble_eq_true hk;obtain⟨S,h1,h2,h3,h4,h5⟩:=hR;have low: ∀i o,h.m.get i=some o->i<h.next:=λi o hi=>by
   obtain⟨a,ha,_⟩:=h1 i o hi;rcases Nat.lt_or_ge i h.next with h'|h'
   ·exact h'
   ·rw[h4 i h']at ha;cases ha
  let ρ':Ren:=λi=>if i<h.next then ρ i else if i<200000 then some ⟨0,0,0⟩else none
  have hle:ρ.le ρ':=λi a ha=>by
   rcases Nat.lt_or_ge i h.next with h'|h'
   ·simp only[ρ',if_pos h'];exact ha
   ·rw[h4 i h']at ha;cases ha
  refine⟨ρ',hle,λi hi=>by simp only[ρ',if_pos (Nat.lt_of_lt_of_le hi hk)],by show h.next<=200000;omega,λi b=>i<h.next/\S i b,λi o hi=> ?_,λi j o o' b hi hj hij hSi hSj=> ?_,λi o b hi hS=> ?_,λi hi=> ?_,h5⟩
  ·rcases oL ho hi with hi|⟨g1,g2,e,x,rfl⟩
   ·obtain⟨a,ha,hh⟩:=h1 i o hi
    have hlt:=low i o hi;refine⟨a,hle _ _ ha,?_⟩;have:(λb=>i<h.next/\S i b)=S i:=by funext b;simp[hlt]
    show dH ρ' w T a (λb=>i<h.next/\S i b) o;rw[this];exact hh.mono hle
   ·exact⟨⟨0,0,0⟩,by simp only[ρ',if_neg (by omega: ¬i<h.next),if_pos g2],.inl ⟨rfl,by simp[Cs.size]⟩⟩
  ·rcases oL ho hi with hi|⟨g1,_⟩
   ·rcases oL ho hj with hj|⟨g1,_⟩
    ·exact h2 i j o o' b hi hj hij hSi.2 hSj.2
    ·have:=hSj.1;omega
   ·have:=hSi.1;omega
  ·rcases oL ho hi with hi|⟨g1,_⟩
   ·exact h3 i o b hi hS.2
   ·have:=hS.1;omega
  ·have hi:200000<=i:=hi
   simp only[ρ',if_neg (by omega: ¬i<h.next),if_neg (by omega: ¬i<200000)]
theorem St.sub2{k n:Nat}{ρ:Ren}{T:Nat->Prop}{fr fr':Fr}{h h':Heap}{a:Act}{w:World}(hs:St k n ρ T fr h a w)(τ:Nat->Nat)(hτk: ∀i,i<k->τ i=i)(hk:k<=h'.next)
  (hinj: ∀i j,i<h'.next->j<h'.next->τ i=τ j->i=j) (ai6: ∀i o0,h'.get i=some o0->i<h'.next/\ ∃o,h.get (τ i)=some o/\Soft τ h'.next o0 o)
  (hfr: ∀t,∀(ρ ρ0:Ren) u,(∀i,i<h'.next->ρ0 i=ρ (τ i))->bn ρ (look fr t) u->bn ρ0 (look fr' t) u): ∃ρ',(∀i,i<k->ρ' i=ρ i)/\St k n ρ' T fr' h' a w:=by
 obtain⟨S,h1,h2,h3,h4,h5⟩:=hs.rel;let ρ':Ren:=λi=>if i<h'.next then ρ (τ i)else none
 have hρ: ∀i,i<h'.next->ρ' i=ρ (τ i):=λi hi=>by simp[ρ',hi]
 refine⟨ρ',λi hi=>by rw[hρ i (by omega),hτk i hi],hk,⟨λi=>S (τ i),λi o0 hi=> ?_,λi j o o' b hi hj hij hSi hSj=> ?_,λi o0 b hi hS=> ?_,λi hi=>by simp[ρ'];omega,h5⟩,⟨hs.fr.size,hs.fr.defers,λt=> ?_⟩⟩
 ·obtain⟨hlt,o,ho,IJ⟩:=ai6 i o0 hi
  obtain⟨x,hx,hh⟩:=h1 _ o ho;exact⟨x,by rw[hρ i hlt];exact hx,IJ ρ ρ' w T x _ hρ hh⟩
 ·obtain⟨hlt,x,hx,_⟩:=ai6 i o hi
  obtain⟨hlt',y,hy,_⟩:=ai6 j o' hj;exact h2 _ _ x y b hx hy (λhe=>hij (hinj i j hlt hlt' he)) hSi hSj
 ·obtain⟨hlt,x,hx,_⟩:=ai6 i o0 hi
  exact h3 _ x b hx hS
 ·exact hfr t ρ ρ' _ hρ (hs.fr.vals t)
def Ye(N:Nat)(τ:Tau):Tau:=τ++goT τ
where
 goT:Tau->Tau
  |[]=>[]
  |p::r=>bif Nat.blt p.2 N&& !(τ.any λq=>Nat.beq q.1 p.2)then(p.2,300000+p.2)::goT r else goT r
def Ob(k N:Nat)(τ:Tau):Bool:=τ.all (λp=>Nat.ble k p.1&&(Nat.ble N p.2||τ.any λq=>Nat.beq q.1 p.2))&&distinct (τ.map (·.2))
where
 distinct:List Nat->Bool
  |[]=>true
  |x::l=>l.all (λy=> !Nat.beq x y)&&distinct l
theorem Dn(τ:Tau)(i:Nat):tau τ i=i\/ ∃p∈τ,p.1=i/\p.2=tau τ i:=by
 induction τ with
 |nil=>exact .inl rfl
 |cons p τ ih=>
  simp only[tau];cases hb:Nat.beq p.1 i with
  |true=>exact .inr ⟨p,by simp,au hb,rfl⟩
  |false=>
   rcases ih with h|⟨q,hq,h1,h2⟩
   ·exact .inl h
   ·exact .inr ⟨q,by simp[hq],h1,h2⟩
theorem Ap{τ:Tau}(h:Ob.distinct (τ.map (·.2))=true): ∀p∈τ,∀q∈τ,p.2=q.2->p=q:=by
 induction τ with
 |nil=>intro p hp;cases hp
 |cons x τ ih=>
  simp only[List.map_cons,Ob.distinct,aJ,List.all_eq_true,Bool.not_eq_true']at h;obtain⟨h1,h2⟩:=h;have ne: ∀y∈τ,x.2≠y.2:=λy hy he=>by
   have:=h1 y.2 (List.mem_map_of_mem hy);rw[he,Nat.beq_refl]at this;cases this
  intro p hp q hq he;rcases List.mem_cons.1 hp with hp1|hp1
  ·rcases List.mem_cons.1 hq with hq1|hq1
   ·rw[hp1,hq1]
   ·exact(ne q hq1 (by rw[<-hp1];exact he)).elim
  ·rcases List.mem_cons.1 hq with hq1|hq1
   ·exact(ne p hp1 (by rw[<-hq1];exact he.symm)).elim
   ·exact ih h2 p hp1 q hq1 he
theorem an8{τ:Tau}{q:Nat×Nat}(hq:q∈τ): ∃p∈τ,p.1=q.1/\p.2=tau τ q.1:=by
 induction τ with
 |nil=>cases hq
 |cons p τ ih=>
  simp only[tau];cases hb:Nat.beq p.1 q.1 with
  |true=>exact⟨p,by simp,au hb,rfl⟩
  |false=>
   rcases List.mem_cons.1 hq with rfl|hq
   ·rw[Nat.beq_refl]at hb;cases hb
   ·obtain⟨r,hr,h1,h2⟩:=ih hq
    exact⟨r,List.mem_cons_of_mem _ hr,h1,h2⟩
theorem aaj{k N:Nat}{τ:Tau}(h:Ob k N τ=true):(∀i,i<k->tau τ i=i)/\ ∀i j,i<N->j<N->tau τ i=tau τ j->i=j:=by
 simp only[Ob,aJ,List.all_eq_true,Bool.or_eq_true,Nat.ble_eq,List.any_eq_true]at h;obtain⟨h1,h2⟩:=h;have out: ∀i j,j<N->(∀p∈τ,p.1=i->p.2=tau τ i->tau τ j=j->tau τ i=tau τ j->i=j):=λi j hj p hp h3 h4 hb he=>by
  rcases (h1 p hp).2 with hn|⟨q,hq,hqe⟩
  ·omega
  ·have hqe:=au hqe
   have hqj:q.1=j:=by omega
   obtain⟨r,hr,h5,h6⟩:=an8 hq;rw[hqj]at h5 h6;have:=Ap h2 p hp r hr (by omega);subst this;omega
 refine⟨λi hi=> ?_,λi j hi hj he=> ?_⟩
 ·rcases Dn τ i with h|⟨p,hp,h3,_⟩
  ·exact h
  ·have:=(h1 p hp).1;omega
 ·rcases Dn τ i with ha|⟨p,hp,h3,h4⟩<;>rcases Dn τ j with hb|⟨q,hq,h5,h6⟩
  ·omega
  ·exact(out j i hi q hq h5 h6 ha he.symm).symm
  ·exact out i j hj p hp h3 h4 hb he
  ·have:=Ap h2 p hp q hq (by omega)
   subst this;omega
mutual
def nV(N:Nat)(τ:Tau):AV->Bool
 | .any=>true
 | .lit _=>true
 | .ptr i _=>Nat.blt i N&&Nat.beq (tau τ i) i
 | .sl i _ _ _=>Nat.blt i N&&Nat.beq (tau τ i) i
 | .slU i _ _ _=>Nat.blt i N&&Nat.beq (tau τ i) i
 | .ni i _ _ _=>Nat.blt i N&&Nat.beq (tau τ i) i
 | .slE i _ _ _ _=>Nat.blt i N&&Nat.beq (tau τ i) i
 | .slW i _ _ _=>Nat.blt i N&&Nat.beq (tau τ i) i
 | .slR i _ _ _=>Nat.blt i N&&Nat.beq (tau τ i) i
 | .slZ _ i _ _ _=>Nat.blt i N&&Nat.beq (tau τ i) i
 | .slV _ i _ _=>Nat.blt i N&&Nat.beq (tau τ i) i
 | .one=>true
 | .arr .. =>true
 | .mp i=>Nat.blt i N&&Nat.beq (tau τ i) i
 | .fn _ a b=>SL N τ a&&SL N τ b
 | .agg l=>SL N τ l
 | .tup l=>SL N τ l
 | .ifc _ v=>nV N τ v
def SL(N:Nat)(τ:Tau):List AV->Bool
 |[]=>true
 |a::l=>nV N τ a&&SL N τ l
end
mutual
theorem Je{N:Nat}{τ:Tau}{ρ ρ0:Ren}(hρ: ∀i,i<N->ρ0 i=ρ (tau τ i)): ∀(v:AV) (u:Value),nV N τ v=true->bn ρ v u->bn ρ0 v u
 | .any,_,_,_=>by simp only[bn]
 | .lit _,_,_,h=>by simpa only[bn]using h
 | .ptr i o,u,hs,h=>by simp only[nV,aJ]at hs;have e:=hρ i (bg.1 hs.1);rw[au hs.2]at e;simp only[bn,e]at h ⊢;exact h
 | .sl i o n c,u,hs,h=>by simp only[nV,aJ]at hs;have e:=hρ i (bg.1 hs.1);rw[au hs.2]at e;simp only[bn,e]at h ⊢;exact h
 | .slU i o n c,u,hs,h=>by simp only[nV,aJ]at hs;have e:=hρ i (bg.1 hs.1);rw[au hs.2]at e;simp only[bn,e]at h ⊢;exact h
 | .ni i k m j,u,hs,h=>by simp only[nV,aJ]at hs;have e:=hρ i (bg.1 hs.1);rw[au hs.2]at e;simp only[bn,e]at h ⊢;exact h
 | .slE i k m n c,u,hs,h=>by simp only[nV,aJ]at hs;have e:=hρ i (bg.1 hs.1);rw[au hs.2]at e;simp only[bn,e]at h ⊢;exact h
 | .slW i k m n,u,hs,h=>by simp only[nV,aJ]at hs;have e:=hρ i (bg.1 hs.1);rw[au hs.2]at e;simp only[bn,e]at h ⊢;exact h
 | .slR i k m n,u,hs,h=>by simp only[nV,aJ]at hs;have e:=hρ i (bg.1 hs.1);rw[au hs.2]at e;simp only[bn,e]at h ⊢;exact h
 | .slZ z i k m n,u,hs,h=>by simp only[nV,aJ]at hs;have e:=hρ i (bg.1 hs.1);rw[au hs.2]at e;simp only[bn,e]at h ⊢;exact h
 | .slV z i m n,u,hs,h=>by simp only[nV,aJ]at hs;have e:=hρ i (bg.1 hs.1);rw[au hs.2]at e;simp only[bn,e]at h ⊢;exact h
 | .one,u,hs,h=>by simpa only[bn]using h
 | .arr ..,u,hs,h=>by simpa only[bn]using h
 | .mp i,u,hs,h=>by simp only[nV,aJ]at hs;have e:=hρ i (bg.1 hs.1);rw[au hs.2]at e;simp only[bn,e]at h ⊢;exact h
 | .fn f a b,u,hs,h=>by
  simp only[nV,aJ]at hs;simp only[bn]at h ⊢;obtain⟨x,y,hv,h1,h2⟩:=h;exact⟨x,y,hv,wZ hρ _ _ hs.1 h1,wZ hρ _ _ hs.2 h2⟩
 | .agg l,u,hs,h=>by
  simp only[nV]at hs;simp only[bn]at h ⊢;obtain⟨x,hv,h1⟩:=h;exact⟨x,hv,wZ hρ _ _ hs h1⟩
 | .tup l,u,hs,h=>by
  simp only[nV]at hs;simp only[bn]at h ⊢;obtain⟨x,hv,h1⟩:=h;exact⟨x,hv,wZ hρ _ _ hs h1⟩
 | .ifc t v,u,hs,h=>by
  simp only[nV]at hs;simp only[bn]at h ⊢;obtain⟨x,hv,h1⟩:=h;exact⟨x,hv,Je hρ _ _ hs h1⟩
theorem wZ{N:Nat}{τ:Tau}{ρ ρ0:Ren}(hρ: ∀i,i<N->ρ0 i=ρ (tau τ i)): ∀(l:List AV) (u:List Value),SL N τ l=true->dP ρ l u->dP ρ0 l u
 |[],_,_,h=>by simpa[dP]using h
 |a::l,_,hs,h=>by
  simp only[SL,aJ]at hs;simp only[dP]at h ⊢;obtain⟨v,vs,rfl,h1,h2⟩:=h;exact⟨v,vs,rfl,Je hρ _ _ hs.1 h1,wZ hρ _ _ hs.2 h2⟩
end
structure ajw where
 σ:Type
 fr:σ->List (Nat×AV)
 ob:σ->List (Nat×Option dB)
 inv:σ->Prop
 meas:σ->Nat
 nx:Nat:=0
 test:Fr->Heap->Bool:=λ_ _=>true
structure LGh where
 G:Type
 forms:G->List ajw
structure Aq where
 σ:Type
 fr:σ->List (Nat×AV)
 ob:σ->List (Nat×Option dB)
 inv:σ->Prop
 meas:σ->Nat
 nx:Nat:=0
 test:Fr->Heap->Bool:=λ_ _=>true
 gh:Option LGh:=none
def ajw.ann(A:ajw):Aq:={σ:=A.σ,fr:=A.fr,ob:=A.ob,inv:=A.inv,meas:=A.meas,nx:=A.nx,test:=A.test}
def LGh.all(e:LGh)(g:e.G):List Aq:=(e.forms g).map ajw.ann
def lookO(ob:List (Nat×Option dB))(h:Heap)(i:Nat):Option dB:=match ob with
 |[]=>h.get i
 |(j,o)::r=>bif Nat.beq i j then o else lookO r h i
def qy(ob:List (Nat×Option dB))(h:Heap):Nat->List (Nat×dB)
 |0=>[]
 |i+1=>match lookO ob h i with
  |some o=>(i,o)::qy ob h i
  |none=>qy ob h i
def pX(N:Nat)(l:List (Nat×dB)):Heap:=⟨N,l.map λp=>(p.1,some p.2)⟩
def inW(W:List Nat)(t:Nat):Bool:=W.any λx=>Nat.beq x t
def uh(fr:Fr)(W:List Nat):Nat->List (Nat×AV)
 |0=>[]
 |t+1=>bif inW W t then uh fr W t else(match look fr t with
  | .any=>uh fr W t
  |v=>(t,v)::uh fr W t)
def adU(l:List (Nat×AV))(fr:Fr)(W:List Nat)(n:Nat):Fr:=frL (l++uh fr W n)
def matC:Cs->Cs->Tau->Tau
 | .av l,.av m,τ=>aai l m τ
 | .cat a b,.cat a' b',τ=>matC b b' (matC a a' τ)
 |_,_,τ=>τ
def an9(h:Heap):List (Nat×dB)->Tau->Tau
 |[],τ=>τ
 |(i,o)::r,τ=>an9 h r (match o,h.get (tau τ i)with
  | .cells _ c,some (.cells _ d)=>matC c d τ
  |_,_=>τ)
def aqP(τ:Tau)(h:Heap):List (Nat×dB)->Prop
 |[]=>True
 |(i,o)::r=>eqO τ o (h.get (tau τ i))/\aqP τ h r
def nM(N:Nat)(l:List (Nat×dB)):Bool:=l.all λp=>oI N p.2
def acG(k N n:Nat)(l:List (Nat×AV))(W:List Nat)(fr0:Fr)(obs:List (Nat×dB))(fr:Fr)(h:Heap):Prop:=
 go (lg k h obs) (Ye N (an9 (lg k h obs) obs (aai (l.map (·.2)) (l.map λp=>look fr p.1) [])))
where
 go (h:Heap) (τ:Tau):Prop:=bif Ob k N τ&&gI N (l.map (·.2))&&nM N obs&&l.all (λp=>inW W p.1)&&(uh fr0 W n).all (λp=>nV N τ p.2)&&Nat.ble k N then(eqL τ (l.map (·.2)) (l.map λp=>look fr p.1)/\aqP τ h obs)else False
def Agree(n:Nat)(W:List Nat)(fr fr':Fr):Prop:= ∀t,t<n->inW W t=false->look fr' t=look fr t
theorem SN{W:List Nat}{t:Nat}:inW W t=true↔t∈W:=by
 simp only[inW,List.any_eq_true];exact⟨λ⟨x,hx,hb⟩=>by rw[<-au hb];exact hx,λh=>⟨t,h,Nat.beq_refl _⟩⟩
theorem G8(N:Nat): ∀(l:List (Nat×dB)) (i:Nat) (o:dB),(pX N l).get i=some o->(i,o)∈l
 |[],i,o,h=>by simp[pX,Heap.get,HM.get]at h
 |(j,x)::l,i,o,h=>by
  simp only[pX,Heap.get,List.map_cons,HM.get]at h;cases hb:Nat.beq j i<;>rw[hb]at h
  ·have:=G8 N l i o (by simpa[pX,Heap.get]using h)
   exact List.mem_cons_of_mem _ this
  ·simp at h;subst h;rw[au hb];simp
theorem BL{ob:List (Nat×Option dB)}{h:Heap}: ∀{N:Nat} {p:Nat×dB},p∈qy ob h N->p.1<N
 |0,p,hp=>by cases hp
 |i+1,p,hp=>by
  simp only[qy]at hp;split at hp
  ·rcases List.mem_cons.1 hp with rfl|hp
   ·simp
   ·have:=BL hp;omega
  ·have:=BL hp;omega
theorem Dp{fr:Fr}{W:List Nat}{t:Nat}: ∀(n:Nat),(match (uh fr W n).find? (λp=>p.1==t)with|some p=>p.2|none=>AV.any)=if t<n/\inW W t=false then look fr t else .any
 |0=>by simp[uh]
 |m+1=>by
  have ih:=Dp (fr:=fr) (W:=W) (t:=t) m;simp only[uh];cases hw:inW W m with
  |true=>
   simp only[aP,ih];by_cases h:t=m
   ·subst h;simp[hw]
   ·by_cases h2:t<m
    ·simp[h2,Nat.lt_succ_of_lt h2]
    ·rw[if_neg (by omega),if_neg (by omega)]
  |false=>
   simp only[aQ];have key: ∀v:AV,look fr m=v->(match ((match v with| .any=>uh fr W m|v=>(m,v)::uh fr W m):List (Nat×AV)).find? (λp=>p.1==t)with|some p=>p.2|none=>AV.any)=if t<m+1/\inW W t=false then look fr t else .any:=by
    have any:look fr m= .any->(match (uh fr W m).find? (λp=>p.1==t)with|some p=>p.2|none=>AV.any)=if t<m+1/\inW W t=false then look fr t else .any:=λhv=>by
     rw[ih];by_cases h:t=m
     ·subst h;simp[hw,hv]
     ·by_cases h2:t<m
      ·simp[h2,Nat.lt_succ_of_lt h2]
      ·rw[if_neg (by omega),if_neg (by omega)]
    have other: ∀v,look fr m=v->(match ((m,v)::uh fr W m).find? (λp=>p.1==t)with|some p=>p.2|none=>AV.any)=if t<m+1/\inW W t=false then look fr t else .any:=λv hv=>by
     simp only[List.find?_cons];by_cases h:m=t
     ·subst h;simp[hw,hv]
     ·have:(m==t)=false:=by simpa using h
      rw[this];simp only[];rw[ih];by_cases h2:t<m
      ·simp[h2,Nat.lt_succ_of_lt h2]
      ·rw[if_neg (by omega),if_neg (by omega)]
    intro v hv;cases v
    case any=>exact any hv
    all_goals exact other _ hv
   exact key _ rfl
theorem Dq{l:List (Nat×AV)}{fr:Fr}{W:List Nat}{n t:Nat}:look (adU l fr W n) t=match l.find? (λp=>p.1==t)with|some p=>p.2|none=>if t<n/\inW W t=false then look fr t else .any:=by
 unfold adU;rw[XU,List.find?_append];cases hf:l.find? (λp=>p.1==t)with
 |some p=>simp
 |none=>simp only[Option.none_or];exact Dp n
theorem adV{k N n:Nat}{l:List (Nat×AV)}{W:List Nat}{fr0 fr:Fr}{obs:List (Nat×dB)}{h:Heap}(hN: ∀p∈obs,p.1<N)(hag:Agree n W fr0 fr)(hf:acG k N n l W fr0 obs fr h){ρ:Ren}{T:Nat->Prop}{a:Act}{w:World}(hs:St k n ρ T fr h a w):
  ∃ρ',(∀i,i<k->ρ' i=ρ i)/\St k n ρ' T (adU l fr0 W n) (pX N obs) a w:=by
 unfold acG at hf;obtain⟨ρg,g1,g2,g3,g4⟩:=hs.rel.lg k obs;have hs2:St k n ρg T fr (lg k h obs) a w:=⟨Nat.le_trans hs.le g3,g4,hs.fr.mono g1⟩
 suffices hh: ∃ρ',(∀i,i<k->ρ' i=ρg i)/\St k n ρ' T (adU l fr0 W n) (pX N obs) a w by
  obtain⟨ρ',q1,q2⟩:=hh;exact⟨ρ',λi hi=>(q1 i hi).trans (g2 i hi),q2⟩
 clear g1 g2 g3 g4;generalize lg k h obs=h at hf hs2;clear hs;have hs:=hs2;clear hs2;generalize ρg=ρ at hs;generalize hτ:Ye N (an9 h obs (aai (l.map (·.2)) (l.map λp=>look fr p.1) []))=τ at hf;unfold acG.go at hf;cases hb:(Ob k N τ&&gI N (l.map (·.2))&&nM N obs&&l.all (λp=>inW W p.1)&&(uh fr0 W n).all (λp=>nV N τ p.2)&&Nat.ble k N)with
 |false=>rw[hb]at hf;exact hf.elim
 |true=>
  rw[hb]at hf;simp only[aP]at hf;simp only[aJ,List.all_eq_true,nM,Nat.ble_eq]at hb;obtain⟨⟨⟨⟨⟨b1,b2⟩,b3⟩,b4⟩,b5⟩,b6⟩:=hb;obtain⟨t1,t2⟩:=aaj b1;have hos: ∀p∈obs,eqO τ p.2 (h.get (tau τ p.1)):=by
   have: ∀obs:List (Nat×dB),aqP τ h obs-> ∀p∈obs,eqO τ p.2 (h.get (tau τ p.1)):=by
    intro obs
    induction obs with
    |nil=>intro _ p hp;cases hp
    |cons x r ih=>
     intro he p hp;rcases List.mem_cons.1 hp with rfl|hp
     ·exact he.1
     ·exact ih he.2 p hp
   exact this obs hf.2
  have hvs: ∀p∈l,dJ N p.2=true/\eqV τ p.2 (look fr p.1):=by
   have: ∀l:List (Nat×AV),gI N (l.map (·.2))=true->eqL τ (l.map (·.2)) (l.map λp=>look fr p.1)-> ∀p∈l,dJ N p.2=true/\eqV τ p.2 (look fr p.1):=by
    intro l
    induction l with
    |nil=>intro _ _ p hp;cases hp
    |cons x r ih=>
     intro hb he p hp;simp only[List.map_cons,gI,aJ]at hb;simp only[List.map_cons,eqL]at he;rcases List.mem_cons.1 hp with rfl|hp
     ·exact⟨hb.1,he.1⟩
     ·exact ih hb.2 he.2 p hp
   exact this l b2 hf.1
  refine hs.sub2 (h':=pX N obs) (tau τ) t1 b6 t2 (λi o0 hi=> ?_) (λt ρ ρ0 u hρ hu=> ?_)
  ·have hm:=G8 N obs i o0 hi
   obtain⟨o',ho',IJ⟩:=Jd (b3 _ hm) (hos _ hm);exact⟨hN _ hm,o',ho',IJ⟩
  ·rw[Dq]
   split
   ·rename_i p hp
    have hpl:=List.mem_of_find?_eq_some hp;have hpt:p.1=t:=by simpa using List.find?_some hp
    obtain⟨c1,c2⟩:=hvs p hpl;rw[hpt]at c2;exact GZ hρ _ _ _ c1 c2 hu
   ·split
    ·rename_i ht
     rw[hag t ht.1 ht.2]at hu;refine Je hρ _ _ ?_ hu;have hk:=Dp (fr:=fr0) (W:=W) (t:=t) n;rw[if_pos ht]at hk;cases hff:(uh fr0 W n).find? (λp=>p.1==t)with
     |none=>rw[hff]at hk;simp only at hk;rw[<-hk];rfl
     |some p=>
      rw[hff]at hk;simp only at hk;rw[<-hk];exact b5 p (List.mem_of_find?_eq_some hff)
    ·simp only[bn]
abbrev xg:=Exit->Fr->Heap->Prop
def Jf(K:Fr->Heap->Prop)(Q:xg):xg:=λe fr h=>match e with
 | .normal=>K fr h
 |e=>Q e fr h
def Dt(id:Nat)(Q:xg):xg:=λe fr h=>match e with
 | .exit id'=>bif Nat.beq id' id then Q .normal fr h else Q (.exit id') fr h
 |e=>Q e fr h
def vOps(call:WFn)(tt:TT)(n:Nat)(ops:Array Oper):List Nat->Fr->Heap->(Fr->Heap->Prop)->Prop
 |[],fr,h,Q=>Q fr h
 |i::l,fr,h,Q=>aqc call tt n ops i fr h λfr' h'=>vOps call tt n ops l fr' h' Q
def wrC:Code->List Nat
 | .region _ ops _=>DS ops (List.range ops.size)
 | .seq a b=>wrC a++wrC b
 | .cond _ a b=>wrC a++wrC b
 | .block _ a=>wrC a
 | .loop a=>wrC a
 | .scope a=>wrC a
 |_=>[]
def setC(fr:Fr)(c:Operand)(b:Bool):Fr:=match c with
 | .tmp t=>FI fr (some t) (.lit (.bool b))
 |_=>fr
def entG(k n:Nat)(W:List Nat)(fr0:Fr)(h0:Heap)(P:(A:Aq)->A.σ->Prop)(fr:Fr)(h:Heap):List Aq->Prop
 |[]=>False
 |[A]=> ∃s:A.σ,A.inv s/\P A s/\acG k (h0.next+A.nx) n (A.fr s) W fr0 (qy (A.ob s) h0 (h0.next+A.nx)) fr h
 |A::L=>(∃s:A.σ,A.inv s/\P A s/\acG k (h0.next+A.nx) n (A.fr s) W fr0 (qy (A.ob s) h0 (h0.next+A.nx)) fr h)\/entG k n W fr0 h0 P fr h L
def adW(fr:Fr)(h:Heap):List Aq->List Aq
 |[]=>[]
 |A::L=>bif A.test fr h then A::adW fr h L else adW fr h L
theorem Du{fr:Fr}{h:Heap}{A:Aq}: ∀{L:List Aq},A∈adW fr h L->A∈L
 |B::L,hA=>by
  simp only[adW]at hA;cases hb:B.test fr h<;>rw[hb]at hA
  ·exact List.mem_cons_of_mem _ (Du hA)
  ·rcases List.mem_cons.1 hA with rfl|hA
   ·simp
   ·exact List.mem_cons_of_mem _ (Du hA)
def aiR(k n:Nat)(W:List Nat)(fr0:Fr)(h0:Heap)(P:(A:Aq)->A.σ->Prop)(fr:Fr)(h:Heap)(L:List Aq):Prop:=entG k n W fr0 h0 P fr h (adW fr h L)
def adX(k n:Nat)(W:List Nat)(fr0:Fr)(h0:Heap)(body:(Fr->Heap->Prop)->Fr->Heap->Prop)(all:List Aq):List Aq->Prop
 |[]=>True
 |A::L=>(∀s:A.σ,A.inv s->body (λfr h=>aiR k n W fr0 h0 (λB t=>B.meas t<A.meas s) fr h all) (adU (A.fr s) fr0 W n) (pX (h0.next+A.nx) (qy (A.ob s) h0 (h0.next+A.nx))))/\adX k n W fr0 h0 body all L
abbrev qA:=Nat->Fr->Heap->List Aq
def adY(n:Nat)(k:Nat->Prop):Prop:=match n with
 |0=>k 0
 |m+1=>k (m+1)
theorem Oc(n:Nat)(k:Nat->Prop):adY n k=k n:=by cases n<;>rfl
def amA(o:Option dB)(k:Option dB->Prop):Prop:=match o with
 |none=>k none
 |some (.cells e c)=>k (some (.cells e c))
 |some (.room e c)=>k (some (.room e c))
 |some (.iF z e c)=>k (some (.iF z e c))
 |some (.nC m)=>k (some (.nC m))
 |some (.ro c)=>k (some (.ro c))
 |some (.map es clock)=>k (some (.map es clock))
 |some (.abs A)=>k (some (.abs A))
 |some (.iter m s n t)=>k (some (.iter m s n t))
theorem adZ(o:Option dB)(k:Option dB->Prop):amA o k=k o:=by
 cases o with
 |none=>rfl
 |some o=>cases o<;>rfl
def Yf:HM->(HM->Prop)->Prop
 |[],k=>k []
 |(i,o)::r,k=>adY i λi=>amA o λo=>Yf r λr=>k ((i,o)::r)
theorem Oe: ∀(t:HM) (k:HM->Prop),Yf t k=k t
 |[],_=>rfl
 |(i,o)::r,k=>by simp only[Yf,Oc,adZ,Oe r]
def ad1(h:Heap)(k:Heap->Prop):Prop:=match h with
 |⟨n,m⟩=>adY n λn=>Yf m λm=>k ⟨n,m⟩
theorem ad2(h:Heap)(k:Heap->Prop):ad1 h k=k h:=by
 cases h;simp only[ad1,Oc,Oe]
def Og:PM AV->(PM AV->Prop)->Prop
 | .leaf,k=>k .leaf
 | .node l v r,k=>Og l λl=>Og r λr=>match v with
  |none=>k (.node l none r)
  |some x=>k (.node l (some x) r)
theorem Dv: ∀(t:PM AV) (k:PM AV->Prop),Og t k=k t
 | .leaf,_=>rfl
 | .node l v r,k=>by simp only[Og,Dv l,Dv r];cases v<;>rfl
def Yg(fr:Fr)(h:Heap)(k:Fr->Heap->Prop):Prop:=Og fr λfr=>ad1 h λh=>k fr h
theorem ad3(fr:Fr)(h:Heap)(k:Fr->Heap->Prop):Yg fr h k=k fr h:=by simp only[Yg,Dv,ad2]
def Dw:Code->Nat
 | .region id _ _=>1000+id
 | .block id _=>2000+id
 | .seq a _=>Dw a
 | .scope a=>Dw a
 |_=>0
def aqQ(an:qA)(y:Code)(fr:Fr)(h:Heap):List Aq:=match Dw y with
 |0=>[]
 |i+1=>an (i+1) fr h
def ad4(k n:Nat)(W:List Nat)(fr0:Fr)(h0:Heap)(body:Fr->Heap->Prop):List Aq->Prop
 |[]=>True
 |A::L=>(∀s:A.σ,A.inv s->body (adU (A.fr s) fr0 W n) (pX (h0.next+A.nx) (qy (A.ob s) h0 (h0.next+A.nx))))/\ad4 k n W fr0 h0 body L
theorem G9{k n:Nat}{W:List Nat}{fr0:Fr}{h0:Heap}{body:Fr->Heap->Prop}: ∀{L:List Aq},ad4 k n W fr0 h0 body L-> ∀A∈L,∀s:A.σ,A.inv s->
  body (adU (A.fr s) fr0 W n) (pX (h0.next+A.nx) (qy (A.ob s) h0 (h0.next+A.nx)))
 |A::L,hh,B,hB=>by
  rcases List.mem_cons.1 hB with rfl|hB
  ·exact hh.1
  ·exact G9 hh.2 B hB
def wpC(call:WFn)(tt:TT)(k n:Nat)(an:qA):Nat->Code->xg->Fr->Heap->Prop
 |0,_,_,_,_=>False
 |_+1,.skip,Q,fr,h=>Q .normal fr h
 |_+1,.ret,Q,fr,h=>Q .ret fr h
 |_+1,.exit id,Q,fr,h=>Q (.exit id) fr h
 |f+1,.seq x y,Q,fr,h=>match aqQ an y fr h with
  |[]=>wpC call tt k n an f x (Jf (λfr h=>Yg fr h λfr h=>wpC call tt k n an f y Q fr h) Q) fr h
  |A::L=>match A.gh with
   |none=>wpC call tt k n an f x (Jf (λfr' h'=>aiR k n (wrC x) fr h (λ_ _=>True) fr' h' (A::L)) Q) fr h/\ad4 k n (wrC x) fr h (λfr' h'=>wpC call tt k n an f y Q fr' h') (A::L)
   |some e=> ∃g:e.G,wpC call tt k n an f x (Jf (λfr' h'=>aiR k n (wrC x) fr h (λ_ _=>True) fr' h' (e.all g)) Q) fr h/\ad4 k n (wrC x) fr h (λfr' h'=>wpC call tt k n an f y Q fr' h') (e.all g)
 |f+1,.cond c x y,Q,fr,h=>match evA fr c with
  | .lit (.bool b)=>cP b (wpC call tt k n an f x Q (setC fr c true) h) (wpC call tt k n an f y Q (setC fr c false) h)
  |_=>False
 |f+1,.block id x,Q,fr,h=>match x,an id fr h with
  | .loop y,A::L=>match A.gh with
   |none=>aiR k n (wrC y) fr h (λ_ _=>True) fr h (A::L)/\
    adX k n (wrC y) fr h (λK fr' h'=>wpC call tt k n an f y (Jf K (Dt id Q)) fr' h') (A::L) (A::L)
   |some e=> ∃g:e.G,aiR k n (wrC y) fr h (λ_ _=>True) fr h (e.all g)/\
    adX k n (wrC y) fr h (λK fr' h'=>wpC call tt k n an f y (Jf K (Dt id Q)) fr' h') (e.all g) (e.all g)
  |_,_=>wpC call tt k n an f x (Dt id Q) fr h
 |f+1,.scope x,Q,fr,h=>wpC call tt k n an f x Q fr h
 |_+1,.label _,Q,fr,h=>Q .normal fr h
 |f+1,.loop x,Q,fr,h=>wpC call tt k n an f x (Jf (λfr h=>wpC call tt k n an f (.loop x) Q fr h) Q) fr h
 |_+1,.region _ ops draw,Q,fr,h=>match draw with
  |true=>let pl:=ajs ops (ops.size+1) [] (Array.replicate ops.size false)
   bif SI ops pl [] (Array.replicate ops.size false)&&oK ops then vPl call tt n ops pl fr h (Q .normal)else False
  |false=>vOps call tt n ops (List.range ops.size) fr h (Q .normal)
 |_+1,_,_,_,_=>False
section
variable{P:Program}{tt:TT}{k n:Nat}{call:WFn}
theorem ad5{l:Nat}{Q:xg}{fr:Fr}{h:Heap}(hq:Q .normal fr h):AWp P k n (.label l) Q fr h:=
 λρ _ _ _ hs=>wp_label ⟨ρ,fr,h,λ_ _=>rfl,hs,Keeps.refl _ _,hq⟩
theorem ad6{c:Code}{Q:xg}{fr:Fr}{h:Heap}(hc:AWp P k n c Q fr h):AWp P k n (.scope c) Q fr h:=by
 intro ρ T w a hs;refine wp_scope_straight (wp_mono (hc ρ T w a hs) λe a' w' hh=> ?_);cases e<;>first|exact hh|exact hh.elim
theorem Agree.refl(W:List Nat)(fr:Fr):Agree n W fr fr:=λ_ _ _=>rfl
theorem Agree.trans{W:List Nat}{a b c:Fr}(h:Agree n W a b)(g:Agree n W b c):Agree n W a c:=λt ht hw=>(g t ht hw).trans (h t ht hw)
theorem Agree.mono{W W':List Nat}{a b:Fr}(h:Agree n W a b)(hs: ∀t∈W,t∈W'):Agree n W' a b:=λt ht hw=>h t ht (by
 cases hh:inW W t with
 |false=>rfl
 |true=>have:=hs t (SN.1 hh);rw[SN.2 this]at hw;cases hw)
def aak(n:Nat)(W:List Nat)(fr0:Fr)(Q:xg):xg:=λe fr h=>Agree n W fr0 fr/\Q e fr h
theorem ad7(hT:tt.ok P)(hc:WOk P call){ops:Array Oper}{Q:Fr->Heap->Prop}: ∀(l:List Nat) (fr:Fr) (h:Heap),vOps call tt n ops l fr h Q->
  ∀ρ T w a,St k n ρ T fr h a w->Af P ops (RI k n ρ T w (λfr' h'=>(∀t,(∀i∈l,iP ops i≠some t)->look fr' t=look fr t)/\Q fr' h')) (l.map .xx) a w
 |[],fr,h,hq=>λρ T w a hs=>⟨ρ,fr,h,λ_ _=>rfl,hs,Keeps.refl _ _,λ_ _=>rfl,hq⟩
 |i::l,fr,h,hq=>λρ T w a hs=>by
  have:=adP (P:=P) (Q:=RI k n ρ T w (λfr' h'=>(∀t,(∀j∈i::l,iP ops j≠some t)->look fr' t=look fr t)/\Q fr' h')) (l:=[]) hT hc hs.rel hs.fr (λ_ _=>by simp) hq;refine wpOp_mono ?_ this
  rintro a' w' ⟨fr',h',ρ',b1,b2,b3,b4,b5,b6,b7⟩
  have hs':St k n ρ' T fr' h' a' w':=⟨Nat.le_trans hs.le b2,b3,b4⟩;have ih:=ad7 hT hc l fr' h' b7 ρ' T w' a' hs';refine jX (λe a2 w2 hh=> ?_) _ _ _ ih;refine ZN (λj hj=>b1 j (Nat.lt_of_lt_of_le hj hs.le)) b6 e a2 w2 ?_;cases e<;>first|exact After.mono (λfr2 h2 ⟨g1,g2⟩=>⟨λt ht=>(g1 t λj hj=>ht j (by simp[hj])).trans (b5 t (ht i (by simp))),g2⟩) hh|exact hh.elim
def SQ(k n:Nat)(Q:Fr->Heap->Prop)(fr:Fr)(h:Heap):Prop:= ∃fr' h',(∀ρ T a w,St k n ρ T fr h a w-> ∃ρ',(∀i,i<k->ρ' i=ρ i)/\St k n ρ' T fr' h' a w)/\Q fr' h'
theorem After.subTo{ρ₀:Ren}{T:Nat->Prop}{w₀:World}{Q:Fr->Heap->Prop}{a:Act}{w:World}(hh:After k n ρ₀ T w₀ (SQ k n Q) a w):After k n ρ₀ T w₀ Q a w:=by
 obtain⟨ρ,fr,h,h1,h2,h3,fr',h',hs,hq⟩:=hh;obtain⟨ρ',r1,r2⟩:=hs ρ T a w h2;exact⟨ρ',fr',h',λi hi=>(r1 i hi).trans (h1 i hi),r2,h3,hq⟩
theorem ad8{c:Code}{Q:xg}{fr:Fr}{h:Heap}(hc:AWp P k n c (λe=>SQ k n (Q e)) fr h):AWp P k n c Q fr h:=
 λρ T w a hs=>wp_mono (hc ρ T w a hs) λe a w hh=>by cases e<;>first|exact After.subTo hh|exact hh.elim
theorem SQ.self{Q:Fr->Heap->Prop}{fr:Fr}{h:Heap}(hq:Q fr h):SQ k n Q fr h:=⟨fr,h,λρ _ _ _ hs=>⟨ρ,λ_ _=>rfl,hs⟩,hq⟩
theorem Oh{W:List Nat}{fr0:Fr}{h0:Heap}{p:(A:Aq)->A.σ->Prop}{fr:Fr}{h:Heap}: ∀{L:List Aq},entG k n W fr0 h0 p fr h L-> ∃A∈L,∃s:A.σ,A.inv s/\p A s/\acG k (h0.next+A.nx) n (A.fr s) W fr0 (qy (A.ob s) h0 (h0.next+A.nx)) fr h
 |[],hh=>hh.elim
 |[A],hh=>⟨A,by simp,hh⟩
 |A::B::L,hh=>by
  rcases hh with hh|hh
  ·exact⟨A,by simp,hh⟩
  ·obtain⟨C,hC,r⟩:=Oh (L:=B::L) hh
   exact⟨C,List.mem_cons_of_mem _ hC,r⟩
theorem Oi{W:List Nat}{fr0:Fr}{h0:Heap}{p:(A:Aq)->A.σ->Prop}{fr:Fr}{h:Heap}{L:List Aq}(hh:aiR k n W fr0 h0 p fr h L): ∃A∈L,∃s:A.σ,A.inv s/\p A s/\acG k (h0.next+A.nx) n (A.fr s) W fr0 (qy (A.ob s) h0 (h0.next+A.nx)) fr h:=by
 obtain⟨C,hC,r⟩:=Oh hh;exact⟨C,Du hC,r⟩
theorem He{W:List Nat}{fr0:Fr}{h0:Heap}{body:(Fr->Heap->Prop)->Fr->Heap->Prop}{all:List Aq}: ∀{L:List Aq},adX k n W fr0 h0 body all L-> ∀A∈L,∀s:A.σ,A.inv s->
  body (λfr h=>aiR k n W fr0 h0 (λB t=>B.meas t<A.meas s) fr h all) (adU (A.fr s) fr0 W n) (pX (h0.next+A.nx) (qy (A.ob s) h0 (h0.next+A.nx)))
 |A::L,hh,B,hB=>by
  rcases List.mem_cons.1 hB with rfl|hB
  ·exact hh.1
  ·exact He hh.2 B hB
theorem ad9{W:List Nat}{fr fr':Fr}(h:Same fr fr'):Agree n W fr fr':=λt _ _=>h t
theorem xq{fr:Fr}{c:Operand}{b:Bool}(h:evA fr c= .lit (.bool b)):Same fr (setC fr c b):=by
 cases c with
 |tmp t=>exact Same.put h
 |_=>exactλ_=>rfl
theorem AWp.same{c:Code}{Q:xg}{fr fr':Fr}{h:Heap}(hs:Same fr fr')(hc:AWp P k n c Q fr' h):AWp P k n c Q fr h:=λρ T w a st=>hc ρ T w a ⟨st.le,st.rel,st.fr.same λt=> .inl (hs t)⟩
theorem aqR(hT:tt.ok P)(hm:P.follows .mixedOrders=true)(hc:WOk P call)(an:qA): ∀(N f:Nat),f<=N-> ∀(c:Code) (Q:xg) (fr:Fr) (h:Heap),wpC call tt k n an f c Q fr h->AWp P k n c (aak n (wrC c) fr Q) fr h:=by
 intro N
 induction N with
 |zero=>intro f hf c Q fr h hq;have:f=0:=by omega
        subst this;simp[wpC]at hq
 |succ N ihN=>
  intro f hf c Q fr h hq;cases f with
  |zero=>simp[wpC]at hq
  |succ f=>
  have ih:=ihN f (by omega);cases c with
  |skip=>exact ai3 ⟨Agree.refl _ _,hq⟩
  |ret=>exact anM ⟨Agree.refl _ _,hq⟩
  |exit id=>exact ai4 ⟨Agree.refl _ _,hq⟩
  |label l=>exact ad5 ⟨Agree.refl _ _,hq⟩
  |scope x=>
   simp only[wpC]at hq;exact ad6 (ih x Q fr h hq)
  |seq x y=>
   have core: ∀all:List Aq,wpC call tt k n an f x (Jf (λfr' h'=>aiR k n (wrC x) fr h (λ_ _=>True) fr' h' all) Q) fr h->ad4 k n (wrC x) fr h (λfr' h'=>wpC call tt k n an f y Q fr' h') all->AWp P k n (.seq x y) (aak n (wrC (.seq x y)) fr Q) fr h:=by
    intro all hent hjoin;refine acZ ((ih x _ fr h hent).mono λe fr1 h1 ⟨g1,g2⟩=> ?_);have gl:Agree n (wrC x++wrC y) fr fr1:=g1.mono λt ht=>List.mem_append_left _ ht
    cases e with
    |normal=>
     obtain⟨B,hB,s,hi,_,hf⟩:=Oi g2;have hb:=G9 hjoin B hB s hi;have hl:((B.fr s).all λp=>inW (wrC x) p.1)=true:=by
      unfold acG at hf;generalize SE.lg k h1 (qy (B.ob s) h (h.next+B.nx))=h1 at hf;generalize Ye (h.next+B.nx) (an9 h1 (qy (B.ob s) h (h.next+B.nx)) (aai ((B.fr s).map (·.2)) ((B.fr s).map λp=>look fr1 p.1) []))=τ at hf;unfold acG.go at hf;cases hb:(Ob k (h.next+B.nx) τ&&gI (h.next+B.nx) ((B.fr s).map (·.2))&&nM (h.next+B.nx) (qy (B.ob s) h (h.next+B.nx))&&(B.fr s).all (λp=>inW (wrC x) p.1)&&(uh fr (wrC x) n).all (λp=>nV (h.next+B.nx) τ p.2)&&Nat.ble k (h.next+B.nx))with
      |false=>rw[hb]at hf;exact hf.elim
      |true=>simp only[aJ]at hb;exact hb.1.1.2
     have ag:Agree n (wrC x) fr (adU (B.fr s) fr (wrC x) n):=λt ht hw=>by
      rw[Dq];cases hf:(B.fr s).find? (λp=>p.1==t)with
      |some p=>
       have hp:=List.mem_of_find?_eq_some hf;have hpt:p.1=t:=by simpa using List.find?_some hf
       have:=List.all_eq_true.1 hl p hp;rw[hpt,hw]at this;cases this
      |none=>simp only;rw[if_pos ⟨ht,hw⟩]
     have main:=(ih y Q _ _ hb).mono λe2 fr2 h2 ⟨q1,q2⟩=>show aak n (wrC (.seq x y)) fr Q e2 fr2 h2 from ⟨(ag.mono λt ht=>List.mem_append_left _ ht).trans (q1.mono λt ht=>List.mem_append_right _ ht),q2⟩
     intro ρ T w a hs;obtain⟨ρ',r1,r2⟩:=adV (λp hp=>BL hp) g1 hf hs;exact wp_mono (main ρ' T w a r2) (uG r1 (Keeps.refl _ _))
    |_=>exact⟨gl,g2⟩
   simp only[wpC]at hq;split at hq
   ·refine acZ ((ih x _ fr h hq).mono λe fr1 h1 ⟨g1,g2⟩=> ?_)
    have gl:Agree n (wrC x++wrC y) fr fr1:=g1.mono λt ht=>List.mem_append_left _ ht
    cases e with
    |normal=>
     have g2:Yg fr1 h1 (λfr h=>wpC call tt k n an f y Q fr h):=g2;rw[ad3]at g2;refine(ih y Q fr1 h1 g2).mono λe2 fr2 h2 ⟨q1,q2⟩=> ?_
     exact⟨gl.trans (q1.mono λt ht=>List.mem_append_right _ ht),q2⟩
    |_=>exact⟨gl,g2⟩
   ·split at hq
    ·exact core _ hq.1 hq.2
    ·obtain⟨g,h1,h2⟩:=hq
     exact core _ h1 h2
  |cond c x y=>
   simp only[wpC]at hq;split at hq
   ·rename_i b hb
    rcases jq hq with ⟨rfl,hq⟩|⟨rfl,hq⟩
    ·refine XL hb (λ_=> ?_) (λh=>by cases h)
     refine AWp.same (xq hb) ((ih x Q _ h hq).mono λe fr1 h1 ⟨g1,g2⟩=>⟨(ad9 (xq hb)).trans (g1.mono λt ht=>List.mem_append_left _ ht),g2⟩)
    ·refine XL hb (λh=>by cases h) (λ_=> ?_)
     refine AWp.same (xq hb) ((ih y Q _ h hq).mono λe fr1 h1 ⟨g1,g2⟩=>⟨(ad9 (xq hb)).trans (g1.mono λt ht=>List.mem_append_right _ ht),g2⟩)
   ·exact hq.elim
  |block id x=>
   have plain:wpC call tt k n an f x (Dt id Q) fr h->AWp P k n (.block id x) (aak n (wrC (.block id x)) fr Q) fr h:=λhq=>by
    refine NG ((ih x _ fr h hq).mono λe fr1 h1 ⟨g1,g2⟩=> ?_);cases e with
    |exit id'=>
     simp only[Dt]at g2;simp only[Gu];cases hb:Nat.beq id' id<;>rw[hb]at g2
     ·have:id'≠id:=λhe=>by subst he;rw[Nat.beq_refl]at hb;cases hb
      rw[if_neg this];exact⟨g1,g2⟩
     ·rw[if_pos (au hb)];exact⟨g1,g2⟩
    |_=>exact⟨g1,g2⟩
   simp only[wpC]at hq;split at hq
   ·rename_i y A L hx
    have core: ∀all:List Aq,aiR k n (wrC y) fr h (λ_ _=>True) fr h all->adX k n (wrC y) fr h (λK fr' h'=>wpC call tt k n an f y (Jf K (Dt id Q)) fr' h') all all->AWp P k n (.block id (.loop y)) (aak n (wrC (.block id (.loop y))) fr Q) fr h:=by
     clear plain hq;intro all hent hloop;let I:Nat->Fr->Heap->Prop:=λm fr1 h1=> ∃B∈all,∃s:B.σ,B.inv s/\B.meas s=m/\fr1=adU (B.fr s) fr (wrC y) n/\h1=pX (h.next+B.nx) (qy (B.ob s) h (h.next+B.nx))
     have hN: ∀(B:Aq) (s:B.σ),∀p∈qy (B.ob s) h (h.next+B.nx),p.1<h.next+B.nx:=λB s p hp=>BL hp
     have agI: ∀(l:List (Nat×AV)),(l.all λp=>inW (wrC y) p.1)=true->Agree n (wrC y) fr (adU l fr (wrC y) n):=λl hl t ht hw=>by
      rw[Dq];cases hf:l.find? (λp=>p.1==t)with
      |some p=>
       have hp:=List.mem_of_find?_eq_some hf;have hpt:p.1=t:=by simpa using List.find?_some hf
       have:=List.all_eq_true.1 hl p hp;rw[hpt,hw]at this;cases this
      |none=>simp only;rw[if_pos ⟨ht,hw⟩]
     have fitW: ∀{N:Nat} {l:List (Nat×AV)} {obs:List (Nat×dB)} {fr1:Fr} {h1:Heap},acG k N n l (wrC y) fr obs fr1 h1->(l.all λp=>inW (wrC y) p.1)=true:=by
      intro N l obs fr1 h1 hf;unfold acG at hf;generalize SE.lg k h1 obs=h1 at hf;generalize Ye N (an9 h1 obs (aai (l.map (·.2)) (l.map λp=>look fr1 p.1) []))=τ at hf;unfold acG.go at hf;cases hb:(Ob k N τ&&gI N (l.map (·.2))&&nM N obs&&l.all (λp=>inW (wrC y) p.1)&&(uh fr (wrC y) n).all (λp=>nV N τ p.2)&&Nat.ble k N)with
      |false=>rw[hb]at hf;exact hf.elim
      |true=>simp only[aJ]at hb;exact hb.1.1.2
     let J:Nat->Fr->Heap->Prop:=λm fr1 h1=>I m fr1 h1/\Agree n (wrC y) fr fr1
     have toJ: ∀(p:(B:Aq)->B.σ->Prop) (fr1:Fr) (h1:Heap),Agree n (wrC y) fr fr1->aiR k n (wrC y) fr h p fr1 h1 all->SQ k n (λfr2 h2=> ∃m,(∃B∈all,∃s:B.σ,p B s/\B.meas s=m)/\J m fr2 h2) fr1 h1:=by
      intro p fr1 h1 hag hent;obtain⟨B,hB,s,hi,hp,hf⟩:=Oi hent;exact⟨_,_,λρ T a w hs=>adV (hN B s) hag hf hs,B.meas s,⟨B,hB,s,hp,rfl⟩,⟨B,hB,s,hi,rfl,rfl,rfl⟩,agI _ (fitW hf)⟩
     obtain⟨fr1,h1,hsub,m0,_,hJ⟩:=toJ _ fr h (Agree.refl _ _) hent;have main:AWp P k n (.loop y) (Gu id (aak n (wrC y) fr Q)) fr1 h1:=by
      refine XM J hJ λm fr2 h2 hJ2=> ?_
      obtain⟨⟨B,hB,s,hi,hme,hf2,hh2⟩,hag2⟩:=hJ2;have hb:=He hloop B hB s hi;rw[<-hf2,<-hh2]at hb;refine ad8 ((ih y _ fr2 h2 hb).mono λe fr3 h3 ⟨g1,g2⟩=> ?_);have hag3:Agree n (wrC y) fr fr3:=hag2.trans g1;cases e with
      |normal=>
       obtain⟨fr4,h4,hs4,m',⟨C,hC,t,hlt,rfl⟩,hJ4⟩:=toJ _ fr3 h3 hag3 g2;exact⟨fr4,h4,hs4,C.meas t,by rw[<-hme];exact hlt,hJ4⟩
      |exit id'=>
       refine SQ.self ?_;simp only[Jf,Dt]at g2;simp only[anL,Gu];cases hbb:Nat.beq id' id<;>rw[hbb]at g2
       ·have:id'≠id:=λhe=>by subst he;rw[Nat.beq_refl]at hbb;cases hbb
        rw[if_neg this];exact⟨hag3,g2⟩
       ·rw[if_pos (au hbb)];exact⟨hag3,g2⟩
      |_=>exact SQ.self ⟨hag3,g2⟩
     refine NG λρ T w a hs=> ?_
     obtain⟨ρ',r1,r2⟩:=hsub ρ T a w hs;exact wp_mono (main ρ' T w a r2) (uG r1 (Keeps.refl _ _))
    split at hq
    ·exact core _ hq.1 hq.2
    ·obtain⟨g,h1,h2⟩:=hq
     exact core _ h1 h2
   ·exact plain hq
  |loop x=>
   simp only[wpC]at hq;let I:Nat->Fr->Heap->Prop:=λm fr1 h1=>m<=f+1/\Agree n (wrC x) fr fr1/\wpC call tt k n an m (.loop x) Q fr1 h1
   refine XM I (m:=f+1) ⟨aY _,Agree.refl _ _,by simp only[wpC];exact hq⟩ ?_
   rintro m fr2 h2 ⟨hm',hag,hq2⟩
   cases m with
   |zero=>simp[wpC]at hq2
   |succ m=>
    simp only[wpC]at hq2;refine(ihN m (by omega) x _ fr2 h2 hq2).mono λe fr3 h3 ⟨g1,g2⟩=> ?_
    cases e with
    |normal=>exact⟨m,by omega,by omega,hag.trans g1,g2⟩
    |_=>exact⟨hag.trans g1,g2⟩
  |region id ops draw=>
   simp only[wpC]at hq;have hDS: ∀t,inW (DS ops (List.range ops.size)) t=false-> ∀i,iP ops i≠some t:=λt ht i hi=>by
    have hlt:i<ops.size:=by
     rcases Nat.lt_or_ge i ops.size with h'|h'
     ·exact h'
     ·simp[iP,Array.getElem?_eq_none h']at hi
    have:t∈DS ops (List.range ops.size):=qx.2 ⟨i,by simpa using hlt,hi⟩;rw[SN.2 this]at ht;cases ht
   cases draw with
   |true=>
    simp only at hq;cases hok:(SI ops (ajs ops (ops.size+1) [] (Array.replicate ops.size false)) [] (Array.replicate ops.size false)&&oK ops)with
    |false=>rw[hok]at hq;exact hq.elim
    |true=>
     rw[hok]at hq;simp only[aP]at hq;exact(aju (P:=P) hT hc hm hok hq).mono λe fr1 h1 ⟨g1,g2⟩=>⟨λt _ hw=>g1 t (hDS t hw),g2⟩
   |false=>
    simp only at hq;refine ZQ rfl λρ T w a hs=> ?_
    refine jX (λe a2 w2 hh=> ?_) _ _ _ (ad7 (P:=P) hT hc _ fr h hq ρ T w a hs);cases e<;>first|exact After.mono (λfr2 h2 ⟨g1,g2⟩=>⟨λt _ hw=>g1 t λi _=>hDS t hw i,g2⟩) hh|exact hh.elim
  |_=>simp[wpC]at hq
theorem aqS(hT:tt.ok P)(hm:P.follows .mixedOrders=true)(hc:WOk P call)(an:qA){f:Nat}{c:Code}{Q:xg}{fr:Fr}{h:Heap}(hq:wpC call tt k n an f c Q fr h):AWp P k n c Q fr h:=
 (aqR hT hm hc an f f (aY _) c Q fr h hq).mono λ_ _ _ h=>h.2
end
abbrev WTr:=List AV->Heap->(AV->Heap->Prop)->Prop
abbrev jf:=List (FuncId×WTr)
def lookW:jf->FuncId->Option WTr
 |[],_=>none
 |(f,T)::r,g=>bif Nat.beq f g then some T else lookW r g
def dX(P:Program)(tbl:jf):Prop:= ∀p∈tbl,∀args h K,p.2 args h K->SpE P p.1 args h K
theorem dX.nil{P:Program}:dX P []:=λ_ h=>by cases h
theorem dX.cons{P:Program}{f:FuncId}{T:WTr}{tbl:jf}(h1: ∀args h K,T args h K->Sp P f args h K)(h2:dX P tbl):dX P ((f,T)::tbl):=λp hp=>by
 rcases List.mem_cons.1 hp with rfl|hp
 ·exactλargs h K hq=> .inl (h1 args h K hq)
 ·exact h2 p hp
theorem dX.FV{P:Program}{f:FuncId}{T:WTr}{tbl:jf}(h1: ∀args h K,T args h K->XSp P f args h K)(h2:dX P tbl):dX P ((f,T)::tbl):=λp hp=>by
 rcases List.mem_cons.1 hp with rfl|hp
 ·exactλargs h K hq=> .inr (h1 args h K hq)
 ·exact h2 p hp
theorem dX.append{P:Program}{a b:jf}(h1:dX P a)(h2:dX P b):dX P (a++b):=λp hp=>by
 rcases List.mem_append.1 hp with h|h
 ·exact h1 p h
 ·exact h2 p h
theorem Oj: ∀{tbl:jf} {g:FuncId} {T:WTr},lookW tbl g=some T->(g,T)∈tbl
 |(f,S)::r,g,T,h=>by
  simp only[lookW]at h;cases hb:Nat.beq f g<;>rw[hb]at h
  ·exact List.mem_cons_of_mem _ (Oj h)
  ·simp at h;subst h;rw[au hb];simp
def aoa(tt:TT)(t:TypeId)(a:AV)(h:Heap):Option AV:=match a with
 | .ptr i o=>match rowA tt t h i o with
  |some (n,g)=>some (.arr n g)
  |none=>FB tt t (.ptr i o) h
 |_=>none
theorem ajx{P:Program}{tt:TT}(hT:tt.ok P):LdOk P (aoa tt):=λh ρ T w hR t a v u hl hu=>by
 unfold aoa at hl;split at hl
 ·refine⟨⟨_,_,rfl⟩,?_⟩
  split at hl
  ·rename_i n g hr;cases hl;exact adb hT hR hr hu
  ·exact nD hT hR hl hu
 ·cases hl
def aea(tt:TT)(fn:Func)(K:AV->Heap->Prop):xg:=λe fr h=>bif isDone e then(match aqF (aoa tt) fn fr h with
 |some v=>K v h
 |none=>False)else False
def wpF(P:Program)(tbl:jf)(tt:TT)(an:FuncId->qA)(fuel:Nat):Nat->WFn
 |0,_,_,_,_=>False
 |d+1,g,args,h,K=>match P.funcs[g]? with
  |some fn=>match fn.body with
   |some c=>bif !(fn.name== "runtime.NumGoroutine")&&Nat.ble args.length fn.ntmps then
     wpC (λg args h K=>match lookW tbl g with
      |some T=>T args h K
      |none=>wpF P tbl tt an fuel d g args h K) tt h.next fn.ntmps (an g) fuel c (aea tt fn K) (NJ args) h else False
   |none=>False
  |none=>False
theorem Ar{P:Program}{tbl:jf}{tt:TT}(hT:tt.ok P)(hm:P.follows .mixedOrders=true)(ht:dX P tbl)(an:FuncId->qA)(fuel:Nat): ∀d g args h K,wpF P tbl tt an fuel d g args h K->Sp P g args h K
 |0=>by intro g args h K hq;simp[wpF]at hq
 |d+1=>by
  intro g args h K hq;simp only[wpF]at hq;split at hq
  ·rename_i fn hf
   split at hq
   ·rename_i c hb
    cases hcnd:(!(fn.name== "runtime.NumGoroutine")&&Nat.ble args.length fn.ntmps)<;>rw[hcnd]at hq
    ·exact hq.elim
    ·simp only[aP]at hq
     simp only[aJ,Bool.not_eq_true']at hcnd
     have hc:WOk P (λg args h K=>match lookW tbl g with
      |some T=>T args h K
      |none=>wpF P tbl tt an fuel d g args h K):=by
      intro g args h K hq;split at hq
      ·rename_i T hl;exact ht _ (Oj hl) args h K hq
      ·exact .inl (Ar hT hm ht an fuel d g args h K hq)
     refine NK (ajx hT) hf hcnd.1 hb hcnd.2 ((aqS hT hm hc (an g) hq).mono λe fr h' hh=> ?_);unfold aea at hh;cases hd:isDone e<;>rw[hd]at hh
     ·exact hh.elim
     ·simp only[aP]at hh
      split at hh
      ·rename_i v hv
       refine⟨?_,v,hv,hh⟩;cases e<;>first|exact .inl rfl|exact .inr rfl|cases hd
      ·exact hh.elim
   ·exact hq.elim
  ·exact hq.elim
def endP(k:Nat)(v0:AV)(os:List dB)(v:AV)(h:Heap):Prop:=go (lg k h (os.zipIdx.map λp=>(p.2,p.1))) (an9 (lg k h (os.zipIdx.map λp=>(p.2,p.1))) (os.zipIdx.map λp=>(p.2,p.1)) (matV v0 v []))
where
 go (h:Heap) (τ:Tau):Prop:=bif amB k os.length τ&&dJ os.length v0&&nM os.length (os.zipIdx.map λp=>(p.2,p.1))&&Nat.ble k os.length then(eqV τ v0 v/\aqP τ h (os.zipIdx.map λp=>(p.2,p.1)))else False
 /-- Each of them stands for another one. -/
 amB (k N:Nat) (τ:Tau):Bool:=NI k ((List.range N).map (tau τ)) N
theorem Jg{k:Nat}{v0:AV}{os:List dB}{v:AV}{h:Heap}(hf:endP k v0 os v h):Leq k v h v0 (hO os.length os):=by
 unfold endP at hf
 suffices hh:Leq k v (lg k h (os.zipIdx.map λp=>(p.2,p.1))) v0 (hO os.length os) by
  refine⟨hh.1,λρ T w u hR hv=> ?_⟩;obtain⟨ρg,g1,g2,g3,g4⟩:=hR.lg k (os.zipIdx.map λp=>(p.2,p.1));obtain⟨ρ',q1,q2,q3⟩:=hh.2 ρg T w u g4 (bn.mono g1 _ _ hv);exact⟨ρ',λi hi=>(q1 i hi).trans (g2 i hi),q2,q3⟩
 generalize lg k h (os.zipIdx.map λp=>(p.2,p.1))=h at hf;generalize an9 h (os.zipIdx.map λp=>(p.2,p.1)) (matV v0 v [])=τ at hf;unfold endP.go at hf;cases hb:(endP.amB k os.length τ&&dJ os.length v0&&nM os.length (os.zipIdx.map λp=>(p.2,p.1))&&Nat.ble k os.length)with
 |false=>rw[hb]at hf;exact hf.elim
 |true=>
  rw[hb]at hf;simp only[aP]at hf;simp only[aJ,Nat.ble_eq,nM,List.all_eq_true]at hb;obtain⟨⟨⟨b1,b2⟩,b3⟩,b4⟩:=hb;obtain⟨t1,t2,t3⟩:=Gz b1;have at_: ∀i,i<os.length->atL ((List.range os.length).map (tau τ)) i=tau τ i:=λi hi=>by
   simp[atL,List.getD_eq_getElem?_getD,hi]
  have hos: ∀p∈os.zipIdx.map (λp=>(p.2,p.1)),eqO τ p.2 (h.get (tau τ p.1)):=by
   have: ∀obs:List (Nat×dB),aqP τ h obs-> ∀p∈obs,eqO τ p.2 (h.get (tau τ p.1)):=by
    intro obs
    induction obs with
    |nil=>intro _ p hp;cases hp
    |cons x r ih=>
     intro he p hp;rcases List.mem_cons.1 hp with rfl|hp
     ·exact he.1
     ·exact ih he.2 p hp
   exact this _ hf.2
  have mem: ∀i o,os[i]? =some o->(i,o)∈os.zipIdx.map (λp=>(p.2,p.1)):=λi o hi=>by
   refine List.mem_map.2 ⟨(o,i),?_,rfl⟩;rw[List.mem_zipIdx_iff_getElem?];exact hi
  refine⟨b4,λρ T w u hR hv=>⟨_,λi hi=> ?_,hR.sub (h':=hOf os) (tau τ) (λi j hi hj he=>t3 i j hi hj (by rw[at_ i hi,at_ j hj];exact he)) (λi o0 hi=> ?_),?_⟩⟩
  ·have hin:i<(hOf os).next:=Nat.lt_of_lt_of_le hi b4
   have:=t2 i hi;rw[at_ i hin]at this;simp only[if_pos hin,this]
  ·rw[gu]at hi
   have hlt:=(List.getElem?_eq_some_iff.1 hi).1;obtain⟨o',ho',IJ⟩:=Jd (N:=os.length) (b3 _ (mem i o0 hi)) (hos _ (mem i o0 hi));exact⟨hlt,o',ho',IJ⟩
  ·exact GZ (N:=os.length) (λi hi=>by
    have:i<(hOf os).next:=hi
    simp only[if_pos this]) _ _ _ b2 hf.1 hv
theorem aqT{P:Program}{tbl:jf}{tt:TT}(hT:tt.ok P)(hm:P.follows .mixedOrders=true)(ht:dX P tbl)(an:FuncId->qA)(fuel d:Nat){g:FuncId}{args:List AV}{h:Heap}{v0:AV}{os:List dB}
  (hq:wpF P tbl tt an fuel d g args h (λv h'=>endP h.next v0 os v h')):Sp P g args h (λv h'=>v=v0/\h'=hO os.length os):=
 Ak ((Ar hT hm ht an fuel d g args h _ hq).mono λ_ _ hh=>⟨_,_,Jg hh,rfl,rfl⟩)
attribute [irreducible] wpF wpC endP
end Go.Proofs.YtenfleoejgjklaaGreat.SE
end
