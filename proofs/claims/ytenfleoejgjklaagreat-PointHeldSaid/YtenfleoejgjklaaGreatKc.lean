import Derived.Test.YtenfleoejgjklaaGreatKa
import Derived.Test.YtenfleoejgjklaaGreatKb
import Derived.Laws.IdiomStrings
import Derived.Scope
set_option linter.unusedVariables false
set_option linter.unusedSimpArgs false
set_option linter.unnecessarySimpa false
section
namespace Go.Proofs.YtenfleoejgjklaaGreat.SE
open Go
def afF(tt:TT)(t:TypeId)(x:AV)(h:Heap):Option (AV×Heap):=
 match tt t with
 |some ti=>match ti.desc with
  | .map _ _=>match x with
   | .lit (.map none)=>some (.ptr h.next 0,h.push (.iter none 0 [] 0))
   | .mp i=>match h.get i with
    |some (.map _ clk)=>some (.ptr h.next 0,h.push (.iter (some i) clk [] clk))
    |some (.nK m)=>some (.ptr h.next 0,h.push (.iter (some i) m.clk [] m.clk))
    |_=>none
   |_=>none
  |_=>none
 |none=>none
def aqE(it:AV)(h:Heap):Option (AV×Heap):=
 match it with
 | .ptr r 0=>match h.get r with
  |some (.iter none _ _ _)=>some (.tup [.lit (.bool false)],h)
  |some (.iter (some i) since seen last)=>match h.get i with
   |some (.map es clk)=>bif !seen.isEmpty&& !es.isEmpty&&es.all (λx=>decide (x.2.2>=last))then none else
    (match es.filter (λx=> !seen.contains x.2.2)with
    |[]=>some (.tup [.lit (.bool false)],h)
    |[x]=>bif decide (x.2.2<since)then some (.tup [.lit (.bool true),x.1,x.2.1],h.set r (.iter (some i) since (seen++[x.2.2]) clk))else none
    |_=>none)
   |_=>none
  |_=>none
 |_=>none
def afG(it:AV)(h:Heap):Option (AV×Heap):=
 match it with
 | .ptr r 0=>match h.get r with
  |some (.iter (some i) _ seen last)=>match h.get i,seen.getLast? with
   |some (.map es clk),some st=>bif decide (clk=last)then(match es.find? (λx=>x.2.2==st)with
    |some x=>some (.tup [x.1,x.2.1],h)
    |none=>none)else none
   |_,_=>none
  |_=>none
 |_=>none
theorem qj{P:Program}{w:World}{r:Nat}{m:Option Nat}{a c:Nat}{l:Array Nat}(h:w.heap[r]? =some (.mapIter m a l c)):(getObj r).run P w= .ok (.mapIter m a l c) w:=by simp[getObj,Sem.run,h]
theorem ZA{P:Program}{w:World}{r:Nat}{m:Option Nat}{a c:Nat}{l:Array Nat}(o':Obj)(h:w.heap[r]? =some (.mapIter m a l c)):(setObj r o').run P w= .ok () {w with heap:=w.heap.setIfInBounds r o'}:=by
 simp[setObj,Sem.run,h]
theorem Rel.iterAt{h:Heap}{ρ:Ren}{T:Nat->Prop}{w:World}(hR:Rel h ρ T w){r:Nat}{m:Option Nat}{since:Nat}{seen:List Nat}{st:Nat}(hi:h.get r=some (.iter m since seen st)):
  ∃a mb,ρ r=some a/\aqd ρ m mb/\w.heap[a.blk]? =some (.mapIter mb since seen.toArray st)/\T a.blk/\a.base=0:=by
 obtain⟨S,h1,h2,h3,h4,h5⟩:=hR;obtain⟨a,ha,h0,hS,mb,hm,hb⟩:=h1 r _ hi;exact⟨a,mb,ha,hm,hb,(h3 r _ _ hi hS).1,h0⟩
theorem Rel.afH{h:Heap}{ρ:Ren}{T:Nat->Prop}{w:World}(hR:Rel h ρ T w){r:Nat}{m:Option Nat}{mb:Option Nat}{since:Nat}{seen seen':List Nat}{st st':Nat}{a:Loc}(hi:h.get r=some (.iter m since seen st))(ha:ρ r=some a)
  (hb:w.heap[a.blk]? =some (.mapIter mb since seen.toArray st)) (hm:aqd ρ m mb) (hT:T a.blk) (h0:a.base=0):Rel (h.set r (.iter m since seen' st')) ρ T {w with heap:=w.heap.setIfInBounds a.blk (.mapIter mb since seen'.toArray st')}/\
   Keeps T w {w with heap:=w.heap.setIfInBounds a.blk (.mapIter mb since seen'.toArray st')}:=by
 have hne: ∀b,b≠a.blk->(w.heap.setIfInBounds a.blk (.mapIter mb since seen'.toArray st'))[b]? =w.heap[b]? :=λb hb=>by
  rw[Array.getElem?_setIfInBounds];rw[if_neg (Ne.symm hb)]
 have hlt:a.blk<w.heap.size:=(Array.getElem?_eq_some_iff.1 hb).1;refine⟨hR.upd (o:= .iter m since seen st) hi ha (by simp) hne (λS hS=>hS.2.1) (λS hS _=>⟨h0,hS,mb,hm,?_⟩),by simp,rfl,rfl,rfl,λb hb=>hne b λh=>hb (h▸hT)⟩;show(w.heap.setIfInBounds a.blk _)[a.blk]? =_;simp[hlt]
theorem kM.UF{ρ:Ren}(p:Nat->Bool): ∀{es:List (AV×AV×Nat)} {l:List MapEntry},kM ρ es l->kM ρ (es.filter λx=>p x.2.2) (l.filter λe=>p e.born)
 |[],l,hm=>by have:l=[]:=hm;subst this;exact rfl
 |x::es,l,⟨e,l',he,h1,h2,h3,h4⟩=>by
  subst he;simp only[List.filter_cons,h3];cases p x.2.2 with
  |true=>exact⟨e,_,rfl,h1,h2,h3,kM.UF p h4⟩
  |false=>exact kM.UF p h4
theorem kM.allB{ρ:Ren}(p:Nat->Bool): ∀{es:List (AV×AV×Nat)} {l:List MapEntry},kM ρ es l->(es.all λx=>p x.2.2)=(l.all λe=>p e.born)
 |[],l,hm=>by have:l=[]:=hm;subst this;rfl
 |x::es,l,⟨e,l',he,h1,h2,h3,h4⟩=>by
  subst he;simp only[List.all_cons,h3,kM.allB p h4]
theorem kM.at1{ρ:Ren}(p:Nat->Bool): ∀{es:List (AV×AV×Nat)} {l:List MapEntry} {x:AV×AV×Nat},kM ρ es l->es.find? (λx=>p x.2.2)=some x-> ∃e,l.find? (λe=>p e.born)=some e/\bF ρ x.1 e.key/\bF ρ x.2.1 e.val
 |[],l,x,hm,hf=>by cases hf
 |y::es,l,x,⟨e,l',he,h1,h2,h3,h4⟩,hf=>by
  subst he;simp only[List.find?_cons]at hf ⊢;rw[h3];cases hp:p y.2.2<;>rw[hp]at hf
  ·exact kM.at1 p h4 hf
  ·cases hf;exact⟨e,rfl,h1,h2⟩
theorem kM.nilB{ρ:Ren}: ∀{es:List (AV×AV×Nat)} {l:List MapEntry},kM ρ es l->es.isEmpty=l.isEmpty
 |[],l,hm=>by have:l=[]:=hm;subst this;rfl
 |x::es,l,⟨e,l',he,_⟩=>by subst he;rfl
theorem afI{P:Program}{tt:TT}(hT:tt.ok P){h h':Heap}{ρ:Ren}{T:Nat->Prop}{w:World}(hR:Rel h ρ T w){t:TypeId}{x v:AV}{u:Value}(hr:afF tt t x h=some (v,h'))(hu:bF ρ x u):XOk P (Instr.range t u) h ρ T w v h':=by
 have push: ∀(m:Option Nat) (mb:Option Nat) (since:Nat) (st:Nat),aqd ρ m mb->(Instr.range t u).run P w= .ok (.pointer (some ⟨w.heap.size,0,none⟩)) (w.alloc (.mapIter mb since #[] st))->XOk P (Instr.range t u) h ρ T w (.ptr h.next 0) (h.push (.iter m since [] st)):=λm mb since st hm hrun=>by
  have hnew:(w.alloc (.mapIter mb since #[] st)).heap[w.heap.size]? =some (.mapIter mb since #[] st):=by
   show(w.heap.push _)[w.heap.size]? =_;simp
  obtain⟨ρ',h1,h2,h3,h4⟩:=hR.push (o:= .iter m since [] st) (ob:= .mapIter mb since #[] st) 0 ⟨rfl,rfl,mb,hm,hnew⟩;obtain⟨S,_,_,_,_,h5⟩:=hR;exact⟨_,_,ρ',hrun,h3,h1,by simp,h4,by simp only[bF];exact⟨_,h2,rfl⟩,Keeps.alloc _ h5⟩
 unfold afF at hr;split at hr
 ·rename_i ti hti
  split at hr
  ·rename_i kt et hd
   obtain⟨d1,r1,_,m1⟩:=dH (P:=P) hT hti w;rw[uG (m1.trans hd)]at r1;split at hr
   ·cases hr
    simp only[bF]at hu;subst hu;exact push none none 0 0 rfl (by simp[Instr.range,r1])
   ·rename_i i
    split at hr
    ·rename_i es clk hi
     cases hr;simp only[bF]at hu;obtain⟨a,ha,rfl⟩:=hu;obtain⟨a',arr,ha',hb,hm,hTa⟩:=hR.afE hi;obtain rfl:a'=a:=Option.some.inj (ha'.symm.trans ha);exact push (some i) (some a'.blk) clk clk ⟨a',ha,rfl⟩ (by simp[Instr.range,r1,MapKept.run_getObj_map hb])
    ·rename_i m hi
     cases hr;simp only[bF]at hu;obtain⟨a,ha,rfl⟩:=hu;obtain⟨a',arr,ha',hb,hm,hTa⟩:=hR.DU hi;obtain rfl:a'=a:=Option.some.inj (ha'.symm.trans ha);exact push (some i) (some a'.blk) m.clk m.clk ⟨a',ha,rfl⟩ (by simp[Instr.range,r1,MapKept.run_getObj_map hb])
    ·cases hr
   ·cases hr
  ·cases hr
 ·cases hr
theorem afJ{P:Program}{h h':Heap}{ρ:Ren}{T:Nat->Prop}{w:World}(hR:Rel h ρ T w){x v:AV}{u:Value}(hr:afG x h=some (v,h'))(hu:bF ρ x u):XOk P (Instr.entry u) h ρ T w v h':=by
 unfold afG at hr;split at hr
 ·rename_i r
  split at hr
  ·rename_i i since seen last hi
   split at hr
   ·rename_i es clk st hm hst
    cases hc:decide (clk=last)<;>rw[hc]at hr
    ·cases hr
    ·simp only[aP]at hr
     split at hr
     ·rename_i y hf
      cases hr;simp only[bF]at hu;obtain⟨a,ha,rfl⟩:=hu;obtain⟨a',mb,ha',⟨b,hb,rfl⟩,hit,_,hbase⟩:=hR.iterAt hi;obtain rfl:a'=a:=Option.some.inj (ha'.symm.trans ha);obtain⟨b',arr,hb',hmb,hmr,_⟩:=hR.afE hm;obtain rfl:b'=b:=Option.some.inj (hb'.symm.trans hb);obtain⟨e,he,h1,h2⟩:=kM.at1 (λn=>n==st) hmr hf;have hcl:clk=last:=aS hc;subst hcl;refine⟨.tuple #[e.key,e.val],w,ρ,?_,λ_ _=>rfl,Ren.le_refl _,aY _,hR,by simp only[bF];exact⟨_,rfl,.cons h1 (.cons h2 .nil)⟩,Keeps.refl _ _⟩;have hback:seen.toArray.back? =some st:=by rw[List.back?_toArray];exact hst
      have hfind:arr.find? (λx=>x.born==st)=some e:=by rw[<-Array.find?_toList];exact he
      simp[Instr.entry,hbase,qj hit,hback,MapKept.run_getObj_map hmb,hfind]
     ·cases hr
   ·cases hr
  ·cases hr
 ·cases hr
theorem alI{P:Program}{h h':Heap}{ρ:Ren}{T:Nat->Prop}{w:World}(hR:Rel h ρ T w){x v:AV}{u:Value}{ty:TypeId}(hr:aqE x h=some (v,h'))(hu:bF ρ x u):XOk P (Instr.next u false ty) h ρ T w v h':=by
 have over:(Instr.next u false ty).run P w= .ok (.tuple #[.bool false]) w->XOk P (Instr.next u false ty) h ρ T w (.tup [.lit (.bool false)]) h:=λhrun=>
  ⟨_,w,ρ,hrun,λ_ _=>rfl,Ren.le_refl _,aY _,hR,by simp only[bF];exact⟨_,rfl,.cons (by simp only[bF]) .nil⟩,Keeps.refl _ _⟩
 unfold aqE at hr;split at hr
 ·rename_i r
  split at hr
  ·rename_i since seen last hi
   cases hr;simp only[bF]at hu;obtain⟨a,ha,rfl⟩:=hu;obtain⟨a',mb,ha',hmb,hit,hTa,hbase⟩:=hR.iterAt hi;obtain rfl:a'=a:=Option.some.inj (ha'.symm.trans ha);have hmb:mb=none:=hmb;subst hmb;exact over (by simp[Instr.next,hbase,qj hit])
  ·rename_i i since seen last hi
   split at hr
   ·rename_i es clk hm
    simp only[bF]at hu;obtain⟨a,ha,rfl⟩:=hu;obtain⟨a',mb,ha',hI,hit,hTa,hbase⟩:=hR.iterAt hi;obtain rfl:a'=a:=Option.some.inj (ha'.symm.trans ha);have hI0:=hI;obtain⟨b,hb,rfl⟩:=hI;obtain⟨b',arr,hb',hmb,hmr,_⟩:=hR.afE hm;obtain rfl:b'=b:=Option.some.inj (hb'.symm.trans hb);have hall:=kM.allB (λn=>decide (n>=last)) hmr;have hnil:=kM.nilB hmr;have hfl:=kM.UF (λn=> !seen.contains n) hmr;cases hg:(!seen.isEmpty&& !es.isEmpty&&es.all (λx=>decide (x.2.2>=last)))<;>rw[hg]at hr
    ·simp only[aQ]at hr
     rw[hnil,hall]at hg;have hg':(!seen.toArray.isEmpty&& !arr.isEmpty&&arr.all (λe=>decide (e.born>=last)))=false:=by
      rw[<-hg];cases seen<;>simp[<-Array.all_toList,Array.isEmpty]
     have hleft:(arr.filter λe=> !seen.toArray.contains e.born).toList=arr.toList.filter λe=> !seen.contains e.born:=by simp
     split at hr
     ·rename_i hnone
      cases hr;rw[hnone]at hfl;have hl0:(arr.filter λe=> !seen.toArray.contains e.born)= #[]:=by apply Array.toList_inj.1;rw[hleft];exact hfl
      refine over ?_;simp only[Instr.next,hbase,aI,Sem.run_bind,qj hit,MapKept.run_getObj_map hmb,Result.andThen_ok,hg',Bool.false_eq_true,if_false,hl0];simp[Question.forced]
     ·rename_i y hone
      rw[hone]at hfl;obtain⟨e,l',hl1,h1,h2,h3,h4⟩:=hfl;have h4:l'=[]:=h4;subst h4;cases hs:decide (y.2.2<since)<;>rw[hs]at hr
      ·cases hr
      ·cases hr
       have hs:=aS hs;have hl0:(arr.filter λe=> !seen.toArray.contains e.born)= #[e]:=by apply Array.toList_inj.1;rw[hleft];exact hl1
       obtain⟨R2,K2⟩:=hR.afH (seen':=seen++[y.2.2]) (st':=clk) hi ha hit hI0 hTa hbase;refine⟨.tuple #[.bool true,e.key,e.val],_,ρ,?_,λ_ _=>rfl,Ren.le_refl _,by simp,R2,by simp only[bF];exact⟨_,rfl,.cons (by simp only[bF]) (.cons h1 (.cons h2 .nil))⟩,K2⟩;have hs':e.born<since:=by rw[h3];exact hs
       simp only[Instr.next,hbase,aI,Sem.run_bind,qj hit,MapKept.run_getObj_map hmb,Result.andThen_ok,hg',Bool.false_eq_true,if_false,hl0];simp[Question.forced,List.filter_cons,h3,hs,Nat.not_le.2 hs,ZA _ hit]
     ·cases hr
    ·cases hr
   ·cases hr
  ·cases hr
 ·cases hr
def alJ(it:AV)(h:Heap):Bool:=match it with
 | .ptr r 0=>match h.get r with
  |some (.iter (some i) _ _ _)=>match h.get i with
   |some (.nK _)=>true
   |_=>false
  |_=>false
 |_=>false
def afK(it:AV)(h:Heap)(Q:AV->Heap->Prop):Prop:=match it with
 | .ptr r 0=>match h.get r with
  |some (.iter (some i) since seen last)=>match h.get i with
   |some (.nK m)=>(∀j,j<m.n->(m.g j).born<m.clk)/\since=m.clk/\last=m.clk/\
     (∀j,j<m.n->(m.g j).born ∉ seen->Q (.tup [.lit (.bool true),.lit (.string (m.g j).key),.agg ((m.g j).val.map .lit)]) (h.set r (.iter (some i) since (seen++[(m.g j).born]) m.clk)))/\
     ((∀j,j<m.n->(m.g j).born∈seen)->Q (.tup [.lit (.bool false)]) h)
   |_=>False
  |_=>False
 |_=>False
def UG(it:AV)(h:Heap)(Q:AV->Heap->Prop):Prop:=match it with
 | .ptr r 0=>match h.get r with
  |some (.iter (some i) _ seen last)=>match h.get i with
   |some (.nK m)=>last=m.clk/\(∃j,j<m.n/\seen.getLast? =some (m.g j).born)/\ ∀j,j<m.n->seen.getLast? =some (m.g j).born->Q (.tup [.lit (.string (m.g j).key),.agg ((m.g j).val.map .lit)]) h
   |_=>False
  |_=>False
 |_=>False
theorem afL{P:Program}{h:Heap}{ρ:Ren}{T:Nat->Prop}{w:World}(hR:Rel h ρ T w){x:AV}{u:Value}{ty:TypeId}{Q:AV->Heap->Prop}(hq:afK x h Q)(hu:bF ρ x u):XQ P (Instr.next u false ty) h ρ T w Q:=by
 unfold afK at hq;split at hq
 ·rename_i r
  split at hq
  ·rename_i i since seen last hi
   split at hq
   ·rename_i m hm
    obtain⟨hb1,hs1,hs2,hq1,hq2⟩:=hq;obtain⟨n,g,last⟩:=m;simp only at hb1 hs1 hs2 hq1 hq2;subst hs1;subst hs2;simp only[bF]at hu;obtain⟨a,ha,rfl⟩:=hu;obtain⟨a',mb,ha',hI,hit,hTa,hbase⟩:=hR.iterAt hi;obtain rfl:a'=a:=Option.some.inj (ha'.symm.trans ha);have hI0:=hI;obtain⟨b,hb,rfl⟩:=hI;obtain⟨b',arr,hb',hmb,hmr,_⟩:=hR.DU hm;obtain rfl:b'=b:=Option.some.inj (hb'.symm.trans hb);have born: ∀e∈arr,e.born<last:=λe he=>by
     obtain⟨j,hj,_,rfl⟩:=hmr.mem (by simpa using he);exact hb1 j hj
    have hg':(!seen.toArray.isEmpty&& !arr.isEmpty&&arr.all (λe=>decide (e.born>=last)))=false:=by
     by_cases he:arr= #[]
     ·subst he;simp
     ·have:arr.all (λe=>decide (e.born>=last))=false:=by
       rw[<-Bool.not_eq_true];intro hall;rw[Array.all_eq_true_iff_forall_mem]at hall;obtain⟨e,he'⟩:=Array.exists_mem_of_ne_empty arr he;have h1:=hall e he';have h2:=born e he';simp only[decide_eq_true_eq]at h1;omega
      rw[this];simp
    let left:=arr.filter λe=> !seen.toArray.contains e.born
    have hold:left.filter (λe=>decide (e.born<last))=left:=by
     rw[Array.filter_eq_self];intro e he;exact decide_eq_true (born e (Array.mem_filter.1 he).1)
    have hnew:left.filter (λe=>decide (e.born>=last))= #[]:=by
     rw[Array.filter_eq_empty_iff];intro e he;have:=born e (Array.mem_filter.1 he).1;simp only[decide_eq_true_eq];omega
    by_cases hl:left= #[]
    ·refine⟨_,h,⟨.tuple #[.bool false],w,ρ,?_,λ_ _=>rfl,Ren.le_refl _,aY _,hR,by simp only[bF];exact⟨_,rfl,.cons (by simp only[bF]) .nil⟩,Keeps.refl _ _⟩,hq2 λj hj=> ?_⟩
     ·simp only[Instr.next,hbase,aI,Sem.run_bind,qj hit,MapKept.run_getObj_map hmb,Result.andThen_ok]
      have h0:(arr.filter λe=> !seen.toArray.contains e.born)= #[]:=hl;rw[if_neg (by rw[hg'];decide)];simp only[h0,Array.filter_empty,Array.append_empty,Array.map_empty,Array.isEmpty_empty,if_true,Array.size_singleton];rw[Sem.run_bind,run_choose_drew,if_pos (by decide)];rfl
     ·by_cases hc:(g j).born∈seen
      ·exact hc
      ·exfalso
       have hmem:(g j).raw∈left:=Array.mem_filter.2 ⟨by
        have:=hmr.get hj
        exact Array.mem_of_getElem? this,by simpa[abK.raw]using hc⟩
       rw[hl]at hmem;simp at hmem
    ·have hsz:0<left.size:=Array.size_pos_iff.2 hl
     have key: ∀(k:Nat) (w':World),(choose (.mapNext left.size)).run P w= .ok k w'->Rel h ρ T w'->w'.heap=w.heap->Keeps T w w'->k<left.size->XQ P (Instr.next (.pointer (some ⟨a'.blk,a'.base+0,none⟩)) false ty) h ρ T w Q:=by
      intro k w' hch hR' hheap hK hk;have hmemk:left[k]∈left:=Array.getElem_mem hk;obtain⟨hm1,hm2⟩:=Array.mem_filter.1 hmemk;obtain⟨j,hj,_,hje⟩:=hmr.mem (by simpa using hm1);have hns:(g j).born ∉ seen:=by
       have:left[k].born=(g j).born:=by rw[hje];rfl
       rw[<-this];simpa using hm2
      have hit':w'.heap[a'.blk]? =some (.mapIter (some b'.blk) last seen.toArray last):=by rw[hheap];exact hit
      obtain⟨R2,K2⟩:=hR'.afH (seen':=seen++[(g j).born]) (st':=last) hi ha hit' hI0 hTa hbase;refine⟨_,_,⟨.tuple #[.bool true,.string (g j).key,.agg (g j).val.toArray],_,ρ,?_,λ_ _=>rfl,Ren.le_refl _,by simp,R2,by simp only[bF];exact⟨_,rfl,.cons (by simp only[bF]) (.cons (by simp only[bF]) (.cons (by simp only[bF];exact⟨_,rfl,dQ.lits _⟩) .nil))⟩,hK.trans K2⟩,hq1 j hj hns⟩;simp only[Instr.next,hbase,aI,Sem.run_bind,qj hit,MapKept.run_getObj_map hmb,Result.andThen_ok];rw[if_neg (by rw[hg'];decide)];have hne:left.isEmpty=false:=by cases hh:left.isEmpty with
       |false=>rfl
       |true=>exact absurd (Array.isEmpty_iff.1 hh) hl
      have at6:((if (left.filter λe=>decide (e.born<last)).isEmpty then #[none]else #[])++((left.filter λe=>decide (e.born<last))++left.filter λe=>decide (e.born>=last)).map some:Array (Option MapEntry))=left.map some:=by
       rw[hold,hnew,hne];simp
      have hcs:(left.map some:Array (Option MapEntry)).size=left.size:=by simp
      simp only[left]at at6 hcs hch hje;rw[at6,hcs,Sem.run_bind,hch];have hgk:(arr.filter λe=> !seen.toArray.contains e.born)[k]? =some (g j).raw:=by rw[Array.getElem?_eq_getElem hk];exact congrArg some hje
      rw[Result.andThen_ok,Array.getElem?_map,hgk];simp[ZA _ hit',abK.raw]
     by_cases hf:(Question.mapNext left.size).forced=true
     ·exact key 0 w (by rw[run_choose_drew,if_pos hf]) hR rfl (Keeps.refl _ _) hsz
     ·exact key ((Question.mapNext left.size).cut (w.tape w.drawn (Question.mapNext left.size))) w.drew (by rw[run_choose_drew,if_neg hf]) hR.drew rfl (Keeps.drew _ _) (Nat.mod_lt _ hsz)
   ·exact hq.elim
  ·exact hq.elim
 ·exact hq.elim
theorem ab6{P:Program}{h:Heap}{ρ:Ren}{T:Nat->Prop}{w:World}(hR:Rel h ρ T w){x:AV}{u:Value}{Q:AV->Heap->Prop}(hq:UG x h Q)(hu:bF ρ x u):XQ P (Instr.entry u) h ρ T w Q:=by
 unfold UG at hq;split at hq
 ·rename_i r
  split at hq
  ·rename_i i since seen last hi
   split at hq
   ·rename_i m hm
    obtain⟨hl,⟨j0,hj0,hs0⟩,hq⟩:=hq;subst hl;simp only[bF]at hu;obtain⟨a,ha,rfl⟩:=hu;obtain⟨a',mb,ha',⟨b,hb,rfl⟩,hit,_,hbase⟩:=hR.iterAt hi;obtain rfl:a'=a:=Option.some.inj (ha'.symm.trans ha);obtain⟨b',arr,hb',hmb,hmr,_⟩:=hR.DU hm;obtain rfl:b'=b:=Option.some.inj (hb'.symm.trans hb);have hback:seen.toArray.back? =some (m.g j0).born:=by rw[List.back?_toArray];exact hs0
    cases hfind:arr.find? (λx=>x.born==(m.g j0).born)with
    |none=>
     exfalso;rw[Array.find?_eq_none]at hfind;have:=hfind (m.g j0).raw (Array.mem_of_getElem? (hmr.get hj0));simp[abK.raw]at this
    |some e=>
     have he1:=Array.mem_of_find?_eq_some hfind;have he2:=Array.find?_some hfind;obtain⟨j,hj,_,rfl⟩:=hmr.mem (by simpa using he1);have hbj:(m.g j).born=(m.g j0).born:=by simpa[abK.raw]using he2
     refine⟨_,_,⟨.tuple #[.string (m.g j).key,.agg (m.g j).val.toArray],w,ρ,?_,λ_ _=>rfl,Ren.le_refl _,aY _,hR,by simp only[bF];exact⟨_,rfl,.cons (by simp only[bF]) (.cons (by simp only[bF];exact⟨_,rfl,dQ.lits _⟩) .nil)⟩,Keeps.refl _ _⟩,hq j hj (by rw[hbj];exact hs0)⟩;simp[Instr.entry,hbase,qj hit,hback,MapKept.run_getObj_map hmb,hfind,abK.raw]
   ·exact hq.elim
  ·exact hq.elim
 ·exact hq.elim
def vSrc(h:Heap)(x:AV)(m d:Nat)(Q:dJ->Prop):Prop:=
 let cut (q n N:Nat) (g:Nat->List Value) (wr:List (Nat×List Value)):Prop:=cP (Nat.ble n d) (q+n<=N/\Q (.many n (λk=>Cs.eff g wr (q+k)))) (q+d<=N/\Q (.many d (λk=>Cs.eff g wr (q+k))))
 match x with
 | .sl j o n c=>bif Nat.beq o 0&&Nat.beq (GU h j) m then rowOf h j m λN g wr=>cut 0 n N g wr else vNew h (.sl j o n c) m λnew=>new.len<=d/\Q new
 | .slE j q m' n _=>bif Nat.beq m m' then rowOf h j m λN g wr=>cut q n N g wr else False
 | .slW j q m' n=>bif Nat.beq m m' then rowOf h j m λN g wr=>cut q n N g wr else False
 | .slR j q m' n=>bif Nat.beq m m' then rowOf h j m λN g wr=>cut q n N g wr else False
 | .lit (.string s)=>bif Nat.beq m 1 then cP (Nat.ble s.size d) (Q (.many s.size (λk=>[.int .u8 (eG s k)]))) (Q (.many d (λk=>[.int .u8 (eG s k)])))else False
 |x=>vNew h x m λnew=>new.len<=d/\Q new
def afM(P:Program)(h:Heap)(ρ:Ren)(T:Nat->Prop)(m d:Nat)(v:Value)(new:dJ):Prop:=
 ∃L,(∀w,(Builtin.lenOf v).run P w= .ok L w)/\new.len=Nat.min L d/\ ∀w,Rel h ρ T w-> ∃vs:Array Value,(Builtin.firstCells m new.len v).run P w= .ok vs w/\vs.size=new.len*m/\fF ρ (.row m new.len new.el []) vs 0
theorem afM.ape{P:Program}{h:Heap}{ρ:Ren}{T:Nat->Prop}{m d:Nat}{v:Value}{new:dJ}(hn:afz P h ρ T m v new)(hd:new.len<=d):afM P h ρ T m d v new:=
 ⟨new.len,hn.1,(Nat.min_eq_left hd).symm,hn.2⟩
theorem JW{P:Program}{h:Heap}{ρ:Ren}{T:Nat->Prop}{j q m n c p d:Nat}{a:Loc}{ob:dF}{N:Nat}{g:Nat->List Value}{wr:List (Nat×List Value)}{Q:dJ->Prop}(hm:0<m)(hi:h.get j=some ob)(hc:ob.eP=some (.row m N g wr))(ha:ρ j=some a)
  (hp:n≠0->p=a.base+q*m) (hq:cP (Nat.ble n d) (q+n<=N/\Q (.many n (λk=>Cs.eff g wr (q+k)))) (q+d<=N/\Q (.many d (λk=>Cs.eff g wr (q+k))))): ∃new,afM P h ρ T m d (.slice (some ⟨a.blk,p,none⟩) n c) new/\Q new:=by
 rcases jE hq with ⟨hb,hle,hq⟩|⟨hb,hle,hq⟩
 ·exact⟨_,.ape (lS hm hi hc ha hle hp) (by simpa[dJ.len]using hb),hq⟩
 ·have hdn:d<n:=by
   rcases Nat.lt_or_ge d n with h'|h'
   ·exact h'
   ·rw[show Nat.ble n d=true by simpa using h']at hb;cases hb
  refine⟨_,⟨n,λw=>by simp[Builtin.lenOf],by simp only[dJ.len];exact(Nat.min_eq_right (by omega)).symm,?_⟩,hq⟩;exact(lS (P:=P) (T:=T) (n:=d) (c:=d) hm hi hc ha hle (λ_=>hp (by omega))).2
theorem aqF{P:Program}{h:Heap}{ρ:Ren}{T:Nat->Prop}{x:AV}{v:Value}{m d:Nat}{Q:dJ->Prop}(hm:0<m)(hq:vSrc h x m d Q)(hv:bF ρ x v): ∃new,afM P h ρ T m d v new/\Q new:=by
 have plain: ∀{y:AV},bF ρ y v->vNew h y m (λnew=>new.len<=d/\Q new)-> ∃new,afM P h ρ T m d v new/\Q new:=λhy hq=>by
  obtain⟨new,hn,hle,hq⟩:=zn (P:=P) (T:=T) hm hq hy;exact⟨new,.ape hn hle,hq⟩
 unfold vSrc at hq;simp only at hq;split at hq
 ·rename_i j o n c
  cases hb:(Nat.beq o 0&&Nat.beq (GU h j) m)with
  |false=>rw[hb]at hq;exact plain hv hq
  |true=>
   rw[hb]at hq;simp only[aP]at hq;simp only[aJ]at hb;have:=au hb.1;subst this;simp only[bF]at hv;obtain⟨a,ha,rfl⟩:=hv;obtain⟨ob,N,g,wr,hi,hc,hq⟩:=gW hq;exact JW hm hi hc ha (λ_=>by simp) hq
 ·rename_i j q m' n c
  cases hb:Nat.beq m m' with
  |false=>rw[hb]at hq;exact hq.elim
  |true=>
   rw[hb]at hq;simp only[aP]at hq;have:=au hb;subst this;simp only[bF]at hv;obtain⟨a,p,ha,rfl,hnc,hp⟩:=hv;obtain⟨ob,N,g,wr,hi,hc,hq⟩:=gW hq;exact JW hm hi hc ha (λ_=>hp (by omega)) hq
 ·rename_i j q m' n
  cases hb:Nat.beq m m' with
  |false=>rw[hb]at hq;exact hq.elim
  |true=>
   rw[hb]at hq;simp only[aP]at hq;have:=au hb;subst this;simp only[bF]at hv;obtain⟨a,p,c,ha,rfl,hnc,hp⟩:=hv;obtain⟨ob,N,g,wr,hi,hc,hq⟩:=gW hq;exact JW hm hi hc ha (λ_=>(hp (by omega)).1) hq
 ·rename_i j q m' n
  cases hb:Nat.beq m m' with
  |false=>rw[hb]at hq;exact hq.elim
  |true=>
   rw[hb]at hq;simp only[aP]at hq;have:=au hb;subst this;simp only[bF]at hv;obtain⟨ob,N,g,wr,hi,hc,hq⟩:=gW hq;rcases hv with ⟨rfl,rfl⟩|⟨a,p,c,ha,rfl,hnc,hp⟩
   ·rcases jE hq with ⟨hb,hle,hq⟩|⟨hb,hle,hq⟩
    ·exact⟨_,⟨0,λw=>by simp[Builtin.lenOf],by simp[dJ.len],λw _=>⟨#[],by simp[Builtin.firstCells,dJ.len],by simp[dJ.len],λk v hk=>by have:=Cs.dW hk;simp[Cs.size,dJ.len]at this⟩⟩,hq⟩
    ·exact absurd (show true=false from hb) (by decide)
   ·exact JW hm hi hc ha hp hq
 ·rename_i s
  cases hb:Nat.beq m 1 with
  |false=>rw[hb]at hq;exact hq.elim
  |true=>
   rw[hb]at hq;simp only[aP]at hq;have:=au hb;subst this;simp only[bF]at hv;subst hv;have key: ∀n,n<=s.size-> ∀w,∃vs:Array Value,(Builtin.firstCells 1 n (.string s)).run P w= .ok vs w/\vs.size=n*1/\fF ρ (.row 1 n (λk=>[.int .u8 (eG s k)]) []) vs 0:=λn hn w=>by
    refine⟨(s.extract 0 n).data.map λb=> .int .u8 b.toNat,by simp only[Builtin.firstCells,Sem.run_pure],by rw[Array.size_map,ByteArray.data_extract,Array.size_extract];show min n s.size-0=n*1;omega,λk y hk=> ?_⟩;have hlt:=Cs.dW hk;simp only[Cs.size,Nat.mul_one]at hlt;have hlt2:Nat.blt k (n*1)=true:=bg.2 (by omega);simp only[Cs.get,hlt2,aP,Cs.eff,Nat.div_one,Nat.mod_one,ah]at hk;cases hk;refine⟨.int .u8 (eG s k),?_,by simp only[bF]⟩;have hlt3:k<s.data.size:=Nat.lt_of_lt_of_le hlt hn;rw[aA,Array.getElem?_map];have e:(s.extract 0 n).data[k]? =some s.data[k]:=by
     rw[ByteArray.data_extract,Array.getElem?_extract];rw[if_pos (by show k<min n s.size-0;omega),aA,Array.getElem?_eq_getElem hlt3]
    simp only[e,Option.map_some,eG,List.getD_eq_getElem?_getD,Array.getElem?_toList,Array.getElem?_eq_getElem hlt3,Option.getD_some]
   rcases jE hq with ⟨hb,hq⟩|⟨hb,hq⟩
   ·have hb:s.size<=d:=by simpa using hb
    refine⟨.many s.size (λk=>[.int .u8 (eG s k)]),⟨s.size,λw=>by simp[Builtin.lenOf],?_,λw _=>key s.size (aY _) w⟩,hq⟩;simp only[dJ.len];exact(Nat.min_eq_left hb).symm
   ·have hdn:d<s.size:=by
     rcases Nat.lt_or_ge d s.size with h'|h'
     ·exact h'
     ·rw[show Nat.ble s.size d=true by simpa using h']at hb;cases hb
    refine⟨.many d (λk=>[.int .u8 (eG s k)]),⟨s.size,λw=>by simp[Builtin.lenOf],?_,λw _=>key d (by omega) w⟩,hq⟩;simp only[dJ.len];exact(Nat.min_eq_right (by omega)).symm
 ·exact plain hv hq
def aqG(tt:TT)(t:TypeId)(d x:AV)(h:Heap)(Q:AV->Heap->Prop):Prop:=
 match tt t with
 |some ti=>match ti.desc with
  | .slice e=>match tt e with
   |some te=>bif Nat.beq te.size 0 then False else(
    let lay (i q m n:Nat):Prop:=bif Nat.beq m te.size&&DT h i then rowOf h i m λN g wr=>q+n<=N/\vSrc h x m n λnew=>new.ones m/\Q (.lit (.int .i64 new.len)) (setRow h i (mO m N q g wr new))else False
    match d with
    | .slE i q m n _=>lay i q m n
    | .slW i q m n=>lay i q m n
    |_=>False)
   |none=>False
  |_=>False
 |none=>False
theorem alK{P:Program}{tt:TT}(hT:tt.ok P){h:Heap}{ρ:Ren}{T:Nat->Prop}{w:World}(hR:Rel h ρ T w){t ty:TypeId}{d x:AV}{u v:Value}{ts:Array TypeId}{us:Array Value}{Q:AV->Heap->Prop}
  (hq:aqG tt t d x h Q) (hu:bF ρ d u) (hv:bF ρ x v) (ht0:ts[0]? =some t) (hu0:us[0]? =some u) (hu1:us[1]? =some v):XQ P (Builtin.copy_ ts ty us) h ρ T w Q:=by
 unfold aqG at hq;split at hq
 ·rename_i ti hti
  split at hq
  ·rename_i e hd
   split at hq
   ·rename_i te hte
    cases hb:Nat.beq te.size 0 with
    |true=>rw[hb]at hq;exact hq.elim
    |false=>
     rw[hb]at hq;simp only[aQ]at hq;have hm:0<te.size:=Nat.pos_of_ne_zero λh0=>by rw[h0]at hb;cases hb
     have jD: ∀w,(underlying t).run P w= .ok (.slice e) w:=λw=>by
      obtain⟨d1,r1,_,m1⟩:=dH (P:=P) hT hti w;rw[dB (m1.trans hd)]at r1;exact r1
     have hsz:=λw=>run_sizeOf (P:=P) hT hte w
     have key: ∀{i q m n c p:Nat} {a:Loc},(bif Nat.beq m te.size&&DT h i then rowOf h i m λN g wr=>q+n<=N/\vSrc h x m n λnew=>new.ones m/\Q (.lit (.int .i64 new.len)) (setRow h i (mO m N q g wr new))else False)->
       ρ i=some a->u= .slice (some ⟨a.blk,p,none⟩) n c->(n≠0->p=a.base+q*m)->XQ P (Builtin.copy_ ts ty us) h ρ T w Q:=by
      intro i q m n c p a hq ha hue hp;subst hue;cases hb:(Nat.beq m te.size&&DT h i)with
      |false=>rw[hb]at hq;exact hq.elim
      |true=>
       rw[hb]at hq;simp only[aP]at hq;simp only[aJ]at hb;have:=au hb.1;subst this;obtain⟨ob,N,g,wr,hi,hc,hle,hq⟩:=gW hq;obtain⟨new,⟨L,hlen,hmin,hnew⟩,zo,hq⟩:=aqF (P:=P) (T:=T) hm hq hv;have hrow:fA ob=true:=by simpa[DT,hi]using hb.2
       have hset:setRow h i (mO te.size N q g wr new)=h.set i (mF ob (mO te.size N q g wr new)):=by simp[setRow,hi]
       rw[hset]at hq;obtain⟨vs,hvs,Bf,hvc⟩:=hnew w hR;have hdn:new.len<=n:=by rw[hmin];exact Nat.min_le_right _ _
       obtain⟨w',hrun,hR',hk'⟩:=fH (P:=P) hR (k:=q) (cs:=vs.toList) (new:=new) hm hi hrow hc ha (by omega) (by simpa using Bf) (Ip hm zo Bf hvc) (by simpa using hvc);have hst:(storeCells ⟨a.blk,p,none⟩ vs.toList).run P w= .ok () w':=by
        by_cases hn:n=0
        ·have h0:new.len=0:=by omega
         have:vs= #[]:=Array.eq_empty_of_size_eq_zero (by rw[Bf,h0];simp);subst this;simpa[storeCells]using hrun
        ·rw[hp hn];exact hrun
       refine⟨_,h.set i (mF ob (mO te.size N q g wr new)),⟨.int .i64 new.len,w',ρ,?_,λ_ _=>rfl,Ren.le_refl _,by simp,hR',by simp only[bF],hk'⟩,hq⟩;simp only[Builtin.copy_,ht0,hu0,hu1,Sem.run_bind,jD,Result.andThen_ok,hlen,hsz,Sem.run_pure];rw[<-hmin,hvs];simp only[Result.andThen_ok,Sem.run_bind,hst,Sem.run_pure];rfl
     split at hq
     ·rename_i i q m n c
      simp only[bF]at hu;obtain⟨a,p,ha,rfl,hnc,hp⟩:=hu;exact key hq ha rfl (λhn=>hp (by omega))
     ·rename_i i q m n
      simp only[bF]at hu;obtain⟨a,p,c,ha,rfl,hnc,hp⟩:=hu;exact key hq ha rfl (λhn=>(hp (by omega)).1)
     ·exact hq.elim
   ·exact hq.elim
  ·exact hq.elim
 ·exact hq.elim
def afN(tt:TT)(t:TypeId)(d:AV)(h:Heap)(Q:AV->Heap->Prop):Prop:=
 match tt t with
 |some ti=>match ti.desc with
  | .slice e=>match tt e with
   |some te=>bif Nat.beq te.size 0|| !Nat.beq te.zero.length te.size|| !te.zero.all Value.oneCell' then False else(
    let lay (i q m n:Nat):Prop:=bif Nat.beq m te.size&&DT h i then rowOf h i m λN g wr=>q+n<=N/\Q (.tup []) (setRow h i (mO m N q g wr (.many n (λ_=>te.zero))))else False
    match d with
    | .slE i q m n _=>lay i q m n
    | .slW i q m n=>lay i q m n
    |_=>False)
   |none=>False
  |_=>False
 |none=>False
theorem xX(z:Array Value)(n k:Nat)(hk:k<n*z.size):(Builtin.zeroCells z n)[k]? =z[k%z.size]? :=by
 have hz:0<z.size:=Nat.pos_of_ne_zero λh0=>by rw[h0]at hk;simp at hk
 have hm:k%z.size<z.size:=Nat.mod_lt _ hz;unfold Builtin.zeroCells;rw[Array.getElem?_map,Array.getElem?_range,if_pos hk];simp[hm]
theorem afO{P:Program}{tt:TT}(hT:tt.ok P){h:Heap}{ρ:Ren}{T:Nat->Prop}{w:World}(hR:Rel h ρ T w){t ty:TypeId}{d:AV}{u:Value}{ts:Array TypeId}{us:Array Value}{Q:AV->Heap->Prop}
  (hq:afN tt t d h Q) (hu:bF ρ d u) (ht0:ts[0]? =some t) (hu0:us[0]? =some u):XQ P (Builtin.clear_ ts ty us) h ρ T w Q:=by
 unfold afN at hq;split at hq
 ·rename_i ti hti
  split at hq
  ·rename_i e hd
   split at hq
   ·rename_i te hte
    cases hb:(Nat.beq te.size 0|| !Nat.beq te.zero.length te.size|| !te.zero.all Value.oneCell')with
    |true=>rw[hb]at hq;exact hq.elim
    |false=>
     rw[hb]at hq;simp only[aQ]at hq;simp only[Bool.or_eq_false_iff,Bool.not_eq_false',List.all_eq_true]at hb;obtain⟨⟨hs0,hzl⟩,hz1⟩:=hb;have hm:0<te.size:=Nat.pos_of_ne_zero λh0=>by rw[h0]at hs0;cases hs0
     have hzl:=au hzl;have jD: ∀w,(underlying t).run P w= .ok (.slice e) w:=λw=>by
      obtain⟨d1,r1,_,m1⟩:=dH (P:=P) hT hti w;rw[dB (m1.trans hd)]at r1;exact r1
     obtain⟨z,hzr,hzc⟩:=iZ (P:=P) hT hte w;have hzs:z.cells.size=te.size:=by rw[<-Array.length_toList,hzc,hzl]
     have key: ∀{i q m n c p:Nat} {a:Loc},(bif Nat.beq m te.size&&DT h i then rowOf h i m λN g wr=>q+n<=N/\Q (.tup []) (setRow h i (mO m N q g wr (.many n (λ_=>te.zero))))else False)->
       ρ i=some a->u= .slice (some ⟨a.blk,p,none⟩) n c->(n≠0->p=a.base+q*m)->XQ P (Builtin.clear_ ts ty us) h ρ T w Q:=by
      intro i q m n c p a hq ha hue hp;subst hue;cases hb:(Nat.beq m te.size&&DT h i)with
      |false=>rw[hb]at hq;exact hq.elim
      |true=>
       rw[hb]at hq;simp only[aP]at hq;simp only[aJ]at hb;have:=au hb.1;subst this;obtain⟨ob,N,g,wr,hi,hc,hle,hq⟩:=gW hq;have hrow:fA ob=true:=by simpa[DT,hi]using hb.2
       have hset:setRow h i (mO te.size N q g wr (.many n (λ_=>te.zero)))=h.set i (mF ob (mO te.size N q g wr (.many n (λ_=>te.zero)))):=by simp[setRow,hi]
       rw[hset]at hq;have hzz:(Builtin.zeroCells z.cells n).size=n*te.size:=by simp[Builtin.zeroCells,hzs]
       have hget: ∀k,k<n*te.size->(Builtin.zeroCells z.cells n)[k]? =te.zero[k%te.size]? :=λk hk=>by
        rw[xX _ _ _ (by rw[hzs];exact hk),hzs,<-hzc,Array.getElem?_toList]
       obtain⟨w',hrun,hR',hk'⟩:=fH (P:=P) hR (k:=q) (cs:=(Builtin.zeroCells z.cells n).toList) (new:= .many n (λ_=>te.zero)) hm hi hrow hc ha (by simp only[dJ.len];exact hle) (by simpa[dJ.len]using hzz) (λu hu=>by
        obtain⟨k,hk⟩:=List.mem_iff_getElem?.1 hu;have hk':(Builtin.zeroCells z.cells n)[k]? =some u:=by simpa using hk
        have hlt:k<n*te.size:=by rw[<-hzz];exact(Array.getElem?_eq_some_iff.1 hk').1
        rw[hget k hlt]at hk';exact hz1 u (List.mem_of_getElem? hk')) (λk y hk=>by
        have hlt:=Cs.dW hk;simp only[Cs.size,dJ.len]at hlt;simp only[Cs.get,dJ.len,bg.2 hlt,aP,Cs.eff,dJ.el]at hk;have hmod:k%te.size<te.zero.length:=by rw[hzl];exact Nat.mod_lt _ hm
        rw[List.getElem?_eq_getElem hmod]at hk;cases hk;refine⟨te.zero[k%te.size],?_,by simp only[bF]⟩;rw[aA];simp only[List.getElem?_toArray,Array.toArray_toList]at*
        rw[hget k hlt,List.getElem?_eq_getElem hmod])
       refine⟨_,h.set i (mF ob (mO te.size N q g wr (.many n (λ_=>te.zero)))),⟨.tuple #[],w',ρ,?_,λ_ _=>rfl,Ren.le_refl _,by simp,hR',by simp only[bF];exact⟨_,rfl,.nil⟩,hk'⟩,hq⟩;cases n with
       |zero=>
        have e0:(Builtin.zeroCells z.cells 0).toList=[]:=by simp[Builtin.zeroCells]
        rw[e0]at hrun;simp only[storeCells,Sem.run_pure,Result.ok.injEq,aU]at hrun;subst hrun;simp only[Builtin.clear_,ht0,hu0,Sem.run_bind,jD,Result.andThen_ok,Sem.run_pure]
       |succ n=>
        have hst:(storeCells ⟨a.blk,p,none⟩ (Builtin.zeroCells z.cells (n+1)).toList).run P w= .ok () w':=by rw[hp (by omega)];exact hrun
        simp only[Builtin.clear_,ht0,hu0,Sem.run_bind,jD,Result.andThen_ok,hzr,hst,Sem.run_pure]
     split at hq
     ·rename_i i q m n c
      simp only[bF]at hu;obtain⟨a,p,ha,rfl,hnc,hp⟩:=hu;exact key hq ha rfl (λhn=>hp (by omega))
     ·rename_i i q m n
      simp only[bF]at hu;obtain⟨a,p,c,ha,rfl,hnc,hp⟩:=hu;exact key hq ha rfl (λhn=>(hp (by omega)).1)
     ·exact hq.elim
   ·exact hq.elim
  ·exact hq.elim
 ·exact hq.elim
theorem Cc{P:Program}{w:World}{t xt ty e:TypeId}{ts:Array TypeId}{us:Array Value}{base:Option Addr}{sLen sCap size newCap:Nat}{z:Value}{i:TypeInfo}{k k':IntKind}{l:Int}{old:Array Value}
  (ht0:ts[0]? =some t) (ht1:ts[1]? =some xt) (hu0:us[0]? =some (.slice base sLen sCap)) (hu1:us[1]? =some (.int k l)) (jD: ∀w,(underlying t).run P w= .ok (.slice e) w)
  (hsz: ∀w,(sizeOf e).run P w= .ok size w) (hdx: ∀w,(underlying xt).run P w= .ok (.int k') w) (hi: ∀w,(typeInfo e).run P w= .ok i w) (hl0:0<=l) (hl1:l<2^62) (hlb:l*i.bytes<=2^48) (hs0:0<size) (hzz:z.cells.size=size)
  (hb:i.bytes≠0) (hz: ∀w,(zeroValue e).run P w= .ok z w) (hcap:sCap<sLen+l.toNat) (aqo:sLen+l.toNat<2^62) (hnx:Builtin.nextslicecap (sLen+l.toNat) sCap*i.bytes<=2^48)
  (hch:(choose (.appendCap (sLen+l.toNat) sCap e)).run P w= .ok newCap w.drew) (hold:(Builtin.firstCells size sLen (.slice base sLen sCap)).run P w.drew= .ok old w.drew):
  (Builtin.append_ ts ty us).run P w= .ok (.slice (some ⟨w.heap.size,0,none⟩) (sLen+l.toNat) newCap) (w.drew.alloc (.cells (old++Builtin.zeroCells z.cells l.toNat++Builtin.zeroCells z.cells (newCap-(sLen+l.toNat))) e)):=by
 have hw:IntKind.i64.wrap l=l:=by
  have:=alz (a:=l.toNat) (by omega);rwa [Int.toNat_of_nonneg hl0]at this
 have hmax: ¬(((sLen+l.toNat:Nat):Int)>IntKind.i64.max):=by
  have:IntKind.i64.max=9223372036854775807:=by rfl
  omega
 simp only[Builtin.append_,ht0,ht1,hu0,hu1,Sem.run_bind,jD,Result.andThen_ok,hsz,hdx,asInt,asIntOf,Sem.run_pure,if_true,Sem.run_ite,hw,hi];rw[if_neg (by omega)]
 try simp only[Result.andThen_ok,Sem.run_pure,hi]
 rw[if_neg (by omega)]
 try simp only[Result.andThen_ok,Sem.run_pure]
 rw[if_neg (by omega)]
 try simp only[Result.andThen_ok,Sem.run_pure,Sem.run_bind,hi,Sem.run_ite]
 rw[if_neg (by rintro ⟨h,_⟩;exact hmax h),if_neg (by omega)];simp only[hch,Result.andThen_ok,run_askRoom,hold,Bool.not_true,Bool.false_eq_true,if_false];by_cases h0:l.toNat*size=0
 ·have hl:l.toNat=0:=by
   rcases Nat.mul_eq_zero.1 h0 with h|h
   ·exact h
   ·omega
  have e0:Builtin.zeroCells z.cells l.toNat= #[]:=by rw[hl];simp[Builtin.zeroCells]
  rw[e0];simp only[Sem.run_ite,if_pos h0,Sem.run_pure,Result.andThen_ok,hz,newRow,Sem.run_bind,run_newObj];rfl
 ·simp only[Sem.run_ite,if_neg h0,Sem.run_bind,Sem.run_pure,Result.andThen_ok,hz,newRow,run_newObj]
  rfl
def JX(tt:TT)(t:TypeId)(s x:AV)(h:Heap)(Q:AV->Heap->Prop):Prop:=
 match tt t with
 |some ti=>match ti.desc with
  | .slice e=>match tt e with
   |some te=>bif Nat.beq te.bytes 0|| !Nat.beq te.zero.length te.size||Nat.beq te.size 0 then False else(match s,x with
    | .slE i q m sn c,.lit (.int _ l)=>bif Nat.beq m te.size then(rowOf h i m λN g wr=>q+sn<=N/\0<=l/\c<sn+l.toNat/\(2*(sn+l.toNat)+1000)*te.bytes<=2^48/\
      Q (.slW h.next 0 te.size (sn+l.toNat)) (h.push (.room e (kN te.size sn (λk=>Cs.eff g wr (q+k)) [] (.many l.toNat (λ_=>te.zero))))))else False
    |_,_=>False)
   |none=>False
  |_=>False
 |none=>False
theorem UH{P:Program}{tt:TT}(hT:tt.ok P){h:Heap}{ρ:Ren}{T:Nat->Prop}{w:World}(hR:Rel h ρ T w){t xt ty:TypeId}{s x:AV}{u v:Value}{ts:Array TypeId}{us:Array Value}{Q:AV->Heap->Prop}{tx:TI}
  (hq:JX tt t s x h Q) (htx:tt xt=some tx) (hxi:Bd tx.desc=true) (hu:bF ρ s u) (hv:bF ρ x v) (ht0:ts[0]? =some t) (ht1:ts[1]? =some xt) (hu0:us[0]? =some u) (hu1:us[1]? =some v):XQ P (Builtin.append_ ts ty us) h ρ T w Q:=by
 unfold JX at hq;split at hq
 ·rename_i ti hti
  split at hq
  ·rename_i e hd
   split at hq
   ·rename_i te hte
    cases hbz:(Nat.beq te.bytes 0|| !Nat.beq te.zero.length te.size||Nat.beq te.size 0)with
    |true=>rw[hbz]at hq;exact hq.elim
    |false=>
     rw[hbz]at hq;simp only[aQ]at hq;simp only[Bool.or_eq_false_iff,Bool.not_eq_false']at hbz;obtain⟨⟨hb0,hz⟩,hs0⟩:=hbz;have hb0:te.bytes≠0:=λh0=>by rw[h0]at hb0;cases hb0
     have hm:0<te.size:=Nat.pos_of_ne_zero λh0=>by rw[h0]at hs0;cases hs0
     have hz:te.zero.length=te.size:=au hz;have jD: ∀w,(underlying t).run P w= .ok (.slice e) w:=λw=>by
      obtain⟨d1,r1,_,m1⟩:=dH (P:=P) hT hti w;rw[dB (m1.trans hd)]at r1;exact r1
     obtain⟨k',hdx⟩: ∃k',∀w,(underlying xt).run P w= .ok (.int k') w:=by
      obtain⟨d1,_,p1,m1⟩:=dH (P:=P) hT htx w;rw[<-m1]at hxi;cases d1<;>try (exfalso;revert hxi;simp[wU,Bd];done)
      rename_i k1 _;exact⟨k1,λw=>by simp[underlying,p1]⟩
     have hsz:=λw=>run_sizeOf (P:=P) hT hte w
     split at hq
     ·rename_i i q m sn c k l
      cases hmb:Nat.beq m te.size with
      |false=>rw[hmb]at hq;exact hq.elim
      |true=>
       rw[hmb]at hq;simp only[aP]at hq;have:=au hmb;subst this;simp only[bF]at hu hv;subst hv;obtain⟨a,p,ha,rfl,hnc,hp⟩:=hu;obtain⟨ob,N,g,wr,hi,hc,hle,hl0,hcap,hlim,hq⟩:=gW hq;obtain⟨_,hold⟩:=lS (P:=P) (T:=T) (c:=c) hm hi hc ha hle (p:=p) (λh=>hp (by omega));obtain⟨os,hos,OV,hoc⟩:=hold w.drew hR.drew;simp only[dJ.len,dJ.el]at hos OV hoc;obtain⟨z,hzr0,hzc⟩:=iZ (P:=P) hT hte w;have hzs:z.cells.size=te.size:=by rw[<-Array.length_toList,hzc,hz]
       have hzz:(Builtin.zeroCells z.cells l.toNat).size=l.toNat*te.size:=by simp[Builtin.zeroCells,hzs]
       have hnew:fF ρ (.row te.size (dJ.many l.toNat (λ_=>te.zero)).len (dJ.many l.toNat (λ_=>te.zero)).el []) (Builtin.zeroCells z.cells l.toNat) 0:=λk y hk=>by
        have hlt:=Cs.dW hk;simp only[Cs.size,dJ.len]at hlt;simp only[Cs.get,dJ.len,bg.2 hlt,aP,Cs.eff,dJ.el]at hk;have hmod:k%te.size<te.zero.length:=by rw[hz];exact Nat.mod_lt _ hm
        rw[List.getElem?_eq_getElem hmod]at hk;cases hk;refine⟨te.zero[k%te.size],?_,by simp only[bF]⟩;rw[aA,xX _ _ _ (by rw[hzs];exact hlt),hzs,<-Array.getElem?_toList,hzc,List.getElem?_eq_getElem hmod]
       obtain⟨ii,z',newCap,ρ',g1,g2,g3,g4,g5,g6,g7,g8,g9,g10,g11⟩:=jc (P:=P) hT hR hte hb0 hz (need:=sn+l.toNat) (sCap:=c) hcap hlim (us:=os) (vs:=Builtin.zeroCells z.cells l.toNat)
        (c:=kN te.size sn (λk=>Cs.eff g wr (q+k)) [] (.many l.toNat (λ_=>te.zero))) (by rw[OV,hzz,Nat.add_mul]) (by rw[(kD hm).1];simp only[dJ.len];rw[Nat.add_mul]) (λrest=>uN hm hoc hnew OV (by simpa[dJ.len]using hzz))
       have hzz':z'=z:=by
        have:=g3 w;rw[hzr0]at this;cases this;rfl
       subst hzz';have aqo:sn+l.toNat<2^62:=by
        have:(sn+l.toNat)*1<=(2*(sn+l.toNat)+1000)*te.bytes:=Nat.mul_le_mul (by omega) (by omega);omega
       have hlb:l*ii.bytes<=2^48:=by
        rw[g2];have h1:l.toNat*te.bytes<=(2*(sn+l.toNat)+1000)*te.bytes:=Nat.mul_le_mul_right _ (by omega);have h2:((l.toNat*te.bytes:Nat):Int)<=((2^48:Nat):Int):=Int.ofNat_le.2 (Nat.le_trans h1 hlim);rw[Int.natCast_mul,Int.toNat_of_nonneg hl0]at h2;exact h2
       refine⟨_,_,⟨_,_,ρ',Cc ht0 ht1 hu0 hu1 jD hsz hdx g1 hl0 (by omega) hlb hm hzs (by omega) g3 hcap aqo (by rw[g2];exact g4) g5 hos,g7,g8,by simp,g9,?_,g11⟩,hq⟩;simp only[bF]at g10 ⊢;obtain⟨a,c,q1,q2,q3,q4⟩:=g10;exact⟨a,_,c,q1,q2,q3,λ_=>⟨by simp,by omega⟩⟩
     ·exact hq.elim
   ·exact hq.elim
  ·exact hq.elim
 ·exact hq.elim
def vApp(tt:TT)(t xt:TypeId)(s x:AV)(h:Heap)(Q:AV->Heap->Prop):Prop:=match tt xt with
 |some tx=>bif Bd tx.desc then JX tt t s x h Q else Ux tt t xt s x h Q
 |none=>False
theorem aqH{P:Program}{tt:TT}(hT:tt.ok P){h:Heap}{ρ:Ren}{T:Nat->Prop}{w:World}(hR:Rel h ρ T w){t xt ty:TypeId}{s x:AV}{u v:Value}{ts:Array TypeId}{us:Array Value}{Q:AV->Heap->Prop}
  (hq:vApp tt t xt s x h Q) (hu:bF ρ s u) (hv:bF ρ x v) (ht0:ts[0]? =some t) (ht1:ts[1]? =some xt) (hu0:us[0]? =some u) (hu1:us[1]? =some v):XQ P (Builtin.append_ ts ty us) h ρ T w Q:=by
 unfold vApp at hq;split at hq
 ·rename_i tx htx
  cases hx:Bd tx.desc with
  |true=>rw[hx]at hq;exact UH hT hR hq htx hx hu hv ht0 ht1 hu0 hu1
  |false=>rw[hx]at hq;exact ab2 hT hR hq hu hv ht0 ht1 hu0 hu1
 ·exact hq.elim
def aqI(tt:TT)(t:TypeId)(lz:Bool)(l c:AV)(h:Heap)(Q:AV->Heap->Prop):Prop:=
 match tt t,l,c with
 |some ti,.lit (.int _ a),.lit (.int _ b)=>match ti.desc with
  | .slice e=>match tt e with
   |some te=>bif Nat.beq te.zero.length te.size then(0<=a/\a<=b/\(te.bytes:Int)*b<=2^48/\b<2^62)/\
     (bif lz then Q (.slW h.next 0 te.size 0) (h.push (.room e (.row te.size 0 (λ_=>[]) [])))else Q (.slE h.next 0 te.size a.toNat b.toNat) (h.push (.cells e (.row te.size b.toNat (λ_=>te.zero) []))))else False
   |none=>False
  |_=>False
 |_,_,_=>False
theorem alL{P:Program}{tt:TT}(hT:tt.ok P){h:Heap}{ρ:Ren}{T:Nat->Prop}{w:World}(hR:Rel h ρ T w){t:TypeId}{lz:Bool}{l c:AV}{u v:Value}{Q:AV->Heap->Prop}
  (hq:aqI tt t lz l c h Q) (hu:bF ρ l u) (hv:bF ρ c v) (hz:lz=true-> ∀k a,l= .lit (.int k a)->a=0):XQ P (Instr.makeSlice t u v) h ρ T w Q:=by
 unfold aqI at hq;split at hq
 ·rename_i ti k a k' b hti
  simp only[bF]at hu hv;subst hu;subst hv;split at hq
  ·rename_i e hd
   split at hq
   ·rename_i te hte
    cases hzz:Nat.beq te.zero.length te.size with
    |false=>rw[hzz]at hq;exact hq.elim
    |true=>
     rw[hzz]at hq;simp only[aP]at hq;have hzz:=au hzz;obtain⟨hc,hq⟩:=hq;obtain⟨arr,hrun,GI,alq⟩:=run_make (P:=P) hT (w:=w) hti hd hte (k:=k) (k':=k') hc hzz;cases lz with
     |true=>
      simp only[aP]at hq;have h0:=hz rfl _ _ rfl;subst h0;obtain⟨ρ',h1,h2,h3,h4,h5⟩:=hR.push_room (e:=e) (c:= .row te.size 0 (λ_=>[]) []) (arr:=arr) (by simp[Cs.size]) (by intro j y hj;have:=Cs.dW hj;simp[Cs.size]at this);exact⟨_,_,⟨_,_,ρ',hrun,h3,h1,by simp,h4,by simp only[bF];exact⟨_,_,b.toNat,h2,rfl,by simp,λ_=>⟨by simp,by simp[GI]⟩⟩,h5⟩,hq⟩
     |false=>
      simp only[aQ]at hq
      obtain⟨ρ',h1,h2,h3,h4,h5⟩:=hR.jZ (e:=e) (c:= .row te.size b.toNat (λ_=>te.zero) []) (arr:=arr) (by simp[Cs.size,GI]) (by
       intro j y hj;have hlt:=Cs.dW hj;simp only[Cs.size]at hlt;simp only[Cs.get,bg.2 hlt,aP,Cs.eff]at hj;rw[aA,alq j hlt,hzz];cases hq:te.zero[j%te.size]? with
       |none=>
        rw[hq]at hj;cases hj;rw[List.getElem?_eq_none_iff,hzz]at hq;have:=Nat.mod_lt j (Nat.pos_of_ne_zero (λh0=>by rw[h0]at hlt;simp at hlt):0<te.size);omega
       |some q=>rw[hq]at hj;cases hj;exact⟨q,rfl,by simp only[bF]⟩)
      exact⟨_,_,⟨_,_,ρ',hrun,h3,h1,by simp,h4,by simp only[bF];exact⟨_,_,h2,rfl,by omega,λ_=>by simp⟩,h5⟩,hq⟩
   ·exact hq.elim
  ·exact hq.elim
 ·exact hq.elim
def xY:Nat->List Value->List Value->Bool
 |0,_,l=>l.isEmpty
 |n+1,z,l=>ab7 z (l.take z.length)&&xY n z (l.drop z.length)
where
 aqJ:Value->Value->Bool
  | .bool a,.bool b=>a==b
  | .int k a,.int k' b=>decide (k=k')&&a==b
  | .slice none a b,.slice none c d=>Nat.beq a c&&Nat.beq b d
  | .pointer none,.pointer none=>true
  | .map none,.map none=>true
  | .string a,.string b=>a.data.isEmpty&&b.data.isEmpty
  |_,_=>false
 ab7:List Value->List Value->Bool
  |[],[]=>true
  |a::l,b::m=>aqJ a b&&ab7 l m
  |_,_=>false
theorem alM{a b:Value}(h:xY.aqJ a b=true):a=b:=by
 unfold xY.aqJ at h;split at h<;>simp at h
 ·rw[h]
 ·rw[h.1,h.2]
 ·rw[h.1,h.2]
 ·rfl
 ·rfl
 ·rename_i a b
  obtain⟨⟨a⟩⟩:=a;obtain⟨⟨b⟩⟩:=b;simp at h;rw[h.1,h.2]
theorem ZB: ∀{l m:List Value},xY.ab7 l m=true->l=m
 |[],[],_=>rfl
 |[],_::_,h=>by simp[xY.ab7]at h
 |_::_,[],h=>by simp[xY.ab7]at h
 |a::l,b::m,h=>by
  simp only[xY.ab7,aJ]at h;rw[alM h.1,ZB h.2]
theorem DY{z:List Value}(hz:0<z.length): ∀{n:Nat} {l:List Value},xY n z l=true->l.length=n*z.length/\ ∀k,k<l.length->l[k]? =z[k%z.length]?
 |0,l,h=>by
  have:l=[]:=by simpa[xY]using h
  subst this;simp
 |n+1,l,h=>by
  simp only[xY,aJ]at h;have h1:=ZB h.1;obtain⟨h2,h3⟩:=DY hz h.2;have hl:z.length=(l.take z.length).length:=by rw[<-h1]
  have hle:z.length<=l.length:=by rw[List.length_take]at hl;omega
  rw[List.length_drop]at h2;refine⟨by rw[Nat.add_mul];omega,λk hk=> ?_⟩;by_cases hkz:k<z.length
  ·rw[Nat.mod_eq_of_lt hkz]
   have:(l.take z.length)[k]? =l[k]? :=by rw[List.getElem?_take,if_pos hkz]
   rw[<-this,<-h1]
  ·have:=h3 (k-z.length) (by rw[List.length_drop];omega)
   rw[List.getElem?_drop,show z.length+(k-z.length)=k by omega]at this;rw[this,<-Nat.mod_eq_sub_mod (by omega)]
def afP(tt:TT)(e:TypeId)(h:Heap)(Q:AV->Heap->Prop):Prop:=
 match tt e with
 |some ti=>match ti.desc with
  | .array n el=>match tt el with
   |some te=>bif Nat.blt 8 n&& !Nat.beq te.zero.length 0&&Nat.beq te.zero.length te.size&&xY n te.zero ti.zero then Q (.ptr h.next 0) (h.push (.cells e (.row te.size n (λ_=>te.zero) [])))else(match HY tt e h with
    |some (v,h')=>Q v h'
    |none=>False)
   |none=>False
  |_=>match HY tt e h with
   |some (v,h')=>Q v h'
   |none=>False
 |none=>False
theorem afQ{P:Program}{tt:TT}(hT:tt.ok P){h:Heap}{ρ:Ren}{T:Nat->Prop}{w:World}(hR:Rel h ρ T w){e:TypeId}{Q:AV->Heap->Prop}(hq:afP tt e h Q):XQ P (Instr.alloc e true (.tuple #[])) h ρ T w Q:=by
 have old:(match HY tt e h with|some (v,h')=>Q v h'|none=>False)->XQ P (Instr.alloc e true (.tuple #[])) h ρ T w Q:=λhq=>by
  split at hq
  ·rename_i v h' hv;exact⟨v,h',OM hT hR hv,hq⟩
  ·exact hq.elim
 unfold afP at hq;split at hq
 ·rename_i ti hti
  split at hq
  ·rename_i n el hd
   split at hq
   ·rename_i te hte
    cases hb:(Nat.blt 8 n&& !Nat.beq te.zero.length 0&&Nat.beq te.zero.length te.size&&xY n te.zero ti.zero)with
    |false=>rw[hb]at hq;exact old hq
    |true=>
     rw[hb]at hq;simp only[aP]at hq;simp only[aJ,Bool.not_eq_true']at hb;obtain⟨⟨⟨_,h0⟩,hz⟩,hrep⟩:=hb;have h0:0<te.zero.length:=Nat.pos_of_ne_zero λhh=>by rw[hh]at h0;cases h0
     have hz:=au hz;obtain⟨r1,r2⟩:=DY h0 hrep;obtain⟨z,hzr,hzc⟩:=iZ (P:=P) hT hti w;have hsz:z.cells.size=n*te.size:=by rw[<-Array.length_toList,hzc,r1,hz]
     obtain⟨ρ',h1,h2,h3,h4,h5⟩:=hR.jZ (e:=e) (c:= .row te.size n (λ_=>te.zero) []) (arr:=z.cells) (by simp[Cs.size,hsz]) (by
      intro j y hj;have hlt:=Cs.dW hj;simp only[Cs.size]at hlt;simp only[Cs.get,bg.2 hlt,aP,Cs.eff]at hj;have:=r2 j (by rw[r1,hz];exact hlt);rw[hz]at this;rw[aA,<-Array.getElem?_toList,hzc,this];split at hj
      ·rename_i q hq;cases hj;exact⟨q,hq,by simp only[bF]⟩
      ·rename_i hq
       rw[List.getElem?_eq_none_iff,hz]at hq;have:=Nat.mod_lt j (by omega:0<te.size)
       omega)
     exact⟨_,_,⟨.pointer (some ⟨w.heap.size,0,none⟩),_,ρ',by simp[Instr.alloc,hzr,newVar,newRow],h3,h1,by simp,h4,by simp only[bF];exact⟨_,h2,rfl⟩,h5⟩,hq⟩
   ·exact hq.elim
  ·exact old hq
 ·exact hq.elim
def JY(tt:TT)(t:TypeId)(i p:Nat)(v:AV)(h:Heap)(Q:Heap->Prop):Prop:=
 match tt t,h.get i with
 |some ti,some ob=>match ob.eP with
  |some (.row m n g wr)=>bif Nat.beq m 1&&fA ob then(match v with
   | .arr n' f=>bif Nat.beq n' ti.size then(p+n'<=n/\(dJ.many n' f).ones 1/\Q (h.set i (mF ob (mO 1 n p g wr (.many n' f)))))else False
   | .lit u=>bif Nat.beq ti.size 1&&u.oneCell' then(p<n/\Q (h.set i (mF ob (.row 1 n g ((p,[u])::wr)))))else False
   |_=>False)else False
  |_=>False
 |_,_=>False
theorem UJ{P:Program}{tt:TT}(hT:tt.ok P){h:Heap}{ρ:Ren}{T:Nat->Prop}{w:World}(hR:Rel h ρ T w){t:TypeId}{i p:Nat}{v:AV}{u x:Value}{Q:Heap->Prop}
  (hl:JY tt t i p v h Q) (hu:bF ρ (.ptr i p) u) (hx:bF ρ v x): ∃w' h',(Instr.storeAt t u x).run P w= .ok () w'/\Rel h' ρ T w'/\h'.next=h.next/\Keeps T w w'/\Q h':=by
 unfold JY at hl;split at hl
 ·rename_i ti ob hti hi
  split at hl
  ·rename_i m n g wr hc
   cases hb:(Nat.beq m 1&&fA ob)with
   |false=>rw[hb]at hl;exact hl.elim
   |true=>
    rw[hb]at hl;simp only[aP]at hl;simp only[aJ]at hb;have:=au hb.1;subst this;simp only[bF]at hu;obtain⟨a,ha,rfl⟩:=hu;have fin: ∀(new:dJ) (cs:List Value),x.cells.toList=cs->cs.length=ti.size->p+new.len<=n->cs.length=new.len*1->(∀u∈cs,u.oneCell'=true)->fF ρ (.row 1 new.len new.el []) cs.toArray 0->
      Q (h.set i (mF ob (mO 1 n p g wr new)))-> ∃w' h',(Instr.storeAt t (.pointer (some ⟨a.blk,a.base+p,none⟩)) x).run P w= .ok () w'/\Rel h' ρ T w'/\h'.next=h.next/\Keeps T w w'/\Q h':=by
     intro new cs hxc hsz hk hln h1 hcr hq;obtain⟨w',hrun,hR',hk'⟩:=fH (P:=P) hR (m:=1) (k:=p) (new:=new) (cs:=cs) (by omega) hi hb.2 hc ha hk hln h1 hcr;refine⟨w',_,?_,hR',by simp,hk',hq⟩;have hsz2:x.cells.size=ti.size:=by rw[<-Array.length_toList,hxc,hsz]
     simp only[Instr.storeAt,Instr.sureAddr,Sem.run_bind,Sem.run_pure,Result.andThen_ok,storeVar,run_sizeOf hT hti];rw[if_neg (by simpa using hsz2)];simp only[hxc];rw[Nat.mul_one]at hrun;exact hrun
    split at hl
    ·rename_i n' f
     cases hs:Nat.beq n' ti.size with
     |false=>rw[hs]at hl;exact hl.elim
     |true=>
      rw[hs]at hl;simp only[aP]at hl;have hs:=au hs;obtain⟨hle,zo,hq⟩:=hl;simp only[bF]at hx;obtain⟨A,rfl,hA,hg⟩:=hx;have hel: ∀k (_:k<n'),∃v,f k=[v]/\v.oneCell'=true/\A[k]? =some v:=λk hk=>by
       have:=zo k hk;simp only[aJ,List.all_eq_true]at this;have hl1:=au this.1;obtain⟨v,hv⟩:=List.length_eq_one_iff.1 hl1;exact⟨v,hv,this.2 v (by rw[hv];simp),hg k v hk (by rw[hv];rfl)⟩
      refine fin (.many n' f) A.toList rfl (by rw[Array.length_toList];omega) hle (by simp only[dJ.len,Array.length_toList];omega) (λy hy=> ?_) (λk y hk=> ?_) hq
      ·obtain⟨k,hk,rfl⟩:=List.mem_iff_getElem.1 hy
       rw[Array.length_toList]at hk;obtain⟨v,_,h1,h2⟩:=hel k (by omega);rw[Array.getElem?_eq_getElem hk]at h2;cases h2;simpa using h1
      ·have hlt:=Cs.dW hk
       simp only[Cs.size,dJ.len,Nat.mul_one]at hlt;obtain⟨v,h1,_,h2⟩:=hel k hlt;simp only[Cs.get,dJ.len,dJ.el,bg.2 (show k<n'*1 by omega),aP,Cs.eff,Nat.div_one,Nat.mod_one,h1,ah]at hk;cases hk;exact⟨v,by rw[aA];simpa using h2,by simp only[bF]⟩
    ·rename_i u
     cases hs:(Nat.beq ti.size 1&&u.oneCell')with
     |false=>rw[hs]at hl;exact hl.elim
     |true=>
      rw[hs]at hl;simp only[aP]at hl;simp only[aJ]at hs;have hs1:=au hs.1;obtain⟨hle,hq⟩:=hl;simp only[bF]at hx;subst hx;have hone:x.cells= #[x]:=by cases x<;>first|rfl|(simp[Value.oneCell']at hs)
      refine fin (.few [[x]]) [x] (by rw[hone]) (by simp[hs1]) (by simp only[dJ.len,List.length_cons,List.length_nil];omega) (by simp[dJ.len]) (by simpa using hs.2) (λk y hk=> ?_) hq;have hlt:=Cs.dW hk;simp only[Cs.size,dJ.len,List.length_cons,List.length_nil,Nat.mul_one]at hlt;have h0:k=0:=by simpa using hlt
      subst h0;have:(Cs.row 1 (dJ.few [[x]]).len (dJ.few [[x]]).el []).get 0=some (.lit x):=rfl;rw[this]at hk;cases hk;exact⟨x,by simp,by simp only[bF]⟩
    ·exact hl.elim
  ·exact hl.elim
 ·exact hl.elim
def Ph(cs:List AV):Option (Nat×(Nat->List Value)):=match nN cs with
 |some (v::r)=>bif Nat.blt 8 (r.length+1)&&xY r.length [v] r then some (r.length+1,λ_=>[v])else none
 |_=>none
theorem Pj{cs:List AV}{n:Nat}{g:Nat->List Value}(h:Ph cs=some (n,g)):cs.length=n/\ ∀k,k<n-> ∃v,g k=[v]/\cs[k]? =some (.lit v):=by
 unfold Ph at h;split at h
 ·rename_i v r hl
  cases hb:(Nat.blt 8 (r.length+1)&&xY r.length [v] r)with
  |false=>rw[hb]at h;cases h
  |true=>
   rw[hb]at h;cases h;simp only[aJ]at hb;have:=fM hl;subst this;refine⟨by simp,λk hk=>⟨v,rfl,?_⟩⟩;obtain⟨h1,h2⟩:=DY (by simp) hb.2;cases k with
   |zero=>simp
   |succ k=>
    have:=h2 k (by omega);simp only[List.length_cons,List.length_nil,aA,Nat.mod_one,ah]at this;simp[this]
 ·cases h
theorem ab8{ρ:Ren}{cs:List AV}{n:Nat}{g:Nat->List Value}{x:Value}(h:Ph cs=some (n,g))(hx:bF ρ (.agg cs) x):bF ρ (.arr n g) x:=by
 obtain⟨h1,h2⟩:=Pj h;simp only[bF]at hx ⊢;obtain⟨vs,rfl,hlr⟩:=hx;refine⟨vs,rfl,by rw[<-Array.length_toList,<-hlr.length,h1],λk u hk hu=> ?_⟩;obtain⟨v,g1,g2⟩:=h2 k hk;rw[g1]at hu;simp at hu;subst hu;obtain⟨y,hy,hr⟩:=hlr.get k _ g2;simp only[bF]at hr;subst hr;simpa using hy
def rowAt(h:Heap)(i o n:Nat):Bool:=match h.get i with
 |some ob=>match ob.eP with
  |some c=>match jK c o with
   |some (o',m,N,_,_)=>Nat.beq o o'&&Nat.beq m 1&&Nat.beq n N
   |none=>false
  |none=>false
 |none=>false
def UK(tt:TT)(t:TypeId)(i o:Nat)(v:AV)(h:Heap)(Q:Heap->Prop):Prop:=match v with
 | .agg cs=>match Ph cs with
  |some (n,g)=>bif rowAt h i o n then xU tt t (.ptr i o) (.arr n g) h Q else xU tt t (.ptr i o) (.agg cs) h Q
  |none=>xU tt t (.ptr i o) (.agg cs) h Q
 |v=>xU tt t (.ptr i o) v h Q
theorem ab9{P:Program}{tt:TT}(hT:tt.ok P){h:Heap}{ρ:Ren}{T:Nat->Prop}{w:World}(hR:Rel h ρ T w){t:TypeId}{i o:Nat}{v:AV}{u x:Value}{Q:Heap->Prop}
  (hl:UK tt t i o v h Q) (hu:bF ρ (.ptr i o) u) (hx:bF ρ v x): ∃w' h',(Instr.storeAt t u x).run P w= .ok () w'/\Rel h' ρ T w'/\h'.next=h.next/\Keeps T w w'/\Q h':=by
 unfold UK at hl;split at hl
 ·split at hl
  ·rename_i n g hg
   cases hb:rowAt h i o n with
   |true=>rw[hb]at hl;simp only[aP]at hl;exact mJ hT hR hl hu (ab8 hg hx)
   |false=>rw[hb]at hl;simp only[aQ]at hl;exact mJ hT hR hl hu hx
  ·exact mJ hT hR hl hu hx
 ·exact mJ hT hR hl hu hx
def ZC(l:List AV):Cs->Cs
 | .av r=> .av (l++r)
 | .cat (.av a) b=> .cat (.av (l++a)) b
 |c=> .cat (.av l) c
def UL(tt:TT):List (Nat×TypeId×Bool)->List AV->Cs
 |[],cs=> .av cs
 |(_,ft,_)::fs,cs=>match tt ft with
  |some tf=>match Ph (cs.take tf.size),tf.desc with
   |some (n,g),.array _ _=> .cat (.row 1 n g []) (UL tt fs (cs.drop tf.size))
   |_,_=>ZC (cs.take tf.size) (UL tt fs (cs.drop tf.size))
  |none=> .av cs
theorem afR{a b:Cs}{la lb:List AV}(ha:a.size=la.length/\ ∀k v,a.get k=some v->la[k]? =some v)(hb:b.size=lb.length/\ ∀k v,b.get k=some v->lb[k]? =some v):
  (Cs.cat a b).size=(la++lb).length/\ ∀k v,(Cs.cat a b).get k=some v->(la++lb)[k]? =some v:=by
 refine⟨by simp only[Cs.size,List.length_append,ha.1,hb.1],λk v h=> ?_⟩;simp only[Cs.get]at h;cases hk:Nat.blt k a.size with
 |true=>
  rw[hk]at h;rw[List.getElem?_append_left (by have:=bg.1 hk;omega)];exact ha.2 k v h
 |false=>
  have: ¬k<a.size:=λhh=>by rw[bg.2 hh]at hk;cases hk
  rw[hk]at h;rw[List.getElem?_append_right (by omega),<-ha.1];exact hb.2 _ v h
theorem afS(l:List AV):(Cs.av l).size=l.length/\ ∀k v,(Cs.av l).get k=some v->l[k]? =some v:=⟨rfl,λ_ _ h=>h⟩
theorem acd{l r:List AV}{c:Cs}(hc:c.size=r.length/\ ∀k v,c.get k=some v->r[k]? =some v):(ZC l c).size=(l++r).length/\ ∀k v,(ZC l c).get k=some v->(l++r)[k]? =some v:=by
 unfold ZC;split
 ·rename_i r'
  refine⟨by have:=hc.1;simp only[Cs.size,List.length_append]at this ⊢;omega,λk v h=> ?_⟩;simp only[Cs.get]at h;rcases Nat.lt_or_ge k l.length with hk|hk
  ·rw[List.getElem?_append_left hk]at h ⊢;exact h
  ·rw[List.getElem?_append_right hk]at h ⊢;exact hc.2 _ v h
 ·rename_i a b
  refine⟨by have:=hc.1;simp only[Cs.size,List.length_append]at this ⊢;omega,λk v h=> ?_⟩;simp only[Cs.get,Cs.size,List.length_append]at h;rcases Nat.lt_or_ge k l.length with hk|hk
  ·rw[bg.2 (show k<l.length+a.length by omega),aP]at h
   rw[List.getElem?_append_left hk]at h ⊢;exact h
  ·rw[List.getElem?_append_right hk]
   refine hc.2 _ v ?_;simp only[Cs.get,Cs.size];cases hb:Nat.blt k (l.length+a.length)with
   |true=>
    have:=bg.1 hb;rw[hb,aP,List.getElem?_append_right hk]at h;rw[bg.2 (show k-l.length<a.length by omega)];exact h
   |false=>
    have: ¬k<l.length+a.length:=λhh=>by rw[bg.2 hh]at hb;cases hb
    have hb2:Nat.blt (k-l.length) a.length=false:=by
     cases hh:Nat.blt (k-l.length) a.length
     ·rfl
     ·have:=bg.1 hh;omega
    rw[hb,aQ]at h;rw[hb2,aQ,show k-l.length-a.length=k-(l.length+a.length) by omega];exact h
 ·exact afR (afS l) hc
theorem Pm{tt:TT}: ∀(fs:List (Nat×TypeId×Bool)) (cs:List AV),(UL tt fs cs).size=cs.length/\ ∀k v,(UL tt fs cs).get k=some v->cs[k]? =some v
 |[],cs=>afS cs
 |(_,ft,_)::fs,cs=>by
  unfold UL;split
  ·rename_i tf htf
   have ih:=Pm (tt:=tt) fs (cs.drop tf.size);split
   ·rename_i n g _ _ hg _
    have:=afR (a:= .row 1 n g []) (la:=cs.take tf.size) (by
     obtain⟨h1,h2⟩:=Pj hg;refine⟨by simp only[Cs.size,Nat.mul_one,h1],λk v h=> ?_⟩;have hlt:=Cs.dW h;simp only[Cs.size]at hlt;obtain⟨u,g1,g2⟩:=h2 k (by omega);simp only[Cs.get,bg.2 hlt,aP,Cs.eff,Nat.div_one,Nat.mod_one,g1,ah]at h
     cases h;exact g2) ih
    rw[List.take_append_drop]at this;exact this
   ·have:=acd (l:=cs.take tf.size) ih
    rw[List.take_append_drop]at this;exact this
  ·exact afS cs
def apf(tt:TT)(fs:List (Nat×TypeId×Bool)):Bool:=fs.any λf=>match tt f.2.1 with
 |some tf=>match tf.desc with
  | .array n e=>Nat.blt 8 n&&(match tt e with|some te=>Nat.beq te.size 1|none=>false)
  |_=>false
 |none=>false
def vBox(tt:TT)(e:TypeId)(v:AV)(h:Heap)(Q:AV->Heap->Prop):Prop:=
 let old:Prop:=match atG e v h with
  |some (r,h')=>Q r h'
  |none=>False
 match v,tt e with
 | .agg cs,some ti=>match ti.desc with
  | .struct fs _=>bif apf tt fs then Q (.ptr h.next 0) (h.push (.cells e (UL tt fs cs)))else old
  |_=>old
 |_,_=>old
theorem aqK{P:Program}{tt:TT}{h:Heap}{ρ:Ren}{T:Nat->Prop}{w:World}(hR:Rel h ρ T w){e:TypeId}{v:AV}{u:Value}{Q:AV->Heap->Prop}(hq:vBox tt e v h Q)(hu:bF ρ v u):XQ P (Instr.box e u) h ρ T w Q:=by
 have old:(match atG e v h with|some (r,h')=>Q r h'|none=>False)->XQ P (Instr.box e u) h ρ T w Q:=λhq=>by
  split at hq
  ·rename_i r h' hb;exact⟨r,h',ae4 hR hb hu,hq⟩
  ·exact hq.elim
 unfold vBox at hq;simp only at hq;split at hq
 ·rename_i cs ti hti
  split at hq
  ·rename_i fs bb hd
   cases hg:apf tt fs with
   |false=>rw[hg]at hq;exact old hq
   |true=>
    rw[hg]at hq;simp only[bF]at hu;obtain⟨vs,rfl,hlr⟩:=hu;obtain⟨p1,p2⟩:=Pm (tt:=tt) fs cs
    obtain⟨ρ',h1,h2,h3,h4,h5⟩:=hR.jZ (e:=e) (c:=UL tt fs cs) (arr:=vs) (by rw[p1,<-Array.length_toList,<-hlr.length]) (by
     intro k y hk;obtain⟨z,hz,hr⟩:=hlr.get k y (p2 k y hk)
     exact⟨z,by rw[aA];simpa using hz,hr⟩)
    exact⟨_,_,⟨.pointer (some ⟨w.heap.size,0,none⟩),_,ρ',by simp[Instr.box,newVar,newRow,Value.cells],h3,h1,by simp,h4,by simp only[bF];exact⟨_,h2,rfl⟩,h5⟩,hq⟩
  ·exact old hq
 ·exact old hq
def DZ(tt:TT)(t:TypeId)(a v:AV)(h:Heap)(Q:Heap->Prop):Prop:=
 match a with
 | .nH i k m j=>bif Nat.beq (GU h i) 1&& !Nat.beq m 1 then JY tt t i (k*m+j) v h Q else match tt t,h.get i,iO v with
  |some ti,some ob,some cs=>match ob.eP,nN cs with
   |some (.row m' n g wr),some vs=>bif Nat.beq j 0&&Nat.beq m m'&&fA ob&&Nat.beq vs.length ti.size&&Nat.beq vs.length m&&vs.all Value.oneCell'&& !Nat.beq m 0 then(k<n/\Q (h.set i (mF ob (.row m n g ((k,vs)::wr)))))else xU tt t (.nH i k m j) v h Q
   |some _,some _=>xU tt t (.nH i k m j) v h Q
   |_,_=>False
  |_,_,_=>False
 | .ptr i o=>UK tt t i o v h Q
 |a=>xU tt t a v h Q
theorem zq{P:Program}{tt:TT}(hT:tt.ok P){h:Heap}{ρ:Ren}{T:Nat->Prop}{w:World}(hR:Rel h ρ T w){t:TypeId}{a v:AV}{u x:Value}{Q:Heap->Prop}
  (hl:DZ tt t a v h Q) (hu:bF ρ a u) (hx:bF ρ v x): ∃w' h',(Instr.storeAt t u x).run P w= .ok () w'/\Rel h' ρ T w'/\h'.next=h.next/\Keeps T w w'/\Q h':=by
 unfold DZ at hl;split at hl
 ·rename_i i k m j
  cases hfl:(Nat.beq (GU h i) 1&& !Nat.beq m 1)with
  |true=>rw[hfl]at hl;exact UJ hT hR hl (by simpa only[bF]using hu) hx
  |false=>
  rw[hfl]at hl;simp only[aQ]at hl;split at hl
  ·rename_i ti ob cs hti hi hcs
   split at hl
   ·rename_i m' n g wr vs hc hvs
    cases hb:(Nat.beq j 0&&Nat.beq m m'&&fA ob&&Nat.beq vs.length ti.size&&Nat.beq vs.length m&&vs.all Value.oneCell'&& !Nat.beq m 0)with
    |false=>rw[hb]at hl;simp only[aQ]at hl;exact mJ hT hR hl hu hx
    |true=>
     rw[hb]at hl;simp only[aP]at hl;simp only[aJ,List.all_eq_true,Bool.not_eq_true']at hb;obtain⟨⟨⟨⟨⟨⟨hj,hm⟩,hrow⟩,hsz⟩,hvm⟩,h1⟩,hm0⟩:=hb;have:=au hm;subst this;have:=au hj;subst this;have hsz:=au hsz;have hvm:=au hvm;have hm0:0<m:=Nat.pos_of_ne_zero λh0=>by rw[h0]at hm0;cases hm0
     obtain⟨hk,hl⟩:=hl;simp only[bF]at hu;obtain⟨a,ha,rfl⟩:=hu;have hlr:=lY hcs hx;have hcl:=fM hvs;subst hcl;have hxv:x.cells.toList=vs:=by
      have: ∀(l:List Value) (r:List Value),dQ ρ (l.map .lit) r->r=l:=by
       intro l
       induction l with
       |nil=>intro r hr;simpa[dQ]using hr
       |cons y l ih=>intro r hr;simp only[List.map_cons,dQ,bF]at hr;obtain⟨z,zs,rfl,rfl,hr⟩:=hr;rw[ih zs hr]
      exact this _ _ hlr
     obtain⟨w',hrun,hR',hk'⟩:=fH (P:=P) hR (k:=k) (new:= .few [vs]) (cs:=vs) hm0 hi hrow hc ha (by simp only[dJ.len,List.length_cons,List.length_nil];omega) (by simp[dJ.len,hvm]) h1 (λq y hq=>by
      have hlt:=Cs.dW hq;simp only[Cs.size,dJ.len,List.length_cons,List.length_nil,aA,Nat.one_mul]at hlt;have hq2:q<(dJ.few [vs]).len*m:=by simp only[dJ.len,List.length_cons,List.length_nil];omega
      simp only[Cs.get,bg.2 hq2,aP,Cs.eff,dJ.el,Nat.div_eq_of_lt hlt,Nat.mod_eq_of_lt hlt,List.getD_cons_zero]at hq;rw[List.getElem?_eq_getElem (by omega)]at hq;simp only[ak]at hq;subst hq
      exact⟨vs[q],by rw[aA];simp[List.getElem?_eq_getElem (show q<vs.length by omega)],by simp only[bF]⟩)
     refine⟨w',_,?_,hR',by simp,hk',hl⟩;have hsz2:x.cells.size=ti.size:=by rw[<-Array.length_toList,hxv,hsz]
     simp only[Instr.storeAt,Instr.sureAddr,Sem.run_bind,Sem.run_pure,Result.andThen_ok,storeVar,run_sizeOf hT hti];rw[if_neg (by simpa using hsz2)];simp only[hxv];exact hrun
   ·exact mJ hT hR hl hu hx
   ·exact hl.elim
  ·exact hl.elim
 ·exact ab9 hT hR hl hu hx
 ·exact mJ hT hR hl hu hx
def UM(tt:TT)(t:TypeId)(a v:AV)(h:Heap)(Q:Heap->Prop):Prop:=
 match a with
 | .nH i k m j=>match h.get i with
  |some (.iC _ e (.row m' n g wr))=>bif Nat.beq m' 0 then False else(k<n/\DZ tt t (.nH i k m j) v (h.set i (.room e (.row m' n g wr))) Q)
  |_=>DZ tt t (.nH i k m j) v h Q
 |a=>DZ tt t a v h Q
theorem ace{P:Program}{tt:TT}(hT:tt.ok P){h:Heap}{ρ:Ren}{T:Nat->Prop}{w:World}(hR:Rel h ρ T w){t:TypeId}{a v:AV}{u x:Value}{Q:Heap->Prop}
  (hl:UM tt t a v h Q) (hu:bF ρ a u) (hx:bF ρ v x): ∃w' h',(Instr.storeAt t u x).run P w= .ok () w'/\Rel h' ρ T w'/\h'.next=h.next/\Keeps T w w'/\Q h':=by
 unfold UM at hl;split at hl
 ·rename_i i k m j
  split at hl
  ·rename_i z e m' n g wr hi
   cases hm:Nat.beq m' 0 with
   |true=>rw[hm]at hl;exact hl.elim
   |false=>
    rw[hm]at hl;obtain⟨hk,hl⟩:=hl;have hm0:m'≠0:=λe0=>by rw[e0]at hm;cases hm
    have hR2:=hR.swap (o':= .room e (.row m' n g wr)) hi λa S ho=>by
     rcases ho with ⟨_,hs⟩|⟨_,ho⟩
     ·have hs:n*m'=0:=hs
      rcases Nat.mul_eq_zero.1 hs with h0|h0
      ·omega
      ·exact absurd h0 hm0
     ·exact ho
    obtain⟨w',h',g1,g2,g3,g4,g5⟩:=zq (P:=P) hT hR2 hl hu hx;exact⟨w',h',g1,g2,g3.trans (by simp),g4,g5⟩
  ·exact zq hT hR hl hu hx
 ·exact zq hT hR hl hu hx
def rowed:AV->Heap->Option (AV×Heap)
 | .sl i o n c,h=>match h.get i with
  |some (.cells e (.av l))=>match nN l with
   |some vs=>bif Nat.beq o 0&&Nat.blt 8 n&&Nat.beq vs.length n&&Nat.ble n c then some (.slE i 0 1 n c,h.set i (.cells e (.row 1 n (λk=>[vs.getD k default]) [])))else none
   |none=>none
  |_=>none
 |_,_=>none
theorem alN{v v':AV}{h h':Heap}{ρ:Ren}{T:Nat->Prop}{w:World}{u:Value}(hr:rowed v h=some (v',h'))(hR:Rel h ρ T w)(hv:bF ρ v u):Rel h' ρ T w/\bF ρ v' u/\h'.next=h.next:=by
 unfold rowed at hr;split at hr
 ·rename_i i o n c
  split at hr
  ·rename_i e l hi
   split at hr
   ·rename_i vs hvs
    cases hb:(Nat.beq o 0&&Nat.blt 8 n&&Nat.beq vs.length n&&Nat.ble n c)with
    |false=>rw[hb]at hr;cases hr
    |true=>
     rw[hb]at hr;cases hr;simp only[aJ,Nat.ble_eq]at hb;obtain⟨⟨⟨b1,_⟩,b2⟩,b3⟩:=hb;have:=au b1;subst this;have b2:=au b2;have:=fM hvs;subst this;simp only[bF]at hv;obtain⟨a,ha,rfl⟩:=hv;have hl:(Cs.row 1 n (λk=>[vs.getD k default]) []).size=(Cs.av (vs.map .lit)).size:=by simp[Cs.size,b2]
     refine⟨hR.upd hi ha rfl (λ_ _=>rfl) (λS hh=>hh.2.1) λS hS hh=> ?_,by simp only[bF];exact⟨a,_,ha,rfl,b3,λ_=>by simp⟩,by simp⟩;obtain⟨h0,_,arr,h1,h2,h3,h4⟩:=hh;refine⟨h0,hS,arr,h1,by rw[hl];exact h2,by rw[hl];exact h3,λk y hk=> ?_⟩;have hlt:=Cs.dW hk;simp only[Cs.size]at hlt;simp only[Cs.get,bg.2 hlt,aP,Cs.eff,Nat.div_one,Nat.mod_one,ah]at hk;cases hk;have hk2:k<vs.length:=by omega
     obtain⟨z,hz,hr⟩:=h4 k (.lit vs[k]) (by simp[Cs.get,hk2]);refine⟨z,hz,?_⟩;rw[List.getD_eq_getElem?_getD,List.getElem?_eq_getElem hk2];exact hr
   ·cases hr
  ·cases hr
 ·cases hr
def afT(tt:TT)(t:TypeId)(n:Nat)(ps:List (Nat×AV))(h:Heap)(Q:AV->Heap->Prop):Prop:=match qg tt t n ps h with
 |some (v,h')=>match rowed v h' with
  |some (v2,h2)=>Q v2 h2
  |none=>Q v h'
 |none=>False
def byteOf:List Value->UInt8
 |[.int _ z]=>UInt8.ofNat z.toNat
 |_=>0
def isByte:List Value->Bool
 |[.int .u8 z]=>decide (0<=z)&&decide (z<256)
 |_=>false
def mkStr(n:Nat)(f:Nat->UInt8):ByteArray:=⟨((List.range n).map f).toArray⟩
def aqL(tt:TT)(s d:TypeId)(x:AV)(h:Heap)(Q:AV->Prop):Prop:=
 match tt s,tt d with
 |some ts,some td=>match ts.desc,td.desc with
  | .slice e,.string=>match tt e with
   |some te=>match te.desc with
    | .int .u8=>
     let go (i q m n:Nat):Prop:=bif Nat.beq m 1 then rowOf h i 1 λN g wr=>q+n<=N/\(∀k,k<n->isByte (Cs.eff g wr (q+k))=true)/\Q (.lit (.string (mkStr n (λk=>byteOf (Cs.eff g wr (q+k))))))else False
     match x with
     | .slE i q m n _=>go i q m n
     | .slW i q m n=>go i q m n
     |_=>False
    |_=>False
   |none=>False
  |_,_=>False
 |_,_=>False
theorem alO{P:Program}{tt:TT}(hT:tt.ok P){h:Heap}{ρ:Ren}{T:Nat->Prop}{w:World}(hR:Rel h ρ T w){s d:TypeId}{x:AV}{u:Value}{Q:AV->Prop}(hq:aqL tt s d x h Q)(hu:bF ρ x u): ∃v,ROk P (convert s d u) ρ w v/\Q v:=by
 unfold aqL at hq;split at hq
 ·rename_i ts td hts htd
  split at hq
  ·rename_i e hd1 hd2
   split at hq
   ·rename_i te hte
    split at hq
    ·rename_i hd3
     obtain⟨i1,d1,z1,_,u1,_,_,_,_,m1⟩:=hT.info hts;obtain⟨i2,d2,z2,_,u2,_,_,_,_,m2⟩:=hT.info htd;obtain⟨i3,d3,z3,_,u3,_,_,_,_,m3⟩:=hT.info hte;rw[dB (m1.trans hd1)]at u1;rw[fJ (m2.trans hd2)]at u2;have e3:d3= .int .u8:=by have:=m3.trans hd3;cases d3<;>simp[wU]at this;rw[this]
     rw[e3]at u3;have main: ∀(i q m n c p:Nat) (a:Loc),ρ i=some a->u= .slice (some ⟨a.blk,p,none⟩) n c->(n≠0->p=a.base+q*m)->
       (bif Nat.beq m 1 then rowOf h i 1 λN g wr=>q+n<=N/\(∀k,k<n->isByte (Cs.eff g wr (q+k))=true)/\Q (.lit (.string (mkStr n (λk=>byteOf (Cs.eff g wr (q+k))))))else False)-> ∃v,ROk P (convert s d u) ρ w v/\Q v:=by
      rintro i q m n c p a ha rfl hp hq
      cases hm:Nat.beq m 1 with
      |false=>rw[hm]at hq;exact hq.elim
      |true=>
       rw[hm]at hq;simp only[aP]at hq;have:=au hm;subst this;obtain⟨ob,N,g,wr,hi,hc,hle,hby,hq⟩:=gW hq;refine⟨_,⟨.string (mkStr n (λk=>byteOf (Cs.eff g wr (q+k)))),?_,by simp only[bF]⟩,hq⟩;have hlen:((List.range n).map (λk=>byteOf (Cs.eff g wr (q+k)))).length=n:=by simp
       have:=run_convert_bytes_back (P:=P) w s d e ⟨a.blk,p,none⟩ c ((List.range n).map (λk=>byteOf (Cs.eff g wr (q+k)))) u1 u3 u2 (λj hj=>by
        have hjn:j<n:=by simpa using hj
        have hb:=hby j hjn;simp only[List.getElem_map,List.getElem_range];obtain⟨z,hz,h0,h1⟩: ∃z,Cs.eff g wr (q+j)=[.int .u8 z]/\0<=z/\z<256:=by
         unfold isByte at hb;split at hb
         ·rename_i z hz
          simp only[aJ,decide_eq_true_eq]at hb;exact⟨z,hz,hb⟩
         ·cases hb
        have hcell:cellAt h i (q+j)=some (.lit (.int .u8 z)):=by
         simp only[cellAt,hi,hc];have:=qh (m:=1) (g:=g) (wr:=wr) (n:=N) (k:=q+j) (j:=0) (v:= .int .u8 z) (by omega) (by omega) (by rw[hz];rfl);simpa using this
        obtain⟨b,hb2,y,hy,hr⟩:=hR.cell hcell;obtain rfl:b=a:=Option.some.inj (hb2.symm.trans ha);simp only[bF]at hr;subst hr;have hbz:((byteOf (Cs.eff g wr (q+j))).toNat:Int)=z:=by
         rw[hz];simp only[byteOf,UInt8.toNat_ofNat'];omega
        rw[hbz];have hpe:=hp (by omega);unfold Addr.add;split
        ·rename_i hj0;subst hj0;rw[hpe];simpa using hy
        ·rw[hpe];simpa[Nat.add_assoc]using hy)
       rw[hlen]at this;exact this
     simp only at hq;split at hq
     ·rename_i i q m n c
      simp only[bF]at hu;obtain⟨a,p,ha,hue,hnc,hp⟩:=hu;exact main i q m n c p a ha hue (λhn=>hp (by omega)) hq
     ·rename_i i q m n
      simp only[bF]at hu;obtain⟨a,p,c,ha,hue,hnc,hp⟩:=hu;exact main i q m n c p a ha hue (λhn=>(hp (by omega)).1) hq
     ·exact hq.elim
    ·exact hq.elim
   ·exact hq.elim
  ·exact hq.elim
 ·exact hq.elim
def isText(tt:TT)(s d:TypeId):Bool:=match tt s,tt d with
 |some ts,some td=>match ts.desc,td.desc with
  | .slice _,.string=>true
  |_,_=>false
 |_,_=>false
def vX(tt:TT)(op:Op)(ev:Operand->AV)(h:Heap)(Q:AV->Heap->Prop):Prop:=
 match op with
 | .load t x=>Uu tt t (ev x) h λv=>Q v h
 | .store t a x=>UM tt t (ev a) (ev x) h λh'=>Q (.lit undef) h'
 | .alloc e=>afP tt e h Q
 | .box e x=>vBox tt e (ev x) h Q
 | .convert s d x=>bif isText tt s d then aqL tt s d (ev x) h (λv=>Q v h)else vN tt (.convert s d x) ev h (λv=>Q v h)
 | .buildSlice t n ps=>afT tt t n (ps.toList.map λp=>(p.1,ev p.2)) h Q
 | .makeSlice t l c=>aqI tt t false (ev l) (ev c) h Q
 | .makeMap t r=>CZ tt t r.isSome h Q
 | .insert t m k x=>JV tt t (ev m) (ev k) (ev x) h λh'=>Q (.lit undef) h'
 | .mapUpdate t m k x=>JV tt t (ev m) (ev k) (ev x) h λh'=>Q (.lit undef) h'
 | .lookup t m k ok=>UD tt t (ev m) (ev k) ok h λv=>Q v h
 | .range t x=>match afF tt t (ev x) h with
  |some (v,h')=>Q v h'
  |none=>False
 | .next it isString=>bif isString then False else(bif alJ (ev it) h then afK (ev it) h Q else(match aqE (ev it) h with
  |some (v,h')=>Q v h'
  |none=>False))
 | .entry it=>bif alJ (ev it) h then UG (ev it) h Q else(match afG (ev it) h with
  |some (v,h')=>Q v h'
  |none=>False)
 | .call c=>match c.callee with
  | .builtin .append=>match c.argTypes.toList,c.args.toList.map ev with
   |t::t'::_,x::y::_=>vApp tt t t' (nrmA x) (nrm y) h Q
   |_,_=>False
  | .builtin .delete=>match c.argTypes.toList,c.args.toList.map ev with
   |t::_,x::y::_=>UE tt t x y h λh'=>Q (.tup []) h'
   |_,_=>False
  | .builtin .len=>match c.argTypes.toList,c.args.toList.map ev with
   |t::_,.mp i::_=>match aqD tt t (.mp i) h with
    |some v=>Q v h
    |none=>False
   |_,_=>vN tt (.call c) ev h (λv=>Q v h)
  | .builtin .copy=>match c.argTypes.toList,c.args.toList.map ev with
   |t::_,x::y::_=>aqG tt t (nrm x) (nrm y) h Q
   |_,_=>False
  | .builtin .clear=>match c.argTypes.toList,c.args.toList.map ev with
   |t::_,x::_=>afN tt t (nrm x) h Q
   |_,_=>False
  | .builtin b=>bif isN (.call c)then vN tt (.call c) ev h (λv=>Q v h)else(match opX false tt (.call c) ev h with
   |some (v,h')=>Q v h'
   |none=>False)
  |_=>False
 |op=>bif isN op then vN tt op ev h (λv=>Q v h)else(match opX false tt op ev h with
  |some (v,h')=>Q v h'
  |none=>False)
def XR(P:Program)(s:Sem Next)(h:Heap)(ρ:Ren)(T:Nat->Prop)(w:World)(Q:AV->Heap->Prop):Prop:=
 ∃v h' u w' ρ',OX P s w u w'/\(∀i,i<h.next->ρ' i=ρ i)/\ρ.le ρ'/\h.next<=h'.next/\Rel h' ρ' T w'/\bF ρ' v u/\Keeps T w w'/\Q v h'
theorem vX_ok{P:Program}{tt:TT}(hT:tt.ok P){h:Heap}{ρ:Ren}{T:Nat->Prop}{w:World}(hR:Rel h ρ T w){o:Oper}{ev:Operand->AV}{e:Operand->Value}(he: ∀x,bF ρ (ev x) (e x))(hcst: ∀v,ev (.const v)= .lit v){Q:AV->Heap->Prop}(hq:vX tt o.op ev h Q):
  XR P (execOp e o) h ρ T w Q:=by
 have wrap: ∀{s:Sem Value},XQ P s h ρ T w Q->XR P (do pure (Next.value (<-s)):Sem Next) h ρ T w Q:=λ⟨v,h',⟨u,w',ρ',h1,h2,h3,h4,h5,h6,h7⟩,hq⟩=>⟨v,h',u,w',ρ',.inl (nP h1),h2,h3,h4,h5,h6,h7,hq⟩
 have nn:vN tt o.op ev h (λv=>Q v h)->XR P (execOp e o) h ρ T w Q:=λhq=>by
  obtain⟨v,u,h1,h2,h3⟩:=atZ (P:=P) hT he hq;exact⟨v,h,u,w,ρ,.inl (h1 w),λ_ _=>rfl,Ren.le_refl _,aY _,hR,h2,Keeps.refl _ _,h3⟩
 have xx:(match opX false tt o.op ev h with|some (v,h')=>Q v h'|none=>False)->XR P (execOp e o) h ρ T w Q:=λhq=>by
  split at hq
  ·rename_i v h' hv
   obtain⟨u,w',ρ',h1,h2,h3,h4,h5,h6,h7⟩:=apa (P:=P) hT hR he hv;exact⟨v,h',u,w',ρ',h1,h2,h3,h4,h5,h6,h7,hq⟩
  ·exact hq.elim
 have both: ∀b:Bool,(bif b then vN tt o.op ev h (λv=>Q v h)else(match opX false tt o.op ev h with|some (v,h')=>Q v h'|none=>False))->XR P (execOp e o) h ρ T w Q:=λb hq=>by
  cases b with
  |true=>exact nn hq
  |false=>exact xx hq
 obtain⟨dst,op,ty,pos,after,guard⟩:=o;cases op<;>simp only[vX]at hq<;>try exact both _ hq
 case load t x=>
  obtain⟨v,⟨u,h1,h2⟩,h3⟩:=Zx (P:=P) hT hR hq (he x);exact⟨v,h,u,w,ρ,.inl (by simp only[execOp];exact nP h1),λ_ _=>rfl,Ren.le_refl _,aY _,hR,h2,Keeps.refl _ _,h3⟩
 case store t a x=>
  obtain⟨w',h',h1,h2,h3,h4,h5⟩:=ace (P:=P) hT hR hq (he a) (he x);exact⟨_,h',undef,w',ρ,.inr ⟨by simp[execOp,h1],rfl⟩,λ_ _=>rfl,Ren.le_refl _,by omega,h2,by simp only[bF],h4,h5⟩
 case alloc e=>exact wrap (afQ hT hR hq)
 case box e x=>exact wrap (aqK hR hq (he x))
 case convert s d x=>
  cases ht:isText tt s d with
  |false=>rw[ht]at hq;exact nn hq
  |true=>
   rw[ht]at hq;simp only[aP]at hq;obtain⟨v,⟨u,h1,h2⟩,h3⟩:=alO (P:=P) hT hR hq (he x);exact⟨v,h,u,w,ρ,.inl (by simp only[execOp];exact nP h1),λ_ _=>rfl,Ren.le_refl _,aY _,hR,h2,Keeps.refl _ _,h3⟩
 case buildSlice t n ps=>
  unfold afT at hq;split at hq
  ·rename_i v h' hv
   obtain⟨u,w',ρ',h1,h2,h3,h4,h5,h6,h7⟩:=apa (P:=P) (b:=false) hT hR (o:=⟨dst,.buildSlice t n ps,ty,pos,after,guard⟩) he (v:=v) (h':=h') (by simp only[opX];exact hv);split at hq
   ·rename_i v2 h2' hr
    obtain⟨g1,g2,g3⟩:=alN hr h5 h6;exact⟨v2,h2',u,w',ρ',h1,h2,h3,by omega,g1,g2,h7,hq⟩
   ·exact⟨v,h',u,w',ρ',h1,h2,h3,h4,h5,h6,h7,hq⟩
  ·exact hq.elim
 case makeMap t r=>exact wrap (UC (o:=r.map e) hR (by rw[Option.isSome_map];exact hq))
 case insert t m k x=>
  obtain⟨w',h',h1,h2,h3,h4,h5⟩:=Ir (P:=P) hT hR hq (he m) (he k) (he x);exact⟨_,h',undef,w',ρ,.inr ⟨by simp[execOp,h1],rfl⟩,λ_ _=>rfl,Ren.le_refl _,by omega,h2,by simp only[bF],h4,h5⟩
 case mapUpdate t m k x=>
  obtain⟨w',h',h1,h2,h3,h4,h5⟩:=Ir (P:=P) hT hR hq (he m) (he k) (he x);exact⟨_,h',undef,w',ρ,.inr ⟨by simp[execOp,h1],rfl⟩,λ_ _=>rfl,Ren.le_refl _,by omega,h2,by simp only[bF],h4,h5⟩
 case lookup t m k ok=>
  obtain⟨v,⟨u,h1,h2⟩,h3⟩:=ab4 (P:=P) hT hR hq (he m) (he k);exact⟨v,h,u,w,ρ,.inl (by simp only[execOp];exact nP h1),λ_ _=>rfl,Ren.le_refl _,aY _,hR,h2,Keeps.refl _ _,h3⟩
 case makeSlice t l c=>
  exact wrap (alL hT hR hq (he l) (he c) λhz=>by cases hz)
 case range t x=>
  split at hq
  ·rename_i v h' hr
   exact wrap ⟨v,h',afI (P:=P) hT hR hr (he x),hq⟩
  ·exact hq.elim
 case next it st=>
  cases st with
  |true=>exact hq.elim
  |false=>
   simp only[aQ]at hq;cases hs:alJ (ev it) h with
   |true=>rw[hs]at hq;exact wrap (afL hR hq (he it))
   |false=>
    rw[hs]at hq;simp only[aQ]at hq;split at hq
    ·rename_i v h' hr
     exact wrap ⟨v,h',alI hR hr (he it),hq⟩
    ·exact hq.elim
 case entry it=>
  cases hs:alJ (ev it) h with
  |true=>rw[hs]at hq;exact wrap (ab6 hR hq (he it))
  |false=>
   rw[hs]at hq;simp only[aQ]at hq;split at hq
   ·rename_i v h' hr
    exact wrap ⟨v,h',afJ hR hr (he it),hq⟩
   ·exact hq.elim
 case call c=>
  split at hq
  ·rename_i hb
   have hl:dQ ρ (c.args.toList.map ev) (c.args.map e).toList:=by simpa using mD he c.args.toList
   split at hq
   ·rename_i t t' r x y r' ht hx
    rw[hx]at hl;obtain⟨u0,hu0,hr0⟩:=hl.get 0 x rfl;obtain⟨u1,hu1,hr1⟩:=hl.get 1 y rfl;obtain⟨v,h',⟨u,w',ρ',h1,h2,h3,h4,h5,h6,h7⟩,hq⟩:=aqH (P:=P) (ty:=ty) (ts:=c.argTypes) (us:=c.args.map e) hT hR hq (alE hr0) (vP hr1) (by rw[<-Array.getElem?_toList,ht];rfl) (by rw[<-Array.getElem?_toList,ht];rfl) (by simpa using hu0) (by simpa using hu1);refine⟨v,h',u,w',ρ',.inl ?_,h2,h3,h4,h5,h6,h7,hq⟩;obtain⟨cs,hcs⟩:=fV (e:=e) hb ty P w;simp only[execOp,Sem.run_bind,hcs,Result.andThen_ok,invoke];show(builtin .append c.argTypes ty cs (c.args.map e)).run P w=_;have:(builtin .append c.argTypes ty cs (c.args.map e)).run P w=(do pure (Next.value (<-Builtin.append_ c.argTypes ty (c.args.map e))):Sem Next).run P w:=rfl;rw[this];simp[h1]
   ·exact hq.elim
  ·rename_i hb
   have hl:dQ ρ (c.args.toList.map ev) (c.args.map e).toList:=by simpa using mD he c.args.toList
   split at hq
   ·rename_i t r x y r' ht hx
    rw[hx]at hl;obtain⟨u0,hu0,hr0⟩:=hl.get 0 x rfl;obtain⟨u1,hu1,hr1⟩:=hl.get 1 y rfl;obtain⟨w',h',h1,h2,h3,h4,h5⟩:=ab5 (P:=P) (ty:=ty) (ts:=c.argTypes) (us:=c.args.map e) hT hR hq hr0 hr1 (by rw[<-Array.getElem?_toList,ht];rfl) (by simpa using hu0) (by simpa using hu1);refine⟨_,h',.tuple #[],w',ρ,.inl ?_,λ_ _=>rfl,Ren.le_refl _,by omega,h2,by simp only[bF];exact⟨_,rfl,.nil⟩,h4,h5⟩;obtain⟨cs,hcs⟩:=fV (e:=e) hb ty P w;simp only[execOp,Sem.run_bind,hcs,Result.andThen_ok,invoke];show(builtin .delete c.argTypes ty cs (c.args.map e)).run P w=_;have:(builtin .delete c.argTypes ty cs (c.args.map e)).run P w=(do pure (Next.value (<-Builtin.delete_ c.argTypes ty (c.args.map e))):Sem Next).run P w:=rfl;rw[this];simp[h1]
   ·exact hq.elim
  ·rename_i hb
   have hl:dQ ρ (c.args.toList.map ev) (c.args.map e).toList:=by simpa using mD he c.args.toList
   split at hq
   ·rename_i t r i r' ht hx
    split at hq
    ·rename_i v hv
     rw[hx]at hl;obtain⟨u0,hu0,hr0⟩:=hl.get 0 _ rfl;obtain⟨u,h1,h2⟩:=alH (P:=P) (ty:=ty) (ts:=c.argTypes) (us:=c.args.map e) hT hR hv hr0 (by rw[<-Array.getElem?_toList,ht];rfl) (by simpa using hu0);refine⟨v,h,u,w,ρ,.inl ?_,λ_ _=>rfl,Ren.le_refl _,aY _,hR,h2,Keeps.refl _ _,hq⟩;obtain⟨cs,hcs⟩:=fV (e:=e) hb ty P w;simp only[execOp,Sem.run_bind,hcs,Result.andThen_ok,invoke];show(builtin .len c.argTypes ty cs (c.args.map e)).run P w=_;have:(builtin .len c.argTypes ty cs (c.args.map e)).run P w=(do pure (Next.value (<-Builtin.len_ c.argTypes ty (c.args.map e))):Sem Next).run P w:=rfl;rw[this];simp[h1]
    ·exact hq.elim
   ·exact nn hq
  ·rename_i hb
   have hl:dQ ρ (c.args.toList.map ev) (c.args.map e).toList:=by simpa using mD he c.args.toList
   split at hq
   ·rename_i t r x y r' ht hx
    rw[hx]at hl;obtain⟨u0,hu0,hr0⟩:=hl.get 0 x rfl;obtain⟨u1,hu1,hr1⟩:=hl.get 1 y rfl;obtain⟨v,h',⟨u,w',ρ',h1,h2,h3,h4,h5,h6,h7⟩,hq⟩:=alK (P:=P) (ty:=ty) (ts:=c.argTypes) (us:=c.args.map e) hT hR hq (vP hr0) (vP hr1) (by rw[<-Array.getElem?_toList,ht];rfl) (by simpa using hu0) (by simpa using hu1);refine⟨v,h',u,w',ρ',.inl ?_,h2,h3,h4,h5,h6,h7,hq⟩;obtain⟨cs,hcs⟩:=fV (e:=e) hb ty P w;simp only[execOp,Sem.run_bind,hcs,Result.andThen_ok,invoke];show(builtin .copy c.argTypes ty cs (c.args.map e)).run P w=_;have:(builtin .copy c.argTypes ty cs (c.args.map e)).run P w=(do pure (Next.value (<-Builtin.copy_ c.argTypes ty (c.args.map e))):Sem Next).run P w:=rfl;rw[this];simp[h1]
   ·exact hq.elim
  ·rename_i hb
   have hl:dQ ρ (c.args.toList.map ev) (c.args.map e).toList:=by simpa using mD he c.args.toList
   split at hq
   ·rename_i t r x r' ht hx
    rw[hx]at hl;obtain⟨u0,hu0,hr0⟩:=hl.get 0 x rfl;obtain⟨v,h',⟨u,w',ρ',h1,h2,h3,h4,h5,h6,h7⟩,hq⟩:=afO (P:=P) (ty:=ty) (ts:=c.argTypes) (us:=c.args.map e) hT hR hq (vP hr0) (by rw[<-Array.getElem?_toList,ht];rfl) (by simpa using hu0);refine⟨v,h',u,w',ρ',.inl ?_,h2,h3,h4,h5,h6,h7,hq⟩;obtain⟨cs,hcs⟩:=fV (e:=e) hb ty P w;simp only[execOp,Sem.run_bind,hcs,Result.andThen_ok,invoke];show(builtin .clear c.argTypes ty cs (c.args.map e)).run P w=_;have:(builtin .clear c.argTypes ty cs (c.args.map e)).run P w=(do pure (Next.value (<-Builtin.clear_ c.argTypes ty (c.args.map e))):Sem Next).run P w:=rfl;rw[this];simp[h1]
   ·exact hq.elim
  ·exact both _ hq
  ·exact hq.elim
theorem qY{k:IntKind}{z:Int}{Q:AV->Prop}(h:arith k z Q): ∃v,Q v/\arith k z (λr=>r=v):=by
 cases k<;>first|exact⟨_,h,rfl⟩|exact⟨_,h.2,h.1,rfl⟩
theorem alP{op:BinOp}{k k':IntKind}{a b:Int}{Q:AV->Prop}(h:ati op k a k' b Q): ∃v,Q v/\ati op k a k' b (λr=>r=v):=by
 by_cases hk:k=k'
 ·subst hk
  cases op<;>simp only[ati]at h ⊢
  case shl=>exact⟨_,h.2,h.1,rfl⟩
  case shr=>exact⟨_,h.2,h.1,rfl⟩
  case add=>simp only[if_true]at h ⊢;exact qY h
  case sub=>simp only[if_true]at h ⊢;exact qY h
  case mul=>simp only[if_true]at h ⊢;exact qY h
  case quo=>simp only[if_true]at h ⊢;obtain⟨v,h1,h2⟩:=qY h.2;exact⟨v,h1,h.1,h2⟩
  case rem=>simp only[if_true]at h ⊢;exact⟨_,h.2,h.1,rfl⟩
  all_goals
   simp only[if_true,aeR]at h ⊢
  all_goals exact⟨_,h,rfl⟩
 ·cases op<;>simp only[ati]at h ⊢
  case shl=>exact⟨_,h.2,h.1,rfl⟩
  case shr=>exact⟨_,h.2,h.1,rfl⟩
  all_goals
   simp only[if_neg hk]at h
theorem alQ{op:BinOp}{a b:ByteArray}{Q:AV->Prop}(h:atY op a b Q): ∃v,Q v/\atY op a b (λr=>r=v):=by
 cases op<;>simp only[atY]at h ⊢
 case add=>exact⟨_,h.2,h.1,rfl⟩
 all_goals
  simp only[alm]at h ⊢
 all_goals exact⟨_,h,rfl⟩
theorem alR{tt:TT}{op:BinOp}{t:TypeId}{x y:AV}{Q:AV->Prop}(h:atj tt op t x y Q): ∃v,Q v/\atj tt op t x y (λr=>r=v):=by
 unfold atj at h ⊢;split at h
 ·exact alP h
 ·split at h
  ·exact alQ h
  ·split at h
   ·exact⟨_,h,rfl⟩
   ·exact h.elim
theorem afU{tt:TT}{s d:TypeId}{x:AV}{Q:AV->Prop}(h:abY tt s d x Q): ∃v,Q v/\abY tt s d x (λr=>r=v):=by
 unfold abY at h ⊢;split at h
 ·split at h
  ·exact qY h
  ·exact⟨_,h,rfl⟩
  ·exact h.elim
 ·exact h.elim
theorem UN{x:Option AV}{d:Nat}{α:Type}{F:(α->Prop)->Nat->Prop}{Q:α->Prop}(hF: ∀k,F Q k-> ∃v,Q v/\F (λr=>r=v) k)(h:vB x d (F Q)): ∃v,Q v/\vB x d (F (λr=>r=v)):=by
 unfold vB at h ⊢;split at h
 ·exact hF _ h
 ·obtain⟨v,h1,h2⟩:=hF _ h.2
  exact⟨v,h1,h.1,h2⟩
 ·exact h.elim
theorem iF{n c:Nat}{lo hi mx:Option AV}{f:Nat->Nat->Nat->AV}{Q:AV->Prop}(h:Cb n c lo hi mx λl h m=>Q (f l h m)): ∃v,Q v/\Cb n c lo hi mx λl h m=>f l h m=v:=by
 unfold Cb at h ⊢;split at h
 ·exact h.elim
 ·exact UN (x:=mx) (d:=c) (Q:=Q) (F:=λQ m=>vB hi n λh=>vB lo 0 λl=>(l<=h/\h<=m/\m<=c)/\Q (f l h m)) (λm h=>UN (F:=λQ h=>vB lo 0 λl=>(l<=h/\h<=m/\m<=c)/\Q (f l h m)) (λh hh=>
   UN (F:=λQ l=>(l<=h/\h<=m/\m<=c)/\Q (f l h m)) (λl hl=>⟨_,hl.2,hl.1,rfl⟩) hh) h) h
theorem aqM{b:Bool}{x y:AV}{Q:AV->Prop}(h:bif b then Q x else Q y): ∃v,Q v/\bif b then x=v else y=v:=by
 cases b with
 |true=>exact⟨_,h,rfl⟩
 |false=>exact⟨_,h,rfl⟩
theorem ZE{α:Type}{b:Bool}{F G:(α->Prop)->Prop}{Q:α->Prop}(hF:F Q-> ∃v,Q v/\F (λr=>r=v))(hG:G Q-> ∃v,Q v/\G (λr=>r=v))(h:bif b then F Q else G Q): ∃v,Q v/\bif b then F (λr=>r=v)else G (λr=>r=v):=by
 cases b with
 |true=>exact hF h
 |false=>exact hG h
theorem acf{tt:TT}{t:TypeId}{x:AV}{lo hi mx:Option AV}{hp:Heap}{Q:AV->Prop}(h:Io tt t x lo hi mx hp Q): ∃v,Q v/\Io tt t x lo hi mx hp (λr=>r=v):=by
 unfold Io at h ⊢;split at h
 ·split at h
  ·split at h
   ·exact iF (f:=λl h _=> .lit (.string (ByteArray.extract _ l h))) h
   ·exact h.elim
  ·split at h
   ·exact ZE (F:=λQ=>alD _ _ _ _ _ _ _ _ Q) (G:=λ_=>False) (λh=>iF h) (λh=>h.elim) h
   ·exact h.elim
  ·rename_i i q m n _
   split at h
   ·rename_i te hte
    cases hb:Nat.beq m te.size with
    |false=>rw[hb]at h;exact h.elim
    |true=>
     rw[hb]at h;simp only[aP]at h ⊢;split at h
     ·exact iF (f:=λl h _=> .slW i (q+l) m (h-l)) h
     ·exact iF h
   ·exact h.elim
  ·rename_i i q m n _
   split at h
   ·rename_i te hte
    cases hb:Nat.beq m te.size with
    |false=>rw[hb]at h;exact h.elim
    |true=>
     rw[hb]at h;simp only[aP]at h ⊢;exact iF (f:=λl h _=> .slR i (q+l) m (h-l)) h
   ·exact h.elim
  ·rename_i i o n c _
   split at h
   ·rename_i te hte
    cases hb:(Nat.beq o 0&&Nat.beq (GU hp i) te.size)with
    |true=>rw[hb]at h;exact iF h
    |false=>
     rw[hb]at h;simp only[aQ]at h ⊢;split at h
     ·exact⟨_,h,rfl⟩
     ·exact h.elim
   ·exact h.elim
  ·rename_i i o n sz _
   split at h
   ·rename_i te hte
    cases hb:(Nat.beq o 0&&Nat.beq (GU hp i) te.size&&Nat.beq sz te.size)with
    |true=>
     rw[hb]at h;simp only[aP]at h ⊢;split at h
     ·exact iF (f:=λl h _=> .slW i l te.size (h-l)) h
     ·exact iF h
    |false=>
     rw[hb]at h;simp only[aQ]at h ⊢;split at h
     ·exact⟨_,h,rfl⟩
     ·exact h.elim
   ·exact h.elim
  ·split at h
   ·exact iF (f:=λl h m=> .lit (.slice none (h-l) (m-l))) h
   ·exact h.elim
  ·rename_i a n c _
   split at h
   ·rename_i te hte
    exact iF (f:=λl h m=> .lit (.slice (some (if m=l then a else a.add (l*te.size))) (h-l) (m-l))) h
   ·exact h.elim
  ·rename_i n _ i o _
   split at h
   ·rename_i te hte
    cases hb:(Nat.beq o 0&&Nat.beq (GU hp i) te.size)with
    |true=>rw[hb]at h;exact iF h
    |false=>
     rw[hb]at h;simp only[aQ]at h ⊢;split at h
     ·exact⟨_,h,rfl⟩
     ·exact h.elim
   ·exact h.elim
  ·split at h
   ·exact ZE (F:=λQ=>alD _ _ _ _ _ _ _ _ Q) (G:=λ_=>False) (λh=>iF h) (λh=>h.elim) h
   ·exact h.elim
  ·split at h
   ·exact⟨_,h,rfl⟩
   ·exact h.elim
 ·exact h.elim
theorem acg{tt:TT}{s:TypeId}{x:AV}{f:Nat}{Q:AV->Prop}(h:Ik tt s x f Q): ∃v,Q v/\Ik tt s x f (λr=>r=v):=by
 unfold Ik at h ⊢;split at h
 ·split at h
  ·exact⟨_,h,rfl⟩
  ·exact h.elim
 ·split at h
  ·exact⟨_,h,rfl⟩
  ·exact h.elim
theorem GV{tt:TT}{t:TypeId}{x ix:AV}{hp:Heap}{Q:AV->Prop}(h:lV tt t x ix hp Q): ∃v,Q v/\lV tt t x ix hp (λr=>r=v):=by
 have two: ∀{p:Prop} {b:Bool} {x y:AV},(p/\bif b then Q x else Q y)-> ∃v,Q v/\p/\bif b then x=v else y=v:=λh=>by
  obtain⟨v,h1,h2⟩:=aqM h.2;exact⟨v,h1,h.1,h2⟩
 unfold lV at h ⊢;split at h
 ·split at h
  ·split at h
   ·exact two h
   ·exact h.elim
  ·split at h
   ·exact⟨_,h.2,h.1,rfl⟩
   ·exact h.elim
  ·split at h
   ·exact two h
   ·exact h.elim
  ·split at h
   ·exact two h
   ·exact h.elim
  ·rename_i e i q m n c hd
   split at h
   ·rename_i te hte
    cases hb:Nat.beq m te.size with
    |true=>rw[hb]at h;exact⟨_,h.2,h.1,rfl⟩
    |false=>rw[hb]at h;exact h.elim
   ·exact h.elim
  ·rename_i e i q m n hd
   split at h
   ·rename_i te hte
    cases hb:Nat.beq m te.size with
    |true=>rw[hb]at h;exact⟨_,h.2,h.1,rfl⟩
    |false=>rw[hb]at h;exact h.elim
   ·exact h.elim
  ·rename_i e i q m n hd
   split at h
   ·rename_i te hte
    cases hb:Nat.beq m te.size with
    |true=>rw[hb]at h;exact⟨_,h.2,h.1,rfl⟩
    |false=>rw[hb]at h;exact h.elim
   ·exact h.elim
  ·exact h.elim
 ·exact h.elim
theorem zu{d:TD}{l:List Value}{Q:AV->Prop}(h:xO d l Q): ∃v,Q v/\xO d l (λr=>r=v):=by
 unfold xO at h ⊢;split at h
 ·obtain⟨b,h1,h2⟩:=h;exact⟨_,h2,b,h1,rfl⟩
 ·obtain⟨b,h1,h2⟩:=h;exact⟨_,h2,b,h1,rfl⟩
 ·split at h
  ·exact⟨_,h,rfl⟩
  ·exact h.elim
theorem UO{tt:TT}{t:TypeId}{x:AV}{f:Nat}{Q:AV->Prop}(h:zl tt t x f Q): ∃v,Q v/\zl tt t x f (λr=>r=v):=by
 unfold zl at h ⊢;split at h
 ·split at h
  ·split at h
   ·split at h
    ·rename_i off ft b2 hf
     split at h
     ·rename_i tf htf
      cases hb:Nat.ble (off+tf.size) _ with
      |false=>rw[hb]at h;exact h.elim
      |true=>
       rw[hb]at h;simp only[aP]at h ⊢;cases hagg:tf.agg with
       |true=>rw[hagg]at h;exact⟨_,h,rfl⟩
       |false=>
        rw[hagg]at h;simp only[aQ]at h ⊢;cases hs:Nat.beq tf.size 1 with
        |false=>rw[hs]at h;exact h.elim
        |true=>rw[hs]at h;exact zu h
     ·exact h.elim
    ·exact h.elim
   ·exact h.elim
  ·exact h.elim
 ·split at h
  ·exact⟨_,h,rfl⟩
  ·exact h.elim
theorem ach{tt:TT}{t:TypeId}{x ix:AV}{Q:AV->Prop}(h:Il tt t x ix Q): ∃v,Q v/\Il tt t x ix (λr=>r=v):=by
 unfold Il at h ⊢;split at h
 ·split at h
  ·exact⟨_,h.2,h.1,rfl⟩
  ·split at h
   ·rename_i te hte
    cases hb:(!te.agg&&Nat.beq te.size 1)with
    |false=>rw[hb]at h;exact h.elim
    |true=>
     rw[hb]at h;simp only[aP]at h ⊢;obtain⟨hk,hk',h⟩:=h;obtain⟨v,h1,h2⟩:=zu h;exact⟨v,h1,hk,hk',h2⟩
   ·exact h.elim
  ·split at h
   ·obtain⟨hk,h⟩:=h
    split at h
    ·exact⟨_,h,hk,rfl⟩
    ·exact h.elim
   ·exact h.elim
  ·exact h.elim
 ·exact h.elim
theorem apg{tt:TT}{op:Op}{ev:Operand->AV}{h:Heap}{Q:AV->Prop}(hq:vN tt op ev h Q): ∃v,Q v/\vN tt op ev h (λr=>r=v):=by
 cases op
 case pick c a b=>
  simp only[vN]at hq ⊢;split at hq
  ·rename_i t ht
   rcases jE hq with ⟨rfl,hq⟩|⟨rfl,hq⟩
   ·exact⟨_,hq,rfl⟩
   ·exact⟨_,hq,rfl⟩
  ·exact hq.elim
 case binOp=>exact alR hq
 case convert=>exact afU hq
 case slice=>exact acf hq
 case fieldAddr=>exact acg hq
 case indexAddr=>exact GV hq
 case index=>exact ach hq
 case field=>exact UO hq
 all_goals
  simp only[vN]at hq ⊢;split at hq
  ·exact⟨_,hq,rfl⟩
  ·exact hq.elim
theorem D5{α:Type}{g:Nat->List Value}{k:Nat}{F:(α->Prop)->List Value->Prop}{Q:α->Prop}(hF: ∀l,F Q l-> ∃v,Q v/\F (λr=>r=v) l): ∀{wr:List (Nat×List Value)},DL g wr k (F Q)-> ∃v,Q v/\DL g wr k (F (λr=>r=v))
 |[],h=>hF _ h
 |(q,c)::r,h=>by
  simp only[DL]at h ⊢;cases hb:Nat.beq k q with
  |true=>rw[hb]at h;exact hF _ h
  |false=>rw[hb]at h;exact D5 hF (wr:=r) h
theorem Pn{ti:TI}{m n k j:Nat}{g:Nat->List Value}{wr:List (Nat×List Value)}{Q:AV->Prop}(hq:uM ti m n g wr k j Q): ∃v,Q v/\uM ti m n g wr k j (λr=>r=v):=by
 unfold uM at hq ⊢;cases hs:Nat.ble (j+ti.size) m with
 |false=>rw[hs]at hq;exact hq.elim
 |true=>
  rw[hs]at hq;simp only[aP]at hq ⊢;obtain⟨hk,hq⟩:=hq
  have:=D5 (F:=λQ l=>bif ti.agg then(bif Nat.ble (j+ti.size) l.length then Q (AV.agg (((l.drop j).take ti.size).map .lit))else False)else(match l[j]? with
   |some v=>bif Nat.beq ti.size 1 then Q (.lit v)else False
   |none=>False)) (Q:=Q) (λl hl=>by
    cases hagg:ti.agg with
    |true=>
     rw[hagg]at hl;simp only[aP]at hl ⊢;cases hle:Nat.ble (j+ti.size) l.length with
     |true=>rw[hle]at hl;exact⟨_,hl,rfl⟩
     |false=>rw[hle]at hl;exact hl.elim
    |false=>
     rw[hagg]at hl;simp only[aQ]at hl ⊢;cases hv:l[j]? with
     |none=>rw[hv]at hl;exact hl.elim
     |some v=>
      rw[hv]at hl;simp only at hl ⊢;cases h1:Nat.beq ti.size 1 with
      |true=>rw[h1]at hl;exact⟨_,hl,rfl⟩
      |false=>rw[h1]at hl;exact hl.elim) hq
  obtain⟨v,h1,h2⟩:=this;exact⟨v,h1,hk,h2⟩
theorem Po{tt:TT}{t:TypeId}{a:AV}{h:Heap}{Q:AV->Prop}(hq:Uu tt t a h Q): ∃v,Q v/\Uu tt t a h (λr=>r=v):=by
 unfold Uu at hq ⊢;split at hq
 ·rename_i i k m j
  split at hq
  ·rename_i ti ob hti hi
   split at hq
   ·rename_i c hc
    split at hq
    ·rename_i o m' n g wr hr
     cases hb:Nat.beq m m'&&Nat.ble o j with
     |false=>
      rw[hb]at hq;simp only[aQ]at hq ⊢;cases hb2:Nat.beq m' 1&&Nat.beq o 0 with
      |false=>rw[hb2]at hq;exact hq.elim
      |true=>
       rw[hb2]at hq;simp only[aP]at hq ⊢;unfold xP at hq ⊢;cases hb3:ti.agg&&Nat.blt 8 ti.size with
       |true=>rw[hb3]at hq;exact⟨_,hq.2,hq.1,rfl⟩
       |false=>
        rw[hb3]at hq;simp only[aQ]at hq ⊢;cases hb4:(!ti.agg&&Nat.beq ti.size 1)with
        |false=>rw[hb4]at hq;exact hq.elim
        |true=>
         rw[hb4]at hq;obtain⟨hp,hq⟩:=hq;obtain⟨v,h1,h2⟩:=D5 (F:=λQ l=>xO ti.desc l Q) (λl hl=>zu hl) hq;exact⟨v,h1,hp,h2⟩
     |true=>
      rw[hb]at hq;exact Pn hq
    ·exact hq.elim
   ·exact hq.elim
  ·exact hq.elim
 ·split at hq
  ·exact⟨_,hq,rfl⟩
  ·split at hq
   ·exact⟨_,hq,rfl⟩
   ·exact hq.elim
 ·split at hq
  ·exact⟨_,hq,rfl⟩
  ·exact hq.elim
theorem map_congr{ev ev':Operand->AV}: ∀{l:List Operand},(∀x∈l,ev x=ev' x)->l.map ev=l.map ev':=λh=>List.map_congr_left h
theorem lW{ev ev':Operand->AV}{o:Option Operand}(h: ∀x∈o,ev x=ev' x):alf ev o=alf ev' o:=by
 cases o with
 |none=>rfl
 |some x=>simp only[alf];rw[h x rfl]
theorem afV{tt:TT}{op:Op}{ev ev':Operand->AV}(h: ∀x∈op.operands,ev x=ev' x):opN tt op ev=opN tt op ev':=by
 cases op<;>simp only[opN]<;>simp[Op.operands]at h
 case move x=>rw[h]
 case assign x=>rw[h]
 case pick c a b=>rw[h.1,h.2.1,h.2.2]
 case nilCheck x=>rw[h]
 case binOp o t x y yt=>rw[h.1,h.2]
 case unOp o t x=>rw[h]
 case convert s d x=>rw[h]
 case makeFunc f a b=>rw[map_congr λx hx=>h x (.inl (by simpa using hx)),map_congr λx hx=>h x (.inr (by simpa using hx))]
 case slice t x lo hi mx=>
  rw[h.1,lW λy hy=>h.2 y (.inl hy),lW (o:=hi) λy hy=>h.2 y (.inr (.inl hy)),lW (o:=mx) λy hy=>h.2 y (.inr (.inr hy))]
 case fieldAddr s x f=>rw[h]
 case field s x f=>rw[h]
 case indexAddr t x i=>rw[h.1,h.2]
 case index t x i=>rw[h.1,h.2]
 case extract x i=>rw[h]
 case build t ps=>
  have:(ps.toList.map λp=>(p.1,ev p.2))=ps.toList.map λp=>(p.1,ev' p.2):=List.map_congr_left λp hp=>by rw[h p.2 p.1 (by simpa using hp)]
  rw[this]
 case call c=>
  have:c.args.toList.map ev=c.args.toList.map ev':=map_congr λx hx=>h x (by simp[Call.operands];exact .inr (by simpa using hx))
  rw[this]
theorem ZF{tt:TT}{op:Op}{ev ev':Operand->AV}{hp:Heap}{Q:AV->Prop}(h: ∀x∈op.operands,ev x=ev' x):vN tt op ev hp Q=vN tt op ev' hp Q:=by
 have:=afV (tt:=tt) h;cases op<;>simp only[vN]<;>simp[Op.operands]at h<;>try rw[this]
 case pick c a b=>rw[h.1,h.2.1,h.2.2]
 case binOp o t x y yt=>rw[h.1,h.2]
 case convert s d x=>rw[h]
 case slice t x lo hi mx=>
  rw[h.1,lW λy hy=>h.2 y (.inl hy),lW (o:=hi) λy hy=>h.2 y (.inr (.inl hy)),lW (o:=mx) λy hy=>h.2 y (.inr (.inr hy))]
 case fieldAddr s x f=>rw[h]
 case indexAddr t x i=>rw[h.1,h.2]
 case index t x i=>rw[h.1,h.2]
 case field t x f=>rw[h]
theorem afW{tt:TT}{op:Op}{ev ev':Operand->AV}{hp:Heap}(h: ∀x∈op.operands,ev x=ev' x):opX false tt op ev hp=opX false tt op ev' hp:=by
 cases op<;>simp only[opX]<;>simp[Op.operands]at h
 case box e x=>rw[h]
 case store t a x=>rw[h.1,h.2]
 case makeSlice t l c=>rw[h.1,h.2]
 case buildSlice t n ps=>
  have:(ps.toList.map λp=>(p.1,ev p.2))=ps.toList.map λp=>(p.1,ev' p.2):=List.map_congr_left λp hp=>by rw[h p.2 p.1 (by simpa using hp)]
  rw[this]
 case call c=>
  have:c.args.toList.map ev=c.args.toList.map ev':=map_congr λx hx=>h x (by simp[Call.operands];exact .inr (by simpa using hx))
  rw[this]
theorem alS{tt:TT}{op:Op}{ev ev':Operand->AV}{hp:Heap}{Q:AV->Heap->Prop}(h: ∀x∈op.operands,ev x=ev' x):vX tt op ev hp Q=vX tt op ev' hp Q:=by
 have e1:=λ(Q:AV->Prop)=>ZF (tt:=tt) (hp:=hp) (Q:=Q) h
 have e2:=afW (tt:=tt) (hp:=hp) h;cases op<;>simp only[vX]<;>try rw[e1,e2]
 case load t x=>simp[Op.operands]at h;rw[h]
 case store t a x=>simp[Op.operands]at h;rw[h.1,h.2]
 case box e x=>simp[Op.operands]at h;rw[h]
 case convert s d x=>rw[e1];simp[Op.operands]at h;rw[h]
 case buildSlice t n ps=>
  have:(ps.toList.map λp=>(p.1,ev p.2))=ps.toList.map λp=>(p.1,ev' p.2):=List.map_congr_left λp hp=>by rw[h p.2 (by simp[Op.operands];exact⟨p.1,by simpa using hp⟩)]
  rw[this]
 case makeSlice t l c=>simp[Op.operands]at h;rw[h.1,h.2]
 case insert t m k x=>simp[Op.operands]at h;rw[h.1,h.2.1,h.2.2]
 case mapUpdate t m k x=>simp[Op.operands]at h;rw[h.1,h.2.1,h.2.2]
 case lookup t m k ok=>simp[Op.operands]at h;rw[h.1,h.2]
 case range t x=>simp[Op.operands]at h;rw[h]
 case next it st=>simp[Op.operands]at h;rw[h]
 case entry it=>simp[Op.operands]at h;rw[h]
 case call c=>
  have:c.args.toList.map ev=c.args.toList.map ev':=map_congr λx hx=>h x (by simp[Op.operands,Call.operands];exact .inr (by simpa using hx))
  rw[this]
  first|done|(split<;>first|rfl|rw[e1,e2])
def vS(op:Op):List Nat:=op.operands.toList.filterMap λx=>match x with
 | .tmp t=>some t
 |_=>none
def D6(ops:Array Oper)(o:Oper):List Nat:=match o.guard with
 |some (j,_)=>match ops[j]? with
  |some oj=>oj.dst.toList
  |none=>[]
 |none=>[]
def iR(ops:Array Oper)(o:Oper):List Nat:=D6 ops o++vS o.op
def slotsOf(ops:Array Oper)(i:Nat):List Nat:=match ops[i]? with
 |some o=>iR ops o
 |none=>[]
def iT(ops:Array Oper)(i:Nat):Option Nat:=match ops[i]? with
 |some o=>o.dst
 |none=>none
def DS(ops:Array Oper)(l:List Nat):List Nat:=l.filterMap (iT ops)
def jS(ops:Array Oper)(q j:Nat):Bool:=match ops[q]? with
 |some o=>o.after.toList.any λe=>Region.binds .any e&&Nat.beq e.on j
 |none=>false
def aqN(ops:Array Oper)(i:Nat):Nat->List Nat->List Nat
 |0,m=>m
 |j+1,m=>aqN ops i j (bif jS ops i j||m.any (λq=>jS ops q j)then j::m else m)
def anc(ops:Array Oper)(i:Nat):List Nat:=aqN ops i ops.size []
def Closed(ops:Array Oper)(s:Array Bool):Prop:= ∀i j,s.getD i false=true->jS ops i j=true->s.getD j false=true
theorem JZ{ops:Array Oper}{s:Array Bool}(hc:Closed ops s){i:Nat}(hi: ∀j,jS ops i j=true->s.getD j false=true): ∀(n:Nat) (m:List Nat),(∀q∈m,s.getD q false=true)-> ∀q∈aqN ops i n m,s.getD q false=true
 |0,m,hm=>hm
 |j+1,m,hm=>by
  refine JZ hc hi j _ λq hq=> ?_
  cases hb:(jS ops i j||m.any (λq=>jS ops q j))with
  |false=>rw[hb]at hq;exact hm q hq
  |true=>
   rw[hb]at hq;rcases List.mem_cons.1 hq with rfl|hq
   ·simp only[Bool.or_eq_true,List.any_eq_true]at hb
    rcases hb with hb|⟨x,hx,hb⟩
    ·exact hi _ hb
    ·exact hc x _ (hm x hx) hb
   ·exact hm q hq
theorem aph{ops:Array Oper}{s:Array Bool}(hc:Closed ops s){i:Nat}(hi:i∈Region.ready .any ops s): ∀q∈anc ops i,s.getD q false=true:=by
 refine JZ hc (λj hj=> ?_) _ _ (λq hq=>by cases hq);obtain⟨_,o,ho,hall⟩:=mem_ready.1 hi;simp only[jS,ho,List.any_eq_true,aJ]at hj;obtain⟨e,he,hb,hj⟩:=hj;have:=hall e (by simpa using he) hb;rwa [au hj]at this
theorem uO{ops:Array Oper}{s:Array Bool}(hc:Closed ops s){i:Nat}(hi:i∈Region.ready .any ops s):Closed ops (s.setIfInBounds i true):=by
 intro q j hq hj;by_cases hqi:i=q
 ·subst hqi
  obtain⟨_,o,ho,hall⟩:=mem_ready.1 hi;simp only[jS,ho,List.any_eq_true,aJ]at hj;obtain⟨e,he,hb,hj⟩:=hj;have:=hall e (by simpa using he) hb;rw[au hj]at this;exact getD_set_true this
 ·rw[getD_set_ne false hqi]at hq
  exact getD_set_true (hc q j hq hj)
def D7:Fr->List Nat->Fr
 |fr,[]=>fr
 |fr,d::l=>D7 (fr.set d none) l
theorem gu: ∀(l:List Nat) (fr:Fr) (t:Nat),look (D7 fr l) t=if t∈l then .any else look fr t
 |[],fr,t=>by simp[D7]
 |d::l,fr,t=>by
  simp only[D7];rw[gu l];by_cases h1:t∈l
  ·simp[h1]
  ·by_cases h2:t=d
   ·subst h2;simp[h1,look,PM.dR]
   ·simp[h1,h2,look,PM.dR]
theorem alT{fr:Fr}{l:List Nat}{op:Op}(h: ∀t∈vS op,t ∉ l): ∀x∈op.operands,evA fr x=evA (D7 fr l) x:=by
 intro x hx;cases x with
 |tmp t=>
  have:t∈vS op:=by simp only[vS,List.mem_filterMap];exact⟨.tmp t,by simpa using hx,rfl⟩
  simp only[evA,gu,if_neg (h t this)]
 |const v=>rfl
 |global g=>rfl
 |func f=>rfl
def Pq(fr:Fr):List Nat->Fr
 |[]=> .leaf
 |t::S=>(Pq fr S).set t (some (look fr t))
theorem xZ(fr:Fr): ∀(S:List Nat) (t:Nat),look (Pq fr S) t=if t∈S then look fr t else .any
 |[],t=>by simp[Pq,look,PM.uD]
 |s::S,t=>by
  have ih:=xZ fr S t;have:look (Pq fr (s::S)) t=if t=s then look fr s else look (Pq fr S) t:=by
   simp only[Pq,look,PM.dR];by_cases h:t=s
   ·simp[h]
   ·simp[h]
  rw[this,ih];by_cases h:t=s
  ·simp[h]
  ·simp[h]
structure iD (ρ:Ren) (n:Nat) (fr:Fr) (a:Act) (S:List Nat):Prop where
 size:a.tmps.size=n
 defers:a.defers=[]
 vals: ∀t∈S,bF ρ (look fr t) (a.tmps.getD t undef)
theorem iD.keep{ρ:Ren}{n:Nat}{fr:Fr}{a:Act}{S:List Nat}(h:iD ρ n fr a S):oC ρ n (Pq fr S) a:=⟨h.size,h.defers,λt=>by
 rw[xZ];by_cases ht:t∈S
 ·rw[if_pos ht];exact h.vals t ht
 ·rw[if_neg ht];simp only[bF]⟩
theorem iD.UQ{ρ:Ren}{n:Nat}{fr:Fr}{a:Act}{l S:List Nat}(h:oC ρ n (D7 fr l) a)(hl: ∀t∈S,t ∉ l):iD ρ n fr a S:=⟨h.size,h.defers,λt ht=>by
 have:=h.vals t;rw[gu,if_neg (hl t ht)]at this
 exact this⟩
theorem iD.sub{ρ:Ren}{n:Nat}{fr fr':Fr}{a:Act}{S S':List Nat}(h:iD ρ n fr a S)(hs: ∀t∈S',t∈S)(hl: ∀t∈S',look fr' t=look fr t):iD ρ n fr' a S':=⟨h.size,h.defers,λt ht=>by rw[hl t ht];exact h.vals t (hs t ht)⟩
theorem ZG{fr:Fr}{S:List Nat}{op:Op}(h: ∀t∈vS op,t∈S): ∀x∈op.operands,evA fr x=evA (Pq fr S) x:=by
 intro x hx;cases x with
 |tmp t=>
  have:t∈vS op:=by simp only[vS,List.mem_filterMap];exact⟨.tmp t,by simpa using hx,rfl⟩
  simp only[evA,xZ,if_pos (h t this)]
 |const v=>rfl
 |global g=>rfl
 |func f=>rfl
def Pv(ops:Array Oper)(o:Oper)(fr:Fr)(yes no:Fr->Prop):Prop:=match o.guard with
 |none=>yes fr
 |some (j,want)=>match ops[j]? with
  |some oj=>match oj.dst with
   |some d=>match look fr d with
    | .lit (.bool b)=>cP b (bif want then yes (GL fr (some d) (.lit (.bool true)))else no (GL fr (some d) (.lit (.bool true)))) (bif want then no (GL fr (some d) (.lit (.bool false)))else yes (GL fr (some d) (.lit (.bool false))))
    | .lit (.tuple _)=>no fr
    |_=>False
   |none=>False
  |none=>False
def Same(fr fr':Fr):Prop:= ∀t,look fr' t=look fr t
theorem Same.put{fr:Fr}{d:Nat}{v:AV}(h:look fr d=v):Same fr (GL fr (some d) v):=λt=>by
 rw[jP];by_cases ht:t=d
 ·rw[if_pos ht,ht,h]
 ·rw[if_neg ht]
theorem D8{ops:Array Oper}{o:Oper}{fr:Fr}{yes no:Fr->Prop}(h:Pv ops o fr yes no):
  (∃fr',Same fr fr'/\yes fr'/\ ∀ρ n a,iD ρ n fr a (D6 ops o)->Region.wanted o (yielded ops a.tmps)=true)\/
  (∃fr',Same fr fr'/\no fr'/\ ∀ρ n a,iD ρ n fr a (D6 ops o)->Region.wanted o (yielded ops a.tmps)=false):=by
 unfold Pv at h;have wnt: ∀{b:Bool},qR ops o fr=some b-> ∀ρ n a,iD ρ n fr a (D6 ops o)->Region.wanted o (yielded ops a.tmps)=b:=by
  intro b hb ρ n a hs;refine abR hs.keep ?_;unfold qR at hb ⊢;split at hb
  ·rename_i hg;try simp only[hg]
   exact hb
  ·rename_i j want hg
   try simp only[hg]
   split at hb
   ·rename_i oj hoj
    try simp only[hoj]
    split at hb
    ·rename_i d hd
     try simp only[hd]
     rw[xZ,if_pos (by simp[D6,hg,hoj,hd])];exact hb
    ·cases hb
   ·cases hb
 split at h
 ·rename_i hg
  exact .inl ⟨fr,λ_=>rfl,h,wnt (by simp[qR,hg])⟩
 ·rename_i j want hg
  split at h
  ·rename_i oj hoj
   split at h
   ·rename_i d hd
    split at h
    ·rename_i b hb
     have hw:qR ops o fr=some (b==want):=by simp[qR,hg,hoj,hd,hb]
     rcases jE h with ⟨rfl,h⟩|⟨rfl,h⟩
     ·cases want with
      |true=>exact .inl ⟨_,Same.put hb,h,wnt (by simpa using hw)⟩
      |false=>exact .inr ⟨_,Same.put hb,h,wnt (by simpa using hw)⟩
     ·cases want with
      |true=>exact .inr ⟨_,Same.put hb,h,wnt (by simpa using hw)⟩
      |false=>exact .inl ⟨_,Same.put hb,h,wnt (by simpa using hw)⟩
    ·rename_i x hx
     exact .inr ⟨fr,λ_=>rfl,h,wnt (by simp[qR,hg,hoj,hd,hx])⟩
    ·exact h.elim
   ·exact h.elim
  ·exact h.elim
def isLoad:Op->Bool
 | .load .. =>true
 |_=>false
def GX(tt:TT)(op:Op)(ev:Operand->AV)(h:Heap)(Q:AV->Prop):Prop:=match op with
 | .load t x=>Uu tt t (ev x) h Q
 |op=>bif isN op then vN tt op ev h Q else False
def afX(tt:TT)(n:Nat)(ops:Array Oper)(i:Nat)(fr:Fr)(h:Heap)(Q:Fr->Prop):Prop:=match ops[i]? with
 |some o=>bif OW n o.dst then Pv ops o fr (λfr1=>GX tt o.op (evA fr1) h λv=>Q (GL fr1 o.dst v)) (λfr1=>Q (GL fr1 o.dst (.lit undef)))else False
 |none=>False
section
variable{P:Program}{tt:TT}{n:Nat}{ops:Array Oper}
def zx(P:Program)(n:Nat)(ops:Array Oper)(i:Nat)(fr:Fr)(h:Heap):Prop:= ∃o,ops[i]? =some o/\OW n o.dst=true/\
 ∀ρ T w a,(isLoad o.op=true->Rel h ρ T w)->iD ρ n fr a (iR ops o)-> ∃u,YieldsAt P ops w o u a/\ ∀d,o.dst=some d->bF ρ (look fr d) u
theorem ZH(hT:tt.ok P){o:Oper}{ev:Operand->AV}{h:Heap}{Q:AV->Prop}(hq:GX tt o.op ev h Q): ∃v,Q v/\ ∀ρ T w e,(isLoad o.op=true->Rel h ρ T w)->(∀x,bF ρ (ev x) (e x))-> ∃u,(execOp e o).run P w= .ok (.value u) w/\bF ρ v u:=by
 obtain⟨dst,op,ty,pos,after,guard⟩:=o;have nn: ∀b:Bool,(bif b then vN tt op ev h Q else False)-> ∃v,Q v/\ ∀(ρ:Ren) (T:Nat->Prop) (w:World) (e:Operand->Value),(isLoad op=true->Rel h ρ T w)->(∀x,bF ρ (ev x) (e x))-> ∃u,(execOp e ⟨dst,op,ty,pos,after,guard⟩).run P w= .ok (.value u) w/\bF ρ v u:=λb hq=>by
  cases b with
  |false=>exact hq.elim
  |true=>
   obtain⟨v,h1,h2⟩:=apg hq;refine⟨v,h1,λρ T w e _ he=> ?_⟩;obtain⟨v',u,h3,h4,rfl⟩:=atZ (P:=P) (o:=⟨dst,op,ty,pos,after,guard⟩) hT he h2;exact⟨u,h3 w,h4⟩
 cases op<;>simp only[GX]at hq<;>try exact nn _ hq
 case load t x=>
  obtain⟨v,h1,h2⟩:=Po hq;refine⟨v,h1,λρ T w e hR he=> ?_⟩;obtain⟨v',⟨u,h3,h4⟩,rfl⟩:=Zx (P:=P) hT (hR rfl) h2 (he x);exact⟨u,by simp only[execOp];exact nP h3,h4⟩
theorem afY{op:Op}{ev:Operand->AV}{h:Heap}{Q:AV->Prop}(hq:GX tt op ev h Q): ∃v,Q v/\GX tt op ev h (λr=>r=v):=by
 have nn: ∀b:Bool,(bif b then vN tt op ev h Q else False)-> ∃v,Q v/\(bif b then vN tt op ev h (λr=>r=v)else False):=λb hq=>by
  cases b with
  |false=>exact hq.elim
  |true=>exact apg hq
 cases op
 case load t x=>exact Po hq
 all_goals
  simp only[GX]at hq ⊢;exact nn _ hq
theorem D9{op:Op}{ev ev':Operand->AV}{h:Heap}{Q:AV->Prop}(he: ∀x∈op.operands,ev x=ev' x):GX tt op ev h Q=GX tt op ev' h Q:=by
 have:=ZF (tt:=tt) (hp:=h) (Q:=Q) he;cases op<;>simp only[GX]<;>try rw[this]
 case load t x=>simp[Op.operands]at he;rw[he]
theorem afZ(hT:tt.ok P){i:Nat}{fr:Fr}{h:Heap}{Q:Fr->Prop}(hs: ∀o d,ops[i]? =some o->o.dst=some d->d ∉ iR ops o)(hq:afX tt n ops i fr h Q):
  ∃o fr',ops[i]? =some o/\Q fr'/\(∀t,(∀d,o.dst=some d->t≠d)->look fr' t=look fr t)/\zx P n ops i fr' h:=by
 unfold afX at hq;split at hq
 ·rename_i o ho
  cases hd:OW n o.dst with
  |false=>rw[hd]at hq;exact hq.elim
  |true=>
   rw[hd]at hq;simp only[aP]at hq;have agree: ∀{fr1:Fr} {v:AV},Same fr fr1-> ∀t,(∀d,o.dst=some d->t≠d)->look (GL fr1 o.dst v) t=look fr t:=λ{fr1 v} hsame t ht=>by
    cases hod:o.dst with
    |none=>simp only[GL];exact hsame t
    |some d=>rw[jP,if_neg (ht d hod)];exact hsame t
   have back: ∀{fr1:Fr} {v:AV} {ρ:Ren} {a:Act},Same fr fr1->iD ρ n (GL fr1 o.dst v) a (iR ops o)->iD ρ n fr a (iR ops o):=λ{fr1 v ρ a} hsame hf=>
    hf.sub (λt ht=>ht) λt ht=>(agree hsame t λd hod hh=>hs o d ho hod (by rw[<-hh];exact ht)).symm
   have gd: ∀{fr':Fr} {ρ:Ren} {a:Act},iD ρ n fr' a (iR ops o)->iD ρ n fr' a (D6 ops o):=λhf=>hf.sub (λt ht=>by simp[iR,ht]) λt _=>rfl
   rcases D8 hq with ⟨fr1,hsame,hq,hw⟩|⟨fr1,hsame,hq,hw⟩
   ·obtain⟨v,hv,hy⟩:=afY hq
    refine⟨o,_,ho,hv,agree hsame,o,ho,hd,λρ T w a hR hf=> ?_⟩;have hf0:=back hsame hf;have hf1:iD ρ n fr1 a (iR ops o):=hf0.sub (λt ht=>ht) λt _=>hsame t
    rw[D9 (ZG (fr:=fr1) (S:=iR ops o) λt ht=>by simp[iR,ht])]at hy;obtain⟨v',hv',hy2⟩:=ZH (P:=P) hT hy;obtain⟨u,h1,h2⟩:=hy2 ρ T w a.eval hR (λx=>hf1.keep.ev x);rw[hv']at h2;refine⟨u,.inl ⟨hw ρ n a (gd hf0),.inl h1⟩,λd hod=> ?_⟩;rw[hod,jP,if_pos rfl];exact h2
   ·refine⟨o,_,ho,hq,agree hsame,o,ho,hd,λρ T w a hR hf=> ?_⟩
    refine⟨undef,.inr ⟨hw ρ n a (gd (back hsame hf)),rfl⟩,λd hod=> ?_⟩;rw[hod,jP,if_pos rfl];simp only[bF]
 ·exact hq.elim
theorem oC.same{ρ:Ren}{fr fr':Fr}{a:Act}(h:oC ρ n fr a)(hs: ∀t,look fr' t=look fr t\/look fr' t= .any):oC ρ n fr' a:=⟨h.size,h.defers,λt=>by
 rcases hs t with h'|h'
 ·rw[h'];exact h.vals t
 ·rw[h'];simp only[bF]⟩
abbrev WFn:=FuncId->List AV->Heap->(AV->Heap->Prop)->Prop
def XSp(P:Program)(f:FuncId)(args:List AV)(h:Heap)(K:AV->Heap->Prop):Prop:= ∀ρ T w vs,Rel h ρ T w->dQ ρ args vs.toList->
 ∃v h' u w' ρ',(callFunc f vs).run P w= .ok (.value u) w'/\(∀i,i<h.next->ρ' i=ρ i)/\ρ.le ρ'/\h.next<=h'.next/\Rel h' ρ' T w'/\bF ρ' v u/\Keeps T w w'/\K v h'
def SpE(P:Program)(f:FuncId)(args:List AV)(h:Heap)(K:AV->Heap->Prop):Prop:=Sp P f args h K\/XSp P f args h K
def WOk(P:Program)(call:WFn):Prop:= ∀g args h K,call g args h K->SpE P g args h K
def vDo(call:WFn)(tt:TT)(op:Op)(ev:Operand->AV)(h:Heap)(K:AV->Heap->Prop):Prop:=match op with
 | .call c=>match c.callee with
  | .value x=>match ev x with
   | .fn (.func g) first cap=>call g (first++c.args.toList.map ev++cap) h K
   |_=>False
  |_=>vX tt (.call c) ev h K
 |op=>vX tt op ev h K
def atn(call:WFn)(tt:TT)(n:Nat)(ops:Array Oper)(i:Nat)(fr:Fr)(h:Heap)(Q:Fr->Heap->Prop):Prop:=match ops[i]? with
 |some o=>bif OW n o.dst then Pv ops o fr (λfr1=>vDo call tt o.op (evA fr1) h λv h'=>Q (GL fr1 o.dst v) h') (λfr1=>Q (GL fr1 o.dst (.lit undef)) h)else False
 |none=>False
theorem af0{call:WFn}{op:Op}{ev ev':Operand->AV}{h:Heap}{K:AV->Heap->Prop}(he: ∀x∈op.operands,ev x=ev' x):vDo call tt op ev h K=vDo call tt op ev' h K:=by
 have e:=alS (tt:=tt) (hp:=h) (Q:=K) he;cases op<;>simp only[vDo]<;>try rw[e]
 case call c=>
  have e1:c.args.toList.map ev=c.args.toList.map ev':=map_congr λx hx=>he x (by simp[Op.operands,Call.operands];exact .inr (by simpa using hx))
  split
  ·rename_i x hx
   have e2:ev x=ev' x:=he x (by simp[Op.operands,Call.operands,hx]);rw[e1,e2]
  ·first|rfl|rw[e]
def Then(ρ:Ren)(T:Nat->Prop)(w:World)(h:Heap)(a:Act)(d:Option Nat)(K:AV->Heap->Prop)(a':Act)(w':World):Prop:=
 ∃v h' u ρ',a'=a.put d u/\(∀i,i<h.next->ρ' i=ρ i)/\ρ.le ρ'/\h.next<=h'.next/\Rel h' ρ' T w'/\bF ρ' v u/\Keeps T w w'/\K v h'
theorem at7(hT:tt.ok P){call:WFn}(hc:WOk P call){Q:Exit->Act->World->Prop}{i:Nat}{o:Oper}(ho:ops[i]? =some o){fr:Fr}{h:Heap}{K:AV->Heap->Prop}{ρ:Ren}{T:Nat->Prop}{w:World}{a:Act}(hR:Rel h ρ T w)
  (hf:oC ρ n fr a) (hw:Region.wanted o (yielded ops a.tmps)=true) (hq:vDo call tt o.op (evA fr) h K):wpOp P ops Q i (Then ρ T w h a o.dst K) a w:=by
 have xx:vX tt o.op (evA fr) h K->wpOp P ops Q i (Then ρ T w h a o.dst K) a w:=λhq=>by
  obtain⟨v,h',u,w',ρ',h1,h2,h3,h4,h5,h6,h7,h8⟩:=vX_ok (P:=P) hT hR (λx=>hf.ev x) (λv=>rfl) hq;exact OY ho hw h1 ⟨v,h',u,ρ',rfl,h2,h3,h4,h5,h6,h7,h8⟩
 obtain⟨dst,op,ty,pos,after,guard⟩:=o;cases op<;>simp only[vDo]at hq<;>try exact xx hq
 case call c=>
  split at hq
  ·rename_i x hcx
   split at hq
   ·rename_i g first cap hx
    have hspec:=hc _ _ _ _ hq;have hxv:=hf.ev x;rw[hx]at hxv;simp only[bF]at hxv;obtain⟨fa,ca,hxe,hfa,hca⟩:=hxv;have hargs:dQ ρ (first++c.args.toList.map (evA fr)++cap) (fa++c.args.map a.eval++ca).toList:=by
     simp only[Array.toList_append,Array.toList_map];exact(hfa.append (mD (λy=>hf.ev y) _)).append hca
    rcases hspec with hspec|hspec
    ·have hrun:(execOp a.eval ⟨dst,.call c,ty,pos,after,guard⟩).run P w= .ok (.enter g (fa++c.args.map a.eval++ca)) w:=by
      simp only[execOp,resolve,hcx,hxe,Sem.run_bind,Deferred.ofValue,Sem.run_pure,Result.andThen_ok,invoke];exact Bg hspec.1 _ _
     unfold wpOp;simp only[ho,hw,if_true,Oper.wp,hrun,Oper.upon];refine .inl ((hspec.2 ρ T w _ hR hargs).mono ?_)
     rintro e w' ⟨ρ',v,u,h',h1,h2,h3,h4,rfl,h5,h6⟩
     have hle:ρ.le ρ':=λj b hb=>by
      have hj:j<h.next:=by
       obtain⟨_,_,_,_,r4,_⟩:=hR;rcases Nat.lt_or_ge j h.next with hlt|hge
       ·exact hlt
       ·rw[r4 j hge]at hb;cases hb
      rw[h1 j hj];exact hb
     exact⟨v,h',u,ρ',rfl,h1,hle,h2,h3,h4,h5,h6⟩
    ·obtain⟨v,h',u,w',ρ',r1,r2,r3,r4,r5,r6,r7,r8⟩:=hspec ρ T w _ hR hargs
     refine OY ho hw (.inl ?_) ⟨v,h',u,ρ',rfl,r2,r3,r4,r5,r6,r7,r8⟩;simp only[execOp,resolve,hcx,hxe,Sem.run_bind,Deferred.ofValue,Sem.run_pure,Result.andThen_ok,invoke];exact r1
   ·exact hq.elim
  ·exact xx hq
theorem af2(hT:tt.ok P){call:WFn}(hc:WOk P call){Q:Exit->Act->World->Prop}{i:Nat}{fr:Fr}{h:Heap}{K:Fr->Heap->Prop}{ρ:Ren}{T:Nat->Prop}{w:World}{a:Act}{l:List Nat}(hR:Rel h ρ T w)
  (hf:oC ρ n (D7 fr l) a) (hl: ∀t∈slotsOf ops i,t ∉ l) (hq:atn call tt n ops i fr h K):
  wpOp P ops Q i (λa' w'=> ∃fr' h' ρ',(∀j,j<h.next->ρ' j=ρ j)/\h.next<=h'.next/\Rel h' ρ' T w'/\oC ρ' n (D7 fr' (l.filter λt=>iT ops i !=some t)) a'/\(∀t,iT ops i≠some t->look fr' t=look fr t)/\Keeps T w w'/\K fr' h') a w:=by
 unfold atn at hq;split at hq
 ·rename_i o ho
  have hso: ∀t∈iR ops o,t ∉ l:=by simpa only[slotsOf,ho]using hl
  have hdo:iT ops i=o.dst:=by simp only[iT,ho]
  cases hd:OW n o.dst with
  |false=>rw[hd]at hq;exact hq.elim
  |true=>
   rw[hd]at hq;simp only[aP]at hq;have fin: ∀{fr1:Fr} {v:AV} {u:Value} {ρ':Ren},Same fr fr1->ρ.le ρ'->bF ρ' v u->oC ρ' n (D7 (GL fr1 o.dst v) (l.filter λt=>iT ops i !=some t)) (a.put o.dst u)/\ ∀t,iT ops i≠some t->look (GL fr1 o.dst v) t=look fr t:=by
    intro fr1 v u ρ' hsame hle hv;refine⟨?_,λt ht=> ?_⟩
    ·have h1:=(hf.mono hle).put (d:=o.dst) hd hv
     refine h1.same λt=> ?_
     rw[gu];by_cases hm:t∈l.filter λt=>iT ops i !=some t
     ·rw[if_pos hm];exact .inr rfl
     ·rw[if_neg hm]
      refine .inl ?_;rw[hdo]at hm;cases hod:o.dst with
      |none=>
       rw[hod]at hm;simp only[GL];rw[gu,if_neg (by simpa using hm)];exact hsame t
      |some d=>
       rw[hod]at hm;rw[jP,jP,gu];by_cases htd:t=d
       ·simp[htd]
       ·rw[if_neg htd,if_neg htd,if_neg (by intro hh;exact hm (List.mem_filter.2 ⟨hh,by simpa using λh=>htd h.symm⟩))]
        exact hsame t
    ·rw[hdo]at ht
     cases hod:o.dst with
     |none=>simp only[GL];exact hsame t
     |some d=>rw[jP,if_neg (λh=>ht (by rw[hod,h]))];exact hsame t
   rcases D8 hq with ⟨fr1,hsame,hq,hw⟩|⟨fr1,hsame,hq,hw⟩
   ·have hf1:oC ρ n (D7 fr1 l) a:=hf.same λt=>by rw[gu,gu,hsame t];exact .inl rfl
    rw[af0 (alT (fr:=fr1) (l:=l) λt ht=>hso t (by simp[iR,ht]))]at hq;refine wpOp_mono ?_ (at7 (P:=P) (Q:=Q) hT hc ho hR hf1 (hw ρ n a (.UQ hf λt ht=>hso t (by simp[iR,ht]))) hq)
    rintro a' w' ⟨v,h',u,ρ',rfl,h1,h2,h3,h4,h5,h6,h7⟩
    obtain⟨f1,f2⟩:=fin (v:=v) hsame h2 h5;exact⟨_,h',ρ',h1,h3,h4,f1,f2,h6,h7⟩
   ·obtain⟨f1,f2⟩:=fin (v:= .lit undef) (u:=undef) hsame (Ren.le_refl _) (by simp only[bF])
    unfold wpOp;simp only[ho,hw ρ n a (.UQ hf λt ht=>hso t (by simp[iR,ht]))];exact⟨_,h,ρ,λ_ _=>rfl,aY _,hR,f1,f2,Keeps.refl _ _,hq⟩
 ·exact hq.elim
end
inductive Pl where
 |nil
 |st (i:Nat) (p:Pl)
 |ac (i:Nat) (np rc:List Nat) (p:Pl)
 |alt (p q:Pl)
def opAt(ops:Array Oper)(i:Nat):Op:=match ops[i]? with
 |some o=>o.op
 |none=> .alloc 0
def aua(ops:Array Oper)(i:Nat):Bool:=(isN (opAt ops i)||isLoad (opAt ops i))&&(match iT ops i with
 |none=>true
 |some d=> !(slotsOf ops i).contains d&&(List.range ops.size).all λj=>Nat.beq j i||((match iT ops j with|some e=> !Nat.beq e d|none=>true)&&(!(slotsOf ops j).contains d||(anc ops j).contains i)))
def aub(ops:Array Oper)(i:Nat)(pend np rc:List Nat):Bool:=
 pend.all (λp=>(anc ops i).contains p||np.contains p)&&(slotsOf ops i).all (λt=> !(DS ops np).contains t)&&
 (match iT ops i with|some d=>np.all λp=> !(slotsOf ops p).contains d&&(match iT ops p with|some e=> !Nat.beq e d|none=>true)|none=>true)&&np.all (λp=> !isLoad (opAt ops p)||rc.contains p)
def heads:Pl->List Nat
 | .ac i _ _ _=>[i]
 | .alt p q=>heads p++heads q
 |_=>[]
mutual
def UR(ops:Array Oper):Pl->List Nat->Array Bool->Bool
 | .nil,_,A=>(Region.ready .any ops A).isEmpty
 | .st i p,pend,A=>(Region.ready .any ops A).contains i&&aua ops i&&UR ops p (i::pend) (A.setIfInBounds i true)
 | .ac i np rc p,pend,A=>(Region.ready .any ops A==[i])&&aub ops i pend np rc&&UR ops p np (A.setIfInBounds i true)
 | .alt p q,pend,A=>(Region.ready .any ops A==heads p++heads q)&&okH ops p pend A&&okH ops q pend A
def okH(ops:Array Oper):Pl->List Nat->Array Bool->Bool
 | .ac i np rc p,pend,A=>aub ops i pend np rc&&UR ops p np (A.setIfInBounds i true)
 | .alt p q,pend,A=>okH ops p pend A&&okH ops q pend A
 |_,_,_=>false
end
def pq(ops:Array Oper):Bool:=(List.range ops.size).all λi=>match ops[i]? with
 |some o=>o.after.toList.all λe=> !Region.binds .any e||Nat.blt e.on i
 |none=>true
def aqO(ops:Array Oper)(rec:List Nat->Array Bool->Pl)(pend:List Nat)(A:Array Bool)(i:Nat):Pl:=
 let np:=pend.filter λp=> !(anc ops i).contains p
 .ac i np (np.filter λp=>isLoad (opAt ops p)) (rec np (A.setIfInBounds i true))
def ZI(mk:Nat->Pl)(i:Nat):List Nat->Pl
 |[]=>mk i
 |j::l=> .alt (mk i) (ZI mk j l)
def alU(ops:Array Oper):Nat->List Nat->Array Bool->Pl
 |0,_,_=> .nil
 |f+1,pend,A=>match (Region.ready .any ops A).find? (aua ops)with
  |some i=> .st i (alU ops f (i::pend) (A.setIfInBounds i true))
  |none=>match Region.ready .any ops A with
   |[]=> .nil
   |i::l=>ZI (aqO ops (alU ops f) pend A) i l
def Px(tt:TT)(n:Nat)(ops:Array Oper)(fr:Fr)(h:Heap):List Nat->Prop
 |[]=>True
 |p::l=>(match ops[p]? with
  |some o=>bif OW n o.dst then Pv ops o fr (λfr1=>GX tt o.op (evA fr1) h λv=>match o.dst with|some d=>v=look fr d|none=>True) (λ_=>match o.dst with|some d=>look fr d= .lit undef|none=>True)else False
  |none=>False)/\Px tt n ops fr h l
def vPl(call:WFn)(tt:TT)(n:Nat)(ops:Array Oper):Pl->Fr->Heap->(Fr->Heap->Prop)->Prop
 | .nil,fr,h,Q=>Q fr h
 | .st i p,fr,h,Q=>afX tt n ops i fr h λfr'=>vPl call tt n ops p fr' h Q
 | .ac i _ rc p,fr,h,Q=>atn call tt n ops i fr h λfr' h'=>Px tt n ops fr' h' rc/\vPl call tt n ops p fr' h' Q
 | .alt p q,fr,h,Q=>vPl call tt n ops p fr h Q/\vPl call tt n ops q fr h Q
section
variable{P:Program}{tt:TT}{n:Nat}{ops:Array Oper}
theorem zx.congr{i:Nat}{fr fr':Fr}{h:Heap}(hs:zx P n ops i fr h)(hsl: ∀t∈slotsOf ops i,look fr' t=look fr t)(hd: ∀d,iT ops i=some d->look fr' d=look fr d):zx P n ops i fr' h:=by
 obtain⟨o,ho,hdo,hq⟩:=hs;have e1:slotsOf ops i=iR ops o:=by simp only[slotsOf,ho]
 have e2:iT ops i=o.dst:=by simp only[iT,ho]
 refine⟨o,ho,hdo,λρ T w a hR hf=> ?_⟩;obtain⟨u,h1,h2⟩:=hq ρ T w a hR (hf.sub (λt ht=>ht) λt ht=>(hsl t (by rw[e1];exact ht)).symm);exact⟨u,h1,λd hod=>by rw[hd d (by rw[e2,hod])];exact h2 d hod⟩
theorem alV{q j:Nat}{o:Oper}(ho:ops[q]? =some o){e:Edge}(he:e∈o.after)(hb:Region.binds .any e=true)(hj:e.on=j):jS ops q j=true:=by
 simp only[jS,ho,List.any_eq_true,aJ];exact⟨e,by simpa using he,hb,by rw[hj];exact Nat.beq_refl _⟩
theorem ZJ{s:Array Bool}{q:Nat}{o:Oper}(hsz:s.size=ops.size)(ho:ops[q]? =some o)(hq:s.getD q false=false)(hd: ∀j,jS ops q j=true->s.getD j false=true):q∈Region.ready .any ops s:=by
 have hlt:q<s.size:=by rw[hsz];exact(Array.getElem?_eq_some_iff.1 ho).1
 refine mem_ready.2 ⟨?_,o,ho,λe he hb=>hd _ (alV ho he hb rfl)⟩;simp[hlt]at hq ⊢;exact hq
theorem x9{s:Array Bool}{q:Nat}(h:q∈Region.ready .any ops s):q<ops.size/\(s.size=ops.size->s.getD q false=false):=by
 obtain⟨h1,o,ho,_⟩:=mem_ready.1 h;have hlt:=(Array.getElem?_eq_some_iff.1 ho).1;refine⟨hlt,λhsz=> ?_⟩;have:q<s.size:=by omega
 simp[this]at h1 ⊢;exact h1
theorem jF{s:Array Bool}{i:Nat}(hi:i<s.size)(j:Nat):(s.setIfInBounds i true).getD j false=(Nat.beq j i||s.getD j false):=by
 by_cases h:j=i
 ·subst h;simp[hi]
 ·rw[getD_set_ne false (Ne.symm h),fC h];simp
theorem qZ{l:List Nat}{d:Nat}:d∈DS ops l↔ ∃p∈l,iT ops p=some d:=by simp[DS]
variable{fr0:Fr}{k:Nat}{Q:Fr->Heap->Prop}{ρ₀:Ren}{T:Nat->Prop}{w₀:World}{call:WFn}
structure JS (P:Program) (tt:TT) (call:WFn) (n:Nat) (ops:Array Oper) (fr0:Fr) (k:Nat) (Q:Fr->Heap->Prop) (ρ₀:Ren) (T:Nat->Prop) (w₀:World) (pl:Pl) (pend Pd:List Nat) (A:Array Bool) (fr:Fr) (h:Heap) (ρ:Ren) (s:Array Bool) (a:Act) (w:World):Prop where
 ok:UR ops pl pend A=true
 asz:A.size=ops.size
 ssz:s.size=ops.size
 sub: ∀i∈Pd,i∈pend
 pdA: ∀i∈Pd,A.getD i false=true
 st: ∀i∈Pd,aua ops i=true
 eq: ∀i,s.getD i false=(A.getD i false&& !Pd.contains i)
 cs:Closed ops s
 cA:Closed ops A
 ren: ∀i,i<k->ρ i=ρ₀ i
 keeps:Keeps T w₀ w
 kle:k<=h.next
 rel:Rel h ρ T w
 frm:oC ρ n (D7 fr (DS ops Pd)) a
 still: ∀p∈Pd,zx P n ops p fr h
 v:vPl call tt n ops pl fr h Q
 ag: ∀t,(∀i,iT ops i≠some t)->look fr t=look fr0 t
theorem yc{i d:Nat}(h:aua ops i=true)(hd:iT ops i=some d):d ∉ slotsOf ops i/\ ∀j,j<ops.size->j≠i->iT ops j≠some d/\(d∈slotsOf ops j->i∈anc ops j):=by
 simp only[aua,hd,aJ,Bool.not_eq_true',List.all_eq_true,List.mem_range,Bool.or_eq_true]at h;obtain⟨_,h1,h2⟩:=h;refine⟨by simpa using h1,λj hj hji=> ?_⟩;rcases h2 j hj with h3|⟨h3,h4⟩
 ·exact absurd (au h3) hji
 ·refine⟨λhh=> ?_,λhh=> ?_⟩
  ·rw[hh]at h3;simp at h3
  ·rcases h4 with h4|h4
   ·simp[hh]at h4
   ·simpa using h4
theorem JS.peek(hT:tt.ok P){i:Nat}{p:Pl}{pend Pd:List Nat}{A:Array Bool}{fr:Fr}{h:Heap}{ρ:Ren}{s:Array Bool}{a:Act}{w:World}(J:JS P tt call n ops fr0 k Q ρ₀ T w₀ (.st i p) pend Pd A fr h ρ s a w):
  ∃fr',JS P tt call n ops fr0 k Q ρ₀ T w₀ p (i::pend) (i::Pd) (A.setIfInBounds i true) fr' h ρ s a w:=by
 have hok:=J.ok;simp only[UR,aJ]at hok;obtain⟨⟨hr,hst⟩,hok⟩:=hok;have hr:i∈Region.ready .any ops A:=by simpa using hr
 obtain⟨hlt,hAi⟩:=x9 hr;have hAi:=hAi J.asz;have hns: ∀o d,ops[i]? =some o->o.dst=some d->d ∉ iR ops o:=λo d ho hd=>by
  have:=(yc (d:=d) hst (by simp only[iT,ho,hd])).1;simpa only[slotsOf,ho]using this
 obtain⟨o,fr',ho,hv,hag,hsa⟩:=afZ (P:=P) hT hns J.v;have hdo:iT ops i=o.dst:=by simp only[iT,ho]
 have hag: ∀t,iT ops i≠some t->look fr' t=look fr t:=λt ht=>hag t λd hd hh=>ht (by rw[hdo,hd,hh])
 have hiA:i<A.size:=by rw[J.asz];exact hlt
 refine⟨fr',hok,by simp[J.asz],J.ssz,λq hq=> ?_,λq hq=> ?_,λq hq=> ?_,λq=> ?_,J.cs,uO J.cA hr,J.ren,J.keeps,J.kle,J.rel,?_,λq hq=> ?_,hv,λt ht=>(hag t (ht i)).trans (J.ag t ht)⟩
 ·rcases List.mem_cons.1 hq with rfl|hq
  ·simp
  ·exact List.mem_cons_of_mem _ (J.sub q hq)
 ·rw[jF hiA]
  rcases List.mem_cons.1 hq with rfl|hq
  ·simp
  ·rw[J.pdA q hq];simp
 ·rcases List.mem_cons.1 hq with rfl|hq
  ·exact hst
  ·exact J.st q hq
 ·rw[J.eq q,jF hiA]
  by_cases hqi:q=i
  ·subst hqi;rw[hAi];simp
  ·simp[fC hqi,hqi]
 ·refine J.frm.same λt=> ?_
  rw[gu,gu];by_cases h1:t∈DS ops (i::Pd)
  ·rw[if_pos h1];exact .inr rfl
  ·rw[if_neg h1]
   have h2:t ∉ DS ops Pd:=λhh=>h1 (by obtain⟨p,hp,hpd⟩:=qZ.1 hh;exact qZ.2 ⟨p,List.mem_cons_of_mem _ hp,hpd⟩)
   rw[if_neg h2];exact .inl (hag t λhh=>h1 (qZ.2 ⟨i,by simp,hh⟩))
 ·rcases List.mem_cons.1 hq with rfl|hq
  ·exact hsa
  ·have hqA:=J.pdA q hq
   have hqi:q≠i:=λhh=>by rw[hh,hAi]at hqA;cases hqA
   have hqlt:q<ops.size:=by
    rcases Nat.lt_or_ge q A.size with h'|h'
    ·rw[J.asz]at h';exact h'
    ·simp[Array.getElem?_eq_none h']at hqA
   refine(J.still q hq).congr (λt ht=>hag t λhh=> ?_) (λd hd=>hag d λhh=> ?_)
   ·--it would come behind i
    have:=((yc hst hh).2 q hqlt hqi).2 ht;have hi:=JZ J.cA (λj hj=>J.cA q j hqA hj) ops.size [] (λ_ hq=>by cases hq) i this;rw[hAi]at hi;cases hi
   ·exact((yc hst hh).2 q hqlt hqi).1 hd
theorem JS.done{pl:Pl}{pend Pd:List Nat}{A:Array Bool}{fr:Fr}{h:Heap}{ρ:Ren}{s:Array Bool}{a:Act}{w:World}(J:JS P tt call n ops fr0 k Q ρ₀ T w₀ pl pend Pd A fr h ρ s a w){p:Nat}(hp:p∈Pd)(hr:p∈Region.ready .any ops s)
  {Qx:Exit->Act->World->Prop}:wpOp P ops Qx p (λa' w'=>JS P tt call n ops fr0 k Q ρ₀ T w₀ pl pend (Pd.filter (· !=p)) A fr h ρ (s.setIfInBounds p true) a' w') a w:=by
 obtain⟨o,ho,hdo,hy⟩:=J.still p hp;obtain⟨hlt,hsp⟩:=x9 hr;have hps:p<s.size:=by rw[J.ssz];exact hlt
 have e1:slotsOf ops p=iR ops o:=by simp only[slotsOf,ho]
 have e2:iT ops p=o.dst:=by simp only[iT,ho]
 have hsl: ∀t∈iR ops o,t ∉ DS ops Pd:=λt ht hm=>by
  obtain⟨q,hq,hqd⟩:=qZ.1 hm;by_cases hqp:q=p
  ·subst hqp
   exact(yc (J.st q hq) hqd).1 (by rw[e1];exact ht)
  ·have:=((yc (J.st q hq) hqd).2 p hlt (Ne.symm hqp)).2 (by rw[e1];exact ht)
   have hs:=aph J.cs hr q this;rw[J.eq q]at hs;simp[hq]at hs
 obtain⟨u,hyu,hru⟩:=hy ρ T w a (λ_=>J.rel) (.UQ J.frm hsl);refine YieldsAt.wpOp' ho hyu ⟨J.ok,J.asz,by simp[J.ssz],λq hq=>J.sub q (List.mem_filter.1 hq).1,λq hq=>J.pdA q (List.mem_filter.1 hq).1,λq hq=>J.st q (List.mem_filter.1 hq).1,λq=> ?_,uO J.cs hr,J.cA,J.ren,J.keeps,J.kle,J.rel,?_,λq hq=>J.still q (List.mem_filter.1 hq).1,J.v,J.ag⟩
 ·rw[jF hps,J.eq q]
  by_cases hqp:q=p
  ·subst hqp;rw[J.pdA q hp];simp
  ·rw[fC hqp]
   simp[hqp]
 ·have h1:=J.frm.put (v:=match o.dst with|some d=>look fr d|none=> .any) hdo (show bF ρ _ u by
   cases hod:o.dst with
   |none=>simp only[bF]
   |some d=>exact hru d hod)
  refine h1.same λt=> ?_
  rw[gu];by_cases hm:t∈DS ops (Pd.filter (· !=p))
  ·rw[if_pos hm];exact .inr rfl
  ·rw[if_neg hm]
   refine .inl ?_;cases hod:o.dst with
   |none=>
    simp only[GL];rw[gu,if_neg];intro hh;obtain⟨q,hq,hqd⟩:=qZ.1 hh;refine hm (qZ.2 ⟨q,List.mem_filter.2 ⟨hq,?_⟩,hqd⟩);have:q≠p:=λhqp=>by rw[hqp,e2,hod]at hqd;cases hqd
    simpa using this
   |some d=>
    rw[jP];by_cases htd:t=d
    ·rw[if_pos htd,htd]
    ·rw[if_neg htd,gu,if_neg]
     intro hh;obtain⟨q,hq,hqd⟩:=qZ.1 hh;refine hm (qZ.2 ⟨q,List.mem_filter.2 ⟨hq,?_⟩,hqd⟩);have:q≠p:=λhqp=>by rw[hqp,e2,hod]at hqd;cases hqd;exact htd rfl
     simpa using this
theorem Py: ∀{pl:Pl} {pend:List Nat} {A:Array Bool},okH ops pl pend A=true->heads pl≠[]
 | .ac i np rc p,_,_,_=>by simp[heads]
 | .alt p q,pend,A,h=>by
  simp only[okH,aJ]at h;have:=Py h.1;simp[heads,this]
 | .nil,_,_,h=>by simp[okH]at h
 | .st _ _,_,_,h=>by simp[okH]at h
theorem Dc: ∀{pl:Pl} {pend:List Nat} {A:Array Bool} {fr:Fr} {h:Heap} {j:Nat},okH ops pl pend A=true->j∈heads pl->vPl call tt n ops pl fr h Q->
  ∃np rc p,aub ops j pend np rc=true/\UR ops p np (A.setIfInBounds j true)=true/\atn call tt n ops j fr h (λfr' h'=>Px tt n ops fr' h' rc/\vPl call tt n ops p fr' h' Q)
 | .ac i np rc p,pend,A,fr,h,j,hok,hj,hv=>by
  simp only[heads,List.mem_singleton]at hj;subst hj;simp only[okH,aJ]at hok;exact⟨np,rc,p,hok.1,hok.2,hv⟩
 | .alt p q,pend,A,fr,h,j,hok,hj,hv=>by
  simp only[okH,aJ]at hok;rcases List.mem_append.1 hj with hj|hj
  ·exact Dc hok.1 hj hv.1
  ·exact Dc hok.2 hj hv.2
 | .nil,_,_,_,_,_,hok,_,_=>by simp[okH]at hok
 | .st _ _,_,_,_,_,_,hok,_,_=>by simp[okH]at hok
theorem Pz(hT:tt.ok P){fr:Fr}{h:Heap}: ∀{l:List Nat},Px tt n ops fr h l-> ∀p∈l,zx P n ops p fr h
 |q::l,hv,p,hp=>by
  rcases List.mem_cons.1 hp with rfl|hp
  ·have hv:=hv.1
   split at hv
   ·rename_i o ho
    cases hd:OW n o.dst with
    |false=>rw[hd]at hv;exact hv.elim
    |true=>
     rw[hd]at hv;simp only[aP]at hv;have gd: ∀{fr':Fr} {ρ:Ren} {a:Act},iD ρ n fr' a (iR ops o)->iD ρ n fr' a (D6 ops o):=λhf=>hf.sub (λt ht=>by simp[iR,ht]) λt _=>rfl
     rcases D8 hv with ⟨fr1,hsame,hq,hw⟩|⟨fr1,hsame,hq,hw⟩
     ·rw[D9 (ZG (fr:=fr1) (S:=iR ops o) λt ht=>by simp[iR,ht])]at hq
      obtain⟨v,hv,hy⟩:=ZH (P:=P) hT hq;refine⟨o,ho,hd,λρ T w a hR hf=> ?_⟩;have hf1:iD ρ n fr1 a (iR ops o):=hf.sub (λt ht=>ht) λt _=>hsame t
      obtain⟨u,h1,h2⟩:=hy ρ T w a.eval hR (λx=>hf1.keep.ev x);refine⟨u,.inl ⟨hw ρ n a (gd hf),.inl h1⟩,λd hod=> ?_⟩;rw[hod]at hv;simp only at hv;rw[<-hv];exact h2
     ·refine⟨o,ho,hd,λρ T w a hR hf=>⟨undef,.inr ⟨hw ρ n a (gd hf),rfl⟩,λd hod=> ?_⟩⟩
      rw[hod]at hq;simp only at hq;rw[hq];simp only[bF]
   ·exact hv.elim
  ·exact Pz hT hv.2 p hp
theorem JS.act(hT:tt.ok P)(hc:WOk P call){pl:Pl}{pend Pd:List Nat}{A:Array Bool}{fr:Fr}{h:Heap}{ρ:Ren}{s:Array Bool}{a:Act}{w:World}(J:JS P tt call n ops fr0 k Q ρ₀ T w₀ pl pend Pd A fr h ρ s a w){j:Nat}(hr:j∈Region.ready .any ops s)(hj:j ∉ Pd)
  (aqP: ∀i p,pl≠ .st i p) {Qx:Exit->Act->World->Prop}:wpOp P ops Qx j (λa' w'=> ∃pl' af4 Pd' A' fr' h' ρ',JS P tt call n ops fr0 k Q ρ₀ T w₀ pl' af4 Pd' A' fr' h' ρ' (s.setIfInBounds j true) a' w') a w:=by
 obtain⟨hlt,hsj⟩:=x9 hr;have hsj:=hsj J.ssz;have hjs:j<s.size:=by rw[J.ssz];exact hlt
 have hjA:j<A.size:=by rw[J.asz];exact hlt
 have hAj:A.getD j false=false:=by
  have:=J.eq j;rw[hsj]at this;have hc:Pd.contains j=false:=by simpa using hj
  rw[hc]at this;simpa using this.symm
 have hsA: ∀q,s.getD q false=true->A.getD q false=true:=λq hq=>by
  rw[J.eq q]at hq;simp only[aJ]at hq;exact hq.1
 obtain⟨h1,o,ho,hall⟩:=mem_ready.1 hr;have hrA:j∈Region.ready .any ops A:=ZJ J.asz ho hAj λq hq=>by
  refine hsA q ?_;simp only[jS,ho,List.any_eq_true,aJ]at hq;obtain⟨e,he,hb,hq⟩:=hq;have:=hall e (by simpa using he) hb;rwa [au hq]at this
 have hpick: ∃np rc p,aub ops j pend np rc=true/\UR ops p np (A.setIfInBounds j true)=true/\atn call tt n ops j fr h (λfr' h'=>Px tt n ops fr' h' rc/\vPl call tt n ops p fr' h' Q):=by
  have hok:=J.ok;have hv:=J.v;cases pl with
  |nil=>simp only[UR,List.isEmpty_iff]at hok;rw[hok]at hrA;cases hrA
  |st i p=>exact(aqP i p rfl).elim
  |ac i np rc p=>
   simp only[UR,aJ,beq_iff_eq]at hok;have hji:j=i:=by rw[hok.1.1]at hrA;simpa using hrA
   subst hji;exact⟨np,rc,p,hok.1.2,hok.2,hv⟩
  |alt p q=>
   simp only[UR,aJ,beq_iff_eq]at hok;rw[hok.1.1]at hrA;rcases List.mem_append.1 hrA with hm|hm
   ·exact Dc hok.1.2 hm hv.1
   ·exact Dc hok.2 hm hv.2
 obtain⟨np,rc,p,hac,hokp,hv⟩:=hpick;simp only[aub,aJ,List.all_eq_true,Bool.or_eq_true,Bool.not_eq_true']at hac;obtain⟨⟨⟨a1,a2⟩,a3⟩,a4⟩:=hac;have hPnp: ∀q∈Pd,q∈np:=λq hq=>by
  rcases a1 q (J.sub q hq)with h'|h'
  ·have:=aph J.cs hr q (by simpa using h')
   rw[J.eq q]at this;simp[hq]at this
  ·simpa using h'
 have hDS: ∀t,t∈DS ops Pd->t∈DS ops np:=λt ht=>by
  obtain⟨q,hq,hqd⟩:=qZ.1 ht;exact qZ.2 ⟨q,hPnp q hq,hqd⟩
 refine wpOp_mono ?_ (af2 (P:=P) (Q:=Qx) hT hc J.rel J.frm (λt ht hm=>by
  have:=a2 t ht;have h2:=hDS t hm
  simp[h2]at this) hv)
 rintro a' w' ⟨fr',h',ρ',b1,b2,b3,b4,b5,b6,b7,b8⟩
 have hdst: ∀d,iT ops j=some d-> ∀q∈np,d ∉ slotsOf ops q/\iT ops q≠some d:=λd hd q hq=>by
  rw[hd]at a3;simp only[List.all_eq_true,aJ,Bool.not_eq_true']at a3;obtain⟨c1,c2⟩:=a3 q hq;refine⟨by simpa using c1,λhh=> ?_⟩;rw[hh]at c2;simp at c2
 refine⟨p,np,Pd,A.setIfInBounds j true,fr',h',ρ',hokp,by simp[J.asz],by simp[J.ssz],hPnp,λq hq=>getD_set_true (J.pdA q hq),J.st,λq=> ?_,uO J.cs hr,uO J.cA hrA,λi hi=>(b1 i (Nat.lt_of_lt_of_le hi J.kle)).trans (J.ren i hi),J.keeps.trans b6,Nat.le_trans J.kle b2,b3,?_,λq hq=> ?_,b8,λt ht=>(b5 t (ht j)).trans (J.ag t ht)⟩
 ·rw[jF hjs,jF hjA,J.eq q]
  by_cases hqj:q=j
  ·subst hqj;simp[hj]
  ·rw[fC hqj];simp
 ·refine b4.same λt=> ?_
  rw[gu,gu];by_cases hm:t∈DS ops Pd
  ·rw[if_pos hm];exact .inr rfl
  ·rw[if_neg hm,if_neg (λhh=>hm (List.mem_filter.1 hh).1)];exact .inl rfl
 ·have hqnp:=hPnp q hq
  rcases a4 q hqnp with hn|hl
  ·--it reads no memory
   have hst:=(J.still q hq).congr (fr':=fr') (λt ht=>b5 t λhh=>(hdst t hh q hqnp).1 ht) (λd hd=>b5 d λhh=>(hdst d hh q hqnp).2 hd);obtain⟨oq,hoq,hdq,hyq⟩:=hst;refine⟨oq,hoq,hdq,λρ T w a hR hf=>hyq ρ T w a (λhl=> ?_) hf⟩;have:opAt ops q=oq.op:=by simp only[opAt,hoq]
   rw[this,hl]at hn;cases hn
  ·exact Pz hT b7 q (by simpa using hl)
theorem JS.norm(hT:tt.ok P): ∀{pl:Pl} {pend Pd:List Nat} {A:Array Bool} {fr:Fr} {h:Heap} {ρ:Ren} {s:Array Bool} {a:Act} {w:World},JS P tt call n ops fr0 k Q ρ₀ T w₀ pl pend Pd A fr h ρ s a w->
  ∃pl' af4 Pd' A' fr' h' ρ',(∀i p,pl'≠ .st i p)/\JS P tt call n ops fr0 k Q ρ₀ T w₀ pl' af4 Pd' A' fr' h' ρ' s a w
 | .st i p,pend,Pd,A,fr,h,ρ,s,a,w,J=>by
  obtain⟨fr',J'⟩:=J.peek hT;exact J'.norm hT
 | .nil,pend,Pd,A,fr,h,ρ,s,a,w,J=>⟨_,_,_,_,_,_,_,(λi p hh=>by cases hh),J⟩
 | .ac ..,pend,Pd,A,fr,h,ρ,s,a,w,J=>⟨_,_,_,_,_,_,_,(λi p hh=>by cases hh),J⟩
 | .alt ..,pend,Pd,A,fr,h,ρ,s,a,w,J=>⟨_,_,_,_,_,_,_,(λi p hh=>by cases hh),J⟩
theorem JS.fin(hdn:pq ops=true){pl:Pl}{pend Pd:List Nat}{A:Array Bool}{fr:Fr}{h:Heap}{ρ:Ren}{s:Array Bool}{a:Act}{w:World}(J:JS P tt call n ops fr0 k Q ρ₀ T w₀ pl pend Pd A fr h ρ s a w)(aqP: ∀i p,pl≠ .st i p)
  (hr:Region.ready .any ops s=[]):After k n ρ₀ T w₀ (λfr h=>(∀t,(∀i,iT ops i≠some t)->look fr t=look fr0 t)/\Q fr h) a w:=by
 have hinA: ∀q,A.getD q false=true-> ∃o,ops[q]? =some o:=λq hq=>by
  have:q<A.size:=by
   rcases Nat.lt_or_ge q A.size with h'|h'
   ·exact h'
   ·simp[Array.getElem?_eq_none h']at hq
  rw[J.asz]at this;exact⟨ops[q],by simp[this]⟩
 have hlow: ∀q j,jS ops q j=true->j<q:=λq j hq=>by
  unfold jS at hq;split at hq
  ·rename_i o ho
   have hlt:=(Array.getElem?_eq_some_iff.1 ho).1;simp only[pq,List.all_eq_true,List.mem_range]at hdn;have:=hdn q hlt;simp only[ho,List.all_eq_true,Bool.or_eq_true,Bool.not_eq_true']at this;simp only[List.any_eq_true,aJ]at hq;obtain⟨e,he,hb,hj⟩:=hq;rcases this e he with h'|h'
   ·rw[hb]at h';cases h'
   ·rw[<-au hj];exact bg.1 h'
  ·cases hq
 have hmin: ∀m q,q<=m->q∈Pd->False:=by
  intro m
  induction m using Nat.strongRecOn with
  |_ m ih=>
   intro q hqm hq;obtain⟨o,ho⟩:=hinA q (J.pdA q hq);have:q∈Region.ready .any ops s:=by
    refine ZJ J.ssz ho (by rw[J.eq q];simp[hq]) λj hj=> ?_
    have hjq:=hlow q j hj;have hjA:=J.cA q j (J.pdA q hq) hj;rw[J.eq j,hjA];have:j ∉ Pd:=λhh=>ih j (by omega) j (aY _) hh
    simp[this]
   rw[hr]at this;cases this
 have hPd:Pd=[]:=by
  cases Pd with
  |nil=>rfl
  |cons q l=>exact(hmin q q (aY _) (by simp)).elim
 subst hPd;have hsA:s=A:=Ug (by rw[J.ssz,J.asz]) λi=>by rw[J.eq i];simp
 subst hsA;have hok:=J.ok;cases pl with
 |nil=>exact⟨ρ,fr,h,J.ren,⟨J.kle,J.rel,J.frm⟩,J.keeps,J.ag,J.v⟩
 |st i p=>exact(aqP i p rfl).elim
 |ac i np rc p=>
  simp only[UR,aJ,beq_iff_eq]at hok;rw[hr]at hok;cases hok.1.1
 |alt p q=>
  simp only[UR,aJ,beq_iff_eq]at hok;rw[hr]at hok;have:=Py hok.1.2;cases hp:heads p with
  |nil=>exact(this hp).elim
  |cons x l=>rw[hp]at hok;cases hok.1.1
theorem cnt_lt{p q:Nat->Bool}{x:Nat}: ∀(l:List Nat),(∀y∈l,p y=true->q y=true)->x∈l->q x=true->p x=false->l.countP p<l.countP q
 |[],_,h,_,_=>by cases h
 |y::l,hpq,hx,hqx,hpx=>by
  have hle:l.countP p<=l.countP q:=List.countP_mono_left λy hy=>hpq y (by simp[hy])
  rw[List.countP_cons,List.countP_cons];rcases List.mem_cons.1 hx with rfl|hx
  ·rw[if_neg (by rw[hpx];simp),if_pos hqx];omega
  ·have:=cnt_lt l (λy hy=>hpq y (by simp[hy])) hx hqx hpx
   by_cases hy:p y=true
   ·rw[if_pos hy,if_pos (hpq y (by simp) hy)];omega
   ·rw[if_neg hy];split<;>omega
theorem J3(hT:tt.ok P)(hc:WOk P call)(hdn:pq ops=true): ∀(m:Nat) {pl:Pl} {pend Pd:List Nat} {A:Array Bool} {fr:Fr} {h:Heap} {ρ:Ren} {s:Array Bool} {a:Act} {w:World},JS P tt call n ops fr0 k Q ρ₀ T w₀ pl pend Pd A fr h ρ s a w->
  (List.range ops.size).countP (λi=> !s.getD i false)<=m->wpAny P .any ops (Uo k n ρ₀ T w₀ (λfr h=>(∀t,(∀i,iT ops i≠some t)->look fr t=look fr0 t)/\Q fr h)) m s a w
 |0,pl,pend,Pd,A,fr,h,ρ,s,a,w,J,hm=>by
  have hr:Region.ready .any ops s=[]:=by
   cases hr:Region.ready .any ops s with
   |nil=>rfl
   |cons q l=>
    exfalso;obtain⟨hlt,hq⟩:=x9 (ops:=ops) (s:=s) (q:=q) (by rw[hr];simp);have:0<(List.range ops.size).countP (λi=> !s.getD i false):=List.countP_pos_iff.2 ⟨q,by simpa using hlt,by simp only[hq J.ssz];rfl⟩;omega
  obtain⟨pl',af4,Pd',A',fr',h',ρ',hn,J'⟩:=J.norm hT;exact⟨hr,J'.fin hdn hn hr⟩
 |m+1,pl,pend,Pd,A,fr,h,ρ,s,a,w,J,hm=>by
  obtain⟨pl',af4,Pd',A',fr',h',ρ',hn,J'⟩:=J.norm hT;refine⟨λhr=>J'.fin hdn hn hr,λj hj=> ?_⟩;obtain⟨hlt,hsj⟩:=x9 hj;have hsj:=hsj J.ssz;have hjs:j<s.size:=by rw[J.ssz];exact hlt
  have hcnt:(List.range ops.size).countP (λi=> !(s.setIfInBounds j true).getD i false)<=m:=by
   have:=cnt_lt (p:=λi=> !(s.setIfInBounds j true).getD i false) (q:=λi=> !s.getD i false) (x:=j) (List.range ops.size) (λy _ hy=>by
    simp only[jF hjs,Bool.not_eq_true',Bool.or_eq_false_iff]at hy ⊢;exact hy.2) (by simpa using hlt) (by simp only[hsj];rfl) (by simp only[jF hjs,Nat.beq_refl];rfl)
   omega
  by_cases hjp:j∈Pd'
  ·exact wpOp_mono (λa' w' J2=>J3 hT hc hdn m J2 hcnt) (J'.done hjp hj)
  ·exact wpOp_mono (λa' w' ⟨_,_,_,_,_,_,_,J2⟩=>J3 hT hc hdn m J2 hcnt) (J'.act hT hc hj hjp hn)
theorem alW(hT:tt.ok P)(hc:WOk P call)(hm:P.follows .mixedOrders=true){id:Nat}{pl:Pl}(hok:(UR ops pl [] (Array.replicate ops.size false)&&pq ops)=true){fr:Fr}{h:Heap}{Q:Exit->Fr->Heap->Prop}
  (hv:vPl call tt n ops pl fr h (Q .normal)):AWp P k n (.region id ops true) (λe fr' h'=>(∀t,(∀i,iT ops i≠some t)->look fr' t=look fr t)/\Q e fr' h') fr h:=by
 intro ρ T w a hs;simp only[aJ]at hok;have hs':St k n ρ T fr h a w.drew:=⟨hs.le,hs.rel.drew,hs.fr⟩;have hz: ∀i,(Array.replicate ops.size false).getD i false=false:=λi=>by
  by_cases h:i<ops.size<;>simp[h]
 have J:JS P tt call n ops fr k (Q .normal) ρ T w.drew pl [] [] (Array.replicate ops.size false) fr h ρ (Array.replicate ops.size false) a w.drew:=
  ⟨hok.1,by simp,by simp,(λi hi=>by cases hi),(λi hi=>by cases hi),(λi hi=>by cases hi),(λi=>by rw[hz];simp),(λi j hi _=>by rw[hz]at hi;cases hi),(λi j hi _=>by rw[hz]at hi;cases hi),(λ_ _=>rfl),Keeps.refl _ _,hs.le,hs'.rel,hs'.fr,(λp hp=>by cases hp),hv,(λ_ _=>rfl)⟩
 have:=wp_region_any (id:=id) (Q:=Uo k n ρ T w.drew (λfr' h=>(∀t,(∀i,iT ops i≠some t)->look fr' t=look fr t)/\Q .normal fr' h)) hm (J3 hT hc hok.2 ops.size J (Nat.le_trans List.countP_le_length (by simp)));refine wp_mono this λe a' w' hh=> ?_
 cases e<;>first|exact After.trans (λ_ _=>rfl) (Keeps.drew T w) hh|exact hh.elim
end
abbrev Tau:=List (Nat×Nat)
def tau:Tau->Nat->Nat
 |[],i=>i
 |(a,b)::r,i=>bif Nat.beq a i then b else tau r i
def J4(i j:Nat)(τ:Tau):Tau:=bif Nat.beq (tau τ i) j then τ else(i,j)::τ
def PD:Value->Bool
 | .slice none 0 0=>true
 |_=>false
theorem af5{v:Value}(h:PD v=true):v= .slice none 0 0:=by
 unfold PD at h;split at h
 ·rfl
 ·cases h
def ghN(i:Nat):Nat:=100000+i
mutual
def matV:AV->AV->Tau->Tau
 | .ptr i _,.ptr j _,τ=>J4 i j τ
 | .sl i _ _ _,.sl j _ _ _,τ=>J4 i j τ
 | .slU i _ _ _,.slU j _ _ _,τ=>J4 i j τ
 | .nH i _ _ _,.nH j _ _ _,τ=>J4 i j τ
 | .slE i _ _ _ _,.slE j _ _ _ _,τ=>J4 i j τ
 | .slW i _ _ _,.slW j _ _ _,τ=>J4 i j τ
 | .slR i _ _ _,.slR j _ _ _,τ=>J4 i j τ
 | .slR i _ _ _,.slE j _ _ _ _,τ=>J4 i j τ
 | .slR i _ _ _,.slW j _ _ _,τ=>J4 i j τ
 | .slR i _ _ _,.slZ _ j _ _ _,τ=>J4 i j τ
 | .slW i _ _ _,.sl j _ _ _,τ=>J4 i j τ
 | .slZ _ i _ _ _,.slZ _ j _ _ _,τ=>J4 i j τ
 | .slZ _ i _ _ _,.slE j _ _ _ _,τ=>J4 i j τ
 | .slZ _ i _ _ _,.slW j _ _ _,τ=>J4 i j τ
 | .slV _ i _ _,.slV _ j _ _,τ=>J4 i j τ
 | .slV _ i _ _,.slW j _ _ _,τ=>J4 i j τ
 | .slR i _ _ _,.slV _ j _ _,τ=>J4 i j τ
 | .slV _ i _ _,.lit v,τ=>bif PD v then J4 i (ghN i) τ else τ
 | .ifc _ a,.ifc _ b,τ=>matV a b τ
 | .mp i,.mp j,τ=>J4 i j τ
 | .agg l,.agg m,τ=>aci l m τ
 | .tup l,.tup m,τ=>aci l m τ
 | .fn _ a b,.fn _ a' b',τ=>aci b b' (aci a a' τ)
 |_,_,τ=>τ
def aci:List AV->List AV->Tau->Tau
 |a::l,b::m,τ=>aci l m (matV a b τ)
 |_,_,τ=>τ
end
def aqQ:Value->Value->Prop
 | .int k a,.int k' b=>if k=k' then a=b else False
 | .bool a,.bool b=>a=b
 | .string a,.string b=>a=b
 |a,b=>a=b
theorem alX{a b:Value}(h:aqQ a b):a=b:=by
 unfold aqQ at h;split at h
 ·split at h
  ·rename_i hk;rw[hk,h]
  ·exact h.elim
 ·rw[h]
 ·rw[h]
 ·exact h
mutual
def eqV(τ:Tau):AV->AV->Prop
 | .any,_=>True
 | .one,b=>bif oneCell b then True else False
 | .arr n g,.arr n' g'=>n=n'/\ ∀q,q<n->g q=g' q
 | .lit a,.lit b=>aqQ a b
 | .ptr i o,.ptr j p=>bif Nat.beq (tau τ i) j then o=p else False
 | .sl i o n c,.sl j p n' c'=>bif Nat.beq (tau τ i) j then(o=p/\n=n'/\c=c')else False
 | .slU i o n s,.slU j p n' s'=>bif Nat.beq (tau τ i) j then(o=p/\n=n'/\s=s')else False
 | .nH i k m o,.nH j k' m' p=>bif Nat.beq (tau τ i) j&&Nat.beq m m' then(k=k'/\o=p)else False
 | .slE i k m n c,.slE j k' m' n' c'=>bif Nat.beq (tau τ i) j&&Nat.beq m m' then(k=k'/\n=n'/\c=c')else False
 | .slW i k m n,.slW j k' m' n'=>bif Nat.beq (tau τ i) j&&Nat.beq m m' then(k=k'/\n=n')else False
 | .slW i _ _ n,.sl j _ n' c'=>bif Nat.beq (tau τ i) j then(n=0/\n'=0/\c'=0)else False
 | .slR i k m n,.slR j k' m' n'=>bif Nat.beq (tau τ i) j&&Nat.beq m m' then(k=k'/\n=n')else False
 | .slR i k m n,.slE j k' m' n' _=>bif Nat.beq (tau τ i) j&&Nat.beq m m' then(k=k'/\n=n')else False
 | .slR i k m n,.slW j k' m' n'=>bif Nat.beq (tau τ i) j&&Nat.beq m m' then(k=k'/\n=n')else False
 | .slR i k m n,.slZ _ j k' m' n'=>bif Nat.beq (tau τ i) j&&Nat.beq m m' then(k=k'/\n=n')else False
 | .slZ z i k m n,.slZ z' j k' m' n'=>bif Nat.beq (tau τ i) j&&Nat.beq m m' then(z=z'/\k=k'/\n=n')else False
 | .slZ z i k m n,.slE j k' m' n' _=>bif Nat.beq (tau τ i) j&&Nat.beq m m' then(z=false/\k=k'/\n=n')else False
 | .slZ z i k m n,.slW j k' m' n'=>bif Nat.beq (tau τ i) j&&Nat.beq m m' then(z=false/\k=k'/\n=n')else False
 | .slR i k m n,.slV _ j m' n'=>bif Nat.beq (tau τ i) j&&Nat.beq m m' then(k=0/\n=n')else False
 | .slV z i m n,.slV z' j m' n'=>bif Nat.beq (tau τ i) j&&Nat.beq m m' then(z=z'/\n=n')else False
 | .slV z i m n,.slW j k' m' n'=>bif Nat.beq (tau τ i) j&&Nat.beq m m'&&Nat.beq k' 0 then(z=false/\n=n')else False
 | .slV z _ _ n,.lit v=>bif PD v then(z=true/\n=0)else False
 | .ifc t a,.ifc t' b=>t=t'/\eqV τ a b
 | .mp i,.mp j=>bif Nat.beq (tau τ i) j then True else False
 | .agg l,.agg m=>eqL τ l m
 | .tup l,.tup m=>eqL τ l m
 | .fn f a b,.fn g a' b'=>f=g/\eqL τ a a'/\eqL τ b b'
 |_,_=>False
def eqL(τ:Tau):List AV->List AV->Prop
 |[],[]=>True
 |a::l,b::m=>eqV τ a b/\eqL τ l m
 |_,_=>False
end
mutual
theorem Iu{τ:Tau}{ρ ρ0:Ren}{N:Nat}(hρ: ∀i,i<N->ρ0 i=ρ (tau τ i)): ∀(a b:AV) (u:Value),dN N a=true->eqV τ a b->bF ρ b u->bF ρ0 a u
 | .any,_,_,_,_,_=>by simp only[bF]
 | .one,b,u,_,h,hb=>by
  simp only[eqV]at h;cases hc:oneCell b with
  |false=>rw[hc]at h;exact h.elim
  |true=>simp only[bF];exact qO hc hb
 | .arr n g,b,u,_,h,hb=>by
  cases b<;>simp only[eqV]at h;obtain⟨rfl,h⟩:=h;simp only[bF]at hb ⊢;obtain⟨A,h1,h2,h3⟩:=hb;exact⟨A,h1,h2,λk u hk hu=>h3 k u hk (by rw[<-h k hk];exact hu)⟩
 | .lit x,b,u,_,h,hb=>by
  cases b<;>simp only[eqV]at h;have:=alX h;subst this;simpa only[bF]using hb
 | .ptr i o,b,u,hn,h,hb=>by
  cases b<;>simp only[eqV]at h;rename_i j p;cases hh:Nat.beq (tau τ i) j<;>rw[hh]at h
  ·exact h.elim
  ·simp only[aP]at h;subst h
   simp only[dN]at hn;simp only[bF]at hb ⊢;rw[hρ i (bg.1 hn),au hh];exact hb
 | .sl i o n c,b,u,hn,h,hb=>by
  cases b<;>simp only[eqV]at h;rename_i j p n' c';cases hh:Nat.beq (tau τ i) j<;>rw[hh]at h
  ·exact h.elim
  ·simp only[aP]at h;obtain⟨rfl,rfl,rfl⟩:=h
   simp only[dN]at hn;simp only[bF]at hb ⊢;rw[hρ i (bg.1 hn),au hh];exact hb
 | .slU i o n c,b,u,hn,h,hb=>by
  cases b<;>simp only[eqV]at h;rename_i j p n' c';cases hh:Nat.beq (tau τ i) j<;>rw[hh]at h
  ·exact h.elim
  ·simp only[aP]at h;obtain⟨rfl,rfl,rfl⟩:=h
   simp only[dN]at hn;simp only[bF]at hb ⊢;rw[hρ i (bg.1 hn),au hh];exact hb
 | .nH i k m o,b,u,hn,h,hb=>by
  cases b<;>simp only[eqV]at h;rename_i j k' m' p;cases hh:(Nat.beq (tau τ i) j&&Nat.beq m m')<;>rw[hh]at h
  ·exact h.elim
  ·simp only[aJ]at hh
   simp only[aP]at h;obtain⟨rfl,rfl⟩:=h;have:=au hh.2;subst this;simp only[dN]at hn;simp only[bF]at hb ⊢;rw[hρ i (bg.1 hn),au hh.1];exact hb
 | .slE i k m n c,b,u,hn,h,hb=>by
  cases b<;>simp only[eqV]at h;rename_i j k' m' n' c';cases hh:(Nat.beq (tau τ i) j&&Nat.beq m m')<;>rw[hh]at h
  ·exact h.elim
  ·simp only[aJ]at hh
   simp only[aP]at h;obtain⟨rfl,rfl,rfl⟩:=h;have:=au hh.2;subst this;simp only[dN]at hn;simp only[bF]at hb ⊢;rw[hρ i (bg.1 hn),au hh.1];exact hb
 | .slW i k m n,b,u,hn,h,hb=>by
  cases b<;>simp only[eqV]at h
  ·rename_i j o n' c'
   cases hh:Nat.beq (tau τ i) j<;>rw[hh]at h
   ·exact h.elim
   ·simp only[aP]at h
    obtain⟨rfl,rfl,rfl⟩:=h;simp only[dN]at hn;simp only[bF]at hb ⊢;rw[hρ i (bg.1 hn),au hh];obtain⟨a,h1,h2⟩:=hb;exact⟨a,_,0,h1,h2,aY _,λh=>(h rfl).elim⟩
  rename_i j k' m' n';cases hh:(Nat.beq (tau τ i) j&&Nat.beq m m')<;>rw[hh]at h
  ·exact h.elim
  ·simp only[aJ]at hh
   simp only[aP]at h;obtain⟨rfl,rfl⟩:=h;have:=au hh.2;subst this;simp only[dN]at hn;simp only[bF]at hb ⊢;rw[hρ i (bg.1 hn),au hh.1];exact hb
 | .slR i k m n,b,u,hn,h,hb=>by
  simp only[dN]at hn;cases b<;>simp only[eqV]at h
  ·rename_i j k' m' n' c'
   cases hh:(Nat.beq (tau τ i) j&&Nat.beq m m')<;>rw[hh]at h
   ·exact h.elim
   ·simp only[aJ]at hh
    simp only[aP]at h;obtain⟨rfl,rfl⟩:=h;have:=au hh.2;subst this;simp only[bF]at hb ⊢;rw[hρ i (bg.1 hn),au hh.1];obtain⟨a,p,h1,h2,h3,h4⟩:=hb;exact .inr ⟨a,p,c',h1,h2,h3,λhn=>h4 (by omega)⟩
  ·rename_i j k' m' n'
   cases hh:(Nat.beq (tau τ i) j&&Nat.beq m m')<;>rw[hh]at h
   ·exact h.elim
   ·simp only[aJ]at hh
    simp only[aP]at h;obtain⟨rfl,rfl⟩:=h;have:=au hh.2;subst this;simp only[bF]at hb ⊢;rw[hρ i (bg.1 hn),au hh.1];obtain⟨a,p,c,h1,h2,h3,h4⟩:=hb;exact .inr ⟨a,p,c,h1,h2,h3,λhn=>(h4 (by omega)).1⟩
  ·rename_i j k' m' n'
   cases hh:(Nat.beq (tau τ i) j&&Nat.beq m m')<;>rw[hh]at h
   ·exact h.elim
   ·simp only[aJ]at hh
    simp only[aP]at h;obtain⟨rfl,rfl⟩:=h;have:=au hh.2;subst this;simp only[bF]at hb ⊢;rw[hρ i (bg.1 hn),au hh.1];exact hb
  ·rename_i z j k' m' n'
   cases hh:(Nat.beq (tau τ i) j&&Nat.beq m m')<;>rw[hh]at h
   ·exact h.elim
   ·simp only[aJ]at hh
    simp only[aP]at h;obtain⟨rfl,rfl⟩:=h;have:=au hh.2;subst this;simp only[bF]at hb ⊢;rw[hρ i (bg.1 hn),au hh.1];rcases hb with ⟨_,h1,h2⟩|⟨_,h1⟩
    ·exact .inl ⟨h1,h2⟩
    ·exact .inr h1
  ·rename_i z j m' n'
   cases hh:(Nat.beq (tau τ i) j&&Nat.beq m m')<;>rw[hh]at h
   ·exact h.elim
   ·simp only[aJ]at hh
    simp only[aP]at h;obtain⟨rfl,rfl⟩:=h;have:=au hh.2;subst this;simp only[bF]at hb ⊢;rw[hρ i (bg.1 hn),au hh.1];rcases hb with ⟨_,h1,h2⟩|⟨_,a,p,c,h1,h2,h3,h4⟩
    ·exact .inl ⟨h1,h2⟩
    ·exact .inr ⟨a,p,c,h1,h2,h3,λhn=>by rw[Nat.zero_mul,aI];exact(h4 (by omega)).1⟩
 | .slV z i m n,b,u,hn,h,hb=>by
  simp only[dN]at hn;cases b<;>simp only[eqV]at h
  ·rename_i v
   cases hh:PD v<;>rw[hh]at h
   ·exact h.elim
   ·have:=af5 hh;subst this
    simp only[aP]at h;obtain⟨rfl,rfl⟩:=h;simp only[bF]at hb ⊢;exact .inl ⟨trivial,trivial,hb⟩
  ·rename_i j k' m' n'
   cases hh:(Nat.beq (tau τ i) j&&Nat.beq m m'&&Nat.beq k' 0)<;>rw[hh]at h
   ·exact h.elim
   ·simp only[aJ]at hh
    simp only[aP]at h;obtain⟨rfl,rfl⟩:=h;have:=au hh.1.2;subst this;have:=au hh.2;subst this;simp only[bF]at hb ⊢;rw[hρ i (bg.1 hn),au hh.1.1];obtain⟨a,p,c,h1,h2,h3,h4⟩:=hb;exact .inr ⟨trivial,a,p,c,h1,h2,h3,λhn=>by have:=h4 hn;rw[Nat.zero_mul,aI,aA]at this;exact this⟩
  ·rename_i z' j m' n'
   cases hh:(Nat.beq (tau τ i) j&&Nat.beq m m')<;>rw[hh]at h
   ·exact h.elim
   ·simp only[aJ]at hh
    simp only[aP]at h;obtain⟨rfl,rfl⟩:=h;have:=au hh.2;subst this;simp only[bF]at hb ⊢;rw[hρ i (bg.1 hn),au hh.1];exact hb
 | .slZ z i k m n,b,u,hn,h,hb=>by
  simp only[dN]at hn;cases b<;>simp only[eqV]at h
  ·rename_i j k' m' n' c'
   cases hh:(Nat.beq (tau τ i) j&&Nat.beq m m')<;>rw[hh]at h
   ·exact h.elim
   ·simp only[aJ]at hh
    simp only[aP]at h;obtain⟨rfl,rfl,rfl⟩:=h;have:=au hh.2;subst this;simp only[bF]at hb ⊢;rw[hρ i (bg.1 hn),au hh.1];obtain⟨a,p,h1,h2,h3,h4⟩:=hb;exact .inr ⟨trivial,a,p,c',h1,h2,h3,λhn=>h4 (by omega)⟩
  ·rename_i j k' m' n'
   cases hh:(Nat.beq (tau τ i) j&&Nat.beq m m')<;>rw[hh]at h
   ·exact h.elim
   ·simp only[aJ]at hh
    simp only[aP]at h;obtain⟨rfl,rfl,rfl⟩:=h;have:=au hh.2;subst this;simp only[bF]at hb ⊢;rw[hρ i (bg.1 hn),au hh.1];obtain⟨a,p,c,h1,h2,h3,h4⟩:=hb;exact .inr ⟨trivial,a,p,c,h1,h2,h3,λhn=>(h4 (by omega)).1⟩
  ·rename_i z' j k' m' n'
   cases hh:(Nat.beq (tau τ i) j&&Nat.beq m m')<;>rw[hh]at h
   ·exact h.elim
   ·simp only[aJ]at hh
    simp only[aP]at h;obtain⟨rfl,rfl,rfl⟩:=h;have:=au hh.2;subst this;simp only[bF]at hb ⊢;rw[hρ i (bg.1 hn),au hh.1];exact hb
 | .mp i,b,u,hn,h,hb=>by
  cases b<;>simp only[eqV]at h;rename_i j;cases hh:Nat.beq (tau τ i) j<;>rw[hh]at h
  ·exact h.elim
  ·simp only[dN]at hn
   simp only[bF]at hb ⊢;rw[hρ i (bg.1 hn),au hh];exact hb
 | .agg l,b,u,hn,h,hb=>by
  cases b<;>simp only[eqV]at h;simp only[dN]at hn;simp only[bF]at hb ⊢;obtain⟨vs,hv,hl⟩:=hb;exact⟨vs,hv,Iw hρ _ _ _ hn h hl⟩
 | .tup l,b,u,hn,h,hb=>by
  cases b<;>simp only[eqV]at h;simp only[dN]at hn;simp only[bF]at hb ⊢;obtain⟨vs,hv,hl⟩:=hb;exact⟨vs,hv,Iw hρ _ _ _ hn h hl⟩
 | .fn f x y,b,u,hn,h,hb=>by
  cases b<;>simp only[eqV]at h;simp only[dN,aJ]at hn;simp only[bF]at hb ⊢;obtain⟨rfl,h1,h2⟩:=h;obtain⟨p,q,hv,l1,l2⟩:=hb;exact⟨p,q,hv,Iw hρ _ _ _ hn.1 h1 l1,Iw hρ _ _ _ hn.2 h2 l2⟩
 | .ifc t x,b,u,hn,h,hb=>by
  cases b<;>simp only[eqV]at h;obtain⟨rfl,h⟩:=h;simp only[dN]at hn;simp only[bF]at hb ⊢;obtain⟨y,h1,h2⟩:=hb;exact⟨y,h1,Iu hρ _ _ _ hn h h2⟩
theorem Iw{τ:Tau}{ρ ρ0:Ren}{N:Nat}(hρ: ∀i,i<N->ρ0 i=ρ (tau τ i)): ∀(a b:List AV) (u:List Value),gU N a=true->eqL τ a b->dQ ρ b u->dQ ρ0 a u
 |[],[],u,_,_,hb=>by simpa[dQ]using hb
 |x::a,y::b,u,hn,h,hb=>by
  simp only[gU,aJ]at hn;simp only[eqL]at h;simp only[dQ]at hb ⊢;obtain⟨v,vs,rfl,h1,h2⟩:=hb;exact⟨v,vs,rfl,Iu hρ _ _ _ hn.1 h.1 h1,Iw hρ _ _ _ hn.2 h.2 h2⟩
 |[],_::_,_,_,h,_=>by simp only[eqL]at h
 |_::_,[],_,_,h,_=>by simp only[eqL]at h
end
def eqC(τ:Tau):Cs->Cs->Prop
 | .av l,.av m=>eqL τ l m
 | .raw l,.raw m=>l=m
 | .row m n g wr,.row m' n' g' wr'=>bif Nat.beq m m' then(n=n'/\ ∀q,q<n->Cs.eff g wr q=Cs.eff g' wr' q)else bif Nat.beq m 1 then(n=n'*m'/\ ∀q j,q<n'->j<m'-> ∃v,(Cs.eff g' wr' q)[j]? =some v/\Cs.eff g wr (q*m'+j)=[v])else False
 | .row m n g wr,.av l=>match nN l with
  |some vs=>vs.length=n*m/\ ∀q,q<n->Cs.eff g wr q=(vs.drop (q*m)).take m
  |none=>False
 | .cat a b,.cat a' b'=>eqC τ a a'/\eqC τ b b'
 |_,_=>False
theorem af6{τ:Tau}{c d:Cs}(h:eqC τ c d)(hn: ∀x y,c≠ .cat x y):c.size=d.size:=by
 have len: ∀(l m:List AV),eqL τ l m->l.length=m.length:=by
  intro l
  induction l with
  |nil=>intro m h;cases m<;>simp_all[eqL]
  |cons a l ih=>intro m h;cases m with
   |nil=>simp[eqL]at h
   |cons b m=>simp only[eqL]at h;simp[ih m h.2]
 unfold eqC at h;split at h
 ·exact len _ _ h
 ·rw[h]
 ·rename_i m n g wr m' n' g' wr'
  cases hb:Nat.beq m m'<;>rw[hb]at h
  ·simp only[aQ]at h
   cases hb1:Nat.beq m 1<;>rw[hb1]at h
   ·exact h.elim
   ·have:=au hb1;subst this
    simp only[aP]at h;simp[Cs.size,h.1]
  ·simp only[aP]at h
   have:=au hb;subst this;simp[Cs.size,h.1]
 ·split at h
  ·rename_i vs hvs
   have:=fM hvs;subst this;simp[Cs.size,h.1]
  ·exact h.elim
 ·exact(hn _ _ rfl).elim
 ·exact h.elim
theorem jT{τ:Tau}: ∀{c d:Cs},eqC τ c d->c.size=d.size:=by
 intro c
 induction c with
 |cat x y ihx ihy=>
  intro d h;cases d with
  |cat x' y'=>simp only[eqC]at h;simp only[Cs.size,ihx h.1,ihy h.2]
  |_=>simp[eqC]at h
 |_=>intro d h;exact af6 h (λ_ _ hh=>by cases hh)
theorem auc{τ:Tau}{ρ ρ0:Ren}{N:Nat}(hρ: ∀i,i<N->ρ0 i=ρ (tau τ i)){l m:List AV}(hn:gU N l=true)(h:eqL τ l m){arr:Array Value}{b:Nat}(hc:fF ρ (.av m) arr b):fF ρ0 (.av l) arr b:=by
 have get: ∀(l m:List AV) (k:Nat) (v:AV),gU N l=true->eqL τ l m->l[k]? =some v-> ∃w,m[k]? =some w/\eqV τ v w/\dN N v=true:=by
  intro l
  induction l with
  |nil=>intro m k v _ _ h;simp at h
  |cons a l ih=>intro m k v hn h hk;cases m with
   |nil=>simp[eqL]at h
   |cons y m=>
    simp only[eqL]at h;simp only[gU,aJ]at hn;cases k with
    |zero=>simp at hk;subst hk;exact⟨y,rfl,h.1,hn.1⟩
    |succ k=>simpa using ih m k v hn.2 h.2 (by simpa using hk)
 intro k v hk;obtain⟨w,hw,he,hb⟩:=get l m k v hn h hk;obtain⟨u,hu,hr⟩:=hc k w hw;exact⟨u,hu,Iu hρ _ _ _ hb he hr⟩
theorem af7{τ:Tau}: ∀{l m:List AV},eqL τ l m->l.length=m.length
 |[],[],_=>rfl
 |a::l,b::m,h=>by simp only[eqL]at h;simp[af7 h.2]
 |[],_::_,h=>by simp only[eqL]at h
 |_::_,[],h=>by simp only[eqL]at h
theorem aqR{τ:Tau}{ρ ρ0:Ren}{N:Nat}(hρ: ∀i,i<N->ρ0 i=ρ (tau τ i)){c d:Cs}(hn:jQ N c=true)(h:eqC τ c d)(hnc: ∀x y,c≠ .cat x y){arr:Array Value}{b:Nat}(hsz:b+d.size<=arr.size)(hc:fF ρ d arr b):fF ρ0 c arr b:=by
 unfold eqC at h;split at h
 ·rename_i l m
  have get: ∀(l m:List AV) (k:Nat) (v:AV),gU N l=true->eqL τ l m->l[k]? =some v-> ∃w,m[k]? =some w/\eqV τ v w/\dN N v=true:=by
   intro l
   induction l with
   |nil=>intro m k v _ _ h;simp at h
   |cons a l ih=>intro m k v hn h hk;cases m with
    |nil=>simp[eqL]at h
    |cons y m=>
     simp only[eqL]at h;simp only[gU,aJ]at hn;cases k with
     |zero=>simp at hk;subst hk;exact⟨y,rfl,h.1,hn.1⟩
     |succ k=>simpa using ih m k v hn.2 h.2 (by simpa using hk)
  intro k v hk;obtain⟨w,hw,he,hb⟩:=get l m k v hn h hk;obtain⟨u,hu,hr⟩:=hc k w hw;exact⟨u,hu,Iu hρ _ _ _ hb he hr⟩
 ·subst h
  intro k v hk;obtain⟨u,hu,hr⟩:=hc k v hk;simp only[Cs.get]at hk;split at hk
  ·cases hk;exact⟨u,hu,by simpa only[bF]using hr⟩
  ·cases hk
 ·rename_i m n g wr m' n' g' wr'
  cases hb:Nat.beq m m'<;>rw[hb]at h
  ·simp only[aQ]at h
   cases hb1:Nat.beq m 1<;>rw[hb1]at h
   ·exact h.elim
   ·have:=au hb1;subst this
    simp only[aP]at h;obtain⟨rfl,h⟩:=h;intro k v hk;have hlt:=Cs.dW hk;simp only[Cs.size,Nat.mul_one]at hlt;have hm:0<m':=Nat.pos_of_ne_zero λh0=>by rw[h0]at hlt;simp at hlt
    have hq:k/m'<n':=Nat.div_lt_of_lt_mul (by rw[Nat.mul_comm];exact hlt);obtain⟨y,h1,h2⟩:=h (k/m') (k%m') hq (Nat.mod_lt _ hm);rw[Nat.div_add_mod']at h2;simp only[Cs.get,bg.2 (show k<n'*m'*1 by omega),aP,Nat.div_one,Nat.mod_one,h2,ah]at hk;cases hk;obtain⟨u,hu,hr⟩:=hc k (.lit y) (by simp only[Cs.get,bg.2 hlt,aP,h1]);exact⟨u,hu,by simpa only[bF]using hr⟩
  ·simp only[aP]at h
   have:=au hb;subst this;obtain⟨rfl,h⟩:=h;intro k v hk;have hlt:=Cs.dW hk;simp only[Cs.size]at hlt;have hq:k/m<n:=Nat.div_lt_of_lt_mul (by rw[Nat.mul_comm];exact hlt);simp only[Cs.get,bg.2 hlt,aP,h _ hq]at hk;obtain⟨u,hu,hr⟩:=hc k v (by simp only[Cs.get,bg.2 hlt,aP];exact hk);refine⟨u,hu,?_⟩;split at hk
   ·cases hk;simpa only[bF]using hr
   ·cases hk;simp only[bF]
 ·rename_i m n g wr l
  split at h
  ·rename_i vs hvs
   have:=fM hvs;subst this;obtain⟨hl,h⟩:=h;intro k v hk;have hlt:=Cs.dW hk;simp only[Cs.size]at hlt;have hq:k/m<n:=Nat.div_lt_of_lt_mul (by rw[Nat.mul_comm];exact hlt);have hm:0<m:=Nat.pos_of_ne_zero λh0=>by rw[h0]at hlt;simp at hlt
   simp only[Cs.get,bg.2 hlt,aP,h _ hq]at hk;rw[List.getElem?_take,if_pos (Nat.mod_lt _ hm),List.getElem?_drop,Nat.div_add_mod']at hk;rw[List.getElem?_eq_getElem (by omega)]at hk;cases hk;obtain⟨u,hu,hr⟩:=hc k (.lit vs[k]) (by simp only[Cs.get,List.getElem?_map];rw[List.getElem?_eq_getElem (by omega)];rfl);exact⟨u,hu,by simpa only[bF]using hr⟩
  ·exact h.elim
 ·exact(hnc _ _ rfl).elim
 ·exact h.elim
theorem Iy{τ:Tau}{ρ ρ0:Ren}{N:Nat}(hρ: ∀i,i<N->ρ0 i=ρ (tau τ i)): ∀{c d:Cs},jQ N c=true->eqC τ c d-> ∀{arr:Array Value} {b:Nat},b+d.size<=arr.size->fF ρ d arr b->fF ρ0 c arr b:=by
 intro c
 induction c with
 |cat x y ihx ihy=>
  intro d hn h arr b hsz hc;cases d with
  |cat x' y'=>
   simp only[eqC]at h;simp only[jQ,aJ]at hn;simp only[Cs.size]at hsz;rw[xQ]at hc ⊢;have hx:=jT h.1;exact⟨ihx hn.1 h.1 (by omega) hc.1,by rw[hx];exact ihy hn.2 h.2 (by omega) hc.2⟩
  |_=>simp[eqC]at h
 |_=>intro d hn h arr b hsz hc;exact aqR hρ hn h (λ_ _ hh=>by cases hh) hsz hc
def UU:List (AV×AV×Nat)->List (AV×AV×Nat)->Bool
 |[],[]=>true
 |(.lit (.int k a),.fn (.func f) [] [],b)::l,(.lit (.int k' a'),.fn (.func f') [] [],b')::l'=>decide (k=k')&&decide (a=a')&&Nat.beq f f'&&Nat.beq b b'&&UU l l'
 |_,_=>false
theorem ZK: ∀{l l':List (AV×AV×Nat)},UU l l'=true->l=l'/\(l.all λx=>dN 0 x.1&&dN 0 x.2.1)=true
 |[],[],_=>⟨rfl,rfl⟩
 |[],_::_,h=>by simp[UU]at h
 |x::l,[],h=>by simp[UU]at h
 |x::l,y::l',h=>by
  unfold UU at h;split at h
  ·rename_i heq _;cases heq
  ·rename_i k a f b l1 k' a' f' b' l2 e1 e2
   cases e1;cases e2;simp only[aJ,decide_eq_true_eq]at h;obtain⟨⟨⟨⟨rfl,rfl⟩,hf⟩,hb⟩,hl⟩:=h;have:=au hf;subst this;have:=au hb;subst this;obtain⟨rfl,h2⟩:=ZK hl;exact⟨rfl,by simp only[List.all_cons,h2];rfl⟩
  ·cases h
def zy:List (Option AV)->Option (List AV)
 |[]=>some []
 |some v::r=>match zy r with
  |some l=>some (v::l)
  |none=>none
 |none::_=>none
theorem Bj: ∀{l:List (Option AV)} {m:List AV},zy l=some m->l=m.map some
 |[],m,h=>by simp[zy]at h;simp[<-h]
 |some v::r,m,h=>by
  unfold zy at h;split at h
  ·rename_i l hl;cases h;rw[Bj hl];rfl
  ·cases h
 |none::r,m,h=>by simp[zy]at h
def untr(c d:Cs):Cs:=match c,d with
 | .row ..,.tr n z t=>match zy ((List.range n).map (Cs.tr n z t).get)with
  |some l=> .av l
  |none=>d
 |_,_=>d
theorem J5(c d:Cs):(untr c d).size=d.size/\ ∀{ρ:Ren} {arr:Array Value} {b:Nat},fF ρ d arr b->fF ρ (untr c d) arr b:=by
 unfold untr;split
 ·rename_i m n' g wr n z t
  split
  ·rename_i l hl
   have hl:=Bj hl;have hlen:l.length=n:=by
    have:=congrArg List.length hl;simpa using this.symm
   refine⟨by simp[Cs.size,hlen],λ{ρ arr b} h k v hk=> ?_⟩;simp only[Cs.get]at hk;refine h k v ?_;have e:=congrArg (λx=>x[k]?) hl;have hkn:k<n:=by rw[<-hlen];exact(List.getElem?_eq_some_iff.1 hk).1
   simp only[List.getElem?_map,hk,Option.map_some,List.getElem?_range hkn,ak]at e;exact e
  ·exact⟨rfl,λh=>h⟩
 ·exact⟨rfl,λh=>h⟩
def eqO(τ:Tau):dF->Option dF->Prop
 | .cells e c,some (.cells e' c')=>bif Nat.beq e e' then eqC τ c (untr c c')else False
 | .room e c,some (.room e' c')=>bif Nat.beq e e' then eqC τ c c' else False
 | .room e c,some (.cells e' c')=>bif Nat.beq e e' then eqC τ c c' else False
 | .ro (.av l),some (.ro (.av m))=>eqL τ l m
 | .ro c,some (.ro c')=>c=c'/\jQ 0 c=true
 | .map es cl,some (.map es' cl')=>bif UU es es'&&Nat.beq cl cl' then True else(es=es'/\cl=cl'/\(es.all λx=>dN 0 x.1&&dN 0 x.2.1)=true)
 | .iC z e c,some (.iC z' e' c')=>bif Nat.beq e e' then(z=z'/\eqC τ c c')else False
 | .iC z e c,some (.room e' c')=>bif Nat.beq e e' then(z=false/\eqC τ c c')else False
 | .nK m,some (.nK m')=>m=m'
 | .nK m,some (.map [] cl')=>m.n=0/\m.clk=cl'
 | .iter (some i) s l t,some (.iter (some j) s' l' t')=>bif Nat.beq (tau τ i) j then(s=s'/\l=l'/\t=t')else False
 | .abs A,some (.abs B)=>A=B
 |_,_=>False
theorem J6{v:AV}(h:dN 0 v=true){ρ ρ0:Ren}{u:Value}(hv:bF ρ v u):bF ρ0 v u:=by
 have h1:=bF.jd (τ:=id) (ρ:=ρ) (ρ':=ρ) (λi a h=>h) v u hv;have e: ∀v,jd id v=v:=by
  intro v;exact(J7 v)
 rw[e]at h1;exact bF.Ur (τ:=id) (ρ':=ρ) (n:=0) (λi hi=>absurd hi (Nat.not_lt_zero _)) v u h (by rw[e];exact hv)
where
 J7: ∀v:AV,jd id v=v
  | .any| .lit _| .ptr .. | .sl .. | .slU .. | .nH .. | .slE .. | .slW .. | .slR .. | .slZ .. | .slV .. | .one| .arr .. | .mp _=>rfl
  | .agg l=>by simp only[jd,Ea l]
  | .tup l=>by simp only[jd,Ea l]
  | .fn f a b=>by simp only[jd,Ea a,Ea b]
  | .ifc t x=>by simp only[jd,J7 x]
 Ea: ∀l:List AV,lmap id l=l
  |[]=>rfl
  |a::l=>by simp only[lmap,J7 a,Ea l]
theorem J8{τ:Tau}{N:Nat}{o:dF}{x:Option dF}(hn:oW N o=true)(h:eqO τ o x): ∃o',x=some o'/\Soft (tau τ) N o o':=by
 have low: ∀{c:Cs} {ρ ρ0:Ren} {arr:Array Value} {b:Nat},jQ 0 c=true->fF ρ c arr b->fF ρ0 c arr b:=λhc hr k v hk=>by
  obtain⟨u,hu,hv⟩:=hr k v hk;exact⟨u,hu,J6 (zi hc hk) hv⟩
 unfold eqO at h;split at h
 ·rename_i e c e' c'
  cases hb:Nat.beq e e'<;>rw[hb]at h
  ·exact h.elim
  ·simp only[aP]at h
   have:=au hb;subst this;refine⟨_,rfl,λρ ρ0 w T a S hρ ⟨h0,hS,arr,h1,h2,h3,h4⟩=>⟨h0,hS,arr,h1,by rw[jT h,(J5 _ _).1];exact h2,by rw[jT h,(J5 _ _).1];exact h3,Iy hρ hn h (by rw[(J5 _ _).1];omega) ((J5 _ _).2 h4)⟩⟩
 ·rename_i e c e' c'
  cases hb:Nat.beq e e'<;>rw[hb]at h
  ·exact h.elim
  ·simp only[aP]at h
   have:=au hb;subst this;refine⟨_,rfl,λρ ρ0 w T a S hρ ⟨h0,hS,arr,h1,h2,h3,h4⟩=>⟨h0,hS,arr,h1,h2,by rw[jT h];exact h3,Iy hρ hn h (by omega) h4⟩⟩
 ·rename_i e c e' c'
  cases hb:Nat.beq e e'<;>rw[hb]at h
  ·exact h.elim
  ·simp only[aP]at h
   have:=au hb;subst this;refine⟨_,rfl,λρ ρ0 w T a S hρ ⟨h0,hS,arr,h1,h2,h3,h4⟩=>⟨h0,hS,arr,h1,by omega,by rw[jT h];omega,Iy hρ hn h (by omega) h4⟩⟩
 ·rename_i l m
  refine⟨_,rfl,λρ ρ0 w T a S hρ ho=>ho.imp (λh0=> ?_) λ⟨hT,arr,e,f,h1,h2⟩=>⟨hT,arr,e,f,h1,auc hρ hn h h2⟩⟩;simp only[Cs.size]at h0 ⊢;rw[af7 h];exact h0
 ·obtain⟨rfl,hc⟩:=h
  exact⟨_,rfl,λρ ρ0 w T a S hρ ho=>ho.imp id λ⟨hT,arr,e,f,h1,h2⟩=>⟨hT,arr,e,f,h1,low hc h2⟩⟩
 ·rename_i es cl es' cl'
  have h:es=es'/\cl=cl'/\(es.all λx=>dN 0 x.1&&dN 0 x.2.1)=true:=by
   cases hb:(UU es es'&&Nat.beq cl cl')with
   |false=>rw[hb]at h;exact h
   |true=>
    simp only[aJ]at hb;obtain⟨h1,h2⟩:=ZK hb.1;exact⟨h1,au hb.2,h2⟩
  obtain⟨rfl,rfl,hb⟩:=h;refine⟨_,rfl,λρ ρ0 w T a S hρ ⟨hS,arr,h1,h2⟩=>⟨hS,arr,h1,?_⟩⟩;have: ∀(es:List (AV×AV×Nat)) (l:List MapEntry),(es.all λx=>dN 0 x.1&&dN 0 x.2.1)=true->kM ρ es l->kM ρ0 es l:=by
   intro es
   induction es with
   |nil=>intro l _ h;exact h
   |cons x es ih=>
    rintro l hb ⟨e,l',rfl,q1,q2,q3,q4⟩
    simp only[List.all_cons,aJ]at hb;exact⟨e,l',rfl,J6 hb.1.1 q1,J6 hb.1.2 q2,q3,ih l' hb.2 q4⟩
  exact this _ _ hb h2
 ·rename_i z e c z' e' c'
  cases hb:Nat.beq e e'<;>rw[hb]at h
  ·exact h.elim
  ·simp only[aP]at h
   have:=au hb;subst this;obtain⟨rfl,h⟩:=h;refine⟨_,rfl,λρ ρ0 w T a S hρ ho=>ho.imp (λ⟨h1,h2⟩=>⟨h1,by rw[jT h];exact h2⟩) λ⟨hz,h0,hS,arr,h1,h2,h3,h4⟩=>⟨hz,h0,hS,arr,h1,h2,by rw[jT h];exact h3,Iy hρ hn h (by omega) h4⟩⟩
 ·rename_i z e c e' c'
  cases hb:Nat.beq e e'<;>rw[hb]at h
  ·exact h.elim
  ·simp only[aP]at h
   have:=au hb;subst this;obtain⟨rfl,h⟩:=h;refine⟨_,rfl,λρ ρ0 w T a S hρ ⟨h0,hS,arr,h1,h2,h3,h4⟩=> .inr ⟨rfl,h0,hS,arr,h1,h2,by rw[jT h];exact h3,Iy hρ hn h (by omega) h4⟩⟩
 ·subst h
  exact⟨_,rfl,λρ ρ0 w T a S hρ ho=>ho⟩
 ·rename_i m cl'
  obtain⟨hn0,rfl⟩:=h;exact⟨_,rfl,λρ ρ0 w T a S hρ ⟨hS,arr,h1,h2⟩=>⟨hS,arr,h1,by simp only[kM]at h2;rw[hn0];simpa using h2,λj hj=>by rw[hn0]at hj;exact absurd hj (Nat.not_lt_zero _)⟩⟩
 ·rename_i i s l t j s' l' t'
  cases hb:Nat.beq (tau τ i) j<;>rw[hb]at h
  ·exact h.elim
  ·simp only[aP]at h
   obtain⟨rfl,rfl,rfl⟩:=h;simp only[oW]at hn;have hij:=au hb;exact⟨_,rfl,λρ ρ0 w T a S hρ ⟨h0,hS,mb,⟨b,hb1,hb2⟩,h2⟩=>⟨h0,hS,mb,⟨b,by rw[hρ i (bg.1 hn),hij];exact hb1,hb2⟩,h2⟩⟩
 ·subst h
  exact⟨_,rfl,λρ ρ0 w T a S hρ ho=>ho⟩
 ·exact h.elim
def noGh:List (Nat×dF)->Bool
 |[]=>true
 |(_,.iC ..)::_=>false
 |_::r=>noGh r
def Iz(m:HM):List (Nat×dF)->HM
 |[]=>m
 |(i,.iC _ e (.row w _ _ _))::r=>(ghN i,some (.iC true e (.row w 0 (λ_=>[]) [])))::Iz m r
 |_::r=>Iz m r
def lC(k:Nat)(h:Heap)(obs:List (Nat×dF)):Heap:=bif noGh obs|| !Nat.ble k h.next|| !Nat.ble h.next 100000|| !(obs.all λp=>Nat.blt p.1 100000)then h else⟨200000,Iz h.m obs⟩
theorem pz{m:HM}: ∀{obs:List (Nat×dF)} {j:Nat} {o:dF},(obs.all λp=>Nat.blt p.1 100000)=true->(Iz m obs).get j=some o->m.get j=some o\/(100000<=j/\j<200000/\ ∃e w,o= .iC true e (.row w 0 (λ_=>[]) []))
 |[],j,o,_,h=> .inl h
 |(i,x)::r,j,o,hb,h=>by
  simp only[List.all_cons,aJ]at hb;have hi:=bg.1 hb.1;have skip:(Iz m r).get j=some o->m.get j=some o\/(100000<=j/\j<200000/\ ∃e w,o= .iC true e (.row w 0 (λ_=>[]) [])):=λh=>pz hb.2 h
  unfold Iz at h;split at h
  ·rename_i hh;cases hh
  ·rename_i i' z e w n g wr r' hh
   cases hh;simp only[HM.get]at h;cases hc:Nat.beq (ghN i) j<;>rw[hc]at h
   ·exact skip h
   ·cases h
    have:=au hc;unfold ghN at this;exact .inr ⟨by omega,by omega,e,w,rfl⟩
  ·rename_i y r' _ hh
   cases hh;exact skip h
theorem Rel.lC{h:Heap}{ρ:Ren}{T:Nat->Prop}{w:World}(hR:Rel h ρ T w)(k:Nat)(obs:List (Nat×dF)): ∃ρ',ρ.le ρ'/\(∀i,i<k->ρ' i=ρ i)/\h.next<=(SE.lC k h obs).next/\Rel (SE.lC k h obs) ρ' T w:=by
 unfold SE.lC;cases hb:(noGh obs|| !Nat.ble k h.next|| !Nat.ble h.next 100000|| !(obs.all λp=>Nat.blt p.1 100000))with
 |true=>exact⟨ρ,Ren.le_refl _,λ_ _=>rfl,aY _,hR⟩
 |false=>
  simp only[Bool.or_eq_false_iff,Bool.not_eq_false']at hb;obtain⟨⟨⟨_,hk⟩,hn⟩,ho⟩:=hb;have hn:=Nat.le_of_ble_eq_true hn;have hk:=Nat.le_of_ble_eq_true hk;obtain⟨S,h1,h2,h3,h4,h5⟩:=hR;have low: ∀i o,h.m.get i=some o->i<h.next:=λi o hi=>by
   obtain⟨a,ha,_⟩:=h1 i o hi;rcases Nat.lt_or_ge i h.next with h'|h'
   ·exact h'
   ·rw[h4 i h']at ha;cases ha
  let ρ':Ren:=λi=>if i<h.next then ρ i else if i<200000 then some ⟨0,0,0⟩else none
  have hle:ρ.le ρ':=λi a ha=>by
   rcases Nat.lt_or_ge i h.next with h'|h'
   ·simp only[ρ',if_pos h'];exact ha
   ·rw[h4 i h']at ha;cases ha
  refine⟨ρ',hle,λi hi=>by simp only[ρ',if_pos (Nat.lt_of_lt_of_le hi hk)],by show h.next<=200000;omega,λi b=>i<h.next/\S i b,λi o hi=> ?_,λi j o o' b hi hj hij hSi hSj=> ?_,λi o b hi hS=> ?_,λi hi=> ?_,h5⟩
  ·rcases pz ho hi with hi|⟨g1,g2,e,x,rfl⟩
   ·obtain⟨a,ha,hh⟩:=h1 i o hi
    have hlt:=low i o hi;refine⟨a,hle _ _ ha,?_⟩;have:(λb=>i<h.next/\S i b)=S i:=by funext b;simp[hlt]
    show dI ρ' w T a (λb=>i<h.next/\S i b) o;rw[this];exact hh.mono hle
   ·exact⟨⟨0,0,0⟩,by simp only[ρ',if_neg (by omega: ¬i<h.next),if_pos g2],.inl ⟨rfl,by simp[Cs.size]⟩⟩
  ·rcases pz ho hi with hi|⟨g1,_⟩
   ·rcases pz ho hj with hj|⟨g1,_⟩
    ·exact h2 i j o o' b hi hj hij hSi.2 hSj.2
    ·have:=hSj.1;omega
   ·have:=hSi.1;omega
  ·rcases pz ho hi with hi|⟨g1,_⟩
   ·exact h3 i o b hi hS.2
   ·have:=hS.1;omega
  ·have hi:200000<=i:=hi
   simp only[ρ',if_neg (by omega: ¬i<h.next),if_neg (by omega: ¬i<200000)]
theorem St.sub2{k n:Nat}{ρ:Ren}{T:Nat->Prop}{fr fr':Fr}{h h':Heap}{a:Act}{w:World}(hs:St k n ρ T fr h a w)(τ:Nat->Nat)(hτk: ∀i,i<k->τ i=i)(hk:k<=h'.next)
  (hinj: ∀i j,i<h'.next->j<h'.next->τ i=τ j->i=j) (aly: ∀i o0,h'.get i=some o0->i<h'.next/\ ∃o,h.get (τ i)=some o/\Soft τ h'.next o0 o)
  (hfr: ∀t,∀(ρ ρ0:Ren) u,(∀i,i<h'.next->ρ0 i=ρ (τ i))->bF ρ (look fr t) u->bF ρ0 (look fr' t) u): ∃ρ',(∀i,i<k->ρ' i=ρ i)/\St k n ρ' T fr' h' a w:=by
 obtain⟨S,h1,h2,h3,h4,h5⟩:=hs.rel;let ρ':Ren:=λi=>if i<h'.next then ρ (τ i)else none
 have hρ: ∀i,i<h'.next->ρ' i=ρ (τ i):=λi hi=>by simp[ρ',hi]
 refine⟨ρ',λi hi=>by rw[hρ i (by omega),hτk i hi],hk,⟨λi=>S (τ i),λi o0 hi=> ?_,λi j o o' b hi hj hij hSi hSj=> ?_,λi o0 b hi hS=> ?_,λi hi=>by simp[ρ'];omega,h5⟩,⟨hs.fr.size,hs.fr.defers,λt=> ?_⟩⟩
 ·obtain⟨hlt,o,ho,JJ⟩:=aly i o0 hi
  obtain⟨x,hx,hh⟩:=h1 _ o ho;exact⟨x,by rw[hρ i hlt];exact hx,JJ ρ ρ' w T x _ hρ hh⟩
 ·obtain⟨hlt,x,hx,_⟩:=aly i o hi
  obtain⟨hlt',y,hy,_⟩:=aly j o' hj;exact h2 _ _ x y b hx hy (λhe=>hij (hinj i j hlt hlt' he)) hSi hSj
 ·obtain⟨hlt,x,hx,_⟩:=aly i o0 hi
  exact h3 _ x b hx hS
 ·exact hfr t ρ ρ' _ hρ (hs.fr.vals t)
def ZL(N:Nat)(τ:Tau):Tau:=τ++goT τ
where
 goT:Tau->Tau
  |[]=>[]
  |p::r=>bif Nat.blt p.2 N&& !(τ.any λq=>Nat.beq q.1 p.2)then(p.2,300000+p.2)::goT r else goT r
def PE(k N:Nat)(τ:Tau):Bool:=τ.all (λp=>Nat.ble k p.1&&(Nat.ble N p.2||τ.any λq=>Nat.beq q.1 p.2))&&distinct (τ.map (·.2))
where
 distinct:List Nat->Bool
  |[]=>true
  |x::l=>l.all (λy=> !Nat.beq x y)&&distinct l
theorem Eb(τ:Tau)(i:Nat):tau τ i=i\/ ∃p∈τ,p.1=i/\p.2=tau τ i:=by
 induction τ with
 |nil=>exact .inl rfl
 |cons p τ ih=>
  simp only[tau];cases hb:Nat.beq p.1 i with
  |true=>exact .inr ⟨p,by simp,au hb,rfl⟩
  |false=>
   rcases ih with h|⟨q,hq,h1,h2⟩
   ·exact .inl h
   ·exact .inr ⟨q,by simp[hq],h1,h2⟩
theorem Bl{τ:Tau}(h:PE.distinct (τ.map (·.2))=true): ∀p∈τ,∀q∈τ,p.2=q.2->p=q:=by
 induction τ with
 |nil=>intro p hp;cases hp
 |cons x τ ih=>
  simp only[List.map_cons,PE.distinct,aJ,List.all_eq_true,Bool.not_eq_true']at h;obtain⟨h1,h2⟩:=h;have ne: ∀y∈τ,x.2≠y.2:=λy hy he=>by
   have:=h1 y.2 (List.mem_map_of_mem hy);rw[he,Nat.beq_refl]at this;cases this
  intro p hp q hq he;rcases List.mem_cons.1 hp with hp1|hp1
  ·rcases List.mem_cons.1 hq with hq1|hq1
   ·rw[hp1,hq1]
   ·exact(ne q hq1 (by rw[<-hp1];exact he)).elim
  ·rcases List.mem_cons.1 hq with hq1|hq1
   ·exact(ne p hp1 (by rw[<-hq1];exact he.symm)).elim
   ·exact ih h2 p hp1 q hq1 he
theorem aqS{τ:Tau}{q:Nat×Nat}(hq:q∈τ): ∃p∈τ,p.1=q.1/\p.2=tau τ q.1:=by
 induction τ with
 |nil=>cases hq
 |cons p τ ih=>
  simp only[tau];cases hb:Nat.beq p.1 q.1 with
  |true=>exact⟨p,by simp,au hb,rfl⟩
  |false=>
   rcases List.mem_cons.1 hq with rfl|hq
   ·rw[Nat.beq_refl]at hb;cases hb
   ·obtain⟨r,hr,h1,h2⟩:=ih hq
    exact⟨r,List.mem_cons_of_mem _ hr,h1,h2⟩
theorem acj{k N:Nat}{τ:Tau}(h:PE k N τ=true):(∀i,i<k->tau τ i=i)/\ ∀i j,i<N->j<N->tau τ i=tau τ j->i=j:=by
 simp only[PE,aJ,List.all_eq_true,Bool.or_eq_true,Nat.ble_eq,List.any_eq_true]at h;obtain⟨h1,h2⟩:=h;have out: ∀i j,j<N->(∀p∈τ,p.1=i->p.2=tau τ i->tau τ j=j->tau τ i=tau τ j->i=j):=λi j hj p hp h3 h4 hb he=>by
  rcases (h1 p hp).2 with hn|⟨q,hq,hqe⟩
  ·omega
  ·have hqe:=au hqe
   have hqj:q.1=j:=by omega
   obtain⟨r,hr,h5,h6⟩:=aqS hq;rw[hqj]at h5 h6;have:=Bl h2 p hp r hr (by omega);subst this;omega
 refine⟨λi hi=> ?_,λi j hi hj he=> ?_⟩
 ·rcases Eb τ i with h|⟨p,hp,h3,_⟩
  ·exact h
  ·have:=(h1 p hp).1;omega
 ·rcases Eb τ i with ha|⟨p,hp,h3,h4⟩<;>rcases Eb τ j with hb|⟨q,hq,h5,h6⟩
  ·omega
  ·exact(out j i hi q hq h5 h6 ha he.symm).symm
  ·exact out i j hj p hp h3 h4 hb he
  ·have:=Bl h2 p hp q hq (by omega)
   subst this;omega
mutual
def oD(N:Nat)(τ:Tau):AV->Bool
 | .any=>true
 | .lit _=>true
 | .ptr i _=>Nat.blt i N&&Nat.beq (tau τ i) i
 | .sl i _ _ _=>Nat.blt i N&&Nat.beq (tau τ i) i
 | .slU i _ _ _=>Nat.blt i N&&Nat.beq (tau τ i) i
 | .nH i _ _ _=>Nat.blt i N&&Nat.beq (tau τ i) i
 | .slE i _ _ _ _=>Nat.blt i N&&Nat.beq (tau τ i) i
 | .slW i _ _ _=>Nat.blt i N&&Nat.beq (tau τ i) i
 | .slR i _ _ _=>Nat.blt i N&&Nat.beq (tau τ i) i
 | .slZ _ i _ _ _=>Nat.blt i N&&Nat.beq (tau τ i) i
 | .slV _ i _ _=>Nat.blt i N&&Nat.beq (tau τ i) i
 | .one=>true
 | .arr .. =>true
 | .mp i=>Nat.blt i N&&Nat.beq (tau τ i) i
 | .fn _ a b=>UW N τ a&&UW N τ b
 | .agg l=>UW N τ l
 | .tup l=>UW N τ l
 | .ifc _ v=>oD N τ v
def UW(N:Nat)(τ:Tau):List AV->Bool
 |[]=>true
 |a::l=>oD N τ a&&UW N τ l
end
mutual
theorem J9{N:Nat}{τ:Tau}{ρ ρ0:Ren}(hρ: ∀i,i<N->ρ0 i=ρ (tau τ i)): ∀(v:AV) (u:Value),oD N τ v=true->bF ρ v u->bF ρ0 v u
 | .any,_,_,_=>by simp only[bF]
 | .lit _,_,_,h=>by simpa only[bF]using h
 | .ptr i o,u,hs,h=>by simp only[oD,aJ]at hs;have e:=hρ i (bg.1 hs.1);rw[au hs.2]at e;simp only[bF,e]at h ⊢;exact h
 | .sl i o n c,u,hs,h=>by simp only[oD,aJ]at hs;have e:=hρ i (bg.1 hs.1);rw[au hs.2]at e;simp only[bF,e]at h ⊢;exact h
 | .slU i o n c,u,hs,h=>by simp only[oD,aJ]at hs;have e:=hρ i (bg.1 hs.1);rw[au hs.2]at e;simp only[bF,e]at h ⊢;exact h
 | .nH i k m j,u,hs,h=>by simp only[oD,aJ]at hs;have e:=hρ i (bg.1 hs.1);rw[au hs.2]at e;simp only[bF,e]at h ⊢;exact h
 | .slE i k m n c,u,hs,h=>by simp only[oD,aJ]at hs;have e:=hρ i (bg.1 hs.1);rw[au hs.2]at e;simp only[bF,e]at h ⊢;exact h
 | .slW i k m n,u,hs,h=>by simp only[oD,aJ]at hs;have e:=hρ i (bg.1 hs.1);rw[au hs.2]at e;simp only[bF,e]at h ⊢;exact h
 | .slR i k m n,u,hs,h=>by simp only[oD,aJ]at hs;have e:=hρ i (bg.1 hs.1);rw[au hs.2]at e;simp only[bF,e]at h ⊢;exact h
 | .slZ z i k m n,u,hs,h=>by simp only[oD,aJ]at hs;have e:=hρ i (bg.1 hs.1);rw[au hs.2]at e;simp only[bF,e]at h ⊢;exact h
 | .slV z i m n,u,hs,h=>by simp only[oD,aJ]at hs;have e:=hρ i (bg.1 hs.1);rw[au hs.2]at e;simp only[bF,e]at h ⊢;exact h
 | .one,u,hs,h=>by simpa only[bF]using h
 | .arr ..,u,hs,h=>by simpa only[bF]using h
 | .mp i,u,hs,h=>by simp only[oD,aJ]at hs;have e:=hρ i (bg.1 hs.1);rw[au hs.2]at e;simp only[bF,e]at h ⊢;exact h
 | .fn f a b,u,hs,h=>by
  simp only[oD,aJ]at hs;simp only[bF]at h ⊢;obtain⟨x,y,hv,h1,h2⟩:=h;exact⟨x,y,hv,yg hρ _ _ hs.1 h1,yg hρ _ _ hs.2 h2⟩
 | .agg l,u,hs,h=>by
  simp only[oD]at hs;simp only[bF]at h ⊢;obtain⟨x,hv,h1⟩:=h;exact⟨x,hv,yg hρ _ _ hs h1⟩
 | .tup l,u,hs,h=>by
  simp only[oD]at hs;simp only[bF]at h ⊢;obtain⟨x,hv,h1⟩:=h;exact⟨x,hv,yg hρ _ _ hs h1⟩
 | .ifc t v,u,hs,h=>by
  simp only[oD]at hs;simp only[bF]at h ⊢;obtain⟨x,hv,h1⟩:=h;exact⟨x,hv,J9 hρ _ _ hs h1⟩
theorem yg{N:Nat}{τ:Tau}{ρ ρ0:Ren}(hρ: ∀i,i<N->ρ0 i=ρ (tau τ i)): ∀(l:List AV) (u:List Value),UW N τ l=true->dQ ρ l u->dQ ρ0 l u
 |[],_,_,h=>by simpa[dQ]using h
 |a::l,_,hs,h=>by
  simp only[UW,aJ]at hs;simp only[dQ]at h ⊢;obtain⟨v,vs,rfl,h1,h2⟩:=h;exact⟨v,vs,rfl,J9 hρ _ _ hs.1 h1,yg hρ _ _ hs.2 h2⟩
end
structure alY where
 σ:Type
 fr:σ->List (Nat×AV)
 ob:σ->List (Nat×Option dF)
 inv:σ->Prop
 meas:σ->Nat
 nx:Nat:=0
 test:Fr->Heap->Bool:=λ_ _=>true
structure LGh where
 G:Type
 forms:G->List alY
structure zA where
 σ:Type
 fr:σ->List (Nat×AV)
 ob:σ->List (Nat×Option dF)
 inv:σ->Prop
 meas:σ->Nat
 nx:Nat:=0
 test:Fr->Heap->Bool:=λ_ _=>true
 gh:Option LGh:=none
def alY.ann(A:alY):zA:={σ:=A.σ,fr:=A.fr,ob:=A.ob,inv:=A.inv,meas:=A.meas,nx:=A.nx,test:=A.test}
def LGh.all(e:LGh)(g:e.G):List zA:=(e.forms g).map alY.ann
def LGh.an(e:LGh):List zA:=[{σ:=Unit,fr:=λ_=>[],ob:=λ_=>[],inv:=λ_=>False,meas:=λ_=>0,gh:=some e}]
def lookO(ob:List (Nat×Option dF))(h:Heap)(i:Nat):Option dF:=match ob with
 |[]=>h.get i
 |(j,o)::r=>bif Nat.beq i j then o else lookO r h i
def ru(ob:List (Nat×Option dF))(h:Heap):Nat->List (Nat×dF)
 |0=>[]
 |i+1=>match lookO ob h i with
  |some o=>(i,o)::ru ob h i
  |none=>ru ob h i
def qF(N:Nat)(l:List (Nat×dF)):Heap:=⟨N,l.map λp=>(p.1,some p.2)⟩
def inW(W:List Nat)(t:Nat):Bool:=W.any λx=>Nat.beq x t
def vk(fr:Fr)(W:List Nat):Nat->List (Nat×AV)
 |0=>[]
 |t+1=>bif inW W t then vk fr W t else(match look fr t with
  | .any=>vk fr W t
  |v=>(t,v)::vk fr W t)
def af8(l:List (Nat×AV))(fr:Fr)(W:List Nat)(n:Nat):Fr:=frL (l++vk fr W n)
def matC:Cs->Cs->Tau->Tau
 | .av l,.av m,τ=>aci l m τ
 | .cat a b,.cat a' b',τ=>matC b b' (matC a a' τ)
 |_,_,τ=>τ
def aqT(h:Heap):List (Nat×dF)->Tau->Tau
 |[],τ=>τ
 |(i,o)::r,τ=>aqT h r (match o,h.get (tau τ i)with
  | .cells _ c,some (.cells _ d)=>matC c d τ
  |_,_=>τ)
def aud(τ:Tau)(h:Heap):List (Nat×dF)->Prop
 |[]=>True
 |(i,o)::r=>eqO τ o (h.get (tau τ i))/\aud τ h r
def nS(N:Nat)(l:List (Nat×dF)):Bool:=l.all λp=>oW N p.2
def aeT(k N n:Nat)(l:List (Nat×AV))(W:List Nat)(fr0:Fr)(obs:List (Nat×dF))(fr:Fr)(h:Heap):Prop:=
 go (lC k h obs) (ZL N (aqT (lC k h obs) obs (aci (l.map (·.2)) (l.map λp=>look fr p.1) [])))
where
 go (h:Heap) (τ:Tau):Prop:=bif PE k N τ&&gU N (l.map (·.2))&&nS N obs&&l.all (λp=>inW W p.1)&&(vk fr0 W n).all (λp=>oD N τ p.2)&&Nat.ble k N then(eqL τ (l.map (·.2)) (l.map λp=>look fr p.1)/\aud τ h obs)else False
def Agree(n:Nat)(W:List Nat)(fr fr':Fr):Prop:= ∀t,t<n->inW W t=false->look fr' t=look fr t
theorem UY{W:List Nat}{t:Nat}:inW W t=true↔t∈W:=by
 simp only[inW,List.any_eq_true];exact⟨λ⟨x,hx,hb⟩=>by rw[<-au hb];exact hx,λh=>⟨t,h,Nat.beq_refl _⟩⟩
theorem IB(N:Nat): ∀(l:List (Nat×dF)) (i:Nat) (o:dF),(qF N l).get i=some o->(i,o)∈l
 |[],i,o,h=>by simp[qF,Heap.get,HM.get]at h
 |(j,x)::l,i,o,h=>by
  simp only[qF,Heap.get,List.map_cons,HM.get]at h;cases hb:Nat.beq j i<;>rw[hb]at h
  ·have:=IB N l i o (by simpa[qF,Heap.get]using h)
   exact List.mem_cons_of_mem _ this
  ·simp at h;subst h;rw[au hb];simp
theorem Df{ob:List (Nat×Option dF)}{h:Heap}: ∀{N:Nat} {p:Nat×dF},p∈ru ob h N->p.1<N
 |0,p,hp=>by cases hp
 |i+1,p,hp=>by
  simp only[ru]at hp;split at hp
  ·rcases List.mem_cons.1 hp with rfl|hp
   ·simp
   ·have:=Df hp;omega
  ·have:=Df hp;omega
theorem Ec{fr:Fr}{W:List Nat}{t:Nat}: ∀(n:Nat),(match (vk fr W n).find? (λp=>p.1==t)with|some p=>p.2|none=>AV.any)=if t<n/\inW W t=false then look fr t else .any
 |0=>by simp[vk]
 |m+1=>by
  have ih:=Ec (fr:=fr) (W:=W) (t:=t) m;simp only[vk];cases hw:inW W m with
  |true=>
   simp only[aP,ih];by_cases h:t=m
   ·subst h;simp[hw]
   ·by_cases h2:t<m
    ·simp[h2,Nat.lt_succ_of_lt h2]
    ·rw[if_neg (by omega),if_neg (by omega)]
  |false=>
   simp only[aQ];have key: ∀v:AV,look fr m=v->(match ((match v with| .any=>vk fr W m|v=>(m,v)::vk fr W m):List (Nat×AV)).find? (λp=>p.1==t)with|some p=>p.2|none=>AV.any)=if t<m+1/\inW W t=false then look fr t else .any:=by
    have any:look fr m= .any->(match (vk fr W m).find? (λp=>p.1==t)with|some p=>p.2|none=>AV.any)=if t<m+1/\inW W t=false then look fr t else .any:=λhv=>by
     rw[ih];by_cases h:t=m
     ·subst h;simp[hw,hv]
     ·by_cases h2:t<m
      ·simp[h2,Nat.lt_succ_of_lt h2]
      ·rw[if_neg (by omega),if_neg (by omega)]
    have other: ∀v,look fr m=v->(match ((m,v)::vk fr W m).find? (λp=>p.1==t)with|some p=>p.2|none=>AV.any)=if t<m+1/\inW W t=false then look fr t else .any:=λv hv=>by
     simp only[List.find?_cons];by_cases h:m=t
     ·subst h;simp[hw,hv]
     ·have:(m==t)=false:=by simpa using h
      rw[this];simp only[];rw[ih];by_cases h2:t<m
      ·simp[h2,Nat.lt_succ_of_lt h2]
      ·rw[if_neg (by omega),if_neg (by omega)]
    intro v hv;cases v
    case any=>exact any hv
    all_goals exact other _ hv
   exact key _ rfl
theorem Ed{l:List (Nat×AV)}{fr:Fr}{W:List Nat}{n t:Nat}:look (af8 l fr W n) t=match l.find? (λp=>p.1==t)with|some p=>p.2|none=>if t<n/\inW W t=false then look fr t else .any:=by
 unfold af8;rw[Zu,List.find?_append];cases hf:l.find? (λp=>p.1==t)with
 |some p=>simp
 |none=>simp only[Option.none_or];exact Ec n
theorem af9{k N n:Nat}{l:List (Nat×AV)}{W:List Nat}{fr0 fr:Fr}{obs:List (Nat×dF)}{h:Heap}(hN: ∀p∈obs,p.1<N)(hag:Agree n W fr0 fr)(hf:aeT k N n l W fr0 obs fr h){ρ:Ren}{T:Nat->Prop}{a:Act}{w:World}(hs:St k n ρ T fr h a w):
  ∃ρ',(∀i,i<k->ρ' i=ρ i)/\St k n ρ' T (af8 l fr0 W n) (qF N obs) a w:=by
 unfold aeT at hf;obtain⟨ρg,g1,g2,g3,g4⟩:=hs.rel.lC k obs;have hs2:St k n ρg T fr (lC k h obs) a w:=⟨Nat.le_trans hs.le g3,g4,hs.fr.mono g1⟩
 suffices hh: ∃ρ',(∀i,i<k->ρ' i=ρg i)/\St k n ρ' T (af8 l fr0 W n) (qF N obs) a w by
  obtain⟨ρ',q1,q2⟩:=hh;exact⟨ρ',λi hi=>(q1 i hi).trans (g2 i hi),q2⟩
 clear g1 g2 g3 g4;generalize lC k h obs=h at hf hs2;clear hs;have hs:=hs2;clear hs2;generalize ρg=ρ at hs;generalize hτ:ZL N (aqT h obs (aci (l.map (·.2)) (l.map λp=>look fr p.1) []))=τ at hf;unfold aeT.go at hf;cases hb:(PE k N τ&&gU N (l.map (·.2))&&nS N obs&&l.all (λp=>inW W p.1)&&(vk fr0 W n).all (λp=>oD N τ p.2)&&Nat.ble k N)with
 |false=>rw[hb]at hf;exact hf.elim
 |true=>
  rw[hb]at hf;simp only[aP]at hf;simp only[aJ,List.all_eq_true,nS,Nat.ble_eq]at hb;obtain⟨⟨⟨⟨⟨b1,b2⟩,b3⟩,b4⟩,b5⟩,b6⟩:=hb;obtain⟨t1,t2⟩:=acj b1;have hos: ∀p∈obs,eqO τ p.2 (h.get (tau τ p.1)):=by
   have: ∀obs:List (Nat×dF),aud τ h obs-> ∀p∈obs,eqO τ p.2 (h.get (tau τ p.1)):=by
    intro obs
    induction obs with
    |nil=>intro _ p hp;cases hp
    |cons x r ih=>
     intro he p hp;rcases List.mem_cons.1 hp with rfl|hp
     ·exact he.1
     ·exact ih he.2 p hp
   exact this obs hf.2
  have hvs: ∀p∈l,dN N p.2=true/\eqV τ p.2 (look fr p.1):=by
   have: ∀l:List (Nat×AV),gU N (l.map (·.2))=true->eqL τ (l.map (·.2)) (l.map λp=>look fr p.1)-> ∀p∈l,dN N p.2=true/\eqV τ p.2 (look fr p.1):=by
    intro l
    induction l with
    |nil=>intro _ _ p hp;cases hp
    |cons x r ih=>
     intro hb he p hp;simp only[List.map_cons,gU,aJ]at hb;simp only[List.map_cons,eqL]at he;rcases List.mem_cons.1 hp with rfl|hp
     ·exact⟨hb.1,he.1⟩
     ·exact ih hb.2 he.2 p hp
   exact this l b2 hf.1
  refine hs.sub2 (h':=qF N obs) (tau τ) t1 b6 t2 (λi o0 hi=> ?_) (λt ρ ρ0 u hρ hu=> ?_)
  ·have hm:=IB N obs i o0 hi
   obtain⟨o',ho',JJ⟩:=J8 (b3 _ hm) (hos _ hm);exact⟨hN _ hm,o',ho',JJ⟩
  ·rw[Ed]
   split
   ·rename_i p hp
    have hpl:=List.mem_of_find?_eq_some hp;have hpt:p.1=t:=by simpa using List.find?_some hp
    obtain⟨c1,c2⟩:=hvs p hpl;rw[hpt]at c2;exact Iu hρ _ _ _ c1 c2 hu
   ·split
    ·rename_i ht
     rw[hag t ht.1 ht.2]at hu;refine J9 hρ _ _ ?_ hu;have hk:=Ec (fr:=fr0) (W:=W) (t:=t) n;rw[if_pos ht]at hk;cases hff:(vk fr0 W n).find? (λp=>p.1==t)with
     |none=>rw[hff]at hk;simp only at hk;rw[<-hk];rfl
     |some p=>
      rw[hff]at hk;simp only at hk;rw[<-hk];exact b5 p (List.mem_of_find?_eq_some hff)
    ·simp only[bF]
abbrev yh:=Exit->Fr->Heap->Prop
def Ko(K:Fr->Heap->Prop)(Q:yh):yh:=λe fr h=>match e with
 | .normal=>K fr h
 |e=>Q e fr h
def Ee(id:Nat)(Q:yh):yh:=λe fr h=>match e with
 | .exit id'=>bif Nat.beq id' id then Q .normal fr h else Q (.exit id') fr h
 |e=>Q e fr h
def vOps(call:WFn)(tt:TT)(n:Nat)(ops:Array Oper):List Nat->Fr->Heap->(Fr->Heap->Prop)->Prop
 |[],fr,h,Q=>Q fr h
 |i::l,fr,h,Q=>atn call tt n ops i fr h λfr' h'=>vOps call tt n ops l fr' h' Q
def wrC:Code->List Nat
 | .region _ ops _=>DS ops (List.range ops.size)
 | .seq a b=>wrC a++wrC b
 | .cond _ a b=>wrC a++wrC b
 | .block _ a=>wrC a
 | .loop a=>wrC a
 | .scope a=>wrC a
 |_=>[]
def setC(fr:Fr)(c:Operand)(b:Bool):Fr:=match c with
 | .tmp t=>GL fr (some t) (.lit (.bool b))
 |_=>fr
def entG(k n:Nat)(W:List Nat)(fr0:Fr)(h0:Heap)(P:(A:zA)->A.σ->Prop)(fr:Fr)(h:Heap):List zA->Prop
 |[]=>False
 |[A]=> ∃s:A.σ,A.inv s/\P A s/\aeT k (h0.next+A.nx) n (A.fr s) W fr0 (ru (A.ob s) h0 (h0.next+A.nx)) fr h
 |A::L=>(∃s:A.σ,A.inv s/\P A s/\aeT k (h0.next+A.nx) n (A.fr s) W fr0 (ru (A.ob s) h0 (h0.next+A.nx)) fr h)\/entG k n W fr0 h0 P fr h L
def aga(fr:Fr)(h:Heap):List zA->List zA
 |[]=>[]
 |A::L=>bif A.test fr h then A::aga fr h L else aga fr h L
theorem Ef{fr:Fr}{h:Heap}{A:zA}: ∀{L:List zA},A∈aga fr h L->A∈L
 |B::L,hA=>by
  simp only[aga]at hA;cases hb:B.test fr h<;>rw[hb]at hA
  ·exact List.mem_cons_of_mem _ (Ef hA)
  ·rcases List.mem_cons.1 hA with rfl|hA
   ·simp
   ·exact List.mem_cons_of_mem _ (Ef hA)
def alg(k n:Nat)(W:List Nat)(fr0:Fr)(h0:Heap)(P:(A:zA)->A.σ->Prop)(fr:Fr)(h:Heap)(L:List zA):Prop:=entG k n W fr0 h0 P fr h (aga fr h L)
def agb(k n:Nat)(W:List Nat)(fr0:Fr)(h0:Heap)(body:(Fr->Heap->Prop)->Fr->Heap->Prop)(all:List zA):List zA->Prop
 |[]=>True
 |A::L=>(∀s:A.σ,A.inv s->body (λfr h=>alg k n W fr0 h0 (λB t=>B.meas t<A.meas s) fr h all) (af8 (A.fr s) fr0 W n) (qF (h0.next+A.nx) (ru (A.ob s) h0 (h0.next+A.nx))))/\agb k n W fr0 h0 body all L
abbrev qL:=Nat->Fr->Heap->List zA
def agc(n:Nat)(k:Nat->Prop):Prop:=match n with
 |0=>k 0
 |m+1=>k (m+1)
theorem PG(n:Nat)(k:Nat->Prop):agc n k=k n:=by cases n<;>rfl
def apj(o:Option dF)(k:Option dF->Prop):Prop:=match o with
 |none=>k none
 |some (.cells e c)=>k (some (.cells e c))
 |some (.room e c)=>k (some (.room e c))
 |some (.iC z e c)=>k (some (.iC z e c))
 |some (.nK m)=>k (some (.nK m))
 |some (.ro c)=>k (some (.ro c))
 |some (.map es clock)=>k (some (.map es clock))
 |some (.abs A)=>k (some (.abs A))
 |some (.iter m s n t)=>k (some (.iter m s n t))
theorem agd(o:Option dF)(k:Option dF->Prop):apj o k=k o:=by
 cases o with
 |none=>rfl
 |some o=>cases o<;>rfl
def ZM:HM->(HM->Prop)->Prop
 |[],k=>k []
 |(i,o)::r,k=>agc i λi=>apj o λo=>ZM r λr=>k ((i,o)::r)
theorem PI: ∀(t:HM) (k:HM->Prop),ZM t k=k t
 |[],_=>rfl
 |(i,o)::r,k=>by simp only[ZM,PG,agd,PI r]
def agf(h:Heap)(k:Heap->Prop):Prop:=match h with
 |⟨n,m⟩=>agc n λn=>ZM m λm=>k ⟨n,m⟩
theorem agh(h:Heap)(k:Heap->Prop):agf h k=k h:=by
 cases h;simp only[agf,PG,PI]
def PK:PM AV->(PM AV->Prop)->Prop
 | .leaf,k=>k .leaf
 | .node l v r,k=>PK l λl=>PK r λr=>match v with
  |none=>k (.node l none r)
  |some x=>k (.node l (some x) r)
theorem Eh: ∀(t:PM AV) (k:PM AV->Prop),PK t k=k t
 | .leaf,_=>rfl
 | .node l v r,k=>by simp only[PK,Eh l,Eh r];cases v<;>rfl
def ZN(fr:Fr)(h:Heap)(k:Fr->Heap->Prop):Prop:=PK fr λfr=>agf h λh=>k fr h
theorem agi(fr:Fr)(h:Heap)(k:Fr->Heap->Prop):ZN fr h k=k fr h:=by simp only[ZN,Eh,agh]
def Ei:Code->Nat
 | .region id _ _=>1000+id
 | .block id _=>2000+id
 | .seq a _=>Ei a
 | .scope a=>Ei a
 |_=>0
def aue(an:qL)(y:Code)(fr:Fr)(h:Heap):List zA:=match Ei y with
 |0=>[]
 |i+1=>an (i+1) fr h
def agj(k n:Nat)(W:List Nat)(fr0:Fr)(h0:Heap)(body:Fr->Heap->Prop):List zA->Prop
 |[]=>True
 |A::L=>(∀s:A.σ,A.inv s->body (af8 (A.fr s) fr0 W n) (qF (h0.next+A.nx) (ru (A.ob s) h0 (h0.next+A.nx))))/\agj k n W fr0 h0 body L
theorem IC{k n:Nat}{W:List Nat}{fr0:Fr}{h0:Heap}{body:Fr->Heap->Prop}: ∀{L:List zA},agj k n W fr0 h0 body L-> ∀A∈L,∀s:A.σ,A.inv s->
  body (af8 (A.fr s) fr0 W n) (qF (h0.next+A.nx) (ru (A.ob s) h0 (h0.next+A.nx)))
 |A::L,hh,B,hB=>by
  rcases List.mem_cons.1 hB with rfl|hB
  ·exact hh.1
  ·exact IC hh.2 B hB
def wpC(call:WFn)(tt:TT)(k n:Nat)(an:qL):Nat->Code->yh->Fr->Heap->Prop
 |0,_,_,_,_=>False
 |_+1,.skip,Q,fr,h=>Q .normal fr h
 |_+1,.ret,Q,fr,h=>Q .ret fr h
 |_+1,.exit id,Q,fr,h=>Q (.exit id) fr h
 |f+1,.seq x y,Q,fr,h=>match aue an y fr h with
  |[]=>wpC call tt k n an f x (Ko (λfr h=>ZN fr h λfr h=>wpC call tt k n an f y Q fr h) Q) fr h
  |A::L=>match A.gh with
   |none=>wpC call tt k n an f x (Ko (λfr' h'=>alg k n (wrC x) fr h (λ_ _=>True) fr' h' (A::L)) Q) fr h/\agj k n (wrC x) fr h (λfr' h'=>wpC call tt k n an f y Q fr' h') (A::L)
   |some e=> ∃g:e.G,wpC call tt k n an f x (Ko (λfr' h'=>alg k n (wrC x) fr h (λ_ _=>True) fr' h' (e.all g)) Q) fr h/\agj k n (wrC x) fr h (λfr' h'=>wpC call tt k n an f y Q fr' h') (e.all g)
 |f+1,.cond c x y,Q,fr,h=>match evA fr c with
  | .lit (.bool b)=>cP b (wpC call tt k n an f x Q (setC fr c true) h) (wpC call tt k n an f y Q (setC fr c false) h)
  |_=>False
 |f+1,.block id x,Q,fr,h=>match x,an id fr h with
  | .loop y,A::L=>match A.gh with
   |none=>alg k n (wrC y) fr h (λ_ _=>True) fr h (A::L)/\
    agb k n (wrC y) fr h (λK fr' h'=>wpC call tt k n an f y (Ko K (Ee id Q)) fr' h') (A::L) (A::L)
   |some e=> ∃g:e.G,alg k n (wrC y) fr h (λ_ _=>True) fr h (e.all g)/\
    agb k n (wrC y) fr h (λK fr' h'=>wpC call tt k n an f y (Ko K (Ee id Q)) fr' h') (e.all g) (e.all g)
  |_,_=>wpC call tt k n an f x (Ee id Q) fr h
 |f+1,.scope x,Q,fr,h=>wpC call tt k n an f x Q fr h
 |_+1,.label _,Q,fr,h=>Q .normal fr h
 |f+1,.loop x,Q,fr,h=>wpC call tt k n an f x (Ko (λfr h=>wpC call tt k n an f (.loop x) Q fr h) Q) fr h
 |_+1,.region _ ops draw,Q,fr,h=>match draw with
  |true=>let pl:=alU ops (ops.size+1) [] (Array.replicate ops.size false)
   bif UR ops pl [] (Array.replicate ops.size false)&&pq ops then vPl call tt n ops pl fr h (Q .normal)else False
  |false=>vOps call tt n ops (List.range ops.size) fr h (Q .normal)
 |_+1,_,_,_,_=>False
section
variable{P:Program}{tt:TT}{k n:Nat}{call:WFn}
theorem agk{l:Nat}{Q:yh}{fr:Fr}{h:Heap}(hq:Q .normal fr h):AWp P k n (.label l) Q fr h:=
 λρ _ _ _ hs=>wp_label ⟨ρ,fr,h,λ_ _=>rfl,hs,Keeps.refl _ _,hq⟩
theorem agl{c:Code}{Q:yh}{fr:Fr}{h:Heap}(hc:AWp P k n c Q fr h):AWp P k n (.scope c) Q fr h:=by
 intro ρ T w a hs;refine wp_scope_straight (wp_mono (hc ρ T w a hs) λe a' w' hh=> ?_);cases e<;>first|exact hh|exact hh.elim
theorem Agree.refl(W:List Nat)(fr:Fr):Agree n W fr fr:=λ_ _ _=>rfl
theorem Agree.trans{W:List Nat}{a b c:Fr}(h:Agree n W a b)(g:Agree n W b c):Agree n W a c:=λt ht hw=>(g t ht hw).trans (h t ht hw)
theorem Agree.mono{W W':List Nat}{a b:Fr}(h:Agree n W a b)(hs: ∀t∈W,t∈W'):Agree n W' a b:=λt ht hw=>h t ht (by
 cases hh:inW W t with
 |false=>rfl
 |true=>have:=hs t (UY.1 hh);rw[UY.2 this]at hw;cases hw)
def acn(n:Nat)(W:List Nat)(fr0:Fr)(Q:yh):yh:=λe fr h=>Agree n W fr0 fr/\Q e fr h
theorem agm(hT:tt.ok P)(hc:WOk P call){ops:Array Oper}{Q:Fr->Heap->Prop}: ∀(l:List Nat) (fr:Fr) (h:Heap),vOps call tt n ops l fr h Q->
  ∀ρ T w a,St k n ρ T fr h a w->Ba P ops (Uo k n ρ T w (λfr' h'=>(∀t,(∀i∈l,iT ops i≠some t)->look fr' t=look fr t)/\Q fr' h')) (l.map .xx) a w
 |[],fr,h,hq=>λρ T w a hs=>⟨ρ,fr,h,λ_ _=>rfl,hs,Keeps.refl _ _,λ_ _=>rfl,hq⟩
 |i::l,fr,h,hq=>λρ T w a hs=>by
  have:=af2 (P:=P) (Q:=Uo k n ρ T w (λfr' h'=>(∀t,(∀j∈i::l,iT ops j≠some t)->look fr' t=look fr t)/\Q fr' h')) (l:=[]) hT hc hs.rel hs.fr (λ_ _=>by simp) hq;refine wpOp_mono ?_ this
  rintro a' w' ⟨fr',h',ρ',b1,b2,b3,b4,b5,b6,b7⟩
  have hs':St k n ρ' T fr' h' a' w':=⟨Nat.le_trans hs.le b2,b3,b4⟩;have ih:=agm hT hc l fr' h' b7 ρ' T w' a' hs';refine kC (λe a2 w2 hh=> ?_) _ _ _ ih;refine abS (λj hj=>b1 j (Nat.lt_of_lt_of_le hj hs.le)) b6 e a2 w2 ?_;cases e<;>first|exact After.mono (λfr2 h2 ⟨g1,g2⟩=>⟨λt ht=>(g1 t λj hj=>ht j (by simp[hj])).trans (b5 t (ht i (by simp))),g2⟩) hh|exact hh.elim
def UZ(k n:Nat)(Q:Fr->Heap->Prop)(fr:Fr)(h:Heap):Prop:= ∃fr' h',(∀ρ T a w,St k n ρ T fr h a w-> ∃ρ',(∀i,i<k->ρ' i=ρ i)/\St k n ρ' T fr' h' a w)/\Q fr' h'
theorem After.subTo{ρ₀:Ren}{T:Nat->Prop}{w₀:World}{Q:Fr->Heap->Prop}{a:Act}{w:World}(hh:After k n ρ₀ T w₀ (UZ k n Q) a w):After k n ρ₀ T w₀ Q a w:=by
 obtain⟨ρ,fr,h,h1,h2,h3,fr',h',hs,hq⟩:=hh;obtain⟨ρ',r1,r2⟩:=hs ρ T a w h2;exact⟨ρ',fr',h',λi hi=>(r1 i hi).trans (h1 i hi),r2,h3,hq⟩
theorem agn{c:Code}{Q:yh}{fr:Fr}{h:Heap}(hc:AWp P k n c (λe=>UZ k n (Q e)) fr h):AWp P k n c Q fr h:=
 λρ T w a hs=>wp_mono (hc ρ T w a hs) λe a w hh=>by cases e<;>first|exact After.subTo hh|exact hh.elim
theorem UZ.self{Q:Fr->Heap->Prop}{fr:Fr}{h:Heap}(hq:Q fr h):UZ k n Q fr h:=⟨fr,h,λρ _ _ _ hs=>⟨ρ,λ_ _=>rfl,hs⟩,hq⟩
theorem PL{W:List Nat}{fr0:Fr}{h0:Heap}{p:(A:zA)->A.σ->Prop}{fr:Fr}{h:Heap}: ∀{L:List zA},entG k n W fr0 h0 p fr h L-> ∃A∈L,∃s:A.σ,A.inv s/\p A s/\aeT k (h0.next+A.nx) n (A.fr s) W fr0 (ru (A.ob s) h0 (h0.next+A.nx)) fr h
 |[],hh=>hh.elim
 |[A],hh=>⟨A,by simp,hh⟩
 |A::B::L,hh=>by
  rcases hh with hh|hh
  ·exact⟨A,by simp,hh⟩
  ·obtain⟨C,hC,r⟩:=PL (L:=B::L) hh
   exact⟨C,List.mem_cons_of_mem _ hC,r⟩
theorem PN{W:List Nat}{fr0:Fr}{h0:Heap}{p:(A:zA)->A.σ->Prop}{fr:Fr}{h:Heap}{L:List zA}(hh:alg k n W fr0 h0 p fr h L): ∃A∈L,∃s:A.σ,A.inv s/\p A s/\aeT k (h0.next+A.nx) n (A.fr s) W fr0 (ru (A.ob s) h0 (h0.next+A.nx)) fr h:=by
 obtain⟨C,hC,r⟩:=PL hh;exact⟨C,Ef hC,r⟩
theorem IE{W:List Nat}{fr0:Fr}{h0:Heap}{body:(Fr->Heap->Prop)->Fr->Heap->Prop}{all:List zA}: ∀{L:List zA},agb k n W fr0 h0 body all L-> ∀A∈L,∀s:A.σ,A.inv s->
  body (λfr h=>alg k n W fr0 h0 (λB t=>B.meas t<A.meas s) fr h all) (af8 (A.fr s) fr0 W n) (qF (h0.next+A.nx) (ru (A.ob s) h0 (h0.next+A.nx)))
 |A::L,hh,B,hB=>by
  rcases List.mem_cons.1 hB with rfl|hB
  ·exact hh.1
  ·exact IE hh.2 B hB
theorem agp{W:List Nat}{fr fr':Fr}(h:Same fr fr'):Agree n W fr fr':=λt _ _=>h t
theorem yj{fr:Fr}{c:Operand}{b:Bool}(h:evA fr c= .lit (.bool b)):Same fr (setC fr c b):=by
 cases c with
 |tmp t=>exact Same.put h
 |_=>exactλ_=>rfl
theorem AWp.same{c:Code}{Q:yh}{fr fr':Fr}{h:Heap}(hs:Same fr fr')(hc:AWp P k n c Q fr' h):AWp P k n c Q fr h:=λρ T w a st=>hc ρ T w a ⟨st.le,st.rel,st.fr.same λt=> .inl (hs t)⟩
theorem auf(hT:tt.ok P)(hm:P.follows .mixedOrders=true)(hc:WOk P call)(an:qL): ∀(N f:Nat),f<=N-> ∀(c:Code) (Q:yh) (fr:Fr) (h:Heap),wpC call tt k n an f c Q fr h->AWp P k n c (acn n (wrC c) fr Q) fr h:=by
 intro N
 induction N with
 |zero=>intro f hf c Q fr h hq;have:f=0:=by omega
        subst this;simp[wpC]at hq
 |succ N ihN=>
  intro f hf c Q fr h hq;cases f with
  |zero=>simp[wpC]at hq
  |succ f=>
  have ih:=ihN f (by omega);cases c with
  |skip=>exact alu ⟨Agree.refl _ _,hq⟩
  |ret=>exact aqv ⟨Agree.refl _ _,hq⟩
  |exit id=>exact alv ⟨Agree.refl _ _,hq⟩
  |label l=>exact agk ⟨Agree.refl _ _,hq⟩
  |scope x=>
   simp only[wpC]at hq;exact agl (ih x Q fr h hq)
  |seq x y=>
   have core: ∀all:List zA,wpC call tt k n an f x (Ko (λfr' h'=>alg k n (wrC x) fr h (λ_ _=>True) fr' h' all) Q) fr h->agj k n (wrC x) fr h (λfr' h'=>wpC call tt k n an f y Q fr' h') all->AWp P k n (.seq x y) (acn n (wrC (.seq x y)) fr Q) fr h:=by
    intro all hent hjoin;refine aff ((ih x _ fr h hent).mono λe fr1 h1 ⟨g1,g2⟩=> ?_);have gl:Agree n (wrC x++wrC y) fr fr1:=g1.mono λt ht=>List.mem_append_left _ ht
    cases e with
    |normal=>
     obtain⟨B,hB,s,hi,_,hf⟩:=PN g2;have hb:=IC hjoin B hB s hi;have hl:((B.fr s).all λp=>inW (wrC x) p.1)=true:=by
      unfold aeT at hf;generalize SE.lC k h1 (ru (B.ob s) h (h.next+B.nx))=h1 at hf;generalize ZL (h.next+B.nx) (aqT h1 (ru (B.ob s) h (h.next+B.nx)) (aci ((B.fr s).map (·.2)) ((B.fr s).map λp=>look fr1 p.1) []))=τ at hf;unfold aeT.go at hf;cases hb:(PE k (h.next+B.nx) τ&&gU (h.next+B.nx) ((B.fr s).map (·.2))&&nS (h.next+B.nx) (ru (B.ob s) h (h.next+B.nx))&&(B.fr s).all (λp=>inW (wrC x) p.1)&&(vk fr (wrC x) n).all (λp=>oD (h.next+B.nx) τ p.2)&&Nat.ble k (h.next+B.nx))with
      |false=>rw[hb]at hf;exact hf.elim
      |true=>simp only[aJ]at hb;exact hb.1.1.2
     have ag:Agree n (wrC x) fr (af8 (B.fr s) fr (wrC x) n):=λt ht hw=>by
      rw[Ed];cases hf:(B.fr s).find? (λp=>p.1==t)with
      |some p=>
       have hp:=List.mem_of_find?_eq_some hf;have hpt:p.1=t:=by simpa using List.find?_some hf
       have:=List.all_eq_true.1 hl p hp;rw[hpt,hw]at this;cases this
      |none=>simp only;rw[if_pos ⟨ht,hw⟩]
     have main:=(ih y Q _ _ hb).mono λe2 fr2 h2 ⟨q1,q2⟩=>show acn n (wrC (.seq x y)) fr Q e2 fr2 h2 from ⟨(ag.mono λt ht=>List.mem_append_left _ ht).trans (q1.mono λt ht=>List.mem_append_right _ ht),q2⟩
     intro ρ T w a hs;obtain⟨ρ',r1,r2⟩:=af9 (λp hp=>Df hp) g1 hf hs;exact wp_mono (main ρ' T w a r2) (vO r1 (Keeps.refl _ _))
    |_=>exact⟨gl,g2⟩
   simp only[wpC]at hq;split at hq
   ·refine aff ((ih x _ fr h hq).mono λe fr1 h1 ⟨g1,g2⟩=> ?_)
    have gl:Agree n (wrC x++wrC y) fr fr1:=g1.mono λt ht=>List.mem_append_left _ ht
    cases e with
    |normal=>
     have g2:ZN fr1 h1 (λfr h=>wpC call tt k n an f y Q fr h):=g2;rw[agi]at g2;refine(ih y Q fr1 h1 g2).mono λe2 fr2 h2 ⟨q1,q2⟩=> ?_
     exact⟨gl.trans (q1.mono λt ht=>List.mem_append_right _ ht),q2⟩
    |_=>exact⟨gl,g2⟩
   ·split at hq
    ·exact core _ hq.1 hq.2
    ·obtain⟨g,h1,h2⟩:=hq
     exact core _ h1 h2
  |cond c x y=>
   simp only[wpC]at hq;split at hq
   ·rename_i b hb
    rcases jE hq with ⟨rfl,hq⟩|⟨rfl,hq⟩
    ·refine Zo hb (λ_=> ?_) (λh=>by cases h)
     refine AWp.same (yj hb) ((ih x Q _ h hq).mono λe fr1 h1 ⟨g1,g2⟩=>⟨(agp (yj hb)).trans (g1.mono λt ht=>List.mem_append_left _ ht),g2⟩)
    ·refine Zo hb (λh=>by cases h) (λ_=> ?_)
     refine AWp.same (yj hb) ((ih y Q _ h hq).mono λe fr1 h1 ⟨g1,g2⟩=>⟨(agp (yj hb)).trans (g1.mono λt ht=>List.mem_append_right _ ht),g2⟩)
   ·exact hq.elim
  |block id x=>
   have plain:wpC call tt k n an f x (Ee id Q) fr h->AWp P k n (.block id x) (acn n (wrC (.block id x)) fr Q) fr h:=λhq=>by
    refine O1 ((ih x _ fr h hq).mono λe fr1 h1 ⟨g1,g2⟩=> ?_);cases e with
    |exit id'=>
     simp only[Ee]at g2;simp only[H9];cases hb:Nat.beq id' id<;>rw[hb]at g2
     ·have:id'≠id:=λhe=>by subst he;rw[Nat.beq_refl]at hb;cases hb
      rw[if_neg this];exact⟨g1,g2⟩
     ·rw[if_pos (au hb)];exact⟨g1,g2⟩
    |_=>exact⟨g1,g2⟩
   simp only[wpC]at hq;split at hq
   ·rename_i y A L hx
    have core: ∀all:List zA,alg k n (wrC y) fr h (λ_ _=>True) fr h all->agb k n (wrC y) fr h (λK fr' h'=>wpC call tt k n an f y (Ko K (Ee id Q)) fr' h') all all->AWp P k n (.block id (.loop y)) (acn n (wrC (.block id (.loop y))) fr Q) fr h:=by
     clear plain hq;intro all hent hloop;let I:Nat->Fr->Heap->Prop:=λm fr1 h1=> ∃B∈all,∃s:B.σ,B.inv s/\B.meas s=m/\fr1=af8 (B.fr s) fr (wrC y) n/\h1=qF (h.next+B.nx) (ru (B.ob s) h (h.next+B.nx))
     have hN: ∀(B:zA) (s:B.σ),∀p∈ru (B.ob s) h (h.next+B.nx),p.1<h.next+B.nx:=λB s p hp=>Df hp
     have agI: ∀(l:List (Nat×AV)),(l.all λp=>inW (wrC y) p.1)=true->Agree n (wrC y) fr (af8 l fr (wrC y) n):=λl hl t ht hw=>by
      rw[Ed];cases hf:l.find? (λp=>p.1==t)with
      |some p=>
       have hp:=List.mem_of_find?_eq_some hf;have hpt:p.1=t:=by simpa using List.find?_some hf
       have:=List.all_eq_true.1 hl p hp;rw[hpt,hw]at this;cases this
      |none=>simp only;rw[if_pos ⟨ht,hw⟩]
     have fitW: ∀{N:Nat} {l:List (Nat×AV)} {obs:List (Nat×dF)} {fr1:Fr} {h1:Heap},aeT k N n l (wrC y) fr obs fr1 h1->(l.all λp=>inW (wrC y) p.1)=true:=by
      intro N l obs fr1 h1 hf;unfold aeT at hf;generalize SE.lC k h1 obs=h1 at hf;generalize ZL N (aqT h1 obs (aci (l.map (·.2)) (l.map λp=>look fr1 p.1) []))=τ at hf;unfold aeT.go at hf;cases hb:(PE k N τ&&gU N (l.map (·.2))&&nS N obs&&l.all (λp=>inW (wrC y) p.1)&&(vk fr (wrC y) n).all (λp=>oD N τ p.2)&&Nat.ble k N)with
      |false=>rw[hb]at hf;exact hf.elim
      |true=>simp only[aJ]at hb;exact hb.1.1.2
     let J:Nat->Fr->Heap->Prop:=λm fr1 h1=>I m fr1 h1/\Agree n (wrC y) fr fr1
     have toJ: ∀(p:(B:zA)->B.σ->Prop) (fr1:Fr) (h1:Heap),Agree n (wrC y) fr fr1->alg k n (wrC y) fr h p fr1 h1 all->UZ k n (λfr2 h2=> ∃m,(∃B∈all,∃s:B.σ,p B s/\B.meas s=m)/\J m fr2 h2) fr1 h1:=by
      intro p fr1 h1 hag hent;obtain⟨B,hB,s,hi,hp,hf⟩:=PN hent;exact⟨_,_,λρ T a w hs=>af9 (hN B s) hag hf hs,B.meas s,⟨B,hB,s,hp,rfl⟩,⟨B,hB,s,hi,rfl,rfl,rfl⟩,agI _ (fitW hf)⟩
     obtain⟨fr1,h1,hsub,m0,_,hJ⟩:=toJ _ fr h (Agree.refl _ _) hent;have main:AWp P k n (.loop y) (H9 id (acn n (wrC y) fr Q)) fr1 h1:=by
      refine Zp J hJ λm fr2 h2 hJ2=> ?_
      obtain⟨⟨B,hB,s,hi,hme,hf2,hh2⟩,hag2⟩:=hJ2;have hb:=IE hloop B hB s hi;rw[<-hf2,<-hh2]at hb;refine agn ((ih y _ fr2 h2 hb).mono λe fr3 h3 ⟨g1,g2⟩=> ?_);have hag3:Agree n (wrC y) fr fr3:=hag2.trans g1;cases e with
      |normal=>
       obtain⟨fr4,h4,hs4,m',⟨C,hC,t,hlt,rfl⟩,hJ4⟩:=toJ _ fr3 h3 hag3 g2;exact⟨fr4,h4,hs4,C.meas t,by rw[<-hme];exact hlt,hJ4⟩
      |exit id'=>
       refine UZ.self ?_;simp only[Ko,Ee]at g2;simp only[aqu,H9];cases hbb:Nat.beq id' id<;>rw[hbb]at g2
       ·have:id'≠id:=λhe=>by subst he;rw[Nat.beq_refl]at hbb;cases hbb
        rw[if_neg this];exact⟨hag3,g2⟩
       ·rw[if_pos (au hbb)];exact⟨hag3,g2⟩
      |_=>exact UZ.self ⟨hag3,g2⟩
     refine O1 λρ T w a hs=> ?_
     obtain⟨ρ',r1,r2⟩:=hsub ρ T a w hs;exact wp_mono (main ρ' T w a r2) (vO r1 (Keeps.refl _ _))
    split at hq
    ·exact core _ hq.1 hq.2
    ·obtain⟨g,h1,h2⟩:=hq
     exact core _ h1 h2
   ·exact plain hq
  |loop x=>
   simp only[wpC]at hq;let I:Nat->Fr->Heap->Prop:=λm fr1 h1=>m<=f+1/\Agree n (wrC x) fr fr1/\wpC call tt k n an m (.loop x) Q fr1 h1
   refine Zp I (m:=f+1) ⟨aY _,Agree.refl _ _,by simp only[wpC];exact hq⟩ ?_
   rintro m fr2 h2 ⟨hm',hag,hq2⟩
   cases m with
   |zero=>simp[wpC]at hq2
   |succ m=>
    simp only[wpC]at hq2;refine(ihN m (by omega) x _ fr2 h2 hq2).mono λe fr3 h3 ⟨g1,g2⟩=> ?_
    cases e with
    |normal=>exact⟨m,by omega,by omega,hag.trans g1,g2⟩
    |_=>exact⟨hag.trans g1,g2⟩
  |region id ops draw=>
   simp only[wpC]at hq;have hDS: ∀t,inW (DS ops (List.range ops.size)) t=false-> ∀i,iT ops i≠some t:=λt ht i hi=>by
    have hlt:i<ops.size:=by
     rcases Nat.lt_or_ge i ops.size with h'|h'
     ·exact h'
     ·simp[iT,Array.getElem?_eq_none h']at hi
    have:t∈DS ops (List.range ops.size):=qZ.2 ⟨i,by simpa using hlt,hi⟩;rw[UY.2 this]at ht;cases ht
   cases draw with
   |true=>
    simp only at hq;cases hok:(UR ops (alU ops (ops.size+1) [] (Array.replicate ops.size false)) [] (Array.replicate ops.size false)&&pq ops)with
    |false=>rw[hok]at hq;exact hq.elim
    |true=>
     rw[hok]at hq;simp only[aP]at hq;exact(alW (P:=P) hT hc hm hok hq).mono λe fr1 h1 ⟨g1,g2⟩=>⟨λt _ hw=>g1 t (hDS t hw),g2⟩
   |false=>
    simp only at hq;refine abV rfl λρ T w a hs=> ?_
    refine kC (λe a2 w2 hh=> ?_) _ _ _ (agm (P:=P) hT hc _ fr h hq ρ T w a hs);cases e<;>first|exact After.mono (λfr2 h2 ⟨g1,g2⟩=>⟨λt _ hw=>g1 t λi _=>hDS t hw i,g2⟩) hh|exact hh.elim
  |_=>simp[wpC]at hq
theorem aug(hT:tt.ok P)(hm:P.follows .mixedOrders=true)(hc:WOk P call)(an:qL){f:Nat}{c:Code}{Q:yh}{fr:Fr}{h:Heap}(hq:wpC call tt k n an f c Q fr h):AWp P k n c Q fr h:=
 (auf hT hm hc an f f (aY _) c Q fr h hq).mono λ_ _ _ h=>h.2
end
abbrev WTr:=List AV->Heap->(AV->Heap->Prop)->Prop
abbrev je:=List (FuncId×WTr)
def lookW:je->FuncId->Option WTr
 |[],_=>none
 |(f,T)::r,g=>bif Nat.beq f g then some T else lookW r g
def dZ(P:Program)(tbl:je):Prop:= ∀p∈tbl,∀args h K,p.2 args h K->SpE P p.1 args h K
theorem dZ.nil{P:Program}:dZ P []:=λ_ h=>by cases h
theorem dZ.cons{P:Program}{f:FuncId}{T:WTr}{tbl:je}(h1: ∀args h K,T args h K->Sp P f args h K)(h2:dZ P tbl):dZ P ((f,T)::tbl):=λp hp=>by
 rcases List.mem_cons.1 hp with rfl|hp
 ·exactλargs h K hq=> .inl (h1 args h K hq)
 ·exact h2 p hp
theorem dZ.Ej{P:Program}{f:FuncId}{T:WTr}{tbl:je}(h1: ∀args h K,T args h K->XSp P f args h K)(h2:dZ P tbl):dZ P ((f,T)::tbl):=λp hp=>by
 rcases List.mem_cons.1 hp with rfl|hp
 ·exactλargs h K hq=> .inr (h1 args h K hq)
 ·exact h2 p hp
theorem dZ.append{P:Program}{a b:je}(h1:dZ P a)(h2:dZ P b):dZ P (a++b):=λp hp=>by
 rcases List.mem_append.1 hp with h|h
 ·exact h1 p h
 ·exact h2 p h
theorem PS: ∀{tbl:je} {g:FuncId} {T:WTr},lookW tbl g=some T->(g,T)∈tbl
 |(f,S)::r,g,T,h=>by
  simp only[lookW]at h;cases hb:Nat.beq f g<;>rw[hb]at h
  ·exact List.mem_cons_of_mem _ (PS h)
  ·simp at h;subst h;rw[au hb];simp
def U0(tt:TT)(t:TypeId)(a:AV)(h:Heap):Option AV:=match a with
 | .ptr i o=>match rowA tt t h i o with
  |some (n,g)=>some (.arr n g)
  |none=>Gz tt t (.ptr i o) h
 |_=>none
theorem alZ{P:Program}{tt:TT}(hT:tt.ok P):LdOk P (U0 tt):=λh ρ T w hR t a v u hl hu=>by
 unfold U0 at hl;split at hl
 ·refine⟨⟨_,_,rfl⟩,?_⟩
  split at hl
  ·rename_i n g hr;cases hl;exact afr hT hR hr hu
  ·exact nM hT hR hl hu
 ·cases hl
def agq(tt:TT)(fn:Func)(K:AV->Heap->Prop):yh:=λe fr h=>bif isDone e then(match atW (U0 tt) fn fr h with
 |some v=>K v h
 |none=>False)else False
def wpF(P:Program)(tbl:je)(tt:TT)(an:FuncId->qL)(fuel:Nat):Nat->WFn
 |0,_,_,_,_=>False
 |d+1,g,args,h,K=>match P.funcs[g]? with
  |some fn=>match fn.body with
   |some c=>bif !(fn.name== "runtime.NumGoroutine")&&Nat.ble args.length fn.ntmps then
     wpC (λg args h K=>match lookW tbl g with
      |some T=>T args h K
      |none=>wpF P tbl tt an fuel d g args h K) tt h.next fn.ntmps (an g) fuel c (agq tt fn K) (O5 args) h else False
   |none=>False
  |none=>False
theorem vC{P:Program}{tbl:je}{tt:TT}(hT:tt.ok P)(hm:P.follows .mixedOrders=true)(ht:dZ P tbl)(an:FuncId->qL)(fuel:Nat): ∀d g args h K,wpF P tbl tt an fuel d g args h K->Sp P g args h K
 |0=>by intro g args h K hq;simp[wpF]at hq
 |d+1=>by
  intro g args h K hq;simp only[wpF]at hq;split at hq
  ·rename_i fn hf
   split at hq
   ·rename_i c hb
    cases hcnd:(!(fn.name== "runtime.NumGoroutine")&&Nat.ble args.length fn.ntmps)<;>rw[hcnd]at hq
    ·exact hq.elim
    ·simp only[aP]at hq
     simp only[aJ,Bool.not_eq_true']at hcnd
     have hc:WOk P (λg args h K=>match lookW tbl g with
      |some T=>T args h K
      |none=>wpF P tbl tt an fuel d g args h K):=by
      intro g args h K hq;split at hq
      ·rename_i T hl;exact ht _ (PS hl) args h K hq
      ·exact .inl (vC hT hm ht an fuel d g args h K hq)
     refine O6 (alZ hT) hf hcnd.1 hb hcnd.2 ((aug hT hm hc (an g) hq).mono λe fr h' hh=> ?_);unfold agq at hh;cases hd:isDone e<;>rw[hd]at hh
     ·exact hh.elim
     ·simp only[aP]at hh
      split at hh
      ·rename_i v hv
       refine⟨?_,v,hv,hh⟩;cases e<;>first|exact .inl rfl|exact .inr rfl|cases hd
      ·exact hh.elim
   ·exact hq.elim
  ·exact hq.elim
def endP(k:Nat)(v0:AV)(os:List dF)(v:AV)(h:Heap):Prop:=go (lC k h (os.zipIdx.map λp=>(p.2,p.1))) (aqT (lC k h (os.zipIdx.map λp=>(p.2,p.1))) (os.zipIdx.map λp=>(p.2,p.1)) (matV v0 v []))
where
 go (h:Heap) (τ:Tau):Prop:=bif apk k os.length τ&&dN os.length v0&&nS os.length (os.zipIdx.map λp=>(p.2,p.1))&&Nat.ble k os.length then(eqV τ v0 v/\aud τ h (os.zipIdx.map λp=>(p.2,p.1)))else False
 /-- Each of them stands for another one. -/
 apk (k N:Nat) (τ:Tau):Bool:=GN k ((List.range N).map (tau τ)) N
theorem Kq{k:Nat}{v0:AV}{os:List dF}{v:AV}{h:Heap}(hf:endP k v0 os v h):Leq k v h v0 (hO os.length os):=by
 unfold endP at hf
 suffices hh:Leq k v (lC k h (os.zipIdx.map λp=>(p.2,p.1))) v0 (hO os.length os) by
  refine⟨hh.1,λρ T w u hR hv=> ?_⟩;obtain⟨ρg,g1,g2,g3,g4⟩:=hR.lC k (os.zipIdx.map λp=>(p.2,p.1));obtain⟨ρ',q1,q2,q3⟩:=hh.2 ρg T w u g4 (bF.mono g1 _ _ hv);exact⟨ρ',λi hi=>(q1 i hi).trans (g2 i hi),q2,q3⟩
 generalize lC k h (os.zipIdx.map λp=>(p.2,p.1))=h at hf;generalize aqT h (os.zipIdx.map λp=>(p.2,p.1)) (matV v0 v [])=τ at hf;unfold endP.go at hf;cases hb:(endP.apk k os.length τ&&dN os.length v0&&nS os.length (os.zipIdx.map λp=>(p.2,p.1))&&Nat.ble k os.length)with
 |false=>rw[hb]at hf;exact hf.elim
 |true=>
  rw[hb]at hf;simp only[aP]at hf;simp only[aJ,Nat.ble_eq,nS,List.all_eq_true]at hb;obtain⟨⟨⟨b1,b2⟩,b3⟩,b4⟩:=hb;obtain⟨t1,t2,t3⟩:=Ig b1;have at_: ∀i,i<os.length->atL ((List.range os.length).map (tau τ)) i=tau τ i:=λi hi=>by
   simp[atL,List.getD_eq_getElem?_getD,hi]
  have hos: ∀p∈os.zipIdx.map (λp=>(p.2,p.1)),eqO τ p.2 (h.get (tau τ p.1)):=by
   have: ∀obs:List (Nat×dF),aud τ h obs-> ∀p∈obs,eqO τ p.2 (h.get (tau τ p.1)):=by
    intro obs
    induction obs with
    |nil=>intro _ p hp;cases hp
    |cons x r ih=>
     intro he p hp;rcases List.mem_cons.1 hp with rfl|hp
     ·exact he.1
     ·exact ih he.2 p hp
   exact this _ hf.2
  have mem: ∀i o,os[i]? =some o->(i,o)∈os.zipIdx.map (λp=>(p.2,p.1)):=λi o hi=>by
   refine List.mem_map.2 ⟨(o,i),?_,rfl⟩;rw[List.mem_zipIdx_iff_getElem?];exact hi
  refine⟨b4,λρ T w u hR hv=>⟨_,λi hi=> ?_,hR.sub (h':=hOf os) (tau τ) (λi j hi hj he=>t3 i j hi hj (by rw[at_ i hi,at_ j hj];exact he)) (λi o0 hi=> ?_),?_⟩⟩
  ·have hin:i<(hOf os).next:=Nat.lt_of_lt_of_le hi b4
   have:=t2 i hi;rw[at_ i hin]at this;simp only[if_pos hin,this]
  ·rw[dX]at hi
   have hlt:=(List.getElem?_eq_some_iff.1 hi).1;obtain⟨o',ho',JJ⟩:=J8 (N:=os.length) (b3 _ (mem i o0 hi)) (hos _ (mem i o0 hi));exact⟨hlt,o',ho',JJ⟩
  ·exact Iu (N:=os.length) (λi hi=>by
    have:i<(hOf os).next:=hi
    simp only[if_pos this]) _ _ _ b2 hf.1 hv
theorem auh{P:Program}{tbl:je}{tt:TT}(hT:tt.ok P)(hm:P.follows .mixedOrders=true)(ht:dZ P tbl)(an:FuncId->qL)(fuel d:Nat){g:FuncId}{args:List AV}{h:Heap}{v0:AV}{os:List dF}
  (hq:wpF P tbl tt an fuel d g args h (λv h'=>endP h.next v0 os v h')):Sp P g args h (λv h'=>v=v0/\h'=hO os.length os):=
 Bh ((vC hT hm ht an fuel d g args h _ hq).mono λ_ _ hh=>⟨_,_,Kq hh,rfl,rfl⟩)
attribute [irreducible] wpF wpC endP
end Go.Proofs.YtenfleoejgjklaaGreat.SE
end
