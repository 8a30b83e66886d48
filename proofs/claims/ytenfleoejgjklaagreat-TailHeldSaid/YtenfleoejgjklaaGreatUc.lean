import Derived.Test.YtenfleoejgjklaaGreatUa
import Derived.Test.YtenfleoejgjklaaGreatUb
import Derived.Laws.IdiomStrings
import Derived.Scope
set_option linter.unusedVariables false
set_option linter.unusedSimpArgs false
set_option linter.unnecessarySimpa false
section
namespace Go.Proofs.YtenfleoejgjklaaGreat.SE
open Go
def ajH(tt:TT)(t:TypeId)(x:AV)(h:Heap):Option (AV×Heap):=
 match tt t with
 |some ti=>match ti.desc with
  | .map _ _=>match x with
   | .lit (.map none)=>some (.ptr h.next 0,h.push (.iter none 0 [] 0))
   | .mp i=>match h.get i with
    |some (.map _ clk)=>some (.ptr h.next 0,h.push (.iter (some i) clk [] clk))
    |some (.yH _ _ clk)=>some (.ptr h.next 0,h.push (.iter (some i) clk [] clk))
    |_=>none
   |_=>none
  |_=>none
 |none=>none
def atf(it:AV)(h:Heap):Option (AV×Heap):=
 match it with
 | .ptr r 0=>match h.get r with
  |some (.iter none _ _ _)=>some (.tup [.lit (.bool false)],h)
  |some (.iter (some i) since seen last)=>match h.get i with
   |some (.map es clk)=>bif !seen.isEmpty&& !es.isEmpty&&es.all (fun x=>decide (x.2.2>=last))then none else
    (match es.filter (fun x=> !seen.contains x.2.2)with
    |[]=>some (.tup [.lit (.bool false)],h)
    |[x]=>bif decide (x.2.2<since)then some (.tup [.lit (.bool true),x.1,x.2.1],h.set r (.iter (some i) since (seen++[x.2.2]) clk))else none
    |_=>none)
   |_=>none
  |_=>none
 |_=>none
def ajI(it:AV)(h:Heap):Option (AV×Heap):=
 match it with
 | .ptr r 0=>match h.get r with
  |some (.iter (some i) _ seen last)=>match h.get i,seen.getLast? with
   |some (.map es clk),some st=>bif decide (clk=last)then(match es.find? (fun x=>x.2.2==st)with
    |some x=>some (.tup [x.1,x.2.1],h)
    |none=>none)else none
   |_,_=>none
  |_=>none
 |_=>none
theorem su{P:Program}{w:World}{r:Nat}{m:Option Nat}{a c:Nat}{l:Array Nat}(h:w.heap[r]? =some (.mapIter m a l c)):(getObj r).run P w= .ok (.mapIter m a l c) w:=by simp[getObj,Sem.run,h]
theorem adb{P:Program}{w:World}{r:Nat}{m:Option Nat}{a c:Nat}{l:Array Nat}(o':Obj)(h:w.heap[r]? =some (.mapIter m a l c)):(setObj r o').run P w= .ok () {w with heap:=w.heap.setIfInBounds r o'}:=by
 simp[setObj,Sem.run,h]
theorem Rel.iterAt{h:Heap}{ρ:Ren}{T:Nat->Prop}{w:World}(hR:Rel h ρ T w){r:Nat}{m:Option Nat}{since:Nat}{seen:List Nat}{st:Nat}(hi:h.get r=some (.iter m since seen st)):
  ∃a mb,ρ r=some a/\asN ρ m mb/\w.heap[a.blk]? =some (.mapIter mb since seen.toArray st)/\T a.blk/\a.base=0:=by
 obtain⟨S,h1,h2,h3,h4,h5⟩:=hR
 obtain⟨a,ha,h0,hS,mb,hm,hb⟩:=h1 r _ hi
 exact⟨a,mb,ha,hm,hb,(h3 r _ _ hi hS).1,h0⟩
theorem Rel.ajJ{h:Heap}{ρ:Ren}{T:Nat->Prop}{w:World}(hR:Rel h ρ T w){r:Nat}{m:Option Nat}{mb:Option Nat}{since:Nat}{seen seen':List Nat}{st st':Nat}{a:Loc}(hi:h.get r=some (.iter m since seen st))(ha:ρ r=some a)
  (hb:w.heap[a.blk]? =some (.mapIter mb since seen.toArray st)) (hm:asN ρ m mb) (hT:T a.blk) (h0:a.base=0):Rel (h.set r (.iter m since seen' st')) ρ T {w with heap:=w.heap.setIfInBounds a.blk (.mapIter mb since seen'.toArray st')}/\
   Keeps T w {w with heap:=w.heap.setIfInBounds a.blk (.mapIter mb since seen'.toArray st')}:=by
 have hne: ∀b,b≠a.blk->(w.heap.setIfInBounds a.blk (.mapIter mb since seen'.toArray st'))[b]? =w.heap[b]? :=fun b hb=>by
  rw[Array.getElem?_setIfInBounds];rw[if_neg (Ne.symm hb)]
 have hlt:a.blk<w.heap.size:=(Array.getElem?_eq_some_iff.1 hb).1
 refine⟨hR.upd (o:= .iter m since seen st) hi ha (by simp) hne (fun S hS=>hS.2.1) (fun S hS _=>⟨h0,hS,mb,hm,?_⟩),by simp,rfl,rfl,rfl,fun b hb=>hne b fun h=>hb (h▸hT)⟩
 show(w.heap.setIfInBounds a.blk _)[a.blk]? =_
 simp[hlt]
theorem lU.ZG{ρ:Ren}(p:Nat->Bool): ∀{es:List (AV×AV×Nat)} {l:List MapEntry},lU ρ es l->lU ρ (es.filter fun x=>p x.2.2) (l.filter fun e=>p e.born)
 |[],l,hm=>by have:l=[]:=hm;subst this;exact rfl
 |x::es,l,⟨e,l',he,h1,h2,h3,h4⟩=>by
  subst he
  simp only[List.filter_cons,h3]
  cases p x.2.2 with
  |true=>exact⟨e,_,rfl,h1,h2,h3,lU.ZG p h4⟩
  |false=>exact lU.ZG p h4
theorem lU.allB{ρ:Ren}(p:Nat->Bool): ∀{es:List (AV×AV×Nat)} {l:List MapEntry},lU ρ es l->(es.all fun x=>p x.2.2)=(l.all fun e=>p e.born)
 |[],l,hm=>by have:l=[]:=hm;subst this;rfl
 |x::es,l,⟨e,l',he,h1,h2,h3,h4⟩=>by
  subst he
  simp only[List.all_cons,h3,lU.allB p h4]
theorem lU.awj{ρ:Ren}(p:Nat->Bool): ∀{es:List (AV×AV×Nat)} {l:List MapEntry} {x:AV×AV×Nat},lU ρ es l->es.find? (fun x=>p x.2.2)=some x-> ∃e,l.find? (fun e=>p e.born)=some e/\bV ρ x.1 e.key/\bV ρ x.2.1 e.val
 |[],l,x,hm,hf=>by cases hf
 |y::es,l,x,⟨e,l',he,h1,h2,h3,h4⟩,hf=>by
  subst he
  simp only[List.find?_cons]at hf ⊢
  rw[h3]
  cases hp:p y.2.2<;>rw[hp]at hf
  ·exact lU.awj p h4 hf
  ·cases hf;exact⟨e,rfl,h1,h2⟩
theorem lU.nilB{ρ:Ren}: ∀{es:List (AV×AV×Nat)} {l:List MapEntry},lU ρ es l->es.isEmpty=l.isEmpty
 |[],l,hm=>by have:l=[]:=hm;subst this;rfl
 |x::es,l,⟨e,l',he,_⟩=>by subst he;rfl
theorem ajK{P:Program}{tt:TT}(hT:tt.ok P){h h':Heap}{ρ:Ren}{T:Nat->Prop}{w:World}(hR:Rel h ρ T w){t:TypeId}{x v:AV}{u:Value}(hr:ajH tt t x h=some (v,h'))(hu:bV ρ x u):XOk P (Instr.range t u) h ρ T w v h':=by
 have push: ∀(m:Option Nat) (mb:Option Nat) (since:Nat) (st:Nat),asN ρ m mb->(Instr.range t u).run P w= .ok (.pointer (some ⟨w.heap.size,0,none⟩)) (w.alloc (.mapIter mb since #[] st))->XOk P (Instr.range t u) h ρ T w (.ptr h.next 0) (h.push (.iter m since [] st)):=fun m mb since st hm hrun=>by
  have hnew:(w.alloc (.mapIter mb since #[] st)).heap[w.heap.size]? =some (.mapIter mb since #[] st):=by
   show(w.heap.push _)[w.heap.size]? =_
   simp
  obtain⟨ρ',h1,h2,h3,h4⟩:=hR.push (o:= .iter m since [] st) (ob:= .mapIter mb since #[] st) 0 ⟨rfl,rfl,mb,hm,hnew⟩
  obtain⟨S,_,_,_,_,h5⟩:=hR
  exact⟨_,_,ρ',hrun,h3,h1,by simp,h4,by simp only[bV];exact⟨_,h2,rfl⟩,Keeps.alloc _ h5⟩
 unfold ajH at hr
 split at hr
 ·rename_i ti hti
  split at hr
  ·rename_i kt et hd
   obtain⟨d1,r1,_,m1⟩:=dG (P:=P) hT hti w
   rw[xw (m1.trans hd)]at r1
   split at hr
   ·cases hr
    simp only[bV]at hu
    subst hu
    exact push none none 0 0 rfl (by simp[Instr.range,r1])
   ·rename_i i
    split at hr
    ·rename_i es clk hi
     cases hr
     simp only[bV]at hu
     obtain⟨a,ha,rfl⟩:=hu
     obtain⟨a',arr,ha',hb,hm,hTa⟩:=hR.ajG hi
     obtain rfl:a'=a:=Option.some.inj (ha'.symm.trans ha)
     exact push (some i) (some a'.blk) clk clk ⟨a',ha,rfl⟩ (by simp[Instr.range,r1,MapKept.run_getObj_map hb])
    ·rename_i n g clk hi
     cases hr
     simp only[bV]at hu
     obtain⟨a,ha,rfl⟩:=hu
     obtain⟨a',arr,ha',hb,hm,hTa⟩:=hR.Hr hi
     obtain rfl:a'=a:=Option.some.inj (ha'.symm.trans ha)
     exact push (some i) (some a'.blk) clk clk ⟨a',ha,rfl⟩ (by simp[Instr.range,r1,MapKept.run_getObj_map hb])
    ·cases hr
   ·cases hr
  ·cases hr
 ·cases hr
theorem ajL{P:Program}{h h':Heap}{ρ:Ren}{T:Nat->Prop}{w:World}(hR:Rel h ρ T w){x v:AV}{u:Value}(hr:ajI x h=some (v,h'))(hu:bV ρ x u):XOk P (Instr.entry u) h ρ T w v h':=by
 unfold ajI at hr
 split at hr
 ·rename_i r
  split at hr
  ·rename_i i since seen last hi
   split at hr
   ·rename_i es clk st hm hst
    cases hc:decide (clk=last)<;>rw[hc]at hr
    ·cases hr
    ·simp only[aO]at hr
     split at hr
     ·rename_i y hf
      cases hr
      simp only[bV]at hu
      obtain⟨a,ha,rfl⟩:=hu
      obtain⟨a',mb,ha',⟨b,hb,rfl⟩,hit,_,hbase⟩:=hR.iterAt hi
      obtain rfl:a'=a:=Option.some.inj (ha'.symm.trans ha)
      obtain⟨b',arr,hb',hmb,hmr,_⟩:=hR.ajG hm
      obtain rfl:b'=b:=Option.some.inj (hb'.symm.trans hb)
      obtain⟨e,he,h1,h2⟩:=lU.awj (fun n=>n==st) hmr hf
      have hcl:clk=last:=aQ hc
      subst hcl
      refine⟨.tuple #[e.key,e.val],w,ρ,?_,fun _ _=>rfl,Ren.le_refl _,aX _,hR,by simp only[bV];exact⟨_,rfl,.cons h1 (.cons h2 .nil)⟩,Keeps.refl _ _⟩
      have hback:seen.toArray.back? =some st:=by rw[List.back?_toArray];exact hst
      have hfind:arr.find? (fun x=>x.born==st)=some e:=by rw[<-Array.find?_toList];exact he
      simp[Instr.entry,hbase,su hit,hback,MapKept.run_getObj_map hmb,hfind]
     ·cases hr
   ·cases hr
  ·cases hr
 ·cases hr
theorem apu{P:Program}{h h':Heap}{ρ:Ren}{T:Nat->Prop}{w:World}(hR:Rel h ρ T w){x v:AV}{u:Value}{ty:TypeId}(hr:atf x h=some (v,h'))(hu:bV ρ x u):XOk P (Instr.next u false ty) h ρ T w v h':=by
 have over:(Instr.next u false ty).run P w= .ok (.tuple #[.bool false]) w->XOk P (Instr.next u false ty) h ρ T w (.tup [.lit (.bool false)]) h:=fun hrun=>
  ⟨_,w,ρ,hrun,fun _ _=>rfl,Ren.le_refl _,aX _,hR,by simp only[bV];exact⟨_,rfl,.cons (by simp only[bV]) .nil⟩,Keeps.refl _ _⟩
 unfold atf at hr
 split at hr
 ·rename_i r
  split at hr
  ·rename_i since seen last hi
   cases hr
   simp only[bV]at hu
   obtain⟨a,ha,rfl⟩:=hu
   obtain⟨a',mb,ha',hmb,hit,hTa,hbase⟩:=hR.iterAt hi
   obtain rfl:a'=a:=Option.some.inj (ha'.symm.trans ha)
   have hmb:mb=none:=hmb
   subst hmb
   exact over (by simp[Instr.next,hbase,su hit])
  ·rename_i i since seen last hi
   split at hr
   ·rename_i es clk hm
    simp only[bV]at hu
    obtain⟨a,ha,rfl⟩:=hu
    obtain⟨a',mb,ha',hI,hit,hTa,hbase⟩:=hR.iterAt hi
    obtain rfl:a'=a:=Option.some.inj (ha'.symm.trans ha)
    have hI0:=hI
    obtain⟨b,hb,rfl⟩:=hI
    obtain⟨b',arr,hb',hmb,hmr,_⟩:=hR.ajG hm
    obtain rfl:b'=b:=Option.some.inj (hb'.symm.trans hb)
    have hall:=lU.allB (fun n=>decide (n>=last)) hmr
    have hnil:=lU.nilB hmr
    have hfl:=lU.ZG (fun n=> !seen.contains n) hmr
    cases hg:(!seen.isEmpty&& !es.isEmpty&&es.all (fun x=>decide (x.2.2>=last)))<;>rw[hg]at hr
    ·simp only[aP]at hr
     rw[hnil,hall]at hg
     have hg':(!seen.toArray.isEmpty&& !arr.isEmpty&&arr.all (fun e=>decide (e.born>=last)))=false:=by
      rw[<-hg];cases seen<;>simp[<-Array.all_toList,Array.isEmpty]
     have hleft:(arr.filter fun e=> !seen.toArray.contains e.born).toList=arr.toList.filter fun e=> !seen.contains e.born:=by simp
     split at hr
     ·rename_i hnone
      cases hr
      rw[hnone]at hfl
      have hl0:(arr.filter fun e=> !seen.toArray.contains e.born)= #[]:=by apply Array.toList_inj.1;rw[hleft];exact hfl
      refine over ?_
      simp only[Instr.next,hbase,aH,Sem.run_bind,su hit,MapKept.run_getObj_map hmb,Result.andThen_ok,hg',Bool.false_eq_true,if_false,hl0]
      simp[Question.forced]
     ·rename_i y hone
      rw[hone]at hfl
      obtain⟨e,l',hl1,h1,h2,h3,h4⟩:=hfl
      have h4:l'=[]:=h4
      subst h4
      cases hs:decide (y.2.2<since)<;>rw[hs]at hr
      ·cases hr
      ·cases hr
       have hs:=aQ hs
       have hl0:(arr.filter fun e=> !seen.toArray.contains e.born)= #[e]:=by apply Array.toList_inj.1;rw[hleft];exact hl1
       obtain⟨R2,K2⟩:=hR.ajJ (seen':=seen++[y.2.2]) (st':=clk) hi ha hit hI0 hTa hbase
       refine⟨.tuple #[.bool true,e.key,e.val],_,ρ,?_,fun _ _=>rfl,Ren.le_refl _,by simp,R2,by simp only[bV];exact⟨_,rfl,.cons (by simp only[bV]) (.cons h1 (.cons h2 .nil))⟩,K2⟩
       have hs':e.born<since:=by rw[h3];exact hs
       simp only[Instr.next,hbase,aH,Sem.run_bind,su hit,MapKept.run_getObj_map hmb,Result.andThen_ok,hg',Bool.false_eq_true,if_false,hl0]
       simp[Question.forced,List.filter_cons,h3,hs,Nat.not_le.2 hs,adb _ hit]
     ·cases hr
    ·cases hr
   ·cases hr
  ·cases hr
 ·cases hr
def apv(it:AV)(h:Heap):Bool:=match it with
 | .ptr r 0=>match h.get r with
  |some (.iter (some i) _ _ _)=>match h.get i with
   |some (.yH ..)=>true
   |_=>false
  |_=>false
 |_=>false
def ajM(it:AV)(h:Heap)(Q:AV->Heap->Prop):Prop:=match it with
 | .ptr r 0=>match h.get r with
  |some (.iter (some i) since seen last)=>match h.get i with
   |some (.yH n g clk)=>(∀j,j<n->(g j).born<clk)/\since=clk/\last=clk/\
     (∀j,j<n->(g j).born ∉ seen->Q (.tup [.lit (.bool true),.lit (.string (g j).key),.agg ((g j).val.map .lit)]) (h.set r (.iter (some i) since (seen++[(g j).born]) clk)))/\
     ((∀j,j<n->(g j).born∈seen)->Q (.tup [.lit (.bool false)]) h)
   |_=>False
  |_=>False
 |_=>False
def ZH(it:AV)(h:Heap)(Q:AV->Heap->Prop):Prop:=match it with
 | .ptr r 0=>match h.get r with
  |some (.iter (some i) _ seen last)=>match h.get i with
   |some (.yH n g clk)=>last=clk/\(∃j,j<n/\seen.getLast? =some (g j).born)/\ ∀j,j<n->seen.getLast? =some (g j).born->Q (.tup [.lit (.string (g j).key),.agg ((g j).val.map .lit)]) h
   |_=>False
  |_=>False
 |_=>False
theorem ajN{P:Program}{h:Heap}{ρ:Ren}{T:Nat->Prop}{w:World}(hR:Rel h ρ T w){x:AV}{u:Value}{ty:TypeId}{Q:AV->Heap->Prop}(hq:ajM x h Q)(hu:bV ρ x u):XQ P (Instr.next u false ty) h ρ T w Q:=by
 unfold ajM at hq
 split at hq
 ·rename_i r
  split at hq
  ·rename_i i since seen last hi
   split at hq
   ·rename_i n g clk hm
    obtain⟨hb1,rfl,rfl,hq1,hq2⟩:=hq
    simp only[bV]at hu
    obtain⟨a,ha,rfl⟩:=hu
    obtain⟨a',mb,ha',hI,hit,hTa,hbase⟩:=hR.iterAt hi
    obtain rfl:a'=a:=Option.some.inj (ha'.symm.trans ha)
    have hI0:=hI
    obtain⟨b,hb,rfl⟩:=hI
    obtain⟨b',arr,hb',hmb,hmr,_⟩:=hR.Hr hm
    obtain rfl:b'=b:=Option.some.inj (hb'.symm.trans hb)
    have born: ∀e∈arr,e.born<last:=fun e he=>by
     obtain⟨j,hj,_,rfl⟩:=hmr.mem (by simpa using he)
     exact hb1 j hj
    have hg':(!seen.toArray.isEmpty&& !arr.isEmpty&&arr.all (fun e=>decide (e.born>=last)))=false:=by
     by_cases he:arr= #[]
     ·subst he;simp
     ·have:arr.all (fun e=>decide (e.born>=last))=false:=by
       rw[<-Bool.not_eq_true]
       intro hall
       rw[Array.all_eq_true_iff_forall_mem]at hall
       obtain⟨e,he'⟩:=Array.exists_mem_of_ne_empty arr he
       have h1:=hall e he'
       have h2:=born e he'
       simp only[decide_eq_true_eq]at h1
       omega
      rw[this];simp
    let left:=arr.filter fun e=> !seen.toArray.contains e.born
    have hold:left.filter (fun e=>decide (e.born<last))=left:=by
     rw[Array.filter_eq_self]
     intro e he
     exact decide_eq_true (born e (Array.mem_filter.1 he).1)
    have hnew:left.filter (fun e=>decide (e.born>=last))= #[]:=by
     rw[Array.filter_eq_empty_iff]
     intro e he
     have:=born e (Array.mem_filter.1 he).1
     simp only[decide_eq_true_eq];omega
    by_cases hl:left= #[]
    ·refine⟨_,h,⟨.tuple #[.bool false],w,ρ,?_,fun _ _=>rfl,Ren.le_refl _,aX _,hR,by simp only[bV];exact⟨_,rfl,.cons (by simp only[bV]) .nil⟩,Keeps.refl _ _⟩,hq2 fun j hj=> ?_⟩
     ·simp only[Instr.next,hbase,aH,Sem.run_bind,su hit,MapKept.run_getObj_map hmb,Result.andThen_ok]
      have h0:(arr.filter fun e=> !seen.toArray.contains e.born)= #[]:=hl
      rw[if_neg (by rw[hg'];decide)]
      simp only[h0,Array.filter_empty,Array.append_empty,Array.map_empty,Array.isEmpty_empty,if_true,Array.size_singleton]
      rw[Sem.run_bind,run_choose_drew,if_pos (by decide)]
      rfl
     ·by_cases hc:(g j).born∈seen
      ·exact hc
      ·exfalso
       have hmem:(g j).raw∈left:=Array.mem_filter.2 ⟨by
        have:=hmr.get hj
        exact Array.mem_of_getElem? this,by simpa[zy.raw]using hc⟩
       rw[hl]at hmem
       simp at hmem
    ·have hsz:0<left.size:=Array.size_pos_iff.2 hl
     have key: ∀(k:Nat) (w':World),(choose (.mapNext left.size)).run P w= .ok k w'->Rel h ρ T w'->w'.heap=w.heap->Keeps T w w'->k<left.size->XQ P (Instr.next (.pointer (some ⟨a'.blk,a'.base+0,none⟩)) false ty) h ρ T w Q:=by
      intro k w' hch hR' hheap hK hk
      have hmemk:left[k]∈left:=Array.getElem_mem hk
      obtain⟨hm1,hm2⟩:=Array.mem_filter.1 hmemk
      obtain⟨j,hj,_,hje⟩:=hmr.mem (by simpa using hm1)
      have hns:(g j).born ∉ seen:=by
       have:left[k].born=(g j).born:=by rw[hje];rfl
       rw[<-this];simpa using hm2
      have hit':w'.heap[a'.blk]? =some (.mapIter (some b'.blk) last seen.toArray last):=by rw[hheap];exact hit
      obtain⟨R2,K2⟩:=hR'.ajJ (seen':=seen++[(g j).born]) (st':=last) hi ha hit' hI0 hTa hbase
      refine⟨_,_,⟨.tuple #[.bool true,.string (g j).key,.agg (g j).val.toArray],_,ρ,?_,fun _ _=>rfl,Ren.le_refl _,by simp,R2,by simp only[bV];exact⟨_,rfl,.cons (by simp only[bV]) (.cons (by simp only[bV]) (.cons (by simp only[bV];exact⟨_,rfl,eP.lits _⟩) .nil))⟩,hK.trans K2⟩,hq1 j hj hns⟩
      simp only[Instr.next,hbase,aH,Sem.run_bind,su hit,MapKept.run_getObj_map hmb,Result.andThen_ok]
      rw[if_neg (by rw[hg'];decide)]
      have hne:left.isEmpty=false:=by cases hh:left.isEmpty with
       |false=>rfl
       |true=>exact absurd (Array.isEmpty_iff.1 hh) hl
      have awk:((if (left.filter fun e=>decide (e.born<last)).isEmpty then #[none]else #[])++((left.filter fun e=>decide (e.born<last))++left.filter fun e=>decide (e.born>=last)).map some:Array (Option MapEntry))=left.map some:=by
       rw[hold,hnew,hne];simp
      have hcs:(left.map some:Array (Option MapEntry)).size=left.size:=by simp
      simp only[left]at awk hcs hch hje
      rw[awk,hcs,Sem.run_bind,hch]
      have hgk:(arr.filter fun e=> !seen.toArray.contains e.born)[k]? =some (g j).raw:=by rw[Array.getElem?_eq_getElem hk];exact congrArg some hje
      rw[Result.andThen_ok,Array.getElem?_map,hgk]
      simp[adb _ hit',zy.raw]
     by_cases hf:(Question.mapNext left.size).forced=true
     ·exact key 0 w (by rw[run_choose_drew,if_pos hf]) hR rfl (Keeps.refl _ _) hsz
     ·exact key ((Question.mapNext left.size).cut (w.tape w.drawn (Question.mapNext left.size))) w.drew (by rw[run_choose_drew,if_neg hf]) hR.drew rfl (Keeps.drew _ _) (Nat.mod_lt _ hsz)
   ·exact hq.elim
  ·exact hq.elim
 ·exact hq.elim
theorem agP{P:Program}{h:Heap}{ρ:Ren}{T:Nat->Prop}{w:World}(hR:Rel h ρ T w){x:AV}{u:Value}{Q:AV->Heap->Prop}(hq:ZH x h Q)(hu:bV ρ x u):XQ P (Instr.entry u) h ρ T w Q:=by
 unfold ZH at hq
 split at hq
 ·rename_i r
  split at hq
  ·rename_i i since seen last hi
   split at hq
   ·rename_i n g clk hm
    obtain⟨rfl,⟨j0,hj0,hs0⟩,hq⟩:=hq
    simp only[bV]at hu
    obtain⟨a,ha,rfl⟩:=hu
    obtain⟨a',mb,ha',⟨b,hb,rfl⟩,hit,_,hbase⟩:=hR.iterAt hi
    obtain rfl:a'=a:=Option.some.inj (ha'.symm.trans ha)
    obtain⟨b',arr,hb',hmb,hmr,_⟩:=hR.Hr hm
    obtain rfl:b'=b:=Option.some.inj (hb'.symm.trans hb)
    have hback:seen.toArray.back? =some (g j0).born:=by rw[List.back?_toArray];exact hs0
    cases hfind:arr.find? (fun x=>x.born==(g j0).born)with
    |none=>
     exfalso
     rw[Array.find?_eq_none]at hfind
     have:=hfind (g j0).raw (Array.mem_of_getElem? (hmr.get hj0))
     simp[zy.raw]at this
    |some e=>
     have he1:=Array.mem_of_find?_eq_some hfind
     have he2:=Array.find?_some hfind
     obtain⟨j,hj,_,rfl⟩:=hmr.mem (by simpa using he1)
     have hbj:(g j).born=(g j0).born:=by simpa[zy.raw]using he2
     refine⟨_,_,⟨.tuple #[.string (g j).key,.agg (g j).val.toArray],w,ρ,?_,fun _ _=>rfl,Ren.le_refl _,aX _,hR,by simp only[bV];exact⟨_,rfl,.cons (by simp only[bV]) (.cons (by simp only[bV];exact⟨_,rfl,eP.lits _⟩) .nil)⟩,Keeps.refl _ _⟩,hq j hj (by rw[hbj];exact hs0)⟩
     simp[Instr.entry,hbase,su hit,hback,MapKept.run_getObj_map hmb,hfind,zy.raw]
   ·exact hq.elim
  ·exact hq.elim
 ·exact hq.elim
def vSrc(h:Heap)(x:AV)(m d:Nat)(Q:dL->Prop):Prop:=
 let cut (q n N:Nat) (g:Nat->List Value) (wr:List (Nat×List Value)):Prop:=cP (Nat.ble n d) (q+n<=N/\Q (.many n (fun k=>Cs.eff g wr (q+k)))) (q+d<=N/\Q (.many d (fun k=>Cs.eff g wr (q+k))))
 match x with
 | .sl j o n c=>bif Nat.beq o 0&&Nat.beq (KI h j) m then rowOf h j m fun N g wr=>cut 0 n N g wr else vNew h (.sl j o n c) m fun new=>new.len<=d/\Q new
 | .slE j q m' n _=>bif Nat.beq m m' then rowOf h j m fun N g wr=>cut q n N g wr else False
 | .slW j q m' n=>bif Nat.beq m m' then rowOf h j m fun N g wr=>cut q n N g wr else False
 | .slR j q m' n=>bif Nat.beq m m' then rowOf h j m fun N g wr=>cut q n N g wr else False
 | .lit (.string s)=>bif Nat.beq m 1 then cP (Nat.ble s.size d) (Q (.many s.size (fun k=>[.int .u8 (gG s k)]))) (Q (.many d (fun k=>[.int .u8 (gG s k)])))else False
 |x=>vNew h x m fun new=>new.len<=d/\Q new
def ajO(P:Program)(h:Heap)(ρ:Ren)(T:Nat->Prop)(m d:Nat)(v:Value)(new:dL):Prop:=
 ∃L,(∀w,(Builtin.lenOf v).run P w= .ok L w)/\new.len=Nat.min L d/\ ∀w,Rel h ρ T w-> ∃vs:Array Value,(Builtin.firstCells m new.len v).run P w= .ok vs w/\vs.size=new.len*m/\iq ρ (.row m new.len new.el []) vs 0
theorem ajO.ar7{P:Program}{h:Heap}{ρ:Ren}{T:Nat->Prop}{m d:Nat}{v:Value}{new:dL}(hn:ajB P h ρ T m v new)(hd:new.len<=d):ajO P h ρ T m d v new:=
 ⟨new.len,hn.1,(Nat.min_eq_left hd).symm,hn.2⟩
theorem P8{P:Program}{h:Heap}{ρ:Ren}{T:Nat->Prop}{j q m n c p d:Nat}{a:Loc}{ob:dw}{N:Nat}{g:Nat->List Value}{wr:List (Nat×List Value)}{Q:dL->Prop}(hm:0<m)(hi:h.get j=some ob)(hc:ob.fP=some (.row m N g wr))(ha:ρ j=some a)
  (hp:n≠0->p=a.base+q*m) (hq:cP (Nat.ble n d) (q+n<=N/\Q (.many n (fun k=>Cs.eff g wr (q+k)))) (q+d<=N/\Q (.many d (fun k=>Cs.eff g wr (q+k))))): ∃new,ajO P h ρ T m d (.slice (some ⟨a.blk,p,none⟩) n c) new/\Q new:=by
 rcases kR hq with ⟨hb,hle,hq⟩|⟨hb,hle,hq⟩
 ·exact⟨_,.ar7 (nY hm hi hc ha hle hp) (by simpa[dL.len]using hb),hq⟩
 ·have hdn:d<n:=by
   rcases Nat.lt_or_ge d n with h'|h'
   ·exact h'
   ·rw[show Nat.ble n d=true by simpa using h']at hb;cases hb
  refine⟨_,⟨n,fun w=>by simp[Builtin.lenOf],by simp only[dL.len];exact(Nat.min_eq_right (by omega)).symm,?_⟩,hq⟩
  exact(nY (P:=P) (T:=T) (n:=d) (c:=d) hm hi hc ha hle (fun _=>hp (by omega))).2
theorem atg{P:Program}{h:Heap}{ρ:Ren}{T:Nat->Prop}{x:AV}{v:Value}{m d:Nat}{Q:dL->Prop}(hm:0<m)(hq:vSrc h x m d Q)(hv:bV ρ x v): ∃new,ajO P h ρ T m d v new/\Q new:=by
 have plain: ∀{y:AV},bV ρ y v->vNew h y m (fun new=>new.len<=d/\Q new)-> ∃new,ajO P h ρ T m d v new/\Q new:=fun hy hq=>by
  obtain⟨new,hn,hle,hq⟩:=CO (P:=P) (T:=T) hm hq hy
  exact⟨new,.ar7 hn hle,hq⟩
 unfold vSrc at hq
 simp only at hq
 split at hq
 ·rename_i j o n c
  cases hb:(Nat.beq o 0&&Nat.beq (KI h j) m)with
  |false=>rw[hb]at hq;exact plain hv hq
  |true=>
   rw[hb]at hq;simp only[aO]at hq
   simp only[aI]at hb
   have:=ak hb.1;subst this
   simp only[bV]at hv
   obtain⟨a,ha,rfl⟩:=hv
   obtain⟨ob,N,g,wr,hi,hc,hq⟩:=iT hq
   exact P8 hm hi hc ha (fun _=>by simp) hq
 ·rename_i j q m' n c
  cases hb:Nat.beq m m' with
  |false=>rw[hb]at hq;exact hq.elim
  |true=>
   rw[hb]at hq;simp only[aO]at hq
   have:=ak hb;subst this
   simp only[bV]at hv
   obtain⟨a,p,ha,rfl,hnc,hp⟩:=hv
   obtain⟨ob,N,g,wr,hi,hc,hq⟩:=iT hq
   exact P8 hm hi hc ha (fun _=>hp (by omega)) hq
 ·rename_i j q m' n
  cases hb:Nat.beq m m' with
  |false=>rw[hb]at hq;exact hq.elim
  |true=>
   rw[hb]at hq;simp only[aO]at hq
   have:=ak hb;subst this
   simp only[bV]at hv
   obtain⟨a,p,c,ha,rfl,hnc,hp⟩:=hv
   obtain⟨ob,N,g,wr,hi,hc,hq⟩:=iT hq
   exact P8 hm hi hc ha (fun _=>(hp (by omega)).1) hq
 ·rename_i j q m' n
  cases hb:Nat.beq m m' with
  |false=>rw[hb]at hq;exact hq.elim
  |true=>
   rw[hb]at hq;simp only[aO]at hq
   have:=ak hb;subst this
   simp only[bV]at hv
   obtain⟨ob,N,g,wr,hi,hc,hq⟩:=iT hq
   rcases hv with ⟨rfl,rfl⟩|⟨a,p,c,ha,rfl,hnc,hp⟩
   ·rcases kR hq with ⟨hb,hle,hq⟩|⟨hb,hle,hq⟩
    ·exact⟨_,⟨0,fun w=>by simp[Builtin.lenOf],by simp[dL.len],fun w _=>⟨#[],by simp[Builtin.firstCells,dL.len],by simp[dL.len],fun k v hk=>by have:=Cs.fB hk;simp[Cs.size,dL.len]at this⟩⟩,hq⟩
    ·exact absurd (show true=false from hb) (by decide)
   ·exact P8 hm hi hc ha hp hq
 ·rename_i s
  cases hb:Nat.beq m 1 with
  |false=>rw[hb]at hq;exact hq.elim
  |true=>
   rw[hb]at hq;simp only[aO]at hq
   have:=ak hb;subst this
   simp only[bV]at hv;subst hv
   have key: ∀n,n<=s.size-> ∀w,∃vs:Array Value,(Builtin.firstCells 1 n (.string s)).run P w= .ok vs w/\vs.size=n*1/\iq ρ (.row 1 n (fun k=>[.int .u8 (gG s k)]) []) vs 0:=fun n hn w=>by
    refine⟨(s.extract 0 n).data.map fun b=> .int .u8 b.toNat,by simp only[Builtin.firstCells,Sem.run_pure],by rw[Array.size_map,ByteArray.data_extract,Array.size_extract];show min n s.size-0=n*1;omega,fun k y hk=> ?_⟩
    have hlt:=Cs.fB hk
    simp only[Cs.size,Nat.mul_one]at hlt
    have hlt2:Nat.blt k (n*1)=true:=bW.2 (by omega)
    simp only[Cs.get,hlt2,aO,Cs.eff,Nat.div_one,Nat.mod_one,ah]at hk
    cases hk
    refine⟨.int .u8 (gG s k),?_,by simp only[bV]⟩
    have hlt3:k<s.data.size:=Nat.lt_of_lt_of_le hlt hn
    rw[ay,Array.getElem?_map]
    have e:(s.extract 0 n).data[k]? =some s.data[k]:=by
     rw[ByteArray.data_extract,Array.getElem?_extract]
     rw[if_pos (by show k<min n s.size-0;omega),ay,Array.getElem?_eq_getElem hlt3]
    simp only[e,Option.map_some,gG,List.getD_eq_getElem?_getD,Array.getElem?_toList,Array.getElem?_eq_getElem hlt3,Option.getD_some]
   rcases kR hq with ⟨hb,hq⟩|⟨hb,hq⟩
   ·have hb:s.size<=d:=by simpa using hb
    refine⟨.many s.size (fun k=>[.int .u8 (gG s k)]),⟨s.size,fun w=>by simp[Builtin.lenOf],?_,fun w _=>key s.size (aX _) w⟩,hq⟩
    simp only[dL.len];exact(Nat.min_eq_left hb).symm
   ·have hdn:d<s.size:=by
     rcases Nat.lt_or_ge d s.size with h'|h'
     ·exact h'
     ·rw[show Nat.ble s.size d=true by simpa using h']at hb;cases hb
    refine⟨.many d (fun k=>[.int .u8 (gG s k)]),⟨s.size,fun w=>by simp[Builtin.lenOf],?_,fun w _=>key d (by omega) w⟩,hq⟩
    simp only[dL.len];exact(Nat.min_eq_right (by omega)).symm
 ·exact plain hv hq
def ath(tt:TT)(t:TypeId)(d x:AV)(h:Heap)(Q:AV->Heap->Prop):Prop:=
 match tt t with
 |some ti=>match ti.desc with
  | .slice e=>match tt e with
   |some te=>bif Nat.beq te.size 0 then False else(
    let lay (i q m n:Nat):Prop:=bif Nat.beq m te.size&&Hq h i then rowOf h i m fun N g wr=>q+n<=N/\vSrc h x m n fun new=>new.ones m/\Q (.lit (.int .i64 new.len)) (setRow h i (oV m N q g wr new))else False
    match d with
    | .slE i q m n _=>lay i q m n
    | .slW i q m n=>lay i q m n
    |_=>False)
   |none=>False
  |_=>False
 |none=>False
theorem apw{P:Program}{tt:TT}(hT:tt.ok P){h:Heap}{ρ:Ren}{T:Nat->Prop}{w:World}(hR:Rel h ρ T w){t ty:TypeId}{d x:AV}{u v:Value}{ts:Array TypeId}{us:Array Value}{Q:AV->Heap->Prop}
  (hq:ath tt t d x h Q) (hu:bV ρ d u) (hv:bV ρ x v) (ht0:ts[0]? =some t) (hu0:us[0]? =some u) (hu1:us[1]? =some v):XQ P (Builtin.copy_ ts ty us) h ρ T w Q:=by
 unfold ath at hq
 split at hq
 ·rename_i ti hti
  split at hq
  ·rename_i e hd
   split at hq
   ·rename_i te hte
    cases hb:Nat.beq te.size 0 with
    |true=>rw[hb]at hq;exact hq.elim
    |false=>
     rw[hb]at hq;simp only[aP]at hq
     have hm:0<te.size:=Nat.pos_of_ne_zero fun h0=>by rw[h0]at hb;cases hb
     have kQ: ∀w,(underlying t).run P w= .ok (.slice e) w:=fun w=>by
      obtain⟨d1,r1,_,m1⟩:=dG (P:=P) hT hti w
      rw[dh (m1.trans hd)]at r1;exact r1
     have hsz:=fun w=>run_sizeOf (P:=P) hT hte w
     have key: ∀{i q m n c p:Nat} {a:Loc},(bif Nat.beq m te.size&&Hq h i then rowOf h i m fun N g wr=>q+n<=N/\vSrc h x m n fun new=>new.ones m/\Q (.lit (.int .i64 new.len)) (setRow h i (oV m N q g wr new))else False)->
       ρ i=some a->u= .slice (some ⟨a.blk,p,none⟩) n c->(n≠0->p=a.base+q*m)->XQ P (Builtin.copy_ ts ty us) h ρ T w Q:=by
      intro i q m n c p a hq ha hue hp
      subst hue
      cases hb:(Nat.beq m te.size&&Hq h i)with
      |false=>rw[hb]at hq;exact hq.elim
      |true=>
       rw[hb]at hq;simp only[aO]at hq
       simp only[aI]at hb
       have:=ak hb.1;subst this
       obtain⟨ob,N,g,wr,hi,hc,hle,hq⟩:=iT hq
       obtain⟨new,⟨L,hlen,hmin,hnew⟩,CP,hq⟩:=atg (P:=P) (T:=T) hm hq hv
       have hrow:gy ob=true:=by simpa[Hq,hi]using hb.2
       have hset:setRow h i (oV te.size N q g wr new)=h.set i (oO ob (oV te.size N q g wr new)):=by simp[setRow,hi]
       rw[hset]at hq
       obtain⟨vs,hvs,Eh,hvc⟩:=hnew w hR
       have hdn:new.len<=n:=by rw[hmin];exact Nat.min_le_right _ _
       obtain⟨w',hrun,hR',hk'⟩:=iw (P:=P) hR (k:=q) (cs:=vs.toList) (new:=new) hm hi hrow hc ha (by omega) (by simpa using Eh) (MV hm CP Eh hvc) (by simpa using hvc)
       have hst:(storeCells ⟨a.blk,p,none⟩ vs.toList).run P w= .ok () w':=by
        by_cases hn:n=0
        ·have h0:new.len=0:=by omega
         have:vs= #[]:=Array.eq_empty_of_size_eq_zero (by rw[Eh,h0];simp)
         subst this
         simpa[storeCells]using hrun
        ·rw[hp hn];exact hrun
       refine⟨_,h.set i (oO ob (oV te.size N q g wr new)),⟨.int .i64 new.len,w',ρ,?_,fun _ _=>rfl,Ren.le_refl _,by simp,hR',by simp only[bV],hk'⟩,hq⟩
       simp only[Builtin.copy_,ht0,hu0,hu1,Sem.run_bind,kQ,Result.andThen_ok,hlen,hsz,Sem.run_pure]
       rw[<-hmin,hvs]
       simp only[Result.andThen_ok,Sem.run_bind,hst,Sem.run_pure]
       rfl
     split at hq
     ·rename_i i q m n c
      simp only[bV]at hu
      obtain⟨a,p,ha,rfl,hnc,hp⟩:=hu
      exact key hq ha rfl (fun hn=>hp (by omega))
     ·rename_i i q m n
      simp only[bV]at hu
      obtain⟨a,p,c,ha,rfl,hnc,hp⟩:=hu
      exact key hq ha rfl (fun hn=>(hp (by omega)).1)
     ·exact hq.elim
   ·exact hq.elim
  ·exact hq.elim
 ·exact hq.elim
def ajP(tt:TT)(t:TypeId)(d:AV)(h:Heap)(Q:AV->Heap->Prop):Prop:=
 match tt t with
 |some ti=>match ti.desc with
  | .slice e=>match tt e with
   |some te=>bif Nat.beq te.size 0|| !Nat.beq te.zero.length te.size|| !te.zero.all Value.oneCell' then False else(
    let lay (i q m n:Nat):Prop:=bif Nat.beq m te.size&&Hq h i then rowOf h i m fun N g wr=>q+n<=N/\Q (.tup []) (setRow h i (oV m N q g wr (.many n (fun _=>te.zero))))else False
    match d with
    | .slE i q m n _=>lay i q m n
    | .slW i q m n=>lay i q m n
    |_=>False)
   |none=>False
  |_=>False
 |none=>False
theorem Ac(z:Array Value)(n k:Nat)(hk:k<n*z.size):(Builtin.zeroCells z n)[k]? =z[k%z.size]? :=by
 have hz:0<z.size:=Nat.pos_of_ne_zero fun h0=>by rw[h0]at hk;simp at hk
 have hm:k%z.size<z.size:=Nat.mod_lt _ hz
 unfold Builtin.zeroCells
 rw[Array.getElem?_map,Array.getElem?_range,if_pos hk]
 simp[hm]
theorem ajQ{P:Program}{tt:TT}(hT:tt.ok P){h:Heap}{ρ:Ren}{T:Nat->Prop}{w:World}(hR:Rel h ρ T w){t ty:TypeId}{d:AV}{u:Value}{ts:Array TypeId}{us:Array Value}{Q:AV->Heap->Prop}
  (hq:ajP tt t d h Q) (hu:bV ρ d u) (ht0:ts[0]? =some t) (hu0:us[0]? =some u):XQ P (Builtin.clear_ ts ty us) h ρ T w Q:=by
 unfold ajP at hq
 split at hq
 ·rename_i ti hti
  split at hq
  ·rename_i e hd
   split at hq
   ·rename_i te hte
    cases hb:(Nat.beq te.size 0|| !Nat.beq te.zero.length te.size|| !te.zero.all Value.oneCell')with
    |true=>rw[hb]at hq;exact hq.elim
    |false=>
     rw[hb]at hq;simp only[aP]at hq
     simp only[Bool.or_eq_false_iff,Bool.not_eq_false',List.all_eq_true]at hb
     obtain⟨⟨hs0,hzl⟩,hz1⟩:=hb
     have hm:0<te.size:=Nat.pos_of_ne_zero fun h0=>by rw[h0]at hs0;cases hs0
     have hzl:=ak hzl
     have kQ: ∀w,(underlying t).run P w= .ok (.slice e) w:=fun w=>by
      obtain⟨d1,r1,_,m1⟩:=dG (P:=P) hT hti w
      rw[dh (m1.trans hd)]at r1;exact r1
     obtain⟨z,hzr,hzc⟩:=jV (P:=P) hT hte w
     have hzs:z.cells.size=te.size:=by rw[<-Array.length_toList,hzc,hzl]
     have key: ∀{i q m n c p:Nat} {a:Loc},(bif Nat.beq m te.size&&Hq h i then rowOf h i m fun N g wr=>q+n<=N/\Q (.tup []) (setRow h i (oV m N q g wr (.many n (fun _=>te.zero))))else False)->
       ρ i=some a->u= .slice (some ⟨a.blk,p,none⟩) n c->(n≠0->p=a.base+q*m)->XQ P (Builtin.clear_ ts ty us) h ρ T w Q:=by
      intro i q m n c p a hq ha hue hp
      subst hue
      cases hb:(Nat.beq m te.size&&Hq h i)with
      |false=>rw[hb]at hq;exact hq.elim
      |true=>
       rw[hb]at hq;simp only[aO]at hq
       simp only[aI]at hb
       have:=ak hb.1;subst this
       obtain⟨ob,N,g,wr,hi,hc,hle,hq⟩:=iT hq
       have hrow:gy ob=true:=by simpa[Hq,hi]using hb.2
       have hset:setRow h i (oV te.size N q g wr (.many n (fun _=>te.zero)))=h.set i (oO ob (oV te.size N q g wr (.many n (fun _=>te.zero)))):=by simp[setRow,hi]
       rw[hset]at hq
       have hzz:(Builtin.zeroCells z.cells n).size=n*te.size:=by simp[Builtin.zeroCells,hzs]
       have hget: ∀k,k<n*te.size->(Builtin.zeroCells z.cells n)[k]? =te.zero[k%te.size]? :=fun k hk=>by
        rw[Ac _ _ _ (by rw[hzs];exact hk),hzs,<-hzc,Array.getElem?_toList]
       obtain⟨w',hrun,hR',hk'⟩:=iw (P:=P) hR (k:=q) (cs:=(Builtin.zeroCells z.cells n).toList) (new:= .many n (fun _=>te.zero)) hm hi hrow hc ha (by simp only[dL.len];exact hle) (by simpa[dL.len]using hzz) (fun u hu=>by
        obtain⟨k,hk⟩:=List.mem_iff_getElem?.1 hu
        have hk':(Builtin.zeroCells z.cells n)[k]? =some u:=by simpa using hk
        have hlt:k<n*te.size:=by rw[<-hzz];exact(Array.getElem?_eq_some_iff.1 hk').1
        rw[hget k hlt]at hk'
        exact hz1 u (List.mem_of_getElem? hk')) (fun k y hk=>by
        have hlt:=Cs.fB hk
        simp only[Cs.size,dL.len]at hlt
        simp only[Cs.get,dL.len,bW.2 hlt,aO,Cs.eff,dL.el]at hk
        have hmod:k%te.size<te.zero.length:=by rw[hzl];exact Nat.mod_lt _ hm
        rw[List.getElem?_eq_getElem hmod]at hk
        cases hk
        refine⟨te.zero[k%te.size],?_,by simp only[bV]⟩
        rw[ay]
        simp only[List.getElem?_toArray,Array.toArray_toList]at*
        rw[hget k hlt,List.getElem?_eq_getElem hmod])
       refine⟨_,h.set i (oO ob (oV te.size N q g wr (.many n (fun _=>te.zero)))),⟨.tuple #[],w',ρ,?_,fun _ _=>rfl,Ren.le_refl _,by simp,hR',by simp only[bV];exact⟨_,rfl,.nil⟩,hk'⟩,hq⟩
       cases n with
       |zero=>
        have e0:(Builtin.zeroCells z.cells 0).toList=[]:=by simp[Builtin.zeroCells]
        rw[e0]at hrun
        simp only[storeCells,Sem.run_pure,Result.ok.injEq,aT]at hrun
        subst hrun
        simp only[Builtin.clear_,ht0,hu0,Sem.run_bind,kQ,Result.andThen_ok,Sem.run_pure]
       |succ n=>
        have hst:(storeCells ⟨a.blk,p,none⟩ (Builtin.zeroCells z.cells (n+1)).toList).run P w= .ok () w':=by rw[hp (by omega)];exact hrun
        simp only[Builtin.clear_,ht0,hu0,Sem.run_bind,kQ,Result.andThen_ok,hzr,hst,Sem.run_pure]
     split at hq
     ·rename_i i q m n c
      simp only[bV]at hu
      obtain⟨a,p,ha,rfl,hnc,hp⟩:=hu
      exact key hq ha rfl (fun hn=>hp (by omega))
     ·rename_i i q m n
      simp only[bV]at hu
      obtain⟨a,p,c,ha,rfl,hnc,hp⟩:=hu
      exact key hq ha rfl (fun hn=>(hp (by omega)).1)
     ·exact hq.elim
   ·exact hq.elim
  ·exact hq.elim
 ·exact hq.elim
theorem Fq{P:Program}{w:World}{t xt ty e:TypeId}{ts:Array TypeId}{us:Array Value}{base:Option Addr}{sLen sCap size newCap:Nat}{z:Value}{i:TypeInfo}{k k':IntKind}{l:Int}{old:Array Value}
  (ht0:ts[0]? =some t) (ht1:ts[1]? =some xt) (hu0:us[0]? =some (.slice base sLen sCap)) (hu1:us[1]? =some (.int k l)) (kQ: ∀w,(underlying t).run P w= .ok (.slice e) w)
  (hsz: ∀w,(sizeOf e).run P w= .ok size w) (hdx: ∀w,(underlying xt).run P w= .ok (.int k') w) (hi: ∀w,(typeInfo e).run P w= .ok i w) (hl0:0<=l) (hl1:l<2^62) (hlb:l*i.bytes<=2^48) (hs0:0<size) (hzz:z.cells.size=size)
  (hb:i.bytes≠0) (hz: ∀w,(zeroValue e).run P w= .ok z w) (hcap:sCap<sLen+l.toNat) (asZ:sLen+l.toNat<2^62) (hnx:Builtin.nextslicecap (sLen+l.toNat) sCap*i.bytes<=2^48)
  (hch:(choose (.appendCap (sLen+l.toNat) sCap e)).run P w= .ok newCap w.drew) (hold:(Builtin.firstCells size sLen (.slice base sLen sCap)).run P w.drew= .ok old w.drew):
  (Builtin.append_ ts ty us).run P w= .ok (.slice (some ⟨w.heap.size,0,none⟩) (sLen+l.toNat) newCap) (w.drew.alloc (.cells (old++Builtin.zeroCells z.cells l.toNat++Builtin.zeroCells z.cells (newCap-(sLen+l.toNat))) e)):=by
 have hw:IntKind.i64.wrap l=l:=by
  have:=apk (a:=l.toNat) (by omega)
  rwa [Int.toNat_of_nonneg hl0]at this
 have hmax: ¬(((sLen+l.toNat:Nat):Int)>IntKind.i64.max):=by
  have:IntKind.i64.max=9223372036854775807:=by rfl
  omega
 simp only[Builtin.append_,ht0,ht1,hu0,hu1,Sem.run_bind,kQ,Result.andThen_ok,hsz,hdx,asInt,asIntOf,Sem.run_pure,if_true,Sem.run_ite,hw,hi]
 rw[if_neg (by omega)]
 try simp only[Result.andThen_ok,Sem.run_pure,hi]
 rw[if_neg (by omega)]
 try simp only[Result.andThen_ok,Sem.run_pure]
 rw[if_neg (by omega)]
 try simp only[Result.andThen_ok,Sem.run_pure,Sem.run_bind,hi,Sem.run_ite]
 rw[if_neg (by rintro ⟨h,_⟩;exact hmax h),if_neg (by omega)]
 simp only[hch,Result.andThen_ok,run_askRoom,hold,Bool.not_true,Bool.false_eq_true,if_false]
 by_cases h0:l.toNat*size=0
 ·have hl:l.toNat=0:=by
   rcases Nat.mul_eq_zero.1 h0 with h|h
   ·exact h
   ·omega
  have e0:Builtin.zeroCells z.cells l.toNat= #[]:=by rw[hl];simp[Builtin.zeroCells]
  rw[e0]
  simp only[Sem.run_ite,if_pos h0,Sem.run_pure,Result.andThen_ok,hz,newRow,Sem.run_bind,run_newObj]
  rfl
 ·simp only[Sem.run_ite,if_neg h0,Sem.run_bind,Sem.run_pure,Result.andThen_ok,hz,newRow,run_newObj]
  rfl
def P9(tt:TT)(t:TypeId)(s x:AV)(h:Heap)(Q:AV->Heap->Prop):Prop:=
 match tt t with
 |some ti=>match ti.desc with
  | .slice e=>match tt e with
   |some te=>bif Nat.beq te.bytes 0|| !Nat.beq te.zero.length te.size||Nat.beq te.size 0 then False else(match s,x with
    | .slE i q m sn c,.lit (.int _ l)=>bif Nat.beq m te.size then(rowOf h i m fun N g wr=>q+sn<=N/\0<=l/\c<sn+l.toNat/\(2*(sn+l.toNat)+1000)*te.bytes<=2^48/\
      Q (.slW h.next 0 te.size (sn+l.toNat)) (h.push (.room e (mW te.size sn (fun k=>Cs.eff g wr (q+k)) [] (.many l.toNat (fun _=>te.zero))))))else False
    |_,_=>False)
   |none=>False
  |_=>False
 |none=>False
theorem ZI{P:Program}{tt:TT}(hT:tt.ok P){h:Heap}{ρ:Ren}{T:Nat->Prop}{w:World}(hR:Rel h ρ T w){t xt ty:TypeId}{s x:AV}{u v:Value}{ts:Array TypeId}{us:Array Value}{Q:AV->Heap->Prop}{tx:TI}
  (hq:P9 tt t s x h Q) (htx:tt xt=some tx) (hxi:Ef tx.desc=true) (hu:bV ρ s u) (hv:bV ρ x v) (ht0:ts[0]? =some t) (ht1:ts[1]? =some xt) (hu0:us[0]? =some u) (hu1:us[1]? =some v):XQ P (Builtin.append_ ts ty us) h ρ T w Q:=by
 unfold P9 at hq
 split at hq
 ·rename_i ti hti
  split at hq
  ·rename_i e hd
   split at hq
   ·rename_i te hte
    cases hbz:(Nat.beq te.bytes 0|| !Nat.beq te.zero.length te.size||Nat.beq te.size 0)with
    |true=>rw[hbz]at hq;exact hq.elim
    |false=>
     rw[hbz]at hq;simp only[aP]at hq
     simp only[Bool.or_eq_false_iff,Bool.not_eq_false']at hbz
     obtain⟨⟨hb0,hz⟩,hs0⟩:=hbz
     have hb0:te.bytes≠0:=fun h0=>by rw[h0]at hb0;cases hb0
     have hm:0<te.size:=Nat.pos_of_ne_zero fun h0=>by rw[h0]at hs0;cases hs0
     have hz:te.zero.length=te.size:=ak hz
     have kQ: ∀w,(underlying t).run P w= .ok (.slice e) w:=fun w=>by
      obtain⟨d1,r1,_,m1⟩:=dG (P:=P) hT hti w
      rw[dh (m1.trans hd)]at r1;exact r1
     obtain⟨k',hdx⟩: ∃k',∀w,(underlying xt).run P w= .ok (.int k') w:=by
      obtain⟨d1,_,p1,m1⟩:=dG (P:=P) hT htx w
      rw[<-m1]at hxi
      cases d1<;>try (exfalso;revert hxi;simp[zq,Ef];done)
      rename_i k1 _
      exact⟨k1,fun w=>by simp[underlying,p1]⟩
     have hsz:=fun w=>run_sizeOf (P:=P) hT hte w
     split at hq
     ·rename_i i q m sn c k l
      cases hmb:Nat.beq m te.size with
      |false=>rw[hmb]at hq;exact hq.elim
      |true=>
       rw[hmb]at hq;simp only[aO]at hq
       have:=ak hmb;subst this
       simp only[bV]at hu hv;subst hv
       obtain⟨a,p,ha,rfl,hnc,hp⟩:=hu
       obtain⟨ob,N,g,wr,hi,hc,hle,hl0,hcap,hlim,hq⟩:=iT hq
       obtain⟨_,hold⟩:=nY (P:=P) (T:=T) (c:=c) hm hi hc ha hle (p:=p) (fun h=>hp (by omega))
       obtain⟨os,hos,U4,hoc⟩:=hold w.drew hR.drew
       simp only[dL.len,dL.el]at hos U4 hoc
       obtain⟨z,hzr0,hzc⟩:=jV (P:=P) hT hte w
       have hzs:z.cells.size=te.size:=by rw[<-Array.length_toList,hzc,hz]
       have hzz:(Builtin.zeroCells z.cells l.toNat).size=l.toNat*te.size:=by simp[Builtin.zeroCells,hzs]
       have hnew:iq ρ (.row te.size (dL.many l.toNat (fun _=>te.zero)).len (dL.many l.toNat (fun _=>te.zero)).el []) (Builtin.zeroCells z.cells l.toNat) 0:=fun k y hk=>by
        have hlt:=Cs.fB hk
        simp only[Cs.size,dL.len]at hlt
        simp only[Cs.get,dL.len,bW.2 hlt,aO,Cs.eff,dL.el]at hk
        have hmod:k%te.size<te.zero.length:=by rw[hz];exact Nat.mod_lt _ hm
        rw[List.getElem?_eq_getElem hmod]at hk
        cases hk
        refine⟨te.zero[k%te.size],?_,by simp only[bV]⟩
        rw[ay,Ac _ _ _ (by rw[hzs];exact hlt),hzs,<-Array.getElem?_toList,hzc,List.getElem?_eq_getElem hmod]
       obtain⟨ii,z',newCap,ρ',g1,g2,g3,g4,g5,g6,g7,g8,g9,g10,g11⟩:=jW (P:=P) hT hR hte hb0 hz (need:=sn+l.toNat) (sCap:=c) hcap hlim (us:=os) (vs:=Builtin.zeroCells z.cells l.toNat)
        (c:=mW te.size sn (fun k=>Cs.eff g wr (q+k)) [] (.many l.toNat (fun _=>te.zero))) (by rw[U4,hzz,Nat.add_mul]) (by rw[(l9 hm).1];simp only[dL.len];rw[Nat.add_mul]) (fun rest=>xH hm hoc hnew U4 (by simpa[dL.len]using hzz))
       have hzz':z'=z:=by
        have:=g3 w
        rw[hzr0]at this
        cases this;rfl
       subst hzz'
       have asZ:sn+l.toNat<2^62:=by
        have:(sn+l.toNat)*1<=(2*(sn+l.toNat)+1000)*te.bytes:=Nat.mul_le_mul (by omega) (by omega)
        omega
       have hlb:l*ii.bytes<=2^48:=by
        rw[g2]
        have h1:l.toNat*te.bytes<=(2*(sn+l.toNat)+1000)*te.bytes:=Nat.mul_le_mul_right _ (by omega)
        have h2:((l.toNat*te.bytes:Nat):Int)<=((2^48:Nat):Int):=Int.ofNat_le.2 (Nat.le_trans h1 hlim)
        rw[Int.natCast_mul,Int.toNat_of_nonneg hl0]at h2
        exact h2
       refine⟨_,_,⟨_,_,ρ',Fq ht0 ht1 hu0 hu1 kQ hsz hdx g1 hl0 (by omega) hlb hm hzs (by omega) g3 hcap asZ (by rw[g2];exact g4) g5 hos,g7,g8,by simp,g9,?_,g11⟩,hq⟩
       simp only[bV]at g10 ⊢
       obtain⟨a,c,q1,q2,q3,q4⟩:=g10
       exact⟨a,_,c,q1,q2,q3,fun _=>⟨by simp,by omega⟩⟩
     ·exact hq.elim
   ·exact hq.elim
  ·exact hq.elim
 ·exact hq.elim
def vApp(tt:TT)(t xt:TypeId)(s x:AV)(h:Heap)(Q:AV->Heap->Prop):Prop:=match tt xt with
 |some tx=>bif Ef tx.desc then P9 tt t s x h Q else Zy tt t xt s x h Q
 |none=>False
theorem ati{P:Program}{tt:TT}(hT:tt.ok P){h:Heap}{ρ:Ren}{T:Nat->Prop}{w:World}(hR:Rel h ρ T w){t xt ty:TypeId}{s x:AV}{u v:Value}{ts:Array TypeId}{us:Array Value}{Q:AV->Heap->Prop}
  (hq:vApp tt t xt s x h Q) (hu:bV ρ s u) (hv:bV ρ x v) (ht0:ts[0]? =some t) (ht1:ts[1]? =some xt) (hu0:us[0]? =some u) (hu1:us[1]? =some v):XQ P (Builtin.append_ ts ty us) h ρ T w Q:=by
 unfold vApp at hq
 split at hq
 ·rename_i tx htx
  cases hx:Ef tx.desc with
  |true=>rw[hx]at hq;exact ZI hT hR hq htx hx hu hv ht0 ht1 hu0 hu1
  |false=>rw[hx]at hq;exact agL hT hR hq hu hv ht0 ht1 hu0 hu1
 ·exact hq.elim
def atj(tt:TT)(t:TypeId)(lz:Bool)(l c:AV)(h:Heap)(Q:AV->Heap->Prop):Prop:=
 match tt t,l,c with
 |some ti,.lit (.int _ a),.lit (.int _ b)=>match ti.desc with
  | .slice e=>match tt e with
   |some te=>bif Nat.beq te.zero.length te.size then(0<=a/\a<=b/\(te.bytes:Int)*b<=2^48/\b<2^62)/\
     (bif lz then Q (.slW h.next 0 te.size 0) (h.push (.room e (.row te.size 0 (fun _=>[]) [])))else Q (.slE h.next 0 te.size a.toNat b.toNat) (h.push (.cells e (.row te.size b.toNat (fun _=>te.zero) []))))else False
   |none=>False
  |_=>False
 |_,_,_=>False
theorem apx{P:Program}{tt:TT}(hT:tt.ok P){h:Heap}{ρ:Ren}{T:Nat->Prop}{w:World}(hR:Rel h ρ T w){t:TypeId}{lz:Bool}{l c:AV}{u v:Value}{Q:AV->Heap->Prop}
  (hq:atj tt t lz l c h Q) (hu:bV ρ l u) (hv:bV ρ c v) (hz:lz=true-> ∀k a,l= .lit (.int k a)->a=0):XQ P (Instr.makeSlice t u v) h ρ T w Q:=by
 unfold atj at hq
 split at hq
 ·rename_i ti k a k' b hti
  simp only[bV]at hu hv;subst hu;subst hv
  split at hq
  ·rename_i e hd
   split at hq
   ·rename_i te hte
    cases hzz:Nat.beq te.zero.length te.size with
    |false=>rw[hzz]at hq;exact hq.elim
    |true=>
     rw[hzz]at hq;simp only[aO]at hq
     have hzz:=ak hzz
     obtain⟨hc,hq⟩:=hq
     obtain⟨arr,hrun,acX,apb⟩:=run_make (P:=P) hT (w:=w) hti hd hte (k:=k) (k':=k') hc hzz
     cases lz with
     |true=>
      simp only[aO]at hq
      have h0:=hz rfl _ _ rfl
      subst h0
      obtain⟨ρ',h1,h2,h3,h4,h5⟩:=hR.push_room (e:=e) (c:= .row te.size 0 (fun _=>[]) []) (arr:=arr) (by simp[Cs.size]) (by intro j y hj;have:=Cs.fB hj;simp[Cs.size]at this)
      exact⟨_,_,⟨_,_,ρ',hrun,h3,h1,by simp,h4,by simp only[bV];exact⟨_,_,b.toNat,h2,rfl,by simp,fun _=>⟨by simp,by simp[acX]⟩⟩,h5⟩,hq⟩
     |false=>
      simp only[aP]at hq
      obtain⟨ρ',h1,h2,h3,h4,h5⟩:=hR.lY (e:=e) (c:= .row te.size b.toNat (fun _=>te.zero) []) (arr:=arr) (by simp[Cs.size,acX]) (by
       intro j y hj
       have hlt:=Cs.fB hj
       simp only[Cs.size]at hlt
       simp only[Cs.get,bW.2 hlt,aO,Cs.eff]at hj
       rw[ay,apb j hlt,hzz]
       cases hq:te.zero[j%te.size]? with
       |none=>
        rw[hq]at hj;cases hj
        rw[List.getElem?_eq_none_iff,hzz]at hq
        have:=Nat.mod_lt j (Nat.pos_of_ne_zero (fun h0=>by rw[h0]at hlt;simp at hlt):0<te.size)
        omega
       |some q=>rw[hq]at hj;cases hj;exact⟨q,rfl,by simp only[bV]⟩)
      exact⟨_,_,⟨_,_,ρ',hrun,h3,h1,by simp,h4,by simp only[bV];exact⟨_,_,h2,rfl,by omega,fun _=>by simp⟩,h5⟩,hq⟩
   ·exact hq.elim
  ·exact hq.elim
 ·exact hq.elim
def Ad:Nat->List Value->List Value->Bool
 |0,_,l=>l.isEmpty
 |n+1,z,l=>agQ z (l.take z.length)&&Ad n z (l.drop z.length)
where
 atl:Value->Value->Bool
  | .bool a,.bool b=>a==b
  | .int k a,.int k' b=>decide (k=k')&&a==b
  | .slice none a b,.slice none c d=>Nat.beq a c&&Nat.beq b d
  | .pointer none,.pointer none=>true
  | .map none,.map none=>true
  | .string a,.string b=>a.data.isEmpty&&b.data.isEmpty
  |_,_=>false
 agQ:List Value->List Value->Bool
  |[],[]=>true
  |a::l,b::m=>atl a b&&agQ l m
  |_,_=>false
theorem apy{a b:Value}(h:Ad.atl a b=true):a=b:=by
 unfold Ad.atl at h
 split at h<;>simp at h
 ·rw[h]
 ·rw[h.1,h.2]
 ·rw[h.1,h.2]
 ·rfl
 ·rfl
 ·rename_i a b
  obtain⟨⟨a⟩⟩:=a
  obtain⟨⟨b⟩⟩:=b
  simp at h
  rw[h.1,h.2]
theorem ade: ∀{l m:List Value},Ad.agQ l m=true->l=m
 |[],[],_=>rfl
 |[],_::_,h=>by simp[Ad.agQ]at h
 |_::_,[],h=>by simp[Ad.agQ]at h
 |a::l,b::m,h=>by
  simp only[Ad.agQ,aI]at h
  rw[apy h.1,ade h.2]
theorem Hy{z:List Value}(hz:0<z.length): ∀{n:Nat} {l:List Value},Ad n z l=true->l.length=n*z.length/\ ∀k,k<l.length->l[k]? =z[k%z.length]?
 |0,l,h=>by
  have:l=[]:=by simpa[Ad]using h
  subst this;simp
 |n+1,l,h=>by
  simp only[Ad,aI]at h
  have h1:=ade h.1
  obtain⟨h2,h3⟩:=Hy hz h.2
  have hl:z.length=(l.take z.length).length:=by rw[<-h1]
  have hle:z.length<=l.length:=by rw[List.length_take]at hl;omega
  rw[List.length_drop]at h2
  refine⟨by rw[Nat.add_mul];omega,fun k hk=> ?_⟩
  by_cases hkz:k<z.length
  ·rw[Nat.mod_eq_of_lt hkz]
   have:(l.take z.length)[k]? =l[k]? :=by rw[List.getElem?_take,if_pos hkz]
   rw[<-this,<-h1]
  ·have:=h3 (k-z.length) (by rw[List.length_drop];omega)
   rw[List.getElem?_drop,show z.length+(k-z.length)=k by omega]at this
   rw[this,<-Nat.mod_eq_sub_mod (by omega)]
def ajR(tt:TT)(e:TypeId)(h:Heap)(Q:AV->Heap->Prop):Prop:=
 match tt e with
 |some ti=>match ti.desc with
  | .array n el=>match tt el with
   |some te=>bif Nat.blt 8 n&& !Nat.beq te.zero.length 0&&Nat.beq te.zero.length te.size&&Ad n te.zero ti.zero then Q (.ptr h.next 0) (h.push (.cells e (.row te.size n (fun _=>te.zero) [])))else(match Me tt e h with
    |some (v,h')=>Q v h'
    |none=>False)
   |none=>False
  |_=>match Me tt e h with
   |some (v,h')=>Q v h'
   |none=>False
 |none=>False
theorem ajS{P:Program}{tt:TT}(hT:tt.ok P){h:Heap}{ρ:Ren}{T:Nat->Prop}{w:World}(hR:Rel h ρ T w){e:TypeId}{Q:AV->Heap->Prop}(hq:ajR tt e h Q):XQ P (Instr.alloc e true (.tuple #[])) h ρ T w Q:=by
 have old:(match Me tt e h with|some (v,h')=>Q v h'|none=>False)->XQ P (Instr.alloc e true (.tuple #[])) h ρ T w Q:=fun hq=>by
  split at hq
  ·rename_i v h' hv;exact⟨v,h',UZ hT hR hv,hq⟩
  ·exact hq.elim
 unfold ajR at hq
 split at hq
 ·rename_i ti hti
  split at hq
  ·rename_i n el hd
   split at hq
   ·rename_i te hte
    cases hb:(Nat.blt 8 n&& !Nat.beq te.zero.length 0&&Nat.beq te.zero.length te.size&&Ad n te.zero ti.zero)with
    |false=>rw[hb]at hq;exact old hq
    |true=>
     rw[hb]at hq;simp only[aO]at hq
     simp only[aI,Bool.not_eq_true']at hb
     obtain⟨⟨⟨_,h0⟩,hz⟩,hrep⟩:=hb
     have h0:0<te.zero.length:=Nat.pos_of_ne_zero fun hh=>by rw[hh]at h0;cases h0
     have hz:=ak hz
     obtain⟨r1,r2⟩:=Hy h0 hrep
     obtain⟨z,hzr,hzc⟩:=jV (P:=P) hT hti w
     have hsz:z.cells.size=n*te.size:=by rw[<-Array.length_toList,hzc,r1,hz]
     obtain⟨ρ',h1,h2,h3,h4,h5⟩:=hR.lY (e:=e) (c:= .row te.size n (fun _=>te.zero) []) (arr:=z.cells) (by simp[Cs.size,hsz]) (by
      intro j y hj
      have hlt:=Cs.fB hj
      simp only[Cs.size]at hlt
      simp only[Cs.get,bW.2 hlt,aO,Cs.eff]at hj
      have:=r2 j (by rw[r1,hz];exact hlt)
      rw[hz]at this
      rw[ay,<-Array.getElem?_toList,hzc,this]
      split at hj
      ·rename_i q hq;cases hj;exact⟨q,hq,by simp only[bV]⟩
      ·rename_i hq
       rw[List.getElem?_eq_none_iff,hz]at hq
       have:=Nat.mod_lt j (by omega:0<te.size)
       omega)
     exact⟨_,_,⟨.pointer (some ⟨w.heap.size,0,none⟩),_,ρ',by simp[Instr.alloc,hzr,newVar,newRow],h3,h1,by simp,h4,by simp only[bV];exact⟨_,h2,rfl⟩,h5⟩,hq⟩
   ·exact hq.elim
  ·exact old hq
 ·exact hq.elim
def Qa(tt:TT)(t:TypeId)(i p:Nat)(v:AV)(h:Heap)(Q:Heap->Prop):Prop:=
 match tt t,h.get i with
 |some ti,some ob=>match ob.fP with
  |some (.row m n g wr)=>bif Nat.beq m 1&&gy ob then(match v with
   | .arr n' f=>bif Nat.beq n' ti.size then(p+n'<=n/\(dL.many n' f).ones 1/\Q (h.set i (oO ob (oV 1 n p g wr (.many n' f)))))else False
   | .lit u=>bif Nat.beq ti.size 1&&u.oneCell' then(p<n/\Q (h.set i (oO ob (.row 1 n g ((p,[u])::wr)))))else False
   |_=>False)else False
  |_=>False
 |_,_=>False
theorem ZJ{P:Program}{tt:TT}(hT:tt.ok P){h:Heap}{ρ:Ren}{T:Nat->Prop}{w:World}(hR:Rel h ρ T w){t:TypeId}{i p:Nat}{v:AV}{u x:Value}{Q:Heap->Prop}
  (hl:Qa tt t i p v h Q) (hu:bV ρ (.ptr i p) u) (hx:bV ρ v x): ∃w' h',(Instr.storeAt t u x).run P w= .ok () w'/\Rel h' ρ T w'/\h'.next=h.next/\Keeps T w w'/\Q h':=by
 unfold Qa at hl
 split at hl
 ·rename_i ti ob hti hi
  split at hl
  ·rename_i m n g wr hc
   cases hb:(Nat.beq m 1&&gy ob)with
   |false=>rw[hb]at hl;exact hl.elim
   |true=>
    rw[hb]at hl;simp only[aO]at hl
    simp only[aI]at hb
    have:=ak hb.1;subst this
    simp only[bV]at hu
    obtain⟨a,ha,rfl⟩:=hu
    have fin: ∀(new:dL) (cs:List Value),x.cells.toList=cs->cs.length=ti.size->p+new.len<=n->cs.length=new.len*1->(∀u∈cs,u.oneCell'=true)->iq ρ (.row 1 new.len new.el []) cs.toArray 0->
      Q (h.set i (oO ob (oV 1 n p g wr new)))-> ∃w' h',(Instr.storeAt t (.pointer (some ⟨a.blk,a.base+p,none⟩)) x).run P w= .ok () w'/\Rel h' ρ T w'/\h'.next=h.next/\Keeps T w w'/\Q h':=by
     intro new cs hxc hsz hk hln h1 hcr hq
     obtain⟨w',hrun,hR',hk'⟩:=iw (P:=P) hR (m:=1) (k:=p) (new:=new) (cs:=cs) (by omega) hi hb.2 hc ha hk hln h1 hcr
     refine⟨w',_,?_,hR',by simp,hk',hq⟩
     have hsz2:x.cells.size=ti.size:=by rw[<-Array.length_toList,hxc,hsz]
     simp only[Instr.storeAt,Instr.sureAddr,Sem.run_bind,Sem.run_pure,Result.andThen_ok,storeVar,run_sizeOf hT hti]
     rw[if_neg (by simpa using hsz2)]
     simp only[hxc]
     rw[Nat.mul_one]at hrun
     exact hrun
    split at hl
    ·rename_i n' f
     cases hs:Nat.beq n' ti.size with
     |false=>rw[hs]at hl;exact hl.elim
     |true=>
      rw[hs]at hl;simp only[aO]at hl
      have hs:=ak hs
      obtain⟨hle,CP,hq⟩:=hl
      simp only[bV]at hx
      obtain⟨A,rfl,hA,hg⟩:=hx
      have hel: ∀k (_:k<n'),∃v,f k=[v]/\v.oneCell'=true/\A[k]? =some v:=fun k hk=>by
       have:=CP k hk
       simp only[aI,List.all_eq_true]at this
       have hl1:=ak this.1
       obtain⟨v,hv⟩:=List.length_eq_one_iff.1 hl1
       exact⟨v,hv,this.2 v (by rw[hv];simp),hg k v hk (by rw[hv];rfl)⟩
      refine fin (.many n' f) A.toList rfl (by rw[Array.length_toList];omega) hle (by simp only[dL.len,Array.length_toList];omega) (fun y hy=> ?_) (fun k y hk=> ?_) hq
      ·obtain⟨k,hk,rfl⟩:=List.mem_iff_getElem.1 hy
       rw[Array.length_toList]at hk
       obtain⟨v,_,h1,h2⟩:=hel k (by omega)
       rw[Array.getElem?_eq_getElem hk]at h2
       cases h2
       simpa using h1
      ·have hlt:=Cs.fB hk
       simp only[Cs.size,dL.len,Nat.mul_one]at hlt
       obtain⟨v,h1,_,h2⟩:=hel k hlt
       simp only[Cs.get,dL.len,dL.el,bW.2 (show k<n'*1 by omega),aO,Cs.eff,Nat.div_one,Nat.mod_one,h1,ah]at hk
       cases hk
       exact⟨v,by rw[ay];simpa using h2,by simp only[bV]⟩
    ·rename_i u
     cases hs:(Nat.beq ti.size 1&&u.oneCell')with
     |false=>rw[hs]at hl;exact hl.elim
     |true=>
      rw[hs]at hl;simp only[aO]at hl
      simp only[aI]at hs
      have hs1:=ak hs.1
      obtain⟨hle,hq⟩:=hl
      simp only[bV]at hx;subst hx
      have hone:x.cells= #[x]:=by cases x<;>first|rfl|(simp[Value.oneCell']at hs)
      refine fin (.few [[x]]) [x] (by rw[hone]) (by simp[hs1]) (by simp only[dL.len,List.length_cons,List.length_nil];omega) (by simp[dL.len]) (by simpa using hs.2) (fun k y hk=> ?_) hq
      have hlt:=Cs.fB hk
      simp only[Cs.size,dL.len,List.length_cons,List.length_nil,Nat.mul_one]at hlt
      have h0:k=0:=by simpa using hlt
      subst h0
      have:(Cs.row 1 (dL.few [[x]]).len (dL.few [[x]]).el []).get 0=some (.lit x):=rfl
      rw[this]at hk
      cases hk
      exact⟨x,by simp,by simp only[bV]⟩
    ·exact hl.elim
  ·exact hl.elim
 ·exact hl.elim
def Vj(cs:List AV):Option (Nat×(Nat->List Value)):=match qc cs with
 |some (v::r)=>bif Nat.blt 8 (r.length+1)&&Ad r.length [v] r then some (r.length+1,fun _=>[v])else none
 |_=>none
theorem Vk{cs:List AV}{n:Nat}{g:Nat->List Value}(h:Vj cs=some (n,g)):cs.length=n/\ ∀k,k<n-> ∃v,g k=[v]/\cs[k]? =some (.lit v):=by
 unfold Vj at h
 split at h
 ·rename_i v r hl
  cases hb:(Nat.blt 8 (r.length+1)&&Ad r.length [v] r)with
  |false=>rw[hb]at h;cases h
  |true=>
   rw[hb]at h;cases h
   simp only[aI]at hb
   have:=iD hl;subst this
   refine⟨by simp,fun k hk=>⟨v,rfl,?_⟩⟩
   obtain⟨h1,h2⟩:=Hy (by simp) hb.2
   cases k with
   |zero=>simp
   |succ k=>
    have:=h2 k (by omega)
    simp only[List.length_cons,List.length_nil,ay,Nat.mod_one,ah]at this
    simp[this]
 ·cases h
theorem agR{ρ:Ren}{cs:List AV}{n:Nat}{g:Nat->List Value}{x:Value}(h:Vj cs=some (n,g))(hx:bV ρ (.agg cs) x):bV ρ (.arr n g) x:=by
 obtain⟨h1,h2⟩:=Vk h
 simp only[bV]at hx ⊢
 obtain⟨vs,rfl,hlr⟩:=hx
 refine⟨vs,rfl,by rw[<-Array.length_toList,<-hlr.length,h1],fun k u hk hu=> ?_⟩
 obtain⟨v,g1,g2⟩:=h2 k hk
 rw[g1]at hu
 simp at hu;subst hu
 obtain⟨y,hy,hr⟩:=hlr.get k _ g2
 simp only[bV]at hr;subst hr
 simpa using hy
def rowAt(h:Heap)(i o n:Nat):Bool:=match h.get i with
 |some ob=>match ob.fP with
  |some c=>match lg c o with
   |some (o',m,N,_,_)=>Nat.beq o o'&&Nat.beq m 1&&Nat.beq n N
   |none=>false
  |none=>false
 |none=>false
def ZK(tt:TT)(t:TypeId)(i o:Nat)(v:AV)(h:Heap)(Q:Heap->Prop):Prop:=match v with
 | .agg cs=>match Vj cs with
  |some (n,g)=>bif rowAt h i o n then zZ tt t (.ptr i o) (.arr n g) h Q else zZ tt t (.ptr i o) (.agg cs) h Q
  |none=>zZ tt t (.ptr i o) (.agg cs) h Q
 |v=>zZ tt t (.ptr i o) v h Q
theorem agS{P:Program}{tt:TT}(hT:tt.ok P){h:Heap}{ρ:Ren}{T:Nat->Prop}{w:World}(hR:Rel h ρ T w){t:TypeId}{i o:Nat}{v:AV}{u x:Value}{Q:Heap->Prop}
  (hl:ZK tt t i o v h Q) (hu:bV ρ (.ptr i o) u) (hx:bV ρ v x): ∃w' h',(Instr.storeAt t u x).run P w= .ok () w'/\Rel h' ρ T w'/\h'.next=h.next/\Keeps T w w'/\Q h':=by
 unfold ZK at hl
 split at hl
 ·split at hl
  ·rename_i n g hg
   cases hb:rowAt h i o n with
   |true=>rw[hb]at hl;simp only[aO]at hl;exact oQ hT hR hl hu (agR hg hx)
   |false=>rw[hb]at hl;simp only[aP]at hl;exact oQ hT hR hl hu hx
  ·exact oQ hT hR hl hu hx
 ·exact oQ hT hR hl hu hx
def adf(l:List AV):Cs->Cs
 | .av r=> .av (l++r)
 | .cat (.av a) b=> .cat (.av (l++a)) b
 |c=> .cat (.av l) c
def ZL(tt:TT):List (Nat×TypeId×Bool)->List AV->Cs
 |[],cs=> .av cs
 |(_,ft,_)::fs,cs=>match tt ft with
  |some tf=>match Vj (cs.take tf.size),tf.desc with
   |some (n,g),.array _ _=> .cat (.row 1 n g []) (ZL tt fs (cs.drop tf.size))
   |_,_=>adf (cs.take tf.size) (ZL tt fs (cs.drop tf.size))
  |none=> .av cs
theorem ajT{a b:Cs}{la lb:List AV}(ha:a.size=la.length/\ ∀k v,a.get k=some v->la[k]? =some v)(hb:b.size=lb.length/\ ∀k v,b.get k=some v->lb[k]? =some v):
  (Cs.cat a b).size=(la++lb).length/\ ∀k v,(Cs.cat a b).get k=some v->(la++lb)[k]? =some v:=by
 refine⟨by simp only[Cs.size,List.length_append,ha.1,hb.1],fun k v h=> ?_⟩
 simp only[Cs.get]at h
 cases hk:Nat.blt k a.size with
 |true=>
  rw[hk]at h
  rw[List.getElem?_append_left (by have:=bW.1 hk;omega)]
  exact ha.2 k v h
 |false=>
  have: ¬k<a.size:=fun hh=>by rw[bW.2 hh]at hk;cases hk
  rw[hk]at h
  rw[List.getElem?_append_right (by omega),<-ha.1]
  exact hb.2 _ v h
theorem ajU(l:List AV):(Cs.av l).size=l.length/\ ∀k v,(Cs.av l).get k=some v->l[k]? =some v:=⟨rfl,fun _ _ h=>h⟩
theorem agT{l r:List AV}{c:Cs}(hc:c.size=r.length/\ ∀k v,c.get k=some v->r[k]? =some v):(adf l c).size=(l++r).length/\ ∀k v,(adf l c).get k=some v->(l++r)[k]? =some v:=by
 unfold adf
 split
 ·rename_i r'
  refine⟨by have:=hc.1;simp only[Cs.size,List.length_append]at this ⊢;omega,fun k v h=> ?_⟩
  simp only[Cs.get]at h
  rcases Nat.lt_or_ge k l.length with hk|hk
  ·rw[List.getElem?_append_left hk]at h ⊢;exact h
  ·rw[List.getElem?_append_right hk]at h ⊢;exact hc.2 _ v h
 ·rename_i a b
  refine⟨by have:=hc.1;simp only[Cs.size,List.length_append]at this ⊢;omega,fun k v h=> ?_⟩
  simp only[Cs.get,Cs.size,List.length_append]at h
  rcases Nat.lt_or_ge k l.length with hk|hk
  ·rw[bW.2 (show k<l.length+a.length by omega),aO]at h
   rw[List.getElem?_append_left hk]at h ⊢;exact h
  ·rw[List.getElem?_append_right hk]
   refine hc.2 _ v ?_
   simp only[Cs.get,Cs.size]
   cases hb:Nat.blt k (l.length+a.length)with
   |true=>
    have:=bW.1 hb
    rw[hb,aO,List.getElem?_append_right hk]at h
    rw[bW.2 (show k-l.length<a.length by omega)];exact h
   |false=>
    have: ¬k<l.length+a.length:=fun hh=>by rw[bW.2 hh]at hb;cases hb
    have hb2:Nat.blt (k-l.length) a.length=false:=by
     cases hh:Nat.blt (k-l.length) a.length
     ·rfl
     ·have:=bW.1 hh;omega
    rw[hb,aP]at h
    rw[hb2,aP,show k-l.length-a.length=k-(l.length+a.length) by omega];exact h
 ·exact ajT (ajU l) hc
theorem Vl{tt:TT}: ∀(fs:List (Nat×TypeId×Bool)) (cs:List AV),(ZL tt fs cs).size=cs.length/\ ∀k v,(ZL tt fs cs).get k=some v->cs[k]? =some v
 |[],cs=>ajU cs
 |(_,ft,_)::fs,cs=>by
  unfold ZL
  split
  ·rename_i tf htf
   have ih:=Vl (tt:=tt) fs (cs.drop tf.size)
   split
   ·rename_i n g _ _ hg _
    have:=ajT (a:= .row 1 n g []) (la:=cs.take tf.size) (by
     obtain⟨h1,h2⟩:=Vk hg
     refine⟨by simp only[Cs.size,Nat.mul_one,h1],fun k v h=> ?_⟩
     have hlt:=Cs.fB h
     simp only[Cs.size]at hlt
     obtain⟨u,g1,g2⟩:=h2 k (by omega)
     simp only[Cs.get,bW.2 hlt,aO,Cs.eff,Nat.div_one,Nat.mod_one,g1,ah]at h
     cases h;exact g2) ih
    rw[List.take_append_drop]at this
    exact this
   ·have:=agT (l:=cs.take tf.size) ih
    rw[List.take_append_drop]at this
    exact this
  ·exact ajU cs
def ar8(tt:TT)(fs:List (Nat×TypeId×Bool)):Bool:=fs.any fun f=>match tt f.2.1 with
 |some tf=>match tf.desc with
  | .array n e=>Nat.blt 8 n&&(match tt e with|some te=>Nat.beq te.size 1|none=>false)
  |_=>false
 |none=>false
def vBox(tt:TT)(e:TypeId)(v:AV)(h:Heap)(Q:AV->Heap->Prop):Prop:=
 let old:Prop:=match avX e v h with
  |some (r,h')=>Q r h'
  |none=>False
 match v,tt e with
 | .agg cs,some ti=>match ti.desc with
  | .struct fs _=>bif ar8 tt fs then Q (.ptr h.next 0) (h.push (.cells e (ZL tt fs cs)))else old
  |_=>old
 |_,_=>old
theorem atm{P:Program}{tt:TT}{h:Heap}{ρ:Ren}{T:Nat->Prop}{w:World}(hR:Rel h ρ T w){e:TypeId}{v:AV}{u:Value}{Q:AV->Heap->Prop}(hq:vBox tt e v h Q)(hu:bV ρ v u):XQ P (Instr.box e u) h ρ T w Q:=by
 have old:(match avX e v h with|some (r,h')=>Q r h'|none=>False)->XQ P (Instr.box e u) h ρ T w Q:=fun hq=>by
  split at hq
  ·rename_i r h' hb;exact⟨r,h',ai6 hR hb hu,hq⟩
  ·exact hq.elim
 unfold vBox at hq
 simp only at hq
 split at hq
 ·rename_i cs ti hti
  split at hq
  ·rename_i fs bb hd
   cases hg:ar8 tt fs with
   |false=>rw[hg]at hq;exact old hq
   |true=>
    rw[hg]at hq
    simp only[bV]at hu
    obtain⟨vs,rfl,hlr⟩:=hu
    obtain⟨p1,p2⟩:=Vl (tt:=tt) fs cs
    obtain⟨ρ',h1,h2,h3,h4,h5⟩:=hR.lY (e:=e) (c:=ZL tt fs cs) (arr:=vs) (by rw[p1,<-Array.length_toList,<-hlr.length]) (by
     intro k y hk
     obtain⟨z,hz,hr⟩:=hlr.get k y (p2 k y hk)
     exact⟨z,by rw[ay];simpa using hz,hr⟩)
    exact⟨_,_,⟨.pointer (some ⟨w.heap.size,0,none⟩),_,ρ',by simp[Instr.box,newVar,newRow,Value.cells],h3,h1,by simp,h4,by simp only[bV];exact⟨_,h2,rfl⟩,h5⟩,hq⟩
  ·exact old hq
 ·exact old hq
def ZM(tt:TT)(t:TypeId)(a v:AV)(h:Heap)(Q:Heap->Prop):Prop:=
 match a with
 | .qE i k m j=>bif Nat.beq (KI h i) 1&& !Nat.beq m 1 then Qa tt t i (k*m+j) v h Q else match tt t,h.get i,jI v with
  |some ti,some ob,some cs=>match ob.fP,qc cs with
   |some (.row m' n g wr),some vs=>bif Nat.beq j 0&&Nat.beq m m'&&gy ob&&Nat.beq vs.length ti.size&&Nat.beq vs.length m&&vs.all Value.oneCell'&& !Nat.beq m 0 then(k<n/\Q (h.set i (oO ob (.row m n g ((k,vs)::wr)))))else zZ tt t (.qE i k m j) v h Q
   |some _,some _=>zZ tt t (.qE i k m j) v h Q
   |_,_=>False
  |_,_,_=>False
 | .ptr i o=>ZK tt t i o v h Q
 |a=>zZ tt t a v h Q
theorem agU{P:Program}{tt:TT}(hT:tt.ok P){h:Heap}{ρ:Ren}{T:Nat->Prop}{w:World}(hR:Rel h ρ T w){t:TypeId}{a v:AV}{u x:Value}{Q:Heap->Prop}
  (hl:ZM tt t a v h Q) (hu:bV ρ a u) (hx:bV ρ v x): ∃w' h',(Instr.storeAt t u x).run P w= .ok () w'/\Rel h' ρ T w'/\h'.next=h.next/\Keeps T w w'/\Q h':=by
 unfold ZM at hl
 split at hl
 ·rename_i i k m j
  cases hfl:(Nat.beq (KI h i) 1&& !Nat.beq m 1)with
  |true=>rw[hfl]at hl;exact ZJ hT hR hl (by simpa only[bV]using hu) hx
  |false=>
  rw[hfl]at hl;simp only[aP]at hl
  split at hl
  ·rename_i ti ob cs hti hi hcs
   split at hl
   ·rename_i m' n g wr vs hc hvs
    cases hb:(Nat.beq j 0&&Nat.beq m m'&&gy ob&&Nat.beq vs.length ti.size&&Nat.beq vs.length m&&vs.all Value.oneCell'&& !Nat.beq m 0)with
    |false=>rw[hb]at hl;simp only[aP]at hl;exact oQ hT hR hl hu hx
    |true=>
     rw[hb]at hl;simp only[aO]at hl
     simp only[aI,List.all_eq_true,Bool.not_eq_true']at hb
     obtain⟨⟨⟨⟨⟨⟨hj,hm⟩,hrow⟩,hsz⟩,hvm⟩,h1⟩,hm0⟩:=hb
     have:=ak hm;subst this
     have:=ak hj;subst this
     have hsz:=ak hsz
     have hvm:=ak hvm
     have hm0:0<m:=Nat.pos_of_ne_zero fun h0=>by rw[h0]at hm0;cases hm0
     obtain⟨hk,hl⟩:=hl
     simp only[bV]at hu
     obtain⟨a,ha,rfl⟩:=hu
     have hlr:=oH hcs hx
     have hcl:=iD hvs
     subst hcl
     have hxv:x.cells.toList=vs:=by
      have: ∀(l:List Value) (r:List Value),eP ρ (l.map .lit) r->r=l:=by
       intro l
       induction l with
       |nil=>intro r hr;simpa[eP]using hr
       |cons y l ih=>intro r hr;simp only[List.map_cons,eP,bV]at hr;obtain⟨z,zs,rfl,rfl,hr⟩:=hr;rw[ih zs hr]
      exact this _ _ hlr
     obtain⟨w',hrun,hR',hk'⟩:=iw (P:=P) hR (k:=k) (new:= .few [vs]) (cs:=vs) hm0 hi hrow hc ha (by simp only[dL.len,List.length_cons,List.length_nil];omega) (by simp[dL.len,hvm]) h1 (fun q y hq=>by
      have hlt:=Cs.fB hq
      simp only[Cs.size,dL.len,List.length_cons,List.length_nil,ay,Nat.one_mul]at hlt
      have hq2:q<(dL.few [vs]).len*m:=by simp only[dL.len,List.length_cons,List.length_nil];omega
      simp only[Cs.get,bW.2 hq2,aO,Cs.eff,dL.el,Nat.div_eq_of_lt hlt,Nat.mod_eq_of_lt hlt,List.getD_cons_zero]at hq
      rw[List.getElem?_eq_getElem (by omega)]at hq
      simp only[aj]at hq
      subst hq
      exact⟨vs[q],by rw[ay];simp[List.getElem?_eq_getElem (show q<vs.length by omega)],by simp only[bV]⟩)
     refine⟨w',_,?_,hR',by simp,hk',hl⟩
     have hsz2:x.cells.size=ti.size:=by rw[<-Array.length_toList,hxv,hsz]
     simp only[Instr.storeAt,Instr.sureAddr,Sem.run_bind,Sem.run_pure,Result.andThen_ok,storeVar,run_sizeOf hT hti]
     rw[if_neg (by simpa using hsz2)]
     simp only[hxv]
     exact hrun
   ·exact oQ hT hR hl hu hx
   ·exact hl.elim
  ·exact hl.elim
 ·exact agS hT hR hl hu hx
 ·exact oQ hT hR hl hu hx
def rowed:AV->Heap->Option (AV×Heap)
 | .sl i o n c,h=>match h.get i with
  |some (.cells e (.av l))=>match qc l with
   |some vs=>bif Nat.beq o 0&&Nat.blt 8 n&&Nat.beq vs.length n&&Nat.ble n c then some (.slE i 0 1 n c,h.set i (.cells e (.row 1 n (fun k=>[vs.getD k default]) [])))else none
   |none=>none
  |_=>none
 |_,_=>none
theorem apz{v v':AV}{h h':Heap}{ρ:Ren}{T:Nat->Prop}{w:World}{u:Value}(hr:rowed v h=some (v',h'))(hR:Rel h ρ T w)(hv:bV ρ v u):Rel h' ρ T w/\bV ρ v' u/\h'.next=h.next:=by
 unfold rowed at hr
 split at hr
 ·rename_i i o n c
  split at hr
  ·rename_i e l hi
   split at hr
   ·rename_i vs hvs
    cases hb:(Nat.beq o 0&&Nat.blt 8 n&&Nat.beq vs.length n&&Nat.ble n c)with
    |false=>rw[hb]at hr;cases hr
    |true=>
     rw[hb]at hr;cases hr
     simp only[aI,Nat.ble_eq]at hb
     obtain⟨⟨⟨b1,_⟩,b2⟩,b3⟩:=hb
     have:=ak b1;subst this
     have b2:=ak b2
     have:=iD hvs;subst this
     simp only[bV]at hv
     obtain⟨a,ha,rfl⟩:=hv
     have hl:(Cs.row 1 n (fun k=>[vs.getD k default]) []).size=(Cs.av (vs.map .lit)).size:=by simp[Cs.size,b2]
     refine⟨hR.upd hi ha rfl (fun _ _=>rfl) (fun S hh=>hh.2.1) fun S hS hh=> ?_,by simp only[bV];exact⟨a,_,ha,rfl,b3,fun _=>by simp⟩,by simp⟩
     obtain⟨h0,_,arr,h1,h2,h3,h4⟩:=hh
     refine⟨h0,hS,arr,h1,by rw[hl];exact h2,by rw[hl];exact h3,fun k y hk=> ?_⟩
     have hlt:=Cs.fB hk
     simp only[Cs.size]at hlt
     simp only[Cs.get,bW.2 hlt,aO,Cs.eff,Nat.div_one,Nat.mod_one,ah]at hk
     cases hk
     have hk2:k<vs.length:=by omega
     obtain⟨z,hz,hr⟩:=h4 k (.lit vs[k]) (by simp[Cs.get,hk2])
     refine⟨z,hz,?_⟩
     rw[List.getD_eq_getElem?_getD,List.getElem?_eq_getElem hk2]
     exact hr
   ·cases hr
  ·cases hr
 ·cases hr
def ajV(tt:TT)(t:TypeId)(n:Nat)(ps:List (Nat×AV))(h:Heap)(Q:AV->Heap->Prop):Prop:=match rY tt t n ps h with
 |some (v,h')=>match rowed v h' with
  |some (v2,h2)=>Q v2 h2
  |none=>Q v h'
 |none=>False
def byteOf:List Value->UInt8
 |[.int _ z]=>UInt8.ofNat z.toNat
 |_=>0
def isByte:List Value->Bool
 |[.int .u8 z]=>decide (0<=z)&&decide (z<256)
 |_=>false
def mkStr(n:Nat)(f:Nat->UInt8):ByteArray:=⟨((List.range n).map f).toArray⟩
def atn(tt:TT)(s d:TypeId)(x:AV)(h:Heap)(Q:AV->Prop):Prop:=
 match tt s,tt d with
 |some ts,some td=>match ts.desc,td.desc with
  | .slice e,.string=>match tt e with
   |some te=>match te.desc with
    | .int .u8=>
     let go (i q m n:Nat):Prop:=bif Nat.beq m 1 then rowOf h i 1 fun N g wr=>q+n<=N/\(∀k,k<n->isByte (Cs.eff g wr (q+k))=true)/\Q (.lit (.string (mkStr n (fun k=>byteOf (Cs.eff g wr (q+k))))))else False
     match x with
     | .slE i q m n _=>go i q m n
     | .slW i q m n=>go i q m n
     |_=>False
    |_=>False
   |none=>False
  |_,_=>False
 |_,_=>False
theorem apA{P:Program}{tt:TT}(hT:tt.ok P){h:Heap}{ρ:Ren}{T:Nat->Prop}{w:World}(hR:Rel h ρ T w){s d:TypeId}{x:AV}{u:Value}{Q:AV->Prop}(hq:atn tt s d x h Q)(hu:bV ρ x u): ∃v,ROk P (convert s d u) ρ w v/\Q v:=by
 unfold atn at hq
 split at hq
 ·rename_i ts td hts htd
  split at hq
  ·rename_i e hd1 hd2
   split at hq
   ·rename_i te hte
    split at hq
    ·rename_i hd3
     obtain⟨i1,d1,z1,_,u1,_,_,_,_,m1⟩:=hT.info hts
     obtain⟨i2,d2,z2,_,u2,_,_,_,_,m2⟩:=hT.info htd
     obtain⟨i3,d3,z3,_,u3,_,_,_,_,m3⟩:=hT.info hte
     rw[dh (m1.trans hd1)]at u1
     rw[iC (m2.trans hd2)]at u2
     have e3:d3= .int .u8:=by have:=m3.trans hd3;cases d3<;>simp[zq]at this;rw[this]
     rw[e3]at u3
     have main: ∀(i q m n c p:Nat) (a:Loc),ρ i=some a->u= .slice (some ⟨a.blk,p,none⟩) n c->(n≠0->p=a.base+q*m)->
       (bif Nat.beq m 1 then rowOf h i 1 fun N g wr=>q+n<=N/\(∀k,k<n->isByte (Cs.eff g wr (q+k))=true)/\Q (.lit (.string (mkStr n (fun k=>byteOf (Cs.eff g wr (q+k))))))else False)-> ∃v,ROk P (convert s d u) ρ w v/\Q v:=by
      rintro i q m n c p a ha rfl hp hq
      cases hm:Nat.beq m 1 with
      |false=>rw[hm]at hq;exact hq.elim
      |true=>
       rw[hm]at hq;simp only[aO]at hq
       have:=ak hm;subst this
       obtain⟨ob,N,g,wr,hi,hc,hle,hby,hq⟩:=iT hq
       refine⟨_,⟨.string (mkStr n (fun k=>byteOf (Cs.eff g wr (q+k)))),?_,by simp only[bV]⟩,hq⟩
       have hlen:((List.range n).map (fun k=>byteOf (Cs.eff g wr (q+k)))).length=n:=by simp
       have:=run_convert_bytes_back (P:=P) w s d e ⟨a.blk,p,none⟩ c ((List.range n).map (fun k=>byteOf (Cs.eff g wr (q+k)))) u1 u3 u2 (fun j hj=>by
        have hjn:j<n:=by simpa using hj
        have hb:=hby j hjn
        simp only[List.getElem_map,List.getElem_range]
        obtain⟨z,hz,h0,h1⟩: ∃z,Cs.eff g wr (q+j)=[.int .u8 z]/\0<=z/\z<256:=by
         unfold isByte at hb
         split at hb
         ·rename_i z hz
          simp only[aI,decide_eq_true_eq]at hb
          exact⟨z,hz,hb⟩
         ·cases hb
        have hcell:cellAt h i (q+j)=some (.lit (.int .u8 z)):=by
         simp only[cellAt,hi,hc]
         have:=rZ (m:=1) (g:=g) (wr:=wr) (n:=N) (k:=q+j) (j:=0) (v:= .int .u8 z) (by omega) (by omega) (by rw[hz];rfl)
         simpa using this
        obtain⟨b,hb2,y,hy,hr⟩:=hR.cell hcell
        obtain rfl:b=a:=Option.some.inj (hb2.symm.trans ha)
        simp only[bV]at hr;subst hr
        have hbz:((byteOf (Cs.eff g wr (q+j))).toNat:Int)=z:=by
         rw[hz];simp only[byteOf,UInt8.toNat_ofNat'];omega
        rw[hbz]
        have hpe:=hp (by omega)
        unfold Addr.add
        split
        ·rename_i hj0;subst hj0;rw[hpe];simpa using hy
        ·rw[hpe];simpa[Nat.add_assoc]using hy)
       rw[hlen]at this
       exact this
     simp only at hq
     split at hq
     ·rename_i i q m n c
      simp only[bV]at hu
      obtain⟨a,p,ha,hue,hnc,hp⟩:=hu
      exact main i q m n c p a ha hue (fun hn=>hp (by omega)) hq
     ·rename_i i q m n
      simp only[bV]at hu
      obtain⟨a,p,c,ha,hue,hnc,hp⟩:=hu
      exact main i q m n c p a ha hue (fun hn=>(hp (by omega)).1) hq
     ·exact hq.elim
    ·exact hq.elim
   ·exact hq.elim
  ·exact hq.elim
 ·exact hq.elim
def isText(tt:TT)(s d:TypeId):Bool:=match tt s,tt d with
 |some ts,some td=>match ts.desc,td.desc with
  | .slice _,.string=>true
  |_,_=>false
 |_,_=>false
def vX(tt:TT)(op:Op)(ev:Operand->AV)(h:Heap)(Q:AV->Heap->Prop):Prop:=
 match op with
 | .load t x=>Zw tt t (ev x) h fun v=>Q v h
 | .store t a x=>ZM tt t (ev a) (ev x) h fun h'=>Q (.lit undef) h'
 | .alloc e=>ajR tt e h Q
 | .box e x=>vBox tt e (ev x) h Q
 | .convert s d x=>bif isText tt s d then atn tt s d (ev x) h (fun v=>Q v h)else vN tt (.convert s d x) ev h (fun v=>Q v h)
 | .buildSlice t n ps=>ajV tt t n (ps.toList.map fun p=>(p.1,ev p.2)) h Q
 | .makeSlice t l c=>atj tt t false (ev l) (ev c) h Q
 | .makeMap t r=>Gm tt t r.isSome h Q
 | .insert t m k x=>P7 tt t (ev m) (ev k) (ev x) h fun h'=>Q (.lit undef) h'
 | .mapUpdate t m k x=>P7 tt t (ev m) (ev k) (ev x) h fun h'=>Q (.lit undef) h'
 | .lookup t m k ok=>ZE tt t (ev m) (ev k) ok h fun v=>Q v h
 | .range t x=>match ajH tt t (ev x) h with
  |some (v,h')=>Q v h'
  |none=>False
 | .next it isString=>bif isString then False else(bif apv (ev it) h then ajM (ev it) h Q else(match atf (ev it) h with
  |some (v,h')=>Q v h'
  |none=>False))
 | .entry it=>bif apv (ev it) h then ZH (ev it) h Q else(match ajI (ev it) h with
  |some (v,h')=>Q v h'
  |none=>False)
 | .call c=>match c.callee with
  | .builtin .append=>match c.argTypes.toList,c.args.toList.map ev with
   |t::t'::_,x::y::_=>vApp tt t t' (nrmA x) (nrm y) h Q
   |_,_=>False
  | .builtin .delete=>match c.argTypes.toList,c.args.toList.map ev with
   |t::_,x::y::_=>ZF tt t x y h fun h'=>Q (.tup []) h'
   |_,_=>False
  | .builtin .len=>match c.argTypes.toList,c.args.toList.map ev with
   |t::_,.mp i::_=>match ate tt t (.mp i) h with
    |some v=>Q v h
    |none=>False
   |_,_=>vN tt (.call c) ev h (fun v=>Q v h)
  | .builtin .copy=>match c.argTypes.toList,c.args.toList.map ev with
   |t::_,x::y::_=>ath tt t (nrm x) (nrm y) h Q
   |_,_=>False
  | .builtin .clear=>match c.argTypes.toList,c.args.toList.map ev with
   |t::_,x::_=>ajP tt t (nrm x) h Q
   |_,_=>False
  | .builtin b=>bif isN (.call c)then vN tt (.call c) ev h (fun v=>Q v h)else(match opX false tt (.call c) ev h with
   |some (v,h')=>Q v h'
   |none=>False)
  |_=>False
 |op=>bif isN op then vN tt op ev h (fun v=>Q v h)else(match opX false tt op ev h with
  |some (v,h')=>Q v h'
  |none=>False)
def XR(P:Program)(s:Sem Next)(h:Heap)(ρ:Ren)(T:Nat->Prop)(w:World)(Q:AV->Heap->Prop):Prop:=
 ∃v h' u w' ρ',U6 P s w u w'/\(∀i,i<h.next->ρ' i=ρ i)/\ρ.le ρ'/\h.next<=h'.next/\Rel h' ρ' T w'/\bV ρ' v u/\Keeps T w w'/\Q v h'
theorem vX_ok{P:Program}{tt:TT}(hT:tt.ok P){h:Heap}{ρ:Ren}{T:Nat->Prop}{w:World}(hR:Rel h ρ T w){o:Oper}{ev:Operand->AV}{e:Operand->Value}(he: ∀x,bV ρ (ev x) (e x))(hcst: ∀v,ev (.const v)= .lit v){Q:AV->Heap->Prop}(hq:vX tt o.op ev h Q):
  XR P (execOp e o) h ρ T w Q:=by
 have wrap: ∀{s:Sem Value},XQ P s h ρ T w Q->XR P (do pure (Next.value (<-s)):Sem Next) h ρ T w Q:=fun⟨v,h',⟨u,w',ρ',h1,h2,h3,h4,h5,h6,h7⟩,hq⟩=>⟨v,h',u,w',ρ',.inl (qh h1),h2,h3,h4,h5,h6,h7,hq⟩
 have nn:vN tt o.op ev h (fun v=>Q v h)->XR P (execOp e o) h ρ T w Q:=fun hq=>by
  obtain⟨v,u,h1,h2,h3⟩:=awi (P:=P) hT he hq
  exact⟨v,h,u,w,ρ,.inl (h1 w),fun _ _=>rfl,Ren.le_refl _,aX _,hR,h2,Keeps.refl _ _,h3⟩
 have xx:(match opX false tt o.op ev h with|some (v,h')=>Q v h'|none=>False)->XR P (execOp e o) h ρ T w Q:=fun hq=>by
  split at hq
  ·rename_i v h' hv
   obtain⟨u,w',ρ',h1,h2,h3,h4,h5,h6,h7⟩:=ar0 (P:=P) hT hR he hv
   exact⟨v,h',u,w',ρ',h1,h2,h3,h4,h5,h6,h7,hq⟩
  ·exact hq.elim
 have both: ∀b:Bool,(bif b then vN tt o.op ev h (fun v=>Q v h)else(match opX false tt o.op ev h with|some (v,h')=>Q v h'|none=>False))->XR P (execOp e o) h ρ T w Q:=fun b hq=>by
  cases b with
  |true=>exact nn hq
  |false=>exact xx hq
 obtain⟨dst,op,ty,pos,after,guard⟩:=o
 cases op<;>simp only[vX]at hq<;>try exact both _ hq
 case load t x=>
  obtain⟨v,⟨u,h1,h2⟩,h3⟩:=ac7 (P:=P) hT hR hq (he x)
  exact⟨v,h,u,w,ρ,.inl (by simp only[execOp];exact qh h1),fun _ _=>rfl,Ren.le_refl _,aX _,hR,h2,Keeps.refl _ _,h3⟩
 case store t a x=>
  obtain⟨w',h',h1,h2,h3,h4,h5⟩:=agU (P:=P) hT hR hq (he a) (he x)
  exact⟨_,h',undef,w',ρ,.inr ⟨by simp[execOp,h1],rfl⟩,fun _ _=>rfl,Ren.le_refl _,by omega,h2,by simp only[bV],h4,h5⟩
 case alloc e=>exact wrap (ajS hT hR hq)
 case box e x=>exact wrap (atm hR hq (he x))
 case convert s d x=>
  cases ht:isText tt s d with
  |false=>rw[ht]at hq;exact nn hq
  |true=>
   rw[ht]at hq;simp only[aO]at hq
   obtain⟨v,⟨u,h1,h2⟩,h3⟩:=apA (P:=P) hT hR hq (he x)
   exact⟨v,h,u,w,ρ,.inl (by simp only[execOp];exact qh h1),fun _ _=>rfl,Ren.le_refl _,aX _,hR,h2,Keeps.refl _ _,h3⟩
 case buildSlice t n ps=>
  unfold ajV at hq
  split at hq
  ·rename_i v h' hv
   obtain⟨u,w',ρ',h1,h2,h3,h4,h5,h6,h7⟩:=ar0 (P:=P) (b:=false) hT hR (o:=⟨dst,.buildSlice t n ps,ty,pos,after,guard⟩) he (v:=v) (h':=h') (by simp only[opX];exact hv)
   split at hq
   ·rename_i v2 h2' hr
    obtain⟨g1,g2,g3⟩:=apz hr h5 h6
    exact⟨v2,h2',u,w',ρ',h1,h2,h3,by omega,g1,g2,h7,hq⟩
   ·exact⟨v,h',u,w',ρ',h1,h2,h3,h4,h5,h6,h7,hq⟩
  ·exact hq.elim
 case makeMap t r=>exact wrap (ZC (o:=r.map e) hR (by rw[Option.isSome_map];exact hq))
 case insert t m k x=>
  obtain⟨w',h',h1,h2,h3,h4,h5⟩:=MX (P:=P) hT hR hq (he m) (he k) (he x)
  exact⟨_,h',undef,w',ρ,.inr ⟨by simp[execOp,h1],rfl⟩,fun _ _=>rfl,Ren.le_refl _,by omega,h2,by simp only[bV],h4,h5⟩
 case mapUpdate t m k x=>
  obtain⟨w',h',h1,h2,h3,h4,h5⟩:=MX (P:=P) hT hR hq (he m) (he k) (he x)
  exact⟨_,h',undef,w',ρ,.inr ⟨by simp[execOp,h1],rfl⟩,fun _ _=>rfl,Ren.le_refl _,by omega,h2,by simp only[bV],h4,h5⟩
 case lookup t m k ok=>
  obtain⟨v,⟨u,h1,h2⟩,h3⟩:=agN (P:=P) hT hR hq (he m) (he k)
  exact⟨v,h,u,w,ρ,.inl (by simp only[execOp];exact qh h1),fun _ _=>rfl,Ren.le_refl _,aX _,hR,h2,Keeps.refl _ _,h3⟩
 case makeSlice t l c=>
  exact wrap (apx hT hR hq (he l) (he c) fun hz=>by cases hz)
 case range t x=>
  split at hq
  ·rename_i v h' hr
   exact wrap ⟨v,h',ajK (P:=P) hT hR hr (he x),hq⟩
  ·exact hq.elim
 case next it st=>
  cases st with
  |true=>exact hq.elim
  |false=>
   simp only[aP]at hq
   cases hs:apv (ev it) h with
   |true=>rw[hs]at hq;exact wrap (ajN hR hq (he it))
   |false=>
    rw[hs]at hq;simp only[aP]at hq
    split at hq
    ·rename_i v h' hr
     exact wrap ⟨v,h',apu hR hr (he it),hq⟩
    ·exact hq.elim
 case entry it=>
  cases hs:apv (ev it) h with
  |true=>rw[hs]at hq;exact wrap (agP hR hq (he it))
  |false=>
   rw[hs]at hq;simp only[aP]at hq
   split at hq
   ·rename_i v h' hr
    exact wrap ⟨v,h',ajL hR hr (he it),hq⟩
   ·exact hq.elim
 case call c=>
  split at hq
  ·rename_i hb
   have hl:eP ρ (c.args.toList.map ev) (c.args.map e).toList:=by simpa using oM he c.args.toList
   split at hq
   ·rename_i t t' r x y r' ht hx
    rw[hx]at hl
    obtain⟨u0,hu0,hr0⟩:=hl.get 0 x rfl
    obtain⟨u1,hu1,hr1⟩:=hl.get 1 y rfl
    obtain⟨v,h',⟨u,w',ρ',h1,h2,h3,h4,h5,h6,h7⟩,hq⟩:=ati (P:=P) (ty:=ty) (ts:=c.argTypes) (us:=c.args.map e) hT hR hq (apq hr0) (yL hr1) (by rw[<-Array.getElem?_toList,ht];rfl) (by rw[<-Array.getElem?_toList,ht];rfl) (by simpa using hu0) (by simpa using hu1)
    refine⟨v,h',u,w',ρ',.inl ?_,h2,h3,h4,h5,h6,h7,hq⟩
    obtain⟨cs,hcs⟩:=iH (e:=e) hb ty P w
    simp only[execOp,Sem.run_bind,hcs,Result.andThen_ok,invoke]
    show(builtin .append c.argTypes ty cs (c.args.map e)).run P w=_
    have:(builtin .append c.argTypes ty cs (c.args.map e)).run P w=(do pure (Next.value (<-Builtin.append_ c.argTypes ty (c.args.map e))):Sem Next).run P w:=rfl
    rw[this]
    simp[h1]
   ·exact hq.elim
  ·rename_i hb
   have hl:eP ρ (c.args.toList.map ev) (c.args.map e).toList:=by simpa using oM he c.args.toList
   split at hq
   ·rename_i t r x y r' ht hx
    rw[hx]at hl
    obtain⟨u0,hu0,hr0⟩:=hl.get 0 x rfl
    obtain⟨u1,hu1,hr1⟩:=hl.get 1 y rfl
    obtain⟨w',h',h1,h2,h3,h4,h5⟩:=agO (P:=P) (ty:=ty) (ts:=c.argTypes) (us:=c.args.map e) hT hR hq hr0 hr1 (by rw[<-Array.getElem?_toList,ht];rfl) (by simpa using hu0) (by simpa using hu1)
    refine⟨_,h',.tuple #[],w',ρ,.inl ?_,fun _ _=>rfl,Ren.le_refl _,by omega,h2,by simp only[bV];exact⟨_,rfl,.nil⟩,h4,h5⟩
    obtain⟨cs,hcs⟩:=iH (e:=e) hb ty P w
    simp only[execOp,Sem.run_bind,hcs,Result.andThen_ok,invoke]
    show(builtin .delete c.argTypes ty cs (c.args.map e)).run P w=_
    have:(builtin .delete c.argTypes ty cs (c.args.map e)).run P w=(do pure (Next.value (<-Builtin.delete_ c.argTypes ty (c.args.map e))):Sem Next).run P w:=rfl
    rw[this]
    simp[h1]
   ·exact hq.elim
  ·rename_i hb
   have hl:eP ρ (c.args.toList.map ev) (c.args.map e).toList:=by simpa using oM he c.args.toList
   split at hq
   ·rename_i t r i r' ht hx
    split at hq
    ·rename_i v hv
     rw[hx]at hl
     obtain⟨u0,hu0,hr0⟩:=hl.get 0 _ rfl
     obtain⟨u,h1,h2⟩:=apt (P:=P) (ty:=ty) (ts:=c.argTypes) (us:=c.args.map e) hT hR hv hr0 (by rw[<-Array.getElem?_toList,ht];rfl) (by simpa using hu0)
     refine⟨v,h,u,w,ρ,.inl ?_,fun _ _=>rfl,Ren.le_refl _,aX _,hR,h2,Keeps.refl _ _,hq⟩
     obtain⟨cs,hcs⟩:=iH (e:=e) hb ty P w
     simp only[execOp,Sem.run_bind,hcs,Result.andThen_ok,invoke]
     show(builtin .len c.argTypes ty cs (c.args.map e)).run P w=_
     have:(builtin .len c.argTypes ty cs (c.args.map e)).run P w=(do pure (Next.value (<-Builtin.len_ c.argTypes ty (c.args.map e))):Sem Next).run P w:=rfl
     rw[this]
     simp[h1]
    ·exact hq.elim
   ·exact nn hq
  ·rename_i hb
   have hl:eP ρ (c.args.toList.map ev) (c.args.map e).toList:=by simpa using oM he c.args.toList
   split at hq
   ·rename_i t r x y r' ht hx
    rw[hx]at hl
    obtain⟨u0,hu0,hr0⟩:=hl.get 0 x rfl
    obtain⟨u1,hu1,hr1⟩:=hl.get 1 y rfl
    obtain⟨v,h',⟨u,w',ρ',h1,h2,h3,h4,h5,h6,h7⟩,hq⟩:=apw (P:=P) (ty:=ty) (ts:=c.argTypes) (us:=c.args.map e) hT hR hq (yL hr0) (yL hr1) (by rw[<-Array.getElem?_toList,ht];rfl) (by simpa using hu0) (by simpa using hu1)
    refine⟨v,h',u,w',ρ',.inl ?_,h2,h3,h4,h5,h6,h7,hq⟩
    obtain⟨cs,hcs⟩:=iH (e:=e) hb ty P w
    simp only[execOp,Sem.run_bind,hcs,Result.andThen_ok,invoke]
    show(builtin .copy c.argTypes ty cs (c.args.map e)).run P w=_
    have:(builtin .copy c.argTypes ty cs (c.args.map e)).run P w=(do pure (Next.value (<-Builtin.copy_ c.argTypes ty (c.args.map e))):Sem Next).run P w:=rfl
    rw[this]
    simp[h1]
   ·exact hq.elim
  ·rename_i hb
   have hl:eP ρ (c.args.toList.map ev) (c.args.map e).toList:=by simpa using oM he c.args.toList
   split at hq
   ·rename_i t r x r' ht hx
    rw[hx]at hl
    obtain⟨u0,hu0,hr0⟩:=hl.get 0 x rfl
    obtain⟨v,h',⟨u,w',ρ',h1,h2,h3,h4,h5,h6,h7⟩,hq⟩:=ajQ (P:=P) (ty:=ty) (ts:=c.argTypes) (us:=c.args.map e) hT hR hq (yL hr0) (by rw[<-Array.getElem?_toList,ht];rfl) (by simpa using hu0)
    refine⟨v,h',u,w',ρ',.inl ?_,h2,h3,h4,h5,h6,h7,hq⟩
    obtain⟨cs,hcs⟩:=iH (e:=e) hb ty P w
    simp only[execOp,Sem.run_bind,hcs,Result.andThen_ok,invoke]
    show(builtin .clear c.argTypes ty cs (c.args.map e)).run P w=_
    have:(builtin .clear c.argTypes ty cs (c.args.map e)).run P w=(do pure (Next.value (<-Builtin.clear_ c.argTypes ty (c.args.map e))):Sem Next).run P w:=rfl
    rw[this]
    simp[h1]
   ·exact hq.elim
  ·exact both _ hq
  ·exact hq.elim
theorem uX{k:IntKind}{z:Int}{Q:AV->Prop}(h:arith k z Q): ∃v,Q v/\arith k z (fun r=>r=v):=by
 cases k<;>first|exact⟨_,h,rfl⟩|exact⟨_,h.2,h.1,rfl⟩
theorem apB{op:BinOp}{k k':IntKind}{a b:Int}{Q:AV->Prop}(h:avI op k a k' b Q): ∃v,Q v/\avI op k a k' b (fun r=>r=v):=by
 by_cases hk:k=k'
 ·subst hk
  cases op<;>simp only[avI]at h ⊢
  case shl=>exact⟨_,h.2,h.1,rfl⟩
  case shr=>exact⟨_,h.2,h.1,rfl⟩
  case add=>simp only[if_true]at h ⊢;exact uX h
  case sub=>simp only[if_true]at h ⊢;exact uX h
  case mul=>simp only[if_true]at h ⊢;exact uX h
  case quo=>simp only[if_true]at h ⊢;obtain⟨v,h1,h2⟩:=uX h.2;exact⟨v,h1,h.1,h2⟩
  case rem=>simp only[if_true]at h ⊢;exact⟨_,h.2,h.1,rfl⟩
  all_goals
   simp only[if_true,aiV]at h ⊢
  all_goals exact⟨_,h,rfl⟩
 ·cases op<;>simp only[avI]at h ⊢
  case shl=>exact⟨_,h.2,h.1,rfl⟩
  case shr=>exact⟨_,h.2,h.1,rfl⟩
  all_goals
   simp only[if_neg hk]at h
theorem apC{op:BinOp}{a b:ByteArray}{Q:AV->Prop}(h:awh op a b Q): ∃v,Q v/\awh op a b (fun r=>r=v):=by
 cases op<;>simp only[awh]at h ⊢
 case add=>exact⟨_,h.2,h.1,rfl⟩
 all_goals
  simp only[ao7]at h ⊢
 all_goals exact⟨_,h,rfl⟩
theorem apD{tt:TT}{op:BinOp}{t:TypeId}{x y:AV}{Q:AV->Prop}(h:avJ tt op t x y Q): ∃v,Q v/\avJ tt op t x y (fun r=>r=v):=by
 unfold avJ at h ⊢
 split at h
 ·exact apB h
 ·split at h
  ·exact apC h
  ·split at h
   ·exact⟨_,h,rfl⟩
   ·exact h.elim
theorem ajW{tt:TT}{s d:TypeId}{x:AV}{Q:AV->Prop}(h:agH tt s d x Q): ∃v,Q v/\agH tt s d x (fun r=>r=v):=by
 unfold agH at h ⊢
 split at h
 ·split at h
  ·exact uX h
  ·exact⟨_,h,rfl⟩
  ·exact h.elim
 ·exact h.elim
theorem ZN{x:Option AV}{d:Nat}{α:Type}{F:(α->Prop)->Nat->Prop}{Q:α->Prop}(hF: ∀k,F Q k-> ∃v,Q v/\F (fun r=>r=v) k)(h:vB x d (F Q)): ∃v,Q v/\vB x d (F (fun r=>r=v)):=by
 unfold vB at h ⊢
 split at h
 ·exact hF _ h
 ·obtain⟨v,h1,h2⟩:=hF _ h.2
  exact⟨v,h1,h.1,h2⟩
 ·exact h.elim
theorem jv{n c:Nat}{lo hi mx:Option AV}{f:Nat->Nat->Nat->AV}{Q:AV->Prop}(h:Fp n c lo hi mx fun l h m=>Q (f l h m)): ∃v,Q v/\Fp n c lo hi mx fun l h m=>f l h m=v:=by
 unfold Fp at h ⊢
 split at h
 ·exact h.elim
 ·exact ZN (x:=mx) (d:=c) (Q:=Q) (F:=fun Q m=>vB hi n fun h=>vB lo 0 fun l=>(l<=h/\h<=m/\m<=c)/\Q (f l h m)) (fun m h=>ZN (F:=fun Q h=>vB lo 0 fun l=>(l<=h/\h<=m/\m<=c)/\Q (f l h m)) (fun h hh=>
   ZN (F:=fun Q l=>(l<=h/\h<=m/\m<=c)/\Q (f l h m)) (fun l hl=>⟨_,hl.2,hl.1,rfl⟩) hh) h) h
theorem ato{b:Bool}{x y:AV}{Q:AV->Prop}(h:bif b then Q x else Q y): ∃v,Q v/\bif b then x=v else y=v:=by
 cases b with
 |true=>exact⟨_,h,rfl⟩
 |false=>exact⟨_,h,rfl⟩
theorem adg{α:Type}{b:Bool}{F G:(α->Prop)->Prop}{Q:α->Prop}(hF:F Q-> ∃v,Q v/\F (fun r=>r=v))(hG:G Q-> ∃v,Q v/\G (fun r=>r=v))(h:bif b then F Q else G Q): ∃v,Q v/\bif b then F (fun r=>r=v)else G (fun r=>r=v):=by
 cases b with
 |true=>exact hF h
 |false=>exact hG h
theorem agV{tt:TT}{t:TypeId}{x:AV}{lo hi mx:Option AV}{hp:Heap}{Q:AV->Prop}(h:MS tt t x lo hi mx hp Q): ∃v,Q v/\MS tt t x lo hi mx hp (fun r=>r=v):=by
 unfold MS at h ⊢
 split at h
 ·split at h
  ·split at h
   ·exact jv (f:=fun l h _=> .lit (.string (ByteArray.extract _ l h))) h
   ·exact h.elim
  ·split at h
   ·exact adg (F:=fun Q=>apo _ _ _ _ _ _ _ _ Q) (G:=fun _=>False) (fun h=>jv h) (fun h=>h.elim) h
   ·exact h.elim
  ·rename_i i q m n _
   split at h
   ·rename_i te hte
    cases hb:Nat.beq m te.size with
    |false=>rw[hb]at h;exact h.elim
    |true=>
     rw[hb]at h
     simp only[aO]at h ⊢
     split at h
     ·exact jv (f:=fun l h _=> .slW i (q+l) m (h-l)) h
     ·exact jv h
   ·exact h.elim
  ·rename_i i q m n _
   split at h
   ·rename_i te hte
    cases hb:Nat.beq m te.size with
    |false=>rw[hb]at h;exact h.elim
    |true=>
     rw[hb]at h
     simp only[aO]at h ⊢
     exact jv (f:=fun l h _=> .slR i (q+l) m (h-l)) h
   ·exact h.elim
  ·rename_i i o n c _
   split at h
   ·rename_i te hte
    cases hb:(Nat.beq o 0&&Nat.beq (KI hp i) te.size)with
    |true=>rw[hb]at h;exact jv h
    |false=>
     rw[hb]at h
     simp only[aP]at h ⊢
     split at h
     ·exact⟨_,h,rfl⟩
     ·exact h.elim
   ·exact h.elim
  ·rename_i i o n sz _
   split at h
   ·rename_i te hte
    cases hb:(Nat.beq o 0&&Nat.beq (KI hp i) te.size&&Nat.beq sz te.size)with
    |true=>
     rw[hb]at h
     simp only[aO]at h ⊢
     split at h
     ·exact jv (f:=fun l h _=> .slW i l te.size (h-l)) h
     ·exact jv h
    |false=>
     rw[hb]at h
     simp only[aP]at h ⊢
     split at h
     ·exact⟨_,h,rfl⟩
     ·exact h.elim
   ·exact h.elim
  ·split at h
   ·exact jv (f:=fun l h m=> .lit (.slice none (h-l) (m-l))) h
   ·exact h.elim
  ·rename_i a n c _
   split at h
   ·rename_i te hte
    exact jv (f:=fun l h m=> .lit (.slice (some (if m=l then a else a.add (l*te.size))) (h-l) (m-l))) h
   ·exact h.elim
  ·rename_i n _ i o _
   split at h
   ·rename_i te hte
    cases hb:(Nat.beq o 0&&Nat.beq (KI hp i) te.size)with
    |true=>rw[hb]at h;exact jv h
    |false=>
     rw[hb]at h
     simp only[aP]at h ⊢
     split at h
     ·exact⟨_,h,rfl⟩
     ·exact h.elim
   ·exact h.elim
  ·split at h
   ·exact adg (F:=fun Q=>apo _ _ _ _ _ _ _ _ Q) (G:=fun _=>False) (fun h=>jv h) (fun h=>h.elim) h
   ·exact h.elim
  ·split at h
   ·exact⟨_,h,rfl⟩
   ·exact h.elim
 ·exact h.elim
theorem agW{tt:TT}{s:TypeId}{x:AV}{f:Nat}{Q:AV->Prop}(h:MQ tt s x f Q): ∃v,Q v/\MQ tt s x f (fun r=>r=v):=by
 unfold MQ at h ⊢
 split at h
 ·split at h
  ·exact⟨_,h,rfl⟩
  ·exact h.elim
 ·split at h
  ·exact⟨_,h,rfl⟩
  ·exact h.elim
theorem KJ{tt:TT}{t:TypeId}{x ix:AV}{hp:Heap}{Q:AV->Prop}(h:oC tt t x ix hp Q): ∃v,Q v/\oC tt t x ix hp (fun r=>r=v):=by
 have two: ∀{p:Prop} {b:Bool} {x y:AV},(p/\bif b then Q x else Q y)-> ∃v,Q v/\p/\bif b then x=v else y=v:=fun h=>by
  obtain⟨v,h1,h2⟩:=ato h.2
  exact⟨v,h1,h.1,h2⟩
 unfold oC at h ⊢
 split at h
 ·split at h
  ·split at h
   ·exact two h
   ·exact h.elim
  ·split at h
   ·exact⟨_,h.2,h.1,rfl⟩
   ·exact h.elim
  ·split at h
   ·exact two h
   ·exact h.elim
  ·split at h
   ·exact two h
   ·exact h.elim
  ·rename_i e i q m n c hd
   split at h
   ·rename_i te hte
    cases hb:Nat.beq m te.size with
    |true=>rw[hb]at h;exact⟨_,h.2,h.1,rfl⟩
    |false=>rw[hb]at h;exact h.elim
   ·exact h.elim
  ·rename_i e i q m n hd
   split at h
   ·rename_i te hte
    cases hb:Nat.beq m te.size with
    |true=>rw[hb]at h;exact⟨_,h.2,h.1,rfl⟩
    |false=>rw[hb]at h;exact h.elim
   ·exact h.elim
  ·rename_i e i q m n hd
   split at h
   ·rename_i te hte
    cases hb:Nat.beq m te.size with
    |true=>rw[hb]at h;exact⟨_,h.2,h.1,rfl⟩
    |false=>rw[hb]at h;exact h.elim
   ·exact h.elim
  ·exact h.elim
 ·exact h.elim
theorem CQ{d:TD}{l:List Value}{Q:AV->Prop}(h:zV d l Q): ∃v,Q v/\zV d l (fun r=>r=v):=by
 unfold zV at h ⊢
 split at h
 ·obtain⟨b,h1,h2⟩:=h;exact⟨_,h2,b,h1,rfl⟩
 ·obtain⟨b,h1,h2⟩:=h;exact⟨_,h2,b,h1,rfl⟩
 ·split at h
  ·exact⟨_,h,rfl⟩
  ·exact h.elim
theorem ZO{tt:TT}{t:TypeId}{x:AV}{f:Nat}{Q:AV->Prop}(h:CJ tt t x f Q): ∃v,Q v/\CJ tt t x f (fun r=>r=v):=by
 unfold CJ at h ⊢
 split at h
 ·split at h
  ·split at h
   ·split at h
    ·rename_i off ft b2 hf
     split at h
     ·rename_i tf htf
      cases hb:Nat.ble (off+tf.size) _ with
      |false=>rw[hb]at h;exact h.elim
      |true=>
       rw[hb]at h;simp only[aO]at h ⊢
       cases hagg:tf.agg with
       |true=>rw[hagg]at h;exact⟨_,h,rfl⟩
       |false=>
        rw[hagg]at h;simp only[aP]at h ⊢
        cases hs:Nat.beq tf.size 1 with
        |false=>rw[hs]at h;exact h.elim
        |true=>rw[hs]at h;exact CQ h
     ·exact h.elim
    ·exact h.elim
   ·exact h.elim
  ·exact h.elim
 ·split at h
  ·exact⟨_,h,rfl⟩
  ·exact h.elim
theorem agX{tt:TT}{t:TypeId}{x ix:AV}{Q:AV->Prop}(h:MR tt t x ix Q): ∃v,Q v/\MR tt t x ix (fun r=>r=v):=by
 unfold MR at h ⊢
 split at h
 ·split at h
  ·exact⟨_,h.2,h.1,rfl⟩
  ·split at h
   ·rename_i te hte
    cases hb:(!te.agg&&Nat.beq te.size 1)with
    |false=>rw[hb]at h;exact h.elim
    |true=>
     rw[hb]at h
     simp only[aO]at h ⊢
     obtain⟨hk,hk',h⟩:=h
     obtain⟨v,h1,h2⟩:=CQ h
     exact⟨v,h1,hk,hk',h2⟩
   ·exact h.elim
  ·split at h
   ·obtain⟨hk,h⟩:=h
    split at h
    ·exact⟨_,h,hk,rfl⟩
    ·exact h.elim
   ·exact h.elim
  ·exact h.elim
 ·exact h.elim
theorem ar9{tt:TT}{op:Op}{ev:Operand->AV}{h:Heap}{Q:AV->Prop}(hq:vN tt op ev h Q): ∃v,Q v/\vN tt op ev h (fun r=>r=v):=by
 cases op
 case pick c a b=>
  simp only[vN]at hq ⊢
  split at hq
  ·rename_i t ht
   rcases kR hq with ⟨rfl,hq⟩|⟨rfl,hq⟩
   ·exact⟨_,hq,rfl⟩
   ·exact⟨_,hq,rfl⟩
  ·exact hq.elim
 case binOp=>exact apD hq
 case convert=>exact ajW hq
 case slice=>exact agV hq
 case fieldAddr=>exact agW hq
 case indexAddr=>exact KJ hq
 case index=>exact agX hq
 case field=>exact ZO hq
 all_goals
  simp only[vN]at hq ⊢
  split at hq
  ·exact⟨_,hq,rfl⟩
  ·exact hq.elim
theorem Hz{α:Type}{g:Nat->List Value}{k:Nat}{F:(α->Prop)->List Value->Prop}{Q:α->Prop}(hF: ∀l,F Q l-> ∃v,Q v/\F (fun r=>r=v) l): ∀{wr:List (Nat×List Value)},Hg g wr k (F Q)-> ∃v,Q v/\Hg g wr k (F (fun r=>r=v))
 |[],h=>hF _ h
 |(q,c)::r,h=>by
  simp only[Hg]at h ⊢
  cases hb:Nat.beq k q with
  |true=>rw[hb]at h;exact hF _ h
  |false=>rw[hb]at h;exact Hz hF (wr:=r) h
theorem Vm{ti:TI}{m n k j:Nat}{g:Nat->List Value}{wr:List (Nat×List Value)}{Q:AV->Prop}(hq:xG ti m n g wr k j Q): ∃v,Q v/\xG ti m n g wr k j (fun r=>r=v):=by
 unfold xG at hq ⊢
 cases hs:Nat.ble (j+ti.size) m with
 |false=>rw[hs]at hq;exact hq.elim
 |true=>
  rw[hs]at hq
  simp only[aO]at hq ⊢
  obtain⟨hk,hq⟩:=hq
  have:=Hz (F:=fun Q l=>bif ti.agg then(bif Nat.ble (j+ti.size) l.length then Q (AV.agg (((l.drop j).take ti.size).map .lit))else False)else(match l[j]? with
   |some v=>bif Nat.beq ti.size 1 then Q (.lit v)else False
   |none=>False)) (Q:=Q) (fun l hl=>by
    cases hagg:ti.agg with
    |true=>
     rw[hagg]at hl
     simp only[aO]at hl ⊢
     cases hle:Nat.ble (j+ti.size) l.length with
     |true=>rw[hle]at hl;exact⟨_,hl,rfl⟩
     |false=>rw[hle]at hl;exact hl.elim
    |false=>
     rw[hagg]at hl
     simp only[aP]at hl ⊢
     cases hv:l[j]? with
     |none=>rw[hv]at hl;exact hl.elim
     |some v=>
      rw[hv]at hl
      simp only at hl ⊢
      cases h1:Nat.beq ti.size 1 with
      |true=>rw[h1]at hl;exact⟨_,hl,rfl⟩
      |false=>rw[h1]at hl;exact hl.elim) hq
  obtain⟨v,h1,h2⟩:=this
  exact⟨v,h1,hk,h2⟩
theorem Vo{tt:TT}{t:TypeId}{a:AV}{h:Heap}{Q:AV->Prop}(hq:Zw tt t a h Q): ∃v,Q v/\Zw tt t a h (fun r=>r=v):=by
 unfold Zw at hq ⊢
 split at hq
 ·rename_i i k m j
  split at hq
  ·rename_i ti ob hti hi
   split at hq
   ·rename_i c hc
    split at hq
    ·rename_i o m' n g wr hr
     cases hb:Nat.beq m m'&&Nat.ble o j with
     |false=>
      rw[hb]at hq
      simp only[aP]at hq ⊢
      cases hb2:Nat.beq m' 1&&Nat.beq o 0 with
      |false=>rw[hb2]at hq;exact hq.elim
      |true=>
       rw[hb2]at hq
       simp only[aO]at hq ⊢
       unfold zW at hq ⊢
       cases hb3:ti.agg&&Nat.blt 8 ti.size with
       |true=>rw[hb3]at hq;exact⟨_,hq.2,hq.1,rfl⟩
       |false=>
        rw[hb3]at hq
        simp only[aP]at hq ⊢
        cases hb4:(!ti.agg&&Nat.beq ti.size 1)with
        |false=>rw[hb4]at hq;exact hq.elim
        |true=>
         rw[hb4]at hq
         obtain⟨hp,hq⟩:=hq
         obtain⟨v,h1,h2⟩:=Hz (F:=fun Q l=>zV ti.desc l Q) (fun l hl=>CQ hl) hq
         exact⟨v,h1,hp,h2⟩
     |true=>
      rw[hb]at hq
      exact Vm hq
    ·exact hq.elim
   ·exact hq.elim
  ·exact hq.elim
 ·split at hq
  ·exact⟨_,hq,rfl⟩
  ·split at hq
   ·exact⟨_,hq,rfl⟩
   ·exact hq.elim
 ·split at hq
  ·exact⟨_,hq,rfl⟩
  ·exact hq.elim
theorem map_congr{ev ev':Operand->AV}: ∀{l:List Operand},(∀x∈l,ev x=ev' x)->l.map ev=l.map ev':=fun h=>List.map_congr_left h
theorem oD{ev ev':Operand->AV}{o:Option Operand}(h: ∀x∈o,ev x=ev' x):aoZ ev o=aoZ ev' o:=by
 cases o with
 |none=>rfl
 |some x=>simp only[aoZ];rw[h x rfl]
theorem ajX{tt:TT}{op:Op}{ev ev':Operand->AV}(h: ∀x∈op.operands,ev x=ev' x):opN tt op ev=opN tt op ev':=by
 cases op<;>simp only[opN]<;>simp[Op.operands]at h
 case move x=>rw[h]
 case assign x=>rw[h]
 case pick c a b=>rw[h.1,h.2.1,h.2.2]
 case nilCheck x=>rw[h]
 case binOp o t x y yt=>rw[h.1,h.2]
 case unOp o t x=>rw[h]
 case convert s d x=>rw[h]
 case makeFunc f a b=>rw[map_congr fun x hx=>h x (.inl (by simpa using hx)),map_congr fun x hx=>h x (.inr (by simpa using hx))]
 case slice t x lo hi mx=>
  rw[h.1,oD fun y hy=>h.2 y (.inl hy),oD (o:=hi) fun y hy=>h.2 y (.inr (.inl hy)),oD (o:=mx) fun y hy=>h.2 y (.inr (.inr hy))]
 case fieldAddr s x f=>rw[h]
 case field s x f=>rw[h]
 case indexAddr t x i=>rw[h.1,h.2]
 case index t x i=>rw[h.1,h.2]
 case extract x i=>rw[h]
 case build t ps=>
  have:(ps.toList.map fun p=>(p.1,ev p.2))=ps.toList.map fun p=>(p.1,ev' p.2):=List.map_congr_left fun p hp=>by rw[h p.2 p.1 (by simpa using hp)]
  rw[this]
 case call c=>
  have:c.args.toList.map ev=c.args.toList.map ev':=map_congr fun x hx=>h x (by simp[Call.operands];exact .inr (by simpa using hx))
  rw[this]
theorem adh{tt:TT}{op:Op}{ev ev':Operand->AV}{hp:Heap}{Q:AV->Prop}(h: ∀x∈op.operands,ev x=ev' x):vN tt op ev hp Q=vN tt op ev' hp Q:=by
 have:=ajX (tt:=tt) h
 cases op<;>simp only[vN]<;>simp[Op.operands]at h<;>try rw[this]
 case pick c a b=>rw[h.1,h.2.1,h.2.2]
 case binOp o t x y yt=>rw[h.1,h.2]
 case convert s d x=>rw[h]
 case slice t x lo hi mx=>
  rw[h.1,oD fun y hy=>h.2 y (.inl hy),oD (o:=hi) fun y hy=>h.2 y (.inr (.inl hy)),oD (o:=mx) fun y hy=>h.2 y (.inr (.inr hy))]
 case fieldAddr s x f=>rw[h]
 case indexAddr t x i=>rw[h.1,h.2]
 case index t x i=>rw[h.1,h.2]
 case field t x f=>rw[h]
theorem ajY{tt:TT}{op:Op}{ev ev':Operand->AV}{hp:Heap}(h: ∀x∈op.operands,ev x=ev' x):opX false tt op ev hp=opX false tt op ev' hp:=by
 cases op<;>simp only[opX]<;>simp[Op.operands]at h
 case box e x=>rw[h]
 case store t a x=>rw[h.1,h.2]
 case makeSlice t l c=>rw[h.1,h.2]
 case buildSlice t n ps=>
  have:(ps.toList.map fun p=>(p.1,ev p.2))=ps.toList.map fun p=>(p.1,ev' p.2):=List.map_congr_left fun p hp=>by rw[h p.2 p.1 (by simpa using hp)]
  rw[this]
 case call c=>
  have:c.args.toList.map ev=c.args.toList.map ev':=map_congr fun x hx=>h x (by simp[Call.operands];exact .inr (by simpa using hx))
  rw[this]
theorem apE{tt:TT}{op:Op}{ev ev':Operand->AV}{hp:Heap}{Q:AV->Heap->Prop}(h: ∀x∈op.operands,ev x=ev' x):vX tt op ev hp Q=vX tt op ev' hp Q:=by
 have e1:=fun(Q:AV->Prop)=>adh (tt:=tt) (hp:=hp) (Q:=Q) h
 have e2:=ajY (tt:=tt) (hp:=hp) h
 cases op<;>simp only[vX]<;>try rw[e1,e2]
 case load t x=>simp[Op.operands]at h;rw[h]
 case store t a x=>simp[Op.operands]at h;rw[h.1,h.2]
 case box e x=>simp[Op.operands]at h;rw[h]
 case convert s d x=>rw[e1];simp[Op.operands]at h;rw[h]
 case buildSlice t n ps=>
  have:(ps.toList.map fun p=>(p.1,ev p.2))=ps.toList.map fun p=>(p.1,ev' p.2):=List.map_congr_left fun p hp=>by rw[h p.2 (by simp[Op.operands];exact⟨p.1,by simpa using hp⟩)]
  rw[this]
 case makeSlice t l c=>simp[Op.operands]at h;rw[h.1,h.2]
 case insert t m k x=>simp[Op.operands]at h;rw[h.1,h.2.1,h.2.2]
 case mapUpdate t m k x=>simp[Op.operands]at h;rw[h.1,h.2.1,h.2.2]
 case lookup t m k ok=>simp[Op.operands]at h;rw[h.1,h.2]
 case range t x=>simp[Op.operands]at h;rw[h]
 case next it st=>simp[Op.operands]at h;rw[h]
 case entry it=>simp[Op.operands]at h;rw[h]
 case call c=>
  have:c.args.toList.map ev=c.args.toList.map ev':=map_congr fun x hx=>h x (by simp[Op.operands,Call.operands];exact .inr (by simpa using hx))
  rw[this]
  first|done|(split<;>first|rfl|rw[e1,e2])
def yM(op:Op):List Nat:=op.operands.toList.filterMap fun x=>match x with
 | .tmp t=>some t
 |_=>none
def HY(ops:Array Oper)(o:Oper):List Nat:=match o.guard with
 |some (j,_)=>match ops[j]? with
  |some oj=>oj.dst.toList
  |none=>[]
 |none=>[]
def jP(ops:Array Oper)(o:Oper):List Nat:=HY ops o++yM o.op
def slotsOf(ops:Array Oper)(i:Nat):List Nat:=match ops[i]? with
 |some o=>jP ops o
 |none=>[]
def jQ(ops:Array Oper)(i:Nat):Option Nat:=match ops[i]? with
 |some o=>o.dst
 |none=>none
def DS(ops:Array Oper)(l:List Nat):List Nat:=l.filterMap (jQ ops)
def lH(ops:Array Oper)(q j:Nat):Bool:=match ops[q]? with
 |some o=>o.after.toList.any fun e=>Region.binds .any e&&Nat.beq e.on j
 |none=>false
def atp(ops:Array Oper)(i:Nat):Nat->List Nat->List Nat
 |0,m=>m
 |j+1,m=>atp ops i j (bif lH ops i j||m.any (fun q=>lH ops q j)then j::m else m)
def anc(ops:Array Oper)(i:Nat):List Nat:=atp ops i ops.size []
def Closed(ops:Array Oper)(s:Array Bool):Prop:= ∀i j,s.getD i false=true->lH ops i j=true->s.getD j false=true
theorem Qb{ops:Array Oper}{s:Array Bool}(hc:Closed ops s){i:Nat}(hi: ∀j,lH ops i j=true->s.getD j false=true): ∀(n:Nat) (m:List Nat),(∀q∈m,s.getD q false=true)-> ∀q∈atp ops i n m,s.getD q false=true
 |0,m,hm=>hm
 |j+1,m,hm=>by
  refine Qb hc hi j _ fun q hq=> ?_
  cases hb:(lH ops i j||m.any (fun q=>lH ops q j))with
  |false=>rw[hb]at hq;exact hm q hq
  |true=>
   rw[hb]at hq
   rcases List.mem_cons.1 hq with rfl|hq
   ·simp only[Bool.or_eq_true,List.any_eq_true]at hb
    rcases hb with hb|⟨x,hx,hb⟩
    ·exact hi _ hb
    ·exact hc x _ (hm x hx) hb
   ·exact hm q hq
theorem asa{ops:Array Oper}{s:Array Bool}(hc:Closed ops s){i:Nat}(hi:i∈Region.ready .any ops s): ∀q∈anc ops i,s.getD q false=true:=by
 refine Qb hc (fun j hj=> ?_) _ _ (fun q hq=>by cases hq)
 obtain⟨_,o,ho,hall⟩:=mem_ready.1 hi
 simp only[lH,ho,List.any_eq_true,aI]at hj
 obtain⟨e,he,hb,hj⟩:=hj
 have:=hall e (by simpa using he) hb
 rwa [ak hj]at this
theorem xI{ops:Array Oper}{s:Array Bool}(hc:Closed ops s){i:Nat}(hi:i∈Region.ready .any ops s):Closed ops (s.setIfInBounds i true):=by
 intro q j hq hj
 by_cases hqi:i=q
 ·subst hqi
  obtain⟨_,o,ho,hall⟩:=mem_ready.1 hi
  simp only[lH,ho,List.any_eq_true,aI]at hj
  obtain⟨e,he,hb,hj⟩:=hj
  have:=hall e (by simpa using he) hb
  rw[ak hj]at this
  exact getD_set_true this
 ·rw[getD_set_ne false hqi]at hq
  exact getD_set_true (hc q j hq hj)
def H6:Fr->List Nat->Fr
 |fr,[]=>fr
 |fr,d::l=>H6 (fr.set d none) l
theorem iI: ∀(l:List Nat) (fr:Fr) (t:Nat),look (H6 fr l) t=if t∈l then .any else look fr t
 |[],fr,t=>by simp[H6]
 |d::l,fr,t=>by
  simp only[H6]
  rw[iI l]
  by_cases h1:t∈l
  ·simp[h1]
  ·by_cases h2:t=d
   ·subst h2;simp[h1,look,PM.fF]
   ·simp[h1,h2,look,PM.fF]
theorem apF{fr:Fr}{l:List Nat}{op:Op}(h: ∀t∈yM op,t ∉ l): ∀x∈op.operands,evA fr x=evA (H6 fr l) x:=by
 intro x hx
 cases x with
 |tmp t=>
  have:t∈yM op:=by simp only[yM,List.mem_filterMap];exact⟨.tmp t,by simpa using hx,rfl⟩
  simp only[evA,iI,if_neg (h t this)]
 |const v=>rfl
 |global g=>rfl
 |func f=>rfl
def Vp(fr:Fr):List Nat->Fr
 |[]=> .leaf
 |t::S=>(Vp fr S).set t (some (look fr t))
theorem Ae(fr:Fr): ∀(S:List Nat) (t:Nat),look (Vp fr S) t=if t∈S then look fr t else .any
 |[],t=>by simp[Vp,look,PM.xq]
 |s::S,t=>by
  have ih:=Ae fr S t
  have:look (Vp fr (s::S)) t=if t=s then look fr s else look (Vp fr S) t:=by
   simp only[Vp,look,PM.fF]
   by_cases h:t=s
   ·simp[h]
   ·simp[h]
  rw[this,ih]
  by_cases h:t=s
  ·simp[h]
  ·simp[h]
structure jq (ρ:Ren) (n:Nat) (fr:Fr) (a:Act) (S:List Nat):Prop where
 size:a.tmps.size=n
 defers:a.defers=[]
 vals: ∀t∈S,bV ρ (look fr t) (a.tmps.getD t undef)
theorem jq.keep{ρ:Ren}{n:Nat}{fr:Fr}{a:Act}{S:List Nat}(h:jq ρ n fr a S):qG ρ n (Vp fr S) a:=⟨h.size,h.defers,fun t=>by
 rw[Ae]
 by_cases ht:t∈S
 ·rw[if_pos ht];exact h.vals t ht
 ·rw[if_neg ht];simp only[bV]⟩
theorem jq.ZP{ρ:Ren}{n:Nat}{fr:Fr}{a:Act}{l S:List Nat}(h:qG ρ n (H6 fr l) a)(hl: ∀t∈S,t ∉ l):jq ρ n fr a S:=⟨h.size,h.defers,fun t ht=>by
 have:=h.vals t
 rw[iI,if_neg (hl t ht)]at this
 exact this⟩
theorem jq.sub{ρ:Ren}{n:Nat}{fr fr':Fr}{a:Act}{S S':List Nat}(h:jq ρ n fr a S)(hs: ∀t∈S',t∈S)(hl: ∀t∈S',look fr' t=look fr t):jq ρ n fr' a S':=⟨h.size,h.defers,fun t ht=>by rw[hl t ht];exact h.vals t (hs t ht)⟩
theorem adi{fr:Fr}{S:List Nat}{op:Op}(h: ∀t∈yM op,t∈S): ∀x∈op.operands,evA fr x=evA (Vp fr S) x:=by
 intro x hx
 cases x with
 |tmp t=>
  have:t∈yM op:=by simp only[yM,List.mem_filterMap];exact⟨.tmp t,by simpa using hx,rfl⟩
  simp only[evA,Ae,if_pos (h t this)]
 |const v=>rfl
 |global g=>rfl
 |func f=>rfl
def Vq(ops:Array Oper)(o:Oper)(fr:Fr)(yes no:Fr->Prop):Prop:=match o.guard with
 |none=>yes fr
 |some (j,want)=>match ops[j]? with
  |some oj=>match oj.dst with
   |some d=>match look fr d with
    | .lit (.bool b)=>cP b (bif want then yes (KG fr (some d) (.lit (.bool true)))else no (KG fr (some d) (.lit (.bool true)))) (bif want then no (KG fr (some d) (.lit (.bool false)))else yes (KG fr (some d) (.lit (.bool false))))
    | .lit (.tuple _)=>no fr
    |_=>False
   |none=>False
  |none=>False
def Same(fr fr':Fr):Prop:= ∀t,look fr' t=look fr t
theorem Same.put{fr:Fr}{d:Nat}{v:AV}(h:look fr d=v):Same fr (KG fr (some d) v):=fun t=>by
 rw[lD];by_cases ht:t=d
 ·rw[if_pos ht,ht,h]
 ·rw[if_neg ht]
theorem H7{ops:Array Oper}{o:Oper}{fr:Fr}{yes no:Fr->Prop}(h:Vq ops o fr yes no):
  (∃fr',Same fr fr'/\yes fr'/\ ∀ρ n a,jq ρ n fr a (HY ops o)->Region.wanted o (yielded ops a.tmps)=true)\/
  (∃fr',Same fr fr'/\no fr'/\ ∀ρ n a,jq ρ n fr a (HY ops o)->Region.wanted o (yielded ops a.tmps)=false):=by
 unfold Vq at h
 have wnt: ∀{b:Bool},uQ ops o fr=some b-> ∀ρ n a,jq ρ n fr a (HY ops o)->Region.wanted o (yielded ops a.tmps)=b:=by
  intro b hb ρ n a hs
  refine agz hs.keep ?_
  unfold uQ at hb ⊢
  split at hb
  ·rename_i hg;try simp only[hg]
   exact hb
  ·rename_i j want hg
   try simp only[hg]
   split at hb
   ·rename_i oj hoj
    try simp only[hoj]
    split at hb
    ·rename_i d hd
     try simp only[hd]
     rw[Ae,if_pos (by simp[HY,hg,hoj,hd])]
     exact hb
    ·cases hb
   ·cases hb
 split at h
 ·rename_i hg
  exact .inl ⟨fr,fun _=>rfl,h,wnt (by simp[uQ,hg])⟩
 ·rename_i j want hg
  split at h
  ·rename_i oj hoj
   split at h
   ·rename_i d hd
    split at h
    ·rename_i b hb
     have hw:uQ ops o fr=some (b==want):=by simp[uQ,hg,hoj,hd,hb]
     rcases kR h with ⟨rfl,h⟩|⟨rfl,h⟩
     ·cases want with
      |true=>exact .inl ⟨_,Same.put hb,h,wnt (by simpa using hw)⟩
      |false=>exact .inr ⟨_,Same.put hb,h,wnt (by simpa using hw)⟩
     ·cases want with
      |true=>exact .inr ⟨_,Same.put hb,h,wnt (by simpa using hw)⟩
      |false=>exact .inl ⟨_,Same.put hb,h,wnt (by simpa using hw)⟩
    ·rename_i x hx
     exact .inr ⟨fr,fun _=>rfl,h,wnt (by simp[uQ,hg,hoj,hd,hx])⟩
    ·exact h.elim
   ·exact h.elim
  ·exact h.elim
def isLoad:Op->Bool
 | .load .. =>true
 |_=>false
def KL(tt:TT)(op:Op)(ev:Operand->AV)(h:Heap)(Q:AV->Prop):Prop:=match op with
 | .load t x=>Zw tt t (ev x) h Q
 |op=>bif isN op then vN tt op ev h Q else False
def ajZ(tt:TT)(n:Nat)(ops:Array Oper)(i:Nat)(fr:Fr)(h:Heap)(Q:Fr->Prop):Prop:=match ops[i]? with
 |some o=>bif U5 n o.dst then Vq ops o fr (fun fr1=>KL tt o.op (evA fr1) h fun v=>Q (KG fr1 o.dst v)) (fun fr1=>Q (KG fr1 o.dst (.lit undef)))else False
 |none=>False
section
variable{P:Program}{tt:TT}{n:Nat}{ops:Array Oper}
def CS(P:Program)(n:Nat)(ops:Array Oper)(i:Nat)(fr:Fr)(h:Heap):Prop:= ∃o,ops[i]? =some o/\U5 n o.dst=true/\
 ∀ρ T w a,(isLoad o.op=true->Rel h ρ T w)->jq ρ n fr a (jP ops o)-> ∃u,YieldsAt P ops w o u a/\ ∀d,o.dst=some d->bV ρ (look fr d) u
theorem adk(hT:tt.ok P){o:Oper}{ev:Operand->AV}{h:Heap}{Q:AV->Prop}(hq:KL tt o.op ev h Q): ∃v,Q v/\ ∀ρ T w e,(isLoad o.op=true->Rel h ρ T w)->(∀x,bV ρ (ev x) (e x))-> ∃u,(execOp e o).run P w= .ok (.value u) w/\bV ρ v u:=by
 obtain⟨dst,op,ty,pos,after,guard⟩:=o
 have nn: ∀b:Bool,(bif b then vN tt op ev h Q else False)-> ∃v,Q v/\ ∀(ρ:Ren) (T:Nat->Prop) (w:World) (e:Operand->Value),(isLoad op=true->Rel h ρ T w)->(∀x,bV ρ (ev x) (e x))-> ∃u,(execOp e ⟨dst,op,ty,pos,after,guard⟩).run P w= .ok (.value u) w/\bV ρ v u:=fun b hq=>by
  cases b with
  |false=>exact hq.elim
  |true=>
   obtain⟨v,h1,h2⟩:=ar9 hq
   refine⟨v,h1,fun ρ T w e _ he=> ?_⟩
   obtain⟨v',u,h3,h4,rfl⟩:=awi (P:=P) (o:=⟨dst,op,ty,pos,after,guard⟩) hT he h2
   exact⟨u,h3 w,h4⟩
 cases op<;>simp only[KL]at hq<;>try exact nn _ hq
 case load t x=>
  obtain⟨v,h1,h2⟩:=Vo hq
  refine⟨v,h1,fun ρ T w e hR he=> ?_⟩
  obtain⟨v',⟨u,h3,h4⟩,rfl⟩:=ac7 (P:=P) hT (hR rfl) h2 (he x)
  exact⟨u,by simp only[execOp];exact qh h3,h4⟩
theorem aj0{op:Op}{ev:Operand->AV}{h:Heap}{Q:AV->Prop}(hq:KL tt op ev h Q): ∃v,Q v/\KL tt op ev h (fun r=>r=v):=by
 have nn: ∀b:Bool,(bif b then vN tt op ev h Q else False)-> ∃v,Q v/\(bif b then vN tt op ev h (fun r=>r=v)else False):=fun b hq=>by
  cases b with
  |false=>exact hq.elim
  |true=>exact ar9 hq
 cases op
 case load t x=>exact Vo hq
 all_goals
  simp only[KL]at hq ⊢
  exact nn _ hq
theorem H8{op:Op}{ev ev':Operand->AV}{h:Heap}{Q:AV->Prop}(he: ∀x∈op.operands,ev x=ev' x):KL tt op ev h Q=KL tt op ev' h Q:=by
 have:=adh (tt:=tt) (hp:=h) (Q:=Q) he
 cases op<;>simp only[KL]<;>try rw[this]
 case load t x=>simp[Op.operands]at he;rw[he]
theorem aj1(hT:tt.ok P){i:Nat}{fr:Fr}{h:Heap}{Q:Fr->Prop}(hs: ∀o d,ops[i]? =some o->o.dst=some d->d ∉ jP ops o)(hq:ajZ tt n ops i fr h Q):
  ∃o fr',ops[i]? =some o/\Q fr'/\(∀t,(∀d,o.dst=some d->t≠d)->look fr' t=look fr t)/\CS P n ops i fr' h:=by
 unfold ajZ at hq
 split at hq
 ·rename_i o ho
  cases hd:U5 n o.dst with
  |false=>rw[hd]at hq;exact hq.elim
  |true=>
   rw[hd]at hq;simp only[aO]at hq
   have agree: ∀{fr1:Fr} {v:AV},Same fr fr1-> ∀t,(∀d,o.dst=some d->t≠d)->look (KG fr1 o.dst v) t=look fr t:=fun{fr1 v} hsame t ht=>by
    cases hod:o.dst with
    |none=>simp only[KG];exact hsame t
    |some d=>rw[lD,if_neg (ht d hod)];exact hsame t
   have back: ∀{fr1:Fr} {v:AV} {ρ:Ren} {a:Act},Same fr fr1->jq ρ n (KG fr1 o.dst v) a (jP ops o)->jq ρ n fr a (jP ops o):=fun{fr1 v ρ a} hsame hf=>
    hf.sub (fun t ht=>ht) fun t ht=>(agree hsame t fun d hod hh=>hs o d ho hod (by rw[<-hh];exact ht)).symm
   have gd: ∀{fr':Fr} {ρ:Ren} {a:Act},jq ρ n fr' a (jP ops o)->jq ρ n fr' a (HY ops o):=fun hf=>hf.sub (fun t ht=>by simp[jP,ht]) fun t _=>rfl
   rcases H7 hq with ⟨fr1,hsame,hq,hw⟩|⟨fr1,hsame,hq,hw⟩
   ·obtain⟨v,hv,hy⟩:=aj0 hq
    refine⟨o,_,ho,hv,agree hsame,o,ho,hd,fun ρ T w a hR hf=> ?_⟩
    have hf0:=back hsame hf
    have hf1:jq ρ n fr1 a (jP ops o):=hf0.sub (fun t ht=>ht) fun t _=>hsame t
    rw[H8 (adi (fr:=fr1) (S:=jP ops o) fun t ht=>by simp[jP,ht])]at hy
    obtain⟨v',hv',hy2⟩:=adk (P:=P) hT hy
    obtain⟨u,h1,h2⟩:=hy2 ρ T w a.eval hR (fun x=>hf1.keep.ev x)
    rw[hv']at h2
    refine⟨u,.inl ⟨hw ρ n a (gd hf0),.inl h1⟩,fun d hod=> ?_⟩
    rw[hod,lD,if_pos rfl];exact h2
   ·refine⟨o,_,ho,hq,agree hsame,o,ho,hd,fun ρ T w a hR hf=> ?_⟩
    refine⟨undef,.inr ⟨hw ρ n a (gd (back hsame hf)),rfl⟩,fun d hod=> ?_⟩
    rw[hod,lD,if_pos rfl];simp only[bV]
 ·exact hq.elim
theorem qG.same{ρ:Ren}{fr fr':Fr}{a:Act}(h:qG ρ n fr a)(hs: ∀t,look fr' t=look fr t\/look fr' t= .any):qG ρ n fr' a:=⟨h.size,h.defers,fun t=>by
 rcases hs t with h'|h'
 ·rw[h'];exact h.vals t
 ·rw[h'];simp only[bV]⟩
abbrev WFn:=FuncId->List AV->Heap->(AV->Heap->Prop)->Prop
def XSp(P:Program)(f:FuncId)(args:List AV)(h:Heap)(K:AV->Heap->Prop):Prop:= ∀ρ T w vs,Rel h ρ T w->eP ρ args vs.toList->
 ∃v h' u w' ρ',(callFunc f vs).run P w= .ok (.value u) w'/\(∀i,i<h.next->ρ' i=ρ i)/\ρ.le ρ'/\h.next<=h'.next/\Rel h' ρ' T w'/\bV ρ' v u/\Keeps T w w'/\K v h'
def SpE(P:Program)(f:FuncId)(args:List AV)(h:Heap)(K:AV->Heap->Prop):Prop:=Sp P f args h K\/XSp P f args h K
def WOk(P:Program)(call:WFn):Prop:= ∀g args h K,call g args h K->SpE P g args h K
def vDo(call:WFn)(tt:TT)(op:Op)(ev:Operand->AV)(h:Heap)(K:AV->Heap->Prop):Prop:=match op with
 | .call c=>match c.callee with
  | .value x=>match ev x with
   | .fn (.func g) first cap=>call g (first++c.args.toList.map ev++cap) h K
   |_=>False
  |_=>vX tt (.call c) ev h K
 |op=>vX tt op ev h K
def avL(call:WFn)(tt:TT)(n:Nat)(ops:Array Oper)(i:Nat)(fr:Fr)(h:Heap)(Q:Fr->Heap->Prop):Prop:=match ops[i]? with
 |some o=>bif U5 n o.dst then Vq ops o fr (fun fr1=>vDo call tt o.op (evA fr1) h fun v h'=>Q (KG fr1 o.dst v) h') (fun fr1=>Q (KG fr1 o.dst (.lit undef)) h)else False
 |none=>False
theorem aj2{call:WFn}{op:Op}{ev ev':Operand->AV}{h:Heap}{K:AV->Heap->Prop}(he: ∀x∈op.operands,ev x=ev' x):vDo call tt op ev h K=vDo call tt op ev' h K:=by
 have e:=apE (tt:=tt) (hp:=h) (Q:=K) he
 cases op<;>simp only[vDo]<;>try rw[e]
 case call c=>
  have e1:c.args.toList.map ev=c.args.toList.map ev':=map_congr fun x hx=>he x (by simp[Op.operands,Call.operands];exact .inr (by simpa using hx))
  split
  ·rename_i x hx
   have e2:ev x=ev' x:=he x (by simp[Op.operands,Call.operands,hx])
   rw[e1,e2]
  ·first|rfl|rw[e]
def Then(ρ:Ren)(T:Nat->Prop)(w:World)(h:Heap)(a:Act)(d:Option Nat)(K:AV->Heap->Prop)(a':Act)(w':World):Prop:=
 ∃v h' u ρ',a'=a.put d u/\(∀i,i<h.next->ρ' i=ρ i)/\ρ.le ρ'/\h.next<=h'.next/\Rel h' ρ' T w'/\bV ρ' v u/\Keeps T w w'/\K v h'
theorem awl(hT:tt.ok P){call:WFn}(hc:WOk P call){Q:Exit->Act->World->Prop}{i:Nat}{o:Oper}(ho:ops[i]? =some o){fr:Fr}{h:Heap}{K:AV->Heap->Prop}{ρ:Ren}{T:Nat->Prop}{w:World}{a:Act}(hR:Rel h ρ T w)
  (hf:qG ρ n fr a) (hw:Region.wanted o (yielded ops a.tmps)=true) (hq:vDo call tt o.op (evA fr) h K):wpOp P ops Q i (Then ρ T w h a o.dst K) a w:=by
 have xx:vX tt o.op (evA fr) h K->wpOp P ops Q i (Then ρ T w h a o.dst K) a w:=fun hq=>by
  obtain⟨v,h',u,w',ρ',h1,h2,h3,h4,h5,h6,h7,h8⟩:=vX_ok (P:=P) hT hR (fun x=>hf.ev x) (fun v=>rfl) hq
  exact U7 ho hw h1 ⟨v,h',u,ρ',rfl,h2,h3,h4,h5,h6,h7,h8⟩
 obtain⟨dst,op,ty,pos,after,guard⟩:=o
 cases op<;>simp only[vDo]at hq<;>try exact xx hq
 case call c=>
  split at hq
  ·rename_i x hcx
   split at hq
   ·rename_i g first cap hx
    have hspec:=hc _ _ _ _ hq
    have hxv:=hf.ev x
    rw[hx]at hxv
    simp only[bV]at hxv
    obtain⟨fa,ca,hxe,hfa,hca⟩:=hxv
    have hargs:eP ρ (first++c.args.toList.map (evA fr)++cap) (fa++c.args.map a.eval++ca).toList:=by
     simp only[Array.toList_append,Array.toList_map]
     exact(hfa.append (oM (fun y=>hf.ev y) _)).append hca
    rcases hspec with hspec|hspec
    ·have hrun:(execOp a.eval ⟨dst,.call c,ty,pos,after,guard⟩).run P w= .ok (.enter g (fa++c.args.map a.eval++ca)) w:=by
      simp only[execOp,resolve,hcx,hxe,Sem.run_bind,Deferred.ofValue,Sem.run_pure,Result.andThen_ok,invoke]
      exact Ei hspec.1 _ _
     unfold wpOp
     simp only[ho,hw,if_true,Oper.wp,hrun,Oper.upon]
     refine .inl ((hspec.2 ρ T w _ hR hargs).mono ?_)
     rintro e w' ⟨ρ',v,u,h',h1,h2,h3,h4,rfl,h5,h6⟩
     have hle:ρ.le ρ':=fun j b hb=>by
      have hj:j<h.next:=by
       obtain⟨_,_,_,_,r4,_⟩:=hR
       rcases Nat.lt_or_ge j h.next with hlt|hge
       ·exact hlt
       ·rw[r4 j hge]at hb;cases hb
      rw[h1 j hj];exact hb
     exact⟨v,h',u,ρ',rfl,h1,hle,h2,h3,h4,h5,h6⟩
    ·obtain⟨v,h',u,w',ρ',r1,r2,r3,r4,r5,r6,r7,r8⟩:=hspec ρ T w _ hR hargs
     refine U7 ho hw (.inl ?_) ⟨v,h',u,ρ',rfl,r2,r3,r4,r5,r6,r7,r8⟩
     simp only[execOp,resolve,hcx,hxe,Sem.run_bind,Deferred.ofValue,Sem.run_pure,Result.andThen_ok,invoke]
     exact r1
   ·exact hq.elim
  ·exact xx hq
theorem aj3(hT:tt.ok P){call:WFn}(hc:WOk P call){Q:Exit->Act->World->Prop}{i:Nat}{fr:Fr}{h:Heap}{K:Fr->Heap->Prop}{ρ:Ren}{T:Nat->Prop}{w:World}{a:Act}{l:List Nat}(hR:Rel h ρ T w)
  (hf:qG ρ n (H6 fr l) a) (hl: ∀t∈slotsOf ops i,t ∉ l) (hq:avL call tt n ops i fr h K):
  wpOp P ops Q i (fun a' w'=> ∃fr' h' ρ',(∀j,j<h.next->ρ' j=ρ j)/\h.next<=h'.next/\Rel h' ρ' T w'/\qG ρ' n (H6 fr' (l.filter fun t=>jQ ops i !=some t)) a'/\(∀t,jQ ops i≠some t->look fr' t=look fr t)/\Keeps T w w'/\K fr' h') a w:=by
 unfold avL at hq
 split at hq
 ·rename_i o ho
  have hso: ∀t∈jP ops o,t ∉ l:=by simpa only[slotsOf,ho]using hl
  have hdo:jQ ops i=o.dst:=by simp only[jQ,ho]
  cases hd:U5 n o.dst with
  |false=>rw[hd]at hq;exact hq.elim
  |true=>
   rw[hd]at hq;simp only[aO]at hq
   have fin: ∀{fr1:Fr} {v:AV} {u:Value} {ρ':Ren},Same fr fr1->ρ.le ρ'->bV ρ' v u->qG ρ' n (H6 (KG fr1 o.dst v) (l.filter fun t=>jQ ops i !=some t)) (a.put o.dst u)/\ ∀t,jQ ops i≠some t->look (KG fr1 o.dst v) t=look fr t:=by
    intro fr1 v u ρ' hsame hle hv
    refine⟨?_,fun t ht=> ?_⟩
    ·have h1:=(hf.mono hle).put (d:=o.dst) hd hv
     refine h1.same fun t=> ?_
     rw[iI]
     by_cases hm:t∈l.filter fun t=>jQ ops i !=some t
     ·rw[if_pos hm];exact .inr rfl
     ·rw[if_neg hm]
      refine .inl ?_
      rw[hdo]at hm
      cases hod:o.dst with
      |none=>
       rw[hod]at hm
       simp only[KG]
       rw[iI,if_neg (by simpa using hm)]
       exact hsame t
      |some d=>
       rw[hod]at hm
       rw[lD,lD,iI]
       by_cases htd:t=d
       ·simp[htd]
       ·rw[if_neg htd,if_neg htd,if_neg (by intro hh;exact hm (List.mem_filter.2 ⟨hh,by simpa using fun h=>htd h.symm⟩))]
        exact hsame t
    ·rw[hdo]at ht
     cases hod:o.dst with
     |none=>simp only[KG];exact hsame t
     |some d=>rw[lD,if_neg (fun h=>ht (by rw[hod,h]))];exact hsame t
   rcases H7 hq with ⟨fr1,hsame,hq,hw⟩|⟨fr1,hsame,hq,hw⟩
   ·have hf1:qG ρ n (H6 fr1 l) a:=hf.same fun t=>by rw[iI,iI,hsame t];exact .inl rfl
    rw[aj2 (apF (fr:=fr1) (l:=l) fun t ht=>hso t (by simp[jP,ht]))]at hq
    refine wpOp_mono ?_ (awl (P:=P) (Q:=Q) hT hc ho hR hf1 (hw ρ n a (.ZP hf fun t ht=>hso t (by simp[jP,ht]))) hq)
    rintro a' w' ⟨v,h',u,ρ',rfl,h1,h2,h3,h4,h5,h6,h7⟩
    obtain⟨f1,f2⟩:=fin (v:=v) hsame h2 h5
    exact⟨_,h',ρ',h1,h3,h4,f1,f2,h6,h7⟩
   ·obtain⟨f1,f2⟩:=fin (v:= .lit undef) (u:=undef) hsame (Ren.le_refl _) (by simp only[bV])
    unfold wpOp
    simp only[ho,hw ρ n a (.ZP hf fun t ht=>hso t (by simp[jP,ht]))]
    exact⟨_,h,ρ,fun _ _=>rfl,aX _,hR,f1,f2,Keeps.refl _ _,hq⟩
 ·exact hq.elim
end
inductive Pl where
 |nil
 |st (i:Nat) (p:Pl)
 |ac (i:Nat) (np rc:List Nat) (p:Pl)
 |alt (p q:Pl)
def opAt(ops:Array Oper)(i:Nat):Op:=match ops[i]? with
 |some o=>o.op
 |none=> .alloc 0
def awm(ops:Array Oper)(i:Nat):Bool:=(isN (opAt ops i)||isLoad (opAt ops i))&&(match jQ ops i with
 |none=>true
 |some d=> !(slotsOf ops i).contains d&&(List.range ops.size).all fun j=>Nat.beq j i||((match jQ ops j with|some e=> !Nat.beq e d|none=>true)&&(!(slotsOf ops j).contains d||(anc ops j).contains i)))
def awn(ops:Array Oper)(i:Nat)(pend np rc:List Nat):Bool:=
 pend.all (fun p=>(anc ops i).contains p||np.contains p)&&(slotsOf ops i).all (fun t=> !(DS ops np).contains t)&&
 (match jQ ops i with|some d=>np.all fun p=> !(slotsOf ops p).contains d&&(match jQ ops p with|some e=> !Nat.beq e d|none=>true)|none=>true)&&np.all (fun p=> !isLoad (opAt ops p)||rc.contains p)
def heads:Pl->List Nat
 | .ac i _ _ _=>[i]
 | .alt p q=>heads p++heads q
 |_=>[]
mutual
def ZQ(ops:Array Oper):Pl->List Nat->Array Bool->Bool
 | .nil,_,A=>(Region.ready .any ops A).isEmpty
 | .st i p,pend,A=>(Region.ready .any ops A).contains i&&awm ops i&&ZQ ops p (i::pend) (A.setIfInBounds i true)
 | .ac i np rc p,pend,A=>(Region.ready .any ops A==[i])&&awn ops i pend np rc&&ZQ ops p np (A.setIfInBounds i true)
 | .alt p q,pend,A=>(Region.ready .any ops A==heads p++heads q)&&okH ops p pend A&&okH ops q pend A
def okH(ops:Array Oper):Pl->List Nat->Array Bool->Bool
 | .ac i np rc p,pend,A=>awn ops i pend np rc&&ZQ ops p np (A.setIfInBounds i true)
 | .alt p q,pend,A=>okH ops p pend A&&okH ops q pend A
 |_,_,_=>false
end
def qU(ops:Array Oper):Bool:=(List.range ops.size).all fun i=>match ops[i]? with
 |some o=>o.after.toList.all fun e=> !Region.binds .any e||Nat.blt e.on i
 |none=>true
def atq(ops:Array Oper)(rec:List Nat->Array Bool->Pl)(pend:List Nat)(A:Array Bool)(i:Nat):Pl:=
 let np:=pend.filter fun p=> !(anc ops i).contains p
 .ac i np (np.filter fun p=>isLoad (opAt ops p)) (rec np (A.setIfInBounds i true))
def adl(mk:Nat->Pl)(i:Nat):List Nat->Pl
 |[]=>mk i
 |j::l=> .alt (mk i) (adl mk j l)
def apG(ops:Array Oper):Nat->List Nat->Array Bool->Pl
 |0,_,_=> .nil
 |f+1,pend,A=>match (Region.ready .any ops A).find? (awm ops)with
  |some i=> .st i (apG ops f (i::pend) (A.setIfInBounds i true))
  |none=>match Region.ready .any ops A with
   |[]=> .nil
   |i::l=>adl (atq ops (apG ops f) pend A) i l
def Vr(tt:TT)(n:Nat)(ops:Array Oper)(fr:Fr)(h:Heap):List Nat->Prop
 |[]=>True
 |p::l=>(match ops[p]? with
  |some o=>bif U5 n o.dst then Vq ops o fr (fun fr1=>KL tt o.op (evA fr1) h fun v=>match o.dst with|some d=>v=look fr d|none=>True) (fun _=>match o.dst with|some d=>look fr d= .lit undef|none=>True)else False
  |none=>False)/\Vr tt n ops fr h l
def vPl(call:WFn)(tt:TT)(n:Nat)(ops:Array Oper):Pl->Fr->Heap->(Fr->Heap->Prop)->Prop
 | .nil,fr,h,Q=>Q fr h
 | .st i p,fr,h,Q=>ajZ tt n ops i fr h fun fr'=>vPl call tt n ops p fr' h Q
 | .ac i _ rc p,fr,h,Q=>avL call tt n ops i fr h fun fr' h'=>Vr tt n ops fr' h' rc/\vPl call tt n ops p fr' h' Q
 | .alt p q,fr,h,Q=>vPl call tt n ops p fr h Q/\vPl call tt n ops q fr h Q
section
variable{P:Program}{tt:TT}{n:Nat}{ops:Array Oper}
theorem CS.congr{i:Nat}{fr fr':Fr}{h:Heap}(hs:CS P n ops i fr h)(hsl: ∀t∈slotsOf ops i,look fr' t=look fr t)(hd: ∀d,jQ ops i=some d->look fr' d=look fr d):CS P n ops i fr' h:=by
 obtain⟨o,ho,hdo,hq⟩:=hs
 have e1:slotsOf ops i=jP ops o:=by simp only[slotsOf,ho]
 have e2:jQ ops i=o.dst:=by simp only[jQ,ho]
 refine⟨o,ho,hdo,fun ρ T w a hR hf=> ?_⟩
 obtain⟨u,h1,h2⟩:=hq ρ T w a hR (hf.sub (fun t ht=>ht) fun t ht=>(hsl t (by rw[e1];exact ht)).symm)
 exact⟨u,h1,fun d hod=>by rw[hd d (by rw[e2,hod])];exact h2 d hod⟩
theorem apH{q j:Nat}{o:Oper}(ho:ops[q]? =some o){e:Edge}(he:e∈o.after)(hb:Region.binds .any e=true)(hj:e.on=j):lH ops q j=true:=by
 simp only[lH,ho,List.any_eq_true,aI]
 exact⟨e,by simpa using he,hb,by rw[hj];exact Nat.beq_refl _⟩
theorem adn{s:Array Bool}{q:Nat}{o:Oper}(hsz:s.size=ops.size)(ho:ops[q]? =some o)(hq:s.getD q false=false)(hd: ∀j,lH ops q j=true->s.getD j false=true):q∈Region.ready .any ops s:=by
 have hlt:q<s.size:=by rw[hsz];exact(Array.getElem?_eq_some_iff.1 ho).1
 refine mem_ready.2 ⟨?_,o,ho,fun e he hb=>hd _ (apH ho he hb rfl)⟩
 simp[hlt]at hq ⊢;exact hq
theorem Af{s:Array Bool}{q:Nat}(h:q∈Region.ready .any ops s):q<ops.size/\(s.size=ops.size->s.getD q false=false):=by
 obtain⟨h1,o,ho,_⟩:=mem_ready.1 h
 have hlt:=(Array.getElem?_eq_some_iff.1 ho).1
 refine⟨hlt,fun hsz=> ?_⟩
 have:q<s.size:=by omega
 simp[this]at h1 ⊢;exact h1
theorem kS{s:Array Bool}{i:Nat}(hi:i<s.size)(j:Nat):(s.setIfInBounds i true).getD j false=(Nat.beq j i||s.getD j false):=by
 by_cases h:j=i
 ·subst h;simp[hi]
 ·rw[getD_set_ne false (Ne.symm h),jm h];simp
theorem uY{l:List Nat}{d:Nat}:d∈DS ops l↔ ∃p∈l,jQ ops p=some d:=by simp[DS]
variable{fr0:Fr}{k:Nat}{Q:Fr->Heap->Prop}{ρ₀:Ren}{T:Nat->Prop}{w₀:World}{call:WFn}
structure JS (P:Program) (tt:TT) (call:WFn) (n:Nat) (ops:Array Oper) (fr0:Fr) (k:Nat) (Q:Fr->Heap->Prop) (ρ₀:Ren) (T:Nat->Prop) (w₀:World) (pl:Pl) (pend Pd:List Nat) (A:Array Bool) (fr:Fr) (h:Heap) (ρ:Ren) (s:Array Bool) (a:Act) (w:World):Prop where
 ok:ZQ ops pl pend A=true
 asz:A.size=ops.size
 ssz:s.size=ops.size
 sub: ∀i∈Pd,i∈pend
 pdA: ∀i∈Pd,A.getD i false=true
 st: ∀i∈Pd,awm ops i=true
 eq: ∀i,s.getD i false=(A.getD i false&& !Pd.contains i)
 cs:Closed ops s
 cA:Closed ops A
 ren: ∀i,i<k->ρ i=ρ₀ i
 keeps:Keeps T w₀ w
 kle:k<=h.next
 rel:Rel h ρ T w
 frm:qG ρ n (H6 fr (DS ops Pd)) a
 still: ∀p∈Pd,CS P n ops p fr h
 v:vPl call tt n ops pl fr h Q
 ag: ∀t,(∀i,jQ ops i≠some t)->look fr t=look fr0 t
theorem Ag{i d:Nat}(h:awm ops i=true)(hd:jQ ops i=some d):d ∉ slotsOf ops i/\ ∀j,j<ops.size->j≠i->jQ ops j≠some d/\(d∈slotsOf ops j->i∈anc ops j):=by
 simp only[awm,hd,aI,Bool.not_eq_true',List.all_eq_true,List.mem_range,Bool.or_eq_true]at h
 obtain⟨_,h1,h2⟩:=h
 refine⟨by simpa using h1,fun j hj hji=> ?_⟩
 rcases h2 j hj with h3|⟨h3,h4⟩
 ·exact absurd (ak h3) hji
 ·refine⟨fun hh=> ?_,fun hh=> ?_⟩
  ·rw[hh]at h3;simp at h3
  ·rcases h4 with h4|h4
   ·simp[hh]at h4
   ·simpa using h4
theorem JS.peek(hT:tt.ok P){i:Nat}{p:Pl}{pend Pd:List Nat}{A:Array Bool}{fr:Fr}{h:Heap}{ρ:Ren}{s:Array Bool}{a:Act}{w:World}(J:JS P tt call n ops fr0 k Q ρ₀ T w₀ (.st i p) pend Pd A fr h ρ s a w):
  ∃fr',JS P tt call n ops fr0 k Q ρ₀ T w₀ p (i::pend) (i::Pd) (A.setIfInBounds i true) fr' h ρ s a w:=by
 have hok:=J.ok
 simp only[ZQ,aI]at hok
 obtain⟨⟨hr,hst⟩,hok⟩:=hok
 have hr:i∈Region.ready .any ops A:=by simpa using hr
 obtain⟨hlt,hAi⟩:=Af hr
 have hAi:=hAi J.asz
 have hns: ∀o d,ops[i]? =some o->o.dst=some d->d ∉ jP ops o:=fun o d ho hd=>by
  have:=(Ag (d:=d) hst (by simp only[jQ,ho,hd])).1
  simpa only[slotsOf,ho]using this
 obtain⟨o,fr',ho,hv,hag,hsa⟩:=aj1 (P:=P) hT hns J.v
 have hdo:jQ ops i=o.dst:=by simp only[jQ,ho]
 have hag: ∀t,jQ ops i≠some t->look fr' t=look fr t:=fun t ht=>hag t fun d hd hh=>ht (by rw[hdo,hd,hh])
 have hiA:i<A.size:=by rw[J.asz];exact hlt
 refine⟨fr',hok,by simp[J.asz],J.ssz,fun q hq=> ?_,fun q hq=> ?_,fun q hq=> ?_,fun q=> ?_,J.cs,xI J.cA hr,J.ren,J.keeps,J.kle,J.rel,?_,fun q hq=> ?_,hv,fun t ht=>(hag t (ht i)).trans (J.ag t ht)⟩
 ·rcases List.mem_cons.1 hq with rfl|hq
  ·simp
  ·exact List.mem_cons_of_mem _ (J.sub q hq)
 ·rw[kS hiA]
  rcases List.mem_cons.1 hq with rfl|hq
  ·simp
  ·rw[J.pdA q hq];simp
 ·rcases List.mem_cons.1 hq with rfl|hq
  ·exact hst
  ·exact J.st q hq
 ·rw[J.eq q,kS hiA]
  by_cases hqi:q=i
  ·subst hqi;rw[hAi];simp
  ·simp[jm hqi,hqi]
 ·refine J.frm.same fun t=> ?_
  rw[iI,iI]
  by_cases h1:t∈DS ops (i::Pd)
  ·rw[if_pos h1];exact .inr rfl
  ·rw[if_neg h1]
   have h2:t ∉ DS ops Pd:=fun hh=>h1 (by obtain⟨p,hp,hpd⟩:=uY.1 hh;exact uY.2 ⟨p,List.mem_cons_of_mem _ hp,hpd⟩)
   rw[if_neg h2]
   exact .inl (hag t fun hh=>h1 (uY.2 ⟨i,by simp,hh⟩))
 ·rcases List.mem_cons.1 hq with rfl|hq
  ·exact hsa
  ·have hqA:=J.pdA q hq
   have hqi:q≠i:=fun hh=>by rw[hh,hAi]at hqA;cases hqA
   have hqlt:q<ops.size:=by
    rcases Nat.lt_or_ge q A.size with h'|h'
    ·rw[J.asz]at h';exact h'
    ·simp[Array.getElem?_eq_none h']at hqA
   refine(J.still q hq).congr (fun t ht=>hag t fun hh=> ?_) (fun d hd=>hag d fun hh=> ?_)
   ·--it would come behind i
    have:=((Ag hst hh).2 q hqlt hqi).2 ht
    have hi:=Qb J.cA (fun j hj=>J.cA q j hqA hj) ops.size [] (fun _ hq=>by cases hq) i this
    rw[hAi]at hi;cases hi
   ·exact((Ag hst hh).2 q hqlt hqi).1 hd
theorem JS.done{pl:Pl}{pend Pd:List Nat}{A:Array Bool}{fr:Fr}{h:Heap}{ρ:Ren}{s:Array Bool}{a:Act}{w:World}(J:JS P tt call n ops fr0 k Q ρ₀ T w₀ pl pend Pd A fr h ρ s a w){p:Nat}(hp:p∈Pd)(hr:p∈Region.ready .any ops s)
  {Qx:Exit->Act->World->Prop}:wpOp P ops Qx p (fun a' w'=>JS P tt call n ops fr0 k Q ρ₀ T w₀ pl pend (Pd.filter (· !=p)) A fr h ρ (s.setIfInBounds p true) a' w') a w:=by
 obtain⟨o,ho,hdo,hy⟩:=J.still p hp
 obtain⟨hlt,hsp⟩:=Af hr
 have hps:p<s.size:=by rw[J.ssz];exact hlt
 have e1:slotsOf ops p=jP ops o:=by simp only[slotsOf,ho]
 have e2:jQ ops p=o.dst:=by simp only[jQ,ho]
 have hsl: ∀t∈jP ops o,t ∉ DS ops Pd:=fun t ht hm=>by
  obtain⟨q,hq,hqd⟩:=uY.1 hm
  by_cases hqp:q=p
  ·subst hqp
   exact(Ag (J.st q hq) hqd).1 (by rw[e1];exact ht)
  ·have:=((Ag (J.st q hq) hqd).2 p hlt (Ne.symm hqp)).2 (by rw[e1];exact ht)
   have hs:=asa J.cs hr q this
   rw[J.eq q]at hs
   simp[hq]at hs
 obtain⟨u,hyu,hru⟩:=hy ρ T w a (fun _=>J.rel) (.ZP J.frm hsl)
 refine YieldsAt.wpOp' ho hyu ⟨J.ok,J.asz,by simp[J.ssz],fun q hq=>J.sub q (List.mem_filter.1 hq).1,fun q hq=>J.pdA q (List.mem_filter.1 hq).1,fun q hq=>J.st q (List.mem_filter.1 hq).1,fun q=> ?_,xI J.cs hr,J.cA,J.ren,J.keeps,J.kle,J.rel,?_,fun q hq=>J.still q (List.mem_filter.1 hq).1,J.v,J.ag⟩
 ·rw[kS hps,J.eq q]
  by_cases hqp:q=p
  ·subst hqp;rw[J.pdA q hp];simp
  ·rw[jm hqp]
   simp[hqp]
 ·have h1:=J.frm.put (v:=match o.dst with|some d=>look fr d|none=> .any) hdo (show bV ρ _ u by
   cases hod:o.dst with
   |none=>simp only[bV]
   |some d=>exact hru d hod)
  refine h1.same fun t=> ?_
  rw[iI]
  by_cases hm:t∈DS ops (Pd.filter (· !=p))
  ·rw[if_pos hm];exact .inr rfl
  ·rw[if_neg hm]
   refine .inl ?_
   cases hod:o.dst with
   |none=>
    simp only[KG]
    rw[iI,if_neg]
    intro hh
    obtain⟨q,hq,hqd⟩:=uY.1 hh
    refine hm (uY.2 ⟨q,List.mem_filter.2 ⟨hq,?_⟩,hqd⟩)
    have:q≠p:=fun hqp=>by rw[hqp,e2,hod]at hqd;cases hqd
    simpa using this
   |some d=>
    rw[lD]
    by_cases htd:t=d
    ·rw[if_pos htd,htd]
    ·rw[if_neg htd,iI,if_neg]
     intro hh
     obtain⟨q,hq,hqd⟩:=uY.1 hh
     refine hm (uY.2 ⟨q,List.mem_filter.2 ⟨hq,?_⟩,hqd⟩)
     have:q≠p:=fun hqp=>by rw[hqp,e2,hod]at hqd;cases hqd;exact htd rfl
     simpa using this
theorem Vs: ∀{pl:Pl} {pend:List Nat} {A:Array Bool},okH ops pl pend A=true->heads pl≠[]
 | .ac i np rc p,_,_,_=>by simp[heads]
 | .alt p q,pend,A,h=>by
  simp only[okH,aI]at h
  have:=Vs h.1
  simp[heads,this]
 | .nil,_,_,h=>by simp[okH]at h
 | .st _ _,_,_,h=>by simp[okH]at h
theorem Gp: ∀{pl:Pl} {pend:List Nat} {A:Array Bool} {fr:Fr} {h:Heap} {j:Nat},okH ops pl pend A=true->j∈heads pl->vPl call tt n ops pl fr h Q->
  ∃np rc p,awn ops j pend np rc=true/\ZQ ops p np (A.setIfInBounds j true)=true/\avL call tt n ops j fr h (fun fr' h'=>Vr tt n ops fr' h' rc/\vPl call tt n ops p fr' h' Q)
 | .ac i np rc p,pend,A,fr,h,j,hok,hj,hv=>by
  simp only[heads,List.mem_singleton]at hj
  subst hj
  simp only[okH,aI]at hok
  exact⟨np,rc,p,hok.1,hok.2,hv⟩
 | .alt p q,pend,A,fr,h,j,hok,hj,hv=>by
  simp only[okH,aI]at hok
  rcases List.mem_append.1 hj with hj|hj
  ·exact Gp hok.1 hj hv.1
  ·exact Gp hok.2 hj hv.2
 | .nil,_,_,_,_,_,hok,_,_=>by simp[okH]at hok
 | .st _ _,_,_,_,_,_,hok,_,_=>by simp[okH]at hok
theorem Vt(hT:tt.ok P){fr:Fr}{h:Heap}: ∀{l:List Nat},Vr tt n ops fr h l-> ∀p∈l,CS P n ops p fr h
 |q::l,hv,p,hp=>by
  rcases List.mem_cons.1 hp with rfl|hp
  ·have hv:=hv.1
   split at hv
   ·rename_i o ho
    cases hd:U5 n o.dst with
    |false=>rw[hd]at hv;exact hv.elim
    |true=>
     rw[hd]at hv;simp only[aO]at hv
     have gd: ∀{fr':Fr} {ρ:Ren} {a:Act},jq ρ n fr' a (jP ops o)->jq ρ n fr' a (HY ops o):=fun hf=>hf.sub (fun t ht=>by simp[jP,ht]) fun t _=>rfl
     rcases H7 hv with ⟨fr1,hsame,hq,hw⟩|⟨fr1,hsame,hq,hw⟩
     ·rw[H8 (adi (fr:=fr1) (S:=jP ops o) fun t ht=>by simp[jP,ht])]at hq
      obtain⟨v,hv,hy⟩:=adk (P:=P) hT hq
      refine⟨o,ho,hd,fun ρ T w a hR hf=> ?_⟩
      have hf1:jq ρ n fr1 a (jP ops o):=hf.sub (fun t ht=>ht) fun t _=>hsame t
      obtain⟨u,h1,h2⟩:=hy ρ T w a.eval hR (fun x=>hf1.keep.ev x)
      refine⟨u,.inl ⟨hw ρ n a (gd hf),.inl h1⟩,fun d hod=> ?_⟩
      rw[hod]at hv
      simp only at hv
      rw[<-hv];exact h2
     ·refine⟨o,ho,hd,fun ρ T w a hR hf=>⟨undef,.inr ⟨hw ρ n a (gd hf),rfl⟩,fun d hod=> ?_⟩⟩
      rw[hod]at hq
      simp only at hq
      rw[hq];simp only[bV]
   ·exact hv.elim
  ·exact Vt hT hv.2 p hp
theorem JS.act(hT:tt.ok P)(hc:WOk P call){pl:Pl}{pend Pd:List Nat}{A:Array Bool}{fr:Fr}{h:Heap}{ρ:Ren}{s:Array Bool}{a:Act}{w:World}(J:JS P tt call n ops fr0 k Q ρ₀ T w₀ pl pend Pd A fr h ρ s a w){j:Nat}(hr:j∈Region.ready .any ops s)(hj:j ∉ Pd)
  (atr: ∀i p,pl≠ .st i p) {Qx:Exit->Act->World->Prop}:wpOp P ops Qx j (fun a' w'=> ∃pl' aj6 Pd' A' fr' h' ρ',JS P tt call n ops fr0 k Q ρ₀ T w₀ pl' aj6 Pd' A' fr' h' ρ' (s.setIfInBounds j true) a' w') a w:=by
 obtain⟨hlt,hsj⟩:=Af hr
 have hsj:=hsj J.ssz
 have hjs:j<s.size:=by rw[J.ssz];exact hlt
 have hjA:j<A.size:=by rw[J.asz];exact hlt
 have hAj:A.getD j false=false:=by
  have:=J.eq j
  rw[hsj]at this
  have hc:Pd.contains j=false:=by simpa using hj
  rw[hc]at this
  simpa using this.symm
 have hsA: ∀q,s.getD q false=true->A.getD q false=true:=fun q hq=>by
  rw[J.eq q]at hq
  simp only[aI]at hq
  exact hq.1
 obtain⟨h1,o,ho,hall⟩:=mem_ready.1 hr
 have hrA:j∈Region.ready .any ops A:=adn J.asz ho hAj fun q hq=>by
  refine hsA q ?_
  simp only[lH,ho,List.any_eq_true,aI]at hq
  obtain⟨e,he,hb,hq⟩:=hq
  have:=hall e (by simpa using he) hb
  rwa [ak hq]at this
 have hpick: ∃np rc p,awn ops j pend np rc=true/\ZQ ops p np (A.setIfInBounds j true)=true/\avL call tt n ops j fr h (fun fr' h'=>Vr tt n ops fr' h' rc/\vPl call tt n ops p fr' h' Q):=by
  have hok:=J.ok
  have hv:=J.v
  cases pl with
  |nil=>simp only[ZQ,List.isEmpty_iff]at hok;rw[hok]at hrA;cases hrA
  |st i p=>exact(atr i p rfl).elim
  |ac i np rc p=>
   simp only[ZQ,aI,beq_iff_eq]at hok
   have hji:j=i:=by rw[hok.1.1]at hrA;simpa using hrA
   subst hji
   exact⟨np,rc,p,hok.1.2,hok.2,hv⟩
  |alt p q=>
   simp only[ZQ,aI,beq_iff_eq]at hok
   rw[hok.1.1]at hrA
   rcases List.mem_append.1 hrA with hm|hm
   ·exact Gp hok.1.2 hm hv.1
   ·exact Gp hok.2 hm hv.2
 obtain⟨np,rc,p,hac,hokp,hv⟩:=hpick
 simp only[awn,aI,List.all_eq_true,Bool.or_eq_true,Bool.not_eq_true']at hac
 obtain⟨⟨⟨a1,a2⟩,a3⟩,a4⟩:=hac
 have hPnp: ∀q∈Pd,q∈np:=fun q hq=>by
  rcases a1 q (J.sub q hq)with h'|h'
  ·have:=asa J.cs hr q (by simpa using h')
   rw[J.eq q]at this
   simp[hq]at this
  ·simpa using h'
 have hDS: ∀t,t∈DS ops Pd->t∈DS ops np:=fun t ht=>by
  obtain⟨q,hq,hqd⟩:=uY.1 ht
  exact uY.2 ⟨q,hPnp q hq,hqd⟩
 refine wpOp_mono ?_ (aj3 (P:=P) (Q:=Qx) hT hc J.rel J.frm (fun t ht hm=>by
  have:=a2 t ht
  have h2:=hDS t hm
  simp[h2]at this) hv)
 rintro a' w' ⟨fr',h',ρ',b1,b2,b3,b4,b5,b6,b7,b8⟩
 have hdst: ∀d,jQ ops j=some d-> ∀q∈np,d ∉ slotsOf ops q/\jQ ops q≠some d:=fun d hd q hq=>by
  rw[hd]at a3
  simp only[List.all_eq_true,aI,Bool.not_eq_true']at a3
  obtain⟨c1,c2⟩:=a3 q hq
  refine⟨by simpa using c1,fun hh=> ?_⟩
  rw[hh]at c2;simp at c2
 refine⟨p,np,Pd,A.setIfInBounds j true,fr',h',ρ',hokp,by simp[J.asz],by simp[J.ssz],hPnp,fun q hq=>getD_set_true (J.pdA q hq),J.st,fun q=> ?_,xI J.cs hr,xI J.cA hrA,fun i hi=>(b1 i (Nat.lt_of_lt_of_le hi J.kle)).trans (J.ren i hi),J.keeps.trans b6,Nat.le_trans J.kle b2,b3,?_,fun q hq=> ?_,b8,fun t ht=>(b5 t (ht j)).trans (J.ag t ht)⟩
 ·rw[kS hjs,kS hjA,J.eq q]
  by_cases hqj:q=j
  ·subst hqj;simp[hj]
  ·rw[jm hqj];simp
 ·refine b4.same fun t=> ?_
  rw[iI,iI]
  by_cases hm:t∈DS ops Pd
  ·rw[if_pos hm];exact .inr rfl
  ·rw[if_neg hm,if_neg (fun hh=>hm (List.mem_filter.1 hh).1)];exact .inl rfl
 ·have hqnp:=hPnp q hq
  rcases a4 q hqnp with hn|hl
  ·--it reads no memory
   have hst:=(J.still q hq).congr (fr':=fr') (fun t ht=>b5 t fun hh=>(hdst t hh q hqnp).1 ht) (fun d hd=>b5 d fun hh=>(hdst d hh q hqnp).2 hd)
   obtain⟨oq,hoq,hdq,hyq⟩:=hst
   refine⟨oq,hoq,hdq,fun ρ T w a hR hf=>hyq ρ T w a (fun hl=> ?_) hf⟩
   have:opAt ops q=oq.op:=by simp only[opAt,hoq]
   rw[this,hl]at hn
   cases hn
  ·exact Vt hT b7 q (by simpa using hl)
theorem JS.norm(hT:tt.ok P): ∀{pl:Pl} {pend Pd:List Nat} {A:Array Bool} {fr:Fr} {h:Heap} {ρ:Ren} {s:Array Bool} {a:Act} {w:World},JS P tt call n ops fr0 k Q ρ₀ T w₀ pl pend Pd A fr h ρ s a w->
  ∃pl' aj6 Pd' A' fr' h' ρ',(∀i p,pl'≠ .st i p)/\JS P tt call n ops fr0 k Q ρ₀ T w₀ pl' aj6 Pd' A' fr' h' ρ' s a w
 | .st i p,pend,Pd,A,fr,h,ρ,s,a,w,J=>by
  obtain⟨fr',J'⟩:=J.peek hT
  exact J'.norm hT
 | .nil,pend,Pd,A,fr,h,ρ,s,a,w,J=>⟨_,_,_,_,_,_,_,(fun i p hh=>by cases hh),J⟩
 | .ac ..,pend,Pd,A,fr,h,ρ,s,a,w,J=>⟨_,_,_,_,_,_,_,(fun i p hh=>by cases hh),J⟩
 | .alt ..,pend,Pd,A,fr,h,ρ,s,a,w,J=>⟨_,_,_,_,_,_,_,(fun i p hh=>by cases hh),J⟩
theorem JS.fin(hdn:qU ops=true){pl:Pl}{pend Pd:List Nat}{A:Array Bool}{fr:Fr}{h:Heap}{ρ:Ren}{s:Array Bool}{a:Act}{w:World}(J:JS P tt call n ops fr0 k Q ρ₀ T w₀ pl pend Pd A fr h ρ s a w)(atr: ∀i p,pl≠ .st i p)
  (hr:Region.ready .any ops s=[]):After k n ρ₀ T w₀ (fun fr h=>(∀t,(∀i,jQ ops i≠some t)->look fr t=look fr0 t)/\Q fr h) a w:=by
 have hinA: ∀q,A.getD q false=true-> ∃o,ops[q]? =some o:=fun q hq=>by
  have:q<A.size:=by
   rcases Nat.lt_or_ge q A.size with h'|h'
   ·exact h'
   ·simp[Array.getElem?_eq_none h']at hq
  rw[J.asz]at this
  exact⟨ops[q],by simp[this]⟩
 have hlow: ∀q j,lH ops q j=true->j<q:=fun q j hq=>by
  unfold lH at hq
  split at hq
  ·rename_i o ho
   have hlt:=(Array.getElem?_eq_some_iff.1 ho).1
   simp only[qU,List.all_eq_true,List.mem_range]at hdn
   have:=hdn q hlt
   simp only[ho,List.all_eq_true,Bool.or_eq_true,Bool.not_eq_true']at this
   simp only[List.any_eq_true,aI]at hq
   obtain⟨e,he,hb,hj⟩:=hq
   rcases this e he with h'|h'
   ·rw[hb]at h';cases h'
   ·rw[<-ak hj];exact bW.1 h'
  ·cases hq
 have hmin: ∀m q,q<=m->q∈Pd->False:=by
  intro m
  induction m using Nat.strongRecOn with
  |_ m ih=>
   intro q hqm hq
   obtain⟨o,ho⟩:=hinA q (J.pdA q hq)
   have:q∈Region.ready .any ops s:=by
    refine adn J.ssz ho (by rw[J.eq q];simp[hq]) fun j hj=> ?_
    have hjq:=hlow q j hj
    have hjA:=J.cA q j (J.pdA q hq) hj
    rw[J.eq j,hjA]
    have:j ∉ Pd:=fun hh=>ih j (by omega) j (aX _) hh
    simp[this]
   rw[hr]at this;cases this
 have hPd:Pd=[]:=by
  cases Pd with
  |nil=>rfl
  |cons q l=>exact(hmin q q (aX _) (by simp)).elim
 subst hPd
 have hsA:s=A:=Zj (by rw[J.ssz,J.asz]) fun i=>by rw[J.eq i];simp
 subst hsA
 have hok:=J.ok
 cases pl with
 |nil=>exact⟨ρ,fr,h,J.ren,⟨J.kle,J.rel,J.frm⟩,J.keeps,J.ag,J.v⟩
 |st i p=>exact(atr i p rfl).elim
 |ac i np rc p=>
  simp only[ZQ,aI,beq_iff_eq]at hok
  rw[hr]at hok;cases hok.1.1
 |alt p q=>
  simp only[ZQ,aI,beq_iff_eq]at hok
  rw[hr]at hok
  have:=Vs hok.1.2
  cases hp:heads p with
  |nil=>exact(this hp).elim
  |cons x l=>rw[hp]at hok;cases hok.1.1
theorem cnt_lt{p q:Nat->Bool}{x:Nat}: ∀(l:List Nat),(∀y∈l,p y=true->q y=true)->x∈l->q x=true->p x=false->l.countP p<l.countP q
 |[],_,h,_,_=>by cases h
 |y::l,hpq,hx,hqx,hpx=>by
  have hle:l.countP p<=l.countP q:=List.countP_mono_left fun y hy=>hpq y (by simp[hy])
  rw[List.countP_cons,List.countP_cons]
  rcases List.mem_cons.1 hx with rfl|hx
  ·rw[if_neg (by rw[hpx];simp),if_pos hqx];omega
  ·have:=cnt_lt l (fun y hy=>hpq y (by simp[hy])) hx hqx hpx
   by_cases hy:p y=true
   ·rw[if_pos hy,if_pos (hpq y (by simp) hy)];omega
   ·rw[if_neg hy];split<;>omega
theorem Qc(hT:tt.ok P)(hc:WOk P call)(hdn:qU ops=true): ∀(m:Nat) {pl:Pl} {pend Pd:List Nat} {A:Array Bool} {fr:Fr} {h:Heap} {ρ:Ren} {s:Array Bool} {a:Act} {w:World},JS P tt call n ops fr0 k Q ρ₀ T w₀ pl pend Pd A fr h ρ s a w->
  (List.range ops.size).countP (fun i=> !s.getD i false)<=m->wpAny P .any ops (Zr k n ρ₀ T w₀ (fun fr h=>(∀t,(∀i,jQ ops i≠some t)->look fr t=look fr0 t)/\Q fr h)) m s a w
 |0,pl,pend,Pd,A,fr,h,ρ,s,a,w,J,hm=>by
  have hr:Region.ready .any ops s=[]:=by
   cases hr:Region.ready .any ops s with
   |nil=>rfl
   |cons q l=>
    exfalso
    obtain⟨hlt,hq⟩:=Af (ops:=ops) (s:=s) (q:=q) (by rw[hr];simp)
    have:0<(List.range ops.size).countP (fun i=> !s.getD i false):=List.countP_pos_iff.2 ⟨q,by simpa using hlt,by simp only[hq J.ssz];rfl⟩
    omega
  obtain⟨pl',aj6,Pd',A',fr',h',ρ',hn,J'⟩:=J.norm hT
  exact⟨hr,J'.fin hdn hn hr⟩
 |m+1,pl,pend,Pd,A,fr,h,ρ,s,a,w,J,hm=>by
  obtain⟨pl',aj6,Pd',A',fr',h',ρ',hn,J'⟩:=J.norm hT
  refine⟨fun hr=>J'.fin hdn hn hr,fun j hj=> ?_⟩
  obtain⟨hlt,hsj⟩:=Af hj
  have hsj:=hsj J.ssz
  have hjs:j<s.size:=by rw[J.ssz];exact hlt
  have hcnt:(List.range ops.size).countP (fun i=> !(s.setIfInBounds j true).getD i false)<=m:=by
   have:=cnt_lt (p:=fun i=> !(s.setIfInBounds j true).getD i false) (q:=fun i=> !s.getD i false) (x:=j) (List.range ops.size) (fun y _ hy=>by
    simp only[kS hjs,Bool.not_eq_true',Bool.or_eq_false_iff]at hy ⊢;exact hy.2) (by simpa using hlt) (by simp only[hsj];rfl) (by simp only[kS hjs,Nat.beq_refl];rfl)
   omega
  by_cases hjp:j∈Pd'
  ·exact wpOp_mono (fun a' w' J2=>Qc hT hc hdn m J2 hcnt) (J'.done hjp hj)
  ·exact wpOp_mono (fun a' w' ⟨_,_,_,_,_,_,_,J2⟩=>Qc hT hc hdn m J2 hcnt) (J'.act hT hc hj hjp hn)
theorem apI(hT:tt.ok P)(hc:WOk P call)(hm:P.follows .mixedOrders=true){id:Nat}{pl:Pl}(hok:(ZQ ops pl [] (Array.replicate ops.size false)&&qU ops)=true){fr:Fr}{h:Heap}{Q:Exit->Fr->Heap->Prop}
  (hv:vPl call tt n ops pl fr h (Q .normal)):AWp P k n (.region id ops true) (fun e fr' h'=>(∀t,(∀i,jQ ops i≠some t)->look fr' t=look fr t)/\Q e fr' h') fr h:=by
 intro ρ T w a hs
 simp only[aI]at hok
 have hs':St k n ρ T fr h a w.drew:=⟨hs.le,hs.rel.drew,hs.fr⟩
 have hz: ∀i,(Array.replicate ops.size false).getD i false=false:=fun i=>by
  by_cases h:i<ops.size<;>simp[h]
 have J:JS P tt call n ops fr k (Q .normal) ρ T w.drew pl [] [] (Array.replicate ops.size false) fr h ρ (Array.replicate ops.size false) a w.drew:=
  ⟨hok.1,by simp,by simp,(fun i hi=>by cases hi),(fun i hi=>by cases hi),(fun i hi=>by cases hi),(fun i=>by rw[hz];simp),(fun i j hi _=>by rw[hz]at hi;cases hi),(fun i j hi _=>by rw[hz]at hi;cases hi),(fun _ _=>rfl),Keeps.refl _ _,hs.le,hs'.rel,hs'.fr,(fun p hp=>by cases hp),hv,(fun _ _=>rfl)⟩
 have:=wp_region_any (id:=id) (Q:=Zr k n ρ T w.drew (fun fr' h=>(∀t,(∀i,jQ ops i≠some t)->look fr' t=look fr t)/\Q .normal fr' h)) hm (Qc hT hc hok.2 ops.size J (Nat.le_trans List.countP_le_length (by simp)))
 refine wp_mono this fun e a' w' hh=> ?_
 cases e<;>first|exact After.trans (fun _ _=>rfl) (Keeps.drew T w) hh|exact hh.elim
end
abbrev Tau:=List (Nat×Nat)
def tau:Tau->Nat->Nat
 |[],i=>i
 |(a,b)::r,i=>bif Nat.beq a i then b else tau r i
def Qd(i j:Nat)(τ:Tau):Tau:=bif Nat.beq (tau τ i) j then τ else(i,j)::τ
def Vu:Value->Bool
 | .slice none 0 0=>true
 |_=>false
theorem aj7{v:Value}(h:Vu v=true):v= .slice none 0 0:=by
 unfold Vu at h;split at h
 ·rfl
 ·cases h
def ghN(i:Nat):Nat:=100000+i
mutual
def matV:AV->AV->Tau->Tau
 | .ptr i _,.ptr j _,τ=>Qd i j τ
 | .sl i _ _ _,.sl j _ _ _,τ=>Qd i j τ
 | .slU i _ _ _,.slU j _ _ _,τ=>Qd i j τ
 | .qE i _ _ _,.qE j _ _ _,τ=>Qd i j τ
 | .slE i _ _ _ _,.slE j _ _ _ _,τ=>Qd i j τ
 | .slW i _ _ _,.slW j _ _ _,τ=>Qd i j τ
 | .slR i _ _ _,.slR j _ _ _,τ=>Qd i j τ
 | .slR i _ _ _,.slE j _ _ _ _,τ=>Qd i j τ
 | .slR i _ _ _,.slW j _ _ _,τ=>Qd i j τ
 | .slR i _ _ _,.slZ _ j _ _ _,τ=>Qd i j τ
 | .slW i _ _ _,.sl j _ _ _,τ=>Qd i j τ
 | .slZ _ i _ _ _,.slZ _ j _ _ _,τ=>Qd i j τ
 | .slZ _ i _ _ _,.slE j _ _ _ _,τ=>Qd i j τ
 | .slZ _ i _ _ _,.slW j _ _ _,τ=>Qd i j τ
 | .slV _ i _ _,.slV _ j _ _,τ=>Qd i j τ
 | .slV _ i _ _,.slW j _ _ _,τ=>Qd i j τ
 | .slR i _ _ _,.slV _ j _ _,τ=>Qd i j τ
 | .slV _ i _ _,.lit v,τ=>bif Vu v then Qd i (ghN i) τ else τ
 | .ifc _ a,.ifc _ b,τ=>matV a b τ
 | .mp i,.mp j,τ=>Qd i j τ
 | .agg l,.agg m,τ=>agY l m τ
 | .tup l,.tup m,τ=>agY l m τ
 | .fn _ a b,.fn _ a' b',τ=>agY b b' (agY a a' τ)
 |_,_,τ=>τ
def agY:List AV->List AV->Tau->Tau
 |a::l,b::m,τ=>agY l m (matV a b τ)
 |_,_,τ=>τ
end
def att:Value->Value->Prop
 | .int k a,.int k' b=>if k=k' then a=b else False
 | .bool a,.bool b=>a=b
 | .string a,.string b=>a=b
 |a,b=>a=b
theorem apJ{a b:Value}(h:att a b):a=b:=by
 unfold att at h
 split at h
 ·split at h
  ·rename_i hk;rw[hk,h]
  ·exact h.elim
 ·rw[h]
 ·rw[h]
 ·exact h
mutual
def eqV(τ:Tau):AV->AV->Prop
 | .any,_=>True
 | .one,b=>bif oneCell b then True else False
 | .arr n g,.arr n' g'=>n=n'/\ ∀q,q<n->g q=g' q
 | .lit a,.lit b=>att a b
 | .ptr i o,.ptr j p=>bif Nat.beq (tau τ i) j then o=p else False
 | .sl i o n c,.sl j p n' c'=>bif Nat.beq (tau τ i) j then(o=p/\n=n'/\c=c')else False
 | .slU i o n s,.slU j p n' s'=>bif Nat.beq (tau τ i) j then(o=p/\n=n'/\s=s')else False
 | .qE i k m o,.qE j k' m' p=>bif Nat.beq (tau τ i) j&&Nat.beq m m' then(k=k'/\o=p)else False
 | .slE i k m n c,.slE j k' m' n' c'=>bif Nat.beq (tau τ i) j&&Nat.beq m m' then(k=k'/\n=n'/\c=c')else False
 | .slW i k m n,.slW j k' m' n'=>bif Nat.beq (tau τ i) j&&Nat.beq m m' then(k=k'/\n=n')else False
 | .slW i _ _ n,.sl j _ n' c'=>bif Nat.beq (tau τ i) j then(n=0/\n'=0/\c'=0)else False
 | .slR i k m n,.slR j k' m' n'=>bif Nat.beq (tau τ i) j&&Nat.beq m m' then(k=k'/\n=n')else False
 | .slR i k m n,.slE j k' m' n' _=>bif Nat.beq (tau τ i) j&&Nat.beq m m' then(k=k'/\n=n')else False
 | .slR i k m n,.slW j k' m' n'=>bif Nat.beq (tau τ i) j&&Nat.beq m m' then(k=k'/\n=n')else False
 | .slR i k m n,.slZ _ j k' m' n'=>bif Nat.beq (tau τ i) j&&Nat.beq m m' then(k=k'/\n=n')else False
 | .slZ z i k m n,.slZ z' j k' m' n'=>bif Nat.beq (tau τ i) j&&Nat.beq m m' then(z=z'/\k=k'/\n=n')else False
 | .slZ z i k m n,.slE j k' m' n' _=>bif Nat.beq (tau τ i) j&&Nat.beq m m' then(z=false/\k=k'/\n=n')else False
 | .slZ z i k m n,.slW j k' m' n'=>bif Nat.beq (tau τ i) j&&Nat.beq m m' then(z=false/\k=k'/\n=n')else False
 | .slR i k m n,.slV _ j m' n'=>bif Nat.beq (tau τ i) j&&Nat.beq m m' then(k=0/\n=n')else False
 | .slV z i m n,.slV z' j m' n'=>bif Nat.beq (tau τ i) j&&Nat.beq m m' then(z=z'/\n=n')else False
 | .slV z i m n,.slW j k' m' n'=>bif Nat.beq (tau τ i) j&&Nat.beq m m'&&Nat.beq k' 0 then(z=false/\n=n')else False
 | .slV z _ _ n,.lit v=>bif Vu v then(z=true/\n=0)else False
 | .ifc t a,.ifc t' b=>t=t'/\eqV τ a b
 | .mp i,.mp j=>bif Nat.beq (tau τ i) j then True else False
 | .agg l,.agg m=>eqL τ l m
 | .tup l,.tup m=>eqL τ l m
 | .fn f a b,.fn g a' b'=>f=g/\eqL τ a a'/\eqL τ b b'
 |_,_=>False
def eqL(τ:Tau):List AV->List AV->Prop
 |[],[]=>True
 |a::l,b::m=>eqV τ a b/\eqL τ l m
 |_,_=>False
end
mutual
theorem MZ{τ:Tau}{ρ ρ0:Ren}{N:Nat}(hρ: ∀i,i<N->ρ0 i=ρ (tau τ i)): ∀(a b:AV) (u:Value),eF N a=true->eqV τ a b->bV ρ b u->bV ρ0 a u
 | .any,_,_,_,_,_=>by simp only[bV]
 | .one,b,u,_,h,hb=>by
  simp only[eqV]at h
  cases hc:oneCell b with
  |false=>rw[hc]at h;exact h.elim
  |true=>simp only[bV];exact uN hc hb
 | .arr n g,b,u,_,h,hb=>by
  cases b<;>simp only[eqV]at h
  obtain⟨rfl,h⟩:=h
  simp only[bV]at hb ⊢
  obtain⟨A,h1,h2,h3⟩:=hb
  exact⟨A,h1,h2,fun k u hk hu=>h3 k u hk (by rw[<-h k hk];exact hu)⟩
 | .lit x,b,u,_,h,hb=>by
  cases b<;>simp only[eqV]at h
  have:=apJ h;subst this
  simpa only[bV]using hb
 | .ptr i o,b,u,hn,h,hb=>by
  cases b<;>simp only[eqV]at h
  rename_i j p
  cases hh:Nat.beq (tau τ i) j<;>rw[hh]at h
  ·exact h.elim
  ·simp only[aO]at h;subst h
   simp only[eF]at hn
   simp only[bV]at hb ⊢
   rw[hρ i (bW.1 hn),ak hh];exact hb
 | .sl i o n c,b,u,hn,h,hb=>by
  cases b<;>simp only[eqV]at h
  rename_i j p n' c'
  cases hh:Nat.beq (tau τ i) j<;>rw[hh]at h
  ·exact h.elim
  ·simp only[aO]at h;obtain⟨rfl,rfl,rfl⟩:=h
   simp only[eF]at hn
   simp only[bV]at hb ⊢
   rw[hρ i (bW.1 hn),ak hh];exact hb
 | .slU i o n c,b,u,hn,h,hb=>by
  cases b<;>simp only[eqV]at h
  rename_i j p n' c'
  cases hh:Nat.beq (tau τ i) j<;>rw[hh]at h
  ·exact h.elim
  ·simp only[aO]at h;obtain⟨rfl,rfl,rfl⟩:=h
   simp only[eF]at hn
   simp only[bV]at hb ⊢
   rw[hρ i (bW.1 hn),ak hh];exact hb
 | .qE i k m o,b,u,hn,h,hb=>by
  cases b<;>simp only[eqV]at h
  rename_i j k' m' p
  cases hh:(Nat.beq (tau τ i) j&&Nat.beq m m')<;>rw[hh]at h
  ·exact h.elim
  ·simp only[aI]at hh
   simp only[aO]at h;obtain⟨rfl,rfl⟩:=h
   have:=ak hh.2;subst this
   simp only[eF]at hn
   simp only[bV]at hb ⊢
   rw[hρ i (bW.1 hn),ak hh.1];exact hb
 | .slE i k m n c,b,u,hn,h,hb=>by
  cases b<;>simp only[eqV]at h
  rename_i j k' m' n' c'
  cases hh:(Nat.beq (tau τ i) j&&Nat.beq m m')<;>rw[hh]at h
  ·exact h.elim
  ·simp only[aI]at hh
   simp only[aO]at h;obtain⟨rfl,rfl,rfl⟩:=h
   have:=ak hh.2;subst this
   simp only[eF]at hn
   simp only[bV]at hb ⊢
   rw[hρ i (bW.1 hn),ak hh.1];exact hb
 | .slW i k m n,b,u,hn,h,hb=>by
  cases b<;>simp only[eqV]at h
  ·rename_i j o n' c'
   cases hh:Nat.beq (tau τ i) j<;>rw[hh]at h
   ·exact h.elim
   ·simp only[aO]at h
    obtain⟨rfl,rfl,rfl⟩:=h
    simp only[eF]at hn
    simp only[bV]at hb ⊢
    rw[hρ i (bW.1 hn),ak hh]
    obtain⟨a,h1,h2⟩:=hb
    exact⟨a,_,0,h1,h2,aX _,fun h=>(h rfl).elim⟩
  rename_i j k' m' n'
  cases hh:(Nat.beq (tau τ i) j&&Nat.beq m m')<;>rw[hh]at h
  ·exact h.elim
  ·simp only[aI]at hh
   simp only[aO]at h;obtain⟨rfl,rfl⟩:=h
   have:=ak hh.2;subst this
   simp only[eF]at hn
   simp only[bV]at hb ⊢
   rw[hρ i (bW.1 hn),ak hh.1];exact hb
 | .slR i k m n,b,u,hn,h,hb=>by
  simp only[eF]at hn
  cases b<;>simp only[eqV]at h
  ·rename_i j k' m' n' c'
   cases hh:(Nat.beq (tau τ i) j&&Nat.beq m m')<;>rw[hh]at h
   ·exact h.elim
   ·simp only[aI]at hh
    simp only[aO]at h;obtain⟨rfl,rfl⟩:=h
    have:=ak hh.2;subst this
    simp only[bV]at hb ⊢
    rw[hρ i (bW.1 hn),ak hh.1]
    obtain⟨a,p,h1,h2,h3,h4⟩:=hb
    exact .inr ⟨a,p,c',h1,h2,h3,fun hn=>h4 (by omega)⟩
  ·rename_i j k' m' n'
   cases hh:(Nat.beq (tau τ i) j&&Nat.beq m m')<;>rw[hh]at h
   ·exact h.elim
   ·simp only[aI]at hh
    simp only[aO]at h;obtain⟨rfl,rfl⟩:=h
    have:=ak hh.2;subst this
    simp only[bV]at hb ⊢
    rw[hρ i (bW.1 hn),ak hh.1]
    obtain⟨a,p,c,h1,h2,h3,h4⟩:=hb
    exact .inr ⟨a,p,c,h1,h2,h3,fun hn=>(h4 (by omega)).1⟩
  ·rename_i j k' m' n'
   cases hh:(Nat.beq (tau τ i) j&&Nat.beq m m')<;>rw[hh]at h
   ·exact h.elim
   ·simp only[aI]at hh
    simp only[aO]at h;obtain⟨rfl,rfl⟩:=h
    have:=ak hh.2;subst this
    simp only[bV]at hb ⊢
    rw[hρ i (bW.1 hn),ak hh.1];exact hb
  ·rename_i z j k' m' n'
   cases hh:(Nat.beq (tau τ i) j&&Nat.beq m m')<;>rw[hh]at h
   ·exact h.elim
   ·simp only[aI]at hh
    simp only[aO]at h;obtain⟨rfl,rfl⟩:=h
    have:=ak hh.2;subst this
    simp only[bV]at hb ⊢
    rw[hρ i (bW.1 hn),ak hh.1]
    rcases hb with ⟨_,h1,h2⟩|⟨_,h1⟩
    ·exact .inl ⟨h1,h2⟩
    ·exact .inr h1
  ·rename_i z j m' n'
   cases hh:(Nat.beq (tau τ i) j&&Nat.beq m m')<;>rw[hh]at h
   ·exact h.elim
   ·simp only[aI]at hh
    simp only[aO]at h;obtain⟨rfl,rfl⟩:=h
    have:=ak hh.2;subst this
    simp only[bV]at hb ⊢
    rw[hρ i (bW.1 hn),ak hh.1]
    rcases hb with ⟨_,h1,h2⟩|⟨_,a,p,c,h1,h2,h3,h4⟩
    ·exact .inl ⟨h1,h2⟩
    ·exact .inr ⟨a,p,c,h1,h2,h3,fun hn=>by rw[Nat.zero_mul,aH];exact(h4 (by omega)).1⟩
 | .slV z i m n,b,u,hn,h,hb=>by
  simp only[eF]at hn
  cases b<;>simp only[eqV]at h
  ·rename_i v
   cases hh:Vu v<;>rw[hh]at h
   ·exact h.elim
   ·have:=aj7 hh;subst this
    simp only[aO]at h;obtain⟨rfl,rfl⟩:=h
    simp only[bV]at hb ⊢
    exact .inl ⟨trivial,trivial,hb⟩
  ·rename_i j k' m' n'
   cases hh:(Nat.beq (tau τ i) j&&Nat.beq m m'&&Nat.beq k' 0)<;>rw[hh]at h
   ·exact h.elim
   ·simp only[aI]at hh
    simp only[aO]at h;obtain⟨rfl,rfl⟩:=h
    have:=ak hh.1.2;subst this
    have:=ak hh.2;subst this
    simp only[bV]at hb ⊢
    rw[hρ i (bW.1 hn),ak hh.1.1]
    obtain⟨a,p,c,h1,h2,h3,h4⟩:=hb
    exact .inr ⟨trivial,a,p,c,h1,h2,h3,fun hn=>by have:=h4 hn;rw[Nat.zero_mul,aH,ay]at this;exact this⟩
  ·rename_i z' j m' n'
   cases hh:(Nat.beq (tau τ i) j&&Nat.beq m m')<;>rw[hh]at h
   ·exact h.elim
   ·simp only[aI]at hh
    simp only[aO]at h;obtain⟨rfl,rfl⟩:=h
    have:=ak hh.2;subst this
    simp only[bV]at hb ⊢
    rw[hρ i (bW.1 hn),ak hh.1]
    exact hb
 | .slZ z i k m n,b,u,hn,h,hb=>by
  simp only[eF]at hn
  cases b<;>simp only[eqV]at h
  ·rename_i j k' m' n' c'
   cases hh:(Nat.beq (tau τ i) j&&Nat.beq m m')<;>rw[hh]at h
   ·exact h.elim
   ·simp only[aI]at hh
    simp only[aO]at h;obtain⟨rfl,rfl,rfl⟩:=h
    have:=ak hh.2;subst this
    simp only[bV]at hb ⊢
    rw[hρ i (bW.1 hn),ak hh.1]
    obtain⟨a,p,h1,h2,h3,h4⟩:=hb
    exact .inr ⟨trivial,a,p,c',h1,h2,h3,fun hn=>h4 (by omega)⟩
  ·rename_i j k' m' n'
   cases hh:(Nat.beq (tau τ i) j&&Nat.beq m m')<;>rw[hh]at h
   ·exact h.elim
   ·simp only[aI]at hh
    simp only[aO]at h;obtain⟨rfl,rfl,rfl⟩:=h
    have:=ak hh.2;subst this
    simp only[bV]at hb ⊢
    rw[hρ i (bW.1 hn),ak hh.1]
    obtain⟨a,p,c,h1,h2,h3,h4⟩:=hb
    exact .inr ⟨trivial,a,p,c,h1,h2,h3,fun hn=>(h4 (by omega)).1⟩
  ·rename_i z' j k' m' n'
   cases hh:(Nat.beq (tau τ i) j&&Nat.beq m m')<;>rw[hh]at h
   ·exact h.elim
   ·simp only[aI]at hh
    simp only[aO]at h;obtain⟨rfl,rfl,rfl⟩:=h
    have:=ak hh.2;subst this
    simp only[bV]at hb ⊢
    rw[hρ i (bW.1 hn),ak hh.1]
    exact hb
 | .mp i,b,u,hn,h,hb=>by
  cases b<;>simp only[eqV]at h
  rename_i j
  cases hh:Nat.beq (tau τ i) j<;>rw[hh]at h
  ·exact h.elim
  ·simp only[eF]at hn
   simp only[bV]at hb ⊢
   rw[hρ i (bW.1 hn),ak hh];exact hb
 | .agg l,b,u,hn,h,hb=>by
  cases b<;>simp only[eqV]at h
  simp only[eF]at hn
  simp only[bV]at hb ⊢
  obtain⟨vs,hv,hl⟩:=hb
  exact⟨vs,hv,Na hρ _ _ _ hn h hl⟩
 | .tup l,b,u,hn,h,hb=>by
  cases b<;>simp only[eqV]at h
  simp only[eF]at hn
  simp only[bV]at hb ⊢
  obtain⟨vs,hv,hl⟩:=hb
  exact⟨vs,hv,Na hρ _ _ _ hn h hl⟩
 | .fn f x y,b,u,hn,h,hb=>by
  cases b<;>simp only[eqV]at h
  simp only[eF,aI]at hn
  simp only[bV]at hb ⊢
  obtain⟨rfl,h1,h2⟩:=h
  obtain⟨p,q,hv,l1,l2⟩:=hb
  exact⟨p,q,hv,Na hρ _ _ _ hn.1 h1 l1,Na hρ _ _ _ hn.2 h2 l2⟩
 | .ifc t x,b,u,hn,h,hb=>by
  cases b<;>simp only[eqV]at h
  obtain⟨rfl,h⟩:=h
  simp only[eF]at hn
  simp only[bV]at hb ⊢
  obtain⟨y,h1,h2⟩:=hb
  exact⟨y,h1,MZ hρ _ _ _ hn h h2⟩
theorem Na{τ:Tau}{ρ ρ0:Ren}{N:Nat}(hρ: ∀i,i<N->ρ0 i=ρ (tau τ i)): ∀(a b:List AV) (u:List Value),iQ N a=true->eqL τ a b->eP ρ b u->eP ρ0 a u
 |[],[],u,_,_,hb=>by simpa[eP]using hb
 |x::a,y::b,u,hn,h,hb=>by
  simp only[iQ,aI]at hn
  simp only[eqL]at h
  simp only[eP]at hb ⊢
  obtain⟨v,vs,rfl,h1,h2⟩:=hb
  exact⟨v,vs,rfl,MZ hρ _ _ _ hn.1 h.1 h1,Na hρ _ _ _ hn.2 h.2 h2⟩
 |[],_::_,_,_,h,_=>by simp only[eqL]at h
 |_::_,[],_,_,h,_=>by simp only[eqL]at h
end
def eqC(τ:Tau):Cs->Cs->Prop
 | .av l,.av m=>eqL τ l m
 | .raw l,.raw m=>l=m
 | .row m n g wr,.row m' n' g' wr'=>bif Nat.beq m m' then(n=n'/\ ∀q,q<n->Cs.eff g wr q=Cs.eff g' wr' q)else bif Nat.beq m 1 then(n=n'*m'/\ ∀q j,q<n'->j<m'-> ∃v,(Cs.eff g' wr' q)[j]? =some v/\Cs.eff g wr (q*m'+j)=[v])else False
 | .row m n g wr,.av l=>match qc l with
  |some vs=>vs.length=n*m/\ ∀q,q<n->Cs.eff g wr q=(vs.drop (q*m)).take m
  |none=>False
 | .cat a b,.cat a' b'=>eqC τ a a'/\eqC τ b b'
 |_,_=>False
theorem aj8{τ:Tau}{c d:Cs}(h:eqC τ c d)(hn: ∀x y,c≠ .cat x y):c.size=d.size:=by
 have len: ∀(l m:List AV),eqL τ l m->l.length=m.length:=by
  intro l
  induction l with
  |nil=>intro m h;cases m<;>simp_all[eqL]
  |cons a l ih=>intro m h;cases m with
   |nil=>simp[eqL]at h
   |cons b m=>simp only[eqL]at h;simp[ih m h.2]
 unfold eqC at h
 split at h
 ·exact len _ _ h
 ·rw[h]
 ·rename_i m n g wr m' n' g' wr'
  cases hb:Nat.beq m m'<;>rw[hb]at h
  ·simp only[aP]at h
   cases hb1:Nat.beq m 1<;>rw[hb1]at h
   ·exact h.elim
   ·have:=ak hb1;subst this
    simp only[aO]at h
    simp[Cs.size,h.1]
  ·simp only[aO]at h
   have:=ak hb;subst this
   simp[Cs.size,h.1]
 ·split at h
  ·rename_i vs hvs
   have:=iD hvs;subst this
   simp[Cs.size,h.1]
  ·exact h.elim
 ·exact(hn _ _ rfl).elim
 ·exact h.elim
theorem lI{τ:Tau}: ∀{c d:Cs},eqC τ c d->c.size=d.size:=by
 intro c
 induction c with
 |cat x y ihx ihy=>
  intro d h
  cases d with
  |cat x' y'=>simp only[eqC]at h;simp only[Cs.size,ihx h.1,ihy h.2]
  |_=>simp[eqC]at h
 |_=>intro d h;exact aj8 h (fun _ _ hh=>by cases hh)
theorem awo{τ:Tau}{ρ ρ0:Ren}{N:Nat}(hρ: ∀i,i<N->ρ0 i=ρ (tau τ i)){l m:List AV}(hn:iQ N l=true)(h:eqL τ l m){arr:Array Value}{b:Nat}(hc:iq ρ (.av m) arr b):iq ρ0 (.av l) arr b:=by
 have get: ∀(l m:List AV) (k:Nat) (v:AV),iQ N l=true->eqL τ l m->l[k]? =some v-> ∃w,m[k]? =some w/\eqV τ v w/\eF N v=true:=by
  intro l
  induction l with
  |nil=>intro m k v _ _ h;simp at h
  |cons a l ih=>intro m k v hn h hk;cases m with
   |nil=>simp[eqL]at h
   |cons y m=>
    simp only[eqL]at h
    simp only[iQ,aI]at hn
    cases k with
    |zero=>simp at hk;subst hk;exact⟨y,rfl,h.1,hn.1⟩
    |succ k=>simpa using ih m k v hn.2 h.2 (by simpa using hk)
 intro k v hk
 obtain⟨w,hw,he,hb⟩:=get l m k v hn h hk
 obtain⟨u,hu,hr⟩:=hc k w hw
 exact⟨u,hu,MZ hρ _ _ _ hb he hr⟩
theorem aj9{τ:Tau}: ∀{l m:List AV},eqL τ l m->l.length=m.length
 |[],[],_=>rfl
 |a::l,b::m,h=>by simp only[eqL]at h;simp[aj9 h.2]
 |[],_::_,h=>by simp only[eqL]at h
 |_::_,[],h=>by simp only[eqL]at h
theorem atu{τ:Tau}{ρ ρ0:Ren}{N:Nat}(hρ: ∀i,i<N->ρ0 i=ρ (tau τ i)){c d:Cs}(hn:lF N c=true)(h:eqC τ c d)(hnc: ∀x y,c≠ .cat x y){arr:Array Value}{b:Nat}(hsz:b+d.size<=arr.size)(hc:iq ρ d arr b):iq ρ0 c arr b:=by
 unfold eqC at h
 split at h
 ·rename_i l m
  have get: ∀(l m:List AV) (k:Nat) (v:AV),iQ N l=true->eqL τ l m->l[k]? =some v-> ∃w,m[k]? =some w/\eqV τ v w/\eF N v=true:=by
   intro l
   induction l with
   |nil=>intro m k v _ _ h;simp at h
   |cons a l ih=>intro m k v hn h hk;cases m with
    |nil=>simp[eqL]at h
    |cons y m=>
     simp only[eqL]at h
     simp only[iQ,aI]at hn
     cases k with
     |zero=>simp at hk;subst hk;exact⟨y,rfl,h.1,hn.1⟩
     |succ k=>simpa using ih m k v hn.2 h.2 (by simpa using hk)
  intro k v hk
  obtain⟨w,hw,he,hb⟩:=get l m k v hn h hk
  obtain⟨u,hu,hr⟩:=hc k w hw
  exact⟨u,hu,MZ hρ _ _ _ hb he hr⟩
 ·subst h
  intro k v hk
  obtain⟨u,hu,hr⟩:=hc k v hk
  simp only[Cs.get]at hk
  split at hk
  ·cases hk;exact⟨u,hu,by simpa only[bV]using hr⟩
  ·cases hk
 ·rename_i m n g wr m' n' g' wr'
  cases hb:Nat.beq m m'<;>rw[hb]at h
  ·simp only[aP]at h
   cases hb1:Nat.beq m 1<;>rw[hb1]at h
   ·exact h.elim
   ·have:=ak hb1;subst this
    simp only[aO]at h
    obtain⟨rfl,h⟩:=h
    intro k v hk
    have hlt:=Cs.fB hk
    simp only[Cs.size,Nat.mul_one]at hlt
    have hm:0<m':=Nat.pos_of_ne_zero fun h0=>by rw[h0]at hlt;simp at hlt
    have hq:k/m'<n':=Nat.div_lt_of_lt_mul (by rw[Nat.mul_comm];exact hlt)
    obtain⟨y,h1,h2⟩:=h (k/m') (k%m') hq (Nat.mod_lt _ hm)
    rw[Nat.div_add_mod']at h2
    simp only[Cs.get,bW.2 (show k<n'*m'*1 by omega),aO,Nat.div_one,Nat.mod_one,h2,ah]at hk
    cases hk
    obtain⟨u,hu,hr⟩:=hc k (.lit y) (by simp only[Cs.get,bW.2 hlt,aO,h1])
    exact⟨u,hu,by simpa only[bV]using hr⟩
  ·simp only[aO]at h
   have:=ak hb;subst this
   obtain⟨rfl,h⟩:=h
   intro k v hk
   have hlt:=Cs.fB hk
   simp only[Cs.size]at hlt
   have hq:k/m<n:=Nat.div_lt_of_lt_mul (by rw[Nat.mul_comm];exact hlt)
   simp only[Cs.get,bW.2 hlt,aO,h _ hq]at hk
   obtain⟨u,hu,hr⟩:=hc k v (by simp only[Cs.get,bW.2 hlt,aO];exact hk)
   refine⟨u,hu,?_⟩
   split at hk
   ·cases hk;simpa only[bV]using hr
   ·cases hk;simp only[bV]
 ·rename_i m n g wr l
  split at h
  ·rename_i vs hvs
   have:=iD hvs;subst this
   obtain⟨hl,h⟩:=h
   intro k v hk
   have hlt:=Cs.fB hk
   simp only[Cs.size]at hlt
   have hq:k/m<n:=Nat.div_lt_of_lt_mul (by rw[Nat.mul_comm];exact hlt)
   have hm:0<m:=Nat.pos_of_ne_zero fun h0=>by rw[h0]at hlt;simp at hlt
   simp only[Cs.get,bW.2 hlt,aO,h _ hq]at hk
   rw[List.getElem?_take,if_pos (Nat.mod_lt _ hm),List.getElem?_drop,Nat.div_add_mod']at hk
   rw[List.getElem?_eq_getElem (by omega)]at hk
   cases hk
   obtain⟨u,hu,hr⟩:=hc k (.lit vs[k]) (by simp only[Cs.get,List.getElem?_map];rw[List.getElem?_eq_getElem (by omega)];rfl)
   exact⟨u,hu,by simpa only[bV]using hr⟩
  ·exact h.elim
 ·exact(hnc _ _ rfl).elim
 ·exact h.elim
theorem Nb{τ:Tau}{ρ ρ0:Ren}{N:Nat}(hρ: ∀i,i<N->ρ0 i=ρ (tau τ i)): ∀{c d:Cs},lF N c=true->eqC τ c d-> ∀{arr:Array Value} {b:Nat},b+d.size<=arr.size->iq ρ d arr b->iq ρ0 c arr b:=by
 intro c
 induction c with
 |cat x y ihx ihy=>
  intro d hn h arr b hsz hc
  cases d with
  |cat x' y'=>
   simp only[eqC]at h
   simp only[lF,aI]at hn
   simp only[Cs.size]at hsz
   rw[zX]at hc ⊢
   have hx:=lI h.1
   exact⟨ihx hn.1 h.1 (by omega) hc.1,by rw[hx];exact ihy hn.2 h.2 (by omega) hc.2⟩
  |_=>simp[eqC]at h
 |_=>intro d hn h arr b hsz hc;exact atu hρ hn h (fun _ _ hh=>by cases hh) hsz hc
def ZR:List (AV×AV×Nat)->List (AV×AV×Nat)->Bool
 |[],[]=>true
 |(.lit (.int k a),.fn (.func f) [] [],b)::l,(.lit (.int k' a'),.fn (.func f') [] [],b')::l'=>decide (k=k')&&decide (a=a')&&Nat.beq f f'&&Nat.beq b b'&&ZR l l'
 |_,_=>false
theorem ado: ∀{l l':List (AV×AV×Nat)},ZR l l'=true->l=l'/\(l.all fun x=>eF 0 x.1&&eF 0 x.2.1)=true
 |[],[],_=>⟨rfl,rfl⟩
 |[],_::_,h=>by simp[ZR]at h
 |x::l,[],h=>by simp[ZR]at h
 |x::l,y::l',h=>by
  unfold ZR at h
  split at h
  ·rename_i heq _;cases heq
  ·rename_i k a f b l1 k' a' f' b' l2 e1 e2
   cases e1;cases e2
   simp only[aI,decide_eq_true_eq]at h
   obtain⟨⟨⟨⟨rfl,rfl⟩,hf⟩,hb⟩,hl⟩:=h
   have:=ak hf;subst this
   have:=ak hb;subst this
   obtain⟨rfl,h2⟩:=ado hl
   exact⟨rfl,by simp only[List.all_cons,h2];rfl⟩
  ·cases h
def CU:List (Option AV)->Option (List AV)
 |[]=>some []
 |some v::r=>match CU r with
  |some l=>some (v::l)
  |none=>none
 |none::_=>none
theorem Ej: ∀{l:List (Option AV)} {m:List AV},CU l=some m->l=m.map some
 |[],m,h=>by simp[CU]at h;simp[<-h]
 |some v::r,m,h=>by
  unfold CU at h
  split at h
  ·rename_i l hl;cases h;rw[Ej hl];rfl
  ·cases h
 |none::r,m,h=>by simp[CU]at h
def untr(c d:Cs):Cs:=match c,d with
 | .row ..,.tr n z t=>match CU ((List.range n).map (Cs.tr n z t).get)with
  |some l=> .av l
  |none=>d
 |_,_=>d
theorem Qe(c d:Cs):(untr c d).size=d.size/\ ∀{ρ:Ren} {arr:Array Value} {b:Nat},iq ρ d arr b->iq ρ (untr c d) arr b:=by
 unfold untr
 split
 ·rename_i m n' g wr n z t
  split
  ·rename_i l hl
   have hl:=Ej hl
   have hlen:l.length=n:=by
    have:=congrArg List.length hl
    simpa using this.symm
   refine⟨by simp[Cs.size,hlen],fun{ρ arr b} h k v hk=> ?_⟩
   simp only[Cs.get]at hk
   refine h k v ?_
   have e:=congrArg (fun x=>x[k]?) hl
   have hkn:k<n:=by rw[<-hlen];exact(List.getElem?_eq_some_iff.1 hk).1
   simp only[List.getElem?_map,hk,Option.map_some,List.getElem?_range hkn,aj]at e
   exact e
  ·exact⟨rfl,fun h=>h⟩
 ·exact⟨rfl,fun h=>h⟩
def eqO(τ:Tau):dw->Option dw->Prop
 | .cells e c,some (.cells e' c')=>bif Nat.beq e e' then eqC τ c (untr c c')else False
 | .room e c,some (.room e' c')=>bif Nat.beq e e' then eqC τ c c' else False
 | .room e c,some (.cells e' c')=>bif Nat.beq e e' then eqC τ c c' else False
 | .ro (.av l),some (.ro (.av m))=>eqL τ l m
 | .ro c,some (.ro c')=>c=c'/\lF 0 c=true
 | .map es cl,some (.map es' cl')=>bif ZR es es'&&Nat.beq cl cl' then True else(es=es'/\cl=cl'/\(es.all fun x=>eF 0 x.1&&eF 0 x.2.1)=true)
 | .mM z e c,some (.mM z' e' c')=>bif Nat.beq e e' then(z=z'/\eqC τ c c')else False
 | .mM z e c,some (.room e' c')=>bif Nat.beq e e' then(z=false/\eqC τ c c')else False
 | .yH n g cl,some (.yH n' g' cl')=>n=n'/\cl=cl'/\ ∀j,j<n->g j=g' j
 | .yH n _ cl,some (.map [] cl')=>n=0/\cl=cl'
 | .iter (some i) s l t,some (.iter (some j) s' l' t')=>bif Nat.beq (tau τ i) j then(s=s'/\l=l'/\t=t')else False
 | .abs A,some (.abs B)=>A=B
 |_,_=>False
theorem Qg{v:AV}(h:eF 0 v=true){ρ ρ0:Ren}{u:Value}(hv:bV ρ v u):bV ρ0 v u:=by
 have h1:=bV.jX (τ:=id) (ρ:=ρ) (ρ':=ρ) (fun i a h=>h) v u hv
 have e: ∀v,jX id v=v:=by
  intro v
  exact(Qh v)
 rw[e]at h1
 exact bV.Zt (τ:=id) (ρ':=ρ) (n:=0) (fun i hi=>absurd hi (Nat.not_lt_zero _)) v u h (by rw[e];exact hv)
where
 Qh: ∀v:AV,jX id v=v
  | .any| .lit _| .ptr .. | .sl .. | .slU .. | .qE .. | .slE .. | .slW .. | .slR .. | .slZ .. | .slV .. | .one| .arr .. | .mp _=>rfl
  | .agg l=>by simp only[jX,H9 l]
  | .tup l=>by simp only[jX,H9 l]
  | .fn f a b=>by simp only[jX,H9 a,H9 b]
  | .ifc t x=>by simp only[jX,Qh x]
 H9: ∀l:List AV,lmap id l=l
  |[]=>rfl
  |a::l=>by simp only[lmap,Qh a,H9 l]
theorem Qi{τ:Tau}{N:Nat}{o:dw}{x:Option dw}(hn:oN N o=true)(h:eqO τ o x): ∃o',x=some o'/\avH (tau τ) N o o':=by
 have low: ∀{c:Cs} {ρ ρ0:Ren} {arr:Array Value} {b:Nat},lF 0 c=true->iq ρ c arr b->iq ρ0 c arr b:=fun hc hr k v hk=>by
  obtain⟨u,hu,hv⟩:=hr k v hk
  exact⟨u,hu,Qg (CB hc hk) hv⟩
 unfold eqO at h
 split at h
 ·rename_i e c e' c'
  cases hb:Nat.beq e e'<;>rw[hb]at h
  ·exact h.elim
  ·simp only[aO]at h
   have:=ak hb;subst this
   refine⟨_,rfl,fun ρ ρ0 w T a S hρ ⟨h0,hS,arr,h1,h2,h3,h4⟩=>⟨h0,hS,arr,h1,by rw[lI h,(Qe _ _).1];exact h2,by rw[lI h,(Qe _ _).1];exact h3,Nb hρ hn h (by rw[(Qe _ _).1];omega) ((Qe _ _).2 h4)⟩⟩
 ·rename_i e c e' c'
  cases hb:Nat.beq e e'<;>rw[hb]at h
  ·exact h.elim
  ·simp only[aO]at h
   have:=ak hb;subst this
   refine⟨_,rfl,fun ρ ρ0 w T a S hρ ⟨h0,hS,arr,h1,h2,h3,h4⟩=>⟨h0,hS,arr,h1,h2,by rw[lI h];exact h3,Nb hρ hn h (by omega) h4⟩⟩
 ·rename_i e c e' c'
  cases hb:Nat.beq e e'<;>rw[hb]at h
  ·exact h.elim
  ·simp only[aO]at h
   have:=ak hb;subst this
   refine⟨_,rfl,fun ρ ρ0 w T a S hρ ⟨h0,hS,arr,h1,h2,h3,h4⟩=>⟨h0,hS,arr,h1,by omega,by rw[lI h];omega,Nb hρ hn h (by omega) h4⟩⟩
 ·rename_i l m
  refine⟨_,rfl,fun ρ ρ0 w T a S hρ ho=>ho.imp (fun h0=> ?_) fun⟨hT,arr,e,f,h1,h2⟩=>⟨hT,arr,e,f,h1,awo hρ hn h h2⟩⟩
  simp only[Cs.size]at h0 ⊢
  rw[aj9 h];exact h0
 ·obtain⟨rfl,hc⟩:=h
  exact⟨_,rfl,fun ρ ρ0 w T a S hρ ho=>ho.imp id fun⟨hT,arr,e,f,h1,h2⟩=>⟨hT,arr,e,f,h1,low hc h2⟩⟩
 ·rename_i es cl es' cl'
  have h:es=es'/\cl=cl'/\(es.all fun x=>eF 0 x.1&&eF 0 x.2.1)=true:=by
   cases hb:(ZR es es'&&Nat.beq cl cl')with
   |false=>rw[hb]at h;exact h
   |true=>
    simp only[aI]at hb
    obtain⟨h1,h2⟩:=ado hb.1
    exact⟨h1,ak hb.2,h2⟩
  obtain⟨rfl,rfl,hb⟩:=h
  refine⟨_,rfl,fun ρ ρ0 w T a S hρ ⟨hS,arr,h1,h2⟩=>⟨hS,arr,h1,?_⟩⟩
  have: ∀(es:List (AV×AV×Nat)) (l:List MapEntry),(es.all fun x=>eF 0 x.1&&eF 0 x.2.1)=true->lU ρ es l->lU ρ0 es l:=by
   intro es
   induction es with
   |nil=>intro l _ h;exact h
   |cons x es ih=>
    rintro l hb ⟨e,l',rfl,q1,q2,q3,q4⟩
    simp only[List.all_cons,aI]at hb
    exact⟨e,l',rfl,Qg hb.1.1 q1,Qg hb.1.2 q2,q3,ih l' hb.2 q4⟩
  exact this _ _ hb h2
 ·rename_i z e c z' e' c'
  cases hb:Nat.beq e e'<;>rw[hb]at h
  ·exact h.elim
  ·simp only[aO]at h
   have:=ak hb;subst this
   obtain⟨rfl,h⟩:=h
   refine⟨_,rfl,fun ρ ρ0 w T a S hρ ho=>ho.imp (fun⟨h1,h2⟩=>⟨h1,by rw[lI h];exact h2⟩) fun⟨hz,h0,hS,arr,h1,h2,h3,h4⟩=>⟨hz,h0,hS,arr,h1,h2,by rw[lI h];exact h3,Nb hρ hn h (by omega) h4⟩⟩
 ·rename_i z e c e' c'
  cases hb:Nat.beq e e'<;>rw[hb]at h
  ·exact h.elim
  ·simp only[aO]at h
   have:=ak hb;subst this
   obtain⟨rfl,h⟩:=h
   refine⟨_,rfl,fun ρ ρ0 w T a S hρ ⟨h0,hS,arr,h1,h2,h3,h4⟩=> .inr ⟨rfl,h0,hS,arr,h1,h2,by rw[lI h];exact h3,Nb hρ hn h (by omega) h4⟩⟩
 ·rename_i n g cl n' g' cl'
  obtain⟨rfl,rfl,hg⟩:=h
  exact⟨_,rfl,fun ρ ρ0 w T a S hρ ⟨hS,arr,h1,h2,h3⟩=>⟨hS,arr,h1,h2,fun j hj=>by rw[hg j hj];exact h3 j hj⟩⟩
 ·rename_i n g cl cl'
  obtain⟨rfl,rfl⟩:=h
  exact⟨_,rfl,fun ρ ρ0 w T a S hρ ⟨hS,arr,h1,h2⟩=>⟨hS,arr,h1,by simp only[lU]at h2;simpa using h2,fun j hj=>absurd hj (Nat.not_lt_zero _)⟩⟩
 ·rename_i i s l t j s' l' t'
  cases hb:Nat.beq (tau τ i) j<;>rw[hb]at h
  ·exact h.elim
  ·simp only[aO]at h
   obtain⟨rfl,rfl,rfl⟩:=h
   simp only[oN]at hn
   have hij:=ak hb
   exact⟨_,rfl,fun ρ ρ0 w T a S hρ ⟨h0,hS,mb,⟨b,hb1,hb2⟩,h2⟩=>⟨h0,hS,mb,⟨b,by rw[hρ i (bW.1 hn),hij];exact hb1,hb2⟩,h2⟩⟩
 ·subst h
  exact⟨_,rfl,fun ρ ρ0 w T a S hρ ho=>ho⟩
 ·exact h.elim
def noGh:List (Nat×dw)->Bool
 |[]=>true
 |(_,.mM ..)::_=>false
 |_::r=>noGh r
def Nc(m:HM):List (Nat×dw)->HM
 |[]=>m
 |(i,.mM _ e (.row w _ _ _))::r=>(ghN i,some (.mM true e (.row w 0 (fun _=>[]) [])))::Nc m r
 |_::r=>Nc m r
def ny(k:Nat)(h:Heap)(obs:List (Nat×dw)):Heap:=bif noGh obs|| !Nat.ble k h.next|| !Nat.ble h.next 100000|| !(obs.all fun p=>Nat.blt p.1 100000)then h else⟨200000,Nc h.m obs⟩
theorem qV{m:HM}: ∀{obs:List (Nat×dw)} {j:Nat} {o:dw},(obs.all fun p=>Nat.blt p.1 100000)=true->(Nc m obs).get j=some o->m.get j=some o\/(100000<=j/\j<200000/\ ∃e w,o= .mM true e (.row w 0 (fun _=>[]) []))
 |[],j,o,_,h=> .inl h
 |(i,x)::r,j,o,hb,h=>by
  simp only[List.all_cons,aI]at hb
  have hi:=bW.1 hb.1
  have skip:(Nc m r).get j=some o->m.get j=some o\/(100000<=j/\j<200000/\ ∃e w,o= .mM true e (.row w 0 (fun _=>[]) [])):=fun h=>qV hb.2 h
  unfold Nc at h
  split at h
  ·rename_i hh;cases hh
  ·rename_i i' z e w n g wr r' hh
   cases hh
   simp only[HM.get]at h
   cases hc:Nat.beq (ghN i) j<;>rw[hc]at h
   ·exact skip h
   ·cases h
    have:=ak hc
    unfold ghN at this
    exact .inr ⟨by omega,by omega,e,w,rfl⟩
  ·rename_i y r' _ hh
   cases hh
   exact skip h
theorem Rel.ny{h:Heap}{ρ:Ren}{T:Nat->Prop}{w:World}(hR:Rel h ρ T w)(k:Nat)(obs:List (Nat×dw)): ∃ρ',ρ.le ρ'/\(∀i,i<k->ρ' i=ρ i)/\h.next<=(SE.ny k h obs).next/\Rel (SE.ny k h obs) ρ' T w:=by
 unfold SE.ny
 cases hb:(noGh obs|| !Nat.ble k h.next|| !Nat.ble h.next 100000|| !(obs.all fun p=>Nat.blt p.1 100000))with
 |true=>exact⟨ρ,Ren.le_refl _,fun _ _=>rfl,aX _,hR⟩
 |false=>
  simp only[Bool.or_eq_false_iff,Bool.not_eq_false']at hb
  obtain⟨⟨⟨_,hk⟩,hn⟩,ho⟩:=hb
  have hn:=Nat.le_of_ble_eq_true hn
  have hk:=Nat.le_of_ble_eq_true hk
  obtain⟨S,h1,h2,h3,h4,h5⟩:=hR
  have low: ∀i o,h.m.get i=some o->i<h.next:=fun i o hi=>by
   obtain⟨a,ha,_⟩:=h1 i o hi
   rcases Nat.lt_or_ge i h.next with h'|h'
   ·exact h'
   ·rw[h4 i h']at ha;cases ha
  let ρ':Ren:=fun i=>if i<h.next then ρ i else if i<200000 then some ⟨0,0,0⟩else none
  have hle:ρ.le ρ':=fun i a ha=>by
   rcases Nat.lt_or_ge i h.next with h'|h'
   ·simp only[ρ',if_pos h'];exact ha
   ·rw[h4 i h']at ha;cases ha
  refine⟨ρ',hle,fun i hi=>by simp only[ρ',if_pos (Nat.lt_of_lt_of_le hi hk)],by show h.next<=200000;omega,fun i b=>i<h.next/\S i b,fun i o hi=> ?_,fun i j o o' b hi hj hij hSi hSj=> ?_,fun i o b hi hS=> ?_,fun i hi=> ?_,h5⟩
  ·rcases qV ho hi with hi|⟨g1,g2,e,x,rfl⟩
   ·obtain⟨a,ha,hh⟩:=h1 i o hi
    have hlt:=low i o hi
    refine⟨a,hle _ _ ha,?_⟩
    have:(fun b=>i<h.next/\S i b)=S i:=by funext b;simp[hlt]
    show dU ρ' w T a (fun b=>i<h.next/\S i b) o
    rw[this];exact hh.mono hle
   ·exact⟨⟨0,0,0⟩,by simp only[ρ',if_neg (by omega: ¬i<h.next),if_pos g2],.inl ⟨rfl,by simp[Cs.size]⟩⟩
  ·rcases qV ho hi with hi|⟨g1,_⟩
   ·rcases qV ho hj with hj|⟨g1,_⟩
    ·exact h2 i j o o' b hi hj hij hSi.2 hSj.2
    ·have:=hSj.1;omega
   ·have:=hSi.1;omega
  ·rcases qV ho hi with hi|⟨g1,_⟩
   ·exact h3 i o b hi hS.2
   ·have:=hS.1;omega
  ·have hi:200000<=i:=hi
   simp only[ρ',if_neg (by omega: ¬i<h.next),if_neg (by omega: ¬i<200000)]
theorem St.sub2{k n:Nat}{ρ:Ren}{T:Nat->Prop}{fr fr':Fr}{h h':Heap}{a:Act}{w:World}(hs:St k n ρ T fr h a w)(τ:Nat->Nat)(hτk: ∀i,i<k->τ i=i)(hk:k<=h'.next)
  (hinj: ∀i j,i<h'.next->j<h'.next->τ i=τ j->i=j) (apj: ∀i o0,h'.get i=some o0->i<h'.next/\ ∃o,h.get (τ i)=some o/\avH τ h'.next o0 o)
  (hfr: ∀t,∀(ρ ρ0:Ren) u,(∀i,i<h'.next->ρ0 i=ρ (τ i))->bV ρ (look fr t) u->bV ρ0 (look fr' t) u): ∃ρ',(∀i,i<k->ρ' i=ρ i)/\St k n ρ' T fr' h' a w:=by
 obtain⟨S,h1,h2,h3,h4,h5⟩:=hs.rel
 let ρ':Ren:=fun i=>if i<h'.next then ρ (τ i)else none
 have hρ: ∀i,i<h'.next->ρ' i=ρ (τ i):=fun i hi=>by simp[ρ',hi]
 refine⟨ρ',fun i hi=>by rw[hρ i (by omega),hτk i hi],hk,⟨fun i=>S (τ i),fun i o0 hi=> ?_,fun i j o o' b hi hj hij hSi hSj=> ?_,fun i o0 b hi hS=> ?_,fun i hi=>by simp[ρ'];omega,h5⟩,⟨hs.fr.size,hs.fr.defers,fun t=> ?_⟩⟩
 ·obtain⟨hlt,o,ho,PU⟩:=apj i o0 hi
  obtain⟨x,hx,hh⟩:=h1 _ o ho
  exact⟨x,by rw[hρ i hlt];exact hx,PU ρ ρ' w T x _ hρ hh⟩
 ·obtain⟨hlt,x,hx,_⟩:=apj i o hi
  obtain⟨hlt',y,hy,_⟩:=apj j o' hj
  exact h2 _ _ x y b hx hy (fun he=>hij (hinj i j hlt hlt' he)) hSi hSj
 ·obtain⟨hlt,x,hx,_⟩:=apj i o0 hi
  exact h3 _ x b hx hS
 ·exact hfr t ρ ρ' _ hρ (hs.fr.vals t)
def Vw(k N:Nat)(τ:Tau):Bool:=τ.all (fun p=>Nat.ble k p.1&&Nat.ble N p.2)&&distinct (τ.map (·.2))
where
 distinct:List Nat->Bool
  |[]=>true
  |x::l=>l.all (fun y=> !Nat.beq x y)&&distinct l
theorem Ia(τ:Tau)(i:Nat):tau τ i=i\/ ∃p∈τ,p.1=i/\p.2=tau τ i:=by
 induction τ with
 |nil=>exact .inl rfl
 |cons p τ ih=>
  simp only[tau]
  cases hb:Nat.beq p.1 i with
  |true=>exact .inr ⟨p,by simp,ak hb,rfl⟩
  |false=>
   rcases ih with h|⟨q,hq,h1,h2⟩
   ·exact .inl h
   ·exact .inr ⟨q,by simp[hq],h1,h2⟩
theorem Vx{τ:Tau}(h:Vw.distinct (τ.map (·.2))=true): ∀p∈τ,∀q∈τ,p.2=q.2->p=q:=by
 induction τ with
 |nil=>intro p hp;cases hp
 |cons x τ ih=>
  simp only[List.map_cons,Vw.distinct,aI,List.all_eq_true,Bool.not_eq_true']at h
  obtain⟨h1,h2⟩:=h
  have ne: ∀y∈τ,x.2≠y.2:=fun y hy he=>by
   have:=h1 y.2 (List.mem_map_of_mem hy)
   rw[he,Nat.beq_refl]at this;cases this
  intro p hp q hq he
  rcases List.mem_cons.1 hp with hp1|hp1
  ·rcases List.mem_cons.1 hq with hq1|hq1
   ·rw[hp1,hq1]
   ·exact(ne q hq1 (by rw[<-hp1];exact he)).elim
  ·rcases List.mem_cons.1 hq with hq1|hq1
   ·exact(ne p hp1 (by rw[<-hq1];exact he.symm)).elim
   ·exact ih h2 p hp1 q hq1 he
theorem agZ{k N:Nat}{τ:Tau}(h:Vw k N τ=true):(∀i,i<k->tau τ i=i)/\ ∀i j,i<N->j<N->tau τ i=tau τ j->i=j:=by
 simp only[Vw,aI,List.all_eq_true,Nat.ble_eq]at h
 obtain⟨h1,h2⟩:=h
 refine⟨fun i hi=> ?_,fun i j hi hj he=> ?_⟩
 ·rcases Ia τ i with h|⟨p,hp,h3,_⟩
  ·exact h
  ·have:=(h1 p hp).1;omega
 ·rcases Ia τ i with ha|⟨p,hp,h3,h4⟩<;>rcases Ia τ j with hb|⟨q,hq,h5,h6⟩
  ·omega
  ·have:=(h1 q hq).2;omega
  ·have:=(h1 p hp).2;omega
  ·have:=Vx h2 p hp q hq (by omega)
   subst this;omega
mutual
def qH(N:Nat)(τ:Tau):AV->Bool
 | .any=>true
 | .lit _=>true
 | .ptr i _=>Nat.blt i N&&Nat.beq (tau τ i) i
 | .sl i _ _ _=>Nat.blt i N&&Nat.beq (tau τ i) i
 | .slU i _ _ _=>Nat.blt i N&&Nat.beq (tau τ i) i
 | .qE i _ _ _=>Nat.blt i N&&Nat.beq (tau τ i) i
 | .slE i _ _ _ _=>Nat.blt i N&&Nat.beq (tau τ i) i
 | .slW i _ _ _=>Nat.blt i N&&Nat.beq (tau τ i) i
 | .slR i _ _ _=>Nat.blt i N&&Nat.beq (tau τ i) i
 | .slZ _ i _ _ _=>Nat.blt i N&&Nat.beq (tau τ i) i
 | .slV _ i _ _=>Nat.blt i N&&Nat.beq (tau τ i) i
 | .one=>true
 | .arr .. =>true
 | .mp i=>Nat.blt i N&&Nat.beq (tau τ i) i
 | .fn _ a b=>ZT N τ a&&ZT N τ b
 | .agg l=>ZT N τ l
 | .tup l=>ZT N τ l
 | .ifc _ v=>qH N τ v
def ZT(N:Nat)(τ:Tau):List AV->Bool
 |[]=>true
 |a::l=>qH N τ a&&ZT N τ l
end
mutual
theorem Qj{N:Nat}{τ:Tau}{ρ ρ0:Ren}(hρ: ∀i,i<N->ρ0 i=ρ (tau τ i)): ∀(v:AV) (u:Value),qH N τ v=true->bV ρ v u->bV ρ0 v u
 | .any,_,_,_=>by simp only[bV]
 | .lit _,_,_,h=>by simpa only[bV]using h
 | .ptr i o,u,hs,h=>by simp only[qH,aI]at hs;have e:=hρ i (bW.1 hs.1);rw[ak hs.2]at e;simp only[bV,e]at h ⊢;exact h
 | .sl i o n c,u,hs,h=>by simp only[qH,aI]at hs;have e:=hρ i (bW.1 hs.1);rw[ak hs.2]at e;simp only[bV,e]at h ⊢;exact h
 | .slU i o n c,u,hs,h=>by simp only[qH,aI]at hs;have e:=hρ i (bW.1 hs.1);rw[ak hs.2]at e;simp only[bV,e]at h ⊢;exact h
 | .qE i k m j,u,hs,h=>by simp only[qH,aI]at hs;have e:=hρ i (bW.1 hs.1);rw[ak hs.2]at e;simp only[bV,e]at h ⊢;exact h
 | .slE i k m n c,u,hs,h=>by simp only[qH,aI]at hs;have e:=hρ i (bW.1 hs.1);rw[ak hs.2]at e;simp only[bV,e]at h ⊢;exact h
 | .slW i k m n,u,hs,h=>by simp only[qH,aI]at hs;have e:=hρ i (bW.1 hs.1);rw[ak hs.2]at e;simp only[bV,e]at h ⊢;exact h
 | .slR i k m n,u,hs,h=>by simp only[qH,aI]at hs;have e:=hρ i (bW.1 hs.1);rw[ak hs.2]at e;simp only[bV,e]at h ⊢;exact h
 | .slZ z i k m n,u,hs,h=>by simp only[qH,aI]at hs;have e:=hρ i (bW.1 hs.1);rw[ak hs.2]at e;simp only[bV,e]at h ⊢;exact h
 | .slV z i m n,u,hs,h=>by simp only[qH,aI]at hs;have e:=hρ i (bW.1 hs.1);rw[ak hs.2]at e;simp only[bV,e]at h ⊢;exact h
 | .one,u,hs,h=>by simpa only[bV]using h
 | .arr ..,u,hs,h=>by simpa only[bV]using h
 | .mp i,u,hs,h=>by simp only[qH,aI]at hs;have e:=hρ i (bW.1 hs.1);rw[ak hs.2]at e;simp only[bV,e]at h ⊢;exact h
 | .fn f a b,u,hs,h=>by
  simp only[qH,aI]at hs
  simp only[bV]at h ⊢
  obtain⟨x,y,hv,h1,h2⟩:=h
  exact⟨x,y,hv,Ah hρ _ _ hs.1 h1,Ah hρ _ _ hs.2 h2⟩
 | .agg l,u,hs,h=>by
  simp only[qH]at hs
  simp only[bV]at h ⊢
  obtain⟨x,hv,h1⟩:=h
  exact⟨x,hv,Ah hρ _ _ hs h1⟩
 | .tup l,u,hs,h=>by
  simp only[qH]at hs
  simp only[bV]at h ⊢
  obtain⟨x,hv,h1⟩:=h
  exact⟨x,hv,Ah hρ _ _ hs h1⟩
 | .ifc t v,u,hs,h=>by
  simp only[qH]at hs
  simp only[bV]at h ⊢
  obtain⟨x,hv,h1⟩:=h
  exact⟨x,hv,Qj hρ _ _ hs h1⟩
theorem Ah{N:Nat}{τ:Tau}{ρ ρ0:Ren}(hρ: ∀i,i<N->ρ0 i=ρ (tau τ i)): ∀(l:List AV) (u:List Value),ZT N τ l=true->eP ρ l u->eP ρ0 l u
 |[],_,_,h=>by simpa[eP]using h
 |a::l,_,hs,h=>by
  simp only[ZT,aI]at hs
  simp only[eP]at h ⊢
  obtain⟨v,vs,rfl,h1,h2⟩:=h
  exact⟨v,vs,rfl,Qj hρ _ _ hs.1 h1,Ah hρ _ _ hs.2 h2⟩
end
structure apK where
 σ:Type
 fr:σ->List (Nat×AV)
 ob:σ->List (Nat×Option dw)
 inv:σ->Prop
 meas:σ->Nat
 nx:Nat:=0
 test:Fr->Heap->Bool:=fun _ _=>true
structure LGh where
 G:Type
 forms:G->List apK
structure Ci where
 σ:Type
 fr:σ->List (Nat×AV)
 ob:σ->List (Nat×Option dw)
 inv:σ->Prop
 meas:σ->Nat
 nx:Nat:=0
 test:Fr->Heap->Bool:=fun _ _=>true
 gh:Option LGh:=none
def apK.ann(A:apK):Ci:={σ:=A.σ,fr:=A.fr,ob:=A.ob,inv:=A.inv,meas:=A.meas,nx:=A.nx,test:=A.test}
def LGh.all(e:LGh)(g:e.G):List Ci:=(e.forms g).map apK.ann
def LGh.an(e:LGh):List Ci:=[{σ:=Unit,fr:=fun _=>[],ob:=fun _=>[],inv:=fun _=>False,meas:=fun _=>0,gh:=some e}]
def lookO(ob:List (Nat×Option dw))(h:Heap)(i:Nat):Option dw:=match ob with
 |[]=>h.get i
 |(j,o)::r=>bif Nat.beq i j then o else lookO r h i
def uZ(ob:List (Nat×Option dw))(h:Heap):Nat->List (Nat×dw)
 |0=>[]
 |i+1=>match lookO ob h i with
  |some o=>(i,o)::uZ ob h i
  |none=>uZ ob h i
def tJ(N:Nat)(l:List (Nat×dw)):Heap:=⟨N,l.map fun p=>(p.1,some p.2)⟩
def inW(W:List Nat)(t:Nat):Bool:=W.any fun x=>Nat.beq x t
def xP(fr:Fr)(W:List Nat):Nat->List (Nat×AV)
 |0=>[]
 |t+1=>bif inW W t then xP fr W t else(match look fr t with
  | .any=>xP fr W t
  |v=>(t,v)::xP fr W t)
def akb(l:List (Nat×AV))(fr:Fr)(W:List Nat)(n:Nat):Fr:=frL (l++xP fr W n)
def matC:Cs->Cs->Tau->Tau
 | .av l,.av m,τ=>agY l m τ
 | .cat a b,.cat a' b',τ=>matC b b' (matC a a' τ)
 |_,_,τ=>τ
def atv(h:Heap):List (Nat×dw)->Tau->Tau
 |[],τ=>τ
 |(i,o)::r,τ=>atv h r (match o,h.get (tau τ i)with
  | .cells _ c,some (.cells _ d)=>matC c d τ
  |_,_=>τ)
def awp(τ:Tau)(h:Heap):List (Nat×dw)->Prop
 |[]=>True
 |(i,o)::r=>eqO τ o (h.get (tau τ i))/\awp τ h r
def ql(N:Nat)(l:List (Nat×dw)):Bool:=l.all fun p=>oN N p.2
def aiX(k N n:Nat)(l:List (Nat×AV))(W:List Nat)(fr0:Fr)(obs:List (Nat×dw))(fr:Fr)(h:Heap):Prop:=
 go (ny k h obs) (atv (ny k h obs) obs (agY (l.map (·.2)) (l.map fun p=>look fr p.1) []))
where
 go (h:Heap) (τ:Tau):Prop:=bif Vw k N τ&&iQ N (l.map (·.2))&&ql N obs&&l.all (fun p=>inW W p.1)&&(xP fr0 W n).all (fun p=>qH N τ p.2)&&Nat.ble k N then(eqL τ (l.map (·.2)) (l.map fun p=>look fr p.1)/\awp τ h obs)else False
def Agree(n:Nat)(W:List Nat)(fr fr':Fr):Prop:= ∀t,t<n->inW W t=false->look fr' t=look fr t
theorem ZU{W:List Nat}{t:Nat}:inW W t=true↔t∈W:=by
 simp only[inW,List.any_eq_true]
 exact⟨fun⟨x,hx,hb⟩=>by rw[<-ak hb];exact hx,fun h=>⟨t,h,Nat.beq_refl _⟩⟩
theorem Nh(N:Nat): ∀(l:List (Nat×dw)) (i:Nat) (o:dw),(tJ N l).get i=some o->(i,o)∈l
 |[],i,o,h=>by simp[tJ,Heap.get,HM.get]at h
 |(j,x)::l,i,o,h=>by
  simp only[tJ,Heap.get,List.map_cons,HM.get]at h
  cases hb:Nat.beq j i<;>rw[hb]at h
  ·have:=Nh N l i o (by simpa[tJ,Heap.get]using h)
   exact List.mem_cons_of_mem _ this
  ·simp at h;subst h;rw[ak hb];simp
theorem Gq{ob:List (Nat×Option dw)}{h:Heap}: ∀{N:Nat} {p:Nat×dw},p∈uZ ob h N->p.1<N
 |0,p,hp=>by cases hp
 |i+1,p,hp=>by
  simp only[uZ]at hp
  split at hp
  ·rcases List.mem_cons.1 hp with rfl|hp
   ·simp
   ·have:=Gq hp;omega
  ·have:=Gq hp;omega
theorem Ib{fr:Fr}{W:List Nat}{t:Nat}: ∀(n:Nat),(match (xP fr W n).find? (fun p=>p.1==t)with|some p=>p.2|none=>AV.any)=if t<n/\inW W t=false then look fr t else .any
 |0=>by simp[xP]
 |m+1=>by
  have ih:=Ib (fr:=fr) (W:=W) (t:=t) m
  simp only[xP]
  cases hw:inW W m with
  |true=>
   simp only[aO,ih]
   by_cases h:t=m
   ·subst h;simp[hw]
   ·by_cases h2:t<m
    ·simp[h2,Nat.lt_succ_of_lt h2]
    ·rw[if_neg (by omega),if_neg (by omega)]
  |false=>
   simp only[aP]
   have key: ∀v:AV,look fr m=v->(match ((match v with| .any=>xP fr W m|v=>(m,v)::xP fr W m):List (Nat×AV)).find? (fun p=>p.1==t)with|some p=>p.2|none=>AV.any)=if t<m+1/\inW W t=false then look fr t else .any:=by
    have any:look fr m= .any->(match (xP fr W m).find? (fun p=>p.1==t)with|some p=>p.2|none=>AV.any)=if t<m+1/\inW W t=false then look fr t else .any:=fun hv=>by
     rw[ih]
     by_cases h:t=m
     ·subst h;simp[hw,hv]
     ·by_cases h2:t<m
      ·simp[h2,Nat.lt_succ_of_lt h2]
      ·rw[if_neg (by omega),if_neg (by omega)]
    have other: ∀v,look fr m=v->(match ((m,v)::xP fr W m).find? (fun p=>p.1==t)with|some p=>p.2|none=>AV.any)=if t<m+1/\inW W t=false then look fr t else .any:=fun v hv=>by
     simp only[List.find?_cons]
     by_cases h:m=t
     ·subst h;simp[hw,hv]
     ·have:(m==t)=false:=by simpa using h
      rw[this]
      simp only[]
      rw[ih]
      by_cases h2:t<m
      ·simp[h2,Nat.lt_succ_of_lt h2]
      ·rw[if_neg (by omega),if_neg (by omega)]
    intro v hv
    cases v
    case any=>exact any hv
    all_goals exact other _ hv
   exact key _ rfl
theorem Ic{l:List (Nat×AV)}{fr:Fr}{W:List Nat}{n t:Nat}:look (akb l fr W n) t=match l.find? (fun p=>p.1==t)with|some p=>p.2|none=>if t<n/\inW W t=false then look fr t else .any:=by
 unfold akb
 rw[ac4,List.find?_append]
 cases hf:l.find? (fun p=>p.1==t)with
 |some p=>simp
 |none=>simp only[Option.none_or];exact Ib n
theorem akc{k N n:Nat}{l:List (Nat×AV)}{W:List Nat}{fr0 fr:Fr}{obs:List (Nat×dw)}{h:Heap}(hN: ∀p∈obs,p.1<N)(hag:Agree n W fr0 fr)(hf:aiX k N n l W fr0 obs fr h){ρ:Ren}{T:Nat->Prop}{a:Act}{w:World}(hs:St k n ρ T fr h a w):
  ∃ρ',(∀i,i<k->ρ' i=ρ i)/\St k n ρ' T (akb l fr0 W n) (tJ N obs) a w:=by
 unfold aiX at hf
 obtain⟨ρg,g1,g2,g3,g4⟩:=hs.rel.ny k obs
 have hs2:St k n ρg T fr (ny k h obs) a w:=⟨Nat.le_trans hs.le g3,g4,hs.fr.mono g1⟩
 suffices hh: ∃ρ',(∀i,i<k->ρ' i=ρg i)/\St k n ρ' T (akb l fr0 W n) (tJ N obs) a w by
  obtain⟨ρ',q1,q2⟩:=hh
  exact⟨ρ',fun i hi=>(q1 i hi).trans (g2 i hi),q2⟩
 clear g1 g2 g3 g4
 generalize ny k h obs=h at hf hs2
 clear hs
 have hs:=hs2
 clear hs2
 generalize ρg=ρ at hs
 generalize hτ:atv h obs (agY (l.map (·.2)) (l.map fun p=>look fr p.1) [])=τ at hf
 unfold aiX.go at hf
 cases hb:(Vw k N τ&&iQ N (l.map (·.2))&&ql N obs&&l.all (fun p=>inW W p.1)&&(xP fr0 W n).all (fun p=>qH N τ p.2)&&Nat.ble k N)with
 |false=>rw[hb]at hf;exact hf.elim
 |true=>
  rw[hb]at hf;simp only[aO]at hf
  simp only[aI,List.all_eq_true,ql,Nat.ble_eq]at hb
  obtain⟨⟨⟨⟨⟨b1,b2⟩,b3⟩,b4⟩,b5⟩,b6⟩:=hb
  obtain⟨t1,t2⟩:=agZ b1
  have hos: ∀p∈obs,eqO τ p.2 (h.get (tau τ p.1)):=by
   have: ∀obs:List (Nat×dw),awp τ h obs-> ∀p∈obs,eqO τ p.2 (h.get (tau τ p.1)):=by
    intro obs
    induction obs with
    |nil=>intro _ p hp;cases hp
    |cons x r ih=>
     intro he p hp
     rcases List.mem_cons.1 hp with rfl|hp
     ·exact he.1
     ·exact ih he.2 p hp
   exact this obs hf.2
  have hvs: ∀p∈l,eF N p.2=true/\eqV τ p.2 (look fr p.1):=by
   have: ∀l:List (Nat×AV),iQ N (l.map (·.2))=true->eqL τ (l.map (·.2)) (l.map fun p=>look fr p.1)-> ∀p∈l,eF N p.2=true/\eqV τ p.2 (look fr p.1):=by
    intro l
    induction l with
    |nil=>intro _ _ p hp;cases hp
    |cons x r ih=>
     intro hb he p hp
     simp only[List.map_cons,iQ,aI]at hb
     simp only[List.map_cons,eqL]at he
     rcases List.mem_cons.1 hp with rfl|hp
     ·exact⟨hb.1,he.1⟩
     ·exact ih hb.2 he.2 p hp
   exact this l b2 hf.1
  refine hs.sub2 (h':=tJ N obs) (tau τ) t1 b6 t2 (fun i o0 hi=> ?_) (fun t ρ ρ0 u hρ hu=> ?_)
  ·have hm:=Nh N obs i o0 hi
   obtain⟨o',ho',PU⟩:=Qi (b3 _ hm) (hos _ hm)
   exact⟨hN _ hm,o',ho',PU⟩
  ·rw[Ic]
   split
   ·rename_i p hp
    have hpl:=List.mem_of_find?_eq_some hp
    have hpt:p.1=t:=by simpa using List.find?_some hp
    obtain⟨c1,c2⟩:=hvs p hpl
    rw[hpt]at c2
    exact MZ hρ _ _ _ c1 c2 hu
   ·split
    ·rename_i ht
     rw[hag t ht.1 ht.2]at hu
     refine Qj hρ _ _ ?_ hu
     have hk:=Ib (fr:=fr0) (W:=W) (t:=t) n
     rw[if_pos ht]at hk
     cases hff:(xP fr0 W n).find? (fun p=>p.1==t)with
     |none=>rw[hff]at hk;simp only at hk;rw[<-hk];rfl
     |some p=>
      rw[hff]at hk;simp only at hk
      rw[<-hk]
      exact b5 p (List.mem_of_find?_eq_some hff)
    ·simp only[bV]
abbrev Ai:=Exit->Fr->Heap->Prop
def Qk(K:Fr->Heap->Prop)(Q:Ai):Ai:=fun e fr h=>match e with
 | .normal=>K fr h
 |e=>Q e fr h
def Ie(id:Nat)(Q:Ai):Ai:=fun e fr h=>match e with
 | .exit id'=>bif Nat.beq id' id then Q .normal fr h else Q (.exit id') fr h
 |e=>Q e fr h
def vOps(call:WFn)(tt:TT)(n:Nat)(ops:Array Oper):List Nat->Fr->Heap->(Fr->Heap->Prop)->Prop
 |[],fr,h,Q=>Q fr h
 |i::l,fr,h,Q=>avL call tt n ops i fr h fun fr' h'=>vOps call tt n ops l fr' h' Q
def wrC:Code->List Nat
 | .region _ ops _=>DS ops (List.range ops.size)
 | .seq a b=>wrC a++wrC b
 | .cond _ a b=>wrC a++wrC b
 | .block _ a=>wrC a
 | .loop a=>wrC a
 | .scope a=>wrC a
 |_=>[]
def setC(fr:Fr)(c:Operand)(b:Bool):Fr:=match c with
 | .tmp t=>KG fr (some t) (.lit (.bool b))
 |_=>fr
def entG(k n:Nat)(W:List Nat)(fr0:Fr)(h0:Heap)(P:(A:Ci)->A.σ->Prop)(fr:Fr)(h:Heap):List Ci->Prop
 |[]=>False
 |[A]=> ∃s:A.σ,A.inv s/\P A s/\aiX k (h0.next+A.nx) n (A.fr s) W fr0 (uZ (A.ob s) h0 (h0.next+A.nx)) fr h
 |A::L=>(∃s:A.σ,A.inv s/\P A s/\aiX k (h0.next+A.nx) n (A.fr s) W fr0 (uZ (A.ob s) h0 (h0.next+A.nx)) fr h)\/entG k n W fr0 h0 P fr h L
def akd(fr:Fr)(h:Heap):List Ci->List Ci
 |[]=>[]
 |A::L=>bif A.test fr h then A::akd fr h L else akd fr h L
theorem Ig{fr:Fr}{h:Heap}{A:Ci}: ∀{L:List Ci},A∈akd fr h L->A∈L
 |B::L,hA=>by
  simp only[akd]at hA
  cases hb:B.test fr h<;>rw[hb]at hA
  ·exact List.mem_cons_of_mem _ (Ig hA)
  ·rcases List.mem_cons.1 hA with rfl|hA
   ·simp
   ·exact List.mem_cons_of_mem _ (Ig hA)
def ao0(k n:Nat)(W:List Nat)(fr0:Fr)(h0:Heap)(P:(A:Ci)->A.σ->Prop)(fr:Fr)(h:Heap)(L:List Ci):Prop:=entG k n W fr0 h0 P fr h (akd fr h L)
def ake(k n:Nat)(W:List Nat)(fr0:Fr)(h0:Heap)(body:(Fr->Heap->Prop)->Fr->Heap->Prop)(all:List Ci):List Ci->Prop
 |[]=>True
 |A::L=>(∀s:A.σ,A.inv s->body (fun fr h=>ao0 k n W fr0 h0 (fun B t=>B.meas t<A.meas s) fr h all) (akb (A.fr s) fr0 W n) (tJ (h0.next+A.nx) (uZ (A.ob s) h0 (h0.next+A.nx))))/\ake k n W fr0 h0 body all L
abbrev tK:=Nat->Fr->Heap->List Ci
def Aj(n:Nat)(k:Nat->Prop):Prop:=match n with
 |0=>k 0
 |m+1=>k (m+1)
theorem Vy(n:Nat)(k:Nat->Prop):Aj n k=k n:=by cases n<;>rfl
def asb(o:Option dw)(k:Option dw->Prop):Prop:=match o with
 |none=>k none
 |some (.cells e c)=>k (some (.cells e c))
 |some (.room e c)=>k (some (.room e c))
 |some (.mM z e c)=>k (some (.mM z e c))
 |some (.yH n g t)=>k (some (.yH n g t))
 |some (.ro c)=>k (some (.ro c))
 |some (.map es clock)=>k (some (.map es clock))
 |some (.abs A)=>k (some (.abs A))
 |some (.iter m s n t)=>k (some (.iter m s n t))
theorem akf(o:Option dw)(k:Option dw->Prop):asb o k=k o:=by
 cases o with
 |none=>rfl
 |some o=>cases o<;>rfl
def adp:HM->(HM->Prop)->Prop
 |[],k=>k []
 |(i,o)::r,k=>Aj i fun i=>asb o fun o=>adp r fun r=>k ((i,o)::r)
theorem Vz: ∀(t:HM) (k:HM->Prop),adp t k=k t
 |[],_=>rfl
 |(i,o)::r,k=>by simp only[adp,Vy,akf,Vz r]
def akg(h:Heap)(k:Heap->Prop):Prop:=match h with
 |⟨n,m⟩=>Aj n fun n=>adp m fun m=>k ⟨n,m⟩
theorem akh(h:Heap)(k:Heap->Prop):akg h k=k h:=by
 cases h;simp only[akg,Vy,Vz]
def VA:PM AV->(PM AV->Prop)->Prop
 | .leaf,k=>k .leaf
 | .node l v r,k=>VA l fun l=>VA r fun r=>match v with
  |none=>k (.node l none r)
  |some x=>k (.node l (some x) r)
theorem Ih: ∀(t:PM AV) (k:PM AV->Prop),VA t k=k t
 | .leaf,_=>rfl
 | .node l v r,k=>by simp only[VA,Ih l,Ih r];cases v<;>rfl
def adq(fr:Fr)(h:Heap)(k:Fr->Heap->Prop):Prop:=VA fr fun fr=>akg h fun h=>k fr h
theorem aki(fr:Fr)(h:Heap)(k:Fr->Heap->Prop):adq fr h k=k fr h:=by simp only[adq,Ih,akh]
def Ii:Code->Nat
 | .region id _ _=>1000+id
 | .block id _=>2000+id
 | .seq a _=>Ii a
 | .scope a=>Ii a
 |_=>0
def awq(an:tK)(y:Code)(fr:Fr)(h:Heap):List Ci:=match Ii y with
 |0=>[]
 |i+1=>an (i+1) fr h
def akj(k n:Nat)(W:List Nat)(fr0:Fr)(h0:Heap)(body:Fr->Heap->Prop):List Ci->Prop
 |[]=>True
 |A::L=>(∀s:A.σ,A.inv s->body (akb (A.fr s) fr0 W n) (tJ (h0.next+A.nx) (uZ (A.ob s) h0 (h0.next+A.nx))))/\akj k n W fr0 h0 body L
theorem Nj{k n:Nat}{W:List Nat}{fr0:Fr}{h0:Heap}{body:Fr->Heap->Prop}: ∀{L:List Ci},akj k n W fr0 h0 body L-> ∀A∈L,∀s:A.σ,A.inv s->
  body (akb (A.fr s) fr0 W n) (tJ (h0.next+A.nx) (uZ (A.ob s) h0 (h0.next+A.nx)))
 |A::L,hh,B,hB=>by
  rcases List.mem_cons.1 hB with rfl|hB
  ·exact hh.1
  ·exact Nj hh.2 B hB
def wpC(call:WFn)(tt:TT)(k n:Nat)(an:tK):Nat->Code->Ai->Fr->Heap->Prop
 |0,_,_,_,_=>False
 |_+1,.skip,Q,fr,h=>Q .normal fr h
 |_+1,.ret,Q,fr,h=>Q .ret fr h
 |_+1,.exit id,Q,fr,h=>Q (.exit id) fr h
 |f+1,.seq x y,Q,fr,h=>match awq an y fr h with
  |[]=>wpC call tt k n an f x (Qk (fun fr h=>adq fr h fun fr h=>wpC call tt k n an f y Q fr h) Q) fr h
  |A::L=>match A.gh with
   |none=>wpC call tt k n an f x (Qk (fun fr' h'=>ao0 k n (wrC x) fr h (fun _ _=>True) fr' h' (A::L)) Q) fr h/\akj k n (wrC x) fr h (fun fr' h'=>wpC call tt k n an f y Q fr' h') (A::L)
   |some e=> ∃g:e.G,wpC call tt k n an f x (Qk (fun fr' h'=>ao0 k n (wrC x) fr h (fun _ _=>True) fr' h' (e.all g)) Q) fr h/\akj k n (wrC x) fr h (fun fr' h'=>wpC call tt k n an f y Q fr' h') (e.all g)
 |f+1,.cond c x y,Q,fr,h=>match evA fr c with
  | .lit (.bool b)=>cP b (wpC call tt k n an f x Q (setC fr c true) h) (wpC call tt k n an f y Q (setC fr c false) h)
  |_=>False
 |f+1,.block id x,Q,fr,h=>match x,an id fr h with
  | .loop y,A::L=>match A.gh with
   |none=>ao0 k n (wrC y) fr h (fun _ _=>True) fr h (A::L)/\
    ake k n (wrC y) fr h (fun K fr' h'=>wpC call tt k n an f y (Qk K (Ie id Q)) fr' h') (A::L) (A::L)
   |some e=> ∃g:e.G,ao0 k n (wrC y) fr h (fun _ _=>True) fr h (e.all g)/\
    ake k n (wrC y) fr h (fun K fr' h'=>wpC call tt k n an f y (Qk K (Ie id Q)) fr' h') (e.all g) (e.all g)
  |_,_=>wpC call tt k n an f x (Ie id Q) fr h
 |f+1,.scope x,Q,fr,h=>wpC call tt k n an f x Q fr h
 |_+1,.label _,Q,fr,h=>Q .normal fr h
 |f+1,.loop x,Q,fr,h=>wpC call tt k n an f x (Qk (fun fr h=>wpC call tt k n an f (.loop x) Q fr h) Q) fr h
 |_+1,.region _ ops draw,Q,fr,h=>match draw with
  |true=>let pl:=apG ops (ops.size+1) [] (Array.replicate ops.size false)
   bif ZQ ops pl [] (Array.replicate ops.size false)&&qU ops then vPl call tt n ops pl fr h (Q .normal)else False
  |false=>vOps call tt n ops (List.range ops.size) fr h (Q .normal)
 |_+1,_,_,_,_=>False
section
variable{P:Program}{tt:TT}{k n:Nat}{call:WFn}
theorem akk{l:Nat}{Q:Ai}{fr:Fr}{h:Heap}(hq:Q .normal fr h):AWp P k n (.label l) Q fr h:=
 fun ρ _ _ _ hs=>wp_label ⟨ρ,fr,h,fun _ _=>rfl,hs,Keeps.refl _ _,hq⟩
theorem akl{c:Code}{Q:Ai}{fr:Fr}{h:Heap}(hc:AWp P k n c Q fr h):AWp P k n (.scope c) Q fr h:=by
 intro ρ T w a hs
 refine wp_scope_straight (wp_mono (hc ρ T w a hs) fun e a' w' hh=> ?_)
 cases e<;>first|exact hh|exact hh.elim
theorem Agree.refl(W:List Nat)(fr:Fr):Agree n W fr fr:=fun _ _ _=>rfl
theorem Agree.trans{W:List Nat}{a b c:Fr}(h:Agree n W a b)(g:Agree n W b c):Agree n W a c:=fun t ht hw=>(g t ht hw).trans (h t ht hw)
theorem Agree.mono{W W':List Nat}{a b:Fr}(h:Agree n W a b)(hs: ∀t∈W,t∈W'):Agree n W' a b:=fun t ht hw=>h t ht (by
 cases hh:inW W t with
 |false=>rfl
 |true=>have:=hs t (ZU.1 hh);rw[ZU.2 this]at hw;cases hw)
def ag0(n:Nat)(W:List Nat)(fr0:Fr)(Q:Ai):Ai:=fun e fr h=>Agree n W fr0 fr/\Q e fr h
theorem akm(hT:tt.ok P)(hc:WOk P call){ops:Array Oper}{Q:Fr->Heap->Prop}: ∀(l:List Nat) (fr:Fr) (h:Heap),vOps call tt n ops l fr h Q->
  ∀ρ T w a,St k n ρ T fr h a w->Ed P ops (Zr k n ρ T w (fun fr' h'=>(∀t,(∀i∈l,jQ ops i≠some t)->look fr' t=look fr t)/\Q fr' h')) (l.map .xx) a w
 |[],fr,h,hq=>fun ρ T w a hs=>⟨ρ,fr,h,fun _ _=>rfl,hs,Keeps.refl _ _,fun _ _=>rfl,hq⟩
 |i::l,fr,h,hq=>fun ρ T w a hs=>by
  have:=aj3 (P:=P) (Q:=Zr k n ρ T w (fun fr' h'=>(∀t,(∀j∈i::l,jQ ops j≠some t)->look fr' t=look fr t)/\Q fr' h')) (l:=[]) hT hc hs.rel hs.fr (fun _ _=>by simp) hq
  refine wpOp_mono ?_ this
  rintro a' w' ⟨fr',h',ρ',b1,b2,b3,b4,b5,b6,b7⟩
  have hs':St k n ρ' T fr' h' a' w':=⟨Nat.le_trans hs.le b2,b3,b4⟩
  have ih:=akm hT hc l fr' h' b7 ρ' T w' a' hs'
  refine l7 (fun e a2 w2 hh=> ?_) _ _ _ ih
  refine agA (fun j hj=>b1 j (Nat.lt_of_lt_of_le hj hs.le)) b6 e a2 w2 ?_
  cases e<;>first|exact After.mono (fun fr2 h2 ⟨g1,g2⟩=>⟨fun t ht=>(g1 t fun j hj=>ht j (by simp[hj])).trans (b5 t (ht i (by simp))),g2⟩) hh|exact hh.elim
def ZV(k n:Nat)(Q:Fr->Heap->Prop)(fr:Fr)(h:Heap):Prop:= ∃fr' h',(∀ρ T a w,St k n ρ T fr h a w-> ∃ρ',(∀i,i<k->ρ' i=ρ i)/\St k n ρ' T fr' h' a w)/\Q fr' h'
theorem After.subTo{ρ₀:Ren}{T:Nat->Prop}{w₀:World}{Q:Fr->Heap->Prop}{a:Act}{w:World}(hh:After k n ρ₀ T w₀ (ZV k n Q) a w):After k n ρ₀ T w₀ Q a w:=by
 obtain⟨ρ,fr,h,h1,h2,h3,fr',h',hs,hq⟩:=hh
 obtain⟨ρ',r1,r2⟩:=hs ρ T a w h2
 exact⟨ρ',fr',h',fun i hi=>(r1 i hi).trans (h1 i hi),r2,h3,hq⟩
theorem akn{c:Code}{Q:Ai}{fr:Fr}{h:Heap}(hc:AWp P k n c (fun e=>ZV k n (Q e)) fr h):AWp P k n c Q fr h:=
 fun ρ T w a hs=>wp_mono (hc ρ T w a hs) fun e a w hh=>by cases e<;>first|exact After.subTo hh|exact hh.elim
theorem ZV.self{Q:Fr->Heap->Prop}{fr:Fr}{h:Heap}(hq:Q fr h):ZV k n Q fr h:=⟨fr,h,fun ρ _ _ _ hs=>⟨ρ,fun _ _=>rfl,hs⟩,hq⟩
theorem VB{W:List Nat}{fr0:Fr}{h0:Heap}{p:(A:Ci)->A.σ->Prop}{fr:Fr}{h:Heap}: ∀{L:List Ci},entG k n W fr0 h0 p fr h L-> ∃A∈L,∃s:A.σ,A.inv s/\p A s/\aiX k (h0.next+A.nx) n (A.fr s) W fr0 (uZ (A.ob s) h0 (h0.next+A.nx)) fr h
 |[],hh=>hh.elim
 |[A],hh=>⟨A,by simp,hh⟩
 |A::B::L,hh=>by
  rcases hh with hh|hh
  ·exact⟨A,by simp,hh⟩
  ·obtain⟨C,hC,r⟩:=VB (L:=B::L) hh
   exact⟨C,List.mem_cons_of_mem _ hC,r⟩
theorem VD{W:List Nat}{fr0:Fr}{h0:Heap}{p:(A:Ci)->A.σ->Prop}{fr:Fr}{h:Heap}{L:List Ci}(hh:ao0 k n W fr0 h0 p fr h L): ∃A∈L,∃s:A.σ,A.inv s/\p A s/\aiX k (h0.next+A.nx) n (A.fr s) W fr0 (uZ (A.ob s) h0 (h0.next+A.nx)) fr h:=by
 obtain⟨C,hC,r⟩:=VB hh
 exact⟨C,Ig hC,r⟩
theorem Nk{W:List Nat}{fr0:Fr}{h0:Heap}{body:(Fr->Heap->Prop)->Fr->Heap->Prop}{all:List Ci}: ∀{L:List Ci},ake k n W fr0 h0 body all L-> ∀A∈L,∀s:A.σ,A.inv s->
  body (fun fr h=>ao0 k n W fr0 h0 (fun B t=>B.meas t<A.meas s) fr h all) (akb (A.fr s) fr0 W n) (tJ (h0.next+A.nx) (uZ (A.ob s) h0 (h0.next+A.nx)))
 |A::L,hh,B,hB=>by
  rcases List.mem_cons.1 hB with rfl|hB
  ·exact hh.1
  ·exact Nk hh.2 B hB
theorem ako{W:List Nat}{fr fr':Fr}(h:Same fr fr'):Agree n W fr fr':=fun t _ _=>h t
theorem Ak{fr:Fr}{c:Operand}{b:Bool}(h:evA fr c= .lit (.bool b)):Same fr (setC fr c b):=by
 cases c with
 |tmp t=>exact Same.put h
 |_=>exact fun _=>rfl
theorem AWp.same{c:Code}{Q:Ai}{fr fr':Fr}{h:Heap}(hs:Same fr fr')(hc:AWp P k n c Q fr' h):AWp P k n c Q fr h:=fun ρ T w a st=>hc ρ T w a ⟨st.le,st.rel,st.fr.same fun t=> .inl (hs t)⟩
theorem awr(hT:tt.ok P)(hm:P.follows .mixedOrders=true)(hc:WOk P call)(an:tK): ∀(N f:Nat),f<=N-> ∀(c:Code) (Q:Ai) (fr:Fr) (h:Heap),wpC call tt k n an f c Q fr h->AWp P k n c (ag0 n (wrC c) fr Q) fr h:=by
 intro N
 induction N with
 |zero=>intro f hf c Q fr h hq;have:f=0:=by omega
        subst this;simp[wpC]at hq
 |succ N ihN=>
  intro f hf c Q fr h hq
  cases f with
  |zero=>simp[wpC]at hq
  |succ f=>
  have ih:=ihN f (by omega)
  cases c with
  |skip=>exact ape ⟨Agree.refl _ _,hq⟩
  |ret=>exact as6 ⟨Agree.refl _ _,hq⟩
  |exit id=>exact apf ⟨Agree.refl _ _,hq⟩
  |label l=>exact akk ⟨Agree.refl _ _,hq⟩
  |scope x=>
   simp only[wpC]at hq
   exact akl (ih x Q fr h hq)
  |seq x y=>
   have core: ∀all:List Ci,wpC call tt k n an f x (Qk (fun fr' h'=>ao0 k n (wrC x) fr h (fun _ _=>True) fr' h' all) Q) fr h->akj k n (wrC x) fr h (fun fr' h'=>wpC call tt k n an f y Q fr' h') all->AWp P k n (.seq x y) (ag0 n (wrC (.seq x y)) fr Q) fr h:=by
    intro all hent hjoin
    refine ajh ((ih x _ fr h hent).mono fun e fr1 h1 ⟨g1,g2⟩=> ?_)
    have gl:Agree n (wrC x++wrC y) fr fr1:=g1.mono fun t ht=>List.mem_append_left _ ht
    cases e with
    |normal=>
     obtain⟨B,hB,s,hi,_,hf⟩:=VD g2
     have hb:=Nj hjoin B hB s hi
     have hl:((B.fr s).all fun p=>inW (wrC x) p.1)=true:=by
      unfold aiX at hf
      generalize SE.ny k h1 (uZ (B.ob s) h (h.next+B.nx))=h1 at hf
      generalize atv h1 (uZ (B.ob s) h (h.next+B.nx)) (agY ((B.fr s).map (·.2)) ((B.fr s).map fun p=>look fr1 p.1) [])=τ at hf
      unfold aiX.go at hf
      cases hb:(Vw k (h.next+B.nx) τ&&iQ (h.next+B.nx) ((B.fr s).map (·.2))&&ql (h.next+B.nx) (uZ (B.ob s) h (h.next+B.nx))&&(B.fr s).all (fun p=>inW (wrC x) p.1)&&(xP fr (wrC x) n).all (fun p=>qH (h.next+B.nx) τ p.2)&&Nat.ble k (h.next+B.nx))with
      |false=>rw[hb]at hf;exact hf.elim
      |true=>simp only[aI]at hb;exact hb.1.1.2
     have ag:Agree n (wrC x) fr (akb (B.fr s) fr (wrC x) n):=fun t ht hw=>by
      rw[Ic]
      cases hf:(B.fr s).find? (fun p=>p.1==t)with
      |some p=>
       have hp:=List.mem_of_find?_eq_some hf
       have hpt:p.1=t:=by simpa using List.find?_some hf
       have:=List.all_eq_true.1 hl p hp
       rw[hpt,hw]at this;cases this
      |none=>simp only;rw[if_pos ⟨ht,hw⟩]
     have main:=(ih y Q _ _ hb).mono fun e2 fr2 h2 ⟨q1,q2⟩=>show ag0 n (wrC (.seq x y)) fr Q e2 fr2 h2 from ⟨(ag.mono fun t ht=>List.mem_append_left _ ht).trans (q1.mono fun t ht=>List.mem_append_right _ ht),q2⟩
     intro ρ T w a hs
     obtain⟨ρ',r1,r2⟩:=akc (fun p hp=>Gq hp) g1 hf hs
     exact wp_mono (main ρ' T w a r2) (yK r1 (Keeps.refl _ _))
    |_=>exact⟨gl,g2⟩
   simp only[wpC]at hq
   split at hq
   ·refine ajh ((ih x _ fr h hq).mono fun e fr1 h1 ⟨g1,g2⟩=> ?_)
    have gl:Agree n (wrC x++wrC y) fr fr1:=g1.mono fun t ht=>List.mem_append_left _ ht
    cases e with
    |normal=>
     have g2:adq fr1 h1 (fun fr h=>wpC call tt k n an f y Q fr h):=g2
     rw[aki]at g2
     refine(ih y Q fr1 h1 g2).mono fun e2 fr2 h2 ⟨q1,q2⟩=> ?_
     exact⟨gl.trans (q1.mono fun t ht=>List.mem_append_right _ ht),q2⟩
    |_=>exact⟨gl,g2⟩
   ·split at hq
    ·exact core _ hq.1 hq.2
    ·obtain⟨g,h1,h2⟩:=hq
     exact core _ h1 h2
  |cond c x y=>
   simp only[wpC]at hq
   split at hq
   ·rename_i b hb
    rcases kR hq with ⟨rfl,hq⟩|⟨rfl,hq⟩
    ·refine acZ hb (fun _=> ?_) (fun h=>by cases h)
     refine AWp.same (Ak hb) ((ih x Q _ h hq).mono fun e fr1 h1 ⟨g1,g2⟩=>⟨(ako (Ak hb)).trans (g1.mono fun t ht=>List.mem_append_left _ ht),g2⟩)
    ·refine acZ hb (fun h=>by cases h) (fun _=> ?_)
     refine AWp.same (Ak hb) ((ih y Q _ h hq).mono fun e fr1 h1 ⟨g1,g2⟩=>⟨(ako (Ak hb)).trans (g1.mono fun t ht=>List.mem_append_right _ ht),g2⟩)
   ·exact hq.elim
  |block id x=>
   have plain:wpC call tt k n an f x (Ie id Q) fr h->AWp P k n (.block id x) (ag0 n (wrC (.block id x)) fr Q) fr h:=fun hq=>by
    refine U9 ((ih x _ fr h hq).mono fun e fr1 h1 ⟨g1,g2⟩=> ?_)
    cases e with
    |exit id'=>
     simp only[Ie]at g2
     simp only[MG]
     cases hb:Nat.beq id' id<;>rw[hb]at g2
     ·have:id'≠id:=fun he=>by subst he;rw[Nat.beq_refl]at hb;cases hb
      rw[if_neg this];exact⟨g1,g2⟩
     ·rw[if_pos (ak hb)];exact⟨g1,g2⟩
    |_=>exact⟨g1,g2⟩
   simp only[wpC]at hq
   split at hq
   ·rename_i y A L hx
    have core: ∀all:List Ci,ao0 k n (wrC y) fr h (fun _ _=>True) fr h all->ake k n (wrC y) fr h (fun K fr' h'=>wpC call tt k n an f y (Qk K (Ie id Q)) fr' h') all all->AWp P k n (.block id (.loop y)) (ag0 n (wrC (.block id (.loop y))) fr Q) fr h:=by
     clear plain hq
     intro all hent hloop
     let I:Nat->Fr->Heap->Prop:=fun m fr1 h1=> ∃B∈all,∃s:B.σ,B.inv s/\B.meas s=m/\fr1=akb (B.fr s) fr (wrC y) n/\h1=tJ (h.next+B.nx) (uZ (B.ob s) h (h.next+B.nx))
     have hN: ∀(B:Ci) (s:B.σ),∀p∈uZ (B.ob s) h (h.next+B.nx),p.1<h.next+B.nx:=fun B s p hp=>Gq hp
     have agI: ∀(l:List (Nat×AV)),(l.all fun p=>inW (wrC y) p.1)=true->Agree n (wrC y) fr (akb l fr (wrC y) n):=fun l hl t ht hw=>by
      rw[Ic]
      cases hf:l.find? (fun p=>p.1==t)with
      |some p=>
       have hp:=List.mem_of_find?_eq_some hf
       have hpt:p.1=t:=by simpa using List.find?_some hf
       have:=List.all_eq_true.1 hl p hp
       rw[hpt,hw]at this;cases this
      |none=>simp only;rw[if_pos ⟨ht,hw⟩]
     have fitW: ∀{N:Nat} {l:List (Nat×AV)} {obs:List (Nat×dw)} {fr1:Fr} {h1:Heap},aiX k N n l (wrC y) fr obs fr1 h1->(l.all fun p=>inW (wrC y) p.1)=true:=by
      intro N l obs fr1 h1 hf
      unfold aiX at hf
      generalize SE.ny k h1 obs=h1 at hf
      generalize atv h1 obs (agY (l.map (·.2)) (l.map fun p=>look fr1 p.1) [])=τ at hf
      unfold aiX.go at hf
      cases hb:(Vw k N τ&&iQ N (l.map (·.2))&&ql N obs&&l.all (fun p=>inW (wrC y) p.1)&&(xP fr (wrC y) n).all (fun p=>qH N τ p.2)&&Nat.ble k N)with
      |false=>rw[hb]at hf;exact hf.elim
      |true=>simp only[aI]at hb;exact hb.1.1.2
     let J:Nat->Fr->Heap->Prop:=fun m fr1 h1=>I m fr1 h1/\Agree n (wrC y) fr fr1
     have toJ: ∀(p:(B:Ci)->B.σ->Prop) (fr1:Fr) (h1:Heap),Agree n (wrC y) fr fr1->ao0 k n (wrC y) fr h p fr1 h1 all->ZV k n (fun fr2 h2=> ∃m,(∃B∈all,∃s:B.σ,p B s/\B.meas s=m)/\J m fr2 h2) fr1 h1:=by
      intro p fr1 h1 hag hent
      obtain⟨B,hB,s,hi,hp,hf⟩:=VD hent
      exact⟨_,_,fun ρ T a w hs=>akc (hN B s) hag hf hs,B.meas s,⟨B,hB,s,hp,rfl⟩,⟨B,hB,s,hi,rfl,rfl,rfl⟩,agI _ (fitW hf)⟩
     obtain⟨fr1,h1,hsub,m0,_,hJ⟩:=toJ _ fr h (Agree.refl _ _) hent
     have main:AWp P k n (.loop y) (MG id (ag0 n (wrC y) fr Q)) fr1 h1:=by
      refine ac0 J hJ fun m fr2 h2 hJ2=> ?_
      obtain⟨⟨B,hB,s,hi,hme,hf2,hh2⟩,hag2⟩:=hJ2
      have hb:=Nk hloop B hB s hi
      rw[<-hf2,<-hh2]at hb
      refine akn ((ih y _ fr2 h2 hb).mono fun e fr3 h3 ⟨g1,g2⟩=> ?_)
      have hag3:Agree n (wrC y) fr fr3:=hag2.trans g1
      cases e with
      |normal=>
       obtain⟨fr4,h4,hs4,m',⟨C,hC,t,hlt,rfl⟩,hJ4⟩:=toJ _ fr3 h3 hag3 g2
       exact⟨fr4,h4,hs4,C.meas t,by rw[<-hme];exact hlt,hJ4⟩
      |exit id'=>
       refine ZV.self ?_
       simp only[Qk,Ie]at g2
       simp only[as5,MG]
       cases hbb:Nat.beq id' id<;>rw[hbb]at g2
       ·have:id'≠id:=fun he=>by subst he;rw[Nat.beq_refl]at hbb;cases hbb
        rw[if_neg this];exact⟨hag3,g2⟩
       ·rw[if_pos (ak hbb)];exact⟨hag3,g2⟩
      |_=>exact ZV.self ⟨hag3,g2⟩
     refine U9 fun ρ T w a hs=> ?_
     obtain⟨ρ',r1,r2⟩:=hsub ρ T a w hs
     exact wp_mono (main ρ' T w a r2) (yK r1 (Keeps.refl _ _))
    split at hq
    ·exact core _ hq.1 hq.2
    ·obtain⟨g,h1,h2⟩:=hq
     exact core _ h1 h2
   ·exact plain hq
  |loop x=>
   simp only[wpC]at hq
   let I:Nat->Fr->Heap->Prop:=fun m fr1 h1=>m<=f+1/\Agree n (wrC x) fr fr1/\wpC call tt k n an m (.loop x) Q fr1 h1
   refine ac0 I (m:=f+1) ⟨aX _,Agree.refl _ _,by simp only[wpC];exact hq⟩ ?_
   rintro m fr2 h2 ⟨hm',hag,hq2⟩
   cases m with
   |zero=>simp[wpC]at hq2
   |succ m=>
    simp only[wpC]at hq2
    refine(ihN m (by omega) x _ fr2 h2 hq2).mono fun e fr3 h3 ⟨g1,g2⟩=> ?_
    cases e with
    |normal=>exact⟨m,by omega,by omega,hag.trans g1,g2⟩
    |_=>exact⟨hag.trans g1,g2⟩
  |region id ops draw=>
   simp only[wpC]at hq
   have hDS: ∀t,inW (DS ops (List.range ops.size)) t=false-> ∀i,jQ ops i≠some t:=fun t ht i hi=>by
    have hlt:i<ops.size:=by
     rcases Nat.lt_or_ge i ops.size with h'|h'
     ·exact h'
     ·simp[jQ,Array.getElem?_eq_none h']at hi
    have:t∈DS ops (List.range ops.size):=uY.2 ⟨i,by simpa using hlt,hi⟩
    rw[ZU.2 this]at ht;cases ht
   cases draw with
   |true=>
    simp only at hq
    cases hok:(ZQ ops (apG ops (ops.size+1) [] (Array.replicate ops.size false)) [] (Array.replicate ops.size false)&&qU ops)with
    |false=>rw[hok]at hq;exact hq.elim
    |true=>
     rw[hok]at hq;simp only[aO]at hq
     exact(apI (P:=P) hT hc hm hok hq).mono fun e fr1 h1 ⟨g1,g2⟩=>⟨fun t _ hw=>g1 t (hDS t hw),g2⟩
   |false=>
    simp only at hq
    refine agD rfl fun ρ T w a hs=> ?_
    refine l7 (fun e a2 w2 hh=> ?_) _ _ _ (akm (P:=P) hT hc _ fr h hq ρ T w a hs)
    cases e<;>first|exact After.mono (fun fr2 h2 ⟨g1,g2⟩=>⟨fun t _ hw=>g1 t fun i _=>hDS t hw i,g2⟩) hh|exact hh.elim
  |_=>simp[wpC]at hq
theorem awt(hT:tt.ok P)(hm:P.follows .mixedOrders=true)(hc:WOk P call)(an:tK){f:Nat}{c:Code}{Q:Ai}{fr:Fr}{h:Heap}(hq:wpC call tt k n an f c Q fr h):AWp P k n c Q fr h:=
 (awr hT hm hc an f f (aX _) c Q fr h hq).mono fun _ _ _ h=>h.2
end
abbrev WTr:=List AV->Heap->(AV->Heap->Prop)->Prop
abbrev jY:=List (FuncId×WTr)
def lookW:jY->FuncId->Option WTr
 |[],_=>none
 |(f,T)::r,g=>bif Nat.beq f g then some T else lookW r g
def fJ(P:Program)(tbl:jY):Prop:= ∀p∈tbl,∀args h K,p.2 args h K->SpE P p.1 args h K
theorem fJ.nil{P:Program}:fJ P []:=fun _ h=>by cases h
theorem fJ.cons{P:Program}{f:FuncId}{T:WTr}{tbl:jY}(h1: ∀args h K,T args h K->Sp P f args h K)(h2:fJ P tbl):fJ P ((f,T)::tbl):=fun p hp=>by
 rcases List.mem_cons.1 hp with rfl|hp
 ·exact fun args h K hq=> .inl (h1 args h K hq)
 ·exact h2 p hp
theorem fJ.Ql{P:Program}{f:FuncId}{T:WTr}{tbl:jY}(h1: ∀args h K,T args h K->XSp P f args h K)(h2:fJ P tbl):fJ P ((f,T)::tbl):=fun p hp=>by
 rcases List.mem_cons.1 hp with rfl|hp
 ·exact fun args h K hq=> .inr (h1 args h K hq)
 ·exact h2 p hp
theorem fJ.append{P:Program}{a b:jY}(h1:fJ P a)(h2:fJ P b):fJ P (a++b):=fun p hp=>by
 rcases List.mem_append.1 hp with h|h
 ·exact h1 p h
 ·exact h2 p h
theorem VE: ∀{tbl:jY} {g:FuncId} {T:WTr},lookW tbl g=some T->(g,T)∈tbl
 |(f,S)::r,g,T,h=>by
  simp only[lookW]at h
  cases hb:Nat.beq f g<;>rw[hb]at h
  ·exact List.mem_cons_of_mem _ (VE h)
  ·simp at h;subst h;rw[ak hb];simp
def ZW(tt:TT)(t:TypeId)(a:AV)(h:Heap):Option AV:=match a with
 | .ptr i o=>match rowA tt t h i o with
  |some (n,g)=>some (.arr n g)
  |none=>KD tt t (.ptr i o) h
 |_=>none
theorem apL{P:Program}{tt:TT}(hT:tt.ok P):LdOk P (ZW tt):=fun h ρ T w hR t a v u hl hu=>by
 unfold ZW at hl
 split at hl
 ·refine⟨⟨_,_,rfl⟩,?_⟩
  split at hl
  ·rename_i n g hr;cases hl;exact ajt hT hR hr hu
  ·exact pY hT hR hl hu
 ·cases hl
def akp(tt:TT)(fn:Func)(K:AV->Heap->Prop):Ai:=fun e fr h=>bif isDone e then(match awe (ZW tt) fn fr h with
 |some v=>K v h
 |none=>False)else False
def wpF(P:Program)(tbl:jY)(tt:TT)(an:FuncId->tK)(fuel:Nat):Nat->WFn
 |0,_,_,_,_=>False
 |d+1,g,args,h,K=>match P.funcs[g]? with
  |some fn=>match fn.body with
   |some c=>bif !(fn.name== "runtime.NumGoroutine")&&Nat.ble args.length fn.ntmps then
     wpC (fun g args h K=>match lookW tbl g with
      |some T=>T args h K
      |none=>wpF P tbl tt an fuel d g args h K) tt h.next fn.ntmps (an g) fuel c (akp tt fn K) (Vd args) h else False
   |none=>False
  |none=>False
theorem xY{P:Program}{tbl:jY}{tt:TT}(hT:tt.ok P)(hm:P.follows .mixedOrders=true)(ht:fJ P tbl)(an:FuncId->tK)(fuel:Nat): ∀d g args h K,wpF P tbl tt an fuel d g args h K->Sp P g args h K
 |0=>by intro g args h K hq;simp[wpF]at hq
 |d+1=>by
  intro g args h K hq
  simp only[wpF]at hq
  split at hq
  ·rename_i fn hf
   split at hq
   ·rename_i c hb
    cases hcnd:(!(fn.name== "runtime.NumGoroutine")&&Nat.ble args.length fn.ntmps)<;>rw[hcnd]at hq
    ·exact hq.elim
    ·simp only[aO]at hq
     simp only[aI,Bool.not_eq_true']at hcnd
     have hc:WOk P (fun g args h K=>match lookW tbl g with
      |some T=>T args h K
      |none=>wpF P tbl tt an fuel d g args h K):=by
      intro g args h K hq
      split at hq
      ·rename_i T hl;exact ht _ (VE hl) args h K hq
      ·exact .inl (xY hT hm ht an fuel d g args h K hq)
     refine Ve (apL hT) hf hcnd.1 hb hcnd.2 ((awt hT hm hc (an g) hq).mono fun e fr h' hh=> ?_)
     unfold akp at hh
     cases hd:isDone e<;>rw[hd]at hh
     ·exact hh.elim
     ·simp only[aO]at hh
      split at hh
      ·rename_i v hv
       refine⟨?_,v,hv,hh⟩
       cases e<;>first|exact .inl rfl|exact .inr rfl|cases hd
      ·exact hh.elim
   ·exact hq.elim
  ·exact hq.elim
def endP(k:Nat)(v0:AV)(os:List dw)(v:AV)(h:Heap):Prop:=go (ny k h (os.zipIdx.map fun p=>(p.2,p.1))) (atv (ny k h (os.zipIdx.map fun p=>(p.2,p.1))) (os.zipIdx.map fun p=>(p.2,p.1)) (matV v0 v []))
where
 go (h:Heap) (τ:Tau):Prop:=bif asc k os.length τ&&eF os.length v0&&ql os.length (os.zipIdx.map fun p=>(p.2,p.1))&&Nat.ble k os.length then(eqV τ v0 v/\awp τ h (os.zipIdx.map fun p=>(p.2,p.1)))else False
 /-- Each of them stands for another one. -/
 asc (k N:Nat) (τ:Tau):Bool:=Vb k ((List.range N).map (tau τ)) N
theorem Qm{k:Nat}{v0:AV}{os:List dw}{v:AV}{h:Heap}(hf:endP k v0 os v h):Leq k v h v0 (hO os.length os):=by
 unfold endP at hf
 suffices hh:Leq k v (ny k h (os.zipIdx.map fun p=>(p.2,p.1))) v0 (hO os.length os) by
  refine⟨hh.1,fun ρ T w u hR hv=> ?_⟩
  obtain⟨ρg,g1,g2,g3,g4⟩:=hR.ny k (os.zipIdx.map fun p=>(p.2,p.1))
  obtain⟨ρ',q1,q2,q3⟩:=hh.2 ρg T w u g4 (bV.mono g1 _ _ hv)
  exact⟨ρ',fun i hi=>(q1 i hi).trans (g2 i hi),q2,q3⟩
 generalize ny k h (os.zipIdx.map fun p=>(p.2,p.1))=h at hf
 generalize atv h (os.zipIdx.map fun p=>(p.2,p.1)) (matV v0 v [])=τ at hf
 unfold endP.go at hf
 cases hb:(endP.asc k os.length τ&&eF os.length v0&&ql os.length (os.zipIdx.map fun p=>(p.2,p.1))&&Nat.ble k os.length)with
 |false=>rw[hb]at hf;exact hf.elim
 |true=>
  rw[hb]at hf;simp only[aO]at hf
  simp only[aI,Nat.ble_eq,ql,List.all_eq_true]at hb
  obtain⟨⟨⟨b1,b2⟩,b3⟩,b4⟩:=hb
  obtain⟨t1,t2,t3⟩:=ML b1
  have at_: ∀i,i<os.length->atL ((List.range os.length).map (tau τ)) i=tau τ i:=fun i hi=>by
   simp[atL,List.getD_eq_getElem?_getD,hi]
  have hos: ∀p∈os.zipIdx.map (fun p=>(p.2,p.1)),eqO τ p.2 (h.get (tau τ p.1)):=by
   have: ∀obs:List (Nat×dw),awp τ h obs-> ∀p∈obs,eqO τ p.2 (h.get (tau τ p.1)):=by
    intro obs
    induction obs with
    |nil=>intro _ p hp;cases hp
    |cons x r ih=>
     intro he p hp
     rcases List.mem_cons.1 hp with rfl|hp
     ·exact he.1
     ·exact ih he.2 p hp
   exact this _ hf.2
  have mem: ∀i o,os[i]? =some o->(i,o)∈os.zipIdx.map (fun p=>(p.2,p.1)):=fun i o hi=>by
   refine List.mem_map.2 ⟨(o,i),?_,rfl⟩
   rw[List.mem_zipIdx_iff_getElem?];exact hi
  refine⟨b4,fun ρ T w u hR hv=>⟨_,fun i hi=> ?_,hR.sub (h':=hOf os) (tau τ) (fun i j hi hj he=>t3 i j hi hj (by rw[at_ i hi,at_ j hj];exact he)) (fun i o0 hi=> ?_),?_⟩⟩
  ·have hin:i<(hOf os).next:=Nat.lt_of_lt_of_le hi b4
   have:=t2 i hi
   rw[at_ i hin]at this
   simp only[if_pos hin,this]
  ·rw[fG]at hi
   have hlt:=(List.getElem?_eq_some_iff.1 hi).1
   obtain⟨o',ho',PU⟩:=Qi (N:=os.length) (b3 _ (mem i o0 hi)) (hos _ (mem i o0 hi))
   exact⟨hlt,o',ho',PU⟩
  ·exact MZ (N:=os.length) (fun i hi=>by
    have:i<(hOf os).next:=hi
    simp only[if_pos this]) _ _ _ b2 hf.1 hv
theorem awu{P:Program}{tbl:jY}{tt:TT}(hT:tt.ok P)(hm:P.follows .mixedOrders=true)(ht:fJ P tbl)(an:FuncId->tK)(fuel d:Nat){g:FuncId}{args:List AV}{h:Heap}{v0:AV}{os:List dw}
  (hq:wpF P tbl tt an fuel d g args h (fun v h'=>endP h.next v0 os v h')):Sp P g args h (fun v h'=>v=v0/\h'=hO os.length os):=
 ar5 ((xY hT hm ht an fuel d g args h _ hq).mono fun _ _ hh=>⟨_,_,Qm hh,rfl,rfl⟩)
theorem atw{P:Program}{tbl:jY}{tt:TT}(hT:tt.ok P)(hm:P.follows .mixedOrders=true)(ht:fJ P tbl)(an:FuncId->tK)(fuel d k m:Nat){g:FuncId}{args:List AV}{h:Heap}{v0:AV}{os:List dw}(hk:h.next=k)(hl:os.length=m)
  (hq:wpF P tbl tt an fuel d g args h (fun v h'=>endP k v0 os v h')):Sp P g args h (fun v h'=>v=v0/\h'=hO m os):=by
 subst hk hl;exact awu hT hm ht an fuel d hq
attribute [irreducible] wpF wpC endP
end Go.Proofs.YtenfleoejgjklaaGreat.SE
end
