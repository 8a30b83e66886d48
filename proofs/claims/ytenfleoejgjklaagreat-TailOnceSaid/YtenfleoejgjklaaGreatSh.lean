import Derived.Test.YtenfleoejgjklaaGreatSa
import Derived.Test.YtenfleoejgjklaaGreatSb
import Derived.Test.YtenfleoejgjklaaGreatSc
import Derived.Test.YtenfleoejgjklaaGreatSd
import Derived.Test.YtenfleoejgjklaaGreatSe
import Derived.Test.YtenfleoejgjklaaGreatSf
import Derived.Test.YtenfleoejgjklaaGreatSg
import Derived.KernelRfl
set_option linter.unusedVariables false
set_option linter.unusedSimpArgs false
set_option linter.unnecessarySimpa false
section
namespace Go.Proofs.YtenfleoejgjklaaGreat
open Go SE
set_option linter.unusedSimpArgs false
structure sW (a : ZArn) (t : Nat) : Prop where
 dok : a.d.ok
 dst : a.d.st + 20 < 1099511627776
 rok : a.r.ok
 cok : a.c.ok
 tc : t < a.c.t
 tr : t < a.r.t
 out : a.r.has t = 0
 pg : a.p.good
 fit : 2 + a.p.n * 8<=a.d.n
 bok : a.b.ok
 lok : a.l.ok
 ln : a.l.n < 1099511627776
 id0 : 0<=a.id
 id1 : a.id < 1152921504606846976
 v0 : 0<=a.ver
 v1 : a.ver < 1152921504606846976
 nn : a.n < 1099511627776
 adC : 1<=a.c.now
 adD : a.c.now<=2305843009213693952
 owed : ∀ k,a.c.o k + 8 < 1099511627776
 used : ∀ L : Int,2<=L->(oN.inL ⟨a.b,a.l,L⟩ ∨ oN.inB ⟨a.b,a.l,L⟩)->a.p.has L
theorem UA {a : ZArn} {t : Nat} (h : a.r.has t = 0) (v : Int) : (a.nT t v).nT t 0 = a := by
 obtain ⟨d,p,r,c,b,l,id,ver,n,e⟩ := a
 obtain ⟨rt,rn,rh⟩ := r
 have h : rh t = 0 := h
 have : (fun j => if j = t then (0 : Int) else if j = t then v else rh j) = rh := by
  funext j
  by_cases e : j = t
  ·rw [if_pos e,e,h]
  ·rw [if_neg e,if_neg e]
 simp only [ZArn.nT,ZRd.put,this]
theorem jH {p : cO} (hp : p.good) {c : Int} (hc : 0<=c/\c<=3) {i j : Nat} (h : p.takes c i j) : ((2 + i * 8 + j * (spn c).toNat : Nat) : Int) = 2 + i * 8 + j * spn c/\2 + i * 8 + j * (spn c).toNat + (spn c).toNat<=2 + p.n * 8 := by
 obtain ⟨h1,h2,_,_⟩ := oW hp h
 rcases gI c with m | m | m | m | m <;> obtain ⟨m1,m2,m3⟩ := m <;> rw [m2] <;> simp only [show Int.toNat 1 = 1 from rfl,show Int.toNat 2 = 2 from rfl,show Int.toNat 4 = 4 from rfl,show Int.toNat 8 = 8 from rfl,show Int.toNat 0 = 0 from rfl] <;> omega
def iI.fW (x : iI) (k : Int) (i j p : Nat) : ZFr := { x.f1 with line := x.ln k i j,cls := x.c k,piece := (p : Int) }
section
variable {x : iI}
theorem aio (g : sW x.a x.t) (hv : x.v.size<=400) (k : Int) (hc : 0<=x.c k/\x.c k<=3) (i j : Nat) : ∀ p,p<=8->(x.dW k i j p).ok/\(x.dW k i j p).n = x.a.d.n/\(x.dW k i j p).st = x.a.d.st + p
 | 0,_ => ⟨g.dok,rfl,by show x.a.d.st = x.a.d.st + ((0 : Nat) : Int); omega⟩
 | p + 1,hp => by
  obtain ⟨h1,h2,h3⟩ := aio g hv k hc i j p (by omega)
  have := g.dst
  show (ZWr.d' ⟨x.dW k i j p,x.t,x.f1,x.ln k i j,x.c k,p⟩).ok/\_
  show _/\(ZWr.d' ⟨x.dW k i j p,x.t,x.f1,x.ln k i j,x.c k,p⟩).n = _/\(ZWr.d' ⟨x.dW k i j p,x.t,x.f1,x.ln k i j,x.c k,p⟩).st = _
  unfold ZWr.d'
  by_cases e : p = 0
  ·simp only [e,if_true]
   subst e
   exact ⟨DevM.je h1 _ _ _ (Dt hc) (by omega),h2,by show (x.dW k i j 0).st + 1 = _; omega⟩
  ·simp only [e,if_false]
   exact ⟨DevM.je h1 _ _ _ (fun q => aan _ (by omega)) (by omega),h2,by show (x.dW k i j p).st + 1 = _; omega⟩
theorem aop (hv : x.v.size<=400) : 0<=x.c 4/\x.c 4<=3 := by
 rw [show x.c 4 = ned x.v.size from if_pos rfl]; exact JX hv
theorem aoq {c : Int} (h : 0<=c/\c<=3) : ((0 : Nat) : Int) < spn c := by
 rcases dP c with h' | h' | h' | h' | h' <;> omega
theorem aip (g : sW x.a x.t) (hv : x.v.size<=400) (i j : Nat) : (x.pb 4 i j x.f1).chg.blk.may := by
 have hc : x.c 4 = ned x.v.size := if_pos rfl
 have := g.id0; have := g.id1; have := g.v0; have := g.v1; have := g.adC; have := g.adD
 refine ⟨JY (by show 0<=x.c 4/\x.c 4<=3; rw [hc]; exact JX hv),.inr (.inr (.inl ⟨rfl,rfl,hv,?_,?_,?_,?_⟩))⟩
 ·show ned ((0 + x.v.size : Nat) : Int) = x.c 4
  rw [hc,ay]
 ·show 1<=x.a.id + 1/\x.a.id + 1<=2305843009213693952; omega
 ·show 1<=x.a.ver + 1/\x.a.ver + 1<=2305843009213693952; omega
 ·show 1<=x.a.c.now/\x.a.c.now<=2305843009213693952; omega
theorem aiq (g : sW x.a x.t) (hv : x.v.size<=400) {i j : Nat} (h : x.a.p.takes (x.c 4) i j) : (x.pb 4 i j x.f1).chg.okE/\(∃ i' j',(x.pb 4 i j x.f1).chg.inP i' j')/\∀ k,(x.pb 4 i j x.f1).a.c.o k + 8 < 1099511627776 := by
 have hc : 0<=x.c 4/\x.c 4<=3 := by rw [show x.c 4 = ned x.v.size from if_pos rfl]; exact JX hv
 have hs := dP (x.c 4)
 obtain ⟨l1,l2⟩ := jH g.pg hc h
 obtain ⟨d1,d2,d3⟩ := aio g hv 4 hc i j (x.sp 4) (by unfold iI.sp; omega)
 obtain ⟨n1,n2⟩ := at_new g.pg hc.1 h
 have hf := g.fit
 have h1 := g.dok.1
 have no : ¬ x.a.p.has ((x.ln 4 i j : Nat) : Int) := by rw [show ((x.ln 4 i j : Nat) : Int) = 2 + i * 8 + j * spn (x.c 4) from l1]; exact Pm g.pg hc h
 have hL : (2 : Int)<=(x.ln 4 i j : Nat) := by unfold iI.ln; omega
 refine ⟨⟨⟨d1,g.cok,g.lok,g.tc,?_,aip g hv i j,?_,g.id0,g.v0,g.nn,?_⟩,(yN g.pg hc h).1,g.bok,g.ln,rfl,g.v1,g.id1,fun hh => no (g.used _ hL (.inl hh)),fun hh => no (g.used _ hL (.inr hh))⟩,⟨i,j,?_⟩,g.owed⟩
 ·show x.ln 4 i j < (x.dW 4 i j (x.sp 4)).n
  rw [d2]; unfold iI.ln; omega
 ·show x.v.size < 1099511627776; omega
 ·show (x.dW 4 i j (x.sp 4)).n<=258; omega
 ·obtain ⟨a1,a2,a3,a4,a5⟩ := n1
  exact ⟨a1,a2,a3,a4,by show ((x.ln 4 i j : Nat) : Int) = 2 + i * 8 + j * spn ((x.a.p.take (x.c 4) i j).cls i); rw [n2]; exact l1,n2⟩
theorem X9 (g : sW x.a x.t) : aif x := by
 unfold aif
 simp only [KO,aa8,jW,Bd,iE,lG,fB,fA,yM,uJ,uK,aa2,aa3,sV,ji,jk,jh,Uw,KN,aa4,abf,aa6,Ce,KQ,aic,abb,abe,KP,Uu,adt,X6,KL,aa5,uH]
 simp only [aY,aU,aT,ay,aH,bJ,bg,aN,aJ,au,aW,aV,bK,bC,bD,bF,bM,bf,bG,aZ,dY,aG,aK,ah,aj,aA,aC,aB,aF]
 refine ⟨⟨⟨x.a,f0 x.key x.v,1,0⟩,⟨show 1<=1 by decide,show 1<=50 by decide,rfl,rfl,rfl⟩,rfl,(by repeat' (first | exact rfl | refine And.intro ?_ ?_)),rfl⟩,?_,?_,?_,?_,?_⟩
 ·rintro ⟨sa,sf,sn,sp⟩ ⟨s1,s2,s3,s4,s5⟩
  have s1 : 1<=sn := s1
  have s2 : sn<=50 := s2
  have s3 : sn = 1 := s3
  have e4 : sa = x.a := s4
  have e5 : sf = f0 x.key x.v := s5
  clear s4 s5
  subst e4 e5
  refine bH (fun _ => ⟨⟨x.a,f0 x.key x.v,x.t⟩,⟨g.rok,g.cok,g.tr,g.out⟩,(by repeat' (first | exact rfl | refine And.intro ?_ ?_)),rfl,fun h => .inl ⟨sn,h,(by repeat' (first | exact rfl | refine And.intro ?_ ?_)),rfl⟩,fun h => ⟨by unfold I64; omega,⟨x.a1,x.f1,sn + 1,0⟩,⟨by show 1<=sn + 1; omega,by show sn + 1<=50; omega,by show sn + 1 = 2; omega,rfl,rfl,h⟩,by show 101 - (sn + 1) < 101 - sn; omega,rfl,(by repeat' (first | exact rfl | refine And.intro ?_ ?_)),rfl⟩⟩) fun h => absurd (aS h) (by show ¬ ¬ (sn : Int)<=100; omega)
 ·rintro ⟨sa,sf,sn,sp⟩ ⟨s1,s2,s3,s4,s5,hv⟩
  have s1 : 1<=sn := s1
  have s2 : sn<=50 := s2
  have s3 : sn = 2 := s3
  have e4 : sa = x.a1 := s4
  have e5 : sf = x.f1 := s5
  clear s4 s5
  subst e4 e5
  have hcc := aop hv
  refine bH (fun _ => ⟨⟨x.a1,x.f1,x.t⟩,⟨g.pg.1,hv⟩,(by repeat' (first | exact rfl | refine And.intro ?_ ?_)),rfl,fun h => ⟨by unfold I64; omega,⟨x.a1,{ x.f1 with cls := x.c 4,code := 4 },sn + 1,0⟩,⟨by show 1<=sn + 1; omega,by show sn + 1<=50; omega,hv,.inl ⟨h,rfl,rfl⟩⟩,by show 101 - (sn + 1) < 101 - sn; omega,rfl,(by repeat' (first | exact rfl | refine And.intro ?_ ?_)),rfl⟩,fun y hy => ⟨by unfold I64; omega,⟨x.a2 4 y.1 y.2 0,{ x.f1 with line := x.ln 4 y.1 y.2,cls := x.c 4,piece := (0 : Nat) },sn + 1,0⟩,⟨by show 1<=sn + 1; omega,by show sn + 1<=50; omega,hv,aoq hcc,by show sn + 1 = 3 + 0; omega,y.1,y.2,hy,rfl,rfl⟩,by show 101 - (sn + 1) < 101 - sn; omega,rfl,?_,rfl⟩⟩) fun h => absurd (aS h) (by show ¬ ¬ (sn : Int)<=100; omega)
  exact ⟨rfl,rfl,rfl,rfl,rfl,rfl,rfl,rfl,rfl,(jH g.pg hcc hy).1,rfl,rfl,rfl,rfl,rfl,rfl⟩
 ·rintro ⟨sa,sf,sn,sp⟩ ⟨s1,s2,hv,hp,s3,i,j,ht,s4,s5⟩
  have s1 : 1<=sn := s1
  have s2 : sn<=50 := s2
  have hp : (sp : Int) < spn (x.c 4) := hp
  have s3 : sn = 3 + sp := s3
  have e4 : sa = x.a2 4 i j sp := s4
  have e5 : sf = x.fW 4 i j sp := s5
  clear s4 s5
  subst e4 e5
  have hcc := aop hv
  have hs := dP (x.c 4)
  obtain ⟨l1,l2⟩ := jH g.pg hcc ht
  obtain ⟨d1,d2,d3⟩ := aio g hv 4 hcc i j sp (by omega)
  have hf := g.fit
  have hd := g.dst
  have hw : lN.w ⟨x.a2 4 i j sp,x.fW 4 i j sp,x.t,x.ln 4 i j,x.c 4,sp⟩ |>.ok := ⟨d1,hcc.1,hcc.2,by show ((x.ln 4 i j : Nat) : Int) + spn (x.c 4)<=(x.dW 4 i j sp).n; rw [d2]; unfold iI.ln; omega,hp,hv,by show small (x.dW 4 i j sp).st; have := g.dok.2.2.1; unfold small at *; omega,by show (x.dW 4 i j sp).st + 10 < _; omega⟩
  refine bH (fun _ => ⟨⟨x.a2 4 i j sp,x.fW 4 i j sp,x.t,x.ln 4 i j,x.c 4,sp⟩,hw,(by repeat' (first | exact rfl | refine And.intro ?_ ?_)),rfl,fun h => ⟨by unfold I64; omega,⟨x.a2 4 i j (sp + 1),x.fW 4 i j (sp + 1),sn + 1,sp + 1⟩,⟨by show 1<=sn + 1; omega,by show sn + 1<=50; omega,hv,by show ((sp + 1 : Nat) : Int) < _; have h : (sp : Int) + 1 ≠ spn (x.c 4) := h; omega,by show sn + 1 = 3 + (sp + 1); omega,i,j,ht,rfl,rfl⟩,by show 101 - (sn + 1) < 101 - sn; omega,rfl,(by repeat' (first | exact rfl | refine And.intro ?_ ?_)),rfl⟩,fun h => ?_⟩) fun h => absurd (aS h) (by show ¬ ¬ (sn : Int)<=100; omega)
  have h : (sp : Int) + 1 = spn (x.c 4) := h
  have e : x.sp 4 = sp + 1 := by unfold iI.sp; omega
  refine ⟨by unfold I64; omega,⟨x.a2 4 i j (x.sp 4),{ x.f1 with line := x.ln 4 i j,cls := x.c 4 },sn + 1,0⟩,⟨by show 1<=sn + 1; omega,by show sn + 1<=50; omega,hv,by show sn + 1 = 3 + x.sp 4; omega,i,j,ht,rfl,rfl⟩,by show 101 - (sn + 1) < 101 - sn; omega,rfl,(by repeat' (first | exact rfl | refine And.intro ?_ ?_)),by rw [e]; rfl⟩
 ·rintro ⟨sa,sf,sn,sp⟩ ⟨s1,s2,hv,s3,i,j,ht,s4,s5⟩
  have s1 : 1<=sn := s1
  have s2 : sn<=50 := s2
  have s3 : sn = 3 + x.sp 4 := s3
  have hs := dP (x.c 4)
  have hs9 : x.sp 4<=8 := by unfold iI.sp; omega
  have e4 : sa = x.a2 4 i j (x.sp 4) := s4
  have e5 : sf = { x.f1 with line := x.ln 4 i j,cls := x.c 4 } := s5
  clear s4 s5
  subst e4 e5
  refine bH (fun _ => ⟨x.pb 4 i j x.f1,aiq g hv ht,(by repeat' (first | exact rfl | refine And.intro ?_ ?_)),rfl,by unfold I64; omega,⟨(x.pb 4 i j x.f1).chg.enq,{ x.f1 with cls := x.c 4,aep := x.a.c.now },sn + 1,0⟩,⟨by show 1<=sn + 1; omega,by show sn + 1<=50; omega,hv,.inr ⟨by show sn + 1 = 4 + x.sp 4; omega,i,j,ht,rfl,rfl⟩⟩,by show 101 - (sn + 1) < 101 - sn; omega,rfl,(by repeat' (first | exact rfl | refine And.intro ?_ ?_)),rfl⟩) fun h => absurd (aS h) (by show ¬ ¬ (sn : Int)<=100; omega)
 ·rintro ⟨sa,sf,sn,sp⟩ ⟨s1,s2,hv,hh⟩
  have s1 : 1<=sn := s1
  have s2 : sn<=50 := s2
  rcases hh with ⟨hf,s4,s5⟩ | ⟨s3,i,j,ht,s4,s5⟩
  ·have e4 : sa = x.a1 := s4
   have e5 : sf = { x.f1 with cls := x.c 4,code := 4 } := s5
   clear s4 s5
   subst e4 e5
   refine bH (fun _ => ⟨⟨x.a1,{ x.f1 with cls := x.c 4,code := 4 },x.t⟩,⟨g.rok,g.tr⟩,(by repeat' (first | exact rfl | refine And.intro ?_ ?_)),rfl,.inr (.inl ⟨sn,⟨hv,hf⟩,(by repeat' (first | exact rfl | refine And.intro ?_ ?_)),?_⟩)⟩) fun h => absurd (aS h) (by show ¬ ¬ (sn : Int)<=100; omega)
   show ownM x.a.os = ownM (x.a1.nT x.t 0).os
   rw [show x.a1.nT x.t 0 = x.a from UA g.out _]
  ·have e4 : sa = (x.pb 4 i j x.f1).chg.enq := s4
   have e5 : sf = { x.f1 with cls := x.c 4,aep := x.a.c.now } := s5
   clear s4 s5
   subst e4 e5
   refine bH (fun _ => ⟨⟨(x.pb 4 i j x.f1).chg.enq,{ x.f1 with cls := x.c 4,aep := x.a.c.now },x.t⟩,⟨g.rok,g.tr⟩,(by repeat' (first | exact rfl | refine And.intro ?_ ?_)),rfl,.inr (.inr ⟨(i,j),⟨hv,ht⟩,⟨(by repeat' (first | exact rfl | refine And.intro ?_ ?_)),(by show ((4 + x.sp 4 : Nat) : Int) = sn; have s3 : sn = 4 + x.sp 4 := s3; omega)⟩,rfl⟩)⟩) fun h => absurd (aS h) (by show ¬ ¬ (sn : Int)<=100; omega)
theorem Pn (x : ZCl) : Pj x := by
 unfold Pj
 simp only [fA,fB,jW,X6]
 simp only [aY,aU,aT,ay,aH,bJ,bg,aN,aJ,au,aW,aV,bK,bC,bD,bF,bM,bf,bG,aZ,dY,aG,aK,ah,aj,aA,aC,aB,aF]
theorem air : bV Tryz.prog 17 KJ := dX dI mixed .nil noA 200 6 (fun _ => rfl) (fun _ => rfl) fun x _ => Eq.mp (X7 x) (Pn x)
theorem UC (args : List AV) (h : Heap) (K : AV->Heap->Prop) (hq : beginT args h K) : Sp Tryz.prog 17 args h K := by
 unfold beginT at hq
 split at hq
 ·rename_i k key v to
  exact Dq air ⟨k,key,v,to⟩ trivial h rfl rfl hq
 ·exact hq.elim
theorem UD : eY Tryz.prog ah8 := .cons UC (.cons ah7 .nil)
theorem aor : bV Tryz.prog 15 (runE fun x => sW x.a x.t) := gG dI mixed UD annE 200 6 (fun _ => rfl) (fun _ => ⟨fun _ => rfl,fun _ => rfl,fun _ => rfl,trivial⟩) fun x hx => Eq.mp (aii x) (X9 (aY.1 hx))
end
end Go.Proofs.YtenfleoejgjklaaGreat
end
section
namespace Go.Proofs.YtenfleoejgjklaaGreat
open Go SE
set_option linter.unusedSimpArgs false
def KR (a : ZArn) (b : dL) (ln : Nat) : Prop := b.may/\b.kind = 2/\a.l.head = ⟨⟨#[]⟩,b.id,b.ver,ln,b.cls⟩/\(∃ i j,a.p.at_ ln i j/\a.p.cls i = b.cls)/\∀ q,q < 64 * b.dD->a.d.b ((ln + q / 64) * 193 + q % 64) = b.enc q
section
variable {x : iI}
theorem ais (g : sW x.a x.t) {ln i j : Nat} {c : Int} (h : x.a.p.at_ ln i j) (hc : x.a.p.cls i = c) : 2<=ln/\(ln : Int) + spn c<=x.a.d.n/\0<=c/\c<=3/\ln < 258 := by
 obtain ⟨h1,h2,h3,h4,h5⟩ := h
 have h6 := (g.pg.1.2.2 i h1).2.1
 have h7 := g.fit
 have h8 := g.dok.1
 rw [hc] at h2 h3 h5 h6
 rcases gI c with m | m | m | m | m <;> obtain ⟨m1,m2,m3⟩ := m <;> rw [m2] at h5 ⊢ <;> omega
theorem ln5 (g : sW x.a x.t) {y : Nat × Nat} (h : x.a.p.takes 0 y.1 y.2) : ((x.ln 5 y.1 y.2 : Nat) : Int) = 2 + y.1 * 8 + y.2 * spn 0 := (jH g.pg (by decide) h).1
theorem aos (g : sW x.a x.t) {i j : Nat} (h : x.a.p.takes 0 i j) : x.ln 5 i j + 1<=x.a.d.n := by
 have h1 := (jH g.pg (by decide) h).2
 have h2 := g.fit
 have : x.ln 5 i j = 2 + i * 8 + j * (spn 0).toNat := rfl
 have h3 : (spn 0).toNat = 1 := rfl
 omega
theorem aot (g : sW x.a x.t) (hv : x.v.size<=400) (hz : x.a.l.n ≠ 0) (hH : x.a.l.n ≠ 0->x.a.n ≠ 0/\∃ ln,KR x.a x.b ln) {i j : Nat} (h : x.a.p.takes 0 i j) : (x.pb 5 i j x.f2).chg.okD/\(∃ i' j',(x.pb 5 i j x.f2).chg.inP i' j')/\0<=x.a.id/\x.a.id < 1152921504606846976/\x.a.n ≠ 0 := by
 obtain ⟨hn0,ln,hb1,hb2,hh,⟨bi,bj,hat,hbc⟩,hby⟩ := hH hz
 have hk : (⟨#[]⟩ : ByteArray) = x.a.l.head.key := by rw [hh]
 have hi : x.b.id = x.a.l.head.id := by rw [hh]
 have hve : x.b.ver = x.a.l.head.ver := by rw [hh]
 have hl : (ln : Int) = x.a.l.head.line := by rw [hh]
 have hcl : x.b.cls = x.a.l.head.cls := by rw [hh]
 have hfit := ais g hat hbc
 have hs := dP x.b.cls

 have hc : (0 : Int)<=0/\(0 : Int)<=3 := by decide
 have hc5 : x.c 5 = 0 := if_neg (by decide)
 obtain ⟨l1,l2⟩ := jH g.pg hc h
 obtain ⟨d1,d2,d3⟩ := aio g hv 5 (by rw [hc5]; exact hc) i j (x.sp 5) (by unfold iI.sp; rw [hc5]; decide)
 obtain ⟨n1,n2⟩ := at_new g.pg hc.1 h
 have hf := g.fit
 have h1 := g.dok.1
 have hs0 : (spn 0).toNat = 1 := rfl
 have eL : x.ln 5 i j = 2 + i * 8 + j * (spn 0).toNat := by unfold iI.ln; rw [hc5]
 have no : ¬ x.a.p.has ((x.ln 5 i j : Nat) : Int) := by rw [eL,l1]; exact Pm g.pg hc h
 have hL : (2 : Int)<=(x.ln 5 i j : Nat) := by rw [eL]; omega
 have nums : 1<=x.b.id/\x.b.id<=2305843009213693952 := by
  rcases hb1.2 with h | h | h | h
  ·exfalso; have := h.1; omega
  ·exfalso; have := h.1; omega
  ·exact h.2.2.2.2.1
  ·exfalso; have := h.1; omega
 have := g.v0; have := g.v1; have := g.adC; have := g.adD
 refine ⟨⟨d1,g.cok,g.lok,g.tc,?_,?_,g.v0,g.nn,?_,?_,g.bok,g.rok,g.ln,hz,rfl,rfl,g.v1,hc5,?_,fun hh => no (g.used _ hL (.inl hh)),fun hh => no (g.used _ hL (.inr hh))⟩,⟨i,j,?_⟩,g.id0,g.id1,hn0⟩
 ·show x.ln 5 i j < (x.dW 5 i j (x.sp 5)).n
  rw [d2,eL]; omega
 ·refine ⟨show spn 0 ≠ 0 by decide,.inr (.inr (.inr ⟨rfl,rfl,rfl,?_,?_,?_⟩))⟩
  ·show 1<=x.a.l.head.id/\x.a.l.head.id<=2305843009213693952
   rw [← hi]; exact nums
  ·show 1<=x.a.ver + 1/\x.a.ver + 1<=2305843009213693952; omega
  ·show 1<=x.a.c.now/\x.a.c.now<=2305843009213693952; omega
 ·show (x.dW 5 i j (x.sp 5)).n<=258; omega
 ·show (x.a.p.take (x.c 5) i j).ok
  rw [hc5]; exact (yN g.pg hc h).1
 ·refine ⟨?_,?_,?_,?_,?_,?_⟩
  ·show 2<=x.a.l.head.line; rw [← hl]; omega
  ·show x.a.l.head.line < 258; rw [← hl]; omega
  ·show 0<=x.a.l.head.cls; rw [← hcl]; omega
  ·show x.a.l.head.cls<=3; rw [← hcl]; omega
  ·show -1<=((x.ln 5 i j : Nat) : Int); omega
  ·show ((x.ln 5 i j : Nat) : Int) < 258; omega
 ·obtain ⟨a1,a2,a3,a4,a5⟩ := n1
  show i < (x.a.p.take (x.c 5) i j).n/\_
  rw [← hc5] at a1 a2 a3 a4 n2
  refine ⟨a1,a2,a3,a4,?_,n2⟩
  show ((x.ln 5 i j : Nat) : Int) = 2 + i * 8 + j * spn ((x.a.p.take (x.c 5) i j).cls i)
  rw [n2,hc5,eL]; exact l1
theorem Ya (g : sW x.a x.t) (hv : x.v.size<=400) (hH : x.a.l.n ≠ 0->x.a.n ≠ 0/\∃ ln,KR x.a x.b ln) : aij x := by
 have hc5 : x.c 5 = 0 := if_neg (by decide)
 unfold aij
 simp only [KO,aa8,jW,Bc,iE,lG,fB,fA,yM,uJ,uK,aa1,sV,ji,jk,jh,Uw,Ph,Ux,uH,Uu,uI,aie,Ce,aa9,adt,abd,aib,Uy,aia,abf,aa7,KQ,abb,abe,KP,ah9,KL,X6,aa5]
 simp only [aY,aU,aT,ay,aH,bJ,bg,aN,aJ,au,aW,aV,bK,bC,bD,bF,bM,bf,bG,aZ,dY,aG,aK,ah,aj,aA,aC,aB,aF]
 refine ⟨⟨⟨x.a,f0 x.key x.v,1,0⟩,⟨show 1<=1 by decide,show 1<=50 by decide,rfl,rfl,rfl⟩,rfl,(by repeat' (first | exact rfl | refine And.intro ?_ ?_)),rfl⟩,?_,?_,?_,?_,?_,?_,?_,?_⟩
 ·rintro ⟨sa,sf,sn,sp⟩ ⟨s1,s2,s3,s4,s5⟩
  have s1 : 1<=sn := s1
  have s2 : sn<=50 := s2
  have s3 : sn = 1 := s3
  have e4 : sa = x.a := s4
  have e5 : sf = f0 x.key x.v := s5
  clear s4 s5
  subst e4 e5
  refine bH (fun _ => ⟨⟨x.a,f0 x.key x.v,x.t⟩,⟨g.rok,g.cok,g.tr,g.out⟩,(by repeat' (first | exact rfl | refine And.intro ?_ ?_)),rfl,fun h => absurd h.1 (by decide),fun h => ⟨by unfold I64; omega,⟨x.a1,x.f1,sn + 1,0⟩,⟨by show 1<=sn + 1; omega,by show sn + 1<=50; omega,by show sn + 1 = 2; omega,rfl,rfl⟩,by show 101 - (sn + 1) < 101 - sn; omega,rfl,(by repeat' (first | exact rfl | refine And.intro ?_ ?_)),rfl⟩⟩) fun h => absurd (aS h) (by show ¬ ¬ (sn : Int)<=100; omega)
 ·rintro ⟨sa,sf,sn,sp⟩ ⟨s1,s2,s3,s4,s5⟩
  have s1 : 1<=sn := s1
  have s2 : sn<=50 := s2
  have s3 : sn = 2 := s3
  have e4 : sa = x.a1 := s4
  have e5 : sf = x.f1 := s5
  clear s4 s5
  subst e4 e5
  refine bH (fun _ => ⟨⟨x.a1,x.f1,x.t⟩,⟨g.lok,rfl⟩,(by repeat' (first | exact rfl | refine And.intro ?_ ?_)),rfl,fun h => ⟨by unfold I64; omega,⟨x.a1,x.f1,sn + 1,0⟩,⟨by show 1<=sn + 1; omega,by show sn + 1<=50; omega,.inl ⟨h,rfl,rfl⟩⟩,by show 101 - (sn + 1) < 101 - sn; omega,rfl,(by repeat' (first | exact rfl | refine And.intro ?_ ?_)),rfl⟩,fun h => ⟨by unfold I64; omega,⟨x.a1,{ x.f1 with had := true,old := x.a.l.head },sn + 1,0⟩,⟨by show 1<=sn + 1; omega,by show sn + 1<=50; omega,by show sn + 1 = 3; omega,rfl,h,rfl⟩,by show 101 - (sn + 1) < 101 - sn; omega,rfl,(by repeat' (first | exact rfl | refine And.intro ?_ ?_)),rfl⟩⟩) fun h => absurd (aS h) (by show ¬ ¬ (sn : Int)<=100; omega)
 ·rintro ⟨sa,sf,sn,sp⟩ ⟨s1,s2,s3,s4,hz,s5⟩
  have s1 : 1<=sn := s1
  have s2 : sn<=50 := s2
  have s3 : sn = 3 := s3
  have e4 : sa = x.a1 := s4
  have e5 : sf = { x.f1 with had := true,old := x.a.l.head } := s5
  clear s4 s5
  subst e4 e5
  obtain ⟨hn0,ln,hb1,hb2,hh,⟨bi,bj,hat,hbc⟩,hby⟩ := hH hz
  have hk : (⟨#[]⟩ : ByteArray) = x.a.l.head.key := by rw [hh]
  have hi : x.b.id = x.a.l.head.id := by rw [hh]
  have hve : x.b.ver = x.a.l.head.ver := by rw [hh]
  have hl : (ln : Int) = x.a.l.head.line := by rw [hh]
  have hcl : x.b.cls = x.a.l.head.cls := by rw [hh]
  have hfit := ais g hat hbc
  have hs := dP x.b.cls
  have hw : jJ.w ⟨x.a1,x.f1,x.t,x.b,ln,0⟩ |>.ok := ⟨g.dok,hb1,hb2,hfit.2.1,by show ((0 : Nat) : Int) < spn x.b.cls; omega,hby⟩
  refine bH (fun _ => ⟨⟨x.a1,x.f1,x.t,x.b,ln,0⟩,⟨hw,rfl⟩,(by repeat' (first | exact rfl | exact hk | exact hi | exact hve | exact hl | exact hcl | refine And.intro ?_ ?_)),rfl,fun h => ⟨by unfold I64; omega,⟨x.a1,{ x.f1 with had := true,old := x.a.l.head,piece := ((1 : Nat) : Int) },sn + 1,1⟩,⟨aX 1,by show ((1 : Nat) : Int) < spn x.b.cls; have h : (1 : Int) ≠ spn x.b.cls := h; omega,by show sn + 1 = 3 + 1; omega,rfl,hz,rfl⟩,by show 101 - (sn + 1) < 101 - sn; omega,rfl,⟨rfl,fun q _ => rfl⟩,(by repeat' (first | exact rfl | exact hk.symm | exact hi.symm | exact hve.symm | exact hl.symm | exact hcl.symm | refine And.intro ?_ ?_)),rfl⟩,fun h => ⟨by unfold I64; omega,⟨x.a1,{ x.f2 with piece := 1 },sn + 1,0⟩,⟨by show 1<=sn + 1; omega,by show sn + 1<=50; omega,by show sn + 1 = 3 + x.b.dD; have h : (1 : Int) = spn x.b.cls := h.1; have := (jA x.b).2; omega,rfl,hz,1,rfl⟩,by show 101 - (sn + 1) < 101 - sn; omega,rfl,(by repeat' (first | exact rfl | exact hk.symm | exact hi.symm | exact hve.symm | exact hl.symm | exact hcl.symm | refine And.intro ?_ ?_)),rfl⟩,fun h => absurd h.2 (show ¬ (0 : Int)<=-1 by decide)⟩) fun h => absurd (aS h) (by show ¬ ¬ (sn : Int)<=100; omega)
 ·rintro ⟨sa,sf,sn,sp⟩ ⟨p1,p2,s3,s4,hz,s5⟩
  have p1 : 1<=sp := p1
  have p2 : (sp : Int) < spn x.b.cls := p2
  have s3 : sn = 3 + sp := s3
  have e4 : sa = x.a1 := s4
  have e5 : sf = { x.f1 with had := true,old := x.a.l.head,piece := (sp : Int) } := s5
  clear s4 s5
  subst e4 e5
  obtain ⟨hn0,ln,hb1,hb2,hh,⟨bi,bj,hat,hbc⟩,hby⟩ := hH hz
  have hk : (⟨#[]⟩ : ByteArray) = x.a.l.head.key := by rw [hh]
  have hi : x.b.id = x.a.l.head.id := by rw [hh]
  have hve : x.b.ver = x.a.l.head.ver := by rw [hh]
  have hl : (ln : Int) = x.a.l.head.line := by rw [hh]
  have hcl : x.b.cls = x.a.l.head.cls := by rw [hh]
  have hfit := ais g hat hbc
  have hs := dP x.b.cls
  have hw : jJ.w ⟨x.a1,x.f1,x.t,x.b,ln,sp⟩ |>.ok := ⟨g.dok,hb1,hb2,hfit.2.1,p2,hby⟩
  refine bH (fun _ => ⟨⟨x.a1,x.f1,x.t,x.b,ln,sp⟩,⟨hw,by show sp ≠ 0; omega⟩,(by repeat' (first | exact rfl | exact hk | exact hi | exact hve | exact hl | exact hcl | refine And.intro ?_ ?_)),⟨rfl,rfl,fun q _ => rfl⟩,fun h => ⟨by unfold I64; omega,⟨x.a1,{ x.f1 with had := true,old := x.a.l.head,piece := ((sp + 1 : Nat) : Int) },sn + 1,sp + 1⟩,⟨by show 1<=sp + 1; omega,by show ((sp + 1 : Nat) : Int) < spn x.b.cls; have h : (sp : Int) + 1 ≠ spn x.b.cls := h; omega,by show sn + 1 = 3 + (sp + 1); omega,rfl,hz,rfl⟩,by show 101 - (sn + 1) < 101 - sn; omega,rfl,⟨rfl,fun q _ => rfl⟩,(by repeat' (first | exact rfl | exact hk.symm | exact hi.symm | exact hve.symm | exact hl.symm | exact hcl.symm | refine And.intro ?_ ?_)),rfl⟩,fun h => ⟨by unfold I64; omega,⟨x.a1,{ x.f2 with piece := (sp : Int) + 1 },sn + 1,0⟩,⟨by show 1<=sn + 1; omega,by show sn + 1<=50; omega,by show sn + 1 = 3 + x.b.dD; have h : (sp : Int) + 1 = spn x.b.cls := h.1; have := (jA x.b).2; omega,rfl,hz,_,rfl⟩,by show 101 - (sn + 1) < 101 - sn; omega,rfl,(by repeat' (first | exact rfl | exact hk.symm | exact hi.symm | exact hve.symm | exact hl.symm | exact hcl.symm | refine And.intro ?_ ?_)),rfl⟩,fun h => absurd h.2 (show ¬ (0 : Int)<=-1 by decide)⟩) fun h => absurd (aS h) (by show ¬ ¬ (sn : Int)<=100; omega)
 ·rintro ⟨sa,sf,sn,sp⟩ ⟨s1,s2,s3,s4,hz,q,s5⟩
  have s1 : 1<=sn := s1
  have s2 : sn<=50 := s2
  have s3 : sn = 3 + x.b.dD := s3
  have hs9 := (jA x.b).1
  have e4 : sa = x.a1 := s4
  have e5 : sf = { x.f2 with piece := q } := s5
  clear s4 s5
  subst e4 e5
  refine bH (fun _ => ⟨⟨x.a1,{ x.f2 with piece := q },x.t⟩,⟨g.pg.1,hv⟩,(by repeat' (first | exact rfl | refine And.intro ?_ ?_)),rfl,fun h => ⟨by unfold I64; omega,⟨x.a1,{ x.f2 with cls := 0,ans := ⟨#[]⟩,code := 4,piece := q },sn + 1,0⟩,⟨by show 1<=sn + 1; omega,by show sn + 1<=50; omega,.inr (.inl ⟨hz,h,rfl,q,rfl⟩)⟩,by show 101 - (sn + 1) < 101 - sn; omega,rfl,(by repeat' (first | exact rfl | refine And.intro ?_ ?_)),rfl⟩,fun y hy => ⟨by unfold I64; omega,⟨x.a2 5 y.1 y.2 0,{ x.f2 with line := x.ln 5 y.1 y.2,cls := 0,piece := 0 },sn + 1,0⟩,⟨by show 1<=sn + 1; omega,by show sn + 1<=50; omega,by show sn + 1 = 4 + x.b.dD; omega,hz,y.1,y.2,hy,rfl,rfl⟩,by show 101 - (sn + 1) < 101 - sn; omega,rfl,?_,?_⟩⟩) fun h => absurd (aS h) (by show ¬ ¬ (sn : Int)<=100; omega)
  ·exact ⟨rfl,rfl,rfl,rfl,rfl,rfl,rfl,rfl,rfl,ln5 g hy,rfl,rfl,rfl,rfl,rfl,rfl⟩
  ·rfl
 ·rintro ⟨sa,sf,sn,sp⟩ ⟨s1,s2,s3,hz,i,j,ht,s4,s5⟩
  have s1 : 1<=sn := s1
  have s2 : sn<=50 := s2
  have s3 : sn = 4 + x.b.dD := s3
  have hs9 := (jA x.b).1
  have e4 : sa = x.a2 5 i j 0 := s4
  have e5 : sf = { x.f2 with line := x.ln 5 i j,cls := 0,piece := 0 } := s5
  clear s4 s5
  subst e4 e5
  have hd := g.dst
  have hw : lN.w ⟨x.a2 5 i j 0,{ x.f2 with line := x.ln 5 i j,cls := 0,piece := 0 },x.t,x.ln 5 i j,0,0⟩ |>.ok := ⟨g.dok,show (0 : Int)<=0 by decide,show (0 : Int)<=3 by decide,by show ((x.ln 5 i j : Nat) : Int) + spn 0<=x.a.d.n; have := aos g ht; rw [show spn 0 = 1 from rfl]; omega,show ((0 : Nat) : Int) < spn 0 by decide,hv,g.dok.2.2.1,by show x.a.d.st + 10 < _; omega⟩
  refine bH (fun _ => ⟨⟨x.a2 5 i j 0,{ x.f2 with line := x.ln 5 i j,cls := 0,piece := 0 },x.t,x.ln 5 i j,0,0⟩,⟨hw,rfl⟩,(by repeat' (first | exact rfl | refine And.intro ?_ ?_)),rfl,fun h => absurd rfl h,fun _ => ⟨by unfold I64; omega,⟨x.a2 5 i j (x.sp 5),{ x.f2 with line := x.ln 5 i j,cls := 0,piece := 0 },sn + 1,0⟩,⟨by show 1<=sn + 1; omega,by show sn + 1<=50; omega,by show sn + 1 = 5 + x.b.dD; omega,hz,i,j,ht,rfl,rfl⟩,by show 101 - (sn + 1) < 101 - sn; omega,rfl,(by repeat' (first | exact rfl | refine And.intro ?_ ?_)),rfl⟩⟩) fun h => absurd (aS h) (by show ¬ ¬ (sn : Int)<=100; omega)
 ·rintro ⟨sa,sf,sn,sp⟩ ⟨s1,s2,s3,hz,i,j,ht,s4,s5⟩
  have s1 : 1<=sn := s1
  have s2 : sn<=50 := s2
  have s3 : sn = 5 + x.b.dD := s3
  have hs9 := (jA x.b).1
  have e4 : sa = x.a2 5 i j (x.sp 5) := s4
  have e5 : sf = { x.f2 with line := x.ln 5 i j,cls := 0,piece := 0 } := s5
  clear s4 s5
  subst e4 e5
  refine bH (fun _ => ⟨x.pb 5 i j x.f2,aot g hv hz hH ht,(by repeat' (first | exact rfl | refine And.intro ?_ ?_)),rfl,by unfold I64; omega,⟨(x.pb 5 i j x.f2).chg.deq,{ x.f2 with cls := 0,piece := 0,found := true,aep := x.a.c.now },sn + 1,0⟩,⟨by show 1<=sn + 1; omega,by show sn + 1<=50; omega,.inr (.inr ⟨by show sn + 1 = 6 + x.b.dD; omega,hz,i,j,ht,rfl,rfl⟩)⟩,by show 101 - (sn + 1) < 101 - sn; omega,rfl,(by repeat' (first | exact rfl | refine And.intro ?_ ?_)),rfl⟩) fun h => absurd (aS h) (by show ¬ ¬ (sn : Int)<=100; omega)
 ·rintro ⟨sa,sf,sn,sp⟩ ⟨s1,s2,hh⟩
  have s1 : 1<=sn := s1
  have s2 : sn<=50 := s2
  have back : x.a1.nT x.t 0 = x.a := UA g.out _
  rcases hh with ⟨hz,s4,s5⟩ | ⟨hz,hf,s4,q,s5⟩ | ⟨s3,hz,i,j,ht,s4,s5⟩
  ·have e4 : sa = x.a1 := s4
   have e5 : sf = x.f1 := s5
   clear s4 s5
   subst e4 e5
   refine bH (fun _ => ⟨⟨x.a1,x.f1,x.t⟩,⟨g.rok,g.tr⟩,(by repeat' (first | exact rfl | refine And.intro ?_ ?_)),rfl,.inl ⟨sn,hz,(by repeat' (first | exact rfl | refine And.intro ?_ ?_)),?_⟩⟩) fun h => absurd (aS h) (by show ¬ ¬ (sn : Int)<=100; omega)
   show ownM x.a.os = ownM (x.a1.nT x.t 0).os
   rw [back]
  ·have e4 : sa = x.a1 := s4
   have e5 : sf = { x.f2 with cls := 0,ans := ⟨#[]⟩,code := 4,piece := q } := s5
   clear s4 s5
   subst e4 e5
   refine bH (fun _ => ⟨⟨x.a1,{ x.f2 with cls := 0,ans := ⟨#[]⟩,code := 4,piece := q },x.t⟩,⟨g.rok,g.tr⟩,(by repeat' (first | exact rfl | refine And.intro ?_ ?_)),rfl,.inr (.inl ⟨sn,⟨hz,hf⟩,(by repeat' (first | exact rfl | refine And.intro ?_ ?_)),?_⟩)⟩) fun h => absurd (aS h) (by show ¬ ¬ (sn : Int)<=100; omega)
   show ownM x.a.os = ownM (x.a1.nT x.t 0).os
   rw [back]
  ·have e4 : sa = (x.pb 5 i j x.f2).chg.deq := s4
   have e5 : sf = { x.f2 with cls := 0,piece := 0,found := true,aep := x.a.c.now } := s5
   clear s4 s5
   subst e4 e5
   refine bH (fun _ => ⟨⟨(x.pb 5 i j x.f2).chg.deq,{ x.f2 with cls := 0,piece := 0,found := true,aep := x.a.c.now },x.t⟩,⟨g.rok,g.tr⟩,(by repeat' (first | exact rfl | refine And.intro ?_ ?_)),rfl,.inr (.inr ⟨(i,j),⟨hz,ht⟩,⟨(by repeat' (first | exact rfl | refine And.intro ?_ ?_)),(by show ((6 + x.b.dD : Nat) : Int) = sn; have s3 : sn = 6 + x.b.dD := s3; omega)⟩,rfl⟩)⟩) fun h => absurd (aS h) (by show ¬ ¬ (sn : Int)<=100; omega)
theorem aou : bV Tryz.prog 15 (runD fun x => sW x.a x.t/\x.v.size<=400/\(x.a.l.n ≠ 0->x.a.n ≠ 0/\∃ ln,KR x.a x.b ln)) := gG dI mixed UD annD 200 6 (fun _ => rfl) (fun _ => ⟨fun _ => rfl,fun _ => rfl,fun _ => rfl,trivial⟩) fun x hx => Eq.mp (aik x) (Ya (aY.1 hx).1 (aY.1 hx).2.1 (aY.1 hx).2.2)
end
end Go.Proofs.YtenfleoejgjklaaGreat
end
section
namespace Go.Proofs.YtenfleoejgjklaaGreat
open Go SE
set_option linter.unusedSimpArgs false
end Go.Proofs.YtenfleoejgjklaaGreat
end
section
namespace Go.Proofs.YtenfleoejgjklaaGreat
open Go SE
set_option linter.unusedSimpArgs false
theorem mod2 {a n : Nat} (h : a < 2 * n) : a % n = if a < n then a else a - n := by
 split
 ·exact Nat.mod_eq_of_lt ‹_›
 ·rw [Nat.mod_eq_sub_mod (by omega),Nat.mod_eq_of_lt (by omega)]
theorem Du {l : ZLn} (h : l.ok) (x : dw) {i : Nat} (hi : i<=l.n) : (l.push x).get i = if i = l.n then x else l.get i := by
 obtain ⟨h1,h2,h3,h4,h5⟩ := h
 unfold ZLn.push
 by_cases hn : l.n = l.len
 ·rw [if_pos hn]
  show (fun i => if i < l.n then l.get i else if i = l.n then x else oz) ((0 + i) % (l.n + 1)) = _
  rw [ay,Nat.mod_eq_of_lt (by omega)]
  by_cases e : i = l.n
  ·subst e; simp
  ·rw [if_neg e]; exact if_pos (by omega)
 ·rw [if_neg hn]
  have := h5 (by omega)
  show (fun j => if j = (l.at_ + l.n) % l.len then x else l.e j) ((l.at_ + i) % l.len) = _
  by_cases e : i = l.n
  ·subst e; simp
  ·rw [if_neg e]
   refine (if_neg ?_).trans rfl
   rw [mod2 (a := l.at_ + i) (by omega),mod2 (a := l.at_ + l.n) (by omega)]
   split <;> split <;> omega
theorem yO (l : ZLn) (x : dw) : (l.push x).n = l.n + 1 := by unfold ZLn.push; split <;> rfl
theorem aov {l : ZLn} (h : l.ok) (x : dw) {N : Nat} (hc : l.cap<=2 * N + 1) (hn : l.n<=N) (hN : N<=1000) : (l.push x).ok/\(l.push x).cap<=2 * (N + 1) + 1 := by
 obtain ⟨h1,h2,h3,h4,h5⟩ := h
 unfold ZLn.push ZLn.ok
 split
 ·exact ⟨⟨by show 2 * l.n + 1 < _; omega,by show l.n + 1<=2 * l.n + 1; omega,aX _,fun _ => rfl,fun _ => Nat.succ_pos _⟩,by show 2 * l.n + 1<=_; omega⟩
 ·exact ⟨⟨by show l.cap < _; omega,h2,by show l.n + 1<=l.len; omega,h4,h5⟩,by show l.cap<=_; omega⟩
theorem Po {l : ZLn} (h : l.ok) (hz : l.n ≠ 0) {i : Nat} (hi : i + 1 < l.n) : l.pop.get i = l.get (i + 1) := by
 obtain ⟨h1,h2,h3,h4,h5⟩ := h
 have := h5 (by omega)
 unfold ZLn.pop
 rw [if_neg hz]
 show (fun j => if j = l.at_ then oz else l.e j) (((l.at_ + 1) % l.len + i) % l.len) = l.e ((l.at_ + (i + 1)) % l.len)
 have e : ((l.at_ + 1) % l.len + i) % l.len = (l.at_ + (i + 1)) % l.len := by rw [Nat.mod_add_mod]; congr 1; omega
 rw [e]
 refine if_neg ?_
 rw [mod2 (by omega)]
 split <;> omega
theorem aow {l : ZLn} (hz : l.n ≠ 0) : l.pop.n = l.n - 1 := by unfold ZLn.pop; rw [if_neg hz]
theorem aqe {l : ZLn} (h : l.ok) (hz : l.n ≠ 0) : l.pop.ok/\l.pop.cap = l.cap := by
 obtain ⟨h1,h2,h3,h4,h5⟩ := h
 unfold ZLn.pop
 rw [if_neg hz]
 exact ⟨⟨h1,h2,by show l.n - 1<=l.len; omega,fun e => absurd e (by show ¬ l.len = 0; omega),fun _ => Nat.mod_lt _ (by show 0 < l.len; omega)⟩,rfl⟩
theorem Dv {l : ZLn} (hz : l.n ≠ 0) : l.head = l.get 0 := if_neg hz
structure Good (a : ZArn) (t N : Nat) (b : Nat->dL) : Prop where
 dok : a.d.ok
 dst : a.d.st<=20 * N + 20
 rok : a.r.ok
 cok : a.c.ok
 tc : t < a.c.t
 tr : t < a.r.t
 out : a.r.has t = 0
 pg : a.p.good
 fit : 2 + a.p.n * 8<=a.d.n
 bok : a.b.ok
 lok : a.l.ok
 adE : a.l.cap<=2 * N + 1
 ln : a.l.n<=N
 id0 : 0<=a.id
 id1 : a.id<=N
 v0 : 0<=a.ver
 v1 : a.ver<=N
 nn : a.n<=N
 now : a.c.now = 1
 owed : ∀ k,a.c.o k<=8 * N
 used : ∀ L : Int,2<=L->(oN.inL ⟨a.b,a.l,L⟩ ∨ oN.inB ⟨a.b,a.l,L⟩)->a.p.has L
 nz : a.l.n ≠ 0->a.n ≠ 0
 q : ∀ i,i < a.l.n->∃ ln : Nat,a.l.get i = ⟨⟨#[]⟩,(b i).id,(b i).ver,ln,(b i).cls⟩/\ZBy.ok ⟨a.d,b i,ln⟩/\∃ i' j',a.p.at_ ln i' j'/\a.p.cls i' = (b i).cls
section
variable {a : ZArn} {t N : Nat} {b : Nat->dL}
theorem Good.A (g : Good a t N b) (hN : N<=1000) : sW a t where
 dok := g.dok
 dst := by have := g.dst; omega
 rok := g.rok
 cok := g.cok
 tc := g.tc
 tr := g.tr
 out := g.out
 pg := g.pg
 fit := g.fit
 bok := g.bok
 lok := g.lok
 ln := by have := g.ln; omega
 id0 := g.id0
 id1 := by have := g.id1; omega
 v0 := g.v0
 v1 := by have := g.v1; omega
 nn := by have := g.nn; omega
 adC := by rw [g.now]; decide
 adD := by rw [g.now]; decide
 owed := fun k => by have := g.owed k; omega
 used := g.used
theorem Good.head (g : Good a t N b) (hz : a.l.n ≠ 0) : a.n ≠ 0/\∃ ln,KR a (b 0) ln := by
 obtain ⟨ln,h1,h2,h3⟩ := g.q 0 (by omega)
 exact ⟨g.nz hz,ln,h2.2.1,h2.2.2.1,by rw [Dv hz]; exact h1,h3,h2.2.2.2.2⟩
theorem dW_b {x : iI} (k : Int) (i j : Nat) : ∀ p,∀ m r : Nat,r < 64->(x.dW k i j p).b (m * 193 + r) =
  if x.ln k i j<=m/\m < x.ln k i j + p then (if m = x.ln k i j then (dL.mk (x.c k) 0 0 0 0 ⟨#[]⟩ ⟨#[]⟩).jy (fun _ => 0) (cpc (x.c k)).toNat r else (dL.mk (x.c k) 2 0 0 0 ⟨#[]⟩ x.v).enc (64 * (m - x.ln k i j) + r)) else x.a.d.b (m * 193 + r)
 | 0,m,r,_ => by rw [if_neg (by omega)]; rfl
 | p + 1,m,r,hr => by
  have ih := dW_b (x := x) k i j p m r hr
  show (ZWr.d' ⟨x.dW k i j p,x.t,x.f1,x.ln k i j,x.c k,p⟩).b (m * 193 + r) = _
  unfold ZWr.d'
  by_cases e : p = 0
  ·subst e
   rw [if_pos rfl]
   show (if x.ln k i j * 193 + 0<=m * 193 + r/\m * 193 + r < x.ln k i j * 193 + 0 + 64 then (dL.mk (x.c k) 0 0 0 0 ⟨#[]⟩ ⟨#[]⟩).jy (fun _ => 0) (cpc (x.c k)).toNat (m * 193 + r - (x.ln k i j * 193 + 0)) else (x.dW k i j 0).b (m * 193 + r)) = _
   by_cases h : m = x.ln k i j
   ·rw [if_pos (by omega),if_pos (by omega),if_pos h,show m * 193 + r - (x.ln k i j * 193 + 0) = r by omega]
   ·rw [if_neg (by omega),if_neg (by omega),ih,if_neg (by omega)]
  ·rw [if_neg e]
   show (if (x.ln k i j + p) * 193 + 0<=m * 193 + r/\m * 193 + r < (x.ln k i j + p) * 193 + 0 + 64 then (dL.mk (x.c k) 2 0 0 0 ⟨#[]⟩ x.v).enc (64 * p + (m * 193 + r - ((x.ln k i j + p) * 193 + 0))) else (x.dW k i j p).b (m * 193 + r)) = _
   by_cases h : m = x.ln k i j + p
   ·rw [if_pos (by omega),if_pos (by omega),if_neg (by omega),show 64 * p + (m * 193 + r - ((x.ln k i j + p) * 193 + 0)) = 64 * (m - x.ln k i j) + r by omega]
   ·rw [if_neg (by omega),ih]
    by_cases h2 : x.ln k i j<=m/\m < x.ln k i j + p
    ·rw [if_pos h2,if_pos (show x.ln k i j<=m/\m < x.ln k i j + (p + 1) by omega)]
    ·rw [if_neg h2,if_neg (by omega)]
theorem Yb {x y : dL} (hk : x.key = y.key) (hv : x.value = y.value) {m : Nat} (hm : 64<=m) : x.enc m = y.enc m := by
 unfold dL.enc
 rw [if_neg (show ¬ m < 64 by omega),if_neg (show ¬ m < 64 by omega)]
 unfold dL.dat
 rw [hk,hv]
theorem qc (d : DevM) (k : Nat) (g : Nat->Int) (m r : Nat) (hr : r < 64) : (d.store k 0 64 g).b (m * 193 + r) = if m = k then g r else d.b (m * 193 + r) := by
 show (if k * 193 + 0<=m * 193 + r/\m * 193 + r < k * 193 + 0 + 64 then g (m * 193 + r - (k * 193 + 0)) else d.b (m * 193 + r)) = _
 by_cases h : m = k
 ·subst h; rw [if_pos (by omega),if_pos rfl,show m * 193 + r - (m * 193 + 0) = r by omega]
 ·rw [if_neg (by omega),if_neg h]
theorem ait {d d' : DevM} {c : dL} {ln L n : Nat} (h : lies d c ln) (hd : ∀ m r : Nat,r < 64->¬ (L<=m/\m < L + n)->d'.b (m * 193 + r) = d.b (m * 193 + r)) (ha : ln + c.dD<=L ∨ L + n<=ln) : lies d' c ln := fun q hq => by
 rw [hd _ _ (by omega) (by omega)]; exact h q hq
theorem Pq {p p' : cO} (h : ∀ L i j,p.at_ L i j->p'.at_ L i j/\p'.cls i = p.cls i) {L : Int} (hp : p.has L) : p'.has L := by
 obtain ⟨i,j,h1⟩ := hp
 exact ⟨i,j,(h _ _ _ h1).1⟩
theorem aox {b : iD} {e : iw} {l : ZLn} {L : Int} (h : oN.inB ⟨b.put e,l,L⟩) : oN.inB ⟨b,l,L⟩ ∨ e.line = L ∨ e.anti = L := by
 obtain ⟨i,hi,hh⟩ := h
 unfold iD.put at hi hh
 by_cases hn : b.n < 258
 ·simp only [if_pos hn] at hi hh
  by_cases e : i = b.n
  ·simp only [if_pos e] at hh; exact .inr hh
  ·simp only [if_neg e] at hh; exact .inl ⟨i,by show i < b.n; omega,hh⟩
 ·simp only [if_neg hn] at hi hh; exact .inl ⟨i,hi,hh⟩
theorem aqf {b : iD} (h : b.ok) (e : iw) : (b.put e).ok := by
 unfold iD.put
 split
 ·exact ⟨by show b.n + 1<=258; omega,fun h => nomatch h⟩
 ·exact h
theorem take_at {p : cO} (hp : p.good) {c : Int} {i k : Nat} (h : p.takes c i k) : ∀ L i' j',p.at_ L i' j'->(p.take c i k).at_ L i' j'/\(p.take c i k).cls i' = p.cls i' := fun _ _ _ hL => aoo hp h hL
def pushB (b : Nat->dL) (n : Nat) (c : dL) : Nat->dL := fun i => if i = n then c else b i
theorem abj (g : Good a t N b) (hN : N<=900) (key v : ByteArray) (bb : dL) (hv : v.size<=400) {i j : Nat} (h : a.p.takes (ned v.size) i j) : Good (iI.aE ⟨a,t,key,v,bb⟩ i j) t (N + 1) (pushB b a.l.n ⟨ned v.size,2,a.id + 1,a.ver + 1,1,⟨#[]⟩,v⟩) := by
 have hA := g.A (by omega)
 let x : iI := ⟨a,t,key,v,bb⟩
 have hc4 : x.c 4 = ned v.size := if_pos rfl
 have ht : x.a.p.takes (x.c 4) i j := by rw [hc4]; exact h
 have hcc := aop (x := x) hv
 have hs := dP (x.c 4)
 obtain ⟨p1,p2,p3⟩ := aiq (x := x) hA hv ht
 obtain ⟨l1,l2⟩ := jH hA.pg hcc ht
 have hsp : x.sp 4 = (spn (x.c 4)).toNat := rfl
 obtain ⟨d1,d2,d3⟩ := aio (x := x) hA hv 4 hcc i j (x.sp 4) (by rw [hsp]; omega)
 have hb := dW_b (x := x) 4 i j (x.sp 4)
 have hbm := aip (x := x) hA hv i j
 obtain ⟨n1,n2⟩ := at_new hA.pg hcc.1 ht
 have hdst := g.dst
 have hnow : a.c.now = 1 := g.now
 let B : dL := ⟨ned v.size,2,a.id + 1,a.ver + 1,1,⟨#[]⟩,v⟩
 have hB : (x.pb 4 i j x.f1).chg.blk = B := by
  show dL.mk (x.c 4) 2 (a.id + 1) (a.ver + 1) a.c.now ⟨#[]⟩ v = B
  rw [hc4,hnow]
 have hBs : B.dD = x.sp 4 := by show (spn (ned v.size)).toNat = _; rw [hsp,hc4]
 have eln : x.ln 4 i j = 2 + i * 8 + j * (spn (x.c 4)).toNat := rfl
 let D : DevM := (x.dW 4 i j (x.sp 4)).store (x.ln 4 i j) 0 64 B.enc
 have hD : (iI.aE x i j).d = D := by
  show (x.dW 4 i j (x.sp 4)).store (x.ln 4 i j) 0 64 (x.pb 4 i j x.f1).chg.blk.enc = D
  rw [hB]
 have hDb : ∀ m r : Nat,r < 64->¬ (x.ln 4 i j<=m/\m < x.ln 4 i j + x.sp 4)->D.b (m * 193 + r) = a.d.b (m * 193 + r) := fun m r hr hm => by
  show ((x.dW 4 i j (x.sp 4)).store (x.ln 4 i j) 0 64 B.enc).b (m * 193 + r) = _
  rw [qc _ _ _ _ _ hr,if_neg (by rw [hsp] at hm; omega),hb m r hr,if_neg hm]
 have hDn : D.n = a.d.n := d2
 have al1 : D.ok := DevM.je d1 _ _ _ (qm (hB ▸ hbm)) (by rw [d3,hsp]; show a.d.st + _ + 1 < _; omega)
 have hnew : ZBy.ok ⟨D,B,x.ln 4 i j⟩ := by
  refine ⟨al1,hB ▸ hbm,rfl,?_,fun q hq => ?_⟩
  ·show ((x.ln 4 i j : Nat) : Int) + spn (ned v.size)<=D.n
   rw [hDn,← hc4]; have := g.fit; have : x.a.p.n = a.p.n := rfl; omega
  ·show ((x.dW 4 i j (x.sp 4)).store (x.ln 4 i j) 0 64 B.enc).b ((x.ln 4 i j + q / 64) * 193 + q % 64) = B.enc q
   have hq : q < 64 * B.dD := hq
   rw [hBs] at hq
   rw [qc _ _ _ _ _ (by omega)]
   by_cases e : q / 64 = 0
   ·rw [if_pos (by omega),show q % 64 = q by omega]
   ·rw [if_neg (by omega),hb _ _ (by omega),if_pos (show x.ln 4 i j<=x.ln 4 i j + q / 64/\x.ln 4 i j + q / 64 < x.ln 4 i j + x.sp 4 by omega),if_neg (show ¬ x.ln 4 i j + q / 64 = x.ln 4 i j by omega),show 64 * (x.ln 4 i j + q / 64 - x.ln 4 i j) + q % 64 = q by omega]
    exact Yb (x := ⟨x.c 4,2,0,0,0,⟨#[]⟩,x.v⟩) (y := B) rfl rfl (by omega)
 have hpo := aov g.lok ⟨⟨#[]⟩,a.id + 1,a.ver + 1,(x.ln 4 i j : Nat),x.c 4⟩ g.adE g.ln (by omega)
 have hln : (iI.aE x i j).l = a.l.push ⟨⟨#[]⟩,a.id + 1,a.ver + 1,(x.ln 4 i j : Nat),x.c 4⟩ := rfl
 have hno := E8 a.c t (x.ln 4 i j : Nat) (fun k => (g.cok.2.2.2.2.2 k).1)
 have hs8 := (jA B).1
 have hP : (iI.aE x i j).p = a.p.take (x.c 4) i j := rfl
 have aqg : (iI.aE x i j).c = a.c.notes t (x.ln 4 i j : Nat) (x.pb 4 i j x.f1).chg.blk.dD := rfl
 rw [hB] at aqg
 have hgood : (a.p.take (x.c 4) i j).good := yN hA.pg hcc ht
 refine { dok := by rw [hD]; exact al1,dst := ?_,rok := g.rok,cok := ?_,tc := ?_,tr := g.tr,out := ?_,pg := hgood,fit := by rw [hD,hDn]; exact g.fit,bok := g.bok,lok := hpo.1,adE := hpo.2,ln := ?_,id0 := ?_,id1 := ?_,v0 := ?_,v1 := ?_,nn := ?_,now := ?_,owed := fun k => ?_,used := fun L hL hu => ?_,nz := fun _ => Nat.succ_ne_zero _,q := fun m hm => ?_ }
 ·rw [hD]; show (x.dW 4 i j (x.sp 4)).st + 1<=_; rw [d3,hsp]; show a.d.st + _ + 1<=_; omega
 ·rw [aqg]; exact pV g.cok (fun k => by have := g.owed k; omega) _ _ hs8
 ·rw [aqg,mQ]; exact g.tc
 ·exact if_pos rfl
 ·rw [hln,yO]; have := g.ln; omega
 ·show 0<=a.id + 1; have := g.id0; omega
 ·show a.id + 1<=_; have := g.id1; omega
 ·show 0<=a.ver + 1; have := g.v0; omega
 ·show a.ver + 1<=_; have := g.v1; omega
 ·show a.n + 1<=N + 1; have := g.nn; omega
 ·rw [aqg,jU]; exact g.now
 ·rw [aqg]; have := (hno B.dD k).2; have := g.owed k; omega
 ·rcases hu with ⟨m,hm,hh⟩ | hu
  ·have hm : m < a.l.n + 1 := by rw [← yO a.l ⟨⟨#[]⟩,a.id + 1,a.ver + 1,(x.ln 4 i j : Nat),x.c 4⟩]; exact hm
   have hh : ((a.l.push ⟨⟨#[]⟩,a.id + 1,a.ver + 1,(x.ln 4 i j : Nat),x.c 4⟩).get m).line = L := hh
   rw [Du g.lok _ (by omega)] at hh
   by_cases e : m = a.l.n
   ·rw [if_pos e] at hh
    have hh : ((x.ln 4 i j : Nat) : Int) = L := hh
    exact ⟨i,j,by rw [← hh,eln]; rw [l1]; exact n1⟩
   ·rw [if_neg e] at hh
    exact Pq (take_at hA.pg ht) (g.used L hL (.inl ⟨m,by show m < a.l.n; omega,hh⟩))
  ·exact Pq (take_at hA.pg ht) (g.used L hL (.inr hu))
 ·have hm : m < a.l.n + 1 := by rw [← yO a.l ⟨⟨#[]⟩,a.id + 1,a.ver + 1,(x.ln 4 i j : Nat),x.c 4⟩]; exact hm
  rw [hln,Du g.lok _ (by omega),hD]
  unfold pushB
  by_cases e : m = a.l.n
  ·rw [if_pos e,if_pos e]
   exact ⟨x.ln 4 i j,by rw [hc4],hnew,i,j,by rw [eln,l1]; exact n1,n2.trans hc4⟩
  ·rw [if_neg e,if_neg e]
   obtain ⟨ln,q1,⟨q2,q3,q4,q5,q6⟩,i',j',q7,q8⟩ := g.q m (by omega)
   have hap := abh hA.pg hcc ht q7
   obtain ⟨q9,q10⟩ := take_at hA.pg ht _ _ _ q7
   have hsb := jA (b m)
   have e1 : ((x.ln 4 i j : Nat) : Int) = 2 + i * 8 + j * spn (x.c 4) := by rw [eln]; exact l1
   rw [q8,← e1] at hap
   have hsq : (x.sp 4 : Int) = spn (x.c 4) := by rw [hsp]; omega
   exact ⟨ln,q1,⟨al1,q3,q4,by show (ln : Int) + spn (b m).cls<=D.n; rw [hDn]; exact q5,ait (c := b m) (ln := ln) (L := x.ln 4 i j) (n := x.sp 4) q6 hDb (by omega)⟩,i',j',q9,q10.trans q8⟩
theorem abk {n t T m : Nat} {d : DevM} (hd : d.ok) (hn : d.n = n) (hs : d.st = 2) (hm : n = 10 + 8 * m) (hm2 : m<=31) (hT : 1<=T/\T<=4) (ht : t < T) (b : Nat->dL) : Good (newArn n T d) t 0 b where
 dok := hd
 dst := by show d.st<=_; rw [hs]; decide
 rok := ⟨hT.1,hT.2,show (1 : Int)<=1 by decide,show (1 : Int) < 4611686018427387904 by decide⟩
 cok := ⟨hT.1,hT.2,⟨show (0 : Int)<=0 + 1 by decide,show (0 : Int) + 1 < 4611686018427387904 by decide⟩,⟨Int.le_refl 0,show (0 : Int) < 4611686018427387904 by decide⟩,⟨Int.le_refl 0,show (0 : Int) < 4611686018427387904 by decide⟩,fun _ => ⟨Int.le_refl 0,show (0 : Int) < 1099511627776 by decide⟩⟩
 tc := ht
 tr := ht
 out := rfl
 pg := by
  refine ⟨⟨by show 1<=(n - 2) / 8; omega,by show (n - 2) / 8<=32; omega,fun i hi => ?_⟩,fun i hi => ?_⟩
  ·have hi : i < (n - 2) / 8 := hi
   show -1<=(if i < (n - 2) / 8 then (-1 : Int) else 0)/\(if i < (n - 2) / 8 then (-1 : Int) else 0)<=3/\(0 : Int)<=0/\(0 : Int)<=8
   rw [if_pos hi]; decide
  ·exact ⟨fun _ _ => rfl,fun k hk => (nomatch hk),(congrArg Int.ofNat (Uz (fun _ => rfl) 8)).symm⟩
 fit := by show 2 + (n - 2) / 8 * 8<=d.n; omega
 bok := ⟨Nat.zero_le _,fun _ => rfl⟩
 lok := ⟨show 0 < 1099511627776 by decide,aX 0,aX 0,fun _ => rfl,fun h => absurd rfl h⟩
 adE := Nat.zero_le _
 ln := aX 0
 id0 := Int.le_refl 0
 id1 := Int.le_refl 0
 v0 := Int.le_refl 0
 v1 := Int.le_refl 0
 nn := aX 0
 now := rfl
 owed := fun _ => Int.le_refl 0
 used := fun L _ hu => by
  rcases hu with ⟨i,hi,_⟩ | ⟨i,hi,_⟩ <;> exact absurd hi (Nat.not_lt_zero _)
 nz := fun h => absurd rfl h
 q := fun i hi => absurd hi (Nat.not_lt_zero _)
end
end Go.Proofs.YtenfleoejgjklaaGreat
end
section
namespace Go.Proofs.YtenfleoejgjklaaGreat
open Go SE
structure ai9 where
 code : Int
 found : Bool
 v : ByteArray
 ep : Int
 n : Nat
 a : ZArn
def ai9.av (y : ai9) : AV := .tup [aon y.code y.found y.v y.ep,i64 y.n,boo true]
def resE (x : iI) (y : ai9) : Prop :=
 (400 < x.v.size/\y.code = 5/\y.found = false/\y.v = ⟨#[]⟩/\y.a = x.a) ∨
 (x.v.size<=400/\(∀ i,i < x.a.p.n->x.a.p.cls i ≠ -1/\x.a.p.full (ned x.v.size) i)/\y.code = 4/\y.found = false/\y.v = ⟨#[]⟩/\y.a = x.a) ∨
 (x.v.size<=400/\y.code = 0/\y.found = false/\y.v = ⟨#[]⟩/\y.n = 4 + x.sp 4/\∃ i j,x.a.p.takes (ned x.v.size) i j/\y.a = x.aE i j)
def resD (x : iI) (y : ai9) : Prop :=
 (x.a.l.n = 0/\y.code = 0/\y.found = false/\y.v = ⟨#[]⟩/\y.a = x.a) ∨
 (x.a.l.n ≠ 0/\(∀ i,i < x.a.p.n->x.a.p.cls i ≠ -1/\x.a.p.full 0 i)/\y.code = 4/\y.found = false/\y.v = ⟨#[]⟩/\y.a = x.a) ∨
 (x.a.l.n ≠ 0/\y.code = 0/\y.found = true/\y.v = x.b.value/\y.n = 6 + x.b.dD/\∃ i j,x.a.p.takes 0 i j/\y.a = x.aD i j)
noncomputable def aqh : Ctr := { X := iI,args := fun x => [.ptr 0 0,i64 x.t,ald 4 x.key x.v],k := 1,os := fun x => [.abs (ownM x.a.os)],pre := fun x => Hd (sW x.a x.t),outs := [{ Y := ai9,post := fun x y => Hd (resE x y),ret := fun _ y => y.av,m := 1,os := fun _ y => [.abs (ownM y.a.os)] }] }
noncomputable def aqi : Ctr := { X := iI,args := fun x => [.ptr 0 0,i64 x.t,ald 5 x.key x.v],k := 1,os := fun x => [.abs (ownM x.a.os)],pre := fun x => Hd (sW x.a x.t/\x.v.size<=400/\(x.a.l.n ≠ 0->x.a.n ≠ 0/\∃ ln,KR x.a x.b ln)),outs := [{ Y := ai9,post := fun x y => Hd (resD x y),ret := fun _ y => y.av,m := 1,os := fun _ y => [.abs (ownM y.a.os)] }] }
theorem abl {X : Type} {x : X} {v : AV} {h' : Heap} {o p q : Out X} (h : nX x v h' [o,p,q]) : (∃ y,o.post x y/\v = o.ret x y/\h' = hO o.m (o.os x y)) ∨ (∃ y,p.post x y/\v = p.ret x y/\h' = hO p.m (p.os x y)) ∨ ∃ y,q.post x y/\v = q.ret x y/\h' = hO q.m (q.os x y) := by
 rw [jF] at h
 rcases h with h | h
 ·exact .inl h
 ·exact .inr (qW h)
theorem ale : bV Tryz.prog 15 aqh := qj fun x hx => by
 refine ⟨_,aor,rfl,x,hx,rfl,rfl,fun v h' hh => ?_⟩
 have hc : x.c 4 = ned x.v.size := if_pos rfl
 rcases abl hh with ⟨n,h0,h1,h2⟩ | ⟨n,h0,h1,h2⟩ | ⟨y,h0,h1,h2⟩
 ·exact fK ⟨⟨5,false,⟨#[]⟩,0,n,x.a⟩,aY.2 (.inl ⟨aY.1 h0,rfl,rfl,rfl,rfl⟩),h1,h2⟩
 ·have h0 := aY.1 h0
  exact fK ⟨⟨4,false,⟨#[]⟩,0,n,x.a⟩,aY.2 (.inr (.inl ⟨h0.1,by rw [← hc]; exact h0.2,rfl,rfl,rfl,rfl⟩)),h1,h2⟩
 ·have h0 := aY.1 h0
  exact fK ⟨⟨0,false,⟨#[]⟩,x.a.c.now,4 + x.sp 4,x.aE y.1 y.2⟩,aY.2 (.inr (.inr ⟨h0.1,rfl,rfl,rfl,rfl,y.1,y.2,by rw [← hc]; exact h0.2,rfl⟩)),h1,h2⟩
theorem alf : bV Tryz.prog 15 aqi := qj fun x hx => by
 refine ⟨_,aou,rfl,x,hx,rfl,rfl,fun v h' hh => ?_⟩
 rcases abl hh with ⟨n,h0,h1,h2⟩ | ⟨n,h0,h1,h2⟩ | ⟨y,h0,h1,h2⟩
 ·exact fK ⟨⟨0,false,⟨#[]⟩,0,n,x.a⟩,aY.2 (.inl ⟨aY.1 h0,rfl,rfl,rfl,rfl⟩),h1,h2⟩
 ·have h0 := aY.1 h0
  exact fK ⟨⟨4,false,⟨#[]⟩,0,n,x.a⟩,aY.2 (.inr (.inl ⟨h0.1,h0.2,rfl,rfl,rfl,rfl⟩)),h1,h2⟩
 ·have h0 := aY.1 h0
  exact fK ⟨⟨0,true,x.b.value,x.a.c.now,6 + x.b.dD,x.aD y.1 y.2⟩,aY.2 (.inr (.inr ⟨h0.1,rfl,rfl,rfl,rfl,y.1,y.2,h0.2,rfl⟩)),h1,h2⟩
noncomputable def runT : WTr := fun args h K => match args with
 | [a,t,.agg l] => (bif decide (intL l 0 = 4) then ctrT aqh else ctrT aqi) [a,t,.agg l] h K
 | _ => False
theorem aiu (args : List AV) (h : Heap) (K : AV->Heap->Prop) (hq : runT args h K) : Sp Tryz.prog 15 args h K := by
 unfold runT at hq
 split at hq
 ·exact ng _ (bT ale) (bT alf) _ _ _ hq
 ·exact hq.elim
noncomputable def Ik (sh : ZArn->List dF) (m r : Nat) : jw := { X := ZArn,args := fun _ => [.ptr 0 0],k := 1,l := fun a => [.m (sh a)],pre := fun _ => Hd True,outs := [{ Y := Unit,post := fun _ _ => True,ret := fun _ _ => .ptr r 0,m := m,l := fun a _ => (sh a).map PO.o }] }
noncomputable def aiv : Ctr := det Unit (fun _ => []) 0 (fun _ => []) (fun _ => True) (fun _ => boo true) 0 (fun _ => [])
noncomputable def aqj : WTbl := [(13,ctrT acW.ctr),(15,runT)]
end Go.Proofs.YtenfleoejgjklaaGreat
end
section
namespace Go.Proofs.YtenfleoejgjklaaGreat
open Go SE
set_option linter.unusedSimpArgs false
theorem Gp (x : ZSt) (hx : pX.pre x) : zX x := by
 have hx := aY.1 hx
 unfold zX
 simp only [aaU,aaW,aaV,AZ,lD,lF,qF,lC,sS,qE,jm,jo,aaK,yL,Cb,BZ]
 simp only [aY,aU,aT,ay,aH,bJ,bg,aN,aJ,au,aW,aV,bK,bC,bD,bF,bM,bf,bG,aZ,dY,aG,aK,ah,aj,aA,aC,aB,aF]
 refine ⟨⟨x.a.c,x.a.l,x.t,x.f⟩,hx,?_⟩
 repeat' (first | exact rfl | refine And.intro ?_ ?_ | exact fun _ _ => rfl)
theorem Gq (x : ZSt) (hx : pX.pre x) : zY x := by
 have hx := aY.1 hx
 unfold zY
 simp only [aaU,aaW,aaV,A8,lD,lF,qF,lC,sS,qE,Kz,jm,jo,aaK,yL,Cb,BZ]
 simp only [aY,aU,aT,ay,aH,bJ,bg,aN,aJ,au,aW,aV,bK,bC,bD,bF,bM,bf,bG,aZ,dY,aG,aK,ah,aj,aA,aC,aB,aF]
 refine ⟨⟨x.a.c,x.a.l,x.t,x.f⟩,hx,?_⟩
 repeat' (first | exact rfl | refine And.intro ?_ ?_ | exact fun _ _ => rfl)
theorem Gs (x : ZSt) (hx : pY.pre x) : zZ x := by
 have hx := aY.1 hx
 unfold zZ
 simp only [aaT,qG,sS,oV,aaL,AZ,lD,lF,qF,lC,KA,qE,jm,jo,yL,Cb,BZ]
 simp only [aY,aU,aT,ay,aH,bJ,bg,aN,aJ,au,aW,aV,bK,bC,bD,bF,bM,bf,bG,aZ,dY,aG,aK,ah,aj,aA,aC,aB,aF]
 refine ⟨⟨x.a.c,x.a.l,x.t,x.f⟩,hx,?_⟩
 repeat' (first | exact rfl | refine And.intro ?_ ?_ | exact fun _ _ => rfl)
theorem Gt (x : ZSt) (hx : pY.pre x) : Aa x := by
 have hx := aY.1 hx
 unfold Aa
 simp only [aaT,qG,sS,oV,aaL,A8,lD,lF,qF,lC,adq,qE,Kz,jm,jo,yL,Cb,BZ]
 simp only [aY,aU,aT,ay,aH,bJ,bg,aN,aJ,au,aW,aV,bK,bC,bD,bF,bM,bf,bG,aZ,dY,aG,aK,ah,aj,aA,aC,aB,aF]
 refine ⟨⟨x.a.c,x.a.l,x.t,x.f⟩,hx,?_⟩
 repeat' (first | exact rfl | refine And.intro ?_ ?_ | exact fun _ _ => rfl)
theorem Il (x : ZSt) (hx : yJ.pre x) : Gi x := by
 have hx := aY.1 hx
 unfold Gi
 simp only [aaS,qG,oV,aaR,Uf,aaO,aaP,aaM,jo,jm,BZ,AZ,lD,lF,qF,lC,KA,qE,Cb,yL]
 simp only [aY,aU,aT,ay,aH,bJ,bg,aN,aJ,au,aW,aV,bK,bC,bD,bF,bM,bf,bG,aZ,dY,aG,aK,ah,aj,aA,aC,aB,aF]
 refine ⟨⟨x.a.l,x.t,x.f⟩,hx,?_⟩
 simp only [aY,aU,aT,ay,aH,bJ,bg,aN,aJ,au,aW,aV,bK,bC,bD,bF,bM,bf,bG,aZ,dY,aG,aK,ah,aj,aA,aC,aB,aF]
 exact ⟨fun h => .inl h,fun h => .inr h⟩
theorem Io (x : ZSt) (hx : yJ.pre x) : Gj x := by
 have hx := aY.1 hx
 unfold Gj
 simp only [aaS,qG,oV,aaR,Ug,aaO,aaP,aaM,jo,jm,BZ,A8,lD,lF,qF,lC,adq,qE,Kz,Cb,yL]
 simp only [aY,aU,aT,ay,aH,bJ,bg,aN,aJ,au,aW,aV,bK,bC,bD,bF,bM,bf,bG,aZ,dY,aG,aK,ah,aj,aA,aC,aB,aF]
 refine ⟨⟨x.a.l,x.t,x.f⟩,hx,?_⟩
 simp only [aY,aU,aT,ay,aH,bJ,bg,aN,aJ,au,aW,aV,bK,bC,bD,bF,bM,bf,bG,aZ,dY,aG,aK,ah,aj,aA,aC,aB,aF]
 exact ⟨fun h => .inl h,fun h => .inr h⟩
theorem Ip (x : ahZ) (hx : yK.pre x) : Gl x := by
 have hx := aY.1 hx
 unfold Gl
 simp only [aaN,qG,oV,aaQ,AZ,lD,lF,lC,KA,qE,jm,jo,Cb,BZ]
 simp only [aY,aU,aT,ay,aH,bJ,bg,aN,aJ,au,aW,aV,bK,bC,bD,bF,bM,bf,bG,aZ,dY,aG,aK,ah,aj,aA,aC,aB,aF]
 refine ⟨⟨x.a.p,x.i,x.k,x.a.l,x.t,x.f⟩,hx,?_⟩
 repeat' (first | exact rfl | refine And.intro ?_ ?_ | exact fun _ _ => rfl)
theorem Iq (x : ahZ) (hx : yK.pre x) : Gm x := by
 have hx := aY.1 hx
 unfold Gm
 simp only [aaN,qG,oV,aaQ,A8,lD,lF,lC,adq,qE,Kz,jm,jo,Cb,BZ]
 simp only [aY,aU,aT,ay,aH,bJ,bg,aN,aJ,au,aW,aV,bK,bC,bD,bF,bM,bf,bG,aZ,dY,aG,aK,ah,aj,aA,aC,aB,aF]
 refine ⟨⟨x.a.p,x.i,x.k,x.a.l,x.t,x.f⟩,hx,?_⟩
 repeat' (first | exact rfl | refine And.intro ?_ ?_ | exact fun _ _ => rfl)
theorem adu : bV Tryz.prog 19 pX.M.ctr := ug (fun _ => ⟨fun _ => rfl,trivial⟩) (dM (bT KH) 10 (fun _ => ⟨rfl,rfl,rfl,rfl⟩) fun x hx => Eq.mp (OX x) (Gp x hx.1)) (dM (bT KH) 11 (fun _ => ⟨rfl,rfl,rfl,rfl⟩) fun x hx => Eq.mp (OY x) (Gq x hx.1))
theorem adv : bV Tryz.prog 19 pY.M.ctr := ug (fun _ => ⟨fun _ => rfl,trivial⟩) (dM (bT KI) 10 (fun _ => ⟨rfl,rfl,rfl,rfl⟩) fun x hx => Eq.mp (OZ x) (Gs x hx.1)) (dM (bT KI) 11 (fun _ => ⟨rfl,rfl,rfl,rfl⟩) fun x hx => Eq.mp (O1 x) (Gt x hx.1))
theorem aiw : bV Tryz.prog 19 yJ.M.ctr := ug (fun _ => ⟨fun _ => rfl,fun _ => rfl,trivial⟩) (dM (bT Us) 10 (fun _ => ⟨rfl,rfl,rfl,rfl⟩) fun x hx => Eq.mp (Uh x) (Il x hx.1)) (dM (bT Us) 11 (fun _ => ⟨rfl,rfl,rfl,rfl⟩) fun x hx => Eq.mp (Ui x) (Io x hx.1))
theorem aix : bV Tryz.prog 19 yK.M.ctr := ug (fun _ => ⟨fun _ => rfl,trivial⟩) (dM (bT Ur) 10 (fun _ => ⟨rfl,rfl,rfl,rfl⟩) fun x hx => Eq.mp (Uj x) (Ip x hx.1)) (dM (bT Ur) 11 (fun _ => ⟨rfl,rfl,rfl,rfl⟩) fun x hx => Eq.mp (Uk x) (Iq x hx.1))
theorem alg : bV Tryz.prog 19 aqc := qj fun x hx => by
 obtain ⟨⟨a,f,ph⟩,t,q⟩ := x
 have hx := aY.1 hx
 rcases hx with ⟨hp,h,q1,q2⟩ | ⟨hp,h,q1,q2⟩ | ⟨hp,ln,p,hf,h,q1,q2⟩ | ⟨hp,hd,ln,hl,h,q1⟩ | ⟨hp,hd,h,q1⟩ | ⟨hp,h,q1⟩ | ⟨hp,q1⟩
 all_goals (have hp : ph = _ := hp; subst hp)
 ·refine ⟨_,Kt,rfl,⟨a,f,t⟩,⟨aY.2 h,trivial⟩,rfl,rfl,fun v h' hh => ?_⟩
  rcases qW hh with ⟨y,h0,e1,e2⟩ | ⟨y,h0,e1,e2⟩
  ·exact fK ⟨⟨a,{ f with code := 5 },7⟩,aY.2 (q1 (aY.1 h0).2),e1,e2⟩
  ·exact fK ⟨⟨a.nT t a.r.now,{ f with epoch := a.c.now },3⟩,aY.2 (q2 ((aY.1 h0) rfl)),e1,e2⟩
 ·refine ⟨_,TW,rfl,⟨a,f,t⟩,⟨aY.2 h,trivial⟩,rfl,rfl,fun v h' hh => ?_⟩
  have hc : (ZSt.mk a f t).c 4 = ned f.value.size := if_pos rfl
  rcases qW hh with ⟨y,h0,e1,e2⟩ | ⟨y,h0,e1,e2⟩
  ·have h0 := aY.1 h0
   rw [hc] at h0
   exact fK ⟨⟨a,{ f with cls := ned f.value.size,ans := emp,code := 4 },6⟩,aY.2 (q1 h0),e1,e2⟩
  ·have h0 := aY.1 h0
   rw [hc] at h0
   exact fK ⟨⟨a.J7 (a.p.take (ned f.value.size) y.1 y.2),{ f with cls := ned f.value.size,line := 2 + y.1 * 8 + y.2 * spn (ned f.value.size),piece := 0 },4⟩,aY.2 (q2 _ _ h0),e1,e2⟩
 ·have hf : f = { f with line := (ln : Int),cls := f.cls,piece := (p : Int) } := hf
  refine ⟨_,Ut,rfl,⟨a,f,t,ln,f.cls,p⟩,⟨aY.2 h,trivial⟩,by show [_,_,_] = [_,_,_]; rw [hf]; first | done | rfl,rfl,fun v h' hh => ?_⟩
  rcases qW hh with ⟨y,h0,e1,e2⟩ | ⟨y,h0,e1,e2⟩
  ·exact fK ⟨⟨a.Hw (ZWr.mk a.d t f ln f.cls p).d',{ f with piece := (p + 1 : Nat) },4⟩,aY.2 (q1 (aY.1 h0)),e1.trans (by rw [hf]; first | done | rfl),e2⟩
  ·exact fK ⟨⟨a.Hw (ZWr.mk a.d t f ln f.cls p).d',{ f with piece := 0 },5⟩,aY.2 (q2 (aY.1 h0)),e1.trans (by rw [hf]; first | done | rfl),e2⟩
 ·have hf : f = { f with had := false,line := (ln : Int) } := by
   have hd : f.had = false := hd
   have hl : f.line = ln := hl
   rw [← hd,← hl]
  refine ⟨_,aaI,rfl,⟨a,f,t,ln⟩,aY.2 h,by show [_,_,_] = [_,_,_]; rw [hf]; first | done | rfl,rfl,fun v h' hh => ?_⟩
  obtain ⟨y,h0,e1,e2⟩ := nO hh
  exact fK ⟨⟨(ZTs.pb ⟨a,f,5⟩ t ln).chg.enq,{ f with found := false,aep := f.epoch,line := -1 },6⟩,aY.2 q1,e1.trans (by rw [hf]; first | done | rfl),e2⟩
 ·have hf : f = { f with had := false } := by
   have hd : f.had = false := hd
   rw [← hd]
  refine ⟨_,adu,rfl,⟨a,f,t⟩,⟨aY.2 h,trivial⟩,by show [_,_,_] = [_,_,_]; rw [hf]; first | done | rfl,rfl,fun v h' hh => ?_⟩
  obtain ⟨y,h0,e1,e2⟩ := nO hh
  exact fK ⟨⟨a,{ f with epoch := a.c.now },5⟩,aY.2 q1,e1.trans (by rw [hf]; first | done | rfl),e2⟩
 ·refine ⟨_,Kv,rfl,⟨a,f,t⟩,⟨aY.2 h,trivial⟩,rfl,rfl,fun v h' hh => ?_⟩
  obtain ⟨y,h0,e1,e2⟩ := nO hh
  exact fK ⟨⟨a.nT t 0,f,7⟩,aY.2 q1,e1,e2⟩
 ·refine ⟨_,ala,rfl,⟨a,f,t⟩,aY.2 trivial,rfl,rfl,fun v h' hh => ?_⟩
  obtain ⟨y,h0,e1,e2⟩ := nO hh
  exact fK ⟨⟨a,f,7⟩,aY.2 q1,e1,e2⟩
theorem aiy : bV Tryz.prog 19 alZ := qj fun x hx => by
 obtain ⟨⟨a,f,ph⟩,t,b,n,q⟩ := x
 obtain ⟨hn,hx⟩ := aY.1 hx
 have hn : n = 0 := hn
 subst hn
 rcases hx with ⟨hp,_,h,q1⟩ | ⟨hp,_,h,q1,q2⟩ | ⟨hp,_,i,k,h,hl,q1⟩ | ⟨hp,ln,hf,h,q1,q2⟩ | ⟨hp,_,h,q1,q2⟩ | ⟨hp,_,hc,ln,hf,h,q1⟩ | ⟨hp,_,hd,ln,hl,h,q1⟩ | ⟨hp,_,hd,h,q1⟩ | ⟨hp,_,h,q1⟩ | ⟨hp,_,q1⟩
 all_goals (have hp : ph = _ := hp; subst hp)
 ·refine ⟨_,Ku,rfl,⟨a,f,t⟩,⟨aY.2 h,trivial⟩,rfl,rfl,fun v h' hh => ?_⟩
  rcases qW hh with ⟨y,h0,e1,e2⟩ | ⟨y,h0,e1,e2⟩
  ·exact absurd (aY.1 h0).1 (by decide)
  ·exact fK ⟨⟨a.nT t a.r.now,{ f with epoch := a.c.now },1⟩,aY.2 q1,e1,e2⟩
 ·refine ⟨_,aiw,rfl,⟨a,f,t⟩,⟨aY.2 h,trivial⟩,rfl,rfl,fun v h' hh => ?_⟩
  rcases qW hh with ⟨y,h0,e1,e2⟩ | ⟨y,h0,e1,e2⟩
  ·exact fK ⟨⟨a,{ f with had := false,old := oz },6⟩,aY.2 (q1 (aY.1 h0)),e1,e2⟩
  ·exact fK ⟨⟨a,{ f with had := true,old := a.l.head,piece := 0 },2⟩,aY.2 (q2 (aY.1 h0)),e1,e2⟩
 ·have hl : f.line = fZ.line ⟨a.p,i,k⟩ := hl
  have hf : f = { f with line := fZ.line ⟨a.p,i,k⟩ } := by rw [← hl]
  refine ⟨_,aix,rfl,⟨a,f,t,i,k⟩,⟨aY.2 h,trivial⟩,by show [_,_,_] = [_,_,_]; rw [hf]; first | done | rfl,rfl,fun v h' hh => ?_⟩
  obtain ⟨y,h0,e1,e2⟩ := nO hh
  exact fK ⟨⟨a.J7 (a.p.give i k),{ f with had := false,old := oz,line := -1 },6⟩,aY.2 q1,e1,e2⟩
 ·have hf : f = (ZRe.mk a.d t f b ln 0).fr 0 := hf
  have h1 := h.2.2.2.2.1
  have h1 : ((0 : Nat) : Int) < spn b.cls := h1
  refine ⟨_,Ua,rfl,⟨a,f,t,b,ln,0⟩,⟨aY.2 ⟨h,rfl⟩,trivial⟩,by show [_,_,_] = [_,_,_]; rw [hf]; first | done | rfl,rfl,fun v h' hh => ?_⟩
  rcases abl hh with ⟨y,h0,e1,e2⟩ | ⟨y,h0,e1,e2⟩ | ⟨y,h0,e1,e2⟩
  ·exact Ru ⟨⟨a,{ f with piece := (1 : Nat) },2⟩,aY.2 ⟨q1 (aY.1 h0),rfl⟩,e1.trans (by rw [hf]; first | done | rfl),e2⟩
  ·obtain ⟨h0,h2⟩ := aY.1 h0
   have h2 : f.line < 0 := h2
   refine fK ⟨⟨a,{ f with piece := (1 : Nat),ans := b.value },if f.line < 0 then 3 else 5⟩,aY.2 (q2 h0),e1.trans ?_,e2⟩
   show _ = ZFr.av _ 5 (if f.line < 0 then 3 else 5) fJ
   rw [if_pos h2,hf]; rfl
  ·obtain ⟨h0,h2⟩ := aY.1 h0
   have h2 : 0<=f.line := h2
   refine fK ⟨⟨a,{ f with piece := (1 : Nat),ans := b.value },if f.line < 0 then 3 else 5⟩,aY.2 (q2 h0),e1.trans ?_,e2⟩
   show _ = ZFr.av _ 5 (if f.line < 0 then 3 else 5) fJ
   rw [if_neg (by omega),hf]; rfl
 ·refine ⟨_,TY,rfl,⟨a,f,t⟩,⟨aY.2 h,trivial⟩,rfl,rfl,fun v h' hh => ?_⟩
  have hc : (ZSt.mk a f t).c 5 = 0 := if_neg (by decide)
  rcases qW hh with ⟨y,h0,e1,e2⟩ | ⟨y,h0,e1,e2⟩
  ·have h0 := aY.1 h0
   rw [hc] at h0
   exact fK ⟨⟨a,{ f with cls := 0,ans := emp,code := 4 },6⟩,aY.2 (q1 h0),e1,e2⟩
  ·have h0 := aY.1 h0
   rw [hc] at h0
   exact fK ⟨⟨a.J7 (a.p.take 0 y.1 y.2),{ f with cls := 0,line := 2 + y.1 * 8 + y.2 * spn 0,piece := 0 },4⟩,aY.2 (q2 _ _ h0),e1,e2⟩
 ·have hf : f = { f with line := (ln : Int),cls := 0,piece := 0 } := hf
  refine ⟨_,Gh,rfl,⟨a,f,t,ln,0,0⟩,⟨aY.2 ⟨h,rfl⟩,trivial⟩,by show [_,_,_] = [_,_,_]; rw [hf]; first | done | rfl,rfl,fun v h' hh => ?_⟩
  rcases qW hh with ⟨y,h0,e1,e2⟩ | ⟨y,h0,e1,e2⟩
  ·exact absurd (show (1 : Int) = spn 0 from rfl) (aY.1 h0)
  ·exact fK ⟨⟨a.Hw (ZWr.mk a.d t f ln 0 0).d',{ f with piece := 0 },5⟩,aY.2 q1,e1.trans (by rw [hf]; first | done | rfl),e2⟩
 ·have hf : f = { f with had := true,line := (ln : Int) } := by
   have hd : f.had = true := hd
   have hl : f.line = ln := hl
   rw [← hd,← hl]
  refine ⟨_,aaJ,rfl,⟨a,f,t,ln⟩,aY.2 h,by show [_,_,_] = [_,_,_]; rw [hf]; first | done | rfl,rfl,fun v h' hh => ?_⟩
  obtain ⟨y,h0,e1,e2⟩ := nO hh
  exact fK ⟨⟨(ZTs.pb ⟨a,f,5⟩ t ln).chg.deq,{ f with found := true,aep := f.epoch,line := -1 },6⟩,aY.2 q1,e1.trans (by rw [hf]; first | done | rfl),e2⟩
 ·have hf : f = { f with had := true } := by
   have hd : f.had = true := hd
   rw [← hd]
  refine ⟨_,adv,rfl,⟨a,f,t⟩,⟨aY.2 h,trivial⟩,by show [_,_,_] = [_,_,_]; rw [hf]; first | done | rfl,rfl,fun v h' hh => ?_⟩
  obtain ⟨y,h0,e1,e2⟩ := nO hh
  exact fK ⟨⟨a,{ f with had := false,old := oz,ans := emp,epoch := a.c.now },1⟩,aY.2 q1,e1,e2⟩
 ·refine ⟨_,Kw,rfl,⟨a,f,t⟩,⟨aY.2 h,trivial⟩,rfl,rfl,fun v h' hh => ?_⟩
  obtain ⟨y,h0,e1,e2⟩ := nO hh
  exact fK ⟨⟨a.nT t 0,f,7⟩,aY.2 q1,e1,e2⟩
 ·refine ⟨_,alb,rfl,⟨a,f,t⟩,aY.2 trivial,rfl,rfl,fun v h' hh => ?_⟩
  obtain ⟨y,h0,e1,e2⟩ := nO hh
  exact fK ⟨⟨a,f,7⟩,aY.2 q1,e1,e2⟩
theorem aiz : bV Tryz.prog 19 al0 := qj fun x hx => by
 obtain ⟨⟨a,f,ph⟩,t,b,n,q⟩ := x
 obtain ⟨hn,hp,hx⟩ := aY.1 hx
 have hn : n ≠ 0 := hn
 have hp : ph = 2 := hp
 subst hp
 rcases hx with ⟨hp,_⟩ | ⟨hp,_⟩ | ⟨hp,_⟩ | ⟨hp,ln,hf,h,q1,q2⟩ | ⟨hp,_⟩ | ⟨hp,_⟩ | ⟨hp,_⟩ | ⟨hp,_⟩ | ⟨hp,_⟩ | ⟨hp,_⟩
 all_goals try exact absurd hp (by show ¬ (2 : Int) = _; decide)
 have hf : f = (ZRe.mk a.d t f b ln n).fr n := hf
 refine ⟨_,Ub,rfl,⟨a,f,t,b,ln,n⟩,⟨aY.2 ⟨h,hn⟩,trivial⟩,by show [_,_,_] = [_,_,_]; rw [hf]; first | done | rfl,rfl,fun v h' hh => ?_⟩
 rcases abl hh with ⟨y,h0,e1,e2⟩ | ⟨y,h0,e1,e2⟩ | ⟨y,h0,e1,e2⟩
 ·exact Ru ⟨⟨a,{ f with piece := (n + 1 : Nat) },2⟩,aY.2 ⟨q1 (aY.1 h0),rfl⟩,e1.trans (by rw [hf]; first | done | rfl),e2⟩
 ·obtain ⟨h0,h2⟩ := aY.1 h0
  have h2 : f.line < 0 := h2
  refine fK ⟨⟨a,{ f with piece := (n + 1 : Nat),ans := b.value },if f.line < 0 then 3 else 5⟩,aY.2 (q2 h0),e1.trans ?_,e2⟩
  show _ = ZFr.av _ 5 (if f.line < 0 then 3 else 5) fJ
  rw [if_pos h2,hf]; rfl
 ·obtain ⟨h0,h2⟩ := aY.1 h0
  have h2 : 0<=f.line := h2
  refine fK ⟨⟨a,{ f with piece := (n + 1 : Nat),ans := b.value },if f.line < 0 then 3 else 5⟩,aY.2 (q2 h0),e1.trans ?_,e2⟩
  show _ = ZFr.av _ 5 (if f.line < 0 then 3 else 5) fJ
  rw [if_neg (by omega),hf]; rfl
end Go.Proofs.YtenfleoejgjklaaGreat
end
section
namespace Go.Proofs.YtenfleoejgjklaaGreat
open Go SE
set_option linter.unusedSimpArgs false
theorem Yc {p : cO} (hp : p.good) {L : Int} {i j : Nat} (h : p.at_ L i j) : 2<=L/\L + spn (p.cls i)<=2 + p.n * 8/\0<=p.cls i/\p.cls i<=3 := by
 obtain ⟨h1,h2,h3,h4,h5⟩ := h
 have h6 := (hp.1.2.2 i h1).2.1
 refine ⟨?_,?_,h2,h6⟩
 all_goals (rcases gI (p.cls i) with m | m | m | m | m <;> obtain ⟨m1,m2,m3⟩ := m <;> rw [m2] at h5 <;> (try rw [m2]) <;> omega)
theorem alh {l : ZLn} (h : l.ok) (x : dw) {N : Nat} (hc : l.cap<=2 * N + 1) (hn : l.n<=N) (hN : N<=1000000) : (l.push x).ok/\(l.push x).cap<=2 * (N + 1) + 1 := by
 obtain ⟨h1,h2,h3,h4,h5⟩ := h
 unfold ZLn.push ZLn.ok
 split
 ·exact ⟨⟨by show 2 * l.n + 1 < _; omega,by show l.n + 1<=2 * l.n + 1; omega,aX _,fun _ => rfl,fun _ => Nat.succ_pos _⟩,by show 2 * l.n + 1<=_; omega⟩
 ·exact ⟨⟨by show l.cap < _; omega,h2,by show l.n + 1<=l.len; omega,h4,h5⟩,by show l.cap<=_; omega⟩
theorem aiA {p : cO} (hp : p.good) {L L' : Int} {i j i' j' : Nat} (h : p.at_ L i j) (h' : p.at_ L' i' j') (hne : L ≠ L') : L + spn (p.cls i)<=L' ∨ L' + spn (p.cls i')<=L := by
 obtain ⟨a1,a2,a3,a4,a5⟩ := h
 obtain ⟨b1,b2,b3,b4,b5⟩ := h'
 have a6 := (hp.1.2.2 i a1).2.1
 have b6 := (hp.1.2.2 i' b1).2.1
 by_cases e : i = i'
 ·subst e
  have hj : j ≠ j' := fun e => by subst e; exact hne (a5.trans b5.symm)
  rcases gI (p.cls i) with m | m | m | m | m <;> obtain ⟨m1,m2,m3⟩ := m <;> rw [m2] at a5 b5 ⊢ <;> omega
 ·rcases gI (p.cls i) with m | m | m | m | m <;> rcases gI (p.cls i') with m' | m' | m' | m' | m' <;> obtain ⟨m1,m2,m3⟩ := m <;> obtain ⟨m1',m2',m3'⟩ := m' <;> rw [m2] at a5 <;> rw [m2'] at b5 <;> rw [m2,m2'] <;> omega
structure Base (a : ZArn) (T M : Nat) (b : Nat->dL) : Prop where
 dok : a.d.ok
 dst : a.d.st<=M
 dfl : a.d.fl<=M
 dfe : a.d.fe<=M
 rok : a.r.ok
 rt : a.r.t = T
 cok : a.c.ok
 ct : a.c.t = T
 clos : a.c.clos = 0
 pg : a.p.good
 fit : 2 + a.p.n * 8<=a.d.n
 bok : a.b.ok
 lok : a.l.ok
 adE : a.l.cap<=2 * M + 1
 ln : a.l.n<=M
 id0 : 0<=a.id
 id1 : a.id<=M
 v0 : 0<=a.ver
 v1 : a.ver<=M
 nn : a.n<=M
 adC : 1<=a.c.now
 adD : a.c.now<=M
 owed : ∀ k,a.c.o k<=M
 nz : a.l.n ≠ 0->a.n ≠ 0
 used : ∀ L : Int,2<=L->(oN.inL ⟨a.b,a.l,L⟩ ∨ oN.inB ⟨a.b,a.l,L⟩)->a.p.has L
 q : ∀ i,i < a.l.n->∃ ln : Nat,a.l.get i = ⟨⟨#[]⟩,(b i).id,(b i).ver,ln,(b i).cls⟩/\ZBy.ok ⟨a.d,b i,ln⟩/\∃ i' j',a.p.at_ ln i' j'/\a.p.cls i' = (b i).cls
def Hold (a : ZArn) (ln : Nat) (c : Int) : Prop := (∃ i j,a.p.at_ ln i j/\a.p.cls i = c)/\(¬ oN.inL ⟨a.b,a.l,ln⟩)/\¬ oN.inB ⟨a.b,a.l,ln⟩
def dat (d : DevM) (ln : Nat) (v : ByteArray) (n : Nat) : Prop := ∀ m r : Nat,1<=m->m < n->r < 64->d.b ((ln + m) * 193 + r) = (dL.mk 0 2 0 0 0 ⟨#[]⟩ v).enc (64 * m + r)
section
variable {a : ZArn} {T M : Nat} {b : Nat->dL}
theorem Base.up (g : Base a T M b) {M' : Nat} (h : M<=M') : Base a T M' b :=
 { g with dst := by have := g.dst; omega,dfl := by have := g.dfl; omega,dfe := by have := g.dfe; omega,adE := by have := g.adE; omega,ln := by have := g.ln; omega,id1 := by have := g.id1; omega,v1 := by have := g.v1; omega,nn := by have := g.nn; omega,adD := by have := g.adD; omega,owed := fun k => by have := g.owed k; omega }
theorem Hold.fits {L : Nat} {c : Int} (h : Hold a L c) (g : Base a T M b) : 2<=L/\(L : Int) + spn c<=a.d.n/\0<=c/\c<=3/\L < 258/\a.d.n<=258 := by
 obtain ⟨⟨i,j,h1,rfl⟩,_⟩ := h
 obtain ⟨f1,f2,f3,f4⟩ := Yc g.pg h1
 have := g.fit
 have := g.dok.1
 have s := dP (a.p.cls i)
 refine ⟨by omega,by omega,f3,f4,by omega,this⟩
theorem Hold.apart {L : Nat} {c : Int} (h : Hold a L c) (g : Base a T M b) {m : Nat} (hm : m < a.l.n) {ln : Nat} (hl : (a.l.get m).line = ln) : ln + (b m).dD<=L ∨ L + (spn c).toNat<=ln := by
 obtain ⟨⟨i,j,h1,rfl⟩,h2,_⟩ := h
 obtain ⟨ln',q1,_,i',j',q2,q3⟩ := g.q m hm
 have e : (ln' : Int) = ln := by rw [← hl,q1]
 have e : ln' = ln := by omega
 subst e
 have hne : (ln' : Int) ≠ L := fun e => h2 ⟨m,hm,by show (a.l.get m).line = (L : Int); rw [hl,e]⟩
 have := aiA g.pg q2 h1 hne
 rw [q3] at this
 have s := jA (b m)
 have s2 := dP (a.p.cls i)
 omega
theorem Base.dev (g : Base a T M b) {d' : DevM} {M' : Nat} (hM : M<=M') (h1 : d'.ok) (h2 : d'.n = a.d.n) (h3 : d'.st<=M') (h4 : d'.fl<=M') (h5 : d'.fe<=M') {L n : Nat} (hb : ∀ m r : Nat,2<=m->r < 64->¬ (L<=m/\m < L + n)->d'.b (m * 193 + r) = a.d.b (m * 193 + r))
  (hs : ∀ m,m < a.l.n->∀ ln : Nat,(a.l.get m).line = ln->ln + (b m).dD<=L ∨ L + n<=ln) : Base (a.Hw d') T M' b := by
 have g' := g.up hM
 refine { g' with dok := h1,dst := h3,dfl := h4,dfe := h5,fit := by show 2 + a.p.n * 8<=d'.n; rw [h2]; exact g.fit,q := fun i hi => ?_ }
 have hi : i < a.l.n := hi
 obtain ⟨ln,q1,⟨q2,q3,q4,q5,q6⟩,i',j',q7,q8⟩ := g.q i hi
 have hf := Yc g.pg q7
 have hh := hs i hi ln (by rw [q1])
 refine ⟨ln,q1,⟨h1,q3,q4,by show (ln : Int) + spn (b i).cls<=d'.n; rw [h2]; exact q5,fun q hq => ?_⟩,i',j',q7,q8⟩
 have hq : q < 64 * (b i).dD := hq
 show d'.b ((ln + q / 64) * 193 + q % 64) = (b i).enc q
 rw [hb _ _ (by omega) (by omega) (by omega)]
 exact q6 q hq
theorem Hold.Hw {L : Nat} {c : Int} (h : Hold a L c) (d' : DevM) : Hold (a.Hw d') L c := h
theorem Base.write (g : Base a T M b) (hM : M<=1000000) {L : Nat} {c : Int} (h : Hold a L c) {t : Nat} {f : ZFr} (hv : f.value.size<=400) {p : Nat} (hp : (p : Int) < spn c) :
  (ZWr.mk a.d t f L c p).ok/\Base (a.Hw (ZWr.mk a.d t f L c p).d') T (M + 20) b/\(dat a.d L f.value p->dat (ZWr.mk a.d t f L c p).d' L f.value (p + 1))/\∀ m r : Nat,r < 64->¬ (L<=m/\m < L + (spn c).toNat)->(ZWr.mk a.d t f L c p).d'.b (m * 193 + r) = a.d.b (m * 193 + r) := by
 obtain ⟨f1,f2,f3,f4,f5,f6⟩ := h.fits g
 have hs := dP c
 have d1 := g.dst
 have d2 := g.dfl
 have d3 := g.dfe
 have hd := g.dok
 have w : (ZWr.mk a.d t f L c p).ok := ⟨hd,f3,f4,f2,hp,hv,hd.2.2.1,by show a.d.st + 10 < _; omega⟩
 have key : ∃ g0 : Nat->Int,(∀ q,0<=g0 q/\g0 q < 256)/\(ZWr.mk a.d t f L c p).d' = a.d.store (L + p) 0 64 g0/\(1<=p->∀ r,g0 r = (dL.mk c 2 0 0 0 ⟨#[]⟩ f.value).enc (64 * p + r)) := by
  unfold ZWr.d'
  by_cases e : p = 0
  ·subst e
   rw [if_pos rfl]
   exact ⟨_,Dt ⟨f3,f4⟩,rfl,fun h => absurd h (by decide)⟩
  ·rw [if_neg e]
   exact ⟨_,fun q => aan _ (by show 64<=64 * p + q; omega),rfl,fun _ r => rfl⟩
 obtain ⟨g0,k1,k2,k3⟩ := key
 have hb : ∀ m r : Nat,r < 64->¬ (L<=m/\m < L + (spn c).toNat)->(a.d.store (L + p) 0 64 g0).b (m * 193 + r) = a.d.b (m * 193 + r) := fun m r hr hm => by
  rw [qc _ _ _ _ _ hr,if_neg (by omega)]
 rw [k2]
 refine ⟨w,g.dev (by omega) (DevM.je hd _ _ _ k1 (by omega)) rfl (by show a.d.st + 1<=_; omega) (by show a.d.fl<=_; omega) (by show a.d.fe<=_; omega) (L := L) (n := (spn c).toNat) (fun m r _ hr hm => hb m r hr hm) (fun m hm ln hl => h.apart g hm hl),fun hdat m r h1 h2 h3 => ?_,hb⟩
 rw [qc _ _ _ _ _ h3]
 by_cases e : m = p
 ·subst e
  rw [if_pos rfl,k3 h1]
  exact Yb (x := dL.mk c 2 0 0 0 ⟨#[]⟩ f.value) (y := dL.mk 0 2 0 0 0 ⟨#[]⟩ f.value) rfl rfl (by omega)
 ·rw [if_neg (by omega)]
  exact hdat m r h1 (by omega) h3
theorem Base.take (g : Base a T M b) {c : Int} (hc : 0<=c/\c<=3) {i j : Nat} (h : a.p.takes c i j) : ∃ L : Nat,(L : Int) = 2 + i * 8 + j * spn c/\L = 2 + i * 8 + j * (spn c).toNat/\Base (a.J7 (a.p.take c i j)) T M b/\Hold (a.J7 (a.p.take c i j)) L c/\¬ a.p.has L := by
 obtain ⟨l1,l2⟩ := jH g.pg hc h
 obtain ⟨n1,n2⟩ := at_new g.pg hc.1 h
 have no := Pm g.pg hc h
 refine ⟨2 + i * 8 + j * (spn c).toNat,l1,rfl,?_,⟨⟨i,j,by rw [l1]; exact n1,n2⟩,?_,?_⟩,by rw [l1]; exact no⟩
 ·refine { g with pg := yN g.pg hc h,used := fun L hL hu => Pq (take_at g.pg h) (g.used L hL hu),q := fun m hm => ?_ }
  obtain ⟨ln,q1,q2,i',j',q7,q8⟩ := g.q m hm
  obtain ⟨q9,q10⟩ := take_at g.pg h _ _ _ q7
  exact ⟨ln,q1,q2,i',j',q9,q10.trans q8⟩
 ·intro hu
  exact no (l1 ▸ g.used _ (by omega) (.inl hu))
 ·intro hu
  exact no (l1 ▸ g.used _ (by omega) (.inr hu))
theorem Hold.take {L : Nat} {c0 : Int} (hh : Hold a L c0) (g : Base a T M b) {c : Int} {i j : Nat} (h : a.p.takes c i j) : Hold (a.J7 (a.p.take c i j)) L c0 := by
 obtain ⟨⟨i',j',h1,h2⟩,h3⟩ := hh
 obtain ⟨q1,q2⟩ := take_at g.pg h _ _ _ h1
 exact ⟨⟨i',j',q1,q2.trans h2⟩,h3⟩
theorem Base.nT (g : Base a T M b) {t : Nat} {v : Int} : Base (a.nT t v) T M b := { g with rok := g.rok,rt := g.rt }
theorem aiB {x : fV} {ln : Nat} (h : Hold x.a ln x.c) (hk : x.k = ln) : ∃ i j,x.inP i j := by
 obtain ⟨⟨i,j,⟨a1,a2,a3,a4,a5⟩,h2⟩,_⟩ := h
 exact ⟨i,j,a1,a2,a3,a4,by rw [hk]; exact a5,h2⟩
theorem Base.enq (g : Base a T M b) (hM : M<=1000000) {t L : Nat} (ht : t < T) {f : ZFr} (h : Hold a L f.cls) (hc : f.cls = ned f.value.size) (hv : f.value.size<=400) (he : f.epoch = a.c.now) (hd : dat a.d L f.value (spn f.cls).toNat) :
  ((ZPb.mk a f t L).chg.okE/\(∃ i j,(ZPb.mk a f t L).chg.inP i j)/\∀ k,a.c.o k + 8 < 1099511627776)/\Base (ZPb.mk a f t L).chg.enq T (M + 20) (pushB b a.l.n (ZPb.mk a f t L).chg.blk) := by
 obtain ⟨f1,f2,f3,f4,f5,f6⟩ := h.fits g
 have hs := dP f.cls
 have e1 := g.id0; have e2 := g.id1; have e3 := g.v0; have e4 := g.v1; have e5 := g.nn; have e6 := g.adC; have e7 := g.adD
 have e8 := g.dst; have e9 := g.dfl; have e10 := g.dfe; have e11 := g.ln
 let B : dL := (ZPb.mk a f t L).chg.blk
 have hBv : B.value = f.value := rfl
 have hBs : B.dD = (spn f.cls).toNat := rfl
 have hbm : B.may := by
  refine ⟨JY ⟨f3,f4⟩,.inr (.inr (.inl ⟨rfl,rfl,hv,?_,?_,?_,?_⟩))⟩
  ·show ned ((0 + f.value.size : Nat) : Int) = f.cls
   rw [hc,ay]
  ·show 1<=a.id + 1/\a.id + 1<=2305843009213693952; omega
  ·show 1<=a.ver + 1/\a.ver + 1<=2305843009213693952; omega
  ·show 1<=f.epoch/\f.epoch<=2305843009213693952; omega
 have ho := g.owed
 refine ⟨⟨⟨⟨g.dok,g.cok,g.lok,by show t < a.c.t; rw [g.ct]; exact ht,by show L < a.d.n; omega,hbm,by show f.value.size < _; omega,e1,e3,by show a.n < _; omega,f6⟩,g.pg.1,g.bok,by show a.l.n < _; omega,he.symm,by show a.ver < _; omega,by show a.id < _; omega,h.2.1,h.2.2⟩,aiB (x := (ZPb.mk a f t L).chg) h rfl,fun k => by have := ho k; omega⟩,?_⟩
 let D : DevM := a.d.store L 0 64 B.enc
 have hDb : ∀ m r : Nat,r < 64->¬ (L<=m/\m < L + (spn f.cls).toNat)->D.b (m * 193 + r) = a.d.b (m * 193 + r) := fun m r hr hm => by
  show (a.d.store L 0 64 B.enc).b (m * 193 + r) = _
  rw [qc _ _ _ _ _ hr,if_neg (by omega)]
 have al1 : D.ok := DevM.je g.dok _ _ _ (qm hbm) (by omega)
 have gD : Base (a.Hw D) T (M + 20) b := g.dev (by omega) al1 rfl (by show a.d.st + 1<=_; omega) (by show a.d.fl<=_; omega) (by show a.d.fe<=_; omega) (L := L) (n := (spn f.cls).toNat) (fun m r _ hr hm => hDb m r hr hm) (fun m hm ln hl => h.apart g hm hl)
 have hnew : ZBy.ok ⟨D,B,L⟩ := by
  refine ⟨al1,hbm,rfl,by show ((L : Nat) : Int) + spn f.cls<=a.d.n; exact f2,fun q hq => ?_⟩
  have hq : q < 64 * B.dD := hq
  show (a.d.store L 0 64 B.enc).b ((L + q / 64) * 193 + q % 64) = B.enc q
  rw [qc _ _ _ _ _ (by omega)]
  by_cases e : q / 64 = 0
  ·rw [if_pos (by omega),show q % 64 = q by omega]
  ·rw [if_neg (by omega),hd (q / 64) (q % 64) (by omega) (by rw [hBs] at hq; omega) (by omega),show 64 * (q / 64) + q % 64 = q by omega]
   exact Yb (x := dL.mk 0 2 0 0 0 ⟨#[]⟩ f.value) (y := B) rfl rfl (by omega)
 have hcap := g.adE
 have hpo := alh g.lok ⟨⟨#[]⟩,a.id + 1,a.ver + 1,(L : Int),f.cls⟩ (N := M) hcap e11 hM
 have hno := E8 a.c t (L : Int) (fun k => (g.cok.2.2.2.2.2 k).1)
 have hs8 := (jA B).1
 have hl : (ZPb.mk a f t L).chg.enq.l = a.l.push ⟨⟨#[]⟩,a.id + 1,a.ver + 1,(L : Int),f.cls⟩ := rfl
 have hcc : (ZPb.mk a f t L).chg.enq.c = a.c.notes t (L : Int) B.dD := rfl
 have hclos : ∀ n,(a.c.notes t (L : Int) n).clos = a.c.clos := fun n => by
  induction n with
  | zero => rfl
  | succ n ih => exact ih
 obtain ⟨i0,j0,hi0,hc0⟩ := h.1
 exact { gD with
  cok := by rw [hcc]; exact pV g.cok (fun k => by have := ho k; omega) _ _ hs8
  ct := by rw [hcc,mQ]; exact g.ct
  clos := by rw [hcc,hclos]; exact g.clos
  lok := hpo.1
  adE := by rw [hl]; have := hpo.2; omega
  ln := by rw [hl,yO]; omega
  id0 := by show 0<=a.id + 1; omega
  id1 := by show a.id + 1<=((M + 20 : Nat) : Int); omega
  v0 := by show 0<=a.ver + 1; omega
  v1 := by show a.ver + 1<=((M + 20 : Nat) : Int); omega
  nn := by show a.n + 1<=M + 20; omega
  adC := by rw [hcc,jU]; exact g.adC
  adD := by rw [hcc,jU]; omega
  owed := fun k => by rw [hcc]; have := (hno B.dD k).2; have := ho k; omega
  nz := fun _ => Nat.succ_ne_zero _
  used := fun K hK hu => by
   rcases hu with ⟨m,hm,hh⟩ | hu
   ·have hm : m < a.l.n + 1 := by rw [← yO a.l ⟨⟨#[]⟩,a.id + 1,a.ver + 1,(L : Int),f.cls⟩]; exact hm
    have hh : ((a.l.push ⟨⟨#[]⟩,a.id + 1,a.ver + 1,(L : Int),f.cls⟩).get m).line = K := hh
    rw [Du g.lok _ (by omega)] at hh
    by_cases e : m = a.l.n
    ·rw [if_pos e] at hh
     have hh : (L : Int) = K := hh
     exact ⟨i0,j0,by rw [← hh]; exact hi0⟩
    ·rw [if_neg e] at hh
     exact g.used K hK (.inl ⟨m,by show m < a.l.n; omega,hh⟩)
   ·exact g.used K hK (.inr hu)
  q := fun m hm => by
   have hm : m < a.l.n + 1 := by rw [← yO a.l ⟨⟨#[]⟩,a.id + 1,a.ver + 1,(L : Int),f.cls⟩]; exact hm
   rw [hl,Du g.lok _ (by omega)]
   unfold pushB
   by_cases e : m = a.l.n
   ·rw [if_pos e,if_pos e]
    exact ⟨L,rfl,hnew,i0,j0,hi0,hc0⟩
   ·rw [if_neg e,if_neg e]
    exact gD.q m (by show m < a.l.n; omega) }
theorem Base.deq (g : Base a T M b) (hM : M<=1000000) {t L : Nat} (ht : t < T) {f : ZFr} (h : Hold a L 0) (hc : f.cls = 0) (hz : a.l.n ≠ 0) (ho : f.old = a.l.head) (he : f.epoch = a.c.now) :
  ((ZPb.mk a f t L).chg.okD/\(∃ i j,(ZPb.mk a f t L).chg.inP i j)/\0<=a.id/\a.id < 1152921504606846976/\a.n ≠ 0)/\Base (ZPb.mk a f t L).chg.deq T (M + 20) (fun m => b (m + 1)) := by
 obtain ⟨f1,f2,f3,f4,f5,f6⟩ := h.fits g
 have hs0 : spn 0 = 1 := rfl
 have e1 := g.id0; have e2 := g.id1; have e3 := g.v0; have e4 := g.v1; have e5 := g.nn; have e6 := g.adC; have e7 := g.adD
 have e8 := g.dst; have e9 := g.dfl; have e10 := g.dfe; have e11 := g.ln
 have how := g.owed
 obtain ⟨ln0,q1,⟨_,q3,q4,q5,q6⟩,bi,bj,q7,q8⟩ := g.q 0 (by omega)
 have hhd : a.l.head = ⟨⟨#[]⟩,(b 0).id,(b 0).ver,ln0,(b 0).cls⟩ := by rw [Dv hz]; exact q1
 obtain ⟨g1,g2,g3,g4⟩ := Yc g.pg q7
 have hfit := g.fit
 have hsb := dP (a.p.cls bi)
 have nums : 1<=(b 0).id/\(b 0).id<=2305843009213693952 := by
  rcases q3.2 with h | h | h | h
  ·exfalso; have := h.1; have : (b 0).kind = 2 := q4; omega
  ·exfalso; have := h.1; have : (b 0).kind = 2 := q4; omega
  ·exact h.2.2.2.2.1
  ·exfalso; have := h.1; have : (b 0).kind = 2 := q4; omega
 let B : dL := (ZPb.mk a f t L).chg.akP
 have hBm : B.may := by
  refine ⟨show spn 0 ≠ 0 by decide,.inr (.inr (.inr ⟨rfl,rfl,rfl,?_,?_,?_⟩))⟩
  ·show 1<=f.old.id/\f.old.id<=2305843009213693952
   rw [ho,hhd]; exact nums
  ·show 1<=a.ver + 1/\a.ver + 1<=2305843009213693952; omega
  ·show 1<=f.epoch/\f.epoch<=2305843009213693952; omega
 have h' : Hold a L f.cls := by rw [hc]; exact h
 have hen : (ZPb.mk a f t L).chg.Xp.may := by
  refine ⟨?_,?_,?_,?_,?_,?_⟩
  ·show 2<=f.old.line; rw [ho,hhd]; exact g1
  ·show f.old.line < 258; rw [ho,hhd]; show (ln0 : Int) < 258; omega
  ·show 0<=f.old.cls; rw [ho,hhd]; show 0<=(b 0).cls; omega
  ·show f.old.cls<=3; rw [ho,hhd]; show (b 0).cls<=3; omega
  ·show -1<=((L : Nat) : Int); omega
  ·show ((L : Nat) : Int) < 258; omega
 refine ⟨⟨⟨g.dok,g.cok,g.lok,by show t < a.c.t; rw [g.ct]; exact ht,by show L < a.d.n; omega,hBm,e3,by show a.n < _; omega,f6,g.pg.1,g.bok,g.rok,by show a.l.n < _; omega,hz,ho,he.symm,by show a.ver < _; omega,hc,hen,h.2.1,h.2.2⟩,aiB (x := (ZPb.mk a f t L).chg) h' rfl,e1,by omega,g.nz hz⟩,?_⟩
 let D : DevM := a.d.store L 0 64 B.enc
 have hDb : ∀ m r : Nat,r < 64->¬ (L<=m/\m < L + (spn 0).toNat)->D.b (m * 193 + r) = a.d.b (m * 193 + r) := fun m r hr hm => by
  show (a.d.store L 0 64 B.enc).b (m * 193 + r) = _
  rw [qc _ _ _ _ _ hr,if_neg (fun e => hm (by rw [hs0]; subst e; exact ⟨aX _,Nat.lt_succ_self _⟩))]
 have al1 : D.ok := DevM.je g.dok _ _ _ (qm hBm) (by omega)
 have gD : Base (a.Hw D) T (M + 20) b := g.dev (by omega) al1 rfl (by show a.d.st + 1<=_; omega) (by show a.d.fl<=_; omega) (by show a.d.fe<=_; omega) (L := L) (n := (spn 0).toNat) (fun m r _ hr hm => hDb m r hr hm) (fun m hm ln hl => h.apart g hm hl)
 have hpo := aqe g.lok hz
 have hcap := g.adE
 have hpn := aow hz
 have hno := E8 a.c t (L : Int) (fun k => (g.cok.2.2.2.2.2 k).1)
 have hl : (ZPb.mk a f t L).chg.deq.l = a.l.pop := rfl
 have hcc : (ZPb.mk a f t L).chg.deq.c = a.c.notes t (L : Int) 1 := rfl
 obtain ⟨i0,j0,hi0,hc0⟩ := h.1
 exact { gD with
  cok := by rw [hcc]; exact pV g.cok (fun k => by have := how k; omega) _ _ (by decide)
  ct := by rw [hcc,mQ]; exact g.ct
  clos := g.clos
  bok := aqf g.bok _
  lok := hpo.1
  adE := by rw [hl,hpo.2]; omega
  ln := by rw [hl,hpn]; omega
  v0 := by show 0<=a.ver + 1; omega
  v1 := by show a.ver + 1<=((M + 20 : Nat) : Int); omega
  nn := by show a.n + 1<=M + 20; omega
  adC := by rw [hcc,jU]; exact g.adC
  adD := by rw [hcc,jU]; omega
  owed := fun k => by rw [hcc]; have := (hno 1 k).2; have := how k; omega
  nz := fun _ => Nat.succ_ne_zero _
  used := fun K hK hu => by
   rcases hu with ⟨m,hm,hh⟩ | hu
   ·have hm : m < a.l.n - 1 := by rw [← hpn]; exact hm
    have hh : (a.l.pop.get m).line = K := hh
    rw [Po g.lok hz (by omega)] at hh
    exact g.used K hK (.inl ⟨m + 1,by show m + 1 < a.l.n; omega,hh⟩)
   ·have hu : oN.inB ⟨a.b.put (ZPb.mk a f t L).chg.Xp,a.l.pop,K⟩ := hu
    rcases aox hu with hu | hu | hu
    ·exact g.used K hK (.inr hu)
    ·have hu : f.old.line = K := hu
     rw [ho,hhd] at hu
     exact ⟨bi,bj,by rw [← hu]; exact q7⟩
    ·have hu : (L : Int) = K := hu
     exact ⟨i0,j0,by rw [← hu]; exact hi0⟩
  q := fun m hm => by
   have hm : m < a.l.n - 1 := by rw [← hpn]; exact hm
   rw [hl,Po g.lok hz (by omega)]
   exact gD.q (m + 1) (by show m + 1 < a.l.n; omega) }
end
end Go.Proofs.YtenfleoejgjklaaGreat
end
section
namespace Go.Proofs.YtenfleoejgjklaaGreat
open Go SE
set_option linter.unusedSimpArgs false
theorem Ad {f : Nat->Bool} {k : Nat} (hf : f k = true) : ∀ {n},k < n->Ac (fun q => if q = k then false else f q) n + 1 = Ac f n
 | n + 1,h => by
  simp only [Ac]
  by_cases e : k = n
  ·subst e
   rw [jG (g := f) fun q hq => if_neg (by omega),hf]; simp
  ·have := Ad hf (n := n) (by omega)
   rw [if_neg (show ¬ n = k by omega)]; omega
theorem ali {f : Nat->Bool} {k : Nat} (hf : f k = true) {n : Nat} (h : k < n) : 1<=Ac f n := by
 have := Ad hf h
 omega
theorem aiC {p : cO} (hp : p.good) {L : Int} {i j : Nat} (h : p.at_ L i j) : (p.give i j).good/\∀ L' i' j',p.at_ L' i' j'->L' ≠ L->(p.give i j).at_ L' i' j'/\(p.give i j).cls i' = p.cls i' := by
 obtain ⟨h1,h2,h3,h4,h5⟩ := h
 obtain ⟨⟨o1,o2,o3⟩,hg⟩ := hp
 have gi := hg i h1
 have hj8 : j < 8 := Nat.lt_of_lt_of_le h3 (X8 _)
 have hun := Ad h4 hj8
 have hoi := o3 i h1
 have hcnt := gi.2.2
 have hin : ∀ k,p.tk i k = true->k ≠ j->p.cnt i ≠ 1 := fun k hk hkj he => by
  have hk8 : k < 8 := Nat.lt_of_lt_of_le (gi.2.1 k hk) (X8 _)
  have : 1<=Ac (fun q => if q = j then false else p.tk i q) 8 := ali (k := k) (by show (if k = j then false else p.tk i k) = true; rw [if_neg hkj]; exact hk) hk8
  omega
 have tkn : ∀ q k,(p.give i j).tk q k = if q = i/\k = j then false else p.tk q k := fun _ _ => rfl
 have cln : ∀ q,(p.give i j).cls q = if q = i/\p.cnt q = 1 then -1 else p.cls q := fun _ => rfl
 have cnn : ∀ q,(p.give i j).cnt q = if q = i then p.cnt q - 1 else p.cnt q := fun _ => rfl
 refine ⟨⟨⟨o1,o2,fun q hq => ?_⟩,fun q hq => ?_⟩,fun L' i' j' hL hne => ?_⟩
 ·have hq : q < p.n := hq
  have a1 := o3 q hq
  rw [cln,cnn]
  by_cases e : q = i
  ·subst e
   rw [if_pos rfl]
   refine ⟨?_,?_,by omega,by omega⟩ <;> split <;> omega
  ·rw [if_neg (fun hh => e hh.1),if_neg e]; exact a1
 ·have hq : q < p.n := hq
  have a2 := hg q hq
  by_cases e : q = i
  ·subst e
   refine ⟨fun hc k => ?_,fun k hk => ?_,?_⟩
   ·rw [cln] at hc
    rw [tkn]
    by_cases ek : k = j
    ·rw [if_pos ⟨rfl,ek⟩]
    ·rw [if_neg (fun hh => ek hh.2)]
     cases hk : p.tk q k with
     | false => rfl
     | true =>
      exfalso
      rw [if_neg (fun hh => hin k hk ek hh.2)] at hc
      omega
   ·rw [tkn] at hk
    by_cases ek : k = j
    ·rw [if_pos ⟨rfl,ek⟩] at hk; cases hk
    ·rw [if_neg (fun hh => ek hh.2)] at hk
     rw [cln,if_neg (fun hh => hin k hk ek hh.2)]
     exact a2.2.1 k hk
   ·rw [cnn,if_pos rfl,show Ac ((p.give q j).tk q) 8 = Ac (fun k => if k = j then false else p.tk q k) 8 from jG fun k _ => by rw [tkn]; by_cases ek : k = j <;> simp [ek]]
    omega
  ·refine ⟨fun hc k => ?_,fun k hk => ?_,?_⟩
   ·rw [cln,if_neg (fun hh => e hh.1)] at hc
    rw [tkn,if_neg (fun hh => e hh.1)]; exact a2.1 hc k
   ·rw [tkn,if_neg (fun hh => e hh.1)] at hk
    rw [cln,if_neg (fun hh => e hh.1)]; exact a2.2.1 k hk
   ·rw [cnn,if_neg e,a2.2.2,jG (g := (p.give i j).tk q) fun k _ => by rw [tkn,if_neg (fun hh => e hh.1)]]
 ·obtain ⟨b1,b2,b3,b4,b5⟩ := hL
  have hd : ¬ (i' = i/\j' = j) := fun ⟨e1,e2⟩ => by subst e1; subst e2; exact hne (b5.trans h5.symm)
  have hcl : (p.give i j).cls i' = p.cls i' := by
   rw [cln]
   refine if_neg fun ⟨e1,e2⟩ => ?_
   subst e1
   exact hin j' b4 (fun e => hd ⟨rfl,e⟩) e2
  exact ⟨⟨b1,by rw [hcl]; exact b2,by rw [hcl]; exact b3,by rw [tkn,if_neg hd]; exact b4,by rw [hcl]; exact b5⟩,hcl⟩
section
variable {a : ZArn} {T M : Nat} {b : Nat->dL}
theorem Base.give (g : Base a T M b) {L : Nat} {c : Int} (h : Hold a L c) {i j : Nat} (hi : a.p.at_ L i j) : Base (a.J7 (a.p.give i j)) T M b/\∀ (L' : Nat) c',Hold a L' c'->L' ≠ L->Hold (a.J7 (a.p.give i j)) L' c' := by
 obtain ⟨g1,g2⟩ := aiC g.pg hi
 refine ⟨{ g with pg := g1,used := fun K hK hu => ?_,q := fun m hm => ?_ },fun L' c' ⟨⟨i',j',q1,q2⟩,q3⟩ hne => ?_⟩
 ·obtain ⟨i',j',q1⟩ := g.used K hK hu
  have hne : K ≠ L := fun e => by
   subst e
   exact hu.elim h.2.1 h.2.2
  exact ⟨i',j',(g2 _ _ _ q1 hne).1⟩
 ·obtain ⟨ln,q1,q2,i',j',q7,q8⟩ := g.q m hm
  have hne : (ln : Int) ≠ L := fun e => h.2.1 ⟨m,hm,by show (a.l.get m).line = (L : Int); rw [q1]; exact e⟩
  obtain ⟨q9,q10⟩ := g2 _ _ _ q7 hne
  exact ⟨ln,q1,q2,i',j',q9,q10.trans q8⟩
 ·obtain ⟨q9,q10⟩ := g2 _ _ _ q1 (by omega)
  exact ⟨⟨i',j',q9,q10.trans q2⟩,q3⟩
end
structure PC (p : cO) (N : Nat) : Prop where
 n : 2<=p.n
 w : ∀ i,1<=i->i < p.n->p.cls i = -1
 c : p.cls 0 = -1 ∨ p.cls 0 = 0
 k : p.cnt 0<=N
theorem PC.room {p : cO} {N : Nat} (h : PC p N) : ¬ ∀ i,i < p.n->p.cls i ≠ -1/\p.full 0 i := fun hf => (hf 1 h.n).1 (h.w 1 (aX _) h.n)
theorem PC.take {p : cO} {N : Nat} (h : PC p N) (hp : p.good) (hN : N < 8) {i j : Nat} (ht : p.takes 0 i j) : PC (p.take 0 i j) (N + 1) := by
 have hn := h.n
 have hi : i = 0 := by
  obtain ⟨h1,h2,h3,h4⟩ := ht
  rcases h4 with ⟨h4,_⟩ | ⟨_,_,h5,h6⟩
  ·rcases Nat.eq_zero_or_pos i with e | e
   ·exact e
   ·have := h.w i e h1; omega
  ·rcases Nat.eq_zero_or_pos i with e | e
   ·exact e
   ·exfalso
    have hc : p.cls 0 = 0 := h.c.resolve_left (h6 0 e)
    have hf := h5 0 (by omega) hc
    have g0 := (hp.2 0 (by omega)).2.2
    have : Ac (p.tk 0) 8 = 8 := by
     rw [jG (g := fun _ => true) fun k hk => hf k (by show k < cO.many 0; exact hk)]
     rfl
    have := h.k
    omega
 subst hi
 exact ⟨hn,fun i h1 h2 => (if_neg (by omega)).trans (h.w i h1 h2),.inr (show (if 0 = 0 then (0 : Int) else p.cls 0) = 0 from if_pos rfl),by show (if 0 = 0 then p.cnt 0 + 1 else p.cnt 0)<=((N + 1 : Nat) : Int); rw [if_pos rfl]; have := h.k; omega⟩
theorem PC.give {p : cO} {N : Nat} (h : PC p (N + 1)) {L : Int} {i j : Nat} (hi : p.at_ L i j) : PC (p.give i j) N := by
 obtain ⟨h1,h2,h3,h4,h5⟩ := hi
 have hi0 : i = 0 := by
  rcases Nat.eq_zero_or_pos i with e | e
  ·exact e
  ·have := h.w i e h1; omega
 subst hi0
 have cln : ∀ q,(p.give 0 j).cls q = if q = 0/\p.cnt q = 1 then -1 else p.cls q := fun _ => rfl
 refine ⟨h.n,fun i h1 h2 => by rw [cln,if_neg (fun e => by omega)]; exact h.w i h1 h2,?_,by show (if 0 = 0 then p.cnt 0 - 1 else p.cnt 0)<=(N : Int); rw [if_pos rfl]; have := h.k; omega⟩
 rw [cln]
 split
 ·exact .inl rfl
 ·exact h.c
theorem PC.mono {p : cO} {N N' : Nat} (h : PC p N) (hN : N<=N') : PC p N' := ⟨h.n,h.w,h.c,by have := h.k; omega⟩
end Go.Proofs.YtenfleoejgjklaaGreat
end
section
namespace Go.Proofs.YtenfleoejgjklaaGreat
open Go SE
set_option linter.unusedSimpArgs false
def lk (B : Nat->dL) (LN : Nat->Nat) (i : Nat) : dw := ⟨⟨#[]⟩,(B i).id,(B i).ver,(LN i : Nat),(B i).cls⟩
def lQ : ByteArray := ⟨#[97,98,99,100,101]⟩
structure OW (n o M : Nat) (B : Nat->dL) (LN : Nat->Nat) (a : ZArn) : Prop where
 base : Base a 3 M (fun i => B (o + i))
 on : o<=n
 n4 : n<=4
 len : a.l.n = n - o
 now : a.c.now = 1
 lie : ∀ i,i < n->ZBy.ok ⟨a.d,B i,LN i⟩
 cls : ∀ i,i < n->(B i).cls = 0
 val : ∀ i,i < n->(B i).value = lQ.extract i (i + 1)
 lnk : ∀ i,i < n - o->a.l.get i = lk B LN (o + i)
 bag : ∀ i,i < o->oN.inB ⟨a.b,a.l,LN i⟩
 bn : a.b.n = o
 ids : ∀ i j,i < n->j < n->(B i).id = (B j).id->i = j
section
variable {n o M : Nat} {B : Nat->dL} {LN : Nat->Nat} {a : ZArn}
theorem OW.up (w : OW n o M B LN a) {M' : Nat} (h : M<=M') : OW n o M' B LN a := { w with base := w.base.up h }
theorem OW.aqk (w : OW n o M B LN a) {i : Nat} (h : i < n) : oN.inL ⟨a.b,a.l,LN i⟩ ∨ oN.inB ⟨a.b,a.l,LN i⟩ := by
 by_cases e : i < o
 ·exact .inr (w.bag i e)
 ·refine .inl ⟨i - o,by show i - o < a.l.n; rw [w.len]; omega,?_⟩
  show (a.l.get (i - o)).line = _
  rw [w.lnk (i - o) (by omega),show o + (i - o) = i by omega]; rfl
theorem OW.ne (w : OW n o M B LN a) {i L : Nat} (h : i < n) {c : Int} (hh : Hold a L c) : LN i ≠ L := fun e => by
 subst e
 exact (w.aqk h).elim hh.2.1 hh.2.2
theorem OW.lies (w : OW n o M B LN a) {d' : DevM} (h1 : d'.ok) (h2 : d'.n = a.d.n) {L : Nat} {c : Int} (hh : Hold a L c) (hb : ∀ m r : Nat,r < 64->m ≠ L->d'.b (m * 193 + r) = a.d.b (m * 193 + r)) : ∀ i,i < n->ZBy.ok ⟨d',B i,LN i⟩ := fun i hi => by
 obtain ⟨q1,q2,q3,q4,q5⟩ := w.lie i hi
 refine ⟨h1,q2,q3,by show ((LN i : Nat) : Int) + spn (B i).cls<=d'.n; rw [h2]; exact q4,fun q hq => ?_⟩
 have hq : q < 64 * (B i).dD := hq
 have hs : (B i).dD = 1 := by unfold dL.dD; rw [w.cls i hi]; rfl
 have hs' : dL.dD (ZBy.mk d' (B i) (LN i)).b = 1 := hs
 rw [hs] at hq
 rw [hb _ _ (by omega) (by have := w.ne hi hh; show LN i + q / 64 ≠ L; omega)]
 exact q5 q (by rw [hs]; exact hq)
theorem OW.nT (w : OW n o M B LN a) {t : Nat} {v : Int} : OW n o M B LN (a.nT t v) := { w with base := w.base.nT }
theorem OW.write (w : OW n o M B LN a) (hM : M<=900000) {L : Nat} (h : Hold a L 0) {t : Nat} {f : ZFr} (hv : f.value.size = 0) : (ZWr.mk a.d t f L 0 0).ok/\OW n o (M + 20) B LN (a.Hw (ZWr.mk a.d t f L 0 0).d') := by
 obtain ⟨w1,w2,_,w4⟩ := w.base.write (by omega) h (t := t) (f := f) (by omega) (p := 0) (by decide)
 exact ⟨w1,{ w with base := w2,lie := w.lies w2.dok (by have := w2.fit; unfold ZWr.d'; rfl) h (fun m r hr hm => w4 m r hr (by rw [show spn 0 = 1 from rfl]; simp; omega)) }⟩
theorem OW.take (w : OW n o M B LN a) {i j : Nat} (h : a.p.takes 0 i j) : ∃ L : Nat,(L : Int) = 2 + i * 8 + j * spn 0/\OW n o M B LN (a.J7 (a.p.take 0 i j))/\Hold (a.J7 (a.p.take 0 i j)) L 0/\¬ a.p.has L := by
 obtain ⟨L,l1,_,gt,h2,h3⟩ := w.base.take (c := 0) (by decide) h
 exact ⟨L,l1,{ w with base := gt },h2,h3⟩
theorem OW.give (w : OW n o M B LN a) {L : Nat} (h : Hold a L 0) {i j : Nat} (hi : a.p.at_ L i j) : OW n o M B LN (a.J7 (a.p.give i j))/\∀ (L' : Nat) c',Hold a L' c'->L' ≠ L->Hold (a.J7 (a.p.give i j)) L' c' := by
 obtain ⟨g1,g2⟩ := w.base.give h hi
 exact ⟨{ w with base := g1 },g2⟩
theorem OW.head (w : OW n o M B LN a) (h : o < n) : a.l.n ≠ 0/\a.l.head = lk B LN o := by
 have hl : a.l.n ≠ 0 := by rw [w.len]; omega
 exact ⟨hl,by rw [Dv hl,w.lnk 0 (by omega)]; rfl⟩
theorem OW.deq (w : OW n o M B LN a) (hM : M<=900000) (ho : o < n) {t L : Nat} (ht : t < 3) {f : ZFr} (h : Hold a L 0) (hc : f.cls = 0) (hd : f.old = lk B LN o) (he : f.epoch = 1) :
  ((ZPb.mk a f t L).chg.okD/\(∃ i j,(ZPb.mk a f t L).chg.inP i j)/\0<=a.id/\a.id < 1152921504606846976/\a.n ≠ 0)/\OW n (o + 1) (M + 20) B LN (ZPb.mk a f t L).chg.deq/\∀ (L' : Nat) c',Hold a L' c'->L' ≠ L->Hold (ZPb.mk a f t L).chg.deq L' c' := by
 obtain ⟨hz,hh⟩ := w.head ho
 obtain ⟨e1,e2⟩ := w.base.deq (by omega) ht (f := f) h hc hz (by rw [hd,hh]) (by rw [he,w.now])
 have eb : (fun m => B (o + (m + 1))) = fun i => B (o + 1 + i) := funext fun m => by congr 1; omega
 have hln : (ZPb.mk a f t L).chg.deq.l = a.l.pop := rfl
 have hbg : (ZPb.mk a f t L).chg.deq.b = a.b.put (ZPb.mk a f t L).chg.Xp := rfl
 have hpn := aow hz
 have hbn := w.bn
 have h4 := w.n4
 have putn : (a.b.put (ZPb.mk a f t L).chg.Xp).n = o + 1 := by unfold iD.put; rw [if_pos (by omega)]; show a.b.n + 1 = _; rw [hbn]
 have pute : ∀ i,(a.b.put (ZPb.mk a f t L).chg.Xp).e i = if i = o then (ZPb.mk a f t L).chg.Xp else a.b.e i := fun i => by unfold iD.put; rw [if_pos (by omega)]; show (if i = a.b.n then _ else _) = _; rw [hbn]
 have aql : (ZPb.mk a f t L).chg.Xp.line = ((LN o : Nat) : Int) := by show f.old.line = _; rw [hd]; rfl
 have hDb : ∀ m r : Nat,r < 64->m ≠ L->(ZPb.mk a f t L).chg.deq.d.b (m * 193 + r) = a.d.b (m * 193 + r) := fun m r hr hm => by
  show (a.d.store L 0 64 _).b (m * 193 + r) = _
  rw [qc _ _ _ _ _ hr,if_neg hm]
 refine ⟨e1,{ base := eb ▸ e2,on := ho,n4 := h4,len := by rw [hln,hpn,w.len]; omega,now := ?_,lie := w.lies e2.dok rfl h hDb,cls := w.cls,val := w.val,lnk := fun i hi => ?_,bag := fun i hi => ?_,bn := putn,ids := w.ids },fun L' c' ⟨h1,h2,h3⟩ hne => ⟨h1,fun hu => ?_,fun hu => ?_⟩⟩
 ·show (a.c.notes t (L : Int) 1).now = 1
  rw [jU]; exact w.now
 ·rw [hln,Po w.base.lok hz (by rw [w.len]; omega),w.lnk (i + 1) (by omega),show o + (i + 1) = o + 1 + i by omega]
 ·show oN.inB ⟨a.b.put (ZPb.mk a f t L).chg.Xp,a.l.pop,((LN i : Nat) : Int)⟩
  by_cases e : i = o
  ·subst e
   exact ⟨i,by show i < (a.b.put _).n; rw [putn]; omega,.inl (by show ((a.b.put _).e i).line = _; rw [pute,if_pos rfl,aql])⟩
  ·obtain ⟨j,hj,hk⟩ := w.bag i (by omega)
   have hj : j < a.b.n := hj
   refine ⟨j,by show j < (a.b.put _).n; rw [putn]; omega,?_⟩
   show ((a.b.put _).e j).line = _ ∨ ((a.b.put _).e j).anti = _
   rw [pute,if_neg (by omega)]; exact hk
 ·obtain ⟨m,hm,hk⟩ := hu
  have hm : m < a.l.pop.n := hm
  have hk : (a.l.pop.get m).line = (L' : Int) := hk
  rw [Po w.base.lok hz (by omega)] at hk
  exact h2 ⟨m + 1,by show m + 1 < a.l.n; omega,hk⟩
 ·obtain ⟨m,hm,hk⟩ := hu
  have hm : m < (a.b.put (ZPb.mk a f t L).chg.Xp).n := hm
  have hk : ((a.b.put (ZPb.mk a f t L).chg.Xp).e m).line = (L' : Int) ∨ ((a.b.put (ZPb.mk a f t L).chg.Xp).e m).anti = (L' : Int) := hk
  rw [pute] at hk
  by_cases e : m = o
  ·rw [if_pos e] at hk
   rcases hk with hk | hk
   ·rw [aql] at hk
    exact h2 ⟨0,by show 0 < a.l.n; omega,by show (a.l.get 0).line = (L' : Int); rw [w.lnk 0 (by omega)]; exact hk⟩
   ·have hk : (L : Int) = L' := hk
    omega
  ·rw [if_neg e] at hk
   exact h3 ⟨m,by show m < a.b.n; omega,hk⟩
end
end Go.Proofs.YtenfleoejgjklaaGreat
end
section
namespace Go.Proofs.YtenfleoejgjklaaGreat
open Go SE
set_option linter.unusedSimpArgs false
structure ZTh where
 f : ZFr
 ph : Int
 tk : Nat
 hl : Nat
 q : Nat
 fd : Nat
def HH (a : ZArn) (x : ZTh) : Prop := (x.f.line = -1/\x.tk = 0) ∨ (x.f.cls = 0/\x.f.line = x.hl/\Hold a x.hl 0/\x.tk = 1)
def FQ (n o : Nat) (B : Nat->dL) (LN : Nat->Nat) (x : ZTh) : Prop := x.q<=o/\x.q < n/\x.f.had = true/\x.f.old = lk B LN x.q
def TI (n o : Nat) (B : Nat->dL) (LN : Nat->Nat) (a : ZArn) (has : Int) (x : ZTh) : Prop := x.f.value.size = 0/\x.f.code = 0/\(
 (x.ph = 0/\has = 0/\x.f.line = -1/\x.tk = 0/\x.fd = 0/\x.f.found = false) ∨
 (x.ph = 1/\x.f.epoch = 1/\HH a x/\x.fd = 0/\x.f.found = false) ∨
 (x.ph = 2/\x.f.epoch = 1/\HH a x/\x.fd = 0/\x.f.found = false/\FQ n o B LN x/\x.f.piece = 0) ∨
 (x.ph = 3/\x.f.epoch = 1/\x.tk = 0/\x.fd = 0/\x.f.found = false/\FQ n o B LN x/\x.f.ans = (B x.q).value) ∨
 (x.ph = 4/\x.f.epoch = 1/\x.f.cls = 0/\x.f.piece = 0/\x.f.line = x.hl/\Hold a x.hl 0/\x.tk = 1/\x.fd = 0/\x.f.found = false/\FQ n o B LN x/\x.f.ans = (B x.q).value) ∨
 (x.ph = 5/\x.f.epoch = 1/\x.f.cls = 0/\x.f.line = x.hl/\Hold a x.hl 0/\x.tk = 1/\x.fd = 0/\x.f.found = false/\FQ n o B LN x/\x.f.ans = (B x.q).value) ∨
 ((x.ph = 6 ∨ x.ph = 7)/\((x.f.found = true/\x.tk = 1/\x.fd = 1) ∨ (x.f.found = false/\x.tk = 0/\x.fd = 0/\o = n))))
def al2 (x : ZTh) : Nat := if x.ph = 0 then 7 else if x.ph = 1 then (if x.tk = 1 then 4 else 6) else if x.ph = 2 then (if x.tk = 1 then 3 else 5) else if x.ph = 3 then 4 else if x.ph = 4 then 3 else 2
def phi (o : Nat) (x : ZTh) : Nat := if x.ph = 7 then 0 else if x.ph = 6 then 1 else al2 x + (if x.q < o/\2<=x.ph then 3 else 0) + 3 * (2 - o)
theorem iZ {o : Nat} {x : ZTh} {p : Int} (h : x.ph = p) : phi o x = if p = 7 then 0 else if p = 6 then 1 else (if p = 0 then 7 else if p = 1 then (if x.tk = 1 then 4 else 6) else if p = 2 then (if x.tk = 1 then 3 else 5) else if p = 3 then 4 else if p = 4 then 3 else 2) + (if x.q < o/\2<=p then 3 else 0) + 3 * (2 - o) := by
 subst h; rfl
structure Nx (n o N M : Nat) (B : Nat->dL) (LN : Nat->Nat) (a : ZArn) (t : Nat) (x : ZTh) (y : ZTs) (o' : Nat) (x' : ZTh) : Prop where
 f : y.f = x'.f
 ph : y.ph = x'.ph
 w : OW n o' (M + 20) B LN y.a
 ti : TI n o' B LN y.a (y.a.r.has t) x'
 has : ∀ t',t' ≠ t->y.a.r.has t' = a.r.has t'
 hold : ∀ (L' : Nat) c',Hold a L' c'->(x.tk = 1/\x.fd = 0->L' ≠ x.hl)->Hold y.a L' c'/\(x'.tk = 1/\x'.fd = 0->L' ≠ x'.hl)
 pc : ∃ N',PC y.a.p N'/\N' + x.tk = N + x'.tk
 tk : x'.tk<=1/\x'.fd<=1
 pop : (o' = o/\x'.fd = x.fd/\¬ (x.ph = 5/\x'.ph = 6)) ∨ (o' = o + 1/\o < n/\x.fd = 0/\x'.fd = 1/\x.ph = 5/\x'.ph = 6/\x'.f.found = true/\x'.f.ans = (B o).value)
 phi : phi o' x' + 1<=phi o x ∨ phi o x = 0/\phi o' x' = 0
theorem TI.step {n o N M : Nat} {B : Nat->dL} {LN : Nat->Nat} {a : ZArn} {t : Nat} {x : ZTh} (w : OW n o M B LN a) (hM : M<=900000) (ht : t < 3) (h : TI n o B LN a (a.r.has t) x) (hP : PC a.p N) (hN : N < 8) (hk : x.tk<=N) (ho : x.fd = 0->o<=2) : wD t (B x.q) 0 ⟨a,x.f,x.ph⟩ (fun m y => m = 0/\∃ o' x',Nx n o N M B LN a t x y o' x') := by
 have g := w.base
 obtain ⟨hv,hco,h⟩ := h
 have nT : ∀ (v : Int) t',t' ≠ t->(a.nT t v).r.has t' = a.r.has t' := fun v t' h => if_neg h
 rcases h with ⟨hp,h1,h2,h3,h4,h5⟩ | ⟨hp,h1,h2,h3,h4⟩ | ⟨hp,h1,h2,h3,h4,h5,h6⟩ | ⟨hp,h1,h2,h3,h4,h5,h6⟩ | ⟨hp,h1,h2,h3,h4,h5,h6,h7,h8,h9,h10⟩ | ⟨hp,h1,h2,h3,h4,h5,h6,h7,h8,h9⟩ | ⟨hp,h1⟩
 ·refine .inl ⟨hp,rfl,⟨g.rok,g.cok,by rw [g.rt]; exact ht,h1⟩,rfl,o,⟨{ x.f with epoch := a.c.now },1,x.tk,x.hl,x.q,x.fd⟩,⟨rfl,rfl,w.nT.up (by omega),⟨hv,hco,.inr (.inl ⟨rfl,w.now,.inl ⟨h2,h3⟩,h4,h5⟩)⟩,nT _,fun L' c' hh hh' => ⟨hh,hh'⟩,⟨N,hP,rfl⟩,⟨by show x.tk<=1; omega,by show x.fd<=1; omega⟩,.inl ⟨rfl,rfl,fun e => by omega⟩,.inl ?_⟩⟩
  rw [iZ hp,iZ (p := 1) rfl]
  simp [h3]; omega
 ·by_cases hz : o < n
  ·obtain ⟨z1,z2⟩ := w.head hz
   refine .inr (.inl ⟨hp,rfl,⟨g.lok,fun h => absurd h z1⟩,fun h => absurd h z1,fun _ => ⟨rfl,o,⟨{ x.f with had := true,old := a.l.head,piece := 0 },2,x.tk,x.hl,o,x.fd⟩,⟨rfl,rfl,w.up (by omega),⟨hv,hco,.inr (.inr (.inl ⟨rfl,h1,h2,h3,h4,⟨aX _,hz,rfl,z2⟩,rfl⟩))⟩,fun _ _ => rfl,fun L' c' hh hh' => ⟨hh,hh'⟩,⟨N,hP,rfl⟩,⟨by rcases h2 with ⟨_,h2⟩ | ⟨_,_,_,h2⟩ <;> (show x.tk<=1; omega),by show x.fd<=1; omega⟩,.inl ⟨rfl,rfl,fun e => by omega⟩,.inl ?_⟩⟩⟩)
   rw [iZ hp,iZ (p := 2) rfl]
   by_cases htk : x.tk = 1
   ·simp [htk]; omega
   ·simp [htk]; omega
  ·have hzn : a.l.n = 0 := by rw [w.len]; omega
   have hon : o = n := by have := w.on; omega
   rcases h2 with ⟨h2,h2'⟩ | ⟨h2,h2',h2'',h2t⟩
   ·refine .inr (.inl ⟨hp,rfl,⟨g.lok,fun _ => by show x.f.line < 0; omega⟩,fun _ => ⟨rfl,o,⟨{ x.f with had := false,old := oz },6,x.tk,x.hl,x.q,x.fd⟩,⟨rfl,rfl,w.up (by omega),⟨hv,hco,.inr (.inr (.inr (.inr (.inr (.inr ⟨.inl rfl,.inr ⟨h4,h2',h3,hon⟩⟩)))))⟩,fun _ _ => rfl,fun L' c' hh hh' => ⟨hh,hh'⟩,⟨N,hP,rfl⟩,⟨by show x.tk<=1; omega,by show x.fd<=1; omega⟩,.inl ⟨rfl,rfl,fun e => by omega⟩,.inl ?_⟩⟩,fun h => absurd hzn h⟩)
    rw [iZ hp,iZ (p := 6) rfl]
    simp [h2']; omega
   ·obtain ⟨⟨i,j,hij,hcl⟩,h3'⟩ := id h2''
    obtain ⟨b1,b2,b3,b4,b5⟩ := id hij
    obtain ⟨g1,g2⟩ := w.give h2'' hij
    obtain ⟨N',rfl⟩ : ∃ N',N = N' + 1 := ⟨N - 1,by omega⟩
    refine .inr (.inr (.inl ⟨hp,rfl,i,j,⟨⟨g.pg.1,b1,b2,b3,b4⟩,g.lok,hzn⟩,h2'.trans b5,rfl,o,⟨{ x.f with had := false,old := oz,line := -1 },6,0,x.hl,x.q,x.fd⟩,⟨rfl,rfl,g1.up (by omega),⟨hv,hco,.inr (.inr (.inr (.inr (.inr (.inr ⟨.inl rfl,.inr ⟨h4,rfl,h3,hon⟩⟩)))))⟩,fun _ _ => rfl,fun L' c' hh hh' => ⟨g2 L' c' hh (hh' ⟨h2t,h3⟩),fun e => absurd e.1 (by show ¬ (0 : Nat) = 1; decide)⟩,⟨N',hP.give hij,by show N' + x.tk = N' + 1 + 0; omega⟩,⟨by show 0<=1; decide,by show x.fd<=1; omega⟩,.inl ⟨rfl,rfl,fun e => by omega⟩,.inl ?_⟩⟩))
    rw [iZ hp,iZ (p := 6) rfl]
    simp [h2t]; omega
 ·obtain ⟨f1,f2,f3,f4⟩ := id h5
  obtain ⟨q2,q3,q4,q5,q6⟩ := w.lie x.q f2
  have hc := w.cls x.q f2
  have hs1 : spn (B x.q).cls = 1 := by rw [hc]; rfl
  refine .inr (.inr (.inr (.inl ⟨hp,LN x.q,?_,⟨q2,q3,q4,q5,by show ((0 : Nat) : Int) < spn (B x.q).cls; rw [hs1]; decide,q6⟩,fun hne => absurd (by rw [hs1]; rfl) hne,fun _ => ⟨rfl,o,⟨{ x.f with piece := ((0 + 1 : Nat) : Int),ans := (B x.q).value },if x.f.line < 0 then 3 else 5,x.tk,x.hl,x.q,x.fd⟩,?_⟩⟩)))
  ·show x.f = { x.f with had := true,old := ⟨⟨#[]⟩,(B x.q).id,(B x.q).ver,(LN x.q : Int),(B x.q).cls⟩,piece := ((0 : Nat) : Int) }
   rw [show (⟨⟨#[]⟩,(B x.q).id,(B x.q).ver,(LN x.q : Int),(B x.q).cls⟩ : dw) = lk B LN x.q from rfl,← f4,← f3,show ((0 : Nat) : Int) = x.f.piece from h6.symm]
  ·rcases h2 with ⟨h2,h2'⟩ | ⟨h2,h2',h2'',h2t⟩
   ·have e : (if x.f.line < 0 then (3 : Int) else 5) = 3 := if_pos (by omega)
    rw [e]
    refine ⟨rfl,rfl,w.up (by omega),⟨hv,hco,.inr (.inr (.inr (.inl ⟨rfl,h1,h2',h3,h4,h5,rfl⟩)))⟩,fun _ _ => rfl,fun L' c' hh hh' => ⟨hh,hh'⟩,⟨N,hP,rfl⟩,⟨by show x.tk<=1; omega,by show x.fd<=1; omega⟩,.inl ⟨rfl,rfl,fun e => by omega⟩,.inl ?_⟩
    rw [iZ hp,iZ (p := 3) rfl]
    simp [h2']; omega
   ·have e : (if x.f.line < 0 then (3 : Int) else 5) = 5 := if_neg (by omega)
    rw [e]
    refine ⟨rfl,rfl,w.up (by omega),⟨hv,hco,.inr (.inr (.inr (.inr (.inr (.inl ⟨rfl,h1,h2,h2',h2'',h2t,h3,h4,h5,rfl⟩)))))⟩,fun _ _ => rfl,fun L' c' hh hh' => ⟨hh,hh'⟩,⟨N,hP,rfl⟩,⟨by show x.tk<=1; omega,by show x.fd<=1; omega⟩,.inl ⟨rfl,rfl,fun e => by have : (5 : Int) = 6 := e.2; omega⟩,.inl ?_⟩
    rw [iZ hp,iZ (p := 5) rfl]
    simp [h2t]; omega
 ·refine .inr (.inr (.inr (.inr (.inl ⟨hp,rfl,⟨g.pg.1,by show x.f.value.size<=400; omega⟩,fun hf => absurd hf hP.room,fun i j htk => ?_⟩))))
  obtain ⟨L,l1,w2,hh2,hno⟩ := w.take htk
  refine ⟨rfl,o,⟨{ x.f with cls := 0,line := 2 + i * 8 + j * spn 0,piece := 0 },4,1,L,x.q,x.fd⟩,⟨rfl,rfl,w2.up (by omega),⟨hv,hco,.inr (.inr (.inr (.inr (.inl ⟨rfl,h1,rfl,rfl,l1.symm,hh2,rfl,h3,h4,h5,h6⟩))))⟩,fun _ _ => rfl,fun L' c' hh _ => ⟨hh.take g htk,fun _ e => ?_⟩,⟨N + 1,hP.take g.pg hN htk,by show N + 1 + x.tk = N + 1; omega⟩,⟨by show 1<=1; decide,by show x.fd<=1; omega⟩,.inl ⟨rfl,rfl,fun e => by omega⟩,.inl ?_⟩⟩
  ·have e : L' = L := e
   subst e
   obtain ⟨⟨i',j',hat,_⟩,_⟩ := hh
   exact hno ⟨i',j',hat⟩
  ·rw [iZ hp,iZ (p := 4) rfl]
   simp; omega
 ·obtain ⟨w1,w2⟩ := w.write hM h5 (t := t) (f := x.f) hv
  refine .inr (.inr (.inr (.inr (.inr (.inl ⟨hp,rfl,h2,x.hl,?_,w1,rfl,o,⟨{ x.f with piece := 0 },5,x.tk,x.hl,x.q,x.fd⟩,⟨rfl,rfl,w2,⟨hv,hco,.inr (.inr (.inr (.inr (.inr (.inl ⟨rfl,h1,h2,h4,h5,h6,h7,h8,h9,h10⟩)))))⟩,fun _ _ => rfl,fun L' c' hh hh' => ⟨hh,hh'⟩,⟨N,hP,rfl⟩,⟨by show x.tk<=1; omega,by show x.fd<=1; omega⟩,.inl ⟨rfl,rfl,fun e => by omega⟩,.inl ?_⟩⟩)))))
  ·show x.f = { x.f with line := (x.hl : Int),cls := 0,piece := ((0 : Nat) : Int) }
   rw [← h4,show ((0 : Nat) : Int) = x.f.piece from h3.symm,show (0 : Int) = x.f.cls from h2.symm]
  ·rw [iZ hp,iZ (p := 5) rfl]
   simp; omega
 ·obtain ⟨f1,f2,f3,f4⟩ := id h8
  by_cases hq : x.q = o
  ·obtain ⟨e1,e2,e3⟩ := w.deq hM (by omega) ht (f := x.f) h4 h2 (by rw [f4,hq]) h1
   refine .inr (.inr (.inr (.inr (.inr (.inr (.inl ⟨hp,rfl,f3,x.hl,h3,e1,rfl,o + 1,⟨{ x.f with found := true,aep := x.f.epoch,line := -1 },6,x.tk,x.hl,x.q,1⟩,⟨rfl,rfl,e2,⟨hv,hco,.inr (.inr (.inr (.inr (.inr (.inr ⟨.inl rfl,.inl ⟨rfl,h5,rfl⟩⟩)))))⟩,fun _ _ => rfl,fun L' c' hh hh' => ⟨e3 L' c' hh (hh' ⟨h5,h6⟩),fun e => absurd e.2 (by show ¬ (1 : Nat) = 0; decide)⟩,⟨N,hP,rfl⟩,⟨by show x.tk<=1; omega,by show 1<=1; decide⟩,.inr ⟨rfl,by omega,h6,rfl,hp,rfl,rfl,by rw [← hq]; exact h9⟩,.inl ?_⟩⟩))))))
   rw [iZ hp,iZ (p := 6) rfl]
   simp; omega
  ·refine .inr (.inr (.inr (.inr (.inr (.inr (.inr (.inl ⟨hp,rfl,f3,⟨g.cok,g.lok,by show t < a.c.t; rw [g.ct]; exact ht,?_,by show 0<=x.f.line; omega⟩,rfl,o,⟨{ x.f with had := false,old := oz,ans := emp,epoch := a.c.now },1,x.tk,x.hl,x.q,x.fd⟩,⟨rfl,rfl,w.up (by omega),⟨hv,hco,.inr (.inl ⟨rfl,w.now,.inr ⟨h2,h3,h4,h5⟩,h6,h7⟩)⟩,fun _ _ => rfl,fun L' c' hh hh' => ⟨hh,hh'⟩,⟨N,hP,rfl⟩,⟨by show x.tk<=1; omega,by show x.fd<=1; omega⟩,.inl ⟨rfl,rfl,fun e => by have : (1 : Int) = 6 := e.2; omega⟩,.inl ?_⟩⟩)))))))
   ·by_cases hz : o < n
    ·refine .inr (.inr ?_)
     show a.l.head ≠ x.f.old
     rw [(w.head hz).2,f4]
     intro e
     have e : (B o).id = (B x.q).id := congrArg dw.id e
     exact hq (w.ids _ _ f2 hz e.symm)
    ·exact .inr (.inl (by show a.l.n = 0; rw [w.len]; omega))
   ·have hlt : x.q < o := by omega
    rw [iZ hp,iZ (p := 1) rfl]
    simp [h5,hlt]; omega
 ·rcases hp with hp | hp
  ·refine .inr (.inr (.inr (.inr (.inr (.inr (.inr (.inr (.inl ⟨hp,rfl,⟨g.rok,by rw [g.rt]; exact ht⟩,rfl,o,⟨x.f,7,x.tk,x.hl,x.q,x.fd⟩,⟨rfl,rfl,w.nT.up (by omega),⟨hv,hco,.inr (.inr (.inr (.inr (.inr (.inr ⟨.inr rfl,h1⟩)))))⟩,nT _,fun L' c' hh hh' => ⟨hh,hh'⟩,⟨N,hP,rfl⟩,⟨by rcases h1 with h1 | h1 <;> (show x.tk<=1; omega),by rcases h1 with h1 | h1 <;> (show x.fd<=1; omega)⟩,.inl ⟨rfl,rfl,fun e => by omega⟩,.inl ?_⟩⟩))))))))
   rw [iZ hp,iZ (p := 7) rfl]
   simp
  ·refine .inr (.inr (.inr (.inr (.inr (.inr (.inr (.inr (.inr ⟨hp,rfl,rfl,o,x,⟨rfl,rfl,w.up (by omega),⟨hv,hco,.inr (.inr (.inr (.inr (.inr (.inr ⟨.inr hp,h1⟩)))))⟩,fun _ _ => rfl,fun L' c' hh hh' => ⟨hh,hh'⟩,⟨N,hP,rfl⟩,⟨by rcases h1 with h1 | h1 <;> omega,by rcases h1 with h1 | h1 <;> omega⟩,.inl ⟨rfl,rfl,fun e => by omega⟩,.inr ?_⟩⟩))))))))
   rw [iZ hp]
   simp
theorem TI.mono {n o o' : Nat} {B : Nat->dL} {LN : Nat->Nat} {a a' : ZArn} {has : Int} {x : ZTh} (h : TI n o B LN a has x) (hh : x.tk = 1/\x.fd = 0->Hold a x.hl 0->Hold a' x.hl 0) (ho : o' = o ∨ o' = o + 1/\o < n) : TI n o' B LN a' has x := by
 obtain ⟨hv,hco,h⟩ := h
 have hHH : x.fd = 0->HH a x->HH a' x := fun hf h => by
  rcases h with h | ⟨h1,h2,h3,h4⟩
  ·exact .inl h
  ·exact .inr ⟨h1,h2,hh ⟨h4,hf⟩ h3,h4⟩
 have hFQ : FQ n o B LN x->FQ n o' B LN x := fun ⟨h1,h2⟩ => ⟨by omega,h2⟩
 refine ⟨hv,hco,?_⟩
 rcases h with h | ⟨hp,h1,h2,h3,h4⟩ | ⟨hp,h1,h2,h3,h4,h5,h6⟩ | ⟨hp,h1,h2,h3,h4,h5,h6⟩ | ⟨hp,h1,h2,h3,h4,h5,h6,h7,h8,h9,h10⟩ | ⟨hp,h1,h2,h3,h4,h5,h6,h7,h8,h9⟩ | ⟨hp,h1⟩
 ·exact .inl h
 ·exact .inr (.inl ⟨hp,h1,hHH h3 h2,h3,h4⟩)
 ·exact .inr (.inr (.inl ⟨hp,h1,hHH h3 h2,h3,h4,hFQ h5,h6⟩))
 ·exact .inr (.inr (.inr (.inl ⟨hp,h1,h2,h3,h4,hFQ h5,h6⟩)))
 ·exact .inr (.inr (.inr (.inr (.inl ⟨hp,h1,h2,h3,h4,hh ⟨h6,h7⟩ h5,h6,h7,h8,hFQ h9,h10⟩))))
 ·exact .inr (.inr (.inr (.inr (.inr (.inl ⟨hp,h1,h2,h3,hh ⟨h5,h6⟩ h4,h5,h6,h7,hFQ h8,h9⟩)))))
 ·refine .inr (.inr (.inr (.inr (.inr (.inr ⟨hp,?_⟩)))))
  rcases h1 with h1 | ⟨h1,h2,h3,h4⟩
  ·exact .inl h1
  ·exact .inr ⟨h1,h2,h3,by omega⟩
theorem TI.bits {n o : Nat} {B : Nat->dL} {LN : Nat->Nat} {a : ZArn} {has : Int} {x : ZTh} (h : TI n o B LN a has x) : x.tk<=1/\x.fd<=1/\(x.fd = 1->x.ph = 6 ∨ x.ph = 7) := by
 obtain ⟨hv,hco,h⟩ := h
 rcases h with ⟨_,_,_,h1,h2,_⟩ | ⟨_,_,h1,h2,_⟩ | ⟨_,_,h1,h2,_⟩ | ⟨_,_,h1,h2,_⟩ | ⟨_,_,_,_,_,_,h1,h2,_⟩ | ⟨_,_,_,_,_,h1,h2,_⟩ | ⟨h0,⟨_,h1,h2⟩ | ⟨_,h1,h2,_⟩⟩
 ·omega
 ·rcases h1 with ⟨_,h1⟩ | ⟨_,_,_,h1⟩ <;> omega
 ·rcases h1 with ⟨_,h1⟩ | ⟨_,_,_,h1⟩ <;> omega
 ·omega
 ·omega
 ·omega
 ·exact ⟨by omega,by omega,fun _ => h0⟩
 ·omega
theorem aoy {o : Nat} {x : ZTh} (h : o<=1) : phi (o + 1) x<=phi o x := by
 unfold phi
 split
 ·exact aX _
 ·split
  ·exact aX _
  ·have : (if x.q < o + 1/\2<=x.ph then 3 else 0)<=(if x.q < o/\2<=x.ph then 3 else 0) + 3 := by split <;> omega
   omega
def adF (t i : Nat) : Nat := (i + 2 - t) / 3 - (102 - t) / 3
structure OS (n M : Nat) (a : ZArn) (X : Nat->ZTh) (o : Nat) (B : Nat->dL) (LN : Nat->Nat) (i : Nat) : Prop where
 w : OW n o M B LN a
 th : ∀ t,t < 3->TI n o B LN a (a.r.has t) (X t)
 ne : ∀ t t',t < 3->t' < 3->t ≠ t'->(X t).tk = 1/\(X t).fd = 0->(X t').tk = 1/\(X t').fd = 0->(X t).hl ≠ (X t').hl
 pc : PC a.p (n + (X 0).tk + (X 1).tk + (X 2).tk)
 fo : o = (X 0).fd + (X 1).fd + (X 2).fd
 ph : ∀ t,t < 3->phi o (X t)<=13/\(phi o (X t) = 0 ∨ phi o (X t) + adF t i<=13)
def aoz (X : Nat->ZTh) (t : Nat) (x : ZTh) : Nat->ZTh := fun s => if s = t then x else X s
theorem OS.step {n M : Nat} {a : ZArn} {X : Nat->ZTh} {o : Nat} {B : Nat->dL} {LN : Nat->Nat} {i : Nat} (h : OS n M a X o B LN i) (hM : M<=900000) {t : Nat} (ht : t < 3) (hi : i < 100 ∨ t = i % 3) :
  wD t (B (X t).q) 0 ⟨a,(X t).f,(X t).ph⟩ (fun m y => m = 0/\∃ o' x',OS n (M + 20) y.a (aoz X t x') o' B LN (i + 1)/\y.f = x'.f/\y.ph = x'.ph/\((o' = o/\¬ ((X t).ph = 5/\x'.ph = 6)) ∨ (o' = o + 1/\o < n/\(X t).ph = 5/\x'.ph = 6/\x'.f.found = true/\x'.f.ans = (B o).value))) := by
 have b0 := (h.th 0 (by decide)).bits
 have b1 := (h.th 1 (by decide)).bits
 have b2 := (h.th 2 (by decide)).bits
 have n4 := h.w.n4
 have hfo := h.fo
 have UE : t = 0 ∨ t = 1 ∨ t = 2 := by omega
 have hs := (h.th t ht).step h.w hM ht h.pc (by omega) (by rcases UE with rfl | rfl | rfl <;> omega) (fun hf => by rcases UE with rfl | rfl | rfl <;> omega)
 have mono : ∀ {Q Q' : Nat->ZTs->Prop} {s : ZTs} {b : dL},(∀ m y,Q m y->Q' m y)->wD t b 0 s Q->wD t b 0 s Q' := by
  intro Q Q' s b hQ hw
  rcases hw with ⟨c1,c2,c3,c4⟩ | ⟨c1,c2,c3,c4,c5⟩ | ⟨c1,c2,i,k,c3,c4,c5⟩ | ⟨c1,ln,c2,c3,c4,c5⟩ | ⟨c1,c2,c3,c4,c5⟩ | ⟨c1,c2,c3,ln,c4,c5,c6⟩ | ⟨c1,c2,c3,ln,c4,c5,c6⟩ | ⟨c1,c2,c3,c4,c5⟩ | ⟨c1,c2,c3,c4⟩ | ⟨c1,c2,c3⟩
  ·exact .inl ⟨c1,c2,c3,hQ _ _ c4⟩
  ·exact .inr (.inl ⟨c1,c2,c3,fun h => hQ _ _ (c4 h),fun h => hQ _ _ (c5 h)⟩)
  ·exact .inr (.inr (.inl ⟨c1,c2,i,k,c3,c4,hQ _ _ c5⟩))
  ·exact .inr (.inr (.inr (.inl ⟨c1,ln,c2,c3,fun h => hQ _ _ (c4 h),fun h => hQ _ _ (c5 h)⟩)))
  ·exact .inr (.inr (.inr (.inr (.inl ⟨c1,c2,c3,fun h => hQ _ _ (c4 h),fun i j h => hQ _ _ (c5 i j h)⟩))))
  ·exact .inr (.inr (.inr (.inr (.inr (.inl ⟨c1,c2,c3,ln,c4,c5,hQ _ _ c6⟩)))))
  ·exact .inr (.inr (.inr (.inr (.inr (.inr (.inl ⟨c1,c2,c3,ln,c4,c5,hQ _ _ c6⟩))))))
  ·exact .inr (.inr (.inr (.inr (.inr (.inr (.inr (.inl ⟨c1,c2,c3,c4,hQ _ _ c5⟩)))))))
  ·exact .inr (.inr (.inr (.inr (.inr (.inr (.inr (.inr (.inl ⟨c1,c2,c3,hQ _ _ c4⟩))))))))
  ·exact .inr (.inr (.inr (.inr (.inr (.inr (.inr (.inr (.inr ⟨c1,c2,hQ _ _ c3⟩))))))))
 refine mono (fun m y hy => ?_) hs
 obtain ⟨hm,o',x',nx⟩ := hy
 refine ⟨hm,o',x',?_,nx.f,nx.ph,?_⟩
 ·have px : ∀ s,aoz X t x' s = if s = t then x' else X s := fun _ => rfl
  obtain ⟨N',p1,p2⟩ := nx.pc
  have oo : o' = o ∨ o' = o + 1/\o < n := by rcases nx.pop with ⟨h1,_⟩ | ⟨h1,h2,_⟩ <;> omega
  have othr : ∀ s,s < 3->s ≠ t->TI n o' B LN y.a (y.a.r.has s) (X s) := fun s hs hne => by
   rw [nx.has s hne]
   exact (h.th s hs).mono (fun hh hH => (nx.hold _ _ hH (fun hx => h.ne s t hs ht hne hh hx)).1) oo
  refine ⟨nx.w,fun s hs => ?_,fun s s' hs hs' hne h1 h2 => ?_,?_,?_,fun s hs => ?_⟩
  ·rw [px]
   by_cases e : s = t
   ·subst e; rw [if_pos rfl]; exact nx.ti
   ·rw [if_neg e]; exact othr s hs e
  ·rw [px] at h1 ⊢
   rw [px s'] at h2 ⊢
   have hold : ∀ s,s < 3->s ≠ t->(X s).tk = 1/\(X s).fd = 0->x'.tk = 1/\x'.fd = 0->(X s).hl ≠ x'.hl := fun s hs hne hh hx => by
    have hH : Hold a (X s).hl 0 := by
     obtain ⟨_,_,h⟩ := h.th s hs
     rcases h with ⟨_,_,_,c1,c2,_⟩ | ⟨_,_,c1,c2,_⟩ | ⟨_,_,c1,c2,_⟩ | ⟨_,_,c1,c2,_⟩ | ⟨_,_,_,_,_,c1,_⟩ | ⟨_,_,_,_,c1,_⟩ | ⟨_,⟨_,c1,c2⟩ | ⟨_,c1,c2,_⟩⟩
     ·omega
     ·rcases c1 with ⟨_,c1⟩ | ⟨_,_,c1,_⟩
      ·omega
      ·exact c1
     ·rcases c1 with ⟨_,c1⟩ | ⟨_,_,c1,_⟩
      ·omega
      ·exact c1
     ·omega
     ·exact c1
     ·exact c1
     ·omega
     ·omega
    exact (nx.hold _ _ hH (fun hx => h.ne s t hs ht hne hh hx)).2 hx
   by_cases e : s = t
   ·by_cases e' : s' = t
    ·omega
    ·rw [if_pos e] at h1 ⊢
     rw [if_neg e'] at h2 ⊢
     exact fun hh => hold s' hs' e' h2 h1 hh.symm
   ·by_cases e' : s' = t
    ·rw [if_neg e] at h1 ⊢
     rw [if_pos e'] at h2 ⊢
     exact hold s hs e h1 h2
    ·rw [if_neg e] at h1 ⊢
     rw [if_neg e'] at h2 ⊢
     exact h.ne s s' hs hs' hne h1 h2
  ·refine p1.mono ?_
   rw [px,px,px]
   rcases UE with rfl | rfl | rfl <;> simp <;> omega
  ·rw [px,px,px]
   rcases nx.pop with ⟨c1,c2,_⟩ | ⟨c1,_,c2,c3,_⟩ <;> rcases UE with rfl | rfl | rfl <;> simp <;> omega
  ·have hp := h.ph s hs
   rw [px]
   have cmono : s ≠ t->adF s (i + 1) = adF s i ∨ adF s (i + 1) = 0 := fun hne => by
    unfold adF
    rcases hi with hi | hi
    ·right; omega
    ·left; omega
   by_cases e : s = t
   ·subst e
    rw [if_pos rfl]
    have hc : adF s (i + 1)<=adF s i + 1 := by unfold adF; omega
    rcases nx.phi with h1 | ⟨h1,h2⟩ <;> omega
   ·rw [if_neg e]
    have hle : phi o' (X s)<=phi o (X s) := by
     rcases nx.pop with ⟨c1,_⟩ | ⟨c1,c2,c3,c4,c5⟩
     ·rw [c1]; exact aX _
     ·rw [c1]
      by_cases hf : (X s).fd = 0
      ·refine aoy ?_
       have : s = 0 ∨ s = 1 ∨ s = 2 := by omega
       rcases UE with rfl | rfl | rfl <;> rcases this with rfl | rfl | rfl <;> omega
      ·have hb := (h.th s hs).bits
       have := hb.2.2 (by omega)
       unfold phi
       rcases this with e | e <;> rw [e] <;> simp
    rcases cmono e with h1 | h1 <;> omega
 ·rcases nx.pop with ⟨h1,_,h2⟩ | ⟨h1,h2,_,_,h3⟩
  ·exact .inl ⟨h1,h2⟩
  ·exact .inr ⟨h1,h2,h3⟩
end Go.Proofs.YtenfleoejgjklaaGreat
end
section
namespace Go.Proofs.YtenfleoejgjklaaGreat
open Go SE
def aqm : Prop := Value.slice none 0 0 = Value.slice none 0 0
def aqn : Prop := aqm/\True
def aiD : Prop := ∃ y_3 : Unit,True/\true = false/\True
def aoA : Prop := ByteArray.mk #[] = ByteArray.mk #[]/\aqn
def Gu (x : Unit) : Prop :=
 ∃ x_1 : ZNew,Hd (10<=x_1.n/\x_1.n<=258/\1<=x_1.t/\x_1.t<=4)/\((x_1.n : Int) = 10/\(x_1.t : Int) = 1/\True)/\True/\∀ y : DevM,Hd (y.ok/\y.n = x_1.n/\y.st = 2/\y.fl = 2/\y.fe = 1)->∃ x_2 : iI,Hd (sW x_2.a x_2.t)/\(0 = 0/\(x_2.t : Int) = 0/\((4 : Int) = 4/\x_2.key = ByteArray.mk #[]/\x_2.v = @ByteArray.mk (@List.toArray UInt8 [(120 : UInt8)])/\aoA)/\True)/\(ownM x_2.a.os = ownM (ZArn.osN (newArn x_1.n x_1.t y))/\True)/\∀ y_1 : ai9,Hd (resE x_2 y_1)->∃ x_3 : iI,Hd (sW x_3.a x_3.t/\x_3.v.size<=400/\(x_3.a.l.n ≠ 0->x_3.a.n ≠ 0/\∃ ln : Nat,@KR x_3.a x_3.b ln))/\(0 = 0/\(x_3.t : Int) = 0/\((5 : Int) = 5/\x_3.key = ByteArray.mk #[]/\x_3.v = ByteArray.mk #[]/\aoA)/\True)/\(ownM x_3.a.os = ownM y_1.a.os/\True)/\∀ y_2 : ai9,Hd (resD x_3 y_2)->cP (BEq.beq (y_1.n : Int) (5 : Int)) (cP (BEq.beq y_1.code (0 : Int)) (cP (BEq.beq (y_2.n : Int) (7 : Int)) (cP y_2.found (∃ y_3 : Unit,True/\true = BEq.beq (ByteArray.toList y_2.v) (ByteArray.toList (@ByteArray.mk (@List.toArray UInt8 [(120 : UInt8)])))/\True) aiD) aiD) aiD) aiD
theorem UF (x : Unit) : Gu x = wpF Tryz.prog aqj tt (noA x) 200 6 12 (aiv.args x) (hO 0 []) (fun v h' => eU 0 x v h' aiv.outs) := by kernel_rfl
end Go.Proofs.YtenfleoejgjklaaGreat
end
section
namespace Go.Proofs.YtenfleoejgjklaaGreat
open Go SE
set_option linter.unusedSimpArgs false
structure ZSm where
 n : Nat
 m : Nat
 g : Nat->ByteArray
 h : Nat->ByteArray
noncomputable def ZSm.same (x : ZSm) : Bool := hide (@decide (x.n = x.m/\∀ i,i < x.n->x.g i = x.h i) (Classical.propDecidable _))
def rowT (n : Nat) (g : Nat->ByteArray) : dF := .ro (.row 1 n (fun i => [.string (g i)]) [])
end Go.Proofs.YtenfleoejgjklaaGreat
end
section
namespace Go.Proofs.YtenfleoejgjklaaGreat
open Go SE
end Go.Proofs.YtenfleoejgjklaaGreat
end
section
namespace Go.Proofs.YtenfleoejgjklaaGreat
open Go SE
set_option linter.unusedSimpArgs false
theorem Gv {n : Nat} {c : Int} (hc : 0<=c) {i k : Nat} (h : (gJ n n).takes c i k) : i = 0/\k = 0 := by
 obtain ⟨h1,h2,h3,h4⟩ := h
 have h1 : i < n := h1
 have cl : ∀ j,j < n->(gJ n n).cls j = -1 := fun j hj => if_pos hj
 rcases h4 with ⟨h4,_⟩ | ⟨h4,h5,_,h6⟩
 ·rw [cl i h1] at h4; omega
 ·refine ⟨?_,h5⟩
  rcases Nat.eq_zero_or_pos i with h | h
  ·exact h
  ·exact absurd (cl 0 (by omega)) (h6 0 h)
theorem KT {n : Nat} (hn : 0 < n) {c : Int} : ¬ ∀ i,i < (gJ n n).n->(gJ n n).cls i ≠ -1/\(gJ n n).full c i := fun h => (h 0 hn).1 (if_pos hn)
def zB : dL := ⟨0,0,0,0,0,⟨#[]⟩,⟨#[]⟩⟩
theorem aiE (n T : Nat) (d : DevM) : ownM (newArn n T d).os = ownM (newArn n T d).osN := by rw [Fa rfl]
theorem Ir (u : Unit) : Gu u := by
 unfold Gu
 simp only [aoA,aiD,aqn,aqm]
 simp only [aY,aU,aT,ay,aH,bJ,bg,aN,aJ,au,aW,aV,bK,bC,bD,bF,bM,bf,bG,aZ,dY,aG,aK,ah,aj,aA,aC,aB,aF]
 refine ⟨⟨10,1⟩,by decide,⟨rfl,rfl⟩,fun d hd => ?_⟩
 have g0 := abk (n := 10) (t := 0) (T := 1) (m := 0) hd.1 hd.2.1 hd.2.2.1 rfl (by decide) (by decide) (by decide) (fun _ => zB)
 refine ⟨⟨newArn 10 1 d,0,⟨#[]⟩,⟨#[120]⟩,zB⟩,g0.A (by decide),⟨rfl,rfl,rfl⟩,aiE _ _ _,fun y1 h1 => ?_⟩
 rcases h1 with ⟨h,_⟩ | ⟨_,h,_⟩ | ⟨hv,c1,c2,c3,c4,i,j,ht,c5⟩
 ·exact absurd (show 400 < 1 from h) (by decide)
 ·exact absurd h (KT (n := 1) (by decide))
 have g1 := abj g0 (by decide) ⟨#[]⟩ ⟨#[120]⟩ zB hv ht
 rw [← c5] at g1
 obtain ⟨rfl,rfl⟩ := Gv (n := 1) (show (0 : Int)<=ned (1 : Nat) by decide) ht
 have hn1 : y1.a.l.n = 1 := by rw [c5]; exact yO _ _
 let B := pushB (fun _ => zB) (newArn 10 1 d).l.n ⟨ned (ByteArray.size ⟨#[120]⟩),2,(newArn 10 1 d).id + 1,(newArn 10 1 d).ver + 1,1,⟨#[]⟩,⟨#[120]⟩⟩
 refine ⟨⟨y1.a,0,⟨#[]⟩,⟨#[]⟩,B 0⟩,⟨g1.A (by decide),Nat.zero_le _,fun hz => g1.head hz⟩,⟨rfl,rfl,rfl⟩,rfl,fun y2 h2 => ?_⟩
 rcases h2 with ⟨h,_⟩ | ⟨_,h,_⟩ | ⟨_,e1,e2,e3,e4,_⟩
 ·exact absurd (hn1.symm.trans h) (by decide)
 ·exfalso
  have hp : y1.a.p = (gJ 1 1).take 0 0 0 := by rw [c5]; rfl
  have h := (h 0 (by rw [hp]; show 0 < 1; decide)).2
  rw [hp] at h
  have := h rfl 1 (by decide)
  cases this
 ·have e5 : y1.n = 5 := c4
  have e6 : y2.n = 7 := e4
  have e7 : y2.v = ⟨#[120]⟩ := e3
  rw [e5,e6,e7,c1,e2]
  exact bH (fun _ => bH (fun _ => bH (fun _ => (beq_self_eq_true _).symm) fun h => absurd h (by decide)) fun h => absurd h (by decide)) fun h => absurd h (by decide)
theorem alj : eY Tryz.prog aqj := .cons (bT aha) (.cons aiu .nil)
theorem alk : bV Tryz.prog 12 aiv := dX dI mixed alj noA 200 6 (fun _ => rfl) (fun _ => rfl) fun x _ => Eq.mp (UF x) (Ir x)
def aiF : WTr := fun args h K => match args with
 | [] => K (boo true) h
 | _ => False
theorem aiG (args : List AV) (h : Heap) (K : AV->Heap->Prop) (hq : aiF args h K) : Sp Tryz.prog 12 args h K := by
 unfold aiF at hq
 split at hq
 ·exact Dq alk () trivial h rfl rfl hq
 ·exact hq.elim
noncomputable def tblL : WTbl := [(12,aiF),(13,ctrT acW.ctr),(15,runT)]
theorem aoB : eY Tryz.prog tblL := .cons aiG (.cons (bT aha) (.cons aiu .nil))
structure ZTu where
 lines : Int
 n : Nat
 g : Nat->ByteArray
 m : Nat
 h : Nat->Bool
def ZTu.os (x : ZTu) : List dF := [rowT x.n x.g,.ro (.row 1 x.m (fun i => [.bool (x.h i)]) [])]
end Go.Proofs.YtenfleoejgjklaaGreat
end
section
namespace Go.Proofs.YtenfleoejgjklaaGreat
open Go SE
set_option linter.unusedSimpArgs false
structure OE (i : Nat) (a : ZArn) (b : Nat->dL) : Prop where
 g : Good a 0 i b
 ct : a.c.t = 3
 rt : a.r.t = 3
 clos : a.c.clos = 0
 fl : a.d.fl = 2
 fe : a.d.fe = 1
 len : a.l.n = i
 id : a.id = i
 pc : PC a.p i
 has : ∀ t,a.r.has t = 0
 bn : a.b.n = 0
 bid : ∀ j,j < i->(b j).id = (j : Int) + 1/\(b j).cls = 0/\(b j).value = lQ.extract j (j + 1)
theorem OE.new {d : DevM} (hd : d.ok/\d.n = 42/\d.st = 2/\d.fl = 2/\d.fe = 1) : OE 0 (newArn 42 3 d) (fun _ => zB) := by
 refine ⟨abk (n := 42) (t := 0) (T := 3) (m := 4) hd.1 hd.2.1 hd.2.2.1 rfl (by decide) (by decide) (by decide) _,rfl,rfl,rfl,hd.2.2.2.1,hd.2.2.2.2,rfl,rfl,⟨show 2<=5 by decide,fun i _ hi => if_pos hi,.inl rfl,Int.le_refl 0⟩,fun _ => rfl,rfl,fun j hj => absurd hj (Nat.not_lt_zero j)⟩
theorem aqo {x : iI} (k : Int) (i j : Nat) : ∀ p,(x.dW k i j p).fl = x.a.d.fl/\(x.dW k i j p).fe = x.a.d.fe
 | 0 => ⟨rfl,rfl⟩
 | p + 1 => by
  have ih := aqo (x := x) k i j p
  show (ZWr.d' ⟨x.dW k i j p,x.t,x.f1,x.ln k i j,x.c k,p⟩).fl = _/\(ZWr.d' ⟨x.dW k i j p,x.t,x.f1,x.ln k i j,x.c k,p⟩).fe = _
  unfold ZWr.d'
  split
  ·exact ih
  ·exact ih
theorem Pv {i : Nat} (h : i < 5) : (lQ.extract i (i + 1)).size = 1 := by
 rw [ByteArray.size_extract]
 have : lQ.size = 5 := rfl
 omega
theorem aqp {x : iI} (i j : Nat) : (x.aE i j).d.fl = x.a.d.fl/\(x.aE i j).d.fe = x.a.d.fe := aqo 4 i j (x.sp 4)
theorem aoC {x : iI} (i j : Nat) : (x.aE i j).c.clos = x.a.c.clos := by
 have hc : ∀ n,(x.a.c.notes x.t ((x.ln 4 i j : Nat) : Int) n).clos = x.a.c.clos := fun n => by
  induction n with
  | zero => rfl
  | succ n ih => exact ih
 exact hc _
theorem aE_t {x : iI} (i j : Nat) : (x.aE i j).c.t = x.a.c.t := mQ _ _ _ _
theorem aqr {x : iI} (i j : Nat) : (x.aE i j).l.n = x.a.l.n + 1 := yO _ _
theorem aE_p {x : iI} (i j : Nat) : (x.aE i j).p = x.a.p.take (x.c 4) i j := rfl
theorem aE_id {x : iI} (i j : Nat) : (x.aE i j).id = x.a.id + 1 := rfl
theorem aE_r {x : iI} (i j : Nat) : (x.aE i j).r = (x.a.r.put x.t x.a.r.now).put x.t 0 := rfl
theorem aE_b {x : iI} (i j : Nat) : (x.aE i j).b = x.a.b := rfl
theorem OE.next {i : Nat} {a : ZArn} {b : Nat->dL} (h : OE i a b) (hi : i < 4) {key : ByteArray} {bb : dL} {y : ai9} (r : resE ⟨a,0,key,lQ.extract i (i + 1),bb⟩ y) : ∃ b',OE (i + 1) y.a b' := by
 have hs := Pv (i := i) (by omega)
 have hn : ned ((lQ.extract i (i + 1)).size : Int) = 0 := by rw [hs]; rfl
 rcases r with ⟨h1,_⟩ | ⟨_,h1,_⟩ | ⟨h1,_,_,_,_,i',j',ht,e⟩
 ·have h1 : 400 < (lQ.extract i (i + 1)).size := h1
  omega
 ·exfalso
  rw [show (iI.mk a 0 key (lQ.extract i (i + 1)) bb).v = lQ.extract i (i + 1) from rfl,hn] at h1
  exact h.pc.room h1
 ·have ht' : a.p.takes (ned ((lQ.extract i (i + 1)).size : Int)) i' j' := ht
  have g := abj h.g (by omega) key _ bb (by omega) ht'
  have ht0 := ht'
  rw [hn] at ht0
  have hln := h.len
  rw [e]
  generalize hx : iI.mk a 0 key (lQ.extract i (i + 1)) bb = x at g ⊢
  have ea : x.a = a := by rw [← hx]
  have et : x.t = 0 := by rw [← hx]
  have ec : x.c 4 = 0 := by rw [← hx]; exact (if_pos rfl).trans hn
  refine ⟨_,g,?_,?_,?_,?_,?_,?_,?_,?_,fun t => ?_,?_,fun j hj => ?_⟩
  ·rw [aE_t,ea]; exact h.ct
  ·rw [aE_r,ea]; exact h.rt
  ·rw [aoC,ea]; exact h.clos
  ·rw [(aqp _ _).1,ea]; exact h.fl
  ·rw [(aqp _ _).2,ea]; exact h.fe
  ·rw [aqr,ea,hln]
  ·rw [aE_id,ea,h.id]; rfl
  ·rw [aE_p,ea,ec]; exact h.pc.take h.g.pg (by omega) ht0
  ·rw [aE_r,ea,et]
   show (if t = 0 then (0 : Int) else if t = 0 then _ else a.r.has t) = 0
   by_cases e : t = 0
   ·rw [if_pos e]
   ·rw [if_neg e,if_neg e]; exact h.has t
  ·rw [aE_b,ea]; exact h.bn
  ·unfold pushB
   by_cases ej : j = a.l.n
   ·have ej' : j = i := by omega
    subst ej'
    simp only [if_pos ej]
    exact ⟨by rw [h.id],hn,True.intro⟩
   ·rw [if_neg ej]; exact h.bid j (by omega)
def f00 : ZTh := ⟨f0 ⟨#[]⟩ ⟨#[]⟩,0,0,0,0,0⟩
theorem OE.start {n : Nat} {a : ZArn} {b : Nat->dL} (h : OE n a b) (hn : n<=4) : OS n (20 * n + 20) a (fun _ => f00) 0 b (fun i => (a.l.get i).line.toNat) 0 := by
 have g := h.g
 have d1 := g.dst
 have hln := h.len
 have hq : ∀ i,i < n->a.l.get i = lk b (fun i => (a.l.get i).line.toNat) i/\ZBy.ok ⟨a.d,b i,(a.l.get i).line.toNat⟩/\∃ i' j',a.p.at_ ((a.l.get i).line.toNat : Nat) i' j'/\a.p.cls i' = (b i).cls := fun i hi => by
  obtain ⟨ln,q1,q2,q3⟩ := g.q i (by omega)
  have e : (a.l.get i).line.toNat = ln := by rw [q1]; rfl
  rw [e]
  refine ⟨?_,q2,q3⟩
  unfold lk
  simp only [e]
  exact q1
 have base : Base a 3 (20 * n + 20) (fun i => b (0 + i)) := by
  rw [show (fun i => b (0 + i)) = b from funext fun i => by rw [ay]]
  exact { dok := g.dok,dst := by omega,dfl := by rw [h.fl]; omega,dfe := by rw [h.fe]; omega,rok := g.rok,rt := h.rt,cok := g.cok,ct := h.ct,clos := h.clos,pg := g.pg,fit := g.fit,bok := g.bok,lok := g.lok,adE := by have := g.adE; omega,ln := by have := g.ln; omega,id0 := g.id0,id1 := by have := g.id1; omega,v0 := g.v0,v1 := by have := g.v1; omega,nn := by have := g.nn; omega,adC := by rw [g.now]; decide,adD := by rw [g.now]; omega,owed := fun k => by have := g.owed k; omega,nz := g.nz,used := g.used,q := g.q }
 refine { w := { base := base,on := Nat.zero_le _,n4 := hn,len := hln,now := g.now,lie := fun i hi => (hq i hi).2.1,cls := fun i hi => (h.bid i hi).2.1,val := fun i hi => (h.bid i hi).2.2,lnk := fun i hi => by rw [ay]; exact (hq i hi).1,bag := fun i hi => absurd hi (Nat.not_lt_zero i),bn := h.bn,ids := fun i j hi hj e => by rw [(h.bid i hi).1,(h.bid j hj).1] at e; omega },th := fun t _ => ⟨rfl,rfl,.inl ⟨rfl,h.has t,rfl,rfl,rfl,rfl⟩⟩,ne := fun t t' _ _ _ e => absurd e.1 (by show ¬ (0 : Nat) = 1; decide),pc := h.pc,fo := rfl,ph := fun t _ => ?_ }
 have e : phi 0 f00 = 13 := rfl
 refine ⟨by rw [e]; exact aX _,.inr ?_⟩
 rw [e]
 have : adF t 0 = 0 := by unfold adF; omega
 omega
def ZFr.vs (f : ZFr) (k ph : Int) : List Value := [.int .i64 k,.string f.key,.string f.value,.string ⟨#[]⟩,.slice none 0 0,.int .i64 ph,.int .u64 f.epoch,.string ⟨#[]⟩,.bool false,.int .i64 0,.bool f.had,.string f.old.key,.int .u64 f.old.id,.int .u64 f.old.ver,.int .i64 f.old.line,.int .i64 f.old.cls,.int .i64 f.line,.int .i64 f.cls,.int .i64 f.piece,.slice none 0 0,.int .i64 0,.slice none 0 0,.int .i64 f.code,.bool f.found,.string f.ans,.slice none 0 0,.slice none 0 0,.int .u64 f.aep]
structure Px where
 m : Nat
 g : Nat->Int
 wait : Int
def Px.os (x : Px) : List dF := [.ro (.row 1 x.m (fun i => [.int .i64 (x.g i)]) [])]
structure ZOn1 where
 i : Nat
 a : ZArn
 b : Nat->dL
structure Iu where
 i : Nat
 a : ZArn
 X : Nat->ZTh
 o : Nat
 B : Nat->dL
 LN : Nat->Nat
 off : ByteArray
def arrAt (fr : Fr) : Nat := match SE.look fr 9 with
 | .ptr j _ => j
 | _ => 0
noncomputable def aqs (x : Px) : FuncId->uU := fun f => bif Nat.beq f 3 then (fun b fr h => bif Nat.beq b 0 then [
 { σ := ZOn1,fr := fun s => [(8,i64 s.i)],ob := fun s => [(1,some (.abs (ownM s.a.os)))],inv := fun s => Hd ((s.i : Int)<=apn fr 7/\OE s.i s.a s.b),meas := fun s => 5 - s.i }] else bif Nat.beq b 2 then [
 { σ := Iu,fr := fun s => [(11,i64 s.i),(10,.lit (.string s.off))],ob := fun s => [(1,some (.abs (ownM s.a.os))),(arrAt fr,some (.cells 48 (.row 28 3 (fun t => (s.X t).f.vs 5 (s.X t).ph) [])))],inv := fun s => Hd (s.i<=180/\OS (apn fr 7).toNat (20 * s.i + 200) s.a s.X s.o s.B s.LN s.i/\s.off = lQ.extract 0 s.o),meas := fun s => 180 - s.i }] else []) else fun _ _ _ => []
noncomputable def aiH (A B : WTr) : WTr := fun args h K => A args h K ∨ B args h K
theorem adw {P : Program} {f : FuncId} {A B : WTr} (hA : ∀ args h K,A args h K->Sp P f args h K) (hB : ∀ args h K,B args h K->Sp P f args h K) (args : List AV) (h : Heap) (K : AV->Heap->Prop) (hq : aiH A B args h K) : Sp P f args h K := hq.elim (hA args h K) (hB args h K)
end Go.Proofs.YtenfleoejgjklaaGreat
end
section
namespace Go.Proofs.YtenfleoejgjklaaGreat
open Go SE
set_option linter.unusedSimpArgs false
def wK (c : ClkM) (d : DevM) (ph : Nat) (Q : ClkM->DevM->Nat->Prop) : Prop :=
 (ph = 0/\c.clos = 0/\Q c d 0) ∨
 (ph = 1/\alK.ok ⟨c,d⟩/\(∀ k,k < 258->c.L k = true->(∀ j,j < k->c.L j = false)->Q (c.apB k) (d.flush k) 1)/\((∀ j,j < 258->c.L j = false)->Q c d.fence 2)) ∨
 (ph = 2/\alK.ok ⟨c,d⟩/\Q c (d.store 1 0 64 (kV c.clos)) 3) ∨
 (ph = 3/\alK.ok ⟨c,d⟩/\Q c (d.flush 1) 4) ∨
 (ph = 4/\alK.ok ⟨c,d⟩/\Q c.fin d.fence 0)
def abm (c : ClkM) (lo : Nat) : Prop := ∀ k,c.N k = true->lo<=k/\k < lo + 8
def aoD (d d0 : DevM) (j : Nat) : Prop := d.ok/\d.n = d0.n/\d.st<=d0.st + j/\d.fl<=d0.fl + j/\d.fe<=d0.fe + j/\∀ m r : Nat,2<=m->r < 64->d.b (m * 193 + r) = d0.b (m * 193 + r)
structure CS (c0 : ClkM) (d0 : DevM) (lo j : Nat) (c : ClkM) (d : DevM) (ph : Nat) : Prop where
 t : c.t = c0.t
 ok : c.ok
 now : c.now = c0.now + 1
 N : ∀ k,c.N k = false
 o : ∀ k,c.o k = 0
 dev : aoD d d0 j
 ph : (ph = 0/\c.clos = 0) ∨ (c.clos ≠ 0/\((ph = 1/\j<=8/\∀ k,c.L k = true->lo + j<=k/\k < lo + 8) ∨ (ph = 2/\j<=9) ∨ (ph = 3/\j<=10) ∨ (ph = 4/\j<=11)))
theorem CS.start {c0 : ClkM} {d0 : DevM} {lo : Nat} (hc : c0.ok) (h0 : c0.clos = 0) (h1 : 1<=c0.now) (h2 : c0.now + 1 < 4611686018427387904) (hn : abm c0 lo) (hd : d0.ok) : CS c0 d0 lo 0 c0.start d0 1 := by
 obtain ⟨o1,o2,o3,o4,o5,o6⟩ := hc
 have b0 : U64 (c0.now + 1) := ⟨by omega,h2⟩
 refine { t := rfl,ok := ⟨o1,o2,b0,o4,o3,fun _ => ⟨Int.le_refl 0,show (0 : Int) < 1099511627776 by decide⟩⟩,now := rfl,N := fun _ => rfl,o := fun _ => rfl,dev := ⟨hd,rfl,by omega,by omega,by omega,fun _ _ _ _ => rfl⟩,ph := .inr ⟨by show c0.now ≠ 0; omega,.inl ⟨rfl,Nat.zero_le _,fun k hk => ?_⟩⟩ }
 have := hn k hk
 omega
theorem aoE {d : DevM} {k m r : Nat} (hr : r < 64) : (d.flush k).b (m * 193 + r) = d.b (m * 193 + r) := by
 show (if k * 193 + 128<=m * 193 + r/\m * 193 + r < k * 193 + 192 then _ else _) = _
 exact if_neg (by omega)
theorem aoF {d : DevM} {m r : Nat} (hr : r < 64) : d.fence.b (m * 193 + r) = d.b (m * 193 + r) := by
 show (if (m * 193 + r) / 193 < d.n/\d.s ((m * 193 + r) / 193) = true/\64<=(m * 193 + r) % 193/\(m * 193 + r) % 193 < 128 then _ else _) = _
 exact if_neg (by omega)
theorem CS.next {c0 : ClkM} {d0 : DevM} {lo j : Nat} {c : ClkM} {d : DevM} {ph : Nat} (h : CS c0 d0 lo j c d ph) (hb : d0.st<=1000000000/\d0.fl<=1000000000/\d0.fe<=1000000000) (hj : j < 14) (hn : 1 < d0.n) : wK c d ph (CS c0 d0 lo (j + 1)) := by
 obtain ⟨k1,k2,k3,k4,k5,⟨e1,e2,e3,e4,e5,e6⟩,k7⟩ := h
 have flu : ∀ k,aoD (d.flush k) d0 (j + 1) := fun k => ⟨DevM.zq e1 _ (by omega),e2,by show d.st<=_; omega,by show (if k < d.n then d.fl + 1 else d.fl)<=_; split <;> omega,by show d.fe<=_; omega,fun m r hm hr => by rw [aoE hr]; exact e6 m r hm hr⟩
 have fen : aoD d.fence d0 (j + 1) := ⟨DevM.Jm e1 (by omega),e2,by show d.st<=_; omega,by show d.fl<=_; omega,by show d.fe + 1<=_; omega,fun m r hm hr => by rw [aoF hr]; exact e6 m r hm hr⟩
 rcases k7 with ⟨rfl,k7⟩ | ⟨k8,⟨rfl,k7⟩ | ⟨rfl,k7⟩ | ⟨rfl,k7⟩ | ⟨rfl,k7⟩⟩
 ·exact .inl ⟨rfl,k7,k1,k2,k3,k4,k5,⟨e1,e2,by omega,by omega,by omega,e6⟩,.inl ⟨rfl,k7⟩⟩
 ·refine .inr (.inl ⟨rfl,⟨k2,e1,k8,by show 1 < d.n; omega⟩,fun k hk hL hmin => ⟨k1,k2,k3,k4,k5,flu k,.inr ⟨k8,.inl ⟨rfl,?_,fun q hq => ?_⟩⟩⟩,fun hL => ⟨k1,k2,k3,k4,k5,fen,.inr ⟨k8,.inr (.inl ⟨rfl,by omega⟩)⟩⟩⟩)
  ·have := k7.2 k hL; omega
  ·have hq : (if q = k then false else c.L q) = true := hq
   by_cases e : q = k
   ·rw [if_pos e] at hq; cases hq
   ·rw [if_neg e] at hq
    have h1 := k7.2 q hq
    have h2 := k7.2 k hL
    have : ¬ q < k := fun hlt => by rw [hmin q hlt] at hq; cases hq
    omega
 ·refine .inr (.inr (.inl ⟨rfl,⟨k2,e1,k8,by show 1 < d.n; omega⟩,k1,k2,k3,k4,k5,⟨DevM.je e1 _ _ _ (Em _) (by omega),e2,by show d.st + 1<=_; omega,by show d.fl<=_; omega,by show d.fe<=_; omega,fun m r hm hr => ?_⟩,.inr ⟨k8,.inr (.inr (.inl ⟨rfl,by omega⟩))⟩⟩))
  rw [qc _ _ _ _ _ hr,if_neg (by omega)]; exact e6 m r hm hr
 ·exact .inr (.inr (.inr (.inl ⟨rfl,⟨k2,e1,k8,by show 1 < d.n; omega⟩,k1,k2,k3,k4,k5,flu 1,.inr ⟨k8,.inr (.inr (.inr ⟨rfl,by omega⟩))⟩⟩)))
 ·exact .inr (.inr (.inr (.inr ⟨rfl,⟨k2,e1,k8,by show 1 < d.n; omega⟩,k1,⟨k2.1,k2.2.1,k2.2.2.1,k2.2.2.2.2.1,⟨Int.le_refl 0,show (0 : Int) < 4611686018427387904 by decide⟩,k2.2.2.2.2.2⟩,k3,k4,k5,fen,.inl ⟨rfl,rfl⟩⟩)))
section
variable {a : ZArn} {T M : Nat} {b : Nat->dL}
theorem Base.begin (g : Base a T M b) (hM : M<=1000000) {lo : Nat} (hn : abm a.c lo) : CS a.c a.d lo 0 a.c.start a.d 1 :=
 CS.start g.cok g.clos g.adC (by have := g.adD; omega) hn g.dok
end
def room (a : ZArn) : Prop := 2<=a.p.n/\∀ i,1<=i->i < a.p.n->a.p.cls i = -1
def spv (v : ByteArray) : Nat := (spn (ned v.size)).toNat
structure IE0 (v : ByteArray) (nw : Int) (M : Nat) (s : ZTs) : Prop where
 base : Base s.a 1 M (fun _ => zB)
 ln0 : s.a.l.n = 0
 n0 : s.a.n = 0
 now : s.a.c.now = nw
 note : ∀ k,s.a.c.N k = false
 val : s.f.value = v
 size : v.size<=400
 code : s.f.code = 0
 had : s.f.had = false
def IE (v : ByteArray) (nw : Int) (n M : Nat) (s : ZTs) (r : Nat) : Prop :=
 IE0 v nw M s/\((s.ph = 0/\s.a.r.has 0 = 0/\s.a.p = gJ 3 3/\r = 1 + (1 + (spv v + (n + 2)))) ∨
  (s.ph = 3/\s.f.epoch = nw/\s.a.p = gJ 3 3/\r = 1 + (spv v + (n + 2))) ∨
  (s.ph = 4/\s.f.epoch = nw/\s.f.cls = ned v.size/\room s.a/\∃ L p : Nat,s.f.line = L/\s.f.piece = p/\p < spv v/\Hold s.a L (ned v.size)/\dat s.a.d L v p/\r = spv v - p + (n + 2)) ∨
  (s.ph = 5/\s.f.epoch = nw/\s.f.cls = ned v.size/\room s.a/\∃ L : Nat,s.f.line = L/\Hold s.a L (ned v.size)/\dat s.a.d L v (spv v)/\r = n + 2))
structure One (v : ByteArray) (nw : Int) (M : Nat) (b : Nat->dL) (a : ZArn) : Prop where
 base : Base a 1 M b
 ln1 : a.l.n = 1
 val : (b 0).value = v
 n1 : a.n = 1
 now : a.c.now = nw
 note : ∃ lo,abm a.c lo
def JE (v : ByteArray) (nw : Int) (M : Nat) (b : Nat->dL) (s : ZTs) (r : Nat) : Prop := One v nw M b s.a/\room s.a/\s.f.code = 0/\s.f.aep = nw/\(s.ph = 6/\r = 1 ∨ s.ph = 7/\r = 0/\s.a.r.has 0 = 0)
def KE (v : ByteArray) (nw : Int) (n M : Nat) (s : ZTs) (r : Nat) : Prop := IE v nw n M s r ∨ n = 0/\∃ b,JE v nw M b s r
theorem aqt {v : ByteArray} (h : v.size<=400) : (spv v : Int) = spn (ned v.size)/\1<=spv v/\spv v<=8 := by
 have h1 := JX h
 have := dP (ned v.size)
 unfold spv
 omega
theorem IE0.mono {v : ByteArray} {nw : Int} {M : Nat} {s s' : ZTs} (h : IE0 v nw M s) (ha : Base s'.a 1 (M + 20) (fun _ => zB)) (hl : s'.a.l = s.a.l) (hn : s'.a.n = s.a.n) (hc : s'.a.c = s.a.c) (hv : s'.f.value = s.f.value) (hco : s'.f.code = s.f.code) (hh : s'.f.had = s.f.had) : IE0 v nw (M + 20) s' :=
 ⟨ha,by rw [hl]; exact h.ln0,by rw [hn]; exact h.n0,by rw [hc]; exact h.now,fun k => by rw [hc]; exact h.note k,by rw [hv]; exact h.val,h.size,by rw [hco]; exact h.code,by rw [hh]; exact h.had⟩
theorem aiI {c : ClkM} {t : Nat} {L : Nat} (h : ∀ k,c.N k = false) : ∀ n,n<=8->abm (c.notes t (L : Int) n) L
 | 0,_ => fun k hk => by have := h k; rw [show (c.notes t (L : Int) 0).N k = c.N k from rfl,this] at hk; cases hk
 | n + 1,hn => fun k hk => by
  have hk : ((c.notes t (L : Int) n).N k || decide ((L : Int) + n = (k : Nat))) = true := hk
  rw [Bool.or_eq_true] at hk
  rcases hk with hk | hk
  ·exact aiI h n (by omega) k hk
  ·have := aQ hk; omega
theorem IE.next {v : ByteArray} {nw : Int} {n M : Nat} {s : ZTs} {r : Nat} (hM : M<=900000) (h : IE v nw n M s r) (hz : s.ph = 5->n = 0) : wE 0 s (fun y => KE v nw n (M + 20) y (r - 1)) := by
 obtain ⟨h0,h⟩ := h
 have g := h0.base
 have hs := h0.size
 have hv := h0.val
 obtain ⟨s1,s2,s3⟩ := aqt hs
 have hc := JX hs
 rcases h with ⟨hp,h1,h2,hr⟩ | ⟨hp,h1,h2,hr⟩ | ⟨hp,h1,h2,h3,L,p,h4,h5,h6,h7,h8,hr⟩ | ⟨hp,h1,h2,h3,L,h4,h5,h6,hr⟩
 ·refine .inl ⟨hp,⟨g.rok,g.cok,by show 0 < s.a.r.t; rw [g.rt]; decide,h1⟩,fun h => absurd h (by rw [hv]; omega),fun _ => .inl ⟨h0.mono (g.nT.up (by omega)) rfl rfl rfl rfl rfl rfl,.inr (.inl ⟨rfl,h0.now,h2,by omega⟩)⟩⟩
 ·refine .inr (.inl ⟨hp,⟨g.pg.1,by rw [hv]; exact hs⟩,fun hf => ?_,fun i j ht => ?_⟩)
  ·rw [h2,hv] at hf; exact absurd hf (KT (n := 3) (by decide))
  ·rw [hv] at ht ⊢
   obtain ⟨L,l1,l2,gt,ht2,_⟩ := g.take hc ht
   rw [h2] at ht
   obtain ⟨rfl,rfl⟩ := Gv (n := 3) hc.1 ht
   refine .inl ⟨h0.mono (gt.up (by omega)) rfl rfl rfl rfl rfl rfl,.inr (.inr (.inl ⟨rfl,h1,rfl,⟨?_,fun i h1 h2' => ?_⟩,L,0,l1.symm,rfl,by omega,ht2,fun m r h1 h2 _ => absurd h2 (by omega),by omega⟩))⟩
   ·show 2<=s.a.p.n; rw [h2]; decide
   ·show (if i = 0 then ned v.size else s.a.p.cls i) = -1
    have h2' : i < s.a.p.n := h2'
    rw [if_neg (by omega),h2]
    rw [h2] at h2'
    exact if_pos h2'
 ·have hw := g.write (by omega) h7 (t := 0) (f := s.f) (by rw [hv]; exact hs) (p := p) (by omega)
  obtain ⟨w1,w2,w3,w4⟩ := hw
  rw [← h2] at w1 w2 w3 w4
  refine .inr (.inr (.inl ⟨hp,L,p,?_,w1,fun hne => .inl ⟨h0.mono w2 rfl rfl rfl rfl rfl rfl,.inr (.inr (.inl ⟨rfl,h1,h2,h3,L,p + 1,h4,rfl,by rw [h2] at hne; omega,h7,by rw [hv] at w3; exact w3 h8,by omega⟩))⟩,fun he => .inl ⟨h0.mono w2 rfl rfl rfl rfl rfl rfl,.inr (.inr (.inr ⟨rfl,h1,h2,h3,L,h4,h7,?_,?_⟩))⟩⟩))
  ·show s.f = { s.f with line := (L : Int),cls := s.f.cls,piece := (p : Int) }
   rw [← h4,← h5]
  ·rw [h2] at he
   have : spv v = p + 1 := by omega
   rw [this]; rw [hv] at w3; exact w3 h8
  ·rw [h2] at he; omega
 ·have hn := hz hp
  subst hn
  have hh : Hold s.a L s.f.cls := by rw [h2]; exact h5
  obtain ⟨e1,e2⟩ := g.enq (by omega) (t := 0) (by decide) (f := s.f) hh (by rw [h2,hv]) (by rw [hv]; exact hs) (by rw [h1,h0.now]) (by rw [hv,h2]; exact h6)
  refine .inr (.inr (.inr (.inl ⟨hp,h0.had,L,h4,e1,.inr ⟨rfl,pushB (fun _ => zB) s.a.l.n (s.pb 0 L).chg.blk,⟨e2,?_,?_,?_,?_,⟨L,?_⟩⟩,h3,h0.code,h1,.inl ⟨rfl,by omega⟩⟩⟩)))
  ·show (s.a.l.push _).n = 1
   rw [yO,h0.ln0]
  ·show (pushB (fun _ => zB) s.a.l.n (s.pb 0 L).chg.blk 0).value = v
   unfold pushB
   rw [if_pos h0.ln0.symm]
   exact hv
  ·show s.a.n + 1 = 1
   rw [h0.n0]
  ·show (s.a.c.notes 0 (L : Int) (s.pb 0 L).chg.blk.dD).now = nw
   rw [jU]; exact h0.now
  ·exact aiI h0.note _ (jA _).1
theorem One.nT {v : ByteArray} {nw : Int} {M : Nat} {b : Nat->dL} {a : ZArn} (h : One v nw M b a) {t : Nat} {x : Int} : One v nw (M + 20) b (a.nT t x) := ⟨h.base.nT.up (by omega),h.ln1,h.val,h.n1,h.now,h.note⟩
theorem KE.next {v : ByteArray} {nw : Int} {n M : Nat} {s : ZTs} {r : Nat} (hM : M<=900000) (h : KE v nw n M s r) (hz : s.ph = 5->n = 0) (h7 : s.ph ≠ 7) : wE 0 s (fun y => KE v nw n (M + 20) y (r - 1)) := by
 rcases h with h | ⟨hn,b,h1,hro,h2,h3,h4⟩
 ·exact h.next hM hz
 ·rcases h4 with ⟨hp,hr⟩ | ⟨hp,_⟩
  ·exact .inr (.inr (.inr (.inr (.inr (.inl ⟨hp,⟨h1.base.rok,by rw [h1.base.rt]; decide⟩,.inr ⟨hn,b,h1.nT,hro,h2,h3,.inr ⟨rfl,by omega,show (if 0 = 0 then (0 : Int) else s.a.r.has 0) = 0 from if_pos rfl⟩⟩⟩)))))
  ·exact absurd hp h7
end Go.Proofs.YtenfleoejgjklaaGreat
end
section
namespace Go.Proofs.YtenfleoejgjklaaGreat
open Go SE
set_option linter.unusedSimpArgs false
def UG (sb : Nat) : Nat->Nat
 | 0 => 2
 | n + 1 => UG sb n + (2 + sb)
def Held (s : ZTs) (E : Nat) : Prop := (s.f.line = -1/\room s.a/\E = 2) ∨ (s.f.cls = 0/\(∃ L : Nat,s.f.line = L/\Hold s.a L 0)/\E = 0)
structure ID0 (v : ByteArray) (nw : Int) (M : Nat) (b : Nat->dL) (s : ZTs) : Prop where
 one : One v nw M b s.a
 fv : s.f.value.size = 0
 code : s.f.code = 0
def ID (v : ByteArray) (nw : Int) (n M : Nat) (b : Nat->dL) (s : ZTs) (m r : Nat) : Prop :=
 ID0 v nw M b s/\(
  (s.ph = 0/\m = 0/\s.a.r.has 0 = 0/\s.f.line = -1/\room s.a/\r = 1 + (1 + (b 0).dD + 2 + UG (b 0).dD n)) ∨
  (s.ph = 1/\m = 0/\s.f.epoch = nw/\∃ E,Held s E/\r = 1 + (b 0).dD + E + UG (b 0).dD n) ∨
  (s.ph = 2/\m < (b 0).dD/\s.f.epoch = nw/\s.f.had = true/\s.f.old = s.a.l.head/\s.f.piece = m/\∃ E,Held s E/\r = (b 0).dD - m + E + UG (b 0).dD n) ∨
  (s.ph = 3/\m = 0/\s.f.epoch = nw/\s.f.had = true/\s.f.old = s.a.l.head/\s.f.ans = v/\room s.a/\r = 2 + UG (b 0).dD n) ∨
  (s.ph = 4/\m = 0/\s.f.epoch = nw/\s.f.had = true/\s.f.old = s.a.l.head/\s.f.ans = v/\s.f.cls = 0/\s.f.piece = 0/\(∃ L : Nat,s.f.line = L/\Hold s.a L 0)/\r = 1 + UG (b 0).dD n) ∨
  (s.ph = 5/\m = 0/\s.f.epoch = nw/\s.f.had = true/\s.f.old = s.a.l.head/\s.f.ans = v/\s.f.cls = 0/\(∃ L : Nat,s.f.line = L/\Hold s.a L 0)/\r = UG (b 0).dD n))
def JD (v : ByteArray) (nw : Int) (M : Nat) (b : Nat->dL) (s : ZTs) (r : Nat) : Prop := Base s.a 1 M b/\s.a.l.n = 0/\s.a.n = 2/\s.f.code = 0/\s.f.aep = nw/\s.f.ans = v/\(s.ph = 6/\r = 1 ∨ s.ph = 7/\r = 0)
def KD (v : ByteArray) (nw : Int) (n M : Nat) (b : Nat->dL) (s : ZTs) (m r : Nat) : Prop := ID v nw n M b s m r ∨ (n = 0/\m = 0/\JD v nw M (fun i => b (i + 1)) s r)
theorem One.up {v : ByteArray} {nw : Int} {M : Nat} {b : Nat->dL} {a : ZArn} (h : One v nw M b a) : One v nw (M + 20) b a := ⟨h.base.up (by omega),h.ln1,h.val,h.n1,h.now,h.note⟩
theorem ID.next {v : ByteArray} {nw : Int} {n M : Nat} {b : Nat->dL} {s : ZTs} {m r : Nat} (hM : M<=900000) (h : ID v nw n M b s m r) (hz : s.ph = 5->n = 0) : wD 0 (b 0) m s (fun m' y => KD v nw n (M + 20) b y m' (r - 1)) := by
 obtain ⟨h0,h⟩ := h
 have o := h0.one
 have g := o.base
 have hl1 := o.ln1
 obtain ⟨ln,q1,⟨q2,q3,q4,q5,q6⟩,q7⟩ := g.q 0 (by omega)
 have hhd : s.a.l.head = ⟨⟨#[]⟩,(b 0).id,(b 0).ver,ln,(b 0).cls⟩ := by rw [Dv (by omega)]; exact q1
 obtain ⟨sb8,sbi⟩ := jA (b 0)
 have sb1 : 1<=(b 0).dD := pW q3
 have hc0 : (0 : Int)<=0/\(0 : Int)<=3 := by decide
 rcases h with ⟨hp,hm,h1,h2,h3,hr⟩ | ⟨hp,hm,h1,E,h2,hr⟩ | ⟨hp,hm,h1,h2,h3,h4,E,h5,hr⟩ | ⟨hp,hm,h1,h2,h3,h4,h5,hr⟩ | ⟨hp,hm,h1,h2,h3,h4,h5,h6,⟨L,h7,h8⟩,hr⟩ | ⟨hp,hm,h1,h2,h3,h4,h5,⟨L,h6,h7⟩,hr⟩
 ·exact .inl ⟨hp,hm,⟨g.rok,g.cok,by rw [g.rt]; decide,h1⟩,.inl ⟨⟨o.nT,h0.fv,h0.code⟩,.inr (.inl ⟨rfl,rfl,o.now,2,.inl ⟨h2,h3,rfl⟩,by omega⟩)⟩⟩
 ·exact .inr (.inl ⟨hp,hm,⟨g.lok,fun h => absurd h (by omega)⟩,fun h => absurd h (by omega),fun _ => .inl ⟨⟨o.up,h0.fv,h0.code⟩,.inr (.inr (.inl ⟨rfl,sb1,h1,rfl,rfl,rfl,E,h2,by omega⟩))⟩⟩)
 ·refine .inr (.inr (.inr (.inl ⟨hp,ln,?_,⟨q2,q3,q4,q5,by show (m : Int) < spn (b 0).cls; omega,q6⟩,fun hne => .inl ⟨⟨o.up,h0.fv,h0.code⟩,.inr (.inr (.inl ⟨rfl,by omega,h1,h2,h3,rfl,E,h5,by omega⟩))⟩,fun he => .inl ⟨⟨o.up,h0.fv,h0.code⟩,?_⟩⟩)))
  ·show s.f = { s.f with had := true,old := ⟨⟨#[]⟩,(b 0).id,(b 0).ver,(ln : Int),(b 0).cls⟩,piece := (m : Int) }
   rw [← hhd,← h2,← h3,← h4]
  ·rcases h5 with ⟨h5,h6,rfl⟩ | ⟨h5,⟨L,h6,h7⟩,rfl⟩
   ·exact .inr (.inr (.inr (.inl ⟨by show (if s.f.line < 0 then (3 : Int) else 5) = 3; rw [h5]; rfl,rfl,h1,h2,h3,o.val,h6,by omega⟩)))
   ·exact .inr (.inr (.inr (.inr (.inr ⟨by show (if s.f.line < 0 then (3 : Int) else 5) = 5; rw [if_neg (by omega)],rfl,h1,h2,h3,o.val,h5,⟨L,h6,h7⟩,by omega⟩))))
 ·refine .inr (.inr (.inr (.inr (.inl ⟨hp,hm,⟨g.pg.1,by rw [h0.fv]; decide⟩,fun hf => absurd (h5.2 1 (aX _) h5.1) (hf 1 h5.1).1,fun i j ht => ?_⟩))))
  obtain ⟨L,l1,l2,gt,ht2,_⟩ := g.take hc0 ht
  exact .inl ⟨⟨⟨gt.up (by omega),hl1,o.val,o.n1,o.now,o.note⟩,h0.fv,h0.code⟩,.inr (.inr (.inr (.inr (.inl ⟨rfl,rfl,h1,h2,h3,h4,rfl,rfl,⟨L,l1.symm,ht2⟩,by omega⟩))))⟩
 ·obtain ⟨w1,w2,_,_⟩ := g.write (by omega) h8 (t := 0) (f := s.f) (by rw [h0.fv]; decide) (p := 0) (by decide)
  refine .inr (.inr (.inr (.inr (.inr (.inl ⟨hp,hm,h5,L,?_,w1,.inl ⟨⟨⟨w2,hl1,o.val,o.n1,o.now,o.note⟩,h0.fv,h0.code⟩,.inr (.inr (.inr (.inr (.inr ⟨rfl,rfl,h1,h2,h3,h4,h5,⟨L,h7,h8⟩,by omega⟩))))⟩⟩)))))
  show s.f = { s.f with line := (L : Int),cls := 0,piece := ((0 : Nat) : Int) }
  rw [← h7,show ((0 : Nat) : Int) = s.f.piece from h6.symm,show (0 : Int) = s.f.cls from h5.symm]
 ·have hn := hz hp
  subst hn
  obtain ⟨e1,e2⟩ := g.deq (by omega) (t := 0) (by decide) (f := s.f) h7 h5 (by omega) h3 (by rw [h1,o.now])
  refine .inr (.inr (.inr (.inr (.inr (.inr (.inl ⟨hp,hm,h2,L,h6,e1,.inr ⟨rfl,rfl,e2,?_,?_,h0.code,h1,h4,.inl ⟨rfl,?_⟩⟩⟩))))))
  ·show s.a.l.pop.n = 0
   rw [aow (by omega),hl1]
  ·show s.a.n + 1 = 2
   rw [o.n1]
  ·have : UG (b 0).dD 0 = 2 := rfl
   omega
theorem KD.next {v : ByteArray} {nw : Int} {n M : Nat} {b : Nat->dL} {s : ZTs} {m r : Nat} (hM : M<=900000) (h : KD v nw n M b s m r) (hz : s.ph = 5->n = 0) (h7 : s.ph ≠ 7) : wD 0 (b 0) m s (fun m' y => KD v nw n (M + 20) b y m' (r - 1)) := by
 rcases h with h | ⟨hn,hm,h1,h2,h3,h4,h5,h6,hp⟩
 ·exact h.next hM hz
 ·rcases hp with ⟨hp,hr⟩ | ⟨hp,_⟩
  ·exact .inr (.inr (.inr (.inr (.inr (.inr (.inr (.inr (.inl ⟨hp,hm,⟨h1.rok,by rw [h1.rt]; decide⟩,.inr ⟨hn,rfl,h1.nT.up (by omega),h2,h3,h4,h5,h6,.inr ⟨rfl,by omega⟩⟩⟩))))))))
  ·exact absurd hp h7
end Go.Proofs.YtenfleoejgjklaaGreat
end
section
namespace Go.Proofs.YtenfleoejgjklaaGreat
open Go SE
end Go.Proofs.YtenfleoejgjklaaGreat
end
section
namespace Go.Proofs.YtenfleoejgjklaaGreat
open Go SE
structure ZLow where
 z : Int
 m : Nat
noncomputable def lowC : Ctr := { X := ZLow,args := fun x => [i64 x.z,i64 x.m],k := 0,os := fun _ => [],pre := fun x => Hd (1<=x.m/\x.m<=1000),outs := [{ Y := Nat,post := fun x k => Hd (k < x.m),ret := fun _ k => i64 k,m := 0,os := fun _ _ => [] }] }
noncomputable def aiJ : WTr := fun args h K => match args with
 | [a,t,.agg l] => (bif decide (intL l 0 = 4) then ctrT aqc else bif hasB l then ctrT al0 else ctrT alZ) [a,t,.agg l] h K
 | _ => False
theorem aiK (args : List AV) (h : Heap) (K : AV->Heap->Prop) (hq : aiJ args h K) : Sp Tryz.prog 19 args h K := by
 unfold aiJ at hq
 split at hq
 ·exact ng _ (bT alg) (ng _ (bT aiz) (bT aiy)) _ _ _ hq
 ·exact hq.elim
end Go.Proofs.YtenfleoejgjklaaGreat
end
section
namespace Go.Proofs.YtenfleoejgjklaaGreat
open Go SE
noncomputable def aqu : WTbl := tblL ++ [(14,ctrT lowC),(17,beginT),(19,aiJ),(20,aiH (ctrT (Ik ZArn.osN 10 9).ctr) (ctrT (Ik ZArn.osP 11 9).ctr)),(21,ctrT Zo.ctr)]
end Go.Proofs.YtenfleoejgjklaaGreat
end
section
namespace Go.Proofs.YtenfleoejgjklaaGreat
open Go SE
def Iw (a : Px) : Prop := (Cs.row 1 a.m (fun (i : Nat) => [Value.int .i64 (a.g i)]) (@List.nil (Prod Nat (List Value))) = Cs.row 1 a.m (fun (i : Nat) => [Value.int .i64 (a.g i)]) (@List.nil (Prod Nat (List Value)))/\true = true)/\True
def kT (a : Px) : Prop := true = false/\Iw a
def Bf : Prop := ByteArray.mk #[] = ByteArray.mk #[]
def kC : Prop := Value.slice none 0 0 = Value.slice none 0 0
def aiL : Prop := Bf/\kC/\True
def abn : Prop := (5 : Int) = 5/\Bf/\Bf/\aiL
def Yd (a : ZArn) (b : ZArn) (c : Px) : Prop := abn/\abn/\abn/\ownM a.os = ownM b.os/\Iw c
def aoG (a : Iu) (b : Iu) (c : ZTs) (d : Px) : Prop := (3 = 3/\
 ∀ q : Nat,q < 3->[Value.int .i64 5,Value.string (ZFr.key (ZTh.f (a.X q))),Value.string (ZFr.value (ZTh.f (a.X q))),Value.string (ByteArray.mk #[]),Value.slice none 0 0,Value.int .i64 (ZTh.ph (a.X q)),Value.int .u64 (ZFr.epoch (ZTh.f (a.X q))),Value.string (ByteArray.mk #[]),Value.bool false,Value.int .i64 0,Value.bool (ZFr.had (ZTh.f (a.X q))),Value.string (dw.key (ZFr.old (ZTh.f (a.X q)))),Value.int .u64 (dw.id (ZFr.old (ZTh.f (a.X q)))),Value.int .u64 (dw.ver (ZFr.old (ZTh.f (a.X q)))),Value.int .i64 (dw.line (ZFr.old (ZTh.f (a.X q)))),Value.int .i64 (dw.cls (ZFr.old (ZTh.f (a.X q)))),Value.int .i64 (ZFr.line (ZTh.f (a.X q))),Value.int .i64 (ZFr.cls (ZTh.f (a.X q))),Value.int .i64 (ZFr.piece (ZTh.f (a.X q))),Value.slice none 0 0,Value.int .i64 0,Value.slice none 0 0,Value.int .i64 (ZFr.code (ZTh.f (a.X q))),Value.bool (ZFr.found (ZTh.f (a.X q))),Value.string (ZFr.ans (ZTh.f (a.X q))),Value.slice none 0 0,Value.slice none 0 0,Value.int .u64 (ZFr.aep (ZTh.f (a.X q)))] = Cs.eff (fun (t : Nat) => ZFr.vs (ZTh.f (b.X t)) (5 : Int) (ZTh.ph (b.X t))) [(Int.toNat (Int.tmod (b.i : Int) (3 : Int)),[Value.int .i64 5,Value.string c.f.key,Value.string c.f.value,Value.string (ByteArray.mk #[]),Value.slice none 0 0,Value.int .i64 c.ph,Value.int .u64 c.f.epoch,Value.string (ByteArray.mk #[]),Value.bool false,Value.int .i64 0,Value.bool c.f.had,Value.string c.f.old.key,Value.int .u64 c.f.old.id,Value.int .u64 c.f.old.ver,Value.int .i64 c.f.old.line,Value.int .i64 c.f.old.cls,Value.int .i64 c.f.line,Value.int .i64 c.f.cls,Value.int .i64 c.f.piece,Value.slice none 0 0,Value.int .i64 0,Value.slice none 0 0,Value.int .i64 c.f.code,Value.bool c.f.found,Value.string c.f.ans,Value.slice none 0 0,Value.slice none 0 0,Value.int .u64 c.f.aep])] q)/\Yd a.a c.a d
def yP (a : Iu) (b : Nat) : Prop := Hd (a.i<=180/\OS (Int.toNat (b : Int)) (20 * a.i + 200) a.a a.X a.o a.B a.LN a.i/\a.off = ByteArray.extract lQ 0 a.o)
def UH (a : Iu) (b : Iu) : Prop := (a.i : Int) = (b.i : Int) + 1/\a.off = b.off/\True
def Bg (a : Nat) : Prop := 0<=Int.tmod (a : Int) (3 : Int)/\Int.tmod (a : Int) (3 : Int) < 3
def KU (a : Nat) : Prop := Int.toNat (Int.tmod (a : Int) (3 : Int)) < 3
def alm (a : Iu) (b : Nat) (c : ZTs) (d : Px) : Prop := Bg a.i/\KU a.i/\I64 ((a.i : Int) + 1)/\∃ s_2 : Iu,yP s_2 b/\180 - s_2.i < 180 - a.i/\UH s_2 a/\aoG s_2 a c d
def aiM (a : Iu) (b : Iu) (c : Nat) (d : ZTs) : Prop := 3 = 3/\∀ q : Nat,q < 3->[Value.int .i64 5,Value.string (ZFr.key (ZTh.f (a.X q))),Value.string (ZFr.value (ZTh.f (a.X q))),Value.string (ByteArray.mk #[]),Value.slice none 0 0,Value.int .i64 (ZTh.ph (a.X q)),Value.int .u64 (ZFr.epoch (ZTh.f (a.X q))),Value.string (ByteArray.mk #[]),Value.bool false,Value.int .i64 0,Value.bool (ZFr.had (ZTh.f (a.X q))),Value.string (dw.key (ZFr.old (ZTh.f (a.X q)))),Value.int .u64 (dw.id (ZFr.old (ZTh.f (a.X q)))),Value.int .u64 (dw.ver (ZFr.old (ZTh.f (a.X q)))),Value.int .i64 (dw.line (ZFr.old (ZTh.f (a.X q)))),Value.int .i64 (dw.cls (ZFr.old (ZTh.f (a.X q)))),Value.int .i64 (ZFr.line (ZTh.f (a.X q))),Value.int .i64 (ZFr.cls (ZTh.f (a.X q))),Value.int .i64 (ZFr.piece (ZTh.f (a.X q))),Value.slice none 0 0,Value.int .i64 0,Value.slice none 0 0,Value.int .i64 (ZFr.code (ZTh.f (a.X q))),Value.bool (ZFr.found (ZTh.f (a.X q))),Value.string (ZFr.ans (ZTh.f (a.X q))),Value.slice none 0 0,Value.slice none 0 0,Value.int .u64 (ZFr.aep (ZTh.f (a.X q)))] = Cs.eff (fun (t : Nat) => ZFr.vs (ZTh.f (b.X t)) (5 : Int) (ZTh.ph (b.X t))) [(c,[Value.int .i64 5,Value.string d.f.key,Value.string d.f.value,Value.string (ByteArray.mk #[]),Value.slice none 0 0,Value.int .i64 d.ph,Value.int .u64 d.f.epoch,Value.string (ByteArray.mk #[]),Value.bool false,Value.int .i64 0,Value.bool d.f.had,Value.string d.f.old.key,Value.int .u64 d.f.old.id,Value.int .u64 d.f.old.ver,Value.int .i64 d.f.old.line,Value.int .i64 d.f.old.cls,Value.int .i64 d.f.line,Value.int .i64 d.f.cls,Value.int .i64 d.f.piece,Value.slice none 0 0,Value.int .i64 0,Value.slice none 0 0,Value.int .i64 d.f.code,Value.bool d.f.found,Value.string d.f.ans,Value.slice none 0 0,Value.slice none 0 0,Value.int .u64 d.f.aep])] q
def UJ (a : Nat) : Prop := 0<=Int.toNat (ni (a : Int) (3 : Int))/\Int.toNat (ni (a : Int) (3 : Int))<=5/\5<=5
def aiN (a : ZLn) (b : Nat) (c : Px) : Prop := ∀ y_2 : Unit,True->∃ x_4 : ZLn,Hd x_4.ok/\(0 = 0/\True)/\(ownM x_4.os = ownM a.os/\True)/\∀ y_3 : Unit,True->I64 ((b : Int) - 1)/\cP (BEq.beq (x_4.n : Int) ((b : Int) - 1)) (true = true/\Iw c) (kT c)
def aiO (a : Nat) (b : Iu) (c : Px) : Prop := I64 (3 : Int)/\cP (BEq.beq (1 : Int) (ni (a : Int) (3 : Int))) (0<=ni (a : Int) (3 : Int)/\UJ a/\cP (BEq.beq (ByteArray.toList b.off) (ByteArray.toList (ByteArray.extract (@ByteArray.mk (@List.toArray UInt8 [(97 : UInt8),(98 : UInt8),(99 : UInt8),(100 : UInt8),(101 : UInt8)])) 0 (Int.toNat (ni (a : Int) (3 : Int)))))) ((∃ x_3 : ZArn,Hd True/\(0 = 0/\True)/\(ownM x_3.osN = ownM b.a.os/\True)/\aiN x_3.l a c) ∨ ∃ x_3 : ZArn,Hd True/\(0 = 0/\True)/\(ownM x_3.osP = ownM b.a.os/\True)/\aiN x_3.l a c) (kT c)) (kT c)
def uM : Prop := (0 : Int)<=2/\(0 : Int)<=0
def aiP (a : ZLn) (b : Nat) (c : Px) : Prop := ∀ y_2 : Unit,True->∃ x_4 : ZLn,Hd x_4.ok/\(0 = 0/\True)/\(ownM x_4.os = ownM a.os/\True)/\∀ y_3 : Unit,True->I64 ((b : Int) - 2)/\cP (BEq.beq (x_4.n : Int) ((b : Int) - 2)) (true = true/\Iw c) (kT c)
def aiQ (a : Nat) (b : Iu) (c : Px) : Prop := I64 (3 : Int)/\cP (BEq.beq (2 : Int) (ni (a : Int) (3 : Int))) (0<=ni (a : Int) (3 : Int)/\UJ a/\cP (BEq.beq (ByteArray.toList b.off) (ByteArray.toList (ByteArray.extract (@ByteArray.mk (@List.toArray UInt8 [(97 : UInt8),(98 : UInt8),(99 : UInt8),(100 : UInt8),(101 : UInt8)])) 0 (Int.toNat (ni (a : Int) (3 : Int)))))) ((∃ x_3 : ZArn,Hd True/\(0 = 0/\True)/\(ownM x_3.osN = ownM b.a.os/\True)/\aiP x_3.l a c) ∨ ∃ x_3 : ZArn,Hd True/\(0 = 0/\True)/\(ownM x_3.osP = ownM b.a.os/\True)/\aiP x_3.l a c) (kT c)) (kT c)
def aiR (a : Iu) (b : Px) (c : Nat) : Prop := I64 (2 : Int)/\uM/\2 < 3/\cP (bne (ZTh.ph (a.X 2)) (7 : Int)) (kT b) (uM/\2 < 3/\cP (bne (ZFr.code (ZTh.f (a.X 2))) (0 : Int)) (kT b) (uM/\2 < 3/\cP (ZFr.found (ZTh.f (a.X 2))) (I64 (2 : Int)/\aiQ c a b) (aiO c a b)))
def uN (a : Nat) : Prop := 0<=(a : Int)/\(a : Int) < 3
def aiS (a : ZLn) (b : Nat) (c : Px) : Prop := ∀ y_2 : Unit,True->∃ x_4 : ZLn,Hd x_4.ok/\(0 = 0/\True)/\(ownM x_4.os = ownM a.os/\True)/\∀ y_3 : Unit,True->I64 ((b : Int) - 3)/\cP (BEq.beq (x_4.n : Int) ((b : Int) - 3)) (true = true/\Iw c) (kT c)
def aiT (a : ZLn) (b : Nat) (c : Px) : Prop := ∀ y_2 : Unit,True->∃ x_4 : ZLn,Hd x_4.ok/\(0 = 0/\True)/\(ownM x_4.os = ownM a.os/\True)/\∀ y_3 : Unit,True->I64 ((b : Int) - 0)/\cP (BEq.beq (x_4.n : Int) ((b : Int) - 0)) (true = true/\Iw c) (kT c)
def Gw : Prop := (0 : Int)<=1/\(0 : Int)<=1
def Py (x : ZArn) : Prop :=
 ∃ y : Unit,True/\0 = 0/\(0 = 0/\0 = 0/\0 = 0/\0 = 0/\0 = 0/\0 = 0/\0 = 0/\0 = 0/\x.id = x.id/\x.ver = x.ver/\kC/\True)/\(0 = 0/\(1 : Int) = 1/\(0 : Int) = 0/\(0 : Int) = 0/\True)/\ownM x.d.os = ownM x.d.os/\ownM x.p.os = ownM x.p.os/\ownM x.r.os = ownM x.r.os/\ownM (x.c.os 0) = ownM (x.c.os 0)/\ownM x.b.os = ownM x.b.os/\ownM tabE = ownM tabE/\(kC/\kC/\kC/\kC/\True)/\ownM x.l.os = ownM x.l.os/\True
theorem Ye (x : ZArn) : Py x = wpF Tryz.prog [] tt (noA x) 200 6 20 ((Ik ZArn.osN 10 9).args x) (hO 10 (dN 1 ((Ik ZArn.osN 10 9).l x))) (fun v h' => dA 1 x v h' (Ik ZArn.osN 10 9).outs) := by kernel_rfl
def aiU (x : Px) : Prop :=
 cP (decide ((x.m : Int) > (100 : Int))) (true = true/\Iw x) (∃ x_1 : ZNew,Hd (10<=x_1.n/\x_1.n<=258/\1<=x_1.t/\x_1.t<=4)/\((x_1.n : Int) = 42/\(x_1.t : Int) = 3/\True)/\True/\∀ y : DevM,Hd (y.ok/\y.n = x_1.n/\y.st = 2/\y.fl = 2/\y.fe = 1)->∃ x_2 : ZLow,Hd (1<=x_2.m/\x_2.m<=1000)/\(x_2.z = x.wait/\(x_2.m : Int) = 5/\True)/\True/\∀ y_1 : Nat,Hd (y_1 < x_2.m)->(∃ s : ZOn1,Hd ((s.i : Int)<=(y_1 : Int)/\OE s.i s.a s.b)/\True/\((s.i : Int) = 0/\True)/\ownM s.a.os = ownM (ZArn.osN (newArn x_1.n x_1.t y))/\Iw x)/\(∀ s : ZOn1,Hd ((s.i : Int)<=(y_1 : Int)/\OE s.i s.a s.b)->cP (decide ((s.i : Int) < (y_1 : Int))) (I64 ((s.i : Int) + 1)/\0<=(s.i : Int) + 1/\0<=(s.i : Int)/\(s.i<=Int.toNat ((s.i : Int) + 1)/\Int.toNat ((s.i : Int) + 1)<=5/\5<=5)/\∃ x_3 : iI,Hd (sW x_3.a x_3.t)/\(0 = 0/\(x_3.t : Int) = 0/\((4 : Int) = 4/\x_3.key = ByteArray.mk #[]/\x_3.v = ByteArray.extract (@ByteArray.mk (@List.toArray UInt8 [(97 : UInt8),(98 : UInt8),(99 : UInt8),(100 : UInt8),(101 : UInt8)])) s.i (Int.toNat ((s.i : Int) + 1))/\aiL)/\True)/\(ownM x_3.a.os = ownM s.a.os/\True)/\∀ y_2 : ai9,Hd (resE x_3 y_2)->I64 ((s.i : Int) + 1)/\∃ s_1 : ZOn1,Hd ((s_1.i : Int)<=(y_1 : Int)/\OE s_1.i s_1.a s_1.b)/\5 - s_1.i < 5 - s.i/\((s_1.i : Int) = (s.i : Int) + 1/\True)/\ownM s_1.a.os = ownM y_2.a.os/\Iw x) ((∃ s_1 : Iu,yP s_1 y_1/\True/\((s_1.i : Int) = 0/\s_1.off = ByteArray.mk #[]/\True)/\(84 = 84/\
 ∀ q : Nat,q < 3->[Value.int .i64 5,Value.string (ZFr.key (ZTh.f (s_1.X q))),Value.string (ZFr.value (ZTh.f (s_1.X q))),Value.string (ByteArray.mk #[]),Value.slice none 0 0,Value.int .i64 (ZTh.ph (s_1.X q)),Value.int .u64 (ZFr.epoch (ZTh.f (s_1.X q))),Value.string (ByteArray.mk #[]),Value.bool false,Value.int .i64 0,Value.bool (ZFr.had (ZTh.f (s_1.X q))),Value.string (dw.key (ZFr.old (ZTh.f (s_1.X q)))),Value.int .u64 (dw.id (ZFr.old (ZTh.f (s_1.X q)))),Value.int .u64 (dw.ver (ZFr.old (ZTh.f (s_1.X q)))),Value.int .i64 (dw.line (ZFr.old (ZTh.f (s_1.X q)))),Value.int .i64 (dw.cls (ZFr.old (ZTh.f (s_1.X q)))),Value.int .i64 (ZFr.line (ZTh.f (s_1.X q))),Value.int .i64 (ZFr.cls (ZTh.f (s_1.X q))),Value.int .i64 (ZFr.piece (ZTh.f (s_1.X q))),Value.slice none 0 0,Value.int .i64 0,Value.slice none 0 0,Value.int .i64 (ZFr.code (ZTh.f (s_1.X q))),Value.bool (ZFr.found (ZTh.f (s_1.X q))),Value.string (ZFr.ans (ZTh.f (s_1.X q))),Value.slice none 0 0,Value.slice none 0 0,Value.int .u64 (ZFr.aep (ZTh.f (s_1.X q)))] = List.take 28 (List.drop (q * 28) [Value.int .i64 5,Value.string (ByteArray.mk #[]),Value.string (ByteArray.mk #[]),Value.string (ByteArray.mk #[]),Value.slice none 0 0,Value.int .i64 0,Value.int .u64 0,Value.string (ByteArray.mk #[]),Value.bool false,Value.int .i64 0,Value.bool false,Value.string (ByteArray.mk #[]),Value.int .u64 0,Value.int .u64 0,Value.int .i64 0,Value.int .i64 0,Value.int .i64 (-(1 : Int)),Value.int .i64 0,Value.int .i64 0,Value.slice none 0 0,Value.int .i64 0,Value.slice none 0 0,Value.int .i64 0,Value.bool false,Value.string (ByteArray.mk #[]),Value.slice none 0 0,Value.slice none 0 0,Value.int .u64 0,Value.int .i64 5,Value.string (ByteArray.mk #[]),Value.string (ByteArray.mk #[]),Value.string (ByteArray.mk #[]),Value.slice none 0 0,Value.int .i64 0,Value.int .u64 0,Value.string (ByteArray.mk #[]),Value.bool false,Value.int .i64 0,Value.bool false,Value.string (ByteArray.mk #[]),Value.int .u64 0,Value.int .u64 0,Value.int .i64 0,Value.int .i64 0,Value.int .i64 (-(1 : Int)),Value.int .i64 0,Value.int .i64 0,Value.slice none 0 0,Value.int .i64 0,Value.slice none 0 0,Value.int .i64 0,Value.bool false,Value.string (ByteArray.mk #[]),Value.slice none 0 0,Value.slice none 0 0,Value.int .u64 0,Value.int .i64 5,Value.string (ByteArray.mk #[]),Value.string (ByteArray.mk #[]),Value.string (ByteArray.mk #[]),Value.slice none 0 0,Value.int .i64 0,Value.int .u64 0,Value.string (ByteArray.mk #[]),Value.bool false,Value.int .i64 0,Value.bool false,Value.string (ByteArray.mk #[]),Value.int .u64 0,Value.int .u64 0,Value.int .i64 0,Value.int .i64 0,Value.int .i64 (-(1 : Int)),Value.int .i64 0,Value.int .i64 0,Value.slice none 0 0,Value.int .i64 0,Value.slice none 0 0,Value.int .i64 0,Value.bool false,Value.string (ByteArray.mk #[]),Value.slice none 0 0,Value.slice none 0 0,Value.int .u64 0]))/\Yd s_1.a s.a x)/\(∀ s_1 : Iu,yP s_1 y_1->cP (decide ((s_1.i : Int) < 180)) (((3 : Int) = 0->False)/\cP (decide ((s_1.i : Int) < (x.m : Int))) ((0<=(s_1.i : Int)/\(s_1.i : Int) < (x.m : Int))/\0 + s_1.i < x.m/\∃ x_3 : ZLow,Hd (1<=x_3.m/\x_3.m<=1000)/\(x_3.z = x.g (0 + s_1.i)/\(x_3.m : Int) = 3/\True)/\True/\∀ y_2 : Nat,Hd (y_2 < x_3.m)->uN y_2/\y_2 < 3/\∃ x_4 : ZWd,Hd (x_4.n = 0/\wD x_4.t x_4.b 0 x_4.s x_4.q)/\(0 = 0/\(x_4.t : Int) = (y_2 : Int)/\((5 : Int) = 5/\x_4.s.f.key = ZFr.key (ZTh.f (s_1.X y_2))/\x_4.s.f.value = ZFr.value (ZTh.f (s_1.X y_2))/\Bf/\kC/\x_4.s.ph = ZTh.ph (s_1.X y_2)/\x_4.s.f.epoch = ZFr.epoch (ZTh.f (s_1.X y_2))/\Bf/\false = false/\(0 : Int) = 0/\x_4.s.f.had = ZFr.had (ZTh.f (s_1.X y_2))/\x_4.s.f.old.key = dw.key (ZFr.old (ZTh.f (s_1.X y_2)))/\x_4.s.f.old.id = dw.id (ZFr.old (ZTh.f (s_1.X y_2)))/\x_4.s.f.old.ver = dw.ver (ZFr.old (ZTh.f (s_1.X y_2)))/\x_4.s.f.old.line = dw.line (ZFr.old (ZTh.f (s_1.X y_2)))/\x_4.s.f.old.cls = dw.cls (ZFr.old (ZTh.f (s_1.X y_2)))/\x_4.s.f.line = ZFr.line (ZTh.f (s_1.X y_2))/\x_4.s.f.cls = ZFr.cls (ZTh.f (s_1.X y_2))/\x_4.s.f.piece = ZFr.piece (ZTh.f (s_1.X y_2))/\kC/\(0 : Int) = 0/\kC/\x_4.s.f.code = ZFr.code (ZTh.f (s_1.X y_2))/\x_4.s.f.found = ZFr.found (ZTh.f (s_1.X y_2))/\x_4.s.f.ans = ZFr.ans (ZTh.f (s_1.X y_2))/\kC/\kC/\x_4.s.f.aep = ZFr.aep (ZTh.f (s_1.X y_2))/\True)/\True)/\(ownM x_4.s.a.os = ownM s_1.a.os/\True)/\(∀ y_3 : ZTs,Hd (x_4.q 0 y_3)->uN y_2/\y_2 < 3/\cP (BEq.beq (ZTh.ph (s_1.X y_2)) (5 : Int)) (cP (BEq.beq y_3.ph (6 : Int)) (cP y_3.f.found (((s_1.off.size + y_3.f.ans.size : Nat) : Int)<=9223372036854775807/\uN y_2/\y_2 < 3/\I64 ((s_1.i : Int) + 1)/\∃ s_2 : Iu,yP s_2 y_1/\180 - s_2.i < 180 - s_1.i/\((s_2.i : Int) = (s_1.i : Int) + 1/\s_2.off = s_1.off ++ y_3.f.ans/\True)/\aiM s_2 s_1 y_2 y_3/\Yd s_2.a y_3.a x) (uN y_2/\y_2 < 3/\I64 ((s_1.i : Int) + 1)/\∃ s_2 : Iu,yP s_2 y_1/\180 - s_2.i < 180 - s_1.i/\UH s_2 s_1/\aiM s_2 s_1 y_2 y_3/\Yd s_2.a y_3.a x)) (uN y_2/\y_2 < 3/\I64 ((s_1.i : Int) + 1)/\∃ s_2 : Iu,yP s_2 y_1/\180 - s_2.i < 180 - s_1.i/\UH s_2 s_1/\aiM s_2 s_1 y_2 y_3/\Yd s_2.a y_3.a x)) (uN y_2/\y_2 < 3/\I64 ((s_1.i : Int) + 1)/\∃ s_2 : Iu,yP s_2 y_1/\180 - s_2.i < 180 - s_1.i/\UH s_2 s_1/\aiM s_2 s_1 y_2 y_3/\Yd s_2.a y_3.a x))/\∀ y_3 : ZTs,Hd (x_4.q 1 y_3/\y_3.ph = 2)->uN y_2/\y_2 < 3/\cP (BEq.beq (ZTh.ph (s_1.X y_2)) (5 : Int)) (uN y_2/\False) (uN y_2/\False)) (Bg s_1.i/\KU s_1.i/\∃ x_3 : ZWd,Hd (x_3.n = 0/\wD x_3.t x_3.b 0 x_3.s x_3.q)/\(0 = 0/\(x_3.t : Int) = Int.tmod (s_1.i : Int) (3 : Int)/\((5 : Int) = 5/\x_3.s.f.key = ZFr.key (ZTh.f (s_1.X (Int.toNat (Int.tmod (s_1.i : Int) (3 : Int)))))/\x_3.s.f.value = ZFr.value (ZTh.f (s_1.X (Int.toNat (Int.tmod (s_1.i : Int) (3 : Int)))))/\Bf/\kC/\x_3.s.ph = ZTh.ph (s_1.X (Int.toNat (Int.tmod (s_1.i : Int) (3 : Int))))/\x_3.s.f.epoch = ZFr.epoch (ZTh.f (s_1.X (Int.toNat (Int.tmod (s_1.i : Int) (3 : Int)))))/\Bf/\false = false/\(0 : Int) = 0/\x_3.s.f.had = ZFr.had (ZTh.f (s_1.X (Int.toNat (Int.tmod (s_1.i : Int) (3 : Int)))))/\x_3.s.f.old.key = dw.key (ZFr.old (ZTh.f (s_1.X (Int.toNat (Int.tmod (s_1.i : Int) (3 : Int))))))/\x_3.s.f.old.id = dw.id (ZFr.old (ZTh.f (s_1.X (Int.toNat (Int.tmod (s_1.i : Int) (3 : Int))))))/\x_3.s.f.old.ver = dw.ver (ZFr.old (ZTh.f (s_1.X (Int.toNat (Int.tmod (s_1.i : Int) (3 : Int))))))/\x_3.s.f.old.line = dw.line (ZFr.old (ZTh.f (s_1.X (Int.toNat (Int.tmod (s_1.i : Int) (3 : Int))))))/\x_3.s.f.old.cls = dw.cls (ZFr.old (ZTh.f (s_1.X (Int.toNat (Int.tmod (s_1.i : Int) (3 : Int))))))/\x_3.s.f.line = ZFr.line (ZTh.f (s_1.X (Int.toNat (Int.tmod (s_1.i : Int) (3 : Int)))))/\x_3.s.f.cls = ZFr.cls (ZTh.f (s_1.X (Int.toNat (Int.tmod (s_1.i : Int) (3 : Int)))))/\x_3.s.f.piece = ZFr.piece (ZTh.f (s_1.X (Int.toNat (Int.tmod (s_1.i : Int) (3 : Int)))))/\kC/\(0 : Int) = 0/\kC/\x_3.s.f.code = ZFr.code (ZTh.f (s_1.X (Int.toNat (Int.tmod (s_1.i : Int) (3 : Int)))))/\x_3.s.f.found = ZFr.found (ZTh.f (s_1.X (Int.toNat (Int.tmod (s_1.i : Int) (3 : Int)))))/\x_3.s.f.ans = ZFr.ans (ZTh.f (s_1.X (Int.toNat (Int.tmod (s_1.i : Int) (3 : Int)))))/\kC/\kC/\x_3.s.f.aep = ZFr.aep (ZTh.f (s_1.X (Int.toNat (Int.tmod (s_1.i : Int) (3 : Int)))))/\True)/\True)/\(ownM x_3.s.a.os = ownM s_1.a.os/\True)/\(∀ y_2 : ZTs,Hd (x_3.q 0 y_2)->Bg s_1.i/\KU s_1.i/\cP (BEq.beq (ZTh.ph (s_1.X (Int.toNat (Int.tmod (s_1.i : Int) (3 : Int))))) (5 : Int)) (cP (BEq.beq y_2.ph (6 : Int)) (cP y_2.f.found (((s_1.off.size + y_2.f.ans.size : Nat) : Int)<=9223372036854775807/\Bg s_1.i/\KU s_1.i/\I64 ((s_1.i : Int) + 1)/\∃ s_2 : Iu,yP s_2 y_1/\180 - s_2.i < 180 - s_1.i/\((s_2.i : Int) = (s_1.i : Int) + 1/\s_2.off = s_1.off ++ y_2.f.ans/\True)/\aoG s_2 s_1 y_2 x) (alm s_1 y_1 y_2 x)) (alm s_1 y_1 y_2 x)) (alm s_1 y_1 y_2 x))/\∀ y_2 : ZTs,Hd (x_3.q 1 y_2/\y_2.ph = 2)->Bg s_1.i/\KU s_1.i/\cP (BEq.beq (ZTh.ph (s_1.X (Int.toNat (Int.tmod (s_1.i : Int) (3 : Int))))) (5 : Int)) (Bg s_1.i/\False) (Bg s_1.i/\False))) (((0 : Int)<=0/\(0 : Int)<=2)/\0 < 3/\cP (bne (ZTh.ph (s_1.X 0)) (7 : Int)) (kT x) (((0 : Int)<=0/\(0 : Int)<=2)/\0 < 3/\cP (bne (ZFr.code (ZTh.f (s_1.X 0))) (0 : Int)) (kT x) (((0 : Int)<=0/\(0 : Int)<=2)/\0 < 3/\cP (ZFr.found (ZTh.f (s_1.X 0))) (I64 (1 : Int)/\I64 (1 : Int)/\Gw/\1 < 3/\cP (bne (ZTh.ph (s_1.X 1)) (7 : Int)) (kT x) (Gw/\1 < 3/\cP (bne (ZFr.code (ZTh.f (s_1.X 1))) (0 : Int)) (kT x) (Gw/\1 < 3/\cP (ZFr.found (ZTh.f (s_1.X 1))) (I64 (2 : Int)/\I64 (2 : Int)/\uM/\2 < 3/\cP (bne (ZTh.ph (s_1.X 2)) (7 : Int)) (kT x) (uM/\2 < 3/\cP (bne (ZFr.code (ZTh.f (s_1.X 2))) (0 : Int)) (kT x) (uM/\2 < 3/\cP (ZFr.found (ZTh.f (s_1.X 2))) (I64 (3 : Int)/\I64 (3 : Int)/\cP (BEq.beq (3 : Int) (ni (y_1 : Int) (3 : Int))) (0<=ni (y_1 : Int) (3 : Int)/\UJ y_1/\cP (BEq.beq (ByteArray.toList s_1.off) (ByteArray.toList (ByteArray.extract (@ByteArray.mk (@List.toArray UInt8 [(97 : UInt8),(98 : UInt8),(99 : UInt8),(100 : UInt8),(101 : UInt8)])) 0 (Int.toNat (ni (y_1 : Int) (3 : Int)))))) ((∃ x_3 : ZArn,Hd True/\(0 = 0/\True)/\(ownM x_3.osN = ownM s_1.a.os/\True)/\aiS x_3.l y_1 x) ∨ ∃ x_3 : ZArn,Hd True/\(0 = 0/\True)/\(ownM x_3.osP = ownM s_1.a.os/\True)/\aiS x_3.l y_1 x) (kT x)) (kT x)) (aiQ y_1 s_1 x)))) (aiR s_1 x y_1)))) (I64 (1 : Int)/\Gw/\1 < 3/\cP (bne (ZTh.ph (s_1.X 1)) (7 : Int)) (kT x) (Gw/\1 < 3/\cP (bne (ZFr.code (ZTh.f (s_1.X 1))) (0 : Int)) (kT x) (Gw/\1 < 3/\cP (ZFr.found (ZTh.f (s_1.X 1))) (I64 (1 : Int)/\aiR s_1 x y_1) (I64 (2 : Int)/\uM/\2 < 3/\cP (bne (ZTh.ph (s_1.X 2)) (7 : Int)) (kT x) (uM/\2 < 3/\cP (bne (ZFr.code (ZTh.f (s_1.X 2))) (0 : Int)) (kT x) (uM/\2 < 3/\cP (ZFr.found (ZTh.f (s_1.X 2))) (I64 (1 : Int)/\aiO y_1 s_1 x) (I64 (3 : Int)/\cP (BEq.beq (0 : Int) (ni (y_1 : Int) (3 : Int))) (0<=ni (y_1 : Int) (3 : Int)/\UJ y_1/\cP (BEq.beq (ByteArray.toList s_1.off) (ByteArray.toList (ByteArray.extract (@ByteArray.mk (@List.toArray UInt8 [(97 : UInt8),(98 : UInt8),(99 : UInt8),(100 : UInt8),(101 : UInt8)])) 0 (Int.toNat (ni (y_1 : Int) (3 : Int)))))) ((∃ x_3 : ZArn,Hd True/\(0 = 0/\True)/\(ownM x_3.osN = ownM s_1.a.os/\True)/\aiT x_3.l y_1 x) ∨ ∃ x_3 : ZArn,Hd True/\(0 = 0/\True)/\(ownM x_3.osP = ownM s_1.a.os/\True)/\aiT x_3.l y_1 x) (kT x)) (kT x))))))))))))/\True))/\True)
theorem aiV (x : Px) : aiU x = wpF Tryz.prog aqu tt (aqs x) 200 6 3 [.slR 0 0 1 x.m,i64 x.wait] (hO 1 x.os) (fun v h' => endP 1 (boo true) x.os v h') := by kernel_rfl
end Go.Proofs.YtenfleoejgjklaaGreat
end
section
namespace Go.Proofs.YtenfleoejgjklaaGreat
open Go SE
def UK : Prop := Value.slice none 0 0 = Value.slice none 0 0
def aqv (a : ZArn) : Prop := (0 = 0/\(1 : Int) = 1/\(0 : Int) = 0/\(0 : Int) = 0/\True)/\ownM a.d.os = ownM a.d.os/\ownM a.p.os = ownM a.p.os/\ownM a.r.os = ownM a.r.os/\ownM (a.c.os 0) = ownM (a.c.os 0)/\ownM a.b.os = ownM a.b.os/\ownM tabE = ownM tabE/\(UK/\UK/\UK/\UK/\True)/\ownM a.l.os = ownM a.l.os/\(a.n = a.n/\∀ q : Nat,q < a.n->[Value.int .i64 (iy.kind (a.e q)),Value.string (iy.key (a.e q)),Value.string (iy.value (a.e q)),Value.int .u64 (iy.id (a.e q)),Value.int .u64 (iy.ver (a.e q)),Value.int .u64 (iy.epoch (a.e q)),Value.int .i64 (iy.group (a.e q))] = [Value.int .i64 (iy.kind (a.e q)),Value.string (iy.key (a.e q)),Value.string (iy.value (a.e q)),Value.int .u64 (iy.id (a.e q)),Value.int .u64 (iy.ver (a.e q)),Value.int .u64 (iy.epoch (a.e q)),Value.int .i64 (iy.group (a.e q))])/\True
def aqw (a : ZArn) : Prop := 0 = 0/\0 = 0/\0 = 0/\0 = 0/\0 = 0/\0 = 0/\0 = 0/\0 = 0/\a.id = a.id/\a.ver = a.ver/\(0 = 0/\a.n = a.n)/\True
def aoH (x : ZLow) : Prop :=
 (IntKind.wrap .u64 (x.m : Int) = 0->False)/\I64 (Int.tmod (IntKind.wrap .u64 x.z) (IntKind.wrap .u64 (x.m : Int)))/\∃ y : Nat,Hd (y < x.m)/\(y : Int) = Int.tmod (IntKind.wrap .u64 x.z) (IntKind.wrap .u64 (x.m : Int))/\True
theorem aln (x : ZLow) : aoH x = wpF Tryz.prog [] tt (noA x) 200 6 14 (lowC.args x) (hO 0 []) (fun v h' => eU 0 x v h' lowC.outs) := by kernel_rfl
def Pz (x : ZArn) : Prop :=
 ∃ y : Unit,True/\0 = 0/\aqw x/\aqv x
theorem Yf (x : ZArn) : Pz x = wpF Tryz.prog [] tt (noA x) 200 6 20 ((Ik ZArn.osP 11 9).args x) (hO 11 (dN 1 ((Ik ZArn.osP 11 9).l x))) (fun v h' => dA 1 x v h' (Ik ZArn.osP 11 9).outs) := by kernel_rfl
end Go.Proofs.YtenfleoejgjklaaGreat
end
section
namespace Go.Proofs.YtenfleoejgjklaaGreat
open Go SE
set_option linter.unusedSimpArgs false
theorem u64_nonneg (z : Int) : 0<=IntKind.wrap .u64 z := by
 unfold IntKind.wrap; simp [IntKind.bits,IntKind.signed]; omega
theorem adx (x : ZLow) (hx : 1<=x.m/\x.m<=1000) : aoH x := by
 have e : IntKind.wrap .u64 (x.m : Int) = x.m := jd (by omega) (by omega)
 have hz := u64_nonneg x.z
 unfold aoH
 simp only [aY,aU,aT,ay,aH,bJ,bg,aN,aJ,au,aW,aV,bK,bC,bD,bF,bM,bf,bG,aZ,dY,aG,aK,ah,aj,aA,aC,aB,aF,e]
 have h1 : Int.tmod (IntKind.wrap .u64 x.z) (x.m : Int) = IntKind.wrap .u64 x.z % (x.m : Int) := Int.tmod_eq_emod_of_nonneg hz
 have h2 := Int.emod_nonneg (IntKind.wrap .u64 x.z) (show (x.m : Int) ≠ 0 by omega)
 have h3 := Int.emod_lt_of_pos (IntKind.wrap .u64 x.z) (show 0 < (x.m : Int) by omega)
 rw [h1]
 exact ⟨by omega,by unfold I64; omega,(IntKind.wrap .u64 x.z % (x.m : Int)).toNat,by omega,by omega⟩
theorem aqx : bV Tryz.prog 14 lowC := gG dI mixed .nil noA 200 6 (fun _ => rfl) (fun _ => ⟨fun _ => rfl,trivial⟩) fun x hx => Eq.mp (aln x) (adx x (aY.1 hx))
theorem PD (a : ZArn) : Pz a := by
 unfold Pz
 simp only [aqw,aqv,UK]
 simp only [aY,aU,aT,ay,aH,bJ,bg,aN,aJ,au,aW,aV,bK,bC,bD,bF,bM,bf,bG,aZ,dY,aG,aK,ah,aj,aA,aC,aB,aF]
theorem aiW : bV Tryz.prog 20 (Ik ZArn.osP 11 9).ctr := dJ dI mixed .nil 11 noA 200 6 (fun _ => ⟨rfl,rfl,rfl,rfl⟩) fun x _ => Eq.mp (Yf x) (PD x)
end Go.Proofs.YtenfleoejgjklaaGreat
end
section
namespace Go.Proofs.YtenfleoejgjklaaGreat
open Go SE
set_option linter.unusedSimpArgs false
theorem PE (a : ZArn) : Py a := by
 unfold Py
 simp only [kC]
 simp only [aY,aU,aT,ay,aH,bJ,bg,aN,aJ,au,aW,aV,bK,bC,bD,bF,bM,bf,bG,aZ,dY,aG,aK,ah,aj,aA,aC,aB,aF]
theorem aiX : bV Tryz.prog 20 (Ik ZArn.osN 10 9).ctr := dJ dI mixed .nil 10 noA 200 6 (fun _ => ⟨rfl,rfl,rfl,rfl⟩) fun x _ => Eq.mp (Ye x) (PE x)
theorem alo : eY Tryz.prog aqu := .append aoB (.cons (bT aqx) (.cons UC (.cons aiK (.cons (adw (bT aiX) (bT aiW)) (.cons (bT acB) .nil)))))
theorem aoI (X : Nat->ZTh) (t : Nat) (x' : ZTh) (q : Nat) : (aoz X t x' q).f.vs 5 (aoz X t x' q).ph = Cs.eff (fun t => (X t).f.vs 5 (X t).ph) [(t,x'.f.vs 5 x'.ph)] q := by
 show _ = bif Nat.beq q t then _ else _
 unfold aoz
 by_cases e : q = t
 ·subst e; rw [Nat.beq_refl,if_pos rfl]; rfl
 ·rw [if_neg e,dH,decide_eq_false e]; rfl
theorem aiY {o : Nat} (h : o < 4) : lQ.extract 0 o ++ lQ.extract o (o + 1) = lQ.extract 0 (o + 1) := by
 match o,h with
 | 0,_ => rfl
 | 1,_ => rfl
 | 2,_ => rfl
 | 3,_ => rfl
theorem aiZ (o : Nat) : (lQ.extract 0 o).size<=5 := by
 rw [ByteArray.size_extract]
 have : lQ.size = 5 := rfl
 omega
section
variable {n M : Nat} {a : ZArn} {X : Nat->ZTh} {o : Nat} {B : Nat->dL} {LN : Nat->Nat}
theorem OS.up {i : Nat} (h : OS n M a X o B LN i) {M' : Nat} (hM : M<=M') : OS n M' a X o B LN i := { h with w := h.w.up hM }
theorem OS.done (h : OS n M a X o B LN 180) {t : Nat} (ht : t < 3) : (X t).ph = 7/\(X t).f.code = 0/\((X t).f.found = true/\(X t).fd = 1 ∨ (X t).f.found = false/\(X t).fd = 0/\o = n) := by
 have hp := (h.ph t ht).2
 have hc : 26<=adF t 180 := by unfold adF; omega
 have h0 : phi o (X t) = 0 := by omega
 obtain ⟨_,c,hh⟩ := h.th t ht
 have hph : (X t).ph = 7 := by
  unfold phi at h0
  by_cases e7 : (X t).ph = 7
  ·exact e7
  ·rw [if_neg e7] at h0
   by_cases e6 : (X t).ph = 6
   ·rw [if_pos e6] at h0; cases h0
   ·rw [if_neg e6] at h0
    unfold al2 at h0
    exfalso
    split at h0
    ·omega
    ·split at h0
     ·split at h0 <;> omega
     ·split at h0
      ·split at h0 <;> omega
      ·split at h0
       ·omega
       ·split at h0 <;> omega
 refine ⟨hph,c,?_⟩
 rcases hh with ⟨e,_⟩ | ⟨e,_⟩ | ⟨e,_⟩ | ⟨e,_⟩ | ⟨e,_⟩ | ⟨e,_⟩ | ⟨_,e⟩
 ·omega
 ·omega
 ·omega
 ·omega
 ·omega
 ·omega
 ·rcases e with ⟨e1,_,e2⟩ | ⟨e1,_,e2,e3⟩
  ·exact .inl ⟨e1,e2⟩
  ·exact .inr ⟨e1,e2,e3⟩
theorem OS.fin {off : ByteArray} (h : OS n M a X o B LN 180) (hoff : off = lQ.extract 0 o) {k : Int} (hk : k = o) (hm : k = ni (n : Int) 3) :
  cP (k == ni (n : Int) 3) (0<=ni (n : Int) 3/\(0<=(ni (n : Int) 3).toNat/\(ni (n : Int) 3).toNat<=5/\5<=5)/\cP (off.toList == (ByteArray.extract ⟨#[97,98,99,100,101]⟩ 0 (ni (n : Int) 3).toNat).toList) ((∃ x_3 : ZArn,ownM x_3.osN = ownM a.os/\∃ x_4 : ZLn,x_4.ok/\ownM x_4.os = ownM x_3.l.os/\I64 ((n : Int) - k)/\cP ((x_4.n : Int) == (n : Int) - k) True (true = false)) ∨ ∃ x_3 : ZArn,ownM x_3.osP = ownM a.os/\∃ x_4 : ZLn,x_4.ok/\ownM x_4.os = ownM x_3.l.os/\I64 ((n : Int) - k)/\cP ((x_4.n : Int) == (n : Int) - k) True (true = false)) (true = false)) (true = false) := by
 subst hk
 have n4 := h.w.n4
 have on := h.w.on
 have hl := h.w.len
 have fin : ∃ x_4 : ZLn,x_4.ok/\ownM x_4.os = ownM a.l.os/\I64 ((n : Int) - o)/\cP ((x_4.n : Int) == (n : Int) - o) True (true = false) :=
  ⟨a.l,h.w.base.lok,rfl,by unfold I64; omega,bH (fun _ => trivial) fun e => absurd (beq_eq_false_iff_ne.1 e) (by omega)⟩
 refine bH (fun _ => ⟨by omega,⟨Nat.zero_le _,by omega,aX _⟩,bH (fun _ => ?_) fun e => ?_⟩) fun e => absurd hm (beq_eq_false_iff_ne.1 e)
 ·by_cases hz : a.n = 0
  ·exact .inl ⟨a,by rw [Fa hz],fin⟩
  ·exact .inr ⟨a,by rw [vH hz],fin⟩
 ·exfalso
  rw [← hm,au,hoff] at e
  exact absurd rfl (beq_eq_false_iff_ne.1 e)
end
set_option maxRecDepth 20000 in
theorem Yg (x : Px) : aiU x := by
 unfold aiU
 simp only [Iw,aiL,yP,Yd,uN,Bf,kC,aiM,UH,Bg,KU,aoG,alm,kT,Gw,uM,UJ,aiS,aiQ,aiR,aiO,aiT,aiN,aiP,abn]
 simp only [aY,aU,aT,ay,aH,bJ,bg,aN,aJ,au,aW,aV,bK,bC,bD,bF,bM,bf,bG,aZ,dY,aG,aK,ah,aj,aA,aC,aB,aF]
 refine bH (fun _ => trivial) fun hm => ?_
 have hm : x.m<=100 := by have := aS hm; omega
 refine ⟨⟨42,3⟩,by decide,⟨rfl,rfl⟩,fun d hd => ⟨⟨x.wait,5⟩,⟨by show 1<=5; decide,by show 5<=1000; decide⟩,⟨rfl,rfl⟩,fun n hn => ⟨?_,fun s hs => bH (fun hlt => ?_) fun hge => ⟨?_,fun s1 hs1 => bH (fun hlt => ?_) fun hge => ?_⟩⟩⟩⟩
 ·exact ⟨⟨0,newArn 42 3 d,fun _ => zB⟩,⟨by show ((0 : Nat) : Int)<=n; omega,OE.new hd⟩,rfl,aiE _ _ _⟩
 ·obtain ⟨_,h⟩ := hs
  have hn : n < 5 := hn
  have hlt := aQ hlt
  refine ⟨by unfold I64; omega,by omega,by omega,⟨by omega,by omega,by decide⟩,⟨s.a,0,⟨#[]⟩,lQ.extract s.i (s.i + 1),zB⟩,h.g.A (by omega),⟨rfl,rfl,?_⟩,rfl,fun y r => ?_⟩
  ·rw [show ((s.i : Int) + 1).toNat = s.i + 1 by omega]; rfl
  ·obtain ⟨b',h'⟩ := h.next (by omega) r
   exact ⟨by unfold I64; omega,⟨s.i + 1,y.a,b'⟩,⟨by show ((s.i + 1 : Nat) : Int)<=n; omega,h'⟩,by show 5 - (s.i + 1) < 5 - s.i; omega,by show ((s.i + 1 : Nat) : Int) = s.i + 1; omega,rfl⟩
 ·obtain ⟨h1,h⟩ := hs
  have hn : n < 5 := hn
  have hge := aS hge
  have e : s.i = n := by omega
  rw [e] at h
  refine ⟨⟨0,s.a,fun _ => f00,0,s.b,fun i => (s.a.l.get i).line.toNat,⟨#[]⟩⟩,⟨Nat.zero_le _,(h.start (by omega)).up (by omega),rfl⟩,⟨rfl,rfl⟩,fun q hq => ?_,rfl⟩
  have : q = 0 ∨ q = 1 ∨ q = 2 := by omega
  rcases this with rfl | rfl | rfl <;> rfl
 ·obtain ⟨h1,h,hoff⟩ := hs1
  have hlt := aQ hlt
  have n4 := h.w.n4
  have hs5 := aiZ s1.o
  have key : ∀ (t : Nat) (y : ZTs) (o' : Nat) (x' : ZTh) (off' : ByteArray),OS n (20 * s1.i + 200 + 20) y.a (aoz s1.X t x') o' s1.B s1.LN (s1.i + 1)->y.f = x'.f->y.ph = x'.ph->off' = lQ.extract 0 o' ->
    ∃ s_2 : Iu,(s_2.i<=180/\OS n (20 * s_2.i + 200) s_2.a s_2.X s_2.o s_2.B s_2.LN s_2.i/\s_2.off = lQ.extract 0 s_2.o)/\180 - s_2.i < 180 - s1.i/\((s_2.i : Int) = s1.i + 1/\s_2.off = off')/\(∀ q,q < 3->(s_2.X q).f.vs 5 (s_2.X q).ph = Cs.eff (fun t => (s1.X t).f.vs 5 (s1.X t).ph) [(t,y.f.vs 5 y.ph)] q)/\ownM s_2.a.os = ownM y.a.os := fun t y o' x' off' k1 k2 k3 k4 =>
   ⟨⟨s1.i + 1,y.a,aoz s1.X t x',o',s1.B,s1.LN,off'⟩,⟨by show s1.i + 1<=180; omega,k1.up (by show _<=20 * (s1.i + 1) + 200; omega),k4⟩,by show 180 - (s1.i + 1) < _; omega,⟨by show ((s1.i + 1 : Nat) : Int) = _; omega,rfl⟩,fun q _ => by rw [k2,k3]; exact aoI _ _ _ _,rfl⟩
  refine ⟨by decide,bH (fun hx => ?_) fun hx => ?_⟩
  ·have hx := aQ hx
   refine ⟨⟨by omega,hx⟩,by omega,⟨x.g s1.i,3⟩,⟨by show 1<=3; decide,by show 3<=1000; decide⟩,⟨rfl,rfl⟩,fun t ht => ⟨⟨by omega,by have : t < 3 := ht; omega⟩,ht,⟨⟨s1.a,(s1.X t).f,(s1.X t).ph⟩,t,s1.B (s1.X t).q,0,_⟩,⟨rfl,h.step (by omega) ht (.inl (by omega))⟩,?_,rfl,fun y hy => ⟨⟨by omega,by have : t < 3 := ht; omega⟩,ht,?_⟩,fun y hy => absurd hy.1.1 (by decide)⟩⟩
   ·repeat' (first | exact rfl | refine And.intro ?_ ?_)
   ·obtain ⟨_,o',x',k1,k2,k3,k4⟩ := hy
    have ht : t < 3 := ht
    have tt : 0<=(t : Int)/\(t : Int) < 3 := by omega
    refine bH (fun h5 => bH (fun h6 => bH (fun hf => ?_) fun hf => ?_) fun h6 => ?_) fun h5 => ?_
    ·have h5 := beq_iff_eq.1 h5
     have h6 := beq_iff_eq.1 h6
     rcases k4 with ⟨_,k4⟩ | ⟨k4,k5,_,_,_,k6⟩
     ·exact absurd ⟨h5,k3 ▸ h6⟩ k4
     ·have ha : y.f.ans = lQ.extract s1.o (s1.o + 1) := by rw [k2,k6]; exact h.w.val _ k5
      have hsz := Pv (i := s1.o) (by omega)
      refine ⟨by rw [hoff,ha,hsz]; omega,tt,ht,by unfold I64; omega,key t y o' x' _ k1 k2 k3 ?_⟩
      rw [hoff,ha,k4]; exact aiY (by omega)
    ·have h5 := beq_iff_eq.1 h5
     have h6 := beq_iff_eq.1 h6
     rcases k4 with ⟨_,k4⟩ | ⟨_,_,_,_,k5,_⟩
     ·exact absurd ⟨h5,k3 ▸ h6⟩ k4
     ·rw [k2,k5] at hf; cases hf
    ·have h6 := beq_eq_false_iff_ne.1 h6
     rcases k4 with ⟨k4,_⟩ | ⟨_,_,_,k5,_⟩
     ·exact ⟨tt,ht,by unfold I64; omega,key t y o' x' _ k1 k2 k3 (by rw [hoff,k4])⟩
     ·exact absurd (k3.trans k5) h6
    ·have h5 := beq_eq_false_iff_ne.1 h5
     rcases k4 with ⟨k4,_⟩ | ⟨_,_,k5,_⟩
     ·exact ⟨tt,ht,by unfold I64; omega,key t y o' x' _ k1 k2 k3 (by rw [hoff,k4])⟩
     ·exact absurd k5 h5
  ·have em : Int.tmod (s1.i : Int) 3 = ((s1.i % 3 : Nat) : Int) := (Int.ofNat_tmod s1.i 3).symm
   generalize ht' : s1.i % 3 = t at em
   have ht : t < 3 := by omega
   have tt : 0<=(t : Int)/\(t : Int) < 3 := by omega
   rw [em,au]
   refine ⟨tt,ht,⟨⟨s1.a,(s1.X t).f,(s1.X t).ph⟩,t,s1.B (s1.X t).q,0,_⟩,⟨rfl,h.step (by omega) ht (.inr ht'.symm)⟩,?_,rfl,fun y hy => ⟨tt,ht,?_⟩,fun y hy => absurd hy.1.1 (by decide)⟩
   ·repeat' (first | exact rfl | refine And.intro ?_ ?_)
   ·obtain ⟨_,o',x',k1,k2,k3,k4⟩ := hy
    refine bH (fun h5 => bH (fun h6 => bH (fun hf => ?_) fun hf => ?_) fun h6 => ?_) fun h5 => ?_
    ·have h5 := beq_iff_eq.1 h5
     have h6 := beq_iff_eq.1 h6
     rcases k4 with ⟨_,k4⟩ | ⟨k4,k5,_,_,_,k6⟩
     ·exact absurd ⟨h5,k3 ▸ h6⟩ k4
     ·have ha : y.f.ans = lQ.extract s1.o (s1.o + 1) := by rw [k2,k6]; exact h.w.val _ k5
      have hsz := Pv (i := s1.o) (by omega)
      refine ⟨by rw [hoff,ha,hsz]; omega,tt,ht,by unfold I64; omega,key t y o' x' _ k1 k2 k3 ?_⟩
      rw [hoff,ha,k4]; exact aiY (by omega)
    ·have h5 := beq_iff_eq.1 h5
     have h6 := beq_iff_eq.1 h6
     rcases k4 with ⟨_,k4⟩ | ⟨_,_,_,_,k5,_⟩
     ·exact absurd ⟨h5,k3 ▸ h6⟩ k4
     ·rw [k2,k5] at hf; cases hf
    ·have h6 := beq_eq_false_iff_ne.1 h6
     rcases k4 with ⟨k4,_⟩ | ⟨_,_,_,k5,_⟩
     ·exact ⟨tt,ht,by unfold I64; omega,key t y o' x' _ k1 k2 k3 (by rw [hoff,k4])⟩
     ·exact absurd (k3.trans k5) h6
    ·have h5 := beq_eq_false_iff_ne.1 h5
     rcases k4 with ⟨k4,_⟩ | ⟨_,_,k5,_⟩
     ·exact ⟨tt,ht,by unfold I64; omega,key t y o' x' _ k1 k2 k3 (by rw [hoff,k4])⟩
     ·exact absurd k5 h5
 ·obtain ⟨h1,h,hoff⟩ := hs1
  have hge := aS hge
  have e : s1.i = 180 := by omega
  rw [e] at h
  obtain ⟨p0,c0,f0⟩ := h.done (t := 0) (by decide)
  obtain ⟨p1,c1,f1⟩ := h.done (t := 1) (by decide)
  obtain ⟨p2,c2,f2⟩ := h.done (t := 2) (by decide)
  have fo := h.fo
  have n4 := h.w.n4
  have on := h.w.on
  have hmo : (s1.o : Int) = ni (n : Int) 3 := by unfold ni; split <;> omega
  rcases f0 with ⟨f0,d0⟩ | ⟨f0,d0,e0⟩ <;> rcases f1 with ⟨f1,d1⟩ | ⟨f1,d1,e1⟩ <;> rcases f2 with ⟨f2,d2⟩ | ⟨f2,d2,e2⟩
  all_goals simp only [p0,p1,p2,c0,c1,c2,f0,f1,f2,bne_self_eq_false,iH,kH]
  all_goals repeat' (first | with_reducible refine And.intro ?_ ?_ | omega | (unfold I64; omega) | exact h.fin hoff (by omega) (by omega))
theorem aoJ (x : Px) : Sp Tryz.prog 3 [.slR 0 0 1 x.m,i64 x.wait] (hO 1 x.os) (fun v _ => v = boo true) :=
 (amV dI mixed alo (aqs x) 200 6 1 1 (v0 := boo true) (os := x.os) rfl rfl (Eq.mp (aiV x) (Yg x))).mono fun _ _ hh => hh.1
end Go.Proofs.YtenfleoejgjklaaGreat
end
