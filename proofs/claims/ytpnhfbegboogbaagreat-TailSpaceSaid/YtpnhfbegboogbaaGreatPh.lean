import Derived.Test.YtpnhfbegboogbaaGreatPa
import Derived.Test.YtpnhfbegboogbaaGreatPb
import Derived.Test.YtpnhfbegboogbaaGreatPc
import Derived.Test.YtpnhfbegboogbaaGreatPd
import Derived.Test.YtpnhfbegboogbaaGreatPe
import Derived.Test.YtpnhfbegboogbaaGreatPf
import Derived.Test.YtpnhfbegboogbaaGreatPg
import Derived.KernelRfl
set_option linter.unusedVariables false
set_option linter.unusedSimpArgs false
set_option linter.unnecessarySimpa false
section
namespace Go.Proofs.YtpnhfbegboogbaaGreat
open Go SE
set_option linter.unusedSimpArgs false
theorem mod2 {a n : Nat} (h : a < 2 * n) : a % n = if a < n then a else a - n := by
 split
 ·exact Nat.mod_eq_of_lt ‹_›
 ·rw [Nat.mod_eq_sub_mod (by omega),Nat.mod_eq_of_lt (by omega)]
theorem push_get {l : ZLn} (h : l.ok) (x : ZLnk) {i : Nat} (hi : i<=l.n) : (l.push x).get i = if i = l.n then x else l.get i := by
 obtain ⟨h1,h2,h3,h4,h5⟩ := h
 unfold ZLn.push
 by_cases hn : l.n = l.len
 ·rw [if_pos hn]
  show (fun i => if i < l.n then l.get i else if i = l.n then x else zLnk) ((0 + i) % (l.n + 1)) = _
  rw [Nat.zero_add,Nat.mod_eq_of_lt (by omega)]
  by_cases e : i = l.n
  ·subst e; simp
  ·rw [if_neg e]; exact if_pos (by omega)
 ·rw [if_neg hn]
  have := h5 (by omega)
  show (fun j => if j = (l.at_ + l.n) % l.len then x else l.e j) ((l.at_ + i) % l.len) = _
  by_cases e : i = l.n
  ·subst e; simp
  ·rw [if_neg e]
   refine (if_neg ?_).trans rfl
   rw [mod2 (a := l.at_ + i) (by omega),mod2 (a := l.at_ + l.n) (by omega)]
   split <;> split <;> omega
theorem push_n (l : ZLn) (x : ZLnk) : (l.push x).n = l.n + 1 := by unfold ZLn.push; split <;> rfl
theorem push_ok {l : ZLn} (h : l.ok) (x : ZLnk) {N : Nat} (hc : l.cap<=2 * N + 1) (hn : l.n<=N) (hN : N<=1000) : (l.push x).ok/\(l.push x).cap<=2 * (N + 1) + 1 := by
 obtain ⟨h1,h2,h3,h4,h5⟩ := h
 unfold ZLn.push ZLn.ok
 split
 ·exact ⟨⟨by show 2 * l.n + 1 < _; omega,by show l.n + 1<=2 * l.n + 1; omega,Nat.le_refl _,fun _ => rfl,fun _ => Nat.succ_pos _⟩,by show 2 * l.n + 1<=_; omega⟩
 ·exact ⟨⟨by show l.cap < _; omega,h2,by show l.n + 1<=l.len; omega,h4,h5⟩,by show l.cap<=_; omega⟩
theorem head_get {l : ZLn} (hz : l.n ≠ 0) : l.head = l.get 0 := if_neg hz
structure Good (a : ZArn) (t N : Nat) (b : Nat->ZBlk) : Prop where
 dok : a.d.ok
 dst : a.d.st<=20 * N + 20
 rok : a.r.ok
 cok : a.c.ok
 tc : t < a.c.t
 tr : t < a.r.t
 out : a.r.has t = 0
 pg : a.p.good
 fit : 2 + a.p.n * 8<=a.d.n
 bok : a.b.ok
 lok : a.l.ok
 lcap : a.l.cap<=2 * N + 1
 ln : a.l.n<=N
 id0 : 0<=a.id
 id1 : a.id<=N
 v0 : 0<=a.ver
 v1 : a.ver<=N
 nn : a.n<=N
 now : a.c.now = 1
 owed : ∀ k,a.c.o k<=8 * N
 used : ∀ L : Int,2<=L->(ZUse.inL ⟨a.b,a.l,L⟩ ∨ ZUse.inB ⟨a.b,a.l,L⟩)->a.p.has L
 nz : a.l.n ≠ 0->a.n ≠ 0
 q : ∀ i,i < a.l.n->∃ ln : Nat,a.l.get i = ⟨⟨#[]⟩,(b i).id,(b i).ver,ln,(b i).cls⟩/\ZBy.ok ⟨a.d,b i,ln⟩/\∃ i' j',a.p.at_ ln i' j'/\a.p.cls i' = (b i).cls
section
variable {a : ZArn} {t N : Nat} {b : Nat->ZBlk}
theorem Good.A (g : Good a t N b) (hN : N<=1000) : GoodA a t where
 dok := g.dok
 dst := by have := g.dst; omega
 rok := g.rok
 cok := g.cok
 tc := g.tc
 tr := g.tr
 out := g.out
 pg := g.pg
 fit := g.fit
 bok := g.bok
 lok := g.lok
 ln := by have := g.ln; omega
 id0 := g.id0
 id1 := by have := g.id1; omega
 v0 := g.v0
 v1 := by have := g.v1; omega
 nn := by have := g.nn; omega
 now0 := by rw [g.now]; decide
 now1 := by rw [g.now]; decide
 owed := fun k => by have := g.owed k; omega
 used := g.used
theorem Good.head (g : Good a t N b) (hz : a.l.n ≠ 0) : a.n ≠ 0/\∃ ln,HeadOk a (b 0) ln := by
 obtain ⟨ln,h1,h2,h3⟩ := g.q 0 (by omega)
 exact ⟨g.nz hz,ln,h2.2.1,h2.2.2.1,by rw [head_get hz]; exact h1,h3,h2.2.2.2.2⟩
theorem Good.shelf (g : Good a t N b) : qok a.d a.l b := fun i hi => by
 obtain ⟨ln,h1,h2,_⟩ := g.q i hi
 exact ⟨ln,h1,h2⟩
theorem dW_b {x : ZRun} (k : Int) (i j : Nat) : ∀ p,∀ m r : Nat,r < 64->(x.dW k i j p).b (m * 193 + r) =
  if x.ln k i j<=m/\m < x.ln k i j + p then (if m = x.ln k i j then (ZBlk.mk (x.c k) 0 0 0 0 ⟨#[]⟩ ⟨#[]⟩).headG (fun _ => 0) (cpc (x.c k)).toNat r else (ZBlk.mk (x.c k) 2 0 0 0 ⟨#[]⟩ x.v).enc (64 * (m - x.ln k i j) + r)) else x.a.d.b (m * 193 + r)
 | 0,m,r,_ => by rw [if_neg (by omega)]; rfl
 | p + 1,m,r,hr => by
  have ih := dW_b (x := x) k i j p m r hr
  show (ZWr.d' ⟨x.dW k i j p,x.t,x.f1,x.ln k i j,x.c k,p⟩).b (m * 193 + r) = _
  unfold ZWr.d'
  by_cases e : p = 0
  ·subst e
   rw [if_pos rfl]
   show (if x.ln k i j * 193 + 0<=m * 193 + r/\m * 193 + r < x.ln k i j * 193 + 0 + 64 then (ZBlk.mk (x.c k) 0 0 0 0 ⟨#[]⟩ ⟨#[]⟩).headG (fun _ => 0) (cpc (x.c k)).toNat (m * 193 + r - (x.ln k i j * 193 + 0)) else (x.dW k i j 0).b (m * 193 + r)) = _
   by_cases h : m = x.ln k i j
   ·rw [if_pos (by omega),if_pos (by omega),if_pos h,show m * 193 + r - (x.ln k i j * 193 + 0) = r by omega]
   ·rw [if_neg (by omega),if_neg (by omega),ih,if_neg (by omega)]
  ·rw [if_neg e]
   show (if (x.ln k i j + p) * 193 + 0<=m * 193 + r/\m * 193 + r < (x.ln k i j + p) * 193 + 0 + 64 then (ZBlk.mk (x.c k) 2 0 0 0 ⟨#[]⟩ x.v).enc (64 * p + (m * 193 + r - ((x.ln k i j + p) * 193 + 0))) else (x.dW k i j p).b (m * 193 + r)) = _
   by_cases h : m = x.ln k i j + p
   ·rw [if_pos (by omega),if_pos (by omega),if_neg (by omega),show 64 * p + (m * 193 + r - ((x.ln k i j + p) * 193 + 0)) = 64 * (m - x.ln k i j) + r by omega]
   ·rw [if_neg (by omega),ih]
    by_cases h2 : x.ln k i j<=m/\m < x.ln k i j + p
    ·rw [if_pos h2,if_pos (show x.ln k i j<=m/\m < x.ln k i j + (p + 1) by omega)]
    ·rw [if_neg h2,if_neg (by omega)]
theorem enc_dat {x y : ZBlk} (hk : x.key = y.key) (hv : x.value = y.value) {m : Nat} (hm : 64<=m) : x.enc m = y.enc m := by
 unfold ZBlk.enc
 rw [if_neg (show ¬ m < 64 by omega),if_neg (show ¬ m < 64 by omega)]
 unfold ZBlk.dat
 rw [hk,hv]
theorem store_b (d : DevM) (k : Nat) (g : Nat->Int) (m r : Nat) (hr : r < 64) : (d.store k 0 64 g).b (m * 193 + r) = if m = k then g r else d.b (m * 193 + r) := by
 show (if k * 193 + 0<=m * 193 + r/\m * 193 + r < k * 193 + 0 + 64 then g (m * 193 + r - (k * 193 + 0)) else d.b (m * 193 + r)) = _
 by_cases h : m = k
 ·subst h; rw [if_pos (by omega),if_pos rfl,show m * 193 + r - (m * 193 + 0) = r by omega]
 ·rw [if_neg (by omega),if_neg h]
theorem lies_keep {d d' : DevM} {c : ZBlk} {ln L n : Nat} (h : lies d c ln) (hd : ∀ m r : Nat,r < 64->¬ (L<=m/\m < L + n)->d'.b (m * 193 + r) = d.b (m * 193 + r)) (ha : ln + c.spnN<=L ∨ L + n<=ln) : lies d' c ln := fun q hq => by
 rw [hd _ _ (by omega) (by omega)]; exact h q hq
theorem has_mono {p p' : ZPool} (h : ∀ L i j,p.at_ L i j->p'.at_ L i j/\p'.cls i = p.cls i) {L : Int} (hp : p.has L) : p'.has L := by
 obtain ⟨i,j,h1⟩ := hp
 exact ⟨i,j,(h _ _ _ h1).1⟩
theorem take_at {p : ZPool} (hp : p.good) {c : Int} {i k : Nat} (h : p.takes c i k) : ∀ L i' j',p.at_ L i' j'->(p.take c i k).at_ L i' j'/\(p.take c i k).cls i' = p.cls i' := fun _ _ _ hL => at_take hp h hL
def pushB (b : Nat->ZBlk) (n : Nat) (c : ZBlk) : Nat->ZBlk := fun i => if i = n then c else b i
theorem good_enq (g : Good a t N b) (hN : N<=900) (key v : ByteArray) (bb : ZBlk) (hv : v.size<=400) {i j : Nat} (h : a.p.takes (ned v.size) i j) : Good (ZRun.aE ⟨a,t,key,v,bb⟩ i j) t (N + 1) (pushB b a.l.n ⟨ned v.size,2,a.id + 1,a.ver + 1,1,⟨#[]⟩,v⟩) := by
 have hA := g.A (by omega)
 let x : ZRun := ⟨a,t,key,v,bb⟩
 have hc4 : x.c 4 = ned v.size := if_pos rfl
 have ht : x.a.p.takes (x.c 4) i j := by rw [hc4]; exact h
 have hcc := c4_ok (x := x) hv
 have hs := spn_cases (x.c 4)
 obtain ⟨p1,p2,p3⟩ := enq_pre (x := x) hA hv ht
 obtain ⟨l1,l2⟩ := takes_line hA.pg hcc ht
 have hsp : x.sp 4 = (spn (x.c 4)).toNat := rfl
 obtain ⟨d1,d2,d3⟩ := dW_ok (x := x) hA hv 4 hcc i j (x.sp 4) (by rw [hsp]; omega)
 have hb := dW_b (x := x) 4 i j (x.sp 4)
 have hbm := blk_may (x := x) hA hv i j
 obtain ⟨n1,n2⟩ := at_new hA.pg hcc.1 ht
 have hdst := g.dst
 have hnow : a.c.now = 1 := g.now
 let B : ZBlk := ⟨ned v.size,2,a.id + 1,a.ver + 1,1,⟨#[]⟩,v⟩
 have hB : (x.pb 4 i j x.f1).chg.blk = B := by
  show ZBlk.mk (x.c 4) 2 (a.id + 1) (a.ver + 1) a.c.now ⟨#[]⟩ v = B
  rw [hc4,hnow]
 have hBs : B.spnN = x.sp 4 := by show (spn (ned v.size)).toNat = _; rw [hsp,hc4]
 have eln : x.ln 4 i j = 2 + i * 8 + j * (spn (x.c 4)).toNat := rfl
 let D : DevM := (x.dW 4 i j (x.sp 4)).store (x.ln 4 i j) 0 64 B.enc
 have hD : (ZRun.aE x i j).d = D := by
  show (x.dW 4 i j (x.sp 4)).store (x.ln 4 i j) 0 64 (x.pb 4 i j x.f1).chg.blk.enc = D
  rw [hB]
 have hDb : ∀ m r : Nat,r < 64->¬ (x.ln 4 i j<=m/\m < x.ln 4 i j + x.sp 4)->D.b (m * 193 + r) = a.d.b (m * 193 + r) := fun m r hr hm => by
  show ((x.dW 4 i j (x.sp 4)).store (x.ln 4 i j) 0 64 B.enc).b (m * 193 + r) = _
  rw [store_b _ _ _ _ _ hr,if_neg (by rw [hsp] at hm; omega),hb m r hr,if_neg hm]
 have hDn : D.n = a.d.n := d2
 have hDok : D.ok := DevM.store_good d1 _ _ _ (enc_u8 (hB ▸ hbm)) (by rw [d3,hsp]; show a.d.st + _ + 1 < _; omega)
 have hnew : ZBy.ok ⟨D,B,x.ln 4 i j⟩ := by
  refine ⟨hDok,hB ▸ hbm,rfl,?_,fun q hq => ?_⟩
  ·show ((x.ln 4 i j : Nat) : Int) + spn (ned v.size)<=D.n
   rw [hDn,← hc4]; have := g.fit; have : x.a.p.n = a.p.n := rfl; omega
  ·show ((x.dW 4 i j (x.sp 4)).store (x.ln 4 i j) 0 64 B.enc).b ((x.ln 4 i j + q / 64) * 193 + q % 64) = B.enc q
   have hq : q < 64 * B.spnN := hq
   rw [hBs] at hq
   rw [store_b _ _ _ _ _ (by omega)]
   by_cases e : q / 64 = 0
   ·rw [if_pos (by omega),show q % 64 = q by omega]
   ·rw [if_neg (by omega),hb _ _ (by omega),if_pos (show x.ln 4 i j<=x.ln 4 i j + q / 64/\x.ln 4 i j + q / 64 < x.ln 4 i j + x.sp 4 by omega),if_neg (show ¬ x.ln 4 i j + q / 64 = x.ln 4 i j by omega),show 64 * (x.ln 4 i j + q / 64 - x.ln 4 i j) + q % 64 = q by omega]
    exact enc_dat (x := ⟨x.c 4,2,0,0,0,⟨#[]⟩,x.v⟩) (y := B) rfl rfl (by omega)
 have hpo := push_ok g.lok ⟨⟨#[]⟩,a.id + 1,a.ver + 1,(x.ln 4 i j : Nat),x.c 4⟩ g.lcap g.ln (by omega)
 have hln : (ZRun.aE x i j).l = a.l.push ⟨⟨#[]⟩,a.id + 1,a.ver + 1,(x.ln 4 i j : Nat),x.c 4⟩ := rfl
 have hno := notes_o a.c t (x.ln 4 i j : Nat) (fun k => (g.cok.2.2.2.2.2 k).1)
 have hs8 := (spnN_le B).1
 have hP : (ZRun.aE x i j).p = a.p.take (x.c 4) i j := rfl
 have hcc' : (ZRun.aE x i j).c = a.c.notes t (x.ln 4 i j : Nat) (x.pb 4 i j x.f1).chg.blk.spnN := rfl
 rw [hB] at hcc'
 have hgood : (a.p.take (x.c 4) i j).good := take_good hA.pg hcc ht
 refine { dok := by rw [hD]; exact hDok,dst := ?_,rok := g.rok,cok := ?_,tc := ?_,tr := g.tr,out := ?_,pg := hgood,fit := by rw [hD,hDn]; exact g.fit,bok := g.bok,lok := hpo.1,lcap := hpo.2,ln := ?_,id0 := ?_,id1 := ?_,v0 := ?_,v1 := ?_,nn := ?_,now := ?_,owed := fun k => ?_,used := fun L hL hu => ?_,nz := fun _ => Nat.succ_ne_zero _,q := fun m hm => ?_ }
 ·rw [hD]; show (x.dW 4 i j (x.sp 4)).st + 1<=_; rw [d3,hsp]; show a.d.st + _ + 1<=_; omega
 ·rw [hcc']; exact notes_ok g.cok (fun k => by have := g.owed k; omega) _ _ hs8
 ·rw [hcc',notes_t]; exact g.tc
 ·exact if_pos rfl
 ·rw [hln,push_n]; have := g.ln; omega
 ·show 0<=a.id + 1; have := g.id0; omega
 ·show a.id + 1<=_; have := g.id1; omega
 ·show 0<=a.ver + 1; have := g.v0; omega
 ·show a.ver + 1<=_; have := g.v1; omega
 ·show a.n + 1<=N + 1; have := g.nn; omega
 ·rw [hcc',notes_now]; exact g.now
 ·rw [hcc']; have := (hno B.spnN k).2; have := g.owed k; omega
 ·rcases hu with ⟨m,hm,hh⟩ | hu
  ·have hm : m < a.l.n + 1 := by rw [← push_n a.l ⟨⟨#[]⟩,a.id + 1,a.ver + 1,(x.ln 4 i j : Nat),x.c 4⟩]; exact hm
   have hh : ((a.l.push ⟨⟨#[]⟩,a.id + 1,a.ver + 1,(x.ln 4 i j : Nat),x.c 4⟩).get m).line = L := hh
   rw [push_get g.lok _ (by omega)] at hh
   by_cases e : m = a.l.n
   ·rw [if_pos e] at hh
    have hh : ((x.ln 4 i j : Nat) : Int) = L := hh
    exact ⟨i,j,by rw [← hh,eln]; rw [l1]; exact n1⟩
   ·rw [if_neg e] at hh
    exact has_mono (take_at hA.pg ht) (g.used L hL (.inl ⟨m,by show m < a.l.n; omega,hh⟩))
  ·exact has_mono (take_at hA.pg ht) (g.used L hL (.inr hu))
 ·have hm : m < a.l.n + 1 := by rw [← push_n a.l ⟨⟨#[]⟩,a.id + 1,a.ver + 1,(x.ln 4 i j : Nat),x.c 4⟩]; exact hm
  rw [hln,push_get g.lok _ (by omega),hD]
  unfold pushB
  by_cases e : m = a.l.n
  ·rw [if_pos e,if_pos e]
   exact ⟨x.ln 4 i j,by rw [hc4],hnew,i,j,by rw [eln,l1]; exact n1,n2.trans hc4⟩
  ·rw [if_neg e,if_neg e]
   obtain ⟨ln,q1,⟨q2,q3,q4,q5,q6⟩,i',j',q7,q8⟩ := g.q m (by omega)
   have hap := at_apart hA.pg hcc ht q7
   obtain ⟨q9,q10⟩ := take_at hA.pg ht _ _ _ q7
   have hsb := spnN_le (b m)
   have e1 : ((x.ln 4 i j : Nat) : Int) = 2 + i * 8 + j * spn (x.c 4) := by rw [eln]; exact l1
   rw [q8,← e1] at hap
   have hsq : (x.sp 4 : Int) = spn (x.c 4) := by rw [hsp]; omega
   exact ⟨ln,q1,⟨hDok,q3,q4,by show (ln : Int) + spn (b m).cls<=D.n; rw [hDn]; exact q5,lies_keep (c := b m) (ln := ln) (L := x.ln 4 i j) (n := x.sp 4) q6 hDb (by omega)⟩,i',j',q9,q10.trans q8⟩
theorem good_new {n t T m : Nat} {d : DevM} (hd : d.ok) (hn : d.n = n) (hs : d.st = 2) (hm : n = 10 + 8 * m) (hm2 : m<=31) (hT : 1<=T/\T<=4) (ht : t < T) (b : Nat->ZBlk) : Good (newArn n T d) t 0 b where
 dok := hd
 dst := by show d.st<=_; rw [hs]; decide
 rok := ⟨hT.1,hT.2,show (1 : Int)<=1 by decide,show (1 : Int) < 4611686018427387904 by decide⟩
 cok := ⟨hT.1,hT.2,⟨show (0 : Int)<=0 + 1 by decide,show (0 : Int) + 1 < 4611686018427387904 by decide⟩,⟨Int.le_refl 0,show (0 : Int) < 4611686018427387904 by decide⟩,⟨Int.le_refl 0,show (0 : Int) < 4611686018427387904 by decide⟩,fun _ => ⟨Int.le_refl 0,show (0 : Int) < 1099511627776 by decide⟩⟩
 tc := ht
 tr := ht
 out := rfl
 pg := by
  refine ⟨⟨by show 1<=(n - 2) / 8; omega,by show (n - 2) / 8<=32; omega,fun i hi => ?_⟩,fun i hi => ?_⟩
  ·have hi : i < (n - 2) / 8 := hi
   show -1<=(if i < (n - 2) / 8 then (-1 : Int) else 0)/\(if i < (n - 2) / 8 then (-1 : Int) else 0)<=3/\(0 : Int)<=0/\(0 : Int)<=8
   rw [if_pos hi]; decide
  ·exact ⟨fun _ _ => rfl,fun k hk => (nomatch hk),(congrArg Int.ofNat (cnt8_none (fun _ => rfl) 8)).symm⟩
 fit := by show 2 + (n - 2) / 8 * 8<=d.n; omega
 bok := ⟨Nat.zero_le _,fun _ => rfl⟩
 lok := ⟨show 0 < 1099511627776 by decide,Nat.le_refl 0,Nat.le_refl 0,fun _ => rfl,fun h => absurd rfl h⟩
 lcap := Nat.zero_le _
 ln := Nat.le_refl 0
 id0 := Int.le_refl 0
 id1 := Int.le_refl 0
 v0 := Int.le_refl 0
 v1 := Int.le_refl 0
 nn := Nat.le_refl 0
 now := rfl
 owed := fun _ => Int.le_refl 0
 used := fun L _ hu => by
  rcases hu with ⟨i,hi,_⟩ | ⟨i,hi,_⟩ <;> exact absurd hi (Nat.not_lt_zero _)
 nz := fun h => absurd rfl h
 q := fun i hi => absurd hi (Nat.not_lt_zero _)
end
end Go.Proofs.YtpnhfbegboogbaaGreat
end
section
namespace Go.Proofs.YtpnhfbegboogbaaGreat
open Go SE
structure ZAns where
 code : Int
 found : Bool
 v : ByteArray
 ep : Int
 n : Nat
 a : ZArn
def ZAns.av (y : ZAns) : AV := .tup [ansA y.code y.found y.v y.ep,i64 y.n,boo true]
def resE (x : ZRun) (y : ZAns) : Prop :=
 (400 < x.v.size/\y.code = 5/\y.found = false/\y.v = ⟨#[]⟩/\y.a = x.a) ∨
 (x.v.size<=400/\(∀ i,i < x.a.p.n->x.a.p.cls i ≠ -1/\x.a.p.full (ned x.v.size) i)/\y.code = 4/\y.found = false/\y.v = ⟨#[]⟩/\y.a = x.a) ∨
 (x.v.size<=400/\y.code = 0/\y.found = false/\y.v = ⟨#[]⟩/\y.n = 4 + x.sp 4/\∃ i j,x.a.p.takes (ned x.v.size) i j/\y.a = x.aE i j)
def resD (x : ZRun) (y : ZAns) : Prop :=
 (x.a.l.n = 0/\y.code = 0/\y.found = false/\y.v = ⟨#[]⟩/\y.a = x.a) ∨
 (x.a.l.n ≠ 0/\(∀ i,i < x.a.p.n->x.a.p.cls i ≠ -1/\x.a.p.full 0 i)/\y.code = 4/\y.found = false/\y.v = ⟨#[]⟩/\y.a = x.a) ∨
 (x.a.l.n ≠ 0/\y.code = 0/\y.found = true/\y.v = x.b.value/\y.n = 6 + x.b.spnN/\∃ i j,x.a.p.takes 0 i j/\y.a = x.aD i j)
noncomputable def runEg : Ctr := { X := ZRun,args := fun x => [.ptr 0 0,i64 x.t,callA 4 x.key x.v],k := 1,os := fun x => [.abs (ownM x.a.os)],pre := fun x => Hd (GoodA x.a x.t),outs := [{ Y := ZAns,post := fun x y => Hd (resE x y),ret := fun _ y => y.av,m := 1,os := fun _ y => [.abs (ownM y.a.os)] }] }
noncomputable def runDg : Ctr := { X := ZRun,args := fun x => [.ptr 0 0,i64 x.t,callA 5 x.key x.v],k := 1,os := fun x => [.abs (ownM x.a.os)],pre := fun x => Hd (GoodA x.a x.t/\x.v.size<=400/\(x.a.l.n ≠ 0->x.a.n ≠ 0/\∃ ln,HeadOk x.a x.b ln)),outs := [{ Y := ZAns,post := fun x y => Hd (resD x y),ret := fun _ y => y.av,m := 1,os := fun _ y => [.abs (ownM y.a.os)] }] }
theorem outsP3 {X : Type} {x : X} {v : AV} {h' : Heap} {o p q : Out X} (h : outsP x v h' [o,p,q]) : (∃ y,o.post x y/\v = o.ret x y/\h' = hO o.m (o.os x y)) ∨ (∃ y,p.post x y/\v = p.ret x y/\h' = hO p.m (p.os x y)) ∨ ∃ y,q.post x y/\v = q.ret x y/\h' = hO q.m (q.os x y) := by
 rw [outsP_cons] at h
 rcases h with h | h
 ·exact .inl h
 ·exact .inr (outsP2 h)
theorem runEg_ok : CtrOk Tryz.prog 12 runEg := ctr_of fun x hx => by
 refine ⟨_,runE_ok,rfl,x,hx,rfl,rfl,fun v h' hh => ?_⟩
 have hc : x.c 4 = ned x.v.size := if_pos rfl
 rcases outsP3 hh with ⟨n,h0,h1,h2⟩ | ⟨n,h0,h1,h2⟩ | ⟨y,h0,h1,h2⟩
 ·exact outsI1 ⟨⟨5,false,⟨#[]⟩,0,n,x.a⟩,hd_iff.2 (.inl ⟨hd_iff.1 h0,rfl,rfl,rfl,rfl⟩),h1,h2⟩
 ·have h0 := hd_iff.1 h0
  exact outsI1 ⟨⟨4,false,⟨#[]⟩,0,n,x.a⟩,hd_iff.2 (.inr (.inl ⟨h0.1,by rw [← hc]; exact h0.2,rfl,rfl,rfl,rfl⟩)),h1,h2⟩
 ·have h0 := hd_iff.1 h0
  exact outsI1 ⟨⟨0,false,⟨#[]⟩,x.a.c.now,4 + x.sp 4,x.aE y.1 y.2⟩,hd_iff.2 (.inr (.inr ⟨h0.1,rfl,rfl,rfl,rfl,y.1,y.2,by rw [← hc]; exact h0.2,rfl⟩)),h1,h2⟩
theorem runDg_ok : CtrOk Tryz.prog 12 runDg := ctr_of fun x hx => by
 refine ⟨_,runD_ok,rfl,x,hx,rfl,rfl,fun v h' hh => ?_⟩
 rcases outsP3 hh with ⟨n,h0,h1,h2⟩ | ⟨n,h0,h1,h2⟩ | ⟨y,h0,h1,h2⟩
 ·exact outsI1 ⟨⟨0,false,⟨#[]⟩,0,n,x.a⟩,hd_iff.2 (.inl ⟨hd_iff.1 h0,rfl,rfl,rfl,rfl⟩),h1,h2⟩
 ·have h0 := hd_iff.1 h0
  exact outsI1 ⟨⟨4,false,⟨#[]⟩,0,n,x.a⟩,hd_iff.2 (.inr (.inl ⟨h0.1,h0.2,rfl,rfl,rfl,rfl⟩)),h1,h2⟩
 ·have h0 := hd_iff.1 h0
  exact outsI1 ⟨⟨0,true,x.b.value,x.a.c.now,6 + x.b.spnN,x.aD y.1 y.2⟩,hd_iff.2 (.inr (.inr ⟨h0.1,rfl,rfl,rfl,rfl,y.1,y.2,h0.2,rfl⟩)),h1,h2⟩
noncomputable def runT : WTr := fun args h K => match args with
 | [a,t,.agg l] => (bif decide (intL l 0 = 4) then ctrT runEg else ctrT runDg) [a,t,.agg l] h K
 | _ => False
theorem runT_ok (args : List AV) (h : Heap) (K : AV->Heap->Prop) (hq : runT args h K) : Sp Tryz.prog 12 args h K := by
 unfold runT at hq
 split at hq
 ·exact bif_ok _ (ctrT_ok runEg_ok) (ctrT_ok runDg_ok) _ _ _ hq
 ·exact hq.elim
noncomputable def openO (sh : ZArn->List AObj) (m r : Nat) : PCtr := { X := ZArn,args := fun _ => [.ptr 0 0],k := 1,l := fun a => [.m (sh a)],pre := fun _ => Hd True,outs := [{ Y := Unit,post := fun _ _ => True,ret := fun _ _ => .ptr r 0,m := m,l := fun a _ => (sh a).map PO.o }] }
noncomputable def awakeC : Ctr := det Unit (fun _ => []) 0 (fun _ => []) (fun _ => True) (fun _ => boo true) 0 (fun _ => [])
noncomputable def tblL0 : WTbl := [(10,ctrT newaP.ctr),(12,runT)]
end Go.Proofs.YtpnhfbegboogbaaGreat
end
section
namespace Go.Proofs.YtpnhfbegboogbaaGreat
open Go SE
def TZ_w1 : Prop := Value.slice none 0 0 = Value.slice none 0 0
def TZ_w2 : Prop := TZ_w1/\True
def TZ_w3 : Prop := TZ_w1/\TZ_w1/\TZ_w1/\TZ_w2
def TZ_w5 : Prop := ∃ y_3 : Unit,True/\true = false/\True
def TZ_w7 : Prop := ByteArray.mk #[] = ByteArray.mk #[]/\TZ_w2
def awake18VC (x : Unit) : Prop :=
 ∃ x_1 : ZNew,Hd (10<=x_1.n/\x_1.n<=258/\1<=x_1.t/\x_1.t<=4)/\((x_1.n : Int) = 10/\(x_1.t : Int) = 1/\True)/\True/\∀ y : DevM,Hd (y.ok/\y.n = x_1.n/\y.st = 2/\y.fl = 2/\y.fe = 1)->∃ x_2 : ZRun,Hd (GoodA x_2.a x_2.t)/\(0 = 0/\(x_2.t : Int) = 0/\((4 : Int) = 4/\x_2.key = ByteArray.mk #[]/\x_2.v = @ByteArray.mk (@List.toArray UInt8 [(120 : UInt8)])/\TZ_w7)/\True)/\(ownM x_2.a.os = ownM (ZArn.osN (newArn x_1.n x_1.t y))/\True)/\∀ y_1 : ZAns,Hd (resE x_2 y_1)->∃ x_3 : ZRun,Hd (GoodA x_3.a x_3.t/\x_3.v.size<=400/\(x_3.a.l.n ≠ 0->x_3.a.n ≠ 0/\∃ ln : Nat,@HeadOk x_3.a x_3.b ln))/\(0 = 0/\(x_3.t : Int) = 0/\((5 : Int) = 5/\x_3.key = ByteArray.mk #[]/\x_3.v = ByteArray.mk #[]/\TZ_w7)/\True)/\(ownM x_3.a.os = ownM y_1.a.os/\True)/\∀ y_2 : ZAns,Hd (resD x_3 y_2)->cP (BEq.beq (y_1.n : Int) (5 : Int)) (cP (BEq.beq y_1.code (0 : Int)) (cP (BEq.beq (y_2.n : Int) (7 : Int)) (cP y_2.found (∃ y_3 : Unit,True/\true = BEq.beq (ByteArray.toList y_2.v) (ByteArray.toList (@ByteArray.mk (@List.toArray UInt8 [(120 : UInt8)])))/\True) TZ_w5) TZ_w5) TZ_w5) TZ_w5
theorem awake18VC_ok (x : Unit) : awake18VC x = wpF Tryz.prog tblL0 tt (noA x) 200 6 9 (awakeC.args x) (hO 0 []) (fun v h' => endsP 0 x v h' awakeC.outs) := by kernel_rfl
def readOVC (x : ZArn) : Prop :=
 ∃ y : Unit,True/\0 = 0/\(0 = 0/\0 = 0/\0 = 0/\0 = 0/\0 = 0/\0 = 0/\0 = 0/\0 = 0/\x.id = x.id/\x.ver = x.ver/\(0 = 0/\x.n = x.n)/\True)/\(0 = 0/\(1 : Int) = 1/\(0 : Int) = 0/\(0 : Int) = 0/\True)/\ownM x.d.os = ownM x.d.os/\ownM x.p.os = ownM x.p.os/\ownM x.r.os = ownM x.r.os/\ownM (x.c.os 0) = ownM (x.c.os 0)/\ownM x.b.os = ownM x.b.os/\ownM tabE = ownM tabE/\TZ_w3/\ownM x.l.os = ownM x.l.os/\(x.n = x.n/\∀ q : Nat,q < x.n->[Value.int .i64 (ZEff.kind (x.e q)),Value.string (ZEff.key (x.e q)),Value.string (ZEff.value (x.e q)),Value.int .u64 (ZEff.id (x.e q)),Value.int .u64 (ZEff.ver (x.e q)),Value.int .u64 (ZEff.epoch (x.e q)),Value.int .i64 (ZEff.group (x.e q))] = [Value.int .i64 (ZEff.kind (x.e q)),Value.string (ZEff.key (x.e q)),Value.string (ZEff.value (x.e q)),Value.int .u64 (ZEff.id (x.e q)),Value.int .u64 (ZEff.ver (x.e q)),Value.int .u64 (ZEff.epoch (x.e q)),Value.int .i64 (ZEff.group (x.e q))])/\True
theorem readOVC_ok (x : ZArn) : readOVC x = wpF Tryz.prog [] tt (noA x) 200 6 23 ((openO ZArn.osP 11 4).args x) (hO 11 (flatP 1 ((openO ZArn.osP 11 4).l x))) (fun v h' => endsPK 1 x v h' (openO ZArn.osP 11 4).outs) := by kernel_rfl
end Go.Proofs.YtpnhfbegboogbaaGreat
end
section
namespace Go.Proofs.YtpnhfbegboogbaaGreat
open Go SE
set_option linter.unusedSimpArgs false
structure ZSm where
 n : Nat
 m : Nat
 g : Nat->ByteArray
 h : Nat->ByteArray
noncomputable def ZSm.same (x : ZSm) : Bool := hide (@decide (x.n = x.m/\∀ i,i < x.n->x.g i = x.h i) (Classical.propDecidable _))
def rowT (n : Nat) (g : Nat->ByteArray) : AObj := .ro (.row 1 n (fun i => [.string (g i)]) [])
noncomputable def shelf2 : Ctr := det ZSh (fun _ => [.ptr 0 0]) 5 ZSh.os (fun x => Hd (x.l.ok/\x.l.n = 2/\qok x.d x.l x.b)) (fun _ => .agg [nilS,.slW 5 0 1 2]) 6 (fun x => x.os ++ [rowS x.b 2])
theorem shelf2_ok : CtrOk Tryz.prog 22 shelf2 := ctr_of fun x hx => by
 obtain ⟨h1,h2,h3⟩ := hd_iff.1 hx
 refine ⟨_,shelfS_ok,rfl,x,hd_iff.2 ⟨h1,by rw [h2]; decide,h3⟩,rfl,rfl,fun v h' hh => ?_⟩
 rcases outsP2 hh with ⟨y,h0,e1,e2⟩ | ⟨y,h0,e1,e2⟩
 ·have := hd_iff.1 h0; omega
 ·refine outsI1 ⟨(),trivial,e1.trans ?_,e2.trans ?_⟩
  ·show AV.agg [nilS,.slW 5 0 1 x.l.n] = .agg [nilS,.slW 5 0 1 2]; rw [h2]
  ·show hO 6 (x.os ++ [rowS x.b x.l.n]) = hO 6 (x.os ++ [rowS x.b 2]); rw [h2]
end Go.Proofs.YtpnhfbegboogbaaGreat
end
section
namespace Go.Proofs.YtpnhfbegboogbaaGreat
open Go SE
end Go.Proofs.YtpnhfbegboogbaaGreat
end
section
namespace Go.Proofs.YtpnhfbegboogbaaGreat
open Go SE
set_option linter.unusedSimpArgs false
theorem fresh_takes {n : Nat} {c : Int} (hc : 0<=c) {i k : Nat} (h : (newPool n n).takes c i k) : i = 0/\k = 0 := by
 obtain ⟨h1,h2,h3,h4⟩ := h
 have h1 : i < n := h1
 have cl : ∀ j,j < n->(newPool n n).cls j = -1 := fun j hj => if_pos hj
 rcases h4 with ⟨h4,_⟩ | ⟨h4,h5,_,h6⟩
 ·rw [cl i h1] at h4; omega
 ·refine ⟨?_,h5⟩
  rcases Nat.eq_zero_or_pos i with h | h
  ·exact h
  ·exact absurd (cl 0 (by omega)) (h6 0 h)
theorem fresh_room {n : Nat} (hn : 0 < n) {c : Int} : ¬ ∀ i,i < (newPool n n).n->(newPool n n).cls i ≠ -1/\(newPool n n).full c i := fun h => (h 0 hn).1 (if_pos hn)
def zB : ZBlk := ⟨0,0,0,0,0,⟨#[]⟩,⟨#[]⟩⟩
theorem new_own (n T : Nat) (d : DevM) : ownM (newArn n T d).os = ownM (newArn n T d).osN := by rw [arn_osN rfl]
theorem awake18VC_true (u : Unit) : awake18VC u := by
 unfold awake18VC
 simp only [TZ_w7,TZ_w5,TZ_w2,TZ_w1]
 simp only [hd_iff,and_true,true_and,Nat.zero_add,Nat.add_zero,unit_ex,unit_all,true_implies,implies_true,Int.toNat_natCast,eq_self,and_self,eff_nil,cond_one,cond_int,ones_int,row_int,ones_bool,row_bool,cond_bool,ble0,Bool.true_and,Nat.sub_zero,List.getElem?_cons_zero,Option.some.injEq,Value.bool.injEq,Value.int.injEq,exists_eq_left',exists_eq_left]
 refine ⟨⟨10,1⟩,by decide,⟨rfl,rfl⟩,fun d hd => ?_⟩
 have g0 := good_new (n := 10) (t := 0) (T := 1) (m := 0) hd.1 hd.2.1 hd.2.2.1 rfl (by decide) (by decide) (by decide) (fun _ => zB)
 refine ⟨⟨newArn 10 1 d,0,⟨#[]⟩,⟨#[120]⟩,zB⟩,g0.A (by decide),⟨rfl,rfl,rfl⟩,new_own _ _ _,fun y1 h1 => ?_⟩
 rcases h1 with ⟨h,_⟩ | ⟨_,h,_⟩ | ⟨hv,c1,c2,c3,c4,i,j,ht,c5⟩
 ·exact absurd (show 400 < 1 from h) (by decide)
 ·exact absurd h (fresh_room (n := 1) (by decide))
 have g1 := good_enq g0 (by decide) ⟨#[]⟩ ⟨#[120]⟩ zB hv ht
 rw [← c5] at g1
 obtain ⟨rfl,rfl⟩ := fresh_takes (n := 1) (show (0 : Int)<=ned (1 : Nat) by decide) ht
 have hn1 : y1.a.l.n = 1 := by rw [c5]; exact push_n _ _
 let B := pushB (fun _ => zB) (newArn 10 1 d).l.n ⟨ned (ByteArray.size ⟨#[120]⟩),2,(newArn 10 1 d).id + 1,(newArn 10 1 d).ver + 1,1,⟨#[]⟩,⟨#[120]⟩⟩
 refine ⟨⟨y1.a,0,⟨#[]⟩,⟨#[]⟩,B 0⟩,⟨g1.A (by decide),Nat.zero_le _,fun hz => g1.head hz⟩,⟨rfl,rfl,rfl⟩,rfl,fun y2 h2 => ?_⟩
 rcases h2 with ⟨h,_⟩ | ⟨_,h,_⟩ | ⟨_,e1,e2,e3,e4,_⟩
 ·exact absurd (hn1.symm.trans h) (by decide)
 ·exfalso
  have hp : y1.a.p = (newPool 1 1).take 0 0 0 := by rw [c5]; rfl
  have h := (h 0 (by rw [hp]; show 0 < 1; decide)).2
  rw [hp] at h
  have := h rfl 1 (by decide)
  cases this
 ·have e5 : y1.n = 5 := c4
  have e6 : y2.n = 7 := e4
  have e7 : y2.v = ⟨#[120]⟩ := e3
  rw [e5,e6,e7,c1,e2]
  exact cP_intro (fun _ => cP_intro (fun _ => cP_intro (fun _ => (beq_self_eq_true _).symm) fun h => absurd h (by decide)) fun h => absurd h (by decide)) fun h => absurd h (by decide)
theorem tblL0_ok : TblOk Tryz.prog tblL0 := .cons (ctrT_ok newa_ok) (.cons runT_ok .nil)
theorem awake_ok : CtrOk Tryz.prog 9 awakeC := det_end tt_ok mixed tblL0_ok noA 200 6 (fun _ => rfl) (fun _ => rfl) fun x _ => Eq.mp (awake18VC_ok x) (awake18VC_true x)
def awakeT : WTr := fun args h K => match args with
 | [] => K (boo true) h
 | _ => False
theorem awakeT_ok (args : List AV) (h : Heap) (K : AV->Heap->Prop) (hq : awakeT args h K) : Sp Tryz.prog 9 args h K := by
 unfold awakeT at hq
 split at hq
 ·exact det_pure awake_ok () trivial h rfl rfl hq
 ·exact hq.elim
theorem readOVC_true (x : ZArn) : readOVC x := by
 unfold readOVC
 simp only [TZ_w3,TZ_w1,TZ_w2]
 simp only [hd_iff,and_true,true_and,Nat.zero_add,Nat.add_zero,unit_ex,unit_all,true_implies,implies_true,Int.toNat_natCast,eq_self,and_self,eff_nil,cond_one,cond_int,ones_int,row_int,ones_bool,row_bool,cond_bool,ble0,Bool.true_and,Nat.sub_zero,List.getElem?_cons_zero,Option.some.injEq,Value.bool.injEq,Value.int.injEq,exists_eq_left',exists_eq_left]
theorem readO_ok : CtrOk Tryz.prog 23 (openO ZArn.osP 11 4).ctr := pctr_end tt_ok mixed .nil 11 noA 200 6 (fun _ => ⟨rfl,rfl,rfl,rfl⟩) fun x _ => Eq.mp (readOVC_ok x) (readOVC_true x)
noncomputable def tblL : WTbl := [(9,awakeT),(10,ctrT newaP.ctr),(12,runT)]
noncomputable def tblLs : WTbl := tblL ++ [(23,ctrT (openO ZArn.osP 11 4).ctr),(24,ctrT insideP.ctr),(22,ctrT shelf2)]
theorem tblL_ok : TblOk Tryz.prog tblL := .cons awakeT_ok (.cons (ctrT_ok newa_ok) (.cons runT_ok .nil))
theorem tblLs_ok : TblOk Tryz.prog tblLs := .append tblL_ok (.cons (ctrT_ok readO_ok) (.cons (ctrT_ok inside_ok) (.cons (ctrT_ok shelf2_ok) .nil)))
structure ZSp where
 v : ByteArray
 off : Bool
structure ZTu where
 lines : Int
 n : Nat
 g : Nat->ByteArray
 m : Nat
 h : Nat->Bool
def ZTu.os (x : ZTu) : List AObj := [rowT x.n x.g,.ro (.row 1 x.m (fun i => [.bool (x.h i)]) [])]
end Go.Proofs.YtpnhfbegboogbaaGreat
end
section
namespace Go.Proofs.YtpnhfbegboogbaaGreat
open Go SE
def LD_w48 (a : ZArn) (b : ZArn) : Prop := ownM a.os = ownM b.os/\True
def LD_w34 : Prop := Value.slice none 0 0 = Value.slice none 0 0/\True
def LD_w33 : Prop := ByteArray.mk #[] = ByteArray.mk #[]/\LD_w34
def LD_w25 (a : ZAns) (b : ByteArray) : Prop := ∃ x_5 : ZArn,Hd True/\(0 = 0/\True)/\(ownM x_5.osP = ownM a.a.os/\True)/\∀ y_4 : Unit,True->∃ x_6 : ZRdT,Hd (x_6.r.ok/\x_6.k < x_6.r.t)/\(0 = 0/\(x_6.k : Int) = 0/\True)/\(ownM x_6.r.os = ownM x_5.r.os/\True)/\∀ y_5 : Unit,True->cP (BEq.beq a.code (4 : Int)) (cP (Bool.not a.found) (cP (BEq.beq (ByteArray.toList a.v) (ByteArray.toList (ByteArray.mk #[]))) (∃ x_7 : ZSh,Hd (x_7.l.ok/\x_7.l.n = 2/\qok x_7.d x_7.l x_7.b)/\(0 = 0/\True)/\((0 = 0/\True/\True/\True/\True/\0 = 0/\True/\0 = 0/\True/\True/\True/\True)/\(0 = 0/\True/\True/\True/\True)/\ownM x_7.d.os = ownM x_5.d.os/\ownM tabE = ownM tabE/\ownM x_7.l.os = ownM x_5.l.os/\True)/\∀ y_6 : Unit,True->((0 : Int)<=0/\(0 : Int)<=1)/\0 < 2/\((0 : Int)<=0/\(0 : Int)<=1)/\cP (Bool.not (BEq.beq (ByteArray.toList (ZBlk.value (x_7.b 0))) (ByteArray.toList b))) (true = false/\True) (I64 (1 : Int)/\((0 : Int)<=1/\(0 : Int)<=0)/\1 < 2/\((0 : Int)<=1/\(0 : Int)<=0)/\cP (Bool.not (BEq.beq (ByteArray.toList (ZBlk.value (x_7.b 1))) (ByteArray.toList b))) (true = false/\True) (I64 (2 : Int)/\cP (Bool.not (decide (x_6.r.has x_6.k ≠ (0 : Int)))) (true = true/\True) (true = false/\True)))) (true = false/\True)) (true = false/\True)) (true = false/\True)
def LD_w36 (a : ZRun) : Prop := 0 = 0/\(a.t : Int) = 0/\((5 : Int) = 5/\a.key = ByteArray.mk #[]/\a.v = ByteArray.mk #[]/\LD_w33)/\True
def LD_w49 (a : ZRun) : Prop := Hd (GoodA a.a a.t/\a.v.size<=400/\(a.a.l.n ≠ 0->a.a.n ≠ 0/\∃ ln : Nat,@HeadOk a.a a.b ln))
def spaceVC (x : ZSp) : Prop :=
 cP (decide ((x.v.size : Int) > (400 : Int))) (true = true/\True) (cP (decide ((x.v.size : Int) < 300)) (true = true/\True) (∃ x_1 : ZNew,Hd (10<=x_1.n/\x_1.n<=258/\1<=x_1.t/\x_1.t<=4)/\((x_1.n : Int) = 18/\(x_1.t : Int) = 1/\True)/\True/\∀ y : DevM,Hd (y.ok/\y.n = x_1.n/\y.st = 2/\y.fl = 2/\y.fe = 1)->∃ x_2 : ZRun,Hd (GoodA x_2.a x_2.t)/\(0 = 0/\(x_2.t : Int) = 0/\((4 : Int) = 4/\x_2.key = ByteArray.mk #[]/\x_2.v = x.v/\LD_w33)/\True)/\(ownM x_2.a.os = ownM (ZArn.osN (newArn x_1.n x_1.t y))/\True)/\∀ y_1 : ZAns,Hd (resE x_2 y_1)->∃ x_3 : ZRun,Hd (GoodA x_3.a x_3.t)/\(0 = 0/\(x_3.t : Int) = 0/\((4 : Int) = 4/\x_3.key = ByteArray.mk #[]/\x_3.v = x.v/\LD_w33)/\True)/\LD_w48 x_3.a y_1.a/\∀ y_2 : ZAns,Hd (resE x_3 y_2)->cP x.off (∃ x_4 : ZRun,LD_w49 x_4/\LD_w36 x_4/\LD_w48 x_4.a y_2.a/\∀ y_3 : ZAns,Hd (resD x_4 y_3)->LD_w25 y_3 x.v) (∃ x_4 : ZRun,Hd (GoodA x_4.a x_4.t)/\(0 = 0/\(x_4.t : Int) = 0/\((4 : Int) = 4/\x_4.key = ByteArray.mk #[]/\x_4.v = @ByteArray.mk (@List.toArray UInt8 [(120 : UInt8)])/\LD_w33)/\True)/\LD_w48 x_4.a y_2.a/\∀ y_3 : ZAns,Hd (resE x_4 y_3)->LD_w25 y_3 x.v)))
theorem spaceVC_ok (x : ZSp) : spaceVC x = wpF Tryz.prog tblLs tt (noA x) 200 6 6 [.lit (.string x.v),boo x.off] (hO 0 []) (fun v h' => endP 0 (boo true) [] v h') := by kernel_rfl
end Go.Proofs.YtpnhfbegboogbaaGreat
end
section
namespace Go.Proofs.YtpnhfbegboogbaaGreat
open Go SE
set_option linter.unusedSimpArgs false
theorem ned3 {n : Nat} (h : 300<=n) (h2 : n<=400) : ned n = 3 := by
 unfold ned
 rw [if_neg (by omega),if_neg (by omega),if_neg (by omega),if_neg (by omega),if_pos (by omega)]
theorem space2 {d : DevM} (hd : d.ok/\d.n = 18/\d.st = 2) {v : ByteArray} (h1 : 300<=v.size) (h2 : v.size<=400) {y1 y2 : ZAns} (r1 : resE ⟨newArn 18 1 d,0,⟨#[]⟩,v,zB⟩ y1) (r2 : resE ⟨y1.a,0,⟨#[]⟩,v,zB⟩ y2) :
  ∃ B,Good y2.a 0 2 B/\y2.a.l.n = 2/\y2.a.n ≠ 0/\(B 0).value = v/\(B 1).value = v/\∀ i k,¬ y2.a.p.takes 0 i k := by
 have g0 := good_new (n := 18) (t := 0) (T := 1) (m := 1) hd.1 hd.2.1 hd.2.2 rfl (by decide) (by decide) (by decide) (fun _ => zB)
 have e3 := ned3 h1 h2
 rcases r1 with ⟨h,_⟩ | ⟨_,h,_⟩ | ⟨hv,_,_,_,_,i,j,ht,c5⟩
 ·exact absurd (show 400 < v.size from h) (by omega)
 ·exact absurd h (fresh_room (n := 2) (by decide))
 have ht : (newPool 2 2).takes (ned v.size) i j := ht
 have g1 := good_enq g0 (by decide) ⟨#[]⟩ v zB hv ht
 have c5 : y1.a = ZRun.aE ⟨newArn 18 1 d,0,⟨#[]⟩,v,zB⟩ i j := c5
 rw [← c5] at g1
 obtain ⟨rfl,rfl⟩ := fresh_takes (n := 2) (by rw [e3]; decide) ht
 have hn1 : y1.a.l.n = 1 := by rw [c5]; exact push_n _ _
 have hp1 : y1.a.p = (newPool 2 2).take 3 0 0 := by rw [c5,← e3]; rfl
 rcases r2 with ⟨h,_⟩ | ⟨_,h,_⟩ | ⟨_,_,_,_,_,i,j,ht2,c6⟩
 ·exact absurd (show 400 < v.size from h) (by omega)
 ·exfalso
  have h : ∀ i,i < y1.a.p.n->y1.a.p.cls i ≠ -1/\_ := h
  rw [hp1] at h
  exact (h 1 (by decide)).1 rfl
 have ht2 : y1.a.p.takes (ned v.size) i j := ht2
 have g2 := good_enq g1 (by decide) ⟨#[]⟩ v zB hv ht2
 have c6 : y2.a = ZRun.aE ⟨y1.a,0,⟨#[]⟩,v,zB⟩ i j := c6
 rw [← c6] at g2
 have hij : i = 1/\j = 0 := by
  obtain ⟨a1,a2,a3,a4⟩ := ht2
  rw [e3,hp1] at *
  have a1 : i < 2 := a1
  have a2 : j < 1 := a2
  have hj : j = 0 := by omega
  subst hj
  rcases Nat.lt_or_ge 0 i with h | h
  ·exact ⟨by omega,rfl⟩
  ·have : i = 0 := by omega
   subst this
   exact absurd a3 (by decide)
 obtain ⟨rfl,rfl⟩ := hij
 have hp2 : y2.a.p = ((newPool 2 2).take 3 0 0).take 3 1 0 := by rw [c6,← hp1,← e3]; rfl
 refine ⟨_,g2,?_,?_,?_,?_,fun i k h => ?_⟩
 ·rw [c6]; show (y1.a.l.push _).n = 2; rw [push_n,hn1]
 ·rw [c6]; exact Nat.succ_ne_zero _
 ·rw [hn1]; rfl
 ·rw [hn1]; rfl
 ·rw [hp2] at h
  obtain ⟨a1,_,_,a4⟩ := h
  have a1 : i < 2 := a1
  have cl : (((newPool 2 2).take 3 0 0).take 3 1 0).cls i = 3 := by
   rcases Nat.lt_or_ge 0 i with h | h
   ·have : i = 1 := by omega
    subst this; rfl
   ·have : i = 0 := by omega
    subst this; rfl
  rw [cl] at a4
  rcases a4 with ⟨a4,_⟩ | ⟨a4,_⟩ <;> exact absurd a4 (by decide)
set_option maxRecDepth 20000 in
theorem spaceVC_true (x : ZSp) : spaceVC x := by
 unfold spaceVC
 simp only [LD_w33,LD_w48,LD_w49,LD_w36,LD_w25,LD_w34]
 simp only [hd_iff,and_true,true_and,Nat.zero_add,Nat.add_zero,unit_ex,unit_all,true_implies,implies_true,Int.toNat_natCast,eq_self,and_self,eff_nil,cond_one,cond_int,ones_int,row_int,ones_bool,row_bool,cond_bool,ble0,Bool.true_and,Nat.sub_zero,List.getElem?_cons_zero,Option.some.injEq,Value.bool.injEq,Value.int.injEq,exists_eq_left',exists_eq_left]
 refine cP_intro (fun _ => trivial) fun h1 => cP_intro (fun _ => trivial) fun h2 => ?_
 have h1 : x.v.size<=400 := by have := of_decide_eq_false h1; omega
 have h2 : 300<=x.v.size := by have := of_decide_eq_false h2; omega
 refine ⟨⟨18,1⟩,by decide,⟨rfl,rfl⟩,fun d hd => ?_⟩
 have hd' : d.ok/\d.n = 18/\d.st = 2 := ⟨hd.1,hd.2.1,hd.2.2.1⟩
 have g0 := good_new (n := 18) (t := 0) (T := 1) (m := 1) hd.1 hd.2.1 hd.2.2.1 rfl (by decide) (by decide) (by decide) (fun _ => zB)
 refine ⟨⟨newArn 18 1 d,0,⟨#[]⟩,x.v,zB⟩,g0.A (by decide),⟨rfl,rfl,rfl⟩,new_own _ _ _,fun y1 r1 => ?_⟩
 have gA1 : GoodA y1.a 0 := by
  rcases r1 with ⟨h,_⟩ | ⟨_,h,_⟩ | ⟨hv,_,_,_,_,i,j,ht,c5⟩
  ·exact absurd (show 400 < x.v.size from h) (by omega)
  ·exact absurd h (fresh_room (n := 2) (by decide))
  ·rw [c5]; exact (good_enq g0 (by decide) ⟨#[]⟩ x.v zB hv ht).A (by decide)
 refine ⟨⟨y1.a,0,⟨#[]⟩,x.v,zB⟩,gA1,⟨rfl,rfl,rfl⟩,rfl,fun y2 r2 => ?_⟩
 obtain ⟨B2,g2,hl2,hn2,hv0,hv1,hno⟩ := space2 hd' h2 h1 r1 r2
 refine cP_intro (fun _ => ⟨⟨y2.a,0,⟨#[]⟩,⟨#[]⟩,B2 0⟩,⟨g2.A (by decide),Nat.zero_le _,fun hz => g2.head hz⟩,⟨rfl,rfl,rfl⟩,rfl,fun y3 r3 => ?_⟩) fun _ => ⟨⟨y2.a,0,⟨#[]⟩,⟨#[120]⟩,zB⟩,g2.A (by decide),⟨rfl,rfl,rfl⟩,rfl,fun y3 r3 => ?_⟩
 ·rcases r3 with ⟨h,_⟩ | ⟨_,_,c1,c2,c3,c5⟩ | ⟨_,_,_,_,_,i,j,ht,_⟩
  ·exact absurd (hl2.symm.trans h) (by decide)
  ·refine ⟨y2.a,by rw [c5,arn_osP hn2],⟨y2.a.r,0⟩,⟨g2.rok,g2.tr⟩,rfl,rfl,?_⟩
   rw [c1,c2,c3]
   refine cP_intro (fun _ => cP_intro (fun _ => cP_intro (fun _ => ⟨⟨y2.a.d,y2.a.l,B2⟩,⟨g2.lok,hl2,g2.shelf⟩,⟨rfl,rfl⟩,by decide,by decide,by decide,?_⟩) fun h => absurd h (by rw [beq_self_eq_true]; decide)) fun h => absurd h (by decide)) fun h => absurd h (by decide)
   rw [hv0,hv1]
   simp only [beq_self_eq_true,Bool.not_true,cP_false]
   rw [g2.out]
   exact ⟨by unfold I64; omega,by decide,by decide,by decide,by unfold I64; omega,cP_intro (fun _ => trivial) fun h => absurd h (by decide)⟩
  ·exact absurd ht (hno i j)
 ·rcases r3 with ⟨h,_⟩ | ⟨_,_,c1,c2,c3,c5⟩ | ⟨_,_,_,_,_,i,j,ht,_⟩
  ·exact absurd (show 400 < 1 from h) (by decide)
  ·refine ⟨y2.a,by rw [c5,arn_osP hn2],⟨y2.a.r,0⟩,⟨g2.rok,g2.tr⟩,rfl,rfl,?_⟩
   rw [c1,c2,c3]
   refine cP_intro (fun _ => cP_intro (fun _ => cP_intro (fun _ => ⟨⟨y2.a.d,y2.a.l,B2⟩,⟨g2.lok,hl2,g2.shelf⟩,⟨rfl,rfl⟩,by decide,by decide,by decide,?_⟩) fun h => absurd h (by rw [beq_self_eq_true]; decide)) fun h => absurd h (by decide)) fun h => absurd h (by decide)
   rw [hv0,hv1]
   simp only [beq_self_eq_true,Bool.not_true,cP_false]
   rw [g2.out]
   exact ⟨by unfold I64; omega,by decide,by decide,by decide,by unfold I64; omega,cP_intro (fun _ => trivial) fun h => absurd h (by decide)⟩
  ·exact absurd ht (hno i j)
theorem space_sp (x : ZSp) : Sp Tryz.prog 6 [.lit (.string x.v),boo x.off] (hO 0 []) (fun v _ => v = boo true) :=
 (sp_end tt_ok mixed tblLs_ok (noA x) 200 6 (v0 := boo true) (os := []) (Eq.mp (spaceVC_ok x) (spaceVC_true x))).mono fun _ _ hh => hh.1
end Go.Proofs.YtpnhfbegboogbaaGreat
end
