import Derived.Test.YtpnhfbegboogbaaGreatQa
import Derived.Test.YtpnhfbegboogbaaGreatQb
import Derived.Test.YtpnhfbegboogbaaGreatQc
import Derived.Test.YtpnhfbegboogbaaGreatQd
import Derived.Test.YtpnhfbegboogbaaGreatQe
import Derived.Test.YtpnhfbegboogbaaGreatQf
import Derived.Test.YtpnhfbegboogbaaGreatQg
import Derived.KernelRfl
set_option linter.unusedVariables false
set_option linter.unusedSimpArgs false
set_option linter.unnecessarySimpa false
section
namespace Go.Proofs.YtpnhfbegboogbaaGreat
open Go SE
set_option linter.unusedSimpArgs false
theorem mod2 {a n : Nat} (h : a < 2 * n) : a % n = if a < n then a else a - n := by
 split
 ·exact Nat.mod_eq_of_lt ‹_›
 ·rw [Nat.mod_eq_sub_mod (by omega),Nat.mod_eq_of_lt (by omega)]
theorem push_get {l : ZLn} (h : l.ok) (x : ZLnk) {i : Nat} (hi : i<=l.n) : (l.push x).get i = if i = l.n then x else l.get i := by
 obtain ⟨h1,h2,h3,h4,h5⟩ := h
 unfold ZLn.push
 by_cases hn : l.n = l.len
 ·rw [if_pos hn]
  show (fun i => if i < l.n then l.get i else if i = l.n then x else zLnk) ((0 + i) % (l.n + 1)) = _
  rw [Nat.zero_add,Nat.mod_eq_of_lt (by omega)]
  by_cases e : i = l.n
  ·subst e; simp
  ·rw [if_neg e]; exact if_pos (by omega)
 ·rw [if_neg hn]
  have := h5 (by omega)
  show (fun j => if j = (l.at_ + l.n) % l.len then x else l.e j) ((l.at_ + i) % l.len) = _
  by_cases e : i = l.n
  ·subst e; simp
  ·rw [if_neg e]
   refine (if_neg ?_).trans rfl
   rw [mod2 (a := l.at_ + i) (by omega),mod2 (a := l.at_ + l.n) (by omega)]
   split <;> split <;> omega
theorem push_n (l : ZLn) (x : ZLnk) : (l.push x).n = l.n + 1 := by unfold ZLn.push; split <;> rfl
theorem push_ok {l : ZLn} (h : l.ok) (x : ZLnk) {N : Nat} (hc : l.cap<=2 * N + 1) (hn : l.n<=N) (hN : N<=1000) : (l.push x).ok/\(l.push x).cap<=2 * (N + 1) + 1 := by
 obtain ⟨h1,h2,h3,h4,h5⟩ := h
 unfold ZLn.push ZLn.ok
 split
 ·exact ⟨⟨by show 2 * l.n + 1 < _; omega,by show l.n + 1<=2 * l.n + 1; omega,Nat.le_refl _,fun _ => rfl,fun _ => Nat.succ_pos _⟩,by show 2 * l.n + 1<=_; omega⟩
 ·exact ⟨⟨by show l.cap < _; omega,h2,by show l.n + 1<=l.len; omega,h4,h5⟩,by show l.cap<=_; omega⟩
theorem pop_get {l : ZLn} (h : l.ok) (hz : l.n ≠ 0) {i : Nat} (hi : i + 1 < l.n) : l.pop.get i = l.get (i + 1) := by
 obtain ⟨h1,h2,h3,h4,h5⟩ := h
 have := h5 (by omega)
 unfold ZLn.pop
 rw [if_neg hz]
 show (fun j => if j = l.at_ then zLnk else l.e j) (((l.at_ + 1) % l.len + i) % l.len) = l.e ((l.at_ + (i + 1)) % l.len)
 have e : ((l.at_ + 1) % l.len + i) % l.len = (l.at_ + (i + 1)) % l.len := by rw [Nat.mod_add_mod]; congr 1; omega
 rw [e]
 refine if_neg ?_
 rw [mod2 (by omega)]
 split <;> omega
theorem pop_n {l : ZLn} (hz : l.n ≠ 0) : l.pop.n = l.n - 1 := by unfold ZLn.pop; rw [if_neg hz]
theorem pop_ok {l : ZLn} (h : l.ok) (hz : l.n ≠ 0) : l.pop.ok/\l.pop.cap = l.cap := by
 obtain ⟨h1,h2,h3,h4,h5⟩ := h
 unfold ZLn.pop
 rw [if_neg hz]
 exact ⟨⟨h1,h2,by show l.n - 1<=l.len; omega,fun e => absurd e (by show ¬ l.len = 0; omega),fun _ => Nat.mod_lt _ (by show 0 < l.len; omega)⟩,rfl⟩
theorem head_get {l : ZLn} (hz : l.n ≠ 0) : l.head = l.get 0 := if_neg hz
structure Good (a : ZArn) (t N : Nat) (b : Nat->ZBlk) : Prop where
 dok : a.d.ok
 dst : a.d.st<=20 * N + 20
 rok : a.r.ok
 cok : a.c.ok
 tc : t < a.c.t
 tr : t < a.r.t
 out : a.r.has t = 0
 pg : a.p.good
 fit : 2 + a.p.n * 8<=a.d.n
 bok : a.b.ok
 lok : a.l.ok
 lcap : a.l.cap<=2 * N + 1
 ln : a.l.n<=N
 id0 : 0<=a.id
 id1 : a.id<=N
 v0 : 0<=a.ver
 v1 : a.ver<=N
 nn : a.n<=N
 now : a.c.now = 1
 owed : ∀ k,a.c.o k<=8 * N
 used : ∀ L : Int,2<=L->(ZUse.inL ⟨a.b,a.l,L⟩ ∨ ZUse.inB ⟨a.b,a.l,L⟩)->a.p.has L
 nz : a.l.n ≠ 0->a.n ≠ 0
 q : ∀ i,i < a.l.n->∃ ln : Nat,a.l.get i = ⟨⟨#[]⟩,(b i).id,(b i).ver,ln,(b i).cls⟩/\ZBy.ok ⟨a.d,b i,ln⟩/\∃ i' j',a.p.at_ ln i' j'/\a.p.cls i' = (b i).cls
section
variable {a : ZArn} {t N : Nat} {b : Nat->ZBlk}
theorem Good.A (g : Good a t N b) (hN : N<=1000) : GoodA a t where
 dok := g.dok
 dst := by have := g.dst; omega
 rok := g.rok
 cok := g.cok
 tc := g.tc
 tr := g.tr
 out := g.out
 pg := g.pg
 fit := g.fit
 bok := g.bok
 lok := g.lok
 ln := by have := g.ln; omega
 id0 := g.id0
 id1 := by have := g.id1; omega
 v0 := g.v0
 v1 := by have := g.v1; omega
 nn := by have := g.nn; omega
 now0 := by rw [g.now]; decide
 now1 := by rw [g.now]; decide
 owed := fun k => by have := g.owed k; omega
 used := g.used
theorem Good.head (g : Good a t N b) (hz : a.l.n ≠ 0) : a.n ≠ 0/\∃ ln,HeadOk a (b 0) ln := by
 obtain ⟨ln,h1,h2,h3⟩ := g.q 0 (by omega)
 exact ⟨g.nz hz,ln,h2.2.1,h2.2.2.1,by rw [head_get hz]; exact h1,h3,h2.2.2.2.2⟩
theorem Good.shelf (g : Good a t N b) : qok a.d a.l b := fun i hi => by
 obtain ⟨ln,h1,h2,_⟩ := g.q i hi
 exact ⟨ln,h1,h2⟩
theorem dW_b {x : ZRun} (k : Int) (i j : Nat) : ∀ p,∀ m r : Nat,r < 64->(x.dW k i j p).b (m * 193 + r) =
  if x.ln k i j<=m/\m < x.ln k i j + p then (if m = x.ln k i j then (ZBlk.mk (x.c k) 0 0 0 0 ⟨#[]⟩ ⟨#[]⟩).headG (fun _ => 0) (cpc (x.c k)).toNat r else (ZBlk.mk (x.c k) 2 0 0 0 ⟨#[]⟩ x.v).enc (64 * (m - x.ln k i j) + r)) else x.a.d.b (m * 193 + r)
 | 0,m,r,_ => by rw [if_neg (by omega)]; rfl
 | p + 1,m,r,hr => by
  have ih := dW_b (x := x) k i j p m r hr
  show (ZWr.d' ⟨x.dW k i j p,x.t,x.f1,x.ln k i j,x.c k,p⟩).b (m * 193 + r) = _
  unfold ZWr.d'
  by_cases e : p = 0
  ·subst e
   rw [if_pos rfl]
   show (if x.ln k i j * 193 + 0<=m * 193 + r/\m * 193 + r < x.ln k i j * 193 + 0 + 64 then (ZBlk.mk (x.c k) 0 0 0 0 ⟨#[]⟩ ⟨#[]⟩).headG (fun _ => 0) (cpc (x.c k)).toNat (m * 193 + r - (x.ln k i j * 193 + 0)) else (x.dW k i j 0).b (m * 193 + r)) = _
   by_cases h : m = x.ln k i j
   ·rw [if_pos (by omega),if_pos (by omega),if_pos h,show m * 193 + r - (x.ln k i j * 193 + 0) = r by omega]
   ·rw [if_neg (by omega),if_neg (by omega),ih,if_neg (by omega)]
  ·rw [if_neg e]
   show (if (x.ln k i j + p) * 193 + 0<=m * 193 + r/\m * 193 + r < (x.ln k i j + p) * 193 + 0 + 64 then (ZBlk.mk (x.c k) 2 0 0 0 ⟨#[]⟩ x.v).enc (64 * p + (m * 193 + r - ((x.ln k i j + p) * 193 + 0))) else (x.dW k i j p).b (m * 193 + r)) = _
   by_cases h : m = x.ln k i j + p
   ·rw [if_pos (by omega),if_pos (by omega),if_neg (by omega),show 64 * p + (m * 193 + r - ((x.ln k i j + p) * 193 + 0)) = 64 * (m - x.ln k i j) + r by omega]
   ·rw [if_neg (by omega),ih]
    by_cases h2 : x.ln k i j<=m/\m < x.ln k i j + p
    ·rw [if_pos h2,if_pos (show x.ln k i j<=m/\m < x.ln k i j + (p + 1) by omega)]
    ·rw [if_neg h2,if_neg (by omega)]
theorem enc_dat {x y : ZBlk} (hk : x.key = y.key) (hv : x.value = y.value) {m : Nat} (hm : 64<=m) : x.enc m = y.enc m := by
 unfold ZBlk.enc
 rw [if_neg (show ¬ m < 64 by omega),if_neg (show ¬ m < 64 by omega)]
 unfold ZBlk.dat
 rw [hk,hv]
theorem store_b (d : DevM) (k : Nat) (g : Nat->Int) (m r : Nat) (hr : r < 64) : (d.store k 0 64 g).b (m * 193 + r) = if m = k then g r else d.b (m * 193 + r) := by
 show (if k * 193 + 0<=m * 193 + r/\m * 193 + r < k * 193 + 0 + 64 then g (m * 193 + r - (k * 193 + 0)) else d.b (m * 193 + r)) = _
 by_cases h : m = k
 ·subst h; rw [if_pos (by omega),if_pos rfl,show m * 193 + r - (m * 193 + 0) = r by omega]
 ·rw [if_neg (by omega),if_neg h]
theorem lies_keep {d d' : DevM} {c : ZBlk} {ln L n : Nat} (h : lies d c ln) (hd : ∀ m r : Nat,r < 64->¬ (L<=m/\m < L + n)->d'.b (m * 193 + r) = d.b (m * 193 + r)) (ha : ln + c.spnN<=L ∨ L + n<=ln) : lies d' c ln := fun q hq => by
 rw [hd _ _ (by omega) (by omega)]; exact h q hq
theorem has_mono {p p' : ZPool} (h : ∀ L i j,p.at_ L i j->p'.at_ L i j/\p'.cls i = p.cls i) {L : Int} (hp : p.has L) : p'.has L := by
 obtain ⟨i,j,h1⟩ := hp
 exact ⟨i,j,(h _ _ _ h1).1⟩
theorem put_inB {b : ZBag} {e : ZEnt} {l : ZLn} {L : Int} (h : ZUse.inB ⟨b.put e,l,L⟩) : ZUse.inB ⟨b,l,L⟩ ∨ e.line = L ∨ e.anti = L := by
 obtain ⟨i,hi,hh⟩ := h
 unfold ZBag.put at hi hh
 by_cases hn : b.n < 258
 ·simp only [if_pos hn] at hi hh
  by_cases e : i = b.n
  ·simp only [if_pos e] at hh; exact .inr hh
  ·simp only [if_neg e] at hh; exact .inl ⟨i,by show i < b.n; omega,hh⟩
 ·simp only [if_neg hn] at hi hh; exact .inl ⟨i,hi,hh⟩
theorem bag_ok {b : ZBag} (h : b.ok) (e : ZEnt) : (b.put e).ok := by
 unfold ZBag.put
 split
 ·exact ⟨by show b.n + 1<=258; omega,fun h => nomatch h⟩
 ·exact h
theorem take_at {p : ZPool} (hp : p.good) {c : Int} {i k : Nat} (h : p.takes c i k) : ∀ L i' j',p.at_ L i' j'->(p.take c i k).at_ L i' j'/\(p.take c i k).cls i' = p.cls i' := fun _ _ _ hL => at_take hp h hL
def pushB (b : Nat->ZBlk) (n : Nat) (c : ZBlk) : Nat->ZBlk := fun i => if i = n then c else b i
theorem good_enq (g : Good a t N b) (hN : N<=900) (key v : ByteArray) (bb : ZBlk) (hv : v.size<=400) {i j : Nat} (h : a.p.takes (ned v.size) i j) : Good (ZRun.aE ⟨a,t,key,v,bb⟩ i j) t (N + 1) (pushB b a.l.n ⟨ned v.size,2,a.id + 1,a.ver + 1,1,⟨#[]⟩,v⟩) := by
 have hA := g.A (by omega)
 let x : ZRun := ⟨a,t,key,v,bb⟩
 have hc4 : x.c 4 = ned v.size := if_pos rfl
 have ht : x.a.p.takes (x.c 4) i j := by rw [hc4]; exact h
 have hcc := c4_ok (x := x) hv
 have hs := spn_cases (x.c 4)
 obtain ⟨p1,p2,p3⟩ := enq_pre (x := x) hA hv ht
 obtain ⟨l1,l2⟩ := takes_line hA.pg hcc ht
 have hsp : x.sp 4 = (spn (x.c 4)).toNat := rfl
 obtain ⟨d1,d2,d3⟩ := dW_ok (x := x) hA hv 4 hcc i j (x.sp 4) (by rw [hsp]; omega)
 have hb := dW_b (x := x) 4 i j (x.sp 4)
 have hbm := blk_may (x := x) hA hv i j
 obtain ⟨n1,n2⟩ := at_new hA.pg hcc.1 ht
 have hdst := g.dst
 have hnow : a.c.now = 1 := g.now
 let B : ZBlk := ⟨ned v.size,2,a.id + 1,a.ver + 1,1,⟨#[]⟩,v⟩
 have hB : (x.pb 4 i j x.f1).chg.blk = B := by
  show ZBlk.mk (x.c 4) 2 (a.id + 1) (a.ver + 1) a.c.now ⟨#[]⟩ v = B
  rw [hc4,hnow]
 have hBs : B.spnN = x.sp 4 := by show (spn (ned v.size)).toNat = _; rw [hsp,hc4]
 have eln : x.ln 4 i j = 2 + i * 8 + j * (spn (x.c 4)).toNat := rfl
 let D : DevM := (x.dW 4 i j (x.sp 4)).store (x.ln 4 i j) 0 64 B.enc
 have hD : (ZRun.aE x i j).d = D := by
  show (x.dW 4 i j (x.sp 4)).store (x.ln 4 i j) 0 64 (x.pb 4 i j x.f1).chg.blk.enc = D
  rw [hB]
 have hDb : ∀ m r : Nat,r < 64->¬ (x.ln 4 i j<=m/\m < x.ln 4 i j + x.sp 4)->D.b (m * 193 + r) = a.d.b (m * 193 + r) := fun m r hr hm => by
  show ((x.dW 4 i j (x.sp 4)).store (x.ln 4 i j) 0 64 B.enc).b (m * 193 + r) = _
  rw [store_b _ _ _ _ _ hr,if_neg (by rw [hsp] at hm; omega),hb m r hr,if_neg hm]
 have hDn : D.n = a.d.n := d2
 have hDok : D.ok := DevM.store_good d1 _ _ _ (enc_u8 (hB ▸ hbm)) (by rw [d3,hsp]; show a.d.st + _ + 1 < _; omega)
 have hnew : ZBy.ok ⟨D,B,x.ln 4 i j⟩ := by
  refine ⟨hDok,hB ▸ hbm,rfl,?_,fun q hq => ?_⟩
  ·show ((x.ln 4 i j : Nat) : Int) + spn (ned v.size)<=D.n
   rw [hDn,← hc4]; have := g.fit; have : x.a.p.n = a.p.n := rfl; omega
  ·show ((x.dW 4 i j (x.sp 4)).store (x.ln 4 i j) 0 64 B.enc).b ((x.ln 4 i j + q / 64) * 193 + q % 64) = B.enc q
   have hq : q < 64 * B.spnN := hq
   rw [hBs] at hq
   rw [store_b _ _ _ _ _ (by omega)]
   by_cases e : q / 64 = 0
   ·rw [if_pos (by omega),show q % 64 = q by omega]
   ·rw [if_neg (by omega),hb _ _ (by omega),if_pos (show x.ln 4 i j<=x.ln 4 i j + q / 64/\x.ln 4 i j + q / 64 < x.ln 4 i j + x.sp 4 by omega),if_neg (show ¬ x.ln 4 i j + q / 64 = x.ln 4 i j by omega),show 64 * (x.ln 4 i j + q / 64 - x.ln 4 i j) + q % 64 = q by omega]
    exact enc_dat (x := ⟨x.c 4,2,0,0,0,⟨#[]⟩,x.v⟩) (y := B) rfl rfl (by omega)
 have hpo := push_ok g.lok ⟨⟨#[]⟩,a.id + 1,a.ver + 1,(x.ln 4 i j : Nat),x.c 4⟩ g.lcap g.ln (by omega)
 have hln : (ZRun.aE x i j).l = a.l.push ⟨⟨#[]⟩,a.id + 1,a.ver + 1,(x.ln 4 i j : Nat),x.c 4⟩ := rfl
 have hno := notes_o a.c t (x.ln 4 i j : Nat) (fun k => (g.cok.2.2.2.2.2 k).1)
 have hs8 := (spnN_le B).1
 have hP : (ZRun.aE x i j).p = a.p.take (x.c 4) i j := rfl
 have hcc' : (ZRun.aE x i j).c = a.c.notes t (x.ln 4 i j : Nat) (x.pb 4 i j x.f1).chg.blk.spnN := rfl
 rw [hB] at hcc'
 have hgood : (a.p.take (x.c 4) i j).good := take_good hA.pg hcc ht
 refine { dok := by rw [hD]; exact hDok,dst := ?_,rok := g.rok,cok := ?_,tc := ?_,tr := g.tr,out := ?_,pg := hgood,fit := by rw [hD,hDn]; exact g.fit,bok := g.bok,lok := hpo.1,lcap := hpo.2,ln := ?_,id0 := ?_,id1 := ?_,v0 := ?_,v1 := ?_,nn := ?_,now := ?_,owed := fun k => ?_,used := fun L hL hu => ?_,nz := fun _ => Nat.succ_ne_zero _,q := fun m hm => ?_ }
 ·rw [hD]; show (x.dW 4 i j (x.sp 4)).st + 1<=_; rw [d3,hsp]; show a.d.st + _ + 1<=_; omega
 ·rw [hcc']; exact notes_ok g.cok (fun k => by have := g.owed k; omega) _ _ hs8
 ·rw [hcc',notes_t]; exact g.tc
 ·exact if_pos rfl
 ·rw [hln,push_n]; have := g.ln; omega
 ·show 0<=a.id + 1; have := g.id0; omega
 ·show a.id + 1<=_; have := g.id1; omega
 ·show 0<=a.ver + 1; have := g.v0; omega
 ·show a.ver + 1<=_; have := g.v1; omega
 ·show a.n + 1<=N + 1; have := g.nn; omega
 ·rw [hcc',notes_now]; exact g.now
 ·rw [hcc']; have := (hno B.spnN k).2; have := g.owed k; omega
 ·rcases hu with ⟨m,hm,hh⟩ | hu
  ·have hm : m < a.l.n + 1 := by rw [← push_n a.l ⟨⟨#[]⟩,a.id + 1,a.ver + 1,(x.ln 4 i j : Nat),x.c 4⟩]; exact hm
   have hh : ((a.l.push ⟨⟨#[]⟩,a.id + 1,a.ver + 1,(x.ln 4 i j : Nat),x.c 4⟩).get m).line = L := hh
   rw [push_get g.lok _ (by omega)] at hh
   by_cases e : m = a.l.n
   ·rw [if_pos e] at hh
    have hh : ((x.ln 4 i j : Nat) : Int) = L := hh
    exact ⟨i,j,by rw [← hh,eln]; rw [l1]; exact n1⟩
   ·rw [if_neg e] at hh
    exact has_mono (take_at hA.pg ht) (g.used L hL (.inl ⟨m,by show m < a.l.n; omega,hh⟩))
  ·exact has_mono (take_at hA.pg ht) (g.used L hL (.inr hu))
 ·have hm : m < a.l.n + 1 := by rw [← push_n a.l ⟨⟨#[]⟩,a.id + 1,a.ver + 1,(x.ln 4 i j : Nat),x.c 4⟩]; exact hm
  rw [hln,push_get g.lok _ (by omega),hD]
  unfold pushB
  by_cases e : m = a.l.n
  ·rw [if_pos e,if_pos e]
   exact ⟨x.ln 4 i j,by rw [hc4],hnew,i,j,by rw [eln,l1]; exact n1,n2.trans hc4⟩
  ·rw [if_neg e,if_neg e]
   obtain ⟨ln,q1,⟨q2,q3,q4,q5,q6⟩,i',j',q7,q8⟩ := g.q m (by omega)
   have hap := at_apart hA.pg hcc ht q7
   obtain ⟨q9,q10⟩ := take_at hA.pg ht _ _ _ q7
   have hsb := spnN_le (b m)
   have e1 : ((x.ln 4 i j : Nat) : Int) = 2 + i * 8 + j * spn (x.c 4) := by rw [eln]; exact l1
   rw [q8,← e1] at hap
   have hsq : (x.sp 4 : Int) = spn (x.c 4) := by rw [hsp]; omega
   exact ⟨ln,q1,⟨hDok,q3,q4,by show (ln : Int) + spn (b m).cls<=D.n; rw [hDn]; exact q5,lies_keep (c := b m) (ln := ln) (L := x.ln 4 i j) (n := x.sp 4) q6 hDb (by omega)⟩,i',j',q9,q10.trans q8⟩
theorem good_deq (g : Good a t N b) (hN : N<=900) (key v : ByteArray) (bb : ZBlk) (hv : v.size<=400) (hz : a.l.n ≠ 0) (hbb : bb = b 0) {i j : Nat} (h : a.p.takes 0 i j) : Good (ZRun.aD ⟨a,t,key,v,bb⟩ i j) t (N + 1) (fun m => b (m + 1)) := by
 have hA := g.A (by omega)
 let x : ZRun := ⟨a,t,key,v,bb⟩
 have hc5 : x.c 5 = 0 := if_neg (by decide)
 have hH := g.head hz
 obtain ⟨hn0,ln0,hh1,hh2,hh3,⟨bi,bj,hat,hbc⟩,hh4⟩ := id hH
 obtain ⟨p1,p2,p3⟩ := deq_pre (x := x) hA hv hz (fun _ => by show a.n ≠ 0/\∃ ln,HeadOk a bb ln; rw [hbb]; exact hH) h
 have h0 : (0 : Int)<=0/\(0 : Int)<=3 := by decide
 obtain ⟨l1,l2⟩ := takes_line hA.pg h0 h
 have hsp : x.sp 5 = 1 := by show (spn (x.c 5)).toNat = 1; rw [hc5]; rfl
 obtain ⟨d1,d2,d3⟩ := dW_ok (x := x) hA hv 5 (by rw [hc5]; exact h0) i j (x.sp 5) (by rw [hsp]; decide)
 have hb := dW_b (x := x) 5 i j (x.sp 5)
 have hBm : (x.pb 5 i j x.f2).chg.blkD.may := p1.2.2.2.2.2.1
 obtain ⟨n1,n2⟩ := at_new hA.pg h0.1 h
 have hdst := g.dst
 have eln : x.ln 5 i j = 2 + i * 8 + j * (spn 0).toNat := by show 2 + i * 8 + j * (spn (x.c 5)).toNat = _; rw [hc5]
 let B : ZBlk := (x.pb 5 i j x.f2).chg.blkD
 let D : DevM := (x.dW 5 i j (x.sp 5)).store (x.ln 5 i j) 0 64 B.enc
 have hD : (ZRun.aD x i j).d = D := rfl
 have hDb : ∀ m r : Nat,r < 64->¬ (x.ln 5 i j<=m/\m < x.ln 5 i j + 1)->D.b (m * 193 + r) = a.d.b (m * 193 + r) := fun m r hr hm => by
  show ((x.dW 5 i j (x.sp 5)).store (x.ln 5 i j) 0 64 B.enc).b (m * 193 + r) = _
  rw [store_b _ _ _ _ _ hr,if_neg (by omega),hb m r hr,if_neg (by rw [hsp]; exact hm)]
 have hDn : D.n = a.d.n := d2
 have hDok : D.ok := DevM.store_good d1 _ _ _ (enc_u8 hBm) (by rw [d3,hsp]; show a.d.st + ((1 : Nat) : Int) + 1 < _; omega)
 have hpo := pop_ok g.lok hz
 have hln : (ZRun.aD x i j).l = a.l.pop := rfl
 have hno := notes_o a.c t (x.ln 5 i j : Nat) (fun k => (g.cok.2.2.2.2.2 k).1)
 have hP : (ZRun.aD x i j).p = a.p.take 0 i j := by show a.p.take (x.c 5) i j = _; rw [hc5]
 have hcc' : (ZRun.aD x i j).c = a.c.notes t (x.ln 5 i j : Nat) 1 := rfl
 have hbag : (ZRun.aD x i j).b = a.b.put (x.pb 5 i j x.f2).chg.entD := rfl
 have hpn := pop_n hz
 refine { dok := by rw [hD]; exact hDok,dst := ?_,rok := g.rok,cok := ?_,tc := ?_,tr := g.tr,out := ?_,pg := by rw [hP]; exact take_good hA.pg h0 h,fit := by rw [hP,hD,hDn]; exact g.fit,bok := by rw [hbag]; exact bag_ok g.bok _,lok := hpo.1,lcap := by rw [hln,hpo.2]; have := g.lcap; omega,ln := ?_,id0 := g.id0,id1 := ?_,v0 := ?_,v1 := ?_,nn := ?_,now := ?_,owed := fun k => ?_,used := fun L hL hu => ?_,nz := fun _ => Nat.succ_ne_zero _,q := fun m hm => ?_ }
 ·rw [hD]; show (x.dW 5 i j (x.sp 5)).st + 1<=_; rw [d3,hsp]; show a.d.st + ((1 : Nat) : Int) + 1<=_; omega
 ·rw [hcc']; exact notes_ok g.cok (fun k => by have := g.owed k; omega) _ _ (by decide)
 ·rw [hcc',notes_t]; exact g.tc
 ·exact if_pos rfl
 ·rw [hln,hpn]; have := g.ln; omega
 ·show a.id<=_; have := g.id1; omega
 ·show 0<=a.ver + 1; have := g.v0; omega
 ·show a.ver + 1<=_; have := g.v1; omega
 ·show a.n + 1<=N + 1; have := g.nn; omega
 ·rw [hcc',notes_now]; exact g.now
 ·rw [hcc']; have := (hno 1 k).2; have := g.owed k; omega
 ·rw [hP]
  rcases hu with ⟨m,hm,hh⟩ | hu
  ·have hm : m < a.l.n - 1 := by rw [← hpn]; exact hm
   have hh : (a.l.pop.get m).line = L := hh
   rw [pop_get g.lok hz (by omega)] at hh
   exact has_mono (take_at hA.pg h) (g.used L hL (.inl ⟨m + 1,by show m + 1 < a.l.n; omega,hh⟩))
  ·have hu : ZUse.inB ⟨a.b.put (x.pb 5 i j x.f2).chg.entD,a.l.pop,L⟩ := hu
   rcases put_inB hu with hu | hu | hu
   ·exact has_mono (take_at hA.pg h) (g.used L hL (.inr hu))
   ·have hu : a.l.head.line = L := hu
    rw [hh3] at hu
    have hu : (ln0 : Int) = L := hu
    exact has_mono (take_at hA.pg h) ⟨bi,bj,by rw [← hu]; exact hat⟩
   ·have hu : ((x.ln 5 i j : Nat) : Int) = L := hu
    exact ⟨i,j,by rw [← hu,eln,l1]; exact n1⟩
 ·have hm : m < a.l.n - 1 := by rw [← hpn]; exact hm
  rw [hln,pop_get g.lok hz (by omega),hD,hP]
  obtain ⟨ln,q1,⟨q2,q3,q4,q5,q6⟩,i',j',q7,q8⟩ := g.q (m + 1) (by omega)
  have hap := at_apart hA.pg h0 h q7
  obtain ⟨q9,q10⟩ := take_at hA.pg h _ _ _ q7
  have hsb := spnN_le (b (m + 1))
  have e1 : ((x.ln 5 i j : Nat) : Int) = 2 + i * 8 + j * spn 0 := by rw [eln]; exact l1
  have hs0 : spn 0 = 1 := rfl
  rw [q8,← e1,hs0] at hap
  exact ⟨ln,q1,⟨hDok,q3,q4,by show (ln : Int) + spn (b (m + 1)).cls<=D.n; rw [hDn]; exact q5,lies_keep (c := b (m + 1)) (ln := ln) (L := x.ln 5 i j) (n := 1) q6 hDb (by omega)⟩,i',j',q9,q10.trans q8⟩
theorem good_new {n t T m : Nat} {d : DevM} (hd : d.ok) (hn : d.n = n) (hs : d.st = 2) (hm : n = 10 + 8 * m) (hm2 : m<=31) (hT : 1<=T/\T<=4) (ht : t < T) (b : Nat->ZBlk) : Good (newArn n T d) t 0 b where
 dok := hd
 dst := by show d.st<=_; rw [hs]; decide
 rok := ⟨hT.1,hT.2,show (1 : Int)<=1 by decide,show (1 : Int) < 4611686018427387904 by decide⟩
 cok := ⟨hT.1,hT.2,⟨show (0 : Int)<=0 + 1 by decide,show (0 : Int) + 1 < 4611686018427387904 by decide⟩,⟨Int.le_refl 0,show (0 : Int) < 4611686018427387904 by decide⟩,⟨Int.le_refl 0,show (0 : Int) < 4611686018427387904 by decide⟩,fun _ => ⟨Int.le_refl 0,show (0 : Int) < 1099511627776 by decide⟩⟩
 tc := ht
 tr := ht
 out := rfl
 pg := by
  refine ⟨⟨by show 1<=(n - 2) / 8; omega,by show (n - 2) / 8<=32; omega,fun i hi => ?_⟩,fun i hi => ?_⟩
  ·have hi : i < (n - 2) / 8 := hi
   show -1<=(if i < (n - 2) / 8 then (-1 : Int) else 0)/\(if i < (n - 2) / 8 then (-1 : Int) else 0)<=3/\(0 : Int)<=0/\(0 : Int)<=8
   rw [if_pos hi]; decide
  ·exact ⟨fun _ _ => rfl,fun k hk => (nomatch hk),(congrArg Int.ofNat (cnt8_none (fun _ => rfl) 8)).symm⟩
 fit := by show 2 + (n - 2) / 8 * 8<=d.n; omega
 bok := ⟨Nat.zero_le _,fun _ => rfl⟩
 lok := ⟨show 0 < 1099511627776 by decide,Nat.le_refl 0,Nat.le_refl 0,fun _ => rfl,fun h => absurd rfl h⟩
 lcap := Nat.zero_le _
 ln := Nat.le_refl 0
 id0 := Int.le_refl 0
 id1 := Int.le_refl 0
 v0 := Int.le_refl 0
 v1 := Int.le_refl 0
 nn := Nat.le_refl 0
 now := rfl
 owed := fun _ => Int.le_refl 0
 used := fun L _ hu => by
  rcases hu with ⟨i,hi,_⟩ | ⟨i,hi,_⟩ <;> exact absurd hi (Nat.not_lt_zero _)
 nz := fun h => absurd rfl h
 q := fun i hi => absurd hi (Nat.not_lt_zero _)
end
end Go.Proofs.YtpnhfbegboogbaaGreat
end
section
namespace Go.Proofs.YtpnhfbegboogbaaGreat
open Go SE
structure ZAns where
 code : Int
 found : Bool
 v : ByteArray
 ep : Int
 n : Nat
 a : ZArn
def ZAns.av (y : ZAns) : AV := .tup [ansA y.code y.found y.v y.ep,i64 y.n,boo true]
def resE (x : ZRun) (y : ZAns) : Prop :=
 (400 < x.v.size/\y.code = 5/\y.found = false/\y.v = ⟨#[]⟩/\y.a = x.a) ∨
 (x.v.size<=400/\(∀ i,i < x.a.p.n->x.a.p.cls i ≠ -1/\x.a.p.full (ned x.v.size) i)/\y.code = 4/\y.found = false/\y.v = ⟨#[]⟩/\y.a = x.a) ∨
 (x.v.size<=400/\y.code = 0/\y.found = false/\y.v = ⟨#[]⟩/\y.n = 4 + x.sp 4/\∃ i j,x.a.p.takes (ned x.v.size) i j/\y.a = x.aE i j)
def resD (x : ZRun) (y : ZAns) : Prop :=
 (x.a.l.n = 0/\y.code = 0/\y.found = false/\y.v = ⟨#[]⟩/\y.a = x.a) ∨
 (x.a.l.n ≠ 0/\(∀ i,i < x.a.p.n->x.a.p.cls i ≠ -1/\x.a.p.full 0 i)/\y.code = 4/\y.found = false/\y.v = ⟨#[]⟩/\y.a = x.a) ∨
 (x.a.l.n ≠ 0/\y.code = 0/\y.found = true/\y.v = x.b.value/\y.n = 6 + x.b.spnN/\∃ i j,x.a.p.takes 0 i j/\y.a = x.aD i j)
noncomputable def runEg : Ctr := { X := ZRun,args := fun x => [.ptr 0 0,i64 x.t,callA 4 x.key x.v],k := 1,os := fun x => [.abs (ownM x.a.os)],pre := fun x => Hd (GoodA x.a x.t),outs := [{ Y := ZAns,post := fun x y => Hd (resE x y),ret := fun _ y => y.av,m := 1,os := fun _ y => [.abs (ownM y.a.os)] }] }
noncomputable def runDg : Ctr := { X := ZRun,args := fun x => [.ptr 0 0,i64 x.t,callA 5 x.key x.v],k := 1,os := fun x => [.abs (ownM x.a.os)],pre := fun x => Hd (GoodA x.a x.t/\x.v.size<=400/\(x.a.l.n ≠ 0->x.a.n ≠ 0/\∃ ln,HeadOk x.a x.b ln)),outs := [{ Y := ZAns,post := fun x y => Hd (resD x y),ret := fun _ y => y.av,m := 1,os := fun _ y => [.abs (ownM y.a.os)] }] }
theorem outsP3 {X : Type} {x : X} {v : AV} {h' : Heap} {o p q : Out X} (h : outsP x v h' [o,p,q]) : (∃ y,o.post x y/\v = o.ret x y/\h' = hO o.m (o.os x y)) ∨ (∃ y,p.post x y/\v = p.ret x y/\h' = hO p.m (p.os x y)) ∨ ∃ y,q.post x y/\v = q.ret x y/\h' = hO q.m (q.os x y) := by
 rw [outsP_cons] at h
 rcases h with h | h
 ·exact .inl h
 ·exact .inr (outsP2 h)
theorem runEg_ok : CtrOk Tryz.prog 12 runEg := ctr_of fun x hx => by
 refine ⟨_,runE_ok,rfl,x,hx,rfl,rfl,fun v h' hh => ?_⟩
 have hc : x.c 4 = ned x.v.size := if_pos rfl
 rcases outsP3 hh with ⟨n,h0,h1,h2⟩ | ⟨n,h0,h1,h2⟩ | ⟨y,h0,h1,h2⟩
 ·exact outsI1 ⟨⟨5,false,⟨#[]⟩,0,n,x.a⟩,hd_iff.2 (.inl ⟨hd_iff.1 h0,rfl,rfl,rfl,rfl⟩),h1,h2⟩
 ·have h0 := hd_iff.1 h0
  exact outsI1 ⟨⟨4,false,⟨#[]⟩,0,n,x.a⟩,hd_iff.2 (.inr (.inl ⟨h0.1,by rw [← hc]; exact h0.2,rfl,rfl,rfl,rfl⟩)),h1,h2⟩
 ·have h0 := hd_iff.1 h0
  exact outsI1 ⟨⟨0,false,⟨#[]⟩,x.a.c.now,4 + x.sp 4,x.aE y.1 y.2⟩,hd_iff.2 (.inr (.inr ⟨h0.1,rfl,rfl,rfl,rfl,y.1,y.2,by rw [← hc]; exact h0.2,rfl⟩)),h1,h2⟩
theorem runDg_ok : CtrOk Tryz.prog 12 runDg := ctr_of fun x hx => by
 refine ⟨_,runD_ok,rfl,x,hx,rfl,rfl,fun v h' hh => ?_⟩
 rcases outsP3 hh with ⟨n,h0,h1,h2⟩ | ⟨n,h0,h1,h2⟩ | ⟨y,h0,h1,h2⟩
 ·exact outsI1 ⟨⟨0,false,⟨#[]⟩,0,n,x.a⟩,hd_iff.2 (.inl ⟨hd_iff.1 h0,rfl,rfl,rfl,rfl⟩),h1,h2⟩
 ·have h0 := hd_iff.1 h0
  exact outsI1 ⟨⟨4,false,⟨#[]⟩,0,n,x.a⟩,hd_iff.2 (.inr (.inl ⟨h0.1,h0.2,rfl,rfl,rfl,rfl⟩)),h1,h2⟩
 ·have h0 := hd_iff.1 h0
  exact outsI1 ⟨⟨0,true,x.b.value,x.a.c.now,6 + x.b.spnN,x.aD y.1 y.2⟩,hd_iff.2 (.inr (.inr ⟨h0.1,rfl,rfl,rfl,rfl,y.1,y.2,h0.2,rfl⟩)),h1,h2⟩
noncomputable def runT : WTr := fun args h K => match args with
 | [a,t,.agg l] => (bif decide (intL l 0 = 4) then ctrT runEg else ctrT runDg) [a,t,.agg l] h K
 | _ => False
theorem runT_ok (args : List AV) (h : Heap) (K : AV->Heap->Prop) (hq : runT args h K) : Sp Tryz.prog 12 args h K := by
 unfold runT at hq
 split at hq
 ·exact bif_ok _ (ctrT_ok runEg_ok) (ctrT_ok runDg_ok) _ _ _ hq
 ·exact hq.elim
noncomputable def openO (sh : ZArn->List AObj) (m r : Nat) : PCtr := { X := ZArn,args := fun _ => [.ptr 0 0],k := 1,l := fun a => [.m (sh a)],pre := fun _ => Hd True,outs := [{ Y := Unit,post := fun _ _ => True,ret := fun _ _ => .ptr r 0,m := m,l := fun a _ => (sh a).map PO.o }] }
noncomputable def startsN : Ctr := det ZStarts (fun x => [i64 x.k,i64 x.c]) 0 (fun _ => []) (fun x => Hd (x.k < 32/\x.c = -1)) (fun _ => nilS) 0 (fun _ => [])
theorem startsN_ok : CtrOk Tryz.prog 39 startsN := ctr_of fun x hx => by
 obtain ⟨h1,h2⟩ := hd_iff.1 hx
 have hs : spn x.c = 0 := by rw [h2]; rfl
 refine ⟨_,starts_ok,rfl,x,hd_iff.2 h1,rfl,rfl,fun v h' hh => ?_⟩
 rcases outsP2 hh with ⟨y,h0,h1,h2⟩ | ⟨y,h0,h1,h2⟩
 ·exact outsI1 ⟨(),trivial,h1,h2⟩
 ·exact absurd hs (hd_iff.1 h0)
noncomputable def annTk (p : ZPool) : FuncId->Anns := fun f => bif Nat.beq f 20 then (fun b _ _ => bif Nat.beq b 0 then [
 { σ := Nat,fr := fun i => [(11,i64 i),(3,nilS)],ob := fun _ => [],inv := fun i => Hd (i<=p.n),meas := fun i => p.n - i }] else []) else fun _ _ _ => []
noncomputable def awakeC : Ctr := det Unit (fun _ => []) 0 (fun _ => []) (fun _ => True) (fun _ => boo true) 0 (fun _ => [])
noncomputable def tblL0 : WTbl := [(10,ctrT newaP.ctr),(12,runT)]
end Go.Proofs.YtpnhfbegboogbaaGreat
end
section
namespace Go.Proofs.YtpnhfbegboogbaaGreat
open Go SE
def TZ_w1 : Prop := Value.slice none 0 0 = Value.slice none 0 0
def TZ_w2 : Prop := TZ_w1/\True
def TZ_w3 : Prop := TZ_w1/\TZ_w1/\TZ_w1/\TZ_w2
def TZ_w5 : Prop := ∃ y_3 : Unit,True/\true = false/\True
def TZ_w7 : Prop := ByteArray.mk #[] = ByteArray.mk #[]/\TZ_w2
def awake18VC (x : Unit) : Prop :=
 ∃ x_1 : ZNew,Hd (10<=x_1.n/\x_1.n<=258/\1<=x_1.t/\x_1.t<=4)/\((x_1.n : Int) = 10/\(x_1.t : Int) = 1/\True)/\True/\∀ y : DevM,Hd (y.ok/\y.n = x_1.n/\y.st = 2/\y.fl = 2/\y.fe = 1)->∃ x_2 : ZRun,Hd (GoodA x_2.a x_2.t)/\(0 = 0/\(x_2.t : Int) = 0/\((4 : Int) = 4/\x_2.key = ByteArray.mk #[]/\x_2.v = @ByteArray.mk (@List.toArray UInt8 [(120 : UInt8)])/\TZ_w7)/\True)/\(ownM x_2.a.os = ownM (ZArn.osN (newArn x_1.n x_1.t y))/\True)/\∀ y_1 : ZAns,Hd (resE x_2 y_1)->∃ x_3 : ZRun,Hd (GoodA x_3.a x_3.t/\x_3.v.size<=400/\(x_3.a.l.n ≠ 0->x_3.a.n ≠ 0/\∃ ln : Nat,@HeadOk x_3.a x_3.b ln))/\(0 = 0/\(x_3.t : Int) = 0/\((5 : Int) = 5/\x_3.key = ByteArray.mk #[]/\x_3.v = ByteArray.mk #[]/\TZ_w7)/\True)/\(ownM x_3.a.os = ownM y_1.a.os/\True)/\∀ y_2 : ZAns,Hd (resD x_3 y_2)->cP (BEq.beq (y_1.n : Int) (5 : Int)) (cP (BEq.beq y_1.code (0 : Int)) (cP (BEq.beq (y_2.n : Int) (7 : Int)) (cP y_2.found (∃ y_3 : Unit,True/\true = BEq.beq (ByteArray.toList y_2.v) (ByteArray.toList (@ByteArray.mk (@List.toArray UInt8 [(120 : UInt8)])))/\True) TZ_w5) TZ_w5) TZ_w5) TZ_w5
theorem awake18VC_ok (x : Unit) : awake18VC x = wpF Tryz.prog tblL0 tt (noA x) 200 6 9 (awakeC.args x) (hO 0 []) (fun v h' => endsP 0 x v h' awakeC.outs) := by kernel_rfl
def poolOVC (x : ZArn) : Prop :=
 ∃ y : Unit,True/\0 = 0/\(0 = 0/\0 = 0/\0 = 0/\0 = 0/\0 = 0/\0 = 0/\0 = 0/\0 = 0/\x.id = x.id/\x.ver = x.ver/\TZ_w2)/\(0 = 0/\(1 : Int) = 1/\(0 : Int) = 0/\(0 : Int) = 0/\True)/\ownM x.d.os = ownM x.d.os/\ownM x.p.os = ownM x.p.os/\ownM x.r.os = ownM x.r.os/\ownM (x.c.os 0) = ownM (x.c.os 0)/\ownM x.b.os = ownM x.b.os/\ownM tabE = ownM tabE/\TZ_w3/\ownM x.l.os = ownM x.l.os/\True
theorem poolOVC_ok (x : ZArn) : poolOVC x = wpF Tryz.prog [] tt (noA x) 200 6 19 ((openO ZArn.osN 10 3).args x) (hO 10 (flatP 1 ((openO ZArn.osN 10 3).l x))) (fun v h' => endsPK 1 x v h' (openO ZArn.osN 10 3).outs) := by kernel_rfl
end Go.Proofs.YtpnhfbegboogbaaGreat
end
section
namespace Go.Proofs.YtpnhfbegboogbaaGreat
open Go SE
set_option linter.unusedSimpArgs false
structure ZSm where
 n : Nat
 m : Nat
 g : Nat->ByteArray
 h : Nat->ByteArray
noncomputable def ZSm.same (x : ZSm) : Bool := hide (@decide (x.n = x.m/\∀ i,i < x.n->x.g i = x.h i) (Classical.propDecidable _))
theorem same_iff {x : ZSm} : x.same = true ↔ x.n = x.m/\∀ i,i < x.n->x.g i = x.h i := by unfold ZSm.same; rw [hide_eq]; exact @decide_eq_true_iff _ (Classical.propDecidable _)
def rowT (n : Nat) (g : Nat->ByteArray) : AObj := .ro (.row 1 n (fun i => [.string (g i)]) [])
noncomputable def sameC : Ctr := det ZSm (fun x => [.slR 0 0 1 x.n,.slR 1 0 1 x.m]) 2 (fun x => [rowT x.n x.g,rowT x.m x.h]) (fun x => Hd (x.n < 1099511627776)) (fun x => boo x.same) 2 (fun x => [rowT x.n x.g,rowT x.m x.h])
def annSm (x : ZSm) : FuncId->Anns := fun f => bif Nat.beq f 21 then (fun b _ _ => bif Nat.beq b 0 then [
 { σ := Nat,fr := fun i => [(5,i64 i)],ob := fun _ => [],inv := fun i => Hd (i<=x.n/\x.n = x.m/\∀ k,k < i->x.g k = x.h k),meas := fun i => x.n - i }] else []) else fun _ _ _ => []
structure ZStS where
 a : ZArn
 b : Nat->ZBlk
noncomputable def shelfZ : ZCtr := { X := ZStS,args := fun _ => [.ptr 0 0],a := ZStS.a,k := 1,ex := fun _ => [],pre := fun x => Hd (x.a.l.ok/\x.a.l.n < 1099511627776/\qok x.a.d x.a.l x.b),outs := [
 { Y := Unit,post := fun x _ => Hd (x.a.l.n = 0),ret := fun _ _ => .agg [nilS,nilS],a := fun x _ => x.a,m := 1,ex := fun _ _ => [] },
 { Y := Unit,post := fun x _ => Hd (x.a.l.n ≠ 0),ret := fun x _ => .agg [nilS,.slW 1 0 1 x.a.l.n],a := fun x _ => x.a,m := 2,ex := fun x _ => [rowS x.b x.a.l.n] }] }
end Go.Proofs.YtpnhfbegboogbaaGreat
end
section
namespace Go.Proofs.YtpnhfbegboogbaaGreat
open Go SE
def LB_w9 : Prop := Value.slice none 0 0 = Value.slice none 0 0
def LB_w1 (a : ZArn) (b : ZSh) : Prop := (0 = 0/\(1 : Int) = 1/\(0 : Int) = 0/\(0 : Int) = 0/\True)/\ownM a.d.os = ownM b.d.os/\ownM a.p.os = ownM a.p.os/\ownM a.r.os = ownM a.r.os/\ownM (a.c.os 0) = ownM (a.c.os 0)/\ownM a.b.os = ownM a.b.os/\ownM tabE = ownM tabE/\(LB_w9/\LB_w9/\LB_w9/\LB_w9/\True)/\ownM a.l.os = ownM b.l.os/\(a.n = a.n/\∀ q : Nat,q < a.n->[Value.int .i64 (ZEff.kind (a.e q)),Value.string (ZEff.key (a.e q)),Value.string (ZEff.value (a.e q)),Value.int .u64 (ZEff.id (a.e q)),Value.int .u64 (ZEff.ver (a.e q)),Value.int .u64 (ZEff.epoch (a.e q)),Value.int .i64 (ZEff.group (a.e q))] = [Value.int .i64 (ZEff.kind (a.e q)),Value.string (ZEff.key (a.e q)),Value.string (ZEff.value (a.e q)),Value.int .u64 (ZEff.id (a.e q)),Value.int .u64 (ZEff.ver (a.e q)),Value.int .u64 (ZEff.epoch (a.e q)),Value.int .i64 (ZEff.group (a.e q))])/\True
def LB_w10 (a : ZArn) (b : ZSh) : Prop := (0 = 0/\(1 : Int) = 1/\(0 : Int) = 0/\(0 : Int) = 0/\True)/\ownM a.d.os = ownM b.d.os/\ownM a.p.os = ownM a.p.os/\ownM a.r.os = ownM a.r.os/\ownM (a.c.os 0) = ownM (a.c.os 0)/\ownM a.b.os = ownM a.b.os/\ownM tabE = ownM tabE/\(LB_w9/\LB_w9/\LB_w9/\LB_w9/\True)/\ownM a.l.os = ownM b.l.os/\True
def LB_w16 (a : ZSm) : Prop := Cs.row 1 a.m (fun (i : Nat) => [Value.string (a.h i)]) (@List.nil (Prod Nat (List Value))) = Cs.row 1 a.m (fun (i : Nat) => [Value.string (a.h i)]) (@List.nil (Prod Nat (List Value)))
def LB_w15 (a : ZSm) : Prop := Cs.row 1 a.n (fun (i : Nat) => [Value.string (a.g i)]) (@List.nil (Prod Nat (List Value))) = Cs.row 1 a.n (fun (i : Nat) => [Value.string (a.g i)]) (@List.nil (Prod Nat (List Value)))
def LB_w12 (a : ZSm) : Prop := (LB_w15 a/\true = true)/\(LB_w16 a/\true = true)/\True
def LB_w17 (a : ZArn) : Prop := 0 = 0/\0 = 0/\0 = 0/\0 = 0/\0 = 0/\0 = 0/\0 = 0/\0 = 0/\a.id = a.id/\a.ver = a.ver/\(0 = 0/\a.n = a.n)/\True
def LB_w19 (a : ZArn) : Prop := 0 = 0/\0 = 0/\0 = 0/\0 = 0/\0 = 0/\0 = 0/\0 = 0/\0 = 0/\a.id = a.id/\a.ver = a.ver/\LB_w9/\True
def LB_w23 (a : ZSh) (b : ZArn) : Prop := (0 = 0/\True/\True/\True/\True/\0 = 0/\True/\0 = 0/\True/\True/\True/\True)/\(0 = 0/\True/\True/\True/\True)/\ownM a.d.os = ownM b.d.os/\ownM tabE = ownM tabE/\ownM a.l.os = ownM b.l.os/\True
def LB_w25 (a : Nat) (b : ZSm) : Prop := Hd (a<=b.n/\b.n = b.m/\∀ k : Nat,k < a->b.g k = b.h k)
def LB_w26 (a : ZStS) (b : ZSh) : Prop := a.a.l.n = b.l.n/\∀ q : Nat,q < a.a.l.n->[Value.string (ZBlk.value (a.b q))] = [Value.string (ZBlk.value (b.b q))]
def sameTVC (x : ZSm) : Prop :=
 cP (bne (x.n : Int) (x.m : Int)) (∃ y : Unit,True/\x.same = false/\LB_w12 x) ((∃ s : Nat,LB_w25 s x/\True/\((s : Int) = 0/\True)/\(LB_w16 x/\true = true)/\(LB_w15 x/\true = true)/\True)/\(∀ s : Nat,LB_w25 s x->cP (decide ((s : Int) < (x.n : Int))) ((0<=(s : Int)/\(s : Int) < (x.n : Int))/\0 + s < x.n/\(0<=(s : Int)/\(s : Int) < (x.m : Int))/\0 + s < x.m/\cP (Bool.not (BEq.beq (ByteArray.toList (x.g (0 + s))) (ByteArray.toList (x.h (0 + s))))) (∃ y : Unit,True/\x.same = false/\LB_w12 x) (I64 ((s : Int) + 1)/\∃ s_1 : Nat,LB_w25 s_1 x/\x.n - s_1 < x.n - s/\((s_1 : Int) = (s : Int) + 1/\True)/\(LB_w16 x/\true = true)/\(LB_w15 x/\true = true)/\True)) (∃ y : Unit,True/\x.same = true/\LB_w12 x))/\True)
theorem sameTVC_ok (x : ZSm) : sameTVC x = wpF Tryz.prog [] tt (annSm x) 200 6 21 (sameC.args x) (hO 2 (sameC.os x)) (fun v h' => endsP 2 x v h' sameC.outs) := by kernel_rfl
def shelfZNVC (x : ZStS) : Prop :=
 ∃ x_1 : ZSh,Hd (x_1.l.ok/\x_1.l.n < 1099511627776/\qok x_1.d x_1.l x_1.b)/\(0 = 0/\True)/\LB_w23 x_1 x.a/\(∀ y : Unit,Hd (x_1.l.n = 0)->(∃ y_1 : Unit,Hd (x.a.l.n = 0)/\(LB_w9/\LB_w9/\True)/\LB_w19 x.a/\LB_w10 x.a x_1) ∨ ∃ y_1 : Unit,Hd (x.a.l.n ≠ 0)/\False)/\∀ y : Unit,Hd (x_1.l.n ≠ 0)->(∃ y_1 : Unit,Hd (x.a.l.n = 0)/\(LB_w9/\False/\True)/\LB_w19 x.a/\LB_w10 x.a x_1) ∨ ∃ y_1 : Unit,Hd (x.a.l.n ≠ 0)/\(LB_w9/\(0 = 0/\x.a.l.n = x_1.l.n)/\True)/\LB_w19 x.a/\LB_w26 x x_1/\LB_w10 x.a x_1
theorem shelfZNVC_ok (x : ZStS) : shelfZNVC x = ctrT shelfS (shelfZ.N.args x) (hO 10 (flatP 1 (shelfZ.N.l x))) (fun v h' => endsPK 1 x v h' shelfZ.N.outs) := by kernel_rfl
def shelfZPVC (x : ZStS) : Prop :=
 ∃ x_1 : ZSh,Hd (x_1.l.ok/\x_1.l.n < 1099511627776/\qok x_1.d x_1.l x_1.b)/\(0 = 0/\True)/\LB_w23 x_1 x.a/\(∀ y : Unit,Hd (x_1.l.n = 0)->(∃ y_1 : Unit,Hd (x.a.l.n = 0)/\(LB_w9/\LB_w9/\True)/\LB_w17 x.a/\LB_w1 x.a x_1) ∨ ∃ y_1 : Unit,Hd (x.a.l.n ≠ 0)/\False)/\∀ y : Unit,Hd (x_1.l.n ≠ 0)->(∃ y_1 : Unit,Hd (x.a.l.n = 0)/\(LB_w9/\False/\True)/\LB_w17 x.a/\LB_w1 x.a x_1) ∨ ∃ y_1 : Unit,Hd (x.a.l.n ≠ 0)/\(LB_w9/\(0 = 0/\x.a.l.n = x_1.l.n)/\True)/\LB_w17 x.a/\LB_w26 x x_1/\LB_w1 x.a x_1
theorem shelfZPVC_ok (x : ZStS) : shelfZPVC x = ctrT shelfS (shelfZ.P.args x) (hO 11 (flatP 1 (shelfZ.P.l x))) (fun v h' => endsPK 1 x v h' shelfZ.P.outs) := by kernel_rfl
end Go.Proofs.YtpnhfbegboogbaaGreat
end
section
namespace Go.Proofs.YtpnhfbegboogbaaGreat
open Go SE
set_option linter.unusedSimpArgs false
theorem sameTVC_true (x : ZSm) (hx : x.n < 1099511627776) : sameTVC x := by
 have hF : ¬ (x.n = x.m/\∀ i,i < x.n->x.g i = x.h i)->x.same = false := fun h => by
  cases hs : x.same with
  | true => exact absurd (same_iff.1 hs) h
  | false => rfl
 unfold sameTVC
 simp only [LB_w12,LB_w25,LB_w16,LB_w15]
 simp only [hd_iff,and_true,true_and,Nat.zero_add,Nat.add_zero,unit_ex,unit_all,true_implies,implies_true,Int.toNat_natCast,eq_self,and_self,eff_nil,cond_one,cond_int,ones_int,row_int,ones_bool,row_bool,cond_bool,ble0,Bool.true_and,Nat.sub_zero,List.getElem?_cons_zero,Option.some.injEq,Value.bool.injEq,Value.int.injEq,exists_eq_left',exists_eq_left]
 refine cP_intro (fun h => hF fun hh => ?_) fun h => ?_
 ·have := bne_iff_ne.1 h; omega
 ·have hnm : x.n = x.m := by have := bne_eq_false_iff_eq.1 h; omega
  refine ⟨⟨0,⟨Nat.zero_le _,hnm,fun k hk => absurd hk (Nat.not_lt_zero k)⟩,rfl⟩,fun s hs => cP_intro (fun h => ?_) fun h => ?_⟩
  ·have h := of_decide_eq_true h
   refine ⟨⟨by omega,by omega⟩,by omega,⟨by omega,by omega⟩,by omega,cP_intro (fun he => hF fun hh => ?_) fun he => ⟨by unfold I64; omega,s + 1,⟨by omega,hnm,fun k hk => ?_⟩,by omega,by omega⟩⟩
   ·have := (toL_eq _ _).2 (hh.2 s (by omega))
    rw [this] at he; cases he
   ·by_cases e : k = s
    ·subst e; exact (toL_eq _ _).1 (by simpa using he)
    ·exact hs.2.2 k (by omega)
  ·have h := of_decide_eq_false h
   exact same_iff.2 ⟨hnm,fun i hi => hs.2.2 i (by omega)⟩
theorem same_ok : CtrOk Tryz.prog 21 sameC := det_end tt_ok mixed .nil annSm 200 6 (fun _ => rfl) (fun _ => rfl) fun x hx => Eq.mp (sameTVC_ok x) (sameTVC_true x (hd_iff.1 hx))
noncomputable def sameT : WTr := fun args h K => match args with
 | [.lit v,b] => wpF Tryz.prog [] tt noAn0 200 6 21 [.lit v,b] h K
 | [a,.lit v] => wpF Tryz.prog [] tt noAn0 200 6 21 [a,.lit v] h K
 | args => ctrT sameC args h K
theorem sameT_ok (args : List AV) (h : Heap) (K : AV->Heap->Prop) (hq : sameT args h K) : Sp Tryz.prog 21 args h K := by
 unfold sameT at hq
 split at hq
 ·exact wpF_ok tt_ok mixed .nil _ _ _ _ _ _ _ hq
 ·exact wpF_ok tt_ok mixed .nil _ _ _ _ _ _ _ hq
 ·exact ctrT_ok same_ok _ _ _ hq
theorem shelfZNVC_true (x : ZStS) (hx : shelfZ.pre x) : shelfZNVC x := by
 have hx := hd_iff.1 hx
 unfold shelfZNVC
 simp only [LB_w23,LB_w9,LB_w19,LB_w10,LB_w26]
 simp only [hd_iff,and_true,true_and,Nat.zero_add,Nat.add_zero,unit_ex,unit_all,true_implies,implies_true,Int.toNat_natCast,eq_self,and_self,eff_nil,cond_one,cond_int,ones_int,row_int,ones_bool,row_bool,cond_bool,ble0,Bool.true_and,Nat.sub_zero,List.getElem?_cons_zero,Option.some.injEq,Value.bool.injEq,Value.int.injEq,exists_eq_left',exists_eq_left]
 refine ⟨⟨x.a.d,x.a.l,x.b⟩,hx,?_⟩
 simp only [hd_iff,and_true,true_and,Nat.zero_add,Nat.add_zero,unit_ex,unit_all,true_implies,implies_true,Int.toNat_natCast,eq_self,and_self,eff_nil,cond_one,cond_int,ones_int,row_int,ones_bool,row_bool,cond_bool,ble0,Bool.true_and,Nat.sub_zero,List.getElem?_cons_zero,Option.some.injEq,Value.bool.injEq,Value.int.injEq,exists_eq_left',exists_eq_left]
 exact ⟨fun h => .inl h,fun h => .inr h⟩
theorem shelfZPVC_true (x : ZStS) (hx : shelfZ.pre x) : shelfZPVC x := by
 have hx := hd_iff.1 hx
 unfold shelfZPVC
 simp only [LB_w23,LB_w9,LB_w17,LB_w1,LB_w26]
 simp only [hd_iff,and_true,true_and,Nat.zero_add,Nat.add_zero,unit_ex,unit_all,true_implies,implies_true,Int.toNat_natCast,eq_self,and_self,eff_nil,cond_one,cond_int,ones_int,row_int,ones_bool,row_bool,cond_bool,ble0,Bool.true_and,Nat.sub_zero,List.getElem?_cons_zero,Option.some.injEq,Value.bool.injEq,Value.int.injEq,exists_eq_left',exists_eq_left]
 refine ⟨⟨x.a.d,x.a.l,x.b⟩,hx,?_⟩
 simp only [hd_iff,and_true,true_and,Nat.zero_add,Nat.add_zero,unit_ex,unit_all,true_implies,implies_true,Int.toNat_natCast,eq_self,and_self,eff_nil,cond_one,cond_int,ones_int,row_int,ones_bool,row_bool,cond_bool,ble0,Bool.true_and,Nat.sub_zero,List.getElem?_cons_zero,Option.some.injEq,Value.bool.injEq,Value.int.injEq,exists_eq_left',exists_eq_left]
 exact ⟨fun h => .inl h,fun h => .inr h⟩
theorem shelfN_ok : CtrOk Tryz.prog 22 shelfZ.N.ctr := pctr_endT (ctrT_ok shelfS_ok) 10 (fun _ => ⟨rfl,rfl,rfl,rfl⟩) fun x hx => Eq.mp (shelfZNVC_ok x) (shelfZNVC_true x hx.1)
theorem shelfP_ok : CtrOk Tryz.prog 22 shelfZ.P.ctr := pctr_endT (ctrT_ok shelfS_ok) 11 (fun _ => ⟨rfl,rfl,rfl,rfl⟩) fun x hx => Eq.mp (shelfZPVC_ok x) (shelfZPVC_true x hx.1)
theorem shelfM_ok : CtrOk Tryz.prog 22 shelfZ.M.ctr := glue2 (fun _ => ⟨fun _ => rfl,fun _ => rfl,trivial⟩) shelfN_ok shelfP_ok
theorem fresh_takes {n : Nat} {c : Int} (hc : 0<=c) {i k : Nat} (h : (newPool n n).takes c i k) : i = 0/\k = 0 := by
 obtain ⟨h1,h2,h3,h4⟩ := h
 have h1 : i < n := h1
 have cl : ∀ j,j < n->(newPool n n).cls j = -1 := fun j hj => if_pos hj
 rcases h4 with ⟨h4,_⟩ | ⟨h4,h5,_,h6⟩
 ·rw [cl i h1] at h4; omega
 ·refine ⟨?_,h5⟩
  rcases Nat.eq_zero_or_pos i with h | h
  ·exact h
  ·exact absurd (cl 0 (by omega)) (h6 0 h)
theorem fresh_room {n : Nat} (hn : 0 < n) {c : Int} : ¬ ∀ i,i < (newPool n n).n->(newPool n n).cls i ≠ -1/\(newPool n n).full c i := fun h => (h 0 hn).1 (if_pos hn)
def zB : ZBlk := ⟨0,0,0,0,0,⟨#[]⟩,⟨#[]⟩⟩
theorem new_own (n T : Nat) (d : DevM) : ownM (newArn n T d).os = ownM (newArn n T d).osN := by rw [arn_osN rfl]
theorem awake18VC_true (u : Unit) : awake18VC u := by
 unfold awake18VC
 simp only [TZ_w7,TZ_w5,TZ_w2,TZ_w1]
 simp only [hd_iff,and_true,true_and,Nat.zero_add,Nat.add_zero,unit_ex,unit_all,true_implies,implies_true,Int.toNat_natCast,eq_self,and_self,eff_nil,cond_one,cond_int,ones_int,row_int,ones_bool,row_bool,cond_bool,ble0,Bool.true_and,Nat.sub_zero,List.getElem?_cons_zero,Option.some.injEq,Value.bool.injEq,Value.int.injEq,exists_eq_left',exists_eq_left]
 refine ⟨⟨10,1⟩,by decide,⟨rfl,rfl⟩,fun d hd => ?_⟩
 have g0 := good_new (n := 10) (t := 0) (T := 1) (m := 0) hd.1 hd.2.1 hd.2.2.1 rfl (by decide) (by decide) (by decide) (fun _ => zB)
 refine ⟨⟨newArn 10 1 d,0,⟨#[]⟩,⟨#[120]⟩,zB⟩,g0.A (by decide),⟨rfl,rfl,rfl⟩,new_own _ _ _,fun y1 h1 => ?_⟩
 rcases h1 with ⟨h,_⟩ | ⟨_,h,_⟩ | ⟨hv,c1,c2,c3,c4,i,j,ht,c5⟩
 ·exact absurd (show 400 < 1 from h) (by decide)
 ·exact absurd h (fresh_room (n := 1) (by decide))
 have g1 := good_enq g0 (by decide) ⟨#[]⟩ ⟨#[120]⟩ zB hv ht
 rw [← c5] at g1
 obtain ⟨rfl,rfl⟩ := fresh_takes (n := 1) (show (0 : Int)<=ned (1 : Nat) by decide) ht
 have hn1 : y1.a.l.n = 1 := by rw [c5]; exact push_n _ _
 let B := pushB (fun _ => zB) (newArn 10 1 d).l.n ⟨ned (ByteArray.size ⟨#[120]⟩),2,(newArn 10 1 d).id + 1,(newArn 10 1 d).ver + 1,1,⟨#[]⟩,⟨#[120]⟩⟩
 refine ⟨⟨y1.a,0,⟨#[]⟩,⟨#[]⟩,B 0⟩,⟨g1.A (by decide),Nat.zero_le _,fun hz => g1.head hz⟩,⟨rfl,rfl,rfl⟩,rfl,fun y2 h2 => ?_⟩
 rcases h2 with ⟨h,_⟩ | ⟨_,h,_⟩ | ⟨_,e1,e2,e3,e4,_⟩
 ·exact absurd (hn1.symm.trans h) (by decide)
 ·exfalso
  have hp : y1.a.p = (newPool 1 1).take 0 0 0 := by rw [c5]; rfl
  have h := (h 0 (by rw [hp]; show 0 < 1; decide)).2
  rw [hp] at h
  have := h rfl 1 (by decide)
  cases this
 ·have e5 : y1.n = 5 := c4
  have e6 : y2.n = 7 := e4
  have e7 : y2.v = ⟨#[120]⟩ := e3
  rw [e5,e6,e7,c1,e2]
  exact cP_intro (fun _ => cP_intro (fun _ => cP_intro (fun _ => (beq_self_eq_true _).symm) fun h => absurd h (by decide)) fun h => absurd h (by decide)) fun h => absurd h (by decide)
theorem tblL0_ok : TblOk Tryz.prog tblL0 := .cons (ctrT_ok newa_ok) (.cons runT_ok .nil)
theorem awake_ok : CtrOk Tryz.prog 9 awakeC := det_end tt_ok mixed tblL0_ok noA 200 6 (fun _ => rfl) (fun _ => rfl) fun x _ => Eq.mp (awake18VC_ok x) (awake18VC_true x)
def awakeT : WTr := fun args h K => match args with
 | [] => K (boo true) h
 | _ => False
theorem awakeT_ok (args : List AV) (h : Heap) (K : AV->Heap->Prop) (hq : awakeT args h K) : Sp Tryz.prog 9 args h K := by
 unfold awakeT at hq
 split at hq
 ·exact det_pure awake_ok () trivial h rfl rfl hq
 ·exact hq.elim
theorem poolOVC_true (x : ZArn) : poolOVC x := by
 unfold poolOVC
 simp only [TZ_w2,TZ_w3,TZ_w1]
 simp only [hd_iff,and_true,true_and,Nat.zero_add,Nat.add_zero,unit_ex,unit_all,true_implies,implies_true,Int.toNat_natCast,eq_self,and_self,eff_nil,cond_one,cond_int,ones_int,row_int,ones_bool,row_bool,cond_bool,ble0,Bool.true_and,Nat.sub_zero,List.getElem?_cons_zero,Option.some.injEq,Value.bool.injEq,Value.int.injEq,exists_eq_left',exists_eq_left]
theorem poolO_ok : CtrOk Tryz.prog 19 (openO ZArn.osN 10 3).ctr := pctr_end tt_ok mixed .nil 10 noA 200 6 (fun _ => ⟨rfl,rfl,rfl,rfl⟩) fun x _ => Eq.mp (poolOVC_ok x) (poolOVC_true x)
noncomputable def tblL : WTbl := [(9,awakeT),(10,ctrT newaP.ctr),(12,runT)]
noncomputable def tblLt : WTbl := tblL ++ [(21,sameT),(22,ctrT shelfZ.M.ctr)]
theorem tblL_ok : TblOk Tryz.prog tblL := .cons awakeT_ok (.cons (ctrT_ok newa_ok) (.cons runT_ok .nil))
theorem tblLt_ok : TblOk Tryz.prog tblLt := .append tblL_ok (.cons sameT_ok (.cons (ctrT_ok shelfM_ok) .nil))
structure ZTu where
 lines : Int
 n : Nat
 g : Nat->ByteArray
 m : Nat
 h : Nat->Bool
def ZTu.os (x : ZTu) : List AObj := [rowT x.n x.g,.ro (.row 1 x.m (fun i => [.bool (x.h i)]) [])]
structure ZTn where
 i : Nat
 a : ZArn
 b : Nat->ZBlk
noncomputable def annTu (x : ZTu) : FuncId->Anns := fun f => bif Nat.beq f 5 then (fun b _ _ => bif Nat.beq b 0 then [
 { σ := ZTn,fr := fun s => [(10,i64 s.i),(9,nilS)],ob := fun s => [(2,some (.abs (ownM s.a.os)))],inv := fun s => Hd (s.i<=x.n/\Good s.a 0 s.i s.b/\s.a.l.n = 0),meas := fun s => x.n - s.i,test := fun fr _ => (match SE.look fr 9 with | .slW _ _ _ _ => false | _ => true) },
 { σ := ZTn,fr := fun s => [(10,i64 s.i),(9,.slW 3 0 1 s.a.l.n)],ob := fun s => [(2,some (.abs (ownM s.a.os))),(3,some (rowS s.b s.a.l.n))],nx := 1,inv := fun s => Hd (s.i<=x.n/\Good s.a 0 s.i s.b/\s.a.l.n ≠ 0),meas := fun s => x.n - s.i,test := fun fr _ => (match SE.look fr 9 with | .slW _ _ _ _ => true | _ => false) }] else []) else fun _ _ _ => []
end Go.Proofs.YtpnhfbegboogbaaGreat
end
section
namespace Go.Proofs.YtpnhfbegboogbaaGreat
open Go SE
def LD_w4 (a : ZTu) : Prop := Cs.row 1 a.m (fun (i : Nat) => [Value.bool (a.h i)]) (@List.nil (Prod Nat (List Value))) = Cs.row 1 a.m (fun (i : Nat) => [Value.bool (a.h i)]) (@List.nil (Prod Nat (List Value)))
def LD_w3 (a : ZTu) : Prop := Cs.row 1 a.n (fun (i : Nat) => [Value.string (a.g i)]) (@List.nil (Prod Nat (List Value))) = Cs.row 1 a.n (fun (i : Nat) => [Value.string (a.g i)]) (@List.nil (Prod Nat (List Value)))
def LD_w1 (a : ZTu) : Prop := (LD_w3 a/\true = true)/\(LD_w4 a/\true = true)/\True
def LD_w2 (a : ZTu) : Prop := true = false/\LD_w1 a
def LD_w6 (a : ZTu) : Prop := (LD_w4 a/\true = true)/\(LD_w3 a/\true = true)/\True
def LD_w5 (a : ZArn) (b : ZArn) (c : ZTu) : Prop := ownM a.os = ownM b.os/\LD_w6 c
def LD_w43 (a : ZStS) : Prop := Hd (a.a.l.ok/\a.a.l.n < 1099511627776/\qok a.a.d a.a.l a.b)/\True
def LD_w48 (a : ZArn) (b : ZArn) : Prop := ownM a.os = ownM b.os/\True
def LD_w44 (a : ZSm) (b : ZStS) : Prop := a.n = b.a.l.n/\∀ q : Nat,q < a.n->[Value.string (a.g q)] = [Value.string (ZBlk.value (b.b q))]
def LD_w54 (a : ZTn) (b : ZTn) : Prop := a.a.l.n = b.a.l.n/\∀ q : Nat,q < a.a.l.n->[Value.string (ZBlk.value (a.b q))] = [Value.string (ZBlk.value (b.b q))]
def LD_w58 (a : Nat) (b : Nat) : Prop := (a : Int) = (b : Int) + 1
def LD_w47 (a : ZTn) (b : Nat) : Prop := Hd (a.i<=b/\Good a.a 0 a.i a.b/\a.a.l.n ≠ 0)
def LD_w41 (a : ZTn) (b : ZTu) (c : ZArn) : Prop := I64 ((a.i : Int) + 1)/\∃ s_1 : ZTn,LD_w47 s_1 b.n/\b.n - s_1.i < b.n - a.i/\(LD_w58 s_1.i a.i/\(0 = 0/\s_1.a.l.n = a.a.l.n)/\True)/\LD_w54 s_1 a/\LD_w5 s_1.a c b
def LD_w8 (a : ZArn) (b : ZTn) (c : ZTu) : Prop := ∃ x_3 : ZStS,LD_w43 x_3/\(0 = 0/\True)/\LD_w48 x_3.a a/\(∀ y_2 : Unit,Hd (x_3.a.l.n = 0)->cP (bne (0 : Int) (b.a.l.n : Int)) (LD_w2 c) (LD_w41 b c x_3.a))/\∀ y_2 : Unit,Hd (x_3.a.l.n ≠ 0)->∃ x_4 : ZSm,Hd (x_4.n < 1099511627776)/\((0 = 0/\x_4.n = x_3.a.l.n)/\(0 = 0/\x_4.m = b.a.l.n)/\True)/\(LD_w44 x_4 x_3/\(x_4.m = b.a.l.n/\∀ q : Nat,q < x_4.m->[Value.string (x_4.h q)] = [Value.string (ZBlk.value (b.b q))])/\True)/\∀ y_3 : Unit,True->cP (Bool.not x_4.same) (LD_w2 c) (LD_w41 b c x_3.a)
def LD_w34 : Prop := Value.slice none 0 0 = Value.slice none 0 0/\True
def LD_w52 (a : ZTn) (b : Nat) : Prop := Hd (a.i<=b/\Good a.a 0 a.i a.b/\a.a.l.n = 0)
def LD_w51 (a : Nat) (b : ZTu) (c : ZArn) : Prop := I64 ((a : Int) + 1)/\∃ s_1 : ZTn,LD_w52 s_1 b.n/\b.n - s_1.i < b.n - a/\(LD_w58 s_1.i a/\LD_w34)/\LD_w5 s_1.a c b
def LD_w9 (a : ZArn) (b : Nat) (c : ZTu) : Prop := ∃ x_3 : ZStS,LD_w43 x_3/\(0 = 0/\True)/\LD_w48 x_3.a a/\(∀ y_2 : Unit,Hd (x_3.a.l.n = 0)->LD_w51 b c x_3.a)/\∀ y_2 : Unit,Hd (x_3.a.l.n ≠ 0)->cP (bne (x_3.a.l.n : Int) (0 : Int)) (LD_w2 c) (cP (decide (0 < (x_3.a.l.n : Int))) (((0 : Int)<=0/\1<=(x_3.a.l.n : Int))/\0 < x_3.a.l.n/\False) (LD_w51 b c x_3.a))
def LD_w33 : Prop := ByteArray.mk #[] = ByteArray.mk #[]/\LD_w34
def LD_w50 (a : Nat) (b : Nat) : Prop := 0<=(a : Int)/\(a : Int) < (b : Int)
def LD_w57 (a : ZAns) (b : ZTu) (c : Nat) : Prop := cP a.found (LD_w2 b) (cP (Bool.not (BEq.beq (ByteArray.toList a.v) (ByteArray.toList (ByteArray.mk #[])))) (LD_w2 b) (LD_w9 a.a c b))
def LD_w14 (a : ZTu) (b : ZTn) : Prop := ∃ x_2 : ZRun,Hd (GoodA x_2.a x_2.t)/\(0 = 0/\(x_2.t : Int) = 0/\((4 : Int) = 4/\x_2.key = ByteArray.mk #[]/\x_2.v = a.g (0 + b.i)/\LD_w33)/\True)/\LD_w48 x_2.a b.a/\∀ y_1 : ZAns,Hd (resE x_2 y_1)->cP (BEq.beq y_1.code (4 : Int)) (LD_w57 y_1 a b.i) (cP (bne y_1.code (0 : Int)) (LD_w2 a) (LD_w50 b.i a.n/\0 + b.i < a.n/\(2 * (0 + 1) + 1000) * 16<=281474976710656/\∃ x_3 : ZStS,LD_w43 x_3/\(0 = 0/\True)/\LD_w48 x_3.a y_1.a/\(∀ y_2 : Unit,Hd (x_3.a.l.n = 0)->LD_w2 a)/\∀ y_2 : Unit,Hd (x_3.a.l.n ≠ 0)->∃ x_4 : ZSm,Hd (x_4.n < 1099511627776)/\((0 = 0/\x_4.n = x_3.a.l.n)/\(0 = 0/\x_4.m = 1)/\True)/\(LD_w44 x_4 x_3/\(x_4.m = 0 + List.length [List.take 1 [Value.string (a.g (0 + b.i))]]/\∀ q : Nat,q < x_4.m->[Value.string (x_4.h q)] = Cs.eff (fun (x_5 : Nat) => []) [(0,List.take 1 [Value.string (a.g (0 + b.i))])] q)/\True)/\∀ y_3 : Unit,True->cP (Bool.not x_4.same) (LD_w2 a) (I64 ((b.i : Int) + 1)/\∃ s_1 : ZTn,LD_w47 s_1 a.n/\a.n - s_1.i < a.n - b.i/\(LD_w58 s_1.i b.i/\(0 = 0/\s_1.a.l.n = 1)/\True)/\(s_1.a.l.n = 0 + List.length [List.take 1 [Value.string (a.g (0 + b.i))]]/\∀ q : Nat,q < s_1.a.l.n->[Value.string (ZBlk.value (s_1.b q))] = Cs.eff (fun (x_5 : Nat) => []) [(0,List.take 1 [Value.string (a.g (0 + b.i))])] q)/\LD_w5 s_1.a x_3.a a)))
def LD_w56 (a : ZAns) (b : ZTu) (c : ZTn) : Prop := cP a.found (LD_w2 b) (cP (Bool.not (BEq.beq (ByteArray.toList a.v) (ByteArray.toList (ByteArray.mk #[])))) (LD_w2 b) (LD_w8 a.a c b))
def LD_w17 (a : ZTu) (b : ZTn) : Prop := ∃ x_2 : ZRun,Hd (GoodA x_2.a x_2.t)/\(0 = 0/\(x_2.t : Int) = 0/\((4 : Int) = 4/\x_2.key = ByteArray.mk #[]/\x_2.v = a.g (0 + b.i)/\LD_w33)/\True)/\LD_w48 x_2.a b.a/\∀ y_1 : ZAns,Hd (resE x_2 y_1)->cP (BEq.beq y_1.code (4 : Int)) (LD_w56 y_1 a b) (cP (bne y_1.code (0 : Int)) (LD_w2 a) (LD_w50 b.i a.n/\0 + b.i < a.n/\b.a.l.n = b.a.l.n/\List.all [List.take 1 [Value.string (a.g (0 + b.i))]] (fun (l : List Value) => Nat.beq (List.length l) 1 && List.all l Value.oneCell') = true/\(2 * (b.a.l.n + 1) + 1000) * 16<=281474976710656/\∃ x_3 : ZStS,LD_w43 x_3/\(0 = 0/\True)/\LD_w48 x_3.a y_1.a/\(∀ y_2 : Unit,Hd (x_3.a.l.n = 0)->LD_w2 a)/\∀ y_2 : Unit,Hd (x_3.a.l.n ≠ 0)->∃ x_4 : ZSm,Hd (x_4.n < 1099511627776)/\((0 = 0/\x_4.n = x_3.a.l.n)/\(0 = 0/\x_4.m = b.a.l.n + 1)/\True)/\(LD_w44 x_4 x_3/\(x_4.m = b.a.l.n + List.length [List.take 1 [Value.string (a.g (0 + b.i))]]/\∀ q : Nat,q < x_4.m->[Value.string (x_4.h q)] = Cs.eff (fun (i : Nat) => [Value.string (ZBlk.value (b.b i))]) [(b.a.l.n,List.take 1 [Value.string (a.g (0 + b.i))])] q)/\True)/\∀ y_3 : Unit,True->cP (Bool.not x_4.same) (LD_w2 a) (I64 ((b.i : Int) + 1)/\∃ s_1 : ZTn,LD_w47 s_1 a.n/\a.n - s_1.i < a.n - b.i/\(LD_w58 s_1.i b.i/\(0 = 0/\s_1.a.l.n = b.a.l.n + 1)/\True)/\(s_1.a.l.n = b.a.l.n + List.length [List.take 1 [Value.string (a.g (0 + b.i))]]/\∀ q : Nat,q < s_1.a.l.n->[Value.string (ZBlk.value (s_1.b q))] = Cs.eff (fun (i : Nat) => [Value.string (ZBlk.value (b.b i))]) [(b.a.l.n,List.take 1 [Value.string (a.g (0 + b.i))])] q)/\LD_w5 s_1.a x_3.a a)))
def LD_w36 (a : ZRun) : Prop := 0 = 0/\(a.t : Int) = 0/\((5 : Int) = 5/\a.key = ByteArray.mk #[]/\a.v = ByteArray.mk #[]/\LD_w33)/\True
def LD_w38 (a : ZTn) (b : ZTu) (c : ZArn) : Prop := I64 ((a.i : Int) + 1)/\∃ s_1 : ZTn,LD_w47 s_1 b.n/\b.n - s_1.i < b.n - a.i/\(LD_w58 s_1.i a.i/\(0 = 0/\s_1.a.l.n = 0 + (a.a.l.n - 1))/\True)/\(s_1.a.l.n = 0 + (a.a.l.n - 1)/\∀ q : Nat,q < s_1.a.l.n->[Value.string (ZBlk.value (s_1.b q))] = [Value.string (ZBlk.value (a.b (1 + (q - 0))))])/\LD_w5 s_1.a c b
def LD_w49 (a : ZRun) : Prop := Hd (GoodA a.a a.t/\a.v.size<=400/\(a.a.l.n ≠ 0->a.a.n ≠ 0/\∃ ln : Nat,@HeadOk a.a a.b ln))
def turnsVC (x : ZTu) : Prop :=
 cP (decide ((x.n : Int) > (40 : Int))) (true = true/\LD_w1 x) (((4 : Int) = 0->False)/\I64 (Int.tmod (IntKind.wrap .u64 x.lines) (4 : Int))/\I64 (8 * Int.tmod (IntKind.wrap .u64 x.lines) (4 : Int))/\I64 (10 + 8 * Int.tmod (IntKind.wrap .u64 x.lines) (4 : Int))/\∃ x_1 : ZNew,Hd (10<=x_1.n/\x_1.n<=258/\1<=x_1.t/\x_1.t<=4)/\((x_1.n : Int) = 10 + 8 * Int.tmod (IntKind.wrap .u64 x.lines) (4 : Int)/\(x_1.t : Int) = 1/\True)/\True/\∀ y : DevM,Hd (y.ok/\y.n = x_1.n/\y.st = 2/\y.fl = 2/\y.fe = 1)->(∃ s : ZTn,LD_w52 s x.n/\True/\((s.i : Int) = 0/\LD_w34)/\ownM s.a.os = ownM (ZArn.osN (newArn x_1.n x_1.t y))/\LD_w6 x)/\(∀ s : ZTn,LD_w52 s x.n->cP (decide ((s.i : Int) < (x.n : Int))) (LD_w50 s.i x.n/\0 + s.i < x.n/\cP (decide (((ByteArray.size (x.g (0 + s.i)) : Nat) : Int) > (400 : Int))) (I64 ((s.i : Int) + 1)/\∃ s_1 : ZTn,LD_w52 s_1 x.n/\x.n - s_1.i < x.n - s.i/\(LD_w58 s_1.i s.i/\LD_w34)/\LD_w5 s_1.a s.a x) (LD_w50 s.i x.n/\0 + s.i < x.n/\cP (decide ((s.i : Int) < (x.m : Int))) (LD_w50 s.i x.m/\0 + s.i < x.m/\cP (x.h (0 + s.i)) (∃ x_2 : ZRun,LD_w49 x_2/\LD_w36 x_2/\LD_w48 x_2.a s.a/\∀ y_1 : ZAns,Hd (resD x_2 y_1)->cP (BEq.beq y_1.code (4 : Int)) (LD_w57 y_1 x s.i) (cP (bne y_1.code (0 : Int)) (LD_w2 x) (cP y_1.found (LD_w2 x) (LD_w9 y_1.a s.i x)))) (LD_w14 x s)) (LD_w14 x s))) (true = true/\LD_w1 x))/\(∀ s : ZTn,LD_w47 s x.n->cP (decide ((s.i : Int) < (x.n : Int))) (LD_w50 s.i x.n/\0 + s.i < x.n/\cP (decide (((ByteArray.size (x.g (0 + s.i)) : Nat) : Int) > (400 : Int))) (I64 ((s.i : Int) + 1)/\∃ s_1 : ZTn,LD_w47 s_1 x.n/\x.n - s_1.i < x.n - s.i/\(LD_w58 s_1.i s.i/\(0 = 0/\s_1.a.l.n = s.a.l.n)/\True)/\LD_w54 s_1 s/\LD_w5 s_1.a s.a x) (LD_w50 s.i x.n/\0 + s.i < x.n/\
 cP (decide ((s.i : Int) < (x.m : Int))) (LD_w50 s.i x.m/\0 + s.i < x.m/\cP (x.h (0 + s.i)) (∃ x_2 : ZRun,LD_w49 x_2/\LD_w36 x_2/\LD_w48 x_2.a s.a/\∀ y_1 : ZAns,Hd (resD x_2 y_1)->cP (BEq.beq y_1.code (4 : Int)) (LD_w56 y_1 x s) (cP (BEq.beq (s.a.l.n : Int) (0 : Int)) (cP (bne y_1.code (0 : Int)) (LD_w2 x) (cP y_1.found (LD_w2 x) (LD_w8 y_1.a s x))) (cP (bne y_1.code (0 : Int)) (LD_w2 x) (cP (Bool.not y_1.found) (LD_w2 x) (((0 : Int)<=0/\1<=(s.a.l.n : Int))/\0 < s.a.l.n/\cP (Bool.not (BEq.beq (ByteArray.toList y_1.v) (ByteArray.toList (ZBlk.value (s.b 0))))) (LD_w2 x) ((0 : Int)<=1/\(1<=s.a.l.n/\s.a.l.n<=s.a.l.n/\s.a.l.n<=s.a.l.n)/\1 + (s.a.l.n - 1)<=s.a.l.n/\cP (Nat.beq (s.a.l.n - 1) 0) (LD_w9 y_1.a s.i x) ((2 * (0 + (s.a.l.n - 1)) + 1000) * 16<=281474976710656/\∃ x_3 : ZStS,LD_w43 x_3/\(0 = 0/\True)/\LD_w48 x_3.a y_1.a/\(∀ y_2 : Unit,Hd (x_3.a.l.n = 0)->cP (bne (0 : Int) ((0 + (s.a.l.n - 1) : Nat) : Int)) (LD_w2 x) (LD_w38 s x x_3.a))/\∀ y_2 : Unit,Hd (x_3.a.l.n ≠ 0)->∃ x_4 : ZSm,Hd (x_4.n < 1099511627776)/\((0 = 0/\x_4.n = x_3.a.l.n)/\(0 = 0/\x_4.m = 0 + (s.a.l.n - 1))/\True)/\(LD_w44 x_4 x_3/\(x_4.m = 0 + (s.a.l.n - 1)/\∀ q : Nat,q < x_4.m->[Value.string (x_4.h q)] = [Value.string (ZBlk.value (s.b (1 + (q - 0))))])/\True)/\∀ y_3 : Unit,True->cP (Bool.not x_4.same) (LD_w2 x) (LD_w38 s x x_3.a)))))))) (LD_w17 x s)) (LD_w17 x s))) (true = true/\LD_w1 x))/\True)
theorem turnsVC_ok (x : ZTu) : turnsVC x = wpF Tryz.prog tblLt tt (annTu x) 200 6 5 [i64 x.lines,.slR 0 0 1 x.n,.slR 1 0 1 x.m] (hO 2 x.os) (fun v h' => endP 2 (boo true) x.os v h') := by kernel_rfl
end Go.Proofs.YtpnhfbegboogbaaGreat
end
section
namespace Go.Proofs.YtpnhfbegboogbaaGreat
open Go SE
set_option linter.unusedSimpArgs false
end Go.Proofs.YtpnhfbegboogbaaGreat
end
