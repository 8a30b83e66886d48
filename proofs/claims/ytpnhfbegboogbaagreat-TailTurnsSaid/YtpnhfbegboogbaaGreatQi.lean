import Derived.Test.YtpnhfbegboogbaaGreatQa
import Derived.Test.YtpnhfbegboogbaaGreatQb
import Derived.Test.YtpnhfbegboogbaaGreatQc
import Derived.Test.YtpnhfbegboogbaaGreatQd
import Derived.Test.YtpnhfbegboogbaaGreatQe
import Derived.Test.YtpnhfbegboogbaaGreatQf
import Derived.Test.YtpnhfbegboogbaaGreatQg
import Derived.Test.YtpnhfbegboogbaaGreatQh
set_option linter.unusedVariables false
set_option linter.unusedSimpArgs false
set_option linter.unnecessarySimpa false
section
namespace Go.Proofs.YtpnhfbegboogbaaGreat
open Go SE
set_option linter.unusedSimpArgs false
theorem good_up {a : ZArn} {t N : Nat} {b : Nat->ZBlk} (g : Good a t N b) : Good a t (N + 1) b :=
 { g with dst := by have := g.dst; omega,lcap := by have := g.lcap; omega,ln := by have := g.ln; omega,id1 := by have := g.id1; omega,v1 := by have := g.v1; omega,nn := by have := g.nn; omega,owed := fun k => by have := g.owed k; omega }
theorem low4 (z : Int) : 0<=Int.tmod (IntKind.u64.wrap z) 4/\Int.tmod (IntKind.u64.wrap z) 4 < 4 := by
 have h : 0<=IntKind.u64.wrap z := by
  unfold IntKind.wrap
  simp only [IntKind.bits,IntKind.signed]
  have : 0<=z % (2 ^ 64) := Int.emod_nonneg _ (by decide)
  simpa using this
 rw [Int.tmod_eq_emod_of_nonneg h]
 omega
theorem same_refl {x : ZSm} (h1 : x.n = x.m) (h2 : ∀ i,i < x.n->x.g i = x.h i) : x.same = true := same_iff.2 ⟨h1,h2⟩
theorem endA {x : ZTu} {i : Nat} {a : ZArn} {b : Nat->ZBlk} {O : Own} (h1 : i < x.n) (hn : x.n<=40) (g : Good a 0 (i + 1) b) (h0 : a.l.n = 0) (hO : ownM a.os = O) : I64 ((i : Int) + 1)/\∃ s : ZTn,(s.i<=x.n/\Good s.a 0 s.i s.b/\s.a.l.n = 0)/\x.n - s.i < x.n - i/\(s.i : Int) = i + 1/\ownM s.a.os = O :=
 ⟨by unfold I64; omega,⟨i + 1,a,b⟩,⟨h1,g,h0⟩,by show x.n - (i + 1) < x.n - i; omega,rfl,hO⟩
theorem endB {x : ZTu} {i L : Nat} {a : ZArn} {b : Nat->ZBlk} {O : Own} {R : Nat->List Value} (h1 : i < x.n) (hn : x.n<=40) (g : Good a 0 (i + 1) b) (h0 : a.l.n ≠ 0) (hL : a.l.n = L) (hR : ∀ q,q < a.l.n->[Value.string (b q).value] = R q) (hO : ownM a.os = O) :
  I64 ((i : Int) + 1)/\∃ s : ZTn,(s.i<=x.n/\Good s.a 0 s.i s.b/\s.a.l.n ≠ 0)/\x.n - s.i < x.n - i/\((s.i : Int) = i + 1/\s.a.l.n = L)/\(s.a.l.n = L/\∀ q,q < s.a.l.n->[Value.string (s.b q).value] = R q)/\ownM s.a.os = O :=
 ⟨by unfold I64; omega,⟨i + 1,a,b⟩,⟨h1,g,h0⟩,by show x.n - (i + 1) < x.n - i; omega,⟨rfl,hL⟩,⟨hL,hR⟩,hO⟩
set_option maxRecDepth 20000 in
theorem turnsVC_true (x : ZTu) : turnsVC x := by
 unfold turnsVC
 simp only [LD_w1,LD_w52,LD_w34,LD_w6,LD_w50,LD_w58,LD_w5,LD_w49,LD_w36,LD_w48,LD_w57,LD_w2,LD_w9,LD_w14,LD_w47,LD_w54,LD_w56,LD_w8,LD_w43,LD_w38,LD_w44,LD_w17,LD_w33,LD_w41,LD_w51,LD_w4,LD_w3]
 simp only [hd_iff,and_true,true_and,Nat.zero_add,Nat.add_zero,unit_ex,unit_all,true_implies,implies_true,Int.toNat_natCast,eq_self,and_self,eff_nil,cond_one,cond_int,ones_int,row_int,ones_bool,row_bool,cond_bool,ble0,Bool.true_and,Nat.sub_zero,List.getElem?_cons_zero,Option.some.injEq,Value.bool.injEq,Value.int.injEq,exists_eq_left',exists_eq_left]
 obtain ⟨k1,k2⟩ := low4 x.lines
 generalize hk : Int.tmod (IntKind.u64.wrap x.lines) 4 = k at k1 k2 ⊢
 obtain ⟨m,rfl⟩ := Int.eq_ofNat_of_zero_le k1
 refine cP_intro (fun _ => trivial) fun hn => ?_
 have hn : x.n<=40 := by have := of_decide_eq_false hn; omega
 refine ⟨fun h => absurd h (by decide),by unfold I64; omega,by unfold I64; omega,by unfold I64; omega,⟨10 + 8 * m,1⟩,⟨by show 10<=10 + 8 * m; omega,by show 10 + 8 * m<=258; omega,show 1<=1 by decide,show 1<=4 by decide⟩,⟨by show ((10 + 8 * m : Nat) : Int) = 10 + 8 * (m : Int); omega,rfl⟩,fun d hd => ?_⟩
 have g0 := good_new (n := 10 + 8 * m) (t := 0) (T := 1) (m := m) hd.1 hd.2.1 hd.2.2.1 rfl (by omega) (by decide) (by decide) (fun _ => zB)
 refine ⟨⟨⟨0,newArn (10 + 8 * m) 1 d,fun _ => zB⟩,⟨Nat.zero_le _,g0,rfl⟩,rfl,new_own _ _ _⟩,?_,?_⟩
 ·rintro ⟨i,a,b⟩ ⟨hi,g,h0⟩
  have hi : i<=x.n := hi
  have g : Good a 0 i b := g
  have h0 : a.l.n = 0 := h0
  dsimp only
  refine cP_intro (fun h1 => ?_) fun _ => trivial
  have h1 : i < x.n := by have := of_decide_eq_true h1; omega
  have sh : a.l.ok/\a.l.n < 1099511627776/\qok a.d a.l b := ⟨g.lok,by rw [h0]; decide,g.shelf⟩
  refine ⟨⟨by omega,by omega⟩,h1,cP_intro (fun _ => endA h1 hn (good_up g) h0 rfl) fun hv => ⟨⟨by omega,by omega⟩,h1,?_⟩⟩
  have hv : (x.g i).size<=400 := by have := of_decide_eq_false hv; omega
  refine cP_intro (fun hm => ⟨⟨by omega,by have := of_decide_eq_true hm; omega⟩,by have := of_decide_eq_true hm; omega,cP_intro (fun _ => ?_) fun _ => ?_⟩) fun _ => ?_
  ·refine ⟨⟨a,0,⟨#[]⟩,⟨#[]⟩,b 0⟩,⟨g.A (by omega),Nat.zero_le _,fun hz => g.head hz⟩,⟨rfl,rfl,rfl⟩,rfl,fun y r => ?_⟩
   rcases r with ⟨_,c1,c2,c3,c5⟩ | ⟨h,_⟩ | ⟨h,_⟩
   ·have c5 : y.a = a := c5
    rw [c1,c2,c5]
    refine cP_intro (fun h => absurd h (by decide)) fun _ => cP_intro (fun h => absurd h (by decide)) fun _ => cP_intro (fun h => absurd h (by decide)) fun _ => ?_
    exact ⟨⟨a,b⟩,sh,rfl,fun _ => endA h1 hn (good_up g) h0 rfl,fun h => absurd h0 h⟩
   ·exact absurd h0 h
   ·exact absurd h0 h
  ·refine ⟨⟨a,0,⟨#[]⟩,x.g i,zB⟩,g.A (by omega),⟨rfl,rfl,rfl⟩,rfl,fun y r => ?_⟩
   rcases r with ⟨h,_⟩ | ⟨_,_,c1,c2,c3,c5⟩ | ⟨_,c1,c2,c3,_,i',j',ht,c5⟩
   ·exact absurd (show 400 < (x.g i).size from h) (by omega)
   ·have c5 : y.a = a := c5
    rw [c1,c2,c3,c5]
    refine cP_intro (fun _ => cP_intro (fun h => absurd h (by decide)) fun _ => cP_intro (fun h => absurd h (by rw [beq_self_eq_true]; decide)) fun _ => ?_) fun h => absurd h (by decide)
    exact ⟨⟨a,b⟩,sh,rfl,fun _ => endA h1 hn (good_up g) h0 rfl,fun h => absurd h0 h⟩
   ·have g' := good_enq g (by omega) ⟨#[]⟩ (x.g i) zB hv ht
    have c5 : y.a = ZRun.aE ⟨a,0,⟨#[]⟩,x.g i,zB⟩ i' j' := c5
    rw [← c5] at g'
    have hl : y.a.l.n = a.l.n + 1 := by rw [c5]; exact push_n _ _
    have hl1 : y.a.l.n = 1 := by omega
    rw [c1]
    refine cP_intro (fun h => absurd h (by decide)) fun _ => cP_intro (fun h => absurd h (by decide)) fun _ => ⟨⟨by omega,by omega⟩,h1,by decide,⟨y.a,_⟩,⟨g'.lok,by rw [hl1]; decide,g'.shelf⟩,rfl,fun h => absurd h (by show ¬ y.a.l.n = 0; omega),fun _ => ⟨⟨1,1,fun _ => x.g i,fun _ => x.g i⟩,show 1 < 1099511627776 by decide,⟨hl1.symm,rfl⟩,⟨⟨hl1.symm,fun q hq => ?_⟩,rfl,fun q hq => ?_⟩,?_⟩⟩
    ·obtain rfl : q = 0 := by have : q < 1 := hq; omega
     show [Value.string (x.g i)] = [Value.string (pushB b a.l.n _ 0).value]
     rw [h0]; rfl
    ·obtain rfl : q = 0 := by have : q < 1 := hq; omega
     rfl
    ·rw [show (ZSm.mk 1 1 (fun _ => x.g i) (fun _ => x.g i)).same = true from same_refl rfl fun _ _ => rfl]
     refine cP_intro (fun h => absurd h (by decide)) fun _ => endB h1 hn g' (by omega) hl1 (fun q hq => ?_) rfl
     obtain rfl : q = 0 := by omega
     show [Value.string (pushB b a.l.n _ 0).value] = _
     rw [h0]; rfl
  ·refine ⟨⟨a,0,⟨#[]⟩,x.g i,zB⟩,g.A (by omega),⟨rfl,rfl,rfl⟩,rfl,fun y r => ?_⟩
   rcases r with ⟨h,_⟩ | ⟨_,_,c1,c2,c3,c5⟩ | ⟨_,c1,c2,c3,_,i',j',ht,c5⟩
   ·exact absurd (show 400 < (x.g i).size from h) (by omega)
   ·have c5 : y.a = a := c5
    rw [c1,c2,c3,c5]
    refine cP_intro (fun _ => cP_intro (fun h => absurd h (by decide)) fun _ => cP_intro (fun h => absurd h (by rw [beq_self_eq_true]; decide)) fun _ => ?_) fun h => absurd h (by decide)
    exact ⟨⟨a,b⟩,sh,rfl,fun _ => endA h1 hn (good_up g) h0 rfl,fun h => absurd h0 h⟩
   ·have g' := good_enq g (by omega) ⟨#[]⟩ (x.g i) zB hv ht
    have c5 : y.a = ZRun.aE ⟨a,0,⟨#[]⟩,x.g i,zB⟩ i' j' := c5
    rw [← c5] at g'
    have hl : y.a.l.n = a.l.n + 1 := by rw [c5]; exact push_n _ _
    have hl1 : y.a.l.n = 1 := by omega
    rw [c1]
    refine cP_intro (fun h => absurd h (by decide)) fun _ => cP_intro (fun h => absurd h (by decide)) fun _ => ⟨⟨by omega,by omega⟩,h1,by decide,⟨y.a,_⟩,⟨g'.lok,by rw [hl1]; decide,g'.shelf⟩,rfl,fun h => absurd h (by show ¬ y.a.l.n = 0; omega),fun _ => ⟨⟨1,1,fun _ => x.g i,fun _ => x.g i⟩,show 1 < 1099511627776 by decide,⟨hl1.symm,rfl⟩,⟨⟨hl1.symm,fun q hq => ?_⟩,rfl,fun q hq => ?_⟩,?_⟩⟩
    ·obtain rfl : q = 0 := by have : q < 1 := hq; omega
     show [Value.string (x.g i)] = [Value.string (pushB b a.l.n _ 0).value]
     rw [h0]; rfl
    ·obtain rfl : q = 0 := by have : q < 1 := hq; omega
     rfl
    ·rw [show (ZSm.mk 1 1 (fun _ => x.g i) (fun _ => x.g i)).same = true from same_refl rfl fun _ _ => rfl]
     refine cP_intro (fun h => absurd h (by decide)) fun _ => endB h1 hn g' (by omega) hl1 (fun q hq => ?_) rfl
     obtain rfl : q = 0 := by omega
     show [Value.string (pushB b a.l.n _ 0).value] = _
     rw [h0]; rfl
 ·rintro ⟨i,a,b⟩ ⟨hi,g,h0⟩
  have hi : i<=x.n := hi
  have g : Good a 0 i b := g
  have h0 : a.l.n ≠ 0 := h0
  dsimp only
  refine cP_intro (fun h1 => ?_) fun _ => trivial
  have h1 : i < x.n := by have := of_decide_eq_true h1; omega
  have hln := g.ln
  have sh : a.l.ok/\a.l.n < 1099511627776/\qok a.d a.l b := ⟨g.lok,by omega,g.shelf⟩
  refine ⟨⟨by omega,by omega⟩,h1,cP_intro (fun _ => endB h1 hn (good_up g) h0 rfl (fun _ _ => rfl) rfl) fun hv => ⟨⟨by omega,by omega⟩,h1,?_⟩⟩
  have hv : (x.g i).size<=400 := by have := of_decide_eq_false hv; omega
  have sm : ∀ {N : Nat} {f : Nat->ZBlk},(ZSm.mk N N (fun q => (f q).value) (fun q => (f q).value)).same = true := same_refl rfl fun _ _ => rfl
  refine cP_intro (fun hm => ⟨⟨by omega,by have := of_decide_eq_true hm; omega⟩,by have := of_decide_eq_true hm; omega,cP_intro (fun _ => ?_) fun _ => ?_⟩) fun _ => ?_
  ·refine ⟨⟨a,0,⟨#[]⟩,⟨#[]⟩,b 0⟩,⟨g.A (by omega),Nat.zero_le _,fun hz => g.head hz⟩,⟨rfl,rfl,rfl⟩,rfl,fun y r => ?_⟩
   rcases r with ⟨h,_⟩ | ⟨_,_,c1,c2,c3,c5⟩ | ⟨_,c1,c2,c3,_,i',j',ht,c5⟩
   ·exact absurd h h0
   ·have c5 : y.a = a := c5
    rw [c1,c2,c3,c5]
    refine cP_intro (fun _ => cP_intro (fun h => absurd h (by decide)) fun _ => cP_intro (fun h => absurd h (by rw [beq_self_eq_true]; decide)) fun _ => ?_) fun h => absurd h (by decide)
    refine ⟨⟨a,b⟩,sh,rfl,fun h => absurd h h0,fun _ => ⟨⟨a.l.n,a.l.n,fun q => (b q).value,fun q => (b q).value⟩,sh.2.1,⟨rfl,rfl⟩,⟨⟨rfl,fun _ _ => rfl⟩,rfl,fun _ _ => rfl⟩,?_⟩⟩
    rw [sm]
    exact cP_intro (fun h => absurd h (by decide)) fun _ => endB h1 hn (good_up g) h0 rfl (fun _ _ => rfl) rfl
   ·have g' := good_deq g (by omega) ⟨#[]⟩ ⟨#[]⟩ (b 0) (Nat.zero_le _) h0 rfl ht
    have c5 : y.a = ZRun.aD ⟨a,0,⟨#[]⟩,⟨#[]⟩,b 0⟩ i' j' := c5
    rw [← c5] at g'
    have hl : y.a.l.n = a.l.n - 1 := by rw [c5]; exact pop_n h0
    have c3 : y.v = (b 0).value := c3
    rw [c1,c2,c3]
    refine cP_intro (fun h => absurd h (by decide)) fun _ => cP_intro (fun h => absurd (beq_iff_eq.1 h) (by omega)) fun _ => cP_intro (fun h => absurd h (by decide)) fun _ => cP_intro (fun h => absurd h (by decide)) fun _ => ⟨⟨by omega,by omega⟩,by omega,?_⟩
    rw [beq_self_eq_true,Bool.not_true,cP_false]
    refine ⟨by decide,⟨by omega,by omega⟩,by omega,cP_intro (fun hz => ?_) fun hz => ?_⟩
    ·have hz := Nat.eq_of_beq_eq_true hz
     have hl0 : y.a.l.n = 0 := by omega
     exact ⟨⟨y.a,fun q => b (q + 1)⟩,⟨g'.lok,by rw [hl0]; decide,g'.shelf⟩,rfl,fun _ => endA h1 hn g' hl0 rfl,fun h => absurd hl0 h⟩
    ·have hz : a.l.n - 1 ≠ 0 := fun e => by rw [e] at hz; cases hz
     have hl0 : y.a.l.n ≠ 0 := by omega
     refine ⟨by omega,⟨y.a,fun q => b (q + 1)⟩,⟨g'.lok,by show y.a.l.n < _; omega,g'.shelf⟩,rfl,fun h => absurd h hl0,fun _ => ⟨⟨a.l.n - 1,a.l.n - 1,fun q => (b (q + 1)).value,fun q => (b (1 + q)).value⟩,by show a.l.n - 1 < _; omega,⟨hl.symm,rfl⟩,⟨⟨hl.symm,fun q _ => rfl⟩,rfl,fun q _ => rfl⟩,?_⟩⟩
     rw [show (ZSm.mk (a.l.n - 1) (a.l.n - 1) (fun q => (b (q + 1)).value) (fun q => (b (1 + q)).value)).same = true from same_refl rfl fun q _ => by show (b (q + 1)).value = (b (1 + q)).value; rw [Nat.add_comm]]
     exact cP_intro (fun h => absurd h (by decide)) fun _ => endB h1 hn g' hl0 hl (fun q _ => by rw [Nat.add_comm]) rfl
  ·refine ⟨⟨a,0,⟨#[]⟩,x.g i,zB⟩,g.A (by omega),⟨rfl,rfl,rfl⟩,rfl,fun y r => ?_⟩
   rcases r with ⟨h,_⟩ | ⟨_,_,c1,c2,c3,c5⟩ | ⟨_,c1,c2,c3,_,i',j',ht,c5⟩
   ·exact absurd (show 400 < (x.g i).size from h) (by omega)
   ·have c5 : y.a = a := c5
    rw [c1,c2,c3,c5]
    refine cP_intro (fun _ => cP_intro (fun h => absurd h (by decide)) fun _ => cP_intro (fun h => absurd h (by rw [beq_self_eq_true]; decide)) fun _ => ?_) fun h => absurd h (by decide)
    refine ⟨⟨a,b⟩,sh,rfl,fun h => absurd h h0,fun _ => ⟨⟨a.l.n,a.l.n,fun q => (b q).value,fun q => (b q).value⟩,sh.2.1,⟨rfl,rfl⟩,⟨⟨rfl,fun _ _ => rfl⟩,rfl,fun _ _ => rfl⟩,?_⟩⟩
    rw [sm]
    exact cP_intro (fun h => absurd h (by decide)) fun _ => endB h1 hn (good_up g) h0 rfl (fun _ _ => rfl) rfl
   ·have g' := good_enq g (by omega) ⟨#[]⟩ (x.g i) zB hv ht
    have c5 : y.a = ZRun.aE ⟨a,0,⟨#[]⟩,x.g i,zB⟩ i' j' := c5
    rw [← c5] at g'
    have hl : y.a.l.n = a.l.n + 1 := by rw [c5]; exact push_n _ _
    generalize hB : pushB b a.l.n ⟨ned (x.g i).size,2,a.id + 1,a.ver + 1,1,⟨#[]⟩,x.g i⟩ = b' at g'
    have row : ∀ q,[Value.string (b' q).value] = Cs.eff (fun i => [Value.string (b i).value]) [(a.l.n,List.take 1 [Value.string (x.g i)])] q := fun q => by
     rw [← hB]
     by_cases e : q = a.l.n
     ·show [Value.string (if q = a.l.n then _ else b q).value] = bif Nat.beq q a.l.n then _ else _
      rw [e,if_pos rfl,Nat.beq_refl]; rfl
     ·show [Value.string (if q = a.l.n then _ else b q).value] = bif Nat.beq q a.l.n then _ else _
      rw [if_neg e,nbeq_decide,decide_eq_false e]; rfl
    rw [c1]
    refine cP_intro (fun h => absurd h (by decide)) fun _ => cP_intro (fun h => absurd h (by decide)) fun _ => ⟨⟨by omega,by omega⟩,h1,by rfl,by omega,⟨y.a,b'⟩,⟨g'.lok,by show y.a.l.n < _; omega,g'.shelf⟩,rfl,fun h => absurd h (by show ¬ y.a.l.n = 0; omega),fun _ => ⟨⟨a.l.n + 1,a.l.n + 1,fun q => (b' q).value,fun q => (b' q).value⟩,by show a.l.n + 1 < _; omega,⟨hl.symm,rfl⟩,⟨⟨hl.symm,fun q _ => rfl⟩,rfl,fun q _ => row q⟩,?_⟩⟩
    rw [sm]
    exact cP_intro (fun h => absurd h (by decide)) fun _ => endB h1 hn g' (by omega) hl (fun q _ => row q) rfl
  ·refine ⟨⟨a,0,⟨#[]⟩,x.g i,zB⟩,g.A (by omega),⟨rfl,rfl,rfl⟩,rfl,fun y r => ?_⟩
   rcases r with ⟨h,_⟩ | ⟨_,_,c1,c2,c3,c5⟩ | ⟨_,c1,c2,c3,_,i',j',ht,c5⟩
   ·exact absurd (show 400 < (x.g i).size from h) (by omega)
   ·have c5 : y.a = a := c5
    rw [c1,c2,c3,c5]
    refine cP_intro (fun _ => cP_intro (fun h => absurd h (by decide)) fun _ => cP_intro (fun h => absurd h (by rw [beq_self_eq_true]; decide)) fun _ => ?_) fun h => absurd h (by decide)
    refine ⟨⟨a,b⟩,sh,rfl,fun h => absurd h h0,fun _ => ⟨⟨a.l.n,a.l.n,fun q => (b q).value,fun q => (b q).value⟩,sh.2.1,⟨rfl,rfl⟩,⟨⟨rfl,fun _ _ => rfl⟩,rfl,fun _ _ => rfl⟩,?_⟩⟩
    rw [sm]
    exact cP_intro (fun h => absurd h (by decide)) fun _ => endB h1 hn (good_up g) h0 rfl (fun _ _ => rfl) rfl
   ·have g' := good_enq g (by omega) ⟨#[]⟩ (x.g i) zB hv ht
    have c5 : y.a = ZRun.aE ⟨a,0,⟨#[]⟩,x.g i,zB⟩ i' j' := c5
    rw [← c5] at g'
    have hl : y.a.l.n = a.l.n + 1 := by rw [c5]; exact push_n _ _
    generalize hB : pushB b a.l.n ⟨ned (x.g i).size,2,a.id + 1,a.ver + 1,1,⟨#[]⟩,x.g i⟩ = b' at g'
    have row : ∀ q,[Value.string (b' q).value] = Cs.eff (fun i => [Value.string (b i).value]) [(a.l.n,List.take 1 [Value.string (x.g i)])] q := fun q => by
     rw [← hB]
     by_cases e : q = a.l.n
     ·show [Value.string (if q = a.l.n then _ else b q).value] = bif Nat.beq q a.l.n then _ else _
      rw [e,if_pos rfl,Nat.beq_refl]; rfl
     ·show [Value.string (if q = a.l.n then _ else b q).value] = bif Nat.beq q a.l.n then _ else _
      rw [if_neg e,nbeq_decide,decide_eq_false e]; rfl
    rw [c1]
    refine cP_intro (fun h => absurd h (by decide)) fun _ => cP_intro (fun h => absurd h (by decide)) fun _ => ⟨⟨by omega,by omega⟩,h1,by rfl,by omega,⟨y.a,b'⟩,⟨g'.lok,by show y.a.l.n < _; omega,g'.shelf⟩,rfl,fun h => absurd h (by show ¬ y.a.l.n = 0; omega),fun _ => ⟨⟨a.l.n + 1,a.l.n + 1,fun q => (b' q).value,fun q => (b' q).value⟩,by show a.l.n + 1 < _; omega,⟨hl.symm,rfl⟩,⟨⟨hl.symm,fun q _ => rfl⟩,rfl,fun q _ => row q⟩,?_⟩⟩
    rw [sm]
    exact cP_intro (fun h => absurd h (by decide)) fun _ => endB h1 hn g' (by omega) hl (fun q _ => row q) rfl
theorem turns_sp (x : ZTu) : Sp Tryz.prog 5 [i64 x.lines,.slR 0 0 1 x.n,.slR 1 0 1 x.m] (hO 2 x.os) (fun v _ => v = boo true) :=
 (sp_endk tt_ok mixed tblLt_ok (annTu x) 200 6 2 2 (v0 := boo true) (os := x.os) rfl rfl (Eq.mp (turnsVC_ok x) (turnsVC_true x))).mono fun _ _ hh => hh.1
end Go.Proofs.YtpnhfbegboogbaaGreat
end
