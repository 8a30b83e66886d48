import Derived.Test.YtpnhfbegboogbaaGreatQa
import Derived.Test.YtpnhfbegboogbaaGreatQb
import Derived.Test.YtpnhfbegboogbaaGreatQc
import Derived.Test.YtpnhfbegboogbaaGreatQd
import Derived.Test.YtpnhfbegboogbaaGreatQe
import Derived.Test.YtpnhfbegboogbaaGreatQf
import Derived.KernelRfl
set_option linter.unusedVariables false
set_option linter.unusedSimpArgs false
set_option linter.unnecessarySimpa false
section
namespace Go.Proofs.YtpnhfbegboogbaaGreat
open Go SE
set_option linter.unusedSimpArgs false
theorem notes_t (c : ClkM) (t : Nat) (l : Int) : ∀ i,(c.notes t l i).t = c.t
 | 0 => rfl
 | i + 1 => notes_t c t l i
theorem notes_now (c : ClkM) (t : Nat) (l : Int) : ∀ i,(c.notes t l i).now = c.now
 | 0 => rfl
 | i + 1 => notes_now c t l i
theorem notes_o (c : ClkM) (t : Nat) (l : Int) (hc : ∀ k,0<=c.o k) : ∀ i k,0<=(c.notes t l i).o k/\(c.notes t l i).o k<=c.o k + i
 | 0,k => ⟨hc k,by show c.o k<=c.o k + ((0 : Nat) : Int); omega⟩
 | i + 1,k => by
  have ih := notes_o c t l hc i k
  show 0<=(if k = t/\0<=l + i/\l + i < 258 then (c.notes t l i).o k + 1 else (c.notes t l i).o k)/\(if k = t/\0<=l + i/\l + i < 258 then (c.notes t l i).o k + 1 else (c.notes t l i).o k)<=_
  split <;> omega
theorem notes_ok {c : ClkM} (h : c.ok) (hc : ∀ k,c.o k + 8 < 1099511627776) (t : Nat) (l : Int) {i : Nat} (hi : i<=8) : (c.notes t l i).ok := by
 have hd : ∀ i,(c.notes t l i).dur = c.dur/\(c.notes t l i).clos = c.clos := fun i => by
  induction i with
  | zero => exact ⟨rfl,rfl⟩
  | succ i ih => exact ih
 refine ⟨by rw [notes_t]; exact h.1,by rw [notes_t]; exact h.2.1,by rw [notes_now]; exact h.2.2.1,by rw [(hd i).1]; exact h.2.2.2.1,by rw [(hd i).2]; exact h.2.2.2.2.1,fun k => ?_⟩
 have h1 := notes_o c t l (fun k => (h.2.2.2.2.2 k).1) i k
 have h2 := hc k
 exact ⟨h1.1,by omega⟩
theorem spnN_le (b : ZBlk) : b.spnN<=8/\(b.spnN : Int) = spn b.cls := by
 have := spn_cases b.cls
 unfold ZBlk.spnN
 omega
theorem store0 (d : DevM) (k a n : Nat) (g : Nat->Int) : d.store k a n (fun q => g (0 + q)) = d.store k a n g := by
 simp only [Nat.zero_add]
theorem spnN_pos {b : ZBlk} (h : b.may) : 1<=b.spnN := by
 have := spn_cases b.cls
 have h0 := h.1
 unfold ZBlk.spnN
 omega
theorem pubNVC_true (x : ZChg) (hx : x.okE/\(∃ i j,x.inP i j)/\(∀ k,x.a.c.o k + 8 < 1099511627776)/\x.a.n = 0) : pubNVC x := by
 obtain ⟨hE,hi,hc,hn⟩ := hx
 obtain ⟨⟨o1,o2,o3,o4,o5,o6,o7,o8,o9,o10,o11⟩,e1,e2,e3,e4,e5,e6,e7,e8⟩ := id hE
 have w1 : IntKind.u64.wrap (x.a.ver + 1) = x.a.ver + 1 := u64wrapN (by omega) (by omega)
 have w2 : IntKind.u64.wrap (x.a.id + 1) = x.a.id + 1 := u64wrapN (by omega) (by omega)
 have hs8 := spnN_le x.blk
 have hsc : (x.blk.spnN : Int) = spn x.c := hs8.2
 have st : ∀ N,(⟨x.a.d,x.k,0,⟨x.blk.enc,0,64,N⟩⟩ : DevS).d.store x.k 0 64 (fun q => x.blk.enc (0 + q)) = x.a.d.store x.k 0 64 x.blk.enc := fun _ => store0 _ _ _ _ _
 unfold pubNVC
 simp only [XH_w66,XH_w25,XH_w69,XH_w46,XH_w63,XH_w53,XH_w48,XH_w52,XH_w43,XH_w51,XH_w44,XH_w9,XH_w1,XH_w34,XH_w31,XH_w59,XH_w17,XH_w55,XH_w65,XH_w60,XH_w23,XH_w54,XH_w57,XH_w33,XH_w49,XH_w16,XH_w41,XH_w42,XH_w56,XH_w71,XH_w62,XH_w50,XH_w68,XH_w70,XH_w67,XH_w58,XH_w12,XH_w19]
 simp only [hd_iff,and_true,true_and,Nat.zero_add,Nat.add_zero,unit_ex,unit_all,true_implies,implies_true,Int.toNat_natCast,eq_self,and_self,eff_nil,cond_one,cond_int,ones_int,row_int,ones_bool,row_bool,cond_bool,ble0,Bool.true_and,Nat.sub_zero,List.getElem?_cons_zero,Option.some.injEq,Value.bool.injEq,Value.int.injEq,exists_eq_left',exists_eq_left]
 refine ⟨x.a.c,o2,rfl,cP_intro (fun h => absurd (of_decide_eq_true h) (by omega)) fun _ => ⟨x,⟨rfl,rfl,rfl,rfl,rfl,rfl,rfl,rfl,rfl⟩,x.a.c,o2,rfl,cP_intro (fun h => absurd e4 (bne_iff_ne.1 h)) fun _ => ⟨by decide,by unfold I64; omega,x,⟨hE,hi⟩,⟨rfl,rfl,rfl,rfl,rfl,rfl,rfl,rfl,rfl,rfl,rfl,rfl⟩,x,hE,rfl,⟨⟨rfl,rfl⟩,rfl,rfl,rfl,rfl,rfl,rfl,rfl,rfl,rfl⟩,by decide,by decide,x.blk,⟨o6,show 0 < 1099511627776 by decide,o7⟩,⟨rfl,rfl,w2.symm,w1.symm,rfl,rfl,rfl⟩,fun h0 => ?_,fun h0 => ?_⟩⟩⟩
 ·refine ⟨by decide,⟨by decide,by decide⟩,⟨x.a.d,x.k,0,⟨x.blk.enc,0,64,64⟩⟩,⟨o1,o5,⟨Nat.le_refl _,show 64 < 1099511627776 by decide,enc_u8 o6⟩,Nat.le_refl _⟩,⟨rfl,rfl,rfl,rfl⟩,⟨rfl,rfl,fun _ _ => rfl⟩,⟨0,Nat.zero_le _,rfl,rfl⟩,fun s hs => cP_intro (fun h => ?_) fun h => ?_⟩
  ·have h := of_decide_eq_true h
   exact ⟨by unfold I64; omega,⟨x.a.c.notes x.t x.k s,x.t,x.k + s⟩,⟨notes_ok o2 hc _ _ (by omega),by show x.t < (x.a.c.notes x.t x.k s).t; rw [notes_t]; exact o4⟩,⟨rfl,rfl⟩,rfl,by unfold I64; omega,s + 1,by omega,by omega,by omega,rfl⟩
  ·have h := of_decide_eq_false h
   have hse : s = x.blk.spnN := by omega
   subst hse
   rw [w1,w2]
   refine ⟨by unfold I64; omega,⟨x.a.l,⟨⟨#[]⟩,x.a.id + 1,x.a.ver + 1,x.k,x.c⟩⟩,o3,⟨rfl,rfl,rfl,rfl,rfl⟩,rfl,by decide,by unfold I64; omega,⟨rfl,rfl,by omega⟩,fun q hq => by obtain rfl : q = 0 := (by omega); rfl,(st _).symm ▸ rfl,rfl,rfl,rfl,rfl,by rw [hn]; rfl,fun q hq => by obtain rfl : q = 0 := (by omega); rw [hn]; rfl⟩
 ·refine ⟨by decide,⟨by decide,by have := spnN_pos o6; omega⟩,⟨x.a.d,x.k,0,⟨x.blk.enc,0,64,64 * x.blk.spnN⟩⟩,⟨o1,o5,⟨by have := spnN_pos o6; show 0 + 64<=64 * x.blk.spnN; omega,show 64 < 1099511627776 by decide,enc_u8 o6⟩,Nat.le_refl _⟩,⟨rfl,rfl,rfl,rfl⟩,⟨rfl,rfl,fun _ _ => rfl⟩,⟨0,Nat.zero_le _,rfl,rfl⟩,fun s hs => cP_intro (fun h => ?_) fun h => ?_⟩
  ·have h := of_decide_eq_true h
   exact ⟨by unfold I64; omega,⟨x.a.c.notes x.t x.k s,x.t,x.k + s⟩,⟨notes_ok o2 hc _ _ (by omega),by show x.t < (x.a.c.notes x.t x.k s).t; rw [notes_t]; exact o4⟩,⟨rfl,rfl⟩,rfl,by unfold I64; omega,s + 1,by omega,by omega,by omega,rfl⟩
  ·have h := of_decide_eq_false h
   have hse : s = x.blk.spnN := by omega
   subst hse
   rw [w1,w2]
   refine ⟨by unfold I64; omega,⟨x.a.l,⟨⟨#[]⟩,x.a.id + 1,x.a.ver + 1,x.k,x.c⟩⟩,o3,⟨rfl,rfl,rfl,rfl,rfl⟩,rfl,by decide,by unfold I64; omega,⟨rfl,rfl,by omega⟩,fun q hq => by obtain rfl : q = 0 := (by omega); rfl,(st _).symm ▸ rfl,rfl,rfl,rfl,rfl,by rw [hn]; rfl,fun q hq => by obtain rfl : q = 0 := (by omega); rw [hn]; rfl⟩
theorem pubPVC_true (x : ZChg) (hx : x.okE/\(∃ i j,x.inP i j)/\(∀ k,x.a.c.o k + 8 < 1099511627776)) : pubPVC x := by
 obtain ⟨hE,hi,hc⟩ := hx
 obtain ⟨⟨o1,o2,o3,o4,o5,o6,o7,o8,o9,o10,o11⟩,e1,e2,e3,e4,e5,e6,e7,e8⟩ := id hE
 have w1 : IntKind.u64.wrap (x.a.ver + 1) = x.a.ver + 1 := u64wrapN (by omega) (by omega)
 have w2 : IntKind.u64.wrap (x.a.id + 1) = x.a.id + 1 := u64wrapN (by omega) (by omega)
 have hs8 := spnN_le x.blk
 have hsc : (x.blk.spnN : Int) = spn x.c := hs8.2
 have st : ∀ N,(⟨x.a.d,x.k,0,⟨x.blk.enc,0,64,N⟩⟩ : DevS).d.store x.k 0 64 (fun q => x.blk.enc (0 + q)) = x.a.d.store x.k 0 64 x.blk.enc := fun _ => store0 _ _ _ _ _
 unfold pubPVC
 simp only [XH_w66,XH_w25,XH_w69,XH_w46,XH_w63,XH_w53,XH_w48,XH_w52,XH_w43,XH_w51,XH_w44,XH_w9,XH_w1,XH_w34,XH_w31,XH_w18,XH_w59,XH_w17,XH_w55,XH_w65,XH_w60,XH_w24,XH_w54,XH_w57,XH_w33,XH_w49,XH_w13,XH_w41,XH_w42,XH_w56,XH_w71,XH_w62,XH_w50,XH_w68,XH_w70,XH_w67,XH_w58,XH_w12,XH_w19]
 simp only [hd_iff,and_true,true_and,Nat.zero_add,Nat.add_zero,unit_ex,unit_all,true_implies,implies_true,Int.toNat_natCast,eq_self,and_self,eff_nil,cond_one,cond_int,ones_int,row_int,ones_bool,row_bool,cond_bool,ble0,Bool.true_and,Nat.sub_zero,List.getElem?_cons_zero,Option.some.injEq,Value.bool.injEq,Value.int.injEq,exists_eq_left',exists_eq_left]
 refine ⟨x.a.c,o2,rfl,cP_intro (fun h => absurd (of_decide_eq_true h) (by omega)) fun _ => ⟨x,⟨rfl,rfl,rfl,rfl,rfl,rfl,rfl,rfl,rfl⟩,x.a.c,o2,rfl,cP_intro (fun h => absurd e4 (bne_iff_ne.1 h)) fun _ => ⟨by decide,by unfold I64; omega,x,⟨hE,hi⟩,⟨rfl,rfl,rfl,rfl,rfl,rfl,rfl,rfl,rfl,rfl,rfl,rfl⟩,x,hE,rfl,⟨⟨rfl,rfl⟩,rfl,rfl,rfl,rfl,rfl,rfl,rfl,rfl,rfl⟩,by decide,by decide,x.blk,⟨o6,show 0 < 1099511627776 by decide,o7⟩,⟨rfl,rfl,w2.symm,w1.symm,rfl,rfl,rfl⟩,fun h0 => ?_,fun h0 => ?_⟩⟩⟩
 ·refine ⟨by decide,⟨by decide,by decide⟩,⟨x.a.d,x.k,0,⟨x.blk.enc,0,64,64⟩⟩,⟨o1,o5,⟨Nat.le_refl _,show 64 < 1099511627776 by decide,enc_u8 o6⟩,Nat.le_refl _⟩,⟨rfl,rfl,rfl,rfl⟩,⟨rfl,rfl,fun _ _ => rfl⟩,⟨0,Nat.zero_le _,rfl,rfl⟩,fun s hs => cP_intro (fun h => ?_) fun h => ?_⟩
  ·have h := of_decide_eq_true h
   exact ⟨by unfold I64; omega,⟨x.a.c.notes x.t x.k s,x.t,x.k + s⟩,⟨notes_ok o2 hc _ _ (by omega),by show x.t < (x.a.c.notes x.t x.k s).t; rw [notes_t]; exact o4⟩,⟨rfl,rfl⟩,rfl,by unfold I64; omega,s + 1,by omega,by omega,by omega,rfl⟩
  ·have h := of_decide_eq_false h
   have hse : s = x.blk.spnN := by omega
   subst hse
   rw [w1,w2]
   refine ⟨by unfold I64; omega,⟨x.a.l,⟨⟨#[]⟩,x.a.id + 1,x.a.ver + 1,x.k,x.c⟩⟩,o3,⟨rfl,rfl,rfl,rfl,rfl⟩,rfl,by rfl,by omega,by unfold I64; omega,⟨rfl,rfl⟩,fun q hq => by obtain rfl : q = 0 := (by omega); rfl,(st _).symm ▸ rfl,rfl,rfl,rfl,rfl,rfl,fun q _ => ?_⟩
   by_cases hq : q = x.a.n
   ·rw [hq,if_pos rfl]; show _ = bif Nat.beq x.a.n x.a.n then _ else _; rw [Nat.beq_refl]; rfl
   ·rw [if_neg hq]; show _ = bif Nat.beq q x.a.n then _ else _; rw [nbeq_decide,decide_eq_false hq]; rfl
 ·refine ⟨by decide,⟨by decide,by have := spnN_pos o6; omega⟩,⟨x.a.d,x.k,0,⟨x.blk.enc,0,64,64 * x.blk.spnN⟩⟩,⟨o1,o5,⟨by have := spnN_pos o6; show 0 + 64<=64 * x.blk.spnN; omega,show 64 < 1099511627776 by decide,enc_u8 o6⟩,Nat.le_refl _⟩,⟨rfl,rfl,rfl,rfl⟩,⟨rfl,rfl,fun _ _ => rfl⟩,⟨0,Nat.zero_le _,rfl,rfl⟩,fun s hs => cP_intro (fun h => ?_) fun h => ?_⟩
  ·have h := of_decide_eq_true h
   exact ⟨by unfold I64; omega,⟨x.a.c.notes x.t x.k s,x.t,x.k + s⟩,⟨notes_ok o2 hc _ _ (by omega),by show x.t < (x.a.c.notes x.t x.k s).t; rw [notes_t]; exact o4⟩,⟨rfl,rfl⟩,rfl,by unfold I64; omega,s + 1,by omega,by omega,by omega,rfl⟩
  ·have h := of_decide_eq_false h
   have hse : s = x.blk.spnN := by omega
   subst hse
   rw [w1,w2]
   refine ⟨by unfold I64; omega,⟨x.a.l,⟨⟨#[]⟩,x.a.id + 1,x.a.ver + 1,x.k,x.c⟩⟩,o3,⟨rfl,rfl,rfl,rfl,rfl⟩,rfl,by rfl,by omega,by unfold I64; omega,⟨rfl,rfl⟩,fun q hq => by obtain rfl : q = 0 := (by omega); rfl,(st _).symm ▸ rfl,rfl,rfl,rfl,rfl,rfl,fun q _ => ?_⟩
   by_cases hq : q = x.a.n
   ·rw [hq,if_pos rfl]; show _ = bif Nat.beq x.a.n x.a.n then _ else _; rw [Nat.beq_refl]; rfl
   ·rw [if_neg hq]; show _ = bif Nat.beq q x.a.n then _ else _; rw [nbeq_decide,decide_eq_false hq]; rfl
noncomputable def enqC (z : Bool) : PCtr := pdet ZChg (enqPub z).args 2 (enqPub z).l (fun x => Hd (x.okE/\(∃ i j,x.inP i j)/\(∀ k,x.a.c.o k + 8 < 1099511627776)/\(z = true->x.a.n = 0))) (fun _ => .tup [.slW 2 0 1 1,i64 0]) 3 (fun x => [.m x.enq.osP,.o (x.lst 4),.o (.room 4 (.row 1 1 (fun _ => [.bool false]) []))])
theorem tblA6_ok : TblOk Tryz.prog tblA6 := .append tblX_ok (.cons (ctrT_ok span_ok) (.cons (ctrT_ok enc_ok) (.cons (ctrT_ok storeP_ok) (.cons (ctrT_ok note0_ok) (.cons (ctrT_ok linePush_ok) (.cons (ctrT_ok shaped_ok) (.cons (ctrT_ok held_ok) (.cons (ctrT_ok fits_ok) (.cons (ctrT_ok owed0_ok) (.cons (ctrT_ok cnow0_ok) .nil))))))))))
theorem enqN_ok : CtrOk Tryz.prog 123 (enqC true).ctr := pctr_end tt_ok mixed tblA6_ok 11 anChg 200 6 (fun _ => ⟨rfl,rfl,rfl,rfl⟩) fun x hx => Eq.mp (pubNVC_ok x) (pubNVC_true x (by have h := hd_iff.1 hx; exact ⟨h.1,h.2.1,h.2.2.1,h.2.2.2 rfl⟩))
theorem enqP_ok : CtrOk Tryz.prog 123 (enqC false).ctr := pctr_end tt_ok mixed tblA6_ok 12 anChg 200 6 (fun _ => ⟨rfl,rfl,rfl,rfl⟩) fun x hx => Eq.mp (pubPVC_ok x) (pubPVC_true x (by have h := hd_iff.1 hx; exact ⟨h.1,h.2.1,h.2.2.1⟩))
end Go.Proofs.YtpnhfbegboogbaaGreat
end
section
namespace Go.Proofs.YtpnhfbegboogbaaGreat
open Go SE
set_option linter.unusedSimpArgs false
theorem shaped5VC_true (x : ZChg) : shaped5VC x := by
 unfold shaped5VC
 simp only [TF_w25,TF_w1]
 simp only [hd_iff,and_true,true_and,Nat.zero_add,Nat.add_zero,unit_ex,unit_all,true_implies,implies_true,Int.toNat_natCast,eq_self,and_self,eff_nil,cond_one,cond_int,ones_int,row_int,ones_bool,row_bool,cond_bool,ble0,Bool.true_and,Nat.sub_zero,List.getElem?_cons_zero,Option.some.injEq,Value.bool.injEq,Value.int.injEq,exists_eq_left',exists_eq_left,I64]
 omega
theorem fits5VC_true (x : ZChg) (hx : x.okD/\0<=x.a.id/\x.a.id < 1152921504606846976) : fits5VC x := by
 obtain ⟨⟨o1,o2,o3,o4,o5,o6,o7,o8,o9,o10,o11,o12,o13,o14,o15,o16,o17,o18,o19,o20,o21⟩,h1,h2⟩ := hx
 unfold fits5VC
 simp only [TF_w25,TF_w9,TF_w1]
 simp only [hd_iff,and_true,true_and,Nat.zero_add,Nat.add_zero,unit_ex,unit_all,true_implies,implies_true,Int.toNat_natCast,eq_self,and_self,eff_nil,cond_one,cond_int,ones_int,row_int,ones_bool,row_bool,cond_bool,ble0,Bool.true_and,Nat.sub_zero,List.getElem?_cons_zero,Option.some.injEq,Value.bool.injEq,Value.int.injEq,exists_eq_left',exists_eq_left]
 have w1 : IntKind.u64.wrap (x.a.ver + 1) = x.a.ver + 1 := u64wrapN (by omega) (by omega)
 have hq : ZBlk.may ⟨0,3,1,1,x.e,⟨#[]⟩,⟨#[]⟩⟩ := by
  obtain ⟨a,b⟩ := o6
  refine ⟨a,?_⟩
  rcases b with ⟨b,_⟩ | ⟨b,_⟩ | ⟨b,_⟩ | ⟨_,b1,b2,_,_,b4⟩
  ·exact absurd (show (3 : Int) = 0 from b) (by decide)
  ·exact absurd (show (3 : Int) = 1 from b) (by decide)
  ·exact absurd (show (3 : Int) = 2 from b) (by decide)
  ·exact .inr (.inr (.inr ⟨rfl,b1,b2,⟨show (1 : Int)<=1 by decide,show (1 : Int)<=2305843009213693952 by decide⟩,⟨show (1 : Int)<=1 by decide,show (1 : Int)<=2305843009213693952 by decide⟩,b4⟩))
 rw [w1]
 refine ⟨by decide,⟨0,3,1,1,x.e,⟨#[]⟩,⟨#[]⟩⟩,⟨by show 0 < 1099511627776; decide,by show 0 < 1099511627776; decide⟩,⟨rfl,rfl,rfl,rfl,rfl,rfl,rfl⟩,?_⟩
 rw [mayB_iff.2 hq,Bool.not_true,cP_false,o18,bne_self_eq_false,cP_false]
 exact cP_intro (fun h => absurd (of_decide_eq_true h) (by omega)) fun _ => ⟨by unfold I64; omega,cP_intro (fun h => absurd (of_decide_eq_true h) (by omega)) fun _ => trivial⟩
theorem held5VC_true (x : ZChg) (hx : x.okD/\∃ i j,x.inP i j) : held5VC x := by
 obtain ⟨⟨o1,o2,o3,o4,o5,o6,o7,o8,o9,o10,o11,o12,o13,o14,o15,o16,o17,o18,o19,o20,o21⟩,i,j,h1,h2,h3,h4,h5,h6⟩ := hx
 unfold held5VC
 simp only [TF_w25,TF_w18,TF_w29,TF_w1,TF_w17,TF_w27]
 simp only [hd_iff,and_true,true_and,Nat.zero_add,Nat.add_zero,unit_ex,unit_all,true_implies,implies_true,Int.toNat_natCast,eq_self,and_self,eff_nil,cond_one,cond_int,ones_int,row_int,ones_bool,row_bool,cond_bool,ble0,Bool.true_and,Nat.sub_zero,List.getElem?_cons_zero,Option.some.injEq,Value.bool.injEq,Value.int.injEq,exists_eq_left',exists_eq_left]
 refine ⟨by decide,⟨x.a.p,i,j⟩,⟨o10,h1,h2,h3,h4⟩,h5.symm,rfl,?_⟩
 refine cP_intro (fun h => absurd h6 (bne_iff_ne.1 h)) fun _ => ⟨⟨x.a.b,x.a.l,x.k⟩,⟨o11,o3,o13⟩,rfl,⟨rfl,rfl⟩,fun h => absurd h (not_or.2 ⟨o20,o21⟩),fun _ => ⟨by unfold I64; omega,rfl,rfl,rfl⟩⟩
theorem pubDVC_true (x : ZChg) (hx : x.okD/\(∃ i j,x.inP i j)/\0<=x.a.id/\x.a.id < 1152921504606846976) : pubDVC x := by
 obtain ⟨hD,hi,i1,i2⟩ := hx
 obtain ⟨o1,o2,o3,o4,o5,o6,o7,o8,o9,o10,o11,o12,o13,o14,o15,o16,o17,o18,o19,o20,o21⟩ := id hD
 have w1 : IntKind.u64.wrap (x.a.ver + 1) = x.a.ver + 1 := u64wrapN (by omega) (by omega)
 have st : ∀ N,(⟨x.a.d,x.k,0,⟨x.blkD.enc,0,64,N⟩⟩ : DevS).d.store x.k 0 64 (fun q => x.blkD.enc (0 + q)) = x.a.d.store x.k 0 64 x.blkD.enc := fun _ => store0 _ _ _ _ _
 unfold pubDVC
 simp only [TF_w10,TF_w25,TF_w18,TF_w29,TF_w1,TF_w26,TF_w17]
 simp only [hd_iff,and_true,true_and,Nat.zero_add,Nat.add_zero,unit_ex,unit_all,true_implies,implies_true,Int.toNat_natCast,eq_self,and_self,eff_nil,cond_one,cond_int,ones_int,row_int,ones_bool,row_bool,cond_bool,ble0,Bool.true_and,Nat.sub_zero,List.getElem?_cons_zero,Option.some.injEq,Value.bool.injEq,Value.int.injEq,exists_eq_left',exists_eq_left]
 refine ⟨x.a.c,o2,rfl,cP_intro (fun h => absurd (of_decide_eq_true h) (by omega)) fun _ => ⟨x,⟨rfl,rfl,rfl,rfl,rfl,rfl,rfl,rfl,rfl⟩,x.a.c,o2,rfl,cP_intro (fun h => absurd o16 (bne_iff_ne.1 h)) fun _ => ⟨by decide,x.a.l,o3,rfl,cP_intro (fun _ => ?_) fun h => absurd o14 (of_decide_eq_false h)⟩⟩⟩
 rw [← o15]
 simp only [beq_self_eq_true,Bool.and_self,Bool.not_true,cP_false]
 refine ⟨by unfold I64; omega,x,⟨hD,hi⟩,⟨rfl,rfl,rfl,rfl,rfl,rfl,rfl,rfl,rfl,rfl,rfl,rfl⟩,x,⟨hD,i1,i2⟩,rfl,⟨⟨rfl,rfl⟩,rfl,rfl,rfl,rfl,rfl,rfl,rfl,rfl,rfl⟩,by decide,by decide,x.blkD,⟨o6,show 0 < 1099511627776 by decide,show 0 < 1099511627776 by decide,rfl⟩,⟨rfl,rfl,rfl,w1.symm,rfl,rfl,rfl⟩,by decide,⟨by decide,by decide⟩,⟨x.a.d,x.k,0,⟨x.blkD.enc,0,64,64⟩⟩,⟨o1,o5,⟨Nat.le_refl _,show 64 < 1099511627776 by decide,enc_u8 o6⟩,Nat.le_refl _⟩,⟨rfl,rfl,rfl,rfl⟩,⟨rfl,rfl,fun _ _ => rfl⟩,by unfold I64; omega,⟨x.a.c,x.t,x.k + 0⟩,⟨o2,o4⟩,⟨rfl,rfl⟩,rfl,by unfold I64; omega,?_⟩
 rw [w1]
 refine ⟨by unfold I64; omega,x.a.l,o3,rfl,x.a.r,o12,rfl,⟨x.a.b,x.entD⟩,⟨o11,o19⟩,⟨rfl,rfl,rfl,rfl,rfl⟩,rfl,by rfl,by omega,by unfold I64; omega,rfl,fun q hq => by obtain rfl : q = 0 := (by omega); rfl,(st _).symm ▸ rfl,rfl,rfl,rfl,rfl,rfl,rfl,fun q _ => ?_⟩
 by_cases hq : q = x.a.n
 ·rw [hq,if_pos rfl]; show _ = bif Nat.beq x.a.n x.a.n then _ else _; rw [Nat.beq_refl]; rfl
 ·rw [if_neg hq]; show _ = bif Nat.beq q x.a.n then _ else _; rw [nbeq_decide,decide_eq_false hq]; rfl
theorem shaped5_ok : CtrOk Tryz.prog 156 shaped5C := det_end tt_ok mixed .nil noA 200 6 (fun _ => rfl) (fun _ => rfl) fun x _ => Eq.mp (shaped5VC_ok x) (shaped5VC_true x)
theorem fits5_ok : CtrOk Tryz.prog 159 fits5C := det_end tt_ok mixed tblA5_ok noA 200 6 (fun _ => rfl) (fun _ => rfl) fun x hx => Eq.mp (fits5VC_ok x) (fits5VC_true x (hd_iff.1 hx))
theorem held5_ok : CtrOk Tryz.prog 158 held5C := det_end tt_ok mixed tblA4_ok noA 200 6 (fun _ => rfl) (fun _ => rfl) fun x hx => Eq.mp (held5VC_ok x) (held5VC_true x (hd_iff.1 hx))
theorem tblD1_ok : TblOk Tryz.prog tblD1 := .append tblX_ok (.cons spanT_ok (.cons (ctrT_ok enc0_ok) (.cons (ctrT_ok storeP_ok) (.cons (ctrT_ok note0_ok) (.cons (ctrT_ok linePop_ok) (.cons (ctrT_ok lineHead_ok) (.cons (ctrT_ok bagPut_ok) (.cons (ctrT_ok now_ok) (.cons (ctrT_ok shaped5_ok) (.cons (ctrT_ok held5_ok) (.cons (ctrT_ok fits5_ok) (.cons (ctrT_ok owed0_ok) (.cons (ctrT_ok cnow0_ok) .nil)))))))))))))
theorem deq_ok : CtrOk Tryz.prog 123 deqPub.ctr := pctr_end tt_ok mixed tblD1_ok 12 noA 200 6 (fun _ => ⟨rfl,rfl,rfl,rfl⟩) fun x hx => Eq.mp (pubDVC_ok x) (pubDVC_true x (hd_iff.1 hx))
end Go.Proofs.YtpnhfbegboogbaaGreat
end
section
namespace Go.Proofs.YtpnhfbegboogbaaGreat
open Go SE
set_option linter.unusedSimpArgs false
theorem enter4VC_true (x : ZEn) (hx : x.r.ok/\x.c.ok/\x.t < x.r.t/\x.r.has x.t = 0) : enter4VC x := by
 obtain ⟨h1,h2,h3,h4⟩ := hx
 unfold enter4VC
 simp only [TD_w40,TD_w9,TD_w1,TD_w29,TD_w44,TD_w52,TD_w86,TD_w90,TD_w67,TD_w34,TD_w46,TD_w62,TD_w7,TD_w8,TD_w12,TD_w38,TD_w6]
 simp only [hd_iff,and_true,true_and,Nat.zero_add,Nat.add_zero,unit_ex,unit_all,true_implies,implies_true,Int.toNat_natCast,eq_self,and_self,eff_nil,cond_one,cond_int,ones_int,row_int,ones_bool,row_bool,cond_bool,ble0,Bool.true_and,Nat.sub_zero,List.getElem?_cons_zero,Option.some.injEq,Value.bool.injEq,Value.int.injEq,exists_eq_left',exists_eq_left]
 refine ⟨by decide,cP_intro (fun h => .inl (by have := of_decide_eq_true h; omega)) fun h => ⟨⟨x.r,x.t⟩,⟨h1,h3⟩,rfl,rfl,fun _ => ⟨x.c,h2,rfl,.inr ⟨by have := of_decide_eq_false h; omega,rfl,rfl,rfl⟩⟩,fun h' => absurd h4 h'⟩⟩
theorem enter5VC_true (x : ZEn) (hx : x.r.ok/\x.c.ok/\x.t < x.r.t/\x.r.has x.t = 0) : enter5VC x := by
 obtain ⟨h1,h2,h3,h4⟩ := hx
 unfold enter5VC
 simp only [TD_w90,TD_w40,TD_w9,TD_w1,TD_w67,TD_w52,TD_w34,TD_w46,TD_w86,TD_w62,TD_w29,TD_w44,TD_w6,TD_w7,TD_w8,TD_w12,TD_w38]
 simp only [hd_iff,and_true,true_and,Nat.zero_add,Nat.add_zero,unit_ex,unit_all,true_implies,implies_true,Int.toNat_natCast,eq_self,and_self,eff_nil,cond_one,cond_int,ones_int,row_int,ones_bool,row_bool,cond_bool,ble0,Bool.true_and,Nat.sub_zero,List.getElem?_cons_zero,Option.some.injEq,Value.bool.injEq,Value.int.injEq,exists_eq_left',exists_eq_left]
 refine ⟨by decide,⟨x.r,x.t⟩,⟨h1,h3⟩,rfl,rfl,fun _ => ⟨x.c,h2,rfl,.inr ⟨fun e => absurd e (by decide),rfl,rfl,rfl⟩⟩,fun h' => absurd h4 h'⟩
theorem findSVC_true (x : ZFi) (hx : x.l.ok/\x.f.line = -1) : findSVC x := by
 obtain ⟨h1,h2⟩ := hx
 unfold findSVC
 simp only [TD_w87,TD_w40,TD_w9,TD_w1,TD_w29,TD_w7,TD_w70,TD_w33,TD_w38,TD_w8,TD_w44,TD_w6]
 simp only [hd_iff,and_true,true_and,Nat.zero_add,Nat.add_zero,unit_ex,unit_all,true_implies,implies_true,Int.toNat_natCast,eq_self,and_self,eff_nil,cond_one,cond_int,ones_int,row_int,ones_bool,row_bool,cond_bool,ble0,Bool.true_and,Nat.sub_zero,List.getElem?_cons_zero,Option.some.injEq,Value.bool.injEq,Value.int.injEq,exists_eq_left',exists_eq_left]
 refine ⟨by decide,x.l,h1,rfl,cP_intro (fun h => cP_intro (fun h' => absurd (of_decide_eq_true h') (by omega)) fun _ => .inl ?_) fun h => .inr ?_⟩
 ·have hn : x.l.n = 0 := by simpa using h
  rw [ln_head0 hn]
  exact ⟨hn,⟨by rw [hn]; rfl,rfl,rfl,rfl,rfl,rfl⟩,rfl⟩
 ·have hn : x.l.n ≠ 0 := by simpa using h
  exact ⟨hn,⟨(decide_eq_true hn).symm,rfl,rfl,rfl,rfl,rfl⟩,rfl⟩
theorem ned_ok {n : Nat} (h : n<=400) : 0<=ned n/\ned n<=3 := by
 unfold ned
 repeat' split
 all_goals omega
theorem spn_ne {c : Int} (h : 0<=c/\c<=3) : spn c ≠ 0 := by
 rcases spn_cases c with h' | h' | h' | h' | h' <;> omega
theorem take4VC_true (x : ZTk) (hx : x.p.ok/\x.f.value.size<=400) : take4VC x := by
 obtain ⟨h1,h2⟩ := hx
 have hc : x.c 4 = ned x.f.value.size := if_pos rfl
 have hz := spn_ne (ned_ok h2)
 unfold take4VC
 simp only [TD_w104,TD_w84,TD_w40,TD_w9,TD_w1,TD_w29,TD_w80,TD_w81,TD_w75,TD_w79,TD_w98,TD_w93,TD_w7,TD_w8,TD_w44,TD_w6,TD_w11,TD_w13,TD_w12,TD_w38]
 simp only [hd_iff,and_true,true_and,Nat.zero_add,Nat.add_zero,unit_ex,unit_all,true_implies,implies_true,Int.toNat_natCast,eq_self,and_self,eff_nil,cond_one,cond_int,ones_int,row_int,ones_bool,row_bool,cond_bool,ble0,Bool.true_and,Nat.sub_zero,List.getElem?_cons_zero,Option.some.injEq,Value.bool.injEq,Value.int.injEq,exists_eq_left',exists_eq_left,hc]
 exact ⟨by decide,⟨x.p,ned x.f.value.size⟩,h1,rfl,rfl,fun h => absurd h hz,fun h => .inl ⟨h.2,rfl,rfl⟩,fun y hy => .inr ⟨y,hy.2,rfl,rfl⟩⟩
theorem take5VC_true (x : ZTk) (hx : x.p.ok/\x.f.value.size<=400) : take5VC x := by
 obtain ⟨h1,h2⟩ := hx
 have hc : x.c 5 = 0 := if_neg (by decide)
 have hn : ned 0 = 0 := rfl
 unfold take5VC
 simp only [TD_w104,TD_w85,TD_w40,TD_w9,TD_w1,TD_w29,TD_w81,TD_w75,TD_w79,TD_w98,TD_w93,TD_w7,TD_w8,TD_w44,TD_w6,TD_w11,TD_w13,TD_w12,TD_w38]
 simp only [hd_iff,and_true,true_and,Nat.zero_add,Nat.add_zero,unit_ex,unit_all,true_implies,implies_true,Int.toNat_natCast,eq_self,and_self,eff_nil,cond_one,cond_int,ones_int,row_int,ones_bool,row_bool,cond_bool,ble0,Bool.true_and,Nat.sub_zero,List.getElem?_cons_zero,Option.some.injEq,Value.bool.injEq,Value.int.injEq,exists_eq_left',exists_eq_left,hc,hn]
 exact ⟨by decide,⟨x.p,0⟩,h1,rfl,rfl,fun h => absurd (show spn 0 = 0 from h) (by decide),fun h => .inl ⟨h.2,rfl,rfl⟩,fun y hy => .inr ⟨y,hy.2,rfl,rfl⟩⟩
theorem leave4VC_true (x : ZLv) (hx : x.r.ok/\x.t < x.r.t) : leave4VC x := by
 unfold leave4VC
 simp only [TD_w99,TD_w95,TD_w13,TD_w12,TD_w38,TD_w40,TD_w9,TD_w1,TD_w29,TD_w34,TD_w7,TD_w8,TD_w44,TD_w6]
 simp only [hd_iff,and_true,true_and,Nat.zero_add,Nat.add_zero,unit_ex,unit_all,true_implies,implies_true,Int.toNat_natCast,eq_self,and_self,eff_nil,cond_one,cond_int,ones_int,row_int,ones_bool,row_bool,cond_bool,ble0,Bool.true_and,Nat.sub_zero,List.getElem?_cons_zero,Option.some.injEq,Value.bool.injEq,Value.int.injEq,exists_eq_left',exists_eq_left]
 exact ⟨by decide,⟨x.r,x.t⟩,hx,rfl,rfl,rfl⟩
theorem leave5VC_true (x : ZLv) (hx : x.r.ok/\x.t < x.r.t) : leave5VC x := by
 unfold leave5VC
 simp only [TD_w99,TD_w95,TD_w13,TD_w12,TD_w38,TD_w40,TD_w9,TD_w1,TD_w29,TD_w34,TD_w7,TD_w8,TD_w44,TD_w6]
 simp only [hd_iff,and_true,true_and,Nat.zero_add,Nat.add_zero,unit_ex,unit_all,true_implies,implies_true,Int.toNat_natCast,eq_self,and_self,eff_nil,cond_one,cond_int,ones_int,row_int,ones_bool,row_bool,cond_bool,ble0,Bool.true_and,Nat.sub_zero,List.getElem?_cons_zero,Option.some.injEq,Value.bool.injEq,Value.int.injEq,exists_eq_left',exists_eq_left]
 exact ⟨by decide,⟨x.r,x.t⟩,hx,rfl,rfl,rfl⟩
theorem draft_may {c : Int} (h : 0<=c/\c<=3) : ZBlk.may ⟨c,0,0,0,0,⟨#[]⟩,⟨#[]⟩⟩ := ⟨spn_ne h,.inl ⟨rfl,rfl,rfl,rfl,rfl,rfl⟩⟩
theorem draft_u8 {c : Int} (h : 0<=c/\c<=3) (k : Nat) : 0<=(ZBlk.mk c 0 0 0 0 ⟨#[]⟩ ⟨#[]⟩).headG (fun _ => 0) (cpc c).toNat k/\(ZBlk.mk c 0 0 0 0 ⟨#[]⟩ ⟨#[]⟩).headG (fun _ => 0) (cpc c).toNat k < 256 := by
 have hd : (ZBlk.mk c 0 0 0 0 ⟨#[]⟩ ⟨#[]⟩).dat = fun _ => 0 := by
  funext i; unfold ZBlk.dat; rw [if_neg]; exact Nat.not_lt_zero i
 by_cases hk : k < 64
 ·have := enc_u8 (draft_may h) k
  unfold ZBlk.enc at this
  rw [if_pos hk,hd] at this
  exact this
 ·unfold ZBlk.headG
  rw [if_neg (by omega),if_neg (by omega)]
  exact ⟨Int.le_refl 0,show (0 : Int) < 256 by decide⟩
theorem wr_d0 {x : ZWr} (h : x.p = 0) (N : Nat) : x.d' = (⟨x.d,x.ln,0,⟨x.draft.headG (fun _ => 0) (cpc x.c).toNat,0,64,N⟩⟩ : DevS).d.store x.ln 0 64 (fun q => x.draft.headG (fun _ => 0) (cpc x.c).toNat (0 + q)) := by
 unfold ZWr.d'
 rw [if_pos h,store0]
theorem write40VC_true (x : ZWr) (hx : x.ok/\x.p = 0) : write40VC x := by
 obtain ⟨⟨o1,o2,o3,o4,o5,o6,o7,o8⟩,hp⟩ := hx
 have hs := spn_cases x.c
 unfold write40VC
 simp only [TD_w74,TD_w76,TD_w41,TD_w97,TD_w58,TD_w10,TD_w23,TD_w59,TD_w60,TD_w40,TD_w9,TD_w1,TD_w29,TD_w43,TD_w7,TD_w8,TD_w44,TD_w6,TD_w14,TD_w33,TD_w38,TD_w11,TD_w13,TD_w12,TD_w78]
 simp only [hd_iff,and_true,true_and,Nat.zero_add,Nat.add_zero,unit_ex,unit_all,true_implies,implies_true,Int.toNat_natCast,eq_self,and_self,eff_nil,cond_one,cond_int,ones_int,row_int,ones_bool,row_bool,cond_bool,ble0,Bool.true_and,Nat.sub_zero,List.getElem?_cons_zero,Option.some.injEq,Value.bool.injEq,Value.int.injEq,exists_eq_left',exists_eq_left]
 refine ⟨by decide,x.c,⟨o2,o3⟩,rfl,⟨x.d,x.ln,0,⟨x.draft.headG (fun _ => 0) (cpc x.c).toNat,0,64,64⟩⟩,⟨o1,by show x.ln < x.d.n; omega,⟨Nat.le_refl _,show 64 < 1099511627776 by decide,draft_u8 ⟨o2,o3⟩⟩,Nat.le_refl _⟩,⟨rfl,rfl,rfl,rfl⟩,⟨rfl,rfl,fun _ _ => rfl⟩,by unfold I64; omega,by unfold I64; omega,cP_intro (fun h => .inr ⟨beq_iff_eq.1 h,congrArg (fun d => ownM (DevM.os d)) (wr_d0 hp 64)⟩) fun h => .inl ⟨beq_eq_false_iff_ne.1 h,congrArg (fun d => ownM (DevM.os d)) (wr_d0 hp 64)⟩⟩
theorem write50VC_true (x : ZWr) (hx : x.ok/\x.p = 0) : write50VC x := by
 obtain ⟨⟨o1,o2,o3,o4,o5,o6,o7,o8⟩,hp⟩ := hx
 have hs := spn_cases x.c
 unfold write50VC
 simp only [TD_w74,TD_w76,TD_w41,TD_w97,TD_w58,TD_w10,TD_w23,TD_w59,TD_w60,TD_w40,TD_w9,TD_w1,TD_w29,TD_w43,TD_w7,TD_w8,TD_w44,TD_w6,TD_w14,TD_w33,TD_w38,TD_w11,TD_w13,TD_w12,TD_w78]
 simp only [hd_iff,and_true,true_and,Nat.zero_add,Nat.add_zero,unit_ex,unit_all,true_implies,implies_true,Int.toNat_natCast,eq_self,and_self,eff_nil,cond_one,cond_int,ones_int,row_int,ones_bool,row_bool,cond_bool,ble0,Bool.true_and,Nat.sub_zero,List.getElem?_cons_zero,Option.some.injEq,Value.bool.injEq,Value.int.injEq,exists_eq_left',exists_eq_left]
 refine ⟨by decide,x.c,⟨o2,o3⟩,rfl,⟨x.d,x.ln,0,⟨x.draft.headG (fun _ => 0) (cpc x.c).toNat,0,64,64⟩⟩,⟨o1,by show x.ln < x.d.n; omega,⟨Nat.le_refl _,show 64 < 1099511627776 by decide,draft_u8 ⟨o2,o3⟩⟩,Nat.le_refl _⟩,⟨rfl,rfl,rfl,rfl⟩,⟨rfl,rfl,fun _ _ => rfl⟩,by unfold I64; omega,by unfold I64; omega,cP_intro (fun h => .inr ⟨beq_iff_eq.1 h,congrArg (fun d => ownM (DevM.os d)) (wr_d0 hp 64)⟩) fun h => .inl ⟨beq_eq_false_iff_ne.1 h,congrArg (fun d => ownM (DevM.os d)) (wr_d0 hp 64)⟩⟩
theorem nil_app (v : ByteArray) : (⟨#[]⟩ : ByteArray) ++ v = v := by
 have : ∀ a : ByteArray,a = ⟨a.data⟩ := fun a => rfl
 apply ByteArray.ext
 simp
theorem strAt_ext {s : ByteArray} {a k : Nat} (hk : a + k < s.size) : strAt (s.extract a s.size) k = strAt s (a + k) := by
 unfold strAt
 rw [ByteArray.data_extract]
 have h1 : a + k < s.data.size := hk
 simp only [List.getD_eq_getElem?_getD,Array.getElem?_toList,Array.getElem?_extract]
 rw [if_pos (by have : s.size = s.data.size := rfl; omega)]
theorem enc_hi (x : ZBlk) {m : Nat} (h : 64<=m) : 0<=x.enc m/\x.enc m < 256 := by
 unfold ZBlk.enc
 rw [if_neg (by omega)]
 split
 ·decide
 ·exact dat_blk _ _
theorem wr_row (x : ZWr) {t q o B : Nat} (hq : q < 64) (ho : o = min (28 + 63 * t) x.f.value.size) (hB : (x.f.value.extract o x.f.value.size).size<=63/\B = 1 + (x.f.value.extract o x.f.value.size).size ∨ 63 < (x.f.value.extract o x.f.value.size).size/\B = 64) : [Value.int .u8 (x.blk.enc (64 * (t + 1) + q))] = bif Nat.ble 1 q && Nat.blt q B then [Value.int .u8 (strAt (x.f.value.extract o x.f.value.size) (q - 1))] else Cs.eff (fun _ => [Value.int .u8 0]) [(0,[Value.int .u8 2])] q := by
 have hsz : (x.f.value.extract o x.f.value.size).size = x.f.value.size - o := by rw [ByteArray.size_extract]; omega
 rw [hsz] at hB
 rw [enc_line _ _ _ hq]
 unfold ZBlk.dat
 rw [show x.blk.key ++ x.blk.value = x.f.value from nil_app _]
 by_cases h0 : q = 0
 ·subst h0; rfl
 ·rw [if_neg h0]
  by_cases h1 : 28 + 63 * t + (q - 1) < x.f.value.size
  ·rw [if_pos h1,show (Nat.ble 1 q && Nat.blt q B) = true by rw [blt_iff_decide,Nat.ble_eq_true_of_le (by omega)]; simp; omega,cond_true,strAt_ext (by omega),show o = 28 + 63 * t by omega]
  ·rw [if_neg h1,show (Nat.ble 1 q && Nat.blt q B) = false by rw [blt_iff_decide,Nat.ble_eq_true_of_le (by omega)]; simp; omega,cond_false]
   show _ = bif Nat.beq q 0 then _ else _
   rw [nbeq_decide,decide_eq_false h0]; rfl
theorem wr_d1 {x : ZWr} (h : x.p ≠ 0) (N : Nat) : x.d' = (⟨x.d,x.ln + x.p,0,⟨fun q => x.blk.enc (64 * x.p + q),0,64,N⟩⟩ : DevS).d.store (x.ln + x.p) 0 64 (fun q => (fun q => x.blk.enc (64 * x.p + q)) (0 + q)) := by
 unfold ZWr.d'
 rw [if_neg h]
 exact (store0 _ _ _ _ (fun q => x.blk.enc (64 * x.p + q))).symm
theorem write41VC_true (x : ZWr) (hx : x.ok/\x.p ≠ 0) : write41VC x := by
 obtain ⟨⟨o1,o2,o3,o4,o5,o6,o7,o8⟩,hp⟩ := hx
 have hs := spn_cases x.c
 obtain ⟨t,ht⟩ : ∃ t,x.p = t + 1 := ⟨x.p - 1,by omega⟩
 have hn := o1.1
 have e1 : (imin (imax (28 + ((x.p : Int) - 1) * 63) 0) x.f.value.size).toNat = min (28 + 63 * t) x.f.value.size := by unfold imin imax; omega
 have e0 : 0<=imin (imax (28 + ((x.p : Int) - 1) * 63) 0) x.f.value.size := by unfold imin imax; omega
 unfold write41VC
 simp only [TD_w74,TD_w76,TD_w41,TD_w49,TD_w23,TD_w10,TD_w47,TD_w50,TD_w55,TD_w78,TD_w16,TD_w40,TD_w9,TD_w1,TD_w29,TD_w43,TD_w7,TD_w8,TD_w44,TD_w6,TD_w83,TD_w14,TD_w33,TD_w38,TD_w11,TD_w13,TD_w12]
 simp only [hd_iff,and_true,true_and,Nat.zero_add,Nat.add_zero,unit_ex,unit_all,true_implies,implies_true,Int.toNat_natCast,eq_self,and_self,eff_nil,cond_one,cond_int,ones_int,row_int,ones_bool,row_bool,cond_bool,ble0,Bool.true_and,Nat.sub_zero,List.getElem?_cons_zero,Option.some.injEq,Value.bool.injEq,Value.int.injEq,exists_eq_left',exists_eq_left,e1]
 refine ⟨by decide,cP_intro (fun h => absurd (beq_iff_eq.1 h) (by omega)) fun _ => ⟨by decide,by decide,by decide,by unfold I64; omega,by unfold I64; omega,by unfold I64; omega,by decide,by decide,e0,⟨Nat.min_le_right _ _,Nat.le_refl _⟩,by decide,cP_intro (fun h => ?_) fun h => ?_⟩⟩
 ·refine ⟨by unfold I64; omega,⟨x.d,x.ln + x.p,0,⟨fun q => x.blk.enc (64 * x.p + q),0,64,64⟩⟩,⟨o1,by show x.ln + x.p < x.d.n; omega,⟨Nat.le_refl _,show 64 < 1099511627776 by decide,fun k => enc_hi _ (by omega)⟩,Nat.le_refl _⟩,⟨rfl,rfl,rfl,rfl⟩,⟨rfl,rfl,fun q hq => ?_⟩,by unfold I64; omega,by unfold I64; omega,cP_intro (fun h => .inr ⟨beq_iff_eq.1 h,congrArg (fun d => ownM (DevM.os d)) (wr_d1 hp 64)⟩) fun h => .inl ⟨beq_eq_false_iff_ne.1 h,congrArg (fun d => ownM (DevM.os d)) (wr_d1 hp 64)⟩⟩
  rw [ht]; exact wr_row x hq rfl (.inl ⟨Nat.le_of_ble_eq_true h,rfl⟩)
 ·refine ⟨by unfold I64; omega,⟨x.d,x.ln + x.p,0,⟨fun q => x.blk.enc (64 * x.p + q),0,64,64⟩⟩,⟨o1,by show x.ln + x.p < x.d.n; omega,⟨Nat.le_refl _,show 64 < 1099511627776 by decide,fun k => enc_hi _ (by omega)⟩,Nat.le_refl _⟩,⟨rfl,rfl,rfl,rfl⟩,⟨rfl,rfl,fun q hq => ?_⟩,by unfold I64; omega,by unfold I64; omega,cP_intro (fun h => .inr ⟨beq_iff_eq.1 h,congrArg (fun d => ownM (DevM.os d)) (wr_d1 hp 64)⟩) fun h => .inl ⟨beq_eq_false_iff_ne.1 h,congrArg (fun d => ownM (DevM.os d)) (wr_d1 hp 64)⟩⟩
  rw [ht]; exact wr_row x hq rfl (.inr ⟨Nat.not_le.1 fun hh => (by rw [Nat.ble_eq_true_of_le hh] at h; cases h),rfl⟩)
theorem re_b {b : ZBlk} (h : b.may) (hk : b.kind = 2) : b.key = ⟨#[]⟩/\b.value.size<=400 := by
 rcases h.2 with h | h | h | h <;> first | (exfalso; have := h.1; omega) | exact ⟨h.2.1,h.2.2.1⟩
noncomputable def ZRe.de (x : ZRe) : ZDe := ⟨x.b.cls,x.b.id,x.b.ver,x.b.epoch,x.b.value,x.b.enc⟩
theorem re_de {x : ZRe} (h : x.b.may) (hk : x.b.kind = 2) : x.de.b = x.b := by
 have := (re_b h hk).1
 unfold ZRe.de ZDe.b
 rw [← hk,← this]
theorem read0VC_true (x : ZRe) (hx : x.ok/\x.p = 0) : read0VC x := by
 obtain ⟨⟨o1,o2,o3,o4,o5,o6⟩,hp⟩ := hx
 have hs := spnN_le x.b
 have h1 := spnN_pos o2
 have hde := re_de o2 o3
 have hv := re_b o2 o3
 have hn := o1.1
 have by_ : ∀ q,q < 64->x.b.enc q = x.d.b (x.ln * 193 + q) := fun q hq => by
  rw [← o6 q (by omega),show q / 64 = 0 by omega,show q % 64 = q by omega,Nat.add_zero]
 unfold read0VC
 simp only [TD_w73,TD_w78,TD_w97,TD_w40,TD_w9,TD_w1,TD_w29,TD_w43,TD_w8,TD_w14,TD_w33,TD_w102,TD_w57,TD_w51,TD_w100,TD_w77,TD_w91,TD_w65,TD_w101,TD_w26,TD_w17,TD_w87,TD_w44,TD_w61,TD_w82,TD_w6,TD_w103,TD_w106,TD_w38,TD_w11,TD_w13,TD_w12]
 simp only [hd_iff,and_true,true_and,Nat.zero_add,Nat.add_zero,unit_ex,unit_all,true_implies,implies_true,Int.toNat_natCast,eq_self,and_self,eff_nil,cond_one,cond_int,ones_int,row_int,ones_bool,row_bool,cond_bool,ble0,Bool.true_and,Nat.sub_zero,List.getElem?_cons_zero,Option.some.injEq,Value.bool.injEq,Value.int.injEq,exists_eq_left',exists_eq_left]
 refine ⟨by decide,by unfold I64; omega,⟨x.d,x.ln⟩,⟨o1,by show x.ln < x.d.n; omega⟩,by show (x.ln : Int) = x.ln + 0; omega,rfl,by decide,by decide,by unfold I64; omega,cP_intro (fun h => .inl ⟨by simpa using h,rfl,by_⟩) fun h => ?_⟩
 have hc : 1 = spn x.b.cls := by simpa using h
 have hsn : x.b.spnN = 1 := by omega
 have he : 64 * x.de.b.spnN = 64 := by rw [hde,hsn]
 refine ⟨x.de,⟨by rw [hde]; exact o2,by show x.b.value.size < _; omega,fun k _ => by rw [hde]; rfl⟩,he,⟨he,fun q hq => by_ q (by omega)⟩,?_⟩
 rw [show (x.de.id == x.b.id) = true from beq_self_eq_true _,show (x.de.ver == x.b.ver) = true from beq_self_eq_true _,cP_true,cP_true]
 exact cP_intro (fun h => .inr (.inl ⟨⟨hc,of_decide_eq_true h⟩,rfl,rfl⟩)) fun h => .inr (.inr ⟨⟨hc,by have := of_decide_eq_false h; omega⟩,rfl,rfl⟩)
theorem read1VC_true (x : ZRe) (hx : x.ok/\x.p ≠ 0) : read1VC x := by
 obtain ⟨⟨o1,o2,o3,o4,o5,o6⟩,hp⟩ := hx
 have hs := spnN_le x.b
 have h1 := spnN_pos o2
 have hde := re_de o2 o3
 have hv := re_b o2 o3
 have hn := o1.1
 unfold read1VC
 simp only [TD_w73,TD_w78,TD_w105,TD_w94,TD_w40,TD_w9,TD_w1,TD_w29,TD_w43,TD_w83,TD_w8,TD_w14,TD_w33,TD_w42,TD_w20,TD_w77,TD_w91,TD_w2,TD_w63,TD_w92,TD_w89,TD_w25,TD_w18,TD_w88,TD_w5,TD_w87,TD_w44,TD_w56,TD_w82,TD_w6,TD_w103,TD_w106,TD_w24,TD_w38,TD_w11,TD_w13,TD_w12]
 simp only [hd_iff,and_true,true_and,Nat.zero_add,Nat.add_zero,unit_ex,unit_all,true_implies,implies_true,Int.toNat_natCast,eq_self,and_self,eff_nil,cond_one,cond_int,ones_int,row_int,ones_bool,row_bool,cond_bool,ble0,Bool.true_and,Nat.sub_zero,List.getElem?_cons_zero,Option.some.injEq,Value.bool.injEq,Value.int.injEq,exists_eq_left',exists_eq_left]
 refine ⟨Nat.le_refl _,cP_intro (fun h => absurd (Nat.eq_of_beq_eq_true h) (by omega)) fun _ => ⟨by omega,by decide,by unfold I64; omega,⟨x.d,x.ln + x.p⟩,⟨o1,by show x.ln + x.p < x.d.n; omega⟩,rfl,rfl,?_⟩⟩
 have row : ∀ q,q < 64 * (x.p + 1)->x.b.enc q = bif Nat.blt q (64 * x.p) then x.b.enc q else x.d.b ((x.ln + x.p) * 193 + (q - 64 * x.p)) := fun q hq => by
  by_cases hh : q < 64 * x.p
  ·rw [nblt_iff.2 hh]; rfl
  ·rw [show Nat.blt q (64 * x.p) = false by rw [blt_iff_decide]; exact decide_eq_false hh,cond_false,← o6 q (by omega),show q / 64 = x.p by omega,show q % 64 = q - 64 * x.p by omega]
 refine ⟨by decide,by omega,by unfold I64; omega,cP_intro (fun h => .inl ⟨by simpa using h,by omega,rfl,by omega,row⟩) fun h => ?_⟩
 have hc : (x.p : Int) + 1 = spn x.b.cls := by simpa using h
 have hsn : x.b.spnN = x.p + 1 := by omega
 have he : 64 * x.de.b.spnN = 64 * x.p + 64 := by rw [hde,hsn]; omega
 refine ⟨x.de,⟨by rw [hde]; exact o2,by show x.b.value.size < _; omega,fun k _ => by rw [hde]; rfl⟩,he,⟨he,fun q hq => row q (by omega)⟩,?_⟩
 rw [show (x.de.id == x.b.id) = true from beq_self_eq_true _,show (x.de.ver == x.b.ver) = true from beq_self_eq_true _,cP_true,cP_true]
 exact cP_intro (fun h => .inr (.inl ⟨⟨hc,of_decide_eq_true h⟩,rfl,rfl⟩)) fun h => .inr (.inr ⟨⟨hc,by have := of_decide_eq_false h; omega⟩,rfl,rfl⟩)
theorem tblT0_ok : TblOk Tryz.prog tblT0 := .cons cloneT_ok .nil
theorem tblT1_ok : TblOk Tryz.prog tblT1 := .append tblT0_ok (.cons (ctrT_ok enter_ok) (.cons (ctrT_ok cnow0_ok) .nil))
theorem tblT2_ok : TblOk Tryz.prog tblT2 := .append tblT0_ok (.cons (ctrT_ok lineHead_ok) .nil)
theorem tblT3_ok : TblOk Tryz.prog tblT3 := .append tblT0_ok (.cons needT_ok (.cons (ctrT_ok take_ok) .nil))
theorem tblT4_ok : TblOk Tryz.prog tblT4 := .append tblT0_ok (.cons spanT_ok (.cons (ctrT_ok draft_ok) (.cons (ctrT_ok storeP_ok) .nil)))
theorem tblT5_ok : TblOk Tryz.prog tblT5 := .append tblT0_ok (.cons (ctrT_ok leave_ok) .nil)
theorem tblT6_ok : TblOk Tryz.prog tblT6 := .append tblT0_ok (.cons spanT_ok (.cons (ctrT_ok dec2_ok) (.cons (ctrT_ok load_ok) .nil)))
theorem enterS4_ok : CtrOk Tryz.prog 16 (enterS 4) := ctr_endL tt_ok mixed tblT1_ok noA 200 6 (fun _ => rfl) (fun _ => ⟨fun _ => rfl,fun _ => rfl,trivial⟩) fun x hx => Eq.mp (enter4VC_ok x) (enter4VC_true x (hd_iff.1 hx))
theorem enterS5_ok : CtrOk Tryz.prog 16 (enterS 5) := ctr_endL tt_ok mixed tblT1_ok noA 200 6 (fun _ => rfl) (fun _ => ⟨fun _ => rfl,fun _ => rfl,trivial⟩) fun x hx => Eq.mp (enter5VC_ok x) (enter5VC_true x (hd_iff.1 hx))
theorem findS_ok : CtrOk Tryz.prog 16 findS := ctr_endL tt_ok mixed tblT2_ok noA 200 6 (fun _ => rfl) (fun _ => ⟨fun _ => rfl,fun _ => rfl,trivial⟩) fun x hx => Eq.mp (findSVC_ok x) (findSVC_true x (hd_iff.1 hx))
theorem takeS4_ok : CtrOk Tryz.prog 16 (takeS 4) := ctr_endL tt_ok mixed tblT3_ok noA 200 6 (fun _ => rfl) (fun _ => ⟨fun _ => rfl,fun _ => rfl,trivial⟩) fun x hx => Eq.mp (take4VC_ok x) (take4VC_true x (hd_iff.1 hx))
theorem takeS5_ok : CtrOk Tryz.prog 16 (takeS 5) := ctr_endL tt_ok mixed tblT3_ok noA 200 6 (fun _ => rfl) (fun _ => ⟨fun _ => rfl,fun _ => rfl,trivial⟩) fun x hx => Eq.mp (take5VC_ok x) (take5VC_true x (hd_iff.1 hx))
theorem leaveS4_ok : CtrOk Tryz.prog 16 (leaveS 4) := det_end tt_ok mixed tblT5_ok noA 200 6 (fun _ => rfl) (fun _ => rfl) fun x hx => Eq.mp (leave4VC_ok x) (leave4VC_true x (hd_iff.1 hx))
theorem leaveS5_ok : CtrOk Tryz.prog 16 (leaveS 5) := det_end tt_ok mixed tblT5_ok noA 200 6 (fun _ => rfl) (fun _ => rfl) fun x hx => Eq.mp (leave5VC_ok x) (leave5VC_true x (hd_iff.1 hx))
theorem writeS40_ok : CtrOk Tryz.prog 16 (writeS0 4) := ctr_endL tt_ok mixed tblT4_ok noA 200 6 (fun _ => rfl) (fun _ => ⟨fun _ => rfl,fun _ => rfl,trivial⟩) fun x hx => Eq.mp (write40VC_ok x) (write40VC_true x (hd_iff.1 hx))
theorem writeS50_ok : CtrOk Tryz.prog 16 (writeS0 5) := ctr_endL tt_ok mixed tblT4_ok noA 200 6 (fun _ => rfl) (fun _ => ⟨fun _ => rfl,fun _ => rfl,trivial⟩) fun x hx => Eq.mp (write50VC_ok x) (write50VC_true x (hd_iff.1 hx))
theorem writeS1_ok : CtrOk Tryz.prog 16 writeS1 := ctr_endL tt_ok mixed tblT4_ok noA 200 6 (fun _ => rfl) (fun _ => ⟨fun _ => rfl,fun _ => rfl,trivial⟩) fun x hx => Eq.mp (write41VC_ok x) (write41VC_true x (hd_iff.1 hx))
theorem readS0_ok : CtrOk Tryz.prog 16 readS0 := ctr_endL tt_ok mixed tblT6_ok noA 200 6 (fun _ => rfl) (fun _ => ⟨fun _ => rfl,fun _ => rfl,fun _ => rfl,trivial⟩) fun x hx => Eq.mp (read0VC_ok x) (read0VC_true x (hd_iff.1 hx))
theorem readS1_ok : CtrOk Tryz.prog 16 readS1 := ctr_endL tt_ok mixed tblT6_ok noA 200 6 (fun _ => rfl) (fun _ => ⟨fun _ => rfl,fun _ => rfl,fun _ => rfl,trivial⟩) fun x hx => Eq.mp (read1VC_ok x) (read1VC_true x (hd_iff.1 hx))
end Go.Proofs.YtpnhfbegboogbaaGreat
end
section
namespace Go.Proofs.YtpnhfbegboogbaaGreat
open Go SE
structure ZBy where
 d : DevM
 b : ZBlk
 ln : Nat
def lies (d : DevM) (b : ZBlk) (ln : Nat) : Prop := ∀ q,q < 64 * b.spnN->d.b ((ln + q / 64) * 193 + q % 64) = b.enc q
def ZBy.ok (x : ZBy) : Prop := x.d.ok/\x.b.may/\x.b.kind = 2/\x.ln + spn x.b.cls<=x.d.n/\lies x.d x.b x.ln
noncomputable def bytesS : Ctr := det ZBy (fun x => [.ptr 0 0,i64 x.ln,i64 x.b.cls]) 3 (fun x => [arnD,devS,.abs (ownM x.d.os)]) (fun x => Hd x.ok) (fun x => .slW 3 0 1 (64 * x.b.spnN)) 4 (fun x => [arnD,devS,.abs (ownM x.d.os),rowU x.b.enc (64 * x.b.spnN)])
noncomputable def annB (x : ZBy) : FuncId->Anns := fun f => bif Nat.beq f 90 then (fun b _ _ => bif Nat.beq b 0 then [
 { σ := Unit,fr := fun _ => [(13,i64 0),(7,nilS)],ob := fun _ => [],inv := fun _ => Hd True,meas := fun _ => 20,test := fun fr _ => (match SE.look fr 7 with | .slW _ _ _ _ => false | _ => true) },
 { σ := Nat,fr := fun i => [(13,i64 i),(7,.slW 3 0 1 (64 * i))],ob := fun i => [(3,some (rowU x.b.enc (64 * i)))],nx := 1,inv := fun i => Hd (1<=i/\i<=x.b.spnN),meas := fun i => x.b.spnN - i,test := fun fr _ => (match SE.look fr 7 with | .slW _ _ _ _ => true | _ => false) }] else []) else fun _ _ _ => []
noncomputable def tblV1 : WTbl := [(84,spanT),(133,ctrT loadP.ctr)]
noncomputable def valueS : Ctr := det ZBy (fun x => [.ptr 0 0,.agg [.lit (.string ⟨#[]⟩),u64 x.b.id,u64 x.b.ver,i64 x.ln,i64 x.b.cls],i64 2]) 3 (fun x => [arnD,devS,.abs (ownM x.d.os)]) (fun x => Hd x.ok) (fun x => .tup [.lit (.string x.b.value),boo true]) 3 (fun x => [arnD,devS,.abs (ownM x.d.os)])
noncomputable def tblV2 : WTbl := [(90,ctrT bytesS),(89,ctrT dec2C)]
structure ZSh where
 d : DevM
 l : ZLn
 b : Nat->ZBlk
def qok (d : DevM) (l : ZLn) (b : Nat->ZBlk) : Prop := ∀ i,i < l.n->∃ ln : Nat,l.get i = ⟨⟨#[]⟩,(b i).id,(b i).ver,ln,(b i).cls⟩/\ZBy.ok ⟨d,b i,ln⟩
def arnH : AObj := arnR .any .any .any .any (.ptr 3 0) (.ptr 4 0) (.ptr 1 0)
noncomputable def ZSh.os (x : ZSh) : List AObj := [arnH,devS,.abs (ownM x.d.os),.abs (ownM tabE),.abs (ownM x.l.os)]
def rowS (b : Nat->ZBlk) (n : Nat) : AObj := .room 9 (.row 1 n (fun i => [.string (b i).value]) [])
noncomputable def shelfS : Ctr := { X := ZSh,args := fun _ => [.ptr 0 0],k := 5,os := ZSh.os,pre := fun x => Hd (x.l.ok/\x.l.n < 1099511627776/\qok x.d x.l x.b),outs := [
 { Y := Unit,post := fun x _ => Hd (x.l.n = 0),ret := fun _ _ => .agg [nilS,nilS],m := 5,os := fun x _ => x.os },
 { Y := Unit,post := fun x _ => Hd (x.l.n ≠ 0),ret := fun x _ => .agg [nilS,.slW 5 0 1 x.l.n],m := 6,os := fun x _ => x.os ++ [rowS x.b x.l.n] }] }
def qAt (h : Heap) : Bool := match cellAt h 6 1 with
 | some (.slW _ _ _ _) => true
 | _ => false
noncomputable def annS (x : ZSh) : FuncId->Anns := fun f => bif Nat.beq f 22 then (fun b _ h => bif Nat.beq b 2 then [
 { σ := Unit,fr := fun _ => [(41,i64 0)],ob := fun _ => [],inv := fun _ => Hd True,meas := fun _ => x.l.n + 1,test := fun _ h => !qAt h },
 { σ := Nat,fr := fun i => [(41,i64 i)],ob := fun i => [(6,some (.cells 62 (.av [nilS,.slW h.next 0 1 i]))),(h.next,some (rowS x.b i))],nx := 1,inv := fun i => Hd (1<=i/\i<=x.l.n),meas := fun i => x.l.n - i,test := fun _ h => qAt h }] else []) else fun _ _ _ => []
noncomputable def tblV3 : WTbl := [(41,ctrT tallP.ctr),(43,ctrT lineAllC.ctr),(42,ctrT valueS)]
end Go.Proofs.YtpnhfbegboogbaaGreat
end
section
namespace Go.Proofs.YtpnhfbegboogbaaGreat
open Go SE
def TV_w2 : Prop := True/\True/\True/\True
def TV_w1 : Prop := 0 = 0/\TV_w2
def TV_w3 : Prop := 0 = 0/\True/\True/\True/\True/\0 = 0/\True/\TV_w1
def TV_w5 : Prop := 0 = 0/\True/\True/\True/\True/\True/\True/\True/\TV_w2
def TV_w6 : Prop := Value.slice none 0 0 = Value.slice none 0 0
def TV_w9 (a : ZLn) : Prop := a.n = a.n/\∀ q : Nat,q < a.n->[Value.string (ZLnk.key (a.get q)),Value.int .u64 (ZLnk.id (a.get q)),Value.int .u64 (ZLnk.ver (a.get q)),Value.int .i64 (ZLnk.line (a.get q)),Value.int .i64 (ZLnk.cls (a.get q))] = [Value.string (ZLnk.key (a.get q)),Value.int .u64 (ZLnk.id (a.get q)),Value.int .u64 (ZLnk.ver (a.get q)),Value.int .i64 (ZLnk.line (a.get q)),Value.int .i64 (ZLnk.cls (a.get q))]
def TV_w21 : Prop := ownM tabE = ownM tabE
def TV_w24 (a : DevM) : Prop := ownM a.os = ownM a.os
def TV_w15 (a : ZSh) (b : ZLn) : Prop := TV_w3/\TV_w1/\TV_w24 a.d/\TV_w21/\ownM a.l.os = ownM b.os/\True
def TV_w13 (a : ZSh) (b : ZLn) (c : Nat) : Prop := (∃ y_2 : Unit,Hd (a.l.n = 0)/\(TV_w6/\False/\True)/\TV_w15 a b) ∨ ∃ y_2 : Unit,Hd (a.l.n ≠ 0)/\(TV_w6/\(0 = 0/\a.l.n = c)/\True)/\TV_w3/\TV_w1/\TV_w24 a.d/\TV_w21/\ownM a.l.os = ownM b.os/\(a.l.n = c/\∀ q : Nat,q < a.l.n->[Value.string (ZBlk.value (a.b q))] = [Value.string (ZBlk.value (a.b q))])/\True
def TV_w14 (a : ZSh) (b : ZLn) : Prop := (∃ y_2 : Unit,Hd (a.l.n = 0)/\(TV_w6/\TV_w6/\True)/\TV_w15 a b) ∨ ∃ y_2 : Unit,Hd (a.l.n ≠ 0)/\(TV_w6/\False/\True)/\TV_w3/\TV_w1/\TV_w24 a.d/\TV_w21/\ownM a.l.os = ownM b.os/\False/\True
def TV_w22 (a : DevM) (b : DevM) : Prop := ownM a.os = ownM b.os
def TV_w20 (a : DevM) (b : DevM) : Prop := TV_w22 a b/\True
def TV_w17 (a : DevM) (b : DevM) : Prop := TV_w5/\TV_w1/\TV_w20 a b
def TV_w18 (a : ZLn) (b : DevM) : Prop := (TV_w6/\TV_w6/\True)/\(TV_w6/\TV_w6/\True)/\ownM a.os = ownM a.os/\TV_w21/\TV_w24 b/\TV_w1/\TV_w3/\True
def bytesSVC (x : ZBy) : Prop :=
 (∃ s : Unit,Hd True/\True/\((0 : Int) = 0/\TV_w6/\True)/\TV_w24 x.d/\TV_w1/\TV_w5/\True)/\(∀ s : Unit,Hd True->cP (decide (0 < spn x.b.cls)) (I64 ((x.ln : Int) + 0)/\∃ x_1 : DevL,Hd (x_1.d.ok/\x_1.k < x_1.d.n)/\(0 = 0/\(x_1.k : Int) = (x.ln : Int) + 0/\True)/\TV_w20 x_1.d x.d/\∀ y : Unit,True->64<=64/\(2 * (0 + 64) + 1000) * 1<=281474976710656/\I64 (1 : Int)/\∃ s_1 : Nat,Hd (1<=s_1/\s_1<=x.b.spnN)/\x.b.spnN - s_1 < 20/\((s_1 : Int) = 1/\(0 = 0/\64 * s_1 = 64)/\True)/\(64 * s_1 = 64/\∀ q : Nat,q < 64 * s_1->[Value.int .u8 (x.b.enc q)] = [Value.int .u8 (x_1.d.b (x_1.k * 193 + (0 + (q - 0))))])/\TV_w22 x.d x_1.d/\TV_w1/\TV_w5/\True) (∃ y : Unit,True/\False/\TV_w5/\TV_w1/\TV_w24 x.d/\False/\True))/\(∀ s : Nat,Hd (1<=s/\s<=x.b.spnN)->cP (decide ((s : Int) < spn x.b.cls)) (I64 ((x.ln : Int) + (s : Int))/\∃ x_1 : DevL,Hd (x_1.d.ok/\x_1.k < x_1.d.n)/\(0 = 0/\(x_1.k : Int) = (x.ln : Int) + (s : Int)/\True)/\TV_w20 x_1.d x.d/\∀ y : Unit,True->64 * s = 64 * s/\64<=64/\(∀ k : Nat,k < 64->(Nat.beq (List.length [Value.int .u8 (x_1.d.b (x_1.k * 193 + (0 + k)))]) 1 && List.all [Value.int .u8 (x_1.d.b (x_1.k * 193 + (0 + k)))] Value.oneCell') = true)/\(2 * (64 * s + 64) + 1000) * 1<=281474976710656/\I64 ((s : Int) + 1)/\∃ s_1 : Nat,Hd (1<=s_1/\s_1<=x.b.spnN)/\x.b.spnN - s_1 < x.b.spnN - s/\((s_1 : Int) = (s : Int) + 1/\(0 = 0/\64 * s_1 = 64 * s + 64)/\True)/\(64 * s_1 = 64 * s + 64/\∀ q : Nat,q < 64 * s_1->[Value.int .u8 (x.b.enc q)] = Cs.eff (fun (q_1 : Nat) => cond (Nat.blt q_1 (64 * s)) [Value.int .u8 (x.b.enc q_1)] [Value.int .u8 (x_1.d.b (x_1.k * 193 + (0 + (q_1 - 64 * s))))]) [] q)/\TV_w22 x.d x_1.d/\TV_w1/\TV_w5/\True) (∃ y : Unit,True/\(0 = 0/\64 * x.b.spnN = 64 * s)/\TV_w5/\
 TV_w1/\TV_w24 x.d/\(64 * x.b.spnN = 64 * s/\∀ q : Nat,q < 64 * x.b.spnN->[Value.int .u8 (x.b.enc q)] = [Value.int .u8 (x.b.enc q)])/\True))/\True
theorem bytesSVC_ok (x : ZBy) : bytesSVC x = wpF Tryz.prog tblV1 tt (annB x) 200 6 90 (bytesS.args x) (hO 3 (bytesS.os x)) (fun v h' => endsP 3 x v h' bytesS.outs) := by kernel_rfl
def valueSVC (x : ZBy) : Prop :=
 ∃ x_1 : ZBy,Hd x_1.ok/\(0 = 0/\(x_1.ln : Int) = (x.ln : Int)/\x_1.b.cls = x.b.cls/\True)/\TV_w17 x_1.d x.d/\∀ y : Unit,True->∃ x_2 : ZDe,Hd (x_2.b.may/\x_2.value.size < 1099511627776/\∀ k : Nat,k < 64 * x_2.b.spnN->x_2.g k = x_2.b.enc k)/\((0 = 0/\64 * x_2.b.spnN = 64 * x_1.b.spnN)/\True)/\((64 * x_2.b.spnN = 64 * x_1.b.spnN/\∀ q : Nat,q < 64 * x_2.b.spnN->[Value.int .u8 (x_2.g q)] = [Value.int .u8 (x_1.b.enc q)])/\True)/\∀ y_1 : Unit,True->cP (BEq.beq x_2.id x.b.id) (cP (BEq.beq x_2.ver x.b.ver) (∃ y_2 : Unit,True/\(x.b.value = x_2.value/\true = true/\True)/\TV_w17 x.d x_1.d) (∃ y_2 : Unit,True/\(x.b.value = x_2.value/\true = false/\True)/\TV_w17 x.d x_1.d)) (∃ y_2 : Unit,True/\(x.b.value = x_2.value/\true = false/\True)/\TV_w17 x.d x_1.d)
theorem valueSVC_ok (x : ZBy) : valueSVC x = wpF Tryz.prog tblV2 tt (noA x) 200 6 42 (valueS.args x) (hO 3 (valueS.os x)) (fun v h' => endsP 3 x v h' valueS.outs) := by kernel_rfl
def shelfSVC (x : ZSh) : Prop :=
 ∃ x_1 : Unit,Hd True/\(0 = 0/\True)/\(TV_w21/\True)/\∀ y : Unit,True->∃ x_2 : ZLn,Hd x_2.ok/\(0 = 0/\True)/\(ownM x_2.os = ownM x.l.os/\True)/\(∀ y_1 : Unit,Hd (x_2.n = 0)->(∃ s : Unit,Hd True/\True/\((0 : Int) = 0/\True)/\TV_w18 x_2 x.d)/\(∀ s : Unit,Hd True->TV_w14 x x_2)/\(∀ s : Nat,Hd (1<=s/\s<=x.l.n)->TV_w13 x x_2 s)/\True)/\∀ y_1 : Unit,Hd (x_2.n ≠ 0)->(∃ s : Unit,Hd True/\True/\((0 : Int) = 0/\True)/\TV_w9 x_2/\TV_w18 x_2 x.d)/\(∀ s : Unit,Hd True->cP (decide (0 < (x_2.n : Int))) (((0 : Int)<=0/\1<=(x_2.n : Int))/\0 < x_2.n/\∃ x_3 : ZBy,Hd x_3.ok/\(0 = 0/\(ByteArray.mk #[] = ZLnk.key (x_2.get 0)/\x_3.b.id = ZLnk.id (x_2.get 0)/\x_3.b.ver = ZLnk.ver (x_2.get 0)/\(x_3.ln : Int) = ZLnk.line (x_2.get 0)/\x_3.b.cls = ZLnk.cls (x_2.get 0)/\True)/\(2 : Int) = 2/\True)/\TV_w17 x_3.d x.d/\∀ y_2 : Unit,True->(2 * (0 + 1) + 1000) * 16<=281474976710656/\I64 (1 : Int)/\∃ s_1 : Nat,Hd (1<=s_1/\s_1<=x.l.n)/\x.l.n - s_1 < x.l.n + 1/\((s_1 : Int) = 1/\True)/\(s_1 = 0 + List.length [List.take 1 [Value.string x_3.b.value]]/\∀ q : Nat,q < s_1->[Value.string (ZBlk.value (x.b q))] = Cs.eff (fun (x_4 : Nat) => []) [(0,List.take 1 [Value.string x_3.b.value])] q)/\TV_w9 x_2/\(TV_w6/\(0 = 0/\s_1 = 1)/\True)/\(TV_w6/\TV_w6/\True)/\ownM x_2.os = ownM x_2.os/\TV_w21/\TV_w22 x.d x_3.d/\TV_w1/\TV_w3/\True) (TV_w14 x x_2))/\(∀ s : Nat,Hd (1<=s/\s<=x.l.n)->cP (decide ((s : Int) < (x_2.n : Int))) ((0<=(s : Int)/\(s : Int) < (x_2.n : Int))/\0 + s < x_2.n/\∃ x_3 : ZBy,Hd x_3.ok/\(0 = 0/\(ByteArray.mk #[] = ZLnk.key (x_2.get (0 + s))/\x_3.b.id = ZLnk.id (x_2.get (0 + s))/\x_3.b.ver = ZLnk.ver (x_2.get (0 + s))/\(x_3.ln : Int) = ZLnk.line (x_2.get (0 + s))/\
 x_3.b.cls = ZLnk.cls (x_2.get (0 + s))/\True)/\(2 : Int) = 2/\True)/\TV_w17 x_3.d x.d/\∀ y_2 : Unit,True->s = s/\List.all [List.take 1 [Value.string x_3.b.value]] (fun (l : List Value) => Nat.beq (List.length l) 1 && List.all l Value.oneCell') = true/\(2 * (s + 1) + 1000) * 16<=281474976710656/\I64 ((s : Int) + 1)/\∃ s_1 : Nat,Hd (1<=s_1/\s_1<=x.l.n)/\x.l.n - s_1 < x.l.n - s/\((s_1 : Int) = (s : Int) + 1/\True)/\(s_1 = s + List.length [List.take 1 [Value.string x_3.b.value]]/\∀ q : Nat,q < s_1->[Value.string (ZBlk.value (x.b q))] = Cs.eff (fun (i : Nat) => [Value.string (ZBlk.value (x.b i))]) [(s,List.take 1 [Value.string x_3.b.value])] q)/\TV_w9 x_2/\(TV_w6/\(0 = 0/\s_1 = s + 1)/\True)/\(TV_w6/\TV_w6/\True)/\ownM x_2.os = ownM x_2.os/\TV_w21/\TV_w22 x.d x_3.d/\TV_w1/\TV_w3/\True) (TV_w13 x x_2 s))/\True
theorem shelfSVC_ok (x : ZSh) : shelfSVC x = wpF Tryz.prog tblV3 tt (annS x) 200 6 22 (shelfS.args x) (hO 5 (shelfS.os x)) (fun v h' => endsP 5 x v h' shelfS.outs) := by kernel_rfl
end Go.Proofs.YtpnhfbegboogbaaGreat
end
section
namespace Go.Proofs.YtpnhfbegboogbaaGreat
open Go SE
theorem arn_osN {a : ZArn} (h : a.n = 0) : a.os = a.osN := by unfold ZArn.os; rw [h]; rfl
theorem arn_osP {a : ZArn} (h : a.n ≠ 0) : a.os = a.osP := by unfold ZArn.os; rw [nbeq_decide,decide_eq_false h]; rfl
structure ZOut (X : Type) where
 Y : Type
 post : X->Y->Prop
 ret : X->Y->AV
 a : X->Y->ZArn
 m : Nat
 ex : X->Y->List AObj
structure ZCtr where
 X : Type
 args : X->List AV
 a : X->ZArn
 k : Nat
 ex : X->List AObj
 pre : X->Prop
 outs : List (ZOut X)
noncomputable def ZOut.po {X : Type} (sh : ZArn->List AObj) (o : ZOut X) : POut X := { Y := o.Y,post := o.post,ret := o.ret,m := o.m,l := fun x y => .m (sh (o.a x y)) :: (o.ex x y).map PO.o }
noncomputable def ZCtr.pc (C : ZCtr) (sh : ZArn->List AObj) (p : C.X->Prop) : PCtr := { X := C.X,args := C.args,k := C.k,l := fun x => .m (sh (C.a x)) :: (C.ex x).map PO.o,pre := fun x => C.pre x/\p x,outs := C.outs.map (ZOut.po sh) }
noncomputable def ZCtr.N (C : ZCtr) : PCtr := C.pc ZArn.osN (fun x => (C.a x).n = 0)
noncomputable def ZCtr.P (C : ZCtr) : PCtr := C.pc ZArn.osP (fun x => (C.a x).n ≠ 0)
noncomputable def ZCtr.M (C : ZCtr) : PCtr := C.pc ZArn.os (fun _ => True)
theorem outs_sh {X : Type} {x : X} {v : AV} {h' : Heap} {sh sh' : ZArn->List AObj} : ∀ {l : List (ZOut X)},(∀ o ∈ l,∀ y,o.post x y->sh (o.a x y) = sh' (o.a x y))->outsP x v h' ((l.map (ZOut.po sh)).map POut.out)->outsP x v h' ((l.map (ZOut.po sh')).map POut.out)
 | [],_,h => h
 | o :: l,hl,h => by
  simp only [List.map_cons] at h ⊢
  rw [outsP_cons] at h ⊢
  rcases h with ⟨y,h1,h2,h3⟩ | h
  ·refine .inl ⟨y,h1,h2,?_⟩
   rw [h3]
   have := hl o (by simp) y h1
   simp only [POut.out,ZOut.po,this]
  ·exact .inr (outs_sh (fun p hp => hl p (List.mem_cons_of_mem _ hp)) h)
theorem glue {P : Program} {f : FuncId} {C : ZCtr} (hn : ∀ x,C.pre x->∀ o ∈ C.outs,∀ y,o.post x y->(o.a x y).n = (C.a x).n) (hN : CtrOk P f C.N.ctr) (hP : CtrOk P f C.P.ctr) : CtrOk P f C.M.ctr := ctr_of fun x hx => by
 by_cases hz : (C.a x).n = 0
 ·refine ⟨_,hN,rfl,x,⟨hx.1,hz⟩,rfl,?_,fun v h' hh => ?_⟩
  ·simp only [ZCtr.N,ZCtr.M,ZCtr.pc,PCtr.ctr,arn_osN hz]
  ·refine outs_sh (sh := ZArn.osN) (sh' := ZArn.os) (fun o ho y hy => ?_) hh
   rw [arn_osN]; rw [hn x hx.1 o ho y hy]; exact hz
 ·refine ⟨_,hP,rfl,x,⟨hx.1,hz⟩,rfl,?_,fun v h' hh => ?_⟩
  ·simp only [ZCtr.P,ZCtr.M,ZCtr.pc,PCtr.ctr,arn_osP hz]
  ·refine outs_sh (sh := ZArn.osP) (sh' := ZArn.os) (fun o ho y hy => ?_) hh
   rw [arn_osP]; rw [hn x hx.1 o ho y hy]; exact hz
theorem pctr_endT {P : Program} {T : WTr} {f : FuncId} (hT : ∀ args h K,T args h K->Sp P f args h K) {C : PCtr} (N : Nat)
  (hk : ∀ x,(C.l x).length = C.k/\(flatP C.k (C.l x)).length = N/\(C.l x).all (PO.good C.k) = true/\lbelow C.k (C.args x) = true)
  (hq : ∀ x,C.pre x->T (C.args x) (hO N (flatP C.k (C.l x))) (fun v h' => endsPK C.k x v h' C.outs)) : CtrOk P f C.ctr := fun x hp => by
 obtain ⟨h1,h2,h3,h4⟩ := hk x
 refine ⟨by simp only [PCtr.ctr,List.length_map]; exact h1,?_⟩
 have hs := hT _ _ _ (hq x hp)
 rw [← h2,← h1] at hs
 refine ⟨hs.1,fun ρ T w vs hR hl => ?_⟩
 have hR0 : Rel (hOf ((C.l x).map PO.ab)) ρ T w := by rw [hOf,List.length_map,h1]; exact hR
 obtain ⟨ρ',r1,r2,r3⟩ := Rel.openAll (by rw [h1]; exact h3) hR0
 refine (hs.2 ρ' T w vs r3 (LRel.mono r2 _ _ hl)).mono ?_
 rintro e w' ⟨ρ2,v,u,h',c1,c2,c3,c4,c5,c6,c7⟩
 obtain ⟨v0,h0,g1,g2⟩ := endsPK_leq c7
 obtain ⟨ρ3,q1,q2,q3⟩ := g1.2 ρ2 T w' u c3 c4
 refine ⟨ρ3,v0,u,h0,fun j hj => ?_,?_,q2,q3,c5,c6,g2⟩
 ·have hj' : j < C.k := hj
  have hle : C.k<=(flatP C.k (C.l x)).length := by unfold flatP; rw [List.length_append,rootsP_len,h1]; omega
  rw [q1 j (by rw [h1]; exact hj'),c1 j (by show j < (flatP _ _).length; rw [h1]; omega),r1 j (by rw [h1]; exact hj')]
 ·have := g1.1; rw [h1] at this; exact this
noncomputable def enqG : PCtr := pdet ZChg (enqPub true).args 2 (fun x => [.m x.a.os,.o (x.lst 4)]) (fun x => Hd (x.okE/\(∃ i j,x.inP i j)/\∀ k,x.a.c.o k + 8 < 1099511627776)) (fun _ => .tup [.slW 2 0 1 1,i64 0]) 3 (fun x => [.m x.enq.os,.o (x.lst 4),.o (.room 4 (.row 1 1 (fun _ => [.bool false]) []))])
theorem enqG_ok : CtrOk Tryz.prog 123 enqG.ctr := pdet_of fun x hx => by
 obtain ⟨h1,h2,h3⟩ := hd_iff.1 hx
 have e : x.enq.os = x.enq.osP := arn_osP (Nat.succ_ne_zero _)
 by_cases hz : x.a.n = 0
 ·exact ⟨_,_,_,_,_,_,x,enqN_ok,hd_iff.2 ⟨h1,h2,h3,fun _ => hz⟩,rfl,by rw [arn_osN hz]; rfl,rfl,by rw [e]⟩
 ·exact ⟨_,_,_,_,_,_,x,enqP_ok,hd_iff.2 ⟨h1,h2,h3,fun h => nomatch h⟩,rfl,by rw [arn_osP hz]; rfl,rfl,by rw [e]⟩
noncomputable def deqG : PCtr := pdet ZChg deqPub.args 2 (fun x => [.m x.a.os,.o x.lst5]) (fun x => Hd (x.okD/\(∃ i j,x.inP i j)/\0<=x.a.id/\x.a.id < 1152921504606846976/\x.a.n ≠ 0)) (fun _ => .tup [.slW 2 0 1 1,i64 0]) 3 (fun x => [.m x.deq.os,.o x.lst5,.o (.room 4 (.row 1 1 (fun _ => [.bool true]) []))])
theorem deqG_ok : CtrOk Tryz.prog 123 deqG.ctr := pdet_of fun x hx => by
 obtain ⟨h1,h2,h3,h4,h5⟩ := hd_iff.1 hx
 exact ⟨_,_,_,_,_,_,x,deq_ok,hd_iff.2 ⟨h1,h2,h3,h4⟩,rfl,by rw [arn_osP h5],rfl,by rw [show x.deq.os = x.deq.osP from arn_osP (Nat.succ_ne_zero _)]⟩
end Go.Proofs.YtpnhfbegboogbaaGreat
end
section
namespace Go.Proofs.YtpnhfbegboogbaaGreat
open Go SE
structure ZSt where
 a : ZArn
 f : ZFr
 t : Nat
namespace ZArn
def putR (a : ZArn) (t : Nat) (v : Int) : ZArn := { a with r := a.r.put t v }
def putP (a : ZArn) (p : ZPool) : ZArn := { a with p := p }
def putD (a : ZArn) (d : DevM) : ZArn := { a with d := d }
end ZArn
noncomputable def enterZ (k : Int) : ZCtr := { X := ZSt,args := fun x => [.ptr 0 0,i64 x.t,x.f.av k 0 nilS],a := ZSt.a,k := 1,ex := fun _ => [],pre := fun x => Hd (x.a.r.ok/\x.a.c.ok/\x.t < x.a.r.t/\x.a.r.has x.t = 0),outs := [
 { Y := Unit,post := fun x _ => Hd (k = 4/\400 < x.f.value.size),ret := fun x _ => { x.f with code := 5 }.av k 7 nilS,a := fun x _ => x.a,m := 1,ex := fun _ _ => [] },
 { Y := Unit,post := fun x _ => Hd (k = 4->x.f.value.size<=400),ret := fun x _ => { x.f with epoch := x.a.c.now }.av k (if k = 4 then 3 else 1) nilS,a := fun x _ => x.a.putR x.t x.a.r.now,m := 1,ex := fun _ _ => [] }] }
noncomputable def findZ : ZCtr := { X := ZSt,args := fun x => [.ptr 0 0,i64 x.t,x.f.av 5 1 nilS],a := ZSt.a,k := 1,ex := fun _ => [],pre := fun x => Hd (x.a.l.ok/\x.f.line = -1),outs := [
 { Y := Unit,post := fun x _ => Hd (x.a.l.n = 0),ret := fun x _ => { x.f with had := false,old := zLnk }.av 5 6 nilS,a := fun x _ => x.a,m := 1,ex := fun _ _ => [] },
 { Y := Unit,post := fun x _ => Hd (x.a.l.n ≠ 0),ret := fun x _ => { x.f with had := true,old := x.a.l.head,piece := 0 }.av 5 2 nilS,a := fun x _ => x.a,m := 1,ex := fun _ _ => [] }] }
def ZSt.c (x : ZSt) (k : Int) : Int := if k = 4 then ned x.f.value.size else 0
noncomputable def takeZ (k : Int) : ZCtr := { X := ZSt,args := fun x => [.ptr 0 0,i64 x.t,x.f.av k 3 nilS],a := ZSt.a,k := 1,ex := fun _ => [],pre := fun x => Hd (x.a.p.ok/\x.f.value.size<=400),outs := [
 { Y := Unit,post := fun x _ => Hd (∀ i,i < x.a.p.n->x.a.p.cls i ≠ -1/\x.a.p.full (x.c k) i),ret := fun x _ => { x.f with cls := x.c k,ans := emp,code := 4 }.av k 6 nilS,a := fun x _ => x.a,m := 1,ex := fun _ _ => [] },
 { Y := Nat × Nat,post := fun x y => Hd (x.a.p.takes (x.c k) y.1 y.2),ret := fun x y => { x.f with cls := x.c k,line := 2 + y.1 * 8 + y.2 * spn (x.c k),piece := 0 }.av k 4 nilS,a := fun x y => x.a.putP (x.a.p.take (x.c k) y.1 y.2),m := 1,ex := fun _ _ => [] }] }
noncomputable def leaveZ (k : Int) : ZCtr := { X := ZSt,args := fun x => [.ptr 0 0,i64 x.t,x.f.av k 6 nilS],a := ZSt.a,k := 1,ex := fun _ => [],pre := fun x => Hd (x.a.r.ok/\x.t < x.a.r.t),outs := [
 { Y := Unit,post := fun _ _ => True,ret := fun x _ => x.f.av k 7 nilS,a := fun x _ => x.a.putR x.t 0,m := 1,ex := fun _ _ => [] }] }
structure ZStW where
 a : ZArn
 f : ZFr
 t : Nat
 ln : Nat
 c : Int
 p : Nat
def ZStW.w (x : ZStW) : ZWr := ⟨x.a.d,x.t,x.f,x.ln,x.c,x.p⟩
noncomputable def writeZ0 (k : Int) : ZCtr := { X := ZStW,args := fun x => [.ptr 0 0,i64 x.t,(x.w.fr 0).av k 4 nilS],a := ZStW.a,k := 1,ex := fun _ => [],pre := fun x => Hd (x.w.ok/\x.p = 0),outs := [
 { Y := Unit,post := fun x _ => Hd (1 ≠ spn x.c),ret := fun x _ => (x.w.fr 1).av k 4 nilS,a := fun x _ => x.a.putD x.w.d',m := 1,ex := fun _ _ => [] },
 { Y := Unit,post := fun x _ => Hd (1 = spn x.c),ret := fun x _ => (x.w.fr 0).av k 5 nilS,a := fun x _ => x.a.putD x.w.d',m := 1,ex := fun _ _ => [] }] }
noncomputable def writeZ1 : ZCtr := { X := ZStW,args := fun x => [.ptr 0 0,i64 x.t,(x.w.fr x.p).av 4 4 nilS],a := ZStW.a,k := 1,ex := fun _ => [],pre := fun x => Hd (x.w.ok/\x.p ≠ 0),outs := [
 { Y := Unit,post := fun x _ => Hd (x.p + 1 ≠ spn x.c),ret := fun x _ => (x.w.fr (x.p + 1)).av 4 4 nilS,a := fun x _ => x.a.putD x.w.d',m := 1,ex := fun _ _ => [] },
 { Y := Unit,post := fun x _ => Hd (x.p + 1 = spn x.c),ret := fun x _ => (x.w.fr 0).av 4 5 nilS,a := fun x _ => x.a.putD x.w.d',m := 1,ex := fun _ _ => [] }] }
structure ZStR where
 a : ZArn
 f : ZFr
 t : Nat
 b : ZBlk
 ln : Nat
 p : Nat
def ZStR.w (x : ZStR) : ZRe := ⟨x.a.d,x.t,x.f,x.b,x.ln,x.p⟩
noncomputable def readZ0 : ZCtr := { X := ZStR,args := fun x => [.ptr 0 0,i64 x.t,(x.w.fr 0).av 5 2 nilS],a := ZStR.a,k := 1,ex := fun _ => [],pre := fun x => Hd (x.w.ok/\x.p = 0),outs := [
 { Y := Unit,post := fun x _ => Hd (1 ≠ spn x.b.cls),ret := fun x _ => (x.w.fr 1).av 5 2 (.slW 1 0 1 64),a := fun x _ => x.a,m := 2,ex := fun x _ => [rowU x.b.enc 64] },
 { Y := Unit,post := fun x _ => Hd (1 = spn x.b.cls/\x.f.line < 0),ret := fun x _ => (x.w.fr2 1).av 5 3 nilS,a := fun x _ => x.a,m := 1,ex := fun _ _ => [] },
 { Y := Unit,post := fun x _ => Hd (1 = spn x.b.cls/\0<=x.f.line),ret := fun x _ => (x.w.fr2 1).av 5 5 nilS,a := fun x _ => x.a,m := 1,ex := fun _ _ => [] }] }
noncomputable def readZ1 : ZCtr := { X := ZStR,args := fun x => [.ptr 0 0,i64 x.t,(x.w.fr x.p).av 5 2 (.slW 1 0 1 (64 * x.p))],a := ZStR.a,k := 2,ex := fun x => [rowU x.b.enc (64 * x.p)],pre := fun x => Hd (x.w.ok/\x.p ≠ 0),outs := [
 { Y := Unit,post := fun x _ => Hd (x.p + 1 ≠ spn x.b.cls),ret := fun x _ => (x.w.fr (x.p + 1)).av 5 2 (.slW 2 0 1 (64 * (x.p + 1))),a := fun x _ => x.a,m := 3,ex := fun x _ => [rowU x.b.enc (64 * x.p),rowU x.b.enc (64 * (x.p + 1))] },
 { Y := Unit,post := fun x _ => Hd (x.p + 1 = spn x.b.cls/\x.f.line < 0),ret := fun x _ => (x.w.fr2 (x.p + 1)).av 5 3 nilS,a := fun x _ => x.a,m := 2,ex := fun x _ => [rowU x.b.enc (64 * x.p)] },
 { Y := Unit,post := fun x _ => Hd (x.p + 1 = spn x.b.cls/\0<=x.f.line),ret := fun x _ => (x.w.fr2 (x.p + 1)).av 5 5 nilS,a := fun x _ => x.a,m := 2,ex := fun x _ => [rowU x.b.enc (64 * x.p)] }] }
end Go.Proofs.YtpnhfbegboogbaaGreat
end
section
namespace Go.Proofs.YtpnhfbegboogbaaGreat
open Go SE
def TK_w1 : Prop := Value.slice none 0 0 = Value.slice none 0 0
def TK_w151 : Prop := TK_w1/\TK_w1/\TK_w1/\TK_w1/\True
def TK_w7 (a : ZArn) : Prop := (a.n = a.n/\∀ q : Nat,q < a.n->[Value.int .i64 (ZEff.kind (a.e q)),Value.string (ZEff.key (a.e q)),Value.string (ZEff.value (a.e q)),Value.int .u64 (ZEff.id (a.e q)),Value.int .u64 (ZEff.ver (a.e q)),Value.int .u64 (ZEff.epoch (a.e q)),Value.int .i64 (ZEff.group (a.e q))] = [Value.int .i64 (ZEff.kind (a.e q)),Value.string (ZEff.key (a.e q)),Value.string (ZEff.value (a.e q)),Value.int .u64 (ZEff.id (a.e q)),Value.int .u64 (ZEff.ver (a.e q)),Value.int .u64 (ZEff.epoch (a.e q)),Value.int .i64 (ZEff.group (a.e q))])/\True
def TK_w2 (a : ZArn) : Prop := ownM a.b.os = ownM a.b.os/\ownM tabE = ownM tabE/\TK_w151/\ownM a.l.os = ownM a.l.os/\TK_w7 a
def TK_w5 (a : ZArn) : Prop := ownM (a.c.os 0) = ownM (a.c.os 0)/\TK_w2 a
def TK_w6 (a : ZArn) : Prop := ownM a.r.os = ownM a.r.os/\TK_w5 a
def TK_w121 (a : Int) (b : Int) : Prop := TK_w1/\TK_w1/\a = b/\True
def TK_w144 (a : ZFr) (b : ZFr) : Prop := a.found = b.found/\a.ans = b.ans/\TK_w121 a.aep b.aep
def TK_w10 (a : ZFr) (b : ZFr) : Prop := (0 : Int) = 0/\TK_w1/\a.code = b.code/\TK_w144 a b
def TK_w11 (a : ZFr) (b : ZFr) : Prop := TK_w1/\TK_w10 a b
def TK_w17 : Prop := ByteArray.mk #[] = ByteArray.mk #[]
def TK_w9 (a : ZFr) (b : ZFr) : Prop := TK_w17/\false = false/\(0 : Int) = 0/\a.had = b.had/\a.old.key = b.old.key/\a.old.id = b.old.id/\a.old.ver = b.old.ver/\a.old.line = b.old.line/\a.old.cls = b.old.cls/\a.line = b.line/\a.cls = b.cls/\a.piece = b.piece/\TK_w11 a b
def TK_w14 (a : ZFr) (b : ZFr) : Prop := a.epoch = b.epoch/\TK_w9 a b
def TK_w23 (a : ZArn) : Prop := ownM a.b.os = ownM a.b.os/\ownM tabE = ownM tabE/\TK_w151/\ownM a.l.os = ownM a.l.os/\True
def TK_w21 (a : ZArn) : Prop := ownM (a.c.os 0) = ownM (a.c.os 0)/\TK_w23 a
def TK_w18 (a : ZArn) : Prop := ownM a.r.os = ownM a.r.os/\TK_w21 a
def TK_w19 (a : ZArn) : Prop := 0 = 0/\0 = 0/\0 = 0/\0 = 0/\0 = 0/\0 = 0/\0 = 0/\0 = 0/\a.id = a.id/\a.ver = a.ver/\(0 = 0/\a.n = a.n)/\True
def TK_w66 (a : ZPool) : Prop := ownM a.os = ownM a.os
def TK_w22 (a : ZArn) : Prop := TK_w66 a.p/\TK_w18 a
def TK_w24 : Prop := 0 = 0/\(1 : Int) = 1/\(0 : Int) = 0/\(0 : Int) = 0/\True
def TK_w25 (a : ZArn) : Prop := 0 = 0/\0 = 0/\0 = 0/\0 = 0/\0 = 0/\0 = 0/\0 = 0/\0 = 0/\a.id = a.id/\a.ver = a.ver/\TK_w1/\True
def TK_w83 (a : Nat) (b : Nat) : Prop := (a : Int) = (b : Int)
def TK_w158 (a : ZStR) (b : ZRe) : Prop := TK_w1/\(0 : Int) = 0/\TK_w1/\a.f.code = b.f.code/\a.f.found = b.f.found/\a.b.value = b.b.value/\TK_w121 a.f.aep b.f.aep
def TK_w31 (a : ZStR) (b : ZRe) : Prop := a.f.epoch = b.f.epoch/\TK_w17/\false = false/\(0 : Int) = 0/\true = true/\TK_w17/\a.b.id = b.b.id/\a.b.ver = b.b.ver/\TK_w83 a.ln b.ln/\a.b.cls = b.b.cls/\a.f.line = b.f.line/\a.f.cls = b.f.cls/\(a.p : Int) + 1 = (b.p : Int) + 1/\TK_w158 a b
def TK_w33 (a : ZStR) (b : ZRe) : Prop := a.f.epoch = b.f.epoch/\TK_w17/\false = false/\(0 : Int) = 0/\true = true/\TK_w17/\a.b.id = b.b.id/\a.b.ver = b.b.ver/\TK_w83 a.ln b.ln/\a.b.cls = b.b.cls/\a.f.line = b.f.line/\a.f.cls = b.f.cls/\(1 : Int) = 1/\TK_w158 a b
def TK_w41 (a : ZStW) (b : ZWr) : Prop := a.f.key = b.f.key/\a.f.value = b.f.value/\TK_w17/\TK_w1/\(5 : Int) = 5/\a.f.epoch = b.f.epoch/\TK_w17/\false = false/\(0 : Int) = 0/\a.f.had = b.f.had/\a.f.old.key = b.f.old.key/\a.f.old.id = b.f.old.id/\a.f.old.ver = b.f.old.ver/\a.f.old.line = b.f.old.line/\a.f.old.cls = b.f.old.cls/\TK_w83 a.ln b.ln/\a.c = b.c/\(0 : Int) = 0/\TK_w11 a.f b.f
def TK_w46 (a : ZFr) (b : ZFr) : Prop := a.key = b.key/\a.value = b.value/\TK_w17/\TK_w1/\(7 : Int) = 7/\a.epoch = b.epoch/\TK_w17/\false = false/\(0 : Int) = 0/\a.had = b.had/\a.old.key = b.old.key/\a.old.id = b.old.id/\a.old.ver = b.old.ver/\a.old.line = b.old.line/\a.old.cls = b.old.cls/\a.line = b.line/\a.cls = b.cls/\a.piece = b.piece/\TK_w1/\(0 : Int) = 0/\TK_w1/\(5 : Int) = 5/\TK_w144 a b
def TK_w49 (a : ZSt) (b : ZFr) : Prop := a.a.c.now = b.epoch/\TK_w17/\false = false/\(0 : Int) = 0/\a.f.had = b.had/\a.f.old.key = b.old.key/\a.f.old.id = b.old.id/\a.f.old.ver = b.old.ver/\a.f.old.line = b.old.line/\a.f.old.cls = b.old.cls/\a.f.line = b.line/\a.f.cls = b.cls/\a.f.piece = b.piece/\TK_w1/\(0 : Int) = 0/\TK_w1/\a.f.code = 5/\TK_w144 a.f b
def TK_w50 (a : ZFr) (b : ZEn) : Prop := a.epoch = b.c.now/\TK_w17/\false = false/\(0 : Int) = 0/\a.had = b.f.had/\a.old.key = b.f.old.key/\a.old.id = b.f.old.id/\a.old.ver = b.f.old.ver/\a.old.line = b.f.old.line/\a.old.cls = b.f.old.cls/\a.line = b.f.line/\a.cls = b.f.cls/\a.piece = b.f.piece/\TK_w1/\(0 : Int) = 0/\TK_w1/\5 = b.f.code/\TK_w144 a b.f
def TK_w163 (a : ZStR) (b : ZFr) : Prop := False/\(0 : Int) = 0/\TK_w1/\a.f.code = b.code/\a.f.found = b.found/\a.b.value = b.ans/\TK_w121 a.f.aep b.aep
def TK_w51 (a : ZStR) (b : ZRe) : Prop := a.f.epoch = b.f.epoch/\TK_w17/\false = false/\(0 : Int) = 0/\true = true/\TK_w17/\a.b.id = b.b.id/\a.b.ver = b.b.ver/\TK_w83 a.ln b.ln/\a.b.cls = b.b.cls/\a.f.line = b.f.line/\a.f.cls = b.f.cls/\(a.p : Int) + 1 = (b.p : Int) + 1/\TK_w163 a b.f
def TK_w135 (a : ZBlk) (b : Nat) (c : ZBlk) : Prop := [Value.int .u8 (a.enc b)] = [Value.int .u8 (c.enc b)]
def TK_w52 (a : ZStR) (b : ZRe) : Prop := 64 * a.p = 64 * b.p/\∀ q : Nat,q < 64 * a.p->TK_w135 a.b q b.b
def TK_w159 : Prop := True/\True/\True/\True
def TK_w55 : Prop := True/\True/\True/\True/\TK_w159
def TK_w57 (a : ZStR) (b : ZRe) : Prop := a.f.epoch = b.f.epoch/\TK_w17/\false = false/\(0 : Int) = 0/\true = true/\TK_w17/\a.b.id = b.b.id/\a.b.ver = b.b.ver/\TK_w83 a.ln b.ln/\a.b.cls = b.b.cls/\a.f.line = b.f.line/\a.f.cls = b.f.cls/\(1 : Int) = 1/\TK_w163 a b.f
def TK_w58 (a : ZWr) (b : ZStW) : Prop := a.f.key = b.f.key/\a.f.value = b.f.value/\TK_w17/\TK_w1/\(4 : Int) = 4/\a.f.epoch = b.f.epoch/\TK_w17/\false = false/\(0 : Int) = 0/\a.f.had = b.f.had/\a.f.old.key = b.f.old.key/\a.f.old.id = b.f.old.id/\a.f.old.ver = b.f.old.ver/\a.f.old.line = b.f.old.line/\a.f.old.cls = b.f.old.cls/\TK_w83 a.ln b.ln/\a.c = b.c/\(0 : Int) = 0/\TK_w11 a.f b.f
def TK_w59 (a : ZStW) (b : ZWr) : Prop := a.f.key = b.f.key/\a.f.value = b.f.value/\TK_w17/\TK_w1/\(4 : Int) = 4/\a.f.epoch = b.f.epoch/\TK_w17/\false = false/\(0 : Int) = 0/\a.f.had = b.f.had/\a.f.old.key = b.f.old.key/\a.f.old.id = b.f.old.id/\a.f.old.ver = b.f.old.ver/\a.f.old.line = b.f.old.line/\a.f.old.cls = b.f.old.cls/\TK_w83 a.ln b.ln/\a.c = b.c/\(1 : Int) = 1/\TK_w11 a.f b.f
def TK_w60 (a : ZStW) (b : ZWr) : Prop := a.f.key = b.f.key/\a.f.value = b.f.value/\TK_w17/\TK_w1/\(5 : Int) = 4/\a.f.epoch = b.f.epoch/\TK_w17/\false = false/\(0 : Int) = 0/\a.f.had = b.f.had/\a.f.old.key = b.f.old.key/\a.f.old.id = b.f.old.id/\a.f.old.ver = b.f.old.ver/\a.f.old.line = b.f.old.line/\a.f.old.cls = b.f.old.cls/\TK_w83 a.ln b.ln/\a.c = b.c/\(0 : Int) = 1/\TK_w11 a.f b.f
def TK_w61 (a : ZStW) (b : ZWr) : Prop := a.f.key = b.f.key/\a.f.value = b.f.value/\TK_w17/\TK_w1/\(4 : Int) = 5/\a.f.epoch = b.f.epoch/\TK_w17/\false = false/\(0 : Int) = 0/\a.f.had = b.f.had/\a.f.old.key = b.f.old.key/\a.f.old.id = b.f.old.id/\a.f.old.ver = b.f.old.ver/\a.f.old.line = b.f.old.line/\a.f.old.cls = b.f.old.cls/\TK_w83 a.ln b.ln/\a.c = b.c/\(1 : Int) = 0/\TK_w11 a.f b.f
def TK_w65 (a : ZStW) (b : ZWr) : Prop := TK_w19 a.a/\TK_w24/\ownM a.w.d'.os = ownM b.d'.os/\TK_w66 a.a.p/\TK_w6 a.a
def TK_w67 (a : ZArn) (b : DevM) : Prop := TK_w24/\ownM a.d.os = ownM b.os/\TK_w66 a.p/\TK_w6 a
def TK_w74 (a : DevM) : Prop := ownM a.os = ownM a.os
def TK_w68 (a : ZArn) (b : ZLn) : Prop := TK_w19 a/\TK_w24/\TK_w74 a.d/\TK_w66 a.p/\ownM a.r.os = ownM a.r.os/\ownM (a.c.os 0) = ownM (a.c.os 0)/\ownM a.b.os = ownM a.b.os/\ownM tabE = ownM tabE/\TK_w151/\ownM a.l.os = ownM b.os/\TK_w7 a
def TK_w69 (a : ZArn) (b : ZLn) : Prop := TK_w25 a/\TK_w24/\TK_w74 a.d/\TK_w66 a.p/\ownM a.r.os = ownM a.r.os/\ownM (a.c.os 0) = ownM (a.c.os 0)/\ownM a.b.os = ownM a.b.os/\ownM tabE = ownM tabE/\TK_w151/\ownM a.l.os = ownM b.os/\True
def TK_w156 : Prop := 0 = 0/\TK_w159
def TK_w73 (a : DevM) (b : DevM) : Prop := (0 = 0/\True/\True/\True/\TK_w55)/\TK_w156/\ownM a.os = ownM b.os/\True
def TK_w75 (a : ZStW) (b : ZWr) : Prop := TK_w25 a.a/\TK_w24/\ownM a.w.d'.os = ownM b.d'.os/\TK_w22 a.a
def TK_w161 (a : ZFr) (b : ZFr) : Prop := a.piece = 0/\TK_w1/\(0 : Int) = 0/\TK_w1/\4 = b.code/\a.found = b.found/\emp = b.ans/\TK_w121 a.aep b.aep
def TK_w76 (a : ZSt) (b : ZTk) (c : Prod Nat Nat) : Prop := (4 : Int) = 4/\a.f.key = b.f.key/\a.f.value = b.f.value/\TK_w17/\TK_w1/\(6 : Int) = 4/\a.f.epoch = b.f.epoch/\TK_w17/\false = false/\(0 : Int) = 0/\a.f.had = b.f.had/\a.f.old.key = b.f.old.key/\a.f.old.id = b.f.old.id/\a.f.old.ver = b.f.old.ver/\a.f.old.line = b.f.old.line/\a.f.old.cls = b.f.old.cls/\a.f.line = 2 + (c.1 : Int) * 8 + (c.2 : Int) * spn (b.c (4 : Int))/\a.c (4 : Int) = b.c (4 : Int)/\TK_w161 a.f b.f
def TK_w77 (a : ZSt) (b : ZTk) (c : Prod Nat Nat) : Prop := (5 : Int) = 5/\a.f.key = b.f.key/\a.f.value = b.f.value/\TK_w17/\TK_w1/\(6 : Int) = 4/\a.f.epoch = b.f.epoch/\TK_w17/\false = false/\(0 : Int) = 0/\a.f.had = b.f.had/\a.f.old.key = b.f.old.key/\a.f.old.id = b.f.old.id/\a.f.old.ver = b.f.old.ver/\a.f.old.line = b.f.old.line/\a.f.old.cls = b.f.old.cls/\a.f.line = 2 + (c.1 : Int) * 8 + (c.2 : Int) * spn (b.c (5 : Int))/\a.c (5 : Int) = b.c (5 : Int)/\TK_w161 a.f b.f
def TK_w162 (a : ZFr) (b : ZFr) : Prop := 0 = a.piece/\TK_w1/\(0 : Int) = 0/\TK_w1/\b.code = 4/\b.found = a.found/\b.ans = emp/\TK_w121 b.aep a.aep
def TK_w78 (a : ZSt) (b : ZTk) (c : Prod Nat Nat) : Prop := (4 : Int) = 4/\a.f.key = b.f.key/\a.f.value = b.f.value/\TK_w17/\TK_w1/\(4 : Int) = 6/\a.f.epoch = b.f.epoch/\TK_w17/\false = false/\(0 : Int) = 0/\a.f.had = b.f.had/\a.f.old.key = b.f.old.key/\a.f.old.id = b.f.old.id/\a.f.old.ver = b.f.old.ver/\a.f.old.line = b.f.old.line/\a.f.old.cls = b.f.old.cls/\2 + (c.1 : Int) * 8 + (c.2 : Int) * spn (a.c (4 : Int)) = b.f.line/\a.c (4 : Int) = b.c (4 : Int)/\TK_w162 b.f a.f
def TK_w79 (a : ZSt) (b : ZTk) (c : Prod Nat Nat) : Prop := (5 : Int) = 5/\a.f.key = b.f.key/\a.f.value = b.f.value/\TK_w17/\TK_w1/\(4 : Int) = 6/\a.f.epoch = b.f.epoch/\TK_w17/\false = false/\(0 : Int) = 0/\a.f.had = b.f.had/\a.f.old.key = b.f.old.key/\a.f.old.id = b.f.old.id/\a.f.old.ver = b.f.old.ver/\a.f.old.line = b.f.old.line/\a.f.old.cls = b.f.old.cls/\2 + (c.1 : Int) * 8 + (c.2 : Int) * spn (a.c (5 : Int)) = b.f.line/\a.c (5 : Int) = b.c (5 : Int)/\TK_w162 b.f a.f
def TK_w157 (a : ZFr) (b : ZFr) : Prop := a.piece = b.piece/\TK_w1/\(0 : Int) = 0/\TK_w1/\(4 : Int) = 4/\a.found = b.found/\emp = emp/\TK_w121 a.aep b.aep
def TK_w81 (a : ZSt) (b : ZTk) : Prop := (4 : Int) = 4/\a.f.key = b.f.key/\a.f.value = b.f.value/\TK_w17/\TK_w1/\(6 : Int) = 6/\a.f.epoch = b.f.epoch/\TK_w17/\false = false/\(0 : Int) = 0/\a.f.had = b.f.had/\a.f.old.key = b.f.old.key/\a.f.old.id = b.f.old.id/\a.f.old.ver = b.f.old.ver/\a.f.old.line = b.f.old.line/\a.f.old.cls = b.f.old.cls/\a.f.line = b.f.line/\a.c (4 : Int) = b.c (4 : Int)/\TK_w157 a.f b.f
def TK_w82 (a : ZSt) (b : ZTk) : Prop := (5 : Int) = 5/\a.f.key = b.f.key/\a.f.value = b.f.value/\TK_w17/\TK_w1/\(6 : Int) = 6/\a.f.epoch = b.f.epoch/\TK_w17/\false = false/\(0 : Int) = 0/\a.f.had = b.f.had/\a.f.old.key = b.f.old.key/\a.f.old.id = b.f.old.id/\a.f.old.ver = b.f.old.ver/\a.f.old.line = b.f.old.line/\a.f.old.cls = b.f.old.cls/\a.f.line = b.f.line/\a.c (5 : Int) = b.c (5 : Int)/\TK_w157 a.f b.f
def TK_w89 (a : ZArn) (b : DevM) : Prop := TK_w24/\ownM a.d.os = ownM b.os/\TK_w22 a
def TK_w90 (a : ZSt) (b : ZTk) (c : Prod Nat Nat) (d : Prod Nat Nat) : Prop := (4 : Int) = 4/\a.f.key = b.f.key/\a.f.value = b.f.value/\TK_w17/\TK_w1/\(4 : Int) = 4/\a.f.epoch = b.f.epoch/\TK_w17/\false = false/\(0 : Int) = 0/\a.f.had = b.f.had/\a.f.old.key = b.f.old.key/\a.f.old.id = b.f.old.id/\a.f.old.ver = b.f.old.ver/\a.f.old.line = b.f.old.line/\a.f.old.cls = b.f.old.cls/\2 + (c.1 : Int) * 8 + (c.2 : Int) * spn (a.c (4 : Int)) = 2 + (d.1 : Int) * 8 + (d.2 : Int) * spn (b.c (4 : Int))/\a.c (4 : Int) = b.c (4 : Int)/\(0 : Int) = 0/\TK_w11 a.f b.f
def TK_w91 (a : ZSt) (b : ZTk) (c : Prod Nat Nat) (d : Prod Nat Nat) : Prop := (5 : Int) = 5/\a.f.key = b.f.key/\a.f.value = b.f.value/\TK_w17/\TK_w1/\(4 : Int) = 4/\a.f.epoch = b.f.epoch/\TK_w17/\false = false/\(0 : Int) = 0/\a.f.had = b.f.had/\a.f.old.key = b.f.old.key/\a.f.old.id = b.f.old.id/\a.f.old.ver = b.f.old.ver/\a.f.old.line = b.f.old.line/\a.f.old.cls = b.f.old.cls/\2 + (c.1 : Int) * 8 + (c.2 : Int) * spn (a.c (5 : Int)) = 2 + (d.1 : Int) * 8 + (d.2 : Int) * spn (b.c (5 : Int))/\a.c (5 : Int) = b.c (5 : Int)/\(0 : Int) = 0/\TK_w11 a.f b.f
def TK_w94 (a : ZWr) (b : ZStW) : Prop := 0 = 0/\TK_w83 a.t b.t/\((4 : Int) = 4/\a.f.key = b.f.key/\a.f.value = b.f.value/\TK_w17/\TK_w1/\(4 : Int) = 4/\a.f.epoch = b.f.epoch/\TK_w17/\false = false/\(0 : Int) = 0/\a.f.had = b.f.had/\a.f.old.key = b.f.old.key/\a.f.old.id = b.f.old.id/\a.f.old.ver = b.f.old.ver/\a.f.old.line = b.f.old.line/\a.f.old.cls = b.f.old.cls/\TK_w83 a.ln b.ln/\a.c = b.c/\TK_w83 a.p b.p/\TK_w11 a.f b.f)/\True
def TK_w97 (a : ZRe) (b : ZStR) : Prop := 0 = 0/\TK_w83 a.t b.t/\((5 : Int) = 5/\a.f.key = b.f.key/\a.f.value = b.f.value/\TK_w17/\TK_w1/\(2 : Int) = 2/\a.f.epoch = b.f.epoch/\TK_w17/\false = false/\(0 : Int) = 0/\true = true/\TK_w17/\a.b.id = b.b.id/\a.b.ver = b.b.ver/\TK_w83 a.ln b.ln/\a.b.cls = b.b.cls/\a.f.line = b.f.line/\a.f.cls = b.f.cls/\TK_w83 a.p b.p/\(0 = 0/\64 * a.p = 64 * b.p)/\TK_w10 a.f b.f)/\True
def TK_w98 (a : ZSt) (b : ZFi) : Prop := (5 : Int) = 5/\a.f.key = b.f.key/\a.f.value = b.f.value/\TK_w17/\TK_w1/\(2 : Int) = 2/\a.f.epoch = b.f.epoch/\TK_w17/\false = false/\(0 : Int) = 0/\true = true/\a.a.l.head.key = b.l.head.key/\a.a.l.head.id = b.l.head.id/\a.a.l.head.ver = b.l.head.ver/\a.a.l.head.line = b.l.head.line/\a.a.l.head.cls = b.l.head.cls/\a.f.line = b.f.line/\a.f.cls = b.f.cls/\(0 : Int) = 0/\TK_w11 a.f b.f
def TK_w99 (a : ZStW) (b : ZWr) : Prop := (4 : Int) = 4/\a.f.key = b.f.key/\a.f.value = b.f.value/\TK_w17/\TK_w1/\(4 : Int) = 4/\a.f.epoch = b.f.epoch/\TK_w17/\false = false/\(0 : Int) = 0/\a.f.had = b.f.had/\a.f.old.key = b.f.old.key/\a.f.old.id = b.f.old.id/\a.f.old.ver = b.f.old.ver/\a.f.old.line = b.f.old.line/\a.f.old.cls = b.f.old.cls/\TK_w83 a.ln b.ln/\a.c = b.c/\(a.p : Int) + 1 = (b.p : Int) + 1/\TK_w11 a.f b.f
def TK_w101 (a : ZStR) (b : ZRe) : Prop := (5 : Int) = 5/\a.f.key = b.f.key/\a.f.value = b.f.value/\TK_w17/\TK_w1/\(2 : Int) = 2/\a.f.epoch = b.f.epoch/\TK_w17/\false = false/\(0 : Int) = 0/\true = true/\TK_w17/\a.b.id = b.b.id/\a.b.ver = b.b.ver/\TK_w83 a.ln b.ln/\a.b.cls = b.b.cls/\a.f.line = b.f.line/\a.f.cls = b.f.cls/\(a.p : Int) + 1 = (b.p : Int) + 1/\(0 = 0/\64 * (a.p + 1) = 64 * (b.p + 1))/\TK_w10 a.f b.f
def TK_w102 (a : ZStW) (b : ZWr) : Prop := (4 : Int) = 4/\a.f.key = b.f.key/\a.f.value = b.f.value/\TK_w17/\TK_w1/\(5 : Int) = 4/\a.f.epoch = b.f.epoch/\TK_w17/\false = false/\(0 : Int) = 0/\a.f.had = b.f.had/\a.f.old.key = b.f.old.key/\a.f.old.id = b.f.old.id/\a.f.old.ver = b.f.old.ver/\a.f.old.line = b.f.old.line/\a.f.old.cls = b.f.old.cls/\TK_w83 a.ln b.ln/\a.c = b.c/\0 = (b.p : Int) + 1/\TK_w11 a.f b.f
def TK_w104 (a : ZStW) (b : ZWr) : Prop := (4 : Int) = 4/\a.f.key = b.f.key/\a.f.value = b.f.value/\TK_w17/\TK_w1/\(4 : Int) = 5/\a.f.epoch = b.f.epoch/\TK_w17/\false = false/\(0 : Int) = 0/\a.f.had = b.f.had/\a.f.old.key = b.f.old.key/\a.f.old.id = b.f.old.id/\a.f.old.ver = b.f.old.ver/\a.f.old.line = b.f.old.line/\a.f.old.cls = b.f.old.cls/\TK_w83 a.ln b.ln/\a.c = b.c/\(a.p : Int) + 1 = 0/\TK_w11 a.f b.f
def TK_w105 (a : ZRe) (b : ZStR) : Prop := 0 = 0/\TK_w83 a.t b.t/\((5 : Int) = 5/\a.f.key = b.f.key/\a.f.value = b.f.value/\TK_w17/\TK_w1/\(2 : Int) = 2/\a.f.epoch = b.f.epoch/\TK_w17/\false = false/\(0 : Int) = 0/\true = true/\TK_w17/\a.b.id = b.b.id/\a.b.ver = b.b.ver/\TK_w83 a.ln b.ln/\a.b.cls = b.b.cls/\a.f.line = b.f.line/\a.f.cls = b.f.cls/\(0 : Int) = 0/\TK_w11 a.f b.f)/\True
def TK_w107 (a : ZSt) (b : ZFr) : Prop := (5 : Int) = 5/\a.f.key = b.key/\a.f.value = b.value/\TK_w17/\TK_w1/\(2 : Int) = 6/\a.f.epoch = b.epoch/\TK_w17/\false = false/\(0 : Int) = 0/\true = false/\a.a.l.head.key = ByteArray.mk #[]/\a.a.l.head.id = 0/\a.a.l.head.ver = 0/\a.a.l.head.line = 0/\a.a.l.head.cls = 0/\a.f.line = b.line/\a.f.cls = b.cls/\0 = b.piece/\TK_w11 a.f b
def TK_w108 (a : ZFr) (b : ZFi) : Prop := (5 : Int) = 5/\a.key = b.f.key/\a.value = b.f.value/\TK_w17/\TK_w1/\(6 : Int) = 2/\a.epoch = b.f.epoch/\TK_w17/\false = false/\(0 : Int) = 0/\false = true/\ByteArray.mk #[] = b.l.head.key/\0 = b.l.head.id/\0 = b.l.head.ver/\0 = b.l.head.line/\0 = b.l.head.cls/\a.line = b.f.line/\a.cls = b.f.cls/\a.piece = 0/\TK_w11 a b.f
def TK_w109 (a : ZStR) (b : ZRe) : Prop := (5 : Int) = 5/\a.f.key = b.f.key/\a.f.value = b.f.value/\TK_w17/\TK_w1/\(2 : Int) = 2/\a.f.epoch = b.f.epoch/\TK_w17/\false = false/\(0 : Int) = 0/\true = true/\TK_w17/\a.b.id = b.b.id/\a.b.ver = b.b.ver/\TK_w83 a.ln b.ln/\a.b.cls = b.b.cls/\a.f.line = b.f.line/\a.f.cls = b.f.cls/\(1 : Int) = 1/\(0 = 0/\64 = 64)/\TK_w10 a.f b.f
def TK_w113 (a : ClkM) (b : ClkM) : Prop := ownM (a.os 0) = ownM (b.os 0)
def TK_w114 (a : ZFr) (b : ZFr) : Prop := (5 : Int) = 5/\a.key = b.key/\a.value = b.value/\TK_w17/\TK_w1/\(6 : Int) = 6/\a.epoch = b.epoch/\TK_w17/\false = false/\(0 : Int) = 0/\false = false/\TK_w17/\(0 : Int) = 0/\(0 : Int) = 0/\(0 : Int) = 0/\(0 : Int) = 0/\a.line = b.line/\a.cls = b.cls/\a.piece = b.piece/\TK_w11 a b
def TK_w115 (a : ZEn) (b : ZArn) : Prop := (True/\True/\0 = 0/\0 = 0/\TK_w55)/\ownM a.r.os = ownM b.r.os/\TK_w113 a.c b.c/\True
def TK_w117 (a : Int) : Prop := Hd ((1 : Int) ≠ spn a)
def TK_w122 (a : ZSt) : Prop := Hd (∀ i : Nat,i < a.a.p.n->a.a.p.cls i ≠ (-(1 : Int))/\a.a.p.full (a.c (4 : Int)) i)
def TK_w123 (a : ZSt) : Prop := Hd (∀ i : Nat,i < a.a.p.n->a.a.p.cls i ≠ (-(1 : Int))/\a.a.p.full (a.c (5 : Int)) i)
def TK_w124 (a : ZFr) (b : ZFr) : Prop := a.key = b.key/\a.value = b.value/\TK_w17/\TK_w1/\(0 : Int) = 0/\TK_w14 a b
def TK_w125 (a : ZFr) (b : ZFr) : Prop := a.key = b.key/\a.value = b.value/\TK_w17/\TK_w1/\(3 : Int) = 3/\TK_w14 a b
def TK_w126 (a : ZFr) (b : ZFr) : Prop := a.key = b.key/\a.value = b.value/\TK_w17/\TK_w1/\(6 : Int) = 6/\TK_w14 a b
def TK_w127 (a : ZFr) (b : ZFr) : Prop := a.key = b.key/\a.value = b.value/\TK_w17/\TK_w1/\(7 : Int) = 7/\TK_w14 a b
def TK_w128 (a : ZRe) (b : ZStR) : Prop := (0 = 0/\True/\True/\True/\TK_w55)/\TK_w156/\ownM a.d.os = ownM b.a.d.os/\(64 * a.p = 64 * b.p/\∀ q : Nat,q < 64 * a.p->TK_w135 a.b q b.b)/\True
def TK_w129 (a : ZStR) : Prop := Hd ((a.p : Int) + 1 = spn a.b.cls/\0<=a.f.line)
def TK_w130 (a : ZStR) : Prop := Hd ((a.p : Int) + 1 = spn a.b.cls/\a.f.line < 0)
def TK_w131 (a : ZSt) (b : ZEn) : Prop := ownM (ZRd.os (a.a.r.put a.t a.a.r.now)) = ownM (ZRd.os (b.r.put b.t b.r.now))
def TK_w132 (a : ZSt) (b : ZLv) : Prop := ownM (ZRd.os (a.a.r.put a.t (0 : Int))) = ownM (ZRd.os (b.r.put b.t (0 : Int)))
def TK_w133 (a : ZRd) (b : ZRd) : Prop := (True/\True/\0 = 0/\True/\TK_w55)/\ownM a.os = ownM b.os/\True
def TK_w134 (a : ZPool) (b : ZPool) : Prop := (True/\0 = 0/\True/\True/\TK_w55)/\ownM a.os = ownM b.os/\True
def TK_w136 (a : ZEn) : Prop := Hd (a.r.ok/\a.c.ok/\a.t < a.r.t/\a.r.has a.t = 0)
def TK_w137 (a : ZStR) (b : ZRe) : Prop := TK_w25 a.a/\TK_w52 a b/\TK_w89 a.a b.d
def TK_w138 (a : ZStR) (b : ZRe) : Prop := TK_w19 a.a/\TK_w52 a b/\TK_w67 a.a b.d
def TK_w142 (a : ZStR) : Prop := Hd ((a.p : Int) + 1 ≠ spn a.b.cls)
def TK_w139 (a : ZStR) : Prop := ∃ y_1 : Unit,TK_w142 a/\False
def TK_w140 (a : ZStR) : Prop := Hd (1 = spn a.b.cls/\0<=a.f.line)
def TK_w141 (a : ZStR) : Prop := Hd (1 = spn a.b.cls/\a.f.line < 0)
def TK_w143 (a : ZFi) (b : ZSt) : Prop := 0 = 0/\TK_w83 a.t b.t/\((5 : Int) = 5/\a.f.key = b.f.key/\a.f.value = b.f.value/\TK_w17/\TK_w1/\(1 : Int) = 1/\TK_w14 a.f b.f)/\True
def TK_w145 (a : ByteArray) : Prop := Hd ((4 : Int) = 4/\400 < a.size)
def TK_w146 (a : ByteArray) : Prop := Hd ((4 : Int) = 4->a.size<=400)
def TK_w147 (a : ByteArray) : Prop := Hd ((5 : Int) = 4/\400 < a.size)
def TK_w148 (a : ByteArray) : Prop := Hd ((5 : Int) = 4->a.size<=400)
def TK_w149 (a : ZSt) (b : ZEn) : Prop := TK_w25 a.a/\TK_w24/\TK_w74 a.a.d/\TK_w66 a.a.p/\ownM (ZRd.os (a.a.r.put a.t a.a.r.now)) = ownM b.r.os/\TK_w113 a.a.c b.c/\TK_w23 a.a
def TK_w150 (a : ZSt) (b : ZEn) : Prop := TK_w19 a.a/\TK_w24/\TK_w74 a.a.d/\TK_w66 a.a.p/\ownM (ZRd.os (a.a.r.put a.t a.a.r.now)) = ownM b.r.os/\TK_w113 a.a.c b.c/\TK_w2 a.a
def TK_w152 (a : ZArn) (b : ZEn) : Prop := TK_w25 a/\TK_w24/\TK_w74 a.d/\TK_w66 a.p/\ownM a.r.os = ownM (ZRd.os (b.r.put b.t b.r.now))/\TK_w113 a.c b.c/\TK_w23 a
def TK_w153 (a : ZSt) (b : ZEn) : Prop := (4 : Int) = 4/\a.f.key = b.f.key/\a.f.value = b.f.value/\TK_w17/\TK_w1/\(3 : Int) = 3/\a.a.c.now = b.c.now/\TK_w9 a.f b.f
def TK_w154 (a : ZArn) (b : ZEn) : Prop := TK_w19 a/\TK_w24/\TK_w74 a.d/\TK_w66 a.p/\ownM a.r.os = ownM (ZRd.os (b.r.put b.t b.r.now))/\TK_w113 a.c b.c/\TK_w2 a
def TK_w155 (a : ZSt) (b : ZEn) : Prop := (5 : Int) = 5/\a.f.key = b.f.key/\a.f.value = b.f.value/\TK_w17/\TK_w1/\(1 : Int) = 1/\a.a.c.now = b.c.now/\TK_w9 a.f b.f
def TK_w160 (a : ZLn) (b : ZLn) : Prop := (True/\True/\True/\True/\True/\True/\True/\TK_w156)/\ownM a.os = ownM b.os/\True
def TK_w165 (a : ZArn) (b : ZEn) : Prop := TK_w25 a/\TK_w24/\TK_w74 a.d/\TK_w66 a.p/\ownM a.r.os = ownM b.r.os/\TK_w113 a.c b.c/\TK_w23 a
def TK_w166 (a : ZArn) (b : ZEn) : Prop := TK_w19 a/\TK_w24/\TK_w74 a.d/\TK_w66 a.p/\ownM a.r.os = ownM b.r.os/\TK_w113 a.c b.c/\TK_w2 a
def TK_w167 (a : ZTk) : Prop := Hd (a.p.ok/\a.f.value.size<=400)
def TK_w168 (a : ZStR) (b : ZRe) : Prop := (5 : Int) = 5/\a.f.key = b.f.key/\a.f.value = b.f.value/\TK_w17/\TK_w1/\(3 : Int) = 2/\TK_w57 a b
def TK_w169 (a : ZStR) (b : ZRe) : Prop := (5 : Int) = 5/\a.f.key = b.f.key/\a.f.value = b.f.value/\TK_w17/\TK_w1/\(5 : Int) = 2/\TK_w57 a b
def TK_w170 (a : ZStR) (b : ZRe) : Prop := (5 : Int) = 5/\a.f.key = b.f.key/\a.f.value = b.f.value/\TK_w17/\TK_w1/\(3 : Int) = 3/\TK_w33 a b
def TK_w171 (a : ZStR) (b : ZRe) : Prop := (5 : Int) = 5/\a.f.key = b.f.key/\a.f.value = b.f.value/\TK_w17/\TK_w1/\(5 : Int) = 3/\TK_w33 a b
def TK_w172 (a : ZStR) (b : ZRe) : Prop := (5 : Int) = 5/\a.f.key = b.f.key/\a.f.value = b.f.value/\TK_w17/\TK_w1/\(3 : Int) = 5/\TK_w33 a b
def TK_w173 (a : ZStR) (b : ZRe) : Prop := (5 : Int) = 5/\a.f.key = b.f.key/\a.f.value = b.f.value/\TK_w17/\TK_w1/\(5 : Int) = 5/\TK_w33 a b
def TK_w174 (a : ZStR) (b : ZRe) : Prop := (5 : Int) = 5/\a.f.key = b.f.key/\a.f.value = b.f.value/\TK_w17/\TK_w1/\(3 : Int) = 2/\TK_w51 a b
def TK_w175 (a : ZStR) (b : ZRe) : Prop := (5 : Int) = 5/\a.f.key = b.f.key/\a.f.value = b.f.value/\TK_w17/\TK_w1/\(5 : Int) = 2/\TK_w51 a b
def TK_w176 (a : ZStR) (b : ZRe) : Prop := (5 : Int) = 5/\a.f.key = b.f.key/\a.f.value = b.f.value/\TK_w17/\TK_w1/\(3 : Int) = 3/\TK_w31 a b
def TK_w177 (a : ZStR) (b : ZRe) : Prop := (5 : Int) = 5/\a.f.key = b.f.key/\a.f.value = b.f.value/\TK_w17/\TK_w1/\(5 : Int) = 3/\TK_w31 a b
def TK_w178 (a : ZStR) (b : ZRe) : Prop := (5 : Int) = 5/\a.f.key = b.f.key/\a.f.value = b.f.value/\TK_w17/\TK_w1/\(3 : Int) = 5/\TK_w31 a b
def TK_w179 (a : ZStR) (b : ZRe) : Prop := (5 : Int) = 5/\a.f.key = b.f.key/\a.f.value = b.f.value/\TK_w17/\TK_w1/\(5 : Int) = 5/\TK_w31 a b
def TK_w180 (a : ZSt) (b : ZFr) : Prop := (4 : Int) = 4/\a.f.key = b.key/\a.f.value = b.value/\TK_w17/\TK_w1/\(3 : Int) = 7/\TK_w49 a b
def TK_w181 (a : ZFr) (b : ZEn) : Prop := (4 : Int) = 4/\a.key = b.f.key/\a.value = b.f.value/\TK_w17/\TK_w1/\(7 : Int) = 3/\TK_w50 a b
def TK_w182 (a : ZSt) (b : ZFr) : Prop := (5 : Int) = 5/\a.f.key = b.key/\a.f.value = b.value/\TK_w17/\TK_w1/\(1 : Int) = 7/\TK_w49 a b
def TK_w183 (a : ZFr) (b : ZEn) : Prop := (5 : Int) = 5/\a.key = b.f.key/\a.value = b.f.value/\TK_w17/\TK_w1/\(7 : Int) = 1/\TK_w50 a b
def TK_w184 (a : ZSt) (b : ZEn) : Prop := TK_w25 a.a/\TK_w24/\TK_w74 a.a.d/\TK_w66 a.a.p/\TK_w131 a b/\TK_w113 a.a.c b.c/\TK_w23 a.a
def TK_w185 (a : ZSt) (b : ZEn) : Prop := TK_w19 a.a/\TK_w24/\TK_w74 a.a.d/\TK_w66 a.a.p/\TK_w131 a b/\TK_w113 a.a.c b.c/\TK_w2 a.a
def TK_w186 (a : ZTk) : Prop := Hd (∀ i : Nat,i < a.p.n->a.p.cls i ≠ (-(1 : Int))/\a.p.full (a.c (4 : Int)) i)
def TK_w187 (a : ZTk) : Prop := Hd (∀ i : Nat,i < a.p.n->a.p.cls i ≠ (-(1 : Int))/\a.p.full (a.c (5 : Int)) i)
def enter4ZNVC (x : ZSt) : Prop :=
 ∃ x_1 : ZEn,TK_w136 x_1/\(0 = 0/\TK_w83 x_1.t x.t/\((4 : Int) = 4/\TK_w124 x_1.f x.f)/\True)/\TK_w115 x_1 x.a/\(∀ y : Unit,TK_w145 x_1.f.value->(∃ y_1 : Unit,TK_w145 x.f.value/\((4 : Int) = 4/\TK_w46 x.f x_1.f)/\TK_w165 x.a x_1) ∨ ∃ y_1 : Unit,TK_w146 x.f.value/\TK_w180 x x_1.f/\TK_w149 x x_1)/\∀ y : Unit,TK_w146 x_1.f.value->(∃ y_1 : Unit,TK_w145 x.f.value/\TK_w181 x.f x_1/\TK_w152 x.a x_1) ∨ ∃ y_1 : Unit,TK_w146 x.f.value/\TK_w153 x x_1/\TK_w184 x x_1
theorem enter4ZNVC_ok (x : ZSt) : enter4ZNVC x = ctrT (enterS 4) ((enterZ 4).N.args x) (hO 10 (flatP 1 ((enterZ 4).N.l x))) (fun v h' => endsPK 1 x v h' (enterZ 4).N.outs) := by kernel_rfl
def enter4ZPVC (x : ZSt) : Prop :=
 ∃ x_1 : ZEn,TK_w136 x_1/\(0 = 0/\TK_w83 x_1.t x.t/\((4 : Int) = 4/\TK_w124 x_1.f x.f)/\True)/\TK_w115 x_1 x.a/\(∀ y : Unit,TK_w145 x_1.f.value->(∃ y_1 : Unit,TK_w145 x.f.value/\((4 : Int) = 4/\TK_w46 x.f x_1.f)/\TK_w166 x.a x_1) ∨ ∃ y_1 : Unit,TK_w146 x.f.value/\TK_w180 x x_1.f/\TK_w150 x x_1)/\∀ y : Unit,TK_w146 x_1.f.value->(∃ y_1 : Unit,TK_w145 x.f.value/\TK_w181 x.f x_1/\TK_w154 x.a x_1) ∨ ∃ y_1 : Unit,TK_w146 x.f.value/\TK_w153 x x_1/\TK_w185 x x_1
theorem enter4ZPVC_ok (x : ZSt) : enter4ZPVC x = ctrT (enterS 4) ((enterZ 4).P.args x) (hO 11 (flatP 1 ((enterZ 4).P.l x))) (fun v h' => endsPK 1 x v h' (enterZ 4).P.outs) := by kernel_rfl
def enter5ZNVC (x : ZSt) : Prop :=
 ∃ x_1 : ZEn,TK_w136 x_1/\(0 = 0/\TK_w83 x_1.t x.t/\((5 : Int) = 5/\TK_w124 x_1.f x.f)/\True)/\TK_w115 x_1 x.a/\(∀ y : Unit,TK_w147 x_1.f.value->(∃ y_1 : Unit,TK_w147 x.f.value/\((5 : Int) = 5/\TK_w46 x.f x_1.f)/\TK_w165 x.a x_1) ∨ ∃ y_1 : Unit,TK_w148 x.f.value/\TK_w182 x x_1.f/\TK_w149 x x_1)/\∀ y : Unit,TK_w148 x_1.f.value->(∃ y_1 : Unit,TK_w147 x.f.value/\TK_w183 x.f x_1/\TK_w152 x.a x_1) ∨ ∃ y_1 : Unit,TK_w148 x.f.value/\TK_w155 x x_1/\TK_w184 x x_1
theorem enter5ZNVC_ok (x : ZSt) : enter5ZNVC x = ctrT (enterS 5) ((enterZ 5).N.args x) (hO 10 (flatP 1 ((enterZ 5).N.l x))) (fun v h' => endsPK 1 x v h' (enterZ 5).N.outs) := by kernel_rfl
def enter5ZPVC (x : ZSt) : Prop :=
 ∃ x_1 : ZEn,TK_w136 x_1/\(0 = 0/\TK_w83 x_1.t x.t/\((5 : Int) = 5/\TK_w124 x_1.f x.f)/\True)/\TK_w115 x_1 x.a/\(∀ y : Unit,TK_w147 x_1.f.value->(∃ y_1 : Unit,TK_w147 x.f.value/\((5 : Int) = 5/\TK_w46 x.f x_1.f)/\TK_w166 x.a x_1) ∨ ∃ y_1 : Unit,TK_w148 x.f.value/\TK_w182 x x_1.f/\TK_w150 x x_1)/\∀ y : Unit,TK_w148 x_1.f.value->(∃ y_1 : Unit,TK_w147 x.f.value/\TK_w183 x.f x_1/\TK_w154 x.a x_1) ∨ ∃ y_1 : Unit,TK_w148 x.f.value/\TK_w155 x x_1/\TK_w185 x x_1
theorem enter5ZPVC_ok (x : ZSt) : enter5ZPVC x = ctrT (enterS 5) ((enterZ 5).P.args x) (hO 11 (flatP 1 ((enterZ 5).P.l x))) (fun v h' => endsPK 1 x v h' (enterZ 5).P.outs) := by kernel_rfl
def findZNVC (x : ZSt) : Prop :=
 ∃ x_1 : ZFi,Hd (x_1.l.ok/\x_1.f.line = (-(1 : Int)))/\TK_w143 x_1 x/\TK_w160 x_1.l x.a.l/\(∀ y : Unit,Hd (x_1.l.n = 0)->(∃ y_1 : Unit,Hd (x.a.l.n = 0)/\TK_w114 x.f x_1.f/\TK_w69 x.a x_1.l) ∨ ∃ y_1 : Unit,Hd (x.a.l.n ≠ 0)/\TK_w107 x x_1.f/\TK_w69 x.a x_1.l)/\∀ y : Unit,Hd (x_1.l.n ≠ 0)->(∃ y_1 : Unit,Hd (x.a.l.n = 0)/\TK_w108 x.f x_1/\TK_w69 x.a x_1.l) ∨ ∃ y_1 : Unit,Hd (x.a.l.n ≠ 0)/\TK_w98 x x_1/\TK_w69 x.a x_1.l
theorem findZNVC_ok (x : ZSt) : findZNVC x = ctrT findS (findZ.N.args x) (hO 10 (flatP 1 (findZ.N.l x))) (fun v h' => endsPK 1 x v h' findZ.N.outs) := by kernel_rfl
def findZPVC (x : ZSt) : Prop :=
 ∃ x_1 : ZFi,Hd (x_1.l.ok/\x_1.f.line = (-(1 : Int)))/\TK_w143 x_1 x/\TK_w160 x_1.l x.a.l/\(∀ y : Unit,Hd (x_1.l.n = 0)->(∃ y_1 : Unit,Hd (x.a.l.n = 0)/\TK_w114 x.f x_1.f/\TK_w68 x.a x_1.l) ∨ ∃ y_1 : Unit,Hd (x.a.l.n ≠ 0)/\TK_w107 x x_1.f/\TK_w68 x.a x_1.l)/\∀ y : Unit,Hd (x_1.l.n ≠ 0)->(∃ y_1 : Unit,Hd (x.a.l.n = 0)/\TK_w108 x.f x_1/\TK_w68 x.a x_1.l) ∨ ∃ y_1 : Unit,Hd (x.a.l.n ≠ 0)/\TK_w98 x x_1/\TK_w68 x.a x_1.l
theorem findZPVC_ok (x : ZSt) : findZPVC x = ctrT findS (findZ.P.args x) (hO 11 (flatP 1 (findZ.P.l x))) (fun v h' => endsPK 1 x v h' findZ.P.outs) := by kernel_rfl
def take4ZNVC (x : ZSt) : Prop :=
 ∃ x_1 : ZTk,TK_w167 x_1/\(0 = 0/\TK_w83 x_1.t x.t/\((4 : Int) = 4/\TK_w125 x_1.f x.f)/\True)/\TK_w134 x_1.p x.a.p/\(∀ y : Unit,TK_w186 x_1->(∃ y_1 : Unit,TK_w122 x/\TK_w81 x x_1/\TK_w25 x.a/\TK_w24/\TK_w74 x.a.d/\ownM x.a.p.os = ownM x_1.p.os/\TK_w18 x.a) ∨ ∃ y_1 : Prod Nat Nat,Hd (x.a.p.takes (x.c (4 : Int)) y_1.1 y_1.2)/\TK_w78 x x_1 y_1/\TK_w25 x.a/\TK_w24/\TK_w74 x.a.d/\ownM (ZPool.os (x.a.p.take (x.c (4 : Int)) y_1.1 y_1.2)) = ownM x_1.p.os/\TK_w18 x.a)/\∀ y : Prod Nat Nat,Hd (x_1.p.takes (x_1.c (4 : Int)) y.1 y.2)->(∃ y_1 : Unit,TK_w122 x/\TK_w76 x x_1 y/\TK_w25 x.a/\TK_w24/\TK_w74 x.a.d/\ownM x.a.p.os = ownM (ZPool.os (x_1.p.take (x_1.c (4 : Int)) y.1 y.2))/\TK_w18 x.a) ∨ ∃ y_1 : Prod Nat Nat,Hd (x.a.p.takes (x.c (4 : Int)) y_1.1 y_1.2)/\TK_w90 x x_1 y_1 y/\TK_w25 x.a/\TK_w24/\TK_w74 x.a.d/\ownM (ZPool.os (x.a.p.take (x.c (4 : Int)) y_1.1 y_1.2)) = ownM (ZPool.os (x_1.p.take (x_1.c (4 : Int)) y.1 y.2))/\TK_w18 x.a
theorem take4ZNVC_ok (x : ZSt) : take4ZNVC x = ctrT (takeS 4) ((takeZ 4).N.args x) (hO 10 (flatP 1 ((takeZ 4).N.l x))) (fun v h' => endsPK 1 x v h' (takeZ 4).N.outs) := by kernel_rfl
def take4ZPVC (x : ZSt) : Prop :=
 ∃ x_1 : ZTk,TK_w167 x_1/\(0 = 0/\TK_w83 x_1.t x.t/\((4 : Int) = 4/\TK_w125 x_1.f x.f)/\True)/\TK_w134 x_1.p x.a.p/\(∀ y : Unit,TK_w186 x_1->(∃ y_1 : Unit,TK_w122 x/\TK_w81 x x_1/\TK_w19 x.a/\TK_w24/\TK_w74 x.a.d/\ownM x.a.p.os = ownM x_1.p.os/\TK_w6 x.a) ∨ ∃ y_1 : Prod Nat Nat,Hd (x.a.p.takes (x.c (4 : Int)) y_1.1 y_1.2)/\TK_w78 x x_1 y_1/\TK_w19 x.a/\TK_w24/\TK_w74 x.a.d/\ownM (ZPool.os (x.a.p.take (x.c (4 : Int)) y_1.1 y_1.2)) = ownM x_1.p.os/\TK_w6 x.a)/\∀ y : Prod Nat Nat,Hd (x_1.p.takes (x_1.c (4 : Int)) y.1 y.2)->(∃ y_1 : Unit,TK_w122 x/\TK_w76 x x_1 y/\TK_w19 x.a/\TK_w24/\TK_w74 x.a.d/\ownM x.a.p.os = ownM (ZPool.os (x_1.p.take (x_1.c (4 : Int)) y.1 y.2))/\TK_w6 x.a) ∨ ∃ y_1 : Prod Nat Nat,Hd (x.a.p.takes (x.c (4 : Int)) y_1.1 y_1.2)/\TK_w90 x x_1 y_1 y/\TK_w19 x.a/\TK_w24/\TK_w74 x.a.d/\ownM (ZPool.os (x.a.p.take (x.c (4 : Int)) y_1.1 y_1.2)) = ownM (ZPool.os (x_1.p.take (x_1.c (4 : Int)) y.1 y.2))/\TK_w6 x.a
theorem take4ZPVC_ok (x : ZSt) : take4ZPVC x = ctrT (takeS 4) ((takeZ 4).P.args x) (hO 11 (flatP 1 ((takeZ 4).P.l x))) (fun v h' => endsPK 1 x v h' (takeZ 4).P.outs) := by kernel_rfl
def take5ZNVC (x : ZSt) : Prop :=
 ∃ x_1 : ZTk,TK_w167 x_1/\(0 = 0/\TK_w83 x_1.t x.t/\((5 : Int) = 5/\TK_w125 x_1.f x.f)/\True)/\TK_w134 x_1.p x.a.p/\(∀ y : Unit,TK_w187 x_1->(∃ y_1 : Unit,TK_w123 x/\TK_w82 x x_1/\TK_w25 x.a/\TK_w24/\TK_w74 x.a.d/\ownM x.a.p.os = ownM x_1.p.os/\TK_w18 x.a) ∨ ∃ y_1 : Prod Nat Nat,Hd (x.a.p.takes (x.c (5 : Int)) y_1.1 y_1.2)/\TK_w79 x x_1 y_1/\TK_w25 x.a/\TK_w24/\TK_w74 x.a.d/\ownM (ZPool.os (x.a.p.take (x.c (5 : Int)) y_1.1 y_1.2)) = ownM x_1.p.os/\TK_w18 x.a)/\∀ y : Prod Nat Nat,Hd (x_1.p.takes (x_1.c (5 : Int)) y.1 y.2)->(∃ y_1 : Unit,TK_w123 x/\TK_w77 x x_1 y/\TK_w25 x.a/\TK_w24/\TK_w74 x.a.d/\ownM x.a.p.os = ownM (ZPool.os (x_1.p.take (x_1.c (5 : Int)) y.1 y.2))/\TK_w18 x.a) ∨ ∃ y_1 : Prod Nat Nat,Hd (x.a.p.takes (x.c (5 : Int)) y_1.1 y_1.2)/\TK_w91 x x_1 y_1 y/\TK_w25 x.a/\TK_w24/\TK_w74 x.a.d/\ownM (ZPool.os (x.a.p.take (x.c (5 : Int)) y_1.1 y_1.2)) = ownM (ZPool.os (x_1.p.take (x_1.c (5 : Int)) y.1 y.2))/\TK_w18 x.a
theorem take5ZNVC_ok (x : ZSt) : take5ZNVC x = ctrT (takeS 5) ((takeZ 5).N.args x) (hO 10 (flatP 1 ((takeZ 5).N.l x))) (fun v h' => endsPK 1 x v h' (takeZ 5).N.outs) := by kernel_rfl
def take5ZPVC (x : ZSt) : Prop :=
 ∃ x_1 : ZTk,TK_w167 x_1/\(0 = 0/\TK_w83 x_1.t x.t/\((5 : Int) = 5/\TK_w125 x_1.f x.f)/\True)/\TK_w134 x_1.p x.a.p/\(∀ y : Unit,TK_w187 x_1->(∃ y_1 : Unit,TK_w123 x/\TK_w82 x x_1/\TK_w19 x.a/\TK_w24/\TK_w74 x.a.d/\ownM x.a.p.os = ownM x_1.p.os/\TK_w6 x.a) ∨ ∃ y_1 : Prod Nat Nat,Hd (x.a.p.takes (x.c (5 : Int)) y_1.1 y_1.2)/\TK_w79 x x_1 y_1/\TK_w19 x.a/\TK_w24/\TK_w74 x.a.d/\ownM (ZPool.os (x.a.p.take (x.c (5 : Int)) y_1.1 y_1.2)) = ownM x_1.p.os/\TK_w6 x.a)/\∀ y : Prod Nat Nat,Hd (x_1.p.takes (x_1.c (5 : Int)) y.1 y.2)->(∃ y_1 : Unit,TK_w123 x/\TK_w77 x x_1 y/\TK_w19 x.a/\TK_w24/\TK_w74 x.a.d/\ownM x.a.p.os = ownM (ZPool.os (x_1.p.take (x_1.c (5 : Int)) y.1 y.2))/\TK_w6 x.a) ∨ ∃ y_1 : Prod Nat Nat,Hd (x.a.p.takes (x.c (5 : Int)) y_1.1 y_1.2)/\TK_w91 x x_1 y_1 y/\TK_w19 x.a/\TK_w24/\TK_w74 x.a.d/\ownM (ZPool.os (x.a.p.take (x.c (5 : Int)) y_1.1 y_1.2)) = ownM (ZPool.os (x_1.p.take (x_1.c (5 : Int)) y.1 y.2))/\TK_w6 x.a
theorem take5ZPVC_ok (x : ZSt) : take5ZPVC x = ctrT (takeS 5) ((takeZ 5).P.args x) (hO 11 (flatP 1 ((takeZ 5).P.l x))) (fun v h' => endsPK 1 x v h' (takeZ 5).P.outs) := by kernel_rfl
def leave4ZNVC (x : ZSt) : Prop :=
 ∃ x_1 : ZLv,Hd (x_1.r.ok/\x_1.t < x_1.r.t)/\(0 = 0/\TK_w83 x_1.t x.t/\((4 : Int) = 4/\TK_w126 x_1.f x.f)/\True)/\TK_w133 x_1.r x.a.r/\∀ y : Unit,True->∃ y_1 : Unit,True/\((4 : Int) = 4/\TK_w127 x.f x_1.f)/\TK_w25 x.a/\TK_w24/\TK_w74 x.a.d/\TK_w66 x.a.p/\TK_w132 x x_1/\TK_w21 x.a
theorem leave4ZNVC_ok (x : ZSt) : leave4ZNVC x = ctrT (leaveS 4) ((leaveZ 4).N.args x) (hO 10 (flatP 1 ((leaveZ 4).N.l x))) (fun v h' => endsPK 1 x v h' (leaveZ 4).N.outs) := by kernel_rfl
def leave4ZPVC (x : ZSt) : Prop :=
 ∃ x_1 : ZLv,Hd (x_1.r.ok/\x_1.t < x_1.r.t)/\(0 = 0/\TK_w83 x_1.t x.t/\((4 : Int) = 4/\TK_w126 x_1.f x.f)/\True)/\TK_w133 x_1.r x.a.r/\∀ y : Unit,True->∃ y_1 : Unit,True/\((4 : Int) = 4/\TK_w127 x.f x_1.f)/\TK_w19 x.a/\TK_w24/\TK_w74 x.a.d/\TK_w66 x.a.p/\TK_w132 x x_1/\TK_w5 x.a
theorem leave4ZPVC_ok (x : ZSt) : leave4ZPVC x = ctrT (leaveS 4) ((leaveZ 4).P.args x) (hO 11 (flatP 1 ((leaveZ 4).P.l x))) (fun v h' => endsPK 1 x v h' (leaveZ 4).P.outs) := by kernel_rfl
def leave5ZNVC (x : ZSt) : Prop :=
 ∃ x_1 : ZLv,Hd (x_1.r.ok/\x_1.t < x_1.r.t)/\(0 = 0/\TK_w83 x_1.t x.t/\((5 : Int) = 5/\TK_w126 x_1.f x.f)/\True)/\TK_w133 x_1.r x.a.r/\∀ y : Unit,True->∃ y_1 : Unit,True/\((5 : Int) = 5/\TK_w127 x.f x_1.f)/\TK_w25 x.a/\TK_w24/\TK_w74 x.a.d/\TK_w66 x.a.p/\TK_w132 x x_1/\TK_w21 x.a
theorem leave5ZNVC_ok (x : ZSt) : leave5ZNVC x = ctrT (leaveS 5) ((leaveZ 5).N.args x) (hO 10 (flatP 1 ((leaveZ 5).N.l x))) (fun v h' => endsPK 1 x v h' (leaveZ 5).N.outs) := by kernel_rfl
def leave5ZPVC (x : ZSt) : Prop :=
 ∃ x_1 : ZLv,Hd (x_1.r.ok/\x_1.t < x_1.r.t)/\(0 = 0/\TK_w83 x_1.t x.t/\((5 : Int) = 5/\TK_w126 x_1.f x.f)/\True)/\TK_w133 x_1.r x.a.r/\∀ y : Unit,True->∃ y_1 : Unit,True/\((5 : Int) = 5/\TK_w127 x.f x_1.f)/\TK_w19 x.a/\TK_w24/\TK_w74 x.a.d/\TK_w66 x.a.p/\TK_w132 x x_1/\TK_w5 x.a
theorem leave5ZPVC_ok (x : ZSt) : leave5ZPVC x = ctrT (leaveS 5) ((leaveZ 5).P.args x) (hO 11 (flatP 1 ((leaveZ 5).P.l x))) (fun v h' => endsPK 1 x v h' (leaveZ 5).P.outs) := by kernel_rfl
def write40ZNVC (x : ZStW) : Prop :=
 ∃ x_1 : ZWr,Hd (x_1.ok/\x_1.p = 0)/\(0 = 0/\TK_w83 x_1.t x.t/\((4 : Int) = 4/\TK_w58 x_1 x)/\True)/\TK_w73 x_1.d x.a.d/\(∀ y : Unit,TK_w117 x_1.c->(∃ y_1 : Unit,TK_w117 x.c/\((4 : Int) = 4/\TK_w59 x x_1)/\TK_w75 x x_1) ∨ ∃ y_1 : Unit,Hd (1 = spn x.c)/\((4 : Int) = 4/\TK_w60 x x_1)/\TK_w75 x x_1)/\∀ y : Unit,Hd (1 = spn x_1.c)->(∃ y_1 : Unit,TK_w117 x.c/\((4 : Int) = 4/\TK_w61 x x_1)/\TK_w75 x x_1) ∨ ∃ y_1 : Unit,Hd (1 = spn x.c)/\((4 : Int) = 4/\TK_w41 x x_1)/\TK_w75 x x_1
theorem write40ZNVC_ok (x : ZStW) : write40ZNVC x = ctrT (writeS0 4) ((writeZ0 4).N.args x) (hO 10 (flatP 1 ((writeZ0 4).N.l x))) (fun v h' => endsPK 1 x v h' (writeZ0 4).N.outs) := by kernel_rfl
def write40ZPVC (x : ZStW) : Prop :=
 ∃ x_1 : ZWr,Hd (x_1.ok/\x_1.p = 0)/\(0 = 0/\TK_w83 x_1.t x.t/\((4 : Int) = 4/\TK_w58 x_1 x)/\True)/\TK_w73 x_1.d x.a.d/\(∀ y : Unit,TK_w117 x_1.c->(∃ y_1 : Unit,TK_w117 x.c/\((4 : Int) = 4/\TK_w59 x x_1)/\TK_w65 x x_1) ∨ ∃ y_1 : Unit,Hd (1 = spn x.c)/\((4 : Int) = 4/\TK_w60 x x_1)/\TK_w65 x x_1)/\∀ y : Unit,Hd (1 = spn x_1.c)->(∃ y_1 : Unit,TK_w117 x.c/\((4 : Int) = 4/\TK_w61 x x_1)/\TK_w65 x x_1) ∨ ∃ y_1 : Unit,Hd (1 = spn x.c)/\((4 : Int) = 4/\TK_w41 x x_1)/\TK_w65 x x_1
theorem write40ZPVC_ok (x : ZStW) : write40ZPVC x = ctrT (writeS0 4) ((writeZ0 4).P.args x) (hO 11 (flatP 1 ((writeZ0 4).P.l x))) (fun v h' => endsPK 1 x v h' (writeZ0 4).P.outs) := by kernel_rfl
def write50ZNVC (x : ZStW) : Prop :=
 ∃ x_1 : ZWr,Hd (x_1.ok/\x_1.p = 0)/\(0 = 0/\TK_w83 x_1.t x.t/\((5 : Int) = 5/\TK_w58 x_1 x)/\True)/\TK_w73 x_1.d x.a.d/\(∀ y : Unit,TK_w117 x_1.c->(∃ y_1 : Unit,TK_w117 x.c/\((5 : Int) = 5/\TK_w59 x x_1)/\TK_w75 x x_1) ∨ ∃ y_1 : Unit,Hd (1 = spn x.c)/\((5 : Int) = 5/\TK_w60 x x_1)/\TK_w75 x x_1)/\∀ y : Unit,Hd (1 = spn x_1.c)->(∃ y_1 : Unit,TK_w117 x.c/\((5 : Int) = 5/\TK_w61 x x_1)/\TK_w75 x x_1) ∨ ∃ y_1 : Unit,Hd (1 = spn x.c)/\((5 : Int) = 5/\TK_w41 x x_1)/\TK_w75 x x_1
theorem write50ZNVC_ok (x : ZStW) : write50ZNVC x = ctrT (writeS0 5) ((writeZ0 5).N.args x) (hO 10 (flatP 1 ((writeZ0 5).N.l x))) (fun v h' => endsPK 1 x v h' (writeZ0 5).N.outs) := by kernel_rfl
def write50ZPVC (x : ZStW) : Prop :=
 ∃ x_1 : ZWr,Hd (x_1.ok/\x_1.p = 0)/\(0 = 0/\TK_w83 x_1.t x.t/\((5 : Int) = 5/\TK_w58 x_1 x)/\True)/\TK_w73 x_1.d x.a.d/\(∀ y : Unit,TK_w117 x_1.c->(∃ y_1 : Unit,TK_w117 x.c/\((5 : Int) = 5/\TK_w59 x x_1)/\TK_w65 x x_1) ∨ ∃ y_1 : Unit,Hd (1 = spn x.c)/\((5 : Int) = 5/\TK_w60 x x_1)/\TK_w65 x x_1)/\∀ y : Unit,Hd (1 = spn x_1.c)->(∃ y_1 : Unit,TK_w117 x.c/\((5 : Int) = 5/\TK_w61 x x_1)/\TK_w65 x x_1) ∨ ∃ y_1 : Unit,Hd (1 = spn x.c)/\((5 : Int) = 5/\TK_w41 x x_1)/\TK_w65 x x_1
theorem write50ZPVC_ok (x : ZStW) : write50ZPVC x = ctrT (writeS0 5) ((writeZ0 5).P.args x) (hO 11 (flatP 1 ((writeZ0 5).P.l x))) (fun v h' => endsPK 1 x v h' (writeZ0 5).P.outs) := by kernel_rfl
def write41ZNVC (x : ZStW) : Prop :=
 ∃ x_1 : ZWr,Hd (x_1.ok/\x_1.p ≠ 0)/\TK_w94 x_1 x/\TK_w73 x_1.d x.a.d/\(∀ y : Unit,Hd ((x_1.p : Int) + 1 ≠ spn x_1.c)->(∃ y_1 : Unit,Hd ((x.p : Int) + 1 ≠ spn x.c)/\TK_w99 x x_1/\TK_w75 x x_1) ∨ ∃ y_1 : Unit,Hd ((x.p : Int) + 1 = spn x.c)/\TK_w102 x x_1/\TK_w75 x x_1)/\∀ y : Unit,Hd ((x_1.p : Int) + 1 = spn x_1.c)->(∃ y_1 : Unit,Hd ((x.p : Int) + 1 ≠ spn x.c)/\TK_w104 x x_1/\TK_w75 x x_1) ∨ ∃ y_1 : Unit,Hd ((x.p : Int) + 1 = spn x.c)/\((4 : Int) = 4/\TK_w41 x x_1)/\TK_w75 x x_1
theorem write41ZNVC_ok (x : ZStW) : write41ZNVC x = ctrT writeS1 (writeZ1.N.args x) (hO 10 (flatP 1 (writeZ1.N.l x))) (fun v h' => endsPK 1 x v h' writeZ1.N.outs) := by kernel_rfl
def write41ZPVC (x : ZStW) : Prop :=
 ∃ x_1 : ZWr,Hd (x_1.ok/\x_1.p ≠ 0)/\TK_w94 x_1 x/\TK_w73 x_1.d x.a.d/\(∀ y : Unit,Hd ((x_1.p : Int) + 1 ≠ spn x_1.c)->(∃ y_1 : Unit,Hd ((x.p : Int) + 1 ≠ spn x.c)/\TK_w99 x x_1/\TK_w65 x x_1) ∨ ∃ y_1 : Unit,Hd ((x.p : Int) + 1 = spn x.c)/\TK_w102 x x_1/\TK_w65 x x_1)/\∀ y : Unit,Hd ((x_1.p : Int) + 1 = spn x_1.c)->(∃ y_1 : Unit,Hd ((x.p : Int) + 1 ≠ spn x.c)/\TK_w104 x x_1/\TK_w65 x x_1) ∨ ∃ y_1 : Unit,Hd ((x.p : Int) + 1 = spn x.c)/\((4 : Int) = 4/\TK_w41 x x_1)/\TK_w65 x x_1
theorem write41ZPVC_ok (x : ZStW) : write41ZPVC x = ctrT writeS1 (writeZ1.P.args x) (hO 11 (flatP 1 (writeZ1.P.l x))) (fun v h' => endsPK 1 x v h' writeZ1.P.outs) := by kernel_rfl
def read0ZNVC (x : ZStR) : Prop :=
 ∃ x_1 : ZRe,Hd (x_1.ok/\x_1.p = 0)/\TK_w105 x_1 x/\TK_w73 x_1.d x.a.d/\(∀ y : Unit,TK_w117 x_1.b.cls->(∃ y_1 : Unit,TK_w117 x.b.cls/\TK_w109 x x_1/\TK_w25 x.a/\(64 = 64/\∀ q : Nat,q < 64->TK_w135 x.b q x_1.b)/\TK_w89 x.a x_1.d) ∨ (∃ y_1 : Unit,TK_w141 x/\TK_w168 x x_1/\TK_w25 x.a/\TK_w89 x.a x_1.d) ∨ ∃ y_1 : Unit,TK_w140 x/\TK_w169 x x_1/\TK_w25 x.a/\TK_w89 x.a x_1.d)/\(∀ y : Unit,Hd (1 = spn x_1.b.cls/\x_1.f.line < 0)->(∃ y_1 : Unit,TK_w117 x.b.cls/\False) ∨ (∃ y_1 : Unit,TK_w141 x/\TK_w170 x x_1/\TK_w25 x.a/\TK_w89 x.a x_1.d) ∨ ∃ y_1 : Unit,TK_w140 x/\TK_w171 x x_1/\TK_w25 x.a/\TK_w89 x.a x_1.d)/\∀ y : Unit,Hd (1 = spn x_1.b.cls/\0<=x_1.f.line)->(∃ y_1 : Unit,TK_w117 x.b.cls/\False) ∨ (∃ y_1 : Unit,TK_w141 x/\TK_w172 x x_1/\TK_w25 x.a/\TK_w89 x.a x_1.d) ∨ ∃ y_1 : Unit,TK_w140 x/\TK_w173 x x_1/\TK_w25 x.a/\TK_w89 x.a x_1.d
theorem read0ZNVC_ok (x : ZStR) : read0ZNVC x = ctrT readS0 (readZ0.N.args x) (hO 10 (flatP 1 (readZ0.N.l x))) (fun v h' => endsPK 1 x v h' readZ0.N.outs) := by kernel_rfl
def read0ZPVC (x : ZStR) : Prop :=
 ∃ x_1 : ZRe,Hd (x_1.ok/\x_1.p = 0)/\TK_w105 x_1 x/\TK_w73 x_1.d x.a.d/\(∀ y : Unit,TK_w117 x_1.b.cls->(∃ y_1 : Unit,TK_w117 x.b.cls/\TK_w109 x x_1/\TK_w19 x.a/\(64 = 64/\∀ q : Nat,q < 64->TK_w135 x.b q x_1.b)/\TK_w67 x.a x_1.d) ∨ (∃ y_1 : Unit,TK_w141 x/\TK_w168 x x_1/\TK_w19 x.a/\TK_w67 x.a x_1.d) ∨ ∃ y_1 : Unit,TK_w140 x/\TK_w169 x x_1/\TK_w19 x.a/\TK_w67 x.a x_1.d)/\(∀ y : Unit,Hd (1 = spn x_1.b.cls/\x_1.f.line < 0)->(∃ y_1 : Unit,TK_w117 x.b.cls/\False) ∨ (∃ y_1 : Unit,TK_w141 x/\TK_w170 x x_1/\TK_w19 x.a/\TK_w67 x.a x_1.d) ∨ ∃ y_1 : Unit,TK_w140 x/\TK_w171 x x_1/\TK_w19 x.a/\TK_w67 x.a x_1.d)/\∀ y : Unit,Hd (1 = spn x_1.b.cls/\0<=x_1.f.line)->(∃ y_1 : Unit,TK_w117 x.b.cls/\False) ∨ (∃ y_1 : Unit,TK_w141 x/\TK_w172 x x_1/\TK_w19 x.a/\TK_w67 x.a x_1.d) ∨ ∃ y_1 : Unit,TK_w140 x/\TK_w173 x x_1/\TK_w19 x.a/\TK_w67 x.a x_1.d
theorem read0ZPVC_ok (x : ZStR) : read0ZPVC x = ctrT readS0 (readZ0.P.args x) (hO 11 (flatP 1 (readZ0.P.l x))) (fun v h' => endsPK 1 x v h' readZ0.P.outs) := by kernel_rfl
def read1ZNVC (x : ZStR) : Prop :=
 ∃ x_1 : ZRe,Hd (x_1.ok/\x_1.p ≠ 0)/\TK_w97 x_1 x/\TK_w128 x_1 x/\(∀ y : Unit,Hd ((x_1.p : Int) + 1 ≠ spn x_1.b.cls)->(∃ y_1 : Unit,TK_w142 x/\TK_w101 x x_1/\TK_w25 x.a/\TK_w52 x x_1/\(64 * (x.p + 1) = 64 * (x_1.p + 1)/\∀ q : Nat,q < 64 * (x.p + 1)->TK_w135 x.b q x_1.b)/\TK_w89 x.a x_1.d) ∨ (∃ y_1 : Unit,TK_w130 x/\TK_w174 x x_1/\TK_w137 x x_1) ∨ ∃ y_1 : Unit,TK_w129 x/\TK_w175 x x_1/\TK_w137 x x_1)/\(∀ y : Unit,Hd ((x_1.p : Int) + 1 = spn x_1.b.cls/\x_1.f.line < 0)->TK_w139 x ∨ (∃ y_1 : Unit,TK_w130 x/\TK_w176 x x_1/\TK_w137 x x_1) ∨ ∃ y_1 : Unit,TK_w129 x/\TK_w177 x x_1/\TK_w137 x x_1)/\∀ y : Unit,Hd ((x_1.p : Int) + 1 = spn x_1.b.cls/\0<=x_1.f.line)->TK_w139 x ∨ (∃ y_1 : Unit,TK_w130 x/\TK_w178 x x_1/\TK_w137 x x_1) ∨ ∃ y_1 : Unit,TK_w129 x/\TK_w179 x x_1/\TK_w137 x x_1
theorem read1ZNVC_ok (x : ZStR) : read1ZNVC x = ctrT readS1 (readZ1.N.args x) (hO 11 (flatP 2 (readZ1.N.l x))) (fun v h' => endsPK 2 x v h' readZ1.N.outs) := by kernel_rfl
def read1ZPVC (x : ZStR) : Prop :=
 ∃ x_1 : ZRe,Hd (x_1.ok/\x_1.p ≠ 0)/\TK_w97 x_1 x/\TK_w128 x_1 x/\(∀ y : Unit,Hd ((x_1.p : Int) + 1 ≠ spn x_1.b.cls)->(∃ y_1 : Unit,TK_w142 x/\TK_w101 x x_1/\TK_w19 x.a/\TK_w52 x x_1/\(64 * (x.p + 1) = 64 * (x_1.p + 1)/\∀ q : Nat,q < 64 * (x.p + 1)->TK_w135 x.b q x_1.b)/\TK_w67 x.a x_1.d) ∨ (∃ y_1 : Unit,TK_w130 x/\TK_w174 x x_1/\TK_w138 x x_1) ∨ ∃ y_1 : Unit,TK_w129 x/\TK_w175 x x_1/\TK_w138 x x_1)/\(∀ y : Unit,Hd ((x_1.p : Int) + 1 = spn x_1.b.cls/\x_1.f.line < 0)->TK_w139 x ∨ (∃ y_1 : Unit,TK_w130 x/\TK_w176 x x_1/\TK_w138 x x_1) ∨ ∃ y_1 : Unit,TK_w129 x/\TK_w177 x x_1/\TK_w138 x x_1)/\∀ y : Unit,Hd ((x_1.p : Int) + 1 = spn x_1.b.cls/\0<=x_1.f.line)->TK_w139 x ∨ (∃ y_1 : Unit,TK_w130 x/\TK_w178 x x_1/\TK_w138 x x_1) ∨ ∃ y_1 : Unit,TK_w129 x/\TK_w179 x x_1/\TK_w138 x x_1
theorem read1ZPVC_ok (x : ZStR) : read1ZPVC x = ctrT readS1 (readZ1.P.args x) (hO 12 (flatP 2 (readZ1.P.l x))) (fun v h' => endsPK 2 x v h' readZ1.P.outs) := by kernel_rfl
end Go.Proofs.YtpnhfbegboogbaaGreat
end
section
namespace Go.Proofs.YtpnhfbegboogbaaGreat
open Go SE
structure ZPb where
 a : ZArn
 f : ZFr
 t : Nat
 ln : Nat
namespace ZPb
def chg (x : ZPb) : ZChg := ⟨x.a,x.t,x.f.epoch,x.f.value,⟨#[]⟩,false,x.f.old,x.ln,x.f.cls⟩
def fr (x : ZPb) (h : Bool) : ZFr := { x.f with had := h,line := x.ln }
end ZPb
noncomputable def pubZ4 : Ctr := det ZPb (fun x => [.ptr 0 0,i64 x.t,(x.fr false).av 4 5 nilS]) 1 (fun x => [.abs (ownM x.a.os)]) (fun x => Hd (x.chg.okE/\(∃ i j,x.chg.inP i j)/\∀ k,x.a.c.o k + 8 < 1099511627776)) (fun x => { x.fr false with found := false,aep := x.f.epoch,line := -1 }.av 4 6 nilS) 1 (fun x => [.abs (ownM x.chg.enq.os)])
noncomputable def pubZ5 : Ctr := det ZPb (fun x => [.ptr 0 0,i64 x.t,(x.fr true).av 5 5 nilS]) 1 (fun x => [.abs (ownM x.a.os)]) (fun x => Hd (x.chg.okD/\(∃ i j,x.chg.inP i j)/\0<=x.a.id/\x.a.id < 1152921504606846976/\x.a.n ≠ 0)) (fun x => { x.fr true with found := true,aep := x.f.epoch,line := -1 }.av 5 6 nilS) 1 (fun x => [.abs (ownM x.chg.deq.os)])
noncomputable def tblU4 : WTbl := tblT0 ++ [(123,ctrT enqG.ctr)]
noncomputable def tblU5 : WTbl := tblT0 ++ [(123,ctrT deqG.ctr)]
theorem tblU4_ok : TblOk Tryz.prog tblU4 := .append tblT0_ok (.cons (ctrT_ok enqG_ok) .nil)
theorem tblU5_ok : TblOk Tryz.prog tblU5 := .append tblT0_ok (.cons (ctrT_ok deqG_ok) .nil)
end Go.Proofs.YtpnhfbegboogbaaGreat
end
section
namespace Go.Proofs.YtpnhfbegboogbaaGreat
open Go SE
def TM_w1 : Prop := Value.slice none 0 0 = Value.slice none 0 0
def TM_w2 (a : ZChg) (b : ZPb) : Prop := a.old.key = b.f.old.key/\a.old.id = b.f.old.id/\a.old.ver = b.f.old.ver/\a.old.line = b.f.old.line/\a.old.cls = b.f.old.cls/\(a.k : Int) = (b.ln : Int)/\a.c = b.f.cls/\True
def TM_w3 (a : ZPb) : Prop := AV.lit (Value.int .u64 a.f.epoch) = AV.lit (Value.int .u64 a.f.epoch)/\AV.lit (Value.int .i64 (a.t : Int)) = AV.lit (Value.int .i64 (a.t : Int))/\AV.ptr 0 0 = AV.ptr 0 0/\True
def TM_w5 (a : ZFr) : Prop := a.ans = a.ans/\TM_w1/\TM_w1/\a.epoch = a.epoch/\True
def TM_w8 : Prop := ByteArray.mk #[] = ByteArray.mk #[]
def pubZ4VC (x : ZPb) : Prop :=
 ((0 : Int)<=5/\(0 : Int)<=1)/\TM_w3 x/\∃ x_1 : ZChg,Hd (x_1.okE/\(∃ i : Nat,∃ j : Nat,x_1.inP i j)/\∀ k : Nat,x_1.a.c.o k + 8 < 1099511627776)/\(0 = 0/\(x_1.t : Int) = (x.t : Int)/\x_1.e = x.f.epoch/\(0 = 0/\1 = 1/\1 = 1)/\True)/\(ownM x_1.a.os = ownM x.a.os/\((4 : Int) = 4/\x_1.key = ByteArray.mk #[]/\x_1.v = x.f.value/\false = false/\TM_w2 x_1 x)/\True)/\∀ y : Unit,True->True/\((0 : Int)<=0/\(0 : Int)<=0)/\0 < 1/\True/\True/\True/\True/\∃ y_1 : Unit,True/\((4 : Int) = 4/\x.f.key = x.f.key/\x.f.value = x.f.value/\TM_w8/\TM_w1/\(6 : Int) = 6/\x.f.epoch = x.f.epoch/\TM_w8/\false = false/\(0 : Int) = 0/\false = false/\x.f.old.key = x.f.old.key/\x.f.old.id = x.f.old.id/\x.f.old.ver = x.f.old.ver/\x.f.old.line = x.f.old.line/\x.f.old.cls = x.f.old.cls/\(-(1 : Int)) = (-(1 : Int))/\x.f.cls = x.f.cls/\x.f.piece = x.f.piece/\TM_w1/\(0 : Int) = 0/\TM_w1/\x.f.code = x.f.code/\false = false/\TM_w5 x.f)/\ownM x.chg.enq.os = ownM x_1.enq.os/\True
theorem pubZ4VC_ok (x : ZPb) : pubZ4VC x = wpF Tryz.prog tblU4 tt (noA x) 200 6 16 (pubZ4.args x) (hO 1 (pubZ4.os x)) (fun v h' => endsP 1 x v h' pubZ4.outs) := by kernel_rfl
def pubZ5VC (x : ZPb) : Prop :=
 ((0 : Int)<=5/\(0 : Int)<=1)/\TM_w3 x/\∃ x_1 : ZChg,Hd (x_1.okD/\(∃ i : Nat,∃ j : Nat,x_1.inP i j)/\0<=x_1.a.id/\x_1.a.id < 1152921504606846976/\x_1.a.n ≠ 0)/\(0 = 0/\(x_1.t : Int) = (x.t : Int)/\x_1.e = x.f.epoch/\(0 = 0/\1 = 1/\1 = 1)/\True)/\(ownM x_1.a.os = ownM x.a.os/\((5 : Int) = 5/\x_1.key = ByteArray.mk #[]/\x_1.v = x.f.value/\true = true/\TM_w2 x_1 x)/\True)/\∀ y : Unit,True->True/\((0 : Int)<=0/\(0 : Int)<=0)/\0 < 1/\True/\True/\True/\True/\∃ y_1 : Unit,True/\((5 : Int) = 5/\x.f.key = x.f.key/\x.f.value = x.f.value/\TM_w8/\TM_w1/\(6 : Int) = 6/\x.f.epoch = x.f.epoch/\TM_w8/\false = false/\(0 : Int) = 0/\true = true/\x.f.old.key = x.f.old.key/\x.f.old.id = x.f.old.id/\x.f.old.ver = x.f.old.ver/\x.f.old.line = x.f.old.line/\x.f.old.cls = x.f.old.cls/\(-(1 : Int)) = (-(1 : Int))/\x.f.cls = x.f.cls/\x.f.piece = x.f.piece/\TM_w1/\(0 : Int) = 0/\TM_w1/\x.f.code = x.f.code/\true = true/\TM_w5 x.f)/\ownM x.chg.deq.os = ownM x_1.deq.os/\True
theorem pubZ5VC_ok (x : ZPb) : pubZ5VC x = wpF Tryz.prog tblU5 tt (noA x) 200 6 16 (pubZ5.args x) (hO 1 (pubZ5.os x)) (fun v h' => endsP 1 x v h' pubZ5.outs) := by kernel_rfl
end Go.Proofs.YtpnhfbegboogbaaGreat
end
section
namespace Go.Proofs.YtpnhfbegboogbaaGreat
open Go SE
set_option linter.unusedSimpArgs false
def nOk {X : Type} (x : X) (n : Nat) : List (ZOut X)->Prop
 | [] => True
 | o :: r => (∀ y,(o.a x y).n = n)/\nOk x n r
theorem nOk_mem {X : Type} {x : X} {n : Nat} : ∀ {l : List (ZOut X)},nOk x n l->∀ o ∈ l,∀ y,(o.a x y).n = n
 | o :: r,h,p,hp,y => by
  rcases List.mem_cons.1 hp with rfl | hp
  ·exact h.1 y
  ·exact nOk_mem h.2 p hp y
theorem glue2 {P : Program} {f : FuncId} {C : ZCtr} (hn : ∀ x,nOk x (C.a x).n C.outs) (hN : CtrOk P f C.N.ctr) (hP : CtrOk P f C.P.ctr) : CtrOk P f C.M.ctr := glue (fun x _ o ho y _ => nOk_mem (hn x) o ho y) hN hP
theorem enter4ZNVC_true (x : ZSt) (hx : ((enterZ 4).pre x)) : enter4ZNVC x := by
 have hx := hd_iff.1 hx
 unfold enter4ZNVC
 simp only [TK_w136,TK_w83,TK_w124,TK_w115,TK_w145,TK_w46,TK_w165,TK_w146,TK_w180,TK_w149,TK_w181,TK_w152,TK_w153,TK_w184,TK_w25,TK_w24,TK_w74,TK_w66,TK_w131,TK_w113,TK_w23,TK_w151,TK_w1,TK_w17,TK_w9,TK_w11,TK_w10,TK_w144,TK_w121,TK_w50,TK_w49,TK_w55,TK_w159,TK_w14]
 simp only [hd_iff,and_true,true_and,Nat.zero_add,Nat.add_zero,unit_ex,unit_all,true_implies,implies_true,Int.toNat_natCast,eq_self,and_self,eff_nil,cond_one,cond_int,ones_int,row_int,ones_bool,row_bool,cond_bool,ble0,Bool.true_and,Nat.sub_zero,List.getElem?_cons_zero,Option.some.injEq,Value.bool.injEq,Value.int.injEq,exists_eq_left',exists_eq_left]
 refine ⟨⟨x.a.r,x.a.c,x.t,x.f⟩,hx,?_⟩
 simp only [hd_iff,and_true,true_and,Nat.zero_add,Nat.add_zero,unit_ex,unit_all,true_implies,implies_true,Int.toNat_natCast,eq_self,and_self,eff_nil,cond_one,cond_int,ones_int,row_int,ones_bool,row_bool,cond_bool,ble0,Bool.true_and,Nat.sub_zero,List.getElem?_cons_zero,Option.some.injEq,Value.bool.injEq,Value.int.injEq,exists_eq_left',exists_eq_left]
 exact ⟨fun h => .inl h,fun h => .inr h⟩
theorem enter4ZPVC_true (x : ZSt) (hx : ((enterZ 4).pre x)) : enter4ZPVC x := by
 have hx := hd_iff.1 hx
 unfold enter4ZPVC
 simp only [TK_w136,TK_w83,TK_w124,TK_w115,TK_w145,TK_w46,TK_w166,TK_w146,TK_w180,TK_w150,TK_w181,TK_w154,TK_w153,TK_w185,TK_w19,TK_w24,TK_w74,TK_w66,TK_w131,TK_w113,TK_w2,TK_w151,TK_w7,TK_w1,TK_w17,TK_w9,TK_w11,TK_w10,TK_w144,TK_w121,TK_w50,TK_w49,TK_w55,TK_w159,TK_w14]
 simp only [hd_iff,and_true,true_and,Nat.zero_add,Nat.add_zero,unit_ex,unit_all,true_implies,implies_true,Int.toNat_natCast,eq_self,and_self,eff_nil,cond_one,cond_int,ones_int,row_int,ones_bool,row_bool,cond_bool,ble0,Bool.true_and,Nat.sub_zero,List.getElem?_cons_zero,Option.some.injEq,Value.bool.injEq,Value.int.injEq,exists_eq_left',exists_eq_left]
 refine ⟨⟨x.a.r,x.a.c,x.t,x.f⟩,hx,?_⟩
 simp only [hd_iff,and_true,true_and,Nat.zero_add,Nat.add_zero,unit_ex,unit_all,true_implies,implies_true,Int.toNat_natCast,eq_self,and_self,eff_nil,cond_one,cond_int,ones_int,row_int,ones_bool,row_bool,cond_bool,ble0,Bool.true_and,Nat.sub_zero,List.getElem?_cons_zero,Option.some.injEq,Value.bool.injEq,Value.int.injEq,exists_eq_left',exists_eq_left]
 exact ⟨fun h => .inl h,fun h => .inr h⟩
theorem enter5ZNVC_true (x : ZSt) (hx : ((enterZ 5).pre x)) : enter5ZNVC x := by
 have hx := hd_iff.1 hx
 unfold enter5ZNVC
 simp only [TK_w136,TK_w83,TK_w124,TK_w115,TK_w147,TK_w46,TK_w165,TK_w148,TK_w182,TK_w149,TK_w183,TK_w152,TK_w155,TK_w184,TK_w25,TK_w24,TK_w74,TK_w66,TK_w131,TK_w113,TK_w23,TK_w151,TK_w1,TK_w17,TK_w9,TK_w11,TK_w10,TK_w144,TK_w121,TK_w50,TK_w49,TK_w55,TK_w159,TK_w14]
 simp only [hd_iff,and_true,true_and,Nat.zero_add,Nat.add_zero,unit_ex,unit_all,true_implies,implies_true,Int.toNat_natCast,eq_self,and_self,eff_nil,cond_one,cond_int,ones_int,row_int,ones_bool,row_bool,cond_bool,ble0,Bool.true_and,Nat.sub_zero,List.getElem?_cons_zero,Option.some.injEq,Value.bool.injEq,Value.int.injEq,exists_eq_left',exists_eq_left]
 refine ⟨⟨x.a.r,x.a.c,x.t,x.f⟩,hx,?_⟩
 simp only [hd_iff,and_true,true_and,Nat.zero_add,Nat.add_zero,unit_ex,unit_all,true_implies,implies_true,Int.toNat_natCast,eq_self,and_self,eff_nil,cond_one,cond_int,ones_int,row_int,ones_bool,row_bool,cond_bool,ble0,Bool.true_and,Nat.sub_zero,List.getElem?_cons_zero,Option.some.injEq,Value.bool.injEq,Value.int.injEq,exists_eq_left',exists_eq_left]
 exact ⟨fun h => .inl h,fun h => .inr h⟩
theorem enter5ZPVC_true (x : ZSt) (hx : ((enterZ 5).pre x)) : enter5ZPVC x := by
 have hx := hd_iff.1 hx
 unfold enter5ZPVC
 simp only [TK_w136,TK_w83,TK_w124,TK_w115,TK_w147,TK_w46,TK_w166,TK_w148,TK_w182,TK_w150,TK_w183,TK_w154,TK_w155,TK_w185,TK_w19,TK_w24,TK_w74,TK_w66,TK_w131,TK_w113,TK_w2,TK_w151,TK_w7,TK_w1,TK_w17,TK_w9,TK_w11,TK_w10,TK_w144,TK_w121,TK_w50,TK_w49,TK_w55,TK_w159,TK_w14]
 simp only [hd_iff,and_true,true_and,Nat.zero_add,Nat.add_zero,unit_ex,unit_all,true_implies,implies_true,Int.toNat_natCast,eq_self,and_self,eff_nil,cond_one,cond_int,ones_int,row_int,ones_bool,row_bool,cond_bool,ble0,Bool.true_and,Nat.sub_zero,List.getElem?_cons_zero,Option.some.injEq,Value.bool.injEq,Value.int.injEq,exists_eq_left',exists_eq_left]
 refine ⟨⟨x.a.r,x.a.c,x.t,x.f⟩,hx,?_⟩
 simp only [hd_iff,and_true,true_and,Nat.zero_add,Nat.add_zero,unit_ex,unit_all,true_implies,implies_true,Int.toNat_natCast,eq_self,and_self,eff_nil,cond_one,cond_int,ones_int,row_int,ones_bool,row_bool,cond_bool,ble0,Bool.true_and,Nat.sub_zero,List.getElem?_cons_zero,Option.some.injEq,Value.bool.injEq,Value.int.injEq,exists_eq_left',exists_eq_left]
 exact ⟨fun h => .inl h,fun h => .inr h⟩
theorem findZNVC_true (x : ZSt) (hx : (findZ.pre x)) : findZNVC x := by
 have hx := hd_iff.1 hx
 unfold findZNVC
 simp only [TK_w143,TK_w160,TK_w114,TK_w69,TK_w107,TK_w108,TK_w98,TK_w17,TK_w1,TK_w11,TK_w10,TK_w144,TK_w121,TK_w25,TK_w24,TK_w74,TK_w66,TK_w151,TK_w156,TK_w159,TK_w83,TK_w14,TK_w9]
 simp only [hd_iff,and_true,true_and,Nat.zero_add,Nat.add_zero,unit_ex,unit_all,true_implies,implies_true,Int.toNat_natCast,eq_self,and_self,eff_nil,cond_one,cond_int,ones_int,row_int,ones_bool,row_bool,cond_bool,ble0,Bool.true_and,Nat.sub_zero,List.getElem?_cons_zero,Option.some.injEq,Value.bool.injEq,Value.int.injEq,exists_eq_left',exists_eq_left]
 refine ⟨⟨x.a.l,x.t,x.f⟩,hx,?_⟩
 simp only [hd_iff,and_true,true_and,Nat.zero_add,Nat.add_zero,unit_ex,unit_all,true_implies,implies_true,Int.toNat_natCast,eq_self,and_self,eff_nil,cond_one,cond_int,ones_int,row_int,ones_bool,row_bool,cond_bool,ble0,Bool.true_and,Nat.sub_zero,List.getElem?_cons_zero,Option.some.injEq,Value.bool.injEq,Value.int.injEq,exists_eq_left',exists_eq_left]
 exact ⟨fun h => .inl h,fun h => .inr h⟩
theorem findZPVC_true (x : ZSt) (hx : (findZ.pre x)) : findZPVC x := by
 have hx := hd_iff.1 hx
 unfold findZPVC
 simp only [TK_w143,TK_w160,TK_w114,TK_w68,TK_w107,TK_w108,TK_w98,TK_w17,TK_w1,TK_w11,TK_w10,TK_w144,TK_w121,TK_w19,TK_w24,TK_w74,TK_w66,TK_w151,TK_w7,TK_w156,TK_w159,TK_w83,TK_w14,TK_w9]
 simp only [hd_iff,and_true,true_and,Nat.zero_add,Nat.add_zero,unit_ex,unit_all,true_implies,implies_true,Int.toNat_natCast,eq_self,and_self,eff_nil,cond_one,cond_int,ones_int,row_int,ones_bool,row_bool,cond_bool,ble0,Bool.true_and,Nat.sub_zero,List.getElem?_cons_zero,Option.some.injEq,Value.bool.injEq,Value.int.injEq,exists_eq_left',exists_eq_left]
 refine ⟨⟨x.a.l,x.t,x.f⟩,hx,?_⟩
 simp only [hd_iff,and_true,true_and,Nat.zero_add,Nat.add_zero,unit_ex,unit_all,true_implies,implies_true,Int.toNat_natCast,eq_self,and_self,eff_nil,cond_one,cond_int,ones_int,row_int,ones_bool,row_bool,cond_bool,ble0,Bool.true_and,Nat.sub_zero,List.getElem?_cons_zero,Option.some.injEq,Value.bool.injEq,Value.int.injEq,exists_eq_left',exists_eq_left]
 exact ⟨fun h => .inl h,fun h => .inr h⟩
theorem take4ZNVC_true (x : ZSt) (hx : ((takeZ 4).pre x)) : take4ZNVC x := by
 have hx := hd_iff.1 hx
 unfold take4ZNVC
 simp only [TK_w167,TK_w83,TK_w125,TK_w134,TK_w186,TK_w122,TK_w81,TK_w25,TK_w24,TK_w74,TK_w18,TK_w78,TK_w76,TK_w90,TK_w17,TK_w1,TK_w11,TK_w10,TK_w144,TK_w121,TK_w161,TK_w162,TK_w21,TK_w23,TK_w151,TK_w157,TK_w55,TK_w159,TK_w14,TK_w9]
 simp only [hd_iff,and_true,true_and,Nat.zero_add,Nat.add_zero,unit_ex,unit_all,true_implies,implies_true,Int.toNat_natCast,eq_self,and_self,eff_nil,cond_one,cond_int,ones_int,row_int,ones_bool,row_bool,cond_bool,ble0,Bool.true_and,Nat.sub_zero,List.getElem?_cons_zero,Option.some.injEq,Value.bool.injEq,Value.int.injEq,exists_eq_left',exists_eq_left]
 refine ⟨⟨x.a.p,x.t,x.f⟩,hx,?_⟩
 simp only [ZTk.c,ZSt.c,hd_iff,and_true,true_and,Nat.zero_add,Nat.add_zero,unit_ex,unit_all,true_implies,implies_true,Int.toNat_natCast,eq_self,and_self,eff_nil,cond_one,cond_int,ones_int,row_int,ones_bool,row_bool,cond_bool,ble0,Bool.true_and,Nat.sub_zero,List.getElem?_cons_zero,Option.some.injEq,Value.bool.injEq,Value.int.injEq,exists_eq_left',exists_eq_left]
 exact ⟨fun h => .inl h,fun y hy => .inr ⟨y,hy,rfl,rfl⟩⟩
theorem take4ZPVC_true (x : ZSt) (hx : ((takeZ 4).pre x)) : take4ZPVC x := by
 have hx := hd_iff.1 hx
 unfold take4ZPVC
 simp only [TK_w167,TK_w83,TK_w125,TK_w134,TK_w186,TK_w122,TK_w81,TK_w19,TK_w24,TK_w74,TK_w6,TK_w78,TK_w76,TK_w90,TK_w17,TK_w1,TK_w11,TK_w10,TK_w144,TK_w121,TK_w161,TK_w162,TK_w5,TK_w2,TK_w151,TK_w7,TK_w157,TK_w55,TK_w159,TK_w14,TK_w9]
 simp only [hd_iff,and_true,true_and,Nat.zero_add,Nat.add_zero,unit_ex,unit_all,true_implies,implies_true,Int.toNat_natCast,eq_self,and_self,eff_nil,cond_one,cond_int,ones_int,row_int,ones_bool,row_bool,cond_bool,ble0,Bool.true_and,Nat.sub_zero,List.getElem?_cons_zero,Option.some.injEq,Value.bool.injEq,Value.int.injEq,exists_eq_left',exists_eq_left]
 refine ⟨⟨x.a.p,x.t,x.f⟩,hx,?_⟩
 simp only [ZTk.c,ZSt.c,hd_iff,and_true,true_and,Nat.zero_add,Nat.add_zero,unit_ex,unit_all,true_implies,implies_true,Int.toNat_natCast,eq_self,and_self,eff_nil,cond_one,cond_int,ones_int,row_int,ones_bool,row_bool,cond_bool,ble0,Bool.true_and,Nat.sub_zero,List.getElem?_cons_zero,Option.some.injEq,Value.bool.injEq,Value.int.injEq,exists_eq_left',exists_eq_left]
 exact ⟨fun h => .inl h,fun y hy => .inr ⟨y,hy,rfl,rfl⟩⟩
theorem take5ZNVC_true (x : ZSt) (hx : ((takeZ 5).pre x)) : take5ZNVC x := by
 have hx := hd_iff.1 hx
 unfold take5ZNVC
 simp only [TK_w167,TK_w83,TK_w125,TK_w134,TK_w187,TK_w123,TK_w82,TK_w25,TK_w24,TK_w74,TK_w18,TK_w79,TK_w77,TK_w91,TK_w17,TK_w1,TK_w11,TK_w10,TK_w144,TK_w121,TK_w161,TK_w162,TK_w21,TK_w23,TK_w151,TK_w157,TK_w55,TK_w159,TK_w14,TK_w9]
 simp only [hd_iff,and_true,true_and,Nat.zero_add,Nat.add_zero,unit_ex,unit_all,true_implies,implies_true,Int.toNat_natCast,eq_self,and_self,eff_nil,cond_one,cond_int,ones_int,row_int,ones_bool,row_bool,cond_bool,ble0,Bool.true_and,Nat.sub_zero,List.getElem?_cons_zero,Option.some.injEq,Value.bool.injEq,Value.int.injEq,exists_eq_left',exists_eq_left]
 refine ⟨⟨x.a.p,x.t,x.f⟩,hx,?_⟩
 simp only [ZTk.c,ZSt.c,hd_iff,and_true,true_and,Nat.zero_add,Nat.add_zero,unit_ex,unit_all,true_implies,implies_true,Int.toNat_natCast,eq_self,and_self,eff_nil,cond_one,cond_int,ones_int,row_int,ones_bool,row_bool,cond_bool,ble0,Bool.true_and,Nat.sub_zero,List.getElem?_cons_zero,Option.some.injEq,Value.bool.injEq,Value.int.injEq,exists_eq_left',exists_eq_left]
 exact ⟨fun h => .inl h,fun y hy => .inr ⟨y,hy,rfl,rfl⟩⟩
theorem take5ZPVC_true (x : ZSt) (hx : ((takeZ 5).pre x)) : take5ZPVC x := by
 have hx := hd_iff.1 hx
 unfold take5ZPVC
 simp only [TK_w167,TK_w83,TK_w125,TK_w134,TK_w187,TK_w123,TK_w82,TK_w19,TK_w24,TK_w74,TK_w6,TK_w79,TK_w77,TK_w91,TK_w17,TK_w1,TK_w11,TK_w10,TK_w144,TK_w121,TK_w161,TK_w162,TK_w5,TK_w2,TK_w151,TK_w7,TK_w157,TK_w55,TK_w159,TK_w14,TK_w9]
 simp only [hd_iff,and_true,true_and,Nat.zero_add,Nat.add_zero,unit_ex,unit_all,true_implies,implies_true,Int.toNat_natCast,eq_self,and_self,eff_nil,cond_one,cond_int,ones_int,row_int,ones_bool,row_bool,cond_bool,ble0,Bool.true_and,Nat.sub_zero,List.getElem?_cons_zero,Option.some.injEq,Value.bool.injEq,Value.int.injEq,exists_eq_left',exists_eq_left]
 refine ⟨⟨x.a.p,x.t,x.f⟩,hx,?_⟩
 simp only [ZTk.c,ZSt.c,hd_iff,and_true,true_and,Nat.zero_add,Nat.add_zero,unit_ex,unit_all,true_implies,implies_true,Int.toNat_natCast,eq_self,and_self,eff_nil,cond_one,cond_int,ones_int,row_int,ones_bool,row_bool,cond_bool,ble0,Bool.true_and,Nat.sub_zero,List.getElem?_cons_zero,Option.some.injEq,Value.bool.injEq,Value.int.injEq,exists_eq_left',exists_eq_left]
 exact ⟨fun h => .inl h,fun y hy => .inr ⟨y,hy,rfl,rfl⟩⟩
theorem leave4ZNVC_true (x : ZSt) (hx : ((leaveZ 4).pre x)) : leave4ZNVC x := by
 have hx := hd_iff.1 hx
 unfold leave4ZNVC
 simp only [TK_w83,TK_w126,TK_w133,TK_w127,TK_w25,TK_w24,TK_w74,TK_w66,TK_w132,TK_w21,TK_w23,TK_w151,TK_w1,TK_w17,TK_w14,TK_w9,TK_w11,TK_w10,TK_w144,TK_w121,TK_w55,TK_w159]
 simp only [hd_iff,and_true,true_and,Nat.zero_add,Nat.add_zero,unit_ex,unit_all,true_implies,implies_true,Int.toNat_natCast,eq_self,and_self,eff_nil,cond_one,cond_int,ones_int,row_int,ones_bool,row_bool,cond_bool,ble0,Bool.true_and,Nat.sub_zero,List.getElem?_cons_zero,Option.some.injEq,Value.bool.injEq,Value.int.injEq,exists_eq_left',exists_eq_left]
 refine ⟨⟨x.a.r,x.t,x.f⟩,hx,?_⟩
 first | done | (simp only [hd_iff,and_true,true_and,Nat.zero_add,Nat.add_zero,unit_ex,unit_all,true_implies,implies_true,Int.toNat_natCast,eq_self,and_self,eff_nil,cond_one,cond_int,ones_int,row_int,ones_bool,row_bool,cond_bool,ble0,Bool.true_and,Nat.sub_zero,List.getElem?_cons_zero,Option.some.injEq,Value.bool.injEq,Value.int.injEq,exists_eq_left',exists_eq_left])
theorem leave4ZPVC_true (x : ZSt) (hx : ((leaveZ 4).pre x)) : leave4ZPVC x := by
 have hx := hd_iff.1 hx
 unfold leave4ZPVC
 simp only [TK_w83,TK_w126,TK_w133,TK_w127,TK_w19,TK_w24,TK_w74,TK_w66,TK_w132,TK_w5,TK_w2,TK_w151,TK_w7,TK_w1,TK_w17,TK_w14,TK_w9,TK_w11,TK_w10,TK_w144,TK_w121,TK_w55,TK_w159]
 simp only [hd_iff,and_true,true_and,Nat.zero_add,Nat.add_zero,unit_ex,unit_all,true_implies,implies_true,Int.toNat_natCast,eq_self,and_self,eff_nil,cond_one,cond_int,ones_int,row_int,ones_bool,row_bool,cond_bool,ble0,Bool.true_and,Nat.sub_zero,List.getElem?_cons_zero,Option.some.injEq,Value.bool.injEq,Value.int.injEq,exists_eq_left',exists_eq_left]
 refine ⟨⟨x.a.r,x.t,x.f⟩,hx,?_⟩
 first | done | (simp only [hd_iff,and_true,true_and,Nat.zero_add,Nat.add_zero,unit_ex,unit_all,true_implies,implies_true,Int.toNat_natCast,eq_self,and_self,eff_nil,cond_one,cond_int,ones_int,row_int,ones_bool,row_bool,cond_bool,ble0,Bool.true_and,Nat.sub_zero,List.getElem?_cons_zero,Option.some.injEq,Value.bool.injEq,Value.int.injEq,exists_eq_left',exists_eq_left])
theorem leave5ZNVC_true (x : ZSt) (hx : ((leaveZ 5).pre x)) : leave5ZNVC x := by
 have hx := hd_iff.1 hx
 unfold leave5ZNVC
 simp only [TK_w83,TK_w126,TK_w133,TK_w127,TK_w25,TK_w24,TK_w74,TK_w66,TK_w132,TK_w21,TK_w23,TK_w151,TK_w1,TK_w17,TK_w14,TK_w9,TK_w11,TK_w10,TK_w144,TK_w121,TK_w55,TK_w159]
 simp only [hd_iff,and_true,true_and,Nat.zero_add,Nat.add_zero,unit_ex,unit_all,true_implies,implies_true,Int.toNat_natCast,eq_self,and_self,eff_nil,cond_one,cond_int,ones_int,row_int,ones_bool,row_bool,cond_bool,ble0,Bool.true_and,Nat.sub_zero,List.getElem?_cons_zero,Option.some.injEq,Value.bool.injEq,Value.int.injEq,exists_eq_left',exists_eq_left]
 refine ⟨⟨x.a.r,x.t,x.f⟩,hx,?_⟩
 first | done | (simp only [hd_iff,and_true,true_and,Nat.zero_add,Nat.add_zero,unit_ex,unit_all,true_implies,implies_true,Int.toNat_natCast,eq_self,and_self,eff_nil,cond_one,cond_int,ones_int,row_int,ones_bool,row_bool,cond_bool,ble0,Bool.true_and,Nat.sub_zero,List.getElem?_cons_zero,Option.some.injEq,Value.bool.injEq,Value.int.injEq,exists_eq_left',exists_eq_left])
theorem leave5ZPVC_true (x : ZSt) (hx : ((leaveZ 5).pre x)) : leave5ZPVC x := by
 have hx := hd_iff.1 hx
 unfold leave5ZPVC
 simp only [TK_w83,TK_w126,TK_w133,TK_w127,TK_w19,TK_w24,TK_w74,TK_w66,TK_w132,TK_w5,TK_w2,TK_w151,TK_w7,TK_w1,TK_w17,TK_w14,TK_w9,TK_w11,TK_w10,TK_w144,TK_w121,TK_w55,TK_w159]
 simp only [hd_iff,and_true,true_and,Nat.zero_add,Nat.add_zero,unit_ex,unit_all,true_implies,implies_true,Int.toNat_natCast,eq_self,and_self,eff_nil,cond_one,cond_int,ones_int,row_int,ones_bool,row_bool,cond_bool,ble0,Bool.true_and,Nat.sub_zero,List.getElem?_cons_zero,Option.some.injEq,Value.bool.injEq,Value.int.injEq,exists_eq_left',exists_eq_left]
 refine ⟨⟨x.a.r,x.t,x.f⟩,hx,?_⟩
 first | done | (simp only [hd_iff,and_true,true_and,Nat.zero_add,Nat.add_zero,unit_ex,unit_all,true_implies,implies_true,Int.toNat_natCast,eq_self,and_self,eff_nil,cond_one,cond_int,ones_int,row_int,ones_bool,row_bool,cond_bool,ble0,Bool.true_and,Nat.sub_zero,List.getElem?_cons_zero,Option.some.injEq,Value.bool.injEq,Value.int.injEq,exists_eq_left',exists_eq_left])
theorem write40ZNVC_true (x : ZStW) (hx : ((writeZ0 4).pre x)) : write40ZNVC x := by
 have hx := hd_iff.1 hx
 unfold write40ZNVC
 simp only [TK_w83,TK_w58,TK_w73,TK_w117,TK_w59,TK_w75,TK_w60,TK_w61,TK_w41,TK_w17,TK_w1,TK_w11,TK_w10,TK_w144,TK_w121,TK_w25,TK_w24,TK_w22,TK_w66,TK_w18,TK_w21,TK_w23,TK_w151,TK_w55,TK_w156,TK_w159]
 simp only [hd_iff,and_true,true_and,Nat.zero_add,Nat.add_zero,unit_ex,unit_all,true_implies,implies_true,Int.toNat_natCast,eq_self,and_self,eff_nil,cond_one,cond_int,ones_int,row_int,ones_bool,row_bool,cond_bool,ble0,Bool.true_and,Nat.sub_zero,List.getElem?_cons_zero,Option.some.injEq,Value.bool.injEq,Value.int.injEq,exists_eq_left',exists_eq_left]
 refine ⟨x.w,hx,?_⟩
 simp only [ZStW.w,ZWr.fr,hd_iff,and_true,true_and,Nat.zero_add,Nat.add_zero,unit_ex,unit_all,true_implies,implies_true,Int.toNat_natCast,eq_self,and_self,eff_nil,cond_one,cond_int,ones_int,row_int,ones_bool,row_bool,cond_bool,ble0,Bool.true_and,Nat.sub_zero,List.getElem?_cons_zero,Option.some.injEq,Value.bool.injEq,Value.int.injEq,exists_eq_left',exists_eq_left]
 exact ⟨fun h => .inl h,fun h => .inr h⟩
theorem write40ZPVC_true (x : ZStW) (hx : ((writeZ0 4).pre x)) : write40ZPVC x := by
 have hx := hd_iff.1 hx
 unfold write40ZPVC
 simp only [TK_w83,TK_w58,TK_w73,TK_w117,TK_w59,TK_w65,TK_w60,TK_w61,TK_w41,TK_w17,TK_w1,TK_w11,TK_w10,TK_w144,TK_w121,TK_w19,TK_w24,TK_w66,TK_w6,TK_w5,TK_w2,TK_w151,TK_w7,TK_w55,TK_w156,TK_w159]
 simp only [hd_iff,and_true,true_and,Nat.zero_add,Nat.add_zero,unit_ex,unit_all,true_implies,implies_true,Int.toNat_natCast,eq_self,and_self,eff_nil,cond_one,cond_int,ones_int,row_int,ones_bool,row_bool,cond_bool,ble0,Bool.true_and,Nat.sub_zero,List.getElem?_cons_zero,Option.some.injEq,Value.bool.injEq,Value.int.injEq,exists_eq_left',exists_eq_left]
 refine ⟨x.w,hx,?_⟩
 simp only [ZStW.w,ZWr.fr,hd_iff,and_true,true_and,Nat.zero_add,Nat.add_zero,unit_ex,unit_all,true_implies,implies_true,Int.toNat_natCast,eq_self,and_self,eff_nil,cond_one,cond_int,ones_int,row_int,ones_bool,row_bool,cond_bool,ble0,Bool.true_and,Nat.sub_zero,List.getElem?_cons_zero,Option.some.injEq,Value.bool.injEq,Value.int.injEq,exists_eq_left',exists_eq_left]
 exact ⟨fun h => .inl h,fun h => .inr h⟩
theorem write50ZNVC_true (x : ZStW) (hx : ((writeZ0 5).pre x)) : write50ZNVC x := by
 have hx := hd_iff.1 hx
 unfold write50ZNVC
 simp only [TK_w83,TK_w58,TK_w73,TK_w117,TK_w59,TK_w75,TK_w60,TK_w61,TK_w41,TK_w17,TK_w1,TK_w11,TK_w10,TK_w144,TK_w121,TK_w25,TK_w24,TK_w22,TK_w66,TK_w18,TK_w21,TK_w23,TK_w151,TK_w55,TK_w156,TK_w159]
 simp only [hd_iff,and_true,true_and,Nat.zero_add,Nat.add_zero,unit_ex,unit_all,true_implies,implies_true,Int.toNat_natCast,eq_self,and_self,eff_nil,cond_one,cond_int,ones_int,row_int,ones_bool,row_bool,cond_bool,ble0,Bool.true_and,Nat.sub_zero,List.getElem?_cons_zero,Option.some.injEq,Value.bool.injEq,Value.int.injEq,exists_eq_left',exists_eq_left]
 refine ⟨x.w,hx,?_⟩
 simp only [ZStW.w,ZWr.fr,hd_iff,and_true,true_and,Nat.zero_add,Nat.add_zero,unit_ex,unit_all,true_implies,implies_true,Int.toNat_natCast,eq_self,and_self,eff_nil,cond_one,cond_int,ones_int,row_int,ones_bool,row_bool,cond_bool,ble0,Bool.true_and,Nat.sub_zero,List.getElem?_cons_zero,Option.some.injEq,Value.bool.injEq,Value.int.injEq,exists_eq_left',exists_eq_left]
 exact ⟨fun h => .inl h,fun h => .inr h⟩
theorem write50ZPVC_true (x : ZStW) (hx : ((writeZ0 5).pre x)) : write50ZPVC x := by
 have hx := hd_iff.1 hx
 unfold write50ZPVC
 simp only [TK_w83,TK_w58,TK_w73,TK_w117,TK_w59,TK_w65,TK_w60,TK_w61,TK_w41,TK_w17,TK_w1,TK_w11,TK_w10,TK_w144,TK_w121,TK_w19,TK_w24,TK_w66,TK_w6,TK_w5,TK_w2,TK_w151,TK_w7,TK_w55,TK_w156,TK_w159]
 simp only [hd_iff,and_true,true_and,Nat.zero_add,Nat.add_zero,unit_ex,unit_all,true_implies,implies_true,Int.toNat_natCast,eq_self,and_self,eff_nil,cond_one,cond_int,ones_int,row_int,ones_bool,row_bool,cond_bool,ble0,Bool.true_and,Nat.sub_zero,List.getElem?_cons_zero,Option.some.injEq,Value.bool.injEq,Value.int.injEq,exists_eq_left',exists_eq_left]
 refine ⟨x.w,hx,?_⟩
 simp only [ZStW.w,ZWr.fr,hd_iff,and_true,true_and,Nat.zero_add,Nat.add_zero,unit_ex,unit_all,true_implies,implies_true,Int.toNat_natCast,eq_self,and_self,eff_nil,cond_one,cond_int,ones_int,row_int,ones_bool,row_bool,cond_bool,ble0,Bool.true_and,Nat.sub_zero,List.getElem?_cons_zero,Option.some.injEq,Value.bool.injEq,Value.int.injEq,exists_eq_left',exists_eq_left]
 exact ⟨fun h => .inl h,fun h => .inr h⟩
theorem write41ZNVC_true (x : ZStW) (hx : (writeZ1.pre x)) : write41ZNVC x := by
 have hx := hd_iff.1 hx
 unfold write41ZNVC
 simp only [TK_w94,TK_w73,TK_w99,TK_w75,TK_w102,TK_w104,TK_w41,TK_w17,TK_w1,TK_w83,TK_w11,TK_w10,TK_w144,TK_w121,TK_w25,TK_w24,TK_w22,TK_w66,TK_w18,TK_w21,TK_w23,TK_w151,TK_w55,TK_w156,TK_w159]
 simp only [hd_iff,and_true,true_and,Nat.zero_add,Nat.add_zero,unit_ex,unit_all,true_implies,implies_true,Int.toNat_natCast,eq_self,and_self,eff_nil,cond_one,cond_int,ones_int,row_int,ones_bool,row_bool,cond_bool,ble0,Bool.true_and,Nat.sub_zero,List.getElem?_cons_zero,Option.some.injEq,Value.bool.injEq,Value.int.injEq,exists_eq_left',exists_eq_left]
 refine ⟨x.w,hx,?_⟩
 simp only [ZStW.w,ZWr.fr,hd_iff,and_true,true_and,Nat.zero_add,Nat.add_zero,unit_ex,unit_all,true_implies,implies_true,Int.toNat_natCast,eq_self,and_self,eff_nil,cond_one,cond_int,ones_int,row_int,ones_bool,row_bool,cond_bool,ble0,Bool.true_and,Nat.sub_zero,List.getElem?_cons_zero,Option.some.injEq,Value.bool.injEq,Value.int.injEq,exists_eq_left',exists_eq_left]
 exact ⟨fun h => .inl h,fun h => .inr h⟩
theorem write41ZPVC_true (x : ZStW) (hx : (writeZ1.pre x)) : write41ZPVC x := by
 have hx := hd_iff.1 hx
 unfold write41ZPVC
 simp only [TK_w94,TK_w73,TK_w99,TK_w65,TK_w102,TK_w104,TK_w41,TK_w17,TK_w1,TK_w83,TK_w11,TK_w10,TK_w144,TK_w121,TK_w19,TK_w24,TK_w66,TK_w6,TK_w5,TK_w2,TK_w151,TK_w7,TK_w55,TK_w156,TK_w159]
 simp only [hd_iff,and_true,true_and,Nat.zero_add,Nat.add_zero,unit_ex,unit_all,true_implies,implies_true,Int.toNat_natCast,eq_self,and_self,eff_nil,cond_one,cond_int,ones_int,row_int,ones_bool,row_bool,cond_bool,ble0,Bool.true_and,Nat.sub_zero,List.getElem?_cons_zero,Option.some.injEq,Value.bool.injEq,Value.int.injEq,exists_eq_left',exists_eq_left]
 refine ⟨x.w,hx,?_⟩
 simp only [ZStW.w,ZWr.fr,hd_iff,and_true,true_and,Nat.zero_add,Nat.add_zero,unit_ex,unit_all,true_implies,implies_true,Int.toNat_natCast,eq_self,and_self,eff_nil,cond_one,cond_int,ones_int,row_int,ones_bool,row_bool,cond_bool,ble0,Bool.true_and,Nat.sub_zero,List.getElem?_cons_zero,Option.some.injEq,Value.bool.injEq,Value.int.injEq,exists_eq_left',exists_eq_left]
 exact ⟨fun h => .inl h,fun h => .inr h⟩
theorem read0ZNVC_true (x : ZStR) (hx : (readZ0.pre x)) : read0ZNVC x := by
 have hx := hd_iff.1 hx
 unfold read0ZNVC
 simp only [TK_w105,TK_w73,TK_w117,TK_w109,TK_w25,TK_w135,TK_w89,TK_w141,TK_w168,TK_w140,TK_w169,TK_w170,TK_w171,TK_w172,TK_w173,TK_w17,TK_w1,TK_w33,TK_w83,TK_w158,TK_w121,TK_w57,TK_w163,TK_w24,TK_w22,TK_w66,TK_w18,TK_w21,TK_w23,TK_w151,TK_w10,TK_w144,TK_w55,TK_w156,TK_w159,TK_w11]
 simp only [hd_iff,and_true,true_and,Nat.zero_add,Nat.add_zero,unit_ex,unit_all,true_implies,implies_true,Int.toNat_natCast,eq_self,and_self,eff_nil,cond_one,cond_int,ones_int,row_int,ones_bool,row_bool,cond_bool,ble0,Bool.true_and,Nat.sub_zero,List.getElem?_cons_zero,Option.some.injEq,Value.bool.injEq,Value.int.injEq,exists_eq_left',exists_eq_left]
 refine ⟨x.w,hx,?_⟩
 simp only [ZStR.w,ZRe.fr,ZRe.fr2,hd_iff,and_true,true_and,Nat.zero_add,Nat.add_zero,unit_ex,unit_all,true_implies,implies_true,Int.toNat_natCast,eq_self,and_self,eff_nil,cond_one,cond_int,ones_int,row_int,ones_bool,row_bool,cond_bool,ble0,Bool.true_and,Nat.sub_zero,List.getElem?_cons_zero,Option.some.injEq,Value.bool.injEq,Value.int.injEq,exists_eq_left',exists_eq_left]
 exact ⟨fun h => .inl h,fun h => .inr (.inl h),fun h => .inr (.inr h)⟩
theorem read0ZPVC_true (x : ZStR) (hx : (readZ0.pre x)) : read0ZPVC x := by
 have hx := hd_iff.1 hx
 unfold read0ZPVC
 simp only [TK_w105,TK_w73,TK_w117,TK_w109,TK_w19,TK_w135,TK_w67,TK_w141,TK_w168,TK_w140,TK_w169,TK_w170,TK_w171,TK_w172,TK_w173,TK_w17,TK_w1,TK_w33,TK_w83,TK_w158,TK_w121,TK_w57,TK_w163,TK_w24,TK_w66,TK_w6,TK_w5,TK_w2,TK_w151,TK_w7,TK_w10,TK_w144,TK_w55,TK_w156,TK_w159,TK_w11]
 simp only [hd_iff,and_true,true_and,Nat.zero_add,Nat.add_zero,unit_ex,unit_all,true_implies,implies_true,Int.toNat_natCast,eq_self,and_self,eff_nil,cond_one,cond_int,ones_int,row_int,ones_bool,row_bool,cond_bool,ble0,Bool.true_and,Nat.sub_zero,List.getElem?_cons_zero,Option.some.injEq,Value.bool.injEq,Value.int.injEq,exists_eq_left',exists_eq_left]
 refine ⟨x.w,hx,?_⟩
 simp only [ZStR.w,ZRe.fr,ZRe.fr2,hd_iff,and_true,true_and,Nat.zero_add,Nat.add_zero,unit_ex,unit_all,true_implies,implies_true,Int.toNat_natCast,eq_self,and_self,eff_nil,cond_one,cond_int,ones_int,row_int,ones_bool,row_bool,cond_bool,ble0,Bool.true_and,Nat.sub_zero,List.getElem?_cons_zero,Option.some.injEq,Value.bool.injEq,Value.int.injEq,exists_eq_left',exists_eq_left]
 exact ⟨fun h => .inl h,fun h => .inr (.inl h),fun h => .inr (.inr h)⟩
theorem read1ZNVC_true (x : ZStR) (hx : (readZ1.pre x)) : read1ZNVC x := by
 have hx := hd_iff.1 hx
 unfold read1ZNVC
 simp only [TK_w97,TK_w128,TK_w142,TK_w101,TK_w25,TK_w52,TK_w135,TK_w89,TK_w130,TK_w174,TK_w137,TK_w129,TK_w175,TK_w139,TK_w176,TK_w177,TK_w178,TK_w179,TK_w17,TK_w1,TK_w31,TK_w83,TK_w158,TK_w121,TK_w51,TK_w163,TK_w24,TK_w22,TK_w66,TK_w18,TK_w21,TK_w23,TK_w151,TK_w10,TK_w144,TK_w55,TK_w156,TK_w159]
 simp only [hd_iff,and_true,true_and,Nat.zero_add,Nat.add_zero,unit_ex,unit_all,true_implies,implies_true,Int.toNat_natCast,eq_self,and_self,eff_nil,cond_one,cond_int,ones_int,row_int,ones_bool,row_bool,cond_bool,ble0,Bool.true_and,Nat.sub_zero,List.getElem?_cons_zero,Option.some.injEq,Value.bool.injEq,Value.int.injEq,exists_eq_left',exists_eq_left]
 refine ⟨x.w,hx,?_⟩
 simp only [ZStR.w,ZRe.fr,ZRe.fr2,hd_iff,and_true,true_and,Nat.zero_add,Nat.add_zero,unit_ex,unit_all,true_implies,implies_true,Int.toNat_natCast,eq_self,and_self,eff_nil,cond_one,cond_int,ones_int,row_int,ones_bool,row_bool,cond_bool,ble0,Bool.true_and,Nat.sub_zero,List.getElem?_cons_zero,Option.some.injEq,Value.bool.injEq,Value.int.injEq,exists_eq_left',exists_eq_left]
 exact ⟨fun h => .inl h,fun h => .inr (.inl h),fun h => .inr (.inr h)⟩
theorem read1ZPVC_true (x : ZStR) (hx : (readZ1.pre x)) : read1ZPVC x := by
 have hx := hd_iff.1 hx
 unfold read1ZPVC
 simp only [TK_w97,TK_w128,TK_w142,TK_w101,TK_w19,TK_w52,TK_w135,TK_w67,TK_w130,TK_w174,TK_w138,TK_w129,TK_w175,TK_w139,TK_w176,TK_w177,TK_w178,TK_w179,TK_w17,TK_w1,TK_w31,TK_w83,TK_w158,TK_w121,TK_w51,TK_w163,TK_w24,TK_w66,TK_w6,TK_w5,TK_w2,TK_w151,TK_w7,TK_w10,TK_w144,TK_w55,TK_w156,TK_w159]
 simp only [hd_iff,and_true,true_and,Nat.zero_add,Nat.add_zero,unit_ex,unit_all,true_implies,implies_true,Int.toNat_natCast,eq_self,and_self,eff_nil,cond_one,cond_int,ones_int,row_int,ones_bool,row_bool,cond_bool,ble0,Bool.true_and,Nat.sub_zero,List.getElem?_cons_zero,Option.some.injEq,Value.bool.injEq,Value.int.injEq,exists_eq_left',exists_eq_left]
 refine ⟨x.w,hx,?_⟩
 simp only [ZStR.w,ZRe.fr,ZRe.fr2,hd_iff,and_true,true_and,Nat.zero_add,Nat.add_zero,unit_ex,unit_all,true_implies,implies_true,Int.toNat_natCast,eq_self,and_self,eff_nil,cond_one,cond_int,ones_int,row_int,ones_bool,row_bool,cond_bool,ble0,Bool.true_and,Nat.sub_zero,List.getElem?_cons_zero,Option.some.injEq,Value.bool.injEq,Value.int.injEq,exists_eq_left',exists_eq_left]
 exact ⟨fun h => .inl h,fun h => .inr (.inl h),fun h => .inr (.inr h)⟩
theorem enter4N_ok : CtrOk Tryz.prog 16 (enterZ 4).N.ctr := pctr_endT (ctrT_ok enterS4_ok) 10 (fun _ => ⟨rfl,rfl,rfl,rfl⟩) fun x hx => Eq.mp (enter4ZNVC_ok x) (enter4ZNVC_true x hx.1)
theorem enter4P_ok : CtrOk Tryz.prog 16 (enterZ 4).P.ctr := pctr_endT (ctrT_ok enterS4_ok) 11 (fun _ => ⟨rfl,rfl,rfl,rfl⟩) fun x hx => Eq.mp (enter4ZPVC_ok x) (enter4ZPVC_true x hx.1)
theorem enter4M_ok : CtrOk Tryz.prog 16 (enterZ 4).M.ctr := glue2 (fun _ => ⟨fun _ => rfl,fun _ => rfl,trivial⟩) enter4N_ok enter4P_ok
theorem enter5N_ok : CtrOk Tryz.prog 16 (enterZ 5).N.ctr := pctr_endT (ctrT_ok enterS5_ok) 10 (fun _ => ⟨rfl,rfl,rfl,rfl⟩) fun x hx => Eq.mp (enter5ZNVC_ok x) (enter5ZNVC_true x hx.1)
theorem enter5P_ok : CtrOk Tryz.prog 16 (enterZ 5).P.ctr := pctr_endT (ctrT_ok enterS5_ok) 11 (fun _ => ⟨rfl,rfl,rfl,rfl⟩) fun x hx => Eq.mp (enter5ZPVC_ok x) (enter5ZPVC_true x hx.1)
theorem enter5M_ok : CtrOk Tryz.prog 16 (enterZ 5).M.ctr := glue2 (fun _ => ⟨fun _ => rfl,fun _ => rfl,trivial⟩) enter5N_ok enter5P_ok
theorem findN_ok : CtrOk Tryz.prog 16 findZ.N.ctr := pctr_endT (ctrT_ok findS_ok) 10 (fun _ => ⟨rfl,rfl,rfl,rfl⟩) fun x hx => Eq.mp (findZNVC_ok x) (findZNVC_true x hx.1)
theorem findP_ok : CtrOk Tryz.prog 16 findZ.P.ctr := pctr_endT (ctrT_ok findS_ok) 11 (fun _ => ⟨rfl,rfl,rfl,rfl⟩) fun x hx => Eq.mp (findZPVC_ok x) (findZPVC_true x hx.1)
theorem findM_ok : CtrOk Tryz.prog 16 findZ.M.ctr := glue2 (fun _ => ⟨fun _ => rfl,fun _ => rfl,trivial⟩) findN_ok findP_ok
theorem take4N_ok : CtrOk Tryz.prog 16 (takeZ 4).N.ctr := pctr_endT (ctrT_ok takeS4_ok) 10 (fun _ => ⟨rfl,rfl,rfl,rfl⟩) fun x hx => Eq.mp (take4ZNVC_ok x) (take4ZNVC_true x hx.1)
theorem take4P_ok : CtrOk Tryz.prog 16 (takeZ 4).P.ctr := pctr_endT (ctrT_ok takeS4_ok) 11 (fun _ => ⟨rfl,rfl,rfl,rfl⟩) fun x hx => Eq.mp (take4ZPVC_ok x) (take4ZPVC_true x hx.1)
theorem take4M_ok : CtrOk Tryz.prog 16 (takeZ 4).M.ctr := glue2 (fun _ => ⟨fun _ => rfl,fun _ => rfl,trivial⟩) take4N_ok take4P_ok
theorem take5N_ok : CtrOk Tryz.prog 16 (takeZ 5).N.ctr := pctr_endT (ctrT_ok takeS5_ok) 10 (fun _ => ⟨rfl,rfl,rfl,rfl⟩) fun x hx => Eq.mp (take5ZNVC_ok x) (take5ZNVC_true x hx.1)
theorem take5P_ok : CtrOk Tryz.prog 16 (takeZ 5).P.ctr := pctr_endT (ctrT_ok takeS5_ok) 11 (fun _ => ⟨rfl,rfl,rfl,rfl⟩) fun x hx => Eq.mp (take5ZPVC_ok x) (take5ZPVC_true x hx.1)
theorem take5M_ok : CtrOk Tryz.prog 16 (takeZ 5).M.ctr := glue2 (fun _ => ⟨fun _ => rfl,fun _ => rfl,trivial⟩) take5N_ok take5P_ok
theorem leave4N_ok : CtrOk Tryz.prog 16 (leaveZ 4).N.ctr := pctr_endT (ctrT_ok leaveS4_ok) 10 (fun _ => ⟨rfl,rfl,rfl,rfl⟩) fun x hx => Eq.mp (leave4ZNVC_ok x) (leave4ZNVC_true x hx.1)
theorem leave4P_ok : CtrOk Tryz.prog 16 (leaveZ 4).P.ctr := pctr_endT (ctrT_ok leaveS4_ok) 11 (fun _ => ⟨rfl,rfl,rfl,rfl⟩) fun x hx => Eq.mp (leave4ZPVC_ok x) (leave4ZPVC_true x hx.1)
theorem leave4M_ok : CtrOk Tryz.prog 16 (leaveZ 4).M.ctr := glue2 (fun _ => ⟨fun _ => rfl,trivial⟩) leave4N_ok leave4P_ok
theorem leave5N_ok : CtrOk Tryz.prog 16 (leaveZ 5).N.ctr := pctr_endT (ctrT_ok leaveS5_ok) 10 (fun _ => ⟨rfl,rfl,rfl,rfl⟩) fun x hx => Eq.mp (leave5ZNVC_ok x) (leave5ZNVC_true x hx.1)
theorem leave5P_ok : CtrOk Tryz.prog 16 (leaveZ 5).P.ctr := pctr_endT (ctrT_ok leaveS5_ok) 11 (fun _ => ⟨rfl,rfl,rfl,rfl⟩) fun x hx => Eq.mp (leave5ZPVC_ok x) (leave5ZPVC_true x hx.1)
theorem leave5M_ok : CtrOk Tryz.prog 16 (leaveZ 5).M.ctr := glue2 (fun _ => ⟨fun _ => rfl,trivial⟩) leave5N_ok leave5P_ok
theorem write40N_ok : CtrOk Tryz.prog 16 (writeZ0 4).N.ctr := pctr_endT (ctrT_ok writeS40_ok) 10 (fun _ => ⟨rfl,rfl,rfl,rfl⟩) fun x hx => Eq.mp (write40ZNVC_ok x) (write40ZNVC_true x hx.1)
theorem write40P_ok : CtrOk Tryz.prog 16 (writeZ0 4).P.ctr := pctr_endT (ctrT_ok writeS40_ok) 11 (fun _ => ⟨rfl,rfl,rfl,rfl⟩) fun x hx => Eq.mp (write40ZPVC_ok x) (write40ZPVC_true x hx.1)
theorem write40M_ok : CtrOk Tryz.prog 16 (writeZ0 4).M.ctr := glue2 (fun _ => ⟨fun _ => rfl,fun _ => rfl,trivial⟩) write40N_ok write40P_ok
theorem write50N_ok : CtrOk Tryz.prog 16 (writeZ0 5).N.ctr := pctr_endT (ctrT_ok writeS50_ok) 10 (fun _ => ⟨rfl,rfl,rfl,rfl⟩) fun x hx => Eq.mp (write50ZNVC_ok x) (write50ZNVC_true x hx.1)
theorem write50P_ok : CtrOk Tryz.prog 16 (writeZ0 5).P.ctr := pctr_endT (ctrT_ok writeS50_ok) 11 (fun _ => ⟨rfl,rfl,rfl,rfl⟩) fun x hx => Eq.mp (write50ZPVC_ok x) (write50ZPVC_true x hx.1)
theorem write50M_ok : CtrOk Tryz.prog 16 (writeZ0 5).M.ctr := glue2 (fun _ => ⟨fun _ => rfl,fun _ => rfl,trivial⟩) write50N_ok write50P_ok
theorem write41N_ok : CtrOk Tryz.prog 16 writeZ1.N.ctr := pctr_endT (ctrT_ok writeS1_ok) 10 (fun _ => ⟨rfl,rfl,rfl,rfl⟩) fun x hx => Eq.mp (write41ZNVC_ok x) (write41ZNVC_true x hx.1)
theorem write41P_ok : CtrOk Tryz.prog 16 writeZ1.P.ctr := pctr_endT (ctrT_ok writeS1_ok) 11 (fun _ => ⟨rfl,rfl,rfl,rfl⟩) fun x hx => Eq.mp (write41ZPVC_ok x) (write41ZPVC_true x hx.1)
theorem write41M_ok : CtrOk Tryz.prog 16 writeZ1.M.ctr := glue2 (fun _ => ⟨fun _ => rfl,fun _ => rfl,trivial⟩) write41N_ok write41P_ok
theorem read0N_ok : CtrOk Tryz.prog 16 readZ0.N.ctr := pctr_endT (ctrT_ok readS0_ok) 10 (fun _ => ⟨rfl,rfl,rfl,rfl⟩) fun x hx => Eq.mp (read0ZNVC_ok x) (read0ZNVC_true x hx.1)
theorem read0P_ok : CtrOk Tryz.prog 16 readZ0.P.ctr := pctr_endT (ctrT_ok readS0_ok) 11 (fun _ => ⟨rfl,rfl,rfl,rfl⟩) fun x hx => Eq.mp (read0ZPVC_ok x) (read0ZPVC_true x hx.1)
theorem read0M_ok : CtrOk Tryz.prog 16 readZ0.M.ctr := glue2 (fun _ => ⟨fun _ => rfl,fun _ => rfl,fun _ => rfl,trivial⟩) read0N_ok read0P_ok
theorem read1N_ok : CtrOk Tryz.prog 16 readZ1.N.ctr := pctr_endT (ctrT_ok readS1_ok) 11 (fun _ => ⟨rfl,rfl,rfl,rfl⟩) fun x hx => Eq.mp (read1ZNVC_ok x) (read1ZNVC_true x hx.1)
theorem read1P_ok : CtrOk Tryz.prog 16 readZ1.P.ctr := pctr_endT (ctrT_ok readS1_ok) 12 (fun _ => ⟨rfl,rfl,rfl,rfl⟩) fun x hx => Eq.mp (read1ZPVC_ok x) (read1ZPVC_true x hx.1)
theorem read1M_ok : CtrOk Tryz.prog 16 readZ1.M.ctr := glue2 (fun _ => ⟨fun _ => rfl,fun _ => rfl,fun _ => rfl,trivial⟩) read1N_ok read1P_ok
theorem pubZ4VC_true (x : ZPb) (hx : x.chg.okE/\(∃ i j,x.chg.inP i j)/\∀ k,x.a.c.o k + 8 < 1099511627776) : pubZ4VC x := by
 unfold pubZ4VC
 simp only [TM_w3,TM_w2,TM_w8,TM_w1,TM_w5]
 simp only [hd_iff,and_true,true_and,Nat.zero_add,Nat.add_zero,unit_ex,unit_all,true_implies,implies_true,Int.toNat_natCast,eq_self,and_self,eff_nil,cond_one,cond_int,ones_int,row_int,ones_bool,row_bool,cond_bool,ble0,Bool.true_and,Nat.sub_zero,List.getElem?_cons_zero,Option.some.injEq,Value.bool.injEq,Value.int.injEq,exists_eq_left',exists_eq_left]
 exact ⟨by decide,x.chg,hx,⟨rfl,rfl⟩,⟨rfl,rfl,rfl,rfl,rfl,rfl,rfl,rfl,rfl,rfl⟩,by decide,by decide,rfl⟩
theorem pubZ5VC_true (x : ZPb) (hx : x.chg.okD/\(∃ i j,x.chg.inP i j)/\0<=x.a.id/\x.a.id < 1152921504606846976/\x.a.n ≠ 0) : pubZ5VC x := by
 unfold pubZ5VC
 simp only [TM_w3,TM_w2,TM_w8,TM_w1,TM_w5]
 simp only [hd_iff,and_true,true_and,Nat.zero_add,Nat.add_zero,unit_ex,unit_all,true_implies,implies_true,Int.toNat_natCast,eq_self,and_self,eff_nil,cond_one,cond_int,ones_int,row_int,ones_bool,row_bool,cond_bool,ble0,Bool.true_and,Nat.sub_zero,List.getElem?_cons_zero,Option.some.injEq,Value.bool.injEq,Value.int.injEq,exists_eq_left',exists_eq_left]
 exact ⟨by decide,x.chg,hx,⟨rfl,rfl⟩,⟨rfl,rfl,rfl,rfl,rfl,rfl,rfl,rfl,rfl,rfl⟩,by decide,by decide,rfl⟩
theorem pubZ4_ok : CtrOk Tryz.prog 16 pubZ4 := det_end tt_ok mixed tblU4_ok noA 200 6 (fun _ => rfl) (fun _ => rfl) fun x hx => Eq.mp (pubZ4VC_ok x) (pubZ4VC_true x (hd_iff.1 hx))
theorem pubZ5_ok : CtrOk Tryz.prog 16 pubZ5 := det_end tt_ok mixed tblU5_ok noA 200 6 (fun _ => rfl) (fun _ => rfl) fun x hx => Eq.mp (pubZ5VC_ok x) (pubZ5VC_true x (hd_iff.1 hx))
end Go.Proofs.YtpnhfbegboogbaaGreat
end
section
namespace Go.Proofs.YtpnhfbegboogbaaGreat
open Go SE
noncomputable def writeZ : ZCtr := { X := ZStW,args := fun x => [.ptr 0 0,i64 x.t,(x.w.fr x.p).av 4 4 nilS],a := ZStW.a,k := 1,ex := fun _ => [],pre := fun x => Hd x.w.ok,outs := [
 { Y := Unit,post := fun x _ => Hd (x.p + 1 ≠ spn x.c),ret := fun x _ => (x.w.fr (x.p + 1)).av 4 4 nilS,a := fun x _ => x.a.putD x.w.d',m := 1,ex := fun _ _ => [] },
 { Y := Unit,post := fun x _ => Hd (x.p + 1 = spn x.c),ret := fun x _ => (x.w.fr 0).av 4 5 nilS,a := fun x _ => x.a.putD x.w.d',m := 1,ex := fun _ _ => [] }] }
theorem writeM_ok : CtrOk Tryz.prog 16 writeZ.M.ctr := ctr_of fun x hx => by
 have h := hd_iff.1 hx.1
 by_cases hp : x.p = 0
 ·have e0 : (0 : Int) = (x.p : Int) := by omega
  refine ⟨_,write40M_ok,rfl,x,⟨hd_iff.2 ⟨h,hp⟩,trivial⟩,by simp only [ZCtr.M,ZCtr.pc,PCtr.ctr,writeZ,writeZ0,e0],rfl,fun v h' hh => ?_⟩
  rcases outsP2 hh with ⟨y,h0,h1,h2⟩ | ⟨y,h0,h1,h2⟩
  ·exact outsI1 ⟨(),hd_iff.2 (by have := hd_iff.1 h0; omega),h1.trans (by show (x.w.fr 1).av 4 4 nilS = (x.w.fr (x.p + 1)).av 4 4 nilS; rw [hp]; rfl),h2⟩
  ·exact outsI2 ⟨(),hd_iff.2 (by have := hd_iff.1 h0; omega),h1,h2⟩
 ·refine ⟨_,write41M_ok,rfl,x,⟨hd_iff.2 ⟨h,hp⟩,trivial⟩,rfl,rfl,fun v h' hh => hh⟩
noncomputable def pickS (k ph : Int) (b : Bool) : WTr :=
 bif decide (k = 4) then
  bif decide (ph = 0) then ctrT (enterZ 4).M.ctr else bif decide (ph = 3) then ctrT (takeZ 4).M.ctr else bif decide (ph = 4) then ctrT writeZ.M.ctr else bif decide (ph = 5) then ctrT pubZ4 else ctrT (leaveZ 4).M.ctr
 else
  bif decide (ph = 0) then ctrT (enterZ 5).M.ctr else bif decide (ph = 1) then ctrT findZ.M.ctr else bif decide (ph = 2) then (bif b then ctrT readZ1.M.ctr else ctrT readZ0.M.ctr) else
  bif decide (ph = 3) then ctrT (takeZ 5).M.ctr else bif decide (ph = 4) then ctrT (writeZ0 5).M.ctr else bif decide (ph = 5) then ctrT pubZ5 else ctrT (leaveZ 5).M.ctr
theorem bif_ok {P : Program} {f : FuncId} (b : Bool) {T U : WTr} (hT : ∀ args h K,T args h K->Sp P f args h K) (hU : ∀ args h K,U args h K->Sp P f args h K) : ∀ args h K,(bif b then T else U) args h K->Sp P f args h K := by
 cases b
 ·exact hU
 ·exact hT
theorem pickS_ok (k ph : Int) (b : Bool) : ∀ args h K,pickS k ph b args h K->Sp Tryz.prog 16 args h K :=
 bif_ok _ (bif_ok _ (ctrT_ok enter4M_ok) (bif_ok _ (ctrT_ok take4M_ok) (bif_ok _ (ctrT_ok writeM_ok) (bif_ok _ (ctrT_ok pubZ4_ok) (ctrT_ok leave4M_ok)))))
  (bif_ok _ (ctrT_ok enter5M_ok) (bif_ok _ (ctrT_ok findM_ok) (bif_ok _ (bif_ok _ (ctrT_ok read1M_ok) (ctrT_ok read0M_ok)) (bif_ok _ (ctrT_ok take5M_ok) (bif_ok _ (ctrT_ok write50M_ok) (bif_ok _ (ctrT_ok pubZ5_ok) (ctrT_ok leave5M_ok)))))))
def intL (l : List AV) (i : Nat) : Int := match l[i]? with
 | some (AV.lit (.int _ z)) => z
 | _ => 0
def hasB (l : List AV) : Bool := match l[19]? with
 | some (AV.slW _ _ _ _) => true
 | _ => false
noncomputable def tStepT : WTr := fun args h K => match args with
 | [a,t,.agg l] => pickS (intL l 0) (intL l 5) (hasB l) [a,t,.agg l] h K
 | _ => False
theorem tStepT_ok (args : List AV) (h : Heap) (K : AV->Heap->Prop) (hq : tStepT args h K) : Sp Tryz.prog 16 args h K := by
 unfold tStepT at hq
 split at hq
 ·exact pickS_ok _ _ _ _ _ _ hq
 ·exact hq.elim
structure ZCl where
 k : Int
 key : ByteArray
 value : ByteArray
 to : ByteArray
def ZCl.l (x : ZCl) : List AV := [i64 x.k,.lit (.string x.key),.lit (.string x.value),.lit (.string x.to),nilS]
def ZCl.fr (x : ZCl) : List AV := x.l ++ [i64 0,u64 0,.lit (.string ⟨#[]⟩),boo false,i64 0,boo false,.lit (.string ⟨#[]⟩),u64 0,u64 0,i64 0,i64 0,i64 (-1),i64 0,i64 0,nilS,i64 0,nilS,i64 0,boo false,.lit (.string ⟨#[]⟩),nilS,nilS,u64 0]
noncomputable def beginZ : Ctr := det ZCl (fun x => [.agg x.l]) 0 (fun _ => []) (fun _ => True) (fun x => .agg x.fr) 0 (fun _ => [])
def beginT : WTr := fun args h K => match args with
 | [.agg [.lit (.int .i64 k),.lit (.string key),.lit (.string v),.lit (.string to),.lit (.slice none 0 0)]] => K (.agg (ZCl.mk k key v to).fr) h
 | _ => False
def f0 (key v : ByteArray) : ZFr := ⟨key,v,0,false,zLnk,-1,0,0,0,false,⟨#[]⟩,0⟩
def ansA (code : Int) (found : Bool) (v : ByteArray) (ep : Int) : AV := .agg [i64 code,boo found,.lit (.string v),nilS,nilS,u64 ep]
structure ZRS where
 a : ZArn
 f : ZFr
 n : Nat
 p : Nat
def frSt (f : ZFr) (k ph : Int) (b : AV) : AObj := .cells 45 (.av (f.l k ph b))
def phAt (h : Heap) : Int := match cellAt h 3 5 with
 | some (.lit (.int _ z)) => z
 | _ => -1
def byAt (h : Heap) : Bool := match cellAt h 3 19 with
 | some (.slW _ _ _ _) => true
 | _ => false
noncomputable def formR (k ph : Int) (iv : ZRS->Prop) : LAnn := { σ := ZRS,fr := fun s => [(10,i64 s.n)],ob := fun s => [(0,some (.abs (ownM s.a.os))),(3,some (frSt s.f k ph nilS))],inv := fun s => Hd (1<=s.n/\s.n<=50/\iv s),meas := fun s => 101 - s.n,test := fun _ h => decide (phAt h = ph) && !byAt h }
structure ZRun where
 a : ZArn
 t : Nat
 key : ByteArray
 v : ByteArray
 b : ZBlk
namespace ZRun
def c (x : ZRun) (k : Int) : Int := if k = 4 then ned x.v.size else 0
def a1 (x : ZRun) : ZArn := x.a.putR x.t x.a.r.now
def f1 (x : ZRun) : ZFr := { f0 x.key x.v with epoch := x.a.c.now }
def ln (x : ZRun) (k : Int) (i j : Nat) : Nat := 2 + i * 8 + j * (spn (x.c k)).toNat
noncomputable def dW (x : ZRun) (k : Int) (i j : Nat) : Nat->DevM
 | 0 => x.a.d
 | p + 1 => ZWr.d' ⟨x.dW k i j p,x.t,x.f1,x.ln k i j,x.c k,p⟩
noncomputable def a2 (x : ZRun) (k : Int) (i j p : Nat) : ZArn := (x.a1.putP (x.a.p.take (x.c k) i j)).putD (x.dW k i j p)
def sp (x : ZRun) (k : Int) : Nat := (spn (x.c k)).toNat
noncomputable def pb (x : ZRun) (k : Int) (i j : Nat) (f : ZFr) : ZPb := ⟨x.a2 k i j (x.sp k),{ f with cls := x.c k },x.t,x.ln k i j⟩
noncomputable def aE (x : ZRun) (i j : Nat) : ZArn := (x.pb 4 i j x.f1).chg.enq.putR x.t 0
def f2 (x : ZRun) : ZFr := { x.f1 with had := true,old := x.a.l.head,ans := x.b.value }
noncomputable def aD (x : ZRun) (i j : Nat) : ZArn := (x.pb 5 i j x.f2).chg.deq.putR x.t 0
end ZRun
noncomputable def annE (x : ZRun) : FuncId->Anns := fun f => bif Nat.beq f 12 then (fun b _ _ => bif Nat.beq b 0 then [
 formR 4 0 (fun s => s.n = 1/\s.a = x.a/\s.f = f0 x.key x.v),
 formR 4 3 (fun s => s.n = 2/\s.a = x.a1/\s.f = x.f1/\x.v.size<=400),
 formR 4 4 (fun s => x.v.size<=400/\s.p < spn (x.c 4)/\s.n = 3 + s.p/\∃ i j,x.a.p.takes (x.c 4) i j/\s.a = x.a2 4 i j s.p/\s.f = { x.f1 with line := x.ln 4 i j,cls := x.c 4,piece := s.p }),
 formR 4 5 (fun s => x.v.size<=400/\s.n = 3 + x.sp 4/\∃ i j,x.a.p.takes (x.c 4) i j/\s.a = x.a2 4 i j (x.sp 4)/\s.f = { x.f1 with line := x.ln 4 i j,cls := x.c 4 }),
 formR 4 6 (fun s => x.v.size<=400/\((∀ i,i < x.a.p.n->x.a.p.cls i ≠ -1/\x.a.p.full (x.c 4) i)/\s.a = x.a1/\s.f = { x.f1 with cls := x.c 4,code := 4 } ∨ s.n = 4 + x.sp 4/\∃ i j,x.a.p.takes (x.c 4) i j/\s.a = (x.pb 4 i j x.f1).chg.enq/\s.f = { x.f1 with cls := x.c 4,aep := x.a.c.now }))] else []) else fun _ _ _ => []
noncomputable def annD (x : ZRun) : FuncId->Anns := fun f => bif Nat.beq f 12 then (fun b _ _ => bif Nat.beq b 0 then [
 formR 5 0 (fun s => s.n = 1/\s.a = x.a/\s.f = f0 x.key x.v),
 formR 5 1 (fun s => s.n = 2/\s.a = x.a1/\s.f = x.f1),
 formR 5 2 (fun s => s.n = 3/\s.a = x.a1/\x.a.l.n ≠ 0/\s.f = { x.f1 with had := true,old := x.a.l.head }),
 { σ := ZRS,fr := fun s => [(10,i64 s.n)],ob := fun s => [(0,some (.abs (ownM s.a.os))),(3,some (frSt s.f 5 2 (.slW 4 0 1 (64 * s.p)))),(4,some (rowU x.b.enc (64 * s.p)))],nx := 1,inv := fun s => Hd (1<=s.p/\s.p < spn x.b.cls/\s.n = 3 + s.p/\s.a = x.a1/\x.a.l.n ≠ 0/\s.f = { x.f1 with had := true,old := x.a.l.head,piece := s.p }),meas := fun s => 101 - s.n,test := fun _ h => decide (phAt h = 2) && byAt h },
 formR 5 3 (fun s => s.n = 3 + x.b.spnN/\s.a = x.a1/\x.a.l.n ≠ 0/\∃ q,s.f = { x.f2 with piece := q }),
 formR 5 4 (fun s => s.n = 4 + x.b.spnN/\x.a.l.n ≠ 0/\∃ i j,x.a.p.takes 0 i j/\s.a = x.a2 5 i j 0/\s.f = { x.f2 with line := x.ln 5 i j,cls := 0,piece := 0 }),
 formR 5 5 (fun s => s.n = 5 + x.b.spnN/\x.a.l.n ≠ 0/\∃ i j,x.a.p.takes 0 i j/\s.a = x.a2 5 i j (x.sp 5)/\s.f = { x.f2 with line := x.ln 5 i j,cls := 0,piece := 0 }),
 formR 5 6 (fun s => (x.a.l.n = 0/\s.a = x.a1/\s.f = x.f1 ∨ x.a.l.n ≠ 0/\(∀ i,i < x.a.p.n->x.a.p.cls i ≠ -1/\x.a.p.full 0 i)/\s.a = x.a1/\(∃ q,s.f = { x.f2 with cls := 0,ans := ⟨#[]⟩,code := 4,piece := q }) ∨ s.n = 6 + x.b.spnN/\x.a.l.n ≠ 0/\∃ i j,x.a.p.takes 0 i j/\s.a = (x.pb 5 i j x.f2).chg.deq/\s.f = { x.f2 with cls := 0,piece := 0,found := true,aep := x.a.c.now }))] else []) else fun _ _ _ => []
def callA (k : Int) (key v : ByteArray) : AV := .agg [i64 k,.lit (.string key),.lit (.string v),.lit (.string ⟨#[]⟩),nilS]
noncomputable def runE (pre : ZRun->Prop) : Ctr := { X := ZRun,args := fun x => [.ptr 0 0,i64 x.t,callA 4 x.key x.v],k := 1,os := fun x => [.abs (ownM x.a.os)],pre := fun x => Hd (pre x),outs := [
 { Y := Nat,post := fun x _ => Hd (400 < x.v.size),ret := fun _ n => .tup [ansA 5 false ⟨#[]⟩ 0,i64 n,boo true],m := 1,os := fun x _ => [.abs (ownM x.a.os)] },
 { Y := Nat,post := fun x _ => Hd (x.v.size<=400/\∀ i,i < x.a.p.n->x.a.p.cls i ≠ -1/\x.a.p.full (x.c 4) i),ret := fun _ n => .tup [ansA 4 false ⟨#[]⟩ 0,i64 n,boo true],m := 1,os := fun x _ => [.abs (ownM x.a.os)] },
 { Y := Nat × Nat,post := fun x y => Hd (x.v.size<=400/\x.a.p.takes (x.c 4) y.1 y.2),ret := fun x _ => .tup [ansA 0 false ⟨#[]⟩ x.a.c.now,i64 (4 + x.sp 4 : Nat),boo true],m := 1,os := fun x y => [.abs (ownM (x.aE y.1 y.2).os)] }] }
noncomputable def runD (pre : ZRun->Prop) : Ctr := { X := ZRun,args := fun x => [.ptr 0 0,i64 x.t,callA 5 x.key x.v],k := 1,os := fun x => [.abs (ownM x.a.os)],pre := fun x => Hd (pre x),outs := [
 { Y := Nat,post := fun x _ => Hd (x.a.l.n = 0),ret := fun _ n => .tup [ansA 0 false ⟨#[]⟩ 0,i64 n,boo true],m := 1,os := fun x _ => [.abs (ownM x.a.os)] },
 { Y := Nat,post := fun x _ => Hd (x.a.l.n ≠ 0/\∀ i,i < x.a.p.n->x.a.p.cls i ≠ -1/\x.a.p.full 0 i),ret := fun _ n => .tup [ansA 4 false ⟨#[]⟩ 0,i64 n,boo true],m := 1,os := fun x _ => [.abs (ownM x.a.os)] },
 { Y := Nat × Nat,post := fun x y => Hd (x.a.l.n ≠ 0/\x.a.p.takes 0 y.1 y.2),ret := fun x _ => .tup [ansA 0 true x.b.value x.a.c.now,i64 (6 + x.b.spnN : Nat),boo true],m := 1,os := fun x y => [.abs (ownM (x.aD y.1 y.2).os)] }] }
noncomputable def tblRun : WTbl := [(14,beginT),(16,tStepT)]
end Go.Proofs.YtpnhfbegboogbaaGreat
end
section
namespace Go.Proofs.YtpnhfbegboogbaaGreat
open Go SE
def TP_w1 : Prop := Value.slice none 0 0 = Value.slice none 0 0
def TP_w9 : Prop := ByteArray.mk #[] = ByteArray.mk #[]
def TP_w2 : Prop := false = false/\TP_w9/\TP_w1/\TP_w1/\(0 : Int) = 0/\True
def TP_w61 (a : Nat) : Prop := (a : Int) = 0/\true = false/\True
def TP_w60 (a : ByteArray) : Prop := a = ByteArray.mk #[]
def TP_w50 (a : ZArn) : Prop := Hd (a.l.n ≠ 0/\∀ i : Nat,i < a.p.n->a.p.cls i ≠ (-(1 : Int))/\a.p.full (0 : Int) i)
def TP_w42 : Prop := (0 : Int) = 0/\TP_w2
def TP_w33 (a : ZArn) (b : ZArn) : Prop := ownM a.os = ownM b.os/\True
def TP_w3 (a : ZRun) (b : ZArn) : Prop := (∃ y : Nat,Hd (a.a.l.n = 0)/\(TP_w42/\TP_w61 y)/\TP_w33 a.a b) ∨ (∃ y : Nat,TP_w50 a.a/\(((4 : Int) = 0/\TP_w2)/\TP_w61 y)/\TP_w33 a.a b) ∨ ∃ y : Prod Nat Nat,Hd (a.a.l.n ≠ 0/\a.a.p.takes (0 : Int) y.1 y.2)/\(((0 : Int) = 0/\true = false/\TP_w60 a.b.value/\TP_w1/\TP_w1/\a.a.c.now = 0/\True)/\((6 + a.b.spnN : Nat) : Int) = 0/\true = false/\True)/\ownM (ZArn.os (a.aD y.1 y.2)) = ownM b.os/\True
def TP_w48 (a : Int) (b : Int) : Prop := TP_w1/\TP_w1/\a = b/\True
def TP_w6 (a : ZFr) (b : ZFr) : Prop := (0 : Int) = 0/\TP_w1/\a.code = b.code/\a.found = b.found/\a.ans = b.ans/\TP_w48 a.aep b.aep
def TP_w5 (a : ZFr) (b : ZFr) : Prop := TP_w1/\TP_w6 a b
def TP_w47 (a : ZRun) : Prop := Hd (a.v.size<=400/\∀ i : Nat,i < a.a.p.n->a.a.p.cls i ≠ (-(1 : Int))/\a.a.p.full (a.c (4 : Int)) i)
def TP_w62 (a : ZRun) (b : Prod Nat Nat) : Prop := Hd (a.v.size<=400/\a.a.p.takes (a.c (4 : Int)) b.1 b.2)
def TP_w10 (a : ZRun) (b : ZArn) : Prop := (∃ y : Nat,Hd (400 < a.v.size)/\(((5 : Int) = 0/\TP_w2)/\TP_w61 y)/\TP_w33 a.a b) ∨ (∃ y : Nat,TP_w47 a/\(((4 : Int) = 0/\TP_w2)/\TP_w61 y)/\TP_w33 a.a b) ∨ ∃ y : Prod Nat Nat,TP_w62 a y/\(((0 : Int) = 0/\false = false/\TP_w9/\TP_w1/\TP_w1/\a.a.c.now = 0/\True)/\((4 + a.sp (4 : Int) : Nat) : Int) = 0/\true = false/\True)/\ownM (ZArn.os (a.aE y.1 y.2)) = ownM b.os/\True
def TP_w59 (a : ZFr) (b : ZFr) : Prop := a.cls = b.cls/\a.piece = b.piece/\TP_w5 a b
def TP_w11 (a : ZFr) (b : ZFr) : Prop := TP_w9/\false = false/\(0 : Int) = 0/\a.had = b.had/\a.old.key = b.old.key/\a.old.id = b.old.id/\a.old.ver = b.old.ver/\a.old.line = b.old.line/\a.old.cls = b.old.cls/\a.line = b.line/\TP_w59 a b
def TP_w15 (a : ZFr) (b : ZFr) : Prop := a.epoch = b.epoch/\TP_w11 a b
def TP_w17 (a : ZRS) (b : ZRun) : Prop := Hd (1<=a.n/\a.n<=50/\(b.a.l.n = 0/\a.a = b.a1/\a.f = b.f1 ∨ b.a.l.n ≠ 0/\(∀ i : Nat,i < b.a.p.n->b.a.p.cls i ≠ (-(1 : Int))/\b.a.p.full (0 : Int) i)/\a.a = b.a1/\(∃ q : Int,a.f = ZFr.mk b.key b.v b.a.c.now true b.a.l.head (-(1 : Int)) (0 : Int) q (4 : Int) false (ByteArray.mk #[]) (0 : Int)) ∨ a.n = 6 + b.b.spnN/\b.a.l.n ≠ 0/\∃ i : Nat,∃ j : Nat,b.a.p.takes (0 : Int) i j/\a.a = ZChg.deq (ZPb.chg (b.pb (5 : Int) i j b.f2))/\a.f = ZFr.mk b.key b.v b.a.c.now true b.a.l.head (-(1 : Int)) (0 : Int) (0 : Int) (0 : Int) true b.b.value b.a.c.now))
def TP_w18 (a : ZRS) (b : ZRun) : Prop := Hd (1<=a.n/\a.n<=50/\b.v.size<=400/\((∀ i : Nat,i < b.a.p.n->b.a.p.cls i ≠ (-(1 : Int))/\b.a.p.full (b.c (4 : Int)) i)/\a.a = b.a1/\a.f = ZFr.mk b.key b.v b.a.c.now false zLnk (-(1 : Int)) (b.c (4 : Int)) (0 : Int) (4 : Int) false (ByteArray.mk #[]) (0 : Int) ∨ a.n = 4 + b.sp (4 : Int)/\∃ i : Nat,∃ j : Nat,b.a.p.takes (b.c (4 : Int)) i j/\a.a = ZChg.enq (ZPb.chg (b.pb (4 : Int) i j b.f1))/\a.f = ZFr.mk b.key b.v b.a.c.now false zLnk (-(1 : Int)) (b.c (4 : Int)) (0 : Int) (0 : Int) false (ByteArray.mk #[]) b.a.c.now))
def TP_w19 (a : ZRun) : Prop := a.key = a.key/\a.v = a.v/\TP_w9/\TP_w1/\True
def TP_w58 (a : ZRun) : Prop := (5 : Int) = 5/\TP_w19 a
def TP_w20 (a : ZRun) (b : ZArn) (c : ZArn) : Prop := TP_w42/\TP_w58 a/\TP_w33 b c
def TP_w21 (a : ZRS) (b : ZRun) : Prop := Hd (1<=a.n/\a.n<=50/\a.n = 5 + b.b.spnN/\b.a.l.n ≠ 0/\∃ i : Nat,∃ j : Nat,b.a.p.takes (0 : Int) i j/\a.a = b.a2 (5 : Int) i j (b.sp (5 : Int))/\a.f = ZFr.mk b.key b.v b.a.c.now true b.a.l.head ((b.ln (5 : Int) i j : Nat) : Int) (0 : Int) (0 : Int) (0 : Int) false b.b.value (0 : Int))
def TP_w23 (a : ZRS) (b : ZRun) : Prop := Hd (1<=a.n/\a.n<=50/\b.v.size<=400/\(a.p : Int) < spn (b.c (4 : Int))/\a.n = 3 + a.p/\∃ i : Nat,∃ j : Nat,b.a.p.takes (b.c (4 : Int)) i j/\a.a = b.a2 (4 : Int) i j a.p/\a.f = ZFr.mk b.key b.v b.a.c.now false zLnk ((b.ln (4 : Int) i j : Nat) : Int) (b.c (4 : Int)) (a.p : Int) (0 : Int) false (ByteArray.mk #[]) (0 : Int))
def TP_w24 (a : ZFr) : Prop := false = a.found/\ByteArray.mk #[] = a.ans/\TP_w1/\TP_w1/\0 = a.aep/\True
def TP_w25 (a : ZRS) (b : ZRun) : Prop := Hd (1<=a.n/\a.n<=50/\a.n = 4 + b.b.spnN/\b.a.l.n ≠ 0/\∃ i : Nat,∃ j : Nat,b.a.p.takes (0 : Int) i j/\a.a = b.a2 (5 : Int) i j 0/\a.f = ZFr.mk b.key b.v b.a.c.now true b.a.l.head ((b.ln (5 : Int) i j : Nat) : Int) (0 : Int) (0 : Int) (0 : Int) false b.b.value (0 : Int))
def TP_w29 (a : ZFr) (b : ZStR) : Prop := TP_w1/\(0 : Int) = 0/\TP_w1/\a.code = b.f.code/\a.found = b.f.found/\a.ans = b.b.value/\TP_w48 a.aep b.f.aep
def TP_w26 (a : ZFr) (b : ZStR) : Prop := a.epoch = b.f.epoch/\TP_w9/\false = false/\(0 : Int) = 0/\a.had = true/\TP_w60 a.old.key/\a.old.id = b.b.id/\a.old.ver = b.b.ver/\a.old.line = (b.ln : Int)/\a.old.cls = b.b.cls/\a.line = b.f.line/\a.cls = b.f.cls/\a.piece = (b.p : Int) + 1/\TP_w29 a b
def TP_w27 (a : ZFr) (b : ZStR) : Prop := a.epoch = b.f.epoch/\TP_w9/\false = false/\(0 : Int) = 0/\a.had = true/\TP_w60 a.old.key/\a.old.id = b.b.id/\a.old.ver = b.b.ver/\a.old.line = (b.ln : Int)/\a.old.cls = b.b.cls/\a.line = b.f.line/\a.cls = b.f.cls/\a.piece = 1/\TP_w29 a b
def TP_w28 (a : ZFr) (b : ZRun) : Prop := a.key = b.key/\a.value = b.v/\TP_w9/\TP_w1/\(0 : Int) = 0/\a.epoch = 0/\TP_w9/\false = false/\(0 : Int) = 0/\a.had = false/\TP_w60 a.old.key/\a.old.id = 0/\a.old.ver = 0/\a.old.line = 0/\a.old.cls = 0/\a.line = (-(1 : Int))/\a.cls = 0/\a.piece = 0/\TP_w1/\(0 : Int) = 0/\TP_w1/\a.code = 0/\a.found = false/\TP_w60 a.ans/\TP_w1/\TP_w1/\a.aep = 0/\True
def TP_w31 (a : Nat) (b : Nat) : Prop := (a : Int) = (b : Int) + 1/\True
def TP_w32 (a : ZRS) (b : ZRun) : Prop := Hd (1<=a.p/\(a.p : Int) < spn b.b.cls/\a.n = 3 + a.p/\a.a = b.a1/\b.a.l.n ≠ 0/\a.f = ZFr.mk b.key b.v b.a.c.now true b.a.l.head (-(1 : Int)) (0 : Int) (a.p : Int) (0 : Int) false (ByteArray.mk #[]) (0 : Int))
def TP_w34 (a : ZFr) (b : ZStW) : Prop := a.key = b.f.key/\a.value = b.f.value/\TP_w9/\TP_w1/\(5 : Int) = 5/\a.epoch = b.f.epoch/\TP_w9/\false = false/\(0 : Int) = 0/\a.had = b.f.had/\a.old.key = b.f.old.key/\a.old.id = b.f.old.id/\a.old.ver = b.f.old.ver/\a.old.line = b.f.old.line/\a.old.cls = b.f.old.cls/\a.line = (b.ln : Int)/\a.cls = b.c/\a.piece = 0/\TP_w5 a b.f
def TP_w35 (a : ZRS) (b : ZRun) : Prop := Hd (1<=a.n/\a.n<=50/\a.n = 3 + b.b.spnN/\a.a = b.a1/\b.a.l.n ≠ 0/\∃ q : Int,a.f = ZFr.mk b.key b.v b.a.c.now true b.a.l.head (-(1 : Int)) (0 : Int) q (0 : Int) false b.b.value (0 : Int))
def TP_w41 (a : ZRS) (b : ZRun) : Prop := Hd (1<=a.n/\a.n<=50/\b.v.size<=400/\a.n = 3 + b.sp (4 : Int)/\∃ i : Nat,∃ j : Nat,b.a.p.takes (b.c (4 : Int)) i j/\a.a = b.a2 (4 : Int) i j (b.sp (4 : Int))/\a.f = ZFr.mk b.key b.v b.a.c.now false zLnk ((b.ln (4 : Int) i j : Nat) : Int) (b.c (4 : Int)) (0 : Int) (0 : Int) false (ByteArray.mk #[]) (0 : Int))
def TP_w44 (a : Nat) (b : Nat) : Prop := (a : Int) = (b : Int)
def TP_w43 (a : Nat) (b : Nat) : Prop := TP_w44 a b/\true = true/\True
def TP_w45 (a : ZPb) (b : ZFr) : Prop := a.f.old.key = b.old.key/\a.f.old.id = b.old.id/\a.f.old.ver = b.old.ver/\a.f.old.line = b.old.line/\a.f.old.cls = b.old.cls/\(a.ln : Int) = b.line/\TP_w59 a.f b
def TP_w46 (a : Nat) : Prop := I64 ((a : Int) + 1)
def TP_w49 (a : ZRS) (b : ZRun) : Prop := Hd (1<=a.n/\a.n<=50/\a.n = 1/\a.a = b.a/\a.f = f0 b.key b.v)
def TP_w51 (a : ZRS) (b : ZRun) : Prop := Hd (1<=a.n/\a.n<=50/\a.n = 3/\a.a = b.a1/\b.a.l.n ≠ 0/\a.f = ZFr.mk b.key b.v b.a.c.now true b.a.l.head (-(1 : Int)) (0 : Int) (0 : Int) (0 : Int) false (ByteArray.mk #[]) (0 : Int))
def TP_w52 (a : ZArn) (b : ZSt) : Prop := ownM a.os = ownM (ZArn.os (b.a.putR b.t (0 : Int)))/\True
def TP_w53 (a : Nat) (b : Nat) : Prop := 101 - a < 101 - b
def TP_w54 (a : ZFr) (b : ZFr) : Prop := a.piece = b.piece/\TP_w1/\(0 : Int) = 0/\TP_w1/\a.code = 4/\a.found = b.found/\a.ans = emp/\TP_w48 a.aep b.aep
def TP_w55 (a : ZArn) (b : ZStW) : Prop := ownM a.os = ownM (ZArn.os (b.a.putD b.w.d'))/\True
def TP_w57 (a : ZRun) : Prop := (4 : Int) = 4/\TP_w19 a
def beginZVC (x : ZCl) : Prop :=
 ∃ y : Unit,True/\(x.k = x.k/\x.key = x.key/\x.value = x.value/\x.to = x.to/\TP_w1/\(0 : Int) = 0/\(0 : Int) = 0/\TP_w9/\false = false/\(0 : Int) = 0/\false = false/\TP_w9/\(0 : Int) = 0/\(0 : Int) = 0/\(0 : Int) = 0/\(0 : Int) = 0/\(-(1 : Int)) = (-(1 : Int))/\(0 : Int) = 0/\(0 : Int) = 0/\TP_w1/\(0 : Int) = 0/\TP_w1/\TP_w42)/\True
theorem beginZVC_ok (x : ZCl) : beginZVC x = wpF Tryz.prog [] tt (noA x) 200 6 14 (beginZ.args x) (hO beginZ.k (beginZ.os x)) (fun v h' => endsP beginZ.k x v h' beginZ.outs) := by kernel_rfl
def runEVC (x : ZRun) : Prop :=
 (∃ s : ZRS,TP_w49 s x/\True/\((s.n : Int) = 1/\True)/\((4 : Int) = 4/\TP_w28 s.f x)/\TP_w42/\TP_w57 x/\TP_w33 s.a x.a)/\(∀ s : ZRS,TP_w49 s x->cP (decide ((s.n : Int)<=100)) (∃ x_1 : ZSt,(Hd (x_1.a.r.ok/\x_1.a.c.ok/\x_1.t < x_1.a.r.t/\x_1.a.r.has x_1.t = 0)/\True)/\(0 = 0/\TP_w44 x_1.t x.t/\((4 : Int) = 4/\x_1.f.key = s.f.key/\x_1.f.value = s.f.value/\TP_w9/\TP_w1/\(0 : Int) = 0/\TP_w15 x_1.f s.f)/\True)/\TP_w33 x_1.a s.a/\(∀ y : Unit,Hd ((4 : Int) = 4/\400 < x_1.f.value.size)->(∃ y_1 : Nat,Hd (400 < x.v.size)/\(((5 : Int) = 5/\TP_w24 x_1.f)/\TP_w43 y_1 s.n)/\TP_w33 x.a x_1.a) ∨ (∃ y_1 : Nat,TP_w47 x/\(((4 : Int) = 5/\TP_w24 x_1.f)/\TP_w43 y_1 s.n)/\TP_w33 x.a x_1.a) ∨ ∃ y_1 : Prod Nat Nat,TP_w62 x y_1/\(((0 : Int) = 5/\false = x_1.f.found/\ByteArray.mk #[] = x_1.f.ans/\TP_w48 x.a.c.now x_1.f.aep)/\((4 + x.sp (4 : Int) : Nat) : Int) = (s.n : Int)/\true = true/\True)/\ownM (ZArn.os (x.aE y_1.1 y_1.2)) = ownM x_1.a.os/\True)/\∀ y : Unit,Hd ((4 : Int) = 4->x_1.f.value.size<=400)->TP_w46 s.n/\∃ s_1 : ZRS,Hd (1<=s_1.n/\s_1.n<=50/\s_1.n = 2/\s_1.a = x.a1/\s_1.f = x.f1/\x.v.size<=400)/\TP_w53 s_1.n s.n/\TP_w31 s_1.n s.n/\((4 : Int) = 4/\s_1.f.key = x_1.f.key/\s_1.f.value = x_1.f.value/\TP_w9/\TP_w1/\(3 : Int) = 3/\s_1.f.epoch = x_1.a.c.now/\TP_w11 s_1.f x_1.f)/\TP_w42/\TP_w57 x/\ownM s_1.a.os = ownM (ZArn.os (x_1.a.putR x_1.t x_1.a.r.now))/\True) (TP_w10 x s.a))/\(∀ s : ZRS,Hd (1<=s.n/\s.n<=50/\s.n = 2/\s.a = x.a1/\s.f = x.f1/\x.v.size<=400)->cP (decide ((s.n : Int)<=100)) (∃ x_1 : ZSt,(Hd (x_1.a.p.ok/\x_1.f.value.size<=400)/\True)/\(0 = 0/\TP_w44 x_1.t x.t/\((4 : Int) = 4/\x_1.f.key = s.f.key/\x_1.f.value = s.f.value/\TP_w9/\TP_w1/\(3 : Int) = 3/\TP_w15 x_1.f s.f)/\
 True)/\TP_w33 x_1.a s.a/\(∀ y : Unit,Hd (∀ i : Nat,i < x_1.a.p.n->x_1.a.p.cls i ≠ (-(1 : Int))/\x_1.a.p.full (x_1.c (4 : Int)) i)->TP_w46 s.n/\∃ s_1 : ZRS,TP_w18 s_1 x/\TP_w53 s_1.n s.n/\TP_w31 s_1.n s.n/\((4 : Int) = 4/\s_1.f.key = x_1.f.key/\s_1.f.value = x_1.f.value/\TP_w9/\TP_w1/\(6 : Int) = 6/\s_1.f.epoch = x_1.f.epoch/\TP_w9/\false = false/\(0 : Int) = 0/\s_1.f.had = x_1.f.had/\s_1.f.old.key = x_1.f.old.key/\s_1.f.old.id = x_1.f.old.id/\s_1.f.old.ver = x_1.f.old.ver/\s_1.f.old.line = x_1.f.old.line/\s_1.f.old.cls = x_1.f.old.cls/\s_1.f.line = x_1.f.line/\s_1.f.cls = x_1.c (4 : Int)/\TP_w54 s_1.f x_1.f)/\TP_w42/\TP_w57 x/\TP_w33 s_1.a x_1.a)/\∀ y : Prod Nat Nat,Hd (x_1.a.p.takes (x_1.c (4 : Int)) y.1 y.2)->TP_w46 s.n/\∃ s_1 : ZRS,TP_w23 s_1 x/\TP_w53 s_1.n s.n/\TP_w31 s_1.n s.n/\((4 : Int) = 4/\s_1.f.key = x_1.f.key/\s_1.f.value = x_1.f.value/\TP_w9/\TP_w1/\(4 : Int) = 4/\s_1.f.epoch = x_1.f.epoch/\TP_w9/\false = false/\(0 : Int) = 0/\s_1.f.had = x_1.f.had/\s_1.f.old.key = x_1.f.old.key/\s_1.f.old.id = x_1.f.old.id/\s_1.f.old.ver = x_1.f.old.ver/\s_1.f.old.line = x_1.f.old.line/\s_1.f.old.cls = x_1.f.old.cls/\s_1.f.line = 2 + (y.1 : Int) * 8 + (y.2 : Int) * spn (x_1.c (4 : Int))/\s_1.f.cls = x_1.c (4 : Int)/\s_1.f.piece = 0/\TP_w5 s_1.f x_1.f)/\TP_w42/\TP_w57 x/\ownM s_1.a.os = ownM (ZArn.os (x_1.a.putP (x_1.a.p.take (x_1.c (4 : Int)) y.1 y.2)))/\True) (TP_w10 x s.a))/\(∀ s : ZRS,TP_w23 s x->cP (decide ((s.n : Int)<=100)) (∃ x_1 : ZStW,(Hd x_1.w.ok/\True)/\(0 = 0/\TP_w44 x_1.t x.t/\((4 : Int) = 4/\x_1.f.key = s.f.key/\x_1.f.value = s.f.value/\TP_w9/\TP_w1/\(4 : Int) = 4/\x_1.f.epoch = s.f.epoch/\TP_w9/\false = false/\(0 : Int) = 0/\x_1.f.had = s.f.had/\x_1.f.old.key = s.f.old.key/\
 x_1.f.old.id = s.f.old.id/\x_1.f.old.ver = s.f.old.ver/\x_1.f.old.line = s.f.old.line/\x_1.f.old.cls = s.f.old.cls/\(x_1.ln : Int) = s.f.line/\x_1.c = s.f.cls/\(x_1.p : Int) = s.f.piece/\TP_w5 x_1.f s.f)/\True)/\TP_w33 x_1.a s.a/\(∀ y : Unit,Hd ((x_1.p : Int) + 1 ≠ spn x_1.c)->TP_w46 s.n/\∃ s_1 : ZRS,TP_w23 s_1 x/\TP_w53 s_1.n s.n/\TP_w31 s_1.n s.n/\((4 : Int) = 4/\s_1.f.key = x_1.f.key/\s_1.f.value = x_1.f.value/\TP_w9/\TP_w1/\(4 : Int) = 4/\s_1.f.epoch = x_1.f.epoch/\TP_w9/\false = false/\(0 : Int) = 0/\s_1.f.had = x_1.f.had/\s_1.f.old.key = x_1.f.old.key/\s_1.f.old.id = x_1.f.old.id/\s_1.f.old.ver = x_1.f.old.ver/\s_1.f.old.line = x_1.f.old.line/\s_1.f.old.cls = x_1.f.old.cls/\s_1.f.line = (x_1.ln : Int)/\s_1.f.cls = x_1.c/\s_1.f.piece = (x_1.p : Int) + 1/\TP_w5 s_1.f x_1.f)/\TP_w42/\TP_w57 x/\TP_w55 s_1.a x_1)/\∀ y : Unit,Hd ((x_1.p : Int) + 1 = spn x_1.c)->TP_w46 s.n/\∃ s_1 : ZRS,TP_w41 s_1 x/\TP_w53 s_1.n s.n/\TP_w31 s_1.n s.n/\((4 : Int) = 4/\TP_w34 s_1.f x_1)/\TP_w42/\TP_w57 x/\TP_w55 s_1.a x_1) (TP_w10 x s.a))/\(∀ s : ZRS,TP_w41 s x->cP (decide ((s.n : Int)<=100)) (∃ x_1 : ZPb,Hd (x_1.chg.okE/\(∃ i : Nat,∃ j : Nat,x_1.chg.inP i j)/\∀ k : Nat,x_1.a.c.o k + 8 < 1099511627776)/\(0 = 0/\TP_w44 x_1.t x.t/\((4 : Int) = 4/\x_1.f.key = s.f.key/\x_1.f.value = s.f.value/\TP_w9/\TP_w1/\(5 : Int) = 5/\x_1.f.epoch = s.f.epoch/\TP_w9/\false = false/\(0 : Int) = 0/\false = s.f.had/\TP_w45 x_1 s.f)/\True)/\TP_w33 x_1.a s.a/\∀ y : Unit,True->TP_w46 s.n/\∃ s_1 : ZRS,TP_w18 s_1 x/\TP_w53 s_1.n s.n/\TP_w31 s_1.n s.n/\((4 : Int) = 4/\s_1.f.key = x_1.f.key/\s_1.f.value = x_1.f.value/\TP_w9/\TP_w1/\(6 : Int) = 6/\s_1.f.epoch = x_1.f.epoch/\TP_w9/\false = false/\(0 : Int) = 0/\
 s_1.f.had = false/\s_1.f.old.key = x_1.f.old.key/\s_1.f.old.id = x_1.f.old.id/\s_1.f.old.ver = x_1.f.old.ver/\s_1.f.old.line = x_1.f.old.line/\s_1.f.old.cls = x_1.f.old.cls/\s_1.f.line = (-(1 : Int))/\s_1.f.cls = x_1.f.cls/\s_1.f.piece = x_1.f.piece/\TP_w1/\(0 : Int) = 0/\TP_w1/\s_1.f.code = x_1.f.code/\s_1.f.found = false/\s_1.f.ans = x_1.f.ans/\TP_w48 s_1.f.aep x_1.f.epoch)/\TP_w42/\TP_w57 x/\ownM s_1.a.os = ownM x_1.chg.enq.os/\True) (TP_w10 x s.a))/\(∀ s : ZRS,TP_w18 s x->cP (decide ((s.n : Int)<=100)) (∃ x_1 : ZSt,(Hd (x_1.a.r.ok/\x_1.t < x_1.a.r.t)/\True)/\(0 = 0/\TP_w44 x_1.t x.t/\((4 : Int) = 4/\x_1.f.key = s.f.key/\x_1.f.value = s.f.value/\TP_w9/\TP_w1/\(6 : Int) = 6/\TP_w15 x_1.f s.f)/\True)/\TP_w33 x_1.a s.a/\∀ y : Unit,True->(∃ y_1 : Nat,Hd (400 < x.v.size)/\((5 = x_1.f.code/\TP_w24 x_1.f)/\TP_w43 y_1 s.n)/\TP_w52 x.a x_1) ∨ (∃ y_1 : Nat,TP_w47 x/\((4 = x_1.f.code/\TP_w24 x_1.f)/\TP_w43 y_1 s.n)/\TP_w52 x.a x_1) ∨ ∃ y_1 : Prod Nat Nat,TP_w62 x y_1/\((0 = x_1.f.code/\false = x_1.f.found/\ByteArray.mk #[] = x_1.f.ans/\TP_w48 x.a.c.now x_1.f.aep)/\((4 + x.sp (4 : Int) : Nat) : Int) = (s.n : Int)/\true = true/\True)/\ownM (ZArn.os (x.aE y_1.1 y_1.2)) = ownM (ZArn.os (x_1.a.putR x_1.t (0 : Int)))/\True) (TP_w10 x s.a))/\True
theorem runEVC_ok (x : ZRun) : runEVC x = wpF Tryz.prog tblRun tt (annE x) 200 6 12 ((runE (fun _ => True)).args x) (hO 1 ((runE (fun _ => True)).os x)) (fun v h' => endsP 1 x v h' (runE (fun _ => True)).outs) := by kernel_rfl
def runDVC (x : ZRun) : Prop :=
 (∃ s : ZRS,TP_w49 s x/\True/\((s.n : Int) = 1/\True)/\((5 : Int) = 5/\TP_w28 s.f x)/\TP_w42/\TP_w58 x/\TP_w33 s.a x.a)/\(∀ s : ZRS,TP_w49 s x->cP (decide ((s.n : Int)<=100)) (∃ x_1 : ZSt,(Hd (x_1.a.r.ok/\x_1.a.c.ok/\x_1.t < x_1.a.r.t/\x_1.a.r.has x_1.t = 0)/\True)/\(0 = 0/\TP_w44 x_1.t x.t/\((5 : Int) = 5/\x_1.f.key = s.f.key/\x_1.f.value = s.f.value/\TP_w9/\TP_w1/\(0 : Int) = 0/\TP_w15 x_1.f s.f)/\True)/\TP_w33 x_1.a s.a/\(∀ y : Unit,Hd ((5 : Int) = 4/\400 < x_1.f.value.size)->(∃ y_1 : Nat,Hd (x.a.l.n = 0)/\(((0 : Int) = 5/\TP_w24 x_1.f)/\TP_w43 y_1 s.n)/\TP_w33 x.a x_1.a) ∨ (∃ y_1 : Nat,TP_w50 x.a/\(((4 : Int) = 5/\TP_w24 x_1.f)/\TP_w43 y_1 s.n)/\TP_w33 x.a x_1.a) ∨ ∃ y_1 : Prod Nat Nat,Hd (x.a.l.n ≠ 0/\x.a.p.takes (0 : Int) y_1.1 y_1.2)/\(((0 : Int) = 5/\true = x_1.f.found/\x.b.value = x_1.f.ans/\TP_w48 x.a.c.now x_1.f.aep)/\((6 + x.b.spnN : Nat) : Int) = (s.n : Int)/\true = true/\True)/\ownM (ZArn.os (x.aD y_1.1 y_1.2)) = ownM x_1.a.os/\True)/\∀ y : Unit,Hd ((5 : Int) = 4->x_1.f.value.size<=400)->TP_w46 s.n/\∃ s_1 : ZRS,Hd (1<=s_1.n/\s_1.n<=50/\s_1.n = 2/\s_1.a = x.a1/\s_1.f = x.f1)/\TP_w53 s_1.n s.n/\TP_w31 s_1.n s.n/\((5 : Int) = 5/\s_1.f.key = x_1.f.key/\s_1.f.value = x_1.f.value/\TP_w9/\TP_w1/\(1 : Int) = 1/\s_1.f.epoch = x_1.a.c.now/\TP_w11 s_1.f x_1.f)/\TP_w42/\TP_w58 x/\ownM s_1.a.os = ownM (ZArn.os (x_1.a.putR x_1.t x_1.a.r.now))/\True) (TP_w3 x s.a))/\(∀ s : ZRS,Hd (1<=s.n/\s.n<=50/\s.n = 2/\s.a = x.a1/\s.f = x.f1)->cP (decide ((s.n : Int)<=100)) (∃ x_1 : ZSt,(Hd (x_1.a.l.ok/\x_1.f.line = (-(1 : Int)))/\True)/\(0 = 0/\TP_w44 x_1.t x.t/\((5 : Int) = 5/\x_1.f.key = s.f.key/\x_1.f.value = s.f.value/\TP_w9/\TP_w1/\(1 : Int) = 1/\TP_w15 x_1.f s.f)/\True)/\
 TP_w33 x_1.a s.a/\(∀ y : Unit,Hd (x_1.a.l.n = 0)->TP_w46 s.n/\∃ s_1 : ZRS,TP_w17 s_1 x/\TP_w53 s_1.n s.n/\TP_w31 s_1.n s.n/\((5 : Int) = 5/\s_1.f.key = x_1.f.key/\s_1.f.value = x_1.f.value/\TP_w9/\TP_w1/\(6 : Int) = 6/\s_1.f.epoch = x_1.f.epoch/\TP_w9/\false = false/\(0 : Int) = 0/\s_1.f.had = false/\TP_w60 s_1.f.old.key/\s_1.f.old.id = 0/\s_1.f.old.ver = 0/\s_1.f.old.line = 0/\s_1.f.old.cls = 0/\s_1.f.line = x_1.f.line/\TP_w59 s_1.f x_1.f)/\TP_w20 x s_1.a x_1.a)/\∀ y : Unit,Hd (x_1.a.l.n ≠ 0)->TP_w46 s.n/\∃ s_1 : ZRS,TP_w51 s_1 x/\TP_w53 s_1.n s.n/\TP_w31 s_1.n s.n/\((5 : Int) = 5/\s_1.f.key = x_1.f.key/\s_1.f.value = x_1.f.value/\TP_w9/\TP_w1/\(2 : Int) = 2/\s_1.f.epoch = x_1.f.epoch/\TP_w9/\false = false/\(0 : Int) = 0/\s_1.f.had = true/\s_1.f.old.key = x_1.a.l.head.key/\s_1.f.old.id = x_1.a.l.head.id/\s_1.f.old.ver = x_1.a.l.head.ver/\s_1.f.old.line = x_1.a.l.head.line/\s_1.f.old.cls = x_1.a.l.head.cls/\s_1.f.line = x_1.f.line/\s_1.f.cls = x_1.f.cls/\s_1.f.piece = 0/\TP_w5 s_1.f x_1.f)/\TP_w20 x s_1.a x_1.a) (TP_w3 x s.a))/\(∀ s : ZRS,TP_w51 s x->cP (decide ((s.n : Int)<=100)) (∃ x_1 : ZStR,(Hd (x_1.w.ok/\x_1.p = 0)/\True)/\(0 = 0/\TP_w44 x_1.t x.t/\((5 : Int) = 5/\x_1.f.key = s.f.key/\x_1.f.value = s.f.value/\TP_w9/\TP_w1/\(2 : Int) = 2/\x_1.f.epoch = s.f.epoch/\TP_w9/\false = false/\(0 : Int) = 0/\true = s.f.had/\ByteArray.mk #[] = s.f.old.key/\x_1.b.id = s.f.old.id/\x_1.b.ver = s.f.old.ver/\(x_1.ln : Int) = s.f.old.line/\x_1.b.cls = s.f.old.cls/\x_1.f.line = s.f.line/\x_1.f.cls = s.f.cls/\0 = s.f.piece/\TP_w5 x_1.f s.f)/\True)/\TP_w33 x_1.a s.a/\(∀ y : Unit,Hd ((1 : Int) ≠ spn x_1.b.cls)->TP_w46 s.n/\∃ s_1 : ZRS,TP_w32 s_1 x/\TP_w53 s_1.n s.n/\TP_w31 s_1.n s.n/\
 (64 * s_1.p = 64/\∀ q : Nat,q < 64 * s_1.p->[Value.int .u8 (x.b.enc q)] = [Value.int .u8 (x_1.b.enc q)])/\((5 : Int) = 5/\s_1.f.key = x_1.f.key/\s_1.f.value = x_1.f.value/\TP_w9/\TP_w1/\(2 : Int) = 2/\s_1.f.epoch = x_1.f.epoch/\TP_w9/\false = false/\(0 : Int) = 0/\s_1.f.had = true/\TP_w60 s_1.f.old.key/\s_1.f.old.id = x_1.b.id/\s_1.f.old.ver = x_1.b.ver/\s_1.f.old.line = (x_1.ln : Int)/\s_1.f.old.cls = x_1.b.cls/\s_1.f.line = x_1.f.line/\s_1.f.cls = x_1.f.cls/\s_1.f.piece = 1/\(0 = 0/\64 * s_1.p = 64)/\TP_w6 s_1.f x_1.f)/\TP_w20 x s_1.a x_1.a)/\(∀ y : Unit,Hd (1 = spn x_1.b.cls/\x_1.f.line < 0)->TP_w46 s.n/\∃ s_1 : ZRS,TP_w35 s_1 x/\TP_w53 s_1.n s.n/\TP_w31 s_1.n s.n/\((5 : Int) = 5/\s_1.f.key = x_1.f.key/\s_1.f.value = x_1.f.value/\TP_w9/\TP_w1/\(3 : Int) = 3/\TP_w27 s_1.f x_1)/\TP_w20 x s_1.a x_1.a)/\∀ y : Unit,Hd (1 = spn x_1.b.cls/\0<=x_1.f.line)->TP_w46 s.n/\∃ s_1 : ZRS,TP_w21 s_1 x/\TP_w53 s_1.n s.n/\TP_w31 s_1.n s.n/\((5 : Int) = 5/\s_1.f.key = x_1.f.key/\s_1.f.value = x_1.f.value/\TP_w9/\TP_w1/\(5 : Int) = 5/\TP_w27 s_1.f x_1)/\TP_w20 x s_1.a x_1.a) (TP_w3 x s.a))/\(∀ s : ZRS,TP_w32 s x->cP (decide ((s.n : Int)<=100)) (∃ x_1 : ZStR,(Hd (x_1.w.ok/\x_1.p ≠ 0)/\True)/\(0 = 0/\TP_w44 x_1.t x.t/\((5 : Int) = 5/\x_1.f.key = s.f.key/\x_1.f.value = s.f.value/\TP_w9/\TP_w1/\(2 : Int) = 2/\x_1.f.epoch = s.f.epoch/\TP_w9/\false = false/\(0 : Int) = 0/\true = s.f.had/\ByteArray.mk #[] = s.f.old.key/\x_1.b.id = s.f.old.id/\x_1.b.ver = s.f.old.ver/\(x_1.ln : Int) = s.f.old.line/\x_1.b.cls = s.f.old.cls/\x_1.f.line = s.f.line/\x_1.f.cls = s.f.cls/\(x_1.p : Int) = s.f.piece/\(0 = 0/\64 * x_1.p = 64 * s.p)/\TP_w6 x_1.f s.f)/\True)/\(ownM x_1.a.os = ownM s.a.os/\(64 * x_1.p = 64 * s.p/\
 ∀ q : Nat,q < 64 * x_1.p->[Value.int .u8 (x_1.b.enc q)] = [Value.int .u8 (x.b.enc q)])/\True)/\(∀ y : Unit,Hd ((x_1.p : Int) + 1 ≠ spn x_1.b.cls)->TP_w46 s.n/\∃ s_1 : ZRS,TP_w32 s_1 x/\TP_w53 s_1.n s.n/\TP_w31 s_1.n s.n/\(64 * s_1.p = 64 * (x_1.p + 1)/\∀ q : Nat,q < 64 * s_1.p->[Value.int .u8 (x.b.enc q)] = [Value.int .u8 (x_1.b.enc q)])/\((5 : Int) = 5/\s_1.f.key = x_1.f.key/\s_1.f.value = x_1.f.value/\TP_w9/\TP_w1/\(2 : Int) = 2/\s_1.f.epoch = x_1.f.epoch/\TP_w9/\false = false/\(0 : Int) = 0/\s_1.f.had = true/\TP_w60 s_1.f.old.key/\s_1.f.old.id = x_1.b.id/\s_1.f.old.ver = x_1.b.ver/\s_1.f.old.line = (x_1.ln : Int)/\s_1.f.old.cls = x_1.b.cls/\s_1.f.line = x_1.f.line/\s_1.f.cls = x_1.f.cls/\s_1.f.piece = (x_1.p : Int) + 1/\(0 = 0/\64 * s_1.p = 64 * (x_1.p + 1))/\TP_w6 s_1.f x_1.f)/\TP_w20 x s_1.a x_1.a)/\(∀ y : Unit,Hd ((x_1.p : Int) + 1 = spn x_1.b.cls/\x_1.f.line < 0)->TP_w46 s.n/\∃ s_1 : ZRS,TP_w35 s_1 x/\TP_w53 s_1.n s.n/\TP_w31 s_1.n s.n/\((5 : Int) = 5/\s_1.f.key = x_1.f.key/\s_1.f.value = x_1.f.value/\TP_w9/\TP_w1/\(3 : Int) = 3/\TP_w26 s_1.f x_1)/\TP_w20 x s_1.a x_1.a)/\∀ y : Unit,Hd ((x_1.p : Int) + 1 = spn x_1.b.cls/\0<=x_1.f.line)->TP_w46 s.n/\∃ s_1 : ZRS,TP_w21 s_1 x/\TP_w53 s_1.n s.n/\TP_w31 s_1.n s.n/\((5 : Int) = 5/\s_1.f.key = x_1.f.key/\s_1.f.value = x_1.f.value/\TP_w9/\TP_w1/\(5 : Int) = 5/\TP_w26 s_1.f x_1)/\TP_w20 x s_1.a x_1.a) (TP_w3 x s.a))/\(∀ s : ZRS,TP_w35 s x->cP (decide ((s.n : Int)<=100)) (∃ x_1 : ZSt,(Hd (x_1.a.p.ok/\x_1.f.value.size<=400)/\True)/\(0 = 0/\TP_w44 x_1.t x.t/\((5 : Int) = 5/\x_1.f.key = s.f.key/\x_1.f.value = s.f.value/\TP_w9/\TP_w1/\(3 : Int) = 3/\TP_w15 x_1.f s.f)/\True)/\TP_w33 x_1.a s.a/\
 (∀ y : Unit,Hd (∀ i : Nat,i < x_1.a.p.n->x_1.a.p.cls i ≠ (-(1 : Int))/\x_1.a.p.full (x_1.c (5 : Int)) i)->TP_w46 s.n/\∃ s_1 : ZRS,TP_w17 s_1 x/\TP_w53 s_1.n s.n/\TP_w31 s_1.n s.n/\((5 : Int) = 5/\s_1.f.key = x_1.f.key/\s_1.f.value = x_1.f.value/\TP_w9/\TP_w1/\(6 : Int) = 6/\s_1.f.epoch = x_1.f.epoch/\TP_w9/\false = false/\(0 : Int) = 0/\s_1.f.had = x_1.f.had/\s_1.f.old.key = x_1.f.old.key/\s_1.f.old.id = x_1.f.old.id/\s_1.f.old.ver = x_1.f.old.ver/\s_1.f.old.line = x_1.f.old.line/\s_1.f.old.cls = x_1.f.old.cls/\s_1.f.line = x_1.f.line/\s_1.f.cls = x_1.c (5 : Int)/\TP_w54 s_1.f x_1.f)/\TP_w20 x s_1.a x_1.a)/\∀ y : Prod Nat Nat,Hd (x_1.a.p.takes (x_1.c (5 : Int)) y.1 y.2)->TP_w46 s.n/\∃ s_1 : ZRS,TP_w25 s_1 x/\TP_w53 s_1.n s.n/\TP_w31 s_1.n s.n/\((5 : Int) = 5/\s_1.f.key = x_1.f.key/\s_1.f.value = x_1.f.value/\TP_w9/\TP_w1/\(4 : Int) = 4/\s_1.f.epoch = x_1.f.epoch/\TP_w9/\false = false/\(0 : Int) = 0/\s_1.f.had = x_1.f.had/\s_1.f.old.key = x_1.f.old.key/\s_1.f.old.id = x_1.f.old.id/\s_1.f.old.ver = x_1.f.old.ver/\s_1.f.old.line = x_1.f.old.line/\s_1.f.old.cls = x_1.f.old.cls/\s_1.f.line = 2 + (y.1 : Int) * 8 + (y.2 : Int) * spn (x_1.c (5 : Int))/\s_1.f.cls = x_1.c (5 : Int)/\s_1.f.piece = 0/\TP_w5 s_1.f x_1.f)/\TP_w42/\TP_w58 x/\ownM s_1.a.os = ownM (ZArn.os (x_1.a.putP (x_1.a.p.take (x_1.c (5 : Int)) y.1 y.2)))/\True) (TP_w3 x s.a))/\(∀ s : ZRS,TP_w25 s x->cP (decide ((s.n : Int)<=100)) (∃ x_1 : ZStW,(Hd (x_1.w.ok/\x_1.p = 0)/\True)/\(0 = 0/\TP_w44 x_1.t x.t/\((5 : Int) = 5/\x_1.f.key = s.f.key/\x_1.f.value = s.f.value/\TP_w9/\TP_w1/\(4 : Int) = 4/\x_1.f.epoch = s.f.epoch/\TP_w9/\false = false/\(0 : Int) = 0/\x_1.f.had = s.f.had/\x_1.f.old.key = s.f.old.key/\x_1.f.old.id = s.f.old.id/\
 x_1.f.old.ver = s.f.old.ver/\x_1.f.old.line = s.f.old.line/\x_1.f.old.cls = s.f.old.cls/\(x_1.ln : Int) = s.f.line/\x_1.c = s.f.cls/\0 = s.f.piece/\TP_w5 x_1.f s.f)/\True)/\TP_w33 x_1.a s.a/\(∀ y : Unit,Hd ((1 : Int) ≠ spn x_1.c)->TP_w46 s.n/\∃ s_1 : ZRS,TP_w25 s_1 x/\TP_w53 s_1.n s.n/\TP_w31 s_1.n s.n/\((5 : Int) = 5/\s_1.f.key = x_1.f.key/\s_1.f.value = x_1.f.value/\TP_w9/\TP_w1/\(4 : Int) = 4/\s_1.f.epoch = x_1.f.epoch/\TP_w9/\false = false/\(0 : Int) = 0/\s_1.f.had = x_1.f.had/\s_1.f.old.key = x_1.f.old.key/\s_1.f.old.id = x_1.f.old.id/\s_1.f.old.ver = x_1.f.old.ver/\s_1.f.old.line = x_1.f.old.line/\s_1.f.old.cls = x_1.f.old.cls/\s_1.f.line = (x_1.ln : Int)/\s_1.f.cls = x_1.c/\s_1.f.piece = 1/\TP_w5 s_1.f x_1.f)/\TP_w42/\TP_w58 x/\TP_w55 s_1.a x_1)/\∀ y : Unit,Hd (1 = spn x_1.c)->TP_w46 s.n/\∃ s_1 : ZRS,TP_w21 s_1 x/\TP_w53 s_1.n s.n/\TP_w31 s_1.n s.n/\((5 : Int) = 5/\TP_w34 s_1.f x_1)/\TP_w42/\TP_w58 x/\TP_w55 s_1.a x_1) (TP_w3 x s.a))/\(∀ s : ZRS,TP_w21 s x->cP (decide ((s.n : Int)<=100)) (∃ x_1 : ZPb,Hd (x_1.chg.okD/\(∃ i : Nat,∃ j : Nat,x_1.chg.inP i j)/\0<=x_1.a.id/\x_1.a.id < 1152921504606846976/\x_1.a.n ≠ 0)/\(0 = 0/\TP_w44 x_1.t x.t/\((5 : Int) = 5/\x_1.f.key = s.f.key/\x_1.f.value = s.f.value/\TP_w9/\TP_w1/\(5 : Int) = 5/\x_1.f.epoch = s.f.epoch/\TP_w9/\false = false/\(0 : Int) = 0/\true = s.f.had/\TP_w45 x_1 s.f)/\True)/\TP_w33 x_1.a s.a/\∀ y : Unit,True->TP_w46 s.n/\∃ s_1 : ZRS,TP_w17 s_1 x/\TP_w53 s_1.n s.n/\TP_w31 s_1.n s.n/\((5 : Int) = 5/\s_1.f.key = x_1.f.key/\s_1.f.value = x_1.f.value/\TP_w9/\TP_w1/\(6 : Int) = 6/\s_1.f.epoch = x_1.f.epoch/\TP_w9/\false = false/\(0 : Int) = 0/\s_1.f.had = true/\s_1.f.old.key = x_1.f.old.key/\
 s_1.f.old.id = x_1.f.old.id/\s_1.f.old.ver = x_1.f.old.ver/\s_1.f.old.line = x_1.f.old.line/\s_1.f.old.cls = x_1.f.old.cls/\s_1.f.line = (-(1 : Int))/\s_1.f.cls = x_1.f.cls/\s_1.f.piece = x_1.f.piece/\TP_w1/\(0 : Int) = 0/\TP_w1/\s_1.f.code = x_1.f.code/\s_1.f.found = true/\s_1.f.ans = x_1.f.ans/\TP_w48 s_1.f.aep x_1.f.epoch)/\TP_w42/\TP_w58 x/\ownM s_1.a.os = ownM x_1.chg.deq.os/\True) (TP_w3 x s.a))/\(∀ s : ZRS,TP_w17 s x->cP (decide ((s.n : Int)<=100)) (∃ x_1 : ZSt,(Hd (x_1.a.r.ok/\x_1.t < x_1.a.r.t)/\True)/\(0 = 0/\TP_w44 x_1.t x.t/\((5 : Int) = 5/\x_1.f.key = s.f.key/\x_1.f.value = s.f.value/\TP_w9/\TP_w1/\(6 : Int) = 6/\TP_w15 x_1.f s.f)/\True)/\TP_w33 x_1.a s.a/\∀ y : Unit,True->(∃ y_1 : Nat,Hd (x.a.l.n = 0)/\((0 = x_1.f.code/\TP_w24 x_1.f)/\TP_w43 y_1 s.n)/\TP_w52 x.a x_1) ∨ (∃ y_1 : Nat,TP_w50 x.a/\((4 = x_1.f.code/\TP_w24 x_1.f)/\TP_w43 y_1 s.n)/\TP_w52 x.a x_1) ∨ ∃ y_1 : Prod Nat Nat,Hd (x.a.l.n ≠ 0/\x.a.p.takes (0 : Int) y_1.1 y_1.2)/\((0 = x_1.f.code/\true = x_1.f.found/\x.b.value = x_1.f.ans/\TP_w48 x.a.c.now x_1.f.aep)/\((6 + x.b.spnN : Nat) : Int) = (s.n : Int)/\true = true/\True)/\ownM (ZArn.os (x.aD y_1.1 y_1.2)) = ownM (ZArn.os (x_1.a.putR x_1.t (0 : Int)))/\True) (TP_w3 x s.a))/\True
theorem runDVC_ok (x : ZRun) : runDVC x = wpF Tryz.prog tblRun tt (annD x) 200 6 12 ((runD (fun _ => True)).args x) (hO 1 ((runD (fun _ => True)).os x)) (fun v h' => endsP 1 x v h' (runD (fun _ => True)).outs) := by kernel_rfl
end Go.Proofs.YtpnhfbegboogbaaGreat
end
section
namespace Go.Proofs.YtpnhfbegboogbaaGreat
open Go SE
def cnt8 (f : Nat->Bool) : Nat->Nat
 | 0 => 0
 | n + 1 => cnt8 f n + (bif f n then 1 else 0)
theorem cnt8_le (f : Nat->Bool) : ∀ n,cnt8 f n<=n
 | 0 => Nat.le_refl _
 | n + 1 => by
  have := cnt8_le f n
  simp only [cnt8]
  cases f n <;> simp <;> omega
theorem cnt8_lt {f : Nat->Bool} {k : Nat} (hf : f k = false) : ∀ {n},k < n->cnt8 f n < n
 | n + 1,h => by
  simp only [cnt8]
  by_cases e : k = n
  ·subst e; rw [hf]; have := cnt8_le f k; simp; omega
  ·have := cnt8_lt hf (n := n) (by omega)
   cases f n <;> simp <;> omega
theorem cnt8_congr {f g : Nat->Bool} : ∀ {n},(∀ k,k < n->f k = g k)->cnt8 f n = cnt8 g n
 | 0,_ => rfl
 | n + 1,h => by simp only [cnt8]; rw [cnt8_congr fun k hk => h k (by omega),h n (by omega)]
theorem cnt8_set {f : Nat->Bool} {k : Nat} (hf : f k = false) : ∀ {n},k < n->cnt8 (fun q => if q = k then true else f q) n = cnt8 f n + 1
 | n + 1,h => by
  simp only [cnt8]
  by_cases e : k = n
  ·subst e
   rw [cnt8_congr (g := f) fun q hq => if_neg (by omega),hf]; simp
  ·rw [cnt8_set hf (n := n) (by omega),if_neg (by omega)]; omega
theorem cnt8_none {f : Nat->Bool} (h : ∀ k,f k = false) : ∀ n,cnt8 f n = 0
 | 0 => rfl
 | n + 1 => by simp only [cnt8,h,cnt8_none h n]; rfl
namespace ZPool
def at_ (p : ZPool) (L : Int) (i j : Nat) : Prop := i < p.n/\0<=p.cls i/\j < many (p.cls i)/\p.tk i j = true/\L = 2 + i * 8 + j * spn (p.cls i)
def has (p : ZPool) (L : Int) : Prop := ∃ i j,p.at_ L i j
def good (p : ZPool) : Prop := p.ok/\∀ i,i < p.n->(p.cls i = -1->∀ k,p.tk i k = false)/\(∀ k,p.tk i k = true->k < many (p.cls i))/\p.cnt i = (cnt8 (p.tk i) 8 : Nat)
end ZPool
theorem takes_free {p : ZPool} (hp : p.good) {c : Int} {i k : Nat} (h : p.takes c i k) : i < p.n/\k < ZPool.many c/\p.tk i k = false/\(p.cls i = c ∨ p.cls i = -1) := by
 obtain ⟨h1,h2,h3,h4⟩ := h
 refine ⟨h1,h2,?_,?_⟩
 ·rcases h4 with ⟨h4,_⟩ | ⟨h4,_⟩
  ·rw [if_pos h4] at h3; exact h3
  ·exact (hp.2 i h1).1 h4 k
 ·rcases h4 with ⟨h4,_⟩ | ⟨h4,_⟩
  ·exact .inl h4
  ·exact .inr h4
theorem many_le (c : Int) : ZPool.many c<=8 := by rcases many_cases c with h | h | h | h | h <;> omega
theorem take_good {p : ZPool} (hp : p.good) {c : Int} (hc : 0<=c/\c<=3) {i k : Nat} (h : p.takes c i k) : (p.take c i k).good := by
 obtain ⟨h1,h2,h3,h4⟩ := takes_free hp h
 obtain ⟨⟨o1,o2,o3⟩,hg⟩ := hp
 have hm := many_le c
 have hlt : cnt8 (p.tk i) 8 < 8 := cnt8_lt h3 (by omega)
 refine ⟨⟨o1,o2,fun j hj => ?_⟩,fun j hj => ?_⟩
 ·have hj' : j < p.n := hj
  have a1 := o3 j hj'
  have a2 := (hg j hj').2.2
  by_cases e : j = i
  ·subst e
   refine ⟨by show -1<=(if j = j then c else _); rw [if_pos rfl]; omega,by show (if j = j then c else _)<=3; rw [if_pos rfl]; omega,by show 0<=(if j = j then p.cnt j + 1 else _); rw [if_pos rfl]; omega,by show (if j = j then p.cnt j + 1 else _)<=8; rw [if_pos rfl]; omega⟩
  ·refine ⟨by show -1<=(if j = i then c else p.cls j); rw [if_neg e]; omega,by show (if j = i then c else p.cls j)<=3; rw [if_neg e]; omega,by show 0<=(if j = i then p.cnt j + 1 else p.cnt j); rw [if_neg e]; omega,by show (if j = i then p.cnt j + 1 else p.cnt j)<=8; rw [if_neg e]; omega⟩
 ·have hj' : j < p.n := hj
  have a2 := hg j hj'
  by_cases e : j = i
  ·subst e
   refine ⟨fun hh => ?_,fun q hq => ?_,?_⟩
   ·have : (if j = j then c else p.cls j) = -1 := hh
    rw [if_pos rfl] at this; omega
   ·have hq : (if j = j/\q = k then true else p.tk j q) = true := hq
    show q < ZPool.many (if j = j then c else p.cls j)
    rw [if_pos rfl]
    by_cases eq : q = k
    ·omega
    ·rw [if_neg (fun hh => eq hh.2)] at hq
     have := a2.2.1 q hq
     rcases h4 with h4 | h4
     ·rwa [h4] at this
     ·rw [a2.1 h4 q] at hq; cases hq
   ·show (if j = j then p.cnt j + 1 else p.cnt j) = (cnt8 (fun q => if j = j/\q = k then true else p.tk j q) 8 : Nat)
    have e1 : cnt8 (fun q => if j = j/\q = k then true else p.tk j q) 8 = cnt8 (p.tk j) 8 + 1 := by
     rw [← cnt8_set h3 (show k < 8 by omega)]
     exact cnt8_congr fun q _ => by by_cases e : q = k <;> simp [e]
    rw [if_pos rfl,a2.2.2,e1]
    omega
  ·refine ⟨fun hh q => ?_,fun q hq => ?_,?_⟩
   ·have hh : (if j = i then c else p.cls j) = -1 := hh
    rw [if_neg e] at hh
    show (if j = i/\q = k then true else p.tk j q) = false
    rw [if_neg (fun h => e h.1)]; exact a2.1 hh q
   ·have hq : (if j = i/\q = k then true else p.tk j q) = true := hq
    rw [if_neg (fun h => e h.1)] at hq
    show q < ZPool.many (if j = i then c else p.cls j)
    rw [if_neg e]; exact a2.2.1 q hq
   ·show (if j = i then p.cnt j + 1 else p.cnt j) = (cnt8 (fun q => if j = i/\q = k then true else p.tk j q) 8 : Nat)
    rw [if_neg e,a2.2.2,cnt8_congr (g := p.tk j) (fun q _ => if_neg (fun h => e h.1))]
theorem at_apart {p : ZPool} (hp : p.good) {c : Int} (hc : 0<=c/\c<=3) {i k : Nat} (h : p.takes c i k) {L : Int} {i' j' : Nat} (hL : p.at_ L i' j') : L + spn (p.cls i')<=2 + i * 8 + k * spn c ∨ 2 + i * 8 + k * spn c + spn c<=L := by
 obtain ⟨h1,h2,h3,h4⟩ := takes_free hp h
 obtain ⟨a1,a2,a3,a4,rfl⟩ := hL
 have a5 := (hp.1.2.2 i' a1).2.1
 by_cases e : i' = i
 ·subst e
  have hcc : p.cls i' = c := by
   rcases h4 with h4 | h4
   ·exact h4
   ·omega
  rw [hcc] at a3 ⊢
  have hne : j' ≠ k := fun e => by subst e; rw [h3] at a4; cases a4
  rcases many_cases c with m | m | m | m | m <;> obtain ⟨m1,m2,m3⟩ := m <;> rw [m2] <;> omega
 ·rcases many_cases c with m | m | m | m | m <;> rcases many_cases (p.cls i') with m' | m' | m' | m' | m' <;> obtain ⟨m1,m2,m3⟩ := m <;> obtain ⟨m1',m2',m3'⟩ := m' <;> rw [m2,m2'] <;> omega
theorem fresh_no {p : ZPool} (hp : p.good) {c : Int} (hc : 0<=c/\c<=3) {i k : Nat} (h : p.takes c i k) : ¬ p.has (2 + i * 8 + k * spn c) := fun ⟨i',j',hL⟩ => by
 have h1 := at_apart hp hc h hL
 have h2 := spn_ne hc
 have h3 := spn_ne ⟨hL.2.1,(hp.1.2.2 i' hL.1).2.1⟩
 have s1 := spn_cases c
 have s2 := spn_cases (p.cls i')
 omega
theorem at_take {p : ZPool} (hp : p.good) {c : Int} {i k : Nat} (h : p.takes c i k) {L : Int} {i' j' : Nat} (hL : p.at_ L i' j') : (p.take c i k).at_ L i' j'/\(p.take c i k).cls i' = p.cls i' := by
 obtain ⟨h1,h2,h3,h4⟩ := takes_free hp h
 obtain ⟨a1,a2,a3,a4,a5⟩ := hL
 have hcl : (p.take c i k).cls i' = p.cls i' := by
  show (if i' = i then c else p.cls i') = _
  split
  ·rename_i e
   subst e
   rcases h4 with h4 | h4
   ·exact h4.symm
   ·omega
  ·rfl
 refine ⟨⟨a1,by rw [hcl]; exact a2,by rw [hcl]; exact a3,?_,by rw [hcl]; exact a5⟩,hcl⟩
 show (if i' = i/\j' = k then true else p.tk i' j') = true
 split
 ·rfl
 ·exact a4
theorem at_new {p : ZPool} (hp : p.good) {c : Int} (hc : 0<=c) {i k : Nat} (h : p.takes c i k) : (p.take c i k).at_ (2 + i * 8 + k * spn c) i k/\(p.take c i k).cls i = c := by
 obtain ⟨h1,h2,h3,h4⟩ := takes_free hp h
 have hcl : (p.take c i k).cls i = c := if_pos rfl
 refine ⟨⟨h1,by rw [hcl]; exact hc,by rw [hcl]; exact h2,if_pos ⟨rfl,rfl⟩,by rw [hcl]⟩,hcl⟩
end Go.Proofs.YtpnhfbegboogbaaGreat
end
section
namespace Go.Proofs.YtpnhfbegboogbaaGreat
open Go SE
set_option linter.unusedSimpArgs false
structure GoodA (a : ZArn) (t : Nat) : Prop where
 dok : a.d.ok
 dst : a.d.st + 20 < 1099511627776
 rok : a.r.ok
 cok : a.c.ok
 tc : t < a.c.t
 tr : t < a.r.t
 out : a.r.has t = 0
 pg : a.p.good
 fit : 2 + a.p.n * 8<=a.d.n
 bok : a.b.ok
 lok : a.l.ok
 ln : a.l.n < 1099511627776
 id0 : 0<=a.id
 id1 : a.id < 1152921504606846976
 v0 : 0<=a.ver
 v1 : a.ver < 1152921504606846976
 nn : a.n < 1099511627776
 now0 : 1<=a.c.now
 now1 : a.c.now<=2305843009213693952
 owed : ∀ k,a.c.o k + 8 < 1099511627776
 used : ∀ L : Int,2<=L->(ZUse.inL ⟨a.b,a.l,L⟩ ∨ ZUse.inB ⟨a.b,a.l,L⟩)->a.p.has L
theorem putR_back {a : ZArn} {t : Nat} (h : a.r.has t = 0) (v : Int) : (a.putR t v).putR t 0 = a := by
 obtain ⟨d,p,r,c,b,l,id,ver,n,e⟩ := a
 obtain ⟨rt,rn,rh⟩ := r
 have h : rh t = 0 := h
 have : (fun j => if j = t then (0 : Int) else if j = t then v else rh j) = rh := by
  funext j
  by_cases e : j = t
  ·rw [if_pos e,e,h]
  ·rw [if_neg e,if_neg e]
 simp only [ZArn.putR,ZRd.put,this]
theorem takes_line {p : ZPool} (hp : p.good) {c : Int} (hc : 0<=c/\c<=3) {i j : Nat} (h : p.takes c i j) : ((2 + i * 8 + j * (spn c).toNat : Nat) : Int) = 2 + i * 8 + j * spn c/\2 + i * 8 + j * (spn c).toNat + (spn c).toNat<=2 + p.n * 8 := by
 obtain ⟨h1,h2,_,_⟩ := takes_free hp h
 rcases many_cases c with m | m | m | m | m <;> obtain ⟨m1,m2,m3⟩ := m <;> rw [m2] <;> simp only [show Int.toNat 1 = 1 from rfl,show Int.toNat 2 = 2 from rfl,show Int.toNat 4 = 4 from rfl,show Int.toNat 8 = 8 from rfl,show Int.toNat 0 = 0 from rfl] <;> omega
def ZRun.fW (x : ZRun) (k : Int) (i j p : Nat) : ZFr := { x.f1 with line := x.ln k i j,cls := x.c k,piece := (p : Int) }
section
variable {x : ZRun}
theorem dW_ok (g : GoodA x.a x.t) (hv : x.v.size<=400) (k : Int) (hc : 0<=x.c k/\x.c k<=3) (i j : Nat) : ∀ p,p<=8->(x.dW k i j p).ok/\(x.dW k i j p).n = x.a.d.n/\(x.dW k i j p).st = x.a.d.st + p
 | 0,_ => ⟨g.dok,rfl,by show x.a.d.st = x.a.d.st + ((0 : Nat) : Int); omega⟩
 | p + 1,hp => by
  obtain ⟨h1,h2,h3⟩ := dW_ok g hv k hc i j p (by omega)
  have := g.dst
  show (ZWr.d' ⟨x.dW k i j p,x.t,x.f1,x.ln k i j,x.c k,p⟩).ok/\_
  show _/\(ZWr.d' ⟨x.dW k i j p,x.t,x.f1,x.ln k i j,x.c k,p⟩).n = _/\(ZWr.d' ⟨x.dW k i j p,x.t,x.f1,x.ln k i j,x.c k,p⟩).st = _
  unfold ZWr.d'
  by_cases e : p = 0
  ·simp only [e,if_true]
   subst e
   exact ⟨DevM.store_good h1 _ _ _ (draft_u8 hc) (by omega),h2,by show (x.dW k i j 0).st + 1 = _; omega⟩
  ·simp only [e,if_false]
   exact ⟨DevM.store_good h1 _ _ _ (fun q => enc_hi _ (by omega)) (by omega),h2,by show (x.dW k i j p).st + 1 = _; omega⟩
theorem c4_ok (hv : x.v.size<=400) : 0<=x.c 4/\x.c 4<=3 := by
 rw [show x.c 4 = ned x.v.size from if_pos rfl]; exact ned_ok hv
theorem spn0_lt {c : Int} (h : 0<=c/\c<=3) : ((0 : Nat) : Int) < spn c := by
 rcases spn_cases c with h' | h' | h' | h' | h' <;> omega
theorem blk_may (g : GoodA x.a x.t) (hv : x.v.size<=400) (i j : Nat) : (x.pb 4 i j x.f1).chg.blk.may := by
 have hc : x.c 4 = ned x.v.size := if_pos rfl
 have := g.id0; have := g.id1; have := g.v0; have := g.v1; have := g.now0; have := g.now1
 refine ⟨spn_ne (by show 0<=x.c 4/\x.c 4<=3; rw [hc]; exact ned_ok hv),.inr (.inr (.inl ⟨rfl,rfl,hv,?_,?_,?_,?_⟩))⟩
 ·show ned ((0 + x.v.size : Nat) : Int) = x.c 4
  rw [hc,Nat.zero_add]
 ·show 1<=x.a.id + 1/\x.a.id + 1<=2305843009213693952; omega
 ·show 1<=x.a.ver + 1/\x.a.ver + 1<=2305843009213693952; omega
 ·show 1<=x.a.c.now/\x.a.c.now<=2305843009213693952; omega
theorem enq_pre (g : GoodA x.a x.t) (hv : x.v.size<=400) {i j : Nat} (h : x.a.p.takes (x.c 4) i j) : (x.pb 4 i j x.f1).chg.okE/\(∃ i' j',(x.pb 4 i j x.f1).chg.inP i' j')/\∀ k,(x.pb 4 i j x.f1).a.c.o k + 8 < 1099511627776 := by
 have hc : 0<=x.c 4/\x.c 4<=3 := by rw [show x.c 4 = ned x.v.size from if_pos rfl]; exact ned_ok hv
 have hs := spn_cases (x.c 4)
 obtain ⟨l1,l2⟩ := takes_line g.pg hc h
 obtain ⟨d1,d2,d3⟩ := dW_ok g hv 4 hc i j (x.sp 4) (by unfold ZRun.sp; omega)
 obtain ⟨n1,n2⟩ := at_new g.pg hc.1 h
 have hf := g.fit
 have h1 := g.dok.1
 have no : ¬ x.a.p.has ((x.ln 4 i j : Nat) : Int) := by rw [show ((x.ln 4 i j : Nat) : Int) = 2 + i * 8 + j * spn (x.c 4) from l1]; exact fresh_no g.pg hc h
 have hL : (2 : Int)<=(x.ln 4 i j : Nat) := by unfold ZRun.ln; omega
 refine ⟨⟨⟨d1,g.cok,g.lok,g.tc,?_,blk_may g hv i j,?_,g.id0,g.v0,g.nn,?_⟩,(take_good g.pg hc h).1,g.bok,g.ln,rfl,g.v1,g.id1,fun hh => no (g.used _ hL (.inl hh)),fun hh => no (g.used _ hL (.inr hh))⟩,⟨i,j,?_⟩,g.owed⟩
 ·show x.ln 4 i j < (x.dW 4 i j (x.sp 4)).n
  rw [d2]; unfold ZRun.ln; omega
 ·show x.v.size < 1099511627776; omega
 ·show (x.dW 4 i j (x.sp 4)).n<=258; omega
 ·obtain ⟨a1,a2,a3,a4,a5⟩ := n1
  exact ⟨a1,a2,a3,a4,by show ((x.ln 4 i j : Nat) : Int) = 2 + i * 8 + j * spn ((x.a.p.take (x.c 4) i j).cls i); rw [n2]; exact l1,n2⟩
theorem runEVC_true (g : GoodA x.a x.t) : runEVC x := by
 unfold runEVC
 simp only [TP_w49,TP_w28,TP_w42,TP_w57,TP_w33,TP_w44,TP_w9,TP_w1,TP_w15,TP_w24,TP_w43,TP_w47,TP_w62,TP_w48,TP_w46,TP_w53,TP_w31,TP_w11,TP_w10,TP_w18,TP_w54,TP_w23,TP_w5,TP_w55,TP_w41,TP_w34,TP_w45,TP_w52,TP_w59,TP_w6,TP_w2,TP_w61,TP_w19,TP_w60]
 simp only [hd_iff,and_true,true_and,Nat.zero_add,Nat.add_zero,unit_ex,unit_all,true_implies,implies_true,Int.toNat_natCast,eq_self,and_self,eff_nil,cond_one,cond_int,ones_int,row_int,ones_bool,row_bool,cond_bool,ble0,Bool.true_and,Nat.sub_zero,List.getElem?_cons_zero,Option.some.injEq,Value.bool.injEq,Value.int.injEq,exists_eq_left',exists_eq_left]
 refine ⟨⟨⟨x.a,f0 x.key x.v,1,0⟩,⟨show 1<=1 by decide,show 1<=50 by decide,rfl,rfl,rfl⟩,rfl,(by repeat' (first | exact rfl | refine And.intro ?_ ?_)),rfl⟩,?_,?_,?_,?_,?_⟩
 ·rintro ⟨sa,sf,sn,sp⟩ ⟨s1,s2,s3,s4,s5⟩
  have s1 : 1<=sn := s1
  have s2 : sn<=50 := s2
  have s3 : sn = 1 := s3
  have e4 : sa = x.a := s4
  have e5 : sf = f0 x.key x.v := s5
  clear s4 s5
  subst e4 e5
  refine cP_intro (fun _ => ⟨⟨x.a,f0 x.key x.v,x.t⟩,⟨g.rok,g.cok,g.tr,g.out⟩,(by repeat' (first | exact rfl | refine And.intro ?_ ?_)),rfl,fun h => .inl ⟨sn,h,(by repeat' (first | exact rfl | refine And.intro ?_ ?_)),rfl⟩,fun h => ⟨by unfold I64; omega,⟨x.a1,x.f1,sn + 1,0⟩,⟨by show 1<=sn + 1; omega,by show sn + 1<=50; omega,by show sn + 1 = 2; omega,rfl,rfl,h⟩,by show 101 - (sn + 1) < 101 - sn; omega,rfl,(by repeat' (first | exact rfl | refine And.intro ?_ ?_)),rfl⟩⟩) fun h => absurd (of_decide_eq_false h) (by show ¬ ¬ (sn : Int)<=100; omega)
 ·rintro ⟨sa,sf,sn,sp⟩ ⟨s1,s2,s3,s4,s5,hv⟩
  have s1 : 1<=sn := s1
  have s2 : sn<=50 := s2
  have s3 : sn = 2 := s3
  have e4 : sa = x.a1 := s4
  have e5 : sf = x.f1 := s5
  clear s4 s5
  subst e4 e5
  have hcc := c4_ok hv
  refine cP_intro (fun _ => ⟨⟨x.a1,x.f1,x.t⟩,⟨g.pg.1,hv⟩,(by repeat' (first | exact rfl | refine And.intro ?_ ?_)),rfl,fun h => ⟨by unfold I64; omega,⟨x.a1,{ x.f1 with cls := x.c 4,code := 4 },sn + 1,0⟩,⟨by show 1<=sn + 1; omega,by show sn + 1<=50; omega,hv,.inl ⟨h,rfl,rfl⟩⟩,by show 101 - (sn + 1) < 101 - sn; omega,rfl,(by repeat' (first | exact rfl | refine And.intro ?_ ?_)),rfl⟩,fun y hy => ⟨by unfold I64; omega,⟨x.a2 4 y.1 y.2 0,{ x.f1 with line := x.ln 4 y.1 y.2,cls := x.c 4,piece := (0 : Nat) },sn + 1,0⟩,⟨by show 1<=sn + 1; omega,by show sn + 1<=50; omega,hv,spn0_lt hcc,by show sn + 1 = 3 + 0; omega,y.1,y.2,hy,rfl,rfl⟩,by show 101 - (sn + 1) < 101 - sn; omega,rfl,?_,rfl⟩⟩) fun h => absurd (of_decide_eq_false h) (by show ¬ ¬ (sn : Int)<=100; omega)
  exact ⟨rfl,rfl,rfl,rfl,rfl,rfl,rfl,rfl,rfl,(takes_line g.pg hcc hy).1,rfl,rfl,rfl,rfl,rfl,rfl⟩
 ·rintro ⟨sa,sf,sn,sp⟩ ⟨s1,s2,hv,hp,s3,i,j,ht,s4,s5⟩
  have s1 : 1<=sn := s1
  have s2 : sn<=50 := s2
  have hp : (sp : Int) < spn (x.c 4) := hp
  have s3 : sn = 3 + sp := s3
  have e4 : sa = x.a2 4 i j sp := s4
  have e5 : sf = x.fW 4 i j sp := s5
  clear s4 s5
  subst e4 e5
  have hcc := c4_ok hv
  have hs := spn_cases (x.c 4)
  obtain ⟨l1,l2⟩ := takes_line g.pg hcc ht
  obtain ⟨d1,d2,d3⟩ := dW_ok g hv 4 hcc i j sp (by omega)
  have hf := g.fit
  have hd := g.dst
  have hw : ZStW.w ⟨x.a2 4 i j sp,x.fW 4 i j sp,x.t,x.ln 4 i j,x.c 4,sp⟩ |>.ok := ⟨d1,hcc.1,hcc.2,by show ((x.ln 4 i j : Nat) : Int) + spn (x.c 4)<=(x.dW 4 i j sp).n; rw [d2]; unfold ZRun.ln; omega,hp,hv,by show small (x.dW 4 i j sp).st; have := g.dok.2.2.1; unfold small at *; omega,by show (x.dW 4 i j sp).st + 10 < _; omega⟩
  refine cP_intro (fun _ => ⟨⟨x.a2 4 i j sp,x.fW 4 i j sp,x.t,x.ln 4 i j,x.c 4,sp⟩,hw,(by repeat' (first | exact rfl | refine And.intro ?_ ?_)),rfl,fun h => ⟨by unfold I64; omega,⟨x.a2 4 i j (sp + 1),x.fW 4 i j (sp + 1),sn + 1,sp + 1⟩,⟨by show 1<=sn + 1; omega,by show sn + 1<=50; omega,hv,by show ((sp + 1 : Nat) : Int) < _; have h : (sp : Int) + 1 ≠ spn (x.c 4) := h; omega,by show sn + 1 = 3 + (sp + 1); omega,i,j,ht,rfl,rfl⟩,by show 101 - (sn + 1) < 101 - sn; omega,rfl,(by repeat' (first | exact rfl | refine And.intro ?_ ?_)),rfl⟩,fun h => ?_⟩) fun h => absurd (of_decide_eq_false h) (by show ¬ ¬ (sn : Int)<=100; omega)
  have h : (sp : Int) + 1 = spn (x.c 4) := h
  have e : x.sp 4 = sp + 1 := by unfold ZRun.sp; omega
  refine ⟨by unfold I64; omega,⟨x.a2 4 i j (x.sp 4),{ x.f1 with line := x.ln 4 i j,cls := x.c 4 },sn + 1,0⟩,⟨by show 1<=sn + 1; omega,by show sn + 1<=50; omega,hv,by show sn + 1 = 3 + x.sp 4; omega,i,j,ht,rfl,rfl⟩,by show 101 - (sn + 1) < 101 - sn; omega,rfl,(by repeat' (first | exact rfl | refine And.intro ?_ ?_)),by rw [e]; rfl⟩
 ·rintro ⟨sa,sf,sn,sp⟩ ⟨s1,s2,hv,s3,i,j,ht,s4,s5⟩
  have s1 : 1<=sn := s1
  have s2 : sn<=50 := s2
  have s3 : sn = 3 + x.sp 4 := s3
  have hs := spn_cases (x.c 4)
  have hs9 : x.sp 4<=8 := by unfold ZRun.sp; omega
  have e4 : sa = x.a2 4 i j (x.sp 4) := s4
  have e5 : sf = { x.f1 with line := x.ln 4 i j,cls := x.c 4 } := s5
  clear s4 s5
  subst e4 e5
  refine cP_intro (fun _ => ⟨x.pb 4 i j x.f1,enq_pre g hv ht,(by repeat' (first | exact rfl | refine And.intro ?_ ?_)),rfl,by unfold I64; omega,⟨(x.pb 4 i j x.f1).chg.enq,{ x.f1 with cls := x.c 4,aep := x.a.c.now },sn + 1,0⟩,⟨by show 1<=sn + 1; omega,by show sn + 1<=50; omega,hv,.inr ⟨by show sn + 1 = 4 + x.sp 4; omega,i,j,ht,rfl,rfl⟩⟩,by show 101 - (sn + 1) < 101 - sn; omega,rfl,(by repeat' (first | exact rfl | refine And.intro ?_ ?_)),rfl⟩) fun h => absurd (of_decide_eq_false h) (by show ¬ ¬ (sn : Int)<=100; omega)
 ·rintro ⟨sa,sf,sn,sp⟩ ⟨s1,s2,hv,hh⟩
  have s1 : 1<=sn := s1
  have s2 : sn<=50 := s2
  rcases hh with ⟨hf,s4,s5⟩ | ⟨s3,i,j,ht,s4,s5⟩
  ·have e4 : sa = x.a1 := s4
   have e5 : sf = { x.f1 with cls := x.c 4,code := 4 } := s5
   clear s4 s5
   subst e4 e5
   refine cP_intro (fun _ => ⟨⟨x.a1,{ x.f1 with cls := x.c 4,code := 4 },x.t⟩,⟨g.rok,g.tr⟩,(by repeat' (first | exact rfl | refine And.intro ?_ ?_)),rfl,.inr (.inl ⟨sn,⟨hv,hf⟩,(by repeat' (first | exact rfl | refine And.intro ?_ ?_)),?_⟩)⟩) fun h => absurd (of_decide_eq_false h) (by show ¬ ¬ (sn : Int)<=100; omega)
   show ownM x.a.os = ownM (x.a1.putR x.t 0).os
   rw [show x.a1.putR x.t 0 = x.a from putR_back g.out _]
  ·have e4 : sa = (x.pb 4 i j x.f1).chg.enq := s4
   have e5 : sf = { x.f1 with cls := x.c 4,aep := x.a.c.now } := s5
   clear s4 s5
   subst e4 e5
   refine cP_intro (fun _ => ⟨⟨(x.pb 4 i j x.f1).chg.enq,{ x.f1 with cls := x.c 4,aep := x.a.c.now },x.t⟩,⟨g.rok,g.tr⟩,(by repeat' (first | exact rfl | refine And.intro ?_ ?_)),rfl,.inr (.inr ⟨(i,j),⟨hv,ht⟩,⟨(by repeat' (first | exact rfl | refine And.intro ?_ ?_)),(by show ((4 + x.sp 4 : Nat) : Int) = sn; have s3 : sn = 4 + x.sp 4 := s3; omega)⟩,rfl⟩)⟩) fun h => absurd (of_decide_eq_false h) (by show ¬ ¬ (sn : Int)<=100; omega)
theorem beginZVC_true (x : ZCl) : beginZVC x := by
 unfold beginZVC
 simp only [TP_w1,TP_w9,TP_w42,TP_w2]
 simp only [hd_iff,and_true,true_and,Nat.zero_add,Nat.add_zero,unit_ex,unit_all,true_implies,implies_true,Int.toNat_natCast,eq_self,and_self,eff_nil,cond_one,cond_int,ones_int,row_int,ones_bool,row_bool,cond_bool,ble0,Bool.true_and,Nat.sub_zero,List.getElem?_cons_zero,Option.some.injEq,Value.bool.injEq,Value.int.injEq,exists_eq_left',exists_eq_left]
theorem beginZ_ok : CtrOk Tryz.prog 14 beginZ := det_end tt_ok mixed .nil noA 200 6 (fun _ => rfl) (fun _ => rfl) fun x _ => Eq.mp (beginZVC_ok x) (beginZVC_true x)
theorem beginT_ok (args : List AV) (h : Heap) (K : AV->Heap->Prop) (hq : beginT args h K) : Sp Tryz.prog 14 args h K := by
 unfold beginT at hq
 split at hq
 ·rename_i k key v to
  exact det_pure beginZ_ok ⟨k,key,v,to⟩ trivial h rfl rfl hq
 ·exact hq.elim
theorem tblRun_ok : TblOk Tryz.prog tblRun := .cons beginT_ok (.cons tStepT_ok .nil)
theorem runE_ok : CtrOk Tryz.prog 12 (runE fun x => GoodA x.a x.t) := ctr_endL tt_ok mixed tblRun_ok annE 200 6 (fun _ => rfl) (fun _ => ⟨fun _ => rfl,fun _ => rfl,fun _ => rfl,trivial⟩) fun x hx => Eq.mp (runEVC_ok x) (runEVC_true (hd_iff.1 hx))
end
end Go.Proofs.YtpnhfbegboogbaaGreat
end
section
namespace Go.Proofs.YtpnhfbegboogbaaGreat
open Go SE
set_option linter.unusedSimpArgs false
def HeadOk (a : ZArn) (b : ZBlk) (ln : Nat) : Prop := b.may/\b.kind = 2/\a.l.head = ⟨⟨#[]⟩,b.id,b.ver,ln,b.cls⟩/\(∃ i j,a.p.at_ ln i j/\a.p.cls i = b.cls)/\∀ q,q < 64 * b.spnN->a.d.b ((ln + q / 64) * 193 + q % 64) = b.enc q
section
variable {x : ZRun}
theorem at_fit (g : GoodA x.a x.t) {ln i j : Nat} {c : Int} (h : x.a.p.at_ ln i j) (hc : x.a.p.cls i = c) : 2<=ln/\(ln : Int) + spn c<=x.a.d.n/\0<=c/\c<=3/\ln < 258 := by
 obtain ⟨h1,h2,h3,h4,h5⟩ := h
 have h6 := (g.pg.1.2.2 i h1).2.1
 have h7 := g.fit
 have h8 := g.dok.1
 rw [hc] at h2 h3 h5 h6
 rcases many_cases c with m | m | m | m | m <;> obtain ⟨m1,m2,m3⟩ := m <;> rw [m2] at h5 ⊢ <;> omega
theorem ln5 (g : GoodA x.a x.t) {y : Nat × Nat} (h : x.a.p.takes 0 y.1 y.2) : ((x.ln 5 y.1 y.2 : Nat) : Int) = 2 + y.1 * 8 + y.2 * spn 0 := (takes_line g.pg (by decide) h).1
theorem ln5_fit (g : GoodA x.a x.t) {i j : Nat} (h : x.a.p.takes 0 i j) : x.ln 5 i j + 1<=x.a.d.n := by
 have h1 := (takes_line g.pg (by decide) h).2
 have h2 := g.fit
 have : x.ln 5 i j = 2 + i * 8 + j * (spn 0).toNat := rfl
 have h3 : (spn 0).toNat = 1 := rfl
 omega
theorem deq_pre (g : GoodA x.a x.t) (hv : x.v.size<=400) (hz : x.a.l.n ≠ 0) (hH : x.a.l.n ≠ 0->x.a.n ≠ 0/\∃ ln,HeadOk x.a x.b ln) {i j : Nat} (h : x.a.p.takes 0 i j) : (x.pb 5 i j x.f2).chg.okD/\(∃ i' j',(x.pb 5 i j x.f2).chg.inP i' j')/\0<=x.a.id/\x.a.id < 1152921504606846976/\x.a.n ≠ 0 := by
 obtain ⟨hn0,ln,hb1,hb2,hh,⟨bi,bj,hat,hbc⟩,hby⟩ := hH hz
 have hk : (⟨#[]⟩ : ByteArray) = x.a.l.head.key := by rw [hh]
 have hi : x.b.id = x.a.l.head.id := by rw [hh]
 have hve : x.b.ver = x.a.l.head.ver := by rw [hh]
 have hl : (ln : Int) = x.a.l.head.line := by rw [hh]
 have hcl : x.b.cls = x.a.l.head.cls := by rw [hh]
 have hfit := at_fit g hat hbc
 have hs := spn_cases x.b.cls

 have hc : (0 : Int)<=0/\(0 : Int)<=3 := by decide
 have hc5 : x.c 5 = 0 := if_neg (by decide)
 obtain ⟨l1,l2⟩ := takes_line g.pg hc h
 obtain ⟨d1,d2,d3⟩ := dW_ok g hv 5 (by rw [hc5]; exact hc) i j (x.sp 5) (by unfold ZRun.sp; rw [hc5]; decide)
 obtain ⟨n1,n2⟩ := at_new g.pg hc.1 h
 have hf := g.fit
 have h1 := g.dok.1
 have hs0 : (spn 0).toNat = 1 := rfl
 have eL : x.ln 5 i j = 2 + i * 8 + j * (spn 0).toNat := by unfold ZRun.ln; rw [hc5]
 have no : ¬ x.a.p.has ((x.ln 5 i j : Nat) : Int) := by rw [eL,l1]; exact fresh_no g.pg hc h
 have hL : (2 : Int)<=(x.ln 5 i j : Nat) := by rw [eL]; omega
 have nums : 1<=x.b.id/\x.b.id<=2305843009213693952 := by
  rcases hb1.2 with h | h | h | h
  ·exfalso; have := h.1; omega
  ·exfalso; have := h.1; omega
  ·exact h.2.2.2.2.1
  ·exfalso; have := h.1; omega
 have := g.v0; have := g.v1; have := g.now0; have := g.now1
 refine ⟨⟨d1,g.cok,g.lok,g.tc,?_,?_,g.v0,g.nn,?_,?_,g.bok,g.rok,g.ln,hz,rfl,rfl,g.v1,hc5,?_,fun hh => no (g.used _ hL (.inl hh)),fun hh => no (g.used _ hL (.inr hh))⟩,⟨i,j,?_⟩,g.id0,g.id1,hn0⟩
 ·show x.ln 5 i j < (x.dW 5 i j (x.sp 5)).n
  rw [d2,eL]; omega
 ·refine ⟨show spn 0 ≠ 0 by decide,.inr (.inr (.inr ⟨rfl,rfl,rfl,?_,?_,?_⟩))⟩
  ·show 1<=x.a.l.head.id/\x.a.l.head.id<=2305843009213693952
   rw [← hi]; exact nums
  ·show 1<=x.a.ver + 1/\x.a.ver + 1<=2305843009213693952; omega
  ·show 1<=x.a.c.now/\x.a.c.now<=2305843009213693952; omega
 ·show (x.dW 5 i j (x.sp 5)).n<=258; omega
 ·show (x.a.p.take (x.c 5) i j).ok
  rw [hc5]; exact (take_good g.pg hc h).1
 ·refine ⟨?_,?_,?_,?_,?_,?_⟩
  ·show 2<=x.a.l.head.line; rw [← hl]; omega
  ·show x.a.l.head.line < 258; rw [← hl]; omega
  ·show 0<=x.a.l.head.cls; rw [← hcl]; omega
  ·show x.a.l.head.cls<=3; rw [← hcl]; omega
  ·show -1<=((x.ln 5 i j : Nat) : Int); omega
  ·show ((x.ln 5 i j : Nat) : Int) < 258; omega
 ·obtain ⟨a1,a2,a3,a4,a5⟩ := n1
  show i < (x.a.p.take (x.c 5) i j).n/\_
  rw [← hc5] at a1 a2 a3 a4 n2
  refine ⟨a1,a2,a3,a4,?_,n2⟩
  show ((x.ln 5 i j : Nat) : Int) = 2 + i * 8 + j * spn ((x.a.p.take (x.c 5) i j).cls i)
  rw [n2,hc5,eL]; exact l1
theorem runDVC_true (g : GoodA x.a x.t) (hv : x.v.size<=400) (hH : x.a.l.n ≠ 0->x.a.n ≠ 0/\∃ ln,HeadOk x.a x.b ln) : runDVC x := by
 have hc5 : x.c 5 = 0 := if_neg (by decide)
 unfold runDVC
 simp only [TP_w49,TP_w28,TP_w42,TP_w58,TP_w33,TP_w44,TP_w9,TP_w1,TP_w15,TP_w24,TP_w43,TP_w50,TP_w48,TP_w46,TP_w53,TP_w31,TP_w11,TP_w3,TP_w17,TP_w60,TP_w59,TP_w20,TP_w51,TP_w5,TP_w32,TP_w6,TP_w35,TP_w27,TP_w21,TP_w26,TP_w54,TP_w25,TP_w55,TP_w34,TP_w45,TP_w52,TP_w29,TP_w61,TP_w2,TP_w19]
 simp only [hd_iff,and_true,true_and,Nat.zero_add,Nat.add_zero,unit_ex,unit_all,true_implies,implies_true,Int.toNat_natCast,eq_self,and_self,eff_nil,cond_one,cond_int,ones_int,row_int,ones_bool,row_bool,cond_bool,ble0,Bool.true_and,Nat.sub_zero,List.getElem?_cons_zero,Option.some.injEq,Value.bool.injEq,Value.int.injEq,exists_eq_left',exists_eq_left]
 refine ⟨⟨⟨x.a,f0 x.key x.v,1,0⟩,⟨show 1<=1 by decide,show 1<=50 by decide,rfl,rfl,rfl⟩,rfl,(by repeat' (first | exact rfl | refine And.intro ?_ ?_)),rfl⟩,?_,?_,?_,?_,?_,?_,?_,?_⟩
 ·rintro ⟨sa,sf,sn,sp⟩ ⟨s1,s2,s3,s4,s5⟩
  have s1 : 1<=sn := s1
  have s2 : sn<=50 := s2
  have s3 : sn = 1 := s3
  have e4 : sa = x.a := s4
  have e5 : sf = f0 x.key x.v := s5
  clear s4 s5
  subst e4 e5
  refine cP_intro (fun _ => ⟨⟨x.a,f0 x.key x.v,x.t⟩,⟨g.rok,g.cok,g.tr,g.out⟩,(by repeat' (first | exact rfl | refine And.intro ?_ ?_)),rfl,fun h => absurd h.1 (by decide),fun h => ⟨by unfold I64; omega,⟨x.a1,x.f1,sn + 1,0⟩,⟨by show 1<=sn + 1; omega,by show sn + 1<=50; omega,by show sn + 1 = 2; omega,rfl,rfl⟩,by show 101 - (sn + 1) < 101 - sn; omega,rfl,(by repeat' (first | exact rfl | refine And.intro ?_ ?_)),rfl⟩⟩) fun h => absurd (of_decide_eq_false h) (by show ¬ ¬ (sn : Int)<=100; omega)
 ·rintro ⟨sa,sf,sn,sp⟩ ⟨s1,s2,s3,s4,s5⟩
  have s1 : 1<=sn := s1
  have s2 : sn<=50 := s2
  have s3 : sn = 2 := s3
  have e4 : sa = x.a1 := s4
  have e5 : sf = x.f1 := s5
  clear s4 s5
  subst e4 e5
  refine cP_intro (fun _ => ⟨⟨x.a1,x.f1,x.t⟩,⟨g.lok,rfl⟩,(by repeat' (first | exact rfl | refine And.intro ?_ ?_)),rfl,fun h => ⟨by unfold I64; omega,⟨x.a1,x.f1,sn + 1,0⟩,⟨by show 1<=sn + 1; omega,by show sn + 1<=50; omega,.inl ⟨h,rfl,rfl⟩⟩,by show 101 - (sn + 1) < 101 - sn; omega,rfl,(by repeat' (first | exact rfl | refine And.intro ?_ ?_)),rfl⟩,fun h => ⟨by unfold I64; omega,⟨x.a1,{ x.f1 with had := true,old := x.a.l.head },sn + 1,0⟩,⟨by show 1<=sn + 1; omega,by show sn + 1<=50; omega,by show sn + 1 = 3; omega,rfl,h,rfl⟩,by show 101 - (sn + 1) < 101 - sn; omega,rfl,(by repeat' (first | exact rfl | refine And.intro ?_ ?_)),rfl⟩⟩) fun h => absurd (of_decide_eq_false h) (by show ¬ ¬ (sn : Int)<=100; omega)
 ·rintro ⟨sa,sf,sn,sp⟩ ⟨s1,s2,s3,s4,hz,s5⟩
  have s1 : 1<=sn := s1
  have s2 : sn<=50 := s2
  have s3 : sn = 3 := s3
  have e4 : sa = x.a1 := s4
  have e5 : sf = { x.f1 with had := true,old := x.a.l.head } := s5
  clear s4 s5
  subst e4 e5
  obtain ⟨hn0,ln,hb1,hb2,hh,⟨bi,bj,hat,hbc⟩,hby⟩ := hH hz
  have hk : (⟨#[]⟩ : ByteArray) = x.a.l.head.key := by rw [hh]
  have hi : x.b.id = x.a.l.head.id := by rw [hh]
  have hve : x.b.ver = x.a.l.head.ver := by rw [hh]
  have hl : (ln : Int) = x.a.l.head.line := by rw [hh]
  have hcl : x.b.cls = x.a.l.head.cls := by rw [hh]
  have hfit := at_fit g hat hbc
  have hs := spn_cases x.b.cls
  have hw : ZStR.w ⟨x.a1,x.f1,x.t,x.b,ln,0⟩ |>.ok := ⟨g.dok,hb1,hb2,hfit.2.1,by show ((0 : Nat) : Int) < spn x.b.cls; omega,hby⟩
  refine cP_intro (fun _ => ⟨⟨x.a1,x.f1,x.t,x.b,ln,0⟩,⟨hw,rfl⟩,(by repeat' (first | exact rfl | exact hk | exact hi | exact hve | exact hl | exact hcl | refine And.intro ?_ ?_)),rfl,fun h => ⟨by unfold I64; omega,⟨x.a1,{ x.f1 with had := true,old := x.a.l.head,piece := ((1 : Nat) : Int) },sn + 1,1⟩,⟨Nat.le_refl 1,by show ((1 : Nat) : Int) < spn x.b.cls; have h : (1 : Int) ≠ spn x.b.cls := h; omega,by show sn + 1 = 3 + 1; omega,rfl,hz,rfl⟩,by show 101 - (sn + 1) < 101 - sn; omega,rfl,⟨rfl,fun q _ => rfl⟩,(by repeat' (first | exact rfl | exact hk.symm | exact hi.symm | exact hve.symm | exact hl.symm | exact hcl.symm | refine And.intro ?_ ?_)),rfl⟩,fun h => ⟨by unfold I64; omega,⟨x.a1,{ x.f2 with piece := 1 },sn + 1,0⟩,⟨by show 1<=sn + 1; omega,by show sn + 1<=50; omega,by show sn + 1 = 3 + x.b.spnN; have h : (1 : Int) = spn x.b.cls := h.1; have := (spnN_le x.b).2; omega,rfl,hz,1,rfl⟩,by show 101 - (sn + 1) < 101 - sn; omega,rfl,(by repeat' (first | exact rfl | exact hk.symm | exact hi.symm | exact hve.symm | exact hl.symm | exact hcl.symm | refine And.intro ?_ ?_)),rfl⟩,fun h => absurd h.2 (show ¬ (0 : Int)<=-1 by decide)⟩) fun h => absurd (of_decide_eq_false h) (by show ¬ ¬ (sn : Int)<=100; omega)
 ·rintro ⟨sa,sf,sn,sp⟩ ⟨p1,p2,s3,s4,hz,s5⟩
  have p1 : 1<=sp := p1
  have p2 : (sp : Int) < spn x.b.cls := p2
  have s3 : sn = 3 + sp := s3
  have e4 : sa = x.a1 := s4
  have e5 : sf = { x.f1 with had := true,old := x.a.l.head,piece := (sp : Int) } := s5
  clear s4 s5
  subst e4 e5
  obtain ⟨hn0,ln,hb1,hb2,hh,⟨bi,bj,hat,hbc⟩,hby⟩ := hH hz
  have hk : (⟨#[]⟩ : ByteArray) = x.a.l.head.key := by rw [hh]
  have hi : x.b.id = x.a.l.head.id := by rw [hh]
  have hve : x.b.ver = x.a.l.head.ver := by rw [hh]
  have hl : (ln : Int) = x.a.l.head.line := by rw [hh]
  have hcl : x.b.cls = x.a.l.head.cls := by rw [hh]
  have hfit := at_fit g hat hbc
  have hs := spn_cases x.b.cls
  have hw : ZStR.w ⟨x.a1,x.f1,x.t,x.b,ln,sp⟩ |>.ok := ⟨g.dok,hb1,hb2,hfit.2.1,p2,hby⟩
  refine cP_intro (fun _ => ⟨⟨x.a1,x.f1,x.t,x.b,ln,sp⟩,⟨hw,by show sp ≠ 0; omega⟩,(by repeat' (first | exact rfl | exact hk | exact hi | exact hve | exact hl | exact hcl | refine And.intro ?_ ?_)),⟨rfl,rfl,fun q _ => rfl⟩,fun h => ⟨by unfold I64; omega,⟨x.a1,{ x.f1 with had := true,old := x.a.l.head,piece := ((sp + 1 : Nat) : Int) },sn + 1,sp + 1⟩,⟨by show 1<=sp + 1; omega,by show ((sp + 1 : Nat) : Int) < spn x.b.cls; have h : (sp : Int) + 1 ≠ spn x.b.cls := h; omega,by show sn + 1 = 3 + (sp + 1); omega,rfl,hz,rfl⟩,by show 101 - (sn + 1) < 101 - sn; omega,rfl,⟨rfl,fun q _ => rfl⟩,(by repeat' (first | exact rfl | exact hk.symm | exact hi.symm | exact hve.symm | exact hl.symm | exact hcl.symm | refine And.intro ?_ ?_)),rfl⟩,fun h => ⟨by unfold I64; omega,⟨x.a1,{ x.f2 with piece := (sp : Int) + 1 },sn + 1,0⟩,⟨by show 1<=sn + 1; omega,by show sn + 1<=50; omega,by show sn + 1 = 3 + x.b.spnN; have h : (sp : Int) + 1 = spn x.b.cls := h.1; have := (spnN_le x.b).2; omega,rfl,hz,_,rfl⟩,by show 101 - (sn + 1) < 101 - sn; omega,rfl,(by repeat' (first | exact rfl | exact hk.symm | exact hi.symm | exact hve.symm | exact hl.symm | exact hcl.symm | refine And.intro ?_ ?_)),rfl⟩,fun h => absurd h.2 (show ¬ (0 : Int)<=-1 by decide)⟩) fun h => absurd (of_decide_eq_false h) (by show ¬ ¬ (sn : Int)<=100; omega)
 ·rintro ⟨sa,sf,sn,sp⟩ ⟨s1,s2,s3,s4,hz,q,s5⟩
  have s1 : 1<=sn := s1
  have s2 : sn<=50 := s2
  have s3 : sn = 3 + x.b.spnN := s3
  have hs9 := (spnN_le x.b).1
  have e4 : sa = x.a1 := s4
  have e5 : sf = { x.f2 with piece := q } := s5
  clear s4 s5
  subst e4 e5
  refine cP_intro (fun _ => ⟨⟨x.a1,{ x.f2 with piece := q },x.t⟩,⟨g.pg.1,hv⟩,(by repeat' (first | exact rfl | refine And.intro ?_ ?_)),rfl,fun h => ⟨by unfold I64; omega,⟨x.a1,{ x.f2 with cls := 0,ans := ⟨#[]⟩,code := 4,piece := q },sn + 1,0⟩,⟨by show 1<=sn + 1; omega,by show sn + 1<=50; omega,.inr (.inl ⟨hz,h,rfl,q,rfl⟩)⟩,by show 101 - (sn + 1) < 101 - sn; omega,rfl,(by repeat' (first | exact rfl | refine And.intro ?_ ?_)),rfl⟩,fun y hy => ⟨by unfold I64; omega,⟨x.a2 5 y.1 y.2 0,{ x.f2 with line := x.ln 5 y.1 y.2,cls := 0,piece := 0 },sn + 1,0⟩,⟨by show 1<=sn + 1; omega,by show sn + 1<=50; omega,by show sn + 1 = 4 + x.b.spnN; omega,hz,y.1,y.2,hy,rfl,rfl⟩,by show 101 - (sn + 1) < 101 - sn; omega,rfl,?_,?_⟩⟩) fun h => absurd (of_decide_eq_false h) (by show ¬ ¬ (sn : Int)<=100; omega)
  ·exact ⟨rfl,rfl,rfl,rfl,rfl,rfl,rfl,rfl,rfl,ln5 g hy,rfl,rfl,rfl,rfl,rfl,rfl⟩
  ·rfl
 ·rintro ⟨sa,sf,sn,sp⟩ ⟨s1,s2,s3,hz,i,j,ht,s4,s5⟩
  have s1 : 1<=sn := s1
  have s2 : sn<=50 := s2
  have s3 : sn = 4 + x.b.spnN := s3
  have hs9 := (spnN_le x.b).1
  have e4 : sa = x.a2 5 i j 0 := s4
  have e5 : sf = { x.f2 with line := x.ln 5 i j,cls := 0,piece := 0 } := s5
  clear s4 s5
  subst e4 e5
  have hd := g.dst
  have hw : ZStW.w ⟨x.a2 5 i j 0,{ x.f2 with line := x.ln 5 i j,cls := 0,piece := 0 },x.t,x.ln 5 i j,0,0⟩ |>.ok := ⟨g.dok,show (0 : Int)<=0 by decide,show (0 : Int)<=3 by decide,by show ((x.ln 5 i j : Nat) : Int) + spn 0<=x.a.d.n; have := ln5_fit g ht; rw [show spn 0 = 1 from rfl]; omega,show ((0 : Nat) : Int) < spn 0 by decide,hv,g.dok.2.2.1,by show x.a.d.st + 10 < _; omega⟩
  refine cP_intro (fun _ => ⟨⟨x.a2 5 i j 0,{ x.f2 with line := x.ln 5 i j,cls := 0,piece := 0 },x.t,x.ln 5 i j,0,0⟩,⟨hw,rfl⟩,(by repeat' (first | exact rfl | refine And.intro ?_ ?_)),rfl,fun h => absurd rfl h,fun _ => ⟨by unfold I64; omega,⟨x.a2 5 i j (x.sp 5),{ x.f2 with line := x.ln 5 i j,cls := 0,piece := 0 },sn + 1,0⟩,⟨by show 1<=sn + 1; omega,by show sn + 1<=50; omega,by show sn + 1 = 5 + x.b.spnN; omega,hz,i,j,ht,rfl,rfl⟩,by show 101 - (sn + 1) < 101 - sn; omega,rfl,(by repeat' (first | exact rfl | refine And.intro ?_ ?_)),rfl⟩⟩) fun h => absurd (of_decide_eq_false h) (by show ¬ ¬ (sn : Int)<=100; omega)
 ·rintro ⟨sa,sf,sn,sp⟩ ⟨s1,s2,s3,hz,i,j,ht,s4,s5⟩
  have s1 : 1<=sn := s1
  have s2 : sn<=50 := s2
  have s3 : sn = 5 + x.b.spnN := s3
  have hs9 := (spnN_le x.b).1
  have e4 : sa = x.a2 5 i j (x.sp 5) := s4
  have e5 : sf = { x.f2 with line := x.ln 5 i j,cls := 0,piece := 0 } := s5
  clear s4 s5
  subst e4 e5
  refine cP_intro (fun _ => ⟨x.pb 5 i j x.f2,deq_pre g hv hz hH ht,(by repeat' (first | exact rfl | refine And.intro ?_ ?_)),rfl,by unfold I64; omega,⟨(x.pb 5 i j x.f2).chg.deq,{ x.f2 with cls := 0,piece := 0,found := true,aep := x.a.c.now },sn + 1,0⟩,⟨by show 1<=sn + 1; omega,by show sn + 1<=50; omega,.inr (.inr ⟨by show sn + 1 = 6 + x.b.spnN; omega,hz,i,j,ht,rfl,rfl⟩)⟩,by show 101 - (sn + 1) < 101 - sn; omega,rfl,(by repeat' (first | exact rfl | refine And.intro ?_ ?_)),rfl⟩) fun h => absurd (of_decide_eq_false h) (by show ¬ ¬ (sn : Int)<=100; omega)
 ·rintro ⟨sa,sf,sn,sp⟩ ⟨s1,s2,hh⟩
  have s1 : 1<=sn := s1
  have s2 : sn<=50 := s2
  have back : x.a1.putR x.t 0 = x.a := putR_back g.out _
  rcases hh with ⟨hz,s4,s5⟩ | ⟨hz,hf,s4,q,s5⟩ | ⟨s3,hz,i,j,ht,s4,s5⟩
  ·have e4 : sa = x.a1 := s4
   have e5 : sf = x.f1 := s5
   clear s4 s5
   subst e4 e5
   refine cP_intro (fun _ => ⟨⟨x.a1,x.f1,x.t⟩,⟨g.rok,g.tr⟩,(by repeat' (first | exact rfl | refine And.intro ?_ ?_)),rfl,.inl ⟨sn,hz,(by repeat' (first | exact rfl | refine And.intro ?_ ?_)),?_⟩⟩) fun h => absurd (of_decide_eq_false h) (by show ¬ ¬ (sn : Int)<=100; omega)
   show ownM x.a.os = ownM (x.a1.putR x.t 0).os
   rw [back]
  ·have e4 : sa = x.a1 := s4
   have e5 : sf = { x.f2 with cls := 0,ans := ⟨#[]⟩,code := 4,piece := q } := s5
   clear s4 s5
   subst e4 e5
   refine cP_intro (fun _ => ⟨⟨x.a1,{ x.f2 with cls := 0,ans := ⟨#[]⟩,code := 4,piece := q },x.t⟩,⟨g.rok,g.tr⟩,(by repeat' (first | exact rfl | refine And.intro ?_ ?_)),rfl,.inr (.inl ⟨sn,⟨hz,hf⟩,(by repeat' (first | exact rfl | refine And.intro ?_ ?_)),?_⟩)⟩) fun h => absurd (of_decide_eq_false h) (by show ¬ ¬ (sn : Int)<=100; omega)
   show ownM x.a.os = ownM (x.a1.putR x.t 0).os
   rw [back]
  ·have e4 : sa = (x.pb 5 i j x.f2).chg.deq := s4
   have e5 : sf = { x.f2 with cls := 0,piece := 0,found := true,aep := x.a.c.now } := s5
   clear s4 s5
   subst e4 e5
   refine cP_intro (fun _ => ⟨⟨(x.pb 5 i j x.f2).chg.deq,{ x.f2 with cls := 0,piece := 0,found := true,aep := x.a.c.now },x.t⟩,⟨g.rok,g.tr⟩,(by repeat' (first | exact rfl | refine And.intro ?_ ?_)),rfl,.inr (.inr ⟨(i,j),⟨hz,ht⟩,⟨(by repeat' (first | exact rfl | refine And.intro ?_ ?_)),(by show ((6 + x.b.spnN : Nat) : Int) = sn; have s3 : sn = 6 + x.b.spnN := s3; omega)⟩,rfl⟩)⟩) fun h => absurd (of_decide_eq_false h) (by show ¬ ¬ (sn : Int)<=100; omega)
theorem runD_ok : CtrOk Tryz.prog 12 (runD fun x => GoodA x.a x.t/\x.v.size<=400/\(x.a.l.n ≠ 0->x.a.n ≠ 0/\∃ ln,HeadOk x.a x.b ln)) := ctr_endL tt_ok mixed tblRun_ok annD 200 6 (fun _ => rfl) (fun _ => ⟨fun _ => rfl,fun _ => rfl,fun _ => rfl,trivial⟩) fun x hx => Eq.mp (runDVC_ok x) (runDVC_true (hd_iff.1 hx).1 (hd_iff.1 hx).2.1 (hd_iff.1 hx).2.2)
end
end Go.Proofs.YtpnhfbegboogbaaGreat
end
section
namespace Go.Proofs.YtpnhfbegboogbaaGreat
open Go SE
set_option linter.unusedSimpArgs false
theorem by_row {x : ZBy} (h : x.ok) (i : Nat) (hi : i < x.b.spnN) (q : Nat) (hq : q < 64 * (i + 1)) : x.b.enc q = bif Nat.blt q (64 * i) then x.b.enc q else x.d.b ((x.ln + i) * 193 + (q - 64 * i)) := by
 by_cases hh : q < 64 * i
 ·rw [nblt_iff.2 hh]; rfl
 ·rw [show Nat.blt q (64 * i) = false by rw [blt_iff_decide]; exact decide_eq_false hh,cond_false,← h.2.2.2.2 q (by omega),show q / 64 = i by omega,show q % 64 = q - 64 * i by omega]
theorem bytesSVC_true (x : ZBy) (hx : x.ok) : bytesSVC x := by
 obtain ⟨o1,o2,o3,o4,o5⟩ := id hx
 have hs := spnN_le x.b
 have h1 := spnN_pos o2
 have hn := o1.1
 unfold bytesSVC
 simp only [TV_w6,TV_w24,TV_w1,TV_w5,TV_w20,TV_w22,TV_w2]
 simp only [hd_iff,and_true,true_and,Nat.zero_add,Nat.add_zero,unit_ex,unit_all,true_implies,implies_true,Int.toNat_natCast,eq_self,and_self,eff_nil,cond_one,cond_int,ones_int,row_int,ones_bool,row_bool,cond_bool,ble0,Bool.true_and,Nat.sub_zero,List.getElem?_cons_zero,Option.some.injEq,Value.bool.injEq,Value.int.injEq,exists_eq_left',exists_eq_left]
 refine ⟨cP_intro (fun _ => ⟨by unfold I64; omega,⟨x.d,x.ln⟩,⟨o1,by show x.ln < x.d.n; omega⟩,by show (x.ln : Int) = x.ln + 0; omega,rfl,by decide,by decide,by unfold I64; omega,1,⟨Nat.le_refl 1,h1⟩,by omega,⟨rfl,rfl⟩,⟨rfl,fun q hq => ?_⟩,rfl⟩) fun h => absurd (of_decide_eq_false h) (by omega),fun s hs' => cP_intro (fun h => ?_) fun h => ?_⟩
 ·show x.b.enc q = x.d.b (x.ln * 193 + q)
  have := by_row hx 0 (by omega) q (by omega)
  rwa [show Nat.blt q (64 * 0) = false by rw [blt_iff_decide]; exact decide_eq_false (by omega),cond_false,Nat.add_zero,Nat.mul_zero,Nat.sub_zero] at this
 ·have h := of_decide_eq_true h
  refine ⟨by unfold I64; omega,⟨x.d,x.ln + s⟩,⟨o1,by show x.ln + s < x.d.n; omega⟩,by show ((x.ln + s : Nat) : Int) = x.ln + s; omega,rfl,by decide,by omega,by unfold I64; omega,s + 1,⟨by omega,by omega⟩,by omega,⟨by omega,by omega⟩,⟨by omega,fun q hq => by_row hx s (by omega) q hq⟩,rfl⟩
 ·have h := of_decide_eq_false h
  have : s = x.b.spnN := by omega
  subst this
  first | rfl | exact ⟨rfl,rfl⟩ | trivial
theorem tblV1_ok : TblOk Tryz.prog tblV1 := .cons spanT_ok (.cons (ctrT_ok load_ok) .nil)
theorem bytesS_ok : CtrOk Tryz.prog 90 bytesS := det_end tt_ok mixed tblV1_ok annB 200 6 (fun _ => rfl) (fun _ => rfl) fun x hx => Eq.mp (bytesSVC_ok x) (bytesSVC_true x (hd_iff.1 hx))
theorem valueSVC_true (x : ZBy) (hx : x.ok) : valueSVC x := by
 obtain ⟨o1,o2,o3,o4,o5⟩ := id hx
 have hde : (ZDe.mk x.b.cls x.b.id x.b.ver x.b.epoch x.b.value x.b.enc).b = x.b := re_de (x := ⟨x.d,0,f0 ⟨#[]⟩ ⟨#[]⟩,x.b,x.ln,0⟩) o2 o3
 have hv := re_b o2 o3
 unfold valueSVC
 simp only [TV_w17,TV_w5,TV_w1,TV_w20,TV_w22,TV_w2]
 simp only [hd_iff,and_true,true_and,Nat.zero_add,Nat.add_zero,unit_ex,unit_all,true_implies,implies_true,Int.toNat_natCast,eq_self,and_self,eff_nil,cond_one,cond_int,ones_int,row_int,ones_bool,row_bool,cond_bool,ble0,Bool.true_and,Nat.sub_zero,List.getElem?_cons_zero,Option.some.injEq,Value.bool.injEq,Value.int.injEq,exists_eq_left',exists_eq_left]
 refine ⟨x,hx,⟨rfl,rfl⟩,rfl,⟨x.b.cls,x.b.id,x.b.ver,x.b.epoch,x.b.value,x.b.enc⟩,⟨by rw [hde]; exact o2,by show x.b.value.size < _; omega,fun k _ => by rw [hde]⟩,by rw [hde],⟨by rw [hde],fun q _ => rfl⟩,?_⟩
 rw [beq_self_eq_true,beq_self_eq_true,cP_true,cP_true]
 first | rfl | exact ⟨rfl,rfl⟩
theorem tblV2_ok : TblOk Tryz.prog tblV2 := .cons (ctrT_ok bytesS_ok) (.cons (ctrT_ok dec2_ok) .nil)
theorem valueS_ok : CtrOk Tryz.prog 42 valueS := det_end tt_ok mixed tblV2_ok noA 200 6 (fun _ => rfl) (fun _ => rfl) fun x hx => Eq.mp (valueSVC_ok x) (valueSVC_true x (hd_iff.1 hx))
theorem shelfSVC_true (x : ZSh) (hx : x.l.ok/\x.l.n < 1099511627776/\qok x.d x.l x.b) : shelfSVC x := by
 obtain ⟨o1,o2,o3⟩ := hx
 unfold shelfSVC
 simp only [TV_w21,TV_w18,TV_w14,TV_w13,TV_w9,TV_w17,TV_w6,TV_w22,TV_w1,TV_w3,TV_w2,TV_w5,TV_w20,TV_w15,TV_w24]
 simp only [hd_iff,and_true,true_and,Nat.zero_add,Nat.add_zero,unit_ex,unit_all,true_implies,implies_true,Int.toNat_natCast,eq_self,and_self,eff_nil,cond_one,cond_int,ones_int,row_int,ones_bool,row_bool,cond_bool,ble0,Bool.true_and,Nat.sub_zero,List.getElem?_cons_zero,Option.some.injEq,Value.bool.injEq,Value.int.injEq,exists_eq_left',exists_eq_left]
 refine ⟨x.l,o1,rfl,fun h0 => ⟨.inl ⟨h0,rfl⟩,fun s hs => by omega⟩,fun h0 => ⟨cP_intro (fun h => ?_) fun h => absurd (of_decide_eq_false h) (by omega),fun s hs => cP_intro (fun h => ?_) fun h => ?_⟩⟩
 ·obtain ⟨ln,hl,hb⟩ := o3 0 (by omega)
  refine ⟨⟨by decide,by omega⟩,by omega,⟨x.d,x.b 0,ln⟩,hb,?_,rfl,by decide,by unfold I64; omega,1,⟨Nat.le_refl 1,by omega⟩,by omega,rfl,⟨rfl,fun q hq => by obtain rfl : q = 0 := (by omega); rfl⟩,rfl,rfl⟩
  rw [hl]; exact ⟨rfl,rfl,rfl,rfl,rfl⟩
 ·have h := of_decide_eq_true h
  obtain ⟨ln,hl,hb⟩ := o3 s (by omega)
  refine ⟨⟨by omega,by omega⟩,by omega,⟨x.d,x.b s,ln⟩,hb,?_,rfl,by rfl,by omega,by unfold I64; omega,s + 1,⟨by omega,by omega⟩,by omega,by omega,⟨rfl,fun q hq => ?_⟩,by omega,rfl⟩
  ·rw [hl]; exact ⟨rfl,rfl,rfl,rfl,rfl⟩
  ·by_cases e : q = s
   ·subst e; show _ = bif Nat.beq q q then _ else _; rw [Nat.beq_refl]; rfl
   ·show _ = bif Nat.beq q s then _ else _; rw [nbeq_decide,decide_eq_false e]; rfl
 ·have h := of_decide_eq_false h
  have : s = x.l.n := by omega
  exact .inr ⟨h0,this.symm,rfl,this.symm⟩
theorem tblV3_ok : TblOk Tryz.prog tblV3 := .cons (ctrT_ok tall_ok) (.cons (ctrT_ok lineAll_ok) (.cons (ctrT_ok valueS_ok) .nil))
theorem shelfS_ok : CtrOk Tryz.prog 22 shelfS := ctr_endL tt_ok mixed tblV3_ok annS 200 6 (fun _ => rfl) (fun _ => ⟨fun _ => rfl,fun _ => rfl,trivial⟩) fun x hx => Eq.mp (shelfSVC_ok x) (shelfSVC_true x (hd_iff.1 hx))
end Go.Proofs.YtpnhfbegboogbaaGreat
end
