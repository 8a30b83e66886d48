import Derived.Test.YtpnhfbegboogbaaGreatQa
import Derived.Test.YtpnhfbegboogbaaGreatQb
import Derived.Test.YtpnhfbegboogbaaGreatQc
import Derived.Test.YtpnhfbegboogbaaGreatQd
import Derived.Test.YtpnhfbegboogbaaGreatQe
import Derived.Test.YtpnhfbegboogbaaGreatQf
import Derived.Test.YtpnhfbegboogbaaGreatQg
import Derived.Test.YtpnhfbegboogbaaGreatQh
import Derived.KernelRfl
set_option linter.unusedVariables false
set_option linter.unusedSimpArgs false
set_option linter.unnecessarySimpa false
section
namespace Go.Proofs.YtpnhfbegboogbaaGreat
open Go SE
theorem own_ext {A B : Own} (h : ∀ w a S,A.holds w a S ↔ B.holds w a S) : A = B := by
 obtain ⟨f,p⟩ := A
 obtain ⟨g,q⟩ := B
 have : f = g := by funext w a S; exact propext (h w a S)
 subst this; rfl
def SameO : Option AObj->Option AObj->Prop
 | none,none => True
 | some x,some y => isRo x = isRo y/\∀ ρ w T a S,OHolds ρ w T a S x ↔ OHolds ρ w T a S y
 | _,_ => False
theorem SameO.some {x : Option AObj} {o : AObj} (h : SameO x (some o)) : ∃ y,x = .some y/\isRo y = isRo o/\∀ ρ w T a S,OHolds ρ w T a S y ↔ OHolds ρ w T a S o := by
 cases x with
 | none => exact h.elim
 | some y => exact ⟨y,rfl,h⟩
theorem own_go {os os' : List AObj} (hl : os.length = os'.length) (hs : ∀ i : Nat,SameO os[i]? os'[i]?) {w : World} {a : SE.Loc} {S : Nat->Prop} (h : (ownM0 os).holds w a S) : (ownM0 os').holds w a S := by
 obtain ⟨_,ρ,rfl,h0,hro,ha,T,h1,h2,h3,h4⟩ := h
 have fw : ∀ {i o'},(hOf os').get i = some o'->∃ o,(hOf os).get i = some o/\isRo o = isRo o'/\∀ ρ w T a S,OHolds ρ w T a S o ↔ OHolds ρ w T a S o' := fun {i o'} h => by
  rw [hOf_get] at h
  have q := hs i
  rw [h] at q
  obtain ⟨o,e,r⟩ := q.some
  exact ⟨o,by rw [hOf_get]; exact e,r⟩
 refine ⟨_,ρ,rfl,by rw [hOf_next,← hl]; exact h0,fun i o' h => ?_,ha,T,fun i o' h => ?_,fun i j o o' b e1 e2 => ?_,fun i o' b h => ?_,fun i hi => h4 i (by rw [hOf_next] at hi ⊢; rw [hl]; exact hi)⟩
 ·obtain ⟨o,e,r,_⟩ := fw h
  rw [← r]; exact hro _ _ e
 ·obtain ⟨o,e,_,r⟩ := fw h
  obtain ⟨x,q1,q2⟩ := h1 i o e
  exact ⟨x,q1,(r _ _ _ _ _).1 q2⟩
 ·obtain ⟨p,f1,_⟩ := fw e1
  obtain ⟨q,f2,_⟩ := fw e2
  exact h2 i j p q b f1 f2
 ·obtain ⟨o,e,_⟩ := fw h
  exact h3 i o b e
theorem SameO.symm {x y : Option AObj} (h : SameO x y) : SameO y x := by
 cases x <;> cases y
 ·trivial
 ·exact h.elim
 ·exact h.elim
 ·exact ⟨h.1.symm,fun ρ w T a S => (h.2 ρ w T a S).symm⟩
theorem SameO.rfl' {x : Option AObj} : SameO x x := by
 cases x
 ·trivial
 ·exact ⟨rfl,fun _ _ _ _ _ => Iff.rfl⟩
theorem ownM_same {os os' : List AObj} (hl : os.length = os'.length) (hs : ∀ i : Nat,SameO os[i]? os'[i]?) : ownM os = ownM os' := by
 rw [ownM_eq,ownM_eq]
 exact own_ext fun _ _ _ => ⟨own_go hl hs,own_go hl.symm fun i => (hs i).symm⟩
theorem ownM_cells {x : AObj} {e : TypeId} {c c' : Cs} (hz : c.size = c'.size) (hg : ∀ k,c.get k = c'.get k) : ownM [x,.cells e c] = ownM [x,.cells e c'] := by
 refine ownM_same rfl fun i => ?_
 match i with
 | 0 => exact .rfl'
 | 1 =>
  refine ⟨rfl,fun ρ w T a S => ?_⟩
  simp only [OHolds,CRel,hz,hg]
 | n + 2 => exact .rfl'
def poolW (p : ZPool) (i : Nat) : List Value := [.int .i64 (p.cls i),.bool (p.tk i 0),.bool (p.tk i 1),.bool (p.tk i 2),.bool (p.tk i 3),.bool (p.tk i 4),.bool (p.tk i 5),.bool (p.tk i 6),.bool (p.tk i 7),.int .i64 (p.cnt i)]
noncomputable def ZPool.osW (p : ZPool) : List AObj := [.cells 188 (.av [.slE 1 0 10 p.n p.n]),.cells 119 (.row 10 p.n (poolW p) [])]
theorem pool_own (p : ZPool) : ownM p.os = ownM p.osW := by
 refine ownM_cells ?_ fun k => ?_
 ·simp [Cs.size]
 ·show (bif Nat.blt k (p.n * 10 * 1) then (match (Cs.eff (poolR p) [] (k / 1))[k % 1]? with | some v => some (AV.lit v) | none => some AV.any) else none) = (bif Nat.blt k (p.n * 10) then (match (Cs.eff (poolW p) [] (k / 10))[k % 10]? with | some v => some (AV.lit v) | none => some AV.any) else none)
  rw [Nat.mul_one,Nat.div_one,Nat.mod_one]
  congr 1
  show (match (poolR p k)[0]? with | some v => some (AV.lit v) | none => some .any) = (match (poolW p (k / 10))[k % 10]? with | some v => some (AV.lit v) | none => some .any)
  rw [poolR_eq]
  have h : k % 10 = 0 ∨ k % 10 = 1 ∨ k % 10 = 2 ∨ k % 10 = 3 ∨ k % 10 = 4 ∨ k % 10 = 5 ∨ k % 10 = 6 ∨ k % 10 = 7 ∨ k % 10 = 8 ∨ k % 10 = 9 := by omega
  rcases h with h | h | h | h | h | h | h | h | h | h <;> rw [h] <;> rfl
noncomputable def takenW : PCtr := pdet ZPool (fun _ => [.ptr 0 0]) 1 (fun p => [.m p.osW]) (fun p => Hd (p.ok/\∀ i,i < p.n->p.cls i = -1)) (fun _ => nilS) 1 (fun p => [.m p.osW])
end Go.Proofs.YtpnhfbegboogbaaGreat
end
section
namespace Go.Proofs.YtpnhfbegboogbaaGreat
open Go SE
def LZ_w1 (a : ZPool) : Prop := a.n = a.n/\∀ q : Nat,q < a.n->[Value.int .i64 (a.cls q),Value.bool (a.tk q 0),Value.bool (a.tk q 1),Value.bool (a.tk q 2),Value.bool (a.tk q 3),Value.bool (a.tk q 4),Value.bool (a.tk q 5),Value.bool (a.tk q 6),Value.bool (a.tk q 7),Value.int .i64 (a.cnt q)] = [Value.int .i64 (a.cls q),Value.bool (a.tk q 0),Value.bool (a.tk q 1),Value.bool (a.tk q 2),Value.bool (a.tk q 3),Value.bool (a.tk q 4),Value.bool (a.tk q 5),Value.bool (a.tk q 6),Value.bool (a.tk q 7),Value.int .i64 (a.cnt q)]
def LZ_w5 : Prop := Value.slice none 0 0 = Value.slice none 0 0
def takenWVC (x : ZPool) : Prop :=
 (∃ s : Nat,Hd (s<=x.n)/\True/\((s : Int) = 0/\LZ_w5/\True)/\LZ_w1 x/\((0 = 0/\x.n = x.n/\x.n = x.n)/\True)/\True)/\(∀ s : Nat,Hd (s<=x.n)->cP (decide ((s : Int) < (x.n : Int))) ((0<=(s : Int)/\(s : Int) < (x.n : Int))/\0 + s < x.n/\∃ x_1 : ZStarts,Hd (x_1.k < 32/\x_1.c = (-(1 : Int)))/\((x_1.k : Int) = (s : Int)/\x_1.c = x.cls (0 + s)/\True)/\True/\∀ y : Unit,True->I64 ((s : Int) + 1)/\∃ s_1 : Nat,Hd (s_1<=x.n)/\x.n - s_1 < x.n - s/\((s_1 : Int) = (s : Int) + 1/\LZ_w5/\True)/\LZ_w1 x/\((0 = 0/\x.n = x.n/\x.n = x.n)/\True)/\True) (∃ y : Unit,True/\LZ_w5/\((0 = 0/\x.n = x.n/\x.n = x.n)/\True)/\LZ_w1 x/\True))/\True
theorem takenWVC_ok (x : ZPool) : takenWVC x = wpF Tryz.prog [(39,ctrT startsN)] tt (annTk x) 200 6 20 (takenW.args x) (hO 2 (flatP 1 (takenW.l x))) (fun v h' => endsPK 1 x v h' takenW.outs) := by kernel_rfl
end Go.Proofs.YtpnhfbegboogbaaGreat
end
section
namespace Go.Proofs.YtpnhfbegboogbaaGreat
open Go SE
set_option linter.unusedSimpArgs false
theorem takenWVC_true (x : ZPool) (hx : x.ok/\∀ i,i < x.n->x.cls i = -1) : takenWVC x := by
 obtain ⟨⟨h1,h2,_⟩,hc⟩ := hx
 unfold takenWVC
 simp only [LZ_w5,LZ_w1]
 simp only [hd_iff,and_true,true_and,Nat.zero_add,Nat.add_zero,unit_ex,unit_all,true_implies,implies_true,Int.toNat_natCast,eq_self,and_self,eff_nil,cond_one,cond_int,ones_int,row_int,ones_bool,row_bool,cond_bool,ble0,Bool.true_and,Nat.sub_zero,List.getElem?_cons_zero,Option.some.injEq,Value.bool.injEq,Value.int.injEq,exists_eq_left',exists_eq_left]
 refine ⟨⟨0,Nat.zero_le _,rfl⟩,fun s hs => cP_intro (fun h => ?_) fun _ => trivial⟩
 have h : s < x.n := by have := of_decide_eq_true h; omega
 exact ⟨by omega,h,⟨s,-1⟩,⟨by show s < 32; omega,rfl⟩,⟨rfl,(hc s h).symm⟩,by unfold I64; omega,s + 1,by omega,by omega,rfl⟩
theorem takenW_ok : CtrOk Tryz.prog 20 takenW.ctr := pctr_end tt_ok mixed (.cons (ctrT_ok startsN_ok) .nil) 2 annTk 200 6 (fun _ => ⟨rfl,rfl,rfl,rfl⟩) fun x hx => Eq.mp (takenWVC_ok x) (takenWVC_true x (hd_iff.1 hx))
structure ZLg where
 v : ByteArray
 key : ByteArray
noncomputable def tblLl : WTbl := tblL ++ [(19,ctrT (openO ZArn.osN 10 3).ctr),(20,ctrT takenW.ctr)]
theorem tblLl_ok : TblOk Tryz.prog tblLl := .append tblL_ok (.cons (ctrT_ok poolO_ok) (.cons (ctrT_ok takenW_ok) .nil))
end Go.Proofs.YtpnhfbegboogbaaGreat
end
section
namespace Go.Proofs.YtpnhfbegboogbaaGreat
open Go SE
def MB_w3 : Prop := ByteArray.mk #[] = ByteArray.mk #[]/\Value.slice none 0 0 = Value.slice none 0 0/\True
def MB_w1 (a : ZRun) : Prop := 0 = 0/\(a.t : Int) = 0/\((5 : Int) = 5/\a.key = ByteArray.mk #[]/\a.v = ByteArray.mk #[]/\MB_w3)/\True
def MB_w6 (a : ZRun) : Prop := Hd (GoodA a.a a.t/\a.v.size<=400/\(a.a.l.n ≠ 0->a.a.n ≠ 0/\∃ ln : Nat,@HeadOk a.a a.b ln))
def longVC (x : ZLg) : Prop :=
 cP (decide ((x.v.size : Int) > (600 : Int))) (true = true/\True) (cP (decide ((x.key.size : Int) > (600 : Int))) (true = true/\True) (∃ x_1 : ZNew,Hd (10<=x_1.n/\x_1.n<=258/\1<=x_1.t/\x_1.t<=4)/\((x_1.n : Int) = 26/\(x_1.t : Int) = 1/\True)/\True/\∀ y : DevM,Hd (y.ok/\y.n = x_1.n/\y.st = 2/\y.fl = 2/\y.fe = 1)->∃ x_2 : ZRun,Hd (GoodA x_2.a x_2.t)/\(0 = 0/\(x_2.t : Int) = 0/\((4 : Int) = 4/\x_2.key = x.key/\x_2.v = x.v/\MB_w3)/\True)/\(ownM x_2.a.os = ownM (ZArn.osN (newArn x_1.n x_1.t y))/\True)/\∀ y_1 : ZAns,Hd (resE x_2 y_1)->cP (decide ((x.v.size : Int) > (400 : Int))) (cP (BEq.beq y_1.code (5 : Int)) (∃ x_3 : ZArn,Hd True/\(0 = 0/\True)/\(ownM x_3.osN = ownM y_1.a.os/\True)/\∀ y_2 : Unit,True->∃ x_4 : ZPool,Hd (x_4.ok/\∀ i : Nat,i < x_4.n->x_4.cls i = (-(1 : Int)))/\(0 = 0/\True)/\(ownM x_4.osW = ownM x_3.p.os/\True)/\∀ y_3 : Unit,True->true = true/\True) (true = false/\True)) (∃ x_3 : ZRun,MB_w6 x_3/\MB_w1 x_3/\(ownM x_3.a.os = ownM y_1.a.os/\True)/\∀ y_2 : ZAns,Hd (resD x_3 y_2)->∃ x_4 : ZRun,MB_w6 x_4/\MB_w1 x_4/\(ownM x_4.a.os = ownM y_2.a.os/\True)/\∀ y_3 : ZAns,Hd (resD x_4 y_3)->cP (BEq.beq y_1.code (0 : Int)) (cP (Bool.not y_1.found) (cP y_2.found (cP (BEq.beq (ByteArray.toList y_2.v) (ByteArray.toList x.v)) (cP (Bool.not y_3.found) (cP (BEq.beq y_3.code (0 : Int)) (true = true/\True) (true = false/\True)) (true = false/\True)) (true = false/\True)) (true = false/\True)) (true = false/\True)) (true = false/\True))))
theorem longVC_ok (x : ZLg) : longVC x = wpF Tryz.prog tblLl tt (noA x) 200 6 4 [.lit (.string x.v),.lit (.string x.key)] (hO 0 []) (fun v h' => endP 0 (boo true) [] v h') := by kernel_rfl
end Go.Proofs.YtpnhfbegboogbaaGreat
end
section
namespace Go.Proofs.YtpnhfbegboogbaaGreat
open Go SE
set_option linter.unusedSimpArgs false
theorem fresh_ok : (newPool 3 3).ok := ⟨by decide,by decide,fun i hi => by rw [show (newPool 3 3).cls i = -1 from if_pos hi]; exact ⟨by decide,by decide,Int.le_refl 0,show (0 : Int)<=8 by decide⟩⟩
set_option maxRecDepth 20000 in
theorem longVC_true (x : ZLg) : longVC x := by
 unfold longVC
 simp only [MB_w3,MB_w6,MB_w1]
 simp only [hd_iff,and_true,true_and,Nat.zero_add,Nat.add_zero,unit_ex,unit_all,true_implies,implies_true,Int.toNat_natCast,eq_self,and_self,eff_nil,cond_one,cond_int,ones_int,row_int,ones_bool,row_bool,cond_bool,ble0,Bool.true_and,Nat.sub_zero,List.getElem?_cons_zero,Option.some.injEq,Value.bool.injEq,Value.int.injEq,exists_eq_left',exists_eq_left]
 refine cP_intro (fun _ => trivial) fun _ => cP_intro (fun _ => trivial) fun _ => ?_
 refine ⟨⟨26,1⟩,by decide,⟨rfl,rfl⟩,fun d hd => ?_⟩
 have g0 := good_new (n := 26) (t := 0) (T := 1) (m := 2) hd.1 hd.2.1 hd.2.2.1 rfl (by decide) (by decide) (by decide) (fun _ => zB)
 refine ⟨⟨newArn 26 1 d,0,x.key,x.v,zB⟩,g0.A (by decide),⟨rfl,rfl,rfl⟩,new_own _ _ _,fun y1 r1 => cP_intro (fun h => ?_) fun h => ?_⟩
 ·have h : 400 < x.v.size := by have := of_decide_eq_true h; omega
  rcases r1 with ⟨_,c1,_,_,c5⟩ | ⟨h',_⟩ | ⟨h',_⟩
  ·rw [c1]
   exact cP_intro (fun _ => ⟨newArn 26 1 d,by rw [c5,new_own],newPool 3 3,⟨fresh_ok,fun i hi => if_pos hi⟩,(pool_own _).symm⟩) fun h => absurd h (by decide)
  ·exact absurd (show x.v.size<=400 from h') (by omega)
  ·exact absurd (show x.v.size<=400 from h') (by omega)
 have h : x.v.size<=400 := by have := of_decide_eq_false h; omega
 rcases r1 with ⟨h',_⟩ | ⟨_,h',_⟩ | ⟨hv,c1,c2,_,_,i,j,ht,c5⟩
 ·exact absurd (show 400 < x.v.size from h') (by omega)
 ·exact absurd h' (fresh_room (n := 3) (by decide))
 have ht : (newPool 3 3).takes (ned x.v.size) i j := ht
 have g1 := good_enq g0 (by decide) x.key x.v zB hv ht
 have c5 : y1.a = ZRun.aE ⟨newArn 26 1 d,0,x.key,x.v,zB⟩ i j := c5
 have hp : y1.a.p = (newPool 3 3).take (ned x.v.size) i j := by rw [c5]; rfl
 have hl : y1.a.l.n = 1 := by rw [c5]; exact push_n _ _
 rw [← c5] at g1
 have hij := fresh_takes (n := 3) (ned_ok hv).1 ht
 generalize hB : pushB (fun _ => zB) (newArn 26 1 d).l.n _ = B at g1
 have hB0 : (B 0).value = x.v := by rw [← hB]; rfl
 refine ⟨⟨y1.a,0,⟨#[]⟩,⟨#[]⟩,B 0⟩,⟨g1.A (by decide),Nat.zero_le _,fun hz => g1.head hz⟩,⟨rfl,rfl,rfl⟩,rfl,fun y2 r2 => ?_⟩
 rcases r2 with ⟨h',_⟩ | ⟨_,h',_⟩ | ⟨hn,d1,d2,d3,_,i2,j2,ht2,d5⟩
 ·exact absurd (hl.symm.trans h') (by decide)
 ·have h' : ∀ i,i < y1.a.p.n->y1.a.p.cls i ≠ -1/\_ := h'
  rw [hp] at h'
  obtain ⟨rfl,rfl⟩ := hij
  exact absurd rfl (h' 1 (show 1 < 3 by decide)).1
 have g2 := good_deq g1 (by decide) ⟨#[]⟩ ⟨#[]⟩ (B 0) (Nat.zero_le _) hn rfl ht2
 have d5 : y2.a = ZRun.aD ⟨y1.a,0,⟨#[]⟩,⟨#[]⟩,B 0⟩ i2 j2 := d5
 rw [← d5] at g2
 have hl2 : y2.a.l.n = 0 := by rw [d5]; exact (pop_n hn).trans (by show y1.a.l.n - 1 = 0; omega)
 refine ⟨⟨y2.a,0,⟨#[]⟩,⟨#[]⟩,B 1⟩,⟨g2.A (by decide),Nat.zero_le _,fun hz => g2.head hz⟩,⟨rfl,rfl,rfl⟩,rfl,fun y3 r3 => ?_⟩
 rcases r3 with ⟨_,e1,e2,_,_⟩ | ⟨h',_⟩ | ⟨h',_⟩
 ·rw [c1,c2,d2,d3,e1,e2]
  have hb : (B 0).value = x.v := hB0
  show cP _ (cP _ (cP _ (cP (BEq.beq (ByteArray.toList (B 0).value) (ByteArray.toList x.v)) _ _) _) _) _
  rw [hb]
  exact cP_intro (fun _ => cP_intro (fun _ => cP_intro (fun _ => cP_intro (fun _ => cP_intro (fun _ => cP_intro (fun _ => trivial) fun h => absurd h (by decide)) fun h => absurd h (by decide)) fun h => absurd h (by rw [beq_self_eq_true]; decide)) fun h => absurd h (by decide)) fun h => absurd h (by decide)) fun h => absurd h (by decide)
 ·exact absurd hl2 h'
 ·exact absurd hl2 h'
theorem long_sp (x : ZLg) : Sp Tryz.prog 4 [.lit (.string x.v),.lit (.string x.key)] (hO 0 []) (fun v _ => v = boo true) :=
 (sp_end tt_ok mixed tblLl_ok (noA x) 200 6 (v0 := boo true) (os := []) (Eq.mp (longVC_ok x) (longVC_true x))).mono fun _ _ hh => hh.1
end Go.Proofs.YtpnhfbegboogbaaGreat
end
