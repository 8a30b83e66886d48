import Derived.Test.YtpnhfbegboogbaaGreatQa
import Derived.Test.YtpnhfbegboogbaaGreatQb
import Derived.Test.YtpnhfbegboogbaaGreatQc
import Derived.Test.YtpnhfbegboogbaaGreatQd
import Derived.Test.YtpnhfbegboogbaaGreatRows
import Derived.KernelRfl
set_option linter.unusedVariables false
set_option linter.unusedSimpArgs false
set_option linter.unnecessarySimpa false
section
namespace Go.Proofs.YtpnhfbegboogbaaGreat
open Go SE
noncomputable def tt : TT := mkTI Tryz.prog
theorem tt_ok : tt.ok Tryz.prog := fun _ _ h => h
set_option maxRecDepth 20000
theorem mixed : Tryz.prog.follows .mixedOrders = true := by kernel_rfl
def i64 (n : Int) : AV := .lit (.int .i64 n)
end Go.Proofs.YtpnhfbegboogbaaGreat
end
section
namespace Go.Proofs.YtpnhfbegboogbaaGreat
open Go SE
def x32 (a b : Int) : Int := IntKind.u32.wrap ((BitVec.ofInt 32 a ^^^ BitVec.ofInt 32 b).toNat : Nat)
def bitM (c : Int) : Int := bif decide (c % 2 = 0) then c / 2 else x32 (c / 2) 3988292384
def bitsM (c : Int) : Nat->Int
 | 0 => c
 | k + 1 => bitM (bitsM c k)
def stepM (c x : Int) : Int := bitsM (x32 c x) 8
def U32 (c : Int) : Prop := 0<=c/\c < 4294967296
theorem wrap_u32 (z : Int) : U32 (IntKind.u32.wrap z) := by
 unfold IntKind.wrap U32
 simp [IntKind.bits,IntKind.signed]
 omega
theorem wrap_u32_id {z : Int} (h : U32 z) : IntKind.u32.wrap z = z := by
 unfold IntKind.wrap U32 at *
 simp [IntKind.bits,IntKind.signed]
 omega
theorem x32_U (a b : Int) : U32 (x32 a b) := wrap_u32 _
theorem bitM_U {c : Int} (h : U32 c) : U32 (bitM c) := by
 unfold bitM
 cases decide (c % 2 = 0)
 ·exact x32_U _ _
 ·unfold U32 at *; simp only [cond_true]; omega
theorem bitsM_U {c : Int} (h : U32 c) : ∀ k,U32 (bitsM c k)
 | 0 => h
 | k + 1 => bitM_U (bitsM_U h k)
def u32 (c : Int) : AV := .lit (.int .u32 c)
def stepC : Ctr := det (Int × Int) (fun p => [u32 p.1,.lit (.int .u8 p.2)]) 0 (fun _ => []) (fun p => U32 p.1/\0<=p.2/\p.2 < 256) (fun p => u32 (stepM p.1 p.2)) 0 (fun _ => [])
def anStep (p : Int × Int) : FuncId->Anns := fun f =>
 bif Nat.beq f 181 then (fun b fr h => bif Nat.beq b 0 then [{ σ := Nat,fr := fun k => [(5,i64 k),(0,u32 (bitsM (x32 p.1 p.2) k))],ob := fun _ => [],inv := fun k => k<=8,meas := fun k => 8 - k }] else []) else
 fun _ _ _ => []
end Go.Proofs.YtpnhfbegboogbaaGreat
end
section
namespace Go.Proofs.YtpnhfbegboogbaaGreat
open Go SE
def stepVC (p : Int × Int) : Prop :=
 (∃ s : Nat,s<=8/\True/\((s : Int) = 0/\bitsM (x32 p.1 p.2) s = IntKind.wrap .u32 ((@BitVec.toNat 32 (@HXor.hXor (@BitVec 32) (@BitVec 32) (@BitVec 32) (@instHXorOfXorOp (@BitVec 32) (@BitVec.instXorOp 32)) (@BitVec.ofInt 32 p.1) (@BitVec.ofInt 32 (IntKind.wrap .u32 p.2))) : Nat) : Int)/\True)/\True)/\(∀ s : Nat,s<=8->cP (decide ((s : Int) < 8)) (I64 ((s : Int) + 1)/\((2 : Int) = 0->False)/\cP (BEq.beq (Int.tmod (bitsM (x32 p.1 p.2) s) (2 : Int)) (0 : Int)) (((2 : Int) = 0->False)/\∃ s_1 : Nat,s_1<=8/\8 - s_1 < 8 - s/\((s_1 : Int) = (s : Int) + 1/\bitsM (x32 p.1 p.2) s_1 = IntKind.wrap .u32 (Int.tdiv (bitsM (x32 p.1 p.2) s) (2 : Int))/\True)/\True) (((2 : Int) = 0->False)/\∃ s_1 : Nat,s_1<=8/\8 - s_1 < 8 - s/\((s_1 : Int) = (s : Int) + 1/\bitsM (x32 p.1 p.2) s_1 = IntKind.wrap .u32 ((@BitVec.toNat 32 (@HXor.hXor (@BitVec 32) (@BitVec 32) (@BitVec 32) (@instHXorOfXorOp (@BitVec 32) (@BitVec.instXorOp 32)) (@BitVec.ofInt 32 (IntKind.wrap .u32 (Int.tdiv (bitsM (x32 p.1 p.2) s) (2 : Int)))) (@BitVec.ofInt 32 (3988292384 : Int))) : Nat) : Int)/\True)/\True)) (∃ y : Unit,True/\stepM p.1 p.2 = bitsM (x32 p.1 p.2) s/\True))/\True
theorem stepVC_ok (p : Int × Int) : stepVC p = wpF Tryz.prog [] tt (anStep p) 200 5 181 (stepC.args p) (hO stepC.k (stepC.os p)) (fun v h' => endsP stepC.k p v h' stepC.outs) := by kernel_rfl
end Go.Proofs.YtpnhfbegboogbaaGreat
end
section
namespace Go.Proofs.YtpnhfbegboogbaaGreat
open Go SE
theorem half {c : Int} (h : U32 c) : Int.tmod c 2 = c % 2/\IntKind.u32.wrap (Int.tdiv c 2) = c / 2 := by
 have e : Int.tdiv c 2 = c / 2 := Int.tdiv_eq_ediv_of_nonneg h.1
 refine ⟨Int.tmod_eq_emod_of_nonneg h.1,?_⟩
 rw [e]; exact wrap_u32_id (by unfold U32 at *; omega)
theorem stepVC_true (p : Int × Int) (hp : U32 p.1/\0<=p.2/\p.2 < 256) : stepVC p := by
 unfold stepVC
 have hw : IntKind.u32.wrap p.2 = p.2 := wrap_u32_id (by unfold U32; omega)
 have hx : ∀ a b,IntKind.u32.wrap ((BitVec.ofInt 32 a ^^^ BitVec.ofInt 32 b).toNat : Nat) = x32 a b := fun _ _ => rfl
 simp only [and_true,true_and,hw,hx]
 refine ⟨⟨0,by omega,rfl,rfl⟩,fun s hs => cP_intro (fun hb => ?_) (fun hb => ?_)⟩
 ·have hb := of_decide_eq_true hb
  obtain ⟨h1,h2⟩ := half (bitsM_U (x32_U p.1 p.2) s)
  rw [h1,h2]
  refine ⟨by unfold I64; omega,by omega,cP_intro (fun hc => ?_) (fun hc => ?_)⟩
  ·have hc : bitsM (x32 p.1 p.2) s % 2 = 0 := by simpa using hc
   exact ⟨by omega,s + 1,by omega,by omega,rfl,by simp [bitsM,bitM,hc]⟩
  ·have hc : bitsM (x32 p.1 p.2) s % 2 ≠ 0 := by simpa using hc
   exact ⟨by omega,s + 1,by omega,by omega,rfl,by simp only [bitsM,bitM,hc,decide_false,cond_false]⟩
 ·have : s = 8 := by have := of_decide_eq_false hb; omega
  subst this
  exact ⟨(),rfl⟩
theorem step_ok : CtrOk Tryz.prog 181 stepC := det_end tt_ok mixed TblOk.nil anStep 200 5 (fun _ => rfl) (fun _ => rfl) fun x hx => Eq.mp (stepVC_ok x) (stepVC_true x hx)
end Go.Proofs.YtpnhfbegboogbaaGreat
end
section
namespace Go.Proofs.YtpnhfbegboogbaaGreat
open Go SE
theorem eff_nil (g : Nat->List Value) (q : Nat) : Cs.eff g [] q = g q := rfl
theorem ble0 (q : Nat) : Nat.ble 0 q = true := by simp
theorem blt_iff_decide (a b : Nat) : Nat.blt a b = decide (a < b) := by
 by_cases h : a < b
 ·rw [nblt_iff.2 h]; simp [h]
 ·have : Nat.blt a b = false := by
   cases hb : Nat.blt a b with
   | false => rfl
   | true => exact absurd (nblt_iff.1 hb) h
  rw [this]; simp [h]
theorem ble_iff_decide (a b : Nat) : Nat.ble a b = decide (a<=b) := by
 by_cases h : a<=b
 ·rw [show Nat.ble a b = true by simpa using h]; simp [h]
 ·have : Nat.ble a b = false := by
   cases hb : Nat.ble a b with
   | false => rfl
   | true => exact absurd (by simpa using hb) h
  rw [this]; simp [h]
theorem bif_decide {α : Type} {p : Prop} [Decidable p] {x y : α} : (bif decide p then x else y) = if p then x else y := by by_cases h : p <;> simp [h]
theorem nbeq_decide (a b : Nat) : Nat.beq a b = decide (a = b) := by
 by_cases h : a = b
 ·subst h; simp
 ·rw [nbeq_ne h]; simp [h]
theorem cond_one {b : Bool} {x y : Value} : (bif b then [x] else [y]) = [bif b then x else y] := by cases b <;> rfl
theorem cond_int {b : Bool} {k : IntKind} {x y : Int} : (bif b then Value.int k x else Value.int k y) = .int k (bif b then x else y) := by cases b <;> rfl
theorem cond_bool {b : Bool} {x y : Bool} : (bif b then Value.bool x else Value.bool y) = .bool (bif b then x else y) := by cases b <;> rfl
theorem ones_int {k : IntKind} {x : Int} : ([Value.int k x].length.beq 1 && [Value.int k x].all Value.oneCell') = true := rfl
theorem ones_bool {x : Bool} : ([Value.bool x].length.beq 1 && [Value.bool x].all Value.oneCell') = true := rfl
theorem row_int {k : IntKind} {x y : Int} : ([Value.int k x] = [Value.int k y]) = (x = y) := by simp
theorem row_bool {x y : Bool} : ([Value.bool x] = [Value.bool y]) = (x = y) := by simp
def u8 (n : Int) : AV := .lit (.int .u8 n)
def u64 (n : Int) : AV := .lit (.int .u64 n)
def rowB (g : Nat->Int) (n : Nat) : Cs := .row 1 n (fun k => [.int .u8 (g k)]) []
structure Bys where
 g : Nat->Int
 q : Nat
 n : Nat
 N : Nat
namespace Bys
def ok (b : Bys) : Prop := b.q + b.n<=b.N/\b.n < 1099511627776/\∀ k,0<=b.g k/\b.g k < 256
def ro (b : Bys) : AObj := .ro (rowB b.g b.N)
def av (b : Bys) (i : Nat) : AV := .slR i b.q 1 b.n
end Bys
def foldB (c : Int) (g : Nat->Int) : Nat->Int
 | 0 => c
 | i + 1 => stepM (foldB c g i) (g i)
noncomputable def addM (c : Int) (g : Nat->Int) (n : Nat) : Int := hide (x32 (foldB (x32 c 4294967295) g n) 4294967295)
theorem foldB_U {c : Int} (h : U32 c) (g : Nat->Int) : ∀ n,U32 (foldB c g n)
 | 0 => h
 | n + 1 => bitsM_U (x32_U _ _) 8
theorem addM_U (c : Int) (g : Nat->Int) (n : Nat) : U32 (addM c g n) := by unfold addM; rw [hide_eq]; exact x32_U _ _
structure AddX where
 c : Int
 b : Bys
noncomputable def addC : Ctr := det AddX (fun x => [u32 x.c,x.b.av 0]) 1 (fun x => [x.b.ro]) (fun x => Hd (U32 x.c/\x.b.ok)) (fun x => u32 (addM x.c (fun k => x.b.g (x.b.q + k)) x.b.n)) 1 (fun x => [x.b.ro])
def anAdd (x : AddX) : FuncId->Anns := fun f =>
 bif Nat.beq f 139 then (fun b fr h => bif Nat.beq b 0 then [{ σ := Nat,fr := fun k => [(11,i64 k),(0,u32 (foldB (x32 x.c 4294967295) (fun k => x.b.g (x.b.q + k)) k))],ob := fun _ => [],inv := fun k => k<=x.b.n,meas := fun k => x.b.n - k }] else []) else
 fun _ _ _ => []
def putG (g : Nat->Int) (at_ w : Nat) (v : Int) (k : Nat) : Int := if at_<=k/\k < at_ + w then v / 256 ^ (k - at_) % 256 else g k
structure PutX where
 b : Bys
 at_ : Nat
 w : Nat
 v : Int
 c : Nat
def PutX.ok (x : PutX) : Prop := x.b.ok/\x.at_ + x.w<=x.b.n/\1<=x.w/\x.w<=8/\0<=x.v/\x.v < 256 ^ x.w
def PutX.res (x : PutX) : Nat->Int := putG (fun k => x.b.g (x.b.q + k)) x.at_ x.w x.v
noncomputable def putC : Ctr := det PutX (fun x => [.slE 0 x.b.q 1 x.b.n x.c,i64 x.at_,i64 x.w,u64 x.v]) 1 (fun x => [x.b.ro]) (fun x => Hd x.ok) (fun x => .tup [.slW 1 0 1 x.b.n,i64 0]) 2 (fun x => [x.b.ro,.room 5 (rowB x.res x.b.n)])
def anPut (x : PutX) : FuncId->Anns := fun f =>
 bif Nat.beq f 180 then (fun b fr h => bif Nat.beq b 0 then [{ σ := Nat,fr := fun k => [(32,i64 k)],ob := fun k => [(1,none),(2,some (.room 5 (rowB (putG (fun k => x.b.g (x.b.q + k)) x.at_ k x.v) x.b.n)))],inv := fun k => k<=x.w,meas := fun k => x.w - k,nx := 0 }] else []) else
 fun _ _ _ => []
end Go.Proofs.YtpnhfbegboogbaaGreat
end
section
namespace Go.Proofs.YtpnhfbegboogbaaGreat
open Go SE
def BB_w9 (a : Bys) : Prop := rowB a.g a.N = rowB a.g a.N/\true = true
def BB_w1 (a : PutX) : Prop := a.b.q + a.b.n<=a.b.N/\cP (Nat.beq a.b.n 0) ((∃ s : Nat,s<=a.w/\True/\((s : Int) = 0/\True)/\BB_w9 a.b/\True)/\(∀ s : Nat,s<=a.w->cP (decide ((s : Int) < (a.w : Int))) (I64 ((a.at_ : Int) + (s : Int))/\I64 (8 * (s : Int))/\0<=8 * (s : Int)/\(0<=(a.at_ : Int) + (s : Int)/\(a.at_ : Int) + (s : Int) < 0)/\False) (∃ y : Unit,True/\((a.b.n = 0/\0 = 0/\0 = 0)/\(0 : Int) = 0/\True)/\BB_w9 a.b/\False/\True))/\True) ((2 * (0 + a.b.n) + 1000) * 1<=281474976710656/\(∃ s : Nat,s<=a.w/\True/\((s : Int) = 0/\True)/\(a.b.n = 0 + a.b.n/\∀ q : Nat,q < a.b.n->[Value.int .u8 (putG (fun (k : Nat) => a.b.g (a.b.q + k)) a.at_ s a.v q)] = [Value.int .u8 (a.b.g (a.b.q + (q - 0)))])/\BB_w9 a.b/\True)/\(∀ s : Nat,s<=a.w->cP (decide ((s : Int) < (a.w : Int))) (I64 ((a.at_ : Int) + (s : Int))/\I64 (8 * (s : Int))/\0<=8 * (s : Int)/\(0<=(a.at_ : Int) + (s : Int)/\(a.at_ : Int) + (s : Int) < ((0 + a.b.n : Nat) : Int))/\0 + Int.toNat ((a.at_ : Int) + (s : Int)) < a.b.n/\I64 ((s : Int) + 1)/\∃ s_1 : Nat,s_1<=a.w/\a.w - s_1 < a.w - s/\((s_1 : Int) = (s : Int) + 1/\True)/\(a.b.n = a.b.n/\∀ q : Nat,q < a.b.n->[Value.int .u8 (putG (fun (k : Nat) => a.b.g (a.b.q + k)) a.at_ s_1 a.v q)] = Cs.eff (fun (k : Nat) => [Value.int .u8 (putG (fun (k_1 : Nat) => a.b.g (a.b.q + k_1)) a.at_ s a.v k)]) [(0 + Int.toNat ((a.at_ : Int) + (s : Int)),[Value.int .u8 (IntKind.wrap .u8 (Int.fdiv a.v (@HPow.hPow Int Nat Int (@instHPow Int Nat (@instPowNat Int @Int.instNatPow)) (2 : Int) (@Min.min Nat @instMinNat (Int.toNat (8 * (s : Int))) 64))))])] q)/\BB_w9 a.b/\True) (∃ y : Unit,True/\((0 = 0/\a.b.n = 0 + a.b.n)/\(0 : Int) = 0/\True)/\BB_w9 a.b/\(a.b.n = a.b.n/\
 ∀ q : Nat,q < a.b.n->[Value.int .u8 (a.res q)] = [Value.int .u8 (putG (fun (k : Nat) => a.b.g (a.b.q + k)) a.at_ s a.v q)])/\True))/\True)
def addVC (x : AddX) : Prop :=
 (∃ s : Nat,s<=x.b.n/\True/\((s : Int) = 0/\foldB (x32 x.c (4294967295 : Int)) (fun (k : Nat) => x.b.g (x.b.q + k)) s = IntKind.wrap .u32 ((@BitVec.toNat 32 (@HXor.hXor (@BitVec 32) (@BitVec 32) (@BitVec 32) (@instHXorOfXorOp (@BitVec 32) (@BitVec.instXorOp 32)) (@BitVec.ofInt 32 x.c) (@BitVec.ofInt 32 (4294967295 : Int))) : Nat) : Int)/\True)/\BB_w9 x.b/\True)/\(∀ s : Nat,s<=x.b.n->cP (decide ((s : Int) < (x.b.n : Int))) ((0<=(s : Int)/\(s : Int) < (x.b.n : Int))/\x.b.q + s < x.b.N/\∃ x_1 : Prod Int Int,((0<=x_1.1/\x_1.1 < 4294967296)/\0<=x_1.2/\x_1.2 < 256)/\(x_1.1 = foldB (x32 x.c (4294967295 : Int)) (fun (k : Nat) => x.b.g (x.b.q + k)) s/\x_1.2 = x.b.g (x.b.q + s)/\True)/\True/\∀ y : Unit,True->I64 ((s : Int) + 1)/\∃ s_1 : Nat,s_1<=x.b.n/\x.b.n - s_1 < x.b.n - s/\((s_1 : Int) = (s : Int) + 1/\foldB (x32 x.c (4294967295 : Int)) (fun (k : Nat) => x.b.g (x.b.q + k)) s_1 = stepM x_1.1 x_1.2/\True)/\BB_w9 x.b/\True) (∃ y : Unit,True/\addM x.c (fun (k : Nat) => x.b.g (x.b.q + k)) x.b.n = IntKind.wrap .u32 ((@BitVec.toNat 32 (@HXor.hXor (@BitVec 32) (@BitVec 32) (@BitVec 32) (@instHXorOfXorOp (@BitVec 32) (@BitVec.instXorOp 32)) (@BitVec.ofInt 32 (foldB (x32 x.c (4294967295 : Int)) (fun (k : Nat) => x.b.g (x.b.q + k)) s)) (@BitVec.ofInt 32 (4294967295 : Int))) : Nat) : Int)/\BB_w9 x.b/\True))/\True
theorem addVC_ok (x : AddX) : addVC x = wpF Tryz.prog [(181,ctrT stepC)] tt (anAdd x) 200 5 139 (addC.args x) (hO addC.k (addC.os x)) (fun v h' => endsP addC.k x v h' addC.outs) := by kernel_rfl
def putVC (x : PutX) : Prop :=
 cP (decide ((x.w : Int) < 1)) (∃ y : Unit,True/\(False/\(0 : Int) = 1/\True)/\BB_w9 x.b/\False/\True) (cP (decide ((x.w : Int) > (8 : Int))) (∃ y : Unit,True/\(False/\(0 : Int) = 1/\True)/\BB_w9 x.b/\False/\True) (I64 ((x.b.n : Int) - (x.w : Int))/\cP (decide ((x.at_ : Int) > (x.b.n : Int) - (x.w : Int))) (∃ y : Unit,True/\(False/\(0 : Int) = 2/\True)/\BB_w9 x.b/\False/\True) (cP (decide ((x.w : Int) < 8)) (I64 (8 * (x.w : Int))/\0<=8 * (x.w : Int)/\cP (bne (Int.fdiv x.v (@HPow.hPow Int Nat Int (@instHPow Int Nat (@instPowNat Int @Int.instNatPow)) (2 : Int) (@Min.min Nat @instMinNat (Int.toNat (8 * (x.w : Int))) 64))) (0 : Int)) (∃ y : Unit,True/\(False/\(0 : Int) = 11/\True)/\BB_w9 x.b/\False/\True) (BB_w1 x)) (BB_w1 x))))
theorem putVC_ok (x : PutX) : putVC x = wpF Tryz.prog [] tt (anPut x) 200 5 180 (putC.args x) (hO putC.k (putC.os x)) (fun v h' => endsP putC.k x v h' putC.outs) := by kernel_rfl
end Go.Proofs.YtpnhfbegboogbaaGreat
end
section
namespace Go.Proofs.YtpnhfbegboogbaaGreat
open Go SE
theorem addVC_true (x : AddX) (hx : U32 x.c/\x.b.ok) : addVC x := by
 obtain ⟨hc,h1,h2,h3⟩ := hx
 unfold addVC
 simp only [BB_w9]
 have hw : ∀ a b,IntKind.u32.wrap ((BitVec.ofInt 32 a ^^^ BitVec.ofInt 32 b).toNat : Nat) = x32 a b := fun _ _ => rfl
 simp only [hd_iff,and_true,true_and,Nat.zero_add,Nat.add_zero,unit_ex,unit_all,true_implies,implies_true,Int.toNat_natCast,eq_self,and_self,hw]
 refine ⟨⟨0,by omega,rfl,rfl⟩,fun s hs => cP_intro (fun hb => ?_) (fun hb => ?_)⟩
 ·have hb := of_decide_eq_true hb
  refine ⟨⟨by omega,by omega⟩,by omega,(foldB (x32 x.c 4294967295) (fun k => x.b.g (x.b.q + k)) s,x.b.g (x.b.q + s)),⟨foldB_U (x32_U _ _) _ s,h3 _⟩,⟨rfl,rfl⟩,by unfold I64; omega,s + 1,by omega,by omega,by omega,rfl⟩
 ·have : s = x.b.n := by have := of_decide_eq_false hb; omega
  subst this
  unfold addM; rw [hide_eq]
theorem foldB_congr {c : Int} {g g' : Nat->Int} : ∀ {n : Nat},(∀ k,k < n->g k = g' k)->foldB c g n = foldB c g' n
 | 0,_ => rfl
 | n + 1,h => by simp only [foldB]; rw [foldB_congr (n := n) fun k hk => h k (by omega),h n (by omega)]
theorem addM_congr {c : Int} {g g' : Nat->Int} {n : Nat} (h : ∀ k,k < n->g k = g' k) : addM c g n = addM c g' n := by unfold addM; rw [hide_eq,hide_eq,foldB_congr h]
theorem add_ok : CtrOk Tryz.prog 139 addC := det_end tt_ok mixed (.cons (ctrT_ok step_ok) .nil) anAdd 200 5 (fun _ => rfl) (fun _ => rfl) fun x hx => Eq.mp (addVC_ok x) (addVC_true x (hd_iff.1 hx))
theorem pow_min {s : Nat} (h : s<=8) : (2 : Int) ^ (min (((8 : Int) * (s : Nat)).toNat) 64) = 256 ^ s := by
 have e : ((8 : Int) * (s : Nat)).toNat = 8 * s := by omega
 rw [e,Nat.min_eq_left (by omega)]
 rw [show (256 : Int) = 2 ^ 8 by rfl,← Int.pow_mul]
theorem u8wrap (z : Int) : IntKind.u8.wrap z = z % 256 := by
 unfold IntKind.wrap
 simp [IntKind.bits,IntKind.signed]
theorem putG_more (g : Nat->Int) (a s : Nat) (v : Int) (q : Nat) : putG g a (s + 1) v q = if q = a + s then v / 256 ^ s % 256 else putG g a s v q := by
 unfold putG
 by_cases h : q = a + s
 ·subst h; simp
 ·rw [if_neg h]
  by_cases h2 : a<=q/\q < a + s
  ·rw [if_pos h2,if_pos (by omega)]
  ·rw [if_neg h2,if_neg (by omega)]
theorem putVC_true (x : PutX) (hx : x.ok) : putVC x := by
 obtain ⟨⟨h1,h2,h3⟩,h4,h5,h6,h7,h8⟩ := hx
 have z0 : ∀ (g : Nat->Int) a v q,putG g a 0 v q = g q := fun g a v q => by unfold putG; rw [if_neg (by omega)]
 have key : ∀ s : Nat,s < x.w->∀ q,[Value.int .u8 (putG (fun k => x.b.g (x.b.q + k)) x.at_ (s + 1) x.v q)] = Cs.eff (fun k => [Value.int .u8 (putG (fun k => x.b.g (x.b.q + k)) x.at_ s x.v k)]) [((((x.at_ : Int) + (s : Int)).toNat),[Value.int .u8 (IntKind.u8.wrap (Int.fdiv x.v (2 ^ (min ((8 * (s : Int)).toNat) 64))))])] q := fun s hs q => by
  rw [pow_min (by omega),u8wrap,show ((x.at_ : Int) + (s : Int)).toNat = x.at_ + s by omega,putG_more]
  simp only [Cs.eff]
  by_cases h : q = x.at_ + s
  ·subst h
   have : Int.fdiv x.v (256 ^ s) = x.v / 256 ^ s := Int.fdiv_eq_ediv_of_nonneg _ (Int.le_of_lt (Int.pow_pos (by omega)))
   simp [this]
  ·simp [h,nbeq_ne h]
 unfold putVC
 simp only [BB_w9,BB_w1]
 have hn : x.b.n ≠ 0 := by omega
 simp only [hd_iff,and_true,true_and,Nat.zero_add,Nat.add_zero,unit_ex,unit_all,true_implies,implies_true,Int.toNat_natCast,eq_self,and_self,z0]
 have i64 : ∀ z : Int,-9223372036854775808<=z->z<=9223372036854775807->I64 z := fun z a b => ⟨a,b⟩
 refine cP_intro (fun h => absurd (of_decide_eq_true h) (by omega)) fun _ => cP_intro (fun h => absurd (of_decide_eq_true h) (by omega)) fun _ => ⟨i64 _ (by omega) (by omega),cP_intro (fun h => absurd (of_decide_eq_true h) (by omega)) fun _ =>
  cP_intro (fun hb => ⟨i64 _ (by omega) (by omega),by omega,cP_intro (fun h => ?_) (fun _ => ?_)⟩) (fun _ => ?_)⟩
 ·rw [pow_min h6,show Int.fdiv x.v (256 ^ x.w) = 0 by rw [Int.fdiv_eq_ediv_of_nonneg _ (Int.le_of_lt (Int.pow_pos (by omega)))]; exact Int.ediv_eq_zero_of_lt h7 h8] at h
  cases h
 all_goals
  refine ⟨h1,cP_intro (fun h => absurd (Nat.eq_of_beq_eq_true h) hn) fun _ => ⟨by omega,⟨0,by omega,rfl,fun q _ => by rw [z0]; rfl⟩,fun s hs => cP_intro (fun h => ?_) (fun h => ?_)⟩⟩
  ·have h := of_decide_eq_true h
   exact ⟨i64 _ (by omega) (by omega),i64 _ (by omega) (by omega),by omega,⟨by omega,by omega⟩,by omega,i64 _ (by omega) (by omega),s + 1,by omega,by omega,by omega,fun q _ => key s (by omega) q⟩
  ·have : s = x.w := by have := of_decide_eq_false h; omega
   subst this
   exact fun q _ => rfl
theorem put_ok : CtrOk Tryz.prog 180 putC := det_end tt_ok mixed TblOk.nil anPut 200 5 (fun _ => rfl) (fun _ => rfl) fun x hx => Eq.mp (putVC_ok x) (putVC_true x (hd_iff.1 hx))
end Go.Proofs.YtpnhfbegboogbaaGreat
end
section
namespace Go.Proofs.YtpnhfbegboogbaaGreat
open Go SE
noncomputable def bsumC : Ctr := det Bys (fun b => [b.av 0]) 1 (fun b => [b.ro]) (fun b => Hd b.ok) (fun b => u32 (addM 0 (fun k => b.g (b.q + k)) b.n)) 1 (fun b => [b.ro])
noncomputable def sumBT : WTr := fun args h K => match args with
 | [x] => vView h x 1 fun e => ∃ (n : Nat) (g : Nat->Int),e.len = n/\n < 1099511627776/\(∀ k,k < n->e.el k = [.int .u8 (g k)])/\(∀ k,0<=g k/\g k < 256)/\K (u32 (addM 0 g n)) h
 | _ => False
def isE : List AV->Bool
 | .slE .. :: _ => true
 | _ => false
def head9 (v : Int) (k : Nat) : Int := if k = 0 then 3 else v / 256 ^ (k - 1) % 256
noncomputable def clockG (v : Int) (k : Nat) : Int := if k < 9 then head9 v k else if k < 13 then addM 0 (head9 v) 9 / 256 ^ (k - 9) % 256 else 0
noncomputable def clockC : Ctr := det Int (fun v => [u64 v]) 0 (fun _ => []) (fun v => Hd (0<=v/\v < 18446744073709551616)) (fun _ => .slE 0 0 1 64 64) 1 (fun v => [.cells 273 (rowB (clockG v) 64)])
noncomputable def tblK : WTbl := [(140,sumBT),(180,orT isE (ctrT putC) (fun args h K => wpF Tryz.prog [] tt (fun _ _ _ _ => []) 200 5 180 args h K))]
end Go.Proofs.YtpnhfbegboogbaaGreat
end
section
namespace Go.Proofs.YtpnhfbegboogbaaGreat
open Go SE
def BE_w1 (a : PutX) (b : Nat) : Prop := (Nat.beq (List.length [Value.int .u8 (a.res (0 + b))]) 1 && List.all [Value.int .u8 (a.res (0 + b))] Value.oneCell') = true
def BE_w2 (a : PutX) : Prop := ∀ k : Nat,k < a.b.n->BE_w1 a k
def BE_w3 (a : PutX) : Prop := ∀ k : Nat,k < 64->BE_w1 a k
def BE_w4 : Prop := 0<=64/\64<=64/\64<=64
def BE_w7 (a : PutX) (b : ∀ a : Nat,Int) (c : Nat) : Prop := (a.b.q = 0/\a.b.n = 64/\a.c = 64)/\(a.at_ : Int) = 9/\(a.w : Int) = 4/\a.v = IntKind.wrap .u64 (addM (0 : Int) b c)/\True
def BE_w8 : Prop := 0 = 0/\64 = 64/\64 = 64
def bsumVC (b : Bys) : Prop :=
 ∃ x : AddX,Hd (U32 x.c/\x.b.ok)/\(x.c = 0/\(x.b.q = b.q/\x.b.n = b.n)/\True)/\((x.b.N = b.N/\∀ q : Nat,q < x.b.N->[Value.int .u8 (x.b.g q)] = [Value.int .u8 (b.g q)])/\True)/\∀ y : Unit,True->∃ y_1 : Unit,True/\addM (0 : Int) (fun (k : Nat) => b.g (b.q + k)) b.n = addM x.c (fun (k : Nat) => x.b.g (x.b.q + k)) x.b.n/\(rowB b.g b.N = rowB b.g b.N/\true = true)/\True
theorem bsumVC_ok (b : Bys) : bsumVC b = wpF Tryz.prog [(139,ctrT addC)] tt (fun _ _ _ _ => []) 200 5 140 (bsumC.args b) (hO bsumC.k (bsumC.os b)) (fun v h' => endsP bsumC.k b v h' bsumC.outs) := by kernel_rfl
def clockVC (x : Int) : Prop :=
 ∃ x_1 : PutX,Hd x_1.ok/\((x_1.b.q = 0/\x_1.b.n = 9/\x_1.c = 9)/\(x_1.at_ : Int) = 1/\(x_1.w : Int) = 8/\x_1.v = x/\True)/\((x_1.b.N = 9/\∀ q : Nat,q < x_1.b.N->[Value.int .u8 (x_1.b.g q)] = [List.getD [Value.int .u8 3,Value.int .u8 0,Value.int .u8 0,Value.int .u8 0,Value.int .u8 0,Value.int .u8 0,Value.int .u8 0,Value.int .u8 0,Value.int .u8 0] q (@Inhabited.default Value @instInhabitedValue)])/\True)/\∀ y : Unit,True->BE_w4/\64<=64/\cP (Nat.ble x_1.b.n 64) (0 + x_1.b.n<=x_1.b.n/\BE_w2 x_1/\BE_w4/\0 + x_1.b.n<=x_1.b.n/\∃ n : Nat,∃ g : ∀ a : Nat,Int,x_1.b.n = n/\n < 1099511627776/\(∀ k : Nat,k < n->[Value.int .u8 (x_1.res (0 + k))] = [Value.int .u8 (g k)])/\(∀ k : Nat,0<=g k/\g k < 256)/\True/\∃ x_2 : PutX,Hd x_2.ok/\BE_w7 x_2 g n/\((x_2.b.N = 64/\∀ q : Nat,q < x_2.b.N->[Value.int .u8 (x_2.b.g q)] = Cs.eff (fun (p : Nat) => cond (Nat.ble 0 p && Nat.blt p (0 + x_1.b.n)) [Value.int .u8 (x_1.res (0 + (p - 0)))] [Value.int .u8 0]) [] q)/\True)/\∀ y_1 : Unit,True->True/\BE_w4/\64<=64/\cP (Nat.ble x_2.b.n 64) (0 + x_2.b.n<=x_2.b.n/\BE_w2 x_2/\(∀ k : Nat,k < 64->(Nat.beq (List.length (Cs.eff (fun (p : Nat) => cond (Nat.ble 0 p && Nat.blt p (0 + x_2.b.n)) [Value.int .u8 (x_2.res (0 + (p - 0)))] (Cs.eff (fun (p_1 : Nat) => cond (Nat.ble 0 p_1 && Nat.blt p_1 (0 + x_1.b.n)) [Value.int .u8 (x_1.res (0 + (p_1 - 0)))] [Value.int .u8 0]) [] p)) [] k)) 1 && List.all (Cs.eff (fun (p : Nat) => cond (Nat.ble 0 p && Nat.blt p (0 + x_2.b.n)) [Value.int .u8 (x_2.res (0 + (p - 0)))] (Cs.eff (fun (p_1 : Nat) => cond (Nat.ble 0 p_1 && Nat.blt p_1 (0 + x_1.b.n)) [Value.int .u8 (x_1.res (0 + (p_1 - 0)))] [Value.int .u8 0]) [] p)) [] k) Value.oneCell') = true)/\
 (∀ k : Nat,k < 64->(Nat.beq (List.length (Cs.eff (Cs.eff (fun (p : Nat) => cond (Nat.ble 0 p && Nat.blt p (0 + x_2.b.n)) [Value.int .u8 (x_2.res (0 + (p - 0)))] (Cs.eff (fun (p_1 : Nat) => cond (Nat.ble 0 p_1 && Nat.blt p_1 (0 + x_1.b.n)) [Value.int .u8 (x_1.res (0 + (p_1 - 0)))] [Value.int .u8 0]) [] p)) []) [] k)) 1 && List.all (Cs.eff (Cs.eff (fun (p : Nat) => cond (Nat.ble 0 p && Nat.blt p (0 + x_2.b.n)) [Value.int .u8 (x_2.res (0 + (p - 0)))] (Cs.eff (fun (p_1 : Nat) => cond (Nat.ble 0 p_1 && Nat.blt p_1 (0 + x_1.b.n)) [Value.int .u8 (x_1.res (0 + (p_1 - 0)))] [Value.int .u8 0]) [] p)) []) [] k) Value.oneCell') = true)/\(∀ k : Nat,k < 64->(Nat.beq (List.length (Cs.eff (Cs.eff (Cs.eff (fun (p : Nat) => cond (Nat.ble 0 p && Nat.blt p (0 + x_2.b.n)) [Value.int .u8 (x_2.res (0 + (p - 0)))] (Cs.eff (fun (p_1 : Nat) => cond (Nat.ble 0 p_1 && Nat.blt p_1 (0 + x_1.b.n)) [Value.int .u8 (x_1.res (0 + (p_1 - 0)))] [Value.int .u8 0]) [] p)) []) []) [] k)) 1 && List.all (Cs.eff (Cs.eff (Cs.eff (fun (p : Nat) => cond (Nat.ble 0 p && Nat.blt p (0 + x_2.b.n)) [Value.int .u8 (x_2.res (0 + (p - 0)))] (Cs.eff (fun (p_1 : Nat) => cond (Nat.ble 0 p_1 && Nat.blt p_1 (0 + x_1.b.n)) [Value.int .u8 (x_1.res (0 + (p_1 - 0)))] [Value.int .u8 0]) [] p)) []) []) [] k) Value.oneCell') = true)/\BE_w4/\∃ y_2 : Unit,True/\BE_w8/\(64 = 64/\∀ q : Nat,q < 64->[Value.int .u8 (clockG x q)] = Cs.eff (Cs.eff (Cs.eff (Cs.eff (fun (p : Nat) => cond (Nat.ble 0 p && Nat.blt p (0 + x_2.b.n)) [Value.int .u8 (x_2.res (0 + (p - 0)))] (Cs.eff (fun (p_1 : Nat) => cond (Nat.ble 0 p_1 && Nat.blt p_1 (0 + x_1.b.n)) [Value.int .u8 (x_1.res (0 + (p_1 - 0)))] [Value.int .u8 0]) [] p)) []) []) []) [] q)/\True) (64<=x_2.b.n/\BE_w3 x_2/\
 (∀ k : Nat,k < 64->(Nat.beq (List.length (Cs.eff (fun (p : Nat) => cond (Nat.ble 0 p && Nat.blt p 64) [Value.int .u8 (x_2.res (0 + (p - 0)))] (Cs.eff (fun (p_1 : Nat) => cond (Nat.ble 0 p_1 && Nat.blt p_1 (0 + x_1.b.n)) [Value.int .u8 (x_1.res (0 + (p_1 - 0)))] [Value.int .u8 0]) [] p)) [] k)) 1 && List.all (Cs.eff (fun (p : Nat) => cond (Nat.ble 0 p && Nat.blt p 64) [Value.int .u8 (x_2.res (0 + (p - 0)))] (Cs.eff (fun (p_1 : Nat) => cond (Nat.ble 0 p_1 && Nat.blt p_1 (0 + x_1.b.n)) [Value.int .u8 (x_1.res (0 + (p_1 - 0)))] [Value.int .u8 0]) [] p)) [] k) Value.oneCell') = true)/\(∀ k : Nat,k < 64->(Nat.beq (List.length (Cs.eff (Cs.eff (fun (p : Nat) => cond (Nat.ble 0 p && Nat.blt p 64) [Value.int .u8 (x_2.res (0 + (p - 0)))] (Cs.eff (fun (p_1 : Nat) => cond (Nat.ble 0 p_1 && Nat.blt p_1 (0 + x_1.b.n)) [Value.int .u8 (x_1.res (0 + (p_1 - 0)))] [Value.int .u8 0]) [] p)) []) [] k)) 1 && List.all (Cs.eff (Cs.eff (fun (p : Nat) => cond (Nat.ble 0 p && Nat.blt p 64) [Value.int .u8 (x_2.res (0 + (p - 0)))] (Cs.eff (fun (p_1 : Nat) => cond (Nat.ble 0 p_1 && Nat.blt p_1 (0 + x_1.b.n)) [Value.int .u8 (x_1.res (0 + (p_1 - 0)))] [Value.int .u8 0]) [] p)) []) [] k) Value.oneCell') = true)/\
 (∀ k : Nat,k < 64->(Nat.beq (List.length (Cs.eff (Cs.eff (Cs.eff (fun (p : Nat) => cond (Nat.ble 0 p && Nat.blt p 64) [Value.int .u8 (x_2.res (0 + (p - 0)))] (Cs.eff (fun (p_1 : Nat) => cond (Nat.ble 0 p_1 && Nat.blt p_1 (0 + x_1.b.n)) [Value.int .u8 (x_1.res (0 + (p_1 - 0)))] [Value.int .u8 0]) [] p)) []) []) [] k)) 1 && List.all (Cs.eff (Cs.eff (Cs.eff (fun (p : Nat) => cond (Nat.ble 0 p && Nat.blt p 64) [Value.int .u8 (x_2.res (0 + (p - 0)))] (Cs.eff (fun (p_1 : Nat) => cond (Nat.ble 0 p_1 && Nat.blt p_1 (0 + x_1.b.n)) [Value.int .u8 (x_1.res (0 + (p_1 - 0)))] [Value.int .u8 0]) [] p)) []) []) [] k) Value.oneCell') = true)/\BE_w4/\∃ y_2 : Unit,True/\BE_w8/\(64 = 64/\∀ q : Nat,q < 64->[Value.int .u8 (clockG x q)] = Cs.eff (Cs.eff (Cs.eff (Cs.eff (fun (p : Nat) => cond (Nat.ble 0 p && Nat.blt p 64) [Value.int .u8 (x_2.res (0 + (p - 0)))] (Cs.eff (fun (p_1 : Nat) => cond (Nat.ble 0 p_1 && Nat.blt p_1 (0 + x_1.b.n)) [Value.int .u8 (x_1.res (0 + (p_1 - 0)))] [Value.int .u8 0]) [] p)) []) []) []) [] q)/\True)) (64<=x_1.b.n/\BE_w3 x_1/\BE_w4/\0 + x_1.b.n<=x_1.b.n/\∃ n : Nat,∃ g : ∀ a : Nat,Int,x_1.b.n = n/\n < 1099511627776/\(∀ k : Nat,k < n->[Value.int .u8 (x_1.res (0 + k))] = [Value.int .u8 (g k)])/\(∀ k : Nat,0<=g k/\g k < 256)/\True/\∃ x_2 : PutX,Hd x_2.ok/\BE_w7 x_2 g n/\((x_2.b.N = 64/\∀ q : Nat,q < x_2.b.N->[Value.int .u8 (x_2.b.g q)] = Cs.eff (fun (p : Nat) => cond (Nat.ble 0 p && Nat.blt p 64) [Value.int .u8 (x_1.res (0 + (p - 0)))] [Value.int .u8 0]) [] q)/\True)/\∀ y_1 : Unit,True->True/\BE_w4/\64<=64/\cP (Nat.ble x_2.b.n 64) (0 + x_2.b.n<=x_2.b.n/\BE_w2 x_2/\
 (∀ k : Nat,k < 64->(Nat.beq (List.length (Cs.eff (fun (p : Nat) => cond (Nat.ble 0 p && Nat.blt p (0 + x_2.b.n)) [Value.int .u8 (x_2.res (0 + (p - 0)))] (Cs.eff (fun (p_1 : Nat) => cond (Nat.ble 0 p_1 && Nat.blt p_1 64) [Value.int .u8 (x_1.res (0 + (p_1 - 0)))] [Value.int .u8 0]) [] p)) [] k)) 1 && List.all (Cs.eff (fun (p : Nat) => cond (Nat.ble 0 p && Nat.blt p (0 + x_2.b.n)) [Value.int .u8 (x_2.res (0 + (p - 0)))] (Cs.eff (fun (p_1 : Nat) => cond (Nat.ble 0 p_1 && Nat.blt p_1 64) [Value.int .u8 (x_1.res (0 + (p_1 - 0)))] [Value.int .u8 0]) [] p)) [] k) Value.oneCell') = true)/\(∀ k : Nat,k < 64->(Nat.beq (List.length (Cs.eff (Cs.eff (fun (p : Nat) => cond (Nat.ble 0 p && Nat.blt p (0 + x_2.b.n)) [Value.int .u8 (x_2.res (0 + (p - 0)))] (Cs.eff (fun (p_1 : Nat) => cond (Nat.ble 0 p_1 && Nat.blt p_1 64) [Value.int .u8 (x_1.res (0 + (p_1 - 0)))] [Value.int .u8 0]) [] p)) []) [] k)) 1 && List.all (Cs.eff (Cs.eff (fun (p : Nat) => cond (Nat.ble 0 p && Nat.blt p (0 + x_2.b.n)) [Value.int .u8 (x_2.res (0 + (p - 0)))] (Cs.eff (fun (p_1 : Nat) => cond (Nat.ble 0 p_1 && Nat.blt p_1 64) [Value.int .u8 (x_1.res (0 + (p_1 - 0)))] [Value.int .u8 0]) [] p)) []) [] k) Value.oneCell') = true)/\
 (∀ k : Nat,k < 64->(Nat.beq (List.length (Cs.eff (Cs.eff (Cs.eff (fun (p : Nat) => cond (Nat.ble 0 p && Nat.blt p (0 + x_2.b.n)) [Value.int .u8 (x_2.res (0 + (p - 0)))] (Cs.eff (fun (p_1 : Nat) => cond (Nat.ble 0 p_1 && Nat.blt p_1 64) [Value.int .u8 (x_1.res (0 + (p_1 - 0)))] [Value.int .u8 0]) [] p)) []) []) [] k)) 1 && List.all (Cs.eff (Cs.eff (Cs.eff (fun (p : Nat) => cond (Nat.ble 0 p && Nat.blt p (0 + x_2.b.n)) [Value.int .u8 (x_2.res (0 + (p - 0)))] (Cs.eff (fun (p_1 : Nat) => cond (Nat.ble 0 p_1 && Nat.blt p_1 64) [Value.int .u8 (x_1.res (0 + (p_1 - 0)))] [Value.int .u8 0]) [] p)) []) []) [] k) Value.oneCell') = true)/\BE_w4/\∃ y_2 : Unit,True/\BE_w8/\(64 = 64/\∀ q : Nat,q < 64->[Value.int .u8 (clockG x q)] = Cs.eff (Cs.eff (Cs.eff (Cs.eff (fun (p : Nat) => cond (Nat.ble 0 p && Nat.blt p (0 + x_2.b.n)) [Value.int .u8 (x_2.res (0 + (p - 0)))] (Cs.eff (fun (p_1 : Nat) => cond (Nat.ble 0 p_1 && Nat.blt p_1 64) [Value.int .u8 (x_1.res (0 + (p_1 - 0)))] [Value.int .u8 0]) [] p)) []) []) []) [] q)/\True) (64<=x_2.b.n/\BE_w3 x_2/\(∀ k : Nat,k < 64->(Nat.beq (List.length (Cs.eff (fun (p : Nat) => cond (Nat.ble 0 p && Nat.blt p 64) [Value.int .u8 (x_2.res (0 + (p - 0)))] (Cs.eff (fun (p_1 : Nat) => cond (Nat.ble 0 p_1 && Nat.blt p_1 64) [Value.int .u8 (x_1.res (0 + (p_1 - 0)))] [Value.int .u8 0]) [] p)) [] k)) 1 && List.all (Cs.eff (fun (p : Nat) => cond (Nat.ble 0 p && Nat.blt p 64) [Value.int .u8 (x_2.res (0 + (p - 0)))] (Cs.eff (fun (p_1 : Nat) => cond (Nat.ble 0 p_1 && Nat.blt p_1 64) [Value.int .u8 (x_1.res (0 + (p_1 - 0)))] [Value.int .u8 0]) [] p)) [] k) Value.oneCell') = true)/\
 (∀ k : Nat,k < 64->(Nat.beq (List.length (Cs.eff (Cs.eff (fun (p : Nat) => cond (Nat.ble 0 p && Nat.blt p 64) [Value.int .u8 (x_2.res (0 + (p - 0)))] (Cs.eff (fun (p_1 : Nat) => cond (Nat.ble 0 p_1 && Nat.blt p_1 64) [Value.int .u8 (x_1.res (0 + (p_1 - 0)))] [Value.int .u8 0]) [] p)) []) [] k)) 1 && List.all (Cs.eff (Cs.eff (fun (p : Nat) => cond (Nat.ble 0 p && Nat.blt p 64) [Value.int .u8 (x_2.res (0 + (p - 0)))] (Cs.eff (fun (p_1 : Nat) => cond (Nat.ble 0 p_1 && Nat.blt p_1 64) [Value.int .u8 (x_1.res (0 + (p_1 - 0)))] [Value.int .u8 0]) [] p)) []) [] k) Value.oneCell') = true)/\(∀ k : Nat,k < 64->(Nat.beq (List.length (Cs.eff (Cs.eff (Cs.eff (fun (p : Nat) => cond (Nat.ble 0 p && Nat.blt p 64) [Value.int .u8 (x_2.res (0 + (p - 0)))] (Cs.eff (fun (p_1 : Nat) => cond (Nat.ble 0 p_1 && Nat.blt p_1 64) [Value.int .u8 (x_1.res (0 + (p_1 - 0)))] [Value.int .u8 0]) [] p)) []) []) [] k)) 1 && List.all (Cs.eff (Cs.eff (Cs.eff (fun (p : Nat) => cond (Nat.ble 0 p && Nat.blt p 64) [Value.int .u8 (x_2.res (0 + (p - 0)))] (Cs.eff (fun (p_1 : Nat) => cond (Nat.ble 0 p_1 && Nat.blt p_1 64) [Value.int .u8 (x_1.res (0 + (p_1 - 0)))] [Value.int .u8 0]) [] p)) []) []) [] k) Value.oneCell') = true)/\BE_w4/\∃ y_2 : Unit,True/\BE_w8/\(64 = 64/\∀ q : Nat,q < 64->[Value.int .u8 (clockG x q)] = Cs.eff (Cs.eff (Cs.eff (Cs.eff (fun (p : Nat) => cond (Nat.ble 0 p && Nat.blt p 64) [Value.int .u8 (x_2.res (0 + (p - 0)))] (Cs.eff (fun (p_1 : Nat) => cond (Nat.ble 0 p_1 && Nat.blt p_1 64) [Value.int .u8 (x_1.res (0 + (p_1 - 0)))] [Value.int .u8 0]) [] p)) []) []) []) [] q)/\True))
theorem clockVC_ok (x : Int) : clockVC x = wpF Tryz.prog tblK tt (fun _ _ _ _ => []) 200 5 110 (clockC.args x) (hO clockC.k (clockC.os x)) (fun v h' => endsP clockC.k x v h' clockC.outs) := by kernel_rfl
end Go.Proofs.YtpnhfbegboogbaaGreat
end
section
namespace Go.Proofs.YtpnhfbegboogbaaGreat
open Go SE
theorem bsumVC_true (b : Bys) (hb : b.ok) : bsumVC b := by
 unfold bsumVC
 simp only [hd_iff,and_true,true_and,Nat.zero_add,Nat.add_zero,unit_ex,unit_all,true_implies,implies_true,Int.toNat_natCast,eq_self,and_self]
 exact ⟨⟨0,b⟩,⟨(show U32 0 from ⟨by omega,by omega⟩),hb⟩,⟨rfl,rfl,rfl⟩,⟨rfl,fun _ _ => rfl⟩,rfl⟩
theorem div_mod_u8 (v : Int) (k : Nat) : 0<=v / 256 ^ k % 256/\v / 256 ^ k % 256 < 256 := ⟨Int.emod_nonneg _ (by omega),Int.emod_lt_of_pos _ (by omega)⟩
theorem putG_u8 {g : Nat->Int} (h : ∀ k,0<=g k/\g k < 256) (a w : Nat) (v : Int) (k : Nat) : 0<=putG g a w v k/\putG g a w v k < 256 := by
 unfold putG
 split
 ·exact div_mod_u8 _ _
 ·exact h k
theorem clockVC_true (v : Int) (hv : 0<=v/\v < 18446744073709551616) : clockVC v := by
 unfold clockVC
 simp only [BE_w4,BE_w2,BE_w7,BE_w8,BE_w3,BE_w1]
 simp only [hd_iff,and_true,true_and,Nat.zero_add,Nat.add_zero,unit_ex,unit_all,true_implies,implies_true,Int.toNat_natCast,eq_self,and_self]
 let b0 : Bys := ⟨fun k => if k = 0 then 3 else 0,0,9,9⟩
 let x1 : PutX := ⟨b0,1,8,v,9⟩
 have ok1 : x1.ok := ⟨⟨by simp [x1,b0],by simp [x1,b0],fun k => by simp only [x1,b0]; split <;> omega⟩,by simp [x1,b0],by simp [x1],by simp [x1],hv.1,hv.2⟩
 have r1 : ∀ k,k < 9->x1.res k = head9 v k := fun k hk => by
  simp only [PutX.res,putG,head9,x1,b0]
  by_cases h : k = 0
  ·subst h; simp
  ·rw [if_pos (by omega),if_neg h]
 have u1 : ∀ k,0<=x1.res k/\x1.res k < 256 := putG_u8 (fun k => ok1.1.2.2 _) _ _ _
 let b1 : Bys := ⟨fun k => if k < 9 then x1.res k else 0,0,64,64⟩
 let x2 : PutX := ⟨b1,9,4,addM 0 x1.res 9,64⟩
 have c1 : addM 0 x1.res 9 = addM 0 (head9 v) 9 := addM_congr r1
 have hU := addM_U 0 x1.res 9
 have ok2 : x2.ok := ⟨⟨by simp [x2,b1],by simp [x2,b1],fun k => by
  show 0<=(if k < 9 then x1.res k else 0)/\(if k < 9 then x1.res k else 0) < 256
  split
  ·exact u1 k
  ·exact ⟨by omega,by omega⟩⟩,by simp [x2,b1],by simp [x2],by simp [x2],hU.1,hU.2⟩
 have w64 : IntKind.u64.wrap (addM 0 x1.res 9) = addM 0 x1.res 9 := by
  have := hU.1; have := hU.2
  unfold IntKind.wrap; simp [IntKind.bits,IntKind.signed]; omega
 have nb : x1.b.n = 9 := rfl
 have nb2 : x2.b.n = 64 := rfl
 have ble9 : Nat.ble 9 64 = true := rfl
 have ble64 : Nat.ble 64 64 = true := rfl
 refine ⟨x1,ok1,⟨⟨rfl,rfl,rfl⟩,rfl,rfl,rfl⟩,⟨rfl,fun q hq => ?_⟩,by omega,by omega,?_⟩
 ·have hq : q < 9 := hq
  match q,hq with
  | 0,_ | 1,_ | 2,_ | 3,_ | 4,_ | 5,_ | 6,_ | 7,_ | 8,_ => rfl
 simp only [nb,ble9,cP,eff_nil,cond_one,cond_int,ones_int,row_int,ones_bool,row_bool,cond_bool,ble0,Bool.true_and,Nat.sub_zero,List.getElem?_cons_zero,Option.some.injEq,Value.bool.injEq,Value.int.injEq,exists_eq_left',exists_eq_left,implies_true,true_and]
 refine ⟨by omega,by omega,by omega,9,x1.res,rfl,by omega,fun _ _ => rfl,u1,x2,ok2,⟨⟨rfl,rfl,rfl⟩,rfl,rfl,w64.symm⟩,⟨rfl,fun q hq => ?_⟩,by omega,by omega,?_⟩
 ·show (if q < 9 then x1.res q else 0) = _
  rw [blt_iff_decide,bif_decide]
 simp only [nb2,ble64,cP,eff_nil,cond_one,cond_int,ones_int,row_int,ones_bool,row_bool,cond_bool,ble0,Bool.true_and,Nat.sub_zero,List.getElem?_cons_zero,Option.some.injEq,Value.bool.injEq,Value.int.injEq,exists_eq_left',exists_eq_left,implies_true,true_and]
 refine ⟨by omega,by omega,fun q hq => ?_⟩
 simp [nblt_iff.2 hq]
 show clockG v q = putG (fun k => if 0 + k < 9 then x1.res (0 + k) else 0) 9 4 (addM 0 x1.res 9) q
 simp only [clockG,putG,c1,Nat.zero_add]
 by_cases h : q < 9
 ·rw [if_pos h,if_neg (by omega),if_pos h,r1 q h]
 ·by_cases h2 : q < 13
  ·rw [if_neg h,if_pos h2,if_pos (by omega)]
  ·rw [if_neg h,if_neg h2,if_neg (by omega),if_neg h]
end Go.Proofs.YtpnhfbegboogbaaGreat
end
section
namespace Go.Proofs.YtpnhfbegboogbaaGreat
open Go SE
theorem det_val {P : Program} {f : FuncId} {X : Type} {args : X->List AV} {k m : Nat} {os os' : X->List AObj} {pre : X->Prop} {ret : X->AV} (hC : CtrOk P f (det X args k os pre ret m os')) (x : X) (hp : pre x) : Sp P f (args x) (hO k (os x)) (fun v _ => v = ret x) :=
 (hC x hp).2.mono fun _ _ hh => by
  have ha : allOuts x (fun v _ => v = ret x) (det X args k os pre ret m os').outs := fun _ _ => rfl
  exact allOuts_ok ha hh
theorem bsum_ok : CtrOk Tryz.prog 140 bsumC := det_end tt_ok mixed (.cons (ctrT_ok add_ok) .nil) (fun _ _ _ _ _ => []) 200 5 (fun _ => rfl) (fun _ => rfl) fun x hx => Eq.mp (bsumVC_ok x) (bsumVC_true x (hd_iff.1 hx))
theorem sumBT_ok (args : List AV) (h : Heap) (K : AV->Heap->Prop) (hq : sumBT args h K) : Sp Tryz.prog 140 args h K := by
 unfold sumBT at hq
 split at hq
 ·refine sp_slice (bsum_ok ⟨fun _ => 0,0,0,0⟩ (hd_iff.2 ⟨by simp,by simp,fun _ => by simp⟩)).2.1 (by omega) hq fun e he => ?_
  obtain ⟨n,g,h1,h2,h3,h4,hK⟩ := he
  have hs := det_val bsum_ok ⟨g,0,n,n⟩ (hd_iff.2 ⟨by simp,h2,h4⟩)
  refine ⟨n,fun k => [.int .u8 (g k)],u32 (addM 0 (fun k => g (0 + k)) n),h1,h3,rfl,?_,hs⟩
  simpa only [Nat.zero_add] using hK
 ·exact hq.elim
theorem tblK_ok : TblOk Tryz.prog tblK := .cons sumBT_ok (.cons (orT_ok (ctrT_ok put_ok) fun _ _ _ hq => wpF_ok tt_ok mixed TblOk.nil _ _ _ _ _ _ _ hq) .nil)
theorem clock_ok : CtrOk Tryz.prog 110 clockC := det_end tt_ok mixed tblK_ok (fun _ _ _ _ _ => []) 200 5 (fun _ => rfl) (fun _ => rfl) fun x hx => Eq.mp (clockVC_ok x) (clockVC_true x (hd_iff.1 hx))
theorem ext_load64 : IsExt Tryz.prog 92 (Extern.Atomic.loadT (.int .u64)) := ⟨Tryz.f92,by kernel_rfl,by kernel_rfl,by kernel_rfl,by kernel_rfl,by kernel_rfl⟩
def x_load64 : WTbl := [(92,loadX .u64)]
theorem x_load64_ok : TblOk Tryz.prog x_load64 := .consX (fun _ _ _ hq => loadX_ok _ _ _ ext_load64 hq) .nil
theorem ext_store64 : IsExt Tryz.prog 94 Extern.Atomic.storeT := ⟨Tryz.f94,by kernel_rfl,by kernel_rfl,by kernel_rfl,by kernel_rfl,by kernel_rfl⟩
def x_store64 : WTbl := [(94,storeX .u64)]
theorem x_store64_ok : TblOk Tryz.prog x_store64 := .consX (fun _ _ _ hq => storeX_ok _ _ _ ext_store64 hq) .nil
theorem ext_cas64 : IsExt Tryz.prog 93 (Extern.Atomic.casT (.int .u64)) := ⟨Tryz.f93,by kernel_rfl,by kernel_rfl,by kernel_rfl,by kernel_rfl,by kernel_rfl⟩
def x_cas64 : WTbl := [(93,casX .u64)]
theorem x_cas64_ok : TblOk Tryz.prog x_cas64 := .consX (fun _ _ _ hq => casX_ok _ _ _ ext_cas64 hq) .nil
theorem ext_add64 : IsExt Tryz.prog 98 (Extern.Atomic.update (Op.intArith .add) .u64 true) := ⟨Tryz.f98,by kernel_rfl,by kernel_rfl,by kernel_rfl,by kernel_rfl,by kernel_rfl⟩
def x_add64 : WTbl := [(98,addX .u64)]
theorem x_add64_ok : TblOk Tryz.prog x_add64 := .consX (fun _ _ _ hq => addX_ok _ _ _ ext_add64 hq) .nil
theorem ext_swap64 : IsExt Tryz.prog 231 (Extern.Atomic.swapT (.int .u64)) := ⟨Tryz.f231,by kernel_rfl,by kernel_rfl,by kernel_rfl,by kernel_rfl,by kernel_rfl⟩
def x_swap64 : WTbl := [(231,swapX .u64)]
theorem x_swap64_ok : TblOk Tryz.prog x_swap64 := .consX (fun _ _ _ hq => swapX_ok _ _ _ ext_swap64 hq) .nil
theorem ext_addi64 : IsExt Tryz.prog 137 (Extern.Atomic.update (Op.intArith .add) .i64 true) := ⟨Tryz.f137,by kernel_rfl,by kernel_rfl,by kernel_rfl,by kernel_rfl,by kernel_rfl⟩
def x_addi64 : WTbl := [(137,addX .i64)]
theorem x_addi64_ok : TblOk Tryz.prog x_addi64 := .consX (fun _ _ _ hq => addX_ok _ _ _ ext_addi64 hq) .nil
def x_loadi64 : WTbl := []
theorem x_loadi64_ok : TblOk Tryz.prog x_loadi64 := .nil
theorem ext_load32 : IsExt Tryz.prog 143 (Extern.Atomic.loadT (.int .u32)) := ⟨Tryz.f143,by kernel_rfl,by kernel_rfl,by kernel_rfl,by kernel_rfl,by kernel_rfl⟩
def x_load32 : WTbl := [(143,loadX .u32)]
theorem x_load32_ok : TblOk Tryz.prog x_load32 := .consX (fun _ _ _ hq => loadX_ok _ _ _ ext_load32 hq) .nil
theorem ext_store32 : IsExt Tryz.prog 184 Extern.Atomic.storeT := ⟨Tryz.f184,by kernel_rfl,by kernel_rfl,by kernel_rfl,by kernel_rfl,by kernel_rfl⟩
def x_store32 : WTbl := [(184,storeX .u32)]
theorem x_store32_ok : TblOk Tryz.prog x_store32 := .consX (fun _ _ _ hq => storeX_ok _ _ _ ext_store32 hq) .nil
noncomputable def tblX : WTbl := x_load64 ++ x_store64 ++ x_cas64 ++ x_add64 ++ x_swap64 ++ x_addi64 ++ x_loadi64 ++ x_load32 ++ x_store32
theorem tblX_ok : TblOk Tryz.prog tblX := .append (.append (.append (.append (.append (.append (.append (.append (x_load64_ok) x_store64_ok) x_cas64_ok) x_add64_ok) x_swap64_ok) x_addi64_ok) x_loadi64_ok) x_load32_ok) x_store32_ok
structure DevM where
 n : Nat
 b : Nat->Int
 s : Nat->Bool
 st : Int
 fl : Int
 fe : Int
 ba : Int
 cu : Int
def small (z : Int) : Prop := 0<=z/\z < 1099511627776
noncomputable def devR (d : DevM) (p : Nat) : List Value := hide [if p % 193 = 192 then .bool (d.s (p / 193)) else .int .u8 (d.b p)]
theorem devR_eq (d : DevM) (p : Nat) : devR d p = [if p % 193 = 192 then .bool (d.s (p / 193)) else .int .u8 (d.b p)] := hide_eq _
namespace DevM
def ok (d : DevM) : Prop := d.n<=258/\(∀ p,0<=d.b p/\d.b p < 256)/\small d.st/\small d.fl/\small d.fe/\small d.ba/\small d.cu
def dev (i : Nat) (d : DevM) : AObj := .cells 170 (.av [.slE i 0 193 d.n d.n,i64 d.st,i64 d.fl,i64 d.fe,i64 d.ba,i64 d.cu])
noncomputable def cells (d : DevM) : AObj := .cells 215 (.row 1 (d.n * 193) (devR d) [])
noncomputable def os (d : DevM) : List AObj := [d.dev 1,d.cells]
def _root_.Go.Proofs.YtpnhfbegboogbaaGreat.newDev (n : Nat) : DevM := ⟨n,fun _ => 0,fun _ => false,0,0,0,0,0⟩
def flush (d : DevM) (k : Nat) : DevM := { d with b := fun p => if k * 193 + 128<=p/\p < k * 193 + 192 then d.b (p - 128) else d.b p,s := fun q => if q = k then true else d.s q,fl := if k < d.n then d.fl + 1 else d.fl }
def fenceTo (d : DevM) (k : Nat) : DevM := { d with b := fun p => if p / 193 < k/\d.s (p / 193) = true/\64<=p % 193/\p % 193 < 128 then d.b (p + 64) else d.b p,s := fun q => if q < k then false else d.s q }
def fence (d : DevM) : DevM := { d.fenceTo d.n with fe := d.fe + 1 }
def store (d : DevM) (k a n : Nat) (g : Nat->Int) : DevM := { d with b := fun p => if k * 193 + a<=p/\p < k * 193 + a + n then g (p - (k * 193 + a)) else d.b p,st := d.st + 1 }
end DevM
structure DevL where
 d : DevM
 k : Nat
noncomputable def flushC : Ctr := det DevL (fun x => [.ptr 0 0,i64 x.k]) 2 (fun x => x.d.os) (fun x => Hd (x.d.ok/\x.k < 258)) (fun x => i64 (if x.k < x.d.n then 0 else 2)) 2 (fun x => (x.d.flush x.k).os)
noncomputable def fenceC : Ctr := det DevM (fun _ => [.ptr 0 0]) 2 (fun d => d.os) (fun d => Hd d.ok) (fun _ => i64 0) 2 (fun d => d.fence.os)
noncomputable def anFence (d : DevM) : FuncId->Anns := fun f =>
 bif Nat.beq f 96 then (fun b fr h => bif Nat.beq b 0 then [{ σ := Nat,fr := fun k => [(12,i64 k)],ob := fun k => [(1,some (d.fenceTo k).cells)],inv := fun k => k<=d.n,meas := fun k => d.n - k }] else []) else
 fun _ _ _ => []
structure DevS where
 d : DevM
 k : Nat
 a : Nat
 b : Bys
noncomputable def storeC : Ctr := det DevS (fun x => [.ptr 0 0,i64 x.k,i64 x.a,x.b.av 2]) 3 (fun x => x.d.os ++ [x.b.ro]) (fun x => Hd (x.d.ok/\x.k < x.d.n/\x.b.ok/\x.a + x.b.n<=64)) (fun _ => i64 0) 3 (fun x => (x.d.store x.k x.a x.b.n (fun q => x.b.g (x.b.q + q))).os ++ [x.b.ro])
end Go.Proofs.YtpnhfbegboogbaaGreat
end
section
namespace Go.Proofs.YtpnhfbegboogbaaGreat
open Go SE
def BH_w7 (a : DevM) : Prop := a.ba = a.ba/\a.cu = a.cu/\True
def BH_w1 (a : DevM) : Prop := a.fe = a.fe/\BH_w7 a
def BH_w12 (a : Bys) : Prop := (rowB a.g a.N = rowB a.g a.N/\true = true)/\True
def BH_w10 (a : Nat) : Prop := a * 193 = a * 193
def BH_w6 (a : DevM) : Prop := a.fl = a.fl/\BH_w1 a
def BH_w13 (a : Nat) : Prop := 0 = 0/\a = a/\a = a
def BH_w2 (a : DevS) : Prop := ∃ y : Unit,True/\(0 : Int) = 2/\(BH_w13 a.d.n/\a.d.st + 1 = a.d.st/\BH_w6 a.d)/\(BH_w10 a.d.n/\∀ q : Nat,q < a.d.n * 193->Cs.eff (devR (a.d.store a.k a.a a.b.n (fun (q_1 : Nat) => a.b.g (a.b.q + q_1)))) [] q = Cs.eff (devR a.d) [] q)/\BH_w12 a.b
def BH_w8 (a : DevM) : Prop := (BH_w13 a.n/\a.st = a.st/\BH_w6 a)/\True
def BH_w11 (a : Bys) (b : Nat) : Prop := (Nat.beq (List.length [Value.int .u8 (a.g (a.q + b))]) 1 && List.all [Value.int .u8 (a.g (a.q + b))] Value.oneCell') = true
def BH_w14 : Prop := ∃ y : Unit,True/\(False/\(0 : Int) = 2/\True)/\False/\False/\True
def newdVC (n : Nat) : Prop :=
 cP (decide ((n : Int) < 1)) BH_w14 (cP (decide ((n : Int) > (258 : Int))) BH_w14 ((0<=(n : Int)/\(n : Int)<=(n : Int)/\193 * (n : Int)<=281474976710656/\(n : Int) < 4611686018427387904)/\∃ y : Unit,True/\(0 = 0/\(0 : Int) = 0/\True)/\(BH_w13 n/\(0 : Int) = 0/\(0 : Int) = 0/\(0 : Int) = 0/\(0 : Int) = 0/\(0 : Int) = 0/\True)/\(BH_w10 n/\∀ q : Nat,∀ j : Nat,q < n->j < 193->∃ v : Value,getElem? (List.replicate 192 (Value.int .u8 0) ++ [Value.bool false]) j = some v/\Cs.eff (devR (newDev n)) [] (q * 193 + j) = [v])/\True))
def flushVC (x : DevL) : Prop :=
 cP (decide ((x.k : Int) ≥ (x.d.n : Int))) (∃ y : Unit,True/\ite (x.k < x.d.n) (0 : Int) (2 : Int) = 2/\(BH_w13 x.d.n/\x.d.st = x.d.st/\ite (x.k < x.d.n) (x.d.fl + 1) x.d.fl = x.d.fl/\BH_w1 x.d)/\(BH_w10 x.d.n/\∀ q : Nat,q < x.d.n * 193->Cs.eff (devR (x.d.flush x.k)) [] q = Cs.eff (devR x.d) [] q)/\True) (I64 (64 : Int)/\(0<=(x.k : Int)/\(x.k : Int) < (x.d.n : Int))/\(0 + x.k) * 193 + 0 + 64<=x.d.n * 193/\(0 + x.k) * 193 + 128 + 64<=x.d.n * 193/\(∀ k : Nat,k < 64->(Nat.beq (List.length (Cs.eff (devR x.d) [] ((0 + x.k) * 193 + 0 + k))) 1 && List.all (Cs.eff (devR x.d) [] ((0 + x.k) * 193 + 0 + k)) Value.oneCell') = true)/\(0 + x.k) * 193 + 192 < x.d.n * 193/\I64 (x.d.fl + 1)/\∃ y : Unit,True/\ite (x.k < x.d.n) (0 : Int) (2 : Int) = 0/\(BH_w13 x.d.n/\x.d.st = x.d.st/\ite (x.k < x.d.n) (x.d.fl + 1) x.d.fl = x.d.fl + 1/\BH_w1 x.d)/\(BH_w10 x.d.n/\∀ q : Nat,q < x.d.n * 193->Cs.eff (devR (x.d.flush x.k)) [] q = Cs.eff (fun (p : Nat) => cond (Nat.ble ((0 + x.k) * 193 + 128) p && Nat.blt p ((0 + x.k) * 193 + 128 + 64)) (Cs.eff (devR x.d) [] ((0 + x.k) * 193 + 0 + (p - ((0 + x.k) * 193 + 128)))) (Cs.eff (devR x.d) [] p)) [((0 + x.k) * 193 + 192,[Value.bool true])] q)/\True)
theorem flushVC_ok (x : DevL) : flushVC x = wpF Tryz.prog tblX tt (fun _ _ _ _ => []) 200 5 95 (flushC.args x) (hO flushC.k (flushC.os x)) (fun v h' => endsP flushC.k x v h' flushC.outs) := by kernel_rfl
def fenceVC (d : DevM) : Prop :=
 (∃ s : Nat,s<=d.n/\True/\((s : Int) = 0/\True)/\(BH_w10 d.n/\∀ q : Nat,q < d.n * 193->Cs.eff (devR (d.fenceTo s)) [] q = Cs.eff (devR d) [] q)/\BH_w8 d)/\(∀ s : Nat,s<=d.n->cP (decide ((s : Int) < (d.n : Int))) ((0<=(s : Int)/\(s : Int) < (d.n : Int))/\(0 + s) * 193 + 192 < d.n * 193/\∃ b : Bool,getElem? (devR (d.fenceTo s) ((0 + s) * 193 + 192)) 0 = some (Value.bool b)/\cP b ((0 + s) * 193 + 128 + 64<=d.n * 193/\(0 + s) * 193 + 64 + 64<=d.n * 193/\(∀ k : Nat,k < 64->(Nat.beq (List.length (Cs.eff (devR (d.fenceTo s)) [] ((0 + s) * 193 + 128 + k))) 1 && List.all (Cs.eff (devR (d.fenceTo s)) [] ((0 + s) * 193 + 128 + k)) Value.oneCell') = true)/\(0 + s) * 193 + 192 < d.n * 193/\I64 ((s : Int) + 1)/\∃ s_1 : Nat,s_1<=d.n/\d.n - s_1 < d.n - s/\((s_1 : Int) = (s : Int) + 1/\True)/\(BH_w10 d.n/\∀ q : Nat,q < d.n * 193->Cs.eff (devR (d.fenceTo s_1)) [] q = Cs.eff (fun (p : Nat) => cond (Nat.ble ((0 + s) * 193 + 64) p && Nat.blt p ((0 + s) * 193 + 64 + 64)) (Cs.eff (devR (d.fenceTo s)) [] ((0 + s) * 193 + 128 + (p - ((0 + s) * 193 + 64)))) (Cs.eff (devR (d.fenceTo s)) [] p)) [((0 + s) * 193 + 192,[Value.bool false])] q)/\BH_w8 d) (I64 ((s : Int) + 1)/\∃ s_1 : Nat,s_1<=d.n/\d.n - s_1 < d.n - s/\((s_1 : Int) = (s : Int) + 1/\True)/\(BH_w10 d.n/\∀ q : Nat,q < d.n * 193->Cs.eff (devR (d.fenceTo s_1)) [] q = Cs.eff (devR (d.fenceTo s)) [] q)/\BH_w8 d)) (I64 (d.fe + 1)/\∃ y : Unit,True/\(0 : Int) = 0/\(BH_w13 d.n/\d.st = d.st/\d.fl = d.fl/\d.fe + 1 = d.fe + 1/\BH_w7 d)/\(BH_w10 d.n/\∀ q : Nat,q < d.n * 193->Cs.eff (devR d.fence) [] q = Cs.eff (devR (d.fenceTo s)) [] q)/\True))/\True
theorem fenceVC_ok (d : DevM) : fenceVC d = wpF Tryz.prog tblX tt (anFence d) 200 5 96 (fenceC.args d) (hO fenceC.k (fenceC.os d)) (fun v h' => endsP fenceC.k d v h' fenceC.outs) := by kernel_rfl
def storeVC (x : DevS) : Prop :=
 cP (decide ((x.k : Int) ≥ (x.d.n : Int))) (BH_w2 x) (I64 (64 - (x.b.n : Int))/\cP (decide ((x.a : Int) > 64 - (x.b.n : Int))) (BH_w2 x) ((0<=(x.k : Int)/\(x.k : Int) < (x.d.n : Int))/\0<=(x.a : Int)/\(x.a<=64/\64<=64/\64<=64)/\(0 + x.k) * 193 + 0 + x.a + (64 - x.a)<=x.d.n * 193/\cP (Nat.ble x.b.n (64 - x.a)) (x.b.q + x.b.n<=x.b.N/\(∀ k : Nat,k < x.b.n->BH_w11 x.b k)/\I64 (x.d.st + 1)/\∃ y : Unit,True/\(0 : Int) = 0/\(BH_w13 x.d.n/\x.d.st + 1 = x.d.st + 1/\BH_w6 x.d)/\(BH_w10 x.d.n/\∀ q : Nat,q < x.d.n * 193->Cs.eff (devR (x.d.store x.k x.a x.b.n (fun (q_1 : Nat) => x.b.g (x.b.q + q_1)))) [] q = Cs.eff (fun (p : Nat) => cond (Nat.ble ((0 + x.k) * 193 + 0 + x.a) p && Nat.blt p ((0 + x.k) * 193 + 0 + x.a + x.b.n)) [Value.int .u8 (x.b.g (x.b.q + (p - ((0 + x.k) * 193 + 0 + x.a))))] (Cs.eff (devR x.d) [] p)) [] q)/\BH_w12 x.b) (x.b.q + (64 - x.a)<=x.b.N/\(∀ k : Nat,k < 64 - x.a->BH_w11 x.b k)/\I64 (x.d.st + 1)/\∃ y : Unit,True/\(0 : Int) = 0/\(BH_w13 x.d.n/\x.d.st + 1 = x.d.st + 1/\BH_w6 x.d)/\(BH_w10 x.d.n/\∀ q : Nat,q < x.d.n * 193->Cs.eff (devR (x.d.store x.k x.a x.b.n (fun (q_1 : Nat) => x.b.g (x.b.q + q_1)))) [] q = Cs.eff (fun (p : Nat) => cond (Nat.ble ((0 + x.k) * 193 + 0 + x.a) p && Nat.blt p ((0 + x.k) * 193 + 0 + x.a + (64 - x.a))) [Value.int .u8 (x.b.g (x.b.q + (p - ((0 + x.k) * 193 + 0 + x.a))))] (Cs.eff (devR x.d) [] p)) [] q)/\BH_w12 x.b)))
theorem storeVC_ok (x : DevS) : storeVC x = wpF Tryz.prog tblX tt (fun _ _ _ _ => []) 200 5 54 (storeC.args x) (hO storeC.k (storeC.os x)) (fun v h' => endsP storeC.k x v h' storeC.outs) := by kernel_rfl
end Go.Proofs.YtpnhfbegboogbaaGreat
end
section
namespace Go.Proofs.YtpnhfbegboogbaaGreat
open Go SE
set_option linter.unusedSimpArgs false
theorem dev_one (d : DevM) (p : Nat) : ((devR d p).length.beq 1 && (devR d p).all Value.oneCell') = true := by
 rw [devR_eq]
 split <;> rfl
theorem newdVC_true (n : Nat) (hn : 1<=n/\n<=258) : newdVC n := by
 unfold newdVC
 simp only [BH_w14,BH_w13,BH_w10]
 simp only [hd_iff,and_true,true_and,Nat.zero_add,Nat.add_zero,unit_ex,unit_all,true_implies,implies_true,Int.toNat_natCast,eq_self,and_self,eff_nil,cond_one,cond_int,ones_int,row_int,ones_bool,row_bool,cond_bool,ble0,Bool.true_and,Nat.sub_zero,List.getElem?_cons_zero,Option.some.injEq,Value.bool.injEq,Value.int.injEq,exists_eq_left',exists_eq_left]
 refine cP_intro (fun h => absurd (of_decide_eq_true h) (by omega)) fun _ => cP_intro (fun h => absurd (of_decide_eq_true h) (by omega)) fun _ => ⟨by omega,fun q j _ hj => ?_⟩
 rw [devR_eq,show (q * 193 + j) % 193 = j by omega]
 by_cases h : j = 192
 ·subst h; exact ⟨_,rfl,rfl⟩
 ·rw [if_neg h]
  refine ⟨.int .u8 0,?_,rfl⟩
  rw [List.getElem?_append_left (by rw [List.length_replicate]; omega),List.getElem?_replicate,if_pos (by omega)]
theorem flushVC_true (x : DevL) (hx : x.d.ok/\x.k < 258) : flushVC x := by
 obtain ⟨⟨h1,h2,h3,h4,h5,h6⟩,hk⟩ := hx
 unfold small at *
 unfold flushVC
 simp only [BH_w13,BH_w1,BH_w10,BH_w7]
 simp only [hd_iff,and_true,true_and,Nat.zero_add,Nat.add_zero,unit_ex,unit_all,true_implies,implies_true,Int.toNat_natCast,eq_self,and_self,eff_nil,cond_one,cond_int,ones_int,row_int,ones_bool,row_bool,cond_bool,ble0,Bool.true_and,Nat.sub_zero,List.getElem?_cons_zero,Option.some.injEq,Value.bool.injEq,Value.int.injEq,exists_eq_left',exists_eq_left]
 refine cP_intro (fun h => ?_) fun h => ?_
 ·have h := of_decide_eq_true h
  refine ⟨by rw [if_neg (by omega)],by rw [if_neg (by omega)],fun q hq => ?_⟩
  simp only [devR_eq,DevM.flush]
  grind
 ·have h : x.k < x.d.n := by have := of_decide_eq_false h; omega
  rw [if_pos h,if_pos h]
  refine ⟨by unfold I64; omega,by omega,by omega,by omega,fun k _ => dev_one _ _,by omega,by unfold I64; omega,rfl,rfl,fun q hq => ?_⟩
  simp only [Cs.eff,blt_iff_decide,ble_iff_decide,nbeq_decide,bif_decide,← Bool.decide_and,devR_eq,DevM.flush]
  grind
theorem fenceVC_true (d : DevM) (hd : d.ok) : fenceVC d := by
 obtain ⟨h1,h2,h3,h4,h5,h6⟩ := hd
 unfold small at *
 unfold fenceVC
 simp only [BH_w10,BH_w8,BH_w13,BH_w7,BH_w6,BH_w1]
 simp only [hd_iff,and_true,true_and,Nat.zero_add,Nat.add_zero,unit_ex,unit_all,true_implies,implies_true,Int.toNat_natCast,eq_self,and_self,eff_nil,cond_one,cond_int,ones_int,row_int,ones_bool,row_bool,cond_bool,ble0,Bool.true_and,Nat.sub_zero,List.getElem?_cons_zero,Option.some.injEq,Value.bool.injEq,Value.int.injEq,exists_eq_left',exists_eq_left]
 refine ⟨⟨0,by omega,by omega,fun q hq => ?_⟩,fun s hs => cP_intro (fun hb => ?_) (fun hb => ?_)⟩
 ·simp only [devR_eq,DevM.fenceTo]; grind
 ·have hb := of_decide_eq_true hb
  refine ⟨by omega,by omega,d.s s,?_,cP_intro (fun hc => ?_) (fun hc => ?_)⟩
  ·simp only [devR_eq,DevM.fenceTo]; grind
  ·refine ⟨by omega,by omega,fun k _ => dev_one _ _,by omega,by unfold I64; omega,s + 1,by omega,by omega,by omega,fun q hq => ?_⟩
   simp only [Cs.eff,blt_iff_decide,ble_iff_decide,nbeq_decide,bif_decide,← Bool.decide_and,devR_eq,DevM.fenceTo]; grind (splits := 30)
  ·refine ⟨by unfold I64; omega,s + 1,by omega,by omega,by omega,fun q hq => ?_⟩
   simp only [devR_eq,DevM.fenceTo]; grind
 ·have : s = d.n := by have := of_decide_eq_false hb; omega
  subst this
  exact ⟨by unfold I64; omega,fun q _ => rfl⟩
theorem storeVC_true (x : DevS) (hx : x.d.ok/\x.k < x.d.n/\x.b.ok/\x.a + x.b.n<=64) : storeVC x := by
 obtain ⟨⟨h1,h2,h3,h4,h5,h6⟩,hk,hb,ha⟩ := hx
 unfold small at *
 unfold storeVC
 simp only [BH_w2,BH_w11,BH_w13,BH_w6,BH_w10,BH_w12,BH_w1,BH_w7]
 simp only [hd_iff,and_true,true_and,Nat.zero_add,Nat.add_zero,unit_ex,unit_all,true_implies,implies_true,Int.toNat_natCast,eq_self,and_self,eff_nil,cond_one,cond_int,ones_int,row_int,ones_bool,row_bool,cond_bool,ble0,Bool.true_and,Nat.sub_zero,List.getElem?_cons_zero,Option.some.injEq,Value.bool.injEq,Value.int.injEq,exists_eq_left',exists_eq_left]
 obtain ⟨b1,b2,b3⟩ := hb
 refine cP_intro (fun h => absurd (of_decide_eq_true h) (by omega)) fun _ => ⟨by unfold I64; omega,cP_intro (fun h => absurd (of_decide_eq_true h) (by omega)) fun _ => ⟨by omega,by omega,by omega,by omega,cP_intro (fun h => ?_) (fun h => ?_)⟩⟩
 ·refine ⟨b1,by unfold I64; omega,fun q hq => ?_⟩
  simp only [Cs.eff,blt_iff_decide,ble_iff_decide,nbeq_decide,bif_decide,← Bool.decide_and,devR_eq,DevM.store]; grind
 ·have : ¬ x.b.n<=64 - x.a := fun hh => by rw [show Nat.ble x.b.n (64 - x.a) = true by simpa using hh] at h; cases h
  omega
theorem flush_ok : CtrOk Tryz.prog 95 flushC := det_end tt_ok mixed tblX_ok (fun _ _ _ _ _ => []) 200 5 (fun _ => rfl) (fun _ => rfl) fun x hx => Eq.mp (flushVC_ok x) (flushVC_true x (hd_iff.1 hx))
theorem fence_ok : CtrOk Tryz.prog 96 fenceC := det_end tt_ok mixed tblX_ok anFence 200 5 (fun _ => rfl) (fun _ => rfl) fun x hx => Eq.mp (fenceVC_ok x) (fenceVC_true x (hd_iff.1 hx))
theorem store_ok : CtrOk Tryz.prog 54 storeC := det_end tt_ok mixed tblX_ok (fun _ _ _ _ _ => []) 200 5 (fun _ => rfl) (fun _ => rfl) fun x hx => Eq.mp (storeVC_ok x) (storeVC_true x (hd_iff.1 hx))
end Go.Proofs.YtpnhfbegboogbaaGreat
end
section
namespace Go.Proofs.YtpnhfbegboogbaaGreat
open Go SE
structure ClkM where
 t : Nat
 now : Int
 dur : Int
 clos : Int
 o : Nat->Int
 N : Nat->Bool
 L : Nat->Bool
def boolR (f : Nat->Bool) : Cs := .row 1 258 (fun k => [.bool (f k)]) []
def U64 (z : Int) : Prop := 0<=z/\z < 4611686018427387904
def stA (i : Nat) : Nat->AV
 | 0 => .lit .nilFunc
 | 1 => .fn (.func 48) [.ptr i 0] []
 | 2 => .fn (.func 97) [.ptr i 0] []
 | 3 => .fn (.func 134) [.ptr i 0] []
 | _ => .fn (.func 176) [.ptr i 0] []
def stV (ph : Nat) : AV := stA 0 ph
namespace ClkM
def ok (c : ClkM) : Prop := 1<=c.t/\c.t<=4/\U64 c.now/\U64 c.dur/\U64 c.clos/\∀ k,small (c.o k)
def clkA (c : ClkM) (i : Nat) (st : AV) : AObj := .cells 134 (.cat (.av [u64 c.now,u64 c.dur,u64 c.clos,.slE i 0 1 c.t c.t]) (.cat (boolR c.N) (.cat (boolR c.L) (.av [st]))))
def clk (c : ClkM) (ph : Nat) : AObj := c.clkA 1 (stV ph)
def owed (c : ClkM) : AObj := .cells 3 (.row 1 c.t (fun k => [.int .i64 (c.o k)]) [])
def os (c : ClkM) (ph : Nat) : List AObj := [c.clk ph,c.owed]
def note (c : ClkM) (t : Nat) (l : Int) : ClkM := { c with o := fun k => if k = t/\0<=l/\l < 258 then c.o k + 1 else c.o k,N := fun q => c.N q || decide (l = (q : Nat)) }
def fin (c : ClkM) : ClkM := { c with dur := c.clos,clos := 0 }
end ClkM
def newClk (t : Nat) (d : Int) : ClkM := ⟨t,d + 1,d,0,fun _ => 0,fun _ => false,fun _ => false⟩
structure ClkN where
 c : ClkM
 t : Nat
 l : Int
structure ClkD where
 c : ClkM
 d : DevM
namespace ClkD
def ok (x : ClkD) : Prop := x.c.ok/\x.d.ok/\x.c.clos ≠ 0/\1 < x.d.n
noncomputable def os (x : ClkD) (ph : Nat) : List AObj := x.c.os ph ++ [x.d.dev 3,x.d.cells]
end ClkD
end Go.Proofs.YtpnhfbegboogbaaGreat
end
section
namespace Go.Proofs.YtpnhfbegboogbaaGreat
open Go SE
def BK_w22 (a : Nat) : Prop := 0 = 0/\a = a/\a = a
def BK_w1 (a : ClkM) : Prop := a.now = a.now/\a.dur = a.dur/\a.clos = a.clos/\BK_w22 a.t/\True
def BK_w7 (a : ClkM) : Prop := 258 = 258/\∀ q : Nat,q < 258->[Value.bool (a.L q)] = [Value.bool (a.L q)]
def BK_w29 : Prop := Value.nilFunc = Value.nilFunc/\True
def BK_w4 (a : ClkN) : Prop := (BK_w1 a.c/\(258 = 258/\∀ q : Nat,q < 258->[Value.bool (Bool.or (a.c.N q) (decide (a.l = (q : Int))))] = [Value.bool (a.c.N q)])/\BK_w7 a.c/\BK_w29)/\(a.c.t = a.c.t/\∀ q : Nat,q < a.c.t->[Value.int .i64 (ite (q = a.t/\0<=a.l/\a.l < 258) (a.c.o q + 1) (a.c.o q))] = [Value.int .i64 (a.c.o q)])/\True
def BK_w26 : Prop := 258 = 258/\∀ q : Nat,q < 258->[Value.bool false] = [Value.bool false]
def BK_w31 : Prop := ∃ y : Unit,True/\(False/\(0 : Int) = 2/\True)/\False/\False/\True
def newkVC (p : Nat × Int) : Prop :=
 cP (decide ((p.1 : Int) < 1)) BK_w31 (cP (decide ((p.1 : Int) > (4 : Int))) BK_w31 (cP (decide (p.2 > (1152921504606846976 : Int))) (∃ y : Unit,True/\(False/\(0 : Int) = 10/\True)/\False/\False/\True) ((0<=(p.1 : Int)/\(p.1 : Int)<=(p.1 : Int)/\8 * (p.1 : Int)<=281474976710656/\(p.1 : Int) < 4611686018427387904)/\∃ y : Unit,True/\(0 = 0/\(0 : Int) = 0/\True)/\((p.2 + 1 = IntKind.wrap .u64 (p.2 + 1)/\p.2 = p.2/\(0 : Int) = 0/\(0 = 0/\p.1 = p.1/\p.1 = p.1)/\True)/\BK_w26/\BK_w26/\BK_w29)/\(p.1 = p.1/\∀ q : Nat,q < p.1->[Value.int .i64 0] = [Value.int .i64 0])/\True)))
def noteVC (x : ClkN) : Prop :=
 cP (decide ((x.t : Int) ≥ (x.c.t : Int))) (∃ y : Unit,True/\ite (0<=x.l/\x.l < 258) (0 : Int) (2 : Int) = 1/\BK_w4 x) (cP (decide (x.l < 0)) (∃ y : Unit,True/\ite (0<=x.l/\x.l < 258) (0 : Int) (2 : Int) = 2/\BK_w4 x) (cP (decide (x.l ≥ (258 : Int))) (∃ y : Unit,True/\ite (0<=x.l/\x.l < 258) (0 : Int) (2 : Int) = 2/\BK_w4 x) ((0<=(x.t : Int)/\(x.t : Int) < (x.c.t : Int))/\0 + x.t < x.c.t/\I64 (x.c.o (0 + x.t) + 1)/\(0<=(x.t : Int)/\(x.t : Int) < (x.c.t : Int))/\0 + x.t < x.c.t/\(0<=x.l/\x.l < 258)/\Int.toNat x.l < 258/\∃ y : Unit,True/\ite (0<=x.l/\x.l < 258) (0 : Int) (2 : Int) = 0/\(BK_w1 x.c/\(258 = 258/\∀ q : Nat,q < 258->[Value.bool (Bool.or (x.c.N q) (decide (x.l = (q : Int))))] = Cs.eff (fun (k : Nat) => [Value.bool (x.c.N k)]) [(Int.toNat x.l,[Value.bool true])] q)/\BK_w7 x.c/\BK_w29)/\(x.c.t = x.c.t/\∀ q : Nat,q < x.c.t->[Value.int .i64 (ite (q = x.t/\0<=x.l/\x.l < 258) (x.c.o q + 1) (x.c.o q))] = Cs.eff (fun (k : Nat) => [Value.int .i64 (x.c.o k)]) [(0 + x.t,[Value.int .i64 (x.c.o (0 + x.t) + 1)])] q)/\True)))
end Go.Proofs.YtpnhfbegboogbaaGreat
end
section
namespace Go.Proofs.YtpnhfbegboogbaaGreat
open Go SE
set_option linter.unusedSimpArgs false
theorem newkVC_true (p : Nat × Int) (hp : 1<=p.1/\p.1<=4/\0<=p.2/\p.2<=1152921504606846976) : newkVC p := by
 unfold newkVC
 simp only [BK_w31,BK_w26,BK_w29]
 simp only [hd_iff,and_true,true_and,Nat.zero_add,Nat.add_zero,unit_ex,unit_all,true_implies,implies_true,Int.toNat_natCast,eq_self,and_self,eff_nil,cond_one,cond_int,ones_int,row_int,ones_bool,row_bool,cond_bool,ble0,Bool.true_and,Nat.sub_zero,List.getElem?_cons_zero,Option.some.injEq,Value.bool.injEq,Value.int.injEq,exists_eq_left',exists_eq_left]
 refine cP_intro (fun h => absurd (of_decide_eq_true h) (by omega)) fun _ => cP_intro (fun h => absurd (of_decide_eq_true h) (by omega)) fun _ => cP_intro (fun h => absurd (of_decide_eq_true h) (by omega)) fun _ => ⟨by omega,?_⟩
 unfold IntKind.wrap; simp [IntKind.bits,IntKind.signed]; omega
theorem noteVC_true (x : ClkN) (hx : x.c.ok/\x.t < x.c.t) : noteVC x := by
 obtain ⟨⟨h1,h2,h3,h4,h5,h6⟩,ht⟩ := hx
 have hs := h6 x.t
 unfold small at hs
 unfold noteVC
 simp only [BK_w4,BK_w1,BK_w7,BK_w29,BK_w22]
 simp only [hd_iff,and_true,true_and,Nat.zero_add,Nat.add_zero,unit_ex,unit_all,true_implies,implies_true,Int.toNat_natCast,eq_self,and_self,eff_nil,cond_one,cond_int,ones_int,row_int,ones_bool,row_bool,cond_bool,ble0,Bool.true_and,Nat.sub_zero,List.getElem?_cons_zero,Option.some.injEq,Value.bool.injEq,Value.int.injEq,exists_eq_left',exists_eq_left]
 refine cP_intro (fun h => absurd (of_decide_eq_true h) (by omega)) fun _ => cP_intro (fun h => ?_) fun h => cP_intro (fun h2 => ?_) fun h2 => ?_
 ·have h := of_decide_eq_true h
  exact ⟨by rw [if_neg (by omega)],fun q hq => by simp; intro; omega,fun q hq => by rw [if_neg (by omega)]⟩
 ·have h := of_decide_eq_true h2
  exact ⟨by rw [if_neg (by omega)],fun q hq => by simp; intro; omega,fun q hq => by rw [if_neg (by omega)]⟩
 ·have h := of_decide_eq_false h
  have h2 := of_decide_eq_false h2
  have hl : 0<=x.l/\x.l < 258 := by omega
  refine ⟨by omega,by omega,by unfold I64; omega,by omega,by omega,hl,by omega,by rw [if_pos hl],fun q hq => ?_,fun q hq => ?_⟩
  ·simp only [Cs.eff,blt_iff_decide,ble_iff_decide,nbeq_decide,bif_decide,← Bool.decide_and]
   by_cases e : q = x.l.toNat
   ·rw [if_pos e,show decide (x.l = (q : Int)) = true by simp; omega,Bool.or_true]
   ·rw [if_neg e,show decide (x.l = (q : Int)) = false by simp; omega,Bool.or_false]
  ·simp only [Cs.eff,blt_iff_decide,ble_iff_decide,nbeq_decide,bif_decide,← Bool.decide_and]
   by_cases e : q = x.t
   ·subst e; rw [if_pos ⟨rfl,hl⟩,if_pos rfl]
   ·rw [if_neg (by omega),if_neg e]
theorem clockG_u8 (v : Int) (k : Nat) : 0<=clockG v k/\clockG v k < 256 := by
 unfold clockG head9
 split
 ·split
  ·omega
  ·exact div_mod_u8 _ _
 ·split
  ·exact div_mod_u8 _ _
  ·omega
end Go.Proofs.YtpnhfbegboogbaaGreat
end
section
namespace Go.Proofs.YtpnhfbegboogbaaGreat
open Go SE
theorem cP_true {x y : Prop} : cP true x y = x := rfl
theorem cP_false {x y : Prop} : cP false x y = y := rfl
def noA {X : Type} : X->FuncId->Anns := fun _ _ _ _ _ => []
def boo (b : Bool) : AV := .lit (.bool b)
def nilS : AV := .lit (.slice none 0 0)
def pdet (X : Type) (args : X->List AV) (k : Nat) (l : X->List PO) (pre : X->Prop) (ret : X->AV) (m : Nat) (l' : X->List PO) : PCtr :=
 { X := X,args := args,k := k,l := l,pre := pre,outs := [{ Y := Unit,post := fun _ _ => True,ret := fun x _ => ret x,m := m,l := fun x _ => l' x }] }
def spn (c : Int) : Int := if c = 0 then 1 else if c = 1 then 2 else if c = 2 then 4 else if c = 3 then 8 else 0
def cpc (c : Int) : Int := if c = 0 then 28 else if c = 1 then 91 else if c = 2 then 217 else if c = 3 then 469 else 0
def ned (n : Int) : Int := if n < 0 then -1 else if n<=28 then 0 else if n<=91 then 1 else if n<=217 then 2 else if n<=469 then 3 else -1
def spanC : Ctr := det Int (fun c => [i64 c]) 0 (fun _ => []) (fun _ => True) (fun c => i64 (spn c)) 0 (fun _ => [])
def capC : Ctr := det Int (fun c => [i64 c]) 0 (fun _ => []) (fun _ => True) (fun c => i64 (cpc c)) 0 (fun _ => [])
def needC : Ctr := det Int (fun c => [i64 c]) 0 (fun _ => []) (fun _ => True) (fun c => i64 (ned c)) 0 (fun _ => [])
def slb (l : Int) : Int := if l < 2 ∨ 258<=l then -1 else (l - 2) / 8
def slabC : Ctr := det Int (fun k => [i64 k]) 0 (fun _ => []) (fun _ => True) (fun k => i64 (if k < 0 ∨ 32<=k then -1 else 2 + k * 8)) 0 (fun _ => [])
def slabOfC : Ctr := det Int (fun k => [i64 k]) 0 (fun _ => []) (fun _ => True) (fun k => i64 (slb k)) 0 (fun _ => [])
structure ZStarts where
 k : Nat
 c : Int
def startsR (x : ZStarts) (n : Nat) : Cs := .row 1 n (fun i => [.int .i64 (2 + x.k * 8 + i * spn x.c)]) []
def startsC : Ctr := { X := ZStarts,args := fun x => [i64 x.k,i64 x.c],k := 0,os := fun _ => [],pre := fun x => Hd (x.k < 32),outs := [
 { Y := Unit,post := fun x _ => Hd (spn x.c = 0),ret := fun _ _ => nilS,m := 0,os := fun _ _ => [] },
 { Y := Unit,post := fun x _ => Hd (spn x.c ≠ 0),ret := fun x _ => .slW 0 0 1 (8 / spn x.c).toNat,m := 1,os := fun x _ => [.room 3 (startsR x (8 / spn x.c).toNat)] }] }
def anStarts (x : ZStarts) : FuncId->Anns := fun f => bif Nat.beq f 39 then (fun b _ _ => bif Nat.beq b 0 then [
 { σ := Unit,fr := fun _ => [(21,i64 0),(7,nilS)],ob := fun _ => [],inv := fun _ => Hd (spn x.c ≠ 0),meas := fun _ => 9,test := fun fr _ => (match SE.look fr 7 with | .lit _ => true | _ => false) },
 { σ := Nat,fr := fun i => [(21,i64 i),(7,.slW 0 0 1 i)],ob := fun i => [(0,some (.room 3 (startsR x i)))],inv := fun i => Hd (spn x.c ≠ 0/\1<=i/\i<=(8 / spn x.c).toNat),meas := fun i => 8 - i,nx := 1,test := fun fr _ => (match SE.look fr 7 with | .lit _ => false | _ => true) }] else []) else fun _ _ _ => []
structure ZIdx where
 g : Nat->Int
 n : Nat
 v : Int
def ZIdx.os (x : ZIdx) : List AObj := [.room 3 (.row 1 x.n (fun i => [.int .i64 (x.g i)]) [])]
def idxC : Ctr := { X := ZIdx,args := fun x => [.slW 0 0 1 x.n,i64 x.v],k := 1,os := ZIdx.os,pre := fun x => Hd (x.n < 1000),outs := [
 { Y := Nat,post := fun x i => Hd (i < x.n/\x.g i = x.v/\∀ j,j < i->x.g j ≠ x.v),ret := fun _ i => i64 i,m := 1,os := fun x _ => x.os },
 { Y := Unit,post := fun x _ => Hd (∀ j,j < x.n->x.g j ≠ x.v),ret := fun _ _ => i64 (-1),m := 1,os := fun x _ => x.os }] }
def anIdx (x : ZIdx) : FuncId->Anns := fun f => bif Nat.beq f 142 then (fun b _ _ => bif Nat.beq b 0 then [
 { σ := Nat,fr := fun i => [(8,i64 i)],ob := fun _ => [],inv := fun i => Hd (i<=x.n/\∀ j,j < i->x.g j ≠ x.v),meas := fun i => x.n - i }] else []) else fun _ _ _ => []
def tblS1 : WTbl := [(84,ctrT spanC)]
def tblS2 : WTbl := [(104,ctrT capC)]
def tblS3 : WTbl := [(84,ctrT spanC),(85,ctrT slabC)]
end Go.Proofs.YtpnhfbegboogbaaGreat
end
section
namespace Go.Proofs.YtpnhfbegboogbaaGreat
open Go SE
def BN_w1 (a : ZIdx) : Prop := (a.n = a.n/\∀ q : Nat,q < a.n->[Value.int .i64 (a.g q)] = [Value.int .i64 (a.g q)])/\True
def BN_w6 : Prop := Value.slice none 0 0 = Value.slice none 0 0/\True
def BN_w3 (a : Int) : Prop := (∃ y_2 : Unit,Hd (spn a = 0)/\BN_w6) ∨ ∃ y_2 : Unit,Hd (spn a ≠ (0 : Int))/\False/\False/\True
def BN_w7 (a : Int) (b : Nat) : Prop := Hd (spn a ≠ (0 : Int)/\1<=b/\b<=Int.toNat ((8 : Int) / spn a))
def BN_w9 (a : Int) : Prop := ∃ y : Unit,True/\ite (a < 0 ∨ 32<=a) (-(1 : Int)) (2 + a * 8) = (-(1 : Int))/\True
def spanVC (c : Int) : Prop :=
 cP (decide (c < 0)) (∃ y : Unit,True/\spn c = 0/\True) (cP (decide (c > (3 : Int))) (∃ y : Unit,True/\spn c = 0/\True) (0<=c/\∃ y : Unit,True/\spn c = IntKind.wrap .i64 (1 * @HPow.hPow Int Nat Int (@instHPow Int Nat (@instPowNat Int @Int.instNatPow)) (2 : Int) (@Min.min Nat @instMinNat (Int.toNat c) 64))/\True))
theorem spanVC_ok (c : Int) : spanVC c = wpF Tryz.prog [] tt (noA c) 200 5 84 (spanC.args c) (hO spanC.k (spanC.os c)) (fun v h' => endsP spanC.k c v h' spanC.outs) := by kernel_rfl
def capVC (c : Int) : Prop :=
 ∃ x : Int,True/\(x = c/\True)/\True/\∀ y : Unit,True->cP (decide (spn x > (0 : Int))) (I64 (spn x - 1)/\I64 ((spn x - 1) * 63)/\I64 (28 + (spn x - 1) * 63)/\∃ y_1 : Unit,True/\cpc c = 28 + (spn x - 1) * 63/\True) (∃ y_1 : Unit,True/\cpc c = 0/\True)
theorem capVC_ok (c : Int) : capVC c = wpF Tryz.prog tblS1 tt (noA c) 200 5 104 (capC.args c) (hO capC.k (capC.os c)) (fun v h' => endsP capC.k c v h' capC.outs) := by kernel_rfl
def needVC (c : Int) : Prop :=
 cP (decide (c < 0)) (∃ y : Unit,True/\ned c = (-(1 : Int))/\True) (∃ x : Int,True/\(x = 0/\True)/\True/\∀ y : Unit,True->cP (decide (cpc x ≥ c)) (∃ y_1 : Unit,True/\ned c = 0/\True) (I64 (1 : Int)/\∃ x_1 : Int,True/\(x_1 = 1/\True)/\True/\∀ y_1 : Unit,True->cP (decide (cpc x_1 ≥ c)) (∃ y_2 : Unit,True/\ned c = 1/\True) (I64 (2 : Int)/\∃ x_2 : Int,True/\(x_2 = 2/\True)/\True/\∀ y_2 : Unit,True->cP (decide (cpc x_2 ≥ c)) (∃ y_3 : Unit,True/\ned c = 2/\True) (I64 (3 : Int)/\∃ x_3 : Int,True/\(x_3 = 3/\True)/\True/\∀ y_3 : Unit,True->cP (decide (cpc x_3 ≥ c)) (∃ y_4 : Unit,True/\ned c = 3/\True) (I64 (4 : Int)/\∃ y_4 : Unit,True/\ned c = (-(1 : Int))/\True)))))
theorem needVC_ok (c : Int) : needVC c = wpF Tryz.prog tblS2 tt (noA c) 200 5 152 (needC.args c) (hO needC.k (needC.os c)) (fun v h' => endsP needC.k c v h' needC.outs) := by kernel_rfl
def slabVC (c : Int) : Prop :=
 cP (decide (c < 0)) (BN_w9 c) (cP (decide (c ≥ (32 : Int))) (BN_w9 c) (I64 (c * 8)/\I64 (2 + c * 8)/\∃ y : Unit,True/\ite (c < 0 ∨ 32<=c) (-(1 : Int)) (2 + c * 8) = 2 + c * 8/\True))
theorem slabVC_ok (c : Int) : slabVC c = wpF Tryz.prog [] tt (noA c) 200 5 85 (slabC.args c) (hO slabC.k (slabC.os c)) (fun v h' => endsP slabC.k c v h' slabC.outs) := by kernel_rfl
def slabOfVC (c : Int) : Prop :=
 cP (decide (c < 2)) (∃ y : Unit,True/\slb c = (-(1 : Int))/\True) (cP (decide (c ≥ (258 : Int))) (∃ y : Unit,True/\slb c = (-(1 : Int))/\True) (I64 (c - 2)/\((8 : Int) = 0->False)/\I64 (Int.tdiv (c - 2) (8 : Int))/\∃ y : Unit,True/\slb c = Int.tdiv (c - 2) (8 : Int)/\True))
theorem slabOfVC_ok (c : Int) : slabOfVC c = wpF Tryz.prog [] tt (noA c) 200 5 141 (slabOfC.args c) (hO slabOfC.k (slabOfC.os c)) (fun v h' => endsP slabOfC.k c v h' slabOfC.outs) := by kernel_rfl
def startsVC (x : ZStarts) : Prop :=
 ∃ x_1 : Int,True/\(x_1 = x.c/\True)/\True/\∀ y : Unit,True->∃ x_2 : Int,True/\(x_2 = (x.k : Int)/\True)/\True/\∀ y_1 : Unit,True->cP (BEq.beq (spn x_1) (0 : Int)) (BN_w3 x.c) (cP (decide (ite (x_2 < 0 ∨ 32<=x_2) (-(1 : Int)) (2 + x_2 * 8) < 0)) (BN_w3 x.c) ((spn x_1 = 0->False)/\I64 (Int.tdiv (8 : Int) (spn x_1))/\(∃ s : Unit,Hd (spn x.c ≠ (0 : Int))/\True/\((0 : Int) = 0/\BN_w6)/\True)/\(∀ s : Unit,Hd (spn x.c ≠ (0 : Int))->cP (decide (0 < Int.tdiv (8 : Int) (spn x_1))) (I64 (0 * spn x_1)/\I64 (ite (x_2 < 0 ∨ 32<=x_2) (-(1 : Int)) (2 + x_2 * 8) + 0 * spn x_1)/\(2 * (0 + 1) + 1000) * 8<=281474976710656/\I64 (1 : Int)/\∃ s_1 : Nat,BN_w7 x.c s_1/\8 - s_1 < 9/\((s_1 : Int) = 1/\(0 = 0/\s_1 = 1)/\True)/\(s_1 = 0 + List.length [List.take 1 [Value.int .i64 (ite (x_2 < 0 ∨ 32<=x_2) (-(1 : Int)) (2 + x_2 * 8) + 0 * spn x_1)]]/\∀ q : Nat,q < s_1->[Value.int .i64 (2 + (x.k : Int) * 8 + (q : Int) * spn x.c)] = Cs.eff (fun (x_3 : Nat) => []) [(0,List.take 1 [Value.int .i64 (ite (x_2 < 0 ∨ 32<=x_2) (-(1 : Int)) (2 + x_2 * 8) + 0 * spn x_1)])] q)/\True) (BN_w3 x.c))/\(∀ s : Nat,BN_w7 x.c s->cP (decide ((s : Int) < Int.tdiv (8 : Int) (spn x_1))) (I64 ((s : Int) * spn x_1)/\I64 (ite (x_2 < 0 ∨ 32<=x_2) (-(1 : Int)) (2 + x_2 * 8) + (s : Int) * spn x_1)/\s = s/\List.all [List.take 1 [Value.int .i64 (ite (x_2 < 0 ∨ 32<=x_2) (-(1 : Int)) (2 + x_2 * 8) + (s : Int) * spn x_1)]] (fun (l : List Value) => Nat.beq (List.length l) 1 && List.all l Value.oneCell') = true/\(2 * (s + 1) + 1000) * 8<=281474976710656/\I64 ((s : Int) + 1)/\∃ s_1 : Nat,BN_w7 x.c s_1/\8 - s_1 < 8 - s/\((s_1 : Int) = (s : Int) + 1/\(0 = 0/\s_1 = s + 1)/\True)/\
 (s_1 = s + List.length [List.take 1 [Value.int .i64 (ite (x_2 < 0 ∨ 32<=x_2) (-(1 : Int)) (2 + x_2 * 8) + (s : Int) * spn x_1)]]/\∀ q : Nat,q < s_1->[Value.int .i64 (2 + (x.k : Int) * 8 + (q : Int) * spn x.c)] = Cs.eff (fun (i : Nat) => [Value.int .i64 (2 + (x.k : Int) * 8 + (i : Int) * spn x.c)]) [(s,List.take 1 [Value.int .i64 (ite (x_2 < 0 ∨ 32<=x_2) (-(1 : Int)) (2 + x_2 * 8) + (s : Int) * spn x_1)])] q)/\True) ((∃ y_2 : Unit,Hd (spn x.c = 0)/\False/\True) ∨ ∃ y_2 : Unit,Hd (spn x.c ≠ (0 : Int))/\(0 = 0/\Int.toNat ((8 : Int) / spn x.c) = s)/\(Int.toNat ((8 : Int) / spn x.c) = s/\∀ q : Nat,q < Int.toNat ((8 : Int) / spn x.c)->[Value.int .i64 (2 + (x.k : Int) * 8 + (q : Int) * spn x.c)] = [Value.int .i64 (2 + (x.k : Int) * 8 + (q : Int) * spn x.c)])/\True))/\True))
theorem startsVC_ok (x : ZStarts) : startsVC x = wpF Tryz.prog tblS3 tt (anStarts x) 200 5 39 (startsC.args x) (hO startsC.k (startsC.os x)) (fun v h' => endsP startsC.k x v h' startsC.outs) := by kernel_rfl
def idxVC (x : ZIdx) : Prop :=
 (∃ s : Nat,Hd (s<=x.n/\∀ j : Nat,j < s->x.g j ≠ x.v)/\True/\((s : Int) = 0/\True)/\BN_w1 x)/\(∀ s : Nat,Hd (s<=x.n/\∀ j : Nat,j < s->x.g j ≠ x.v)->cP (decide ((s : Int) < (x.n : Int))) ((0<=(s : Int)/\(s : Int) < (x.n : Int))/\0 + s < x.n/\cP (BEq.beq x.v (x.g (0 + s))) ((∃ y : Nat,Hd (y < x.n/\x.g y = x.v/\∀ j : Nat,j < y->x.g j ≠ x.v)/\(y : Int) = (s : Int)/\BN_w1 x) ∨ ∃ y : Unit,Hd (∀ j : Nat,j < x.n->x.g j ≠ x.v)/\(-(1 : Int)) = (s : Int)/\BN_w1 x) (I64 ((s : Int) + 1)/\∃ s_1 : Nat,Hd (s_1<=x.n/\∀ j : Nat,j < s_1->x.g j ≠ x.v)/\x.n - s_1 < x.n - s/\((s_1 : Int) = (s : Int) + 1/\True)/\BN_w1 x)) ((∃ y : Nat,Hd (y < x.n/\x.g y = x.v/\∀ j : Nat,j < y->x.g j ≠ x.v)/\(y : Int) = (-(1 : Int))/\BN_w1 x) ∨ ∃ y : Unit,Hd (∀ j : Nat,j < x.n->x.g j ≠ x.v)/\(-(1 : Int)) = (-(1 : Int))/\BN_w1 x))/\True
theorem idxVC_ok (x : ZIdx) : idxVC x = wpF Tryz.prog [] tt (anIdx x) 200 5 142 (idxC.args x) (hO idxC.k (idxC.os x)) (fun v h' => endsP idxC.k x v h' idxC.outs) := by kernel_rfl
end Go.Proofs.YtpnhfbegboogbaaGreat
end
section
namespace Go.Proofs.YtpnhfbegboogbaaGreat
open Go SE
set_option linter.unusedSimpArgs false
theorem spn_cases (c : Int) : (c = 0/\spn c = 1/\cpc c = 28) ∨ (c = 1/\spn c = 2/\cpc c = 91) ∨ (c = 2/\spn c = 4/\cpc c = 217) ∨ (c = 3/\spn c = 8/\cpc c = 469) ∨ ((c < 0 ∨ 3 < c)/\spn c = 0/\cpc c = 0) := by
 by_cases h0 : c = 0
 ·subst h0; simp [spn,cpc]
 by_cases h1 : c = 1
 ·subst h1; simp [spn,cpc]
 by_cases h2 : c = 2
 ·subst h2; simp [spn,cpc]
 by_cases h3 : c = 3
 ·subst h3; simp [spn,cpc]
 simp [spn,cpc,h0,h1,h2,h3]; omega
theorem spanVC_true (c : Int) : spanVC c := by
 unfold spanVC
 simp only [hd_iff,and_true,true_and,Nat.zero_add,Nat.add_zero,unit_ex,unit_all,true_implies,implies_true,Int.toNat_natCast,eq_self,and_self,eff_nil,cond_one,cond_int,ones_int,row_int,ones_bool,row_bool,cond_bool,ble0,Bool.true_and,Nat.sub_zero,List.getElem?_cons_zero,Option.some.injEq,Value.bool.injEq,Value.int.injEq,exists_eq_left',exists_eq_left,cP_iff,decide_eq_true_eq,decide_eq_false_iff_not]
 refine ⟨fun h => ?_,fun h => ⟨fun h2 => ?_,fun h2 => ⟨by omega,?_⟩⟩⟩
 ·rcases spn_cases c with h' | h' | h' | h' | h' <;> omega
 ·rcases spn_cases c with h' | h' | h' | h' | h' <;> omega
 ·have : c = 0 ∨ c = 1 ∨ c = 2 ∨ c = 3 := by omega
  rcases this with rfl | rfl | rfl | rfl <;> decide
theorem capVC_true (c : Int) : capVC c := by
 unfold capVC
 simp only [hd_iff,and_true,true_and,Nat.zero_add,Nat.add_zero,unit_ex,unit_all,true_implies,implies_true,Int.toNat_natCast,eq_self,and_self,eff_nil,cond_one,cond_int,ones_int,row_int,ones_bool,row_bool,cond_bool,ble0,Bool.true_and,Nat.sub_zero,List.getElem?_cons_zero,Option.some.injEq,Value.bool.injEq,Value.int.injEq,exists_eq_left',exists_eq_left,cP_iff,decide_eq_true_eq,decide_eq_false_iff_not]
 unfold I64
 rcases spn_cases c with h' | h' | h' | h' | h' <;> omega
theorem needVC_true (c : Int) : needVC c := by
 unfold needVC
 simp only [hd_iff,and_true,true_and,Nat.zero_add,Nat.add_zero,unit_ex,unit_all,true_implies,implies_true,Int.toNat_natCast,eq_self,and_self,eff_nil,cond_one,cond_int,ones_int,row_int,ones_bool,row_bool,cond_bool,ble0,Bool.true_and,Nat.sub_zero,List.getElem?_cons_zero,Option.some.injEq,Value.bool.injEq,Value.int.injEq,exists_eq_left',exists_eq_left,cP_iff,decide_eq_true_eq,decide_eq_false_iff_not]
 unfold I64 ned
 have e : cpc 0 = 28/\cpc 1 = 91/\cpc 2 = 217/\cpc 3 = 469 := ⟨rfl,rfl,rfl,rfl⟩
 obtain ⟨e0,e1,e2,e3⟩ := e
 rw [e0,e1,e2,e3]
 grind
theorem slabVC_true (c : Int) : slabVC c := by
 unfold slabVC
 simp only [BN_w9]
 simp only [hd_iff,and_true,true_and,Nat.zero_add,Nat.add_zero,unit_ex,unit_all,true_implies,implies_true,Int.toNat_natCast,eq_self,and_self,eff_nil,cond_one,cond_int,ones_int,row_int,ones_bool,row_bool,cond_bool,ble0,Bool.true_and,Nat.sub_zero,List.getElem?_cons_zero,Option.some.injEq,Value.bool.injEq,Value.int.injEq,exists_eq_left',exists_eq_left,cP_iff,decide_eq_true_eq,decide_eq_false_iff_not]
 unfold I64
 grind
theorem slabOfVC_true (c : Int) : slabOfVC c := by
 unfold slabOfVC
 simp only [hd_iff,and_true,true_and,Nat.zero_add,Nat.add_zero,unit_ex,unit_all,true_implies,implies_true,Int.toNat_natCast,eq_self,and_self,eff_nil,cond_one,cond_int,ones_int,row_int,ones_bool,row_bool,cond_bool,ble0,Bool.true_and,Nat.sub_zero,List.getElem?_cons_zero,Option.some.injEq,Value.bool.injEq,Value.int.injEq,exists_eq_left',exists_eq_left,cP_iff,decide_eq_true_eq,decide_eq_false_iff_not]
 refine ⟨fun h => by unfold slb; rw [if_pos (by omega)],fun h => ⟨fun h2 => by unfold slb; rw [if_pos (by omega)],fun h2 => ?_⟩⟩
 have e : (c - 2).tdiv 8 = (c - 2) / 8 := Int.tdiv_eq_ediv_of_nonneg (by omega)
 rw [e]
 exact ⟨by unfold I64; omega,by decide,by unfold I64; omega,by unfold slb; rw [if_neg (by omega)]⟩
theorem startsVC_true (x : ZStarts) (hx : x.k < 32) : startsVC x := by
 unfold startsVC
 simp only [BN_w3,BN_w6,BN_w7]
 simp only [hd_iff,and_true,true_and,Nat.zero_add,Nat.add_zero,unit_ex,unit_all,true_implies,implies_true,Int.toNat_natCast,eq_self,and_self,eff_nil,cond_one,cond_int,ones_int,row_int,ones_bool,row_bool,cond_bool,ble0,Bool.true_and,Nat.sub_zero,List.getElem?_cons_zero,Option.some.injEq,Value.bool.injEq,Value.int.injEq,exists_eq_left',exists_eq_left]
 have hf : (if (x.k : Int) < 0 ∨ 32<=(x.k : Int) then (-1 : Int) else 2 + x.k * 8) = 2 + x.k * 8 := if_neg (by omega)
 rw [hf]
 have hs := spn_cases x.c
 have hdiv : spn x.c ≠ 0->Int.tdiv 8 (spn x.c) = 8 / spn x.c/\1<=8 / spn x.c/\8 / spn x.c<=8/\0 < spn x.c/\spn x.c<=8/\(8 / spn x.c) * spn x.c = 8 := fun h => by
  rcases hs with h' | h' | h' | h' | h' <;> obtain ⟨_,e,_⟩ := h' <;> rw [e] <;> first | decide | exact (h e).elim
 refine cP_intro (fun h => .inl (by simpa using h)) fun h => cP_intro (fun h2 => absurd (of_decide_eq_true h2) (by omega)) fun _ => ?_
 have hz : spn x.c ≠ 0 := by simpa using h
 obtain ⟨e1,e2,e3,e4,e5,e6⟩ := hdiv hz
 have hm : ∀ s : Nat,(s : Int)<=8->(s : Int) * spn x.c<=64/\0<=(s : Int) * spn x.c := fun s hs => ⟨by
  have := Int.mul_le_mul hs e5 (by omega) (by omega : (0 : Int)<=8); omega,Int.mul_nonneg (by omega) (by omega)⟩
 rw [e1]
 refine ⟨hz,by unfold I64; omega,hz,fun _ => cP_intro (fun _ => ?_) fun h => absurd (of_decide_eq_false h) (by omega),fun s hs => cP_intro (fun h => ?_) fun h => ?_⟩
 ·refine ⟨by unfold I64; omega,by unfold I64; omega,by omega,by unfold I64; omega,1,⟨hz,by omega,by omega⟩,by omega,⟨rfl,rfl⟩,rfl,fun q hq => ?_⟩
  have : q = 0 := by omega
  subst this
  simp [Cs.eff]
 ·have h := of_decide_eq_true h
  obtain ⟨_,h1,h2⟩ := hs
  obtain ⟨m1,m2⟩ := hm s (by omega)
  refine ⟨by unfold I64; omega,by unfold I64; omega,rfl,by omega,by unfold I64; omega,s + 1,⟨hz,by omega,by omega⟩,by omega,⟨by omega,rfl⟩,rfl,fun q hq => ?_⟩
  simp only [Cs.eff,blt_iff_decide,ble_iff_decide,nbeq_decide,bif_decide,← Bool.decide_and]
  by_cases e : q = s
  ·subst e; rw [if_pos rfl]; rfl
  ·rw [if_neg e]
 ·have h := of_decide_eq_false h
  exact .inr ⟨hz,by omega⟩
theorem idxVC_true (x : ZIdx) (hx : x.n < 1000) : idxVC x := by
 unfold idxVC
 simp only [BN_w1]
 simp only [hd_iff,and_true,true_and,Nat.zero_add,Nat.add_zero,unit_ex,unit_all,true_implies,implies_true,Int.toNat_natCast,eq_self,and_self,eff_nil,cond_one,cond_int,ones_int,row_int,ones_bool,row_bool,cond_bool,ble0,Bool.true_and,Nat.sub_zero,List.getElem?_cons_zero,Option.some.injEq,Value.bool.injEq,Value.int.injEq,exists_eq_left',exists_eq_left]
 refine ⟨⟨0,⟨Nat.zero_le _,fun j hj => absurd hj (Nat.not_lt_zero j)⟩,Int.natCast_zero⟩,fun s hs => cP_intro (fun h => ?_) fun h => ?_⟩
 ·have h := of_decide_eq_true h
  refine ⟨by omega,by omega,cP_intro (fun e => .inl ⟨s,⟨by omega,(beq_iff_eq.1 e).symm,hs.2⟩,rfl⟩) fun e => ⟨by unfold I64; omega,s + 1,⟨by omega,fun j hj => ?_⟩,by omega,by omega⟩⟩
  by_cases e' : j = s
  ·subst e'; intro h'; simp [h'] at e
  ·exact hs.2 j (by omega)
 ·have h := of_decide_eq_false h
  exact .inr fun j hj => hs.2 j (by omega)
theorem span_ok : CtrOk Tryz.prog 84 spanC := det_end tt_ok mixed TblOk.nil noA 200 5 (fun _ => rfl) (fun _ => rfl) fun x _ => Eq.mp (spanVC_ok x) (spanVC_true x)
theorem cap_ok : CtrOk Tryz.prog 104 capC := det_end tt_ok mixed (.cons (ctrT_ok span_ok) .nil) noA 200 5 (fun _ => rfl) (fun _ => rfl) fun x _ => Eq.mp (capVC_ok x) (capVC_true x)
theorem need_ok : CtrOk Tryz.prog 152 needC := det_end tt_ok mixed (.cons (ctrT_ok cap_ok) .nil) noA 200 5 (fun _ => rfl) (fun _ => rfl) fun x _ => Eq.mp (needVC_ok x) (needVC_true x)
theorem slab_ok : CtrOk Tryz.prog 85 slabC := det_end tt_ok mixed TblOk.nil noA 200 5 (fun _ => rfl) (fun _ => rfl) fun x _ => Eq.mp (slabVC_ok x) (slabVC_true x)
theorem slabOf_ok : CtrOk Tryz.prog 141 slabOfC := det_end tt_ok mixed TblOk.nil noA 200 5 (fun _ => rfl) (fun _ => rfl) fun x _ => Eq.mp (slabOfVC_ok x) (slabOfVC_true x)
theorem starts_ok : CtrOk Tryz.prog 39 startsC := ctr_endL tt_ok mixed (.cons (ctrT_ok span_ok) (.cons (ctrT_ok slab_ok) .nil)) anStarts 200 5 (fun _ => rfl) (fun _ => ⟨fun _ => rfl,fun _ => rfl,trivial⟩) fun x hx => Eq.mp (startsVC_ok x) (startsVC_true x (hd_iff.1 hx))
theorem idx_ok : CtrOk Tryz.prog 142 idxC := ctr_endL tt_ok mixed .nil anIdx 200 5 (fun _ => rfl) (fun _ => ⟨fun _ => rfl,fun _ => rfl,trivial⟩) fun x hx => Eq.mp (idxVC_ok x) (idxVC_true x (hd_iff.1 hx))
end Go.Proofs.YtpnhfbegboogbaaGreat
end
section
namespace Go.Proofs.YtpnhfbegboogbaaGreat
open Go SE
structure ZPool where
 n : Nat
 cls : Nat->Int
 tk : Nat->Nat->Bool
 cnt : Nat->Int
noncomputable def poolR (p : ZPool) (q : Nat) : List Value := hide [if q % 10 = 0 then .int .i64 (p.cls (q / 10)) else if q % 10 = 9 then .int .i64 (p.cnt (q / 10)) else .bool (p.tk (q / 10) (q % 10 - 1))]
theorem poolR_eq (p : ZPool) (q : Nat) : poolR p q = [if q % 10 = 0 then .int .i64 (p.cls (q / 10)) else if q % 10 = 9 then .int .i64 (p.cnt (q / 10)) else .bool (p.tk (q / 10) (q % 10 - 1))] := hide_eq _
namespace ZPool
def ok (p : ZPool) : Prop := 1<=p.n/\p.n<=32/\∀ i,i < p.n->-1<=p.cls i/\p.cls i<=3/\0<=p.cnt i/\p.cnt i<=8
noncomputable def slabs (p : ZPool) : AObj := .cells 119 (.row 1 (p.n * 10) (poolR p) [])
noncomputable def os (p : ZPool) : List AObj := [.cells 188 (.av [.slE 1 0 10 p.n p.n]),p.slabs]
def many (c : Int) : Nat := (8 / spn c).toNat
def full (p : ZPool) (c : Int) (i : Nat) : Prop := p.cls i = c->∀ k,k < many c->p.tk i k = true
def takes (p : ZPool) (c : Int) (i k : Nat) : Prop := i < p.n/\k < many c/\p.tk i k = (if p.cls i = c then false else p.tk i k) /\
 ((p.cls i = c/\(∀ j,j < k->p.tk i j = true)/\∀ j,j < i->p.full c j) ∨ (p.cls i = -1/\k = 0/\(∀ j,j < p.n->p.full c j)/\∀ j,j < i->p.cls j ≠ -1))
def take (p : ZPool) (c : Int) (i k : Nat) : ZPool := { p with cls := fun j => if j = i then c else p.cls j,tk := fun j q => if j = i/\q = k then true else p.tk j q,cnt := fun j => if j = i then p.cnt j + 1 else p.cnt j }
end ZPool
def newPool (n i : Nat) : ZPool := ⟨n,fun j => if j < i then -1 else 0,fun _ _ => false,fun _ => 0⟩
noncomputable def anNewp (n : Nat) : FuncId->Anns := fun f => bif Nat.beq f 64 then (fun b _ _ => bif Nat.beq b 0 then [
 { σ := Nat,fr := fun i => [(22,i64 i)],ob := fun i => [(0,some (newPool n i).slabs)],inv := fun i => i<=n,meas := fun i => n - i }] else []) else fun _ _ _ => []
structure ZPoolI where
 p : ZPool
 i : Nat
noncomputable def freeC : Ctr := { X := ZPoolI,args := fun x => [.ptrE 0 x.i 10 0],k := 1,os := fun x => [x.p.slabs],pre := fun x => Hd (x.p.ok/\x.i < x.p.n/\0<=x.p.cls x.i),outs := [
 { Y := Nat,post := fun x k => Hd (k < ZPool.many (x.p.cls x.i)/\x.p.tk x.i k = false/\∀ j,j < k->x.p.tk x.i j = true),ret := fun _ k => i64 k,m := 1,os := fun x _ => [x.p.slabs] },
 { Y := Unit,post := fun x _ => Hd (∀ k,k < ZPool.many (x.p.cls x.i)->x.p.tk x.i k = true),ret := fun _ _ => i64 (-1),m := 1,os := fun x _ => [x.p.slabs] }] }
noncomputable def anFree (x : ZPoolI) : FuncId->Anns := fun f => bif Nat.beq f 222 then (fun b _ _ => bif Nat.beq b 0 then [
 { σ := Nat,fr := fun k => [(10,i64 k)],ob := fun _ => [],inv := fun k => Hd (k<=ZPool.many (x.p.cls x.i)/\∀ j,j < k->x.p.tk x.i j = true),meas := fun k => 8 - k }] else []) else fun _ _ _ => []
structure ZPoolC where
 p : ZPool
 c : Int
noncomputable def takeP : PCtr := { X := ZPoolC,args := fun x => [.ptr 0 0,i64 x.c],k := 1,l := fun x => [.m x.p.os],pre := fun x => Hd x.p.ok,outs := [
 { Y := Unit,post := fun x _ => Hd (spn x.c = 0),ret := fun _ _ => .tup [i64 0,i64 1],m := 1,l := fun x _ => [.m x.p.os] },
 { Y := Unit,post := fun x _ => Hd (spn x.c ≠ 0/\∀ i,i < x.p.n->x.p.cls i ≠ -1/\x.p.full x.c i),ret := fun _ _ => .tup [i64 0,i64 4],m := 1,l := fun x _ => [.m x.p.os] },
 { Y := Nat × Nat,post := fun x y => Hd (spn x.c ≠ 0/\x.p.takes x.c y.1 y.2),ret := fun x y => .tup [i64 (2 + y.1 * 8 + y.2 * spn x.c),i64 0],m := 1,l := fun x y => [.m (x.p.take x.c y.1 y.2).os] }] }
noncomputable def anTake (x : ZPoolC) : FuncId->Anns := fun f => bif Nat.beq f 189 then (fun b _ _ =>
 bif Nat.beq b 0 then [{ σ := Nat,fr := fun i => [(14,i64 i)],ob := fun _ => [],inv := fun i => Hd (i<=x.p.n/\∀ j,j < i->x.p.full x.c j),meas := fun i => x.p.n - i }] else
 bif Nat.beq b 2 then [{ σ := Nat,fr := fun i => [(39,i64 i)],ob := fun _ => [],inv := fun i => Hd (i<=x.p.n/\(∀ j,j < x.p.n->x.p.full x.c j)/\∀ j,j < i->x.p.cls j ≠ -1),meas := fun i => x.p.n - i }] else []) else fun _ _ _ => []
noncomputable def findC : Ctr := { X := ZPoolC,args := fun x => [.ptr 0 0,i64 x.c],k := 2,os := fun x => x.p.os,pre := fun x => Hd (x.p.ok/\spn x.c ≠ 0),outs := [
 { Y := Unit,post := fun x _ => Hd (∀ i,i < x.p.n->x.p.cls i ≠ -1/\x.p.full x.c i),ret := fun _ _ => .tup [i64 0,i64 0,boo false],m := 2,os := fun x _ => x.p.os },
 { Y := Nat × Nat,post := fun x y => Hd (x.p.takes x.c y.1 y.2),ret := fun _ y => .tup [i64 y.1,i64 y.2,boo true],m := 2,os := fun x _ => x.p.os }] }
structure ZPoolT where
 p : ZPool
 c : Int
 i : Nat
 k : Nat
noncomputable def takeSC : Ctr := det ZPoolT (fun x => [.ptrE 0 x.i 10 0,i64 x.c,i64 x.k]) 1 (fun x => [x.p.slabs]) (fun x => Hd (x.p.ok/\x.i < x.p.n/\x.k < 8)) (fun _ => .tup []) 1 (fun x => [(x.p.take x.c x.i x.k).slabs])
structure ZPoolB where
 p : ZPool
 i : Nat
 k : Nat
def ZPoolB.ok (x : ZPoolB) : Prop := x.p.ok/\x.i < x.p.n/\0<=x.p.cls x.i/\x.k < ZPool.many (x.p.cls x.i)/\x.p.tk x.i x.k = true
def ZPoolB.line (x : ZPoolB) : Int := 2 + x.i * 8 + x.k * spn (x.p.cls x.i)
noncomputable def atC : Ctr := det ZPoolB (fun x => [.ptr 0 0,i64 x.line]) 2 (fun x => x.p.os) (fun x => Hd x.ok) (fun x => .tup [.ptrE 1 x.i 10 0,i64 x.k,boo true]) 2 (fun x => x.p.os)
noncomputable def ofP : PCtr := pdet ZPoolB (fun x => [.ptr 0 0,i64 x.line]) 1 (fun x => [.m x.p.os]) (fun x => Hd x.ok) (fun x => .tup [i64 (x.p.cls x.i),boo true]) 1 (fun x => [.m x.p.os])
noncomputable def tblP0 : WTbl := [(222,ctrT freeC)]
noncomputable def tblP1 : WTbl := [(84,ctrT spanC),(85,ctrT slabC),(189,ctrT findC),(190,ctrT takeSC)]
noncomputable def tblP2 : WTbl := [(84,ctrT spanC),(141,ctrT slabOfC),(39,ctrT startsC),(142,ctrT idxC)]
noncomputable def tblP3 : WTbl := [(105,ctrT atC)]
end Go.Proofs.YtpnhfbegboogbaaGreat
end
section
namespace Go.Proofs.YtpnhfbegboogbaaGreat
open Go SE
def BQ_w17 (a : Nat) (b : Nat) : Prop := (0 = 0/\a = b/\a = b)/\True
def BQ_w6 (a : ZPool) : Prop := a.n * 10 = a.n * 10/\∀ q : Nat,q < a.n * 10->Cs.eff (poolR a) [] q = Cs.eff (poolR a) [] q
def BQ_w9 (a : ZPool) (b : ZPool) : Prop := a.n * 10 = b.n * 10/\∀ q : Nat,q < a.n * 10->Cs.eff (poolR a) [] q = Cs.eff (poolR b) [] q
def BQ_w11 (a : Int) (b : ZPoolT) : Prop := I64 (a + 1)/\b.i * 10 + 9 < b.p.n * 10/\∃ y : Unit,True/\True/\(b.p.n * 10 = b.p.n * 10/\∀ q : Nat,q < b.p.n * 10->Cs.eff (poolR (b.p.take b.c b.i b.k)) [] q = Cs.eff (poolR b.p) [(b.i * 10 + 9,[Value.int .i64 (a + 1)]),(b.i * 10 + (1 + b.k * 1),[Value.bool true]),(b.i * 10 + 0,[Value.int .i64 b.c])] q)/\True
def BQ_w19 (a : Nat) : Prop := (0 = 0/\a = a/\a = a)/\True
def BQ_w13 (a : ZPool) : Prop := BQ_w19 a.n/\BQ_w6 a/\True
def BQ_w18 (a : ZPool) (b : ZPool) : Prop := BQ_w17 a.n b.n/\BQ_w9 a b/\True
def BQ_w20 (a : Nat) (b : ZPoolC) : Prop := Hd (a<=b.p.n/\(∀ j : Nat,j < b.p.n->b.p.full b.c j)/\∀ j : Nat,j < a->b.p.cls j ≠ (-(1 : Int)))
def BQ_w21 (a : ZPoolC) : Prop := Hd (∀ i : Nat,i < a.p.n->a.p.cls i ≠ (-(1 : Int))/\a.p.full a.c i)
def BQ_w22 (a : ZPool) : Prop := BQ_w6 a/\BQ_w19 a.n/\True
def BQ_w23 (a : ZPoolC) : Prop := Hd (spn a.c ≠ (0 : Int)/\∀ i : Nat,i < a.p.n->a.p.cls i ≠ (-(1 : Int))/\a.p.full a.c i)
def BQ_w24 (a : Nat) (b : ZPoolI) : Prop := Hd (a < ZPool.many (b.p.cls b.i)/\b.p.tk b.i a = false/\∀ j : Nat,j < a->b.p.tk b.i j = true)
def BQ_w25 (a : Nat) (b : ZPoolI) : Prop := Hd (a<=ZPool.many (b.p.cls b.i)/\∀ j : Nat,j < a->b.p.tk b.i j = true)
def BQ_w26 (a : Nat) (b : ZPoolC) : Prop := Hd (a<=b.p.n/\∀ j : Nat,j < a->b.p.full b.c j)
def BQ_w27 (a : ZPoolI) : Prop := Hd (∀ k : Nat,k < ZPool.many (a.p.cls a.i)->a.p.tk a.i k = true)
def BQ_w28 (a : ZPool) (b : Nat) (c : ZPoolT) : Prop := BQ_w17 a.n b/\(a.n * 10 = c.p.n * 10/\∀ q : Nat,q < a.n * 10->Cs.eff (poolR a) [] q = Cs.eff (poolR (c.p.take c.c c.i c.k)) [] q)/\True
def BQ_w30 (a : Nat) : Prop := 0<=(a : Int)/\(a : Int) < 8
def BQ_w31 : Prop := ∃ y : Unit,True/\(False/\(0 : Int) = 2/\True)/\False/\False/\True
def BQ_w32 (a : Nat) (b : Nat) : Prop := (a : Int) = (b : Int) + 1/\True
def BQ_w33 (a : ZPoolB) : Prop := ∃ y_1 : Unit,True/\(False/\(a.k : Int) = 0/\true = false/\True)/\BQ_w13 a.p
def newpVC (n : Nat) : Prop :=
 cP (decide ((n : Int) < 1)) BQ_w31 (I64 (256 : Int)/\((8 : Int) = 0->False)/\I64 (32 : Int)/\cP (decide ((n : Int) > (32 : Int))) BQ_w31 ((0<=(n : Int)/\(n : Int)<=(n : Int)/\24 * (n : Int)<=281474976710656/\(n : Int) < 4611686018427387904)/\(∃ s : Nat,s<=n/\True/\((s : Int) = 0/\True)/\BQ_w19 n/\(n * 10 = n * 10/\∀ q : Nat,∀ j : Nat,q < n->j < 10->∃ v : Value,getElem? [Value.int .i64 0,Value.bool false,Value.bool false,Value.bool false,Value.bool false,Value.bool false,Value.bool false,Value.bool false,Value.bool false,Value.int .i64 0] j = some v/\Cs.eff (poolR (newPool n s)) [] (q * 10 + j) = [v])/\True)/\(∀ s : Nat,s<=n->cP (decide ((s : Int) < (n : Int))) ((0<=(s : Int)/\(s : Int) < (n : Int))/\(0 + s) * 10 + 0 < n * 10/\I64 ((s : Int) + 1)/\∃ s_1 : Nat,s_1<=n/\n - s_1 < n - s/\BQ_w32 s_1 s/\BQ_w19 n/\(n * 10 = n * 10/\∀ q : Nat,q < n * 10->Cs.eff (poolR (newPool n s_1)) [] q = Cs.eff (poolR (newPool n s)) [((0 + s) * 10 + 0,[Value.int .i64 (-(1 : Int))])] q)/\True) (∃ y : Unit,True/\(0 = 0/\(0 : Int) = 0/\True)/\BQ_w19 n/\(n * 10 = n * 10/\∀ q : Nat,q < n * 10->Cs.eff (poolR (newPool n n)) [] q = Cs.eff (poolR (newPool n s)) [] q)/\True))/\True))
def freeVC (x : ZPoolI) : Prop :=
 x.i * 10 + 0 < x.p.n * 10/\∃ z : Int,getElem? (poolR x.p (x.i * 10 + 0)) 0 = some (Value.int .i64 z)/\∃ x_1 : Int,True/\(x_1 = z/\True)/\True/\∀ y : Unit,True->(spn x_1 = 0->False)/\I64 (Int.tdiv (8 : Int) (spn x_1))/\(∃ s : Nat,BQ_w25 s x/\True/\((s : Int) = 0/\True)/\BQ_w6 x.p/\True)/\(∀ s : Nat,BQ_w25 s x->cP (decide ((s : Int) < Int.tdiv (8 : Int) (spn x_1))) (BQ_w30 s/\x.i * 10 + (1 + s * 1) < x.p.n * 10/\∃ b : Bool,getElem? (poolR x.p (x.i * 10 + (1 + s * 1))) 0 = some (Value.bool b)/\cP (Bool.not b) ((∃ y_1 : Nat,BQ_w24 y_1 x/\(y_1 : Int) = (s : Int)/\BQ_w6 x.p/\True) ∨ ∃ y_1 : Unit,BQ_w27 x/\(-(1 : Int)) = (s : Int)/\BQ_w6 x.p/\True) (I64 ((s : Int) + 1)/\∃ s_1 : Nat,BQ_w25 s_1 x/\8 - s_1 < 8 - s/\BQ_w32 s_1 s/\BQ_w6 x.p/\True)) ((∃ y_1 : Nat,BQ_w24 y_1 x/\(y_1 : Int) = (-(1 : Int))/\BQ_w6 x.p/\True) ∨ ∃ y_1 : Unit,BQ_w27 x/\(-(1 : Int)) = (-(1 : Int))/\BQ_w6 x.p/\True))/\True
theorem freeVC_ok (x : ZPoolI) : freeVC x = wpF Tryz.prog tblS1 tt (anFree x) 200 5 222 (freeC.args x) (hO freeC.k (freeC.os x)) (fun v h' => endsP freeC.k x v h' freeC.outs) := by kernel_rfl
def findVC (x : ZPoolC) : Prop :=
 (∃ s : Nat,BQ_w26 s x/\True/\((s : Int) = 0/\True)/\BQ_w22 x.p)/\(∀ s : Nat,BQ_w26 s x->cP (decide ((s : Int) < (x.p.n : Int))) ((0<=(s : Int)/\(s : Int) < (x.p.n : Int))/\(0 + s) * 10 + 0 < x.p.n * 10/\∃ z : Int,getElem? (poolR x.p ((0 + s) * 10 + 0)) 0 = some (Value.int .i64 z)/\cP (BEq.beq z x.c) (∃ x_1 : ZPoolI,Hd (x_1.p.ok/\x_1.i < x_1.p.n/\0<=x_1.p.cls x_1.i)/\((x_1.i = 0 + s/\0 = 0)/\True)/\(BQ_w9 x_1.p x.p/\True)/\(∀ y : Nat,BQ_w24 y x_1->(∃ y_1 : Unit,BQ_w21 x/\(0 = (s : Int)/\0 = (y : Int)/\false = true/\True)/\BQ_w19 x.p.n/\BQ_w9 x.p x_1.p/\True) ∨ ∃ y_1 : Prod Nat Nat,Hd (x.p.takes x.c y_1.1 y_1.2)/\((y_1.1 : Int) = (s : Int)/\(y_1.2 : Int) = (y : Int)/\true = true/\True)/\BQ_w19 x.p.n/\BQ_w9 x.p x_1.p/\True)/\∀ y : Unit,BQ_w27 x_1->I64 ((s : Int) + 1)/\∃ s_1 : Nat,BQ_w26 s_1 x/\x.p.n - s_1 < x.p.n - s/\BQ_w32 s_1 s/\BQ_w9 x.p x_1.p/\BQ_w19 x.p.n/\True) (I64 ((s : Int) + 1)/\∃ s_1 : Nat,BQ_w26 s_1 x/\x.p.n - s_1 < x.p.n - s/\BQ_w32 s_1 s/\BQ_w22 x.p)) ((∃ s_1 : Nat,BQ_w20 s_1 x/\True/\((s_1 : Int) = 0/\True)/\BQ_w22 x.p)/\(∀ s_1 : Nat,BQ_w20 s_1 x->cP (decide ((s_1 : Int) < (x.p.n : Int))) ((0<=(s_1 : Int)/\(s_1 : Int) < (x.p.n : Int))/\(0 + s_1) * 10 + 0 < x.p.n * 10/\∃ z : Int,getElem? (poolR x.p ((0 + s_1) * 10 + 0)) 0 = some (Value.int .i64 z)/\cP (BEq.beq z (-(1 : Int))) ((∃ y : Unit,BQ_w21 x/\(0 = (s_1 : Int)/\(0 : Int) = 0/\false = true/\True)/\BQ_w13 x.p) ∨ ∃ y : Prod Nat Nat,Hd (x.p.takes x.c y.1 y.2)/\((y.1 : Int) = (s_1 : Int)/\(y.2 : Int) = 0/\true = true/\True)/\BQ_w13 x.p) (I64 ((s_1 : Int) + 1)/\∃ s_2 : Nat,BQ_w20 s_2 x/\x.p.n - s_2 < x.p.n - s_1/\BQ_w32 s_2 s_1/\BQ_w22 x.p)) ((∃ y : Unit,BQ_w21 x/\((0 : Int) = 0/\(0 : Int) = 0/\false = false/\True)/\
 BQ_w13 x.p) ∨ ∃ y : Prod Nat Nat,Hd (x.p.takes x.c y.1 y.2)/\((y.1 : Int) = 0/\(y.2 : Int) = 0/\true = false/\True)/\BQ_w13 x.p))/\True))/\True
theorem findVC_ok (x : ZPoolC) : findVC x = wpF Tryz.prog tblP0 tt (anTake x) 200 5 189 (findC.args x) (hO findC.k (findC.os x)) (fun v h' => endsP findC.k x v h' findC.outs) := by kernel_rfl
def takeSVC (x : ZPoolT) : Prop :=
 x.i * 10 + 0 < x.p.n * 10/\BQ_w30 x.k/\x.i * 10 + (1 + x.k * 1) < x.p.n * 10/\x.i * 10 + 9 < x.p.n * 10/\cP (Nat.beq (x.i * 10 + 9) (x.i * 10 + (1 + x.k * 1))) (∃ z : Int,some (Value.bool true) = some (Value.int .i64 z)/\BQ_w11 z x) (cP (Nat.beq (x.i * 10 + 9) (x.i * 10 + 0)) (∃ z : Int,some (Value.int .i64 x.c) = some (Value.int .i64 z)/\BQ_w11 z x) (∃ z : Int,getElem? (poolR x.p (x.i * 10 + 9)) 0 = some (Value.int .i64 z)/\BQ_w11 z x))
theorem takeSVC_ok (x : ZPoolT) : takeSVC x = wpF Tryz.prog [] tt (noA x) 200 5 190 (takeSC.args x) (hO takeSC.k (takeSC.os x)) (fun v h' => endsP takeSC.k x v h' takeSC.outs) := by kernel_rfl
def takeVC (x : ZPoolC) : Prop :=
 ∃ x_1 : Int,True/\(x_1 = x.c/\True)/\True/\∀ y : Unit,True->cP (BEq.beq (spn x_1) (0 : Int)) ((∃ y_1 : Unit,Hd (spn x.c = 0)/\((0 : Int) = 0/\(1 : Int) = 1/\True)/\BQ_w13 x.p) ∨ (∃ y_1 : Unit,BQ_w23 x/\((0 : Int) = 0/\(4 : Int) = 1/\True)/\BQ_w13 x.p) ∨ ∃ y_1 : Prod Nat Nat,Hd (spn x.c ≠ (0 : Int)/\x.p.takes x.c y_1.1 y_1.2)/\(2 + (y_1.1 : Int) * 8 + (y_1.2 : Int) * spn x.c = 0/\(0 : Int) = 1/\True)/\BQ_w19 x.p.n/\(x.p.n * 10 = x.p.n * 10/\∀ q : Nat,q < x.p.n * 10->Cs.eff (poolR (x.p.take x.c y_1.1 y_1.2)) [] q = Cs.eff (poolR x.p) [] q)/\True) (∃ x_2 : ZPoolC,Hd (x_2.p.ok/\spn x_2.c ≠ (0 : Int))/\(0 = 0/\x_2.c = x.c/\True)/\BQ_w18 x_2.p x.p/\(∀ y_1 : Unit,BQ_w21 x_2->(∃ y_2 : Unit,Hd (spn x.c = 0)/\((0 : Int) = 0/\(1 : Int) = 4/\True)/\BQ_w18 x.p x_2.p) ∨ (∃ y_2 : Unit,BQ_w23 x/\((0 : Int) = 0/\(4 : Int) = 4/\True)/\BQ_w18 x.p x_2.p) ∨ ∃ y_2 : Prod Nat Nat,Hd (spn x.c ≠ (0 : Int)/\x.p.takes x.c y_2.1 y_2.2)/\(2 + (y_2.1 : Int) * 8 + (y_2.2 : Int) * spn x.c = 0/\(0 : Int) = 4/\True)/\BQ_w17 x.p.n x_2.p.n/\(x.p.n * 10 = x_2.p.n * 10/\∀ q : Nat,q < x.p.n * 10->Cs.eff (poolR (x.p.take x.c y_2.1 y_2.2)) [] q = Cs.eff (poolR x_2.p) [] q)/\True)/\∀ y_1 : Prod Nat Nat,Hd (x_2.p.takes x_2.c y_1.1 y_1.2)->(0<=(y_1.1 : Int)/\(y_1.1 : Int) < (x_2.p.n : Int))/\∃ x_3 : ZPoolT,Hd (x_3.p.ok/\x_3.i < x_3.p.n/\x_3.k < 8)/\((x_3.i = 0 + y_1.1/\0 = 0)/\x_3.c = x.c/\(x_3.k : Int) = (y_1.2 : Int)/\True)/\(BQ_w9 x_3.p x_2.p/\True)/\∀ y_2 : Unit,True->∃ x_4 : Int,True/\(x_4 = (y_1.1 : Int)/\True)/\True/\∀ y_3 : Unit,True->∃ x_5 : Int,True/\(x_5 = x.c/\True)/\True/\∀ y_4 : Unit,True->I64 ((y_1.2 : Int) * spn x_5)/\I64 (ite (x_4 < 0 ∨ 32<=x_4) (-(1 : Int)) (2 + x_4 * 8) + (y_1.2 : Int) * spn x_5)/\
 ((∃ y_5 : Unit,Hd (spn x.c = 0)/\(0 = ite (x_4 < 0 ∨ 32<=x_4) (-(1 : Int)) (2 + x_4 * 8) + (y_1.2 : Int) * spn x_5/\(1 : Int) = 0/\True)/\BQ_w28 x.p x_2.p.n x_3) ∨ (∃ y_5 : Unit,BQ_w23 x/\(0 = ite (x_4 < 0 ∨ 32<=x_4) (-(1 : Int)) (2 + x_4 * 8) + (y_1.2 : Int) * spn x_5/\(4 : Int) = 0/\True)/\BQ_w28 x.p x_2.p.n x_3) ∨ ∃ y_5 : Prod Nat Nat,Hd (spn x.c ≠ (0 : Int)/\x.p.takes x.c y_5.1 y_5.2)/\(2 + (y_5.1 : Int) * 8 + (y_5.2 : Int) * spn x.c = ite (x_4 < 0 ∨ 32<=x_4) (-(1 : Int)) (2 + x_4 * 8) + (y_1.2 : Int) * spn x_5/\(0 : Int) = 0/\True)/\BQ_w17 x.p.n x_2.p.n/\(x.p.n * 10 = x_3.p.n * 10/\∀ q : Nat,q < x.p.n * 10->Cs.eff (poolR (x.p.take x.c y_5.1 y_5.2)) [] q = Cs.eff (poolR (x_3.p.take x_3.c x_3.i x_3.k)) [] q)/\True))
theorem takeVC_ok (x : ZPoolC) : takeVC x = wpF Tryz.prog tblP1 tt (noA x) 200 5 153 (takeP.args x) (hO 2 (flatP 1 (takeP.l x))) (fun v h' => endsPK 1 x v h' takeP.outs) := by kernel_rfl
def atVC (x : ZPoolB) : Prop :=
 ∃ x_1 : Int,True/\(x_1 = x.line/\True)/\True/\∀ y : Unit,True->cP (decide (slb x_1 < 0)) (BQ_w33 x) (cP (decide (slb x_1 ≥ (x.p.n : Int))) (BQ_w33 x) ((0<=slb x_1/\slb x_1 < (x.p.n : Int))/\(0 + Int.toNat (slb x_1)) * 10 + 0 < x.p.n * 10/\∃ z : Int,getElem? (poolR x.p ((0 + Int.toNat (slb x_1)) * 10 + 0)) 0 = some (Value.int .i64 z)/\∃ x_2 : ZStarts,Hd (x_2.k < 32)/\((x_2.k : Int) = slb x_1/\x_2.c = z/\True)/\True/\(∀ y_1 : Unit,Hd (spn x_2.c = 0)->∃ x_3 : ZIdx,Hd (x_3.n < 1000)/\(False/\x_3.v = x.line/\True)/\(False/\True)/\(∀ y_2 : Nat,Hd (y_2 < x_3.n/\x_3.g y_2 = x_3.v/\∀ j : Nat,j < y_2->x_3.g j ≠ x_3.v)->BQ_w30 y_2/\(0 + Int.toNat (slb x_1)) * 10 + (1 + y_2 * 1) < x.p.n * 10/\∃ b : Bool,getElem? (poolR x.p ((0 + Int.toNat (slb x_1)) * 10 + (1 + y_2 * 1))) 0 = some (Value.bool b)/\∃ y_3 : Unit,True/\((x.i = 0 + Int.toNat (slb x_1)/\0 = 0)/\(x.k : Int) = (y_2 : Int)/\true = b/\True)/\False/\BQ_w6 x.p/\True)/\∀ y_2 : Unit,Hd (∀ j : Nat,j < x_3.n->x_3.g j ≠ x_3.v)->∃ y_3 : Unit,True/\((x.i = 0 + Int.toNat (slb x_1)/\0 = 0)/\(x.k : Int) = (-(1 : Int))/\true = false/\True)/\False/\BQ_w6 x.p/\True)/\∀ y_1 : Unit,Hd (spn x_2.c ≠ (0 : Int))->∃ x_3 : ZIdx,Hd (x_3.n < 1000)/\((0 = 0/\x_3.n = Int.toNat ((8 : Int) / spn x_2.c))/\x_3.v = x.line/\True)/\((x_3.n = Int.toNat ((8 : Int) / spn x_2.c)/\∀ q : Nat,q < x_3.n->[Value.int .i64 (x_3.g q)] = [Value.int .i64 (2 + (x_2.k : Int) * 8 + (q : Int) * spn x_2.c)])/\True)/\(∀ y_2 : Nat,Hd (y_2 < x_3.n/\x_3.g y_2 = x_3.v/\∀ j : Nat,j < y_2->x_3.g j ≠ x_3.v)->BQ_w30 y_2/\(0 + Int.toNat (slb x_1)) * 10 + (1 + y_2 * 1) < x.p.n * 10/\∃ b : Bool,getElem? (poolR x.p ((0 + Int.toNat (slb x_1)) * 10 + (1 + y_2 * 1))) 0 = some (Value.bool b)/\
 ∃ y_3 : Unit,True/\((x.i = 0 + Int.toNat (slb x_1)/\0 = 0)/\(x.k : Int) = (y_2 : Int)/\true = b/\True)/\BQ_w13 x.p)/\∀ y_2 : Unit,Hd (∀ j : Nat,j < x_3.n->x_3.g j ≠ x_3.v)->∃ y_3 : Unit,True/\((x.i = 0 + Int.toNat (slb x_1)/\0 = 0)/\(x.k : Int) = (-(1 : Int))/\true = false/\True)/\BQ_w13 x.p))
theorem atVC_ok (x : ZPoolB) : atVC x = wpF Tryz.prog tblP2 tt (noA x) 200 5 105 (atC.args x) (hO atC.k (atC.os x)) (fun v h' => endsP atC.k x v h' atC.outs) := by kernel_rfl
def ofVC (x : ZPoolB) : Prop :=
 ∃ x_1 : ZPoolB,Hd x_1.ok/\(0 = 0/\x_1.line = x.line/\True)/\BQ_w18 x_1.p x.p/\∀ y : Unit,True->x_1.i * 10 + 0 < x_1.p.n * 10/\∃ z : Int,getElem? (poolR x_1.p (x_1.i * 10 + 0)) 0 = some (Value.int .i64 z)/\∃ y_1 : Unit,True/\(x.p.cls x.i = z/\true = true/\True)/\BQ_w18 x.p x_1.p
theorem ofVC_ok (x : ZPoolB) : ofVC x = wpF Tryz.prog tblP3 tt (noA x) 200 5 193 (ofP.args x) (hO 2 (flatP 1 (ofP.l x))) (fun v h' => endsPK 1 x v h' ofP.outs) := by kernel_rfl
end Go.Proofs.YtpnhfbegboogbaaGreat
end
section
namespace Go.Proofs.YtpnhfbegboogbaaGreat
open Go SE
set_option linter.unusedSimpArgs false
theorem many_cases (c : Int) : (c = 0/\spn c = 1/\ZPool.many c = 8) ∨ (c = 1/\spn c = 2/\ZPool.many c = 4) ∨ (c = 2/\spn c = 4/\ZPool.many c = 2) ∨ (c = 3/\spn c = 8/\ZPool.many c = 1) ∨ ((c < 0 ∨ 3 < c)/\spn c = 0/\ZPool.many c = 0) := by
 have := spn_cases c
 unfold ZPool.many
 rcases this with h | h | h | h | h <;> obtain ⟨h1,h2,_⟩ := h <;> rw [h2] <;> simp [h1]
theorem many_div {c : Int} (h : 0<=c/\c<=3) : Int.tdiv 8 (spn c) = ZPool.many c/\spn c ≠ 0/\1<=ZPool.many c/\ZPool.many c<=8 := by
 rcases many_cases c with h' | h' | h' | h' | h' <;> obtain ⟨h1,h2,h3⟩ := h' <;> first | (rw [h2,h3]; decide) | omega
theorem newpVC_true (n : Nat) (hn : 1<=n/\n<=32) : newpVC n := by
 unfold newpVC
 simp only [BQ_w31,BQ_w19,BQ_w32]
 simp only [hd_iff,and_true,true_and,Nat.zero_add,Nat.add_zero,unit_ex,unit_all,true_implies,implies_true,Int.toNat_natCast,eq_self,and_self,eff_nil,cond_one,cond_int,ones_int,row_int,ones_bool,row_bool,cond_bool,ble0,Bool.true_and,Nat.sub_zero,List.getElem?_cons_zero,Option.some.injEq,Value.bool.injEq,Value.int.injEq,exists_eq_left',exists_eq_left]
 refine cP_intro (fun h => absurd (of_decide_eq_true h) (by omega)) fun _ => ⟨by unfold I64; omega,by decide,by unfold I64; omega,cP_intro (fun h => absurd (of_decide_eq_true h) (by omega)) fun _ => ⟨by omega,⟨0,by omega,rfl,fun q j hq hj => ?_⟩,fun s hs => cP_intro (fun h => ?_) fun h => ?_⟩⟩
 ·rw [poolR_eq,show (q * 10 + j) % 10 = j by omega]
  simp only [newPool,Nat.not_lt_zero,if_false]
  match j,hj with
  | 0,_ | 1,_ | 2,_ | 3,_ | 4,_ | 5,_ | 6,_ | 7,_ | 8,_ | 9,_ => exact ⟨_,rfl,rfl⟩
 ·have h := of_decide_eq_true h
  refine ⟨by omega,by omega,by unfold I64; omega,s + 1,by omega,by omega,by omega,fun q hq => ?_⟩
  simp only [Cs.eff,blt_iff_decide,ble_iff_decide,nbeq_decide,bif_decide,← Bool.decide_and,poolR_eq,newPool]; grind
 ·have : s = n := by have := of_decide_eq_false h; omega
  subst this
  exact fun q _ => rfl
theorem freeVC_true (x : ZPoolI) (hx : x.p.ok/\x.i < x.p.n/\0<=x.p.cls x.i) : freeVC x := by
 obtain ⟨⟨h1,h2,h3⟩,hi,hc⟩ := hx
 obtain ⟨m1,m2,m3,m4⟩ := many_div ⟨hc,(h3 _ hi).2.1⟩
 unfold freeVC
 simp only [BQ_w25,BQ_w6,BQ_w30,BQ_w24,BQ_w27,BQ_w32]
 simp only [hd_iff,and_true,true_and,Nat.zero_add,Nat.add_zero,unit_ex,unit_all,true_implies,implies_true,Int.toNat_natCast,eq_self,and_self,eff_nil,cond_one,cond_int,ones_int,row_int,ones_bool,row_bool,cond_bool,ble0,Bool.true_and,Nat.sub_zero,List.getElem?_cons_zero,Option.some.injEq,Value.bool.injEq,Value.int.injEq,exists_eq_left',exists_eq_left]
 refine ⟨by omega,x.p.cls x.i,?_,m2,by rw [m1]; unfold I64; omega,⟨0,⟨Nat.zero_le _,fun j hj => absurd hj (Nat.not_lt_zero j)⟩,Int.natCast_zero⟩,fun s hs => ?_⟩
 ·rw [poolR_eq,show x.i * 10 % 10 = 0 by omega,show x.i * 10 / 10 = x.i by omega]; rfl
 rw [m1]
 refine cP_intro (fun h => ?_) fun h => ?_
 ·have h := of_decide_eq_true h
  refine ⟨by omega,by omega,x.p.tk x.i s,?_,cP_intro (fun hb => .inl ⟨s,⟨by omega,by simpa using hb,hs.2⟩,rfl⟩) fun hb => ⟨by unfold I64; omega,s + 1,⟨by omega,fun j hj => ?_⟩,by omega,by omega⟩⟩
  ·rw [poolR_eq]
   simp only [show (x.i * 10 + (1 + s * 1)) % 10 = 1 + s by omega,show (x.i * 10 + (1 + s * 1)) / 10 = x.i by omega]
   rw [if_neg (by omega),if_neg (by omega),show 1 + s - 1 = s by omega]; rfl
  ·by_cases e : j = s
   ·subst e; simpa using hb
   ·exact hs.2 j (by omega)
 ·have h := of_decide_eq_false h
  exact .inr fun k hk => hs.2 k (by omega)
theorem pool_cls (p : ZPool) (i : Nat) : poolR p (i * 10) = [.int .i64 (p.cls i)] := by
 rw [poolR_eq,show i * 10 % 10 = 0 by omega,show i * 10 / 10 = i by omega]; rfl
theorem pool_cnt (p : ZPool) (i : Nat) : poolR p (i * 10 + 9) = [.int .i64 (p.cnt i)] := by
 rw [poolR_eq,show (i * 10 + 9) % 10 = 9 by omega,show (i * 10 + 9) / 10 = i by omega]; rfl
theorem pool_tk (p : ZPool) (i k : Nat) (h : k < 8) : poolR p (i * 10 + (1 + k * 1)) = [.bool (p.tk i k)] := by
 rw [poolR_eq]
 simp only [show (i * 10 + (1 + k * 1)) % 10 = 1 + k by omega,show (i * 10 + (1 + k * 1)) / 10 = i by omega]
 rw [if_neg (by omega),if_neg (by omega),show 1 + k - 1 = k by omega]
theorem findVC_true (x : ZPoolC) (hx : x.p.ok/\spn x.c ≠ 0) : findVC x := by
 obtain ⟨⟨h1,h2,h3⟩,hz⟩ := hx
 have hcc : 0<=x.c/\x.c<=3 := by rcases spn_cases x.c with h | h | h | h | h <;> omega
 obtain ⟨m1,m2,m3,m4⟩ := many_div hcc
 unfold findVC
 simp only [BQ_w26,BQ_w22,BQ_w9,BQ_w24,BQ_w21,BQ_w19,BQ_w27,BQ_w32,BQ_w20,BQ_w13,BQ_w6]
 simp only [hd_iff,and_true,true_and,Nat.zero_add,Nat.add_zero,unit_ex,unit_all,true_implies,implies_true,Int.toNat_natCast,eq_self,and_self,eff_nil,cond_one,cond_int,ones_int,row_int,ones_bool,row_bool,cond_bool,ble0,Bool.true_and,Nat.sub_zero,List.getElem?_cons_zero,Option.some.injEq,Value.bool.injEq,Value.int.injEq,exists_eq_left',exists_eq_left]
 refine ⟨⟨0,⟨Nat.zero_le _,fun j hj => absurd hj (Nat.not_lt_zero j)⟩,Int.natCast_zero⟩,fun s hs => cP_intro (fun h => ?_) fun h => ⟨⟨0,⟨Nat.zero_le _,fun j hj => hs.2 j (by have := of_decide_eq_false h; omega),fun j hj => absurd hj (Nat.not_lt_zero j)⟩,Int.natCast_zero⟩,fun t ht => cP_intro (fun h2 => ?_) fun h2 => ?_⟩⟩
 ·have h := of_decide_eq_true h
  refine ⟨by omega,by omega,x.p.cls s,by rw [pool_cls]; rfl,cP_intro (fun he => ?_) fun he => ⟨by unfold I64; omega,s + 1,⟨by omega,fun j hj => ?_⟩,by omega,by omega⟩⟩
  ·have he := beq_iff_eq.1 he
   refine ⟨⟨x.p,s⟩,⟨⟨h1,h2,h3⟩,(show s < x.p.n by omega),(show 0<=x.p.cls s by omega)⟩,rfl,⟨rfl,fun _ _ => rfl⟩,fun y hy => .inr ⟨(s,y),?_,⟨rfl,rfl⟩,rfl,fun _ _ => rfl⟩,fun hall => ⟨by unfold I64; omega,s + 1,⟨by omega,fun j hj => ?_⟩,by omega,by omega,rfl,fun _ _ => rfl⟩⟩
   ·obtain ⟨y1,y2,y3⟩ := hy
    simp only [he] at y1
    exact ⟨by show s < x.p.n; omega,y1,by show x.p.tk s y = _; rw [if_pos he]; exact y2,.inl ⟨he,y3,hs.2⟩⟩
   ·by_cases e : j = s
    ·subst e; intro _ k hk; exact hall k (by simp only [he]; exact hk)
    ·exact hs.2 j (by omega)
  ·by_cases e : j = s
   ·subst e; intro h'; simp [h'] at he
   ·exact hs.2 j (by omega)
 ·have h2 := of_decide_eq_true h2
  refine ⟨by omega,by omega,x.p.cls t,by rw [pool_cls]; rfl,cP_intro (fun he => ?_) fun he => ⟨by unfold I64; omega,t + 1,⟨by omega,ht.2.1,fun j hj => ?_⟩,by omega,by omega⟩⟩
  ·have he := beq_iff_eq.1 he
   exact .inr ⟨(t,0),⟨by show t < x.p.n; omega,m3,by show x.p.tk t 0 = _; rw [if_neg (by show ¬ x.p.cls t = x.c; omega)],.inr ⟨he,rfl,ht.2.1,ht.2.2⟩⟩,rfl,rfl⟩
  ·by_cases e : j = t
   ·subst e; intro h'; simp [h'] at he
   ·exact ht.2.2 j (by omega)
 ·have h2 := of_decide_eq_false h2
  exact .inl fun i hi => ⟨ht.2.2 i (by omega),ht.2.1 i hi⟩
theorem takeSVC_true (x : ZPoolT) (hx : x.p.ok/\x.i < x.p.n/\x.k < 8) : takeSVC x := by
 obtain ⟨⟨h1,h2,h3⟩,hi,hk⟩ := hx
 have := h3 _ hi
 unfold takeSVC
 simp only [BQ_w30,BQ_w11]
 simp only [hd_iff,and_true,true_and,Nat.zero_add,Nat.add_zero,unit_ex,unit_all,true_implies,implies_true,Int.toNat_natCast,eq_self,and_self,eff_nil,cond_one,cond_int,ones_int,row_int,ones_bool,row_bool,cond_bool,ble0,Bool.true_and,Nat.sub_zero,List.getElem?_cons_zero,Option.some.injEq,Value.bool.injEq,Value.int.injEq,exists_eq_left',exists_eq_left]
 refine ⟨by omega,by omega,by omega,by omega,cP_intro (fun h => ?_) fun _ => cP_intro (fun h => ?_) fun _ => ⟨x.p.cnt x.i,by rw [pool_cnt]; rfl,by unfold I64; omega,by omega,fun q hq => ?_⟩⟩
 ·have := Nat.eq_of_beq_eq_true h; omega
 ·have := Nat.eq_of_beq_eq_true h; omega
 ·simp only [Cs.eff,blt_iff_decide,ble_iff_decide,nbeq_decide,bif_decide,← Bool.decide_and,poolR_eq,ZPool.take]; grind (splits := 30)
theorem takeVC_true (x : ZPoolC) (hx : x.p.ok) : takeVC x := by
 unfold takeVC
 simp only [BQ_w13,BQ_w23,BQ_w19,BQ_w18,BQ_w21,BQ_w17,BQ_w9,BQ_w28,BQ_w6]
 simp only [hd_iff,and_true,true_and,Nat.zero_add,Nat.add_zero,unit_ex,unit_all,true_implies,implies_true,Int.toNat_natCast,eq_self,and_self,eff_nil,cond_one,cond_int,ones_int,row_int,ones_bool,row_bool,cond_bool,ble0,Bool.true_and,Nat.sub_zero,List.getElem?_cons_zero,Option.some.injEq,Value.bool.injEq,Value.int.injEq,exists_eq_left',exists_eq_left]
 refine cP_intro (fun h => .inl (by simpa using h)) fun h => ?_
 have hz : spn x.c ≠ 0 := by simpa using h
 have hcc : 0<=x.c/\x.c<=3 := by rcases spn_cases x.c with h | h | h | h | h <;> omega
 obtain ⟨m1,m2,m3,m4⟩ := many_div hcc
 obtain ⟨h1,h2,h3⟩ := id hx
 refine ⟨x,⟨hx,hz⟩,rfl,⟨rfl,rfl,fun _ _ => rfl⟩,fun hf => .inr (.inl ⟨⟨hz,hf⟩,rfl,rfl,fun _ _ => rfl⟩),fun y hy => ?_⟩
 obtain ⟨i,k⟩ := y
 obtain ⟨t1,t2,t3⟩ := id hy
 simp only at t1 t2 ⊢
 have hsl : (if (i : Int) < 0 ∨ 32<=(i : Int) then (-1 : Int) else 2 + i * 8) = 2 + i * 8 := if_neg (by omega)
 have hks : 0<=(k : Int) * spn x.c/\(k : Int) * spn x.c<=64 := by
  have hs : 0<=spn x.c/\spn x.c<=8 := by rcases spn_cases x.c with h | h | h | h | h <;> omega
  exact ⟨Int.mul_nonneg (by omega) hs.1,by have := Int.mul_le_mul (show (k : Int)<=8 by omega) hs.2 hs.1 (by omega : (0 : Int)<=8); omega⟩
 rw [hsl]
 refine ⟨by omega,⟨x.p,x.c,i,k⟩,⟨hx,t1,(show k < 8 by omega)⟩,⟨rfl,rfl,rfl⟩,⟨rfl,fun _ _ => rfl⟩,by unfold I64; omega,by unfold I64; omega,.inr (.inr ⟨(i,k),⟨hz,hy⟩,?_⟩)⟩
 simp
theorem line_slb {x : ZPoolB} (hx : x.ok) : slb x.line = x.i/\2<=x.line/\x.line < 258 := by
 obtain ⟨⟨h1,h2,h3⟩,hi,hc,hk,ht⟩ := hx
 unfold slb ZPoolB.line
 rcases many_cases (x.p.cls x.i) with h | h | h | h | h <;> obtain ⟨e1,e2,e3⟩ := h <;> rw [e2] <;> rw [e3] at hk <;> first | omega | (rw [if_neg (by omega)]; omega)
theorem atVC_true (x : ZPoolB) (hx : x.ok) : atVC x := by
 obtain ⟨l1,l2,l3⟩ := line_slb hx
 obtain ⟨⟨h1,h2,h3⟩,hi,hc,hk,ht⟩ := id hx
 obtain ⟨m1,m2,m3,m4⟩ := many_div ⟨hc,(h3 _ hi).2.1⟩
 have h8 : (8 / spn (x.p.cls x.i)).toNat = ZPool.many (x.p.cls x.i) := rfl
 have hs : 0 < spn (x.p.cls x.i) := by rcases many_cases (x.p.cls x.i) with h | h | h | h | h <;> omega
 have hl : x.line = 2 + x.i * 8 + x.k * spn (x.p.cls x.i) := rfl
 have inj : ∀ j : Nat,2 + (x.i : Int) * 8 + (j : Int) * spn (x.p.cls x.i) = x.line->j = x.k := fun j hj => by
  have : (j : Int) * spn (x.p.cls x.i) = (x.k : Int) * spn (x.p.cls x.i) := by omega
  have := Int.eq_of_mul_eq_mul_right (by omega) this
  omega
 unfold atVC
 simp only [BQ_w33,BQ_w30,BQ_w6,BQ_w13,BQ_w19]
 simp only [hd_iff,and_true,true_and,Nat.zero_add,Nat.add_zero,unit_ex,unit_all,true_implies,implies_true,Int.toNat_natCast,eq_self,and_self,eff_nil,cond_one,cond_int,ones_int,row_int,ones_bool,row_bool,cond_bool,ble0,Bool.true_and,Nat.sub_zero,List.getElem?_cons_zero,Option.some.injEq,Value.bool.injEq,Value.int.injEq,exists_eq_left',exists_eq_left,l1]
 refine cP_intro (fun h => absurd (of_decide_eq_true h) (by omega)) fun _ => cP_intro (fun h => absurd (of_decide_eq_true h) (by omega)) fun _ => ⟨by omega,by omega,x.p.cls x.i,by rw [pool_cls]; rfl,⟨x.i,x.p.cls x.i⟩,(show x.i < 32 by omega),⟨rfl,rfl⟩,fun h => absurd h m2,fun _ => ⟨⟨fun q => 2 + (x.i : Int) * 8 + q * spn (x.p.cls x.i),ZPool.many (x.p.cls x.i),x.line⟩,(show ZPool.many (x.p.cls x.i) < 1000 by omega),⟨rfl,rfl⟩,⟨rfl,fun _ _ => rfl⟩,fun y hy => ?_,fun hno => absurd hl.symm (hno x.k hk)⟩⟩
 obtain ⟨y1,y2,_⟩ := hy
 have := inj y y2
 subst this
 exact ⟨by omega,by omega,true,by rw [pool_tk _ _ _ (by omega),ht]; rfl,rfl,rfl⟩
theorem ofVC_true (x : ZPoolB) (hx : x.ok) : ofVC x := by
 obtain ⟨⟨h1,h2,h3⟩,hi,hc,hk,ht⟩ := id hx
 unfold ofVC
 simp only [BQ_w18,BQ_w17,BQ_w9]
 simp only [hd_iff,and_true,true_and,Nat.zero_add,Nat.add_zero,unit_ex,unit_all,true_implies,implies_true,Int.toNat_natCast,eq_self,and_self,eff_nil,cond_one,cond_int,ones_int,row_int,ones_bool,row_bool,cond_bool,ble0,Bool.true_and,Nat.sub_zero,List.getElem?_cons_zero,Option.some.injEq,Value.bool.injEq,Value.int.injEq,exists_eq_left',exists_eq_left]
 exact ⟨x,hx,rfl,⟨rfl,rfl,fun _ _ => rfl⟩,by omega,x.p.cls x.i,by rw [pool_cls]; rfl,rfl,rfl,rfl,fun _ _ => rfl⟩
theorem free_ok : CtrOk Tryz.prog 222 freeC := ctr_endL tt_ok mixed (.cons (ctrT_ok span_ok) .nil) anFree 200 5 (fun _ => rfl) (fun _ => ⟨fun _ => rfl,fun _ => rfl,trivial⟩) fun x hx => Eq.mp (freeVC_ok x) (freeVC_true x (hd_iff.1 hx))
theorem find_ok : CtrOk Tryz.prog 189 findC := ctr_endL tt_ok mixed (.cons (ctrT_ok free_ok) .nil) anTake 200 5 (fun _ => rfl) (fun _ => ⟨fun _ => rfl,fun _ => rfl,trivial⟩) fun x hx => Eq.mp (findVC_ok x) (findVC_true x (hd_iff.1 hx))
theorem takeS_ok : CtrOk Tryz.prog 190 takeSC := det_end tt_ok mixed .nil noA 200 5 (fun _ => rfl) (fun _ => rfl) fun x hx => Eq.mp (takeSVC_ok x) (takeSVC_true x (hd_iff.1 hx))
theorem at_ok : CtrOk Tryz.prog 105 atC := det_end tt_ok mixed (.cons (ctrT_ok span_ok) (.cons (ctrT_ok slabOf_ok) (.cons (ctrT_ok starts_ok) (.cons (ctrT_ok idx_ok) .nil)))) noA 200 5 (fun _ => rfl) (fun _ => rfl) fun x hx => Eq.mp (atVC_ok x) (atVC_true x (hd_iff.1 hx))
theorem take_ok : CtrOk Tryz.prog 153 takeP.ctr := pctr_end tt_ok mixed (.cons (ctrT_ok span_ok) (.cons (ctrT_ok slab_ok) (.cons (ctrT_ok find_ok) (.cons (ctrT_ok takeS_ok) .nil)))) 2 noA 200 5 (fun _ => ⟨rfl,rfl,rfl,rfl⟩) fun x hx => Eq.mp (takeVC_ok x) (takeVC_true x (hd_iff.1 hx))
theorem of_ok : CtrOk Tryz.prog 193 ofP.ctr := pctr_end tt_ok mixed (.cons (ctrT_ok at_ok) .nil) 2 noA 200 5 (fun _ => ⟨rfl,rfl,rfl,rfl⟩) fun x hx => Eq.mp (ofVC_ok x) (ofVC_true x (hd_iff.1 hx))
end Go.Proofs.YtpnhfbegboogbaaGreat
end
section
namespace Go.Proofs.YtpnhfbegboogbaaGreat
open Go SE
structure ZRd where
 t : Nat
 now : Int
 has : Nat->Int
namespace ZRd
def ok (r : ZRd) : Prop := 1<=r.t/\r.t<=4/\1<=r.now/\r.now < 4611686018427387904
def os (r : ZRd) : List AObj := [.cells 154 (.av [u64 r.now,.slE 1 0 1 r.t r.t]),.cells 98 (.row 1 r.t (fun k => [.int .u64 (r.has k)]) [])]
def put (r : ZRd) (k : Nat) (v : Int) : ZRd := { r with has := fun j => if j = k then v else r.has j }
end ZRd
def newRd (t : Nat) : ZRd := ⟨t,1,fun _ => 0⟩
structure ZRdT where
 r : ZRd
 k : Nat
def enterP : PCtr := { X := ZRdT,args := fun x => [.ptr 0 0,i64 x.k],k := 1,l := fun x => [.m x.r.os],pre := fun x => Hd (x.r.ok/\x.k < x.r.t),outs := [
 { Y := Unit,post := fun x _ => Hd (x.r.has x.k = 0),ret := fun x _ => .tup [u64 x.r.now,i64 0],m := 1,l := fun x _ => [.m (x.r.put x.k x.r.now).os] },
 { Y := Unit,post := fun x _ => Hd (x.r.has x.k ≠ 0),ret := fun _ _ => .tup [u64 0,i64 7],m := 1,l := fun x _ => [.m x.r.os] }] }
def leaveP : PCtr := pdet ZRdT (fun x => [.ptr 0 0,i64 x.k]) 1 (fun x => [.m x.r.os]) (fun x => Hd (x.r.ok/\x.k < x.r.t)) (fun x => i64 (if x.r.has x.k = 0 then 12 else 0)) 1 (fun x => [.m (x.r.put x.k 0).os])
def nowP : PCtr := pdet ZRd (fun _ => [.ptr 0 0]) 1 (fun r => [.m r.os]) (fun r => Hd r.ok) (fun r => u64 r.now) 1 (fun r => [.m r.os])
def noteP (ph : Nat) : PCtr := pdet ClkN (fun x => [.ptr 0 0,i64 x.t,i64 x.l]) 1 (fun x => [.m (x.c.os ph)]) (fun x => Hd (x.c.ok/\x.t < x.c.t)) (fun x => i64 (if 0<=x.l/\x.l < 258 then 0 else 2)) 1 (fun x => [.m ((x.c.note x.t x.l).os ph)])
def cnowP (ph : Nat) : PCtr := pdet ClkM (fun _ => [.ptr 0 0]) 1 (fun c => [.m (c.os ph)]) (fun c => Hd c.ok) (fun c => u64 c.now) 1 (fun c => [.m (c.os ph)])
def owedP (ph : Nat) : PCtr := pdet ClkM (fun _ => [.ptr 0 0]) 1 (fun c => [.m (c.os ph)]) (fun c => Hd c.ok) (fun c => .slW 1 0 1 c.t) 2 (fun c => [.m (c.os ph),.o (.room 3 (.row 1 c.t (fun k => [.int .i64 (c.o k)]) []))])
noncomputable def storeP : PCtr := pdet DevS (fun x => [.ptr 0 0,i64 x.k,i64 x.a,x.b.av 1]) 2 (fun x => [.m x.d.os,.o x.b.ro]) (fun x => Hd (x.d.ok/\x.k < x.d.n/\x.b.ok/\x.a + x.b.n<=64)) (fun _ => i64 0) 2 (fun x => [.m (x.d.store x.k x.a x.b.n (fun q => x.b.g (x.b.q + q))).os,.o x.b.ro])
noncomputable def loadP : PCtr := pdet DevL (fun x => [.ptr 0 0,i64 x.k]) 1 (fun x => [.m x.d.os]) (fun x => Hd (x.d.ok/\x.k < x.d.n)) (fun _ => .tup [.slW 1 0 1 64,i64 0]) 2 (fun x => [.m x.d.os,.o (.room 5 (rowB (fun q => x.d.b (x.k * 193 + q)) 64))])
end Go.Proofs.YtpnhfbegboogbaaGreat
end
section
namespace Go.Proofs.YtpnhfbegboogbaaGreat
open Go SE
def BT_w3 (a : ClkM) : Prop := (258 = 258/\∀ q : Nat,q < 258->[Value.bool (a.L q)] = [Value.bool (a.L q)])/\Value.nilFunc = Value.nilFunc/\True
def BT_w16 (a : Nat) : Prop := a = a/\a = a
def BT_w4 (a : ClkM) : Prop := a.now = a.now/\a.dur = a.dur/\a.clos = a.clos/\(0 = 0/\BT_w16 a.t)/\True
def BT_w1 (a : ClkN) : Prop := (BT_w4 a.c/\(258 = 258/\∀ q : Nat,q < 258->[Value.bool (Bool.or (a.c.N q) (decide (a.l = (q : Int))))] = [Value.bool (a.c.N q)])/\BT_w3 a.c)/\(a.c.t = a.c.t/\∀ q : Nat,q < a.c.t->[Value.int .i64 (ite (q = a.t/\0<=a.l/\a.l < 258) (a.c.o q + 1) (a.c.o q))] = [Value.int .i64 (a.c.o q)])/\True
def BT_w9 (a : ZRd) : Prop := a.now = a.now/\(0 = 0/\BT_w16 a.t)/\True
def BT_w2 (a : ZRd) : Prop := BT_w9 a/\(a.t = a.t/\∀ q : Nat,q < a.t->[Value.int .u64 (a.has q)] = [Value.int .u64 (a.has q)])/\True
def BT_w5 (a : ClkN) : Prop := ∃ y : Unit,True/\ite (0<=a.l/\a.l < 258) (0 : Int) (2 : Int) = 2/\BT_w1 a
def BT_w27 (a : Bys) : Prop := rowB a.g a.N = rowB a.g a.N/\true = true
def BT_w14 (a : DevM) : Prop := a.fl = a.fl/\a.fe = a.fe/\a.ba = a.ba/\a.cu = a.cu/\True
def BT_w10 (a : DevS) : Prop := ∃ y : Unit,True/\(0 : Int) = 2/\((0 = 0/\BT_w16 a.d.n)/\a.d.st + 1 = a.d.st/\BT_w14 a.d)/\BT_w27 a.b/\(a.d.n * 193 = a.d.n * 193/\∀ q : Nat,q < a.d.n * 193->Cs.eff (devR (a.d.store a.k a.a a.b.n (fun (q_1 : Nat) => a.b.g (a.b.q + q_1)))) [] q = Cs.eff (devR a.d) [] q)/\True
def BT_w15 (a : ZRdT) : Prop := BT_w9 a.r/\(a.r.t = a.r.t/\∀ q : Nat,q < a.r.t->[Value.int .u64 (ite (q = a.k) (0 : Int) (a.r.has q))] = Cs.eff (fun (k : Nat) => [Value.int .u64 (a.r.has k)]) [(0 + a.k,[Value.int .u64 0])] q)/\True
def BT_w17 (a : ClkM) : Prop := BT_w4 a/\(258 = 258/\∀ q : Nat,q < 258->[Value.bool (a.N q)] = [Value.bool (a.N q)])/\BT_w3 a
def BT_w18 (a : ClkM) : Prop := (a.t = a.t/\∀ q : Nat,q < a.t->[Value.int .i64 (a.o q)] = [Value.int .i64 (a.o q)])/\True
def BT_w20 (a : ZRdT) : Prop := BT_w9 a.r/\(a.r.t = a.r.t/\∀ q : Nat,q < a.r.t->[Value.int .u64 (ite (q = a.k) a.r.now (a.r.has q))] = [Value.int .u64 (a.r.has q)])/\True
def BT_w24 (a : Bys) (b : Nat) : Prop := (Nat.beq (List.length [Value.int .u8 (a.g (a.q + b))]) 1 && List.all [Value.int .u8 (a.g (a.q + b))] Value.oneCell') = true
def BT_w25 : Prop := ∃ y : Unit,True/\(False/\(0 : Int) = 2/\True)/\False/\False/\True
def BT_w26 (a : ZRdT) : Prop := 0<=(a.k : Int)/\(a.k : Int) < (a.r.t : Int)
def newrVC (t : Nat) : Prop :=
 cP (decide ((t : Int) < 1)) BT_w25 (cP (decide ((t : Int) > (4 : Int))) BT_w25 ((0<=(t : Int)/\(t : Int)<=(t : Int)/\8 * (t : Int)<=281474976710656/\(t : Int) < 4611686018427387904)/\∃ y : Unit,True/\(0 = 0/\(0 : Int) = 0/\True)/\((1 : Int) = 1/\(0 = 0/\BT_w16 t)/\True)/\(t = t/\∀ q : Nat,q < t->[Value.int .u64 0] = [Value.int .u64 0])/\True))
def enterVC (x : ZRdT) : Prop :=
 cP (decide ((x.k : Int) ≥ (x.r.t : Int))) ((∃ y : Unit,Hd (x.r.has x.k = 0)/\(x.r.now = 0/\(0 : Int) = 1/\True)/\BT_w20 x) ∨ ∃ y : Unit,Hd (x.r.has x.k ≠ (0 : Int))/\((0 : Int) = 0/\(7 : Int) = 1/\True)/\BT_w2 x.r) (BT_w26 x/\0 + x.k < x.r.t/\cP (decide (x.r.has (0 + x.k) = 0)) (0 + x.k < x.r.t/\((∃ y : Unit,Hd (x.r.has x.k = 0)/\(x.r.now = x.r.now/\(0 : Int) = 0/\True)/\BT_w9 x.r/\(x.r.t = x.r.t/\∀ q : Nat,q < x.r.t->[Value.int .u64 (ite (q = x.k) x.r.now (x.r.has q))] = Cs.eff (fun (k : Nat) => [Value.int .u64 (x.r.has k)]) [(0 + x.k,[Value.int .u64 x.r.now])] q)/\True) ∨ ∃ y : Unit,Hd (x.r.has x.k ≠ (0 : Int))/\(0 = x.r.now/\(7 : Int) = 0/\True)/\BT_w9 x.r/\(x.r.t = x.r.t/\∀ q : Nat,q < x.r.t->[Value.int .u64 (x.r.has q)] = Cs.eff (fun (k : Nat) => [Value.int .u64 (x.r.has k)]) [(0 + x.k,[Value.int .u64 x.r.now])] q)/\True)) (0 + x.k < x.r.t/\((∃ y : Unit,Hd (x.r.has x.k = 0)/\(x.r.now = 0/\(0 : Int) = 7/\True)/\BT_w20 x) ∨ ∃ y : Unit,Hd (x.r.has x.k ≠ (0 : Int))/\((0 : Int) = 0/\(7 : Int) = 7/\True)/\BT_w2 x.r)))
theorem enterVC_ok (x : ZRdT) : enterVC x = wpF Tryz.prog tblX tt (noA x) 200 5 150 (enterP.args x) (hO 2 (flatP 1 (enterP.l x))) (fun v h' => endsPK 1 x v h' enterP.outs) := by kernel_rfl
def leaveVC (x : ZRdT) : Prop :=
 cP (decide ((x.k : Int) ≥ (x.r.t : Int))) (∃ y : Unit,True/\ite (x.r.has x.k = 0) (12 : Int) (0 : Int) = 1/\BT_w9 x.r/\(x.r.t = x.r.t/\∀ q : Nat,q < x.r.t->[Value.int .u64 (ite (q = x.k) (0 : Int) (x.r.has q))] = [Value.int .u64 (x.r.has q)])/\True) (BT_w26 x/\0 + x.k < x.r.t/\0 + x.k < x.r.t/\cP (BEq.beq (x.r.has (0 + x.k)) (0 : Int)) (∃ y : Unit,True/\ite (x.r.has x.k = 0) (12 : Int) (0 : Int) = 12/\BT_w15 x) (∃ y : Unit,True/\ite (x.r.has x.k = 0) (12 : Int) (0 : Int) = 0/\BT_w15 x))
theorem leaveVC_ok (x : ZRdT) : leaveVC x = wpF Tryz.prog tblX tt (noA x) 200 5 162 (leaveP.args x) (hO 2 (flatP 1 (leaveP.l x))) (fun v h' => endsPK 1 x v h' leaveP.outs) := by kernel_rfl
def nowVC (x : ZRd) : Prop :=
 ∃ y : Unit,True/\x.now = x.now/\BT_w2 x
theorem nowVC_ok (x : ZRd) : nowVC x = wpF Tryz.prog tblX tt (noA x) 200 5 59 (nowP.args x) (hO 2 (flatP 1 (nowP.l x))) (fun v h' => endsPK 1 x v h' nowP.outs) := by kernel_rfl
def note0VC (x : ClkN) : Prop :=
 cP (decide ((x.t : Int) ≥ (x.c.t : Int))) (∃ y : Unit,True/\ite (0<=x.l/\x.l < 258) (0 : Int) (2 : Int) = 1/\BT_w1 x) (cP (decide (x.l < 0)) (BT_w5 x) (cP (decide (x.l ≥ (258 : Int))) (BT_w5 x) ((0<=(x.t : Int)/\(x.t : Int) < (x.c.t : Int))/\0 + x.t < x.c.t/\I64 (x.c.o (0 + x.t) + 1)/\(0<=(x.t : Int)/\(x.t : Int) < (x.c.t : Int))/\0 + x.t < x.c.t/\(0<=x.l/\x.l < 258)/\Int.toNat x.l < 258/\∃ y : Unit,True/\ite (0<=x.l/\x.l < 258) (0 : Int) (2 : Int) = 0/\(BT_w4 x.c/\(258 = 258/\∀ q : Nat,q < 258->[Value.bool (Bool.or (x.c.N q) (decide (x.l = (q : Int))))] = Cs.eff (fun (k : Nat) => [Value.bool (x.c.N k)]) [(Int.toNat x.l,[Value.bool true])] q)/\BT_w3 x.c)/\(x.c.t = x.c.t/\∀ q : Nat,q < x.c.t->[Value.int .i64 (ite (q = x.t/\0<=x.l/\x.l < 258) (x.c.o q + 1) (x.c.o q))] = Cs.eff (fun (k : Nat) => [Value.int .i64 (x.c.o k)]) [(0 + x.t,[Value.int .i64 (x.c.o (0 + x.t) + 1)])] q)/\True)))
theorem note0VC_ok (x : ClkN) : note0VC x = wpF Tryz.prog tblX tt (noA x) 200 5 56 ((noteP 0).args x) (hO 2 (flatP 1 ((noteP 0).l x))) (fun v h' => endsPK 1 x v h' (noteP 0).outs) := by kernel_rfl
def cnow0VC (x : ClkM) : Prop :=
 ∃ y : Unit,True/\x.now = x.now/\BT_w17 x/\BT_w18 x
theorem cnow0VC_ok (x : ClkM) : cnow0VC x = wpF Tryz.prog tblX tt (noA x) 200 5 60 ((cnowP 0).args x) (hO 2 (flatP 1 ((cnowP 0).l x))) (fun v h' => endsPK 1 x v h' (cnowP 0).outs) := by kernel_rfl
def owed0VC (x : ClkM) : Prop :=
 0 + x.t<=x.t/\cP (Nat.beq x.t 0) (∃ y : Unit,True/\(x.t = 0/\0 = 0/\0 = 0)/\BT_w17 x/\(0 = x.t * 1/\∀ q : Nat,q < x.t->[Value.int .i64 (x.o q)] = List.take 1 (List.drop (q * 1) (@List.nil Value)))/\BT_w18 x) ((2 * (0 + x.t) + 1000) * 8<=281474976710656/\∃ y : Unit,True/\(0 = 0/\x.t = 0 + x.t)/\BT_w17 x/\(x.t = 0 + x.t/\∀ q : Nat,q < x.t->[Value.int .i64 (x.o q)] = [Value.int .i64 (x.o (0 + (q - 0)))])/\BT_w18 x)
theorem owed0VC_ok (x : ClkM) : owed0VC x = wpF Tryz.prog tblX tt (noA x) 200 5 155 ((owedP 0).args x) (hO 2 (flatP 1 ((owedP 0).l x))) (fun v h' => endsPK 1 x v h' (owedP 0).outs) := by kernel_rfl
def storePVC (x : DevS) : Prop :=
 cP (decide ((x.k : Int) ≥ (x.d.n : Int))) (BT_w10 x) (I64 (64 - (x.b.n : Int))/\cP (decide ((x.a : Int) > 64 - (x.b.n : Int))) (BT_w10 x) ((0<=(x.k : Int)/\(x.k : Int) < (x.d.n : Int))/\0<=(x.a : Int)/\(x.a<=64/\64<=64/\64<=64)/\(0 + x.k) * 193 + 0 + x.a + (64 - x.a)<=x.d.n * 193/\cP (Nat.ble x.b.n (64 - x.a)) (x.b.q + x.b.n<=x.b.N/\(∀ k : Nat,k < x.b.n->BT_w24 x.b k)/\I64 (x.d.st + 1)/\∃ y : Unit,True/\(0 : Int) = 0/\((0 = 0/\BT_w16 x.d.n)/\x.d.st + 1 = x.d.st + 1/\BT_w14 x.d)/\BT_w27 x.b/\(x.d.n * 193 = x.d.n * 193/\∀ q : Nat,q < x.d.n * 193->Cs.eff (devR (x.d.store x.k x.a x.b.n (fun (q_1 : Nat) => x.b.g (x.b.q + q_1)))) [] q = Cs.eff (fun (p : Nat) => cond (Nat.ble ((0 + x.k) * 193 + 0 + x.a) p && Nat.blt p ((0 + x.k) * 193 + 0 + x.a + x.b.n)) [Value.int .u8 (x.b.g (x.b.q + (p - ((0 + x.k) * 193 + 0 + x.a))))] (Cs.eff (devR x.d) [] p)) [] q)/\True) (x.b.q + (64 - x.a)<=x.b.N/\(∀ k : Nat,k < 64 - x.a->BT_w24 x.b k)/\I64 (x.d.st + 1)/\∃ y : Unit,True/\(0 : Int) = 0/\((0 = 0/\BT_w16 x.d.n)/\x.d.st + 1 = x.d.st + 1/\BT_w14 x.d)/\BT_w27 x.b/\(x.d.n * 193 = x.d.n * 193/\∀ q : Nat,q < x.d.n * 193->Cs.eff (devR (x.d.store x.k x.a x.b.n (fun (q_1 : Nat) => x.b.g (x.b.q + q_1)))) [] q = Cs.eff (fun (p : Nat) => cond (Nat.ble ((0 + x.k) * 193 + 0 + x.a) p && Nat.blt p ((0 + x.k) * 193 + 0 + x.a + (64 - x.a))) [Value.int .u8 (x.b.g (x.b.q + (p - ((0 + x.k) * 193 + 0 + x.a))))] (Cs.eff (devR x.d) [] p)) [] q)/\True)))
theorem storePVC_ok (x : DevS) : storePVC x = wpF Tryz.prog tblX tt (noA x) 200 5 54 (storeP.args x) (hO 3 (flatP 2 (storeP.l x))) (fun v h' => endsPK 2 x v h' storeP.outs) := by kernel_rfl
def loadVC (x : DevL) : Prop :=
 cP (decide ((x.k : Int) ≥ (x.d.n : Int))) (∃ y : Unit,True/\False) (I64 (64 : Int)/\(0<=(x.k : Int)/\(x.k : Int) < (x.d.n : Int))/\(0<=64/\64<=64/\64<=64)/\(0 + x.k) * 193 + 0 + 0 + 64<=x.d.n * 193/\(2 * (0 + 64) + 1000) * 1<=281474976710656/\∃ y : Unit,True/\((0 = 0/\64 = 64)/\(0 : Int) = 0/\True)/\((0 = 0/\BT_w16 x.d.n)/\x.d.st = x.d.st/\BT_w14 x.d)/\(64 = 64/\∀ q : Nat,q < 64->[Value.int .u8 (x.d.b (x.k * 193 + q))] = Cs.eff (fun (q_1 : Nat) => cond (Nat.blt q_1 0) (@List.nil Value) (Cs.eff (devR x.d) [] ((0 + x.k) * 193 + 0 + 0 + (q_1 - 0)))) [] q)/\(x.d.n * 193 = x.d.n * 193/\∀ q : Nat,q < x.d.n * 193->Cs.eff (devR x.d) [] q = Cs.eff (devR x.d) [] q)/\True)
theorem loadVC_ok (x : DevL) : loadVC x = wpF Tryz.prog tblX tt (noA x) 200 5 133 (loadP.args x) (hO 2 (flatP 1 (loadP.l x))) (fun v h' => endsPK 1 x v h' loadP.outs) := by kernel_rfl
end Go.Proofs.YtpnhfbegboogbaaGreat
end
section
namespace Go.Proofs.YtpnhfbegboogbaaGreat
open Go SE
set_option linter.unusedSimpArgs false
theorem newrVC_true (x : Nat) (hx : 1<=x/\x<=4) : newrVC x := by
 unfold newrVC
 simp only [BT_w25,BT_w16]
 simp only [hd_iff,and_true,true_and,Nat.zero_add,Nat.add_zero,unit_ex,unit_all,true_implies,implies_true,Int.toNat_natCast,eq_self,and_self,eff_nil,cond_one,cond_int,ones_int,row_int,ones_bool,row_bool,cond_bool,ble0,Bool.true_and,Nat.sub_zero,List.getElem?_cons_zero,Option.some.injEq,Value.bool.injEq,Value.int.injEq,exists_eq_left',exists_eq_left]
 exact cP_intro (fun h => absurd (of_decide_eq_true h) (by omega)) fun _ => cP_intro (fun h => absurd (of_decide_eq_true h) (by omega)) fun _ => by omega
theorem rd_put (f : Nat->Int) (k : Nat) (v : Int) (q : Nat) : [Value.int .u64 (if q = k then v else f q)] = Cs.eff (fun k => [Value.int .u64 (f k)]) [(k,[Value.int .u64 v])] q := by
 simp only [Cs.eff,blt_iff_decide,ble_iff_decide,nbeq_decide,bif_decide,← Bool.decide_and]
 by_cases h : q = k
 ·rw [if_pos h,if_pos h]
 ·rw [if_neg h,if_neg h]
theorem enterVC_true (x : ZRdT) (hx : x.r.ok/\x.k < x.r.t) : enterVC x := by
 unfold enterVC
 simp only [BT_w20,BT_w2,BT_w26,BT_w9,BT_w16]
 simp only [hd_iff,and_true,true_and,Nat.zero_add,Nat.add_zero,unit_ex,unit_all,true_implies,implies_true,Int.toNat_natCast,eq_self,and_self,eff_nil,cond_one,cond_int,ones_int,row_int,ones_bool,row_bool,cond_bool,ble0,Bool.true_and,Nat.sub_zero,List.getElem?_cons_zero,Option.some.injEq,Value.bool.injEq,Value.int.injEq,exists_eq_left',exists_eq_left]
 refine cP_intro (fun h => absurd (of_decide_eq_true h) (by omega)) fun _ => ⟨by omega,hx.2,cP_intro (fun h => ⟨hx.2,.inl ⟨of_decide_eq_true h,fun q _ => rd_put _ _ _ _⟩⟩) fun h => ⟨hx.2,.inr (of_decide_eq_false h)⟩⟩
theorem leaveVC_true (x : ZRdT) (hx : x.r.ok/\x.k < x.r.t) : leaveVC x := by
 unfold leaveVC
 simp only [BT_w9,BT_w26,BT_w15,BT_w16]
 simp only [hd_iff,and_true,true_and,Nat.zero_add,Nat.add_zero,unit_ex,unit_all,true_implies,implies_true,Int.toNat_natCast,eq_self,and_self,eff_nil,cond_one,cond_int,ones_int,row_int,ones_bool,row_bool,cond_bool,ble0,Bool.true_and,Nat.sub_zero,List.getElem?_cons_zero,Option.some.injEq,Value.bool.injEq,Value.int.injEq,exists_eq_left',exists_eq_left]
 refine cP_intro (fun h => absurd (of_decide_eq_true h) (by omega)) fun _ => ⟨by omega,hx.2,hx.2,cP_intro (fun h => ⟨if_pos (beq_iff_eq.1 h),fun q _ => rd_put _ _ _ _⟩) fun h => ⟨if_neg (fun e => by simp [e] at h),fun q _ => rd_put _ _ _ _⟩⟩
theorem nowVC_true (x : ZRd) (hx : x.ok) : nowVC x := by
 unfold nowVC
 simp only [BT_w2,BT_w9,BT_w16]
 simp only [hd_iff,and_true,true_and,Nat.zero_add,Nat.add_zero,unit_ex,unit_all,true_implies,implies_true,Int.toNat_natCast,eq_self,and_self,eff_nil,cond_one,cond_int,ones_int,row_int,ones_bool,row_bool,cond_bool,ble0,Bool.true_and,Nat.sub_zero,List.getElem?_cons_zero,Option.some.injEq,Value.bool.injEq,Value.int.injEq,exists_eq_left',exists_eq_left]
theorem note0VC_true (x : ClkN) (hx : x.c.ok/\x.t < x.c.t) : note0VC x := noteVC_true x hx
theorem cnow0VC_true (x : ClkM) (hx : x.ok) : cnow0VC x := by
 unfold cnow0VC
 simp only [BT_w17,BT_w18,BT_w4,BT_w3,BT_w16]
 simp only [hd_iff,and_true,true_and,Nat.zero_add,Nat.add_zero,unit_ex,unit_all,true_implies,implies_true,Int.toNat_natCast,eq_self,and_self,eff_nil,cond_one,cond_int,ones_int,row_int,ones_bool,row_bool,cond_bool,ble0,Bool.true_and,Nat.sub_zero,List.getElem?_cons_zero,Option.some.injEq,Value.bool.injEq,Value.int.injEq,exists_eq_left',exists_eq_left]
theorem owed0VC_true (x : ClkM) (hx : x.ok) : owed0VC x := by
 have := hx.1; have := hx.2.1
 unfold owed0VC
 simp only [BT_w17,BT_w18,BT_w4,BT_w3,BT_w16]
 simp only [hd_iff,and_true,true_and,Nat.zero_add,Nat.add_zero,unit_ex,unit_all,true_implies,implies_true,Int.toNat_natCast,eq_self,and_self,eff_nil,cond_one,cond_int,ones_int,row_int,ones_bool,row_bool,cond_bool,ble0,Bool.true_and,Nat.sub_zero,List.getElem?_cons_zero,Option.some.injEq,Value.bool.injEq,Value.int.injEq,exists_eq_left',exists_eq_left]
 exact ⟨by omega,cP_intro (fun h => absurd (Nat.eq_of_beq_eq_true h) (by omega)) fun _ => by omega⟩
theorem storePVC_true (x : DevS) (hx : x.d.ok/\x.k < x.d.n/\x.b.ok/\x.a + x.b.n<=64) : storePVC x := by
 have h := storeVC_true x hx
 unfold storeVC at h
 simp only [BH_w2,BH_w11,BH_w13,BH_w6,BH_w10,BH_w12,BH_w1,BH_w7] at h
 unfold storePVC
 simp only [BT_w10,BT_w24,BT_w16,BT_w14,BT_w27]
 simp only [hd_iff,and_true,true_and,Nat.zero_add,Nat.add_zero,unit_ex,unit_all,true_implies,implies_true,Int.toNat_natCast,eq_self,and_self,eff_nil,cond_one,cond_int,ones_int,row_int,ones_bool,row_bool,cond_bool,ble0,Bool.true_and,Nat.sub_zero,List.getElem?_cons_zero,Option.some.injEq,Value.bool.injEq,Value.int.injEq,exists_eq_left',exists_eq_left] at h ⊢
 exact h
theorem loadVC_true (x : DevL) (hx : x.d.ok/\x.k < x.d.n) : loadVC x := by
 have := hx.1.1
 unfold loadVC
 simp only [BT_w16,BT_w14]
 simp only [hd_iff,and_true,true_and,Nat.zero_add,Nat.add_zero,unit_ex,unit_all,true_implies,implies_true,Int.toNat_natCast,eq_self,and_self,eff_nil,cond_one,cond_int,ones_int,row_int,ones_bool,row_bool,cond_bool,ble0,Bool.true_and,Nat.sub_zero,List.getElem?_cons_zero,Option.some.injEq,Value.bool.injEq,Value.int.injEq,exists_eq_left',exists_eq_left]
 refine cP_intro (fun h => absurd (of_decide_eq_true h) (by omega)) fun _ => ⟨by unfold I64; omega,by omega,by omega,by omega,by omega,fun q hq => ?_⟩
 rw [devR_eq,show Nat.blt q 0 = false by simp [blt_iff_decide],cond_false,show (x.k * 193 + q) % 193 = q by omega,if_neg (by omega)]
theorem enter_ok : CtrOk Tryz.prog 150 enterP.ctr := pctr_end tt_ok mixed tblX_ok 2 noA 200 5 (fun _ => ⟨rfl,rfl,rfl,rfl⟩) fun x hx => Eq.mp (enterVC_ok x) (enterVC_true x (hd_iff.1 hx))
theorem leave_ok : CtrOk Tryz.prog 162 leaveP.ctr := pctr_end tt_ok mixed tblX_ok 2 noA 200 5 (fun _ => ⟨rfl,rfl,rfl,rfl⟩) fun x hx => Eq.mp (leaveVC_ok x) (leaveVC_true x (hd_iff.1 hx))
theorem now_ok : CtrOk Tryz.prog 59 nowP.ctr := pctr_end tt_ok mixed tblX_ok 2 noA 200 5 (fun _ => ⟨rfl,rfl,rfl,rfl⟩) fun x hx => Eq.mp (nowVC_ok x) (nowVC_true x (hd_iff.1 hx))
theorem note0_ok : CtrOk Tryz.prog 56 (noteP 0).ctr := pctr_end tt_ok mixed tblX_ok 2 noA 200 5 (fun _ => ⟨rfl,rfl,rfl,rfl⟩) fun x hx => Eq.mp (note0VC_ok x) (note0VC_true x (hd_iff.1 hx))
theorem cnow0_ok : CtrOk Tryz.prog 60 (cnowP 0).ctr := pctr_end tt_ok mixed tblX_ok 2 noA 200 5 (fun _ => ⟨rfl,rfl,rfl,rfl⟩) fun x hx => Eq.mp (cnow0VC_ok x) (cnow0VC_true x (hd_iff.1 hx))
theorem owed0_ok : CtrOk Tryz.prog 155 (owedP 0).ctr := pctr_end tt_ok mixed tblX_ok 2 noA 200 5 (fun _ => ⟨rfl,rfl,rfl,rfl⟩) fun x hx => Eq.mp (owed0VC_ok x) (owed0VC_true x (hd_iff.1 hx))
theorem storeP_ok : CtrOk Tryz.prog 54 storeP.ctr := pctr_end tt_ok mixed tblX_ok 3 noA 200 5 (fun _ => ⟨rfl,rfl,rfl,rfl⟩) fun x hx => Eq.mp (storePVC_ok x) (storePVC_true x (hd_iff.1 hx))
theorem load_ok : CtrOk Tryz.prog 133 loadP.ctr := pctr_end tt_ok mixed tblX_ok 2 noA 200 5 (fun _ => ⟨rfl,rfl,rfl,rfl⟩) fun x hx => Eq.mp (loadVC_ok x) (loadVC_true x (hd_iff.1 hx))
end Go.Proofs.YtpnhfbegboogbaaGreat
end
section
namespace Go.Proofs.YtpnhfbegboogbaaGreat
open Go SE
theorem ctr_of {P : Program} {f : FuncId} {C : Ctr} (h : ∀ x,C.pre x->∃ D : Ctr,CtrOk P f D/\D.k = C.k/\∃ y : D.X,D.pre y/\D.args y = C.args x/\D.os y = C.os x/\∀ v h',outsP y v h' D.outs->outsP x v h' C.outs) : CtrOk P f C := fun x hx => by
 obtain ⟨D,hD,hk,y,hp,ha,ho,hq⟩ := h x hx
 obtain ⟨h1,h2⟩ := hD y hp
 rw [ho,hk] at h1
 rw [ha,hk,ho] at h2
 exact ⟨h1,h2.mono hq⟩
structure ZEnt where
 line : Int
 cls : Int
 r : Int
 d : Int
 anti : Int
namespace ZEnt
def cs (e : ZEnt) : List Value := [.int .i64 e.line,.int .i64 e.cls,.int .u64 e.r,.int .u64 e.d,.int .i64 e.anti]
def av (e : ZEnt) : AV := .agg [i64 e.line,i64 e.cls,u64 e.r,u64 e.d,i64 e.anti]
def may (e : ZEnt) : Prop := 2<=e.line/\e.line < 258/\0<=e.cls/\e.cls<=3/\-1<=e.anti/\e.anti < 258
end ZEnt
structure ZBag where
 z : Bool
 n : Nat
 e : Nat->ZEnt
namespace ZBag
def ok (b : ZBag) : Prop := b.n<=258/\(b.z = true->b.n = 0)
def row (b : ZBag) : Cs := .row 5 b.n (fun i => (b.e i).cs) []
def osP (b : ZBag) : List AObj := [.cells 209 (.av [.slW 1 0 5 b.n]),.room 83 b.row]
def osN : List AObj := [.cells 209 (.av [nilS])]
def os (b : ZBag) : List AObj := bif b.z then osN else b.osP
def put (b : ZBag) (x : ZEnt) : ZBag := if b.n < 258 then ⟨false,b.n + 1,fun i => if i = b.n then x else b.e i⟩ else b
end ZBag
structure ZBagE where
 b : ZBag
 x : ZEnt
def bagPutP (z : Bool) : PCtr := pdet ZBagE (fun x => [.ptr 0 0,x.x.av]) 1 (fun x => [.m (bif z then ZBag.osN else x.b.osP)]) (fun x => Hd (x.b.ok/\x.x.may/\x.b.z = z)) (fun x => i64 (if x.b.n < 258 then 0 else 11)) 1 (fun x => [.m (x.b.put x.x).osP])
def bagAllN : PCtr := pdet Unit (fun _ => [.ptr 0 0]) 1 (fun _ => [.m ZBag.osN]) (fun _ => Hd True) (fun _ => nilS) 1 (fun _ => [.m ZBag.osN])
def bagAllP : PCtr := pdet ZBag (fun _ => [.ptr 0 0]) 1 (fun b => [.m b.osP]) (fun b => Hd (b.ok/\b.z = false)) (fun b => .slW 1 0 5 b.n) 2 (fun b => [.m b.osP,.o (.room 83 b.row)])
structure ZLnk where
 key : ByteArray
 id : Int
 ver : Int
 line : Int
 cls : Int
namespace ZLnk
def cs (e : ZLnk) : List Value := [.string e.key,.int .u64 e.id,.int .u64 e.ver,.int .i64 e.line,.int .i64 e.cls]
def av (e : ZLnk) : AV := .agg [.lit (.string e.key),u64 e.id,u64 e.ver,i64 e.line,i64 e.cls]
end ZLnk
def zLnk : ZLnk := ⟨⟨#[]⟩,0,0,0,0⟩
structure ZLn where
 len : Nat
 cap : Nat
 at_ : Nat
 n : Nat
 e : Nat->ZLnk
namespace ZLn
def ok (l : ZLn) : Prop := l.cap < 1099511627776/\l.len<=l.cap/\l.n<=l.len/\(l.len = 0->l.at_ = 0)/\(l.len ≠ 0->l.at_ < l.len)
def row (l : ZLn) : Cs := .row 5 l.cap (fun i => (l.e i).cs) []
def osP (l : ZLn) : List AObj := [.cells 114 (.av [.slE 1 0 5 l.len l.cap,i64 l.at_,i64 l.n]),.cells 41 l.row]
def osN : List AObj := [.cells 114 (.av [nilS,i64 0,i64 0])]
def os (l : ZLn) : List AObj := bif Nat.beq l.len 0 then osN else l.osP
def get (l : ZLn) (i : Nat) : ZLnk := l.e ((l.at_ + i) % l.len)
def push (l : ZLn) (x : ZLnk) : ZLn := if l.n = l.len then ⟨l.n + 1,2 * l.n + 1,0,l.n + 1,fun i => if i < l.n then l.get i else if i = l.n then x else zLnk⟩ else ⟨l.len,l.cap,l.at_,l.n + 1,fun i => if i = (l.at_ + l.n) % l.len then x else l.e i⟩
def pop (l : ZLn) : ZLn := if l.n = 0 then l else ⟨l.len,l.cap,(l.at_ + 1) % l.len,l.n - 1,fun i => if i = l.at_ then zLnk else l.e i⟩
def head (l : ZLn) : ZLnk := if l.n = 0 then zLnk else l.get 0
end ZLn
structure ZLnE where
 l : ZLn
 x : ZLnk
def linePushN : PCtr := pdet ZLnk (fun x => [.ptr 0 0,x.av]) 1 (fun _ => [.m ZLn.osN]) (fun _ => Hd True) (fun _ => .tup []) 1 (fun x => [.m (ZLn.osP ⟨1,1,0,1,fun i => if i = 0 then x else zLnk⟩)])
def linePushP : PCtr := pdet ZLnE (fun x => [.ptr 0 0,x.x.av]) 1 (fun x => [.m x.l.osP]) (fun x => Hd (x.l.ok/\x.l.len ≠ 0)) (fun _ => .tup []) 1 (fun x => [.m (x.l.push x.x).osP])
def lineHeadN : PCtr := pdet Unit (fun _ => [.ptr 0 0]) 1 (fun _ => [.m ZLn.osN]) (fun _ => Hd True) (fun _ => .tup [zLnk.av,boo false]) 1 (fun _ => [.m ZLn.osN])
def lineHeadP : PCtr := pdet ZLn (fun _ => [.ptr 0 0]) 1 (fun l => [.m l.osP]) (fun l => Hd (l.ok/\l.len ≠ 0)) (fun l => .tup [l.head.av,boo (decide (l.n ≠ 0))]) 1 (fun l => [.m l.osP])
def linePopN : PCtr := pdet Unit (fun _ => [.ptr 0 0]) 1 (fun _ => [.m ZLn.osN]) (fun _ => Hd True) (fun _ => .tup [zLnk.av,boo false]) 1 (fun _ => [.m ZLn.osN])
def linePopP : PCtr := pdet ZLn (fun _ => [.ptr 0 0]) 1 (fun l => [.m l.osP]) (fun l => Hd (l.ok/\l.len ≠ 0)) (fun l => .tup [l.head.av,boo (decide (l.n ≠ 0))]) 1 (fun l => [.m l.pop.osP])
def ZLn.all (l : ZLn) (i : Nat) : Cs := .row 5 i (fun j => (l.get j).cs) []
def lineAllN : PCtr := pdet Unit (fun _ => [.ptr 0 0]) 1 (fun _ => [.m ZLn.osN]) (fun _ => Hd True) (fun _ => nilS) 1 (fun _ => [.m ZLn.osN])
def lineAllP : PCtr := { X := ZLn,args := fun _ => [.ptr 0 0],k := 1,l := fun l => [.m l.osP],pre := fun l => Hd (l.ok/\l.len ≠ 0),outs := [
 { Y := Unit,post := fun l _ => Hd (l.n = 0),ret := fun _ _ => nilS,m := 1,l := fun l _ => [.m l.osP] },
 { Y := Unit,post := fun l _ => Hd (l.n ≠ 0),ret := fun l _ => .slW 1 0 5 l.n,m := 2,l := fun l _ => [.m l.osP,.o (.room 41 (l.all l.n))] }] }
def anAll (l : ZLn) : FuncId->Anns := fun f => bif Nat.beq f 91 then (fun b _ _ => bif Nat.beq b 0 then [
 { σ := Unit,fr := fun _ => [(9,i64 0),(3,nilS)],ob := fun _ => [],inv := fun _ => Hd True,meas := fun _ => l.n + 1,test := fun fr _ => (match SE.look fr 3 with | .lit _ => true | _ => false) },
 { σ := Nat,fr := fun i => [(9,i64 i),(3,.slW 2 0 5 i)],ob := fun i => [(2,some (.room 41 (l.all i)))],inv := fun i => Hd (1<=i/\i<=l.n),meas := fun i => l.n - i,nx := 1,test := fun fr _ => (match SE.look fr 3 with | .lit _ => false | _ => true) }] else []) else fun _ _ _ => []
end Go.Proofs.YtpnhfbegboogbaaGreat
end
section
namespace Go.Proofs.YtpnhfbegboogbaaGreat
open Go SE
def BW_w25 (a : ZLnE) : Prop := ((ZLn.at_ (a.l.push a.x) : Nat) : Int) = 0/\((ZLn.n (a.l.push a.x) : Nat) : Int) = (a.l.n : Int) + 1/\True
def BW_w1 (a : ZLnE) : Prop := I64 ((a.l.n : Int) + 1)/\True/\∃ y : Unit,True/\True/\(False/\BW_w25 a)/\(ZLn.cap (a.l.push a.x) = a.l.cap/\∀ q : Nat,q < ZLn.cap (a.l.push a.x)->[Value.string (ZLnk.key (ZLn.e (a.l.push a.x) q)),Value.int .u64 (ZLnk.id (ZLn.e (a.l.push a.x) q)),Value.int .u64 (ZLnk.ver (ZLn.e (a.l.push a.x) q)),Value.int .i64 (ZLnk.line (ZLn.e (a.l.push a.x) q)),Value.int .i64 (ZLnk.cls (ZLn.e (a.l.push a.x) q))] = [Value.string (ZLnk.key (a.l.e q)),Value.int .u64 (ZLnk.id (a.l.e q)),Value.int .u64 (ZLnk.ver (a.l.e q)),Value.int .i64 (ZLnk.line (a.l.e q)),Value.int .i64 (ZLnk.cls (a.l.e q))])/\True
def BW_w7 (a : ZLn) : Prop := a.cap = a.cap/\∀ q : Nat,q < a.cap->[Value.string (ZLnk.key (a.e q)),Value.int .u64 (ZLnk.id (a.e q)),Value.int .u64 (ZLnk.ver (a.e q)),Value.int .i64 (ZLnk.line (a.e q)),Value.int .i64 (ZLnk.cls (a.e q))] = [Value.string (ZLnk.key (a.e q)),Value.int .u64 (ZLnk.id (a.e q)),Value.int .u64 (ZLnk.ver (a.e q)),Value.int .i64 (ZLnk.line (a.e q)),Value.int .i64 (ZLnk.cls (a.e q))]
def BW_w9 (a : ZBagE) : Prop := ((0 = 0/\ZBag.n (a.b.put a.x) = a.b.n)/\True)/\(ZBag.n (a.b.put a.x) = a.b.n/\∀ q : Nat,q < ZBag.n (a.b.put a.x)->[Value.int .i64 (ZEnt.line (ZBag.e (a.b.put a.x) q)),Value.int .i64 (ZEnt.cls (ZBag.e (a.b.put a.x) q)),Value.int .u64 (ZEnt.r (ZBag.e (a.b.put a.x) q)),Value.int .u64 (ZEnt.d (ZBag.e (a.b.put a.x) q)),Value.int .i64 (ZEnt.anti (ZBag.e (a.b.put a.x) q))] = [Value.int .i64 (ZEnt.line (a.b.e q)),Value.int .i64 (ZEnt.cls (a.b.e q)),Value.int .u64 (ZEnt.r (a.b.e q)),Value.int .u64 (ZEnt.d (a.b.e q)),Value.int .i64 (ZEnt.anti (a.b.e q))])/\True
def BW_w10 (a : ZBagE) : Prop := True/\ite (a.b.n < 258) (0 : Int) (11 : Int) = 1/\(False/\True)/\(List.length [Value.int .i64 a.x.line,Value.int .i64 a.x.cls,Value.int .u64 a.x.r,Value.int .u64 a.x.d,Value.int .i64 a.x.anti] = ZBag.n (a.b.put a.x) * 5/\∀ q : Nat,q < ZBag.n (a.b.put a.x)->[Value.int .i64 (ZEnt.line (ZBag.e (a.b.put a.x) q)),Value.int .i64 (ZEnt.cls (ZBag.e (a.b.put a.x) q)),Value.int .u64 (ZEnt.r (ZBag.e (a.b.put a.x) q)),Value.int .u64 (ZEnt.d (ZBag.e (a.b.put a.x) q)),Value.int .i64 (ZEnt.anti (ZBag.e (a.b.put a.x) q))] = List.take 5 (List.drop (q * 5) [Value.int .i64 a.x.line,Value.int .i64 a.x.cls,Value.int .u64 a.x.r,Value.int .u64 a.x.d,Value.int .i64 a.x.anti]))/\True
def BW_w14 (a : ZBagE) : Prop := True/\ite (a.b.n < 258) (0 : Int) (11 : Int) = 1/\BW_w9 a
def BW_w17 (a : ZLnk) : Prop := List.all [List.take 5 [Value.string a.key,Value.int .u64 a.id,Value.int .u64 a.ver,Value.int .i64 a.line,Value.int .i64 a.cls]] (fun (l : List Value) => Nat.beq (List.length l) 5 && List.all l Value.oneCell') = true
def BW_w18 (a : ZLn) : Prop := ∀ k : Nat,k < a.at_ - 0->(Nat.beq (List.length [Value.string (ZLnk.key (a.e (0 + k))),Value.int .u64 (ZLnk.id (a.e (0 + k))),Value.int .u64 (ZLnk.ver (a.e (0 + k))),Value.int .i64 (ZLnk.line (a.e (0 + k))),Value.int .i64 (ZLnk.cls (a.e (0 + k)))]) 5 && List.all [Value.string (ZLnk.key (a.e (0 + k))),Value.int .u64 (ZLnk.id (a.e (0 + k))),Value.int .u64 (ZLnk.ver (a.e (0 + k))),Value.int .i64 (ZLnk.line (a.e (0 + k))),Value.int .i64 (ZLnk.cls (a.e (0 + k)))] Value.oneCell') = true
def BW_w21 (a : ZLn) : Prop := (0 = 0/\a.len = a.len/\a.cap = a.cap)/\(a.at_ : Int) = (a.at_ : Int)/\(a.n : Int) = (a.n : Int)/\True
def BW_w44 (a : ZLnE) : Prop := (2 * (0 + (a.l.len - a.l.at_) + (a.l.at_ - 0) + 1) + 1000) * 48<=281474976710656/\BW_w1 a
def BW_w22 (a : ZLnE) : Prop := (2 * (0 + (a.l.len - a.l.at_) + (a.l.at_ - 0)) + 1000) * 48<=281474976710656/\True/\True/\0 + (a.l.len - a.l.at_) + (a.l.at_ - 0) = 0 + (a.l.len - a.l.at_) + (a.l.at_ - 0)/\BW_w17 a.x/\BW_w44 a
def BW_w26 (a : ZBag) : Prop := (a.n = a.n/\∀ q : Nat,q < a.n->[Value.int .i64 (ZEnt.line (a.e q)),Value.int .i64 (ZEnt.cls (a.e q)),Value.int .u64 (ZEnt.r (a.e q)),Value.int .u64 (ZEnt.d (a.e q)),Value.int .i64 (ZEnt.anti (a.e q))] = [Value.int .i64 (ZEnt.line (a.e q)),Value.int .i64 (ZEnt.cls (a.e q)),Value.int .u64 (ZEnt.r (a.e q)),Value.int .u64 (ZEnt.d (a.e q)),Value.int .i64 (ZEnt.anti (a.e q))])/\True
def BW_w28 (a : ZLnE) : Prop := ZLn.cap (a.l.push a.x) = Int.toNat (2 * (a.l.n : Int) + 1)
def BW_w31 : Prop := Value.slice none 0 0 = Value.slice none 0 0
def BW_w32 : Prop := (BW_w31/\(0 : Int) = 0/\(0 : Int) = 0/\True)/\True
def BW_w33 (a : ZLn) : Prop := (a.head.key = ZLnk.key (a.e (0 + a.at_))/\a.head.id = ZLnk.id (a.e (0 + a.at_))/\a.head.ver = ZLnk.ver (a.e (0 + a.at_))/\a.head.line = ZLnk.line (a.e (0 + a.at_))/\a.head.cls = ZLnk.cls (a.e (0 + a.at_))/\True)/\decide (a.n ≠ 0) = true/\True
def BW_w34 : Prop := ∃ y : Unit,True/\((ByteArray.mk #[] = ByteArray.mk #[]/\(0 : Int) = 0/\(0 : Int) = 0/\(0 : Int) = 0/\(0 : Int) = 0/\True)/\false = false/\True)/\BW_w32
def BW_w38 (a : ZLn) : Prop := (a.head.key = ByteArray.mk #[]/\a.head.id = 0/\a.head.ver = 0/\a.head.line = 0/\a.head.cls = 0/\True)/\decide (a.n ≠ 0) = false/\True
def BW_w40 (a : ZLn) : Prop := 0 + (0 + (a.len - a.at_))<=Int.toNat (2 * (a.n : Int) + 1)
def BW_w41 (a : ZLn) : Prop := 0<=a.at_/\a.at_<=a.cap/\a.cap<=a.cap
def BW_w42 (a : ZLn) : Prop := 0<=(a.at_ : Int)/\(a.at_ : Int) < (a.len : Int)
def BW_w43 (a : ZLn) : Prop := BW_w21 a/\BW_w7 a/\True
def bagPutNVC (x : ZBagE) : Prop :=
 cP (decide (x.x.line ≥ (2 : Int))) (cP (decide (x.x.line < 258)) (∃ x_1 : Int,True/\(x_1 = x.x.cls/\True)/\True/\∀ y : Unit,True->cP (decide (spn x_1 > (0 : Int))) (cP (decide (x.x.anti ≥ (-(1 : Int)))) (cP (Bool.not (decide (x.x.anti < 258))) (∃ y_1 : Unit,BW_w10 x) ((AV.lit (Value.slice none 0 0) = AV.lit (Value.slice none 0 0)/\True)/\(2 * (0 + 1) + 1000) * 40<=281474976710656/\True/\True/\∃ y_1 : Unit,True/\ite (x.b.n < 258) (0 : Int) (11 : Int) = 0/\((0 = 0/\ZBag.n (x.b.put x.x) = 1)/\True)/\(ZBag.n (x.b.put x.x) = 0 + List.length [List.take 5 [Value.int .i64 x.x.line,Value.int .i64 x.x.cls,Value.int .u64 x.x.r,Value.int .u64 x.x.d,Value.int .i64 x.x.anti]]/\∀ q : Nat,q < ZBag.n (x.b.put x.x)->[Value.int .i64 (ZEnt.line (ZBag.e (x.b.put x.x) q)),Value.int .i64 (ZEnt.cls (ZBag.e (x.b.put x.x) q)),Value.int .u64 (ZEnt.r (ZBag.e (x.b.put x.x) q)),Value.int .u64 (ZEnt.d (ZBag.e (x.b.put x.x) q)),Value.int .i64 (ZEnt.anti (ZBag.e (x.b.put x.x) q))] = Cs.eff (fun (x_2 : Nat) => []) [(0,List.take 5 [Value.int .i64 x.x.line,Value.int .i64 x.x.cls,Value.int .u64 x.x.r,Value.int .u64 x.x.d,Value.int .i64 x.x.anti])] q)/\True)) (∃ y_1 : Unit,BW_w10 x)) (∃ y_1 : Unit,BW_w10 x)) (∃ y : Unit,BW_w10 x)) (∃ y : Unit,BW_w10 x)
theorem bagPutNVC_ok (x : ZBagE) : bagPutNVC x = wpF Tryz.prog tblS1 tt (noA x) 200 5 58 ((bagPutP true).args x) (hO 1 (flatP 1 ((bagPutP true).l x))) (fun v h' => endsPK 1 x v h' (bagPutP true).outs) := by kernel_rfl
def bagPutPVC (x : ZBagE) : Prop :=
 cP (decide (x.x.line ≥ (2 : Int))) (cP (decide (x.x.line < 258)) (∃ x_1 : Int,True/\(x_1 = x.x.cls/\True)/\True/\∀ y : Unit,True->cP (decide (spn x_1 > (0 : Int))) (cP (decide (x.x.anti ≥ (-(1 : Int)))) (cP (Bool.not (decide (x.x.anti < 258))) (∃ y_1 : Unit,BW_w14 x) (cP (decide ((x.b.n : Int) ≥ (258 : Int))) (∃ y_1 : Unit,True/\ite (x.b.n < 258) (0 : Int) (11 : Int) = 11/\BW_w9 x) ((AV.slW 1 0 5 x.b.n = AV.slW 1 0 5 x.b.n/\True)/\x.b.n = x.b.n/\List.all [List.take 5 [Value.int .i64 x.x.line,Value.int .i64 x.x.cls,Value.int .u64 x.x.r,Value.int .u64 x.x.d,Value.int .i64 x.x.anti]] (fun (l : List Value) => Nat.beq (List.length l) 5 && List.all l Value.oneCell') = true/\(2 * (x.b.n + 1) + 1000) * 40<=281474976710656/\True/\True/\∃ y_1 : Unit,True/\ite (x.b.n < 258) (0 : Int) (11 : Int) = 0/\((0 = 0/\ZBag.n (x.b.put x.x) = x.b.n + 1)/\True)/\(ZBag.n (x.b.put x.x) = x.b.n + List.length [List.take 5 [Value.int .i64 x.x.line,Value.int .i64 x.x.cls,Value.int .u64 x.x.r,Value.int .u64 x.x.d,Value.int .i64 x.x.anti]]/\∀ q : Nat,q < ZBag.n (x.b.put x.x)->[Value.int .i64 (ZEnt.line (ZBag.e (x.b.put x.x) q)),Value.int .i64 (ZEnt.cls (ZBag.e (x.b.put x.x) q)),Value.int .u64 (ZEnt.r (ZBag.e (x.b.put x.x) q)),Value.int .u64 (ZEnt.d (ZBag.e (x.b.put x.x) q)),Value.int .i64 (ZEnt.anti (ZBag.e (x.b.put x.x) q))] = Cs.eff (fun (i : Nat) => ZEnt.cs (x.b.e i)) [(x.b.n,List.take 5 [Value.int .i64 x.x.line,Value.int .i64 x.x.cls,Value.int .u64 x.x.r,Value.int .u64 x.x.d,Value.int .i64 x.x.anti])] q)/\True))) (∃ y_1 : Unit,BW_w14 x)) (∃ y_1 : Unit,BW_w14 x)) (∃ y : Unit,BW_w14 x)) (∃ y : Unit,BW_w14 x)
theorem bagPutPVC_ok (x : ZBagE) : bagPutPVC x = wpF Tryz.prog tblS1 tt (noA x) 200 5 58 ((bagPutP false).args x) (hO 2 (flatP 1 ((bagPutP false).l x))) (fun v h' => endsPK 1 x v h' (bagPutP false).outs) := by kernel_rfl
def bagAllNVC (x : Unit) : Prop :=
 ∃ y : Unit,True/\BW_w31/\(BW_w31/\True)/\True
theorem bagAllNVC_ok (x : Unit) : bagAllNVC x = wpF Tryz.prog tblX tt (noA x) 200 5 224 (bagAllN.args x) (hO 1 (flatP 1 (bagAllN.l x))) (fun v h' => endsPK 1 x v h' bagAllN.outs) := by kernel_rfl
def bagAllPVC (x : ZBag) : Prop :=
 0 + x.n<=x.n/\cP (Nat.beq x.n 0) (∃ y : Unit,True/\(x.n = 0/\0 = 0/\0 = 0)/\((0 = 0/\x.n = x.n)/\True)/\(0 = x.n * 5/\∀ q : Nat,q < x.n->[Value.int .i64 (ZEnt.line (x.e q)),Value.int .i64 (ZEnt.cls (x.e q)),Value.int .u64 (ZEnt.r (x.e q)),Value.int .u64 (ZEnt.d (x.e q)),Value.int .i64 (ZEnt.anti (x.e q))] = List.take 5 (List.drop (q * 5) (@List.nil Value)))/\BW_w26 x) ((2 * (0 + x.n) + 1000) * 40<=281474976710656/\∃ y : Unit,True/\(0 = 0/\x.n = 0 + x.n)/\((0 = 0/\x.n = x.n)/\True)/\(x.n = 0 + x.n/\∀ q : Nat,q < x.n->[Value.int .i64 (ZEnt.line (x.e q)),Value.int .i64 (ZEnt.cls (x.e q)),Value.int .u64 (ZEnt.r (x.e q)),Value.int .u64 (ZEnt.d (x.e q)),Value.int .i64 (ZEnt.anti (x.e q))] = [Value.int .i64 (ZEnt.line (x.e (0 + (q - 0)))),Value.int .i64 (ZEnt.cls (x.e (0 + (q - 0)))),Value.int .u64 (ZEnt.r (x.e (0 + (q - 0)))),Value.int .u64 (ZEnt.d (x.e (0 + (q - 0)))),Value.int .i64 (ZEnt.anti (x.e (0 + (q - 0))))])/\BW_w26 x)
theorem bagAllPVC_ok (x : ZBag) : bagAllPVC x = wpF Tryz.prog tblX tt (noA x) 200 5 224 (bagAllP.args x) (hO 2 (flatP 1 (bagAllP.l x))) (fun v h' => endsPK 1 x v h' bagAllP.outs) := by kernel_rfl
def linePushNVC (x : ZLnk) : Prop :=
 I64 (0 : Int)/\I64 (1 : Int)/\((0 : Int)<=0/\(0 : Int)<=1/\(0 : Int)<=281474976710608/\(0 : Int)<=4611686018427387902)/\(0 : Int)<=0/\(0<=0/\0<=0/\0<=0)/\0<=1/\True/\True/\(0 : Int)<=0/\(0<=0/\0<=0/\0<=0)/\0<=1/\True/\True/\0<=1/\BW_w17 x/\0 + (0 + 1)<=1/\I64 (1 : Int)/\True/\∃ y : Unit,True/\True/\((0 = 0/\1 = 1/\1 = 1)/\((0 : Nat) : Int) = 0/\((1 : Nat) : Int) = 1/\True)/\(1 = 1/\∀ q : Nat,q < 1->[Value.string (ZLnk.key (ite (q = 0) x zLnk)),Value.int .u64 (ZLnk.id (ite (q = 0) x zLnk)),Value.int .u64 (ZLnk.ver (ite (q = 0) x zLnk)),Value.int .i64 (ZLnk.line (ite (q = 0) x zLnk)),Value.int .i64 (ZLnk.cls (ite (q = 0) x zLnk))] = Cs.eff (fun (x_1 : Nat) => [Value.string (ByteArray.mk #[]),Value.int .u64 0,Value.int .u64 0,Value.int .i64 0,Value.int .i64 0]) [(0,List.take 5 [Value.string x.key,Value.int .u64 x.id,Value.int .u64 x.ver,Value.int .i64 x.line,Value.int .i64 x.cls])] q)/\True
theorem linePushNVC_ok (x : ZLnk) : linePushNVC x = wpF Tryz.prog tblX tt (noA x) 200 5 201 (linePushN.args x) (hO 1 (flatP 1 (linePushN.l x))) (fun v h' => endsPK 1 x v h' linePushN.outs) := by kernel_rfl
def linePushPVC (x : ZLnE) : Prop :=
 cP (BEq.beq (x.l.n : Int) (x.l.len : Int)) (I64 (2 * (x.l.n : Int))/\I64 (2 * (x.l.n : Int) + 1)/\((0 : Int)<=0/\0<=2 * (x.l.n : Int) + 1/\48 * (2 * (x.l.n : Int) + 1)<=281474976710656/\2 * (x.l.n : Int) + 1 < 4611686018427387904)/\0<=(x.l.at_ : Int)/\(x.l.at_<=x.l.len/\x.l.len<=x.l.cap/\x.l.cap<=x.l.cap)/\0<=Int.toNat (2 * (x.l.n : Int) + 1)/\0 + x.l.at_ + (x.l.len - x.l.at_)<=x.l.cap/\cP (Nat.beq (x.l.len - x.l.at_) 0) (True/\True/\0<=(x.l.at_ : Int)/\BW_w41 x.l/\0<=Int.toNat (2 * (x.l.n : Int) + 1)/\0 + (x.l.at_ - 0)<=x.l.cap/\cP (Nat.beq (x.l.at_ - 0) 0) (True/\True/\0<=Int.toNat (2 * (x.l.n : Int) + 1)/\BW_w17 x.x/\0 + (0 + 1)<=Int.toNat (2 * (x.l.n : Int) + 1)/\I64 ((x.l.n : Int) + 1)/\True/\∃ y : Unit,True/\True/\((0 = 0/\ZLn.len (x.l.push x.x) = 1/\BW_w28 x)/\BW_w25 x)/\(BW_w28 x/\∀ q : Nat,q < ZLn.cap (x.l.push x.x)->[Value.string (ZLnk.key (ZLn.e (x.l.push x.x) q)),Value.int .u64 (ZLnk.id (ZLn.e (x.l.push x.x) q)),Value.int .u64 (ZLnk.ver (ZLn.e (x.l.push x.x) q)),Value.int .i64 (ZLnk.line (ZLn.e (x.l.push x.x) q)),Value.int .i64 (ZLnk.cls (ZLn.e (x.l.push x.x) q))] = Cs.eff (fun (x_1 : Nat) => [Value.string (ByteArray.mk #[]),Value.int .u64 0,Value.int .u64 0,Value.int .i64 0,Value.int .i64 0]) [(0,List.take 5 [Value.string x.x.key,Value.int .u64 x.x.id,Value.int .u64 x.x.ver,Value.int .i64 x.x.line,Value.int .i64 x.x.cls])] q)/\True) (cP (Nat.ble (0 + (x.l.at_ - 0)) (Int.toNat (2 * (x.l.n : Int) + 1))) (BW_w18 x.l/\0 + (0 + (x.l.at_ - 0))<=Int.toNat (2 * (x.l.n : Int) + 1)/\True/\True/\0 + (0 + (x.l.at_ - 0))<=Int.toNat (2 * (x.l.n : Int) + 1)/\cP (Nat.ble (0 + (x.l.at_ - 0) + 1) (Int.toNat (2 * (x.l.n : Int) + 1))) (BW_w17 x.x/\
 0 + (0 + (x.l.at_ - 0) + 1)<=Int.toNat (2 * (x.l.n : Int) + 1)/\I64 ((x.l.n : Int) + 1)/\True/\∃ y : Unit,True/\True/\((0 = 0/\ZLn.len (x.l.push x.x) = 0 + (x.l.at_ - 0) + 1/\BW_w28 x)/\BW_w25 x)/\(BW_w28 x/\∀ q : Nat,q < ZLn.cap (x.l.push x.x)->[Value.string (ZLnk.key (ZLn.e (x.l.push x.x) q)),Value.int .u64 (ZLnk.id (ZLn.e (x.l.push x.x) q)),Value.int .u64 (ZLnk.ver (ZLn.e (x.l.push x.x) q)),Value.int .i64 (ZLnk.line (ZLn.e (x.l.push x.x) q)),Value.int .i64 (ZLnk.cls (ZLn.e (x.l.push x.x) q))] = Cs.eff (fun (p : Nat) => cond (Nat.ble 0 p && Nat.blt p (0 + (x.l.at_ - 0))) [Value.string (ZLnk.key (x.l.e (0 + (p - 0)))),Value.int .u64 (ZLnk.id (x.l.e (0 + (p - 0)))),Value.int .u64 (ZLnk.ver (x.l.e (0 + (p - 0)))),Value.int .i64 (ZLnk.line (x.l.e (0 + (p - 0)))),Value.int .i64 (ZLnk.cls (x.l.e (0 + (p - 0))))] [Value.string (ByteArray.mk #[]),Value.int .u64 0,Value.int .u64 0,Value.int .i64 0,Value.int .i64 0]) [(0 + (0 + (x.l.at_ - 0)),List.take 5 [Value.string x.x.key,Value.int .u64 x.x.id,Value.int .u64 x.x.ver,Value.int .i64 x.x.line,Value.int .i64 x.x.cls])] q)/\True) ((2 * (0 + (x.l.at_ - 0) + 1) + 1000) * 48<=281474976710656/\BW_w1 x)) ((2 * (0 + (x.l.at_ - 0)) + 1000) * 48<=281474976710656/\True/\True/\0 + (x.l.at_ - 0) = 0 + (x.l.at_ - 0)/\BW_w17 x.x/\(2 * (0 + (x.l.at_ - 0) + 1) + 1000) * 48<=281474976710656/\
 BW_w1 x))) (cP (Nat.ble (0 + (x.l.len - x.l.at_)) (Int.toNat (2 * (x.l.n : Int) + 1))) ((∀ k : Nat,k < x.l.len - x.l.at_->(Nat.beq (List.length [Value.string (ZLnk.key (x.l.e (0 + x.l.at_ + k))),Value.int .u64 (ZLnk.id (x.l.e (0 + x.l.at_ + k))),Value.int .u64 (ZLnk.ver (x.l.e (0 + x.l.at_ + k))),Value.int .i64 (ZLnk.line (x.l.e (0 + x.l.at_ + k))),Value.int .i64 (ZLnk.cls (x.l.e (0 + x.l.at_ + k)))]) 5 && List.all [Value.string (ZLnk.key (x.l.e (0 + x.l.at_ + k))),Value.int .u64 (ZLnk.id (x.l.e (0 + x.l.at_ + k))),Value.int .u64 (ZLnk.ver (x.l.e (0 + x.l.at_ + k))),Value.int .i64 (ZLnk.line (x.l.e (0 + x.l.at_ + k))),Value.int .i64 (ZLnk.cls (x.l.e (0 + x.l.at_ + k)))] Value.oneCell') = true)/\BW_w40 x.l/\True/\True/\0<=(x.l.at_ : Int)/\BW_w41 x.l/\BW_w40 x.l/\0 + (x.l.at_ - 0)<=x.l.cap/\cP (Nat.beq (x.l.at_ - 0) 0) (True/\True/\BW_w40 x.l/\cP (Nat.ble (0 + (x.l.len - x.l.at_) + 1) (Int.toNat (2 * (x.l.n : Int) + 1))) (BW_w17 x.x/\0 + (0 + (x.l.len - x.l.at_) + 1)<=Int.toNat (2 * (x.l.n : Int) + 1)/\I64 ((x.l.n : Int) + 1)/\True/\∃ y : Unit,True/\True/\((0 = 0/\ZLn.len (x.l.push x.x) = 0 + (x.l.len - x.l.at_) + 1/\BW_w28 x)/\BW_w25 x)/\(BW_w28 x/\
 ∀ q : Nat,q < ZLn.cap (x.l.push x.x)->[Value.string (ZLnk.key (ZLn.e (x.l.push x.x) q)),Value.int .u64 (ZLnk.id (ZLn.e (x.l.push x.x) q)),Value.int .u64 (ZLnk.ver (ZLn.e (x.l.push x.x) q)),Value.int .i64 (ZLnk.line (ZLn.e (x.l.push x.x) q)),Value.int .i64 (ZLnk.cls (ZLn.e (x.l.push x.x) q))] = Cs.eff (fun (p : Nat) => cond (Nat.ble 0 p && Nat.blt p (0 + (x.l.len - x.l.at_))) [Value.string (ZLnk.key (x.l.e (0 + x.l.at_ + (p - 0)))),Value.int .u64 (ZLnk.id (x.l.e (0 + x.l.at_ + (p - 0)))),Value.int .u64 (ZLnk.ver (x.l.e (0 + x.l.at_ + (p - 0)))),Value.int .i64 (ZLnk.line (x.l.e (0 + x.l.at_ + (p - 0)))),Value.int .i64 (ZLnk.cls (x.l.e (0 + x.l.at_ + (p - 0))))] [Value.string (ByteArray.mk #[]),Value.int .u64 0,Value.int .u64 0,Value.int .i64 0,Value.int .i64 0]) [(0 + (0 + (x.l.len - x.l.at_)),List.take 5 [Value.string x.x.key,Value.int .u64 x.x.id,Value.int .u64 x.x.ver,Value.int .i64 x.x.line,Value.int .i64 x.x.cls])] q)/\True) ((2 * (0 + (x.l.len - x.l.at_) + 1) + 1000) * 48<=281474976710656/\BW_w1 x)) (cP (Nat.ble (0 + (x.l.len - x.l.at_) + (x.l.at_ - 0)) (Int.toNat (2 * (x.l.n : Int) + 1))) (BW_w18 x.l/\0 + (0 + (x.l.len - x.l.at_) + (x.l.at_ - 0))<=Int.toNat (2 * (x.l.n : Int) + 1)/\True/\True/\0 + (0 + (x.l.len - x.l.at_) + (x.l.at_ - 0))<=Int.toNat (2 * (x.l.n : Int) + 1)/\cP (Nat.ble (0 + (x.l.len - x.l.at_) + (x.l.at_ - 0) + 1) (Int.toNat (2 * (x.l.n : Int) + 1))) (BW_w17 x.x/\0 + (0 + (x.l.len - x.l.at_) + (x.l.at_ - 0) + 1)<=Int.toNat (2 * (x.l.n : Int) + 1)/\I64 ((x.l.n : Int) + 1)/\True/\∃ y : Unit,True/\True/\((0 = 0/\ZLn.len (x.l.push x.x) = 0 + (x.l.len - x.l.at_) + (x.l.at_ - 0) + 1/\BW_w28 x)/\BW_w25 x)/\(BW_w28 x/\
 ∀ q : Nat,q < ZLn.cap (x.l.push x.x)->[Value.string (ZLnk.key (ZLn.e (x.l.push x.x) q)),Value.int .u64 (ZLnk.id (ZLn.e (x.l.push x.x) q)),Value.int .u64 (ZLnk.ver (ZLn.e (x.l.push x.x) q)),Value.int .i64 (ZLnk.line (ZLn.e (x.l.push x.x) q)),Value.int .i64 (ZLnk.cls (ZLn.e (x.l.push x.x) q))] = Cs.eff (fun (p : Nat) => cond (Nat.ble (0 + (0 + (x.l.len - x.l.at_))) p && Nat.blt p (0 + (0 + (x.l.len - x.l.at_)) + (x.l.at_ - 0))) [Value.string (ZLnk.key (x.l.e (0 + (p - (0 + (0 + (x.l.len - x.l.at_))))))),Value.int .u64 (ZLnk.id (x.l.e (0 + (p - (0 + (0 + (x.l.len - x.l.at_))))))),Value.int .u64 (ZLnk.ver (x.l.e (0 + (p - (0 + (0 + (x.l.len - x.l.at_))))))),Value.int .i64 (ZLnk.line (x.l.e (0 + (p - (0 + (0 + (x.l.len - x.l.at_))))))),Value.int .i64 (ZLnk.cls (x.l.e (0 + (p - (0 + (0 + (x.l.len - x.l.at_)))))))] (Cs.eff (fun (p_1 : Nat) => cond (Nat.ble 0 p_1 && Nat.blt p_1 (0 + (x.l.len - x.l.at_))) [Value.string (ZLnk.key (x.l.e (0 + x.l.at_ + (p_1 - 0)))),Value.int .u64 (ZLnk.id (x.l.e (0 + x.l.at_ + (p_1 - 0)))),Value.int .u64 (ZLnk.ver (x.l.e (0 + x.l.at_ + (p_1 - 0)))),Value.int .i64 (ZLnk.line (x.l.e (0 + x.l.at_ + (p_1 - 0)))),Value.int .i64 (ZLnk.cls (x.l.e (0 + x.l.at_ + (p_1 - 0))))] [Value.string (ByteArray.mk #[]),Value.int .u64 0,Value.int .u64 0,Value.int .i64 0,Value.int .i64 0]) [] p)) [(0 + (0 + (x.l.len - x.l.at_) + (x.l.at_ - 0)),List.take 5 [Value.string x.x.key,Value.int .u64 x.x.id,Value.int .u64 x.x.ver,Value.int .i64 x.x.line,Value.int .i64 x.x.cls])] q)/\True) (BW_w44 x)) (BW_w22 x))) ((2 * (0 + (x.l.len - x.l.at_)) + 1000) * 48<=281474976710656/\True/\True/\0<=(x.l.at_ : Int)/\BW_w41 x.l/\0 + (x.l.len - x.l.at_) = 0 + (x.l.len - x.l.at_)/\0 + (x.l.at_ - 0)<=x.l.cap/\BW_w18 x.l/\
 BW_w22 x))) (I64 ((x.l.at_ : Int) + (x.l.n : Int))/\((x.l.len : Int) = 0->False)/\(0<=Int.tmod ((x.l.at_ : Int) + (x.l.n : Int)) (x.l.len : Int)/\Int.tmod ((x.l.at_ : Int) + (x.l.n : Int)) (x.l.len : Int) < (x.l.len : Int))/\0 + Int.toNat (Int.tmod ((x.l.at_ : Int) + (x.l.n : Int)) (x.l.len : Int)) < x.l.cap/\True/\I64 ((x.l.n : Int) + 1)/\True/\∃ y : Unit,True/\True/\((0 = 0/\ZLn.len (x.l.push x.x) = x.l.len/\ZLn.cap (x.l.push x.x) = x.l.cap)/\((ZLn.at_ (x.l.push x.x) : Nat) : Int) = (x.l.at_ : Int)/\((ZLn.n (x.l.push x.x) : Nat) : Int) = (x.l.n : Int) + 1/\True)/\(ZLn.cap (x.l.push x.x) = x.l.cap/\∀ q : Nat,q < ZLn.cap (x.l.push x.x)->[Value.string (ZLnk.key (ZLn.e (x.l.push x.x) q)),Value.int .u64 (ZLnk.id (ZLn.e (x.l.push x.x) q)),Value.int .u64 (ZLnk.ver (ZLn.e (x.l.push x.x) q)),Value.int .i64 (ZLnk.line (ZLn.e (x.l.push x.x) q)),Value.int .i64 (ZLnk.cls (ZLn.e (x.l.push x.x) q))] = Cs.eff (fun (i : Nat) => ZLnk.cs (x.l.e i)) [(0 + Int.toNat (Int.tmod ((x.l.at_ : Int) + (x.l.n : Int)) (x.l.len : Int)),[Value.string x.x.key,Value.int .u64 x.x.id,Value.int .u64 x.x.ver,Value.int .i64 x.x.line,Value.int .i64 x.x.cls])] q)/\True)
theorem linePushPVC_ok (x : ZLnE) : linePushPVC x = wpF Tryz.prog tblX tt (noA x) 200 5 201 (linePushP.args x) (hO 2 (flatP 1 (linePushP.l x))) (fun v h' => endsPK 1 x v h' linePushP.outs) := by kernel_rfl
def lineHeadNVC (x : Unit) : Prop :=
 BW_w34
theorem lineHeadNVC_ok (x : Unit) : lineHeadNVC x = wpF Tryz.prog tblX tt (noA x) 200 5 115 (lineHeadN.args x) (hO 1 (flatP 1 (lineHeadN.l x))) (fun v h' => endsPK 1 x v h' lineHeadN.outs) := by kernel_rfl
def lineHeadPVC (x : ZLn) : Prop :=
 cP (BEq.beq (x.n : Int) (0 : Int)) (∃ y : Unit,True/\BW_w38 x/\BW_w43 x) (BW_w42 x/\0 + x.at_ < x.cap/\True/\∃ y : Unit,True/\BW_w33 x/\BW_w43 x)
theorem lineHeadPVC_ok (x : ZLn) : lineHeadPVC x = wpF Tryz.prog tblX tt (noA x) 200 5 115 (lineHeadP.args x) (hO 2 (flatP 1 (lineHeadP.l x))) (fun v h' => endsPK 1 x v h' lineHeadP.outs) := by kernel_rfl
def linePopNVC (x : Unit) : Prop :=
 BW_w34
theorem linePopNVC_ok (x : Unit) : linePopNVC x = wpF Tryz.prog tblX tt (noA x) 200 5 202 (linePopN.args x) (hO 1 (flatP 1 (linePopN.l x))) (fun v h' => endsPK 1 x v h' linePopN.outs) := by kernel_rfl
def linePopPVC (x : ZLn) : Prop :=
 cP (BEq.beq (x.n : Int) (0 : Int)) (∃ y : Unit,True/\BW_w38 x/\((0 = 0/\x.pop.len = x.len/\x.pop.cap = x.cap)/\(x.pop.at_ : Int) = (x.at_ : Int)/\(x.pop.n : Int) = (x.n : Int)/\True)/\(x.pop.cap = x.cap/\∀ q : Nat,q < x.pop.cap->[Value.string (ZLnk.key (x.pop.e q)),Value.int .u64 (ZLnk.id (x.pop.e q)),Value.int .u64 (ZLnk.ver (x.pop.e q)),Value.int .i64 (ZLnk.line (x.pop.e q)),Value.int .i64 (ZLnk.cls (x.pop.e q))] = [Value.string (ZLnk.key (x.e q)),Value.int .u64 (ZLnk.id (x.e q)),Value.int .u64 (ZLnk.ver (x.e q)),Value.int .i64 (ZLnk.line (x.e q)),Value.int .i64 (ZLnk.cls (x.e q))])/\True) (BW_w42 x/\0 + x.at_ < x.cap/\True/\BW_w42 x/\0 + x.at_ < x.cap/\True/\I64 ((x.at_ : Int) + 1)/\((x.len : Int) = 0->False)/\True/\I64 ((x.n : Int) - 1)/\∃ y : Unit,True/\BW_w33 x/\((0 = 0/\x.pop.len = x.len/\x.pop.cap = x.cap)/\(x.pop.at_ : Int) = Int.tmod ((x.at_ : Int) + 1) (x.len : Int)/\(x.pop.n : Int) = (x.n : Int) - 1/\True)/\(x.pop.cap = x.cap/\∀ q : Nat,q < x.pop.cap->[Value.string (ZLnk.key (x.pop.e q)),Value.int .u64 (ZLnk.id (x.pop.e q)),Value.int .u64 (ZLnk.ver (x.pop.e q)),Value.int .i64 (ZLnk.line (x.pop.e q)),Value.int .i64 (ZLnk.cls (x.pop.e q))] = Cs.eff (fun (i : Nat) => ZLnk.cs (x.e i)) [(0 + x.at_,[Value.string (ByteArray.mk #[]),Value.int .u64 0,Value.int .u64 0,Value.int .i64 0,Value.int .i64 0])] q)/\True)
theorem linePopPVC_ok (x : ZLn) : linePopPVC x = wpF Tryz.prog tblX tt (noA x) 200 5 202 (linePopP.args x) (hO 2 (flatP 1 (linePopP.l x))) (fun v h' => endsPK 1 x v h' linePopP.outs) := by kernel_rfl
def lineAllNVC (x : Unit) : Prop :=
 ∃ y : Unit,True/\BW_w31/\BW_w32
theorem lineAllNVC_ok (x : Unit) : lineAllNVC x = wpF Tryz.prog tblX tt (noA x) 200 5 43 (lineAllN.args x) (hO 1 (flatP 1 (lineAllN.l x))) (fun v h' => endsPK 1 x v h' lineAllN.outs) := by kernel_rfl
def lineAllPVC (x : ZLn) : Prop :=
 (∃ s : Unit,Hd True/\True/\((0 : Int) = 0/\BW_w31/\True)/\BW_w7 x/\BW_w21 x/\True)/\(∀ s : Unit,Hd True->cP (decide (0 < (x.n : Int))) (I64 ((x.at_ : Int) + 0)/\((x.len : Int) = 0->False)/\(0<=Int.tmod ((x.at_ : Int) + 0) (x.len : Int)/\Int.tmod ((x.at_ : Int) + 0) (x.len : Int) < (x.len : Int))/\0 + Int.toNat (Int.tmod ((x.at_ : Int) + 0) (x.len : Int)) < x.cap/\True/\(2 * (0 + 1) + 1000) * 48<=281474976710656/\True/\True/\I64 (1 : Int)/\∃ s_1 : Nat,Hd (1<=s_1/\s_1<=x.n)/\x.n - s_1 < x.n + 1/\((s_1 : Int) = 1/\(0 = 0/\s_1 = 1)/\True)/\(s_1 = 0 + List.length [List.take 5 [Value.string (ZLnk.key (x.e (0 + Int.toNat (Int.tmod ((x.at_ : Int) + 0) (x.len : Int))))),Value.int .u64 (ZLnk.id (x.e (0 + Int.toNat (Int.tmod ((x.at_ : Int) + 0) (x.len : Int))))),Value.int .u64 (ZLnk.ver (x.e (0 + Int.toNat (Int.tmod ((x.at_ : Int) + 0) (x.len : Int))))),Value.int .i64 (ZLnk.line (x.e (0 + Int.toNat (Int.tmod ((x.at_ : Int) + 0) (x.len : Int))))),Value.int .i64 (ZLnk.cls (x.e (0 + Int.toNat (Int.tmod ((x.at_ : Int) + 0) (x.len : Int)))))]]/\
 ∀ q : Nat,q < s_1->[Value.string (ZLnk.key (x.get q)),Value.int .u64 (ZLnk.id (x.get q)),Value.int .u64 (ZLnk.ver (x.get q)),Value.int .i64 (ZLnk.line (x.get q)),Value.int .i64 (ZLnk.cls (x.get q))] = Cs.eff (fun (x_1 : Nat) => []) [(0,List.take 5 [Value.string (ZLnk.key (x.e (0 + Int.toNat (Int.tmod ((x.at_ : Int) + 0) (x.len : Int))))),Value.int .u64 (ZLnk.id (x.e (0 + Int.toNat (Int.tmod ((x.at_ : Int) + 0) (x.len : Int))))),Value.int .u64 (ZLnk.ver (x.e (0 + Int.toNat (Int.tmod ((x.at_ : Int) + 0) (x.len : Int))))),Value.int .i64 (ZLnk.line (x.e (0 + Int.toNat (Int.tmod ((x.at_ : Int) + 0) (x.len : Int))))),Value.int .i64 (ZLnk.cls (x.e (0 + Int.toNat (Int.tmod ((x.at_ : Int) + 0) (x.len : Int)))))])] q)/\BW_w7 x/\BW_w21 x/\True) ((∃ y : Unit,Hd (x.n = 0)/\BW_w31/\BW_w43 x) ∨ ∃ y : Unit,Hd (x.n ≠ 0)/\False))/\(∀ s : Nat,Hd (1<=s/\s<=x.n)->cP (decide ((s : Int) < (x.n : Int))) (I64 ((x.at_ : Int) + (s : Int))/\((x.len : Int) = 0->False)/\(0<=Int.tmod ((x.at_ : Int) + (s : Int)) (x.len : Int)/\Int.tmod ((x.at_ : Int) + (s : Int)) (x.len : Int) < (x.len : Int))/\0 + Int.toNat (Int.tmod ((x.at_ : Int) + (s : Int)) (x.len : Int)) < x.cap/\True/\s = s/\
 List.all [List.take 5 [Value.string (ZLnk.key (x.e (0 + Int.toNat (Int.tmod ((x.at_ : Int) + (s : Int)) (x.len : Int))))),Value.int .u64 (ZLnk.id (x.e (0 + Int.toNat (Int.tmod ((x.at_ : Int) + (s : Int)) (x.len : Int))))),Value.int .u64 (ZLnk.ver (x.e (0 + Int.toNat (Int.tmod ((x.at_ : Int) + (s : Int)) (x.len : Int))))),Value.int .i64 (ZLnk.line (x.e (0 + Int.toNat (Int.tmod ((x.at_ : Int) + (s : Int)) (x.len : Int))))),Value.int .i64 (ZLnk.cls (x.e (0 + Int.toNat (Int.tmod ((x.at_ : Int) + (s : Int)) (x.len : Int)))))]] (fun (l : List Value) => Nat.beq (List.length l) 5 && List.all l Value.oneCell') = true/\(2 * (s + 1) + 1000) * 48<=281474976710656/\True/\True/\I64 ((s : Int) + 1)/\∃ s_1 : Nat,Hd (1<=s_1/\s_1<=x.n)/\x.n - s_1 < x.n - s/\((s_1 : Int) = (s : Int) + 1/\(0 = 0/\s_1 = s + 1)/\True)/\(s_1 = s + List.length [List.take 5 [Value.string (ZLnk.key (x.e (0 + Int.toNat (Int.tmod ((x.at_ : Int) + (s : Int)) (x.len : Int))))),Value.int .u64 (ZLnk.id (x.e (0 + Int.toNat (Int.tmod ((x.at_ : Int) + (s : Int)) (x.len : Int))))),Value.int .u64 (ZLnk.ver (x.e (0 + Int.toNat (Int.tmod ((x.at_ : Int) + (s : Int)) (x.len : Int))))),Value.int .i64 (ZLnk.line (x.e (0 + Int.toNat (Int.tmod ((x.at_ : Int) + (s : Int)) (x.len : Int))))),Value.int .i64 (ZLnk.cls (x.e (0 + Int.toNat (Int.tmod ((x.at_ : Int) + (s : Int)) (x.len : Int)))))]]/\
 ∀ q : Nat,q < s_1->[Value.string (ZLnk.key (x.get q)),Value.int .u64 (ZLnk.id (x.get q)),Value.int .u64 (ZLnk.ver (x.get q)),Value.int .i64 (ZLnk.line (x.get q)),Value.int .i64 (ZLnk.cls (x.get q))] = Cs.eff (fun (j : Nat) => ZLnk.cs (x.get j)) [(s,List.take 5 [Value.string (ZLnk.key (x.e (0 + Int.toNat (Int.tmod ((x.at_ : Int) + (s : Int)) (x.len : Int))))),Value.int .u64 (ZLnk.id (x.e (0 + Int.toNat (Int.tmod ((x.at_ : Int) + (s : Int)) (x.len : Int))))),Value.int .u64 (ZLnk.ver (x.e (0 + Int.toNat (Int.tmod ((x.at_ : Int) + (s : Int)) (x.len : Int))))),Value.int .i64 (ZLnk.line (x.e (0 + Int.toNat (Int.tmod ((x.at_ : Int) + (s : Int)) (x.len : Int))))),Value.int .i64 (ZLnk.cls (x.e (0 + Int.toNat (Int.tmod ((x.at_ : Int) + (s : Int)) (x.len : Int)))))])] q)/\BW_w7 x/\BW_w21 x/\True) ((∃ y : Unit,Hd (x.n = 0)/\False/\BW_w43 x) ∨ ∃ y : Unit,Hd (x.n ≠ 0)/\(0 = 0/\x.n = s)/\BW_w21 x/\(x.n = s/\∀ q : Nat,q < x.n->[Value.string (ZLnk.key (x.get q)),Value.int .u64 (ZLnk.id (x.get q)),Value.int .u64 (ZLnk.ver (x.get q)),Value.int .i64 (ZLnk.line (x.get q)),Value.int .i64 (ZLnk.cls (x.get q))] = [Value.string (ZLnk.key (x.get q)),Value.int .u64 (ZLnk.id (x.get q)),Value.int .u64 (ZLnk.ver (x.get q)),Value.int .i64 (ZLnk.line (x.get q)),Value.int .i64 (ZLnk.cls (x.get q))])/\BW_w7 x/\True))/\True
theorem lineAllPVC_ok (x : ZLn) : lineAllPVC x = wpF Tryz.prog tblX tt (anAll x) 200 5 43 (lineAllP.args x) (hO 2 (flatP 1 (lineAllP.l x))) (fun v h' => endsPK 1 x v h' lineAllP.outs) := by kernel_rfl
end Go.Proofs.YtpnhfbegboogbaaGreat
end
section
namespace Go.Proofs.YtpnhfbegboogbaaGreat
open Go SE
set_option linter.unusedSimpArgs false
theorem spn_pos {c : Int} (h : 0<=c/\c<=3) : 0 < spn c := by
 unfold spn
 split
 ·omega
 ·split
  ·omega
  ·split
   ·omega
   ·split <;> omega
theorem eff_one {g : Nat->List Value} {k q : Nat} {c : List Value} : Cs.eff g [(k,c)] q = if q = k then c else g q := by
 simp only [Cs.eff,blt_iff_decide,ble_iff_decide,nbeq_decide,bif_decide,← Bool.decide_and]
theorem ent_put (f : Nat->ZEnt) (k : Nat) (x : ZEnt) (q : Nat) (e : ZEnt) (he : e = if q = k then x else f q) : [Value.int .i64 e.line,Value.int .i64 e.cls,Value.int .u64 e.r,Value.int .u64 e.d,Value.int .i64 e.anti] = Cs.eff (fun i => (f i).cs) [(k,List.take 5 [Value.int .i64 x.line,Value.int .i64 x.cls,Value.int .u64 x.r,Value.int .u64 x.d,Value.int .i64 x.anti])] q := by
 subst he
 rw [eff_one]
 split <;> rfl
theorem lnk_put (f : Nat->ZLnk) (k : Nat) (x : ZLnk) (q : Nat) (e : ZLnk) (he : e = if q = k then x else f q) : [Value.string e.key,Value.int .u64 e.id,Value.int .u64 e.ver,Value.int .i64 e.line,Value.int .i64 e.cls] = Cs.eff (fun i => (f i).cs) [(k,[Value.string x.key,Value.int .u64 x.id,Value.int .u64 x.ver,Value.int .i64 x.line,Value.int .i64 x.cls])] q := by
 subst he
 rw [eff_one]
 split <;> rfl
theorem bagPutNVC_true (x : ZBagE) (hx : x.b.ok/\x.x.may/\x.b.z = true) : bagPutNVC x := by
 obtain ⟨⟨h1,h2⟩,⟨m1,m2,m3,m4,m5,m6⟩,hz⟩ := hx
 have hn := h2 hz
 have hs := spn_pos (c := x.x.cls) ⟨m3,m4⟩
 have e1 : decide (x.x.line ≥ 2) = true := decide_eq_true m1
 have e2 : decide (x.x.line < 258) = true := decide_eq_true m2
 have e3 : decide (spn x.x.cls > 0) = true := decide_eq_true hs
 have e4 : decide (x.x.anti ≥ -1) = true := decide_eq_true m5
 have e5 : decide (x.x.anti < 258) = true := decide_eq_true m6
 unfold bagPutNVC
 simp only [BW_w10]
 simp only [hd_iff,and_true,true_and,Nat.zero_add,Nat.add_zero,unit_ex,unit_all,true_implies,implies_true,Int.toNat_natCast,eq_self,and_self,eff_nil,cond_one,cond_int,ones_int,row_int,ones_bool,row_bool,cond_bool,ble0,Bool.true_and,Nat.sub_zero,List.getElem?_cons_zero,Option.some.injEq,Value.bool.injEq,Value.int.injEq,exists_eq_left',exists_eq_left,e1,e2,e3,e4,e5,cP_true,cP_false,Bool.not_true]
 have e : x.b.put x.x = ⟨false,1,fun i => if i = 0 then x.x else x.b.e i⟩ := by unfold ZBag.put; rw [hn]; rfl
 rw [e,hn]
 refine ⟨by decide,rfl,rfl,rfl,fun q hq => ?_⟩
 have : q = 0 := by have : q < 1 := hq; omega
 subst this; rfl
theorem bagPutPVC_true (x : ZBagE) (hx : x.b.ok/\x.x.may/\x.b.z = false) : bagPutPVC x := by
 obtain ⟨⟨h1,h2⟩,⟨m1,m2,m3,m4,m5,m6⟩,hz⟩ := hx
 have hs := spn_pos (c := x.x.cls) ⟨m3,m4⟩
 have e1 : decide (x.x.line ≥ 2) = true := decide_eq_true m1
 have e2 : decide (x.x.line < 258) = true := decide_eq_true m2
 have e3 : decide (spn x.x.cls > 0) = true := decide_eq_true hs
 have e4 : decide (x.x.anti ≥ -1) = true := decide_eq_true m5
 have e5 : decide (x.x.anti < 258) = true := decide_eq_true m6
 unfold bagPutPVC
 simp only [BW_w14,BW_w9]
 simp only [hd_iff,and_true,true_and,Nat.zero_add,Nat.add_zero,unit_ex,unit_all,true_implies,implies_true,Int.toNat_natCast,eq_self,and_self,eff_nil,cond_one,cond_int,ones_int,row_int,ones_bool,row_bool,cond_bool,ble0,Bool.true_and,Nat.sub_zero,List.getElem?_cons_zero,Option.some.injEq,Value.bool.injEq,Value.int.injEq,exists_eq_left',exists_eq_left,e1,e2,e3,e4,e5,cP_true,cP_false,Bool.not_true]
 unfold ZBag.put
 refine cP_intro (fun h => ?_) fun h => ?_
 ·have hge : ¬ x.b.n < 258 := by have := of_decide_eq_true h; omega
  simp only [if_neg hge]
  exact ⟨trivial,trivial,trivial,fun q _ => trivial⟩
 ·have hlt : x.b.n < 258 := by have := of_decide_eq_false h; omega
  simp only [if_pos hlt]
  exact ⟨rfl,by omega,trivial,trivial,rfl,fun q hq => ent_put _ _ _ _ _ rfl⟩
theorem bagAllNVC_true (x : Unit) : bagAllNVC x := by
 unfold bagAllNVC
 simp only [BW_w31]
 simp only [hd_iff,and_true,true_and,Nat.zero_add,Nat.add_zero,unit_ex,unit_all,true_implies,implies_true,Int.toNat_natCast,eq_self,and_self,eff_nil,cond_one,cond_int,ones_int,row_int,ones_bool,row_bool,cond_bool,ble0,Bool.true_and,Nat.sub_zero,List.getElem?_cons_zero,Option.some.injEq,Value.bool.injEq,Value.int.injEq,exists_eq_left',exists_eq_left]
theorem bagAllPVC_true (x : ZBag) (hx : x.ok/\x.z = false) : bagAllPVC x := by
 have := hx.1.1
 unfold bagAllPVC
 simp only [BW_w26]
 simp only [hd_iff,and_true,true_and,Nat.zero_add,Nat.add_zero,unit_ex,unit_all,true_implies,implies_true,Int.toNat_natCast,eq_self,and_self,eff_nil,cond_one,cond_int,ones_int,row_int,ones_bool,row_bool,cond_bool,ble0,Bool.true_and,Nat.sub_zero,List.getElem?_cons_zero,Option.some.injEq,Value.bool.injEq,Value.int.injEq,exists_eq_left',exists_eq_left]
 refine ⟨Nat.le_refl _,cP_intro (fun h => ?_) fun _ => by omega⟩
 have h0 : x.n = 0 := Nat.eq_of_beq_eq_true h
 exact ⟨h0,by omega,fun q hq => by omega⟩
theorem lineHeadNVC_true (x : Unit) : lineHeadNVC x := by
 unfold lineHeadNVC
 simp only [BW_w34,BW_w32,BW_w31]
 simp only [hd_iff,and_true,true_and,Nat.zero_add,Nat.add_zero,unit_ex,unit_all,true_implies,implies_true,Int.toNat_natCast,eq_self,and_self,eff_nil,cond_one,cond_int,ones_int,row_int,ones_bool,row_bool,cond_bool,ble0,Bool.true_and,Nat.sub_zero,List.getElem?_cons_zero,Option.some.injEq,Value.bool.injEq,Value.int.injEq,exists_eq_left',exists_eq_left]
theorem linePopNVC_true (x : Unit) : linePopNVC x := by
 unfold linePopNVC
 simp only [BW_w34,BW_w32,BW_w31]
 simp only [hd_iff,and_true,true_and,Nat.zero_add,Nat.add_zero,unit_ex,unit_all,true_implies,implies_true,Int.toNat_natCast,eq_self,and_self,eff_nil,cond_one,cond_int,ones_int,row_int,ones_bool,row_bool,cond_bool,ble0,Bool.true_and,Nat.sub_zero,List.getElem?_cons_zero,Option.some.injEq,Value.bool.injEq,Value.int.injEq,exists_eq_left',exists_eq_left]
theorem lineAllNVC_true (x : Unit) : lineAllNVC x := by
 unfold lineAllNVC
 simp only [BW_w31,BW_w32]
 simp only [hd_iff,and_true,true_and,Nat.zero_add,Nat.add_zero,unit_ex,unit_all,true_implies,implies_true,Int.toNat_natCast,eq_self,and_self,eff_nil,cond_one,cond_int,ones_int,row_int,ones_bool,row_bool,cond_bool,ble0,Bool.true_and,Nat.sub_zero,List.getElem?_cons_zero,Option.some.injEq,Value.bool.injEq,Value.int.injEq,exists_eq_left',exists_eq_left]
theorem zln_get0 {x : ZLn} (h : x.at_ < x.len) : x.get 0 = x.e x.at_ := by
 unfold ZLn.get
 rw [Nat.add_zero,Nat.mod_eq_of_lt h]
theorem lineHeadPVC_true (x : ZLn) (hx : x.ok/\x.len ≠ 0) : lineHeadPVC x := by
 obtain ⟨⟨o1,o2,o3,o4,o5⟩,hl⟩ := hx
 have := o5 hl
 unfold lineHeadPVC
 simp only [BW_w38,BW_w43,BW_w42,BW_w33,BW_w21,BW_w7]
 simp only [hd_iff,and_true,true_and,Nat.zero_add,Nat.add_zero,unit_ex,unit_all,true_implies,implies_true,Int.toNat_natCast,eq_self,and_self,eff_nil,cond_one,cond_int,ones_int,row_int,ones_bool,row_bool,cond_bool,ble0,Bool.true_and,Nat.sub_zero,List.getElem?_cons_zero,Option.some.injEq,Value.bool.injEq,Value.int.injEq,exists_eq_left',exists_eq_left]
 refine cP_intro (fun h => ?_) fun h => ?_
 ·have h0 : x.n = 0 := by have := beq_iff_eq.1 h; omega
  rw [show x.head = zLnk from if_pos h0,h0]
  exact ⟨⟨rfl,rfl,rfl,rfl,rfl⟩,rfl⟩
 ·have h0 : x.n ≠ 0 := fun e => by rw [e] at h; exact absurd h (by decide)
  rw [show x.head = x.e x.at_ from (if_neg h0).trans (zln_get0 this)]
  exact ⟨⟨by omega,by omega⟩,by omega,⟨rfl,rfl,rfl,rfl,rfl⟩,decide_eq_true h0⟩
theorem linePopPVC_true (x : ZLn) (hx : x.ok/\x.len ≠ 0) : linePopPVC x := by
 obtain ⟨⟨o1,o2,o3,o4,o5⟩,hl⟩ := hx
 have := o5 hl
 unfold linePopPVC
 simp only [BW_w38,BW_w42,BW_w33]
 simp only [hd_iff,and_true,true_and,Nat.zero_add,Nat.add_zero,unit_ex,unit_all,true_implies,implies_true,Int.toNat_natCast,eq_self,and_self,eff_nil,cond_one,cond_int,ones_int,row_int,ones_bool,row_bool,cond_bool,ble0,Bool.true_and,Nat.sub_zero,List.getElem?_cons_zero,Option.some.injEq,Value.bool.injEq,Value.int.injEq,exists_eq_left',exists_eq_left]
 refine cP_intro (fun h => ?_) fun h => ?_
 ·have h0 : x.n = 0 := by have := beq_iff_eq.1 h; omega
  rw [show x.head = zLnk from if_pos h0,show x.pop = x from if_pos h0,h0]
  exact ⟨⟨⟨rfl,rfl,rfl,rfl,rfl⟩,rfl⟩,⟨⟨rfl,rfl⟩,rfl,rfl⟩,rfl,fun q _ => rfl⟩
 ·have h0 : x.n ≠ 0 := fun e => by rw [e] at h; exact absurd h (by decide)
  rw [show x.head = x.e x.at_ from (if_neg h0).trans (zln_get0 this),show x.pop = ⟨x.len,x.cap,(x.at_ + 1) % x.len,x.n - 1,fun i => if i = x.at_ then zLnk else x.e i⟩ from if_neg h0]
  exact ⟨⟨by omega,by omega⟩,by omega,⟨by omega,by omega⟩,by omega,⟨by unfold I64; omega,by omega,by unfold I64; omega,⟨⟨rfl,rfl,rfl,rfl,rfl⟩,decide_eq_true h0⟩,⟨⟨rfl,rfl⟩,(Int.ofNat_tmod (x.at_ + 1) x.len),by show ((x.n - 1 : Nat) : Int) = _; omega⟩,rfl,fun q _ => lnk_put _ _ zLnk _ _ rfl⟩⟩
theorem linePushNVC_true (x : ZLnk) : linePushNVC x := by
 unfold linePushNVC
 simp only [BW_w17]
 simp only [hd_iff,and_true,true_and,Nat.zero_add,Nat.add_zero,unit_ex,unit_all,true_implies,implies_true,Int.toNat_natCast,eq_self,and_self,eff_nil,cond_one,cond_int,ones_int,row_int,ones_bool,row_bool,cond_bool,ble0,Bool.true_and,Nat.sub_zero,List.getElem?_cons_zero,Option.some.injEq,Value.bool.injEq,Value.int.injEq,exists_eq_left',exists_eq_left]
 refine ⟨by unfold I64; omega,by unfold I64; omega,by decide,by decide,by decide,by decide,by decide,by decide,by decide,by decide,rfl,by decide,by unfold I64; omega,⟨rfl,rfl⟩,fun q hq => ?_⟩
 have : q = 0 := by omega
 subst this; rfl
theorem tmod_nat (a b : Nat) : ((a : Int) + (b : Int)) = ((a + b : Nat) : Int) := by omega
theorem zln_get {x : ZLn} (s : Nat) : x.e ((x.at_ + s) % x.len) = x.get s := rfl
theorem lineAllPVC_true (x : ZLn) (hx : x.ok/\x.len ≠ 0) : lineAllPVC x := by
 obtain ⟨⟨o1,o2,o3,o4,o5⟩,hl⟩ := hx
 have := o5 hl
 have ht : ∀ s : Nat,((x.at_ : Int) + (s : Int)).tmod (x.len : Int) = (((x.at_ + s) % x.len : Nat) : Int) := fun s => by rw [tmod_nat]; exact (Int.ofNat_tmod _ _).symm
 have hm : ∀ s : Nat,(x.at_ + s) % x.len < x.len := fun s => Nat.mod_lt _ (by omega)
 have hm0 := hm 0
 have ht0 := ht 0
 have hg0 : x.e (x.at_ % x.len) = x.get 0 := rfl
 unfold lineAllPVC
 simp only [BW_w31,BW_w7,BW_w21,BW_w43]
 simp only [Int.natCast_zero,Int.add_zero,Nat.add_zero] at ht0 hm0
 simp only [hd_iff,and_true,true_and,Nat.zero_add,Nat.add_zero,unit_ex,unit_all,true_implies,implies_true,Int.toNat_natCast,eq_self,and_self,eff_nil,cond_one,cond_int,ones_int,row_int,ones_bool,row_bool,cond_bool,ble0,Bool.true_and,Nat.sub_zero,List.getElem?_cons_zero,Option.some.injEq,Value.bool.injEq,Value.int.injEq,exists_eq_left',exists_eq_left,Int.add_zero,ht,ht0,hg0,zln_get]
 refine ⟨cP_intro (fun h => ?_) fun h => ?_,fun s hs => cP_intro (fun h => ?_) fun h => ?_⟩
 ·have hn : 0 < x.n := by have := of_decide_eq_true h; omega
  refine ⟨by unfold I64; omega,by omega,⟨by omega,by omega⟩,by omega,by omega,by unfold I64; omega,1,by omega,by omega,by omega,rfl,fun q hq => ?_⟩
  have : q = 0 := by omega
  subst this; rfl
 ·exact .inl (by have := of_decide_eq_false h; omega)
 ·have hn : s < x.n := by have := of_decide_eq_true h; omega
  have := hm s
  refine ⟨by unfold I64; omega,by omega,⟨by omega,by omega⟩,by omega,rfl,by omega,by unfold I64; omega,s + 1,by omega,by omega,by omega,rfl,fun q hq => lnk_put _ _ (x.get s) _ _ ?_⟩
  split
  ·rename_i e; rw [e]
  ·rfl
 ·exact .inr (by have := of_decide_eq_false h; omega)
theorem linePushPVC_true (x : ZLnE) (hx : x.l.ok/\x.l.len ≠ 0) : linePushPVC x := by
 obtain ⟨⟨o1,o2,o3,o4,o5⟩,hl⟩ := hx
 have hat := o5 hl
 have e1 : Nat.beq (x.l.len - x.l.at_) 0 = false := by rw [nbeq_decide]; exact decide_eq_false (by omega)
 have g1 : ∀ q,q < x.l.len - x.l.at_->x.l.get q = x.l.e (x.l.at_ + q) := fun q h => by unfold ZLn.get; rw [Nat.mod_eq_of_lt (by omega)]
 have g2 : ∀ q,x.l.len - x.l.at_<=q->q < x.l.len->x.l.get q = x.l.e (q - (x.l.len - x.l.at_)) := fun q h1 h2 => by
  unfold ZLn.get
  rw [show x.l.at_ + q = (q - (x.l.len - x.l.at_)) + x.l.len by omega,Nat.add_mod_right,Nat.mod_eq_of_lt (by omega)]
 have hz : zLnk = ⟨⟨#[]⟩,0,0,0,0⟩ := rfl
 unfold linePushPVC
 simp only [BW_w41,BW_w17,BW_w28,BW_w25,BW_w18,BW_w1,BW_w40,BW_w44,BW_w22]
 simp only [hd_iff,and_true,true_and,Nat.zero_add,Nat.add_zero,unit_ex,unit_all,true_implies,implies_true,Int.toNat_natCast,eq_self,and_self,eff_nil,cond_one,cond_int,ones_int,row_int,ones_bool,row_bool,cond_bool,ble0,Bool.true_and,Nat.sub_zero,List.getElem?_cons_zero,Option.some.injEq,Value.bool.injEq,Value.int.injEq,exists_eq_left',exists_eq_left,e1,cP_false]
 refine cP_intro (fun h => ?_) fun h => ?_
 ·have hn : x.l.n = x.l.len := by have := beq_iff_eq.1 h; omega
  have e2 : (2 * (x.l.n : Int) + 1).toNat = 2 * x.l.len + 1 := by omega
  have e3 : Nat.ble (x.l.len - x.l.at_) (2 * x.l.len + 1) = true := by rw [Nat.ble_eq]; omega
  have e4 : x.l.push x.x = ⟨x.l.len + 1,2 * x.l.len + 1,0,x.l.len + 1,fun i => if i < x.l.len then x.l.get i else if i = x.l.len then x.x else zLnk⟩ := by rw [← hn]; exact if_pos hn
  simp only [e2,e3,e4,cP_true]
  by_cases ha : x.l.at_ = 0
  ·have e5 : Nat.beq x.l.at_ 0 = true := by rw [ha]; rfl
   have e6 : Nat.ble (x.l.len - x.l.at_ + 1) (2 * x.l.len + 1) = true := by rw [Nat.ble_eq]; omega
   simp only [e5,e6,cP_true]
   refine ⟨by unfold I64; omega,by unfold I64; omega,by omega,by omega,by omega,by omega,by omega,fun k _ => rfl,by omega,by omega,by omega,by omega,by omega,by omega,rfl,by omega,by unfold I64; omega,⟨⟨by omega,trivial⟩,by omega,by omega⟩,trivial,fun q hq => ?_⟩
   rw [eff_one]
   simp only [Cs.eff,blt_iff_decide,ble_iff_decide,nbeq_decide,bif_decide,← Bool.decide_and]
   grind
  ·have e5 : Nat.beq x.l.at_ 0 = false := by rw [nbeq_decide]; exact decide_eq_false ha
   have e6 : Nat.ble (x.l.len - x.l.at_ + x.l.at_) (2 * x.l.len + 1) = true := by rw [Nat.ble_eq]; omega
   have e7 : Nat.ble (x.l.len - x.l.at_ + x.l.at_ + 1) (2 * x.l.len + 1) = true := by rw [Nat.ble_eq]; omega
   simp only [e5,e6,e7,cP_true,cP_false]
   refine ⟨by unfold I64; omega,by unfold I64; omega,by omega,by omega,by omega,by omega,by omega,fun k _ => rfl,by omega,by omega,by omega,by omega,by omega,fun k _ => rfl,by omega,by omega,rfl,by omega,by unfold I64; omega,⟨⟨by omega,trivial⟩,by omega,by omega⟩,trivial,fun q hq => ?_⟩
   rw [eff_one]
   simp only [Cs.eff,blt_iff_decide,ble_iff_decide,nbeq_decide,bif_decide,← Bool.decide_and]
   grind
 ·have hn : x.l.n ≠ x.l.len := fun e => by rw [e] at h; simp at h
  have ht : ((x.l.at_ : Int) + (x.l.n : Int)).tmod (x.l.len : Int) = (((x.l.at_ + x.l.n) % x.l.len : Nat) : Int) := by rw [tmod_nat]; exact (Int.ofNat_tmod _ _).symm
  have hm : (x.l.at_ + x.l.n) % x.l.len < x.l.len := Nat.mod_lt _ (by omega)
  rw [show x.l.push x.x = ⟨x.l.len,x.l.cap,x.l.at_,x.l.n + 1,fun i => if i = (x.l.at_ + x.l.n) % x.l.len then x.x else x.l.e i⟩ from if_neg hn]
  simp only [ht,Int.toNat_natCast]
  exact ⟨by unfold I64; omega,by omega,⟨by omega,by omega⟩,by omega,by unfold I64; omega,⟨⟨trivial,trivial⟩,trivial,by omega⟩,trivial,fun q _ => lnk_put _ _ x.x _ _ rfl⟩
theorem bagPutN_ok : CtrOk Tryz.prog 58 (bagPutP true).ctr := pctr_end tt_ok mixed (.cons (ctrT_ok span_ok) .nil) 1 noA 200 5 (fun _ => ⟨rfl,rfl,rfl,rfl⟩) fun x hx => Eq.mp (bagPutNVC_ok x) (bagPutNVC_true x (hd_iff.1 hx))
theorem bagPutP_ok : CtrOk Tryz.prog 58 (bagPutP false).ctr := pctr_end tt_ok mixed (.cons (ctrT_ok span_ok) .nil) 2 noA 200 5 (fun _ => ⟨rfl,rfl,rfl,rfl⟩) fun x hx => Eq.mp (bagPutPVC_ok x) (bagPutPVC_true x (hd_iff.1 hx))
theorem bagAllN_ok : CtrOk Tryz.prog 224 bagAllN.ctr := pctr_end tt_ok mixed tblX_ok 1 noA 200 5 (fun _ => ⟨rfl,rfl,rfl,rfl⟩) fun x _ => Eq.mp (bagAllNVC_ok x) (bagAllNVC_true x)
theorem bagAllP_ok : CtrOk Tryz.prog 224 bagAllP.ctr := pctr_end tt_ok mixed tblX_ok 2 noA 200 5 (fun _ => ⟨rfl,rfl,rfl,rfl⟩) fun x hx => Eq.mp (bagAllPVC_ok x) (bagAllPVC_true x (hd_iff.1 hx))
theorem linePushN_ok : CtrOk Tryz.prog 201 linePushN.ctr := pctr_end tt_ok mixed tblX_ok 1 noA 200 5 (fun _ => ⟨rfl,rfl,rfl,rfl⟩) fun x _ => Eq.mp (linePushNVC_ok x) (linePushNVC_true x)
theorem linePushP_ok : CtrOk Tryz.prog 201 linePushP.ctr := pctr_end tt_ok mixed tblX_ok 2 noA 200 5 (fun _ => ⟨rfl,rfl,rfl,rfl⟩) fun x hx => Eq.mp (linePushPVC_ok x) (linePushPVC_true x (hd_iff.1 hx))
theorem lineHeadN_ok : CtrOk Tryz.prog 115 lineHeadN.ctr := pctr_end tt_ok mixed tblX_ok 1 noA 200 5 (fun _ => ⟨rfl,rfl,rfl,rfl⟩) fun x _ => Eq.mp (lineHeadNVC_ok x) (lineHeadNVC_true x)
theorem lineHeadP_ok : CtrOk Tryz.prog 115 lineHeadP.ctr := pctr_end tt_ok mixed tblX_ok 2 noA 200 5 (fun _ => ⟨rfl,rfl,rfl,rfl⟩) fun x hx => Eq.mp (lineHeadPVC_ok x) (lineHeadPVC_true x (hd_iff.1 hx))
theorem linePopN_ok : CtrOk Tryz.prog 202 linePopN.ctr := pctr_end tt_ok mixed tblX_ok 1 noA 200 5 (fun _ => ⟨rfl,rfl,rfl,rfl⟩) fun x _ => Eq.mp (linePopNVC_ok x) (linePopNVC_true x)
theorem linePopP_ok : CtrOk Tryz.prog 202 linePopP.ctr := pctr_end tt_ok mixed tblX_ok 2 noA 200 5 (fun _ => ⟨rfl,rfl,rfl,rfl⟩) fun x hx => Eq.mp (linePopPVC_ok x) (linePopPVC_true x (hd_iff.1 hx))
theorem lineAllN_ok : CtrOk Tryz.prog 43 lineAllN.ctr := pctr_end tt_ok mixed tblX_ok 1 noA 200 5 (fun _ => ⟨rfl,rfl,rfl,rfl⟩) fun x _ => Eq.mp (lineAllNVC_ok x) (lineAllNVC_true x)
theorem lineAllP_ok : CtrOk Tryz.prog 43 lineAllP.ctr := pctr_end tt_ok mixed tblX_ok 2 anAll 200 5 (fun _ => ⟨rfl,rfl,rfl,rfl⟩) fun x hx => Eq.mp (lineAllPVC_ok x) (lineAllPVC_true x (hd_iff.1 hx))
end Go.Proofs.YtpnhfbegboogbaaGreat
end
section
namespace Go.Proofs.YtpnhfbegboogbaaGreat
open Go SE
set_option linter.unusedSimpArgs false
theorem outsP_nil {X : Type} (x : X) (v : AV) (h' : Heap) : outsP x v h' [] = False := by with_unfolding_all rfl
theorem outsP_cons {X : Type} (x : X) (v : AV) (h' : Heap) (o : Out X) (r : List (Out X)) : outsP x v h' (o :: r) = ((∃ y,o.post x y/\v = o.ret x y/\h' = hO o.m (o.os x y)) ∨ outsP x v h' r) := by with_unfolding_all rfl
theorem outsP1 {X : Type} {x : X} {v : AV} {h' : Heap} {o : Out X} (h : outsP x v h' [o]) : ∃ y,o.post x y/\v = o.ret x y/\h' = hO o.m (o.os x y) := by
 rw [outsP_cons,outsP_nil,or_false] at h; exact h
theorem outsP2 {X : Type} {x : X} {v : AV} {h' : Heap} {o p : Out X} (h : outsP x v h' [o,p]) : (∃ y,o.post x y/\v = o.ret x y/\h' = hO o.m (o.os x y)) ∨ ∃ y,p.post x y/\v = p.ret x y/\h' = hO p.m (p.os x y) := by
 rw [outsP_cons,outsP_cons,outsP_nil,or_false] at h; exact h
theorem outsI1 {X : Type} {x : X} {v : AV} {h' : Heap} {o : Out X} {r : List (Out X)} (h : ∃ y,o.post x y/\v = o.ret x y/\h' = hO o.m (o.os x y)) : outsP x v h' (o :: r) := by
 rw [outsP_cons]; exact .inl h
theorem outsI2 {X : Type} {x : X} {v : AV} {h' : Heap} {o p : Out X} {r : List (Out X)} (h : ∃ y,p.post x y/\v = p.ret x y/\h' = hO p.m (p.os x y)) : outsP x v h' (o :: p :: r) := by
 rw [outsP_cons,outsP_cons]; exact .inr (.inl h)
theorem pdet_of {P : Program} {f : FuncId} {X : Type} {args : X->List AV} {k : Nat} {l : X->List PO} {pre : X->Prop} {ret : X->AV} {m : Nat} {l' : X->List PO}
  (h : ∀ x,pre x->∃ (Y : Type) (a2 : Y->List AV) (l2 : Y->List PO) (p2 : Y->Prop) (r2 : Y->AV) (l2' : Y->List PO) (y : Y),CtrOk P f (pdet Y a2 k l2 p2 r2 m l2').ctr/\p2 y/\a2 y = args x/\l2 y = l x/\r2 y = ret x/\l2' y = l' x) :
  CtrOk P f (pdet X args k l pre ret m l').ctr := by
 refine ctr_of fun x hx => ?_
 obtain ⟨Y,a2,l2,p2,r2,l2',y,h1,h2,h3,h4,h5,h6⟩ := h x hx
 refine ⟨_,h1,rfl,y,h2,h3,by simp only [pdet,PCtr.ctr,h4],fun v h' hh => ?_⟩
 obtain ⟨u,e1,e2,e3⟩ := outsP1 hh
 exact outsI1 ⟨u,trivial,by rw [e2]; exact h5,by rw [e3]; show hO m ((l2' y).map PO.ab) = hO m ((l' x).map PO.ab); rw [h6]⟩
def bagPutC : PCtr := pdet ZBagE (fun x => [.ptr 0 0,x.x.av]) 1 (fun x => [.m x.b.os]) (fun x => Hd (x.b.ok/\x.x.may)) (fun x => i64 (if x.b.n < 258 then 0 else 11)) 1 (fun x => [.m (x.b.put x.x).os])
def bagAllC : PCtr := { X := ZBag,args := fun _ => [.ptr 0 0],k := 1,l := fun b => [.m b.os],pre := fun b => Hd b.ok,outs := [
 { Y := Unit,post := fun b _ => Hd (b.n = 0),ret := fun _ _ => nilS,m := 1,l := fun b _ => [.m b.os] },
 { Y := Unit,post := fun _ _ => Hd True,ret := fun b _ => .slW 1 0 5 b.n,m := 2,l := fun b _ => [.m b.os,.o (.room 83 b.row)] }] }
def linePushC : PCtr := pdet ZLnE (fun x => [.ptr 0 0,x.x.av]) 1 (fun x => [.m x.l.os]) (fun x => Hd x.l.ok) (fun _ => .tup []) 1 (fun x => [.m (x.l.push x.x).os])
def lineHeadC : PCtr := pdet ZLn (fun _ => [.ptr 0 0]) 1 (fun l => [.m l.os]) (fun l => Hd l.ok) (fun l => .tup [l.head.av,boo (decide (l.n ≠ 0))]) 1 (fun l => [.m l.os])
def linePopC : PCtr := pdet ZLn (fun _ => [.ptr 0 0]) 1 (fun l => [.m l.os]) (fun l => Hd l.ok) (fun l => .tup [l.head.av,boo (decide (l.n ≠ 0))]) 1 (fun l => [.m l.pop.os])
def lineAllC : PCtr := { X := ZLn,args := fun _ => [.ptr 0 0],k := 1,l := fun l => [.m l.os],pre := fun l => Hd l.ok,outs := [
 { Y := Unit,post := fun l _ => Hd (l.n = 0),ret := fun _ _ => nilS,m := 1,l := fun l _ => [.m l.os] },
 { Y := Unit,post := fun l _ => Hd (l.n ≠ 0),ret := fun l _ => .slW 1 0 5 l.n,m := 2,l := fun l _ => [.m l.os,.o (.room 41 (l.all l.n))] }] }
theorem bag_put_os {b : ZBag} {x : ZEnt} (h : b.ok) : (b.put x).os = (b.put x).osP ∨ b.z = false/\(b.put x).os = (b.put x).osP := by
 left
 unfold ZBag.put
 split
 ·rfl
 ·cases hz : b.z with
  | false => unfold ZBag.os; rw [hz]; rfl
  | true => have := h.2 hz; omega
theorem bag_os {b : ZBag} (z : Bool) (h : b.z = z) : b.os = bif z then ZBag.osN else b.osP := by
 unfold ZBag.os; rw [h]
theorem bagPut_ok : CtrOk Tryz.prog 58 bagPutC.ctr := pdet_of fun x hx => by
 have hx := hd_iff.1 hx
 have e : (x.b.put x.x).os = (x.b.put x.x).osP := (bag_put_os hx.1).elim id And.right
 cases hz : x.b.z with
 | true => exact ⟨_,_,_,_,_,_,x,bagPutN_ok,hd_iff.2 ⟨hx.1,hx.2,hz⟩,rfl,by rw [bag_os true hz],rfl,by rw [e]⟩
 | false => exact ⟨_,_,_,_,_,_,x,bagPutP_ok,hd_iff.2 ⟨hx.1,hx.2,hz⟩,rfl,by rw [bag_os false hz],rfl,by rw [e]⟩
theorem bagAll_ok : CtrOk Tryz.prog 224 bagAllC.ctr := ctr_of fun x hx => by
 have hx := hd_iff.1 hx
 cases hz : x.z with
 | true =>
  refine ⟨_,bagAllN_ok,rfl,(),hd_iff.2 trivial,rfl,by show [_] = [_]; rw [bag_os true hz]; rfl,fun v h' hh => ?_⟩
  obtain ⟨y,_,h1,h2⟩ := outsP1 hh
  exact outsI1 ⟨(),hd_iff.2 (hx.2 hz),h1,by rw [h2]; show hO 1 [_] = hO 1 [_]; rw [bag_os true hz]; rfl⟩
 | false =>
  refine ⟨_,bagAllP_ok,rfl,x,hd_iff.2 ⟨hx,hz⟩,rfl,by show [_] = [_]; rw [bag_os false hz]; rfl,fun v h' hh => ?_⟩
  obtain ⟨y,_,h1,h2⟩ := outsP1 hh
  exact outsI2 ⟨(),hd_iff.2 trivial,h1,by rw [h2]; show hO 2 [_,_] = hO 2 [_,_]; rw [bag_os false hz]; rfl⟩
theorem ln_osN {l : ZLn} (h : l.len = 0) : l.os = ZLn.osN := by unfold ZLn.os; rw [h]; rfl
theorem ln_osP {l : ZLn} (h : l.len ≠ 0) : l.os = l.osP := by unfold ZLn.os; rw [nbeq_decide,decide_eq_false h]; rfl
theorem ln_n {l : ZLn} (h : l.ok) (h0 : l.len = 0) : l.n = 0 := by have := h.2.2.1; omega
theorem linePush_ok : CtrOk Tryz.prog 201 linePushC.ctr := pdet_of fun x hx => by
 have hx := hd_iff.1 hx
 by_cases hz : x.l.len = 0
 ·have hn := ln_n hx hz
  have e : x.l.push x.x = ⟨1,1,0,1,fun i => if i = 0 then x.x else zLnk⟩ := by
   unfold ZLn.push
   rw [hn,hz,if_pos rfl]
   simp only [Nat.not_lt_zero,if_false,Nat.mul_zero,Nat.zero_add]
  exact ⟨_,_,_,_,_,_,x.x,linePushN_ok,hd_iff.2 trivial,rfl,by rw [ln_osN hz],rfl,by rw [e]; rfl⟩
 ·have e : (x.l.push x.x).len ≠ 0 := by unfold ZLn.push; split <;> simp_all
  exact ⟨_,_,_,_,_,_,x,linePushP_ok,hd_iff.2 ⟨hx,hz⟩,rfl,by rw [ln_osP hz],rfl,by rw [ln_osP e]⟩
theorem ln_head0 {l : ZLn} (h : l.n = 0) : l.head = zLnk := if_pos h
theorem lineHead_ok : CtrOk Tryz.prog 115 lineHeadC.ctr := pdet_of fun x hx => by
 have hx := hd_iff.1 hx
 by_cases hz : x.len = 0
 ·have hn := ln_n hx hz
  exact ⟨_,_,_,_,_,_,(),lineHeadN_ok,hd_iff.2 trivial,rfl,by rw [ln_osN hz],by rw [ln_head0 hn,hn]; rfl,by rw [ln_osN hz]⟩
 ·exact ⟨_,_,_,_,_,_,x,lineHeadP_ok,hd_iff.2 ⟨hx,hz⟩,rfl,by rw [ln_osP hz],rfl,by rw [ln_osP hz]⟩
theorem linePop_ok : CtrOk Tryz.prog 202 linePopC.ctr := pdet_of fun x hx => by
 have hx := hd_iff.1 hx
 by_cases hz : x.len = 0
 ·have hn := ln_n hx hz
  exact ⟨_,_,_,_,_,_,(),linePopN_ok,hd_iff.2 trivial,rfl,by rw [ln_osN hz],by rw [ln_head0 hn,hn]; rfl,by rw [show x.pop = x from if_pos hn,ln_osN hz]⟩
 ·have e : x.pop.len ≠ 0 := by unfold ZLn.pop; split <;> exact hz
  exact ⟨_,_,_,_,_,_,x,linePopP_ok,hd_iff.2 ⟨hx,hz⟩,rfl,by rw [ln_osP hz],rfl,by rw [ln_osP e]⟩
theorem lineAll_ok : CtrOk Tryz.prog 43 lineAllC.ctr := ctr_of fun x hx => by
 have hx := hd_iff.1 hx
 by_cases hz : x.len = 0
 ·refine ⟨_,lineAllN_ok,rfl,(),hd_iff.2 trivial,rfl,by show [_] = [_]; rw [ln_osN hz],fun v h' hh => ?_⟩
  obtain ⟨y,_,h1,h2⟩ := outsP1 hh
  exact outsI1 ⟨(),hd_iff.2 (ln_n hx hz),h1,by rw [h2]; show hO 1 [_] = hO 1 [_]; rw [ln_osN hz]⟩
 ·refine ⟨_,lineAllP_ok,rfl,x,hd_iff.2 ⟨hx,hz⟩,rfl,by show [_] = [_]; rw [ln_osP hz],fun v h' hh => ?_⟩
  rcases outsP2 hh with ⟨y,h0,h1,h2⟩ | ⟨y,h0,h1,h2⟩
  ·exact outsI1 ⟨(),h0,h1,by rw [h2]; show hO 1 [_] = hO 1 [_]; rw [ln_osP hz]⟩
  ·exact outsI2 ⟨(),h0,h1,by rw [h2]; show hO 2 [_,_] = hO 2 [_,_]; rw [ln_osP hz]⟩
end Go.Proofs.YtpnhfbegboogbaaGreat
end
section
namespace Go.Proofs.YtpnhfbegboogbaaGreat
open Go SE
structure ZBlk where
 cls : Int
 kind : Int
 id : Int
 ver : Int
 epoch : Int
 key : ByteArray
 value : ByteArray
namespace ZBlk
def av (b : ZBlk) : AV := .agg [i64 b.cls,i64 b.kind,u64 b.id,u64 b.ver,u64 b.epoch,.lit (.string b.key),.lit (.string b.value)]
def num (v : Int) : Prop := 1<=v/\v<=2305843009213693952
def nums (b : ZBlk) : Prop := num b.id/\num b.ver/\num b.epoch
def may (b : ZBlk) : Prop := spn b.cls ≠ 0/\(
 b.kind = 0/\b.id = 0/\b.ver = 0/\b.epoch = 0/\b.key = ⟨#[]⟩/\b.value = ⟨#[]⟩ ∨
 b.kind = 1/\1<=b.key.size/\b.key.size<=16/\b.value.size<=400/\ned (b.key.size + b.value.size : Nat) = b.cls/\b.nums ∨
 b.kind = 2/\b.key = ⟨#[]⟩/\b.value.size<=400/\ned (b.key.size + b.value.size : Nat) = b.cls/\b.nums ∨
 b.kind = 3/\b.key.size + b.value.size = 0/\b.cls = 0/\b.nums)
def dat (b : ZBlk) (i : Nat) : Int := if i < (b.key ++ b.value).size then strAt (b.key ++ b.value) i else 0
def h32 (b : ZBlk) (k : Nat) : Int := if k = 0 then 1 else if k = 1 then b.cls else if k = 2 then b.kind else if k = 3 then b.key.size else if k < 6 then (b.value.size : Int) / 256 ^ (k - 4) % 256 else if k < 8 then 0 else
 if k < 16 then b.id / 256 ^ (k - 8) % 256 else if k < 24 then b.ver / 256 ^ (k - 16) % 256 else if k < 32 then b.epoch / 256 ^ (k - 24) % 256 else 0
noncomputable def headG (b : ZBlk) (g : Nat->Int) (n : Nat) (k : Nat) : Int := if k < 32 then b.h32 k else if k < 36 then addM (addM 0 b.h32 32) g n / 256 ^ (k - 32) % 256 else g (k - 36)
def capN (b : ZBlk) : Nat := (cpc b.cls).toNat
def spnN (b : ZBlk) : Nat := (spn b.cls).toNat
noncomputable def enc (b : ZBlk) (k : Nat) : Int := if k < 64 then b.headG b.dat b.capN k else if k % 64 = 0 then 2 else b.dat (28 + (k / 64 - 1) * 63 + (k % 64 - 1))
end ZBlk
noncomputable def ZBlk.mayB (b : ZBlk) : Bool := hide (@decide b.may (Classical.propDecidable _))
theorem mayB_iff {b : ZBlk} : b.mayB = true ↔ b.may := by unfold ZBlk.mayB; rw [hide_eq]; exact @decide_eq_true_iff _ (Classical.propDecidable _)
noncomputable def mayC : Ctr := det ZBlk (fun b => [b.av]) 0 (fun _ => []) (fun b => Hd (b.key.size < 1099511627776/\b.value.size < 1099511627776)) (fun b => boo b.mayB) 0 (fun _ => [])
def getG (g : Nat->Int) (a : Nat) : Nat->Int
 | 0 => 0
 | w + 1 => getG g a w + g (a + w) * 256 ^ w
structure ZGet where
 b : Bys
 at_ : Nat
 w : Nat
def getC : Ctr := det ZGet (fun x => [x.b.av 0,i64 x.at_,i64 x.w]) 1 (fun x => [x.b.ro]) (fun x => Hd (x.b.ok/\x.at_ + x.w<=x.b.n/\1<=x.w/\x.w<=8)) (fun x => .tup [u64 (getG (fun k => x.b.g (x.b.q + k)) x.at_ x.w),i64 0]) 1 (fun x => [x.b.ro])
def anGet (x : ZGet) : FuncId->Anns := fun f => bif Nat.beq f 174 then (fun b _ _ => bif Nat.beq b 0 then [
 { σ := Nat,fr := fun k => [(19,i64 k),(9,u64 (getG (fun k => x.b.g (x.b.q + k)) x.at_ k))],ob := fun _ => [],inv := fun k => Hd (k<=x.w),meas := fun k => x.w - k }] else []) else fun _ _ _ => []
structure ZPutB where
 g : Nat->Int
 at_ : Nat
 w : Nat
 v : Int
def bputC : Ctr := det ZPutB (fun x => [.slE 0 0 1 64 64,i64 x.at_,i64 x.w,u64 x.v]) 1 (fun x => [.cells 5 (rowB x.g 64)]) (fun x => Hd (x.at_ + x.w<=64/\1<=x.w/\x.w<=8/\0<=x.v/\x.v < 256 ^ x.w/\∀ k,0<=x.g k/\x.g k < 256)) (fun _ => .tup []) 1 (fun x => [.cells 5 (rowB (putG x.g x.at_ x.w x.v) 64)])
structure ZHead where
 b : ZBlk
 d : Bys
def ZHead.ok (x : ZHead) : Prop := x.d.ok/\28<=x.d.n/\x.b.key.size < 256/\x.b.value.size < 65536/\0<=x.b.cls/\x.b.cls < 256/\0<=x.b.kind/\x.b.kind < 256/\0<=x.b.id/\x.b.id < 18446744073709551616/\0<=x.b.ver/\x.b.ver < 18446744073709551616/\0<=x.b.epoch/\x.b.epoch < 18446744073709551616
noncomputable def headC : Ctr := det ZHead (fun x => [x.b.av,x.d.av 0]) 1 (fun x => [x.d.ro]) (fun x => Hd x.ok) (fun _ => .slE 1 0 1 64 64) 2 (fun x => [x.d.ro,.cells 5 (rowB (x.b.headG (fun k => x.d.g (x.d.q + k)) x.d.n) 64)])
noncomputable def tblB1 : WTbl := [(140,sumBT),(139,ctrT addC),(138,ctrT bputC)]
noncomputable def tblB0 : WTbl := [(180,ctrT putC)]
end Go.Proofs.YtpnhfbegboogbaaGreat
end
section
namespace Go.Proofs.YtpnhfbegboogbaaGreat
open Go SE
def AB_w8 (a : ZBlk) : Prop := True/\a.mayB = false/\True
def AB_w17 (a : Int) : Prop := AV.lit (Value.int .i64 a) = AV.lit (Value.int .i64 a)
def AB_w20 (a : Int) : Prop := AB_w17 a/\True
def AB_w1 (a : ZBlk) (b : Int) : Prop := True/\∀ y_1 : Unit,True->AB_w20 a.cls/\cP (bne (ned b) a.cls) (∃ y_2 : Unit,AB_w8 a) (cP (decide (a.id ≥ (1 : Int))) (cP (decide (a.id<=2305843009213693952)) (cP (decide (a.ver ≥ (1 : Int))) (cP (decide (a.ver<=2305843009213693952)) (cP (decide (a.epoch ≥ (1 : Int))) (∃ y_2 : Unit,True/\a.mayB = decide (a.epoch<=2305843009213693952)/\True) (∃ y_2 : Unit,AB_w8 a)) (∃ y_2 : Unit,AB_w8 a)) (∃ y_2 : Unit,AB_w8 a)) (∃ y_2 : Unit,AB_w8 a)) (∃ y_2 : Unit,AB_w8 a))
def AB_w15 (a : ZBlk) : Prop := ∃ y_1 : Unit,AB_w8 a
def AB_w10 (a : ZBlk) : Prop := (AV.lit (Value.tuple (@List.toArray Value (@List.nil Value))) = AV.lit (Value.tuple (@List.toArray Value (@List.nil Value)))/\True)/\AB_w15 a
def AB_w6 (a : ZBlk) : Prop := cP (decide ((a.key.size : Int) + (a.value.size : Int) - (a.key.size : Int) > (400 : Int))) (AB_w10 a) (I64 ((a.key.size : Int) + ((a.key.size : Int) + (a.value.size : Int) - (a.key.size : Int)))/\∃ x_1 : Int,True/\(x_1 = (a.key.size : Int) + ((a.key.size : Int) + (a.value.size : Int) - (a.key.size : Int))/\True)/\AB_w1 a x_1)
def AB_w7 (a : ZBlk) : Prop := cP (decide ((a.key.size : Int) + (a.value.size : Int) > (400 : Int))) (AB_w10 a) (I64 ((a.key.size : Int) + ((a.key.size : Int) + (a.value.size : Int)))/\∃ x_1 : Int,True/\(x_1 = (a.key.size : Int) + ((a.key.size : Int) + (a.value.size : Int))/\True)/\AB_w1 a x_1)
def AB_w9 (a : ZPutB) : Prop := Hd (a.at_ + a.w<=64/\1<=a.w/\a.w<=8/\0<=a.v/\a.v < @HPow.hPow Int Nat Int (@instHPow Int Nat (@instPowNat Int @Int.instNatPow)) (256 : Int) a.w/\∀ k : Nat,0<=a.g k/\a.g k < 256)
def AB_w12 (a : ZPutB) (b : ZPutB) : Prop := (64 = 64/\∀ q : Nat,q < 64->[Value.int .u8 (a.g q)] = [Value.int .u8 (putG b.g b.at_ b.w b.v q)])/\True
def AB_w13 (a : Bys) : Prop := rowB a.g a.N = rowB a.g a.N/\true = true
def AB_w18 : Prop := 0 = 0/\64 = 64/\64 = 64
def AB_w19 (a : ZGet) : Prop := ∃ y : Unit,True/\(getG (fun (k : Nat) => a.b.g (a.b.q + k)) a.at_ a.w = 0/\(0 : Int) = 1/\True)/\AB_w13 a.b/\True
def AB_w22 (a : Bys) (b : Nat) : Prop := (Nat.beq (List.length [Value.int .u8 (a.g (a.q + b))]) 1 && List.all [Value.int .u8 (a.g (a.q + b))] Value.oneCell') = true
def AB_w23 (a : PutX) (b : Nat) : Prop := (Nat.beq (List.length [Value.int .u8 (a.res (0 + b))]) 1 && List.all [Value.int .u8 (a.res (0 + b))] Value.oneCell') = true
def AB_w25 (a : ByteArray) : Prop := AV.lit (Value.string a) = AV.lit (Value.string a)
def mayVC (b : ZBlk) : Prop :=
 ∃ x : Int,True/\(x = b.cls/\True)/\True/\∀ y : Unit,True->cP (BEq.beq (spn x) (0 : Int)) (AB_w15 b) (I64 ((b.key.size : Int) + (b.value.size : Int))/\cP (BEq.beq b.kind (0 : Int)) (∃ y_1 : Unit,True/\b.mayB = (BEq.beq b.cls b.cls && (BEq.beq b.kind (0 : Int) && (BEq.beq b.id (0 : Int) && (BEq.beq b.ver (0 : Int) && (BEq.beq b.epoch (0 : Int) && (BEq.beq (ByteArray.toList b.key) (ByteArray.toList (ByteArray.mk #[])) && (BEq.beq (ByteArray.toList b.value) (ByteArray.toList (ByteArray.mk #[])) && true)))))))/\True) (cP (BEq.beq b.kind (1 : Int)) (cP (decide ((b.key.size : Int) < 1)) (AB_w15 b) (cP (decide ((b.key.size : Int) > (16 : Int))) (AB_w15 b) (I64 ((b.key.size : Int) + (b.value.size : Int) - (b.key.size : Int))/\cP (BEq.beq b.kind (2 : Int)) (cP (Bool.not (BEq.beq (ByteArray.toList b.key) (ByteArray.toList (ByteArray.mk #[])))) (AB_w10 b) (AB_w6 b)) (AB_w6 b)))) (cP (BEq.beq b.kind (2 : Int)) (cP (BEq.beq b.kind (2 : Int)) (cP (Bool.not (BEq.beq (ByteArray.toList b.key) (ByteArray.toList (ByteArray.mk #[])))) (AB_w10 b) (AB_w7 b)) (AB_w7 b)) (cP (BEq.beq b.kind (3 : Int)) (cP (bne ((b.key.size : Int) + (b.value.size : Int)) (0 : Int)) (AB_w15 b) (cP (bne b.cls (0 : Int)) (AB_w15 b) (cP (decide (b.id ≥ (1 : Int))) (cP (decide (b.id<=2305843009213693952)) (cP (decide (b.ver ≥ (1 : Int))) (cP (decide (b.ver<=2305843009213693952)) (cP (decide (b.epoch ≥ (1 : Int))) (∃ y_1 : Unit,True/\b.mayB = decide (b.epoch<=2305843009213693952)/\True) (AB_w15 b)) (AB_w15 b)) (AB_w15 b)) (AB_w15 b)) (AB_w15 b)))) (AB_w15 b)))))
theorem mayVC_ok (b : ZBlk) : mayVC b = wpF Tryz.prog [(84,ctrT spanC),(152,ctrT needC)] tt (noA b) 200 5 175 (mayC.args b) (hO mayC.k (mayC.os b)) (fun v h' => endsP mayC.k b v h' mayC.outs) := by kernel_rfl
def getVC (x : ZGet) : Prop :=
 cP (decide ((x.w : Int) < 1)) (AB_w19 x) (cP (decide ((x.w : Int) > (8 : Int))) (AB_w19 x) (I64 ((x.b.n : Int) - (x.w : Int))/\cP (decide ((x.at_ : Int) > (x.b.n : Int) - (x.w : Int))) (∃ y : Unit,True/\(getG (fun (k : Nat) => x.b.g (x.b.q + k)) x.at_ x.w = 0/\(0 : Int) = 2/\True)/\AB_w13 x.b/\True) ((∃ s : Nat,Hd (s<=x.w)/\True/\((s : Int) = 0/\getG (fun (k : Nat) => x.b.g (x.b.q + k)) x.at_ s = 0/\True)/\AB_w13 x.b/\True)/\(∀ s : Nat,Hd (s<=x.w)->cP (decide ((s : Int) < (x.w : Int))) (I64 ((x.at_ : Int) + (s : Int))/\(0<=(x.at_ : Int) + (s : Int)/\(x.at_ : Int) + (s : Int) < (x.b.n : Int))/\x.b.q + Int.toNat ((x.at_ : Int) + (s : Int)) < x.b.N/\I64 (8 * (s : Int))/\0<=8 * (s : Int)/\I64 ((s : Int) + 1)/\∃ s_1 : Nat,Hd (s_1<=x.w)/\x.w - s_1 < x.w - s/\((s_1 : Int) = (s : Int) + 1/\getG (fun (k : Nat) => x.b.g (x.b.q + k)) x.at_ s_1 = IntKind.wrap .u64 ((@BitVec.toNat 64 (@HOr.hOr (@BitVec 64) (@BitVec 64) (@BitVec 64) (@instHOrOfOrOp (@BitVec 64) (@BitVec.instOrOp 64)) (@BitVec.ofInt 64 (getG (fun (k : Nat) => x.b.g (x.b.q + k)) x.at_ s)) (@BitVec.ofInt 64 (IntKind.wrap .u64 (IntKind.wrap .u64 (x.b.g (x.b.q + Int.toNat ((x.at_ : Int) + (s : Int)))) * @HPow.hPow Int Nat Int (@instHPow Int Nat (@instPowNat Int @Int.instNatPow)) (2 : Int) (@Min.min Nat @instMinNat (Int.toNat (8 * (s : Int))) 64))))) : Nat) : Int)/\True)/\AB_w13 x.b/\True) (∃ y : Unit,True/\(getG (fun (k : Nat) => x.b.g (x.b.q + k)) x.at_ x.w = getG (fun (k : Nat) => x.b.g (x.b.q + k)) x.at_ s/\(0 : Int) = 0/\True)/\AB_w13 x.b/\True))/\True)))
theorem getVC_ok (x : ZGet) : getVC x = wpF Tryz.prog [] tt (anGet x) 200 5 174 (getC.args x) (hO getC.k (getC.os x)) (fun v h' => endsP getC.k x v h' getC.outs) := by kernel_rfl
def headVC (x : ZHead) : Prop :=
 ((0 : Int)<=64/\(0 : Int)<=0/\(0 : Int)<=281474976710592/\(0 : Int)<=4611686018427387839)/\((0 : Int)<=0/\(0 : Int)<=63)/\0 < 64/\(AB_w25 x.b.key/\AB_w17 x.b.kind/\AB_w20 x.b.cls)/\((0 : Int)<=1/\(0 : Int)<=62)/\1 < 64/\(AB_w25 x.b.key/\AB_w20 x.b.kind)/\((0 : Int)<=2/\(0 : Int)<=61)/\2 < 64/\(AB_w25 x.b.key/\True)/\((0 : Int)<=3/\(0 : Int)<=60)/\3 < 64/\True/\∃ x_1 : ZPutB,AB_w9 x_1/\(AB_w18/\(x_1.at_ : Int) = 4/\(x_1.w : Int) = 2/\x_1.v = IntKind.wrap .u64 (x.b.value.size : Int)/\True)/\((64 = 64/\∀ q : Nat,q < 64->[Value.int .u8 (x_1.g q)] = Cs.eff (fun (x_2 : Nat) => [Value.int .u8 0]) [(3,[Value.int .u8 (IntKind.wrap .u8 (x.b.key.size : Int))]),(2,[Value.int .u8 (IntKind.wrap .u8 x.b.kind)]),(1,[Value.int .u8 (IntKind.wrap .u8 x.b.cls)]),(0,[Value.int .u8 1])] q)/\True)/\∀ y : Unit,True->∃ x_2 : ZPutB,AB_w9 x_2/\(AB_w18/\(x_2.at_ : Int) = 8/\(x_2.w : Int) = 8/\x_2.v = x.b.id/\True)/\AB_w12 x_2 x_1/\∀ y_1 : Unit,True->∃ x_3 : ZPutB,AB_w9 x_3/\(AB_w18/\(x_3.at_ : Int) = 16/\(x_3.w : Int) = 8/\x_3.v = x.b.ver/\True)/\AB_w12 x_3 x_2/\∀ y_2 : Unit,True->∃ x_4 : ZPutB,AB_w9 x_4/\(AB_w18/\(x_4.at_ : Int) = 24/\(x_4.w : Int) = 8/\x_4.v = x.b.epoch/\True)/\AB_w12 x_4 x_3/\∀ y_3 : Unit,True->(0 : Int)<=32/\(0<=32/\32<=64/\64<=64)/\32<=64/\∃ n : Nat,∃ g : ∀ a : Nat,Int,32 = n/\n < 1099511627776/\(∀ k : Nat,k < n->[Value.int .u8 (putG x_4.g x_4.at_ x_4.w x_4.v (0 + k))] = [Value.int .u8 (g k)])/\(∀ k : Nat,0<=g k/\g k < 256)/\∃ x_5 : AddX,Hd (U32 x_5.c/\x_5.b.ok)/\(x_5.c = addM (0 : Int) g n/\(x_5.b.q = x.d.q/\x_5.b.n = x.d.n)/\True)/\((x_5.b.N = x.d.N/\∀ q : Nat,q < x_5.b.N->[Value.int .u8 (x_5.b.g q)] = [Value.int .u8 (x.d.g q)])/\True)/\
 ∀ y_4 : Unit,True->∃ x_6 : ZPutB,AB_w9 x_6/\(AB_w18/\(x_6.at_ : Int) = 32/\(x_6.w : Int) = 4/\x_6.v = IntKind.wrap .u64 (addM x_5.c (fun (k : Nat) => x_5.b.g (x_5.b.q + k)) x_5.b.n)/\True)/\AB_w12 x_6 x_4/\∀ y_5 : Unit,True->(0 : Int)<=36/\(36<=64/\64<=64/\64<=64)/\64<=64/\cP (Nat.ble x.d.n 28) (x.d.q + x.d.n<=x.d.N/\(∀ k : Nat,k < x.d.n->AB_w22 x.d k)/\∃ y_6 : Unit,True/\AB_w18/\AB_w13 x.d/\(64 = 64/\∀ q : Nat,q < 64->[Value.int .u8 (x.b.headG (fun (k : Nat) => x.d.g (x.d.q + k)) x.d.n q)] = Cs.eff (fun (p : Nat) => cond (Nat.ble 36 p && Nat.blt p (36 + x.d.n)) [Value.int .u8 (x.d.g (x.d.q + (p - 36)))] [Value.int .u8 (putG x_6.g x_6.at_ x_6.w x_6.v p)]) [] q)/\True) (x.d.q + 28<=x.d.N/\(∀ k : Nat,k < 28->AB_w22 x.d k)/\∃ y_6 : Unit,True/\AB_w18/\AB_w13 x.d/\(64 = 64/\∀ q : Nat,q < 64->[Value.int .u8 (x.b.headG (fun (k : Nat) => x.d.g (x.d.q + k)) x.d.n q)] = Cs.eff (fun (p : Nat) => cond (Nat.ble 36 p && Nat.blt p 64) [Value.int .u8 (x.d.g (x.d.q + (p - 36)))] [Value.int .u8 (putG x_6.g x_6.at_ x_6.w x_6.v p)]) [] q)/\True)
theorem headVC_ok (x : ZHead) : headVC x = wpF Tryz.prog tblB1 tt (noA x) 200 5 103 (headC.args x) (hO headC.k (headC.os x)) (fun v h' => endsP headC.k x v h' headC.outs) := by kernel_rfl
def bputVC (x : ZPutB) : Prop :=
 ∃ x_1 : PutX,Hd x_1.ok/\((x_1.b.q = 0/\x_1.b.n = 64/\x_1.c = 64)/\(x_1.at_ : Int) = (x.at_ : Int)/\(x_1.w : Int) = (x.w : Int)/\x_1.v = x.v/\True)/\((x_1.b.N = 64/\∀ q : Nat,q < x_1.b.N->[Value.int .u8 (x_1.b.g q)] = [Value.int .u8 (x.g q)])/\True)/\∀ y : Unit,True->64<=64/\cP (Nat.ble x_1.b.n 64) (0 + x_1.b.n<=x_1.b.n/\(∀ k : Nat,k < x_1.b.n->AB_w23 x_1 k)/\∃ y_1 : Unit,True/\True/\(64 = 64/\∀ q : Nat,q < 64->[Value.int .u8 (putG x.g x.at_ x.w x.v q)] = Cs.eff (fun (p : Nat) => cond (Nat.ble 0 p && Nat.blt p (0 + x_1.b.n)) [Value.int .u8 (x_1.res (0 + (p - 0)))] [Value.int .u8 (x.g p)]) [] q)/\True) (64<=x_1.b.n/\(∀ k : Nat,k < 64->AB_w23 x_1 k)/\∃ y_1 : Unit,True/\True/\(64 = 64/\∀ q : Nat,q < 64->[Value.int .u8 (putG x.g x.at_ x.w x.v q)] = Cs.eff (fun (p : Nat) => cond (Nat.ble 0 p && Nat.blt p 64) [Value.int .u8 (x_1.res (0 + (p - 0)))] [Value.int .u8 (x.g p)]) [] q)/\True)
theorem bputVC_ok (x : ZPutB) : bputVC x = wpF Tryz.prog tblB0 tt (noA x) 200 5 138 (bputC.args x) (hO bputC.k (bputC.os x)) (fun v h' => endsP bputC.k x v h' bputC.outs) := by kernel_rfl
end Go.Proofs.YtpnhfbegboogbaaGreat
end
section
namespace Go.Proofs.YtpnhfbegboogbaaGreat
open Go SE
set_option linter.unusedSimpArgs false
theorem cP_iff {b : Bool} {x y : Prop} : cP b x y ↔ (b = true->x)/\(b = false->y) := ⟨fun h => by cases b with
 | true => exact ⟨fun _ => h,fun e => nomatch e⟩
 | false => exact ⟨fun e => (nomatch e),fun _ => h⟩,fun h => cP_intro h.1 h.2⟩
theorem bputVC_true (x : ZPutB) (hx : x.at_ + x.w<=64/\1<=x.w/\x.w<=8/\0<=x.v/\x.v < 256 ^ x.w/\∀ k,0<=x.g k/\x.g k < 256) : bputVC x := by
 obtain ⟨h1,h2,h3,h4,h5,h6⟩ := hx
 have e1 : Nat.ble 64 64 = true := rfl
 unfold bputVC
 simp only [AB_w23]
 simp only [hd_iff,and_true,true_and,Nat.zero_add,Nat.add_zero,unit_ex,unit_all,true_implies,implies_true,Int.toNat_natCast,eq_self,and_self,eff_nil,cond_one,cond_int,ones_int,row_int,ones_bool,row_bool,cond_bool,ble0,Bool.true_and,Nat.sub_zero,List.getElem?_cons_zero,Option.some.injEq,Value.bool.injEq,Value.int.injEq,exists_eq_left',exists_eq_left]
 simp only [cP_iff]
 refine ⟨⟨⟨x.g,0,64,64⟩,x.at_,x.w,x.v,64⟩,⟨⟨by simp,by simp,h6⟩,h1,h2,h3,h4,h5⟩,⟨⟨rfl,rfl,rfl⟩,rfl,rfl,rfl⟩,⟨rfl,fun q _ => rfl⟩,?_⟩
 have key : ∀ q,q < 64->putG x.g x.at_ x.w x.v q = bif Nat.blt q 64 then (PutX.mk ⟨x.g,0,64,64⟩ x.at_ x.w x.v 64).res q else x.g q := fun q hq => by
  rw [nblt_iff.2 hq,cond_true]
  simp only [PutX.res,Nat.zero_add]
 exact ⟨Nat.le_refl _,fun _ => ⟨Nat.le_refl _,fun q hq => key q hq⟩,fun h => absurd (show Nat.ble 64 64 = false from h) (by decide)⟩
theorem getG_lt {g : Nat->Int} (hg : ∀ k,0<=g k/\g k < 256) (a : Nat) : ∀ w,0<=getG g a w/\getG g a w < 256 ^ w
 | 0 => ⟨Int.le_refl _,by show (0 : Int) < 256 ^ 0; decide⟩
 | w + 1 => by
  have ih := getG_lt hg a w
  have h := hg (a + w)
  have hp : (0 : Int) < 256 ^ w := Int.pow_pos (by omega)
  simp only [getG]
  have h1 : 0<=g (a + w) * 256 ^ w := Int.mul_nonneg h.1 (Int.le_of_lt hp)
  have h2 : g (a + w) * 256 ^ w<=255 * 256 ^ w := Int.mul_le_mul_of_nonneg_right (by omega) (Int.le_of_lt hp)
  rw [Int.pow_succ]
  omega
theorem or64 {a b : Int} {s : Nat} (ha : 0<=a) (ha2 : a < 256 ^ s) (hb : 0<=b) (hb2 : b < 256) (hs : s < 8) : IntKind.u64.wrap (((BitVec.ofInt 64 a ||| BitVec.ofInt 64 (IntKind.u64.wrap (b * 256 ^ s))).toNat : Nat) : Int) = a + b * 256 ^ s := by
 obtain ⟨x,rfl⟩ := Int.eq_ofNat_of_zero_le ha
 obtain ⟨y,rfl⟩ := Int.eq_ofNat_of_zero_le hb
 have hx : x < 2 ^ (8 * s) := by
  rw [Nat.pow_mul]
  have : ((256 : Nat) : Int) ^ s = ((256 ^ s : Nat) : Int) := (Int.natCast_pow 256 s).symm
  have h2 : (x : Int) < ((256 ^ s : Nat) : Int) := by rw [← this]; exact ha2
  exact Int.ofNat_lt.1 h2
 have hy : y < 256 := by omega
 have e1 : (y : Int) * 256 ^ s = ((y * 2 ^ (8 * s) : Nat) : Int) := by rw [Nat.pow_mul,show (2 : Nat) ^ 8 = 256 from rfl,Int.natCast_mul,Int.natCast_pow]; rfl
 have hp : 2 ^ (8 * s)<=2 ^ 56 := Nat.pow_le_pow_right (by decide) (by omega)
 have hlt : y * 2 ^ (8 * s) < 2 ^ 64 := by
  have : y * 2 ^ (8 * s)<=255 * 2 ^ 56 := Nat.mul_le_mul (by omega) hp
  omega
 have hor : x ||| y * 2 ^ (8 * s) = x + y * 2 ^ (8 * s) := by
  rw [Nat.or_comm,Nat.add_comm,← Nat.shiftLeft_eq,Nat.shiftLeft_add_eq_or_of_lt hx]
 have hx64 : x < 2 ^ 64 := by omega
 have hsum : x + y * 2 ^ (8 * s) < 2 ^ 64 := by
  have : y * 2 ^ (8 * s)<=255 * 2 ^ (8 * s) := Nat.mul_le_mul_right _ (by omega)
  omega
 have hw : ∀ n : Nat,n < 2 ^ 64->IntKind.u64.wrap (n : Int) = (n : Int) := fun n hn => by
  unfold IntKind.wrap
  simp only [IntKind.bits,IntKind.signed]
  have : (n : Int) % (2 ^ 64) = n := Int.emod_eq_of_lt (by omega) (by omega)
  simpa using this
 rw [e1,hw _ hlt,show BitVec.ofInt 64 ((x : Nat) : Int) = BitVec.ofNat 64 x from BitVec.ofInt_natCast ..,show BitVec.ofInt 64 ((y * 2 ^ (8 * s) : Nat) : Int) = BitVec.ofNat 64 (y * 2 ^ (8 * s)) from BitVec.ofInt_natCast ..,BitVec.toNat_or,BitVec.toNat_ofNat,BitVec.toNat_ofNat,Nat.mod_eq_of_lt hx64,Nat.mod_eq_of_lt hlt,hor,hw _ hsum]
 omega
theorem u64wrap8 {z : Int} (h : 0<=z/\z < 256) : IntKind.u64.wrap z = z := by
 unfold IntKind.wrap
 simp only [IntKind.bits,IntKind.signed]
 have : z % (2 ^ 64) = z := Int.emod_eq_of_lt (by omega) (by omega)
 simpa using this
theorem getVC_true (x : ZGet) (hx : x.b.ok/\x.at_ + x.w<=x.b.n/\1<=x.w/\x.w<=8) : getVC x := by
 obtain ⟨⟨h1,h2,h3⟩,h4,h5,h6⟩ := hx
 unfold getVC
 simp only [AB_w19,AB_w13]
 simp only [hd_iff,and_true,true_and,Nat.zero_add,Nat.add_zero,unit_ex,unit_all,true_implies,implies_true,Int.toNat_natCast,eq_self,and_self,eff_nil,cond_one,cond_int,ones_int,row_int,ones_bool,row_bool,cond_bool,ble0,Bool.true_and,Nat.sub_zero,List.getElem?_cons_zero,Option.some.injEq,Value.bool.injEq,Value.int.injEq,exists_eq_left',exists_eq_left]
 refine cP_intro (fun h => absurd (of_decide_eq_true h) (by omega)) fun _ => cP_intro (fun h => absurd (of_decide_eq_true h) (by omega)) fun _ => ⟨by unfold I64; omega,cP_intro (fun h => absurd (of_decide_eq_true h) (by omega)) fun _ => ⟨⟨0,by omega,rfl,rfl⟩,fun s hs => cP_intro (fun h => ?_) fun h => ?_⟩⟩
 ·have hs' : s < x.w := by have := of_decide_eq_true h; omega
  refine ⟨by unfold I64; omega,⟨by omega,by omega⟩,by omega,by unfold I64; omega,by omega,by unfold I64; omega,s + 1,by omega,by omega,by omega,?_⟩
  have hb := getG_lt (g := fun k => x.b.g (x.b.q + k)) (fun k => h3 _) x.at_ s
  rw [show ((x.at_ : Int) + (s : Int)).toNat = x.at_ + s by omega,u64wrap8 (h3 _),pow_min (by omega),or64 hb.1 hb.2 (h3 _).1 (h3 _).2 (by omega)]
  rfl
 ·rw [show x.w = s by have := of_decide_eq_false h; omega]
theorem toL_eq (a b : ByteArray) : (a.toList == b.toList) = true ↔ a = b := by
 rw [beq_iff_eq]
 exact ⟨fun h => by rw [toList_data,toList_data] at h; cases a; cases b; simp at h; simp [h],fun h => by rw [h]⟩
theorem mayVC_true (b : ZBlk) (hb : b.key.size < 1099511627776/\b.value.size < 1099511627776) : mayVC b := by
 unfold mayVC
 simp only [AB_w15,AB_w10,AB_w6,AB_w7,AB_w1,AB_w20,AB_w8,AB_w17]
 simp only [hd_iff,and_true,true_and,Nat.zero_add,Nat.add_zero,unit_ex,unit_all,true_implies,implies_true,Int.toNat_natCast,eq_self,and_self,eff_nil,cond_one,cond_int,ones_int,row_int,ones_bool,row_bool,cond_bool,ble0,Bool.true_and,Nat.sub_zero,List.getElem?_cons_zero,Option.some.injEq,Value.bool.injEq,Value.int.injEq,exists_eq_left',exists_eq_left]
 have hF : ¬ b.may->b.mayB = false := fun h => by
  cases hm : b.mayB with
  | true => exact absurd (mayB_iff.1 hm) h
  | false => rfl
 have hT : b.may->b.mayB = true := mayB_iff.2
 have hB : ∀ x : Bool,(x = true ↔ b.may)->b.mayB = x := fun x h => by
  cases hx : x with
  | true => exact hT (h.1 hx)
  | false => exact hF fun hm => by rw [h.2 hm] at hx; cases hx
 have n1 : ((b.key.size : Int) + ((b.key.size : Int) + (b.value.size : Int) - (b.key.size : Int))) = ((b.key.size + b.value.size : Nat) : Int) := by omega
 have n2 : ((b.key.size : Int) + (b.value.size : Int) - (b.key.size : Int)) = (b.value.size : Int) := by omega
 have kz : b.key = ⟨#[]⟩->b.key.size = 0 := fun h => by rw [h]; rfl
 have vz : b.value = ⟨#[]⟩->b.value.size = 0 := fun h => by rw [h]; rfl
 obtain ⟨b1,b2⟩ := hb
 have ek := toL_eq b.key ⟨#[]⟩
 have ev := toL_eq b.value ⟨#[]⟩
 generalize hek : (b.key.toList == ByteArray.toList ⟨#[]⟩) = kk at ek ⊢
 generalize hev : (b.value.toList == ByteArray.toList ⟨#[]⟩) = vv at ev ⊢
 simp only [n1,n2,I64,beq_self_eq_true,Bool.true_and,Bool.and_true]
 unfold ZBlk.may ZBlk.nums ZBlk.num at hB hF hT
 clear hek hev
 generalize b.mayB = m at hB hF hT ⊢
 by_cases s0 : spn b.cls = 0
 ·rw [show (spn b.cls == 0) = true from beq_iff_eq.2 s0]
  exact hF fun h => h.1 s0
 rw [show (spn b.cls == 0) = false from beq_eq_false_iff_ne.2 s0]
 refine ⟨by omega,?_⟩
 by_cases k0 : b.kind = 0
 ·simp only [k0,beq_self_eq_true,cP_true]
  exact hB _ (by grind)
 by_cases k1 : b.kind = 1
 ·simp only [k1,cP_iff]
  simp only [k1] at hT hF
  clear hB ek ev kz vz
  grind (splits := 30)
 by_cases k2 : b.kind = 2
 ·by_cases hk : b.key = ⟨#[]⟩
  ·have k0' := kz hk
   have n3 : ((0 : Nat) : Int) + (((0 : Nat) : Int) + (b.value.size : Int)) = ((0 + b.value.size : Nat) : Int) := by omega
   have hkk := ek.2 hk
   simp only [k2,k0',hkk,hk,n3,cP_iff] at hF hT ⊢
   clear hB ek ev kz vz
   grind (splits := 30)
  ·have hkk : kk = false := by
    cases h : kk with
    | false => rfl
    | true => exact absurd (ek.1 h) hk
   simp only [k2,hkk,cP_iff] at hT hF ⊢
   clear hB ek ev kz vz
   grind
 by_cases k3 : b.kind = 3
 ·simp only [k3,cP_iff]
  simp only [k3] at hT hF
  clear hB ek ev kz vz
  grind (splits := 30)
 ·rw [show (b.kind == 0) = false from beq_eq_false_iff_ne.2 k0,show (b.kind == 1) = false from beq_eq_false_iff_ne.2 k1,show (b.kind == 2) = false from beq_eq_false_iff_ne.2 k2,show (b.kind == 3) = false from beq_eq_false_iff_ne.2 k3]
  exact hF (by grind)
theorem u64wrapN {z : Int} (h : 0<=z) (h2 : z < 18446744073709551616) : IntKind.u64.wrap z = z := by
 unfold IntKind.wrap
 simp only [IntKind.bits,IntKind.signed]
 have : z % (2 ^ 64) = z := Int.emod_eq_of_lt h (by omega)
 simpa using this
theorem head_g4 (b : ZBlk) (q : Nat) : putG (putG (putG (putG (fun q => if q = 0 then 1 else if q = 1 then b.cls else if q = 2 then b.kind else if q = 3 then (b.key.size : Int) else 0) 4 2 b.value.size) 8 8 b.id) 16 8 b.ver) 24 8 b.epoch q = b.h32 q := by
 unfold putG ZBlk.h32
 grind (splits := 30)
theorem headVC_true (x : ZHead) (hx : x.ok) : headVC x := by
 obtain ⟨⟨d1,d2,d3⟩,dn,h1,h2,h3,h4,h5,h6,h7,h8,h9,h10,h11,h12⟩ := hx
 let g0 : Nat->Int := fun q => if q = 0 then 1 else if q = 1 then x.b.cls else if q = 2 then x.b.kind else if q = 3 then (x.b.key.size : Int) else 0
 have hg0 : ∀ k,0<=g0 k/\g0 k < 256 := fun k => by simp only [g0]; grind
 let g1 := putG g0 4 2 x.b.value.size
 have hg1 : ∀ k,0<=g1 k/\g1 k < 256 := putG_u8 hg0 _ _ _
 let g2 := putG g1 8 8 x.b.id
 have hg2 : ∀ k,0<=g2 k/\g2 k < 256 := putG_u8 hg1 _ _ _
 let g3 := putG g2 16 8 x.b.ver
 have hg3 : ∀ k,0<=g3 k/\g3 k < 256 := putG_u8 hg2 _ _ _
 let g4 := putG g3 24 8 x.b.epoch
 have hg4 : ∀ k,0<=g4 k/\g4 k < 256 := putG_u8 hg3 _ _ _
 have e4 : ∀ q,g4 q = x.b.h32 q := fun q => head_g4 x.b q
 have hU1 := addM_U 0 g4 32
 have hU := addM_U (addM 0 g4 32) (fun k => x.d.g (x.d.q + k)) x.d.n
 have w1 : IntKind.u64.wrap (x.b.value.size : Int) = x.b.value.size := u64wrapN (by omega) (by omega)
 have w2 : IntKind.u64.wrap (addM (addM 0 g4 32) (fun k => x.d.g (x.d.q + k)) x.d.n) = addM (addM 0 g4 32) (fun k => x.d.g (x.d.q + k)) x.d.n := u64wrapN hU.1 (by have := hU.2; omega)
 have ub : ∀ z : Int,0<=z->z < 256->IntKind.u8.wrap z = z := fun z a b => by rw [u8wrap]; exact Int.emod_eq_of_lt a b
 have fin : ∀ q,q < 64->x.b.headG (fun k => x.d.g (x.d.q + k)) x.d.n q = if 36<=q then x.d.g (x.d.q + (q - 36)) else putG g4 32 4 (addM (addM 0 g4 32) (fun k => x.d.g (x.d.q + k)) x.d.n) q := fun q hq => by
  unfold ZBlk.headG
  have ea : addM 0 g4 32 = addM 0 x.b.h32 32 := addM_congr fun k _ => e4 k
  rw [ea]
  unfold putG
  by_cases q1 : q < 32
  ·rw [if_pos q1,if_neg (by omega),if_neg (by omega),e4]
  ·rw [if_neg q1]
   by_cases q2 : q < 36
   ·rw [if_pos q2,if_neg (by omega),if_pos (by omega)]
   ·rw [if_neg q2,if_pos (by omega)]
 unfold headVC
 simp only [AB_w25,AB_w17,AB_w20,AB_w9,AB_w18,AB_w12,AB_w22,AB_w13]
 simp only [hd_iff,and_true,true_and,Nat.zero_add,Nat.add_zero,unit_ex,unit_all,true_implies,implies_true,Int.toNat_natCast,eq_self,and_self,eff_nil,cond_one,cond_int,ones_int,row_int,ones_bool,row_bool,cond_bool,ble0,Bool.true_and,Nat.sub_zero,List.getElem?_cons_zero,Option.some.injEq,Value.bool.injEq,Value.int.injEq,exists_eq_left',exists_eq_left,w1,ub _ h3 h4,ub _ h5 h6,ub _ (show (0 : Int)<=x.b.key.size by omega) (show (x.b.key.size : Int) < 256 by omega)]
 refine ⟨by decide,by decide,by decide,by decide,by decide,by decide,by decide,by decide,by decide,
  ⟨g0,4,2,x.b.value.size⟩,⟨show 4 + 2<=64 by decide,show 1<=2 by decide,show 2<=8 by decide,show (0 : Int)<=x.b.value.size by omega,show (x.b.value.size : Int) < 256 ^ 2 by omega,hg0⟩,⟨rfl,rfl,rfl⟩,fun q _ => ?_,
  ⟨g1,8,8,x.b.id⟩,⟨show 8 + 8<=64 by decide,show 1<=8 by decide,show 8<=8 by decide,h7,h8,hg1⟩,⟨rfl,rfl,rfl⟩,fun q _ => rfl,
  ⟨g2,16,8,x.b.ver⟩,⟨show 16 + 8<=64 by decide,show 1<=8 by decide,show 8<=8 by decide,h9,h10,hg2⟩,⟨rfl,rfl,rfl⟩,fun q _ => rfl,
  ⟨g3,24,8,x.b.epoch⟩,⟨show 24 + 8<=64 by decide,show 1<=8 by decide,show 8<=8 by decide,h11,h12,hg3⟩,⟨rfl,rfl,rfl⟩,fun q _ => rfl,
  by decide,by decide,by decide,32,g4,rfl,by decide,fun k _ => rfl,hg4,⟨addM 0 g4 32,x.d⟩,⟨hU1,d1,d2,d3⟩,⟨rfl,rfl,rfl⟩,⟨rfl,fun q _ => rfl⟩,
  ⟨g4,32,4,addM (addM 0 g4 32) (fun k => x.d.g (x.d.q + k)) x.d.n⟩,⟨show 32 + 4<=64 by decide,show 1<=4 by decide,show 4<=8 by decide,hU.1,hU.2,hg4⟩,⟨rfl,rfl,w2.symm⟩,fun q _ => rfl,?_⟩
 ·simp only [Cs.eff,blt_iff_decide,ble_iff_decide,nbeq_decide,bif_decide,← Bool.decide_and,g0]
  split
  ·grind
  ·grind
 ·simp only [cP_iff]
  refine ⟨by decide,by decide,by decide,fun hb => ⟨d1,fun q hq => ?_⟩,fun hb => ⟨by omega,fun q hq => ?_⟩⟩
  ·rw [fin q hq]
   have hn : x.d.n = 28 := by have := Nat.le_of_ble_eq_true hb; omega
   simp only [Cs.eff,blt_iff_decide,ble_iff_decide,nbeq_decide,bif_decide,← Bool.decide_and,hn]
   grind
  ·rw [fin q hq]
   simp only [Cs.eff,blt_iff_decide,ble_iff_decide,nbeq_decide,bif_decide,← Bool.decide_and]
   grind
theorem may_ok : CtrOk Tryz.prog 175 mayC := det_end tt_ok mixed (.cons (ctrT_ok span_ok) (.cons (ctrT_ok need_ok) .nil)) noA 200 5 (fun _ => rfl) (fun _ => rfl) fun x hx => Eq.mp (mayVC_ok x) (mayVC_true x (hd_iff.1 hx))
theorem get_ok : CtrOk Tryz.prog 174 getC := det_end tt_ok mixed .nil anGet 200 5 (fun _ => rfl) (fun _ => rfl) fun x hx => Eq.mp (getVC_ok x) (getVC_true x (hd_iff.1 hx))
theorem bput_ok : CtrOk Tryz.prog 138 bputC := det_end tt_ok mixed (.cons (ctrT_ok put_ok) .nil) noA 200 5 (fun _ => rfl) (fun _ => rfl) fun x hx => Eq.mp (bputVC_ok x) (bputVC_true x (hd_iff.1 hx))
theorem tblB1_ok : TblOk Tryz.prog tblB1 := .cons sumBT_ok (.cons (ctrT_ok add_ok) (.cons (ctrT_ok bput_ok) .nil))
theorem head_ok : CtrOk Tryz.prog 103 headC := det_end tt_ok mixed tblB1_ok noA 200 5 (fun _ => rfl) (fun _ => rfl) fun x hx => Eq.mp (headVC_ok x) (headVC_true x (hd_iff.1 hx))
end Go.Proofs.YtpnhfbegboogbaaGreat
end
section
namespace Go.Proofs.YtpnhfbegboogbaaGreat
open Go SE
noncomputable def encC : Ctr := { X := ZBlk,args := fun b => [b.av],k := 0,os := fun _ => [],pre := fun b => Hd (b.may/\b.key.size < 1099511627776/\b.value.size < 1099511627776),outs := [
 { Y := Unit,post := fun b _ => Hd (b.cls = 0),ret := fun _ _ => .tup [.slE 0 0 1 64 64,i64 0],m := 1,os := fun b _ => [.cells 5 (rowB b.enc 64)] },
 { Y := Unit,post := fun b _ => Hd (b.cls ≠ 0),ret := fun b _ => .tup [.slW 0 0 1 (64 * b.spnN),i64 0],m := 1,os := fun b _ => [.room 5 (rowB b.enc (64 * b.spnN))] }] }
noncomputable def anEnc (x : ZBlk) : FuncId->Anns := fun f => bif Nat.beq f 132 then (fun b _ _ => bif Nat.beq b 0 then [
 { σ := Unit,fr := fun _ => [(31,i64 0),(4,.slE 1 28 1 (x.capN - 28) (x.capN - 28)),(5,.slE 2 0 1 64 64)],ob := fun _ => [],inv := fun _ => Hd True,meas := fun _ => x.spnN + 1,test := fun fr _ => (match SE.look fr 5 with | .slE .. => true | _ => false) },
 { σ := Nat,fr := fun i => [(31,i64 i),(4,.slE 1 (28 + 63 * i) 1 (x.capN - 28 - 63 * i) (x.capN - 28 - 63 * i)),(5,.slW 3 0 1 (64 * (i + 1)))],ob := fun i => [(3,some (.room 5 (rowB x.enc (64 * (i + 1)))))],inv := fun i => Hd (1<=i/\i + 1<=x.spnN),meas := fun i => x.spnN - i,nx := 1,test := fun fr _ => (match SE.look fr 5 with | .slE .. => false | _ => true) }] else []) else fun _ _ _ => []
noncomputable def draftC : Ctr := det Int (fun c => [i64 c]) 0 (fun _ => []) (fun c => Hd (0<=c/\c<=3)) (fun _ => .slE 0 0 1 64 64) 1 (fun c => [.cells 5 (rowB ((ZBlk.mk c 0 0 0 0 ⟨#[]⟩ ⟨#[]⟩).headG (fun _ => 0) (cpc c).toNat) 64)])
structure ZDat where
 b : Bys
 s : Nat
def ZDat.at_ (x : ZDat) (i : Nat) : Int := if i < 28 then x.b.g (x.b.q + (36 + i)) else x.b.g (x.b.q + (64 * ((i - 28) / 63 + 1) + 1 + (i - 28) % 63))
def ZDat.str (x : ZDat) : ByteArray := mkStr (28 + 63 * (x.s - 1)) (fun i => UInt8.ofNat (x.at_ i).toNat)
def dataC : Ctr := det ZDat (fun x => [x.b.av 0]) 1 (fun x => [x.b.ro]) (fun x => Hd (x.b.ok/\x.b.n = 64 * x.s/\1<=x.s/\x.s<=8)) (fun x => .lit (.string x.str)) 1 (fun x => [x.b.ro])
def anData (x : ZDat) : FuncId->Anns := fun f => bif Nat.beq f 131 then (fun b _ h => bif Nat.beq b 0 then [
 { σ := Unit,fr := fun _ => [(4,i64 64),(3,.slW 2 0 1 28)],ob := fun _ => [(2,some (.room 5 (rowB x.at_ 28)))],inv := fun _ => Hd True,meas := fun _ => x.s + 1,test := fun fr _ => (match SE.look fr 3 with | .slW i _ _ _ => Nat.beq i 2 | _ => false) },
 { σ := Nat,fr := fun i => [(4,i64 (64 + 64 * i : Nat)),(3,.slW 3 0 1 (28 + 63 * i))],ob := fun i => [(2,none),(3,some (.room 5 (rowB x.at_ (28 + 63 * i))))],inv := fun i => Hd (1<=i/\i + 1<=x.s),meas := fun i => x.s - i,nx := 1,test := fun fr _ => (match SE.look fr 3 with | .slW i _ _ _ => !Nat.beq i 2 | _ => false) }] else []) else fun _ _ _ => []
structure ZDec where
 b : ZBlk
 g : Nat->Int
noncomputable def decC : Ctr := det ZDec (fun x => [.slW 0 0 1 (64 * x.b.spnN)]) 1 (fun x => [.room 5 (rowB x.g (64 * x.b.spnN))]) (fun x => Hd (x.b.may/\x.b.key.size < 1099511627776/\x.b.value.size < 1099511627776/\∀ k,k < 64 * x.b.spnN->x.g k = x.b.enc k)) (fun x => .tup [x.b.av,boo true]) 1 (fun x => [.room 5 (rowB x.g (64 * x.b.spnN))])
noncomputable def tblB2 : WTbl := [(84,ctrT spanC),(104,ctrT capC),(175,ctrT mayC),(103,ctrT headC)]
noncomputable def tblB3 : WTbl := [(84,ctrT spanC),(174,ctrT getC),(131,ctrT dataC),(132,ctrT encC)]
end Go.Proofs.YtpnhfbegboogbaaGreat
end
