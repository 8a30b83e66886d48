import Derived.Test.YtenfleoejgjklaaGreatSa
import Derived.Test.YtenfleoejgjklaaGreatSb
import Derived.Test.YtenfleoejgjklaaGreatSc
import Derived.Test.YtenfleoejgjklaaGreatSd
import Derived.Test.YtenfleoejgjklaaGreatRows
import Derived.KernelRfl
set_option linter.unusedVariables false
set_option linter.unusedSimpArgs false
set_option linter.unnecessarySimpa false
section
namespace Go.Proofs.YtenfleoejgjklaaGreat
open Go SE
noncomputable def tt : TT := aoW Tryz.prog
theorem dI : tt.ok Tryz.prog := fun _ _ h => h
set_option maxRecDepth 20000
theorem mixed : Tryz.prog.follows .mixedOrders = true := by kernel_rfl
def i64 (n : Int) : AV := .lit (.int .i64 n)
end Go.Proofs.YtenfleoejgjklaaGreat
end
section
namespace Go.Proofs.YtenfleoejgjklaaGreat
open Go SE
def x32 (a b : Int) : Int := IntKind.u32.wrap ((BitVec.ofInt 32 a ^^^ BitVec.ofInt 32 b).toNat : Nat)
def apw (c : Int) : Int := bif decide (c % 2 = 0) then c / 2 else x32 (c / 2) 3988292384
def uX (c : Int) : Nat->Int
 | 0 => c
 | k + 1 => apw (uX c k)
def stepM (c x : Int) : Int := uX (x32 c x) 8
def U32 (c : Int) : Prop := 0<=c/\c < 4294967296
theorem wrap_u32 (z : Int) : U32 (IntKind.u32.wrap z) := by
 unfold IntKind.wrap U32
 simp [IntKind.bits,IntKind.signed]
 omega
theorem Ed {z : Int} (h : U32 z) : IntKind.u32.wrap z = z := by
 unfold IntKind.wrap U32 at *
 simp [IntKind.bits,IntKind.signed]
 omega
theorem afb (a b : Int) : U32 (x32 a b) := wrap_u32 _
theorem apx {c : Int} (h : U32 c) : U32 (apw c) := by
 unfold apw
 cases decide (c % 2 = 0)
 ·exact afb _ _
 ·unfold U32 at *; simp only [aO]; omega
theorem Vw {c : Int} (h : U32 c) : ∀ k,U32 (uX c k)
 | 0 => h
 | k + 1 => apx (Vw h k)
def u32 (c : Int) : AV := .lit (.int .u32 c)
def Vx : Ctr := det (Int × Int) (fun p => [u32 p.1,.lit (.int .u8 p.2)]) 0 (fun _ => []) (fun p => U32 p.1/\0<=p.2/\p.2 < 256) (fun p => u32 (stepM p.1 p.2)) 0 (fun _ => [])
def alE (p : Int × Int) : FuncId->uU := fun f =>
 bif Nat.beq f 216 then (fun b fr h => bif Nat.beq b 0 then [{ σ := Nat,fr := fun k => [(5,i64 k),(0,u32 (uX (x32 p.1 p.2) k))],ob := fun _ => [],inv := fun k => k<=8,meas := fun k => 8 - k }] else []) else
 fun _ _ _ => []
end Go.Proofs.YtenfleoejgjklaaGreat
end
section
namespace Go.Proofs.YtenfleoejgjklaaGreat
open Go SE
def afc (p : Int × Int) : Prop :=
 (∃ s : Nat,s<=8/\True/\((s : Int) = 0/\uX (x32 p.1 p.2) s = IntKind.wrap .u32 ((@BitVec.toNat 32 (@HXor.hXor (@BitVec 32) (@BitVec 32) (@BitVec 32) (@instHXorOfXorOp (@BitVec 32) (@BitVec.instXorOp 32)) (@BitVec.ofInt 32 p.1) (@BitVec.ofInt 32 (IntKind.wrap .u32 p.2))) : Nat) : Int)/\True)/\True)/\(∀ s : Nat,s<=8->cP (decide ((s : Int) < 8)) (I64 ((s : Int) + 1)/\((2 : Int) = 0->False)/\cP (BEq.beq (Int.tmod (uX (x32 p.1 p.2) s) (2 : Int)) (0 : Int)) (((2 : Int) = 0->False)/\∃ s_1 : Nat,s_1<=8/\8 - s_1 < 8 - s/\((s_1 : Int) = (s : Int) + 1/\uX (x32 p.1 p.2) s_1 = IntKind.wrap .u32 (Int.tdiv (uX (x32 p.1 p.2) s) (2 : Int))/\True)/\True) (((2 : Int) = 0->False)/\∃ s_1 : Nat,s_1<=8/\8 - s_1 < 8 - s/\((s_1 : Int) = (s : Int) + 1/\uX (x32 p.1 p.2) s_1 = IntKind.wrap .u32 ((@BitVec.toNat 32 (@HXor.hXor (@BitVec 32) (@BitVec 32) (@BitVec 32) (@instHXorOfXorOp (@BitVec 32) (@BitVec.instXorOp 32)) (@BitVec.ofInt 32 (IntKind.wrap .u32 (Int.tdiv (uX (x32 p.1 p.2) s) (2 : Int)))) (@BitVec.ofInt 32 (3988292384 : Int))) : Nat) : Int)/\True)/\True)) (∃ y : Unit,True/\stepM p.1 p.2 = uX (x32 p.1 p.2) s/\True))/\True
theorem afd (p : Int × Int) : afc p = wpF Tryz.prog [] tt (alE p) 200 5 216 (Vx.args p) (hO Vx.k (Vx.os p)) (fun v h' => eU Vx.k p v h' Vx.outs) := by kernel_rfl
end Go.Proofs.YtenfleoejgjklaaGreat
end
section
namespace Go.Proofs.YtenfleoejgjklaaGreat
open Go SE
theorem half {c : Int} (h : U32 c) : Int.tmod c 2 = c % 2/\IntKind.u32.wrap (Int.tdiv c 2) = c / 2 := by
 have e : Int.tdiv c 2 = c / 2 := Int.tdiv_eq_ediv_of_nonneg h.1
 refine ⟨Int.tmod_eq_emod_of_nonneg h.1,?_⟩
 rw [e]; exact Ed (by unfold U32 at *; omega)
theorem Vy (p : Int × Int) (hp : U32 p.1/\0<=p.2/\p.2 < 256) : afc p := by
 unfold afc
 have hw : IntKind.u32.wrap p.2 = p.2 := Ed (by unfold U32; omega)
 have hx : ∀ a b,IntKind.u32.wrap ((BitVec.ofInt 32 a ^^^ BitVec.ofInt 32 b).toNat : Nat) = x32 a b := fun _ _ => rfl
 simp only [aU,aT,hw,hx]
 refine ⟨⟨0,by omega,rfl,rfl⟩,fun s hs => bH (fun hb => ?_) (fun hb => ?_)⟩
 ·have hb := aQ hb
  obtain ⟨h1,h2⟩ := half (Vw (afb p.1 p.2) s)
  rw [h1,h2]
  refine ⟨by unfold I64; omega,by omega,bH (fun hc => ?_) (fun hc => ?_)⟩
  ·have hc : uX (x32 p.1 p.2) s % 2 = 0 := by simpa using hc
   exact ⟨by omega,s + 1,by omega,by omega,rfl,by simp [uX,apw,hc]⟩
  ·have hc : uX (x32 p.1 p.2) s % 2 ≠ 0 := by simpa using hc
   exact ⟨by omega,s + 1,by omega,by omega,rfl,by simp only [uX,apw,hc,decide_false,aP]⟩
 ·have : s = 8 := by have := aS hb; omega
  subst this
  exact ⟨(),rfl⟩
theorem step_ok : bV Tryz.prog 216 Vx := dX dI mixed eY.nil alE 200 5 (fun _ => rfl) (fun _ => rfl) fun x hx => Eq.mp (afd x) (Vy x hx)
end Go.Proofs.YtenfleoejgjklaaGreat
end
section
namespace Go.Proofs.YtenfleoejgjklaaGreat
open Go SE
theorem bK (g : Nat->List Value) (q : Nat) : Cs.eff g [] q = g q := rfl
theorem dY (q : Nat) : Nat.ble 0 q = true := by simp
theorem bW (a b : Nat) : Nat.blt a b = decide (a < b) := by
 by_cases h : a < b
 ·rw [bQ.2 h]; simp [h]
 ·have : Nat.blt a b = false := by
   cases hb : Nat.blt a b with
   | false => rfl
   | true => exact absurd (bQ.1 hb) h
  rw [this]; simp [h]
theorem dK (a b : Nat) : Nat.ble a b = decide (a<=b) := by
 by_cases h : a<=b
 ·rw [show Nat.ble a b = true by simpa using h]; simp [h]
 ·have : Nat.ble a b = false := by
   cases hb : Nat.ble a b with
   | false => rfl
   | true => exact absurd (by simpa using hb) h
  rw [this]; simp [h]
theorem eu {α : Type} {p : Prop} [Decidable p] {x y : α} : (bif decide p then x else y) = if p then x else y := by by_cases h : p <;> simp [h]
theorem dH (a b : Nat) : Nat.beq a b = decide (a = b) := by
 by_cases h : a = b
 ·subst h; simp
 ·rw [iT h]; simp [h]
theorem bC {b : Bool} {x y : Value} : (bif b then [x] else [y]) = [bif b then x else y] := by cases b <;> rfl
theorem bD {b : Bool} {k : IntKind} {x y : Int} : (bif b then Value.int k x else Value.int k y) = .int k (bif b then x else y) := by cases b <;> rfl
theorem aZ {b : Bool} {x y : Bool} : (bif b then Value.bool x else Value.bool y) = .bool (bif b then x else y) := by cases b <;> rfl
theorem bF {k : IntKind} {x : Int} : ([Value.int k x].length.beq 1 && [Value.int k x].all Value.oneCell') = true := rfl
theorem bf {x : Bool} : ([Value.bool x].length.beq 1 && [Value.bool x].all Value.oneCell') = true := rfl
theorem bM {k : IntKind} {x y : Int} : ([Value.int k x] = [Value.int k y]) = (x = y) := by simp
theorem bG {x y : Bool} : ([Value.bool x] = [Value.bool y]) = (x = y) := by simp
def u8 (n : Int) : AV := .lit (.int .u8 n)
def u64 (n : Int) : AV := .lit (.int .u64 n)
def rowB (g : Nat->Int) (n : Nat) : Cs := .row 1 n (fun k => [.int .u8 (g k)]) []
structure Bys where
 g : Nat->Int
 q : Nat
 n : Nat
 N : Nat
namespace Bys
def ok (b : Bys) : Prop := b.q + b.n<=b.N/\b.n < 1099511627776/\∀ k,0<=b.g k/\b.g k < 256
def ro (b : Bys) : dF := .ro (rowB b.g b.N)
def av (b : Bys) (i : Nat) : AV := .slR i b.q 1 b.n
end Bys
def BA (c : Int) (g : Nat->Int) : Nat->Int
 | 0 => c
 | i + 1 => stepM (BA c g i) (g i)
noncomputable def ny (c : Int) (g : Nat->Int) (n : Nat) : Int := hide (x32 (BA (x32 c 4294967295) g n) 4294967295)
theorem am2 {c : Int} (h : U32 c) (g : Nat->Int) : ∀ n,U32 (BA c g n)
 | 0 => h
 | n + 1 => Vw (afb _ _) 8
theorem YT (c : Int) (g : Nat->Int) (n : Nat) : U32 (ny c g n) := by unfold ny; rw [pO]; exact afb _ _
structure am3 where
 c : Int
 b : Bys
noncomputable def alF : Ctr := det am3 (fun x => [u32 x.c,x.b.av 0]) 1 (fun x => [x.b.ro]) (fun x => Hd (U32 x.c/\x.b.ok)) (fun x => u32 (ny x.c (fun k => x.b.g (x.b.q + k)) x.b.n)) 1 (fun x => [x.b.ro])
def apy (x : am3) : FuncId->uU := fun f =>
 bif Nat.beq f 170 then (fun b fr h => bif Nat.beq b 0 then [{ σ := Nat,fr := fun k => [(11,i64 k),(0,u32 (BA (x32 x.c 4294967295) (fun k => x.b.g (x.b.q + k)) k))],ob := fun _ => [],inv := fun k => k<=x.b.n,meas := fun k => x.b.n - k }] else []) else
 fun _ _ _ => []
def oL (g : Nat->Int) (at_ w : Nat) (v : Int) (k : Nat) : Int := if at_<=k/\k < at_ + w then v / 256 ^ (k - at_) % 256 else g k
structure tX where
 b : Bys
 at_ : Nat
 w : Nat
 v : Int
 c : Nat
def tX.ok (x : tX) : Prop := x.b.ok/\x.at_ + x.w<=x.b.n/\1<=x.w/\x.w<=8/\0<=x.v/\x.v < 256 ^ x.w
def tX.res (x : tX) : Nat->Int := oL (fun k => x.b.g (x.b.q + k)) x.at_ x.w x.v
noncomputable def alG : Ctr := det tX (fun x => [.slE 0 x.b.q 1 x.b.n x.c,i64 x.at_,i64 x.w,u64 x.v]) 1 (fun x => [x.b.ro]) (fun x => Hd x.ok) (fun x => .tup [.slW 1 0 1 x.b.n,i64 0]) 2 (fun x => [x.b.ro,.room 5 (rowB x.res x.b.n)])
def apz (x : tX) : FuncId->uU := fun f =>
 bif Nat.beq f 215 then (fun b fr h => bif Nat.beq b 0 then [{ σ := Nat,fr := fun k => [(32,i64 k)],ob := fun k => [(1,none),(2,some (.room 5 (rowB (oL (fun k => x.b.g (x.b.q + k)) x.at_ k x.v) x.b.n)))],inv := fun k => k<=x.w,meas := fun k => x.w - k,nx := 0 }] else []) else
 fun _ _ _ => []
end Go.Proofs.YtenfleoejgjklaaGreat
end
section
namespace Go.Proofs.YtenfleoejgjklaaGreat
open Go SE
def xJ (a : Bys) : Prop := rowB a.g a.N = rowB a.g a.N/\true = true
def am4 (a : tX) : Prop := a.b.q + a.b.n<=a.b.N/\cP (Nat.beq a.b.n 0) ((∃ s : Nat,s<=a.w/\True/\((s : Int) = 0/\True)/\xJ a.b/\True)/\(∀ s : Nat,s<=a.w->cP (decide ((s : Int) < (a.w : Int))) (I64 ((a.at_ : Int) + (s : Int))/\I64 (8 * (s : Int))/\0<=8 * (s : Int)/\(0<=(a.at_ : Int) + (s : Int)/\(a.at_ : Int) + (s : Int) < 0)/\False) (∃ y : Unit,True/\((a.b.n = 0/\0 = 0/\0 = 0)/\(0 : Int) = 0/\True)/\xJ a.b/\False/\True))/\True) ((2 * (0 + a.b.n) + 1000) * 1<=281474976710656/\(∃ s : Nat,s<=a.w/\True/\((s : Int) = 0/\True)/\(a.b.n = 0 + a.b.n/\∀ q : Nat,q < a.b.n->[Value.int .u8 (oL (fun (k : Nat) => a.b.g (a.b.q + k)) a.at_ s a.v q)] = [Value.int .u8 (a.b.g (a.b.q + (q - 0)))])/\xJ a.b/\True)/\(∀ s : Nat,s<=a.w->cP (decide ((s : Int) < (a.w : Int))) (I64 ((a.at_ : Int) + (s : Int))/\I64 (8 * (s : Int))/\0<=8 * (s : Int)/\(0<=(a.at_ : Int) + (s : Int)/\(a.at_ : Int) + (s : Int) < ((0 + a.b.n : Nat) : Int))/\0 + Int.toNat ((a.at_ : Int) + (s : Int)) < a.b.n/\I64 ((s : Int) + 1)/\∃ s_1 : Nat,s_1<=a.w/\a.w - s_1 < a.w - s/\((s_1 : Int) = (s : Int) + 1/\True)/\(a.b.n = a.b.n/\∀ q : Nat,q < a.b.n->[Value.int .u8 (oL (fun (k : Nat) => a.b.g (a.b.q + k)) a.at_ s_1 a.v q)] = Cs.eff (fun (k : Nat) => [Value.int .u8 (oL (fun (k_1 : Nat) => a.b.g (a.b.q + k_1)) a.at_ s a.v k)]) [(0 + Int.toNat ((a.at_ : Int) + (s : Int)),[Value.int .u8 (IntKind.wrap .u8 (Int.fdiv a.v (@HPow.hPow Int Nat Int (@instHPow Int Nat (@instPowNat Int @Int.instNatPow)) (2 : Int) (@Min.min Nat @instMinNat (Int.toNat (8 * (s : Int))) 64))))])] q)/\xJ a.b/\True) (∃ y : Unit,True/\((0 = 0/\a.b.n = 0 + a.b.n)/\(0 : Int) = 0/\True)/\xJ a.b/\(a.b.n = a.b.n/\
 ∀ q : Nat,q < a.b.n->[Value.int .u8 (a.res q)] = [Value.int .u8 (oL (fun (k : Nat) => a.b.g (a.b.q + k)) a.at_ s a.v q)])/\True))/\True)
def am5 (x : am3) : Prop :=
 (∃ s : Nat,s<=x.b.n/\True/\((s : Int) = 0/\BA (x32 x.c (4294967295 : Int)) (fun (k : Nat) => x.b.g (x.b.q + k)) s = IntKind.wrap .u32 ((@BitVec.toNat 32 (@HXor.hXor (@BitVec 32) (@BitVec 32) (@BitVec 32) (@instHXorOfXorOp (@BitVec 32) (@BitVec.instXorOp 32)) (@BitVec.ofInt 32 x.c) (@BitVec.ofInt 32 (4294967295 : Int))) : Nat) : Int)/\True)/\xJ x.b/\True)/\(∀ s : Nat,s<=x.b.n->cP (decide ((s : Int) < (x.b.n : Int))) ((0<=(s : Int)/\(s : Int) < (x.b.n : Int))/\x.b.q + s < x.b.N/\∃ x_1 : Prod Int Int,((0<=x_1.1/\x_1.1 < 4294967296)/\0<=x_1.2/\x_1.2 < 256)/\(x_1.1 = BA (x32 x.c (4294967295 : Int)) (fun (k : Nat) => x.b.g (x.b.q + k)) s/\x_1.2 = x.b.g (x.b.q + s)/\True)/\True/\∀ y : Unit,True->I64 ((s : Int) + 1)/\∃ s_1 : Nat,s_1<=x.b.n/\x.b.n - s_1 < x.b.n - s/\((s_1 : Int) = (s : Int) + 1/\BA (x32 x.c (4294967295 : Int)) (fun (k : Nat) => x.b.g (x.b.q + k)) s_1 = stepM x_1.1 x_1.2/\True)/\xJ x.b/\True) (∃ y : Unit,True/\ny x.c (fun (k : Nat) => x.b.g (x.b.q + k)) x.b.n = IntKind.wrap .u32 ((@BitVec.toNat 32 (@HXor.hXor (@BitVec 32) (@BitVec 32) (@BitVec 32) (@instHXorOfXorOp (@BitVec 32) (@BitVec.instXorOp 32)) (@BitVec.ofInt 32 (BA (x32 x.c (4294967295 : Int)) (fun (k : Nat) => x.b.g (x.b.q + k)) s)) (@BitVec.ofInt 32 (4294967295 : Int))) : Nat) : Int)/\xJ x.b/\True))/\True
theorem ajT (x : am3) : am5 x = wpF Tryz.prog [(216,ctrT Vx)] tt (apy x) 200 5 170 (alF.args x) (hO alF.k (alF.os x)) (fun v h' => eU alF.k x v h' alF.outs) := by kernel_rfl
def am6 (x : tX) : Prop :=
 cP (decide ((x.w : Int) < 1)) (∃ y : Unit,True/\(False/\(0 : Int) = 1/\True)/\xJ x.b/\False/\True) (cP (decide ((x.w : Int) > (8 : Int))) (∃ y : Unit,True/\(False/\(0 : Int) = 1/\True)/\xJ x.b/\False/\True) (I64 ((x.b.n : Int) - (x.w : Int))/\cP (decide ((x.at_ : Int) > (x.b.n : Int) - (x.w : Int))) (∃ y : Unit,True/\(False/\(0 : Int) = 2/\True)/\xJ x.b/\False/\True) (cP (decide ((x.w : Int) < 8)) (I64 (8 * (x.w : Int))/\0<=8 * (x.w : Int)/\cP (bne (Int.fdiv x.v (@HPow.hPow Int Nat Int (@instHPow Int Nat (@instPowNat Int @Int.instNatPow)) (2 : Int) (@Min.min Nat @instMinNat (Int.toNat (8 * (x.w : Int))) 64))) (0 : Int)) (∃ y : Unit,True/\(False/\(0 : Int) = 11/\True)/\xJ x.b/\False/\True) (am4 x)) (am4 x))))
theorem ajU (x : tX) : am6 x = wpF Tryz.prog [] tt (apz x) 200 5 215 (alG.args x) (hO alG.k (alG.os x)) (fun v h' => eU alG.k x v h' alG.outs) := by kernel_rfl
end Go.Proofs.YtenfleoejgjklaaGreat
end
section
namespace Go.Proofs.YtenfleoejgjklaaGreat
open Go SE
theorem abV (x : am3) (hx : U32 x.c/\x.b.ok) : am5 x := by
 obtain ⟨hc,h1,h2,h3⟩ := hx
 unfold am5
 simp only [xJ]
 have hw : ∀ a b,IntKind.u32.wrap ((BitVec.ofInt 32 a ^^^ BitVec.ofInt 32 b).toNat : Nat) = x32 a b := fun _ _ => rfl
 simp only [aY,aU,aT,ay,aH,bJ,bg,aN,aJ,au,aW,aV,hw]
 refine ⟨⟨0,by omega,rfl,rfl⟩,fun s hs => bH (fun hb => ?_) (fun hb => ?_)⟩
 ·have hb := aQ hb
  refine ⟨⟨by omega,by omega⟩,by omega,(BA (x32 x.c 4294967295) (fun k => x.b.g (x.b.q + k)) s,x.b.g (x.b.q + s)),⟨am2 (afb _ _) _ s,h3 _⟩,⟨rfl,rfl⟩,by unfold I64; omega,s + 1,by omega,by omega,by omega,rfl⟩
 ·have : s = x.b.n := by have := aS hb; omega
  subst this
  unfold ny; rw [pO]
theorem Ee {c : Int} {g g' : Nat->Int} : ∀ {n : Nat},(∀ k,k < n->g k = g' k)->BA c g n = BA c g' n
 | 0,_ => rfl
 | n + 1,h => by simp only [BA]; rw [Ee (n := n) fun k hk => h k (by omega),h n (by omega)]
theorem y7 {c : Int} {g g' : Nat->Int} {n : Nat} (h : ∀ k,k < n->g k = g' k) : ny c g n = ny c g' n := by unfold ny; rw [pO,pO,Ee h]
theorem alH : bV Tryz.prog 170 alF := dX dI mixed (.cons (bT step_ok) .nil) apy 200 5 (fun _ => rfl) (fun _ => rfl) fun x hx => Eq.mp (ajT x) (abV x (aY.1 hx))
theorem Vz {s : Nat} (h : s<=8) : (2 : Int) ^ (min (((8 : Int) * (s : Nat)).toNat) 64) = 256 ^ s := by
 have e : ((8 : Int) * (s : Nat)).toNat = 8 * s := by omega
 rw [e,Nat.min_eq_left (by omega)]
 rw [show (256 : Int) = 2 ^ 8 by rfl,← Int.pow_mul]
theorem alI (z : Int) : IntKind.u8.wrap z = z % 256 := by
 unfold IntKind.wrap
 simp [IntKind.bits,IntKind.signed]
theorem afe (g : Nat->Int) (a s : Nat) (v : Int) (q : Nat) : oL g a (s + 1) v q = if q = a + s then v / 256 ^ s % 256 else oL g a s v q := by
 unfold oL
 by_cases h : q = a + s
 ·subst h; simp
 ·rw [if_neg h]
  by_cases h2 : a<=q/\q < a + s
  ·rw [if_pos h2,if_pos (by omega)]
  ·rw [if_neg h2,if_neg (by omega)]
theorem abW (x : tX) (hx : x.ok) : am6 x := by
 obtain ⟨⟨h1,h2,h3⟩,h4,h5,h6,h7,h8⟩ := hx
 have z0 : ∀ (g : Nat->Int) a v q,oL g a 0 v q = g q := fun g a v q => by unfold oL; rw [if_neg (by omega)]
 have key : ∀ s : Nat,s < x.w->∀ q,[Value.int .u8 (oL (fun k => x.b.g (x.b.q + k)) x.at_ (s + 1) x.v q)] = Cs.eff (fun k => [Value.int .u8 (oL (fun k => x.b.g (x.b.q + k)) x.at_ s x.v k)]) [((((x.at_ : Int) + (s : Int)).toNat),[Value.int .u8 (IntKind.u8.wrap (Int.fdiv x.v (2 ^ (min ((8 * (s : Int)).toNat) 64))))])] q := fun s hs q => by
  rw [Vz (by omega),alI,show ((x.at_ : Int) + (s : Int)).toNat = x.at_ + s by omega,afe]
  simp only [Cs.eff]
  by_cases h : q = x.at_ + s
  ·subst h
   have : Int.fdiv x.v (256 ^ s) = x.v / 256 ^ s := Int.fdiv_eq_ediv_of_nonneg _ (Int.le_of_lt (Int.pow_pos (by omega)))
   simp [this]
  ·simp [h,iT h]
 unfold am6
 simp only [xJ,am4]
 have hn : x.b.n ≠ 0 := by omega
 simp only [aY,aU,aT,ay,aH,bJ,bg,aN,aJ,au,aW,aV,z0]
 have i64 : ∀ z : Int,-9223372036854775808<=z->z<=9223372036854775807->I64 z := fun z a b => ⟨a,b⟩
 refine bH (fun h => absurd (aQ h) (by omega)) fun _ => bH (fun h => absurd (aQ h) (by omega)) fun _ => ⟨i64 _ (by omega) (by omega),bH (fun h => absurd (aQ h) (by omega)) fun _ =>
  bH (fun hb => ⟨i64 _ (by omega) (by omega),by omega,bH (fun h => ?_) (fun _ => ?_)⟩) (fun _ => ?_)⟩
 ·rw [Vz h6,show Int.fdiv x.v (256 ^ x.w) = 0 by rw [Int.fdiv_eq_ediv_of_nonneg _ (Int.le_of_lt (Int.pow_pos (by omega)))]; exact Int.ediv_eq_zero_of_lt h7 h8] at h
  cases h
 all_goals
  refine ⟨h1,bH (fun h => absurd (ak h) hn) fun _ => ⟨by omega,⟨0,by omega,rfl,fun q _ => by rw [z0]; rfl⟩,fun s hs => bH (fun h => ?_) (fun h => ?_)⟩⟩
  ·have h := aQ h
   exact ⟨i64 _ (by omega) (by omega),i64 _ (by omega) (by omega),by omega,⟨by omega,by omega⟩,by omega,i64 _ (by omega) (by omega),s + 1,by omega,by omega,by omega,fun q _ => key s (by omega) q⟩
  ·have : s = x.w := by have := aS h; omega
   subst this
   exact fun q _ => rfl
theorem alJ : bV Tryz.prog 215 alG := dX dI mixed eY.nil apz 200 5 (fun _ => rfl) (fun _ => rfl) fun x hx => Eq.mp (ajU x) (abW x (aY.1 hx))
end Go.Proofs.YtenfleoejgjklaaGreat
end
section
namespace Go.Proofs.YtenfleoejgjklaaGreat
open Go SE
noncomputable def abX : Ctr := det Bys (fun b => [b.av 0]) 1 (fun b => [b.ro]) (fun b => Hd b.ok) (fun b => u32 (ny 0 (fun k => b.g (b.q + k)) b.n)) 1 (fun b => [b.ro])
noncomputable def ajV : WTr := fun args h K => match args with
 | [x] => abS h x 1 fun e => ∃ (n : Nat) (g : Nat->Int),e.len = n/\n < 1099511627776/\(∀ k,k < n->e.el k = [.int .u8 (g k)])/\(∀ k,0<=g k/\g k < 256)/\K (u32 (ny 0 g n)) h
 | _ => False
def isE : List AV->Bool
 | .slE .. :: _ => true
 | _ => false
def abY (v : Int) (k : Nat) : Int := if k = 0 then 3 else v / 256 ^ (k - 1) % 256
noncomputable def kV (v : Int) (k : Nat) : Int := if k < 9 then abY v k else if k < 13 then ny 0 (abY v) 9 / 256 ^ (k - 9) % 256 else 0
noncomputable def Ef : Ctr := det Int (fun v => [u64 v]) 0 (fun _ => []) (fun v => Hd (0<=v/\v < 18446744073709551616)) (fun _ => .slE 0 0 1 64 64) 1 (fun v => [.cells 312 (rowB (kV v) 64)])
noncomputable def tblK : WTbl := [(171,ajV),(215,orT isE (ctrT alG) (fun args h K => wpF Tryz.prog [] tt (fun _ _ _ _ => []) 200 5 215 args h K))]
end Go.Proofs.YtenfleoejgjklaaGreat
end
section
namespace Go.Proofs.YtenfleoejgjklaaGreat
open Go SE
def am7 (a : tX) (b : Nat) : Prop := (Nat.beq (List.length [Value.int .u8 (a.res (0 + b))]) 1 && List.all [Value.int .u8 (a.res (0 + b))] Value.oneCell') = true
def ajW (a : tX) : Prop := ∀ k : Nat,k < a.b.n->am7 a k
def ajX (a : tX) : Prop := ∀ k : Nat,k < 64->am7 a k
def GX : Prop := 0<=64/\64<=64/\64<=64
def am8 (a : tX) (b : ∀ a : Nat,Int) (c : Nat) : Prop := (a.b.q = 0/\a.b.n = 64/\a.c = 64)/\(a.at_ : Int) = 9/\(a.w : Int) = 4/\a.v = IntKind.wrap .u64 (ny (0 : Int) b c)/\True
def aff : Prop := 0 = 0/\64 = 64/\64 = 64
def afg (b : Bys) : Prop :=
 ∃ x : am3,Hd (U32 x.c/\x.b.ok)/\(x.c = 0/\(x.b.q = b.q/\x.b.n = b.n)/\True)/\((x.b.N = b.N/\∀ q : Nat,q < x.b.N->[Value.int .u8 (x.b.g q)] = [Value.int .u8 (b.g q)])/\True)/\∀ y : Unit,True->∃ y_1 : Unit,True/\ny (0 : Int) (fun (k : Nat) => b.g (b.q + k)) b.n = ny x.c (fun (k : Nat) => x.b.g (x.b.q + k)) x.b.n/\(rowB b.g b.N = rowB b.g b.N/\true = true)/\True
theorem afh (b : Bys) : afg b = wpF Tryz.prog [(170,ctrT alF)] tt (fun _ _ _ _ => []) 200 5 171 (abX.args b) (hO abX.k (abX.os b)) (fun v h' => eU abX.k b v h' abX.outs) := by kernel_rfl
def VA (x : Int) : Prop :=
 ∃ x_1 : tX,Hd x_1.ok/\((x_1.b.q = 0/\x_1.b.n = 9/\x_1.c = 9)/\(x_1.at_ : Int) = 1/\(x_1.w : Int) = 8/\x_1.v = x/\True)/\((x_1.b.N = 9/\∀ q : Nat,q < x_1.b.N->[Value.int .u8 (x_1.b.g q)] = [List.getD [Value.int .u8 3,Value.int .u8 0,Value.int .u8 0,Value.int .u8 0,Value.int .u8 0,Value.int .u8 0,Value.int .u8 0,Value.int .u8 0,Value.int .u8 0] q (@Inhabited.default Value @instInhabitedValue)])/\True)/\∀ y : Unit,True->GX/\64<=64/\cP (Nat.ble x_1.b.n 64) (0 + x_1.b.n<=x_1.b.n/\ajW x_1/\GX/\0 + x_1.b.n<=x_1.b.n/\∃ n : Nat,∃ g : ∀ a : Nat,Int,x_1.b.n = n/\n < 1099511627776/\(∀ k : Nat,k < n->[Value.int .u8 (x_1.res (0 + k))] = [Value.int .u8 (g k)])/\(∀ k : Nat,0<=g k/\g k < 256)/\True/\∃ x_2 : tX,Hd x_2.ok/\am8 x_2 g n/\((x_2.b.N = 64/\∀ q : Nat,q < x_2.b.N->[Value.int .u8 (x_2.b.g q)] = Cs.eff (fun (p : Nat) => cond (Nat.ble 0 p && Nat.blt p (0 + x_1.b.n)) [Value.int .u8 (x_1.res (0 + (p - 0)))] [Value.int .u8 0]) [] q)/\True)/\∀ y_1 : Unit,True->True/\GX/\64<=64/\cP (Nat.ble x_2.b.n 64) (0 + x_2.b.n<=x_2.b.n/\ajW x_2/\(∀ k : Nat,k < 64->(Nat.beq (List.length (Cs.eff (fun (p : Nat) => cond (Nat.ble 0 p && Nat.blt p (0 + x_2.b.n)) [Value.int .u8 (x_2.res (0 + (p - 0)))] (Cs.eff (fun (p_1 : Nat) => cond (Nat.ble 0 p_1 && Nat.blt p_1 (0 + x_1.b.n)) [Value.int .u8 (x_1.res (0 + (p_1 - 0)))] [Value.int .u8 0]) [] p)) [] k)) 1 && List.all (Cs.eff (fun (p : Nat) => cond (Nat.ble 0 p && Nat.blt p (0 + x_2.b.n)) [Value.int .u8 (x_2.res (0 + (p - 0)))] (Cs.eff (fun (p_1 : Nat) => cond (Nat.ble 0 p_1 && Nat.blt p_1 (0 + x_1.b.n)) [Value.int .u8 (x_1.res (0 + (p_1 - 0)))] [Value.int .u8 0]) [] p)) [] k) Value.oneCell') = true)/\
 (∀ k : Nat,k < 64->(Nat.beq (List.length (Cs.eff (Cs.eff (fun (p : Nat) => cond (Nat.ble 0 p && Nat.blt p (0 + x_2.b.n)) [Value.int .u8 (x_2.res (0 + (p - 0)))] (Cs.eff (fun (p_1 : Nat) => cond (Nat.ble 0 p_1 && Nat.blt p_1 (0 + x_1.b.n)) [Value.int .u8 (x_1.res (0 + (p_1 - 0)))] [Value.int .u8 0]) [] p)) []) [] k)) 1 && List.all (Cs.eff (Cs.eff (fun (p : Nat) => cond (Nat.ble 0 p && Nat.blt p (0 + x_2.b.n)) [Value.int .u8 (x_2.res (0 + (p - 0)))] (Cs.eff (fun (p_1 : Nat) => cond (Nat.ble 0 p_1 && Nat.blt p_1 (0 + x_1.b.n)) [Value.int .u8 (x_1.res (0 + (p_1 - 0)))] [Value.int .u8 0]) [] p)) []) [] k) Value.oneCell') = true)/\(∀ k : Nat,k < 64->(Nat.beq (List.length (Cs.eff (Cs.eff (Cs.eff (fun (p : Nat) => cond (Nat.ble 0 p && Nat.blt p (0 + x_2.b.n)) [Value.int .u8 (x_2.res (0 + (p - 0)))] (Cs.eff (fun (p_1 : Nat) => cond (Nat.ble 0 p_1 && Nat.blt p_1 (0 + x_1.b.n)) [Value.int .u8 (x_1.res (0 + (p_1 - 0)))] [Value.int .u8 0]) [] p)) []) []) [] k)) 1 && List.all (Cs.eff (Cs.eff (Cs.eff (fun (p : Nat) => cond (Nat.ble 0 p && Nat.blt p (0 + x_2.b.n)) [Value.int .u8 (x_2.res (0 + (p - 0)))] (Cs.eff (fun (p_1 : Nat) => cond (Nat.ble 0 p_1 && Nat.blt p_1 (0 + x_1.b.n)) [Value.int .u8 (x_1.res (0 + (p_1 - 0)))] [Value.int .u8 0]) [] p)) []) []) [] k) Value.oneCell') = true)/\GX/\∃ y_2 : Unit,True/\aff/\(64 = 64/\∀ q : Nat,q < 64->[Value.int .u8 (kV x q)] = Cs.eff (Cs.eff (Cs.eff (Cs.eff (fun (p : Nat) => cond (Nat.ble 0 p && Nat.blt p (0 + x_2.b.n)) [Value.int .u8 (x_2.res (0 + (p - 0)))] (Cs.eff (fun (p_1 : Nat) => cond (Nat.ble 0 p_1 && Nat.blt p_1 (0 + x_1.b.n)) [Value.int .u8 (x_1.res (0 + (p_1 - 0)))] [Value.int .u8 0]) [] p)) []) []) []) [] q)/\True) (64<=x_2.b.n/\ajX x_2/\
 (∀ k : Nat,k < 64->(Nat.beq (List.length (Cs.eff (fun (p : Nat) => cond (Nat.ble 0 p && Nat.blt p 64) [Value.int .u8 (x_2.res (0 + (p - 0)))] (Cs.eff (fun (p_1 : Nat) => cond (Nat.ble 0 p_1 && Nat.blt p_1 (0 + x_1.b.n)) [Value.int .u8 (x_1.res (0 + (p_1 - 0)))] [Value.int .u8 0]) [] p)) [] k)) 1 && List.all (Cs.eff (fun (p : Nat) => cond (Nat.ble 0 p && Nat.blt p 64) [Value.int .u8 (x_2.res (0 + (p - 0)))] (Cs.eff (fun (p_1 : Nat) => cond (Nat.ble 0 p_1 && Nat.blt p_1 (0 + x_1.b.n)) [Value.int .u8 (x_1.res (0 + (p_1 - 0)))] [Value.int .u8 0]) [] p)) [] k) Value.oneCell') = true)/\(∀ k : Nat,k < 64->(Nat.beq (List.length (Cs.eff (Cs.eff (fun (p : Nat) => cond (Nat.ble 0 p && Nat.blt p 64) [Value.int .u8 (x_2.res (0 + (p - 0)))] (Cs.eff (fun (p_1 : Nat) => cond (Nat.ble 0 p_1 && Nat.blt p_1 (0 + x_1.b.n)) [Value.int .u8 (x_1.res (0 + (p_1 - 0)))] [Value.int .u8 0]) [] p)) []) [] k)) 1 && List.all (Cs.eff (Cs.eff (fun (p : Nat) => cond (Nat.ble 0 p && Nat.blt p 64) [Value.int .u8 (x_2.res (0 + (p - 0)))] (Cs.eff (fun (p_1 : Nat) => cond (Nat.ble 0 p_1 && Nat.blt p_1 (0 + x_1.b.n)) [Value.int .u8 (x_1.res (0 + (p_1 - 0)))] [Value.int .u8 0]) [] p)) []) [] k) Value.oneCell') = true)/\
 (∀ k : Nat,k < 64->(Nat.beq (List.length (Cs.eff (Cs.eff (Cs.eff (fun (p : Nat) => cond (Nat.ble 0 p && Nat.blt p 64) [Value.int .u8 (x_2.res (0 + (p - 0)))] (Cs.eff (fun (p_1 : Nat) => cond (Nat.ble 0 p_1 && Nat.blt p_1 (0 + x_1.b.n)) [Value.int .u8 (x_1.res (0 + (p_1 - 0)))] [Value.int .u8 0]) [] p)) []) []) [] k)) 1 && List.all (Cs.eff (Cs.eff (Cs.eff (fun (p : Nat) => cond (Nat.ble 0 p && Nat.blt p 64) [Value.int .u8 (x_2.res (0 + (p - 0)))] (Cs.eff (fun (p_1 : Nat) => cond (Nat.ble 0 p_1 && Nat.blt p_1 (0 + x_1.b.n)) [Value.int .u8 (x_1.res (0 + (p_1 - 0)))] [Value.int .u8 0]) [] p)) []) []) [] k) Value.oneCell') = true)/\GX/\∃ y_2 : Unit,True/\aff/\(64 = 64/\∀ q : Nat,q < 64->[Value.int .u8 (kV x q)] = Cs.eff (Cs.eff (Cs.eff (Cs.eff (fun (p : Nat) => cond (Nat.ble 0 p && Nat.blt p 64) [Value.int .u8 (x_2.res (0 + (p - 0)))] (Cs.eff (fun (p_1 : Nat) => cond (Nat.ble 0 p_1 && Nat.blt p_1 (0 + x_1.b.n)) [Value.int .u8 (x_1.res (0 + (p_1 - 0)))] [Value.int .u8 0]) [] p)) []) []) []) [] q)/\True)) (64<=x_1.b.n/\ajX x_1/\GX/\0 + x_1.b.n<=x_1.b.n/\∃ n : Nat,∃ g : ∀ a : Nat,Int,x_1.b.n = n/\n < 1099511627776/\(∀ k : Nat,k < n->[Value.int .u8 (x_1.res (0 + k))] = [Value.int .u8 (g k)])/\(∀ k : Nat,0<=g k/\g k < 256)/\True/\∃ x_2 : tX,Hd x_2.ok/\am8 x_2 g n/\((x_2.b.N = 64/\∀ q : Nat,q < x_2.b.N->[Value.int .u8 (x_2.b.g q)] = Cs.eff (fun (p : Nat) => cond (Nat.ble 0 p && Nat.blt p 64) [Value.int .u8 (x_1.res (0 + (p - 0)))] [Value.int .u8 0]) [] q)/\True)/\∀ y_1 : Unit,True->True/\GX/\64<=64/\cP (Nat.ble x_2.b.n 64) (0 + x_2.b.n<=x_2.b.n/\ajW x_2/\
 (∀ k : Nat,k < 64->(Nat.beq (List.length (Cs.eff (fun (p : Nat) => cond (Nat.ble 0 p && Nat.blt p (0 + x_2.b.n)) [Value.int .u8 (x_2.res (0 + (p - 0)))] (Cs.eff (fun (p_1 : Nat) => cond (Nat.ble 0 p_1 && Nat.blt p_1 64) [Value.int .u8 (x_1.res (0 + (p_1 - 0)))] [Value.int .u8 0]) [] p)) [] k)) 1 && List.all (Cs.eff (fun (p : Nat) => cond (Nat.ble 0 p && Nat.blt p (0 + x_2.b.n)) [Value.int .u8 (x_2.res (0 + (p - 0)))] (Cs.eff (fun (p_1 : Nat) => cond (Nat.ble 0 p_1 && Nat.blt p_1 64) [Value.int .u8 (x_1.res (0 + (p_1 - 0)))] [Value.int .u8 0]) [] p)) [] k) Value.oneCell') = true)/\(∀ k : Nat,k < 64->(Nat.beq (List.length (Cs.eff (Cs.eff (fun (p : Nat) => cond (Nat.ble 0 p && Nat.blt p (0 + x_2.b.n)) [Value.int .u8 (x_2.res (0 + (p - 0)))] (Cs.eff (fun (p_1 : Nat) => cond (Nat.ble 0 p_1 && Nat.blt p_1 64) [Value.int .u8 (x_1.res (0 + (p_1 - 0)))] [Value.int .u8 0]) [] p)) []) [] k)) 1 && List.all (Cs.eff (Cs.eff (fun (p : Nat) => cond (Nat.ble 0 p && Nat.blt p (0 + x_2.b.n)) [Value.int .u8 (x_2.res (0 + (p - 0)))] (Cs.eff (fun (p_1 : Nat) => cond (Nat.ble 0 p_1 && Nat.blt p_1 64) [Value.int .u8 (x_1.res (0 + (p_1 - 0)))] [Value.int .u8 0]) [] p)) []) [] k) Value.oneCell') = true)/\
 (∀ k : Nat,k < 64->(Nat.beq (List.length (Cs.eff (Cs.eff (Cs.eff (fun (p : Nat) => cond (Nat.ble 0 p && Nat.blt p (0 + x_2.b.n)) [Value.int .u8 (x_2.res (0 + (p - 0)))] (Cs.eff (fun (p_1 : Nat) => cond (Nat.ble 0 p_1 && Nat.blt p_1 64) [Value.int .u8 (x_1.res (0 + (p_1 - 0)))] [Value.int .u8 0]) [] p)) []) []) [] k)) 1 && List.all (Cs.eff (Cs.eff (Cs.eff (fun (p : Nat) => cond (Nat.ble 0 p && Nat.blt p (0 + x_2.b.n)) [Value.int .u8 (x_2.res (0 + (p - 0)))] (Cs.eff (fun (p_1 : Nat) => cond (Nat.ble 0 p_1 && Nat.blt p_1 64) [Value.int .u8 (x_1.res (0 + (p_1 - 0)))] [Value.int .u8 0]) [] p)) []) []) [] k) Value.oneCell') = true)/\GX/\∃ y_2 : Unit,True/\aff/\(64 = 64/\∀ q : Nat,q < 64->[Value.int .u8 (kV x q)] = Cs.eff (Cs.eff (Cs.eff (Cs.eff (fun (p : Nat) => cond (Nat.ble 0 p && Nat.blt p (0 + x_2.b.n)) [Value.int .u8 (x_2.res (0 + (p - 0)))] (Cs.eff (fun (p_1 : Nat) => cond (Nat.ble 0 p_1 && Nat.blt p_1 64) [Value.int .u8 (x_1.res (0 + (p_1 - 0)))] [Value.int .u8 0]) [] p)) []) []) []) [] q)/\True) (64<=x_2.b.n/\ajX x_2/\(∀ k : Nat,k < 64->(Nat.beq (List.length (Cs.eff (fun (p : Nat) => cond (Nat.ble 0 p && Nat.blt p 64) [Value.int .u8 (x_2.res (0 + (p - 0)))] (Cs.eff (fun (p_1 : Nat) => cond (Nat.ble 0 p_1 && Nat.blt p_1 64) [Value.int .u8 (x_1.res (0 + (p_1 - 0)))] [Value.int .u8 0]) [] p)) [] k)) 1 && List.all (Cs.eff (fun (p : Nat) => cond (Nat.ble 0 p && Nat.blt p 64) [Value.int .u8 (x_2.res (0 + (p - 0)))] (Cs.eff (fun (p_1 : Nat) => cond (Nat.ble 0 p_1 && Nat.blt p_1 64) [Value.int .u8 (x_1.res (0 + (p_1 - 0)))] [Value.int .u8 0]) [] p)) [] k) Value.oneCell') = true)/\
 (∀ k : Nat,k < 64->(Nat.beq (List.length (Cs.eff (Cs.eff (fun (p : Nat) => cond (Nat.ble 0 p && Nat.blt p 64) [Value.int .u8 (x_2.res (0 + (p - 0)))] (Cs.eff (fun (p_1 : Nat) => cond (Nat.ble 0 p_1 && Nat.blt p_1 64) [Value.int .u8 (x_1.res (0 + (p_1 - 0)))] [Value.int .u8 0]) [] p)) []) [] k)) 1 && List.all (Cs.eff (Cs.eff (fun (p : Nat) => cond (Nat.ble 0 p && Nat.blt p 64) [Value.int .u8 (x_2.res (0 + (p - 0)))] (Cs.eff (fun (p_1 : Nat) => cond (Nat.ble 0 p_1 && Nat.blt p_1 64) [Value.int .u8 (x_1.res (0 + (p_1 - 0)))] [Value.int .u8 0]) [] p)) []) [] k) Value.oneCell') = true)/\(∀ k : Nat,k < 64->(Nat.beq (List.length (Cs.eff (Cs.eff (Cs.eff (fun (p : Nat) => cond (Nat.ble 0 p && Nat.blt p 64) [Value.int .u8 (x_2.res (0 + (p - 0)))] (Cs.eff (fun (p_1 : Nat) => cond (Nat.ble 0 p_1 && Nat.blt p_1 64) [Value.int .u8 (x_1.res (0 + (p_1 - 0)))] [Value.int .u8 0]) [] p)) []) []) [] k)) 1 && List.all (Cs.eff (Cs.eff (Cs.eff (fun (p : Nat) => cond (Nat.ble 0 p && Nat.blt p 64) [Value.int .u8 (x_2.res (0 + (p - 0)))] (Cs.eff (fun (p_1 : Nat) => cond (Nat.ble 0 p_1 && Nat.blt p_1 64) [Value.int .u8 (x_1.res (0 + (p_1 - 0)))] [Value.int .u8 0]) [] p)) []) []) [] k) Value.oneCell') = true)/\GX/\∃ y_2 : Unit,True/\aff/\(64 = 64/\∀ q : Nat,q < 64->[Value.int .u8 (kV x q)] = Cs.eff (Cs.eff (Cs.eff (Cs.eff (fun (p : Nat) => cond (Nat.ble 0 p && Nat.blt p 64) [Value.int .u8 (x_2.res (0 + (p - 0)))] (Cs.eff (fun (p_1 : Nat) => cond (Nat.ble 0 p_1 && Nat.blt p_1 64) [Value.int .u8 (x_1.res (0 + (p_1 - 0)))] [Value.int .u8 0]) [] p)) []) []) []) [] q)/\True))
theorem abZ (x : Int) : VA x = wpF Tryz.prog tblK tt (fun _ _ _ _ => []) 200 5 150 (Ef.args x) (hO Ef.k (Ef.os x)) (fun v h' => eU Ef.k x v h' Ef.outs) := by kernel_rfl
end Go.Proofs.YtenfleoejgjklaaGreat
end
section
namespace Go.Proofs.YtenfleoejgjklaaGreat
open Go SE
theorem VB (b : Bys) (hb : b.ok) : afg b := by
 unfold afg
 simp only [aY,aU,aT,ay,aH,bJ,bg,aN,aJ,au,aW,aV]
 exact ⟨⟨0,b⟩,⟨(show U32 0 from ⟨by omega,by omega⟩),hb⟩,⟨rfl,rfl,rfl⟩,⟨rfl,fun _ _ => rfl⟩,rfl⟩
theorem lV (v : Int) (k : Nat) : 0<=v / 256 ^ k % 256/\v / 256 ^ k % 256 < 256 := ⟨Int.emod_nonneg _ (by omega),Int.emod_lt_of_pos _ (by omega)⟩
theorem y8 {g : Nat->Int} (h : ∀ k,0<=g k/\g k < 256) (a w : Nat) (v : Int) (k : Nat) : 0<=oL g a w v k/\oL g a w v k < 256 := by
 unfold oL
 split
 ·exact lV _ _
 ·exact h k
theorem QA (v : Int) (hv : 0<=v/\v < 18446744073709551616) : VA v := by
 unfold VA
 simp only [GX,ajW,am8,aff,ajX,am7]
 simp only [aY,aU,aT,ay,aH,bJ,bg,aN,aJ,au,aW,aV]
 let b0 : Bys := ⟨fun k => if k = 0 then 3 else 0,0,9,9⟩
 let x1 : tX := ⟨b0,1,8,v,9⟩
 have ok1 : x1.ok := ⟨⟨by simp [x1,b0],by simp [x1,b0],fun k => by simp only [x1,b0]; split <;> omega⟩,by simp [x1,b0],by simp [x1],by simp [x1],hv.1,hv.2⟩
 have r1 : ∀ k,k < 9->x1.res k = abY v k := fun k hk => by
  simp only [tX.res,oL,abY,x1,b0]
  by_cases h : k = 0
  ·subst h; simp
  ·rw [if_pos (by omega),if_neg h]
 have u1 : ∀ k,0<=x1.res k/\x1.res k < 256 := y8 (fun k => ok1.1.2.2 _) _ _ _
 let b1 : Bys := ⟨fun k => if k < 9 then x1.res k else 0,0,64,64⟩
 let x2 : tX := ⟨b1,9,4,ny 0 x1.res 9,64⟩
 have c1 : ny 0 x1.res 9 = ny 0 (abY v) 9 := y7 r1
 have hU := YT 0 x1.res 9
 have ok2 : x2.ok := ⟨⟨by simp [x2,b1],by simp [x2,b1],fun k => by
  show 0<=(if k < 9 then x1.res k else 0)/\(if k < 9 then x1.res k else 0) < 256
  split
  ·exact u1 k
  ·exact ⟨by omega,by omega⟩⟩,by simp [x2,b1],by simp [x2],by simp [x2],hU.1,hU.2⟩
 have w64 : IntKind.u64.wrap (ny 0 x1.res 9) = ny 0 x1.res 9 := by
  have := hU.1; have := hU.2
  unfold IntKind.wrap; simp [IntKind.bits,IntKind.signed]; omega
 have nb : x1.b.n = 9 := rfl
 have nb2 : x2.b.n = 64 := rfl
 have ble9 : Nat.ble 9 64 = true := rfl
 have am9 : Nat.ble 64 64 = true := rfl
 refine ⟨x1,ok1,⟨⟨rfl,rfl,rfl⟩,rfl,rfl,rfl⟩,⟨rfl,fun q hq => ?_⟩,by omega,by omega,?_⟩
 ·have hq : q < 9 := hq
  match q,hq with
  | 0,_ | 1,_ | 2,_ | 3,_ | 4,_ | 5,_ | 6,_ | 7,_ | 8,_ => rfl
 simp only [nb,ble9,cP,bK,bC,bD,bF,bM,bf,bG,aZ,dY,aG,aK,ah,aj,aA,aC,aB,aF,aJ,aT]
 refine ⟨by omega,by omega,by omega,9,x1.res,rfl,by omega,fun _ _ => rfl,u1,x2,ok2,⟨⟨rfl,rfl,rfl⟩,rfl,rfl,w64.symm⟩,⟨rfl,fun q hq => ?_⟩,by omega,by omega,?_⟩
 ·show (if q < 9 then x1.res q else 0) = _
  rw [bW,eu]
 simp only [nb2,am9,cP,bK,bC,bD,bF,bM,bf,bG,aZ,dY,aG,aK,ah,aj,aA,aC,aB,aF,aJ,aT]
 refine ⟨by omega,by omega,fun q hq => ?_⟩
 simp [bQ.2 hq]
 show kV v q = oL (fun k => if 0 + k < 9 then x1.res (0 + k) else 0) 9 4 (ny 0 x1.res 9) q
 simp only [kV,oL,c1,ay]
 by_cases h : q < 9
 ·rw [if_pos h,if_neg (by omega),if_pos h,r1 q h]
 ·by_cases h2 : q < 13
  ·rw [if_neg h,if_pos h2,if_pos (by omega)]
  ·rw [if_neg h,if_neg h2,if_neg (by omega),if_neg h]
end Go.Proofs.YtenfleoejgjklaaGreat
end
section
namespace Go.Proofs.YtenfleoejgjklaaGreat
open Go SE
theorem VD {P : Program} {f : FuncId} {X : Type} {args : X->List AV} {k m : Nat} {os os' : X->List dF} {pre : X->Prop} {ret : X->AV} (hC : bV P f (det X args k os pre ret m os')) (x : X) (hp : pre x) : Sp P f (args x) (hO k (os x)) (fun v _ => v = ret x) :=
 (hC x hp).2.mono fun _ _ hh => by
  have ha : L6 x (fun v _ => v = ret x) (det X args k os pre ret m os').outs := fun _ _ => rfl
  exact yX ha hh
theorem afi : bV Tryz.prog 171 abX := dX dI mixed (.cons (bT alH) .nil) (fun _ _ _ _ _ => []) 200 5 (fun _ => rfl) (fun _ => rfl) fun x hx => Eq.mp (afh x) (VB x (aY.1 hx))
theorem YU (args : List AV) (h : Heap) (K : AV->Heap->Prop) (hq : ajV args h K) : Sp Tryz.prog 171 args h K := by
 unfold ajV at hq
 split at hq
 ·refine ajL (afi ⟨fun _ => 0,0,0,0⟩ (aY.2 ⟨by simp,by simp,fun _ => by simp⟩)).2.1 (by omega) hq fun e he => ?_
  obtain ⟨n,g,h1,h2,h3,h4,hK⟩ := he
  have hs := VD afi ⟨g,0,n,n⟩ (aY.2 ⟨by simp,h2,h4⟩)
  refine ⟨n,fun k => [.int .u8 (g k)],u32 (ny 0 (fun k => g (0 + k)) n),h1,h3,rfl,?_,hs⟩
  simpa only [ay] using hK
 ·exact hq.elim
theorem afj : eY Tryz.prog tblK := .cons YU (.cons (apu (bT alJ) fun _ _ _ hq => Eb dI mixed eY.nil _ _ _ _ _ _ _ hq) .nil)
theorem ajY : bV Tryz.prog 150 Ef := dX dI mixed afj (fun _ _ _ _ _ => []) 200 5 (fun _ => rfl) (fun _ => rfl) fun x hx => Eq.mp (abZ x) (QA x (aY.1 hx))
theorem ab1 : yY Tryz.prog 102 (Extern.Atomic.loadT (.int .u64)) := ⟨Tryz.f102,by kernel_rfl,by kernel_rfl,by kernel_rfl,by kernel_rfl,by kernel_rfl⟩
def YV : WTbl := [(102,ajQ .u64)]
theorem VE : eY Tryz.prog YV := .Qq (fun _ _ _ hq => YR _ _ _ ab1 hq) .nil
theorem VF : yY Tryz.prog 104 Extern.Atomic.storeT := ⟨Tryz.f104,by kernel_rfl,by kernel_rfl,by kernel_rfl,by kernel_rfl,by kernel_rfl⟩
def QB : WTbl := [(104,YQ .u64)]
theorem QC : eY Tryz.prog QB := .Qq (fun _ _ _ hq => Qy _ _ _ VF hq) .nil
theorem afk : yY Tryz.prog 103 (Extern.Atomic.casT (.int .u64)) := ⟨Tryz.f103,by kernel_rfl,by kernel_rfl,by kernel_rfl,by kernel_rfl,by kernel_rfl⟩
def afl : WTbl := [(103,casX .u64)]
theorem ab2 : eY Tryz.prog afl := .Qq (fun _ _ _ hq => am1 _ _ _ afk hq) .nil
theorem afm : yY Tryz.prog 108 (Extern.Atomic.update (Op.intArith .add) .u64 true) := ⟨Tryz.f108,by kernel_rfl,by kernel_rfl,by kernel_rfl,by kernel_rfl,by kernel_rfl⟩
def afn : WTbl := [(108,addX .u64)]
theorem ab3 : eY Tryz.prog afn := .Qq (fun _ _ _ hq => ae2 _ _ _ afm hq) .nil
theorem ab4 : yY Tryz.prog 285 (Extern.Atomic.swapT (.int .u64)) := ⟨Tryz.f285,by kernel_rfl,by kernel_rfl,by kernel_rfl,by kernel_rfl,by kernel_rfl⟩
def YW : WTbl := [(285,amZ .u64)]
theorem VG : eY Tryz.prog YW := .Qq (fun _ _ _ hq => ajR _ _ _ ab4 hq) .nil
theorem ab5 : yY Tryz.prog 168 (Extern.Atomic.update (Op.intArith .add) .i64 true) := ⟨Tryz.f168,by kernel_rfl,by kernel_rfl,by kernel_rfl,by kernel_rfl,by kernel_rfl⟩
def YX : WTbl := [(168,addX .i64)]
theorem VH : eY Tryz.prog YX := .Qq (fun _ _ _ hq => ae2 _ _ _ ab5 hq) .nil
def QD : WTbl := []
theorem QE : eY Tryz.prog QD := .nil
theorem ab6 : yY Tryz.prog 193 (Extern.Atomic.loadT (.int .u32)) := ⟨Tryz.f193,by kernel_rfl,by kernel_rfl,by kernel_rfl,by kernel_rfl,by kernel_rfl⟩
def YZ : WTbl := [(193,ajQ .u32)]
theorem VI : eY Tryz.prog YZ := .Qq (fun _ _ _ hq => YR _ _ _ ab6 hq) .nil
theorem VJ : yY Tryz.prog 239 Extern.Atomic.storeT := ⟨Tryz.f239,by kernel_rfl,by kernel_rfl,by kernel_rfl,by kernel_rfl,by kernel_rfl⟩
def QF : WTbl := [(239,YQ .u32)]
theorem QG : eY Tryz.prog QF := .Qq (fun _ _ _ hq => Qy _ _ _ VJ hq) .nil
noncomputable def tZ : WTbl := YV ++ QB ++ afl ++ afn ++ YW ++ YX ++ QD ++ YZ ++ QF
theorem eX : eY Tryz.prog tZ := .append (.append (.append (.append (.append (.append (.append (.append (VE) QC) ab2) ab3) VG) VH) QE) VI) QG
structure DevM where
 n : Nat
 b : Nat->Int
 s : Nat->Bool
 st : Int
 fl : Int
 fe : Int
 ba : Int
 cu : Int
def small (z : Int) : Prop := 0<=z/\z < 1099511627776
noncomputable def kL (d : DevM) (p : Nat) : List Value := hide [if p % 193 = 192 then .bool (d.s (p / 193)) else .int .u8 (d.b p)]
theorem nZ (d : DevM) (p : Nat) : kL d p = [if p % 193 = 192 then .bool (d.s (p / 193)) else .int .u8 (d.b p)] := pO _
namespace DevM
def ok (d : DevM) : Prop := d.n<=258/\(∀ p,0<=d.b p/\d.b p < 256)/\small d.st/\small d.fl/\small d.fe/\small d.ba/\small d.cu
def dev (i : Nat) (d : DevM) : dF := .cells 201 (.av [.slE i 0 193 d.n d.n,i64 d.st,i64 d.fl,i64 d.fe,i64 d.ba,i64 d.cu])
noncomputable def cells (d : DevM) : dF := .cells 229 (.row 1 (d.n * 193) (kL d) [])
noncomputable def os (d : DevM) : List dF := [d.dev 1,d.cells]
def _root_.Go.Proofs.YtenfleoejgjklaaGreat.uj (n : Nat) : DevM := ⟨n,fun _ => 0,fun _ => false,0,0,0,0,0⟩
def flush (d : DevM) (k : Nat) : DevM := { d with b := fun p => if k * 193 + 128<=p/\p < k * 193 + 192 then d.b (p - 128) else d.b p,s := fun q => if q = k then true else d.s q,fl := if k < d.n then d.fl + 1 else d.fl }
def iO (d : DevM) (k : Nat) : DevM := { d with b := fun p => if p / 193 < k/\d.s (p / 193) = true/\64<=p % 193/\p % 193 < 128 then d.b (p + 64) else d.b p,s := fun q => if q < k then false else d.s q }
def fence (d : DevM) : DevM := { d.iO d.n with fe := d.fe + 1 }
def store (d : DevM) (k a n : Nat) (g : Nat->Int) : DevM := { d with b := fun p => if k * 193 + a<=p/\p < k * 193 + a + n then g (p - (k * 193 + a)) else d.b p,st := d.st + 1 }
end DevM
structure VK where
 d : DevM
 k : Nat
noncomputable def Eh : Ctr := det VK (fun x => [.ptr 0 0,i64 x.k]) 2 (fun x => x.d.os) (fun x => Hd (x.d.ok/\x.k < 258)) (fun x => i64 (if x.k < x.d.n then 0 else 2)) 2 (fun x => (x.d.flush x.k).os)
noncomputable def Ei : Ctr := det DevM (fun _ => [.ptr 0 0]) 2 (fun d => d.os) (fun d => Hd d.ok) (fun _ => i64 0) 2 (fun d => d.fence.os)
noncomputable def afo (d : DevM) : FuncId->uU := fun f =>
 bif Nat.beq f 106 then (fun b fr h => bif Nat.beq b 0 then [{ σ := Nat,fr := fun k => [(12,i64 k)],ob := fun k => [(1,some (d.iO k).cells)],inv := fun k => k<=d.n,meas := fun k => d.n - k }] else []) else
 fun _ _ _ => []
structure nK where
 d : DevM
 k : Nat
 a : Nat
 b : Bys
noncomputable def Ej : Ctr := det nK (fun x => [.ptr 0 0,i64 x.k,i64 x.a,x.b.av 2]) 3 (fun x => x.d.os ++ [x.b.ro]) (fun x => Hd (x.d.ok/\x.k < x.d.n/\x.b.ok/\x.a + x.b.n<=64)) (fun _ => i64 0) 3 (fun x => (x.d.store x.k x.a x.b.n (fun q => x.b.g (x.b.q + q))).os ++ [x.b.ro])
end Go.Proofs.YtenfleoejgjklaaGreat
end
section
namespace Go.Proofs.YtenfleoejgjklaaGreat
open Go SE
def ab7 (a : DevM) : Prop := a.ba = a.ba/\a.cu = a.cu/\True
def VL (a : DevM) : Prop := a.fe = a.fe/\ab7 a
def VN (a : DevM) : Prop := a.fl = a.fl/\VL a
def nM (a : Nat) : Prop := 0 = 0/\a = a/\a = a
def kW (a : Nat) : Prop := a * 193 = a * 193
def QH (a : Bys) : Prop := (rowB a.g a.N = rowB a.g a.N/\true = true)/\True
def ajZ (a : nK) : Prop := ∃ y : Unit,True/\(0 : Int) = 2/\(nM a.d.n/\a.d.st + 1 = a.d.st/\VN a.d)/\(kW a.d.n/\∀ q : Nat,q < a.d.n * 193->Cs.eff (kL (a.d.store a.k a.a a.b.n (fun (q_1 : Nat) => a.b.g (a.b.q + q_1)))) [] q = Cs.eff (kL a.d) [] q)/\QH a.b
def aj0 (a : DevM) : Prop := (nM a.n/\a.st = a.st/\VN a)/\True
def Y0 (a : Bys) (b : Nat) : Prop := (Nat.beq (List.length [Value.int .u8 (a.g (a.q + b))]) 1 && List.all [Value.int .u8 (a.g (a.q + b))] Value.oneCell') = true
def Y1 : Prop := ∃ y : Unit,True/\(False/\(0 : Int) = 2/\True)/\False/\False/\True
def afp (n : Nat) : Prop :=
 cP (decide ((n : Int) < 1)) Y1 (cP (decide ((n : Int) > (258 : Int))) Y1 ((0<=(n : Int)/\(n : Int)<=(n : Int)/\193 * (n : Int)<=281474976710656/\(n : Int) < 4611686018427387904)/\∃ y : Unit,True/\(0 = 0/\(0 : Int) = 0/\True)/\(nM n/\(0 : Int) = 0/\(0 : Int) = 0/\(0 : Int) = 0/\(0 : Int) = 0/\(0 : Int) = 0/\True)/\(kW n/\∀ q : Nat,∀ j : Nat,q < n->j < 193->∃ v : Value,getElem? (List.replicate 192 (Value.int .u8 0) ++ [Value.bool false]) j = some v/\Cs.eff (kL (uj n)) [] (q * 193 + j) = [v])/\True))
def VO (x : VK) : Prop :=
 cP (decide ((x.k : Int) ≥ (x.d.n : Int))) (∃ y : Unit,True/\ite (x.k < x.d.n) (0 : Int) (2 : Int) = 2/\(nM x.d.n/\x.d.st = x.d.st/\ite (x.k < x.d.n) (x.d.fl + 1) x.d.fl = x.d.fl/\VL x.d)/\(kW x.d.n/\∀ q : Nat,q < x.d.n * 193->Cs.eff (kL (x.d.flush x.k)) [] q = Cs.eff (kL x.d) [] q)/\True) (I64 (64 : Int)/\(0<=(x.k : Int)/\(x.k : Int) < (x.d.n : Int))/\(0 + x.k) * 193 + 0 + 64<=x.d.n * 193/\(0 + x.k) * 193 + 128 + 64<=x.d.n * 193/\(∀ k : Nat,k < 64->(Nat.beq (List.length (Cs.eff (kL x.d) [] ((0 + x.k) * 193 + 0 + k))) 1 && List.all (Cs.eff (kL x.d) [] ((0 + x.k) * 193 + 0 + k)) Value.oneCell') = true)/\(0 + x.k) * 193 + 192 < x.d.n * 193/\I64 (x.d.fl + 1)/\∃ y : Unit,True/\ite (x.k < x.d.n) (0 : Int) (2 : Int) = 0/\(nM x.d.n/\x.d.st = x.d.st/\ite (x.k < x.d.n) (x.d.fl + 1) x.d.fl = x.d.fl + 1/\VL x.d)/\(kW x.d.n/\∀ q : Nat,q < x.d.n * 193->Cs.eff (kL (x.d.flush x.k)) [] q = Cs.eff (fun (p : Nat) => cond (Nat.ble ((0 + x.k) * 193 + 128) p && Nat.blt p ((0 + x.k) * 193 + 128 + 64)) (Cs.eff (kL x.d) [] ((0 + x.k) * 193 + 0 + (p - ((0 + x.k) * 193 + 128)))) (Cs.eff (kL x.d) [] p)) [((0 + x.k) * 193 + 192,[Value.bool true])] q)/\True)
theorem ab8 (x : VK) : VO x = wpF Tryz.prog tZ tt (fun _ _ _ _ => []) 200 5 105 (Eh.args x) (hO Eh.k (Eh.os x)) (fun v h' => eU Eh.k x v h' Eh.outs) := by kernel_rfl
def VP (d : DevM) : Prop :=
 (∃ s : Nat,s<=d.n/\True/\((s : Int) = 0/\True)/\(kW d.n/\∀ q : Nat,q < d.n * 193->Cs.eff (kL (d.iO s)) [] q = Cs.eff (kL d) [] q)/\aj0 d)/\(∀ s : Nat,s<=d.n->cP (decide ((s : Int) < (d.n : Int))) ((0<=(s : Int)/\(s : Int) < (d.n : Int))/\(0 + s) * 193 + 192 < d.n * 193/\∃ b : Bool,getElem? (kL (d.iO s) ((0 + s) * 193 + 192)) 0 = some (Value.bool b)/\cP b ((0 + s) * 193 + 128 + 64<=d.n * 193/\(0 + s) * 193 + 64 + 64<=d.n * 193/\(∀ k : Nat,k < 64->(Nat.beq (List.length (Cs.eff (kL (d.iO s)) [] ((0 + s) * 193 + 128 + k))) 1 && List.all (Cs.eff (kL (d.iO s)) [] ((0 + s) * 193 + 128 + k)) Value.oneCell') = true)/\(0 + s) * 193 + 192 < d.n * 193/\I64 ((s : Int) + 1)/\∃ s_1 : Nat,s_1<=d.n/\d.n - s_1 < d.n - s/\((s_1 : Int) = (s : Int) + 1/\True)/\(kW d.n/\∀ q : Nat,q < d.n * 193->Cs.eff (kL (d.iO s_1)) [] q = Cs.eff (fun (p : Nat) => cond (Nat.ble ((0 + s) * 193 + 64) p && Nat.blt p ((0 + s) * 193 + 64 + 64)) (Cs.eff (kL (d.iO s)) [] ((0 + s) * 193 + 128 + (p - ((0 + s) * 193 + 64)))) (Cs.eff (kL (d.iO s)) [] p)) [((0 + s) * 193 + 192,[Value.bool false])] q)/\aj0 d) (I64 ((s : Int) + 1)/\∃ s_1 : Nat,s_1<=d.n/\d.n - s_1 < d.n - s/\((s_1 : Int) = (s : Int) + 1/\True)/\(kW d.n/\∀ q : Nat,q < d.n * 193->Cs.eff (kL (d.iO s_1)) [] q = Cs.eff (kL (d.iO s)) [] q)/\aj0 d)) (I64 (d.fe + 1)/\∃ y : Unit,True/\(0 : Int) = 0/\(nM d.n/\d.st = d.st/\d.fl = d.fl/\d.fe + 1 = d.fe + 1/\ab7 d)/\(kW d.n/\∀ q : Nat,q < d.n * 193->Cs.eff (kL d.fence) [] q = Cs.eff (kL (d.iO s)) [] q)/\True))/\True
theorem ab9 (d : DevM) : VP d = wpF Tryz.prog tZ tt (afo d) 200 5 106 (Ei.args d) (hO Ei.k (Ei.os d)) (fun v h' => eU Ei.k d v h' Ei.outs) := by kernel_rfl
def Mc (x : nK) : Prop :=
 cP (decide ((x.k : Int) ≥ (x.d.n : Int))) (ajZ x) (I64 (64 - (x.b.n : Int))/\cP (decide ((x.a : Int) > 64 - (x.b.n : Int))) (ajZ x) ((0<=(x.k : Int)/\(x.k : Int) < (x.d.n : Int))/\0<=(x.a : Int)/\(x.a<=64/\64<=64/\64<=64)/\(0 + x.k) * 193 + 0 + x.a + (64 - x.a)<=x.d.n * 193/\cP (Nat.ble x.b.n (64 - x.a)) (x.b.q + x.b.n<=x.b.N/\(∀ k : Nat,k < x.b.n->Y0 x.b k)/\I64 (x.d.st + 1)/\∃ y : Unit,True/\(0 : Int) = 0/\(nM x.d.n/\x.d.st + 1 = x.d.st + 1/\VN x.d)/\(kW x.d.n/\∀ q : Nat,q < x.d.n * 193->Cs.eff (kL (x.d.store x.k x.a x.b.n (fun (q_1 : Nat) => x.b.g (x.b.q + q_1)))) [] q = Cs.eff (fun (p : Nat) => cond (Nat.ble ((0 + x.k) * 193 + 0 + x.a) p && Nat.blt p ((0 + x.k) * 193 + 0 + x.a + x.b.n)) [Value.int .u8 (x.b.g (x.b.q + (p - ((0 + x.k) * 193 + 0 + x.a))))] (Cs.eff (kL x.d) [] p)) [] q)/\QH x.b) (x.b.q + (64 - x.a)<=x.b.N/\(∀ k : Nat,k < 64 - x.a->Y0 x.b k)/\I64 (x.d.st + 1)/\∃ y : Unit,True/\(0 : Int) = 0/\(nM x.d.n/\x.d.st + 1 = x.d.st + 1/\VN x.d)/\(kW x.d.n/\∀ q : Nat,q < x.d.n * 193->Cs.eff (kL (x.d.store x.k x.a x.b.n (fun (q_1 : Nat) => x.b.g (x.b.q + q_1)))) [] q = Cs.eff (fun (p : Nat) => cond (Nat.ble ((0 + x.k) * 193 + 0 + x.a) p && Nat.blt p ((0 + x.k) * 193 + 0 + x.a + (64 - x.a))) [Value.int .u8 (x.b.g (x.b.q + (p - ((0 + x.k) * 193 + 0 + x.a))))] (Cs.eff (kL x.d) [] p)) [] q)/\QH x.b)))
theorem acd (x : nK) : Mc x = wpF Tryz.prog tZ tt (fun _ _ _ _ => []) 200 5 62 (Ej.args x) (hO Ej.k (Ej.os x)) (fun v h' => eU Ej.k x v h' Ej.outs) := by kernel_rfl
end Go.Proofs.YtenfleoejgjklaaGreat
end
section
namespace Go.Proofs.YtenfleoejgjklaaGreat
open Go SE
set_option linter.unusedSimpArgs false
theorem afq (d : DevM) (p : Nat) : ((kL d p).length.beq 1 && (kL d p).all Value.oneCell') = true := by
 rw [nZ]
 split <;> rfl
theorem VQ (n : Nat) (hn : 1<=n/\n<=258) : afp n := by
 unfold afp
 simp only [Y1,nM,kW]
 simp only [aY,aU,aT,ay,aH,bJ,bg,aN,aJ,au,aW,aV,bK,bC,bD,bF,bM,bf,bG,aZ,dY,aG,aK,ah,aj,aA,aC,aB,aF]
 refine bH (fun h => absurd (aQ h) (by omega)) fun _ => bH (fun h => absurd (aQ h) (by omega)) fun _ => ⟨by omega,fun q j _ hj => ?_⟩
 rw [nZ,show (q * 193 + j) % 193 = j by omega]
 by_cases h : j = 192
 ·subst h; exact ⟨_,rfl,rfl⟩
 ·rw [if_neg h]
  refine ⟨.int .u8 0,?_,rfl⟩
  rw [List.getElem?_append_left (by rw [List.length_replicate]; omega),List.getElem?_replicate,if_pos (by omega)]
theorem QI (x : VK) (hx : x.d.ok/\x.k < 258) : VO x := by
 obtain ⟨⟨h1,h2,h3,h4,h5,h6⟩,hk⟩ := hx
 unfold small at *
 unfold VO
 simp only [nM,VL,kW,ab7]
 simp only [aY,aU,aT,ay,aH,bJ,bg,aN,aJ,au,aW,aV,bK,bC,bD,bF,bM,bf,bG,aZ,dY,aG,aK,ah,aj,aA,aC,aB,aF]
 refine bH (fun h => ?_) fun h => ?_
 ·have h := aQ h
  refine ⟨by rw [if_neg (by omega)],by rw [if_neg (by omega)],fun q hq => ?_⟩
  simp only [nZ,DevM.flush]
  grind
 ·have h : x.k < x.d.n := by have := aS h; omega
  rw [if_pos h,if_pos h]
  refine ⟨by unfold I64; omega,by omega,by omega,by omega,fun k _ => afq _ _,by omega,by unfold I64; omega,rfl,rfl,fun q hq => ?_⟩
  simp only [Cs.eff,bW,dK,dH,eu,← Bool.decide_and,nZ,DevM.flush]
  grind
theorem QJ (d : DevM) (hd : d.ok) : VP d := by
 obtain ⟨h1,h2,h3,h4,h5,h6⟩ := hd
 unfold small at *
 unfold VP
 simp only [kW,aj0,nM,ab7,VN,VL]
 simp only [aY,aU,aT,ay,aH,bJ,bg,aN,aJ,au,aW,aV,bK,bC,bD,bF,bM,bf,bG,aZ,dY,aG,aK,ah,aj,aA,aC,aB,aF]
 refine ⟨⟨0,by omega,by omega,fun q hq => ?_⟩,fun s hs => bH (fun hb => ?_) (fun hb => ?_)⟩
 ·simp only [nZ,DevM.iO]; grind
 ·have hb := aQ hb
  refine ⟨by omega,by omega,d.s s,?_,bH (fun hc => ?_) (fun hc => ?_)⟩
  ·simp only [nZ,DevM.iO]; grind
  ·refine ⟨by omega,by omega,fun k _ => afq _ _,by omega,by unfold I64; omega,s + 1,by omega,by omega,by omega,fun q hq => ?_⟩
   simp only [Cs.eff,bW,dK,dH,eu,← Bool.decide_and,nZ,DevM.iO]; grind (splits := 30)
  ·refine ⟨by unfold I64; omega,s + 1,by omega,by omega,by omega,fun q hq => ?_⟩
   simp only [nZ,DevM.iO]; grind
 ·have : s = d.n := by have := aS hb; omega
  subst this
  exact ⟨by unfold I64; omega,fun q _ => rfl⟩
theorem Aj (x : nK) (hx : x.d.ok/\x.k < x.d.n/\x.b.ok/\x.a + x.b.n<=64) : Mc x := by
 obtain ⟨⟨h1,h2,h3,h4,h5,h6⟩,hk,hb,ha⟩ := hx
 unfold small at *
 unfold Mc
 simp only [ajZ,Y0,nM,VN,kW,QH,VL,ab7]
 simp only [aY,aU,aT,ay,aH,bJ,bg,aN,aJ,au,aW,aV,bK,bC,bD,bF,bM,bf,bG,aZ,dY,aG,aK,ah,aj,aA,aC,aB,aF]
 obtain ⟨b1,b2,b3⟩ := hb
 refine bH (fun h => absurd (aQ h) (by omega)) fun _ => ⟨by unfold I64; omega,bH (fun h => absurd (aQ h) (by omega)) fun _ => ⟨by omega,by omega,by omega,by omega,bH (fun h => ?_) (fun h => ?_)⟩⟩
 ·refine ⟨b1,by unfold I64; omega,fun q hq => ?_⟩
  simp only [Cs.eff,bW,dK,dH,eu,← Bool.decide_and,nZ,DevM.store]; grind
 ·have : ¬ x.b.n<=64 - x.a := fun hh => by rw [show Nat.ble x.b.n (64 - x.a) = true by simpa using hh] at h; cases h
  omega
theorem aj1 : bV Tryz.prog 105 Eh := dX dI mixed eX (fun _ _ _ _ _ => []) 200 5 (fun _ => rfl) (fun _ => rfl) fun x hx => Eq.mp (ab8 x) (QI x (aY.1 hx))
theorem aj2 : bV Tryz.prog 106 Ei := dX dI mixed eX afo 200 5 (fun _ => rfl) (fun _ => rfl) fun x hx => Eq.mp (ab9 x) (QJ x (aY.1 hx))
theorem aj3 : bV Tryz.prog 62 Ej := dX dI mixed eX (fun _ _ _ _ _ => []) 200 5 (fun _ => rfl) (fun _ => rfl) fun x hx => Eq.mp (acd x) (Aj x (aY.1 hx))
end Go.Proofs.YtenfleoejgjklaaGreat
end
section
namespace Go.Proofs.YtenfleoejgjklaaGreat
open Go SE
structure ClkM where
 t : Nat
 now : Int
 dur : Int
 clos : Int
 o : Nat->Int
 N : Nat->Bool
 L : Nat->Bool
def apA (f : Nat->Bool) : Cs := .row 1 258 (fun k => [.bool (f k)]) []
def U64 (z : Int) : Prop := 0<=z/\z < 4611686018427387904
def stA (i : Nat) : Nat->AV
 | 0 => .lit .nilFunc
 | 1 => .fn (.func 57) [.ptr i 0] []
 | 2 => .fn (.func 107) [.ptr i 0] []
 | 3 => .fn (.func 165) [.ptr i 0] []
 | _ => .fn (.func 212) [.ptr i 0] []
def stV (ph : Nat) : AV := stA 0 ph
namespace ClkM
def ok (c : ClkM) : Prop := 1<=c.t/\c.t<=4/\U64 c.now/\U64 c.dur/\U64 c.clos/\∀ k,small (c.o k)
def clkA (c : ClkM) (i : Nat) (st : AV) : dF := .cells 131 (.cat (.av [u64 c.now,u64 c.dur,u64 c.clos,.slE i 0 1 c.t c.t]) (.cat (apA c.N) (.cat (apA c.L) (.av [st]))))
def clk (c : ClkM) (ph : Nat) : dF := c.clkA 1 (stV ph)
def owed (c : ClkM) : dF := .cells 3 (.row 1 c.t (fun k => [.int .i64 (c.o k)]) [])
def os (c : ClkM) (ph : Nat) : List dF := [c.clk ph,c.owed]
def note (c : ClkM) (t : Nat) (l : Int) : ClkM := { c with o := fun k => if k = t/\0<=l/\l < 258 then c.o k + 1 else c.o k,N := fun q => c.N q || decide (l = (q : Nat)) }
def start (c : ClkM) : ClkM := { c with now := c.now + 1,clos := c.now,o := fun _ => 0,N := fun _ => false,L := c.N }
def apB (c : ClkM) (k : Nat) : ClkM := { c with L := fun q => if q = k then false else c.L q }
def fin (c : ClkM) : ClkM := { c with dur := c.clos,clos := 0 }
end ClkM
def Y2 (t : Nat) (d : Int) : ClkM := ⟨t,d + 1,d,0,fun _ => 0,fun _ => false,fun _ => false⟩
structure UM where
 c : ClkM
 t : Nat
 l : Int
structure alK where
 c : ClkM
 d : DevM
namespace alK
def ok (x : alK) : Prop := x.c.ok/\x.d.ok/\x.c.clos ≠ 0/\1 < x.d.n
noncomputable def os (x : alK) (ph : Nat) : List dF := x.c.os ph ++ [x.d.dev 3,x.d.cells]
end alK
end Go.Proofs.YtenfleoejgjklaaGreat
end
section
namespace Go.Proofs.YtenfleoejgjklaaGreat
open Go SE
def alL (a : Nat) : Prop := 0 = 0/\a = a/\a = a
def ana (a : ClkM) : Prop := a.now = a.now/\a.dur = a.dur/\a.clos = a.clos/\alL a.t/\True
def Jd : Prop := Value.nilFunc = Value.nilFunc/\True
def anb (a : ClkM) : Prop := 258 = 258/\∀ q : Nat,q < 258->[Value.bool (a.L q)] = [Value.bool (a.L q)]
def aj6 (a : UM) : Prop := (ana a.c/\(258 = 258/\∀ q : Nat,q < 258->[Value.bool (Bool.or (a.c.N q) (decide (a.l = (q : Int))))] = [Value.bool (a.c.N q)])/\anb a.c/\Jd)/\(a.c.t = a.c.t/\∀ q : Nat,q < a.c.t->[Value.int .i64 (ite (q = a.t/\0<=a.l/\a.l < 258) (a.c.o q + 1) (a.c.o q))] = [Value.int .i64 (a.c.o q)])/\True
def Y3 : Prop := 258 = 258/\∀ q : Nat,q < 258->[Value.bool false] = [Value.bool false]
def Y4 : Prop := ∃ y : Unit,True/\(False/\(0 : Int) = 2/\True)/\False/\False/\True
def afr (p : Nat × Int) : Prop :=
 cP (decide ((p.1 : Int) < 1)) Y4 (cP (decide ((p.1 : Int) > (4 : Int))) Y4 (cP (decide (p.2 > (1152921504606846976 : Int))) (∃ y : Unit,True/\(False/\(0 : Int) = 10/\True)/\False/\False/\True) ((0<=(p.1 : Int)/\(p.1 : Int)<=(p.1 : Int)/\8 * (p.1 : Int)<=281474976710656/\(p.1 : Int) < 4611686018427387904)/\∃ y : Unit,True/\(0 = 0/\(0 : Int) = 0/\True)/\((p.2 + 1 = IntKind.wrap .u64 (p.2 + 1)/\p.2 = p.2/\(0 : Int) = 0/\(0 = 0/\p.1 = p.1/\p.1 = p.1)/\True)/\Y3/\Y3/\Jd)/\(p.1 = p.1/\∀ q : Nat,q < p.1->[Value.int .i64 0] = [Value.int .i64 0])/\True)))
def alM (x : UM) : Prop :=
 cP (decide ((x.t : Int) ≥ (x.c.t : Int))) (∃ y : Unit,True/\ite (0<=x.l/\x.l < 258) (0 : Int) (2 : Int) = 1/\aj6 x) (cP (decide (x.l < 0)) (∃ y : Unit,True/\ite (0<=x.l/\x.l < 258) (0 : Int) (2 : Int) = 2/\aj6 x) (cP (decide (x.l ≥ (258 : Int))) (∃ y : Unit,True/\ite (0<=x.l/\x.l < 258) (0 : Int) (2 : Int) = 2/\aj6 x) ((0<=(x.t : Int)/\(x.t : Int) < (x.c.t : Int))/\0 + x.t < x.c.t/\I64 (x.c.o (0 + x.t) + 1)/\(0<=(x.t : Int)/\(x.t : Int) < (x.c.t : Int))/\0 + x.t < x.c.t/\(0<=x.l/\x.l < 258)/\Int.toNat x.l < 258/\∃ y : Unit,True/\ite (0<=x.l/\x.l < 258) (0 : Int) (2 : Int) = 0/\(ana x.c/\(258 = 258/\∀ q : Nat,q < 258->[Value.bool (Bool.or (x.c.N q) (decide (x.l = (q : Int))))] = Cs.eff (fun (k : Nat) => [Value.bool (x.c.N k)]) [(Int.toNat x.l,[Value.bool true])] q)/\anb x.c/\Jd)/\(x.c.t = x.c.t/\∀ q : Nat,q < x.c.t->[Value.int .i64 (ite (q = x.t/\0<=x.l/\x.l < 258) (x.c.o q + 1) (x.c.o q))] = Cs.eff (fun (k : Nat) => [Value.int .i64 (x.c.o k)]) [(0 + x.t,[Value.int .i64 (x.c.o (0 + x.t) + 1)])] q)/\True)))
end Go.Proofs.YtenfleoejgjklaaGreat
end
section
namespace Go.Proofs.YtenfleoejgjklaaGreat
open Go SE
set_option linter.unusedSimpArgs false
theorem VR (p : Nat × Int) (hp : 1<=p.1/\p.1<=4/\0<=p.2/\p.2<=1152921504606846976) : afr p := by
 unfold afr
 simp only [Y4,Y3,Jd]
 simp only [aY,aU,aT,ay,aH,bJ,bg,aN,aJ,au,aW,aV,bK,bC,bD,bF,bM,bf,bG,aZ,dY,aG,aK,ah,aj,aA,aC,aB,aF]
 refine bH (fun h => absurd (aQ h) (by omega)) fun _ => bH (fun h => absurd (aQ h) (by omega)) fun _ => bH (fun h => absurd (aQ h) (by omega)) fun _ => ⟨by omega,?_⟩
 unfold IntKind.wrap; simp [IntKind.bits,IntKind.signed]; omega
theorem VT (x : UM) (hx : x.c.ok/\x.t < x.c.t) : alM x := by
 obtain ⟨⟨h1,h2,h3,h4,h5,h6⟩,ht⟩ := hx
 have hs := h6 x.t
 unfold small at hs
 unfold alM
 simp only [aj6,ana,anb,Jd,alL]
 simp only [aY,aU,aT,ay,aH,bJ,bg,aN,aJ,au,aW,aV,bK,bC,bD,bF,bM,bf,bG,aZ,dY,aG,aK,ah,aj,aA,aC,aB,aF]
 refine bH (fun h => absurd (aQ h) (by omega)) fun _ => bH (fun h => ?_) fun h => bH (fun h2 => ?_) fun h2 => ?_
 ·have h := aQ h
  exact ⟨by rw [if_neg (by omega)],fun q hq => by simp; intro; omega,fun q hq => by rw [if_neg (by omega)]⟩
 ·have h := aQ h2
  exact ⟨by rw [if_neg (by omega)],fun q hq => by simp; intro; omega,fun q hq => by rw [if_neg (by omega)]⟩
 ·have h := aS h
  have h2 := aS h2
  have hl : 0<=x.l/\x.l < 258 := by omega
  refine ⟨by omega,by omega,by unfold I64; omega,by omega,by omega,hl,by omega,by rw [if_pos hl],fun q hq => ?_,fun q hq => ?_⟩
  ·simp only [Cs.eff,bW,dK,dH,eu,← Bool.decide_and]
   by_cases e : q = x.l.toNat
   ·rw [if_pos e,show decide (x.l = (q : Int)) = true by simp; omega,Bool.or_true]
   ·rw [if_neg e,show decide (x.l = (q : Int)) = false by simp; omega,Bool.or_false]
  ·simp only [Cs.eff,bW,dK,dH,eu,← Bool.decide_and]
   by_cases e : q = x.t
   ·subst e; rw [if_pos ⟨rfl,hl⟩,if_pos rfl]
   ·rw [if_neg (by omega),if_neg e]
theorem Em (v : Int) (k : Nat) : 0<=kV v k/\kV v k < 256 := by
 unfold kV abY
 split
 ·split
  ·omega
  ·exact lV _ _
 ·split
  ·exact lV _ _
  ·omega
end Go.Proofs.YtenfleoejgjklaaGreat
end
section
namespace Go.Proofs.YtenfleoejgjklaaGreat
open Go SE
theorem kH {x y : Prop} : cP true x y = x := rfl
theorem iH {x y : Prop} : cP false x y = y := rfl
def noA {X : Type} : X->FuncId->uU := fun _ _ _ _ _ => []
def boo (b : Bool) : AV := .lit (.bool b)
def fJ : AV := .lit (.slice none 0 0)
def og (X : Type) (args : X->List AV) (k : Nat) (l : X->List PO) (pre : X->Prop) (ret : X->AV) (m : Nat) (l' : X->List PO) : jw :=
 { X := X,args := args,k := k,l := l,pre := pre,outs := [{ Y := Unit,post := fun _ _ => True,ret := fun x _ => ret x,m := m,l := fun x _ => l' x }] }
def spn (c : Int) : Int := if c = 0 then 1 else if c = 1 then 2 else if c = 2 then 4 else if c = 3 then 8 else 0
def cpc (c : Int) : Int := if c = 0 then 28 else if c = 1 then 91 else if c = 2 then 217 else if c = 3 then 469 else 0
def ned (n : Int) : Int := if n < 0 then -1 else if n<=28 then 0 else if n<=91 then 1 else if n<=217 then 2 else if n<=469 then 3 else -1
def xK : Ctr := det Int (fun c => [i64 c]) 0 (fun _ => []) (fun _ => True) (fun c => i64 (spn c)) 0 (fun _ => [])
def alN : Ctr := det Int (fun c => [i64 c]) 0 (fun _ => []) (fun _ => True) (fun c => i64 (cpc c)) 0 (fun _ => [])
def VU : Ctr := det Int (fun c => [i64 c]) 0 (fun _ => []) (fun _ => True) (fun c => i64 (ned c)) 0 (fun _ => [])
def slb (l : Int) : Int := if l < 2 ∨ 258<=l then -1 else (l - 2) / 8
def QK : Ctr := det Int (fun k => [i64 k]) 0 (fun _ => []) (fun _ => True) (fun k => i64 (if k < 0 ∨ 32<=k then -1 else 2 + k * 8)) 0 (fun _ => [])
def uY : Ctr := det Int (fun k => [i64 k]) 0 (fun _ => []) (fun _ => True) (fun k => i64 (slb k)) 0 (fun _ => [])
structure uZ where
 k : Nat
 c : Int
def afs (x : uZ) (n : Nat) : Cs := .row 1 n (fun i => [.int .i64 (2 + x.k * 8 + i * spn x.c)]) []
def vg : Ctr := { X := uZ,args := fun x => [i64 x.k,i64 x.c],k := 0,os := fun _ => [],pre := fun x => Hd (x.k < 32),outs := [
 { Y := Unit,post := fun x _ => Hd (spn x.c = 0),ret := fun _ _ => fJ,m := 0,os := fun _ _ => [] },
 { Y := Unit,post := fun x _ => Hd (spn x.c ≠ 0),ret := fun x _ => .slW 0 0 1 (8 / spn x.c).toNat,m := 1,os := fun x _ => [.room 3 (afs x (8 / spn x.c).toNat)] }] }
def Y5 (x : uZ) : FuncId->uU := fun f => bif Nat.beq f 73 then (fun b _ _ => bif Nat.beq b 0 then [
 { σ := Unit,fr := fun _ => [(21,i64 0),(7,fJ)],ob := fun _ => [],inv := fun _ => Hd (spn x.c ≠ 0),meas := fun _ => 9,test := fun fr _ => (match SE.look fr 7 with | .lit _ => true | _ => false) },
 { σ := Nat,fr := fun i => [(21,i64 i),(7,.slW 0 0 1 i)],ob := fun i => [(0,some (.room 3 (afs x i)))],inv := fun i => Hd (spn x.c ≠ 0/\1<=i/\i<=(8 / spn x.c).toNat),meas := fun i => 8 - i,nx := 1,test := fun fr _ => (match SE.look fr 7 with | .lit _ => false | _ => true) }] else []) else fun _ _ _ => []
structure aft where
 g : Nat->Int
 n : Nat
 v : Int
def aft.os (x : aft) : List dF := [.room 3 (.row 1 x.n (fun i => [.int .i64 (x.g i)]) [])]
def ane : Ctr := { X := aft,args := fun x => [.slW 0 0 1 x.n,i64 x.v],k := 1,os := aft.os,pre := fun x => Hd (x.n < 1000),outs := [
 { Y := Nat,post := fun x i => Hd (i < x.n/\x.g i = x.v/\∀ j,j < i->x.g j ≠ x.v),ret := fun _ i => i64 i,m := 1,os := fun x _ => x.os },
 { Y := Unit,post := fun x _ => Hd (∀ j,j < x.n->x.g j ≠ x.v),ret := fun _ _ => i64 (-1),m := 1,os := fun x _ => x.os }] }
def apC (x : aft) : FuncId->uU := fun f => bif Nat.beq f 173 then (fun b _ _ => bif Nat.beq b 0 then [
 { σ := Nat,fr := fun i => [(8,i64 i)],ob := fun _ => [],inv := fun i => Hd (i<=x.n/\∀ j,j < i->x.g j ≠ x.v),meas := fun i => x.n - i }] else []) else fun _ _ _ => []
def aj7 : WTbl := [(113,ctrT xK)]
def tblS2 : WTbl := [(115,ctrT alN)]
def tblS3 : WTbl := [(113,ctrT xK),(131,ctrT QK)]
end Go.Proofs.YtenfleoejgjklaaGreat
end
section
namespace Go.Proofs.YtenfleoejgjklaaGreat
open Go SE
def VW (a : aft) : Prop := (a.n = a.n/\∀ q : Nat,q < a.n->[Value.int .i64 (a.g q)] = [Value.int .i64 (a.g q)])/\True
def anf : Prop := Value.slice none 0 0 = Value.slice none 0 0/\True
def aj8 (a : Int) : Prop := (∃ y_2 : Unit,Hd (spn a = 0)/\anf) ∨ ∃ y_2 : Unit,Hd (spn a ≠ (0 : Int))/\False/\False/\True
def aj9 (a : Int) (b : Nat) : Prop := Hd (spn a ≠ (0 : Int)/\1<=b/\b<=Int.toNat ((8 : Int) / spn a))
def ang (a : Int) : Prop := ∃ y : Unit,True/\ite (a < 0 ∨ 32<=a) (-(1 : Int)) (2 + a * 8) = (-(1 : Int))/\True
def afu (c : Int) : Prop :=
 cP (decide (c < 0)) (∃ y : Unit,True/\spn c = 0/\True) (cP (decide (c > (3 : Int))) (∃ y : Unit,True/\spn c = 0/\True) (0<=c/\∃ y : Unit,True/\spn c = IntKind.wrap .i64 (1 * @HPow.hPow Int Nat Int (@instHPow Int Nat (@instPowNat Int @Int.instNatPow)) (2 : Int) (@Min.min Nat @instMinNat (Int.toNat c) 64))/\True))
theorem afv (c : Int) : afu c = wpF Tryz.prog [] tt (noA c) 200 5 113 (xK.args c) (hO xK.k (xK.os c)) (fun v h' => eU xK.k c v h' xK.outs) := by kernel_rfl
def anh (c : Int) : Prop :=
 ∃ x : Int,True/\(x = c/\True)/\True/\∀ y : Unit,True->cP (decide (spn x > (0 : Int))) (I64 (spn x - 1)/\I64 ((spn x - 1) * 63)/\I64 (28 + (spn x - 1) * 63)/\∃ y_1 : Unit,True/\cpc c = 28 + (spn x - 1) * 63/\True) (∃ y_1 : Unit,True/\cpc c = 0/\True)
theorem akb (c : Int) : anh c = wpF Tryz.prog aj7 tt (noA c) 200 5 115 (alN.args c) (hO alN.k (alN.os c)) (fun v h' => eU alN.k c v h' alN.outs) := by kernel_rfl
def afw (c : Int) : Prop :=
 cP (decide (c < 0)) (∃ y : Unit,True/\ned c = (-(1 : Int))/\True) (∃ x : Int,True/\(x = 0/\True)/\True/\∀ y : Unit,True->cP (decide (cpc x ≥ c)) (∃ y_1 : Unit,True/\ned c = 0/\True) (I64 (1 : Int)/\∃ x_1 : Int,True/\(x_1 = 1/\True)/\True/\∀ y_1 : Unit,True->cP (decide (cpc x_1 ≥ c)) (∃ y_2 : Unit,True/\ned c = 1/\True) (I64 (2 : Int)/\∃ x_2 : Int,True/\(x_2 = 2/\True)/\True/\∀ y_2 : Unit,True->cP (decide (cpc x_2 ≥ c)) (∃ y_3 : Unit,True/\ned c = 2/\True) (I64 (3 : Int)/\∃ x_3 : Int,True/\(x_3 = 3/\True)/\True/\∀ y_3 : Unit,True->cP (decide (cpc x_3 ≥ c)) (∃ y_4 : Unit,True/\ned c = 3/\True) (I64 (4 : Int)/\∃ y_4 : Unit,True/\ned c = (-(1 : Int))/\True)))))
theorem afx (c : Int) : afw c = wpF Tryz.prog tblS2 tt (noA c) 200 5 201 (VU.args c) (hO VU.k (VU.os c)) (fun v h' => eU VU.k c v h' VU.outs) := by kernel_rfl
def afy (c : Int) : Prop :=
 cP (decide (c < 0)) (ang c) (cP (decide (c ≥ (32 : Int))) (ang c) (I64 (c * 8)/\I64 (2 + c * 8)/\∃ y : Unit,True/\ite (c < 0 ∨ 32<=c) (-(1 : Int)) (2 + c * 8) = 2 + c * 8/\True))
theorem afz (c : Int) : afy c = wpF Tryz.prog [] tt (noA c) 200 5 131 (QK.args c) (hO QK.k (QK.os c)) (fun v h' => eU QK.k c v h' QK.outs) := by kernel_rfl
def Md (c : Int) : Prop :=
 cP (decide (c < 2)) (∃ y : Unit,True/\slb c = (-(1 : Int))/\True) (cP (decide (c ≥ (258 : Int))) (∃ y : Unit,True/\slb c = (-(1 : Int))/\True) (I64 (c - 2)/\((8 : Int) = 0->False)/\I64 (Int.tdiv (c - 2) (8 : Int))/\∃ y : Unit,True/\slb c = Int.tdiv (c - 2) (8 : Int)/\True))
theorem VX (c : Int) : Md c = wpF Tryz.prog [] tt (noA c) 200 5 172 (uY.args c) (hO uY.k (uY.os c)) (fun v h' => eU uY.k c v h' uY.outs) := by kernel_rfl
def Me (x : uZ) : Prop :=
 ∃ x_1 : Int,True/\(x_1 = x.c/\True)/\True/\∀ y : Unit,True->∃ x_2 : Int,True/\(x_2 = (x.k : Int)/\True)/\True/\∀ y_1 : Unit,True->cP (BEq.beq (spn x_1) (0 : Int)) (aj8 x.c) (cP (decide (ite (x_2 < 0 ∨ 32<=x_2) (-(1 : Int)) (2 + x_2 * 8) < 0)) (aj8 x.c) ((spn x_1 = 0->False)/\I64 (Int.tdiv (8 : Int) (spn x_1))/\(∃ s : Unit,Hd (spn x.c ≠ (0 : Int))/\True/\((0 : Int) = 0/\anf)/\True)/\(∀ s : Unit,Hd (spn x.c ≠ (0 : Int))->cP (decide (0 < Int.tdiv (8 : Int) (spn x_1))) (I64 (0 * spn x_1)/\I64 (ite (x_2 < 0 ∨ 32<=x_2) (-(1 : Int)) (2 + x_2 * 8) + 0 * spn x_1)/\(2 * (0 + 1) + 1000) * 8<=281474976710656/\I64 (1 : Int)/\∃ s_1 : Nat,aj9 x.c s_1/\8 - s_1 < 9/\((s_1 : Int) = 1/\(0 = 0/\s_1 = 1)/\True)/\(s_1 = 0 + List.length [List.take 1 [Value.int .i64 (ite (x_2 < 0 ∨ 32<=x_2) (-(1 : Int)) (2 + x_2 * 8) + 0 * spn x_1)]]/\∀ q : Nat,q < s_1->[Value.int .i64 (2 + (x.k : Int) * 8 + (q : Int) * spn x.c)] = Cs.eff (fun (x_3 : Nat) => []) [(0,List.take 1 [Value.int .i64 (ite (x_2 < 0 ∨ 32<=x_2) (-(1 : Int)) (2 + x_2 * 8) + 0 * spn x_1)])] q)/\True) (aj8 x.c))/\(∀ s : Nat,aj9 x.c s->cP (decide ((s : Int) < Int.tdiv (8 : Int) (spn x_1))) (I64 ((s : Int) * spn x_1)/\I64 (ite (x_2 < 0 ∨ 32<=x_2) (-(1 : Int)) (2 + x_2 * 8) + (s : Int) * spn x_1)/\s = s/\List.all [List.take 1 [Value.int .i64 (ite (x_2 < 0 ∨ 32<=x_2) (-(1 : Int)) (2 + x_2 * 8) + (s : Int) * spn x_1)]] (fun (l : List Value) => Nat.beq (List.length l) 1 && List.all l Value.oneCell') = true/\(2 * (s + 1) + 1000) * 8<=281474976710656/\I64 ((s : Int) + 1)/\∃ s_1 : Nat,aj9 x.c s_1/\8 - s_1 < 8 - s/\((s_1 : Int) = (s : Int) + 1/\(0 = 0/\s_1 = s + 1)/\True)/\
 (s_1 = s + List.length [List.take 1 [Value.int .i64 (ite (x_2 < 0 ∨ 32<=x_2) (-(1 : Int)) (2 + x_2 * 8) + (s : Int) * spn x_1)]]/\∀ q : Nat,q < s_1->[Value.int .i64 (2 + (x.k : Int) * 8 + (q : Int) * spn x.c)] = Cs.eff (fun (i : Nat) => [Value.int .i64 (2 + (x.k : Int) * 8 + (i : Int) * spn x.c)]) [(s,List.take 1 [Value.int .i64 (ite (x_2 < 0 ∨ 32<=x_2) (-(1 : Int)) (2 + x_2 * 8) + (s : Int) * spn x_1)])] q)/\True) ((∃ y_2 : Unit,Hd (spn x.c = 0)/\False/\True) ∨ ∃ y_2 : Unit,Hd (spn x.c ≠ (0 : Int))/\(0 = 0/\Int.toNat ((8 : Int) / spn x.c) = s)/\(Int.toNat ((8 : Int) / spn x.c) = s/\∀ q : Nat,q < Int.toNat ((8 : Int) / spn x.c)->[Value.int .i64 (2 + (x.k : Int) * 8 + (q : Int) * spn x.c)] = [Value.int .i64 (2 + (x.k : Int) * 8 + (q : Int) * spn x.c)])/\True))/\True))
theorem VY (x : uZ) : Me x = wpF Tryz.prog tblS3 tt (Y5 x) 200 5 73 (vg.args x) (hO vg.k (vg.os x)) (fun v h' => eU vg.k x v h' vg.outs) := by kernel_rfl
def ani (x : aft) : Prop :=
 (∃ s : Nat,Hd (s<=x.n/\∀ j : Nat,j < s->x.g j ≠ x.v)/\True/\((s : Int) = 0/\True)/\VW x)/\(∀ s : Nat,Hd (s<=x.n/\∀ j : Nat,j < s->x.g j ≠ x.v)->cP (decide ((s : Int) < (x.n : Int))) ((0<=(s : Int)/\(s : Int) < (x.n : Int))/\0 + s < x.n/\cP (BEq.beq x.v (x.g (0 + s))) ((∃ y : Nat,Hd (y < x.n/\x.g y = x.v/\∀ j : Nat,j < y->x.g j ≠ x.v)/\(y : Int) = (s : Int)/\VW x) ∨ ∃ y : Unit,Hd (∀ j : Nat,j < x.n->x.g j ≠ x.v)/\(-(1 : Int)) = (s : Int)/\VW x) (I64 ((s : Int) + 1)/\∃ s_1 : Nat,Hd (s_1<=x.n/\∀ j : Nat,j < s_1->x.g j ≠ x.v)/\x.n - s_1 < x.n - s/\((s_1 : Int) = (s : Int) + 1/\True)/\VW x)) ((∃ y : Nat,Hd (y < x.n/\x.g y = x.v/\∀ j : Nat,j < y->x.g j ≠ x.v)/\(y : Int) = (-(1 : Int))/\VW x) ∨ ∃ y : Unit,Hd (∀ j : Nat,j < x.n->x.g j ≠ x.v)/\(-(1 : Int)) = (-(1 : Int))/\VW x))/\True
theorem akc (x : aft) : ani x = wpF Tryz.prog [] tt (apC x) 200 5 173 (ane.args x) (hO ane.k (ane.os x)) (fun v h' => eU ane.k x v h' ane.outs) := by kernel_rfl
end Go.Proofs.YtenfleoejgjklaaGreat
end
section
namespace Go.Proofs.YtenfleoejgjklaaGreat
open Go SE
set_option linter.unusedSimpArgs false
theorem dP (c : Int) : (c = 0/\spn c = 1/\cpc c = 28) ∨ (c = 1/\spn c = 2/\cpc c = 91) ∨ (c = 2/\spn c = 4/\cpc c = 217) ∨ (c = 3/\spn c = 8/\cpc c = 469) ∨ ((c < 0 ∨ 3 < c)/\spn c = 0/\cpc c = 0) := by
 by_cases h0 : c = 0
 ·subst h0; simp [spn,cpc]
 by_cases h1 : c = 1
 ·subst h1; simp [spn,cpc]
 by_cases h2 : c = 2
 ·subst h2; simp [spn,cpc]
 by_cases h3 : c = 3
 ·subst h3; simp [spn,cpc]
 simp [spn,cpc,h0,h1,h2,h3]; omega
theorem VZ (c : Int) : afu c := by
 unfold afu
 simp only [aY,aU,aT,ay,aH,bJ,bg,aN,aJ,au,aW,aV,bK,bC,bD,bF,bM,bf,bG,aZ,dY,aG,aK,ah,aj,aA,aC,aB,aF,qg,decide_eq_true_eq,decide_eq_false_iff_not]
 refine ⟨fun h => ?_,fun h => ⟨fun h2 => ?_,fun h2 => ⟨by omega,?_⟩⟩⟩
 ·rcases dP c with h' | h' | h' | h' | h' <;> omega
 ·rcases dP c with h' | h' | h' | h' | h' <;> omega
 ·have : c = 0 ∨ c = 1 ∨ c = 2 ∨ c = 3 := by omega
  rcases this with rfl | rfl | rfl | rfl <;> decide
theorem ace (c : Int) : anh c := by
 unfold anh
 simp only [aY,aU,aT,ay,aH,bJ,bg,aN,aJ,au,aW,aV,bK,bC,bD,bF,bM,bf,bG,aZ,dY,aG,aK,ah,aj,aA,aC,aB,aF,qg,decide_eq_true_eq,decide_eq_false_iff_not]
 unfold I64
 rcases dP c with h' | h' | h' | h' | h' <;> omega
theorem V3 (c : Int) : afw c := by
 unfold afw
 simp only [aY,aU,aT,ay,aH,bJ,bg,aN,aJ,au,aW,aV,bK,bC,bD,bF,bM,bf,bG,aZ,dY,aG,aK,ah,aj,aA,aC,aB,aF,qg,decide_eq_true_eq,decide_eq_false_iff_not]
 unfold I64 ned
 have e : cpc 0 = 28/\cpc 1 = 91/\cpc 2 = 217/\cpc 3 = 469 := ⟨rfl,rfl,rfl,rfl⟩
 obtain ⟨e0,e1,e2,e3⟩ := e
 rw [e0,e1,e2,e3]
 grind
theorem V4 (c : Int) : afy c := by
 unfold afy
 simp only [ang]
 simp only [aY,aU,aT,ay,aH,bJ,bg,aN,aJ,au,aW,aV,bK,bC,bD,bF,bM,bf,bG,aZ,dY,aG,aK,ah,aj,aA,aC,aB,aF,qg,decide_eq_true_eq,decide_eq_false_iff_not]
 unfold I64
 grind
theorem MB (c : Int) : Md c := by
 unfold Md
 simp only [aY,aU,aT,ay,aH,bJ,bg,aN,aJ,au,aW,aV,bK,bC,bD,bF,bM,bf,bG,aZ,dY,aG,aK,ah,aj,aA,aC,aB,aF,qg,decide_eq_true_eq,decide_eq_false_iff_not]
 refine ⟨fun h => by unfold slb; rw [if_pos (by omega)],fun h => ⟨fun h2 => by unfold slb; rw [if_pos (by omega)],fun h2 => ?_⟩⟩
 have e : (c - 2).tdiv 8 = (c - 2) / 8 := Int.tdiv_eq_ediv_of_nonneg (by omega)
 rw [e]
 exact ⟨by unfold I64; omega,by decide,by unfold I64; omega,by unfold slb; rw [if_neg (by omega)]⟩
theorem MC (x : uZ) (hx : x.k < 32) : Me x := by
 unfold Me
 simp only [aj8,anf,aj9]
 simp only [aY,aU,aT,ay,aH,bJ,bg,aN,aJ,au,aW,aV,bK,bC,bD,bF,bM,bf,bG,aZ,dY,aG,aK,ah,aj,aA,aC,aB,aF]
 have hf : (if (x.k : Int) < 0 ∨ 32<=(x.k : Int) then (-1 : Int) else 2 + x.k * 8) = 2 + x.k * 8 := if_neg (by omega)
 rw [hf]
 have hs := dP x.c
 have hdiv : spn x.c ≠ 0->Int.tdiv 8 (spn x.c) = 8 / spn x.c/\1<=8 / spn x.c/\8 / spn x.c<=8/\0 < spn x.c/\spn x.c<=8/\(8 / spn x.c) * spn x.c = 8 := fun h => by
  rcases hs with h' | h' | h' | h' | h' <;> obtain ⟨_,e,_⟩ := h' <;> rw [e] <;> first | decide | exact (h e).elim
 refine bH (fun h => .inl (by simpa using h)) fun h => bH (fun h2 => absurd (aQ h2) (by omega)) fun _ => ?_
 have hz : spn x.c ≠ 0 := by simpa using h
 obtain ⟨e1,e2,e3,e4,e5,e6⟩ := hdiv hz
 have hm : ∀ s : Nat,(s : Int)<=8->(s : Int) * spn x.c<=64/\0<=(s : Int) * spn x.c := fun s hs => ⟨by
  have := Int.mul_le_mul hs e5 (by omega) (by omega : (0 : Int)<=8); omega,Int.mul_nonneg (by omega) (by omega)⟩
 rw [e1]
 refine ⟨hz,by unfold I64; omega,hz,fun _ => bH (fun _ => ?_) fun h => absurd (aS h) (by omega),fun s hs => bH (fun h => ?_) fun h => ?_⟩
 ·refine ⟨by unfold I64; omega,by unfold I64; omega,by omega,by unfold I64; omega,1,⟨hz,by omega,by omega⟩,by omega,⟨rfl,rfl⟩,rfl,fun q hq => ?_⟩
  have : q = 0 := by omega
  subst this
  simp [Cs.eff]
 ·have h := aQ h
  obtain ⟨_,h1,h2⟩ := hs
  obtain ⟨m1,m2⟩ := hm s (by omega)
  refine ⟨by unfold I64; omega,by unfold I64; omega,rfl,by omega,by unfold I64; omega,s + 1,⟨hz,by omega,by omega⟩,by omega,⟨by omega,rfl⟩,rfl,fun q hq => ?_⟩
  simp only [Cs.eff,bW,dK,dH,eu,← Bool.decide_and]
  by_cases e : q = s
  ·subst e; rw [if_pos rfl]; rfl
  ·rw [if_neg e]
 ·have h := aS h
  exact .inr ⟨hz,by omega⟩
theorem acf (x : aft) (hx : x.n < 1000) : ani x := by
 unfold ani
 simp only [VW]
 simp only [aY,aU,aT,ay,aH,bJ,bg,aN,aJ,au,aW,aV,bK,bC,bD,bF,bM,bf,bG,aZ,dY,aG,aK,ah,aj,aA,aC,aB,aF]
 refine ⟨⟨0,⟨Nat.zero_le _,fun j hj => absurd hj (Nat.not_lt_zero j)⟩,Int.natCast_zero⟩,fun s hs => bH (fun h => ?_) fun h => ?_⟩
 ·have h := aQ h
  refine ⟨by omega,by omega,bH (fun e => .inl ⟨s,⟨by omega,(beq_iff_eq.1 e).symm,hs.2⟩,rfl⟩) fun e => ⟨by unfold I64; omega,s + 1,⟨by omega,fun j hj => ?_⟩,by omega,by omega⟩⟩
  by_cases e' : j = s
  ·subst e'; intro h'; simp [h'] at e
  ·exact hs.2 j (by omega)
 ·have h := aS h
  exact .inr fun j hj => hs.2 j (by omega)
theorem kQ : bV Tryz.prog 113 xK := dX dI mixed eY.nil noA 200 5 (fun _ => rfl) (fun _ => rfl) fun x _ => Eq.mp (afv x) (VZ x)
theorem alO : bV Tryz.prog 115 alN := dX dI mixed (.cons (bT kQ) .nil) noA 200 5 (fun _ => rfl) (fun _ => rfl) fun x _ => Eq.mp (akb x) (ace x)
theorem afA : bV Tryz.prog 201 VU := dX dI mixed (.cons (bT alO) .nil) noA 200 5 (fun _ => rfl) (fun _ => rfl) fun x _ => Eq.mp (afx x) (V3 x)
theorem afB : bV Tryz.prog 131 QK := dX dI mixed eY.nil noA 200 5 (fun _ => rfl) (fun _ => rfl) fun x _ => Eq.mp (afz x) (V4 x)
theorem afC : bV Tryz.prog 172 uY := dX dI mixed eY.nil noA 200 5 (fun _ => rfl) (fun _ => rfl) fun x _ => Eq.mp (VX x) (MB x)
theorem afD : bV Tryz.prog 73 vg := gG dI mixed (.cons (bT kQ) (.cons (bT afB) .nil)) Y5 200 5 (fun _ => rfl) (fun _ => ⟨fun _ => rfl,fun _ => rfl,trivial⟩) fun x hx => Eq.mp (VY x) (MC x (aY.1 hx))
theorem apD : bV Tryz.prog 173 ane := gG dI mixed .nil apC 200 5 (fun _ => rfl) (fun _ => ⟨fun _ => rfl,fun _ => rfl,trivial⟩) fun x hx => Eq.mp (akc x) (acf x (aY.1 hx))
end Go.Proofs.YtenfleoejgjklaaGreat
end
section
namespace Go.Proofs.YtenfleoejgjklaaGreat
open Go SE
structure cO where
 n : Nat
 cls : Nat->Int
 tk : Nat->Nat->Bool
 cnt : Nat->Int
noncomputable def gZ (p : cO) (q : Nat) : List Value := hide [if q % 10 = 0 then .int .i64 (p.cls (q / 10)) else if q % 10 = 9 then .int .i64 (p.cnt (q / 10)) else .bool (p.tk (q / 10) (q % 10 - 1))]
theorem kM (p : cO) (q : Nat) : gZ p q = [if q % 10 = 0 then .int .i64 (p.cls (q / 10)) else if q % 10 = 9 then .int .i64 (p.cnt (q / 10)) else .bool (p.tk (q / 10) (q % 10 - 1))] := pO _
namespace cO
def ok (p : cO) : Prop := 1<=p.n/\p.n<=32/\∀ i,i < p.n->-1<=p.cls i/\p.cls i<=3/\0<=p.cnt i/\p.cnt i<=8
noncomputable def V5 (p : cO) : dF := .cells 177 (.row 1 (p.n * 10) (gZ p) [])
noncomputable def os (p : cO) : List dF := [.cells 245 (.av [.slE 1 0 10 p.n p.n]),p.V5]
def many (c : Int) : Nat := (8 / spn c).toNat
def full (p : cO) (c : Int) (i : Nat) : Prop := p.cls i = c->∀ k,k < many c->p.tk i k = true
def takes (p : cO) (c : Int) (i k : Nat) : Prop := i < p.n/\k < many c/\p.tk i k = (if p.cls i = c then false else p.tk i k) /\
 ((p.cls i = c/\(∀ j,j < k->p.tk i j = true)/\∀ j,j < i->p.full c j) ∨ (p.cls i = -1/\k = 0/\(∀ j,j < p.n->p.full c j)/\∀ j,j < i->p.cls j ≠ -1))
def take (p : cO) (c : Int) (i k : Nat) : cO := { p with cls := fun j => if j = i then c else p.cls j,tk := fun j q => if j = i/\q = k then true else p.tk j q,cnt := fun j => if j = i then p.cnt j + 1 else p.cnt j }
def give (p : cO) (i k : Nat) : cO := { p with cls := fun j => if j = i/\p.cnt j = 1 then -1 else p.cls j,tk := fun j q => if j = i/\q = k then false else p.tk j q,cnt := fun j => if j = i then p.cnt j - 1 else p.cnt j }
end cO
def gJ (n i : Nat) : cO := ⟨n,fun j => if j < i then -1 else 0,fun _ _ => false,fun _ => 0⟩
noncomputable def alP (n : Nat) : FuncId->uU := fun f => bif Nat.beq f 82 then (fun b _ _ => bif Nat.beq b 0 then [
 { σ := Nat,fr := fun i => [(22,i64 i)],ob := fun i => [(0,some (gJ n i).V5)],inv := fun i => i<=n,meas := fun i => n - i }] else []) else fun _ _ _ => []
structure xM where
 p : cO
 i : Nat
noncomputable def V6 : Ctr := { X := xM,args := fun x => [.ou 0 x.i 10 0],k := 1,os := fun x => [x.p.V5],pre := fun x => Hd (x.p.ok/\x.i < x.p.n/\0<=x.p.cls x.i),outs := [
 { Y := Nat,post := fun x k => Hd (k < cO.many (x.p.cls x.i)/\x.p.tk x.i k = false/\∀ j,j < k->x.p.tk x.i j = true),ret := fun _ k => i64 k,m := 1,os := fun x _ => [x.p.V5] },
 { Y := Unit,post := fun x _ => Hd (∀ k,k < cO.many (x.p.cls x.i)->x.p.tk x.i k = true),ret := fun _ _ => i64 (-1),m := 1,os := fun x _ => [x.p.V5] }] }
noncomputable def alQ (x : xM) : FuncId->uU := fun f => bif Nat.beq f 276 then (fun b _ _ => bif Nat.beq b 0 then [
 { σ := Nat,fr := fun k => [(10,i64 k)],ob := fun _ => [],inv := fun k => Hd (k<=cO.many (x.p.cls x.i)/\∀ j,j < k->x.p.tk x.i j = true),meas := fun k => 8 - k }] else []) else fun _ _ _ => []
structure kN where
 p : cO
 c : Int
noncomputable def afE : jw := { X := kN,args := fun x => [.ptr 0 0,i64 x.c],k := 1,l := fun x => [.m x.p.os],pre := fun x => Hd x.p.ok,outs := [
 { Y := Unit,post := fun x _ => Hd (spn x.c = 0),ret := fun _ _ => .tup [i64 0,i64 1],m := 1,l := fun x _ => [.m x.p.os] },
 { Y := Unit,post := fun x _ => Hd (spn x.c ≠ 0/\∀ i,i < x.p.n->x.p.cls i ≠ -1/\x.p.full x.c i),ret := fun _ _ => .tup [i64 0,i64 4],m := 1,l := fun x _ => [.m x.p.os] },
 { Y := Nat × Nat,post := fun x y => Hd (spn x.c ≠ 0/\x.p.takes x.c y.1 y.2),ret := fun x y => .tup [i64 (2 + y.1 * 8 + y.2 * spn x.c),i64 0],m := 1,l := fun x y => [.m (x.p.take x.c y.1 y.2).os] }] }
noncomputable def alR (x : kN) : FuncId->uU := fun f => bif Nat.beq f 242 then (fun b _ _ =>
 bif Nat.beq b 0 then [{ σ := Nat,fr := fun i => [(14,i64 i)],ob := fun _ => [],inv := fun i => Hd (i<=x.p.n/\∀ j,j < i->x.p.full x.c j),meas := fun i => x.p.n - i }] else
 bif Nat.beq b 2 then [{ σ := Nat,fr := fun i => [(39,i64 i)],ob := fun _ => [],inv := fun i => Hd (i<=x.p.n/\(∀ j,j < x.p.n->x.p.full x.c j)/\∀ j,j < i->x.p.cls j ≠ -1),meas := fun i => x.p.n - i }] else []) else fun _ _ _ => []
noncomputable def V7 : Ctr := { X := kN,args := fun x => [.ptr 0 0,i64 x.c],k := 2,os := fun x => x.p.os,pre := fun x => Hd (x.p.ok/\spn x.c ≠ 0),outs := [
 { Y := Unit,post := fun x _ => Hd (∀ i,i < x.p.n->x.p.cls i ≠ -1/\x.p.full x.c i),ret := fun _ _ => .tup [i64 0,i64 0,boo false],m := 2,os := fun x _ => x.p.os },
 { Y := Nat × Nat,post := fun x y => Hd (x.p.takes x.c y.1 y.2),ret := fun _ y => .tup [i64 y.1,i64 y.2,boo true],m := 2,os := fun x _ => x.p.os }] }
structure En where
 p : cO
 c : Int
 i : Nat
 k : Nat
noncomputable def Eo : Ctr := det En (fun x => [.ou 0 x.i 10 0,i64 x.c,i64 x.k]) 1 (fun x => [x.p.V5]) (fun x => Hd (x.p.ok/\x.i < x.p.n/\x.k < 8)) (fun _ => .tup []) 1 (fun x => [(x.p.take x.c x.i x.k).V5])
structure fZ where
 p : cO
 i : Nat
 k : Nat
def fZ.ok (x : fZ) : Prop := x.p.ok/\x.i < x.p.n/\0<=x.p.cls x.i/\x.k < cO.many (x.p.cls x.i)/\x.p.tk x.i x.k = true
def fZ.line (x : fZ) : Int := 2 + x.i * 8 + x.k * spn (x.p.cls x.i)
noncomputable def atC : Ctr := det fZ (fun x => [.ptr 0 0,i64 x.line]) 2 (fun x => x.p.os) (fun x => Hd x.ok) (fun x => .tup [.ou 1 x.i 10 0,i64 x.k,boo true]) 2 (fun x => x.p.os)
noncomputable def afF : jw := og fZ (fun x => [.ptr 0 0,i64 x.line]) 1 (fun x => [.m x.p.os]) (fun x => Hd x.ok) (fun _ => i64 0) 1 (fun x => [.m (x.p.give x.i x.k).os])
noncomputable def ofP : jw := og fZ (fun x => [.ptr 0 0,i64 x.line]) 1 (fun x => [.m x.p.os]) (fun x => Hd x.ok) (fun x => .tup [i64 (x.p.cls x.i),boo true]) 1 (fun x => [.m x.p.os])
noncomputable def tblP0 : WTbl := [(276,ctrT V6)]
noncomputable def tblP1 : WTbl := [(113,ctrT xK),(131,ctrT QK),(242,ctrT V7),(243,ctrT Eo)]
noncomputable def tblP2 : WTbl := [(113,ctrT xK),(172,ctrT uY),(73,ctrT vg),(173,ctrT ane)]
noncomputable def apE : WTbl := [(116,ctrT atC)]
end Go.Proofs.YtenfleoejgjklaaGreat
end
section
namespace Go.Proofs.YtenfleoejgjklaaGreat
open Go SE
def xO (a : Nat) (b : Nat) : Prop := (0 = 0/\a = b/\a = b)/\True
def akd (a : Int) (b : fZ) (c : fZ) (d : Int) : Prop := cP (BEq.beq a (0 : Int)) (b.i * 10 + 0 < b.p.n * 10/\∃ y_1 : Unit,True/\(0 : Int) = 0/\xO c.p.n b.p.n/\(c.p.n * 10 = b.p.n * 10/\∀ q : Nat,q < c.p.n * 10->Cs.eff (gZ (c.p.give c.i c.k)) [] q = Cs.eff (gZ b.p) [(b.i * 10 + 0,[Value.int .i64 (-(1 : Int))]),(b.i * 10 + 9,[Value.int .i64 (d - 1)]),(b.i * 10 + (1 + b.k * 1),[Value.bool false])] q)/\True) (∃ y_1 : Unit,True/\(0 : Int) = 0/\xO c.p.n b.p.n/\(c.p.n * 10 = b.p.n * 10/\∀ q : Nat,q < c.p.n * 10->Cs.eff (gZ (c.p.give c.i c.k)) [] q = Cs.eff (gZ b.p) [(b.i * 10 + 9,[Value.int .i64 (d - 1)]),(b.i * 10 + (1 + b.k * 1),[Value.bool false])] q)/\True)
def anj (a : Int) (b : fZ) (c : fZ) : Prop := I64 (a - 1)/\b.i * 10 + 9 < b.p.n * 10/\b.i * 10 + 9 < b.p.n * 10/\cP (Nat.beq (b.i * 10 + 9) (b.i * 10 + 9)) (∃ z_1 : Int,some (Value.int .i64 (a - 1)) = some (Value.int .i64 z_1)/\akd z_1 b c a) (cP (Nat.beq (b.i * 10 + 9) (b.i * 10 + (1 + b.k * 1))) (∃ z_1 : Int,some (Value.bool false) = some (Value.int .i64 z_1)/\akd z_1 b c a) (∃ z_1 : Int,getElem? (gZ b.p (b.i * 10 + 9)) 0 = some (Value.int .i64 z_1)/\akd z_1 b c a))
def xP (a : cO) : Prop := a.n * 10 = a.n * 10/\∀ q : Nat,q < a.n * 10->Cs.eff (gZ a) [] q = Cs.eff (gZ a) [] q
def GY (a : cO) (b : cO) : Prop := a.n * 10 = b.n * 10/\∀ q : Nat,q < a.n * 10->Cs.eff (gZ a) [] q = Cs.eff (gZ b) [] q
def Y6 (a : Int) (b : En) : Prop := I64 (a + 1)/\b.i * 10 + 9 < b.p.n * 10/\∃ y : Unit,True/\True/\(b.p.n * 10 = b.p.n * 10/\∀ q : Nat,q < b.p.n * 10->Cs.eff (gZ (b.p.take b.c b.i b.k)) [] q = Cs.eff (gZ b.p) [(b.i * 10 + 9,[Value.int .i64 (a + 1)]),(b.i * 10 + (1 + b.k * 1),[Value.bool true]),(b.i * 10 + 0,[Value.int .i64 b.c])] q)/\True
def nN (a : Nat) : Prop := (0 = 0/\a = a/\a = a)/\True
def qh (a : cO) : Prop := nN a.n/\xP a/\True
def xQ (a : cO) (b : cO) : Prop := xO a.n b.n/\GY a b/\True
def Y7 (a : Nat) (b : kN) : Prop := Hd (a<=b.p.n/\(∀ j : Nat,j < b.p.n->b.p.full b.c j)/\∀ j : Nat,j < a->b.p.cls j ≠ (-(1 : Int)))
def Je (a : kN) : Prop := Hd (∀ i : Nat,i < a.p.n->a.p.cls i ≠ (-(1 : Int))/\a.p.full a.c i)
def QL (a : cO) : Prop := xP a/\nN a.n/\True
def Y8 (a : kN) : Prop := Hd (spn a.c ≠ (0 : Int)/\∀ i : Nat,i < a.p.n->a.p.cls i ≠ (-(1 : Int))/\a.p.full a.c i)
def QM (a : Nat) (b : xM) : Prop := Hd (a < cO.many (b.p.cls b.i)/\b.p.tk b.i a = false/\∀ j : Nat,j < a->b.p.tk b.i j = true)
def Y9 (a : Nat) (b : xM) : Prop := Hd (a<=cO.many (b.p.cls b.i)/\∀ j : Nat,j < a->b.p.tk b.i j = true)
def QN (a : Nat) (b : kN) : Prop := Hd (a<=b.p.n/\∀ j : Nat,j < a->b.p.full b.c j)
def QO (a : xM) : Prop := Hd (∀ k : Nat,k < cO.many (a.p.cls a.i)->a.p.tk a.i k = true)
def afG (a : cO) (b : Nat) (c : En) : Prop := xO a.n b/\(a.n * 10 = c.p.n * 10/\∀ q : Nat,q < a.n * 10->Cs.eff (gZ a) [] q = Cs.eff (gZ (c.p.take c.c c.i c.k)) [] q)/\True
def xR (a : Nat) : Prop := 0<=(a : Int)/\(a : Int) < 8
def Za : Prop := ∃ y : Unit,True/\(False/\(0 : Int) = 2/\True)/\False/\False/\True
def xU (a : Nat) (b : Nat) : Prop := (a : Int) = (b : Int) + 1/\True
def afH (a : fZ) : Prop := ∃ y_1 : Unit,True/\(False/\(a.k : Int) = 0/\true = false/\True)/\qh a.p
def afI (n : Nat) : Prop :=
 cP (decide ((n : Int) < 1)) Za (I64 (256 : Int)/\((8 : Int) = 0->False)/\I64 (32 : Int)/\cP (decide ((n : Int) > (32 : Int))) Za ((0<=(n : Int)/\(n : Int)<=(n : Int)/\24 * (n : Int)<=281474976710656/\(n : Int) < 4611686018427387904)/\(∃ s : Nat,s<=n/\True/\((s : Int) = 0/\True)/\nN n/\(n * 10 = n * 10/\∀ q : Nat,∀ j : Nat,q < n->j < 10->∃ v : Value,getElem? [Value.int .i64 0,Value.bool false,Value.bool false,Value.bool false,Value.bool false,Value.bool false,Value.bool false,Value.bool false,Value.bool false,Value.int .i64 0] j = some v/\Cs.eff (gZ (gJ n s)) [] (q * 10 + j) = [v])/\True)/\(∀ s : Nat,s<=n->cP (decide ((s : Int) < (n : Int))) ((0<=(s : Int)/\(s : Int) < (n : Int))/\(0 + s) * 10 + 0 < n * 10/\I64 ((s : Int) + 1)/\∃ s_1 : Nat,s_1<=n/\n - s_1 < n - s/\xU s_1 s/\nN n/\(n * 10 = n * 10/\∀ q : Nat,q < n * 10->Cs.eff (gZ (gJ n s_1)) [] q = Cs.eff (gZ (gJ n s)) [((0 + s) * 10 + 0,[Value.int .i64 (-(1 : Int))])] q)/\True) (∃ y : Unit,True/\(0 = 0/\(0 : Int) = 0/\True)/\nN n/\(n * 10 = n * 10/\∀ q : Nat,q < n * 10->Cs.eff (gZ (gJ n n)) [] q = Cs.eff (gZ (gJ n s)) [] q)/\True))/\True))
def afJ (x : xM) : Prop :=
 x.i * 10 + 0 < x.p.n * 10/\∃ z : Int,getElem? (gZ x.p (x.i * 10 + 0)) 0 = some (Value.int .i64 z)/\∃ x_1 : Int,True/\(x_1 = z/\True)/\True/\∀ y : Unit,True->(spn x_1 = 0->False)/\I64 (Int.tdiv (8 : Int) (spn x_1))/\(∃ s : Nat,Y9 s x/\True/\((s : Int) = 0/\True)/\xP x.p/\True)/\(∀ s : Nat,Y9 s x->cP (decide ((s : Int) < Int.tdiv (8 : Int) (spn x_1))) (xR s/\x.i * 10 + (1 + s * 1) < x.p.n * 10/\∃ b : Bool,getElem? (gZ x.p (x.i * 10 + (1 + s * 1))) 0 = some (Value.bool b)/\cP (Bool.not b) ((∃ y_1 : Nat,QM y_1 x/\(y_1 : Int) = (s : Int)/\xP x.p/\True) ∨ ∃ y_1 : Unit,QO x/\(-(1 : Int)) = (s : Int)/\xP x.p/\True) (I64 ((s : Int) + 1)/\∃ s_1 : Nat,Y9 s_1 x/\8 - s_1 < 8 - s/\xU s_1 s/\xP x.p/\True)) ((∃ y_1 : Nat,QM y_1 x/\(y_1 : Int) = (-(1 : Int))/\xP x.p/\True) ∨ ∃ y_1 : Unit,QO x/\(-(1 : Int)) = (-(1 : Int))/\xP x.p/\True))/\True
theorem afK (x : xM) : afJ x = wpF Tryz.prog aj7 tt (alQ x) 200 5 276 (V6.args x) (hO V6.k (V6.os x)) (fun v h' => eU V6.k x v h' V6.outs) := by kernel_rfl
def afL (x : kN) : Prop :=
 (∃ s : Nat,QN s x/\True/\((s : Int) = 0/\True)/\QL x.p)/\(∀ s : Nat,QN s x->cP (decide ((s : Int) < (x.p.n : Int))) ((0<=(s : Int)/\(s : Int) < (x.p.n : Int))/\(0 + s) * 10 + 0 < x.p.n * 10/\∃ z : Int,getElem? (gZ x.p ((0 + s) * 10 + 0)) 0 = some (Value.int .i64 z)/\cP (BEq.beq z x.c) (∃ x_1 : xM,Hd (x_1.p.ok/\x_1.i < x_1.p.n/\0<=x_1.p.cls x_1.i)/\((x_1.i = 0 + s/\0 = 0)/\True)/\(GY x_1.p x.p/\True)/\(∀ y : Nat,QM y x_1->(∃ y_1 : Unit,Je x/\(0 = (s : Int)/\0 = (y : Int)/\false = true/\True)/\nN x.p.n/\GY x.p x_1.p/\True) ∨ ∃ y_1 : Prod Nat Nat,Hd (x.p.takes x.c y_1.1 y_1.2)/\((y_1.1 : Int) = (s : Int)/\(y_1.2 : Int) = (y : Int)/\true = true/\True)/\nN x.p.n/\GY x.p x_1.p/\True)/\∀ y : Unit,QO x_1->I64 ((s : Int) + 1)/\∃ s_1 : Nat,QN s_1 x/\x.p.n - s_1 < x.p.n - s/\xU s_1 s/\GY x.p x_1.p/\nN x.p.n/\True) (I64 ((s : Int) + 1)/\∃ s_1 : Nat,QN s_1 x/\x.p.n - s_1 < x.p.n - s/\xU s_1 s/\QL x.p)) ((∃ s_1 : Nat,Y7 s_1 x/\True/\((s_1 : Int) = 0/\True)/\QL x.p)/\(∀ s_1 : Nat,Y7 s_1 x->cP (decide ((s_1 : Int) < (x.p.n : Int))) ((0<=(s_1 : Int)/\(s_1 : Int) < (x.p.n : Int))/\(0 + s_1) * 10 + 0 < x.p.n * 10/\∃ z : Int,getElem? (gZ x.p ((0 + s_1) * 10 + 0)) 0 = some (Value.int .i64 z)/\cP (BEq.beq z (-(1 : Int))) ((∃ y : Unit,Je x/\(0 = (s_1 : Int)/\(0 : Int) = 0/\false = true/\True)/\qh x.p) ∨ ∃ y : Prod Nat Nat,Hd (x.p.takes x.c y.1 y.2)/\((y.1 : Int) = (s_1 : Int)/\(y.2 : Int) = 0/\true = true/\True)/\qh x.p) (I64 ((s_1 : Int) + 1)/\∃ s_2 : Nat,Y7 s_2 x/\x.p.n - s_2 < x.p.n - s_1/\xU s_2 s_1/\QL x.p)) ((∃ y : Unit,Je x/\((0 : Int) = 0/\(0 : Int) = 0/\false = false/\True)/\
 qh x.p) ∨ ∃ y : Prod Nat Nat,Hd (x.p.takes x.c y.1 y.2)/\((y.1 : Int) = 0/\(y.2 : Int) = 0/\true = false/\True)/\qh x.p))/\True))/\True
theorem afM (x : kN) : afL x = wpF Tryz.prog tblP0 tt (alR x) 200 5 242 (V7.args x) (hO V7.k (V7.os x)) (fun v h' => eU V7.k x v h' V7.outs) := by kernel_rfl
def V8 (x : En) : Prop :=
 x.i * 10 + 0 < x.p.n * 10/\xR x.k/\x.i * 10 + (1 + x.k * 1) < x.p.n * 10/\x.i * 10 + 9 < x.p.n * 10/\cP (Nat.beq (x.i * 10 + 9) (x.i * 10 + (1 + x.k * 1))) (∃ z : Int,some (Value.bool true) = some (Value.int .i64 z)/\Y6 z x) (cP (Nat.beq (x.i * 10 + 9) (x.i * 10 + 0)) (∃ z : Int,some (Value.int .i64 x.c) = some (Value.int .i64 z)/\Y6 z x) (∃ z : Int,getElem? (gZ x.p (x.i * 10 + 9)) 0 = some (Value.int .i64 z)/\Y6 z x))
theorem acg (x : En) : V8 x = wpF Tryz.prog [] tt (noA x) 200 5 243 (Eo.args x) (hO Eo.k (Eo.os x)) (fun v h' => eU Eo.k x v h' Eo.outs) := by kernel_rfl
def afN (x : kN) : Prop :=
 ∃ x_1 : Int,True/\(x_1 = x.c/\True)/\True/\∀ y : Unit,True->cP (BEq.beq (spn x_1) (0 : Int)) ((∃ y_1 : Unit,Hd (spn x.c = 0)/\((0 : Int) = 0/\(1 : Int) = 1/\True)/\qh x.p) ∨ (∃ y_1 : Unit,Y8 x/\((0 : Int) = 0/\(4 : Int) = 1/\True)/\qh x.p) ∨ ∃ y_1 : Prod Nat Nat,Hd (spn x.c ≠ (0 : Int)/\x.p.takes x.c y_1.1 y_1.2)/\(2 + (y_1.1 : Int) * 8 + (y_1.2 : Int) * spn x.c = 0/\(0 : Int) = 1/\True)/\nN x.p.n/\(x.p.n * 10 = x.p.n * 10/\∀ q : Nat,q < x.p.n * 10->Cs.eff (gZ (x.p.take x.c y_1.1 y_1.2)) [] q = Cs.eff (gZ x.p) [] q)/\True) (∃ x_2 : kN,Hd (x_2.p.ok/\spn x_2.c ≠ (0 : Int))/\(0 = 0/\x_2.c = x.c/\True)/\xQ x_2.p x.p/\(∀ y_1 : Unit,Je x_2->(∃ y_2 : Unit,Hd (spn x.c = 0)/\((0 : Int) = 0/\(1 : Int) = 4/\True)/\xQ x.p x_2.p) ∨ (∃ y_2 : Unit,Y8 x/\((0 : Int) = 0/\(4 : Int) = 4/\True)/\xQ x.p x_2.p) ∨ ∃ y_2 : Prod Nat Nat,Hd (spn x.c ≠ (0 : Int)/\x.p.takes x.c y_2.1 y_2.2)/\(2 + (y_2.1 : Int) * 8 + (y_2.2 : Int) * spn x.c = 0/\(0 : Int) = 4/\True)/\xO x.p.n x_2.p.n/\(x.p.n * 10 = x_2.p.n * 10/\∀ q : Nat,q < x.p.n * 10->Cs.eff (gZ (x.p.take x.c y_2.1 y_2.2)) [] q = Cs.eff (gZ x_2.p) [] q)/\True)/\∀ y_1 : Prod Nat Nat,Hd (x_2.p.takes x_2.c y_1.1 y_1.2)->(0<=(y_1.1 : Int)/\(y_1.1 : Int) < (x_2.p.n : Int))/\∃ x_3 : En,Hd (x_3.p.ok/\x_3.i < x_3.p.n/\x_3.k < 8)/\((x_3.i = 0 + y_1.1/\0 = 0)/\x_3.c = x.c/\(x_3.k : Int) = (y_1.2 : Int)/\True)/\(GY x_3.p x_2.p/\True)/\∀ y_2 : Unit,True->∃ x_4 : Int,True/\(x_4 = (y_1.1 : Int)/\True)/\True/\∀ y_3 : Unit,True->∃ x_5 : Int,True/\(x_5 = x.c/\True)/\True/\∀ y_4 : Unit,True->I64 ((y_1.2 : Int) * spn x_5)/\I64 (ite (x_4 < 0 ∨ 32<=x_4) (-(1 : Int)) (2 + x_4 * 8) + (y_1.2 : Int) * spn x_5)/\
 ((∃ y_5 : Unit,Hd (spn x.c = 0)/\(0 = ite (x_4 < 0 ∨ 32<=x_4) (-(1 : Int)) (2 + x_4 * 8) + (y_1.2 : Int) * spn x_5/\(1 : Int) = 0/\True)/\afG x.p x_2.p.n x_3) ∨ (∃ y_5 : Unit,Y8 x/\(0 = ite (x_4 < 0 ∨ 32<=x_4) (-(1 : Int)) (2 + x_4 * 8) + (y_1.2 : Int) * spn x_5/\(4 : Int) = 0/\True)/\afG x.p x_2.p.n x_3) ∨ ∃ y_5 : Prod Nat Nat,Hd (spn x.c ≠ (0 : Int)/\x.p.takes x.c y_5.1 y_5.2)/\(2 + (y_5.1 : Int) * 8 + (y_5.2 : Int) * spn x.c = ite (x_4 < 0 ∨ 32<=x_4) (-(1 : Int)) (2 + x_4 * 8) + (y_1.2 : Int) * spn x_5/\(0 : Int) = 0/\True)/\xO x.p.n x_2.p.n/\(x.p.n * 10 = x_3.p.n * 10/\∀ q : Nat,q < x.p.n * 10->Cs.eff (gZ (x.p.take x.c y_5.1 y_5.2)) [] q = Cs.eff (gZ (x_3.p.take x_3.c x_3.i x_3.k)) [] q)/\True))
theorem afO (x : kN) : afN x = wpF Tryz.prog tblP1 tt (noA x) 200 5 202 (afE.args x) (hO 2 (dN 1 (afE.l x))) (fun v h' => dA 1 x v h' afE.outs) := by kernel_rfl
def atVC (x : fZ) : Prop :=
 ∃ x_1 : Int,True/\(x_1 = x.line/\True)/\True/\∀ y : Unit,True->cP (decide (slb x_1 < 0)) (afH x) (cP (decide (slb x_1 ≥ (x.p.n : Int))) (afH x) ((0<=slb x_1/\slb x_1 < (x.p.n : Int))/\(0 + Int.toNat (slb x_1)) * 10 + 0 < x.p.n * 10/\∃ z : Int,getElem? (gZ x.p ((0 + Int.toNat (slb x_1)) * 10 + 0)) 0 = some (Value.int .i64 z)/\∃ x_2 : uZ,Hd (x_2.k < 32)/\((x_2.k : Int) = slb x_1/\x_2.c = z/\True)/\True/\(∀ y_1 : Unit,Hd (spn x_2.c = 0)->∃ x_3 : aft,Hd (x_3.n < 1000)/\(False/\x_3.v = x.line/\True)/\(False/\True)/\(∀ y_2 : Nat,Hd (y_2 < x_3.n/\x_3.g y_2 = x_3.v/\∀ j : Nat,j < y_2->x_3.g j ≠ x_3.v)->xR y_2/\(0 + Int.toNat (slb x_1)) * 10 + (1 + y_2 * 1) < x.p.n * 10/\∃ b : Bool,getElem? (gZ x.p ((0 + Int.toNat (slb x_1)) * 10 + (1 + y_2 * 1))) 0 = some (Value.bool b)/\∃ y_3 : Unit,True/\((x.i = 0 + Int.toNat (slb x_1)/\0 = 0)/\(x.k : Int) = (y_2 : Int)/\true = b/\True)/\False/\xP x.p/\True)/\∀ y_2 : Unit,Hd (∀ j : Nat,j < x_3.n->x_3.g j ≠ x_3.v)->∃ y_3 : Unit,True/\((x.i = 0 + Int.toNat (slb x_1)/\0 = 0)/\(x.k : Int) = (-(1 : Int))/\true = false/\True)/\False/\xP x.p/\True)/\∀ y_1 : Unit,Hd (spn x_2.c ≠ (0 : Int))->∃ x_3 : aft,Hd (x_3.n < 1000)/\((0 = 0/\x_3.n = Int.toNat ((8 : Int) / spn x_2.c))/\x_3.v = x.line/\True)/\((x_3.n = Int.toNat ((8 : Int) / spn x_2.c)/\∀ q : Nat,q < x_3.n->[Value.int .i64 (x_3.g q)] = [Value.int .i64 (2 + (x_2.k : Int) * 8 + (q : Int) * spn x_2.c)])/\True)/\(∀ y_2 : Nat,Hd (y_2 < x_3.n/\x_3.g y_2 = x_3.v/\∀ j : Nat,j < y_2->x_3.g j ≠ x_3.v)->xR y_2/\(0 + Int.toNat (slb x_1)) * 10 + (1 + y_2 * 1) < x.p.n * 10/\∃ b : Bool,getElem? (gZ x.p ((0 + Int.toNat (slb x_1)) * 10 + (1 + y_2 * 1))) 0 = some (Value.bool b)/\
 ∃ y_3 : Unit,True/\((x.i = 0 + Int.toNat (slb x_1)/\0 = 0)/\(x.k : Int) = (y_2 : Int)/\true = b/\True)/\qh x.p)/\∀ y_2 : Unit,Hd (∀ j : Nat,j < x_3.n->x_3.g j ≠ x_3.v)->∃ y_3 : Unit,True/\((x.i = 0 + Int.toNat (slb x_1)/\0 = 0)/\(x.k : Int) = (-(1 : Int))/\true = false/\True)/\qh x.p))
theorem ank (x : fZ) : atVC x = wpF Tryz.prog tblP2 tt (noA x) 200 5 116 (atC.args x) (hO atC.k (atC.os x)) (fun v h' => eU atC.k x v h' atC.outs) := by kernel_rfl
def afP (x : fZ) : Prop :=
 ∃ x_1 : fZ,Hd x_1.ok/\(0 = 0/\x_1.line = x.line/\True)/\xQ x_1.p x.p/\∀ y : Unit,True->xR x_1.k/\x_1.i * 10 + (1 + x_1.k * 1) < x_1.p.n * 10/\x_1.i * 10 + 9 < x_1.p.n * 10/\cP (Nat.beq (x_1.i * 10 + 9) (x_1.i * 10 + (1 + x_1.k * 1))) (∃ z : Int,some (Value.bool false) = some (Value.int .i64 z)/\anj z x_1 x) (∃ z : Int,getElem? (gZ x_1.p (x_1.i * 10 + 9)) 0 = some (Value.int .i64 z)/\anj z x_1 x)
theorem afQ (x : fZ) : afP x = wpF Tryz.prog apE tt (noA x) 200 5 65 (afF.args x) (hO 2 (dN 1 (afF.l x))) (fun v h' => dA 1 x v h' afF.outs) := by kernel_rfl
def ofVC (x : fZ) : Prop :=
 ∃ x_1 : fZ,Hd x_1.ok/\(0 = 0/\x_1.line = x.line/\True)/\xQ x_1.p x.p/\∀ y : Unit,True->x_1.i * 10 + 0 < x_1.p.n * 10/\∃ z : Int,getElem? (gZ x_1.p (x_1.i * 10 + 0)) 0 = some (Value.int .i64 z)/\∃ y_1 : Unit,True/\(x.p.cls x.i = z/\true = true/\True)/\xQ x.p x_1.p
theorem anl (x : fZ) : ofVC x = wpF Tryz.prog apE tt (noA x) 200 5 246 (ofP.args x) (hO 2 (dN 1 (ofP.l x))) (fun v h' => dA 1 x v h' ofP.outs) := by kernel_rfl
end Go.Proofs.YtenfleoejgjklaaGreat
end
section
namespace Go.Proofs.YtenfleoejgjklaaGreat
open Go SE
set_option linter.unusedSimpArgs false
theorem gI (c : Int) : (c = 0/\spn c = 1/\cO.many c = 8) ∨ (c = 1/\spn c = 2/\cO.many c = 4) ∨ (c = 2/\spn c = 4/\cO.many c = 2) ∨ (c = 3/\spn c = 8/\cO.many c = 1) ∨ ((c < 0 ∨ 3 < c)/\spn c = 0/\cO.many c = 0) := by
 have := dP c
 unfold cO.many
 rcases this with h | h | h | h | h <;> obtain ⟨h1,h2,_⟩ := h <;> rw [h2] <;> simp [h1]
theorem xW {c : Int} (h : 0<=c/\c<=3) : Int.tdiv 8 (spn c) = cO.many c/\spn c ≠ 0/\1<=cO.many c/\cO.many c<=8 := by
 rcases gI c with h' | h' | h' | h' | h' <;> obtain ⟨h1,h2,h3⟩ := h' <;> first | (rw [h2,h3]; decide) | omega
theorem V9 (n : Nat) (hn : 1<=n/\n<=32) : afI n := by
 unfold afI
 simp only [Za,nN,xU]
 simp only [aY,aU,aT,ay,aH,bJ,bg,aN,aJ,au,aW,aV,bK,bC,bD,bF,bM,bf,bG,aZ,dY,aG,aK,ah,aj,aA,aC,aB,aF]
 refine bH (fun h => absurd (aQ h) (by omega)) fun _ => ⟨by unfold I64; omega,by decide,by unfold I64; omega,bH (fun h => absurd (aQ h) (by omega)) fun _ => ⟨by omega,⟨0,by omega,rfl,fun q j hq hj => ?_⟩,fun s hs => bH (fun h => ?_) fun h => ?_⟩⟩
 ·rw [kM,show (q * 10 + j) % 10 = j by omega]
  simp only [gJ,Nat.not_lt_zero,if_false]
  match j,hj with
  | 0,_ | 1,_ | 2,_ | 3,_ | 4,_ | 5,_ | 6,_ | 7,_ | 8,_ | 9,_ => exact ⟨_,rfl,rfl⟩
 ·have h := aQ h
  refine ⟨by omega,by omega,by unfold I64; omega,s + 1,by omega,by omega,by omega,fun q hq => ?_⟩
  simp only [Cs.eff,bW,dK,dH,eu,← Bool.decide_and,kM,gJ]; grind
 ·have : s = n := by have := aS h; omega
  subst this
  exact fun q _ => rfl
theorem Wh (x : xM) (hx : x.p.ok/\x.i < x.p.n/\0<=x.p.cls x.i) : afJ x := by
 obtain ⟨⟨h1,h2,h3⟩,hi,hc⟩ := hx
 obtain ⟨m1,m2,m3,m4⟩ := xW ⟨hc,(h3 _ hi).2.1⟩
 unfold afJ
 simp only [Y9,xP,xR,QM,QO,xU]
 simp only [aY,aU,aT,ay,aH,bJ,bg,aN,aJ,au,aW,aV,bK,bC,bD,bF,bM,bf,bG,aZ,dY,aG,aK,ah,aj,aA,aC,aB,aF]
 refine ⟨by omega,x.p.cls x.i,?_,m2,by rw [m1]; unfold I64; omega,⟨0,⟨Nat.zero_le _,fun j hj => absurd hj (Nat.not_lt_zero j)⟩,Int.natCast_zero⟩,fun s hs => ?_⟩
 ·rw [kM,show x.i * 10 % 10 = 0 by omega,show x.i * 10 / 10 = x.i by omega]; rfl
 rw [m1]
 refine bH (fun h => ?_) fun h => ?_
 ·have h := aQ h
  refine ⟨by omega,by omega,x.p.tk x.i s,?_,bH (fun hb => .inl ⟨s,⟨by omega,by simpa using hb,hs.2⟩,rfl⟩) fun hb => ⟨by unfold I64; omega,s + 1,⟨by omega,fun j hj => ?_⟩,by omega,by omega⟩⟩
  ·rw [kM]
   simp only [show (x.i * 10 + (1 + s * 1)) % 10 = 1 + s by omega,show (x.i * 10 + (1 + s * 1)) / 10 = x.i by omega]
   rw [if_neg (by omega),if_neg (by omega),show 1 + s - 1 = s by omega]; rfl
  ·by_cases e : j = s
   ·subst e; simpa using hb
   ·exact hs.2 j (by omega)
 ·have h := aS h
  exact .inr fun k hk => hs.2 k (by omega)
theorem Dc (p : cO) (i : Nat) : gZ p (i * 10) = [.int .i64 (p.cls i)] := by
 rw [kM,show i * 10 % 10 = 0 by omega,show i * 10 / 10 = i by omega]; rfl
theorem Zb (p : cO) (i : Nat) : gZ p (i * 10 + 9) = [.int .i64 (p.cnt i)] := by
 rw [kM,show (i * 10 + 9) % 10 = 9 by omega,show (i * 10 + 9) / 10 = i by omega]; rfl
theorem anm (p : cO) (i k : Nat) (h : k < 8) : gZ p (i * 10 + (1 + k * 1)) = [.bool (p.tk i k)] := by
 rw [kM]
 simp only [show (i * 10 + (1 + k * 1)) % 10 = 1 + k by omega,show (i * 10 + (1 + k * 1)) / 10 = i by omega]
 rw [if_neg (by omega),if_neg (by omega),show 1 + k - 1 = k by omega]
theorem Wi (x : kN) (hx : x.p.ok/\spn x.c ≠ 0) : afL x := by
 obtain ⟨⟨h1,h2,h3⟩,hz⟩ := hx
 have hcc : 0<=x.c/\x.c<=3 := by rcases dP x.c with h | h | h | h | h <;> omega
 obtain ⟨m1,m2,m3,m4⟩ := xW hcc
 unfold afL
 simp only [QN,QL,GY,QM,Je,nN,QO,xU,Y7,qh,xP]
 simp only [aY,aU,aT,ay,aH,bJ,bg,aN,aJ,au,aW,aV,bK,bC,bD,bF,bM,bf,bG,aZ,dY,aG,aK,ah,aj,aA,aC,aB,aF]
 refine ⟨⟨0,⟨Nat.zero_le _,fun j hj => absurd hj (Nat.not_lt_zero j)⟩,Int.natCast_zero⟩,fun s hs => bH (fun h => ?_) fun h => ⟨⟨0,⟨Nat.zero_le _,fun j hj => hs.2 j (by have := aS h; omega),fun j hj => absurd hj (Nat.not_lt_zero j)⟩,Int.natCast_zero⟩,fun t ht => bH (fun h2 => ?_) fun h2 => ?_⟩⟩
 ·have h := aQ h
  refine ⟨by omega,by omega,x.p.cls s,by rw [Dc]; rfl,bH (fun he => ?_) fun he => ⟨by unfold I64; omega,s + 1,⟨by omega,fun j hj => ?_⟩,by omega,by omega⟩⟩
  ·have he := beq_iff_eq.1 he
   refine ⟨⟨x.p,s⟩,⟨⟨h1,h2,h3⟩,(show s < x.p.n by omega),(show 0<=x.p.cls s by omega)⟩,rfl,⟨rfl,fun _ _ => rfl⟩,fun y hy => .inr ⟨(s,y),?_,⟨rfl,rfl⟩,rfl,fun _ _ => rfl⟩,fun hall => ⟨by unfold I64; omega,s + 1,⟨by omega,fun j hj => ?_⟩,by omega,by omega,rfl,fun _ _ => rfl⟩⟩
   ·obtain ⟨y1,y2,y3⟩ := hy
    simp only [he] at y1
    exact ⟨by show s < x.p.n; omega,y1,by show x.p.tk s y = _; rw [if_pos he]; exact y2,.inl ⟨he,y3,hs.2⟩⟩
   ·by_cases e : j = s
    ·subst e; intro _ k hk; exact hall k (by simp only [he]; exact hk)
    ·exact hs.2 j (by omega)
  ·by_cases e : j = s
   ·subst e; intro h'; simp [h'] at he
   ·exact hs.2 j (by omega)
 ·have h2 := aQ h2
  refine ⟨by omega,by omega,x.p.cls t,by rw [Dc]; rfl,bH (fun he => ?_) fun he => ⟨by unfold I64; omega,t + 1,⟨by omega,ht.2.1,fun j hj => ?_⟩,by omega,by omega⟩⟩
  ·have he := beq_iff_eq.1 he
   exact .inr ⟨(t,0),⟨by show t < x.p.n; omega,m3,by show x.p.tk t 0 = _; rw [if_neg (by show ¬ x.p.cls t = x.c; omega)],.inr ⟨he,rfl,ht.2.1,ht.2.2⟩⟩,rfl,rfl⟩
  ·by_cases e : j = t
   ·subst e; intro h'; simp [h'] at he
   ·exact ht.2.2 j (by omega)
 ·have h2 := aS h2
  exact .inl fun i hi => ⟨ht.2.2 i (by omega),ht.2.1 i hi⟩
theorem QS (x : En) (hx : x.p.ok/\x.i < x.p.n/\x.k < 8) : V8 x := by
 obtain ⟨⟨h1,h2,h3⟩,hi,hk⟩ := hx
 have := h3 _ hi
 unfold V8
 simp only [xR,Y6]
 simp only [aY,aU,aT,ay,aH,bJ,bg,aN,aJ,au,aW,aV,bK,bC,bD,bF,bM,bf,bG,aZ,dY,aG,aK,ah,aj,aA,aC,aB,aF]
 refine ⟨by omega,by omega,by omega,by omega,bH (fun h => ?_) fun _ => bH (fun h => ?_) fun _ => ⟨x.p.cnt x.i,by rw [Zb]; rfl,by unfold I64; omega,by omega,fun q hq => ?_⟩⟩
 ·have := ak h; omega
 ·have := ak h; omega
 ·simp only [Cs.eff,bW,dK,dH,eu,← Bool.decide_and,kM,cO.take]; grind (splits := 30)
theorem Wj (x : kN) (hx : x.p.ok) : afN x := by
 unfold afN
 simp only [qh,Y8,nN,xQ,Je,xO,GY,afG,xP]
 simp only [aY,aU,aT,ay,aH,bJ,bg,aN,aJ,au,aW,aV,bK,bC,bD,bF,bM,bf,bG,aZ,dY,aG,aK,ah,aj,aA,aC,aB,aF]
 refine bH (fun h => .inl (by simpa using h)) fun h => ?_
 have hz : spn x.c ≠ 0 := by simpa using h
 have hcc : 0<=x.c/\x.c<=3 := by rcases dP x.c with h | h | h | h | h <;> omega
 obtain ⟨m1,m2,m3,m4⟩ := xW hcc
 obtain ⟨h1,h2,h3⟩ := id hx
 refine ⟨x,⟨hx,hz⟩,rfl,⟨rfl,rfl,fun _ _ => rfl⟩,fun hf => .inr (.inl ⟨⟨hz,hf⟩,rfl,rfl,fun _ _ => rfl⟩),fun y hy => ?_⟩
 obtain ⟨i,k⟩ := y
 obtain ⟨t1,t2,t3⟩ := id hy
 simp only at t1 t2 ⊢
 have hsl : (if (i : Int) < 0 ∨ 32<=(i : Int) then (-1 : Int) else 2 + i * 8) = 2 + i * 8 := if_neg (by omega)
 have hks : 0<=(k : Int) * spn x.c/\(k : Int) * spn x.c<=64 := by
  have hs : 0<=spn x.c/\spn x.c<=8 := by rcases dP x.c with h | h | h | h | h <;> omega
  exact ⟨Int.mul_nonneg (by omega) hs.1,by have := Int.mul_le_mul (show (k : Int)<=8 by omega) hs.2 hs.1 (by omega : (0 : Int)<=8); omega⟩
 rw [hsl]
 refine ⟨by omega,⟨x.p,x.c,i,k⟩,⟨hx,t1,(show k < 8 by omega)⟩,⟨rfl,rfl,rfl⟩,⟨rfl,fun _ _ => rfl⟩,by unfold I64; omega,by unfold I64; omega,.inr (.inr ⟨(i,k),⟨hz,hy⟩,?_⟩)⟩
 simp
theorem ake {x : fZ} (hx : x.ok) : slb x.line = x.i/\2<=x.line/\x.line < 258 := by
 obtain ⟨⟨h1,h2,h3⟩,hi,hc,hk,ht⟩ := hx
 unfold slb fZ.line
 rcases gI (x.p.cls x.i) with h | h | h | h | h <;> obtain ⟨e1,e2,e3⟩ := h <;> rw [e2] <;> rw [e3] at hk <;> first | omega | (rw [if_neg (by omega)]; omega)
theorem afR (x : fZ) (hx : x.ok) : atVC x := by
 obtain ⟨l1,l2,l3⟩ := ake hx
 obtain ⟨⟨h1,h2,h3⟩,hi,hc,hk,ht⟩ := id hx
 obtain ⟨m1,m2,m3,m4⟩ := xW ⟨hc,(h3 _ hi).2.1⟩
 have h8 : (8 / spn (x.p.cls x.i)).toNat = cO.many (x.p.cls x.i) := rfl
 have hs : 0 < spn (x.p.cls x.i) := by rcases gI (x.p.cls x.i) with h | h | h | h | h <;> omega
 have hl : x.line = 2 + x.i * 8 + x.k * spn (x.p.cls x.i) := rfl
 have inj : ∀ j : Nat,2 + (x.i : Int) * 8 + (j : Int) * spn (x.p.cls x.i) = x.line->j = x.k := fun j hj => by
  have : (j : Int) * spn (x.p.cls x.i) = (x.k : Int) * spn (x.p.cls x.i) := by omega
  have := Int.eq_of_mul_eq_mul_right (by omega) this
  omega
 unfold atVC
 simp only [afH,xR,xP,qh,nN]
 simp only [aY,aU,aT,ay,aH,bJ,bg,aN,aJ,au,aW,aV,bK,bC,bD,bF,bM,bf,bG,aZ,dY,aG,aK,ah,aj,aA,aC,aB,aF,l1]
 refine bH (fun h => absurd (aQ h) (by omega)) fun _ => bH (fun h => absurd (aQ h) (by omega)) fun _ => ⟨by omega,by omega,x.p.cls x.i,by rw [Dc]; rfl,⟨x.i,x.p.cls x.i⟩,(show x.i < 32 by omega),⟨rfl,rfl⟩,fun h => absurd h m2,fun _ => ⟨⟨fun q => 2 + (x.i : Int) * 8 + q * spn (x.p.cls x.i),cO.many (x.p.cls x.i),x.line⟩,(show cO.many (x.p.cls x.i) < 1000 by omega),⟨rfl,rfl⟩,⟨rfl,fun _ _ => rfl⟩,fun y hy => ?_,fun hno => absurd hl.symm (hno x.k hk)⟩⟩
 obtain ⟨y1,y2,_⟩ := hy
 have := inj y y2
 subst this
 exact ⟨by omega,by omega,true,by rw [anm _ _ _ (by omega),ht]; rfl,rfl,rfl⟩
theorem Wn (x : fZ) (hx : x.ok) : afP x := by
 obtain ⟨⟨h1,h2,h3⟩,hi,hc,hk,ht⟩ := id hx
 obtain ⟨m1,m2,m3,m4⟩ := xW ⟨hc,(h3 _ hi).2.1⟩
 have := h3 _ hi
 have n1 : (x.i * 10 + 9).beq (x.i * 10 + (1 + x.k * 1)) = false := iT (by omega)
 unfold afP
 simp only [xQ,xR,anj,akd,xO,GY]
 simp only [aY,aU,aT,ay,aH,bJ,bg,aN,aJ,au,aW,aV,bK,bC,bD,bF,bM,bf,bG,aZ,dY,aG,aK,ah,aj,aA,aC,aB,aF]
 refine ⟨x,hx,rfl,⟨rfl,rfl,fun _ _ => rfl⟩,?_⟩
 simp only [n1,Nat.beq_refl,kH,iH,aT]
 refine ⟨by omega,by omega,by omega,x.p.cnt x.i,by rw [Zb]; rfl,by unfold I64; omega,by omega,by omega,bH (fun hb => ⟨by omega,fun q hq => ?_⟩) fun hb q hq => ?_⟩
 ·have hb := beq_iff_eq.1 hb
  simp only [Cs.eff,bW,dK,dH,eu,← Bool.decide_and,kM,cO.give]; grind (splits := 30)
 ·have hb : x.p.cnt x.i - 1 ≠ 0 := fun h => by simp [h] at hb
  simp only [Cs.eff,bW,dK,dH,eu,← Bool.decide_and,kM,cO.give]; grind (splits := 30)
theorem afS (x : fZ) (hx : x.ok) : ofVC x := by
 obtain ⟨⟨h1,h2,h3⟩,hi,hc,hk,ht⟩ := id hx
 unfold ofVC
 simp only [xQ,xO,GY]
 simp only [aY,aU,aT,ay,aH,bJ,bg,aN,aJ,au,aW,aV,bK,bC,bD,bF,bM,bf,bG,aZ,dY,aG,aK,ah,aj,aA,aC,aB,aF]
 exact ⟨x,hx,rfl,⟨rfl,rfl,fun _ _ => rfl⟩,by omega,x.p.cls x.i,by rw [Dc]; rfl,rfl,rfl,rfl,fun _ _ => rfl⟩
theorem ano : bV Tryz.prog 276 V6 := gG dI mixed (.cons (bT kQ) .nil) alQ 200 5 (fun _ => rfl) (fun _ => ⟨fun _ => rfl,fun _ => rfl,trivial⟩) fun x hx => Eq.mp (afK x) (Wh x (aY.1 hx))
theorem find_ok : bV Tryz.prog 242 V7 := gG dI mixed (.cons (bT ano) .nil) alR 200 5 (fun _ => rfl) (fun _ => ⟨fun _ => rfl,fun _ => rfl,trivial⟩) fun x hx => Eq.mp (afM x) (Wi x (aY.1 hx))
theorem akf : bV Tryz.prog 243 Eo := dX dI mixed .nil noA 200 5 (fun _ => rfl) (fun _ => rfl) fun x hx => Eq.mp (acg x) (QS x (aY.1 hx))
theorem apF : bV Tryz.prog 116 atC := dX dI mixed (.cons (bT kQ) (.cons (bT afC) (.cons (bT afD) (.cons (bT apD) .nil)))) noA 200 5 (fun _ => rfl) (fun _ => rfl) fun x hx => Eq.mp (ank x) (afR x (aY.1 hx))
theorem anp : bV Tryz.prog 202 afE.ctr := dJ dI mixed (.cons (bT kQ) (.cons (bT afB) (.cons (bT find_ok) (.cons (bT akf) .nil)))) 2 noA 200 5 (fun _ => ⟨rfl,rfl,rfl,rfl⟩) fun x hx => Eq.mp (afO x) (Wj x (aY.1 hx))
theorem anq : bV Tryz.prog 65 afF.ctr := dJ dI mixed (.cons (bT apF) .nil) 2 noA 200 5 (fun _ => ⟨rfl,rfl,rfl,rfl⟩) fun x hx => Eq.mp (afQ x) (Wn x (aY.1 hx))
theorem of_ok : bV Tryz.prog 246 ofP.ctr := dJ dI mixed (.cons (bT apF) .nil) 2 noA 200 5 (fun _ => ⟨rfl,rfl,rfl,rfl⟩) fun x hx => Eq.mp (anl x) (afS x (aY.1 hx))
end Go.Proofs.YtenfleoejgjklaaGreat
end
section
namespace Go.Proofs.YtenfleoejgjklaaGreat
open Go SE
structure ZRd where
 t : Nat
 now : Int
 has : Nat->Int
namespace ZRd
def ok (r : ZRd) : Prop := 1<=r.t/\r.t<=4/\1<=r.now/\r.now < 4611686018427387904
def os (r : ZRd) : List dF := [.cells 149 (.av [u64 r.now,.slE 1 0 1 r.t r.t]),.cells 111 (.row 1 r.t (fun k => [.int .u64 (r.has k)]) [])]
def put (r : ZRd) (k : Nat) (v : Int) : ZRd := { r with has := fun j => if j = k then v else r.has j }
end ZRd
def akg (t : Nat) : ZRd := ⟨t,1,fun _ => 0⟩
structure UN where
 r : ZRd
 k : Nat
def QT : jw := { X := UN,args := fun x => [.ptr 0 0,i64 x.k],k := 1,l := fun x => [.m x.r.os],pre := fun x => Hd (x.r.ok/\x.k < x.r.t),outs := [
 { Y := Unit,post := fun x _ => Hd (x.r.has x.k = 0),ret := fun x _ => .tup [u64 x.r.now,i64 0],m := 1,l := fun x _ => [.m (x.r.put x.k x.r.now).os] },
 { Y := Unit,post := fun x _ => Hd (x.r.has x.k ≠ 0),ret := fun _ _ => .tup [u64 0,i64 7],m := 1,l := fun x _ => [.m x.r.os] }] }
def QU : jw := og UN (fun x => [.ptr 0 0,i64 x.k]) 1 (fun x => [.m x.r.os]) (fun x => Hd (x.r.ok/\x.k < x.r.t)) (fun x => i64 (if x.r.has x.k = 0 then 12 else 0)) 1 (fun x => [.m (x.r.put x.k 0).os])
def apG : jw := og ZRd (fun _ => [.ptr 0 0]) 1 (fun r => [.m r.os]) (fun r => Hd r.ok) (fun r => u64 r.now) 1 (fun r => [.m r.os])
def ach (ph : Nat) : jw := og UM (fun x => [.ptr 0 0,i64 x.t,i64 x.l]) 1 (fun x => [.m (x.c.os ph)]) (fun x => Hd (x.c.ok/\x.t < x.c.t)) (fun x => i64 (if 0<=x.l/\x.l < 258 then 0 else 2)) 1 (fun x => [.m ((x.c.note x.t x.l).os ph)])
def MF (ph : Nat) : jw := og ClkM (fun _ => [.ptr 0 0]) 1 (fun c => [.m (c.os ph)]) (fun c => Hd c.ok) (fun c => u64 c.now) 1 (fun c => [.m (c.os ph)])
def QV (ph : Nat) : jw := og ClkM (fun _ => [.ptr 0 0]) 1 (fun c => [.m (c.os ph)]) (fun c => Hd c.ok) (fun c => .slW 1 0 1 c.t) 2 (fun c => [.m (c.os ph),.o (.room 3 (.row 1 c.t (fun k => [.int .i64 (c.o k)]) []))])
noncomputable def Ep : jw := og nK (fun x => [.ptr 0 0,i64 x.k,i64 x.a,x.b.av 1]) 2 (fun x => [.m x.d.os,.o x.b.ro]) (fun x => Hd (x.d.ok/\x.k < x.d.n/\x.b.ok/\x.a + x.b.n<=64)) (fun _ => i64 0) 2 (fun x => [.m (x.d.store x.k x.a x.b.n (fun q => x.b.g (x.b.q + q))).os,.o x.b.ro])
noncomputable def afT : jw := og VK (fun x => [.ptr 0 0,i64 x.k]) 1 (fun x => [.m x.d.os]) (fun x => Hd (x.d.ok/\x.k < x.d.n)) (fun _ => .tup [.slW 1 0 1 64,i64 0]) 2 (fun x => [.m x.d.os,.o (.room 5 (rowB (fun q => x.d.b (x.k * 193 + q)) 64))])
end Go.Proofs.YtenfleoejgjklaaGreat
end
section
namespace Go.Proofs.YtenfleoejgjklaaGreat
open Go SE
def kX (a : Nat) : Prop := a = a/\a = a
def afU (a : ClkM) : Prop := a.now = a.now/\a.dur = a.dur/\a.clos = a.clos/\(0 = 0/\kX a.t)/\True
def afV (a : ClkM) : Prop := (258 = 258/\∀ q : Nat,q < 258->[Value.bool (a.L q)] = [Value.bool (a.L q)])/\Value.nilFunc = Value.nilFunc/\True
def apH (a : UM) : Prop := (afU a.c/\(258 = 258/\∀ q : Nat,q < 258->[Value.bool (Bool.or (a.c.N q) (decide (a.l = (q : Int))))] = [Value.bool (a.c.N q)])/\afV a.c)/\(a.c.t = a.c.t/\∀ q : Nat,q < a.c.t->[Value.int .i64 (ite (q = a.t/\0<=a.l/\a.l < 258) (a.c.o q + 1) (a.c.o q))] = [Value.int .i64 (a.c.o q)])/\True
def MG (a : ZRd) : Prop := a.now = a.now/\(0 = 0/\kX a.t)/\True
def afW (a : ZRd) : Prop := MG a/\(a.t = a.t/\∀ q : Nat,q < a.t->[Value.int .u64 (a.has q)] = [Value.int .u64 (a.has q)])/\True
def apI (a : UM) : Prop := ∃ y : Unit,True/\ite (0<=a.l/\a.l < 258) (0 : Int) (2 : Int) = 2/\apH a
def Jf (a : DevM) : Prop := a.fl = a.fl/\a.fe = a.fe/\a.ba = a.ba/\a.cu = a.cu/\True
def Zc (a : Bys) : Prop := rowB a.g a.N = rowB a.g a.N/\true = true
def afX (a : nK) : Prop := ∃ y : Unit,True/\(0 : Int) = 2/\((0 = 0/\kX a.d.n)/\a.d.st + 1 = a.d.st/\Jf a.d)/\Zc a.b/\(a.d.n * 193 = a.d.n * 193/\∀ q : Nat,q < a.d.n * 193->Cs.eff (kL (a.d.store a.k a.a a.b.n (fun (q_1 : Nat) => a.b.g (a.b.q + q_1)))) [] q = Cs.eff (kL a.d) [] q)/\True
def afY (a : UN) : Prop := MG a.r/\(a.r.t = a.r.t/\∀ q : Nat,q < a.r.t->[Value.int .u64 (ite (q = a.k) (0 : Int) (a.r.has q))] = Cs.eff (fun (k : Nat) => [Value.int .u64 (a.r.has k)]) [(0 + a.k,[Value.int .u64 0])] q)/\True
def QW (a : ClkM) : Prop := afU a/\(258 = 258/\∀ q : Nat,q < 258->[Value.bool (a.N q)] = [Value.bool (a.N q)])/\afV a
def QX (a : ClkM) : Prop := (a.t = a.t/\∀ q : Nat,q < a.t->[Value.int .i64 (a.o q)] = [Value.int .i64 (a.o q)])/\True
def afZ (a : UN) : Prop := MG a.r/\(a.r.t = a.r.t/\∀ q : Nat,q < a.r.t->[Value.int .u64 (ite (q = a.k) a.r.now (a.r.has q))] = [Value.int .u64 (a.r.has q)])/\True
def af0 (a : Bys) (b : Nat) : Prop := (Nat.beq (List.length [Value.int .u8 (a.g (a.q + b))]) 1 && List.all [Value.int .u8 (a.g (a.q + b))] Value.oneCell') = true
def Zd : Prop := ∃ y : Unit,True/\(False/\(0 : Int) = 2/\True)/\False/\False/\True
def Ze (a : UN) : Prop := 0<=(a.k : Int)/\(a.k : Int) < (a.r.t : Int)
def af2 (t : Nat) : Prop :=
 cP (decide ((t : Int) < 1)) Zd (cP (decide ((t : Int) > (4 : Int))) Zd ((0<=(t : Int)/\(t : Int)<=(t : Int)/\8 * (t : Int)<=281474976710656/\(t : Int) < 4611686018427387904)/\∃ y : Unit,True/\(0 = 0/\(0 : Int) = 0/\True)/\((1 : Int) = 1/\(0 = 0/\kX t)/\True)/\(t = t/\∀ q : Nat,q < t->[Value.int .u64 0] = [Value.int .u64 0])/\True))
def Wp (x : UN) : Prop :=
 cP (decide ((x.k : Int) ≥ (x.r.t : Int))) ((∃ y : Unit,Hd (x.r.has x.k = 0)/\(x.r.now = 0/\(0 : Int) = 1/\True)/\afZ x) ∨ ∃ y : Unit,Hd (x.r.has x.k ≠ (0 : Int))/\((0 : Int) = 0/\(7 : Int) = 1/\True)/\afW x.r) (Ze x/\0 + x.k < x.r.t/\cP (decide (x.r.has (0 + x.k) = 0)) (0 + x.k < x.r.t/\((∃ y : Unit,Hd (x.r.has x.k = 0)/\(x.r.now = x.r.now/\(0 : Int) = 0/\True)/\MG x.r/\(x.r.t = x.r.t/\∀ q : Nat,q < x.r.t->[Value.int .u64 (ite (q = x.k) x.r.now (x.r.has q))] = Cs.eff (fun (k : Nat) => [Value.int .u64 (x.r.has k)]) [(0 + x.k,[Value.int .u64 x.r.now])] q)/\True) ∨ ∃ y : Unit,Hd (x.r.has x.k ≠ (0 : Int))/\(0 = x.r.now/\(7 : Int) = 0/\True)/\MG x.r/\(x.r.t = x.r.t/\∀ q : Nat,q < x.r.t->[Value.int .u64 (x.r.has q)] = Cs.eff (fun (k : Nat) => [Value.int .u64 (x.r.has k)]) [(0 + x.k,[Value.int .u64 x.r.now])] q)/\True)) (0 + x.k < x.r.t/\((∃ y : Unit,Hd (x.r.has x.k = 0)/\(x.r.now = 0/\(0 : Int) = 7/\True)/\afZ x) ∨ ∃ y : Unit,Hd (x.r.has x.k ≠ (0 : Int))/\((0 : Int) = 0/\(7 : Int) = 7/\True)/\afW x.r)))
theorem aci (x : UN) : Wp x = wpF Tryz.prog tZ tt (noA x) 200 5 199 (QT.args x) (hO 2 (dN 1 (QT.l x))) (fun v h' => dA 1 x v h' QT.outs) := by kernel_rfl
def Wq (x : UN) : Prop :=
 cP (decide ((x.k : Int) ≥ (x.r.t : Int))) (∃ y : Unit,True/\ite (x.r.has x.k = 0) (12 : Int) (0 : Int) = 1/\MG x.r/\(x.r.t = x.r.t/\∀ q : Nat,q < x.r.t->[Value.int .u64 (ite (q = x.k) (0 : Int) (x.r.has q))] = [Value.int .u64 (x.r.has q)])/\True) (Ze x/\0 + x.k < x.r.t/\0 + x.k < x.r.t/\cP (BEq.beq (x.r.has (0 + x.k)) (0 : Int)) (∃ y : Unit,True/\ite (x.r.has x.k = 0) (12 : Int) (0 : Int) = 12/\afY x) (∃ y : Unit,True/\ite (x.r.has x.k = 0) (12 : Int) (0 : Int) = 0/\afY x))
theorem acj (x : UN) : Wq x = wpF Tryz.prog tZ tt (noA x) 200 5 211 (QU.args x) (hO 2 (dN 1 (QU.l x))) (fun v h' => dA 1 x v h' QU.outs) := by kernel_rfl
def anr (x : ZRd) : Prop :=
 ∃ y : Unit,True/\x.now = x.now/\afW x
theorem akh (x : ZRd) : anr x = wpF Tryz.prog tZ tt (noA x) 200 5 67 (apG.args x) (hO 2 (dN 1 (apG.l x))) (fun v h' => dA 1 x v h' apG.outs) := by kernel_rfl
def af4 (x : UM) : Prop :=
 cP (decide ((x.t : Int) ≥ (x.c.t : Int))) (∃ y : Unit,True/\ite (0<=x.l/\x.l < 258) (0 : Int) (2 : Int) = 1/\apH x) (cP (decide (x.l < 0)) (apI x) (cP (decide (x.l ≥ (258 : Int))) (apI x) ((0<=(x.t : Int)/\(x.t : Int) < (x.c.t : Int))/\0 + x.t < x.c.t/\I64 (x.c.o (0 + x.t) + 1)/\(0<=(x.t : Int)/\(x.t : Int) < (x.c.t : Int))/\0 + x.t < x.c.t/\(0<=x.l/\x.l < 258)/\Int.toNat x.l < 258/\∃ y : Unit,True/\ite (0<=x.l/\x.l < 258) (0 : Int) (2 : Int) = 0/\(afU x.c/\(258 = 258/\∀ q : Nat,q < 258->[Value.bool (Bool.or (x.c.N q) (decide (x.l = (q : Int))))] = Cs.eff (fun (k : Nat) => [Value.bool (x.c.N k)]) [(Int.toNat x.l,[Value.bool true])] q)/\afV x.c)/\(x.c.t = x.c.t/\∀ q : Nat,q < x.c.t->[Value.int .i64 (ite (q = x.t/\0<=x.l/\x.l < 258) (x.c.o q + 1) (x.c.o q))] = Cs.eff (fun (k : Nat) => [Value.int .i64 (x.c.o k)]) [(0 + x.t,[Value.int .i64 (x.c.o (0 + x.t) + 1)])] q)/\True)))
theorem acn (x : UM) : af4 x = wpF Tryz.prog tZ tt (noA x) 200 5 64 ((ach 0).args x) (hO 2 (dN 1 ((ach 0).l x))) (fun v h' => dA 1 x v h' (ach 0).outs) := by kernel_rfl
def Ws (x : ClkM) : Prop :=
 ∃ y : Unit,True/\x.now = x.now/\QW x/\QX x
theorem aco (x : ClkM) : Ws x = wpF Tryz.prog tZ tt (noA x) 200 5 45 ((MF 0).args x) (hO 2 (dN 1 ((MF 0).l x))) (fun v h' => dA 1 x v h' (MF 0).outs) := by kernel_rfl
def Wu (x : ClkM) : Prop :=
 0 + x.t<=x.t/\cP (Nat.beq x.t 0) (∃ y : Unit,True/\(x.t = 0/\0 = 0/\0 = 0)/\QW x/\(0 = x.t * 1/\∀ q : Nat,q < x.t->[Value.int .i64 (x.o q)] = List.take 1 (List.drop (q * 1) (@List.nil Value)))/\QX x) ((2 * (0 + x.t) + 1000) * 8<=281474976710656/\∃ y : Unit,True/\(0 = 0/\x.t = 0 + x.t)/\QW x/\(x.t = 0 + x.t/\∀ q : Nat,q < x.t->[Value.int .i64 (x.o q)] = [Value.int .i64 (x.o (0 + (q - 0)))])/\QX x)
theorem acp (x : ClkM) : Wu x = wpF Tryz.prog tZ tt (noA x) 200 5 204 ((QV 0).args x) (hO 2 (dN 1 ((QV 0).l x))) (fun v h' => dA 1 x v h' (QV 0).outs) := by kernel_rfl
def MH (x : nK) : Prop :=
 cP (decide ((x.k : Int) ≥ (x.d.n : Int))) (afX x) (I64 (64 - (x.b.n : Int))/\cP (decide ((x.a : Int) > 64 - (x.b.n : Int))) (afX x) ((0<=(x.k : Int)/\(x.k : Int) < (x.d.n : Int))/\0<=(x.a : Int)/\(x.a<=64/\64<=64/\64<=64)/\(0 + x.k) * 193 + 0 + x.a + (64 - x.a)<=x.d.n * 193/\cP (Nat.ble x.b.n (64 - x.a)) (x.b.q + x.b.n<=x.b.N/\(∀ k : Nat,k < x.b.n->af0 x.b k)/\I64 (x.d.st + 1)/\∃ y : Unit,True/\(0 : Int) = 0/\((0 = 0/\kX x.d.n)/\x.d.st + 1 = x.d.st + 1/\Jf x.d)/\Zc x.b/\(x.d.n * 193 = x.d.n * 193/\∀ q : Nat,q < x.d.n * 193->Cs.eff (kL (x.d.store x.k x.a x.b.n (fun (q_1 : Nat) => x.b.g (x.b.q + q_1)))) [] q = Cs.eff (fun (p : Nat) => cond (Nat.ble ((0 + x.k) * 193 + 0 + x.a) p && Nat.blt p ((0 + x.k) * 193 + 0 + x.a + x.b.n)) [Value.int .u8 (x.b.g (x.b.q + (p - ((0 + x.k) * 193 + 0 + x.a))))] (Cs.eff (kL x.d) [] p)) [] q)/\True) (x.b.q + (64 - x.a)<=x.b.N/\(∀ k : Nat,k < 64 - x.a->af0 x.b k)/\I64 (x.d.st + 1)/\∃ y : Unit,True/\(0 : Int) = 0/\((0 = 0/\kX x.d.n)/\x.d.st + 1 = x.d.st + 1/\Jf x.d)/\Zc x.b/\(x.d.n * 193 = x.d.n * 193/\∀ q : Nat,q < x.d.n * 193->Cs.eff (kL (x.d.store x.k x.a x.b.n (fun (q_1 : Nat) => x.b.g (x.b.q + q_1)))) [] q = Cs.eff (fun (p : Nat) => cond (Nat.ble ((0 + x.k) * 193 + 0 + x.a) p && Nat.blt p ((0 + x.k) * 193 + 0 + x.a + (64 - x.a))) [Value.int .u8 (x.b.g (x.b.q + (p - ((0 + x.k) * 193 + 0 + x.a))))] (Cs.eff (kL x.d) [] p)) [] q)/\True)))
theorem Wv (x : nK) : MH x = wpF Tryz.prog tZ tt (noA x) 200 5 62 (Ep.args x) (hO 3 (dN 2 (Ep.l x))) (fun v h' => dA 2 x v h' Ep.outs) := by kernel_rfl
def af5 (x : VK) : Prop :=
 cP (decide ((x.k : Int) ≥ (x.d.n : Int))) (∃ y : Unit,True/\False) (I64 (64 : Int)/\(0<=(x.k : Int)/\(x.k : Int) < (x.d.n : Int))/\(0<=64/\64<=64/\64<=64)/\(0 + x.k) * 193 + 0 + 0 + 64<=x.d.n * 193/\(2 * (0 + 64) + 1000) * 1<=281474976710656/\∃ y : Unit,True/\((0 = 0/\64 = 64)/\(0 : Int) = 0/\True)/\((0 = 0/\kX x.d.n)/\x.d.st = x.d.st/\Jf x.d)/\(64 = 64/\∀ q : Nat,q < 64->[Value.int .u8 (x.d.b (x.k * 193 + q))] = Cs.eff (fun (q_1 : Nat) => cond (Nat.blt q_1 0) (@List.nil Value) (Cs.eff (kL x.d) [] ((0 + x.k) * 193 + 0 + 0 + (q_1 - 0)))) [] q)/\(x.d.n * 193 = x.d.n * 193/\∀ q : Nat,q < x.d.n * 193->Cs.eff (kL x.d) [] q = Cs.eff (kL x.d) [] q)/\True)
theorem af6 (x : VK) : af5 x = wpF Tryz.prog tZ tt (noA x) 200 5 181 (afT.args x) (hO 2 (dN 1 (afT.l x))) (fun v h' => dA 1 x v h' afT.outs) := by kernel_rfl
end Go.Proofs.YtenfleoejgjklaaGreat
end
section
namespace Go.Proofs.YtenfleoejgjklaaGreat
open Go SE
set_option linter.unusedSimpArgs false
theorem Wx (x : Nat) (hx : 1<=x/\x<=4) : af2 x := by
 unfold af2
 simp only [Zd,kX]
 simp only [aY,aU,aT,ay,aH,bJ,bg,aN,aJ,au,aW,aV,bK,bC,bD,bF,bM,bf,bG,aZ,dY,aG,aK,ah,aj,aA,aC,aB,aF]
 exact bH (fun h => absurd (aQ h) (by omega)) fun _ => bH (fun h => absurd (aQ h) (by omega)) fun _ => by omega
theorem af7 (f : Nat->Int) (k : Nat) (v : Int) (q : Nat) : [Value.int .u64 (if q = k then v else f q)] = Cs.eff (fun k => [Value.int .u64 (f k)]) [(k,[Value.int .u64 v])] q := by
 simp only [Cs.eff,bW,dK,dH,eu,← Bool.decide_and]
 by_cases h : q = k
 ·rw [if_pos h,if_pos h]
 ·rw [if_neg h,if_neg h]
theorem QY (x : UN) (hx : x.r.ok/\x.k < x.r.t) : Wp x := by
 unfold Wp
 simp only [afZ,afW,Ze,MG,kX]
 simp only [aY,aU,aT,ay,aH,bJ,bg,aN,aJ,au,aW,aV,bK,bC,bD,bF,bM,bf,bG,aZ,dY,aG,aK,ah,aj,aA,aC,aB,aF]
 refine bH (fun h => absurd (aQ h) (by omega)) fun _ => ⟨by omega,hx.2,bH (fun h => ⟨hx.2,.inl ⟨aQ h,fun q _ => af7 _ _ _ _⟩⟩) fun h => ⟨hx.2,.inr (aS h)⟩⟩
theorem QZ (x : UN) (hx : x.r.ok/\x.k < x.r.t) : Wq x := by
 unfold Wq
 simp only [MG,Ze,afY,kX]
 simp only [aY,aU,aT,ay,aH,bJ,bg,aN,aJ,au,aW,aV,bK,bC,bD,bF,bM,bf,bG,aZ,dY,aG,aK,ah,aj,aA,aC,aB,aF]
 refine bH (fun h => absurd (aQ h) (by omega)) fun _ => ⟨by omega,hx.2,hx.2,bH (fun h => ⟨if_pos (beq_iff_eq.1 h),fun q _ => af7 _ _ _ _⟩) fun h => ⟨if_neg (fun e => by simp [e] at h),fun q _ => af7 _ _ _ _⟩⟩
theorem acr (x : ZRd) (hx : x.ok) : anr x := by
 unfold anr
 simp only [afW,MG,kX]
 simp only [aY,aU,aT,ay,aH,bJ,bg,aN,aJ,au,aW,aV,bK,bC,bD,bF,bM,bf,bG,aZ,dY,aG,aK,ah,aj,aA,aC,aB,aF]
theorem Q5 (x : UM) (hx : x.c.ok/\x.t < x.c.t) : af4 x := VT x hx
theorem Q7 (x : ClkM) (hx : x.ok) : Ws x := by
 unfold Ws
 simp only [QW,QX,afU,afV,kX]
 simp only [aY,aU,aT,ay,aH,bJ,bg,aN,aJ,au,aW,aV,bK,bC,bD,bF,bM,bf,bG,aZ,dY,aG,aK,ah,aj,aA,aC,aB,aF]
theorem Q8 (x : ClkM) (hx : x.ok) : Wu x := by
 have := hx.1; have := hx.2.1
 unfold Wu
 simp only [QW,QX,afU,afV,kX]
 simp only [aY,aU,aT,ay,aH,bJ,bg,aN,aJ,au,aW,aV,bK,bC,bD,bF,bM,bf,bG,aZ,dY,aG,aK,ah,aj,aA,aC,aB,aF]
 exact ⟨by omega,bH (fun h => absurd (ak h) (by omega)) fun _ => by omega⟩
theorem MI (x : nK) (hx : x.d.ok/\x.k < x.d.n/\x.b.ok/\x.a + x.b.n<=64) : MH x := by
 have h := Aj x hx
 unfold Mc at h
 simp only [ajZ,Y0,nM,VN,kW,QH,VL,ab7] at h
 unfold MH
 simp only [afX,af0,kX,Jf,Zc]
 simp only [aY,aU,aT,ay,aH,bJ,bg,aN,aJ,au,aW,aV,bK,bC,bD,bF,bM,bf,bG,aZ,dY,aG,aK,ah,aj,aA,aC,aB,aF] at h ⊢
 exact h
theorem Wy (x : VK) (hx : x.d.ok/\x.k < x.d.n) : af5 x := by
 have := hx.1.1
 unfold af5
 simp only [kX,Jf]
 simp only [aY,aU,aT,ay,aH,bJ,bg,aN,aJ,au,aW,aV,bK,bC,bD,bF,bM,bf,bG,aZ,dY,aG,aK,ah,aj,aA,aC,aB,aF]
 refine bH (fun h => absurd (aQ h) (by omega)) fun _ => ⟨by unfold I64; omega,by omega,by omega,by omega,by omega,fun q hq => ?_⟩
 rw [nZ,show Nat.blt q 0 = false by simp [bW],aP,show (x.k * 193 + q) % 193 = q by omega,if_neg (by omega)]
theorem aki : bV Tryz.prog 199 QT.ctr := dJ dI mixed eX 2 noA 200 5 (fun _ => ⟨rfl,rfl,rfl,rfl⟩) fun x hx => Eq.mp (aci x) (QY x (aY.1 hx))
theorem akj : bV Tryz.prog 211 QU.ctr := dJ dI mixed eX 2 noA 200 5 (fun _ => ⟨rfl,rfl,rfl,rfl⟩) fun x hx => Eq.mp (acj x) (QZ x (aY.1 hx))
theorem apJ : bV Tryz.prog 67 apG.ctr := dJ dI mixed eX 2 noA 200 5 (fun _ => ⟨rfl,rfl,rfl,rfl⟩) fun x hx => Eq.mp (akh x) (acr x (aY.1 hx))
theorem Zf : bV Tryz.prog 64 (ach 0).ctr := dJ dI mixed eX 2 noA 200 5 (fun _ => ⟨rfl,rfl,rfl,rfl⟩) fun x hx => Eq.mp (acn x) (Q5 x (aY.1 hx))
theorem xX : bV Tryz.prog 45 (MF 0).ctr := dJ dI mixed eX 2 noA 200 5 (fun _ => ⟨rfl,rfl,rfl,rfl⟩) fun x hx => Eq.mp (aco x) (Q7 x (aY.1 hx))
theorem Df : bV Tryz.prog 204 (QV 0).ctr := dJ dI mixed eX 2 noA 200 5 (fun _ => ⟨rfl,rfl,rfl,rfl⟩) fun x hx => Eq.mp (acp x) (Q8 x (aY.1 hx))
theorem Es : bV Tryz.prog 62 Ep.ctr := dJ dI mixed eX 3 noA 200 5 (fun _ => ⟨rfl,rfl,rfl,rfl⟩) fun x hx => Eq.mp (Wv x) (MI x (aY.1 hx))
theorem ant : bV Tryz.prog 181 afT.ctr := dJ dI mixed eX 2 noA 200 5 (fun _ => ⟨rfl,rfl,rfl,rfl⟩) fun x hx => Eq.mp (af6 x) (Wy x (aY.1 hx))
end Go.Proofs.YtenfleoejgjklaaGreat
end
section
namespace Go.Proofs.YtenfleoejgjklaaGreat
open Go SE
theorem qj {P : Program} {f : FuncId} {C : Ctr} (h : ∀ x,C.pre x->∃ D : Ctr,bV P f D/\D.k = C.k/\∃ y : D.X,D.pre y/\D.args y = C.args x/\D.os y = C.os x/\∀ v h',nX y v h' D.outs->nX x v h' C.outs) : bV P f C := fun x hx => by
 obtain ⟨D,hD,hk,y,hp,ha,ho,hq⟩ := h x hx
 obtain ⟨h1,h2⟩ := hD y hp
 rw [ho,hk] at h1
 rw [ha,hk,ho] at h2
 exact ⟨h1,h2.mono hq⟩
structure iw where
 line : Int
 cls : Int
 r : Int
 d : Int
 anti : Int
namespace iw
def cs (e : iw) : List Value := [.int .i64 e.line,.int .i64 e.cls,.int .u64 e.r,.int .u64 e.d,.int .i64 e.anti]
def av (e : iw) : AV := .agg [i64 e.line,i64 e.cls,u64 e.r,u64 e.d,i64 e.anti]
def may (e : iw) : Prop := 2<=e.line/\e.line < 258/\0<=e.cls/\e.cls<=3/\-1<=e.anti/\e.anti < 258
end iw
structure iD where
 z : Bool
 n : Nat
 e : Nat->iw
namespace iD
def ok (b : iD) : Prop := b.n<=258/\(b.z = true->b.n = 0)
def row (b : iD) : Cs := .row 5 b.n (fun i => (b.e i).cs) []
def osP (b : iD) : List dF := [.cells 183 (.av [.slW 1 0 5 b.n]),.room 70 b.row]
def osN : List dF := [.cells 183 (.av [fJ])]
def os (b : iD) : List dF := bif b.z then osN else b.osP
def put (b : iD) (x : iw) : iD := if b.n < 258 then ⟨false,b.n + 1,fun i => if i = b.n then x else b.e i⟩ else b
end iD
structure BD where
 b : iD
 x : iw
def qV (z : Bool) : jw := og BD (fun x => [.ptr 0 0,x.x.av]) 1 (fun x => [.m (bif z then iD.osN else x.b.osP)]) (fun x => Hd (x.b.ok/\x.x.may/\x.b.z = z)) (fun x => i64 (if x.b.n < 258 then 0 else 11)) 1 (fun x => [.m (x.b.put x.x).osP])
def MJ : jw := og Unit (fun _ => [.ptr 0 0]) 1 (fun _ => [.m iD.osN]) (fun _ => Hd True) (fun _ => fJ) 1 (fun _ => [.m iD.osN])
def MK : jw := og iD (fun _ => [.ptr 0 0]) 1 (fun b => [.m b.osP]) (fun b => Hd (b.ok/\b.z = false)) (fun b => .slW 1 0 5 b.n) 2 (fun b => [.m b.osP,.o (.room 70 b.row)])
structure dw where
 key : ByteArray
 id : Int
 ver : Int
 line : Int
 cls : Int
namespace dw
def cs (e : dw) : List Value := [.string e.key,.int .u64 e.id,.int .u64 e.ver,.int .i64 e.line,.int .i64 e.cls]
def av (e : dw) : AV := .agg [.lit (.string e.key),u64 e.id,u64 e.ver,i64 e.line,i64 e.cls]
end dw
def oz : dw := ⟨⟨#[]⟩,0,0,0,0⟩
structure ZLn where
 len : Nat
 cap : Nat
 at_ : Nat
 n : Nat
 e : Nat->dw
namespace ZLn
def ok (l : ZLn) : Prop := l.cap < 1099511627776/\l.len<=l.cap/\l.n<=l.len/\(l.len = 0->l.at_ = 0)/\(l.len ≠ 0->l.at_ < l.len)
def row (l : ZLn) : Cs := .row 5 l.cap (fun i => (l.e i).cs) []
def osP (l : ZLn) : List dF := [.cells 127 (.av [.slE 1 0 5 l.len l.cap,i64 l.at_,i64 l.n]),.cells 41 l.row]
def osN : List dF := [.cells 127 (.av [fJ,i64 0,i64 0])]
def os (l : ZLn) : List dF := bif Nat.beq l.len 0 then osN else l.osP
def get (l : ZLn) (i : Nat) : dw := l.e ((l.at_ + i) % l.len)
def push (l : ZLn) (x : dw) : ZLn := if l.n = l.len then ⟨l.n + 1,2 * l.n + 1,0,l.n + 1,fun i => if i < l.n then l.get i else if i = l.n then x else oz⟩ else ⟨l.len,l.cap,l.at_,l.n + 1,fun i => if i = (l.at_ + l.n) % l.len then x else l.e i⟩
def pop (l : ZLn) : ZLn := if l.n = 0 then l else ⟨l.len,l.cap,(l.at_ + 1) % l.len,l.n - 1,fun i => if i = l.at_ then oz else l.e i⟩
def head (l : ZLn) : dw := if l.n = 0 then oz else l.get 0
end ZLn
structure acs where
 l : ZLn
 x : dw
def xY : jw := og dw (fun x => [.ptr 0 0,x.av]) 1 (fun _ => [.m ZLn.osN]) (fun _ => Hd True) (fun _ => .tup []) 1 (fun x => [.m (ZLn.osP ⟨1,1,0,1,fun i => if i = 0 then x else oz⟩)])
def xZ : jw := og acs (fun x => [.ptr 0 0,x.x.av]) 1 (fun x => [.m x.l.osP]) (fun x => Hd (x.l.ok/\x.l.len ≠ 0)) (fun _ => .tup []) 1 (fun x => [.m (x.l.push x.x).osP])
def x9 : jw := og Unit (fun _ => [.ptr 0 0]) 1 (fun _ => [.m ZLn.osN]) (fun _ => Hd True) (fun _ => .tup [oz.av,boo false]) 1 (fun _ => [.m ZLn.osN])
def yc : jw := og ZLn (fun _ => [.ptr 0 0]) 1 (fun l => [.m l.osP]) (fun l => Hd (l.ok/\l.len ≠ 0)) (fun l => .tup [l.head.av,boo (decide (l.n ≠ 0))]) 1 (fun l => [.m l.osP])
def Dh : jw := og Unit (fun _ => [.ptr 0 0]) 1 (fun _ => [.m ZLn.osN]) (fun _ => Hd True) (fun _ => .tup [oz.av,boo false]) 1 (fun _ => [.m ZLn.osN])
def Di : jw := og ZLn (fun _ => [.ptr 0 0]) 1 (fun l => [.m l.osP]) (fun l => Hd (l.ok/\l.len ≠ 0)) (fun l => .tup [l.head.av,boo (decide (l.n ≠ 0))]) 1 (fun l => [.m l.pop.osP])
def Dj : jw := og Unit (fun _ => [.ptr 0 0]) 1 (fun _ => [.m ZLn.osN]) (fun _ => Hd True) (fun _ => i64 0) 1 (fun _ => [.m ZLn.osN])
def Dk : jw := og ZLn (fun _ => [.ptr 0 0]) 1 (fun l => [.m l.osP]) (fun l => Hd (l.ok/\l.len ≠ 0)) (fun l => i64 l.n) 1 (fun l => [.m l.osP])
def ZLn.all (l : ZLn) (i : Nat) : Cs := .row 5 i (fun j => (l.get j).cs) []
def Dl : jw := og Unit (fun _ => [.ptr 0 0]) 1 (fun _ => [.m ZLn.osN]) (fun _ => Hd True) (fun _ => fJ) 1 (fun _ => [.m ZLn.osN])
def Dn : jw := { X := ZLn,args := fun _ => [.ptr 0 0],k := 1,l := fun l => [.m l.osP],pre := fun l => Hd (l.ok/\l.len ≠ 0),outs := [
 { Y := Unit,post := fun l _ => Hd (l.n = 0),ret := fun _ _ => fJ,m := 1,l := fun l _ => [.m l.osP] },
 { Y := Unit,post := fun l _ => Hd (l.n ≠ 0),ret := fun l _ => .slW 1 0 5 l.n,m := 2,l := fun l _ => [.m l.osP,.o (.room 41 (l.all l.n))] }] }
def apK (l : ZLn) : FuncId->uU := fun f => bif Nat.beq f 123 then (fun b _ _ => bif Nat.beq b 0 then [
 { σ := Unit,fr := fun _ => [(9,i64 0),(3,fJ)],ob := fun _ => [],inv := fun _ => Hd True,meas := fun _ => l.n + 1,test := fun fr _ => (match SE.look fr 3 with | .lit _ => true | _ => false) },
 { σ := Nat,fr := fun i => [(9,i64 i),(3,.slW 2 0 5 i)],ob := fun i => [(2,some (.room 41 (l.all i)))],inv := fun i => Hd (1<=i/\i<=l.n),meas := fun i => l.n - i,nx := 1,test := fun fr _ => (match SE.look fr 3 with | .lit _ => false | _ => true) }] else []) else fun _ _ _ => []
end Go.Proofs.YtenfleoejgjklaaGreat
end
section
namespace Go.Proofs.YtenfleoejgjklaaGreat
open Go SE
def Jg (a : acs) : Prop := ((ZLn.at_ (a.l.push a.x) : Nat) : Int) = 0/\((ZLn.n (a.l.push a.x) : Nat) : Int) = (a.l.n : Int) + 1/\True
def af8 (a : acs) : Prop := I64 ((a.l.n : Int) + 1)/\True/\∃ y : Unit,True/\True/\(False/\Jg a)/\(ZLn.cap (a.l.push a.x) = a.l.cap/\∀ q : Nat,q < ZLn.cap (a.l.push a.x)->[Value.string (dw.key (ZLn.e (a.l.push a.x) q)),Value.int .u64 (dw.id (ZLn.e (a.l.push a.x) q)),Value.int .u64 (dw.ver (ZLn.e (a.l.push a.x) q)),Value.int .i64 (dw.line (ZLn.e (a.l.push a.x) q)),Value.int .i64 (dw.cls (ZLn.e (a.l.push a.x) q))] = [Value.string (dw.key (a.l.e q)),Value.int .u64 (dw.id (a.l.e q)),Value.int .u64 (dw.ver (a.l.e q)),Value.int .i64 (dw.line (a.l.e q)),Value.int .i64 (dw.cls (a.l.e q))])/\True
def Q9 (a : ZLn) : Prop := a.cap = a.cap/\∀ q : Nat,q < a.cap->[Value.string (dw.key (a.e q)),Value.int .u64 (dw.id (a.e q)),Value.int .u64 (dw.ver (a.e q)),Value.int .i64 (dw.line (a.e q)),Value.int .i64 (dw.cls (a.e q))] = [Value.string (dw.key (a.e q)),Value.int .u64 (dw.id (a.e q)),Value.int .u64 (dw.ver (a.e q)),Value.int .i64 (dw.line (a.e q)),Value.int .i64 (dw.cls (a.e q))]
def anu (a : BD) : Prop := ((0 = 0/\iD.n (a.b.put a.x) = a.b.n)/\True)/\(iD.n (a.b.put a.x) = a.b.n/\∀ q : Nat,q < iD.n (a.b.put a.x)->[Value.int .i64 (iw.line (iD.e (a.b.put a.x) q)),Value.int .i64 (iw.cls (iD.e (a.b.put a.x) q)),Value.int .u64 (iw.r (iD.e (a.b.put a.x) q)),Value.int .u64 (iw.d (iD.e (a.b.put a.x) q)),Value.int .i64 (iw.anti (iD.e (a.b.put a.x) q))] = [Value.int .i64 (iw.line (a.b.e q)),Value.int .i64 (iw.cls (a.b.e q)),Value.int .u64 (iw.r (a.b.e q)),Value.int .u64 (iw.d (a.b.e q)),Value.int .i64 (iw.anti (a.b.e q))])/\True
def Jh (a : BD) : Prop := True/\ite (a.b.n < 258) (0 : Int) (11 : Int) = 1/\(False/\True)/\(List.length [Value.int .i64 a.x.line,Value.int .i64 a.x.cls,Value.int .u64 a.x.r,Value.int .u64 a.x.d,Value.int .i64 a.x.anti] = iD.n (a.b.put a.x) * 5/\∀ q : Nat,q < iD.n (a.b.put a.x)->[Value.int .i64 (iw.line (iD.e (a.b.put a.x) q)),Value.int .i64 (iw.cls (iD.e (a.b.put a.x) q)),Value.int .u64 (iw.r (iD.e (a.b.put a.x) q)),Value.int .u64 (iw.d (iD.e (a.b.put a.x) q)),Value.int .i64 (iw.anti (iD.e (a.b.put a.x) q))] = List.take 5 (List.drop (q * 5) [Value.int .i64 a.x.line,Value.int .i64 a.x.cls,Value.int .u64 a.x.r,Value.int .u64 a.x.d,Value.int .i64 a.x.anti]))/\True
def Ji (a : BD) : Prop := True/\ite (a.b.n < 258) (0 : Int) (11 : Int) = 1/\anu a
def yg (a : dw) : Prop := List.all [List.take 5 [Value.string a.key,Value.int .u64 a.id,Value.int .u64 a.ver,Value.int .i64 a.line,Value.int .i64 a.cls]] (fun (l : List Value) => Nat.beq (List.length l) 5 && List.all l Value.oneCell') = true
def Zg (a : ZLn) : Prop := ∀ k : Nat,k < a.at_ - 0->(Nat.beq (List.length [Value.string (dw.key (a.e (0 + k))),Value.int .u64 (dw.id (a.e (0 + k))),Value.int .u64 (dw.ver (a.e (0 + k))),Value.int .i64 (dw.line (a.e (0 + k))),Value.int .i64 (dw.cls (a.e (0 + k)))]) 5 && List.all [Value.string (dw.key (a.e (0 + k))),Value.int .u64 (dw.id (a.e (0 + k))),Value.int .u64 (dw.ver (a.e (0 + k))),Value.int .i64 (dw.line (a.e (0 + k))),Value.int .i64 (dw.cls (a.e (0 + k)))] Value.oneCell') = true
def Ak (a : ZLn) : Prop := (0 = 0/\a.len = a.len/\a.cap = a.cap)/\(a.at_ : Int) = (a.at_ : Int)/\(a.n : Int) = (a.n : Int)/\True
def af9 (a : acs) : Prop := (2 * (0 + (a.l.len - a.l.at_) + (a.l.at_ - 0) + 1) + 1000) * 48<=281474976710656/\af8 a
def aga (a : acs) : Prop := (2 * (0 + (a.l.len - a.l.at_) + (a.l.at_ - 0)) + 1000) * 48<=281474976710656/\True/\True/\0 + (a.l.len - a.l.at_) + (a.l.at_ - 0) = 0 + (a.l.len - a.l.at_) + (a.l.at_ - 0)/\yg a.x/\af9 a
def agb (a : iD) : Prop := (a.n = a.n/\∀ q : Nat,q < a.n->[Value.int .i64 (iw.line (a.e q)),Value.int .i64 (iw.cls (a.e q)),Value.int .u64 (iw.r (a.e q)),Value.int .u64 (iw.d (a.e q)),Value.int .i64 (iw.anti (a.e q))] = [Value.int .i64 (iw.line (a.e q)),Value.int .i64 (iw.cls (a.e q)),Value.int .u64 (iw.r (a.e q)),Value.int .u64 (iw.d (a.e q)),Value.int .i64 (iw.anti (a.e q))])/\True
def yh (a : acs) : Prop := ZLn.cap (a.l.push a.x) = Int.toNat (2 * (a.l.n : Int) + 1)
def ql : Prop := Value.slice none 0 0 = Value.slice none 0 0
def Et : Prop := (ql/\(0 : Int) = 0/\(0 : Int) = 0/\True)/\True
def Zh (a : ZLn) : Prop := (a.head.key = dw.key (a.e (0 + a.at_))/\a.head.id = dw.id (a.e (0 + a.at_))/\a.head.ver = dw.ver (a.e (0 + a.at_))/\a.head.line = dw.line (a.e (0 + a.at_))/\a.head.cls = dw.cls (a.e (0 + a.at_))/\True)/\decide (a.n ≠ 0) = true/\True
def Zi : Prop := ∃ y : Unit,True/\((ByteArray.mk #[] = ByteArray.mk #[]/\(0 : Int) = 0/\(0 : Int) = 0/\(0 : Int) = 0/\(0 : Int) = 0/\True)/\false = false/\True)/\Et
def Zj (a : ZLn) : Prop := (a.head.key = ByteArray.mk #[]/\a.head.id = 0/\a.head.ver = 0/\a.head.line = 0/\a.head.cls = 0/\True)/\decide (a.n ≠ 0) = false/\True
def Zk (a : ZLn) : Prop := 0 + (0 + (a.len - a.at_))<=Int.toNat (2 * (a.n : Int) + 1)
def Zl (a : ZLn) : Prop := 0<=a.at_/\a.at_<=a.cap/\a.cap<=a.cap
def Rf (a : ZLn) : Prop := 0<=(a.at_ : Int)/\(a.at_ : Int) < (a.len : Int)
def Am (a : ZLn) : Prop := Ak a/\Q9 a/\True
def Eu (x : BD) : Prop :=
 cP (decide (x.x.line ≥ (2 : Int))) (cP (decide (x.x.line < 258)) (∃ x_1 : Int,True/\(x_1 = x.x.cls/\True)/\True/\∀ y : Unit,True->cP (decide (spn x_1 > (0 : Int))) (cP (decide (x.x.anti ≥ (-(1 : Int)))) (cP (Bool.not (decide (x.x.anti < 258))) (∃ y_1 : Unit,Jh x) ((AV.lit (Value.slice none 0 0) = AV.lit (Value.slice none 0 0)/\True)/\(2 * (0 + 1) + 1000) * 40<=281474976710656/\True/\True/\∃ y_1 : Unit,True/\ite (x.b.n < 258) (0 : Int) (11 : Int) = 0/\((0 = 0/\iD.n (x.b.put x.x) = 1)/\True)/\(iD.n (x.b.put x.x) = 0 + List.length [List.take 5 [Value.int .i64 x.x.line,Value.int .i64 x.x.cls,Value.int .u64 x.x.r,Value.int .u64 x.x.d,Value.int .i64 x.x.anti]]/\∀ q : Nat,q < iD.n (x.b.put x.x)->[Value.int .i64 (iw.line (iD.e (x.b.put x.x) q)),Value.int .i64 (iw.cls (iD.e (x.b.put x.x) q)),Value.int .u64 (iw.r (iD.e (x.b.put x.x) q)),Value.int .u64 (iw.d (iD.e (x.b.put x.x) q)),Value.int .i64 (iw.anti (iD.e (x.b.put x.x) q))] = Cs.eff (fun (x_2 : Nat) => []) [(0,List.take 5 [Value.int .i64 x.x.line,Value.int .i64 x.x.cls,Value.int .u64 x.x.r,Value.int .u64 x.x.d,Value.int .i64 x.x.anti])] q)/\True)) (∃ y_1 : Unit,Jh x)) (∃ y_1 : Unit,Jh x)) (∃ y : Unit,Jh x)) (∃ y : Unit,Jh x)
theorem Rh (x : BD) : Eu x = wpF Tryz.prog aj7 tt (noA x) 200 5 66 ((qV true).args x) (hO 1 (dN 1 ((qV true).l x))) (fun v h' => dA 1 x v h' (qV true).outs) := by kernel_rfl
def Ew (x : BD) : Prop :=
 cP (decide (x.x.line ≥ (2 : Int))) (cP (decide (x.x.line < 258)) (∃ x_1 : Int,True/\(x_1 = x.x.cls/\True)/\True/\∀ y : Unit,True->cP (decide (spn x_1 > (0 : Int))) (cP (decide (x.x.anti ≥ (-(1 : Int)))) (cP (Bool.not (decide (x.x.anti < 258))) (∃ y_1 : Unit,Ji x) (cP (decide ((x.b.n : Int) ≥ (258 : Int))) (∃ y_1 : Unit,True/\ite (x.b.n < 258) (0 : Int) (11 : Int) = 11/\anu x) ((AV.slW 1 0 5 x.b.n = AV.slW 1 0 5 x.b.n/\True)/\x.b.n = x.b.n/\List.all [List.take 5 [Value.int .i64 x.x.line,Value.int .i64 x.x.cls,Value.int .u64 x.x.r,Value.int .u64 x.x.d,Value.int .i64 x.x.anti]] (fun (l : List Value) => Nat.beq (List.length l) 5 && List.all l Value.oneCell') = true/\(2 * (x.b.n + 1) + 1000) * 40<=281474976710656/\True/\True/\∃ y_1 : Unit,True/\ite (x.b.n < 258) (0 : Int) (11 : Int) = 0/\((0 = 0/\iD.n (x.b.put x.x) = x.b.n + 1)/\True)/\(iD.n (x.b.put x.x) = x.b.n + List.length [List.take 5 [Value.int .i64 x.x.line,Value.int .i64 x.x.cls,Value.int .u64 x.x.r,Value.int .u64 x.x.d,Value.int .i64 x.x.anti]]/\∀ q : Nat,q < iD.n (x.b.put x.x)->[Value.int .i64 (iw.line (iD.e (x.b.put x.x) q)),Value.int .i64 (iw.cls (iD.e (x.b.put x.x) q)),Value.int .u64 (iw.r (iD.e (x.b.put x.x) q)),Value.int .u64 (iw.d (iD.e (x.b.put x.x) q)),Value.int .i64 (iw.anti (iD.e (x.b.put x.x) q))] = Cs.eff (fun (i : Nat) => iw.cs (x.b.e i)) [(x.b.n,List.take 5 [Value.int .i64 x.x.line,Value.int .i64 x.x.cls,Value.int .u64 x.x.r,Value.int .u64 x.x.d,Value.int .i64 x.x.anti])] q)/\True))) (∃ y_1 : Unit,Ji x)) (∃ y_1 : Unit,Ji x)) (∃ y : Unit,Ji x)) (∃ y : Unit,Ji x)
theorem Ri (x : BD) : Ew x = wpF Tryz.prog aj7 tt (noA x) 200 5 66 ((qV false).args x) (hO 2 (dN 1 ((qV false).l x))) (fun v h' => dA 1 x v h' (qV false).outs) := by kernel_rfl
def Ey (x : Unit) : Prop :=
 ∃ y : Unit,True/\ql/\(ql/\True)/\True
theorem Rj (x : Unit) : Ey x = wpF Tryz.prog tZ tt (noA x) 200 5 278 (MJ.args x) (hO 1 (dN 1 (MJ.l x))) (fun v h' => dA 1 x v h' MJ.outs) := by kernel_rfl
def Ez (x : iD) : Prop :=
 0 + x.n<=x.n/\cP (Nat.beq x.n 0) (∃ y : Unit,True/\(x.n = 0/\0 = 0/\0 = 0)/\((0 = 0/\x.n = x.n)/\True)/\(0 = x.n * 5/\∀ q : Nat,q < x.n->[Value.int .i64 (iw.line (x.e q)),Value.int .i64 (iw.cls (x.e q)),Value.int .u64 (iw.r (x.e q)),Value.int .u64 (iw.d (x.e q)),Value.int .i64 (iw.anti (x.e q))] = List.take 5 (List.drop (q * 5) (@List.nil Value)))/\agb x) ((2 * (0 + x.n) + 1000) * 40<=281474976710656/\∃ y : Unit,True/\(0 = 0/\x.n = 0 + x.n)/\((0 = 0/\x.n = x.n)/\True)/\(x.n = 0 + x.n/\∀ q : Nat,q < x.n->[Value.int .i64 (iw.line (x.e q)),Value.int .i64 (iw.cls (x.e q)),Value.int .u64 (iw.r (x.e q)),Value.int .u64 (iw.d (x.e q)),Value.int .i64 (iw.anti (x.e q))] = [Value.int .i64 (iw.line (x.e (0 + (q - 0)))),Value.int .i64 (iw.cls (x.e (0 + (q - 0)))),Value.int .u64 (iw.r (x.e (0 + (q - 0)))),Value.int .u64 (iw.d (x.e (0 + (q - 0)))),Value.int .i64 (iw.anti (x.e (0 + (q - 0))))])/\agb x)
theorem Rk (x : iD) : Ez x = wpF Tryz.prog tZ tt (noA x) 200 5 278 (MK.args x) (hO 2 (dN 1 (MK.l x))) (fun v h' => dA 1 x v h' MK.outs) := by kernel_rfl
def vk (x : dw) : Prop :=
 I64 (0 : Int)/\I64 (1 : Int)/\((0 : Int)<=0/\(0 : Int)<=1/\(0 : Int)<=281474976710608/\(0 : Int)<=4611686018427387902)/\(0 : Int)<=0/\(0<=0/\0<=0/\0<=0)/\0<=1/\True/\True/\(0 : Int)<=0/\(0<=0/\0<=0/\0<=0)/\0<=1/\True/\True/\0<=1/\yg x/\0 + (0 + 1)<=1/\I64 (1 : Int)/\True/\∃ y : Unit,True/\True/\((0 = 0/\1 = 1/\1 = 1)/\((0 : Nat) : Int) = 0/\((1 : Nat) : Int) = 1/\True)/\(1 = 1/\∀ q : Nat,q < 1->[Value.string (dw.key (ite (q = 0) x oz)),Value.int .u64 (dw.id (ite (q = 0) x oz)),Value.int .u64 (dw.ver (ite (q = 0) x oz)),Value.int .i64 (dw.line (ite (q = 0) x oz)),Value.int .i64 (dw.cls (ite (q = 0) x oz))] = Cs.eff (fun (x_1 : Nat) => [Value.string (ByteArray.mk #[]),Value.int .u64 0,Value.int .u64 0,Value.int .i64 0,Value.int .i64 0]) [(0,List.take 5 [Value.string x.key,Value.int .u64 x.id,Value.int .u64 x.ver,Value.int .i64 x.line,Value.int .i64 x.cls])] q)/\True
theorem GZ (x : dw) : vk x = wpF Tryz.prog tZ tt (noA x) 200 5 254 (xY.args x) (hO 1 (dN 1 (xY.l x))) (fun v h' => dA 1 x v h' xY.outs) := by kernel_rfl
def vw (x : acs) : Prop :=
 cP (BEq.beq (x.l.n : Int) (x.l.len : Int)) (I64 (2 * (x.l.n : Int))/\I64 (2 * (x.l.n : Int) + 1)/\((0 : Int)<=0/\0<=2 * (x.l.n : Int) + 1/\48 * (2 * (x.l.n : Int) + 1)<=281474976710656/\2 * (x.l.n : Int) + 1 < 4611686018427387904)/\0<=(x.l.at_ : Int)/\(x.l.at_<=x.l.len/\x.l.len<=x.l.cap/\x.l.cap<=x.l.cap)/\0<=Int.toNat (2 * (x.l.n : Int) + 1)/\0 + x.l.at_ + (x.l.len - x.l.at_)<=x.l.cap/\cP (Nat.beq (x.l.len - x.l.at_) 0) (True/\True/\0<=(x.l.at_ : Int)/\Zl x.l/\0<=Int.toNat (2 * (x.l.n : Int) + 1)/\0 + (x.l.at_ - 0)<=x.l.cap/\cP (Nat.beq (x.l.at_ - 0) 0) (True/\True/\0<=Int.toNat (2 * (x.l.n : Int) + 1)/\yg x.x/\0 + (0 + 1)<=Int.toNat (2 * (x.l.n : Int) + 1)/\I64 ((x.l.n : Int) + 1)/\True/\∃ y : Unit,True/\True/\((0 = 0/\ZLn.len (x.l.push x.x) = 1/\yh x)/\Jg x)/\(yh x/\∀ q : Nat,q < ZLn.cap (x.l.push x.x)->[Value.string (dw.key (ZLn.e (x.l.push x.x) q)),Value.int .u64 (dw.id (ZLn.e (x.l.push x.x) q)),Value.int .u64 (dw.ver (ZLn.e (x.l.push x.x) q)),Value.int .i64 (dw.line (ZLn.e (x.l.push x.x) q)),Value.int .i64 (dw.cls (ZLn.e (x.l.push x.x) q))] = Cs.eff (fun (x_1 : Nat) => [Value.string (ByteArray.mk #[]),Value.int .u64 0,Value.int .u64 0,Value.int .i64 0,Value.int .i64 0]) [(0,List.take 5 [Value.string x.x.key,Value.int .u64 x.x.id,Value.int .u64 x.x.ver,Value.int .i64 x.x.line,Value.int .i64 x.x.cls])] q)/\True) (cP (Nat.ble (0 + (x.l.at_ - 0)) (Int.toNat (2 * (x.l.n : Int) + 1))) (Zg x.l/\0 + (0 + (x.l.at_ - 0))<=Int.toNat (2 * (x.l.n : Int) + 1)/\True/\True/\0 + (0 + (x.l.at_ - 0))<=Int.toNat (2 * (x.l.n : Int) + 1)/\cP (Nat.ble (0 + (x.l.at_ - 0) + 1) (Int.toNat (2 * (x.l.n : Int) + 1))) (yg x.x/\
 0 + (0 + (x.l.at_ - 0) + 1)<=Int.toNat (2 * (x.l.n : Int) + 1)/\I64 ((x.l.n : Int) + 1)/\True/\∃ y : Unit,True/\True/\((0 = 0/\ZLn.len (x.l.push x.x) = 0 + (x.l.at_ - 0) + 1/\yh x)/\Jg x)/\(yh x/\∀ q : Nat,q < ZLn.cap (x.l.push x.x)->[Value.string (dw.key (ZLn.e (x.l.push x.x) q)),Value.int .u64 (dw.id (ZLn.e (x.l.push x.x) q)),Value.int .u64 (dw.ver (ZLn.e (x.l.push x.x) q)),Value.int .i64 (dw.line (ZLn.e (x.l.push x.x) q)),Value.int .i64 (dw.cls (ZLn.e (x.l.push x.x) q))] = Cs.eff (fun (p : Nat) => cond (Nat.ble 0 p && Nat.blt p (0 + (x.l.at_ - 0))) [Value.string (dw.key (x.l.e (0 + (p - 0)))),Value.int .u64 (dw.id (x.l.e (0 + (p - 0)))),Value.int .u64 (dw.ver (x.l.e (0 + (p - 0)))),Value.int .i64 (dw.line (x.l.e (0 + (p - 0)))),Value.int .i64 (dw.cls (x.l.e (0 + (p - 0))))] [Value.string (ByteArray.mk #[]),Value.int .u64 0,Value.int .u64 0,Value.int .i64 0,Value.int .i64 0]) [(0 + (0 + (x.l.at_ - 0)),List.take 5 [Value.string x.x.key,Value.int .u64 x.x.id,Value.int .u64 x.x.ver,Value.int .i64 x.x.line,Value.int .i64 x.x.cls])] q)/\True) ((2 * (0 + (x.l.at_ - 0) + 1) + 1000) * 48<=281474976710656/\af8 x)) ((2 * (0 + (x.l.at_ - 0)) + 1000) * 48<=281474976710656/\True/\True/\0 + (x.l.at_ - 0) = 0 + (x.l.at_ - 0)/\yg x.x/\(2 * (0 + (x.l.at_ - 0) + 1) + 1000) * 48<=281474976710656/\
 af8 x))) (cP (Nat.ble (0 + (x.l.len - x.l.at_)) (Int.toNat (2 * (x.l.n : Int) + 1))) ((∀ k : Nat,k < x.l.len - x.l.at_->(Nat.beq (List.length [Value.string (dw.key (x.l.e (0 + x.l.at_ + k))),Value.int .u64 (dw.id (x.l.e (0 + x.l.at_ + k))),Value.int .u64 (dw.ver (x.l.e (0 + x.l.at_ + k))),Value.int .i64 (dw.line (x.l.e (0 + x.l.at_ + k))),Value.int .i64 (dw.cls (x.l.e (0 + x.l.at_ + k)))]) 5 && List.all [Value.string (dw.key (x.l.e (0 + x.l.at_ + k))),Value.int .u64 (dw.id (x.l.e (0 + x.l.at_ + k))),Value.int .u64 (dw.ver (x.l.e (0 + x.l.at_ + k))),Value.int .i64 (dw.line (x.l.e (0 + x.l.at_ + k))),Value.int .i64 (dw.cls (x.l.e (0 + x.l.at_ + k)))] Value.oneCell') = true)/\Zk x.l/\True/\True/\0<=(x.l.at_ : Int)/\Zl x.l/\Zk x.l/\0 + (x.l.at_ - 0)<=x.l.cap/\cP (Nat.beq (x.l.at_ - 0) 0) (True/\True/\Zk x.l/\cP (Nat.ble (0 + (x.l.len - x.l.at_) + 1) (Int.toNat (2 * (x.l.n : Int) + 1))) (yg x.x/\0 + (0 + (x.l.len - x.l.at_) + 1)<=Int.toNat (2 * (x.l.n : Int) + 1)/\I64 ((x.l.n : Int) + 1)/\True/\∃ y : Unit,True/\True/\((0 = 0/\ZLn.len (x.l.push x.x) = 0 + (x.l.len - x.l.at_) + 1/\yh x)/\Jg x)/\(yh x/\
 ∀ q : Nat,q < ZLn.cap (x.l.push x.x)->[Value.string (dw.key (ZLn.e (x.l.push x.x) q)),Value.int .u64 (dw.id (ZLn.e (x.l.push x.x) q)),Value.int .u64 (dw.ver (ZLn.e (x.l.push x.x) q)),Value.int .i64 (dw.line (ZLn.e (x.l.push x.x) q)),Value.int .i64 (dw.cls (ZLn.e (x.l.push x.x) q))] = Cs.eff (fun (p : Nat) => cond (Nat.ble 0 p && Nat.blt p (0 + (x.l.len - x.l.at_))) [Value.string (dw.key (x.l.e (0 + x.l.at_ + (p - 0)))),Value.int .u64 (dw.id (x.l.e (0 + x.l.at_ + (p - 0)))),Value.int .u64 (dw.ver (x.l.e (0 + x.l.at_ + (p - 0)))),Value.int .i64 (dw.line (x.l.e (0 + x.l.at_ + (p - 0)))),Value.int .i64 (dw.cls (x.l.e (0 + x.l.at_ + (p - 0))))] [Value.string (ByteArray.mk #[]),Value.int .u64 0,Value.int .u64 0,Value.int .i64 0,Value.int .i64 0]) [(0 + (0 + (x.l.len - x.l.at_)),List.take 5 [Value.string x.x.key,Value.int .u64 x.x.id,Value.int .u64 x.x.ver,Value.int .i64 x.x.line,Value.int .i64 x.x.cls])] q)/\True) ((2 * (0 + (x.l.len - x.l.at_) + 1) + 1000) * 48<=281474976710656/\af8 x)) (cP (Nat.ble (0 + (x.l.len - x.l.at_) + (x.l.at_ - 0)) (Int.toNat (2 * (x.l.n : Int) + 1))) (Zg x.l/\0 + (0 + (x.l.len - x.l.at_) + (x.l.at_ - 0))<=Int.toNat (2 * (x.l.n : Int) + 1)/\True/\True/\0 + (0 + (x.l.len - x.l.at_) + (x.l.at_ - 0))<=Int.toNat (2 * (x.l.n : Int) + 1)/\cP (Nat.ble (0 + (x.l.len - x.l.at_) + (x.l.at_ - 0) + 1) (Int.toNat (2 * (x.l.n : Int) + 1))) (yg x.x/\0 + (0 + (x.l.len - x.l.at_) + (x.l.at_ - 0) + 1)<=Int.toNat (2 * (x.l.n : Int) + 1)/\I64 ((x.l.n : Int) + 1)/\True/\∃ y : Unit,True/\True/\((0 = 0/\ZLn.len (x.l.push x.x) = 0 + (x.l.len - x.l.at_) + (x.l.at_ - 0) + 1/\yh x)/\Jg x)/\(yh x/\
 ∀ q : Nat,q < ZLn.cap (x.l.push x.x)->[Value.string (dw.key (ZLn.e (x.l.push x.x) q)),Value.int .u64 (dw.id (ZLn.e (x.l.push x.x) q)),Value.int .u64 (dw.ver (ZLn.e (x.l.push x.x) q)),Value.int .i64 (dw.line (ZLn.e (x.l.push x.x) q)),Value.int .i64 (dw.cls (ZLn.e (x.l.push x.x) q))] = Cs.eff (fun (p : Nat) => cond (Nat.ble (0 + (0 + (x.l.len - x.l.at_))) p && Nat.blt p (0 + (0 + (x.l.len - x.l.at_)) + (x.l.at_ - 0))) [Value.string (dw.key (x.l.e (0 + (p - (0 + (0 + (x.l.len - x.l.at_))))))),Value.int .u64 (dw.id (x.l.e (0 + (p - (0 + (0 + (x.l.len - x.l.at_))))))),Value.int .u64 (dw.ver (x.l.e (0 + (p - (0 + (0 + (x.l.len - x.l.at_))))))),Value.int .i64 (dw.line (x.l.e (0 + (p - (0 + (0 + (x.l.len - x.l.at_))))))),Value.int .i64 (dw.cls (x.l.e (0 + (p - (0 + (0 + (x.l.len - x.l.at_)))))))] (Cs.eff (fun (p_1 : Nat) => cond (Nat.ble 0 p_1 && Nat.blt p_1 (0 + (x.l.len - x.l.at_))) [Value.string (dw.key (x.l.e (0 + x.l.at_ + (p_1 - 0)))),Value.int .u64 (dw.id (x.l.e (0 + x.l.at_ + (p_1 - 0)))),Value.int .u64 (dw.ver (x.l.e (0 + x.l.at_ + (p_1 - 0)))),Value.int .i64 (dw.line (x.l.e (0 + x.l.at_ + (p_1 - 0)))),Value.int .i64 (dw.cls (x.l.e (0 + x.l.at_ + (p_1 - 0))))] [Value.string (ByteArray.mk #[]),Value.int .u64 0,Value.int .u64 0,Value.int .i64 0,Value.int .i64 0]) [] p)) [(0 + (0 + (x.l.len - x.l.at_) + (x.l.at_ - 0)),List.take 5 [Value.string x.x.key,Value.int .u64 x.x.id,Value.int .u64 x.x.ver,Value.int .i64 x.x.line,Value.int .i64 x.x.cls])] q)/\True) (af9 x)) (aga x))) ((2 * (0 + (x.l.len - x.l.at_)) + 1000) * 48<=281474976710656/\True/\True/\0<=(x.l.at_ : Int)/\Zl x.l/\0 + (x.l.len - x.l.at_) = 0 + (x.l.len - x.l.at_)/\0 + (x.l.at_ - 0)<=x.l.cap/\Zg x.l/\
 aga x))) (I64 ((x.l.at_ : Int) + (x.l.n : Int))/\((x.l.len : Int) = 0->False)/\(0<=Int.tmod ((x.l.at_ : Int) + (x.l.n : Int)) (x.l.len : Int)/\Int.tmod ((x.l.at_ : Int) + (x.l.n : Int)) (x.l.len : Int) < (x.l.len : Int))/\0 + Int.toNat (Int.tmod ((x.l.at_ : Int) + (x.l.n : Int)) (x.l.len : Int)) < x.l.cap/\True/\I64 ((x.l.n : Int) + 1)/\True/\∃ y : Unit,True/\True/\((0 = 0/\ZLn.len (x.l.push x.x) = x.l.len/\ZLn.cap (x.l.push x.x) = x.l.cap)/\((ZLn.at_ (x.l.push x.x) : Nat) : Int) = (x.l.at_ : Int)/\((ZLn.n (x.l.push x.x) : Nat) : Int) = (x.l.n : Int) + 1/\True)/\(ZLn.cap (x.l.push x.x) = x.l.cap/\∀ q : Nat,q < ZLn.cap (x.l.push x.x)->[Value.string (dw.key (ZLn.e (x.l.push x.x) q)),Value.int .u64 (dw.id (ZLn.e (x.l.push x.x) q)),Value.int .u64 (dw.ver (ZLn.e (x.l.push x.x) q)),Value.int .i64 (dw.line (ZLn.e (x.l.push x.x) q)),Value.int .i64 (dw.cls (ZLn.e (x.l.push x.x) q))] = Cs.eff (fun (i : Nat) => dw.cs (x.l.e i)) [(0 + Int.toNat (Int.tmod ((x.l.at_ : Int) + (x.l.n : Int)) (x.l.len : Int)),[Value.string x.x.key,Value.int .u64 x.x.id,Value.int .u64 x.x.ver,Value.int .i64 x.x.line,Value.int .i64 x.x.cls])] q)/\True)
theorem G5 (x : acs) : vw x = wpF Tryz.prog tZ tt (noA x) 200 5 254 (xZ.args x) (hO 2 (dN 1 (xZ.l x))) (fun v h' => dA 1 x v h' xZ.outs) := by kernel_rfl
def vC (x : Unit) : Prop :=
 Zi
theorem G6 (x : Unit) : vC x = wpF Tryz.prog tZ tt (noA x) 200 5 154 (x9.args x) (hO 1 (dN 1 (x9.l x))) (fun v h' => dA 1 x v h' x9.outs) := by kernel_rfl
def vF (x : ZLn) : Prop :=
 cP (BEq.beq (x.n : Int) (0 : Int)) (∃ y : Unit,True/\Zj x/\Am x) (Rf x/\0 + x.at_ < x.cap/\True/\∃ y : Unit,True/\Zh x/\Am x)
theorem G7 (x : ZLn) : vF x = wpF Tryz.prog tZ tt (noA x) 200 5 154 (yc.args x) (hO 2 (dN 1 (yc.l x))) (fun v h' => dA 1 x v h' yc.outs) := by kernel_rfl
def y9 (x : Unit) : Prop :=
 Zi
theorem ML (x : Unit) : y9 x = wpF Tryz.prog tZ tt (noA x) 200 5 255 (Dh.args x) (hO 1 (dN 1 (Dh.l x))) (fun v h' => dA 1 x v h' Dh.outs) := by kernel_rfl
def zf (x : ZLn) : Prop :=
 cP (BEq.beq (x.n : Int) (0 : Int)) (∃ y : Unit,True/\Zj x/\((0 = 0/\x.pop.len = x.len/\x.pop.cap = x.cap)/\(x.pop.at_ : Int) = (x.at_ : Int)/\(x.pop.n : Int) = (x.n : Int)/\True)/\(x.pop.cap = x.cap/\∀ q : Nat,q < x.pop.cap->[Value.string (dw.key (x.pop.e q)),Value.int .u64 (dw.id (x.pop.e q)),Value.int .u64 (dw.ver (x.pop.e q)),Value.int .i64 (dw.line (x.pop.e q)),Value.int .i64 (dw.cls (x.pop.e q))] = [Value.string (dw.key (x.e q)),Value.int .u64 (dw.id (x.e q)),Value.int .u64 (dw.ver (x.e q)),Value.int .i64 (dw.line (x.e q)),Value.int .i64 (dw.cls (x.e q))])/\True) (Rf x/\0 + x.at_ < x.cap/\True/\Rf x/\0 + x.at_ < x.cap/\True/\I64 ((x.at_ : Int) + 1)/\((x.len : Int) = 0->False)/\True/\I64 ((x.n : Int) - 1)/\∃ y : Unit,True/\Zh x/\((0 = 0/\x.pop.len = x.len/\x.pop.cap = x.cap)/\(x.pop.at_ : Int) = Int.tmod ((x.at_ : Int) + 1) (x.len : Int)/\(x.pop.n : Int) = (x.n : Int) - 1/\True)/\(x.pop.cap = x.cap/\∀ q : Nat,q < x.pop.cap->[Value.string (dw.key (x.pop.e q)),Value.int .u64 (dw.id (x.pop.e q)),Value.int .u64 (dw.ver (x.pop.e q)),Value.int .i64 (dw.line (x.pop.e q)),Value.int .i64 (dw.cls (x.pop.e q))] = Cs.eff (fun (i : Nat) => dw.cs (x.e i)) [(0 + x.at_,[Value.string (ByteArray.mk #[]),Value.int .u64 0,Value.int .u64 0,Value.int .i64 0,Value.int .i64 0])] q)/\True)
theorem MN (x : ZLn) : zf x = wpF Tryz.prog tZ tt (noA x) 200 5 255 (Di.args x) (hO 2 (dN 1 (Di.l x))) (fun v h' => dA 1 x v h' Di.outs) := by kernel_rfl
def zh (x : Unit) : Prop :=
 ∃ y : Unit,True/\(0 : Int) = 0/\Et
theorem MO (x : Unit) : zh x = wpF Tryz.prog tZ tt (noA x) 200 5 21 (Dj.args x) (hO 1 (dN 1 (Dj.l x))) (fun v h' => dA 1 x v h' Dj.outs) := by kernel_rfl
def zi (x : ZLn) : Prop :=
 ∃ y : Unit,True/\(x.n : Int) = (x.n : Int)/\Am x
theorem MP (x : ZLn) : zi x = wpF Tryz.prog tZ tt (noA x) 200 5 21 (Dk.args x) (hO 2 (dN 1 (Dk.l x))) (fun v h' => dA 1 x v h' Dk.outs) := by kernel_rfl
def zk (x : Unit) : Prop :=
 ∃ y : Unit,True/\ql/\Et
theorem MQ (x : Unit) : zk x = wpF Tryz.prog tZ tt (noA x) 200 5 70 (Dl.args x) (hO 1 (dN 1 (Dl.l x))) (fun v h' => dA 1 x v h' Dl.outs) := by kernel_rfl
def zl (x : ZLn) : Prop :=
 (∃ s : Unit,Hd True/\True/\((0 : Int) = 0/\ql/\True)/\Q9 x/\Ak x/\True)/\(∀ s : Unit,Hd True->cP (decide (0 < (x.n : Int))) (I64 ((x.at_ : Int) + 0)/\((x.len : Int) = 0->False)/\(0<=Int.tmod ((x.at_ : Int) + 0) (x.len : Int)/\Int.tmod ((x.at_ : Int) + 0) (x.len : Int) < (x.len : Int))/\0 + Int.toNat (Int.tmod ((x.at_ : Int) + 0) (x.len : Int)) < x.cap/\True/\(2 * (0 + 1) + 1000) * 48<=281474976710656/\True/\True/\I64 (1 : Int)/\∃ s_1 : Nat,Hd (1<=s_1/\s_1<=x.n)/\x.n - s_1 < x.n + 1/\((s_1 : Int) = 1/\(0 = 0/\s_1 = 1)/\True)/\(s_1 = 0 + List.length [List.take 5 [Value.string (dw.key (x.e (0 + Int.toNat (Int.tmod ((x.at_ : Int) + 0) (x.len : Int))))),Value.int .u64 (dw.id (x.e (0 + Int.toNat (Int.tmod ((x.at_ : Int) + 0) (x.len : Int))))),Value.int .u64 (dw.ver (x.e (0 + Int.toNat (Int.tmod ((x.at_ : Int) + 0) (x.len : Int))))),Value.int .i64 (dw.line (x.e (0 + Int.toNat (Int.tmod ((x.at_ : Int) + 0) (x.len : Int))))),Value.int .i64 (dw.cls (x.e (0 + Int.toNat (Int.tmod ((x.at_ : Int) + 0) (x.len : Int)))))]]/\
 ∀ q : Nat,q < s_1->[Value.string (dw.key (x.get q)),Value.int .u64 (dw.id (x.get q)),Value.int .u64 (dw.ver (x.get q)),Value.int .i64 (dw.line (x.get q)),Value.int .i64 (dw.cls (x.get q))] = Cs.eff (fun (x_1 : Nat) => []) [(0,List.take 5 [Value.string (dw.key (x.e (0 + Int.toNat (Int.tmod ((x.at_ : Int) + 0) (x.len : Int))))),Value.int .u64 (dw.id (x.e (0 + Int.toNat (Int.tmod ((x.at_ : Int) + 0) (x.len : Int))))),Value.int .u64 (dw.ver (x.e (0 + Int.toNat (Int.tmod ((x.at_ : Int) + 0) (x.len : Int))))),Value.int .i64 (dw.line (x.e (0 + Int.toNat (Int.tmod ((x.at_ : Int) + 0) (x.len : Int))))),Value.int .i64 (dw.cls (x.e (0 + Int.toNat (Int.tmod ((x.at_ : Int) + 0) (x.len : Int)))))])] q)/\Q9 x/\Ak x/\True) ((∃ y : Unit,Hd (x.n = 0)/\ql/\Am x) ∨ ∃ y : Unit,Hd (x.n ≠ 0)/\False))/\(∀ s : Nat,Hd (1<=s/\s<=x.n)->cP (decide ((s : Int) < (x.n : Int))) (I64 ((x.at_ : Int) + (s : Int))/\((x.len : Int) = 0->False)/\(0<=Int.tmod ((x.at_ : Int) + (s : Int)) (x.len : Int)/\Int.tmod ((x.at_ : Int) + (s : Int)) (x.len : Int) < (x.len : Int))/\0 + Int.toNat (Int.tmod ((x.at_ : Int) + (s : Int)) (x.len : Int)) < x.cap/\True/\s = s/\
 List.all [List.take 5 [Value.string (dw.key (x.e (0 + Int.toNat (Int.tmod ((x.at_ : Int) + (s : Int)) (x.len : Int))))),Value.int .u64 (dw.id (x.e (0 + Int.toNat (Int.tmod ((x.at_ : Int) + (s : Int)) (x.len : Int))))),Value.int .u64 (dw.ver (x.e (0 + Int.toNat (Int.tmod ((x.at_ : Int) + (s : Int)) (x.len : Int))))),Value.int .i64 (dw.line (x.e (0 + Int.toNat (Int.tmod ((x.at_ : Int) + (s : Int)) (x.len : Int))))),Value.int .i64 (dw.cls (x.e (0 + Int.toNat (Int.tmod ((x.at_ : Int) + (s : Int)) (x.len : Int)))))]] (fun (l : List Value) => Nat.beq (List.length l) 5 && List.all l Value.oneCell') = true/\(2 * (s + 1) + 1000) * 48<=281474976710656/\True/\True/\I64 ((s : Int) + 1)/\∃ s_1 : Nat,Hd (1<=s_1/\s_1<=x.n)/\x.n - s_1 < x.n - s/\((s_1 : Int) = (s : Int) + 1/\(0 = 0/\s_1 = s + 1)/\True)/\(s_1 = s + List.length [List.take 5 [Value.string (dw.key (x.e (0 + Int.toNat (Int.tmod ((x.at_ : Int) + (s : Int)) (x.len : Int))))),Value.int .u64 (dw.id (x.e (0 + Int.toNat (Int.tmod ((x.at_ : Int) + (s : Int)) (x.len : Int))))),Value.int .u64 (dw.ver (x.e (0 + Int.toNat (Int.tmod ((x.at_ : Int) + (s : Int)) (x.len : Int))))),Value.int .i64 (dw.line (x.e (0 + Int.toNat (Int.tmod ((x.at_ : Int) + (s : Int)) (x.len : Int))))),Value.int .i64 (dw.cls (x.e (0 + Int.toNat (Int.tmod ((x.at_ : Int) + (s : Int)) (x.len : Int)))))]]/\
 ∀ q : Nat,q < s_1->[Value.string (dw.key (x.get q)),Value.int .u64 (dw.id (x.get q)),Value.int .u64 (dw.ver (x.get q)),Value.int .i64 (dw.line (x.get q)),Value.int .i64 (dw.cls (x.get q))] = Cs.eff (fun (j : Nat) => dw.cs (x.get j)) [(s,List.take 5 [Value.string (dw.key (x.e (0 + Int.toNat (Int.tmod ((x.at_ : Int) + (s : Int)) (x.len : Int))))),Value.int .u64 (dw.id (x.e (0 + Int.toNat (Int.tmod ((x.at_ : Int) + (s : Int)) (x.len : Int))))),Value.int .u64 (dw.ver (x.e (0 + Int.toNat (Int.tmod ((x.at_ : Int) + (s : Int)) (x.len : Int))))),Value.int .i64 (dw.line (x.e (0 + Int.toNat (Int.tmod ((x.at_ : Int) + (s : Int)) (x.len : Int))))),Value.int .i64 (dw.cls (x.e (0 + Int.toNat (Int.tmod ((x.at_ : Int) + (s : Int)) (x.len : Int)))))])] q)/\Q9 x/\Ak x/\True) ((∃ y : Unit,Hd (x.n = 0)/\False/\Am x) ∨ ∃ y : Unit,Hd (x.n ≠ 0)/\(0 = 0/\x.n = s)/\Ak x/\(x.n = s/\∀ q : Nat,q < x.n->[Value.string (dw.key (x.get q)),Value.int .u64 (dw.id (x.get q)),Value.int .u64 (dw.ver (x.get q)),Value.int .i64 (dw.line (x.get q)),Value.int .i64 (dw.cls (x.get q))] = [Value.string (dw.key (x.get q)),Value.int .u64 (dw.id (x.get q)),Value.int .u64 (dw.ver (x.get q)),Value.int .i64 (dw.line (x.get q)),Value.int .i64 (dw.cls (x.get q))])/\Q9 x/\True))/\True
theorem MR (x : ZLn) : zl x = wpF Tryz.prog tZ tt (apK x) 200 5 70 (Dn.args x) (hO 2 (dN 1 (Dn.l x))) (fun v h' => dA 1 x v h' Dn.outs) := by kernel_rfl
end Go.Proofs.YtenfleoejgjklaaGreat
end
section
namespace Go.Proofs.YtenfleoejgjklaaGreat
open Go SE
set_option linter.unusedSimpArgs false
theorem WA {c : Int} (h : 0<=c/\c<=3) : 0 < spn c := by
 unfold spn
 split
 ·omega
 ·split
  ·omega
  ·split
   ·omega
   ·split <;> omega
theorem EC {g : Nat->List Value} {k q : Nat} {c : List Value} : Cs.eff g [(k,c)] q = if q = k then c else g q := by
 simp only [Cs.eff,bW,dK,dH,eu,← Bool.decide_and]
theorem anv (f : Nat->iw) (k : Nat) (x : iw) (q : Nat) (e : iw) (he : e = if q = k then x else f q) : [Value.int .i64 e.line,Value.int .i64 e.cls,Value.int .u64 e.r,Value.int .u64 e.d,Value.int .i64 e.anti] = Cs.eff (fun i => (f i).cs) [(k,List.take 5 [Value.int .i64 x.line,Value.int .i64 x.cls,Value.int .u64 x.r,Value.int .u64 x.d,Value.int .i64 x.anti])] q := by
 subst he
 rw [EC]
 split <;> rfl
theorem WB (f : Nat->dw) (k : Nat) (x : dw) (q : Nat) (e : dw) (he : e = if q = k then x else f q) : [Value.string e.key,Value.int .u64 e.id,Value.int .u64 e.ver,Value.int .i64 e.line,Value.int .i64 e.cls] = Cs.eff (fun i => (f i).cs) [(k,[Value.string x.key,Value.int .u64 x.id,Value.int .u64 x.ver,Value.int .i64 x.line,Value.int .i64 x.cls])] q := by
 subst he
 rw [EC]
 split <;> rfl
theorem G8 (x : BD) (hx : x.b.ok/\x.x.may/\x.b.z = true) : Eu x := by
 obtain ⟨⟨h1,h2⟩,⟨m1,m2,m3,m4,m5,m6⟩,hz⟩ := hx
 have hn := h2 hz
 have hs := WA (c := x.x.cls) ⟨m3,m4⟩
 have e1 : decide (x.x.line ≥ 2) = true := decide_eq_true m1
 have e2 : decide (x.x.line < 258) = true := decide_eq_true m2
 have e3 : decide (spn x.x.cls > 0) = true := decide_eq_true hs
 have e4 : decide (x.x.anti ≥ -1) = true := decide_eq_true m5
 have e5 : decide (x.x.anti < 258) = true := decide_eq_true m6
 unfold Eu
 simp only [Jh]
 simp only [aY,aU,aT,ay,aH,bJ,bg,aN,aJ,au,aW,aV,bK,bC,bD,bF,bM,bf,bG,aZ,dY,aG,aK,ah,aj,aA,aC,aB,aF,e1,e2,e3,e4,e5,kH,iH,Bool.not_true]
 have e : x.b.put x.x = ⟨false,1,fun i => if i = 0 then x.x else x.b.e i⟩ := by unfold iD.put; rw [hn]; rfl
 rw [e,hn]
 refine ⟨by decide,rfl,rfl,rfl,fun q hq => ?_⟩
 have : q = 0 := by have : q < 1 := hq; omega
 subst this; rfl
theorem G9 (x : BD) (hx : x.b.ok/\x.x.may/\x.b.z = false) : Ew x := by
 obtain ⟨⟨h1,h2⟩,⟨m1,m2,m3,m4,m5,m6⟩,hz⟩ := hx
 have hs := WA (c := x.x.cls) ⟨m3,m4⟩
 have e1 : decide (x.x.line ≥ 2) = true := decide_eq_true m1
 have e2 : decide (x.x.line < 258) = true := decide_eq_true m2
 have e3 : decide (spn x.x.cls > 0) = true := decide_eq_true hs
 have e4 : decide (x.x.anti ≥ -1) = true := decide_eq_true m5
 have e5 : decide (x.x.anti < 258) = true := decide_eq_true m6
 unfold Ew
 simp only [Ji,anu]
 simp only [aY,aU,aT,ay,aH,bJ,bg,aN,aJ,au,aW,aV,bK,bC,bD,bF,bM,bf,bG,aZ,dY,aG,aK,ah,aj,aA,aC,aB,aF,e1,e2,e3,e4,e5,kH,iH,Bool.not_true]
 unfold iD.put
 refine bH (fun h => ?_) fun h => ?_
 ·have hge : ¬ x.b.n < 258 := by have := aQ h; omega
  simp only [if_neg hge]
  exact ⟨trivial,trivial,trivial,fun q _ => trivial⟩
 ·have hlt : x.b.n < 258 := by have := aS h; omega
  simp only [if_pos hlt]
  exact ⟨rfl,by omega,trivial,trivial,rfl,fun q hq => anv _ _ _ _ _ rfl⟩
theorem He (x : Unit) : Ey x := by
 unfold Ey
 simp only [ql]
 simp only [aY,aU,aT,ay,aH,bJ,bg,aN,aJ,au,aW,aV,bK,bC,bD,bF,bM,bf,bG,aZ,dY,aG,aK,ah,aj,aA,aC,aB,aF]
theorem Hf (x : iD) (hx : x.ok/\x.z = false) : Ez x := by
 have := hx.1.1
 unfold Ez
 simp only [agb]
 simp only [aY,aU,aT,ay,aH,bJ,bg,aN,aJ,au,aW,aV,bK,bC,bD,bF,bM,bf,bG,aZ,dY,aG,aK,ah,aj,aA,aC,aB,aF]
 refine ⟨aX _,bH (fun h => ?_) fun _ => by omega⟩
 have h0 : x.n = 0 := ak h
 exact ⟨h0,by omega,fun q hq => by omega⟩
theorem BF (x : Unit) : vC x := by
 unfold vC
 simp only [Zi,Et,ql]
 simp only [aY,aU,aT,ay,aH,bJ,bg,aN,aJ,au,aW,aV,bK,bC,bD,bF,bM,bf,bG,aZ,dY,aG,aK,ah,aj,aA,aC,aB,aF]
theorem ED (x : Unit) : y9 x := by
 unfold y9
 simp only [Zi,Et,ql]
 simp only [aY,aU,aT,ay,aH,bJ,bg,aN,aJ,au,aW,aV,bK,bC,bD,bF,bM,bf,bG,aZ,dY,aG,aK,ah,aj,aA,aC,aB,aF]
theorem EF (x : Unit) : zh x := by
 unfold zh
 simp only [Et,ql]
 simp only [aY,aU,aT,ay,aH,bJ,bg,aN,aJ,au,aW,aV,bK,bC,bD,bF,bM,bf,bG,aZ,dY,aG,aK,ah,aj,aA,aC,aB,aF]
theorem EG (x : Unit) : zk x := by
 unfold zk
 simp only [ql,Et]
 simp only [aY,aU,aT,ay,aH,bJ,bg,aN,aJ,au,aW,aV,bK,bC,bD,bF,bM,bf,bG,aZ,dY,aG,aK,ah,aj,aA,aC,aB,aF]
theorem EH (x : ZLn) (_ : x.ok/\x.len ≠ 0) : zi x := by
 unfold zi
 simp only [Am,Ak,Q9]
 simp only [aY,aU,aT,ay,aH,bJ,bg,aN,aJ,au,aW,aV,bK,bC,bD,bF,bM,bf,bG,aZ,dY,aG,aK,ah,aj,aA,aC,aB,aF]
theorem Zm {x : ZLn} (h : x.at_ < x.len) : x.get 0 = x.e x.at_ := by
 unfold ZLn.get
 rw [aH,Nat.mod_eq_of_lt h]
theorem BG (x : ZLn) (hx : x.ok/\x.len ≠ 0) : vF x := by
 obtain ⟨⟨o1,o2,o3,o4,o5⟩,hl⟩ := hx
 have := o5 hl
 unfold vF
 simp only [Zj,Am,Rf,Zh,Ak,Q9]
 simp only [aY,aU,aT,ay,aH,bJ,bg,aN,aJ,au,aW,aV,bK,bC,bD,bF,bM,bf,bG,aZ,dY,aG,aK,ah,aj,aA,aC,aB,aF]
 refine bH (fun h => ?_) fun h => ?_
 ·have h0 : x.n = 0 := by have := beq_iff_eq.1 h; omega
  rw [show x.head = oz from if_pos h0,h0]
  exact ⟨⟨rfl,rfl,rfl,rfl,rfl⟩,rfl⟩
 ·have h0 : x.n ≠ 0 := fun e => by rw [e] at h; exact absurd h (by decide)
  rw [show x.head = x.e x.at_ from (if_neg h0).trans (Zm this)]
  exact ⟨⟨by omega,by omega⟩,by omega,⟨rfl,rfl,rfl,rfl,rfl⟩,decide_eq_true h0⟩
theorem EI (x : ZLn) (hx : x.ok/\x.len ≠ 0) : zf x := by
 obtain ⟨⟨o1,o2,o3,o4,o5⟩,hl⟩ := hx
 have := o5 hl
 unfold zf
 simp only [Zj,Rf,Zh]
 simp only [aY,aU,aT,ay,aH,bJ,bg,aN,aJ,au,aW,aV,bK,bC,bD,bF,bM,bf,bG,aZ,dY,aG,aK,ah,aj,aA,aC,aB,aF]
 refine bH (fun h => ?_) fun h => ?_
 ·have h0 : x.n = 0 := by have := beq_iff_eq.1 h; omega
  rw [show x.head = oz from if_pos h0,show x.pop = x from if_pos h0,h0]
  exact ⟨⟨⟨rfl,rfl,rfl,rfl,rfl⟩,rfl⟩,⟨⟨rfl,rfl⟩,rfl,rfl⟩,rfl,fun q _ => rfl⟩
 ·have h0 : x.n ≠ 0 := fun e => by rw [e] at h; exact absurd h (by decide)
  rw [show x.head = x.e x.at_ from (if_neg h0).trans (Zm this),show x.pop = ⟨x.len,x.cap,(x.at_ + 1) % x.len,x.n - 1,fun i => if i = x.at_ then oz else x.e i⟩ from if_neg h0]
  exact ⟨⟨by omega,by omega⟩,by omega,⟨by omega,by omega⟩,by omega,⟨by unfold I64; omega,by omega,by unfold I64; omega,⟨⟨rfl,rfl,rfl,rfl,rfl⟩,decide_eq_true h0⟩,⟨⟨rfl,rfl⟩,(Int.ofNat_tmod (x.at_ + 1) x.len),by show ((x.n - 1 : Nat) : Int) = _; omega⟩,rfl,fun q _ => WB _ _ oz _ _ rfl⟩⟩
theorem BH (x : dw) : vk x := by
 unfold vk
 simp only [yg]
 simp only [aY,aU,aT,ay,aH,bJ,bg,aN,aJ,au,aW,aV,bK,bC,bD,bF,bM,bf,bG,aZ,dY,aG,aK,ah,aj,aA,aC,aB,aF]
 refine ⟨by unfold I64; omega,by unfold I64; omega,by decide,by decide,by decide,by decide,by decide,by decide,by decide,by decide,rfl,by decide,by unfold I64; omega,⟨rfl,rfl⟩,fun q hq => ?_⟩
 have : q = 0 := by omega
 subst this; rfl
theorem Lm (a b : Nat) : ((a : Int) + (b : Int)) = ((a + b : Nat) : Int) := by omega
theorem anw {x : ZLn} (s : Nat) : x.e ((x.at_ + s) % x.len) = x.get s := rfl
theorem EJ (x : ZLn) (hx : x.ok/\x.len ≠ 0) : zl x := by
 obtain ⟨⟨o1,o2,o3,o4,o5⟩,hl⟩ := hx
 have := o5 hl
 have ht : ∀ s : Nat,((x.at_ : Int) + (s : Int)).tmod (x.len : Int) = (((x.at_ + s) % x.len : Nat) : Int) := fun s => by rw [Lm]; exact (Int.ofNat_tmod _ _).symm
 have hm : ∀ s : Nat,(x.at_ + s) % x.len < x.len := fun s => Nat.mod_lt _ (by omega)
 have hm0 := hm 0
 have ht0 := ht 0
 have hg0 : x.e (x.at_ % x.len) = x.get 0 := rfl
 unfold zl
 simp only [ql,Q9,Ak,Am]
 simp only [Int.natCast_zero,Int.add_zero,aH] at ht0 hm0
 simp only [aY,aU,aT,ay,aH,bJ,bg,aN,aJ,au,aW,aV,bK,bC,bD,bF,bM,bf,bG,aZ,dY,aG,aK,ah,aj,aA,aC,aB,aF,Int.add_zero,ht,ht0,hg0,anw]
 refine ⟨bH (fun h => ?_) fun h => ?_,fun s hs => bH (fun h => ?_) fun h => ?_⟩
 ·have hn : 0 < x.n := by have := aQ h; omega
  refine ⟨by unfold I64; omega,by omega,⟨by omega,by omega⟩,by omega,by omega,by unfold I64; omega,1,by omega,by omega,by omega,rfl,fun q hq => ?_⟩
  have : q = 0 := by omega
  subst this; rfl
 ·exact .inl (by have := aS h; omega)
 ·have hn : s < x.n := by have := aQ h; omega
  have := hm s
  refine ⟨by unfold I64; omega,by omega,⟨by omega,by omega⟩,by omega,rfl,by omega,by unfold I64; omega,s + 1,by omega,by omega,by omega,rfl,fun q hq => WB _ _ (x.get s) _ _ ?_⟩
  split
  ·rename_i e; rw [e]
  ·rfl
 ·exact .inr (by have := aS h; omega)
theorem BI (x : acs) (hx : x.l.ok/\x.l.len ≠ 0) : vw x := by
 obtain ⟨⟨o1,o2,o3,o4,o5⟩,hl⟩ := hx
 have hat := o5 hl
 have e1 : Nat.beq (x.l.len - x.l.at_) 0 = false := by rw [dH]; exact decide_eq_false (by omega)
 have g1 : ∀ q,q < x.l.len - x.l.at_->x.l.get q = x.l.e (x.l.at_ + q) := fun q h => by unfold ZLn.get; rw [Nat.mod_eq_of_lt (by omega)]
 have g2 : ∀ q,x.l.len - x.l.at_<=q->q < x.l.len->x.l.get q = x.l.e (q - (x.l.len - x.l.at_)) := fun q h1 h2 => by
  unfold ZLn.get
  rw [show x.l.at_ + q = (q - (x.l.len - x.l.at_)) + x.l.len by omega,Nat.add_mod_right,Nat.mod_eq_of_lt (by omega)]
 have hz : oz = ⟨⟨#[]⟩,0,0,0,0⟩ := rfl
 unfold vw
 simp only [Zl,yg,yh,Jg,Zg,af8,Zk,af9,aga]
 simp only [aY,aU,aT,ay,aH,bJ,bg,aN,aJ,au,aW,aV,bK,bC,bD,bF,bM,bf,bG,aZ,dY,aG,aK,ah,aj,aA,aC,aB,aF,e1,iH]
 refine bH (fun h => ?_) fun h => ?_
 ·have hn : x.l.n = x.l.len := by have := beq_iff_eq.1 h; omega
  have e2 : (2 * (x.l.n : Int) + 1).toNat = 2 * x.l.len + 1 := by omega
  have e3 : Nat.ble (x.l.len - x.l.at_) (2 * x.l.len + 1) = true := by rw [Nat.ble_eq]; omega
  have e4 : x.l.push x.x = ⟨x.l.len + 1,2 * x.l.len + 1,0,x.l.len + 1,fun i => if i < x.l.len then x.l.get i else if i = x.l.len then x.x else oz⟩ := by rw [← hn]; exact if_pos hn
  simp only [e2,e3,e4,kH]
  by_cases ha : x.l.at_ = 0
  ·have e5 : Nat.beq x.l.at_ 0 = true := by rw [ha]; rfl
   have e6 : Nat.ble (x.l.len - x.l.at_ + 1) (2 * x.l.len + 1) = true := by rw [Nat.ble_eq]; omega
   simp only [e5,e6,kH]
   refine ⟨by unfold I64; omega,by unfold I64; omega,by omega,by omega,by omega,by omega,by omega,fun k _ => rfl,by omega,by omega,by omega,by omega,by omega,by omega,rfl,by omega,by unfold I64; omega,⟨⟨by omega,trivial⟩,by omega,by omega⟩,trivial,fun q hq => ?_⟩
   rw [EC]
   simp only [Cs.eff,bW,dK,dH,eu,← Bool.decide_and]
   grind
  ·have e5 : Nat.beq x.l.at_ 0 = false := by rw [dH]; exact decide_eq_false ha
   have e6 : Nat.ble (x.l.len - x.l.at_ + x.l.at_) (2 * x.l.len + 1) = true := by rw [Nat.ble_eq]; omega
   have e7 : Nat.ble (x.l.len - x.l.at_ + x.l.at_ + 1) (2 * x.l.len + 1) = true := by rw [Nat.ble_eq]; omega
   simp only [e5,e6,e7,kH,iH]
   refine ⟨by unfold I64; omega,by unfold I64; omega,by omega,by omega,by omega,by omega,by omega,fun k _ => rfl,by omega,by omega,by omega,by omega,by omega,fun k _ => rfl,by omega,by omega,rfl,by omega,by unfold I64; omega,⟨⟨by omega,trivial⟩,by omega,by omega⟩,trivial,fun q hq => ?_⟩
   rw [EC]
   simp only [Cs.eff,bW,dK,dH,eu,← Bool.decide_and]
   grind
 ·have hn : x.l.n ≠ x.l.len := fun e => by rw [e] at h; simp at h
  have ht : ((x.l.at_ : Int) + (x.l.n : Int)).tmod (x.l.len : Int) = (((x.l.at_ + x.l.n) % x.l.len : Nat) : Int) := by rw [Lm]; exact (Int.ofNat_tmod _ _).symm
  have hm : (x.l.at_ + x.l.n) % x.l.len < x.l.len := Nat.mod_lt _ (by omega)
  rw [show x.l.push x.x = ⟨x.l.len,x.l.cap,x.l.at_,x.l.n + 1,fun i => if i = (x.l.at_ + x.l.n) % x.l.len then x.x else x.l.e i⟩ from if_neg hn]
  simp only [ht,au]
  exact ⟨by unfold I64; omega,by omega,⟨by omega,by omega⟩,by omega,by unfold I64; omega,⟨⟨trivial,trivial⟩,trivial,by omega⟩,trivial,fun q _ => WB _ _ x.x _ _ rfl⟩
theorem acu : bV Tryz.prog 66 (qV true).ctr := dJ dI mixed (.cons (bT kQ) .nil) 1 noA 200 5 (fun _ => ⟨rfl,rfl,rfl,rfl⟩) fun x hx => Eq.mp (Rh x) (G8 x (aY.1 hx))
theorem acv : bV Tryz.prog 66 (qV false).ctr := dJ dI mixed (.cons (bT kQ) .nil) 2 noA 200 5 (fun _ => ⟨rfl,rfl,rfl,rfl⟩) fun x hx => Eq.mp (Ri x) (G9 x (aY.1 hx))
theorem acw : bV Tryz.prog 278 MJ.ctr := dJ dI mixed eX 1 noA 200 5 (fun _ => ⟨rfl,rfl,rfl,rfl⟩) fun x _ => Eq.mp (Rj x) (He x)
theorem acy : bV Tryz.prog 278 MK.ctr := dJ dI mixed eX 2 noA 200 5 (fun _ => ⟨rfl,rfl,rfl,rfl⟩) fun x hx => Eq.mp (Rk x) (Hf x (aY.1 hx))
theorem Rl : bV Tryz.prog 254 xY.ctr := dJ dI mixed eX 1 noA 200 5 (fun _ => ⟨rfl,rfl,rfl,rfl⟩) fun x _ => Eq.mp (GZ x) (BH x)
theorem Rn : bV Tryz.prog 254 xZ.ctr := dJ dI mixed eX 2 noA 200 5 (fun _ => ⟨rfl,rfl,rfl,rfl⟩) fun x hx => Eq.mp (G5 x) (BI x (aY.1 hx))
theorem Ro : bV Tryz.prog 154 x9.ctr := dJ dI mixed eX 1 noA 200 5 (fun _ => ⟨rfl,rfl,rfl,rfl⟩) fun x _ => Eq.mp (G6 x) (BF x)
theorem Rq : bV Tryz.prog 154 yc.ctr := dJ dI mixed eX 2 noA 200 5 (fun _ => ⟨rfl,rfl,rfl,rfl⟩) fun x hx => Eq.mp (G7 x) (BG x (aY.1 hx))
theorem WC : bV Tryz.prog 255 Dh.ctr := dJ dI mixed eX 1 noA 200 5 (fun _ => ⟨rfl,rfl,rfl,rfl⟩) fun x _ => Eq.mp (ML x) (ED x)
theorem WE : bV Tryz.prog 255 Di.ctr := dJ dI mixed eX 2 noA 200 5 (fun _ => ⟨rfl,rfl,rfl,rfl⟩) fun x hx => Eq.mp (MN x) (EI x (aY.1 hx))
theorem WG : bV Tryz.prog 21 Dj.ctr := dJ dI mixed eX 1 noA 200 5 (fun _ => ⟨rfl,rfl,rfl,rfl⟩) fun x _ => Eq.mp (MO x) (EF x)
theorem WH : bV Tryz.prog 21 Dk.ctr := dJ dI mixed eX 2 noA 200 5 (fun _ => ⟨rfl,rfl,rfl,rfl⟩) fun x hx => Eq.mp (MP x) (EH x (aY.1 hx))
theorem WI : bV Tryz.prog 70 Dl.ctr := dJ dI mixed eX 1 noA 200 5 (fun _ => ⟨rfl,rfl,rfl,rfl⟩) fun x _ => Eq.mp (MQ x) (EG x)
theorem WJ : bV Tryz.prog 70 Dn.ctr := dJ dI mixed eX 2 apK 200 5 (fun _ => ⟨rfl,rfl,rfl,rfl⟩) fun x hx => Eq.mp (MR x) (EJ x (aY.1 hx))
end Go.Proofs.YtenfleoejgjklaaGreat
end
section
namespace Go.Proofs.YtenfleoejgjklaaGreat
open Go SE
set_option linter.unusedSimpArgs false
theorem Rt {X : Type} (x : X) (v : AV) (h' : Heap) : nX x v h' [] = False := by with_unfolding_all rfl
theorem jF {X : Type} (x : X) (v : AV) (h' : Heap) (o : Out X) (r : List (Out X)) : nX x v h' (o :: r) = ((∃ y,o.post x y/\v = o.ret x y/\h' = hO o.m (o.os x y)) ∨ nX x v h' r) := by with_unfolding_all rfl
theorem nO {X : Type} {x : X} {v : AV} {h' : Heap} {o : Out X} (h : nX x v h' [o]) : ∃ y,o.post x y/\v = o.ret x y/\h' = hO o.m (o.os x y) := by
 rw [jF,Rt,or_false] at h; exact h
theorem qW {X : Type} {x : X} {v : AV} {h' : Heap} {o p : Out X} (h : nX x v h' [o,p]) : (∃ y,o.post x y/\v = o.ret x y/\h' = hO o.m (o.os x y)) ∨ ∃ y,p.post x y/\v = p.ret x y/\h' = hO p.m (p.os x y) := by
 rw [jF,jF,Rt,or_false] at h; exact h
theorem fK {X : Type} {x : X} {v : AV} {h' : Heap} {o : Out X} {r : List (Out X)} (h : ∃ y,o.post x y/\v = o.ret x y/\h' = hO o.m (o.os x y)) : nX x v h' (o :: r) := by
 rw [jF]; exact .inl h
theorem Ru {X : Type} {x : X} {v : AV} {h' : Heap} {o p : Out X} {r : List (Out X)} (h : ∃ y,p.post x y/\v = p.ret x y/\h' = hO p.m (p.os x y)) : nX x v h' (o :: p :: r) := by
 rw [jF,jF]; exact .inr (.inl h)
theorem vG {P : Program} {f : FuncId} {X : Type} {args : X->List AV} {k : Nat} {l : X->List PO} {pre : X->Prop} {ret : X->AV} {m : Nat} {l' : X->List PO}
  (h : ∀ x,pre x->∃ (Y : Type) (a2 : Y->List AV) (l2 : Y->List PO) (p2 : Y->Prop) (r2 : Y->AV) (l2' : Y->List PO) (y : Y),bV P f (og Y a2 k l2 p2 r2 m l2').ctr/\p2 y/\a2 y = args x/\l2 y = l x/\r2 y = ret x/\l2' y = l' x) :
  bV P f (og X args k l pre ret m l').ctr := by
 refine qj fun x hx => ?_
 obtain ⟨Y,a2,l2,p2,r2,l2',y,h1,h2,h3,h4,h5,h6⟩ := h x hx
 refine ⟨_,h1,rfl,y,h2,h3,by simp only [og,jw.ctr,h4],fun v h' hh => ?_⟩
 obtain ⟨u,e1,e2,e3⟩ := nO hh
 exact fK ⟨u,trivial,by rw [e2]; exact h5,by rw [e3]; show hO m ((l2' y).map PO.ab) = hO m ((l' x).map PO.ab); rw [h6]⟩
def agc : jw := og BD (fun x => [.ptr 0 0,x.x.av]) 1 (fun x => [.m x.b.os]) (fun x => Hd (x.b.ok/\x.x.may)) (fun x => i64 (if x.b.n < 258 then 0 else 11)) 1 (fun x => [.m (x.b.put x.x).os])
def agd : jw := { X := iD,args := fun _ => [.ptr 0 0],k := 1,l := fun b => [.m b.os],pre := fun b => Hd b.ok,outs := [
 { Y := Unit,post := fun b _ => Hd (b.n = 0),ret := fun _ _ => fJ,m := 1,l := fun b _ => [.m b.os] },
 { Y := Unit,post := fun _ _ => Hd True,ret := fun b _ => .slW 1 0 5 b.n,m := 2,l := fun b _ => [.m b.os,.o (.room 70 b.row)] }] }
def Rw : jw := og acs (fun x => [.ptr 0 0,x.x.av]) 1 (fun x => [.m x.l.os]) (fun x => Hd x.l.ok) (fun _ => .tup []) 1 (fun x => [.m (x.l.push x.x).os])
def qX : jw := og ZLn (fun _ => [.ptr 0 0]) 1 (fun l => [.m l.os]) (fun l => Hd l.ok) (fun l => .tup [l.head.av,boo (decide (l.n ≠ 0))]) 1 (fun l => [.m l.os])
def Zn : jw := og ZLn (fun _ => [.ptr 0 0]) 1 (fun l => [.m l.os]) (fun l => Hd l.ok) (fun l => .tup [l.head.av,boo (decide (l.n ≠ 0))]) 1 (fun l => [.m l.pop.os])
def Zo : jw := og ZLn (fun _ => [.ptr 0 0]) 1 (fun l => [.m l.os]) (fun l => Hd l.ok) (fun l => i64 l.n) 1 (fun l => [.m l.os])
def Zp : jw := { X := ZLn,args := fun _ => [.ptr 0 0],k := 1,l := fun l => [.m l.os],pre := fun l => Hd l.ok,outs := [
 { Y := Unit,post := fun l _ => Hd (l.n = 0),ret := fun _ _ => fJ,m := 1,l := fun l _ => [.m l.os] },
 { Y := Unit,post := fun l _ => Hd (l.n ≠ 0),ret := fun l _ => .slW 1 0 5 l.n,m := 2,l := fun l _ => [.m l.os,.o (.room 41 (l.all l.n))] }] }
theorem acz {b : iD} {x : iw} (h : b.ok) : (b.put x).os = (b.put x).osP ∨ b.z = false/\(b.put x).os = (b.put x).osP := by
 left
 unfold iD.put
 split
 ·rfl
 ·cases hz : b.z with
  | false => unfold iD.os; rw [hz]; rfl
  | true => have := h.2 hz; omega
theorem Jj {b : iD} (z : Bool) (h : b.z = z) : b.os = bif z then iD.osN else b.osP := by
 unfold iD.os; rw [h]
theorem agf : bV Tryz.prog 66 agc.ctr := vG fun x hx => by
 have hx := aY.1 hx
 have e : (x.b.put x.x).os = (x.b.put x.x).osP := (acz hx.1).elim id And.right
 cases hz : x.b.z with
 | true => exact ⟨_,_,_,_,_,_,x,acu,aY.2 ⟨hx.1,hx.2,hz⟩,rfl,by rw [Jj true hz],rfl,by rw [e]⟩
 | false => exact ⟨_,_,_,_,_,_,x,acv,aY.2 ⟨hx.1,hx.2,hz⟩,rfl,by rw [Jj false hz],rfl,by rw [e]⟩
theorem agh : bV Tryz.prog 278 agd.ctr := qj fun x hx => by
 have hx := aY.1 hx
 cases hz : x.z with
 | true =>
  refine ⟨_,acw,rfl,(),aY.2 trivial,rfl,by show [_] = [_]; rw [Jj true hz]; rfl,fun v h' hh => ?_⟩
  obtain ⟨y,_,h1,h2⟩ := nO hh
  exact fK ⟨(),aY.2 (hx.2 hz),h1,by rw [h2]; show hO 1 [_] = hO 1 [_]; rw [Jj true hz]; rfl⟩
 | false =>
  refine ⟨_,acy,rfl,x,aY.2 ⟨hx,hz⟩,rfl,by show [_] = [_]; rw [Jj false hz]; rfl,fun v h' hh => ?_⟩
  obtain ⟨y,_,h1,h2⟩ := nO hh
  exact Ru ⟨(),aY.2 trivial,h1,by rw [h2]; show hO 2 [_,_] = hO 2 [_,_]; rw [Jj false hz]; rfl⟩
theorem yj {l : ZLn} (h : l.len = 0) : l.os = ZLn.osN := by unfold ZLn.os; rw [h]; rfl
theorem qY {l : ZLn} (h : l.len ≠ 0) : l.os = l.osP := by unfold ZLn.os; rw [dH,decide_eq_false h]; rfl
theorem apL {l : ZLn} (h : l.ok) (h0 : l.len = 0) : l.n = 0 := by have := h.2.2.1; omega
theorem WL : bV Tryz.prog 254 Rw.ctr := vG fun x hx => by
 have hx := aY.1 hx
 by_cases hz : x.l.len = 0
 ·have hn := apL hx hz
  have e : x.l.push x.x = ⟨1,1,0,1,fun i => if i = 0 then x.x else oz⟩ := by
   unfold ZLn.push
   rw [hn,hz,if_pos rfl]
   simp only [Nat.not_lt_zero,if_false,Nat.mul_zero,ay]
  exact ⟨_,_,_,_,_,_,x.x,Rl,aY.2 trivial,rfl,by rw [yj hz],rfl,by rw [e]; rfl⟩
 ·have e : (x.l.push x.x).len ≠ 0 := by unfold ZLn.push; split <;> simp_all
  exact ⟨_,_,_,_,_,_,x,Rn,aY.2 ⟨hx,hz⟩,rfl,by rw [qY hz],rfl,by rw [qY e]⟩
theorem yu {l : ZLn} (h : l.n = 0) : l.head = oz := if_pos h
theorem pU : bV Tryz.prog 154 qX.ctr := vG fun x hx => by
 have hx := aY.1 hx
 by_cases hz : x.len = 0
 ·have hn := apL hx hz
  exact ⟨_,_,_,_,_,_,(),Ro,aY.2 trivial,rfl,by rw [yj hz],by rw [yu hn,hn]; rfl,by rw [yj hz]⟩
 ·exact ⟨_,_,_,_,_,_,x,Rq,aY.2 ⟨hx,hz⟩,rfl,by rw [qY hz],rfl,by rw [qY hz]⟩
theorem acA : bV Tryz.prog 255 Zn.ctr := vG fun x hx => by
 have hx := aY.1 hx
 by_cases hz : x.len = 0
 ·have hn := apL hx hz
  exact ⟨_,_,_,_,_,_,(),WC,aY.2 trivial,rfl,by rw [yj hz],by rw [yu hn,hn]; rfl,by rw [show x.pop = x from if_pos hn,yj hz]⟩
 ·have e : x.pop.len ≠ 0 := by unfold ZLn.pop; split <;> exact hz
  exact ⟨_,_,_,_,_,_,x,WE,aY.2 ⟨hx,hz⟩,rfl,by rw [qY hz],rfl,by rw [qY e]⟩
theorem acB : bV Tryz.prog 21 Zo.ctr := vG fun x hx => by
 have hx := aY.1 hx
 by_cases hz : x.len = 0
 ·have hn := apL hx hz
  exact ⟨_,_,_,_,_,_,(),WG,aY.2 trivial,rfl,by rw [yj hz],by rw [hn]; rfl,by rw [yj hz]⟩
 ·exact ⟨_,_,_,_,_,_,x,WH,aY.2 ⟨hx,hz⟩,rfl,by rw [qY hz],rfl,by rw [qY hz]⟩
theorem acC : bV Tryz.prog 70 Zp.ctr := qj fun x hx => by
 have hx := aY.1 hx
 by_cases hz : x.len = 0
 ·refine ⟨_,WI,rfl,(),aY.2 trivial,rfl,by show [_] = [_]; rw [yj hz],fun v h' hh => ?_⟩
  obtain ⟨y,_,h1,h2⟩ := nO hh
  exact fK ⟨(),aY.2 (apL hx hz),h1,by rw [h2]; show hO 1 [_] = hO 1 [_]; rw [yj hz]⟩
 ·refine ⟨_,WJ,rfl,x,aY.2 ⟨hx,hz⟩,rfl,by show [_] = [_]; rw [qY hz],fun v h' hh => ?_⟩
  rcases qW hh with ⟨y,h0,h1,h2⟩ | ⟨y,h0,h1,h2⟩
  ·exact fK ⟨(),h0,h1,by rw [h2]; show hO 1 [_] = hO 1 [_]; rw [qY hz]⟩
  ·exact Ru ⟨(),h0,h1,by rw [h2]; show hO 2 [_,_] = hO 2 [_,_]; rw [qY hz]⟩
end Go.Proofs.YtenfleoejgjklaaGreat
end
section
namespace Go.Proofs.YtenfleoejgjklaaGreat
open Go SE
structure dL where
 cls : Int
 kind : Int
 id : Int
 ver : Int
 epoch : Int
 key : ByteArray
 value : ByteArray
namespace dL
def av (b : dL) : AV := .agg [i64 b.cls,i64 b.kind,u64 b.id,u64 b.ver,u64 b.epoch,.lit (.string b.key),.lit (.string b.value)]
def num (v : Int) : Prop := 1<=v/\v<=2305843009213693952
def nums (b : dL) : Prop := num b.id/\num b.ver/\num b.epoch
def may (b : dL) : Prop := spn b.cls ≠ 0/\(
 b.kind = 0/\b.id = 0/\b.ver = 0/\b.epoch = 0/\b.key = ⟨#[]⟩/\b.value = ⟨#[]⟩ ∨
 b.kind = 1/\1<=b.key.size/\b.key.size<=16/\b.value.size<=400/\ned (b.key.size + b.value.size : Nat) = b.cls/\b.nums ∨
 b.kind = 2/\b.key = ⟨#[]⟩/\b.value.size<=400/\ned (b.key.size + b.value.size : Nat) = b.cls/\b.nums ∨
 b.kind = 3/\b.key.size + b.value.size = 0/\b.cls = 0/\b.nums)
def dat (b : dL) (i : Nat) : Int := if i < (b.key ++ b.value).size then fE (b.key ++ b.value) i else 0
def h32 (b : dL) (k : Nat) : Int := if k = 0 then 1 else if k = 1 then b.cls else if k = 2 then b.kind else if k = 3 then b.key.size else if k < 6 then (b.value.size : Int) / 256 ^ (k - 4) % 256 else if k < 8 then 0 else
 if k < 16 then b.id / 256 ^ (k - 8) % 256 else if k < 24 then b.ver / 256 ^ (k - 16) % 256 else if k < 32 then b.epoch / 256 ^ (k - 24) % 256 else 0
noncomputable def jy (b : dL) (g : Nat->Int) (n : Nat) (k : Nat) : Int := if k < 32 then b.h32 k else if k < 36 then ny (ny 0 b.h32 32) g n / 256 ^ (k - 32) % 256 else g (k - 36)
def iL (b : dL) : Nat := (cpc b.cls).toNat
def dD (b : dL) : Nat := (spn b.cls).toNat
noncomputable def enc (b : dL) (k : Nat) : Int := if k < 64 then b.jy b.dat b.iL k else if k % 64 = 0 then 2 else b.dat (28 + (k / 64 - 1) * 63 + (k % 64 - 1))
end dL
noncomputable def dL.UO (b : dL) : Bool := hide (@decide b.may (Classical.propDecidable _))
theorem yw {b : dL} : b.UO = true ↔ b.may := by unfold dL.UO; rw [pO]; exact @decide_eq_true_iff _ (Classical.propDecidable _)
noncomputable def alS : Ctr := det dL (fun b => [b.av]) 0 (fun _ => []) (fun b => Hd (b.key.size < 1099511627776/\b.value.size < 1099511627776)) (fun b => boo b.UO) 0 (fun _ => [])
def vW (g : Nat->Int) (a : Nat) : Nat->Int
 | 0 => 0
 | w + 1 => vW g a w + g (a + w) * 256 ^ w
structure EK where
 b : Bys
 at_ : Nat
 w : Nat
def anx : Ctr := det EK (fun x => [x.b.av 0,i64 x.at_,i64 x.w]) 1 (fun x => [x.b.ro]) (fun x => Hd (x.b.ok/\x.at_ + x.w<=x.b.n/\1<=x.w/\x.w<=8)) (fun x => .tup [u64 (vW (fun k => x.b.g (x.b.q + k)) x.at_ x.w),i64 0]) 1 (fun x => [x.b.ro])
def apM (x : EK) : FuncId->uU := fun f => bif Nat.beq f 228 then (fun b _ _ => bif Nat.beq b 0 then [
 { σ := Nat,fr := fun k => [(19,i64 k),(9,u64 (vW (fun k => x.b.g (x.b.q + k)) x.at_ k))],ob := fun _ => [],inv := fun k => Hd (k<=x.w),meas := fun k => x.w - k }] else []) else fun _ _ _ => []
structure BJ where
 g : Nat->Int
 at_ : Nat
 w : Nat
 v : Int
def WM : Ctr := det BJ (fun x => [.slE 0 0 1 64 64,i64 x.at_,i64 x.w,u64 x.v]) 1 (fun x => [.cells 5 (rowB x.g 64)]) (fun x => Hd (x.at_ + x.w<=64/\1<=x.w/\x.w<=8/\0<=x.v/\x.v < 256 ^ x.w/\∀ k,0<=x.g k/\x.g k < 256)) (fun _ => .tup []) 1 (fun x => [.cells 5 (rowB (oL x.g x.at_ x.w x.v) 64)])
structure zn where
 b : dL
 d : Bys
def zn.ok (x : zn) : Prop := x.d.ok/\28<=x.d.n/\x.b.key.size < 256/\x.b.value.size < 65536/\0<=x.b.cls/\x.b.cls < 256/\0<=x.b.kind/\x.b.kind < 256/\0<=x.b.id/\x.b.id < 18446744073709551616/\0<=x.b.ver/\x.b.ver < 18446744073709551616/\0<=x.b.epoch/\x.b.epoch < 18446744073709551616
noncomputable def WO : Ctr := det zn (fun x => [x.b.av,x.d.av 0]) 1 (fun x => [x.d.ro]) (fun x => Hd x.ok) (fun _ => .slE 1 0 1 64 64) 2 (fun x => [x.d.ro,.cells 5 (rowB (x.b.jy (fun k => x.d.g (x.d.q + k)) x.d.n) 64)])
noncomputable def apN : WTbl := [(171,ajV),(170,ctrT alF),(169,ctrT WM)]
noncomputable def tblB0 : WTbl := [(215,ctrT alG)]
end Go.Proofs.YtenfleoejgjklaaGreat
end
section
namespace Go.Proofs.YtenfleoejgjklaaGreat
open Go SE
def Zq (a : Int) : Prop := AV.lit (Value.int .i64 a) = AV.lit (Value.int .i64 a)
def Rx (a : Int) : Prop := Zq a/\True
def Ry (a : dL) : Prop := True/\a.UO = false/\True
def anz (a : dL) (b : Int) : Prop := True/\∀ y_1 : Unit,True->Rx a.cls/\cP (bne (ned b) a.cls) (∃ y_2 : Unit,Ry a) (cP (decide (a.id ≥ (1 : Int))) (cP (decide (a.id<=2305843009213693952)) (cP (decide (a.ver ≥ (1 : Int))) (cP (decide (a.ver<=2305843009213693952)) (cP (decide (a.epoch ≥ (1 : Int))) (∃ y_2 : Unit,True/\a.UO = decide (a.epoch<=2305843009213693952)/\True) (∃ y_2 : Unit,Ry a)) (∃ y_2 : Unit,Ry a)) (∃ y_2 : Unit,Ry a)) (∃ y_2 : Unit,Ry a)) (∃ y_2 : Unit,Ry a))
def oM (a : dL) : Prop := ∃ y_1 : Unit,Ry a
def Rz (a : dL) : Prop := (AV.lit (Value.tuple (@List.toArray Value (@List.nil Value))) = AV.lit (Value.tuple (@List.toArray Value (@List.nil Value)))/\True)/\oM a
def anA (a : dL) : Prop := cP (decide ((a.key.size : Int) + (a.value.size : Int) - (a.key.size : Int) > (400 : Int))) (Rz a) (I64 ((a.key.size : Int) + ((a.key.size : Int) + (a.value.size : Int) - (a.key.size : Int)))/\∃ x_1 : Int,True/\(x_1 = (a.key.size : Int) + ((a.key.size : Int) + (a.value.size : Int) - (a.key.size : Int))/\True)/\anz a x_1)
def anB (a : dL) : Prop := cP (decide ((a.key.size : Int) + (a.value.size : Int) > (400 : Int))) (Rz a) (I64 ((a.key.size : Int) + ((a.key.size : Int) + (a.value.size : Int)))/\∃ x_1 : Int,True/\(x_1 = (a.key.size : Int) + ((a.key.size : Int) + (a.value.size : Int))/\True)/\anz a x_1)
def acD (a : BJ) : Prop := Hd (a.at_ + a.w<=64/\1<=a.w/\a.w<=8/\0<=a.v/\a.v < @HPow.hPow Int Nat Int (@instHPow Int Nat (@instPowNat Int @Int.instNatPow)) (256 : Int) a.w/\∀ k : Nat,0<=a.g k/\a.g k < 256)
def RD (a : BJ) (b : BJ) : Prop := (64 = 64/\∀ q : Nat,q < 64->[Value.int .u8 (a.g q)] = [Value.int .u8 (oL b.g b.at_ b.w b.v q)])/\True
def yx (a : Bys) : Prop := rowB a.g a.N = rowB a.g a.N/\true = true
def Ap : Prop := 0 = 0/\64 = 64/\64 = 64
def agi (a : EK) : Prop := ∃ y : Unit,True/\(vW (fun (k : Nat) => a.b.g (a.b.q + k)) a.at_ a.w = 0/\(0 : Int) = 1/\True)/\yx a.b/\True
def agj (a : Bys) (b : Nat) : Prop := (Nat.beq (List.length [Value.int .u8 (a.g (a.q + b))]) 1 && List.all [Value.int .u8 (a.g (a.q + b))] Value.oneCell') = true
def agk (a : tX) (b : Nat) : Prop := (Nat.beq (List.length [Value.int .u8 (a.res (0 + b))]) 1 && List.all [Value.int .u8 (a.res (0 + b))] Value.oneCell') = true
def Zr (a : ByteArray) : Prop := AV.lit (Value.string a) = AV.lit (Value.string a)
def anC (b : dL) : Prop :=
 ∃ x : Int,True/\(x = b.cls/\True)/\True/\∀ y : Unit,True->cP (BEq.beq (spn x) (0 : Int)) (oM b) (I64 ((b.key.size : Int) + (b.value.size : Int))/\cP (BEq.beq b.kind (0 : Int)) (∃ y_1 : Unit,True/\b.UO = (BEq.beq b.cls b.cls && (BEq.beq b.kind (0 : Int) && (BEq.beq b.id (0 : Int) && (BEq.beq b.ver (0 : Int) && (BEq.beq b.epoch (0 : Int) && (BEq.beq (ByteArray.toList b.key) (ByteArray.toList (ByteArray.mk #[])) && (BEq.beq (ByteArray.toList b.value) (ByteArray.toList (ByteArray.mk #[])) && true)))))))/\True) (cP (BEq.beq b.kind (1 : Int)) (cP (decide ((b.key.size : Int) < 1)) (oM b) (cP (decide ((b.key.size : Int) > (16 : Int))) (oM b) (I64 ((b.key.size : Int) + (b.value.size : Int) - (b.key.size : Int))/\cP (BEq.beq b.kind (2 : Int)) (cP (Bool.not (BEq.beq (ByteArray.toList b.key) (ByteArray.toList (ByteArray.mk #[])))) (Rz b) (anA b)) (anA b)))) (cP (BEq.beq b.kind (2 : Int)) (cP (BEq.beq b.kind (2 : Int)) (cP (Bool.not (BEq.beq (ByteArray.toList b.key) (ByteArray.toList (ByteArray.mk #[])))) (Rz b) (anB b)) (anB b)) (cP (BEq.beq b.kind (3 : Int)) (cP (bne ((b.key.size : Int) + (b.value.size : Int)) (0 : Int)) (oM b) (cP (bne b.cls (0 : Int)) (oM b) (cP (decide (b.id ≥ (1 : Int))) (cP (decide (b.id<=2305843009213693952)) (cP (decide (b.ver ≥ (1 : Int))) (cP (decide (b.ver<=2305843009213693952)) (cP (decide (b.epoch ≥ (1 : Int))) (∃ y_1 : Unit,True/\b.UO = decide (b.epoch<=2305843009213693952)/\True) (oM b)) (oM b)) (oM b)) (oM b)) (oM b)))) (oM b)))))
theorem akk (b : dL) : anC b = wpF Tryz.prog [(113,ctrT xK),(201,ctrT VU)] tt (noA b) 200 5 229 (alS.args b) (hO alS.k (alS.os b)) (fun v h' => eU alS.k b v h' alS.outs) := by kernel_rfl
def anD (x : EK) : Prop :=
 cP (decide ((x.w : Int) < 1)) (agi x) (cP (decide ((x.w : Int) > (8 : Int))) (agi x) (I64 ((x.b.n : Int) - (x.w : Int))/\cP (decide ((x.at_ : Int) > (x.b.n : Int) - (x.w : Int))) (∃ y : Unit,True/\(vW (fun (k : Nat) => x.b.g (x.b.q + k)) x.at_ x.w = 0/\(0 : Int) = 2/\True)/\yx x.b/\True) ((∃ s : Nat,Hd (s<=x.w)/\True/\((s : Int) = 0/\vW (fun (k : Nat) => x.b.g (x.b.q + k)) x.at_ s = 0/\True)/\yx x.b/\True)/\(∀ s : Nat,Hd (s<=x.w)->cP (decide ((s : Int) < (x.w : Int))) (I64 ((x.at_ : Int) + (s : Int))/\(0<=(x.at_ : Int) + (s : Int)/\(x.at_ : Int) + (s : Int) < (x.b.n : Int))/\x.b.q + Int.toNat ((x.at_ : Int) + (s : Int)) < x.b.N/\I64 (8 * (s : Int))/\0<=8 * (s : Int)/\I64 ((s : Int) + 1)/\∃ s_1 : Nat,Hd (s_1<=x.w)/\x.w - s_1 < x.w - s/\((s_1 : Int) = (s : Int) + 1/\vW (fun (k : Nat) => x.b.g (x.b.q + k)) x.at_ s_1 = IntKind.wrap .u64 ((@BitVec.toNat 64 (@HOr.hOr (@BitVec 64) (@BitVec 64) (@BitVec 64) (@instHOrOfOrOp (@BitVec 64) (@BitVec.instOrOp 64)) (@BitVec.ofInt 64 (vW (fun (k : Nat) => x.b.g (x.b.q + k)) x.at_ s)) (@BitVec.ofInt 64 (IntKind.wrap .u64 (IntKind.wrap .u64 (x.b.g (x.b.q + Int.toNat ((x.at_ : Int) + (s : Int)))) * @HPow.hPow Int Nat Int (@instHPow Int Nat (@instPowNat Int @Int.instNatPow)) (2 : Int) (@Min.min Nat @instMinNat (Int.toNat (8 * (s : Int))) 64))))) : Nat) : Int)/\True)/\yx x.b/\True) (∃ y : Unit,True/\(vW (fun (k : Nat) => x.b.g (x.b.q + k)) x.at_ x.w = vW (fun (k : Nat) => x.b.g (x.b.q + k)) x.at_ s/\(0 : Int) = 0/\True)/\yx x.b/\True))/\True)))
theorem akl (x : EK) : anD x = wpF Tryz.prog [] tt (apM x) 200 5 228 (anx.args x) (hO anx.k (anx.os x)) (fun v h' => eU anx.k x v h' anx.outs) := by kernel_rfl
def agl (x : zn) : Prop :=
 ((0 : Int)<=64/\(0 : Int)<=0/\(0 : Int)<=281474976710592/\(0 : Int)<=4611686018427387839)/\((0 : Int)<=0/\(0 : Int)<=63)/\0 < 64/\(Zr x.b.key/\Zq x.b.kind/\Rx x.b.cls)/\((0 : Int)<=1/\(0 : Int)<=62)/\1 < 64/\(Zr x.b.key/\Rx x.b.kind)/\((0 : Int)<=2/\(0 : Int)<=61)/\2 < 64/\(Zr x.b.key/\True)/\((0 : Int)<=3/\(0 : Int)<=60)/\3 < 64/\True/\∃ x_1 : BJ,acD x_1/\(Ap/\(x_1.at_ : Int) = 4/\(x_1.w : Int) = 2/\x_1.v = IntKind.wrap .u64 (x.b.value.size : Int)/\True)/\((64 = 64/\∀ q : Nat,q < 64->[Value.int .u8 (x_1.g q)] = Cs.eff (fun (x_2 : Nat) => [Value.int .u8 0]) [(3,[Value.int .u8 (IntKind.wrap .u8 (x.b.key.size : Int))]),(2,[Value.int .u8 (IntKind.wrap .u8 x.b.kind)]),(1,[Value.int .u8 (IntKind.wrap .u8 x.b.cls)]),(0,[Value.int .u8 1])] q)/\True)/\∀ y : Unit,True->∃ x_2 : BJ,acD x_2/\(Ap/\(x_2.at_ : Int) = 8/\(x_2.w : Int) = 8/\x_2.v = x.b.id/\True)/\RD x_2 x_1/\∀ y_1 : Unit,True->∃ x_3 : BJ,acD x_3/\(Ap/\(x_3.at_ : Int) = 16/\(x_3.w : Int) = 8/\x_3.v = x.b.ver/\True)/\RD x_3 x_2/\∀ y_2 : Unit,True->∃ x_4 : BJ,acD x_4/\(Ap/\(x_4.at_ : Int) = 24/\(x_4.w : Int) = 8/\x_4.v = x.b.epoch/\True)/\RD x_4 x_3/\∀ y_3 : Unit,True->(0 : Int)<=32/\(0<=32/\32<=64/\64<=64)/\32<=64/\∃ n : Nat,∃ g : ∀ a : Nat,Int,32 = n/\n < 1099511627776/\(∀ k : Nat,k < n->[Value.int .u8 (oL x_4.g x_4.at_ x_4.w x_4.v (0 + k))] = [Value.int .u8 (g k)])/\(∀ k : Nat,0<=g k/\g k < 256)/\∃ x_5 : am3,Hd (U32 x_5.c/\x_5.b.ok)/\(x_5.c = ny (0 : Int) g n/\(x_5.b.q = x.d.q/\x_5.b.n = x.d.n)/\True)/\((x_5.b.N = x.d.N/\∀ q : Nat,q < x_5.b.N->[Value.int .u8 (x_5.b.g q)] = [Value.int .u8 (x.d.g q)])/\True)/\
 ∀ y_4 : Unit,True->∃ x_6 : BJ,acD x_6/\(Ap/\(x_6.at_ : Int) = 32/\(x_6.w : Int) = 4/\x_6.v = IntKind.wrap .u64 (ny x_5.c (fun (k : Nat) => x_5.b.g (x_5.b.q + k)) x_5.b.n)/\True)/\RD x_6 x_4/\∀ y_5 : Unit,True->(0 : Int)<=36/\(36<=64/\64<=64/\64<=64)/\64<=64/\cP (Nat.ble x.d.n 28) (x.d.q + x.d.n<=x.d.N/\(∀ k : Nat,k < x.d.n->agj x.d k)/\∃ y_6 : Unit,True/\Ap/\yx x.d/\(64 = 64/\∀ q : Nat,q < 64->[Value.int .u8 (x.b.jy (fun (k : Nat) => x.d.g (x.d.q + k)) x.d.n q)] = Cs.eff (fun (p : Nat) => cond (Nat.ble 36 p && Nat.blt p (36 + x.d.n)) [Value.int .u8 (x.d.g (x.d.q + (p - 36)))] [Value.int .u8 (oL x_6.g x_6.at_ x_6.w x_6.v p)]) [] q)/\True) (x.d.q + 28<=x.d.N/\(∀ k : Nat,k < 28->agj x.d k)/\∃ y_6 : Unit,True/\Ap/\yx x.d/\(64 = 64/\∀ q : Nat,q < 64->[Value.int .u8 (x.b.jy (fun (k : Nat) => x.d.g (x.d.q + k)) x.d.n q)] = Cs.eff (fun (p : Nat) => cond (Nat.ble 36 p && Nat.blt p 64) [Value.int .u8 (x.d.g (x.d.q + (p - 36)))] [Value.int .u8 (oL x_6.g x_6.at_ x_6.w x_6.v p)]) [] q)/\True)
theorem agm (x : zn) : agl x = wpF Tryz.prog apN tt (noA x) 200 5 114 (WO.args x) (hO WO.k (WO.os x)) (fun v h' => eU WO.k x v h' WO.outs) := by kernel_rfl
def agn (x : BJ) : Prop :=
 ∃ x_1 : tX,Hd x_1.ok/\((x_1.b.q = 0/\x_1.b.n = 64/\x_1.c = 64)/\(x_1.at_ : Int) = (x.at_ : Int)/\(x_1.w : Int) = (x.w : Int)/\x_1.v = x.v/\True)/\((x_1.b.N = 64/\∀ q : Nat,q < x_1.b.N->[Value.int .u8 (x_1.b.g q)] = [Value.int .u8 (x.g q)])/\True)/\∀ y : Unit,True->64<=64/\cP (Nat.ble x_1.b.n 64) (0 + x_1.b.n<=x_1.b.n/\(∀ k : Nat,k < x_1.b.n->agk x_1 k)/\∃ y_1 : Unit,True/\True/\(64 = 64/\∀ q : Nat,q < 64->[Value.int .u8 (oL x.g x.at_ x.w x.v q)] = Cs.eff (fun (p : Nat) => cond (Nat.ble 0 p && Nat.blt p (0 + x_1.b.n)) [Value.int .u8 (x_1.res (0 + (p - 0)))] [Value.int .u8 (x.g p)]) [] q)/\True) (64<=x_1.b.n/\(∀ k : Nat,k < 64->agk x_1 k)/\∃ y_1 : Unit,True/\True/\(64 = 64/\∀ q : Nat,q < 64->[Value.int .u8 (oL x.g x.at_ x.w x.v q)] = Cs.eff (fun (p : Nat) => cond (Nat.ble 0 p && Nat.blt p 64) [Value.int .u8 (x_1.res (0 + (p - 0)))] [Value.int .u8 (x.g p)]) [] q)/\True)
theorem agp (x : BJ) : agn x = wpF Tryz.prog tblB0 tt (noA x) 200 5 169 (WM.args x) (hO WM.k (WM.os x)) (fun v h' => eU WM.k x v h' WM.outs) := by kernel_rfl
end Go.Proofs.YtenfleoejgjklaaGreat
end
section
namespace Go.Proofs.YtenfleoejgjklaaGreat
open Go SE
set_option linter.unusedSimpArgs false
theorem qg {b : Bool} {x y : Prop} : cP b x y ↔ (b = true->x)/\(b = false->y) := ⟨fun h => by cases b with
 | true => exact ⟨fun _ => h,fun e => nomatch e⟩
 | false => exact ⟨fun e => (nomatch e),fun _ => h⟩,fun h => bH h.1 h.2⟩
theorem WQ (x : BJ) (hx : x.at_ + x.w<=64/\1<=x.w/\x.w<=8/\0<=x.v/\x.v < 256 ^ x.w/\∀ k,0<=x.g k/\x.g k < 256) : agn x := by
 obtain ⟨h1,h2,h3,h4,h5,h6⟩ := hx
 have e1 : Nat.ble 64 64 = true := rfl
 unfold agn
 simp only [agk]
 simp only [aY,aU,aT,ay,aH,bJ,bg,aN,aJ,au,aW,aV,bK,bC,bD,bF,bM,bf,bG,aZ,dY,aG,aK,ah,aj,aA,aC,aB,aF]
 simp only [qg]
 refine ⟨⟨⟨x.g,0,64,64⟩,x.at_,x.w,x.v,64⟩,⟨⟨by simp,by simp,h6⟩,h1,h2,h3,h4,h5⟩,⟨⟨rfl,rfl,rfl⟩,rfl,rfl,rfl⟩,⟨rfl,fun q _ => rfl⟩,?_⟩
 have key : ∀ q,q < 64->oL x.g x.at_ x.w x.v q = bif Nat.blt q 64 then (tX.mk ⟨x.g,0,64,64⟩ x.at_ x.w x.v 64).res q else x.g q := fun q hq => by
  rw [bQ.2 hq,aO]
  simp only [tX.res,ay]
 exact ⟨aX _,fun _ => ⟨aX _,fun q hq => key q hq⟩,fun h => absurd (show Nat.ble 64 64 = false from h) (by decide)⟩
theorem agq {g : Nat->Int} (hg : ∀ k,0<=g k/\g k < 256) (a : Nat) : ∀ w,0<=vW g a w/\vW g a w < 256 ^ w
 | 0 => ⟨Int.le_refl _,by show (0 : Int) < 256 ^ 0; decide⟩
 | w + 1 => by
  have ih := agq hg a w
  have h := hg (a + w)
  have hp : (0 : Int) < 256 ^ w := Int.pow_pos (by omega)
  simp only [vW]
  have h1 : 0<=g (a + w) * 256 ^ w := Int.mul_nonneg h.1 (Int.le_of_lt hp)
  have h2 : g (a + w) * 256 ^ w<=255 * 256 ^ w := Int.mul_le_mul_of_nonneg_right (by omega) (Int.le_of_lt hp)
  rw [Int.pow_succ]
  omega
theorem or64 {a b : Int} {s : Nat} (ha : 0<=a) (ha2 : a < 256 ^ s) (hb : 0<=b) (hb2 : b < 256) (hs : s < 8) : IntKind.u64.wrap (((BitVec.ofInt 64 a ||| BitVec.ofInt 64 (IntKind.u64.wrap (b * 256 ^ s))).toNat : Nat) : Int) = a + b * 256 ^ s := by
 obtain ⟨x,rfl⟩ := Int.eq_ofNat_of_zero_le ha
 obtain ⟨y,rfl⟩ := Int.eq_ofNat_of_zero_le hb
 have hx : x < 2 ^ (8 * s) := by
  rw [Nat.pow_mul]
  have : ((256 : Nat) : Int) ^ s = ((256 ^ s : Nat) : Int) := (Int.natCast_pow 256 s).symm
  have h2 : (x : Int) < ((256 ^ s : Nat) : Int) := by rw [← this]; exact ha2
  exact Int.ofNat_lt.1 h2
 have hy : y < 256 := by omega
 have e1 : (y : Int) * 256 ^ s = ((y * 2 ^ (8 * s) : Nat) : Int) := by rw [Nat.pow_mul,show (2 : Nat) ^ 8 = 256 from rfl,Int.natCast_mul,Int.natCast_pow]; rfl
 have hp : 2 ^ (8 * s)<=2 ^ 56 := Nat.pow_le_pow_right (by decide) (by omega)
 have hlt : y * 2 ^ (8 * s) < 2 ^ 64 := by
  have : y * 2 ^ (8 * s)<=255 * 2 ^ 56 := Nat.mul_le_mul (by omega) hp
  omega
 have hor : x ||| y * 2 ^ (8 * s) = x + y * 2 ^ (8 * s) := by
  rw [Nat.or_comm,Nat.add_comm,← Nat.shiftLeft_eq,Nat.shiftLeft_add_eq_or_of_lt hx]
 have hx64 : x < 2 ^ 64 := by omega
 have hsum : x + y * 2 ^ (8 * s) < 2 ^ 64 := by
  have : y * 2 ^ (8 * s)<=255 * 2 ^ (8 * s) := Nat.mul_le_mul_right _ (by omega)
  omega
 have hw : ∀ n : Nat,n < 2 ^ 64->IntKind.u64.wrap (n : Int) = (n : Int) := fun n hn => by
  unfold IntKind.wrap
  simp only [IntKind.bits,IntKind.signed]
  have : (n : Int) % (2 ^ 64) = n := Int.emod_eq_of_lt (by omega) (by omega)
  simpa using this
 rw [e1,hw _ hlt,show BitVec.ofInt 64 ((x : Nat) : Int) = BitVec.ofNat 64 x from BitVec.ofInt_natCast ..,show BitVec.ofInt 64 ((y * 2 ^ (8 * s) : Nat) : Int) = BitVec.ofNat 64 (y * 2 ^ (8 * s)) from BitVec.ofInt_natCast ..,BitVec.toNat_or,BitVec.toNat_ofNat,BitVec.toNat_ofNat,Nat.mod_eq_of_lt hx64,Nat.mod_eq_of_lt hlt,hor,hw _ hsum]
 omega
theorem akm {z : Int} (h : 0<=z/\z < 256) : IntKind.u64.wrap z = z := by
 unfold IntKind.wrap
 simp only [IntKind.bits,IntKind.signed]
 have : z % (2 ^ 64) = z := Int.emod_eq_of_lt (by omega) (by omega)
 simpa using this
theorem acE (x : EK) (hx : x.b.ok/\x.at_ + x.w<=x.b.n/\1<=x.w/\x.w<=8) : anD x := by
 obtain ⟨⟨h1,h2,h3⟩,h4,h5,h6⟩ := hx
 unfold anD
 simp only [agi,yx]
 simp only [aY,aU,aT,ay,aH,bJ,bg,aN,aJ,au,aW,aV,bK,bC,bD,bF,bM,bf,bG,aZ,dY,aG,aK,ah,aj,aA,aC,aB,aF]
 refine bH (fun h => absurd (aQ h) (by omega)) fun _ => bH (fun h => absurd (aQ h) (by omega)) fun _ => ⟨by unfold I64; omega,bH (fun h => absurd (aQ h) (by omega)) fun _ => ⟨⟨0,by omega,rfl,rfl⟩,fun s hs => bH (fun h => ?_) fun h => ?_⟩⟩
 ·have hs' : s < x.w := by have := aQ h; omega
  refine ⟨by unfold I64; omega,⟨by omega,by omega⟩,by omega,by unfold I64; omega,by omega,by unfold I64; omega,s + 1,by omega,by omega,by omega,?_⟩
  have hb := agq (g := fun k => x.b.g (x.b.q + k)) (fun k => h3 _) x.at_ s
  rw [show ((x.at_ : Int) + (s : Int)).toNat = x.at_ + s by omega,akm (h3 _),Vz (by omega),or64 hb.1 hb.2 (h3 _).1 (h3 _).2 (by omega)]
  rfl
 ·rw [show x.w = s by have := aS h; omega]
theorem Zt (a b : ByteArray) : (a.toList == b.toList) = true ↔ a = b := by
 rw [beq_iff_eq]
 exact ⟨fun h => by rw [toList_data,toList_data] at h; cases a; cases b; simp at h; simp [h],fun h => by rw [h]⟩
theorem acF (b : dL) (hb : b.key.size < 1099511627776/\b.value.size < 1099511627776) : anC b := by
 unfold anC
 simp only [oM,Rz,anA,anB,anz,Rx,Ry,Zq]
 simp only [aY,aU,aT,ay,aH,bJ,bg,aN,aJ,au,aW,aV,bK,bC,bD,bF,bM,bf,bG,aZ,dY,aG,aK,ah,aj,aA,aC,aB,aF]
 have hF : ¬ b.may->b.UO = false := fun h => by
  cases hm : b.UO with
  | true => exact absurd (yw.1 hm) h
  | false => rfl
 have hT : b.may->b.UO = true := yw.2
 have hB : ∀ x : Bool,(x = true ↔ b.may)->b.UO = x := fun x h => by
  cases hx : x with
  | true => exact hT (h.1 hx)
  | false => exact hF fun hm => by rw [h.2 hm] at hx; cases hx
 have n1 : ((b.key.size : Int) + ((b.key.size : Int) + (b.value.size : Int) - (b.key.size : Int))) = ((b.key.size + b.value.size : Nat) : Int) := by omega
 have n2 : ((b.key.size : Int) + (b.value.size : Int) - (b.key.size : Int)) = (b.value.size : Int) := by omega
 have kz : b.key = ⟨#[]⟩->b.key.size = 0 := fun h => by rw [h]; rfl
 have vz : b.value = ⟨#[]⟩->b.value.size = 0 := fun h => by rw [h]; rfl
 obtain ⟨b1,b2⟩ := hb
 have ek := Zt b.key ⟨#[]⟩
 have ev := Zt b.value ⟨#[]⟩
 generalize hek : (b.key.toList == ByteArray.toList ⟨#[]⟩) = kk at ek ⊢
 generalize hev : (b.value.toList == ByteArray.toList ⟨#[]⟩) = vv at ev ⊢
 simp only [n1,n2,I64,beq_self_eq_true,aG,Bool.and_true]
 unfold dL.may dL.nums dL.num at hB hF hT
 clear hek hev
 generalize b.UO = m at hB hF hT ⊢
 by_cases s0 : spn b.cls = 0
 ·rw [show (spn b.cls == 0) = true from beq_iff_eq.2 s0]
  exact hF fun h => h.1 s0
 rw [show (spn b.cls == 0) = false from beq_eq_false_iff_ne.2 s0]
 refine ⟨by omega,?_⟩
 by_cases k0 : b.kind = 0
 ·simp only [k0,beq_self_eq_true,kH]
  exact hB _ (by grind)
 by_cases k1 : b.kind = 1
 ·simp only [k1,qg]
  simp only [k1] at hT hF
  clear hB ek ev kz vz
  grind (splits := 30)
 by_cases k2 : b.kind = 2
 ·by_cases hk : b.key = ⟨#[]⟩
  ·have k0' := kz hk
   have n3 : ((0 : Nat) : Int) + (((0 : Nat) : Int) + (b.value.size : Int)) = ((0 + b.value.size : Nat) : Int) := by omega
   have hkk := ek.2 hk
   simp only [k2,k0',hkk,hk,n3,qg] at hF hT ⊢
   clear hB ek ev kz vz
   grind (splits := 30)
  ·have hkk : kk = false := by
    cases h : kk with
    | false => rfl
    | true => exact absurd (ek.1 h) hk
   simp only [k2,hkk,qg] at hT hF ⊢
   clear hB ek ev kz vz
   grind
 by_cases k3 : b.kind = 3
 ·simp only [k3,qg]
  simp only [k3] at hT hF
  clear hB ek ev kz vz
  grind (splits := 30)
 ·rw [show (b.kind == 0) = false from beq_eq_false_iff_ne.2 k0,show (b.kind == 1) = false from beq_eq_false_iff_ne.2 k1,show (b.kind == 2) = false from beq_eq_false_iff_ne.2 k2,show (b.kind == 3) = false from beq_eq_false_iff_ne.2 k3]
  exact hF (by grind)
theorem jd {z : Int} (h : 0<=z) (h2 : z < 18446744073709551616) : IntKind.u64.wrap z = z := by
 unfold IntKind.wrap
 simp only [IntKind.bits,IntKind.signed]
 have : z % (2 ^ 64) = z := Int.emod_eq_of_lt h (by omega)
 simpa using this
theorem anE (b : dL) (q : Nat) : oL (oL (oL (oL (fun q => if q = 0 then 1 else if q = 1 then b.cls else if q = 2 then b.kind else if q = 3 then (b.key.size : Int) else 0) 4 2 b.value.size) 8 8 b.id) 16 8 b.ver) 24 8 b.epoch q = b.h32 q := by
 unfold oL dL.h32
 grind (splits := 30)
theorem WR (x : zn) (hx : x.ok) : agl x := by
 obtain ⟨⟨d1,d2,d3⟩,dn,h1,h2,h3,h4,h5,h6,h7,h8,h9,h10,h11,h12⟩ := hx
 let g0 : Nat->Int := fun q => if q = 0 then 1 else if q = 1 then x.b.cls else if q = 2 then x.b.kind else if q = 3 then (x.b.key.size : Int) else 0
 have hg0 : ∀ k,0<=g0 k/\g0 k < 256 := fun k => by simp only [g0]; grind
 let g1 := oL g0 4 2 x.b.value.size
 have hg1 : ∀ k,0<=g1 k/\g1 k < 256 := y8 hg0 _ _ _
 let g2 := oL g1 8 8 x.b.id
 have hg2 : ∀ k,0<=g2 k/\g2 k < 256 := y8 hg1 _ _ _
 let g3 := oL g2 16 8 x.b.ver
 have hg3 : ∀ k,0<=g3 k/\g3 k < 256 := y8 hg2 _ _ _
 let g4 := oL g3 24 8 x.b.epoch
 have hg4 : ∀ k,0<=g4 k/\g4 k < 256 := y8 hg3 _ _ _
 have e4 : ∀ q,g4 q = x.b.h32 q := fun q => anE x.b q
 have hU1 := YT 0 g4 32
 have hU := YT (ny 0 g4 32) (fun k => x.d.g (x.d.q + k)) x.d.n
 have w1 : IntKind.u64.wrap (x.b.value.size : Int) = x.b.value.size := jd (by omega) (by omega)
 have w2 : IntKind.u64.wrap (ny (ny 0 g4 32) (fun k => x.d.g (x.d.q + k)) x.d.n) = ny (ny 0 g4 32) (fun k => x.d.g (x.d.q + k)) x.d.n := jd hU.1 (by have := hU.2; omega)
 have ub : ∀ z : Int,0<=z->z < 256->IntKind.u8.wrap z = z := fun z a b => by rw [alI]; exact Int.emod_eq_of_lt a b
 have fin : ∀ q,q < 64->x.b.jy (fun k => x.d.g (x.d.q + k)) x.d.n q = if 36<=q then x.d.g (x.d.q + (q - 36)) else oL g4 32 4 (ny (ny 0 g4 32) (fun k => x.d.g (x.d.q + k)) x.d.n) q := fun q hq => by
  unfold dL.jy
  have ea : ny 0 g4 32 = ny 0 x.b.h32 32 := y7 fun k _ => e4 k
  rw [ea]
  unfold oL
  by_cases q1 : q < 32
  ·rw [if_pos q1,if_neg (by omega),if_neg (by omega),e4]
  ·rw [if_neg q1]
   by_cases q2 : q < 36
   ·rw [if_pos q2,if_neg (by omega),if_pos (by omega)]
   ·rw [if_neg q2,if_pos (by omega)]
 unfold agl
 simp only [Zr,Zq,Rx,acD,Ap,RD,agj,yx]
 simp only [aY,aU,aT,ay,aH,bJ,bg,aN,aJ,au,aW,aV,bK,bC,bD,bF,bM,bf,bG,aZ,dY,aG,aK,ah,aj,aA,aC,aB,aF,w1,ub _ h3 h4,ub _ h5 h6,ub _ (show (0 : Int)<=x.b.key.size by omega) (show (x.b.key.size : Int) < 256 by omega)]
 refine ⟨by decide,by decide,by decide,by decide,by decide,by decide,by decide,by decide,by decide,
  ⟨g0,4,2,x.b.value.size⟩,⟨show 4 + 2<=64 by decide,show 1<=2 by decide,show 2<=8 by decide,show (0 : Int)<=x.b.value.size by omega,show (x.b.value.size : Int) < 256 ^ 2 by omega,hg0⟩,⟨rfl,rfl,rfl⟩,fun q _ => ?_,
  ⟨g1,8,8,x.b.id⟩,⟨show 8 + 8<=64 by decide,show 1<=8 by decide,show 8<=8 by decide,h7,h8,hg1⟩,⟨rfl,rfl,rfl⟩,fun q _ => rfl,
  ⟨g2,16,8,x.b.ver⟩,⟨show 16 + 8<=64 by decide,show 1<=8 by decide,show 8<=8 by decide,h9,h10,hg2⟩,⟨rfl,rfl,rfl⟩,fun q _ => rfl,
  ⟨g3,24,8,x.b.epoch⟩,⟨show 24 + 8<=64 by decide,show 1<=8 by decide,show 8<=8 by decide,h11,h12,hg3⟩,⟨rfl,rfl,rfl⟩,fun q _ => rfl,
  by decide,by decide,by decide,32,g4,rfl,by decide,fun k _ => rfl,hg4,⟨ny 0 g4 32,x.d⟩,⟨hU1,d1,d2,d3⟩,⟨rfl,rfl,rfl⟩,⟨rfl,fun q _ => rfl⟩,
  ⟨g4,32,4,ny (ny 0 g4 32) (fun k => x.d.g (x.d.q + k)) x.d.n⟩,⟨show 32 + 4<=64 by decide,show 1<=4 by decide,show 4<=8 by decide,hU.1,hU.2,hg4⟩,⟨rfl,rfl,w2.symm⟩,fun q _ => rfl,?_⟩
 ·simp only [Cs.eff,bW,dK,dH,eu,← Bool.decide_and,g0]
  split
  ·grind
  ·grind
 ·simp only [qg]
  refine ⟨by decide,by decide,by decide,fun hb => ⟨d1,fun q hq => ?_⟩,fun hb => ⟨by omega,fun q hq => ?_⟩⟩
  ·rw [fin q hq]
   have hn : x.d.n = 28 := by have := Nat.le_of_ble_eq_true hb; omega
   simp only [Cs.eff,bW,dK,dH,eu,← Bool.decide_and,hn]
   grind
  ·rw [fin q hq]
   simp only [Cs.eff,bW,dK,dH,eu,← Bool.decide_and]
   grind
theorem alT : bV Tryz.prog 229 alS := dX dI mixed (.cons (bT kQ) (.cons (bT afA) .nil)) noA 200 5 (fun _ => rfl) (fun _ => rfl) fun x hx => Eq.mp (akk x) (acF x (aY.1 hx))
theorem apO : bV Tryz.prog 228 anx := dX dI mixed .nil apM 200 5 (fun _ => rfl) (fun _ => rfl) fun x hx => Eq.mp (akl x) (acE x (aY.1 hx))
theorem anF : bV Tryz.prog 169 WM := dX dI mixed (.cons (bT alJ) .nil) noA 200 5 (fun _ => rfl) (fun _ => rfl) fun x hx => Eq.mp (agp x) (WQ x (aY.1 hx))
theorem akn : eY Tryz.prog apN := .cons YU (.cons (bT alH) (.cons (bT anF) .nil))
theorem anG : bV Tryz.prog 114 WO := dX dI mixed akn noA 200 5 (fun _ => rfl) (fun _ => rfl) fun x hx => Eq.mp (agm x) (WR x (aY.1 hx))
end Go.Proofs.YtenfleoejgjklaaGreat
end
section
namespace Go.Proofs.YtenfleoejgjklaaGreat
open Go SE
noncomputable def ako : Ctr := { X := dL,args := fun b => [b.av],k := 0,os := fun _ => [],pre := fun b => Hd (b.may/\b.key.size < 1099511627776/\b.value.size < 1099511627776),outs := [
 { Y := Unit,post := fun b _ => Hd (b.cls = 0),ret := fun _ _ => .tup [.slE 0 0 1 64 64,i64 0],m := 1,os := fun b _ => [.cells 5 (rowB b.enc 64)] },
 { Y := Unit,post := fun b _ => Hd (b.cls ≠ 0),ret := fun b _ => .tup [.slW 0 0 1 (64 * b.dD),i64 0],m := 1,os := fun b _ => [.room 5 (rowB b.enc (64 * b.dD))] }] }
noncomputable def apP (x : dL) : FuncId->uU := fun f => bif Nat.beq f 180 then (fun b _ _ => bif Nat.beq b 0 then [
 { σ := Unit,fr := fun _ => [(31,i64 0),(4,.slE 1 28 1 (x.iL - 28) (x.iL - 28)),(5,.slE 2 0 1 64 64)],ob := fun _ => [],inv := fun _ => Hd True,meas := fun _ => x.dD + 1,test := fun fr _ => (match SE.look fr 5 with | .slE .. => true | _ => false) },
 { σ := Nat,fr := fun i => [(31,i64 i),(4,.slE 1 (28 + 63 * i) 1 (x.iL - 28 - 63 * i) (x.iL - 28 - 63 * i)),(5,.slW 3 0 1 (64 * (i + 1)))],ob := fun i => [(3,some (.room 5 (rowB x.enc (64 * (i + 1)))))],inv := fun i => Hd (1<=i/\i + 1<=x.dD),meas := fun i => x.dD - i,nx := 1,test := fun fr _ => (match SE.look fr 5 with | .slE .. => false | _ => true) }] else []) else fun _ _ _ => []
noncomputable def EL : Ctr := det Int (fun c => [i64 c]) 0 (fun _ => []) (fun c => Hd (0<=c/\c<=3)) (fun _ => .slE 0 0 1 64 64) 1 (fun c => [.cells 5 (rowB ((dL.mk c 0 0 0 0 ⟨#[]⟩ ⟨#[]⟩).jy (fun _ => 0) (cpc c).toNat) 64)])
structure Aq where
 b : Bys
 s : Nat
def Aq.at_ (x : Aq) (i : Nat) : Int := if i < 28 then x.b.g (x.b.q + (36 + i)) else x.b.g (x.b.q + (64 * ((i - 28) / 63 + 1) + 1 + (i - 28) % 63))
def Aq.str (x : Aq) : ByteArray := mkStr (28 + 63 * (x.s - 1)) (fun i => UInt8.ofNat (x.at_ i).toNat)
def WS : Ctr := det Aq (fun x => [x.b.av 0]) 1 (fun x => [x.b.ro]) (fun x => Hd (x.b.ok/\x.b.n = 64 * x.s/\1<=x.s/\x.s<=8)) (fun x => .lit (.string x.str)) 1 (fun x => [x.b.ro])
def alU (x : Aq) : FuncId->uU := fun f => bif Nat.beq f 179 then (fun b _ h => bif Nat.beq b 0 then [
 { σ := Unit,fr := fun _ => [(4,i64 64),(3,.slW 2 0 1 28)],ob := fun _ => [(2,some (.room 5 (rowB x.at_ 28)))],inv := fun _ => Hd True,meas := fun _ => x.s + 1,test := fun fr _ => (match SE.look fr 3 with | .slW i _ _ _ => Nat.beq i 2 | _ => false) },
 { σ := Nat,fr := fun i => [(4,i64 (64 + 64 * i : Nat)),(3,.slW 3 0 1 (28 + 63 * i))],ob := fun i => [(2,none),(3,some (.room 5 (rowB x.at_ (28 + 63 * i))))],inv := fun i => Hd (1<=i/\i + 1<=x.s),meas := fun i => x.s - i,nx := 1,test := fun fr _ => (match SE.look fr 3 with | .slW i _ _ _ => !Nat.beq i 2 | _ => false) }] else []) else fun _ _ _ => []
structure agr where
 b : dL
 g : Nat->Int
noncomputable def anH : Ctr := det agr (fun x => [.slW 0 0 1 (64 * x.b.dD)]) 1 (fun x => [.room 5 (rowB x.g (64 * x.b.dD))]) (fun x => Hd (x.b.may/\x.b.key.size < 1099511627776/\x.b.value.size < 1099511627776/\∀ k,k < 64 * x.b.dD->x.g k = x.b.enc k)) (fun x => .tup [x.b.av,boo true]) 1 (fun x => [.room 5 (rowB x.g (64 * x.b.dD))])
noncomputable def anI : WTbl := [(113,ctrT xK),(115,ctrT alN),(229,ctrT alS),(114,ctrT WO)]
noncomputable def apQ : WTbl := [(113,ctrT xK),(228,ctrT anx),(179,ctrT WS),(180,ctrT ako)]
end Go.Proofs.YtenfleoejgjklaaGreat
end
