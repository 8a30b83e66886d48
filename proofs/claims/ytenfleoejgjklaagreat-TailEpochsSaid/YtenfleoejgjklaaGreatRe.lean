import Derived.Test.YtenfleoejgjklaaGreatRa
import Derived.Test.YtenfleoejgjklaaGreatRb
import Derived.Test.YtenfleoejgjklaaGreatRc
import Derived.Test.YtenfleoejgjklaaGreatRd
import Derived.Test.YtenfleoejgjklaaGreatRows
import Derived.KernelRfl
set_option linter.unusedVariables false
set_option linter.unusedSimpArgs false
set_option linter.unnecessarySimpa false
section
namespace Go.Proofs.YtenfleoejgjklaaGreat
open Go SE
noncomputable def tt : TT := aqC Tryz.prog
theorem dD : tt.ok Tryz.prog := fun _ _ h => h
set_option maxRecDepth 20000
theorem mixed : Tryz.prog.follows .mixedOrders = true := by kernel_rfl
def i64 (n : Int) : AV := .lit (.int .i64 n)
end Go.Proofs.YtenfleoejgjklaaGreat
end
section
namespace Go.Proofs.YtenfleoejgjklaaGreat
open Go SE
def x32 (a b : Int) : Int := IntKind.u32.wrap ((BitVec.ofInt 32 a ^^^ BitVec.ofInt 32 b).toNat : Nat)
def aq8 (c : Int) : Int := bif decide (c % 2 = 0) then c / 2 else x32 (c / 2) 3988292384
def vP (c : Int) : Nat->Int
 | 0 => c
 | k + 1 => aq8 (vP c k)
def stepM (c x : Int) : Int := vP (x32 c x) 8
def U32 (c : Int) : Prop := 0<=c/\c < 4294967296
theorem wrap_u32 (z : Int) : U32 (IntKind.u32.wrap z) := by
 unfold IntKind.wrap U32
 simp [IntKind.bits,IntKind.signed]
 omega
theorem EL {z : Int} (h : U32 z) : IntKind.u32.wrap z = z := by
 unfold IntKind.wrap U32 at *
 simp [IntKind.bits,IntKind.signed]
 omega
theorem agF (a b : Int) : U32 (x32 a b) := wrap_u32 _
theorem aq9 {c : Int} (h : U32 c) : U32 (aq8 c) := by
 unfold aq8
 cases decide (c % 2 = 0)
 ·exact agF _ _
 ·unfold U32 at *; simp only [aO]; omega
theorem WQ {c : Int} (h : U32 c) : ∀ k,U32 (vP c k)
 | 0 => h
 | k + 1 => aq9 (WQ h k)
def u32 (c : Int) : AV := .lit (.int .u32 c)
def WR : Ctr := det (Int × Int) (fun p => [u32 p.1,.lit (.int .u8 p.2)]) 0 (fun _ => []) (fun p => U32 p.1/\0<=p.2/\p.2 < 256) (fun p => u32 (stepM p.1 p.2)) 0 (fun _ => [])
def anu (p : Int × Int) : FuncId->vK := fun f =>
 bif Nat.beq f 216 then (fun b fr h => bif Nat.beq b 0 then [{ σ := Nat,fr := fun k => [(5,i64 k),(0,u32 (vP (x32 p.1 p.2) k))],ob := fun _ => [],inv := fun k => k<=8,meas := fun k => 8 - k }] else []) else
 fun _ _ _ => []
end Go.Proofs.YtenfleoejgjklaaGreat
end
section
namespace Go.Proofs.YtenfleoejgjklaaGreat
open Go SE
def agG (p : Int × Int) : Prop :=
 (∃ s : Nat,s<=8/\True/\((s : Int) = 0/\vP (x32 p.1 p.2) s = IntKind.wrap .u32 ((@BitVec.toNat 32 (@HXor.hXor (@BitVec 32) (@BitVec 32) (@BitVec 32) (@instHXorOfXorOp (@BitVec 32) (@BitVec.instXorOp 32)) (@BitVec.ofInt 32 p.1) (@BitVec.ofInt 32 (IntKind.wrap .u32 p.2))) : Nat) : Int)/\True)/\True)/\(∀ s : Nat,s<=8->cP (decide ((s : Int) < 8)) (I64 ((s : Int) + 1)/\((2 : Int) = 0->False)/\cP (BEq.beq (Int.tmod (vP (x32 p.1 p.2) s) (2 : Int)) (0 : Int)) (((2 : Int) = 0->False)/\∃ s_1 : Nat,s_1<=8/\8 - s_1 < 8 - s/\((s_1 : Int) = (s : Int) + 1/\vP (x32 p.1 p.2) s_1 = IntKind.wrap .u32 (Int.tdiv (vP (x32 p.1 p.2) s) (2 : Int))/\True)/\True) (((2 : Int) = 0->False)/\∃ s_1 : Nat,s_1<=8/\8 - s_1 < 8 - s/\((s_1 : Int) = (s : Int) + 1/\vP (x32 p.1 p.2) s_1 = IntKind.wrap .u32 ((@BitVec.toNat 32 (@HXor.hXor (@BitVec 32) (@BitVec 32) (@BitVec 32) (@instHXorOfXorOp (@BitVec 32) (@BitVec.instXorOp 32)) (@BitVec.ofInt 32 (IntKind.wrap .u32 (Int.tdiv (vP (x32 p.1 p.2) s) (2 : Int)))) (@BitVec.ofInt 32 (3988292384 : Int))) : Nat) : Int)/\True)/\True)) (∃ y : Unit,True/\stepM p.1 p.2 = vP (x32 p.1 p.2) s/\True))/\True
theorem agH (p : Int × Int) : agG p = wpF Tryz.prog [] tt (anu p) 200 5 216 (WR.args p) (hO WR.k (WR.os p)) (fun v h' => eH WR.k p v h' WR.outs) := by kernel_rfl
end Go.Proofs.YtenfleoejgjklaaGreat
end
section
namespace Go.Proofs.YtenfleoejgjklaaGreat
open Go SE
theorem half {c : Int} (h : U32 c) : Int.tmod c 2 = c % 2/\IntKind.u32.wrap (Int.tdiv c 2) = c / 2 := by
 have e : Int.tdiv c 2 = c / 2 := Int.tdiv_eq_ediv_of_nonneg h.1
 refine ⟨Int.tmod_eq_emod_of_nonneg h.1,?_⟩
 rw [e]; exact EL (by unfold U32 at *; omega)
theorem WS (p : Int × Int) (hp : U32 p.1/\0<=p.2/\p.2 < 256) : agG p := by
 unfold agG
 have hw : IntKind.u32.wrap p.2 = p.2 := EL (by unfold U32; omega)
 have hx : ∀ a b,IntKind.u32.wrap ((BitVec.ofInt 32 a ^^^ BitVec.ofInt 32 b).toNat : Nat) = x32 a b := fun _ _ => rfl
 simp only [aU,aT,hw,hx]
 refine ⟨⟨0,by omega,rfl,rfl⟩,fun s hs => bg (fun hb => ?_) (fun hb => ?_)⟩
 ·have hb := aQ hb
  obtain ⟨h1,h2⟩ := half (WQ (agF p.1 p.2) s)
  rw [h1,h2]
  refine ⟨by unfold I64; omega,by omega,bg (fun hc => ?_) (fun hc => ?_)⟩
  ·have hc : vP (x32 p.1 p.2) s % 2 = 0 := by simpa using hc
   exact ⟨by omega,s + 1,by omega,by omega,rfl,by simp [vP,aq8,hc]⟩
  ·have hc : vP (x32 p.1 p.2) s % 2 ≠ 0 := by simpa using hc
   exact ⟨by omega,s + 1,by omega,by omega,rfl,by simp only [vP,aq8,hc,decide_false,aP]⟩
 ·have : s = 8 := by have := aS hb; omega
  subst this
  exact ⟨(),rfl⟩
theorem step_ok : bU Tryz.prog 216 WR := dR dD mixed fA.nil anu 200 5 (fun _ => rfl) (fun _ => rfl) fun x hx => Eq.mp (agH x) (WS x hx)
end Go.Proofs.YtenfleoejgjklaaGreat
end
section
namespace Go.Proofs.YtenfleoejgjklaaGreat
open Go SE
theorem bJ (g : Nat->List Value) (q : Nat) : Cs.eff g [] q = g q := rfl
theorem dU (q : Nat) : Nat.ble 0 q = true := by simp
theorem bV (a b : Nat) : Nat.blt a b = decide (a < b) := by
 by_cases h : a < b
 ·rw [bQ.2 h]; simp [h]
 ·have : Nat.blt a b = false := by
   cases hb : Nat.blt a b with
   | false => rfl
   | true => exact absurd (bQ.1 hb) h
  rw [this]; simp [h]
theorem dI (a b : Nat) : Nat.ble a b = decide (a<=b) := by
 by_cases h : a<=b
 ·rw [show Nat.ble a b = true by simpa using h]; simp [h]
 ·have : Nat.ble a b = false := by
   cases hb : Nat.ble a b with
   | false => rfl
   | true => exact absurd (by simpa using hb) h
  rw [this]; simp [h]
theorem dY {α : Type} {p : Prop} [Decidable p] {x y : α} : (bif decide p then x else y) = if p then x else y := by by_cases h : p <;> simp [h]
theorem dJ (a b : Nat) : Nat.beq a b = decide (a = b) := by
 by_cases h : a = b
 ·subst h; simp
 ·rw [iV h]; simp [h]
theorem bC {b : Bool} {x y : Value} : (bif b then [x] else [y]) = [bif b then x else y] := by cases b <;> rfl
theorem bD {b : Bool} {k : IntKind} {x y : Int} : (bif b then Value.int k x else Value.int k y) = .int k (bif b then x else y) := by cases b <;> rfl
theorem aZ {b : Bool} {x y : Bool} : (bif b then Value.bool x else Value.bool y) = .bool (bif b then x else y) := by cases b <;> rfl
theorem bF {k : IntKind} {x : Int} : ([Value.int k x].length.beq 1 && [Value.int k x].all Value.oneCell') = true := rfl
theorem bf {x : Bool} : ([Value.bool x].length.beq 1 && [Value.bool x].all Value.oneCell') = true := rfl
theorem bK {k : IntKind} {x y : Int} : ([Value.int k x] = [Value.int k y]) = (x = y) := by simp
theorem bG {x y : Bool} : ([Value.bool x] = [Value.bool y]) = (x = y) := by simp
def u8 (n : Int) : AV := .lit (.int .u8 n)
def u64 (n : Int) : AV := .lit (.int .u64 n)
def rowB (g : Nat->Int) (n : Nat) : Cs := .row 1 n (fun k => [.int .u8 (g k)]) []
structure Bys where
 g : Nat->Int
 q : Nat
 n : Nat
 N : Nat
namespace Bys
def ok (b : Bys) : Prop := b.q + b.n<=b.N/\b.n < 1099511627776/\∀ k,0<=b.g k/\b.g k < 256
def ro (b : Bys) : bZ := .ro (rowB b.g b.N)
def av (b : Bys) (i : Nat) : AV := .slR i b.q 1 b.n
end Bys
def CB (c : Int) (g : Nat->Int) : Nat->Int
 | 0 => c
 | i + 1 => stepM (CB c g i) (g i)
noncomputable def nC (c : Int) (g : Nat->Int) (n : Nat) : Int := hide (x32 (CB (x32 c 4294967295) g n) 4294967295)
theorem aoP {c : Int} (h : U32 c) (g : Nat->Int) : ∀ n,U32 (CB c g n)
 | 0 => h
 | n + 1 => WQ (agF _ _) 8
theorem Z7 (c : Int) (g : Nat->Int) (n : Nat) : U32 (nC c g n) := by unfold nC; rw [pU]; exact agF _ _
structure aoQ where
 c : Int
 b : Bys
noncomputable def anv : Ctr := det aoQ (fun x => [u32 x.c,x.b.av 0]) 1 (fun x => [x.b.ro]) (fun x => Hd (U32 x.c/\x.b.ok)) (fun x => u32 (nC x.c (fun k => x.b.g (x.b.q + k)) x.b.n)) 1 (fun x => [x.b.ro])
def ara (x : aoQ) : FuncId->vK := fun f =>
 bif Nat.beq f 170 then (fun b fr h => bif Nat.beq b 0 then [{ σ := Nat,fr := fun k => [(11,i64 k),(0,u32 (CB (x32 x.c 4294967295) (fun k => x.b.g (x.b.q + k)) k))],ob := fun _ => [],inv := fun k => k<=x.b.n,meas := fun k => x.b.n - k }] else []) else
 fun _ _ _ => []
def oI (g : Nat->Int) (at_ w : Nat) (v : Int) (k : Nat) : Int := if at_<=k/\k < at_ + w then v / 256 ^ (k - at_) % 256 else g k
structure uG where
 b : Bys
 at_ : Nat
 w : Nat
 v : Int
 c : Nat
def uG.ok (x : uG) : Prop := x.b.ok/\x.at_ + x.w<=x.b.n/\1<=x.w/\x.w<=8/\0<=x.v/\x.v < 256 ^ x.w
def uG.res (x : uG) : Nat->Int := oI (fun k => x.b.g (x.b.q + k)) x.at_ x.w x.v
noncomputable def anw : Ctr := det uG (fun x => [.slE 0 x.b.q 1 x.b.n x.c,i64 x.at_,i64 x.w,u64 x.v]) 1 (fun x => [x.b.ro]) (fun x => Hd x.ok) (fun x => .tup [.slW 1 0 1 x.b.n,i64 0]) 2 (fun x => [x.b.ro,.room 5 (rowB x.res x.b.n)])
def arb (x : uG) : FuncId->vK := fun f =>
 bif Nat.beq f 215 then (fun b fr h => bif Nat.beq b 0 then [{ σ := Nat,fr := fun k => [(32,i64 k)],ob := fun k => [(1,none),(2,some (.room 5 (rowB (oI (fun k => x.b.g (x.b.q + k)) x.at_ k x.v) x.b.n)))],inv := fun k => k<=x.w,meas := fun k => x.w - k,nx := 0 }] else []) else
 fun _ _ _ => []
end Go.Proofs.YtenfleoejgjklaaGreat
end
section
namespace Go.Proofs.YtenfleoejgjklaaGreat
open Go SE
def yh (a : Bys) : Prop := rowB a.g a.N = rowB a.g a.N/\true = true
def aoR (a : uG) : Prop := a.b.q + a.b.n<=a.b.N/\cP (Nat.beq a.b.n 0) ((∃ s : Nat,s<=a.w/\True/\((s : Int) = 0/\True)/\yh a.b/\True)/\(∀ s : Nat,s<=a.w->cP (decide ((s : Int) < (a.w : Int))) (I64 ((a.at_ : Int) + (s : Int))/\I64 (8 * (s : Int))/\0<=8 * (s : Int)/\(0<=(a.at_ : Int) + (s : Int)/\(a.at_ : Int) + (s : Int) < 0)/\False) (∃ y : Unit,True/\((a.b.n = 0/\0 = 0/\0 = 0)/\(0 : Int) = 0/\True)/\yh a.b/\False/\True))/\True) ((2 * (0 + a.b.n) + 1000) * 1<=281474976710656/\(∃ s : Nat,s<=a.w/\True/\((s : Int) = 0/\True)/\(a.b.n = 0 + a.b.n/\∀ q : Nat,q < a.b.n->[Value.int .u8 (oI (fun (k : Nat) => a.b.g (a.b.q + k)) a.at_ s a.v q)] = [Value.int .u8 (a.b.g (a.b.q + (q - 0)))])/\yh a.b/\True)/\(∀ s : Nat,s<=a.w->cP (decide ((s : Int) < (a.w : Int))) (I64 ((a.at_ : Int) + (s : Int))/\I64 (8 * (s : Int))/\0<=8 * (s : Int)/\(0<=(a.at_ : Int) + (s : Int)/\(a.at_ : Int) + (s : Int) < ((0 + a.b.n : Nat) : Int))/\0 + Int.toNat ((a.at_ : Int) + (s : Int)) < a.b.n/\I64 ((s : Int) + 1)/\∃ s_1 : Nat,s_1<=a.w/\a.w - s_1 < a.w - s/\((s_1 : Int) = (s : Int) + 1/\True)/\(a.b.n = a.b.n/\∀ q : Nat,q < a.b.n->[Value.int .u8 (oI (fun (k : Nat) => a.b.g (a.b.q + k)) a.at_ s_1 a.v q)] = Cs.eff (fun (k : Nat) => [Value.int .u8 (oI (fun (k_1 : Nat) => a.b.g (a.b.q + k_1)) a.at_ s a.v k)]) [(0 + Int.toNat ((a.at_ : Int) + (s : Int)),[Value.int .u8 (IntKind.wrap .u8 (Int.fdiv a.v (@HPow.hPow Int Nat Int (@instHPow Int Nat (@instPowNat Int @Int.instNatPow)) (2 : Int) (@Min.min Nat @instMinNat (Int.toNat (8 * (s : Int))) 64))))])] q)/\yh a.b/\True) (∃ y : Unit,True/\((0 = 0/\a.b.n = 0 + a.b.n)/\(0 : Int) = 0/\True)/\yh a.b/\(a.b.n = a.b.n/\
 ∀ q : Nat,q < a.b.n->[Value.int .u8 (a.res q)] = [Value.int .u8 (oI (fun (k : Nat) => a.b.g (a.b.q + k)) a.at_ s a.v q)])/\True))/\True)
def aoS (x : aoQ) : Prop :=
 (∃ s : Nat,s<=x.b.n/\True/\((s : Int) = 0/\CB (x32 x.c (4294967295 : Int)) (fun (k : Nat) => x.b.g (x.b.q + k)) s = IntKind.wrap .u32 ((@BitVec.toNat 32 (@HXor.hXor (@BitVec 32) (@BitVec 32) (@BitVec 32) (@instHXorOfXorOp (@BitVec 32) (@BitVec.instXorOp 32)) (@BitVec.ofInt 32 x.c) (@BitVec.ofInt 32 (4294967295 : Int))) : Nat) : Int)/\True)/\yh x.b/\True)/\(∀ s : Nat,s<=x.b.n->cP (decide ((s : Int) < (x.b.n : Int))) ((0<=(s : Int)/\(s : Int) < (x.b.n : Int))/\x.b.q + s < x.b.N/\∃ x_1 : Prod Int Int,((0<=x_1.1/\x_1.1 < 4294967296)/\0<=x_1.2/\x_1.2 < 256)/\(x_1.1 = CB (x32 x.c (4294967295 : Int)) (fun (k : Nat) => x.b.g (x.b.q + k)) s/\x_1.2 = x.b.g (x.b.q + s)/\True)/\True/\∀ y : Unit,True->I64 ((s : Int) + 1)/\∃ s_1 : Nat,s_1<=x.b.n/\x.b.n - s_1 < x.b.n - s/\((s_1 : Int) = (s : Int) + 1/\CB (x32 x.c (4294967295 : Int)) (fun (k : Nat) => x.b.g (x.b.q + k)) s_1 = stepM x_1.1 x_1.2/\True)/\yh x.b/\True) (∃ y : Unit,True/\nC x.c (fun (k : Nat) => x.b.g (x.b.q + k)) x.b.n = IntKind.wrap .u32 ((@BitVec.toNat 32 (@HXor.hXor (@BitVec 32) (@BitVec 32) (@BitVec 32) (@instHXorOfXorOp (@BitVec 32) (@BitVec.instXorOp 32)) (@BitVec.ofInt 32 (CB (x32 x.c (4294967295 : Int)) (fun (k : Nat) => x.b.g (x.b.q + k)) s)) (@BitVec.ofInt 32 (4294967295 : Int))) : Nat) : Int)/\yh x.b/\True))/\True
theorem alB (x : aoQ) : aoS x = wpF Tryz.prog [(216,ctrT WR)] tt (ara x) 200 5 170 (anv.args x) (hO anv.k (anv.os x)) (fun v h' => eH anv.k x v h' anv.outs) := by kernel_rfl
def aoT (x : uG) : Prop :=
 cP (decide ((x.w : Int) < 1)) (∃ y : Unit,True/\(False/\(0 : Int) = 1/\True)/\yh x.b/\False/\True) (cP (decide ((x.w : Int) > (8 : Int))) (∃ y : Unit,True/\(False/\(0 : Int) = 1/\True)/\yh x.b/\False/\True) (I64 ((x.b.n : Int) - (x.w : Int))/\cP (decide ((x.at_ : Int) > (x.b.n : Int) - (x.w : Int))) (∃ y : Unit,True/\(False/\(0 : Int) = 2/\True)/\yh x.b/\False/\True) (cP (decide ((x.w : Int) < 8)) (I64 (8 * (x.w : Int))/\0<=8 * (x.w : Int)/\cP (bne (Int.fdiv x.v (@HPow.hPow Int Nat Int (@instHPow Int Nat (@instPowNat Int @Int.instNatPow)) (2 : Int) (@Min.min Nat @instMinNat (Int.toNat (8 * (x.w : Int))) 64))) (0 : Int)) (∃ y : Unit,True/\(False/\(0 : Int) = 11/\True)/\yh x.b/\False/\True) (aoR x)) (aoR x))))
theorem alC (x : uG) : aoT x = wpF Tryz.prog [] tt (arb x) 200 5 215 (anw.args x) (hO anw.k (anw.os x)) (fun v h' => eH anw.k x v h' anw.outs) := by kernel_rfl
end Go.Proofs.YtenfleoejgjklaaGreat
end
section
namespace Go.Proofs.YtenfleoejgjklaaGreat
open Go SE
theorem adB (x : aoQ) (hx : U32 x.c/\x.b.ok) : aoS x := by
 obtain ⟨hc,h1,h2,h3⟩ := hx
 unfold aoS
 simp only [yh]
 have hw : ∀ a b,IntKind.u32.wrap ((BitVec.ofInt 32 a ^^^ BitVec.ofInt 32 b).toNat : Nat) = x32 a b := fun _ _ => rfl
 simp only [aY,aU,aT,ay,aH,bI,bn,aN,aJ,au,aW,aV,hw]
 refine ⟨⟨0,by omega,rfl,rfl⟩,fun s hs => bg (fun hb => ?_) (fun hb => ?_)⟩
 ·have hb := aQ hb
  refine ⟨⟨by omega,by omega⟩,by omega,(CB (x32 x.c 4294967295) (fun k => x.b.g (x.b.q + k)) s,x.b.g (x.b.q + s)),⟨aoP (agF _ _) _ s,h3 _⟩,⟨rfl,rfl⟩,by unfold I64; omega,s + 1,by omega,by omega,by omega,rfl⟩
 ·have : s = x.b.n := by have := aS hb; omega
  subst this
  unfold nC; rw [pU]
theorem EM {c : Int} {g g' : Nat->Int} : ∀ {n : Nat},(∀ k,k < n->g k = g' k)->CB c g n = CB c g' n
 | 0,_ => rfl
 | n + 1,h => by simp only [CB]; rw [EM (n := n) fun k hk => h k (by omega),h n (by omega)]
theorem zH {c : Int} {g g' : Nat->Int} {n : Nat} (h : ∀ k,k < n->g k = g' k) : nC c g n = nC c g' n := by unfold nC; rw [pU,pU,EM h]
theorem anx : bU Tryz.prog 170 anv := dR dD mixed (.cons (bM step_ok) .nil) ara 200 5 (fun _ => rfl) (fun _ => rfl) fun x hx => Eq.mp (alB x) (adB x (aY.1 hx))
theorem WT {s : Nat} (h : s<=8) : (2 : Int) ^ (min (((8 : Int) * (s : Nat)).toNat) 64) = 256 ^ s := by
 have e : ((8 : Int) * (s : Nat)).toNat = 8 * s := by omega
 rw [e,Nat.min_eq_left (by omega)]
 rw [show (256 : Int) = 2 ^ 8 by rfl,← Int.pow_mul]
theorem anz (z : Int) : IntKind.u8.wrap z = z % 256 := by
 unfold IntKind.wrap
 simp [IntKind.bits,IntKind.signed]
theorem agJ (g : Nat->Int) (a s : Nat) (v : Int) (q : Nat) : oI g a (s + 1) v q = if q = a + s then v / 256 ^ s % 256 else oI g a s v q := by
 unfold oI
 by_cases h : q = a + s
 ·subst h; simp
 ·rw [if_neg h]
  by_cases h2 : a<=q/\q < a + s
  ·rw [if_pos h2,if_pos (by omega)]
  ·rw [if_neg h2,if_neg (by omega)]
theorem adC (x : uG) (hx : x.ok) : aoT x := by
 obtain ⟨⟨h1,h2,h3⟩,h4,h5,h6,h7,h8⟩ := hx
 have z0 : ∀ (g : Nat->Int) a v q,oI g a 0 v q = g q := fun g a v q => by unfold oI; rw [if_neg (by omega)]
 have key : ∀ s : Nat,s < x.w->∀ q,[Value.int .u8 (oI (fun k => x.b.g (x.b.q + k)) x.at_ (s + 1) x.v q)] = Cs.eff (fun k => [Value.int .u8 (oI (fun k => x.b.g (x.b.q + k)) x.at_ s x.v k)]) [((((x.at_ : Int) + (s : Int)).toNat),[Value.int .u8 (IntKind.u8.wrap (Int.fdiv x.v (2 ^ (min ((8 * (s : Int)).toNat) 64))))])] q := fun s hs q => by
  rw [WT (by omega),anz,show ((x.at_ : Int) + (s : Int)).toNat = x.at_ + s by omega,agJ]
  simp only [Cs.eff]
  by_cases h : q = x.at_ + s
  ·subst h
   have : Int.fdiv x.v (256 ^ s) = x.v / 256 ^ s := Int.fdiv_eq_ediv_of_nonneg _ (Int.le_of_lt (Int.pow_pos (by omega)))
   simp [this]
  ·simp [h,iV h]
 unfold aoT
 simp only [yh,aoR]
 have hn : x.b.n ≠ 0 := by omega
 simp only [aY,aU,aT,ay,aH,bI,bn,aN,aJ,au,aW,aV,z0]
 have i64 : ∀ z : Int,-9223372036854775808<=z->z<=9223372036854775807->I64 z := fun z a b => ⟨a,b⟩
 refine bg (fun h => absurd (aQ h) (by omega)) fun _ => bg (fun h => absurd (aQ h) (by omega)) fun _ => ⟨i64 _ (by omega) (by omega),bg (fun h => absurd (aQ h) (by omega)) fun _ =>
  bg (fun hb => ⟨i64 _ (by omega) (by omega),by omega,bg (fun h => ?_) (fun _ => ?_)⟩) (fun _ => ?_)⟩
 ·rw [WT h6,show Int.fdiv x.v (256 ^ x.w) = 0 by rw [Int.fdiv_eq_ediv_of_nonneg _ (Int.le_of_lt (Int.pow_pos (by omega)))]; exact Int.ediv_eq_zero_of_lt h7 h8] at h
  cases h
 all_goals
  refine ⟨h1,bg (fun h => absurd (ak h) hn) fun _ => ⟨by omega,⟨0,by omega,rfl,fun q _ => by rw [z0]; rfl⟩,fun s hs => bg (fun h => ?_) (fun h => ?_)⟩⟩
  ·have h := aQ h
   exact ⟨i64 _ (by omega) (by omega),i64 _ (by omega) (by omega),by omega,⟨by omega,by omega⟩,by omega,i64 _ (by omega) (by omega),s + 1,by omega,by omega,by omega,fun q _ => key s (by omega) q⟩
  ·have : s = x.w := by have := aS h; omega
   subst this
   exact fun q _ => rfl
theorem anA : bU Tryz.prog 215 anw := dR dD mixed fA.nil arb 200 5 (fun _ => rfl) (fun _ => rfl) fun x hx => Eq.mp (alC x) (adC x (aY.1 hx))
end Go.Proofs.YtenfleoejgjklaaGreat
end
section
namespace Go.Proofs.YtenfleoejgjklaaGreat
open Go SE
noncomputable def adD : Ctr := det Bys (fun b => [b.av 0]) 1 (fun b => [b.ro]) (fun b => Hd b.ok) (fun b => u32 (nC 0 (fun k => b.g (b.q + k)) b.n)) 1 (fun b => [b.ro])
noncomputable def alD : WTr := fun args h K => match args with
 | [x] => ady h x 1 fun e => ∃ (n : Nat) (g : Nat->Int),e.len = n/\n < 1099511627776/\(∀ k,k < n->e.el k = [.int .u8 (g k)])/\(∀ k,0<=g k/\g k < 256)/\K (u32 (nC 0 g n)) h
 | _ => False
def isE : List AV->Bool
 | .slE .. :: _ => true
 | _ => false
def adE (v : Int) (k : Nat) : Int := if k = 0 then 3 else v / 256 ^ (k - 1) % 256
noncomputable def iK (v : Int) (k : Nat) : Int := if k < 9 then adE v k else if k < 13 then nC 0 (adE v) 9 / 256 ^ (k - 9) % 256 else 0
noncomputable def A8 : Ctr := det Int (fun v => [u64 v]) 0 (fun _ => []) (fun v => Hd (0<=v/\v < 18446744073709551616)) (fun _ => .slE 0 0 1 64 64) 1 (fun v => [.cells 312 (rowB (iK v) 64)])
noncomputable def tblK : WTbl := [(171,alD),(215,orT isE (ctrT anw) (fun args h K => wpF Tryz.prog [] tt (fun _ _ _ _ => []) 200 5 215 args h K))]
end Go.Proofs.YtenfleoejgjklaaGreat
end
section
namespace Go.Proofs.YtenfleoejgjklaaGreat
open Go SE
def aoU (a : uG) (b : Nat) : Prop := (Nat.beq (List.length [Value.int .u8 (a.res (0 + b))]) 1 && List.all [Value.int .u8 (a.res (0 + b))] Value.oneCell') = true
def alE (a : uG) : Prop := ∀ k : Nat,k < a.b.n->aoU a k
def alF (a : uG) : Prop := ∀ k : Nat,k < 64->aoU a k
def H9 : Prop := 0<=64/\64<=64/\64<=64
def aoV (a : uG) (b : ∀ a : Nat,Int) (c : Nat) : Prop := (a.b.q = 0/\a.b.n = 64/\a.c = 64)/\(a.at_ : Int) = 9/\(a.w : Int) = 4/\a.v = IntKind.wrap .u64 (nC (0 : Int) b c)/\True
def agK : Prop := 0 = 0/\64 = 64/\64 = 64
def agL (b : Bys) : Prop :=
 ∃ x : aoQ,Hd (U32 x.c/\x.b.ok)/\(x.c = 0/\(x.b.q = b.q/\x.b.n = b.n)/\True)/\((x.b.N = b.N/\∀ q : Nat,q < x.b.N->[Value.int .u8 (x.b.g q)] = [Value.int .u8 (b.g q)])/\True)/\∀ y : Unit,True->∃ y_1 : Unit,True/\nC (0 : Int) (fun (k : Nat) => b.g (b.q + k)) b.n = nC x.c (fun (k : Nat) => x.b.g (x.b.q + k)) x.b.n/\(rowB b.g b.N = rowB b.g b.N/\true = true)/\True
theorem agM (b : Bys) : agL b = wpF Tryz.prog [(170,ctrT anv)] tt (fun _ _ _ _ => []) 200 5 171 (adD.args b) (hO adD.k (adD.os b)) (fun v h' => eH adD.k b v h' adD.outs) := by kernel_rfl
def WU (x : Int) : Prop :=
 ∃ x_1 : uG,Hd x_1.ok/\((x_1.b.q = 0/\x_1.b.n = 9/\x_1.c = 9)/\(x_1.at_ : Int) = 1/\(x_1.w : Int) = 8/\x_1.v = x/\True)/\((x_1.b.N = 9/\∀ q : Nat,q < x_1.b.N->[Value.int .u8 (x_1.b.g q)] = [List.getD [Value.int .u8 3,Value.int .u8 0,Value.int .u8 0,Value.int .u8 0,Value.int .u8 0,Value.int .u8 0,Value.int .u8 0,Value.int .u8 0,Value.int .u8 0] q (@Inhabited.default Value @instInhabitedValue)])/\True)/\∀ y : Unit,True->H9/\64<=64/\cP (Nat.ble x_1.b.n 64) (0 + x_1.b.n<=x_1.b.n/\alE x_1/\H9/\0 + x_1.b.n<=x_1.b.n/\∃ n : Nat,∃ g : ∀ a : Nat,Int,x_1.b.n = n/\n < 1099511627776/\(∀ k : Nat,k < n->[Value.int .u8 (x_1.res (0 + k))] = [Value.int .u8 (g k)])/\(∀ k : Nat,0<=g k/\g k < 256)/\True/\∃ x_2 : uG,Hd x_2.ok/\aoV x_2 g n/\((x_2.b.N = 64/\∀ q : Nat,q < x_2.b.N->[Value.int .u8 (x_2.b.g q)] = Cs.eff (fun (p : Nat) => cond (Nat.ble 0 p && Nat.blt p (0 + x_1.b.n)) [Value.int .u8 (x_1.res (0 + (p - 0)))] [Value.int .u8 0]) [] q)/\True)/\∀ y_1 : Unit,True->True/\H9/\64<=64/\cP (Nat.ble x_2.b.n 64) (0 + x_2.b.n<=x_2.b.n/\alE x_2/\(∀ k : Nat,k < 64->(Nat.beq (List.length (Cs.eff (fun (p : Nat) => cond (Nat.ble 0 p && Nat.blt p (0 + x_2.b.n)) [Value.int .u8 (x_2.res (0 + (p - 0)))] (Cs.eff (fun (p_1 : Nat) => cond (Nat.ble 0 p_1 && Nat.blt p_1 (0 + x_1.b.n)) [Value.int .u8 (x_1.res (0 + (p_1 - 0)))] [Value.int .u8 0]) [] p)) [] k)) 1 && List.all (Cs.eff (fun (p : Nat) => cond (Nat.ble 0 p && Nat.blt p (0 + x_2.b.n)) [Value.int .u8 (x_2.res (0 + (p - 0)))] (Cs.eff (fun (p_1 : Nat) => cond (Nat.ble 0 p_1 && Nat.blt p_1 (0 + x_1.b.n)) [Value.int .u8 (x_1.res (0 + (p_1 - 0)))] [Value.int .u8 0]) [] p)) [] k) Value.oneCell') = true)/\
 (∀ k : Nat,k < 64->(Nat.beq (List.length (Cs.eff (Cs.eff (fun (p : Nat) => cond (Nat.ble 0 p && Nat.blt p (0 + x_2.b.n)) [Value.int .u8 (x_2.res (0 + (p - 0)))] (Cs.eff (fun (p_1 : Nat) => cond (Nat.ble 0 p_1 && Nat.blt p_1 (0 + x_1.b.n)) [Value.int .u8 (x_1.res (0 + (p_1 - 0)))] [Value.int .u8 0]) [] p)) []) [] k)) 1 && List.all (Cs.eff (Cs.eff (fun (p : Nat) => cond (Nat.ble 0 p && Nat.blt p (0 + x_2.b.n)) [Value.int .u8 (x_2.res (0 + (p - 0)))] (Cs.eff (fun (p_1 : Nat) => cond (Nat.ble 0 p_1 && Nat.blt p_1 (0 + x_1.b.n)) [Value.int .u8 (x_1.res (0 + (p_1 - 0)))] [Value.int .u8 0]) [] p)) []) [] k) Value.oneCell') = true)/\(∀ k : Nat,k < 64->(Nat.beq (List.length (Cs.eff (Cs.eff (Cs.eff (fun (p : Nat) => cond (Nat.ble 0 p && Nat.blt p (0 + x_2.b.n)) [Value.int .u8 (x_2.res (0 + (p - 0)))] (Cs.eff (fun (p_1 : Nat) => cond (Nat.ble 0 p_1 && Nat.blt p_1 (0 + x_1.b.n)) [Value.int .u8 (x_1.res (0 + (p_1 - 0)))] [Value.int .u8 0]) [] p)) []) []) [] k)) 1 && List.all (Cs.eff (Cs.eff (Cs.eff (fun (p : Nat) => cond (Nat.ble 0 p && Nat.blt p (0 + x_2.b.n)) [Value.int .u8 (x_2.res (0 + (p - 0)))] (Cs.eff (fun (p_1 : Nat) => cond (Nat.ble 0 p_1 && Nat.blt p_1 (0 + x_1.b.n)) [Value.int .u8 (x_1.res (0 + (p_1 - 0)))] [Value.int .u8 0]) [] p)) []) []) [] k) Value.oneCell') = true)/\H9/\∃ y_2 : Unit,True/\agK/\(64 = 64/\∀ q : Nat,q < 64->[Value.int .u8 (iK x q)] = Cs.eff (Cs.eff (Cs.eff (Cs.eff (fun (p : Nat) => cond (Nat.ble 0 p && Nat.blt p (0 + x_2.b.n)) [Value.int .u8 (x_2.res (0 + (p - 0)))] (Cs.eff (fun (p_1 : Nat) => cond (Nat.ble 0 p_1 && Nat.blt p_1 (0 + x_1.b.n)) [Value.int .u8 (x_1.res (0 + (p_1 - 0)))] [Value.int .u8 0]) [] p)) []) []) []) [] q)/\True) (64<=x_2.b.n/\alF x_2/\
 (∀ k : Nat,k < 64->(Nat.beq (List.length (Cs.eff (fun (p : Nat) => cond (Nat.ble 0 p && Nat.blt p 64) [Value.int .u8 (x_2.res (0 + (p - 0)))] (Cs.eff (fun (p_1 : Nat) => cond (Nat.ble 0 p_1 && Nat.blt p_1 (0 + x_1.b.n)) [Value.int .u8 (x_1.res (0 + (p_1 - 0)))] [Value.int .u8 0]) [] p)) [] k)) 1 && List.all (Cs.eff (fun (p : Nat) => cond (Nat.ble 0 p && Nat.blt p 64) [Value.int .u8 (x_2.res (0 + (p - 0)))] (Cs.eff (fun (p_1 : Nat) => cond (Nat.ble 0 p_1 && Nat.blt p_1 (0 + x_1.b.n)) [Value.int .u8 (x_1.res (0 + (p_1 - 0)))] [Value.int .u8 0]) [] p)) [] k) Value.oneCell') = true)/\(∀ k : Nat,k < 64->(Nat.beq (List.length (Cs.eff (Cs.eff (fun (p : Nat) => cond (Nat.ble 0 p && Nat.blt p 64) [Value.int .u8 (x_2.res (0 + (p - 0)))] (Cs.eff (fun (p_1 : Nat) => cond (Nat.ble 0 p_1 && Nat.blt p_1 (0 + x_1.b.n)) [Value.int .u8 (x_1.res (0 + (p_1 - 0)))] [Value.int .u8 0]) [] p)) []) [] k)) 1 && List.all (Cs.eff (Cs.eff (fun (p : Nat) => cond (Nat.ble 0 p && Nat.blt p 64) [Value.int .u8 (x_2.res (0 + (p - 0)))] (Cs.eff (fun (p_1 : Nat) => cond (Nat.ble 0 p_1 && Nat.blt p_1 (0 + x_1.b.n)) [Value.int .u8 (x_1.res (0 + (p_1 - 0)))] [Value.int .u8 0]) [] p)) []) [] k) Value.oneCell') = true)/\
 (∀ k : Nat,k < 64->(Nat.beq (List.length (Cs.eff (Cs.eff (Cs.eff (fun (p : Nat) => cond (Nat.ble 0 p && Nat.blt p 64) [Value.int .u8 (x_2.res (0 + (p - 0)))] (Cs.eff (fun (p_1 : Nat) => cond (Nat.ble 0 p_1 && Nat.blt p_1 (0 + x_1.b.n)) [Value.int .u8 (x_1.res (0 + (p_1 - 0)))] [Value.int .u8 0]) [] p)) []) []) [] k)) 1 && List.all (Cs.eff (Cs.eff (Cs.eff (fun (p : Nat) => cond (Nat.ble 0 p && Nat.blt p 64) [Value.int .u8 (x_2.res (0 + (p - 0)))] (Cs.eff (fun (p_1 : Nat) => cond (Nat.ble 0 p_1 && Nat.blt p_1 (0 + x_1.b.n)) [Value.int .u8 (x_1.res (0 + (p_1 - 0)))] [Value.int .u8 0]) [] p)) []) []) [] k) Value.oneCell') = true)/\H9/\∃ y_2 : Unit,True/\agK/\(64 = 64/\∀ q : Nat,q < 64->[Value.int .u8 (iK x q)] = Cs.eff (Cs.eff (Cs.eff (Cs.eff (fun (p : Nat) => cond (Nat.ble 0 p && Nat.blt p 64) [Value.int .u8 (x_2.res (0 + (p - 0)))] (Cs.eff (fun (p_1 : Nat) => cond (Nat.ble 0 p_1 && Nat.blt p_1 (0 + x_1.b.n)) [Value.int .u8 (x_1.res (0 + (p_1 - 0)))] [Value.int .u8 0]) [] p)) []) []) []) [] q)/\True)) (64<=x_1.b.n/\alF x_1/\H9/\0 + x_1.b.n<=x_1.b.n/\∃ n : Nat,∃ g : ∀ a : Nat,Int,x_1.b.n = n/\n < 1099511627776/\(∀ k : Nat,k < n->[Value.int .u8 (x_1.res (0 + k))] = [Value.int .u8 (g k)])/\(∀ k : Nat,0<=g k/\g k < 256)/\True/\∃ x_2 : uG,Hd x_2.ok/\aoV x_2 g n/\((x_2.b.N = 64/\∀ q : Nat,q < x_2.b.N->[Value.int .u8 (x_2.b.g q)] = Cs.eff (fun (p : Nat) => cond (Nat.ble 0 p && Nat.blt p 64) [Value.int .u8 (x_1.res (0 + (p - 0)))] [Value.int .u8 0]) [] q)/\True)/\∀ y_1 : Unit,True->True/\H9/\64<=64/\cP (Nat.ble x_2.b.n 64) (0 + x_2.b.n<=x_2.b.n/\alE x_2/\
 (∀ k : Nat,k < 64->(Nat.beq (List.length (Cs.eff (fun (p : Nat) => cond (Nat.ble 0 p && Nat.blt p (0 + x_2.b.n)) [Value.int .u8 (x_2.res (0 + (p - 0)))] (Cs.eff (fun (p_1 : Nat) => cond (Nat.ble 0 p_1 && Nat.blt p_1 64) [Value.int .u8 (x_1.res (0 + (p_1 - 0)))] [Value.int .u8 0]) [] p)) [] k)) 1 && List.all (Cs.eff (fun (p : Nat) => cond (Nat.ble 0 p && Nat.blt p (0 + x_2.b.n)) [Value.int .u8 (x_2.res (0 + (p - 0)))] (Cs.eff (fun (p_1 : Nat) => cond (Nat.ble 0 p_1 && Nat.blt p_1 64) [Value.int .u8 (x_1.res (0 + (p_1 - 0)))] [Value.int .u8 0]) [] p)) [] k) Value.oneCell') = true)/\(∀ k : Nat,k < 64->(Nat.beq (List.length (Cs.eff (Cs.eff (fun (p : Nat) => cond (Nat.ble 0 p && Nat.blt p (0 + x_2.b.n)) [Value.int .u8 (x_2.res (0 + (p - 0)))] (Cs.eff (fun (p_1 : Nat) => cond (Nat.ble 0 p_1 && Nat.blt p_1 64) [Value.int .u8 (x_1.res (0 + (p_1 - 0)))] [Value.int .u8 0]) [] p)) []) [] k)) 1 && List.all (Cs.eff (Cs.eff (fun (p : Nat) => cond (Nat.ble 0 p && Nat.blt p (0 + x_2.b.n)) [Value.int .u8 (x_2.res (0 + (p - 0)))] (Cs.eff (fun (p_1 : Nat) => cond (Nat.ble 0 p_1 && Nat.blt p_1 64) [Value.int .u8 (x_1.res (0 + (p_1 - 0)))] [Value.int .u8 0]) [] p)) []) [] k) Value.oneCell') = true)/\
 (∀ k : Nat,k < 64->(Nat.beq (List.length (Cs.eff (Cs.eff (Cs.eff (fun (p : Nat) => cond (Nat.ble 0 p && Nat.blt p (0 + x_2.b.n)) [Value.int .u8 (x_2.res (0 + (p - 0)))] (Cs.eff (fun (p_1 : Nat) => cond (Nat.ble 0 p_1 && Nat.blt p_1 64) [Value.int .u8 (x_1.res (0 + (p_1 - 0)))] [Value.int .u8 0]) [] p)) []) []) [] k)) 1 && List.all (Cs.eff (Cs.eff (Cs.eff (fun (p : Nat) => cond (Nat.ble 0 p && Nat.blt p (0 + x_2.b.n)) [Value.int .u8 (x_2.res (0 + (p - 0)))] (Cs.eff (fun (p_1 : Nat) => cond (Nat.ble 0 p_1 && Nat.blt p_1 64) [Value.int .u8 (x_1.res (0 + (p_1 - 0)))] [Value.int .u8 0]) [] p)) []) []) [] k) Value.oneCell') = true)/\H9/\∃ y_2 : Unit,True/\agK/\(64 = 64/\∀ q : Nat,q < 64->[Value.int .u8 (iK x q)] = Cs.eff (Cs.eff (Cs.eff (Cs.eff (fun (p : Nat) => cond (Nat.ble 0 p && Nat.blt p (0 + x_2.b.n)) [Value.int .u8 (x_2.res (0 + (p - 0)))] (Cs.eff (fun (p_1 : Nat) => cond (Nat.ble 0 p_1 && Nat.blt p_1 64) [Value.int .u8 (x_1.res (0 + (p_1 - 0)))] [Value.int .u8 0]) [] p)) []) []) []) [] q)/\True) (64<=x_2.b.n/\alF x_2/\(∀ k : Nat,k < 64->(Nat.beq (List.length (Cs.eff (fun (p : Nat) => cond (Nat.ble 0 p && Nat.blt p 64) [Value.int .u8 (x_2.res (0 + (p - 0)))] (Cs.eff (fun (p_1 : Nat) => cond (Nat.ble 0 p_1 && Nat.blt p_1 64) [Value.int .u8 (x_1.res (0 + (p_1 - 0)))] [Value.int .u8 0]) [] p)) [] k)) 1 && List.all (Cs.eff (fun (p : Nat) => cond (Nat.ble 0 p && Nat.blt p 64) [Value.int .u8 (x_2.res (0 + (p - 0)))] (Cs.eff (fun (p_1 : Nat) => cond (Nat.ble 0 p_1 && Nat.blt p_1 64) [Value.int .u8 (x_1.res (0 + (p_1 - 0)))] [Value.int .u8 0]) [] p)) [] k) Value.oneCell') = true)/\
 (∀ k : Nat,k < 64->(Nat.beq (List.length (Cs.eff (Cs.eff (fun (p : Nat) => cond (Nat.ble 0 p && Nat.blt p 64) [Value.int .u8 (x_2.res (0 + (p - 0)))] (Cs.eff (fun (p_1 : Nat) => cond (Nat.ble 0 p_1 && Nat.blt p_1 64) [Value.int .u8 (x_1.res (0 + (p_1 - 0)))] [Value.int .u8 0]) [] p)) []) [] k)) 1 && List.all (Cs.eff (Cs.eff (fun (p : Nat) => cond (Nat.ble 0 p && Nat.blt p 64) [Value.int .u8 (x_2.res (0 + (p - 0)))] (Cs.eff (fun (p_1 : Nat) => cond (Nat.ble 0 p_1 && Nat.blt p_1 64) [Value.int .u8 (x_1.res (0 + (p_1 - 0)))] [Value.int .u8 0]) [] p)) []) [] k) Value.oneCell') = true)/\(∀ k : Nat,k < 64->(Nat.beq (List.length (Cs.eff (Cs.eff (Cs.eff (fun (p : Nat) => cond (Nat.ble 0 p && Nat.blt p 64) [Value.int .u8 (x_2.res (0 + (p - 0)))] (Cs.eff (fun (p_1 : Nat) => cond (Nat.ble 0 p_1 && Nat.blt p_1 64) [Value.int .u8 (x_1.res (0 + (p_1 - 0)))] [Value.int .u8 0]) [] p)) []) []) [] k)) 1 && List.all (Cs.eff (Cs.eff (Cs.eff (fun (p : Nat) => cond (Nat.ble 0 p && Nat.blt p 64) [Value.int .u8 (x_2.res (0 + (p - 0)))] (Cs.eff (fun (p_1 : Nat) => cond (Nat.ble 0 p_1 && Nat.blt p_1 64) [Value.int .u8 (x_1.res (0 + (p_1 - 0)))] [Value.int .u8 0]) [] p)) []) []) [] k) Value.oneCell') = true)/\H9/\∃ y_2 : Unit,True/\agK/\(64 = 64/\∀ q : Nat,q < 64->[Value.int .u8 (iK x q)] = Cs.eff (Cs.eff (Cs.eff (Cs.eff (fun (p : Nat) => cond (Nat.ble 0 p && Nat.blt p 64) [Value.int .u8 (x_2.res (0 + (p - 0)))] (Cs.eff (fun (p_1 : Nat) => cond (Nat.ble 0 p_1 && Nat.blt p_1 64) [Value.int .u8 (x_1.res (0 + (p_1 - 0)))] [Value.int .u8 0]) [] p)) []) []) []) [] q)/\True))
theorem adF (x : Int) : WU x = wpF Tryz.prog tblK tt (fun _ _ _ _ => []) 200 5 150 (A8.args x) (hO A8.k (A8.os x)) (fun v h' => eH A8.k x v h' A8.outs) := by kernel_rfl
end Go.Proofs.YtenfleoejgjklaaGreat
end
section
namespace Go.Proofs.YtenfleoejgjklaaGreat
open Go SE
theorem WV (b : Bys) (hb : b.ok) : agL b := by
 unfold agL
 simp only [aY,aU,aT,ay,aH,bI,bn,aN,aJ,au,aW,aV]
 exact ⟨⟨0,b⟩,⟨(show U32 0 from ⟨by omega,by omega⟩),hb⟩,⟨rfl,rfl,rfl⟩,⟨rfl,fun _ _ => rfl⟩,rfl⟩
theorem lU (v : Int) (k : Nat) : 0<=v / 256 ^ k % 256/\v / 256 ^ k % 256 < 256 := ⟨Int.emod_nonneg _ (by omega),Int.emod_lt_of_pos _ (by omega)⟩
theorem zI {g : Nat->Int} (h : ∀ k,0<=g k/\g k < 256) (a w : Nat) (v : Int) (k : Nat) : 0<=oI g a w v k/\oI g a w v k < 256 := by
 unfold oI
 split
 ·exact lU _ _
 ·exact h k
theorem Rw (v : Int) (hv : 0<=v/\v < 18446744073709551616) : WU v := by
 unfold WU
 simp only [H9,alE,aoV,agK,alF,aoU]
 simp only [aY,aU,aT,ay,aH,bI,bn,aN,aJ,au,aW,aV]
 let b0 : Bys := ⟨fun k => if k = 0 then 3 else 0,0,9,9⟩
 let x1 : uG := ⟨b0,1,8,v,9⟩
 have ok1 : x1.ok := ⟨⟨by simp [x1,b0],by simp [x1,b0],fun k => by simp only [x1,b0]; split <;> omega⟩,by simp [x1,b0],by simp [x1],by simp [x1],hv.1,hv.2⟩
 have r1 : ∀ k,k < 9->x1.res k = adE v k := fun k hk => by
  simp only [uG.res,oI,adE,x1,b0]
  by_cases h : k = 0
  ·subst h; simp
  ·rw [if_pos (by omega),if_neg h]
 have u1 : ∀ k,0<=x1.res k/\x1.res k < 256 := zI (fun k => ok1.1.2.2 _) _ _ _
 let b1 : Bys := ⟨fun k => if k < 9 then x1.res k else 0,0,64,64⟩
 let x2 : uG := ⟨b1,9,4,nC 0 x1.res 9,64⟩
 have c1 : nC 0 x1.res 9 = nC 0 (adE v) 9 := zH r1
 have hU := Z7 0 x1.res 9
 have ok2 : x2.ok := ⟨⟨by simp [x2,b1],by simp [x2,b1],fun k => by
  show 0<=(if k < 9 then x1.res k else 0)/\(if k < 9 then x1.res k else 0) < 256
  split
  ·exact u1 k
  ·exact ⟨by omega,by omega⟩⟩,by simp [x2,b1],by simp [x2],by simp [x2],hU.1,hU.2⟩
 have w64 : IntKind.u64.wrap (nC 0 x1.res 9) = nC 0 x1.res 9 := by
  have := hU.1; have := hU.2
  unfold IntKind.wrap; simp [IntKind.bits,IntKind.signed]; omega
 have nb : x1.b.n = 9 := rfl
 have nb2 : x2.b.n = 64 := rfl
 have ble9 : Nat.ble 9 64 = true := rfl
 have aoW : Nat.ble 64 64 = true := rfl
 refine ⟨x1,ok1,⟨⟨rfl,rfl,rfl⟩,rfl,rfl,rfl⟩,⟨rfl,fun q hq => ?_⟩,by omega,by omega,?_⟩
 ·have hq : q < 9 := hq
  match q,hq with
  | 0,_ | 1,_ | 2,_ | 3,_ | 4,_ | 5,_ | 6,_ | 7,_ | 8,_ => rfl
 simp only [nb,ble9,cP,bJ,bC,bD,bF,bK,bf,bG,aZ,dU,aG,aK,ah,aj,aA,aC,aB,aF,aJ,aT]
 refine ⟨by omega,by omega,by omega,9,x1.res,rfl,by omega,fun _ _ => rfl,u1,x2,ok2,⟨⟨rfl,rfl,rfl⟩,rfl,rfl,w64.symm⟩,⟨rfl,fun q hq => ?_⟩,by omega,by omega,?_⟩
 ·show (if q < 9 then x1.res q else 0) = _
  rw [bV,dY]
 simp only [nb2,aoW,cP,bJ,bC,bD,bF,bK,bf,bG,aZ,dU,aG,aK,ah,aj,aA,aC,aB,aF,aJ,aT]
 refine ⟨by omega,by omega,fun q hq => ?_⟩
 simp [bQ.2 hq]
 show iK v q = oI (fun k => if 0 + k < 9 then x1.res (0 + k) else 0) 9 4 (nC 0 x1.res 9) q
 simp only [iK,oI,c1,ay]
 by_cases h : q < 9
 ·rw [if_pos h,if_neg (by omega),if_pos h,r1 q h]
 ·by_cases h2 : q < 13
  ·rw [if_neg h,if_pos h2,if_pos (by omega)]
  ·rw [if_neg h,if_neg h2,if_neg (by omega),if_neg h]
end Go.Proofs.YtenfleoejgjklaaGreat
end
section
namespace Go.Proofs.YtenfleoejgjklaaGreat
open Go SE
theorem WW {P : Program} {f : FuncId} {X : Type} {args : X->List AV} {k m : Nat} {os os' : X->List bZ} {pre : X->Prop} {ret : X->AV} (hC : bU P f (det X args k os pre ret m os')) (x : X) (hp : pre x) : Sp P f (args x) (hO k (os x)) (fun v _ => v = ret x) :=
 (hC x hp).2.mono fun _ _ hh => by
  have ha : Na x (fun v _ => v = ret x) (det X args k os pre ret m os').outs := fun _ _ => rfl
  exact zC ha hh
theorem agN : bU Tryz.prog 171 adD := dR dD mixed (.cons (bM anx) .nil) (fun _ _ _ _ _ => []) 200 5 (fun _ => rfl) (fun _ => rfl) fun x hx => Eq.mp (agM x) (WV x (aY.1 hx))
theorem Z8 (args : List AV) (h : Heap) (K : AV->Heap->Prop) (hq : alD args h K) : Sp Tryz.prog 171 args h K := by
 unfold alD at hq
 split at hq
 ·refine alr (agN ⟨fun _ => 0,0,0,0⟩ (aY.2 ⟨by simp,by simp,fun _ => by simp⟩)).2.1 (by omega) hq fun e he => ?_
  obtain ⟨n,g,h1,h2,h3,h4,hK⟩ := he
  have hs := WW agN ⟨g,0,n,n⟩ (aY.2 ⟨by simp,h2,h4⟩)
  refine ⟨n,fun k => [.int .u8 (g k)],u32 (nC 0 (fun k => g (0 + k)) n),h1,h3,rfl,?_,hs⟩
  simpa only [ay] using hK
 ·exact hq.elim
theorem agO : fA Tryz.prog tblK := .cons Z8 (.cons (aq6 (bM anA) fun _ _ _ hq => AY dD mixed fA.nil _ _ _ _ _ _ _ hq) .nil)
theorem Z9 : bU Tryz.prog 150 A8 := dR dD mixed agO (fun _ _ _ _ _ => []) 200 5 (fun _ => rfl) (fun _ => rfl) fun x hx => Eq.mp (adF x) (Rw x (aY.1 hx))
theorem adG : zD Tryz.prog 102 (Extern.Atomic.loadT (.int .u64)) := ⟨Tryz.f102,by kernel_rfl,by kernel_rfl,by kernel_rfl,by kernel_rfl,by kernel_rfl⟩
def aac : WTbl := [(102,aly .u64)]
theorem WX : fA Tryz.prog aac := .Ri (fun _ _ _ hq => Z4 _ _ _ adG hq) .nil
theorem WY : zD Tryz.prog 104 Extern.Atomic.storeT := ⟨Tryz.f104,by kernel_rfl,by kernel_rfl,by kernel_rfl,by kernel_rfl,by kernel_rfl⟩
def Rx : WTbl := [(104,ZY .u64)]
theorem Ry : fA Tryz.prog Rx := .Ri (fun _ _ _ hq => Rq _ _ _ WY hq) .nil
theorem agP : zD Tryz.prog 103 (Extern.Atomic.casT (.int .u64)) := ⟨Tryz.f103,by kernel_rfl,by kernel_rfl,by kernel_rfl,by kernel_rfl,by kernel_rfl⟩
def agQ : WTbl := [(103,casX .u64)]
theorem adH : fA Tryz.prog agQ := .Ri (fun _ _ _ hq => aoO _ _ _ agP hq) .nil
theorem agR : zD Tryz.prog 108 (Extern.Atomic.update (Op.intArith .add) .u64 true) := ⟨Tryz.f108,by kernel_rfl,by kernel_rfl,by kernel_rfl,by kernel_rfl,by kernel_rfl⟩
def agS : WTbl := [(108,addX .u64)]
theorem adI : fA Tryz.prog agS := .Ri (fun _ _ _ hq => agx _ _ _ agR hq) .nil
theorem adJ : zD Tryz.prog 285 (Extern.Atomic.swapT (.int .u64)) := ⟨Tryz.f285,by kernel_rfl,by kernel_rfl,by kernel_rfl,by kernel_rfl,by kernel_rfl⟩
def aad : WTbl := [(285,aoM .u64)]
theorem WZ : fA Tryz.prog aad := .Ri (fun _ _ _ hq => alz _ _ _ adJ hq) .nil
theorem adK : zD Tryz.prog 168 (Extern.Atomic.update (Op.intArith .add) .i64 true) := ⟨Tryz.f168,by kernel_rfl,by kernel_rfl,by kernel_rfl,by kernel_rfl,by kernel_rfl⟩
def aae : WTbl := [(168,addX .i64)]
theorem W9 : fA Tryz.prog aae := .Ri (fun _ _ _ hq => agx _ _ _ adK hq) .nil
def Rz : WTbl := []
theorem RD : fA Tryz.prog Rz := .nil
theorem adL : zD Tryz.prog 193 (Extern.Atomic.loadT (.int .u32)) := ⟨Tryz.f193,by kernel_rfl,by kernel_rfl,by kernel_rfl,by kernel_rfl,by kernel_rfl⟩
def aaf : WTbl := [(193,aly .u32)]
theorem Xa : fA Tryz.prog aaf := .Ri (fun _ _ _ hq => Z4 _ _ _ adL hq) .nil
theorem Xb : zD Tryz.prog 239 Extern.Atomic.storeT := ⟨Tryz.f239,by kernel_rfl,by kernel_rfl,by kernel_rfl,by kernel_rfl,by kernel_rfl⟩
def RF : WTbl := [(239,ZY .u32)]
theorem RG : fA Tryz.prog RF := .Ri (fun _ _ _ hq => Rq _ _ _ Xb hq) .nil
noncomputable def qO : WTbl := aac ++ Rx ++ agQ ++ agS ++ aad ++ aae ++ Rz ++ aaf ++ RF
theorem eG : fA Tryz.prog qO := .append (.append (.append (.append (.append (.append (.append (.append (WX) Ry) adH) adI) WZ) W9) RD) Xa) RG
structure DevM where
 n : Nat
 b : Nat->Int
 s : Nat->Bool
 st : Int
 fl : Int
 fe : Int
 ba : Int
 cu : Int
def small (z : Int) : Prop := 0<=z/\z < 1099511627776
noncomputable def gV (d : DevM) (p : Nat) : List Value := hide [if p % 193 = 192 then .bool (d.s (p / 193)) else .int .u8 (d.b p)]
theorem nX (d : DevM) (p : Nat) : gV d p = [if p % 193 = 192 then .bool (d.s (p / 193)) else .int .u8 (d.b p)] := pU _
namespace DevM
def ok (d : DevM) : Prop := d.n<=258/\(∀ p,0<=d.b p/\d.b p < 256)/\small d.st/\small d.fl/\small d.fe/\small d.ba/\small d.cu
def dev (i : Nat) (d : DevM) : bZ := .cells 201 (.av [.slE i 0 193 d.n d.n,i64 d.st,i64 d.fl,i64 d.fe,i64 d.ba,i64 d.cu])
noncomputable def cells (d : DevM) : bZ := .cells 229 (.row 1 (d.n * 193) (gV d) [])
noncomputable def os (d : DevM) : List bZ := [d.dev 1,d.cells]
def _root_.Go.Proofs.YtenfleoejgjklaaGreat.uQ (n : Nat) : DevM := ⟨n,fun _ => 0,fun _ => false,0,0,0,0,0⟩
def flush (d : DevM) (k : Nat) : DevM := { d with b := fun p => if k * 193 + 128<=p/\p < k * 193 + 192 then d.b (p - 128) else d.b p,s := fun q => if q = k then true else d.s q,fl := if k < d.n then d.fl + 1 else d.fl }
def iP (d : DevM) (k : Nat) : DevM := { d with b := fun p => if p / 193 < k/\d.s (p / 193) = true/\64<=p % 193/\p % 193 < 128 then d.b (p + 64) else d.b p,s := fun q => if q < k then false else d.s q }
def fence (d : DevM) : DevM := { d.iP d.n with fe := d.fe + 1 }
def store (d : DevM) (k a n : Nat) (g : Nat->Int) : DevM := { d with b := fun p => if k * 193 + a<=p/\p < k * 193 + a + n then g (p - (k * 193 + a)) else d.b p,st := d.st + 1 }
end DevM
structure RH where
 d : DevM
 k : Nat
noncomputable def Ba : Ctr := det RH (fun x => [.ptr 0 0,i64 x.k]) 2 (fun x => x.d.os) (fun x => Hd (x.d.ok/\x.k < 258)) (fun x => i64 (if x.k < x.d.n then 0 else 2)) 2 (fun x => (x.d.flush x.k).os)
noncomputable def Bc : Ctr := det DevM (fun _ => [.ptr 0 0]) 2 (fun d => d.os) (fun d => Hd d.ok) (fun _ => i64 0) 2 (fun d => d.fence.os)
noncomputable def agT (d : DevM) : FuncId->vK := fun f =>
 bif Nat.beq f 106 then (fun b fr h => bif Nat.beq b 0 then [{ σ := Nat,fr := fun k => [(12,i64 k)],ob := fun k => [(1,some (d.iP k).cells)],inv := fun k => k<=d.n,meas := fun k => d.n - k }] else []) else
 fun _ _ _ => []
structure nD where
 d : DevM
 k : Nat
 a : Nat
 b : Bys
noncomputable def Bd : Ctr := det nD (fun x => [.ptr 0 0,i64 x.k,i64 x.a,x.b.av 2]) 3 (fun x => x.d.os ++ [x.b.ro]) (fun x => Hd (x.d.ok/\x.k < x.d.n/\x.b.ok/\x.a + x.b.n<=64)) (fun _ => i64 0) 3 (fun x => (x.d.store x.k x.a x.b.n (fun q => x.b.g (x.b.q + q))).os ++ [x.b.ro])
end Go.Proofs.YtenfleoejgjklaaGreat
end
section
namespace Go.Proofs.YtenfleoejgjklaaGreat
open Go SE
def adM (a : DevM) : Prop := a.ba = a.ba/\a.cu = a.cu/\True
def Xc (a : DevM) : Prop := a.fe = a.fe/\adM a
def Xd (a : DevM) : Prop := a.fl = a.fl/\Xc a
def nK (a : Nat) : Prop := 0 = 0/\a = a/\a = a
def kU (a : Nat) : Prop := a * 193 = a * 193
def RI (a : Bys) : Prop := (rowB a.g a.N = rowB a.g a.N/\true = true)/\True
def alG (a : nD) : Prop := ∃ y : Unit,True/\(0 : Int) = 2/\(nK a.d.n/\a.d.st + 1 = a.d.st/\Xd a.d)/\(kU a.d.n/\∀ q : Nat,q < a.d.n * 193->Cs.eff (gV (a.d.store a.k a.a a.b.n (fun (q_1 : Nat) => a.b.g (a.b.q + q_1)))) [] q = Cs.eff (gV a.d) [] q)/\RI a.b
def alH (a : DevM) : Prop := (nK a.n/\a.st = a.st/\Xd a)/\True
def aag (a : Bys) (b : Nat) : Prop := (Nat.beq (List.length [Value.int .u8 (a.g (a.q + b))]) 1 && List.all [Value.int .u8 (a.g (a.q + b))] Value.oneCell') = true
def aah : Prop := ∃ y : Unit,True/\(False/\(0 : Int) = 2/\True)/\False/\False/\True
def agU (n : Nat) : Prop :=
 cP (decide ((n : Int) < 1)) aah (cP (decide ((n : Int) > (258 : Int))) aah ((0<=(n : Int)/\(n : Int)<=(n : Int)/\193 * (n : Int)<=281474976710656/\(n : Int) < 4611686018427387904)/\∃ y : Unit,True/\(0 = 0/\(0 : Int) = 0/\True)/\(nK n/\(0 : Int) = 0/\(0 : Int) = 0/\(0 : Int) = 0/\(0 : Int) = 0/\(0 : Int) = 0/\True)/\(kU n/\∀ q : Nat,∀ j : Nat,q < n->j < 193->∃ v : Value,getElem? (List.replicate 192 (Value.int .u8 0) ++ [Value.bool false]) j = some v/\Cs.eff (gV (uQ n)) [] (q * 193 + j) = [v])/\True))
def Xe (x : RH) : Prop :=
 cP (decide ((x.k : Int) ≥ (x.d.n : Int))) (∃ y : Unit,True/\ite (x.k < x.d.n) (0 : Int) (2 : Int) = 2/\(nK x.d.n/\x.d.st = x.d.st/\ite (x.k < x.d.n) (x.d.fl + 1) x.d.fl = x.d.fl/\Xc x.d)/\(kU x.d.n/\∀ q : Nat,q < x.d.n * 193->Cs.eff (gV (x.d.flush x.k)) [] q = Cs.eff (gV x.d) [] q)/\True) (I64 (64 : Int)/\(0<=(x.k : Int)/\(x.k : Int) < (x.d.n : Int))/\(0 + x.k) * 193 + 0 + 64<=x.d.n * 193/\(0 + x.k) * 193 + 128 + 64<=x.d.n * 193/\(∀ k : Nat,k < 64->(Nat.beq (List.length (Cs.eff (gV x.d) [] ((0 + x.k) * 193 + 0 + k))) 1 && List.all (Cs.eff (gV x.d) [] ((0 + x.k) * 193 + 0 + k)) Value.oneCell') = true)/\(0 + x.k) * 193 + 192 < x.d.n * 193/\I64 (x.d.fl + 1)/\∃ y : Unit,True/\ite (x.k < x.d.n) (0 : Int) (2 : Int) = 0/\(nK x.d.n/\x.d.st = x.d.st/\ite (x.k < x.d.n) (x.d.fl + 1) x.d.fl = x.d.fl + 1/\Xc x.d)/\(kU x.d.n/\∀ q : Nat,q < x.d.n * 193->Cs.eff (gV (x.d.flush x.k)) [] q = Cs.eff (fun (p : Nat) => cond (Nat.ble ((0 + x.k) * 193 + 128) p && Nat.blt p ((0 + x.k) * 193 + 128 + 64)) (Cs.eff (gV x.d) [] ((0 + x.k) * 193 + 0 + (p - ((0 + x.k) * 193 + 128)))) (Cs.eff (gV x.d) [] p)) [((0 + x.k) * 193 + 192,[Value.bool true])] q)/\True)
theorem adN (x : RH) : Xe x = wpF Tryz.prog qO tt (fun _ _ _ _ => []) 200 5 105 (Ba.args x) (hO Ba.k (Ba.os x)) (fun v h' => eH Ba.k x v h' Ba.outs) := by kernel_rfl
def Xf (d : DevM) : Prop :=
 (∃ s : Nat,s<=d.n/\True/\((s : Int) = 0/\True)/\(kU d.n/\∀ q : Nat,q < d.n * 193->Cs.eff (gV (d.iP s)) [] q = Cs.eff (gV d) [] q)/\alH d)/\(∀ s : Nat,s<=d.n->cP (decide ((s : Int) < (d.n : Int))) ((0<=(s : Int)/\(s : Int) < (d.n : Int))/\(0 + s) * 193 + 192 < d.n * 193/\∃ b : Bool,getElem? (gV (d.iP s) ((0 + s) * 193 + 192)) 0 = some (Value.bool b)/\cP b ((0 + s) * 193 + 128 + 64<=d.n * 193/\(0 + s) * 193 + 64 + 64<=d.n * 193/\(∀ k : Nat,k < 64->(Nat.beq (List.length (Cs.eff (gV (d.iP s)) [] ((0 + s) * 193 + 128 + k))) 1 && List.all (Cs.eff (gV (d.iP s)) [] ((0 + s) * 193 + 128 + k)) Value.oneCell') = true)/\(0 + s) * 193 + 192 < d.n * 193/\I64 ((s : Int) + 1)/\∃ s_1 : Nat,s_1<=d.n/\d.n - s_1 < d.n - s/\((s_1 : Int) = (s : Int) + 1/\True)/\(kU d.n/\∀ q : Nat,q < d.n * 193->Cs.eff (gV (d.iP s_1)) [] q = Cs.eff (fun (p : Nat) => cond (Nat.ble ((0 + s) * 193 + 64) p && Nat.blt p ((0 + s) * 193 + 64 + 64)) (Cs.eff (gV (d.iP s)) [] ((0 + s) * 193 + 128 + (p - ((0 + s) * 193 + 64)))) (Cs.eff (gV (d.iP s)) [] p)) [((0 + s) * 193 + 192,[Value.bool false])] q)/\alH d) (I64 ((s : Int) + 1)/\∃ s_1 : Nat,s_1<=d.n/\d.n - s_1 < d.n - s/\((s_1 : Int) = (s : Int) + 1/\True)/\(kU d.n/\∀ q : Nat,q < d.n * 193->Cs.eff (gV (d.iP s_1)) [] q = Cs.eff (gV (d.iP s)) [] q)/\alH d)) (I64 (d.fe + 1)/\∃ y : Unit,True/\(0 : Int) = 0/\(nK d.n/\d.st = d.st/\d.fl = d.fl/\d.fe + 1 = d.fe + 1/\adM d)/\(kU d.n/\∀ q : Nat,q < d.n * 193->Cs.eff (gV d.fence) [] q = Cs.eff (gV (d.iP s)) [] q)/\True))/\True
theorem adO (d : DevM) : Xf d = wpF Tryz.prog qO tt (agT d) 200 5 106 (Bc.args d) (hO Bc.k (Bc.os d)) (fun v h' => eH Bc.k d v h' Bc.outs) := by kernel_rfl
def Nj (x : nD) : Prop :=
 cP (decide ((x.k : Int) ≥ (x.d.n : Int))) (alG x) (I64 (64 - (x.b.n : Int))/\cP (decide ((x.a : Int) > 64 - (x.b.n : Int))) (alG x) ((0<=(x.k : Int)/\(x.k : Int) < (x.d.n : Int))/\0<=(x.a : Int)/\(x.a<=64/\64<=64/\64<=64)/\(0 + x.k) * 193 + 0 + x.a + (64 - x.a)<=x.d.n * 193/\cP (Nat.ble x.b.n (64 - x.a)) (x.b.q + x.b.n<=x.b.N/\(∀ k : Nat,k < x.b.n->aag x.b k)/\I64 (x.d.st + 1)/\∃ y : Unit,True/\(0 : Int) = 0/\(nK x.d.n/\x.d.st + 1 = x.d.st + 1/\Xd x.d)/\(kU x.d.n/\∀ q : Nat,q < x.d.n * 193->Cs.eff (gV (x.d.store x.k x.a x.b.n (fun (q_1 : Nat) => x.b.g (x.b.q + q_1)))) [] q = Cs.eff (fun (p : Nat) => cond (Nat.ble ((0 + x.k) * 193 + 0 + x.a) p && Nat.blt p ((0 + x.k) * 193 + 0 + x.a + x.b.n)) [Value.int .u8 (x.b.g (x.b.q + (p - ((0 + x.k) * 193 + 0 + x.a))))] (Cs.eff (gV x.d) [] p)) [] q)/\RI x.b) (x.b.q + (64 - x.a)<=x.b.N/\(∀ k : Nat,k < 64 - x.a->aag x.b k)/\I64 (x.d.st + 1)/\∃ y : Unit,True/\(0 : Int) = 0/\(nK x.d.n/\x.d.st + 1 = x.d.st + 1/\Xd x.d)/\(kU x.d.n/\∀ q : Nat,q < x.d.n * 193->Cs.eff (gV (x.d.store x.k x.a x.b.n (fun (q_1 : Nat) => x.b.g (x.b.q + q_1)))) [] q = Cs.eff (fun (p : Nat) => cond (Nat.ble ((0 + x.k) * 193 + 0 + x.a) p && Nat.blt p ((0 + x.k) * 193 + 0 + x.a + (64 - x.a))) [Value.int .u8 (x.b.g (x.b.q + (p - ((0 + x.k) * 193 + 0 + x.a))))] (Cs.eff (gV x.d) [] p)) [] q)/\RI x.b)))
theorem adP (x : nD) : Nj x = wpF Tryz.prog qO tt (fun _ _ _ _ => []) 200 5 62 (Bd.args x) (hO Bd.k (Bd.os x)) (fun v h' => eH Bd.k x v h' Bd.outs) := by kernel_rfl
end Go.Proofs.YtenfleoejgjklaaGreat
end
section
namespace Go.Proofs.YtenfleoejgjklaaGreat
open Go SE
set_option linter.unusedSimpArgs false
theorem agV (d : DevM) (p : Nat) : ((gV d p).length.beq 1 && (gV d p).all Value.oneCell') = true := by
 rw [nX]
 split <;> rfl
theorem Xg (n : Nat) (hn : 1<=n/\n<=258) : agU n := by
 unfold agU
 simp only [aah,nK,kU]
 simp only [aY,aU,aT,ay,aH,bI,bn,aN,aJ,au,aW,aV,bJ,bC,bD,bF,bK,bf,bG,aZ,dU,aG,aK,ah,aj,aA,aC,aB,aF]
 refine bg (fun h => absurd (aQ h) (by omega)) fun _ => bg (fun h => absurd (aQ h) (by omega)) fun _ => ⟨by omega,fun q j _ hj => ?_⟩
 rw [nX,show (q * 193 + j) % 193 = j by omega]
 by_cases h : j = 192
 ·subst h; exact ⟨_,rfl,rfl⟩
 ·rw [if_neg h]
  refine ⟨.int .u8 0,?_,rfl⟩
  rw [List.getElem?_append_left (by rw [List.length_replicate]; omega),List.getElem?_replicate,if_pos (by omega)]
theorem RJ (x : RH) (hx : x.d.ok/\x.k < 258) : Xe x := by
 obtain ⟨⟨h1,h2,h3,h4,h5,h6⟩,hk⟩ := hx
 unfold small at *
 unfold Xe
 simp only [nK,Xc,kU,adM]
 simp only [aY,aU,aT,ay,aH,bI,bn,aN,aJ,au,aW,aV,bJ,bC,bD,bF,bK,bf,bG,aZ,dU,aG,aK,ah,aj,aA,aC,aB,aF]
 refine bg (fun h => ?_) fun h => ?_
 ·have h := aQ h
  refine ⟨by rw [if_neg (by omega)],by rw [if_neg (by omega)],fun q hq => ?_⟩
  simp only [nX,DevM.flush]
  grind
 ·have h : x.k < x.d.n := by have := aS h; omega
  rw [if_pos h,if_pos h]
  refine ⟨by unfold I64; omega,by omega,by omega,by omega,fun k _ => agV _ _,by omega,by unfold I64; omega,rfl,rfl,fun q hq => ?_⟩
  simp only [Cs.eff,bV,dI,dJ,dY,← Bool.decide_and,nX,DevM.flush]
  grind
theorem RN (d : DevM) (hd : d.ok) : Xf d := by
 obtain ⟨h1,h2,h3,h4,h5,h6⟩ := hd
 unfold small at *
 unfold Xf
 simp only [kU,alH,nK,adM,Xd,Xc]
 simp only [aY,aU,aT,ay,aH,bI,bn,aN,aJ,au,aW,aV,bJ,bC,bD,bF,bK,bf,bG,aZ,dU,aG,aK,ah,aj,aA,aC,aB,aF]
 refine ⟨⟨0,by omega,by omega,fun q hq => ?_⟩,fun s hs => bg (fun hb => ?_) (fun hb => ?_)⟩
 ·simp only [nX,DevM.iP]; grind
 ·have hb := aQ hb
  refine ⟨by omega,by omega,d.s s,?_,bg (fun hc => ?_) (fun hc => ?_)⟩
  ·simp only [nX,DevM.iP]; grind
  ·refine ⟨by omega,by omega,fun k _ => agV _ _,by omega,by unfold I64; omega,s + 1,by omega,by omega,by omega,fun q hq => ?_⟩
   simp only [Cs.eff,bV,dI,dJ,dY,← Bool.decide_and,nX,DevM.iP]; grind (splits := 30)
  ·refine ⟨by unfold I64; omega,s + 1,by omega,by omega,by omega,fun q hq => ?_⟩
   simp only [nX,DevM.iP]; grind
 ·have : s = d.n := by have := aS hb; omega
  subst this
  exact ⟨by unfold I64; omega,fun q _ => rfl⟩
theorem Bf (x : nD) (hx : x.d.ok/\x.k < x.d.n/\x.b.ok/\x.a + x.b.n<=64) : Nj x := by
 obtain ⟨⟨h1,h2,h3,h4,h5,h6⟩,hk,hb,ha⟩ := hx
 unfold small at *
 unfold Nj
 simp only [alG,aag,nK,Xd,kU,RI,Xc,adM]
 simp only [aY,aU,aT,ay,aH,bI,bn,aN,aJ,au,aW,aV,bJ,bC,bD,bF,bK,bf,bG,aZ,dU,aG,aK,ah,aj,aA,aC,aB,aF]
 obtain ⟨b1,b2,b3⟩ := hb
 refine bg (fun h => absurd (aQ h) (by omega)) fun _ => ⟨by unfold I64; omega,bg (fun h => absurd (aQ h) (by omega)) fun _ => ⟨by omega,by omega,by omega,by omega,bg (fun h => ?_) (fun h => ?_)⟩⟩
 ·refine ⟨b1,by unfold I64; omega,fun q hq => ?_⟩
  simp only [Cs.eff,bV,dI,dJ,dY,← Bool.decide_and,nX,DevM.store]; grind
 ·have : ¬ x.b.n<=64 - x.a := fun hh => by rw [show Nat.ble x.b.n (64 - x.a) = true by simpa using hh] at h; cases h
  omega
theorem aai : bU Tryz.prog 105 Ba := dR dD mixed eG (fun _ _ _ _ _ => []) 200 5 (fun _ => rfl) (fun _ => rfl) fun x hx => Eq.mp (adN x) (RJ x (aY.1 hx))
theorem aaj : bU Tryz.prog 106 Bc := dR dD mixed eG agT 200 5 (fun _ => rfl) (fun _ => rfl) fun x hx => Eq.mp (adO x) (RN x (aY.1 hx))
theorem aak : bU Tryz.prog 62 Bd := dR dD mixed eG (fun _ _ _ _ _ => []) 200 5 (fun _ => rfl) (fun _ => rfl) fun x hx => Eq.mp (adP x) (Bf x (aY.1 hx))
end Go.Proofs.YtenfleoejgjklaaGreat
end
section
namespace Go.Proofs.YtenfleoejgjklaaGreat
open Go SE
structure ClkM where
 t : Nat
 now : Int
 dur : Int
 clos : Int
 o : Nat->Int
 N : Nat->Bool
 L : Nat->Bool
def ard (f : Nat->Bool) : Cs := .row 1 258 (fun k => [.bool (f k)]) []
def U64 (z : Int) : Prop := 0<=z/\z < 4611686018427387904
def stA (i : Nat) : Nat->AV
 | 0 => .lit .nilFunc
 | 1 => .fn (.func 57) [.ptr i 0] []
 | 2 => .fn (.func 107) [.ptr i 0] []
 | 3 => .fn (.func 165) [.ptr i 0] []
 | _ => .fn (.func 212) [.ptr i 0] []
def stV (ph : Nat) : AV := stA 0 ph
namespace ClkM
def ok (c : ClkM) : Prop := 1<=c.t/\c.t<=4/\U64 c.now/\U64 c.dur/\U64 c.clos/\∀ k,small (c.o k)
def clkA (c : ClkM) (i : Nat) (st : AV) : bZ := .cells 131 (.cat (.av [u64 c.now,u64 c.dur,u64 c.clos,.slE i 0 1 c.t c.t]) (.cat (ard c.N) (.cat (ard c.L) (.av [st]))))
def clk (c : ClkM) (ph : Nat) : bZ := c.clkA 1 (stV ph)
def owed (c : ClkM) : bZ := .cells 3 (.row 1 c.t (fun k => [.int .i64 (c.o k)]) [])
def os (c : ClkM) (ph : Nat) : List bZ := [c.clk ph,c.owed]
def note (c : ClkM) (t : Nat) (l : Int) : ClkM := { c with o := fun k => if k = t/\0<=l/\l < 258 then c.o k + 1 else c.o k,N := fun q => c.N q || decide (l = (q : Nat)) }
def start (c : ClkM) : ClkM := { c with now := c.now + 1,clos := c.now,o := fun _ => 0,N := fun _ => false,L := c.N }
def aal (c : ClkM) (k : Nat) : ClkM := { c with L := fun q => if q = k then false else c.L q }
def fin (c : ClkM) : ClkM := { c with dur := c.clos,clos := 0 }
end ClkM
def aam (t : Nat) (d : Int) : ClkM := ⟨t,d + 1,d,0,fun _ => 0,fun _ => false,fun _ => false⟩
structure VP where
 c : ClkM
 t : Nat
 l : Int
def EN : Ctr := det ClkM (fun _ => [.ptr 0 0]) 2 (fun c => c.os 0) (fun c => Hd (c.ok/\c.clos = 0)) (fun _ => i64 0) 2 (fun c => c.start.os 1)
structure oZ where
 c : ClkM
 d : DevM
namespace oZ
def ok (x : oZ) : Prop := x.c.ok/\x.d.ok/\x.c.clos ≠ 0/\1 < x.d.n
noncomputable def os (x : oZ) (ph : Nat) : List bZ := x.c.os ph ++ [x.d.dev 3,x.d.cells]
end oZ
def Ia (a : Int) : AV := .tup [i64 a,i64 0]
noncomputable def EO : Ctr := { X := oZ,args := fun _ => [.ptr 0 0,.ptr 2 0],k := 4,os := fun x => x.os 1,pre := fun x => Hd x.ok,outs := [
 { Y := Nat,post := fun x k => Hd (k < 258/\x.c.L k = true/\∀ j,j < k->x.c.L j = false),ret := fun _ _ => Ia 1,m := 4,os := fun x k => oZ.os ⟨x.c.aal k,x.d.flush k⟩ 1 },
 { Y := Unit,post := fun x _ => Hd (∀ j,j < 258->x.c.L j = false),ret := fun _ _ => Ia 2,m := 4,os := fun x _ => oZ.os ⟨x.c,x.d.fence⟩ 2 }] }
def agW (x : oZ) : FuncId->vK := fun f =>
 bif Nat.beq f 57 then (fun b fr h => bif Nat.beq b 0 then [{ σ := Nat,fr := fun k => [(11,i64 k)],ob := fun _ => [],inv := fun k => Hd (k<=258/\∀ j,j < k->x.c.L j = false),meas := fun k => 258 - k }] else []) else
 fun _ _ _ => []
noncomputable def EP : Ctr := det oZ (fun _ => [.ptr 0 0,.ptr 2 0]) 4 (fun x => x.os 2) (fun x => Hd x.ok) (fun _ => Ia 3) 4 (fun x => oZ.os ⟨x.c,x.d.store 1 0 64 (iK x.c.clos)⟩ 3)
noncomputable def ER : Ctr := det oZ (fun _ => [.ptr 0 0,.ptr 2 0]) 4 (fun x => x.os 3) (fun x => Hd x.ok) (fun _ => Ia 1) 4 (fun x => oZ.os ⟨x.c,x.d.flush 1⟩ 4)
noncomputable def ES : Ctr := det oZ (fun _ => [.ptr 0 0,.ptr 2 0]) 4 (fun x => x.os 4) (fun x => Hd x.ok) (fun _ => Ia 2) 4 (fun x => oZ.os ⟨x.c.fin,x.d.fence⟩ 0)
noncomputable def arf : WTbl := qO ++ [(105,ctrT Ba),(106,ctrT Bc),(62,ctrT Bd),(150,ctrT A8)]
theorem Nk : fA Tryz.prog arf := .append eG (.cons (bM aai) (.cons (bM aaj) (.cons (bM aak) (.cons (bM Z9) .nil))))
end Go.Proofs.YtenfleoejgjklaaGreat
end
section
namespace Go.Proofs.YtenfleoejgjklaaGreat
open Go SE
def kV (a : Nat) : Prop := 0 = 0/\a = a/\a = a
def rE (a : ClkM) : Prop := a.now = a.now/\a.dur = a.dur/\a.clos = a.clos/\kV a.t/\True
def vS (a : ClkM) : Prop := a.t = a.t/\∀ q : Nat,q < a.t->[Value.int .i64 (a.o q)] = [Value.int .i64 (a.o q)]
def Bg : Prop := Value.nilFunc = Value.nilFunc/\True
def uJ (a : ClkM) : Prop := 258 = 258/\∀ q : Nat,q < 258->[Value.bool (a.L q)] = [Value.bool (a.L q)]
def alI (a : VP) : Prop := (rE a.c/\(258 = 258/\∀ q : Nat,q < 258->[Value.bool (Bool.or (a.c.N q) (decide (a.l = (q : Int))))] = [Value.bool (a.c.N q)])/\uJ a.c/\Bg)/\(a.c.t = a.c.t/\∀ q : Nat,q < a.c.t->[Value.int .i64 (ite (q = a.t/\0<=a.l/\a.l < 258) (a.c.o q + 1) (a.c.o q))] = [Value.int .i64 (a.c.o q)])/\True
def pW (a : ClkM) : Prop := 258 = 258/\∀ q : Nat,q < 258->[Value.bool (a.N q)] = [Value.bool (a.N q)]
def Bh (a : DevM) (b : DevM) : Prop := a.ba = b.ba/\a.cu = b.cu/\True
def ET (a : DevM) (b : DevM) : Prop := a.fe = b.fe/\Bh a b
def JA (a : DevM) (b : DevM) : Prop := a.fl = b.fl/\ET a b
def JB (a : DevM) (b : DevM) : Prop := a.st = b.st/\JA a b
def qo (a : Nat) (b : Nat) : Prop := 0 = 0/\a = b/\a = b
def JC (a : DevM) (b : DevM) : Prop := a.n * 193 = b.n * 193/\∀ q : Nat,q < a.n * 193->Cs.eff (gV a) [] q = Cs.eff (gV b) [] q
def Xh (a : DevM) (b : DevM) : Prop := (qo a.n b.n/\JB a b)/\JC a b/\True
def nM : Prop := (0 = 0/\True)/\True
def aan : Prop := (@Fn.func (57 : @FuncId) = @Fn.func (57 : @FuncId)/\nM)/\True
def JF (a : DevM) : Prop := a.ba = a.ba/\a.cu = a.cu/\True
def EU (a : DevM) : Prop := a.fe = a.fe/\JF a
def agX (a : oZ) : Prop := (a.d.n * 193 = a.d.n * 193/\∀ q : Nat,q < a.d.n * 193->Cs.eff (gV a.d) [] q = Cs.eff (gV a.d) [] q)/\(kV a.d.n/\a.d.st = a.d.st/\a.d.fl = a.d.fl/\EU a.d)/\vS a.c/\(rE a.c/\pW a.c/\uJ a.c/\aan)/\True
def aao (a : oZ) : Prop := vS a.c/\(kV a.d.n/\a.d.st = a.d.st/\a.d.fl = a.d.fl/\a.d.fe + 1 = a.d.fe/\JF a.d)/\(a.d.n * 193 = a.d.n * 193/\∀ q : Nat,q < a.d.n * 193->Cs.eff (gV a.d.fence) [] q = Cs.eff (gV a.d) [] q)/\True
def aap (a : oZ) (b : DevM) : Prop := vS a.c/\(qo a.d.n b.n/\a.d.st = b.st/\a.d.fl = b.fl/\a.d.fe + 1 = b.fe + 1/\Bh a.d b)/\(a.d.n * 193 = b.n * 193/\∀ q : Nat,q < a.d.n * 193->Cs.eff (gV a.d.fence) [] q = Cs.eff (gV b.fence) [] q)/\True
def JG : Prop := 258 = 258/\∀ q : Nat,q < 258->[Value.bool false] = [Value.bool false]
def aaq (a : Nat) (b : ClkM) : Prop := Hd (a < 258/\b.L a = true/\∀ j : Nat,j < a->b.L j = false)
def aar : Prop := ∃ y : Unit,True/\(False/\(0 : Int) = 2/\True)/\False/\False/\True
def yj : Prop := (0 : Int) = 12/\True
def agY (p : Nat × Int) : Prop :=
 cP (decide ((p.1 : Int) < 1)) aar (cP (decide ((p.1 : Int) > (4 : Int))) aar (cP (decide (p.2 > (1152921504606846976 : Int))) (∃ y : Unit,True/\(False/\(0 : Int) = 10/\True)/\False/\False/\True) ((0<=(p.1 : Int)/\(p.1 : Int)<=(p.1 : Int)/\8 * (p.1 : Int)<=281474976710656/\(p.1 : Int) < 4611686018427387904)/\∃ y : Unit,True/\(0 = 0/\(0 : Int) = 0/\True)/\((p.2 + 1 = IntKind.wrap .u64 (p.2 + 1)/\p.2 = p.2/\(0 : Int) = 0/\(0 = 0/\p.1 = p.1/\p.1 = p.1)/\True)/\JG/\JG/\Bg)/\(p.1 = p.1/\∀ q : Nat,q < p.1->[Value.int .i64 0] = [Value.int .i64 0])/\True)))
def anB (x : VP) : Prop :=
 cP (decide ((x.t : Int) ≥ (x.c.t : Int))) (∃ y : Unit,True/\ite (0<=x.l/\x.l < 258) (0 : Int) (2 : Int) = 1/\alI x) (cP (decide (x.l < 0)) (∃ y : Unit,True/\ite (0<=x.l/\x.l < 258) (0 : Int) (2 : Int) = 2/\alI x) (cP (decide (x.l ≥ (258 : Int))) (∃ y : Unit,True/\ite (0<=x.l/\x.l < 258) (0 : Int) (2 : Int) = 2/\alI x) ((0<=(x.t : Int)/\(x.t : Int) < (x.c.t : Int))/\0 + x.t < x.c.t/\I64 (x.c.o (0 + x.t) + 1)/\(0<=(x.t : Int)/\(x.t : Int) < (x.c.t : Int))/\0 + x.t < x.c.t/\(0<=x.l/\x.l < 258)/\Int.toNat x.l < 258/\∃ y : Unit,True/\ite (0<=x.l/\x.l < 258) (0 : Int) (2 : Int) = 0/\(rE x.c/\(258 = 258/\∀ q : Nat,q < 258->[Value.bool (Bool.or (x.c.N q) (decide (x.l = (q : Int))))] = Cs.eff (fun (k : Nat) => [Value.bool (x.c.N k)]) [(Int.toNat x.l,[Value.bool true])] q)/\uJ x.c/\Bg)/\(x.c.t = x.c.t/\∀ q : Nat,q < x.c.t->[Value.int .i64 (ite (q = x.t/\0<=x.l/\x.l < 258) (x.c.o q + 1) (x.c.o q))] = Cs.eff (fun (k : Nat) => [Value.int .i64 (x.c.o k)]) [(0 + x.t,[Value.int .i64 (x.c.o (0 + x.t) + 1)])] q)/\True)))
def Xi (c : ClkM) : Prop :=
 cP (decide (c.clos = 0)) ((∀ k : Nat,k < 258->(Nat.beq (List.length [Value.bool (c.N k)]) 1 && List.all [Value.bool (c.N k)] Value.oneCell') = true)/\(∀ k : Nat,k < 258->(Nat.beq (List.length [Value.bool false]) 1 && List.all [Value.bool false] Value.oneCell') = true)/\0 + c.t<=c.t/\∃ y : Unit,True/\(0 : Int) = 0/\((c.now + 1 = IntKind.wrap .u64 (c.now + 1)/\c.dur = c.dur/\c.now = c.now/\kV c.t/\True)/\JG/\pW c/\(@Fn.func (57 : @FuncId) = @Fn.func 57/\nM)/\True)/\(c.t = c.t/\∀ q : Nat,q < c.t->[Value.int .i64 0] = Cs.eff (fun (p : Nat) => cond (Nat.ble 0 p && Nat.blt p (0 + c.t)) [Value.int .i64 0] [Value.int .i64 (c.o p)]) [] q)/\True) (∃ y : Unit,True/\(0 : Int) = 7/\((c.now + 1 = c.now/\c.dur = c.dur/\c.now = c.clos/\kV c.t/\True)/\(258 = 258/\∀ q : Nat,q < 258->[Value.bool false] = [Value.bool (c.N q)])/\(258 = 258/\∀ q : Nat,q < 258->[Value.bool (c.N q)] = [Value.bool (c.L q)])/\False/\True)/\(c.t = c.t/\∀ q : Nat,q < c.t->[Value.int .i64 0] = [Value.int .i64 (c.o q)])/\True)
theorem adQ (c : ClkM) : Xi c = wpF Tryz.prog qO tt (fun _ _ _ _ => []) 200 5 23 (EN.args c) (hO EN.k (EN.os c)) (fun v h' => eH EN.k c v h' EN.outs) := by kernel_rfl
def Xj (x : oZ) : Prop :=
 cP (BEq.beq x.c.clos (0 : Int)) ((∃ y : Nat,aaq y x.c/\((1 : Int) = 0/\yj)/\(rE x.c/\pW x.c/\(258 = 258/\∀ q : Nat,q < 258->[Value.bool (ite (q = y) false (x.c.L q))] = [Value.bool (x.c.L q)])/\aan)/\vS x.c/\(kV x.d.n/\x.d.st = x.d.st/\ite (y < x.d.n) (x.d.fl + 1) x.d.fl = x.d.fl/\EU x.d)/\(x.d.n * 193 = x.d.n * 193/\∀ q : Nat,q < x.d.n * 193->Cs.eff (gV (x.d.flush y)) [] q = Cs.eff (gV x.d) [] q)/\True) ∨ ∃ y : Unit,Hd (∀ j : Nat,j < 258->x.c.L j = false)/\((2 : Int) = 0/\yj)/\(rE x.c/\pW x.c/\uJ x.c/\(@Fn.func (107 : @FuncId) = @Fn.func (57 : @FuncId)/\nM)/\True)/\aao x) ((∃ s : Nat,Hd (s<=258/\∀ j : Nat,j < s->x.c.L j = false)/\True/\((s : Int) = 0/\True)/\agX x)/\(∀ s : Nat,Hd (s<=258/\∀ j : Nat,j < s->x.c.L j = false)->cP (decide ((s : Int) < 258)) ((0<=(s : Int)/\(s : Int) < 258)/\s < 258/\∃ b : Bool,some (Value.bool (x.c.L s)) = some (Value.bool b)/\cP b ((0<=(s : Int)/\(s : Int) < 258)/\s < 258/\∃ x_1 : RH,Hd (x_1.d.ok/\x_1.k < 258)/\(0 = 0/\(x_1.k : Int) = (s : Int)/\True)/\Xh x_1.d x.d/\∀ y : Unit,True->(∃ y_1 : Nat,aaq y_1 x.c/\((1 : Int) = 1/\(0 : Int) = 0/\True)/\(rE x.c/\pW x.c/\(258 = 258/\∀ q : Nat,q < 258->[Value.bool (ite (q = y_1) false (x.c.L q))] = Cs.eff (fun (k : Nat) => [Value.bool (x.c.L k)]) [(s,[Value.bool false])] q)/\aan)/\vS x.c/\(qo x.d.n x_1.d.n/\x.d.st = x_1.d.st/\ite (y_1 < x.d.n) (x.d.fl + 1) x.d.fl = ite (x_1.k < x_1.d.n) (x_1.d.fl + 1) x_1.d.fl/\ET x.d x_1.d)/\(x.d.n * 193 = x_1.d.n * 193/\∀ q : Nat,q < x.d.n * 193->Cs.eff (gV (x.d.flush y_1)) [] q = Cs.eff (gV (x_1.d.flush x_1.k)) [] q)/\True) ∨ ∃ y_1 : Unit,Hd (∀ j : Nat,j < 258->x.c.L j = false)/\
 ((2 : Int) = 1/\(0 : Int) = 0/\True)/\(rE x.c/\pW x.c/\(258 = 258/\∀ q : Nat,q < 258->[Value.bool (x.c.L q)] = Cs.eff (fun (k : Nat) => [Value.bool (x.c.L k)]) [(s,[Value.bool false])] q)/\(@Fn.func (107 : @FuncId) = @Fn.func (57 : @FuncId)/\nM)/\True)/\vS x.c/\(qo x.d.n x_1.d.n/\x.d.st = x_1.d.st/\x.d.fl = ite (x_1.k < x_1.d.n) (x_1.d.fl + 1) x_1.d.fl/\x.d.fe + 1 = x_1.d.fe/\Bh x.d x_1.d)/\(x.d.n * 193 = x_1.d.n * 193/\∀ q : Nat,q < x.d.n * 193->Cs.eff (gV x.d.fence) [] q = Cs.eff (gV (x_1.d.flush x_1.k)) [] q)/\True) (I64 ((s : Int) + 1)/\∃ s_1 : Nat,Hd (s_1<=258/\∀ j : Nat,j < s_1->x.c.L j = false)/\258 - s_1 < 258 - s/\((s_1 : Int) = (s : Int) + 1/\True)/\agX x)) (∃ x_1 : DevM,Hd x_1.ok/\(0 = 0/\True)/\Xh x_1 x.d/\∀ y : Unit,True->(∃ y_1 : Nat,aaq y_1 x.c/\((1 : Int) = 2/\(0 : Int) = 0/\True)/\(rE x.c/\pW x.c/\(258 = 258/\∀ q : Nat,q < 258->[Value.bool (ite (q = y_1) false (x.c.L q))] = [Value.bool (x.c.L q)])/\(@Fn.func (57 : @FuncId) = @Fn.func 107/\nM)/\True)/\vS x.c/\(qo x.d.n x_1.n/\x.d.st = x_1.st/\ite (y_1 < x.d.n) (x.d.fl + 1) x.d.fl = x_1.fl/\x.d.fe = x_1.fe + 1/\Bh x.d x_1)/\(x.d.n * 193 = x_1.n * 193/\∀ q : Nat,q < x.d.n * 193->Cs.eff (gV (x.d.flush y_1)) [] q = Cs.eff (gV x_1.fence) [] q)/\True) ∨ ∃ y_1 : Unit,Hd (∀ j : Nat,j < 258->x.c.L j = false)/\((2 : Int) = 2/\(0 : Int) = 0/\True)/\(rE x.c/\pW x.c/\uJ x.c/\(@Fn.func (107 : @FuncId) = @Fn.func 107/\nM)/\True)/\aap x x_1))/\True)
theorem adR (x : oZ) : Xj x = wpF Tryz.prog arf tt (agW x) 200 5 24 (EO.args x) (hO EO.k (EO.os x)) (fun v h' => eH EO.k x v h' EO.outs) := by kernel_rfl
def Xk (x : oZ) : Prop :=
 cP (BEq.beq x.c.clos (0 : Int)) (∃ y : Unit,True/\((3 : Int) = 0/\yj)/\(rE x.c/\pW x.c/\uJ x.c/\(@Fn.func (165 : @FuncId) = @Fn.func (107 : @FuncId)/\nM)/\True)/\vS x.c/\(kV x.d.n/\x.d.st + 1 = x.d.st/\x.d.fl = x.d.fl/\EU x.d)/\(x.d.n * 193 = x.d.n * 193/\∀ q : Nat,q < x.d.n * 193->Cs.eff (gV (x.d.store 1 0 64 (iK x.c.clos))) [] q = Cs.eff (gV x.d) [] q)/\True) (∃ x_1 : Int,Hd (0<=x_1/\x_1 < 18446744073709551616)/\(x_1 = x.c.clos/\True)/\True/\∀ y : Unit,True->∃ x_2 : nD,Hd (x_2.d.ok/\x_2.k < x_2.d.n/\x_2.b.ok/\x_2.a + x_2.b.n<=64)/\(0 = 0/\(x_2.k : Int) = 1/\(x_2.a : Int) = 0/\(x_2.b.q = 0/\x_2.b.n = 64)/\True)/\((qo x_2.d.n x.d.n/\JB x_2.d x.d)/\JC x_2.d x.d/\(x_2.b.N = 64/\∀ q : Nat,q < x_2.b.N->[Value.int .u8 (x_2.b.g q)] = [Value.int .u8 (iK x_1 q)])/\True)/\∀ y_1 : Unit,True->∃ y_2 : Unit,True/\((3 : Int) = 3/\(0 : Int) = 0/\True)/\(rE x.c/\pW x.c/\uJ x.c/\(@Fn.func (165 : @FuncId) = @Fn.func 165/\nM)/\True)/\vS x.c/\(qo x.d.n x_2.d.n/\x.d.st + 1 = x_2.d.st + 1/\JA x.d x_2.d)/\(x.d.n * 193 = x_2.d.n * 193/\∀ q : Nat,q < x.d.n * 193->Cs.eff (gV (x.d.store 1 0 64 (iK x.c.clos))) [] q = Cs.eff (gV (x_2.d.store x_2.k x_2.a x_2.b.n (fun (q_1 : Nat) => x_2.b.g (x_2.b.q + q_1)))) [] q)/\True)
theorem adS (x : oZ) : Xk x = wpF Tryz.prog arf tt (fun _ _ _ _ => []) 200 5 24 (EP.args x) (hO EP.k (EP.os x)) (fun v h' => eH EP.k x v h' EP.outs) := by kernel_rfl
def Xl (x : oZ) : Prop :=
 cP (BEq.beq x.c.clos (0 : Int)) (∃ y : Unit,True/\((1 : Int) = 0/\yj)/\(rE x.c/\pW x.c/\uJ x.c/\(@Fn.func (212 : @FuncId) = @Fn.func (165 : @FuncId)/\nM)/\True)/\vS x.c/\(kV x.d.n/\x.d.st = x.d.st/\ite (1 < x.d.n) (x.d.fl + 1) x.d.fl = x.d.fl/\EU x.d)/\(x.d.n * 193 = x.d.n * 193/\∀ q : Nat,q < x.d.n * 193->Cs.eff (gV (x.d.flush 1)) [] q = Cs.eff (gV x.d) [] q)/\True) (∃ x_1 : RH,Hd (x_1.d.ok/\x_1.k < 258)/\(0 = 0/\(x_1.k : Int) = 1/\True)/\Xh x_1.d x.d/\∀ y : Unit,True->∃ y_1 : Unit,True/\((1 : Int) = 1/\(0 : Int) = 0/\True)/\(rE x.c/\pW x.c/\uJ x.c/\(@Fn.func (212 : @FuncId) = @Fn.func 212/\nM)/\True)/\vS x.c/\(qo x.d.n x_1.d.n/\x.d.st = x_1.d.st/\ite (1 < x.d.n) (x.d.fl + 1) x.d.fl = ite (x_1.k < x_1.d.n) (x_1.d.fl + 1) x_1.d.fl/\ET x.d x_1.d)/\(x.d.n * 193 = x_1.d.n * 193/\∀ q : Nat,q < x.d.n * 193->Cs.eff (gV (x.d.flush 1)) [] q = Cs.eff (gV (x_1.d.flush x_1.k)) [] q)/\True)
theorem adT (x : oZ) : Xl x = wpF Tryz.prog arf tt (fun _ _ _ _ => []) 200 5 24 (ER.args x) (hO ER.k (ER.os x)) (fun v h' => eH ER.k x v h' ER.outs) := by kernel_rfl
def Xm (x : oZ) : Prop :=
 cP (BEq.beq x.c.clos (0 : Int)) (∃ y : Unit,True/\((2 : Int) = 0/\yj)/\((x.c.now = x.c.now/\x.c.clos = x.c.dur/\0 = x.c.clos/\kV x.c.t/\True)/\pW x.c/\uJ x.c/\False/\True)/\aao x) (∃ x_1 : DevM,Hd x_1.ok/\(0 = 0/\True)/\Xh x_1 x.d/\∀ y : Unit,True->True/\True/\∃ y_1 : Unit,True/\((2 : Int) = 2/\(0 : Int) = 0/\True)/\((x.c.now = x.c.now/\x.c.clos = x.c.clos/\(0 : Int) = 0/\kV x.c.t/\True)/\pW x.c/\uJ x.c/\Bg)/\aap x x_1)
theorem adU (x : oZ) : Xm x = wpF Tryz.prog arf tt (fun _ _ _ _ => []) 200 5 24 (ES.args x) (hO ES.k (ES.os x)) (fun v h' => eH ES.k x v h' ES.outs) := by kernel_rfl
end Go.Proofs.YtenfleoejgjklaaGreat
end
section
namespace Go.Proofs.YtenfleoejgjklaaGreat
open Go SE
set_option linter.unusedSimpArgs false
theorem Xn (p : Nat × Int) (hp : 1<=p.1/\p.1<=4/\0<=p.2/\p.2<=1152921504606846976) : agY p := by
 unfold agY
 simp only [aar,JG,Bg]
 simp only [aY,aU,aT,ay,aH,bI,bn,aN,aJ,au,aW,aV,bJ,bC,bD,bF,bK,bf,bG,aZ,dU,aG,aK,ah,aj,aA,aC,aB,aF]
 refine bg (fun h => absurd (aQ h) (by omega)) fun _ => bg (fun h => absurd (aQ h) (by omega)) fun _ => bg (fun h => absurd (aQ h) (by omega)) fun _ => ⟨by omega,?_⟩
 unfold IntKind.wrap; simp [IntKind.bits,IntKind.signed]; omega
theorem Xo (x : VP) (hx : x.c.ok/\x.t < x.c.t) : anB x := by
 obtain ⟨⟨h1,h2,h3,h4,h5,h6⟩,ht⟩ := hx
 have hs := h6 x.t
 unfold small at hs
 unfold anB
 simp only [alI,rE,uJ,Bg,kV]
 simp only [aY,aU,aT,ay,aH,bI,bn,aN,aJ,au,aW,aV,bJ,bC,bD,bF,bK,bf,bG,aZ,dU,aG,aK,ah,aj,aA,aC,aB,aF]
 refine bg (fun h => absurd (aQ h) (by omega)) fun _ => bg (fun h => ?_) fun h => bg (fun h2 => ?_) fun h2 => ?_
 ·have h := aQ h
  exact ⟨by rw [if_neg (by omega)],fun q hq => by simp; intro; omega,fun q hq => by rw [if_neg (by omega)]⟩
 ·have h := aQ h2
  exact ⟨by rw [if_neg (by omega)],fun q hq => by simp; intro; omega,fun q hq => by rw [if_neg (by omega)]⟩
 ·have h := aS h
  have h2 := aS h2
  have hl : 0<=x.l/\x.l < 258 := by omega
  refine ⟨by omega,by omega,by unfold I64; omega,by omega,by omega,hl,by omega,by rw [if_pos hl],fun q hq => ?_,fun q hq => ?_⟩
  ·simp only [Cs.eff,bV,dI,dJ,dY,← Bool.decide_and]
   by_cases e : q = x.l.toNat
   ·rw [if_pos e,show decide (x.l = (q : Int)) = true by simp; omega,Bool.or_true]
   ·rw [if_neg e,show decide (x.l = (q : Int)) = false by simp; omega,Bool.or_false]
  ·simp only [Cs.eff,bV,dI,dJ,dY,← Bool.decide_and]
   by_cases e : q = x.t
   ·subst e; rw [if_pos ⟨rfl,hl⟩,if_pos rfl]
   ·rw [if_neg (by omega),if_neg e]
theorem RP (c : ClkM) (hx : c.ok/\c.clos = 0) : Xi c := by
 obtain ⟨⟨h1,h2,h3,h4,h5,h6⟩,hc⟩ := hx
 unfold U64 at *
 unfold Xi
 simp only [kV,JG,pW,nM]
 simp only [aY,aU,aT,ay,aH,bI,bn,aN,aJ,au,aW,aV,bJ,bC,bD,bF,bK,bf,bG,aZ,dU,aG,aK,ah,aj,aA,aC,aB,aF]
 refine bg (fun h => ⟨by omega,?_,fun q hq => by rw [bQ.2 hq]; rfl⟩) fun h => absurd hc (aS h)
 unfold IntKind.wrap; simp [IntKind.bits,IntKind.signed]; omega
set_option maxRecDepth 8000 in
theorem RQ (x : oZ) (hx : x.ok) : Xj x := by
 obtain ⟨hc,hd,hz,hn⟩ := hx
 unfold Xj
 simp only [aaq,yj,rE,pW,aan,vS,kV,EU,uJ,nM,aao,agX,Xh,qo,ET,Bh,aap,JB,JC,JA,JF]
 simp only [aY,aU,aT,ay,aH,bI,bn,aN,aJ,au,aW,aV,bJ,bC,bD,bF,bK,bf,bG,aZ,dU,aG,aK,ah,aj,aA,aC,aB,aF]
 refine bg (fun h => absurd (by simpa using h) hz) fun _ => ⟨⟨0,⟨Nat.zero_le _,fun j hj => absurd hj (Nat.not_lt_zero j)⟩,Int.natCast_zero⟩,fun s hs => bg (fun h => ?_) fun h => ?_⟩
 ·have h := aQ h
  refine ⟨by omega,by omega,bg (fun hl => ?_) fun hl => ?_⟩
  ·refine ⟨by omega,by omega,⟨x.d,s⟩,⟨hd,(show s < 258 by omega)⟩,rfl,⟨⟨rfl,rfl,rfl,rfl,rfl,rfl⟩,rfl,fun _ _ => rfl⟩,.inl ⟨s,⟨by omega,hl,hs.2⟩,fun q hq => ?_,⟨rfl,rfl,rfl,rfl,rfl,rfl⟩,rfl,fun _ _ => rfl⟩⟩
   simp only [Cs.eff,bV,dI,dJ,dY,← Bool.decide_and]
   by_cases e : q = s
   ·rw [if_pos e,if_pos e]
   ·rw [if_neg e,if_neg e]
  ·refine ⟨by unfold I64; omega,s + 1,⟨by omega,fun j hj => ?_⟩,by omega,by omega⟩
   by_cases e : j = s
   ·subst e; exact hl
   ·exact hs.2 j (by omega)
 ·have h := aS h
  have : s = 258 := by omega
  subst this
  exact ⟨x.d,hd,⟨⟨rfl,rfl,rfl,rfl,rfl,rfl⟩,rfl,fun _ _ => rfl⟩,.inr ⟨hs.2,⟨rfl,rfl,rfl,rfl,rfl,rfl⟩,rfl,fun _ _ => rfl⟩⟩
theorem yu (v : Int) (k : Nat) : 0<=iK v k/\iK v k < 256 := by
 unfold iK adE
 split
 ·split
  ·omega
  ·exact lU _ _
 ·split
  ·exact lU _ _
  ·omega
theorem RS (x : oZ) (hx : x.ok) : Xk x := by
 obtain ⟨hc,hd,hz,hn⟩ := hx
 have hU := hc.2.2.2.2.1
 unfold U64 at hU
 unfold Xk
 simp only [yj,rE,pW,uJ,nM,vS,kV,EU,qo,JB,JC,JA,ET,Bh,JF]
 simp only [aY,aU,aT,ay,aH,bI,bn,aN,aJ,au,aW,aV,bJ,bC,bD,bF,bK,bf,bG,aZ,dU,aG,aK,ah,aj,aA,aC,aB,aF]
 refine bg (fun h => absurd (by simpa using h) hz) fun _ => ⟨x.c.clos,by omega,rfl,⟨x.d,1,0,⟨iK x.c.clos,0,64,64⟩⟩,⟨hd,hn,⟨by simp,by simp,yu _⟩,by simp⟩,⟨rfl,rfl,rfl,rfl⟩,⟨⟨rfl,rfl,rfl,rfl,rfl,rfl⟩,⟨rfl,fun _ _ => rfl⟩,rfl,fun _ _ => rfl⟩,⟨rfl,rfl,rfl,rfl,rfl,rfl⟩,rfl,fun q _ => ?_⟩
 simp only [ay]
theorem RU (x : oZ) (hx : x.ok) : Xl x := by
 obtain ⟨hc,hd,hz,hn⟩ := hx
 unfold Xl
 simp only [yj,rE,pW,uJ,nM,vS,kV,EU,Xh,qo,ET,Bh,JB,JC,JA,JF]
 simp only [aY,aU,aT,ay,aH,bI,bn,aN,aJ,au,aW,aV,bJ,bC,bD,bF,bK,bf,bG,aZ,dU,aG,aK,ah,aj,aA,aC,aB,aF]
 exact bg (fun h => absurd (by simpa using h) hz) fun _ => ⟨⟨x.d,1⟩,⟨hd,(show 1 < 258 by omega)⟩,rfl,⟨⟨rfl,rfl,rfl,rfl,rfl,rfl⟩,rfl,fun _ _ => rfl⟩,⟨rfl,rfl,rfl,rfl,rfl,rfl⟩,rfl,fun _ _ => rfl⟩
theorem RV (x : oZ) (hx : x.ok) : Xm x := by
 obtain ⟨hc,hd,hz,hn⟩ := hx
 unfold Xm
 simp only [yj,kV,pW,uJ,aao,Xh,Bg,aap,vS,qo,Bh,JB,JC,JA,ET,JF]
 simp only [aY,aU,aT,ay,aH,bI,bn,aN,aJ,au,aW,aV,bJ,bC,bD,bF,bK,bf,bG,aZ,dU,aG,aK,ah,aj,aA,aC,aB,aF]
 exact bg (fun h => absurd (by simpa using h) hz) fun _ => ⟨x.d,hd,⟨⟨rfl,rfl,rfl,rfl,rfl,rfl⟩,rfl,fun _ _ => rfl⟩,⟨rfl,rfl,rfl,rfl,rfl,rfl⟩,rfl,fun _ _ => rfl⟩
theorem alJ : bU Tryz.prog 23 EN := dR dD mixed eG (fun _ _ _ _ _ => []) 200 5 (fun _ => rfl) (fun _ => rfl) fun x hx => Eq.mp (adQ x) (RP x (aY.1 hx))
theorem alK : bU Tryz.prog 24 EO := fZ dD mixed Nk agW 200 5 (fun _ => rfl) (fun _ => ⟨fun _ => rfl,fun _ => rfl,trivial⟩) fun x hx => Eq.mp (adR x) (RQ x (aY.1 hx))
theorem alL : bU Tryz.prog 24 EP := dR dD mixed Nk (fun _ _ _ _ _ => []) 200 5 (fun _ => rfl) (fun _ => rfl) fun x hx => Eq.mp (adS x) (RS x (aY.1 hx))
theorem alM : bU Tryz.prog 24 ER := dR dD mixed Nk (fun _ _ _ _ _ => []) 200 5 (fun _ => rfl) (fun _ => rfl) fun x hx => Eq.mp (adT x) (RU x (aY.1 hx))
theorem alN : bU Tryz.prog 24 ES := dR dD mixed Nk (fun _ _ _ _ _ => []) 200 5 (fun _ => rfl) (fun _ => rfl) fun x hx => Eq.mp (adU x) (RV x (aY.1 hx))
end Go.Proofs.YtenfleoejgjklaaGreat
end
section
namespace Go.Proofs.YtenfleoejgjklaaGreat
open Go SE
theorem kP {x y : Prop} : cP true x y = x := rfl
theorem iR {x y : Prop} : cP false x y = y := rfl
def noA {X : Type} : X->FuncId->vK := fun _ _ _ _ _ => []
def boo (b : Bool) : AV := .lit (.bool b)
def fJ : AV := .lit (.slice none 0 0)
def lV (X : Type) (args : X->List AV) (k : Nat) (l : X->List PO) (pre : X->Prop) (ret : X->AV) (m : Nat) (l' : X->List PO) : jd :=
 { X := X,args := args,k := k,l := l,pre := pre,outs := [{ Y := Unit,post := fun _ _ => True,ret := fun x _ => ret x,m := m,l := fun x _ => l' x }] }
def spn (c : Int) : Int := if c = 0 then 1 else if c = 1 then 2 else if c = 2 then 4 else if c = 3 then 8 else 0
def cpc (c : Int) : Int := if c = 0 then 28 else if c = 1 then 91 else if c = 2 then 217 else if c = 3 then 469 else 0
def ned (n : Int) : Int := if n < 0 then -1 else if n<=28 then 0 else if n<=91 then 1 else if n<=217 then 2 else if n<=469 then 3 else -1
def yw : Ctr := det Int (fun c => [i64 c]) 0 (fun _ => []) (fun _ => True) (fun c => i64 (spn c)) 0 (fun _ => [])
def anC : Ctr := det Int (fun c => [i64 c]) 0 (fun _ => []) (fun _ => True) (fun c => i64 (cpc c)) 0 (fun _ => [])
def Xp : Ctr := det Int (fun c => [i64 c]) 0 (fun _ => []) (fun _ => True) (fun c => i64 (ned c)) 0 (fun _ => [])
def slb (l : Int) : Int := if l < 2 ∨ 258<=l then -1 else (l - 2) / 8
def RX : Ctr := det Int (fun k => [i64 k]) 0 (fun _ => []) (fun _ => True) (fun k => i64 (if k < 0 ∨ 32<=k then -1 else 2 + k * 8)) 0 (fun _ => [])
def vT : Ctr := det Int (fun k => [i64 k]) 0 (fun _ => []) (fun _ => True) (fun k => i64 (slb k)) 0 (fun _ => [])
structure vU where
 k : Nat
 c : Int
def agZ (x : vU) (n : Nat) : Cs := .row 1 n (fun i => [.int .i64 (2 + x.k * 8 + i * spn x.c)]) []
def vV : Ctr := { X := vU,args := fun x => [i64 x.k,i64 x.c],k := 0,os := fun _ => [],pre := fun x => Hd (x.k < 32),outs := [
 { Y := Unit,post := fun x _ => Hd (spn x.c = 0),ret := fun _ _ => fJ,m := 0,os := fun _ _ => [] },
 { Y := Unit,post := fun x _ => Hd (spn x.c ≠ 0),ret := fun x _ => .slW 0 0 1 (8 / spn x.c).toNat,m := 1,os := fun x _ => [.room 3 (agZ x (8 / spn x.c).toNat)] }] }
def aas (x : vU) : FuncId->vK := fun f => bif Nat.beq f 73 then (fun b _ _ => bif Nat.beq b 0 then [
 { σ := Unit,fr := fun _ => [(21,i64 0),(7,fJ)],ob := fun _ => [],inv := fun _ => Hd (spn x.c ≠ 0),meas := fun _ => 9,test := fun fr _ => (match SE.look fr 7 with | .lit _ => true | _ => false) },
 { σ := Nat,fr := fun i => [(21,i64 i),(7,.slW 0 0 1 i)],ob := fun i => [(0,some (.room 3 (agZ x i)))],inv := fun i => Hd (spn x.c ≠ 0/\1<=i/\i<=(8 / spn x.c).toNat),meas := fun i => 8 - i,nx := 1,test := fun fr _ => (match SE.look fr 7 with | .lit _ => false | _ => true) }] else []) else fun _ _ _ => []
structure ag0 where
 g : Nat->Int
 n : Nat
 v : Int
def ag0.os (x : ag0) : List bZ := [.room 3 (.row 1 x.n (fun i => [.int .i64 (x.g i)]) [])]
def aoX : Ctr := { X := ag0,args := fun x => [.slW 0 0 1 x.n,i64 x.v],k := 1,os := ag0.os,pre := fun x => Hd (x.n < 1000),outs := [
 { Y := Nat,post := fun x i => Hd (i < x.n/\x.g i = x.v/\∀ j,j < i->x.g j ≠ x.v),ret := fun _ i => i64 i,m := 1,os := fun x _ => x.os },
 { Y := Unit,post := fun x _ => Hd (∀ j,j < x.n->x.g j ≠ x.v),ret := fun _ _ => i64 (-1),m := 1,os := fun x _ => x.os }] }
def arh (x : ag0) : FuncId->vK := fun f => bif Nat.beq f 173 then (fun b _ _ => bif Nat.beq b 0 then [
 { σ := Nat,fr := fun i => [(8,i64 i)],ob := fun _ => [],inv := fun i => Hd (i<=x.n/\∀ j,j < i->x.g j ≠ x.v),meas := fun i => x.n - i }] else []) else fun _ _ _ => []
def alO : WTbl := [(113,ctrT yw)]
def tblS2 : WTbl := [(115,ctrT anC)]
def tblS3 : WTbl := [(113,ctrT yw),(131,ctrT RX)]
end Go.Proofs.YtenfleoejgjklaaGreat
end
section
namespace Go.Proofs.YtenfleoejgjklaaGreat
open Go SE
def Xq (a : ag0) : Prop := (a.n = a.n/\∀ q : Nat,q < a.n->[Value.int .i64 (a.g q)] = [Value.int .i64 (a.g q)])/\True
def aoY : Prop := Value.slice none 0 0 = Value.slice none 0 0/\True
def alP (a : Int) : Prop := (∃ y_2 : Unit,Hd (spn a = 0)/\aoY) ∨ ∃ y_2 : Unit,Hd (spn a ≠ (0 : Int))/\False/\False/\True
def alQ (a : Int) (b : Nat) : Prop := Hd (spn a ≠ (0 : Int)/\1<=b/\b<=Int.toNat ((8 : Int) / spn a))
def aoZ (a : Int) : Prop := ∃ y : Unit,True/\ite (a < 0 ∨ 32<=a) (-(1 : Int)) (2 + a * 8) = (-(1 : Int))/\True
def ag1 (c : Int) : Prop :=
 cP (decide (c < 0)) (∃ y : Unit,True/\spn c = 0/\True) (cP (decide (c > (3 : Int))) (∃ y : Unit,True/\spn c = 0/\True) (0<=c/\∃ y : Unit,True/\spn c = IntKind.wrap .i64 (1 * @HPow.hPow Int Nat Int (@instHPow Int Nat (@instPowNat Int @Int.instNatPow)) (2 : Int) (@Min.min Nat @instMinNat (Int.toNat c) 64))/\True))
theorem ag2 (c : Int) : ag1 c = wpF Tryz.prog [] tt (noA c) 200 5 113 (yw.args c) (hO yw.k (yw.os c)) (fun v h' => eH yw.k c v h' yw.outs) := by kernel_rfl
def ao0 (c : Int) : Prop :=
 ∃ x : Int,True/\(x = c/\True)/\True/\∀ y : Unit,True->cP (decide (spn x > (0 : Int))) (I64 (spn x - 1)/\I64 ((spn x - 1) * 63)/\I64 (28 + (spn x - 1) * 63)/\∃ y_1 : Unit,True/\cpc c = 28 + (spn x - 1) * 63/\True) (∃ y_1 : Unit,True/\cpc c = 0/\True)
theorem alR (c : Int) : ao0 c = wpF Tryz.prog alO tt (noA c) 200 5 115 (anC.args c) (hO anC.k (anC.os c)) (fun v h' => eH anC.k c v h' anC.outs) := by kernel_rfl
def ag3 (c : Int) : Prop :=
 cP (decide (c < 0)) (∃ y : Unit,True/\ned c = (-(1 : Int))/\True) (∃ x : Int,True/\(x = 0/\True)/\True/\∀ y : Unit,True->cP (decide (cpc x ≥ c)) (∃ y_1 : Unit,True/\ned c = 0/\True) (I64 (1 : Int)/\∃ x_1 : Int,True/\(x_1 = 1/\True)/\True/\∀ y_1 : Unit,True->cP (decide (cpc x_1 ≥ c)) (∃ y_2 : Unit,True/\ned c = 1/\True) (I64 (2 : Int)/\∃ x_2 : Int,True/\(x_2 = 2/\True)/\True/\∀ y_2 : Unit,True->cP (decide (cpc x_2 ≥ c)) (∃ y_3 : Unit,True/\ned c = 2/\True) (I64 (3 : Int)/\∃ x_3 : Int,True/\(x_3 = 3/\True)/\True/\∀ y_3 : Unit,True->cP (decide (cpc x_3 ≥ c)) (∃ y_4 : Unit,True/\ned c = 3/\True) (I64 (4 : Int)/\∃ y_4 : Unit,True/\ned c = (-(1 : Int))/\True)))))
theorem ag4 (c : Int) : ag3 c = wpF Tryz.prog tblS2 tt (noA c) 200 5 201 (Xp.args c) (hO Xp.k (Xp.os c)) (fun v h' => eH Xp.k c v h' Xp.outs) := by kernel_rfl
def ag5 (c : Int) : Prop :=
 cP (decide (c < 0)) (aoZ c) (cP (decide (c ≥ (32 : Int))) (aoZ c) (I64 (c * 8)/\I64 (2 + c * 8)/\∃ y : Unit,True/\ite (c < 0 ∨ 32<=c) (-(1 : Int)) (2 + c * 8) = 2 + c * 8/\True))
theorem ag6 (c : Int) : ag5 c = wpF Tryz.prog [] tt (noA c) 200 5 131 (RX.args c) (hO RX.k (RX.os c)) (fun v h' => eH RX.k c v h' RX.outs) := by kernel_rfl
def Nl (c : Int) : Prop :=
 cP (decide (c < 2)) (∃ y : Unit,True/\slb c = (-(1 : Int))/\True) (cP (decide (c ≥ (258 : Int))) (∃ y : Unit,True/\slb c = (-(1 : Int))/\True) (I64 (c - 2)/\((8 : Int) = 0->False)/\I64 (Int.tdiv (c - 2) (8 : Int))/\∃ y : Unit,True/\slb c = Int.tdiv (c - 2) (8 : Int)/\True))
theorem Xr (c : Int) : Nl c = wpF Tryz.prog [] tt (noA c) 200 5 172 (vT.args c) (hO vT.k (vT.os c)) (fun v h' => eH vT.k c v h' vT.outs) := by kernel_rfl
def Np (x : vU) : Prop :=
 ∃ x_1 : Int,True/\(x_1 = x.c/\True)/\True/\∀ y : Unit,True->∃ x_2 : Int,True/\(x_2 = (x.k : Int)/\True)/\True/\∀ y_1 : Unit,True->cP (BEq.beq (spn x_1) (0 : Int)) (alP x.c) (cP (decide (ite (x_2 < 0 ∨ 32<=x_2) (-(1 : Int)) (2 + x_2 * 8) < 0)) (alP x.c) ((spn x_1 = 0->False)/\I64 (Int.tdiv (8 : Int) (spn x_1))/\(∃ s : Unit,Hd (spn x.c ≠ (0 : Int))/\True/\((0 : Int) = 0/\aoY)/\True)/\(∀ s : Unit,Hd (spn x.c ≠ (0 : Int))->cP (decide (0 < Int.tdiv (8 : Int) (spn x_1))) (I64 (0 * spn x_1)/\I64 (ite (x_2 < 0 ∨ 32<=x_2) (-(1 : Int)) (2 + x_2 * 8) + 0 * spn x_1)/\(2 * (0 + 1) + 1000) * 8<=281474976710656/\I64 (1 : Int)/\∃ s_1 : Nat,alQ x.c s_1/\8 - s_1 < 9/\((s_1 : Int) = 1/\(0 = 0/\s_1 = 1)/\True)/\(s_1 = 0 + List.length [List.take 1 [Value.int .i64 (ite (x_2 < 0 ∨ 32<=x_2) (-(1 : Int)) (2 + x_2 * 8) + 0 * spn x_1)]]/\∀ q : Nat,q < s_1->[Value.int .i64 (2 + (x.k : Int) * 8 + (q : Int) * spn x.c)] = Cs.eff (fun (x_3 : Nat) => []) [(0,List.take 1 [Value.int .i64 (ite (x_2 < 0 ∨ 32<=x_2) (-(1 : Int)) (2 + x_2 * 8) + 0 * spn x_1)])] q)/\True) (alP x.c))/\(∀ s : Nat,alQ x.c s->cP (decide ((s : Int) < Int.tdiv (8 : Int) (spn x_1))) (I64 ((s : Int) * spn x_1)/\I64 (ite (x_2 < 0 ∨ 32<=x_2) (-(1 : Int)) (2 + x_2 * 8) + (s : Int) * spn x_1)/\s = s/\List.all [List.take 1 [Value.int .i64 (ite (x_2 < 0 ∨ 32<=x_2) (-(1 : Int)) (2 + x_2 * 8) + (s : Int) * spn x_1)]] (fun (l : List Value) => Nat.beq (List.length l) 1 && List.all l Value.oneCell') = true/\(2 * (s + 1) + 1000) * 8<=281474976710656/\I64 ((s : Int) + 1)/\∃ s_1 : Nat,alQ x.c s_1/\8 - s_1 < 8 - s/\((s_1 : Int) = (s : Int) + 1/\(0 = 0/\s_1 = s + 1)/\True)/\
 (s_1 = s + List.length [List.take 1 [Value.int .i64 (ite (x_2 < 0 ∨ 32<=x_2) (-(1 : Int)) (2 + x_2 * 8) + (s : Int) * spn x_1)]]/\∀ q : Nat,q < s_1->[Value.int .i64 (2 + (x.k : Int) * 8 + (q : Int) * spn x.c)] = Cs.eff (fun (i : Nat) => [Value.int .i64 (2 + (x.k : Int) * 8 + (i : Int) * spn x.c)]) [(s,List.take 1 [Value.int .i64 (ite (x_2 < 0 ∨ 32<=x_2) (-(1 : Int)) (2 + x_2 * 8) + (s : Int) * spn x_1)])] q)/\True) ((∃ y_2 : Unit,Hd (spn x.c = 0)/\False/\True) ∨ ∃ y_2 : Unit,Hd (spn x.c ≠ (0 : Int))/\(0 = 0/\Int.toNat ((8 : Int) / spn x.c) = s)/\(Int.toNat ((8 : Int) / spn x.c) = s/\∀ q : Nat,q < Int.toNat ((8 : Int) / spn x.c)->[Value.int .i64 (2 + (x.k : Int) * 8 + (q : Int) * spn x.c)] = [Value.int .i64 (2 + (x.k : Int) * 8 + (q : Int) * spn x.c)])/\True))/\True))
theorem Xt (x : vU) : Np x = wpF Tryz.prog tblS3 tt (aas x) 200 5 73 (vV.args x) (hO vV.k (vV.os x)) (fun v h' => eH vV.k x v h' vV.outs) := by kernel_rfl
def ao1 (x : ag0) : Prop :=
 (∃ s : Nat,Hd (s<=x.n/\∀ j : Nat,j < s->x.g j ≠ x.v)/\True/\((s : Int) = 0/\True)/\Xq x)/\(∀ s : Nat,Hd (s<=x.n/\∀ j : Nat,j < s->x.g j ≠ x.v)->cP (decide ((s : Int) < (x.n : Int))) ((0<=(s : Int)/\(s : Int) < (x.n : Int))/\0 + s < x.n/\cP (BEq.beq x.v (x.g (0 + s))) ((∃ y : Nat,Hd (y < x.n/\x.g y = x.v/\∀ j : Nat,j < y->x.g j ≠ x.v)/\(y : Int) = (s : Int)/\Xq x) ∨ ∃ y : Unit,Hd (∀ j : Nat,j < x.n->x.g j ≠ x.v)/\(-(1 : Int)) = (s : Int)/\Xq x) (I64 ((s : Int) + 1)/\∃ s_1 : Nat,Hd (s_1<=x.n/\∀ j : Nat,j < s_1->x.g j ≠ x.v)/\x.n - s_1 < x.n - s/\((s_1 : Int) = (s : Int) + 1/\True)/\Xq x)) ((∃ y : Nat,Hd (y < x.n/\x.g y = x.v/\∀ j : Nat,j < y->x.g j ≠ x.v)/\(y : Int) = (-(1 : Int))/\Xq x) ∨ ∃ y : Unit,Hd (∀ j : Nat,j < x.n->x.g j ≠ x.v)/\(-(1 : Int)) = (-(1 : Int))/\Xq x))/\True
theorem alS (x : ag0) : ao1 x = wpF Tryz.prog [] tt (arh x) 200 5 173 (aoX.args x) (hO aoX.k (aoX.os x)) (fun v h' => eH aoX.k x v h' aoX.outs) := by kernel_rfl
end Go.Proofs.YtenfleoejgjklaaGreat
end
section
namespace Go.Proofs.YtenfleoejgjklaaGreat
open Go SE
set_option linter.unusedSimpArgs false
theorem dO (c : Int) : (c = 0/\spn c = 1/\cpc c = 28) ∨ (c = 1/\spn c = 2/\cpc c = 91) ∨ (c = 2/\spn c = 4/\cpc c = 217) ∨ (c = 3/\spn c = 8/\cpc c = 469) ∨ ((c < 0 ∨ 3 < c)/\spn c = 0/\cpc c = 0) := by
 by_cases h0 : c = 0
 ·subst h0; simp [spn,cpc]
 by_cases h1 : c = 1
 ·subst h1; simp [spn,cpc]
 by_cases h2 : c = 2
 ·subst h2; simp [spn,cpc]
 by_cases h3 : c = 3
 ·subst h3; simp [spn,cpc]
 simp [spn,cpc,h0,h1,h2,h3]; omega
theorem Xu (c : Int) : ag1 c := by
 unfold ag1
 simp only [aY,aU,aT,ay,aH,bI,bn,aN,aJ,au,aW,aV,bJ,bC,bD,bF,bK,bf,bG,aZ,dU,aG,aK,ah,aj,aA,aC,aB,aF,qm,decide_eq_true_eq,decide_eq_false_iff_not]
 refine ⟨fun h => ?_,fun h => ⟨fun h2 => ?_,fun h2 => ⟨by omega,?_⟩⟩⟩
 ·rcases dO c with h' | h' | h' | h' | h' <;> omega
 ·rcases dO c with h' | h' | h' | h' | h' <;> omega
 ·have : c = 0 ∨ c = 1 ∨ c = 2 ∨ c = 3 := by omega
  rcases this with rfl | rfl | rfl | rfl <;> decide
theorem adV (c : Int) : ao0 c := by
 unfold ao0
 simp only [aY,aU,aT,ay,aH,bI,bn,aN,aJ,au,aW,aV,bJ,bC,bD,bF,bK,bf,bG,aZ,dU,aG,aK,ah,aj,aA,aC,aB,aF,qm,decide_eq_true_eq,decide_eq_false_iff_not]
 unfold I64
 rcases dO c with h' | h' | h' | h' | h' <;> omega
theorem Xv (c : Int) : ag3 c := by
 unfold ag3
 simp only [aY,aU,aT,ay,aH,bI,bn,aN,aJ,au,aW,aV,bJ,bC,bD,bF,bK,bf,bG,aZ,dU,aG,aK,ah,aj,aA,aC,aB,aF,qm,decide_eq_true_eq,decide_eq_false_iff_not]
 unfold I64 ned
 have e : cpc 0 = 28/\cpc 1 = 91/\cpc 2 = 217/\cpc 3 = 469 := ⟨rfl,rfl,rfl,rfl⟩
 obtain ⟨e0,e1,e2,e3⟩ := e
 rw [e0,e1,e2,e3]
 grind
theorem Xw (c : Int) : ag5 c := by
 unfold ag5
 simp only [aoZ]
 simp only [aY,aU,aT,ay,aH,bI,bn,aN,aJ,au,aW,aV,bJ,bC,bD,bF,bK,bf,bG,aZ,dU,aG,aK,ah,aj,aA,aC,aB,aF,qm,decide_eq_true_eq,decide_eq_false_iff_not]
 unfold I64
 grind
theorem Nq (c : Int) : Nl c := by
 unfold Nl
 simp only [aY,aU,aT,ay,aH,bI,bn,aN,aJ,au,aW,aV,bJ,bC,bD,bF,bK,bf,bG,aZ,dU,aG,aK,ah,aj,aA,aC,aB,aF,qm,decide_eq_true_eq,decide_eq_false_iff_not]
 refine ⟨fun h => by unfold slb; rw [if_pos (by omega)],fun h => ⟨fun h2 => by unfold slb; rw [if_pos (by omega)],fun h2 => ?_⟩⟩
 have e : (c - 2).tdiv 8 = (c - 2) / 8 := Int.tdiv_eq_ediv_of_nonneg (by omega)
 rw [e]
 exact ⟨by unfold I64; omega,by decide,by unfold I64; omega,by unfold slb; rw [if_neg (by omega)]⟩
theorem Nr (x : vU) (hx : x.k < 32) : Np x := by
 unfold Np
 simp only [alP,aoY,alQ]
 simp only [aY,aU,aT,ay,aH,bI,bn,aN,aJ,au,aW,aV,bJ,bC,bD,bF,bK,bf,bG,aZ,dU,aG,aK,ah,aj,aA,aC,aB,aF]
 have hf : (if (x.k : Int) < 0 ∨ 32<=(x.k : Int) then (-1 : Int) else 2 + x.k * 8) = 2 + x.k * 8 := if_neg (by omega)
 rw [hf]
 have hs := dO x.c
 have hdiv : spn x.c ≠ 0->Int.tdiv 8 (spn x.c) = 8 / spn x.c/\1<=8 / spn x.c/\8 / spn x.c<=8/\0 < spn x.c/\spn x.c<=8/\(8 / spn x.c) * spn x.c = 8 := fun h => by
  rcases hs with h' | h' | h' | h' | h' <;> obtain ⟨_,e,_⟩ := h' <;> rw [e] <;> first | decide | exact (h e).elim
 refine bg (fun h => .inl (by simpa using h)) fun h => bg (fun h2 => absurd (aQ h2) (by omega)) fun _ => ?_
 have hz : spn x.c ≠ 0 := by simpa using h
 obtain ⟨e1,e2,e3,e4,e5,e6⟩ := hdiv hz
 have hm : ∀ s : Nat,(s : Int)<=8->(s : Int) * spn x.c<=64/\0<=(s : Int) * spn x.c := fun s hs => ⟨by
  have := Int.mul_le_mul hs e5 (by omega) (by omega : (0 : Int)<=8); omega,Int.mul_nonneg (by omega) (by omega)⟩
 rw [e1]
 refine ⟨hz,by unfold I64; omega,hz,fun _ => bg (fun _ => ?_) fun h => absurd (aS h) (by omega),fun s hs => bg (fun h => ?_) fun h => ?_⟩
 ·refine ⟨by unfold I64; omega,by unfold I64; omega,by omega,by unfold I64; omega,1,⟨hz,by omega,by omega⟩,by omega,⟨rfl,rfl⟩,rfl,fun q hq => ?_⟩
  have : q = 0 := by omega
  subst this
  simp [Cs.eff]
 ·have h := aQ h
  obtain ⟨_,h1,h2⟩ := hs
  obtain ⟨m1,m2⟩ := hm s (by omega)
  refine ⟨by unfold I64; omega,by unfold I64; omega,rfl,by omega,by unfold I64; omega,s + 1,⟨hz,by omega,by omega⟩,by omega,⟨by omega,rfl⟩,rfl,fun q hq => ?_⟩
  simp only [Cs.eff,bV,dI,dJ,dY,← Bool.decide_and]
  by_cases e : q = s
  ·subst e; rw [if_pos rfl]; rfl
  ·rw [if_neg e]
 ·have h := aS h
  exact .inr ⟨hz,by omega⟩
theorem adW (x : ag0) (hx : x.n < 1000) : ao1 x := by
 unfold ao1
 simp only [Xq]
 simp only [aY,aU,aT,ay,aH,bI,bn,aN,aJ,au,aW,aV,bJ,bC,bD,bF,bK,bf,bG,aZ,dU,aG,aK,ah,aj,aA,aC,aB,aF]
 refine ⟨⟨0,⟨Nat.zero_le _,fun j hj => absurd hj (Nat.not_lt_zero j)⟩,Int.natCast_zero⟩,fun s hs => bg (fun h => ?_) fun h => ?_⟩
 ·have h := aQ h
  refine ⟨by omega,by omega,bg (fun e => .inl ⟨s,⟨by omega,(beq_iff_eq.1 e).symm,hs.2⟩,rfl⟩) fun e => ⟨by unfold I64; omega,s + 1,⟨by omega,fun j hj => ?_⟩,by omega,by omega⟩⟩
  by_cases e' : j = s
  ·subst e'; intro h'; simp [h'] at e
  ·exact hs.2 j (by omega)
 ·have h := aS h
  exact .inr fun j hj => hs.2 j (by omega)
theorem kQ : bU Tryz.prog 113 yw := dR dD mixed fA.nil noA 200 5 (fun _ => rfl) (fun _ => rfl) fun x _ => Eq.mp (ag2 x) (Xu x)
theorem anD : bU Tryz.prog 115 anC := dR dD mixed (.cons (bM kQ) .nil) noA 200 5 (fun _ => rfl) (fun _ => rfl) fun x _ => Eq.mp (alR x) (adV x)
theorem ag7 : bU Tryz.prog 201 Xp := dR dD mixed (.cons (bM anD) .nil) noA 200 5 (fun _ => rfl) (fun _ => rfl) fun x _ => Eq.mp (ag4 x) (Xv x)
theorem ag8 : bU Tryz.prog 131 RX := dR dD mixed fA.nil noA 200 5 (fun _ => rfl) (fun _ => rfl) fun x _ => Eq.mp (ag6 x) (Xw x)
theorem ag9 : bU Tryz.prog 172 vT := dR dD mixed fA.nil noA 200 5 (fun _ => rfl) (fun _ => rfl) fun x _ => Eq.mp (Xr x) (Nq x)
theorem aha : bU Tryz.prog 73 vV := fZ dD mixed (.cons (bM kQ) (.cons (bM ag8) .nil)) aas 200 5 (fun _ => rfl) (fun _ => ⟨fun _ => rfl,fun _ => rfl,trivial⟩) fun x hx => Eq.mp (Xt x) (Nr x (aY.1 hx))
theorem ari : bU Tryz.prog 173 aoX := fZ dD mixed .nil arh 200 5 (fun _ => rfl) (fun _ => ⟨fun _ => rfl,fun _ => rfl,trivial⟩) fun x hx => Eq.mp (alS x) (adW x (aY.1 hx))
end Go.Proofs.YtenfleoejgjklaaGreat
end
section
namespace Go.Proofs.YtenfleoejgjklaaGreat
open Go SE
structure dw where
 n : Nat
 cls : Nat->Int
 tk : Nat->Nat->Bool
 cnt : Nat->Int
noncomputable def ig (p : dw) (q : Nat) : List Value := hide [if q % 10 = 0 then .int .i64 (p.cls (q / 10)) else if q % 10 = 9 then .int .i64 (p.cnt (q / 10)) else .bool (p.tk (q / 10) (q % 10 - 1))]
theorem kK (p : dw) (q : Nat) : ig p q = [if q % 10 = 0 then .int .i64 (p.cls (q / 10)) else if q % 10 = 9 then .int .i64 (p.cnt (q / 10)) else .bool (p.tk (q / 10) (q % 10 - 1))] := pU _
namespace dw
def ok (p : dw) : Prop := 1<=p.n/\p.n<=32/\∀ i,i < p.n->-1<=p.cls i/\p.cls i<=3/\0<=p.cnt i/\p.cnt i<=8
noncomputable def Xx (p : dw) : bZ := .cells 177 (.row 1 (p.n * 10) (ig p) [])
noncomputable def os (p : dw) : List bZ := [.cells 245 (.av [.slE 1 0 10 p.n p.n]),p.Xx]
def many (c : Int) : Nat := (8 / spn c).toNat
def full (p : dw) (c : Int) (i : Nat) : Prop := p.cls i = c->∀ k,k < many c->p.tk i k = true
def takes (p : dw) (c : Int) (i k : Nat) : Prop := i < p.n/\k < many c/\p.tk i k = (if p.cls i = c then false else p.tk i k) /\
 ((p.cls i = c/\(∀ j,j < k->p.tk i j = true)/\∀ j,j < i->p.full c j) ∨ (p.cls i = -1/\k = 0/\(∀ j,j < p.n->p.full c j)/\∀ j,j < i->p.cls j ≠ -1))
def take (p : dw) (c : Int) (i k : Nat) : dw := { p with cls := fun j => if j = i then c else p.cls j,tk := fun j q => if j = i/\q = k then true else p.tk j q,cnt := fun j => if j = i then p.cnt j + 1 else p.cnt j }
def give (p : dw) (i k : Nat) : dw := { p with cls := fun j => if j = i/\p.cnt j = 1 then -1 else p.cls j,tk := fun j q => if j = i/\q = k then false else p.tk j q,cnt := fun j => if j = i then p.cnt j - 1 else p.cnt j }
end dw
def gJ (n i : Nat) : dw := ⟨n,fun j => if j < i then -1 else 0,fun _ _ => false,fun _ => 0⟩
noncomputable def anE (n : Nat) : FuncId->vK := fun f => bif Nat.beq f 82 then (fun b _ _ => bif Nat.beq b 0 then [
 { σ := Nat,fr := fun i => [(22,i64 i)],ob := fun i => [(0,some (gJ n i).Xx)],inv := fun i => i<=n,meas := fun i => n - i }] else []) else fun _ _ _ => []
structure yx where
 p : dw
 i : Nat
noncomputable def Xy : Ctr := { X := yx,args := fun x => [.og 0 x.i 10 0],k := 1,os := fun x => [x.p.Xx],pre := fun x => Hd (x.p.ok/\x.i < x.p.n/\0<=x.p.cls x.i),outs := [
 { Y := Nat,post := fun x k => Hd (k < dw.many (x.p.cls x.i)/\x.p.tk x.i k = false/\∀ j,j < k->x.p.tk x.i j = true),ret := fun _ k => i64 k,m := 1,os := fun x _ => [x.p.Xx] },
 { Y := Unit,post := fun x _ => Hd (∀ k,k < dw.many (x.p.cls x.i)->x.p.tk x.i k = true),ret := fun _ _ => i64 (-1),m := 1,os := fun x _ => [x.p.Xx] }] }
noncomputable def anF (x : yx) : FuncId->vK := fun f => bif Nat.beq f 276 then (fun b _ _ => bif Nat.beq b 0 then [
 { σ := Nat,fr := fun k => [(10,i64 k)],ob := fun _ => [],inv := fun k => Hd (k<=dw.many (x.p.cls x.i)/\∀ j,j < k->x.p.tk x.i j = true),meas := fun k => 8 - k }] else []) else fun _ _ _ => []
structure kL where
 p : dw
 c : Int
noncomputable def ahb : jd := { X := kL,args := fun x => [.ptr 0 0,i64 x.c],k := 1,l := fun x => [.m x.p.os],pre := fun x => Hd x.p.ok,outs := [
 { Y := Unit,post := fun x _ => Hd (spn x.c = 0),ret := fun _ _ => .tup [i64 0,i64 1],m := 1,l := fun x _ => [.m x.p.os] },
 { Y := Unit,post := fun x _ => Hd (spn x.c ≠ 0/\∀ i,i < x.p.n->x.p.cls i ≠ -1/\x.p.full x.c i),ret := fun _ _ => .tup [i64 0,i64 4],m := 1,l := fun x _ => [.m x.p.os] },
 { Y := Nat × Nat,post := fun x y => Hd (spn x.c ≠ 0/\x.p.takes x.c y.1 y.2),ret := fun x y => .tup [i64 (2 + y.1 * 8 + y.2 * spn x.c),i64 0],m := 1,l := fun x y => [.m (x.p.take x.c y.1 y.2).os] }] }
noncomputable def anG (x : kL) : FuncId->vK := fun f => bif Nat.beq f 242 then (fun b _ _ =>
 bif Nat.beq b 0 then [{ σ := Nat,fr := fun i => [(14,i64 i)],ob := fun _ => [],inv := fun i => Hd (i<=x.p.n/\∀ j,j < i->x.p.full x.c j),meas := fun i => x.p.n - i }] else
 bif Nat.beq b 2 then [{ σ := Nat,fr := fun i => [(39,i64 i)],ob := fun _ => [],inv := fun i => Hd (i<=x.p.n/\(∀ j,j < x.p.n->x.p.full x.c j)/\∀ j,j < i->x.p.cls j ≠ -1),meas := fun i => x.p.n - i }] else []) else fun _ _ _ => []
noncomputable def Xz : Ctr := { X := kL,args := fun x => [.ptr 0 0,i64 x.c],k := 2,os := fun x => x.p.os,pre := fun x => Hd (x.p.ok/\spn x.c ≠ 0),outs := [
 { Y := Unit,post := fun x _ => Hd (∀ i,i < x.p.n->x.p.cls i ≠ -1/\x.p.full x.c i),ret := fun _ _ => .tup [i64 0,i64 0,boo false],m := 2,os := fun x _ => x.p.os },
 { Y := Nat × Nat,post := fun x y => Hd (x.p.takes x.c y.1 y.2),ret := fun _ y => .tup [i64 y.1,i64 y.2,boo true],m := 2,os := fun x _ => x.p.os }] }
structure EW where
 p : dw
 c : Int
 i : Nat
 k : Nat
noncomputable def EX : Ctr := det EW (fun x => [.og 0 x.i 10 0,i64 x.c,i64 x.k]) 1 (fun x => [x.p.Xx]) (fun x => Hd (x.p.ok/\x.i < x.p.n/\x.k < 8)) (fun _ => .tup []) 1 (fun x => [(x.p.take x.c x.i x.k).Xx])
structure gq where
 p : dw
 i : Nat
 k : Nat
def gq.ok (x : gq) : Prop := x.p.ok/\x.i < x.p.n/\0<=x.p.cls x.i/\x.k < dw.many (x.p.cls x.i)/\x.p.tk x.i x.k = true
def gq.line (x : gq) : Int := 2 + x.i * 8 + x.k * spn (x.p.cls x.i)
noncomputable def atC : Ctr := det gq (fun x => [.ptr 0 0,i64 x.line]) 2 (fun x => x.p.os) (fun x => Hd x.ok) (fun x => .tup [.og 1 x.i 10 0,i64 x.k,boo true]) 2 (fun x => x.p.os)
noncomputable def ahc : jd := lV gq (fun x => [.ptr 0 0,i64 x.line]) 1 (fun x => [.m x.p.os]) (fun x => Hd x.ok) (fun _ => i64 0) 1 (fun x => [.m (x.p.give x.i x.k).os])
noncomputable def ofP : jd := lV gq (fun x => [.ptr 0 0,i64 x.line]) 1 (fun x => [.m x.p.os]) (fun x => Hd x.ok) (fun x => .tup [i64 (x.p.cls x.i),boo true]) 1 (fun x => [.m x.p.os])
noncomputable def tblP0 : WTbl := [(276,ctrT Xy)]
noncomputable def tblP1 : WTbl := [(113,ctrT yw),(131,ctrT RX),(242,ctrT Xz),(243,ctrT EX)]
noncomputable def tblP2 : WTbl := [(113,ctrT yw),(172,ctrT vT),(73,ctrT vV),(173,ctrT aoX)]
noncomputable def arj : WTbl := [(116,ctrT atC)]
end Go.Proofs.YtenfleoejgjklaaGreat
end
section
namespace Go.Proofs.YtenfleoejgjklaaGreat
open Go SE
def yA (a : Nat) (b : Nat) : Prop := (0 = 0/\a = b/\a = b)/\True
def alT (a : Int) (b : gq) (c : gq) (d : Int) : Prop := cP (BEq.beq a (0 : Int)) (b.i * 10 + 0 < b.p.n * 10/\∃ y_1 : Unit,True/\(0 : Int) = 0/\yA c.p.n b.p.n/\(c.p.n * 10 = b.p.n * 10/\∀ q : Nat,q < c.p.n * 10->Cs.eff (ig (c.p.give c.i c.k)) [] q = Cs.eff (ig b.p) [(b.i * 10 + 0,[Value.int .i64 (-(1 : Int))]),(b.i * 10 + 9,[Value.int .i64 (d - 1)]),(b.i * 10 + (1 + b.k * 1),[Value.bool false])] q)/\True) (∃ y_1 : Unit,True/\(0 : Int) = 0/\yA c.p.n b.p.n/\(c.p.n * 10 = b.p.n * 10/\∀ q : Nat,q < c.p.n * 10->Cs.eff (ig (c.p.give c.i c.k)) [] q = Cs.eff (ig b.p) [(b.i * 10 + 9,[Value.int .i64 (d - 1)]),(b.i * 10 + (1 + b.k * 1),[Value.bool false])] q)/\True)
def ao2 (a : Int) (b : gq) (c : gq) : Prop := I64 (a - 1)/\b.i * 10 + 9 < b.p.n * 10/\b.i * 10 + 9 < b.p.n * 10/\cP (Nat.beq (b.i * 10 + 9) (b.i * 10 + 9)) (∃ z_1 : Int,some (Value.int .i64 (a - 1)) = some (Value.int .i64 z_1)/\alT z_1 b c a) (cP (Nat.beq (b.i * 10 + 9) (b.i * 10 + (1 + b.k * 1))) (∃ z_1 : Int,some (Value.bool false) = some (Value.int .i64 z_1)/\alT z_1 b c a) (∃ z_1 : Int,getElem? (ig b.p (b.i * 10 + 9)) 0 = some (Value.int .i64 z_1)/\alT z_1 b c a))
def yB (a : dw) : Prop := a.n * 10 = a.n * 10/\∀ q : Nat,q < a.n * 10->Cs.eff (ig a) [] q = Cs.eff (ig a) [] q
def Ib (a : dw) (b : dw) : Prop := a.n * 10 = b.n * 10/\∀ q : Nat,q < a.n * 10->Cs.eff (ig a) [] q = Cs.eff (ig b) [] q
def aat (a : Int) (b : EW) : Prop := I64 (a + 1)/\b.i * 10 + 9 < b.p.n * 10/\∃ y : Unit,True/\True/\(b.p.n * 10 = b.p.n * 10/\∀ q : Nat,q < b.p.n * 10->Cs.eff (ig (b.p.take b.c b.i b.k)) [] q = Cs.eff (ig b.p) [(b.i * 10 + 9,[Value.int .i64 (a + 1)]),(b.i * 10 + (1 + b.k * 1),[Value.bool true]),(b.i * 10 + 0,[Value.int .i64 b.c])] q)/\True
def nN (a : Nat) : Prop := (0 = 0/\a = a/\a = a)/\True
def qp (a : dw) : Prop := nN a.n/\yB a/\True
def yC (a : dw) (b : dw) : Prop := yA a.n b.n/\Ib a b/\True
def aau (a : Nat) (b : kL) : Prop := Hd (a<=b.p.n/\(∀ j : Nat,j < b.p.n->b.p.full b.c j)/\∀ j : Nat,j < a->b.p.cls j ≠ (-(1 : Int)))
def JH (a : kL) : Prop := Hd (∀ i : Nat,i < a.p.n->a.p.cls i ≠ (-(1 : Int))/\a.p.full a.c i)
def RY (a : dw) : Prop := yB a/\nN a.n/\True
def aav (a : kL) : Prop := Hd (spn a.c ≠ (0 : Int)/\∀ i : Nat,i < a.p.n->a.p.cls i ≠ (-(1 : Int))/\a.p.full a.c i)
def RZ (a : Nat) (b : yx) : Prop := Hd (a < dw.many (b.p.cls b.i)/\b.p.tk b.i a = false/\∀ j : Nat,j < a->b.p.tk b.i j = true)
def aaw (a : Nat) (b : yx) : Prop := Hd (a<=dw.many (b.p.cls b.i)/\∀ j : Nat,j < a->b.p.tk b.i j = true)
def Si (a : Nat) (b : kL) : Prop := Hd (a<=b.p.n/\∀ j : Nat,j < a->b.p.full b.c j)
def Sj (a : yx) : Prop := Hd (∀ k : Nat,k < dw.many (a.p.cls a.i)->a.p.tk a.i k = true)
def ahd (a : dw) (b : Nat) (c : EW) : Prop := yA a.n b/\(a.n * 10 = c.p.n * 10/\∀ q : Nat,q < a.n * 10->Cs.eff (ig a) [] q = Cs.eff (ig (c.p.take c.c c.i c.k)) [] q)/\True
def yD (a : Nat) : Prop := 0<=(a : Int)/\(a : Int) < 8
def aax : Prop := ∃ y : Unit,True/\(False/\(0 : Int) = 2/\True)/\False/\False/\True
def yE (a : Nat) (b : Nat) : Prop := (a : Int) = (b : Int) + 1/\True
def ahe (a : gq) : Prop := ∃ y_1 : Unit,True/\(False/\(a.k : Int) = 0/\true = false/\True)/\qp a.p
def ahf (n : Nat) : Prop :=
 cP (decide ((n : Int) < 1)) aax (I64 (256 : Int)/\((8 : Int) = 0->False)/\I64 (32 : Int)/\cP (decide ((n : Int) > (32 : Int))) aax ((0<=(n : Int)/\(n : Int)<=(n : Int)/\24 * (n : Int)<=281474976710656/\(n : Int) < 4611686018427387904)/\(∃ s : Nat,s<=n/\True/\((s : Int) = 0/\True)/\nN n/\(n * 10 = n * 10/\∀ q : Nat,∀ j : Nat,q < n->j < 10->∃ v : Value,getElem? [Value.int .i64 0,Value.bool false,Value.bool false,Value.bool false,Value.bool false,Value.bool false,Value.bool false,Value.bool false,Value.bool false,Value.int .i64 0] j = some v/\Cs.eff (ig (gJ n s)) [] (q * 10 + j) = [v])/\True)/\(∀ s : Nat,s<=n->cP (decide ((s : Int) < (n : Int))) ((0<=(s : Int)/\(s : Int) < (n : Int))/\(0 + s) * 10 + 0 < n * 10/\I64 ((s : Int) + 1)/\∃ s_1 : Nat,s_1<=n/\n - s_1 < n - s/\yE s_1 s/\nN n/\(n * 10 = n * 10/\∀ q : Nat,q < n * 10->Cs.eff (ig (gJ n s_1)) [] q = Cs.eff (ig (gJ n s)) [((0 + s) * 10 + 0,[Value.int .i64 (-(1 : Int))])] q)/\True) (∃ y : Unit,True/\(0 = 0/\(0 : Int) = 0/\True)/\nN n/\(n * 10 = n * 10/\∀ q : Nat,q < n * 10->Cs.eff (ig (gJ n n)) [] q = Cs.eff (ig (gJ n s)) [] q)/\True))/\True))
def ahg (x : yx) : Prop :=
 x.i * 10 + 0 < x.p.n * 10/\∃ z : Int,getElem? (ig x.p (x.i * 10 + 0)) 0 = some (Value.int .i64 z)/\∃ x_1 : Int,True/\(x_1 = z/\True)/\True/\∀ y : Unit,True->(spn x_1 = 0->False)/\I64 (Int.tdiv (8 : Int) (spn x_1))/\(∃ s : Nat,aaw s x/\True/\((s : Int) = 0/\True)/\yB x.p/\True)/\(∀ s : Nat,aaw s x->cP (decide ((s : Int) < Int.tdiv (8 : Int) (spn x_1))) (yD s/\x.i * 10 + (1 + s * 1) < x.p.n * 10/\∃ b : Bool,getElem? (ig x.p (x.i * 10 + (1 + s * 1))) 0 = some (Value.bool b)/\cP (Bool.not b) ((∃ y_1 : Nat,RZ y_1 x/\(y_1 : Int) = (s : Int)/\yB x.p/\True) ∨ ∃ y_1 : Unit,Sj x/\(-(1 : Int)) = (s : Int)/\yB x.p/\True) (I64 ((s : Int) + 1)/\∃ s_1 : Nat,aaw s_1 x/\8 - s_1 < 8 - s/\yE s_1 s/\yB x.p/\True)) ((∃ y_1 : Nat,RZ y_1 x/\(y_1 : Int) = (-(1 : Int))/\yB x.p/\True) ∨ ∃ y_1 : Unit,Sj x/\(-(1 : Int)) = (-(1 : Int))/\yB x.p/\True))/\True
theorem ahh (x : yx) : ahg x = wpF Tryz.prog alO tt (anF x) 200 5 276 (Xy.args x) (hO Xy.k (Xy.os x)) (fun v h' => eH Xy.k x v h' Xy.outs) := by kernel_rfl
def ahi (x : kL) : Prop :=
 (∃ s : Nat,Si s x/\True/\((s : Int) = 0/\True)/\RY x.p)/\(∀ s : Nat,Si s x->cP (decide ((s : Int) < (x.p.n : Int))) ((0<=(s : Int)/\(s : Int) < (x.p.n : Int))/\(0 + s) * 10 + 0 < x.p.n * 10/\∃ z : Int,getElem? (ig x.p ((0 + s) * 10 + 0)) 0 = some (Value.int .i64 z)/\cP (BEq.beq z x.c) (∃ x_1 : yx,Hd (x_1.p.ok/\x_1.i < x_1.p.n/\0<=x_1.p.cls x_1.i)/\((x_1.i = 0 + s/\0 = 0)/\True)/\(Ib x_1.p x.p/\True)/\(∀ y : Nat,RZ y x_1->(∃ y_1 : Unit,JH x/\(0 = (s : Int)/\0 = (y : Int)/\false = true/\True)/\nN x.p.n/\Ib x.p x_1.p/\True) ∨ ∃ y_1 : Prod Nat Nat,Hd (x.p.takes x.c y_1.1 y_1.2)/\((y_1.1 : Int) = (s : Int)/\(y_1.2 : Int) = (y : Int)/\true = true/\True)/\nN x.p.n/\Ib x.p x_1.p/\True)/\∀ y : Unit,Sj x_1->I64 ((s : Int) + 1)/\∃ s_1 : Nat,Si s_1 x/\x.p.n - s_1 < x.p.n - s/\yE s_1 s/\Ib x.p x_1.p/\nN x.p.n/\True) (I64 ((s : Int) + 1)/\∃ s_1 : Nat,Si s_1 x/\x.p.n - s_1 < x.p.n - s/\yE s_1 s/\RY x.p)) ((∃ s_1 : Nat,aau s_1 x/\True/\((s_1 : Int) = 0/\True)/\RY x.p)/\(∀ s_1 : Nat,aau s_1 x->cP (decide ((s_1 : Int) < (x.p.n : Int))) ((0<=(s_1 : Int)/\(s_1 : Int) < (x.p.n : Int))/\(0 + s_1) * 10 + 0 < x.p.n * 10/\∃ z : Int,getElem? (ig x.p ((0 + s_1) * 10 + 0)) 0 = some (Value.int .i64 z)/\cP (BEq.beq z (-(1 : Int))) ((∃ y : Unit,JH x/\(0 = (s_1 : Int)/\(0 : Int) = 0/\false = true/\True)/\qp x.p) ∨ ∃ y : Prod Nat Nat,Hd (x.p.takes x.c y.1 y.2)/\((y.1 : Int) = (s_1 : Int)/\(y.2 : Int) = 0/\true = true/\True)/\qp x.p) (I64 ((s_1 : Int) + 1)/\∃ s_2 : Nat,aau s_2 x/\x.p.n - s_2 < x.p.n - s_1/\yE s_2 s_1/\RY x.p)) ((∃ y : Unit,JH x/\((0 : Int) = 0/\(0 : Int) = 0/\false = false/\True)/\
 qp x.p) ∨ ∃ y : Prod Nat Nat,Hd (x.p.takes x.c y.1 y.2)/\((y.1 : Int) = 0/\(y.2 : Int) = 0/\true = false/\True)/\qp x.p))/\True))/\True
theorem ahj (x : kL) : ahi x = wpF Tryz.prog tblP0 tt (anG x) 200 5 242 (Xz.args x) (hO Xz.k (Xz.os x)) (fun v h' => eH Xz.k x v h' Xz.outs) := by kernel_rfl
def XA (x : EW) : Prop :=
 x.i * 10 + 0 < x.p.n * 10/\yD x.k/\x.i * 10 + (1 + x.k * 1) < x.p.n * 10/\x.i * 10 + 9 < x.p.n * 10/\cP (Nat.beq (x.i * 10 + 9) (x.i * 10 + (1 + x.k * 1))) (∃ z : Int,some (Value.bool true) = some (Value.int .i64 z)/\aat z x) (cP (Nat.beq (x.i * 10 + 9) (x.i * 10 + 0)) (∃ z : Int,some (Value.int .i64 x.c) = some (Value.int .i64 z)/\aat z x) (∃ z : Int,getElem? (ig x.p (x.i * 10 + 9)) 0 = some (Value.int .i64 z)/\aat z x))
theorem adX (x : EW) : XA x = wpF Tryz.prog [] tt (noA x) 200 5 243 (EX.args x) (hO EX.k (EX.os x)) (fun v h' => eH EX.k x v h' EX.outs) := by kernel_rfl
def ahk (x : kL) : Prop :=
 ∃ x_1 : Int,True/\(x_1 = x.c/\True)/\True/\∀ y : Unit,True->cP (BEq.beq (spn x_1) (0 : Int)) ((∃ y_1 : Unit,Hd (spn x.c = 0)/\((0 : Int) = 0/\(1 : Int) = 1/\True)/\qp x.p) ∨ (∃ y_1 : Unit,aav x/\((0 : Int) = 0/\(4 : Int) = 1/\True)/\qp x.p) ∨ ∃ y_1 : Prod Nat Nat,Hd (spn x.c ≠ (0 : Int)/\x.p.takes x.c y_1.1 y_1.2)/\(2 + (y_1.1 : Int) * 8 + (y_1.2 : Int) * spn x.c = 0/\(0 : Int) = 1/\True)/\nN x.p.n/\(x.p.n * 10 = x.p.n * 10/\∀ q : Nat,q < x.p.n * 10->Cs.eff (ig (x.p.take x.c y_1.1 y_1.2)) [] q = Cs.eff (ig x.p) [] q)/\True) (∃ x_2 : kL,Hd (x_2.p.ok/\spn x_2.c ≠ (0 : Int))/\(0 = 0/\x_2.c = x.c/\True)/\yC x_2.p x.p/\(∀ y_1 : Unit,JH x_2->(∃ y_2 : Unit,Hd (spn x.c = 0)/\((0 : Int) = 0/\(1 : Int) = 4/\True)/\yC x.p x_2.p) ∨ (∃ y_2 : Unit,aav x/\((0 : Int) = 0/\(4 : Int) = 4/\True)/\yC x.p x_2.p) ∨ ∃ y_2 : Prod Nat Nat,Hd (spn x.c ≠ (0 : Int)/\x.p.takes x.c y_2.1 y_2.2)/\(2 + (y_2.1 : Int) * 8 + (y_2.2 : Int) * spn x.c = 0/\(0 : Int) = 4/\True)/\yA x.p.n x_2.p.n/\(x.p.n * 10 = x_2.p.n * 10/\∀ q : Nat,q < x.p.n * 10->Cs.eff (ig (x.p.take x.c y_2.1 y_2.2)) [] q = Cs.eff (ig x_2.p) [] q)/\True)/\∀ y_1 : Prod Nat Nat,Hd (x_2.p.takes x_2.c y_1.1 y_1.2)->(0<=(y_1.1 : Int)/\(y_1.1 : Int) < (x_2.p.n : Int))/\∃ x_3 : EW,Hd (x_3.p.ok/\x_3.i < x_3.p.n/\x_3.k < 8)/\((x_3.i = 0 + y_1.1/\0 = 0)/\x_3.c = x.c/\(x_3.k : Int) = (y_1.2 : Int)/\True)/\(Ib x_3.p x_2.p/\True)/\∀ y_2 : Unit,True->∃ x_4 : Int,True/\(x_4 = (y_1.1 : Int)/\True)/\True/\∀ y_3 : Unit,True->∃ x_5 : Int,True/\(x_5 = x.c/\True)/\True/\∀ y_4 : Unit,True->I64 ((y_1.2 : Int) * spn x_5)/\I64 (ite (x_4 < 0 ∨ 32<=x_4) (-(1 : Int)) (2 + x_4 * 8) + (y_1.2 : Int) * spn x_5)/\
 ((∃ y_5 : Unit,Hd (spn x.c = 0)/\(0 = ite (x_4 < 0 ∨ 32<=x_4) (-(1 : Int)) (2 + x_4 * 8) + (y_1.2 : Int) * spn x_5/\(1 : Int) = 0/\True)/\ahd x.p x_2.p.n x_3) ∨ (∃ y_5 : Unit,aav x/\(0 = ite (x_4 < 0 ∨ 32<=x_4) (-(1 : Int)) (2 + x_4 * 8) + (y_1.2 : Int) * spn x_5/\(4 : Int) = 0/\True)/\ahd x.p x_2.p.n x_3) ∨ ∃ y_5 : Prod Nat Nat,Hd (spn x.c ≠ (0 : Int)/\x.p.takes x.c y_5.1 y_5.2)/\(2 + (y_5.1 : Int) * 8 + (y_5.2 : Int) * spn x.c = ite (x_4 < 0 ∨ 32<=x_4) (-(1 : Int)) (2 + x_4 * 8) + (y_1.2 : Int) * spn x_5/\(0 : Int) = 0/\True)/\yA x.p.n x_2.p.n/\(x.p.n * 10 = x_3.p.n * 10/\∀ q : Nat,q < x.p.n * 10->Cs.eff (ig (x.p.take x.c y_5.1 y_5.2)) [] q = Cs.eff (ig (x_3.p.take x_3.c x_3.i x_3.k)) [] q)/\True))
theorem ahl (x : kL) : ahk x = wpF Tryz.prog tblP1 tt (noA x) 200 5 202 (ahb.args x) (hO 2 (dK 1 (ahb.l x))) (fun v h' => cO 1 x v h' ahb.outs) := by kernel_rfl
def atVC (x : gq) : Prop :=
 ∃ x_1 : Int,True/\(x_1 = x.line/\True)/\True/\∀ y : Unit,True->cP (decide (slb x_1 < 0)) (ahe x) (cP (decide (slb x_1 ≥ (x.p.n : Int))) (ahe x) ((0<=slb x_1/\slb x_1 < (x.p.n : Int))/\(0 + Int.toNat (slb x_1)) * 10 + 0 < x.p.n * 10/\∃ z : Int,getElem? (ig x.p ((0 + Int.toNat (slb x_1)) * 10 + 0)) 0 = some (Value.int .i64 z)/\∃ x_2 : vU,Hd (x_2.k < 32)/\((x_2.k : Int) = slb x_1/\x_2.c = z/\True)/\True/\(∀ y_1 : Unit,Hd (spn x_2.c = 0)->∃ x_3 : ag0,Hd (x_3.n < 1000)/\(False/\x_3.v = x.line/\True)/\(False/\True)/\(∀ y_2 : Nat,Hd (y_2 < x_3.n/\x_3.g y_2 = x_3.v/\∀ j : Nat,j < y_2->x_3.g j ≠ x_3.v)->yD y_2/\(0 + Int.toNat (slb x_1)) * 10 + (1 + y_2 * 1) < x.p.n * 10/\∃ b : Bool,getElem? (ig x.p ((0 + Int.toNat (slb x_1)) * 10 + (1 + y_2 * 1))) 0 = some (Value.bool b)/\∃ y_3 : Unit,True/\((x.i = 0 + Int.toNat (slb x_1)/\0 = 0)/\(x.k : Int) = (y_2 : Int)/\true = b/\True)/\False/\yB x.p/\True)/\∀ y_2 : Unit,Hd (∀ j : Nat,j < x_3.n->x_3.g j ≠ x_3.v)->∃ y_3 : Unit,True/\((x.i = 0 + Int.toNat (slb x_1)/\0 = 0)/\(x.k : Int) = (-(1 : Int))/\true = false/\True)/\False/\yB x.p/\True)/\∀ y_1 : Unit,Hd (spn x_2.c ≠ (0 : Int))->∃ x_3 : ag0,Hd (x_3.n < 1000)/\((0 = 0/\x_3.n = Int.toNat ((8 : Int) / spn x_2.c))/\x_3.v = x.line/\True)/\((x_3.n = Int.toNat ((8 : Int) / spn x_2.c)/\∀ q : Nat,q < x_3.n->[Value.int .i64 (x_3.g q)] = [Value.int .i64 (2 + (x_2.k : Int) * 8 + (q : Int) * spn x_2.c)])/\True)/\(∀ y_2 : Nat,Hd (y_2 < x_3.n/\x_3.g y_2 = x_3.v/\∀ j : Nat,j < y_2->x_3.g j ≠ x_3.v)->yD y_2/\(0 + Int.toNat (slb x_1)) * 10 + (1 + y_2 * 1) < x.p.n * 10/\∃ b : Bool,getElem? (ig x.p ((0 + Int.toNat (slb x_1)) * 10 + (1 + y_2 * 1))) 0 = some (Value.bool b)/\
 ∃ y_3 : Unit,True/\((x.i = 0 + Int.toNat (slb x_1)/\0 = 0)/\(x.k : Int) = (y_2 : Int)/\true = b/\True)/\qp x.p)/\∀ y_2 : Unit,Hd (∀ j : Nat,j < x_3.n->x_3.g j ≠ x_3.v)->∃ y_3 : Unit,True/\((x.i = 0 + Int.toNat (slb x_1)/\0 = 0)/\(x.k : Int) = (-(1 : Int))/\true = false/\True)/\qp x.p))
theorem ao3 (x : gq) : atVC x = wpF Tryz.prog tblP2 tt (noA x) 200 5 116 (atC.args x) (hO atC.k (atC.os x)) (fun v h' => eH atC.k x v h' atC.outs) := by kernel_rfl
def ahm (x : gq) : Prop :=
 ∃ x_1 : gq,Hd x_1.ok/\(0 = 0/\x_1.line = x.line/\True)/\yC x_1.p x.p/\∀ y : Unit,True->yD x_1.k/\x_1.i * 10 + (1 + x_1.k * 1) < x_1.p.n * 10/\x_1.i * 10 + 9 < x_1.p.n * 10/\cP (Nat.beq (x_1.i * 10 + 9) (x_1.i * 10 + (1 + x_1.k * 1))) (∃ z : Int,some (Value.bool false) = some (Value.int .i64 z)/\ao2 z x_1 x) (∃ z : Int,getElem? (ig x_1.p (x_1.i * 10 + 9)) 0 = some (Value.int .i64 z)/\ao2 z x_1 x)
theorem ahn (x : gq) : ahm x = wpF Tryz.prog arj tt (noA x) 200 5 65 (ahc.args x) (hO 2 (dK 1 (ahc.l x))) (fun v h' => cO 1 x v h' ahc.outs) := by kernel_rfl
def ofVC (x : gq) : Prop :=
 ∃ x_1 : gq,Hd x_1.ok/\(0 = 0/\x_1.line = x.line/\True)/\yC x_1.p x.p/\∀ y : Unit,True->x_1.i * 10 + 0 < x_1.p.n * 10/\∃ z : Int,getElem? (ig x_1.p (x_1.i * 10 + 0)) 0 = some (Value.int .i64 z)/\∃ y_1 : Unit,True/\(x.p.cls x.i = z/\true = true/\True)/\yC x.p x_1.p
theorem ao4 (x : gq) : ofVC x = wpF Tryz.prog arj tt (noA x) 200 5 246 (ofP.args x) (hO 2 (dK 1 (ofP.l x))) (fun v h' => cO 1 x v h' ofP.outs) := by kernel_rfl
end Go.Proofs.YtenfleoejgjklaaGreat
end
section
namespace Go.Proofs.YtenfleoejgjklaaGreat
open Go SE
set_option linter.unusedSimpArgs false
theorem gI (c : Int) : (c = 0/\spn c = 1/\dw.many c = 8) ∨ (c = 1/\spn c = 2/\dw.many c = 4) ∨ (c = 2/\spn c = 4/\dw.many c = 2) ∨ (c = 3/\spn c = 8/\dw.many c = 1) ∨ ((c < 0 ∨ 3 < c)/\spn c = 0/\dw.many c = 0) := by
 have := dO c
 unfold dw.many
 rcases this with h | h | h | h | h <;> obtain ⟨h1,h2,_⟩ := h <;> rw [h2] <;> simp [h1]
theorem yF {c : Int} (h : 0<=c/\c<=3) : Int.tdiv 8 (spn c) = dw.many c/\spn c ≠ 0/\1<=dw.many c/\dw.many c<=8 := by
 rcases gI c with h' | h' | h' | h' | h' <;> obtain ⟨h1,h2,h3⟩ := h' <;> first | (rw [h2,h3]; decide) | omega
theorem XB (n : Nat) (hn : 1<=n/\n<=32) : ahf n := by
 unfold ahf
 simp only [aax,nN,yE]
 simp only [aY,aU,aT,ay,aH,bI,bn,aN,aJ,au,aW,aV,bJ,bC,bD,bF,bK,bf,bG,aZ,dU,aG,aK,ah,aj,aA,aC,aB,aF]
 refine bg (fun h => absurd (aQ h) (by omega)) fun _ => ⟨by unfold I64; omega,by decide,by unfold I64; omega,bg (fun h => absurd (aQ h) (by omega)) fun _ => ⟨by omega,⟨0,by omega,rfl,fun q j hq hj => ?_⟩,fun s hs => bg (fun h => ?_) fun h => ?_⟩⟩
 ·rw [kK,show (q * 10 + j) % 10 = j by omega]
  simp only [gJ,Nat.not_lt_zero,if_false]
  match j,hj with
  | 0,_ | 1,_ | 2,_ | 3,_ | 4,_ | 5,_ | 6,_ | 7,_ | 8,_ | 9,_ => exact ⟨_,rfl,rfl⟩
 ·have h := aQ h
  refine ⟨by omega,by omega,by unfold I64; omega,s + 1,by omega,by omega,by omega,fun q hq => ?_⟩
  simp only [Cs.eff,bV,dI,dJ,dY,← Bool.decide_and,kK,gJ]; grind
 ·have : s = n := by have := aS h; omega
  subst this
  exact fun q _ => rfl
theorem XC (x : yx) (hx : x.p.ok/\x.i < x.p.n/\0<=x.p.cls x.i) : ahg x := by
 obtain ⟨⟨h1,h2,h3⟩,hi,hc⟩ := hx
 obtain ⟨m1,m2,m3,m4⟩ := yF ⟨hc,(h3 _ hi).2.1⟩
 unfold ahg
 simp only [aaw,yB,yD,RZ,Sj,yE]
 simp only [aY,aU,aT,ay,aH,bI,bn,aN,aJ,au,aW,aV,bJ,bC,bD,bF,bK,bf,bG,aZ,dU,aG,aK,ah,aj,aA,aC,aB,aF]
 refine ⟨by omega,x.p.cls x.i,?_,m2,by rw [m1]; unfold I64; omega,⟨0,⟨Nat.zero_le _,fun j hj => absurd hj (Nat.not_lt_zero j)⟩,Int.natCast_zero⟩,fun s hs => ?_⟩
 ·rw [kK,show x.i * 10 % 10 = 0 by omega,show x.i * 10 / 10 = x.i by omega]; rfl
 rw [m1]
 refine bg (fun h => ?_) fun h => ?_
 ·have h := aQ h
  refine ⟨by omega,by omega,x.p.tk x.i s,?_,bg (fun hb => .inl ⟨s,⟨by omega,by simpa using hb,hs.2⟩,rfl⟩) fun hb => ⟨by unfold I64; omega,s + 1,⟨by omega,fun j hj => ?_⟩,by omega,by omega⟩⟩
  ·rw [kK]
   simp only [show (x.i * 10 + (1 + s * 1)) % 10 = 1 + s by omega,show (x.i * 10 + (1 + s * 1)) / 10 = x.i by omega]
   rw [if_neg (by omega),if_neg (by omega),show 1 + s - 1 = s by omega]; rfl
  ·by_cases e : j = s
   ·subst e; simpa using hb
   ·exact hs.2 j (by omega)
 ·have h := aS h
  exact .inr fun k hk => hs.2 k (by omega)
theorem DT (p : dw) (i : Nat) : ig p (i * 10) = [.int .i64 (p.cls i)] := by
 rw [kK,show i * 10 % 10 = 0 by omega,show i * 10 / 10 = i by omega]; rfl
theorem aay (p : dw) (i : Nat) : ig p (i * 10 + 9) = [.int .i64 (p.cnt i)] := by
 rw [kK,show (i * 10 + 9) % 10 = 9 by omega,show (i * 10 + 9) / 10 = i by omega]; rfl
theorem ao5 (p : dw) (i k : Nat) (h : k < 8) : ig p (i * 10 + (1 + k * 1)) = [.bool (p.tk i k)] := by
 rw [kK]
 simp only [show (i * 10 + (1 + k * 1)) % 10 = 1 + k by omega,show (i * 10 + (1 + k * 1)) / 10 = i by omega]
 rw [if_neg (by omega),if_neg (by omega),show 1 + k - 1 = k by omega]
theorem XD (x : kL) (hx : x.p.ok/\spn x.c ≠ 0) : ahi x := by
 obtain ⟨⟨h1,h2,h3⟩,hz⟩ := hx
 have hcc : 0<=x.c/\x.c<=3 := by rcases dO x.c with h | h | h | h | h <;> omega
 obtain ⟨m1,m2,m3,m4⟩ := yF hcc
 unfold ahi
 simp only [Si,RY,Ib,RZ,JH,nN,Sj,yE,aau,qp,yB]
 simp only [aY,aU,aT,ay,aH,bI,bn,aN,aJ,au,aW,aV,bJ,bC,bD,bF,bK,bf,bG,aZ,dU,aG,aK,ah,aj,aA,aC,aB,aF]
 refine ⟨⟨0,⟨Nat.zero_le _,fun j hj => absurd hj (Nat.not_lt_zero j)⟩,Int.natCast_zero⟩,fun s hs => bg (fun h => ?_) fun h => ⟨⟨0,⟨Nat.zero_le _,fun j hj => hs.2 j (by have := aS h; omega),fun j hj => absurd hj (Nat.not_lt_zero j)⟩,Int.natCast_zero⟩,fun t ht => bg (fun h2 => ?_) fun h2 => ?_⟩⟩
 ·have h := aQ h
  refine ⟨by omega,by omega,x.p.cls s,by rw [DT]; rfl,bg (fun he => ?_) fun he => ⟨by unfold I64; omega,s + 1,⟨by omega,fun j hj => ?_⟩,by omega,by omega⟩⟩
  ·have he := beq_iff_eq.1 he
   refine ⟨⟨x.p,s⟩,⟨⟨h1,h2,h3⟩,(show s < x.p.n by omega),(show 0<=x.p.cls s by omega)⟩,rfl,⟨rfl,fun _ _ => rfl⟩,fun y hy => .inr ⟨(s,y),?_,⟨rfl,rfl⟩,rfl,fun _ _ => rfl⟩,fun hall => ⟨by unfold I64; omega,s + 1,⟨by omega,fun j hj => ?_⟩,by omega,by omega,rfl,fun _ _ => rfl⟩⟩
   ·obtain ⟨y1,y2,y3⟩ := hy
    simp only [he] at y1
    exact ⟨by show s < x.p.n; omega,y1,by show x.p.tk s y = _; rw [if_pos he]; exact y2,.inl ⟨he,y3,hs.2⟩⟩
   ·by_cases e : j = s
    ·subst e; intro _ k hk; exact hall k (by simp only [he]; exact hk)
    ·exact hs.2 j (by omega)
  ·by_cases e : j = s
   ·subst e; intro h'; simp [h'] at he
   ·exact hs.2 j (by omega)
 ·have h2 := aQ h2
  refine ⟨by omega,by omega,x.p.cls t,by rw [DT]; rfl,bg (fun he => ?_) fun he => ⟨by unfold I64; omega,t + 1,⟨by omega,ht.2.1,fun j hj => ?_⟩,by omega,by omega⟩⟩
  ·have he := beq_iff_eq.1 he
   exact .inr ⟨(t,0),⟨by show t < x.p.n; omega,m3,by show x.p.tk t 0 = _; rw [if_neg (by show ¬ x.p.cls t = x.c; omega)],.inr ⟨he,rfl,ht.2.1,ht.2.2⟩⟩,rfl,rfl⟩
  ·by_cases e : j = t
   ·subst e; intro h'; simp [h'] at he
   ·exact ht.2.2 j (by omega)
 ·have h2 := aS h2
  exact .inl fun i hi => ⟨ht.2.2 i (by omega),ht.2.1 i hi⟩
theorem Sl (x : EW) (hx : x.p.ok/\x.i < x.p.n/\x.k < 8) : XA x := by
 obtain ⟨⟨h1,h2,h3⟩,hi,hk⟩ := hx
 have := h3 _ hi
 unfold XA
 simp only [yD,aat]
 simp only [aY,aU,aT,ay,aH,bI,bn,aN,aJ,au,aW,aV,bJ,bC,bD,bF,bK,bf,bG,aZ,dU,aG,aK,ah,aj,aA,aC,aB,aF]
 refine ⟨by omega,by omega,by omega,by omega,bg (fun h => ?_) fun _ => bg (fun h => ?_) fun _ => ⟨x.p.cnt x.i,by rw [aay]; rfl,by unfold I64; omega,by omega,fun q hq => ?_⟩⟩
 ·have := ak h; omega
 ·have := ak h; omega
 ·simp only [Cs.eff,bV,dI,dJ,dY,← Bool.decide_and,kK,dw.take]; grind (splits := 30)
theorem XE (x : kL) (hx : x.p.ok) : ahk x := by
 unfold ahk
 simp only [qp,aav,nN,yC,JH,yA,Ib,ahd,yB]
 simp only [aY,aU,aT,ay,aH,bI,bn,aN,aJ,au,aW,aV,bJ,bC,bD,bF,bK,bf,bG,aZ,dU,aG,aK,ah,aj,aA,aC,aB,aF]
 refine bg (fun h => .inl (by simpa using h)) fun h => ?_
 have hz : spn x.c ≠ 0 := by simpa using h
 have hcc : 0<=x.c/\x.c<=3 := by rcases dO x.c with h | h | h | h | h <;> omega
 obtain ⟨m1,m2,m3,m4⟩ := yF hcc
 obtain ⟨h1,h2,h3⟩ := id hx
 refine ⟨x,⟨hx,hz⟩,rfl,⟨rfl,rfl,fun _ _ => rfl⟩,fun hf => .inr (.inl ⟨⟨hz,hf⟩,rfl,rfl,fun _ _ => rfl⟩),fun y hy => ?_⟩
 obtain ⟨i,k⟩ := y
 obtain ⟨t1,t2,t3⟩ := id hy
 simp only at t1 t2 ⊢
 have hsl : (if (i : Int) < 0 ∨ 32<=(i : Int) then (-1 : Int) else 2 + i * 8) = 2 + i * 8 := if_neg (by omega)
 have hks : 0<=(k : Int) * spn x.c/\(k : Int) * spn x.c<=64 := by
  have hs : 0<=spn x.c/\spn x.c<=8 := by rcases dO x.c with h | h | h | h | h <;> omega
  exact ⟨Int.mul_nonneg (by omega) hs.1,by have := Int.mul_le_mul (show (k : Int)<=8 by omega) hs.2 hs.1 (by omega : (0 : Int)<=8); omega⟩
 rw [hsl]
 refine ⟨by omega,⟨x.p,x.c,i,k⟩,⟨hx,t1,(show k < 8 by omega)⟩,⟨rfl,rfl,rfl⟩,⟨rfl,fun _ _ => rfl⟩,by unfold I64; omega,by unfold I64; omega,.inr (.inr ⟨(i,k),⟨hz,hy⟩,?_⟩)⟩
 simp
theorem alU {x : gq} (hx : x.ok) : slb x.line = x.i/\2<=x.line/\x.line < 258 := by
 obtain ⟨⟨h1,h2,h3⟩,hi,hc,hk,ht⟩ := hx
 unfold slb gq.line
 rcases gI (x.p.cls x.i) with h | h | h | h | h <;> obtain ⟨e1,e2,e3⟩ := h <;> rw [e2] <;> rw [e3] at hk <;> first | omega | (rw [if_neg (by omega)]; omega)
theorem aho (x : gq) (hx : x.ok) : atVC x := by
 obtain ⟨l1,l2,l3⟩ := alU hx
 obtain ⟨⟨h1,h2,h3⟩,hi,hc,hk,ht⟩ := id hx
 obtain ⟨m1,m2,m3,m4⟩ := yF ⟨hc,(h3 _ hi).2.1⟩
 have h8 : (8 / spn (x.p.cls x.i)).toNat = dw.many (x.p.cls x.i) := rfl
 have hs : 0 < spn (x.p.cls x.i) := by rcases gI (x.p.cls x.i) with h | h | h | h | h <;> omega
 have hl : x.line = 2 + x.i * 8 + x.k * spn (x.p.cls x.i) := rfl
 have inj : ∀ j : Nat,2 + (x.i : Int) * 8 + (j : Int) * spn (x.p.cls x.i) = x.line->j = x.k := fun j hj => by
  have : (j : Int) * spn (x.p.cls x.i) = (x.k : Int) * spn (x.p.cls x.i) := by omega
  have := Int.eq_of_mul_eq_mul_right (by omega) this
  omega
 unfold atVC
 simp only [ahe,yD,yB,qp,nN]
 simp only [aY,aU,aT,ay,aH,bI,bn,aN,aJ,au,aW,aV,bJ,bC,bD,bF,bK,bf,bG,aZ,dU,aG,aK,ah,aj,aA,aC,aB,aF,l1]
 refine bg (fun h => absurd (aQ h) (by omega)) fun _ => bg (fun h => absurd (aQ h) (by omega)) fun _ => ⟨by omega,by omega,x.p.cls x.i,by rw [DT]; rfl,⟨x.i,x.p.cls x.i⟩,(show x.i < 32 by omega),⟨rfl,rfl⟩,fun h => absurd h m2,fun _ => ⟨⟨fun q => 2 + (x.i : Int) * 8 + q * spn (x.p.cls x.i),dw.many (x.p.cls x.i),x.line⟩,(show dw.many (x.p.cls x.i) < 1000 by omega),⟨rfl,rfl⟩,⟨rfl,fun _ _ => rfl⟩,fun y hy => ?_,fun hno => absurd hl.symm (hno x.k hk)⟩⟩
 obtain ⟨y1,y2,_⟩ := hy
 have := inj y y2
 subst this
 exact ⟨by omega,by omega,true,by rw [ao5 _ _ _ (by omega),ht]; rfl,rfl,rfl⟩
theorem XF (x : gq) (hx : x.ok) : ahm x := by
 obtain ⟨⟨h1,h2,h3⟩,hi,hc,hk,ht⟩ := id hx
 obtain ⟨m1,m2,m3,m4⟩ := yF ⟨hc,(h3 _ hi).2.1⟩
 have := h3 _ hi
 have n1 : (x.i * 10 + 9).beq (x.i * 10 + (1 + x.k * 1)) = false := iV (by omega)
 unfold ahm
 simp only [yC,yD,ao2,alT,yA,Ib]
 simp only [aY,aU,aT,ay,aH,bI,bn,aN,aJ,au,aW,aV,bJ,bC,bD,bF,bK,bf,bG,aZ,dU,aG,aK,ah,aj,aA,aC,aB,aF]
 refine ⟨x,hx,rfl,⟨rfl,rfl,fun _ _ => rfl⟩,?_⟩
 simp only [n1,Nat.beq_refl,kP,iR,aT]
 refine ⟨by omega,by omega,by omega,x.p.cnt x.i,by rw [aay]; rfl,by unfold I64; omega,by omega,by omega,bg (fun hb => ⟨by omega,fun q hq => ?_⟩) fun hb q hq => ?_⟩
 ·have hb := beq_iff_eq.1 hb
  simp only [Cs.eff,bV,dI,dJ,dY,← Bool.decide_and,kK,dw.give]; grind (splits := 30)
 ·have hb : x.p.cnt x.i - 1 ≠ 0 := fun h => by simp [h] at hb
  simp only [Cs.eff,bV,dI,dJ,dY,← Bool.decide_and,kK,dw.give]; grind (splits := 30)
theorem ahp (x : gq) (hx : x.ok) : ofVC x := by
 obtain ⟨⟨h1,h2,h3⟩,hi,hc,hk,ht⟩ := id hx
 unfold ofVC
 simp only [yC,yA,Ib]
 simp only [aY,aU,aT,ay,aH,bI,bn,aN,aJ,au,aW,aV,bJ,bC,bD,bF,bK,bf,bG,aZ,dU,aG,aK,ah,aj,aA,aC,aB,aF]
 exact ⟨x,hx,rfl,⟨rfl,rfl,fun _ _ => rfl⟩,by omega,x.p.cls x.i,by rw [DT]; rfl,rfl,rfl,rfl,fun _ _ => rfl⟩
theorem ao6 : bU Tryz.prog 276 Xy := fZ dD mixed (.cons (bM kQ) .nil) anF 200 5 (fun _ => rfl) (fun _ => ⟨fun _ => rfl,fun _ => rfl,trivial⟩) fun x hx => Eq.mp (ahh x) (XC x (aY.1 hx))
theorem find_ok : bU Tryz.prog 242 Xz := fZ dD mixed (.cons (bM ao6) .nil) anG 200 5 (fun _ => rfl) (fun _ => ⟨fun _ => rfl,fun _ => rfl,trivial⟩) fun x hx => Eq.mp (ahj x) (XD x (aY.1 hx))
theorem alV : bU Tryz.prog 243 EX := dR dD mixed .nil noA 200 5 (fun _ => rfl) (fun _ => rfl) fun x hx => Eq.mp (adX x) (Sl x (aY.1 hx))
theorem ark : bU Tryz.prog 116 atC := dR dD mixed (.cons (bM kQ) (.cons (bM ag9) (.cons (bM aha) (.cons (bM ari) .nil)))) noA 200 5 (fun _ => rfl) (fun _ => rfl) fun x hx => Eq.mp (ao3 x) (aho x (aY.1 hx))
theorem ao7 : bU Tryz.prog 202 ahb.ctr := dH dD mixed (.cons (bM kQ) (.cons (bM ag8) (.cons (bM find_ok) (.cons (bM alV) .nil)))) 2 noA 200 5 (fun _ => ⟨rfl,rfl,rfl,rfl⟩) fun x hx => Eq.mp (ahl x) (XE x (aY.1 hx))
theorem ao8 : bU Tryz.prog 65 ahc.ctr := dH dD mixed (.cons (bM ark) .nil) 2 noA 200 5 (fun _ => ⟨rfl,rfl,rfl,rfl⟩) fun x hx => Eq.mp (ahn x) (XF x (aY.1 hx))
theorem of_ok : bU Tryz.prog 246 ofP.ctr := dH dD mixed (.cons (bM ark) .nil) 2 noA 200 5 (fun _ => ⟨rfl,rfl,rfl,rfl⟩) fun x hx => Eq.mp (ao4 x) (ahp x (aY.1 hx))
end Go.Proofs.YtenfleoejgjklaaGreat
end
section
namespace Go.Proofs.YtenfleoejgjklaaGreat
open Go SE
structure ZRd where
 t : Nat
 now : Int
 has : Nat->Int
namespace ZRd
def ok (r : ZRd) : Prop := 1<=r.t/\r.t<=4/\1<=r.now/\r.now < 4611686018427387904
def os (r : ZRd) : List bZ := [.cells 149 (.av [u64 r.now,.slE 1 0 1 r.t r.t]),.cells 111 (.row 1 r.t (fun k => [.int .u64 (r.has k)]) [])]
def put (r : ZRd) (k : Nat) (v : Int) : ZRd := { r with has := fun j => if j = k then v else r.has j }
end ZRd
def alW (t : Nat) : ZRd := ⟨t,1,fun _ => 0⟩
structure VQ where
 r : ZRd
 k : Nat
def Sm : jd := { X := VQ,args := fun x => [.ptr 0 0,i64 x.k],k := 1,l := fun x => [.m x.r.os],pre := fun x => Hd (x.r.ok/\x.k < x.r.t),outs := [
 { Y := Unit,post := fun x _ => Hd (x.r.has x.k = 0),ret := fun x _ => .tup [u64 x.r.now,i64 0],m := 1,l := fun x _ => [.m (x.r.put x.k x.r.now).os] },
 { Y := Unit,post := fun x _ => Hd (x.r.has x.k ≠ 0),ret := fun _ _ => .tup [u64 0,i64 7],m := 1,l := fun x _ => [.m x.r.os] }] }
def Sr : jd := lV VQ (fun x => [.ptr 0 0,i64 x.k]) 1 (fun x => [.m x.r.os]) (fun x => Hd (x.r.ok/\x.k < x.r.t)) (fun x => i64 (if x.r.has x.k = 0 then 12 else 0)) 1 (fun x => [.m (x.r.put x.k 0).os])
def arl : jd := lV ZRd (fun _ => [.ptr 0 0]) 1 (fun r => [.m r.os]) (fun r => Hd r.ok) (fun r => u64 r.now) 1 (fun r => [.m r.os])
def adY (ph : Nat) : jd := lV VP (fun x => [.ptr 0 0,i64 x.t,i64 x.l]) 1 (fun x => [.m (x.c.os ph)]) (fun x => Hd (x.c.ok/\x.t < x.c.t)) (fun x => i64 (if 0<=x.l/\x.l < 258 then 0 else 2)) 1 (fun x => [.m ((x.c.note x.t x.l).os ph)])
def Ns (ph : Nat) : jd := lV ClkM (fun _ => [.ptr 0 0]) 1 (fun c => [.m (c.os ph)]) (fun c => Hd c.ok) (fun c => u64 c.now) 1 (fun c => [.m (c.os ph)])
def Sv (ph : Nat) : jd := lV ClkM (fun _ => [.ptr 0 0]) 1 (fun c => [.m (c.os ph)]) (fun c => Hd c.ok) (fun c => .slW 1 0 1 c.t) 2 (fun c => [.m (c.os ph),.o (.room 3 (.row 1 c.t (fun k => [.int .i64 (c.o k)]) []))])
noncomputable def EY : jd := lV nD (fun x => [.ptr 0 0,i64 x.k,i64 x.a,x.b.av 1]) 2 (fun x => [.m x.d.os,.o x.b.ro]) (fun x => Hd (x.d.ok/\x.k < x.d.n/\x.b.ok/\x.a + x.b.n<=64)) (fun _ => i64 0) 2 (fun x => [.m (x.d.store x.k x.a x.b.n (fun q => x.b.g (x.b.q + q))).os,.o x.b.ro])
noncomputable def ahq : jd := lV RH (fun x => [.ptr 0 0,i64 x.k]) 1 (fun x => [.m x.d.os]) (fun x => Hd (x.d.ok/\x.k < x.d.n)) (fun _ => .tup [.slW 1 0 1 64,i64 0]) 2 (fun x => [.m x.d.os,.o (.room 5 (rowB (fun q => x.d.b (x.k * 193 + q)) 64))])
end Go.Proofs.YtenfleoejgjklaaGreat
end
section
namespace Go.Proofs.YtenfleoejgjklaaGreat
open Go SE
def kW (a : Nat) : Prop := a = a/\a = a
def ahr (a : ClkM) : Prop := a.now = a.now/\a.dur = a.dur/\a.clos = a.clos/\(0 = 0/\kW a.t)/\True
def ahs (a : ClkM) : Prop := (258 = 258/\∀ q : Nat,q < 258->[Value.bool (a.L q)] = [Value.bool (a.L q)])/\Value.nilFunc = Value.nilFunc/\True
def arn (a : VP) : Prop := (ahr a.c/\(258 = 258/\∀ q : Nat,q < 258->[Value.bool (Bool.or (a.c.N q) (decide (a.l = (q : Int))))] = [Value.bool (a.c.N q)])/\ahs a.c)/\(a.c.t = a.c.t/\∀ q : Nat,q < a.c.t->[Value.int .i64 (ite (q = a.t/\0<=a.l/\a.l < 258) (a.c.o q + 1) (a.c.o q))] = [Value.int .i64 (a.c.o q)])/\True
def Nu (a : ZRd) : Prop := a.now = a.now/\(0 = 0/\kW a.t)/\True
def aht (a : ZRd) : Prop := Nu a/\(a.t = a.t/\∀ q : Nat,q < a.t->[Value.int .u64 (a.has q)] = [Value.int .u64 (a.has q)])/\True
def aro (a : VP) : Prop := ∃ y : Unit,True/\ite (0<=a.l/\a.l < 258) (0 : Int) (2 : Int) = 2/\arn a
def JI (a : DevM) : Prop := a.fl = a.fl/\a.fe = a.fe/\a.ba = a.ba/\a.cu = a.cu/\True
def aaz (a : Bys) : Prop := rowB a.g a.N = rowB a.g a.N/\true = true
def ahu (a : nD) : Prop := ∃ y : Unit,True/\(0 : Int) = 2/\((0 = 0/\kW a.d.n)/\a.d.st + 1 = a.d.st/\JI a.d)/\aaz a.b/\(a.d.n * 193 = a.d.n * 193/\∀ q : Nat,q < a.d.n * 193->Cs.eff (gV (a.d.store a.k a.a a.b.n (fun (q_1 : Nat) => a.b.g (a.b.q + q_1)))) [] q = Cs.eff (gV a.d) [] q)/\True
def ahv (a : VQ) : Prop := Nu a.r/\(a.r.t = a.r.t/\∀ q : Nat,q < a.r.t->[Value.int .u64 (ite (q = a.k) (0 : Int) (a.r.has q))] = Cs.eff (fun (k : Nat) => [Value.int .u64 (a.r.has k)]) [(0 + a.k,[Value.int .u64 0])] q)/\True
def Sz (a : ClkM) : Prop := ahr a/\(258 = 258/\∀ q : Nat,q < 258->[Value.bool (a.N q)] = [Value.bool (a.N q)])/\ahs a
def SA (a : ClkM) : Prop := (a.t = a.t/\∀ q : Nat,q < a.t->[Value.int .i64 (a.o q)] = [Value.int .i64 (a.o q)])/\True
def ahw (a : VQ) : Prop := Nu a.r/\(a.r.t = a.r.t/\∀ q : Nat,q < a.r.t->[Value.int .u64 (ite (q = a.k) a.r.now (a.r.has q))] = [Value.int .u64 (a.r.has q)])/\True
def ahx (a : Bys) (b : Nat) : Prop := (Nat.beq (List.length [Value.int .u8 (a.g (a.q + b))]) 1 && List.all [Value.int .u8 (a.g (a.q + b))] Value.oneCell') = true
def aaA : Prop := ∃ y : Unit,True/\(False/\(0 : Int) = 2/\True)/\False/\False/\True
def aaB (a : VQ) : Prop := 0<=(a.k : Int)/\(a.k : Int) < (a.r.t : Int)
def ahy (t : Nat) : Prop :=
 cP (decide ((t : Int) < 1)) aaA (cP (decide ((t : Int) > (4 : Int))) aaA ((0<=(t : Int)/\(t : Int)<=(t : Int)/\8 * (t : Int)<=281474976710656/\(t : Int) < 4611686018427387904)/\∃ y : Unit,True/\(0 = 0/\(0 : Int) = 0/\True)/\((1 : Int) = 1/\(0 = 0/\kW t)/\True)/\(t = t/\∀ q : Nat,q < t->[Value.int .u64 0] = [Value.int .u64 0])/\True))
def XG (x : VQ) : Prop :=
 cP (decide ((x.k : Int) ≥ (x.r.t : Int))) ((∃ y : Unit,Hd (x.r.has x.k = 0)/\(x.r.now = 0/\(0 : Int) = 1/\True)/\ahw x) ∨ ∃ y : Unit,Hd (x.r.has x.k ≠ (0 : Int))/\((0 : Int) = 0/\(7 : Int) = 1/\True)/\aht x.r) (aaB x/\0 + x.k < x.r.t/\cP (decide (x.r.has (0 + x.k) = 0)) (0 + x.k < x.r.t/\((∃ y : Unit,Hd (x.r.has x.k = 0)/\(x.r.now = x.r.now/\(0 : Int) = 0/\True)/\Nu x.r/\(x.r.t = x.r.t/\∀ q : Nat,q < x.r.t->[Value.int .u64 (ite (q = x.k) x.r.now (x.r.has q))] = Cs.eff (fun (k : Nat) => [Value.int .u64 (x.r.has k)]) [(0 + x.k,[Value.int .u64 x.r.now])] q)/\True) ∨ ∃ y : Unit,Hd (x.r.has x.k ≠ (0 : Int))/\(0 = x.r.now/\(7 : Int) = 0/\True)/\Nu x.r/\(x.r.t = x.r.t/\∀ q : Nat,q < x.r.t->[Value.int .u64 (x.r.has q)] = Cs.eff (fun (k : Nat) => [Value.int .u64 (x.r.has k)]) [(0 + x.k,[Value.int .u64 x.r.now])] q)/\True)) (0 + x.k < x.r.t/\((∃ y : Unit,Hd (x.r.has x.k = 0)/\(x.r.now = 0/\(0 : Int) = 7/\True)/\ahw x) ∨ ∃ y : Unit,Hd (x.r.has x.k ≠ (0 : Int))/\((0 : Int) = 0/\(7 : Int) = 7/\True)/\aht x.r)))
theorem adZ (x : VQ) : XG x = wpF Tryz.prog qO tt (noA x) 200 5 199 (Sm.args x) (hO 2 (dK 1 (Sm.l x))) (fun v h' => cO 1 x v h' Sm.outs) := by kernel_rfl
def XH (x : VQ) : Prop :=
 cP (decide ((x.k : Int) ≥ (x.r.t : Int))) (∃ y : Unit,True/\ite (x.r.has x.k = 0) (12 : Int) (0 : Int) = 1/\Nu x.r/\(x.r.t = x.r.t/\∀ q : Nat,q < x.r.t->[Value.int .u64 (ite (q = x.k) (0 : Int) (x.r.has q))] = [Value.int .u64 (x.r.has q)])/\True) (aaB x/\0 + x.k < x.r.t/\0 + x.k < x.r.t/\cP (BEq.beq (x.r.has (0 + x.k)) (0 : Int)) (∃ y : Unit,True/\ite (x.r.has x.k = 0) (12 : Int) (0 : Int) = 12/\ahv x) (∃ y : Unit,True/\ite (x.r.has x.k = 0) (12 : Int) (0 : Int) = 0/\ahv x))
theorem ad1 (x : VQ) : XH x = wpF Tryz.prog qO tt (noA x) 200 5 211 (Sr.args x) (hO 2 (dK 1 (Sr.l x))) (fun v h' => cO 1 x v h' Sr.outs) := by kernel_rfl
def ao9 (x : ZRd) : Prop :=
 ∃ y : Unit,True/\x.now = x.now/\aht x
theorem alX (x : ZRd) : ao9 x = wpF Tryz.prog qO tt (noA x) 200 5 67 (arl.args x) (hO 2 (dK 1 (arl.l x))) (fun v h' => cO 1 x v h' arl.outs) := by kernel_rfl
def ahz (x : VP) : Prop :=
 cP (decide ((x.t : Int) ≥ (x.c.t : Int))) (∃ y : Unit,True/\ite (0<=x.l/\x.l < 258) (0 : Int) (2 : Int) = 1/\arn x) (cP (decide (x.l < 0)) (aro x) (cP (decide (x.l ≥ (258 : Int))) (aro x) ((0<=(x.t : Int)/\(x.t : Int) < (x.c.t : Int))/\0 + x.t < x.c.t/\I64 (x.c.o (0 + x.t) + 1)/\(0<=(x.t : Int)/\(x.t : Int) < (x.c.t : Int))/\0 + x.t < x.c.t/\(0<=x.l/\x.l < 258)/\Int.toNat x.l < 258/\∃ y : Unit,True/\ite (0<=x.l/\x.l < 258) (0 : Int) (2 : Int) = 0/\(ahr x.c/\(258 = 258/\∀ q : Nat,q < 258->[Value.bool (Bool.or (x.c.N q) (decide (x.l = (q : Int))))] = Cs.eff (fun (k : Nat) => [Value.bool (x.c.N k)]) [(Int.toNat x.l,[Value.bool true])] q)/\ahs x.c)/\(x.c.t = x.c.t/\∀ q : Nat,q < x.c.t->[Value.int .i64 (ite (q = x.t/\0<=x.l/\x.l < 258) (x.c.o q + 1) (x.c.o q))] = Cs.eff (fun (k : Nat) => [Value.int .i64 (x.c.o k)]) [(0 + x.t,[Value.int .i64 (x.c.o (0 + x.t) + 1)])] q)/\True)))
theorem ad2 (x : VP) : ahz x = wpF Tryz.prog qO tt (noA x) 200 5 64 ((adY 0).args x) (hO 2 (dK 1 ((adY 0).l x))) (fun v h' => cO 1 x v h' (adY 0).outs) := by kernel_rfl
def XI (x : ClkM) : Prop :=
 ∃ y : Unit,True/\x.now = x.now/\Sz x/\SA x
theorem ad3 (x : ClkM) : XI x = wpF Tryz.prog qO tt (noA x) 200 5 45 ((Ns 0).args x) (hO 2 (dK 1 ((Ns 0).l x))) (fun v h' => cO 1 x v h' (Ns 0).outs) := by kernel_rfl
def XJ (x : ClkM) : Prop :=
 0 + x.t<=x.t/\cP (Nat.beq x.t 0) (∃ y : Unit,True/\(x.t = 0/\0 = 0/\0 = 0)/\Sz x/\(0 = x.t * 1/\∀ q : Nat,q < x.t->[Value.int .i64 (x.o q)] = List.take 1 (List.drop (q * 1) (@List.nil Value)))/\SA x) ((2 * (0 + x.t) + 1000) * 8<=281474976710656/\∃ y : Unit,True/\(0 = 0/\x.t = 0 + x.t)/\Sz x/\(x.t = 0 + x.t/\∀ q : Nat,q < x.t->[Value.int .i64 (x.o q)] = [Value.int .i64 (x.o (0 + (q - 0)))])/\SA x)
theorem ad4 (x : ClkM) : XJ x = wpF Tryz.prog qO tt (noA x) 200 5 204 ((Sv 0).args x) (hO 2 (dK 1 ((Sv 0).l x))) (fun v h' => cO 1 x v h' (Sv 0).outs) := by kernel_rfl
def Nv (x : nD) : Prop :=
 cP (decide ((x.k : Int) ≥ (x.d.n : Int))) (ahu x) (I64 (64 - (x.b.n : Int))/\cP (decide ((x.a : Int) > 64 - (x.b.n : Int))) (ahu x) ((0<=(x.k : Int)/\(x.k : Int) < (x.d.n : Int))/\0<=(x.a : Int)/\(x.a<=64/\64<=64/\64<=64)/\(0 + x.k) * 193 + 0 + x.a + (64 - x.a)<=x.d.n * 193/\cP (Nat.ble x.b.n (64 - x.a)) (x.b.q + x.b.n<=x.b.N/\(∀ k : Nat,k < x.b.n->ahx x.b k)/\I64 (x.d.st + 1)/\∃ y : Unit,True/\(0 : Int) = 0/\((0 = 0/\kW x.d.n)/\x.d.st + 1 = x.d.st + 1/\JI x.d)/\aaz x.b/\(x.d.n * 193 = x.d.n * 193/\∀ q : Nat,q < x.d.n * 193->Cs.eff (gV (x.d.store x.k x.a x.b.n (fun (q_1 : Nat) => x.b.g (x.b.q + q_1)))) [] q = Cs.eff (fun (p : Nat) => cond (Nat.ble ((0 + x.k) * 193 + 0 + x.a) p && Nat.blt p ((0 + x.k) * 193 + 0 + x.a + x.b.n)) [Value.int .u8 (x.b.g (x.b.q + (p - ((0 + x.k) * 193 + 0 + x.a))))] (Cs.eff (gV x.d) [] p)) [] q)/\True) (x.b.q + (64 - x.a)<=x.b.N/\(∀ k : Nat,k < 64 - x.a->ahx x.b k)/\I64 (x.d.st + 1)/\∃ y : Unit,True/\(0 : Int) = 0/\((0 = 0/\kW x.d.n)/\x.d.st + 1 = x.d.st + 1/\JI x.d)/\aaz x.b/\(x.d.n * 193 = x.d.n * 193/\∀ q : Nat,q < x.d.n * 193->Cs.eff (gV (x.d.store x.k x.a x.b.n (fun (q_1 : Nat) => x.b.g (x.b.q + q_1)))) [] q = Cs.eff (fun (p : Nat) => cond (Nat.ble ((0 + x.k) * 193 + 0 + x.a) p && Nat.blt p ((0 + x.k) * 193 + 0 + x.a + (64 - x.a))) [Value.int .u8 (x.b.g (x.b.q + (p - ((0 + x.k) * 193 + 0 + x.a))))] (Cs.eff (gV x.d) [] p)) [] q)/\True)))
theorem XK (x : nD) : Nv x = wpF Tryz.prog qO tt (noA x) 200 5 62 (EY.args x) (hO 3 (dK 2 (EY.l x))) (fun v h' => cO 2 x v h' EY.outs) := by kernel_rfl
def ahA (x : RH) : Prop :=
 cP (decide ((x.k : Int) ≥ (x.d.n : Int))) (∃ y : Unit,True/\False) (I64 (64 : Int)/\(0<=(x.k : Int)/\(x.k : Int) < (x.d.n : Int))/\(0<=64/\64<=64/\64<=64)/\(0 + x.k) * 193 + 0 + 0 + 64<=x.d.n * 193/\(2 * (0 + 64) + 1000) * 1<=281474976710656/\∃ y : Unit,True/\((0 = 0/\64 = 64)/\(0 : Int) = 0/\True)/\((0 = 0/\kW x.d.n)/\x.d.st = x.d.st/\JI x.d)/\(64 = 64/\∀ q : Nat,q < 64->[Value.int .u8 (x.d.b (x.k * 193 + q))] = Cs.eff (fun (q_1 : Nat) => cond (Nat.blt q_1 0) (@List.nil Value) (Cs.eff (gV x.d) [] ((0 + x.k) * 193 + 0 + 0 + (q_1 - 0)))) [] q)/\(x.d.n * 193 = x.d.n * 193/\∀ q : Nat,q < x.d.n * 193->Cs.eff (gV x.d) [] q = Cs.eff (gV x.d) [] q)/\True)
theorem ahB (x : RH) : ahA x = wpF Tryz.prog qO tt (noA x) 200 5 181 (ahq.args x) (hO 2 (dK 1 (ahq.l x))) (fun v h' => cO 1 x v h' ahq.outs) := by kernel_rfl
end Go.Proofs.YtenfleoejgjklaaGreat
end
section
namespace Go.Proofs.YtenfleoejgjklaaGreat
open Go SE
set_option linter.unusedSimpArgs false
theorem XL (x : Nat) (hx : 1<=x/\x<=4) : ahy x := by
 unfold ahy
 simp only [aaA,kW]
 simp only [aY,aU,aT,ay,aH,bI,bn,aN,aJ,au,aW,aV,bJ,bC,bD,bF,bK,bf,bG,aZ,dU,aG,aK,ah,aj,aA,aC,aB,aF]
 exact bg (fun h => absurd (aQ h) (by omega)) fun _ => bg (fun h => absurd (aQ h) (by omega)) fun _ => by omega
theorem ahC (f : Nat->Int) (k : Nat) (v : Int) (q : Nat) : [Value.int .u64 (if q = k then v else f q)] = Cs.eff (fun k => [Value.int .u64 (f k)]) [(k,[Value.int .u64 v])] q := by
 simp only [Cs.eff,bV,dI,dJ,dY,← Bool.decide_and]
 by_cases h : q = k
 ·rw [if_pos h,if_pos h]
 ·rw [if_neg h,if_neg h]
theorem SB (x : VQ) (hx : x.r.ok/\x.k < x.r.t) : XG x := by
 unfold XG
 simp only [ahw,aht,aaB,Nu,kW]
 simp only [aY,aU,aT,ay,aH,bI,bn,aN,aJ,au,aW,aV,bJ,bC,bD,bF,bK,bf,bG,aZ,dU,aG,aK,ah,aj,aA,aC,aB,aF]
 refine bg (fun h => absurd (aQ h) (by omega)) fun _ => ⟨by omega,hx.2,bg (fun h => ⟨hx.2,.inl ⟨aQ h,fun q _ => ahC _ _ _ _⟩⟩) fun h => ⟨hx.2,.inr (aS h)⟩⟩
theorem SC (x : VQ) (hx : x.r.ok/\x.k < x.r.t) : XH x := by
 unfold XH
 simp only [Nu,aaB,ahv,kW]
 simp only [aY,aU,aT,ay,aH,bI,bn,aN,aJ,au,aW,aV,bJ,bC,bD,bF,bK,bf,bG,aZ,dU,aG,aK,ah,aj,aA,aC,aB,aF]
 refine bg (fun h => absurd (aQ h) (by omega)) fun _ => ⟨by omega,hx.2,hx.2,bg (fun h => ⟨if_pos (beq_iff_eq.1 h),fun q _ => ahC _ _ _ _⟩) fun h => ⟨if_neg (fun e => by simp [e] at h),fun q _ => ahC _ _ _ _⟩⟩
theorem ad5 (x : ZRd) (hx : x.ok) : ao9 x := by
 unfold ao9
 simp only [aht,Nu,kW]
 simp only [aY,aU,aT,ay,aH,bI,bn,aN,aJ,au,aW,aV,bJ,bC,bD,bF,bK,bf,bG,aZ,dU,aG,aK,ah,aj,aA,aC,aB,aF]
theorem SG (x : VP) (hx : x.c.ok/\x.t < x.c.t) : ahz x := Xo x hx
theorem SH (x : ClkM) (hx : x.ok) : XI x := by
 unfold XI
 simp only [Sz,SA,ahr,ahs,kW]
 simp only [aY,aU,aT,ay,aH,bI,bn,aN,aJ,au,aW,aV,bJ,bC,bD,bF,bK,bf,bG,aZ,dU,aG,aK,ah,aj,aA,aC,aB,aF]
theorem SI (x : ClkM) (hx : x.ok) : XJ x := by
 have := hx.1; have := hx.2.1
 unfold XJ
 simp only [Sz,SA,ahr,ahs,kW]
 simp only [aY,aU,aT,ay,aH,bI,bn,aN,aJ,au,aW,aV,bJ,bC,bD,bF,bK,bf,bG,aZ,dU,aG,aK,ah,aj,aA,aC,aB,aF]
 exact ⟨by omega,bg (fun h => absurd (ak h) (by omega)) fun _ => by omega⟩
theorem Nw (x : nD) (hx : x.d.ok/\x.k < x.d.n/\x.b.ok/\x.a + x.b.n<=64) : Nv x := by
 have h := Bf x hx
 unfold Nj at h
 simp only [alG,aag,nK,Xd,kU,RI,Xc,adM] at h
 unfold Nv
 simp only [ahu,ahx,kW,JI,aaz]
 simp only [aY,aU,aT,ay,aH,bI,bn,aN,aJ,au,aW,aV,bJ,bC,bD,bF,bK,bf,bG,aZ,dU,aG,aK,ah,aj,aA,aC,aB,aF] at h ⊢
 exact h
theorem XM (x : RH) (hx : x.d.ok/\x.k < x.d.n) : ahA x := by
 have := hx.1.1
 unfold ahA
 simp only [kW,JI]
 simp only [aY,aU,aT,ay,aH,bI,bn,aN,aJ,au,aW,aV,bJ,bC,bD,bF,bK,bf,bG,aZ,dU,aG,aK,ah,aj,aA,aC,aB,aF]
 refine bg (fun h => absurd (aQ h) (by omega)) fun _ => ⟨by unfold I64; omega,by omega,by omega,by omega,by omega,fun q hq => ?_⟩
 rw [nX,show Nat.blt q 0 = false by simp [bV],aP,show (x.k * 193 + q) % 193 = q by omega,if_neg (by omega)]
theorem alY : bU Tryz.prog 199 Sm.ctr := dH dD mixed eG 2 noA 200 5 (fun _ => ⟨rfl,rfl,rfl,rfl⟩) fun x hx => Eq.mp (adZ x) (SB x (aY.1 hx))
theorem alZ : bU Tryz.prog 211 Sr.ctr := dH dD mixed eG 2 noA 200 5 (fun _ => ⟨rfl,rfl,rfl,rfl⟩) fun x hx => Eq.mp (ad1 x) (SC x (aY.1 hx))
theorem arp : bU Tryz.prog 67 arl.ctr := dH dD mixed eG 2 noA 200 5 (fun _ => ⟨rfl,rfl,rfl,rfl⟩) fun x hx => Eq.mp (alX x) (ad5 x (aY.1 hx))
theorem aaC : bU Tryz.prog 64 (adY 0).ctr := dH dD mixed eG 2 noA 200 5 (fun _ => ⟨rfl,rfl,rfl,rfl⟩) fun x hx => Eq.mp (ad2 x) (SG x (aY.1 hx))
theorem yG : bU Tryz.prog 45 (Ns 0).ctr := dH dD mixed eG 2 noA 200 5 (fun _ => ⟨rfl,rfl,rfl,rfl⟩) fun x hx => Eq.mp (ad3 x) (SH x (aY.1 hx))
theorem DU : bU Tryz.prog 204 (Sv 0).ctr := dH dD mixed eG 2 noA 200 5 (fun _ => ⟨rfl,rfl,rfl,rfl⟩) fun x hx => Eq.mp (ad4 x) (SI x (aY.1 hx))
theorem EZ : bU Tryz.prog 62 EY.ctr := dH dD mixed eG 3 noA 200 5 (fun _ => ⟨rfl,rfl,rfl,rfl⟩) fun x hx => Eq.mp (XK x) (Nw x (aY.1 hx))
theorem apa : bU Tryz.prog 181 ahq.ctr := dH dD mixed eG 2 noA 200 5 (fun _ => ⟨rfl,rfl,rfl,rfl⟩) fun x hx => Eq.mp (ahB x) (XM x (aY.1 hx))
end Go.Proofs.YtenfleoejgjklaaGreat
end
section
namespace Go.Proofs.YtenfleoejgjklaaGreat
open Go SE
theorem oJ {P : Program} {f : FuncId} {C : Ctr} (h : ∀ x,C.pre x->∃ D : Ctr,bU P f D/\D.k = C.k/\∃ y : D.X,D.pre y/\D.args y = C.args x/\D.os y = C.os x/\∀ v h',nU y v h' D.outs->nU x v h' C.outs) : bU P f C := fun x hx => by
 obtain ⟨D,hD,hk,y,hp,ha,ho,hq⟩ := h x hx
 obtain ⟨h1,h2⟩ := hD y hp
 rw [ho,hk] at h1
 rw [ha,hk,ho] at h2
 exact ⟨h1,h2.mono hq⟩
structure iy where
 line : Int
 cls : Int
 r : Int
 d : Int
 anti : Int
namespace iy
def cs (e : iy) : List Value := [.int .i64 e.line,.int .i64 e.cls,.int .u64 e.r,.int .u64 e.d,.int .i64 e.anti]
def av (e : iy) : AV := .agg [i64 e.line,i64 e.cls,u64 e.r,u64 e.d,i64 e.anti]
def may (e : iy) : Prop := 2<=e.line/\e.line < 258/\0<=e.cls/\e.cls<=3/\-1<=e.anti/\e.anti < 258
end iy
structure iD where
 z : Bool
 n : Nat
 e : Nat->iy
namespace iD
def ok (b : iD) : Prop := b.n<=258/\(b.z = true->b.n = 0)
def row (b : iD) : Cs := .row 5 b.n (fun i => (b.e i).cs) []
def osP (b : iD) : List bZ := [.cells 183 (.av [.slW 1 0 5 b.n]),.room 70 b.row]
def osN : List bZ := [.cells 183 (.av [fJ])]
def os (b : iD) : List bZ := bif b.z then osN else b.osP
def put (b : iD) (x : iy) : iD := if b.n < 258 then ⟨false,b.n + 1,fun i => if i = b.n then x else b.e i⟩ else b
end iD
structure CG where
 b : iD
 x : iy
def rF (z : Bool) : jd := lV CG (fun x => [.ptr 0 0,x.x.av]) 1 (fun x => [.m (bif z then iD.osN else x.b.osP)]) (fun x => Hd (x.b.ok/\x.x.may/\x.b.z = z)) (fun x => i64 (if x.b.n < 258 then 0 else 11)) 1 (fun x => [.m (x.b.put x.x).osP])
def Ny : jd := lV Unit (fun _ => [.ptr 0 0]) 1 (fun _ => [.m iD.osN]) (fun _ => Hd True) (fun _ => fJ) 1 (fun _ => [.m iD.osN])
def Nz : jd := lV iD (fun _ => [.ptr 0 0]) 1 (fun b => [.m b.osP]) (fun b => Hd (b.ok/\b.z = false)) (fun b => .slW 1 0 5 b.n) 2 (fun b => [.m b.osP,.o (.room 70 b.row)])
structure dL where
 key : ByteArray
 id : Int
 ver : Int
 line : Int
 cls : Int
namespace dL
def cs (e : dL) : List Value := [.string e.key,.int .u64 e.id,.int .u64 e.ver,.int .i64 e.line,.int .i64 e.cls]
def av (e : dL) : AV := .agg [.lit (.string e.key),u64 e.id,u64 e.ver,i64 e.line,i64 e.cls]
end dL
def pX : dL := ⟨⟨#[]⟩,0,0,0,0⟩
structure ZLn where
 len : Nat
 cap : Nat
 at_ : Nat
 n : Nat
 e : Nat->dL
namespace ZLn
def ok (l : ZLn) : Prop := l.cap < 1099511627776/\l.len<=l.cap/\l.n<=l.len/\(l.len = 0->l.at_ = 0)/\(l.len ≠ 0->l.at_ < l.len)
def row (l : ZLn) : Cs := .row 5 l.cap (fun i => (l.e i).cs) []
def osP (l : ZLn) : List bZ := [.cells 127 (.av [.slE 1 0 5 l.len l.cap,i64 l.at_,i64 l.n]),.cells 41 l.row]
def osN : List bZ := [.cells 127 (.av [fJ,i64 0,i64 0])]
def os (l : ZLn) : List bZ := bif Nat.beq l.len 0 then osN else l.osP
def get (l : ZLn) (i : Nat) : dL := l.e ((l.at_ + i) % l.len)
def push (l : ZLn) (x : dL) : ZLn := if l.n = l.len then ⟨l.n + 1,2 * l.n + 1,0,l.n + 1,fun i => if i < l.n then l.get i else if i = l.n then x else pX⟩ else ⟨l.len,l.cap,l.at_,l.n + 1,fun i => if i = (l.at_ + l.n) % l.len then x else l.e i⟩
def pop (l : ZLn) : ZLn := if l.n = 0 then l else ⟨l.len,l.cap,(l.at_ + 1) % l.len,l.n - 1,fun i => if i = l.at_ then pX else l.e i⟩
def head (l : ZLn) : dL := if l.n = 0 then pX else l.get 0
end ZLn
structure ad6 where
 l : ZLn
 x : dL
def yH : jd := lV dL (fun x => [.ptr 0 0,x.av]) 1 (fun _ => [.m ZLn.osN]) (fun _ => Hd True) (fun _ => .tup []) 1 (fun x => [.m (ZLn.osP ⟨1,1,0,1,fun i => if i = 0 then x else pX⟩)])
def yI : jd := lV ad6 (fun x => [.ptr 0 0,x.x.av]) 1 (fun x => [.m x.l.osP]) (fun x => Hd (x.l.ok/\x.l.len ≠ 0)) (fun _ => .tup []) 1 (fun x => [.m (x.l.push x.x).osP])
def yJ : jd := lV Unit (fun _ => [.ptr 0 0]) 1 (fun _ => [.m ZLn.osN]) (fun _ => Hd True) (fun _ => .tup [pX.av,boo false]) 1 (fun _ => [.m ZLn.osN])
def yK : jd := lV ZLn (fun _ => [.ptr 0 0]) 1 (fun l => [.m l.osP]) (fun l => Hd (l.ok/\l.len ≠ 0)) (fun l => .tup [l.head.av,boo (decide (l.n ≠ 0))]) 1 (fun l => [.m l.osP])
def DV : jd := lV Unit (fun _ => [.ptr 0 0]) 1 (fun _ => [.m ZLn.osN]) (fun _ => Hd True) (fun _ => .tup [pX.av,boo false]) 1 (fun _ => [.m ZLn.osN])
def DW : jd := lV ZLn (fun _ => [.ptr 0 0]) 1 (fun l => [.m l.osP]) (fun l => Hd (l.ok/\l.len ≠ 0)) (fun l => .tup [l.head.av,boo (decide (l.n ≠ 0))]) 1 (fun l => [.m l.pop.osP])
def DX : jd := lV Unit (fun _ => [.ptr 0 0]) 1 (fun _ => [.m ZLn.osN]) (fun _ => Hd True) (fun _ => i64 0) 1 (fun _ => [.m ZLn.osN])
def DY : jd := lV ZLn (fun _ => [.ptr 0 0]) 1 (fun l => [.m l.osP]) (fun l => Hd (l.ok/\l.len ≠ 0)) (fun l => i64 l.n) 1 (fun l => [.m l.osP])
def ZLn.all (l : ZLn) (i : Nat) : Cs := .row 5 i (fun j => (l.get j).cs) []
def DZ : jd := lV Unit (fun _ => [.ptr 0 0]) 1 (fun _ => [.m ZLn.osN]) (fun _ => Hd True) (fun _ => fJ) 1 (fun _ => [.m ZLn.osN])
def D5 : jd := { X := ZLn,args := fun _ => [.ptr 0 0],k := 1,l := fun l => [.m l.osP],pre := fun l => Hd (l.ok/\l.len ≠ 0),outs := [
 { Y := Unit,post := fun l _ => Hd (l.n = 0),ret := fun _ _ => fJ,m := 1,l := fun l _ => [.m l.osP] },
 { Y := Unit,post := fun l _ => Hd (l.n ≠ 0),ret := fun l _ => .slW 1 0 5 l.n,m := 2,l := fun l _ => [.m l.osP,.o (.room 41 (l.all l.n))] }] }
def arq (l : ZLn) : FuncId->vK := fun f => bif Nat.beq f 123 then (fun b _ _ => bif Nat.beq b 0 then [
 { σ := Unit,fr := fun _ => [(9,i64 0),(3,fJ)],ob := fun _ => [],inv := fun _ => Hd True,meas := fun _ => l.n + 1,test := fun fr _ => (match SE.look fr 3 with | .lit _ => true | _ => false) },
 { σ := Nat,fr := fun i => [(9,i64 i),(3,.slW 2 0 5 i)],ob := fun i => [(2,some (.room 41 (l.all i)))],inv := fun i => Hd (1<=i/\i<=l.n),meas := fun i => l.n - i,nx := 1,test := fun fr _ => (match SE.look fr 3 with | .lit _ => false | _ => true) }] else []) else fun _ _ _ => []
end Go.Proofs.YtenfleoejgjklaaGreat
end
section
namespace Go.Proofs.YtenfleoejgjklaaGreat
open Go SE
def JJ (a : ad6) : Prop := ((ZLn.at_ (a.l.push a.x) : Nat) : Int) = 0/\((ZLn.n (a.l.push a.x) : Nat) : Int) = (a.l.n : Int) + 1/\True
def ahD (a : ad6) : Prop := I64 ((a.l.n : Int) + 1)/\True/\∃ y : Unit,True/\True/\(False/\JJ a)/\(ZLn.cap (a.l.push a.x) = a.l.cap/\∀ q : Nat,q < ZLn.cap (a.l.push a.x)->[Value.string (dL.key (ZLn.e (a.l.push a.x) q)),Value.int .u64 (dL.id (ZLn.e (a.l.push a.x) q)),Value.int .u64 (dL.ver (ZLn.e (a.l.push a.x) q)),Value.int .i64 (dL.line (ZLn.e (a.l.push a.x) q)),Value.int .i64 (dL.cls (ZLn.e (a.l.push a.x) q))] = [Value.string (dL.key (a.l.e q)),Value.int .u64 (dL.id (a.l.e q)),Value.int .u64 (dL.ver (a.l.e q)),Value.int .i64 (dL.line (a.l.e q)),Value.int .i64 (dL.cls (a.l.e q))])/\True
def SK (a : ZLn) : Prop := a.cap = a.cap/\∀ q : Nat,q < a.cap->[Value.string (dL.key (a.e q)),Value.int .u64 (dL.id (a.e q)),Value.int .u64 (dL.ver (a.e q)),Value.int .i64 (dL.line (a.e q)),Value.int .i64 (dL.cls (a.e q))] = [Value.string (dL.key (a.e q)),Value.int .u64 (dL.id (a.e q)),Value.int .u64 (dL.ver (a.e q)),Value.int .i64 (dL.line (a.e q)),Value.int .i64 (dL.cls (a.e q))]
def apb (a : CG) : Prop := ((0 = 0/\iD.n (a.b.put a.x) = a.b.n)/\True)/\(iD.n (a.b.put a.x) = a.b.n/\∀ q : Nat,q < iD.n (a.b.put a.x)->[Value.int .i64 (iy.line (iD.e (a.b.put a.x) q)),Value.int .i64 (iy.cls (iD.e (a.b.put a.x) q)),Value.int .u64 (iy.r (iD.e (a.b.put a.x) q)),Value.int .u64 (iy.d (iD.e (a.b.put a.x) q)),Value.int .i64 (iy.anti (iD.e (a.b.put a.x) q))] = [Value.int .i64 (iy.line (a.b.e q)),Value.int .i64 (iy.cls (a.b.e q)),Value.int .u64 (iy.r (a.b.e q)),Value.int .u64 (iy.d (a.b.e q)),Value.int .i64 (iy.anti (a.b.e q))])/\True
def JK (a : CG) : Prop := True/\ite (a.b.n < 258) (0 : Int) (11 : Int) = 1/\(False/\True)/\(List.length [Value.int .i64 a.x.line,Value.int .i64 a.x.cls,Value.int .u64 a.x.r,Value.int .u64 a.x.d,Value.int .i64 a.x.anti] = iD.n (a.b.put a.x) * 5/\∀ q : Nat,q < iD.n (a.b.put a.x)->[Value.int .i64 (iy.line (iD.e (a.b.put a.x) q)),Value.int .i64 (iy.cls (iD.e (a.b.put a.x) q)),Value.int .u64 (iy.r (iD.e (a.b.put a.x) q)),Value.int .u64 (iy.d (iD.e (a.b.put a.x) q)),Value.int .i64 (iy.anti (iD.e (a.b.put a.x) q))] = List.take 5 (List.drop (q * 5) [Value.int .i64 a.x.line,Value.int .i64 a.x.cls,Value.int .u64 a.x.r,Value.int .u64 a.x.d,Value.int .i64 a.x.anti]))/\True
def JL (a : CG) : Prop := True/\ite (a.b.n < 258) (0 : Int) (11 : Int) = 1/\apb a
def yL (a : dL) : Prop := List.all [List.take 5 [Value.string a.key,Value.int .u64 a.id,Value.int .u64 a.ver,Value.int .i64 a.line,Value.int .i64 a.cls]] (fun (l : List Value) => Nat.beq (List.length l) 5 && List.all l Value.oneCell') = true
def aaD (a : ZLn) : Prop := ∀ k : Nat,k < a.at_ - 0->(Nat.beq (List.length [Value.string (dL.key (a.e (0 + k))),Value.int .u64 (dL.id (a.e (0 + k))),Value.int .u64 (dL.ver (a.e (0 + k))),Value.int .i64 (dL.line (a.e (0 + k))),Value.int .i64 (dL.cls (a.e (0 + k)))]) 5 && List.all [Value.string (dL.key (a.e (0 + k))),Value.int .u64 (dL.id (a.e (0 + k))),Value.int .u64 (dL.ver (a.e (0 + k))),Value.int .i64 (dL.line (a.e (0 + k))),Value.int .i64 (dL.cls (a.e (0 + k)))] Value.oneCell') = true
def Bj (a : ZLn) : Prop := (0 = 0/\a.len = a.len/\a.cap = a.cap)/\(a.at_ : Int) = (a.at_ : Int)/\(a.n : Int) = (a.n : Int)/\True
def ahE (a : ad6) : Prop := (2 * (0 + (a.l.len - a.l.at_) + (a.l.at_ - 0) + 1) + 1000) * 48<=281474976710656/\ahD a
def ahF (a : ad6) : Prop := (2 * (0 + (a.l.len - a.l.at_) + (a.l.at_ - 0)) + 1000) * 48<=281474976710656/\True/\True/\0 + (a.l.len - a.l.at_) + (a.l.at_ - 0) = 0 + (a.l.len - a.l.at_) + (a.l.at_ - 0)/\yL a.x/\ahE a
def ahG (a : iD) : Prop := (a.n = a.n/\∀ q : Nat,q < a.n->[Value.int .i64 (iy.line (a.e q)),Value.int .i64 (iy.cls (a.e q)),Value.int .u64 (iy.r (a.e q)),Value.int .u64 (iy.d (a.e q)),Value.int .i64 (iy.anti (a.e q))] = [Value.int .i64 (iy.line (a.e q)),Value.int .i64 (iy.cls (a.e q)),Value.int .u64 (iy.r (a.e q)),Value.int .u64 (iy.d (a.e q)),Value.int .i64 (iy.anti (a.e q))])/\True
def yM (a : ad6) : Prop := ZLn.cap (a.l.push a.x) = Int.toNat (2 * (a.l.n : Int) + 1)
def qw : Prop := Value.slice none 0 0 = Value.slice none 0 0
def E5 : Prop := (qw/\(0 : Int) = 0/\(0 : Int) = 0/\True)/\True
def aaE (a : ZLn) : Prop := (a.head.key = dL.key (a.e (0 + a.at_))/\a.head.id = dL.id (a.e (0 + a.at_))/\a.head.ver = dL.ver (a.e (0 + a.at_))/\a.head.line = dL.line (a.e (0 + a.at_))/\a.head.cls = dL.cls (a.e (0 + a.at_))/\True)/\decide (a.n ≠ 0) = true/\True
def aaF : Prop := ∃ y : Unit,True/\((ByteArray.mk #[] = ByteArray.mk #[]/\(0 : Int) = 0/\(0 : Int) = 0/\(0 : Int) = 0/\(0 : Int) = 0/\True)/\false = false/\True)/\E5
def aaG (a : ZLn) : Prop := (a.head.key = ByteArray.mk #[]/\a.head.id = 0/\a.head.ver = 0/\a.head.line = 0/\a.head.cls = 0/\True)/\decide (a.n ≠ 0) = false/\True
def aaH (a : ZLn) : Prop := 0 + (0 + (a.len - a.at_))<=Int.toNat (2 * (a.n : Int) + 1)
def aaI (a : ZLn) : Prop := 0<=a.at_/\a.at_<=a.cap/\a.cap<=a.cap
def SL (a : ZLn) : Prop := 0<=(a.at_ : Int)/\(a.at_ : Int) < (a.len : Int)
def Bl (a : ZLn) : Prop := Bj a/\SK a/\True
def E8 (x : CG) : Prop :=
 cP (decide (x.x.line ≥ (2 : Int))) (cP (decide (x.x.line < 258)) (∃ x_1 : Int,True/\(x_1 = x.x.cls/\True)/\True/\∀ y : Unit,True->cP (decide (spn x_1 > (0 : Int))) (cP (decide (x.x.anti ≥ (-(1 : Int)))) (cP (Bool.not (decide (x.x.anti < 258))) (∃ y_1 : Unit,JK x) ((AV.lit (Value.slice none 0 0) = AV.lit (Value.slice none 0 0)/\True)/\(2 * (0 + 1) + 1000) * 40<=281474976710656/\True/\True/\∃ y_1 : Unit,True/\ite (x.b.n < 258) (0 : Int) (11 : Int) = 0/\((0 = 0/\iD.n (x.b.put x.x) = 1)/\True)/\(iD.n (x.b.put x.x) = 0 + List.length [List.take 5 [Value.int .i64 x.x.line,Value.int .i64 x.x.cls,Value.int .u64 x.x.r,Value.int .u64 x.x.d,Value.int .i64 x.x.anti]]/\∀ q : Nat,q < iD.n (x.b.put x.x)->[Value.int .i64 (iy.line (iD.e (x.b.put x.x) q)),Value.int .i64 (iy.cls (iD.e (x.b.put x.x) q)),Value.int .u64 (iy.r (iD.e (x.b.put x.x) q)),Value.int .u64 (iy.d (iD.e (x.b.put x.x) q)),Value.int .i64 (iy.anti (iD.e (x.b.put x.x) q))] = Cs.eff (fun (x_2 : Nat) => []) [(0,List.take 5 [Value.int .i64 x.x.line,Value.int .i64 x.x.cls,Value.int .u64 x.x.r,Value.int .u64 x.x.d,Value.int .i64 x.x.anti])] q)/\True)) (∃ y_1 : Unit,JK x)) (∃ y_1 : Unit,JK x)) (∃ y : Unit,JK x)) (∃ y : Unit,JK x)
theorem SN (x : CG) : E8 x = wpF Tryz.prog alO tt (noA x) 200 5 66 ((rF true).args x) (hO 1 (dK 1 ((rF true).l x))) (fun v h' => cO 1 x v h' (rF true).outs) := by kernel_rfl
def Fa (x : CG) : Prop :=
 cP (decide (x.x.line ≥ (2 : Int))) (cP (decide (x.x.line < 258)) (∃ x_1 : Int,True/\(x_1 = x.x.cls/\True)/\True/\∀ y : Unit,True->cP (decide (spn x_1 > (0 : Int))) (cP (decide (x.x.anti ≥ (-(1 : Int)))) (cP (Bool.not (decide (x.x.anti < 258))) (∃ y_1 : Unit,JL x) (cP (decide ((x.b.n : Int) ≥ (258 : Int))) (∃ y_1 : Unit,True/\ite (x.b.n < 258) (0 : Int) (11 : Int) = 11/\apb x) ((AV.slW 1 0 5 x.b.n = AV.slW 1 0 5 x.b.n/\True)/\x.b.n = x.b.n/\List.all [List.take 5 [Value.int .i64 x.x.line,Value.int .i64 x.x.cls,Value.int .u64 x.x.r,Value.int .u64 x.x.d,Value.int .i64 x.x.anti]] (fun (l : List Value) => Nat.beq (List.length l) 5 && List.all l Value.oneCell') = true/\(2 * (x.b.n + 1) + 1000) * 40<=281474976710656/\True/\True/\∃ y_1 : Unit,True/\ite (x.b.n < 258) (0 : Int) (11 : Int) = 0/\((0 = 0/\iD.n (x.b.put x.x) = x.b.n + 1)/\True)/\(iD.n (x.b.put x.x) = x.b.n + List.length [List.take 5 [Value.int .i64 x.x.line,Value.int .i64 x.x.cls,Value.int .u64 x.x.r,Value.int .u64 x.x.d,Value.int .i64 x.x.anti]]/\∀ q : Nat,q < iD.n (x.b.put x.x)->[Value.int .i64 (iy.line (iD.e (x.b.put x.x) q)),Value.int .i64 (iy.cls (iD.e (x.b.put x.x) q)),Value.int .u64 (iy.r (iD.e (x.b.put x.x) q)),Value.int .u64 (iy.d (iD.e (x.b.put x.x) q)),Value.int .i64 (iy.anti (iD.e (x.b.put x.x) q))] = Cs.eff (fun (i : Nat) => iy.cs (x.b.e i)) [(x.b.n,List.take 5 [Value.int .i64 x.x.line,Value.int .i64 x.x.cls,Value.int .u64 x.x.r,Value.int .u64 x.x.d,Value.int .i64 x.x.anti])] q)/\True))) (∃ y_1 : Unit,JL x)) (∃ y_1 : Unit,JL x)) (∃ y : Unit,JL x)) (∃ y : Unit,JL x)
theorem SQ (x : CG) : Fa x = wpF Tryz.prog alO tt (noA x) 200 5 66 ((rF false).args x) (hO 2 (dK 1 ((rF false).l x))) (fun v h' => cO 1 x v h' (rF false).outs) := by kernel_rfl
def Fb (x : Unit) : Prop :=
 ∃ y : Unit,True/\qw/\(qw/\True)/\True
theorem SS (x : Unit) : Fb x = wpF Tryz.prog qO tt (noA x) 200 5 278 (Ny.args x) (hO 1 (dK 1 (Ny.l x))) (fun v h' => cO 1 x v h' Ny.outs) := by kernel_rfl
def Fe (x : iD) : Prop :=
 0 + x.n<=x.n/\cP (Nat.beq x.n 0) (∃ y : Unit,True/\(x.n = 0/\0 = 0/\0 = 0)/\((0 = 0/\x.n = x.n)/\True)/\(0 = x.n * 5/\∀ q : Nat,q < x.n->[Value.int .i64 (iy.line (x.e q)),Value.int .i64 (iy.cls (x.e q)),Value.int .u64 (iy.r (x.e q)),Value.int .u64 (iy.d (x.e q)),Value.int .i64 (iy.anti (x.e q))] = List.take 5 (List.drop (q * 5) (@List.nil Value)))/\ahG x) ((2 * (0 + x.n) + 1000) * 40<=281474976710656/\∃ y : Unit,True/\(0 = 0/\x.n = 0 + x.n)/\((0 = 0/\x.n = x.n)/\True)/\(x.n = 0 + x.n/\∀ q : Nat,q < x.n->[Value.int .i64 (iy.line (x.e q)),Value.int .i64 (iy.cls (x.e q)),Value.int .u64 (iy.r (x.e q)),Value.int .u64 (iy.d (x.e q)),Value.int .i64 (iy.anti (x.e q))] = [Value.int .i64 (iy.line (x.e (0 + (q - 0)))),Value.int .i64 (iy.cls (x.e (0 + (q - 0)))),Value.int .u64 (iy.r (x.e (0 + (q - 0)))),Value.int .u64 (iy.d (x.e (0 + (q - 0)))),Value.int .i64 (iy.anti (x.e (0 + (q - 0))))])/\ahG x)
theorem SV (x : iD) : Fe x = wpF Tryz.prog qO tt (noA x) 200 5 278 (Nz.args x) (hO 2 (dK 1 (Nz.l x))) (fun v h' => cO 1 x v h' Nz.outs) := by kernel_rfl
def vW (x : dL) : Prop :=
 I64 (0 : Int)/\I64 (1 : Int)/\((0 : Int)<=0/\(0 : Int)<=1/\(0 : Int)<=281474976710608/\(0 : Int)<=4611686018427387902)/\(0 : Int)<=0/\(0<=0/\0<=0/\0<=0)/\0<=1/\True/\True/\(0 : Int)<=0/\(0<=0/\0<=0/\0<=0)/\0<=1/\True/\True/\0<=1/\yL x/\0 + (0 + 1)<=1/\I64 (1 : Int)/\True/\∃ y : Unit,True/\True/\((0 = 0/\1 = 1/\1 = 1)/\((0 : Nat) : Int) = 0/\((1 : Nat) : Int) = 1/\True)/\(1 = 1/\∀ q : Nat,q < 1->[Value.string (dL.key (ite (q = 0) x pX)),Value.int .u64 (dL.id (ite (q = 0) x pX)),Value.int .u64 (dL.ver (ite (q = 0) x pX)),Value.int .i64 (dL.line (ite (q = 0) x pX)),Value.int .i64 (dL.cls (ite (q = 0) x pX))] = Cs.eff (fun (x_1 : Nat) => [Value.string (ByteArray.mk #[]),Value.int .u64 0,Value.int .u64 0,Value.int .i64 0,Value.int .i64 0]) [(0,List.take 5 [Value.string x.key,Value.int .u64 x.id,Value.int .u64 x.ver,Value.int .i64 x.line,Value.int .i64 x.cls])] q)/\True
theorem Ic (x : dL) : vW x = wpF Tryz.prog qO tt (noA x) 200 5 254 (yH.args x) (hO 1 (dK 1 (yH.l x))) (fun v h' => cO 1 x v h' yH.outs) := by kernel_rfl
def vY (x : ad6) : Prop :=
 cP (BEq.beq (x.l.n : Int) (x.l.len : Int)) (I64 (2 * (x.l.n : Int))/\I64 (2 * (x.l.n : Int) + 1)/\((0 : Int)<=0/\0<=2 * (x.l.n : Int) + 1/\48 * (2 * (x.l.n : Int) + 1)<=281474976710656/\2 * (x.l.n : Int) + 1 < 4611686018427387904)/\0<=(x.l.at_ : Int)/\(x.l.at_<=x.l.len/\x.l.len<=x.l.cap/\x.l.cap<=x.l.cap)/\0<=Int.toNat (2 * (x.l.n : Int) + 1)/\0 + x.l.at_ + (x.l.len - x.l.at_)<=x.l.cap/\cP (Nat.beq (x.l.len - x.l.at_) 0) (True/\True/\0<=(x.l.at_ : Int)/\aaI x.l/\0<=Int.toNat (2 * (x.l.n : Int) + 1)/\0 + (x.l.at_ - 0)<=x.l.cap/\cP (Nat.beq (x.l.at_ - 0) 0) (True/\True/\0<=Int.toNat (2 * (x.l.n : Int) + 1)/\yL x.x/\0 + (0 + 1)<=Int.toNat (2 * (x.l.n : Int) + 1)/\I64 ((x.l.n : Int) + 1)/\True/\∃ y : Unit,True/\True/\((0 = 0/\ZLn.len (x.l.push x.x) = 1/\yM x)/\JJ x)/\(yM x/\∀ q : Nat,q < ZLn.cap (x.l.push x.x)->[Value.string (dL.key (ZLn.e (x.l.push x.x) q)),Value.int .u64 (dL.id (ZLn.e (x.l.push x.x) q)),Value.int .u64 (dL.ver (ZLn.e (x.l.push x.x) q)),Value.int .i64 (dL.line (ZLn.e (x.l.push x.x) q)),Value.int .i64 (dL.cls (ZLn.e (x.l.push x.x) q))] = Cs.eff (fun (x_1 : Nat) => [Value.string (ByteArray.mk #[]),Value.int .u64 0,Value.int .u64 0,Value.int .i64 0,Value.int .i64 0]) [(0,List.take 5 [Value.string x.x.key,Value.int .u64 x.x.id,Value.int .u64 x.x.ver,Value.int .i64 x.x.line,Value.int .i64 x.x.cls])] q)/\True) (cP (Nat.ble (0 + (x.l.at_ - 0)) (Int.toNat (2 * (x.l.n : Int) + 1))) (aaD x.l/\0 + (0 + (x.l.at_ - 0))<=Int.toNat (2 * (x.l.n : Int) + 1)/\True/\True/\0 + (0 + (x.l.at_ - 0))<=Int.toNat (2 * (x.l.n : Int) + 1)/\cP (Nat.ble (0 + (x.l.at_ - 0) + 1) (Int.toNat (2 * (x.l.n : Int) + 1))) (yL x.x/\
 0 + (0 + (x.l.at_ - 0) + 1)<=Int.toNat (2 * (x.l.n : Int) + 1)/\I64 ((x.l.n : Int) + 1)/\True/\∃ y : Unit,True/\True/\((0 = 0/\ZLn.len (x.l.push x.x) = 0 + (x.l.at_ - 0) + 1/\yM x)/\JJ x)/\(yM x/\∀ q : Nat,q < ZLn.cap (x.l.push x.x)->[Value.string (dL.key (ZLn.e (x.l.push x.x) q)),Value.int .u64 (dL.id (ZLn.e (x.l.push x.x) q)),Value.int .u64 (dL.ver (ZLn.e (x.l.push x.x) q)),Value.int .i64 (dL.line (ZLn.e (x.l.push x.x) q)),Value.int .i64 (dL.cls (ZLn.e (x.l.push x.x) q))] = Cs.eff (fun (p : Nat) => cond (Nat.ble 0 p && Nat.blt p (0 + (x.l.at_ - 0))) [Value.string (dL.key (x.l.e (0 + (p - 0)))),Value.int .u64 (dL.id (x.l.e (0 + (p - 0)))),Value.int .u64 (dL.ver (x.l.e (0 + (p - 0)))),Value.int .i64 (dL.line (x.l.e (0 + (p - 0)))),Value.int .i64 (dL.cls (x.l.e (0 + (p - 0))))] [Value.string (ByteArray.mk #[]),Value.int .u64 0,Value.int .u64 0,Value.int .i64 0,Value.int .i64 0]) [(0 + (0 + (x.l.at_ - 0)),List.take 5 [Value.string x.x.key,Value.int .u64 x.x.id,Value.int .u64 x.x.ver,Value.int .i64 x.x.line,Value.int .i64 x.x.cls])] q)/\True) ((2 * (0 + (x.l.at_ - 0) + 1) + 1000) * 48<=281474976710656/\ahD x)) ((2 * (0 + (x.l.at_ - 0)) + 1000) * 48<=281474976710656/\True/\True/\0 + (x.l.at_ - 0) = 0 + (x.l.at_ - 0)/\yL x.x/\(2 * (0 + (x.l.at_ - 0) + 1) + 1000) * 48<=281474976710656/\
 ahD x))) (cP (Nat.ble (0 + (x.l.len - x.l.at_)) (Int.toNat (2 * (x.l.n : Int) + 1))) ((∀ k : Nat,k < x.l.len - x.l.at_->(Nat.beq (List.length [Value.string (dL.key (x.l.e (0 + x.l.at_ + k))),Value.int .u64 (dL.id (x.l.e (0 + x.l.at_ + k))),Value.int .u64 (dL.ver (x.l.e (0 + x.l.at_ + k))),Value.int .i64 (dL.line (x.l.e (0 + x.l.at_ + k))),Value.int .i64 (dL.cls (x.l.e (0 + x.l.at_ + k)))]) 5 && List.all [Value.string (dL.key (x.l.e (0 + x.l.at_ + k))),Value.int .u64 (dL.id (x.l.e (0 + x.l.at_ + k))),Value.int .u64 (dL.ver (x.l.e (0 + x.l.at_ + k))),Value.int .i64 (dL.line (x.l.e (0 + x.l.at_ + k))),Value.int .i64 (dL.cls (x.l.e (0 + x.l.at_ + k)))] Value.oneCell') = true)/\aaH x.l/\True/\True/\0<=(x.l.at_ : Int)/\aaI x.l/\aaH x.l/\0 + (x.l.at_ - 0)<=x.l.cap/\cP (Nat.beq (x.l.at_ - 0) 0) (True/\True/\aaH x.l/\cP (Nat.ble (0 + (x.l.len - x.l.at_) + 1) (Int.toNat (2 * (x.l.n : Int) + 1))) (yL x.x/\0 + (0 + (x.l.len - x.l.at_) + 1)<=Int.toNat (2 * (x.l.n : Int) + 1)/\I64 ((x.l.n : Int) + 1)/\True/\∃ y : Unit,True/\True/\((0 = 0/\ZLn.len (x.l.push x.x) = 0 + (x.l.len - x.l.at_) + 1/\yM x)/\JJ x)/\(yM x/\
 ∀ q : Nat,q < ZLn.cap (x.l.push x.x)->[Value.string (dL.key (ZLn.e (x.l.push x.x) q)),Value.int .u64 (dL.id (ZLn.e (x.l.push x.x) q)),Value.int .u64 (dL.ver (ZLn.e (x.l.push x.x) q)),Value.int .i64 (dL.line (ZLn.e (x.l.push x.x) q)),Value.int .i64 (dL.cls (ZLn.e (x.l.push x.x) q))] = Cs.eff (fun (p : Nat) => cond (Nat.ble 0 p && Nat.blt p (0 + (x.l.len - x.l.at_))) [Value.string (dL.key (x.l.e (0 + x.l.at_ + (p - 0)))),Value.int .u64 (dL.id (x.l.e (0 + x.l.at_ + (p - 0)))),Value.int .u64 (dL.ver (x.l.e (0 + x.l.at_ + (p - 0)))),Value.int .i64 (dL.line (x.l.e (0 + x.l.at_ + (p - 0)))),Value.int .i64 (dL.cls (x.l.e (0 + x.l.at_ + (p - 0))))] [Value.string (ByteArray.mk #[]),Value.int .u64 0,Value.int .u64 0,Value.int .i64 0,Value.int .i64 0]) [(0 + (0 + (x.l.len - x.l.at_)),List.take 5 [Value.string x.x.key,Value.int .u64 x.x.id,Value.int .u64 x.x.ver,Value.int .i64 x.x.line,Value.int .i64 x.x.cls])] q)/\True) ((2 * (0 + (x.l.len - x.l.at_) + 1) + 1000) * 48<=281474976710656/\ahD x)) (cP (Nat.ble (0 + (x.l.len - x.l.at_) + (x.l.at_ - 0)) (Int.toNat (2 * (x.l.n : Int) + 1))) (aaD x.l/\0 + (0 + (x.l.len - x.l.at_) + (x.l.at_ - 0))<=Int.toNat (2 * (x.l.n : Int) + 1)/\True/\True/\0 + (0 + (x.l.len - x.l.at_) + (x.l.at_ - 0))<=Int.toNat (2 * (x.l.n : Int) + 1)/\cP (Nat.ble (0 + (x.l.len - x.l.at_) + (x.l.at_ - 0) + 1) (Int.toNat (2 * (x.l.n : Int) + 1))) (yL x.x/\0 + (0 + (x.l.len - x.l.at_) + (x.l.at_ - 0) + 1)<=Int.toNat (2 * (x.l.n : Int) + 1)/\I64 ((x.l.n : Int) + 1)/\True/\∃ y : Unit,True/\True/\((0 = 0/\ZLn.len (x.l.push x.x) = 0 + (x.l.len - x.l.at_) + (x.l.at_ - 0) + 1/\yM x)/\JJ x)/\(yM x/\
 ∀ q : Nat,q < ZLn.cap (x.l.push x.x)->[Value.string (dL.key (ZLn.e (x.l.push x.x) q)),Value.int .u64 (dL.id (ZLn.e (x.l.push x.x) q)),Value.int .u64 (dL.ver (ZLn.e (x.l.push x.x) q)),Value.int .i64 (dL.line (ZLn.e (x.l.push x.x) q)),Value.int .i64 (dL.cls (ZLn.e (x.l.push x.x) q))] = Cs.eff (fun (p : Nat) => cond (Nat.ble (0 + (0 + (x.l.len - x.l.at_))) p && Nat.blt p (0 + (0 + (x.l.len - x.l.at_)) + (x.l.at_ - 0))) [Value.string (dL.key (x.l.e (0 + (p - (0 + (0 + (x.l.len - x.l.at_))))))),Value.int .u64 (dL.id (x.l.e (0 + (p - (0 + (0 + (x.l.len - x.l.at_))))))),Value.int .u64 (dL.ver (x.l.e (0 + (p - (0 + (0 + (x.l.len - x.l.at_))))))),Value.int .i64 (dL.line (x.l.e (0 + (p - (0 + (0 + (x.l.len - x.l.at_))))))),Value.int .i64 (dL.cls (x.l.e (0 + (p - (0 + (0 + (x.l.len - x.l.at_)))))))] (Cs.eff (fun (p_1 : Nat) => cond (Nat.ble 0 p_1 && Nat.blt p_1 (0 + (x.l.len - x.l.at_))) [Value.string (dL.key (x.l.e (0 + x.l.at_ + (p_1 - 0)))),Value.int .u64 (dL.id (x.l.e (0 + x.l.at_ + (p_1 - 0)))),Value.int .u64 (dL.ver (x.l.e (0 + x.l.at_ + (p_1 - 0)))),Value.int .i64 (dL.line (x.l.e (0 + x.l.at_ + (p_1 - 0)))),Value.int .i64 (dL.cls (x.l.e (0 + x.l.at_ + (p_1 - 0))))] [Value.string (ByteArray.mk #[]),Value.int .u64 0,Value.int .u64 0,Value.int .i64 0,Value.int .i64 0]) [] p)) [(0 + (0 + (x.l.len - x.l.at_) + (x.l.at_ - 0)),List.take 5 [Value.string x.x.key,Value.int .u64 x.x.id,Value.int .u64 x.x.ver,Value.int .i64 x.x.line,Value.int .i64 x.x.cls])] q)/\True) (ahE x)) (ahF x))) ((2 * (0 + (x.l.len - x.l.at_)) + 1000) * 48<=281474976710656/\True/\True/\0<=(x.l.at_ : Int)/\aaI x.l/\0 + (x.l.len - x.l.at_) = 0 + (x.l.len - x.l.at_)/\0 + (x.l.at_ - 0)<=x.l.cap/\aaD x.l/\
 ahF x))) (I64 ((x.l.at_ : Int) + (x.l.n : Int))/\((x.l.len : Int) = 0->False)/\(0<=Int.tmod ((x.l.at_ : Int) + (x.l.n : Int)) (x.l.len : Int)/\Int.tmod ((x.l.at_ : Int) + (x.l.n : Int)) (x.l.len : Int) < (x.l.len : Int))/\0 + Int.toNat (Int.tmod ((x.l.at_ : Int) + (x.l.n : Int)) (x.l.len : Int)) < x.l.cap/\True/\I64 ((x.l.n : Int) + 1)/\True/\∃ y : Unit,True/\True/\((0 = 0/\ZLn.len (x.l.push x.x) = x.l.len/\ZLn.cap (x.l.push x.x) = x.l.cap)/\((ZLn.at_ (x.l.push x.x) : Nat) : Int) = (x.l.at_ : Int)/\((ZLn.n (x.l.push x.x) : Nat) : Int) = (x.l.n : Int) + 1/\True)/\(ZLn.cap (x.l.push x.x) = x.l.cap/\∀ q : Nat,q < ZLn.cap (x.l.push x.x)->[Value.string (dL.key (ZLn.e (x.l.push x.x) q)),Value.int .u64 (dL.id (ZLn.e (x.l.push x.x) q)),Value.int .u64 (dL.ver (ZLn.e (x.l.push x.x) q)),Value.int .i64 (dL.line (ZLn.e (x.l.push x.x) q)),Value.int .i64 (dL.cls (ZLn.e (x.l.push x.x) q))] = Cs.eff (fun (i : Nat) => dL.cs (x.l.e i)) [(0 + Int.toNat (Int.tmod ((x.l.at_ : Int) + (x.l.n : Int)) (x.l.len : Int)),[Value.string x.x.key,Value.int .u64 x.x.id,Value.int .u64 x.x.ver,Value.int .i64 x.x.line,Value.int .i64 x.x.cls])] q)/\True)
theorem Ie (x : ad6) : vY x = wpF Tryz.prog qO tt (noA x) 200 5 254 (yI.args x) (hO 2 (dK 1 (yI.l x))) (fun v h' => cO 1 x v h' yI.outs) := by kernel_rfl
def vZ (x : Unit) : Prop :=
 aaF
theorem Ig (x : Unit) : vZ x = wpF Tryz.prog qO tt (noA x) 200 5 154 (yJ.args x) (hO 1 (dK 1 (yJ.l x))) (fun v h' => cO 1 x v h' yJ.outs) := by kernel_rfl
def wo (x : ZLn) : Prop :=
 cP (BEq.beq (x.n : Int) (0 : Int)) (∃ y : Unit,True/\aaG x/\Bl x) (SL x/\0 + x.at_ < x.cap/\True/\∃ y : Unit,True/\aaE x/\Bl x)
theorem Ih (x : ZLn) : wo x = wpF Tryz.prog qO tt (noA x) 200 5 154 (yK.args x) (hO 2 (dK 1 (yK.l x))) (fun v h' => cO 1 x v h' yK.outs) := by kernel_rfl
def zJ (x : Unit) : Prop :=
 aaF
theorem NC (x : Unit) : zJ x = wpF Tryz.prog qO tt (noA x) 200 5 255 (DV.args x) (hO 1 (dK 1 (DV.l x))) (fun v h' => cO 1 x v h' DV.outs) := by kernel_rfl
def zK (x : ZLn) : Prop :=
 cP (BEq.beq (x.n : Int) (0 : Int)) (∃ y : Unit,True/\aaG x/\((0 = 0/\x.pop.len = x.len/\x.pop.cap = x.cap)/\(x.pop.at_ : Int) = (x.at_ : Int)/\(x.pop.n : Int) = (x.n : Int)/\True)/\(x.pop.cap = x.cap/\∀ q : Nat,q < x.pop.cap->[Value.string (dL.key (x.pop.e q)),Value.int .u64 (dL.id (x.pop.e q)),Value.int .u64 (dL.ver (x.pop.e q)),Value.int .i64 (dL.line (x.pop.e q)),Value.int .i64 (dL.cls (x.pop.e q))] = [Value.string (dL.key (x.e q)),Value.int .u64 (dL.id (x.e q)),Value.int .u64 (dL.ver (x.e q)),Value.int .i64 (dL.line (x.e q)),Value.int .i64 (dL.cls (x.e q))])/\True) (SL x/\0 + x.at_ < x.cap/\True/\SL x/\0 + x.at_ < x.cap/\True/\I64 ((x.at_ : Int) + 1)/\((x.len : Int) = 0->False)/\True/\I64 ((x.n : Int) - 1)/\∃ y : Unit,True/\aaE x/\((0 = 0/\x.pop.len = x.len/\x.pop.cap = x.cap)/\(x.pop.at_ : Int) = Int.tmod ((x.at_ : Int) + 1) (x.len : Int)/\(x.pop.n : Int) = (x.n : Int) - 1/\True)/\(x.pop.cap = x.cap/\∀ q : Nat,q < x.pop.cap->[Value.string (dL.key (x.pop.e q)),Value.int .u64 (dL.id (x.pop.e q)),Value.int .u64 (dL.ver (x.pop.e q)),Value.int .i64 (dL.line (x.pop.e q)),Value.int .i64 (dL.cls (x.pop.e q))] = Cs.eff (fun (i : Nat) => dL.cs (x.e i)) [(0 + x.at_,[Value.string (ByteArray.mk #[]),Value.int .u64 0,Value.int .u64 0,Value.int .i64 0,Value.int .i64 0])] q)/\True)
theorem ND (x : ZLn) : zK x = wpF Tryz.prog qO tt (noA x) 200 5 255 (DW.args x) (hO 2 (dK 1 (DW.l x))) (fun v h' => cO 1 x v h' DW.outs) := by kernel_rfl
def zL (x : Unit) : Prop :=
 ∃ y : Unit,True/\(0 : Int) = 0/\E5
theorem NG (x : Unit) : zL x = wpF Tryz.prog qO tt (noA x) 200 5 21 (DX.args x) (hO 1 (dK 1 (DX.l x))) (fun v h' => cO 1 x v h' DX.outs) := by kernel_rfl
def zM (x : ZLn) : Prop :=
 ∃ y : Unit,True/\(x.n : Int) = (x.n : Int)/\Bl x
theorem NH (x : ZLn) : zM x = wpF Tryz.prog qO tt (noA x) 200 5 21 (DY.args x) (hO 2 (dK 1 (DY.l x))) (fun v h' => cO 1 x v h' DY.outs) := by kernel_rfl
def zN (x : Unit) : Prop :=
 ∃ y : Unit,True/\qw/\E5
theorem NI (x : Unit) : zN x = wpF Tryz.prog qO tt (noA x) 200 5 70 (DZ.args x) (hO 1 (dK 1 (DZ.l x))) (fun v h' => cO 1 x v h' DZ.outs) := by kernel_rfl
def zO (x : ZLn) : Prop :=
 (∃ s : Unit,Hd True/\True/\((0 : Int) = 0/\qw/\True)/\SK x/\Bj x/\True)/\(∀ s : Unit,Hd True->cP (decide (0 < (x.n : Int))) (I64 ((x.at_ : Int) + 0)/\((x.len : Int) = 0->False)/\(0<=Int.tmod ((x.at_ : Int) + 0) (x.len : Int)/\Int.tmod ((x.at_ : Int) + 0) (x.len : Int) < (x.len : Int))/\0 + Int.toNat (Int.tmod ((x.at_ : Int) + 0) (x.len : Int)) < x.cap/\True/\(2 * (0 + 1) + 1000) * 48<=281474976710656/\True/\True/\I64 (1 : Int)/\∃ s_1 : Nat,Hd (1<=s_1/\s_1<=x.n)/\x.n - s_1 < x.n + 1/\((s_1 : Int) = 1/\(0 = 0/\s_1 = 1)/\True)/\(s_1 = 0 + List.length [List.take 5 [Value.string (dL.key (x.e (0 + Int.toNat (Int.tmod ((x.at_ : Int) + 0) (x.len : Int))))),Value.int .u64 (dL.id (x.e (0 + Int.toNat (Int.tmod ((x.at_ : Int) + 0) (x.len : Int))))),Value.int .u64 (dL.ver (x.e (0 + Int.toNat (Int.tmod ((x.at_ : Int) + 0) (x.len : Int))))),Value.int .i64 (dL.line (x.e (0 + Int.toNat (Int.tmod ((x.at_ : Int) + 0) (x.len : Int))))),Value.int .i64 (dL.cls (x.e (0 + Int.toNat (Int.tmod ((x.at_ : Int) + 0) (x.len : Int)))))]]/\
 ∀ q : Nat,q < s_1->[Value.string (dL.key (x.get q)),Value.int .u64 (dL.id (x.get q)),Value.int .u64 (dL.ver (x.get q)),Value.int .i64 (dL.line (x.get q)),Value.int .i64 (dL.cls (x.get q))] = Cs.eff (fun (x_1 : Nat) => []) [(0,List.take 5 [Value.string (dL.key (x.e (0 + Int.toNat (Int.tmod ((x.at_ : Int) + 0) (x.len : Int))))),Value.int .u64 (dL.id (x.e (0 + Int.toNat (Int.tmod ((x.at_ : Int) + 0) (x.len : Int))))),Value.int .u64 (dL.ver (x.e (0 + Int.toNat (Int.tmod ((x.at_ : Int) + 0) (x.len : Int))))),Value.int .i64 (dL.line (x.e (0 + Int.toNat (Int.tmod ((x.at_ : Int) + 0) (x.len : Int))))),Value.int .i64 (dL.cls (x.e (0 + Int.toNat (Int.tmod ((x.at_ : Int) + 0) (x.len : Int)))))])] q)/\SK x/\Bj x/\True) ((∃ y : Unit,Hd (x.n = 0)/\qw/\Bl x) ∨ ∃ y : Unit,Hd (x.n ≠ 0)/\False))/\(∀ s : Nat,Hd (1<=s/\s<=x.n)->cP (decide ((s : Int) < (x.n : Int))) (I64 ((x.at_ : Int) + (s : Int))/\((x.len : Int) = 0->False)/\(0<=Int.tmod ((x.at_ : Int) + (s : Int)) (x.len : Int)/\Int.tmod ((x.at_ : Int) + (s : Int)) (x.len : Int) < (x.len : Int))/\0 + Int.toNat (Int.tmod ((x.at_ : Int) + (s : Int)) (x.len : Int)) < x.cap/\True/\s = s/\
 List.all [List.take 5 [Value.string (dL.key (x.e (0 + Int.toNat (Int.tmod ((x.at_ : Int) + (s : Int)) (x.len : Int))))),Value.int .u64 (dL.id (x.e (0 + Int.toNat (Int.tmod ((x.at_ : Int) + (s : Int)) (x.len : Int))))),Value.int .u64 (dL.ver (x.e (0 + Int.toNat (Int.tmod ((x.at_ : Int) + (s : Int)) (x.len : Int))))),Value.int .i64 (dL.line (x.e (0 + Int.toNat (Int.tmod ((x.at_ : Int) + (s : Int)) (x.len : Int))))),Value.int .i64 (dL.cls (x.e (0 + Int.toNat (Int.tmod ((x.at_ : Int) + (s : Int)) (x.len : Int)))))]] (fun (l : List Value) => Nat.beq (List.length l) 5 && List.all l Value.oneCell') = true/\(2 * (s + 1) + 1000) * 48<=281474976710656/\True/\True/\I64 ((s : Int) + 1)/\∃ s_1 : Nat,Hd (1<=s_1/\s_1<=x.n)/\x.n - s_1 < x.n - s/\((s_1 : Int) = (s : Int) + 1/\(0 = 0/\s_1 = s + 1)/\True)/\(s_1 = s + List.length [List.take 5 [Value.string (dL.key (x.e (0 + Int.toNat (Int.tmod ((x.at_ : Int) + (s : Int)) (x.len : Int))))),Value.int .u64 (dL.id (x.e (0 + Int.toNat (Int.tmod ((x.at_ : Int) + (s : Int)) (x.len : Int))))),Value.int .u64 (dL.ver (x.e (0 + Int.toNat (Int.tmod ((x.at_ : Int) + (s : Int)) (x.len : Int))))),Value.int .i64 (dL.line (x.e (0 + Int.toNat (Int.tmod ((x.at_ : Int) + (s : Int)) (x.len : Int))))),Value.int .i64 (dL.cls (x.e (0 + Int.toNat (Int.tmod ((x.at_ : Int) + (s : Int)) (x.len : Int)))))]]/\
 ∀ q : Nat,q < s_1->[Value.string (dL.key (x.get q)),Value.int .u64 (dL.id (x.get q)),Value.int .u64 (dL.ver (x.get q)),Value.int .i64 (dL.line (x.get q)),Value.int .i64 (dL.cls (x.get q))] = Cs.eff (fun (j : Nat) => dL.cs (x.get j)) [(s,List.take 5 [Value.string (dL.key (x.e (0 + Int.toNat (Int.tmod ((x.at_ : Int) + (s : Int)) (x.len : Int))))),Value.int .u64 (dL.id (x.e (0 + Int.toNat (Int.tmod ((x.at_ : Int) + (s : Int)) (x.len : Int))))),Value.int .u64 (dL.ver (x.e (0 + Int.toNat (Int.tmod ((x.at_ : Int) + (s : Int)) (x.len : Int))))),Value.int .i64 (dL.line (x.e (0 + Int.toNat (Int.tmod ((x.at_ : Int) + (s : Int)) (x.len : Int))))),Value.int .i64 (dL.cls (x.e (0 + Int.toNat (Int.tmod ((x.at_ : Int) + (s : Int)) (x.len : Int)))))])] q)/\SK x/\Bj x/\True) ((∃ y : Unit,Hd (x.n = 0)/\False/\Bl x) ∨ ∃ y : Unit,Hd (x.n ≠ 0)/\(0 = 0/\x.n = s)/\Bj x/\(x.n = s/\∀ q : Nat,q < x.n->[Value.string (dL.key (x.get q)),Value.int .u64 (dL.id (x.get q)),Value.int .u64 (dL.ver (x.get q)),Value.int .i64 (dL.line (x.get q)),Value.int .i64 (dL.cls (x.get q))] = [Value.string (dL.key (x.get q)),Value.int .u64 (dL.id (x.get q)),Value.int .u64 (dL.ver (x.get q)),Value.int .i64 (dL.line (x.get q)),Value.int .i64 (dL.cls (x.get q))])/\SK x/\True))/\True
theorem NJ (x : ZLn) : zO x = wpF Tryz.prog qO tt (arq x) 200 5 70 (D5.args x) (hO 2 (dK 1 (D5.l x))) (fun v h' => cO 1 x v h' D5.outs) := by kernel_rfl
end Go.Proofs.YtenfleoejgjklaaGreat
end
section
namespace Go.Proofs.YtenfleoejgjklaaGreat
open Go SE
set_option linter.unusedSimpArgs false
theorem XO {c : Int} (h : 0<=c/\c<=3) : 0 < spn c := by
 unfold spn
 split
 ·omega
 ·split
  ·omega
  ·split
   ·omega
   ·split <;> omega
theorem Fg {g : Nat->List Value} {k q : Nat} {c : List Value} : Cs.eff g [(k,c)] q = if q = k then c else g q := by
 simp only [Cs.eff,bV,dI,dJ,dY,← Bool.decide_and]
theorem apc (f : Nat->iy) (k : Nat) (x : iy) (q : Nat) (e : iy) (he : e = if q = k then x else f q) : [Value.int .i64 e.line,Value.int .i64 e.cls,Value.int .u64 e.r,Value.int .u64 e.d,Value.int .i64 e.anti] = Cs.eff (fun i => (f i).cs) [(k,List.take 5 [Value.int .i64 x.line,Value.int .i64 x.cls,Value.int .u64 x.r,Value.int .u64 x.d,Value.int .i64 x.anti])] q := by
 subst he
 rw [Fg]
 split <;> rfl
theorem XP (f : Nat->dL) (k : Nat) (x : dL) (q : Nat) (e : dL) (he : e = if q = k then x else f q) : [Value.string e.key,Value.int .u64 e.id,Value.int .u64 e.ver,Value.int .i64 e.line,Value.int .i64 e.cls] = Cs.eff (fun i => (f i).cs) [(k,[Value.string x.key,Value.int .u64 x.id,Value.int .u64 x.ver,Value.int .i64 x.line,Value.int .i64 x.cls])] q := by
 subst he
 rw [Fg]
 split <;> rfl
theorem Ii (x : CG) (hx : x.b.ok/\x.x.may/\x.b.z = true) : E8 x := by
 obtain ⟨⟨h1,h2⟩,⟨m1,m2,m3,m4,m5,m6⟩,hz⟩ := hx
 have hn := h2 hz
 have hs := XO (c := x.x.cls) ⟨m3,m4⟩
 have e1 : decide (x.x.line ≥ 2) = true := decide_eq_true m1
 have e2 : decide (x.x.line < 258) = true := decide_eq_true m2
 have e3 : decide (spn x.x.cls > 0) = true := decide_eq_true hs
 have e4 : decide (x.x.anti ≥ -1) = true := decide_eq_true m5
 have e5 : decide (x.x.anti < 258) = true := decide_eq_true m6
 unfold E8
 simp only [JK]
 simp only [aY,aU,aT,ay,aH,bI,bn,aN,aJ,au,aW,aV,bJ,bC,bD,bF,bK,bf,bG,aZ,dU,aG,aK,ah,aj,aA,aC,aB,aF,e1,e2,e3,e4,e5,kP,iR,Bool.not_true]
 have e : x.b.put x.x = ⟨false,1,fun i => if i = 0 then x.x else x.b.e i⟩ := by unfold iD.put; rw [hn]; rfl
 rw [e,hn]
 refine ⟨by decide,rfl,rfl,rfl,fun q hq => ?_⟩
 have : q = 0 := by have : q < 1 := hq; omega
 subst this; rfl
theorem Ij (x : CG) (hx : x.b.ok/\x.x.may/\x.b.z = false) : Fa x := by
 obtain ⟨⟨h1,h2⟩,⟨m1,m2,m3,m4,m5,m6⟩,hz⟩ := hx
 have hs := XO (c := x.x.cls) ⟨m3,m4⟩
 have e1 : decide (x.x.line ≥ 2) = true := decide_eq_true m1
 have e2 : decide (x.x.line < 258) = true := decide_eq_true m2
 have e3 : decide (spn x.x.cls > 0) = true := decide_eq_true hs
 have e4 : decide (x.x.anti ≥ -1) = true := decide_eq_true m5
 have e5 : decide (x.x.anti < 258) = true := decide_eq_true m6
 unfold Fa
 simp only [JL,apb]
 simp only [aY,aU,aT,ay,aH,bI,bn,aN,aJ,au,aW,aV,bJ,bC,bD,bF,bK,bf,bG,aZ,dU,aG,aK,ah,aj,aA,aC,aB,aF,e1,e2,e3,e4,e5,kP,iR,Bool.not_true]
 unfold iD.put
 refine bg (fun h => ?_) fun h => ?_
 ·have hge : ¬ x.b.n < 258 := by have := aQ h; omega
  simp only [if_neg hge]
  exact ⟨trivial,trivial,trivial,fun q _ => trivial⟩
 ·have hlt : x.b.n < 258 := by have := aS h; omega
  simp only [if_pos hlt]
  exact ⟨rfl,by omega,trivial,trivial,rfl,fun q hq => apc _ _ _ _ _ rfl⟩
theorem Ik (x : Unit) : Fb x := by
 unfold Fb
 simp only [qw]
 simp only [aY,aU,aT,ay,aH,bI,bn,aN,aJ,au,aW,aV,bJ,bC,bD,bF,bK,bf,bG,aZ,dU,aG,aK,ah,aj,aA,aC,aB,aF]
theorem Il (x : iD) (hx : x.ok/\x.z = false) : Fe x := by
 have := hx.1.1
 unfold Fe
 simp only [ahG]
 simp only [aY,aU,aT,ay,aH,bI,bn,aN,aJ,au,aW,aV,bJ,bC,bD,bF,bK,bf,bG,aZ,dU,aG,aK,ah,aj,aA,aC,aB,aF]
 refine ⟨aX _,bg (fun h => ?_) fun _ => by omega⟩
 have h0 : x.n = 0 := ak h
 exact ⟨h0,by omega,fun q hq => by omega⟩
theorem CJ (x : Unit) : vZ x := by
 unfold vZ
 simp only [aaF,E5,qw]
 simp only [aY,aU,aT,ay,aH,bI,bn,aN,aJ,au,aW,aV,bJ,bC,bD,bF,bK,bf,bG,aZ,dU,aG,aK,ah,aj,aA,aC,aB,aF]
theorem Fh (x : Unit) : zJ x := by
 unfold zJ
 simp only [aaF,E5,qw]
 simp only [aY,aU,aT,ay,aH,bI,bn,aN,aJ,au,aW,aV,bJ,bC,bD,bF,bK,bf,bG,aZ,dU,aG,aK,ah,aj,aA,aC,aB,aF]
theorem Fj (x : Unit) : zL x := by
 unfold zL
 simp only [E5,qw]
 simp only [aY,aU,aT,ay,aH,bI,bn,aN,aJ,au,aW,aV,bJ,bC,bD,bF,bK,bf,bG,aZ,dU,aG,aK,ah,aj,aA,aC,aB,aF]
theorem Fp (x : Unit) : zN x := by
 unfold zN
 simp only [qw,E5]
 simp only [aY,aU,aT,ay,aH,bI,bn,aN,aJ,au,aW,aV,bJ,bC,bD,bF,bK,bf,bG,aZ,dU,aG,aK,ah,aj,aA,aC,aB,aF]
theorem Fq (x : ZLn) (_ : x.ok/\x.len ≠ 0) : zM x := by
 unfold zM
 simp only [Bl,Bj,SK]
 simp only [aY,aU,aT,ay,aH,bI,bn,aN,aJ,au,aW,aV,bJ,bC,bD,bF,bK,bf,bG,aZ,dU,aG,aK,ah,aj,aA,aC,aB,aF]
theorem aaJ {x : ZLn} (h : x.at_ < x.len) : x.get 0 = x.e x.at_ := by
 unfold ZLn.get
 rw [aH,Nat.mod_eq_of_lt h]
theorem CO (x : ZLn) (hx : x.ok/\x.len ≠ 0) : wo x := by
 obtain ⟨⟨o1,o2,o3,o4,o5⟩,hl⟩ := hx
 have := o5 hl
 unfold wo
 simp only [aaG,Bl,SL,aaE,Bj,SK]
 simp only [aY,aU,aT,ay,aH,bI,bn,aN,aJ,au,aW,aV,bJ,bC,bD,bF,bK,bf,bG,aZ,dU,aG,aK,ah,aj,aA,aC,aB,aF]
 refine bg (fun h => ?_) fun h => ?_
 ·have h0 : x.n = 0 := by have := beq_iff_eq.1 h; omega
  rw [show x.head = pX from if_pos h0,h0]
  exact ⟨⟨rfl,rfl,rfl,rfl,rfl⟩,rfl⟩
 ·have h0 : x.n ≠ 0 := fun e => by rw [e] at h; exact absurd h (by decide)
  rw [show x.head = x.e x.at_ from (if_neg h0).trans (aaJ this)]
  exact ⟨⟨by omega,by omega⟩,by omega,⟨rfl,rfl,rfl,rfl,rfl⟩,decide_eq_true h0⟩
theorem Fv (x : ZLn) (hx : x.ok/\x.len ≠ 0) : zK x := by
 obtain ⟨⟨o1,o2,o3,o4,o5⟩,hl⟩ := hx
 have := o5 hl
 unfold zK
 simp only [aaG,SL,aaE]
 simp only [aY,aU,aT,ay,aH,bI,bn,aN,aJ,au,aW,aV,bJ,bC,bD,bF,bK,bf,bG,aZ,dU,aG,aK,ah,aj,aA,aC,aB,aF]
 refine bg (fun h => ?_) fun h => ?_
 ·have h0 : x.n = 0 := by have := beq_iff_eq.1 h; omega
  rw [show x.head = pX from if_pos h0,show x.pop = x from if_pos h0,h0]
  exact ⟨⟨⟨rfl,rfl,rfl,rfl,rfl⟩,rfl⟩,⟨⟨rfl,rfl⟩,rfl,rfl⟩,rfl,fun q _ => rfl⟩
 ·have h0 : x.n ≠ 0 := fun e => by rw [e] at h; exact absurd h (by decide)
  rw [show x.head = x.e x.at_ from (if_neg h0).trans (aaJ this),show x.pop = ⟨x.len,x.cap,(x.at_ + 1) % x.len,x.n - 1,fun i => if i = x.at_ then pX else x.e i⟩ from if_neg h0]
  exact ⟨⟨by omega,by omega⟩,by omega,⟨by omega,by omega⟩,by omega,⟨by unfold I64; omega,by omega,by unfold I64; omega,⟨⟨rfl,rfl,rfl,rfl,rfl⟩,decide_eq_true h0⟩,⟨⟨rfl,rfl⟩,(Int.ofNat_tmod (x.at_ + 1) x.len),by show ((x.n - 1 : Nat) : Int) = _; omega⟩,rfl,fun q _ => XP _ _ pX _ _ rfl⟩⟩
theorem CP (x : dL) : vW x := by
 unfold vW
 simp only [yL]
 simp only [aY,aU,aT,ay,aH,bI,bn,aN,aJ,au,aW,aV,bJ,bC,bD,bF,bK,bf,bG,aZ,dU,aG,aK,ah,aj,aA,aC,aB,aF]
 refine ⟨by unfold I64; omega,by unfold I64; omega,by decide,by decide,by decide,by decide,by decide,by decide,by decide,by decide,rfl,by decide,by unfold I64; omega,⟨rfl,rfl⟩,fun q hq => ?_⟩
 have : q = 0 := by omega
 subst this; rfl
theorem Me (a b : Nat) : ((a : Int) + (b : Int)) = ((a + b : Nat) : Int) := by omega
theorem apd {x : ZLn} (s : Nat) : x.e ((x.at_ + s) % x.len) = x.get s := rfl
theorem Fz (x : ZLn) (hx : x.ok/\x.len ≠ 0) : zO x := by
 obtain ⟨⟨o1,o2,o3,o4,o5⟩,hl⟩ := hx
 have := o5 hl
 have ht : ∀ s : Nat,((x.at_ : Int) + (s : Int)).tmod (x.len : Int) = (((x.at_ + s) % x.len : Nat) : Int) := fun s => by rw [Me]; exact (Int.ofNat_tmod _ _).symm
 have hm : ∀ s : Nat,(x.at_ + s) % x.len < x.len := fun s => Nat.mod_lt _ (by omega)
 have hm0 := hm 0
 have ht0 := ht 0
 have hg0 : x.e (x.at_ % x.len) = x.get 0 := rfl
 unfold zO
 simp only [qw,SK,Bj,Bl]
 simp only [Int.natCast_zero,Int.add_zero,aH] at ht0 hm0
 simp only [aY,aU,aT,ay,aH,bI,bn,aN,aJ,au,aW,aV,bJ,bC,bD,bF,bK,bf,bG,aZ,dU,aG,aK,ah,aj,aA,aC,aB,aF,Int.add_zero,ht,ht0,hg0,apd]
 refine ⟨bg (fun h => ?_) fun h => ?_,fun s hs => bg (fun h => ?_) fun h => ?_⟩
 ·have hn : 0 < x.n := by have := aQ h; omega
  refine ⟨by unfold I64; omega,by omega,⟨by omega,by omega⟩,by omega,by omega,by unfold I64; omega,1,by omega,by omega,by omega,rfl,fun q hq => ?_⟩
  have : q = 0 := by omega
  subst this; rfl
 ·exact .inl (by have := aS h; omega)
 ·have hn : s < x.n := by have := aQ h; omega
  have := hm s
  refine ⟨by unfold I64; omega,by omega,⟨by omega,by omega⟩,by omega,rfl,by omega,by unfold I64; omega,s + 1,by omega,by omega,by omega,rfl,fun q hq => XP _ _ (x.get s) _ _ ?_⟩
  split
  ·rename_i e; rw [e]
  ·rfl
 ·exact .inr (by have := aS h; omega)
theorem CQ (x : ad6) (hx : x.l.ok/\x.l.len ≠ 0) : vY x := by
 obtain ⟨⟨o1,o2,o3,o4,o5⟩,hl⟩ := hx
 have hat := o5 hl
 have e1 : Nat.beq (x.l.len - x.l.at_) 0 = false := by rw [dJ]; exact decide_eq_false (by omega)
 have g1 : ∀ q,q < x.l.len - x.l.at_->x.l.get q = x.l.e (x.l.at_ + q) := fun q h => by unfold ZLn.get; rw [Nat.mod_eq_of_lt (by omega)]
 have g2 : ∀ q,x.l.len - x.l.at_<=q->q < x.l.len->x.l.get q = x.l.e (q - (x.l.len - x.l.at_)) := fun q h1 h2 => by
  unfold ZLn.get
  rw [show x.l.at_ + q = (q - (x.l.len - x.l.at_)) + x.l.len by omega,Nat.add_mod_right,Nat.mod_eq_of_lt (by omega)]
 have hz : pX = ⟨⟨#[]⟩,0,0,0,0⟩ := rfl
 unfold vY
 simp only [aaI,yL,yM,JJ,aaD,ahD,aaH,ahE,ahF]
 simp only [aY,aU,aT,ay,aH,bI,bn,aN,aJ,au,aW,aV,bJ,bC,bD,bF,bK,bf,bG,aZ,dU,aG,aK,ah,aj,aA,aC,aB,aF,e1,iR]
 refine bg (fun h => ?_) fun h => ?_
 ·have hn : x.l.n = x.l.len := by have := beq_iff_eq.1 h; omega
  have e2 : (2 * (x.l.n : Int) + 1).toNat = 2 * x.l.len + 1 := by omega
  have e3 : Nat.ble (x.l.len - x.l.at_) (2 * x.l.len + 1) = true := by rw [Nat.ble_eq]; omega
  have e4 : x.l.push x.x = ⟨x.l.len + 1,2 * x.l.len + 1,0,x.l.len + 1,fun i => if i < x.l.len then x.l.get i else if i = x.l.len then x.x else pX⟩ := by rw [← hn]; exact if_pos hn
  simp only [e2,e3,e4,kP]
  by_cases ha : x.l.at_ = 0
  ·have e5 : Nat.beq x.l.at_ 0 = true := by rw [ha]; rfl
   have e6 : Nat.ble (x.l.len - x.l.at_ + 1) (2 * x.l.len + 1) = true := by rw [Nat.ble_eq]; omega
   simp only [e5,e6,kP]
   refine ⟨by unfold I64; omega,by unfold I64; omega,by omega,by omega,by omega,by omega,by omega,fun k _ => rfl,by omega,by omega,by omega,by omega,by omega,by omega,rfl,by omega,by unfold I64; omega,⟨⟨by omega,trivial⟩,by omega,by omega⟩,trivial,fun q hq => ?_⟩
   rw [Fg]
   simp only [Cs.eff,bV,dI,dJ,dY,← Bool.decide_and]
   grind
  ·have e5 : Nat.beq x.l.at_ 0 = false := by rw [dJ]; exact decide_eq_false ha
   have e6 : Nat.ble (x.l.len - x.l.at_ + x.l.at_) (2 * x.l.len + 1) = true := by rw [Nat.ble_eq]; omega
   have e7 : Nat.ble (x.l.len - x.l.at_ + x.l.at_ + 1) (2 * x.l.len + 1) = true := by rw [Nat.ble_eq]; omega
   simp only [e5,e6,e7,kP,iR]
   refine ⟨by unfold I64; omega,by unfold I64; omega,by omega,by omega,by omega,by omega,by omega,fun k _ => rfl,by omega,by omega,by omega,by omega,by omega,fun k _ => rfl,by omega,by omega,rfl,by omega,by unfold I64; omega,⟨⟨by omega,trivial⟩,by omega,by omega⟩,trivial,fun q hq => ?_⟩
   rw [Fg]
   simp only [Cs.eff,bV,dI,dJ,dY,← Bool.decide_and]
   grind
 ·have hn : x.l.n ≠ x.l.len := fun e => by rw [e] at h; simp at h
  have ht : ((x.l.at_ : Int) + (x.l.n : Int)).tmod (x.l.len : Int) = (((x.l.at_ + x.l.n) % x.l.len : Nat) : Int) := by rw [Me]; exact (Int.ofNat_tmod _ _).symm
  have hm : (x.l.at_ + x.l.n) % x.l.len < x.l.len := Nat.mod_lt _ (by omega)
  rw [show x.l.push x.x = ⟨x.l.len,x.l.cap,x.l.at_,x.l.n + 1,fun i => if i = (x.l.at_ + x.l.n) % x.l.len then x.x else x.l.e i⟩ from if_neg hn]
  simp only [ht,au]
  exact ⟨by unfold I64; omega,by omega,⟨by omega,by omega⟩,by omega,by unfold I64; omega,⟨⟨trivial,trivial⟩,trivial,by omega⟩,trivial,fun q _ => XP _ _ x.x _ _ rfl⟩
theorem ad7 : bU Tryz.prog 66 (rF true).ctr := dH dD mixed (.cons (bM kQ) .nil) 1 noA 200 5 (fun _ => ⟨rfl,rfl,rfl,rfl⟩) fun x hx => Eq.mp (SN x) (Ii x (aY.1 hx))
theorem ad8 : bU Tryz.prog 66 (rF false).ctr := dH dD mixed (.cons (bM kQ) .nil) 2 noA 200 5 (fun _ => ⟨rfl,rfl,rfl,rfl⟩) fun x hx => Eq.mp (SQ x) (Ij x (aY.1 hx))
theorem ad9 : bU Tryz.prog 278 Ny.ctr := dH dD mixed eG 1 noA 200 5 (fun _ => ⟨rfl,rfl,rfl,rfl⟩) fun x _ => Eq.mp (SS x) (Ik x)
theorem aea : bU Tryz.prog 278 Nz.ctr := dH dD mixed eG 2 noA 200 5 (fun _ => ⟨rfl,rfl,rfl,rfl⟩) fun x hx => Eq.mp (SV x) (Il x (aY.1 hx))
theorem SX : bU Tryz.prog 254 yH.ctr := dH dD mixed eG 1 noA 200 5 (fun _ => ⟨rfl,rfl,rfl,rfl⟩) fun x _ => Eq.mp (Ic x) (CP x)
theorem SY : bU Tryz.prog 254 yI.ctr := dH dD mixed eG 2 noA 200 5 (fun _ => ⟨rfl,rfl,rfl,rfl⟩) fun x hx => Eq.mp (Ie x) (CQ x (aY.1 hx))
theorem S9 : bU Tryz.prog 154 yJ.ctr := dH dD mixed eG 1 noA 200 5 (fun _ => ⟨rfl,rfl,rfl,rfl⟩) fun x _ => Eq.mp (Ig x) (CJ x)
theorem Tc : bU Tryz.prog 154 yK.ctr := dH dD mixed eG 2 noA 200 5 (fun _ => ⟨rfl,rfl,rfl,rfl⟩) fun x hx => Eq.mp (Ih x) (CO x (aY.1 hx))
theorem XT : bU Tryz.prog 255 DV.ctr := dH dD mixed eG 1 noA 200 5 (fun _ => ⟨rfl,rfl,rfl,rfl⟩) fun x _ => Eq.mp (NC x) (Fh x)
theorem XU : bU Tryz.prog 255 DW.ctr := dH dD mixed eG 2 noA 200 5 (fun _ => ⟨rfl,rfl,rfl,rfl⟩) fun x hx => Eq.mp (ND x) (Fv x (aY.1 hx))
theorem XV : bU Tryz.prog 21 DX.ctr := dH dD mixed eG 1 noA 200 5 (fun _ => ⟨rfl,rfl,rfl,rfl⟩) fun x _ => Eq.mp (NG x) (Fj x)
theorem XW : bU Tryz.prog 21 DY.ctr := dH dD mixed eG 2 noA 200 5 (fun _ => ⟨rfl,rfl,rfl,rfl⟩) fun x hx => Eq.mp (NH x) (Fq x (aY.1 hx))
theorem XY : bU Tryz.prog 70 DZ.ctr := dH dD mixed eG 1 noA 200 5 (fun _ => ⟨rfl,rfl,rfl,rfl⟩) fun x _ => Eq.mp (NI x) (Fp x)
theorem XZ : bU Tryz.prog 70 D5.ctr := dH dD mixed eG 2 arq 200 5 (fun _ => ⟨rfl,rfl,rfl,rfl⟩) fun x hx => Eq.mp (NJ x) (Fz x (aY.1 hx))
end Go.Proofs.YtenfleoejgjklaaGreat
end
section
namespace Go.Proofs.YtenfleoejgjklaaGreat
open Go SE
set_option linter.unusedSimpArgs false
theorem Td {X : Type} (x : X) (v : AV) (h' : Heap) : nU x v h' [] = False := by with_unfolding_all rfl
theorem jH {X : Type} (x : X) (v : AV) (h' : Heap) (o : Out X) (r : List (Out X)) : nU x v h' (o :: r) = ((∃ y,o.post x y/\v = o.ret x y/\h' = hO o.m (o.os x y)) ∨ nU x v h' r) := by with_unfolding_all rfl
theorem kC {X : Type} {x : X} {v : AV} {h' : Heap} {o : Out X} (h : nU x v h' [o]) : ∃ y,o.post x y/\v = o.ret x y/\h' = hO o.m (o.os x y) := by
 rw [jH,Td,or_false] at h; exact h
theorem qx {X : Type} {x : X} {v : AV} {h' : Heap} {o p : Out X} (h : nU x v h' [o,p]) : (∃ y,o.post x y/\v = o.ret x y/\h' = hO o.m (o.os x y)) ∨ ∃ y,p.post x y/\v = p.ret x y/\h' = hO p.m (p.os x y) := by
 rw [jH,jH,Td,or_false] at h; exact h
theorem eP {X : Type} {x : X} {v : AV} {h' : Heap} {o : Out X} {r : List (Out X)} (h : ∃ y,o.post x y/\v = o.ret x y/\h' = hO o.m (o.os x y)) : nU x v h' (o :: r) := by
 rw [jH]; exact .inl h
theorem Tf {X : Type} {x : X} {v : AV} {h' : Heap} {o p : Out X} {r : List (Out X)} (h : ∃ y,p.post x y/\v = p.ret x y/\h' = hO p.m (p.os x y)) : nU x v h' (o :: p :: r) := by
 rw [jH,jH]; exact .inr (.inl h)
theorem wu {P : Program} {f : FuncId} {X : Type} {args : X->List AV} {k : Nat} {l : X->List PO} {pre : X->Prop} {ret : X->AV} {m : Nat} {l' : X->List PO}
  (h : ∀ x,pre x->∃ (Y : Type) (a2 : Y->List AV) (l2 : Y->List PO) (p2 : Y->Prop) (r2 : Y->AV) (l2' : Y->List PO) (y : Y),bU P f (lV Y a2 k l2 p2 r2 m l2').ctr/\p2 y/\a2 y = args x/\l2 y = l x/\r2 y = ret x/\l2' y = l' x) :
  bU P f (lV X args k l pre ret m l').ctr := by
 refine oJ fun x hx => ?_
 obtain ⟨Y,a2,l2,p2,r2,l2',y,h1,h2,h3,h4,h5,h6⟩ := h x hx
 refine ⟨_,h1,rfl,y,h2,h3,by simp only [lV,jd.ctr,h4],fun v h' hh => ?_⟩
 obtain ⟨u,e1,e2,e3⟩ := kC hh
 exact eP ⟨u,trivial,by rw [e2]; exact h5,by rw [e3]; show hO m ((l2' y).map PO.ab) = hO m ((l' x).map PO.ab); rw [h6]⟩
def ahH : jd := lV CG (fun x => [.ptr 0 0,x.x.av]) 1 (fun x => [.m x.b.os]) (fun x => Hd (x.b.ok/\x.x.may)) (fun x => i64 (if x.b.n < 258 then 0 else 11)) 1 (fun x => [.m (x.b.put x.x).os])
def ahI : jd := { X := iD,args := fun _ => [.ptr 0 0],k := 1,l := fun b => [.m b.os],pre := fun b => Hd b.ok,outs := [
 { Y := Unit,post := fun b _ => Hd (b.n = 0),ret := fun _ _ => fJ,m := 1,l := fun b _ => [.m b.os] },
 { Y := Unit,post := fun _ _ => Hd True,ret := fun b _ => .slW 1 0 5 b.n,m := 2,l := fun b _ => [.m b.os,.o (.room 70 b.row)] }] }
def Ti : jd := lV ad6 (fun x => [.ptr 0 0,x.x.av]) 1 (fun x => [.m x.l.os]) (fun x => Hd x.l.ok) (fun _ => .tup []) 1 (fun x => [.m (x.l.push x.x).os])
def rG : jd := lV ZLn (fun _ => [.ptr 0 0]) 1 (fun l => [.m l.os]) (fun l => Hd l.ok) (fun l => .tup [l.head.av,boo (decide (l.n ≠ 0))]) 1 (fun l => [.m l.os])
def aaK : jd := lV ZLn (fun _ => [.ptr 0 0]) 1 (fun l => [.m l.os]) (fun l => Hd l.ok) (fun l => .tup [l.head.av,boo (decide (l.n ≠ 0))]) 1 (fun l => [.m l.pop.os])
def aaL : jd := lV ZLn (fun _ => [.ptr 0 0]) 1 (fun l => [.m l.os]) (fun l => Hd l.ok) (fun l => i64 l.n) 1 (fun l => [.m l.os])
def aaM : jd := { X := ZLn,args := fun _ => [.ptr 0 0],k := 1,l := fun l => [.m l.os],pre := fun l => Hd l.ok,outs := [
 { Y := Unit,post := fun l _ => Hd (l.n = 0),ret := fun _ _ => fJ,m := 1,l := fun l _ => [.m l.os] },
 { Y := Unit,post := fun l _ => Hd (l.n ≠ 0),ret := fun l _ => .slW 1 0 5 l.n,m := 2,l := fun l _ => [.m l.os,.o (.room 41 (l.all l.n))] }] }
theorem aeb {b : iD} {x : iy} (h : b.ok) : (b.put x).os = (b.put x).osP ∨ b.z = false/\(b.put x).os = (b.put x).osP := by
 left
 unfold iD.put
 split
 ·rfl
 ·cases hz : b.z with
  | false => unfold iD.os; rw [hz]; rfl
  | true => have := h.2 hz; omega
theorem JM {b : iD} (z : Bool) (h : b.z = z) : b.os = bif z then iD.osN else b.osP := by
 unfold iD.os; rw [h]
theorem ahJ : bU Tryz.prog 66 ahH.ctr := wu fun x hx => by
 have hx := aY.1 hx
 have e : (x.b.put x.x).os = (x.b.put x.x).osP := (aeb hx.1).elim id And.right
 cases hz : x.b.z with
 | true => exact ⟨_,_,_,_,_,_,x,ad7,aY.2 ⟨hx.1,hx.2,hz⟩,rfl,by rw [JM true hz],rfl,by rw [e]⟩
 | false => exact ⟨_,_,_,_,_,_,x,ad8,aY.2 ⟨hx.1,hx.2,hz⟩,rfl,by rw [JM false hz],rfl,by rw [e]⟩
theorem ahK : bU Tryz.prog 278 ahI.ctr := oJ fun x hx => by
 have hx := aY.1 hx
 cases hz : x.z with
 | true =>
  refine ⟨_,ad9,rfl,(),aY.2 trivial,rfl,by show [_] = [_]; rw [JM true hz]; rfl,fun v h' hh => ?_⟩
  obtain ⟨y,_,h1,h2⟩ := kC hh
  exact eP ⟨(),aY.2 (hx.2 hz),h1,by rw [h2]; show hO 1 [_] = hO 1 [_]; rw [JM true hz]; rfl⟩
 | false =>
  refine ⟨_,aea,rfl,x,aY.2 ⟨hx,hz⟩,rfl,by show [_] = [_]; rw [JM false hz]; rfl,fun v h' hh => ?_⟩
  obtain ⟨y,_,h1,h2⟩ := kC hh
  exact Tf ⟨(),aY.2 trivial,h1,by rw [h2]; show hO 2 [_,_] = hO 2 [_,_]; rw [JM false hz]; rfl⟩
theorem yN {l : ZLn} (h : l.len = 0) : l.os = ZLn.osN := by unfold ZLn.os; rw [h]; rfl
theorem rH {l : ZLn} (h : l.len ≠ 0) : l.os = l.osP := by unfold ZLn.os; rw [dJ,decide_eq_false h]; rfl
theorem ars {l : ZLn} (h : l.ok) (h0 : l.len = 0) : l.n = 0 := by have := h.2.2.1; omega
theorem X0 : bU Tryz.prog 254 Ti.ctr := wu fun x hx => by
 have hx := aY.1 hx
 by_cases hz : x.l.len = 0
 ·have hn := ars hx hz
  have e : x.l.push x.x = ⟨1,1,0,1,fun i => if i = 0 then x.x else pX⟩ := by
   unfold ZLn.push
   rw [hn,hz,if_pos rfl]
   simp only [Nat.not_lt_zero,if_false,Nat.mul_zero,ay]
  exact ⟨_,_,_,_,_,_,x.x,SX,aY.2 trivial,rfl,by rw [yN hz],rfl,by rw [e]; rfl⟩
 ·have e : (x.l.push x.x).len ≠ 0 := by unfold ZLn.push; split <;> simp_all
  exact ⟨_,_,_,_,_,_,x,SY,aY.2 ⟨hx,hz⟩,rfl,by rw [rH hz],rfl,by rw [rH e]⟩
theorem yO {l : ZLn} (h : l.n = 0) : l.head = pX := if_pos h
theorem pY : bU Tryz.prog 154 rG.ctr := wu fun x hx => by
 have hx := aY.1 hx
 by_cases hz : x.len = 0
 ·have hn := ars hx hz
  exact ⟨_,_,_,_,_,_,(),S9,aY.2 trivial,rfl,by rw [yN hz],by rw [yO hn,hn]; rfl,by rw [yN hz]⟩
 ·exact ⟨_,_,_,_,_,_,x,Tc,aY.2 ⟨hx,hz⟩,rfl,by rw [rH hz],rfl,by rw [rH hz]⟩
theorem aec : bU Tryz.prog 255 aaK.ctr := wu fun x hx => by
 have hx := aY.1 hx
 by_cases hz : x.len = 0
 ·have hn := ars hx hz
  exact ⟨_,_,_,_,_,_,(),XT,aY.2 trivial,rfl,by rw [yN hz],by rw [yO hn,hn]; rfl,by rw [show x.pop = x from if_pos hn,yN hz]⟩
 ·have e : x.pop.len ≠ 0 := by unfold ZLn.pop; split <;> exact hz
  exact ⟨_,_,_,_,_,_,x,XU,aY.2 ⟨hx,hz⟩,rfl,by rw [rH hz],rfl,by rw [rH e]⟩
theorem aed : bU Tryz.prog 21 aaL.ctr := wu fun x hx => by
 have hx := aY.1 hx
 by_cases hz : x.len = 0
 ·have hn := ars hx hz
  exact ⟨_,_,_,_,_,_,(),XV,aY.2 trivial,rfl,by rw [yN hz],by rw [hn]; rfl,by rw [yN hz]⟩
 ·exact ⟨_,_,_,_,_,_,x,XW,aY.2 ⟨hx,hz⟩,rfl,by rw [rH hz],rfl,by rw [rH hz]⟩
theorem aee : bU Tryz.prog 70 aaM.ctr := oJ fun x hx => by
 have hx := aY.1 hx
 by_cases hz : x.len = 0
 ·refine ⟨_,XY,rfl,(),aY.2 trivial,rfl,by show [_] = [_]; rw [yN hz],fun v h' hh => ?_⟩
  obtain ⟨y,_,h1,h2⟩ := kC hh
  exact eP ⟨(),aY.2 (ars hx hz),h1,by rw [h2]; show hO 1 [_] = hO 1 [_]; rw [yN hz]⟩
 ·refine ⟨_,XZ,rfl,x,aY.2 ⟨hx,hz⟩,rfl,by show [_] = [_]; rw [rH hz],fun v h' hh => ?_⟩
  rcases qx hh with ⟨y,h0,h1,h2⟩ | ⟨y,h0,h1,h2⟩
  ·exact eP ⟨(),h0,h1,by rw [h2]; show hO 1 [_] = hO 1 [_]; rw [rH hz]⟩
  ·exact Tf ⟨(),h0,h1,by rw [h2]; show hO 2 [_,_] = hO 2 [_,_]; rw [rH hz]⟩
end Go.Proofs.YtenfleoejgjklaaGreat
end
section
namespace Go.Proofs.YtenfleoejgjklaaGreat
open Go SE
structure dN where
 cls : Int
 kind : Int
 id : Int
 ver : Int
 epoch : Int
 key : ByteArray
 value : ByteArray
namespace dN
def av (b : dN) : AV := .agg [i64 b.cls,i64 b.kind,u64 b.id,u64 b.ver,u64 b.epoch,.lit (.string b.key),.lit (.string b.value)]
def num (v : Int) : Prop := 1<=v/\v<=2305843009213693952
def nums (b : dN) : Prop := num b.id/\num b.ver/\num b.epoch
def may (b : dN) : Prop := spn b.cls ≠ 0/\(
 b.kind = 0/\b.id = 0/\b.ver = 0/\b.epoch = 0/\b.key = ⟨#[]⟩/\b.value = ⟨#[]⟩ ∨
 b.kind = 1/\1<=b.key.size/\b.key.size<=16/\b.value.size<=400/\ned (b.key.size + b.value.size : Nat) = b.cls/\b.nums ∨
 b.kind = 2/\b.key = ⟨#[]⟩/\b.value.size<=400/\ned (b.key.size + b.value.size : Nat) = b.cls/\b.nums ∨
 b.kind = 3/\b.key.size + b.value.size = 0/\b.cls = 0/\b.nums)
def dat (b : dN) (i : Nat) : Int := if i < (b.key ++ b.value).size then fG (b.key ++ b.value) i else 0
def h32 (b : dN) (k : Nat) : Int := if k = 0 then 1 else if k = 1 then b.cls else if k = 2 then b.kind else if k = 3 then b.key.size else if k < 6 then (b.value.size : Int) / 256 ^ (k - 4) % 256 else if k < 8 then 0 else
 if k < 16 then b.id / 256 ^ (k - 8) % 256 else if k < 24 then b.ver / 256 ^ (k - 16) % 256 else if k < 32 then b.epoch / 256 ^ (k - 24) % 256 else 0
noncomputable def jC (b : dN) (g : Nat->Int) (n : Nat) (k : Nat) : Int := if k < 32 then b.h32 k else if k < 36 then nC (nC 0 b.h32 32) g n / 256 ^ (k - 32) % 256 else g (k - 36)
def iM (b : dN) : Nat := (cpc b.cls).toNat
def dA (b : dN) : Nat := (spn b.cls).toNat
noncomputable def enc (b : dN) (k : Nat) : Int := if k < 64 then b.jC b.dat b.iM k else if k % 64 = 0 then 2 else b.dat (28 + (k / 64 - 1) * 63 + (k % 64 - 1))
end dN
noncomputable def dN.VR (b : dN) : Bool := hide (@decide b.may (Classical.propDecidable _))
theorem yP {b : dN} : b.VR = true ↔ b.may := by unfold dN.VR; rw [pU]; exact @decide_eq_true_iff _ (Classical.propDecidable _)
noncomputable def anH : Ctr := det dN (fun b => [b.av]) 0 (fun _ => []) (fun b => Hd (b.key.size < 1099511627776/\b.value.size < 1099511627776)) (fun b => boo b.VR) 0 (fun _ => [])
def wP (g : Nat->Int) (a : Nat) : Nat->Int
 | 0 => 0
 | w + 1 => wP g a w + g (a + w) * 256 ^ w
structure FB where
 b : Bys
 at_ : Nat
 w : Nat
def ape : Ctr := det FB (fun x => [x.b.av 0,i64 x.at_,i64 x.w]) 1 (fun x => [x.b.ro]) (fun x => Hd (x.b.ok/\x.at_ + x.w<=x.b.n/\1<=x.w/\x.w<=8)) (fun x => .tup [u64 (wP (fun k => x.b.g (x.b.q + k)) x.at_ x.w),i64 0]) 1 (fun x => [x.b.ro])
def aru (x : FB) : FuncId->vK := fun f => bif Nat.beq f 228 then (fun b _ _ => bif Nat.beq b 0 then [
 { σ := Nat,fr := fun k => [(19,i64 k),(9,u64 (wP (fun k => x.b.g (x.b.q + k)) x.at_ k))],ob := fun _ => [],inv := fun k => Hd (k<=x.w),meas := fun k => x.w - k }] else []) else fun _ _ _ => []
structure CU where
 g : Nat->Int
 at_ : Nat
 w : Nat
 v : Int
def X3 : Ctr := det CU (fun x => [.slE 0 0 1 64 64,i64 x.at_,i64 x.w,u64 x.v]) 1 (fun x => [.cells 5 (rowB x.g 64)]) (fun x => Hd (x.at_ + x.w<=64/\1<=x.w/\x.w<=8/\0<=x.v/\x.v < 256 ^ x.w/\∀ k,0<=x.g k/\x.g k < 256)) (fun _ => .tup []) 1 (fun x => [.cells 5 (rowB (oI x.g x.at_ x.w x.v) 64)])
structure zQ where
 b : dN
 d : Bys
def zQ.ok (x : zQ) : Prop := x.d.ok/\28<=x.d.n/\x.b.key.size < 256/\x.b.value.size < 65536/\0<=x.b.cls/\x.b.cls < 256/\0<=x.b.kind/\x.b.kind < 256/\0<=x.b.id/\x.b.id < 18446744073709551616/\0<=x.b.ver/\x.b.ver < 18446744073709551616/\0<=x.b.epoch/\x.b.epoch < 18446744073709551616
noncomputable def X4 : Ctr := det zQ (fun x => [x.b.av,x.d.av 0]) 1 (fun x => [x.d.ro]) (fun x => Hd x.ok) (fun _ => .slE 1 0 1 64 64) 2 (fun x => [x.d.ro,.cells 5 (rowB (x.b.jC (fun k => x.d.g (x.d.q + k)) x.d.n) 64)])
noncomputable def arv : WTbl := [(171,alD),(170,ctrT anv),(169,ctrT X3)]
noncomputable def tblB0 : WTbl := [(215,ctrT anw)]
end Go.Proofs.YtenfleoejgjklaaGreat
end
section
namespace Go.Proofs.YtenfleoejgjklaaGreat
open Go SE
def aaN (a : Int) : Prop := AV.lit (Value.int .i64 a) = AV.lit (Value.int .i64 a)
def Tj (a : Int) : Prop := aaN a/\True
def Tm (a : dN) : Prop := True/\a.VR = false/\True
def apf (a : dN) (b : Int) : Prop := True/\∀ y_1 : Unit,True->Tj a.cls/\cP (bne (ned b) a.cls) (∃ y_2 : Unit,Tm a) (cP (decide (a.id ≥ (1 : Int))) (cP (decide (a.id<=2305843009213693952)) (cP (decide (a.ver ≥ (1 : Int))) (cP (decide (a.ver<=2305843009213693952)) (cP (decide (a.epoch ≥ (1 : Int))) (∃ y_2 : Unit,True/\a.VR = decide (a.epoch<=2305843009213693952)/\True) (∃ y_2 : Unit,Tm a)) (∃ y_2 : Unit,Tm a)) (∃ y_2 : Unit,Tm a)) (∃ y_2 : Unit,Tm a)) (∃ y_2 : Unit,Tm a))
def oK (a : dN) : Prop := ∃ y_1 : Unit,Tm a
def Tn (a : dN) : Prop := (AV.lit (Value.tuple (@List.toArray Value (@List.nil Value))) = AV.lit (Value.tuple (@List.toArray Value (@List.nil Value)))/\True)/\oK a
def apg (a : dN) : Prop := cP (decide ((a.key.size : Int) + (a.value.size : Int) - (a.key.size : Int) > (400 : Int))) (Tn a) (I64 ((a.key.size : Int) + ((a.key.size : Int) + (a.value.size : Int) - (a.key.size : Int)))/\∃ x_1 : Int,True/\(x_1 = (a.key.size : Int) + ((a.key.size : Int) + (a.value.size : Int) - (a.key.size : Int))/\True)/\apf a x_1)
def aph (a : dN) : Prop := cP (decide ((a.key.size : Int) + (a.value.size : Int) > (400 : Int))) (Tn a) (I64 ((a.key.size : Int) + ((a.key.size : Int) + (a.value.size : Int)))/\∃ x_1 : Int,True/\(x_1 = (a.key.size : Int) + ((a.key.size : Int) + (a.value.size : Int))/\True)/\apf a x_1)
def aef (a : CU) : Prop := Hd (a.at_ + a.w<=64/\1<=a.w/\a.w<=8/\0<=a.v/\a.v < @HPow.hPow Int Nat Int (@instHPow Int Nat (@instPowNat Int @Int.instNatPow)) (256 : Int) a.w/\∀ k : Nat,0<=a.g k/\a.g k < 256)
def Tq (a : CU) (b : CU) : Prop := (64 = 64/\∀ q : Nat,q < 64->[Value.int .u8 (a.g q)] = [Value.int .u8 (oI b.g b.at_ b.w b.v q)])/\True
def yQ (a : Bys) : Prop := rowB a.g a.N = rowB a.g a.N/\true = true
def Bo : Prop := 0 = 0/\64 = 64/\64 = 64
def ahL (a : FB) : Prop := ∃ y : Unit,True/\(wP (fun (k : Nat) => a.b.g (a.b.q + k)) a.at_ a.w = 0/\(0 : Int) = 1/\True)/\yQ a.b/\True
def ahM (a : Bys) (b : Nat) : Prop := (Nat.beq (List.length [Value.int .u8 (a.g (a.q + b))]) 1 && List.all [Value.int .u8 (a.g (a.q + b))] Value.oneCell') = true
def ahN (a : uG) (b : Nat) : Prop := (Nat.beq (List.length [Value.int .u8 (a.res (0 + b))]) 1 && List.all [Value.int .u8 (a.res (0 + b))] Value.oneCell') = true
def aaO (a : ByteArray) : Prop := AV.lit (Value.string a) = AV.lit (Value.string a)
def apj (b : dN) : Prop :=
 ∃ x : Int,True/\(x = b.cls/\True)/\True/\∀ y : Unit,True->cP (BEq.beq (spn x) (0 : Int)) (oK b) (I64 ((b.key.size : Int) + (b.value.size : Int))/\cP (BEq.beq b.kind (0 : Int)) (∃ y_1 : Unit,True/\b.VR = (BEq.beq b.cls b.cls && (BEq.beq b.kind (0 : Int) && (BEq.beq b.id (0 : Int) && (BEq.beq b.ver (0 : Int) && (BEq.beq b.epoch (0 : Int) && (BEq.beq (ByteArray.toList b.key) (ByteArray.toList (ByteArray.mk #[])) && (BEq.beq (ByteArray.toList b.value) (ByteArray.toList (ByteArray.mk #[])) && true)))))))/\True) (cP (BEq.beq b.kind (1 : Int)) (cP (decide ((b.key.size : Int) < 1)) (oK b) (cP (decide ((b.key.size : Int) > (16 : Int))) (oK b) (I64 ((b.key.size : Int) + (b.value.size : Int) - (b.key.size : Int))/\cP (BEq.beq b.kind (2 : Int)) (cP (Bool.not (BEq.beq (ByteArray.toList b.key) (ByteArray.toList (ByteArray.mk #[])))) (Tn b) (apg b)) (apg b)))) (cP (BEq.beq b.kind (2 : Int)) (cP (BEq.beq b.kind (2 : Int)) (cP (Bool.not (BEq.beq (ByteArray.toList b.key) (ByteArray.toList (ByteArray.mk #[])))) (Tn b) (aph b)) (aph b)) (cP (BEq.beq b.kind (3 : Int)) (cP (bne ((b.key.size : Int) + (b.value.size : Int)) (0 : Int)) (oK b) (cP (bne b.cls (0 : Int)) (oK b) (cP (decide (b.id ≥ (1 : Int))) (cP (decide (b.id<=2305843009213693952)) (cP (decide (b.ver ≥ (1 : Int))) (cP (decide (b.ver<=2305843009213693952)) (cP (decide (b.epoch ≥ (1 : Int))) (∃ y_1 : Unit,True/\b.VR = decide (b.epoch<=2305843009213693952)/\True) (oK b)) (oK b)) (oK b)) (oK b)) (oK b)))) (oK b)))))
theorem al0 (b : dN) : apj b = wpF Tryz.prog [(113,ctrT yw),(201,ctrT Xp)] tt (noA b) 200 5 229 (anH.args b) (hO anH.k (anH.os b)) (fun v h' => eH anH.k b v h' anH.outs) := by kernel_rfl
def apk (x : FB) : Prop :=
 cP (decide ((x.w : Int) < 1)) (ahL x) (cP (decide ((x.w : Int) > (8 : Int))) (ahL x) (I64 ((x.b.n : Int) - (x.w : Int))/\cP (decide ((x.at_ : Int) > (x.b.n : Int) - (x.w : Int))) (∃ y : Unit,True/\(wP (fun (k : Nat) => x.b.g (x.b.q + k)) x.at_ x.w = 0/\(0 : Int) = 2/\True)/\yQ x.b/\True) ((∃ s : Nat,Hd (s<=x.w)/\True/\((s : Int) = 0/\wP (fun (k : Nat) => x.b.g (x.b.q + k)) x.at_ s = 0/\True)/\yQ x.b/\True)/\(∀ s : Nat,Hd (s<=x.w)->cP (decide ((s : Int) < (x.w : Int))) (I64 ((x.at_ : Int) + (s : Int))/\(0<=(x.at_ : Int) + (s : Int)/\(x.at_ : Int) + (s : Int) < (x.b.n : Int))/\x.b.q + Int.toNat ((x.at_ : Int) + (s : Int)) < x.b.N/\I64 (8 * (s : Int))/\0<=8 * (s : Int)/\I64 ((s : Int) + 1)/\∃ s_1 : Nat,Hd (s_1<=x.w)/\x.w - s_1 < x.w - s/\((s_1 : Int) = (s : Int) + 1/\wP (fun (k : Nat) => x.b.g (x.b.q + k)) x.at_ s_1 = IntKind.wrap .u64 ((@BitVec.toNat 64 (@HOr.hOr (@BitVec 64) (@BitVec 64) (@BitVec 64) (@instHOrOfOrOp (@BitVec 64) (@BitVec.instOrOp 64)) (@BitVec.ofInt 64 (wP (fun (k : Nat) => x.b.g (x.b.q + k)) x.at_ s)) (@BitVec.ofInt 64 (IntKind.wrap .u64 (IntKind.wrap .u64 (x.b.g (x.b.q + Int.toNat ((x.at_ : Int) + (s : Int)))) * @HPow.hPow Int Nat Int (@instHPow Int Nat (@instPowNat Int @Int.instNatPow)) (2 : Int) (@Min.min Nat @instMinNat (Int.toNat (8 * (s : Int))) 64))))) : Nat) : Int)/\True)/\yQ x.b/\True) (∃ y : Unit,True/\(wP (fun (k : Nat) => x.b.g (x.b.q + k)) x.at_ x.w = wP (fun (k : Nat) => x.b.g (x.b.q + k)) x.at_ s/\(0 : Int) = 0/\True)/\yQ x.b/\True))/\True)))
theorem al1 (x : FB) : apk x = wpF Tryz.prog [] tt (aru x) 200 5 228 (ape.args x) (hO ape.k (ape.os x)) (fun v h' => eH ape.k x v h' ape.outs) := by kernel_rfl
def ahO (x : zQ) : Prop :=
 ((0 : Int)<=64/\(0 : Int)<=0/\(0 : Int)<=281474976710592/\(0 : Int)<=4611686018427387839)/\((0 : Int)<=0/\(0 : Int)<=63)/\0 < 64/\(aaO x.b.key/\aaN x.b.kind/\Tj x.b.cls)/\((0 : Int)<=1/\(0 : Int)<=62)/\1 < 64/\(aaO x.b.key/\Tj x.b.kind)/\((0 : Int)<=2/\(0 : Int)<=61)/\2 < 64/\(aaO x.b.key/\True)/\((0 : Int)<=3/\(0 : Int)<=60)/\3 < 64/\True/\∃ x_1 : CU,aef x_1/\(Bo/\(x_1.at_ : Int) = 4/\(x_1.w : Int) = 2/\x_1.v = IntKind.wrap .u64 (x.b.value.size : Int)/\True)/\((64 = 64/\∀ q : Nat,q < 64->[Value.int .u8 (x_1.g q)] = Cs.eff (fun (x_2 : Nat) => [Value.int .u8 0]) [(3,[Value.int .u8 (IntKind.wrap .u8 (x.b.key.size : Int))]),(2,[Value.int .u8 (IntKind.wrap .u8 x.b.kind)]),(1,[Value.int .u8 (IntKind.wrap .u8 x.b.cls)]),(0,[Value.int .u8 1])] q)/\True)/\∀ y : Unit,True->∃ x_2 : CU,aef x_2/\(Bo/\(x_2.at_ : Int) = 8/\(x_2.w : Int) = 8/\x_2.v = x.b.id/\True)/\Tq x_2 x_1/\∀ y_1 : Unit,True->∃ x_3 : CU,aef x_3/\(Bo/\(x_3.at_ : Int) = 16/\(x_3.w : Int) = 8/\x_3.v = x.b.ver/\True)/\Tq x_3 x_2/\∀ y_2 : Unit,True->∃ x_4 : CU,aef x_4/\(Bo/\(x_4.at_ : Int) = 24/\(x_4.w : Int) = 8/\x_4.v = x.b.epoch/\True)/\Tq x_4 x_3/\∀ y_3 : Unit,True->(0 : Int)<=32/\(0<=32/\32<=64/\64<=64)/\32<=64/\∃ n : Nat,∃ g : ∀ a : Nat,Int,32 = n/\n < 1099511627776/\(∀ k : Nat,k < n->[Value.int .u8 (oI x_4.g x_4.at_ x_4.w x_4.v (0 + k))] = [Value.int .u8 (g k)])/\(∀ k : Nat,0<=g k/\g k < 256)/\∃ x_5 : aoQ,Hd (U32 x_5.c/\x_5.b.ok)/\(x_5.c = nC (0 : Int) g n/\(x_5.b.q = x.d.q/\x_5.b.n = x.d.n)/\True)/\((x_5.b.N = x.d.N/\∀ q : Nat,q < x_5.b.N->[Value.int .u8 (x_5.b.g q)] = [Value.int .u8 (x.d.g q)])/\True)/\
 ∀ y_4 : Unit,True->∃ x_6 : CU,aef x_6/\(Bo/\(x_6.at_ : Int) = 32/\(x_6.w : Int) = 4/\x_6.v = IntKind.wrap .u64 (nC x_5.c (fun (k : Nat) => x_5.b.g (x_5.b.q + k)) x_5.b.n)/\True)/\Tq x_6 x_4/\∀ y_5 : Unit,True->(0 : Int)<=36/\(36<=64/\64<=64/\64<=64)/\64<=64/\cP (Nat.ble x.d.n 28) (x.d.q + x.d.n<=x.d.N/\(∀ k : Nat,k < x.d.n->ahM x.d k)/\∃ y_6 : Unit,True/\Bo/\yQ x.d/\(64 = 64/\∀ q : Nat,q < 64->[Value.int .u8 (x.b.jC (fun (k : Nat) => x.d.g (x.d.q + k)) x.d.n q)] = Cs.eff (fun (p : Nat) => cond (Nat.ble 36 p && Nat.blt p (36 + x.d.n)) [Value.int .u8 (x.d.g (x.d.q + (p - 36)))] [Value.int .u8 (oI x_6.g x_6.at_ x_6.w x_6.v p)]) [] q)/\True) (x.d.q + 28<=x.d.N/\(∀ k : Nat,k < 28->ahM x.d k)/\∃ y_6 : Unit,True/\Bo/\yQ x.d/\(64 = 64/\∀ q : Nat,q < 64->[Value.int .u8 (x.b.jC (fun (k : Nat) => x.d.g (x.d.q + k)) x.d.n q)] = Cs.eff (fun (p : Nat) => cond (Nat.ble 36 p && Nat.blt p 64) [Value.int .u8 (x.d.g (x.d.q + (p - 36)))] [Value.int .u8 (oI x_6.g x_6.at_ x_6.w x_6.v p)]) [] q)/\True)
theorem ahP (x : zQ) : ahO x = wpF Tryz.prog arv tt (noA x) 200 5 114 (X4.args x) (hO X4.k (X4.os x)) (fun v h' => eH X4.k x v h' X4.outs) := by kernel_rfl
def ahQ (x : CU) : Prop :=
 ∃ x_1 : uG,Hd x_1.ok/\((x_1.b.q = 0/\x_1.b.n = 64/\x_1.c = 64)/\(x_1.at_ : Int) = (x.at_ : Int)/\(x_1.w : Int) = (x.w : Int)/\x_1.v = x.v/\True)/\((x_1.b.N = 64/\∀ q : Nat,q < x_1.b.N->[Value.int .u8 (x_1.b.g q)] = [Value.int .u8 (x.g q)])/\True)/\∀ y : Unit,True->64<=64/\cP (Nat.ble x_1.b.n 64) (0 + x_1.b.n<=x_1.b.n/\(∀ k : Nat,k < x_1.b.n->ahN x_1 k)/\∃ y_1 : Unit,True/\True/\(64 = 64/\∀ q : Nat,q < 64->[Value.int .u8 (oI x.g x.at_ x.w x.v q)] = Cs.eff (fun (p : Nat) => cond (Nat.ble 0 p && Nat.blt p (0 + x_1.b.n)) [Value.int .u8 (x_1.res (0 + (p - 0)))] [Value.int .u8 (x.g p)]) [] q)/\True) (64<=x_1.b.n/\(∀ k : Nat,k < 64->ahN x_1 k)/\∃ y_1 : Unit,True/\True/\(64 = 64/\∀ q : Nat,q < 64->[Value.int .u8 (oI x.g x.at_ x.w x.v q)] = Cs.eff (fun (p : Nat) => cond (Nat.ble 0 p && Nat.blt p 64) [Value.int .u8 (x_1.res (0 + (p - 0)))] [Value.int .u8 (x.g p)]) [] q)/\True)
theorem ahR (x : CU) : ahQ x = wpF Tryz.prog tblB0 tt (noA x) 200 5 169 (X3.args x) (hO X3.k (X3.os x)) (fun v h' => eH X3.k x v h' X3.outs) := by kernel_rfl
end Go.Proofs.YtenfleoejgjklaaGreat
end
