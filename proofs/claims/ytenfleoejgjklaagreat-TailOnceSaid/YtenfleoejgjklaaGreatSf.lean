import Derived.Test.YtenfleoejgjklaaGreatSa
import Derived.Test.YtenfleoejgjklaaGreatSb
import Derived.Test.YtenfleoejgjklaaGreatSc
import Derived.Test.YtenfleoejgjklaaGreatSd
import Derived.Test.YtenfleoejgjklaaGreatSe
import Derived.KernelRfl
import Derived.Tactics
import Derived.Tactics2
import Derived.Defers
import Derived.Laws.Pointers
import Derived.Laws.LoneSync
import Derived.RegionTactic
import Derived.RegionCalls
import Derived.ChangeAlike
set_option linter.unusedVariables false
set_option linter.unusedSimpArgs false
set_option linter.unnecessarySimpa false
section
namespace Go.Proofs.YtenfleoejgjklaaGreat
open Go SE
def Jk (a : Nat) : Prop := (a : Int) = 8/\True
def Ar (a : Bys) (b : dL) : Prop := a.q = 0/\a.n = 64 * b.dD
def Zu (a : EK) (b : dL) : Prop := Ar a.b b/\(a.at_ : Int) = 24/\Jk a.w
def mO (a : Int) (b : EK) : Prop := a = vW (fun (k : Nat) => b.b.g (b.b.q + k)) b.at_ b.w
def uo (a : dL) : Prop := 0 + 64 * a.dD<=64 * a.dD
def uq (a : Bys) (b : agr) : Prop := (a.N = 64 * b.b.dD/\∀ q : Nat,q < a.N->[Value.int .u8 (a.g q)] = [Value.int .u8 (b.g q)])/\True
def EM (a : agr) (b : EK) (c : Aq) (d : EK) : Prop := mO a.b.epoch b/\a.b.key = ByteArray.extract c.str 0 (Int.toNat (a.g 3))/\a.b.value = ByteArray.extract c.str (Int.toNat (a.g 3)) (Int.toNat (a.g 3 + vW (fun (k : Nat) => d.b.g (d.b.q + k)) d.at_ d.w))/\True
def RF (a : dL) (b : Nat) : Prop := isByte [Value.int .u8 (a.enc (0 + b))] = true
def Zv (a : dL) : Prop := ∀ k : Nat,k < 64 * a.dD->RF a k
def EN (a : agr) : Prop := ∀ k : Nat,k < 64 * a.b.dD->isByte [Value.int .u8 (a.g (0 + k))] = true
def RG (a : agr) : Prop := (64 * a.b.dD = 64 * a.b.dD/\∀ q : Nat,q < 64 * a.b.dD->[Value.int .u8 (a.g q)] = [Value.int .u8 (a.g q)])/\True
def Zw (a : dL) : Prop := a.kind = 0/\a.id = 0/\a.ver = 0/\a.epoch = 0/\a.key = ByteArray.mk #[]/\a.value = ByteArray.mk #[]/\True
def zo (a : agr) : Prop := True/\((a.b.cls = 0/\Zw a.b)/\true = false/\True)/\RG a
def yA (a : EK) : Prop := Hd (a.b.ok/\a.at_ + a.w<=a.b.n/\1<=a.w/\a.w<=8)
def Zx (a : dL) (b : Aq) (c : agr) (d : EK) : Prop := a.key = ByteArray.extract b.str 0 (Int.toNat (c.g 3))/\a.value = ByteArray.extract b.str (Int.toNat (c.g 3)) (Int.toNat (c.g 3 + vW (fun (k : Nat) => d.b.g (d.b.q + k)) d.at_ d.w))/\True
def Zy (a : dL) : Prop := Hd (a.may/\a.key.size < 1099511627776/\a.value.size < 1099511627776)
def anJ (a : agr) (b : EK) (c : Aq) (d : EK) : Prop := True/\∃ x_6 : EK,yA x_6/\(Ar x_6.b a.b/\(x_6.at_ : Int) = 16/\Jk x_6.w)/\uq x_6.b a/\∀ y_5 : Unit,True->True/\∃ x_7 : EK,yA x_7/\Zu x_7 a.b/\uq x_7.b a/\∀ y_6 : Unit,True->True/\True/\∃ x_8 : dL,Zy x_8/\((x_8.cls = a.g 1/\x_8.kind = a.g 2/\mO x_8.id b/\mO x_8.ver x_6/\mO x_8.epoch x_7/\Zx x_8 c a d)/\True)/\True/\(∀ y_7 : Unit,Hd (x_8.cls = 0)->64<=64/\(∀ k : Nat,k < 64->RF x_8 k)/\uo a.b/\EN a/\cP (Bool.not (BEq.beq (ByteArray.toList (@ByteArray.mk (@List.toArray UInt8 (List.map (fun (k : Nat) => UInt8.ofBitVec (@BitVec.ofNat 8 (Int.toNat (x_8.enc (0 + k))))) (@List.range 64))))) (ByteArray.toList (@ByteArray.mk (@List.toArray UInt8 (List.map (fun (k : Nat) => UInt8.ofBitVec (@BitVec.ofNat 8 (Int.toNat (a.g (0 + k))))) (@List.range (64 * a.b.dD)))))))) (∃ y_8 : Unit,zo a) (∃ y_8 : Unit,True/\((a.b.cls = a.g 1/\a.b.kind = a.g 2/\mO a.b.id b/\mO a.b.ver x_6/\EM a x_7 c d)/\true = true/\True)/\RG a))/\∀ y_7 : Unit,Hd (x_8.cls ≠ (0 : Int))->uo x_8/\Zv x_8/\uo a.b/\EN a/\cP (Bool.not (BEq.beq (ByteArray.toList (@ByteArray.mk (@List.toArray UInt8 (List.map (fun (k : Nat) => UInt8.ofBitVec (@BitVec.ofNat 8 (Int.toNat (x_8.enc (0 + k))))) (@List.range (64 * x_8.dD)))))) (ByteArray.toList (@ByteArray.mk (@List.toArray UInt8 (List.map (fun (k : Nat) => UInt8.ofBitVec (@BitVec.ofNat 8 (Int.toNat (a.g (0 + k))))) (@List.range (64 * a.b.dD)))))))) (∃ y_8 : Unit,zo a) (∃ y_8 : Unit,True/\((a.b.cls = a.g 1/\a.b.kind = a.g 2/\mO a.b.id b/\mO a.b.ver x_6/\EM a x_7 c d)/\true = true/\True)/\RG a)
def ags (a : dL) : Prop := (a.cls = a.cls/\a.kind = a.kind/\a.id = a.id/\a.ver = a.ver/\a.epoch = a.epoch/\a.key = a.key/\a.value = a.value/\True)/\True
def agt (a : zn) : Prop := 64 = 64/\∀ q : Nat,q < 64->[Value.int .u8 (a.b.jy (fun (k : Nat) => a.d.g (a.d.q + k)) a.d.n q)] = [Value.int .u8 (a.b.jy (fun (k : Nat) => a.d.g (a.d.q + k)) a.d.n q)]
def acG (a : zn) (b : Int) (c : dL) : Prop := agt a/\(Int.toNat (cpc b) = Int.toNat (cpc b)/\∀ q : Nat,q < Int.toNat (cpc b)->Cs.eff (fun (p : Nat) => cond (Nat.ble 0 p && Nat.blt p (0 + ByteArray.size (c.key ++ c.value))) [Value.int .u8 (fE (c.key ++ c.value) (p - 0))] [Value.int .u8 0]) [] q = Cs.eff (fun (p : Nat) => cond (Nat.ble 0 p && Nat.blt p (0 + ByteArray.size (c.key ++ c.value))) [Value.int .u8 (fE (c.key ++ c.value) (p - 0))] [Value.int .u8 0]) [] q)/\ags c
def acH (a : zn) (b : Int) (c : dL) : Prop := agt a/\(Int.toNat (cpc b) = Int.toNat (cpc b)/\∀ q : Nat,q < Int.toNat (cpc b)->Cs.eff (fun (p : Nat) => cond (Nat.ble 0 p && Nat.blt p (0 + Int.toNat (cpc b))) [Value.int .u8 (fE (c.key ++ c.value) (p - 0))] [Value.int .u8 0]) [] q = Cs.eff (fun (p : Nat) => cond (Nat.ble 0 p && Nat.blt p (0 + Int.toNat (cpc b))) [Value.int .u8 (fE (c.key ++ c.value) (p - 0))] [Value.int .u8 0]) [] q)/\ags c
def agu (a : dL) (b : Nat) (c : Nat) : Prop := (Nat.beq (List.length (Cs.eff (fun (p : Nat) => cond (Nat.ble 0 p && Nat.blt p (0 + ByteArray.size (a.key ++ a.value))) [Value.int .u8 (fE (a.key ++ a.value) (p - 0))] [Value.int .u8 0]) [] (28 + 63 * b + c))) 1 && List.all (Cs.eff (fun (p : Nat) => cond (Nat.ble 0 p && Nat.blt p (0 + ByteArray.size (a.key ++ a.value))) [Value.int .u8 (fE (a.key ++ a.value) (p - 0))] [Value.int .u8 0]) [] (28 + 63 * b + c)) Value.oneCell') = true
def agv (a : dL) (b : Nat) : Prop := (Nat.beq (List.length (Cs.eff (fun (p : Nat) => cond (Nat.ble 0 p && Nat.blt p (0 + ByteArray.size (a.key ++ a.value))) [Value.int .u8 (fE (a.key ++ a.value) (p - 0))] [Value.int .u8 0]) [] (28 + b))) 1 && List.all (Cs.eff (fun (p : Nat) => cond (Nat.ble 0 p && Nat.blt p (0 + ByteArray.size (a.key ++ a.value))) [Value.int .u8 (fE (a.key ++ a.value) (p - 0))] [Value.int .u8 0]) [] (28 + b)) Value.oneCell') = true
def agw (a : Int) (b : dL) (c : Nat) (d : Nat) : Prop := (Nat.beq (List.length (Cs.eff (fun (p : Nat) => cond (Nat.ble 0 p && Nat.blt p (0 + Int.toNat (cpc a))) [Value.int .u8 (fE (b.key ++ b.value) (p - 0))] [Value.int .u8 0]) [] (28 + 63 * c + d))) 1 && List.all (Cs.eff (fun (p : Nat) => cond (Nat.ble 0 p && Nat.blt p (0 + Int.toNat (cpc a))) [Value.int .u8 (fE (b.key ++ b.value) (p - 0))] [Value.int .u8 0]) [] (28 + 63 * c + d)) Value.oneCell') = true
def agx (a : Int) (b : dL) (c : Nat) : Prop := (Nat.beq (List.length (Cs.eff (fun (p : Nat) => cond (Nat.ble 0 p && Nat.blt p (0 + Int.toNat (cpc a))) [Value.int .u8 (fE (b.key ++ b.value) (p - 0))] [Value.int .u8 0]) [] (28 + c))) 1 && List.all (Cs.eff (fun (p : Nat) => cond (Nat.ble 0 p && Nat.blt p (0 + Int.toNat (cpc a))) [Value.int .u8 (fE (b.key ++ b.value) (p - 0))] [Value.int .u8 0]) [] (28 + c)) Value.oneCell') = true
def agy (a : dL) (b : zn) : Prop := (∃ y_4 : Unit,Hd (a.cls = 0)/\((0 = 0/\64 = 64/\64 = 64)/\(0 : Int) = 0/\True)/\(64 = 64/\∀ q : Nat,q < 64->[Value.int .u8 (a.enc q)] = [Value.int .u8 (b.b.jy (fun (k : Nat) => b.d.g (b.d.q + k)) b.d.n q)])/\True) ∨ ∃ y_4 : Unit,Hd (a.cls ≠ (0 : Int))/\(False/\(0 : Int) = 0/\True)/\False/\True
def RH : Prop := (0 : Int)<=64/\(0 : Int)<=0/\(0 : Int)<=281474976710592/\(0 : Int)<=4611686018427387839
def agz (a : dL) (b : Nat) : Prop := (∃ y_4 : Unit,Hd (a.cls = 0)/\(False/\(0 : Int) = 0/\True)/\False/\True) ∨ ∃ y_4 : Unit,Hd (a.cls ≠ (0 : Int))/\((0 = 0/\64 * a.dD = 64 * (b + 1))/\(0 : Int) = 0/\True)/\(64 * a.dD = 64 * (b + 1)/\∀ q : Nat,q < 64 * a.dD->[Value.int .u8 (a.enc q)] = [Value.int .u8 (a.enc q)])/\True
def RI (a : dL) (b : Nat) : Prop := a.iL - 28 - 63 * b<=a.iL - 28 - 63 * b
def Zz (a : dL) (b : dL) : Prop := a.cls = b.cls/\a.kind = b.kind/\a.id = b.id/\a.ver = b.ver/\a.epoch = b.epoch/\a.key = b.key/\a.value = b.value/\True
def EO (a : Nat) (b : Nat) : Prop := 64 * (a + 1) = 64 * (b + 1) + 64
def agA (a : Nat) (b : Nat) (c : dL) : Prop := (a : Int) = (b : Int) + 1/\(28 + 63 * a = 28 + 63 * b + (c.iL - 28 - 63 * b)/\c.iL - 28 - 63 * a = c.iL - 28 - 63 * b - (c.iL - 28 - 63 * b)/\c.iL - 28 - 63 * a = c.iL - 28 - 63 * b - (c.iL - 28 - 63 * b))/\(0 = 0/\EO a b)/\True
def RJ (a : dL) (b : Nat) : Prop := RI a b/\RI a b
def qZ (a : Nat) (b : dL) : Prop := Hd (1<=a/\a + 1<=b.dD)
def Jl (a : Bys) : Prop := (rowB a.g a.N = rowB a.g a.N/\true = true)/\True
def agB (a : Nat) (b : Nat) (c : dL) : Prop := (a : Int) = (b : Int) + 1/\(28 + 63 * a = 28 + 63 * b + 63/\c.iL - 28 - 63 * a = c.iL - 28 - 63 * b - 63/\c.iL - 28 - 63 * a = c.iL - 28 - 63 * b - 63)/\(0 = 0/\EO a b)/\True
def agC (a : Nat) (b : dL) : Prop := (a : Int) = 1/\(28 + 63 * a = 28 + (b.iL - 28)/\b.iL - 28 - 63 * a = b.iL - 28 - (b.iL - 28)/\b.iL - 28 - 63 * a = b.iL - 28 - (b.iL - 28))/\(0 = 0/\64 * (a + 1) = 128)/\True
def ru (a : dL) : Prop := a.iL - 28<=a.iL - 28
def agD (a : Nat) (b : dL) : Prop := (a : Int) = 1/\(28 + 63 * a = 91/\b.iL - 28 - 63 * a = b.iL - 28 - 63/\b.iL - 28 - 63 * a = b.iL - 28 - 63)/\(0 = 0/\64 * (a + 1) = 128)/\True
def RN (a : Nat) : Prop := (2 * (64 * (a + 1) + 64) + 1000) * 1<=281474976710656
def EP : Prop := (0 : Int)<=0/\(0 : Int)<=63
def RP : Prop := (2 * (64 + 64) + 1000) * 1<=281474976710656
def agE (a : dL) (b : Int) : Prop := (0 : Int) = 0/\(28 = 28/\a.iL - 28 = Int.toNat (cpc b) - 28/\a.iL - 28 = Int.toNat (cpc b) - 28)/\(0 = 0/\64 = 64/\64 = 64)/\True
def agF (a : dL) (b : Nat) : Prop := (Nat.beq (List.length [Value.int .u8 (fE (a.key ++ a.value) b)]) 1 && List.all [Value.int .u8 (fE (a.key ++ a.value) b)] Value.oneCell') = true
def agG (a : Int) : Prop := 28<=Int.toNat (cpc a)/\Int.toNat (cpc a)<=Int.toNat (cpc a)/\Int.toNat (cpc a)<=Int.toNat (cpc a)
def RQ : Prop := 1<=64/\64<=64/\64<=64
def agH (a : Nat) (b : Nat) : Prop := 28 + 63 * a = 28 + 63 * b + (Int.toNat (((64 + 64 * b : Nat) : Int) + 64) - Int.toNat (((64 + 64 * b : Nat) : Int) + 1))
def ZA (a : Int) : Prop := 0<=cpc a/\cpc a<=cpc a/\1 * cpc a<=281474976710656/\cpc a < 4611686018427387904
def anK (x : dL) : Prop :=
 ∃ x_1 : dL,Hd (x_1.key.size < 1099511627776/\x_1.value.size < 1099511627776)/\(Zz x_1 x/\True)/\True/\∀ y : Unit,True->cP (Bool.not x_1.UO) ((∃ y_1 : Unit,Hd (x.cls = 0)/\(False/\(0 : Int) = 3/\True)/\False/\True) ∨ ∃ y_1 : Unit,Hd (x.cls ≠ (0 : Int))/\(False/\(0 : Int) = 3/\True)/\False/\True) (∃ x_2 : Int,True/\(x_2 = x.cls/\True)/\True/\∀ y_1 : Unit,True->ZA x_2/\((x.key.size + x.value.size : Nat) : Int)<=9223372036854775807/\0 + Int.toNat (cpc x_2)<=Int.toNat (cpc x_2)/\cP (Nat.ble (ByteArray.size (x.key ++ x.value)) (Int.toNat (cpc x_2))) ((∀ k : Nat,k < ByteArray.size (x.key ++ x.value)->agF x k)/\∃ x_3 : zn,Hd x_3.ok/\(Zz x_3.b x/\(x_3.d.q = 0/\x_3.d.n = Int.toNat (cpc x_2))/\True)/\((x_3.d.N = Int.toNat (cpc x_2)/\∀ q : Nat,q < x_3.d.N->[Value.int .u8 (x_3.d.g q)] = Cs.eff (fun (p : Nat) => cond (Nat.ble 0 p && Nat.blt p (0 + ByteArray.size (x.key ++ x.value))) [Value.int .u8 (fE (x.key ++ x.value) (p - 0))] [Value.int .u8 0]) [] q)/\True)/\∀ y_2 : Unit,True->(0 : Int)<=28/\agG x_2/\∃ x_4 : Int,True/\(x_4 = x.cls/\True)/\True/\∀ y_3 : Unit,True->I64 (spn x_4 - 1)/\(∃ s : Unit,Hd True/\True/\agE x x_2/\acG x_3 x_2 x)/\(∀ s : Unit,Hd True->cP (decide (0 < spn x_4 - 1)) (RH/\EP/\0 < 64/\(0 : Int)<=1/\RQ/\64<=64/\cP (Nat.ble (x.iL - 28) 63) (28 + (x.iL - 28)<=Int.toNat (cpc x_2)/\(∀ k : Nat,k < x.iL - 28->agv x k)/\0<=((x.iL - 28 : Nat) : Int)/\(ru x/\ru x/\ru x)/\64<=64/\64<=64/\RP/\I64 (1 : Int)/\∃ s_1 : Nat,qZ s_1 x/\x.dD - s_1 < x.dD + 1/\agC s_1 x/\(64 * (s_1 + 1) = 128/\
 ∀ q : Nat,q < 64 * (s_1 + 1)->[Value.int .u8 (x.enc q)] = Cs.eff (fun (q_1 : Nat) => cond (Nat.blt q_1 64) [Value.int .u8 (x_3.b.jy (fun (k : Nat) => x_3.d.g (x_3.d.q + k)) x_3.d.n (0 + q_1))] (Cs.eff (fun (p : Nat) => cond (Nat.ble 1 p && Nat.blt p (1 + (x.iL - 28))) (Cs.eff (fun (p_1 : Nat) => cond (Nat.ble 0 p_1 && Nat.blt p_1 (0 + ByteArray.size (x.key ++ x.value))) [Value.int .u8 (fE (x.key ++ x.value) (p_1 - 0))] [Value.int .u8 0]) [] (28 + (p - 1))) (Cs.eff (fun (x_5 : Nat) => [Value.int .u8 0]) [(0,[Value.int .u8 2])] p)) [] (0 + (q_1 - 64)))) [] q)/\acG x_3 x_2 x) (91<=Int.toNat (cpc x_2)/\(∀ k : Nat,k < 63->agv x k)/\0<=((63 : Nat) : Int)/\(63<=x.iL - 28/\ru x/\ru x)/\64<=64/\64<=64/\RP/\I64 (1 : Int)/\∃ s_1 : Nat,qZ s_1 x/\x.dD - s_1 < x.dD + 1/\agD s_1 x/\(64 * (s_1 + 1) = 128/\∀ q : Nat,q < 64 * (s_1 + 1)->[Value.int .u8 (x.enc q)] = Cs.eff (fun (q_1 : Nat) => cond (Nat.blt q_1 64) [Value.int .u8 (x_3.b.jy (fun (k : Nat) => x_3.d.g (x_3.d.q + k)) x_3.d.n (0 + q_1))] (Cs.eff (fun (p : Nat) => cond (Nat.ble 1 p && Nat.blt p 64) (Cs.eff (fun (p_1 : Nat) => cond (Nat.ble 0 p_1 && Nat.blt p_1 (0 + ByteArray.size (x.key ++ x.value))) [Value.int .u8 (fE (x.key ++ x.value) (p_1 - 0))] [Value.int .u8 0]) [] (28 + (p - 1))) (Cs.eff (fun (x_5 : Nat) => [Value.int .u8 0]) [(0,[Value.int .u8 2])] p)) [] (0 + (q_1 - 64)))) [] q)/\acG x_3 x_2 x)) (agy x x_3))/\(∀ s : Nat,qZ s x->cP (decide ((s : Int) < spn x_4 - 1)) (RH/\EP/\0 < 64/\(0 : Int)<=1/\RQ/\64<=64/\cP (Nat.ble (x.iL - 28 - 63 * s) 63) (28 + 63 * s + (x.iL - 28 - 63 * s)<=Int.toNat (cpc x_2)/\(∀ k : Nat,k < x.iL - 28 - 63 * s->agu x s k)/\0<=((x.iL - 28 - 63 * s : Nat) : Int)/\(RI x s/\
 RJ x s)/\64 * (s + 1) = 64 * (s + 1)/\64<=64/\(∀ k : Nat,k < 64->(Nat.beq (List.length (Cs.eff (fun (p : Nat) => cond (Nat.ble 1 p && Nat.blt p (1 + (x.iL - 28 - 63 * s))) (Cs.eff (fun (p_1 : Nat) => cond (Nat.ble 0 p_1 && Nat.blt p_1 (0 + ByteArray.size (x.key ++ x.value))) [Value.int .u8 (fE (x.key ++ x.value) (p_1 - 0))] [Value.int .u8 0]) [] (28 + 63 * s + (p - 1))) (Cs.eff (fun (x_5 : Nat) => [Value.int .u8 0]) [(0,[Value.int .u8 2])] p)) [] (0 + k))) 1 && List.all (Cs.eff (fun (p : Nat) => cond (Nat.ble 1 p && Nat.blt p (1 + (x.iL - 28 - 63 * s))) (Cs.eff (fun (p_1 : Nat) => cond (Nat.ble 0 p_1 && Nat.blt p_1 (0 + ByteArray.size (x.key ++ x.value))) [Value.int .u8 (fE (x.key ++ x.value) (p_1 - 0))] [Value.int .u8 0]) [] (28 + 63 * s + (p - 1))) (Cs.eff (fun (x_5 : Nat) => [Value.int .u8 0]) [(0,[Value.int .u8 2])] p)) [] (0 + k)) Value.oneCell') = true)/\RN s/\I64 ((s : Int) + 1)/\∃ s_1 : Nat,qZ s_1 x/\x.dD - s_1 < x.dD - s/\agA s_1 s x/\(EO s_1 s/\∀ q : Nat,q < 64 * (s_1 + 1)->[Value.int .u8 (x.enc q)] = Cs.eff (fun (q_1 : Nat) => cond (Nat.blt q_1 (64 * (s + 1))) [Value.int .u8 (x.enc q_1)] (Cs.eff (fun (p : Nat) => cond (Nat.ble 1 p && Nat.blt p (1 + (x.iL - 28 - 63 * s))) (Cs.eff (fun (p_1 : Nat) => cond (Nat.ble 0 p_1 && Nat.blt p_1 (0 + ByteArray.size (x.key ++ x.value))) [Value.int .u8 (fE (x.key ++ x.value) (p_1 - 0))] [Value.int .u8 0]) [] (28 + 63 * s + (p - 1))) (Cs.eff (fun (x_5 : Nat) => [Value.int .u8 0]) [(0,[Value.int .u8 2])] p)) [] (0 + (q_1 - 64 * (s + 1))))) [] q)/\acG x_3 x_2 x) (28 + 63 * s + 63<=Int.toNat (cpc x_2)/\(∀ k : Nat,k < 63->agu x s k)/\0<=((63 : Nat) : Int)/\(63<=x.iL - 28 - 63 * s/\RJ x s)/\64 * (s + 1) = 64 * (s + 1)/\64<=64/\
 (∀ k : Nat,k < 64->(Nat.beq (List.length (Cs.eff (fun (p : Nat) => cond (Nat.ble 1 p && Nat.blt p 64) (Cs.eff (fun (p_1 : Nat) => cond (Nat.ble 0 p_1 && Nat.blt p_1 (0 + ByteArray.size (x.key ++ x.value))) [Value.int .u8 (fE (x.key ++ x.value) (p_1 - 0))] [Value.int .u8 0]) [] (28 + 63 * s + (p - 1))) (Cs.eff (fun (x_5 : Nat) => [Value.int .u8 0]) [(0,[Value.int .u8 2])] p)) [] (0 + k))) 1 && List.all (Cs.eff (fun (p : Nat) => cond (Nat.ble 1 p && Nat.blt p 64) (Cs.eff (fun (p_1 : Nat) => cond (Nat.ble 0 p_1 && Nat.blt p_1 (0 + ByteArray.size (x.key ++ x.value))) [Value.int .u8 (fE (x.key ++ x.value) (p_1 - 0))] [Value.int .u8 0]) [] (28 + 63 * s + (p - 1))) (Cs.eff (fun (x_5 : Nat) => [Value.int .u8 0]) [(0,[Value.int .u8 2])] p)) [] (0 + k)) Value.oneCell') = true)/\RN s/\I64 ((s : Int) + 1)/\∃ s_1 : Nat,qZ s_1 x/\x.dD - s_1 < x.dD - s/\agB s_1 s x/\(EO s_1 s/\∀ q : Nat,q < 64 * (s_1 + 1)->[Value.int .u8 (x.enc q)] = Cs.eff (fun (q_1 : Nat) => cond (Nat.blt q_1 (64 * (s + 1))) [Value.int .u8 (x.enc q_1)] (Cs.eff (fun (p : Nat) => cond (Nat.ble 1 p && Nat.blt p 64) (Cs.eff (fun (p_1 : Nat) => cond (Nat.ble 0 p_1 && Nat.blt p_1 (0 + ByteArray.size (x.key ++ x.value))) [Value.int .u8 (fE (x.key ++ x.value) (p_1 - 0))] [Value.int .u8 0]) [] (28 + 63 * s + (p - 1))) (Cs.eff (fun (x_5 : Nat) => [Value.int .u8 0]) [(0,[Value.int .u8 2])] p)) [] (0 + (q_1 - 64 * (s + 1))))) [] q)/\acG x_3 x_2 x)) (agz x s))/\True) ((∀ k : Nat,k < Int.toNat (cpc x_2)->agF x k)/\∃ x_3 : zn,Hd x_3.ok/\(Zz x_3.b x/\(x_3.d.q = 0/\x_3.d.n = Int.toNat (cpc x_2))/\True)/\((x_3.d.N = Int.toNat (cpc x_2)/\
 ∀ q : Nat,q < x_3.d.N->[Value.int .u8 (x_3.d.g q)] = Cs.eff (fun (p : Nat) => cond (Nat.ble 0 p && Nat.blt p (0 + Int.toNat (cpc x_2))) [Value.int .u8 (fE (x.key ++ x.value) (p - 0))] [Value.int .u8 0]) [] q)/\True)/\∀ y_2 : Unit,True->(0 : Int)<=28/\agG x_2/\∃ x_4 : Int,True/\(x_4 = x.cls/\True)/\True/\∀ y_3 : Unit,True->I64 (spn x_4 - 1)/\(∃ s : Unit,Hd True/\True/\agE x x_2/\acH x_3 x_2 x)/\(∀ s : Unit,Hd True->cP (decide (0 < spn x_4 - 1)) (RH/\EP/\0 < 64/\(0 : Int)<=1/\RQ/\64<=64/\cP (Nat.ble (x.iL - 28) 63) (28 + (x.iL - 28)<=Int.toNat (cpc x_2)/\(∀ k : Nat,k < x.iL - 28->agx x_2 x k)/\0<=((x.iL - 28 : Nat) : Int)/\(ru x/\ru x/\ru x)/\64<=64/\64<=64/\RP/\I64 (1 : Int)/\∃ s_1 : Nat,qZ s_1 x/\x.dD - s_1 < x.dD + 1/\agC s_1 x/\(64 * (s_1 + 1) = 128/\∀ q : Nat,q < 64 * (s_1 + 1)->[Value.int .u8 (x.enc q)] = Cs.eff (fun (q_1 : Nat) => cond (Nat.blt q_1 64) [Value.int .u8 (x_3.b.jy (fun (k : Nat) => x_3.d.g (x_3.d.q + k)) x_3.d.n (0 + q_1))] (Cs.eff (fun (p : Nat) => cond (Nat.ble 1 p && Nat.blt p (1 + (x.iL - 28))) (Cs.eff (fun (p_1 : Nat) => cond (Nat.ble 0 p_1 && Nat.blt p_1 (0 + Int.toNat (cpc x_2))) [Value.int .u8 (fE (x.key ++ x.value) (p_1 - 0))] [Value.int .u8 0]) [] (28 + (p - 1))) (Cs.eff (fun (x_5 : Nat) => [Value.int .u8 0]) [(0,[Value.int .u8 2])] p)) [] (0 + (q_1 - 64)))) [] q)/\acH x_3 x_2 x) (91<=Int.toNat (cpc x_2)/\(∀ k : Nat,k < 63->agx x_2 x k)/\0<=((63 : Nat) : Int)/\(63<=x.iL - 28/\ru x/\ru x)/\64<=64/\64<=64/\RP/\I64 (1 : Int)/\∃ s_1 : Nat,qZ s_1 x/\x.dD - s_1 < x.dD + 1/\agD s_1 x/\(64 * (s_1 + 1) = 128/\
 ∀ q : Nat,q < 64 * (s_1 + 1)->[Value.int .u8 (x.enc q)] = Cs.eff (fun (q_1 : Nat) => cond (Nat.blt q_1 64) [Value.int .u8 (x_3.b.jy (fun (k : Nat) => x_3.d.g (x_3.d.q + k)) x_3.d.n (0 + q_1))] (Cs.eff (fun (p : Nat) => cond (Nat.ble 1 p && Nat.blt p 64) (Cs.eff (fun (p_1 : Nat) => cond (Nat.ble 0 p_1 && Nat.blt p_1 (0 + Int.toNat (cpc x_2))) [Value.int .u8 (fE (x.key ++ x.value) (p_1 - 0))] [Value.int .u8 0]) [] (28 + (p - 1))) (Cs.eff (fun (x_5 : Nat) => [Value.int .u8 0]) [(0,[Value.int .u8 2])] p)) [] (0 + (q_1 - 64)))) [] q)/\acH x_3 x_2 x)) (agy x x_3))/\(∀ s : Nat,qZ s x->cP (decide ((s : Int) < spn x_4 - 1)) (RH/\EP/\0 < 64/\(0 : Int)<=1/\RQ/\64<=64/\cP (Nat.ble (x.iL - 28 - 63 * s) 63) (28 + 63 * s + (x.iL - 28 - 63 * s)<=Int.toNat (cpc x_2)/\(∀ k : Nat,k < x.iL - 28 - 63 * s->agw x_2 x s k)/\0<=((x.iL - 28 - 63 * s : Nat) : Int)/\(RI x s/\RJ x s)/\64 * (s + 1) = 64 * (s + 1)/\64<=64/\(∀ k : Nat,k < 64->(Nat.beq (List.length (Cs.eff (fun (p : Nat) => cond (Nat.ble 1 p && Nat.blt p (1 + (x.iL - 28 - 63 * s))) (Cs.eff (fun (p_1 : Nat) => cond (Nat.ble 0 p_1 && Nat.blt p_1 (0 + Int.toNat (cpc x_2))) [Value.int .u8 (fE (x.key ++ x.value) (p_1 - 0))] [Value.int .u8 0]) [] (28 + 63 * s + (p - 1))) (Cs.eff (fun (x_5 : Nat) => [Value.int .u8 0]) [(0,[Value.int .u8 2])] p)) [] (0 + k))) 1 && List.all (Cs.eff (fun (p : Nat) => cond (Nat.ble 1 p && Nat.blt p (1 + (x.iL - 28 - 63 * s))) (Cs.eff (fun (p_1 : Nat) => cond (Nat.ble 0 p_1 && Nat.blt p_1 (0 + Int.toNat (cpc x_2))) [Value.int .u8 (fE (x.key ++ x.value) (p_1 - 0))] [Value.int .u8 0]) [] (28 + 63 * s + (p - 1))) (Cs.eff (fun (x_5 : Nat) => [Value.int .u8 0]) [(0,[Value.int .u8 2])] p)) [] (0 + k)) Value.oneCell') = true)/\
 RN s/\I64 ((s : Int) + 1)/\∃ s_1 : Nat,qZ s_1 x/\x.dD - s_1 < x.dD - s/\agA s_1 s x/\(EO s_1 s/\∀ q : Nat,q < 64 * (s_1 + 1)->[Value.int .u8 (x.enc q)] = Cs.eff (fun (q_1 : Nat) => cond (Nat.blt q_1 (64 * (s + 1))) [Value.int .u8 (x.enc q_1)] (Cs.eff (fun (p : Nat) => cond (Nat.ble 1 p && Nat.blt p (1 + (x.iL - 28 - 63 * s))) (Cs.eff (fun (p_1 : Nat) => cond (Nat.ble 0 p_1 && Nat.blt p_1 (0 + Int.toNat (cpc x_2))) [Value.int .u8 (fE (x.key ++ x.value) (p_1 - 0))] [Value.int .u8 0]) [] (28 + 63 * s + (p - 1))) (Cs.eff (fun (x_5 : Nat) => [Value.int .u8 0]) [(0,[Value.int .u8 2])] p)) [] (0 + (q_1 - 64 * (s + 1))))) [] q)/\acH x_3 x_2 x) (28 + 63 * s + 63<=Int.toNat (cpc x_2)/\(∀ k : Nat,k < 63->agw x_2 x s k)/\0<=((63 : Nat) : Int)/\(63<=x.iL - 28 - 63 * s/\RJ x s)/\64 * (s + 1) = 64 * (s + 1)/\64<=64/\(∀ k : Nat,k < 64->(Nat.beq (List.length (Cs.eff (fun (p : Nat) => cond (Nat.ble 1 p && Nat.blt p 64) (Cs.eff (fun (p_1 : Nat) => cond (Nat.ble 0 p_1 && Nat.blt p_1 (0 + Int.toNat (cpc x_2))) [Value.int .u8 (fE (x.key ++ x.value) (p_1 - 0))] [Value.int .u8 0]) [] (28 + 63 * s + (p - 1))) (Cs.eff (fun (x_5 : Nat) => [Value.int .u8 0]) [(0,[Value.int .u8 2])] p)) [] (0 + k))) 1 && List.all (Cs.eff (fun (p : Nat) => cond (Nat.ble 1 p && Nat.blt p 64) (Cs.eff (fun (p_1 : Nat) => cond (Nat.ble 0 p_1 && Nat.blt p_1 (0 + Int.toNat (cpc x_2))) [Value.int .u8 (fE (x.key ++ x.value) (p_1 - 0))] [Value.int .u8 0]) [] (28 + 63 * s + (p - 1))) (Cs.eff (fun (x_5 : Nat) => [Value.int .u8 0]) [(0,[Value.int .u8 2])] p)) [] (0 + k)) Value.oneCell') = true)/\RN s/\I64 ((s : Int) + 1)/\∃ s_1 : Nat,qZ s_1 x/\x.dD - s_1 < x.dD - s/\agB s_1 s x/\(EO s_1 s/\
 ∀ q : Nat,q < 64 * (s_1 + 1)->[Value.int .u8 (x.enc q)] = Cs.eff (fun (q_1 : Nat) => cond (Nat.blt q_1 (64 * (s + 1))) [Value.int .u8 (x.enc q_1)] (Cs.eff (fun (p : Nat) => cond (Nat.ble 1 p && Nat.blt p 64) (Cs.eff (fun (p_1 : Nat) => cond (Nat.ble 0 p_1 && Nat.blt p_1 (0 + Int.toNat (cpc x_2))) [Value.int .u8 (fE (x.key ++ x.value) (p_1 - 0))] [Value.int .u8 0]) [] (28 + 63 * s + (p - 1))) (Cs.eff (fun (x_5 : Nat) => [Value.int .u8 0]) [(0,[Value.int .u8 2])] p)) [] (0 + (q_1 - 64 * (s + 1))))) [] q)/\acH x_3 x_2 x)) (agz x s))/\True))
theorem akp (x : dL) : anK x = wpF Tryz.prog anI tt (apP x) 200 5 180 (ako.args x) (hO ako.k (ako.os x)) (fun v h' => eU ako.k x v h' ako.outs) := by kernel_rfl
def WT (x : Int) : Prop :=
 ∃ x_1 : Int,True/\(x_1 = x/\True)/\True/\∀ y : Unit,True->cP (BEq.beq (spn x_1) (0 : Int)) (∃ y_1 : Unit,True/\False/\False/\True) (∃ x_2 : Int,True/\(x_2 = x/\True)/\True/\∀ y_1 : Unit,True->ZA x_2/\∃ x_3 : zn,Hd x_3.ok/\((x_3.b.cls = x/\Zw x_3.b)/\(x_3.d.q = 0/\x_3.d.n = Int.toNat (cpc x_2))/\True)/\((x_3.d.N = Int.toNat (cpc x_2)/\∀ q : Nat,q < x_3.d.N->[Value.int .u8 (x_3.d.g q)] = [Value.int .u8 0])/\True)/\∀ y_2 : Unit,True->∃ y_3 : Unit,True/\(0 = 0/\64 = 64/\64 = 64)/\(64 = 64/\∀ q : Nat,q < 64->[Value.int .u8 (dL.jy (dL.mk x (0 : Int) (0 : Int) (0 : Int) (0 : Int) (ByteArray.mk #[]) (ByteArray.mk #[])) (fun (x_4 : Nat) => (0 : Int)) (Int.toNat (cpc x)) q)] = [Value.int .u8 (x_3.b.jy (fun (k : Nat) => x_3.d.g (x_3.d.q + k)) x_3.d.n q)])/\True)
theorem acI (x : Int) : WT x = wpF Tryz.prog anI tt (noA x) 200 5 63 (EL.args x) (hO EL.k (EL.os x)) (fun v h' => eU EL.k x v h' EL.outs) := by kernel_rfl
def agJ (x : Aq) : Prop :=
 (0 : Int)<=64/\(0 : Int)<=36/\(36<=64/\64<=x.b.n/\x.b.n<=x.b.n)/\x.b.q + 36 + 28<=x.b.N/\(2 * (0 + 28) + 1000) * 1<=281474976710656/\(∃ s : Unit,Hd True/\True/\((64 : Int) = 64/\(0 = 0/\28 = 28)/\True)/\(28 = 28/\∀ q : Nat,q < 28->[Value.int .u8 (x.at_ q)] = [Value.int .u8 (x.b.g (x.b.q + 36 + (q - 0)))])/\True/\Jl x.b)/\(∀ s : Unit,Hd True->cP (decide (64 < (x.b.n : Int))) (I64 (65 : Int)/\I64 (128 : Int)/\(0 : Int)<=128/\(0 : Int)<=65/\(65<=128/\128<=x.b.n/\x.b.n<=x.b.n)/\28 = 28/\x.b.q + 65 + 63<=x.b.N/\(∀ k : Nat,k < 63->(Nat.beq (List.length [Value.int .u8 (x.b.g (x.b.q + 65 + k))]) 1 && List.all [Value.int .u8 (x.b.g (x.b.q + 65 + k))] Value.oneCell') = true)/\(2 * (28 + 63) + 1000) * 1<=281474976710656/\I64 (128 : Int)/\∃ s_1 : Nat,Hd (1<=s_1/\s_1 + 1<=x.s)/\x.s - s_1 < x.s + 1/\(((64 + 64 * s_1 : Nat) : Int) = 128/\(0 = 0/\28 + 63 * s_1 = 91)/\True)/\(28 + 63 * s_1 = 91/\∀ q : Nat,q < 28 + 63 * s_1->[Value.int .u8 (x.at_ q)] = Cs.eff (fun (q_1 : Nat) => cond (Nat.blt q_1 28) [Value.int .u8 (x.at_ q_1)] [Value.int .u8 (x.b.g (x.b.q + 65 + (q_1 - 28)))]) [] q)/\True/\Jl x.b) (28<=28/\(∀ k : Nat,k < 28->isByte [Value.int .u8 (x.at_ (0 + k))] = true)/\∃ y : Unit,True/\x.str = @ByteArray.mk (@List.toArray UInt8 (List.map (fun (k : Nat) => UInt8.ofBitVec (@BitVec.ofNat 8 (Int.toNat (x.at_ (0 + k))))) (@List.range 28)))/\Jl x.b))/\(∀ s : Nat,Hd (1<=s/\s + 1<=x.s)->cP (decide (((64 + 64 * s : Nat) : Int) < (x.b.n : Int))) (I64 (((64 + 64 * s : Nat) : Int) + 1)/\I64 (((64 + 64 * s : Nat) : Int) + 64)/\0<=((64 + 64 * s : Nat) : Int) + 64/\0<=((64 + 64 * s : Nat) : Int) + 1/\(Int.toNat (((64 + 64 * s : Nat) : Int) + 1)<=Int.toNat (((64 + 64 * s : Nat) : Int) + 64)/\
 Int.toNat (((64 + 64 * s : Nat) : Int) + 64)<=x.b.n/\x.b.n<=x.b.n)/\28 + 63 * s = 28 + 63 * s/\x.b.q + Int.toNat (((64 + 64 * s : Nat) : Int) + 1) + (Int.toNat (((64 + 64 * s : Nat) : Int) + 64) - Int.toNat (((64 + 64 * s : Nat) : Int) + 1))<=x.b.N/\(∀ k : Nat,k < Int.toNat (((64 + 64 * s : Nat) : Int) + 64) - Int.toNat (((64 + 64 * s : Nat) : Int) + 1)->(Nat.beq (List.length [Value.int .u8 (x.b.g (x.b.q + Int.toNat (((64 + 64 * s : Nat) : Int) + 1) + k))]) 1 && List.all [Value.int .u8 (x.b.g (x.b.q + Int.toNat (((64 + 64 * s : Nat) : Int) + 1) + k))] Value.oneCell') = true)/\(2 * (28 + 63 * s + (Int.toNat (((64 + 64 * s : Nat) : Int) + 64) - Int.toNat (((64 + 64 * s : Nat) : Int) + 1))) + 1000) * 1<=281474976710656/\I64 (((64 + 64 * s : Nat) : Int) + 64)/\∃ s_1 : Nat,Hd (1<=s_1/\s_1 + 1<=x.s)/\x.s - s_1 < x.s - s/\(((64 + 64 * s_1 : Nat) : Int) = ((64 + 64 * s : Nat) : Int) + 64/\(0 = 0/\agH s_1 s)/\True)/\(agH s_1 s/\∀ q : Nat,q < 28 + 63 * s_1->[Value.int .u8 (x.at_ q)] = Cs.eff (fun (q_1 : Nat) => cond (Nat.blt q_1 (28 + 63 * s)) [Value.int .u8 (x.at_ q_1)] [Value.int .u8 (x.b.g (x.b.q + Int.toNat (((64 + 64 * s : Nat) : Int) + 1) + (q_1 - (28 + 63 * s))))]) [] q)/\True/\Jl x.b) (0 + (28 + 63 * s)<=28 + 63 * s/\(∀ k : Nat,k < 28 + 63 * s->isByte [Value.int .u8 (x.at_ (0 + k))] = true)/\∃ y : Unit,True/\x.str = @ByteArray.mk (@List.toArray UInt8 (List.map (fun (k : Nat) => UInt8.ofBitVec (@BitVec.ofNat 8 (Int.toNat (x.at_ (0 + k))))) (@List.range (28 + 63 * s))))/\Jl x.b))/\True
theorem agK (x : Aq) : agJ x = wpF Tryz.prog [] tt (alU x) 200 5 179 (WS.args x) (hO WS.k (WS.os x)) (fun v h' => eU WS.k x v h' WS.outs) := by kernel_rfl
def anL (x : agr) : Prop :=
 cP (decide (((64 * x.b.dD : Nat) : Int) < 64)) (∃ y : Unit,zo x) ((0 : Int)<=64/\(0<=64/\64<=64 * x.b.dD/\64 * x.b.dD<=64 * x.b.dD)/\EP/\0 < 64 * x.b.dD/\cP (bne (x.g 0) (1 : Int)) (∃ y : Unit,zo x) (((0 : Int)<=1/\(0 : Int)<=62)/\1 < 64 * x.b.dD/\I64 (x.g 1)/\∃ x_1 : Int,True/\(x_1 = x.g 1/\True)/\True/\∀ y : Unit,True->cP (BEq.beq (spn x_1) (0 : Int)) (∃ y_1 : Unit,zo x) (((0 : Int)<=2/\(0 : Int)<=61)/\2 < 64 * x.b.dD/\cP (decide (x.g 2 > (3 : Int))) (∃ y_1 : Unit,zo x) (((0 : Int)<=1/\(0 : Int)<=62)/\1 < 64 * x.b.dD/\I64 (x.g 1)/\((0 : Int)<=2/\(0 : Int)<=61)/\2 < 64 * x.b.dD/\I64 (x.g 2)/\∃ x_2 : Int,True/\(x_2 = x.g 1/\True)/\True/\∀ y_1 : Unit,True->I64 (spn x_2 * 64)/\cP (bne ((64 * x.b.dD : Nat) : Int) (spn x_2 * 64)) (∃ y_2 : Unit,zo x) (((0 : Int)<=3/\4<=((64 * x.b.dD : Nat) : Int))/\3 < 64 * x.b.dD/\I64 (x.g 3)/\∃ x_3 : EK,yA x_3/\(Ar x_3.b x.b/\(x_3.at_ : Int) = 4/\(x_3.w : Int) = 2/\True)/\uq x_3.b x/\∀ y_2 : Unit,True->((3 < 64 * x.b.dD/\AV.lit (Value.int .u8 (x.g 3)) = AV.lit (Value.int .u8 (x.g 3)))/\True)/\I64 (vW (fun (k : Nat) => x_3.b.g (x_3.b.q + k)) x_3.at_ x_3.w)/\∃ x_4 : Aq,Hd (x_4.b.ok/\x_4.b.n = 64 * x_4.s/\1<=x_4.s/\x_4.s<=8)/\(Ar x_4.b x.b/\True)/\uq x_4.b x/\∀ y_3 : Unit,True->I64 (x.g 3 + vW (fun (k : Nat) => x_3.b.g (x_3.b.q + k)) x_3.at_ x_3.w)/\cP (decide (x.g 3 + vW (fun (k : Nat) => x_3.b.g (x_3.b.q + k)) x_3.at_ x_3.w > (x_4.str.size : Int))) (∃ y_4 : Unit,zo x) (0<=x.g 3/\(0<=Int.toNat (x.g 3)/\Int.toNat (x.g 3)<=x_4.str.size/\x_4.str.size<=x_4.str.size)/\I64 (x.g 3 + vW (fun (k : Nat) => x_3.b.g (x_3.b.q + k)) x_3.at_ x_3.w)/\
 0<=x.g 3 + vW (fun (k : Nat) => x_3.b.g (x_3.b.q + k)) x_3.at_ x_3.w/\0<=x.g 3/\(Int.toNat (x.g 3)<=Int.toNat (x.g 3 + vW (fun (k : Nat) => x_3.b.g (x_3.b.q + k)) x_3.at_ x_3.w)/\Int.toNat (x.g 3 + vW (fun (k : Nat) => x_3.b.g (x_3.b.q + k)) x_3.at_ x_3.w)<=x_4.str.size/\x_4.str.size<=x_4.str.size)/\(∃ x_5 : EK,yA x_5/\(Ar x_5.b x.b/\(x_5.at_ : Int) = 8/\Jk x_5.w)/\uq x_5.b x/\∀ y_4 : Unit,True->True/\(∃ x_6 : EK,yA x_6/\(Ar x_6.b x.b/\(x_6.at_ : Int) = 16/\Jk x_6.w)/\uq x_6.b x/\∀ y_5 : Unit,True->True/\(∃ x_7 : EK,yA x_7/\Zu x_7 x.b/\uq x_7.b x/\∀ y_6 : Unit,True->True/\True/\True/\∃ x_8 : dL,Zy x_8/\((x_8.cls = x.g 1/\x_8.kind = x.g 2/\mO x_8.id x_5/\mO x_8.ver x_6/\mO x_8.epoch x_7/\Zx x_8 x_4 x x_3)/\True)/\True/\(∀ y_7 : Unit,Hd (x_8.cls = 0)->64<=64/\(∀ k : Nat,k < 64->RF x_8 k)/\uo x.b/\EN x/\cP (Bool.not (BEq.beq (ByteArray.toList (@ByteArray.mk (@List.toArray UInt8 (List.map (fun (k : Nat) => UInt8.ofBitVec (@BitVec.ofNat 8 (Int.toNat (x_8.enc (0 + k))))) (@List.range 64))))) (ByteArray.toList (@ByteArray.mk (@List.toArray UInt8 (List.map (fun (k : Nat) => UInt8.ofBitVec (@BitVec.ofNat 8 (Int.toNat (x.g (0 + k))))) (@List.range (64 * x.b.dD)))))))) (∃ y_8 : Unit,zo x) (∃ y_8 : Unit,True/\((x.b.cls = x.g 1/\x.b.kind = x.g 2/\mO x.b.id x_5/\mO x.b.ver x_6/\EM x x_7 x_4 x_3)/\true = true/\True)/\RG x))/\∀ y_7 : Unit,Hd (x_8.cls ≠ (0 : Int))->uo x_8/\Zv x_8/\uo x.b/\EN x/\
 cP (Bool.not (BEq.beq (ByteArray.toList (@ByteArray.mk (@List.toArray UInt8 (List.map (fun (k : Nat) => UInt8.ofBitVec (@BitVec.ofNat 8 (Int.toNat (x_8.enc (0 + k))))) (@List.range (64 * x_8.dD)))))) (ByteArray.toList (@ByteArray.mk (@List.toArray UInt8 (List.map (fun (k : Nat) => UInt8.ofBitVec (@BitVec.ofNat 8 (Int.toNat (x.g (0 + k))))) (@List.range (64 * x.b.dD)))))))) (∃ y_8 : Unit,zo x) (∃ y_8 : Unit,True/\((x.b.cls = x.g 1/\x.b.kind = x.g 2/\mO x.b.id x_5/\mO x.b.ver x_6/\EM x x_7 x_4 x_3)/\true = true/\True)/\RG x))/\True/\∃ x_7 : EK,yA x_7/\Zu x_7 x.b/\uq x_7.b x/\∀ y_6 : Unit,True->True/\True/\∃ x_8 : dL,Zy x_8/\((x_8.cls = x.g 1/\x_8.kind = x.g 2/\mO x_8.id x_5/\mO x_8.ver x_6/\mO x_8.epoch x_7/\Zx x_8 x_4 x x_3)/\True)/\True/\(∀ y_7 : Unit,Hd (x_8.cls = 0)->64<=64/\(∀ k : Nat,k < 64->RF x_8 k)/\uo x.b/\EN x/\cP (Bool.not (BEq.beq (ByteArray.toList (@ByteArray.mk (@List.toArray UInt8 (List.map (fun (k : Nat) => UInt8.ofBitVec (@BitVec.ofNat 8 (Int.toNat (x_8.enc (0 + k))))) (@List.range 64))))) (ByteArray.toList (@ByteArray.mk (@List.toArray UInt8 (List.map (fun (k : Nat) => UInt8.ofBitVec (@BitVec.ofNat 8 (Int.toNat (x.g (0 + k))))) (@List.range (64 * x.b.dD)))))))) (∃ y_8 : Unit,zo x) (∃ y_8 : Unit,True/\((x.b.cls = x.g 1/\x.b.kind = x.g 2/\mO x.b.id x_5/\mO x.b.ver x_6/\EM x x_7 x_4 x_3)/\true = true/\True)/\RG x))/\∀ y_7 : Unit,Hd (x_8.cls ≠ (0 : Int))->uo x_8/\Zv x_8/\uo x.b/\EN x/\
 cP (Bool.not (BEq.beq (ByteArray.toList (@ByteArray.mk (@List.toArray UInt8 (List.map (fun (k : Nat) => UInt8.ofBitVec (@BitVec.ofNat 8 (Int.toNat (x_8.enc (0 + k))))) (@List.range (64 * x_8.dD)))))) (ByteArray.toList (@ByteArray.mk (@List.toArray UInt8 (List.map (fun (k : Nat) => UInt8.ofBitVec (@BitVec.ofNat 8 (Int.toNat (x.g (0 + k))))) (@List.range (64 * x.b.dD)))))))) (∃ y_8 : Unit,zo x) (∃ y_8 : Unit,True/\((x.b.cls = x.g 1/\x.b.kind = x.g 2/\mO x.b.id x_5/\mO x.b.ver x_6/\EM x x_7 x_4 x_3)/\true = true/\True)/\RG x))/\anJ x x_5 x_4 x_3)/\True/\∃ x_5 : EK,yA x_5/\(Ar x_5.b x.b/\(x_5.at_ : Int) = 8/\Jk x_5.w)/\uq x_5.b x/\∀ y_4 : Unit,True->anJ x x_5 x_4 x_3))))))
theorem akq (x : agr) : anL x = wpF Tryz.prog apQ tt (noA x) 200 5 121 (anH.args x) (hO anH.k (anH.os x)) (fun v h' => eU anH.k x v h' anH.outs) := by kernel_rfl
end Go.Proofs.YtenfleoejgjklaaGreat
end
section
namespace Go.Proofs.YtenfleoejgjklaaGreat
open Go SE
set_option linter.unusedSimpArgs false
theorem tY {c : Int} (h : spn c ≠ 0) : 0<=c/\c<=3/\1<=spn c/\spn c<=8/\cpc c = 28 + 63 * (spn c - 1) := by
 unfold spn at *
 unfold cpc
 grind
theorem agL {n : Int} (h : spn (ned n) ≠ 0) : n<=cpc (ned n) := by
 unfold ned spn at *
 unfold cpc
 grind
theorem WU {b : dL} (h : b.may) : ((b.key.size + b.value.size : Nat) : Int)<=cpc b.cls := by
 obtain ⟨hs,h⟩ := h
 have hc := tY hs
 rcases h with ⟨_,_,_,_,h1,h2⟩ | ⟨_,_,_,_,h,_⟩ | ⟨_,_,_,h,_⟩ | ⟨_,h,_⟩
 ·rw [h1,h2]; show ((0 : Nat) : Int)<=_; omega
 ·rw [← h]; exact agL (by rw [h]; exact hs)
 ·rw [← h]; exact agL (by rw [h]; exact hs)
 ·rw [h]; omega
theorem RS (x : Int) (hx : 0<=x/\x<=3) : WT x := by
 have hs : spn x ≠ 0 := by have := WA hx; omega
 have hc := tY hs
 unfold WT
 simp only [ZA,Zw]
 simp only [aY,aU,aT,ay,aH,bJ,bg,aN,aJ,au,aW,aV,bK,bC,bD,bF,bM,bf,bG,aZ,dY,aG,aK,ah,aj,aA,aC,aB,aF]
 rw [show (spn x == 0) = false from beq_eq_false_iff_ne.2 hs,iH]
 refine ⟨by omega,⟨⟨x,0,0,0,0,⟨#[]⟩,⟨#[]⟩⟩,⟨fun _ => 0,0,(cpc x).toNat,(cpc x).toNat⟩⟩,?_,⟨⟨rfl,rfl,rfl,rfl,rfl,rfl,rfl⟩,rfl,rfl⟩,⟨rfl,fun q _ => rfl⟩,fun q _ => rfl⟩
 exact ⟨⟨show 0 + (cpc x).toNat<=(cpc x).toNat by omega,show (cpc x).toNat < 1099511627776 by omega,fun _ => ⟨show (0 : Int)<=0 by decide,show (0 : Int) < 256 by decide⟩⟩,show 28<=(cpc x).toNat by omega,show (0 : Nat) < 256 by decide,show (0 : Nat) < 65536 by decide,hx.1,show x < 256 by omega,show (0 : Int)<=0 by decide,show (0 : Int) < 256 by decide,show (0 : Int)<=0 by decide,show (0 : Int) < 18446744073709551616 by decide,show (0 : Int)<=0 by decide,show (0 : Int) < 18446744073709551616 by decide,show (0 : Int)<=0 by decide,show (0 : Int) < 18446744073709551616 by decide⟩
theorem yB {z : Int} (h : 0<=z/\z < 256) : isByte [Value.int .u8 z] = true := by
 unfold isByte
 simp only [decide_eq_true h.1,decide_eq_true h.2,Bool.and_self]
theorem ZB {x : Aq} (h : x.b.ok) (i : Nat) : 0<=x.at_ i/\x.at_ i < 256 := by
 unfold Aq.at_
 split <;> exact h.2.2 _
theorem ZC {x : Aq} {s q : Nat} (h1 : ¬ q < 28 + 63 * s) (h2 : q < 28 + 63 * (s + 1)) : x.at_ q = x.b.g (x.b.q + (64 * (s + 1) + 1) + (q - (28 + 63 * s))) := by
 unfold Aq.at_
 have e1 : (q - 28) / 63 = s := by omega
 rw [if_neg (by omega),e1]
 congr 1
 omega
theorem WV (x : Aq) (hx : x.b.ok/\x.b.n = 64 * x.s/\1<=x.s/\x.s<=8) : agJ x := by
 obtain ⟨ho,hn,h1,h2⟩ := hx
 obtain ⟨o1,o2,o3⟩ := id ho
 have t1 : ∀ s : Nat,(((64 + 64 * s : Nat) : Int) + 1).toNat = 64 * (s + 1) + 1 := fun s => by omega
 have t2 : ∀ s : Nat,(((64 + 64 * s : Nat) : Int) + 64).toNat = 64 * (s + 1) + 64 := fun s => by omega
 unfold agJ
 simp only [Jl,agH]
 simp only [aY,aU,aT,ay,aH,bJ,bg,aN,aJ,au,aW,aV,bK,bC,bD,bF,bM,bf,bG,aZ,dY,aG,aK,ah,aj,aA,aC,aB,aF,t1,t2]
 refine ⟨by decide,by decide,⟨by decide,by omega,by omega⟩,by omega,by decide,fun q hq => ?_,bH (fun h => ?_) fun h => ?_,fun s hs => bH (fun h => ?_) fun h => ?_⟩
 ·unfold Aq.at_
  rw [if_pos hq]; congr 1; omega
 ·have h := aQ h
  refine ⟨by unfold I64; omega,by unfold I64; omega,by decide,by decide,⟨by decide,by omega,by omega⟩,by omega,by decide,by unfold I64; omega,1,by omega,by omega,by omega,by omega,fun q hq => ?_⟩
  by_cases hq1 : q < 28
  ·rw [bQ.2 hq1]; rfl
  ·rw [bW,decide_eq_false hq1,aP]
   exact ZC (s := 0) (by omega) (by omega)
 ·have h := aS h
  have : x.s = 1 := by omega
  refine ⟨by decide,fun k _ => yB (ZB ho k),?_⟩
  unfold Aq.str; rw [this]; rfl
 ·have h := aQ h
  refine ⟨by unfold I64; omega,by unfold I64; omega,by omega,by omega,⟨by omega,by omega,by omega⟩,by omega,by omega,by unfold I64; omega,s + 1,by omega,by omega,by omega,by omega,fun q hq => ?_⟩
  by_cases hq1 : q < 28 + 63 * s
  ·rw [bQ.2 hq1]; rfl
  ·rw [bW,decide_eq_false hq1,aP]
   exact ZC hq1 (by omega)
 ·have h := aS h
  have : x.s = s + 1 := by omega
  refine ⟨by omega,fun k _ => yB (ZB ho k),?_⟩
  unfold Aq.str; rw [this]; rfl
theorem alV {s : ByteArray} {o k n B : Nat} (hk : k < 64) (hB : 64<=B) : (bif Nat.ble 1 k && Nat.blt k B then [Value.int .u8 (bif Nat.blt (o + (k - 1)) n then (fE s (o + (k - 1)) : Int) else 0)] else Cs.eff (fun _ => [Value.int .u8 0]) [(0,[Value.int .u8 2])] k) =
  [Value.int .u8 (if k = 0 then 2 else if o + (k - 1) < n then (fE s (o + (k - 1)) : Int) else 0)] := by
 rw [EC]
 simp only [dK,bW,eu,← Bool.decide_and]
 by_cases h : k = 0
 ·subst h; simp
 ·rw [if_pos ⟨by omega,by omega⟩,if_neg h]
theorem MS (x : dL) (t r : Nat) (hr : r < 64) : x.enc (64 * (t + 1) + r) = if r = 0 then 2 else x.dat (28 + 63 * t + (r - 1)) := by
 unfold dL.enc
 rw [if_neg (by omega),show (64 * (t + 1) + r) % 64 = r by omega,show (64 * (t + 1) + r) / 64 = t + 1 by omega,Nat.add_sub_cancel,Nat.mul_comm t 63]
theorem MV (x : dL) {t q B o n : Nat} (h1 : ¬ q < 64 * (t + 1)) (h2 : q < 64 * (t + 1 + 1)) (hB : 64<=B) (ho : o = 28 + 63 * t) (hn : n = (x.key ++ x.value).size) : [Value.int .u8 (x.enc q)] = (bif Nat.ble 1 (q - 64 * (t + 1)) && Nat.blt (q - 64 * (t + 1)) B then [Value.int .u8 (bif Nat.blt (o + (q - 64 * (t + 1) - 1)) n then (fE (x.key ++ x.value) (o + (q - 64 * (t + 1) - 1)) : Int) else 0)] else Cs.eff (fun _ => [Value.int .u8 0]) [(0,[Value.int .u8 2])] (q - 64 * (t + 1))) := by
 rw [alV (by omega) hB,show q = 64 * (t + 1) + (q - 64 * (t + 1)) by omega,MS x t _ (by omega),Nat.add_sub_cancel_left,ho,hn]
 rfl
theorem agM {s : ByteArray} {o k n B : Nat} (hk : k < 64) (hB : 64<=B) : ((bif Nat.ble 1 k && Nat.blt k B then [Value.int .u8 (bif Nat.blt (o + (k - 1)) n then (fE s (o + (k - 1)) : Int) else 0)] else Cs.eff (fun _ => [Value.int .u8 0]) [(0,[Value.int .u8 2])] k).length.beq 1 && (bif Nat.ble 1 k && Nat.blt k B then [Value.int .u8 (bif Nat.blt (o + (k - 1)) n then (fE s (o + (k - 1)) : Int) else 0)] else Cs.eff (fun _ => [Value.int .u8 0]) [(0,[Value.int .u8 2])] k).all Value.oneCell') = true := by
 rw [alV hk hB]; rfl
theorem MW (x : dL) (k : Nat) : 0<=x.dat k/\x.dat k < 256 := by
 unfold dL.dat
 split
 ·unfold fE
  have := (((x.key ++ x.value).data.toList.getD k 0)).toNat_lt
  exact ⟨by omega,by omega⟩
 ·exact ⟨by decide,by decide⟩
theorem Dp {x : dL} (h : x.may) : x.key.size < 256/\x.value.size < 65536/\0<=x.kind/\x.kind < 256/\0<=x.id/\x.id < 18446744073709551616/\0<=x.ver/\x.ver < 18446744073709551616/\0<=x.epoch/\x.epoch < 18446744073709551616 := by
 have hC := WU h
 have hc := tY h.1
 obtain ⟨hs,h⟩ := h
 unfold dL.nums dL.num at h
 have e0 : ByteArray.size ⟨#[]⟩ = 0 := rfl
 rcases h with ⟨h0,h1,h2,h3,h4,h5⟩ | ⟨h0,h1,h2,h3,h4,h5,h6,h7⟩ | ⟨h0,h1,h2,h3,h5,h6,h7⟩ | ⟨h0,h1,h2,h5,h6,h7⟩
 ·rw [h4,h5]; omega
 ·omega
 ·rw [h1]; omega
 ·omega
theorem acJ (x : dL) (hx : x.may/\x.key.size < 1099511627776/\x.value.size < 1099511627776) : anK x := by
 obtain ⟨hm,hk,hv⟩ := hx
 have hM : x.UO = true := yw.2 hm
 have hc := tY hm.1
 have hC := WU hm
 have hD := Dp hm
 have hsz : (x.key ++ x.value).size = x.key.size + x.value.size := ByteArray.size_append
 have hcap : (cpc x.cls).toNat = x.iL := rfl
 have hb : Nat.ble (x.key ++ x.value).size x.iL = true := by rw [Nat.ble_eq,hsz,← hcap]; omega
 have hN : x.iL = 28 + 63 * (x.dD - 1) := by unfold dL.iL dL.dD; omega
 have hS : (x.dD : Int) = spn x.cls := by unfold dL.dD; omega
 have h0 : x.cls = 0 ↔ x.dD = 1 := by
  have : x.cls = 0 ↔ spn x.cls = 1 := by unfold spn; grind
  rw [this]; omega
 have e1 : ∀ q,q < 64->x.enc q = x.jy x.dat x.iL q := fun q hq => if_pos hq
 have hN8 : x.dD<=8/\1<=x.dD := by omega
 unfold anK
 simp only [Zz,ZA,agF,agG,agE,acG,RH,EP,RQ,agv,ru,RP,qZ,agC,agD,agy,agu,RI,RJ,RN,agA,EO,agB,agz,acH,agx,agw,agt,ags]
 simp only [aY,aU,aT,ay,aH,bJ,bg,aN,aJ,au,aW,aV,bK,bC,bD,bF,bM,bf,bG,aZ,dY,aG,aK,ah,aj,aA,aC,aB,aF,hcap]
 refine ⟨x,⟨hk,hv⟩,⟨rfl,rfl,rfl,rfl,rfl,rfl,rfl⟩,?_⟩
 rw [hM,Bool.not_true,iH]
 refine ⟨by omega,by omega,by omega,?_⟩
 rw [hb,kH]
 refine ⟨⟨x,⟨x.dat,0,x.iL,x.iL⟩⟩,⟨⟨by show 0 + x.iL<=x.iL; omega,by show x.iL < 1099511627776; omega,MW x⟩,by show 28<=x.iL; omega,hD.1,hD.2.1,hc.1,by show x.cls < 256; omega,hD.2.2⟩,⟨⟨rfl,rfl,rfl,rfl,rfl,rfl,rfl⟩,rfl,rfl⟩,⟨rfl,fun q _ => ?_⟩,?_⟩
 ·simp only [bW,eu]; rfl
 ·simp only [ay]
  refine ⟨by decide,by omega,by unfold I64; omega,bH (fun h => ?_) fun h => ?_,fun s hs => bH (fun h => ?_) fun h => ?_⟩
  ·have h := aQ h
   refine ⟨by decide,by decide,by decide,by decide,by decide,by decide,bH (fun hb => ?_) fun hb => ?_⟩
   ·have hb := Nat.le_of_ble_eq_true hb
    refine ⟨by omega,by omega,by omega,by decide,by decide,by decide,by unfold I64; omega,1,by omega,by omega,by omega,by omega,fun q hq => ?_⟩
    by_cases hq1 : q < 64
    ·rw [bQ.2 hq1,aO,e1 q hq1]
    ·rw [bW,decide_eq_false hq1,aP]
     exact MV x (t := 0) (by omega) (by omega) (by omega) rfl rfl
   ·refine ⟨by omega,by omega,⟨by omega,by omega⟩,by decide,by decide,by decide,by unfold I64; omega,1,by omega,by omega,by omega,by omega,fun q hq => ?_⟩
    by_cases hq1 : q < 64
    ·rw [bQ.2 hq1,aO,e1 q hq1]
    ·rw [bW,decide_eq_false hq1,aP]
     exact MV x (t := 0) (by omega) (by omega) (by omega) rfl rfl
  ·have h := aS h
   exact .inl ⟨h0.2 (by omega),fun q hq => e1 q hq⟩
  ·have h := aQ h
   refine ⟨by decide,by decide,by decide,by decide,by decide,by decide,bH (fun hb => ?_) fun hb => ?_⟩
   ·have hb := Nat.le_of_ble_eq_true hb
    refine ⟨by omega,by omega,by omega,by decide,fun k hk => agM hk (by omega),by omega,by unfold I64; omega,s + 1,by omega,by omega,by omega,by omega,fun q hq => ?_⟩
    by_cases hq1 : q < 64 * (s + 1)
    ·rw [bQ.2 hq1,aO]
    ·rw [bW,decide_eq_false hq1,aP]
     exact MV x hq1 (by omega) (by omega) rfl rfl
   ·refine ⟨by omega,by omega,⟨by omega,by omega⟩,by decide,fun k hk => agM hk (by omega),by omega,by unfold I64; omega,s + 1,by omega,by omega,by omega,by omega,fun q hq => ?_⟩
    by_cases hq1 : q < 64 * (s + 1)
    ·rw [bQ.2 hq1,aO]
    ·rw [bW,decide_eq_false hq1,aP]
     exact MV x hq1 (by omega) (by omega) rfl rfl
  ·have h := aS h
   exact .inr ⟨fun e => by have := h0.1 e; omega,by omega⟩
theorem ZE {g : Nat->Int} {a : Nat} {v : Int} (h0 : 0<=v) : ∀ w,(∀ i,i < w->g (a + i) = v / 256 ^ i % 256)->vW g a w = v % 256 ^ w
 | 0,_ => by show (0 : Int) = v % 256 ^ 0; rw [Int.pow_zero,Int.emod_one]
 | w + 1,h => by
  simp only [vW]
  rw [ZE h0 w fun i hi => h i (by omega),h w (by omega),Int.pow_succ]
  have hp : (0 : Int) < 256 ^ w := Int.pow_pos (by omega)
  have h1 := Int.emod_add_mul_ediv v (256 ^ w)
  have h2 := Int.emod_add_mul_ediv (v / 256 ^ w) 256
  have h3 := Int.emod_add_mul_ediv v (256 ^ w * 256)
  have h4 : v / (256 ^ w * 256) = v / 256 ^ w / 256 := (Int.ediv_ediv_of_nonneg (Int.le_of_lt hp)).symm
  rw [h4] at h3
  generalize (256 : Int) ^ w = p at *
  have h5 : p * (v / p) = p * ((v / p) % 256) + p * (256 * (v / p / 256)) := by rw [← Int.mul_add,h2]
  have h6 : p * 256 * (v / p / 256) = p * (256 * (v / p / 256)) := Int.mul_assoc _ _ _
  have h7 : (v / p) % 256 * p = p * ((v / p) % 256) := Int.mul_comm _ _
  omega
theorem MX {g : Nat->Int} {a w : Nat} {v : Int} (h0 : 0<=v) (h1 : v < 256 ^ w) (h : ∀ i,i < w->g (a + i) = v / 256 ^ i % 256) : vW g a w = v := by
 rw [ZE h0 w h]; exact Int.emod_eq_of_lt h0 h1
theorem apR {x : dL} (h : x.may) (k : Nat) : 0<=x.h32 k/\x.h32 k < 256 := by
 have hD := Dp h
 have hc := tY h.1
 unfold dL.h32
 repeat' split
 all_goals first | exact lV _ _ | omega
theorem qm {x : dL} (h : x.may) (k : Nat) : 0<=x.enc k/\x.enc k < 256 := by
 unfold dL.enc
 split
 ·unfold dL.jy
  split
  ·exact apR h k
  ·split
   ·exact lV _ _
   ·exact MW x _
 ·split
  ·exact ⟨by decide,by decide⟩
  ·exact MW x _
theorem ER {x : dL} {k : Nat} (h : k < 32) : x.enc k = x.h32 k := by
 unfold dL.enc
 rw [if_pos (by omega)]
 unfold dL.jy
 rw [if_pos h]
theorem anM {x : dL} (h : x.may) : vW x.enc 4 2 = x.value.size/\vW x.enc 8 8 = x.id/\vW x.enc 16 8 = x.ver/\vW x.enc 24 8 = x.epoch := by
 have hD := Dp h
 refine ⟨MX (by omega) (by omega) fun i hi => ?_,MX (by omega) (by omega) fun i hi => ?_,MX (by omega) (by omega) fun i hi => ?_,MX (by omega) (by omega) fun i hi => ?_⟩
 all_goals
  rw [ER (by omega)]
  unfold dL.h32
  repeat rw [if_neg (by omega)]
  rw [if_pos (by omega)]
  congr 2
  congr 1
  omega
theorem acK (n : Nat) (f : Nat->UInt8) : (mkStr n f).size = n := by
 show (((List.range n).map f).toArray).size = n
 simp
theorem RU {n a b : Nat} {f : Nat->UInt8} {s : ByteArray} (h1 : b = a + s.size) (h2 : b<=n) (h : ∀ i (hi : i < s.size),f (a + i) = s.data[i]) : (mkStr n f).extract a b = s := by
 have e : ((mkStr n f).extract a b).data = s.data := by
  rw [ByteArray.data_extract]
  refine Array.ext ?_ fun i h3 h4 => ?_
  ·show ((List.map f (List.range n)).toArray.extract a b).size = s.size
   simp; omega
  ·show ((List.map f (List.range n)).toArray.extract a b)[i] = _
   rw [← h i h4]
   simp
 cases s; cases h' : (mkStr n f).extract a b; rw [h'] at e; cases e; rfl
theorem acL (x : dL) (i : Nat) (hi : i < (x.key ++ x.value).size) : UInt8.ofNat (x.dat i).toNat = (x.key ++ x.value).data[i] := by
 unfold dL.dat
 rw [if_pos hi]
 unfold fE
 rw [au,List.getD_eq_getElem?_getD,Array.getElem?_toList]
 have e : (x.key ++ x.value).data[i]? = some (x.key ++ x.value).data[i] := Array.getElem?_eq_getElem hi
 rw [e,Option.getD_some]
 exact UInt8.ofNat_toNat
theorem apS {x : dL} {s : Nat} (i : Nat) : (Aq.mk ⟨x.enc,0,64 * s,64 * s⟩ s).at_ i = x.dat i := by
 unfold Aq.at_
 simp only [ay]
 split
 ·rename_i h
  unfold dL.enc
  rw [if_pos (by omega)]
  unfold dL.jy
  rw [if_neg (by omega),if_neg (by omega)]
  congr 1; omega
 ·rename_i h
  rw [show 64 * ((i - 28) / 63 + 1) + 1 + (i - 28) % 63 = 64 * ((i - 28) / 63 + 1) + (1 + (i - 28) % 63) by omega,MS x _ _ (by omega),if_neg (by omega)]
  congr 1; omega
theorem acM (x : agr) (hx : x.b.may/\x.b.key.size < 1099511627776/\x.b.value.size < 1099511627776/\∀ k,k < 64 * x.b.dD->x.g k = x.b.enc k) : anL x := by
 obtain ⟨hm,hk,hv,hg⟩ := hx
 have hc := tY hm.1
 have hC := WU hm
 have hD := Dp hm
 have hE := anM hm
 have hS : (x.b.dD : Int) = spn x.b.cls := by unfold dL.dD; omega
 have g0 : x.g 0 = 1 := by rw [hg 0 (by omega),ER (by omega)]; rfl
 have g1 : x.g 1 = x.b.cls := by rw [hg 1 (by omega),ER (by omega)]; rfl
 have g2 : x.g 2 = x.b.kind := by rw [hg 2 (by omega),ER (by omega)]; rfl
 have g3 : x.g 3 = x.b.key.size := by rw [hg 3 (by omega),ER (by omega)]; rfl
 have hB : Bys.ok ⟨x.b.enc,0,64 * x.b.dD,64 * x.b.dD⟩ := ⟨by simp,by show 64 * x.b.dD < _; omega,qm hm⟩
 have hkd : x.b.kind<=3 := by
  have := hm.2
  omega
 unfold anL
 simp only [zo,EP,yA,Ar,uq,Jk,Zu,Zy,mO,Zx,RF,uo,EN,EM,RG,Zv,anJ,Zw]
 simp only [aY,aU,aT,ay,aH,bJ,bg,aN,aJ,au,aW,aV,bK,bC,bD,bF,bM,bf,bG,aZ,dY,aG,aK,ah,aj,aA,aC,aB,aF,g0,g1,g2,g3]
 refine bH (fun h => absurd (aQ h) (by omega)) fun _ => ⟨by decide,⟨by decide,by omega,by omega⟩,by decide,by omega,bH (fun h => absurd h (by decide)) fun _ => ⟨by decide,by omega,by unfold I64; omega,bH (fun h => absurd (beq_iff_eq.1 h) hm.1) fun _ => ⟨by decide,by omega,bH (fun h => absurd (aQ h) (by omega)) fun _ => ⟨by decide,by omega,by unfold I64; omega,by decide,by omega,by unfold I64; omega,by unfold I64; omega,bH (fun h => absurd (bne_iff_ne.1 h) (by omega)) fun _ => ⟨⟨by decide,by omega⟩,by omega,by unfold I64; omega,
  ⟨⟨x.b.enc,0,64 * x.b.dD,64 * x.b.dD⟩,4,2⟩,⟨hB,by show 4 + 2<=64 * x.b.dD; omega,by show 1<=2; decide,by show 2<=8; decide⟩,⟨⟨rfl,rfl⟩,rfl,rfl⟩,⟨rfl,fun q hq => (hg q hq).symm⟩,by omega,?_⟩⟩⟩⟩⟩
 simp only [ay,hE]
 refine ⟨by unfold I64; omega,⟨⟨x.b.enc,0,64 * x.b.dD,64 * x.b.dD⟩,x.b.dD⟩,⟨hB,rfl,by show 1<=x.b.dD; omega,by show x.b.dD<=8; omega⟩,⟨rfl,rfl⟩,⟨rfl,fun q hq => (hg q hq).symm⟩,?_⟩
 have hsz : (x.b.key ++ x.b.value).size = x.b.key.size + x.b.value.size := ByteArray.size_append
 have hstr : ∀ i (hi : i < (x.b.key ++ x.b.value).size),UInt8.ofNat ((Aq.mk ⟨x.b.enc,0,64 * x.b.dD,64 * x.b.dD⟩ x.b.dD).at_ i).toNat = (x.b.key ++ x.b.value).data[i] := fun i hi => by rw [apS]; exact acL x.b i hi
 have s1 : (Aq.mk ⟨x.b.enc,0,64 * x.b.dD,64 * x.b.dD⟩ x.b.dD).str.size = 28 + 63 * (x.b.dD - 1) := acK _ _
 have s2 : (Aq.mk ⟨x.b.enc,0,64 * x.b.dD,64 * x.b.dD⟩ x.b.dD).str.extract 0 x.b.key.size = x.b.key := RU (by omega) (by show x.b.key.size<=28 + 63 * (x.b.dD - 1); omega) fun i hi => by
  rw [hstr (0 + i) (by omega)]
  simp only [ay,ByteArray.data_append]
  exact Array.getElem_append_left hi
 have s3 : (Aq.mk ⟨x.b.enc,0,64 * x.b.dD,64 * x.b.dD⟩ x.b.dD).str.extract x.b.key.size ((x.b.key.size : Int) + (x.b.value.size : Int)).toNat = x.b.value := RU (by omega) (by show ((x.b.key.size : Int) + (x.b.value.size : Int)).toNat<=28 + 63 * (x.b.dD - 1); omega) fun i hi => by
  rw [hstr (x.b.key.size + i) (by omega)]
  simp only [ByteArray.data_append]
  have : x.b.key.data.size = x.b.key.size := rfl
  rw [Array.getElem_append_right (by omega)]
  congr 1
  omega
 rw [s2,s3,s1]
 have hget : ∀ a,a + 8<=64->(EK.mk ⟨x.b.enc,0,64 * x.b.dD,64 * x.b.dD⟩ a 8).b.ok/\a + 8<=64 * x.b.dD/\1<=8/\8<=8 := fun a ha => ⟨hB,by omega,by decide,by decide⟩
 refine ⟨by unfold I64; omega,bH (fun h => absurd (aQ h) (by omega)) fun _ => ⟨by omega,by omega,by unfold I64; omega,by omega,by omega,by omega,
  ⟨⟨x.b.enc,0,64 * x.b.dD,64 * x.b.dD⟩,8,8⟩,hget 8 (by decide),⟨⟨rfl,rfl⟩,rfl,rfl⟩,⟨rfl,fun q hq => (hg q hq).symm⟩,
  ⟨⟨x.b.enc,0,64 * x.b.dD,64 * x.b.dD⟩,16,8⟩,hget 16 (by decide),⟨⟨rfl,rfl⟩,rfl,rfl⟩,⟨rfl,fun q hq => (hg q hq).symm⟩,
  ⟨⟨x.b.enc,0,64 * x.b.dD,64 * x.b.dD⟩,24,8⟩,hget 24 (by decide),⟨⟨rfl,rfl⟩,rfl,rfl⟩,⟨rfl,fun q hq => (hg q hq).symm⟩,?_⟩⟩
 simp only [ay,hE]
 refine ⟨x.b,⟨hm,hk,hv⟩,⟨rfl,rfl,rfl,rfl,rfl,rfl,rfl⟩,?_⟩
 have hb : ∀ k,k < 64 * x.b.dD->isByte [Value.int .u8 (x.g k)] = true := fun k hk => by rw [hg k hk]; exact yB (qm hm k)
 have he : ∀ k,isByte [Value.int .u8 (x.b.enc k)] = true := fun k => yB (qm hm k)
 have hq : ∀ n,n = 64 * x.b.dD->(!(ByteArray.toList ⟨(List.map (fun k => (⟨BitVec.ofNat 8 (x.b.enc k).toNat⟩ : UInt8)) (List.range n)).toArray⟩ == ByteArray.toList ⟨(List.map (fun k => (⟨BitVec.ofNat 8 (x.g k).toNat⟩ : UInt8)) (List.range (64 * x.b.dD))).toArray⟩)) = false := fun n hn => by
  subst hn
  rw [Bool.not_eq_false',Zt]
  congr 2
  exact List.map_congr_left fun k hk => by rw [hg k (List.mem_range.1 hk)]
 have h1 : x.b.cls = 0->64 = 64 * x.b.dD := fun h => by
  have : spn x.b.cls = 1 := by rw [h]; rfl
  omega
 refine ⟨fun h => ⟨aX _,fun k _ => he k,aX _,hb,?_⟩,fun h => ⟨aX _,fun k _ => he k,aX _,hb,?_⟩⟩
 ·rw [hq 64 (h1 h),iH]
  exact ⟨trivial,trivial,trivial,trivial,trivial⟩
 ·rw [hq _ rfl,iH]
  exact ⟨trivial,trivial,trivial,trivial,trivial⟩
theorem ZF : eY Tryz.prog anI := .cons (bT kQ) (.cons (bT alO) (.cons (bT alT) (.cons (bT anG) .nil)))
theorem agN : bV Tryz.prog 180 ako := gG dI mixed ZF apP 200 5 (fun _ => rfl) (fun _ => ⟨fun _ => rfl,fun _ => rfl,trivial⟩) fun x hx => Eq.mp (akp x) (acJ x (aY.1 hx))
theorem akr : bV Tryz.prog 63 EL := dX dI mixed ZF noA 200 5 (fun _ => rfl) (fun _ => rfl) fun x hx => Eq.mp (acI x) (RS x (aY.1 hx))
theorem anN : bV Tryz.prog 179 WS := dX dI mixed .nil alU 200 5 (fun _ => rfl) (fun _ => rfl) fun x hx => Eq.mp (agK x) (WV x (aY.1 hx))
theorem aks : eY Tryz.prog apQ := .cons (bT kQ) (.cons (bT apO) (.cons (bT anN) (.cons (bT agN) .nil)))
theorem apT : bV Tryz.prog 121 anH := dX dI mixed aks noA 200 5 (fun _ => rfl) (fun _ => rfl) fun x hx => Eq.mp (akq x) (acM x (aY.1 hx))
end Go.Proofs.YtenfleoejgjklaaGreat
end
section
namespace Go.Proofs.YtenfleoejgjklaaGreat
open Go SE
def tabE : List dF := .cells 172 (.av [.mp 1,.mp 2,.mp 3,.mp 4,.mp 5,.mp 6,.mp 7,.mp 8]) :: List.replicate 8 (.map [] 0)
def agO : jw := og Unit (fun _ => [.ptr 0 0]) 1 (fun _ => [.m tabE]) (fun _ => Hd True) (fun _ => fJ) 1 (fun _ => [.m tabE])
end Go.Proofs.YtenfleoejgjklaaGreat
end
section
namespace Go.Proofs.YtenfleoejgjklaaGreat
open Go SE
def anO : Prop := True/\True/\True/\True/\True/\True/\True/\True/\True
def agP (x : Unit) : Prop :=
 ((0 : Int)<=0/\(0 : Int)<=7)/\I64 (1 : Int)/\((0 : Int)<=1/\(0 : Int)<=6)/\I64 (2 : Int)/\((0 : Int)<=2/\(0 : Int)<=5)/\I64 (3 : Int)/\((0 : Int)<=3/\(0 : Int)<=4)/\I64 (4 : Int)/\((0 : Int)<=4/\(0 : Int)<=3)/\I64 (5 : Int)/\((0 : Int)<=5/\(0 : Int)<=2)/\I64 (6 : Int)/\((0 : Int)<=6/\(0 : Int)<=1)/\I64 (7 : Int)/\((0 : Int)<=7/\(0 : Int)<=0)/\I64 (8 : Int)/\((0 : Int)<=0/\(0 : Int)<=255)/\I64 (0 : Int)/\I64 (0 : Int)/\I64 (0 : Int)/\I64 (1 : Int)/\∃ y : Unit,True/\Value.slice none 0 0 = Value.slice none 0 0/\anO/\anO
theorem agQ (x : Unit) : agP x = wpF Tryz.prog tZ tt (noA x) 200 5 68 (agO.args x) (hO 9 (dN 1 (agO.l x))) (fun v h' => dA 1 x v h' agO.outs) := by kernel_rfl
end Go.Proofs.YtenfleoejgjklaaGreat
end
section
namespace Go.Proofs.YtenfleoejgjklaaGreat
open Go SE
set_option linter.unusedSimpArgs false
theorem WW (x : Unit) : agP x := by
 unfold agP
 simp only [anO]
 simp only [aY,aU,aT,ay,aH,bJ,bg,aN,aJ,au,aW,aV,bK,bC,bD,bF,bM,bf,bG,aZ,dY,aG,aK,ah,aj,aA,aC,aB,aF,I64]
 omega
theorem anP : bV Tryz.prog 68 agO.ctr := dJ dI mixed eX 9 noA 200 5 (fun _ => ⟨rfl,rfl,rfl,rfl⟩) fun x _ => Eq.mp (agQ x) (WW x)
end Go.Proofs.YtenfleoejgjklaaGreat
end
section
namespace Go.Proofs.YtenfleoejgjklaaGreat
open Go
theorem disable (w : World) : (callFunc 268 #[]).run Tryz.prog w = .ok (.value (.tuple #[])) w := run_call_mark0 Tryz.func268 (by kernel_rfl) (by kernel_rfl) (by kernel_rfl) .disable (by kernel_rfl) w
theorem enable (w : World) : (callFunc 270 #[]).run Tryz.prog w = .ok (.value (.tuple #[])) w := run_call_mark0 Tryz.func270 (by kernel_rfl) (by kernel_rfl) (by kernel_rfl) .enable (by kernel_rfl) w
theorem acquire (a : Addr) (w : World) : (callFunc 271 #[.pointer (some a)]).run Tryz.prog w = .ok (.value (.tuple #[])) w := run_call_marked Tryz.func271 (by kernel_rfl) (by kernel_rfl) (by kernel_rfl) .acquire (by kernel_rfl) a w
theorem releaseMerge (a : Addr) (w : World) : (callFunc 273 #[.pointer (some a)]).run Tryz.prog w = .ok (.value (.tuple #[])) w := run_call_marked Tryz.func273 (by kernel_rfl) (by kernel_rfl) (by kernel_rfl) .releaseMerge (by kernel_rfl) a w
set_option maxRecDepth 100000 in
set_option maxHeartbeats 1600000 in
theorem ilock_free (a : Addr) (w : World) (hc : w.cell? a = some (.int .i32 0)) (hz : w.frozen? a = false) :
  Calls Tryz.prog 237 #[.pointer (some a)] w fun e w' => e = .returned (.tuple #[])/\w' = w.setCell a (.int .i32 1) := by
 have hd := disable
 have he := enable
 have ha := acquire
 have hcas := run_call_cas_hit (P := Tryz.prog) Tryz.func269 (by kernel_rfl) (by kernel_rfl) (by kernel_rfl) .i32 (by kernel_rfl) (y := 1) hc hz
 have hc' : (w.setCell a (.int .i32 1)).cell? a = some (.int .i32 1) := World.cell?_setCell_same w a _ hc
 have hcv := run_convert_to_unsafe (P := Tryz.prog) (src := 368) (dst := 372) Tryz.underlying368 Tryz.underlying372 (by kernel_rfl) hc'
 go_enter Tryz.func237,Tryz.ntmps237
 go_wp2
 all_goals first | exact ⟨rfl,rfl⟩ | (first | go_end0 | (simp only [Exit.inBlock,Exit.then]; refine bodyPost_ret (results_none rfl _ _ _) rfl ?_) | refine bodyPost_ret (results_none rfl _ _ _) rfl ?_)
 all_goals exact ⟨rfl,rfl⟩
set_option maxRecDepth 100000 in
set_option maxHeartbeats 1600000 in
theorem lock_free (a : Addr) (w : World) (hc : w.cell? a = some (.int .i32 0)) (hz : w.frozen? a = false) :
  Calls Tryz.prog 194 #[.pointer (some a)] w fun e w' => e = .returned (.tuple #[])/\w' = w.setCell a (.int .i32 1) := by
 go_enter Tryz.func194,Tryz.ntmps194
 go_wp2_with (go_at_call 237; refine (ilock_free a w hc hz).mono ?_; rintro e w' ⟨rfl,rfl⟩)
 all_goals first | exact ⟨rfl,rfl⟩ | (go_wp2; go_end0; exact ⟨rfl,rfl⟩) | (go_end0; exact ⟨rfl,rfl⟩)
set_option maxRecDepth 100000 in
set_option maxHeartbeats 1600000 in
theorem store_deferred (a : Addr) (x : Value) (u : FrameMode) (w : World) (hc : w.cell? a = some x) (hz : w.frozen? a = false) :
  CallsD Tryz.prog 196 #[.pointer (some a),.bool true] u w fun e u' w' => u' = u/\(e = .returned (.tuple #[])/\w' = w.drew.setCell a (.int .u32 1)) := by
 have hc' : w.drew.cell? a = some x := by go_simp
 have hz' : w.drew.frozen? a = false := by go_simp
 have hst := run_call_store (P := Tryz.prog) Tryz.func239 (by kernel_rfl) (by kernel_rfl) (by kernel_rfl) (by kernel_rfl) (k := .u32) (y := 1) hc' hz'
 go_enter_d Tryz.func196,Tryz.ntmps196
 go_wp2
 go_region_calls
 all_goals (go_end0; exact ⟨rfl,rfl⟩)
set_option maxRecDepth 100000 in
set_option maxHeartbeats 1600000 in
theorem iunlock (a : Addr) (w : World) (hc : w.cell? a = some (.int .i32 1)) (hz : w.frozen? a = false) :
  Calls Tryz.prog 238 #[.pointer (some a)] w fun e w' => e = .returned (.tuple #[])/\w' = w.setCell a (.int .i32 0) := by
 have hd := disable
 have he := enable
 have hr := releaseMerge
 have hadd := run_call_add (P := Tryz.prog) Tryz.func274 (by kernel_rfl) (by kernel_rfl) (by kernel_rfl) .i32 (by kernel_rfl) (y := -1) (s := 0) hc hz (by simp [go_sem]; rfl)
 have hcv := run_convert_to_unsafe (P := Tryz.prog) (src := 368) (dst := 372) Tryz.underlying368 Tryz.underlying372 (by kernel_rfl) hc
 go_enter Tryz.func238,Tryz.ntmps238
 go_wp2
 all_goals first | exact ⟨rfl,rfl⟩ | go_end0
 all_goals first | exact ⟨rfl,rfl⟩ | go_wp2
 all_goals first | exact ⟨rfl,rfl⟩ | go_end0
 all_goals first | exact ⟨rfl,rfl⟩
set_option maxRecDepth 100000 in
set_option maxHeartbeats 1600000 in
theorem unlock_deferred (a : Addr) (u : FrameMode) (w : World) (hc : w.cell? a = some (.int .i32 1)) (hz : w.frozen? a = false) :
  CallsD Tryz.prog 195 #[.pointer (some a)] u w fun e u' w' => u' = u/\(e = .returned (.tuple #[])/\w' = w.setCell a (.int .i32 0)) := by
 go_enter_d Tryz.func195,Tryz.ntmps195
 go_wp2_with (go_at_call 238; refine (iunlock a w hc hz).mono ?_; rintro e w' ⟨rfl,rfl⟩)
 all_goals first | exact ⟨rfl,rfl⟩ | (go_wp2; go_end0; exact ⟨rfl,rfl⟩) | (go_end0; exact ⟨rfl,rfl⟩)
set_option maxRecDepth 100000 in
set_option maxHeartbeats 1600000 in
theorem slow_any (b off : Nat) (g : FuncId) (fa ca : Array Value) (w : World) (R : World->Prop) (hc : SE.CQ Tryz.prog g)
  (h0 : w.cell? ⟨b,off,none⟩ = some (.int .u32 0)) (h1 : w.cell? ⟨b,off + 1,none⟩ = some (.int .i32 0)) (f0 : w.frozen? ⟨b,off,none⟩ = false) (f1 : w.frozen? ⟨b,off + 1,none⟩ = false)
  (hf : Calls Tryz.prog g (fa ++ ca) (w.setCell ⟨b,off + 1,none⟩ (.int .i32 1)) fun e w' => (∃ u,e = .returned u)/\w'.cell? ⟨b,off,none⟩ = some (.int .u32 0)/\w'.frozen? ⟨b,off,none⟩ = false /\
   w'.cell? ⟨b,off + 1,none⟩ = some (.int .i32 1)/\w'.frozen? ⟨b,off + 1,none⟩ = false/\R w') :
  Calls Tryz.prog 148 #[.pointer (some ⟨b,off,none⟩),.func (.func g) fa ca] w fun e w' => e = .returned (.tuple #[])/\∃ w2,R w2 /\
   w' = (w2.drew.setCell ⟨b,off,none⟩ (.int .u32 1)).setCell ⟨b,off + 1,none⟩ (.int .i32 0) := by
 have hl := run_call_load (P := Tryz.prog) Tryz.func193 (by kernel_rfl) (by kernel_rfl) (by kernel_rfl) .u32 (by kernel_rfl) (w := w.setCell ⟨b,off + 1,none⟩ (.int .i32 1)) (a := ⟨b,off,none⟩) (x := 0) ((World.cell?_setCell_other _ ⟨b,off + 1,none⟩ ⟨b,off,none⟩ _ (by simp)).trans h0)
 have hnot : ∀ (x : Bool) (w : World),(Op.unary .not (.bool x)).run Tryz.prog w = .ok (.bool (!x)) w := fun _ _ => rfl
 have hrun := SE.Ag hc
 go_enter_defers Tryz.func148,Tryz.ntmps148
 go_wp2_with (go_at_call 194; refine (lock_free ⟨b,off + 1,none⟩ _ (by go_simp) (by go_simp)).mono ?_; rintro e w' ⟨rfl,rfl⟩)
 go_wp2
 refine hf.mono ?_
 rintro e w' ⟨⟨u,rfl⟩,c0,z0,c1,z1,hR⟩
 go_wp2
 refine leaves_cons (f := 196) (args := #[.pointer (some ⟨b,off,none⟩),.bool true]) (by simp) (by simp [go_sem]) ?_
 refine (store_deferred ⟨b,off,none⟩ (.int .u32 0) .returning _ c0 z0).mono ?_
 rintro e u' w'' ⟨rfl,rfl,rfl⟩
 refine leaves_cons (f := 195) (args := #[.pointer (some ⟨b,off + 1,none⟩)]) (by simp [settle]) (by simp [go_sem]) ?_
 refine (unlock_deferred ⟨b,off + 1,none⟩ _ _ ?_ ?_).mono ?_
 ·refine (World.cell?_setCell_other _ ⟨b,off,none⟩ ⟨b,off + 1,none⟩ _ (by simp)).trans ?_
  rw [World.cell?_drew]; exact c1
 ·simp [z1]
 rintro e u' w'' ⟨rfl,rfl,rfl⟩
 simp [Leaves,settle,results,Tryz.results148]
 exact ⟨w',hR,rfl⟩
end Go.Proofs.YtenfleoejgjklaaGreat
end
section
namespace Go.Proofs.YtenfleoejgjklaaGreat
open Go SE
def acN (k : IntKind) (z : Int) (x : Option AV) : Bool := match x with
 | some (.lit (.int k' z')) => decide (k' = k) && decide (z' = z)
 | _ => false
theorem akt {k : IntKind} {z : Int} {x : Option AV} (h : acN k z x = true) : x = some (.lit (.int k z)) := by
 unfold acN at h
 split at h
 ·simp only [aI,decide_eq_true_eq] at h
  obtain ⟨rfl,rfl⟩ := h; rfl
 ·cases h
def MZ (i o : Nat) (K : AV->Heap->Prop) (h2 : Heap) : Prop :=
 bif acN .u32 0 (cellAt h2 i o) && acN .i32 1 (cellAt h2 i (o + 1)) && (setCell h2 i (o + 1) (.lit (.int .i32 0))).isSome then (match setCell h2 i o (.lit (.int .u32 1)) with
  | some h3 => match setCell h3 i (o + 1) (.lit (.int .i32 0)) with
   | some h4 => K (.tup []) h4
   | none => False
  | none => False) else False
def anQ (tbl : WTbl) : WTr := fun args h K => match args with
 | [.ptr i o,.fn (.func g) first cap] => bif acN .u32 0 (cellAt h i o) && acN .i32 0 (cellAt h i (o + 1)) && (setCell h i o (.lit (.int .u32 1))).isSome then (match setCell h i (o + 1) (.lit (.int .i32 1)) with
  | some h1 => wpF Tryz.prog tbl tt (fun _ _ _ _ => []) 200 5 g (first ++ cap) h1 (fun _ h2 => MZ i o K h2)
  | none => False) else False
 | _ => False
theorem Na {h : Heap} {ρ : Ren} {T : Nat->Prop} {w : World} (hR : Rel h ρ T w) {i o : Nat} {b : SE.Loc} {k : IntKind} {z : Int} (hb : ρ i = some b) (hc : acN k z (cellAt h i o) = true) : w.cell? ⟨b.blk,b.base + o,none⟩ = some (.int k z) := by
 obtain ⟨b',hb',y,hy,hr⟩ := hR.cell (akt hc)
 obtain rfl : b' = b := Option.some.inj (hb'.symm.trans hb)
 simp only [bP] at hr
 subst hr; exact hy
theorem RV {h h' : Heap} {i o : Nat} {k : IntKind} {z : Int} (hs : setCell h i o (.lit (.int k z)) = some h') : ajP h i o k z (fun x => x = h') := by unfold ajP; rw [hs]
theorem aku {tbl : WTbl} (ht : eY Tryz.prog tbl) (args : List AV) (h : Heap) (K : AV->Heap->Prop) (hq : anQ tbl args h K) : Sp Tryz.prog 148 args h K := by
 unfold anQ at hq
 split at hq
 ·rename_i i o g first cap
  cases hc : (acN .u32 0 (cellAt h i o) && acN .i32 0 (cellAt h i (o + 1)) && (setCell h i o (.lit (.int .u32 1))).isSome) <;> rw [hc] at hq
  ·exact hq.elim
  ·simp only [aO] at hq
   simp only [aI] at hc
   obtain ⟨⟨c0,c1⟩,c2⟩ := hc
   split at hq
   ·rename_i h1 hs1
    have hsp := Eb dI mixed ht _ _ _ _ _ _ _ hq
    refine ⟨⟨_,Tryz.func148,by kernel_rfl,by kernel_rfl⟩,fun ρ T w vs hR hl => ?_⟩
    simp only [dZ] at hl
    obtain ⟨u0,_,hvs,hu0,u1,_,rfl,hu1,rfl⟩ := hl
    simp only [bP] at hu0 hu1
    obtain ⟨b,hb,rfl⟩ := hu0
    obtain ⟨fa,ca,rfl,hfa,hca⟩ := hu1
    have hvs' := vs2 hvs
    rw [hvs']
    have e1 : b.base + (o + 1) = b.base + o + 1 := by omega
    obtain ⟨h1',f1,R1,n1,K1,rfl⟩ := nY (P := Tryz.prog) hR (RV hs1) hb
    have f0 : w.frozen? ⟨b.blk,b.base + o,none⟩ = false := by
     obtain ⟨h5,hs5⟩ := Option.isSome_iff_exists.1 c2
     exact hR.ae0 hs5 hb
    have g0 := Na hR hb c0
    have g1 := Na hR hb c1
    rw [e1] at g1 f1
    refine (slow_any b.blk (b.base + o) g fa ca w (fun w2 => ∃ ρ2 h2,(∀ j,j < h.next->ρ2 j = ρ j)/\h.next<=h2.next/\Rel h2 ρ2 T w2/\Keeps T w w2/\MZ i o K h2) hsp.1 g0 g1 f0 f1 ?_).mono ?_
    ·refine (hsp.2 ρ T _ (fa ++ ca) (by rw [← e1]; exact R1) (by rw [Array.toList_append]; exact hfa.append hca)).mono ?_
     rintro e w2 ⟨ρ2,v3,u,h2,q1,q2,q3,q4,rfl,q5,hq⟩
     have hi : i < h1'.next := by
      rcases Nat.lt_or_ge i h1'.next with hlt | hge
      ·exact hlt
      ·obtain ⟨_,_,_,_,r4,_⟩ := R1
       rw [r4 i hge] at hb; cases hb
     have hb2 : ρ2 i = some b := (q1 i hi).trans hb
     have hq0 := hq
     unfold MZ at hq
     cases hc2 : (acN .u32 0 (cellAt h2 i o) && acN .i32 1 (cellAt h2 i (o + 1)) && (setCell h2 i (o + 1) (.lit (.int .i32 0))).isSome) <;> rw [hc2] at hq
     ·exact hq.elim
     ·simp only [aO] at hq
      simp only [aI] at hc2
      obtain ⟨⟨d0,d1⟩,d2⟩ := hc2
      split at hq
      ·rename_i h3 hs3
       obtain ⟨h5,hs5⟩ := Option.isSome_iff_exists.1 d2
       obtain ⟨_,z1,_⟩ := nY (P := Tryz.prog) q3 (RV hs5) hb2
       obtain ⟨_,z0,_⟩ := nY (P := Tryz.prog) q3 (RV hs3) hb2
       have m0 := Na q3 hb2 d0
       have m1 := Na q3 hb2 d1
       rw [e1] at m1 z1
       exact ⟨⟨u,rfl⟩,m0,z0,m1,z1,ρ2,h2,fun j hj => q1 j (by rw [n1]; exact hj),by rw [← n1]; exact q2,q3,(by rw [e1] at K1; exact K1.trans q5),hq0⟩
      ·exact hq.elim
    ·rintro e w' ⟨rfl,w2,⟨ρ2,h2,q1,q2,q3,q5,hq⟩,rfl⟩
     have hi : i < h.next := by
      rcases Nat.lt_or_ge i h.next with hlt | hge
      ·exact hlt
      ·obtain ⟨_,_,_,_,r4,_⟩ := hR
       rw [r4 i hge] at hb; cases hb
     have hb2 : ρ2 i = some b := (q1 i hi).trans hb
     unfold MZ at hq
     cases hc2 : (acN .u32 0 (cellAt h2 i o) && acN .i32 1 (cellAt h2 i (o + 1)) && (setCell h2 i (o + 1) (.lit (.int .i32 0))).isSome) <;> rw [hc2] at hq
     ·exact hq.elim
     ·simp only [aO] at hq
      split at hq
      ·rename_i h3 hs3
       split at hq
       ·rename_i h4 hs4
        obtain ⟨h3',_,R3,n3,K3,rfl⟩ := nY (P := Tryz.prog) q3.drew (RV hs3) hb2
        obtain ⟨h4',_,R4,n4,K4,rfl⟩ := nY (P := Tryz.prog) R3 (RV hs4) hb2
        rw [e1] at R4 K4
        exact ⟨ρ2,_,_,_,q1,by omega,R4,by simp only [bP]; exact ⟨_,rfl,.nil⟩,rfl,((q5.trans (Keeps.drew T w2)).trans K3).trans K4,hq⟩
       ·exact hq.elim
      ·exact hq.elim
   ·exact hq.elim
 ·exact hq.elim
end Go.Proofs.YtenfleoejgjklaaGreat
end
section
namespace Go.Proofs.YtenfleoejgjklaaGreat
open Go SE
def acO (n : Nat) (k : Nat) : Int := if k = 0 then 4 else if k = 1 then 70 else if k = 2 then 85 else if k = 3 then 83 else if k = 4 then 69 else (n : Int) / 256 ^ (k - 5) % 256
noncomputable def mP (n : Nat) (k : Nat) : Int := if k < 9 then acO n k else if k < 13 then ny 0 (acO n) 9 / 256 ^ (k - 9) % 256 else 0
noncomputable def ES : Ctr := det Nat (fun n => [i64 n]) 0 (fun _ => []) (fun n => Hd (10<=n/\n<=258)) (fun _ => .tup [.slE 0 0 1 64 64,i64 0]) 1 (fun n => [.cells 312 (rowB (mP n) 64)])
def DevM.wide (d : DevM) (k : Int) : Prop := d.st + k < 1099511627776/\d.fl + k < 1099511627776/\d.fe + k < 1099511627776
noncomputable def ET : jw := { X := DevM,args := fun _ => [.ptr 0 0],k := 1,l := fun d => [.m d.os],pre := fun d => Hd (d.ok/\10<=d.n/\d.wide 10),outs := [
 { Y := DevM,post := fun d d' => Hd (d'.ok/\d'.n = d.n/\d'.st = d.st + 2/\d'.fl = d.fl + 2/\d'.fe = d.fe + 1),ret := fun _ _ => i64 0,m := 1,l := fun _ d' => [.m d'.os] }] }
noncomputable def apU : WTbl := [(149,ctrT ES),(150,ctrT Ef),(62,ctrT Ej),(105,ctrT Eh),(106,ctrT Ei)]
end Go.Proofs.YtenfleoejgjklaaGreat
end
section
namespace Go.Proofs.YtenfleoejgjklaaGreat
open Go SE
def anR (a : tX) (b : Nat) : Prop := (Nat.beq (List.length [Value.int .u8 (a.res (0 + b))]) 1 && List.all [Value.int .u8 (a.res (0 + b))] Value.oneCell') = true
def akv (a : DevM) (b : DevM) : Prop := a.fe = b.fe/\a.ba = b.ba/\a.cu = b.cu/\True
def anS (a : DevM) (b : VK) : Prop := ((0 = 0/\a.n = b.d.n/\a.n = b.d.n)/\a.st = b.d.st/\a.fl = ite (b.k < b.d.n) (b.d.fl + 1) b.d.fl/\akv a b.d)/\(a.n * 193 = b.d.n * 193/\∀ q : Nat,q < a.n * 193->Cs.eff (kL a) [] q = Cs.eff (kL (b.d.flush b.k)) [] q)/\True
def akw (a : tX) : Prop := ∀ k : Nat,k < a.b.n->anR a k
def akx (a : tX) : Prop := ∀ k : Nat,k < 64->anR a k
def Hg : Prop := 0<=64/\64<=64/\64<=64
def agR : Prop := (0 = 0/\64 = 64/\64 = 64)/\(0 : Int) = 0/\True
def agS (a : DevM) (b : nK) : Prop := a.n * 193 = b.d.n * 193/\∀ q : Nat,q < a.n * 193->Cs.eff (kL a) [] q = Cs.eff (kL (b.d.store b.k b.a b.b.n (fun (q_1 : Nat) => b.b.g (b.b.q + q_1)))) [] q
def agT (a : tX) (b : ∀ a : Nat,Int) (c : Nat) : Prop := (a.b.q = 0/\a.b.n = 64/\a.c = 64)/\(a.at_ : Int) = 9/\(a.w : Int) = 4/\a.v = IntKind.wrap .u64 (ny (0 : Int) b c)/\True
def agU (a : DevM) (b : DevM) : Prop := (0 = 0/\a.n = b.n/\a.n = b.n)/\a.st = b.st + 1/\a.fl = b.fl/\akv a b
def agV : Prop := ∃ y : Unit,True/\(False/\(0 : Int) = 2/\True)/\False/\True
def WX (x : Nat) : Prop :=
 cP (decide ((x : Int) < 10)) agV (cP (decide ((x : Int) > (258 : Int))) agV (∃ x_1 : tX,Hd x_1.ok/\((x_1.b.q = 0/\x_1.b.n = 9/\x_1.c = 9)/\(x_1.at_ : Int) = 5/\(x_1.w : Int) = 4/\x_1.v = IntKind.wrap .u64 (x : Int)/\True)/\((x_1.b.N = 9/\∀ q : Nat,q < x_1.b.N->[Value.int .u8 (x_1.b.g q)] = [List.getD [Value.int .u8 4,Value.int .u8 70,Value.int .u8 85,Value.int .u8 83,Value.int .u8 69,Value.int .u8 0,Value.int .u8 0,Value.int .u8 0,Value.int .u8 0] q (@Inhabited.default Value @instInhabitedValue)])/\True)/\∀ y : Unit,True->Hg/\64<=64/\cP (Nat.ble x_1.b.n 64) (0 + x_1.b.n<=x_1.b.n/\akw x_1/\Hg/\0 + x_1.b.n<=x_1.b.n/\∃ n : Nat,∃ g : ∀ a : Nat,Int,x_1.b.n = n/\n < 1099511627776/\(∀ k : Nat,k < n->[Value.int .u8 (x_1.res (0 + k))] = [Value.int .u8 (g k)])/\(∀ k : Nat,0<=g k/\g k < 256)/\True/\∃ x_2 : tX,Hd x_2.ok/\agT x_2 g n/\((x_2.b.N = 64/\∀ q : Nat,q < x_2.b.N->[Value.int .u8 (x_2.b.g q)] = Cs.eff (fun (p : Nat) => cond (Nat.ble 0 p && Nat.blt p (0 + x_1.b.n)) [Value.int .u8 (x_1.res (0 + (p - 0)))] [Value.int .u8 0]) [] q)/\True)/\∀ y_1 : Unit,True->True/\Hg/\64<=64/\cP (Nat.ble x_2.b.n 64) (0 + x_2.b.n<=x_2.b.n/\akw x_2/\
 (∀ k : Nat,k < 64->(Nat.beq (List.length (Cs.eff (fun (p : Nat) => cond (Nat.ble 0 p && Nat.blt p (0 + x_2.b.n)) [Value.int .u8 (x_2.res (0 + (p - 0)))] (Cs.eff (fun (p_1 : Nat) => cond (Nat.ble 0 p_1 && Nat.blt p_1 (0 + x_1.b.n)) [Value.int .u8 (x_1.res (0 + (p_1 - 0)))] [Value.int .u8 0]) [] p)) [] k)) 1 && List.all (Cs.eff (fun (p : Nat) => cond (Nat.ble 0 p && Nat.blt p (0 + x_2.b.n)) [Value.int .u8 (x_2.res (0 + (p - 0)))] (Cs.eff (fun (p_1 : Nat) => cond (Nat.ble 0 p_1 && Nat.blt p_1 (0 + x_1.b.n)) [Value.int .u8 (x_1.res (0 + (p_1 - 0)))] [Value.int .u8 0]) [] p)) [] k) Value.oneCell') = true)/\(∀ k : Nat,k < 64->(Nat.beq (List.length (Cs.eff (Cs.eff (fun (p : Nat) => cond (Nat.ble 0 p && Nat.blt p (0 + x_2.b.n)) [Value.int .u8 (x_2.res (0 + (p - 0)))] (Cs.eff (fun (p_1 : Nat) => cond (Nat.ble 0 p_1 && Nat.blt p_1 (0 + x_1.b.n)) [Value.int .u8 (x_1.res (0 + (p_1 - 0)))] [Value.int .u8 0]) [] p)) []) [] k)) 1 && List.all (Cs.eff (Cs.eff (fun (p : Nat) => cond (Nat.ble 0 p && Nat.blt p (0 + x_2.b.n)) [Value.int .u8 (x_2.res (0 + (p - 0)))] (Cs.eff (fun (p_1 : Nat) => cond (Nat.ble 0 p_1 && Nat.blt p_1 (0 + x_1.b.n)) [Value.int .u8 (x_1.res (0 + (p_1 - 0)))] [Value.int .u8 0]) [] p)) []) [] k) Value.oneCell') = true)/\
 (∀ k : Nat,k < 64->(Nat.beq (List.length (Cs.eff (Cs.eff (Cs.eff (fun (p : Nat) => cond (Nat.ble 0 p && Nat.blt p (0 + x_2.b.n)) [Value.int .u8 (x_2.res (0 + (p - 0)))] (Cs.eff (fun (p_1 : Nat) => cond (Nat.ble 0 p_1 && Nat.blt p_1 (0 + x_1.b.n)) [Value.int .u8 (x_1.res (0 + (p_1 - 0)))] [Value.int .u8 0]) [] p)) []) []) [] k)) 1 && List.all (Cs.eff (Cs.eff (Cs.eff (fun (p : Nat) => cond (Nat.ble 0 p && Nat.blt p (0 + x_2.b.n)) [Value.int .u8 (x_2.res (0 + (p - 0)))] (Cs.eff (fun (p_1 : Nat) => cond (Nat.ble 0 p_1 && Nat.blt p_1 (0 + x_1.b.n)) [Value.int .u8 (x_1.res (0 + (p_1 - 0)))] [Value.int .u8 0]) [] p)) []) []) [] k) Value.oneCell') = true)/\Hg/\∃ y_2 : Unit,True/\agR/\(64 = 64/\∀ q : Nat,q < 64->[Value.int .u8 (mP x q)] = Cs.eff (Cs.eff (Cs.eff (Cs.eff (fun (p : Nat) => cond (Nat.ble 0 p && Nat.blt p (0 + x_2.b.n)) [Value.int .u8 (x_2.res (0 + (p - 0)))] (Cs.eff (fun (p_1 : Nat) => cond (Nat.ble 0 p_1 && Nat.blt p_1 (0 + x_1.b.n)) [Value.int .u8 (x_1.res (0 + (p_1 - 0)))] [Value.int .u8 0]) [] p)) []) []) []) [] q)/\True) (64<=x_2.b.n/\akx x_2/\(∀ k : Nat,k < 64->(Nat.beq (List.length (Cs.eff (fun (p : Nat) => cond (Nat.ble 0 p && Nat.blt p 64) [Value.int .u8 (x_2.res (0 + (p - 0)))] (Cs.eff (fun (p_1 : Nat) => cond (Nat.ble 0 p_1 && Nat.blt p_1 (0 + x_1.b.n)) [Value.int .u8 (x_1.res (0 + (p_1 - 0)))] [Value.int .u8 0]) [] p)) [] k)) 1 && List.all (Cs.eff (fun (p : Nat) => cond (Nat.ble 0 p && Nat.blt p 64) [Value.int .u8 (x_2.res (0 + (p - 0)))] (Cs.eff (fun (p_1 : Nat) => cond (Nat.ble 0 p_1 && Nat.blt p_1 (0 + x_1.b.n)) [Value.int .u8 (x_1.res (0 + (p_1 - 0)))] [Value.int .u8 0]) [] p)) [] k) Value.oneCell') = true)/\
 (∀ k : Nat,k < 64->(Nat.beq (List.length (Cs.eff (Cs.eff (fun (p : Nat) => cond (Nat.ble 0 p && Nat.blt p 64) [Value.int .u8 (x_2.res (0 + (p - 0)))] (Cs.eff (fun (p_1 : Nat) => cond (Nat.ble 0 p_1 && Nat.blt p_1 (0 + x_1.b.n)) [Value.int .u8 (x_1.res (0 + (p_1 - 0)))] [Value.int .u8 0]) [] p)) []) [] k)) 1 && List.all (Cs.eff (Cs.eff (fun (p : Nat) => cond (Nat.ble 0 p && Nat.blt p 64) [Value.int .u8 (x_2.res (0 + (p - 0)))] (Cs.eff (fun (p_1 : Nat) => cond (Nat.ble 0 p_1 && Nat.blt p_1 (0 + x_1.b.n)) [Value.int .u8 (x_1.res (0 + (p_1 - 0)))] [Value.int .u8 0]) [] p)) []) [] k) Value.oneCell') = true)/\(∀ k : Nat,k < 64->(Nat.beq (List.length (Cs.eff (Cs.eff (Cs.eff (fun (p : Nat) => cond (Nat.ble 0 p && Nat.blt p 64) [Value.int .u8 (x_2.res (0 + (p - 0)))] (Cs.eff (fun (p_1 : Nat) => cond (Nat.ble 0 p_1 && Nat.blt p_1 (0 + x_1.b.n)) [Value.int .u8 (x_1.res (0 + (p_1 - 0)))] [Value.int .u8 0]) [] p)) []) []) [] k)) 1 && List.all (Cs.eff (Cs.eff (Cs.eff (fun (p : Nat) => cond (Nat.ble 0 p && Nat.blt p 64) [Value.int .u8 (x_2.res (0 + (p - 0)))] (Cs.eff (fun (p_1 : Nat) => cond (Nat.ble 0 p_1 && Nat.blt p_1 (0 + x_1.b.n)) [Value.int .u8 (x_1.res (0 + (p_1 - 0)))] [Value.int .u8 0]) [] p)) []) []) [] k) Value.oneCell') = true)/\Hg/\∃ y_2 : Unit,True/\agR/\(64 = 64/\∀ q : Nat,q < 64->[Value.int .u8 (mP x q)] = Cs.eff (Cs.eff (Cs.eff (Cs.eff (fun (p : Nat) => cond (Nat.ble 0 p && Nat.blt p 64) [Value.int .u8 (x_2.res (0 + (p - 0)))] (Cs.eff (fun (p_1 : Nat) => cond (Nat.ble 0 p_1 && Nat.blt p_1 (0 + x_1.b.n)) [Value.int .u8 (x_1.res (0 + (p_1 - 0)))] [Value.int .u8 0]) [] p)) []) []) []) [] q)/\True)) (64<=x_1.b.n/\akx x_1/\Hg/\0 + x_1.b.n<=x_1.b.n/\∃ n : Nat,∃ g : ∀ a : Nat,Int,x_1.b.n = n/\n < 1099511627776/\
 (∀ k : Nat,k < n->[Value.int .u8 (x_1.res (0 + k))] = [Value.int .u8 (g k)])/\(∀ k : Nat,0<=g k/\g k < 256)/\True/\∃ x_2 : tX,Hd x_2.ok/\agT x_2 g n/\((x_2.b.N = 64/\∀ q : Nat,q < x_2.b.N->[Value.int .u8 (x_2.b.g q)] = Cs.eff (fun (p : Nat) => cond (Nat.ble 0 p && Nat.blt p 64) [Value.int .u8 (x_1.res (0 + (p - 0)))] [Value.int .u8 0]) [] q)/\True)/\∀ y_1 : Unit,True->True/\Hg/\64<=64/\cP (Nat.ble x_2.b.n 64) (0 + x_2.b.n<=x_2.b.n/\akw x_2/\(∀ k : Nat,k < 64->(Nat.beq (List.length (Cs.eff (fun (p : Nat) => cond (Nat.ble 0 p && Nat.blt p (0 + x_2.b.n)) [Value.int .u8 (x_2.res (0 + (p - 0)))] (Cs.eff (fun (p_1 : Nat) => cond (Nat.ble 0 p_1 && Nat.blt p_1 64) [Value.int .u8 (x_1.res (0 + (p_1 - 0)))] [Value.int .u8 0]) [] p)) [] k)) 1 && List.all (Cs.eff (fun (p : Nat) => cond (Nat.ble 0 p && Nat.blt p (0 + x_2.b.n)) [Value.int .u8 (x_2.res (0 + (p - 0)))] (Cs.eff (fun (p_1 : Nat) => cond (Nat.ble 0 p_1 && Nat.blt p_1 64) [Value.int .u8 (x_1.res (0 + (p_1 - 0)))] [Value.int .u8 0]) [] p)) [] k) Value.oneCell') = true)/\(∀ k : Nat,k < 64->(Nat.beq (List.length (Cs.eff (Cs.eff (fun (p : Nat) => cond (Nat.ble 0 p && Nat.blt p (0 + x_2.b.n)) [Value.int .u8 (x_2.res (0 + (p - 0)))] (Cs.eff (fun (p_1 : Nat) => cond (Nat.ble 0 p_1 && Nat.blt p_1 64) [Value.int .u8 (x_1.res (0 + (p_1 - 0)))] [Value.int .u8 0]) [] p)) []) [] k)) 1 && List.all (Cs.eff (Cs.eff (fun (p : Nat) => cond (Nat.ble 0 p && Nat.blt p (0 + x_2.b.n)) [Value.int .u8 (x_2.res (0 + (p - 0)))] (Cs.eff (fun (p_1 : Nat) => cond (Nat.ble 0 p_1 && Nat.blt p_1 64) [Value.int .u8 (x_1.res (0 + (p_1 - 0)))] [Value.int .u8 0]) [] p)) []) [] k) Value.oneCell') = true)/\
 (∀ k : Nat,k < 64->(Nat.beq (List.length (Cs.eff (Cs.eff (Cs.eff (fun (p : Nat) => cond (Nat.ble 0 p && Nat.blt p (0 + x_2.b.n)) [Value.int .u8 (x_2.res (0 + (p - 0)))] (Cs.eff (fun (p_1 : Nat) => cond (Nat.ble 0 p_1 && Nat.blt p_1 64) [Value.int .u8 (x_1.res (0 + (p_1 - 0)))] [Value.int .u8 0]) [] p)) []) []) [] k)) 1 && List.all (Cs.eff (Cs.eff (Cs.eff (fun (p : Nat) => cond (Nat.ble 0 p && Nat.blt p (0 + x_2.b.n)) [Value.int .u8 (x_2.res (0 + (p - 0)))] (Cs.eff (fun (p_1 : Nat) => cond (Nat.ble 0 p_1 && Nat.blt p_1 64) [Value.int .u8 (x_1.res (0 + (p_1 - 0)))] [Value.int .u8 0]) [] p)) []) []) [] k) Value.oneCell') = true)/\Hg/\∃ y_2 : Unit,True/\agR/\(64 = 64/\∀ q : Nat,q < 64->[Value.int .u8 (mP x q)] = Cs.eff (Cs.eff (Cs.eff (Cs.eff (fun (p : Nat) => cond (Nat.ble 0 p && Nat.blt p (0 + x_2.b.n)) [Value.int .u8 (x_2.res (0 + (p - 0)))] (Cs.eff (fun (p_1 : Nat) => cond (Nat.ble 0 p_1 && Nat.blt p_1 64) [Value.int .u8 (x_1.res (0 + (p_1 - 0)))] [Value.int .u8 0]) [] p)) []) []) []) [] q)/\True) (64<=x_2.b.n/\akx x_2/\(∀ k : Nat,k < 64->(Nat.beq (List.length (Cs.eff (fun (p : Nat) => cond (Nat.ble 0 p && Nat.blt p 64) [Value.int .u8 (x_2.res (0 + (p - 0)))] (Cs.eff (fun (p_1 : Nat) => cond (Nat.ble 0 p_1 && Nat.blt p_1 64) [Value.int .u8 (x_1.res (0 + (p_1 - 0)))] [Value.int .u8 0]) [] p)) [] k)) 1 && List.all (Cs.eff (fun (p : Nat) => cond (Nat.ble 0 p && Nat.blt p 64) [Value.int .u8 (x_2.res (0 + (p - 0)))] (Cs.eff (fun (p_1 : Nat) => cond (Nat.ble 0 p_1 && Nat.blt p_1 64) [Value.int .u8 (x_1.res (0 + (p_1 - 0)))] [Value.int .u8 0]) [] p)) [] k) Value.oneCell') = true)/\
 (∀ k : Nat,k < 64->(Nat.beq (List.length (Cs.eff (Cs.eff (fun (p : Nat) => cond (Nat.ble 0 p && Nat.blt p 64) [Value.int .u8 (x_2.res (0 + (p - 0)))] (Cs.eff (fun (p_1 : Nat) => cond (Nat.ble 0 p_1 && Nat.blt p_1 64) [Value.int .u8 (x_1.res (0 + (p_1 - 0)))] [Value.int .u8 0]) [] p)) []) [] k)) 1 && List.all (Cs.eff (Cs.eff (fun (p : Nat) => cond (Nat.ble 0 p && Nat.blt p 64) [Value.int .u8 (x_2.res (0 + (p - 0)))] (Cs.eff (fun (p_1 : Nat) => cond (Nat.ble 0 p_1 && Nat.blt p_1 64) [Value.int .u8 (x_1.res (0 + (p_1 - 0)))] [Value.int .u8 0]) [] p)) []) [] k) Value.oneCell') = true)/\(∀ k : Nat,k < 64->(Nat.beq (List.length (Cs.eff (Cs.eff (Cs.eff (fun (p : Nat) => cond (Nat.ble 0 p && Nat.blt p 64) [Value.int .u8 (x_2.res (0 + (p - 0)))] (Cs.eff (fun (p_1 : Nat) => cond (Nat.ble 0 p_1 && Nat.blt p_1 64) [Value.int .u8 (x_1.res (0 + (p_1 - 0)))] [Value.int .u8 0]) [] p)) []) []) [] k)) 1 && List.all (Cs.eff (Cs.eff (Cs.eff (fun (p : Nat) => cond (Nat.ble 0 p && Nat.blt p 64) [Value.int .u8 (x_2.res (0 + (p - 0)))] (Cs.eff (fun (p_1 : Nat) => cond (Nat.ble 0 p_1 && Nat.blt p_1 64) [Value.int .u8 (x_1.res (0 + (p_1 - 0)))] [Value.int .u8 0]) [] p)) []) []) [] k) Value.oneCell') = true)/\Hg/\∃ y_2 : Unit,True/\agR/\(64 = 64/\∀ q : Nat,q < 64->[Value.int .u8 (mP x q)] = Cs.eff (Cs.eff (Cs.eff (Cs.eff (fun (p : Nat) => cond (Nat.ble 0 p && Nat.blt p 64) [Value.int .u8 (x_2.res (0 + (p - 0)))] (Cs.eff (fun (p_1 : Nat) => cond (Nat.ble 0 p_1 && Nat.blt p_1 64) [Value.int .u8 (x_1.res (0 + (p_1 - 0)))] [Value.int .u8 0]) [] p)) []) []) []) [] q)/\True))))
theorem acP (x : Nat) : WX x = wpF Tryz.prog tblK tt (noA x) 200 5 149 (ES.args x) (hO ES.k (ES.os x)) (fun v h' => eU ES.k x v h' ES.outs) := by kernel_rfl
def Nb (x : DevM) : Prop :=
 ∃ x_1 : Nat,Hd (10<=x_1/\x_1<=258)/\((x_1 : Int) = (x.n : Int)/\True)/\True/\∀ y : Unit,True->∃ x_2 : nK,Hd (x_2.d.ok/\x_2.k < x_2.d.n/\x_2.b.ok/\x_2.a + x_2.b.n<=64)/\(0 = 0/\(x_2.k : Int) = 0/\(x_2.a : Int) = 0/\(x_2.b.q = 0/\x_2.b.n = 64)/\True)/\(((0 = 0/\x_2.d.n = x.n/\x_2.d.n = x.n)/\x_2.d.st = x.st/\x_2.d.fl = x.fl/\akv x_2.d x)/\(x_2.d.n * 193 = x.n * 193/\∀ q : Nat,q < x_2.d.n * 193->Cs.eff (kL x_2.d) [] q = Cs.eff (kL x) [] q)/\(x_2.b.N = 64/\∀ q : Nat,q < x_2.b.N->[Value.int .u8 (x_2.b.g q)] = [Value.int .u8 (mP x_1 q)])/\True)/\∀ y_1 : Unit,True->∃ x_3 : Int,Hd (0<=x_3/\x_3 < 18446744073709551616)/\(x_3 = 0/\True)/\True/\∀ y_2 : Unit,True->∃ x_4 : nK,Hd (x_4.d.ok/\x_4.k < x_4.d.n/\x_4.b.ok/\x_4.a + x_4.b.n<=64)/\(0 = 0/\(x_4.k : Int) = 1/\(x_4.a : Int) = 0/\(x_4.b.q = 0/\x_4.b.n = 64)/\True)/\(agU x_4.d x_2.d/\agS x_4.d x_2/\(x_4.b.N = 64/\∀ q : Nat,q < x_4.b.N->[Value.int .u8 (x_4.b.g q)] = [Value.int .u8 (kV x_3 q)])/\True)/\∀ y_3 : Unit,True->∃ x_5 : VK,Hd (x_5.d.ok/\x_5.k < 258)/\(0 = 0/\(x_5.k : Int) = 0/\True)/\(agU x_5.d x_4.d/\agS x_5.d x_4/\True)/\∀ y_4 : Unit,True->∃ x_6 : VK,Hd (x_6.d.ok/\x_6.k < 258)/\(0 = 0/\(x_6.k : Int) = 1/\True)/\anS x_6.d x_5/\∀ y_5 : Unit,True->∃ x_7 : DevM,Hd x_7.ok/\(0 = 0/\True)/\anS x_7 x_6/\∀ y_6 : Unit,True->∃ y_7 : DevM,Hd (y_7.ok/\y_7.n = x.n/\y_7.st = x.st + 2/\y_7.fl = x.fl + 2/\y_7.fe = x.fe + 1)/\(0 : Int) = 0/\((0 = 0/\y_7.n = x_7.n/\y_7.n = x_7.n)/\y_7.st = x_7.st/\y_7.fl = x_7.fl/\y_7.fe = x_7.fe + 1/\y_7.ba = x_7.ba/\y_7.cu = x_7.cu/\True)/\(y_7.n * 193 = x_7.n * 193/\∀ q : Nat,q < y_7.n * 193->Cs.eff (kL y_7) [] q = Cs.eff (kL x_7.fence) [] q)/\True
theorem WY (x : DevM) : Nb x = wpF Tryz.prog apU tt (noA x) 200 5 90 (ET.args x) (hO 2 (dN 1 (ET.l x))) (fun v h' => dA 1 x v h' ET.outs) := by kernel_rfl
end Go.Proofs.YtenfleoejgjklaaGreat
end
section
namespace Go.Proofs.YtenfleoejgjklaaGreat
open Go SE
set_option linter.unusedSimpArgs false
theorem RX (v : Nat) (hv : 10<=v/\v<=258) : WX v := by
 have hw : IntKind.u64.wrap (v : Int) = v := jd (by omega) (by omega)
 let b0 : Bys := ⟨fun k => if k = 0 then 4 else if k = 1 then 70 else if k = 2 then 85 else if k = 3 then 83 else if k = 4 then 69 else 0,0,9,9⟩
 let x1 : tX := ⟨b0,5,4,v,9⟩
 have ok1 : x1.ok := ⟨⟨by simp [x1,b0],by simp [x1,b0],fun k => by simp only [x1,b0]; grind⟩,by simp [x1,b0],by simp [x1],by simp [x1],by show (0 : Int)<=v; omega,by show (v : Int) < 256 ^ 4; omega⟩
 have r1 : ∀ k,k < 9->x1.res k = acO v k := fun k hk => by
  simp only [tX.res,oL,acO,x1,b0]
  by_cases h : k < 5
  ·rw [if_neg (by omega),ay]; grind
  ·rw [if_pos (by omega)]; grind
 have u1 : ∀ k,0<=x1.res k/\x1.res k < 256 := y8 (fun k => ok1.1.2.2 _) _ _ _
 let b1 : Bys := ⟨fun k => if k < 9 then x1.res k else 0,0,64,64⟩
 let x2 : tX := ⟨b1,9,4,ny 0 x1.res 9,64⟩
 have c1 : ny 0 x1.res 9 = ny 0 (acO v) 9 := y7 r1
 have hU := YT 0 x1.res 9
 have ok2 : x2.ok := ⟨⟨by simp [x2,b1],by simp [x2,b1],fun k => by
  show 0<=(if k < 9 then x1.res k else 0)/\(if k < 9 then x1.res k else 0) < 256
  split
  ·exact u1 k
  ·exact ⟨by omega,by omega⟩⟩,by simp [x2,b1],by simp [x2],by simp [x2],hU.1,hU.2⟩
 have w64 : IntKind.u64.wrap (ny 0 x1.res 9) = ny 0 x1.res 9 := jd hU.1 (by have := hU.2; omega)
 have nb : x1.b.n = 9 := rfl
 have nb2 : x2.b.n = 64 := rfl
 have ble9 : Nat.ble 9 64 = true := rfl
 have am9 : Nat.ble 64 64 = true := rfl
 unfold WX
 simp only [agV,Hg,akw,agT,agR,akx,anR]
 simp only [aY,aU,aT,ay,aH,bJ,bg,aN,aJ,au,aW,aV,bK,bC,bD,bF,bM,bf,bG,aZ,dY,aG,aK,ah,aj,aA,aC,aB,aF,hw]
 refine bH (fun h => absurd (aQ h) (by omega)) fun _ => bH (fun h => absurd (aQ h) (by omega)) fun _ => ?_
 refine ⟨x1,ok1,⟨⟨rfl,rfl,rfl⟩,rfl,rfl,rfl⟩,⟨rfl,fun q hq => ?_⟩,by omega,by omega,?_⟩
 ·have hq : q < 9 := hq
  match q,hq with
  | 0,_ | 1,_ | 2,_ | 3,_ | 4,_ | 5,_ | 6,_ | 7,_ | 8,_ => rfl
 simp only [nb,ble9,cP,bK,bC,bD,bF,bM,bf,bG,aZ,dY,aG,aK,ah,aj,aA,aC,aB,aF,aJ,aT]
 refine ⟨by omega,by omega,by omega,9,x1.res,rfl,by omega,fun _ _ => rfl,u1,x2,ok2,⟨⟨rfl,rfl,rfl⟩,rfl,rfl,w64.symm⟩,⟨rfl,fun q hq => ?_⟩,by omega,by omega,?_⟩
 ·show (if q < 9 then x1.res q else 0) = _
  rw [bW,eu]
 simp only [nb2,am9,cP,bK,bC,bD,bF,bM,bf,bG,aZ,dY,aG,aK,ah,aj,aA,aC,aB,aF,aJ,aT]
 refine ⟨by omega,by omega,fun q hq => ?_⟩
 simp [bQ.2 hq]
 show mP v q = oL (fun k => if 0 + k < 9 then x1.res (0 + k) else 0) 9 4 (ny 0 x1.res 9) q
 simp only [mP,oL,c1,ay]
 by_cases h : q < 9
 ·rw [if_pos h,if_neg (by omega),if_pos h,r1 q h]
 ·by_cases h2 : q < 13
  ·rw [if_neg h,if_pos h2,if_pos (by omega)]
  ·rw [if_neg h,if_neg h2,if_neg (by omega),if_neg h]
theorem RY {v : Nat} (hv : v<=258) (k : Nat) : 0<=mP v k/\mP v k < 256 := by
 unfold mP acO
 repeat' split
 all_goals first | exact lV _ _ | omega
theorem DevM.zq {d : DevM} (h : d.ok) (k : Nat) (hf : d.fl + 1 < 1099511627776) : (d.flush k).ok := by
 obtain ⟨h1,h2,h3,h4,h5,h6⟩ := h
 refine ⟨h1,fun p => ?_,h3,?_,h5,h6⟩
 ·simp only [DevM.flush]; split <;> exact h2 _
 ·unfold small at *; simp only [DevM.flush]; split <;> omega
theorem DevM.Jm {d : DevM} (h : d.ok) (hf : d.fe + 1 < 1099511627776) : d.fence.ok := by
 obtain ⟨h1,h2,h3,h4,h5,h6⟩ := h
 refine ⟨h1,fun p => ?_,h3,h4,?_,h6⟩
 ·simp only [DevM.fence,DevM.iO]; split <;> exact h2 _
 ·unfold small at *; simp only [DevM.fence,DevM.iO]; omega
theorem DevM.je {d : DevM} (h : d.ok) (k a n : Nat) {g : Nat->Int} (hg : ∀ q,0<=g q/\g q < 256) (hf : d.st + 1 < 1099511627776) : (d.store k a n g).ok := by
 obtain ⟨h1,h2,h3,h4,h5,h6⟩ := h
 refine ⟨h1,fun p => ?_,?_,h4,h5,h6⟩
 ·simp only [DevM.store]
  split
  ·exact hg _
  ·exact h2 _
 ·unfold small at *; simp only [DevM.store]; omega
theorem Nc (x : DevM) (hx : x.ok/\10<=x.n/\x.wide 10) : Nb x := by
 obtain ⟨ho,hn,w1,w2,w3⟩ := hx
 have hn2 := ho.1
 let s1 := x.store 0 0 64 (mP x.n)
 let s2 := s1.store 1 0 64 (kV 0)
 let f1 := s2.flush 0
 let f2 := f1.flush 1
 have o1 : s1.ok := DevM.je ho _ _ _ (RY (by omega)) (by omega)
 have o2 : s2.ok := DevM.je o1 _ _ _ (Em 0) (by show x.st + 1 + 1 < _; omega)
 have o3 : f1.ok := DevM.zq o2 0 (by show x.fl + 1 < _; omega)
 have e3 : f1.fl = x.fl + 1 := if_pos (by show 0 < x.n; omega)
 have o4 : f2.ok := DevM.zq o3 1 (by rw [e3]; omega)
 have e4 : f2.fl = x.fl + 2 := (if_pos (show 1 < x.n by omega)).trans (by rw [e3]; omega)
 have o5 : f2.fence.ok := DevM.Jm o4 (by show x.fe + 1 < _; omega)
 have z1 : (x.store 0 0 64 fun q => mP x.n (0 + q)) = s1 := by simp only [ay]; rfl
 have z2 : (s1.store 1 0 64 fun q => kV 0 (0 + q)) = s2 := by simp only [ay]; rfl
 unfold Nb
 simp only [akv,agU,agS,anS]
 simp only [aY,aU,aT,ay,aH,bJ,bg,aN,aJ,au,aW,aV,bK,bC,bD,bF,bM,bf,bG,aZ,dY,aG,aK,ah,aj,aA,aC,aB,aF]
 refine ⟨x.n,⟨hn,hn2⟩,rfl,⟨x,0,0,⟨mP x.n,0,64,64⟩⟩,⟨ho,by show 0 < x.n; omega,⟨by simp,by simp,RY hn2⟩,by simp⟩,⟨rfl,rfl,rfl,rfl⟩,⟨⟨rfl,rfl,rfl,rfl,rfl,rfl⟩,⟨rfl,fun q _ => rfl⟩,rfl,fun q _ => rfl⟩,
  0,⟨by decide,by decide⟩,rfl,⟨s1,1,0,⟨kV 0,0,64,64⟩⟩,⟨o1,by show 1 < x.n; omega,⟨by simp,by simp,Em 0⟩,by simp⟩,⟨rfl,rfl,rfl,rfl⟩,⟨⟨rfl,rfl,rfl,rfl,rfl,rfl⟩,⟨rfl,fun q _ => ?_⟩,rfl,fun q _ => rfl⟩,
  ⟨s2,0⟩,⟨o2,show 0 < 258 by decide⟩,rfl,⟨⟨rfl,rfl,rfl,rfl,rfl,rfl⟩,rfl,fun q _ => ?_⟩,⟨f1,1⟩,⟨o3,show 1 < 258 by decide⟩,rfl,⟨⟨rfl,rfl,rfl,rfl,rfl,rfl⟩,rfl,fun q _ => rfl⟩,f2,o4,⟨⟨rfl,rfl,rfl,rfl,rfl,rfl⟩,rfl,fun q _ => rfl⟩,f2.fence,⟨o5,rfl,by show x.st + 1 + 1 = x.st + 2; omega,e4,rfl⟩,⟨rfl,rfl,rfl,rfl,rfl,rfl⟩,rfl,fun q _ => rfl⟩
 ·show kL s1 q = kL (x.store 0 0 64 fun q => mP x.n (0 + q)) q
  rw [z1]
 ·show kL s2 q = kL (s1.store 1 0 64 fun q => kV 0 (0 + q)) q
  rw [z2]
theorem aky : bV Tryz.prog 149 ES := dX dI mixed afj noA 200 5 (fun _ => rfl) (fun _ => rfl) fun x hx => Eq.mp (acP x) (RX x (aY.1 hx))
theorem akz : eY Tryz.prog apU := .cons (bT aky) (.cons (bT ajY) (.cons (bT aj3) (.cons (bT aj1) (.cons (bT aj2) .nil))))
theorem agW : bV Tryz.prog 90 ET.ctr := dJ dI mixed akz 2 noA 200 5 (fun _ => ⟨rfl,rfl,rfl,rfl⟩) fun x hx => Eq.mp (WY x) (Nc x (aY.1 hx))
end Go.Proofs.YtenfleoejgjklaaGreat
end
section
namespace Go.Proofs.YtenfleoejgjklaaGreat
open Go SE
noncomputable def agX : jw := og Nat (fun n => [i64 n]) 0 (fun _ => []) (fun n => Hd (1<=n/\n<=258)) (fun _ => .tup [.ptr 0 0,i64 0]) 1 (fun n => [.m (uj n).os])
def agY : jw := og Nat (fun t => [i64 t]) 0 (fun _ => []) (fun t => Hd (1<=t/\t<=4)) (fun _ => .tup [.ptr 0 0,i64 0]) 1 (fun t => [.m (akg t).os])
def agZ : jw := og (Nat × Int) (fun p => [i64 p.1,u64 p.2]) 0 (fun _ => []) (fun p => Hd (1<=p.1/\p.1<=4/\0<=p.2/\p.2<=1152921504606846976)) (fun _ => .tup [.ptr 0 0,i64 0]) 1 (fun p => [.m ((Y2 p.1 p.2).os 0)])
noncomputable def ag0 : jw := og Nat (fun n => [i64 n]) 0 (fun _ => []) (fun n => Hd (1<=n/\n<=32)) (fun _ => .tup [.ptr 0 0,i64 0]) 1 (fun n => [.m (gJ n n).os])
def ag1 : jw := og Unit (fun _ => []) 0 (fun _ => []) (fun _ => Hd True) (fun _ => .ptr 0 0) 1 (fun _ => [.m tabE])
noncomputable def RZ : jw := og DevM (fun _ => [.ptr 0 0]) 1 (fun d => [.m d.os]) (fun d => Hd d.ok) (fun d => i64 d.n) 1 (fun d => [.m d.os])
def ZG : iD := ⟨true,0,fun _ => ⟨0,0,0,0,0⟩⟩
def akA : ZLn := ⟨0,0,0,0,fun _ => oz⟩
def ag2 : jw := og Unit (fun _ => []) 0 (fun _ => []) (fun _ => Hd True) (fun _ => .ptr 0 0) 1 (fun _ => [.m ZG.os])
def ag3 : jw := og Unit (fun _ => []) 0 (fun _ => []) (fun _ => Hd True) (fun _ => .ptr 0 0) 1 (fun _ => [.m akA.os])
end Go.Proofs.YtenfleoejgjklaaGreat
end
section
namespace Go.Proofs.YtenfleoejgjklaaGreat
open Go SE
def BK : Prop := ∃ y : Unit,True/\(False/\(0 : Int) = 2/\True)/\False/\False/\True
def Si : Prop := 0 = 0/\(0 : Int) = 0/\True
def Hl (a : Nat) : Prop := 0 = 0/\a = a/\a = a
def anT : Prop := 258 = 258/\∀ q : Nat,q < 258->[Value.bool false] = [Value.bool false]
def anU : Prop := True/\True/\True/\True/\True/\True/\True/\True/\True
def WZ (x : Nat) : Prop :=
 cP (decide ((x : Int) < 1)) BK (cP (decide ((x : Int) > (258 : Int))) BK ((0<=(x : Int)/\(x : Int)<=(x : Int)/\193 * (x : Int)<=281474976710656/\(x : Int) < 4611686018427387904)/\∃ y : Unit,True/\Si/\(Hl x/\(0 : Int) = 0/\(0 : Int) = 0/\(0 : Int) = 0/\(0 : Int) = 0/\(0 : Int) = 0/\True)/\(x * 193 = x * 193/\∀ q : Nat,∀ j : Nat,q < x->j < 193->∃ v : Value,getElem? (List.replicate 192 (Value.int .u8 0) ++ [Value.bool false]) j = some v/\Cs.eff (kL (uj x)) [] (q * 193 + j) = [v])/\True))
theorem acQ (x : Nat) : WZ x = wpF Tryz.prog [] tt (noA x) 200 5 48 (agX.args x) (hO 0 (dN 0 (agX.l x))) (fun v h' => dA 0 x v h' agX.outs) := by kernel_rfl
def W9 (x : Nat) : Prop :=
 cP (decide ((x : Int) < 1)) BK (cP (decide ((x : Int) > (4 : Int))) BK ((0<=(x : Int)/\(x : Int)<=(x : Int)/\8 * (x : Int)<=281474976710656/\(x : Int) < 4611686018427387904)/\∃ y : Unit,True/\Si/\((1 : Int) = 1/\Hl x/\True)/\(x = x/\∀ q : Nat,q < x->[Value.int .u64 0] = [Value.int .u64 0])/\True))
theorem acR (x : Nat) : W9 x = wpF Tryz.prog tZ tt (noA x) 200 5 79 (agY.args x) (hO 0 (dN 0 (agY.l x))) (fun v h' => dA 0 x v h' agY.outs) := by kernel_rfl
def Xa (x : Nat × Int) : Prop :=
 cP (decide ((x.1 : Int) < 1)) BK (cP (decide ((x.1 : Int) > (4 : Int))) BK (cP (decide (x.2 > (1152921504606846976 : Int))) (∃ y : Unit,True/\(False/\(0 : Int) = 10/\True)/\False/\False/\True) ((0<=(x.1 : Int)/\(x.1 : Int)<=(x.1 : Int)/\8 * (x.1 : Int)<=281474976710656/\(x.1 : Int) < 4611686018427387904)/\∃ y : Unit,True/\Si/\((x.2 + 1 = IntKind.wrap .u64 (x.2 + 1)/\x.2 = x.2/\(0 : Int) = 0/\(0 = 0/\x.1 = x.1/\x.1 = x.1)/\True)/\anT/\anT/\Value.nilFunc = Value.nilFunc/\True)/\(x.1 = x.1/\∀ q : Nat,q < x.1->[Value.int .i64 0] = [Value.int .i64 0])/\True)))
theorem acS (x : Nat × Int) : Xa x = wpF Tryz.prog tZ tt (noA x) 200 5 81 (agZ.args x) (hO 0 (dN 0 (agZ.l x))) (fun v h' => dA 0 x v h' agZ.outs) := by kernel_rfl
def Xb (x : Nat) : Prop :=
 cP (decide ((x : Int) < 1)) BK (I64 (256 : Int)/\((8 : Int) = 0->False)/\I64 (32 : Int)/\cP (decide ((x : Int) > (32 : Int))) BK ((0<=(x : Int)/\(x : Int)<=(x : Int)/\24 * (x : Int)<=281474976710656/\(x : Int) < 4611686018427387904)/\(∃ s : Nat,s<=x/\True/\((s : Int) = 0/\True)/\(Hl x/\True)/\(x * 10 = x * 10/\∀ q : Nat,∀ j : Nat,q < x->j < 10->∃ v : Value,getElem? [Value.int .i64 0,Value.bool false,Value.bool false,Value.bool false,Value.bool false,Value.bool false,Value.bool false,Value.bool false,Value.bool false,Value.int .i64 0] j = some v/\Cs.eff (gZ (gJ x s)) [] (q * 10 + j) = [v])/\True)/\(∀ s : Nat,s<=x->cP (decide ((s : Int) < (x : Int))) ((0<=(s : Int)/\(s : Int) < (x : Int))/\(0 + s) * 10 + 0 < x * 10/\I64 ((s : Int) + 1)/\∃ s_1 : Nat,s_1<=x/\x - s_1 < x - s/\((s_1 : Int) = (s : Int) + 1/\True)/\(Hl x/\True)/\(x * 10 = x * 10/\∀ q : Nat,q < x * 10->Cs.eff (gZ (gJ x s_1)) [] q = Cs.eff (gZ (gJ x s)) [((0 + s) * 10 + 0,[Value.int .i64 (-(1 : Int))])] q)/\True) (∃ y : Unit,True/\Si/\(Hl x/\True)/\(x * 10 = x * 10/\∀ q : Nat,q < x * 10->Cs.eff (gZ (gJ x x)) [] q = Cs.eff (gZ (gJ x s)) [] q)/\True))/\True))
theorem acT (x : Nat) : Xb x = wpF Tryz.prog [] tt (alP x) 200 5 82 (ag0.args x) (hO 0 (dN 0 (ag0.l x))) (fun v h' => dA 0 x v h' ag0.outs) := by kernel_rfl
def Xc (x : Unit) : Prop :=
 ((0 : Int)<=0/\(0 : Int)<=7)/\I64 (1 : Int)/\((0 : Int)<=1/\(0 : Int)<=6)/\I64 (2 : Int)/\((0 : Int)<=2/\(0 : Int)<=5)/\I64 (3 : Int)/\((0 : Int)<=3/\(0 : Int)<=4)/\I64 (4 : Int)/\((0 : Int)<=4/\(0 : Int)<=3)/\I64 (5 : Int)/\((0 : Int)<=5/\(0 : Int)<=2)/\I64 (6 : Int)/\((0 : Int)<=6/\(0 : Int)<=1)/\I64 (7 : Int)/\((0 : Int)<=7/\(0 : Int)<=0)/\I64 (8 : Int)/\∃ y : Unit,True/\0 = 0/\anU/\anU
theorem acU (x : Unit) : Xc x = wpF Tryz.prog tZ tt (noA x) 200 5 85 (ag1.args x) (hO 0 (dN 0 (ag1.l x))) (fun v h' => dA 0 x v h' ag1.outs) := by kernel_rfl
def Xd (x : DevM) : Prop :=
 ∃ y : Unit,True/\(x.n : Int) = (x.n : Int)/\(Hl x.n/\x.st = x.st/\x.fl = x.fl/\x.fe = x.fe/\x.ba = x.ba/\x.cu = x.cu/\True)/\(x.n * 193 = x.n * 193/\∀ q : Nat,q < x.n * 193->Cs.eff (kL x) [] q = Cs.eff (kL x) [] q)/\True
theorem acV (x : DevM) : Xd x = wpF Tryz.prog tZ tt (noA x) 200 5 80 (RZ.args x) (hO 2 (dN 1 (RZ.l x))) (fun v h' => dA 1 x v h' RZ.outs) := by kernel_rfl
def ag4 (x : Unit) : Prop :=
 ∃ y : Unit,True/\0 = 0/\(Value.slice none 0 0 = Value.slice none 0 0/\True)/\True
theorem ag5 (x : Unit) : ag4 x = wpF Tryz.prog [] tt (noA x) 200 5 84 (ag2.args x) (hO 0 (dN 0 (ag2.l x))) (fun v h' => dA 0 x v h' ag2.outs) := by kernel_rfl
def ag6 (x : Unit) : Prop :=
 ∃ y : Unit,True/\0 = 0/\(Value.slice none 0 0 = Value.slice none 0 0/\(0 : Int) = 0/\(0 : Int) = 0/\True)/\True
theorem ag7 (x : Unit) : ag6 x = wpF Tryz.prog [] tt (noA x) 200 5 87 (ag3.args x) (hO 0 (dN 0 (ag3.l x))) (fun v h' => dA 0 x v h' ag3.outs) := by kernel_rfl
end Go.Proofs.YtenfleoejgjklaaGreat
end
section
namespace Go.Proofs.YtenfleoejgjklaaGreat
open Go SE
set_option linter.unusedSimpArgs false
theorem Sj (x : Nat) (hx : 1<=x/\x<=258) : WZ x := by
 have h := VQ x hx
 unfold afp at h
 simp only [Y1,nM,kW] at h
 unfold WZ
 simp only [BK,Si,Hl]
 simp only [aY,aU,aT,ay,aH,bJ,bg,aN,aJ,au,aW,aV,bK,bC,bD,bF,bM,bf,bG,aZ,dY,aG,aK,ah,aj,aA,aC,aB,aF] at h ⊢
 exact h
theorem Sl (x : Nat) (hx : 1<=x/\x<=4) : W9 x := by
 have h := Wx x hx
 unfold af2 at h
 simp only [Zd,kX] at h
 unfold W9
 simp only [BK,Si,Hl]
 simp only [aY,aU,aT,ay,aH,bJ,bg,aN,aJ,au,aW,aV,bK,bC,bD,bF,bM,bf,bG,aZ,dY,aG,aK,ah,aj,aA,aC,aB,aF] at h ⊢
 exact h
theorem Sm (x : Nat × Int) (hx : 1<=x.1/\x.1<=4/\0<=x.2/\x.2<=1152921504606846976) : Xa x := by
 have h := VR x hx
 unfold afr at h
 simp only [Y4,Y3,Jd] at h
 unfold Xa
 simp only [BK,Si,anT]
 simp only [aY,aU,aT,ay,aH,bJ,bg,aN,aJ,au,aW,aV,bK,bC,bD,bF,bM,bf,bG,aZ,dY,aG,aK,ah,aj,aA,aC,aB,aF] at h ⊢
 exact h
theorem Sr (x : Nat) (hx : 1<=x/\x<=32) : Xb x := by
 have h := V9 x hx
 unfold afI at h
 simp only [Za,nN,xU] at h
 unfold Xb
 simp only [BK,Hl,Si]
 simp only [aY,aU,aT,ay,aH,bJ,bg,aN,aJ,au,aW,aV,bK,bC,bD,bF,bM,bf,bG,aZ,dY,aG,aK,ah,aj,aA,aC,aB,aF] at h ⊢
 exact h
theorem Sv (x : Unit) : Xc x := by
 unfold Xc
 simp only [anU]
 simp only [aY,aU,aT,ay,aH,bJ,bg,aN,aJ,au,aW,aV,bK,bC,bD,bF,bM,bf,bG,aZ,dY,aG,aK,ah,aj,aA,aC,aB,aF,I64]
 omega
theorem Sz (x : DevM) (_ : x.ok) : Xd x := by
 unfold Xd
 simp only [Hl]
 simp only [aY,aU,aT,ay,aH,bJ,bg,aN,aJ,au,aW,aV,bK,bC,bD,bF,bM,bf,bG,aZ,dY,aG,aK,ah,aj,aA,aC,aB,aF]
theorem akB : bV Tryz.prog 48 agX.ctr := dJ dI mixed .nil 0 noA 200 5 (fun _ => ⟨rfl,rfl,rfl,rfl⟩) fun x hx => Eq.mp (acQ x) (Sj x (aY.1 hx))
theorem akC : bV Tryz.prog 79 agY.ctr := dJ dI mixed eX 0 noA 200 5 (fun _ => ⟨rfl,rfl,rfl,rfl⟩) fun x hx => Eq.mp (acR x) (Sl x (aY.1 hx))
theorem akD : bV Tryz.prog 81 agZ.ctr := dJ dI mixed eX 0 noA 200 5 (fun _ => ⟨rfl,rfl,rfl,rfl⟩) fun x hx => Eq.mp (acS x) (Sm x (aY.1 hx))
theorem akE : bV Tryz.prog 82 ag0.ctr := dJ dI mixed .nil 0 alP 200 5 (fun _ => ⟨rfl,rfl,rfl,rfl⟩) fun x hx => Eq.mp (acT x) (Sr x (aY.1 hx))
theorem akF : bV Tryz.prog 85 ag1.ctr := dJ dI mixed eX 0 noA 200 5 (fun _ => ⟨rfl,rfl,rfl,rfl⟩) fun x _ => Eq.mp (acU x) (Sv x)
theorem akG : bV Tryz.prog 80 RZ.ctr := dJ dI mixed eX 2 noA 200 5 (fun _ => ⟨rfl,rfl,rfl,rfl⟩) fun x hx => Eq.mp (acV x) (Sz x (aY.1 hx))
theorem Xe (x : Unit) : ag4 x := by
 unfold ag4
 simp only [aY,aU,aT,ay,aH,bJ,bg,aN,aJ,au,aW,aV,bK,bC,bD,bF,bM,bf,bG,aZ,dY,aG,aK,ah,aj,aA,aC,aB,aF]
theorem akH : bV Tryz.prog 84 ag2.ctr := dJ dI mixed .nil 0 noA 200 5 (fun _ => ⟨rfl,rfl,rfl,rfl⟩) fun x _ => Eq.mp (ag5 x) (Xe x)
theorem Xf (x : Unit) : ag6 x := by
 unfold ag6
 simp only [aY,aU,aT,ay,aH,bJ,bg,aN,aJ,au,aW,aV,bK,bC,bD,bF,bM,bf,bG,aZ,dY,aG,aK,ah,aj,aA,aC,aB,aF]
theorem akI : bV Tryz.prog 87 ag3.ctr := dJ dI mixed .nil 0 noA 200 5 (fun _ => ⟨rfl,rfl,rfl,rfl⟩) fun x _ => Eq.mp (ag7 x) (Xf x)
end Go.Proofs.YtenfleoejgjklaaGreat
end
section
namespace Go.Proofs.YtenfleoejgjklaaGreat
open Go SE
structure iy where
 kind : Int
 key : ByteArray
 value : ByteArray
 id : Int
 ver : Int
 epoch : Int
 group : Int
def iy.cs (e : iy) : List Value := [.int .i64 e.kind,.string e.key,.string e.value,.int .u64 e.id,.int .u64 e.ver,.int .u64 e.epoch,.int .i64 e.group]
structure ZArn where
 d : DevM
 p : cO
 r : ZRd
 c : ClkM
 b : iD
 l : ZLn
 id : Int
 ver : Int
 n : Nat
 e : Nat->iy
namespace ZArn
def str (a : ZArn) (ef : AV) : dF := .cells 113 (.av [.ptr 1 0,.ptr 3 0,.ptr 4 0,.ptr 5 0,.ptr 6 0,.ptr 7 0,.ptr 8 0,.ptr 9 0,u64 a.id,u64 a.ver,ef])
noncomputable def parts (a : ZArn) : List dF := [.cells 145 (.av [.ptr 2 0,u32 1,.lit (.int .i32 0),u32 0]),.abs (ownM a.d.os),.abs (ownM a.p.os),.abs (ownM a.r.os),.abs (ownM (a.c.os 0)),.abs (ownM a.b.os),.abs (ownM tabE),.cells 255 (.av [fJ,fJ,fJ,fJ]),.abs (ownM a.l.os)]
noncomputable def osN (a : ZArn) : List dF := a.str fJ :: a.parts
noncomputable def osP (a : ZArn) : List dF := a.str (.slW 10 0 7 a.n) :: (a.parts ++ [.room 95 (.row 7 a.n (fun i => (a.e i).cs) [])])
noncomputable def os (a : ZArn) : List dF := bif Nat.beq a.n 0 then a.osN else a.osP
end ZArn
noncomputable def newArn (n t : Nat) (d : DevM) : ZArn := ⟨d,gJ ((n - 2) / 8) ((n - 2) / 8),akg t,Y2 t 0,ZG,akA,0,0,0,fun _ => ⟨0,⟨#[]⟩,⟨#[]⟩,0,0,0,0⟩⟩
structure ZNew where
 n : Nat
 t : Nat
noncomputable def acW : jw := { X := ZNew,args := fun x => [i64 x.n,i64 x.t],k := 0,l := fun _ => [],pre := fun x => Hd (10<=x.n/\x.n<=258/\1<=x.t/\x.t<=4),outs := [
 { Y := DevM,post := fun x d => Hd (d.ok/\d.n = x.n/\d.st = 2/\d.fl = 2/\d.fe = 1),ret := fun _ _ => .tup [.ptr 0 0,i64 0],m := 1,l := fun x d => [.m (newArn x.n x.t d).osN] }] }
noncomputable def apV : WTbl := [(90,ctrT ET.ctr)]
noncomputable def apW : WTbl := tZ ++ [(48,ctrT agX.ctr),(79,ctrT agY.ctr),(80,ctrT RZ.ctr),(81,ctrT agZ.ctr),(82,ctrT ag0.ctr),(85,ctrT ag1.ctr),(84,ctrT ag2.ctr),(87,ctrT ag3.ctr),(148,anQ apV)]
end Go.Proofs.YtenfleoejgjklaaGreat
end
section
namespace Go.Proofs.YtenfleoejgjklaaGreat
open Go SE
def acX : Prop := Value.slice none 0 0 = Value.slice none 0 0
def anV (a : ZNew) (b : Nat) (c : Nat) (d : Prod Nat Int) : Prop := ownM (cO.os (gJ ((a.n - 2) / 8) ((a.n - 2) / 8))) = ownM (cO.os (gJ b b))/\ownM (ZRd.os (akg a.t)) = ownM (ZRd.os (akg c))/\ownM (ClkM.os (Y2 a.t (0 : Int)) 0) = ownM (ClkM.os (Y2 d.1 d.2) 0)/\ownM ZG.os = ownM ZG.os/\ownM tabE = ownM tabE/\(acX/\acX/\acX/\acX/\True)/\ownM akA.os = ownM akA.os/\True
def anW : Prop := 0 = 0/\0 = 0/\0 = 0/\0 = 0/\0 = 0/\0 = 0/\0 = 0/\0 = 0/\(0 : Int) = 0/\(0 : Int) = 0/\acX/\True
def akJ (a : DevM) (b : Nat) : Prop := Hd (a.ok/\a.n = b/\a.st = 2/\a.fl = 2/\a.fe = 1)
def ag8 (x : ZNew) : Prop :=
 ∃ x_1 : Nat,Hd (1<=x_1/\x_1<=258)/\((x_1 : Int) = (x.n : Int)/\True)/\True/\∀ y : Unit,True->∃ x_2 : Nat,Hd (1<=x_2/\x_2<=4)/\((x_2 : Int) = (x.t : Int)/\True)/\True/\∀ y_1 : Unit,True->∃ x_3 : DevM,Hd x_3.ok/\(0 = 0/\True)/\(ownM x_3.os = ownM (DevM.os (uj x_1))/\True)/\∀ y_2 : Unit,True->cP (decide ((x_3.n : Int) < 10)) (∃ y_3 : DevM,akJ y_3 x.n/\(False/\(0 : Int) = 2/\True)/\False/\False/\False/\False/\False/\False/\False/\False/\False/\False/\True) (∃ x_4 : Prod Nat Int,Hd (1<=x_4.1/\x_4.1<=4/\0<=x_4.2/\x_4.2<=1152921504606846976)/\((x_4.1 : Int) = (x.t : Int)/\x_4.2 = 0/\True)/\True/\∀ y_3 : Unit,True->∃ x_5 : DevM,Hd x_5.ok/\(0 = 0/\True)/\(ownM x_5.os = ownM x_3.os/\True)/\∀ y_4 : Unit,True->cP (decide ((x_5.n : Int) < 10)) (∃ x_6 : Nat,Hd (1<=x_6/\x_6<=32)/\((x_6 : Int) = 0/\True)/\True/\∀ y_5 : Unit,True->∃ x_7 : Unit,Hd True/\True/\True/\∀ y_6 : Unit,True->∃ x_8 : Unit,Hd True/\True/\True/\∀ y_7 : Unit,True->∃ x_9 : Unit,Hd True/\True/\True/\∀ y_8 : Unit,True->∃ BL : DevM,Hd (BL.ok/\10<=BL.n/\BL.wide (10 : Int))/\(0 = 0/\True)/\(ownM BL.os = ownM x_5.os/\True)/\∀ y_9 : DevM,Hd (y_9.ok/\y_9.n = BL.n/\y_9.st = BL.st + 2/\y_9.fl = BL.fl + 2/\y_9.fe = BL.fe + 1)->∃ aoT : DevM,akJ aoT x.n/\(0 = 0/\(0 : Int) = 0/\True)/\anW/\(0 = 0/\(1 : Int) = 1/\(0 : Int) = 0/\(0 : Int) = 0/\True)/\ownM aoT.os = ownM y_9.os/\anV x x_6 x_2 x_4) (I64 (ni (x_5.n : Int) (258 : Int) - 2)/\((8 : Int) = 0->False)/\I64 (Int.tdiv (ni (x_5.n : Int) (258 : Int) - 2) (8 : Int))/\∃ x_6 : Nat,Hd (1<=x_6/\x_6<=32)/\((x_6 : Int) = Int.tdiv (ni (x_5.n : Int) (258 : Int) - 2) (8 : Int)/\True)/\True/\
 ∀ y_5 : Unit,True->∃ x_7 : Unit,Hd True/\True/\True/\∀ y_6 : Unit,True->∃ x_8 : Unit,Hd True/\True/\True/\∀ y_7 : Unit,True->∃ x_9 : Unit,Hd True/\True/\True/\∀ y_8 : Unit,True->∃ BL : DevM,Hd (BL.ok/\10<=BL.n/\BL.wide (10 : Int))/\(0 = 0/\True)/\(ownM BL.os = ownM x_5.os/\True)/\∀ y_9 : DevM,Hd (y_9.ok/\y_9.n = BL.n/\y_9.st = BL.st + 2/\y_9.fl = BL.fl + 2/\y_9.fe = BL.fe + 1)->∃ aoT : DevM,akJ aoT x.n/\(0 = 0/\(0 : Int) = 0/\True)/\anW/\(0 = 0/\(1 : Int) = 1/\(0 : Int) = 0/\(0 : Int) = 0/\True)/\ownM aoT.os = ownM y_9.os/\anV x x_6 x_2 x_4))
theorem ag9 (x : ZNew) : ag8 x = wpF Tryz.prog apW tt (noA x) 200 5 13 (acW.args x) (hO 0 (dN 0 (acW.l x))) (fun v h' => dA 0 x v h' acW.outs) := by kernel_rfl
end Go.Proofs.YtenfleoejgjklaaGreat
end
section
namespace Go.Proofs.YtenfleoejgjklaaGreat
open Go SE
set_option linter.unusedSimpArgs false
theorem Xg (n : Nat) (h : n<=258) : (uj n).ok := ⟨h,fun _ => ⟨Int.le_refl 0,(by decide : (0 : Int) < 256)⟩,⟨Int.le_refl 0,(by decide : (0 : Int) < 1099511627776)⟩,⟨Int.le_refl 0,(by decide : (0 : Int) < 1099511627776)⟩,⟨Int.le_refl 0,(by decide : (0 : Int) < 1099511627776)⟩,
 ⟨Int.le_refl 0,(by decide : (0 : Int) < 1099511627776)⟩,⟨Int.le_refl 0,(by decide : (0 : Int) < 1099511627776)⟩⟩
theorem Xh (x : ZNew) (hx : 10<=x.n/\x.n<=258/\1<=x.t/\x.t<=4) : ag8 x := by
 unfold ag8
 simp only [akJ,anW,anV,acX]
 simp only [aY,aU,aT,ay,aH,bJ,bg,aN,aJ,au,aW,aV,bK,bC,bD,bF,bM,bf,bG,aZ,dY,aG,aK,ah,aj,aA,aC,aB,aF]
 have h1 := Xg x.n hx.2.1
 have hm : ni (x.n : Int) 258 = x.n := by unfold ni; omega
 have hd : ((x.n : Int) - 2).tdiv 8 = (((x.n - 2) / 8 : Nat) : Int) := by
  rw [show (x.n : Int) - 2 = ((x.n - 2 : Nat) : Int) by omega]
  exact (Int.ofNat_tdiv (x.n - 2) 8).symm
 refine ⟨x.n,⟨by omega,by omega⟩,rfl,x.t,⟨by omega,by omega⟩,rfl,uj x.n,h1,rfl,bH (fun h => absurd (aQ h) (by show ¬ ((x.n : Int) < 10); omega)) fun _ => ⟨(x.t,0),⟨by show 1<=x.t; omega,by show x.t<=4; omega,Int.le_refl 0,show (0 : Int)<=1152921504606846976 by decide⟩,⟨rfl,rfl⟩,uj x.n,h1,rfl,bH (fun h => absurd (aQ h) (by show ¬ ((x.n : Int) < 10); omega)) fun _ => ?_⟩⟩
 show I64 (ni (x.n : Int) 258 - 2)/\_
 rw [show ni ((uj x.n).n : Int) 258 = x.n from hm,hd]
 refine ⟨by show I64 (ni (x.n : Int) 258 - 2); rw [hm]; unfold I64; omega,by omega,by unfold I64; omega,(x.n - 2) / 8,by omega,rfl,uj x.n,⟨h1,by show 10<=x.n; omega,⟨show (0 : Int) + 10 < 1099511627776 by decide,show (0 : Int) + 10 < 1099511627776 by decide,show (0 : Int) + 10 < 1099511627776 by decide⟩⟩,rfl,fun y hy => ⟨y,⟨hy.1,hy.2.1,hy.2.2.1,hy.2.2.2.1,hy.2.2.2.2⟩,rfl,rfl,rfl,rfl⟩⟩
theorem akK : eY Tryz.prog apV := .cons (bT agW) .nil
theorem akL : eY Tryz.prog apW := .append eX (.cons (bT akB) (.cons (bT akC) (.cons (bT akG) (.cons (bT akD) (.cons (bT akE) (.cons (bT akF) (.cons (bT akH) (.cons (bT akI) (.cons (fun _ _ _ hq => aku akK _ _ _ hq) .nil)))))))))
theorem aha : bV Tryz.prog 13 acW.ctr := dJ dI mixed akL 0 noA 200 5 (fun _ => ⟨rfl,rfl,rfl,rfl⟩) fun x hx => Eq.mp (ag9 x) (Xh x (aY.1 hx))
end Go.Proofs.YtenfleoejgjklaaGreat
end
section
namespace Go.Proofs.YtenfleoejgjklaaGreat
open Go SE
def ZH (p r c b t l d : AV) : dF := .ro (.av [d,p,r,c,b,t,.any,l,.any,.any,.any])
structure oN where
 b : iD
 l : ZLn
 k : Int
def oN.inL (x : oN) : Prop := ∃ i,i < x.l.n/\(x.l.get i).line = x.k
def oN.inB (x : oN) : Prop := ∃ i,i < x.b.n/\((x.b.e i).line = x.k ∨ (x.b.e i).anti = x.k)
noncomputable def oN.os (x : oN) : List dF := [ZH .any .any .any (.ptr 1 0) (.ptr 2 0) (.ptr 3 0) .any,.abs (ownM x.b.os),.abs (ownM tabE),.abs (ownM x.l.os)]
noncomputable def Xi : Ctr := { X := oN,args := fun x => [.ptr 0 0,i64 x.k],k := 4,os := oN.os,pre := fun x => Hd (x.b.ok/\x.l.ok/\x.l.n < 1099511627776),outs := [
 { Y := Unit,post := fun x _ => Hd (x.inL ∨ x.inB),ret := fun _ _ => boo true,m := 4,os := fun x _ => x.os },
 { Y := Unit,post := fun x _ => Hd (¬ x.inL/\¬ x.inB),ret := fun _ _ => boo false,m := 4,os := fun x _ => x.os }] }
def alW (x : oN) : FuncId->uU := fun f => bif Nat.beq f 247 then (fun b _ _ => bif Nat.beq b 0 then [
 { σ := Nat,fr := fun i => [(21,i64 i)],ob := fun _ => [],inv := fun i => Hd (i<=x.l.n/\∀ j,j < i->(x.l.get j).line ≠ x.k),meas := fun i => x.l.n - i }] else bif Nat.beq b 2 then [
 { σ := Nat,fr := fun i => [(36,i64 i)],ob := fun _ => [],inv := fun i => Hd (i<=x.b.n/\∀ j,j < i->(x.b.e j).line ≠ x.k/\(x.b.e j).anti ≠ x.k),meas := fun i => x.b.n - i }] else []) else fun _ _ _ => []
noncomputable def apX : WTbl := [(68,ctrT agO.ctr),(70,ctrT Zp.ctr),(278,ctrT agd.ctr)]
end Go.Proofs.YtenfleoejgjklaaGreat
end
section
namespace Go.Proofs.YtenfleoejgjklaaGreat
open Go SE
def Jo : Prop := ownM tabE = ownM tabE
def ahb : Prop := True/\True/\True/\0 = 0/\0 = 0/\True/\0 = 0/\True/\True/\True/\True
def ZI (a : ZLn) (b : iD) : Prop := ownM a.os = ownM a.os/\Jo/\ownM b.os = ownM b.os/\(True/\ahb)/\True
def acY (a : ZLn) (b : iD) : Prop := (a.n = a.n/\∀ q : Nat,q < a.n->[Value.string (dw.key (a.get q)),Value.int .u64 (dw.id (a.get q)),Value.int .u64 (dw.ver (a.get q)),Value.int .i64 (dw.line (a.get q)),Value.int .i64 (dw.cls (a.get q))] = [Value.string (dw.key (a.get q)),Value.int .u64 (dw.id (a.get q)),Value.int .u64 (dw.ver (a.get q)),Value.int .i64 (dw.line (a.get q)),Value.int .i64 (dw.cls (a.get q))])/\ZI a b
def acZ (a : ZLn) (b : iD) : Prop := (0 + a.n = 0 + a.n/\∀ q : Nat,q < 0 + a.n->[Value.string (dw.key (a.get (0 + (q - 0)))),Value.int .u64 (dw.id (a.get (0 + (q - 0)))),Value.int .u64 (dw.ver (a.get (0 + (q - 0)))),Value.int .i64 (dw.line (a.get (0 + (q - 0)))),Value.int .i64 (dw.cls (a.get (0 + (q - 0))))] = [Value.string (dw.key (a.get (0 + (q - 0)))),Value.int .u64 (dw.id (a.get (0 + (q - 0)))),Value.int .u64 (dw.ver (a.get (0 + (q - 0)))),Value.int .i64 (dw.line (a.get (0 + (q - 0)))),Value.int .i64 (dw.cls (a.get (0 + (q - 0))))])/\acY a b
def ahc (a : oN) (b : iD) (c : ZLn) : Prop := (True/\ahb)/\ownM a.b.os = ownM b.os/\Jo/\ownM a.l.os = ownM c.os/\True
def ac0 (a : iD) : Prop := a.n = a.n/\∀ q : Nat,q < a.n->[Value.int .i64 (iw.line (a.e q)),Value.int .i64 (iw.cls (a.e q)),Value.int .u64 (iw.r (a.e q)),Value.int .u64 (iw.d (a.e q)),Value.int .i64 (iw.anti (a.e q))] = [Value.int .i64 (iw.line (a.e q)),Value.int .i64 (iw.cls (a.e q)),Value.int .u64 (iw.r (a.e q)),Value.int .u64 (iw.d (a.e q)),Value.int .i64 (iw.anti (a.e q))]
def nP (a : Nat) (b : oN) : Prop := Hd (a<=b.b.n/\∀ j : Nat,j < a->iw.line (b.b.e j) ≠ b.k/\iw.anti (b.b.e j) ≠ b.k)
def SA (a : oN) (b : iD) (c : ZLn) : Prop := (∃ y_3 : Unit,Hd (a.inL ∨ a.inB)/\true = false/\ahc a b c) ∨ ∃ y_3 : Unit,Hd (Not a.inL/\Not a.inB)/\false = false/\ahc a b c
def EU (a : oN) (b : iD) (c : ZLn) : Prop := (∃ y_3 : Unit,Hd (a.inL ∨ a.inB)/\true = true/\ahc a b c) ∨ ∃ y_3 : Unit,Hd (Not a.inL/\Not a.inB)/\false = true/\ahc a b c
def ZJ (a : oN) (b : iD) (c : ZLn) : Prop := (∀ s_1 : Nat,nP s_1 a->SA a b c)/\True
def Au (a : Nat) (b : oN) : Prop := Hd (a<=b.l.n/\∀ j : Nat,j < a->dw.line (b.l.get j) ≠ b.k)
def ahd (a : Nat) (b : ZLn) (c : iD) : Prop := True/\((a : Int) = 0/\True)/\ZI b c
def ahe (a : iD) (b : ZLn) : Prop := ac0 a/\ZI b a
def ahf (x : oN) : Prop :=
 ∃ x_1 : Unit,Hd True/\(0 = 0/\True)/\(Jo/\True)/\∀ y : Unit,True->(AV.ptr 3 0 = AV.ptr 3 0/\True)/\∃ x_2 : ZLn,Hd x_2.ok/\(0 = 0/\True)/\(ownM x_2.os = ownM x.l.os/\True)/\(∀ y_1 : Unit,Hd (x_2.n = 0)->True/\True/\(∃ s : Nat,Au s x/\ahd s x_2 x.b)/\(∀ s : Nat,Au s x->∃ x_3 : iD,Hd x_3.ok/\(0 = 0/\True)/\(ownM x_3.os = ownM x.b.os/\True)/\(∀ y_2 : Unit,Hd (x_3.n = 0)->(∃ s_1 : Nat,nP s_1 x/\ahd s_1 x_2 x_3)/\ZJ x x_3 x_2)/\∀ y_2 : Unit,Hd True->(∃ s_1 : Nat,nP s_1 x/\True/\((s_1 : Int) = 0/\True)/\ahe x_3 x_2)/\(∀ s_1 : Nat,nP s_1 x->cP (decide ((s_1 : Int) < (x_3.n : Int))) ((0<=(s_1 : Int)/\(s_1 : Int) < (x_3.n : Int))/\0 + s_1 < x_3.n/\cP (BEq.beq (iw.line (x_3.e (0 + s_1))) x.k) (EU x x_3 x_2) (cP (BEq.beq (iw.anti (x_3.e (0 + s_1))) x.k) (EU x x_3 x_2) (I64 ((s_1 : Int) + 1)/\∃ s_2 : Nat,nP s_2 x/\x.b.n - s_2 < x.b.n - s_1/\((s_2 : Int) = (s_1 : Int) + 1/\True)/\ahe x_3 x_2))) (SA x x_3 x_2))/\True)/\True)/\∀ y_1 : Unit,Hd (x_2.n ≠ 0)->True/\0 + x_2.n<=x_2.n/\cP (Nat.beq x_2.n 0) (True/\(∃ s : Nat,Au s x/\True/\((s : Int) = 0/\True)/\acY x_2 x.b)/\(∀ s : Nat,Au s x->∃ x_3 : iD,Hd x_3.ok/\(0 = 0/\True)/\(ownM x_3.os = ownM x.b.os/\True)/\(∀ y_2 : Unit,Hd (x_3.n = 0)->(∃ s_1 : Nat,nP s_1 x/\True/\((s_1 : Int) = 0/\True)/\acY x_2 x_3)/\ZJ x x_3 x_2)/\∀ y_2 : Unit,Hd True->(∃ s_1 : Nat,nP s_1 x/\True/\((s_1 : Int) = 0/\True)/\ac0 x_3/\acY x_2 x_3)/\(∀ s_1 : Nat,nP s_1 x->cP (decide ((s_1 : Int) < (x_3.n : Int))) ((0<=(s_1 : Int)/\(s_1 : Int) < (x_3.n : Int))/\0 + s_1 < x_3.n/\
 cP (BEq.beq (iw.line (x_3.e (0 + s_1))) x.k) (EU x x_3 x_2) (cP (BEq.beq (iw.anti (x_3.e (0 + s_1))) x.k) (EU x x_3 x_2) (I64 ((s_1 : Int) + 1)/\∃ s_2 : Nat,nP s_2 x/\x.b.n - s_2 < x.b.n - s_1/\((s_2 : Int) = (s_1 : Int) + 1/\True)/\ac0 x_3/\acY x_2 x_3))) (SA x x_3 x_2))/\True)/\True) ((2 * (0 + x_2.n) + 1000) * 48<=281474976710656/\True/\(∃ s : Nat,Au s x/\True/\((s : Int) = 0/\True)/\acZ x_2 x.b)/\(∀ s : Nat,Au s x->cP (decide ((s : Int) < ((0 + x_2.n : Nat) : Int))) ((0<=(s : Int)/\(s : Int) < ((0 + x_2.n : Nat) : Int))/\0 + s < 0 + x_2.n/\cP (BEq.beq (dw.line (x_2.get (0 + (0 + s - 0)))) x.k) ((∃ y_2 : Unit,Hd (x.inL ∨ x.inB)/\true = true/\(True/\ahb)/\ownM x.b.os = ownM x.b.os/\Jo/\ownM x.l.os = ownM x_2.os/\True) ∨ ∃ y_2 : Unit,Hd (Not x.inL/\Not x.inB)/\false = true/\(True/\ahb)/\ownM x.b.os = ownM x.b.os/\Jo/\ownM x.l.os = ownM x_2.os/\True) (I64 ((s : Int) + 1)/\∃ s_1 : Nat,Au s_1 x/\x.l.n - s_1 < x.l.n - s/\((s_1 : Int) = (s : Int) + 1/\True)/\acZ x_2 x.b)) (∃ x_3 : iD,Hd x_3.ok/\(0 = 0/\True)/\(ownM x_3.os = ownM x.b.os/\True)/\(∀ y_2 : Unit,Hd (x_3.n = 0)->(∃ s_1 : Nat,nP s_1 x/\True/\((s_1 : Int) = 0/\True)/\acZ x_2 x_3)/\ZJ x x_3 x_2)/\∀ y_2 : Unit,Hd True->(∃ s_1 : Nat,nP s_1 x/\True/\((s_1 : Int) = 0/\True)/\ac0 x_3/\acZ x_2 x_3)/\(∀ s_1 : Nat,nP s_1 x->cP (decide ((s_1 : Int) < (x_3.n : Int))) ((0<=(s_1 : Int)/\(s_1 : Int) < (x_3.n : Int))/\0 + s_1 < x_3.n/\cP (BEq.beq (iw.line (x_3.e (0 + s_1))) x.k) (EU x x_3 x_2) (cP (BEq.beq (iw.anti (x_3.e (0 + s_1))) x.k) (EU x x_3 x_2) (I64 ((s_1 : Int) + 1)/\∃ s_2 : Nat,nP s_2 x/\x.b.n - s_2 < x.b.n - s_1/\((s_2 : Int) = (s_1 : Int) + 1/\
 True)/\ac0 x_3/\acZ x_2 x_3))) (SA x x_3 x_2))/\True))/\True)
theorem ahg (x : oN) : ahf x = wpF Tryz.prog apX tt (alW x) 200 5 247 (Xi.args x) (hO Xi.k (Xi.os x)) (fun v h' => eU Xi.k x v h' Xi.outs) := by kernel_rfl
end Go.Proofs.YtenfleoejgjklaaGreat
end
section
namespace Go.Proofs.YtenfleoejgjklaaGreat
open Go SE
set_option linter.unusedSimpArgs false
theorem Xj (x : oN) (hx : x.b.ok/\x.l.ok/\x.l.n < 1099511627776) : ahf x := by
 obtain ⟨hb,hl,hln⟩ := hx
 have hbn := hb.1
 unfold ahf
 simp only [Jo,Au,ahd,nP,ZJ,ahe,EU,SA,acY,ac0,acZ,ahb,ZI,ahc]
 simp only [aY,aU,aT,ay,aH,bJ,bg,aN,aJ,au,aW,aV,bK,bC,bD,bF,bM,bf,bG,aZ,dY,aG,aK,ah,aj,aA,aC,aB,aF]
 refine ⟨x.l,hl,rfl,fun h0 => ⟨⟨0,⟨Nat.zero_le _,fun j hj => absurd hj (Nat.not_lt_zero j)⟩,rfl⟩,fun s hs => ?_⟩,fun h0 => ⟨aX _,bH (fun hz => ?_) fun _ => ⟨by omega,⟨0,⟨Nat.zero_le _,fun j hj => absurd hj (Nat.not_lt_zero j)⟩,rfl⟩,fun s hs => bH (fun h => ?_) fun h => ?_⟩⟩⟩
 ·have hL : ¬ x.inL := fun ⟨i,hi,_⟩ => by omega
  refine ⟨x.b,hb,rfl,fun h0 => ⟨⟨0,⟨Nat.zero_le _,fun j hj => absurd hj (Nat.not_lt_zero j)⟩,rfl⟩,fun s1 hs1 => Or.inr ⟨⟨hL,fun ⟨i,hi,_⟩ => by omega⟩,rfl,rfl⟩⟩,⟨0,⟨Nat.zero_le _,fun j hj => absurd hj (Nat.not_lt_zero j)⟩,rfl⟩,fun s1 hs1 => bH (fun h => ?_) fun h => ?_⟩
  ·have h' : s1 < x.b.n := by have := aQ h; omega
   refine ⟨⟨by omega,by omega⟩,h',bH (fun e => Or.inl ⟨Or.inr ⟨s1,h',Or.inl (beq_iff_eq.1 e)⟩,rfl,rfl⟩) fun e => bH (fun e2 => Or.inl ⟨Or.inr ⟨s1,h',Or.inr (beq_iff_eq.1 e2)⟩,rfl,rfl⟩) fun e2 => ⟨by unfold I64; omega,s1 + 1,⟨by omega,fun j hj => ?_⟩,by omega,by omega⟩⟩
   by_cases hjs : j = s1
   ·subst hjs; exact ⟨beq_eq_false_iff_ne.1 e,beq_eq_false_iff_ne.1 e2⟩
   ·exact hs1.2 j (by omega)
  ·have h' : ¬ s1 < x.b.n := by have := aS h; omega
   exact Or.inr ⟨⟨hL,fun ⟨i,hi,hh⟩ => hh.elim (hs1.2 i (by omega)).1 (hs1.2 i (by omega)).2⟩,rfl,rfl⟩
 ·exact absurd (ak hz) h0
 ·have h' : s < x.l.n := by have := aQ h; omega
  refine ⟨⟨by omega,by omega⟩,h',bH (fun e => Or.inl ⟨Or.inl ⟨s,h',beq_iff_eq.1 e⟩,rfl⟩) fun e => ⟨by unfold I64; omega,s + 1,⟨by omega,fun j hj => ?_⟩,by omega,by omega⟩⟩
  by_cases hjs : j = s
  ·subst hjs; exact beq_eq_false_iff_ne.1 e
  ·exact hs.2 j (by omega)
 ·have h' : ¬ s < x.l.n := by have := aS h; omega
  have hL : ¬ x.inL := fun ⟨i,hi,hh⟩ => hs.2 i (by omega) hh
  refine ⟨x.b,hb,rfl,fun h0 => ⟨⟨0,⟨Nat.zero_le _,fun j hj => absurd hj (Nat.not_lt_zero j)⟩,rfl⟩,fun s1 hs1 => Or.inr ⟨⟨hL,fun ⟨i,hi,_⟩ => by omega⟩,rfl,rfl⟩⟩,⟨0,⟨Nat.zero_le _,fun j hj => absurd hj (Nat.not_lt_zero j)⟩,rfl⟩,fun s1 hs1 => bH (fun h => ?_) fun h => ?_⟩
  ·have h' : s1 < x.b.n := by have := aQ h; omega
   refine ⟨⟨by omega,by omega⟩,h',bH (fun e => Or.inl ⟨Or.inr ⟨s1,h',Or.inl (beq_iff_eq.1 e)⟩,rfl,rfl⟩) fun e => bH (fun e2 => Or.inl ⟨Or.inr ⟨s1,h',Or.inr (beq_iff_eq.1 e2)⟩,rfl,rfl⟩) fun e2 => ⟨by unfold I64; omega,s1 + 1,⟨by omega,fun j hj => ?_⟩,by omega,by omega⟩⟩
   by_cases hjs : j = s1
   ·subst hjs; exact ⟨beq_eq_false_iff_ne.1 e,beq_eq_false_iff_ne.1 e2⟩
   ·exact hs1.2 j (by omega)
  ·have h' : ¬ s1 < x.b.n := by have := aS h; omega
   exact Or.inr ⟨⟨hL,fun ⟨i,hi,hh⟩ => hh.elim (hs1.2 i (by omega)).1 (hs1.2 i (by omega)).2⟩,rfl,rfl⟩
theorem akM : eY Tryz.prog apX := .cons (bT anP) (.cons (bT acC) (.cons (bT agh) .nil))
theorem anX : bV Tryz.prog 247 Xi := gG dI mixed akM alW 200 5 (fun _ => rfl) (fun _ => ⟨fun _ => rfl,fun _ => rfl,trivial⟩) fun x hx => Eq.mp (ahg x) (Xj x (aY.1 hx))
end Go.Proofs.YtenfleoejgjklaaGreat
end
section
namespace Go.Proofs.YtenfleoejgjklaaGreat
open Go SE
def ClkM.notes (c : ClkM) (t : Nat) (l : Int) : Nat->ClkM
 | 0 => c
 | i + 1 => (c.notes t l i).note t (l + i)
structure fV where
 a : ZArn
 t : Nat
 e : Int
 v : ByteArray
 key : ByteArray
 had : Bool
 old : dw
 k : Nat
 c : Int
namespace fV
def av (x : fV) (kind : Int) : AV := .agg [i64 kind,.lit (.string x.key),.lit (.string x.v),boo x.had,.lit (.string x.old.key),u64 x.old.id,u64 x.old.ver,i64 x.old.line,i64 x.old.cls,i64 x.k,i64 x.c]
def blk (x : fV) : dL := ⟨x.c,2,x.a.id + 1,x.a.ver + 1,x.e,⟨#[]⟩,x.v⟩
def eff (x : fV) : iy := ⟨3,⟨#[]⟩,x.v,x.a.id + 1,x.a.ver + 1,x.e,x.a.ver + 1⟩
noncomputable def enq (x : fV) : ZArn := { x.a with d := x.a.d.store x.k 0 64 x.blk.enc,c := x.a.c.notes x.t x.k x.blk.dD,l := x.a.l.push ⟨⟨#[]⟩,x.a.id + 1,x.a.ver + 1,x.k,x.c⟩,id := x.a.id + 1,ver := x.a.ver + 1,n := x.a.n + 1,e := fun i => if i = x.a.n then x.eff else x.a.e i }
def ok (x : fV) : Prop := x.a.d.ok/\x.a.c.ok/\x.a.l.ok/\x.t < x.a.c.t/\x.k < x.a.d.n/\x.blk.may/\x.v.size < 1099511627776/\0<=x.a.id/\0<=x.a.ver/\x.a.n < 1099511627776/\x.a.d.n<=258
end fV
def fV.okE (x : fV) : Prop := x.ok/\x.a.p.ok/\x.a.b.ok/\x.a.l.n < 1099511627776/\x.a.c.now = x.e/\x.a.ver < 1152921504606846976/\x.a.id < 1152921504606846976/\(¬ oN.inL ⟨x.a.b,x.a.l,x.k⟩)/\¬ oN.inB ⟨x.a.b,x.a.l,x.k⟩
def fV.inP (x : fV) (i j : Nat) : Prop := i < x.a.p.n/\0<=x.a.p.cls i/\j < cO.many (x.a.p.cls i)/\x.a.p.tk i j = true/\(x.k : Int) = 2 + i * 8 + j * spn (x.a.p.cls i)/\x.a.p.cls i = x.c
noncomputable def fV.lst (x : fV) (kind : Int) : dF := .ro (.av [i64 kind,.lit (.string x.key),.lit (.string x.v),boo false,.lit (.string x.old.key),u64 x.old.id,u64 x.old.ver,i64 x.old.line,i64 x.old.cls,i64 x.k,i64 x.c])
noncomputable def yC (z : Bool) : jw := og fV (fun x => [.ptr 0 0,i64 x.t,u64 x.e,.sl 1 0 1 1]) 2 (fun x => [.m (bif z then x.a.osN else x.a.osP),.o (x.lst 4)]) (fun x => Hd (x.okE/\(∃ i j,x.inP i j)/\(z = true->x.a.n = 0))) (fun _ => .tup [.slW 2 0 1 1,i64 0]) 3 (fun x => [.m x.enq.osP,.o (x.lst 4),.o (.room 4 (.row 1 1 (fun _ => [.bool false]) []))])
noncomputable def Xk : Ctr := det fV (fun x => [.ptr 0 0,.sl 5 0 1 1]) 6 (fun x => [ZH (.ptr 1 0) .any .any (.ptr 2 0) (.ptr 3 0) (.ptr 4 0) .any,.abs (ownM x.a.p.os),.abs (ownM x.a.b.os),.abs (ownM tabE),.abs (ownM x.a.l.os),x.lst 4]) (fun x => Hd (x.okE/\∃ i j,x.inP i j)) (fun _ => boo true) 6 (fun x => [ZH (.ptr 1 0) .any .any (.ptr 2 0) (.ptr 3 0) (.ptr 4 0) .any,.abs (ownM x.a.p.os),.abs (ownM x.a.b.os),.abs (ownM tabE),.abs (ownM x.a.l.os),x.lst 4])
noncomputable def anY : WTbl := [(246,ctrT ofP.ctr),(247,ctrT Xi)]
noncomputable def akN (x : fV) : FuncId->uU := fun f => bif Nat.beq f 210 then (fun b _ _ => bif Nat.beq b 0 then [
 { σ := Nat,fr := fun i => [(67,i64 i)],ob := fun i => [(6,some (.abs (ownM ((x.a.c.notes x.t x.k i).os 0))))],inv := fun i => Hd (i<=x.blk.dD),meas := fun i => x.blk.dD - i }] else []) else fun _ _ _ => []
end Go.Proofs.YtenfleoejgjklaaGreat
end
section
namespace Go.Proofs.YtenfleoejgjklaaGreat
open Go SE
def anZ (a : fV) : Prop := ((4 : Int) = 4/\a.key = a.key/\a.v = a.v/\false = false/\a.old.key = a.old.key/\a.old.id = a.old.id/\a.old.ver = a.old.ver/\a.old.line = a.old.line/\a.old.cls = a.old.cls/\(a.k : Int) = (a.k : Int)/\a.c = a.c/\True)/\True
def an0 : Prop := True/\True/\0 = 0/\0 = 0/\True/\0 = 0/\True/\True/\True/\True
def ahh : Prop := True/\0 = 0/\an0
def an1 (a : fV) (b : cO) (c : oN) : Prop := ahh/\ownM a.a.p.os = ownM b.os/\ownM a.a.b.os = ownM c.b.os/\ownM tabE = ownM tabE/\ownM a.a.l.os = ownM c.l.os/\anZ a
def ahi (x : fV) : Prop :=
 ((0 : Int)<=0/\(0 : Int)<=0)/\∃ x_1 : fZ,Hd x_1.ok/\(0 = 0/\x_1.line = (x.k : Int)/\True)/\(ownM x_1.p.os = ownM x.a.p.os/\True)/\∀ y : Unit,True->True/\cP (bne (x_1.p.cls x_1.i) x.c) (∃ y_1 : Unit,True/\true = false/\ahh/\ownM x.a.p.os = ownM x_1.p.os/\ownM x.a.b.os = ownM x.a.b.os/\ownM tabE = ownM tabE/\ownM x.a.l.os = ownM x.a.l.os/\anZ x) (∃ x_2 : oN,Hd (x_2.b.ok/\x_2.l.ok/\x_2.l.n < 1099511627776)/\(0 = 0/\x_2.k = (x.k : Int)/\True)/\((True/\True/\an0)/\ownM x_2.b.os = ownM x.a.b.os/\ownM tabE = ownM tabE/\ownM x_2.l.os = ownM x.a.l.os/\True)/\(∀ y_1 : Unit,Hd (x_2.inL ∨ x_2.inB)->∃ y_2 : Unit,True/\true = false/\an1 x x_1.p x_2)/\∀ y_1 : Unit,Hd (Not x_2.inL/\Not x_2.inB)->I64 (1 : Int)/\∃ y_2 : Unit,True/\true = true/\an1 x x_1.p x_2)
theorem ahj (x : fV) : ahi x = wpF Tryz.prog anY tt (noA x) 200 6 207 (Xk.args x) (hO Xk.k (Xk.os x)) (fun v h' => eU Xk.k x v h' Xk.outs) := by kernel_rfl
end Go.Proofs.YtenfleoejgjklaaGreat
end
section
namespace Go.Proofs.YtenfleoejgjklaaGreat
open Go SE
set_option linter.unusedSimpArgs false
theorem Xl (x : fV) (hx : x.okE/\∃ i j,x.inP i j) : ahi x := by
 obtain ⟨⟨⟨_,_,hl,_⟩,hp,hb,hln,_,_,_,hL,hB⟩,i,j,h1,h2,h3,h4,h5,h6⟩ := hx
 unfold ahi
 simp only [ahh,anZ,an0,an1]
 simp only [aY,aU,aT,ay,aH,bJ,bg,aN,aJ,au,aW,aV,bK,bC,bD,bF,bM,bf,bG,aZ,dY,aG,aK,ah,aj,aA,aC,aB,aF]
 refine ⟨by decide,⟨x.a.p,i,j⟩,⟨hp,h1,h2,h3,h4⟩,h5.symm,rfl,?_⟩
 refine bH (fun h => absurd h6 (bne_iff_ne.1 h)) fun _ => ⟨⟨x.a.b,x.a.l,x.k⟩,⟨hb,hl,hln⟩,rfl,⟨rfl,rfl⟩,fun h => absurd h (not_or.2 ⟨hL,hB⟩),fun _ => ⟨by unfold I64; omega,rfl,rfl,rfl⟩⟩
theorem ZK : eY Tryz.prog anY := .cons (bT of_ok) (.cons (bT anX) .nil)
theorem an2 : bV Tryz.prog 207 Xk := dX dI mixed ZK noA 200 6 (fun _ => rfl) (fun _ => rfl) fun x hx => Eq.mp (ahj x) (Xl x (aY.1 hx))
end Go.Proofs.YtenfleoejgjklaaGreat
end
section
namespace Go.Proofs.YtenfleoejgjklaaGreat
open Go SE
noncomputable def rC : Ctr := det fV (fun _ => [.sl 0 0 1 1]) 1 (fun x => [x.lst 4]) (fun _ => Hd True) (fun _ => boo true) 1 (fun x => [x.lst 4])
noncomputable def Xm : Ctr := det fV (fun x => [.ptr 0 0,.sl 1 0 1 1,u64 x.e]) 2 (fun x => [.ro (.av [.any,.any,.any,.any,.any,.any,.any,.any,u64 x.a.id,u64 x.a.ver,.any]),x.lst 4]) (fun x => Hd x.okE) (fun _ => i64 0) 2 (fun x => [.ro (.av [.any,.any,.any,.any,.any,.any,.any,.any,u64 x.a.id,u64 x.a.ver,.any]),x.lst 4])
noncomputable def an3 : WTbl := tZ ++ [(229,ctrT alS)]
end Go.Proofs.YtenfleoejgjklaaGreat
end
section
namespace Go.Proofs.YtenfleoejgjklaaGreat
open Go SE
def akO (a : fV) : Prop := ((4 : Int) = 4/\a.key = a.key/\a.v = a.v/\false = false/\a.old.key = a.old.key/\a.old.id = a.old.id/\a.old.ver = a.old.ver/\a.old.line = a.old.line/\a.old.cls = a.old.cls/\(a.k : Int) = (a.k : Int)/\a.c = a.c/\True)/\True
def ac1 (a : fV) : Prop := (True/\True/\True/\True/\True/\True/\True/\True/\a.a.id = a.a.id/\a.a.ver = a.a.ver/\True/\True)/\akO a
def Nh (x : fV) : Prop :=
 ((0 : Int)<=0/\(0 : Int)<=0)/\I64 (1 : Int)/\∃ y : Unit,True/\true = true/\akO x
theorem Xn (x : fV) : Nh x = wpF Tryz.prog [] tt (noA x) 200 6 205 (rC.args x) (hO rC.k (rC.os x)) (fun v h' => eU rC.k x v h' rC.outs) := by kernel_rfl
def ahk (x : fV) : Prop :=
 True/\True/\((0 : Int)<=0/\(0 : Int)<=0)/\(AV.lit (Value.string x.v) = AV.lit (Value.string x.v)/\True)/\True/\∃ x_1 : dL,Hd (x_1.key.size < 1099511627776/\x_1.value.size < 1099511627776)/\((x_1.cls = x.c/\x_1.kind = 2/\x_1.id = 1/\x_1.ver = 1/\x_1.epoch = x.e/\x_1.key = ByteArray.mk #[]/\x_1.value = x.v/\True)/\True)/\True/\∀ y : Unit,True->cP (Bool.not x_1.UO) (∃ y_1 : Unit,True/\(0 : Int) = 3/\ac1 x) (cP (bne x.c x.c) (∃ y_1 : Unit,True/\(0 : Int) = 3/\ac1 x) (cP (decide (IntKind.wrap .u64 (x.a.ver + 1) > (2305843009213693952 : Int))) (I64 (1 : Int)/\∃ y_1 : Unit,True/\(0 : Int) = 10/\ac1 x) (I64 (1 : Int)/\cP (decide (IntKind.wrap .u64 (x.a.id + 1) > (2305843009213693952 : Int))) (∃ y_1 : Unit,True/\(0 : Int) = 10/\ac1 x) (∃ y_1 : Unit,True/\(0 : Int) = 0/\ac1 x))))
theorem ahl (x : fV) : ahk x = wpF Tryz.prog an3 tt (noA x) 200 6 208 (Xm.args x) (hO Xm.k (Xm.os x)) (fun v h' => eU Xm.k x v h' Xm.outs) := by kernel_rfl
end Go.Proofs.YtenfleoejgjklaaGreat
end
section
namespace Go.Proofs.YtenfleoejgjklaaGreat
open Go SE
set_option linter.unusedSimpArgs false
theorem Nj (x : fV) : Nh x := by
 unfold Nh
 simp only [akO]
 simp only [aY,aU,aT,ay,aH,bJ,bg,aN,aJ,au,aW,aV,bK,bC,bD,bF,bM,bf,bG,aZ,dY,aG,aK,ah,aj,aA,aC,aB,aF,I64]
 omega
theorem Xo (x : fV) (hx : x.okE) : ahk x := by
 obtain ⟨⟨_,_,_,_,_,hm,hv,hi,hw,_⟩,_,_,_,_,h1,h2,_⟩ := hx
 unfold ahk
 simp only [ac1,akO]
 simp only [aY,aU,aT,ay,aH,bJ,bg,aN,aJ,au,aW,aV,bK,bC,bD,bF,bM,bf,bG,aZ,dY,aG,aK,ah,aj,aA,aC,aB,aF]
 have hq : dL.may ⟨x.c,2,1,1,x.e,⟨#[]⟩,x.v⟩ := by
  obtain ⟨a,b⟩ := hm
  refine ⟨a,?_⟩
  simp only [fV.blk] at b
  rcases b with ⟨b,_⟩ | ⟨b,_⟩ | ⟨_,b1,b2,b3,_,_,b4⟩ | ⟨b,_⟩
  ·exact absurd b (by decide)
  ·exact absurd b (by decide)
  ·exact .inr (.inr (.inl ⟨rfl,rfl,b2,b3,⟨show (1 : Int)<=1 by decide,show (1 : Int)<=2305843009213693952 by decide⟩,⟨show (1 : Int)<=1 by decide,show (1 : Int)<=2305843009213693952 by decide⟩,b4⟩))
  ·exact absurd b (by decide)
 have w1 : IntKind.u64.wrap (x.a.ver + 1) = x.a.ver + 1 := jd (by omega) (by omega)
 have w2 : IntKind.u64.wrap (x.a.id + 1) = x.a.id + 1 := jd (by omega) (by omega)
 rw [w1,w2]
 refine ⟨by decide,⟨x.c,2,1,1,x.e,⟨#[]⟩,x.v⟩,⟨by show 0 < 1099511627776; decide,hv⟩,⟨rfl,rfl,rfl,rfl,rfl,rfl,rfl⟩,?_⟩
 rw [yw.2 hq,Bool.not_true,iH,bne_self_eq_false,iH]
 exact bH (fun h => absurd (aQ h) (by omega)) fun _ => ⟨by unfold I64; omega,bH (fun h => absurd (aQ h) (by omega)) fun _ => trivial⟩
theorem ZL : eY Tryz.prog an3 := .append eX (.cons (bT alT) .nil)
theorem an4 : bV Tryz.prog 208 Xm := dX dI mixed ZL noA 200 6 (fun _ => rfl) (fun _ => rfl) fun x hx => Eq.mp (ahl x) (Xo x (aY.1 hx))
theorem SB : bV Tryz.prog 205 rC := dX dI mixed .nil noA 200 6 (fun _ => rfl) (fun _ => rfl) fun x _ => Eq.mp (Xn x) (Nj x)
end Go.Proofs.YtenfleoejgjklaaGreat
end
section
namespace Go.Proofs.YtenfleoejgjklaaGreat
open Go SE
theorem Dq {P : Program} {f : FuncId} {X : Type} {args : X->List AV} {pre : X->Prop} {ret : X->AV} (hC : bV P f (det X args 0 (fun _ => []) pre ret 0 (fun _ => []))) (x : X) (hp : pre x) (h : Heap) (ha : (args x).all kK = true) (hr : kK (ret x) = true) {K : AV->Heap->Prop} (hK : K (ret x) h) : Sp P f (args x) h K :=
 (YO h (VD hC x hp) (fun _ _ hv => hv) ha hr).mono fun _ _ hh => by obtain ⟨rfl,rfl⟩ := hh; exact hK
def ahm : WTr := fun args h K => match args with
 | [.lit (.int .i64 c)] => K (i64 (spn c)) h
 | _ => False
theorem Nk (args : List AV) (h : Heap) (K : AV->Heap->Prop) (hq : ahm args h K) : Sp Tryz.prog 113 args h K := by
 unfold ahm at hq
 split at hq
 ·exact Dq kQ _ trivial h rfl rfl hq
 ·exact hq.elim
namespace fV
def akP (x : fV) : dL := ⟨0,3,x.old.id,x.a.ver + 1,x.e,⟨#[]⟩,⟨#[]⟩⟩
def alX (x : fV) : iy := ⟨4,⟨#[]⟩,⟨#[]⟩,x.old.id,x.a.ver + 1,x.e,x.a.ver + 1⟩
def Xp (x : fV) : iw := ⟨x.old.line,x.old.cls,x.a.r.now,x.e,x.k⟩
noncomputable def deq (x : fV) : ZArn := { x.a with d := x.a.d.store x.k 0 64 x.akP.enc,c := x.a.c.notes x.t x.k 1,l := x.a.l.pop,ver := x.a.ver + 1,b := x.a.b.put x.Xp,n := x.a.n + 1,e := fun i => if i = x.a.n then x.alX else x.a.e i }
def okD (x : fV) : Prop := x.a.d.ok/\x.a.c.ok/\x.a.l.ok/\x.t < x.a.c.t/\x.k < x.a.d.n/\x.akP.may/\0<=x.a.ver/\x.a.n < 1099511627776/\x.a.d.n<=258/\x.a.p.ok/\x.a.b.ok/\x.a.r.ok/\x.a.l.n < 1099511627776/\x.a.l.n ≠ 0/\x.old = x.a.l.head/\x.a.c.now = x.e/\x.a.ver < 1152921504606846976/\x.c = 0/\x.Xp.may/\(¬ oN.inL ⟨x.a.b,x.a.l,x.k⟩)/\¬ oN.inB ⟨x.a.b,x.a.l,x.k⟩
noncomputable def ai5 (x : fV) : dF := .ro (.av [i64 5,.lit (.string x.key),.lit (.string x.v),boo true,.lit (.string x.old.key),u64 x.old.id,u64 x.old.ver,i64 x.old.line,i64 x.old.cls,i64 x.k,i64 x.c])
end fV
noncomputable def nR : Ctr := det fV (fun _ => [.sl 0 0 1 1]) 1 (fun x => [x.ai5]) (fun _ => Hd True) (fun _ => boo true) 1 (fun x => [x.ai5])
noncomputable def EW : Ctr := det fV (fun x => [.ptr 0 0,.sl 1 0 1 1,u64 x.e]) 2 (fun x => [.ro (.av [.any,.any,.any,.any,.any,.any,.any,.any,u64 x.a.id,u64 x.a.ver,.any]),x.ai5]) (fun x => Hd (x.okD/\0<=x.a.id/\x.a.id < 1152921504606846976)) (fun _ => i64 0) 2 (fun x => [.ro (.av [.any,.any,.any,.any,.any,.any,.any,.any,u64 x.a.id,u64 x.a.ver,.any]),x.ai5])
noncomputable def EX : Ctr := det fV (fun x => [.ptr 0 0,.sl 5 0 1 1]) 6 (fun x => [ZH (.ptr 1 0) .any .any (.ptr 2 0) (.ptr 3 0) (.ptr 4 0) .any,.abs (ownM x.a.p.os),.abs (ownM x.a.b.os),.abs (ownM tabE),.abs (ownM x.a.l.os),x.ai5]) (fun x => Hd (x.okD/\∃ i j,x.inP i j)) (fun _ => boo true) 6 (fun x => [ZH (.ptr 1 0) .any .any (.ptr 2 0) (.ptr 3 0) (.ptr 4 0) .any,.abs (ownM x.a.p.os),.abs (ownM x.a.b.os),.abs (ownM tabE),.abs (ownM x.a.l.os),x.ai5])
noncomputable def apY : Ctr := det dL (fun b => [b.av]) 0 (fun _ => []) (fun b => Hd (b.may/\b.key.size < 1099511627776/\b.value.size < 1099511627776/\b.cls = 0)) (fun _ => .tup [.slE 0 0 1 64 64,i64 0]) 1 (fun b => [.cells 5 (rowB b.enc 64)])
theorem an5 : bV Tryz.prog 180 apY := qj fun b hb => by
 have hb := aY.1 hb
 refine ⟨ako,agN,rfl,b,aY.2 ⟨hb.1,hb.2.1,hb.2.2.1⟩,rfl,rfl,fun v h' hh => ?_⟩
 rcases qW hh with ⟨y,h0,h1,h2⟩ | ⟨y,h0,h1,h2⟩
 ·exact fK ⟨(),trivial,h1,h2⟩
 ·exact absurd hb.2.2.2 (aY.1 h0)
noncomputable def SC : jw := og fV (fun x => [.ptr 0 0,i64 x.t,u64 x.e,.sl 1 0 1 1]) 2 (fun x => [.m x.a.osP,.o x.ai5]) (fun x => Hd (x.okD/\(∃ i j,x.inP i j)/\0<=x.a.id/\x.a.id < 1152921504606846976)) (fun _ => .tup [.slW 2 0 1 1,i64 0]) 3 (fun x => [.m x.deq.osP,.o x.ai5,.o (.room 4 (.row 1 1 (fun _ => [.bool true]) []))])
noncomputable def apZ : WTbl := tZ ++ [(113,ahm),(180,ctrT apY),(62,ctrT Ep.ctr),(64,ctrT (ach 0).ctr),(255,ctrT Zn.ctr),(154,ctrT qX.ctr),(66,ctrT agc.ctr),(67,ctrT apG.ctr),(205,ctrT nR),(207,ctrT EX),(208,ctrT EW),(204,ctrT (QV 0).ctr),(45,ctrT (MF 0).ctr)]
end Go.Proofs.YtenfleoejgjklaaGreat
end
section
namespace Go.Proofs.YtenfleoejgjklaaGreat
open Go SE
def Nl (a : fV) : Prop := (5 : Int) = 5/\a.key = a.key/\a.v = a.v/\true = true/\a.old.key = a.old.key/\a.old.id = a.old.id/\a.old.ver = a.old.ver/\a.old.line = a.old.line/\a.old.cls = a.old.cls/\(a.k : Int) = (a.k : Int)/\a.c = a.c/\True
def ac2 (a : fV) : Prop := (True/\True/\True/\True/\True/\True/\True/\True/\a.a.id = a.a.id/\a.a.ver = a.a.ver/\True/\True)/\Nl a/\True
def ZM (a : fV) (b : fV) : Prop := ((5 : Int) = 5/\a.key = b.key/\a.v = b.v/\true = true/\a.old.key = b.old.key/\a.old.id = b.old.id/\a.old.ver = b.old.ver/\a.old.line = b.old.line/\a.old.cls = b.old.cls/\(a.k : Int) = (b.k : Int)/\a.c = b.c/\True)/\True
def ZN : Prop := True/\True/\0 = 0/\0 = 0/\True/\0 = 0/\True/\True/\True/\True
def SG : Prop := True/\0 = 0/\ZN
def yD : Prop := (0 : Int)<=0/\(0 : Int)<=0
def SH : Prop := Value.slice none 0 0 = Value.slice none 0 0
def EY : Prop := ownM tabE = ownM tabE
def ahn (a : fV) (b : cO) (c : oN) : Prop := SG/\ownM a.a.p.os = ownM b.os/\ownM a.a.b.os = ownM c.b.os/\EY/\ownM a.a.l.os = ownM c.l.os/\Nl a/\True
def EZ (x : fV) : Prop :=
 yD/\I64 (1 : Int)/\∃ y : Unit,True/\true = true/\Nl x/\True
theorem SI (x : fV) : EZ x = wpF Tryz.prog [] tt (noA x) 200 6 205 (nR.args x) (hO nR.k (nR.os x)) (fun v h' => eU nR.k x v h' nR.outs) := by kernel_rfl
def Xq (x : fV) : Prop :=
 True/\True/\yD/\∃ x_1 : dL,Hd (x_1.key.size < 1099511627776/\x_1.value.size < 1099511627776)/\((x_1.cls = 0/\x_1.kind = 3/\x_1.id = 1/\x_1.ver = 1/\x_1.epoch = x.e/\x_1.key = ByteArray.mk #[]/\x_1.value = ByteArray.mk #[]/\True)/\True)/\True/\∀ y : Unit,True->cP (Bool.not x_1.UO) (∃ y_1 : Unit,True/\(0 : Int) = 3/\ac2 x) (cP (bne (0 : Int) x.c) (∃ y_1 : Unit,True/\(0 : Int) = 3/\ac2 x) (cP (decide (IntKind.wrap .u64 (x.a.ver + 1) > (2305843009213693952 : Int))) (I64 (1 : Int)/\∃ y_1 : Unit,True/\(0 : Int) = 10/\ac2 x) (I64 (1 : Int)/\cP (decide (x.a.id > (2305843009213693952 : Int))) (∃ y_1 : Unit,True/\(0 : Int) = 10/\ac2 x) (∃ y_1 : Unit,True/\(0 : Int) = 0/\ac2 x))))
theorem ac3 (x : fV) : Xq x = wpF Tryz.prog an3 tt (noA x) 200 6 208 (EW.args x) (hO EW.k (EW.os x)) (fun v h' => eU EW.k x v h' EW.outs) := by kernel_rfl
def Xr (x : fV) : Prop :=
 yD/\∃ x_1 : fZ,Hd x_1.ok/\(0 = 0/\x_1.line = (x.k : Int)/\True)/\(ownM x_1.p.os = ownM x.a.p.os/\True)/\∀ y : Unit,True->True/\cP (bne (x_1.p.cls x_1.i) x.c) (∃ y_1 : Unit,True/\true = false/\SG/\ownM x.a.p.os = ownM x_1.p.os/\ownM x.a.b.os = ownM x.a.b.os/\EY/\ownM x.a.l.os = ownM x.a.l.os/\Nl x/\True) (∃ x_2 : oN,Hd (x_2.b.ok/\x_2.l.ok/\x_2.l.n < 1099511627776)/\(0 = 0/\x_2.k = (x.k : Int)/\True)/\((True/\True/\ZN)/\ownM x_2.b.os = ownM x.a.b.os/\EY/\ownM x_2.l.os = ownM x.a.l.os/\True)/\(∀ y_1 : Unit,Hd (x_2.inL ∨ x_2.inB)->∃ y_2 : Unit,True/\true = false/\ahn x x_1.p x_2)/\∀ y_1 : Unit,Hd (Not x_2.inL/\Not x_2.inB)->I64 (1 : Int)/\∃ y_2 : Unit,True/\true = true/\ahn x x_1.p x_2)
theorem ac4 (x : fV) : Xr x = wpF Tryz.prog anY tt (noA x) 200 6 207 (EX.args x) (hO EX.k (EX.os x)) (fun v h' => eU EX.k x v h' EX.outs) := by kernel_rfl
def aho (x : fV) : Prop :=
 ∃ x_1 : ClkM,Hd x_1.ok/\(0 = 0/\True)/\(ownM (x_1.os 0) = ownM (x.a.c.os 0)/\True)/\∀ y : Unit,True->cP (decide ((x.t : Int) ≥ (x_1.t : Int))) (∃ y_1 : Unit,True/\False) (∃ x_2 : fV,Hd True/\((0 = 0/\1 = 1/\1 = 1)/\True)/\ZM x_2 x/\∀ y_1 : Unit,True->∃ x_3 : ClkM,Hd x_3.ok/\(0 = 0/\True)/\(ownM (x_3.os 0) = ownM (x_1.os 0)/\True)/\∀ y_2 : Unit,True->cP (bne x_3.now x.e) (∃ y_3 : Unit,True/\False) (yD/\∃ x_4 : ZLn,Hd x_4.ok/\(0 = 0/\True)/\(ownM x_4.os = ownM x.a.l.os/\True)/\∀ y_3 : Unit,True->cP (decide (x_4.n ≠ 0)) (cP (Bool.not (BEq.beq (ByteArray.toList x_4.head.key) (ByteArray.toList x.old.key) && (BEq.beq x_4.head.id x.old.id && (BEq.beq x_4.head.ver x.old.ver && (BEq.beq x_4.head.line x.old.line && (BEq.beq x_4.head.cls x.old.cls && true)))))) (∃ y_4 : Unit,True/\False) (I64 (1 : Int)/\∃ x_5 : fV,Hd (x_5.okD/\∃ i : Nat,∃ j : Nat,x_5.inP i j)/\(0 = 0/\(0 = 0/\1 = 1/\1 = 1)/\True)/\(SG/\ownM x_5.a.p.os = ownM x.a.p.os/\ownM x_5.a.b.os = ownM x.a.b.os/\EY/\ownM x_5.a.l.os = ownM x_4.os/\ZM x_5 x)/\∀ y_4 : Unit,True->∃ x_6 : fV,Hd (x_6.okD/\0<=x_6.a.id/\x_6.a.id < 1152921504606846976)/\(0 = 0/\(0 = 0/\1 = 1/\1 = 1)/\x_6.e = x.e/\True)/\((True/\True/\True/\True/\True/\True/\True/\True/\x_6.a.id = x.a.id/\x_6.a.ver = x.a.ver/\True/\True)/\ZM x_6 x)/\∀ y_5 : Unit,True->yD/\1002<=281474976710656/\∃ x_7 : dL,Hd (x_7.may/\x_7.key.size < 1099511627776/\x_7.value.size < 1099511627776/\x_7.cls = 0)/\((x_7.cls = 0/\x_7.kind = 3/\x_7.id = x.old.id/\x_7.ver = IntKind.wrap .u64 (x.a.ver + 1)/\x_7.epoch = x.e/\x_7.key = ByteArray.mk #[]/\x_7.value = ByteArray.mk #[]/\True)/\True)/\True/\∀ y_6 : Unit,True->(0 : Int)<=64/\(0<=64/\64<=64/\
 64<=64)/\(AV.lit (Value.int .i64 (x.k : Int)) = AV.lit (Value.int .i64 (x.k : Int))/\True)/\∃ x_8 : nK,Hd (x_8.d.ok/\x_8.k < x_8.d.n/\x_8.b.ok/\x_8.a + x_8.b.n<=64)/\(0 = 0/\(x_8.k : Int) = (x.k : Int)/\(x_8.a : Int) = 0/\(x_8.b.q = 0/\x_8.b.n = 64)/\True)/\(ownM x_8.d.os = ownM x.a.d.os/\(x_8.b.N = 64/\∀ q : Nat,q < x_8.b.N->[Value.int .u8 (x_8.b.g q)] = [Value.int .u8 (x_7.enc q)])/\True)/\∀ y_7 : Unit,True->True/\I64 ((x.k : Int) + 0)/\∃ x_9 : UM,Hd (x_9.c.ok/\x_9.t < x_9.c.t)/\(0 = 0/\(x_9.t : Int) = (x.t : Int)/\x_9.l = (x.k : Int) + 0/\True)/\(ownM (x_9.c.os 0) = ownM (x_3.os 0)/\True)/\∀ y_8 : Unit,True->True/\I64 (1 : Int)/\I64 (IntKind.wrap .u64 (x.a.ver + 1))/\(AV.lit (Value.int .i64 (x.k : Int)) = AV.lit (Value.int .i64 (x.k : Int))/\True)/\∃ BL : ZLn,Hd BL.ok/\(0 = 0/\True)/\(ownM BL.os = ownM x_5.a.l.os/\True)/\∀ y_9 : Unit,True->∃ x_11 : ZRd,Hd x_11.ok/\(0 = 0/\True)/\(ownM x_11.os = ownM x.a.r.os/\True)/\∀ aoT : Unit,True->(AV.lit (Value.int .i64 x.old.cls) = AV.lit (Value.int .i64 x.old.cls)/\AV.lit (Value.int .i64 x.old.line) = AV.lit (Value.int .i64 x.old.line)/\AV.ptr 7 0 = AV.ptr 7 0/\True)/\∃ ai6 : BD,Hd (ai6.b.ok/\ai6.x.may)/\(0 = 0/\(ai6.x.line = x.old.line/\ai6.x.cls = x.old.cls/\ai6.x.r = x_11.now/\ai6.x.d = x.e/\ai6.x.anti = (x.k : Int)/\True)/\True)/\(ownM ai6.b.os = ownM x_5.a.b.os/\True)/\∀ y_11 : Unit,True->True/\(AV.slW 11 0 7 x.a.n = AV.slW 11 0 7 x.a.n/\True)/\x.a.n = x.a.n/\
 List.all [List.take 7 [Value.int .i64 4,Value.string (ByteArray.mk #[]),Value.string (ByteArray.mk #[]),Value.int .u64 x.old.id,Value.int .u64 (IntKind.wrap .u64 (x.a.ver + 1)),Value.int .u64 x.e,Value.int .i64 (IntKind.wrap .u64 (x.a.ver + 1))]] (fun (l : List Value) => Nat.beq (List.length l) 7 && List.all l Value.oneCell') = true/\(2 * (x.a.n + 1) + 1000) * 72<=281474976710656/\True/\True/\I64 (1 : Int)/\∃ y_12 : Unit,True/\((0 = 0/\1 = 1)/\(0 : Int) = 0/\True)/\(0 = 0/\0 = 0/\0 = 0/\0 = 0/\0 = 0/\0 = 0/\0 = 0/\0 = 0/\x.a.id = x.a.id/\x.a.ver + 1 = IntKind.wrap .u64 (x.a.ver + 1)/\(0 = 0/\x.a.n + 1 = x.a.n + 1)/\True)/\Nl x/\(1 = 1/\∀ q : Nat,q < 1->[Value.bool true] = Cs.eff (fun (x_13 : Nat) => []) [(0,List.take 1 [Value.bool true])] q)/\(0 = 0/\(1 : Int) = 1/\(0 : Int) = 0/\(0 : Int) = 0/\True)/\ownM (DevM.os (x.a.d.store x.k 0 64 x.akP.enc)) = ownM (DevM.os (x_8.d.store x_8.k x_8.a x_8.b.n (fun (q : Nat) => x_8.b.g (x_8.b.q + q))))/\ownM x.a.p.os = ownM x_5.a.p.os/\ownM x.a.r.os = ownM x_11.os/\ownM (ClkM.os (x.a.c.notes x.t (x.k : Int) 1) 0) = ownM (ClkM.os (x_9.c.note x_9.t x_9.l) 0)/\ownM (iD.os (x.a.b.put x.Xp)) = ownM (iD.os (ai6.b.put ai6.x))/\EY/\(SH/\SH/\SH/\SH/\True)/\ownM x.a.l.pop.os = ownM BL.pop.os/\(x.a.n + 1 = x.a.n + List.length [List.take 7 [Value.int .i64 4,Value.string (ByteArray.mk #[]),Value.string (ByteArray.mk #[]),Value.int .u64 x.old.id,Value.int .u64 (IntKind.wrap .u64 (x.a.ver + 1)),Value.int .u64 x.e,Value.int .i64 (IntKind.wrap .u64 (x.a.ver + 1))]]/\
 ∀ q : Nat,q < x.a.n + 1->[Value.int .i64 (iy.kind (ite (q = x.a.n) x.alX (x.a.e q))),Value.string (iy.key (ite (q = x.a.n) x.alX (x.a.e q))),Value.string (iy.value (ite (q = x.a.n) x.alX (x.a.e q))),Value.int .u64 (iy.id (ite (q = x.a.n) x.alX (x.a.e q))),Value.int .u64 (iy.ver (ite (q = x.a.n) x.alX (x.a.e q))),Value.int .u64 (iy.epoch (ite (q = x.a.n) x.alX (x.a.e q))),Value.int .i64 (iy.group (ite (q = x.a.n) x.alX (x.a.e q)))] = Cs.eff (fun (i : Nat) => iy.cs (x.a.e i)) [(x.a.n,List.take 7 [Value.int .i64 4,Value.string (ByteArray.mk #[]),Value.string (ByteArray.mk #[]),Value.int .u64 x.old.id,Value.int .u64 (IntKind.wrap .u64 (x.a.ver + 1)),Value.int .u64 x.e,Value.int .i64 (IntKind.wrap .u64 (x.a.ver + 1))])] q)/\True)) (∃ y_4 : Unit,True/\False)))
theorem ahp (x : fV) : aho x = wpF Tryz.prog apZ tt (noA x) 200 6 162 (SC.args x) (hO 12 (dN 2 (SC.l x))) (fun v h' => dA 2 x v h' SC.outs) := by kernel_rfl
end Go.Proofs.YtenfleoejgjklaaGreat
end
section
namespace Go.Proofs.YtenfleoejgjklaaGreat
open Go SE
noncomputable def an6 : WTbl := tZ ++ [(113,ctrT xK),(180,ctrT ako),(62,ctrT Ep.ctr),(64,ctrT (ach 0).ctr),(254,ctrT Rw.ctr),(205,ctrT rC),(207,ctrT Xk),(208,ctrT Xm),(204,ctrT (QV 0).ctr),(45,ctrT (MF 0).ctr)]
end Go.Proofs.YtenfleoejgjklaaGreat
end
section
namespace Go.Proofs.YtenfleoejgjklaaGreat
open Go SE
def fC (a : fV) : Prop := (4 : Int) = 4/\a.key = a.key/\a.v = a.v/\false = false/\a.old.key = a.old.key/\a.old.id = a.old.id/\a.old.ver = a.old.ver/\a.old.line = a.old.line/\a.old.cls = a.old.cls/\(a.k : Int) = (a.k : Int)/\a.c = a.c/\True
def Aw (a : Int) : Prop := IntKind.wrap .u64 (a + 1) = IntKind.wrap .u64 (a + 1)
def kP (a : fV) : Prop := a.c = a.c/\(2 : Int) = 2/\Aw a.a.id/\Aw a.a.ver/\a.e = a.e/\ByteArray.mk #[] = ByteArray.mk #[]/\a.v = a.v/\True
def Jp (a : Int) : Prop := a + 1 = IntKind.wrap .u64 (a + 1)
def ZO (a : fV) (b : acs) : Prop := ownM (ZLn.os (a.a.l.push (dw.mk (ByteArray.mk #[]) (a.a.id + 1) (a.a.ver + 1) (a.k : Int) a.c))) = ownM (ZLn.os (b.l.push b.x))
def ZP (a : dw) (b : fV) : Prop := 0 = 0/\(a.key = ByteArray.mk #[]/\a.id = IntKind.wrap .u64 (b.a.id + 1)/\a.ver = IntKind.wrap .u64 (b.a.ver + 1)/\a.line = (b.k : Int)/\a.cls = b.c/\True)/\True
def oO : Prop := ownM tabE = ownM tabE
def ZQ : Prop := 1 = 1/\∀ q : Nat,q < 1->[Value.bool false] = Cs.eff (fun (BL : Nat) => []) [(0,List.take 1 [Value.bool false])] q
def ZR (a : fV) (b : Nat) : Prop := ownM (ClkM.os (a.a.c.notes a.t (a.k : Int) a.blk.dD) 0) = ownM (ClkM.os (a.a.c.notes a.t (a.k : Int) b) 0)
def Jq : Prop := 0 = 0/\(1 : Int) = 1/\(0 : Int) = 0/\(0 : Int) = 0/\True
def ZT (a : fV) (b : nK) : Prop := ownM (DevM.os (a.a.d.store a.k 0 64 a.blk.enc)) = ownM (DevM.os (b.d.store b.k b.a b.b.n (fun (q : Nat) => b.b.g (b.b.q + q))))
def E5 : Prop := Value.slice none 0 0 = Value.slice none 0 0
def qo : Prop := E5/\E5/\E5/\E5/\True
def ahq (a : fV) (b : ZArn) (c : nK) (d : Nat) : Prop := I64 (IntKind.wrap .u64 (a.a.ver + 1))/\∃ x_9 : acs,Hd x_9.l.ok/\ZP x_9.x a/\(ownM x_9.l.os = ownM b.l.os/\True)/\∀ y_8 : Unit,True->True/\(AV.slW 11 0 7 a.a.n = AV.slW 11 0 7 a.a.n/\True)/\a.a.n = a.a.n/\List.all [List.take 7 [Value.int .i64 3,Value.string (ByteArray.mk #[]),Value.string a.v,Value.int .u64 (IntKind.wrap .u64 (a.a.id + 1)),Value.int .u64 (IntKind.wrap .u64 (a.a.ver + 1)),Value.int .u64 a.e,Value.int .i64 (IntKind.wrap .u64 (a.a.ver + 1))]] (fun (l : List Value) => Nat.beq (List.length l) 7 && List.all l Value.oneCell') = true/\(2 * (a.a.n + 1) + 1000) * 72<=281474976710656/\True/\True/\I64 (1 : Int)/\∃ y_9 : Unit,True/\((0 = 0/\1 = 1)/\(0 : Int) = 0/\True)/\(0 = 0/\0 = 0/\0 = 0/\0 = 0/\0 = 0/\0 = 0/\0 = 0/\0 = 0/\Jp a.a.id/\Jp a.a.ver/\(0 = 0/\a.a.n + 1 = a.a.n + 1)/\True)/\fC a/\ZQ/\Jq/\ZT a c/\ownM a.a.p.os = ownM b.p.os/\ownM a.a.r.os = ownM a.a.r.os/\ZR a d/\ownM a.a.b.os = ownM b.b.os/\oO/\qo/\ZO a x_9/\(a.a.n + 1 = a.a.n + List.length [List.take 7 [Value.int .i64 3,Value.string (ByteArray.mk #[]),Value.string a.v,Value.int .u64 (IntKind.wrap .u64 (a.a.id + 1)),Value.int .u64 (IntKind.wrap .u64 (a.a.ver + 1)),Value.int .u64 a.e,Value.int .i64 (IntKind.wrap .u64 (a.a.ver + 1))]]/\
 ∀ q : Nat,q < a.a.n + 1->[Value.int .i64 (iy.kind (ite (q = a.a.n) a.eff (a.a.e q))),Value.string (iy.key (ite (q = a.a.n) a.eff (a.a.e q))),Value.string (iy.value (ite (q = a.a.n) a.eff (a.a.e q))),Value.int .u64 (iy.id (ite (q = a.a.n) a.eff (a.a.e q))),Value.int .u64 (iy.ver (ite (q = a.a.n) a.eff (a.a.e q))),Value.int .u64 (iy.epoch (ite (q = a.a.n) a.eff (a.a.e q))),Value.int .i64 (iy.group (ite (q = a.a.n) a.eff (a.a.e q)))] = Cs.eff (fun (i : Nat) => iy.cs (a.a.e i)) [(a.a.n,List.take 7 [Value.int .i64 3,Value.string (ByteArray.mk #[]),Value.string a.v,Value.int .u64 (IntKind.wrap .u64 (a.a.id + 1)),Value.int .u64 (IntKind.wrap .u64 (a.a.ver + 1)),Value.int .u64 a.e,Value.int .i64 (IntKind.wrap .u64 (a.a.ver + 1))])] q)/\True
def ahr (a : fV) (b : ZArn) (c : nK) (d : Nat) : Prop := I64 (IntKind.wrap .u64 (a.a.ver + 1))/\∃ x_9 : acs,Hd x_9.l.ok/\ZP x_9.x a/\(ownM x_9.l.os = ownM b.l.os/\True)/\∀ y_8 : Unit,True->True/\(AV.lit (Value.slice none 0 0) = AV.lit (Value.slice none 0 0)/\True)/\(2 * (0 + 1) + 1000) * 72<=281474976710656/\True/\True/\I64 (1 : Int)/\∃ y_9 : Unit,True/\((0 = 0/\1 = 1)/\(0 : Int) = 0/\True)/\(0 = 0/\0 = 0/\0 = 0/\0 = 0/\0 = 0/\0 = 0/\0 = 0/\0 = 0/\Jp a.a.id/\Jp a.a.ver/\(0 = 0/\a.a.n + 1 = 1)/\True)/\fC a/\ZQ/\Jq/\ZT a c/\ownM a.a.p.os = ownM b.p.os/\ownM a.a.r.os = ownM a.a.r.os/\ZR a d/\ownM a.a.b.os = ownM b.b.os/\oO/\qo/\ZO a x_9/\(a.a.n + 1 = 0 + List.length [List.take 7 [Value.int .i64 3,Value.string (ByteArray.mk #[]),Value.string a.v,Value.int .u64 (IntKind.wrap .u64 (a.a.id + 1)),Value.int .u64 (IntKind.wrap .u64 (a.a.ver + 1)),Value.int .u64 a.e,Value.int .i64 (IntKind.wrap .u64 (a.a.ver + 1))]]/\∀ q : Nat,q < a.a.n + 1->[Value.int .i64 (iy.kind (ite (q = a.a.n) a.eff (a.a.e q))),Value.string (iy.key (ite (q = a.a.n) a.eff (a.a.e q))),Value.string (iy.value (ite (q = a.a.n) a.eff (a.a.e q))),Value.int .u64 (iy.id (ite (q = a.a.n) a.eff (a.a.e q))),Value.int .u64 (iy.ver (ite (q = a.a.n) a.eff (a.a.e q))),Value.int .u64 (iy.epoch (ite (q = a.a.n) a.eff (a.a.e q))),Value.int .i64 (iy.group (ite (q = a.a.n) a.eff (a.a.e q)))] = Cs.eff (fun (BL : Nat) => []) [(0,List.take 7 [Value.int .i64 3,Value.string (ByteArray.mk #[]),Value.string a.v,Value.int .u64 (IntKind.wrap .u64 (a.a.id + 1)),Value.int .u64 (IntKind.wrap .u64 (a.a.ver + 1)),Value.int .u64 a.e,Value.int .i64 (IntKind.wrap .u64 (a.a.ver + 1))])] q)/\True
def SK (a : ZArn) : Prop := a.n = a.n/\∀ q : Nat,q < a.n->[Value.int .i64 (iy.kind (a.e q)),Value.string (iy.key (a.e q)),Value.string (iy.value (a.e q)),Value.int .u64 (iy.id (a.e q)),Value.int .u64 (iy.ver (a.e q)),Value.int .u64 (iy.epoch (a.e q)),Value.int .i64 (iy.group (a.e q))] = [Value.int .i64 (iy.kind (a.e q)),Value.string (iy.key (a.e q)),Value.string (iy.value (a.e q)),Value.int .u64 (iy.id (a.e q)),Value.int .u64 (iy.ver (a.e q)),Value.int .u64 (iy.epoch (a.e q)),Value.int .i64 (iy.group (a.e q))]
def ZU (a : nK) : Prop := ownM (DevM.os (a.d.store a.k a.a a.b.n (fun (q : Nat) => a.b.g (a.b.q + q)))) = ownM (DevM.os (a.d.store a.k a.a a.b.n (fun (q : Nat) => a.b.g (a.b.q + q))))
def SL (a : fV) (b : cO) (c : nK) : Prop := ownM a.a.r.os = ownM a.a.r.os/\ownM b.os = ownM b.os/\ZU c/\Jq/\fC a/\(0 = 0/\0 = 0/\0 = 0/\0 = 0/\0 = 0/\0 = 0/\0 = 0/\0 = 0/\Aw a.a.id/\Aw a.a.ver/\E5/\True)/\True
def SN (a : fV) (b : cO) (c : nK) : Prop := ownM a.a.r.os = ownM a.a.r.os/\ownM b.os = ownM b.os/\ZU c/\Jq/\fC a/\(0 = 0/\0 = 0/\0 = 0/\0 = 0/\0 = 0/\0 = 0/\0 = 0/\0 = 0/\Aw a.a.id/\Aw a.a.ver/\(0 = 0/\a.a.n = a.a.n)/\True)/\True
def Jr (a : fV) (b : fV) : Prop := ((4 : Int) = 4/\a.key = b.key/\a.v = b.v/\false = false/\a.old.key = b.old.key/\a.old.id = b.old.id/\a.old.ver = b.old.ver/\a.old.line = b.old.line/\a.old.cls = b.old.cls/\(a.k : Int) = (b.k : Int)/\a.c = b.c/\True)/\True
def uw (a : ClkM) : Prop := a.t = a.t/\∀ q : Nat,q < a.t->[Value.int .i64 (a.o q)] = [Value.int .i64 (a.o q)]
def Js : Prop := 1 = 1/\∀ q : Nat,q < 1->Cs.eff (fun (BL : Nat) => []) [(0,List.take 1 [Value.bool false])] q = Cs.eff (fun (BL : Nat) => []) [(0,List.take 1 [Value.bool false])] q
def Jt : Prop := 1 = 1/\∀ q : Nat,q < 1->Cs.eff (fun (x_9 : Nat) => []) [(0,List.take 1 [Value.bool false])] q = Cs.eff (fun (x_9 : Nat) => []) [(0,List.take 1 [Value.bool false])] q
def ZV (a : dL) (b : Nat) : Prop := [Value.int .u8 (a.enc b)] = [Value.int .u8 (a.enc b)]
def Ju (a : dL) : Prop := 64 * a.dD = 64 * a.dD/\∀ q : Nat,q < 64 * a.dD->ZV a q
def Jv (a : nK) (b : Nat) : Prop := 0 = 0/\(a.k : Int) = (b : Int)/\(a.a : Int) = 0/\(a.b.q = 0/\a.b.n = 64)/\True
def Jw (a : dL) : Prop := 64 = 64/\∀ q : Nat,q < 64->ZV a q
def ZW (a : fV) (b : fV) : Prop := (True/\0 = 0/\True/\True/\0 = 0/\0 = 0/\True/\0 = 0/\True/\True/\True/\True)/\ownM a.a.p.os = ownM b.a.p.os/\ownM a.a.b.os = ownM b.a.b.os/\oO/\ownM a.a.l.os = ownM b.a.l.os/\Jr a b
def Jy (a : Nat) : Prop := AV.lit (Value.int .i64 (a : Int)) = AV.lit (Value.int .i64 (a : Int))/\True
def Jz (a : fV) (b : Nat) (c : UM) : Prop := ownM (ClkM.os (a.a.c.notes a.t (a.k : Int) b) 0) = ownM (ClkM.os (c.c.note c.t c.l) 0)
def JA (a : Bys) (b : dL) : Prop := ∀ q : Nat,q < a.N->[Value.int .u8 (a.g q)] = [Value.int .u8 (b.enc q)]
def JB (a : nK) : Prop := Hd (a.d.ok/\a.k < a.d.n/\a.b.ok/\a.a + a.b.n<=64)
def ZX (a : dL) (b : fV) : Prop := (a.cls = b.c/\a.kind = 2/\a.id = IntKind.wrap .u64 (b.a.id + 1)/\a.ver = IntKind.wrap .u64 (b.a.ver + 1)/\a.epoch = b.e/\a.key = ByteArray.mk #[]/\a.value = b.v/\True)/\True
def JC (a : UM) (b : fV) (c : Nat) : Prop := 0 = 0/\(a.t : Int) = (b.t : Int)/\a.l = (b.k : Int) + (c : Int)/\True
def JF (a : ClkM) (b : fV) (c : Nat) : Prop := ownM (a.os 0) = ownM (ClkM.os (b.a.c.notes b.t (b.k : Int) c) 0)/\True
def uD (a : ZLn) : Prop := ownM a.os = ownM a.os
def JG (a : fV) (b : Nat) (c : ClkM) : Prop := ownM (ClkM.os (a.a.c.notes a.t (a.k : Int) b) 0) = ownM (c.os 0)
def ZY (a : fV) (b : fV) : Prop := (True/\True/\True/\True/\True/\True/\True/\True/\a.a.id = b.a.id/\a.a.ver = b.a.ver/\True/\True)/\Jr a b
def uF (a : iD) : Prop := ownM a.os = ownM a.os
def Az : Prop := 0 = 0/\1 = 1/\1 = 1
def JH : Prop := (0 : Int)<=0/\(0 : Int)<=0
def ahs (x : fV) : Prop :=
 ∃ x_1 : ClkM,Hd x_1.ok/\(0 = 0/\True)/\(ownM (x_1.os 0) = ownM (x.a.c.os 0)/\True)/\∀ y : Unit,True->cP (decide ((x.t : Int) ≥ (x_1.t : Int))) (∃ y_1 : Unit,True/\False) (∃ x_2 : fV,Hd True/\(Az/\True)/\Jr x_2 x/\∀ y_1 : Unit,True->∃ x_3 : ClkM,Hd x_3.ok/\(0 = 0/\True)/\(ownM (x_3.os 0) = ownM (x_1.os 0)/\True)/\∀ y_2 : Unit,True->cP (bne x_3.now x.e) (∃ y_3 : Unit,True/\False) (JH/\I64 (1 : Int)/\∃ x_4 : fV,Hd (x_4.okE/\∃ i : Nat,∃ j : Nat,x_4.inP i j)/\(0 = 0/\Az/\True)/\ZW x_4 x/\∀ y_3 : Unit,True->∃ x_5 : fV,Hd x_5.okE/\(0 = 0/\Az/\x_5.e = x.e/\True)/\ZY x_5 x/\∀ y_4 : Unit,True->JH/\1002<=281474976710656/\(AV.lit (Value.string x.v) = AV.lit (Value.string x.v)/\True)/\True/\∃ x_6 : dL,Hd (x_6.may/\x_6.key.size < 1099511627776/\x_6.value.size < 1099511627776)/\ZX x_6 x/\True/\(∀ y_5 : Unit,Hd (x_6.cls = 0)->(0 : Int)<=64/\(0<=64/\64<=64/\64<=64)/\Jy x.k/\∃ x_7 : nK,JB x_7/\Jv x_7 x.k/\(ownM x_7.d.os = ownM x.a.d.os/\(x_7.b.N = 64/\JA x_7.b x_6)/\True)/\∀ y_6 : Unit,True->True/\∃ x_8 : Int,True/\(x_8 = x.c/\True)/\True/\∀ y_7 : Unit,True->(∃ s : Nat,Hd (s<=x.blk.dD)/\True/\((s : Int) = 0/\True)/\Jw x_6/\kP x/\kP x/\kP x/\fC x/\fC x/\fC x/\Jt/\(false = false/\True)/\fC x/\fC x/\fC x/\fC x/\uw x_1/\uD x_4.a.l/\qo/\oO/\uF x_4.a.b/\JG x s x_3/\SL x x_4.a.p x_7)/\(∀ s : Nat,Hd (s<=x.blk.dD)->cP (decide ((s : Int) < spn x_8)) (I64 ((x.k : Int) + (s : Int))/\∃ x_9 : UM,Hd (x_9.c.ok/\x_9.t < x_9.c.t)/\JC x_9 x s/\JF x_9.c x s/\∀ y_8 : Unit,True->True/\I64 ((s : Int) + 1)/\∃ s_1 : Nat,Hd (s_1<=x.blk.dD)/\
 x.blk.dD - s_1 < x.blk.dD - s/\((s_1 : Int) = (s : Int) + 1/\True)/\Jw x_6/\kP x/\kP x/\kP x/\fC x/\fC x/\fC x/\Js/\(false = false/\True)/\fC x/\fC x/\fC x/\fC x/\uw x_1/\uD x_4.a.l/\qo/\oO/\uF x_4.a.b/\Jz x s_1 x_9/\SL x x_4.a.p x_7) (ahr x x_4.a x_7 s))/\True)/\∀ y_5 : Unit,Hd (x_6.cls ≠ (0 : Int))->(0 : Int)<=64/\(0<=64/\64<=64 * x_6.dD/\64 * x_6.dD<=64 * x_6.dD)/\Jy x.k/\∃ x_7 : nK,JB x_7/\Jv x_7 x.k/\(ownM x_7.d.os = ownM x.a.d.os/\(x_7.b.N = 64 * x_6.dD/\JA x_7.b x_6)/\True)/\∀ y_6 : Unit,True->True/\∃ x_8 : Int,True/\(x_8 = x.c/\True)/\True/\∀ y_7 : Unit,True->(∃ s : Nat,Hd (s<=x.blk.dD)/\True/\((s : Int) = 0/\True)/\Ju x_6/\kP x/\kP x/\kP x/\fC x/\fC x/\fC x/\Jt/\(false = false/\True)/\fC x/\fC x/\fC x/\fC x/\uw x_1/\uD x_4.a.l/\qo/\oO/\uF x_4.a.b/\JG x s x_3/\SL x x_4.a.p x_7)/\(∀ s : Nat,Hd (s<=x.blk.dD)->cP (decide ((s : Int) < spn x_8)) (I64 ((x.k : Int) + (s : Int))/\∃ x_9 : UM,Hd (x_9.c.ok/\x_9.t < x_9.c.t)/\JC x_9 x s/\JF x_9.c x s/\∀ y_8 : Unit,True->True/\I64 ((s : Int) + 1)/\∃ s_1 : Nat,Hd (s_1<=x.blk.dD)/\x.blk.dD - s_1 < x.blk.dD - s/\((s_1 : Int) = (s : Int) + 1/\True)/\Ju x_6/\kP x/\kP x/\kP x/\fC x/\fC x/\fC x/\Js/\(false = false/\True)/\fC x/\fC x/\fC x/\fC x/\uw x_1/\uD x_4.a.l/\qo/\oO/\uF x_4.a.b/\Jz x s_1 x_9/\SL x x_4.a.p x_7) (ahr x x_4.a x_7 s))/\True))
theorem aht (x : fV) : ahs x = wpF Tryz.prog an6 tt (akN x) 200 6 162 ((yC true).args x) (hO 11 (dN 2 ((yC true).l x))) (fun v h' => dA 2 x v h' (yC true).outs) := by kernel_rfl
def ahu (x : fV) : Prop :=
 ∃ x_1 : ClkM,Hd x_1.ok/\(0 = 0/\True)/\(ownM (x_1.os 0) = ownM (x.a.c.os 0)/\True)/\∀ y : Unit,True->cP (decide ((x.t : Int) ≥ (x_1.t : Int))) (∃ y_1 : Unit,True/\False) (∃ x_2 : fV,Hd True/\(Az/\True)/\Jr x_2 x/\∀ y_1 : Unit,True->∃ x_3 : ClkM,Hd x_3.ok/\(0 = 0/\True)/\(ownM (x_3.os 0) = ownM (x_1.os 0)/\True)/\∀ y_2 : Unit,True->cP (bne x_3.now x.e) (∃ y_3 : Unit,True/\False) (JH/\I64 (1 : Int)/\∃ x_4 : fV,Hd (x_4.okE/\∃ i : Nat,∃ j : Nat,x_4.inP i j)/\(0 = 0/\Az/\True)/\ZW x_4 x/\∀ y_3 : Unit,True->∃ x_5 : fV,Hd x_5.okE/\(0 = 0/\Az/\x_5.e = x.e/\True)/\ZY x_5 x/\∀ y_4 : Unit,True->JH/\1002<=281474976710656/\(AV.lit (Value.string x.v) = AV.lit (Value.string x.v)/\True)/\True/\∃ x_6 : dL,Hd (x_6.may/\x_6.key.size < 1099511627776/\x_6.value.size < 1099511627776)/\ZX x_6 x/\True/\(∀ y_5 : Unit,Hd (x_6.cls = 0)->(0 : Int)<=64/\(0<=64/\64<=64/\64<=64)/\Jy x.k/\∃ x_7 : nK,JB x_7/\Jv x_7 x.k/\(ownM x_7.d.os = ownM x.a.d.os/\(x_7.b.N = 64/\JA x_7.b x_6)/\True)/\∀ y_6 : Unit,True->True/\∃ x_8 : Int,True/\(x_8 = x.c/\True)/\True/\∀ y_7 : Unit,True->(∃ s : Nat,Hd (s<=x.blk.dD)/\True/\((s : Int) = 0/\True)/\Jw x_6/\kP x/\kP x/\kP x/\fC x/\fC x/\fC x/\Jt/\(false = false/\True)/\fC x/\fC x/\fC x/\fC x/\uw x_1/\SK x.a/\uD x_4.a.l/\qo/\oO/\uF x_4.a.b/\JG x s x_3/\SN x x_4.a.p x_7)/\(∀ s : Nat,Hd (s<=x.blk.dD)->cP (decide ((s : Int) < spn x_8)) (I64 ((x.k : Int) + (s : Int))/\∃ x_9 : UM,Hd (x_9.c.ok/\x_9.t < x_9.c.t)/\JC x_9 x s/\JF x_9.c x s/\∀ y_8 : Unit,True->True/\I64 ((s : Int) + 1)/\
 ∃ s_1 : Nat,Hd (s_1<=x.blk.dD)/\x.blk.dD - s_1 < x.blk.dD - s/\((s_1 : Int) = (s : Int) + 1/\True)/\Jw x_6/\kP x/\kP x/\kP x/\fC x/\fC x/\fC x/\Js/\(false = false/\True)/\fC x/\fC x/\fC x/\fC x/\uw x_1/\SK x.a/\uD x_4.a.l/\qo/\oO/\uF x_4.a.b/\Jz x s_1 x_9/\SN x x_4.a.p x_7) (ahq x x_4.a x_7 s))/\True)/\∀ y_5 : Unit,Hd (x_6.cls ≠ (0 : Int))->(0 : Int)<=64/\(0<=64/\64<=64 * x_6.dD/\64 * x_6.dD<=64 * x_6.dD)/\Jy x.k/\∃ x_7 : nK,JB x_7/\Jv x_7 x.k/\(ownM x_7.d.os = ownM x.a.d.os/\(x_7.b.N = 64 * x_6.dD/\JA x_7.b x_6)/\True)/\∀ y_6 : Unit,True->True/\∃ x_8 : Int,True/\(x_8 = x.c/\True)/\True/\∀ y_7 : Unit,True->(∃ s : Nat,Hd (s<=x.blk.dD)/\True/\((s : Int) = 0/\True)/\Ju x_6/\kP x/\kP x/\kP x/\fC x/\fC x/\fC x/\Jt/\(false = false/\True)/\fC x/\fC x/\fC x/\fC x/\uw x_1/\SK x.a/\uD x_4.a.l/\qo/\oO/\uF x_4.a.b/\JG x s x_3/\SN x x_4.a.p x_7)/\(∀ s : Nat,Hd (s<=x.blk.dD)->cP (decide ((s : Int) < spn x_8)) (I64 ((x.k : Int) + (s : Int))/\∃ x_9 : UM,Hd (x_9.c.ok/\x_9.t < x_9.c.t)/\JC x_9 x s/\JF x_9.c x s/\∀ y_8 : Unit,True->True/\I64 ((s : Int) + 1)/\∃ s_1 : Nat,Hd (s_1<=x.blk.dD)/\x.blk.dD - s_1 < x.blk.dD - s/\((s_1 : Int) = (s : Int) + 1/\True)/\Ju x_6/\kP x/\kP x/\kP x/\fC x/\fC x/\fC x/\Js/\(false = false/\True)/\fC x/\fC x/\fC x/\fC x/\uw x_1/\SK x.a/\uD x_4.a.l/\qo/\oO/\uF x_4.a.b/\Jz x s_1 x_9/\SN x x_4.a.p x_7) (ahq x x_4.a x_7 s))/\True))
theorem ahv (x : fV) : ahu x = wpF Tryz.prog an6 tt (akN x) 200 6 162 ((yC false).args x) (hO 12 (dN 2 ((yC false).l x))) (fun v h' => dA 2 x v h' (yC false).outs) := by kernel_rfl
end Go.Proofs.YtenfleoejgjklaaGreat
end
section
namespace Go.Proofs.YtenfleoejgjklaaGreat
open Go SE
set_option linter.unusedSimpArgs false
theorem mQ (c : ClkM) (t : Nat) (l : Int) : ∀ i,(c.notes t l i).t = c.t
 | 0 => rfl
 | i + 1 => mQ c t l i
theorem jU (c : ClkM) (t : Nat) (l : Int) : ∀ i,(c.notes t l i).now = c.now
 | 0 => rfl
 | i + 1 => jU c t l i
theorem E8 (c : ClkM) (t : Nat) (l : Int) (hc : ∀ k,0<=c.o k) : ∀ i k,0<=(c.notes t l i).o k/\(c.notes t l i).o k<=c.o k + i
 | 0,k => ⟨hc k,by show c.o k<=c.o k + ((0 : Nat) : Int); omega⟩
 | i + 1,k => by
  have ih := E8 c t l hc i k
  show 0<=(if k = t/\0<=l + i/\l + i < 258 then (c.notes t l i).o k + 1 else (c.notes t l i).o k)/\(if k = t/\0<=l + i/\l + i < 258 then (c.notes t l i).o k + 1 else (c.notes t l i).o k)<=_
  split <;> omega
theorem pV {c : ClkM} (h : c.ok) (hc : ∀ k,c.o k + 8 < 1099511627776) (t : Nat) (l : Int) {i : Nat} (hi : i<=8) : (c.notes t l i).ok := by
 have hd : ∀ i,(c.notes t l i).dur = c.dur/\(c.notes t l i).clos = c.clos := fun i => by
  induction i with
  | zero => exact ⟨rfl,rfl⟩
  | succ i ih => exact ih
 refine ⟨by rw [mQ]; exact h.1,by rw [mQ]; exact h.2.1,by rw [jU]; exact h.2.2.1,by rw [(hd i).1]; exact h.2.2.2.1,by rw [(hd i).2]; exact h.2.2.2.2.1,fun k => ?_⟩
 have h1 := E8 c t l (fun k => (h.2.2.2.2.2 k).1) i k
 have h2 := hc k
 exact ⟨h1.1,by omega⟩
theorem jA (b : dL) : b.dD<=8/\(b.dD : Int) = spn b.cls := by
 have := dP b.cls
 unfold dL.dD
 omega
theorem dw.ext5 {a b : dw} (h1 : a.key = b.key) (h2 : a.id = b.id) (h3 : a.ver = b.ver) (h4 : a.line = b.line) (h5 : a.cls = b.cls) : a = b := by
 cases a; cases b; simp_all
theorem SQ (d : DevM) (k a n : Nat) (g : Nat->Int) : d.store k a n (fun q => g (0 + q)) = d.store k a n g := by
 simp only [ay]
theorem pW {b : dL} (h : b.may) : 1<=b.dD := by
 have := dP b.cls
 have h0 := h.1
 unfold dL.dD
 omega
theorem Xt (x : fV) (hx : x.okE/\(∃ i j,x.inP i j)/\(∀ k,x.a.c.o k + 8 < 1099511627776)/\x.a.n = 0) : ahs x := by
 obtain ⟨hE,hi,hc,hn⟩ := hx
 obtain ⟨⟨o1,o2,o3,o4,o5,o6,o7,o8,o9,o10,o11⟩,e1,e2,e3,e4,e5,e6,e7,e8⟩ := id hE
 have w1 : IntKind.u64.wrap (x.a.ver + 1) = x.a.ver + 1 := jd (by omega) (by omega)
 have w2 : IntKind.u64.wrap (x.a.id + 1) = x.a.id + 1 := jd (by omega) (by omega)
 have hs8 := jA x.blk
 have hsc : (x.blk.dD : Int) = spn x.c := hs8.2
 have st : ∀ N,(⟨x.a.d,x.k,0,⟨x.blk.enc,0,64,N⟩⟩ : nK).d.store x.k 0 64 (fun q => x.blk.enc (0 + q)) = x.a.d.store x.k 0 64 x.blk.enc := fun _ => SQ _ _ _ _ _
 unfold ahs
 simp only [Az,Jr,JH,ZW,ZY,ZX,Jy,JB,Jv,JA,Jw,kP,fC,Jt,uw,uD,qo,oO,uF,JG,SL,JC,JF,Js,Jz,ahr,Ju,ZV,ZP,Jp,ZQ,Jq,ZT,ZR,ZO,ZU,Aw,E5]
 simp only [aY,aU,aT,ay,aH,bJ,bg,aN,aJ,au,aW,aV,bK,bC,bD,bF,bM,bf,bG,aZ,dY,aG,aK,ah,aj,aA,aC,aB,aF]
 refine ⟨x.a.c,o2,rfl,bH (fun h => absurd (aQ h) (by omega)) fun _ => ⟨x,⟨rfl,rfl,rfl,rfl,rfl,rfl,rfl,rfl,rfl⟩,x.a.c,o2,rfl,bH (fun h => absurd e4 (bne_iff_ne.1 h)) fun _ => ⟨by decide,by unfold I64; omega,x,⟨hE,hi⟩,⟨rfl,rfl,rfl,rfl,rfl,rfl,rfl,rfl,rfl,rfl,rfl,rfl⟩,x,hE,rfl,⟨⟨rfl,rfl⟩,rfl,rfl,rfl,rfl,rfl,rfl,rfl,rfl,rfl⟩,by decide,by decide,x.blk,⟨o6,show 0 < 1099511627776 by decide,o7⟩,⟨rfl,rfl,w2.symm,w1.symm,rfl,rfl,rfl⟩,fun h0 => ?_,fun h0 => ?_⟩⟩⟩
 ·refine ⟨by decide,⟨by decide,by decide⟩,⟨x.a.d,x.k,0,⟨x.blk.enc,0,64,64⟩⟩,⟨o1,o5,⟨aX _,show 64 < 1099511627776 by decide,qm o6⟩,aX _⟩,⟨rfl,rfl,rfl,rfl⟩,⟨rfl,rfl,fun _ _ => rfl⟩,⟨0,Nat.zero_le _,rfl,rfl⟩,fun s hs => bH (fun h => ?_) fun h => ?_⟩
  ·have h := aQ h
   exact ⟨by unfold I64; omega,⟨x.a.c.notes x.t x.k s,x.t,x.k + s⟩,⟨pV o2 hc _ _ (by omega),by show x.t < (x.a.c.notes x.t x.k s).t; rw [mQ]; exact o4⟩,⟨rfl,rfl⟩,rfl,by unfold I64; omega,s + 1,by omega,by omega,by omega,rfl⟩
  ·have h := aS h
   have hse : s = x.blk.dD := by omega
   subst hse
   rw [w1,w2]
   refine ⟨by unfold I64; omega,⟨x.a.l,⟨⟨#[]⟩,x.a.id + 1,x.a.ver + 1,x.k,x.c⟩⟩,o3,⟨rfl,rfl,rfl,rfl,rfl⟩,rfl,by decide,by unfold I64; omega,⟨rfl,rfl,by omega⟩,fun q hq => by obtain rfl : q = 0 := (by omega); rfl,(st _).symm ▸ rfl,rfl,rfl,rfl,rfl,by rw [hn]; rfl,fun q hq => by obtain rfl : q = 0 := (by omega); rw [hn]; rfl⟩
 ·refine ⟨by decide,⟨by decide,by have := pW o6; omega⟩,⟨x.a.d,x.k,0,⟨x.blk.enc,0,64,64 * x.blk.dD⟩⟩,⟨o1,o5,⟨by have := pW o6; show 0 + 64<=64 * x.blk.dD; omega,show 64 < 1099511627776 by decide,qm o6⟩,aX _⟩,⟨rfl,rfl,rfl,rfl⟩,⟨rfl,rfl,fun _ _ => rfl⟩,⟨0,Nat.zero_le _,rfl,rfl⟩,fun s hs => bH (fun h => ?_) fun h => ?_⟩
  ·have h := aQ h
   exact ⟨by unfold I64; omega,⟨x.a.c.notes x.t x.k s,x.t,x.k + s⟩,⟨pV o2 hc _ _ (by omega),by show x.t < (x.a.c.notes x.t x.k s).t; rw [mQ]; exact o4⟩,⟨rfl,rfl⟩,rfl,by unfold I64; omega,s + 1,by omega,by omega,by omega,rfl⟩
  ·have h := aS h
   have hse : s = x.blk.dD := by omega
   subst hse
   rw [w1,w2]
   refine ⟨by unfold I64; omega,⟨x.a.l,⟨⟨#[]⟩,x.a.id + 1,x.a.ver + 1,x.k,x.c⟩⟩,o3,⟨rfl,rfl,rfl,rfl,rfl⟩,rfl,by decide,by unfold I64; omega,⟨rfl,rfl,by omega⟩,fun q hq => by obtain rfl : q = 0 := (by omega); rfl,(st _).symm ▸ rfl,rfl,rfl,rfl,rfl,by rw [hn]; rfl,fun q hq => by obtain rfl : q = 0 := (by omega); rw [hn]; rfl⟩
theorem Xu (x : fV) (hx : x.okE/\(∃ i j,x.inP i j)/\(∀ k,x.a.c.o k + 8 < 1099511627776)) : ahu x := by
 obtain ⟨hE,hi,hc⟩ := hx
 obtain ⟨⟨o1,o2,o3,o4,o5,o6,o7,o8,o9,o10,o11⟩,e1,e2,e3,e4,e5,e6,e7,e8⟩ := id hE
 have w1 : IntKind.u64.wrap (x.a.ver + 1) = x.a.ver + 1 := jd (by omega) (by omega)
 have w2 : IntKind.u64.wrap (x.a.id + 1) = x.a.id + 1 := jd (by omega) (by omega)
 have hs8 := jA x.blk
 have hsc : (x.blk.dD : Int) = spn x.c := hs8.2
 have st : ∀ N,(⟨x.a.d,x.k,0,⟨x.blk.enc,0,64,N⟩⟩ : nK).d.store x.k 0 64 (fun q => x.blk.enc (0 + q)) = x.a.d.store x.k 0 64 x.blk.enc := fun _ => SQ _ _ _ _ _
 unfold ahu
 simp only [Az,Jr,JH,ZW,ZY,ZX,Jy,JB,Jv,JA,Jw,kP,fC,Jt,uw,SK,uD,qo,oO,uF,JG,SN,JC,JF,Js,Jz,ahq,Ju,ZV,ZP,Jp,ZQ,Jq,ZT,ZR,ZO,ZU,Aw,E5]
 simp only [aY,aU,aT,ay,aH,bJ,bg,aN,aJ,au,aW,aV,bK,bC,bD,bF,bM,bf,bG,aZ,dY,aG,aK,ah,aj,aA,aC,aB,aF]
 refine ⟨x.a.c,o2,rfl,bH (fun h => absurd (aQ h) (by omega)) fun _ => ⟨x,⟨rfl,rfl,rfl,rfl,rfl,rfl,rfl,rfl,rfl⟩,x.a.c,o2,rfl,bH (fun h => absurd e4 (bne_iff_ne.1 h)) fun _ => ⟨by decide,by unfold I64; omega,x,⟨hE,hi⟩,⟨rfl,rfl,rfl,rfl,rfl,rfl,rfl,rfl,rfl,rfl,rfl,rfl⟩,x,hE,rfl,⟨⟨rfl,rfl⟩,rfl,rfl,rfl,rfl,rfl,rfl,rfl,rfl,rfl⟩,by decide,by decide,x.blk,⟨o6,show 0 < 1099511627776 by decide,o7⟩,⟨rfl,rfl,w2.symm,w1.symm,rfl,rfl,rfl⟩,fun h0 => ?_,fun h0 => ?_⟩⟩⟩
 ·refine ⟨by decide,⟨by decide,by decide⟩,⟨x.a.d,x.k,0,⟨x.blk.enc,0,64,64⟩⟩,⟨o1,o5,⟨aX _,show 64 < 1099511627776 by decide,qm o6⟩,aX _⟩,⟨rfl,rfl,rfl,rfl⟩,⟨rfl,rfl,fun _ _ => rfl⟩,⟨0,Nat.zero_le _,rfl,rfl⟩,fun s hs => bH (fun h => ?_) fun h => ?_⟩
  ·have h := aQ h
   exact ⟨by unfold I64; omega,⟨x.a.c.notes x.t x.k s,x.t,x.k + s⟩,⟨pV o2 hc _ _ (by omega),by show x.t < (x.a.c.notes x.t x.k s).t; rw [mQ]; exact o4⟩,⟨rfl,rfl⟩,rfl,by unfold I64; omega,s + 1,by omega,by omega,by omega,rfl⟩
  ·have h := aS h
   have hse : s = x.blk.dD := by omega
   subst hse
   rw [w1,w2]
   refine ⟨by unfold I64; omega,⟨x.a.l,⟨⟨#[]⟩,x.a.id + 1,x.a.ver + 1,x.k,x.c⟩⟩,o3,⟨rfl,rfl,rfl,rfl,rfl⟩,rfl,by rfl,by omega,by unfold I64; omega,⟨rfl,rfl⟩,fun q hq => by obtain rfl : q = 0 := (by omega); rfl,(st _).symm ▸ rfl,rfl,rfl,rfl,rfl,rfl,fun q _ => ?_⟩
   by_cases hq : q = x.a.n
   ·rw [hq,if_pos rfl]; show _ = bif Nat.beq x.a.n x.a.n then _ else _; rw [Nat.beq_refl]; rfl
   ·rw [if_neg hq]; show _ = bif Nat.beq q x.a.n then _ else _; rw [dH,decide_eq_false hq]; rfl
 ·refine ⟨by decide,⟨by decide,by have := pW o6; omega⟩,⟨x.a.d,x.k,0,⟨x.blk.enc,0,64,64 * x.blk.dD⟩⟩,⟨o1,o5,⟨by have := pW o6; show 0 + 64<=64 * x.blk.dD; omega,show 64 < 1099511627776 by decide,qm o6⟩,aX _⟩,⟨rfl,rfl,rfl,rfl⟩,⟨rfl,rfl,fun _ _ => rfl⟩,⟨0,Nat.zero_le _,rfl,rfl⟩,fun s hs => bH (fun h => ?_) fun h => ?_⟩
  ·have h := aQ h
   exact ⟨by unfold I64; omega,⟨x.a.c.notes x.t x.k s,x.t,x.k + s⟩,⟨pV o2 hc _ _ (by omega),by show x.t < (x.a.c.notes x.t x.k s).t; rw [mQ]; exact o4⟩,⟨rfl,rfl⟩,rfl,by unfold I64; omega,s + 1,by omega,by omega,by omega,rfl⟩
  ·have h := aS h
   have hse : s = x.blk.dD := by omega
   subst hse
   rw [w1,w2]
   refine ⟨by unfold I64; omega,⟨x.a.l,⟨⟨#[]⟩,x.a.id + 1,x.a.ver + 1,x.k,x.c⟩⟩,o3,⟨rfl,rfl,rfl,rfl,rfl⟩,rfl,by rfl,by omega,by unfold I64; omega,⟨rfl,rfl⟩,fun q hq => by obtain rfl : q = 0 := (by omega); rfl,(st _).symm ▸ rfl,rfl,rfl,rfl,rfl,rfl,fun q _ => ?_⟩
   by_cases hq : q = x.a.n
   ·rw [hq,if_pos rfl]; show _ = bif Nat.beq x.a.n x.a.n then _ else _; rw [Nat.beq_refl]; rfl
   ·rw [if_neg hq]; show _ = bif Nat.beq q x.a.n then _ else _; rw [dH,decide_eq_false hq]; rfl
noncomputable def enqC (z : Bool) : jw := og fV (yC z).args 2 (yC z).l (fun x => Hd (x.okE/\(∃ i j,x.inP i j)/\(∀ k,x.a.c.o k + 8 < 1099511627776)/\(z = true->x.a.n = 0))) (fun _ => .tup [.slW 2 0 1 1,i64 0]) 3 (fun x => [.m x.enq.osP,.o (x.lst 4),.o (.room 4 (.row 1 1 (fun _ => [.bool false]) []))])
theorem Z4 : eY Tryz.prog an6 := .append eX (.cons (bT kQ) (.cons (bT agN) (.cons (bT Es) (.cons (bT Zf) (.cons (bT WL) (.cons (bT SB) (.cons (bT an2) (.cons (bT an4) (.cons (bT Df) (.cons (bT xX) .nil))))))))))
theorem an7 : bV Tryz.prog 162 (enqC true).ctr := dJ dI mixed Z4 11 akN 200 6 (fun _ => ⟨rfl,rfl,rfl,rfl⟩) fun x hx => Eq.mp (aht x) (Xt x (by have h := aY.1 hx; exact ⟨h.1,h.2.1,h.2.2.1,h.2.2.2 rfl⟩))
theorem an8 : bV Tryz.prog 162 (enqC false).ctr := dJ dI mixed Z4 12 akN 200 6 (fun _ => ⟨rfl,rfl,rfl,rfl⟩) fun x hx => Eq.mp (ahv x) (Xu x (by have h := aY.1 hx; exact ⟨h.1,h.2.1,h.2.2.1⟩))
end Go.Proofs.YtenfleoejgjklaaGreat
end
section
namespace Go.Proofs.YtenfleoejgjklaaGreat
open Go SE
set_option linter.unusedSimpArgs false
theorem Ho (x : fV) : EZ x := by
 unfold EZ
 simp only [yD,Nl]
 simp only [aY,aU,aT,ay,aH,bJ,bg,aN,aJ,au,aW,aV,bK,bC,bD,bF,bM,bf,bG,aZ,dY,aG,aK,ah,aj,aA,aC,aB,aF,I64]
 omega
theorem SS (x : fV) (hx : x.okD/\0<=x.a.id/\x.a.id < 1152921504606846976) : Xq x := by
 obtain ⟨⟨o1,o2,o3,o4,o5,o6,o7,o8,o9,o10,o11,o12,o13,o14,o15,o16,o17,o18,o19,o20,o21⟩,h1,h2⟩ := hx
 unfold Xq
 simp only [yD,ac2,Nl]
 simp only [aY,aU,aT,ay,aH,bJ,bg,aN,aJ,au,aW,aV,bK,bC,bD,bF,bM,bf,bG,aZ,dY,aG,aK,ah,aj,aA,aC,aB,aF]
 have w1 : IntKind.u64.wrap (x.a.ver + 1) = x.a.ver + 1 := jd (by omega) (by omega)
 have hq : dL.may ⟨0,3,1,1,x.e,⟨#[]⟩,⟨#[]⟩⟩ := by
  obtain ⟨a,b⟩ := o6
  refine ⟨a,?_⟩
  rcases b with ⟨b,_⟩ | ⟨b,_⟩ | ⟨b,_⟩ | ⟨_,b1,b2,_,_,b4⟩
  ·exact absurd (show (3 : Int) = 0 from b) (by decide)
  ·exact absurd (show (3 : Int) = 1 from b) (by decide)
  ·exact absurd (show (3 : Int) = 2 from b) (by decide)
  ·exact .inr (.inr (.inr ⟨rfl,b1,b2,⟨show (1 : Int)<=1 by decide,show (1 : Int)<=2305843009213693952 by decide⟩,⟨show (1 : Int)<=1 by decide,show (1 : Int)<=2305843009213693952 by decide⟩,b4⟩))
 rw [w1]
 refine ⟨by decide,⟨0,3,1,1,x.e,⟨#[]⟩,⟨#[]⟩⟩,⟨by show 0 < 1099511627776; decide,by show 0 < 1099511627776; decide⟩,⟨rfl,rfl,rfl,rfl,rfl,rfl,rfl⟩,?_⟩
 rw [yw.2 hq,Bool.not_true,iH,o18,bne_self_eq_false,iH]
 exact bH (fun h => absurd (aQ h) (by omega)) fun _ => ⟨by unfold I64; omega,bH (fun h => absurd (aQ h) (by omega)) fun _ => trivial⟩
theorem SV (x : fV) (hx : x.okD/\∃ i j,x.inP i j) : Xr x := by
 obtain ⟨⟨o1,o2,o3,o4,o5,o6,o7,o8,o9,o10,o11,o12,o13,o14,o15,o16,o17,o18,o19,o20,o21⟩,i,j,h1,h2,h3,h4,h5,h6⟩ := hx
 unfold Xr
 simp only [yD,SG,EY,Nl,ZN,ahn]
 simp only [aY,aU,aT,ay,aH,bJ,bg,aN,aJ,au,aW,aV,bK,bC,bD,bF,bM,bf,bG,aZ,dY,aG,aK,ah,aj,aA,aC,aB,aF]
 refine ⟨by decide,⟨x.a.p,i,j⟩,⟨o10,h1,h2,h3,h4⟩,h5.symm,rfl,?_⟩
 refine bH (fun h => absurd h6 (bne_iff_ne.1 h)) fun _ => ⟨⟨x.a.b,x.a.l,x.k⟩,⟨o11,o3,o13⟩,rfl,⟨rfl,rfl⟩,fun h => absurd h (not_or.2 ⟨o20,o21⟩),fun _ => ⟨by unfold I64; omega,rfl,rfl,rfl⟩⟩
theorem Xv (x : fV) (hx : x.okD/\(∃ i j,x.inP i j)/\0<=x.a.id/\x.a.id < 1152921504606846976) : aho x := by
 obtain ⟨hD,hi,i1,i2⟩ := hx
 obtain ⟨o1,o2,o3,o4,o5,o6,o7,o8,o9,o10,o11,o12,o13,o14,o15,o16,o17,o18,o19,o20,o21⟩ := id hD
 have w1 : IntKind.u64.wrap (x.a.ver + 1) = x.a.ver + 1 := jd (by omega) (by omega)
 have st : ∀ N,(⟨x.a.d,x.k,0,⟨x.akP.enc,0,64,N⟩⟩ : nK).d.store x.k 0 64 (fun q => x.akP.enc (0 + q)) = x.a.d.store x.k 0 64 x.akP.enc := fun _ => SQ _ _ _ _ _
 unfold aho
 simp only [ZM,yD,SG,EY,Nl,SH,ZN]
 simp only [aY,aU,aT,ay,aH,bJ,bg,aN,aJ,au,aW,aV,bK,bC,bD,bF,bM,bf,bG,aZ,dY,aG,aK,ah,aj,aA,aC,aB,aF]
 refine ⟨x.a.c,o2,rfl,bH (fun h => absurd (aQ h) (by omega)) fun _ => ⟨x,⟨rfl,rfl,rfl,rfl,rfl,rfl,rfl,rfl,rfl⟩,x.a.c,o2,rfl,bH (fun h => absurd o16 (bne_iff_ne.1 h)) fun _ => ⟨by decide,x.a.l,o3,rfl,bH (fun _ => ?_) fun h => absurd o14 (aS h)⟩⟩⟩
 rw [← o15]
 simp only [beq_self_eq_true,Bool.and_self,Bool.not_true,iH]
 refine ⟨by unfold I64; omega,x,⟨hD,hi⟩,⟨rfl,rfl,rfl,rfl,rfl,rfl,rfl,rfl,rfl,rfl,rfl,rfl⟩,x,⟨hD,i1,i2⟩,rfl,⟨⟨rfl,rfl⟩,rfl,rfl,rfl,rfl,rfl,rfl,rfl,rfl,rfl⟩,by decide,by decide,x.akP,⟨o6,show 0 < 1099511627776 by decide,show 0 < 1099511627776 by decide,rfl⟩,⟨rfl,rfl,rfl,w1.symm,rfl,rfl,rfl⟩,by decide,⟨by decide,by decide⟩,⟨x.a.d,x.k,0,⟨x.akP.enc,0,64,64⟩⟩,⟨o1,o5,⟨aX _,show 64 < 1099511627776 by decide,qm o6⟩,aX _⟩,⟨rfl,rfl,rfl,rfl⟩,⟨rfl,rfl,fun _ _ => rfl⟩,by unfold I64; omega,⟨x.a.c,x.t,x.k + 0⟩,⟨o2,o4⟩,⟨rfl,rfl⟩,rfl,by unfold I64; omega,?_⟩
 rw [w1]
 refine ⟨by unfold I64; omega,x.a.l,o3,rfl,x.a.r,o12,rfl,⟨x.a.b,x.Xp⟩,⟨o11,o19⟩,⟨rfl,rfl,rfl,rfl,rfl⟩,rfl,by rfl,by omega,by unfold I64; omega,rfl,fun q hq => by obtain rfl : q = 0 := (by omega); rfl,(st _).symm ▸ rfl,rfl,rfl,rfl,rfl,rfl,rfl,fun q _ => ?_⟩
 by_cases hq : q = x.a.n
 ·rw [hq,if_pos rfl]; show _ = bif Nat.beq x.a.n x.a.n then _ else _; rw [Nat.beq_refl]; rfl
 ·rw [if_neg hq]; show _ = bif Nat.beq q x.a.n then _ else _; rw [dH,decide_eq_false hq]; rfl
theorem JI : bV Tryz.prog 205 nR := dX dI mixed .nil noA 200 6 (fun _ => rfl) (fun _ => rfl) fun x _ => Eq.mp (SI x) (Ho x)
theorem akQ : bV Tryz.prog 208 EW := dX dI mixed ZL noA 200 6 (fun _ => rfl) (fun _ => rfl) fun x hx => Eq.mp (ac3 x) (SS x (aY.1 hx))
theorem akR : bV Tryz.prog 207 EX := dX dI mixed ZK noA 200 6 (fun _ => rfl) (fun _ => rfl) fun x hx => Eq.mp (ac4 x) (SV x (aY.1 hx))
theorem akS : eY Tryz.prog apZ := .append eX (.cons Nk (.cons (bT an5) (.cons (bT Es) (.cons (bT Zf) (.cons (bT acA) (.cons (bT pU) (.cons (bT agf) (.cons (bT apJ) (.cons (bT JI) (.cons (bT akR) (.cons (bT akQ) (.cons (bT Df) (.cons (bT xX) .nil)))))))))))))
theorem ap0 : bV Tryz.prog 162 SC.ctr := dJ dI mixed akS 12 noA 200 6 (fun _ => ⟨rfl,rfl,rfl,rfl⟩) fun x hx => Eq.mp (ahp x) (Xv x (aY.1 hx))
end Go.Proofs.YtenfleoejgjklaaGreat
end
section
namespace Go.Proofs.YtenfleoejgjklaaGreat
open Go SE
theorem Fa {a : ZArn} (h : a.n = 0) : a.os = a.osN := by unfold ZArn.os; rw [h]; rfl
theorem vH {a : ZArn} (h : a.n ≠ 0) : a.os = a.osP := by unfold ZArn.os; rw [dH,decide_eq_false h]; rfl
structure ai7 (X : Type) where
 Y : Type
 post : X->Y->Prop
 ret : X->Y->AV
 a : X->Y->ZArn
 m : Nat
 ex : X->Y->List dF
structure vI where
 X : Type
 args : X->List AV
 a : X->ZArn
 k : Nat
 ex : X->List dF
 pre : X->Prop
 outs : List (ai7 X)
noncomputable def ai7.po {X : Type} (sh : ZArn->List dF) (o : ai7 X) : ae9 X := { Y := o.Y,post := o.post,ret := o.ret,m := o.m,l := fun x y => .m (sh (o.a x y)) :: (o.ex x y).map PO.o }
noncomputable def vI.pc (C : vI) (sh : ZArn->List dF) (p : C.X->Prop) : jw := { X := C.X,args := C.args,k := C.k,l := fun x => .m (sh (C.a x)) :: (C.ex x).map PO.o,pre := fun x => C.pre x/\p x,outs := C.outs.map (ai7.po sh) }
noncomputable def vI.N (C : vI) : jw := C.pc ZArn.osN (fun x => (C.a x).n = 0)
noncomputable def vI.P (C : vI) : jw := C.pc ZArn.osP (fun x => (C.a x).n ≠ 0)
noncomputable def vI.M (C : vI) : jw := C.pc ZArn.os (fun _ => True)
theorem Xw {X : Type} {x : X} {v : AV} {h' : Heap} {sh sh' : ZArn->List dF} : ∀ {l : List (ai7 X)},(∀ o ∈ l,∀ y,o.post x y->sh (o.a x y) = sh' (o.a x y))->nX x v h' ((l.map (ai7.po sh)).map ae9.out)->nX x v h' ((l.map (ai7.po sh')).map ae9.out)
 | [],_,h => h
 | o :: l,hl,h => by
  simp only [List.map_cons] at h ⊢
  rw [jF] at h ⊢
  rcases h with ⟨y,h1,h2,h3⟩ | h
  ·refine .inl ⟨y,h1,h2,?_⟩
   rw [h3]
   have := hl o (by simp) y h1
   simp only [ae9.out,ai7.po,this]
  ·exact .inr (Xw (fun p hp => hl p (List.mem_cons_of_mem _ hp)) h)
theorem glue {P : Program} {f : FuncId} {C : vI} (hn : ∀ x,C.pre x->∀ o ∈ C.outs,∀ y,o.post x y->(o.a x y).n = (C.a x).n) (hN : bV P f C.N.ctr) (hP : bV P f C.P.ctr) : bV P f C.M.ctr := qj fun x hx => by
 by_cases hz : (C.a x).n = 0
 ·refine ⟨_,hN,rfl,x,⟨hx.1,hz⟩,rfl,?_,fun v h' hh => ?_⟩
  ·simp only [vI.N,vI.M,vI.pc,jw.ctr,Fa hz]
  ·refine Xw (sh := ZArn.osN) (sh' := ZArn.os) (fun o ho y hy => ?_) hh
   rw [Fa]; rw [hn x hx.1 o ho y hy]; exact hz
 ·refine ⟨_,hP,rfl,x,⟨hx.1,hz⟩,rfl,?_,fun v h' hh => ?_⟩
  ·simp only [vI.P,vI.M,vI.pc,jw.ctr,vH hz]
  ·refine Xw (sh := ZArn.osP) (sh' := ZArn.os) (fun o ho y hy => ?_) hh
   rw [vH]; rw [hn x hx.1 o ho y hy]; exact hz
theorem dM {P : Program} {T : WTr} {f : FuncId} (hT : ∀ args h K,T args h K->Sp P f args h K) {C : jw} (N : Nat)
  (hk : ∀ x,(C.l x).length = C.k/\(dN C.k (C.l x)).length = N/\(C.l x).all (PO.good C.k) = true/\gX C.k (C.args x) = true)
  (hq : ∀ x,C.pre x->T (C.args x) (hO N (dN C.k (C.l x))) (fun v h' => dA C.k x v h' C.outs)) : bV P f C.ctr := fun x hp => by
 obtain ⟨h1,h2,h3,h4⟩ := hk x
 refine ⟨by simp only [jw.ctr,List.length_map]; exact h1,?_⟩
 have hs := hT _ _ _ (hq x hp)
 rw [← h2,← h1] at hs
 refine ⟨hs.1,fun ρ T w vs hR hl => ?_⟩
 have hR0 : Rel (hOf ((C.l x).map PO.ab)) ρ T w := by rw [hOf,List.length_map,h1]; exact hR
 obtain ⟨ρ',r1,r2,r3⟩ := Rel.ae6 (by rw [h1]; exact h3) hR0
 refine (hs.2 ρ' T w vs r3 (dZ.mono r2 _ _ hl)).mono ?_
 rintro e w' ⟨ρ2,v,u,h',c1,c2,c3,c4,c5,c6,c7⟩
 obtain ⟨v0,h0,g1,g2⟩ := y5 c7
 obtain ⟨ρ3,q1,q2,q3⟩ := g1.2 ρ2 T w' u c3 c4
 refine ⟨ρ3,v0,u,h0,fun j hj => ?_,?_,q2,q3,c5,c6,g2⟩
 ·have hj' : j < C.k := hj
  have hle : C.k<=(dN C.k (C.l x)).length := by unfold dN; rw [List.length_append,gW,h1]; omega
  rw [q1 j (by rw [h1]; exact hj'),c1 j (by show j < (dN _ _).length; rw [h1]; omega),r1 j (by rw [h1]; exact hj')]
 ·have := g1.1; rw [h1] at this; exact this
noncomputable def enqG : jw := og fV (yC true).args 2 (fun x => [.m x.a.os,.o (x.lst 4)]) (fun x => Hd (x.okE/\(∃ i j,x.inP i j)/\∀ k,x.a.c.o k + 8 < 1099511627776)) (fun _ => .tup [.slW 2 0 1 1,i64 0]) 3 (fun x => [.m x.enq.os,.o (x.lst 4),.o (.room 4 (.row 1 1 (fun _ => [.bool false]) []))])
theorem an9 : bV Tryz.prog 162 enqG.ctr := vG fun x hx => by
 obtain ⟨h1,h2,h3⟩ := aY.1 hx
 have e : x.enq.os = x.enq.osP := vH (Nat.succ_ne_zero _)
 by_cases hz : x.a.n = 0
 ·exact ⟨_,_,_,_,_,_,x,an7,aY.2 ⟨h1,h2,h3,fun _ => hz⟩,rfl,by rw [Fa hz]; rfl,rfl,by rw [e]⟩
 ·exact ⟨_,_,_,_,_,_,x,an8,aY.2 ⟨h1,h2,h3,fun h => nomatch h⟩,rfl,by rw [vH hz]; rfl,rfl,by rw [e]⟩
noncomputable def deqG : jw := og fV SC.args 2 (fun x => [.m x.a.os,.o x.ai5]) (fun x => Hd (x.okD/\(∃ i j,x.inP i j)/\0<=x.a.id/\x.a.id < 1152921504606846976/\x.a.n ≠ 0)) (fun _ => .tup [.slW 2 0 1 1,i64 0]) 3 (fun x => [.m x.deq.os,.o x.ai5,.o (.room 4 (.row 1 1 (fun _ => [.bool true]) []))])
theorem aoa : bV Tryz.prog 162 deqG.ctr := vG fun x hx => by
 obtain ⟨h1,h2,h3,h4,h5⟩ := aY.1 hx
 exact ⟨_,_,_,_,_,_,x,ap0,aY.2 ⟨h1,h2,h3,h4⟩,rfl,by rw [vH h5],rfl,by rw [show x.deq.os = x.deq.osP from vH (Nat.succ_ne_zero _)]⟩
end Go.Proofs.YtenfleoejgjklaaGreat
end
section
namespace Go.Proofs.YtenfleoejgjklaaGreat
open Go SE
structure ZFr where
 key : ByteArray
 value : ByteArray
 epoch : Int
 had : Bool
 old : dw
 line : Int
 cls : Int
 piece : Int
 code : Int
 found : Bool
 ans : ByteArray
 aep : Int
namespace ZFr
def l (f : ZFr) (k ph : Int) (b : AV) : List AV := [i64 k,.lit (.string f.key),.lit (.string f.value),.lit (.string ⟨#[]⟩),fJ,i64 ph,u64 f.epoch,.lit (.string ⟨#[]⟩),boo false,i64 0,boo f.had,.lit (.string f.old.key),u64 f.old.id,u64 f.old.ver,i64 f.old.line,i64 f.old.cls,i64 f.line,i64 f.cls,i64 f.piece,b,i64 0,fJ,i64 f.code,boo f.found,.lit (.string f.ans),fJ,fJ,u64 f.aep]
def av (f : ZFr) (k ph : Int) (b : AV) : AV := .agg (f.l k ph b)
end ZFr
def JJ (g : Nat->Int) (n : Nat) : dF := .room 5 (rowB g n)
structure aob where
 k : Int
 key : ByteArray
 value : ByteArray
 to : ByteArray
 ph : Int
 ep : Int
 pos : ByteArray
 past : Bool
 lev : Int
 had : Bool
 okey : ByteArray
 oid : Int
 over : Int
 aoc : Int
 ocls : Int
 line : Int
 cls : Int
 piece : Int
 at_ : Int
 code : Int
 found : Bool
 ans : ByteArray
 aep : Int
def aob.l (x : aob) : List AV := [i64 x.k,.lit (.string x.key),.lit (.string x.value),.lit (.string x.to),fJ,i64 x.ph,u64 x.ep,.lit (.string x.pos),boo x.past,i64 x.lev,boo x.had,.lit (.string x.okey),u64 x.oid,u64 x.over,i64 x.aoc,i64 x.ocls,i64 x.line,i64 x.cls,i64 x.piece,fJ,i64 x.at_,fJ,i64 x.code,boo x.found,.lit (.string x.ans),fJ,fJ,u64 x.aep]
noncomputable def zu : Ctr := det aob (fun x => [.agg x.l]) 0 (fun _ => []) (fun _ => True) (fun x => .agg x.l) 0 (fun _ => [])
inductive Tg where
 | i | u | s | b | n
def adB : Tg->AV->Bool
 | .i,.lit (.int .i64 _) => true
 | .u,.lit (.int .u64 _) => true
 | .s,.lit (.string _) => true
 | .b,.lit (.bool _) => true
 | .n,.lit (.slice none 0 0) => true
 | _,_ => false
def shp : List Tg->List AV->Bool
 | [],[] => true
 | t :: ts,v :: vs => adB t v && shp ts vs
 | _,_ => false
def tgs : List Tg := [.i,.s,.s,.s,.n,.i,.u,.s,.b,.i,.b,.s,.u,.u,.i,.i,.i,.i,.i,.n,.i,.n,.i,.b,.s,.n,.n,.u]
theorem eG {t : Tg} {ts : List Tg} {l : List AV} (h : shp (t :: ts) l = true) : ∃ v vs,l = v :: vs/\adB t v = true/\shp ts vs = true := by
 cases l with
 | nil => simp [shp] at h
 | cons v vs => simp only [shp,aI] at h; exact ⟨v,vs,rfl,h.1,h.2⟩
theorem aod {l : List AV} (h : shp [] l = true) : l = [] := by
 cases l with
 | nil => rfl
 | cons v vs => simp [shp] at h
theorem ai8 {v : AV} (h : adB .i v = true) : ∃ z,v = i64 z := by
 unfold adB at h; split at h <;> first | contradiction | exact ⟨_,rfl⟩
theorem tg_u {v : AV} (h : adB .u v = true) : ∃ z,v = u64 z := by
 unfold adB at h; split at h <;> first | contradiction | exact ⟨_,rfl⟩
theorem aoU {v : AV} (h : adB .s v = true) : ∃ z,v = .lit (.string z) := by
 unfold adB at h; split at h <;> first | contradiction | exact ⟨_,rfl⟩
theorem tg_b {v : AV} (h : adB .b v = true) : ∃ z,v = boo z := by
 unfold adB at h; split at h <;> first | contradiction | exact ⟨_,rfl⟩
theorem ap1 {v : AV} (h : adB .n v = true) : v = fJ := by
 unfold adB at h; split at h <;> first | contradiction | rfl
theorem shp_l {l : List AV} (h : shp tgs l = true) : ∃ x : aob,l = x.l := by
 obtain ⟨v0,r0,rfl,a0,h0⟩ := eG h
 obtain ⟨v1,r1,rfl,a1,h1⟩ := eG h0
 obtain ⟨v2,r2,rfl,a2,h2⟩ := eG h1
 obtain ⟨v3,r3,rfl,a3,h3⟩ := eG h2
 obtain ⟨v4,r4,rfl,a4,h4⟩ := eG h3
 obtain ⟨v5,r5,rfl,a5,h5⟩ := eG h4
 obtain ⟨v6,r6,rfl,a6,h6⟩ := eG h5
 obtain ⟨v7,r7,rfl,a7,h7⟩ := eG h6
 obtain ⟨v8,r8,rfl,a8,h8⟩ := eG h7
 obtain ⟨v9,r9,rfl,a9,h9⟩ := eG h8
 obtain ⟨v10,r10,rfl,a10,h10⟩ := eG h9
 obtain ⟨v11,r11,rfl,a11,h11⟩ := eG h10
 obtain ⟨v12,r12,rfl,a12,h12⟩ := eG h11
 obtain ⟨v13,r13,rfl,a13,h13⟩ := eG h12
 obtain ⟨v14,r14,rfl,a14,h14⟩ := eG h13
 obtain ⟨v15,r15,rfl,a15,h15⟩ := eG h14
 obtain ⟨v16,r16,rfl,a16,h16⟩ := eG h15
 obtain ⟨v17,r17,rfl,a17,h17⟩ := eG h16
 obtain ⟨v18,r18,rfl,a18,h18⟩ := eG h17
 obtain ⟨v19,r19,rfl,a19,h19⟩ := eG h18
 obtain ⟨v20,r20,rfl,a20,h20⟩ := eG h19
 obtain ⟨v21,r21,rfl,a21,h21⟩ := eG h20
 obtain ⟨v22,r22,rfl,a22,h22⟩ := eG h21
 obtain ⟨v23,r23,rfl,a23,h23⟩ := eG h22
 obtain ⟨v24,r24,rfl,a24,h24⟩ := eG h23
 obtain ⟨v25,r25,rfl,a25,h25⟩ := eG h24
 obtain ⟨v26,r26,rfl,a26,h26⟩ := eG h25
 obtain ⟨v27,r27,rfl,a27,h27⟩ := eG h26
 obtain rfl := aod h27
 obtain ⟨z0,rfl⟩ := ai8 a0
 obtain ⟨z1,rfl⟩ := aoU a1
 obtain ⟨z2,rfl⟩ := aoU a2
 obtain ⟨z3,rfl⟩ := aoU a3
 obtain rfl := ap1 a4
 obtain ⟨z5,rfl⟩ := ai8 a5
 obtain ⟨z6,rfl⟩ := tg_u a6
 obtain ⟨z7,rfl⟩ := aoU a7
 obtain ⟨z8,rfl⟩ := tg_b a8
 obtain ⟨z9,rfl⟩ := ai8 a9
 obtain ⟨z10,rfl⟩ := tg_b a10
 obtain ⟨z11,rfl⟩ := aoU a11
 obtain ⟨z12,rfl⟩ := tg_u a12
 obtain ⟨z13,rfl⟩ := tg_u a13
 obtain ⟨z14,rfl⟩ := ai8 a14
 obtain ⟨z15,rfl⟩ := ai8 a15
 obtain ⟨z16,rfl⟩ := ai8 a16
 obtain ⟨z17,rfl⟩ := ai8 a17
 obtain ⟨z18,rfl⟩ := ai8 a18
 obtain rfl := ap1 a19
 obtain ⟨z20,rfl⟩ := ai8 a20
 obtain rfl := ap1 a21
 obtain ⟨z22,rfl⟩ := ai8 a22
 obtain ⟨z23,rfl⟩ := tg_b a23
 obtain ⟨z24,rfl⟩ := aoU a24
 obtain rfl := ap1 a25
 obtain rfl := ap1 a26
 obtain ⟨z27,rfl⟩ := tg_u a27
 exact ⟨⟨z0,z1,z2,z3,z5,z6,z7,z8,z9,z10,z11,z12,z13,z14,z15,z16,z17,z18,z20,z22,z23,z24,z27⟩,rfl⟩
end Go.Proofs.YtenfleoejgjklaaGreat
end
section
namespace Go.Proofs.YtenfleoejgjklaaGreat
open Go SE
def ac5 : Prop := Value.slice none 0 0 = Value.slice none 0 0
def Fb (x : aob) : Prop :=
 ∃ y : Unit,True/\(x.k = x.k/\x.key = x.key/\x.value = x.value/\x.to = x.to/\ac5/\x.ph = x.ph/\x.ep = x.ep/\x.pos = x.pos/\x.past = x.past/\x.lev = x.lev/\x.had = x.had/\x.okey = x.okey/\x.oid = x.oid/\x.over = x.over/\x.aoc = x.aoc/\x.ocls = x.ocls/\x.line = x.line/\x.cls = x.cls/\x.piece = x.piece/\ac5/\x.at_ = x.at_/\ac5/\x.code = x.code/\x.found = x.found/\x.ans = x.ans/\ac5/\ac5/\x.aep = x.aep/\True)/\True
theorem SX (x : aob) : Fb x = wpF Tryz.prog [] tt (noA x) 200 6 52 (zu.args x) (hO zu.k (zu.os x)) (fun v h' => eU zu.k x v h' zu.outs) := by kernel_rfl
end Go.Proofs.YtenfleoejgjklaaGreat
end
section
namespace Go.Proofs.YtenfleoejgjklaaGreat
open Go SE
set_option linter.unusedSimpArgs false
def emp : ByteArray := ⟨#[]⟩
theorem Hq (x : aob) : Fb x := by
 unfold Fb
 simp only [ac5]
 simp only [aY,aU,aT,ay,aH,bJ,bg,aN,aJ,au,aW,aV,bK,bC,bD,bF,bM,bf,bG,aZ,dY,aG,aK,ah,aj,aA,aC,aB,aF]
theorem ac6 : bV Tryz.prog 52 zu := dX dI mixed .nil noA 200 6 (fun _ => rfl) (fun _ => rfl) fun x _ => Eq.mp (SX x) (Hq x)
def noAn0 : FuncId->uU := fun _ _ _ _ => []
noncomputable def ahw : WTr := fun args h K => match args with
 | [.agg l] => bif shp tgs l then K (.agg l) h else wpF Tryz.prog [] tt noAn0 200 6 52 args h K
 | _ => False
theorem ahx (args : List AV) (h : Heap) (K : AV->Heap->Prop) (hq : ahw args h K) : Sp Tryz.prog 52 args h K := by
 unfold ahw at hq
 split at hq
 ·rename_i l
  cases hs : shp tgs l <;> rw [hs] at hq
  ·exact Eb dI mixed .nil _ _ _ _ _ _ _ hq
  ·obtain ⟨x,rfl⟩ := shp_l hs
   refine (YO h (VD ac6 x trivial) (fun _ _ hv => hv) (by rfl) (by rfl)).mono ?_
   rintro v h' ⟨rfl,rfl⟩
   exact hq
 ·exact hq.elim
def aoe : WTr := fun args h K => match args with
 | [.lit (.int .i64 c)] => K (i64 (ned c)) h
 | _ => False
theorem akT (args : List AV) (h : Heap) (K : AV->Heap->Prop) (hq : aoe args h K) : Sp Tryz.prog 201 args h K := by
 unfold aoe at hq
 split at hq
 ·exact Dq afA _ trivial h rfl rfl hq
 ·exact hq.elim
structure ZEn where
 r : ZRd
 c : ClkM
 t : Nat
 f : ZFr
def arnE : dF := ZH .any (.ptr 1 0) (.ptr 2 0) .any .any .any .any
noncomputable def qp (k : Int) : Ctr := { X := ZEn,args := fun x => [.ptr 0 0,i64 x.t,x.f.av k 0 fJ],k := 3,os := fun x => [arnE,.abs (ownM x.r.os),.abs (ownM (x.c.os 0))],pre := fun x => Hd (x.r.ok/\x.c.ok/\x.t < x.r.t/\x.r.has x.t = 0),outs := [
 { Y := Unit,post := fun x _ => Hd (k = 4/\400 < x.f.value.size),ret := fun x _ => { x.f with code := 5 }.av k 7 fJ,m := 3,os := fun x _ => [arnE,.abs (ownM x.r.os),.abs (ownM (x.c.os 0))] },
 { Y := Unit,post := fun x _ => Hd (k = 4->x.f.value.size<=400),ret := fun x _ => { x.f with epoch := x.c.now }.av k (if k = 4 then 3 else 1) fJ,m := 3,os := fun x _ => [arnE,.abs (ownM (x.r.put x.t x.r.now).os),.abs (ownM (x.c.os 0))] }] }
structure ZFi where
 l : ZLn
 t : Nat
 f : ZFr
def arnF : dF := ZH .any .any .any .any .any (.ptr 1 0) .any
noncomputable def Xx : Ctr := { X := ZFi,args := fun x => [.ptr 0 0,i64 x.t,x.f.av 5 1 fJ],k := 2,os := fun x => [arnF,.abs (ownM x.l.os)],pre := fun x => Hd (x.l.ok/\x.f.line = -1),outs := [
 { Y := Unit,post := fun x _ => Hd (x.l.n = 0),ret := fun x _ => { x.f with had := false,old := oz }.av 5 6 fJ,m := 2,os := fun x _ => [arnF,.abs (ownM x.l.os)] },
 { Y := Unit,post := fun x _ => Hd (x.l.n ≠ 0),ret := fun x _ => { x.f with had := true,old := x.l.head,piece := 0 }.av 5 2 fJ,m := 2,os := fun x _ => [arnF,.abs (ownM x.l.os)] }] }
structure ZTk where
 p : cO
 t : Nat
 f : ZFr
def arnT : dF := ZH (.ptr 1 0) .any .any .any .any .any .any
def ZTk.c (x : ZTk) (k : Int) : Int := if k = 4 then ned x.f.value.size else 0
noncomputable def BM (k : Int) : Ctr := { X := ZTk,args := fun x => [.ptr 0 0,i64 x.t,x.f.av k 3 fJ],k := 2,os := fun x => [arnT,.abs (ownM x.p.os)],pre := fun x => Hd (x.p.ok/\x.f.value.size<=400),outs := [
 { Y := Unit,post := fun x _ => Hd (∀ i,i < x.p.n->x.p.cls i ≠ -1/\x.p.full (x.c k) i),ret := fun x _ => { x.f with cls := x.c k,ans := emp,code := 4 }.av k 6 fJ,m := 2,os := fun x _ => [arnT,.abs (ownM x.p.os)] },
 { Y := Nat × Nat,post := fun x y => Hd (x.p.takes (x.c k) y.1 y.2),ret := fun x y => { x.f with cls := x.c k,line := 2 + y.1 * 8 + y.2 * spn (x.c k),piece := 0 }.av k 4 fJ,m := 2,os := fun x y => [arnT,.abs (ownM (x.p.take (x.c k) y.1 y.2).os)] }] }
structure ZLv where
 r : ZRd
 t : Nat
 f : ZFr
def arnL : dF := ZH .any (.ptr 1 0) .any .any .any .any .any
noncomputable def qw (k : Int) : Ctr := det ZLv (fun x => [.ptr 0 0,i64 x.t,x.f.av k 6 fJ]) 2 (fun x => [arnL,.abs (ownM x.r.os)]) (fun x => Hd (x.r.ok/\x.t < x.r.t)) (fun x => x.f.av k 7 fJ) 2 (fun x => [arnL,.abs (ownM (x.r.put x.t 0).os)])
def Z5 : dF := ZH .any .any .any .any .any .any (.ptr 1 0)
def Xy : dF := .ro (.av [.ptr 2 0,.any,.any,.any])
structure ZWr where
 d : DevM
 t : Nat
 f : ZFr
 ln : Nat
 c : Int
 p : Nat
def ZWr.draft (x : ZWr) : dL := ⟨x.c,0,0,0,0,⟨#[]⟩,⟨#[]⟩⟩
def ZWr.blk (x : ZWr) : dL := ⟨x.c,2,0,0,0,⟨#[]⟩,x.f.value⟩
def ZWr.ok (x : ZWr) : Prop := x.d.ok/\0<=x.c/\x.c<=3/\x.ln + spn x.c<=x.d.n/\x.p < spn x.c/\x.f.value.size<=400/\small x.d.st/\x.d.st + 10 < 1099511627776
noncomputable def ZWr.d' (x : ZWr) : DevM := if x.p = 0 then x.d.store x.ln 0 64 (x.draft.jy (fun _ => 0) (cpc x.c).toNat) else x.d.store (x.ln + x.p) 0 64 (fun q => x.blk.enc (64 * x.p + q))
def ZWr.fr (x : ZWr) (p : Int) : ZFr := { x.f with line := x.ln,cls := x.c,piece := p }
noncomputable def kR (k : Int) : Ctr := { X := ZWr,args := fun x => [.ptr 0 0,i64 x.t,(x.fr 0).av k 4 fJ],k := 3,os := fun x => [Z5,Xy,.abs (ownM x.d.os)],pre := fun x => Hd (x.ok/\x.p = 0),outs := [
 { Y := Unit,post := fun x _ => Hd (1 ≠ spn x.c),ret := fun x _ => (x.fr 1).av k 4 fJ,m := 3,os := fun x _ => [Z5,Xy,.abs (ownM x.d'.os)] },
 { Y := Unit,post := fun x _ => Hd (1 = spn x.c),ret := fun x _ => (x.fr 0).av k 5 fJ,m := 3,os := fun x _ => [Z5,Xy,.abs (ownM x.d'.os)] }] }
noncomputable def zx : Ctr := { X := ZWr,args := fun x => [.ptr 0 0,i64 x.t,(x.fr x.p).av 4 4 fJ],k := 3,os := fun x => [Z5,Xy,.abs (ownM x.d.os)],pre := fun x => Hd (x.ok/\x.p ≠ 0),outs := [
 { Y := Unit,post := fun x _ => Hd (x.p + 1 ≠ spn x.c),ret := fun x _ => (x.fr (x.p + 1)).av 4 4 fJ,m := 3,os := fun x _ => [Z5,Xy,.abs (ownM x.d'.os)] },
 { Y := Unit,post := fun x _ => Hd (x.p + 1 = spn x.c),ret := fun x _ => (x.fr 0).av 4 5 fJ,m := 3,os := fun x _ => [Z5,Xy,.abs (ownM x.d'.os)] }] }
structure ZRe where
 d : DevM
 t : Nat
 f : ZFr
 b : dL
 ln : Nat
 p : Nat
def ZRe.ok (x : ZRe) : Prop := x.d.ok/\x.b.may/\x.b.kind = 2/\x.ln + spn x.b.cls<=x.d.n/\x.p < spn x.b.cls/\∀ q,q < 64 * x.b.dD->x.d.b ((x.ln + q / 64) * 193 + q % 64) = x.b.enc q
def ZRe.fr (x : ZRe) (p : Int) : ZFr := { x.f with had := true,old := ⟨⟨#[]⟩,x.b.id,x.b.ver,x.ln,x.b.cls⟩,piece := p }
def ZRe.fr2 (x : ZRe) (p : Int) : ZFr := { x.fr p with ans := x.b.value }
noncomputable def JK : Ctr := { X := ZRe,args := fun x => [.ptr 0 0,i64 x.t,(x.fr 0).av 5 2 fJ],k := 3,os := fun x => [Z5,Xy,.abs (ownM x.d.os)],pre := fun x => Hd (x.ok/\x.p = 0),outs := [
 { Y := Unit,post := fun x _ => Hd (1 ≠ spn x.b.cls),ret := fun x _ => (x.fr 1).av 5 2 (.slW 3 0 1 64),m := 4,os := fun x _ => [Z5,Xy,.abs (ownM x.d.os),JJ x.b.enc 64] },
 { Y := Unit,post := fun x _ => Hd (1 = spn x.b.cls/\x.f.line < 0),ret := fun x _ => (x.fr2 1).av 5 3 fJ,m := 3,os := fun x _ => [Z5,Xy,.abs (ownM x.d.os)] },
 { Y := Unit,post := fun x _ => Hd (1 = spn x.b.cls/\0<=x.f.line),ret := fun x _ => (x.fr2 1).av 5 5 fJ,m := 3,os := fun x _ => [Z5,Xy,.abs (ownM x.d.os)] }] }
noncomputable def JL : Ctr := { X := ZRe,args := fun x => [.ptr 0 0,i64 x.t,(x.fr x.p).av 5 2 (.slW 3 0 1 (64 * x.p))],k := 4,os := fun x => [Z5,Xy,.abs (ownM x.d.os),JJ x.b.enc (64 * x.p)],pre := fun x => Hd (x.ok/\x.p ≠ 0),outs := [
 { Y := Unit,post := fun x _ => Hd (x.p + 1 ≠ spn x.b.cls),ret := fun x _ => (x.fr (x.p + 1)).av 5 2 (.slW 4 0 1 (64 * (x.p + 1))),m := 5,os := fun x _ => [Z5,Xy,.abs (ownM x.d.os),JJ x.b.enc (64 * x.p),JJ x.b.enc (64 * (x.p + 1))] },
 { Y := Unit,post := fun x _ => Hd (x.p + 1 = spn x.b.cls/\x.f.line < 0),ret := fun x _ => (x.fr2 (x.p + 1)).av 5 3 fJ,m := 4,os := fun x _ => [Z5,Xy,.abs (ownM x.d.os),JJ x.b.enc (64 * x.p)] },
 { Y := Unit,post := fun x _ => Hd (x.p + 1 = spn x.b.cls/\0<=x.f.line),ret := fun x _ => (x.fr2 (x.p + 1)).av 5 5 fJ,m := 4,os := fun x _ => [Z5,Xy,.abs (ownM x.d.os),JJ x.b.enc (64 * x.p)] }] }
structure ZDe where
 cls : Int
 id : Int
 ver : Int
 epoch : Int
 value : ByteArray
 g : Nat->Int
def ZDe.b (x : ZDe) : dL := ⟨x.cls,2,x.id,x.ver,x.epoch,⟨#[]⟩,x.value⟩
noncomputable def ap2 : Ctr := det ZDe (fun x => [.slW 0 0 1 (64 * x.b.dD)]) 1 (fun x => [JJ x.g (64 * x.b.dD)]) (fun x => Hd (x.b.may/\x.b.value.size < 1099511627776/\∀ k,k < 64 * x.b.dD->x.g k = x.b.enc k)) (fun x => .tup [x.b.av,boo true]) 1 (fun x => [JJ x.g (64 * x.b.dD)])
theorem aof : bV Tryz.prog 121 ap2 := qj fun x hx => by
 have hx := aY.1 hx
 refine ⟨anH,apT,rfl,⟨x.b,x.g⟩,aY.2 ⟨hx.1,show 0 < 1099511627776 by decide,hx.2.1,hx.2.2⟩,rfl,rfl,fun v h' hh => ?_⟩
 obtain ⟨u,e1,e2,e3⟩ := nO hh
 exact fK ⟨u,trivial,e2,e3⟩
noncomputable def yE : WTbl := [(52,ahw)]
noncomputable def aog : WTbl := yE ++ [(199,ctrT QT.ctr),(45,ctrT (MF 0).ctr)]
noncomputable def ap3 : WTbl := yE ++ [(154,ctrT qX.ctr)]
noncomputable def aoh : WTbl := yE ++ [(201,aoe),(202,ctrT afE.ctr)]
noncomputable def akU : WTbl := yE ++ [(113,ahm),(63,ctrT EL),(62,ctrT Ep.ctr)]
noncomputable def aoi : WTbl := yE ++ [(211,ctrT QU.ctr)]
noncomputable def aoj : WTbl := yE ++ [(113,ahm),(121,ctrT ap2),(181,ctrT afT.ctr)]
end Go.Proofs.YtenfleoejgjklaaGreat
end
