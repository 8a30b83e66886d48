import Derived.Test.YtpnhfbegboogbaaGreatQa
import Derived.Test.YtpnhfbegboogbaaGreatQb
import Derived.Test.YtpnhfbegboogbaaGreatQc
import Derived.Test.YtpnhfbegboogbaaGreatQd
import Derived.Test.YtpnhfbegboogbaaGreatQe
import Derived.KernelRfl
import Derived.Tactics
import Derived.Tactics2
import Derived.Defers
import Derived.Laws.Pointers
import Derived.Laws.LoneSync
import Derived.RegionTactic
import Derived.RegionCalls
import Derived.ChangeAlike
set_option linter.unusedVariables false
set_option linter.unusedSimpArgs false
set_option linter.unnecessarySimpa false
section
namespace Go.Proofs.YtpnhfbegboogbaaGreat
open Go SE
def AE_w60 (a : Nat) : Prop := (a : Int) = 8/\True
def AE_w38 (a : Bys) (b : ZBlk) : Prop := a.q = 0/\a.n = 64 * b.spnN
def AE_w57 (a : ZGet) (b : ZBlk) : Prop := AE_w38 a.b b/\(a.at_ : Int) = 24/\AE_w60 a.w
def AE_w9 (a : Int) (b : ZGet) : Prop := a = getG (fun (k : Nat) => b.b.g (b.b.q + k)) b.at_ b.w
def AE_w41 (a : ZBlk) (b : Nat) : Prop := isByte [Value.int .u8 (a.enc (0 + b))] = true
def AE_w44 (a : ZBlk) : Prop := ∀ k : Nat,k < 64 * a.spnN->AE_w41 a k
def AE_w10 (a : ZDec) (b : ZGet) (c : ZDat) (d : ZGet) : Prop := AE_w9 a.b.epoch b/\a.b.key = ByteArray.extract c.str 0 (Int.toNat (a.g 3))/\a.b.value = ByteArray.extract c.str (Int.toNat (a.g 3)) (Int.toNat (a.g 3 + getG (fun (k : Nat) => d.b.g (d.b.q + k)) d.at_ d.w))/\True
def AE_w7 (a : ZDec) : Prop := (64 * a.b.spnN = 64 * a.b.spnN/\∀ q : Nat,q < 64 * a.b.spnN->[Value.int .u8 (a.g q)] = [Value.int .u8 (a.g q)])/\True
def AE_w16 (a : ZGet) : Prop := Hd (a.b.ok/\a.at_ + a.w<=a.b.n/\1<=a.w/\a.w<=8)
def AE_w34 (a : ZBlk) : Prop := 0 + 64 * a.spnN<=64 * a.spnN
def AE_w22 (a : ZBlk) (b : ZDat) (c : ZDec) (d : ZGet) : Prop := a.key = ByteArray.extract b.str 0 (Int.toNat (c.g 3))/\a.value = ByteArray.extract b.str (Int.toNat (c.g 3)) (Int.toNat (c.g 3 + getG (fun (k : Nat) => d.b.g (d.b.q + k)) d.at_ d.w))/\True
def AE_w46 (a : ZBlk) : Prop := Hd (a.may/\a.key.size < 1099511627776/\a.value.size < 1099511627776)
def AE_w50 (a : ZBlk) : Prop := a.kind = 0/\a.id = 0/\a.ver = 0/\a.epoch = 0/\a.key = ByteArray.mk #[]/\a.value = ByteArray.mk #[]/\True
def AE_w3 (a : ZDec) : Prop := True/\((a.b.cls = 0/\AE_w50 a.b)/\true = false/\True)/\AE_w7 a
def AE_w21 (a : ZDec) : Prop := ∀ k : Nat,k < 64 * a.b.spnN->isByte [Value.int .u8 (a.g (0 + k))] = true
def AE_w12 (a : Bys) (b : ZDec) : Prop := (a.N = 64 * b.b.spnN/\∀ q : Nat,q < a.N->[Value.int .u8 (a.g q)] = [Value.int .u8 (b.g q)])/\True
def AE_w1 (a : ZDec) (b : ZGet) (c : ZDat) (d : ZGet) : Prop := True/\∃ x_6 : ZGet,AE_w16 x_6/\(AE_w38 x_6.b a.b/\(x_6.at_ : Int) = 16/\AE_w60 x_6.w)/\AE_w12 x_6.b a/\∀ y_5 : Unit,True->True/\∃ x_7 : ZGet,AE_w16 x_7/\AE_w57 x_7 a.b/\AE_w12 x_7.b a/\∀ y_6 : Unit,True->True/\True/\∃ x_8 : ZBlk,AE_w46 x_8/\((x_8.cls = a.g 1/\x_8.kind = a.g 2/\AE_w9 x_8.id b/\AE_w9 x_8.ver x_6/\AE_w9 x_8.epoch x_7/\AE_w22 x_8 c a d)/\True)/\True/\(∀ y_7 : Unit,Hd (x_8.cls = 0)->64<=64/\(∀ k : Nat,k < 64->AE_w41 x_8 k)/\AE_w34 a.b/\AE_w21 a/\cP (Bool.not (BEq.beq (ByteArray.toList (@ByteArray.mk (@List.toArray UInt8 (List.map (fun (k : Nat) => UInt8.ofBitVec (@BitVec.ofNat 8 (Int.toNat (x_8.enc (0 + k))))) (@List.range 64))))) (ByteArray.toList (@ByteArray.mk (@List.toArray UInt8 (List.map (fun (k : Nat) => UInt8.ofBitVec (@BitVec.ofNat 8 (Int.toNat (a.g (0 + k))))) (@List.range (64 * a.b.spnN)))))))) (∃ y_8 : Unit,AE_w3 a) (∃ y_8 : Unit,True/\((a.b.cls = a.g 1/\a.b.kind = a.g 2/\AE_w9 a.b.id b/\AE_w9 a.b.ver x_6/\AE_w10 a x_7 c d)/\true = true/\True)/\AE_w7 a))/\∀ y_7 : Unit,Hd (x_8.cls ≠ (0 : Int))->AE_w34 x_8/\AE_w44 x_8/\AE_w34 a.b/\AE_w21 a/\cP (Bool.not (BEq.beq (ByteArray.toList (@ByteArray.mk (@List.toArray UInt8 (List.map (fun (k : Nat) => UInt8.ofBitVec (@BitVec.ofNat 8 (Int.toNat (x_8.enc (0 + k))))) (@List.range (64 * x_8.spnN)))))) (ByteArray.toList (@ByteArray.mk (@List.toArray UInt8 (List.map (fun (k : Nat) => UInt8.ofBitVec (@BitVec.ofNat 8 (Int.toNat (a.g (0 + k))))) (@List.range (64 * a.b.spnN)))))))) (∃ y_8 : Unit,AE_w3 a) (∃ y_8 : Unit,True/\((a.b.cls = a.g 1/\a.b.kind = a.g 2/\AE_w9 a.b.id b/\AE_w9 a.b.ver x_6/\AE_w10 a x_7 c d)/\true = true/\True)/\AE_w7 a)
def AE_w45 (a : ZBlk) : Prop := (a.cls = a.cls/\a.kind = a.kind/\a.id = a.id/\a.ver = a.ver/\a.epoch = a.epoch/\a.key = a.key/\a.value = a.value/\True)/\True
def AE_w39 (a : ZHead) : Prop := 64 = 64/\∀ q : Nat,q < 64->[Value.int .u8 (a.b.headG (fun (k : Nat) => a.d.g (a.d.q + k)) a.d.n q)] = [Value.int .u8 (a.b.headG (fun (k : Nat) => a.d.g (a.d.q + k)) a.d.n q)]
def AE_w5 (a : ZHead) (b : Int) (c : ZBlk) : Prop := AE_w39 a/\(Int.toNat (cpc b) = Int.toNat (cpc b)/\∀ q : Nat,q < Int.toNat (cpc b)->Cs.eff (fun (p : Nat) => cond (Nat.ble 0 p && Nat.blt p (0 + ByteArray.size (c.key ++ c.value))) [Value.int .u8 (strAt (c.key ++ c.value) (p - 0))] [Value.int .u8 0]) [] q = Cs.eff (fun (p : Nat) => cond (Nat.ble 0 p && Nat.blt p (0 + ByteArray.size (c.key ++ c.value))) [Value.int .u8 (strAt (c.key ++ c.value) (p - 0))] [Value.int .u8 0]) [] q)/\AE_w45 c
def AE_w6 (a : ZHead) (b : Int) (c : ZBlk) : Prop := AE_w39 a/\(Int.toNat (cpc b) = Int.toNat (cpc b)/\∀ q : Nat,q < Int.toNat (cpc b)->Cs.eff (fun (p : Nat) => cond (Nat.ble 0 p && Nat.blt p (0 + Int.toNat (cpc b))) [Value.int .u8 (strAt (c.key ++ c.value) (p - 0))] [Value.int .u8 0]) [] q = Cs.eff (fun (p : Nat) => cond (Nat.ble 0 p && Nat.blt p (0 + Int.toNat (cpc b))) [Value.int .u8 (strAt (c.key ++ c.value) (p - 0))] [Value.int .u8 0]) [] q)/\AE_w45 c
def AE_w17 (a : ZBlk) (b : Nat) (c : Nat) : Prop := (Nat.beq (List.length (Cs.eff (fun (p : Nat) => cond (Nat.ble 0 p && Nat.blt p (0 + ByteArray.size (a.key ++ a.value))) [Value.int .u8 (strAt (a.key ++ a.value) (p - 0))] [Value.int .u8 0]) [] (28 + 63 * b + c))) 1 && List.all (Cs.eff (fun (p : Nat) => cond (Nat.ble 0 p && Nat.blt p (0 + ByteArray.size (a.key ++ a.value))) [Value.int .u8 (strAt (a.key ++ a.value) (p - 0))] [Value.int .u8 0]) [] (28 + 63 * b + c)) Value.oneCell') = true
def AE_w18 (a : ZBlk) (b : Nat) : Prop := (Nat.beq (List.length (Cs.eff (fun (p : Nat) => cond (Nat.ble 0 p && Nat.blt p (0 + ByteArray.size (a.key ++ a.value))) [Value.int .u8 (strAt (a.key ++ a.value) (p - 0))] [Value.int .u8 0]) [] (28 + b))) 1 && List.all (Cs.eff (fun (p : Nat) => cond (Nat.ble 0 p && Nat.blt p (0 + ByteArray.size (a.key ++ a.value))) [Value.int .u8 (strAt (a.key ++ a.value) (p - 0))] [Value.int .u8 0]) [] (28 + b)) Value.oneCell') = true
def AE_w19 (a : Int) (b : ZBlk) (c : Nat) (d : Nat) : Prop := (Nat.beq (List.length (Cs.eff (fun (p : Nat) => cond (Nat.ble 0 p && Nat.blt p (0 + Int.toNat (cpc a))) [Value.int .u8 (strAt (b.key ++ b.value) (p - 0))] [Value.int .u8 0]) [] (28 + 63 * c + d))) 1 && List.all (Cs.eff (fun (p : Nat) => cond (Nat.ble 0 p && Nat.blt p (0 + Int.toNat (cpc a))) [Value.int .u8 (strAt (b.key ++ b.value) (p - 0))] [Value.int .u8 0]) [] (28 + 63 * c + d)) Value.oneCell') = true
def AE_w20 (a : Int) (b : ZBlk) (c : Nat) : Prop := (Nat.beq (List.length (Cs.eff (fun (p : Nat) => cond (Nat.ble 0 p && Nat.blt p (0 + Int.toNat (cpc a))) [Value.int .u8 (strAt (b.key ++ b.value) (p - 0))] [Value.int .u8 0]) [] (28 + c))) 1 && List.all (Cs.eff (fun (p : Nat) => cond (Nat.ble 0 p && Nat.blt p (0 + Int.toNat (cpc a))) [Value.int .u8 (strAt (b.key ++ b.value) (p - 0))] [Value.int .u8 0]) [] (28 + c)) Value.oneCell') = true
def AE_w23 (a : ZBlk) (b : ZHead) : Prop := (∃ y_4 : Unit,Hd (a.cls = 0)/\((0 = 0/\64 = 64/\64 = 64)/\(0 : Int) = 0/\True)/\(64 = 64/\∀ q : Nat,q < 64->[Value.int .u8 (a.enc q)] = [Value.int .u8 (b.b.headG (fun (k : Nat) => b.d.g (b.d.q + k)) b.d.n q)])/\True) ∨ ∃ y_4 : Unit,Hd (a.cls ≠ (0 : Int))/\(False/\(0 : Int) = 0/\True)/\False/\True
def AE_w24 : Prop := (0 : Int)<=64/\(0 : Int)<=0/\(0 : Int)<=281474976710592/\(0 : Int)<=4611686018427387839
def AE_w25 (a : ZBlk) (b : Nat) : Prop := (∃ y_4 : Unit,Hd (a.cls = 0)/\(False/\(0 : Int) = 0/\True)/\False/\True) ∨ ∃ y_4 : Unit,Hd (a.cls ≠ (0 : Int))/\((0 = 0/\64 * a.spnN = 64 * (b + 1))/\(0 : Int) = 0/\True)/\(64 * a.spnN = 64 * (b + 1)/\∀ q : Nat,q < 64 * a.spnN->[Value.int .u8 (a.enc q)] = [Value.int .u8 (a.enc q)])/\True
def AE_w26 (a : ZBlk) (b : Nat) : Prop := a.capN - 28 - 63 * b<=a.capN - 28 - 63 * b
def AE_w27 (a : ZBlk) (b : ZBlk) : Prop := a.cls = b.cls/\a.kind = b.kind/\a.id = b.id/\a.ver = b.ver/\a.epoch = b.epoch/\a.key = b.key/\a.value = b.value/\True
def AE_w55 (a : Nat) (b : Nat) : Prop := 64 * (a + 1) = 64 * (b + 1) + 64
def AE_w28 (a : Nat) (b : Nat) (c : ZBlk) : Prop := (a : Int) = (b : Int) + 1/\(28 + 63 * a = 28 + 63 * b + (c.capN - 28 - 63 * b)/\c.capN - 28 - 63 * a = c.capN - 28 - 63 * b - (c.capN - 28 - 63 * b)/\c.capN - 28 - 63 * a = c.capN - 28 - 63 * b - (c.capN - 28 - 63 * b))/\(0 = 0/\AE_w55 a b)/\True
def AE_w29 (a : ZBlk) (b : Nat) : Prop := AE_w26 a b/\AE_w26 a b
def AE_w31 (a : Nat) (b : ZBlk) : Prop := Hd (1<=a/\a + 1<=b.spnN)
def AE_w33 (a : Bys) : Prop := (rowB a.g a.N = rowB a.g a.N/\true = true)/\True
def AE_w35 (a : Nat) (b : Nat) (c : ZBlk) : Prop := (a : Int) = (b : Int) + 1/\(28 + 63 * a = 28 + 63 * b + 63/\c.capN - 28 - 63 * a = c.capN - 28 - 63 * b - 63/\c.capN - 28 - 63 * a = c.capN - 28 - 63 * b - 63)/\(0 = 0/\AE_w55 a b)/\True
def AE_w36 (a : Nat) (b : ZBlk) : Prop := (a : Int) = 1/\(28 + 63 * a = 28 + (b.capN - 28)/\b.capN - 28 - 63 * a = b.capN - 28 - (b.capN - 28)/\b.capN - 28 - 63 * a = b.capN - 28 - (b.capN - 28))/\(0 = 0/\64 * (a + 1) = 128)/\True
def AE_w37 (a : ZBlk) : Prop := a.capN - 28<=a.capN - 28
def AE_w42 (a : Nat) (b : ZBlk) : Prop := (a : Int) = 1/\(28 + 63 * a = 91/\b.capN - 28 - 63 * a = b.capN - 28 - 63/\b.capN - 28 - 63 * a = b.capN - 28 - 63)/\(0 = 0/\64 * (a + 1) = 128)/\True
def AE_w43 (a : Nat) : Prop := (2 * (64 * (a + 1) + 64) + 1000) * 1<=281474976710656
def AE_w47 : Prop := (0 : Int)<=0/\(0 : Int)<=63
def AE_w48 : Prop := (2 * (64 + 64) + 1000) * 1<=281474976710656
def AE_w49 (a : ZBlk) (b : Int) : Prop := (0 : Int) = 0/\(28 = 28/\a.capN - 28 = Int.toNat (cpc b) - 28/\a.capN - 28 = Int.toNat (cpc b) - 28)/\(0 = 0/\64 = 64/\64 = 64)/\True
def AE_w51 (a : ZBlk) (b : Nat) : Prop := (Nat.beq (List.length [Value.int .u8 (strAt (a.key ++ a.value) b)]) 1 && List.all [Value.int .u8 (strAt (a.key ++ a.value) b)] Value.oneCell') = true
def AE_w54 (a : Int) : Prop := 28<=Int.toNat (cpc a)/\Int.toNat (cpc a)<=Int.toNat (cpc a)/\Int.toNat (cpc a)<=Int.toNat (cpc a)
def AE_w56 : Prop := 1<=64/\64<=64/\64<=64
def AE_w58 (a : Nat) (b : Nat) : Prop := 28 + 63 * a = 28 + 63 * b + (Int.toNat (((64 + 64 * b : Nat) : Int) + 64) - Int.toNat (((64 + 64 * b : Nat) : Int) + 1))
def AE_w59 (a : Int) : Prop := 0<=cpc a/\cpc a<=cpc a/\1 * cpc a<=281474976710656/\cpc a < 4611686018427387904
def encVC (x : ZBlk) : Prop :=
 ∃ x_1 : ZBlk,Hd (x_1.key.size < 1099511627776/\x_1.value.size < 1099511627776)/\(AE_w27 x_1 x/\True)/\True/\∀ y : Unit,True->cP (Bool.not x_1.mayB) ((∃ y_1 : Unit,Hd (x.cls = 0)/\(False/\(0 : Int) = 3/\True)/\False/\True) ∨ ∃ y_1 : Unit,Hd (x.cls ≠ (0 : Int))/\(False/\(0 : Int) = 3/\True)/\False/\True) (∃ x_2 : Int,True/\(x_2 = x.cls/\True)/\True/\∀ y_1 : Unit,True->AE_w59 x_2/\((x.key.size + x.value.size : Nat) : Int)<=9223372036854775807/\0 + Int.toNat (cpc x_2)<=Int.toNat (cpc x_2)/\cP (Nat.ble (ByteArray.size (x.key ++ x.value)) (Int.toNat (cpc x_2))) ((∀ k : Nat,k < ByteArray.size (x.key ++ x.value)->AE_w51 x k)/\∃ x_3 : ZHead,Hd x_3.ok/\(AE_w27 x_3.b x/\(x_3.d.q = 0/\x_3.d.n = Int.toNat (cpc x_2))/\True)/\((x_3.d.N = Int.toNat (cpc x_2)/\∀ q : Nat,q < x_3.d.N->[Value.int .u8 (x_3.d.g q)] = Cs.eff (fun (p : Nat) => cond (Nat.ble 0 p && Nat.blt p (0 + ByteArray.size (x.key ++ x.value))) [Value.int .u8 (strAt (x.key ++ x.value) (p - 0))] [Value.int .u8 0]) [] q)/\True)/\∀ y_2 : Unit,True->(0 : Int)<=28/\AE_w54 x_2/\∃ x_4 : Int,True/\(x_4 = x.cls/\True)/\True/\∀ y_3 : Unit,True->I64 (spn x_4 - 1)/\(∃ s : Unit,Hd True/\True/\AE_w49 x x_2/\AE_w5 x_3 x_2 x)/\(∀ s : Unit,Hd True->cP (decide (0 < spn x_4 - 1)) (AE_w24/\AE_w47/\0 < 64/\(0 : Int)<=1/\AE_w56/\64<=64/\cP (Nat.ble (x.capN - 28) 63) (28 + (x.capN - 28)<=Int.toNat (cpc x_2)/\(∀ k : Nat,k < x.capN - 28->AE_w18 x k)/\0<=((x.capN - 28 : Nat) : Int)/\(AE_w37 x/\AE_w37 x/\AE_w37 x)/\64<=64/\64<=64/\AE_w48/\I64 (1 : Int)/\∃ s_1 : Nat,AE_w31 s_1 x/\x.spnN - s_1 < x.spnN + 1/\AE_w36 s_1 x/\(64 * (s_1 + 1) = 128/\
 ∀ q : Nat,q < 64 * (s_1 + 1)->[Value.int .u8 (x.enc q)] = Cs.eff (fun (q_1 : Nat) => cond (Nat.blt q_1 64) [Value.int .u8 (x_3.b.headG (fun (k : Nat) => x_3.d.g (x_3.d.q + k)) x_3.d.n (0 + q_1))] (Cs.eff (fun (p : Nat) => cond (Nat.ble 1 p && Nat.blt p (1 + (x.capN - 28))) (Cs.eff (fun (p_1 : Nat) => cond (Nat.ble 0 p_1 && Nat.blt p_1 (0 + ByteArray.size (x.key ++ x.value))) [Value.int .u8 (strAt (x.key ++ x.value) (p_1 - 0))] [Value.int .u8 0]) [] (28 + (p - 1))) (Cs.eff (fun (x_5 : Nat) => [Value.int .u8 0]) [(0,[Value.int .u8 2])] p)) [] (0 + (q_1 - 64)))) [] q)/\AE_w5 x_3 x_2 x) (91<=Int.toNat (cpc x_2)/\(∀ k : Nat,k < 63->AE_w18 x k)/\0<=((63 : Nat) : Int)/\(63<=x.capN - 28/\AE_w37 x/\AE_w37 x)/\64<=64/\64<=64/\AE_w48/\I64 (1 : Int)/\∃ s_1 : Nat,AE_w31 s_1 x/\x.spnN - s_1 < x.spnN + 1/\AE_w42 s_1 x/\(64 * (s_1 + 1) = 128/\∀ q : Nat,q < 64 * (s_1 + 1)->[Value.int .u8 (x.enc q)] = Cs.eff (fun (q_1 : Nat) => cond (Nat.blt q_1 64) [Value.int .u8 (x_3.b.headG (fun (k : Nat) => x_3.d.g (x_3.d.q + k)) x_3.d.n (0 + q_1))] (Cs.eff (fun (p : Nat) => cond (Nat.ble 1 p && Nat.blt p 64) (Cs.eff (fun (p_1 : Nat) => cond (Nat.ble 0 p_1 && Nat.blt p_1 (0 + ByteArray.size (x.key ++ x.value))) [Value.int .u8 (strAt (x.key ++ x.value) (p_1 - 0))] [Value.int .u8 0]) [] (28 + (p - 1))) (Cs.eff (fun (x_5 : Nat) => [Value.int .u8 0]) [(0,[Value.int .u8 2])] p)) [] (0 + (q_1 - 64)))) [] q)/\AE_w5 x_3 x_2 x)) (AE_w23 x x_3))/\(∀ s : Nat,AE_w31 s x->cP (decide ((s : Int) < spn x_4 - 1)) (AE_w24/\AE_w47/\0 < 64/\(0 : Int)<=1/\AE_w56/\64<=64/\cP (Nat.ble (x.capN - 28 - 63 * s) 63) (28 + 63 * s + (x.capN - 28 - 63 * s)<=Int.toNat (cpc x_2)/\(∀ k : Nat,k < x.capN - 28 - 63 * s->AE_w17 x s k)/\0<=((x.capN - 28 - 63 * s : Nat) : Int)/\(AE_w26 x s/\
 AE_w29 x s)/\64 * (s + 1) = 64 * (s + 1)/\64<=64/\(∀ k : Nat,k < 64->(Nat.beq (List.length (Cs.eff (fun (p : Nat) => cond (Nat.ble 1 p && Nat.blt p (1 + (x.capN - 28 - 63 * s))) (Cs.eff (fun (p_1 : Nat) => cond (Nat.ble 0 p_1 && Nat.blt p_1 (0 + ByteArray.size (x.key ++ x.value))) [Value.int .u8 (strAt (x.key ++ x.value) (p_1 - 0))] [Value.int .u8 0]) [] (28 + 63 * s + (p - 1))) (Cs.eff (fun (x_5 : Nat) => [Value.int .u8 0]) [(0,[Value.int .u8 2])] p)) [] (0 + k))) 1 && List.all (Cs.eff (fun (p : Nat) => cond (Nat.ble 1 p && Nat.blt p (1 + (x.capN - 28 - 63 * s))) (Cs.eff (fun (p_1 : Nat) => cond (Nat.ble 0 p_1 && Nat.blt p_1 (0 + ByteArray.size (x.key ++ x.value))) [Value.int .u8 (strAt (x.key ++ x.value) (p_1 - 0))] [Value.int .u8 0]) [] (28 + 63 * s + (p - 1))) (Cs.eff (fun (x_5 : Nat) => [Value.int .u8 0]) [(0,[Value.int .u8 2])] p)) [] (0 + k)) Value.oneCell') = true)/\AE_w43 s/\I64 ((s : Int) + 1)/\∃ s_1 : Nat,AE_w31 s_1 x/\x.spnN - s_1 < x.spnN - s/\AE_w28 s_1 s x/\(AE_w55 s_1 s/\∀ q : Nat,q < 64 * (s_1 + 1)->[Value.int .u8 (x.enc q)] = Cs.eff (fun (q_1 : Nat) => cond (Nat.blt q_1 (64 * (s + 1))) [Value.int .u8 (x.enc q_1)] (Cs.eff (fun (p : Nat) => cond (Nat.ble 1 p && Nat.blt p (1 + (x.capN - 28 - 63 * s))) (Cs.eff (fun (p_1 : Nat) => cond (Nat.ble 0 p_1 && Nat.blt p_1 (0 + ByteArray.size (x.key ++ x.value))) [Value.int .u8 (strAt (x.key ++ x.value) (p_1 - 0))] [Value.int .u8 0]) [] (28 + 63 * s + (p - 1))) (Cs.eff (fun (x_5 : Nat) => [Value.int .u8 0]) [(0,[Value.int .u8 2])] p)) [] (0 + (q_1 - 64 * (s + 1))))) [] q)/\AE_w5 x_3 x_2 x) (28 + 63 * s + 63<=Int.toNat (cpc x_2)/\(∀ k : Nat,k < 63->AE_w17 x s k)/\0<=((63 : Nat) : Int)/\(63<=x.capN - 28 - 63 * s/\AE_w29 x s)/\64 * (s + 1) = 64 * (s + 1)/\64<=64/\
 (∀ k : Nat,k < 64->(Nat.beq (List.length (Cs.eff (fun (p : Nat) => cond (Nat.ble 1 p && Nat.blt p 64) (Cs.eff (fun (p_1 : Nat) => cond (Nat.ble 0 p_1 && Nat.blt p_1 (0 + ByteArray.size (x.key ++ x.value))) [Value.int .u8 (strAt (x.key ++ x.value) (p_1 - 0))] [Value.int .u8 0]) [] (28 + 63 * s + (p - 1))) (Cs.eff (fun (x_5 : Nat) => [Value.int .u8 0]) [(0,[Value.int .u8 2])] p)) [] (0 + k))) 1 && List.all (Cs.eff (fun (p : Nat) => cond (Nat.ble 1 p && Nat.blt p 64) (Cs.eff (fun (p_1 : Nat) => cond (Nat.ble 0 p_1 && Nat.blt p_1 (0 + ByteArray.size (x.key ++ x.value))) [Value.int .u8 (strAt (x.key ++ x.value) (p_1 - 0))] [Value.int .u8 0]) [] (28 + 63 * s + (p - 1))) (Cs.eff (fun (x_5 : Nat) => [Value.int .u8 0]) [(0,[Value.int .u8 2])] p)) [] (0 + k)) Value.oneCell') = true)/\AE_w43 s/\I64 ((s : Int) + 1)/\∃ s_1 : Nat,AE_w31 s_1 x/\x.spnN - s_1 < x.spnN - s/\AE_w35 s_1 s x/\(AE_w55 s_1 s/\∀ q : Nat,q < 64 * (s_1 + 1)->[Value.int .u8 (x.enc q)] = Cs.eff (fun (q_1 : Nat) => cond (Nat.blt q_1 (64 * (s + 1))) [Value.int .u8 (x.enc q_1)] (Cs.eff (fun (p : Nat) => cond (Nat.ble 1 p && Nat.blt p 64) (Cs.eff (fun (p_1 : Nat) => cond (Nat.ble 0 p_1 && Nat.blt p_1 (0 + ByteArray.size (x.key ++ x.value))) [Value.int .u8 (strAt (x.key ++ x.value) (p_1 - 0))] [Value.int .u8 0]) [] (28 + 63 * s + (p - 1))) (Cs.eff (fun (x_5 : Nat) => [Value.int .u8 0]) [(0,[Value.int .u8 2])] p)) [] (0 + (q_1 - 64 * (s + 1))))) [] q)/\AE_w5 x_3 x_2 x)) (AE_w25 x s))/\True) ((∀ k : Nat,k < Int.toNat (cpc x_2)->AE_w51 x k)/\∃ x_3 : ZHead,Hd x_3.ok/\(AE_w27 x_3.b x/\(x_3.d.q = 0/\x_3.d.n = Int.toNat (cpc x_2))/\True)/\((x_3.d.N = Int.toNat (cpc x_2)/\
 ∀ q : Nat,q < x_3.d.N->[Value.int .u8 (x_3.d.g q)] = Cs.eff (fun (p : Nat) => cond (Nat.ble 0 p && Nat.blt p (0 + Int.toNat (cpc x_2))) [Value.int .u8 (strAt (x.key ++ x.value) (p - 0))] [Value.int .u8 0]) [] q)/\True)/\∀ y_2 : Unit,True->(0 : Int)<=28/\AE_w54 x_2/\∃ x_4 : Int,True/\(x_4 = x.cls/\True)/\True/\∀ y_3 : Unit,True->I64 (spn x_4 - 1)/\(∃ s : Unit,Hd True/\True/\AE_w49 x x_2/\AE_w6 x_3 x_2 x)/\(∀ s : Unit,Hd True->cP (decide (0 < spn x_4 - 1)) (AE_w24/\AE_w47/\0 < 64/\(0 : Int)<=1/\AE_w56/\64<=64/\cP (Nat.ble (x.capN - 28) 63) (28 + (x.capN - 28)<=Int.toNat (cpc x_2)/\(∀ k : Nat,k < x.capN - 28->AE_w20 x_2 x k)/\0<=((x.capN - 28 : Nat) : Int)/\(AE_w37 x/\AE_w37 x/\AE_w37 x)/\64<=64/\64<=64/\AE_w48/\I64 (1 : Int)/\∃ s_1 : Nat,AE_w31 s_1 x/\x.spnN - s_1 < x.spnN + 1/\AE_w36 s_1 x/\(64 * (s_1 + 1) = 128/\∀ q : Nat,q < 64 * (s_1 + 1)->[Value.int .u8 (x.enc q)] = Cs.eff (fun (q_1 : Nat) => cond (Nat.blt q_1 64) [Value.int .u8 (x_3.b.headG (fun (k : Nat) => x_3.d.g (x_3.d.q + k)) x_3.d.n (0 + q_1))] (Cs.eff (fun (p : Nat) => cond (Nat.ble 1 p && Nat.blt p (1 + (x.capN - 28))) (Cs.eff (fun (p_1 : Nat) => cond (Nat.ble 0 p_1 && Nat.blt p_1 (0 + Int.toNat (cpc x_2))) [Value.int .u8 (strAt (x.key ++ x.value) (p_1 - 0))] [Value.int .u8 0]) [] (28 + (p - 1))) (Cs.eff (fun (x_5 : Nat) => [Value.int .u8 0]) [(0,[Value.int .u8 2])] p)) [] (0 + (q_1 - 64)))) [] q)/\AE_w6 x_3 x_2 x) (91<=Int.toNat (cpc x_2)/\(∀ k : Nat,k < 63->AE_w20 x_2 x k)/\0<=((63 : Nat) : Int)/\(63<=x.capN - 28/\AE_w37 x/\AE_w37 x)/\64<=64/\64<=64/\AE_w48/\I64 (1 : Int)/\∃ s_1 : Nat,AE_w31 s_1 x/\x.spnN - s_1 < x.spnN + 1/\AE_w42 s_1 x/\(64 * (s_1 + 1) = 128/\
 ∀ q : Nat,q < 64 * (s_1 + 1)->[Value.int .u8 (x.enc q)] = Cs.eff (fun (q_1 : Nat) => cond (Nat.blt q_1 64) [Value.int .u8 (x_3.b.headG (fun (k : Nat) => x_3.d.g (x_3.d.q + k)) x_3.d.n (0 + q_1))] (Cs.eff (fun (p : Nat) => cond (Nat.ble 1 p && Nat.blt p 64) (Cs.eff (fun (p_1 : Nat) => cond (Nat.ble 0 p_1 && Nat.blt p_1 (0 + Int.toNat (cpc x_2))) [Value.int .u8 (strAt (x.key ++ x.value) (p_1 - 0))] [Value.int .u8 0]) [] (28 + (p - 1))) (Cs.eff (fun (x_5 : Nat) => [Value.int .u8 0]) [(0,[Value.int .u8 2])] p)) [] (0 + (q_1 - 64)))) [] q)/\AE_w6 x_3 x_2 x)) (AE_w23 x x_3))/\(∀ s : Nat,AE_w31 s x->cP (decide ((s : Int) < spn x_4 - 1)) (AE_w24/\AE_w47/\0 < 64/\(0 : Int)<=1/\AE_w56/\64<=64/\cP (Nat.ble (x.capN - 28 - 63 * s) 63) (28 + 63 * s + (x.capN - 28 - 63 * s)<=Int.toNat (cpc x_2)/\(∀ k : Nat,k < x.capN - 28 - 63 * s->AE_w19 x_2 x s k)/\0<=((x.capN - 28 - 63 * s : Nat) : Int)/\(AE_w26 x s/\AE_w29 x s)/\64 * (s + 1) = 64 * (s + 1)/\64<=64/\(∀ k : Nat,k < 64->(Nat.beq (List.length (Cs.eff (fun (p : Nat) => cond (Nat.ble 1 p && Nat.blt p (1 + (x.capN - 28 - 63 * s))) (Cs.eff (fun (p_1 : Nat) => cond (Nat.ble 0 p_1 && Nat.blt p_1 (0 + Int.toNat (cpc x_2))) [Value.int .u8 (strAt (x.key ++ x.value) (p_1 - 0))] [Value.int .u8 0]) [] (28 + 63 * s + (p - 1))) (Cs.eff (fun (x_5 : Nat) => [Value.int .u8 0]) [(0,[Value.int .u8 2])] p)) [] (0 + k))) 1 && List.all (Cs.eff (fun (p : Nat) => cond (Nat.ble 1 p && Nat.blt p (1 + (x.capN - 28 - 63 * s))) (Cs.eff (fun (p_1 : Nat) => cond (Nat.ble 0 p_1 && Nat.blt p_1 (0 + Int.toNat (cpc x_2))) [Value.int .u8 (strAt (x.key ++ x.value) (p_1 - 0))] [Value.int .u8 0]) [] (28 + 63 * s + (p - 1))) (Cs.eff (fun (x_5 : Nat) => [Value.int .u8 0]) [(0,[Value.int .u8 2])] p)) [] (0 + k)) Value.oneCell') = true)/\
 AE_w43 s/\I64 ((s : Int) + 1)/\∃ s_1 : Nat,AE_w31 s_1 x/\x.spnN - s_1 < x.spnN - s/\AE_w28 s_1 s x/\(AE_w55 s_1 s/\∀ q : Nat,q < 64 * (s_1 + 1)->[Value.int .u8 (x.enc q)] = Cs.eff (fun (q_1 : Nat) => cond (Nat.blt q_1 (64 * (s + 1))) [Value.int .u8 (x.enc q_1)] (Cs.eff (fun (p : Nat) => cond (Nat.ble 1 p && Nat.blt p (1 + (x.capN - 28 - 63 * s))) (Cs.eff (fun (p_1 : Nat) => cond (Nat.ble 0 p_1 && Nat.blt p_1 (0 + Int.toNat (cpc x_2))) [Value.int .u8 (strAt (x.key ++ x.value) (p_1 - 0))] [Value.int .u8 0]) [] (28 + 63 * s + (p - 1))) (Cs.eff (fun (x_5 : Nat) => [Value.int .u8 0]) [(0,[Value.int .u8 2])] p)) [] (0 + (q_1 - 64 * (s + 1))))) [] q)/\AE_w6 x_3 x_2 x) (28 + 63 * s + 63<=Int.toNat (cpc x_2)/\(∀ k : Nat,k < 63->AE_w19 x_2 x s k)/\0<=((63 : Nat) : Int)/\(63<=x.capN - 28 - 63 * s/\AE_w29 x s)/\64 * (s + 1) = 64 * (s + 1)/\64<=64/\(∀ k : Nat,k < 64->(Nat.beq (List.length (Cs.eff (fun (p : Nat) => cond (Nat.ble 1 p && Nat.blt p 64) (Cs.eff (fun (p_1 : Nat) => cond (Nat.ble 0 p_1 && Nat.blt p_1 (0 + Int.toNat (cpc x_2))) [Value.int .u8 (strAt (x.key ++ x.value) (p_1 - 0))] [Value.int .u8 0]) [] (28 + 63 * s + (p - 1))) (Cs.eff (fun (x_5 : Nat) => [Value.int .u8 0]) [(0,[Value.int .u8 2])] p)) [] (0 + k))) 1 && List.all (Cs.eff (fun (p : Nat) => cond (Nat.ble 1 p && Nat.blt p 64) (Cs.eff (fun (p_1 : Nat) => cond (Nat.ble 0 p_1 && Nat.blt p_1 (0 + Int.toNat (cpc x_2))) [Value.int .u8 (strAt (x.key ++ x.value) (p_1 - 0))] [Value.int .u8 0]) [] (28 + 63 * s + (p - 1))) (Cs.eff (fun (x_5 : Nat) => [Value.int .u8 0]) [(0,[Value.int .u8 2])] p)) [] (0 + k)) Value.oneCell') = true)/\AE_w43 s/\I64 ((s : Int) + 1)/\∃ s_1 : Nat,AE_w31 s_1 x/\x.spnN - s_1 < x.spnN - s/\AE_w35 s_1 s x/\(AE_w55 s_1 s/\
 ∀ q : Nat,q < 64 * (s_1 + 1)->[Value.int .u8 (x.enc q)] = Cs.eff (fun (q_1 : Nat) => cond (Nat.blt q_1 (64 * (s + 1))) [Value.int .u8 (x.enc q_1)] (Cs.eff (fun (p : Nat) => cond (Nat.ble 1 p && Nat.blt p 64) (Cs.eff (fun (p_1 : Nat) => cond (Nat.ble 0 p_1 && Nat.blt p_1 (0 + Int.toNat (cpc x_2))) [Value.int .u8 (strAt (x.key ++ x.value) (p_1 - 0))] [Value.int .u8 0]) [] (28 + 63 * s + (p - 1))) (Cs.eff (fun (x_5 : Nat) => [Value.int .u8 0]) [(0,[Value.int .u8 2])] p)) [] (0 + (q_1 - 64 * (s + 1))))) [] q)/\AE_w6 x_3 x_2 x)) (AE_w25 x s))/\True))
theorem encVC_ok (x : ZBlk) : encVC x = wpF Tryz.prog tblB2 tt (anEnc x) 200 5 132 (encC.args x) (hO encC.k (encC.os x)) (fun v h' => endsP encC.k x v h' encC.outs) := by kernel_rfl
def draftVC (x : Int) : Prop :=
 ∃ x_1 : Int,True/\(x_1 = x/\True)/\True/\∀ y : Unit,True->cP (BEq.beq (spn x_1) (0 : Int)) (∃ y_1 : Unit,True/\False/\False/\True) (∃ x_2 : Int,True/\(x_2 = x/\True)/\True/\∀ y_1 : Unit,True->AE_w59 x_2/\∃ x_3 : ZHead,Hd x_3.ok/\((x_3.b.cls = x/\AE_w50 x_3.b)/\(x_3.d.q = 0/\x_3.d.n = Int.toNat (cpc x_2))/\True)/\((x_3.d.N = Int.toNat (cpc x_2)/\∀ q : Nat,q < x_3.d.N->[Value.int .u8 (x_3.d.g q)] = [Value.int .u8 0])/\True)/\∀ y_2 : Unit,True->∃ y_3 : Unit,True/\(0 = 0/\64 = 64/\64 = 64)/\(64 = 64/\∀ q : Nat,q < 64->[Value.int .u8 (ZBlk.headG (ZBlk.mk x (0 : Int) (0 : Int) (0 : Int) (0 : Int) (ByteArray.mk #[]) (ByteArray.mk #[])) (fun (x_4 : Nat) => (0 : Int)) (Int.toNat (cpc x)) q)] = [Value.int .u8 (x_3.b.headG (fun (k : Nat) => x_3.d.g (x_3.d.q + k)) x_3.d.n q)])/\True)
theorem draftVC_ok (x : Int) : draftVC x = wpF Tryz.prog tblB2 tt (noA x) 200 5 55 (draftC.args x) (hO draftC.k (draftC.os x)) (fun v h' => endsP draftC.k x v h' draftC.outs) := by kernel_rfl
def dataVC (x : ZDat) : Prop :=
 (0 : Int)<=64/\(0 : Int)<=36/\(36<=64/\64<=x.b.n/\x.b.n<=x.b.n)/\x.b.q + 36 + 28<=x.b.N/\(2 * (0 + 28) + 1000) * 1<=281474976710656/\(∃ s : Unit,Hd True/\True/\((64 : Int) = 64/\(0 = 0/\28 = 28)/\True)/\(28 = 28/\∀ q : Nat,q < 28->[Value.int .u8 (x.at_ q)] = [Value.int .u8 (x.b.g (x.b.q + 36 + (q - 0)))])/\True/\AE_w33 x.b)/\(∀ s : Unit,Hd True->cP (decide (64 < (x.b.n : Int))) (I64 (65 : Int)/\I64 (128 : Int)/\(0 : Int)<=128/\(0 : Int)<=65/\(65<=128/\128<=x.b.n/\x.b.n<=x.b.n)/\28 = 28/\x.b.q + 65 + 63<=x.b.N/\(∀ k : Nat,k < 63->(Nat.beq (List.length [Value.int .u8 (x.b.g (x.b.q + 65 + k))]) 1 && List.all [Value.int .u8 (x.b.g (x.b.q + 65 + k))] Value.oneCell') = true)/\(2 * (28 + 63) + 1000) * 1<=281474976710656/\I64 (128 : Int)/\∃ s_1 : Nat,Hd (1<=s_1/\s_1 + 1<=x.s)/\x.s - s_1 < x.s + 1/\(((64 + 64 * s_1 : Nat) : Int) = 128/\(0 = 0/\28 + 63 * s_1 = 91)/\True)/\(28 + 63 * s_1 = 91/\∀ q : Nat,q < 28 + 63 * s_1->[Value.int .u8 (x.at_ q)] = Cs.eff (fun (q_1 : Nat) => cond (Nat.blt q_1 28) [Value.int .u8 (x.at_ q_1)] [Value.int .u8 (x.b.g (x.b.q + 65 + (q_1 - 28)))]) [] q)/\True/\AE_w33 x.b) (28<=28/\(∀ k : Nat,k < 28->isByte [Value.int .u8 (x.at_ (0 + k))] = true)/\∃ y : Unit,True/\x.str = @ByteArray.mk (@List.toArray UInt8 (List.map (fun (k : Nat) => UInt8.ofBitVec (@BitVec.ofNat 8 (Int.toNat (x.at_ (0 + k))))) (@List.range 28)))/\AE_w33 x.b))/\(∀ s : Nat,Hd (1<=s/\s + 1<=x.s)->cP (decide (((64 + 64 * s : Nat) : Int) < (x.b.n : Int))) (I64 (((64 + 64 * s : Nat) : Int) + 1)/\I64 (((64 + 64 * s : Nat) : Int) + 64)/\0<=((64 + 64 * s : Nat) : Int) + 64/\0<=((64 + 64 * s : Nat) : Int) + 1/\(Int.toNat (((64 + 64 * s : Nat) : Int) + 1)<=Int.toNat (((64 + 64 * s : Nat) : Int) + 64)/\
 Int.toNat (((64 + 64 * s : Nat) : Int) + 64)<=x.b.n/\x.b.n<=x.b.n)/\28 + 63 * s = 28 + 63 * s/\x.b.q + Int.toNat (((64 + 64 * s : Nat) : Int) + 1) + (Int.toNat (((64 + 64 * s : Nat) : Int) + 64) - Int.toNat (((64 + 64 * s : Nat) : Int) + 1))<=x.b.N/\(∀ k : Nat,k < Int.toNat (((64 + 64 * s : Nat) : Int) + 64) - Int.toNat (((64 + 64 * s : Nat) : Int) + 1)->(Nat.beq (List.length [Value.int .u8 (x.b.g (x.b.q + Int.toNat (((64 + 64 * s : Nat) : Int) + 1) + k))]) 1 && List.all [Value.int .u8 (x.b.g (x.b.q + Int.toNat (((64 + 64 * s : Nat) : Int) + 1) + k))] Value.oneCell') = true)/\(2 * (28 + 63 * s + (Int.toNat (((64 + 64 * s : Nat) : Int) + 64) - Int.toNat (((64 + 64 * s : Nat) : Int) + 1))) + 1000) * 1<=281474976710656/\I64 (((64 + 64 * s : Nat) : Int) + 64)/\∃ s_1 : Nat,Hd (1<=s_1/\s_1 + 1<=x.s)/\x.s - s_1 < x.s - s/\(((64 + 64 * s_1 : Nat) : Int) = ((64 + 64 * s : Nat) : Int) + 64/\(0 = 0/\AE_w58 s_1 s)/\True)/\(AE_w58 s_1 s/\∀ q : Nat,q < 28 + 63 * s_1->[Value.int .u8 (x.at_ q)] = Cs.eff (fun (q_1 : Nat) => cond (Nat.blt q_1 (28 + 63 * s)) [Value.int .u8 (x.at_ q_1)] [Value.int .u8 (x.b.g (x.b.q + Int.toNat (((64 + 64 * s : Nat) : Int) + 1) + (q_1 - (28 + 63 * s))))]) [] q)/\True/\AE_w33 x.b) (0 + (28 + 63 * s)<=28 + 63 * s/\(∀ k : Nat,k < 28 + 63 * s->isByte [Value.int .u8 (x.at_ (0 + k))] = true)/\∃ y : Unit,True/\x.str = @ByteArray.mk (@List.toArray UInt8 (List.map (fun (k : Nat) => UInt8.ofBitVec (@BitVec.ofNat 8 (Int.toNat (x.at_ (0 + k))))) (@List.range (28 + 63 * s))))/\AE_w33 x.b))/\True
theorem dataVC_ok (x : ZDat) : dataVC x = wpF Tryz.prog [] tt (anData x) 200 5 131 (dataC.args x) (hO dataC.k (dataC.os x)) (fun v h' => endsP dataC.k x v h' dataC.outs) := by kernel_rfl
def decVC (x : ZDec) : Prop :=
 cP (decide (((64 * x.b.spnN : Nat) : Int) < 64)) (∃ y : Unit,AE_w3 x) ((0 : Int)<=64/\(0<=64/\64<=64 * x.b.spnN/\64 * x.b.spnN<=64 * x.b.spnN)/\AE_w47/\0 < 64 * x.b.spnN/\cP (bne (x.g 0) (1 : Int)) (∃ y : Unit,AE_w3 x) (((0 : Int)<=1/\(0 : Int)<=62)/\1 < 64 * x.b.spnN/\I64 (x.g 1)/\∃ x_1 : Int,True/\(x_1 = x.g 1/\True)/\True/\∀ y : Unit,True->cP (BEq.beq (spn x_1) (0 : Int)) (∃ y_1 : Unit,AE_w3 x) (((0 : Int)<=2/\(0 : Int)<=61)/\2 < 64 * x.b.spnN/\cP (decide (x.g 2 > (3 : Int))) (∃ y_1 : Unit,AE_w3 x) (((0 : Int)<=1/\(0 : Int)<=62)/\1 < 64 * x.b.spnN/\I64 (x.g 1)/\((0 : Int)<=2/\(0 : Int)<=61)/\2 < 64 * x.b.spnN/\I64 (x.g 2)/\∃ x_2 : Int,True/\(x_2 = x.g 1/\True)/\True/\∀ y_1 : Unit,True->I64 (spn x_2 * 64)/\cP (bne ((64 * x.b.spnN : Nat) : Int) (spn x_2 * 64)) (∃ y_2 : Unit,AE_w3 x) (((0 : Int)<=3/\4<=((64 * x.b.spnN : Nat) : Int))/\3 < 64 * x.b.spnN/\I64 (x.g 3)/\∃ x_3 : ZGet,AE_w16 x_3/\(AE_w38 x_3.b x.b/\(x_3.at_ : Int) = 4/\(x_3.w : Int) = 2/\True)/\AE_w12 x_3.b x/\∀ y_2 : Unit,True->((3 < 64 * x.b.spnN/\AV.lit (Value.int .u8 (x.g 3)) = AV.lit (Value.int .u8 (x.g 3)))/\True)/\I64 (getG (fun (k : Nat) => x_3.b.g (x_3.b.q + k)) x_3.at_ x_3.w)/\∃ x_4 : ZDat,Hd (x_4.b.ok/\x_4.b.n = 64 * x_4.s/\1<=x_4.s/\x_4.s<=8)/\(AE_w38 x_4.b x.b/\True)/\AE_w12 x_4.b x/\∀ y_3 : Unit,True->I64 (x.g 3 + getG (fun (k : Nat) => x_3.b.g (x_3.b.q + k)) x_3.at_ x_3.w)/\cP (decide (x.g 3 + getG (fun (k : Nat) => x_3.b.g (x_3.b.q + k)) x_3.at_ x_3.w > (x_4.str.size : Int))) (∃ y_4 : Unit,AE_w3 x) (0<=x.g 3/\(0<=Int.toNat (x.g 3)/\Int.toNat (x.g 3)<=x_4.str.size/\x_4.str.size<=x_4.str.size)/\I64 (x.g 3 + getG (fun (k : Nat) => x_3.b.g (x_3.b.q + k)) x_3.at_ x_3.w)/\
 0<=x.g 3 + getG (fun (k : Nat) => x_3.b.g (x_3.b.q + k)) x_3.at_ x_3.w/\0<=x.g 3/\(Int.toNat (x.g 3)<=Int.toNat (x.g 3 + getG (fun (k : Nat) => x_3.b.g (x_3.b.q + k)) x_3.at_ x_3.w)/\Int.toNat (x.g 3 + getG (fun (k : Nat) => x_3.b.g (x_3.b.q + k)) x_3.at_ x_3.w)<=x_4.str.size/\x_4.str.size<=x_4.str.size)/\(∃ x_5 : ZGet,AE_w16 x_5/\(AE_w38 x_5.b x.b/\(x_5.at_ : Int) = 8/\AE_w60 x_5.w)/\AE_w12 x_5.b x/\∀ y_4 : Unit,True->True/\(∃ x_6 : ZGet,AE_w16 x_6/\(AE_w38 x_6.b x.b/\(x_6.at_ : Int) = 16/\AE_w60 x_6.w)/\AE_w12 x_6.b x/\∀ y_5 : Unit,True->True/\(∃ x_7 : ZGet,AE_w16 x_7/\AE_w57 x_7 x.b/\AE_w12 x_7.b x/\∀ y_6 : Unit,True->True/\True/\True/\∃ x_8 : ZBlk,AE_w46 x_8/\((x_8.cls = x.g 1/\x_8.kind = x.g 2/\AE_w9 x_8.id x_5/\AE_w9 x_8.ver x_6/\AE_w9 x_8.epoch x_7/\AE_w22 x_8 x_4 x x_3)/\True)/\True/\(∀ y_7 : Unit,Hd (x_8.cls = 0)->64<=64/\(∀ k : Nat,k < 64->AE_w41 x_8 k)/\AE_w34 x.b/\AE_w21 x/\cP (Bool.not (BEq.beq (ByteArray.toList (@ByteArray.mk (@List.toArray UInt8 (List.map (fun (k : Nat) => UInt8.ofBitVec (@BitVec.ofNat 8 (Int.toNat (x_8.enc (0 + k))))) (@List.range 64))))) (ByteArray.toList (@ByteArray.mk (@List.toArray UInt8 (List.map (fun (k : Nat) => UInt8.ofBitVec (@BitVec.ofNat 8 (Int.toNat (x.g (0 + k))))) (@List.range (64 * x.b.spnN)))))))) (∃ y_8 : Unit,AE_w3 x) (∃ y_8 : Unit,True/\((x.b.cls = x.g 1/\x.b.kind = x.g 2/\AE_w9 x.b.id x_5/\AE_w9 x.b.ver x_6/\AE_w10 x x_7 x_4 x_3)/\true = true/\True)/\AE_w7 x))/\∀ y_7 : Unit,Hd (x_8.cls ≠ (0 : Int))->AE_w34 x_8/\AE_w44 x_8/\AE_w34 x.b/\AE_w21 x/\
 cP (Bool.not (BEq.beq (ByteArray.toList (@ByteArray.mk (@List.toArray UInt8 (List.map (fun (k : Nat) => UInt8.ofBitVec (@BitVec.ofNat 8 (Int.toNat (x_8.enc (0 + k))))) (@List.range (64 * x_8.spnN)))))) (ByteArray.toList (@ByteArray.mk (@List.toArray UInt8 (List.map (fun (k : Nat) => UInt8.ofBitVec (@BitVec.ofNat 8 (Int.toNat (x.g (0 + k))))) (@List.range (64 * x.b.spnN)))))))) (∃ y_8 : Unit,AE_w3 x) (∃ y_8 : Unit,True/\((x.b.cls = x.g 1/\x.b.kind = x.g 2/\AE_w9 x.b.id x_5/\AE_w9 x.b.ver x_6/\AE_w10 x x_7 x_4 x_3)/\true = true/\True)/\AE_w7 x))/\True/\∃ x_7 : ZGet,AE_w16 x_7/\AE_w57 x_7 x.b/\AE_w12 x_7.b x/\∀ y_6 : Unit,True->True/\True/\∃ x_8 : ZBlk,AE_w46 x_8/\((x_8.cls = x.g 1/\x_8.kind = x.g 2/\AE_w9 x_8.id x_5/\AE_w9 x_8.ver x_6/\AE_w9 x_8.epoch x_7/\AE_w22 x_8 x_4 x x_3)/\True)/\True/\(∀ y_7 : Unit,Hd (x_8.cls = 0)->64<=64/\(∀ k : Nat,k < 64->AE_w41 x_8 k)/\AE_w34 x.b/\AE_w21 x/\cP (Bool.not (BEq.beq (ByteArray.toList (@ByteArray.mk (@List.toArray UInt8 (List.map (fun (k : Nat) => UInt8.ofBitVec (@BitVec.ofNat 8 (Int.toNat (x_8.enc (0 + k))))) (@List.range 64))))) (ByteArray.toList (@ByteArray.mk (@List.toArray UInt8 (List.map (fun (k : Nat) => UInt8.ofBitVec (@BitVec.ofNat 8 (Int.toNat (x.g (0 + k))))) (@List.range (64 * x.b.spnN)))))))) (∃ y_8 : Unit,AE_w3 x) (∃ y_8 : Unit,True/\((x.b.cls = x.g 1/\x.b.kind = x.g 2/\AE_w9 x.b.id x_5/\AE_w9 x.b.ver x_6/\AE_w10 x x_7 x_4 x_3)/\true = true/\True)/\AE_w7 x))/\∀ y_7 : Unit,Hd (x_8.cls ≠ (0 : Int))->AE_w34 x_8/\AE_w44 x_8/\AE_w34 x.b/\AE_w21 x/\
 cP (Bool.not (BEq.beq (ByteArray.toList (@ByteArray.mk (@List.toArray UInt8 (List.map (fun (k : Nat) => UInt8.ofBitVec (@BitVec.ofNat 8 (Int.toNat (x_8.enc (0 + k))))) (@List.range (64 * x_8.spnN)))))) (ByteArray.toList (@ByteArray.mk (@List.toArray UInt8 (List.map (fun (k : Nat) => UInt8.ofBitVec (@BitVec.ofNat 8 (Int.toNat (x.g (0 + k))))) (@List.range (64 * x.b.spnN)))))))) (∃ y_8 : Unit,AE_w3 x) (∃ y_8 : Unit,True/\((x.b.cls = x.g 1/\x.b.kind = x.g 2/\AE_w9 x.b.id x_5/\AE_w9 x.b.ver x_6/\AE_w10 x x_7 x_4 x_3)/\true = true/\True)/\AE_w7 x))/\AE_w1 x x_5 x_4 x_3)/\True/\∃ x_5 : ZGet,AE_w16 x_5/\(AE_w38 x_5.b x.b/\(x_5.at_ : Int) = 8/\AE_w60 x_5.w)/\AE_w12 x_5.b x/\∀ y_4 : Unit,True->AE_w1 x x_5 x_4 x_3))))))
theorem decVC_ok (x : ZDec) : decVC x = wpF Tryz.prog tblB3 tt (noA x) 200 5 89 (decC.args x) (hO decC.k (decC.os x)) (fun v h' => endsP decC.k x v h' decC.outs) := by kernel_rfl
end Go.Proofs.YtpnhfbegboogbaaGreat
end
section
namespace Go.Proofs.YtpnhfbegboogbaaGreat
open Go SE
set_option linter.unusedSimpArgs false
theorem cap_span {c : Int} (h : spn c ≠ 0) : 0<=c/\c<=3/\1<=spn c/\spn c<=8/\cpc c = 28 + 63 * (spn c - 1) := by
 unfold spn at *
 unfold cpc
 grind
theorem ned_cap {n : Int} (h : spn (ned n) ≠ 0) : n<=cpc (ned n) := by
 unfold ned spn at *
 unfold cpc
 grind
theorem may_cap {b : ZBlk} (h : b.may) : ((b.key.size + b.value.size : Nat) : Int)<=cpc b.cls := by
 obtain ⟨hs,h⟩ := h
 have hc := cap_span hs
 rcases h with ⟨_,_,_,_,h1,h2⟩ | ⟨_,_,_,_,h,_⟩ | ⟨_,_,_,h,_⟩ | ⟨_,h,_⟩
 ·rw [h1,h2]; show ((0 : Nat) : Int)<=_; omega
 ·rw [← h]; exact ned_cap (by rw [h]; exact hs)
 ·rw [← h]; exact ned_cap (by rw [h]; exact hs)
 ·rw [h]; omega
theorem draftVC_true (x : Int) (hx : 0<=x/\x<=3) : draftVC x := by
 have hs : spn x ≠ 0 := by have := spn_pos hx; omega
 have hc := cap_span hs
 unfold draftVC
 simp only [AE_w59,AE_w50]
 simp only [hd_iff,and_true,true_and,Nat.zero_add,Nat.add_zero,unit_ex,unit_all,true_implies,implies_true,Int.toNat_natCast,eq_self,and_self,eff_nil,cond_one,cond_int,ones_int,row_int,ones_bool,row_bool,cond_bool,ble0,Bool.true_and,Nat.sub_zero,List.getElem?_cons_zero,Option.some.injEq,Value.bool.injEq,Value.int.injEq,exists_eq_left',exists_eq_left]
 rw [show (spn x == 0) = false from beq_eq_false_iff_ne.2 hs,cP_false]
 refine ⟨by omega,⟨⟨x,0,0,0,0,⟨#[]⟩,⟨#[]⟩⟩,⟨fun _ => 0,0,(cpc x).toNat,(cpc x).toNat⟩⟩,?_,⟨⟨rfl,rfl,rfl,rfl,rfl,rfl,rfl⟩,rfl,rfl⟩,⟨rfl,fun q _ => rfl⟩,fun q _ => rfl⟩
 exact ⟨⟨show 0 + (cpc x).toNat<=(cpc x).toNat by omega,show (cpc x).toNat < 1099511627776 by omega,fun _ => ⟨show (0 : Int)<=0 by decide,show (0 : Int) < 256 by decide⟩⟩,show 28<=(cpc x).toNat by omega,show (0 : Nat) < 256 by decide,show (0 : Nat) < 65536 by decide,hx.1,show x < 256 by omega,show (0 : Int)<=0 by decide,show (0 : Int) < 256 by decide,show (0 : Int)<=0 by decide,show (0 : Int) < 18446744073709551616 by decide,show (0 : Int)<=0 by decide,show (0 : Int) < 18446744073709551616 by decide,show (0 : Int)<=0 by decide,show (0 : Int) < 18446744073709551616 by decide⟩
theorem isByte_u8 {z : Int} (h : 0<=z/\z < 256) : isByte [Value.int .u8 z] = true := by
 unfold isByte
 simp only [decide_eq_true h.1,decide_eq_true h.2,Bool.and_self]
theorem dat_byte {x : ZDat} (h : x.b.ok) (i : Nat) : 0<=x.at_ i/\x.at_ i < 256 := by
 unfold ZDat.at_
 split <;> exact h.2.2 _
theorem dat_more {x : ZDat} {s q : Nat} (h1 : ¬ q < 28 + 63 * s) (h2 : q < 28 + 63 * (s + 1)) : x.at_ q = x.b.g (x.b.q + (64 * (s + 1) + 1) + (q - (28 + 63 * s))) := by
 unfold ZDat.at_
 have e1 : (q - 28) / 63 = s := by omega
 rw [if_neg (by omega),e1]
 congr 1
 omega
theorem dataVC_true (x : ZDat) (hx : x.b.ok/\x.b.n = 64 * x.s/\1<=x.s/\x.s<=8) : dataVC x := by
 obtain ⟨ho,hn,h1,h2⟩ := hx
 obtain ⟨o1,o2,o3⟩ := id ho
 have t1 : ∀ s : Nat,(((64 + 64 * s : Nat) : Int) + 1).toNat = 64 * (s + 1) + 1 := fun s => by omega
 have t2 : ∀ s : Nat,(((64 + 64 * s : Nat) : Int) + 64).toNat = 64 * (s + 1) + 64 := fun s => by omega
 unfold dataVC
 simp only [AE_w33,AE_w58]
 simp only [hd_iff,and_true,true_and,Nat.zero_add,Nat.add_zero,unit_ex,unit_all,true_implies,implies_true,Int.toNat_natCast,eq_self,and_self,eff_nil,cond_one,cond_int,ones_int,row_int,ones_bool,row_bool,cond_bool,ble0,Bool.true_and,Nat.sub_zero,List.getElem?_cons_zero,Option.some.injEq,Value.bool.injEq,Value.int.injEq,exists_eq_left',exists_eq_left,t1,t2]
 refine ⟨by decide,by decide,⟨by decide,by omega,by omega⟩,by omega,by decide,fun q hq => ?_,cP_intro (fun h => ?_) fun h => ?_,fun s hs => cP_intro (fun h => ?_) fun h => ?_⟩
 ·unfold ZDat.at_
  rw [if_pos hq]; congr 1; omega
 ·have h := of_decide_eq_true h
  refine ⟨by unfold I64; omega,by unfold I64; omega,by decide,by decide,⟨by decide,by omega,by omega⟩,by omega,by decide,by unfold I64; omega,1,by omega,by omega,by omega,by omega,fun q hq => ?_⟩
  by_cases hq1 : q < 28
  ·rw [nblt_iff.2 hq1]; rfl
  ·rw [blt_iff_decide,decide_eq_false hq1,cond_false]
   exact dat_more (s := 0) (by omega) (by omega)
 ·have h := of_decide_eq_false h
  have : x.s = 1 := by omega
  refine ⟨by decide,fun k _ => isByte_u8 (dat_byte ho k),?_⟩
  unfold ZDat.str; rw [this]; rfl
 ·have h := of_decide_eq_true h
  refine ⟨by unfold I64; omega,by unfold I64; omega,by omega,by omega,⟨by omega,by omega,by omega⟩,by omega,by omega,by unfold I64; omega,s + 1,by omega,by omega,by omega,by omega,fun q hq => ?_⟩
  by_cases hq1 : q < 28 + 63 * s
  ·rw [nblt_iff.2 hq1]; rfl
  ·rw [blt_iff_decide,decide_eq_false hq1,cond_false]
   exact dat_more hq1 (by omega)
 ·have h := of_decide_eq_false h
  have : x.s = s + 1 := by omega
  refine ⟨by omega,fun k _ => isByte_u8 (dat_byte ho k),?_⟩
  unfold ZDat.str; rw [this]; rfl
theorem lin_eq {s : ByteArray} {o k n B : Nat} (hk : k < 64) (hB : 64<=B) : (bif Nat.ble 1 k && Nat.blt k B then [Value.int .u8 (bif Nat.blt (o + (k - 1)) n then (strAt s (o + (k - 1)) : Int) else 0)] else Cs.eff (fun _ => [Value.int .u8 0]) [(0,[Value.int .u8 2])] k) =
  [Value.int .u8 (if k = 0 then 2 else if o + (k - 1) < n then (strAt s (o + (k - 1)) : Int) else 0)] := by
 rw [eff_one]
 simp only [ble_iff_decide,blt_iff_decide,bif_decide,← Bool.decide_and]
 by_cases h : k = 0
 ·subst h; simp
 ·rw [if_pos ⟨by omega,by omega⟩,if_neg h]
theorem enc_line (x : ZBlk) (t r : Nat) (hr : r < 64) : x.enc (64 * (t + 1) + r) = if r = 0 then 2 else x.dat (28 + 63 * t + (r - 1)) := by
 unfold ZBlk.enc
 rw [if_neg (by omega),show (64 * (t + 1) + r) % 64 = r by omega,show (64 * (t + 1) + r) / 64 = t + 1 by omega,Nat.add_sub_cancel,Nat.mul_comm t 63]
theorem enc_row (x : ZBlk) {t q B o n : Nat} (h1 : ¬ q < 64 * (t + 1)) (h2 : q < 64 * (t + 1 + 1)) (hB : 64<=B) (ho : o = 28 + 63 * t) (hn : n = (x.key ++ x.value).size) : [Value.int .u8 (x.enc q)] = (bif Nat.ble 1 (q - 64 * (t + 1)) && Nat.blt (q - 64 * (t + 1)) B then [Value.int .u8 (bif Nat.blt (o + (q - 64 * (t + 1) - 1)) n then (strAt (x.key ++ x.value) (o + (q - 64 * (t + 1) - 1)) : Int) else 0)] else Cs.eff (fun _ => [Value.int .u8 0]) [(0,[Value.int .u8 2])] (q - 64 * (t + 1))) := by
 rw [lin_eq (by omega) hB,show q = 64 * (t + 1) + (q - 64 * (t + 1)) by omega,enc_line x t _ (by omega),Nat.add_sub_cancel_left,ho,hn]
 rfl
theorem lin_one {s : ByteArray} {o k n B : Nat} (hk : k < 64) (hB : 64<=B) : ((bif Nat.ble 1 k && Nat.blt k B then [Value.int .u8 (bif Nat.blt (o + (k - 1)) n then (strAt s (o + (k - 1)) : Int) else 0)] else Cs.eff (fun _ => [Value.int .u8 0]) [(0,[Value.int .u8 2])] k).length.beq 1 && (bif Nat.ble 1 k && Nat.blt k B then [Value.int .u8 (bif Nat.blt (o + (k - 1)) n then (strAt s (o + (k - 1)) : Int) else 0)] else Cs.eff (fun _ => [Value.int .u8 0]) [(0,[Value.int .u8 2])] k).all Value.oneCell') = true := by
 rw [lin_eq hk hB]; rfl
theorem dat_blk (x : ZBlk) (k : Nat) : 0<=x.dat k/\x.dat k < 256 := by
 unfold ZBlk.dat
 split
 ·unfold strAt
  have := (((x.key ++ x.value).data.toList.getD k 0)).toNat_lt
  exact ⟨by omega,by omega⟩
 ·exact ⟨by decide,by decide⟩
theorem may_nums {x : ZBlk} (h : x.may) : x.key.size < 256/\x.value.size < 65536/\0<=x.kind/\x.kind < 256/\0<=x.id/\x.id < 18446744073709551616/\0<=x.ver/\x.ver < 18446744073709551616/\0<=x.epoch/\x.epoch < 18446744073709551616 := by
 have hC := may_cap h
 have hc := cap_span h.1
 obtain ⟨hs,h⟩ := h
 unfold ZBlk.nums ZBlk.num at h
 have e0 : ByteArray.size ⟨#[]⟩ = 0 := rfl
 rcases h with ⟨h0,h1,h2,h3,h4,h5⟩ | ⟨h0,h1,h2,h3,h4,h5,h6,h7⟩ | ⟨h0,h1,h2,h3,h5,h6,h7⟩ | ⟨h0,h1,h2,h5,h6,h7⟩
 ·rw [h4,h5]; omega
 ·omega
 ·rw [h1]; omega
 ·omega
theorem encVC_true (x : ZBlk) (hx : x.may/\x.key.size < 1099511627776/\x.value.size < 1099511627776) : encVC x := by
 obtain ⟨hm,hk,hv⟩ := hx
 have hM : x.mayB = true := mayB_iff.2 hm
 have hc := cap_span hm.1
 have hC := may_cap hm
 have hD := may_nums hm
 have hsz : (x.key ++ x.value).size = x.key.size + x.value.size := ByteArray.size_append
 have hcap : (cpc x.cls).toNat = x.capN := rfl
 have hb : Nat.ble (x.key ++ x.value).size x.capN = true := by rw [Nat.ble_eq,hsz,← hcap]; omega
 have hN : x.capN = 28 + 63 * (x.spnN - 1) := by unfold ZBlk.capN ZBlk.spnN; omega
 have hS : (x.spnN : Int) = spn x.cls := by unfold ZBlk.spnN; omega
 have h0 : x.cls = 0 ↔ x.spnN = 1 := by
  have : x.cls = 0 ↔ spn x.cls = 1 := by unfold spn; grind
  rw [this]; omega
 have e1 : ∀ q,q < 64->x.enc q = x.headG x.dat x.capN q := fun q hq => if_pos hq
 have hN8 : x.spnN<=8/\1<=x.spnN := by omega
 unfold encVC
 simp only [AE_w27,AE_w59,AE_w51,AE_w54,AE_w49,AE_w5,AE_w24,AE_w47,AE_w56,AE_w18,AE_w37,AE_w48,AE_w31,AE_w36,AE_w42,AE_w23,AE_w17,AE_w26,AE_w29,AE_w43,AE_w28,AE_w55,AE_w35,AE_w25,AE_w6,AE_w20,AE_w19,AE_w39,AE_w45]
 simp only [hd_iff,and_true,true_and,Nat.zero_add,Nat.add_zero,unit_ex,unit_all,true_implies,implies_true,Int.toNat_natCast,eq_self,and_self,eff_nil,cond_one,cond_int,ones_int,row_int,ones_bool,row_bool,cond_bool,ble0,Bool.true_and,Nat.sub_zero,List.getElem?_cons_zero,Option.some.injEq,Value.bool.injEq,Value.int.injEq,exists_eq_left',exists_eq_left,hcap]
 refine ⟨x,⟨hk,hv⟩,⟨rfl,rfl,rfl,rfl,rfl,rfl,rfl⟩,?_⟩
 rw [hM,Bool.not_true,cP_false]
 refine ⟨by omega,by omega,by omega,?_⟩
 rw [hb,cP_true]
 refine ⟨⟨x,⟨x.dat,0,x.capN,x.capN⟩⟩,⟨⟨by show 0 + x.capN<=x.capN; omega,by show x.capN < 1099511627776; omega,dat_blk x⟩,by show 28<=x.capN; omega,hD.1,hD.2.1,hc.1,by show x.cls < 256; omega,hD.2.2⟩,⟨⟨rfl,rfl,rfl,rfl,rfl,rfl,rfl⟩,rfl,rfl⟩,⟨rfl,fun q _ => ?_⟩,?_⟩
 ·simp only [blt_iff_decide,bif_decide]; rfl
 ·simp only [Nat.zero_add]
  refine ⟨by decide,by omega,by unfold I64; omega,cP_intro (fun h => ?_) fun h => ?_,fun s hs => cP_intro (fun h => ?_) fun h => ?_⟩
  ·have h := of_decide_eq_true h
   refine ⟨by decide,by decide,by decide,by decide,by decide,by decide,cP_intro (fun hb => ?_) fun hb => ?_⟩
   ·have hb := Nat.le_of_ble_eq_true hb
    refine ⟨by omega,by omega,by omega,by decide,by decide,by decide,by unfold I64; omega,1,by omega,by omega,by omega,by omega,fun q hq => ?_⟩
    by_cases hq1 : q < 64
    ·rw [nblt_iff.2 hq1,cond_true,e1 q hq1]
    ·rw [blt_iff_decide,decide_eq_false hq1,cond_false]
     exact enc_row x (t := 0) (by omega) (by omega) (by omega) rfl rfl
   ·refine ⟨by omega,by omega,⟨by omega,by omega⟩,by decide,by decide,by decide,by unfold I64; omega,1,by omega,by omega,by omega,by omega,fun q hq => ?_⟩
    by_cases hq1 : q < 64
    ·rw [nblt_iff.2 hq1,cond_true,e1 q hq1]
    ·rw [blt_iff_decide,decide_eq_false hq1,cond_false]
     exact enc_row x (t := 0) (by omega) (by omega) (by omega) rfl rfl
  ·have h := of_decide_eq_false h
   exact .inl ⟨h0.2 (by omega),fun q hq => e1 q hq⟩
  ·have h := of_decide_eq_true h
   refine ⟨by decide,by decide,by decide,by decide,by decide,by decide,cP_intro (fun hb => ?_) fun hb => ?_⟩
   ·have hb := Nat.le_of_ble_eq_true hb
    refine ⟨by omega,by omega,by omega,by decide,fun k hk => lin_one hk (by omega),by omega,by unfold I64; omega,s + 1,by omega,by omega,by omega,by omega,fun q hq => ?_⟩
    by_cases hq1 : q < 64 * (s + 1)
    ·rw [nblt_iff.2 hq1,cond_true]
    ·rw [blt_iff_decide,decide_eq_false hq1,cond_false]
     exact enc_row x hq1 (by omega) (by omega) rfl rfl
   ·refine ⟨by omega,by omega,⟨by omega,by omega⟩,by decide,fun k hk => lin_one hk (by omega),by omega,by unfold I64; omega,s + 1,by omega,by omega,by omega,by omega,fun q hq => ?_⟩
    by_cases hq1 : q < 64 * (s + 1)
    ·rw [nblt_iff.2 hq1,cond_true]
    ·rw [blt_iff_decide,decide_eq_false hq1,cond_false]
     exact enc_row x hq1 (by omega) (by omega) rfl rfl
  ·have h := of_decide_eq_false h
   exact .inr ⟨fun e => by have := h0.1 e; omega,by omega⟩
theorem getG_num {g : Nat->Int} {a : Nat} {v : Int} (h0 : 0<=v) : ∀ w,(∀ i,i < w->g (a + i) = v / 256 ^ i % 256)->getG g a w = v % 256 ^ w
 | 0,_ => by show (0 : Int) = v % 256 ^ 0; rw [Int.pow_zero,Int.emod_one]
 | w + 1,h => by
  simp only [getG]
  rw [getG_num h0 w fun i hi => h i (by omega),h w (by omega),Int.pow_succ]
  have hp : (0 : Int) < 256 ^ w := Int.pow_pos (by omega)
  have h1 := Int.emod_add_mul_ediv v (256 ^ w)
  have h2 := Int.emod_add_mul_ediv (v / 256 ^ w) 256
  have h3 := Int.emod_add_mul_ediv v (256 ^ w * 256)
  have h4 : v / (256 ^ w * 256) = v / 256 ^ w / 256 := (Int.ediv_ediv_of_nonneg (Int.le_of_lt hp)).symm
  rw [h4] at h3
  generalize (256 : Int) ^ w = p at *
  have h5 : p * (v / p) = p * ((v / p) % 256) + p * (256 * (v / p / 256)) := by rw [← Int.mul_add,h2]
  have h6 : p * 256 * (v / p / 256) = p * (256 * (v / p / 256)) := Int.mul_assoc _ _ _
  have h7 : (v / p) % 256 * p = p * ((v / p) % 256) := Int.mul_comm _ _
  omega
theorem getG_eq {g : Nat->Int} {a w : Nat} {v : Int} (h0 : 0<=v) (h1 : v < 256 ^ w) (h : ∀ i,i < w->g (a + i) = v / 256 ^ i % 256) : getG g a w = v := by
 rw [getG_num h0 w h]; exact Int.emod_eq_of_lt h0 h1
theorem h32_u8 {x : ZBlk} (h : x.may) (k : Nat) : 0<=x.h32 k/\x.h32 k < 256 := by
 have hD := may_nums h
 have hc := cap_span h.1
 unfold ZBlk.h32
 repeat' split
 all_goals first | exact div_mod_u8 _ _ | omega
theorem enc_u8 {x : ZBlk} (h : x.may) (k : Nat) : 0<=x.enc k/\x.enc k < 256 := by
 unfold ZBlk.enc
 split
 ·unfold ZBlk.headG
  split
  ·exact h32_u8 h k
  ·split
   ·exact div_mod_u8 _ _
   ·exact dat_blk x _
 ·split
  ·exact ⟨by decide,by decide⟩
  ·exact dat_blk x _
theorem enc_h32 {x : ZBlk} {k : Nat} (h : k < 32) : x.enc k = x.h32 k := by
 unfold ZBlk.enc
 rw [if_pos (by omega)]
 unfold ZBlk.headG
 rw [if_pos h]
theorem enc_num {x : ZBlk} (h : x.may) : getG x.enc 4 2 = x.value.size/\getG x.enc 8 8 = x.id/\getG x.enc 16 8 = x.ver/\getG x.enc 24 8 = x.epoch := by
 have hD := may_nums h
 refine ⟨getG_eq (by omega) (by omega) fun i hi => ?_,getG_eq (by omega) (by omega) fun i hi => ?_,getG_eq (by omega) (by omega) fun i hi => ?_,getG_eq (by omega) (by omega) fun i hi => ?_⟩
 all_goals
  rw [enc_h32 (by omega)]
  unfold ZBlk.h32
  repeat rw [if_neg (by omega)]
  rw [if_pos (by omega)]
  congr 2
  congr 1
  omega
theorem mkStr_size (n : Nat) (f : Nat->UInt8) : (mkStr n f).size = n := by
 show (((List.range n).map f).toArray).size = n
 simp
theorem mkStr_sub {n a b : Nat} {f : Nat->UInt8} {s : ByteArray} (h1 : b = a + s.size) (h2 : b<=n) (h : ∀ i (hi : i < s.size),f (a + i) = s.data[i]) : (mkStr n f).extract a b = s := by
 have e : ((mkStr n f).extract a b).data = s.data := by
  rw [ByteArray.data_extract]
  refine Array.ext ?_ fun i h3 h4 => ?_
  ·show ((List.map f (List.range n)).toArray.extract a b).size = s.size
   simp; omega
  ·show ((List.map f (List.range n)).toArray.extract a b)[i] = _
   rw [← h i h4]
   simp
 cases s; cases h' : (mkStr n f).extract a b; rw [h'] at e; cases e; rfl
theorem dat_byteOf (x : ZBlk) (i : Nat) (hi : i < (x.key ++ x.value).size) : UInt8.ofNat (x.dat i).toNat = (x.key ++ x.value).data[i] := by
 unfold ZBlk.dat
 rw [if_pos hi]
 unfold strAt
 rw [Int.toNat_natCast,List.getD_eq_getElem?_getD,Array.getElem?_toList]
 have e : (x.key ++ x.value).data[i]? = some (x.key ++ x.value).data[i] := Array.getElem?_eq_getElem hi
 rw [e,Option.getD_some]
 exact UInt8.ofNat_toNat
theorem enc_at {x : ZBlk} {s : Nat} (i : Nat) : (ZDat.mk ⟨x.enc,0,64 * s,64 * s⟩ s).at_ i = x.dat i := by
 unfold ZDat.at_
 simp only [Nat.zero_add]
 split
 ·rename_i h
  unfold ZBlk.enc
  rw [if_pos (by omega)]
  unfold ZBlk.headG
  rw [if_neg (by omega),if_neg (by omega)]
  congr 1; omega
 ·rename_i h
  rw [show 64 * ((i - 28) / 63 + 1) + 1 + (i - 28) % 63 = 64 * ((i - 28) / 63 + 1) + (1 + (i - 28) % 63) by omega,enc_line x _ _ (by omega),if_neg (by omega)]
  congr 1; omega
theorem decVC_true (x : ZDec) (hx : x.b.may/\x.b.key.size < 1099511627776/\x.b.value.size < 1099511627776/\∀ k,k < 64 * x.b.spnN->x.g k = x.b.enc k) : decVC x := by
 obtain ⟨hm,hk,hv,hg⟩ := hx
 have hc := cap_span hm.1
 have hC := may_cap hm
 have hD := may_nums hm
 have hE := enc_num hm
 have hS : (x.b.spnN : Int) = spn x.b.cls := by unfold ZBlk.spnN; omega
 have g0 : x.g 0 = 1 := by rw [hg 0 (by omega),enc_h32 (by omega)]; rfl
 have g1 : x.g 1 = x.b.cls := by rw [hg 1 (by omega),enc_h32 (by omega)]; rfl
 have g2 : x.g 2 = x.b.kind := by rw [hg 2 (by omega),enc_h32 (by omega)]; rfl
 have g3 : x.g 3 = x.b.key.size := by rw [hg 3 (by omega),enc_h32 (by omega)]; rfl
 have hB : Bys.ok ⟨x.b.enc,0,64 * x.b.spnN,64 * x.b.spnN⟩ := ⟨by simp,by show 64 * x.b.spnN < _; omega,enc_u8 hm⟩
 have hkd : x.b.kind<=3 := by
  have := hm.2
  omega
 unfold decVC
 simp only [AE_w3,AE_w47,AE_w16,AE_w38,AE_w12,AE_w60,AE_w57,AE_w46,AE_w9,AE_w22,AE_w41,AE_w34,AE_w21,AE_w10,AE_w7,AE_w44,AE_w1,AE_w50]
 simp only [hd_iff,and_true,true_and,Nat.zero_add,Nat.add_zero,unit_ex,unit_all,true_implies,implies_true,Int.toNat_natCast,eq_self,and_self,eff_nil,cond_one,cond_int,ones_int,row_int,ones_bool,row_bool,cond_bool,ble0,Bool.true_and,Nat.sub_zero,List.getElem?_cons_zero,Option.some.injEq,Value.bool.injEq,Value.int.injEq,exists_eq_left',exists_eq_left,g0,g1,g2,g3]
 refine cP_intro (fun h => absurd (of_decide_eq_true h) (by omega)) fun _ => ⟨by decide,⟨by decide,by omega,by omega⟩,by decide,by omega,cP_intro (fun h => absurd h (by decide)) fun _ => ⟨by decide,by omega,by unfold I64; omega,cP_intro (fun h => absurd (beq_iff_eq.1 h) hm.1) fun _ => ⟨by decide,by omega,cP_intro (fun h => absurd (of_decide_eq_true h) (by omega)) fun _ => ⟨by decide,by omega,by unfold I64; omega,by decide,by omega,by unfold I64; omega,by unfold I64; omega,cP_intro (fun h => absurd (bne_iff_ne.1 h) (by omega)) fun _ => ⟨⟨by decide,by omega⟩,by omega,by unfold I64; omega,
  ⟨⟨x.b.enc,0,64 * x.b.spnN,64 * x.b.spnN⟩,4,2⟩,⟨hB,by show 4 + 2<=64 * x.b.spnN; omega,by show 1<=2; decide,by show 2<=8; decide⟩,⟨⟨rfl,rfl⟩,rfl,rfl⟩,⟨rfl,fun q hq => (hg q hq).symm⟩,by omega,?_⟩⟩⟩⟩⟩
 simp only [Nat.zero_add,hE]
 refine ⟨by unfold I64; omega,⟨⟨x.b.enc,0,64 * x.b.spnN,64 * x.b.spnN⟩,x.b.spnN⟩,⟨hB,rfl,by show 1<=x.b.spnN; omega,by show x.b.spnN<=8; omega⟩,⟨rfl,rfl⟩,⟨rfl,fun q hq => (hg q hq).symm⟩,?_⟩
 have hsz : (x.b.key ++ x.b.value).size = x.b.key.size + x.b.value.size := ByteArray.size_append
 have hstr : ∀ i (hi : i < (x.b.key ++ x.b.value).size),UInt8.ofNat ((ZDat.mk ⟨x.b.enc,0,64 * x.b.spnN,64 * x.b.spnN⟩ x.b.spnN).at_ i).toNat = (x.b.key ++ x.b.value).data[i] := fun i hi => by rw [enc_at]; exact dat_byteOf x.b i hi
 have s1 : (ZDat.mk ⟨x.b.enc,0,64 * x.b.spnN,64 * x.b.spnN⟩ x.b.spnN).str.size = 28 + 63 * (x.b.spnN - 1) := mkStr_size _ _
 have s2 : (ZDat.mk ⟨x.b.enc,0,64 * x.b.spnN,64 * x.b.spnN⟩ x.b.spnN).str.extract 0 x.b.key.size = x.b.key := mkStr_sub (by omega) (by show x.b.key.size<=28 + 63 * (x.b.spnN - 1); omega) fun i hi => by
  rw [hstr (0 + i) (by omega)]
  simp only [Nat.zero_add,ByteArray.data_append]
  exact Array.getElem_append_left hi
 have s3 : (ZDat.mk ⟨x.b.enc,0,64 * x.b.spnN,64 * x.b.spnN⟩ x.b.spnN).str.extract x.b.key.size ((x.b.key.size : Int) + (x.b.value.size : Int)).toNat = x.b.value := mkStr_sub (by omega) (by show ((x.b.key.size : Int) + (x.b.value.size : Int)).toNat<=28 + 63 * (x.b.spnN - 1); omega) fun i hi => by
  rw [hstr (x.b.key.size + i) (by omega)]
  simp only [ByteArray.data_append]
  have : x.b.key.data.size = x.b.key.size := rfl
  rw [Array.getElem_append_right (by omega)]
  congr 1
  omega
 rw [s2,s3,s1]
 have hget : ∀ a,a + 8<=64->(ZGet.mk ⟨x.b.enc,0,64 * x.b.spnN,64 * x.b.spnN⟩ a 8).b.ok/\a + 8<=64 * x.b.spnN/\1<=8/\8<=8 := fun a ha => ⟨hB,by omega,by decide,by decide⟩
 refine ⟨by unfold I64; omega,cP_intro (fun h => absurd (of_decide_eq_true h) (by omega)) fun _ => ⟨by omega,by omega,by unfold I64; omega,by omega,by omega,by omega,
  ⟨⟨x.b.enc,0,64 * x.b.spnN,64 * x.b.spnN⟩,8,8⟩,hget 8 (by decide),⟨⟨rfl,rfl⟩,rfl,rfl⟩,⟨rfl,fun q hq => (hg q hq).symm⟩,
  ⟨⟨x.b.enc,0,64 * x.b.spnN,64 * x.b.spnN⟩,16,8⟩,hget 16 (by decide),⟨⟨rfl,rfl⟩,rfl,rfl⟩,⟨rfl,fun q hq => (hg q hq).symm⟩,
  ⟨⟨x.b.enc,0,64 * x.b.spnN,64 * x.b.spnN⟩,24,8⟩,hget 24 (by decide),⟨⟨rfl,rfl⟩,rfl,rfl⟩,⟨rfl,fun q hq => (hg q hq).symm⟩,?_⟩⟩
 simp only [Nat.zero_add,hE]
 refine ⟨x.b,⟨hm,hk,hv⟩,⟨rfl,rfl,rfl,rfl,rfl,rfl,rfl⟩,?_⟩
 have hb : ∀ k,k < 64 * x.b.spnN->isByte [Value.int .u8 (x.g k)] = true := fun k hk => by rw [hg k hk]; exact isByte_u8 (enc_u8 hm k)
 have he : ∀ k,isByte [Value.int .u8 (x.b.enc k)] = true := fun k => isByte_u8 (enc_u8 hm k)
 have hq : ∀ n,n = 64 * x.b.spnN->(!(ByteArray.toList ⟨(List.map (fun k => (⟨BitVec.ofNat 8 (x.b.enc k).toNat⟩ : UInt8)) (List.range n)).toArray⟩ == ByteArray.toList ⟨(List.map (fun k => (⟨BitVec.ofNat 8 (x.g k).toNat⟩ : UInt8)) (List.range (64 * x.b.spnN))).toArray⟩)) = false := fun n hn => by
  subst hn
  rw [Bool.not_eq_false',toL_eq]
  congr 2
  exact List.map_congr_left fun k hk => by rw [hg k (List.mem_range.1 hk)]
 have h1 : x.b.cls = 0->64 = 64 * x.b.spnN := fun h => by
  have : spn x.b.cls = 1 := by rw [h]; rfl
  omega
 refine ⟨fun h => ⟨Nat.le_refl _,fun k _ => he k,Nat.le_refl _,hb,?_⟩,fun h => ⟨Nat.le_refl _,fun k _ => he k,Nat.le_refl _,hb,?_⟩⟩
 ·rw [hq 64 (h1 h),cP_false]
  exact ⟨trivial,trivial,trivial,trivial,trivial⟩
 ·rw [hq _ rfl,cP_false]
  exact ⟨trivial,trivial,trivial,trivial,trivial⟩
theorem tblB2_ok : TblOk Tryz.prog tblB2 := .cons (ctrT_ok span_ok) (.cons (ctrT_ok cap_ok) (.cons (ctrT_ok may_ok) (.cons (ctrT_ok head_ok) .nil)))
theorem enc_ok : CtrOk Tryz.prog 132 encC := ctr_endL tt_ok mixed tblB2_ok anEnc 200 5 (fun _ => rfl) (fun _ => ⟨fun _ => rfl,fun _ => rfl,trivial⟩) fun x hx => Eq.mp (encVC_ok x) (encVC_true x (hd_iff.1 hx))
theorem draft_ok : CtrOk Tryz.prog 55 draftC := det_end tt_ok mixed tblB2_ok noA 200 5 (fun _ => rfl) (fun _ => rfl) fun x hx => Eq.mp (draftVC_ok x) (draftVC_true x (hd_iff.1 hx))
theorem data_ok : CtrOk Tryz.prog 131 dataC := det_end tt_ok mixed .nil anData 200 5 (fun _ => rfl) (fun _ => rfl) fun x hx => Eq.mp (dataVC_ok x) (dataVC_true x (hd_iff.1 hx))
theorem tblB3_ok : TblOk Tryz.prog tblB3 := .cons (ctrT_ok span_ok) (.cons (ctrT_ok get_ok) (.cons (ctrT_ok data_ok) (.cons (ctrT_ok enc_ok) .nil)))
theorem dec_ok : CtrOk Tryz.prog 89 decC := det_end tt_ok mixed tblB3_ok noA 200 5 (fun _ => rfl) (fun _ => rfl) fun x hx => Eq.mp (decVC_ok x) (decVC_true x (hd_iff.1 hx))
end Go.Proofs.YtpnhfbegboogbaaGreat
end
section
namespace Go.Proofs.YtpnhfbegboogbaaGreat
open Go SE
def tabE : List AObj := .cells 192 (.av [.mp 1,.mp 2,.mp 3,.mp 4,.mp 5,.mp 6,.mp 7,.mp 8]) :: List.replicate 8 (.map [] 0)
def tallP : PCtr := pdet Unit (fun _ => [.ptr 0 0]) 1 (fun _ => [.m tabE]) (fun _ => Hd True) (fun _ => nilS) 1 (fun _ => [.m tabE])
end Go.Proofs.YtpnhfbegboogbaaGreat
end
section
namespace Go.Proofs.YtpnhfbegboogbaaGreat
open Go SE
def AH_w1 : Prop := True/\True/\True/\True/\True/\True/\True/\True/\True
def tallVC (x : Unit) : Prop :=
 ((0 : Int)<=0/\(0 : Int)<=7)/\I64 (1 : Int)/\((0 : Int)<=1/\(0 : Int)<=6)/\I64 (2 : Int)/\((0 : Int)<=2/\(0 : Int)<=5)/\I64 (3 : Int)/\((0 : Int)<=3/\(0 : Int)<=4)/\I64 (4 : Int)/\((0 : Int)<=4/\(0 : Int)<=3)/\I64 (5 : Int)/\((0 : Int)<=5/\(0 : Int)<=2)/\I64 (6 : Int)/\((0 : Int)<=6/\(0 : Int)<=1)/\I64 (7 : Int)/\((0 : Int)<=7/\(0 : Int)<=0)/\I64 (8 : Int)/\((0 : Int)<=0/\(0 : Int)<=255)/\I64 (0 : Int)/\I64 (0 : Int)/\I64 (0 : Int)/\I64 (1 : Int)/\∃ y : Unit,True/\Value.slice none 0 0 = Value.slice none 0 0/\AH_w1/\AH_w1
theorem tallVC_ok (x : Unit) : tallVC x = wpF Tryz.prog tblX tt (noA x) 200 5 41 (tallP.args x) (hO 9 (flatP 1 (tallP.l x))) (fun v h' => endsPK 1 x v h' tallP.outs) := by kernel_rfl
end Go.Proofs.YtpnhfbegboogbaaGreat
end
section
namespace Go.Proofs.YtpnhfbegboogbaaGreat
open Go SE
set_option linter.unusedSimpArgs false
theorem tallVC_true (x : Unit) : tallVC x := by
 unfold tallVC
 simp only [AH_w1]
 simp only [hd_iff,and_true,true_and,Nat.zero_add,Nat.add_zero,unit_ex,unit_all,true_implies,implies_true,Int.toNat_natCast,eq_self,and_self,eff_nil,cond_one,cond_int,ones_int,row_int,ones_bool,row_bool,cond_bool,ble0,Bool.true_and,Nat.sub_zero,List.getElem?_cons_zero,Option.some.injEq,Value.bool.injEq,Value.int.injEq,exists_eq_left',exists_eq_left,I64]
 omega
theorem tall_ok : CtrOk Tryz.prog 41 tallP.ctr := pctr_end tt_ok mixed tblX_ok 9 noA 200 5 (fun _ => ⟨rfl,rfl,rfl,rfl⟩) fun x _ => Eq.mp (tallVC_ok x) (tallVC_true x)
end Go.Proofs.YtpnhfbegboogbaaGreat
end
section
namespace Go.Proofs.YtpnhfbegboogbaaGreat
open Go
theorem disable (w : World) : (callFunc 211 #[]).run Tryz.prog w = .ok (.value (.tuple #[])) w := run_call_mark0 Tryz.func211 (by kernel_rfl) (by kernel_rfl) (by kernel_rfl) .disable (by kernel_rfl) w
theorem enable (w : World) : (callFunc 213 #[]).run Tryz.prog w = .ok (.value (.tuple #[])) w := run_call_mark0 Tryz.func213 (by kernel_rfl) (by kernel_rfl) (by kernel_rfl) .enable (by kernel_rfl) w
theorem acquire (a : Addr) (w : World) : (callFunc 214 #[.pointer (some a)]).run Tryz.prog w = .ok (.value (.tuple #[])) w := run_call_marked Tryz.func214 (by kernel_rfl) (by kernel_rfl) (by kernel_rfl) .acquire (by kernel_rfl) a w
theorem releaseMerge (a : Addr) (w : World) : (callFunc 216 #[.pointer (some a)]).run Tryz.prog w = .ok (.value (.tuple #[])) w := run_call_marked Tryz.func216 (by kernel_rfl) (by kernel_rfl) (by kernel_rfl) .releaseMerge (by kernel_rfl) a w
set_option maxRecDepth 100000 in
set_option maxHeartbeats 1600000 in
theorem ilock_free (a : Addr) (w : World) (hc : w.cell? a = some (.int .i32 0)) (hz : w.frozen? a = false) :
  Calls Tryz.prog 182 #[.pointer (some a)] w fun e w' => e = .returned (.tuple #[])/\w' = w.setCell a (.int .i32 1) := by
 have hd := disable
 have he := enable
 have ha := acquire
 have hcas := run_call_cas_hit (P := Tryz.prog) Tryz.func212 (by kernel_rfl) (by kernel_rfl) (by kernel_rfl) .i32 (by kernel_rfl) (y := 1) hc hz
 have hc' : (w.setCell a (.int .i32 1)).cell? a = some (.int .i32 1) := World.cell?_setCell_same w a _ hc
 have hcv := run_convert_to_unsafe (P := Tryz.prog) (src := 324) (dst := 328) Tryz.underlying324 Tryz.underlying328 (by kernel_rfl) hc'
 go_enter Tryz.func182,Tryz.ntmps182
 go_wp2
 all_goals first | exact ⟨rfl,rfl⟩ | (first | go_end0 | (simp only [Exit.inBlock,Exit.then]; refine bodyPost_ret (results_none rfl _ _ _) rfl ?_) | refine bodyPost_ret (results_none rfl _ _ _) rfl ?_)
 all_goals exact ⟨rfl,rfl⟩
set_option maxRecDepth 100000 in
set_option maxHeartbeats 1600000 in
theorem lock_free (a : Addr) (w : World) (hc : w.cell? a = some (.int .i32 0)) (hz : w.frozen? a = false) :
  Calls Tryz.prog 144 #[.pointer (some a)] w fun e w' => e = .returned (.tuple #[])/\w' = w.setCell a (.int .i32 1) := by
 go_enter Tryz.func144,Tryz.ntmps144
 go_wp2_with (go_at_call 182; refine (ilock_free a w hc hz).mono ?_; rintro e w' ⟨rfl,rfl⟩)
 all_goals first | exact ⟨rfl,rfl⟩ | (go_wp2; go_end0; exact ⟨rfl,rfl⟩) | (go_end0; exact ⟨rfl,rfl⟩)
set_option maxRecDepth 100000 in
set_option maxHeartbeats 1600000 in
theorem store_deferred (a : Addr) (x : Value) (u : FrameMode) (w : World) (hc : w.cell? a = some x) (hz : w.frozen? a = false) :
  CallsD Tryz.prog 146 #[.pointer (some a),.bool true] u w fun e u' w' => u' = u/\(e = .returned (.tuple #[])/\w' = w.drew.setCell a (.int .u32 1)) := by
 have hc' : w.drew.cell? a = some x := by go_simp
 have hz' : w.drew.frozen? a = false := by go_simp
 have hst := run_call_store (P := Tryz.prog) Tryz.func184 (by kernel_rfl) (by kernel_rfl) (by kernel_rfl) (by kernel_rfl) (k := .u32) (y := 1) hc' hz'
 go_enter_d Tryz.func146,Tryz.ntmps146
 go_wp2
 go_region_calls
 all_goals (go_end0; exact ⟨rfl,rfl⟩)
set_option maxRecDepth 100000 in
set_option maxHeartbeats 1600000 in
theorem iunlock (a : Addr) (w : World) (hc : w.cell? a = some (.int .i32 1)) (hz : w.frozen? a = false) :
  Calls Tryz.prog 183 #[.pointer (some a)] w fun e w' => e = .returned (.tuple #[])/\w' = w.setCell a (.int .i32 0) := by
 have hd := disable
 have he := enable
 have hr := releaseMerge
 have hadd := run_call_add (P := Tryz.prog) Tryz.func217 (by kernel_rfl) (by kernel_rfl) (by kernel_rfl) .i32 (by kernel_rfl) (y := -1) (s := 0) hc hz (by simp [go_sem]; rfl)
 have hcv := run_convert_to_unsafe (P := Tryz.prog) (src := 324) (dst := 328) Tryz.underlying324 Tryz.underlying328 (by kernel_rfl) hc
 go_enter Tryz.func183,Tryz.ntmps183
 go_wp2
 all_goals first | exact ⟨rfl,rfl⟩ | go_end0
 all_goals first | exact ⟨rfl,rfl⟩ | go_wp2
 all_goals first | exact ⟨rfl,rfl⟩ | go_end0
 all_goals first | exact ⟨rfl,rfl⟩
set_option maxRecDepth 100000 in
set_option maxHeartbeats 1600000 in
theorem unlock_deferred (a : Addr) (u : FrameMode) (w : World) (hc : w.cell? a = some (.int .i32 1)) (hz : w.frozen? a = false) :
  CallsD Tryz.prog 145 #[.pointer (some a)] u w fun e u' w' => u' = u/\(e = .returned (.tuple #[])/\w' = w.setCell a (.int .i32 0)) := by
 go_enter_d Tryz.func145,Tryz.ntmps145
 go_wp2_with (go_at_call 183; refine (iunlock a w hc hz).mono ?_; rintro e w' ⟨rfl,rfl⟩)
 all_goals first | exact ⟨rfl,rfl⟩ | (go_wp2; go_end0; exact ⟨rfl,rfl⟩) | (go_end0; exact ⟨rfl,rfl⟩)
set_option maxRecDepth 100000 in
set_option maxHeartbeats 1600000 in
theorem slow_any (b off : Nat) (g : FuncId) (fa ca : Array Value) (w : World) (R : World->Prop) (hc : SE.Callable Tryz.prog g)
  (h0 : w.cell? ⟨b,off,none⟩ = some (.int .u32 0)) (h1 : w.cell? ⟨b,off + 1,none⟩ = some (.int .i32 0)) (f0 : w.frozen? ⟨b,off,none⟩ = false) (f1 : w.frozen? ⟨b,off + 1,none⟩ = false)
  (hf : Calls Tryz.prog g (fa ++ ca) (w.setCell ⟨b,off + 1,none⟩ (.int .i32 1)) fun e w' => (∃ u,e = .returned u)/\w'.cell? ⟨b,off,none⟩ = some (.int .u32 0)/\w'.frozen? ⟨b,off,none⟩ = false /\
   w'.cell? ⟨b,off + 1,none⟩ = some (.int .i32 1)/\w'.frozen? ⟨b,off + 1,none⟩ = false/\R w') :
  Calls Tryz.prog 108 #[.pointer (some ⟨b,off,none⟩),.func (.func g) fa ca] w fun e w' => e = .returned (.tuple #[])/\∃ w2,R w2 /\
   w' = (w2.drew.setCell ⟨b,off,none⟩ (.int .u32 1)).setCell ⟨b,off + 1,none⟩ (.int .i32 0) := by
 have hl := run_call_load (P := Tryz.prog) Tryz.func143 (by kernel_rfl) (by kernel_rfl) (by kernel_rfl) .u32 (by kernel_rfl) (w := w.setCell ⟨b,off + 1,none⟩ (.int .i32 1)) (a := ⟨b,off,none⟩) (x := 0) ((World.cell?_setCell_other _ ⟨b,off + 1,none⟩ ⟨b,off,none⟩ _ (by simp)).trans h0)
 have hnot : ∀ (x : Bool) (w : World),(Op.unary .not (.bool x)).run Tryz.prog w = .ok (.bool (!x)) w := fun _ _ => rfl
 have hrun := SE.callable_run hc
 go_enter_defers Tryz.func108,Tryz.ntmps108
 go_wp2_with (go_at_call 144; refine (lock_free ⟨b,off + 1,none⟩ _ (by go_simp) (by go_simp)).mono ?_; rintro e w' ⟨rfl,rfl⟩)
 go_wp2
 refine hf.mono ?_
 rintro e w' ⟨⟨u,rfl⟩,c0,z0,c1,z1,hR⟩
 go_wp2
 refine leaves_cons (f := 146) (args := #[.pointer (some ⟨b,off,none⟩),.bool true]) (by simp) (by simp [go_sem]) ?_
 refine (store_deferred ⟨b,off,none⟩ (.int .u32 0) .returning _ c0 z0).mono ?_
 rintro e u' w'' ⟨rfl,rfl,rfl⟩
 refine leaves_cons (f := 145) (args := #[.pointer (some ⟨b,off + 1,none⟩)]) (by simp [settle]) (by simp [go_sem]) ?_
 refine (unlock_deferred ⟨b,off + 1,none⟩ _ _ ?_ ?_).mono ?_
 ·refine (World.cell?_setCell_other _ ⟨b,off,none⟩ ⟨b,off + 1,none⟩ _ (by simp)).trans ?_
  rw [World.cell?_drew]; exact c1
 ·simp [z1]
 rintro e u' w'' ⟨rfl,rfl,rfl⟩
 simp [Leaves,settle,results,Tryz.results108]
 exact ⟨w',hR,rfl⟩
end Go.Proofs.YtpnhfbegboogbaaGreat
end
section
namespace Go.Proofs.YtpnhfbegboogbaaGreat
open Go SE
def isU0 (k : IntKind) (z : Int) (x : Option AV) : Bool := match x with
 | some (.lit (.int k' z')) => decide (k' = k) && decide (z' = z)
 | _ => false
theorem isU0_iff {k : IntKind} {z : Int} {x : Option AV} (h : isU0 k z x = true) : x = some (.lit (.int k z)) := by
 unfold isU0 at h
 split at h
 ·simp only [Bool.and_eq_true,decide_eq_true_eq] at h
  obtain ⟨rfl,rfl⟩ := h; rfl
 ·cases h
def onceEnd (i o : Nat) (K : AV->Heap->Prop) (h2 : Heap) : Prop :=
 bif isU0 .u32 0 (cellAt h2 i o) && isU0 .i32 1 (cellAt h2 i (o + 1)) && (setCell h2 i (o + 1) (.lit (.int .i32 0))).isSome then (match setCell h2 i o (.lit (.int .u32 1)) with
  | some h3 => match setCell h3 i (o + 1) (.lit (.int .i32 0)) with
   | some h4 => K (.tup []) h4
   | none => False
  | none => False) else False
def onceT (tbl : WTbl) : WTr := fun args h K => match args with
 | [.ptr i o,.fn (.func g) first cap] => bif isU0 .u32 0 (cellAt h i o) && isU0 .i32 0 (cellAt h i (o + 1)) && (setCell h i o (.lit (.int .u32 1))).isSome then (match setCell h i (o + 1) (.lit (.int .i32 1)) with
  | some h1 => wpF Tryz.prog tbl tt (fun _ _ _ _ => []) 200 5 g (first ++ cap) h1 (fun _ h2 => onceEnd i o K h2)
  | none => False) else False
 | _ => False
theorem cell_at {h : Heap} {ρ : Ren} {T : Nat->Prop} {w : World} (hR : Rel h ρ T w) {i o : Nat} {b : SE.Loc} {k : IntKind} {z : Int} (hb : ρ i = some b) (hc : isU0 k z (cellAt h i o) = true) : w.cell? ⟨b.blk,b.base + o,none⟩ = some (.int k z) := by
 obtain ⟨b',hb',y,hy,hr⟩ := hR.cell (isU0_iff hc)
 obtain rfl : b' = b := Option.some.inj (hb'.symm.trans hb)
 simp only [VRel] at hr
 subst hr; exact hy
theorem put_at {h h' : Heap} {i o : Nat} {k : IntKind} {z : Int} (hs : setCell h i o (.lit (.int k z)) = some h') : putI h i o k z (fun x => x = h') := by unfold putI; rw [hs]
theorem onceT_ok {tbl : WTbl} (ht : TblOk Tryz.prog tbl) (args : List AV) (h : Heap) (K : AV->Heap->Prop) (hq : onceT tbl args h K) : Sp Tryz.prog 108 args h K := by
 unfold onceT at hq
 split at hq
 ·rename_i i o g first cap
  cases hc : (isU0 .u32 0 (cellAt h i o) && isU0 .i32 0 (cellAt h i (o + 1)) && (setCell h i o (.lit (.int .u32 1))).isSome) <;> rw [hc] at hq
  ·exact hq.elim
  ·simp only [cond_true] at hq
   simp only [Bool.and_eq_true] at hc
   obtain ⟨⟨c0,c1⟩,c2⟩ := hc
   split at hq
   ·rename_i h1 hs1
    have hsp := wpF_ok tt_ok mixed ht _ _ _ _ _ _ _ hq
    refine ⟨⟨_,Tryz.func108,by kernel_rfl,by kernel_rfl⟩,fun ρ T w vs hR hl => ?_⟩
    simp only [LRel] at hl
    obtain ⟨u0,_,hvs,hu0,u1,_,rfl,hu1,rfl⟩ := hl
    simp only [VRel] at hu0 hu1
    obtain ⟨b,hb,rfl⟩ := hu0
    obtain ⟨fa,ca,rfl,hfa,hca⟩ := hu1
    have hvs' := vs2 hvs
    rw [hvs']
    have e1 : b.base + (o + 1) = b.base + o + 1 := by omega
    obtain ⟨h1',f1,R1,n1,K1,rfl⟩ := putI_ok (P := Tryz.prog) hR (put_at hs1) hb
    have f0 : w.frozen? ⟨b.blk,b.base + o,none⟩ = false := by
     obtain ⟨h5,hs5⟩ := Option.isSome_iff_exists.1 c2
     exact hR.ownCell hs5 hb
    have g0 := cell_at hR hb c0
    have g1 := cell_at hR hb c1
    rw [e1] at g1 f1
    refine (slow_any b.blk (b.base + o) g fa ca w (fun w2 => ∃ ρ2 h2,(∀ j,j < h.next->ρ2 j = ρ j)/\h.next<=h2.next/\Rel h2 ρ2 T w2/\Keeps T w w2/\onceEnd i o K h2) hsp.1 g0 g1 f0 f1 ?_).mono ?_
    ·refine (hsp.2 ρ T _ (fa ++ ca) (by rw [← e1]; exact R1) (by rw [Array.toList_append]; exact hfa.append hca)).mono ?_
     rintro e w2 ⟨ρ2,v3,u,h2,q1,q2,q3,q4,rfl,q5,hq⟩
     have hi : i < h1'.next := by
      rcases Nat.lt_or_ge i h1'.next with hlt | hge
      ·exact hlt
      ·obtain ⟨_,_,_,_,r4,_⟩ := R1
       rw [r4 i hge] at hb; cases hb
     have hb2 : ρ2 i = some b := (q1 i hi).trans hb
     have hq0 := hq
     unfold onceEnd at hq
     cases hc2 : (isU0 .u32 0 (cellAt h2 i o) && isU0 .i32 1 (cellAt h2 i (o + 1)) && (setCell h2 i (o + 1) (.lit (.int .i32 0))).isSome) <;> rw [hc2] at hq
     ·exact hq.elim
     ·simp only [cond_true] at hq
      simp only [Bool.and_eq_true] at hc2
      obtain ⟨⟨d0,d1⟩,d2⟩ := hc2
      split at hq
      ·rename_i h3 hs3
       obtain ⟨h5,hs5⟩ := Option.isSome_iff_exists.1 d2
       obtain ⟨_,z1,_⟩ := putI_ok (P := Tryz.prog) q3 (put_at hs5) hb2
       obtain ⟨_,z0,_⟩ := putI_ok (P := Tryz.prog) q3 (put_at hs3) hb2
       have m0 := cell_at q3 hb2 d0
       have m1 := cell_at q3 hb2 d1
       rw [e1] at m1 z1
       exact ⟨⟨u,rfl⟩,m0,z0,m1,z1,ρ2,h2,fun j hj => q1 j (by rw [n1]; exact hj),by rw [← n1]; exact q2,q3,(by rw [e1] at K1; exact K1.trans q5),hq0⟩
      ·exact hq.elim
    ·rintro e w' ⟨rfl,w2,⟨ρ2,h2,q1,q2,q3,q5,hq⟩,rfl⟩
     have hi : i < h.next := by
      rcases Nat.lt_or_ge i h.next with hlt | hge
      ·exact hlt
      ·obtain ⟨_,_,_,_,r4,_⟩ := hR
       rw [r4 i hge] at hb; cases hb
     have hb2 : ρ2 i = some b := (q1 i hi).trans hb
     unfold onceEnd at hq
     cases hc2 : (isU0 .u32 0 (cellAt h2 i o) && isU0 .i32 1 (cellAt h2 i (o + 1)) && (setCell h2 i (o + 1) (.lit (.int .i32 0))).isSome) <;> rw [hc2] at hq
     ·exact hq.elim
     ·simp only [cond_true] at hq
      split at hq
      ·rename_i h3 hs3
       split at hq
       ·rename_i h4 hs4
        obtain ⟨h3',_,R3,n3,K3,rfl⟩ := putI_ok (P := Tryz.prog) q3.drew (put_at hs3) hb2
        obtain ⟨h4',_,R4,n4,K4,rfl⟩ := putI_ok (P := Tryz.prog) R3 (put_at hs4) hb2
        rw [e1] at R4 K4
        exact ⟨ρ2,_,_,_,q1,by omega,R4,by simp only [VRel]; exact ⟨_,rfl,.nil⟩,rfl,((q5.trans (Keeps.drew T w2)).trans K3).trans K4,hq⟩
       ·exact hq.elim
      ·exact hq.elim
   ·exact hq.elim
 ·exact hq.elim
end Go.Proofs.YtpnhfbegboogbaaGreat
end
section
namespace Go.Proofs.YtpnhfbegboogbaaGreat
open Go SE
def headS (n : Nat) (k : Nat) : Int := if k = 0 then 4 else if k = 1 then 70 else if k = 2 then 85 else if k = 3 then 83 else if k = 4 then 69 else (n : Int) / 256 ^ (k - 5) % 256
noncomputable def superG (n : Nat) (k : Nat) : Int := if k < 9 then headS n k else if k < 13 then addM 0 (headS n) 9 / 256 ^ (k - 9) % 256 else 0
noncomputable def superC : Ctr := det Nat (fun n => [i64 n]) 0 (fun _ => []) (fun n => Hd (10<=n/\n<=258)) (fun _ => .tup [.slE 0 0 1 64 64,i64 0]) 1 (fun n => [.cells 273 (rowB (superG n) 64)])
def DevM.wide (d : DevM) (k : Int) : Prop := d.st + k < 1099511627776/\d.fl + k < 1099511627776/\d.fe + k < 1099511627776
noncomputable def formatP : PCtr := { X := DevM,args := fun _ => [.ptr 0 0],k := 1,l := fun d => [.m d.os],pre := fun d => Hd (d.ok/\10<=d.n/\d.wide 10),outs := [
 { Y := DevM,post := fun d d' => Hd (d'.ok/\d'.n = d.n/\d'.st = d.st + 2/\d'.fl = d.fl + 2/\d'.fe = d.fe + 1),ret := fun _ _ => i64 0,m := 1,l := fun _ d' => [.m d'.os] }] }
noncomputable def tblF1 : WTbl := [(109,ctrT superC),(110,ctrT clockC),(54,ctrT storeC),(95,ctrT flushC),(96,ctrT fenceC)]
end Go.Proofs.YtpnhfbegboogbaaGreat
end
section
namespace Go.Proofs.YtpnhfbegboogbaaGreat
open Go SE
def AM_w1 (a : PutX) (b : Nat) : Prop := (Nat.beq (List.length [Value.int .u8 (a.res (0 + b))]) 1 && List.all [Value.int .u8 (a.res (0 + b))] Value.oneCell') = true
def AM_w8 (a : DevM) (b : DevM) : Prop := a.fe = b.fe/\a.ba = b.ba/\a.cu = b.cu/\True
def AM_w2 (a : DevM) (b : DevL) : Prop := ((0 = 0/\a.n = b.d.n/\a.n = b.d.n)/\a.st = b.d.st/\a.fl = ite (b.k < b.d.n) (b.d.fl + 1) b.d.fl/\AM_w8 a b.d)/\(a.n * 193 = b.d.n * 193/\∀ q : Nat,q < a.n * 193->Cs.eff (devR a) [] q = Cs.eff (devR (b.d.flush b.k)) [] q)/\True
def AM_w3 (a : PutX) : Prop := ∀ k : Nat,k < a.b.n->AM_w1 a k
def AM_w4 (a : PutX) : Prop := ∀ k : Nat,k < 64->AM_w1 a k
def AM_w5 : Prop := 0<=64/\64<=64/\64<=64
def AM_w9 : Prop := (0 = 0/\64 = 64/\64 = 64)/\(0 : Int) = 0/\True
def AM_w10 (a : DevM) (b : DevS) : Prop := a.n * 193 = b.d.n * 193/\∀ q : Nat,q < a.n * 193->Cs.eff (devR a) [] q = Cs.eff (devR (b.d.store b.k b.a b.b.n (fun (q_1 : Nat) => b.b.g (b.b.q + q_1)))) [] q
def AM_w12 (a : PutX) (b : ∀ a : Nat,Int) (c : Nat) : Prop := (a.b.q = 0/\a.b.n = 64/\a.c = 64)/\(a.at_ : Int) = 9/\(a.w : Int) = 4/\a.v = IntKind.wrap .u64 (addM (0 : Int) b c)/\True
def AM_w14 (a : DevM) (b : DevM) : Prop := (0 = 0/\a.n = b.n/\a.n = b.n)/\a.st = b.st + 1/\a.fl = b.fl/\AM_w8 a b
def AM_w15 : Prop := ∃ y : Unit,True/\(False/\(0 : Int) = 2/\True)/\False/\True
def superVC (x : Nat) : Prop :=
 cP (decide ((x : Int) < 10)) AM_w15 (cP (decide ((x : Int) > (258 : Int))) AM_w15 (∃ x_1 : PutX,Hd x_1.ok/\((x_1.b.q = 0/\x_1.b.n = 9/\x_1.c = 9)/\(x_1.at_ : Int) = 5/\(x_1.w : Int) = 4/\x_1.v = IntKind.wrap .u64 (x : Int)/\True)/\((x_1.b.N = 9/\∀ q : Nat,q < x_1.b.N->[Value.int .u8 (x_1.b.g q)] = [List.getD [Value.int .u8 4,Value.int .u8 70,Value.int .u8 85,Value.int .u8 83,Value.int .u8 69,Value.int .u8 0,Value.int .u8 0,Value.int .u8 0,Value.int .u8 0] q (@Inhabited.default Value @instInhabitedValue)])/\True)/\∀ y : Unit,True->AM_w5/\64<=64/\cP (Nat.ble x_1.b.n 64) (0 + x_1.b.n<=x_1.b.n/\AM_w3 x_1/\AM_w5/\0 + x_1.b.n<=x_1.b.n/\∃ n : Nat,∃ g : ∀ a : Nat,Int,x_1.b.n = n/\n < 1099511627776/\(∀ k : Nat,k < n->[Value.int .u8 (x_1.res (0 + k))] = [Value.int .u8 (g k)])/\(∀ k : Nat,0<=g k/\g k < 256)/\True/\∃ x_2 : PutX,Hd x_2.ok/\AM_w12 x_2 g n/\((x_2.b.N = 64/\∀ q : Nat,q < x_2.b.N->[Value.int .u8 (x_2.b.g q)] = Cs.eff (fun (p : Nat) => cond (Nat.ble 0 p && Nat.blt p (0 + x_1.b.n)) [Value.int .u8 (x_1.res (0 + (p - 0)))] [Value.int .u8 0]) [] q)/\True)/\∀ y_1 : Unit,True->True/\AM_w5/\64<=64/\cP (Nat.ble x_2.b.n 64) (0 + x_2.b.n<=x_2.b.n/\AM_w3 x_2/\
 (∀ k : Nat,k < 64->(Nat.beq (List.length (Cs.eff (fun (p : Nat) => cond (Nat.ble 0 p && Nat.blt p (0 + x_2.b.n)) [Value.int .u8 (x_2.res (0 + (p - 0)))] (Cs.eff (fun (p_1 : Nat) => cond (Nat.ble 0 p_1 && Nat.blt p_1 (0 + x_1.b.n)) [Value.int .u8 (x_1.res (0 + (p_1 - 0)))] [Value.int .u8 0]) [] p)) [] k)) 1 && List.all (Cs.eff (fun (p : Nat) => cond (Nat.ble 0 p && Nat.blt p (0 + x_2.b.n)) [Value.int .u8 (x_2.res (0 + (p - 0)))] (Cs.eff (fun (p_1 : Nat) => cond (Nat.ble 0 p_1 && Nat.blt p_1 (0 + x_1.b.n)) [Value.int .u8 (x_1.res (0 + (p_1 - 0)))] [Value.int .u8 0]) [] p)) [] k) Value.oneCell') = true)/\(∀ k : Nat,k < 64->(Nat.beq (List.length (Cs.eff (Cs.eff (fun (p : Nat) => cond (Nat.ble 0 p && Nat.blt p (0 + x_2.b.n)) [Value.int .u8 (x_2.res (0 + (p - 0)))] (Cs.eff (fun (p_1 : Nat) => cond (Nat.ble 0 p_1 && Nat.blt p_1 (0 + x_1.b.n)) [Value.int .u8 (x_1.res (0 + (p_1 - 0)))] [Value.int .u8 0]) [] p)) []) [] k)) 1 && List.all (Cs.eff (Cs.eff (fun (p : Nat) => cond (Nat.ble 0 p && Nat.blt p (0 + x_2.b.n)) [Value.int .u8 (x_2.res (0 + (p - 0)))] (Cs.eff (fun (p_1 : Nat) => cond (Nat.ble 0 p_1 && Nat.blt p_1 (0 + x_1.b.n)) [Value.int .u8 (x_1.res (0 + (p_1 - 0)))] [Value.int .u8 0]) [] p)) []) [] k) Value.oneCell') = true)/\
 (∀ k : Nat,k < 64->(Nat.beq (List.length (Cs.eff (Cs.eff (Cs.eff (fun (p : Nat) => cond (Nat.ble 0 p && Nat.blt p (0 + x_2.b.n)) [Value.int .u8 (x_2.res (0 + (p - 0)))] (Cs.eff (fun (p_1 : Nat) => cond (Nat.ble 0 p_1 && Nat.blt p_1 (0 + x_1.b.n)) [Value.int .u8 (x_1.res (0 + (p_1 - 0)))] [Value.int .u8 0]) [] p)) []) []) [] k)) 1 && List.all (Cs.eff (Cs.eff (Cs.eff (fun (p : Nat) => cond (Nat.ble 0 p && Nat.blt p (0 + x_2.b.n)) [Value.int .u8 (x_2.res (0 + (p - 0)))] (Cs.eff (fun (p_1 : Nat) => cond (Nat.ble 0 p_1 && Nat.blt p_1 (0 + x_1.b.n)) [Value.int .u8 (x_1.res (0 + (p_1 - 0)))] [Value.int .u8 0]) [] p)) []) []) [] k) Value.oneCell') = true)/\AM_w5/\∃ y_2 : Unit,True/\AM_w9/\(64 = 64/\∀ q : Nat,q < 64->[Value.int .u8 (superG x q)] = Cs.eff (Cs.eff (Cs.eff (Cs.eff (fun (p : Nat) => cond (Nat.ble 0 p && Nat.blt p (0 + x_2.b.n)) [Value.int .u8 (x_2.res (0 + (p - 0)))] (Cs.eff (fun (p_1 : Nat) => cond (Nat.ble 0 p_1 && Nat.blt p_1 (0 + x_1.b.n)) [Value.int .u8 (x_1.res (0 + (p_1 - 0)))] [Value.int .u8 0]) [] p)) []) []) []) [] q)/\True) (64<=x_2.b.n/\AM_w4 x_2/\(∀ k : Nat,k < 64->(Nat.beq (List.length (Cs.eff (fun (p : Nat) => cond (Nat.ble 0 p && Nat.blt p 64) [Value.int .u8 (x_2.res (0 + (p - 0)))] (Cs.eff (fun (p_1 : Nat) => cond (Nat.ble 0 p_1 && Nat.blt p_1 (0 + x_1.b.n)) [Value.int .u8 (x_1.res (0 + (p_1 - 0)))] [Value.int .u8 0]) [] p)) [] k)) 1 && List.all (Cs.eff (fun (p : Nat) => cond (Nat.ble 0 p && Nat.blt p 64) [Value.int .u8 (x_2.res (0 + (p - 0)))] (Cs.eff (fun (p_1 : Nat) => cond (Nat.ble 0 p_1 && Nat.blt p_1 (0 + x_1.b.n)) [Value.int .u8 (x_1.res (0 + (p_1 - 0)))] [Value.int .u8 0]) [] p)) [] k) Value.oneCell') = true)/\
 (∀ k : Nat,k < 64->(Nat.beq (List.length (Cs.eff (Cs.eff (fun (p : Nat) => cond (Nat.ble 0 p && Nat.blt p 64) [Value.int .u8 (x_2.res (0 + (p - 0)))] (Cs.eff (fun (p_1 : Nat) => cond (Nat.ble 0 p_1 && Nat.blt p_1 (0 + x_1.b.n)) [Value.int .u8 (x_1.res (0 + (p_1 - 0)))] [Value.int .u8 0]) [] p)) []) [] k)) 1 && List.all (Cs.eff (Cs.eff (fun (p : Nat) => cond (Nat.ble 0 p && Nat.blt p 64) [Value.int .u8 (x_2.res (0 + (p - 0)))] (Cs.eff (fun (p_1 : Nat) => cond (Nat.ble 0 p_1 && Nat.blt p_1 (0 + x_1.b.n)) [Value.int .u8 (x_1.res (0 + (p_1 - 0)))] [Value.int .u8 0]) [] p)) []) [] k) Value.oneCell') = true)/\(∀ k : Nat,k < 64->(Nat.beq (List.length (Cs.eff (Cs.eff (Cs.eff (fun (p : Nat) => cond (Nat.ble 0 p && Nat.blt p 64) [Value.int .u8 (x_2.res (0 + (p - 0)))] (Cs.eff (fun (p_1 : Nat) => cond (Nat.ble 0 p_1 && Nat.blt p_1 (0 + x_1.b.n)) [Value.int .u8 (x_1.res (0 + (p_1 - 0)))] [Value.int .u8 0]) [] p)) []) []) [] k)) 1 && List.all (Cs.eff (Cs.eff (Cs.eff (fun (p : Nat) => cond (Nat.ble 0 p && Nat.blt p 64) [Value.int .u8 (x_2.res (0 + (p - 0)))] (Cs.eff (fun (p_1 : Nat) => cond (Nat.ble 0 p_1 && Nat.blt p_1 (0 + x_1.b.n)) [Value.int .u8 (x_1.res (0 + (p_1 - 0)))] [Value.int .u8 0]) [] p)) []) []) [] k) Value.oneCell') = true)/\AM_w5/\∃ y_2 : Unit,True/\AM_w9/\(64 = 64/\∀ q : Nat,q < 64->[Value.int .u8 (superG x q)] = Cs.eff (Cs.eff (Cs.eff (Cs.eff (fun (p : Nat) => cond (Nat.ble 0 p && Nat.blt p 64) [Value.int .u8 (x_2.res (0 + (p - 0)))] (Cs.eff (fun (p_1 : Nat) => cond (Nat.ble 0 p_1 && Nat.blt p_1 (0 + x_1.b.n)) [Value.int .u8 (x_1.res (0 + (p_1 - 0)))] [Value.int .u8 0]) [] p)) []) []) []) [] q)/\True)) (64<=x_1.b.n/\AM_w4 x_1/\AM_w5/\0 + x_1.b.n<=x_1.b.n/\∃ n : Nat,∃ g : ∀ a : Nat,Int,x_1.b.n = n/\n < 1099511627776/\
 (∀ k : Nat,k < n->[Value.int .u8 (x_1.res (0 + k))] = [Value.int .u8 (g k)])/\(∀ k : Nat,0<=g k/\g k < 256)/\True/\∃ x_2 : PutX,Hd x_2.ok/\AM_w12 x_2 g n/\((x_2.b.N = 64/\∀ q : Nat,q < x_2.b.N->[Value.int .u8 (x_2.b.g q)] = Cs.eff (fun (p : Nat) => cond (Nat.ble 0 p && Nat.blt p 64) [Value.int .u8 (x_1.res (0 + (p - 0)))] [Value.int .u8 0]) [] q)/\True)/\∀ y_1 : Unit,True->True/\AM_w5/\64<=64/\cP (Nat.ble x_2.b.n 64) (0 + x_2.b.n<=x_2.b.n/\AM_w3 x_2/\(∀ k : Nat,k < 64->(Nat.beq (List.length (Cs.eff (fun (p : Nat) => cond (Nat.ble 0 p && Nat.blt p (0 + x_2.b.n)) [Value.int .u8 (x_2.res (0 + (p - 0)))] (Cs.eff (fun (p_1 : Nat) => cond (Nat.ble 0 p_1 && Nat.blt p_1 64) [Value.int .u8 (x_1.res (0 + (p_1 - 0)))] [Value.int .u8 0]) [] p)) [] k)) 1 && List.all (Cs.eff (fun (p : Nat) => cond (Nat.ble 0 p && Nat.blt p (0 + x_2.b.n)) [Value.int .u8 (x_2.res (0 + (p - 0)))] (Cs.eff (fun (p_1 : Nat) => cond (Nat.ble 0 p_1 && Nat.blt p_1 64) [Value.int .u8 (x_1.res (0 + (p_1 - 0)))] [Value.int .u8 0]) [] p)) [] k) Value.oneCell') = true)/\(∀ k : Nat,k < 64->(Nat.beq (List.length (Cs.eff (Cs.eff (fun (p : Nat) => cond (Nat.ble 0 p && Nat.blt p (0 + x_2.b.n)) [Value.int .u8 (x_2.res (0 + (p - 0)))] (Cs.eff (fun (p_1 : Nat) => cond (Nat.ble 0 p_1 && Nat.blt p_1 64) [Value.int .u8 (x_1.res (0 + (p_1 - 0)))] [Value.int .u8 0]) [] p)) []) [] k)) 1 && List.all (Cs.eff (Cs.eff (fun (p : Nat) => cond (Nat.ble 0 p && Nat.blt p (0 + x_2.b.n)) [Value.int .u8 (x_2.res (0 + (p - 0)))] (Cs.eff (fun (p_1 : Nat) => cond (Nat.ble 0 p_1 && Nat.blt p_1 64) [Value.int .u8 (x_1.res (0 + (p_1 - 0)))] [Value.int .u8 0]) [] p)) []) [] k) Value.oneCell') = true)/\
 (∀ k : Nat,k < 64->(Nat.beq (List.length (Cs.eff (Cs.eff (Cs.eff (fun (p : Nat) => cond (Nat.ble 0 p && Nat.blt p (0 + x_2.b.n)) [Value.int .u8 (x_2.res (0 + (p - 0)))] (Cs.eff (fun (p_1 : Nat) => cond (Nat.ble 0 p_1 && Nat.blt p_1 64) [Value.int .u8 (x_1.res (0 + (p_1 - 0)))] [Value.int .u8 0]) [] p)) []) []) [] k)) 1 && List.all (Cs.eff (Cs.eff (Cs.eff (fun (p : Nat) => cond (Nat.ble 0 p && Nat.blt p (0 + x_2.b.n)) [Value.int .u8 (x_2.res (0 + (p - 0)))] (Cs.eff (fun (p_1 : Nat) => cond (Nat.ble 0 p_1 && Nat.blt p_1 64) [Value.int .u8 (x_1.res (0 + (p_1 - 0)))] [Value.int .u8 0]) [] p)) []) []) [] k) Value.oneCell') = true)/\AM_w5/\∃ y_2 : Unit,True/\AM_w9/\(64 = 64/\∀ q : Nat,q < 64->[Value.int .u8 (superG x q)] = Cs.eff (Cs.eff (Cs.eff (Cs.eff (fun (p : Nat) => cond (Nat.ble 0 p && Nat.blt p (0 + x_2.b.n)) [Value.int .u8 (x_2.res (0 + (p - 0)))] (Cs.eff (fun (p_1 : Nat) => cond (Nat.ble 0 p_1 && Nat.blt p_1 64) [Value.int .u8 (x_1.res (0 + (p_1 - 0)))] [Value.int .u8 0]) [] p)) []) []) []) [] q)/\True) (64<=x_2.b.n/\AM_w4 x_2/\(∀ k : Nat,k < 64->(Nat.beq (List.length (Cs.eff (fun (p : Nat) => cond (Nat.ble 0 p && Nat.blt p 64) [Value.int .u8 (x_2.res (0 + (p - 0)))] (Cs.eff (fun (p_1 : Nat) => cond (Nat.ble 0 p_1 && Nat.blt p_1 64) [Value.int .u8 (x_1.res (0 + (p_1 - 0)))] [Value.int .u8 0]) [] p)) [] k)) 1 && List.all (Cs.eff (fun (p : Nat) => cond (Nat.ble 0 p && Nat.blt p 64) [Value.int .u8 (x_2.res (0 + (p - 0)))] (Cs.eff (fun (p_1 : Nat) => cond (Nat.ble 0 p_1 && Nat.blt p_1 64) [Value.int .u8 (x_1.res (0 + (p_1 - 0)))] [Value.int .u8 0]) [] p)) [] k) Value.oneCell') = true)/\
 (∀ k : Nat,k < 64->(Nat.beq (List.length (Cs.eff (Cs.eff (fun (p : Nat) => cond (Nat.ble 0 p && Nat.blt p 64) [Value.int .u8 (x_2.res (0 + (p - 0)))] (Cs.eff (fun (p_1 : Nat) => cond (Nat.ble 0 p_1 && Nat.blt p_1 64) [Value.int .u8 (x_1.res (0 + (p_1 - 0)))] [Value.int .u8 0]) [] p)) []) [] k)) 1 && List.all (Cs.eff (Cs.eff (fun (p : Nat) => cond (Nat.ble 0 p && Nat.blt p 64) [Value.int .u8 (x_2.res (0 + (p - 0)))] (Cs.eff (fun (p_1 : Nat) => cond (Nat.ble 0 p_1 && Nat.blt p_1 64) [Value.int .u8 (x_1.res (0 + (p_1 - 0)))] [Value.int .u8 0]) [] p)) []) [] k) Value.oneCell') = true)/\(∀ k : Nat,k < 64->(Nat.beq (List.length (Cs.eff (Cs.eff (Cs.eff (fun (p : Nat) => cond (Nat.ble 0 p && Nat.blt p 64) [Value.int .u8 (x_2.res (0 + (p - 0)))] (Cs.eff (fun (p_1 : Nat) => cond (Nat.ble 0 p_1 && Nat.blt p_1 64) [Value.int .u8 (x_1.res (0 + (p_1 - 0)))] [Value.int .u8 0]) [] p)) []) []) [] k)) 1 && List.all (Cs.eff (Cs.eff (Cs.eff (fun (p : Nat) => cond (Nat.ble 0 p && Nat.blt p 64) [Value.int .u8 (x_2.res (0 + (p - 0)))] (Cs.eff (fun (p_1 : Nat) => cond (Nat.ble 0 p_1 && Nat.blt p_1 64) [Value.int .u8 (x_1.res (0 + (p_1 - 0)))] [Value.int .u8 0]) [] p)) []) []) [] k) Value.oneCell') = true)/\AM_w5/\∃ y_2 : Unit,True/\AM_w9/\(64 = 64/\∀ q : Nat,q < 64->[Value.int .u8 (superG x q)] = Cs.eff (Cs.eff (Cs.eff (Cs.eff (fun (p : Nat) => cond (Nat.ble 0 p && Nat.blt p 64) [Value.int .u8 (x_2.res (0 + (p - 0)))] (Cs.eff (fun (p_1 : Nat) => cond (Nat.ble 0 p_1 && Nat.blt p_1 64) [Value.int .u8 (x_1.res (0 + (p_1 - 0)))] [Value.int .u8 0]) [] p)) []) []) []) [] q)/\True))))
theorem superVC_ok (x : Nat) : superVC x = wpF Tryz.prog tblK tt (noA x) 200 5 109 (superC.args x) (hO superC.k (superC.os x)) (fun v h' => endsP superC.k x v h' superC.outs) := by kernel_rfl
def formatVC (x : DevM) : Prop :=
 ∃ x_1 : Nat,Hd (10<=x_1/\x_1<=258)/\((x_1 : Int) = (x.n : Int)/\True)/\True/\∀ y : Unit,True->∃ x_2 : DevS,Hd (x_2.d.ok/\x_2.k < x_2.d.n/\x_2.b.ok/\x_2.a + x_2.b.n<=64)/\(0 = 0/\(x_2.k : Int) = 0/\(x_2.a : Int) = 0/\(x_2.b.q = 0/\x_2.b.n = 64)/\True)/\(((0 = 0/\x_2.d.n = x.n/\x_2.d.n = x.n)/\x_2.d.st = x.st/\x_2.d.fl = x.fl/\AM_w8 x_2.d x)/\(x_2.d.n * 193 = x.n * 193/\∀ q : Nat,q < x_2.d.n * 193->Cs.eff (devR x_2.d) [] q = Cs.eff (devR x) [] q)/\(x_2.b.N = 64/\∀ q : Nat,q < x_2.b.N->[Value.int .u8 (x_2.b.g q)] = [Value.int .u8 (superG x_1 q)])/\True)/\∀ y_1 : Unit,True->∃ x_3 : Int,Hd (0<=x_3/\x_3 < 18446744073709551616)/\(x_3 = 0/\True)/\True/\∀ y_2 : Unit,True->∃ x_4 : DevS,Hd (x_4.d.ok/\x_4.k < x_4.d.n/\x_4.b.ok/\x_4.a + x_4.b.n<=64)/\(0 = 0/\(x_4.k : Int) = 1/\(x_4.a : Int) = 0/\(x_4.b.q = 0/\x_4.b.n = 64)/\True)/\(AM_w14 x_4.d x_2.d/\AM_w10 x_4.d x_2/\(x_4.b.N = 64/\∀ q : Nat,q < x_4.b.N->[Value.int .u8 (x_4.b.g q)] = [Value.int .u8 (clockG x_3 q)])/\True)/\∀ y_3 : Unit,True->∃ x_5 : DevL,Hd (x_5.d.ok/\x_5.k < 258)/\(0 = 0/\(x_5.k : Int) = 0/\True)/\(AM_w14 x_5.d x_4.d/\AM_w10 x_5.d x_4/\True)/\∀ y_4 : Unit,True->∃ x_6 : DevL,Hd (x_6.d.ok/\x_6.k < 258)/\(0 = 0/\(x_6.k : Int) = 1/\True)/\AM_w2 x_6.d x_5/\∀ y_5 : Unit,True->∃ x_7 : DevM,Hd x_7.ok/\(0 = 0/\True)/\AM_w2 x_7 x_6/\∀ y_6 : Unit,True->∃ y_7 : DevM,Hd (y_7.ok/\y_7.n = x.n/\y_7.st = x.st + 2/\y_7.fl = x.fl + 2/\y_7.fe = x.fe + 1)/\(0 : Int) = 0/\((0 = 0/\y_7.n = x_7.n/\y_7.n = x_7.n)/\y_7.st = x_7.st/\y_7.fl = x_7.fl/\y_7.fe = x_7.fe + 1/\y_7.ba = x_7.ba/\y_7.cu = x_7.cu/\True)/\(y_7.n * 193 = x_7.n * 193/\∀ q : Nat,q < y_7.n * 193->Cs.eff (devR y_7) [] q = Cs.eff (devR x_7.fence) [] q)/\True
theorem formatVC_ok (x : DevM) : formatVC x = wpF Tryz.prog tblF1 tt (noA x) 200 5 72 (formatP.args x) (hO 2 (flatP 1 (formatP.l x))) (fun v h' => endsPK 1 x v h' formatP.outs) := by kernel_rfl
end Go.Proofs.YtpnhfbegboogbaaGreat
end
section
namespace Go.Proofs.YtpnhfbegboogbaaGreat
open Go SE
set_option linter.unusedSimpArgs false
theorem superVC_true (v : Nat) (hv : 10<=v/\v<=258) : superVC v := by
 have hw : IntKind.u64.wrap (v : Int) = v := u64wrapN (by omega) (by omega)
 let b0 : Bys := ⟨fun k => if k = 0 then 4 else if k = 1 then 70 else if k = 2 then 85 else if k = 3 then 83 else if k = 4 then 69 else 0,0,9,9⟩
 let x1 : PutX := ⟨b0,5,4,v,9⟩
 have ok1 : x1.ok := ⟨⟨by simp [x1,b0],by simp [x1,b0],fun k => by simp only [x1,b0]; grind⟩,by simp [x1,b0],by simp [x1],by simp [x1],by show (0 : Int)<=v; omega,by show (v : Int) < 256 ^ 4; omega⟩
 have r1 : ∀ k,k < 9->x1.res k = headS v k := fun k hk => by
  simp only [PutX.res,putG,headS,x1,b0]
  by_cases h : k < 5
  ·rw [if_neg (by omega),Nat.zero_add]; grind
  ·rw [if_pos (by omega)]; grind
 have u1 : ∀ k,0<=x1.res k/\x1.res k < 256 := putG_u8 (fun k => ok1.1.2.2 _) _ _ _
 let b1 : Bys := ⟨fun k => if k < 9 then x1.res k else 0,0,64,64⟩
 let x2 : PutX := ⟨b1,9,4,addM 0 x1.res 9,64⟩
 have c1 : addM 0 x1.res 9 = addM 0 (headS v) 9 := addM_congr r1
 have hU := addM_U 0 x1.res 9
 have ok2 : x2.ok := ⟨⟨by simp [x2,b1],by simp [x2,b1],fun k => by
  show 0<=(if k < 9 then x1.res k else 0)/\(if k < 9 then x1.res k else 0) < 256
  split
  ·exact u1 k
  ·exact ⟨by omega,by omega⟩⟩,by simp [x2,b1],by simp [x2],by simp [x2],hU.1,hU.2⟩
 have w64 : IntKind.u64.wrap (addM 0 x1.res 9) = addM 0 x1.res 9 := u64wrapN hU.1 (by have := hU.2; omega)
 have nb : x1.b.n = 9 := rfl
 have nb2 : x2.b.n = 64 := rfl
 have ble9 : Nat.ble 9 64 = true := rfl
 have ble64 : Nat.ble 64 64 = true := rfl
 unfold superVC
 simp only [AM_w15,AM_w5,AM_w3,AM_w12,AM_w9,AM_w4,AM_w1]
 simp only [hd_iff,and_true,true_and,Nat.zero_add,Nat.add_zero,unit_ex,unit_all,true_implies,implies_true,Int.toNat_natCast,eq_self,and_self,eff_nil,cond_one,cond_int,ones_int,row_int,ones_bool,row_bool,cond_bool,ble0,Bool.true_and,Nat.sub_zero,List.getElem?_cons_zero,Option.some.injEq,Value.bool.injEq,Value.int.injEq,exists_eq_left',exists_eq_left,hw]
 refine cP_intro (fun h => absurd (of_decide_eq_true h) (by omega)) fun _ => cP_intro (fun h => absurd (of_decide_eq_true h) (by omega)) fun _ => ?_
 refine ⟨x1,ok1,⟨⟨rfl,rfl,rfl⟩,rfl,rfl,rfl⟩,⟨rfl,fun q hq => ?_⟩,by omega,by omega,?_⟩
 ·have hq : q < 9 := hq
  match q,hq with
  | 0,_ | 1,_ | 2,_ | 3,_ | 4,_ | 5,_ | 6,_ | 7,_ | 8,_ => rfl
 simp only [nb,ble9,cP,eff_nil,cond_one,cond_int,ones_int,row_int,ones_bool,row_bool,cond_bool,ble0,Bool.true_and,Nat.sub_zero,List.getElem?_cons_zero,Option.some.injEq,Value.bool.injEq,Value.int.injEq,exists_eq_left',exists_eq_left,implies_true,true_and]
 refine ⟨by omega,by omega,by omega,9,x1.res,rfl,by omega,fun _ _ => rfl,u1,x2,ok2,⟨⟨rfl,rfl,rfl⟩,rfl,rfl,w64.symm⟩,⟨rfl,fun q hq => ?_⟩,by omega,by omega,?_⟩
 ·show (if q < 9 then x1.res q else 0) = _
  rw [blt_iff_decide,bif_decide]
 simp only [nb2,ble64,cP,eff_nil,cond_one,cond_int,ones_int,row_int,ones_bool,row_bool,cond_bool,ble0,Bool.true_and,Nat.sub_zero,List.getElem?_cons_zero,Option.some.injEq,Value.bool.injEq,Value.int.injEq,exists_eq_left',exists_eq_left,implies_true,true_and]
 refine ⟨by omega,by omega,fun q hq => ?_⟩
 simp [nblt_iff.2 hq]
 show superG v q = putG (fun k => if 0 + k < 9 then x1.res (0 + k) else 0) 9 4 (addM 0 x1.res 9) q
 simp only [superG,putG,c1,Nat.zero_add]
 by_cases h : q < 9
 ·rw [if_pos h,if_neg (by omega),if_pos h,r1 q h]
 ·by_cases h2 : q < 13
  ·rw [if_neg h,if_pos h2,if_pos (by omega)]
  ·rw [if_neg h,if_neg h2,if_neg (by omega),if_neg h]
theorem superG_u8 {v : Nat} (hv : v<=258) (k : Nat) : 0<=superG v k/\superG v k < 256 := by
 unfold superG headS
 repeat' split
 all_goals first | exact div_mod_u8 _ _ | omega
theorem DevM.flush_good {d : DevM} (h : d.ok) (k : Nat) (hf : d.fl + 1 < 1099511627776) : (d.flush k).ok := by
 obtain ⟨h1,h2,h3,h4,h5,h6⟩ := h
 refine ⟨h1,fun p => ?_,h3,?_,h5,h6⟩
 ·simp only [DevM.flush]; split <;> exact h2 _
 ·unfold small at *; simp only [DevM.flush]; split <;> omega
theorem DevM.fence_good {d : DevM} (h : d.ok) (hf : d.fe + 1 < 1099511627776) : d.fence.ok := by
 obtain ⟨h1,h2,h3,h4,h5,h6⟩ := h
 refine ⟨h1,fun p => ?_,h3,h4,?_,h6⟩
 ·simp only [DevM.fence,DevM.fenceTo]; split <;> exact h2 _
 ·unfold small at *; simp only [DevM.fence,DevM.fenceTo]; omega
theorem DevM.store_good {d : DevM} (h : d.ok) (k a n : Nat) {g : Nat->Int} (hg : ∀ q,0<=g q/\g q < 256) (hf : d.st + 1 < 1099511627776) : (d.store k a n g).ok := by
 obtain ⟨h1,h2,h3,h4,h5,h6⟩ := h
 refine ⟨h1,fun p => ?_,?_,h4,h5,h6⟩
 ·simp only [DevM.store]
  split
  ·exact hg _
  ·exact h2 _
 ·unfold small at *; simp only [DevM.store]; omega
theorem formatVC_true (x : DevM) (hx : x.ok/\10<=x.n/\x.wide 10) : formatVC x := by
 obtain ⟨ho,hn,w1,w2,w3⟩ := hx
 have hn2 := ho.1
 let s1 := x.store 0 0 64 (superG x.n)
 let s2 := s1.store 1 0 64 (clockG 0)
 let f1 := s2.flush 0
 let f2 := f1.flush 1
 have o1 : s1.ok := DevM.store_good ho _ _ _ (superG_u8 (by omega)) (by omega)
 have o2 : s2.ok := DevM.store_good o1 _ _ _ (clockG_u8 0) (by show x.st + 1 + 1 < _; omega)
 have o3 : f1.ok := DevM.flush_good o2 0 (by show x.fl + 1 < _; omega)
 have e3 : f1.fl = x.fl + 1 := if_pos (by show 0 < x.n; omega)
 have o4 : f2.ok := DevM.flush_good o3 1 (by rw [e3]; omega)
 have e4 : f2.fl = x.fl + 2 := (if_pos (show 1 < x.n by omega)).trans (by rw [e3]; omega)
 have o5 : f2.fence.ok := DevM.fence_good o4 (by show x.fe + 1 < _; omega)
 have z1 : (x.store 0 0 64 fun q => superG x.n (0 + q)) = s1 := by simp only [Nat.zero_add]; rfl
 have z2 : (s1.store 1 0 64 fun q => clockG 0 (0 + q)) = s2 := by simp only [Nat.zero_add]; rfl
 unfold formatVC
 simp only [AM_w8,AM_w14,AM_w10,AM_w2]
 simp only [hd_iff,and_true,true_and,Nat.zero_add,Nat.add_zero,unit_ex,unit_all,true_implies,implies_true,Int.toNat_natCast,eq_self,and_self,eff_nil,cond_one,cond_int,ones_int,row_int,ones_bool,row_bool,cond_bool,ble0,Bool.true_and,Nat.sub_zero,List.getElem?_cons_zero,Option.some.injEq,Value.bool.injEq,Value.int.injEq,exists_eq_left',exists_eq_left]
 refine ⟨x.n,⟨hn,hn2⟩,rfl,⟨x,0,0,⟨superG x.n,0,64,64⟩⟩,⟨ho,by show 0 < x.n; omega,⟨by simp,by simp,superG_u8 hn2⟩,by simp⟩,⟨rfl,rfl,rfl,rfl⟩,⟨⟨rfl,rfl,rfl,rfl,rfl,rfl⟩,⟨rfl,fun q _ => rfl⟩,rfl,fun q _ => rfl⟩,
  0,⟨by decide,by decide⟩,rfl,⟨s1,1,0,⟨clockG 0,0,64,64⟩⟩,⟨o1,by show 1 < x.n; omega,⟨by simp,by simp,clockG_u8 0⟩,by simp⟩,⟨rfl,rfl,rfl,rfl⟩,⟨⟨rfl,rfl,rfl,rfl,rfl,rfl⟩,⟨rfl,fun q _ => ?_⟩,rfl,fun q _ => rfl⟩,
  ⟨s2,0⟩,⟨o2,show 0 < 258 by decide⟩,rfl,⟨⟨rfl,rfl,rfl,rfl,rfl,rfl⟩,rfl,fun q _ => ?_⟩,⟨f1,1⟩,⟨o3,show 1 < 258 by decide⟩,rfl,⟨⟨rfl,rfl,rfl,rfl,rfl,rfl⟩,rfl,fun q _ => rfl⟩,f2,o4,⟨⟨rfl,rfl,rfl,rfl,rfl,rfl⟩,rfl,fun q _ => rfl⟩,f2.fence,⟨o5,rfl,by show x.st + 1 + 1 = x.st + 2; omega,e4,rfl⟩,⟨rfl,rfl,rfl,rfl,rfl,rfl⟩,rfl,fun q _ => rfl⟩
 ·show devR s1 q = devR (x.store 0 0 64 fun q => superG x.n (0 + q)) q
  rw [z1]
 ·show devR s2 q = devR (s1.store 1 0 64 fun q => clockG 0 (0 + q)) q
  rw [z2]
theorem super_ok : CtrOk Tryz.prog 109 superC := det_end tt_ok mixed tblK_ok noA 200 5 (fun _ => rfl) (fun _ => rfl) fun x hx => Eq.mp (superVC_ok x) (superVC_true x (hd_iff.1 hx))
theorem tblF1_ok : TblOk Tryz.prog tblF1 := .cons (ctrT_ok super_ok) (.cons (ctrT_ok clock_ok) (.cons (ctrT_ok store_ok) (.cons (ctrT_ok flush_ok) (.cons (ctrT_ok fence_ok) .nil))))
theorem format_ok : CtrOk Tryz.prog 72 formatP.ctr := pctr_end tt_ok mixed tblF1_ok 2 noA 200 5 (fun _ => ⟨rfl,rfl,rfl,rfl⟩) fun x hx => Eq.mp (formatVC_ok x) (formatVC_true x (hd_iff.1 hx))
end Go.Proofs.YtpnhfbegboogbaaGreat
end
section
namespace Go.Proofs.YtpnhfbegboogbaaGreat
open Go SE
noncomputable def newdP : PCtr := pdet Nat (fun n => [i64 n]) 0 (fun _ => []) (fun n => Hd (1<=n/\n<=258)) (fun _ => .tup [.ptr 0 0,i64 0]) 1 (fun n => [.m (newDev n).os])
def newrP : PCtr := pdet Nat (fun t => [i64 t]) 0 (fun _ => []) (fun t => Hd (1<=t/\t<=4)) (fun _ => .tup [.ptr 0 0,i64 0]) 1 (fun t => [.m (newRd t).os])
def newkP : PCtr := pdet (Nat × Int) (fun p => [i64 p.1,u64 p.2]) 0 (fun _ => []) (fun p => Hd (1<=p.1/\p.1<=4/\0<=p.2/\p.2<=1152921504606846976)) (fun _ => .tup [.ptr 0 0,i64 0]) 1 (fun p => [.m ((newClk p.1 p.2).os 0)])
noncomputable def newpP : PCtr := pdet Nat (fun n => [i64 n]) 0 (fun _ => []) (fun n => Hd (1<=n/\n<=32)) (fun _ => .tup [.ptr 0 0,i64 0]) 1 (fun n => [.m (newPool n n).os])
def tnewP : PCtr := pdet Unit (fun _ => []) 0 (fun _ => []) (fun _ => Hd True) (fun _ => .ptr 0 0) 1 (fun _ => [.m tabE])
noncomputable def linesP : PCtr := pdet DevM (fun _ => [.ptr 0 0]) 1 (fun d => [.m d.os]) (fun d => Hd d.ok) (fun d => i64 d.n) 1 (fun d => [.m d.os])
def newBag : ZBag := ⟨true,0,fun _ => ⟨0,0,0,0,0⟩⟩
def newLn : ZLn := ⟨0,0,0,0,fun _ => zLnk⟩
def bnewP : PCtr := pdet Unit (fun _ => []) 0 (fun _ => []) (fun _ => Hd True) (fun _ => .ptr 0 0) 1 (fun _ => [.m newBag.os])
def lnewP : PCtr := pdet Unit (fun _ => []) 0 (fun _ => []) (fun _ => Hd True) (fun _ => .ptr 0 0) 1 (fun _ => [.m newLn.os])
end Go.Proofs.YtpnhfbegboogbaaGreat
end
section
namespace Go.Proofs.YtpnhfbegboogbaaGreat
open Go SE
def AP_w1 : Prop := ∃ y : Unit,True/\(False/\(0 : Int) = 2/\True)/\False/\False/\True
def AP_w4 : Prop := 0 = 0/\(0 : Int) = 0/\True
def AP_w5 (a : Nat) : Prop := 0 = 0/\a = a/\a = a
def AP_w6 : Prop := 258 = 258/\∀ q : Nat,q < 258->[Value.bool false] = [Value.bool false]
def AP_w7 : Prop := True/\True/\True/\True/\True/\True/\True/\True/\True
def newdPVC (x : Nat) : Prop :=
 cP (decide ((x : Int) < 1)) AP_w1 (cP (decide ((x : Int) > (258 : Int))) AP_w1 ((0<=(x : Int)/\(x : Int)<=(x : Int)/\193 * (x : Int)<=281474976710656/\(x : Int) < 4611686018427387904)/\∃ y : Unit,True/\AP_w4/\(AP_w5 x/\(0 : Int) = 0/\(0 : Int) = 0/\(0 : Int) = 0/\(0 : Int) = 0/\(0 : Int) = 0/\True)/\(x * 193 = x * 193/\∀ q : Nat,∀ j : Nat,q < x->j < 193->∃ v : Value,getElem? (List.replicate 192 (Value.int .u8 0) ++ [Value.bool false]) j = some v/\Cs.eff (devR (newDev x)) [] (q * 193 + j) = [v])/\True))
theorem newdPVC_ok (x : Nat) : newdPVC x = wpF Tryz.prog [] tt (noA x) 200 5 32 (newdP.args x) (hO 0 (flatP 0 (newdP.l x))) (fun v h' => endsPK 0 x v h' newdP.outs) := by kernel_rfl
def newrPVC (x : Nat) : Prop :=
 cP (decide ((x : Int) < 1)) AP_w1 (cP (decide ((x : Int) > (4 : Int))) AP_w1 ((0<=(x : Int)/\(x : Int)<=(x : Int)/\8 * (x : Int)<=281474976710656/\(x : Int) < 4611686018427387904)/\∃ y : Unit,True/\AP_w4/\((1 : Int) = 1/\AP_w5 x/\True)/\(x = x/\∀ q : Nat,q < x->[Value.int .u64 0] = [Value.int .u64 0])/\True))
theorem newrPVC_ok (x : Nat) : newrPVC x = wpF Tryz.prog tblX tt (noA x) 200 5 61 (newrP.args x) (hO 0 (flatP 0 (newrP.l x))) (fun v h' => endsPK 0 x v h' newrP.outs) := by kernel_rfl
def newkPVC (x : Nat × Int) : Prop :=
 cP (decide ((x.1 : Int) < 1)) AP_w1 (cP (decide ((x.1 : Int) > (4 : Int))) AP_w1 (cP (decide (x.2 > (1152921504606846976 : Int))) (∃ y : Unit,True/\(False/\(0 : Int) = 10/\True)/\False/\False/\True) ((0<=(x.1 : Int)/\(x.1 : Int)<=(x.1 : Int)/\8 * (x.1 : Int)<=281474976710656/\(x.1 : Int) < 4611686018427387904)/\∃ y : Unit,True/\AP_w4/\((x.2 + 1 = IntKind.wrap .u64 (x.2 + 1)/\x.2 = x.2/\(0 : Int) = 0/\(0 = 0/\x.1 = x.1/\x.1 = x.1)/\True)/\AP_w6/\AP_w6/\Value.nilFunc = Value.nilFunc/\True)/\(x.1 = x.1/\∀ q : Nat,q < x.1->[Value.int .i64 0] = [Value.int .i64 0])/\True)))
theorem newkPVC_ok (x : Nat × Int) : newkPVC x = wpF Tryz.prog tblX tt (noA x) 200 5 63 (newkP.args x) (hO 0 (flatP 0 (newkP.l x))) (fun v h' => endsPK 0 x v h' newkP.outs) := by kernel_rfl
def newpPVC (x : Nat) : Prop :=
 cP (decide ((x : Int) < 1)) AP_w1 (I64 (256 : Int)/\((8 : Int) = 0->False)/\I64 (32 : Int)/\cP (decide ((x : Int) > (32 : Int))) AP_w1 ((0<=(x : Int)/\(x : Int)<=(x : Int)/\24 * (x : Int)<=281474976710656/\(x : Int) < 4611686018427387904)/\(∃ s : Nat,s<=x/\True/\((s : Int) = 0/\True)/\(AP_w5 x/\True)/\(x * 10 = x * 10/\∀ q : Nat,∀ j : Nat,q < x->j < 10->∃ v : Value,getElem? [Value.int .i64 0,Value.bool false,Value.bool false,Value.bool false,Value.bool false,Value.bool false,Value.bool false,Value.bool false,Value.bool false,Value.int .i64 0] j = some v/\Cs.eff (poolR (newPool x s)) [] (q * 10 + j) = [v])/\True)/\(∀ s : Nat,s<=x->cP (decide ((s : Int) < (x : Int))) ((0<=(s : Int)/\(s : Int) < (x : Int))/\(0 + s) * 10 + 0 < x * 10/\I64 ((s : Int) + 1)/\∃ s_1 : Nat,s_1<=x/\x - s_1 < x - s/\((s_1 : Int) = (s : Int) + 1/\True)/\(AP_w5 x/\True)/\(x * 10 = x * 10/\∀ q : Nat,q < x * 10->Cs.eff (poolR (newPool x s_1)) [] q = Cs.eff (poolR (newPool x s)) [((0 + s) * 10 + 0,[Value.int .i64 (-(1 : Int))])] q)/\True) (∃ y : Unit,True/\AP_w4/\(AP_w5 x/\True)/\(x * 10 = x * 10/\∀ q : Nat,q < x * 10->Cs.eff (poolR (newPool x x)) [] q = Cs.eff (poolR (newPool x s)) [] q)/\True))/\True))
theorem newpPVC_ok (x : Nat) : newpPVC x = wpF Tryz.prog [] tt (anNewp x) 200 5 64 (newpP.args x) (hO 0 (flatP 0 (newpP.l x))) (fun v h' => endsPK 0 x v h' newpP.outs) := by kernel_rfl
def tnewPVC (x : Unit) : Prop :=
 ((0 : Int)<=0/\(0 : Int)<=7)/\I64 (1 : Int)/\((0 : Int)<=1/\(0 : Int)<=6)/\I64 (2 : Int)/\((0 : Int)<=2/\(0 : Int)<=5)/\I64 (3 : Int)/\((0 : Int)<=3/\(0 : Int)<=4)/\I64 (4 : Int)/\((0 : Int)<=4/\(0 : Int)<=3)/\I64 (5 : Int)/\((0 : Int)<=5/\(0 : Int)<=2)/\I64 (6 : Int)/\((0 : Int)<=6/\(0 : Int)<=1)/\I64 (7 : Int)/\((0 : Int)<=7/\(0 : Int)<=0)/\I64 (8 : Int)/\∃ y : Unit,True/\0 = 0/\AP_w7/\AP_w7
theorem tnewPVC_ok (x : Unit) : tnewPVC x = wpF Tryz.prog tblX tt (noA x) 200 5 67 (tnewP.args x) (hO 0 (flatP 0 (tnewP.l x))) (fun v h' => endsPK 0 x v h' tnewP.outs) := by kernel_rfl
def linesVC (x : DevM) : Prop :=
 ∃ y : Unit,True/\(x.n : Int) = (x.n : Int)/\(AP_w5 x.n/\x.st = x.st/\x.fl = x.fl/\x.fe = x.fe/\x.ba = x.ba/\x.cu = x.cu/\True)/\(x.n * 193 = x.n * 193/\∀ q : Nat,q < x.n * 193->Cs.eff (devR x) [] q = Cs.eff (devR x) [] q)/\True
theorem linesVC_ok (x : DevM) : linesVC x = wpF Tryz.prog tblX tt (noA x) 200 5 62 (linesP.args x) (hO 2 (flatP 1 (linesP.l x))) (fun v h' => endsPK 1 x v h' linesP.outs) := by kernel_rfl
def bnewVC (x : Unit) : Prop :=
 ∃ y : Unit,True/\0 = 0/\(Value.slice none 0 0 = Value.slice none 0 0/\True)/\True
theorem bnewVC_ok (x : Unit) : bnewVC x = wpF Tryz.prog [] tt (noA x) 200 5 66 (bnewP.args x) (hO 0 (flatP 0 (bnewP.l x))) (fun v h' => endsPK 0 x v h' bnewP.outs) := by kernel_rfl
def lnewVC (x : Unit) : Prop :=
 ∃ y : Unit,True/\0 = 0/\(Value.slice none 0 0 = Value.slice none 0 0/\(0 : Int) = 0/\(0 : Int) = 0/\True)/\True
theorem lnewVC_ok (x : Unit) : lnewVC x = wpF Tryz.prog [] tt (noA x) 200 5 69 (lnewP.args x) (hO 0 (flatP 0 (lnewP.l x))) (fun v h' => endsPK 0 x v h' lnewP.outs) := by kernel_rfl
end Go.Proofs.YtpnhfbegboogbaaGreat
end
section
namespace Go.Proofs.YtpnhfbegboogbaaGreat
open Go SE
set_option linter.unusedSimpArgs false
theorem newdPVC_true (x : Nat) (hx : 1<=x/\x<=258) : newdPVC x := by
 have h := newdVC_true x hx
 unfold newdVC at h
 simp only [BH_w14,BH_w13,BH_w10] at h
 unfold newdPVC
 simp only [AP_w1,AP_w4,AP_w5]
 simp only [hd_iff,and_true,true_and,Nat.zero_add,Nat.add_zero,unit_ex,unit_all,true_implies,implies_true,Int.toNat_natCast,eq_self,and_self,eff_nil,cond_one,cond_int,ones_int,row_int,ones_bool,row_bool,cond_bool,ble0,Bool.true_and,Nat.sub_zero,List.getElem?_cons_zero,Option.some.injEq,Value.bool.injEq,Value.int.injEq,exists_eq_left',exists_eq_left] at h ⊢
 exact h
theorem newrPVC_true (x : Nat) (hx : 1<=x/\x<=4) : newrPVC x := by
 have h := newrVC_true x hx
 unfold newrVC at h
 simp only [BT_w25,BT_w16] at h
 unfold newrPVC
 simp only [AP_w1,AP_w4,AP_w5]
 simp only [hd_iff,and_true,true_and,Nat.zero_add,Nat.add_zero,unit_ex,unit_all,true_implies,implies_true,Int.toNat_natCast,eq_self,and_self,eff_nil,cond_one,cond_int,ones_int,row_int,ones_bool,row_bool,cond_bool,ble0,Bool.true_and,Nat.sub_zero,List.getElem?_cons_zero,Option.some.injEq,Value.bool.injEq,Value.int.injEq,exists_eq_left',exists_eq_left] at h ⊢
 exact h
theorem newkPVC_true (x : Nat × Int) (hx : 1<=x.1/\x.1<=4/\0<=x.2/\x.2<=1152921504606846976) : newkPVC x := by
 have h := newkVC_true x hx
 unfold newkVC at h
 simp only [BK_w31,BK_w26,BK_w29] at h
 unfold newkPVC
 simp only [AP_w1,AP_w4,AP_w6]
 simp only [hd_iff,and_true,true_and,Nat.zero_add,Nat.add_zero,unit_ex,unit_all,true_implies,implies_true,Int.toNat_natCast,eq_self,and_self,eff_nil,cond_one,cond_int,ones_int,row_int,ones_bool,row_bool,cond_bool,ble0,Bool.true_and,Nat.sub_zero,List.getElem?_cons_zero,Option.some.injEq,Value.bool.injEq,Value.int.injEq,exists_eq_left',exists_eq_left] at h ⊢
 exact h
theorem newpPVC_true (x : Nat) (hx : 1<=x/\x<=32) : newpPVC x := by
 have h := newpVC_true x hx
 unfold newpVC at h
 simp only [BQ_w31,BQ_w19,BQ_w32] at h
 unfold newpPVC
 simp only [AP_w1,AP_w5,AP_w4]
 simp only [hd_iff,and_true,true_and,Nat.zero_add,Nat.add_zero,unit_ex,unit_all,true_implies,implies_true,Int.toNat_natCast,eq_self,and_self,eff_nil,cond_one,cond_int,ones_int,row_int,ones_bool,row_bool,cond_bool,ble0,Bool.true_and,Nat.sub_zero,List.getElem?_cons_zero,Option.some.injEq,Value.bool.injEq,Value.int.injEq,exists_eq_left',exists_eq_left] at h ⊢
 exact h
theorem tnewPVC_true (x : Unit) : tnewPVC x := by
 unfold tnewPVC
 simp only [AP_w7]
 simp only [hd_iff,and_true,true_and,Nat.zero_add,Nat.add_zero,unit_ex,unit_all,true_implies,implies_true,Int.toNat_natCast,eq_self,and_self,eff_nil,cond_one,cond_int,ones_int,row_int,ones_bool,row_bool,cond_bool,ble0,Bool.true_and,Nat.sub_zero,List.getElem?_cons_zero,Option.some.injEq,Value.bool.injEq,Value.int.injEq,exists_eq_left',exists_eq_left,I64]
 omega
theorem linesVC_true (x : DevM) (_ : x.ok) : linesVC x := by
 unfold linesVC
 simp only [AP_w5]
 simp only [hd_iff,and_true,true_and,Nat.zero_add,Nat.add_zero,unit_ex,unit_all,true_implies,implies_true,Int.toNat_natCast,eq_self,and_self,eff_nil,cond_one,cond_int,ones_int,row_int,ones_bool,row_bool,cond_bool,ble0,Bool.true_and,Nat.sub_zero,List.getElem?_cons_zero,Option.some.injEq,Value.bool.injEq,Value.int.injEq,exists_eq_left',exists_eq_left]
theorem newdP_ok : CtrOk Tryz.prog 32 newdP.ctr := pctr_end tt_ok mixed .nil 0 noA 200 5 (fun _ => ⟨rfl,rfl,rfl,rfl⟩) fun x hx => Eq.mp (newdPVC_ok x) (newdPVC_true x (hd_iff.1 hx))
theorem newrP_ok : CtrOk Tryz.prog 61 newrP.ctr := pctr_end tt_ok mixed tblX_ok 0 noA 200 5 (fun _ => ⟨rfl,rfl,rfl,rfl⟩) fun x hx => Eq.mp (newrPVC_ok x) (newrPVC_true x (hd_iff.1 hx))
theorem newkP_ok : CtrOk Tryz.prog 63 newkP.ctr := pctr_end tt_ok mixed tblX_ok 0 noA 200 5 (fun _ => ⟨rfl,rfl,rfl,rfl⟩) fun x hx => Eq.mp (newkPVC_ok x) (newkPVC_true x (hd_iff.1 hx))
theorem newpP_ok : CtrOk Tryz.prog 64 newpP.ctr := pctr_end tt_ok mixed .nil 0 anNewp 200 5 (fun _ => ⟨rfl,rfl,rfl,rfl⟩) fun x hx => Eq.mp (newpPVC_ok x) (newpPVC_true x (hd_iff.1 hx))
theorem tnewP_ok : CtrOk Tryz.prog 67 tnewP.ctr := pctr_end tt_ok mixed tblX_ok 0 noA 200 5 (fun _ => ⟨rfl,rfl,rfl,rfl⟩) fun x _ => Eq.mp (tnewPVC_ok x) (tnewPVC_true x)
theorem lines_ok : CtrOk Tryz.prog 62 linesP.ctr := pctr_end tt_ok mixed tblX_ok 2 noA 200 5 (fun _ => ⟨rfl,rfl,rfl,rfl⟩) fun x hx => Eq.mp (linesVC_ok x) (linesVC_true x (hd_iff.1 hx))
theorem bnewVC_true (x : Unit) : bnewVC x := by
 unfold bnewVC
 simp only [hd_iff,and_true,true_and,Nat.zero_add,Nat.add_zero,unit_ex,unit_all,true_implies,implies_true,Int.toNat_natCast,eq_self,and_self,eff_nil,cond_one,cond_int,ones_int,row_int,ones_bool,row_bool,cond_bool,ble0,Bool.true_and,Nat.sub_zero,List.getElem?_cons_zero,Option.some.injEq,Value.bool.injEq,Value.int.injEq,exists_eq_left',exists_eq_left]
theorem bnewP_ok : CtrOk Tryz.prog 66 bnewP.ctr := pctr_end tt_ok mixed .nil 0 noA 200 5 (fun _ => ⟨rfl,rfl,rfl,rfl⟩) fun x _ => Eq.mp (bnewVC_ok x) (bnewVC_true x)
theorem lnewVC_true (x : Unit) : lnewVC x := by
 unfold lnewVC
 simp only [hd_iff,and_true,true_and,Nat.zero_add,Nat.add_zero,unit_ex,unit_all,true_implies,implies_true,Int.toNat_natCast,eq_self,and_self,eff_nil,cond_one,cond_int,ones_int,row_int,ones_bool,row_bool,cond_bool,ble0,Bool.true_and,Nat.sub_zero,List.getElem?_cons_zero,Option.some.injEq,Value.bool.injEq,Value.int.injEq,exists_eq_left',exists_eq_left]
theorem lnewP_ok : CtrOk Tryz.prog 69 lnewP.ctr := pctr_end tt_ok mixed .nil 0 noA 200 5 (fun _ => ⟨rfl,rfl,rfl,rfl⟩) fun x _ => Eq.mp (lnewVC_ok x) (lnewVC_true x)
end Go.Proofs.YtpnhfbegboogbaaGreat
end
section
namespace Go.Proofs.YtpnhfbegboogbaaGreat
open Go SE
structure ZEff where
 kind : Int
 key : ByteArray
 value : ByteArray
 id : Int
 ver : Int
 epoch : Int
 group : Int
def ZEff.cs (e : ZEff) : List Value := [.int .i64 e.kind,.string e.key,.string e.value,.int .u64 e.id,.int .u64 e.ver,.int .u64 e.epoch,.int .i64 e.group]
structure ZArn where
 d : DevM
 p : ZPool
 r : ZRd
 c : ClkM
 b : ZBag
 l : ZLn
 id : Int
 ver : Int
 n : Nat
 e : Nat->ZEff
namespace ZArn
def str (a : ZArn) (ef : AV) : AObj := .cells 100 (.av [.ptr 1 0,.ptr 3 0,.ptr 4 0,.ptr 5 0,.ptr 6 0,.ptr 7 0,.ptr 8 0,.ptr 9 0,u64 a.id,u64 a.ver,ef])
noncomputable def parts (a : ZArn) : List AObj := [.cells 148 (.av [.ptr 2 0,u32 1,.lit (.int .i32 0),u32 0]),.abs (ownM a.d.os),.abs (ownM a.p.os),.abs (ownM a.r.os),.abs (ownM (a.c.os 0)),.abs (ownM a.b.os),.abs (ownM tabE),.cells 224 (.av [nilS,nilS,nilS,nilS]),.abs (ownM a.l.os)]
noncomputable def osN (a : ZArn) : List AObj := a.str nilS :: a.parts
noncomputable def osP (a : ZArn) : List AObj := a.str (.slW 10 0 7 a.n) :: (a.parts ++ [.room 151 (.row 7 a.n (fun i => (a.e i).cs) [])])
noncomputable def os (a : ZArn) : List AObj := bif Nat.beq a.n 0 then a.osN else a.osP
end ZArn
noncomputable def newArn (n t : Nat) (d : DevM) : ZArn := ⟨d,newPool ((n - 2) / 8) ((n - 2) / 8),newRd t,newClk t 0,newBag,newLn,0,0,0,fun _ => ⟨0,⟨#[]⟩,⟨#[]⟩,0,0,0,0⟩⟩
structure ZNew where
 n : Nat
 t : Nat
noncomputable def newaP : PCtr := { X := ZNew,args := fun x => [i64 x.n,i64 x.t],k := 0,l := fun _ => [],pre := fun x => Hd (10<=x.n/\x.n<=258/\1<=x.t/\x.t<=4),outs := [
 { Y := DevM,post := fun x d => Hd (d.ok/\d.n = x.n/\d.st = 2/\d.fl = 2/\d.fe = 1),ret := fun _ _ => .tup [.ptr 0 0,i64 0],m := 1,l := fun x d => [.m (newArn x.n x.t d).osN] }] }
noncomputable def tblF2 : WTbl := [(72,ctrT formatP.ctr)]
noncomputable def tblA1 : WTbl := tblX ++ [(32,ctrT newdP.ctr),(61,ctrT newrP.ctr),(62,ctrT linesP.ctr),(63,ctrT newkP.ctr),(64,ctrT newpP.ctr),(67,ctrT tnewP.ctr),(66,ctrT bnewP.ctr),(69,ctrT lnewP.ctr),(108,onceT tblF2)]
end Go.Proofs.YtpnhfbegboogbaaGreat
end
section
namespace Go.Proofs.YtpnhfbegboogbaaGreat
open Go SE
def AS_w3 : Prop := Value.slice none 0 0 = Value.slice none 0 0
def AS_w1 (a : ZNew) (b : Nat) (c : Nat) (d : Prod Nat Int) : Prop := ownM (ZPool.os (newPool ((a.n - 2) / 8) ((a.n - 2) / 8))) = ownM (ZPool.os (newPool b b))/\ownM (ZRd.os (newRd a.t)) = ownM (ZRd.os (newRd c))/\ownM (ClkM.os (newClk a.t (0 : Int)) 0) = ownM (ClkM.os (newClk d.1 d.2) 0)/\ownM newBag.os = ownM newBag.os/\ownM tabE = ownM tabE/\(AS_w3/\AS_w3/\AS_w3/\AS_w3/\True)/\ownM newLn.os = ownM newLn.os/\True
def AS_w8 : Prop := 0 = 0/\0 = 0/\0 = 0/\0 = 0/\0 = 0/\0 = 0/\0 = 0/\0 = 0/\(0 : Int) = 0/\(0 : Int) = 0/\AS_w3/\True
def AS_w9 (a : DevM) (b : Nat) : Prop := Hd (a.ok/\a.n = b/\a.st = 2/\a.fl = 2/\a.fe = 1)
def newaVC (x : ZNew) : Prop :=
 ∃ x_1 : Nat,Hd (1<=x_1/\x_1<=258)/\((x_1 : Int) = (x.n : Int)/\True)/\True/\∀ y : Unit,True->∃ x_2 : Nat,Hd (1<=x_2/\x_2<=4)/\((x_2 : Int) = (x.t : Int)/\True)/\True/\∀ y_1 : Unit,True->∃ x_3 : DevM,Hd x_3.ok/\(0 = 0/\True)/\(ownM x_3.os = ownM (DevM.os (newDev x_1))/\True)/\∀ y_2 : Unit,True->cP (decide ((x_3.n : Int) < 10)) (∃ y_3 : DevM,AS_w9 y_3 x.n/\(False/\(0 : Int) = 2/\True)/\False/\False/\False/\False/\False/\False/\False/\False/\False/\False/\True) (∃ x_4 : Prod Nat Int,Hd (1<=x_4.1/\x_4.1<=4/\0<=x_4.2/\x_4.2<=1152921504606846976)/\((x_4.1 : Int) = (x.t : Int)/\x_4.2 = 0/\True)/\True/\∀ y_3 : Unit,True->∃ x_5 : DevM,Hd x_5.ok/\(0 = 0/\True)/\(ownM x_5.os = ownM x_3.os/\True)/\∀ y_4 : Unit,True->cP (decide ((x_5.n : Int) < 10)) (∃ x_6 : Nat,Hd (1<=x_6/\x_6<=32)/\((x_6 : Int) = 0/\True)/\True/\∀ y_5 : Unit,True->∃ x_7 : Unit,Hd True/\True/\True/\∀ y_6 : Unit,True->∃ x_8 : Unit,Hd True/\True/\True/\∀ y_7 : Unit,True->∃ x_9 : Unit,Hd True/\True/\True/\∀ y_8 : Unit,True->∃ x_10 : DevM,Hd (x_10.ok/\10<=x_10.n/\x_10.wide (10 : Int))/\(0 = 0/\True)/\(ownM x_10.os = ownM x_5.os/\True)/\∀ y_9 : DevM,Hd (y_9.ok/\y_9.n = x_10.n/\y_9.st = x_10.st + 2/\y_9.fl = x_10.fl + 2/\y_9.fe = x_10.fe + 1)->∃ y_10 : DevM,AS_w9 y_10 x.n/\(0 = 0/\(0 : Int) = 0/\True)/\AS_w8/\(0 = 0/\(1 : Int) = 1/\(0 : Int) = 0/\(0 : Int) = 0/\True)/\ownM y_10.os = ownM y_9.os/\AS_w1 x x_6 x_2 x_4) (I64 (imin (x_5.n : Int) (258 : Int) - 2)/\((8 : Int) = 0->False)/\I64 (Int.tdiv (imin (x_5.n : Int) (258 : Int) - 2) (8 : Int))/\∃ x_6 : Nat,Hd (1<=x_6/\x_6<=32)/\((x_6 : Int) = Int.tdiv (imin (x_5.n : Int) (258 : Int) - 2) (8 : Int)/\True)/\True/\
 ∀ y_5 : Unit,True->∃ x_7 : Unit,Hd True/\True/\True/\∀ y_6 : Unit,True->∃ x_8 : Unit,Hd True/\True/\True/\∀ y_7 : Unit,True->∃ x_9 : Unit,Hd True/\True/\True/\∀ y_8 : Unit,True->∃ x_10 : DevM,Hd (x_10.ok/\10<=x_10.n/\x_10.wide (10 : Int))/\(0 = 0/\True)/\(ownM x_10.os = ownM x_5.os/\True)/\∀ y_9 : DevM,Hd (y_9.ok/\y_9.n = x_10.n/\y_9.st = x_10.st + 2/\y_9.fl = x_10.fl + 2/\y_9.fe = x_10.fe + 1)->∃ y_10 : DevM,AS_w9 y_10 x.n/\(0 = 0/\(0 : Int) = 0/\True)/\AS_w8/\(0 = 0/\(1 : Int) = 1/\(0 : Int) = 0/\(0 : Int) = 0/\True)/\ownM y_10.os = ownM y_9.os/\AS_w1 x x_6 x_2 x_4))
theorem newaVC_ok (x : ZNew) : newaVC x = wpF Tryz.prog tblA1 tt (noA x) 200 5 10 (newaP.args x) (hO 0 (flatP 0 (newaP.l x))) (fun v h' => endsPK 0 x v h' newaP.outs) := by kernel_rfl
end Go.Proofs.YtpnhfbegboogbaaGreat
end
section
namespace Go.Proofs.YtpnhfbegboogbaaGreat
open Go SE
set_option linter.unusedSimpArgs false
theorem newDev_good (n : Nat) (h : n<=258) : (newDev n).ok := ⟨h,fun _ => ⟨Int.le_refl 0,(by decide : (0 : Int) < 256)⟩,⟨Int.le_refl 0,(by decide : (0 : Int) < 1099511627776)⟩,⟨Int.le_refl 0,(by decide : (0 : Int) < 1099511627776)⟩,⟨Int.le_refl 0,(by decide : (0 : Int) < 1099511627776)⟩,
 ⟨Int.le_refl 0,(by decide : (0 : Int) < 1099511627776)⟩,⟨Int.le_refl 0,(by decide : (0 : Int) < 1099511627776)⟩⟩
theorem newaVC_true (x : ZNew) (hx : 10<=x.n/\x.n<=258/\1<=x.t/\x.t<=4) : newaVC x := by
 unfold newaVC
 simp only [AS_w9,AS_w8,AS_w1,AS_w3]
 simp only [hd_iff,and_true,true_and,Nat.zero_add,Nat.add_zero,unit_ex,unit_all,true_implies,implies_true,Int.toNat_natCast,eq_self,and_self,eff_nil,cond_one,cond_int,ones_int,row_int,ones_bool,row_bool,cond_bool,ble0,Bool.true_and,Nat.sub_zero,List.getElem?_cons_zero,Option.some.injEq,Value.bool.injEq,Value.int.injEq,exists_eq_left',exists_eq_left]
 have h1 := newDev_good x.n hx.2.1
 have hm : imin (x.n : Int) 258 = x.n := by unfold imin; omega
 have hd : ((x.n : Int) - 2).tdiv 8 = (((x.n - 2) / 8 : Nat) : Int) := by
  rw [show (x.n : Int) - 2 = ((x.n - 2 : Nat) : Int) by omega]
  exact (Int.ofNat_tdiv (x.n - 2) 8).symm
 refine ⟨x.n,⟨by omega,by omega⟩,rfl,x.t,⟨by omega,by omega⟩,rfl,newDev x.n,h1,rfl,cP_intro (fun h => absurd (of_decide_eq_true h) (by show ¬ ((x.n : Int) < 10); omega)) fun _ => ⟨(x.t,0),⟨by show 1<=x.t; omega,by show x.t<=4; omega,Int.le_refl 0,show (0 : Int)<=1152921504606846976 by decide⟩,⟨rfl,rfl⟩,newDev x.n,h1,rfl,cP_intro (fun h => absurd (of_decide_eq_true h) (by show ¬ ((x.n : Int) < 10); omega)) fun _ => ?_⟩⟩
 show I64 (imin (x.n : Int) 258 - 2)/\_
 rw [show imin ((newDev x.n).n : Int) 258 = x.n from hm,hd]
 refine ⟨by show I64 (imin (x.n : Int) 258 - 2); rw [hm]; unfold I64; omega,by omega,by unfold I64; omega,(x.n - 2) / 8,by omega,rfl,newDev x.n,⟨h1,by show 10<=x.n; omega,⟨show (0 : Int) + 10 < 1099511627776 by decide,show (0 : Int) + 10 < 1099511627776 by decide,show (0 : Int) + 10 < 1099511627776 by decide⟩⟩,rfl,fun y hy => ⟨y,⟨hy.1,hy.2.1,hy.2.2.1,hy.2.2.2.1,hy.2.2.2.2⟩,rfl,rfl,rfl,rfl⟩⟩
theorem tblF2_ok : TblOk Tryz.prog tblF2 := .cons (ctrT_ok format_ok) .nil
theorem tblA1_ok : TblOk Tryz.prog tblA1 := .append tblX_ok (.cons (ctrT_ok newdP_ok) (.cons (ctrT_ok newrP_ok) (.cons (ctrT_ok lines_ok) (.cons (ctrT_ok newkP_ok) (.cons (ctrT_ok newpP_ok) (.cons (ctrT_ok tnewP_ok) (.cons (ctrT_ok bnewP_ok) (.cons (ctrT_ok lnewP_ok) (.cons (fun _ _ _ hq => onceT_ok tblF2_ok _ _ _ hq) .nil)))))))))
theorem newa_ok : CtrOk Tryz.prog 10 newaP.ctr := pctr_end tt_ok mixed tblA1_ok 0 noA 200 5 (fun _ => ⟨rfl,rfl,rfl,rfl⟩) fun x hx => Eq.mp (newaVC_ok x) (newaVC_true x (hd_iff.1 hx))
end Go.Proofs.YtpnhfbegboogbaaGreat
end
section
namespace Go.Proofs.YtpnhfbegboogbaaGreat
open Go SE
def arnR (p r c b t l d : AV) : AObj := .ro (.av [d,p,r,c,b,t,.any,l,.any,.any,.any])
structure ZUse where
 b : ZBag
 l : ZLn
 k : Int
def ZUse.inL (x : ZUse) : Prop := ∃ i,i < x.l.n/\(x.l.get i).line = x.k
def ZUse.inB (x : ZUse) : Prop := ∃ i,i < x.b.n/\((x.b.e i).line = x.k ∨ (x.b.e i).anti = x.k)
noncomputable def ZUse.os (x : ZUse) : List AObj := [arnR .any .any .any (.ptr 1 0) (.ptr 2 0) (.ptr 3 0) .any,.abs (ownM x.b.os),.abs (ownM tabE),.abs (ownM x.l.os)]
noncomputable def usedC : Ctr := { X := ZUse,args := fun x => [.ptr 0 0,i64 x.k],k := 4,os := ZUse.os,pre := fun x => Hd (x.b.ok/\x.l.ok/\x.l.n < 1099511627776),outs := [
 { Y := Unit,post := fun x _ => Hd (x.inL ∨ x.inB),ret := fun _ _ => boo true,m := 4,os := fun x _ => x.os },
 { Y := Unit,post := fun x _ => Hd (¬ x.inL/\¬ x.inB),ret := fun _ _ => boo false,m := 4,os := fun x _ => x.os }] }
def anUsed (x : ZUse) : FuncId->Anns := fun f => bif Nat.beq f 194 then (fun b _ _ => bif Nat.beq b 0 then [
 { σ := Nat,fr := fun i => [(21,i64 i)],ob := fun _ => [],inv := fun i => Hd (i<=x.l.n/\∀ j,j < i->(x.l.get j).line ≠ x.k),meas := fun i => x.l.n - i }] else bif Nat.beq b 2 then [
 { σ := Nat,fr := fun i => [(36,i64 i)],ob := fun _ => [],inv := fun i => Hd (i<=x.b.n/\∀ j,j < i->(x.b.e j).line ≠ x.k/\(x.b.e j).anti ≠ x.k),meas := fun i => x.b.n - i }] else []) else fun _ _ _ => []
noncomputable def tblA2 : WTbl := [(41,ctrT tallP.ctr),(43,ctrT lineAllC.ctr),(224,ctrT bagAllC.ctr)]
end Go.Proofs.YtpnhfbegboogbaaGreat
end
section
namespace Go.Proofs.YtpnhfbegboogbaaGreat
open Go SE
def AV_w4 : Prop := True/\True/\True/\0 = 0/\0 = 0/\True/\0 = 0/\True/\True/\True/\True
def AV_w21 : Prop := ownM tabE = ownM tabE
def AV_w17 (a : ZLn) (b : ZBag) : Prop := ownM a.os = ownM a.os/\AV_w21/\ownM b.os = ownM b.os/\(True/\AV_w4)/\True
def AV_w1 (a : ZLn) (b : ZBag) : Prop := (a.n = a.n/\∀ q : Nat,q < a.n->[Value.string (ZLnk.key (a.get q)),Value.int .u64 (ZLnk.id (a.get q)),Value.int .u64 (ZLnk.ver (a.get q)),Value.int .i64 (ZLnk.line (a.get q)),Value.int .i64 (ZLnk.cls (a.get q))] = [Value.string (ZLnk.key (a.get q)),Value.int .u64 (ZLnk.id (a.get q)),Value.int .u64 (ZLnk.ver (a.get q)),Value.int .i64 (ZLnk.line (a.get q)),Value.int .i64 (ZLnk.cls (a.get q))])/\AV_w17 a b
def AV_w2 (a : ZLn) (b : ZBag) : Prop := (0 + a.n = 0 + a.n/\∀ q : Nat,q < 0 + a.n->[Value.string (ZLnk.key (a.get (0 + (q - 0)))),Value.int .u64 (ZLnk.id (a.get (0 + (q - 0)))),Value.int .u64 (ZLnk.ver (a.get (0 + (q - 0)))),Value.int .i64 (ZLnk.line (a.get (0 + (q - 0)))),Value.int .i64 (ZLnk.cls (a.get (0 + (q - 0))))] = [Value.string (ZLnk.key (a.get (0 + (q - 0)))),Value.int .u64 (ZLnk.id (a.get (0 + (q - 0)))),Value.int .u64 (ZLnk.ver (a.get (0 + (q - 0)))),Value.int .i64 (ZLnk.line (a.get (0 + (q - 0)))),Value.int .i64 (ZLnk.cls (a.get (0 + (q - 0))))])/\AV_w1 a b
def AV_w3 (a : ZUse) (b : ZBag) (c : ZLn) : Prop := (True/\AV_w4)/\ownM a.b.os = ownM b.os/\AV_w21/\ownM a.l.os = ownM c.os/\True
def AV_w9 (a : ZBag) : Prop := a.n = a.n/\∀ q : Nat,q < a.n->[Value.int .i64 (ZEnt.line (a.e q)),Value.int .i64 (ZEnt.cls (a.e q)),Value.int .u64 (ZEnt.r (a.e q)),Value.int .u64 (ZEnt.d (a.e q)),Value.int .i64 (ZEnt.anti (a.e q))] = [Value.int .i64 (ZEnt.line (a.e q)),Value.int .i64 (ZEnt.cls (a.e q)),Value.int .u64 (ZEnt.r (a.e q)),Value.int .u64 (ZEnt.d (a.e q)),Value.int .i64 (ZEnt.anti (a.e q))]
def AV_w13 (a : Nat) (b : ZUse) : Prop := Hd (a<=b.b.n/\∀ j : Nat,j < a->ZEnt.line (b.b.e j) ≠ b.k/\ZEnt.anti (b.b.e j) ≠ b.k)
def AV_w14 (a : ZUse) (b : ZBag) (c : ZLn) : Prop := (∃ y_3 : Unit,Hd (a.inL ∨ a.inB)/\true = false/\AV_w3 a b c) ∨ ∃ y_3 : Unit,Hd (Not a.inL/\Not a.inB)/\false = false/\AV_w3 a b c
def AV_w15 (a : ZUse) (b : ZBag) (c : ZLn) : Prop := (∃ y_3 : Unit,Hd (a.inL ∨ a.inB)/\true = true/\AV_w3 a b c) ∨ ∃ y_3 : Unit,Hd (Not a.inL/\Not a.inB)/\false = true/\AV_w3 a b c
def AV_w16 (a : ZUse) (b : ZBag) (c : ZLn) : Prop := (∀ s_1 : Nat,AV_w13 s_1 a->AV_w14 a b c)/\True
def AV_w18 (a : Nat) (b : ZUse) : Prop := Hd (a<=b.l.n/\∀ j : Nat,j < a->ZLnk.line (b.l.get j) ≠ b.k)
def AV_w22 (a : Nat) (b : ZLn) (c : ZBag) : Prop := True/\((a : Int) = 0/\True)/\AV_w17 b c
def AV_w24 (a : ZBag) (b : ZLn) : Prop := AV_w9 a/\AV_w17 b a
def usedVC (x : ZUse) : Prop :=
 ∃ x_1 : Unit,Hd True/\(0 = 0/\True)/\(AV_w21/\True)/\∀ y : Unit,True->(AV.ptr 3 0 = AV.ptr 3 0/\True)/\∃ x_2 : ZLn,Hd x_2.ok/\(0 = 0/\True)/\(ownM x_2.os = ownM x.l.os/\True)/\(∀ y_1 : Unit,Hd (x_2.n = 0)->True/\True/\(∃ s : Nat,AV_w18 s x/\AV_w22 s x_2 x.b)/\(∀ s : Nat,AV_w18 s x->∃ x_3 : ZBag,Hd x_3.ok/\(0 = 0/\True)/\(ownM x_3.os = ownM x.b.os/\True)/\(∀ y_2 : Unit,Hd (x_3.n = 0)->(∃ s_1 : Nat,AV_w13 s_1 x/\AV_w22 s_1 x_2 x_3)/\AV_w16 x x_3 x_2)/\∀ y_2 : Unit,Hd True->(∃ s_1 : Nat,AV_w13 s_1 x/\True/\((s_1 : Int) = 0/\True)/\AV_w24 x_3 x_2)/\(∀ s_1 : Nat,AV_w13 s_1 x->cP (decide ((s_1 : Int) < (x_3.n : Int))) ((0<=(s_1 : Int)/\(s_1 : Int) < (x_3.n : Int))/\0 + s_1 < x_3.n/\cP (BEq.beq (ZEnt.line (x_3.e (0 + s_1))) x.k) (AV_w15 x x_3 x_2) (cP (BEq.beq (ZEnt.anti (x_3.e (0 + s_1))) x.k) (AV_w15 x x_3 x_2) (I64 ((s_1 : Int) + 1)/\∃ s_2 : Nat,AV_w13 s_2 x/\x.b.n - s_2 < x.b.n - s_1/\((s_2 : Int) = (s_1 : Int) + 1/\True)/\AV_w24 x_3 x_2))) (AV_w14 x x_3 x_2))/\True)/\True)/\∀ y_1 : Unit,Hd (x_2.n ≠ 0)->True/\0 + x_2.n<=x_2.n/\cP (Nat.beq x_2.n 0) (True/\(∃ s : Nat,AV_w18 s x/\True/\((s : Int) = 0/\True)/\AV_w1 x_2 x.b)/\(∀ s : Nat,AV_w18 s x->∃ x_3 : ZBag,Hd x_3.ok/\(0 = 0/\True)/\(ownM x_3.os = ownM x.b.os/\True)/\(∀ y_2 : Unit,Hd (x_3.n = 0)->(∃ s_1 : Nat,AV_w13 s_1 x/\True/\((s_1 : Int) = 0/\True)/\AV_w1 x_2 x_3)/\AV_w16 x x_3 x_2)/\∀ y_2 : Unit,Hd True->(∃ s_1 : Nat,AV_w13 s_1 x/\True/\((s_1 : Int) = 0/\True)/\AV_w9 x_3/\AV_w1 x_2 x_3)/\(∀ s_1 : Nat,AV_w13 s_1 x->cP (decide ((s_1 : Int) < (x_3.n : Int))) ((0<=(s_1 : Int)/\(s_1 : Int) < (x_3.n : Int))/\0 + s_1 < x_3.n/\
 cP (BEq.beq (ZEnt.line (x_3.e (0 + s_1))) x.k) (AV_w15 x x_3 x_2) (cP (BEq.beq (ZEnt.anti (x_3.e (0 + s_1))) x.k) (AV_w15 x x_3 x_2) (I64 ((s_1 : Int) + 1)/\∃ s_2 : Nat,AV_w13 s_2 x/\x.b.n - s_2 < x.b.n - s_1/\((s_2 : Int) = (s_1 : Int) + 1/\True)/\AV_w9 x_3/\AV_w1 x_2 x_3))) (AV_w14 x x_3 x_2))/\True)/\True) ((2 * (0 + x_2.n) + 1000) * 48<=281474976710656/\True/\(∃ s : Nat,AV_w18 s x/\True/\((s : Int) = 0/\True)/\AV_w2 x_2 x.b)/\(∀ s : Nat,AV_w18 s x->cP (decide ((s : Int) < ((0 + x_2.n : Nat) : Int))) ((0<=(s : Int)/\(s : Int) < ((0 + x_2.n : Nat) : Int))/\0 + s < 0 + x_2.n/\cP (BEq.beq (ZLnk.line (x_2.get (0 + (0 + s - 0)))) x.k) ((∃ y_2 : Unit,Hd (x.inL ∨ x.inB)/\true = true/\(True/\AV_w4)/\ownM x.b.os = ownM x.b.os/\AV_w21/\ownM x.l.os = ownM x_2.os/\True) ∨ ∃ y_2 : Unit,Hd (Not x.inL/\Not x.inB)/\false = true/\(True/\AV_w4)/\ownM x.b.os = ownM x.b.os/\AV_w21/\ownM x.l.os = ownM x_2.os/\True) (I64 ((s : Int) + 1)/\∃ s_1 : Nat,AV_w18 s_1 x/\x.l.n - s_1 < x.l.n - s/\((s_1 : Int) = (s : Int) + 1/\True)/\AV_w2 x_2 x.b)) (∃ x_3 : ZBag,Hd x_3.ok/\(0 = 0/\True)/\(ownM x_3.os = ownM x.b.os/\True)/\(∀ y_2 : Unit,Hd (x_3.n = 0)->(∃ s_1 : Nat,AV_w13 s_1 x/\True/\((s_1 : Int) = 0/\True)/\AV_w2 x_2 x_3)/\AV_w16 x x_3 x_2)/\∀ y_2 : Unit,Hd True->(∃ s_1 : Nat,AV_w13 s_1 x/\True/\((s_1 : Int) = 0/\True)/\AV_w9 x_3/\AV_w2 x_2 x_3)/\(∀ s_1 : Nat,AV_w13 s_1 x->cP (decide ((s_1 : Int) < (x_3.n : Int))) ((0<=(s_1 : Int)/\(s_1 : Int) < (x_3.n : Int))/\0 + s_1 < x_3.n/\cP (BEq.beq (ZEnt.line (x_3.e (0 + s_1))) x.k) (AV_w15 x x_3 x_2) (cP (BEq.beq (ZEnt.anti (x_3.e (0 + s_1))) x.k) (AV_w15 x x_3 x_2) (I64 ((s_1 : Int) + 1)/\∃ s_2 : Nat,AV_w13 s_2 x/\x.b.n - s_2 < x.b.n - s_1/\((s_2 : Int) = (s_1 : Int) + 1/\
 True)/\AV_w9 x_3/\AV_w2 x_2 x_3))) (AV_w14 x x_3 x_2))/\True))/\True)
theorem usedVC_ok (x : ZUse) : usedVC x = wpF Tryz.prog tblA2 tt (anUsed x) 200 5 194 (usedC.args x) (hO usedC.k (usedC.os x)) (fun v h' => endsP usedC.k x v h' usedC.outs) := by kernel_rfl
end Go.Proofs.YtpnhfbegboogbaaGreat
end
section
namespace Go.Proofs.YtpnhfbegboogbaaGreat
open Go SE
set_option linter.unusedSimpArgs false
theorem usedVC_true (x : ZUse) (hx : x.b.ok/\x.l.ok/\x.l.n < 1099511627776) : usedVC x := by
 obtain ⟨hb,hl,hln⟩ := hx
 have hbn := hb.1
 unfold usedVC
 simp only [AV_w21,AV_w18,AV_w22,AV_w13,AV_w16,AV_w24,AV_w15,AV_w14,AV_w1,AV_w9,AV_w2,AV_w4,AV_w17,AV_w3]
 simp only [hd_iff,and_true,true_and,Nat.zero_add,Nat.add_zero,unit_ex,unit_all,true_implies,implies_true,Int.toNat_natCast,eq_self,and_self,eff_nil,cond_one,cond_int,ones_int,row_int,ones_bool,row_bool,cond_bool,ble0,Bool.true_and,Nat.sub_zero,List.getElem?_cons_zero,Option.some.injEq,Value.bool.injEq,Value.int.injEq,exists_eq_left',exists_eq_left]
 refine ⟨x.l,hl,rfl,fun h0 => ⟨⟨0,⟨Nat.zero_le _,fun j hj => absurd hj (Nat.not_lt_zero j)⟩,rfl⟩,fun s hs => ?_⟩,fun h0 => ⟨Nat.le_refl _,cP_intro (fun hz => ?_) fun _ => ⟨by omega,⟨0,⟨Nat.zero_le _,fun j hj => absurd hj (Nat.not_lt_zero j)⟩,rfl⟩,fun s hs => cP_intro (fun h => ?_) fun h => ?_⟩⟩⟩
 ·have hL : ¬ x.inL := fun ⟨i,hi,_⟩ => by omega
  refine ⟨x.b,hb,rfl,fun h0 => ⟨⟨0,⟨Nat.zero_le _,fun j hj => absurd hj (Nat.not_lt_zero j)⟩,rfl⟩,fun s1 hs1 => Or.inr ⟨⟨hL,fun ⟨i,hi,_⟩ => by omega⟩,rfl,rfl⟩⟩,⟨0,⟨Nat.zero_le _,fun j hj => absurd hj (Nat.not_lt_zero j)⟩,rfl⟩,fun s1 hs1 => cP_intro (fun h => ?_) fun h => ?_⟩
  ·have h' : s1 < x.b.n := by have := of_decide_eq_true h; omega
   refine ⟨⟨by omega,by omega⟩,h',cP_intro (fun e => Or.inl ⟨Or.inr ⟨s1,h',Or.inl (beq_iff_eq.1 e)⟩,rfl,rfl⟩) fun e => cP_intro (fun e2 => Or.inl ⟨Or.inr ⟨s1,h',Or.inr (beq_iff_eq.1 e2)⟩,rfl,rfl⟩) fun e2 => ⟨by unfold I64; omega,s1 + 1,⟨by omega,fun j hj => ?_⟩,by omega,by omega⟩⟩
   by_cases hjs : j = s1
   ·subst hjs; exact ⟨beq_eq_false_iff_ne.1 e,beq_eq_false_iff_ne.1 e2⟩
   ·exact hs1.2 j (by omega)
  ·have h' : ¬ s1 < x.b.n := by have := of_decide_eq_false h; omega
   exact Or.inr ⟨⟨hL,fun ⟨i,hi,hh⟩ => hh.elim (hs1.2 i (by omega)).1 (hs1.2 i (by omega)).2⟩,rfl,rfl⟩
 ·exact absurd (Nat.eq_of_beq_eq_true hz) h0
 ·have h' : s < x.l.n := by have := of_decide_eq_true h; omega
  refine ⟨⟨by omega,by omega⟩,h',cP_intro (fun e => Or.inl ⟨Or.inl ⟨s,h',beq_iff_eq.1 e⟩,rfl⟩) fun e => ⟨by unfold I64; omega,s + 1,⟨by omega,fun j hj => ?_⟩,by omega,by omega⟩⟩
  by_cases hjs : j = s
  ·subst hjs; exact beq_eq_false_iff_ne.1 e
  ·exact hs.2 j (by omega)
 ·have h' : ¬ s < x.l.n := by have := of_decide_eq_false h; omega
  have hL : ¬ x.inL := fun ⟨i,hi,hh⟩ => hs.2 i (by omega) hh
  refine ⟨x.b,hb,rfl,fun h0 => ⟨⟨0,⟨Nat.zero_le _,fun j hj => absurd hj (Nat.not_lt_zero j)⟩,rfl⟩,fun s1 hs1 => Or.inr ⟨⟨hL,fun ⟨i,hi,_⟩ => by omega⟩,rfl,rfl⟩⟩,⟨0,⟨Nat.zero_le _,fun j hj => absurd hj (Nat.not_lt_zero j)⟩,rfl⟩,fun s1 hs1 => cP_intro (fun h => ?_) fun h => ?_⟩
  ·have h' : s1 < x.b.n := by have := of_decide_eq_true h; omega
   refine ⟨⟨by omega,by omega⟩,h',cP_intro (fun e => Or.inl ⟨Or.inr ⟨s1,h',Or.inl (beq_iff_eq.1 e)⟩,rfl,rfl⟩) fun e => cP_intro (fun e2 => Or.inl ⟨Or.inr ⟨s1,h',Or.inr (beq_iff_eq.1 e2)⟩,rfl,rfl⟩) fun e2 => ⟨by unfold I64; omega,s1 + 1,⟨by omega,fun j hj => ?_⟩,by omega,by omega⟩⟩
   by_cases hjs : j = s1
   ·subst hjs; exact ⟨beq_eq_false_iff_ne.1 e,beq_eq_false_iff_ne.1 e2⟩
   ·exact hs1.2 j (by omega)
  ·have h' : ¬ s1 < x.b.n := by have := of_decide_eq_false h; omega
   exact Or.inr ⟨⟨hL,fun ⟨i,hi,hh⟩ => hh.elim (hs1.2 i (by omega)).1 (hs1.2 i (by omega)).2⟩,rfl,rfl⟩
theorem tblA2_ok : TblOk Tryz.prog tblA2 := .cons (ctrT_ok tall_ok) (.cons (ctrT_ok lineAll_ok) (.cons (ctrT_ok bagAll_ok) .nil))
theorem used_ok : CtrOk Tryz.prog 194 usedC := ctr_endL tt_ok mixed tblA2_ok anUsed 200 5 (fun _ => rfl) (fun _ => ⟨fun _ => rfl,fun _ => rfl,trivial⟩) fun x hx => Eq.mp (usedVC_ok x) (usedVC_true x (hd_iff.1 hx))
end Go.Proofs.YtpnhfbegboogbaaGreat
end
section
namespace Go.Proofs.YtpnhfbegboogbaaGreat
open Go SE
def ClkM.notes (c : ClkM) (t : Nat) (l : Int) : Nat->ClkM
 | 0 => c
 | i + 1 => (c.notes t l i).note t (l + i)
structure ZChg where
 a : ZArn
 t : Nat
 e : Int
 v : ByteArray
 key : ByteArray
 had : Bool
 old : ZLnk
 k : Nat
 c : Int
namespace ZChg
def av (x : ZChg) (kind : Int) : AV := .agg [i64 kind,.lit (.string x.key),.lit (.string x.v),boo x.had,.lit (.string x.old.key),u64 x.old.id,u64 x.old.ver,i64 x.old.line,i64 x.old.cls,i64 x.k,i64 x.c]
def blk (x : ZChg) : ZBlk := ⟨x.c,2,x.a.id + 1,x.a.ver + 1,x.e,⟨#[]⟩,x.v⟩
def eff (x : ZChg) : ZEff := ⟨3,⟨#[]⟩,x.v,x.a.id + 1,x.a.ver + 1,x.e,x.a.ver + 1⟩
noncomputable def enq (x : ZChg) : ZArn := { x.a with d := x.a.d.store x.k 0 64 x.blk.enc,c := x.a.c.notes x.t x.k x.blk.spnN,l := x.a.l.push ⟨⟨#[]⟩,x.a.id + 1,x.a.ver + 1,x.k,x.c⟩,id := x.a.id + 1,ver := x.a.ver + 1,n := x.a.n + 1,e := fun i => if i = x.a.n then x.eff else x.a.e i }
def ok (x : ZChg) : Prop := x.a.d.ok/\x.a.c.ok/\x.a.l.ok/\x.t < x.a.c.t/\x.k < x.a.d.n/\x.blk.may/\x.v.size < 1099511627776/\0<=x.a.id/\0<=x.a.ver/\x.a.n < 1099511627776/\x.a.d.n<=258
end ZChg
def ZChg.okE (x : ZChg) : Prop := x.ok/\x.a.p.ok/\x.a.b.ok/\x.a.l.n < 1099511627776/\x.a.c.now = x.e/\x.a.ver < 1152921504606846976/\x.a.id < 1152921504606846976/\(¬ ZUse.inL ⟨x.a.b,x.a.l,x.k⟩)/\¬ ZUse.inB ⟨x.a.b,x.a.l,x.k⟩
def ZChg.inP (x : ZChg) (i j : Nat) : Prop := i < x.a.p.n/\0<=x.a.p.cls i/\j < ZPool.many (x.a.p.cls i)/\x.a.p.tk i j = true/\(x.k : Int) = 2 + i * 8 + j * spn (x.a.p.cls i)/\x.a.p.cls i = x.c
noncomputable def ZChg.lst (x : ZChg) (kind : Int) : AObj := .ro (.av [i64 kind,.lit (.string x.key),.lit (.string x.v),boo false,.lit (.string x.old.key),u64 x.old.id,u64 x.old.ver,i64 x.old.line,i64 x.old.cls,i64 x.k,i64 x.c])
noncomputable def enqPub (z : Bool) : PCtr := pdet ZChg (fun x => [.ptr 0 0,i64 x.t,u64 x.e,.sl 1 0 1 1]) 2 (fun x => [.m (bif z then x.a.osN else x.a.osP),.o (x.lst 4)]) (fun x => Hd (x.okE/\(∃ i j,x.inP i j)/\(z = true->x.a.n = 0))) (fun _ => .tup [.slW 2 0 1 1,i64 0]) 3 (fun x => [.m x.enq.osP,.o (x.lst 4),.o (.room 4 (.row 1 1 (fun _ => [.bool false]) []))])
noncomputable def heldC : Ctr := det ZChg (fun x => [.ptr 0 0,.sl 5 0 1 1]) 6 (fun x => [arnR (.ptr 1 0) .any .any (.ptr 2 0) (.ptr 3 0) (.ptr 4 0) .any,.abs (ownM x.a.p.os),.abs (ownM x.a.b.os),.abs (ownM tabE),.abs (ownM x.a.l.os),x.lst 4]) (fun x => Hd (x.okE/\∃ i j,x.inP i j)) (fun _ => boo true) 6 (fun x => [arnR (.ptr 1 0) .any .any (.ptr 2 0) (.ptr 3 0) (.ptr 4 0) .any,.abs (ownM x.a.p.os),.abs (ownM x.a.b.os),.abs (ownM tabE),.abs (ownM x.a.l.os),x.lst 4])
noncomputable def tblA4 : WTbl := [(193,ctrT ofP.ctr),(194,ctrT usedC)]
noncomputable def anChg (x : ZChg) : FuncId->Anns := fun f => bif Nat.beq f 161 then (fun b _ _ => bif Nat.beq b 0 then [
 { σ := Nat,fr := fun i => [(67,i64 i)],ob := fun i => [(6,some (.abs (ownM ((x.a.c.notes x.t x.k i).os 0))))],inv := fun i => Hd (i<=x.blk.spnN),meas := fun i => x.blk.spnN - i }] else []) else fun _ _ _ => []
end Go.Proofs.YtpnhfbegboogbaaGreat
end
section
namespace Go.Proofs.YtpnhfbegboogbaaGreat
open Go SE
def AY_w1 (a : ZChg) : Prop := ((4 : Int) = 4/\a.key = a.key/\a.v = a.v/\false = false/\a.old.key = a.old.key/\a.old.id = a.old.id/\a.old.ver = a.old.ver/\a.old.line = a.old.line/\a.old.cls = a.old.cls/\(a.k : Int) = (a.k : Int)/\a.c = a.c/\True)/\True
def AY_w9 : Prop := True/\True/\0 = 0/\0 = 0/\True/\0 = 0/\True/\True/\True/\True
def AY_w13 : Prop := True/\0 = 0/\AY_w9
def AY_w2 (a : ZChg) (b : ZPool) (c : ZUse) : Prop := AY_w13/\ownM a.a.p.os = ownM b.os/\ownM a.a.b.os = ownM c.b.os/\ownM tabE = ownM tabE/\ownM a.a.l.os = ownM c.l.os/\AY_w1 a
def heldVC (x : ZChg) : Prop :=
 ((0 : Int)<=0/\(0 : Int)<=0)/\∃ x_1 : ZPoolB,Hd x_1.ok/\(0 = 0/\x_1.line = (x.k : Int)/\True)/\(ownM x_1.p.os = ownM x.a.p.os/\True)/\∀ y : Unit,True->True/\cP (bne (x_1.p.cls x_1.i) x.c) (∃ y_1 : Unit,True/\true = false/\AY_w13/\ownM x.a.p.os = ownM x_1.p.os/\ownM x.a.b.os = ownM x.a.b.os/\ownM tabE = ownM tabE/\ownM x.a.l.os = ownM x.a.l.os/\AY_w1 x) (∃ x_2 : ZUse,Hd (x_2.b.ok/\x_2.l.ok/\x_2.l.n < 1099511627776)/\(0 = 0/\x_2.k = (x.k : Int)/\True)/\((True/\True/\AY_w9)/\ownM x_2.b.os = ownM x.a.b.os/\ownM tabE = ownM tabE/\ownM x_2.l.os = ownM x.a.l.os/\True)/\(∀ y_1 : Unit,Hd (x_2.inL ∨ x_2.inB)->∃ y_2 : Unit,True/\true = false/\AY_w2 x x_1.p x_2)/\∀ y_1 : Unit,Hd (Not x_2.inL/\Not x_2.inB)->I64 (1 : Int)/\∃ y_2 : Unit,True/\true = true/\AY_w2 x x_1.p x_2)
theorem heldVC_ok (x : ZChg) : heldVC x = wpF Tryz.prog tblA4 tt (noA x) 200 6 158 (heldC.args x) (hO heldC.k (heldC.os x)) (fun v h' => endsP heldC.k x v h' heldC.outs) := by kernel_rfl
end Go.Proofs.YtpnhfbegboogbaaGreat
end
section
namespace Go.Proofs.YtpnhfbegboogbaaGreat
open Go SE
set_option linter.unusedSimpArgs false
theorem heldVC_true (x : ZChg) (hx : x.okE/\∃ i j,x.inP i j) : heldVC x := by
 obtain ⟨⟨⟨_,_,hl,_⟩,hp,hb,hln,_,_,_,hL,hB⟩,i,j,h1,h2,h3,h4,h5,h6⟩ := hx
 unfold heldVC
 simp only [AY_w13,AY_w1,AY_w9,AY_w2]
 simp only [hd_iff,and_true,true_and,Nat.zero_add,Nat.add_zero,unit_ex,unit_all,true_implies,implies_true,Int.toNat_natCast,eq_self,and_self,eff_nil,cond_one,cond_int,ones_int,row_int,ones_bool,row_bool,cond_bool,ble0,Bool.true_and,Nat.sub_zero,List.getElem?_cons_zero,Option.some.injEq,Value.bool.injEq,Value.int.injEq,exists_eq_left',exists_eq_left]
 refine ⟨by decide,⟨x.a.p,i,j⟩,⟨hp,h1,h2,h3,h4⟩,h5.symm,rfl,?_⟩
 refine cP_intro (fun h => absurd h6 (bne_iff_ne.1 h)) fun _ => ⟨⟨x.a.b,x.a.l,x.k⟩,⟨hb,hl,hln⟩,rfl,⟨rfl,rfl⟩,fun h => absurd h (not_or.2 ⟨hL,hB⟩),fun _ => ⟨by unfold I64; omega,rfl,rfl,rfl⟩⟩
theorem tblA4_ok : TblOk Tryz.prog tblA4 := .cons (ctrT_ok of_ok) (.cons (ctrT_ok used_ok) .nil)
theorem held_ok : CtrOk Tryz.prog 158 heldC := det_end tt_ok mixed tblA4_ok noA 200 6 (fun _ => rfl) (fun _ => rfl) fun x hx => Eq.mp (heldVC_ok x) (heldVC_true x (hd_iff.1 hx))
end Go.Proofs.YtpnhfbegboogbaaGreat
end
section
namespace Go.Proofs.YtpnhfbegboogbaaGreat
open Go SE
noncomputable def shapedC : Ctr := det ZChg (fun _ => [.sl 0 0 1 1]) 1 (fun x => [x.lst 4]) (fun _ => Hd True) (fun _ => boo true) 1 (fun x => [x.lst 4])
noncomputable def fitsC : Ctr := det ZChg (fun x => [.ptr 0 0,.sl 1 0 1 1,u64 x.e]) 2 (fun x => [.ro (.av [.any,.any,.any,.any,.any,.any,.any,.any,u64 x.a.id,u64 x.a.ver,.any]),x.lst 4]) (fun x => Hd x.okE) (fun _ => i64 0) 2 (fun x => [.ro (.av [.any,.any,.any,.any,.any,.any,.any,.any,u64 x.a.id,u64 x.a.ver,.any]),x.lst 4])
noncomputable def tblA5 : WTbl := tblX ++ [(175,ctrT mayC)]
end Go.Proofs.YtpnhfbegboogbaaGreat
end
section
namespace Go.Proofs.YtpnhfbegboogbaaGreat
open Go SE
def XE_w2 (a : ZChg) : Prop := ((4 : Int) = 4/\a.key = a.key/\a.v = a.v/\false = false/\a.old.key = a.old.key/\a.old.id = a.old.id/\a.old.ver = a.old.ver/\a.old.line = a.old.line/\a.old.cls = a.old.cls/\(a.k : Int) = (a.k : Int)/\a.c = a.c/\True)/\True
def XE_w1 (a : ZChg) : Prop := (True/\True/\True/\True/\True/\True/\True/\True/\a.a.id = a.a.id/\a.a.ver = a.a.ver/\True/\True)/\XE_w2 a
def shapedVC (x : ZChg) : Prop :=
 ((0 : Int)<=0/\(0 : Int)<=0)/\I64 (1 : Int)/\∃ y : Unit,True/\true = true/\XE_w2 x
theorem shapedVC_ok (x : ZChg) : shapedVC x = wpF Tryz.prog [] tt (noA x) 200 6 156 (shapedC.args x) (hO shapedC.k (shapedC.os x)) (fun v h' => endsP shapedC.k x v h' shapedC.outs) := by kernel_rfl
def fitsVC (x : ZChg) : Prop :=
 True/\True/\((0 : Int)<=0/\(0 : Int)<=0)/\(AV.lit (Value.string x.v) = AV.lit (Value.string x.v)/\True)/\True/\∃ x_1 : ZBlk,Hd (x_1.key.size < 1099511627776/\x_1.value.size < 1099511627776)/\((x_1.cls = x.c/\x_1.kind = 2/\x_1.id = 1/\x_1.ver = 1/\x_1.epoch = x.e/\x_1.key = ByteArray.mk #[]/\x_1.value = x.v/\True)/\True)/\True/\∀ y : Unit,True->cP (Bool.not x_1.mayB) (∃ y_1 : Unit,True/\(0 : Int) = 3/\XE_w1 x) (cP (bne x.c x.c) (∃ y_1 : Unit,True/\(0 : Int) = 3/\XE_w1 x) (cP (decide (IntKind.wrap .u64 (x.a.ver + 1) > (2305843009213693952 : Int))) (I64 (1 : Int)/\∃ y_1 : Unit,True/\(0 : Int) = 10/\XE_w1 x) (I64 (1 : Int)/\cP (decide (IntKind.wrap .u64 (x.a.id + 1) > (2305843009213693952 : Int))) (∃ y_1 : Unit,True/\(0 : Int) = 10/\XE_w1 x) (∃ y_1 : Unit,True/\(0 : Int) = 0/\XE_w1 x))))
theorem fitsVC_ok (x : ZChg) : fitsVC x = wpF Tryz.prog tblA5 tt (noA x) 200 6 159 (fitsC.args x) (hO fitsC.k (fitsC.os x)) (fun v h' => endsP fitsC.k x v h' fitsC.outs) := by kernel_rfl
end Go.Proofs.YtpnhfbegboogbaaGreat
end
section
namespace Go.Proofs.YtpnhfbegboogbaaGreat
open Go SE
set_option linter.unusedSimpArgs false
theorem shapedVC_true (x : ZChg) : shapedVC x := by
 unfold shapedVC
 simp only [XE_w2]
 simp only [hd_iff,and_true,true_and,Nat.zero_add,Nat.add_zero,unit_ex,unit_all,true_implies,implies_true,Int.toNat_natCast,eq_self,and_self,eff_nil,cond_one,cond_int,ones_int,row_int,ones_bool,row_bool,cond_bool,ble0,Bool.true_and,Nat.sub_zero,List.getElem?_cons_zero,Option.some.injEq,Value.bool.injEq,Value.int.injEq,exists_eq_left',exists_eq_left,I64]
 omega
theorem fitsVC_true (x : ZChg) (hx : x.okE) : fitsVC x := by
 obtain ⟨⟨_,_,_,_,_,hm,hv,hi,hw,_⟩,_,_,_,_,h1,h2,_⟩ := hx
 unfold fitsVC
 simp only [XE_w1,XE_w2]
 simp only [hd_iff,and_true,true_and,Nat.zero_add,Nat.add_zero,unit_ex,unit_all,true_implies,implies_true,Int.toNat_natCast,eq_self,and_self,eff_nil,cond_one,cond_int,ones_int,row_int,ones_bool,row_bool,cond_bool,ble0,Bool.true_and,Nat.sub_zero,List.getElem?_cons_zero,Option.some.injEq,Value.bool.injEq,Value.int.injEq,exists_eq_left',exists_eq_left]
 have hq : ZBlk.may ⟨x.c,2,1,1,x.e,⟨#[]⟩,x.v⟩ := by
  obtain ⟨a,b⟩ := hm
  refine ⟨a,?_⟩
  simp only [ZChg.blk] at b
  rcases b with ⟨b,_⟩ | ⟨b,_⟩ | ⟨_,b1,b2,b3,_,_,b4⟩ | ⟨b,_⟩
  ·exact absurd b (by decide)
  ·exact absurd b (by decide)
  ·exact .inr (.inr (.inl ⟨rfl,rfl,b2,b3,⟨show (1 : Int)<=1 by decide,show (1 : Int)<=2305843009213693952 by decide⟩,⟨show (1 : Int)<=1 by decide,show (1 : Int)<=2305843009213693952 by decide⟩,b4⟩))
  ·exact absurd b (by decide)
 have w1 : IntKind.u64.wrap (x.a.ver + 1) = x.a.ver + 1 := u64wrapN (by omega) (by omega)
 have w2 : IntKind.u64.wrap (x.a.id + 1) = x.a.id + 1 := u64wrapN (by omega) (by omega)
 rw [w1,w2]
 refine ⟨by decide,⟨x.c,2,1,1,x.e,⟨#[]⟩,x.v⟩,⟨by show 0 < 1099511627776; decide,hv⟩,⟨rfl,rfl,rfl,rfl,rfl,rfl,rfl⟩,?_⟩
 rw [mayB_iff.2 hq,Bool.not_true,cP_false,bne_self_eq_false,cP_false]
 exact cP_intro (fun h => absurd (of_decide_eq_true h) (by omega)) fun _ => ⟨by unfold I64; omega,cP_intro (fun h => absurd (of_decide_eq_true h) (by omega)) fun _ => trivial⟩
theorem tblA5_ok : TblOk Tryz.prog tblA5 := .append tblX_ok (.cons (ctrT_ok may_ok) .nil)
theorem fits_ok : CtrOk Tryz.prog 159 fitsC := det_end tt_ok mixed tblA5_ok noA 200 6 (fun _ => rfl) (fun _ => rfl) fun x hx => Eq.mp (fitsVC_ok x) (fitsVC_true x (hd_iff.1 hx))
theorem shaped_ok : CtrOk Tryz.prog 156 shapedC := det_end tt_ok mixed .nil noA 200 6 (fun _ => rfl) (fun _ => rfl) fun x _ => Eq.mp (shapedVC_ok x) (shapedVC_true x)
end Go.Proofs.YtpnhfbegboogbaaGreat
end
section
namespace Go.Proofs.YtpnhfbegboogbaaGreat
open Go SE
structure ZFr where
 key : ByteArray
 value : ByteArray
 epoch : Int
 had : Bool
 old : ZLnk
 line : Int
 cls : Int
 piece : Int
 code : Int
 found : Bool
 ans : ByteArray
 aep : Int
namespace ZFr
def l (f : ZFr) (k ph : Int) (b : AV) : List AV := [i64 k,.lit (.string f.key),.lit (.string f.value),.lit (.string ⟨#[]⟩),nilS,i64 ph,u64 f.epoch,.lit (.string ⟨#[]⟩),boo false,i64 0,boo f.had,.lit (.string f.old.key),u64 f.old.id,u64 f.old.ver,i64 f.old.line,i64 f.old.cls,i64 f.line,i64 f.cls,i64 f.piece,b,i64 0,nilS,i64 f.code,boo f.found,.lit (.string f.ans),nilS,nilS,u64 f.aep]
def av (f : ZFr) (k ph : Int) (b : AV) : AV := .agg (f.l k ph b)
end ZFr
def rowU (g : Nat->Int) (n : Nat) : AObj := .room 5 (rowB g n)
structure ZFrA where
 k : Int
 key : ByteArray
 value : ByteArray
 to : ByteArray
 ph : Int
 ep : Int
 pos : ByteArray
 past : Bool
 lev : Int
 had : Bool
 okey : ByteArray
 oid : Int
 over : Int
 oline : Int
 ocls : Int
 line : Int
 cls : Int
 piece : Int
 at_ : Int
 code : Int
 found : Bool
 ans : ByteArray
 aep : Int
def ZFrA.l (x : ZFrA) : List AV := [i64 x.k,.lit (.string x.key),.lit (.string x.value),.lit (.string x.to),nilS,i64 x.ph,u64 x.ep,.lit (.string x.pos),boo x.past,i64 x.lev,boo x.had,.lit (.string x.okey),u64 x.oid,u64 x.over,i64 x.oline,i64 x.ocls,i64 x.line,i64 x.cls,i64 x.piece,nilS,i64 x.at_,nilS,i64 x.code,boo x.found,.lit (.string x.ans),nilS,nilS,u64 x.aep]
noncomputable def cloneF0 : Ctr := det ZFrA (fun x => [.agg x.l]) 0 (fun _ => []) (fun _ => True) (fun x => .agg x.l) 0 (fun _ => [])
inductive Tg where
 | i | u | s | b | n
def tgOk : Tg->AV->Bool
 | .i,.lit (.int .i64 _) => true
 | .u,.lit (.int .u64 _) => true
 | .s,.lit (.string _) => true
 | .b,.lit (.bool _) => true
 | .n,.lit (.slice none 0 0) => true
 | _,_ => false
def shp : List Tg->List AV->Bool
 | [],[] => true
 | t :: ts,v :: vs => tgOk t v && shp ts vs
 | _,_ => false
def tgs : List Tg := [.i,.s,.s,.s,.n,.i,.u,.s,.b,.i,.b,.s,.u,.u,.i,.i,.i,.i,.i,.n,.i,.n,.i,.b,.s,.n,.n,.u]
theorem shp_cons {t : Tg} {ts : List Tg} {l : List AV} (h : shp (t :: ts) l = true) : ∃ v vs,l = v :: vs/\tgOk t v = true/\shp ts vs = true := by
 cases l with
 | nil => simp [shp] at h
 | cons v vs => simp only [shp,Bool.and_eq_true] at h; exact ⟨v,vs,rfl,h.1,h.2⟩
theorem shp_nil {l : List AV} (h : shp [] l = true) : l = [] := by
 cases l with
 | nil => rfl
 | cons v vs => simp [shp] at h
theorem tg_i {v : AV} (h : tgOk .i v = true) : ∃ z,v = i64 z := by
 unfold tgOk at h; split at h <;> first | contradiction | exact ⟨_,rfl⟩
theorem tg_u {v : AV} (h : tgOk .u v = true) : ∃ z,v = u64 z := by
 unfold tgOk at h; split at h <;> first | contradiction | exact ⟨_,rfl⟩
theorem tg_s {v : AV} (h : tgOk .s v = true) : ∃ z,v = .lit (.string z) := by
 unfold tgOk at h; split at h <;> first | contradiction | exact ⟨_,rfl⟩
theorem tg_b {v : AV} (h : tgOk .b v = true) : ∃ z,v = boo z := by
 unfold tgOk at h; split at h <;> first | contradiction | exact ⟨_,rfl⟩
theorem tg_n {v : AV} (h : tgOk .n v = true) : v = nilS := by
 unfold tgOk at h; split at h <;> first | contradiction | rfl
theorem shp_l {l : List AV} (h : shp tgs l = true) : ∃ x : ZFrA,l = x.l := by
 obtain ⟨v0,r0,rfl,a0,h0⟩ := shp_cons h
 obtain ⟨v1,r1,rfl,a1,h1⟩ := shp_cons h0
 obtain ⟨v2,r2,rfl,a2,h2⟩ := shp_cons h1
 obtain ⟨v3,r3,rfl,a3,h3⟩ := shp_cons h2
 obtain ⟨v4,r4,rfl,a4,h4⟩ := shp_cons h3
 obtain ⟨v5,r5,rfl,a5,h5⟩ := shp_cons h4
 obtain ⟨v6,r6,rfl,a6,h6⟩ := shp_cons h5
 obtain ⟨v7,r7,rfl,a7,h7⟩ := shp_cons h6
 obtain ⟨v8,r8,rfl,a8,h8⟩ := shp_cons h7
 obtain ⟨v9,r9,rfl,a9,h9⟩ := shp_cons h8
 obtain ⟨v10,r10,rfl,a10,h10⟩ := shp_cons h9
 obtain ⟨v11,r11,rfl,a11,h11⟩ := shp_cons h10
 obtain ⟨v12,r12,rfl,a12,h12⟩ := shp_cons h11
 obtain ⟨v13,r13,rfl,a13,h13⟩ := shp_cons h12
 obtain ⟨v14,r14,rfl,a14,h14⟩ := shp_cons h13
 obtain ⟨v15,r15,rfl,a15,h15⟩ := shp_cons h14
 obtain ⟨v16,r16,rfl,a16,h16⟩ := shp_cons h15
 obtain ⟨v17,r17,rfl,a17,h17⟩ := shp_cons h16
 obtain ⟨v18,r18,rfl,a18,h18⟩ := shp_cons h17
 obtain ⟨v19,r19,rfl,a19,h19⟩ := shp_cons h18
 obtain ⟨v20,r20,rfl,a20,h20⟩ := shp_cons h19
 obtain ⟨v21,r21,rfl,a21,h21⟩ := shp_cons h20
 obtain ⟨v22,r22,rfl,a22,h22⟩ := shp_cons h21
 obtain ⟨v23,r23,rfl,a23,h23⟩ := shp_cons h22
 obtain ⟨v24,r24,rfl,a24,h24⟩ := shp_cons h23
 obtain ⟨v25,r25,rfl,a25,h25⟩ := shp_cons h24
 obtain ⟨v26,r26,rfl,a26,h26⟩ := shp_cons h25
 obtain ⟨v27,r27,rfl,a27,h27⟩ := shp_cons h26
 obtain rfl := shp_nil h27
 obtain ⟨z0,rfl⟩ := tg_i a0
 obtain ⟨z1,rfl⟩ := tg_s a1
 obtain ⟨z2,rfl⟩ := tg_s a2
 obtain ⟨z3,rfl⟩ := tg_s a3
 obtain rfl := tg_n a4
 obtain ⟨z5,rfl⟩ := tg_i a5
 obtain ⟨z6,rfl⟩ := tg_u a6
 obtain ⟨z7,rfl⟩ := tg_s a7
 obtain ⟨z8,rfl⟩ := tg_b a8
 obtain ⟨z9,rfl⟩ := tg_i a9
 obtain ⟨z10,rfl⟩ := tg_b a10
 obtain ⟨z11,rfl⟩ := tg_s a11
 obtain ⟨z12,rfl⟩ := tg_u a12
 obtain ⟨z13,rfl⟩ := tg_u a13
 obtain ⟨z14,rfl⟩ := tg_i a14
 obtain ⟨z15,rfl⟩ := tg_i a15
 obtain ⟨z16,rfl⟩ := tg_i a16
 obtain ⟨z17,rfl⟩ := tg_i a17
 obtain ⟨z18,rfl⟩ := tg_i a18
 obtain rfl := tg_n a19
 obtain ⟨z20,rfl⟩ := tg_i a20
 obtain rfl := tg_n a21
 obtain ⟨z22,rfl⟩ := tg_i a22
 obtain ⟨z23,rfl⟩ := tg_b a23
 obtain ⟨z24,rfl⟩ := tg_s a24
 obtain rfl := tg_n a25
 obtain rfl := tg_n a26
 obtain ⟨z27,rfl⟩ := tg_u a27
 exact ⟨⟨z0,z1,z2,z3,z5,z6,z7,z8,z9,z10,z11,z12,z13,z14,z15,z16,z17,z18,z20,z22,z23,z24,z27⟩,rfl⟩
end Go.Proofs.YtpnhfbegboogbaaGreat
end
section
namespace Go.Proofs.YtpnhfbegboogbaaGreat
open Go SE
def TB_w1 : Prop := Value.slice none 0 0 = Value.slice none 0 0
def cloneF0VC (x : ZFrA) : Prop :=
 ∃ y : Unit,True/\(x.k = x.k/\x.key = x.key/\x.value = x.value/\x.to = x.to/\TB_w1/\x.ph = x.ph/\x.ep = x.ep/\x.pos = x.pos/\x.past = x.past/\x.lev = x.lev/\x.had = x.had/\x.okey = x.okey/\x.oid = x.oid/\x.over = x.over/\x.oline = x.oline/\x.ocls = x.ocls/\x.line = x.line/\x.cls = x.cls/\x.piece = x.piece/\TB_w1/\x.at_ = x.at_/\TB_w1/\x.code = x.code/\x.found = x.found/\x.ans = x.ans/\TB_w1/\TB_w1/\x.aep = x.aep/\True)/\True
theorem cloneF0VC_ok (x : ZFrA) : cloneF0VC x = wpF Tryz.prog [] tt (noA x) 200 6 36 (cloneF0.args x) (hO cloneF0.k (cloneF0.os x)) (fun v h' => endsP cloneF0.k x v h' cloneF0.outs) := by kernel_rfl
end Go.Proofs.YtpnhfbegboogbaaGreat
end
section
namespace Go.Proofs.YtpnhfbegboogbaaGreat
open Go SE
theorem det_pure {P : Program} {f : FuncId} {X : Type} {args : X->List AV} {pre : X->Prop} {ret : X->AV} (hC : CtrOk P f (det X args 0 (fun _ => []) pre ret 0 (fun _ => []))) (x : X) (hp : pre x) (h : Heap) (ha : (args x).all litsOnly = true) (hr : litsOnly (ret x) = true) {K : AV->Heap->Prop} (hK : K (ret x) h) : Sp P f (args x) h K :=
 (sp_plain h (det_val hC x hp) (fun _ _ hv => hv) ha hr).mono fun _ _ hh => by obtain ⟨rfl,rfl⟩ := hh; exact hK
def spanT : WTr := fun args h K => match args with
 | [.lit (.int .i64 c)] => K (i64 (spn c)) h
 | _ => False
theorem spanT_ok (args : List AV) (h : Heap) (K : AV->Heap->Prop) (hq : spanT args h K) : Sp Tryz.prog 84 args h K := by
 unfold spanT at hq
 split at hq
 ·exact det_pure span_ok _ trivial h rfl rfl hq
 ·exact hq.elim
namespace ZChg
def blkD (x : ZChg) : ZBlk := ⟨0,3,x.old.id,x.a.ver + 1,x.e,⟨#[]⟩,⟨#[]⟩⟩
def effD (x : ZChg) : ZEff := ⟨4,⟨#[]⟩,⟨#[]⟩,x.old.id,x.a.ver + 1,x.e,x.a.ver + 1⟩
def entD (x : ZChg) : ZEnt := ⟨x.old.line,x.old.cls,x.a.r.now,x.e,x.k⟩
noncomputable def deq (x : ZChg) : ZArn := { x.a with d := x.a.d.store x.k 0 64 x.blkD.enc,c := x.a.c.notes x.t x.k 1,l := x.a.l.pop,ver := x.a.ver + 1,b := x.a.b.put x.entD,n := x.a.n + 1,e := fun i => if i = x.a.n then x.effD else x.a.e i }
def okD (x : ZChg) : Prop := x.a.d.ok/\x.a.c.ok/\x.a.l.ok/\x.t < x.a.c.t/\x.k < x.a.d.n/\x.blkD.may/\0<=x.a.ver/\x.a.n < 1099511627776/\x.a.d.n<=258/\x.a.p.ok/\x.a.b.ok/\x.a.r.ok/\x.a.l.n < 1099511627776/\x.a.l.n ≠ 0/\x.old = x.a.l.head/\x.a.c.now = x.e/\x.a.ver < 1152921504606846976/\x.c = 0/\x.entD.may/\(¬ ZUse.inL ⟨x.a.b,x.a.l,x.k⟩)/\¬ ZUse.inB ⟨x.a.b,x.a.l,x.k⟩
noncomputable def lst5 (x : ZChg) : AObj := .ro (.av [i64 5,.lit (.string x.key),.lit (.string x.v),boo true,.lit (.string x.old.key),u64 x.old.id,u64 x.old.ver,i64 x.old.line,i64 x.old.cls,i64 x.k,i64 x.c])
end ZChg
noncomputable def shaped5C : Ctr := det ZChg (fun _ => [.sl 0 0 1 1]) 1 (fun x => [x.lst5]) (fun _ => Hd True) (fun _ => boo true) 1 (fun x => [x.lst5])
noncomputable def fits5C : Ctr := det ZChg (fun x => [.ptr 0 0,.sl 1 0 1 1,u64 x.e]) 2 (fun x => [.ro (.av [.any,.any,.any,.any,.any,.any,.any,.any,u64 x.a.id,u64 x.a.ver,.any]),x.lst5]) (fun x => Hd (x.okD/\0<=x.a.id/\x.a.id < 1152921504606846976)) (fun _ => i64 0) 2 (fun x => [.ro (.av [.any,.any,.any,.any,.any,.any,.any,.any,u64 x.a.id,u64 x.a.ver,.any]),x.lst5])
noncomputable def held5C : Ctr := det ZChg (fun x => [.ptr 0 0,.sl 5 0 1 1]) 6 (fun x => [arnR (.ptr 1 0) .any .any (.ptr 2 0) (.ptr 3 0) (.ptr 4 0) .any,.abs (ownM x.a.p.os),.abs (ownM x.a.b.os),.abs (ownM tabE),.abs (ownM x.a.l.os),x.lst5]) (fun x => Hd (x.okD/\∃ i j,x.inP i j)) (fun _ => boo true) 6 (fun x => [arnR (.ptr 1 0) .any .any (.ptr 2 0) (.ptr 3 0) (.ptr 4 0) .any,.abs (ownM x.a.p.os),.abs (ownM x.a.b.os),.abs (ownM tabE),.abs (ownM x.a.l.os),x.lst5])
noncomputable def enc0C : Ctr := det ZBlk (fun b => [b.av]) 0 (fun _ => []) (fun b => Hd (b.may/\b.key.size < 1099511627776/\b.value.size < 1099511627776/\b.cls = 0)) (fun _ => .tup [.slE 0 0 1 64 64,i64 0]) 1 (fun b => [.cells 5 (rowB b.enc 64)])
theorem enc0_ok : CtrOk Tryz.prog 132 enc0C := ctr_of fun b hb => by
 have hb := hd_iff.1 hb
 refine ⟨encC,enc_ok,rfl,b,hd_iff.2 ⟨hb.1,hb.2.1,hb.2.2.1⟩,rfl,rfl,fun v h' hh => ?_⟩
 rcases outsP2 hh with ⟨y,h0,h1,h2⟩ | ⟨y,h0,h1,h2⟩
 ·exact outsI1 ⟨(),trivial,h1,h2⟩
 ·exact absurd hb.2.2.2 (hd_iff.1 h0)
noncomputable def deqPub : PCtr := pdet ZChg (fun x => [.ptr 0 0,i64 x.t,u64 x.e,.sl 1 0 1 1]) 2 (fun x => [.m x.a.osP,.o x.lst5]) (fun x => Hd (x.okD/\(∃ i j,x.inP i j)/\0<=x.a.id/\x.a.id < 1152921504606846976)) (fun _ => .tup [.slW 2 0 1 1,i64 0]) 3 (fun x => [.m x.deq.osP,.o x.lst5,.o (.room 4 (.row 1 1 (fun _ => [.bool true]) []))])
noncomputable def tblD1 : WTbl := tblX ++ [(84,spanT),(132,ctrT enc0C),(54,ctrT storeP.ctr),(56,ctrT (noteP 0).ctr),(202,ctrT linePopC.ctr),(115,ctrT lineHeadC.ctr),(58,ctrT bagPutC.ctr),(59,ctrT nowP.ctr),(156,ctrT shaped5C),(158,ctrT held5C),(159,ctrT fits5C),(155,ctrT (owedP 0).ctr),(60,ctrT (cnowP 0).ctr)]
end Go.Proofs.YtpnhfbegboogbaaGreat
end
section
namespace Go.Proofs.YtpnhfbegboogbaaGreat
open Go SE
set_option linter.unusedSimpArgs false
def emp : ByteArray := ⟨#[]⟩
theorem cloneF0VC_true (x : ZFrA) : cloneF0VC x := by
 unfold cloneF0VC
 simp only [TB_w1]
 simp only [hd_iff,and_true,true_and,Nat.zero_add,Nat.add_zero,unit_ex,unit_all,true_implies,implies_true,Int.toNat_natCast,eq_self,and_self,eff_nil,cond_one,cond_int,ones_int,row_int,ones_bool,row_bool,cond_bool,ble0,Bool.true_and,Nat.sub_zero,List.getElem?_cons_zero,Option.some.injEq,Value.bool.injEq,Value.int.injEq,exists_eq_left',exists_eq_left]
theorem cloneF0_ok : CtrOk Tryz.prog 36 cloneF0 := det_end tt_ok mixed .nil noA 200 6 (fun _ => rfl) (fun _ => rfl) fun x _ => Eq.mp (cloneF0VC_ok x) (cloneF0VC_true x)
def noAn0 : FuncId->Anns := fun _ _ _ _ => []
noncomputable def cloneT : WTr := fun args h K => match args with
 | [.agg l] => bif shp tgs l then K (.agg l) h else wpF Tryz.prog [] tt noAn0 200 6 36 args h K
 | _ => False
theorem cloneT_ok (args : List AV) (h : Heap) (K : AV->Heap->Prop) (hq : cloneT args h K) : Sp Tryz.prog 36 args h K := by
 unfold cloneT at hq
 split at hq
 ·rename_i l
  cases hs : shp tgs l <;> rw [hs] at hq
  ·exact wpF_ok tt_ok mixed .nil _ _ _ _ _ _ _ hq
  ·obtain ⟨x,rfl⟩ := shp_l hs
   refine (sp_plain h (det_val cloneF0_ok x trivial) (fun _ _ hv => hv) (by rfl) (by rfl)).mono ?_
   rintro v h' ⟨rfl,rfl⟩
   exact hq
 ·exact hq.elim
def needT : WTr := fun args h K => match args with
 | [.lit (.int .i64 c)] => K (i64 (ned c)) h
 | _ => False
theorem needT_ok (args : List AV) (h : Heap) (K : AV->Heap->Prop) (hq : needT args h K) : Sp Tryz.prog 152 args h K := by
 unfold needT at hq
 split at hq
 ·exact det_pure need_ok _ trivial h rfl rfl hq
 ·exact hq.elim
structure ZEn where
 r : ZRd
 c : ClkM
 t : Nat
 f : ZFr
def arnE : AObj := arnR .any (.ptr 1 0) (.ptr 2 0) .any .any .any .any
noncomputable def enterS (k : Int) : Ctr := { X := ZEn,args := fun x => [.ptr 0 0,i64 x.t,x.f.av k 0 nilS],k := 3,os := fun x => [arnE,.abs (ownM x.r.os),.abs (ownM (x.c.os 0))],pre := fun x => Hd (x.r.ok/\x.c.ok/\x.t < x.r.t/\x.r.has x.t = 0),outs := [
 { Y := Unit,post := fun x _ => Hd (k = 4/\400 < x.f.value.size),ret := fun x _ => { x.f with code := 5 }.av k 7 nilS,m := 3,os := fun x _ => [arnE,.abs (ownM x.r.os),.abs (ownM (x.c.os 0))] },
 { Y := Unit,post := fun x _ => Hd (k = 4->x.f.value.size<=400),ret := fun x _ => { x.f with epoch := x.c.now }.av k (if k = 4 then 3 else 1) nilS,m := 3,os := fun x _ => [arnE,.abs (ownM (x.r.put x.t x.r.now).os),.abs (ownM (x.c.os 0))] }] }
structure ZFi where
 l : ZLn
 t : Nat
 f : ZFr
def arnF : AObj := arnR .any .any .any .any .any (.ptr 1 0) .any
noncomputable def findS : Ctr := { X := ZFi,args := fun x => [.ptr 0 0,i64 x.t,x.f.av 5 1 nilS],k := 2,os := fun x => [arnF,.abs (ownM x.l.os)],pre := fun x => Hd (x.l.ok/\x.f.line = -1),outs := [
 { Y := Unit,post := fun x _ => Hd (x.l.n = 0),ret := fun x _ => { x.f with had := false,old := zLnk }.av 5 6 nilS,m := 2,os := fun x _ => [arnF,.abs (ownM x.l.os)] },
 { Y := Unit,post := fun x _ => Hd (x.l.n ≠ 0),ret := fun x _ => { x.f with had := true,old := x.l.head,piece := 0 }.av 5 2 nilS,m := 2,os := fun x _ => [arnF,.abs (ownM x.l.os)] }] }
structure ZTk where
 p : ZPool
 t : Nat
 f : ZFr
def arnT : AObj := arnR (.ptr 1 0) .any .any .any .any .any .any
def ZTk.c (x : ZTk) (k : Int) : Int := if k = 4 then ned x.f.value.size else 0
noncomputable def takeS (k : Int) : Ctr := { X := ZTk,args := fun x => [.ptr 0 0,i64 x.t,x.f.av k 3 nilS],k := 2,os := fun x => [arnT,.abs (ownM x.p.os)],pre := fun x => Hd (x.p.ok/\x.f.value.size<=400),outs := [
 { Y := Unit,post := fun x _ => Hd (∀ i,i < x.p.n->x.p.cls i ≠ -1/\x.p.full (x.c k) i),ret := fun x _ => { x.f with cls := x.c k,ans := emp,code := 4 }.av k 6 nilS,m := 2,os := fun x _ => [arnT,.abs (ownM x.p.os)] },
 { Y := Nat × Nat,post := fun x y => Hd (x.p.takes (x.c k) y.1 y.2),ret := fun x y => { x.f with cls := x.c k,line := 2 + y.1 * 8 + y.2 * spn (x.c k),piece := 0 }.av k 4 nilS,m := 2,os := fun x y => [arnT,.abs (ownM (x.p.take (x.c k) y.1 y.2).os)] }] }
structure ZLv where
 r : ZRd
 t : Nat
 f : ZFr
def arnL : AObj := arnR .any (.ptr 1 0) .any .any .any .any .any
noncomputable def leaveS (k : Int) : Ctr := det ZLv (fun x => [.ptr 0 0,i64 x.t,x.f.av k 6 nilS]) 2 (fun x => [arnL,.abs (ownM x.r.os)]) (fun x => Hd (x.r.ok/\x.t < x.r.t)) (fun x => x.f.av k 7 nilS) 2 (fun x => [arnL,.abs (ownM (x.r.put x.t 0).os)])
def arnD : AObj := arnR .any .any .any .any .any .any (.ptr 1 0)
def devS : AObj := .ro (.av [.ptr 2 0,.any,.any,.any])
structure ZWr where
 d : DevM
 t : Nat
 f : ZFr
 ln : Nat
 c : Int
 p : Nat
def ZWr.draft (x : ZWr) : ZBlk := ⟨x.c,0,0,0,0,⟨#[]⟩,⟨#[]⟩⟩
def ZWr.blk (x : ZWr) : ZBlk := ⟨x.c,2,0,0,0,⟨#[]⟩,x.f.value⟩
def ZWr.ok (x : ZWr) : Prop := x.d.ok/\0<=x.c/\x.c<=3/\x.ln + spn x.c<=x.d.n/\x.p < spn x.c/\x.f.value.size<=400/\small x.d.st/\x.d.st + 10 < 1099511627776
noncomputable def ZWr.d' (x : ZWr) : DevM := if x.p = 0 then x.d.store x.ln 0 64 (x.draft.headG (fun _ => 0) (cpc x.c).toNat) else x.d.store (x.ln + x.p) 0 64 (fun q => x.blk.enc (64 * x.p + q))
def ZWr.fr (x : ZWr) (p : Int) : ZFr := { x.f with line := x.ln,cls := x.c,piece := p }
noncomputable def writeS0 (k : Int) : Ctr := { X := ZWr,args := fun x => [.ptr 0 0,i64 x.t,(x.fr 0).av k 4 nilS],k := 3,os := fun x => [arnD,devS,.abs (ownM x.d.os)],pre := fun x => Hd (x.ok/\x.p = 0),outs := [
 { Y := Unit,post := fun x _ => Hd (1 ≠ spn x.c),ret := fun x _ => (x.fr 1).av k 4 nilS,m := 3,os := fun x _ => [arnD,devS,.abs (ownM x.d'.os)] },
 { Y := Unit,post := fun x _ => Hd (1 = spn x.c),ret := fun x _ => (x.fr 0).av k 5 nilS,m := 3,os := fun x _ => [arnD,devS,.abs (ownM x.d'.os)] }] }
noncomputable def writeS1 : Ctr := { X := ZWr,args := fun x => [.ptr 0 0,i64 x.t,(x.fr x.p).av 4 4 nilS],k := 3,os := fun x => [arnD,devS,.abs (ownM x.d.os)],pre := fun x => Hd (x.ok/\x.p ≠ 0),outs := [
 { Y := Unit,post := fun x _ => Hd (x.p + 1 ≠ spn x.c),ret := fun x _ => (x.fr (x.p + 1)).av 4 4 nilS,m := 3,os := fun x _ => [arnD,devS,.abs (ownM x.d'.os)] },
 { Y := Unit,post := fun x _ => Hd (x.p + 1 = spn x.c),ret := fun x _ => (x.fr 0).av 4 5 nilS,m := 3,os := fun x _ => [arnD,devS,.abs (ownM x.d'.os)] }] }
structure ZRe where
 d : DevM
 t : Nat
 f : ZFr
 b : ZBlk
 ln : Nat
 p : Nat
def ZRe.ok (x : ZRe) : Prop := x.d.ok/\x.b.may/\x.b.kind = 2/\x.ln + spn x.b.cls<=x.d.n/\x.p < spn x.b.cls/\∀ q,q < 64 * x.b.spnN->x.d.b ((x.ln + q / 64) * 193 + q % 64) = x.b.enc q
def ZRe.fr (x : ZRe) (p : Int) : ZFr := { x.f with had := true,old := ⟨⟨#[]⟩,x.b.id,x.b.ver,x.ln,x.b.cls⟩,piece := p }
def ZRe.fr2 (x : ZRe) (p : Int) : ZFr := { x.fr p with ans := x.b.value }
noncomputable def readS0 : Ctr := { X := ZRe,args := fun x => [.ptr 0 0,i64 x.t,(x.fr 0).av 5 2 nilS],k := 3,os := fun x => [arnD,devS,.abs (ownM x.d.os)],pre := fun x => Hd (x.ok/\x.p = 0),outs := [
 { Y := Unit,post := fun x _ => Hd (1 ≠ spn x.b.cls),ret := fun x _ => (x.fr 1).av 5 2 (.slW 3 0 1 64),m := 4,os := fun x _ => [arnD,devS,.abs (ownM x.d.os),rowU x.b.enc 64] },
 { Y := Unit,post := fun x _ => Hd (1 = spn x.b.cls/\x.f.line < 0),ret := fun x _ => (x.fr2 1).av 5 3 nilS,m := 3,os := fun x _ => [arnD,devS,.abs (ownM x.d.os)] },
 { Y := Unit,post := fun x _ => Hd (1 = spn x.b.cls/\0<=x.f.line),ret := fun x _ => (x.fr2 1).av 5 5 nilS,m := 3,os := fun x _ => [arnD,devS,.abs (ownM x.d.os)] }] }
noncomputable def readS1 : Ctr := { X := ZRe,args := fun x => [.ptr 0 0,i64 x.t,(x.fr x.p).av 5 2 (.slW 3 0 1 (64 * x.p))],k := 4,os := fun x => [arnD,devS,.abs (ownM x.d.os),rowU x.b.enc (64 * x.p)],pre := fun x => Hd (x.ok/\x.p ≠ 0),outs := [
 { Y := Unit,post := fun x _ => Hd (x.p + 1 ≠ spn x.b.cls),ret := fun x _ => (x.fr (x.p + 1)).av 5 2 (.slW 4 0 1 (64 * (x.p + 1))),m := 5,os := fun x _ => [arnD,devS,.abs (ownM x.d.os),rowU x.b.enc (64 * x.p),rowU x.b.enc (64 * (x.p + 1))] },
 { Y := Unit,post := fun x _ => Hd (x.p + 1 = spn x.b.cls/\x.f.line < 0),ret := fun x _ => (x.fr2 (x.p + 1)).av 5 3 nilS,m := 4,os := fun x _ => [arnD,devS,.abs (ownM x.d.os),rowU x.b.enc (64 * x.p)] },
 { Y := Unit,post := fun x _ => Hd (x.p + 1 = spn x.b.cls/\0<=x.f.line),ret := fun x _ => (x.fr2 (x.p + 1)).av 5 5 nilS,m := 4,os := fun x _ => [arnD,devS,.abs (ownM x.d.os),rowU x.b.enc (64 * x.p)] }] }
structure ZDe where
 cls : Int
 id : Int
 ver : Int
 epoch : Int
 value : ByteArray
 g : Nat->Int
def ZDe.b (x : ZDe) : ZBlk := ⟨x.cls,2,x.id,x.ver,x.epoch,⟨#[]⟩,x.value⟩
noncomputable def dec2C : Ctr := det ZDe (fun x => [.slW 0 0 1 (64 * x.b.spnN)]) 1 (fun x => [rowU x.g (64 * x.b.spnN)]) (fun x => Hd (x.b.may/\x.b.value.size < 1099511627776/\∀ k,k < 64 * x.b.spnN->x.g k = x.b.enc k)) (fun x => .tup [x.b.av,boo true]) 1 (fun x => [rowU x.g (64 * x.b.spnN)])
theorem dec2_ok : CtrOk Tryz.prog 89 dec2C := ctr_of fun x hx => by
 have hx := hd_iff.1 hx
 refine ⟨decC,dec_ok,rfl,⟨x.b,x.g⟩,hd_iff.2 ⟨hx.1,show 0 < 1099511627776 by decide,hx.2.1,hx.2.2⟩,rfl,rfl,fun v h' hh => ?_⟩
 obtain ⟨u,e1,e2,e3⟩ := outsP1 hh
 exact outsI1 ⟨u,trivial,e2,e3⟩
noncomputable def tblT0 : WTbl := [(36,cloneT)]
noncomputable def tblT1 : WTbl := tblT0 ++ [(150,ctrT enterP.ctr),(60,ctrT (cnowP 0).ctr)]
noncomputable def tblT2 : WTbl := tblT0 ++ [(115,ctrT lineHeadC.ctr)]
noncomputable def tblT3 : WTbl := tblT0 ++ [(152,needT),(153,ctrT takeP.ctr)]
noncomputable def tblT4 : WTbl := tblT0 ++ [(84,spanT),(55,ctrT draftC),(54,ctrT storeP.ctr)]
noncomputable def tblT5 : WTbl := tblT0 ++ [(162,ctrT leaveP.ctr)]
noncomputable def tblT6 : WTbl := tblT0 ++ [(84,spanT),(89,ctrT dec2C),(133,ctrT loadP.ctr)]
end Go.Proofs.YtpnhfbegboogbaaGreat
end
section
namespace Go.Proofs.YtpnhfbegboogbaaGreat
open Go SE
def TD_w1 : Prop := Value.slice none 0 0 = Value.slice none 0 0
def TD_w94 (a : ZRe) : Prop := Hd ((a.p : Int) + 1 ≠ spn a.b.cls)
def TD_w38 : Prop := True/\True/\True/\True
def TD_w12 : Prop := True/\True/\True/\True/\TD_w38
def TD_w13 : Prop := True/\TD_w12
def TD_w11 : Prop := True/\TD_w13
def TD_w14 : Prop := True/\TD_w11
def TD_w78 (a : DevM) (b : DevM) : Prop := ownM a.os = ownM b.os
def TD_w42 (a : ZRe) : Prop := 64 * a.p = 64 * a.p/\∀ q : Nat,q < 64 * a.p->[Value.int .u8 (a.b.enc q)] = [Value.int .u8 (a.b.enc q)]
def TD_w33 : Prop := 0 = 0/\TD_w38
def TD_w18 (a : ZRe) (b : DevM) : Prop := (0 = 0/\TD_w14)/\TD_w33/\TD_w78 a.d b/\TD_w42 a/\True
def TD_w43 (a : Nat) : Prop := (a : Int) = (a : Int)
def TD_w83 (a : Nat) : Prop := (a : Int) + 1 = (a : Int) + 1
def TD_w29 (a : Int) : Prop := a = a
def TD_w6 (a : Int) : Prop := TD_w1/\TD_w1/\TD_w29 a/\True
def TD_w106 (a : ZFr) (b : ByteArray) : Prop := False/\(0 : Int) = 0/\TD_w1/\TD_w29 a.code/\a.found = a.found/\a.ans = b/\TD_w6 a.aep
def TD_w9 : Prop := ByteArray.mk #[] = ByteArray.mk #[]
def TD_w63 (a : ZRe) (b : ByteArray) : Prop := TD_w29 a.f.epoch/\TD_w9/\false = false/\(0 : Int) = 0/\true = true/\TD_w9/\TD_w29 a.b.id/\TD_w29 a.b.ver/\TD_w43 a.ln/\TD_w29 a.b.cls/\TD_w29 a.f.line/\TD_w29 a.f.cls/\TD_w83 a.p/\TD_w106 a.f b
def TD_w89 (a : ZRe) : Prop := Hd ((a.p : Int) + 1 = spn a.b.cls/\a.f.line < 0)
def TD_w87 (a : Int) : Prop := (AV.lit (Value.int .i64 a) = AV.lit (Value.int .i64 a)/\True)/\False
def TD_w40 (a : ByteArray) : Prop := a = a
def TD_w44 (a : ZFr) : Prop := a.found = a.found/\TD_w40 a.ans/\TD_w6 a.aep
def TD_w92 (a : ZRe) (b : DevM) : Prop := (0 = 0/\TD_w14)/\TD_w33/\TD_w78 a.d b/\TD_w42 a/\False/\True
def TD_w82 (a : ZRe) : Prop := a.f.found = a.f.found/\a.b.value = a.f.ans/\TD_w6 a.f.aep
def TD_w56 (a : ZRe) : Prop := TD_w29 a.f.epoch/\TD_w9/\false = false/\(0 : Int) = 0/\true = true/\TD_w9/\TD_w29 a.b.id/\TD_w29 a.b.ver/\TD_w43 a.ln/\TD_w29 a.b.cls/\TD_w29 a.f.line/\TD_w29 a.f.cls/\TD_w83 a.p/\TD_w1/\(0 : Int) = 0/\TD_w1/\a.f.code = 6/\TD_w82 a
def TD_w88 (a : ZRe) : Prop := Hd ((a.p : Int) + 1 = spn a.b.cls/\0<=a.f.line)
def TD_w5 (a : ZRe) (b : DevM) : Prop := cP (decide (a.f.line ≥ (0 : Int))) (TD_w87 a.f.line) ((∃ y_2 : Unit,TD_w94 a/\((5 : Int) = 5/\TD_w40 a.f.key/\TD_w40 a.f.value/\TD_w9/\TD_w1/\(2 : Int) = 6/\TD_w29 a.f.epoch/\TD_w9/\false = false/\(0 : Int) = 0/\true = true/\TD_w9/\TD_w29 a.b.id/\TD_w29 a.b.ver/\TD_w43 a.ln/\TD_w29 a.b.cls/\TD_w29 a.f.line/\TD_w29 a.f.cls/\TD_w83 a.p/\False/\(0 : Int) = 0/\TD_w1/\a.f.code = 6/\TD_w44 a.f)/\TD_w92 a b) ∨ (∃ y_2 : Unit,TD_w89 a/\((5 : Int) = 5/\TD_w40 a.f.key/\TD_w40 a.f.value/\TD_w9/\TD_w1/\(3 : Int) = 6/\TD_w56 a)/\TD_w18 a b) ∨ ∃ y_2 : Unit,TD_w88 a/\((5 : Int) = 5/\TD_w40 a.f.key/\TD_w40 a.f.value/\TD_w9/\TD_w1/\(5 : Int) = 6/\TD_w56 a)/\TD_w18 a b)
def TD_w103 (a : ZRe) (b : ByteArray) : Prop := TD_w1/\(0 : Int) = 0/\TD_w1/\TD_w29 a.f.code/\a.f.found = a.f.found/\a.b.value = b/\TD_w6 a.f.aep
def TD_w25 (a : ZRe) (b : ByteArray) : Prop := TD_w29 a.f.epoch/\TD_w9/\false = false/\(0 : Int) = 0/\true = true/\TD_w9/\TD_w29 a.b.id/\TD_w29 a.b.ver/\TD_w43 a.ln/\TD_w29 a.b.cls/\TD_w29 a.f.line/\TD_w29 a.f.cls/\TD_w83 a.p/\TD_w103 a b
def TD_w2 (a : ZDe) (b : ZRe) (c : DevM) : Prop := ∀ y_1 : Unit,True->cP (BEq.beq a.id b.b.id) (cP (BEq.beq a.ver b.b.ver) (cP (decide (b.f.line < 0)) ((∃ y_2 : Unit,TD_w94 b/\((5 : Int) = 5/\TD_w40 b.f.key/\TD_w40 b.f.value/\TD_w9/\TD_w1/\(2 : Int) = 3/\TD_w63 b a.value)/\TD_w92 b c) ∨ (∃ y_2 : Unit,TD_w89 b/\((5 : Int) = 5/\TD_w40 b.f.key/\TD_w40 b.f.value/\TD_w9/\TD_w1/\(3 : Int) = 3/\TD_w25 b a.value)/\TD_w18 b c) ∨ ∃ y_2 : Unit,TD_w88 b/\((5 : Int) = 5/\TD_w40 b.f.key/\TD_w40 b.f.value/\TD_w9/\TD_w1/\(5 : Int) = 3/\TD_w25 b a.value)/\TD_w18 b c) ((∃ y_2 : Unit,TD_w94 b/\((5 : Int) = 5/\TD_w40 b.f.key/\TD_w40 b.f.value/\TD_w9/\TD_w1/\(2 : Int) = 5/\TD_w63 b a.value)/\TD_w92 b c) ∨ (∃ y_2 : Unit,TD_w89 b/\((5 : Int) = 5/\TD_w40 b.f.key/\TD_w40 b.f.value/\TD_w9/\TD_w1/\(3 : Int) = 5/\TD_w25 b a.value)/\TD_w18 b c) ∨ ∃ y_2 : Unit,TD_w88 b/\((5 : Int) = 5/\TD_w40 b.f.key/\TD_w40 b.f.value/\TD_w9/\TD_w1/\(5 : Int) = 5/\TD_w25 b a.value)/\TD_w18 b c)) (TD_w5 b c)) (TD_w5 b c)
def TD_w8 (a : ZFr) : Prop := (0 : Int) = 0/\TD_w1/\TD_w29 a.code/\TD_w44 a
def TD_w7 (a : ZFr) : Prop := TD_w1/\TD_w8 a
def TD_w10 (a : ZWr) (b : DevS) : Prop := (0 = 0/\TD_w14)/\TD_w33/\ownM a.d'.os = ownM (DevM.os (b.d.store b.k b.a b.b.n (fun (q : Nat) => b.b.g (b.b.q + q))))/\True
def TD_w47 (a : ZWr) (b : DevS) : Prop := Hd ((a.p : Int) + 1 ≠ spn a.c)/\((4 : Int) = 4/\TD_w40 a.f.key/\TD_w40 a.f.value/\TD_w9/\TD_w1/\(4 : Int) = 4/\TD_w29 a.f.epoch/\TD_w9/\false = false/\(0 : Int) = 0/\a.f.had = a.f.had/\TD_w40 a.f.old.key/\TD_w29 a.f.old.id/\TD_w29 a.f.old.ver/\TD_w29 a.f.old.line/\TD_w29 a.f.old.cls/\TD_w43 a.ln/\TD_w29 a.c/\TD_w83 a.p/\TD_w7 a.f)/\TD_w10 a b
def TD_w23 (a : ZWr) : Prop := TD_w40 a.f.key/\TD_w40 a.f.value/\TD_w9/\TD_w1/\(5 : Int) = 5/\TD_w29 a.f.epoch/\TD_w9/\false = false/\(0 : Int) = 0/\a.f.had = a.f.had/\TD_w40 a.f.old.key/\TD_w29 a.f.old.id/\TD_w29 a.f.old.ver/\TD_w29 a.f.old.line/\TD_w29 a.f.old.cls/\TD_w43 a.ln/\TD_w29 a.c/\(0 : Int) = 0/\TD_w7 a.f
def TD_w49 (a : ZWr) (b : DevS) : Prop := Hd ((a.p : Int) + 1 ≠ spn a.c)/\((4 : Int) = 4/\TD_w40 a.f.key/\TD_w40 a.f.value/\TD_w9/\TD_w1/\(4 : Int) = 5/\TD_w29 a.f.epoch/\TD_w9/\false = false/\(0 : Int) = 0/\a.f.had = a.f.had/\TD_w40 a.f.old.key/\TD_w29 a.f.old.id/\TD_w29 a.f.old.ver/\TD_w29 a.f.old.line/\TD_w29 a.f.old.cls/\TD_w43 a.ln/\TD_w29 a.c/\(a.p : Int) + 1 = 0/\TD_w7 a.f)/\TD_w10 a b
def TD_w50 (a : ZWr) (b : DevS) : Prop := Hd ((a.p : Int) + 1 = spn a.c)/\((4 : Int) = 4/\TD_w40 a.f.key/\TD_w40 a.f.value/\TD_w9/\TD_w1/\(5 : Int) = 4/\TD_w29 a.f.epoch/\TD_w9/\false = false/\(0 : Int) = 0/\a.f.had = a.f.had/\TD_w40 a.f.old.key/\TD_w29 a.f.old.id/\TD_w29 a.f.old.ver/\TD_w29 a.f.old.line/\TD_w29 a.f.old.cls/\TD_w43 a.ln/\TD_w29 a.c/\0 = (a.p : Int) + 1/\TD_w7 a.f)/\TD_w10 a b
def TD_w16 (a : ZWr) (b : DevS) : Prop := ∀ y : Unit,True->I64 ((a.p : Int) + 1)/\True/\I64 ((a.p : Int) + 1)/\cP (BEq.beq ((a.p : Int) + 1) (spn a.c)) ((∃ y_1 : Unit,TD_w49 a b) ∨ ∃ y_1 : Unit,Hd ((a.p : Int) + 1 = spn a.c)/\((4 : Int) = 4/\TD_w23 a)/\TD_w10 a b) ((∃ y_1 : Unit,TD_w47 a b) ∨ ∃ y_1 : Unit,TD_w50 a b)
def TD_w61 (a : ZRe) : Prop := TD_w29 a.f.epoch/\TD_w9/\false = false/\(0 : Int) = 0/\true = true/\TD_w9/\TD_w29 a.b.id/\TD_w29 a.b.ver/\TD_w43 a.ln/\TD_w29 a.b.cls/\TD_w29 a.f.line/\TD_w29 a.f.cls/\(1 : Int) = 1/\TD_w1/\(0 : Int) = 0/\TD_w1/\a.f.code = 6/\TD_w82 a
def TD_w101 (a : DevM) (b : DevM) : Prop := (0 = 0/\TD_w14)/\TD_w33/\TD_w78 a b/\False/\True
def TD_w51 (a : DevM) (b : DevM) : Prop := (0 = 0/\TD_w14)/\TD_w33/\TD_w78 a b/\True
def TD_w100 (a : ZRe) : Prop := Hd (1 = spn a.b.cls/\0<=a.f.line)
def TD_w97 (a : Int) : Prop := Hd ((1 : Int) ≠ spn a)
def TD_w102 (a : ZRe) : Prop := Hd (1 = spn a.b.cls/\a.f.line < 0)
def TD_w17 (a : ZRe) (b : DevM) : Prop := cP (decide (a.f.line ≥ (0 : Int))) (TD_w87 a.f.line) ((∃ y_2 : Unit,TD_w97 a.b.cls/\((5 : Int) = 5/\TD_w40 a.f.key/\TD_w40 a.f.value/\TD_w9/\TD_w1/\(2 : Int) = 6/\TD_w29 a.f.epoch/\TD_w9/\false = false/\(0 : Int) = 0/\true = true/\TD_w9/\TD_w29 a.b.id/\TD_w29 a.b.ver/\TD_w43 a.ln/\TD_w29 a.b.cls/\TD_w29 a.f.line/\TD_w29 a.f.cls/\(1 : Int) = 1/\False/\(0 : Int) = 0/\TD_w1/\a.f.code = 6/\TD_w44 a.f)/\TD_w101 a.d b) ∨ (∃ y_2 : Unit,TD_w102 a/\((5 : Int) = 5/\TD_w40 a.f.key/\TD_w40 a.f.value/\TD_w9/\TD_w1/\(3 : Int) = 6/\TD_w61 a)/\TD_w51 a.d b) ∨ ∃ y_2 : Unit,TD_w100 a/\((5 : Int) = 5/\TD_w40 a.f.key/\TD_w40 a.f.value/\TD_w9/\TD_w1/\(5 : Int) = 6/\TD_w61 a)/\TD_w51 a.d b)
def TD_w24 (a : ZRe) : Prop := TD_w29 a.f.epoch/\TD_w9/\false = false/\(0 : Int) = 0/\true = true/\TD_w9/\TD_w29 a.b.id/\TD_w29 a.b.ver/\TD_w43 a.ln/\TD_w29 a.b.cls/\TD_w29 a.f.line/\TD_w29 a.f.cls/\TD_w83 a.p/\False/\(0 : Int) = 0/\TD_w1/\TD_w29 a.f.code/\TD_w82 a
def TD_w20 (a : ZRe) (b : DevM) : Prop := (∃ y_1 : Unit,TD_w89 a/\((5 : Int) = 5/\TD_w40 a.f.key/\TD_w40 a.f.value/\TD_w9/\TD_w1/\(3 : Int) = 2/\TD_w24 a)/\TD_w18 a b) ∨ ∃ y_1 : Unit,TD_w88 a/\((5 : Int) = 5/\TD_w40 a.f.key/\TD_w40 a.f.value/\TD_w9/\TD_w1/\(5 : Int) = 2/\TD_w24 a)/\TD_w18 a b
def TD_w26 (a : ZRe) (b : ByteArray) : Prop := TD_w29 a.f.epoch/\TD_w9/\false = false/\(0 : Int) = 0/\true = true/\TD_w9/\TD_w29 a.b.id/\TD_w29 a.b.ver/\TD_w43 a.ln/\TD_w29 a.b.cls/\TD_w29 a.f.line/\TD_w29 a.f.cls/\(1 : Int) = 1/\TD_w103 a b
def TD_w34 (a : ZFr) : Prop := TD_w9/\false = false/\(0 : Int) = 0/\a.had = a.had/\TD_w40 a.old.key/\TD_w29 a.old.id/\TD_w29 a.old.ver/\TD_w29 a.old.line/\TD_w29 a.old.cls/\TD_w29 a.line/\TD_w29 a.cls/\TD_w29 a.piece/\TD_w7 a
def TD_w41 (a : DevS) (b : DevM) (c : Int) : Prop := TD_w78 a.d b/\(a.b.N = 64/\∀ q : Nat,q < a.b.N->[Value.int .u8 (a.b.g q)] = [Value.int .u8 (ZBlk.headG (ZBlk.mk c (0 : Int) (0 : Int) (0 : Int) (0 : Int) (ByteArray.mk #[]) (ByteArray.mk #[])) (fun (x_3 : Nat) => (0 : Int)) (Int.toNat (cpc c)) q)])/\True
def TD_w46 (a : ZFr) : Prop := TD_w40 a.key/\TD_w40 a.value/\TD_w9/\TD_w1/\(7 : Int) = 7/\TD_w29 a.epoch/\TD_w9/\false = false/\(0 : Int) = 0/\a.had = a.had/\TD_w40 a.old.key/\TD_w29 a.old.id/\TD_w29 a.old.ver/\TD_w29 a.old.line/\TD_w29 a.old.cls/\TD_w29 a.line/\TD_w29 a.cls/\TD_w29 a.piece/\TD_w1/\(0 : Int) = 0/\TD_w1/\(5 : Int) = 7/\TD_w44 a
def TD_w52 : Prop := True/\True/\0 = 0/\0 = 0/\TD_w12
def TD_w55 (a : ZWr) (b : Nat) : Prop := (Nat.beq (List.length [Value.int .u8 (strAt (ByteArray.extract a.f.value (Int.toNat (imin (imax (28 + ((a.p : Int) - 1) * 63) (0 : Int)) (a.f.value.size : Int))) a.f.value.size) b)]) 1 && List.all [Value.int .u8 (strAt (ByteArray.extract a.f.value (Int.toNat (imin (imax (28 + ((a.p : Int) - 1) * 63) (0 : Int)) (a.f.value.size : Int))) a.f.value.size) b)] Value.oneCell') = true
def TD_w57 (a : ZRe) : Prop := TD_w29 a.f.epoch/\TD_w9/\false = false/\(0 : Int) = 0/\true = true/\TD_w9/\TD_w29 a.b.id/\TD_w29 a.b.ver/\TD_w43 a.ln/\TD_w29 a.b.cls/\TD_w29 a.f.line/\TD_w29 a.f.cls/\(1 : Int) = 1/\False/\(0 : Int) = 0/\TD_w1/\TD_w29 a.f.code/\TD_w82 a
def TD_w58 (a : ZWr) : Prop := TD_w40 a.f.key/\TD_w40 a.f.value/\TD_w9/\TD_w1/\(4 : Int) = 5/\TD_w29 a.f.epoch/\TD_w9/\false = false/\(0 : Int) = 0/\a.f.had = a.f.had/\TD_w40 a.f.old.key/\TD_w29 a.f.old.id/\TD_w29 a.f.old.ver/\TD_w29 a.f.old.line/\TD_w29 a.f.old.cls/\TD_w43 a.ln/\TD_w29 a.c/\(1 : Int) = 0/\TD_w7 a.f
def TD_w59 (a : ZWr) : Prop := TD_w40 a.f.key/\TD_w40 a.f.value/\TD_w9/\TD_w1/\(4 : Int) = 4/\TD_w29 a.f.epoch/\TD_w9/\false = false/\(0 : Int) = 0/\a.f.had = a.f.had/\TD_w40 a.f.old.key/\TD_w29 a.f.old.id/\TD_w29 a.f.old.ver/\TD_w29 a.f.old.line/\TD_w29 a.f.old.cls/\TD_w43 a.ln/\TD_w29 a.c/\(1 : Int) = 1/\TD_w7 a.f
def TD_w60 (a : ZWr) : Prop := TD_w40 a.f.key/\TD_w40 a.f.value/\TD_w9/\TD_w1/\(5 : Int) = 4/\TD_w29 a.f.epoch/\TD_w9/\false = false/\(0 : Int) = 0/\a.f.had = a.f.had/\TD_w40 a.f.old.key/\TD_w29 a.f.old.id/\TD_w29 a.f.old.ver/\TD_w29 a.f.old.line/\TD_w29 a.f.old.cls/\TD_w43 a.ln/\TD_w29 a.c/\(0 : Int) = 1/\TD_w7 a.f
def TD_w62 (a : ZEn) : Prop := a.c.now = a.f.epoch/\TD_w9/\false = false/\(0 : Int) = 0/\a.f.had = a.f.had/\TD_w40 a.f.old.key/\TD_w29 a.f.old.id/\TD_w29 a.f.old.ver/\TD_w29 a.f.old.line/\TD_w29 a.f.old.cls/\TD_w29 a.f.line/\TD_w29 a.f.cls/\TD_w29 a.f.piece/\TD_w1/\(0 : Int) = 0/\TD_w1/\a.f.code = 7/\TD_w44 a.f
def TD_w65 (a : ZRe) (b : ByteArray) : Prop := TD_w29 a.f.epoch/\TD_w9/\false = false/\(0 : Int) = 0/\true = true/\TD_w9/\TD_w29 a.b.id/\TD_w29 a.b.ver/\TD_w43 a.ln/\TD_w29 a.b.cls/\TD_w29 a.f.line/\TD_w29 a.f.cls/\(1 : Int) = 1/\TD_w106 a.f b
def TD_w67 (a : ZFr) (b : Int) : Prop := a.epoch = b/\TD_w9/\false = false/\(0 : Int) = 0/\a.had = a.had/\TD_w40 a.old.key/\TD_w29 a.old.id/\TD_w29 a.old.ver/\TD_w29 a.old.line/\TD_w29 a.old.cls/\TD_w29 a.line/\TD_w29 a.cls/\TD_w29 a.piece/\TD_w1/\(0 : Int) = 0/\TD_w1/\5 = a.code/\TD_w44 a
def TD_w70 (a : ZLn) (b : ZLn) : Prop := (True/\True/\True/\True/\True/\True/\True/\TD_w33)/\ownM a.os = ownM b.os/\True
def TD_w73 (a : Nat) : Prop := AV.lit (Value.int .i64 (a : Int)) = AV.lit (Value.int .i64 (a : Int))
def TD_w74 (a : DevS) : Prop := Hd (a.d.ok/\a.k < a.d.n/\a.b.ok/\a.a + a.b.n<=64)
def TD_w75 : Prop := True/\0 = 0/\TD_w11
def TD_w76 (a : DevS) : Prop := (a.a : Int) = 0/\(a.b.q = 0/\a.b.n = 64)/\True
def TD_w77 (a : ZDe) : Prop := Hd (a.b.may/\a.value.size < 1099511627776/\∀ k : Nat,k < 64 * a.b.spnN->a.g k = a.b.enc k)
def TD_w79 (a : ZFr) : Prop := a.found = a.found/\a.ans = ByteArray.mk #[]/\TD_w6 a.aep
def TD_w80 (a : ZTk) : Prop := a.c (4 : Int) = ned (a.f.value.size : Int)
def TD_w81 (a : ZFr) : Prop := a.found = a.found/\emp = ByteArray.mk #[]/\TD_w6 a.aep
def TD_w84 (a : ZTk) : Prop := Hd (∀ i : Nat,i < a.p.n->a.p.cls i ≠ (-(1 : Int))/\a.p.full (a.c (4 : Int)) i)
def TD_w85 (a : ZTk) : Prop := Hd (∀ i : Nat,i < a.p.n->a.p.cls i ≠ (-(1 : Int))/\a.p.full (a.c (5 : Int)) i)
def TD_w86 (a : ClkM) : Prop := ownM (a.os 0) = ownM (a.os 0)/\True
def TD_w90 (a : ClkM) (b : ClkM) : Prop := ownM (a.os 0) = ownM (b.os 0)/\True
def TD_w91 (a : ZDe) (b : DevL) : Prop := (64 * a.b.spnN = 64/\∀ q : Nat,q < 64 * a.b.spnN->[Value.int .u8 (a.g q)] = [Value.int .u8 (b.d.b (b.k * 193 + (0 + (q - 0))))])/\True
def TD_w93 (a : ZFr) : Prop := a.piece = 0/\TD_w1/\(0 : Int) = 0/\TD_w1/\4 = a.code/\a.found = a.found/\emp = a.ans/\TD_w6 a.aep
def TD_w95 (a : ZLv) (b : ZRdT) : Prop := (True/\True/\0 = 0/\TD_w13)/\ownM (ZRd.os (a.r.put a.t (0 : Int))) = ownM (ZRd.os (b.r.put b.k (0 : Int)))/\True
def TD_w98 (a : ZPoolC) : Prop := Hd (spn a.c ≠ (0 : Int)/\∀ i : Nat,i < a.p.n->a.p.cls i ≠ (-(1 : Int))/\a.p.full a.c i)
def TD_w99 (a : ZFr) : Prop := TD_w40 a.key/\TD_w40 a.value/\TD_w9/\TD_w1/\(7 : Int) = 7/\TD_w29 a.epoch/\TD_w34 a
def TD_w104 (a : ZPool) (b : ZPool) : Prop := ownM a.os = ownM b.os/\True
def TD_w105 (a : Nat) : Prop := AV.lit (Value.int .i64 ((a : Int) + 1)) = AV.lit (Value.int .i64 ((a : Int) + 1))/\True
def enter4VC (x : ZEn) : Prop :=
 ((0 : Int)<=0/\(0 : Int)<=6)/\cP (decide ((x.f.value.size : Int) > (400 : Int))) (True/\((∃ y : Unit,Hd ((4 : Int) = 4/\400 < x.f.value.size)/\((4 : Int) = 4/\TD_w40 x.f.key/\TD_w40 x.f.value/\TD_w9/\TD_w1/\(7 : Int) = 7/\TD_w29 x.f.epoch/\TD_w9/\false = false/\(0 : Int) = 0/\x.f.had = x.f.had/\TD_w40 x.f.old.key/\TD_w29 x.f.old.id/\TD_w29 x.f.old.ver/\TD_w29 x.f.old.line/\TD_w29 x.f.old.cls/\TD_w29 x.f.line/\TD_w29 x.f.cls/\TD_w29 x.f.piece/\TD_w1/\(0 : Int) = 0/\TD_w1/\(5 : Int) = 5/\TD_w44 x.f)/\TD_w52/\ownM x.r.os = ownM x.r.os/\TD_w86 x.c) ∨ ∃ y : Unit,Hd ((4 : Int) = 4->x.f.value.size<=400)/\((4 : Int) = 4/\TD_w40 x.f.key/\TD_w40 x.f.value/\TD_w9/\TD_w1/\(3 : Int) = 7/\x.c.now = x.f.epoch/\TD_w9/\false = false/\(0 : Int) = 0/\x.f.had = x.f.had/\TD_w40 x.f.old.key/\TD_w29 x.f.old.id/\TD_w29 x.f.old.ver/\TD_w29 x.f.old.line/\TD_w29 x.f.old.cls/\TD_w29 x.f.line/\TD_w29 x.f.cls/\TD_w29 x.f.piece/\TD_w1/\(0 : Int) = 0/\TD_w1/\x.f.code = 5/\TD_w44 x.f)/\TD_w52/\ownM (ZRd.os (x.r.put x.t x.r.now)) = ownM x.r.os/\TD_w86 x.c)) (∃ x_1 : ZRdT,Hd (x_1.r.ok/\x_1.k < x_1.r.t)/\(0 = 0/\(x_1.k : Int) = (x.t : Int)/\True)/\(ownM x_1.r.os = ownM x.r.os/\True)/\(∀ y : Unit,Hd (x_1.r.has x_1.k = 0)->∃ x_2 : ClkM,Hd x_2.ok/\(0 = 0/\True)/\TD_w90 x_2 x.c/\∀ y_1 : Unit,True->True/\((∃ y_2 : Unit,Hd ((4 : Int) = 4/\400 < x.f.value.size)/\((4 : Int) = 4/\TD_w40 x.f.key/\TD_w40 x.f.value/\TD_w9/\TD_w1/\(7 : Int) = 3/\TD_w67 x.f x_2.now)/\TD_w52/\ownM x.r.os = ownM (ZRd.os (x_1.r.put x_1.k x_1.r.now))/\TD_w90 x.c x_2) ∨ ∃ y_2 : Unit,Hd ((4 : Int) = 4->x.f.value.size<=400)/\((4 : Int) = 4/\TD_w40 x.f.key/\TD_w40 x.f.value/\TD_w9/\TD_w1/\(3 : Int) = 3/\x.c.now = x_2.now/\TD_w34 x.f)/\
 TD_w52/\ownM (ZRd.os (x.r.put x.t x.r.now)) = ownM (ZRd.os (x_1.r.put x_1.k x_1.r.now))/\TD_w90 x.c x_2))/\∀ y : Unit,Hd (x_1.r.has x_1.k ≠ (0 : Int))->True/\((∃ y_1 : Unit,Hd ((4 : Int) = 4/\400 < x.f.value.size)/\((4 : Int) = 4/\TD_w46 x.f)/\TD_w52/\ownM x.r.os = ownM x_1.r.os/\TD_w86 x.c) ∨ ∃ y_1 : Unit,Hd ((4 : Int) = 4->x.f.value.size<=400)/\((4 : Int) = 4/\TD_w40 x.f.key/\TD_w40 x.f.value/\TD_w9/\TD_w1/\(3 : Int) = 7/\TD_w62 x)/\TD_w52/\ownM (ZRd.os (x.r.put x.t x.r.now)) = ownM x_1.r.os/\TD_w86 x.c))
theorem enter4VC_ok (x : ZEn) : enter4VC x = wpF Tryz.prog tblT1 tt (noA x) 200 6 16 ((enterS 4).args x) (hO 3 ((enterS 4).os x)) (fun v h' => endsP 3 x v h' (enterS 4).outs) := by kernel_rfl
def enter5VC (x : ZEn) : Prop :=
 ((0 : Int)<=0/\(0 : Int)<=6)/\∃ x_1 : ZRdT,Hd (x_1.r.ok/\x_1.k < x_1.r.t)/\(0 = 0/\(x_1.k : Int) = (x.t : Int)/\True)/\(ownM x_1.r.os = ownM x.r.os/\True)/\(∀ y : Unit,Hd (x_1.r.has x_1.k = 0)->∃ x_2 : ClkM,Hd x_2.ok/\(0 = 0/\True)/\TD_w90 x_2 x.c/\∀ y_1 : Unit,True->True/\((∃ y_2 : Unit,Hd ((5 : Int) = 4/\400 < x.f.value.size)/\((5 : Int) = 5/\TD_w40 x.f.key/\TD_w40 x.f.value/\TD_w9/\TD_w1/\(7 : Int) = 1/\TD_w67 x.f x_2.now)/\TD_w52/\ownM x.r.os = ownM (ZRd.os (x_1.r.put x_1.k x_1.r.now))/\TD_w90 x.c x_2) ∨ ∃ y_2 : Unit,Hd ((5 : Int) = 4->x.f.value.size<=400)/\((5 : Int) = 5/\TD_w40 x.f.key/\TD_w40 x.f.value/\TD_w9/\TD_w1/\(1 : Int) = 1/\x.c.now = x_2.now/\TD_w34 x.f)/\TD_w52/\ownM (ZRd.os (x.r.put x.t x.r.now)) = ownM (ZRd.os (x_1.r.put x_1.k x_1.r.now))/\TD_w90 x.c x_2))/\∀ y : Unit,Hd (x_1.r.has x_1.k ≠ (0 : Int))->True/\((∃ y_1 : Unit,Hd ((5 : Int) = 4/\400 < x.f.value.size)/\((5 : Int) = 5/\TD_w46 x.f)/\TD_w52/\ownM x.r.os = ownM x_1.r.os/\TD_w86 x.c) ∨ ∃ y_1 : Unit,Hd ((5 : Int) = 4->x.f.value.size<=400)/\((5 : Int) = 5/\TD_w40 x.f.key/\TD_w40 x.f.value/\TD_w9/\TD_w1/\(1 : Int) = 7/\TD_w62 x)/\TD_w52/\ownM (ZRd.os (x.r.put x.t x.r.now)) = ownM x_1.r.os/\TD_w86 x.c)
theorem enter5VC_ok (x : ZEn) : enter5VC x = wpF Tryz.prog tblT1 tt (noA x) 200 6 16 ((enterS 5).args x) (hO 3 ((enterS 5).os x)) (fun v h' => endsP 3 x v h' (enterS 5).outs) := by kernel_rfl
def findSVC (x : ZFi) : Prop :=
 ((0 : Int)<=1/\(0 : Int)<=5)/\∃ x_1 : ZLn,Hd x_1.ok/\(0 = 0/\True)/\(ownM x_1.os = ownM x.l.os/\True)/\∀ y : Unit,True->(AV.agg [AV.lit (Value.string x_1.head.key),AV.lit (Value.int .u64 x_1.head.id),AV.lit (Value.int .u64 x_1.head.ver),AV.lit (Value.int .i64 x_1.head.line),AV.lit (Value.int .i64 x_1.head.cls)] = AV.agg [AV.lit (Value.string x_1.head.key),AV.lit (Value.int .u64 x_1.head.id),AV.lit (Value.int .u64 x_1.head.ver),AV.lit (Value.int .i64 x_1.head.line),AV.lit (Value.int .i64 x_1.head.cls)]/\True)/\True/\cP (Bool.not (decide (x_1.n ≠ 0))) (cP (decide (x.f.line ≥ (0 : Int))) (TD_w87 x.f.line) ((∃ y_1 : Unit,Hd (x.l.n = 0)/\((5 : Int) = 5/\TD_w40 x.f.key/\TD_w40 x.f.value/\TD_w9/\TD_w1/\(6 : Int) = 6/\TD_w29 x.f.epoch/\TD_w9/\false = false/\(0 : Int) = 0/\false = decide (x_1.n ≠ 0)/\ByteArray.mk #[] = x_1.head.key/\0 = x_1.head.id/\0 = x_1.head.ver/\0 = x_1.head.line/\0 = x_1.head.cls/\TD_w29 x.f.line/\TD_w29 x.f.cls/\TD_w29 x.f.piece/\TD_w7 x.f)/\TD_w70 x.l x_1) ∨ ∃ y_1 : Unit,Hd (x.l.n ≠ 0)/\((5 : Int) = 5/\TD_w40 x.f.key/\TD_w40 x.f.value/\TD_w9/\TD_w1/\(2 : Int) = 6/\TD_w29 x.f.epoch/\TD_w9/\false = false/\(0 : Int) = 0/\true = decide (x_1.n ≠ 0)/\x.l.head.key = x_1.head.key/\x.l.head.id = x_1.head.id/\x.l.head.ver = x_1.head.ver/\x.l.head.line = x_1.head.line/\x.l.head.cls = x_1.head.cls/\TD_w29 x.f.line/\TD_w29 x.f.cls/\0 = x.f.piece/\TD_w7 x.f)/\TD_w70 x.l x_1)) ((∃ y_1 : Unit,Hd (x.l.n = 0)/\((5 : Int) = 5/\TD_w40 x.f.key/\TD_w40 x.f.value/\TD_w9/\TD_w1/\(6 : Int) = 2/\TD_w29 x.f.epoch/\TD_w9/\false = false/\(0 : Int) = 0/\false = decide (x_1.n ≠ 0)/\ByteArray.mk #[] = x_1.head.key/\0 = x_1.head.id/\0 = x_1.head.ver/\0 = x_1.head.line/\0 = x_1.head.cls/\
 TD_w29 x.f.line/\TD_w29 x.f.cls/\x.f.piece = 0/\TD_w7 x.f)/\TD_w70 x.l x_1) ∨ ∃ y_1 : Unit,Hd (x.l.n ≠ 0)/\((5 : Int) = 5/\TD_w40 x.f.key/\TD_w40 x.f.value/\TD_w9/\TD_w1/\(2 : Int) = 2/\TD_w29 x.f.epoch/\TD_w9/\false = false/\(0 : Int) = 0/\true = decide (x_1.n ≠ 0)/\x.l.head.key = x_1.head.key/\x.l.head.id = x_1.head.id/\x.l.head.ver = x_1.head.ver/\x.l.head.line = x_1.head.line/\x.l.head.cls = x_1.head.cls/\TD_w29 x.f.line/\TD_w29 x.f.cls/\(0 : Int) = 0/\TD_w7 x.f)/\TD_w70 x.l x_1)
theorem findSVC_ok (x : ZFi) : findSVC x = wpF Tryz.prog tblT2 tt (noA x) 200 6 16 (findS.args x) (hO 2 (findS.os x)) (fun v h' => endsP 2 x v h' findS.outs) := by kernel_rfl
def take4VC (x : ZTk) : Prop :=
 ((0 : Int)<=3/\(0 : Int)<=3)/\(AV.ptr 0 0 = AV.ptr 0 0/\True)/\∃ x_1 : ZPoolC,Hd x_1.p.ok/\(0 = 0/\x_1.c = ned (x.f.value.size : Int)/\True)/\TD_w104 x_1.p x.p/\(∀ y : Unit,Hd (spn x_1.c = 0)->True/\((∃ y_1 : Unit,TD_w84 x/\((4 : Int) = 4/\TD_w40 x.f.key/\TD_w40 x.f.value/\TD_w9/\TD_w1/\(6 : Int) = 6/\TD_w29 x.f.epoch/\TD_w9/\false = false/\(0 : Int) = 0/\x.f.had = x.f.had/\TD_w40 x.f.old.key/\TD_w29 x.f.old.id/\TD_w29 x.f.old.ver/\TD_w29 x.f.old.line/\TD_w29 x.f.old.cls/\TD_w29 x.f.line/\TD_w80 x/\TD_w29 x.f.piece/\TD_w1/\(0 : Int) = 0/\TD_w1/\(4 : Int) = 1/\TD_w81 x.f)/\TD_w75/\TD_w104 x.p x_1.p) ∨ ∃ y_1 : Prod Nat Nat,Hd (x.p.takes (x.c (4 : Int)) y_1.1 y_1.2)/\((4 : Int) = 4/\TD_w40 x.f.key/\TD_w40 x.f.value/\TD_w9/\TD_w1/\(4 : Int) = 6/\TD_w29 x.f.epoch/\TD_w9/\false = false/\(0 : Int) = 0/\x.f.had = x.f.had/\TD_w40 x.f.old.key/\TD_w29 x.f.old.id/\TD_w29 x.f.old.ver/\TD_w29 x.f.old.line/\TD_w29 x.f.old.cls/\2 + (y_1.1 : Int) * 8 + (y_1.2 : Int) * spn (x.c (4 : Int)) = x.f.line/\TD_w80 x/\0 = x.f.piece/\TD_w1/\(0 : Int) = 0/\TD_w1/\x.f.code = 1/\TD_w79 x.f)/\TD_w75/\ownM (ZPool.os (x.p.take (x.c (4 : Int)) y_1.1 y_1.2)) = ownM x_1.p.os/\True))/\(∀ y : Unit,TD_w98 x_1->True/\((∃ y_1 : Unit,TD_w84 x/\((4 : Int) = 4/\TD_w40 x.f.key/\TD_w40 x.f.value/\TD_w9/\TD_w1/\(6 : Int) = 6/\TD_w29 x.f.epoch/\TD_w9/\false = false/\(0 : Int) = 0/\x.f.had = x.f.had/\TD_w40 x.f.old.key/\TD_w29 x.f.old.id/\TD_w29 x.f.old.ver/\TD_w29 x.f.old.line/\TD_w29 x.f.old.cls/\TD_w29 x.f.line/\TD_w80 x/\TD_w29 x.f.piece/\TD_w1/\(0 : Int) = 0/\TD_w1/\(4 : Int) = 4/\TD_w81 x.f)/\TD_w75/\TD_w104 x.p x_1.p) ∨ ∃ y_1 : Prod Nat Nat,Hd (x.p.takes (x.c (4 : Int)) y_1.1 y_1.2)/\((4 : Int) = 4/\
 TD_w40 x.f.key/\TD_w40 x.f.value/\TD_w9/\TD_w1/\(4 : Int) = 6/\TD_w29 x.f.epoch/\TD_w9/\false = false/\(0 : Int) = 0/\x.f.had = x.f.had/\TD_w40 x.f.old.key/\TD_w29 x.f.old.id/\TD_w29 x.f.old.ver/\TD_w29 x.f.old.line/\TD_w29 x.f.old.cls/\2 + (y_1.1 : Int) * 8 + (y_1.2 : Int) * spn (x.c (4 : Int)) = x.f.line/\TD_w80 x/\0 = x.f.piece/\TD_w1/\(0 : Int) = 0/\TD_w1/\x.f.code = 4/\TD_w79 x.f)/\TD_w75/\ownM (ZPool.os (x.p.take (x.c (4 : Int)) y_1.1 y_1.2)) = ownM x_1.p.os/\True))/\∀ y : Prod Nat Nat,Hd (spn x_1.c ≠ (0 : Int)/\x_1.p.takes x_1.c y.1 y.2)->True/\((∃ y_1 : Unit,TD_w84 x/\((4 : Int) = 4/\TD_w40 x.f.key/\TD_w40 x.f.value/\TD_w9/\TD_w1/\(6 : Int) = 4/\TD_w29 x.f.epoch/\TD_w9/\false = false/\(0 : Int) = 0/\x.f.had = x.f.had/\TD_w40 x.f.old.key/\TD_w29 x.f.old.id/\TD_w29 x.f.old.ver/\TD_w29 x.f.old.line/\TD_w29 x.f.old.cls/\x.f.line = 2 + (y.1 : Int) * 8 + (y.2 : Int) * spn x_1.c/\TD_w80 x/\TD_w93 x.f)/\TD_w75/\ownM x.p.os = ownM (ZPool.os (x_1.p.take x_1.c y.1 y.2))/\True) ∨ ∃ y_1 : Prod Nat Nat,Hd (x.p.takes (x.c (4 : Int)) y_1.1 y_1.2)/\((4 : Int) = 4/\TD_w40 x.f.key/\TD_w40 x.f.value/\TD_w9/\TD_w1/\(4 : Int) = 4/\TD_w29 x.f.epoch/\TD_w9/\false = false/\(0 : Int) = 0/\x.f.had = x.f.had/\TD_w40 x.f.old.key/\TD_w29 x.f.old.id/\TD_w29 x.f.old.ver/\TD_w29 x.f.old.line/\TD_w29 x.f.old.cls/\2 + (y_1.1 : Int) * 8 + (y_1.2 : Int) * spn (x.c (4 : Int)) = 2 + (y.1 : Int) * 8 + (y.2 : Int) * spn x_1.c/\TD_w80 x/\(0 : Int) = 0/\TD_w7 x.f)/\TD_w75/\ownM (ZPool.os (x.p.take (x.c (4 : Int)) y_1.1 y_1.2)) = ownM (ZPool.os (x_1.p.take x_1.c y.1 y.2))/\True)
theorem take4VC_ok (x : ZTk) : take4VC x = wpF Tryz.prog tblT3 tt (noA x) 200 6 16 ((takeS 4).args x) (hO 2 ((takeS 4).os x)) (fun v h' => endsP 2 x v h' (takeS 4).outs) := by kernel_rfl
def take5VC (x : ZTk) : Prop :=
 ((0 : Int)<=3/\(0 : Int)<=3)/\(AV.ptr 0 0 = AV.ptr 0 0/\True)/\∃ x_1 : ZPoolC,Hd x_1.p.ok/\(0 = 0/\x_1.c = 0/\True)/\TD_w104 x_1.p x.p/\(∀ y : Unit,Hd (spn x_1.c = 0)->True/\((∃ y_1 : Unit,TD_w85 x/\((5 : Int) = 5/\TD_w40 x.f.key/\TD_w40 x.f.value/\TD_w9/\TD_w1/\(6 : Int) = 6/\TD_w29 x.f.epoch/\TD_w9/\false = false/\(0 : Int) = 0/\x.f.had = x.f.had/\TD_w40 x.f.old.key/\TD_w29 x.f.old.id/\TD_w29 x.f.old.ver/\TD_w29 x.f.old.line/\TD_w29 x.f.old.cls/\TD_w29 x.f.line/\x.c (5 : Int) = 0/\TD_w29 x.f.piece/\TD_w1/\(0 : Int) = 0/\TD_w1/\(4 : Int) = 1/\TD_w81 x.f)/\TD_w75/\TD_w104 x.p x_1.p) ∨ ∃ y_1 : Prod Nat Nat,Hd (x.p.takes (x.c (5 : Int)) y_1.1 y_1.2)/\((5 : Int) = 5/\TD_w40 x.f.key/\TD_w40 x.f.value/\TD_w9/\TD_w1/\(4 : Int) = 6/\TD_w29 x.f.epoch/\TD_w9/\false = false/\(0 : Int) = 0/\x.f.had = x.f.had/\TD_w40 x.f.old.key/\TD_w29 x.f.old.id/\TD_w29 x.f.old.ver/\TD_w29 x.f.old.line/\TD_w29 x.f.old.cls/\2 + (y_1.1 : Int) * 8 + (y_1.2 : Int) * spn (x.c (5 : Int)) = x.f.line/\x.c (5 : Int) = 0/\0 = x.f.piece/\TD_w1/\(0 : Int) = 0/\TD_w1/\x.f.code = 1/\TD_w79 x.f)/\TD_w75/\ownM (ZPool.os (x.p.take (x.c (5 : Int)) y_1.1 y_1.2)) = ownM x_1.p.os/\True))/\(∀ y : Unit,TD_w98 x_1->True/\((∃ y_1 : Unit,TD_w85 x/\((5 : Int) = 5/\TD_w40 x.f.key/\TD_w40 x.f.value/\TD_w9/\TD_w1/\(6 : Int) = 6/\TD_w29 x.f.epoch/\TD_w9/\false = false/\(0 : Int) = 0/\x.f.had = x.f.had/\TD_w40 x.f.old.key/\TD_w29 x.f.old.id/\TD_w29 x.f.old.ver/\TD_w29 x.f.old.line/\TD_w29 x.f.old.cls/\TD_w29 x.f.line/\x.c (5 : Int) = 0/\TD_w29 x.f.piece/\TD_w1/\(0 : Int) = 0/\TD_w1/\(4 : Int) = 4/\TD_w81 x.f)/\TD_w75/\TD_w104 x.p x_1.p) ∨ ∃ y_1 : Prod Nat Nat,Hd (x.p.takes (x.c (5 : Int)) y_1.1 y_1.2)/\((5 : Int) = 5/\
 TD_w40 x.f.key/\TD_w40 x.f.value/\TD_w9/\TD_w1/\(4 : Int) = 6/\TD_w29 x.f.epoch/\TD_w9/\false = false/\(0 : Int) = 0/\x.f.had = x.f.had/\TD_w40 x.f.old.key/\TD_w29 x.f.old.id/\TD_w29 x.f.old.ver/\TD_w29 x.f.old.line/\TD_w29 x.f.old.cls/\2 + (y_1.1 : Int) * 8 + (y_1.2 : Int) * spn (x.c (5 : Int)) = x.f.line/\x.c (5 : Int) = 0/\0 = x.f.piece/\TD_w1/\(0 : Int) = 0/\TD_w1/\x.f.code = 4/\TD_w79 x.f)/\TD_w75/\ownM (ZPool.os (x.p.take (x.c (5 : Int)) y_1.1 y_1.2)) = ownM x_1.p.os/\True))/\∀ y : Prod Nat Nat,Hd (spn x_1.c ≠ (0 : Int)/\x_1.p.takes x_1.c y.1 y.2)->True/\((∃ y_1 : Unit,TD_w85 x/\((5 : Int) = 5/\TD_w40 x.f.key/\TD_w40 x.f.value/\TD_w9/\TD_w1/\(6 : Int) = 4/\TD_w29 x.f.epoch/\TD_w9/\false = false/\(0 : Int) = 0/\x.f.had = x.f.had/\TD_w40 x.f.old.key/\TD_w29 x.f.old.id/\TD_w29 x.f.old.ver/\TD_w29 x.f.old.line/\TD_w29 x.f.old.cls/\x.f.line = 2 + (y.1 : Int) * 8 + (y.2 : Int) * spn x_1.c/\x.c (5 : Int) = 0/\TD_w93 x.f)/\TD_w75/\ownM x.p.os = ownM (ZPool.os (x_1.p.take x_1.c y.1 y.2))/\True) ∨ ∃ y_1 : Prod Nat Nat,Hd (x.p.takes (x.c (5 : Int)) y_1.1 y_1.2)/\((5 : Int) = 5/\TD_w40 x.f.key/\TD_w40 x.f.value/\TD_w9/\TD_w1/\(4 : Int) = 4/\TD_w29 x.f.epoch/\TD_w9/\false = false/\(0 : Int) = 0/\x.f.had = x.f.had/\TD_w40 x.f.old.key/\TD_w29 x.f.old.id/\TD_w29 x.f.old.ver/\TD_w29 x.f.old.line/\TD_w29 x.f.old.cls/\2 + (y_1.1 : Int) * 8 + (y_1.2 : Int) * spn (x.c (5 : Int)) = 2 + (y.1 : Int) * 8 + (y.2 : Int) * spn x_1.c/\x.c (5 : Int) = 0/\(0 : Int) = 0/\TD_w7 x.f)/\TD_w75/\ownM (ZPool.os (x.p.take (x.c (5 : Int)) y_1.1 y_1.2)) = ownM (ZPool.os (x_1.p.take x_1.c y.1 y.2))/\True)
theorem take5VC_ok (x : ZTk) : take5VC x = wpF Tryz.prog tblT3 tt (noA x) 200 6 16 ((takeS 5).args x) (hO 2 ((takeS 5).os x)) (fun v h' => endsP 2 x v h' (takeS 5).outs) := by kernel_rfl
def leave4VC (x : ZLv) : Prop :=
 ((0 : Int)<=6/\(0 : Int)<=0)/\∃ x_1 : ZRdT,Hd (x_1.r.ok/\x_1.k < x_1.r.t)/\(0 = 0/\(x_1.k : Int) = (x.t : Int)/\True)/\(ownM x_1.r.os = ownM x.r.os/\True)/\∀ y : Unit,True->True/\∃ y_1 : Unit,True/\((4 : Int) = 4/\TD_w99 x.f)/\TD_w95 x x_1
theorem leave4VC_ok (x : ZLv) : leave4VC x = wpF Tryz.prog tblT5 tt (noA x) 200 6 16 ((leaveS 4).args x) (hO 2 ((leaveS 4).os x)) (fun v h' => endsP 2 x v h' (leaveS 4).outs) := by kernel_rfl
def leave5VC (x : ZLv) : Prop :=
 ((0 : Int)<=6/\(0 : Int)<=0)/\∃ x_1 : ZRdT,Hd (x_1.r.ok/\x_1.k < x_1.r.t)/\(0 = 0/\(x_1.k : Int) = (x.t : Int)/\True)/\(ownM x_1.r.os = ownM x.r.os/\True)/\∀ y : Unit,True->True/\∃ y_1 : Unit,True/\((5 : Int) = 5/\TD_w99 x.f)/\TD_w95 x x_1
theorem leave5VC_ok (x : ZLv) : leave5VC x = wpF Tryz.prog tblT5 tt (noA x) 200 6 16 ((leaveS 5).args x) (hO 2 ((leaveS 5).os x)) (fun v h' => endsP 2 x v h' (leaveS 5).outs) := by kernel_rfl
def write40VC (x : ZWr) : Prop :=
 ((0 : Int)<=4/\(0 : Int)<=2)/\∃ x_1 : Int,Hd (0<=x_1/\x_1<=3)/\(x_1 = x.c/\True)/\True/\∀ y : Unit,True->∃ x_2 : DevS,TD_w74 x_2/\(0 = 0/\(x_2.k : Int) = (x.ln : Int)/\TD_w76 x_2)/\TD_w41 x_2 x.d x_1/\∀ y_1 : Unit,True->I64 (1 : Int)/\True/\I64 (1 : Int)/\cP (BEq.beq (1 : Int) (spn x.c)) ((∃ y_2 : Unit,TD_w97 x.c/\((4 : Int) = 4/\TD_w58 x)/\TD_w10 x x_2) ∨ ∃ y_2 : Unit,Hd (1 = spn x.c)/\((4 : Int) = 4/\TD_w23 x)/\TD_w10 x x_2) ((∃ y_2 : Unit,TD_w97 x.c/\((4 : Int) = 4/\TD_w59 x)/\TD_w10 x x_2) ∨ ∃ y_2 : Unit,Hd (1 = spn x.c)/\((4 : Int) = 4/\TD_w60 x)/\TD_w10 x x_2)
theorem write40VC_ok (x : ZWr) : write40VC x = wpF Tryz.prog tblT4 tt (noA x) 200 6 16 ((writeS0 4).args x) (hO 3 ((writeS0 4).os x)) (fun v h' => endsP 3 x v h' (writeS0 4).outs) := by kernel_rfl
def write50VC (x : ZWr) : Prop :=
 ((0 : Int)<=4/\(0 : Int)<=2)/\∃ x_1 : Int,Hd (0<=x_1/\x_1<=3)/\(x_1 = x.c/\True)/\True/\∀ y : Unit,True->∃ x_2 : DevS,TD_w74 x_2/\(0 = 0/\(x_2.k : Int) = (x.ln : Int)/\TD_w76 x_2)/\TD_w41 x_2 x.d x_1/\∀ y_1 : Unit,True->I64 (1 : Int)/\True/\I64 (1 : Int)/\cP (BEq.beq (1 : Int) (spn x.c)) ((∃ y_2 : Unit,TD_w97 x.c/\((5 : Int) = 5/\TD_w58 x)/\TD_w10 x x_2) ∨ ∃ y_2 : Unit,Hd (1 = spn x.c)/\((5 : Int) = 5/\TD_w23 x)/\TD_w10 x x_2) ((∃ y_2 : Unit,TD_w97 x.c/\((5 : Int) = 5/\TD_w59 x)/\TD_w10 x x_2) ∨ ∃ y_2 : Unit,Hd (1 = spn x.c)/\((5 : Int) = 5/\TD_w60 x)/\TD_w10 x x_2)
theorem write50VC_ok (x : ZWr) : write50VC x = wpF Tryz.prog tblT4 tt (noA x) 200 6 16 ((writeS0 5).args x) (hO 3 ((writeS0 5).os x)) (fun v h' => endsP 3 x v h' (writeS0 5).outs) := by kernel_rfl
def write41VC (x : ZWr) : Prop :=
 ((0 : Int)<=4/\(0 : Int)<=2)/\cP (BEq.beq (x.p : Int) (0 : Int)) (∃ x_1 : Int,Hd (0<=x_1/\x_1<=3)/\(x_1 = x.c/\True)/\True/\∀ y : Unit,True->∃ x_2 : DevS,TD_w74 x_2/\(0 = 0/\(x_2.k : Int) = (x.ln : Int)/\TD_w76 x_2)/\TD_w41 x_2 x.d x_1/\∀ y_1 : Unit,True->I64 ((x.p : Int) + 1)/\True/\I64 ((x.p : Int) + 1)/\cP (BEq.beq ((x.p : Int) + 1) (spn x.c)) ((∃ y_2 : Unit,TD_w49 x x_2) ∨ ∃ y_2 : Unit,Hd ((x.p : Int) + 1 = spn x.c)/\((4 : Int) = 4/\TD_w23 x)/\TD_w10 x x_2) ((∃ y_2 : Unit,TD_w47 x x_2) ∨ ∃ y_2 : Unit,TD_w50 x x_2)) (((0 : Int)<=64/\(0 : Int)<=0/\(0 : Int)<=281474976710592/\(0 : Int)<=4611686018427387839)/\((0 : Int)<=0/\(0 : Int)<=63)/\0 < 64/\I64 ((x.p : Int) - 1)/\I64 (((x.p : Int) - 1) * 63)/\I64 (28 + ((x.p : Int) - 1) * 63)/\(0 : Int)<=1/\(1<=64/\64<=64/\64<=64)/\0<=imin (imax (28 + ((x.p : Int) - 1) * 63) (0 : Int)) (x.f.value.size : Int)/\(Int.toNat (imin (imax (28 + ((x.p : Int) - 1) * 63) (0 : Int)) (x.f.value.size : Int))<=x.f.value.size/\x.f.value.size<=x.f.value.size/\x.f.value.size<=x.f.value.size)/\64<=64/\cP (Nat.ble (ByteArray.size (ByteArray.extract x.f.value (Int.toNat (imin (imax (28 + ((x.p : Int) - 1) * 63) (0 : Int)) (x.f.value.size : Int))) x.f.value.size)) 63) ((∀ k : Nat,k < ByteArray.size (ByteArray.extract x.f.value (Int.toNat (imin (imax (28 + ((x.p : Int) - 1) * 63) (0 : Int)) (x.f.value.size : Int))) x.f.value.size)->TD_w55 x k)/\True/\I64 ((x.ln : Int) + (x.p : Int))/\∃ x_1 : DevS,TD_w74 x_1/\(0 = 0/\(x_1.k : Int) = (x.ln : Int) + (x.p : Int)/\TD_w76 x_1)/\(TD_w78 x_1.d x.d/\(x_1.b.N = 64/\
 ∀ q : Nat,q < x_1.b.N->[Value.int .u8 (x_1.b.g q)] = Cs.eff (fun (p : Nat) => cond (Nat.ble 1 p && Nat.blt p (1 + ByteArray.size (ByteArray.extract x.f.value (Int.toNat (imin (imax (28 + ((x.p : Int) - 1) * 63) (0 : Int)) (x.f.value.size : Int))) x.f.value.size))) [Value.int .u8 (strAt (ByteArray.extract x.f.value (Int.toNat (imin (imax (28 + ((x.p : Int) - 1) * 63) (0 : Int)) (x.f.value.size : Int))) x.f.value.size) (p - 1))] (Cs.eff (fun (x_2 : Nat) => [Value.int .u8 0]) [(0,[Value.int .u8 2])] p)) [] q)/\True)/\TD_w16 x x_1) ((∀ k : Nat,k < 63->TD_w55 x k)/\True/\I64 ((x.ln : Int) + (x.p : Int))/\∃ x_1 : DevS,TD_w74 x_1/\(0 = 0/\(x_1.k : Int) = (x.ln : Int) + (x.p : Int)/\TD_w76 x_1)/\(TD_w78 x_1.d x.d/\(x_1.b.N = 64/\∀ q : Nat,q < x_1.b.N->[Value.int .u8 (x_1.b.g q)] = Cs.eff (fun (p : Nat) => cond (Nat.ble 1 p && Nat.blt p 64) [Value.int .u8 (strAt (ByteArray.extract x.f.value (Int.toNat (imin (imax (28 + ((x.p : Int) - 1) * 63) (0 : Int)) (x.f.value.size : Int))) x.f.value.size) (p - 1))] (Cs.eff (fun (x_2 : Nat) => [Value.int .u8 0]) [(0,[Value.int .u8 2])] p)) [] q)/\True)/\TD_w16 x x_1))
theorem write41VC_ok (x : ZWr) : write41VC x = wpF Tryz.prog tblT4 tt (noA x) 200 6 16 (writeS1.args x) (hO 3 (writeS1.os x)) (fun v h' => endsP 3 x v h' writeS1.outs) := by kernel_rfl
def read0VC (x : ZRe) : Prop :=
 ((0 : Int)<=2/\(0 : Int)<=4)/\I64 ((x.ln : Int) + 0)/\(AV.lit (Value.int .i64 0) = AV.lit (Value.int .i64 0)/\TD_w73 x.ln/\True)/\∃ x_1 : DevL,Hd (x_1.d.ok/\x_1.k < x_1.d.n)/\(0 = 0/\(x_1.k : Int) = (x.ln : Int) + 0/\True)/\(TD_w78 x_1.d x.d/\True)/\∀ y : Unit,True->True/\64<=64/\(2 * (0 + 64) + 1000) * 1<=281474976710656/\I64 (1 : Int)/\(AV.lit (Value.int .i64 1) = AV.lit (Value.int .i64 1)/\True)/\cP (Bool.not (BEq.beq (1 : Int) (spn x.b.cls))) ((∃ y_1 : Unit,TD_w97 x.b.cls/\((5 : Int) = 5/\TD_w40 x.f.key/\TD_w40 x.f.value/\TD_w9/\TD_w1/\(2 : Int) = 2/\TD_w29 x.f.epoch/\TD_w9/\false = false/\(0 : Int) = 0/\true = true/\TD_w9/\TD_w29 x.b.id/\TD_w29 x.b.ver/\TD_w43 x.ln/\TD_w29 x.b.cls/\TD_w29 x.f.line/\TD_w29 x.f.cls/\(1 : Int) = 1/\(0 = 0/\64 = 64)/\TD_w8 x.f)/\(0 = 0/\TD_w14)/\TD_w33/\TD_w78 x.d x_1.d/\(64 = 64/\∀ q : Nat,q < 64->[Value.int .u8 (x.b.enc q)] = [Value.int .u8 (x_1.d.b (x_1.k * 193 + (0 + (q - 0))))])/\True) ∨ (∃ y_1 : Unit,TD_w102 x/\((5 : Int) = 5/\TD_w40 x.f.key/\TD_w40 x.f.value/\TD_w9/\TD_w1/\(3 : Int) = 2/\TD_w57 x)/\TD_w51 x.d x_1.d) ∨ ∃ y_1 : Unit,TD_w100 x/\((5 : Int) = 5/\TD_w40 x.f.key/\TD_w40 x.f.value/\TD_w9/\TD_w1/\(5 : Int) = 2/\TD_w57 x)/\TD_w51 x.d x_1.d) (∃ x_2 : ZDe,TD_w77 x_2/\((0 = 0/\64 * x_2.b.spnN = 64)/\True)/\TD_w91 x_2 x_1/\∀ y_1 : Unit,True->cP (BEq.beq x_2.id x.b.id) (cP (BEq.beq x_2.ver x.b.ver) (cP (decide (x.f.line < 0)) ((∃ y_2 : Unit,TD_w97 x.b.cls/\((5 : Int) = 5/\TD_w40 x.f.key/\TD_w40 x.f.value/\TD_w9/\TD_w1/\(2 : Int) = 3/\TD_w65 x x_2.value)/\TD_w101 x.d x_1.d) ∨ (∃ y_2 : Unit,TD_w102 x/\((5 : Int) = 5/\TD_w40 x.f.key/\TD_w40 x.f.value/\TD_w9/\TD_w1/\(3 : Int) = 3/\TD_w26 x x_2.value)/\
 TD_w51 x.d x_1.d) ∨ ∃ y_2 : Unit,TD_w100 x/\((5 : Int) = 5/\TD_w40 x.f.key/\TD_w40 x.f.value/\TD_w9/\TD_w1/\(5 : Int) = 3/\TD_w26 x x_2.value)/\TD_w51 x.d x_1.d) ((∃ y_2 : Unit,TD_w97 x.b.cls/\((5 : Int) = 5/\TD_w40 x.f.key/\TD_w40 x.f.value/\TD_w9/\TD_w1/\(2 : Int) = 5/\TD_w65 x x_2.value)/\TD_w101 x.d x_1.d) ∨ (∃ y_2 : Unit,TD_w102 x/\((5 : Int) = 5/\TD_w40 x.f.key/\TD_w40 x.f.value/\TD_w9/\TD_w1/\(3 : Int) = 5/\TD_w26 x x_2.value)/\TD_w51 x.d x_1.d) ∨ ∃ y_2 : Unit,TD_w100 x/\((5 : Int) = 5/\TD_w40 x.f.key/\TD_w40 x.f.value/\TD_w9/\TD_w1/\(5 : Int) = 5/\TD_w26 x x_2.value)/\TD_w51 x.d x_1.d)) (TD_w17 x x_1.d)) (TD_w17 x x_1.d))
theorem read0VC_ok (x : ZRe) : read0VC x = wpF Tryz.prog tblT6 tt (noA x) 200 6 16 (readS0.args x) (hO 3 (readS0.os x)) (fun v h' => endsP 3 x v h' readS0.outs) := by kernel_rfl
def read1VC (x : ZRe) : Prop :=
 0 + 64 * x.p<=64 * x.p/\cP (Nat.beq (64 * x.p) 0) (((0 : Int)<=2/\(0 : Int)<=4)/\I64 ((x.ln : Int) + (x.p : Int))/\(TD_w73 x.p/\TD_w73 x.ln/\True)/\∃ x_1 : DevL,Hd (x_1.d.ok/\x_1.k < x_1.d.n)/\(0 = 0/\(x_1.k : Int) = (x.ln : Int) + (x.p : Int)/\True)/\(TD_w78 x_1.d x.d/\True)/\∀ y : Unit,True->True/\64<=64/\(2 * (0 + 64) + 1000) * 1<=281474976710656/\I64 ((x.p : Int) + 1)/\TD_w105 x.p/\cP (Bool.not (BEq.beq ((x.p : Int) + 1) (spn x.b.cls))) ((∃ y_1 : Unit,TD_w94 x/\((5 : Int) = 5/\TD_w40 x.f.key/\TD_w40 x.f.value/\TD_w9/\TD_w1/\(2 : Int) = 2/\TD_w29 x.f.epoch/\TD_w9/\false = false/\(0 : Int) = 0/\true = true/\TD_w9/\TD_w29 x.b.id/\TD_w29 x.b.ver/\TD_w43 x.ln/\TD_w29 x.b.cls/\TD_w29 x.f.line/\TD_w29 x.f.cls/\TD_w83 x.p/\(0 = 0/\64 * (x.p + 1) = 64)/\TD_w8 x.f)/\(0 = 0/\TD_w14)/\TD_w33/\TD_w78 x.d x_1.d/\TD_w42 x/\(64 * (x.p + 1) = 64/\∀ q : Nat,q < 64 * (x.p + 1)->[Value.int .u8 (x.b.enc q)] = [Value.int .u8 (x_1.d.b (x_1.k * 193 + (0 + (q - 0))))])/\True) ∨ TD_w20 x x_1.d) (∃ x_2 : ZDe,TD_w77 x_2/\((0 = 0/\64 * x_2.b.spnN = 64)/\True)/\TD_w91 x_2 x_1/\TD_w2 x_2 x x_1.d)) ((2 * (0 + 64 * x.p) + 1000) * 1<=281474976710656/\((0 : Int)<=2/\(0 : Int)<=4)/\I64 ((x.ln : Int) + (x.p : Int))/\(TD_w73 x.p/\TD_w73 x.ln/\True)/\∃ x_1 : DevL,Hd (x_1.d.ok/\x_1.k < x_1.d.n)/\(0 = 0/\(x_1.k : Int) = (x.ln : Int) + (x.p : Int)/\True)/\(TD_w78 x_1.d x.d/\True)/\∀ y : Unit,True->True/\0 + 64 * x.p = 0 + 64 * x.p/\64<=64/\(∀ k : Nat,k < 64->(Nat.beq (List.length [Value.int .u8 (x_1.d.b (x_1.k * 193 + (0 + k)))]) 1 && List.all [Value.int .u8 (x_1.d.b (x_1.k * 193 + (0 + k)))] Value.oneCell') = true)/\(2 * (0 + 64 * x.p + 64) + 1000) * 1<=281474976710656/\I64 ((x.p : Int) + 1)/\TD_w105 x.p/\
 cP (Bool.not (BEq.beq ((x.p : Int) + 1) (spn x.b.cls))) ((∃ y_1 : Unit,TD_w94 x/\((5 : Int) = 5/\TD_w40 x.f.key/\TD_w40 x.f.value/\TD_w9/\TD_w1/\(2 : Int) = 2/\TD_w29 x.f.epoch/\TD_w9/\false = false/\(0 : Int) = 0/\true = true/\TD_w9/\TD_w29 x.b.id/\TD_w29 x.b.ver/\TD_w43 x.ln/\TD_w29 x.b.cls/\TD_w29 x.f.line/\TD_w29 x.f.cls/\TD_w83 x.p/\(0 = 0/\64 * (x.p + 1) = 0 + 64 * x.p + 64)/\TD_w8 x.f)/\(0 = 0/\TD_w14)/\TD_w33/\TD_w78 x.d x_1.d/\TD_w42 x/\(64 * (x.p + 1) = 0 + 64 * x.p + 64/\∀ q : Nat,q < 64 * (x.p + 1)->[Value.int .u8 (x.b.enc q)] = Cs.eff (fun (q_1 : Nat) => cond (Nat.blt q_1 (0 + 64 * x.p)) [Value.int .u8 (x.b.enc (0 + (q_1 - 0)))] [Value.int .u8 (x_1.d.b (x_1.k * 193 + (0 + (q_1 - (0 + 64 * x.p)))))]) [] q)/\True) ∨ TD_w20 x x_1.d) (∃ x_2 : ZDe,TD_w77 x_2/\((0 = 0/\64 * x_2.b.spnN = 0 + 64 * x.p + 64)/\True)/\((64 * x_2.b.spnN = 0 + 64 * x.p + 64/\∀ q : Nat,q < 64 * x_2.b.spnN->[Value.int .u8 (x_2.g q)] = Cs.eff (fun (q_1 : Nat) => cond (Nat.blt q_1 (0 + 64 * x.p)) [Value.int .u8 (x.b.enc (0 + (q_1 - 0)))] [Value.int .u8 (x_1.d.b (x_1.k * 193 + (0 + (q_1 - (0 + 64 * x.p)))))]) [] q)/\True)/\TD_w2 x_2 x x_1.d))
theorem read1VC_ok (x : ZRe) : read1VC x = wpF Tryz.prog tblT6 tt (noA x) 200 6 16 (readS1.args x) (hO 4 (readS1.os x)) (fun v h' => endsP 4 x v h' readS1.outs) := by kernel_rfl
end Go.Proofs.YtpnhfbegboogbaaGreat
end
section
namespace Go.Proofs.YtpnhfbegboogbaaGreat
open Go SE
def TF_w1 (a : ZChg) : Prop := (5 : Int) = 5/\a.key = a.key/\a.v = a.v/\true = true/\a.old.key = a.old.key/\a.old.id = a.old.id/\a.old.ver = a.old.ver/\a.old.line = a.old.line/\a.old.cls = a.old.cls/\(a.k : Int) = (a.k : Int)/\a.c = a.c/\True
def TF_w9 (a : ZChg) : Prop := (True/\True/\True/\True/\True/\True/\True/\True/\a.a.id = a.a.id/\a.a.ver = a.a.ver/\True/\True)/\TF_w1 a/\True
def TF_w10 (a : ZChg) (b : ZChg) : Prop := ((5 : Int) = 5/\a.key = b.key/\a.v = b.v/\true = true/\a.old.key = b.old.key/\a.old.id = b.old.id/\a.old.ver = b.old.ver/\a.old.line = b.old.line/\a.old.cls = b.old.cls/\(a.k : Int) = (b.k : Int)/\a.c = b.c/\True)/\True
def TF_w17 : Prop := True/\True/\0 = 0/\0 = 0/\True/\0 = 0/\True/\True/\True/\True
def TF_w18 : Prop := True/\0 = 0/\TF_w17
def TF_w25 : Prop := (0 : Int)<=0/\(0 : Int)<=0
def TF_w26 : Prop := Value.slice none 0 0 = Value.slice none 0 0
def TF_w29 : Prop := ownM tabE = ownM tabE
def TF_w27 (a : ZChg) (b : ZPool) (c : ZUse) : Prop := TF_w18/\ownM a.a.p.os = ownM b.os/\ownM a.a.b.os = ownM c.b.os/\TF_w29/\ownM a.a.l.os = ownM c.l.os/\TF_w1 a/\True
def shaped5VC (x : ZChg) : Prop :=
 TF_w25/\I64 (1 : Int)/\∃ y : Unit,True/\true = true/\TF_w1 x/\True
theorem shaped5VC_ok (x : ZChg) : shaped5VC x = wpF Tryz.prog [] tt (noA x) 200 6 156 (shaped5C.args x) (hO shaped5C.k (shaped5C.os x)) (fun v h' => endsP shaped5C.k x v h' shaped5C.outs) := by kernel_rfl
def fits5VC (x : ZChg) : Prop :=
 True/\True/\TF_w25/\∃ x_1 : ZBlk,Hd (x_1.key.size < 1099511627776/\x_1.value.size < 1099511627776)/\((x_1.cls = 0/\x_1.kind = 3/\x_1.id = 1/\x_1.ver = 1/\x_1.epoch = x.e/\x_1.key = ByteArray.mk #[]/\x_1.value = ByteArray.mk #[]/\True)/\True)/\True/\∀ y : Unit,True->cP (Bool.not x_1.mayB) (∃ y_1 : Unit,True/\(0 : Int) = 3/\TF_w9 x) (cP (bne (0 : Int) x.c) (∃ y_1 : Unit,True/\(0 : Int) = 3/\TF_w9 x) (cP (decide (IntKind.wrap .u64 (x.a.ver + 1) > (2305843009213693952 : Int))) (I64 (1 : Int)/\∃ y_1 : Unit,True/\(0 : Int) = 10/\TF_w9 x) (I64 (1 : Int)/\cP (decide (x.a.id > (2305843009213693952 : Int))) (∃ y_1 : Unit,True/\(0 : Int) = 10/\TF_w9 x) (∃ y_1 : Unit,True/\(0 : Int) = 0/\TF_w9 x))))
theorem fits5VC_ok (x : ZChg) : fits5VC x = wpF Tryz.prog tblA5 tt (noA x) 200 6 159 (fits5C.args x) (hO fits5C.k (fits5C.os x)) (fun v h' => endsP fits5C.k x v h' fits5C.outs) := by kernel_rfl
def held5VC (x : ZChg) : Prop :=
 TF_w25/\∃ x_1 : ZPoolB,Hd x_1.ok/\(0 = 0/\x_1.line = (x.k : Int)/\True)/\(ownM x_1.p.os = ownM x.a.p.os/\True)/\∀ y : Unit,True->True/\cP (bne (x_1.p.cls x_1.i) x.c) (∃ y_1 : Unit,True/\true = false/\TF_w18/\ownM x.a.p.os = ownM x_1.p.os/\ownM x.a.b.os = ownM x.a.b.os/\TF_w29/\ownM x.a.l.os = ownM x.a.l.os/\TF_w1 x/\True) (∃ x_2 : ZUse,Hd (x_2.b.ok/\x_2.l.ok/\x_2.l.n < 1099511627776)/\(0 = 0/\x_2.k = (x.k : Int)/\True)/\((True/\True/\TF_w17)/\ownM x_2.b.os = ownM x.a.b.os/\TF_w29/\ownM x_2.l.os = ownM x.a.l.os/\True)/\(∀ y_1 : Unit,Hd (x_2.inL ∨ x_2.inB)->∃ y_2 : Unit,True/\true = false/\TF_w27 x x_1.p x_2)/\∀ y_1 : Unit,Hd (Not x_2.inL/\Not x_2.inB)->I64 (1 : Int)/\∃ y_2 : Unit,True/\true = true/\TF_w27 x x_1.p x_2)
theorem held5VC_ok (x : ZChg) : held5VC x = wpF Tryz.prog tblA4 tt (noA x) 200 6 158 (held5C.args x) (hO held5C.k (held5C.os x)) (fun v h' => endsP held5C.k x v h' held5C.outs) := by kernel_rfl
def pubDVC (x : ZChg) : Prop :=
 ∃ x_1 : ClkM,Hd x_1.ok/\(0 = 0/\True)/\(ownM (x_1.os 0) = ownM (x.a.c.os 0)/\True)/\∀ y : Unit,True->cP (decide ((x.t : Int) ≥ (x_1.t : Int))) (∃ y_1 : Unit,True/\False) (∃ x_2 : ZChg,Hd True/\((0 = 0/\1 = 1/\1 = 1)/\True)/\TF_w10 x_2 x/\∀ y_1 : Unit,True->∃ x_3 : ClkM,Hd x_3.ok/\(0 = 0/\True)/\(ownM (x_3.os 0) = ownM (x_1.os 0)/\True)/\∀ y_2 : Unit,True->cP (bne x_3.now x.e) (∃ y_3 : Unit,True/\False) (TF_w25/\∃ x_4 : ZLn,Hd x_4.ok/\(0 = 0/\True)/\(ownM x_4.os = ownM x.a.l.os/\True)/\∀ y_3 : Unit,True->cP (decide (x_4.n ≠ 0)) (cP (Bool.not (BEq.beq (ByteArray.toList x_4.head.key) (ByteArray.toList x.old.key) && (BEq.beq x_4.head.id x.old.id && (BEq.beq x_4.head.ver x.old.ver && (BEq.beq x_4.head.line x.old.line && (BEq.beq x_4.head.cls x.old.cls && true)))))) (∃ y_4 : Unit,True/\False) (I64 (1 : Int)/\∃ x_5 : ZChg,Hd (x_5.okD/\∃ i : Nat,∃ j : Nat,x_5.inP i j)/\(0 = 0/\(0 = 0/\1 = 1/\1 = 1)/\True)/\(TF_w18/\ownM x_5.a.p.os = ownM x.a.p.os/\ownM x_5.a.b.os = ownM x.a.b.os/\TF_w29/\ownM x_5.a.l.os = ownM x_4.os/\TF_w10 x_5 x)/\∀ y_4 : Unit,True->∃ x_6 : ZChg,Hd (x_6.okD/\0<=x_6.a.id/\x_6.a.id < 1152921504606846976)/\(0 = 0/\(0 = 0/\1 = 1/\1 = 1)/\x_6.e = x.e/\True)/\((True/\True/\True/\True/\True/\True/\True/\True/\x_6.a.id = x.a.id/\x_6.a.ver = x.a.ver/\True/\True)/\TF_w10 x_6 x)/\∀ y_5 : Unit,True->TF_w25/\1002<=281474976710656/\∃ x_7 : ZBlk,Hd (x_7.may/\x_7.key.size < 1099511627776/\x_7.value.size < 1099511627776/\x_7.cls = 0)/\((x_7.cls = 0/\x_7.kind = 3/\x_7.id = x.old.id/\x_7.ver = IntKind.wrap .u64 (x.a.ver + 1)/\x_7.epoch = x.e/\x_7.key = ByteArray.mk #[]/\x_7.value = ByteArray.mk #[]/\True)/\True)/\True/\∀ y_6 : Unit,True->(0 : Int)<=64/\(0<=64/\64<=64/\
 64<=64)/\(AV.lit (Value.int .i64 (x.k : Int)) = AV.lit (Value.int .i64 (x.k : Int))/\True)/\∃ x_8 : DevS,Hd (x_8.d.ok/\x_8.k < x_8.d.n/\x_8.b.ok/\x_8.a + x_8.b.n<=64)/\(0 = 0/\(x_8.k : Int) = (x.k : Int)/\(x_8.a : Int) = 0/\(x_8.b.q = 0/\x_8.b.n = 64)/\True)/\(ownM x_8.d.os = ownM x.a.d.os/\(x_8.b.N = 64/\∀ q : Nat,q < x_8.b.N->[Value.int .u8 (x_8.b.g q)] = [Value.int .u8 (x_7.enc q)])/\True)/\∀ y_7 : Unit,True->True/\I64 ((x.k : Int) + 0)/\∃ x_9 : ClkN,Hd (x_9.c.ok/\x_9.t < x_9.c.t)/\(0 = 0/\(x_9.t : Int) = (x.t : Int)/\x_9.l = (x.k : Int) + 0/\True)/\(ownM (x_9.c.os 0) = ownM (x_3.os 0)/\True)/\∀ y_8 : Unit,True->True/\I64 (1 : Int)/\I64 (IntKind.wrap .u64 (x.a.ver + 1))/\(AV.lit (Value.int .i64 (x.k : Int)) = AV.lit (Value.int .i64 (x.k : Int))/\True)/\∃ x_10 : ZLn,Hd x_10.ok/\(0 = 0/\True)/\(ownM x_10.os = ownM x_5.a.l.os/\True)/\∀ y_9 : Unit,True->∃ x_11 : ZRd,Hd x_11.ok/\(0 = 0/\True)/\(ownM x_11.os = ownM x.a.r.os/\True)/\∀ y_10 : Unit,True->(AV.lit (Value.int .i64 x.old.cls) = AV.lit (Value.int .i64 x.old.cls)/\AV.lit (Value.int .i64 x.old.line) = AV.lit (Value.int .i64 x.old.line)/\AV.ptr 7 0 = AV.ptr 7 0/\True)/\∃ x_12 : ZBagE,Hd (x_12.b.ok/\x_12.x.may)/\(0 = 0/\(x_12.x.line = x.old.line/\x_12.x.cls = x.old.cls/\x_12.x.r = x_11.now/\x_12.x.d = x.e/\x_12.x.anti = (x.k : Int)/\True)/\True)/\(ownM x_12.b.os = ownM x_5.a.b.os/\True)/\∀ y_11 : Unit,True->True/\(AV.slW 11 0 7 x.a.n = AV.slW 11 0 7 x.a.n/\True)/\x.a.n = x.a.n/\
 List.all [List.take 7 [Value.int .i64 4,Value.string (ByteArray.mk #[]),Value.string (ByteArray.mk #[]),Value.int .u64 x.old.id,Value.int .u64 (IntKind.wrap .u64 (x.a.ver + 1)),Value.int .u64 x.e,Value.int .i64 (IntKind.wrap .u64 (x.a.ver + 1))]] (fun (l : List Value) => Nat.beq (List.length l) 7 && List.all l Value.oneCell') = true/\(2 * (x.a.n + 1) + 1000) * 72<=281474976710656/\True/\True/\I64 (1 : Int)/\∃ y_12 : Unit,True/\((0 = 0/\1 = 1)/\(0 : Int) = 0/\True)/\(0 = 0/\0 = 0/\0 = 0/\0 = 0/\0 = 0/\0 = 0/\0 = 0/\0 = 0/\x.a.id = x.a.id/\x.a.ver + 1 = IntKind.wrap .u64 (x.a.ver + 1)/\(0 = 0/\x.a.n + 1 = x.a.n + 1)/\True)/\TF_w1 x/\(1 = 1/\∀ q : Nat,q < 1->[Value.bool true] = Cs.eff (fun (x_13 : Nat) => []) [(0,List.take 1 [Value.bool true])] q)/\(0 = 0/\(1 : Int) = 1/\(0 : Int) = 0/\(0 : Int) = 0/\True)/\ownM (DevM.os (x.a.d.store x.k 0 64 x.blkD.enc)) = ownM (DevM.os (x_8.d.store x_8.k x_8.a x_8.b.n (fun (q : Nat) => x_8.b.g (x_8.b.q + q))))/\ownM x.a.p.os = ownM x_5.a.p.os/\ownM x.a.r.os = ownM x_11.os/\ownM (ClkM.os (x.a.c.notes x.t (x.k : Int) 1) 0) = ownM (ClkM.os (x_9.c.note x_9.t x_9.l) 0)/\ownM (ZBag.os (x.a.b.put x.entD)) = ownM (ZBag.os (x_12.b.put x_12.x))/\TF_w29/\(TF_w26/\TF_w26/\TF_w26/\TF_w26/\True)/\ownM x.a.l.pop.os = ownM x_10.pop.os/\(x.a.n + 1 = x.a.n + List.length [List.take 7 [Value.int .i64 4,Value.string (ByteArray.mk #[]),Value.string (ByteArray.mk #[]),Value.int .u64 x.old.id,Value.int .u64 (IntKind.wrap .u64 (x.a.ver + 1)),Value.int .u64 x.e,Value.int .i64 (IntKind.wrap .u64 (x.a.ver + 1))]]/\
 ∀ q : Nat,q < x.a.n + 1->[Value.int .i64 (ZEff.kind (ite (q = x.a.n) x.effD (x.a.e q))),Value.string (ZEff.key (ite (q = x.a.n) x.effD (x.a.e q))),Value.string (ZEff.value (ite (q = x.a.n) x.effD (x.a.e q))),Value.int .u64 (ZEff.id (ite (q = x.a.n) x.effD (x.a.e q))),Value.int .u64 (ZEff.ver (ite (q = x.a.n) x.effD (x.a.e q))),Value.int .u64 (ZEff.epoch (ite (q = x.a.n) x.effD (x.a.e q))),Value.int .i64 (ZEff.group (ite (q = x.a.n) x.effD (x.a.e q)))] = Cs.eff (fun (i : Nat) => ZEff.cs (x.a.e i)) [(x.a.n,List.take 7 [Value.int .i64 4,Value.string (ByteArray.mk #[]),Value.string (ByteArray.mk #[]),Value.int .u64 x.old.id,Value.int .u64 (IntKind.wrap .u64 (x.a.ver + 1)),Value.int .u64 x.e,Value.int .i64 (IntKind.wrap .u64 (x.a.ver + 1))])] q)/\True)) (∃ y_4 : Unit,True/\False)))
theorem pubDVC_ok (x : ZChg) : pubDVC x = wpF Tryz.prog tblD1 tt (noA x) 200 6 123 (deqPub.args x) (hO 12 (flatP 2 (deqPub.l x))) (fun v h' => endsPK 2 x v h' deqPub.outs) := by kernel_rfl
end Go.Proofs.YtpnhfbegboogbaaGreat
end
section
namespace Go.Proofs.YtpnhfbegboogbaaGreat
open Go SE
noncomputable def tblA6 : WTbl := tblX ++ [(84,ctrT spanC),(132,ctrT encC),(54,ctrT storeP.ctr),(56,ctrT (noteP 0).ctr),(201,ctrT linePushC.ctr),(156,ctrT shapedC),(158,ctrT heldC),(159,ctrT fitsC),(155,ctrT (owedP 0).ctr),(60,ctrT (cnowP 0).ctr)]
end Go.Proofs.YtpnhfbegboogbaaGreat
end
section
namespace Go.Proofs.YtpnhfbegboogbaaGreat
open Go SE
def XH_w1 (a : ZChg) : Prop := (4 : Int) = 4/\a.key = a.key/\a.v = a.v/\false = false/\a.old.key = a.old.key/\a.old.id = a.old.id/\a.old.ver = a.old.ver/\a.old.line = a.old.line/\a.old.cls = a.old.cls/\(a.k : Int) = (a.k : Int)/\a.c = a.c/\True
def XH_w12 (a : Int) : Prop := IntKind.wrap .u64 (a + 1) = IntKind.wrap .u64 (a + 1)
def XH_w9 (a : ZChg) : Prop := a.c = a.c/\(2 : Int) = 2/\XH_w12 a.a.id/\XH_w12 a.a.ver/\a.e = a.e/\ByteArray.mk #[] = ByteArray.mk #[]/\a.v = a.v/\True
def XH_w68 (a : ZChg) (b : DevS) : Prop := ownM (DevM.os (a.a.d.store a.k 0 64 a.blk.enc)) = ownM (DevM.os (b.d.store b.k b.a b.b.n (fun (q : Nat) => b.b.g (b.b.q + q))))
def XH_w55 : Prop := ownM tabE = ownM tabE
def XH_w19 : Prop := Value.slice none 0 0 = Value.slice none 0 0
def XH_w17 : Prop := XH_w19/\XH_w19/\XH_w19/\XH_w19/\True
def XH_w62 : Prop := 1 = 1/\∀ q : Nat,q < 1->[Value.bool false] = Cs.eff (fun (x_10 : Nat) => []) [(0,List.take 1 [Value.bool false])] q
def XH_w50 : Prop := 0 = 0/\(1 : Int) = 1/\(0 : Int) = 0/\(0 : Int) = 0/\True
def XH_w71 (a : Int) : Prop := a + 1 = IntKind.wrap .u64 (a + 1)
def XH_w67 (a : ZChg) (b : ZLnE) : Prop := ownM (ZLn.os (a.a.l.push (ZLnk.mk (ByteArray.mk #[]) (a.a.id + 1) (a.a.ver + 1) (a.k : Int) a.c))) = ownM (ZLn.os (b.l.push b.x))
def XH_w56 (a : ZLnk) (b : ZChg) : Prop := 0 = 0/\(a.key = ByteArray.mk #[]/\a.id = IntKind.wrap .u64 (b.a.id + 1)/\a.ver = IntKind.wrap .u64 (b.a.ver + 1)/\a.line = (b.k : Int)/\a.cls = b.c/\True)/\True
def XH_w70 (a : ZChg) (b : Nat) : Prop := ownM (ClkM.os (a.a.c.notes a.t (a.k : Int) a.blk.spnN) 0) = ownM (ClkM.os (a.a.c.notes a.t (a.k : Int) b) 0)
def XH_w13 (a : ZChg) (b : ZArn) (c : DevS) (d : Nat) : Prop := I64 (IntKind.wrap .u64 (a.a.ver + 1))/\∃ x_9 : ZLnE,Hd x_9.l.ok/\XH_w56 x_9.x a/\(ownM x_9.l.os = ownM b.l.os/\True)/\∀ y_8 : Unit,True->True/\(AV.slW 11 0 7 a.a.n = AV.slW 11 0 7 a.a.n/\True)/\a.a.n = a.a.n/\List.all [List.take 7 [Value.int .i64 3,Value.string (ByteArray.mk #[]),Value.string a.v,Value.int .u64 (IntKind.wrap .u64 (a.a.id + 1)),Value.int .u64 (IntKind.wrap .u64 (a.a.ver + 1)),Value.int .u64 a.e,Value.int .i64 (IntKind.wrap .u64 (a.a.ver + 1))]] (fun (l : List Value) => Nat.beq (List.length l) 7 && List.all l Value.oneCell') = true/\(2 * (a.a.n + 1) + 1000) * 72<=281474976710656/\True/\True/\I64 (1 : Int)/\∃ y_9 : Unit,True/\((0 = 0/\1 = 1)/\(0 : Int) = 0/\True)/\(0 = 0/\0 = 0/\0 = 0/\0 = 0/\0 = 0/\0 = 0/\0 = 0/\0 = 0/\XH_w71 a.a.id/\XH_w71 a.a.ver/\(0 = 0/\a.a.n + 1 = a.a.n + 1)/\True)/\XH_w1 a/\XH_w62/\XH_w50/\XH_w68 a c/\ownM a.a.p.os = ownM b.p.os/\ownM a.a.r.os = ownM a.a.r.os/\XH_w70 a d/\ownM a.a.b.os = ownM b.b.os/\XH_w55/\XH_w17/\XH_w67 a x_9/\(a.a.n + 1 = a.a.n + List.length [List.take 7 [Value.int .i64 3,Value.string (ByteArray.mk #[]),Value.string a.v,Value.int .u64 (IntKind.wrap .u64 (a.a.id + 1)),Value.int .u64 (IntKind.wrap .u64 (a.a.ver + 1)),Value.int .u64 a.e,Value.int .i64 (IntKind.wrap .u64 (a.a.ver + 1))]]/\
 ∀ q : Nat,q < a.a.n + 1->[Value.int .i64 (ZEff.kind (ite (q = a.a.n) a.eff (a.a.e q))),Value.string (ZEff.key (ite (q = a.a.n) a.eff (a.a.e q))),Value.string (ZEff.value (ite (q = a.a.n) a.eff (a.a.e q))),Value.int .u64 (ZEff.id (ite (q = a.a.n) a.eff (a.a.e q))),Value.int .u64 (ZEff.ver (ite (q = a.a.n) a.eff (a.a.e q))),Value.int .u64 (ZEff.epoch (ite (q = a.a.n) a.eff (a.a.e q))),Value.int .i64 (ZEff.group (ite (q = a.a.n) a.eff (a.a.e q)))] = Cs.eff (fun (i : Nat) => ZEff.cs (a.a.e i)) [(a.a.n,List.take 7 [Value.int .i64 3,Value.string (ByteArray.mk #[]),Value.string a.v,Value.int .u64 (IntKind.wrap .u64 (a.a.id + 1)),Value.int .u64 (IntKind.wrap .u64 (a.a.ver + 1)),Value.int .u64 a.e,Value.int .i64 (IntKind.wrap .u64 (a.a.ver + 1))])] q)/\True
def XH_w16 (a : ZChg) (b : ZArn) (c : DevS) (d : Nat) : Prop := I64 (IntKind.wrap .u64 (a.a.ver + 1))/\∃ x_9 : ZLnE,Hd x_9.l.ok/\XH_w56 x_9.x a/\(ownM x_9.l.os = ownM b.l.os/\True)/\∀ y_8 : Unit,True->True/\(AV.lit (Value.slice none 0 0) = AV.lit (Value.slice none 0 0)/\True)/\(2 * (0 + 1) + 1000) * 72<=281474976710656/\True/\True/\I64 (1 : Int)/\∃ y_9 : Unit,True/\((0 = 0/\1 = 1)/\(0 : Int) = 0/\True)/\(0 = 0/\0 = 0/\0 = 0/\0 = 0/\0 = 0/\0 = 0/\0 = 0/\0 = 0/\XH_w71 a.a.id/\XH_w71 a.a.ver/\(0 = 0/\a.a.n + 1 = 1)/\True)/\XH_w1 a/\XH_w62/\XH_w50/\XH_w68 a c/\ownM a.a.p.os = ownM b.p.os/\ownM a.a.r.os = ownM a.a.r.os/\XH_w70 a d/\ownM a.a.b.os = ownM b.b.os/\XH_w55/\XH_w17/\XH_w67 a x_9/\(a.a.n + 1 = 0 + List.length [List.take 7 [Value.int .i64 3,Value.string (ByteArray.mk #[]),Value.string a.v,Value.int .u64 (IntKind.wrap .u64 (a.a.id + 1)),Value.int .u64 (IntKind.wrap .u64 (a.a.ver + 1)),Value.int .u64 a.e,Value.int .i64 (IntKind.wrap .u64 (a.a.ver + 1))]]/\∀ q : Nat,q < a.a.n + 1->[Value.int .i64 (ZEff.kind (ite (q = a.a.n) a.eff (a.a.e q))),Value.string (ZEff.key (ite (q = a.a.n) a.eff (a.a.e q))),Value.string (ZEff.value (ite (q = a.a.n) a.eff (a.a.e q))),Value.int .u64 (ZEff.id (ite (q = a.a.n) a.eff (a.a.e q))),Value.int .u64 (ZEff.ver (ite (q = a.a.n) a.eff (a.a.e q))),Value.int .u64 (ZEff.epoch (ite (q = a.a.n) a.eff (a.a.e q))),Value.int .i64 (ZEff.group (ite (q = a.a.n) a.eff (a.a.e q)))] = Cs.eff (fun (x_10 : Nat) => []) [(0,List.take 7 [Value.int .i64 3,Value.string (ByteArray.mk #[]),Value.string a.v,Value.int .u64 (IntKind.wrap .u64 (a.a.id + 1)),Value.int .u64 (IntKind.wrap .u64 (a.a.ver + 1)),Value.int .u64 a.e,Value.int .i64 (IntKind.wrap .u64 (a.a.ver + 1))])] q)/\True
def XH_w18 (a : ZArn) : Prop := a.n = a.n/\∀ q : Nat,q < a.n->[Value.int .i64 (ZEff.kind (a.e q)),Value.string (ZEff.key (a.e q)),Value.string (ZEff.value (a.e q)),Value.int .u64 (ZEff.id (a.e q)),Value.int .u64 (ZEff.ver (a.e q)),Value.int .u64 (ZEff.epoch (a.e q)),Value.int .i64 (ZEff.group (a.e q))] = [Value.int .i64 (ZEff.kind (a.e q)),Value.string (ZEff.key (a.e q)),Value.string (ZEff.value (a.e q)),Value.int .u64 (ZEff.id (a.e q)),Value.int .u64 (ZEff.ver (a.e q)),Value.int .u64 (ZEff.epoch (a.e q)),Value.int .i64 (ZEff.group (a.e q))]
def XH_w58 (a : DevS) : Prop := ownM (DevM.os (a.d.store a.k a.a a.b.n (fun (q : Nat) => a.b.g (a.b.q + q)))) = ownM (DevM.os (a.d.store a.k a.a a.b.n (fun (q : Nat) => a.b.g (a.b.q + q))))
def XH_w23 (a : ZChg) (b : ZPool) (c : DevS) : Prop := ownM a.a.r.os = ownM a.a.r.os/\ownM b.os = ownM b.os/\XH_w58 c/\XH_w50/\XH_w1 a/\(0 = 0/\0 = 0/\0 = 0/\0 = 0/\0 = 0/\0 = 0/\0 = 0/\0 = 0/\XH_w12 a.a.id/\XH_w12 a.a.ver/\XH_w19/\True)/\True
def XH_w24 (a : ZChg) (b : ZPool) (c : DevS) : Prop := ownM a.a.r.os = ownM a.a.r.os/\ownM b.os = ownM b.os/\XH_w58 c/\XH_w50/\XH_w1 a/\(0 = 0/\0 = 0/\0 = 0/\0 = 0/\0 = 0/\0 = 0/\0 = 0/\0 = 0/\XH_w12 a.a.id/\XH_w12 a.a.ver/\(0 = 0/\a.a.n = a.a.n)/\True)/\True
def XH_w25 (a : ZChg) (b : ZChg) : Prop := ((4 : Int) = 4/\a.key = b.key/\a.v = b.v/\false = false/\a.old.key = b.old.key/\a.old.id = b.old.id/\a.old.ver = b.old.ver/\a.old.line = b.old.line/\a.old.cls = b.old.cls/\(a.k : Int) = (b.k : Int)/\a.c = b.c/\True)/\True
def XH_w31 (a : ClkM) : Prop := a.t = a.t/\∀ q : Nat,q < a.t->[Value.int .i64 (a.o q)] = [Value.int .i64 (a.o q)]
def XH_w33 : Prop := 1 = 1/\∀ q : Nat,q < 1->Cs.eff (fun (x_10 : Nat) => []) [(0,List.take 1 [Value.bool false])] q = Cs.eff (fun (x_10 : Nat) => []) [(0,List.take 1 [Value.bool false])] q
def XH_w34 : Prop := 1 = 1/\∀ q : Nat,q < 1->Cs.eff (fun (x_9 : Nat) => []) [(0,List.take 1 [Value.bool false])] q = Cs.eff (fun (x_9 : Nat) => []) [(0,List.take 1 [Value.bool false])] q
def XH_w42 (a : ZBlk) (b : Nat) : Prop := [Value.int .u8 (a.enc b)] = [Value.int .u8 (a.enc b)]
def XH_w41 (a : ZBlk) : Prop := 64 * a.spnN = 64 * a.spnN/\∀ q : Nat,q < 64 * a.spnN->XH_w42 a q
def XH_w43 (a : DevS) (b : Nat) : Prop := 0 = 0/\(a.k : Int) = (b : Int)/\(a.a : Int) = 0/\(a.b.q = 0/\a.b.n = 64)/\True
def XH_w44 (a : ZBlk) : Prop := 64 = 64/\∀ q : Nat,q < 64->XH_w42 a q
def XH_w46 (a : ZChg) (b : ZChg) : Prop := (True/\0 = 0/\True/\True/\0 = 0/\0 = 0/\True/\0 = 0/\True/\True/\True/\True)/\ownM a.a.p.os = ownM b.a.p.os/\ownM a.a.b.os = ownM b.a.b.os/\XH_w55/\ownM a.a.l.os = ownM b.a.l.os/\XH_w25 a b
def XH_w48 (a : Nat) : Prop := AV.lit (Value.int .i64 (a : Int)) = AV.lit (Value.int .i64 (a : Int))/\True
def XH_w49 (a : ZChg) (b : Nat) (c : ClkN) : Prop := ownM (ClkM.os (a.a.c.notes a.t (a.k : Int) b) 0) = ownM (ClkM.os (c.c.note c.t c.l) 0)
def XH_w51 (a : Bys) (b : ZBlk) : Prop := ∀ q : Nat,q < a.N->[Value.int .u8 (a.g q)] = [Value.int .u8 (b.enc q)]
def XH_w52 (a : DevS) : Prop := Hd (a.d.ok/\a.k < a.d.n/\a.b.ok/\a.a + a.b.n<=64)
def XH_w53 (a : ZBlk) (b : ZChg) : Prop := (a.cls = b.c/\a.kind = 2/\a.id = IntKind.wrap .u64 (b.a.id + 1)/\a.ver = IntKind.wrap .u64 (b.a.ver + 1)/\a.epoch = b.e/\a.key = ByteArray.mk #[]/\a.value = b.v/\True)/\True
def XH_w54 (a : ClkN) (b : ZChg) (c : Nat) : Prop := 0 = 0/\(a.t : Int) = (b.t : Int)/\a.l = (b.k : Int) + (c : Int)/\True
def XH_w57 (a : ClkM) (b : ZChg) (c : Nat) : Prop := ownM (a.os 0) = ownM (ClkM.os (b.a.c.notes b.t (b.k : Int) c) 0)/\True
def XH_w59 (a : ZLn) : Prop := ownM a.os = ownM a.os
def XH_w60 (a : ZChg) (b : Nat) (c : ClkM) : Prop := ownM (ClkM.os (a.a.c.notes a.t (a.k : Int) b) 0) = ownM (c.os 0)
def XH_w63 (a : ZChg) (b : ZChg) : Prop := (True/\True/\True/\True/\True/\True/\True/\True/\a.a.id = b.a.id/\a.a.ver = b.a.ver/\True/\True)/\XH_w25 a b
def XH_w65 (a : ZBag) : Prop := ownM a.os = ownM a.os
def XH_w66 : Prop := 0 = 0/\1 = 1/\1 = 1
def XH_w69 : Prop := (0 : Int)<=0/\(0 : Int)<=0
def pubNVC (x : ZChg) : Prop :=
 ∃ x_1 : ClkM,Hd x_1.ok/\(0 = 0/\True)/\(ownM (x_1.os 0) = ownM (x.a.c.os 0)/\True)/\∀ y : Unit,True->cP (decide ((x.t : Int) ≥ (x_1.t : Int))) (∃ y_1 : Unit,True/\False) (∃ x_2 : ZChg,Hd True/\(XH_w66/\True)/\XH_w25 x_2 x/\∀ y_1 : Unit,True->∃ x_3 : ClkM,Hd x_3.ok/\(0 = 0/\True)/\(ownM (x_3.os 0) = ownM (x_1.os 0)/\True)/\∀ y_2 : Unit,True->cP (bne x_3.now x.e) (∃ y_3 : Unit,True/\False) (XH_w69/\I64 (1 : Int)/\∃ x_4 : ZChg,Hd (x_4.okE/\∃ i : Nat,∃ j : Nat,x_4.inP i j)/\(0 = 0/\XH_w66/\True)/\XH_w46 x_4 x/\∀ y_3 : Unit,True->∃ x_5 : ZChg,Hd x_5.okE/\(0 = 0/\XH_w66/\x_5.e = x.e/\True)/\XH_w63 x_5 x/\∀ y_4 : Unit,True->XH_w69/\1002<=281474976710656/\(AV.lit (Value.string x.v) = AV.lit (Value.string x.v)/\True)/\True/\∃ x_6 : ZBlk,Hd (x_6.may/\x_6.key.size < 1099511627776/\x_6.value.size < 1099511627776)/\XH_w53 x_6 x/\True/\(∀ y_5 : Unit,Hd (x_6.cls = 0)->(0 : Int)<=64/\(0<=64/\64<=64/\64<=64)/\XH_w48 x.k/\∃ x_7 : DevS,XH_w52 x_7/\XH_w43 x_7 x.k/\(ownM x_7.d.os = ownM x.a.d.os/\(x_7.b.N = 64/\XH_w51 x_7.b x_6)/\True)/\∀ y_6 : Unit,True->True/\∃ x_8 : Int,True/\(x_8 = x.c/\True)/\True/\∀ y_7 : Unit,True->(∃ s : Nat,Hd (s<=x.blk.spnN)/\True/\((s : Int) = 0/\True)/\XH_w44 x_6/\XH_w9 x/\XH_w9 x/\XH_w9 x/\XH_w1 x/\XH_w1 x/\XH_w1 x/\XH_w34/\(false = false/\True)/\XH_w1 x/\XH_w1 x/\XH_w1 x/\XH_w1 x/\XH_w31 x_1/\XH_w59 x_4.a.l/\XH_w17/\XH_w55/\XH_w65 x_4.a.b/\XH_w60 x s x_3/\XH_w23 x x_4.a.p x_7)/\(∀ s : Nat,Hd (s<=x.blk.spnN)->cP (decide ((s : Int) < spn x_8)) (I64 ((x.k : Int) + (s : Int))/\∃ x_9 : ClkN,Hd (x_9.c.ok/\x_9.t < x_9.c.t)/\XH_w54 x_9 x s/\XH_w57 x_9.c x s/\∀ y_8 : Unit,True->True/\I64 ((s : Int) + 1)/\∃ s_1 : Nat,Hd (s_1<=x.blk.spnN)/\
 x.blk.spnN - s_1 < x.blk.spnN - s/\((s_1 : Int) = (s : Int) + 1/\True)/\XH_w44 x_6/\XH_w9 x/\XH_w9 x/\XH_w9 x/\XH_w1 x/\XH_w1 x/\XH_w1 x/\XH_w33/\(false = false/\True)/\XH_w1 x/\XH_w1 x/\XH_w1 x/\XH_w1 x/\XH_w31 x_1/\XH_w59 x_4.a.l/\XH_w17/\XH_w55/\XH_w65 x_4.a.b/\XH_w49 x s_1 x_9/\XH_w23 x x_4.a.p x_7) (XH_w16 x x_4.a x_7 s))/\True)/\∀ y_5 : Unit,Hd (x_6.cls ≠ (0 : Int))->(0 : Int)<=64/\(0<=64/\64<=64 * x_6.spnN/\64 * x_6.spnN<=64 * x_6.spnN)/\XH_w48 x.k/\∃ x_7 : DevS,XH_w52 x_7/\XH_w43 x_7 x.k/\(ownM x_7.d.os = ownM x.a.d.os/\(x_7.b.N = 64 * x_6.spnN/\XH_w51 x_7.b x_6)/\True)/\∀ y_6 : Unit,True->True/\∃ x_8 : Int,True/\(x_8 = x.c/\True)/\True/\∀ y_7 : Unit,True->(∃ s : Nat,Hd (s<=x.blk.spnN)/\True/\((s : Int) = 0/\True)/\XH_w41 x_6/\XH_w9 x/\XH_w9 x/\XH_w9 x/\XH_w1 x/\XH_w1 x/\XH_w1 x/\XH_w34/\(false = false/\True)/\XH_w1 x/\XH_w1 x/\XH_w1 x/\XH_w1 x/\XH_w31 x_1/\XH_w59 x_4.a.l/\XH_w17/\XH_w55/\XH_w65 x_4.a.b/\XH_w60 x s x_3/\XH_w23 x x_4.a.p x_7)/\(∀ s : Nat,Hd (s<=x.blk.spnN)->cP (decide ((s : Int) < spn x_8)) (I64 ((x.k : Int) + (s : Int))/\∃ x_9 : ClkN,Hd (x_9.c.ok/\x_9.t < x_9.c.t)/\XH_w54 x_9 x s/\XH_w57 x_9.c x s/\∀ y_8 : Unit,True->True/\I64 ((s : Int) + 1)/\∃ s_1 : Nat,Hd (s_1<=x.blk.spnN)/\x.blk.spnN - s_1 < x.blk.spnN - s/\((s_1 : Int) = (s : Int) + 1/\True)/\XH_w41 x_6/\XH_w9 x/\XH_w9 x/\XH_w9 x/\XH_w1 x/\XH_w1 x/\XH_w1 x/\XH_w33/\(false = false/\True)/\XH_w1 x/\XH_w1 x/\XH_w1 x/\XH_w1 x/\XH_w31 x_1/\XH_w59 x_4.a.l/\XH_w17/\XH_w55/\XH_w65 x_4.a.b/\XH_w49 x s_1 x_9/\XH_w23 x x_4.a.p x_7) (XH_w16 x x_4.a x_7 s))/\True))
theorem pubNVC_ok (x : ZChg) : pubNVC x = wpF Tryz.prog tblA6 tt (anChg x) 200 6 123 ((enqPub true).args x) (hO 11 (flatP 2 ((enqPub true).l x))) (fun v h' => endsPK 2 x v h' (enqPub true).outs) := by kernel_rfl
def pubPVC (x : ZChg) : Prop :=
 ∃ x_1 : ClkM,Hd x_1.ok/\(0 = 0/\True)/\(ownM (x_1.os 0) = ownM (x.a.c.os 0)/\True)/\∀ y : Unit,True->cP (decide ((x.t : Int) ≥ (x_1.t : Int))) (∃ y_1 : Unit,True/\False) (∃ x_2 : ZChg,Hd True/\(XH_w66/\True)/\XH_w25 x_2 x/\∀ y_1 : Unit,True->∃ x_3 : ClkM,Hd x_3.ok/\(0 = 0/\True)/\(ownM (x_3.os 0) = ownM (x_1.os 0)/\True)/\∀ y_2 : Unit,True->cP (bne x_3.now x.e) (∃ y_3 : Unit,True/\False) (XH_w69/\I64 (1 : Int)/\∃ x_4 : ZChg,Hd (x_4.okE/\∃ i : Nat,∃ j : Nat,x_4.inP i j)/\(0 = 0/\XH_w66/\True)/\XH_w46 x_4 x/\∀ y_3 : Unit,True->∃ x_5 : ZChg,Hd x_5.okE/\(0 = 0/\XH_w66/\x_5.e = x.e/\True)/\XH_w63 x_5 x/\∀ y_4 : Unit,True->XH_w69/\1002<=281474976710656/\(AV.lit (Value.string x.v) = AV.lit (Value.string x.v)/\True)/\True/\∃ x_6 : ZBlk,Hd (x_6.may/\x_6.key.size < 1099511627776/\x_6.value.size < 1099511627776)/\XH_w53 x_6 x/\True/\(∀ y_5 : Unit,Hd (x_6.cls = 0)->(0 : Int)<=64/\(0<=64/\64<=64/\64<=64)/\XH_w48 x.k/\∃ x_7 : DevS,XH_w52 x_7/\XH_w43 x_7 x.k/\(ownM x_7.d.os = ownM x.a.d.os/\(x_7.b.N = 64/\XH_w51 x_7.b x_6)/\True)/\∀ y_6 : Unit,True->True/\∃ x_8 : Int,True/\(x_8 = x.c/\True)/\True/\∀ y_7 : Unit,True->(∃ s : Nat,Hd (s<=x.blk.spnN)/\True/\((s : Int) = 0/\True)/\XH_w44 x_6/\XH_w9 x/\XH_w9 x/\XH_w9 x/\XH_w1 x/\XH_w1 x/\XH_w1 x/\XH_w34/\(false = false/\True)/\XH_w1 x/\XH_w1 x/\XH_w1 x/\XH_w1 x/\XH_w31 x_1/\XH_w18 x.a/\XH_w59 x_4.a.l/\XH_w17/\XH_w55/\XH_w65 x_4.a.b/\XH_w60 x s x_3/\XH_w24 x x_4.a.p x_7)/\(∀ s : Nat,Hd (s<=x.blk.spnN)->cP (decide ((s : Int) < spn x_8)) (I64 ((x.k : Int) + (s : Int))/\∃ x_9 : ClkN,Hd (x_9.c.ok/\x_9.t < x_9.c.t)/\XH_w54 x_9 x s/\XH_w57 x_9.c x s/\∀ y_8 : Unit,True->True/\I64 ((s : Int) + 1)/\
 ∃ s_1 : Nat,Hd (s_1<=x.blk.spnN)/\x.blk.spnN - s_1 < x.blk.spnN - s/\((s_1 : Int) = (s : Int) + 1/\True)/\XH_w44 x_6/\XH_w9 x/\XH_w9 x/\XH_w9 x/\XH_w1 x/\XH_w1 x/\XH_w1 x/\XH_w33/\(false = false/\True)/\XH_w1 x/\XH_w1 x/\XH_w1 x/\XH_w1 x/\XH_w31 x_1/\XH_w18 x.a/\XH_w59 x_4.a.l/\XH_w17/\XH_w55/\XH_w65 x_4.a.b/\XH_w49 x s_1 x_9/\XH_w24 x x_4.a.p x_7) (XH_w13 x x_4.a x_7 s))/\True)/\∀ y_5 : Unit,Hd (x_6.cls ≠ (0 : Int))->(0 : Int)<=64/\(0<=64/\64<=64 * x_6.spnN/\64 * x_6.spnN<=64 * x_6.spnN)/\XH_w48 x.k/\∃ x_7 : DevS,XH_w52 x_7/\XH_w43 x_7 x.k/\(ownM x_7.d.os = ownM x.a.d.os/\(x_7.b.N = 64 * x_6.spnN/\XH_w51 x_7.b x_6)/\True)/\∀ y_6 : Unit,True->True/\∃ x_8 : Int,True/\(x_8 = x.c/\True)/\True/\∀ y_7 : Unit,True->(∃ s : Nat,Hd (s<=x.blk.spnN)/\True/\((s : Int) = 0/\True)/\XH_w41 x_6/\XH_w9 x/\XH_w9 x/\XH_w9 x/\XH_w1 x/\XH_w1 x/\XH_w1 x/\XH_w34/\(false = false/\True)/\XH_w1 x/\XH_w1 x/\XH_w1 x/\XH_w1 x/\XH_w31 x_1/\XH_w18 x.a/\XH_w59 x_4.a.l/\XH_w17/\XH_w55/\XH_w65 x_4.a.b/\XH_w60 x s x_3/\XH_w24 x x_4.a.p x_7)/\(∀ s : Nat,Hd (s<=x.blk.spnN)->cP (decide ((s : Int) < spn x_8)) (I64 ((x.k : Int) + (s : Int))/\∃ x_9 : ClkN,Hd (x_9.c.ok/\x_9.t < x_9.c.t)/\XH_w54 x_9 x s/\XH_w57 x_9.c x s/\∀ y_8 : Unit,True->True/\I64 ((s : Int) + 1)/\∃ s_1 : Nat,Hd (s_1<=x.blk.spnN)/\x.blk.spnN - s_1 < x.blk.spnN - s/\((s_1 : Int) = (s : Int) + 1/\True)/\XH_w41 x_6/\XH_w9 x/\XH_w9 x/\XH_w9 x/\XH_w1 x/\XH_w1 x/\XH_w1 x/\XH_w33/\(false = false/\True)/\XH_w1 x/\XH_w1 x/\XH_w1 x/\XH_w1 x/\XH_w31 x_1/\XH_w18 x.a/\XH_w59 x_4.a.l/\XH_w17/\XH_w55/\XH_w65 x_4.a.b/\XH_w49 x s_1 x_9/\XH_w24 x x_4.a.p x_7) (XH_w13 x x_4.a x_7 s))/\True))
theorem pubPVC_ok (x : ZChg) : pubPVC x = wpF Tryz.prog tblA6 tt (anChg x) 200 6 123 ((enqPub false).args x) (hO 12 (flatP 2 ((enqPub false).l x))) (fun v h' => endsPK 2 x v h' (enqPub false).outs) := by kernel_rfl
end Go.Proofs.YtpnhfbegboogbaaGreat
end
