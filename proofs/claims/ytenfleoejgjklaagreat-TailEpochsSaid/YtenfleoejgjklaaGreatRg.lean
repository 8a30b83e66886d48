import Derived.Test.YtenfleoejgjklaaGreatRa
import Derived.Test.YtenfleoejgjklaaGreatRb
import Derived.Test.YtenfleoejgjklaaGreatRc
import Derived.Test.YtenfleoejgjklaaGreatRd
import Derived.Test.YtenfleoejgjklaaGreatRe
import Derived.Test.YtenfleoejgjklaaGreatRf
import Derived.KernelRfl
set_option linter.unusedVariables false
set_option linter.unusedSimpArgs false
set_option linter.unnecessarySimpa false
section
namespace Go.Proofs.YtenfleoejgjklaaGreat
open Go SE
def dF : Prop := Value.slice none 0 0 = Value.slice none 0 0
def Uo (a : ZRe) : Prop := Hd ((a.p : Int) + 1 = spn a.b.cls/\a.f.line < 0)
def Ur (a : ZRe) : Prop := Hd ((a.p : Int) + 1 = spn a.b.cls/\0<=a.f.line)
def bH (a : Int) : Prop := a = a
def oM (a : Int) : Prop := dF/\dF/\bH a/\True
def N7 (a : ZFr) (b : ByteArray) : Prop := False/\(0 : Int) = 0/\dF/\bH a.code/\a.found = a.found/\a.ans = b/\oM a.aep
def iL (a : Nat) : Prop := (a : Int) = (a : Int)
def uY (a : Nat) : Prop := (a : Int) + 1 = (a : Int) + 1
def cZ : Prop := ByteArray.mk #[] = ByteArray.mk #[]
def ai3 (a : ZRe) (b : ByteArray) : Prop := bH a.f.epoch/\cZ/\false = false/\(0 : Int) = 0/\true = true/\cZ/\bH a.b.id/\bH a.b.ver/\iL a.ln/\bH a.b.cls/\bH a.f.line/\bH a.f.cls/\uY a.p/\N7 a.f b
def N8 (a : ZRe) (b : ByteArray) : Prop := dF/\(0 : Int) = 0/\dF/\bH a.f.code/\a.f.found = a.f.found/\a.b.value = b/\oM a.f.aep
def Us (a : ZRe) (b : ByteArray) : Prop := bH a.f.epoch/\cZ/\false = false/\(0 : Int) = 0/\true = true/\cZ/\bH a.b.id/\bH a.b.ver/\iL a.ln/\bH a.b.cls/\bH a.f.line/\bH a.f.cls/\uY a.p/\N8 a b
def Ut (a : ZRe) : Prop := 64 * a.p = 64 * a.p/\∀ q : Nat,q < 64 * a.p->[Value.int .u8 (a.b.enc q)] = [Value.int .u8 (a.b.enc q)]
def mV : Prop := True/\True/\True/\True
def oN : Prop := True/\True/\True/\True/\mV
def rP : Prop := True/\oN
def yX : Prop := True/\rP
def oO : Prop := True/\yX
def kX : Prop := 0 = 0/\mV
def kD (a : DevM) (b : DevM) : Prop := ownM a.os = ownM b.os
def yY (a : ZRe) (b : DevM) : Prop := (0 = 0/\oO)/\kX/\kD a.d b/\Ut a/\True
def bT (a : ByteArray) : Prop := a = a
def Ky (a : ZRe) : Prop := Hd ((a.p : Int) + 1 ≠ spn a.b.cls)
def abo (a : ZRe) (b : DevM) : Prop := (0 = 0/\oO)/\kX/\kD a.d b/\Ut a/\False/\True
def F5 (a : Int) : Prop := (AV.lit (Value.int .i64 a) = AV.lit (Value.int .i64 a)/\True)/\False
def Kz (a : ZRe) : Prop := a.f.found = a.f.found/\a.b.value = a.f.ans/\oM a.f.aep
def ai4 (a : ZRe) : Prop := bH a.f.epoch/\cZ/\false = false/\(0 : Int) = 0/\true = true/\cZ/\bH a.b.id/\bH a.b.ver/\iL a.ln/\bH a.b.cls/\bH a.f.line/\bH a.f.cls/\uY a.p/\dF/\(0 : Int) = 0/\dF/\a.f.code = 6/\Kz a
def jq (a : ZFr) : Prop := a.found = a.found/\bT a.ans/\oM a.aep
def ap2 (a : ZRe) (b : DevM) : Prop := cP (decide (a.f.line ≥ (0 : Int))) (F5 a.f.line) ((∃ y_2 : Unit,Ky a/\((5 : Int) = 5/\bT a.f.key/\bT a.f.value/\cZ/\dF/\(2 : Int) = 6/\bH a.f.epoch/\cZ/\false = false/\(0 : Int) = 0/\true = true/\cZ/\bH a.b.id/\bH a.b.ver/\iL a.ln/\bH a.b.cls/\bH a.f.line/\bH a.f.cls/\uY a.p/\False/\(0 : Int) = 0/\dF/\a.f.code = 6/\jq a.f)/\abo a b) ∨ (∃ y_2 : Unit,Uo a/\((5 : Int) = 5/\bT a.f.key/\bT a.f.value/\cZ/\dF/\(3 : Int) = 6/\ai4 a)/\yY a b) ∨ ∃ y_2 : Unit,Ur a/\((5 : Int) = 5/\bT a.f.key/\bT a.f.value/\cZ/\dF/\(5 : Int) = 6/\ai4 a)/\yY a b)
def ap3 (a : ZDe) (b : ZRe) (c : DevM) : Prop := ∀ y_1 : Unit,True->cP (BEq.beq a.id b.b.id) (cP (BEq.beq a.ver b.b.ver) (cP (decide (b.f.line < 0)) ((∃ y_2 : Unit,Ky b/\((5 : Int) = 5/\bT b.f.key/\bT b.f.value/\cZ/\dF/\(2 : Int) = 3/\ai3 b a.value)/\abo b c) ∨ (∃ y_2 : Unit,Uo b/\((5 : Int) = 5/\bT b.f.key/\bT b.f.value/\cZ/\dF/\(3 : Int) = 3/\Us b a.value)/\yY b c) ∨ ∃ y_2 : Unit,Ur b/\((5 : Int) = 5/\bT b.f.key/\bT b.f.value/\cZ/\dF/\(5 : Int) = 3/\Us b a.value)/\yY b c) ((∃ y_2 : Unit,Ky b/\((5 : Int) = 5/\bT b.f.key/\bT b.f.value/\cZ/\dF/\(2 : Int) = 5/\ai3 b a.value)/\abo b c) ∨ (∃ y_2 : Unit,Uo b/\((5 : Int) = 5/\bT b.f.key/\bT b.f.value/\cZ/\dF/\(3 : Int) = 5/\Us b a.value)/\yY b c) ∨ ∃ y_2 : Unit,Ur b/\((5 : Int) = 5/\bT b.f.key/\bT b.f.value/\cZ/\dF/\(5 : Int) = 5/\Us b a.value)/\yY b c)) (ap2 b c)) (ap2 b c)
def rQ (a : ZFr) : Prop := (0 : Int) = 0/\dF/\bH a.code/\jq a
def kS (a : ZFr) : Prop := dF/\rQ a
def kY (a : ZWr) (b : nD) : Prop := (0 = 0/\oO)/\kX/\ownM a.d'.os = ownM (DevM.os (b.d.store b.k b.a b.b.n (fun (q : Nat) => b.b.g (b.b.q + q))))/\True
def ai5 (a : ZWr) (b : nD) : Prop := Hd ((a.p : Int) + 1 ≠ spn a.c)/\((4 : Int) = 4/\bT a.f.key/\bT a.f.value/\cZ/\dF/\(4 : Int) = 5/\bH a.f.epoch/\cZ/\false = false/\(0 : Int) = 0/\a.f.had = a.f.had/\bT a.f.old.key/\bH a.f.old.id/\bH a.f.old.ver/\bH a.f.old.line/\bH a.f.old.cls/\iL a.ln/\bH a.c/\(a.p : Int) + 1 = 0/\kS a.f)/\kY a b
def ai6 (a : ZWr) (b : nD) : Prop := Hd ((a.p : Int) + 1 = spn a.c)/\((4 : Int) = 4/\bT a.f.key/\bT a.f.value/\cZ/\dF/\(5 : Int) = 4/\bH a.f.epoch/\cZ/\false = false/\(0 : Int) = 0/\a.f.had = a.f.had/\bT a.f.old.key/\bH a.f.old.id/\bH a.f.old.ver/\bH a.f.old.line/\bH a.f.old.cls/\iL a.ln/\bH a.c/\0 = (a.p : Int) + 1/\kS a.f)/\kY a b
def ai7 (a : ZWr) (b : nD) : Prop := Hd ((a.p : Int) + 1 ≠ spn a.c)/\((4 : Int) = 4/\bT a.f.key/\bT a.f.value/\cZ/\dF/\(4 : Int) = 4/\bH a.f.epoch/\cZ/\false = false/\(0 : Int) = 0/\a.f.had = a.f.had/\bT a.f.old.key/\bH a.f.old.id/\bH a.f.old.ver/\bH a.f.old.line/\bH a.f.old.cls/\iL a.ln/\bH a.c/\uY a.p/\kS a.f)/\kY a b
def F6 (a : ZWr) : Prop := bT a.f.key/\bT a.f.value/\cZ/\dF/\(5 : Int) = 5/\bH a.f.epoch/\cZ/\false = false/\(0 : Int) = 0/\a.f.had = a.f.had/\bT a.f.old.key/\bH a.f.old.id/\bH a.f.old.ver/\bH a.f.old.line/\bH a.f.old.cls/\iL a.ln/\bH a.c/\(0 : Int) = 0/\kS a.f
def ai8 (a : ZWr) (b : nD) : Prop := ∀ y : Unit,True->I64 ((a.p : Int) + 1)/\True/\I64 ((a.p : Int) + 1)/\cP (BEq.beq ((a.p : Int) + 1) (spn a.c)) ((∃ y_1 : Unit,ai5 a b) ∨ ∃ y_1 : Unit,Hd ((a.p : Int) + 1 = spn a.c)/\((4 : Int) = 4/\F6 a)/\kY a b) ((∃ y_1 : Unit,ai7 a b) ∨ ∃ y_1 : Unit,ai6 a b)
def yZ (a : DevM) (b : DevM) : Prop := (0 = 0/\oO)/\kX/\kD a b/\True
def N9 (a : DevM) (b : DevM) : Prop := (0 = 0/\oO)/\kX/\kD a b/\False/\True
def rU (a : Int) : Prop := Hd ((1 : Int) ≠ spn a)
def ai9 (a : ZRe) : Prop := bH a.f.epoch/\cZ/\false = false/\(0 : Int) = 0/\true = true/\cZ/\bH a.b.id/\bH a.b.ver/\iL a.ln/\bH a.b.cls/\bH a.f.line/\bH a.f.cls/\(1 : Int) = 1/\dF/\(0 : Int) = 0/\dF/\a.f.code = 6/\Kz a
def F7 (a : ZRe) : Prop := Hd (1 = spn a.b.cls/\a.f.line < 0)
def F8 (a : ZRe) : Prop := Hd (1 = spn a.b.cls/\0<=a.f.line)
def aja (a : ZRe) (b : DevM) : Prop := cP (decide (a.f.line ≥ (0 : Int))) (F5 a.f.line) ((∃ y_2 : Unit,rU a.b.cls/\((5 : Int) = 5/\bT a.f.key/\bT a.f.value/\cZ/\dF/\(2 : Int) = 6/\bH a.f.epoch/\cZ/\false = false/\(0 : Int) = 0/\true = true/\cZ/\bH a.b.id/\bH a.b.ver/\iL a.ln/\bH a.b.cls/\bH a.f.line/\bH a.f.cls/\(1 : Int) = 1/\False/\(0 : Int) = 0/\dF/\a.f.code = 6/\jq a.f)/\N9 a.d b) ∨ (∃ y_2 : Unit,F7 a/\((5 : Int) = 5/\bT a.f.key/\bT a.f.value/\cZ/\dF/\(3 : Int) = 6/\ai9 a)/\yZ a.d b) ∨ ∃ y_2 : Unit,F8 a/\((5 : Int) = 5/\bT a.f.key/\bT a.f.value/\cZ/\dF/\(5 : Int) = 6/\ai9 a)/\yZ a.d b)
def ajb (a : ZRe) : Prop := bH a.f.epoch/\cZ/\false = false/\(0 : Int) = 0/\true = true/\cZ/\bH a.b.id/\bH a.b.ver/\iL a.ln/\bH a.b.cls/\bH a.f.line/\bH a.f.cls/\uY a.p/\False/\(0 : Int) = 0/\dF/\bH a.f.code/\Kz a
def ajc (a : ZRe) (b : DevM) : Prop := (∃ y_1 : Unit,Uo a/\((5 : Int) = 5/\bT a.f.key/\bT a.f.value/\cZ/\dF/\(3 : Int) = 2/\ajb a)/\yY a b) ∨ ∃ y_1 : Unit,Ur a/\((5 : Int) = 5/\bT a.f.key/\bT a.f.value/\cZ/\dF/\(5 : Int) = 2/\ajb a)/\yY a b
def Uu (a : ZRe) (b : ByteArray) : Prop := bH a.f.epoch/\cZ/\false = false/\(0 : Int) = 0/\true = true/\cZ/\bH a.b.id/\bH a.b.ver/\iL a.ln/\bH a.b.cls/\bH a.f.line/\bH a.f.cls/\(1 : Int) = 1/\N8 a b
def F9 (a : ZFr) : Prop := cZ/\false = false/\(0 : Int) = 0/\a.had = a.had/\bT a.old.key/\bH a.old.id/\bH a.old.ver/\bH a.old.line/\bH a.old.cls/\bH a.line/\bH a.cls/\bH a.piece/\kS a
def KA (a : nD) (b : DevM) (c : Int) : Prop := kD a.d b/\(a.b.N = 64/\∀ q : Nat,q < a.b.N->[Value.int .u8 (a.b.g q)] = [Value.int .u8 (dN.jC (dN.mk c (0 : Int) (0 : Int) (0 : Int) (0 : Int) (ByteArray.mk #[]) (ByteArray.mk #[])) (fun (x_3 : Nat) => (0 : Int)) (Int.toNat (cpc c)) q)])/\True
def abp (a : ZFr) : Prop := bT a.key/\bT a.value/\cZ/\dF/\(7 : Int) = 7/\bH a.epoch/\cZ/\false = false/\(0 : Int) = 0/\a.had = a.had/\bT a.old.key/\bH a.old.id/\bH a.old.ver/\bH a.old.line/\bH a.old.cls/\bH a.line/\bH a.cls/\bH a.piece/\dF/\(0 : Int) = 0/\dF/\(5 : Int) = 7/\jq a
def qE : Prop := True/\True/\0 = 0/\0 = 0/\oN
def ajd (a : ZWr) (b : Nat) : Prop := (Nat.beq (List.length [Value.int .u8 (fG (ByteArray.extract a.f.value (Int.toNat (Ed (imax (28 + ((a.p : Int) - 1) * 63) (0 : Int)) (a.f.value.size : Int))) a.f.value.size) b)]) 1 && List.all [Value.int .u8 (fG (ByteArray.extract a.f.value (Int.toNat (Ed (imax (28 + ((a.p : Int) - 1) * 63) (0 : Int)) (a.f.value.size : Int))) a.f.value.size) b)] Value.oneCell') = true
def aje (a : ZRe) : Prop := bH a.f.epoch/\cZ/\false = false/\(0 : Int) = 0/\true = true/\cZ/\bH a.b.id/\bH a.b.ver/\iL a.ln/\bH a.b.cls/\bH a.f.line/\bH a.f.cls/\(1 : Int) = 1/\False/\(0 : Int) = 0/\dF/\bH a.f.code/\Kz a
def abq (a : ZWr) : Prop := bT a.f.key/\bT a.f.value/\cZ/\dF/\(4 : Int) = 5/\bH a.f.epoch/\cZ/\false = false/\(0 : Int) = 0/\a.f.had = a.f.had/\bT a.f.old.key/\bH a.f.old.id/\bH a.f.old.ver/\bH a.f.old.line/\bH a.f.old.cls/\iL a.ln/\bH a.c/\(1 : Int) = 0/\kS a.f
def abr (a : ZWr) : Prop := bT a.f.key/\bT a.f.value/\cZ/\dF/\(4 : Int) = 4/\bH a.f.epoch/\cZ/\false = false/\(0 : Int) = 0/\a.f.had = a.f.had/\bT a.f.old.key/\bH a.f.old.id/\bH a.f.old.ver/\bH a.f.old.line/\bH a.f.old.cls/\iL a.ln/\bH a.c/\(1 : Int) = 1/\kS a.f
def abt (a : ZWr) : Prop := bT a.f.key/\bT a.f.value/\cZ/\dF/\(5 : Int) = 4/\bH a.f.epoch/\cZ/\false = false/\(0 : Int) = 0/\a.f.had = a.f.had/\bT a.f.old.key/\bH a.f.old.id/\bH a.f.old.ver/\bH a.f.old.line/\bH a.f.old.cls/\iL a.ln/\bH a.c/\(0 : Int) = 1/\kS a.f
def abu (a : ZEn) : Prop := a.c.now = a.f.epoch/\cZ/\false = false/\(0 : Int) = 0/\a.f.had = a.f.had/\bT a.f.old.key/\bH a.f.old.id/\bH a.f.old.ver/\bH a.f.old.line/\bH a.f.old.cls/\bH a.f.line/\bH a.f.cls/\bH a.f.piece/\dF/\(0 : Int) = 0/\dF/\a.f.code = 7/\jq a.f
def ajf (a : ZRe) (b : ByteArray) : Prop := bH a.f.epoch/\cZ/\false = false/\(0 : Int) = 0/\true = true/\cZ/\bH a.b.id/\bH a.b.ver/\iL a.ln/\bH a.b.cls/\bH a.f.line/\bH a.f.cls/\(1 : Int) = 1/\N7 a.f b
def abv (a : ZFr) (b : Int) : Prop := a.epoch = b/\cZ/\false = false/\(0 : Int) = 0/\a.had = a.had/\bT a.old.key/\bH a.old.id/\bH a.old.ver/\bH a.old.line/\bH a.old.cls/\bH a.line/\bH a.cls/\bH a.piece/\dF/\(0 : Int) = 0/\dF/\5 = a.code/\jq a
def KC (a : ZLn) (b : ZLn) : Prop := (True/\True/\True/\True/\True/\True/\True/\kX)/\ownM a.os = ownM b.os/\True
def Gf (a : Nat) : Prop := AV.lit (Value.int .i64 (a : Int)) = AV.lit (Value.int .i64 (a : Int))
def BF (a : nD) : Prop := Hd (a.d.ok/\a.k < a.d.n/\a.b.ok/\a.a + a.b.n<=64)
def nR : Prop := True/\0 = 0/\yX
def BG (a : nD) : Prop := (a.a : Int) = 0/\(a.b.q = 0/\a.b.n = 64)/\True
def Uw (a : ZDe) : Prop := Hd (a.b.may/\a.value.size < 1099511627776/\∀ k : Nat,k < 64 * a.b.dA->a.g k = a.b.enc k)
def KF (a : ZFr) : Prop := a.found = a.found/\a.ans = ByteArray.mk #[]/\oM a.aep
def Gg (a : ZTk) : Prop := a.c (4 : Int) = ned (a.f.value.size : Int)
def KG (a : ZFr) : Prop := a.found = a.found/\emp = ByteArray.mk #[]/\oM a.aep
def abw (a : ZTk) : Prop := Hd (∀ i : Nat,i < a.p.n->a.p.cls i ≠ (-(1 : Int))/\a.p.full (a.c (4 : Int)) i)
def abx (a : ZTk) : Prop := Hd (∀ i : Nat,i < a.p.n->a.p.cls i ≠ (-(1 : Int))/\a.p.full (a.c (5 : Int)) i)
def BH (a : ClkM) : Prop := ownM (a.os 0) = ownM (a.os 0)/\True
def BI (a : ClkM) (b : ClkM) : Prop := ownM (a.os 0) = ownM (b.os 0)/\True
def aby (a : ZDe) (b : RH) : Prop := (64 * a.b.dA = 64/\∀ q : Nat,q < 64 * a.b.dA->[Value.int .u8 (a.g q)] = [Value.int .u8 (b.d.b (b.k * 193 + (0 + (q - 0))))])/\True
def abz (a : ZFr) : Prop := a.piece = 0/\dF/\(0 : Int) = 0/\dF/\4 = a.code/\a.found = a.found/\emp = a.ans/\oM a.aep
def abA (a : ZLv) (b : VQ) : Prop := (True/\True/\0 = 0/\rP)/\ownM (ZRd.os (a.r.put a.t (0 : Int))) = ownM (ZRd.os (b.r.put b.k (0 : Int)))/\True
def abB (a : kL) : Prop := Hd (spn a.c ≠ (0 : Int)/\∀ i : Nat,i < a.p.n->a.p.cls i ≠ (-(1 : Int))/\a.p.full a.c i)
def abC (a : ZFr) : Prop := bT a.key/\bT a.value/\cZ/\dF/\(7 : Int) = 7/\bH a.epoch/\F9 a
def rV (a : dw) (b : dw) : Prop := ownM a.os = ownM b.os/\True
def YE (a : Nat) : Prop := AV.lit (Value.int .i64 ((a : Int) + 1)) = AV.lit (Value.int .i64 ((a : Int) + 1))/\True
def Oa (x : ZEn) : Prop :=
 ((0 : Int)<=0/\(0 : Int)<=6)/\cP (decide ((x.f.value.size : Int) > (400 : Int))) (True/\((∃ y : Unit,Hd ((4 : Int) = 4/\400 < x.f.value.size)/\((4 : Int) = 4/\bT x.f.key/\bT x.f.value/\cZ/\dF/\(7 : Int) = 7/\bH x.f.epoch/\cZ/\false = false/\(0 : Int) = 0/\x.f.had = x.f.had/\bT x.f.old.key/\bH x.f.old.id/\bH x.f.old.ver/\bH x.f.old.line/\bH x.f.old.cls/\bH x.f.line/\bH x.f.cls/\bH x.f.piece/\dF/\(0 : Int) = 0/\dF/\(5 : Int) = 5/\jq x.f)/\qE/\ownM x.r.os = ownM x.r.os/\BH x.c) ∨ ∃ y : Unit,Hd ((4 : Int) = 4->x.f.value.size<=400)/\((4 : Int) = 4/\bT x.f.key/\bT x.f.value/\cZ/\dF/\(3 : Int) = 7/\x.c.now = x.f.epoch/\cZ/\false = false/\(0 : Int) = 0/\x.f.had = x.f.had/\bT x.f.old.key/\bH x.f.old.id/\bH x.f.old.ver/\bH x.f.old.line/\bH x.f.old.cls/\bH x.f.line/\bH x.f.cls/\bH x.f.piece/\dF/\(0 : Int) = 0/\dF/\x.f.code = 5/\jq x.f)/\qE/\ownM (ZRd.os (x.r.put x.t x.r.now)) = ownM x.r.os/\BH x.c)) (∃ x_1 : VQ,Hd (x_1.r.ok/\x_1.k < x_1.r.t)/\(0 = 0/\(x_1.k : Int) = (x.t : Int)/\True)/\(ownM x_1.r.os = ownM x.r.os/\True)/\(∀ y : Unit,Hd (x_1.r.has x_1.k = 0)->∃ x_2 : ClkM,Hd x_2.ok/\(0 = 0/\True)/\BI x_2 x.c/\∀ y_1 : Unit,True->True/\((∃ y_2 : Unit,Hd ((4 : Int) = 4/\400 < x.f.value.size)/\((4 : Int) = 4/\bT x.f.key/\bT x.f.value/\cZ/\dF/\(7 : Int) = 3/\abv x.f x_2.now)/\qE/\ownM x.r.os = ownM (ZRd.os (x_1.r.put x_1.k x_1.r.now))/\BI x.c x_2) ∨ ∃ y_2 : Unit,Hd ((4 : Int) = 4->x.f.value.size<=400)/\((4 : Int) = 4/\bT x.f.key/\bT x.f.value/\cZ/\dF/\(3 : Int) = 3/\x.c.now = x_2.now/\F9 x.f)/\
 qE/\ownM (ZRd.os (x.r.put x.t x.r.now)) = ownM (ZRd.os (x_1.r.put x_1.k x_1.r.now))/\BI x.c x_2))/\∀ y : Unit,Hd (x_1.r.has x_1.k ≠ (0 : Int))->True/\((∃ y_1 : Unit,Hd ((4 : Int) = 4/\400 < x.f.value.size)/\((4 : Int) = 4/\abp x.f)/\qE/\ownM x.r.os = ownM x_1.r.os/\BH x.c) ∨ ∃ y_1 : Unit,Hd ((4 : Int) = 4->x.f.value.size<=400)/\((4 : Int) = 4/\bT x.f.key/\bT x.f.value/\cZ/\dF/\(3 : Int) = 7/\abu x)/\qE/\ownM (ZRd.os (x.r.put x.t x.r.now)) = ownM x_1.r.os/\BH x.c))
theorem YF (x : ZEn) : Oa x = wpF Tryz.prog apY tt (noA x) 200 6 19 ((qB 4).args x) (hO 3 ((qB 4).os x)) (fun v h' => eH 3 x v h' (qB 4).outs) := by kernel_rfl
def Ob (x : ZEn) : Prop :=
 ((0 : Int)<=0/\(0 : Int)<=6)/\∃ x_1 : VQ,Hd (x_1.r.ok/\x_1.k < x_1.r.t)/\(0 = 0/\(x_1.k : Int) = (x.t : Int)/\True)/\(ownM x_1.r.os = ownM x.r.os/\True)/\(∀ y : Unit,Hd (x_1.r.has x_1.k = 0)->∃ x_2 : ClkM,Hd x_2.ok/\(0 = 0/\True)/\BI x_2 x.c/\∀ y_1 : Unit,True->True/\((∃ y_2 : Unit,Hd ((5 : Int) = 4/\400 < x.f.value.size)/\((5 : Int) = 5/\bT x.f.key/\bT x.f.value/\cZ/\dF/\(7 : Int) = 1/\abv x.f x_2.now)/\qE/\ownM x.r.os = ownM (ZRd.os (x_1.r.put x_1.k x_1.r.now))/\BI x.c x_2) ∨ ∃ y_2 : Unit,Hd ((5 : Int) = 4->x.f.value.size<=400)/\((5 : Int) = 5/\bT x.f.key/\bT x.f.value/\cZ/\dF/\(1 : Int) = 1/\x.c.now = x_2.now/\F9 x.f)/\qE/\ownM (ZRd.os (x.r.put x.t x.r.now)) = ownM (ZRd.os (x_1.r.put x_1.k x_1.r.now))/\BI x.c x_2))/\∀ y : Unit,Hd (x_1.r.has x_1.k ≠ (0 : Int))->True/\((∃ y_1 : Unit,Hd ((5 : Int) = 4/\400 < x.f.value.size)/\((5 : Int) = 5/\abp x.f)/\qE/\ownM x.r.os = ownM x_1.r.os/\BH x.c) ∨ ∃ y_1 : Unit,Hd ((5 : Int) = 4->x.f.value.size<=400)/\((5 : Int) = 5/\bT x.f.key/\bT x.f.value/\cZ/\dF/\(1 : Int) = 7/\abu x)/\qE/\ownM (ZRd.os (x.r.put x.t x.r.now)) = ownM x_1.r.os/\BH x.c)
theorem YG (x : ZEn) : Ob x = wpF Tryz.prog apY tt (noA x) 200 6 19 ((qB 5).args x) (hO 3 ((qB 5).os x)) (fun v h' => eH 3 x v h' (qB 5).outs) := by kernel_rfl
def Gh (x : ZFi) : Prop :=
 ((0 : Int)<=1/\(0 : Int)<=5)/\∃ x_1 : ZLn,Hd x_1.ok/\(0 = 0/\True)/\(ownM x_1.os = ownM x.l.os/\True)/\∀ y : Unit,True->(AV.agg [AV.lit (Value.string x_1.head.key),AV.lit (Value.int .u64 x_1.head.id),AV.lit (Value.int .u64 x_1.head.ver),AV.lit (Value.int .i64 x_1.head.line),AV.lit (Value.int .i64 x_1.head.cls)] = AV.agg [AV.lit (Value.string x_1.head.key),AV.lit (Value.int .u64 x_1.head.id),AV.lit (Value.int .u64 x_1.head.ver),AV.lit (Value.int .i64 x_1.head.line),AV.lit (Value.int .i64 x_1.head.cls)]/\True)/\True/\cP (Bool.not (decide (x_1.n ≠ 0))) (cP (decide (x.f.line ≥ (0 : Int))) (F5 x.f.line) ((∃ y_1 : Unit,Hd (x.l.n = 0)/\((5 : Int) = 5/\bT x.f.key/\bT x.f.value/\cZ/\dF/\(6 : Int) = 6/\bH x.f.epoch/\cZ/\false = false/\(0 : Int) = 0/\false = decide (x_1.n ≠ 0)/\ByteArray.mk #[] = x_1.head.key/\0 = x_1.head.id/\0 = x_1.head.ver/\0 = x_1.head.line/\0 = x_1.head.cls/\bH x.f.line/\bH x.f.cls/\bH x.f.piece/\kS x.f)/\KC x.l x_1) ∨ ∃ y_1 : Unit,Hd (x.l.n ≠ 0)/\((5 : Int) = 5/\bT x.f.key/\bT x.f.value/\cZ/\dF/\(2 : Int) = 6/\bH x.f.epoch/\cZ/\false = false/\(0 : Int) = 0/\true = decide (x_1.n ≠ 0)/\x.l.head.key = x_1.head.key/\x.l.head.id = x_1.head.id/\x.l.head.ver = x_1.head.ver/\x.l.head.line = x_1.head.line/\x.l.head.cls = x_1.head.cls/\bH x.f.line/\bH x.f.cls/\0 = x.f.piece/\kS x.f)/\KC x.l x_1)) ((∃ y_1 : Unit,Hd (x.l.n = 0)/\((5 : Int) = 5/\bT x.f.key/\bT x.f.value/\cZ/\dF/\(6 : Int) = 2/\bH x.f.epoch/\cZ/\false = false/\(0 : Int) = 0/\false = decide (x_1.n ≠ 0)/\ByteArray.mk #[] = x_1.head.key/\0 = x_1.head.id/\0 = x_1.head.ver/\0 = x_1.head.line/\0 = x_1.head.cls/\
 bH x.f.line/\bH x.f.cls/\x.f.piece = 0/\kS x.f)/\KC x.l x_1) ∨ ∃ y_1 : Unit,Hd (x.l.n ≠ 0)/\((5 : Int) = 5/\bT x.f.key/\bT x.f.value/\cZ/\dF/\(2 : Int) = 2/\bH x.f.epoch/\cZ/\false = false/\(0 : Int) = 0/\true = decide (x_1.n ≠ 0)/\x.l.head.key = x_1.head.key/\x.l.head.id = x_1.head.id/\x.l.head.ver = x_1.head.ver/\x.l.head.line = x_1.head.line/\x.l.head.cls = x_1.head.cls/\bH x.f.line/\bH x.f.cls/\(0 : Int) = 0/\kS x.f)/\KC x.l x_1)
theorem KH (x : ZFi) : Gh x = wpF Tryz.prog arN tt (noA x) 200 6 19 (YC.args x) (hO 2 (YC.os x)) (fun v h' => eH 2 x v h' YC.outs) := by kernel_rfl
def YH (x : ZTk) : Prop :=
 ((0 : Int)<=3/\(0 : Int)<=3)/\(AV.ptr 0 0 = AV.ptr 0 0/\True)/\∃ x_1 : kL,Hd x_1.p.ok/\(0 = 0/\x_1.c = ned (x.f.value.size : Int)/\True)/\rV x_1.p x.p/\(∀ y : Unit,Hd (spn x_1.c = 0)->True/\((∃ y_1 : Unit,abw x/\((4 : Int) = 4/\bT x.f.key/\bT x.f.value/\cZ/\dF/\(6 : Int) = 6/\bH x.f.epoch/\cZ/\false = false/\(0 : Int) = 0/\x.f.had = x.f.had/\bT x.f.old.key/\bH x.f.old.id/\bH x.f.old.ver/\bH x.f.old.line/\bH x.f.old.cls/\bH x.f.line/\Gg x/\bH x.f.piece/\dF/\(0 : Int) = 0/\dF/\(4 : Int) = 1/\KG x.f)/\nR/\rV x.p x_1.p) ∨ ∃ y_1 : Prod Nat Nat,Hd (x.p.takes (x.c (4 : Int)) y_1.1 y_1.2)/\((4 : Int) = 4/\bT x.f.key/\bT x.f.value/\cZ/\dF/\(4 : Int) = 6/\bH x.f.epoch/\cZ/\false = false/\(0 : Int) = 0/\x.f.had = x.f.had/\bT x.f.old.key/\bH x.f.old.id/\bH x.f.old.ver/\bH x.f.old.line/\bH x.f.old.cls/\2 + (y_1.1 : Int) * 8 + (y_1.2 : Int) * spn (x.c (4 : Int)) = x.f.line/\Gg x/\0 = x.f.piece/\dF/\(0 : Int) = 0/\dF/\x.f.code = 1/\KF x.f)/\nR/\ownM (dw.os (x.p.take (x.c (4 : Int)) y_1.1 y_1.2)) = ownM x_1.p.os/\True))/\(∀ y : Unit,abB x_1->True/\((∃ y_1 : Unit,abw x/\((4 : Int) = 4/\bT x.f.key/\bT x.f.value/\cZ/\dF/\(6 : Int) = 6/\bH x.f.epoch/\cZ/\false = false/\(0 : Int) = 0/\x.f.had = x.f.had/\bT x.f.old.key/\bH x.f.old.id/\bH x.f.old.ver/\bH x.f.old.line/\bH x.f.old.cls/\bH x.f.line/\Gg x/\bH x.f.piece/\dF/\(0 : Int) = 0/\dF/\(4 : Int) = 4/\KG x.f)/\nR/\rV x.p x_1.p) ∨ ∃ y_1 : Prod Nat Nat,Hd (x.p.takes (x.c (4 : Int)) y_1.1 y_1.2)/\((4 : Int) = 4/\
 bT x.f.key/\bT x.f.value/\cZ/\dF/\(4 : Int) = 6/\bH x.f.epoch/\cZ/\false = false/\(0 : Int) = 0/\x.f.had = x.f.had/\bT x.f.old.key/\bH x.f.old.id/\bH x.f.old.ver/\bH x.f.old.line/\bH x.f.old.cls/\2 + (y_1.1 : Int) * 8 + (y_1.2 : Int) * spn (x.c (4 : Int)) = x.f.line/\Gg x/\0 = x.f.piece/\dF/\(0 : Int) = 0/\dF/\x.f.code = 4/\KF x.f)/\nR/\ownM (dw.os (x.p.take (x.c (4 : Int)) y_1.1 y_1.2)) = ownM x_1.p.os/\True))/\∀ y : Prod Nat Nat,Hd (spn x_1.c ≠ (0 : Int)/\x_1.p.takes x_1.c y.1 y.2)->True/\((∃ y_1 : Unit,abw x/\((4 : Int) = 4/\bT x.f.key/\bT x.f.value/\cZ/\dF/\(6 : Int) = 4/\bH x.f.epoch/\cZ/\false = false/\(0 : Int) = 0/\x.f.had = x.f.had/\bT x.f.old.key/\bH x.f.old.id/\bH x.f.old.ver/\bH x.f.old.line/\bH x.f.old.cls/\x.f.line = 2 + (y.1 : Int) * 8 + (y.2 : Int) * spn x_1.c/\Gg x/\abz x.f)/\nR/\ownM x.p.os = ownM (dw.os (x_1.p.take x_1.c y.1 y.2))/\True) ∨ ∃ y_1 : Prod Nat Nat,Hd (x.p.takes (x.c (4 : Int)) y_1.1 y_1.2)/\((4 : Int) = 4/\bT x.f.key/\bT x.f.value/\cZ/\dF/\(4 : Int) = 4/\bH x.f.epoch/\cZ/\false = false/\(0 : Int) = 0/\x.f.had = x.f.had/\bT x.f.old.key/\bH x.f.old.id/\bH x.f.old.ver/\bH x.f.old.line/\bH x.f.old.cls/\2 + (y_1.1 : Int) * 8 + (y_1.2 : Int) * spn (x.c (4 : Int)) = 2 + (y.1 : Int) * 8 + (y.2 : Int) * spn x_1.c/\Gg x/\(0 : Int) = 0/\kS x.f)/\nR/\ownM (dw.os (x.p.take (x.c (4 : Int)) y_1.1 y_1.2)) = ownM (dw.os (x_1.p.take x_1.c y.1 y.2))/\True)
theorem aeM (x : ZTk) : YH x = wpF Tryz.prog apZ tt (noA x) 200 6 19 ((CX 4).args x) (hO 2 ((CX 4).os x)) (fun v h' => eH 2 x v h' (CX 4).outs) := by kernel_rfl
def YI (x : ZTk) : Prop :=
 ((0 : Int)<=3/\(0 : Int)<=3)/\(AV.ptr 0 0 = AV.ptr 0 0/\True)/\∃ x_1 : kL,Hd x_1.p.ok/\(0 = 0/\x_1.c = 0/\True)/\rV x_1.p x.p/\(∀ y : Unit,Hd (spn x_1.c = 0)->True/\((∃ y_1 : Unit,abx x/\((5 : Int) = 5/\bT x.f.key/\bT x.f.value/\cZ/\dF/\(6 : Int) = 6/\bH x.f.epoch/\cZ/\false = false/\(0 : Int) = 0/\x.f.had = x.f.had/\bT x.f.old.key/\bH x.f.old.id/\bH x.f.old.ver/\bH x.f.old.line/\bH x.f.old.cls/\bH x.f.line/\x.c (5 : Int) = 0/\bH x.f.piece/\dF/\(0 : Int) = 0/\dF/\(4 : Int) = 1/\KG x.f)/\nR/\rV x.p x_1.p) ∨ ∃ y_1 : Prod Nat Nat,Hd (x.p.takes (x.c (5 : Int)) y_1.1 y_1.2)/\((5 : Int) = 5/\bT x.f.key/\bT x.f.value/\cZ/\dF/\(4 : Int) = 6/\bH x.f.epoch/\cZ/\false = false/\(0 : Int) = 0/\x.f.had = x.f.had/\bT x.f.old.key/\bH x.f.old.id/\bH x.f.old.ver/\bH x.f.old.line/\bH x.f.old.cls/\2 + (y_1.1 : Int) * 8 + (y_1.2 : Int) * spn (x.c (5 : Int)) = x.f.line/\x.c (5 : Int) = 0/\0 = x.f.piece/\dF/\(0 : Int) = 0/\dF/\x.f.code = 1/\KF x.f)/\nR/\ownM (dw.os (x.p.take (x.c (5 : Int)) y_1.1 y_1.2)) = ownM x_1.p.os/\True))/\(∀ y : Unit,abB x_1->True/\((∃ y_1 : Unit,abx x/\((5 : Int) = 5/\bT x.f.key/\bT x.f.value/\cZ/\dF/\(6 : Int) = 6/\bH x.f.epoch/\cZ/\false = false/\(0 : Int) = 0/\x.f.had = x.f.had/\bT x.f.old.key/\bH x.f.old.id/\bH x.f.old.ver/\bH x.f.old.line/\bH x.f.old.cls/\bH x.f.line/\x.c (5 : Int) = 0/\bH x.f.piece/\dF/\(0 : Int) = 0/\dF/\(4 : Int) = 4/\KG x.f)/\nR/\rV x.p x_1.p) ∨ ∃ y_1 : Prod Nat Nat,Hd (x.p.takes (x.c (5 : Int)) y_1.1 y_1.2)/\((5 : Int) = 5/\
 bT x.f.key/\bT x.f.value/\cZ/\dF/\(4 : Int) = 6/\bH x.f.epoch/\cZ/\false = false/\(0 : Int) = 0/\x.f.had = x.f.had/\bT x.f.old.key/\bH x.f.old.id/\bH x.f.old.ver/\bH x.f.old.line/\bH x.f.old.cls/\2 + (y_1.1 : Int) * 8 + (y_1.2 : Int) * spn (x.c (5 : Int)) = x.f.line/\x.c (5 : Int) = 0/\0 = x.f.piece/\dF/\(0 : Int) = 0/\dF/\x.f.code = 4/\KF x.f)/\nR/\ownM (dw.os (x.p.take (x.c (5 : Int)) y_1.1 y_1.2)) = ownM x_1.p.os/\True))/\∀ y : Prod Nat Nat,Hd (spn x_1.c ≠ (0 : Int)/\x_1.p.takes x_1.c y.1 y.2)->True/\((∃ y_1 : Unit,abx x/\((5 : Int) = 5/\bT x.f.key/\bT x.f.value/\cZ/\dF/\(6 : Int) = 4/\bH x.f.epoch/\cZ/\false = false/\(0 : Int) = 0/\x.f.had = x.f.had/\bT x.f.old.key/\bH x.f.old.id/\bH x.f.old.ver/\bH x.f.old.line/\bH x.f.old.cls/\x.f.line = 2 + (y.1 : Int) * 8 + (y.2 : Int) * spn x_1.c/\x.c (5 : Int) = 0/\abz x.f)/\nR/\ownM x.p.os = ownM (dw.os (x_1.p.take x_1.c y.1 y.2))/\True) ∨ ∃ y_1 : Prod Nat Nat,Hd (x.p.takes (x.c (5 : Int)) y_1.1 y_1.2)/\((5 : Int) = 5/\bT x.f.key/\bT x.f.value/\cZ/\dF/\(4 : Int) = 4/\bH x.f.epoch/\cZ/\false = false/\(0 : Int) = 0/\x.f.had = x.f.had/\bT x.f.old.key/\bH x.f.old.id/\bH x.f.old.ver/\bH x.f.old.line/\bH x.f.old.cls/\2 + (y_1.1 : Int) * 8 + (y_1.2 : Int) * spn (x.c (5 : Int)) = 2 + (y.1 : Int) * 8 + (y.2 : Int) * spn x_1.c/\x.c (5 : Int) = 0/\(0 : Int) = 0/\kS x.f)/\nR/\ownM (dw.os (x.p.take (x.c (5 : Int)) y_1.1 y_1.2)) = ownM (dw.os (x_1.p.take x_1.c y.1 y.2))/\True)
theorem aeN (x : ZTk) : YI x = wpF Tryz.prog apZ tt (noA x) 200 6 19 ((CX 5).args x) (hO 2 ((CX 5).os x)) (fun v h' => eH 2 x v h' (CX 5).outs) := by kernel_rfl
def Oc (x : ZLv) : Prop :=
 ((0 : Int)<=6/\(0 : Int)<=0)/\∃ x_1 : VQ,Hd (x_1.r.ok/\x_1.k < x_1.r.t)/\(0 = 0/\(x_1.k : Int) = (x.t : Int)/\True)/\(ownM x_1.r.os = ownM x.r.os/\True)/\∀ y : Unit,True->True/\∃ y_1 : Unit,True/\((4 : Int) = 4/\abC x.f)/\abA x x_1
theorem YJ (x : ZLv) : Oc x = wpF Tryz.prog ap0 tt (noA x) 200 6 19 ((qC 4).args x) (hO 2 ((qC 4).os x)) (fun v h' => eH 2 x v h' (qC 4).outs) := by kernel_rfl
def Oe (x : ZLv) : Prop :=
 ((0 : Int)<=6/\(0 : Int)<=0)/\∃ x_1 : VQ,Hd (x_1.r.ok/\x_1.k < x_1.r.t)/\(0 = 0/\(x_1.k : Int) = (x.t : Int)/\True)/\(ownM x_1.r.os = ownM x.r.os/\True)/\∀ y : Unit,True->True/\∃ y_1 : Unit,True/\((5 : Int) = 5/\abC x.f)/\abA x x_1
theorem YK (x : ZLv) : Oe x = wpF Tryz.prog ap0 tt (noA x) 200 6 19 ((qC 5).args x) (hO 2 ((qC 5).os x)) (fun v h' => eH 2 x v h' (qC 5).outs) := by kernel_rfl
def Gi (x : ZWr) : Prop :=
 ((0 : Int)<=4/\(0 : Int)<=2)/\∃ x_1 : Int,Hd (0<=x_1/\x_1<=3)/\(x_1 = x.c/\True)/\True/\∀ y : Unit,True->∃ x_2 : nD,BF x_2/\(0 = 0/\(x_2.k : Int) = (x.ln : Int)/\BG x_2)/\KA x_2 x.d x_1/\∀ y_1 : Unit,True->I64 (1 : Int)/\True/\I64 (1 : Int)/\cP (BEq.beq (1 : Int) (spn x.c)) ((∃ y_2 : Unit,rU x.c/\((4 : Int) = 4/\abq x)/\kY x x_2) ∨ ∃ y_2 : Unit,Hd (1 = spn x.c)/\((4 : Int) = 4/\F6 x)/\kY x x_2) ((∃ y_2 : Unit,rU x.c/\((4 : Int) = 4/\abr x)/\kY x x_2) ∨ ∃ y_2 : Unit,Hd (1 = spn x.c)/\((4 : Int) = 4/\abt x)/\kY x x_2)
theorem Ux (x : ZWr) : Gi x = wpF Tryz.prog amD tt (noA x) 200 6 19 ((kR 4).args x) (hO 3 ((kR 4).os x)) (fun v h' => eH 3 x v h' (kR 4).outs) := by kernel_rfl
def Gj (x : ZWr) : Prop :=
 ((0 : Int)<=4/\(0 : Int)<=2)/\∃ x_1 : Int,Hd (0<=x_1/\x_1<=3)/\(x_1 = x.c/\True)/\True/\∀ y : Unit,True->∃ x_2 : nD,BF x_2/\(0 = 0/\(x_2.k : Int) = (x.ln : Int)/\BG x_2)/\KA x_2 x.d x_1/\∀ y_1 : Unit,True->I64 (1 : Int)/\True/\I64 (1 : Int)/\cP (BEq.beq (1 : Int) (spn x.c)) ((∃ y_2 : Unit,rU x.c/\((5 : Int) = 5/\abq x)/\kY x x_2) ∨ ∃ y_2 : Unit,Hd (1 = spn x.c)/\((5 : Int) = 5/\F6 x)/\kY x x_2) ((∃ y_2 : Unit,rU x.c/\((5 : Int) = 5/\abr x)/\kY x x_2) ∨ ∃ y_2 : Unit,Hd (1 = spn x.c)/\((5 : Int) = 5/\abt x)/\kY x x_2)
theorem Uy (x : ZWr) : Gj x = wpF Tryz.prog amD tt (noA x) 200 6 19 ((kR 5).args x) (hO 3 ((kR 5).os x)) (fun v h' => eH 3 x v h' (kR 5).outs) := by kernel_rfl
def Gl (x : ZWr) : Prop :=
 ((0 : Int)<=4/\(0 : Int)<=2)/\cP (BEq.beq (x.p : Int) (0 : Int)) (∃ x_1 : Int,Hd (0<=x_1/\x_1<=3)/\(x_1 = x.c/\True)/\True/\∀ y : Unit,True->∃ x_2 : nD,BF x_2/\(0 = 0/\(x_2.k : Int) = (x.ln : Int)/\BG x_2)/\KA x_2 x.d x_1/\∀ y_1 : Unit,True->I64 ((x.p : Int) + 1)/\True/\I64 ((x.p : Int) + 1)/\cP (BEq.beq ((x.p : Int) + 1) (spn x.c)) ((∃ y_2 : Unit,ai5 x x_2) ∨ ∃ y_2 : Unit,Hd ((x.p : Int) + 1 = spn x.c)/\((4 : Int) = 4/\F6 x)/\kY x x_2) ((∃ y_2 : Unit,ai7 x x_2) ∨ ∃ y_2 : Unit,ai6 x x_2)) (((0 : Int)<=64/\(0 : Int)<=0/\(0 : Int)<=281474976710592/\(0 : Int)<=4611686018427387839)/\((0 : Int)<=0/\(0 : Int)<=63)/\0 < 64/\I64 ((x.p : Int) - 1)/\I64 (((x.p : Int) - 1) * 63)/\I64 (28 + ((x.p : Int) - 1) * 63)/\(0 : Int)<=1/\(1<=64/\64<=64/\64<=64)/\0<=Ed (imax (28 + ((x.p : Int) - 1) * 63) (0 : Int)) (x.f.value.size : Int)/\(Int.toNat (Ed (imax (28 + ((x.p : Int) - 1) * 63) (0 : Int)) (x.f.value.size : Int))<=x.f.value.size/\x.f.value.size<=x.f.value.size/\x.f.value.size<=x.f.value.size)/\64<=64/\cP (Nat.ble (ByteArray.size (ByteArray.extract x.f.value (Int.toNat (Ed (imax (28 + ((x.p : Int) - 1) * 63) (0 : Int)) (x.f.value.size : Int))) x.f.value.size)) 63) ((∀ k : Nat,k < ByteArray.size (ByteArray.extract x.f.value (Int.toNat (Ed (imax (28 + ((x.p : Int) - 1) * 63) (0 : Int)) (x.f.value.size : Int))) x.f.value.size)->ajd x k)/\True/\I64 ((x.ln : Int) + (x.p : Int))/\∃ x_1 : nD,BF x_1/\(0 = 0/\(x_1.k : Int) = (x.ln : Int) + (x.p : Int)/\BG x_1)/\(kD x_1.d x.d/\(x_1.b.N = 64/\
 ∀ q : Nat,q < x_1.b.N->[Value.int .u8 (x_1.b.g q)] = Cs.eff (fun (p : Nat) => cond (Nat.ble 1 p && Nat.blt p (1 + ByteArray.size (ByteArray.extract x.f.value (Int.toNat (Ed (imax (28 + ((x.p : Int) - 1) * 63) (0 : Int)) (x.f.value.size : Int))) x.f.value.size))) [Value.int .u8 (fG (ByteArray.extract x.f.value (Int.toNat (Ed (imax (28 + ((x.p : Int) - 1) * 63) (0 : Int)) (x.f.value.size : Int))) x.f.value.size) (p - 1))] (Cs.eff (fun (x_2 : Nat) => [Value.int .u8 0]) [(0,[Value.int .u8 2])] p)) [] q)/\True)/\ai8 x x_1) ((∀ k : Nat,k < 63->ajd x k)/\True/\I64 ((x.ln : Int) + (x.p : Int))/\∃ x_1 : nD,BF x_1/\(0 = 0/\(x_1.k : Int) = (x.ln : Int) + (x.p : Int)/\BG x_1)/\(kD x_1.d x.d/\(x_1.b.N = 64/\∀ q : Nat,q < x_1.b.N->[Value.int .u8 (x_1.b.g q)] = Cs.eff (fun (p : Nat) => cond (Nat.ble 1 p && Nat.blt p 64) [Value.int .u8 (fG (ByteArray.extract x.f.value (Int.toNat (Ed (imax (28 + ((x.p : Int) - 1) * 63) (0 : Int)) (x.f.value.size : Int))) x.f.value.size) (p - 1))] (Cs.eff (fun (x_2 : Nat) => [Value.int .u8 0]) [(0,[Value.int .u8 2])] p)) [] q)/\True)/\ai8 x x_1))
theorem Uz (x : ZWr) : Gl x = wpF Tryz.prog amD tt (noA x) 200 6 19 (zW.args x) (hO 3 (zW.os x)) (fun v h' => eH 3 x v h' zW.outs) := by kernel_rfl
def YL (x : ZRe) : Prop :=
 ((0 : Int)<=2/\(0 : Int)<=4)/\I64 ((x.ln : Int) + 0)/\(AV.lit (Value.int .i64 0) = AV.lit (Value.int .i64 0)/\Gf x.ln/\True)/\∃ x_1 : RH,Hd (x_1.d.ok/\x_1.k < x_1.d.n)/\(0 = 0/\(x_1.k : Int) = (x.ln : Int) + 0/\True)/\(kD x_1.d x.d/\True)/\∀ y : Unit,True->True/\64<=64/\(2 * (0 + 64) + 1000) * 1<=281474976710656/\I64 (1 : Int)/\(AV.lit (Value.int .i64 1) = AV.lit (Value.int .i64 1)/\True)/\cP (Bool.not (BEq.beq (1 : Int) (spn x.b.cls))) ((∃ y_1 : Unit,rU x.b.cls/\((5 : Int) = 5/\bT x.f.key/\bT x.f.value/\cZ/\dF/\(2 : Int) = 2/\bH x.f.epoch/\cZ/\false = false/\(0 : Int) = 0/\true = true/\cZ/\bH x.b.id/\bH x.b.ver/\iL x.ln/\bH x.b.cls/\bH x.f.line/\bH x.f.cls/\(1 : Int) = 1/\(0 = 0/\64 = 64)/\rQ x.f)/\(0 = 0/\oO)/\kX/\kD x.d x_1.d/\(64 = 64/\∀ q : Nat,q < 64->[Value.int .u8 (x.b.enc q)] = [Value.int .u8 (x_1.d.b (x_1.k * 193 + (0 + (q - 0))))])/\True) ∨ (∃ y_1 : Unit,F7 x/\((5 : Int) = 5/\bT x.f.key/\bT x.f.value/\cZ/\dF/\(3 : Int) = 2/\aje x)/\yZ x.d x_1.d) ∨ ∃ y_1 : Unit,F8 x/\((5 : Int) = 5/\bT x.f.key/\bT x.f.value/\cZ/\dF/\(5 : Int) = 2/\aje x)/\yZ x.d x_1.d) (∃ x_2 : ZDe,Uw x_2/\((0 = 0/\64 * x_2.b.dA = 64)/\True)/\aby x_2 x_1/\∀ y_1 : Unit,True->cP (BEq.beq x_2.id x.b.id) (cP (BEq.beq x_2.ver x.b.ver) (cP (decide (x.f.line < 0)) ((∃ y_2 : Unit,rU x.b.cls/\((5 : Int) = 5/\bT x.f.key/\bT x.f.value/\cZ/\dF/\(2 : Int) = 3/\ajf x x_2.value)/\N9 x.d x_1.d) ∨ (∃ y_2 : Unit,F7 x/\((5 : Int) = 5/\bT x.f.key/\bT x.f.value/\cZ/\dF/\(3 : Int) = 3/\Uu x x_2.value)/\
 yZ x.d x_1.d) ∨ ∃ y_2 : Unit,F8 x/\((5 : Int) = 5/\bT x.f.key/\bT x.f.value/\cZ/\dF/\(5 : Int) = 3/\Uu x x_2.value)/\yZ x.d x_1.d) ((∃ y_2 : Unit,rU x.b.cls/\((5 : Int) = 5/\bT x.f.key/\bT x.f.value/\cZ/\dF/\(2 : Int) = 5/\ajf x x_2.value)/\N9 x.d x_1.d) ∨ (∃ y_2 : Unit,F7 x/\((5 : Int) = 5/\bT x.f.key/\bT x.f.value/\cZ/\dF/\(3 : Int) = 5/\Uu x x_2.value)/\yZ x.d x_1.d) ∨ ∃ y_2 : Unit,F8 x/\((5 : Int) = 5/\bT x.f.key/\bT x.f.value/\cZ/\dF/\(5 : Int) = 5/\Uu x x_2.value)/\yZ x.d x_1.d)) (aja x x_1.d)) (aja x x_1.d))
theorem aeO (x : ZRe) : YL x = wpF Tryz.prog ap1 tt (noA x) 200 6 19 (Kv.args x) (hO 3 (Kv.os x)) (fun v h' => eH 3 x v h' Kv.outs) := by kernel_rfl
def YM (x : ZRe) : Prop :=
 0 + 64 * x.p<=64 * x.p/\cP (Nat.beq (64 * x.p) 0) (((0 : Int)<=2/\(0 : Int)<=4)/\I64 ((x.ln : Int) + (x.p : Int))/\(Gf x.p/\Gf x.ln/\True)/\∃ x_1 : RH,Hd (x_1.d.ok/\x_1.k < x_1.d.n)/\(0 = 0/\(x_1.k : Int) = (x.ln : Int) + (x.p : Int)/\True)/\(kD x_1.d x.d/\True)/\∀ y : Unit,True->True/\64<=64/\(2 * (0 + 64) + 1000) * 1<=281474976710656/\I64 ((x.p : Int) + 1)/\YE x.p/\cP (Bool.not (BEq.beq ((x.p : Int) + 1) (spn x.b.cls))) ((∃ y_1 : Unit,Ky x/\((5 : Int) = 5/\bT x.f.key/\bT x.f.value/\cZ/\dF/\(2 : Int) = 2/\bH x.f.epoch/\cZ/\false = false/\(0 : Int) = 0/\true = true/\cZ/\bH x.b.id/\bH x.b.ver/\iL x.ln/\bH x.b.cls/\bH x.f.line/\bH x.f.cls/\uY x.p/\(0 = 0/\64 * (x.p + 1) = 64)/\rQ x.f)/\(0 = 0/\oO)/\kX/\kD x.d x_1.d/\Ut x/\(64 * (x.p + 1) = 64/\∀ q : Nat,q < 64 * (x.p + 1)->[Value.int .u8 (x.b.enc q)] = [Value.int .u8 (x_1.d.b (x_1.k * 193 + (0 + (q - 0))))])/\True) ∨ ajc x x_1.d) (∃ x_2 : ZDe,Uw x_2/\((0 = 0/\64 * x_2.b.dA = 64)/\True)/\aby x_2 x_1/\ap3 x_2 x x_1.d)) ((2 * (0 + 64 * x.p) + 1000) * 1<=281474976710656/\((0 : Int)<=2/\(0 : Int)<=4)/\I64 ((x.ln : Int) + (x.p : Int))/\(Gf x.p/\Gf x.ln/\True)/\∃ x_1 : RH,Hd (x_1.d.ok/\x_1.k < x_1.d.n)/\(0 = 0/\(x_1.k : Int) = (x.ln : Int) + (x.p : Int)/\True)/\(kD x_1.d x.d/\True)/\∀ y : Unit,True->True/\0 + 64 * x.p = 0 + 64 * x.p/\64<=64/\(∀ k : Nat,k < 64->(Nat.beq (List.length [Value.int .u8 (x_1.d.b (x_1.k * 193 + (0 + k)))]) 1 && List.all [Value.int .u8 (x_1.d.b (x_1.k * 193 + (0 + k)))] Value.oneCell') = true)/\(2 * (0 + 64 * x.p + 64) + 1000) * 1<=281474976710656/\I64 ((x.p : Int) + 1)/\YE x.p/\
 cP (Bool.not (BEq.beq ((x.p : Int) + 1) (spn x.b.cls))) ((∃ y_1 : Unit,Ky x/\((5 : Int) = 5/\bT x.f.key/\bT x.f.value/\cZ/\dF/\(2 : Int) = 2/\bH x.f.epoch/\cZ/\false = false/\(0 : Int) = 0/\true = true/\cZ/\bH x.b.id/\bH x.b.ver/\iL x.ln/\bH x.b.cls/\bH x.f.line/\bH x.f.cls/\uY x.p/\(0 = 0/\64 * (x.p + 1) = 0 + 64 * x.p + 64)/\rQ x.f)/\(0 = 0/\oO)/\kX/\kD x.d x_1.d/\Ut x/\(64 * (x.p + 1) = 0 + 64 * x.p + 64/\∀ q : Nat,q < 64 * (x.p + 1)->[Value.int .u8 (x.b.enc q)] = Cs.eff (fun (q_1 : Nat) => cond (Nat.blt q_1 (0 + 64 * x.p)) [Value.int .u8 (x.b.enc (0 + (q_1 - 0)))] [Value.int .u8 (x_1.d.b (x_1.k * 193 + (0 + (q_1 - (0 + 64 * x.p)))))]) [] q)/\True) ∨ ajc x x_1.d) (∃ x_2 : ZDe,Uw x_2/\((0 = 0/\64 * x_2.b.dA = 0 + 64 * x.p + 64)/\True)/\((64 * x_2.b.dA = 0 + 64 * x.p + 64/\∀ q : Nat,q < 64 * x_2.b.dA->[Value.int .u8 (x_2.g q)] = Cs.eff (fun (q_1 : Nat) => cond (Nat.blt q_1 (0 + 64 * x.p)) [Value.int .u8 (x.b.enc (0 + (q_1 - 0)))] [Value.int .u8 (x_1.d.b (x_1.k * 193 + (0 + (q_1 - (0 + 64 * x.p)))))]) [] q)/\True)/\ap3 x_2 x x_1.d))
theorem aeP (x : ZRe) : YM x = wpF Tryz.prog ap1 tt (noA x) 200 6 19 (Kw.args x) (hO 4 (Kw.os x)) (fun v h' => eH 4 x v h' Kw.outs) := by kernel_rfl
end Go.Proofs.YtenfleoejgjklaaGreat
end
section
namespace Go.Proofs.YtenfleoejgjklaaGreat
open Go SE
set_option linter.unusedSimpArgs false
theorem Og (x : ZEn) (hx : x.r.ok/\x.c.ok/\x.t < x.r.t/\x.r.has x.t = 0) : Oa x := by
 obtain ⟨h1,h2,h3,h4⟩ := hx
 unfold Oa
 simp only [bT,cZ,dF,bH,jq,qE,BH,BI,abv,F9,abp,abu,kS,rQ,oN,mV,oM]
 simp only [aY,aU,aT,ay,aH,bI,bn,aN,aJ,au,aW,aV,bJ,bC,bD,bF,bK,bf,bG,aZ,dU,aG,aK,ah,aj,aA,aC,aB,aF]
 refine ⟨by decide,bg (fun h => .inl (by have := aQ h; omega)) fun h => ⟨⟨x.r,x.t⟩,⟨h1,h3⟩,rfl,rfl,fun _ => ⟨x.c,h2,rfl,.inr ⟨by have := aS h; omega,rfl,rfl,rfl⟩⟩,fun h' => absurd h4 h'⟩⟩
theorem Oh (x : ZEn) (hx : x.r.ok/\x.c.ok/\x.t < x.r.t/\x.r.has x.t = 0) : Ob x := by
 obtain ⟨h1,h2,h3,h4⟩ := hx
 unfold Ob
 simp only [BI,bT,cZ,dF,abv,qE,F9,abp,BH,abu,bH,jq,oM,kS,rQ,oN,mV]
 simp only [aY,aU,aT,ay,aH,bI,bn,aN,aJ,au,aW,aV,bJ,bC,bD,bF,bK,bf,bG,aZ,dU,aG,aK,ah,aj,aA,aC,aB,aF]
 refine ⟨by decide,⟨x.r,x.t⟩,⟨h1,h3⟩,rfl,rfl,fun _ => ⟨x.c,h2,rfl,.inr ⟨fun e => absurd e (by decide),rfl,rfl,rfl⟩⟩,fun h' => absurd h4 h'⟩
theorem UA (x : ZFi) (hx : x.l.ok/\x.f.line = -1) : Gh x := by
 obtain ⟨h1,h2⟩ := hx
 unfold Gh
 simp only [F5,bT,cZ,dF,bH,kS,KC,kX,mV,rQ,jq,oM]
 simp only [aY,aU,aT,ay,aH,bI,bn,aN,aJ,au,aW,aV,bJ,bC,bD,bF,bK,bf,bG,aZ,dU,aG,aK,ah,aj,aA,aC,aB,aF]
 refine ⟨by decide,x.l,h1,rfl,bg (fun h => bg (fun h' => absurd (aQ h') (by omega)) fun _ => .inl ?_) fun h => .inr ?_⟩
 ·have hn : x.l.n = 0 := by simpa using h
  rw [yO hn]
  exact ⟨hn,⟨by rw [hn]; rfl,rfl,rfl,rfl,rfl,rfl⟩,rfl⟩
 ·have hn : x.l.n ≠ 0 := by simpa using h
  exact ⟨hn,⟨(decide_eq_true hn).symm,rfl,rfl,rfl,rfl,rfl⟩,rfl⟩
theorem KI {n : Nat} (h : n<=400) : 0<=ned n/\ned n<=3 := by
 unfold ned
 repeat' split
 all_goals omega
theorem KJ {c : Int} (h : 0<=c/\c<=3) : spn c ≠ 0 := by
 rcases dO c with h' | h' | h' | h' | h' <;> omega
theorem UC (x : ZTk) (hx : x.p.ok/\x.f.value.size<=400) : YH x := by
 obtain ⟨h1,h2⟩ := hx
 have hc : x.c 4 = ned x.f.value.size := if_pos rfl
 have hz := KJ (KI h2)
 unfold YH
 simp only [rV,abw,bT,cZ,dF,bH,Gg,KG,nR,KF,abB,abz,kS,rQ,jq,oM,yX,rP,oN,mV]
 simp only [aY,aU,aT,ay,aH,bI,bn,aN,aJ,au,aW,aV,bJ,bC,bD,bF,bK,bf,bG,aZ,dU,aG,aK,ah,aj,aA,aC,aB,aF,hc]
 exact ⟨by decide,⟨x.p,ned x.f.value.size⟩,h1,rfl,rfl,fun h => absurd h hz,fun h => .inl ⟨h.2,rfl,rfl⟩,fun y hy => .inr ⟨y,hy.2,rfl,rfl⟩⟩
theorem UD (x : ZTk) (hx : x.p.ok/\x.f.value.size<=400) : YI x := by
 obtain ⟨h1,h2⟩ := hx
 have hc : x.c 5 = 0 := if_neg (by decide)
 have hn : ned 0 = 0 := rfl
 unfold YI
 simp only [rV,abx,bT,cZ,dF,bH,KG,nR,KF,abB,abz,kS,rQ,jq,oM,yX,rP,oN,mV]
 simp only [aY,aU,aT,ay,aH,bI,bn,aN,aJ,au,aW,aV,bJ,bC,bD,bF,bK,bf,bG,aZ,dU,aG,aK,ah,aj,aA,aC,aB,aF,hc,hn]
 exact ⟨by decide,⟨x.p,0⟩,h1,rfl,rfl,fun h => absurd (show spn 0 = 0 from h) (by decide),fun h => .inl ⟨h.2,rfl,rfl⟩,fun y hy => .inr ⟨y,hy.2,rfl,rfl⟩⟩
theorem Oi (x : ZLv) (hx : x.r.ok/\x.t < x.r.t) : Oc x := by
 unfold Oc
 simp only [abC,abA,rP,oN,mV,bT,cZ,dF,bH,F9,kS,rQ,jq,oM]
 simp only [aY,aU,aT,ay,aH,bI,bn,aN,aJ,au,aW,aV,bJ,bC,bD,bF,bK,bf,bG,aZ,dU,aG,aK,ah,aj,aA,aC,aB,aF]
 exact ⟨by decide,⟨x.r,x.t⟩,hx,rfl,rfl,rfl⟩
theorem Oj (x : ZLv) (hx : x.r.ok/\x.t < x.r.t) : Oe x := by
 unfold Oe
 simp only [abC,abA,rP,oN,mV,bT,cZ,dF,bH,F9,kS,rQ,jq,oM]
 simp only [aY,aU,aT,ay,aH,bI,bn,aN,aJ,au,aW,aV,bJ,bC,bD,bF,bK,bf,bG,aZ,dU,aG,aK,ah,aj,aA,aC,aB,aF]
 exact ⟨by decide,⟨x.r,x.t⟩,hx,rfl,rfl,rfl⟩
theorem ajg {c : Int} (h : 0<=c/\c<=3) : dN.may ⟨c,0,0,0,0,⟨#[]⟩,⟨#[]⟩⟩ := ⟨KJ h,.inl ⟨rfl,rfl,rfl,rfl,rfl,rfl⟩⟩
theorem D8 {c : Int} (h : 0<=c/\c<=3) (k : Nat) : 0<=(dN.mk c 0 0 0 0 ⟨#[]⟩ ⟨#[]⟩).jC (fun _ => 0) (cpc c).toNat k/\(dN.mk c 0 0 0 0 ⟨#[]⟩ ⟨#[]⟩).jC (fun _ => 0) (cpc c).toNat k < 256 := by
 have hd : (dN.mk c 0 0 0 0 ⟨#[]⟩ ⟨#[]⟩).dat = fun _ => 0 := by
  funext i; unfold dN.dat; rw [if_neg]; exact Nat.not_lt_zero i
 by_cases hk : k < 64
 ·have := qy (ajg h) k
  unfold dN.enc at this
  rw [if_pos hk,hd] at this
  exact this
 ·unfold dN.jC
  rw [if_neg (by omega),if_neg (by omega)]
  exact ⟨Int.le_refl 0,show (0 : Int) < 256 by decide⟩
theorem amE {x : ZWr} (h : x.p = 0) (N : Nat) : x.d' = (⟨x.d,x.ln,0,⟨x.draft.jC (fun _ => 0) (cpc x.c).toNat,0,64,N⟩⟩ : nD).d.store x.ln 0 64 (fun q => x.draft.jC (fun _ => 0) (cpc x.c).toNat (0 + q)) := by
 unfold ZWr.d'
 rw [if_pos h,Uk]
theorem Iw (x : ZWr) (hx : x.ok/\x.p = 0) : Gi x := by
 obtain ⟨⟨o1,o2,o3,o4,o5,o6,o7,o8⟩,hp⟩ := hx
 have hs := dO x.c
 unfold Gi
 simp only [BF,BG,KA,rU,abq,kY,F6,abr,abt,bT,cZ,dF,bH,iL,kS,rQ,jq,oM,oO,kX,mV,yX,rP,oN,kD]
 simp only [aY,aU,aT,ay,aH,bI,bn,aN,aJ,au,aW,aV,bJ,bC,bD,bF,bK,bf,bG,aZ,dU,aG,aK,ah,aj,aA,aC,aB,aF]
 refine ⟨by decide,x.c,⟨o2,o3⟩,rfl,⟨x.d,x.ln,0,⟨x.draft.jC (fun _ => 0) (cpc x.c).toNat,0,64,64⟩⟩,⟨o1,by show x.ln < x.d.n; omega,⟨aX _,show 64 < 1099511627776 by decide,D8 ⟨o2,o3⟩⟩,aX _⟩,⟨rfl,rfl,rfl,rfl⟩,⟨rfl,rfl,fun _ _ => rfl⟩,by unfold I64; omega,by unfold I64; omega,bg (fun h => .inr ⟨beq_iff_eq.1 h,congrArg (fun d => ownM (DevM.os d)) (amE hp 64)⟩) fun h => .inl ⟨beq_eq_false_iff_ne.1 h,congrArg (fun d => ownM (DevM.os d)) (amE hp 64)⟩⟩
theorem Iy (x : ZWr) (hx : x.ok/\x.p = 0) : Gj x := by
 obtain ⟨⟨o1,o2,o3,o4,o5,o6,o7,o8⟩,hp⟩ := hx
 have hs := dO x.c
 unfold Gj
 simp only [BF,BG,KA,rU,abq,kY,F6,abr,abt,bT,cZ,dF,bH,iL,kS,rQ,jq,oM,oO,kX,mV,yX,rP,oN,kD]
 simp only [aY,aU,aT,ay,aH,bI,bn,aN,aJ,au,aW,aV,bJ,bC,bD,bF,bK,bf,bG,aZ,dU,aG,aK,ah,aj,aA,aC,aB,aF]
 refine ⟨by decide,x.c,⟨o2,o3⟩,rfl,⟨x.d,x.ln,0,⟨x.draft.jC (fun _ => 0) (cpc x.c).toNat,0,64,64⟩⟩,⟨o1,by show x.ln < x.d.n; omega,⟨aX _,show 64 < 1099511627776 by decide,D8 ⟨o2,o3⟩⟩,aX _⟩,⟨rfl,rfl,rfl,rfl⟩,⟨rfl,rfl,fun _ _ => rfl⟩,by unfold I64; omega,by unfold I64; omega,bg (fun h => .inr ⟨beq_iff_eq.1 h,congrArg (fun d => ownM (DevM.os d)) (amE hp 64)⟩) fun h => .inl ⟨beq_eq_false_iff_ne.1 h,congrArg (fun d => ownM (DevM.os d)) (amE hp 64)⟩⟩
theorem ap4 (v : ByteArray) : (⟨#[]⟩ : ByteArray) ++ v = v := by
 have : ∀ a : ByteArray,a = ⟨a.data⟩ := fun a => rfl
 apply ByteArray.ext
 simp
theorem ajh {s : ByteArray} {a k : Nat} (hk : a + k < s.size) : fG (s.extract a s.size) k = fG s (a + k) := by
 unfold fG
 rw [ByteArray.data_extract]
 have h1 : a + k < s.data.size := hk
 simp only [List.getD_eq_getElem?_getD,Array.getElem?_toList,Array.getElem?_extract]
 rw [if_pos (by have : s.size = s.data.size := rfl; omega)]
theorem abD (x : dN) {m : Nat} (h : 64<=m) : 0<=x.enc m/\x.enc m < 256 := by
 unfold dN.enc
 rw [if_neg (by omega)]
 split
 ·decide
 ·exact NP _ _
theorem anN (x : ZWr) {t q o B : Nat} (hq : q < 64) (ho : o = min (28 + 63 * t) x.f.value.size) (hB : (x.f.value.extract o x.f.value.size).size<=63/\B = 1 + (x.f.value.extract o x.f.value.size).size ∨ 63 < (x.f.value.extract o x.f.value.size).size/\B = 64) : [Value.int .u8 (x.blk.enc (64 * (t + 1) + q))] = bif Nat.ble 1 q && Nat.blt q B then [Value.int .u8 (fG (x.f.value.extract o x.f.value.size) (q - 1))] else Cs.eff (fun _ => [Value.int .u8 0]) [(0,[Value.int .u8 2])] q := by
 have hsz : (x.f.value.extract o x.f.value.size).size = x.f.value.size - o := by rw [ByteArray.size_extract]; omega
 rw [hsz] at hB
 rw [NK _ _ _ hq]
 unfold dN.dat
 rw [show x.blk.key ++ x.blk.value = x.f.value from ap4 _]
 by_cases h0 : q = 0
 ·subst h0; rfl
 ·rw [if_neg h0]
  by_cases h1 : 28 + 63 * t + (q - 1) < x.f.value.size
  ·rw [if_pos h1,show (Nat.ble 1 q && Nat.blt q B) = true by rw [bV,Nat.ble_eq_true_of_le (by omega)]; simp; omega,aO,ajh (by omega),show o = 28 + 63 * t by omega]
  ·rw [if_neg h1,show (Nat.ble 1 q && Nat.blt q B) = false by rw [bV,Nat.ble_eq_true_of_le (by omega)]; simp; omega,aP]
   show _ = bif Nat.beq q 0 then _ else _
   rw [dJ,decide_eq_false h0]; rfl
theorem amF {x : ZWr} (h : x.p ≠ 0) (N : Nat) : x.d' = (⟨x.d,x.ln + x.p,0,⟨fun q => x.blk.enc (64 * x.p + q),0,64,N⟩⟩ : nD).d.store (x.ln + x.p) 0 64 (fun q => (fun q => x.blk.enc (64 * x.p + q)) (0 + q)) := by
 unfold ZWr.d'
 rw [if_neg h]
 exact (Uk _ _ _ _ (fun q => x.blk.enc (64 * x.p + q))).symm
theorem Iz (x : ZWr) (hx : x.ok/\x.p ≠ 0) : Gl x := by
 obtain ⟨⟨o1,o2,o3,o4,o5,o6,o7,o8⟩,hp⟩ := hx
 have hs := dO x.c
 obtain ⟨t,ht⟩ : ∃ t,x.p = t + 1 := ⟨x.p - 1,by omega⟩
 have hn := o1.1
 have e1 : (Ed (imax (28 + ((x.p : Int) - 1) * 63) 0) x.f.value.size).toNat = min (28 + 63 * t) x.f.value.size := by unfold Ed imax; omega
 have e0 : 0<=Ed (imax (28 + ((x.p : Int) - 1) * 63) 0) x.f.value.size := by unfold Ed imax; omega
 unfold Gl
 simp only [BF,BG,KA,ai5,F6,kY,ai7,ai6,ajd,kD,ai8,bT,cZ,dF,bH,iL,kS,rQ,jq,oM,uY,oO,kX,mV,yX,rP,oN]
 simp only [aY,aU,aT,ay,aH,bI,bn,aN,aJ,au,aW,aV,bJ,bC,bD,bF,bK,bf,bG,aZ,dU,aG,aK,ah,aj,aA,aC,aB,aF,e1]
 refine ⟨by decide,bg (fun h => absurd (beq_iff_eq.1 h) (by omega)) fun _ => ⟨by decide,by decide,by decide,by unfold I64; omega,by unfold I64; omega,by unfold I64; omega,by decide,by decide,e0,⟨Nat.min_le_right _ _,aX _⟩,by decide,bg (fun h => ?_) fun h => ?_⟩⟩
 ·refine ⟨by unfold I64; omega,⟨x.d,x.ln + x.p,0,⟨fun q => x.blk.enc (64 * x.p + q),0,64,64⟩⟩,⟨o1,by show x.ln + x.p < x.d.n; omega,⟨aX _,show 64 < 1099511627776 by decide,fun k => abD _ (by omega)⟩,aX _⟩,⟨rfl,rfl,rfl,rfl⟩,⟨rfl,rfl,fun q hq => ?_⟩,by unfold I64; omega,by unfold I64; omega,bg (fun h => .inr ⟨beq_iff_eq.1 h,congrArg (fun d => ownM (DevM.os d)) (amF hp 64)⟩) fun h => .inl ⟨beq_eq_false_iff_ne.1 h,congrArg (fun d => ownM (DevM.os d)) (amF hp 64)⟩⟩
  rw [ht]; exact anN x hq rfl (.inl ⟨Nat.le_of_ble_eq_true h,rfl⟩)
 ·refine ⟨by unfold I64; omega,⟨x.d,x.ln + x.p,0,⟨fun q => x.blk.enc (64 * x.p + q),0,64,64⟩⟩,⟨o1,by show x.ln + x.p < x.d.n; omega,⟨aX _,show 64 < 1099511627776 by decide,fun k => abD _ (by omega)⟩,aX _⟩,⟨rfl,rfl,rfl,rfl⟩,⟨rfl,rfl,fun q hq => ?_⟩,by unfold I64; omega,by unfold I64; omega,bg (fun h => .inr ⟨beq_iff_eq.1 h,congrArg (fun d => ownM (DevM.os d)) (amF hp 64)⟩) fun h => .inl ⟨beq_eq_false_iff_ne.1 h,congrArg (fun d => ownM (DevM.os d)) (amF hp 64)⟩⟩
  rw [ht]; exact anN x hq rfl (.inr ⟨Nat.not_le.1 fun hh => (by rw [Nat.ble_eq_true_of_le hh] at h; cases h),rfl⟩)
theorem re_b {b : dN} (h : b.may) (hk : b.kind = 2) : b.key = ⟨#[]⟩/\b.value.size<=400 := by
 rcases h.2 with h | h | h | h <;> first | (exfalso; have := h.1; omega) | exact ⟨h.2.1,h.2.2.1⟩
noncomputable def ZRe.de (x : ZRe) : ZDe := ⟨x.b.cls,x.b.id,x.b.ver,x.b.epoch,x.b.value,x.b.enc⟩
theorem arO {x : ZRe} (h : x.b.may) (hk : x.b.kind = 2) : x.de.b = x.b := by
 have := (re_b h hk).1
 unfold ZRe.de ZDe.b
 rw [← hk,← this]
theorem UE (x : ZRe) (hx : x.ok/\x.p = 0) : YL x := by
 obtain ⟨⟨o1,o2,o3,o4,o5,o6⟩,hp⟩ := hx
 have hs := jm x.b
 have h1 := qg o2
 have hde := arO o2 o3
 have hv := re_b o2 o3
 have hn := o1.1
 have by_ : ∀ q,q < 64->x.b.enc q = x.d.b (x.ln * 193 + q) := fun q hq => by
  rw [← o6 q (by omega),show q / 64 = 0 by omega,show q % 64 = q by omega,aH]
 unfold YL
 simp only [Gf,kD,rU,bT,cZ,dF,bH,iL,rQ,oO,kX,F7,aje,yZ,F8,Uw,aby,ajf,N9,Uu,aja,F5,jq,ai9,Kz,oM,N8,N7,mV,yX,rP,oN]
 simp only [aY,aU,aT,ay,aH,bI,bn,aN,aJ,au,aW,aV,bJ,bC,bD,bF,bK,bf,bG,aZ,dU,aG,aK,ah,aj,aA,aC,aB,aF]
 refine ⟨by decide,by unfold I64; omega,⟨x.d,x.ln⟩,⟨o1,by show x.ln < x.d.n; omega⟩,by show (x.ln : Int) = x.ln + 0; omega,rfl,by decide,by decide,by unfold I64; omega,bg (fun h => .inl ⟨by simpa using h,rfl,by_⟩) fun h => ?_⟩
 have hc : 1 = spn x.b.cls := by simpa using h
 have hsn : x.b.dA = 1 := by omega
 have he : 64 * x.de.b.dA = 64 := by rw [hde,hsn]
 refine ⟨x.de,⟨by rw [hde]; exact o2,by show x.b.value.size < _; omega,fun k _ => by rw [hde]; rfl⟩,he,⟨he,fun q hq => by_ q (by omega)⟩,?_⟩
 rw [show (x.de.id == x.b.id) = true from beq_self_eq_true _,show (x.de.ver == x.b.ver) = true from beq_self_eq_true _,kP,kP]
 exact bg (fun h => .inr (.inl ⟨⟨hc,aQ h⟩,rfl,rfl⟩)) fun h => .inr (.inr ⟨⟨hc,by have := aS h; omega⟩,rfl,rfl⟩)
theorem UF (x : ZRe) (hx : x.ok/\x.p ≠ 0) : YM x := by
 obtain ⟨⟨o1,o2,o3,o4,o5,o6⟩,hp⟩ := hx
 have hs := jm x.b
 have h1 := qg o2
 have hde := arO o2 o3
 have hv := re_b o2 o3
 have hn := o1.1
 unfold YM
 simp only [Gf,kD,YE,Ky,bT,cZ,dF,bH,iL,uY,rQ,oO,kX,Ut,ajc,Uw,aby,ap3,ai3,abo,Uo,Us,yY,Ur,ap2,F5,jq,ai4,Kz,oM,N8,N7,ajb,mV,yX,rP,oN]
 simp only [aY,aU,aT,ay,aH,bI,bn,aN,aJ,au,aW,aV,bJ,bC,bD,bF,bK,bf,bG,aZ,dU,aG,aK,ah,aj,aA,aC,aB,aF]
 refine ⟨aX _,bg (fun h => absurd (ak h) (by omega)) fun _ => ⟨by omega,by decide,by unfold I64; omega,⟨x.d,x.ln + x.p⟩,⟨o1,by show x.ln + x.p < x.d.n; omega⟩,rfl,rfl,?_⟩⟩
 have row : ∀ q,q < 64 * (x.p + 1)->x.b.enc q = bif Nat.blt q (64 * x.p) then x.b.enc q else x.d.b ((x.ln + x.p) * 193 + (q - 64 * x.p)) := fun q hq => by
  by_cases hh : q < 64 * x.p
  ·rw [bQ.2 hh]; rfl
  ·rw [show Nat.blt q (64 * x.p) = false by rw [bV]; exact decide_eq_false hh,aP,← o6 q (by omega),show q / 64 = x.p by omega,show q % 64 = q - 64 * x.p by omega]
 refine ⟨by decide,by omega,by unfold I64; omega,bg (fun h => .inl ⟨by simpa using h,by omega,rfl,by omega,row⟩) fun h => ?_⟩
 have hc : (x.p : Int) + 1 = spn x.b.cls := by simpa using h
 have hsn : x.b.dA = x.p + 1 := by omega
 have he : 64 * x.de.b.dA = 64 * x.p + 64 := by rw [hde,hsn]; omega
 refine ⟨x.de,⟨by rw [hde]; exact o2,by show x.b.value.size < _; omega,fun k _ => by rw [hde]; rfl⟩,he,⟨he,fun q hq => row q (by omega)⟩,?_⟩
 rw [show (x.de.id == x.b.id) = true from beq_self_eq_true _,show (x.de.ver == x.b.ver) = true from beq_self_eq_true _,kP,kP]
 exact bg (fun h => .inr (.inl ⟨⟨hc,aQ h⟩,rfl,rfl⟩)) fun h => .inr (.inr ⟨⟨hc,by have := aS h; omega⟩,rfl,rfl⟩)
theorem jg : fA Tryz.prog yV := .cons ai2 .nil
theorem abE : fA Tryz.prog apY := .append jg (.cons (bM alY) (.cons (bM yG) .nil))
theorem abG : fA Tryz.prog arN := .append jg (.cons (bM pY) .nil)
theorem abH : fA Tryz.prog apZ := .append jg (.cons amC (.cons (bM ao7) .nil))
theorem Ol : fA Tryz.prog amD := .append jg (.cons NY (.cons (bM al7) (.cons (bM EZ) .nil)))
theorem abI : fA Tryz.prog ap0 := .append jg (.cons (bM alZ) .nil)
theorem abJ : fA Tryz.prog ap1 := .append jg (.cons NY (.cons (bM apX) (.cons (bM apa) .nil)))
theorem KL : bU Tryz.prog 19 (qB 4) := fZ dD mixed abE noA 200 6 (fun _ => rfl) (fun _ => ⟨fun _ => rfl,fun _ => rfl,trivial⟩) fun x hx => Eq.mp (YF x) (Og x (aY.1 hx))
theorem KN : bU Tryz.prog 19 (qB 5) := fZ dD mixed abE noA 200 6 (fun _ => rfl) (fun _ => ⟨fun _ => rfl,fun _ => rfl,trivial⟩) fun x hx => Eq.mp (YG x) (Oh x (aY.1 hx))
theorem abK : bU Tryz.prog 19 YC := fZ dD mixed abG noA 200 6 (fun _ => rfl) (fun _ => ⟨fun _ => rfl,fun _ => rfl,trivial⟩) fun x hx => Eq.mp (KH x) (UA x (aY.1 hx))
theorem UG : bU Tryz.prog 19 (CX 4) := fZ dD mixed abH noA 200 6 (fun _ => rfl) (fun _ => ⟨fun _ => rfl,fun _ => rfl,trivial⟩) fun x hx => Eq.mp (aeM x) (UC x (aY.1 hx))
theorem UH : bU Tryz.prog 19 (CX 5) := fZ dD mixed abH noA 200 6 (fun _ => rfl) (fun _ => ⟨fun _ => rfl,fun _ => rfl,trivial⟩) fun x hx => Eq.mp (aeN x) (UD x (aY.1 hx))
theorem KO : bU Tryz.prog 19 (qC 4) := dR dD mixed abI noA 200 6 (fun _ => rfl) (fun _ => rfl) fun x hx => Eq.mp (YJ x) (Oi x (aY.1 hx))
theorem KP : bU Tryz.prog 19 (qC 5) := dR dD mixed abI noA 200 6 (fun _ => rfl) (fun _ => rfl) fun x hx => Eq.mp (YK x) (Oj x (aY.1 hx))
theorem Gm : bU Tryz.prog 19 (kR 4) := fZ dD mixed Ol noA 200 6 (fun _ => rfl) (fun _ => ⟨fun _ => rfl,fun _ => rfl,trivial⟩) fun x hx => Eq.mp (Ux x) (Iw x (aY.1 hx))
theorem Gn : bU Tryz.prog 19 (kR 5) := fZ dD mixed Ol noA 200 6 (fun _ => rfl) (fun _ => ⟨fun _ => rfl,fun _ => rfl,trivial⟩) fun x hx => Eq.mp (Uy x) (Iy x (aY.1 hx))
theorem KQ : bU Tryz.prog 19 zW := fZ dD mixed Ol noA 200 6 (fun _ => rfl) (fun _ => ⟨fun _ => rfl,fun _ => rfl,trivial⟩) fun x hx => Eq.mp (Uz x) (Iz x (aY.1 hx))
theorem UJ : bU Tryz.prog 19 Kv := fZ dD mixed abJ noA 200 6 (fun _ => rfl) (fun _ => ⟨fun _ => rfl,fun _ => rfl,fun _ => rfl,trivial⟩) fun x hx => Eq.mp (aeO x) (UE x (aY.1 hx))
theorem UK : bU Tryz.prog 19 Kw := fZ dD mixed abJ noA 200 6 (fun _ => rfl) (fun _ => ⟨fun _ => rfl,fun _ => rfl,fun _ => rfl,trivial⟩) fun x hx => Eq.mp (aeP x) (UF x (aY.1 hx))
end Go.Proofs.YtenfleoejgjklaaGreat
end
section
namespace Go.Proofs.YtenfleoejgjklaaGreat
open Go SE
structure ZSt where
 a : ZArn
 f : ZFr
 t : Nat
namespace ZArn
def rW (a : ZArn) (t : Nat) (v : Int) : ZArn := { a with r := a.r.put t v }
def abL (a : ZArn) (p : dw) : ZArn := { a with p := p }
def IB (a : ZArn) (d : DevM) : ZArn := { a with d := d }
end ZArn
noncomputable def iT (k : Int) : wz := { X := ZSt,args := fun x => [.ptr 0 0,i64 x.t,x.f.av k 0 fJ],a := ZSt.a,k := 1,ex := fun _ => [],pre := fun x => Hd (x.a.r.ok/\x.a.c.ok/\x.t < x.a.r.t/\x.a.r.has x.t = 0),outs := [
 { Y := Unit,post := fun x _ => Hd (k = 4/\400 < x.f.value.size),ret := fun x _ => { x.f with code := 5 }.av k 7 fJ,a := fun x _ => x.a,m := 1,ex := fun _ _ => [] },
 { Y := Unit,post := fun x _ => Hd (k = 4->x.f.value.size<=400),ret := fun x _ => { x.f with epoch := x.a.c.now }.av k (if k = 4 then 3 else 1) fJ,a := fun x _ => x.a.rW x.t x.a.r.now,m := 1,ex := fun _ _ => [] }] }
noncomputable def zX : wz := { X := ZSt,args := fun x => [.ptr 0 0,i64 x.t,x.f.av 5 1 fJ],a := ZSt.a,k := 1,ex := fun _ => [],pre := fun x => Hd (x.a.l.ok/\x.f.line = -1),outs := [
 { Y := Unit,post := fun x _ => Hd (x.a.l.n = 0),ret := fun x _ => { x.f with had := false,old := pX }.av 5 6 fJ,a := fun x _ => x.a,m := 1,ex := fun _ _ => [] },
 { Y := Unit,post := fun x _ => Hd (x.a.l.n ≠ 0),ret := fun x _ => { x.f with had := true,old := x.a.l.head,piece := 0 }.av 5 2 fJ,a := fun x _ => x.a,m := 1,ex := fun _ _ => [] }] }
def ZSt.c (x : ZSt) (k : Int) : Int := if k = 4 then ned x.f.value.size else 0
noncomputable def lK (k : Int) : wz := { X := ZSt,args := fun x => [.ptr 0 0,i64 x.t,x.f.av k 3 fJ],a := ZSt.a,k := 1,ex := fun _ => [],pre := fun x => Hd (x.a.p.ok/\x.f.value.size<=400),outs := [
 { Y := Unit,post := fun x _ => Hd (∀ i,i < x.a.p.n->x.a.p.cls i ≠ -1/\x.a.p.full (x.c k) i),ret := fun x _ => { x.f with cls := x.c k,ans := emp,code := 4 }.av k 6 fJ,a := fun x _ => x.a,m := 1,ex := fun _ _ => [] },
 { Y := Nat × Nat,post := fun x y => Hd (x.a.p.takes (x.c k) y.1 y.2),ret := fun x y => { x.f with cls := x.c k,line := 2 + y.1 * 8 + y.2 * spn (x.c k),piece := 0 }.av k 4 fJ,a := fun x y => x.a.abL (x.a.p.take (x.c k) y.1 y.2),m := 1,ex := fun _ _ => [] }] }
noncomputable def iU (k : Int) : wz := { X := ZSt,args := fun x => [.ptr 0 0,i64 x.t,x.f.av k 6 fJ],a := ZSt.a,k := 1,ex := fun _ => [],pre := fun x => Hd (x.a.r.ok/\x.t < x.a.r.t),outs := [
 { Y := Unit,post := fun _ _ => True,ret := fun x _ => x.f.av k 7 fJ,a := fun x _ => x.a.rW x.t 0,m := 1,ex := fun _ _ => [] }] }
structure lM where
 a : ZArn
 f : ZFr
 t : Nat
 ln : Nat
 c : Int
 p : Nat
def lM.w (x : lM) : ZWr := ⟨x.a.d,x.t,x.f,x.ln,x.c,x.p⟩
noncomputable def gK (k : Int) : wz := { X := lM,args := fun x => [.ptr 0 0,i64 x.t,(x.w.fr 0).av k 4 fJ],a := lM.a,k := 1,ex := fun _ => [],pre := fun x => Hd (x.w.ok/\x.p = 0),outs := [
 { Y := Unit,post := fun x _ => Hd (1 ≠ spn x.c),ret := fun x _ => (x.w.fr 1).av k 4 fJ,a := fun x _ => x.a.IB x.w.d',m := 1,ex := fun _ _ => [] },
 { Y := Unit,post := fun x _ => Hd (1 = spn x.c),ret := fun x _ => (x.w.fr 0).av k 5 fJ,a := fun x _ => x.a.IB x.w.d',m := 1,ex := fun _ _ => [] }] }
noncomputable def mW : wz := { X := lM,args := fun x => [.ptr 0 0,i64 x.t,(x.w.fr x.p).av 4 4 fJ],a := lM.a,k := 1,ex := fun _ => [],pre := fun x => Hd (x.w.ok/\x.p ≠ 0),outs := [
 { Y := Unit,post := fun x _ => Hd (x.p + 1 ≠ spn x.c),ret := fun x _ => (x.w.fr (x.p + 1)).av 4 4 fJ,a := fun x _ => x.a.IB x.w.d',m := 1,ex := fun _ _ => [] },
 { Y := Unit,post := fun x _ => Hd (x.p + 1 = spn x.c),ret := fun x _ => (x.w.fr 0).av 4 5 fJ,a := fun x _ => x.a.IB x.w.d',m := 1,ex := fun _ _ => [] }] }
structure jK where
 a : ZArn
 f : ZFr
 t : Nat
 b : dN
 ln : Nat
 p : Nat
def jK.w (x : jK) : ZRe := ⟨x.a.d,x.t,x.f,x.b,x.ln,x.p⟩
noncomputable def qF : wz := { X := jK,args := fun x => [.ptr 0 0,i64 x.t,(x.w.fr 0).av 5 2 fJ],a := jK.a,k := 1,ex := fun _ => [],pre := fun x => Hd (x.w.ok/\x.p = 0),outs := [
 { Y := Unit,post := fun x _ => Hd (1 ≠ spn x.b.cls),ret := fun x _ => (x.w.fr 1).av 5 2 (.slW 1 0 1 64),a := fun x _ => x.a,m := 2,ex := fun x _ => [Ir x.b.enc 64] },
 { Y := Unit,post := fun x _ => Hd (1 = spn x.b.cls/\x.f.line < 0),ret := fun x _ => (x.w.fr2 1).av 5 3 fJ,a := fun x _ => x.a,m := 1,ex := fun _ _ => [] },
 { Y := Unit,post := fun x _ => Hd (1 = spn x.b.cls/\0<=x.f.line),ret := fun x _ => (x.w.fr2 1).av 5 5 fJ,a := fun x _ => x.a,m := 1,ex := fun _ _ => [] }] }
noncomputable def qG : wz := { X := jK,args := fun x => [.ptr 0 0,i64 x.t,(x.w.fr x.p).av 5 2 (.slW 1 0 1 (64 * x.p))],a := jK.a,k := 2,ex := fun x => [Ir x.b.enc (64 * x.p)],pre := fun x => Hd (x.w.ok/\x.p ≠ 0),outs := [
 { Y := Unit,post := fun x _ => Hd (x.p + 1 ≠ spn x.b.cls),ret := fun x _ => (x.w.fr (x.p + 1)).av 5 2 (.slW 2 0 1 (64 * (x.p + 1))),a := fun x _ => x.a,m := 3,ex := fun x _ => [Ir x.b.enc (64 * x.p),Ir x.b.enc (64 * (x.p + 1))] },
 { Y := Unit,post := fun x _ => Hd (x.p + 1 = spn x.b.cls/\x.f.line < 0),ret := fun x _ => (x.w.fr2 (x.p + 1)).av 5 3 fJ,a := fun x _ => x.a,m := 2,ex := fun x _ => [Ir x.b.enc (64 * x.p)] },
 { Y := Unit,post := fun x _ => Hd (x.p + 1 = spn x.b.cls/\0<=x.f.line),ret := fun x _ => (x.w.fr2 (x.p + 1)).av 5 5 fJ,a := fun x _ => x.a,m := 2,ex := fun x _ => [Ir x.b.enc (64 * x.p)] }] }
end Go.Proofs.YtenfleoejgjklaaGreat
end
section
namespace Go.Proofs.YtenfleoejgjklaaGreat
open Go SE
def dM : Prop := Value.slice none 0 0 = Value.slice none 0 0
def fM : Prop := dM/\dM/\dM/\dM/\True
def y5 (a : ZArn) : Prop := (a.n = a.n/\∀ q : Nat,q < a.n->[Value.int .i64 (eY.kind (a.e q)),Value.string (eY.key (a.e q)),Value.string (eY.value (a.e q)),Value.int .u64 (eY.id (a.e q)),Value.int .u64 (eY.ver (a.e q)),Value.int .u64 (eY.epoch (a.e q)),Value.int .i64 (eY.group (a.e q))] = [Value.int .i64 (eY.kind (a.e q)),Value.string (eY.key (a.e q)),Value.string (eY.value (a.e q)),Value.int .u64 (eY.id (a.e q)),Value.int .u64 (eY.ver (a.e q)),Value.int .u64 (eY.epoch (a.e q)),Value.int .i64 (eY.group (a.e q))])/\True
def uK (a : ZArn) : Prop := ownM a.b.os = ownM a.b.os/\ownM tabE = ownM tabE/\fM/\ownM a.l.os = ownM a.l.os/\y5 a
def CY (a : ZArn) : Prop := ownM (a.c.os 0) = ownM (a.c.os 0)/\uK a
def rX (a : ZArn) : Prop := ownM a.r.os = ownM a.r.os/\CY a
def fH (a : Int) (b : Int) : Prop := dM/\dM/\a = b/\True
def fO (a : ZFr) (b : ZFr) : Prop := a.found = b.found/\a.ans = b.ans/\fH a.aep b.aep
def iw (a : ZFr) (b : ZFr) : Prop := (0 : Int) = 0/\dM/\a.code = b.code/\fO a b
def fK (a : ZFr) (b : ZFr) : Prop := dM/\iw a b
def bW : Prop := ByteArray.mk #[] = ByteArray.mk #[]
def rY (a : ZFr) (b : ZFr) : Prop := bW/\false = false/\(0 : Int) = 0/\a.had = b.had/\a.old.key = b.old.key/\a.old.id = b.old.id/\a.old.ver = b.old.ver/\a.old.line = b.old.line/\a.old.cls = b.old.cls/\a.line = b.line/\a.cls = b.cls/\a.piece = b.piece/\fK a b
def jU (a : ZFr) (b : ZFr) : Prop := a.epoch = b.epoch/\rY a b
def kZ (a : ZArn) : Prop := ownM a.b.os = ownM a.b.os/\ownM tabE = ownM tabE/\fM/\ownM a.l.os = ownM a.l.os/\True
def qH (a : ZArn) : Prop := ownM (a.c.os 0) = ownM (a.c.os 0)/\kZ a
def lg (a : ZArn) : Prop := ownM a.r.os = ownM a.r.os/\qH a
def fP (a : ZArn) : Prop := 0 = 0/\0 = 0/\0 = 0/\0 = 0/\0 = 0/\0 = 0/\0 = 0/\0 = 0/\a.id = a.id/\a.ver = a.ver/\(0 = 0/\a.n = a.n)/\True
def fQ (a : dw) : Prop := ownM a.os = ownM a.os
def Gp (a : ZArn) : Prop := fQ a.p/\lg a
def dV : Prop := 0 = 0/\(1 : Int) = 1/\(0 : Int) = 0/\(0 : Int) = 0/\True
def fU (a : ZArn) : Prop := 0 = 0/\0 = 0/\0 = 0/\0 = 0/\0 = 0/\0 = 0/\0 = 0/\0 = 0/\a.id = a.id/\a.ver = a.ver/\dM/\True
def zY (a : jK) (b : ZRe) : Prop := dM/\(0 : Int) = 0/\dM/\a.f.code = b.f.code/\a.f.found = b.f.found/\a.b.value = b.b.value/\fH a.f.aep b.f.aep
def dP (a : Nat) (b : Nat) : Prop := (a : Int) = (b : Int)
def KR (a : jK) (b : ZRe) : Prop := a.f.epoch = b.f.epoch/\bW/\false = false/\(0 : Int) = 0/\true = true/\bW/\a.b.id = b.b.id/\a.b.ver = b.b.ver/\dP a.ln b.ln/\a.b.cls = b.b.cls/\a.f.line = b.f.line/\a.f.cls = b.f.cls/\(a.p : Int) + 1 = (b.p : Int) + 1/\zY a b
def KT (a : jK) (b : ZRe) : Prop := a.f.epoch = b.f.epoch/\bW/\false = false/\(0 : Int) = 0/\true = true/\bW/\a.b.id = b.b.id/\a.b.ver = b.b.ver/\dP a.ln b.ln/\a.b.cls = b.b.cls/\a.f.line = b.f.line/\a.f.cls = b.f.cls/\(1 : Int) = 1/\zY a b
def qI (a : lM) (b : ZWr) : Prop := a.f.key = b.f.key/\a.f.value = b.f.value/\bW/\dM/\(5 : Int) = 5/\a.f.epoch = b.f.epoch/\bW/\false = false/\(0 : Int) = 0/\a.f.had = b.f.had/\a.f.old.key = b.f.old.key/\a.f.old.id = b.f.old.id/\a.f.old.ver = b.f.old.ver/\a.f.old.line = b.f.old.line/\a.f.old.cls = b.f.old.cls/\dP a.ln b.ln/\a.c = b.c/\(0 : Int) = 0/\fK a.f b.f
def BJ (a : ZFr) (b : ZFr) : Prop := a.key = b.key/\a.value = b.value/\bW/\dM/\(7 : Int) = 7/\a.epoch = b.epoch/\bW/\false = false/\(0 : Int) = 0/\a.had = b.had/\a.old.key = b.old.key/\a.old.id = b.old.id/\a.old.ver = b.old.ver/\a.old.line = b.old.line/\a.old.cls = b.old.cls/\a.line = b.line/\a.cls = b.cls/\a.piece = b.piece/\dM/\(0 : Int) = 0/\dM/\(5 : Int) = 5/\fO a b
def KU (a : ZSt) (b : ZFr) : Prop := a.a.c.now = b.epoch/\bW/\false = false/\(0 : Int) = 0/\a.f.had = b.had/\a.f.old.key = b.old.key/\a.f.old.id = b.old.id/\a.f.old.ver = b.old.ver/\a.f.old.line = b.old.line/\a.f.old.cls = b.old.cls/\a.f.line = b.line/\a.f.cls = b.cls/\a.f.piece = b.piece/\dM/\(0 : Int) = 0/\dM/\a.f.code = 5/\fO a.f b
def KW (a : ZFr) (b : ZEn) : Prop := a.epoch = b.c.now/\bW/\false = false/\(0 : Int) = 0/\a.had = b.f.had/\a.old.key = b.f.old.key/\a.old.id = b.f.old.id/\a.old.ver = b.f.old.ver/\a.old.line = b.f.old.line/\a.old.cls = b.f.old.cls/\a.line = b.f.line/\a.cls = b.f.cls/\a.piece = b.f.piece/\dM/\(0 : Int) = 0/\dM/\5 = b.f.code/\fO a b.f
def zZ (a : jK) (b : ZFr) : Prop := False/\(0 : Int) = 0/\dM/\a.f.code = b.code/\a.f.found = b.found/\a.b.value = b.ans/\fH a.f.aep b.aep
def abM (a : jK) (b : ZRe) : Prop := a.f.epoch = b.f.epoch/\bW/\false = false/\(0 : Int) = 0/\true = true/\bW/\a.b.id = b.b.id/\a.b.ver = b.b.ver/\dP a.ln b.ln/\a.b.cls = b.b.cls/\a.f.line = b.f.line/\a.f.cls = b.f.cls/\(a.p : Int) + 1 = (b.p : Int) + 1/\zZ a b.f
def nZ (a : dN) (b : Nat) (c : dN) : Prop := [Value.int .u8 (a.enc b)] = [Value.int .u8 (c.enc b)]
def KX (a : jK) (b : ZRe) : Prop := 64 * a.p = 64 * b.p/\∀ q : Nat,q < 64 * a.p->nZ a.b q b.b
def gu : Prop := True/\True/\True/\True
def iC : Prop := True/\True/\True/\True/\gu
def abN (a : jK) (b : ZRe) : Prop := a.f.epoch = b.f.epoch/\bW/\false = false/\(0 : Int) = 0/\true = true/\bW/\a.b.id = b.b.id/\a.b.ver = b.b.ver/\dP a.ln b.ln/\a.b.cls = b.b.cls/\a.f.line = b.f.line/\a.f.cls = b.f.cls/\(1 : Int) = 1/\zZ a b.f
def BK (a : ZWr) (b : lM) : Prop := a.f.key = b.f.key/\a.f.value = b.f.value/\bW/\dM/\(4 : Int) = 4/\a.f.epoch = b.f.epoch/\bW/\false = false/\(0 : Int) = 0/\a.f.had = b.f.had/\a.f.old.key = b.f.old.key/\a.f.old.id = b.f.old.id/\a.f.old.ver = b.f.old.ver/\a.f.old.line = b.f.old.line/\a.f.old.cls = b.f.old.cls/\dP a.ln b.ln/\a.c = b.c/\(0 : Int) = 0/\fK a.f b.f
def BL (a : lM) (b : ZWr) : Prop := a.f.key = b.f.key/\a.f.value = b.f.value/\bW/\dM/\(4 : Int) = 4/\a.f.epoch = b.f.epoch/\bW/\false = false/\(0 : Int) = 0/\a.f.had = b.f.had/\a.f.old.key = b.f.old.key/\a.f.old.id = b.f.old.id/\a.f.old.ver = b.f.old.ver/\a.f.old.line = b.f.old.line/\a.f.old.cls = b.f.old.cls/\dP a.ln b.ln/\a.c = b.c/\(1 : Int) = 1/\fK a.f b.f
def BM (a : lM) (b : ZWr) : Prop := a.f.key = b.f.key/\a.f.value = b.f.value/\bW/\dM/\(5 : Int) = 4/\a.f.epoch = b.f.epoch/\bW/\false = false/\(0 : Int) = 0/\a.f.had = b.f.had/\a.f.old.key = b.f.old.key/\a.f.old.id = b.f.old.id/\a.f.old.ver = b.f.old.ver/\a.f.old.line = b.f.old.line/\a.f.old.cls = b.f.old.cls/\dP a.ln b.ln/\a.c = b.c/\(0 : Int) = 1/\fK a.f b.f
def BN (a : lM) (b : ZWr) : Prop := a.f.key = b.f.key/\a.f.value = b.f.value/\bW/\dM/\(4 : Int) = 5/\a.f.epoch = b.f.epoch/\bW/\false = false/\(0 : Int) = 0/\a.f.had = b.f.had/\a.f.old.key = b.f.old.key/\a.f.old.id = b.f.old.id/\a.f.old.ver = b.f.old.ver/\a.f.old.line = b.f.old.line/\a.f.old.cls = b.f.old.cls/\dP a.ln b.ln/\a.c = b.c/\(1 : Int) = 0/\fK a.f b.f
def mX (a : lM) (b : ZWr) : Prop := fP a.a/\dV/\ownM a.w.d'.os = ownM b.d'.os/\fQ a.a.p/\rX a.a
def rZ (a : ZArn) (b : DevM) : Prop := dV/\ownM a.d.os = ownM b.os/\fQ a.p/\rX a
def eU (a : DevM) : Prop := ownM a.os = ownM a.os
def UL (a : ZArn) (b : ZLn) : Prop := fP a/\dV/\eU a.d/\fQ a.p/\ownM a.r.os = ownM a.r.os/\ownM (a.c.os 0) = ownM (a.c.os 0)/\ownM a.b.os = ownM a.b.os/\ownM tabE = ownM tabE/\fM/\ownM a.l.os = ownM b.os/\y5 a
def UM (a : ZArn) (b : ZLn) : Prop := fU a/\dV/\eU a.d/\fQ a.p/\ownM a.r.os = ownM a.r.os/\ownM (a.c.os 0) = ownM (a.c.os 0)/\ownM a.b.os = ownM a.b.os/\ownM tabE = ownM tabE/\fM/\ownM a.l.os = ownM b.os/\True
def jD : Prop := 0 = 0/\gu
def lq (a : DevM) (b : DevM) : Prop := (0 = 0/\True/\True/\True/\iC)/\jD/\ownM a.os = ownM b.os/\True
def mY (a : lM) (b : ZWr) : Prop := fU a.a/\dV/\ownM a.w.d'.os = ownM b.d'.os/\Gp a.a
def Aa (a : ZFr) (b : ZFr) : Prop := a.piece = 0/\dM/\(0 : Int) = 0/\dM/\4 = b.code/\a.found = b.found/\emp = b.ans/\fH a.aep b.aep
def abO (a : ZSt) (b : ZTk) (c : Prod Nat Nat) : Prop := (4 : Int) = 4/\a.f.key = b.f.key/\a.f.value = b.f.value/\bW/\dM/\(6 : Int) = 4/\a.f.epoch = b.f.epoch/\bW/\false = false/\(0 : Int) = 0/\a.f.had = b.f.had/\a.f.old.key = b.f.old.key/\a.f.old.id = b.f.old.id/\a.f.old.ver = b.f.old.ver/\a.f.old.line = b.f.old.line/\a.f.old.cls = b.f.old.cls/\a.f.line = 2 + (c.1 : Int) * 8 + (c.2 : Int) * spn (b.c (4 : Int))/\a.c (4 : Int) = b.c (4 : Int)/\Aa a.f b.f
def abP (a : ZSt) (b : ZTk) (c : Prod Nat Nat) : Prop := (5 : Int) = 5/\a.f.key = b.f.key/\a.f.value = b.f.value/\bW/\dM/\(6 : Int) = 4/\a.f.epoch = b.f.epoch/\bW/\false = false/\(0 : Int) = 0/\a.f.had = b.f.had/\a.f.old.key = b.f.old.key/\a.f.old.id = b.f.old.id/\a.f.old.ver = b.f.old.ver/\a.f.old.line = b.f.old.line/\a.f.old.cls = b.f.old.cls/\a.f.line = 2 + (c.1 : Int) * 8 + (c.2 : Int) * spn (b.c (5 : Int))/\a.c (5 : Int) = b.c (5 : Int)/\Aa a.f b.f
def Ac (a : ZFr) (b : ZFr) : Prop := 0 = a.piece/\dM/\(0 : Int) = 0/\dM/\b.code = 4/\b.found = a.found/\b.ans = emp/\fH b.aep a.aep
def abQ (a : ZSt) (b : ZTk) (c : Prod Nat Nat) : Prop := (4 : Int) = 4/\a.f.key = b.f.key/\a.f.value = b.f.value/\bW/\dM/\(4 : Int) = 6/\a.f.epoch = b.f.epoch/\bW/\false = false/\(0 : Int) = 0/\a.f.had = b.f.had/\a.f.old.key = b.f.old.key/\a.f.old.id = b.f.old.id/\a.f.old.ver = b.f.old.ver/\a.f.old.line = b.f.old.line/\a.f.old.cls = b.f.old.cls/\2 + (c.1 : Int) * 8 + (c.2 : Int) * spn (a.c (4 : Int)) = b.f.line/\a.c (4 : Int) = b.c (4 : Int)/\Ac b.f a.f
def abR (a : ZSt) (b : ZTk) (c : Prod Nat Nat) : Prop := (5 : Int) = 5/\a.f.key = b.f.key/\a.f.value = b.f.value/\bW/\dM/\(4 : Int) = 6/\a.f.epoch = b.f.epoch/\bW/\false = false/\(0 : Int) = 0/\a.f.had = b.f.had/\a.f.old.key = b.f.old.key/\a.f.old.id = b.f.old.id/\a.f.old.ver = b.f.old.ver/\a.f.old.line = b.f.old.line/\a.f.old.cls = b.f.old.cls/\2 + (c.1 : Int) * 8 + (c.2 : Int) * spn (a.c (5 : Int)) = b.f.line/\a.c (5 : Int) = b.c (5 : Int)/\Ac b.f a.f
def Ad (a : ZFr) (b : ZFr) : Prop := a.piece = b.piece/\dM/\(0 : Int) = 0/\dM/\(4 : Int) = 4/\a.found = b.found/\emp = emp/\fH a.aep b.aep
def abS (a : ZSt) (b : ZTk) : Prop := (4 : Int) = 4/\a.f.key = b.f.key/\a.f.value = b.f.value/\bW/\dM/\(6 : Int) = 6/\a.f.epoch = b.f.epoch/\bW/\false = false/\(0 : Int) = 0/\a.f.had = b.f.had/\a.f.old.key = b.f.old.key/\a.f.old.id = b.f.old.id/\a.f.old.ver = b.f.old.ver/\a.f.old.line = b.f.old.line/\a.f.old.cls = b.f.old.cls/\a.f.line = b.f.line/\a.c (4 : Int) = b.c (4 : Int)/\Ad a.f b.f
def abT (a : ZSt) (b : ZTk) : Prop := (5 : Int) = 5/\a.f.key = b.f.key/\a.f.value = b.f.value/\bW/\dM/\(6 : Int) = 6/\a.f.epoch = b.f.epoch/\bW/\false = false/\(0 : Int) = 0/\a.f.had = b.f.had/\a.f.old.key = b.f.old.key/\a.f.old.id = b.f.old.id/\a.f.old.ver = b.f.old.ver/\a.f.old.line = b.f.old.line/\a.f.old.cls = b.f.old.cls/\a.f.line = b.f.line/\a.c (5 : Int) = b.c (5 : Int)/\Ad a.f b.f
def su (a : ZArn) (b : DevM) : Prop := dV/\ownM a.d.os = ownM b.os/\Gp a
def abU (a : ZSt) (b : ZTk) (c : Prod Nat Nat) (d : Prod Nat Nat) : Prop := (4 : Int) = 4/\a.f.key = b.f.key/\a.f.value = b.f.value/\bW/\dM/\(4 : Int) = 4/\a.f.epoch = b.f.epoch/\bW/\false = false/\(0 : Int) = 0/\a.f.had = b.f.had/\a.f.old.key = b.f.old.key/\a.f.old.id = b.f.old.id/\a.f.old.ver = b.f.old.ver/\a.f.old.line = b.f.old.line/\a.f.old.cls = b.f.old.cls/\2 + (c.1 : Int) * 8 + (c.2 : Int) * spn (a.c (4 : Int)) = 2 + (d.1 : Int) * 8 + (d.2 : Int) * spn (b.c (4 : Int))/\a.c (4 : Int) = b.c (4 : Int)/\(0 : Int) = 0/\fK a.f b.f
def abV (a : ZSt) (b : ZTk) (c : Prod Nat Nat) (d : Prod Nat Nat) : Prop := (5 : Int) = 5/\a.f.key = b.f.key/\a.f.value = b.f.value/\bW/\dM/\(4 : Int) = 4/\a.f.epoch = b.f.epoch/\bW/\false = false/\(0 : Int) = 0/\a.f.had = b.f.had/\a.f.old.key = b.f.old.key/\a.f.old.id = b.f.old.id/\a.f.old.ver = b.f.old.ver/\a.f.old.line = b.f.old.line/\a.f.old.cls = b.f.old.cls/\2 + (c.1 : Int) * 8 + (c.2 : Int) * spn (a.c (5 : Int)) = 2 + (d.1 : Int) * 8 + (d.2 : Int) * spn (b.c (5 : Int))/\a.c (5 : Int) = b.c (5 : Int)/\(0 : Int) = 0/\fK a.f b.f
def abW (a : ZWr) (b : lM) : Prop := 0 = 0/\dP a.t b.t/\((4 : Int) = 4/\a.f.key = b.f.key/\a.f.value = b.f.value/\bW/\dM/\(4 : Int) = 4/\a.f.epoch = b.f.epoch/\bW/\false = false/\(0 : Int) = 0/\a.f.had = b.f.had/\a.f.old.key = b.f.old.key/\a.f.old.id = b.f.old.id/\a.f.old.ver = b.f.old.ver/\a.f.old.line = b.f.old.line/\a.f.old.cls = b.f.old.cls/\dP a.ln b.ln/\a.c = b.c/\dP a.p b.p/\fK a.f b.f)/\True
def abX (a : ZRe) (b : jK) : Prop := 0 = 0/\dP a.t b.t/\((5 : Int) = 5/\a.f.key = b.f.key/\a.f.value = b.f.value/\bW/\dM/\(2 : Int) = 2/\a.f.epoch = b.f.epoch/\bW/\false = false/\(0 : Int) = 0/\true = true/\bW/\a.b.id = b.b.id/\a.b.ver = b.b.ver/\dP a.ln b.ln/\a.b.cls = b.b.cls/\a.f.line = b.f.line/\a.f.cls = b.f.cls/\dP a.p b.p/\(0 = 0/\64 * a.p = 64 * b.p)/\iw a.f b.f)/\True
def abY (a : ZSt) (b : ZFi) : Prop := (5 : Int) = 5/\a.f.key = b.f.key/\a.f.value = b.f.value/\bW/\dM/\(2 : Int) = 2/\a.f.epoch = b.f.epoch/\bW/\false = false/\(0 : Int) = 0/\true = true/\a.a.l.head.key = b.l.head.key/\a.a.l.head.id = b.l.head.id/\a.a.l.head.ver = b.l.head.ver/\a.a.l.head.line = b.l.head.line/\a.a.l.head.cls = b.l.head.cls/\a.f.line = b.f.line/\a.f.cls = b.f.cls/\(0 : Int) = 0/\fK a.f b.f
def abZ (a : lM) (b : ZWr) : Prop := (4 : Int) = 4/\a.f.key = b.f.key/\a.f.value = b.f.value/\bW/\dM/\(4 : Int) = 4/\a.f.epoch = b.f.epoch/\bW/\false = false/\(0 : Int) = 0/\a.f.had = b.f.had/\a.f.old.key = b.f.old.key/\a.f.old.id = b.f.old.id/\a.f.old.ver = b.f.old.ver/\a.f.old.line = b.f.old.line/\a.f.old.cls = b.f.old.cls/\dP a.ln b.ln/\a.c = b.c/\(a.p : Int) + 1 = (b.p : Int) + 1/\fK a.f b.f
def Om (a : jK) (b : ZRe) : Prop := (5 : Int) = 5/\a.f.key = b.f.key/\a.f.value = b.f.value/\bW/\dM/\(2 : Int) = 2/\a.f.epoch = b.f.epoch/\bW/\false = false/\(0 : Int) = 0/\true = true/\bW/\a.b.id = b.b.id/\a.b.ver = b.b.ver/\dP a.ln b.ln/\a.b.cls = b.b.cls/\a.f.line = b.f.line/\a.f.cls = b.f.cls/\(a.p : Int) + 1 = (b.p : Int) + 1/\(0 = 0/\64 * (a.p + 1) = 64 * (b.p + 1))/\iw a.f b.f
def Oo (a : lM) (b : ZWr) : Prop := (4 : Int) = 4/\a.f.key = b.f.key/\a.f.value = b.f.value/\bW/\dM/\(5 : Int) = 4/\a.f.epoch = b.f.epoch/\bW/\false = false/\(0 : Int) = 0/\a.f.had = b.f.had/\a.f.old.key = b.f.old.key/\a.f.old.id = b.f.old.id/\a.f.old.ver = b.f.old.ver/\a.f.old.line = b.f.old.line/\a.f.old.cls = b.f.old.cls/\dP a.ln b.ln/\a.c = b.c/\0 = (b.p : Int) + 1/\fK a.f b.f
def Oq (a : lM) (b : ZWr) : Prop := (4 : Int) = 4/\a.f.key = b.f.key/\a.f.value = b.f.value/\bW/\dM/\(4 : Int) = 5/\a.f.epoch = b.f.epoch/\bW/\false = false/\(0 : Int) = 0/\a.f.had = b.f.had/\a.f.old.key = b.f.old.key/\a.f.old.id = b.f.old.id/\a.f.old.ver = b.f.old.ver/\a.f.old.line = b.f.old.line/\a.f.old.cls = b.f.old.cls/\dP a.ln b.ln/\a.c = b.c/\(a.p : Int) + 1 = 0/\fK a.f b.f
def Ot (a : ZRe) (b : jK) : Prop := 0 = 0/\dP a.t b.t/\((5 : Int) = 5/\a.f.key = b.f.key/\a.f.value = b.f.value/\bW/\dM/\(2 : Int) = 2/\a.f.epoch = b.f.epoch/\bW/\false = false/\(0 : Int) = 0/\true = true/\bW/\a.b.id = b.b.id/\a.b.ver = b.b.ver/\dP a.ln b.ln/\a.b.cls = b.b.cls/\a.f.line = b.f.line/\a.f.cls = b.f.cls/\(0 : Int) = 0/\fK a.f b.f)/\True
def Ou (a : ZSt) (b : ZFr) : Prop := (5 : Int) = 5/\a.f.key = b.key/\a.f.value = b.value/\bW/\dM/\(2 : Int) = 6/\a.f.epoch = b.epoch/\bW/\false = false/\(0 : Int) = 0/\true = false/\a.a.l.head.key = ByteArray.mk #[]/\a.a.l.head.id = 0/\a.a.l.head.ver = 0/\a.a.l.head.line = 0/\a.a.l.head.cls = 0/\a.f.line = b.line/\a.f.cls = b.cls/\0 = b.piece/\fK a.f b
def Ov (a : ZFr) (b : ZFi) : Prop := (5 : Int) = 5/\a.key = b.f.key/\a.value = b.f.value/\bW/\dM/\(6 : Int) = 2/\a.epoch = b.f.epoch/\bW/\false = false/\(0 : Int) = 0/\false = true/\ByteArray.mk #[] = b.l.head.key/\0 = b.l.head.id/\0 = b.l.head.ver/\0 = b.l.head.line/\0 = b.l.head.cls/\a.line = b.f.line/\a.cls = b.f.cls/\a.piece = 0/\fK a b.f
def Ox (a : jK) (b : ZRe) : Prop := (5 : Int) = 5/\a.f.key = b.f.key/\a.f.value = b.f.value/\bW/\dM/\(2 : Int) = 2/\a.f.epoch = b.f.epoch/\bW/\false = false/\(0 : Int) = 0/\true = true/\bW/\a.b.id = b.b.id/\a.b.ver = b.b.ver/\dP a.ln b.ln/\a.b.cls = b.b.cls/\a.f.line = b.f.line/\a.f.cls = b.f.cls/\(1 : Int) = 1/\(0 = 0/\64 = 64)/\iw a.f b.f
def kH (a : ClkM) (b : ClkM) : Prop := ownM (a.os 0) = ownM (b.os 0)
def Oy (a : ZFr) (b : ZFr) : Prop := (5 : Int) = 5/\a.key = b.key/\a.value = b.value/\bW/\dM/\(6 : Int) = 6/\a.epoch = b.epoch/\bW/\false = false/\(0 : Int) = 0/\false = false/\bW/\(0 : Int) = 0/\(0 : Int) = 0/\(0 : Int) = 0/\(0 : Int) = 0/\a.line = b.line/\a.cls = b.cls/\a.piece = b.piece/\fK a b
def sD (a : ZEn) (b : ZArn) : Prop := (True/\True/\0 = 0/\0 = 0/\iC)/\ownM a.r.os = ownM b.r.os/\kH a.c b.c/\True
def gy (a : Int) : Prop := Hd ((1 : Int) ≠ spn a)
def Ae (a : ZSt) : Prop := Hd (∀ i : Nat,i < a.a.p.n->a.a.p.cls i ≠ (-(1 : Int))/\a.a.p.full (a.c (4 : Int)) i)
def Af (a : ZSt) : Prop := Hd (∀ i : Nat,i < a.a.p.n->a.a.p.cls i ≠ (-(1 : Int))/\a.a.p.full (a.c (5 : Int)) i)
def sF (a : ZFr) (b : ZFr) : Prop := a.key = b.key/\a.value = b.value/\bW/\dM/\(0 : Int) = 0/\jU a b
def sG (a : ZFr) (b : ZFr) : Prop := a.key = b.key/\a.value = b.value/\bW/\dM/\(3 : Int) = 3/\jU a b
def sH (a : ZFr) (b : ZFr) : Prop := a.key = b.key/\a.value = b.value/\bW/\dM/\(6 : Int) = 6/\jU a b
def sJ (a : ZFr) (b : ZFr) : Prop := a.key = b.key/\a.value = b.value/\bW/\dM/\(7 : Int) = 7/\jU a b
def Oz (a : ZRe) (b : jK) : Prop := (0 = 0/\True/\True/\True/\iC)/\jD/\ownM a.d.os = ownM b.a.d.os/\(64 * a.p = 64 * b.p/\∀ q : Nat,q < 64 * a.p->nZ a.b q b.b)/\True
def sK (a : jK) : Prop := Hd ((a.p : Int) + 1 = spn a.b.cls/\0<=a.f.line)
def sN (a : jK) : Prop := Hd ((a.p : Int) + 1 = spn a.b.cls/\a.f.line < 0)
def Ag (a : ZSt) (b : ZEn) : Prop := ownM (ZRd.os (a.a.r.put a.t a.a.r.now)) = ownM (ZRd.os (b.r.put b.t b.r.now))
def sO (a : ZSt) (b : ZLv) : Prop := ownM (ZRd.os (a.a.r.put a.t (0 : Int))) = ownM (ZRd.os (b.r.put b.t (0 : Int)))
def sQ (a : ZRd) (b : ZRd) : Prop := (True/\True/\0 = 0/\True/\iC)/\ownM a.os = ownM b.os/\True
def sS (a : dw) (b : dw) : Prop := (True/\0 = 0/\True/\True/\iC)/\ownM a.os = ownM b.os/\True
def sU (a : ZEn) : Prop := Hd (a.r.ok/\a.c.ok/\a.t < a.r.t/\a.r.has a.t = 0)
def wB (a : jK) (b : ZRe) : Prop := fU a.a/\KX a b/\su a.a b.d
def wC (a : jK) (b : ZRe) : Prop := fP a.a/\KX a b/\rZ a.a b.d
def Gq (a : jK) : Prop := Hd ((a.p : Int) + 1 ≠ spn a.b.cls)
def Ah (a : jK) : Prop := ∃ y_1 : Unit,Gq a/\False
def sV (a : jK) : Prop := Hd (1 = spn a.b.cls/\0<=a.f.line)
def sW (a : jK) : Prop := Hd (1 = spn a.b.cls/\a.f.line < 0)
def OA (a : ZFi) (b : ZSt) : Prop := 0 = 0/\dP a.t b.t/\((5 : Int) = 5/\a.f.key = b.f.key/\a.f.value = b.f.value/\bW/\dM/\(1 : Int) = 1/\jU a.f b.f)/\True
def sZ (a : ByteArray) : Prop := Hd ((4 : Int) = 4/\400 < a.size)
def tq (a : ByteArray) : Prop := Hd ((4 : Int) = 4->a.size<=400)
def tu (a : ByteArray) : Prop := Hd ((5 : Int) = 4/\400 < a.size)
def tC (a : ByteArray) : Prop := Hd ((5 : Int) = 4->a.size<=400)
def OB (a : ZSt) (b : ZEn) : Prop := fU a.a/\dV/\eU a.a.d/\fQ a.a.p/\ownM (ZRd.os (a.a.r.put a.t a.a.r.now)) = ownM b.r.os/\kH a.a.c b.c/\kZ a.a
def OC (a : ZSt) (b : ZEn) : Prop := fP a.a/\dV/\eU a.a.d/\fQ a.a.p/\ownM (ZRd.os (a.a.r.put a.t a.a.r.now)) = ownM b.r.os/\kH a.a.c b.c/\uK a.a
def OD (a : ZArn) (b : ZEn) : Prop := fU a/\dV/\eU a.d/\fQ a.p/\ownM a.r.os = ownM (ZRd.os (b.r.put b.t b.r.now))/\kH a.c b.c/\kZ a
def OE (a : ZSt) (b : ZEn) : Prop := (4 : Int) = 4/\a.f.key = b.f.key/\a.f.value = b.f.value/\bW/\dM/\(3 : Int) = 3/\a.a.c.now = b.c.now/\rY a.f b.f
def OG (a : ZArn) (b : ZEn) : Prop := fP a/\dV/\eU a.d/\fQ a.p/\ownM a.r.os = ownM (ZRd.os (b.r.put b.t b.r.now))/\kH a.c b.c/\uK a
def OH (a : ZSt) (b : ZEn) : Prop := (5 : Int) = 5/\a.f.key = b.f.key/\a.f.value = b.f.value/\bW/\dM/\(1 : Int) = 1/\a.a.c.now = b.c.now/\rY a.f b.f
def OI (a : ZLn) (b : ZLn) : Prop := (True/\True/\True/\True/\True/\True/\True/\jD)/\ownM a.os = ownM b.os/\True
def OJ (a : ZArn) (b : ZEn) : Prop := fU a/\dV/\eU a.d/\fQ a.p/\ownM a.r.os = ownM b.r.os/\kH a.c b.c/\kZ a
def OL (a : ZArn) (b : ZEn) : Prop := fP a/\dV/\eU a.d/\fQ a.p/\ownM a.r.os = ownM b.r.os/\kH a.c b.c/\uK a
def tH (a : ZTk) : Prop := Hd (a.p.ok/\a.f.value.size<=400)
def OM (a : jK) (b : ZRe) : Prop := (5 : Int) = 5/\a.f.key = b.f.key/\a.f.value = b.f.value/\bW/\dM/\(3 : Int) = 2/\abN a b
def OO (a : jK) (b : ZRe) : Prop := (5 : Int) = 5/\a.f.key = b.f.key/\a.f.value = b.f.value/\bW/\dM/\(5 : Int) = 2/\abN a b
def OQ (a : jK) (b : ZRe) : Prop := (5 : Int) = 5/\a.f.key = b.f.key/\a.f.value = b.f.value/\bW/\dM/\(3 : Int) = 3/\KT a b
def OT (a : jK) (b : ZRe) : Prop := (5 : Int) = 5/\a.f.key = b.f.key/\a.f.value = b.f.value/\bW/\dM/\(5 : Int) = 3/\KT a b
def OU (a : jK) (b : ZRe) : Prop := (5 : Int) = 5/\a.f.key = b.f.key/\a.f.value = b.f.value/\bW/\dM/\(3 : Int) = 5/\KT a b
def OV (a : jK) (b : ZRe) : Prop := (5 : Int) = 5/\a.f.key = b.f.key/\a.f.value = b.f.value/\bW/\dM/\(5 : Int) = 5/\KT a b
def OW (a : jK) (b : ZRe) : Prop := (5 : Int) = 5/\a.f.key = b.f.key/\a.f.value = b.f.value/\bW/\dM/\(3 : Int) = 2/\abM a b
def OX (a : jK) (b : ZRe) : Prop := (5 : Int) = 5/\a.f.key = b.f.key/\a.f.value = b.f.value/\bW/\dM/\(5 : Int) = 2/\abM a b
def OY (a : jK) (b : ZRe) : Prop := (5 : Int) = 5/\a.f.key = b.f.key/\a.f.value = b.f.value/\bW/\dM/\(3 : Int) = 3/\KR a b
def OZ (a : jK) (b : ZRe) : Prop := (5 : Int) = 5/\a.f.key = b.f.key/\a.f.value = b.f.value/\bW/\dM/\(5 : Int) = 3/\KR a b
def O1 (a : jK) (b : ZRe) : Prop := (5 : Int) = 5/\a.f.key = b.f.key/\a.f.value = b.f.value/\bW/\dM/\(3 : Int) = 5/\KR a b
def O4 (a : jK) (b : ZRe) : Prop := (5 : Int) = 5/\a.f.key = b.f.key/\a.f.value = b.f.value/\bW/\dM/\(5 : Int) = 5/\KR a b
def O5 (a : ZSt) (b : ZFr) : Prop := (4 : Int) = 4/\a.f.key = b.key/\a.f.value = b.value/\bW/\dM/\(3 : Int) = 7/\KU a b
def O6 (a : ZFr) (b : ZEn) : Prop := (4 : Int) = 4/\a.key = b.f.key/\a.value = b.f.value/\bW/\dM/\(7 : Int) = 3/\KW a b
def O7 (a : ZSt) (b : ZFr) : Prop := (5 : Int) = 5/\a.f.key = b.key/\a.f.value = b.value/\bW/\dM/\(1 : Int) = 7/\KU a b
def O8 (a : ZFr) (b : ZEn) : Prop := (5 : Int) = 5/\a.key = b.f.key/\a.value = b.f.value/\bW/\dM/\(7 : Int) = 1/\KW a b
def O9 (a : ZSt) (b : ZEn) : Prop := fU a.a/\dV/\eU a.a.d/\fQ a.a.p/\Ag a b/\kH a.a.c b.c/\kZ a.a
def Pg (a : ZSt) (b : ZEn) : Prop := fP a.a/\dV/\eU a.a.d/\fQ a.a.p/\Ag a b/\kH a.a.c b.c/\uK a.a
def Ph (a : ZTk) : Prop := Hd (∀ i : Nat,i < a.p.n->a.p.cls i ≠ (-(1 : Int))/\a.p.full (a.c (4 : Int)) i)
def Pj (a : ZTk) : Prop := Hd (∀ i : Nat,i < a.p.n->a.p.cls i ≠ (-(1 : Int))/\a.p.full (a.c (5 : Int)) i)
def Ai (x : ZSt) : Prop :=
 ∃ x_1 : ZEn,sU x_1/\(0 = 0/\dP x_1.t x.t/\((4 : Int) = 4/\sF x_1.f x.f)/\True)/\sD x_1 x.a/\(∀ y : Unit,sZ x_1.f.value->(∃ y_1 : Unit,sZ x.f.value/\((4 : Int) = 4/\BJ x.f x_1.f)/\OJ x.a x_1) ∨ ∃ y_1 : Unit,tq x.f.value/\O5 x x_1.f/\OB x x_1)/\∀ y : Unit,tq x_1.f.value->(∃ y_1 : Unit,sZ x.f.value/\O6 x.f x_1/\OD x.a x_1) ∨ ∃ y_1 : Unit,tq x.f.value/\OE x x_1/\O9 x x_1
theorem Pm (x : ZSt) : Ai x = ctrT (qB 4) ((iT 4).N.args x) (hO 10 (dK 1 ((iT 4).N.l x))) (fun v h' => cO 1 x v h' (iT 4).N.outs) := by kernel_rfl
def Aj (x : ZSt) : Prop :=
 ∃ x_1 : ZEn,sU x_1/\(0 = 0/\dP x_1.t x.t/\((4 : Int) = 4/\sF x_1.f x.f)/\True)/\sD x_1 x.a/\(∀ y : Unit,sZ x_1.f.value->(∃ y_1 : Unit,sZ x.f.value/\((4 : Int) = 4/\BJ x.f x_1.f)/\OL x.a x_1) ∨ ∃ y_1 : Unit,tq x.f.value/\O5 x x_1.f/\OC x x_1)/\∀ y : Unit,tq x_1.f.value->(∃ y_1 : Unit,sZ x.f.value/\O6 x.f x_1/\OG x.a x_1) ∨ ∃ y_1 : Unit,tq x.f.value/\OE x x_1/\Pg x x_1
theorem Pn (x : ZSt) : Aj x = ctrT (qB 4) ((iT 4).P.args x) (hO 11 (dK 1 ((iT 4).P.l x))) (fun v h' => cO 1 x v h' (iT 4).P.outs) := by kernel_rfl
def Ak (x : ZSt) : Prop :=
 ∃ x_1 : ZEn,sU x_1/\(0 = 0/\dP x_1.t x.t/\((5 : Int) = 5/\sF x_1.f x.f)/\True)/\sD x_1 x.a/\(∀ y : Unit,tu x_1.f.value->(∃ y_1 : Unit,tu x.f.value/\((5 : Int) = 5/\BJ x.f x_1.f)/\OJ x.a x_1) ∨ ∃ y_1 : Unit,tC x.f.value/\O7 x x_1.f/\OB x x_1)/\∀ y : Unit,tC x_1.f.value->(∃ y_1 : Unit,tu x.f.value/\O8 x.f x_1/\OD x.a x_1) ∨ ∃ y_1 : Unit,tC x.f.value/\OH x x_1/\O9 x x_1
theorem Po (x : ZSt) : Ak x = ctrT (qB 5) ((iT 5).N.args x) (hO 10 (dK 1 ((iT 5).N.l x))) (fun v h' => cO 1 x v h' (iT 5).N.outs) := by kernel_rfl
def Am (x : ZSt) : Prop :=
 ∃ x_1 : ZEn,sU x_1/\(0 = 0/\dP x_1.t x.t/\((5 : Int) = 5/\sF x_1.f x.f)/\True)/\sD x_1 x.a/\(∀ y : Unit,tu x_1.f.value->(∃ y_1 : Unit,tu x.f.value/\((5 : Int) = 5/\BJ x.f x_1.f)/\OL x.a x_1) ∨ ∃ y_1 : Unit,tC x.f.value/\O7 x x_1.f/\OC x x_1)/\∀ y : Unit,tC x_1.f.value->(∃ y_1 : Unit,tu x.f.value/\O8 x.f x_1/\OG x.a x_1) ∨ ∃ y_1 : Unit,tC x.f.value/\OH x x_1/\Pg x x_1
theorem Pq (x : ZSt) : Am x = ctrT (qB 5) ((iT 5).P.args x) (hO 11 (dK 1 ((iT 5).P.l x))) (fun v h' => cO 1 x v h' (iT 5).P.outs) := by kernel_rfl
def Pv (x : ZSt) : Prop :=
 ∃ x_1 : ZFi,Hd (x_1.l.ok/\x_1.f.line = (-(1 : Int)))/\OA x_1 x/\OI x_1.l x.a.l/\(∀ y : Unit,Hd (x_1.l.n = 0)->(∃ y_1 : Unit,Hd (x.a.l.n = 0)/\Oy x.f x_1.f/\UM x.a x_1.l) ∨ ∃ y_1 : Unit,Hd (x.a.l.n ≠ 0)/\Ou x x_1.f/\UM x.a x_1.l)/\∀ y : Unit,Hd (x_1.l.n ≠ 0)->(∃ y_1 : Unit,Hd (x.a.l.n = 0)/\Ov x.f x_1/\UM x.a x_1.l) ∨ ∃ y_1 : Unit,Hd (x.a.l.n ≠ 0)/\abY x x_1/\UM x.a x_1.l
theorem YN (x : ZSt) : Pv x = ctrT YC (zX.N.args x) (hO 10 (dK 1 (zX.N.l x))) (fun v h' => cO 1 x v h' zX.N.outs) := by kernel_rfl
def Px (x : ZSt) : Prop :=
 ∃ x_1 : ZFi,Hd (x_1.l.ok/\x_1.f.line = (-(1 : Int)))/\OA x_1 x/\OI x_1.l x.a.l/\(∀ y : Unit,Hd (x_1.l.n = 0)->(∃ y_1 : Unit,Hd (x.a.l.n = 0)/\Oy x.f x_1.f/\UL x.a x_1.l) ∨ ∃ y_1 : Unit,Hd (x.a.l.n ≠ 0)/\Ou x x_1.f/\UL x.a x_1.l)/\∀ y : Unit,Hd (x_1.l.n ≠ 0)->(∃ y_1 : Unit,Hd (x.a.l.n = 0)/\Ov x.f x_1/\UL x.a x_1.l) ∨ ∃ y_1 : Unit,Hd (x.a.l.n ≠ 0)/\abY x x_1/\UL x.a x_1.l
theorem YO (x : ZSt) : Px x = ctrT YC (zX.P.args x) (hO 11 (dK 1 (zX.P.l x))) (fun v h' => cO 1 x v h' zX.P.outs) := by kernel_rfl
def Gs (x : ZSt) : Prop :=
 ∃ x_1 : ZTk,tH x_1/\(0 = 0/\dP x_1.t x.t/\((4 : Int) = 4/\sG x_1.f x.f)/\True)/\sS x_1.p x.a.p/\(∀ y : Unit,Ph x_1->(∃ y_1 : Unit,Ae x/\abS x x_1/\fU x.a/\dV/\eU x.a.d/\ownM x.a.p.os = ownM x_1.p.os/\lg x.a) ∨ ∃ y_1 : Prod Nat Nat,Hd (x.a.p.takes (x.c (4 : Int)) y_1.1 y_1.2)/\abQ x x_1 y_1/\fU x.a/\dV/\eU x.a.d/\ownM (dw.os (x.a.p.take (x.c (4 : Int)) y_1.1 y_1.2)) = ownM x_1.p.os/\lg x.a)/\∀ y : Prod Nat Nat,Hd (x_1.p.takes (x_1.c (4 : Int)) y.1 y.2)->(∃ y_1 : Unit,Ae x/\abO x x_1 y/\fU x.a/\dV/\eU x.a.d/\ownM x.a.p.os = ownM (dw.os (x_1.p.take (x_1.c (4 : Int)) y.1 y.2))/\lg x.a) ∨ ∃ y_1 : Prod Nat Nat,Hd (x.a.p.takes (x.c (4 : Int)) y_1.1 y_1.2)/\abU x x_1 y_1 y/\fU x.a/\dV/\eU x.a.d/\ownM (dw.os (x.a.p.take (x.c (4 : Int)) y_1.1 y_1.2)) = ownM (dw.os (x_1.p.take (x_1.c (4 : Int)) y.1 y.2))/\lg x.a
theorem UN (x : ZSt) : Gs x = ctrT (CX 4) ((lK 4).N.args x) (hO 10 (dK 1 ((lK 4).N.l x))) (fun v h' => cO 1 x v h' (lK 4).N.outs) := by kernel_rfl
def Gt (x : ZSt) : Prop :=
 ∃ x_1 : ZTk,tH x_1/\(0 = 0/\dP x_1.t x.t/\((4 : Int) = 4/\sG x_1.f x.f)/\True)/\sS x_1.p x.a.p/\(∀ y : Unit,Ph x_1->(∃ y_1 : Unit,Ae x/\abS x x_1/\fP x.a/\dV/\eU x.a.d/\ownM x.a.p.os = ownM x_1.p.os/\rX x.a) ∨ ∃ y_1 : Prod Nat Nat,Hd (x.a.p.takes (x.c (4 : Int)) y_1.1 y_1.2)/\abQ x x_1 y_1/\fP x.a/\dV/\eU x.a.d/\ownM (dw.os (x.a.p.take (x.c (4 : Int)) y_1.1 y_1.2)) = ownM x_1.p.os/\rX x.a)/\∀ y : Prod Nat Nat,Hd (x_1.p.takes (x_1.c (4 : Int)) y.1 y.2)->(∃ y_1 : Unit,Ae x/\abO x x_1 y/\fP x.a/\dV/\eU x.a.d/\ownM x.a.p.os = ownM (dw.os (x_1.p.take (x_1.c (4 : Int)) y.1 y.2))/\rX x.a) ∨ ∃ y_1 : Prod Nat Nat,Hd (x.a.p.takes (x.c (4 : Int)) y_1.1 y_1.2)/\abU x x_1 y_1 y/\fP x.a/\dV/\eU x.a.d/\ownM (dw.os (x.a.p.take (x.c (4 : Int)) y_1.1 y_1.2)) = ownM (dw.os (x_1.p.take (x_1.c (4 : Int)) y.1 y.2))/\rX x.a
theorem UO (x : ZSt) : Gt x = ctrT (CX 4) ((lK 4).P.args x) (hO 11 (dK 1 ((lK 4).P.l x))) (fun v h' => cO 1 x v h' (lK 4).P.outs) := by kernel_rfl
def Gu (x : ZSt) : Prop :=
 ∃ x_1 : ZTk,tH x_1/\(0 = 0/\dP x_1.t x.t/\((5 : Int) = 5/\sG x_1.f x.f)/\True)/\sS x_1.p x.a.p/\(∀ y : Unit,Pj x_1->(∃ y_1 : Unit,Af x/\abT x x_1/\fU x.a/\dV/\eU x.a.d/\ownM x.a.p.os = ownM x_1.p.os/\lg x.a) ∨ ∃ y_1 : Prod Nat Nat,Hd (x.a.p.takes (x.c (5 : Int)) y_1.1 y_1.2)/\abR x x_1 y_1/\fU x.a/\dV/\eU x.a.d/\ownM (dw.os (x.a.p.take (x.c (5 : Int)) y_1.1 y_1.2)) = ownM x_1.p.os/\lg x.a)/\∀ y : Prod Nat Nat,Hd (x_1.p.takes (x_1.c (5 : Int)) y.1 y.2)->(∃ y_1 : Unit,Af x/\abP x x_1 y/\fU x.a/\dV/\eU x.a.d/\ownM x.a.p.os = ownM (dw.os (x_1.p.take (x_1.c (5 : Int)) y.1 y.2))/\lg x.a) ∨ ∃ y_1 : Prod Nat Nat,Hd (x.a.p.takes (x.c (5 : Int)) y_1.1 y_1.2)/\abV x x_1 y_1 y/\fU x.a/\dV/\eU x.a.d/\ownM (dw.os (x.a.p.take (x.c (5 : Int)) y_1.1 y_1.2)) = ownM (dw.os (x_1.p.take (x_1.c (5 : Int)) y.1 y.2))/\lg x.a
theorem UQ (x : ZSt) : Gu x = ctrT (CX 5) ((lK 5).N.args x) (hO 10 (dK 1 ((lK 5).N.l x))) (fun v h' => cO 1 x v h' (lK 5).N.outs) := by kernel_rfl
def Gv (x : ZSt) : Prop :=
 ∃ x_1 : ZTk,tH x_1/\(0 = 0/\dP x_1.t x.t/\((5 : Int) = 5/\sG x_1.f x.f)/\True)/\sS x_1.p x.a.p/\(∀ y : Unit,Pj x_1->(∃ y_1 : Unit,Af x/\abT x x_1/\fP x.a/\dV/\eU x.a.d/\ownM x.a.p.os = ownM x_1.p.os/\rX x.a) ∨ ∃ y_1 : Prod Nat Nat,Hd (x.a.p.takes (x.c (5 : Int)) y_1.1 y_1.2)/\abR x x_1 y_1/\fP x.a/\dV/\eU x.a.d/\ownM (dw.os (x.a.p.take (x.c (5 : Int)) y_1.1 y_1.2)) = ownM x_1.p.os/\rX x.a)/\∀ y : Prod Nat Nat,Hd (x_1.p.takes (x_1.c (5 : Int)) y.1 y.2)->(∃ y_1 : Unit,Af x/\abP x x_1 y/\fP x.a/\dV/\eU x.a.d/\ownM x.a.p.os = ownM (dw.os (x_1.p.take (x_1.c (5 : Int)) y.1 y.2))/\rX x.a) ∨ ∃ y_1 : Prod Nat Nat,Hd (x.a.p.takes (x.c (5 : Int)) y_1.1 y_1.2)/\abV x x_1 y_1 y/\fP x.a/\dV/\eU x.a.d/\ownM (dw.os (x.a.p.take (x.c (5 : Int)) y_1.1 y_1.2)) = ownM (dw.os (x_1.p.take (x_1.c (5 : Int)) y.1 y.2))/\rX x.a
theorem UR (x : ZSt) : Gv x = ctrT (CX 5) ((lK 5).P.args x) (hO 11 (dK 1 ((lK 5).P.l x))) (fun v h' => cO 1 x v h' (lK 5).P.outs) := by kernel_rfl
def Ap (x : ZSt) : Prop :=
 ∃ x_1 : ZLv,Hd (x_1.r.ok/\x_1.t < x_1.r.t)/\(0 = 0/\dP x_1.t x.t/\((4 : Int) = 4/\sH x_1.f x.f)/\True)/\sQ x_1.r x.a.r/\∀ y : Unit,True->∃ y_1 : Unit,True/\((4 : Int) = 4/\sJ x.f x_1.f)/\fU x.a/\dV/\eU x.a.d/\fQ x.a.p/\sO x x_1/\qH x.a
theorem Py (x : ZSt) : Ap x = ctrT (qC 4) ((iU 4).N.args x) (hO 10 (dK 1 ((iU 4).N.l x))) (fun v h' => cO 1 x v h' (iU 4).N.outs) := by kernel_rfl
def Aq (x : ZSt) : Prop :=
 ∃ x_1 : ZLv,Hd (x_1.r.ok/\x_1.t < x_1.r.t)/\(0 = 0/\dP x_1.t x.t/\((4 : Int) = 4/\sH x_1.f x.f)/\True)/\sQ x_1.r x.a.r/\∀ y : Unit,True->∃ y_1 : Unit,True/\((4 : Int) = 4/\sJ x.f x_1.f)/\fP x.a/\dV/\eU x.a.d/\fQ x.a.p/\sO x x_1/\CY x.a
theorem Pz (x : ZSt) : Aq x = ctrT (qC 4) ((iU 4).P.args x) (hO 11 (dK 1 ((iU 4).P.l x))) (fun v h' => cO 1 x v h' (iU 4).P.outs) := by kernel_rfl
def Ar (x : ZSt) : Prop :=
 ∃ x_1 : ZLv,Hd (x_1.r.ok/\x_1.t < x_1.r.t)/\(0 = 0/\dP x_1.t x.t/\((5 : Int) = 5/\sH x_1.f x.f)/\True)/\sQ x_1.r x.a.r/\∀ y : Unit,True->∃ y_1 : Unit,True/\((5 : Int) = 5/\sJ x.f x_1.f)/\fU x.a/\dV/\eU x.a.d/\fQ x.a.p/\sO x x_1/\qH x.a
theorem PD (x : ZSt) : Ar x = ctrT (qC 5) ((iU 5).N.args x) (hO 10 (dK 1 ((iU 5).N.l x))) (fun v h' => cO 1 x v h' (iU 5).N.outs) := by kernel_rfl
def Au (x : ZSt) : Prop :=
 ∃ x_1 : ZLv,Hd (x_1.r.ok/\x_1.t < x_1.r.t)/\(0 = 0/\dP x_1.t x.t/\((5 : Int) = 5/\sH x_1.f x.f)/\True)/\sQ x_1.r x.a.r/\∀ y : Unit,True->∃ y_1 : Unit,True/\((5 : Int) = 5/\sJ x.f x_1.f)/\fP x.a/\dV/\eU x.a.d/\fQ x.a.p/\sO x x_1/\CY x.a
theorem PE (x : ZSt) : Au x = ctrT (qC 5) ((iU 5).P.args x) (hO 11 (dK 1 ((iU 5).P.l x))) (fun v h' => cO 1 x v h' (iU 5).P.outs) := by kernel_rfl
def wF (x : lM) : Prop :=
 ∃ x_1 : ZWr,Hd (x_1.ok/\x_1.p = 0)/\(0 = 0/\dP x_1.t x.t/\((4 : Int) = 4/\BK x_1 x)/\True)/\lq x_1.d x.a.d/\(∀ y : Unit,gy x_1.c->(∃ y_1 : Unit,gy x.c/\((4 : Int) = 4/\BL x x_1)/\mY x x_1) ∨ ∃ y_1 : Unit,Hd (1 = spn x.c)/\((4 : Int) = 4/\BM x x_1)/\mY x x_1)/\∀ y : Unit,Hd (1 = spn x_1.c)->(∃ y_1 : Unit,gy x.c/\((4 : Int) = 4/\BN x x_1)/\mY x x_1) ∨ ∃ y_1 : Unit,Hd (1 = spn x.c)/\((4 : Int) = 4/\qI x x_1)/\mY x x_1
theorem IC (x : lM) : wF x = ctrT (kR 4) ((gK 4).N.args x) (hO 10 (dK 1 ((gK 4).N.l x))) (fun v h' => cO 1 x v h' (gK 4).N.outs) := by kernel_rfl
def wG (x : lM) : Prop :=
 ∃ x_1 : ZWr,Hd (x_1.ok/\x_1.p = 0)/\(0 = 0/\dP x_1.t x.t/\((4 : Int) = 4/\BK x_1 x)/\True)/\lq x_1.d x.a.d/\(∀ y : Unit,gy x_1.c->(∃ y_1 : Unit,gy x.c/\((4 : Int) = 4/\BL x x_1)/\mX x x_1) ∨ ∃ y_1 : Unit,Hd (1 = spn x.c)/\((4 : Int) = 4/\BM x x_1)/\mX x x_1)/\∀ y : Unit,Hd (1 = spn x_1.c)->(∃ y_1 : Unit,gy x.c/\((4 : Int) = 4/\BN x x_1)/\mX x x_1) ∨ ∃ y_1 : Unit,Hd (1 = spn x.c)/\((4 : Int) = 4/\qI x x_1)/\mX x x_1
theorem IG (x : lM) : wG x = ctrT (kR 4) ((gK 4).P.args x) (hO 11 (dK 1 ((gK 4).P.l x))) (fun v h' => cO 1 x v h' (gK 4).P.outs) := by kernel_rfl
def wH (x : lM) : Prop :=
 ∃ x_1 : ZWr,Hd (x_1.ok/\x_1.p = 0)/\(0 = 0/\dP x_1.t x.t/\((5 : Int) = 5/\BK x_1 x)/\True)/\lq x_1.d x.a.d/\(∀ y : Unit,gy x_1.c->(∃ y_1 : Unit,gy x.c/\((5 : Int) = 5/\BL x x_1)/\mY x x_1) ∨ ∃ y_1 : Unit,Hd (1 = spn x.c)/\((5 : Int) = 5/\BM x x_1)/\mY x x_1)/\∀ y : Unit,Hd (1 = spn x_1.c)->(∃ y_1 : Unit,gy x.c/\((5 : Int) = 5/\BN x x_1)/\mY x x_1) ∨ ∃ y_1 : Unit,Hd (1 = spn x.c)/\((5 : Int) = 5/\qI x x_1)/\mY x x_1
theorem II (x : lM) : wH x = ctrT (kR 5) ((gK 5).N.args x) (hO 10 (dK 1 ((gK 5).N.l x))) (fun v h' => cO 1 x v h' (gK 5).N.outs) := by kernel_rfl
def wI (x : lM) : Prop :=
 ∃ x_1 : ZWr,Hd (x_1.ok/\x_1.p = 0)/\(0 = 0/\dP x_1.t x.t/\((5 : Int) = 5/\BK x_1 x)/\True)/\lq x_1.d x.a.d/\(∀ y : Unit,gy x_1.c->(∃ y_1 : Unit,gy x.c/\((5 : Int) = 5/\BL x x_1)/\mX x x_1) ∨ ∃ y_1 : Unit,Hd (1 = spn x.c)/\((5 : Int) = 5/\BM x x_1)/\mX x x_1)/\∀ y : Unit,Hd (1 = spn x_1.c)->(∃ y_1 : Unit,gy x.c/\((5 : Int) = 5/\BN x x_1)/\mX x x_1) ∨ ∃ y_1 : Unit,Hd (1 = spn x.c)/\((5 : Int) = 5/\qI x x_1)/\mX x x_1
theorem IJ (x : lM) : wI x = ctrT (kR 5) ((gK 5).P.args x) (hO 11 (dK 1 ((gK 5).P.l x))) (fun v h' => cO 1 x v h' (gK 5).P.outs) := by kernel_rfl
def wJ (x : lM) : Prop :=
 ∃ x_1 : ZWr,Hd (x_1.ok/\x_1.p ≠ 0)/\abW x_1 x/\lq x_1.d x.a.d/\(∀ y : Unit,Hd ((x_1.p : Int) + 1 ≠ spn x_1.c)->(∃ y_1 : Unit,Hd ((x.p : Int) + 1 ≠ spn x.c)/\abZ x x_1/\mY x x_1) ∨ ∃ y_1 : Unit,Hd ((x.p : Int) + 1 = spn x.c)/\Oo x x_1/\mY x x_1)/\∀ y : Unit,Hd ((x_1.p : Int) + 1 = spn x_1.c)->(∃ y_1 : Unit,Hd ((x.p : Int) + 1 ≠ spn x.c)/\Oq x x_1/\mY x x_1) ∨ ∃ y_1 : Unit,Hd ((x.p : Int) + 1 = spn x.c)/\((4 : Int) = 4/\qI x x_1)/\mY x x_1
theorem IK (x : lM) : wJ x = ctrT zW (mW.N.args x) (hO 10 (dK 1 (mW.N.l x))) (fun v h' => cO 1 x v h' mW.N.outs) := by kernel_rfl
def wL (x : lM) : Prop :=
 ∃ x_1 : ZWr,Hd (x_1.ok/\x_1.p ≠ 0)/\abW x_1 x/\lq x_1.d x.a.d/\(∀ y : Unit,Hd ((x_1.p : Int) + 1 ≠ spn x_1.c)->(∃ y_1 : Unit,Hd ((x.p : Int) + 1 ≠ spn x.c)/\abZ x x_1/\mX x x_1) ∨ ∃ y_1 : Unit,Hd ((x.p : Int) + 1 = spn x.c)/\Oo x x_1/\mX x x_1)/\∀ y : Unit,Hd ((x_1.p : Int) + 1 = spn x_1.c)->(∃ y_1 : Unit,Hd ((x.p : Int) + 1 ≠ spn x.c)/\Oq x x_1/\mX x x_1) ∨ ∃ y_1 : Unit,Hd ((x.p : Int) + 1 = spn x.c)/\((4 : Int) = 4/\qI x x_1)/\mX x x_1
theorem IL (x : lM) : wL x = ctrT zW (mW.P.args x) (hO 11 (dK 1 (mW.P.l x))) (fun v h' => cO 1 x v h' mW.P.outs) := by kernel_rfl
def Gw (x : jK) : Prop :=
 ∃ x_1 : ZRe,Hd (x_1.ok/\x_1.p = 0)/\Ot x_1 x/\lq x_1.d x.a.d/\(∀ y : Unit,gy x_1.b.cls->(∃ y_1 : Unit,gy x.b.cls/\Ox x x_1/\fU x.a/\(64 = 64/\∀ q : Nat,q < 64->nZ x.b q x_1.b)/\su x.a x_1.d) ∨ (∃ y_1 : Unit,sW x/\OM x x_1/\fU x.a/\su x.a x_1.d) ∨ ∃ y_1 : Unit,sV x/\OO x x_1/\fU x.a/\su x.a x_1.d)/\(∀ y : Unit,Hd (1 = spn x_1.b.cls/\x_1.f.line < 0)->(∃ y_1 : Unit,gy x.b.cls/\False) ∨ (∃ y_1 : Unit,sW x/\OQ x x_1/\fU x.a/\su x.a x_1.d) ∨ ∃ y_1 : Unit,sV x/\OT x x_1/\fU x.a/\su x.a x_1.d)/\∀ y : Unit,Hd (1 = spn x_1.b.cls/\0<=x_1.f.line)->(∃ y_1 : Unit,gy x.b.cls/\False) ∨ (∃ y_1 : Unit,sW x/\OU x x_1/\fU x.a/\su x.a x_1.d) ∨ ∃ y_1 : Unit,sV x/\OV x x_1/\fU x.a/\su x.a x_1.d
theorem UU (x : jK) : Gw x = ctrT Kv (qF.N.args x) (hO 10 (dK 1 (qF.N.l x))) (fun v h' => cO 1 x v h' qF.N.outs) := by kernel_rfl
def Gx (x : jK) : Prop :=
 ∃ x_1 : ZRe,Hd (x_1.ok/\x_1.p = 0)/\Ot x_1 x/\lq x_1.d x.a.d/\(∀ y : Unit,gy x_1.b.cls->(∃ y_1 : Unit,gy x.b.cls/\Ox x x_1/\fP x.a/\(64 = 64/\∀ q : Nat,q < 64->nZ x.b q x_1.b)/\rZ x.a x_1.d) ∨ (∃ y_1 : Unit,sW x/\OM x x_1/\fP x.a/\rZ x.a x_1.d) ∨ ∃ y_1 : Unit,sV x/\OO x x_1/\fP x.a/\rZ x.a x_1.d)/\(∀ y : Unit,Hd (1 = spn x_1.b.cls/\x_1.f.line < 0)->(∃ y_1 : Unit,gy x.b.cls/\False) ∨ (∃ y_1 : Unit,sW x/\OQ x x_1/\fP x.a/\rZ x.a x_1.d) ∨ ∃ y_1 : Unit,sV x/\OT x x_1/\fP x.a/\rZ x.a x_1.d)/\∀ y : Unit,Hd (1 = spn x_1.b.cls/\0<=x_1.f.line)->(∃ y_1 : Unit,gy x.b.cls/\False) ∨ (∃ y_1 : Unit,sW x/\OU x x_1/\fP x.a/\rZ x.a x_1.d) ∨ ∃ y_1 : Unit,sV x/\OV x x_1/\fP x.a/\rZ x.a x_1.d
theorem UW (x : jK) : Gx x = ctrT Kv (qF.P.args x) (hO 11 (dK 1 (qF.P.l x))) (fun v h' => cO 1 x v h' qF.P.outs) := by kernel_rfl
def Gy (x : jK) : Prop :=
 ∃ x_1 : ZRe,Hd (x_1.ok/\x_1.p ≠ 0)/\abX x_1 x/\Oz x_1 x/\(∀ y : Unit,Hd ((x_1.p : Int) + 1 ≠ spn x_1.b.cls)->(∃ y_1 : Unit,Gq x/\Om x x_1/\fU x.a/\KX x x_1/\(64 * (x.p + 1) = 64 * (x_1.p + 1)/\∀ q : Nat,q < 64 * (x.p + 1)->nZ x.b q x_1.b)/\su x.a x_1.d) ∨ (∃ y_1 : Unit,sN x/\OW x x_1/\wB x x_1) ∨ ∃ y_1 : Unit,sK x/\OX x x_1/\wB x x_1)/\(∀ y : Unit,Hd ((x_1.p : Int) + 1 = spn x_1.b.cls/\x_1.f.line < 0)->Ah x ∨ (∃ y_1 : Unit,sN x/\OY x x_1/\wB x x_1) ∨ ∃ y_1 : Unit,sK x/\OZ x x_1/\wB x x_1)/\∀ y : Unit,Hd ((x_1.p : Int) + 1 = spn x_1.b.cls/\0<=x_1.f.line)->Ah x ∨ (∃ y_1 : Unit,sN x/\O1 x x_1/\wB x x_1) ∨ ∃ y_1 : Unit,sK x/\O4 x x_1/\wB x x_1
theorem UY (x : jK) : Gy x = ctrT Kw (qG.N.args x) (hO 11 (dK 2 (qG.N.l x))) (fun v h' => cO 2 x v h' qG.N.outs) := by kernel_rfl
def Gz (x : jK) : Prop :=
 ∃ x_1 : ZRe,Hd (x_1.ok/\x_1.p ≠ 0)/\abX x_1 x/\Oz x_1 x/\(∀ y : Unit,Hd ((x_1.p : Int) + 1 ≠ spn x_1.b.cls)->(∃ y_1 : Unit,Gq x/\Om x x_1/\fP x.a/\KX x x_1/\(64 * (x.p + 1) = 64 * (x_1.p + 1)/\∀ q : Nat,q < 64 * (x.p + 1)->nZ x.b q x_1.b)/\rZ x.a x_1.d) ∨ (∃ y_1 : Unit,sN x/\OW x x_1/\wC x x_1) ∨ ∃ y_1 : Unit,sK x/\OX x x_1/\wC x x_1)/\(∀ y : Unit,Hd ((x_1.p : Int) + 1 = spn x_1.b.cls/\x_1.f.line < 0)->Ah x ∨ (∃ y_1 : Unit,sN x/\OY x x_1/\wC x x_1) ∨ ∃ y_1 : Unit,sK x/\OZ x x_1/\wC x x_1)/\∀ y : Unit,Hd ((x_1.p : Int) + 1 = spn x_1.b.cls/\0<=x_1.f.line)->Ah x ∨ (∃ y_1 : Unit,sN x/\O1 x x_1/\wC x x_1) ∨ ∃ y_1 : Unit,sK x/\O4 x x_1/\wC x x_1
theorem UZ (x : jK) : Gz x = ctrT Kw (qG.P.args x) (hO 12 (dK 2 (qG.P.l x))) (fun v h' => cO 2 x v h' qG.P.outs) := by kernel_rfl
end Go.Proofs.YtenfleoejgjklaaGreat
end
section
namespace Go.Proofs.YtenfleoejgjklaaGreat
open Go SE
structure ZPb where
 a : ZArn
 f : ZFr
 t : Nat
 ln : Nat
namespace ZPb
def chg (x : ZPb) : fV := ⟨x.a,x.t,x.f.epoch,x.f.value,⟨#[]⟩,false,x.f.old,x.ln,x.f.cls⟩
def fr (x : ZPb) (h : Bool) : ZFr := { x.f with had := h,line := x.ln }
end ZPb
noncomputable def aji : Ctr := det ZPb (fun x => [.ptr 0 0,i64 x.t,(x.fr false).av 4 5 fJ]) 1 (fun x => [.abs (ownM x.a.os)]) (fun x => Hd (x.chg.okE/\(∃ i j,x.chg.inP i j)/\∀ k,x.a.c.o k + 8 < 1099511627776)) (fun x => { x.fr false with found := false,aep := x.f.epoch,line := -1 }.av 4 6 fJ) 1 (fun x => [.abs (ownM x.chg.enq.os)])
noncomputable def ajj : Ctr := det ZPb (fun x => [.ptr 0 0,i64 x.t,(x.fr true).av 5 5 fJ]) 1 (fun x => [.abs (ownM x.a.os)]) (fun x => Hd (x.chg.okD/\(∃ i j,x.chg.inP i j)/\0<=x.a.id/\x.a.id < 1152921504606846976/\x.a.n ≠ 0)) (fun x => { x.fr true with found := true,aep := x.f.epoch,line := -1 }.av 5 6 fJ) 1 (fun x => [.abs (ownM x.chg.deq.os)])
noncomputable def arP : WTbl := yV ++ [(162,ctrT enqG.ctr)]
noncomputable def arQ : WTbl := yV ++ [(162,ctrT deqG.ctr)]
theorem amG : fA Tryz.prog arP := .append jg (.cons (bM apR) .nil)
theorem amH : fA Tryz.prog arQ := .append jg (.cons (bM apS) .nil)
end Go.Proofs.YtenfleoejgjklaaGreat
end
section
namespace Go.Proofs.YtenfleoejgjklaaGreat
open Go SE
def IQ : Prop := Value.slice none 0 0 = Value.slice none 0 0
def amI (a : fV) (b : ZPb) : Prop := a.old.key = b.f.old.key/\a.old.id = b.f.old.id/\a.old.ver = b.f.old.ver/\a.old.line = b.f.old.line/\a.old.cls = b.f.old.cls/\(a.k : Int) = (b.ln : Int)/\a.c = b.f.cls/\True
def amJ (a : ZPb) : Prop := AV.lit (Value.int .u64 a.f.epoch) = AV.lit (Value.int .u64 a.f.epoch)/\AV.lit (Value.int .i64 (a.t : Int)) = AV.lit (Value.int .i64 (a.t : Int))/\AV.ptr 0 0 = AV.ptr 0 0/\True
def amK (a : ZFr) : Prop := a.ans = a.ans/\IQ/\IQ/\a.epoch = a.epoch/\True
def aeQ : Prop := ByteArray.mk #[] = ByteArray.mk #[]
def YP (x : ZPb) : Prop :=
 ((0 : Int)<=5/\(0 : Int)<=1)/\amJ x/\∃ x_1 : fV,Hd (x_1.okE/\(∃ i : Nat,∃ j : Nat,x_1.inP i j)/\∀ k : Nat,x_1.a.c.o k + 8 < 1099511627776)/\(0 = 0/\(x_1.t : Int) = (x.t : Int)/\x_1.e = x.f.epoch/\(0 = 0/\1 = 1/\1 = 1)/\True)/\(ownM x_1.a.os = ownM x.a.os/\((4 : Int) = 4/\x_1.key = ByteArray.mk #[]/\x_1.v = x.f.value/\false = false/\amI x_1 x)/\True)/\∀ y : Unit,True->True/\((0 : Int)<=0/\(0 : Int)<=0)/\0 < 1/\True/\True/\True/\True/\∃ y_1 : Unit,True/\((4 : Int) = 4/\x.f.key = x.f.key/\x.f.value = x.f.value/\aeQ/\IQ/\(6 : Int) = 6/\x.f.epoch = x.f.epoch/\aeQ/\false = false/\(0 : Int) = 0/\false = false/\x.f.old.key = x.f.old.key/\x.f.old.id = x.f.old.id/\x.f.old.ver = x.f.old.ver/\x.f.old.line = x.f.old.line/\x.f.old.cls = x.f.old.cls/\(-(1 : Int)) = (-(1 : Int))/\x.f.cls = x.f.cls/\x.f.piece = x.f.piece/\IQ/\(0 : Int) = 0/\IQ/\x.f.code = x.f.code/\false = false/\amK x.f)/\ownM x.chg.enq.os = ownM x_1.enq.os/\True
theorem aeR (x : ZPb) : YP x = wpF Tryz.prog arP tt (noA x) 200 6 19 (aji.args x) (hO 1 (aji.os x)) (fun v h' => eH 1 x v h' aji.outs) := by kernel_rfl
def YQ (x : ZPb) : Prop :=
 ((0 : Int)<=5/\(0 : Int)<=1)/\amJ x/\∃ x_1 : fV,Hd (x_1.okD/\(∃ i : Nat,∃ j : Nat,x_1.inP i j)/\0<=x_1.a.id/\x_1.a.id < 1152921504606846976/\x_1.a.n ≠ 0)/\(0 = 0/\(x_1.t : Int) = (x.t : Int)/\x_1.e = x.f.epoch/\(0 = 0/\1 = 1/\1 = 1)/\True)/\(ownM x_1.a.os = ownM x.a.os/\((5 : Int) = 5/\x_1.key = ByteArray.mk #[]/\x_1.v = x.f.value/\true = true/\amI x_1 x)/\True)/\∀ y : Unit,True->True/\((0 : Int)<=0/\(0 : Int)<=0)/\0 < 1/\True/\True/\True/\True/\∃ y_1 : Unit,True/\((5 : Int) = 5/\x.f.key = x.f.key/\x.f.value = x.f.value/\aeQ/\IQ/\(6 : Int) = 6/\x.f.epoch = x.f.epoch/\aeQ/\false = false/\(0 : Int) = 0/\true = true/\x.f.old.key = x.f.old.key/\x.f.old.id = x.f.old.id/\x.f.old.ver = x.f.old.ver/\x.f.old.line = x.f.old.line/\x.f.old.cls = x.f.old.cls/\(-(1 : Int)) = (-(1 : Int))/\x.f.cls = x.f.cls/\x.f.piece = x.f.piece/\IQ/\(0 : Int) = 0/\IQ/\x.f.code = x.f.code/\true = true/\amK x.f)/\ownM x.chg.deq.os = ownM x_1.deq.os/\True
theorem aeS (x : ZPb) : YQ x = wpF Tryz.prog arQ tt (noA x) 200 6 19 (ajj.args x) (hO 1 (ajj.os x)) (fun v h' => eH 1 x v h' ajj.outs) := by kernel_rfl
end Go.Proofs.YtenfleoejgjklaaGreat
end
section
namespace Go.Proofs.YtenfleoejgjklaaGreat
open Go SE
set_option linter.unusedSimpArgs false
def nOk {X : Type} (x : X) (n : Nat) : List (akO X)->Prop
 | [] => True
 | o :: r => (∀ y,(o.a x y).n = n)/\nOk x n r
theorem ajk {X : Type} {x : X} {n : Nat} : ∀ {l : List (akO X)},nOk x n l->∀ o ∈ l,∀ y,(o.a x y).n = n
 | o :: r,h,p,hp,y => by
  rcases List.mem_cons.1 hp with rfl | hp
  ·exact h.1 y
  ·exact ajk h.2 p hp y
theorem uM {P : Program} {f : FuncId} {C : wz} (hn : ∀ x,nOk x (C.a x).n C.outs) (hN : bU P f C.N.ctr) (hP : bU P f C.P.ctr) : bU P f C.M.ctr := glue (fun x _ o ho y _ => ajk (hn x) o ho y) hN hP
theorem GH (x : ZSt) (hx : ((iT 4).pre x)) : Ai x := by
 have hx := aY.1 hx
 unfold Ai
 simp only [sU,dP,sF,sD,sZ,BJ,OJ,tq,O5,OB,O6,OD,OE,O9,fU,dV,eU,fQ,Ag,kH,kZ,fM,dM,bW,rY,fK,iw,fO,fH,KW,KU,iC,gu,jU]
 simp only [aY,aU,aT,ay,aH,bI,bn,aN,aJ,au,aW,aV,bJ,bC,bD,bF,bK,bf,bG,aZ,dU,aG,aK,ah,aj,aA,aC,aB,aF]
 refine ⟨⟨x.a.r,x.a.c,x.t,x.f⟩,hx,?_⟩
 simp only [aY,aU,aT,ay,aH,bI,bn,aN,aJ,au,aW,aV,bJ,bC,bD,bF,bK,bf,bG,aZ,dU,aG,aK,ah,aj,aA,aC,aB,aF]
 exact ⟨fun h => .inl h,fun h => .inr h⟩
theorem GI (x : ZSt) (hx : ((iT 4).pre x)) : Aj x := by
 have hx := aY.1 hx
 unfold Aj
 simp only [sU,dP,sF,sD,sZ,BJ,OL,tq,O5,OC,O6,OG,OE,Pg,fP,dV,eU,fQ,Ag,kH,uK,fM,y5,dM,bW,rY,fK,iw,fO,fH,KW,KU,iC,gu,jU]
 simp only [aY,aU,aT,ay,aH,bI,bn,aN,aJ,au,aW,aV,bJ,bC,bD,bF,bK,bf,bG,aZ,dU,aG,aK,ah,aj,aA,aC,aB,aF]
 refine ⟨⟨x.a.r,x.a.c,x.t,x.f⟩,hx,?_⟩
 simp only [aY,aU,aT,ay,aH,bI,bn,aN,aJ,au,aW,aV,bJ,bC,bD,bF,bK,bf,bG,aZ,dU,aG,aK,ah,aj,aA,aC,aB,aF]
 exact ⟨fun h => .inl h,fun h => .inr h⟩
theorem GK (x : ZSt) (hx : ((iT 5).pre x)) : Ak x := by
 have hx := aY.1 hx
 unfold Ak
 simp only [sU,dP,sF,sD,tu,BJ,OJ,tC,O7,OB,O8,OD,OH,O9,fU,dV,eU,fQ,Ag,kH,kZ,fM,dM,bW,rY,fK,iw,fO,fH,KW,KU,iC,gu,jU]
 simp only [aY,aU,aT,ay,aH,bI,bn,aN,aJ,au,aW,aV,bJ,bC,bD,bF,bK,bf,bG,aZ,dU,aG,aK,ah,aj,aA,aC,aB,aF]
 refine ⟨⟨x.a.r,x.a.c,x.t,x.f⟩,hx,?_⟩
 simp only [aY,aU,aT,ay,aH,bI,bn,aN,aJ,au,aW,aV,bJ,bC,bD,bF,bK,bf,bG,aZ,dU,aG,aK,ah,aj,aA,aC,aB,aF]
 exact ⟨fun h => .inl h,fun h => .inr h⟩
theorem GL (x : ZSt) (hx : ((iT 5).pre x)) : Am x := by
 have hx := aY.1 hx
 unfold Am
 simp only [sU,dP,sF,sD,tu,BJ,OL,tC,O7,OC,O8,OG,OH,Pg,fP,dV,eU,fQ,Ag,kH,uK,fM,y5,dM,bW,rY,fK,iw,fO,fH,KW,KU,iC,gu,jU]
 simp only [aY,aU,aT,ay,aH,bI,bn,aN,aJ,au,aW,aV,bJ,bC,bD,bF,bK,bf,bG,aZ,dU,aG,aK,ah,aj,aA,aC,aB,aF]
 refine ⟨⟨x.a.r,x.a.c,x.t,x.f⟩,hx,?_⟩
 simp only [aY,aU,aT,ay,aH,bI,bn,aN,aJ,au,aW,aV,bJ,bC,bD,bF,bK,bf,bG,aZ,dU,aG,aK,ah,aj,aA,aC,aB,aF]
 exact ⟨fun h => .inl h,fun h => .inr h⟩
theorem PG (x : ZSt) (hx : (zX.pre x)) : Pv x := by
 have hx := aY.1 hx
 unfold Pv
 simp only [OA,OI,Oy,UM,Ou,Ov,abY,bW,dM,fK,iw,fO,fH,fU,dV,eU,fQ,fM,jD,gu,dP,jU,rY]
 simp only [aY,aU,aT,ay,aH,bI,bn,aN,aJ,au,aW,aV,bJ,bC,bD,bF,bK,bf,bG,aZ,dU,aG,aK,ah,aj,aA,aC,aB,aF]
 refine ⟨⟨x.a.l,x.t,x.f⟩,hx,?_⟩
 simp only [aY,aU,aT,ay,aH,bI,bn,aN,aJ,au,aW,aV,bJ,bC,bD,bF,bK,bf,bG,aZ,dU,aG,aK,ah,aj,aA,aC,aB,aF]
 exact ⟨fun h => .inl h,fun h => .inr h⟩
theorem PI (x : ZSt) (hx : (zX.pre x)) : Px x := by
 have hx := aY.1 hx
 unfold Px
 simp only [OA,OI,Oy,UL,Ou,Ov,abY,bW,dM,fK,iw,fO,fH,fP,dV,eU,fQ,fM,y5,jD,gu,dP,jU,rY]
 simp only [aY,aU,aT,ay,aH,bI,bn,aN,aJ,au,aW,aV,bJ,bC,bD,bF,bK,bf,bG,aZ,dU,aG,aK,ah,aj,aA,aC,aB,aF]
 refine ⟨⟨x.a.l,x.t,x.f⟩,hx,?_⟩
 simp only [aY,aU,aT,ay,aH,bI,bn,aN,aJ,au,aW,aV,bJ,bC,bD,bF,bK,bf,bG,aZ,dU,aG,aK,ah,aj,aA,aC,aB,aF]
 exact ⟨fun h => .inl h,fun h => .inr h⟩
theorem IU (x : ZSt) (hx : ((lK 4).pre x)) : Gs x := by
 have hx := aY.1 hx
 unfold Gs
 simp only [tH,dP,sG,sS,Ph,Ae,abS,fU,dV,eU,lg,abQ,abO,abU,bW,dM,fK,iw,fO,fH,Aa,Ac,qH,kZ,fM,Ad,iC,gu,jU,rY]
 simp only [aY,aU,aT,ay,aH,bI,bn,aN,aJ,au,aW,aV,bJ,bC,bD,bF,bK,bf,bG,aZ,dU,aG,aK,ah,aj,aA,aC,aB,aF]
 refine ⟨⟨x.a.p,x.t,x.f⟩,hx,?_⟩
 simp only [ZTk.c,ZSt.c,aY,aU,aT,ay,aH,bI,bn,aN,aJ,au,aW,aV,bJ,bC,bD,bF,bK,bf,bG,aZ,dU,aG,aK,ah,aj,aA,aC,aB,aF]
 exact ⟨fun h => .inl h,fun y hy => .inr ⟨y,hy,rfl,rfl⟩⟩
theorem IV (x : ZSt) (hx : ((lK 4).pre x)) : Gt x := by
 have hx := aY.1 hx
 unfold Gt
 simp only [tH,dP,sG,sS,Ph,Ae,abS,fP,dV,eU,rX,abQ,abO,abU,bW,dM,fK,iw,fO,fH,Aa,Ac,CY,uK,fM,y5,Ad,iC,gu,jU,rY]
 simp only [aY,aU,aT,ay,aH,bI,bn,aN,aJ,au,aW,aV,bJ,bC,bD,bF,bK,bf,bG,aZ,dU,aG,aK,ah,aj,aA,aC,aB,aF]
 refine ⟨⟨x.a.p,x.t,x.f⟩,hx,?_⟩
 simp only [ZTk.c,ZSt.c,aY,aU,aT,ay,aH,bI,bn,aN,aJ,au,aW,aV,bJ,bC,bD,bF,bK,bf,bG,aZ,dU,aG,aK,ah,aj,aA,aC,aB,aF]
 exact ⟨fun h => .inl h,fun y hy => .inr ⟨y,hy,rfl,rfl⟩⟩
theorem IW (x : ZSt) (hx : ((lK 5).pre x)) : Gu x := by
 have hx := aY.1 hx
 unfold Gu
 simp only [tH,dP,sG,sS,Pj,Af,abT,fU,dV,eU,lg,abR,abP,abV,bW,dM,fK,iw,fO,fH,Aa,Ac,qH,kZ,fM,Ad,iC,gu,jU,rY]
 simp only [aY,aU,aT,ay,aH,bI,bn,aN,aJ,au,aW,aV,bJ,bC,bD,bF,bK,bf,bG,aZ,dU,aG,aK,ah,aj,aA,aC,aB,aF]
 refine ⟨⟨x.a.p,x.t,x.f⟩,hx,?_⟩
 simp only [ZTk.c,ZSt.c,aY,aU,aT,ay,aH,bI,bn,aN,aJ,au,aW,aV,bJ,bC,bD,bF,bK,bf,bG,aZ,dU,aG,aK,ah,aj,aA,aC,aB,aF]
 exact ⟨fun h => .inl h,fun y hy => .inr ⟨y,hy,rfl,rfl⟩⟩
theorem IX (x : ZSt) (hx : ((lK 5).pre x)) : Gv x := by
 have hx := aY.1 hx
 unfold Gv
 simp only [tH,dP,sG,sS,Pj,Af,abT,fP,dV,eU,rX,abR,abP,abV,bW,dM,fK,iw,fO,fH,Aa,Ac,CY,uK,fM,y5,Ad,iC,gu,jU,rY]
 simp only [aY,aU,aT,ay,aH,bI,bn,aN,aJ,au,aW,aV,bJ,bC,bD,bF,bK,bf,bG,aZ,dU,aG,aK,ah,aj,aA,aC,aB,aF]
 refine ⟨⟨x.a.p,x.t,x.f⟩,hx,?_⟩
 simp only [ZTk.c,ZSt.c,aY,aU,aT,ay,aH,bI,bn,aN,aJ,au,aW,aV,bJ,bC,bD,bF,bK,bf,bG,aZ,dU,aG,aK,ah,aj,aA,aC,aB,aF]
 exact ⟨fun h => .inl h,fun y hy => .inr ⟨y,hy,rfl,rfl⟩⟩
theorem GN (x : ZSt) (hx : ((iU 4).pre x)) : Ap x := by
 have hx := aY.1 hx
 unfold Ap
 simp only [dP,sH,sQ,sJ,fU,dV,eU,fQ,sO,qH,kZ,fM,dM,bW,jU,rY,fK,iw,fO,fH,iC,gu]
 simp only [aY,aU,aT,ay,aH,bI,bn,aN,aJ,au,aW,aV,bJ,bC,bD,bF,bK,bf,bG,aZ,dU,aG,aK,ah,aj,aA,aC,aB,aF]
 refine ⟨⟨x.a.r,x.t,x.f⟩,hx,?_⟩
 first | done | (simp only [aY,aU,aT,ay,aH,bI,bn,aN,aJ,au,aW,aV,bJ,bC,bD,bF,bK,bf,bG,aZ,dU,aG,aK,ah,aj,aA,aC,aB,aF])
theorem GR (x : ZSt) (hx : ((iU 4).pre x)) : Aq x := by
 have hx := aY.1 hx
 unfold Aq
 simp only [dP,sH,sQ,sJ,fP,dV,eU,fQ,sO,CY,uK,fM,y5,dM,bW,jU,rY,fK,iw,fO,fH,iC,gu]
 simp only [aY,aU,aT,ay,aH,bI,bn,aN,aJ,au,aW,aV,bJ,bC,bD,bF,bK,bf,bG,aZ,dU,aG,aK,ah,aj,aA,aC,aB,aF]
 refine ⟨⟨x.a.r,x.t,x.f⟩,hx,?_⟩
 first | done | (simp only [aY,aU,aT,ay,aH,bI,bn,aN,aJ,au,aW,aV,bJ,bC,bD,bF,bK,bf,bG,aZ,dU,aG,aK,ah,aj,aA,aC,aB,aF])
theorem GU (x : ZSt) (hx : ((iU 5).pre x)) : Ar x := by
 have hx := aY.1 hx
 unfold Ar
 simp only [dP,sH,sQ,sJ,fU,dV,eU,fQ,sO,qH,kZ,fM,dM,bW,jU,rY,fK,iw,fO,fH,iC,gu]
 simp only [aY,aU,aT,ay,aH,bI,bn,aN,aJ,au,aW,aV,bJ,bC,bD,bF,bK,bf,bG,aZ,dU,aG,aK,ah,aj,aA,aC,aB,aF]
 refine ⟨⟨x.a.r,x.t,x.f⟩,hx,?_⟩
 first | done | (simp only [aY,aU,aT,ay,aH,bI,bn,aN,aJ,au,aW,aV,bJ,bC,bD,bF,bK,bf,bG,aZ,dU,aG,aK,ah,aj,aA,aC,aB,aF])
theorem GV (x : ZSt) (hx : ((iU 5).pre x)) : Au x := by
 have hx := aY.1 hx
 unfold Au
 simp only [dP,sH,sQ,sJ,fP,dV,eU,fQ,sO,CY,uK,fM,y5,dM,bW,jU,rY,fK,iw,fO,fH,iC,gu]
 simp only [aY,aU,aT,ay,aH,bI,bn,aN,aJ,au,aW,aV,bJ,bC,bD,bF,bK,bf,bG,aZ,dU,aG,aK,ah,aj,aA,aC,aB,aF]
 refine ⟨⟨x.a.r,x.t,x.f⟩,hx,?_⟩
 first | done | (simp only [aY,aU,aT,ay,aH,bI,bn,aN,aJ,au,aW,aV,bJ,bC,bD,bF,bK,bf,bG,aZ,dU,aG,aK,ah,aj,aA,aC,aB,aF])
theorem CZ (x : lM) (hx : ((gK 4).pre x)) : wF x := by
 have hx := aY.1 hx
 unfold wF
 simp only [dP,BK,lq,gy,BL,mY,BM,BN,qI,bW,dM,fK,iw,fO,fH,fU,dV,Gp,fQ,lg,qH,kZ,fM,iC,jD,gu]
 simp only [aY,aU,aT,ay,aH,bI,bn,aN,aJ,au,aW,aV,bJ,bC,bD,bF,bK,bf,bG,aZ,dU,aG,aK,ah,aj,aA,aC,aB,aF]
 refine ⟨x.w,hx,?_⟩
 simp only [lM.w,ZWr.fr,aY,aU,aT,ay,aH,bI,bn,aN,aJ,au,aW,aV,bJ,bC,bD,bF,bK,bf,bG,aZ,dU,aG,aK,ah,aj,aA,aC,aB,aF]
 exact ⟨fun h => .inl h,fun h => .inr h⟩
theorem C9 (x : lM) (hx : ((gK 4).pre x)) : wG x := by
 have hx := aY.1 hx
 unfold wG
 simp only [dP,BK,lq,gy,BL,mX,BM,BN,qI,bW,dM,fK,iw,fO,fH,fP,dV,fQ,rX,CY,uK,fM,y5,iC,jD,gu]
 simp only [aY,aU,aT,ay,aH,bI,bn,aN,aJ,au,aW,aV,bJ,bC,bD,bF,bK,bf,bG,aZ,dU,aG,aK,ah,aj,aA,aC,aB,aF]
 refine ⟨x.w,hx,?_⟩
 simp only [lM.w,ZWr.fr,aY,aU,aT,ay,aH,bI,bn,aN,aJ,au,aW,aV,bJ,bC,bD,bF,bK,bf,bG,aZ,dU,aG,aK,ah,aj,aA,aC,aB,aF]
 exact ⟨fun h => .inl h,fun h => .inr h⟩
theorem Dc (x : lM) (hx : ((gK 5).pre x)) : wH x := by
 have hx := aY.1 hx
 unfold wH
 simp only [dP,BK,lq,gy,BL,mY,BM,BN,qI,bW,dM,fK,iw,fO,fH,fU,dV,Gp,fQ,lg,qH,kZ,fM,iC,jD,gu]
 simp only [aY,aU,aT,ay,aH,bI,bn,aN,aJ,au,aW,aV,bJ,bC,bD,bF,bK,bf,bG,aZ,dU,aG,aK,ah,aj,aA,aC,aB,aF]
 refine ⟨x.w,hx,?_⟩
 simp only [lM.w,ZWr.fr,aY,aU,aT,ay,aH,bI,bn,aN,aJ,au,aW,aV,bJ,bC,bD,bF,bK,bf,bG,aZ,dU,aG,aK,ah,aj,aA,aC,aB,aF]
 exact ⟨fun h => .inl h,fun h => .inr h⟩
theorem Df (x : lM) (hx : ((gK 5).pre x)) : wI x := by
 have hx := aY.1 hx
 unfold wI
 simp only [dP,BK,lq,gy,BL,mX,BM,BN,qI,bW,dM,fK,iw,fO,fH,fP,dV,fQ,rX,CY,uK,fM,y5,iC,jD,gu]
 simp only [aY,aU,aT,ay,aH,bI,bn,aN,aJ,au,aW,aV,bJ,bC,bD,bF,bK,bf,bG,aZ,dU,aG,aK,ah,aj,aA,aC,aB,aF]
 refine ⟨x.w,hx,?_⟩
 simp only [lM.w,ZWr.fr,aY,aU,aT,ay,aH,bI,bn,aN,aJ,au,aW,aV,bJ,bC,bD,bF,bK,bf,bG,aZ,dU,aG,aK,ah,aj,aA,aC,aB,aF]
 exact ⟨fun h => .inl h,fun h => .inr h⟩
theorem Dh (x : lM) (hx : (mW.pre x)) : wJ x := by
 have hx := aY.1 hx
 unfold wJ
 simp only [abW,lq,abZ,mY,Oo,Oq,qI,bW,dM,dP,fK,iw,fO,fH,fU,dV,Gp,fQ,lg,qH,kZ,fM,iC,jD,gu]
 simp only [aY,aU,aT,ay,aH,bI,bn,aN,aJ,au,aW,aV,bJ,bC,bD,bF,bK,bf,bG,aZ,dU,aG,aK,ah,aj,aA,aC,aB,aF]
 refine ⟨x.w,hx,?_⟩
 simp only [lM.w,ZWr.fr,aY,aU,aT,ay,aH,bI,bn,aN,aJ,au,aW,aV,bJ,bC,bD,bF,bK,bf,bG,aZ,dU,aG,aK,ah,aj,aA,aC,aB,aF]
 exact ⟨fun h => .inl h,fun h => .inr h⟩
theorem Di (x : lM) (hx : (mW.pre x)) : wL x := by
 have hx := aY.1 hx
 unfold wL
 simp only [abW,lq,abZ,mX,Oo,Oq,qI,bW,dM,dP,fK,iw,fO,fH,fP,dV,fQ,rX,CY,uK,fM,y5,iC,jD,gu]
 simp only [aY,aU,aT,ay,aH,bI,bn,aN,aJ,au,aW,aV,bJ,bC,bD,bF,bK,bf,bG,aZ,dU,aG,aK,ah,aj,aA,aC,aB,aF]
 refine ⟨x.w,hx,?_⟩
 simp only [lM.w,ZWr.fr,aY,aU,aT,ay,aH,bI,bn,aN,aJ,au,aW,aV,bJ,bC,bD,bF,bK,bf,bG,aZ,dU,aG,aK,ah,aj,aA,aC,aB,aF]
 exact ⟨fun h => .inl h,fun h => .inr h⟩
theorem IY (x : jK) (hx : (qF.pre x)) : Gw x := by
 have hx := aY.1 hx
 unfold Gw
 simp only [Ot,lq,gy,Ox,fU,nZ,su,sW,OM,sV,OO,OQ,OT,OU,OV,bW,dM,KT,dP,zY,fH,abN,zZ,dV,Gp,fQ,lg,qH,kZ,fM,iw,fO,iC,jD,gu,fK]
 simp only [aY,aU,aT,ay,aH,bI,bn,aN,aJ,au,aW,aV,bJ,bC,bD,bF,bK,bf,bG,aZ,dU,aG,aK,ah,aj,aA,aC,aB,aF]
 refine ⟨x.w,hx,?_⟩
 simp only [jK.w,ZRe.fr,ZRe.fr2,aY,aU,aT,ay,aH,bI,bn,aN,aJ,au,aW,aV,bJ,bC,bD,bF,bK,bf,bG,aZ,dU,aG,aK,ah,aj,aA,aC,aB,aF]
 exact ⟨fun h => .inl h,fun h => .inr (.inl h),fun h => .inr (.inr h)⟩
theorem IZ (x : jK) (hx : (qF.pre x)) : Gx x := by
 have hx := aY.1 hx
 unfold Gx
 simp only [Ot,lq,gy,Ox,fP,nZ,rZ,sW,OM,sV,OO,OQ,OT,OU,OV,bW,dM,KT,dP,zY,fH,abN,zZ,dV,fQ,rX,CY,uK,fM,y5,iw,fO,iC,jD,gu,fK]
 simp only [aY,aU,aT,ay,aH,bI,bn,aN,aJ,au,aW,aV,bJ,bC,bD,bF,bK,bf,bG,aZ,dU,aG,aK,ah,aj,aA,aC,aB,aF]
 refine ⟨x.w,hx,?_⟩
 simp only [jK.w,ZRe.fr,ZRe.fr2,aY,aU,aT,ay,aH,bI,bn,aN,aJ,au,aW,aV,bJ,bC,bD,bF,bK,bf,bG,aZ,dU,aG,aK,ah,aj,aA,aC,aB,aF]
 exact ⟨fun h => .inl h,fun h => .inr (.inl h),fun h => .inr (.inr h)⟩
theorem I4 (x : jK) (hx : (qG.pre x)) : Gy x := by
 have hx := aY.1 hx
 unfold Gy
 simp only [abX,Oz,Gq,Om,fU,KX,nZ,su,sN,OW,wB,sK,OX,Ah,OY,OZ,O1,O4,bW,dM,KR,dP,zY,fH,abM,zZ,dV,Gp,fQ,lg,qH,kZ,fM,iw,fO,iC,jD,gu]
 simp only [aY,aU,aT,ay,aH,bI,bn,aN,aJ,au,aW,aV,bJ,bC,bD,bF,bK,bf,bG,aZ,dU,aG,aK,ah,aj,aA,aC,aB,aF]
 refine ⟨x.w,hx,?_⟩
 simp only [jK.w,ZRe.fr,ZRe.fr2,aY,aU,aT,ay,aH,bI,bn,aN,aJ,au,aW,aV,bJ,bC,bD,bF,bK,bf,bG,aZ,dU,aG,aK,ah,aj,aA,aC,aB,aF]
 exact ⟨fun h => .inl h,fun h => .inr (.inl h),fun h => .inr (.inr h)⟩
theorem I5 (x : jK) (hx : (qG.pre x)) : Gz x := by
 have hx := aY.1 hx
 unfold Gz
 simp only [abX,Oz,Gq,Om,fP,KX,nZ,rZ,sN,OW,wC,sK,OX,Ah,OY,OZ,O1,O4,bW,dM,KR,dP,zY,fH,abM,zZ,dV,fQ,rX,CY,uK,fM,y5,iw,fO,iC,jD,gu]
 simp only [aY,aU,aT,ay,aH,bI,bn,aN,aJ,au,aW,aV,bJ,bC,bD,bF,bK,bf,bG,aZ,dU,aG,aK,ah,aj,aA,aC,aB,aF]
 refine ⟨x.w,hx,?_⟩
 simp only [jK.w,ZRe.fr,ZRe.fr2,aY,aU,aT,ay,aH,bI,bn,aN,aJ,au,aW,aV,bJ,bC,bD,bF,bK,bf,bG,aZ,dU,aG,aK,ah,aj,aA,aC,aB,aF]
 exact ⟨fun h => .inl h,fun h => .inr (.inl h),fun h => .inr (.inr h)⟩
theorem aeT : bU Tryz.prog 19 (iT 4).N.ctr := dG (bM KL) 10 (fun _ => ⟨rfl,rfl,rfl,rfl⟩) fun x hx => Eq.mp (Pm x) (GH x hx.1)
theorem aeU : bU Tryz.prog 19 (iT 4).P.ctr := dG (bM KL) 11 (fun _ => ⟨rfl,rfl,rfl,rfl⟩) fun x hx => Eq.mp (Pn x) (GI x hx.1)
theorem KY : bU Tryz.prog 19 (iT 4).M.ctr := uM (fun _ => ⟨fun _ => rfl,fun _ => rfl,trivial⟩) aeT aeU
theorem aeV : bU Tryz.prog 19 (iT 5).N.ctr := dG (bM KN) 10 (fun _ => ⟨rfl,rfl,rfl,rfl⟩) fun x hx => Eq.mp (Po x) (GK x hx.1)
theorem aeW : bU Tryz.prog 19 (iT 5).P.ctr := dG (bM KN) 11 (fun _ => ⟨rfl,rfl,rfl,rfl⟩) fun x hx => Eq.mp (Pq x) (GL x hx.1)
theorem KZ : bU Tryz.prog 19 (iT 5).M.ctr := uM (fun _ => ⟨fun _ => rfl,fun _ => rfl,trivial⟩) aeV aeW
theorem amL : bU Tryz.prog 19 zX.N.ctr := dG (bM abK) 10 (fun _ => ⟨rfl,rfl,rfl,rfl⟩) fun x hx => Eq.mp (YN x) (PG x hx.1)
theorem amM : bU Tryz.prog 19 zX.P.ctr := dG (bM abK) 11 (fun _ => ⟨rfl,rfl,rfl,rfl⟩) fun x hx => Eq.mp (YO x) (PI x hx.1)
theorem amN : bU Tryz.prog 19 zX.M.ctr := uM (fun _ => ⟨fun _ => rfl,fun _ => rfl,trivial⟩) amL amM
theorem ajl : bU Tryz.prog 19 (lK 4).N.ctr := dG (bM UG) 10 (fun _ => ⟨rfl,rfl,rfl,rfl⟩) fun x hx => Eq.mp (UN x) (IU x hx.1)
theorem ajm : bU Tryz.prog 19 (lK 4).P.ctr := dG (bM UG) 11 (fun _ => ⟨rfl,rfl,rfl,rfl⟩) fun x hx => Eq.mp (UO x) (IV x hx.1)
theorem U0 : bU Tryz.prog 19 (lK 4).M.ctr := uM (fun _ => ⟨fun _ => rfl,fun _ => rfl,trivial⟩) ajl ajm
theorem ajn : bU Tryz.prog 19 (lK 5).N.ctr := dG (bM UH) 10 (fun _ => ⟨rfl,rfl,rfl,rfl⟩) fun x hx => Eq.mp (UQ x) (IW x hx.1)
theorem ajo : bU Tryz.prog 19 (lK 5).P.ctr := dG (bM UH) 11 (fun _ => ⟨rfl,rfl,rfl,rfl⟩) fun x hx => Eq.mp (UR x) (IX x hx.1)
theorem U1 : bU Tryz.prog 19 (lK 5).M.ctr := uM (fun _ => ⟨fun _ => rfl,fun _ => rfl,trivial⟩) ajn ajo
theorem aeX : bU Tryz.prog 19 (iU 4).N.ctr := dG (bM KO) 10 (fun _ => ⟨rfl,rfl,rfl,rfl⟩) fun x hx => Eq.mp (Py x) (GN x hx.1)
theorem aeY : bU Tryz.prog 19 (iU 4).P.ctr := dG (bM KO) 11 (fun _ => ⟨rfl,rfl,rfl,rfl⟩) fun x hx => Eq.mp (Pz x) (GR x hx.1)
theorem La : bU Tryz.prog 19 (iU 4).M.ctr := uM (fun _ => ⟨fun _ => rfl,trivial⟩) aeX aeY
theorem aeZ : bU Tryz.prog 19 (iU 5).N.ctr := dG (bM KP) 10 (fun _ => ⟨rfl,rfl,rfl,rfl⟩) fun x hx => Eq.mp (PD x) (GU x hx.1)
theorem ae0 : bU Tryz.prog 19 (iU 5).P.ctr := dG (bM KP) 11 (fun _ => ⟨rfl,rfl,rfl,rfl⟩) fun x hx => Eq.mp (PE x) (GV x hx.1)
theorem Lc : bU Tryz.prog 19 (iU 5).M.ctr := uM (fun _ => ⟨fun _ => rfl,trivial⟩) aeZ ae0
theorem YR : bU Tryz.prog 19 (gK 4).N.ctr := dG (bM Gm) 10 (fun _ => ⟨rfl,rfl,rfl,rfl⟩) fun x hx => Eq.mp (IC x) (CZ x hx.1)
theorem YS : bU Tryz.prog 19 (gK 4).P.ctr := dG (bM Gm) 11 (fun _ => ⟨rfl,rfl,rfl,rfl⟩) fun x hx => Eq.mp (IG x) (C9 x hx.1)
theorem YT : bU Tryz.prog 19 (gK 4).M.ctr := uM (fun _ => ⟨fun _ => rfl,fun _ => rfl,trivial⟩) YR YS
theorem YU : bU Tryz.prog 19 (gK 5).N.ctr := dG (bM Gn) 10 (fun _ => ⟨rfl,rfl,rfl,rfl⟩) fun x hx => Eq.mp (II x) (Dc x hx.1)
theorem YV : bU Tryz.prog 19 (gK 5).P.ctr := dG (bM Gn) 11 (fun _ => ⟨rfl,rfl,rfl,rfl⟩) fun x hx => Eq.mp (IJ x) (Df x hx.1)
theorem GX : bU Tryz.prog 19 (gK 5).M.ctr := uM (fun _ => ⟨fun _ => rfl,fun _ => rfl,trivial⟩) YU YV
theorem YW : bU Tryz.prog 19 mW.N.ctr := dG (bM KQ) 10 (fun _ => ⟨rfl,rfl,rfl,rfl⟩) fun x hx => Eq.mp (IK x) (Dh x hx.1)
theorem YX : bU Tryz.prog 19 mW.P.ctr := dG (bM KQ) 11 (fun _ => ⟨rfl,rfl,rfl,rfl⟩) fun x hx => Eq.mp (IL x) (Di x hx.1)
theorem YZ : bU Tryz.prog 19 mW.M.ctr := uM (fun _ => ⟨fun _ => rfl,fun _ => rfl,trivial⟩) YW YX
theorem ajp : bU Tryz.prog 19 qF.N.ctr := dG (bM UJ) 10 (fun _ => ⟨rfl,rfl,rfl,rfl⟩) fun x hx => Eq.mp (UU x) (IY x hx.1)
theorem ajq : bU Tryz.prog 19 qF.P.ctr := dG (bM UJ) 11 (fun _ => ⟨rfl,rfl,rfl,rfl⟩) fun x hx => Eq.mp (UW x) (IZ x hx.1)
theorem U2 : bU Tryz.prog 19 qF.M.ctr := uM (fun _ => ⟨fun _ => rfl,fun _ => rfl,fun _ => rfl,trivial⟩) ajp ajq
theorem ajr : bU Tryz.prog 19 qG.N.ctr := dG (bM UK) 11 (fun _ => ⟨rfl,rfl,rfl,rfl⟩) fun x hx => Eq.mp (UY x) (I4 x hx.1)
theorem ajs : bU Tryz.prog 19 qG.P.ctr := dG (bM UK) 12 (fun _ => ⟨rfl,rfl,rfl,rfl⟩) fun x hx => Eq.mp (UZ x) (I5 x hx.1)
theorem U3 : bU Tryz.prog 19 qG.M.ctr := uM (fun _ => ⟨fun _ => rfl,fun _ => rfl,fun _ => rfl,trivial⟩) ajr ajs
theorem U4 (x : ZPb) (hx : x.chg.okE/\(∃ i j,x.chg.inP i j)/\∀ k,x.a.c.o k + 8 < 1099511627776) : YP x := by
 unfold YP
 simp only [amJ,amI,aeQ,IQ,amK]
 simp only [aY,aU,aT,ay,aH,bI,bn,aN,aJ,au,aW,aV,bJ,bC,bD,bF,bK,bf,bG,aZ,dU,aG,aK,ah,aj,aA,aC,aB,aF]
 exact ⟨by decide,x.chg,hx,⟨rfl,rfl⟩,⟨rfl,rfl,rfl,rfl,rfl,rfl,rfl,rfl,rfl,rfl⟩,by decide,by decide,rfl⟩
theorem U5 (x : ZPb) (hx : x.chg.okD/\(∃ i j,x.chg.inP i j)/\0<=x.a.id/\x.a.id < 1152921504606846976/\x.a.n ≠ 0) : YQ x := by
 unfold YQ
 simp only [amJ,amI,aeQ,IQ,amK]
 simp only [aY,aU,aT,ay,aH,bI,bn,aN,aJ,au,aW,aV,bJ,bC,bD,bF,bK,bf,bG,aZ,dU,aG,aK,ah,aj,aA,aC,aB,aF]
 exact ⟨by decide,x.chg,hx,⟨rfl,rfl⟩,⟨rfl,rfl,rfl,rfl,rfl,rfl,rfl,rfl,rfl,rfl⟩,by decide,by decide,rfl⟩
theorem ab1 : bU Tryz.prog 19 aji := dR dD mixed amG noA 200 6 (fun _ => rfl) (fun _ => rfl) fun x hx => Eq.mp (aeR x) (U4 x (aY.1 hx))
theorem ab2 : bU Tryz.prog 19 ajj := dR dD mixed amH noA 200 6 (fun _ => rfl) (fun _ => rfl) fun x hx => Eq.mp (aeS x) (U5 x (aY.1 hx))
end Go.Proofs.YtenfleoejgjklaaGreat
end
section
namespace Go.Proofs.YtenfleoejgjklaaGreat
open Go SE
structure ZRt where
 c : ClkM
 l : ZLn
 t : Nat
 f : ZFr
def arnC : bZ := aa2 .any .any (.ptr 1 0) .any .any .any .any
def arR : bZ := aa2 .any .any (.ptr 1 0) .any .any (.ptr 2 0) .any
noncomputable def Aw : Ctr := det ZRt (fun x => [.ptr 0 0,i64 x.t,{ x.f with had := false }.av 4 5 fJ]) 2 (fun x => [arnC,.abs (ownM (x.c.os 0))]) (fun x => Hd (x.c.ok/\x.t < x.c.t/\x.c.now ≠ x.f.epoch/\0<=x.f.line)) (fun x => { x.f with had := false,epoch := x.c.now }.av 4 5 fJ) 2 (fun x => [arnC,.abs (ownM (x.c.os 0))])
def ZRt.bad (x : ZRt) : Prop := x.c.ok/\x.l.ok/\x.t < x.c.t/\(x.c.now ≠ x.f.epoch ∨ x.l.n = 0 ∨ x.l.head ≠ x.f.old)/\0<=x.f.line
noncomputable def Az : Ctr := det ZRt (fun x => [.ptr 0 0,i64 x.t,{ x.f with had := true }.av 5 5 fJ]) 3 (fun x => [arR,.abs (ownM (x.c.os 0)),.abs (ownM x.l.os)]) (fun x => Hd x.bad) (fun x => { x.f with had := false,old := pX,ans := emp,epoch := x.c.now }.av 5 1 fJ) 3 (fun x => [arR,.abs (ownM (x.c.os 0)),.abs (ownM x.l.os)])
noncomputable def arS : WTbl := yV ++ [(205,ctrT rO),(204,ctrT (Sv 0).ctr),(45,ctrT (Ns 0).ctr)]
noncomputable def arT : WTbl := yV ++ [(205,ctrT nP),(204,ctrT (Sv 0).ctr),(45,ctrT (Ns 0).ctr),(154,ctrT rG.ctr)]
noncomputable def ajt : Ctr := { YC with pre := fun x => Hd (x.l.ok/\(x.l.n = 0->x.f.line < 0)) }
structure ZGb where
 p : dw
 i : Nat
 k : Nat
 l : ZLn
 t : Nat
 f : ZFr
def ZGb.pb (x : ZGb) : gq := ⟨x.p,x.i,x.k⟩
def arU : bZ := aa2 (.ptr 1 0) .any .any .any .any (.ptr 2 0) .any
noncomputable def Ld : Ctr := det ZGb (fun x => [.ptr 0 0,i64 x.t,{ x.f with line := x.pb.line }.av 5 1 fJ]) 3 (fun x => [arU,.abs (ownM x.p.os),.abs (ownM x.l.os)]) (fun x => Hd (x.pb.ok/\x.l.ok/\x.l.n = 0)) (fun x => { x.f with had := false,old := pX,line := -1 }.av 5 6 fJ) 3 (fun x => [arU,.abs (ownM (x.p.give x.i x.k).os),.abs (ownM x.l.os)])
noncomputable def arV : WTbl := yV ++ [(154,ctrT rG.ctr),(65,ctrT ahc.ctr)]
noncomputable def U6 (k : Int) : Ctr := det ZSt (fun x => [.ptr 0 0,i64 x.t,x.f.av k 7 fJ]) 1 (fun x => [.abs (ownM x.a.os)]) (fun _ => Hd True) (fun x => x.f.av k 7 fJ) 1 (fun x => [.abs (ownM x.a.os)])
noncomputable def beginP : jd := lV ClkM (fun _ => [.ptr 0 0]) 1 (fun c => [.m (c.os 0)]) (fun c => Hd (c.ok/\c.clos = 0)) (fun _ => i64 0) 1 (fun c => [.m (c.start.os 1)])
structure ZCd where
 c : ClkM
 d : DevM
 ph : Nat
def ZCd.cd (x : ZCd) : oZ := ⟨x.c,x.d⟩
noncomputable def ab3 : jd := { X := ZCd,args := fun _ => [.ptr 0 0,.ptr 1 0],k := 2,l := fun x => [.m (x.c.os 1),.m x.d.os],pre := fun x => Hd x.cd.ok,outs := [
 { Y := Nat,post := fun x k => Hd (k < 258/\x.c.L k = true/\∀ j,j < k->x.c.L j = false),ret := fun _ _ => Ia 1,m := 2,l := fun x k => [.m ((x.c.aal k).os 1),.m (x.d.flush k).os] },
 { Y := Unit,post := fun x _ => Hd (∀ j,j < 258->x.c.L j = false),ret := fun _ _ => Ia 2,m := 2,l := fun x _ => [.m (x.c.os 2),.m x.d.fence.os] }] }
noncomputable def ab4 : jd := lV ZCd (fun _ => [.ptr 0 0,.ptr 1 0]) 2 (fun x => [.m (x.c.os 2),.m x.d.os]) (fun x => Hd x.cd.ok) (fun _ => Ia 3) 2 (fun x => [.m (x.c.os 3),.m (x.d.store 1 0 64 (iK x.c.clos)).os])
noncomputable def ab5 : jd := lV ZCd (fun _ => [.ptr 0 0,.ptr 1 0]) 2 (fun x => [.m (x.c.os 3),.m x.d.os]) (fun x => Hd x.cd.ok) (fun _ => Ia 1) 2 (fun x => [.m (x.c.os 4),.m (x.d.flush 1).os])
noncomputable def ab6 : jd := lV ZCd (fun _ => [.ptr 0 0,.ptr 1 0]) 2 (fun x => [.m (x.c.os 4),.m x.d.os]) (fun x => Hd x.cd.ok) (fun _ => Ia 2) 2 (fun x => [.m (x.c.fin.os 0),.m x.d.fence.os])
noncomputable def ab7 : jd := lV ZCd (fun _ => [.ptr 0 0,.ptr 1 0]) 2 (fun x => [.m (x.c.os 0),.m x.d.os]) (fun x => Hd (x.c.clos = 0)) (fun _ => .tup [i64 0,i64 12]) 2 (fun x => [.m (x.c.os 0),.m x.d.os])
end Go.Proofs.YtenfleoejgjklaaGreat
end
section
namespace Go.Proofs.YtenfleoejgjklaaGreat
open Go SE
noncomputable def qj : wz := { X := ZSt,args := fun x => [.ptr 0 0,i64 x.t,{ x.f with had := false }.av 4 5 fJ],a := ZSt.a,k := 1,ex := fun _ => [],pre := fun x => Hd (x.a.c.ok/\x.t < x.a.c.t/\x.a.c.now ≠ x.f.epoch/\0<=x.f.line),outs := [
 { Y := Unit,post := fun _ _ => True,ret := fun x _ => { x.f with had := false,epoch := x.a.c.now }.av 4 5 fJ,a := fun x _ => x.a,m := 1,ex := fun _ _ => [] }] }
def ZSt.rt (x : ZSt) : ZRt := ⟨x.a.c,x.a.l,x.t,x.f⟩
noncomputable def ql : wz := { X := ZSt,args := fun x => [.ptr 0 0,i64 x.t,{ x.f with had := true }.av 5 5 fJ],a := ZSt.a,k := 1,ex := fun _ => [],pre := fun x => Hd x.rt.bad,outs := [
 { Y := Unit,post := fun _ _ => True,ret := fun x _ => { x.f with had := false,old := pX,ans := emp,epoch := x.a.c.now }.av 5 1 fJ,a := fun x _ => x.a,m := 1,ex := fun _ _ => [] }] }
noncomputable def y7 : wz := { zX with pre := fun x => Hd (x.a.l.ok/\(x.a.l.n = 0->x.f.line < 0)) }
structure aju where
 a : ZArn
 f : ZFr
 t : Nat
 i : Nat
 k : Nat
def aju.pb (x : aju) : gq := ⟨x.a.p,x.i,x.k⟩
noncomputable def y8 : wz := { X := aju,args := fun x => [.ptr 0 0,i64 x.t,{ x.f with line := x.pb.line }.av 5 1 fJ],a := aju.a,k := 1,ex := fun _ => [],pre := fun x => Hd (x.pb.ok/\x.a.l.ok/\x.a.l.n = 0),outs := [
 { Y := Unit,post := fun _ _ => True,ret := fun x _ => { x.f with had := false,old := pX,line := -1 }.av 5 6 fJ,a := fun x _ => x.a.abL (x.a.p.give x.i x.k),m := 1,ex := fun _ _ => [] }] }
structure ZTs where
 a : ZArn
 f : ZFr
 ph : Int
def ZTs.st (s : ZTs) (t : Nat) : ZSt := ⟨s.a,s.f,t⟩
def ZTs.pb (s : ZTs) (t ln : Nat) : ZPb := ⟨s.a,s.f,t,ln⟩
def wE (t : Nat) (s : ZTs) (Q : ZTs->Prop) : Prop :=
 (s.ph = 0/\(s.a.r.ok/\s.a.c.ok/\t < s.a.r.t/\s.a.r.has t = 0)/\(400 < s.f.value.size->Q ⟨s.a,{ s.f with code := 5 },7⟩)/\(s.f.value.size<=400->Q ⟨s.a.rW t s.a.r.now,{ s.f with epoch := s.a.c.now },3⟩)) ∨
 (s.ph = 3/\(s.a.p.ok/\s.f.value.size<=400)/\((∀ i,i < s.a.p.n->s.a.p.cls i ≠ -1/\s.a.p.full (ned s.f.value.size) i)->Q ⟨s.a,{ s.f with cls := ned s.f.value.size,ans := emp,code := 4 },6⟩) /\
  ∀ i j : Nat,s.a.p.takes (ned s.f.value.size) i j->Q ⟨s.a.abL (s.a.p.take (ned s.f.value.size) i j),{ s.f with cls := ned s.f.value.size,line := 2 + i * 8 + j * spn (ned s.f.value.size),piece := 0 },4⟩) ∨
 (s.ph = 4/\∃ ln p : Nat,s.f = (ZWr.mk s.a.d t s.f ln s.f.cls p).fr p/\(ZWr.mk s.a.d t s.f ln s.f.cls p).ok/\(p + 1 ≠ spn s.f.cls->Q ⟨s.a.IB (ZWr.mk s.a.d t s.f ln s.f.cls p).d',{ s.f with piece := (p + 1 : Nat) },4⟩)/\(p + 1 = spn s.f.cls->Q ⟨s.a.IB (ZWr.mk s.a.d t s.f ln s.f.cls p).d',{ s.f with piece := 0 },5⟩)) ∨
 (s.ph = 5/\s.f.had = false/\∃ ln : Nat,s.f.line = ln/\((s.pb t ln).chg.okE/\(∃ i j,(s.pb t ln).chg.inP i j)/\∀ k,s.a.c.o k + 8 < 1099511627776)/\Q ⟨(s.pb t ln).chg.enq,{ s.f with found := false,aep := s.f.epoch,line := -1 },6⟩) ∨
 (s.ph = 5/\s.f.had = false/\(s.a.c.ok/\t < s.a.c.t/\s.a.c.now ≠ s.f.epoch/\0<=s.f.line)/\Q ⟨s.a,{ s.f with epoch := s.a.c.now },5⟩) ∨
 (s.ph = 6/\(s.a.r.ok/\t < s.a.r.t)/\Q ⟨s.a.rW t 0,s.f,7⟩) ∨
 (s.ph = 7/\Q s)
def wD (t : Nat) (b : dN) (n : Nat) (s : ZTs) (Q : Nat->ZTs->Prop) : Prop :=
 (s.ph = 0/\n = 0/\(s.a.r.ok/\s.a.c.ok/\t < s.a.r.t/\s.a.r.has t = 0)/\Q 0 ⟨s.a.rW t s.a.r.now,{ s.f with epoch := s.a.c.now },1⟩) ∨
 (s.ph = 1/\n = 0/\(s.a.l.ok/\(s.a.l.n = 0->s.f.line < 0))/\(s.a.l.n = 0->Q 0 ⟨s.a,{ s.f with had := false,old := pX },6⟩)/\(s.a.l.n ≠ 0->Q 0 ⟨s.a,{ s.f with had := true,old := s.a.l.head,piece := 0 },2⟩)) ∨
 (s.ph = 1/\n = 0/\∃ i k,(gq.ok ⟨s.a.p,i,k⟩/\s.a.l.ok/\s.a.l.n = 0)/\s.f.line = gq.line ⟨s.a.p,i,k⟩/\Q 0 ⟨s.a.abL (s.a.p.give i k),{ s.f with had := false,old := pX,line := -1 },6⟩) ∨
 (s.ph = 2/\∃ ln : Nat,s.f = (ZRe.mk s.a.d t s.f b ln n).fr n/\(ZRe.mk s.a.d t s.f b ln n).ok/\(n + 1 ≠ spn b.cls->Q (n + 1) ⟨s.a,{ s.f with piece := (n + 1 : Nat) },2⟩)/\(n + 1 = spn b.cls->Q 0 ⟨s.a,{ s.f with piece := (n + 1 : Nat),ans := b.value },if s.f.line < 0 then 3 else 5⟩)) ∨
 (s.ph = 3/\n = 0/\(s.a.p.ok/\s.f.value.size<=400)/\((∀ i,i < s.a.p.n->s.a.p.cls i ≠ -1/\s.a.p.full 0 i)->Q 0 ⟨s.a,{ s.f with cls := 0,ans := emp,code := 4 },6⟩) /\
  ∀ i j : Nat,s.a.p.takes 0 i j->Q 0 ⟨s.a.abL (s.a.p.take 0 i j),{ s.f with cls := 0,line := 2 + i * 8 + j * spn 0,piece := 0 },4⟩) ∨
 (s.ph = 4/\n = 0/\s.f.cls = 0/\∃ ln : Nat,s.f = (ZWr.mk s.a.d t s.f ln 0 0).fr 0/\(ZWr.mk s.a.d t s.f ln 0 0).ok/\Q 0 ⟨s.a.IB (ZWr.mk s.a.d t s.f ln 0 0).d',{ s.f with piece := 0 },5⟩) ∨
 (s.ph = 5/\n = 0/\s.f.had = true/\∃ ln : Nat,s.f.line = ln/\((s.pb t ln).chg.okD/\(∃ i j,(s.pb t ln).chg.inP i j)/\0<=s.a.id/\s.a.id < 1152921504606846976/\s.a.n ≠ 0)/\Q 0 ⟨(s.pb t ln).chg.deq,{ s.f with found := true,aep := s.f.epoch,line := -1 },6⟩) ∨
 (s.ph = 5/\n = 0/\s.f.had = true/\(s.st t).rt.bad/\Q 0 ⟨s.a,{ s.f with had := false,old := pX,ans := emp,epoch := s.a.c.now },1⟩) ∨
 (s.ph = 6/\n = 0/\(s.a.r.ok/\t < s.a.r.t)/\Q 0 ⟨s.a.rW t 0,s.f,7⟩) ∨
 (s.ph = 7/\n = 0/\Q 0 s)
structure ZWe where
 s : ZTs
 t : Nat
 q : ZTs->Prop
noncomputable def ajv : Ctr := { X := ZWe,args := fun x => [.ptr 0 0,i64 x.t,x.s.f.av 4 x.s.ph fJ],k := 1,os := fun x => [.abs (ownM x.s.a.os)],pre := fun x => Hd (wE x.t x.s x.q),outs := [
 { Y := ZTs,post := fun x y => Hd (x.q y),ret := fun _ y => y.f.av 4 y.ph fJ,m := 1,os := fun _ y => [.abs (ownM y.a.os)] }] }
structure ZWd where
 s : ZTs
 t : Nat
 b : dN
 n : Nat
 q : Nat->ZTs->Prop
noncomputable def anO : Ctr := { X := ZWd,args := fun x => [.ptr 0 0,i64 x.t,x.s.f.av 5 x.s.ph fJ],k := 1,os := fun x => [.abs (ownM x.s.a.os)],pre := fun x => Hd (x.n = 0/\wD x.t x.b 0 x.s x.q),outs := [
 { Y := ZTs,post := fun x y => Hd (x.q 0 y),ret := fun _ y => y.f.av 5 y.ph fJ,m := 1,os := fun _ y => [.abs (ownM y.a.os)] },
 { Y := ZTs,post := fun x y => Hd (x.q 1 y/\y.ph = 2),ret := fun _ y => y.f.av 5 2 (.slW 1 0 1 64),m := 2,os := fun x y => [.abs (ownM y.a.os),Ir x.b.enc 64] }] }
noncomputable def anP : Ctr := { X := ZWd,args := fun x => [.ptr 0 0,i64 x.t,x.s.f.av 5 2 (.slW 1 0 1 (64 * x.n))],k := 2,os := fun x => [.abs (ownM x.s.a.os),Ir x.b.enc (64 * x.n)],pre := fun x => Hd (x.n ≠ 0/\x.s.ph = 2/\wD x.t x.b x.n x.s x.q),outs := [
 { Y := ZTs,post := fun x y => Hd (x.q 0 y),ret := fun _ y => y.f.av 5 y.ph fJ,m := 2,os := fun x y => [.abs (ownM y.a.os),Ir x.b.enc (64 * x.n)] },
 { Y := ZTs,post := fun x y => Hd (x.q (x.n + 1) y/\y.ph = 2),ret := fun x y => y.f.av 5 2 (.slW 2 0 1 (64 * (x.n + 1))),m := 3,os := fun x y => [.abs (ownM y.a.os),Ir x.b.enc (64 * x.n),Ir x.b.enc (64 * (x.n + 1))] }] }
end Go.Proofs.YtenfleoejgjklaaGreat
end
section
namespace Go.Proofs.YtenfleoejgjklaaGreat
open Go SE
def jr : Prop := Value.slice none 0 0 = Value.slice none 0 0
def Dj (a : ZFr) (b : ZFr) : Prop := jr/\(0 : Int) = 0/\jr/\a.code = b.code/\a.found = b.found/\a.ans = b.ans/\jr/\jr/\a.aep = b.aep/\True
def Dk (a : ZFr) (b : ZFr) : Prop := a.cls = b.cls/\a.piece = b.piece/\Dj a b
def qJ : Prop := jr/\jr/\jr/\jr/\True
def Le (a : ZArn) : Prop := (a.n = a.n/\∀ q : Nat,q < a.n->[Value.int .i64 (eY.kind (a.e q)),Value.string (eY.key (a.e q)),Value.string (eY.value (a.e q)),Value.int .u64 (eY.id (a.e q)),Value.int .u64 (eY.ver (a.e q)),Value.int .u64 (eY.epoch (a.e q)),Value.int .i64 (eY.group (a.e q))] = [Value.int .i64 (eY.kind (a.e q)),Value.string (eY.key (a.e q)),Value.string (eY.value (a.e q)),Value.int .u64 (eY.id (a.e q)),Value.int .u64 (eY.ver (a.e q)),Value.int .u64 (eY.epoch (a.e q)),Value.int .i64 (eY.group (a.e q))])/\True
def ae1 (a : ZArn) (b : ZLn) : Prop := ownM a.b.os = ownM a.b.os/\ownM tabE = ownM tabE/\qJ/\ownM a.l.os = ownM b.os/\Le a
def jv : Prop := ByteArray.mk #[] = ByteArray.mk #[]
def qK (a : dw) : Prop := ownM a.os = ownM a.os
def BO (a : ZArn) : Prop := 0 = 0/\0 = 0/\0 = 0/\0 = 0/\0 = 0/\0 = 0/\0 = 0/\0 = 0/\a.id = a.id/\a.ver = a.ver/\jr/\True
def lu (a : ZRd) : Prop := ownM a.os = ownM a.os
def lC : Prop := 0 = 0/\(1 : Int) = 1/\(0 : Int) = 0/\(0 : Int) = 0/\True
def lD (a : DevM) : Prop := ownM a.os = ownM a.os
def oP (a : ZLn) (b : ZLn) : Prop := ownM a.os = ownM b.os/\True
def Lh (a : ZArn) (b : ZLn) : Prop := ownM a.b.os = ownM a.b.os/\ownM tabE = ownM tabE/\qJ/\oP a.l b
def U7 (a : ZArn) (b : ZLn) : Prop := BO a/\lC/\lD a.d/\qK a.p/\lu a.r/\ownM (a.c.os 0) = ownM (a.c.os 0)/\Lh a b
def y9 (a : ZFr) (b : ZFr) : Prop := a.old.key = b.old.key/\a.old.id = b.old.id/\a.old.ver = b.old.ver/\a.old.line = b.old.line/\a.old.cls = b.old.cls/\a.line = b.line/\Dk a b
def BP (a : ZArn) : Prop := 0 = 0/\0 = 0/\0 = 0/\0 = 0/\0 = 0/\0 = 0/\0 = 0/\0 = 0/\a.id = a.id/\a.ver = a.ver/\(0 = 0/\a.n = a.n)/\True
def U8 (a : ZArn) (b : ZLn) : Prop := BP a/\lC/\lD a.d/\qK a.p/\lu a.r/\ownM (a.c.os 0) = ownM (a.c.os 0)/\ae1 a b
def ab8 (a : ZFr) (b : ZFr) : Prop := jv/\false = false/\(0 : Int) = 0/\false = false/\y9 a b
def ab9 (a : ZSt) (b : ZRt) : Prop := (5 : Int) = 5/\a.f.key = b.f.key/\a.f.value = b.f.value/\jv/\jr/\(1 : Int) = 1/\a.a.c.now = b.c.now/\jv/\false = false/\(0 : Int) = 0/\false = false/\jv/\(0 : Int) = 0/\(0 : Int) = 0/\(0 : Int) = 0/\(0 : Int) = 0/\a.f.line = b.f.line/\a.f.cls = b.f.cls/\a.f.piece = b.f.piece/\jr/\(0 : Int) = 0/\jr/\a.f.code = b.f.code/\a.f.found = b.f.found/\emp = emp/\jr/\jr/\a.f.aep = b.f.aep/\True
def acd (a : ZSt) (b : ZFi) : Prop := (5 : Int) = 5/\a.f.key = b.f.key/\a.f.value = b.f.value/\jv/\jr/\(2 : Int) = 2/\a.f.epoch = b.f.epoch/\jv/\false = false/\(0 : Int) = 0/\true = true/\a.a.l.head.key = b.l.head.key/\a.a.l.head.id = b.l.head.id/\a.a.l.head.ver = b.l.head.ver/\a.a.l.head.line = b.l.head.line/\a.a.l.head.cls = b.l.head.cls/\a.f.line = b.f.line/\a.f.cls = b.f.cls/\(0 : Int) = 0/\Dj a.f b.f
def ace (a : ZGb) (b : aju) : Prop := 0 = 0/\(a.t : Int) = (b.t : Int)/\((5 : Int) = 5/\a.f.key = b.f.key/\a.f.value = b.f.value/\jv/\jr/\(1 : Int) = 1/\a.f.epoch = b.f.epoch/\jv/\false = false/\(0 : Int) = 0/\a.f.had = b.f.had/\a.f.old.key = b.f.old.key/\a.f.old.id = b.f.old.id/\a.f.old.ver = b.f.old.ver/\a.f.old.line = b.f.old.line/\a.f.old.cls = b.f.old.cls/\a.pb.line = b.pb.line/\Dk a.f b.f)/\True
def acf (a : ZSt) (b : ZFr) : Prop := (5 : Int) = 5/\a.f.key = b.key/\a.f.value = b.value/\jv/\jr/\(2 : Int) = 6/\a.f.epoch = b.epoch/\jv/\false = false/\(0 : Int) = 0/\true = false/\a.a.l.head.key = ByteArray.mk #[]/\a.a.l.head.id = 0/\a.a.l.head.ver = 0/\a.a.l.head.line = 0/\a.a.l.head.cls = 0/\a.f.line = b.line/\a.f.cls = b.cls/\0 = b.piece/\Dj a.f b
def acg (a : ZFr) (b : ZFi) : Prop := (5 : Int) = 5/\a.key = b.f.key/\a.value = b.f.value/\jv/\jr/\(6 : Int) = 2/\a.epoch = b.f.epoch/\jv/\false = false/\(0 : Int) = 0/\false = true/\ByteArray.mk #[] = b.l.head.key/\0 = b.l.head.id/\0 = b.l.head.ver/\0 = b.l.head.line/\0 = b.l.head.cls/\a.line = b.f.line/\a.cls = b.f.cls/\a.piece = 0/\Dj a b.f
def qL : Prop := True/\True/\True/\0 = 0/\True/\True/\True/\True
def ach (a : ZFr) (b : ZFr) : Prop := (5 : Int) = 5/\a.key = b.key/\a.value = b.value/\jv/\jr/\(6 : Int) = 6/\a.epoch = b.epoch/\jv/\false = false/\(0 : Int) = 0/\false = false/\jv/\(0 : Int) = 0/\(0 : Int) = 0/\(0 : Int) = 0/\(0 : Int) = 0/\(-(1 : Int)) = (-(1 : Int))/\Dk a b
def aci (a : ZFr) (b : ZFr) : Prop := (5 : Int) = 5/\a.key = b.key/\a.value = b.value/\jv/\jr/\(6 : Int) = 6/\a.epoch = b.epoch/\jv/\false = false/\(0 : Int) = 0/\false = false/\jv/\(0 : Int) = 0/\(0 : Int) = 0/\(0 : Int) = 0/\(0 : Int) = 0/\a.line = b.line/\Dk a b
def acj (a : ZFi) (b : ZSt) : Prop := 0 = 0/\(a.t : Int) = (b.t : Int)/\((5 : Int) = 5/\a.f.key = b.f.key/\a.f.value = b.f.value/\jv/\jr/\(1 : Int) = 1/\a.f.epoch = b.f.epoch/\jv/\false = false/\(0 : Int) = 0/\a.f.had = b.f.had/\y9 a.f b.f)/\True
def acn (a : ZRt) (b : ZSt) : Prop := 0 = 0/\(a.t : Int) = (b.t : Int)/\((5 : Int) = 5/\a.f.key = b.f.key/\a.f.value = b.f.value/\jv/\jr/\(5 : Int) = 5/\a.f.epoch = b.f.epoch/\jv/\false = false/\(0 : Int) = 0/\true = true/\y9 a.f b.f)/\True
def aco (a : ZRt) (b : ZSt) : Prop := 0 = 0/\(a.t : Int) = (b.t : Int)/\((4 : Int) = 4/\a.f.key = b.f.key/\a.f.value = b.f.value/\jv/\jr/\(5 : Int) = 5/\a.f.epoch = b.f.epoch/\ab8 a.f b.f)/\True
def acp (a : ZSt) (b : ZRt) : Prop := (4 : Int) = 4/\a.f.key = b.f.key/\a.f.value = b.f.value/\jv/\jr/\(5 : Int) = 5/\a.a.c.now = b.c.now/\ab8 a.f b.f
def tJ (a : ClkM) (b : ClkM) : Prop := ownM (a.os 0) = ownM (b.os 0)
def acr (a : ClkM) (b : ClkM) : Prop := (True/\True/\True/\0 = 0/\True/\True/\True/\True/\True/\True/\True/\True)/\tJ a b/\True
def AA (x : ZSt) : Prop :=
 ∃ x_1 : ZRt,Hd (x_1.c.ok/\x_1.t < x_1.c.t/\x_1.c.now ≠ x_1.f.epoch/\0<=x_1.f.line)/\aco x_1 x/\acr x_1.c x.a.c/\∀ y : Unit,True->∃ y_1 : Unit,True/\acp x x_1/\BO x.a/\lC/\lD x.a.d/\qK x.a.p/\lu x.a.r/\tJ x.a.c x_1.c/\ownM x.a.b.os = ownM x.a.b.os/\ownM tabE = ownM tabE/\qJ/\ownM x.a.l.os = ownM x.a.l.os/\True
theorem PK (x : ZSt) : AA x = ctrT Aw (qj.N.args x) (hO 10 (dK 1 (qj.N.l x))) (fun v h' => cO 1 x v h' qj.N.outs) := by kernel_rfl
def AB (x : ZSt) : Prop :=
 ∃ x_1 : ZRt,Hd (x_1.c.ok/\x_1.t < x_1.c.t/\x_1.c.now ≠ x_1.f.epoch/\0<=x_1.f.line)/\aco x_1 x/\acr x_1.c x.a.c/\∀ y : Unit,True->∃ y_1 : Unit,True/\acp x x_1/\BP x.a/\lC/\lD x.a.d/\qK x.a.p/\lu x.a.r/\tJ x.a.c x_1.c/\ownM x.a.b.os = ownM x.a.b.os/\ownM tabE = ownM tabE/\qJ/\ownM x.a.l.os = ownM x.a.l.os/\Le x.a
theorem PL (x : ZSt) : AB x = ctrT Aw (qj.P.args x) (hO 11 (dK 1 (qj.P.l x))) (fun v h' => cO 1 x v h' qj.P.outs) := by kernel_rfl
def AL (x : ZSt) : Prop :=
 ∃ x_1 : ZRt,Hd x_1.bad/\acn x_1 x/\((True/\True/\True/\0 = 0/\qL)/\tJ x_1.c x.a.c/\oP x_1.l x.a.l)/\∀ y : Unit,True->∃ y_1 : Unit,True/\ab9 x x_1/\BO x.a/\lC/\lD x.a.d/\qK x.a.p/\lu x.a.r/\tJ x.a.c x_1.c/\Lh x.a x_1.l
theorem PN (x : ZSt) : AL x = ctrT Az (ql.N.args x) (hO 10 (dK 1 (ql.N.l x))) (fun v h' => cO 1 x v h' ql.N.outs) := by kernel_rfl
def AO (x : ZSt) : Prop :=
 ∃ x_1 : ZRt,Hd x_1.bad/\acn x_1 x/\((True/\True/\True/\0 = 0/\qL)/\tJ x_1.c x.a.c/\oP x_1.l x.a.l)/\∀ y : Unit,True->∃ y_1 : Unit,True/\ab9 x x_1/\BP x.a/\lC/\lD x.a.d/\qK x.a.p/\lu x.a.r/\tJ x.a.c x_1.c/\ae1 x.a x_1.l
theorem PS (x : ZSt) : AO x = ctrT Az (ql.P.args x) (hO 11 (dK 1 (ql.P.l x))) (fun v h' => cO 1 x v h' ql.P.outs) := by kernel_rfl
def GY (x : ZSt) : Prop :=
 ∃ x_1 : ZFi,Hd (x_1.l.ok/\(x_1.l.n = 0->x_1.f.line < 0))/\acj x_1 x/\((True/\True/\True/\True/\qL)/\oP x_1.l x.a.l)/\(∀ y : Unit,Hd (x_1.l.n = 0)->(∃ y_1 : Unit,Hd (x.a.l.n = 0)/\aci x.f x_1.f/\U7 x.a x_1.l) ∨ ∃ y_1 : Unit,Hd (x.a.l.n ≠ 0)/\acf x x_1.f/\U7 x.a x_1.l)/\∀ y : Unit,Hd (x_1.l.n ≠ 0)->(∃ y_1 : Unit,Hd (x.a.l.n = 0)/\acg x.f x_1/\U7 x.a x_1.l) ∨ ∃ y_1 : Unit,Hd (x.a.l.n ≠ 0)/\acd x x_1/\U7 x.a x_1.l
theorem U9 (x : ZSt) : GY x = ctrT ajt (y7.N.args x) (hO 10 (dK 1 (y7.N.l x))) (fun v h' => cO 1 x v h' y7.N.outs) := by kernel_rfl
def GZ (x : ZSt) : Prop :=
 ∃ x_1 : ZFi,Hd (x_1.l.ok/\(x_1.l.n = 0->x_1.f.line < 0))/\acj x_1 x/\((True/\True/\True/\True/\qL)/\oP x_1.l x.a.l)/\(∀ y : Unit,Hd (x_1.l.n = 0)->(∃ y_1 : Unit,Hd (x.a.l.n = 0)/\aci x.f x_1.f/\U8 x.a x_1.l) ∨ ∃ y_1 : Unit,Hd (x.a.l.n ≠ 0)/\acf x x_1.f/\U8 x.a x_1.l)/\∀ y : Unit,Hd (x_1.l.n ≠ 0)->(∃ y_1 : Unit,Hd (x.a.l.n = 0)/\acg x.f x_1/\U8 x.a x_1.l) ∨ ∃ y_1 : Unit,Hd (x.a.l.n ≠ 0)/\acd x x_1/\U8 x.a x_1.l
theorem Va (x : ZSt) : GZ x = ctrT ajt (y7.P.args x) (hO 11 (dK 1 (y7.P.l x))) (fun v h' => cO 1 x v h' y7.P.outs) := by kernel_rfl
def G5 (x : aju) : Prop :=
 ∃ x_1 : ZGb,Hd (x_1.pb.ok/\x_1.l.ok/\x_1.l.n = 0)/\ace x_1 x/\((True/\0 = 0/\True/\True/\qL)/\ownM x_1.p.os = ownM x.a.p.os/\oP x_1.l x.a.l)/\∀ y : Unit,True->∃ y_1 : Unit,True/\ach x.f x_1.f/\BO x.a/\lC/\lD x.a.d/\ownM (dw.os (x.a.p.give x.i x.k)) = ownM (dw.os (x_1.p.give x_1.i x_1.k))/\lu x.a.r/\ownM (x.a.c.os 0) = ownM (x.a.c.os 0)/\Lh x.a x_1.l
theorem Vb (x : aju) : G5 x = ctrT Ld (y8.N.args x) (hO 10 (dK 1 (y8.N.l x))) (fun v h' => cO 1 x v h' y8.N.outs) := by kernel_rfl
def G6 (x : aju) : Prop :=
 ∃ x_1 : ZGb,Hd (x_1.pb.ok/\x_1.l.ok/\x_1.l.n = 0)/\ace x_1 x/\((True/\0 = 0/\True/\True/\qL)/\ownM x_1.p.os = ownM x.a.p.os/\oP x_1.l x.a.l)/\∀ y : Unit,True->∃ y_1 : Unit,True/\ach x.f x_1.f/\BP x.a/\lC/\lD x.a.d/\ownM (dw.os (x.a.p.give x.i x.k)) = ownM (dw.os (x_1.p.give x_1.i x_1.k))/\lu x.a.r/\ownM (x.a.c.os 0) = ownM (x.a.c.os 0)/\ae1 x.a x_1.l
theorem Vd (x : aju) : G6 x = ctrT Ld (y8.P.args x) (hO 11 (dK 1 (y8.P.l x))) (fun v h' => cO 1 x v h' y8.P.outs) := by kernel_rfl
end Go.Proofs.YtenfleoejgjklaaGreat
end
section
namespace Go.Proofs.YtenfleoejgjklaaGreat
open Go SE
def mZ : Prop := Value.slice none 0 0 = Value.slice none 0 0
def ajw : Prop := True/\True/\True/\0 = 0/\True/\True/\True/\True/\True/\True/\True/\True
def jh : Prop := ByteArray.mk #[] = ByteArray.mk #[]
def Lj (a : ClkM) (b : ClkM) : Prop := ownM (a.os 0) = ownM (b.os 0)
def tK (a : ClkM) (b : ClkM) : Prop := Lj a b/\True
def BQ (a : Int) : Prop := mZ/\mZ/\a = a/\True
def amO (a : ZRt) (b : ClkM) : Prop := True/\∃ y_1 : Unit,True/\((4 : Int) = 4/\a.f.key = a.f.key/\a.f.value = a.f.value/\jh/\mZ/\(5 : Int) = 6/\a.c.now = a.f.epoch/\jh/\false = false/\(0 : Int) = 0/\false = false/\a.f.old.key = a.f.old.key/\a.f.old.id = a.f.old.id/\a.f.old.ver = a.f.old.ver/\a.f.old.line = a.f.old.line/\a.f.old.cls = a.f.old.cls/\a.f.line = (-(1 : Int))/\a.f.cls = a.f.cls/\a.f.piece = a.f.piece/\mZ/\(0 : Int) = 0/\mZ/\a.f.code = 1/\a.f.found = a.f.found/\a.f.ans = ByteArray.mk #[]/\BQ a.f.aep)/\ajw/\tK a.c b
def ajx (a : ZFr) : Prop := a.found = a.found/\emp = ByteArray.mk #[]/\BQ a.aep
def Ve : Prop := True/\True/\True/\0 = 0/\True/\True/\True/\True
def acs : Prop := True/\True/\True/\0 = 0/\Ve
def amP (a : ZRt) (b : ClkM) : Prop := True/\∃ y_1 : Unit,True/\((5 : Int) = 5/\a.f.key = a.f.key/\a.f.value = a.f.value/\jh/\mZ/\(1 : Int) = 6/\a.c.now = a.f.epoch/\jh/\false = false/\(0 : Int) = 0/\false = true/\ByteArray.mk #[] = a.f.old.key/\0 = a.f.old.id/\0 = a.f.old.ver/\0 = a.f.old.line/\0 = a.f.old.cls/\a.f.line = (-(1 : Int))/\a.f.cls = a.f.cls/\a.f.piece = a.f.piece/\mZ/\(0 : Int) = 0/\mZ/\a.f.code = 1/\ajx a.f)/\acs/\Lj a.c b/\ownM a.l.os = ownM a.l.os/\True
def oQ (a : ClkM) (b : ClkM) : Prop := a.t = b.t/\∀ q : Nat,q < a.t->[Value.int .i64 (a.o q)] = [Value.int .i64 (b.o q)]
def tN (a : DevM) (b : DevM) : Prop := a.ba = b.ba/\a.cu = b.cu/\True
def ng (a : Nat) (b : Nat) : Prop := 0 = 0/\a = b/\a = b
def Vf (a : oZ) (b : ZCd) : Prop := oQ a.c b.c/\(ng a.d.n b.d.n/\a.d.st = b.d.st/\a.d.fl = b.d.fl/\a.d.fe = b.d.fe/\tN a.d b.d)/\(a.d.n * 193 = b.d.n * 193/\∀ q : Nat,q < a.d.n * 193->Cs.eff (gV a.d) [] q = Cs.eff (gV b.d) [] q)/\True
def ajy (a : ZRt) (b : Int) : Prop := (5 : Int) = 5/\a.f.key = a.f.key/\a.f.value = a.f.value/\jh/\mZ/\(1 : Int) = 1/\a.c.now = b/\jh/\false = false/\(0 : Int) = 0/\false = false/\jh/\(0 : Int) = 0/\(0 : Int) = 0/\(0 : Int) = 0/\(0 : Int) = 0/\a.f.line = a.f.line/\a.f.cls = a.f.cls/\a.f.piece = a.f.piece/\mZ/\(0 : Int) = 0/\mZ/\a.f.code = a.f.code/\ajx a.f
def oU (a : ClkM) (b : ClkM) : Prop := a.now = b.now/\a.dur = b.dur/\a.clos = b.clos/\ng a.t b.t/\True
def ni (a : ClkM) (b : ClkM) : Prop := 258 = 258/\∀ q : Nat,q < 258->[Value.bool (a.N q)] = [Value.bool (b.N q)]
def Ll (a : ZFr) : Prop := mZ/\(0 : Int) = 0/\mZ/\a.code = a.code/\a.found = a.found/\a.ans = a.ans/\BQ a.aep
def G7 (a : ZFr) : Prop := a.cls = a.cls/\a.piece = a.piece/\Ll a
def Vg (a : ZFr) : Prop := a.old.key = a.old.key/\a.old.id = a.old.id/\a.old.ver = a.old.ver/\a.old.line = a.old.line/\a.old.cls = a.old.cls/\a.line = a.line/\G7 a
def tV (a : ClkM) (b : ClkM) : Prop := 258 = 258/\∀ q : Nat,q < 258->[Value.bool (a.L q)] = [Value.bool (b.L q)]
def acu (a : ZCd) (b : oZ) : Prop := (ng a.d.n b.d.n/\a.d.st = b.d.st/\a.d.fl = b.d.fl/\a.d.fe + 1 = b.d.fe + 1/\tN a.d b.d)/\oQ a.c b.c/\(a.d.n * 193 = b.d.n * 193/\∀ q : Nat,q < a.d.n * 193->Cs.eff (gV a.d.fence) [] q = Cs.eff (gV b.d.fence) [] q)/\True
def ajz (a : ClkM) (b : ZRt) (c : ZLn) : Prop := True/\∃ x_5 : ClkM,Hd x_5.ok/\(0 = 0/\True)/\tK x_5 a/\∀ y_4 : Unit,True->∃ y_5 : Unit,True/\ajy b x_5.now/\acs/\Lj b.c x_5/\ownM b.l.os = ownM c.os/\True
def tX : Prop := (0 = 0/\True)/\True
def acv (a : ZFr) : Prop := a.key = a.key/\a.value = a.value/\jh/\mZ/\(7 : Int) = 7/\a.epoch = a.epoch/\jh/\false = false/\(0 : Int) = 0/\a.had = a.had/\Vg a
def Vh : Prop := (@Fn.func (57 : @FuncId) = @Fn.func (57 : @FuncId)/\tX)/\True
def acw (a : ZRt) : Prop := AV.lit (Value.int .u64 a.f.epoch) = AV.lit (Value.int .u64 a.f.epoch)/\AV.lit (Value.int .i64 (a.t : Int)) = AV.lit (Value.int .i64 (a.t : Int))/\AV.ptr 0 0 = AV.ptr 0 0/\True
def acy (a : fV) (b : ZFr) : Prop := a.old.key = b.old.key/\a.old.id = b.old.id/\a.old.ver = b.old.ver/\a.old.line = b.old.line/\a.old.cls = b.old.cls/\(a.k : Int) = b.line/\a.c = b.cls/\True
def acz (a : Nat) (b : ClkM) : Prop := Hd (a < 258/\b.L a = true/\∀ j : Nat,j < a->b.L j = false)
def ajA (a : ZGb) (b : ZLn) : Prop := (True/\0 = 0/\True/\True/\Ve)/\ownM (dw.os (a.p.give a.i a.k)) = ownM a.p.os/\ownM a.l.os = ownM b.os/\True
def acA (a : ClkM) (b : ClkM) : Prop := oU a b/\ni a b/\tV a b/\(@Fn.func (107 : @FuncId) = @Fn.func (107 : @FuncId)/\tX)/\True
def acB (a : ClkM) (b : ClkM) : Prop := oU a b/\ni a b/\tV a b/\(@Fn.func (165 : @FuncId) = @Fn.func (165 : @FuncId)/\tX)/\True
def acC (a : ClkM) (b : ClkM) : Prop := oU a b/\ni a b/\tV a b/\(@Fn.func (212 : @FuncId) = @Fn.func (212 : @FuncId)/\tX)/\True
def Lm : Prop := (0 : Int)<=0/\(0 : Int)<=0
def PU (x : ZRt) : Prop :=
 ((0 : Int)<=5/\(0 : Int)<=1)/\acw x/\∃ x_1 : ClkM,Hd x_1.ok/\(0 = 0/\True)/\tK x_1 x.c/\∀ y : Unit,True->cP (decide ((x.t : Int) ≥ (x_1.t : Int))) (True/\(AV.lit (Value.int .i64 x.f.line) = AV.lit (Value.int .i64 x.f.line)/\True)/\cP (decide (x.f.line < 2)) (amO x x_1) (cP (decide (x.f.line ≥ (258 : Int))) (amO x x_1) (I64 (x.f.line - 2)/\((8 : Int) = 0->False)/\I64 (Int.tdiv (x.f.line - 2) (8 : Int))/\cP (decide (Int.tdiv (x.f.line - 2) (8 : Int) < 0)) (amO x x_1) False))) (∃ x_2 : fV,Hd True/\((0 = 0/\1 = 1/\1 = 1)/\True)/\(((4 : Int) = 4/\x_2.key = ByteArray.mk #[]/\x_2.v = x.f.value/\false = false/\acy x_2 x.f)/\True)/\∀ y_1 : Unit,True->∃ x_3 : ClkM,Hd x_3.ok/\(0 = 0/\True)/\tK x_3 x_1/\∀ y_2 : Unit,True->cP (bne x_3.now x.f.epoch) (True/\∃ x_4 : ClkM,Hd x_4.ok/\(0 = 0/\True)/\tK x_4 x_3/\∀ y_3 : Unit,True->∃ y_4 : Unit,True/\((4 : Int) = 4/\x.f.key = x.f.key/\x.f.value = x.f.value/\jh/\mZ/\(5 : Int) = 5/\x.c.now = x_4.now/\jh/\false = false/\(0 : Int) = 0/\false = false/\Vg x.f)/\ajw/\tK x.c x_4) (Lm/\I64 (1 : Int)/\Lm/\False))
theorem Y0 (x : ZRt) : PU x = wpF Tryz.prog arS tt (noA x) 200 6 19 (Aw.args x) (hO 2 (Aw.os x)) (fun v h' => eH 2 x v h' Aw.outs) := by kernel_rfl
def PV (x : ZRt) : Prop :=
 ((0 : Int)<=5/\(0 : Int)<=1)/\acw x/\∃ x_1 : ClkM,Hd x_1.ok/\(0 = 0/\True)/\tK x_1 x.c/\∀ y : Unit,True->cP (decide ((x.t : Int) ≥ (x_1.t : Int))) (True/\(AV.lit (Value.int .i64 x.f.line) = AV.lit (Value.int .i64 x.f.line)/\True)/\cP (decide (x.f.line < 2)) (amP x x_1) (cP (decide (x.f.line ≥ (258 : Int))) (amP x x_1) (I64 (x.f.line - 2)/\((8 : Int) = 0->False)/\I64 (Int.tdiv (x.f.line - 2) (8 : Int))/\cP (decide (Int.tdiv (x.f.line - 2) (8 : Int) < 0)) (amP x x_1) False))) (∃ x_2 : fV,Hd True/\((0 = 0/\1 = 1/\1 = 1)/\True)/\(((5 : Int) = 5/\x_2.key = ByteArray.mk #[]/\x_2.v = x.f.value/\true = true/\acy x_2 x.f)/\True)/\∀ y_1 : Unit,True->∃ x_3 : ClkM,Hd x_3.ok/\(0 = 0/\True)/\tK x_3 x_1/\∀ y_2 : Unit,True->cP (bne x_3.now x.f.epoch) (True/\∃ x_4 : ClkM,Hd x_4.ok/\(0 = 0/\True)/\tK x_4 x_3/\∀ y_3 : Unit,True->∃ y_4 : Unit,True/\ajy x x_4.now/\acs/\Lj x.c x_4/\ownM x.l.os = ownM x.l.os/\True) (Lm/\∃ x_4 : ZLn,Hd x_4.ok/\(0 = 0/\True)/\(ownM x_4.os = ownM x.l.os/\True)/\∀ y_3 : Unit,True->cP (decide (x_4.n ≠ 0)) (cP (Bool.not (BEq.beq (ByteArray.toList x_4.head.key) (ByteArray.toList x.f.old.key) && (BEq.beq x_4.head.id x.f.old.id && (BEq.beq x_4.head.ver x.f.old.ver && (BEq.beq x_4.head.line x.f.old.line && (BEq.beq x_4.head.cls x.f.old.cls && true)))))) (ajz x_3 x x_4) (I64 (1 : Int)/\Lm/\False)) (ajz x_3 x x_4)))
theorem Y1 (x : ZRt) : PV x = wpF Tryz.prog arT tt (noA x) 200 6 19 (Az.args x) (hO 3 (Az.os x)) (fun v h' => eH 3 x v h' Az.outs) := by kernel_rfl
def PW (x : ZGb) : Prop :=
 ((0 : Int)<=1/\(0 : Int)<=5)/\∃ x_1 : ZLn,Hd x_1.ok/\(0 = 0/\True)/\(ownM x_1.os = ownM x.l.os/\True)/\∀ y : Unit,True->(AV.agg [AV.lit (Value.string x_1.head.key),AV.lit (Value.int .u64 x_1.head.id),AV.lit (Value.int .u64 x_1.head.ver),AV.lit (Value.int .i64 x_1.head.line),AV.lit (Value.int .i64 x_1.head.cls)] = AV.agg [AV.lit (Value.string x_1.head.key),AV.lit (Value.int .u64 x_1.head.id),AV.lit (Value.int .u64 x_1.head.ver),AV.lit (Value.int .i64 x_1.head.line),AV.lit (Value.int .i64 x_1.head.cls)]/\True)/\True/\cP (Bool.not (decide (x_1.n ≠ 0))) (cP (decide (x.pb.line ≥ (0 : Int))) ((AV.lit (Value.int .i64 x.pb.line) = AV.lit (Value.int .i64 x.pb.line)/\True)/\∃ x_2 : gq,Hd x_2.ok/\(0 = 0/\x_2.line = x.pb.line/\True)/\(ownM x_2.p.os = ownM x.p.os/\True)/\∀ y_1 : Unit,True->True/\True/\∃ y_2 : Unit,True/\((5 : Int) = 5/\x.f.key = x.f.key/\x.f.value = x.f.value/\jh/\mZ/\(6 : Int) = 6/\x.f.epoch = x.f.epoch/\jh/\false = false/\(0 : Int) = 0/\false = decide (x_1.n ≠ 0)/\ByteArray.mk #[] = x_1.head.key/\0 = x_1.head.id/\0 = x_1.head.ver/\0 = x_1.head.line/\0 = x_1.head.cls/\(-(1 : Int)) = (-(1 : Int))/\G7 x.f)/\(True/\0 = 0/\True/\True/\Ve)/\ownM (dw.os (x.p.give x.i x.k)) = ownM (dw.os (x_2.p.give x_2.i x_2.k))/\ownM x.l.os = ownM x_1.os/\True) (∃ y_1 : Unit,True/\((5 : Int) = 5/\x.f.key = x.f.key/\x.f.value = x.f.value/\jh/\mZ/\(6 : Int) = 6/\x.f.epoch = x.f.epoch/\jh/\false = false/\(0 : Int) = 0/\false = decide (x_1.n ≠ 0)/\ByteArray.mk #[] = x_1.head.key/\0 = x_1.head.id/\0 = x_1.head.ver/\0 = x_1.head.line/\0 = x_1.head.cls/\(-(1 : Int)) = x.pb.line/\G7 x.f)/\ajA x x_1)) (∃ y_1 : Unit,True/\((5 : Int) = 5/\x.f.key = x.f.key/\
 x.f.value = x.f.value/\jh/\mZ/\(6 : Int) = 2/\x.f.epoch = x.f.epoch/\jh/\false = false/\(0 : Int) = 0/\false = decide (x_1.n ≠ 0)/\ByteArray.mk #[] = x_1.head.key/\0 = x_1.head.id/\0 = x_1.head.ver/\0 = x_1.head.line/\0 = x_1.head.cls/\(-(1 : Int)) = x.pb.line/\x.f.cls = x.f.cls/\x.f.piece = 0/\Ll x.f)/\ajA x x_1)
theorem Y2 (x : ZGb) : PW x = wpF Tryz.prog arV tt (noA x) 200 6 19 (Ld.args x) (hO 3 (Ld.os x)) (fun v h' => eH 3 x v h' Ld.outs) := by kernel_rfl
def Y3 (x : ZSt) : Prop :=
 ∃ y : Unit,True/\((4 : Int) = 4/\acv x.f)/\ownM x.a.os = ownM x.a.os/\True
theorem ae2 (x : ZSt) : Y3 x = wpF Tryz.prog yV tt (noA x) 200 6 19 ((U6 4).args x) (hO 1 ((U6 4).os x)) (fun v h' => eH 1 x v h' (U6 4).outs) := by kernel_rfl
def Y4 (x : ZSt) : Prop :=
 ∃ y : Unit,True/\((5 : Int) = 5/\acv x.f)/\ownM x.a.os = ownM x.a.os/\True
theorem ae3 (x : ZSt) : Y4 x = wpF Tryz.prog yV tt (noA x) 200 6 19 ((U6 5).args x) (hO 1 ((U6 5).os x)) (fun v h' => eH 1 x v h' (U6 5).outs) := by kernel_rfl
def PX (x : ClkM) : Prop :=
 ∃ x_1 : ClkM,Hd (x_1.ok/\x_1.clos = 0)/\(0 = 0/\True)/\((oU x_1 x/\ni x_1 x/\tV x_1 x/\Value.nilFunc = Value.nilFunc/\True)/\oQ x_1 x/\True)/\∀ y : Unit,True->∃ y_1 : Unit,True/\(0 : Int) = 0/\((x.now + 1 = x_1.now + 1/\x.dur = x_1.dur/\x.now = x_1.now/\ng x.t x_1.t/\True)/\(258 = 258/\∀ q : Nat,q < 258->[Value.bool false] = [Value.bool false])/\ni x x_1/\Vh)/\(x.t = x_1.t/\∀ q : Nat,q < x.t->[Value.int .i64 0] = [Value.int .i64 0])/\True
theorem Y5 (x : ClkM) : PX x = ctrT EN (beginP.args x) (hO 2 (dK 1 (beginP.l x))) (fun v h' => cO 1 x v h' beginP.outs) := by kernel_rfl
def PY (x : ZCd) : Prop :=
 ∃ x_1 : oZ,Hd x_1.ok/\(0 = 0/\0 = 0/\True)/\((oU x_1.c x.c/\ni x_1.c x.c/\tV x_1.c x.c/\Vh)/\Vf x_1 x)/\(∀ y : Nat,acz y x_1.c->(∃ y_1 : Nat,acz y_1 x.c/\((1 : Int) = 1/\(0 : Int) = 0/\True)/\(oU x.c x_1.c/\ni x.c x_1.c/\(258 = 258/\∀ q : Nat,q < 258->[Value.bool (ite (q = y_1) false (x.c.L q))] = [Value.bool (ite (q = y) false (x_1.c.L q))])/\Vh)/\(ng x.d.n x_1.d.n/\x.d.st = x_1.d.st/\ite (y_1 < x.d.n) (x.d.fl + 1) x.d.fl = ite (y < x_1.d.n) (x_1.d.fl + 1) x_1.d.fl/\x.d.fe = x_1.d.fe/\tN x.d x_1.d)/\oQ x.c x_1.c/\(x.d.n * 193 = x_1.d.n * 193/\∀ q : Nat,q < x.d.n * 193->Cs.eff (gV (x.d.flush y_1)) [] q = Cs.eff (gV (x_1.d.flush y)) [] q)/\True) ∨ ∃ y_1 : Unit,Hd (∀ j : Nat,j < 258->x.c.L j = false)/\((2 : Int) = 1/\(0 : Int) = 0/\True)/\(oU x.c x_1.c/\ni x.c x_1.c/\(258 = 258/\∀ q : Nat,q < 258->[Value.bool (x.c.L q)] = [Value.bool (ite (q = y) false (x_1.c.L q))])/\(@Fn.func (107 : @FuncId) = @Fn.func (57 : @FuncId)/\tX)/\True)/\(ng x.d.n x_1.d.n/\x.d.st = x_1.d.st/\x.d.fl = ite (y < x_1.d.n) (x_1.d.fl + 1) x_1.d.fl/\x.d.fe + 1 = x_1.d.fe/\tN x.d x_1.d)/\oQ x.c x_1.c/\(x.d.n * 193 = x_1.d.n * 193/\∀ q : Nat,q < x.d.n * 193->Cs.eff (gV x.d.fence) [] q = Cs.eff (gV (x_1.d.flush y)) [] q)/\True)/\∀ y : Unit,Hd (∀ j : Nat,j < 258->x_1.c.L j = false)->(∃ y_1 : Nat,acz y_1 x.c/\((1 : Int) = 2/\(0 : Int) = 0/\True)/\(oU x.c x_1.c/\ni x.c x_1.c/\(258 = 258/\∀ q : Nat,q < 258->[Value.bool (ite (q = y_1) false (x.c.L q))] = [Value.bool (x_1.c.L q)])/\(@Fn.func (57 : @FuncId) = @Fn.func (107 : @FuncId)/\tX)/\True)/\(ng x.d.n x_1.d.n/\x.d.st = x_1.d.st/\
 ite (y_1 < x.d.n) (x.d.fl + 1) x.d.fl = x_1.d.fl/\x.d.fe = x_1.d.fe + 1/\tN x.d x_1.d)/\oQ x.c x_1.c/\(x.d.n * 193 = x_1.d.n * 193/\∀ q : Nat,q < x.d.n * 193->Cs.eff (gV (x.d.flush y_1)) [] q = Cs.eff (gV x_1.d.fence) [] q)/\True) ∨ ∃ y_1 : Unit,Hd (∀ j : Nat,j < 258->x.c.L j = false)/\((2 : Int) = 2/\(0 : Int) = 0/\True)/\acA x.c x_1.c/\acu x x_1
theorem Y6 (x : ZCd) : PY x = ctrT EO (ab3.args x) (hO 4 (dK 2 (ab3.l x))) (fun v h' => cO 2 x v h' ab3.outs) := by kernel_rfl
def PZ (x : ZCd) : Prop :=
 ∃ x_1 : oZ,Hd x_1.ok/\(0 = 0/\0 = 0/\True)/\(acA x_1.c x.c/\Vf x_1 x)/\∀ y : Unit,True->∃ y_1 : Unit,True/\((3 : Int) = 3/\(0 : Int) = 0/\True)/\acB x.c x_1.c/\(ng x.d.n x_1.d.n/\x.d.st + 1 = x_1.d.st + 1/\x.d.fl = x_1.d.fl/\x.d.fe = x_1.d.fe/\tN x.d x_1.d)/\oQ x.c x_1.c/\(x.d.n * 193 = x_1.d.n * 193/\∀ q : Nat,q < x.d.n * 193->Cs.eff (gV (x.d.store 1 0 64 (iK x.c.clos))) [] q = Cs.eff (gV (x_1.d.store 1 0 64 (iK x_1.c.clos))) [] q)/\True
theorem Y7 (x : ZCd) : PZ x = ctrT EP (ab4.args x) (hO 4 (dK 2 (ab4.l x))) (fun v h' => cO 2 x v h' ab4.outs) := by kernel_rfl
def P5 (x : ZCd) : Prop :=
 ∃ x_1 : oZ,Hd x_1.ok/\(0 = 0/\0 = 0/\True)/\(acB x_1.c x.c/\Vf x_1 x)/\∀ y : Unit,True->∃ y_1 : Unit,True/\((1 : Int) = 1/\(0 : Int) = 0/\True)/\acC x.c x_1.c/\(ng x.d.n x_1.d.n/\x.d.st = x_1.d.st/\ite (1 < x.d.n) (x.d.fl + 1) x.d.fl = ite (1 < x_1.d.n) (x_1.d.fl + 1) x_1.d.fl/\x.d.fe = x_1.d.fe/\tN x.d x_1.d)/\oQ x.c x_1.c/\(x.d.n * 193 = x_1.d.n * 193/\∀ q : Nat,q < x.d.n * 193->Cs.eff (gV (x.d.flush 1)) [] q = Cs.eff (gV (x_1.d.flush 1)) [] q)/\True
theorem Y8 (x : ZCd) : P5 x = ctrT ER (ab5.args x) (hO 4 (dK 2 (ab5.l x))) (fun v h' => cO 2 x v h' ab5.outs) := by kernel_rfl
def P6 (x : ZCd) : Prop :=
 ∃ x_1 : oZ,Hd x_1.ok/\(0 = 0/\0 = 0/\True)/\(acC x_1.c x.c/\Vf x_1 x)/\∀ y : Unit,True->∃ y_1 : Unit,True/\((2 : Int) = 2/\(0 : Int) = 0/\True)/\((x.c.now = x_1.c.now/\x.c.clos = x_1.c.clos/\(0 : Int) = 0/\ng x.c.t x_1.c.t/\True)/\ni x.c x_1.c/\tV x.c x_1.c/\Value.nilFunc = Value.nilFunc/\True)/\acu x x_1
theorem Y9 (x : ZCd) : P6 x = ctrT ES (ab6.args x) (hO 4 (dK 2 (ab6.l x))) (fun v h' => cO 2 x v h' ab6.outs) := by kernel_rfl
def P7 (x : ZCd) : Prop :=
 cP (BEq.beq x.c.clos (0 : Int)) (∃ y : Unit,True/\((0 : Int) = 0/\(12 : Int) = 12/\True)/\((x.c.now = x.c.now/\x.c.dur = x.c.dur/\x.c.clos = x.c.clos/\(0 = 0/\x.c.t = x.c.t/\x.c.t = x.c.t)/\True)/\(258 = 258/\∀ q : Nat,q < 258->[Value.bool (x.c.N q)] = [Value.bool (x.c.N q)])/\(258 = 258/\∀ q : Nat,q < 258->[Value.bool (x.c.L q)] = [Value.bool (x.c.L q)])/\Value.nilFunc = Value.nilFunc/\True)/\((0 = 0/\x.d.n = x.d.n/\x.d.n = x.d.n)/\x.d.st = x.d.st/\x.d.fl = x.d.fl/\x.d.fe = x.d.fe/\x.d.ba = x.d.ba/\x.d.cu = x.d.cu/\True)/\(x.c.t = x.c.t/\∀ q : Nat,q < x.c.t->[Value.int .i64 (x.c.o q)] = [Value.int .i64 (x.c.o q)])/\(x.d.n * 193 = x.d.n * 193/\∀ q : Nat,q < x.d.n * 193->Cs.eff (gV x.d) [] q = Cs.eff (gV x.d) [] q)/\True) False
theorem Za (x : ZCd) : P7 x = wpF Tryz.prog qO tt (noA x) 200 5 24 (ab7.args x) (hO 4 (dK 2 (ab7.l x))) (fun v h' => cO 2 x v h' ab7.outs) := by kernel_rfl
end Go.Proofs.YtenfleoejgjklaaGreat
end
section
namespace Go.Proofs.YtenfleoejgjklaaGreat
open Go SE
set_option linter.unusedSimpArgs false
noncomputable def ZRt.chg (x : ZRt) (b : Bool) : fV := ⟨newArn 10 1 (uQ 10),x.t,x.f.epoch,x.f.value,⟨#[]⟩,b,x.f.old,x.f.line.toNat,x.f.cls⟩
theorem P8 (x : ZRt) (hx : x.c.ok/\x.t < x.c.t/\x.c.now ≠ x.f.epoch/\0<=x.f.line) : PU x := by
 obtain ⟨h1,h2,h3,h4⟩ := hx
 unfold PU
 simp only [acw,tK,amO,acy,jh,mZ,Vg,ajw,Lm,G7,Ll,BQ,Lj]
 simp only [aY,aU,aT,ay,aH,bI,bn,aN,aJ,au,aW,aV,bJ,bC,bD,bF,bK,bf,bG,aZ,dU,aG,aK,ah,aj,aA,aC,aB,aF]
 exact ⟨by decide,x.c,h1,rfl,bg (fun h => absurd (aQ h) (by omega)) fun _ => ⟨x.chg false,⟨rfl,rfl,rfl,rfl,rfl,rfl,rfl,Int.toNat_of_nonneg h4,rfl⟩,x.c,h1,rfl,bg (fun _ => ⟨x.c,h1,rfl,rfl,rfl⟩) fun h => absurd (bne_eq_false_iff_eq.1 h) h3⟩⟩
theorem P9 (x : ZRt) (hx : x.bad) : PV x := by
 obtain ⟨h1,h2,h3,h4,h5⟩ := hx
 unfold PV
 simp only [acw,tK,amP,acy,ajy,acs,Lj,Lm,ajz,Ve,jh,mZ,ajx,BQ]
 simp only [aY,aU,aT,ay,aH,bI,bn,aN,aJ,au,aW,aV,bJ,bC,bD,bF,bK,bf,bG,aZ,dU,aG,aK,ah,aj,aA,aC,aB,aF]
 refine ⟨by decide,x.c,h1,rfl,bg (fun h => absurd (aQ h) (by omega)) fun _ => ⟨x.chg true,⟨rfl,rfl,rfl,rfl,rfl,rfl,rfl,Int.toNat_of_nonneg h5,rfl⟩,x.c,h1,rfl,bg (fun _ => ⟨x.c,h1,rfl,(by repeat' (first | exact rfl | refine And.intro ?_ ?_ | exact fun _ _ => rfl))⟩) fun h => ⟨by decide,x.l,h2,rfl,bg (fun hn => bg (fun _ => ⟨x.c,h1,rfl,(by repeat' (first | exact rfl | refine And.intro ?_ ?_ | exact fun _ _ => rfl))⟩) fun hb => ?_) fun _ => ⟨x.c,h1,rfl,(by repeat' (first | exact rfl | refine And.intro ?_ ?_ | exact fun _ _ => rfl))⟩⟩⟩⟩
 exfalso
 have hn := aQ hn
 have amQ := bne_eq_false_iff_eq.1 h
 rcases h4 with h4 | h4 | h4
 ·exact h4 amQ
 ·exact hn h4
 ·simp only [Bool.not_eq_false',aI,beq_iff_eq] at hb
  exact h4 (dL.ext5 ((aaP _ _).1 (beq_iff_eq.2 hb.1)) hb.2.1 hb.2.2.1 hb.2.2.2.1 hb.2.2.2.2.1)
theorem Qa (x : ZGb) (hx : x.pb.ok/\x.l.ok/\x.l.n = 0) : PW x := by
 obtain ⟨h1,h2,h3⟩ := hx
 unfold PW
 simp only [jh,mZ,G7,Ve,ajA,Ll,BQ]
 simp only [aY,aU,aT,ay,aH,bI,bn,aN,aJ,au,aW,aV,bJ,bC,bD,bF,bK,bf,bG,aZ,dU,aG,aK,ah,aj,aA,aC,aB,aF]
 refine ⟨by decide,x.l,h2,rfl,bg (fun _ => bg (fun _ => ⟨x.pb,h1,rfl,rfl,?_,rfl,rfl⟩) fun h => ?_) fun h => ?_⟩
 ·rw [yO h3,h3]
  exact ⟨rfl,rfl,rfl,rfl,rfl,rfl⟩
 ·have h := aS h
  have : 0<=x.pb.line := by
   unfold gq.line
   have := dO (x.pb.p.cls x.pb.i)
   rcases gI (x.pb.p.cls x.pb.i) with m | m | m | m | m <;> obtain ⟨m1,m2,m3⟩ := m <;> rw [m2] <;> omega
  omega
 ·simp [h3] at h
theorem Vj (x : ZSt) : Y3 x := by
 unfold Y3
 simp only [acv,jh,mZ,Vg,G7,Ll,BQ]
 simp only [aY,aU,aT,ay,aH,bI,bn,aN,aJ,au,aW,aV,bJ,bC,bD,bF,bK,bf,bG,aZ,dU,aG,aK,ah,aj,aA,aC,aB,aF]
theorem Vk (x : ZSt) : Y4 x := by
 unfold Y4
 simp only [acv,jh,mZ,Vg,G7,Ll,BQ]
 simp only [aY,aU,aT,ay,aH,bI,bn,aN,aJ,au,aW,aV,bJ,bC,bD,bF,bK,bf,bG,aZ,dU,aG,aK,ah,aj,aA,aC,aB,aF]
theorem Qb (x : ClkM) (hx : x.ok/\x.clos = 0) : PX x := by
 unfold PX
 simp only [oU,ni,tV,oQ,ng,Vh,tX]
 simp only [aY,aU,aT,ay,aH,bI,bn,aN,aJ,au,aW,aV,bJ,bC,bD,bF,bK,bf,bG,aZ,dU,aG,aK,ah,aj,aA,aC,aB,aF]
 refine ⟨x,hx,?_⟩
 repeat' (first | exact rfl | refine And.intro ?_ ?_ | exact fun _ _ => rfl)
theorem Qc (x : ZCd) (hx : x.cd.ok) : PY x := by
 unfold PY
 simp only [oU,ni,tV,Vh,Vf,acz,ng,tN,oQ,tX,acA,acu]
 simp only [aY,aU,aT,ay,aH,bI,bn,aN,aJ,au,aW,aV,bJ,bC,bD,bF,bK,bf,bG,aZ,dU,aG,aK,ah,aj,aA,aC,aB,aF]
 refine ⟨x.cd,hx,?_,fun y hy => .inl ⟨y,hy,?_⟩,fun y => .inr ⟨y,?_⟩⟩
 all_goals (repeat' (first | exact rfl | refine And.intro ?_ ?_ | exact fun _ _ => rfl))
theorem Qd (x : ZCd) (hx : x.cd.ok) : PZ x := by
 unfold PZ
 simp only [acA,Vf,acB,ng,tN,oQ,oU,ni,tV,tX]
 simp only [aY,aU,aT,ay,aH,bI,bn,aN,aJ,au,aW,aV,bJ,bC,bD,bF,bK,bf,bG,aZ,dU,aG,aK,ah,aj,aA,aC,aB,aF]
 refine ⟨x.cd,hx,?_⟩
 all_goals (repeat' (first | exact rfl | refine And.intro ?_ ?_ | exact fun _ _ => rfl))
theorem Qe (x : ZCd) (hx : x.cd.ok) : P5 x := by
 unfold P5
 simp only [acB,Vf,acC,ng,tN,oQ,oU,ni,tV,tX]
 simp only [aY,aU,aT,ay,aH,bI,bn,aN,aJ,au,aW,aV,bJ,bC,bD,bF,bK,bf,bG,aZ,dU,aG,aK,ah,aj,aA,aC,aB,aF]
 refine ⟨x.cd,hx,?_⟩
 all_goals (repeat' (first | exact rfl | refine And.intro ?_ ?_ | exact fun _ _ => rfl))
theorem Qg (x : ZCd) (hx : x.cd.ok) : P6 x := by
 unfold P6
 simp only [acC,Vf,ng,ni,tV,acu,tN,oQ,oU,tX]
 simp only [aY,aU,aT,ay,aH,bI,bn,aN,aJ,au,aW,aV,bJ,bC,bD,bF,bK,bf,bG,aZ,dU,aG,aK,ah,aj,aA,aC,aB,aF]
 refine ⟨x.cd,hx,?_⟩
 all_goals (repeat' (first | exact rfl | refine And.intro ?_ ?_ | exact fun _ _ => rfl))
theorem Qh (x : ZCd) (hx : x.c.clos = 0) : P7 x := by
 unfold P7
 simp only [aY,aU,aT,ay,aH,bI,bn,aN,aJ,au,aW,aV,bJ,bC,bD,bF,bK,bf,bG,aZ,dU,aG,aK,ah,aj,aA,aC,aB,aF]
 exact bg (fun _ => trivial) fun h => absurd hx (by simpa using h)
theorem amR : fA Tryz.prog arS := .append jg (.cons (bM Uc) (.cons (bM DU) (.cons (bM yG) .nil)))
theorem amS : fA Tryz.prog arT := .append jg (.cons (bM Ku) (.cons (bM DU) (.cons (bM yG) (.cons (bM pY) .nil))))
theorem amT : fA Tryz.prog arV := .append jg (.cons (bM pY) (.cons (bM ao8) .nil))
theorem Lp : bU Tryz.prog 19 Aw := dR dD mixed amR noA 200 6 (fun _ => rfl) (fun _ => rfl) fun x hx => Eq.mp (Y0 x) (P8 x (aY.1 hx))
theorem Lr : bU Tryz.prog 19 Az := dR dD mixed amS noA 200 6 (fun _ => rfl) (fun _ => rfl) fun x hx => Eq.mp (Y1 x) (P9 x (aY.1 hx))
theorem Vl : bU Tryz.prog 19 Ld := dR dD mixed amT noA 200 6 (fun _ => rfl) (fun _ => rfl) fun x hx => Eq.mp (Y2 x) (Qa x (aY.1 hx))
theorem amU : bU Tryz.prog 19 (U6 4) := dR dD mixed jg noA 200 6 (fun _ => rfl) (fun _ => rfl) fun x _ => Eq.mp (ae2 x) (Vj x)
theorem amV : bU Tryz.prog 19 (U6 5) := dR dD mixed jg noA 200 6 (fun _ => rfl) (fun _ => rfl) fun x _ => Eq.mp (ae3 x) (Vk x)
theorem Qi (x : ZFi) (hx : x.l.ok/\(x.l.n = 0->x.f.line < 0)) : Gh x := by
 obtain ⟨h1,h2⟩ := hx
 unfold Gh
 simp only [F5,bT,cZ,dF,bH,kS,KC,kX,mV,rQ,jq,oM]
 simp only [aY,aU,aT,ay,aH,bI,bn,aN,aJ,au,aW,aV,bJ,bC,bD,bF,bK,bf,bG,aZ,dU,aG,aK,ah,aj,aA,aC,aB,aF]
 refine ⟨by decide,x.l,h1,rfl,bg (fun h => ?_) fun h => .inr ?_⟩
 ·have hn : x.l.n = 0 := by simpa using h
  refine bg (fun h' => absurd (aQ h') (by have := h2 hn; omega)) fun _ => .inl ?_
  rw [yO hn]
  exact ⟨hn,⟨by rw [hn]; rfl,rfl,rfl,rfl,rfl,rfl⟩,rfl⟩
 ·have hn : x.l.n ≠ 0 := by simpa using h
  exact ⟨hn,⟨(decide_eq_true hn).symm,rfl,rfl,rfl,rfl,rfl⟩,rfl⟩
theorem Vm : bU Tryz.prog 19 ajt := fZ dD mixed abG noA 200 6 (fun _ => rfl) (fun _ => ⟨fun _ => rfl,fun _ => rfl,trivial⟩) fun x hx => Eq.mp (KH x) (Qi x (aY.1 hx))
theorem ajB : bU Tryz.prog 23 beginP.ctr := dG (bM alJ) 2 (fun _ => ⟨rfl,rfl,rfl,rfl⟩) fun x hx => Eq.mp (Y5 x) (Qb x (aY.1 hx))
theorem ajC : bU Tryz.prog 24 ab3.ctr := dG (bM alK) 4 (fun _ => ⟨rfl,rfl,rfl,rfl⟩) fun x hx => Eq.mp (Y6 x) (Qc x (aY.1 hx))
theorem ajD : bU Tryz.prog 24 ab4.ctr := dG (bM alL) 4 (fun _ => ⟨rfl,rfl,rfl,rfl⟩) fun x hx => Eq.mp (Y7 x) (Qd x (aY.1 hx))
theorem ajE : bU Tryz.prog 24 ab5.ctr := dG (bM alM) 4 (fun _ => ⟨rfl,rfl,rfl,rfl⟩) fun x hx => Eq.mp (Y8 x) (Qe x (aY.1 hx))
theorem ajF : bU Tryz.prog 24 ab6.ctr := dG (bM alN) 4 (fun _ => ⟨rfl,rfl,rfl,rfl⟩) fun x hx => Eq.mp (Y9 x) (Qg x (aY.1 hx))
theorem ajG : bU Tryz.prog 24 ab7.ctr := dH dD mixed eG 4 noA 200 5 (fun _ => ⟨rfl,rfl,rfl,rfl⟩) fun x hx => Eq.mp (Za x) (Qh x (aY.1 hx))
end Go.Proofs.YtenfleoejgjklaaGreat
end
section
namespace Go.Proofs.YtenfleoejgjklaaGreat
open Go SE
structure ZBy where
 d : DevM
 b : dN
 ln : Nat
def lies (d : DevM) (b : dN) (ln : Nat) : Prop := ∀ q,q < 64 * b.dA->d.b ((ln + q / 64) * 193 + q % 64) = b.enc q
def ZBy.ok (x : ZBy) : Prop := x.d.ok/\x.b.may/\x.b.kind = 2/\x.ln + spn x.b.cls<=x.d.n/\lies x.d x.b x.ln
structure ZSh where
 d : DevM
 l : ZLn
 b : Nat->dN
def arnH : bZ := aa2 .any .any .any .any (.ptr 3 0) (.ptr 4 0) (.ptr 1 0)
noncomputable def ZSh.os (x : ZSh) : List bZ := [arnH,YD,.abs (ownM x.d.os),.abs (ownM tabE),.abs (ownM x.l.os)]
end Go.Proofs.YtenfleoejgjklaaGreat
end
section
namespace Go.Proofs.YtenfleoejgjklaaGreat
open Go SE
end Go.Proofs.YtenfleoejgjklaaGreat
end
section
namespace Go.Proofs.YtenfleoejgjklaaGreat
open Go SE
noncomputable def ajH : wz := { X := lM,args := fun x => [.ptr 0 0,i64 x.t,(x.w.fr x.p).av 4 4 fJ],a := lM.a,k := 1,ex := fun _ => [],pre := fun x => Hd x.w.ok,outs := [
 { Y := Unit,post := fun x _ => Hd (x.p + 1 ≠ spn x.c),ret := fun x _ => (x.w.fr (x.p + 1)).av 4 4 fJ,a := fun x _ => x.a.IB x.w.d',m := 1,ex := fun _ _ => [] },
 { Y := Unit,post := fun x _ => Hd (x.p + 1 = spn x.c),ret := fun x _ => (x.w.fr 0).av 4 5 fJ,a := fun x _ => x.a.IB x.w.d',m := 1,ex := fun _ _ => [] }] }
theorem Vo : bU Tryz.prog 19 ajH.M.ctr := oJ fun x hx => by
 have h := aY.1 hx.1
 by_cases hp : x.p = 0
 ·have e0 : (0 : Int) = (x.p : Int) := by omega
  refine ⟨_,YT,rfl,x,⟨aY.2 ⟨h,hp⟩,trivial⟩,by simp only [wz.M,wz.pc,jd.ctr,ajH,gK,e0],rfl,fun v h' hh => ?_⟩
  rcases qx hh with ⟨y,h0,h1,h2⟩ | ⟨y,h0,h1,h2⟩
  ·exact eP ⟨(),aY.2 (by have := aY.1 h0; omega),h1.trans (by show (x.w.fr 1).av 4 4 fJ = (x.w.fr (x.p + 1)).av 4 4 fJ; rw [hp]; rfl),h2⟩
  ·exact Tf ⟨(),aY.2 (by have := aY.1 h0; omega),h1,h2⟩
 ·refine ⟨_,YZ,rfl,x,⟨aY.2 ⟨h,hp⟩,trivial⟩,rfl,rfl,fun v h' hh => hh⟩
noncomputable def arW (k ph : Int) (b : Bool) : WTr :=
 bif decide (k = 4) then
  bif decide (ph = 0) then ctrT (iT 4).M.ctr else bif decide (ph = 3) then ctrT (lK 4).M.ctr else bif decide (ph = 4) then ctrT ajH.M.ctr else bif decide (ph = 5) then ctrT aji else ctrT (iU 4).M.ctr
 else
  bif decide (ph = 0) then ctrT (iT 5).M.ctr else bif decide (ph = 1) then ctrT zX.M.ctr else bif decide (ph = 2) then (bif b then ctrT qG.M.ctr else ctrT qF.M.ctr) else
  bif decide (ph = 3) then ctrT (lK 5).M.ctr else bif decide (ph = 4) then ctrT (gK 5).M.ctr else bif decide (ph = 5) then ctrT ajj else ctrT (iU 5).M.ctr
theorem ny {P : Program} {f : FuncId} (b : Bool) {T U : WTr} (hT : ∀ args h K,T args h K->Sp P f args h K) (hU : ∀ args h K,U args h K->Sp P f args h K) : ∀ args h K,(bif b then T else U) args h K->Sp P f args h K := by
 cases b
 ·exact hU
 ·exact hT
theorem amW (k ph : Int) (b : Bool) : ∀ args h K,arW k ph b args h K->Sp Tryz.prog 19 args h K :=
 ny _ (ny _ (bM KY) (ny _ (bM U0) (ny _ (bM Vo) (ny _ (bM ab1) (bM La)))))
  (ny _ (bM KZ) (ny _ (bM amN) (ny _ (ny _ (bM U3) (bM U2)) (ny _ (bM U1) (ny _ (bM GX) (ny _ (bM ab2) (bM Lc)))))))
def intL (l : List AV) (i : Nat) : Int := match l[i]? with
 | some (AV.lit (.int _ z)) => z
 | _ => 0
def hasB (l : List AV) : Bool := match l[19]? with
 | some (AV.slW _ _ _ _) => true
 | _ => false
noncomputable def ajI : WTr := fun args h K => match args with
 | [a,t,.agg l] => arW (intL l 0) (intL l 5) (hasB l) [a,t,.agg l] h K
 | _ => False
theorem ajJ (args : List AV) (h : Heap) (K : AV->Heap->Prop) (hq : ajI args h K) : Sp Tryz.prog 19 args h K := by
 unfold ajI at hq
 split at hq
 ·exact amW _ _ _ _ _ _ hq
 ·exact hq.elim
structure ZCl where
 k : Int
 key : ByteArray
 value : ByteArray
 to : ByteArray
def ZCl.l (x : ZCl) : List AV := [i64 x.k,.lit (.string x.key),.lit (.string x.value),.lit (.string x.to),fJ]
def ZCl.fr (x : ZCl) : List AV := x.l ++ [i64 0,u64 0,.lit (.string ⟨#[]⟩),boo false,i64 0,boo false,.lit (.string ⟨#[]⟩),u64 0,u64 0,i64 0,i64 0,i64 (-1),i64 0,i64 0,fJ,i64 0,fJ,i64 0,boo false,.lit (.string ⟨#[]⟩),fJ,fJ,u64 0]
noncomputable def Ls : Ctr := det ZCl (fun x => [.agg x.l]) 0 (fun _ => []) (fun _ => True) (fun x => .agg x.fr) 0 (fun _ => [])
def beginT : WTr := fun args h K => match args with
 | [.agg [.lit (.int .i64 k),.lit (.string key),.lit (.string v),.lit (.string to),.lit (.slice none 0 0)]] => K (.agg (ZCl.mk k key v to).fr) h
 | _ => False
def f0 (key v : ByteArray) : ZFr := ⟨key,v,0,false,pX,-1,0,0,0,false,⟨#[]⟩,0⟩
def ap5 (code : Int) (found : Bool) (v : ByteArray) (ep : Int) : AV := .agg [i64 code,boo found,.lit (.string v),fJ,fJ,u64 ep]
structure ZRS where
 a : ZArn
 f : ZFr
 n : Nat
 p : Nat
def arX (f : ZFr) (k ph : Int) (b : AV) : bZ := .cells 45 (.av (f.l k ph b))
def phAt (h : Heap) : Int := match cellAt h 3 5 with
 | some (.lit (.int _ z)) => z
 | _ => -1
def byAt (h : Heap) : Bool := match cellAt h 3 19 with
 | some (.slW _ _ _ _) => true
 | _ => false
noncomputable def Dl (k ph : Int) (iv : ZRS->Prop) : DN := { σ := ZRS,fr := fun s => [(10,i64 s.n)],ob := fun s => [(0,some (.abs (ownM s.a.os))),(3,some (arX s.f k ph fJ))],inv := fun s => Hd (1<=s.n/\s.n<=50/\iv s),meas := fun s => 101 - s.n,test := fun _ h => decide (phAt h = ph) && !byAt h }
structure jo where
 a : ZArn
 t : Nat
 key : ByteArray
 v : ByteArray
 b : dN
namespace jo
def c (x : jo) (k : Int) : Int := if k = 4 then ned x.v.size else 0
def a1 (x : jo) : ZArn := x.a.rW x.t x.a.r.now
def f1 (x : jo) : ZFr := { f0 x.key x.v with epoch := x.a.c.now }
def ln (x : jo) (k : Int) (i j : Nat) : Nat := 2 + i * 8 + j * (spn (x.c k)).toNat
noncomputable def dW (x : jo) (k : Int) (i j : Nat) : Nat->DevM
 | 0 => x.a.d
 | p + 1 => ZWr.d' ⟨x.dW k i j p,x.t,x.f1,x.ln k i j,x.c k,p⟩
noncomputable def a2 (x : jo) (k : Int) (i j p : Nat) : ZArn := (x.a1.abL (x.a.p.take (x.c k) i j)).IB (x.dW k i j p)
def sp (x : jo) (k : Int) : Nat := (spn (x.c k)).toNat
noncomputable def pb (x : jo) (k : Int) (i j : Nat) (f : ZFr) : ZPb := ⟨x.a2 k i j (x.sp k),{ f with cls := x.c k },x.t,x.ln k i j⟩
noncomputable def aE (x : jo) (i j : Nat) : ZArn := (x.pb 4 i j x.f1).chg.enq.rW x.t 0
def f2 (x : jo) : ZFr := { x.f1 with had := true,old := x.a.l.head,ans := x.b.value }
noncomputable def aD (x : jo) (i j : Nat) : ZArn := (x.pb 5 i j x.f2).chg.deq.rW x.t 0
end jo
noncomputable def annE (x : jo) : FuncId->vK := fun f => bif Nat.beq f 15 then (fun b _ _ => bif Nat.beq b 0 then [
 Dl 4 0 (fun s => s.n = 1/\s.a = x.a/\s.f = f0 x.key x.v),
 Dl 4 3 (fun s => s.n = 2/\s.a = x.a1/\s.f = x.f1/\x.v.size<=400),
 Dl 4 4 (fun s => x.v.size<=400/\s.p < spn (x.c 4)/\s.n = 3 + s.p/\∃ i j,x.a.p.takes (x.c 4) i j/\s.a = x.a2 4 i j s.p/\s.f = { x.f1 with line := x.ln 4 i j,cls := x.c 4,piece := s.p }),
 Dl 4 5 (fun s => x.v.size<=400/\s.n = 3 + x.sp 4/\∃ i j,x.a.p.takes (x.c 4) i j/\s.a = x.a2 4 i j (x.sp 4)/\s.f = { x.f1 with line := x.ln 4 i j,cls := x.c 4 }),
 Dl 4 6 (fun s => x.v.size<=400/\((∀ i,i < x.a.p.n->x.a.p.cls i ≠ -1/\x.a.p.full (x.c 4) i)/\s.a = x.a1/\s.f = { x.f1 with cls := x.c 4,code := 4 } ∨ s.n = 4 + x.sp 4/\∃ i j,x.a.p.takes (x.c 4) i j/\s.a = (x.pb 4 i j x.f1).chg.enq/\s.f = { x.f1 with cls := x.c 4,aep := x.a.c.now }))] else []) else fun _ _ _ => []
noncomputable def annD (x : jo) : FuncId->vK := fun f => bif Nat.beq f 15 then (fun b _ _ => bif Nat.beq b 0 then [
 Dl 5 0 (fun s => s.n = 1/\s.a = x.a/\s.f = f0 x.key x.v),
 Dl 5 1 (fun s => s.n = 2/\s.a = x.a1/\s.f = x.f1),
 Dl 5 2 (fun s => s.n = 3/\s.a = x.a1/\x.a.l.n ≠ 0/\s.f = { x.f1 with had := true,old := x.a.l.head }),
 { σ := ZRS,fr := fun s => [(10,i64 s.n)],ob := fun s => [(0,some (.abs (ownM s.a.os))),(3,some (arX s.f 5 2 (.slW 4 0 1 (64 * s.p)))),(4,some (Ir x.b.enc (64 * s.p)))],nx := 1,inv := fun s => Hd (1<=s.p/\s.p < spn x.b.cls/\s.n = 3 + s.p/\s.a = x.a1/\x.a.l.n ≠ 0/\s.f = { x.f1 with had := true,old := x.a.l.head,piece := s.p }),meas := fun s => 101 - s.n,test := fun _ h => decide (phAt h = 2) && byAt h },
 Dl 5 3 (fun s => s.n = 3 + x.b.dA/\s.a = x.a1/\x.a.l.n ≠ 0/\∃ q,s.f = { x.f2 with piece := q }),
 Dl 5 4 (fun s => s.n = 4 + x.b.dA/\x.a.l.n ≠ 0/\∃ i j,x.a.p.takes 0 i j/\s.a = x.a2 5 i j 0/\s.f = { x.f2 with line := x.ln 5 i j,cls := 0,piece := 0 }),
 Dl 5 5 (fun s => s.n = 5 + x.b.dA/\x.a.l.n ≠ 0/\∃ i j,x.a.p.takes 0 i j/\s.a = x.a2 5 i j (x.sp 5)/\s.f = { x.f2 with line := x.ln 5 i j,cls := 0,piece := 0 }),
 Dl 5 6 (fun s => (x.a.l.n = 0/\s.a = x.a1/\s.f = x.f1 ∨ x.a.l.n ≠ 0/\(∀ i,i < x.a.p.n->x.a.p.cls i ≠ -1/\x.a.p.full 0 i)/\s.a = x.a1/\(∃ q,s.f = { x.f2 with cls := 0,ans := ⟨#[]⟩,code := 4,piece := q }) ∨ s.n = 6 + x.b.dA/\x.a.l.n ≠ 0/\∃ i j,x.a.p.takes 0 i j/\s.a = (x.pb 5 i j x.f2).chg.deq/\s.f = { x.f2 with cls := 0,piece := 0,found := true,aep := x.a.c.now }))] else []) else fun _ _ _ => []
def amX (k : Int) (key v : ByteArray) : AV := .agg [i64 k,.lit (.string key),.lit (.string v),.lit (.string ⟨#[]⟩),fJ]
noncomputable def runE (pre : jo->Prop) : Ctr := { X := jo,args := fun x => [.ptr 0 0,i64 x.t,amX 4 x.key x.v],k := 1,os := fun x => [.abs (ownM x.a.os)],pre := fun x => Hd (pre x),outs := [
 { Y := Nat,post := fun x _ => Hd (400 < x.v.size),ret := fun _ n => .tup [ap5 5 false ⟨#[]⟩ 0,i64 n,boo true],m := 1,os := fun x _ => [.abs (ownM x.a.os)] },
 { Y := Nat,post := fun x _ => Hd (x.v.size<=400/\∀ i,i < x.a.p.n->x.a.p.cls i ≠ -1/\x.a.p.full (x.c 4) i),ret := fun _ n => .tup [ap5 4 false ⟨#[]⟩ 0,i64 n,boo true],m := 1,os := fun x _ => [.abs (ownM x.a.os)] },
 { Y := Nat × Nat,post := fun x y => Hd (x.v.size<=400/\x.a.p.takes (x.c 4) y.1 y.2),ret := fun x _ => .tup [ap5 0 false ⟨#[]⟩ x.a.c.now,i64 (4 + x.sp 4 : Nat),boo true],m := 1,os := fun x y => [.abs (ownM (x.aE y.1 y.2).os)] }] }
noncomputable def runD (pre : jo->Prop) : Ctr := { X := jo,args := fun x => [.ptr 0 0,i64 x.t,amX 5 x.key x.v],k := 1,os := fun x => [.abs (ownM x.a.os)],pre := fun x => Hd (pre x),outs := [
 { Y := Nat,post := fun x _ => Hd (x.a.l.n = 0),ret := fun _ n => .tup [ap5 0 false ⟨#[]⟩ 0,i64 n,boo true],m := 1,os := fun x _ => [.abs (ownM x.a.os)] },
 { Y := Nat,post := fun x _ => Hd (x.a.l.n ≠ 0/\∀ i,i < x.a.p.n->x.a.p.cls i ≠ -1/\x.a.p.full 0 i),ret := fun _ n => .tup [ap5 4 false ⟨#[]⟩ 0,i64 n,boo true],m := 1,os := fun x _ => [.abs (ownM x.a.os)] },
 { Y := Nat × Nat,post := fun x y => Hd (x.a.l.n ≠ 0/\x.a.p.takes 0 y.1 y.2),ret := fun x _ => .tup [ap5 0 true x.b.value x.a.c.now,i64 (6 + x.b.dA : Nat),boo true],m := 1,os := fun x y => [.abs (ownM (x.aD y.1 y.2).os)] }] }
noncomputable def ajK : WTbl := [(17,beginT),(19,ajI)]
end Go.Proofs.YtenfleoejgjklaaGreat
end
