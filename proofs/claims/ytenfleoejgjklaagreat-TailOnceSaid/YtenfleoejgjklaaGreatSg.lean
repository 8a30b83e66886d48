import Derived.Test.YtenfleoejgjklaaGreatSa
import Derived.Test.YtenfleoejgjklaaGreatSb
import Derived.Test.YtenfleoejgjklaaGreatSc
import Derived.Test.YtenfleoejgjklaaGreatSd
import Derived.Test.YtenfleoejgjklaaGreatSe
import Derived.Test.YtenfleoejgjklaaGreatSf
import Derived.KernelRfl
set_option linter.unusedVariables false
set_option linter.unusedSimpArgs false
set_option linter.unnecessarySimpa false
section
namespace Go.Proofs.YtenfleoejgjklaaGreat
open Go SE
def dG : Prop := Value.slice none 0 0 = Value.slice none 0 0
def SY (a : ZRe) : Prop := Hd ((a.p : Int) + 1 = spn a.b.cls/\a.f.line < 0)
def S9 (a : ZRe) : Prop := Hd ((a.p : Int) + 1 = spn a.b.cls/\0<=a.f.line)
def bI (a : Int) : Prop := a = a
def oP (a : Int) : Prop := dG/\dG/\bI a/\True
def Np (a : ZFr) (b : ByteArray) : Prop := False/\(0 : Int) = 0/\dG/\bI a.code/\a.found = a.found/\a.ans = b/\oP a.aep
def iK (a : Nat) : Prop := (a : Int) = (a : Int)
def uG (a : Nat) : Prop := (a : Int) + 1 = (a : Int) + 1
def cZ : Prop := ByteArray.mk #[] = ByteArray.mk #[]
def ahy (a : ZRe) (b : ByteArray) : Prop := bI a.f.epoch/\cZ/\false = false/\(0 : Int) = 0/\true = true/\cZ/\bI a.b.id/\bI a.b.ver/\iK a.ln/\bI a.b.cls/\bI a.f.line/\bI a.f.cls/\uG a.p/\Np a.f b
def Nq (a : ZRe) (b : ByteArray) : Prop := dG/\(0 : Int) = 0/\dG/\bI a.f.code/\a.f.found = a.f.found/\a.b.value = b/\oP a.f.aep
def Tc (a : ZRe) (b : ByteArray) : Prop := bI a.f.epoch/\cZ/\false = false/\(0 : Int) = 0/\true = true/\cZ/\bI a.b.id/\bI a.b.ver/\iK a.ln/\bI a.b.cls/\bI a.f.line/\bI a.f.cls/\uG a.p/\Nq a b
def Td (a : ZRe) : Prop := 64 * a.p = 64 * a.p/\∀ q : Nat,q < 64 * a.p->[Value.int .u8 (a.b.enc q)] = [Value.int .u8 (a.b.enc q)]
def mV : Prop := True/\True/\True/\True
def oQ : Prop := True/\True/\True/\True/\mV
def rD : Prop := True/\oQ
def yF : Prop := True/\rD
def oU : Prop := True/\yF
def kY : Prop := 0 = 0/\mV
def ku (a : DevM) (b : DevM) : Prop := ownM a.os = ownM b.os
def yG (a : ZRe) (b : DevM) : Prop := (0 = 0/\oU)/\kY/\ku a.d b/\Td a/\True
def bU (a : ByteArray) : Prop := a = a
def JM (a : ZRe) : Prop := Hd ((a.p : Int) + 1 ≠ spn a.b.cls)
def Z7 (a : ZRe) (b : DevM) : Prop := (0 = 0/\oU)/\kY/\ku a.d b/\Td a/\False/\True
def Fe (a : Int) : Prop := (AV.lit (Value.int .i64 a) = AV.lit (Value.int .i64 a)/\True)/\False
def JO (a : ZRe) : Prop := a.f.found = a.f.found/\a.b.value = a.f.ans/\oP a.f.aep
def ahz (a : ZRe) : Prop := bI a.f.epoch/\cZ/\false = false/\(0 : Int) = 0/\true = true/\cZ/\bI a.b.id/\bI a.b.ver/\iK a.ln/\bI a.b.cls/\bI a.f.line/\bI a.f.cls/\uG a.p/\dG/\(0 : Int) = 0/\dG/\a.f.code = 6/\JO a
def jl (a : ZFr) : Prop := a.found = a.found/\bU a.ans/\oP a.aep
def aok (a : ZRe) (b : DevM) : Prop := cP (decide (a.f.line ≥ (0 : Int))) (Fe a.f.line) ((∃ y_2 : Unit,JM a/\((5 : Int) = 5/\bU a.f.key/\bU a.f.value/\cZ/\dG/\(2 : Int) = 6/\bI a.f.epoch/\cZ/\false = false/\(0 : Int) = 0/\true = true/\cZ/\bI a.b.id/\bI a.b.ver/\iK a.ln/\bI a.b.cls/\bI a.f.line/\bI a.f.cls/\uG a.p/\False/\(0 : Int) = 0/\dG/\a.f.code = 6/\jl a.f)/\Z7 a b) ∨ (∃ y_2 : Unit,SY a/\((5 : Int) = 5/\bU a.f.key/\bU a.f.value/\cZ/\dG/\(3 : Int) = 6/\ahz a)/\yG a b) ∨ ∃ y_2 : Unit,S9 a/\((5 : Int) = 5/\bU a.f.key/\bU a.f.value/\cZ/\dG/\(5 : Int) = 6/\ahz a)/\yG a b)
def aol (a : ZDe) (b : ZRe) (c : DevM) : Prop := ∀ y_1 : Unit,True->cP (BEq.beq a.id b.b.id) (cP (BEq.beq a.ver b.b.ver) (cP (decide (b.f.line < 0)) ((∃ y_2 : Unit,JM b/\((5 : Int) = 5/\bU b.f.key/\bU b.f.value/\cZ/\dG/\(2 : Int) = 3/\ahy b a.value)/\Z7 b c) ∨ (∃ y_2 : Unit,SY b/\((5 : Int) = 5/\bU b.f.key/\bU b.f.value/\cZ/\dG/\(3 : Int) = 3/\Tc b a.value)/\yG b c) ∨ ∃ y_2 : Unit,S9 b/\((5 : Int) = 5/\bU b.f.key/\bU b.f.value/\cZ/\dG/\(5 : Int) = 3/\Tc b a.value)/\yG b c) ((∃ y_2 : Unit,JM b/\((5 : Int) = 5/\bU b.f.key/\bU b.f.value/\cZ/\dG/\(2 : Int) = 5/\ahy b a.value)/\Z7 b c) ∨ (∃ y_2 : Unit,SY b/\((5 : Int) = 5/\bU b.f.key/\bU b.f.value/\cZ/\dG/\(3 : Int) = 5/\Tc b a.value)/\yG b c) ∨ ∃ y_2 : Unit,S9 b/\((5 : Int) = 5/\bU b.f.key/\bU b.f.value/\cZ/\dG/\(5 : Int) = 5/\Tc b a.value)/\yG b c)) (aok b c)) (aok b c)
def rE (a : ZFr) : Prop := (0 : Int) = 0/\dG/\bI a.code/\jl a
def kS (a : ZFr) : Prop := dG/\rE a
def kZ (a : ZWr) (b : nK) : Prop := (0 = 0/\oU)/\kY/\ownM a.d'.os = ownM (DevM.os (b.d.store b.k b.a b.b.n (fun (q : Nat) => b.b.g (b.b.q + q))))/\True
def ahA (a : ZWr) (b : nK) : Prop := Hd ((a.p : Int) + 1 ≠ spn a.c)/\((4 : Int) = 4/\bU a.f.key/\bU a.f.value/\cZ/\dG/\(4 : Int) = 5/\bI a.f.epoch/\cZ/\false = false/\(0 : Int) = 0/\a.f.had = a.f.had/\bU a.f.old.key/\bI a.f.old.id/\bI a.f.old.ver/\bI a.f.old.line/\bI a.f.old.cls/\iK a.ln/\bI a.c/\(a.p : Int) + 1 = 0/\kS a.f)/\kZ a b
def ahB (a : ZWr) (b : nK) : Prop := Hd ((a.p : Int) + 1 = spn a.c)/\((4 : Int) = 4/\bU a.f.key/\bU a.f.value/\cZ/\dG/\(5 : Int) = 4/\bI a.f.epoch/\cZ/\false = false/\(0 : Int) = 0/\a.f.had = a.f.had/\bU a.f.old.key/\bI a.f.old.id/\bI a.f.old.ver/\bI a.f.old.line/\bI a.f.old.cls/\iK a.ln/\bI a.c/\0 = (a.p : Int) + 1/\kS a.f)/\kZ a b
def ahC (a : ZWr) (b : nK) : Prop := Hd ((a.p : Int) + 1 ≠ spn a.c)/\((4 : Int) = 4/\bU a.f.key/\bU a.f.value/\cZ/\dG/\(4 : Int) = 4/\bI a.f.epoch/\cZ/\false = false/\(0 : Int) = 0/\a.f.had = a.f.had/\bU a.f.old.key/\bI a.f.old.id/\bI a.f.old.ver/\bI a.f.old.line/\bI a.f.old.cls/\iK a.ln/\bI a.c/\uG a.p/\kS a.f)/\kZ a b
def Fg (a : ZWr) : Prop := bU a.f.key/\bU a.f.value/\cZ/\dG/\(5 : Int) = 5/\bI a.f.epoch/\cZ/\false = false/\(0 : Int) = 0/\a.f.had = a.f.had/\bU a.f.old.key/\bI a.f.old.id/\bI a.f.old.ver/\bI a.f.old.line/\bI a.f.old.cls/\iK a.ln/\bI a.c/\(0 : Int) = 0/\kS a.f
def ahD (a : ZWr) (b : nK) : Prop := ∀ y : Unit,True->I64 ((a.p : Int) + 1)/\True/\I64 ((a.p : Int) + 1)/\cP (BEq.beq ((a.p : Int) + 1) (spn a.c)) ((∃ y_1 : Unit,ahA a b) ∨ ∃ y_1 : Unit,Hd ((a.p : Int) + 1 = spn a.c)/\((4 : Int) = 4/\Fg a)/\kZ a b) ((∃ y_1 : Unit,ahC a b) ∨ ∃ y_1 : Unit,ahB a b)
def yH (a : DevM) (b : DevM) : Prop := (0 = 0/\oU)/\kY/\ku a b/\True
def Nr (a : DevM) (b : DevM) : Prop := (0 = 0/\oU)/\kY/\ku a b/\False/\True
def rF (a : Int) : Prop := Hd ((1 : Int) ≠ spn a)
def ahE (a : ZRe) : Prop := bI a.f.epoch/\cZ/\false = false/\(0 : Int) = 0/\true = true/\cZ/\bI a.b.id/\bI a.b.ver/\iK a.ln/\bI a.b.cls/\bI a.f.line/\bI a.f.cls/\(1 : Int) = 1/\dG/\(0 : Int) = 0/\dG/\a.f.code = 6/\JO a
def Fh (a : ZRe) : Prop := Hd (1 = spn a.b.cls/\a.f.line < 0)
def Fj (a : ZRe) : Prop := Hd (1 = spn a.b.cls/\0<=a.f.line)
def ahF (a : ZRe) (b : DevM) : Prop := cP (decide (a.f.line ≥ (0 : Int))) (Fe a.f.line) ((∃ y_2 : Unit,rF a.b.cls/\((5 : Int) = 5/\bU a.f.key/\bU a.f.value/\cZ/\dG/\(2 : Int) = 6/\bI a.f.epoch/\cZ/\false = false/\(0 : Int) = 0/\true = true/\cZ/\bI a.b.id/\bI a.b.ver/\iK a.ln/\bI a.b.cls/\bI a.f.line/\bI a.f.cls/\(1 : Int) = 1/\False/\(0 : Int) = 0/\dG/\a.f.code = 6/\jl a.f)/\Nr a.d b) ∨ (∃ y_2 : Unit,Fh a/\((5 : Int) = 5/\bU a.f.key/\bU a.f.value/\cZ/\dG/\(3 : Int) = 6/\ahE a)/\yH a.d b) ∨ ∃ y_2 : Unit,Fj a/\((5 : Int) = 5/\bU a.f.key/\bU a.f.value/\cZ/\dG/\(5 : Int) = 6/\ahE a)/\yH a.d b)
def ahG (a : ZRe) : Prop := bI a.f.epoch/\cZ/\false = false/\(0 : Int) = 0/\true = true/\cZ/\bI a.b.id/\bI a.b.ver/\iK a.ln/\bI a.b.cls/\bI a.f.line/\bI a.f.cls/\uG a.p/\False/\(0 : Int) = 0/\dG/\bI a.f.code/\JO a
def ahH (a : ZRe) (b : DevM) : Prop := (∃ y_1 : Unit,SY a/\((5 : Int) = 5/\bU a.f.key/\bU a.f.value/\cZ/\dG/\(3 : Int) = 2/\ahG a)/\yG a b) ∨ ∃ y_1 : Unit,S9 a/\((5 : Int) = 5/\bU a.f.key/\bU a.f.value/\cZ/\dG/\(5 : Int) = 2/\ahG a)/\yG a b
def Tf (a : ZRe) (b : ByteArray) : Prop := bI a.f.epoch/\cZ/\false = false/\(0 : Int) = 0/\true = true/\cZ/\bI a.b.id/\bI a.b.ver/\iK a.ln/\bI a.b.cls/\bI a.f.line/\bI a.f.cls/\(1 : Int) = 1/\Nq a b
def Fp (a : ZFr) : Prop := cZ/\false = false/\(0 : Int) = 0/\a.had = a.had/\bU a.old.key/\bI a.old.id/\bI a.old.ver/\bI a.old.line/\bI a.old.cls/\bI a.line/\bI a.cls/\bI a.piece/\kS a
def JQ (a : nK) (b : DevM) (c : Int) : Prop := ku a.d b/\(a.b.N = 64/\∀ q : Nat,q < a.b.N->[Value.int .u8 (a.b.g q)] = [Value.int .u8 (dL.jy (dL.mk c (0 : Int) (0 : Int) (0 : Int) (0 : Int) (ByteArray.mk #[]) (ByteArray.mk #[])) (fun (x_3 : Nat) => (0 : Int)) (Int.toNat (cpc c)) q)])/\True
def Z8 (a : ZFr) : Prop := bU a.key/\bU a.value/\cZ/\dG/\(7 : Int) = 7/\bI a.epoch/\cZ/\false = false/\(0 : Int) = 0/\a.had = a.had/\bU a.old.key/\bI a.old.id/\bI a.old.ver/\bI a.old.line/\bI a.old.cls/\bI a.line/\bI a.cls/\bI a.piece/\dG/\(0 : Int) = 0/\dG/\(5 : Int) = 7/\jl a
def qx : Prop := True/\True/\0 = 0/\0 = 0/\oQ
def ahI (a : ZWr) (b : Nat) : Prop := (Nat.beq (List.length [Value.int .u8 (fE (ByteArray.extract a.f.value (Int.toNat (ni (imax (28 + ((a.p : Int) - 1) * 63) (0 : Int)) (a.f.value.size : Int))) a.f.value.size) b)]) 1 && List.all [Value.int .u8 (fE (ByteArray.extract a.f.value (Int.toNat (ni (imax (28 + ((a.p : Int) - 1) * 63) (0 : Int)) (a.f.value.size : Int))) a.f.value.size) b)] Value.oneCell') = true
def ahJ (a : ZRe) : Prop := bI a.f.epoch/\cZ/\false = false/\(0 : Int) = 0/\true = true/\cZ/\bI a.b.id/\bI a.b.ver/\iK a.ln/\bI a.b.cls/\bI a.f.line/\bI a.f.cls/\(1 : Int) = 1/\False/\(0 : Int) = 0/\dG/\bI a.f.code/\JO a
def Z9 (a : ZWr) : Prop := bU a.f.key/\bU a.f.value/\cZ/\dG/\(4 : Int) = 5/\bI a.f.epoch/\cZ/\false = false/\(0 : Int) = 0/\a.f.had = a.f.had/\bU a.f.old.key/\bI a.f.old.id/\bI a.f.old.ver/\bI a.f.old.line/\bI a.f.old.cls/\iK a.ln/\bI a.c/\(1 : Int) = 0/\kS a.f
def aac (a : ZWr) : Prop := bU a.f.key/\bU a.f.value/\cZ/\dG/\(4 : Int) = 4/\bI a.f.epoch/\cZ/\false = false/\(0 : Int) = 0/\a.f.had = a.f.had/\bU a.f.old.key/\bI a.f.old.id/\bI a.f.old.ver/\bI a.f.old.line/\bI a.f.old.cls/\iK a.ln/\bI a.c/\(1 : Int) = 1/\kS a.f
def aad (a : ZWr) : Prop := bU a.f.key/\bU a.f.value/\cZ/\dG/\(5 : Int) = 4/\bI a.f.epoch/\cZ/\false = false/\(0 : Int) = 0/\a.f.had = a.f.had/\bU a.f.old.key/\bI a.f.old.id/\bI a.f.old.ver/\bI a.f.old.line/\bI a.f.old.cls/\iK a.ln/\bI a.c/\(0 : Int) = 1/\kS a.f
def aae (a : ZEn) : Prop := a.c.now = a.f.epoch/\cZ/\false = false/\(0 : Int) = 0/\a.f.had = a.f.had/\bU a.f.old.key/\bI a.f.old.id/\bI a.f.old.ver/\bI a.f.old.line/\bI a.f.old.cls/\bI a.f.line/\bI a.f.cls/\bI a.f.piece/\dG/\(0 : Int) = 0/\dG/\a.f.code = 7/\jl a.f
def ahK (a : ZRe) (b : ByteArray) : Prop := bI a.f.epoch/\cZ/\false = false/\(0 : Int) = 0/\true = true/\cZ/\bI a.b.id/\bI a.b.ver/\iK a.ln/\bI a.b.cls/\bI a.f.line/\bI a.f.cls/\(1 : Int) = 1/\Np a.f b
def aaf (a : ZFr) (b : Int) : Prop := a.epoch = b/\cZ/\false = false/\(0 : Int) = 0/\a.had = a.had/\bU a.old.key/\bI a.old.id/\bI a.old.ver/\bI a.old.line/\bI a.old.cls/\bI a.line/\bI a.cls/\bI a.piece/\dG/\(0 : Int) = 0/\dG/\5 = a.code/\jl a
def JR (a : ZLn) (b : ZLn) : Prop := (True/\True/\True/\True/\True/\True/\True/\kY)/\ownM a.os = ownM b.os/\True
def Fq (a : Nat) : Prop := AV.lit (Value.int .i64 (a : Int)) = AV.lit (Value.int .i64 (a : Int))
def AA (a : nK) : Prop := Hd (a.d.ok/\a.k < a.d.n/\a.b.ok/\a.a + a.b.n<=64)
def nS : Prop := True/\0 = 0/\yF
def AB (a : nK) : Prop := (a.a : Int) = 0/\(a.b.q = 0/\a.b.n = 64)/\True
def Ti (a : ZDe) : Prop := Hd (a.b.may/\a.value.size < 1099511627776/\∀ k : Nat,k < 64 * a.b.dD->a.g k = a.b.enc k)
def JU (a : ZFr) : Prop := a.found = a.found/\a.ans = ByteArray.mk #[]/\oP a.aep
def Fv (a : ZTk) : Prop := a.c (4 : Int) = ned (a.f.value.size : Int)
def JV (a : ZFr) : Prop := a.found = a.found/\emp = ByteArray.mk #[]/\oP a.aep
def aag (a : ZTk) : Prop := Hd (∀ i : Nat,i < a.p.n->a.p.cls i ≠ (-(1 : Int))/\a.p.full (a.c (4 : Int)) i)
def aah (a : ZTk) : Prop := Hd (∀ i : Nat,i < a.p.n->a.p.cls i ≠ (-(1 : Int))/\a.p.full (a.c (5 : Int)) i)
def AL (a : ClkM) : Prop := ownM (a.os 0) = ownM (a.os 0)/\True
def AO (a : ClkM) (b : ClkM) : Prop := ownM (a.os 0) = ownM (b.os 0)/\True
def aai (a : ZDe) (b : VK) : Prop := (64 * a.b.dD = 64/\∀ q : Nat,q < 64 * a.b.dD->[Value.int .u8 (a.g q)] = [Value.int .u8 (b.d.b (b.k * 193 + (0 + (q - 0))))])/\True
def aaj (a : ZFr) : Prop := a.piece = 0/\dG/\(0 : Int) = 0/\dG/\4 = a.code/\a.found = a.found/\emp = a.ans/\oP a.aep
def aak (a : ZLv) (b : UN) : Prop := (True/\True/\0 = 0/\rD)/\ownM (ZRd.os (a.r.put a.t (0 : Int))) = ownM (ZRd.os (b.r.put b.k (0 : Int)))/\True
def aal (a : kN) : Prop := Hd (spn a.c ≠ (0 : Int)/\∀ i : Nat,i < a.p.n->a.p.cls i ≠ (-(1 : Int))/\a.p.full a.c i)
def aam (a : ZFr) : Prop := bU a.key/\bU a.value/\cZ/\dG/\(7 : Int) = 7/\bI a.epoch/\Fp a
def rG (a : cO) (b : cO) : Prop := ownM a.os = ownM b.os/\True
def Xz (a : Nat) : Prop := AV.lit (Value.int .i64 ((a : Int) + 1)) = AV.lit (Value.int .i64 ((a : Int) + 1))/\True
def Ns (x : ZEn) : Prop :=
 ((0 : Int)<=0/\(0 : Int)<=6)/\cP (decide ((x.f.value.size : Int) > (400 : Int))) (True/\((∃ y : Unit,Hd ((4 : Int) = 4/\400 < x.f.value.size)/\((4 : Int) = 4/\bU x.f.key/\bU x.f.value/\cZ/\dG/\(7 : Int) = 7/\bI x.f.epoch/\cZ/\false = false/\(0 : Int) = 0/\x.f.had = x.f.had/\bU x.f.old.key/\bI x.f.old.id/\bI x.f.old.ver/\bI x.f.old.line/\bI x.f.old.cls/\bI x.f.line/\bI x.f.cls/\bI x.f.piece/\dG/\(0 : Int) = 0/\dG/\(5 : Int) = 5/\jl x.f)/\qx/\ownM x.r.os = ownM x.r.os/\AL x.c) ∨ ∃ y : Unit,Hd ((4 : Int) = 4->x.f.value.size<=400)/\((4 : Int) = 4/\bU x.f.key/\bU x.f.value/\cZ/\dG/\(3 : Int) = 7/\x.c.now = x.f.epoch/\cZ/\false = false/\(0 : Int) = 0/\x.f.had = x.f.had/\bU x.f.old.key/\bI x.f.old.id/\bI x.f.old.ver/\bI x.f.old.line/\bI x.f.old.cls/\bI x.f.line/\bI x.f.cls/\bI x.f.piece/\dG/\(0 : Int) = 0/\dG/\x.f.code = 5/\jl x.f)/\qx/\ownM (ZRd.os (x.r.put x.t x.r.now)) = ownM x.r.os/\AL x.c)) (∃ x_1 : UN,Hd (x_1.r.ok/\x_1.k < x_1.r.t)/\(0 = 0/\(x_1.k : Int) = (x.t : Int)/\True)/\(ownM x_1.r.os = ownM x.r.os/\True)/\(∀ y : Unit,Hd (x_1.r.has x_1.k = 0)->∃ x_2 : ClkM,Hd x_2.ok/\(0 = 0/\True)/\AO x_2 x.c/\∀ y_1 : Unit,True->True/\((∃ y_2 : Unit,Hd ((4 : Int) = 4/\400 < x.f.value.size)/\((4 : Int) = 4/\bU x.f.key/\bU x.f.value/\cZ/\dG/\(7 : Int) = 3/\aaf x.f x_2.now)/\qx/\ownM x.r.os = ownM (ZRd.os (x_1.r.put x_1.k x_1.r.now))/\AO x.c x_2) ∨ ∃ y_2 : Unit,Hd ((4 : Int) = 4->x.f.value.size<=400)/\((4 : Int) = 4/\bU x.f.key/\bU x.f.value/\cZ/\dG/\(3 : Int) = 3/\x.c.now = x_2.now/\Fp x.f)/\
 qx/\ownM (ZRd.os (x.r.put x.t x.r.now)) = ownM (ZRd.os (x_1.r.put x_1.k x_1.r.now))/\AO x.c x_2))/\∀ y : Unit,Hd (x_1.r.has x_1.k ≠ (0 : Int))->True/\((∃ y_1 : Unit,Hd ((4 : Int) = 4/\400 < x.f.value.size)/\((4 : Int) = 4/\Z8 x.f)/\qx/\ownM x.r.os = ownM x_1.r.os/\AL x.c) ∨ ∃ y_1 : Unit,Hd ((4 : Int) = 4->x.f.value.size<=400)/\((4 : Int) = 4/\bU x.f.key/\bU x.f.value/\cZ/\dG/\(3 : Int) = 7/\aae x)/\qx/\ownM (ZRd.os (x.r.put x.t x.r.now)) = ownM x_1.r.os/\AL x.c))
theorem XA (x : ZEn) : Ns x = wpF Tryz.prog aog tt (noA x) 200 6 19 ((qp 4).args x) (hO 3 ((qp 4).os x)) (fun v h' => eU 3 x v h' (qp 4).outs) := by kernel_rfl
def Nu (x : ZEn) : Prop :=
 ((0 : Int)<=0/\(0 : Int)<=6)/\∃ x_1 : UN,Hd (x_1.r.ok/\x_1.k < x_1.r.t)/\(0 = 0/\(x_1.k : Int) = (x.t : Int)/\True)/\(ownM x_1.r.os = ownM x.r.os/\True)/\(∀ y : Unit,Hd (x_1.r.has x_1.k = 0)->∃ x_2 : ClkM,Hd x_2.ok/\(0 = 0/\True)/\AO x_2 x.c/\∀ y_1 : Unit,True->True/\((∃ y_2 : Unit,Hd ((5 : Int) = 4/\400 < x.f.value.size)/\((5 : Int) = 5/\bU x.f.key/\bU x.f.value/\cZ/\dG/\(7 : Int) = 1/\aaf x.f x_2.now)/\qx/\ownM x.r.os = ownM (ZRd.os (x_1.r.put x_1.k x_1.r.now))/\AO x.c x_2) ∨ ∃ y_2 : Unit,Hd ((5 : Int) = 4->x.f.value.size<=400)/\((5 : Int) = 5/\bU x.f.key/\bU x.f.value/\cZ/\dG/\(1 : Int) = 1/\x.c.now = x_2.now/\Fp x.f)/\qx/\ownM (ZRd.os (x.r.put x.t x.r.now)) = ownM (ZRd.os (x_1.r.put x_1.k x_1.r.now))/\AO x.c x_2))/\∀ y : Unit,Hd (x_1.r.has x_1.k ≠ (0 : Int))->True/\((∃ y_1 : Unit,Hd ((5 : Int) = 4/\400 < x.f.value.size)/\((5 : Int) = 5/\Z8 x.f)/\qx/\ownM x.r.os = ownM x_1.r.os/\AL x.c) ∨ ∃ y_1 : Unit,Hd ((5 : Int) = 4->x.f.value.size<=400)/\((5 : Int) = 5/\bU x.f.key/\bU x.f.value/\cZ/\dG/\(1 : Int) = 7/\aae x)/\qx/\ownM (ZRd.os (x.r.put x.t x.r.now)) = ownM x_1.r.os/\AL x.c)
theorem XB (x : ZEn) : Nu x = wpF Tryz.prog aog tt (noA x) 200 6 19 ((qp 5).args x) (hO 3 ((qp 5).os x)) (fun v h' => eU 3 x v h' (qp 5).outs) := by kernel_rfl
def Fz (x : ZFi) : Prop :=
 ((0 : Int)<=1/\(0 : Int)<=5)/\∃ x_1 : ZLn,Hd x_1.ok/\(0 = 0/\True)/\(ownM x_1.os = ownM x.l.os/\True)/\∀ y : Unit,True->(AV.agg [AV.lit (Value.string x_1.head.key),AV.lit (Value.int .u64 x_1.head.id),AV.lit (Value.int .u64 x_1.head.ver),AV.lit (Value.int .i64 x_1.head.line),AV.lit (Value.int .i64 x_1.head.cls)] = AV.agg [AV.lit (Value.string x_1.head.key),AV.lit (Value.int .u64 x_1.head.id),AV.lit (Value.int .u64 x_1.head.ver),AV.lit (Value.int .i64 x_1.head.line),AV.lit (Value.int .i64 x_1.head.cls)]/\True)/\True/\cP (Bool.not (decide (x_1.n ≠ 0))) (cP (decide (x.f.line ≥ (0 : Int))) (Fe x.f.line) ((∃ y_1 : Unit,Hd (x.l.n = 0)/\((5 : Int) = 5/\bU x.f.key/\bU x.f.value/\cZ/\dG/\(6 : Int) = 6/\bI x.f.epoch/\cZ/\false = false/\(0 : Int) = 0/\false = decide (x_1.n ≠ 0)/\ByteArray.mk #[] = x_1.head.key/\0 = x_1.head.id/\0 = x_1.head.ver/\0 = x_1.head.line/\0 = x_1.head.cls/\bI x.f.line/\bI x.f.cls/\bI x.f.piece/\kS x.f)/\JR x.l x_1) ∨ ∃ y_1 : Unit,Hd (x.l.n ≠ 0)/\((5 : Int) = 5/\bU x.f.key/\bU x.f.value/\cZ/\dG/\(2 : Int) = 6/\bI x.f.epoch/\cZ/\false = false/\(0 : Int) = 0/\true = decide (x_1.n ≠ 0)/\x.l.head.key = x_1.head.key/\x.l.head.id = x_1.head.id/\x.l.head.ver = x_1.head.ver/\x.l.head.line = x_1.head.line/\x.l.head.cls = x_1.head.cls/\bI x.f.line/\bI x.f.cls/\0 = x.f.piece/\kS x.f)/\JR x.l x_1)) ((∃ y_1 : Unit,Hd (x.l.n = 0)/\((5 : Int) = 5/\bU x.f.key/\bU x.f.value/\cZ/\dG/\(6 : Int) = 2/\bI x.f.epoch/\cZ/\false = false/\(0 : Int) = 0/\false = decide (x_1.n ≠ 0)/\ByteArray.mk #[] = x_1.head.key/\0 = x_1.head.id/\0 = x_1.head.ver/\0 = x_1.head.line/\0 = x_1.head.cls/\
 bI x.f.line/\bI x.f.cls/\x.f.piece = 0/\kS x.f)/\JR x.l x_1) ∨ ∃ y_1 : Unit,Hd (x.l.n ≠ 0)/\((5 : Int) = 5/\bU x.f.key/\bU x.f.value/\cZ/\dG/\(2 : Int) = 2/\bI x.f.epoch/\cZ/\false = false/\(0 : Int) = 0/\true = decide (x_1.n ≠ 0)/\x.l.head.key = x_1.head.key/\x.l.head.id = x_1.head.id/\x.l.head.ver = x_1.head.ver/\x.l.head.line = x_1.head.line/\x.l.head.cls = x_1.head.cls/\bI x.f.line/\bI x.f.cls/\(0 : Int) = 0/\kS x.f)/\JR x.l x_1)
theorem JW (x : ZFi) : Fz x = wpF Tryz.prog ap3 tt (noA x) 200 6 19 (Xx.args x) (hO 2 (Xx.os x)) (fun v h' => eU 2 x v h' Xx.outs) := by kernel_rfl
def XC (x : ZTk) : Prop :=
 ((0 : Int)<=3/\(0 : Int)<=3)/\(AV.ptr 0 0 = AV.ptr 0 0/\True)/\∃ x_1 : kN,Hd x_1.p.ok/\(0 = 0/\x_1.c = ned (x.f.value.size : Int)/\True)/\rG x_1.p x.p/\(∀ y : Unit,Hd (spn x_1.c = 0)->True/\((∃ y_1 : Unit,aag x/\((4 : Int) = 4/\bU x.f.key/\bU x.f.value/\cZ/\dG/\(6 : Int) = 6/\bI x.f.epoch/\cZ/\false = false/\(0 : Int) = 0/\x.f.had = x.f.had/\bU x.f.old.key/\bI x.f.old.id/\bI x.f.old.ver/\bI x.f.old.line/\bI x.f.old.cls/\bI x.f.line/\Fv x/\bI x.f.piece/\dG/\(0 : Int) = 0/\dG/\(4 : Int) = 1/\JV x.f)/\nS/\rG x.p x_1.p) ∨ ∃ y_1 : Prod Nat Nat,Hd (x.p.takes (x.c (4 : Int)) y_1.1 y_1.2)/\((4 : Int) = 4/\bU x.f.key/\bU x.f.value/\cZ/\dG/\(4 : Int) = 6/\bI x.f.epoch/\cZ/\false = false/\(0 : Int) = 0/\x.f.had = x.f.had/\bU x.f.old.key/\bI x.f.old.id/\bI x.f.old.ver/\bI x.f.old.line/\bI x.f.old.cls/\2 + (y_1.1 : Int) * 8 + (y_1.2 : Int) * spn (x.c (4 : Int)) = x.f.line/\Fv x/\0 = x.f.piece/\dG/\(0 : Int) = 0/\dG/\x.f.code = 1/\JU x.f)/\nS/\ownM (cO.os (x.p.take (x.c (4 : Int)) y_1.1 y_1.2)) = ownM x_1.p.os/\True))/\(∀ y : Unit,aal x_1->True/\((∃ y_1 : Unit,aag x/\((4 : Int) = 4/\bU x.f.key/\bU x.f.value/\cZ/\dG/\(6 : Int) = 6/\bI x.f.epoch/\cZ/\false = false/\(0 : Int) = 0/\x.f.had = x.f.had/\bU x.f.old.key/\bI x.f.old.id/\bI x.f.old.ver/\bI x.f.old.line/\bI x.f.old.cls/\bI x.f.line/\Fv x/\bI x.f.piece/\dG/\(0 : Int) = 0/\dG/\(4 : Int) = 4/\JV x.f)/\nS/\rG x.p x_1.p) ∨ ∃ y_1 : Prod Nat Nat,Hd (x.p.takes (x.c (4 : Int)) y_1.1 y_1.2)/\((4 : Int) = 4/\
 bU x.f.key/\bU x.f.value/\cZ/\dG/\(4 : Int) = 6/\bI x.f.epoch/\cZ/\false = false/\(0 : Int) = 0/\x.f.had = x.f.had/\bU x.f.old.key/\bI x.f.old.id/\bI x.f.old.ver/\bI x.f.old.line/\bI x.f.old.cls/\2 + (y_1.1 : Int) * 8 + (y_1.2 : Int) * spn (x.c (4 : Int)) = x.f.line/\Fv x/\0 = x.f.piece/\dG/\(0 : Int) = 0/\dG/\x.f.code = 4/\JU x.f)/\nS/\ownM (cO.os (x.p.take (x.c (4 : Int)) y_1.1 y_1.2)) = ownM x_1.p.os/\True))/\∀ y : Prod Nat Nat,Hd (spn x_1.c ≠ (0 : Int)/\x_1.p.takes x_1.c y.1 y.2)->True/\((∃ y_1 : Unit,aag x/\((4 : Int) = 4/\bU x.f.key/\bU x.f.value/\cZ/\dG/\(6 : Int) = 4/\bI x.f.epoch/\cZ/\false = false/\(0 : Int) = 0/\x.f.had = x.f.had/\bU x.f.old.key/\bI x.f.old.id/\bI x.f.old.ver/\bI x.f.old.line/\bI x.f.old.cls/\x.f.line = 2 + (y.1 : Int) * 8 + (y.2 : Int) * spn x_1.c/\Fv x/\aaj x.f)/\nS/\ownM x.p.os = ownM (cO.os (x_1.p.take x_1.c y.1 y.2))/\True) ∨ ∃ y_1 : Prod Nat Nat,Hd (x.p.takes (x.c (4 : Int)) y_1.1 y_1.2)/\((4 : Int) = 4/\bU x.f.key/\bU x.f.value/\cZ/\dG/\(4 : Int) = 4/\bI x.f.epoch/\cZ/\false = false/\(0 : Int) = 0/\x.f.had = x.f.had/\bU x.f.old.key/\bI x.f.old.id/\bI x.f.old.ver/\bI x.f.old.line/\bI x.f.old.cls/\2 + (y_1.1 : Int) * 8 + (y_1.2 : Int) * spn (x.c (4 : Int)) = 2 + (y.1 : Int) * 8 + (y.2 : Int) * spn x_1.c/\Fv x/\(0 : Int) = 0/\kS x.f)/\nS/\ownM (cO.os (x.p.take (x.c (4 : Int)) y_1.1 y_1.2)) = ownM (cO.os (x_1.p.take x_1.c y.1 y.2))/\True)
theorem ac7 (x : ZTk) : XC x = wpF Tryz.prog aoh tt (noA x) 200 6 19 ((BM 4).args x) (hO 2 ((BM 4).os x)) (fun v h' => eU 2 x v h' (BM 4).outs) := by kernel_rfl
def XD (x : ZTk) : Prop :=
 ((0 : Int)<=3/\(0 : Int)<=3)/\(AV.ptr 0 0 = AV.ptr 0 0/\True)/\∃ x_1 : kN,Hd x_1.p.ok/\(0 = 0/\x_1.c = 0/\True)/\rG x_1.p x.p/\(∀ y : Unit,Hd (spn x_1.c = 0)->True/\((∃ y_1 : Unit,aah x/\((5 : Int) = 5/\bU x.f.key/\bU x.f.value/\cZ/\dG/\(6 : Int) = 6/\bI x.f.epoch/\cZ/\false = false/\(0 : Int) = 0/\x.f.had = x.f.had/\bU x.f.old.key/\bI x.f.old.id/\bI x.f.old.ver/\bI x.f.old.line/\bI x.f.old.cls/\bI x.f.line/\x.c (5 : Int) = 0/\bI x.f.piece/\dG/\(0 : Int) = 0/\dG/\(4 : Int) = 1/\JV x.f)/\nS/\rG x.p x_1.p) ∨ ∃ y_1 : Prod Nat Nat,Hd (x.p.takes (x.c (5 : Int)) y_1.1 y_1.2)/\((5 : Int) = 5/\bU x.f.key/\bU x.f.value/\cZ/\dG/\(4 : Int) = 6/\bI x.f.epoch/\cZ/\false = false/\(0 : Int) = 0/\x.f.had = x.f.had/\bU x.f.old.key/\bI x.f.old.id/\bI x.f.old.ver/\bI x.f.old.line/\bI x.f.old.cls/\2 + (y_1.1 : Int) * 8 + (y_1.2 : Int) * spn (x.c (5 : Int)) = x.f.line/\x.c (5 : Int) = 0/\0 = x.f.piece/\dG/\(0 : Int) = 0/\dG/\x.f.code = 1/\JU x.f)/\nS/\ownM (cO.os (x.p.take (x.c (5 : Int)) y_1.1 y_1.2)) = ownM x_1.p.os/\True))/\(∀ y : Unit,aal x_1->True/\((∃ y_1 : Unit,aah x/\((5 : Int) = 5/\bU x.f.key/\bU x.f.value/\cZ/\dG/\(6 : Int) = 6/\bI x.f.epoch/\cZ/\false = false/\(0 : Int) = 0/\x.f.had = x.f.had/\bU x.f.old.key/\bI x.f.old.id/\bI x.f.old.ver/\bI x.f.old.line/\bI x.f.old.cls/\bI x.f.line/\x.c (5 : Int) = 0/\bI x.f.piece/\dG/\(0 : Int) = 0/\dG/\(4 : Int) = 4/\JV x.f)/\nS/\rG x.p x_1.p) ∨ ∃ y_1 : Prod Nat Nat,Hd (x.p.takes (x.c (5 : Int)) y_1.1 y_1.2)/\((5 : Int) = 5/\
 bU x.f.key/\bU x.f.value/\cZ/\dG/\(4 : Int) = 6/\bI x.f.epoch/\cZ/\false = false/\(0 : Int) = 0/\x.f.had = x.f.had/\bU x.f.old.key/\bI x.f.old.id/\bI x.f.old.ver/\bI x.f.old.line/\bI x.f.old.cls/\2 + (y_1.1 : Int) * 8 + (y_1.2 : Int) * spn (x.c (5 : Int)) = x.f.line/\x.c (5 : Int) = 0/\0 = x.f.piece/\dG/\(0 : Int) = 0/\dG/\x.f.code = 4/\JU x.f)/\nS/\ownM (cO.os (x.p.take (x.c (5 : Int)) y_1.1 y_1.2)) = ownM x_1.p.os/\True))/\∀ y : Prod Nat Nat,Hd (spn x_1.c ≠ (0 : Int)/\x_1.p.takes x_1.c y.1 y.2)->True/\((∃ y_1 : Unit,aah x/\((5 : Int) = 5/\bU x.f.key/\bU x.f.value/\cZ/\dG/\(6 : Int) = 4/\bI x.f.epoch/\cZ/\false = false/\(0 : Int) = 0/\x.f.had = x.f.had/\bU x.f.old.key/\bI x.f.old.id/\bI x.f.old.ver/\bI x.f.old.line/\bI x.f.old.cls/\x.f.line = 2 + (y.1 : Int) * 8 + (y.2 : Int) * spn x_1.c/\x.c (5 : Int) = 0/\aaj x.f)/\nS/\ownM x.p.os = ownM (cO.os (x_1.p.take x_1.c y.1 y.2))/\True) ∨ ∃ y_1 : Prod Nat Nat,Hd (x.p.takes (x.c (5 : Int)) y_1.1 y_1.2)/\((5 : Int) = 5/\bU x.f.key/\bU x.f.value/\cZ/\dG/\(4 : Int) = 4/\bI x.f.epoch/\cZ/\false = false/\(0 : Int) = 0/\x.f.had = x.f.had/\bU x.f.old.key/\bI x.f.old.id/\bI x.f.old.ver/\bI x.f.old.line/\bI x.f.old.cls/\2 + (y_1.1 : Int) * 8 + (y_1.2 : Int) * spn (x.c (5 : Int)) = 2 + (y.1 : Int) * 8 + (y.2 : Int) * spn x_1.c/\x.c (5 : Int) = 0/\(0 : Int) = 0/\kS x.f)/\nS/\ownM (cO.os (x.p.take (x.c (5 : Int)) y_1.1 y_1.2)) = ownM (cO.os (x_1.p.take x_1.c y.1 y.2))/\True)
theorem ac8 (x : ZTk) : XD x = wpF Tryz.prog aoh tt (noA x) 200 6 19 ((BM 5).args x) (hO 2 ((BM 5).os x)) (fun v h' => eU 2 x v h' (BM 5).outs) := by kernel_rfl
def Nv (x : ZLv) : Prop :=
 ((0 : Int)<=6/\(0 : Int)<=0)/\∃ x_1 : UN,Hd (x_1.r.ok/\x_1.k < x_1.r.t)/\(0 = 0/\(x_1.k : Int) = (x.t : Int)/\True)/\(ownM x_1.r.os = ownM x.r.os/\True)/\∀ y : Unit,True->True/\∃ y_1 : Unit,True/\((4 : Int) = 4/\aam x.f)/\aak x x_1
theorem XE (x : ZLv) : Nv x = wpF Tryz.prog aoi tt (noA x) 200 6 19 ((qw 4).args x) (hO 2 ((qw 4).os x)) (fun v h' => eU 2 x v h' (qw 4).outs) := by kernel_rfl
def Nw (x : ZLv) : Prop :=
 ((0 : Int)<=6/\(0 : Int)<=0)/\∃ x_1 : UN,Hd (x_1.r.ok/\x_1.k < x_1.r.t)/\(0 = 0/\(x_1.k : Int) = (x.t : Int)/\True)/\(ownM x_1.r.os = ownM x.r.os/\True)/\∀ y : Unit,True->True/\∃ y_1 : Unit,True/\((5 : Int) = 5/\aam x.f)/\aak x x_1
theorem XF (x : ZLv) : Nw x = wpF Tryz.prog aoi tt (noA x) 200 6 19 ((qw 5).args x) (hO 2 ((qw 5).os x)) (fun v h' => eU 2 x v h' (qw 5).outs) := by kernel_rfl
def FB (x : ZWr) : Prop :=
 ((0 : Int)<=4/\(0 : Int)<=2)/\∃ x_1 : Int,Hd (0<=x_1/\x_1<=3)/\(x_1 = x.c/\True)/\True/\∀ y : Unit,True->∃ x_2 : nK,AA x_2/\(0 = 0/\(x_2.k : Int) = (x.ln : Int)/\AB x_2)/\JQ x_2 x.d x_1/\∀ y_1 : Unit,True->I64 (1 : Int)/\True/\I64 (1 : Int)/\cP (BEq.beq (1 : Int) (spn x.c)) ((∃ y_2 : Unit,rF x.c/\((4 : Int) = 4/\Z9 x)/\kZ x x_2) ∨ ∃ y_2 : Unit,Hd (1 = spn x.c)/\((4 : Int) = 4/\Fg x)/\kZ x x_2) ((∃ y_2 : Unit,rF x.c/\((4 : Int) = 4/\aac x)/\kZ x x_2) ∨ ∃ y_2 : Unit,Hd (1 = spn x.c)/\((4 : Int) = 4/\aad x)/\kZ x x_2)
theorem Tj (x : ZWr) : FB x = wpF Tryz.prog akU tt (noA x) 200 6 19 ((kR 4).args x) (hO 3 ((kR 4).os x)) (fun v h' => eU 3 x v h' (kR 4).outs) := by kernel_rfl
def FC (x : ZWr) : Prop :=
 ((0 : Int)<=4/\(0 : Int)<=2)/\∃ x_1 : Int,Hd (0<=x_1/\x_1<=3)/\(x_1 = x.c/\True)/\True/\∀ y : Unit,True->∃ x_2 : nK,AA x_2/\(0 = 0/\(x_2.k : Int) = (x.ln : Int)/\AB x_2)/\JQ x_2 x.d x_1/\∀ y_1 : Unit,True->I64 (1 : Int)/\True/\I64 (1 : Int)/\cP (BEq.beq (1 : Int) (spn x.c)) ((∃ y_2 : Unit,rF x.c/\((5 : Int) = 5/\Z9 x)/\kZ x x_2) ∨ ∃ y_2 : Unit,Hd (1 = spn x.c)/\((5 : Int) = 5/\Fg x)/\kZ x x_2) ((∃ y_2 : Unit,rF x.c/\((5 : Int) = 5/\aac x)/\kZ x x_2) ∨ ∃ y_2 : Unit,Hd (1 = spn x.c)/\((5 : Int) = 5/\aad x)/\kZ x x_2)
theorem Tm (x : ZWr) : FC x = wpF Tryz.prog akU tt (noA x) 200 6 19 ((kR 5).args x) (hO 3 ((kR 5).os x)) (fun v h' => eU 3 x v h' (kR 5).outs) := by kernel_rfl
def FD (x : ZWr) : Prop :=
 ((0 : Int)<=4/\(0 : Int)<=2)/\cP (BEq.beq (x.p : Int) (0 : Int)) (∃ x_1 : Int,Hd (0<=x_1/\x_1<=3)/\(x_1 = x.c/\True)/\True/\∀ y : Unit,True->∃ x_2 : nK,AA x_2/\(0 = 0/\(x_2.k : Int) = (x.ln : Int)/\AB x_2)/\JQ x_2 x.d x_1/\∀ y_1 : Unit,True->I64 ((x.p : Int) + 1)/\True/\I64 ((x.p : Int) + 1)/\cP (BEq.beq ((x.p : Int) + 1) (spn x.c)) ((∃ y_2 : Unit,ahA x x_2) ∨ ∃ y_2 : Unit,Hd ((x.p : Int) + 1 = spn x.c)/\((4 : Int) = 4/\Fg x)/\kZ x x_2) ((∃ y_2 : Unit,ahC x x_2) ∨ ∃ y_2 : Unit,ahB x x_2)) (((0 : Int)<=64/\(0 : Int)<=0/\(0 : Int)<=281474976710592/\(0 : Int)<=4611686018427387839)/\((0 : Int)<=0/\(0 : Int)<=63)/\0 < 64/\I64 ((x.p : Int) - 1)/\I64 (((x.p : Int) - 1) * 63)/\I64 (28 + ((x.p : Int) - 1) * 63)/\(0 : Int)<=1/\(1<=64/\64<=64/\64<=64)/\0<=ni (imax (28 + ((x.p : Int) - 1) * 63) (0 : Int)) (x.f.value.size : Int)/\(Int.toNat (ni (imax (28 + ((x.p : Int) - 1) * 63) (0 : Int)) (x.f.value.size : Int))<=x.f.value.size/\x.f.value.size<=x.f.value.size/\x.f.value.size<=x.f.value.size)/\64<=64/\cP (Nat.ble (ByteArray.size (ByteArray.extract x.f.value (Int.toNat (ni (imax (28 + ((x.p : Int) - 1) * 63) (0 : Int)) (x.f.value.size : Int))) x.f.value.size)) 63) ((∀ k : Nat,k < ByteArray.size (ByteArray.extract x.f.value (Int.toNat (ni (imax (28 + ((x.p : Int) - 1) * 63) (0 : Int)) (x.f.value.size : Int))) x.f.value.size)->ahI x k)/\True/\I64 ((x.ln : Int) + (x.p : Int))/\∃ x_1 : nK,AA x_1/\(0 = 0/\(x_1.k : Int) = (x.ln : Int) + (x.p : Int)/\AB x_1)/\(ku x_1.d x.d/\(x_1.b.N = 64/\
 ∀ q : Nat,q < x_1.b.N->[Value.int .u8 (x_1.b.g q)] = Cs.eff (fun (p : Nat) => cond (Nat.ble 1 p && Nat.blt p (1 + ByteArray.size (ByteArray.extract x.f.value (Int.toNat (ni (imax (28 + ((x.p : Int) - 1) * 63) (0 : Int)) (x.f.value.size : Int))) x.f.value.size))) [Value.int .u8 (fE (ByteArray.extract x.f.value (Int.toNat (ni (imax (28 + ((x.p : Int) - 1) * 63) (0 : Int)) (x.f.value.size : Int))) x.f.value.size) (p - 1))] (Cs.eff (fun (x_2 : Nat) => [Value.int .u8 0]) [(0,[Value.int .u8 2])] p)) [] q)/\True)/\ahD x x_1) ((∀ k : Nat,k < 63->ahI x k)/\True/\I64 ((x.ln : Int) + (x.p : Int))/\∃ x_1 : nK,AA x_1/\(0 = 0/\(x_1.k : Int) = (x.ln : Int) + (x.p : Int)/\AB x_1)/\(ku x_1.d x.d/\(x_1.b.N = 64/\∀ q : Nat,q < x_1.b.N->[Value.int .u8 (x_1.b.g q)] = Cs.eff (fun (p : Nat) => cond (Nat.ble 1 p && Nat.blt p 64) [Value.int .u8 (fE (ByteArray.extract x.f.value (Int.toNat (ni (imax (28 + ((x.p : Int) - 1) * 63) (0 : Int)) (x.f.value.size : Int))) x.f.value.size) (p - 1))] (Cs.eff (fun (x_2 : Nat) => [Value.int .u8 0]) [(0,[Value.int .u8 2])] p)) [] q)/\True)/\ahD x x_1))
theorem Tn (x : ZWr) : FD x = wpF Tryz.prog akU tt (noA x) 200 6 19 (zx.args x) (hO 3 (zx.os x)) (fun v h' => eU 3 x v h' zx.outs) := by kernel_rfl
def XG (x : ZRe) : Prop :=
 ((0 : Int)<=2/\(0 : Int)<=4)/\I64 ((x.ln : Int) + 0)/\(AV.lit (Value.int .i64 0) = AV.lit (Value.int .i64 0)/\Fq x.ln/\True)/\∃ x_1 : VK,Hd (x_1.d.ok/\x_1.k < x_1.d.n)/\(0 = 0/\(x_1.k : Int) = (x.ln : Int) + 0/\True)/\(ku x_1.d x.d/\True)/\∀ y : Unit,True->True/\64<=64/\(2 * (0 + 64) + 1000) * 1<=281474976710656/\I64 (1 : Int)/\(AV.lit (Value.int .i64 1) = AV.lit (Value.int .i64 1)/\True)/\cP (Bool.not (BEq.beq (1 : Int) (spn x.b.cls))) ((∃ y_1 : Unit,rF x.b.cls/\((5 : Int) = 5/\bU x.f.key/\bU x.f.value/\cZ/\dG/\(2 : Int) = 2/\bI x.f.epoch/\cZ/\false = false/\(0 : Int) = 0/\true = true/\cZ/\bI x.b.id/\bI x.b.ver/\iK x.ln/\bI x.b.cls/\bI x.f.line/\bI x.f.cls/\(1 : Int) = 1/\(0 = 0/\64 = 64)/\rE x.f)/\(0 = 0/\oU)/\kY/\ku x.d x_1.d/\(64 = 64/\∀ q : Nat,q < 64->[Value.int .u8 (x.b.enc q)] = [Value.int .u8 (x_1.d.b (x_1.k * 193 + (0 + (q - 0))))])/\True) ∨ (∃ y_1 : Unit,Fh x/\((5 : Int) = 5/\bU x.f.key/\bU x.f.value/\cZ/\dG/\(3 : Int) = 2/\ahJ x)/\yH x.d x_1.d) ∨ ∃ y_1 : Unit,Fj x/\((5 : Int) = 5/\bU x.f.key/\bU x.f.value/\cZ/\dG/\(5 : Int) = 2/\ahJ x)/\yH x.d x_1.d) (∃ x_2 : ZDe,Ti x_2/\((0 = 0/\64 * x_2.b.dD = 64)/\True)/\aai x_2 x_1/\∀ y_1 : Unit,True->cP (BEq.beq x_2.id x.b.id) (cP (BEq.beq x_2.ver x.b.ver) (cP (decide (x.f.line < 0)) ((∃ y_2 : Unit,rF x.b.cls/\((5 : Int) = 5/\bU x.f.key/\bU x.f.value/\cZ/\dG/\(2 : Int) = 3/\ahK x x_2.value)/\Nr x.d x_1.d) ∨ (∃ y_2 : Unit,Fh x/\((5 : Int) = 5/\bU x.f.key/\bU x.f.value/\cZ/\dG/\(3 : Int) = 3/\Tf x x_2.value)/\
 yH x.d x_1.d) ∨ ∃ y_2 : Unit,Fj x/\((5 : Int) = 5/\bU x.f.key/\bU x.f.value/\cZ/\dG/\(5 : Int) = 3/\Tf x x_2.value)/\yH x.d x_1.d) ((∃ y_2 : Unit,rF x.b.cls/\((5 : Int) = 5/\bU x.f.key/\bU x.f.value/\cZ/\dG/\(2 : Int) = 5/\ahK x x_2.value)/\Nr x.d x_1.d) ∨ (∃ y_2 : Unit,Fh x/\((5 : Int) = 5/\bU x.f.key/\bU x.f.value/\cZ/\dG/\(3 : Int) = 5/\Tf x x_2.value)/\yH x.d x_1.d) ∨ ∃ y_2 : Unit,Fj x/\((5 : Int) = 5/\bU x.f.key/\bU x.f.value/\cZ/\dG/\(5 : Int) = 5/\Tf x x_2.value)/\yH x.d x_1.d)) (ahF x x_1.d)) (ahF x x_1.d))
theorem ac9 (x : ZRe) : XG x = wpF Tryz.prog aoj tt (noA x) 200 6 19 (JK.args x) (hO 3 (JK.os x)) (fun v h' => eU 3 x v h' JK.outs) := by kernel_rfl
def XH (x : ZRe) : Prop :=
 0 + 64 * x.p<=64 * x.p/\cP (Nat.beq (64 * x.p) 0) (((0 : Int)<=2/\(0 : Int)<=4)/\I64 ((x.ln : Int) + (x.p : Int))/\(Fq x.p/\Fq x.ln/\True)/\∃ x_1 : VK,Hd (x_1.d.ok/\x_1.k < x_1.d.n)/\(0 = 0/\(x_1.k : Int) = (x.ln : Int) + (x.p : Int)/\True)/\(ku x_1.d x.d/\True)/\∀ y : Unit,True->True/\64<=64/\(2 * (0 + 64) + 1000) * 1<=281474976710656/\I64 ((x.p : Int) + 1)/\Xz x.p/\cP (Bool.not (BEq.beq ((x.p : Int) + 1) (spn x.b.cls))) ((∃ y_1 : Unit,JM x/\((5 : Int) = 5/\bU x.f.key/\bU x.f.value/\cZ/\dG/\(2 : Int) = 2/\bI x.f.epoch/\cZ/\false = false/\(0 : Int) = 0/\true = true/\cZ/\bI x.b.id/\bI x.b.ver/\iK x.ln/\bI x.b.cls/\bI x.f.line/\bI x.f.cls/\uG x.p/\(0 = 0/\64 * (x.p + 1) = 64)/\rE x.f)/\(0 = 0/\oU)/\kY/\ku x.d x_1.d/\Td x/\(64 * (x.p + 1) = 64/\∀ q : Nat,q < 64 * (x.p + 1)->[Value.int .u8 (x.b.enc q)] = [Value.int .u8 (x_1.d.b (x_1.k * 193 + (0 + (q - 0))))])/\True) ∨ ahH x x_1.d) (∃ x_2 : ZDe,Ti x_2/\((0 = 0/\64 * x_2.b.dD = 64)/\True)/\aai x_2 x_1/\aol x_2 x x_1.d)) ((2 * (0 + 64 * x.p) + 1000) * 1<=281474976710656/\((0 : Int)<=2/\(0 : Int)<=4)/\I64 ((x.ln : Int) + (x.p : Int))/\(Fq x.p/\Fq x.ln/\True)/\∃ x_1 : VK,Hd (x_1.d.ok/\x_1.k < x_1.d.n)/\(0 = 0/\(x_1.k : Int) = (x.ln : Int) + (x.p : Int)/\True)/\(ku x_1.d x.d/\True)/\∀ y : Unit,True->True/\0 + 64 * x.p = 0 + 64 * x.p/\64<=64/\(∀ k : Nat,k < 64->(Nat.beq (List.length [Value.int .u8 (x_1.d.b (x_1.k * 193 + (0 + k)))]) 1 && List.all [Value.int .u8 (x_1.d.b (x_1.k * 193 + (0 + k)))] Value.oneCell') = true)/\(2 * (0 + 64 * x.p + 64) + 1000) * 1<=281474976710656/\I64 ((x.p : Int) + 1)/\Xz x.p/\
 cP (Bool.not (BEq.beq ((x.p : Int) + 1) (spn x.b.cls))) ((∃ y_1 : Unit,JM x/\((5 : Int) = 5/\bU x.f.key/\bU x.f.value/\cZ/\dG/\(2 : Int) = 2/\bI x.f.epoch/\cZ/\false = false/\(0 : Int) = 0/\true = true/\cZ/\bI x.b.id/\bI x.b.ver/\iK x.ln/\bI x.b.cls/\bI x.f.line/\bI x.f.cls/\uG x.p/\(0 = 0/\64 * (x.p + 1) = 0 + 64 * x.p + 64)/\rE x.f)/\(0 = 0/\oU)/\kY/\ku x.d x_1.d/\Td x/\(64 * (x.p + 1) = 0 + 64 * x.p + 64/\∀ q : Nat,q < 64 * (x.p + 1)->[Value.int .u8 (x.b.enc q)] = Cs.eff (fun (q_1 : Nat) => cond (Nat.blt q_1 (0 + 64 * x.p)) [Value.int .u8 (x.b.enc (0 + (q_1 - 0)))] [Value.int .u8 (x_1.d.b (x_1.k * 193 + (0 + (q_1 - (0 + 64 * x.p)))))]) [] q)/\True) ∨ ahH x x_1.d) (∃ x_2 : ZDe,Ti x_2/\((0 = 0/\64 * x_2.b.dD = 0 + 64 * x.p + 64)/\True)/\((64 * x_2.b.dD = 0 + 64 * x.p + 64/\∀ q : Nat,q < 64 * x_2.b.dD->[Value.int .u8 (x_2.g q)] = Cs.eff (fun (q_1 : Nat) => cond (Nat.blt q_1 (0 + 64 * x.p)) [Value.int .u8 (x.b.enc (0 + (q_1 - 0)))] [Value.int .u8 (x_1.d.b (x_1.k * 193 + (0 + (q_1 - (0 + 64 * x.p)))))]) [] q)/\True)/\aol x_2 x x_1.d))
theorem ada (x : ZRe) : XH x = wpF Tryz.prog aoj tt (noA x) 200 6 19 (JL.args x) (hO 4 (JL.os x)) (fun v h' => eU 4 x v h' JL.outs) := by kernel_rfl
end Go.Proofs.YtenfleoejgjklaaGreat
end
section
namespace Go.Proofs.YtenfleoejgjklaaGreat
open Go SE
set_option linter.unusedSimpArgs false
theorem Ny (x : ZEn) (hx : x.r.ok/\x.c.ok/\x.t < x.r.t/\x.r.has x.t = 0) : Ns x := by
 obtain ⟨h1,h2,h3,h4⟩ := hx
 unfold Ns
 simp only [bU,cZ,dG,bI,jl,qx,AL,AO,aaf,Fp,Z8,aae,kS,rE,oQ,mV,oP]
 simp only [aY,aU,aT,ay,aH,bJ,bg,aN,aJ,au,aW,aV,bK,bC,bD,bF,bM,bf,bG,aZ,dY,aG,aK,ah,aj,aA,aC,aB,aF]
 refine ⟨by decide,bH (fun h => .inl (by have := aQ h; omega)) fun h => ⟨⟨x.r,x.t⟩,⟨h1,h3⟩,rfl,rfl,fun _ => ⟨x.c,h2,rfl,.inr ⟨by have := aS h; omega,rfl,rfl,rfl⟩⟩,fun h' => absurd h4 h'⟩⟩
theorem Nz (x : ZEn) (hx : x.r.ok/\x.c.ok/\x.t < x.r.t/\x.r.has x.t = 0) : Nu x := by
 obtain ⟨h1,h2,h3,h4⟩ := hx
 unfold Nu
 simp only [AO,bU,cZ,dG,aaf,qx,Fp,Z8,AL,aae,bI,jl,oP,kS,rE,oQ,mV]
 simp only [aY,aU,aT,ay,aH,bJ,bg,aN,aJ,au,aW,aV,bK,bC,bD,bF,bM,bf,bG,aZ,dY,aG,aK,ah,aj,aA,aC,aB,aF]
 refine ⟨by decide,⟨x.r,x.t⟩,⟨h1,h3⟩,rfl,rfl,fun _ => ⟨x.c,h2,rfl,.inr ⟨fun e => absurd e (by decide),rfl,rfl,rfl⟩⟩,fun h' => absurd h4 h'⟩
theorem Tq (x : ZFi) (hx : x.l.ok/\x.f.line = -1) : Fz x := by
 obtain ⟨h1,h2⟩ := hx
 unfold Fz
 simp only [Fe,bU,cZ,dG,bI,kS,JR,kY,mV,rE,jl,oP]
 simp only [aY,aU,aT,ay,aH,bJ,bg,aN,aJ,au,aW,aV,bK,bC,bD,bF,bM,bf,bG,aZ,dY,aG,aK,ah,aj,aA,aC,aB,aF]
 refine ⟨by decide,x.l,h1,rfl,bH (fun h => bH (fun h' => absurd (aQ h') (by omega)) fun _ => .inl ?_) fun h => .inr ?_⟩
 ·have hn : x.l.n = 0 := by simpa using h
  rw [yu hn]
  exact ⟨hn,⟨by rw [hn]; rfl,rfl,rfl,rfl,rfl,rfl⟩,rfl⟩
 ·have hn : x.l.n ≠ 0 := by simpa using h
  exact ⟨hn,⟨(decide_eq_true hn).symm,rfl,rfl,rfl,rfl,rfl⟩,rfl⟩
theorem JX {n : Nat} (h : n<=400) : 0<=ned n/\ned n<=3 := by
 unfold ned
 repeat' split
 all_goals omega
theorem JY {c : Int} (h : 0<=c/\c<=3) : spn c ≠ 0 := by
 rcases dP c with h' | h' | h' | h' | h' <;> omega
theorem Tt (x : ZTk) (hx : x.p.ok/\x.f.value.size<=400) : XC x := by
 obtain ⟨h1,h2⟩ := hx
 have hc : x.c 4 = ned x.f.value.size := if_pos rfl
 have hz := JY (JX h2)
 unfold XC
 simp only [rG,aag,bU,cZ,dG,bI,Fv,JV,nS,JU,aal,aaj,kS,rE,jl,oP,yF,rD,oQ,mV]
 simp only [aY,aU,aT,ay,aH,bJ,bg,aN,aJ,au,aW,aV,bK,bC,bD,bF,bM,bf,bG,aZ,dY,aG,aK,ah,aj,aA,aC,aB,aF,hc]
 exact ⟨by decide,⟨x.p,ned x.f.value.size⟩,h1,rfl,rfl,fun h => absurd h hz,fun h => .inl ⟨h.2,rfl,rfl⟩,fun y hy => .inr ⟨y,hy.2,rfl,rfl⟩⟩
theorem Tv (x : ZTk) (hx : x.p.ok/\x.f.value.size<=400) : XD x := by
 obtain ⟨h1,h2⟩ := hx
 have hc : x.c 5 = 0 := if_neg (by decide)
 have hn : ned 0 = 0 := rfl
 unfold XD
 simp only [rG,aah,bU,cZ,dG,bI,JV,nS,JU,aal,aaj,kS,rE,jl,oP,yF,rD,oQ,mV]
 simp only [aY,aU,aT,ay,aH,bJ,bg,aN,aJ,au,aW,aV,bK,bC,bD,bF,bM,bf,bG,aZ,dY,aG,aK,ah,aj,aA,aC,aB,aF,hc,hn]
 exact ⟨by decide,⟨x.p,0⟩,h1,rfl,rfl,fun h => absurd (show spn 0 = 0 from h) (by decide),fun h => .inl ⟨h.2,rfl,rfl⟩,fun y hy => .inr ⟨y,hy.2,rfl,rfl⟩⟩
theorem NC (x : ZLv) (hx : x.r.ok/\x.t < x.r.t) : Nv x := by
 unfold Nv
 simp only [aam,aak,rD,oQ,mV,bU,cZ,dG,bI,Fp,kS,rE,jl,oP]
 simp only [aY,aU,aT,ay,aH,bJ,bg,aN,aJ,au,aW,aV,bK,bC,bD,bF,bM,bf,bG,aZ,dY,aG,aK,ah,aj,aA,aC,aB,aF]
 exact ⟨by decide,⟨x.r,x.t⟩,hx,rfl,rfl,rfl⟩
theorem ND (x : ZLv) (hx : x.r.ok/\x.t < x.r.t) : Nw x := by
 unfold Nw
 simp only [aam,aak,rD,oQ,mV,bU,cZ,dG,bI,Fp,kS,rE,jl,oP]
 simp only [aY,aU,aT,ay,aH,bJ,bg,aN,aJ,au,aW,aV,bK,bC,bD,bF,bM,bf,bG,aZ,dY,aG,aK,ah,aj,aA,aC,aB,aF]
 exact ⟨by decide,⟨x.r,x.t⟩,hx,rfl,rfl,rfl⟩
theorem ahL {c : Int} (h : 0<=c/\c<=3) : dL.may ⟨c,0,0,0,0,⟨#[]⟩,⟨#[]⟩⟩ := ⟨JY h,.inl ⟨rfl,rfl,rfl,rfl,rfl,rfl⟩⟩
theorem Dt {c : Int} (h : 0<=c/\c<=3) (k : Nat) : 0<=(dL.mk c 0 0 0 0 ⟨#[]⟩ ⟨#[]⟩).jy (fun _ => 0) (cpc c).toNat k/\(dL.mk c 0 0 0 0 ⟨#[]⟩ ⟨#[]⟩).jy (fun _ => 0) (cpc c).toNat k < 256 := by
 have hd : (dL.mk c 0 0 0 0 ⟨#[]⟩ ⟨#[]⟩).dat = fun _ => 0 := by
  funext i; unfold dL.dat; rw [if_neg]; exact Nat.not_lt_zero i
 by_cases hk : k < 64
 ·have := qm (ahL h) k
  unfold dL.enc at this
  rw [if_pos hk,hd] at this
  exact this
 ·unfold dL.jy
  rw [if_neg (by omega),if_neg (by omega)]
  exact ⟨Int.le_refl 0,show (0 : Int) < 256 by decide⟩
theorem akV {x : ZWr} (h : x.p = 0) (N : Nat) : x.d' = (⟨x.d,x.ln,0,⟨x.draft.jy (fun _ => 0) (cpc x.c).toNat,0,64,N⟩⟩ : nK).d.store x.ln 0 64 (fun q => x.draft.jy (fun _ => 0) (cpc x.c).toNat (0 + q)) := by
 unfold ZWr.d'
 rw [if_pos h,SQ]
theorem Hr (x : ZWr) (hx : x.ok/\x.p = 0) : FB x := by
 obtain ⟨⟨o1,o2,o3,o4,o5,o6,o7,o8⟩,hp⟩ := hx
 have hs := dP x.c
 unfold FB
 simp only [AA,AB,JQ,rF,Z9,kZ,Fg,aac,aad,bU,cZ,dG,bI,iK,kS,rE,jl,oP,oU,kY,mV,yF,rD,oQ,ku]
 simp only [aY,aU,aT,ay,aH,bJ,bg,aN,aJ,au,aW,aV,bK,bC,bD,bF,bM,bf,bG,aZ,dY,aG,aK,ah,aj,aA,aC,aB,aF]
 refine ⟨by decide,x.c,⟨o2,o3⟩,rfl,⟨x.d,x.ln,0,⟨x.draft.jy (fun _ => 0) (cpc x.c).toNat,0,64,64⟩⟩,⟨o1,by show x.ln < x.d.n; omega,⟨aX _,show 64 < 1099511627776 by decide,Dt ⟨o2,o3⟩⟩,aX _⟩,⟨rfl,rfl,rfl,rfl⟩,⟨rfl,rfl,fun _ _ => rfl⟩,by unfold I64; omega,by unfold I64; omega,bH (fun h => .inr ⟨beq_iff_eq.1 h,congrArg (fun d => ownM (DevM.os d)) (akV hp 64)⟩) fun h => .inl ⟨beq_eq_false_iff_ne.1 h,congrArg (fun d => ownM (DevM.os d)) (akV hp 64)⟩⟩
theorem Ht (x : ZWr) (hx : x.ok/\x.p = 0) : FC x := by
 obtain ⟨⟨o1,o2,o3,o4,o5,o6,o7,o8⟩,hp⟩ := hx
 have hs := dP x.c
 unfold FC
 simp only [AA,AB,JQ,rF,Z9,kZ,Fg,aac,aad,bU,cZ,dG,bI,iK,kS,rE,jl,oP,oU,kY,mV,yF,rD,oQ,ku]
 simp only [aY,aU,aT,ay,aH,bJ,bg,aN,aJ,au,aW,aV,bK,bC,bD,bF,bM,bf,bG,aZ,dY,aG,aK,ah,aj,aA,aC,aB,aF]
 refine ⟨by decide,x.c,⟨o2,o3⟩,rfl,⟨x.d,x.ln,0,⟨x.draft.jy (fun _ => 0) (cpc x.c).toNat,0,64,64⟩⟩,⟨o1,by show x.ln < x.d.n; omega,⟨aX _,show 64 < 1099511627776 by decide,Dt ⟨o2,o3⟩⟩,aX _⟩,⟨rfl,rfl,rfl,rfl⟩,⟨rfl,rfl,fun _ _ => rfl⟩,by unfold I64; omega,by unfold I64; omega,bH (fun h => .inr ⟨beq_iff_eq.1 h,congrArg (fun d => ownM (DevM.os d)) (akV hp 64)⟩) fun h => .inl ⟨beq_eq_false_iff_ne.1 h,congrArg (fun d => ownM (DevM.os d)) (akV hp 64)⟩⟩
theorem aom (v : ByteArray) : (⟨#[]⟩ : ByteArray) ++ v = v := by
 have : ∀ a : ByteArray,a = ⟨a.data⟩ := fun a => rfl
 apply ByteArray.ext
 simp
theorem ahM {s : ByteArray} {a k : Nat} (hk : a + k < s.size) : fE (s.extract a s.size) k = fE s (a + k) := by
 unfold fE
 rw [ByteArray.data_extract]
 have h1 : a + k < s.data.size := hk
 simp only [List.getD_eq_getElem?_getD,Array.getElem?_toList,Array.getElem?_extract]
 rw [if_pos (by have : s.size = s.data.size := rfl; omega)]
theorem aan (x : dL) {m : Nat} (h : 64<=m) : 0<=x.enc m/\x.enc m < 256 := by
 unfold dL.enc
 rw [if_neg (by omega)]
 split
 ·decide
 ·exact MW _ _
theorem alY (x : ZWr) {t q o B : Nat} (hq : q < 64) (ho : o = min (28 + 63 * t) x.f.value.size) (hB : (x.f.value.extract o x.f.value.size).size<=63/\B = 1 + (x.f.value.extract o x.f.value.size).size ∨ 63 < (x.f.value.extract o x.f.value.size).size/\B = 64) : [Value.int .u8 (x.blk.enc (64 * (t + 1) + q))] = bif Nat.ble 1 q && Nat.blt q B then [Value.int .u8 (fE (x.f.value.extract o x.f.value.size) (q - 1))] else Cs.eff (fun _ => [Value.int .u8 0]) [(0,[Value.int .u8 2])] q := by
 have hsz : (x.f.value.extract o x.f.value.size).size = x.f.value.size - o := by rw [ByteArray.size_extract]; omega
 rw [hsz] at hB
 rw [MS _ _ _ hq]
 unfold dL.dat
 rw [show x.blk.key ++ x.blk.value = x.f.value from aom _]
 by_cases h0 : q = 0
 ·subst h0; rfl
 ·rw [if_neg h0]
  by_cases h1 : 28 + 63 * t + (q - 1) < x.f.value.size
  ·rw [if_pos h1,show (Nat.ble 1 q && Nat.blt q B) = true by rw [bW,Nat.ble_eq_true_of_le (by omega)]; simp; omega,aO,ahM (by omega),show o = 28 + 63 * t by omega]
  ·rw [if_neg h1,show (Nat.ble 1 q && Nat.blt q B) = false by rw [bW,Nat.ble_eq_true_of_le (by omega)]; simp; omega,aP]
   show _ = bif Nat.beq q 0 then _ else _
   rw [dH,decide_eq_false h0]; rfl
theorem akW {x : ZWr} (h : x.p ≠ 0) (N : Nat) : x.d' = (⟨x.d,x.ln + x.p,0,⟨fun q => x.blk.enc (64 * x.p + q),0,64,N⟩⟩ : nK).d.store (x.ln + x.p) 0 64 (fun q => (fun q => x.blk.enc (64 * x.p + q)) (0 + q)) := by
 unfold ZWr.d'
 rw [if_neg h]
 exact (SQ _ _ _ _ (fun q => x.blk.enc (64 * x.p + q))).symm
theorem Hu (x : ZWr) (hx : x.ok/\x.p ≠ 0) : FD x := by
 obtain ⟨⟨o1,o2,o3,o4,o5,o6,o7,o8⟩,hp⟩ := hx
 have hs := dP x.c
 obtain ⟨t,ht⟩ : ∃ t,x.p = t + 1 := ⟨x.p - 1,by omega⟩
 have hn := o1.1
 have e1 : (ni (imax (28 + ((x.p : Int) - 1) * 63) 0) x.f.value.size).toNat = min (28 + 63 * t) x.f.value.size := by unfold ni imax; omega
 have e0 : 0<=ni (imax (28 + ((x.p : Int) - 1) * 63) 0) x.f.value.size := by unfold ni imax; omega
 unfold FD
 simp only [AA,AB,JQ,ahA,Fg,kZ,ahC,ahB,ahI,ku,ahD,bU,cZ,dG,bI,iK,kS,rE,jl,oP,uG,oU,kY,mV,yF,rD,oQ]
 simp only [aY,aU,aT,ay,aH,bJ,bg,aN,aJ,au,aW,aV,bK,bC,bD,bF,bM,bf,bG,aZ,dY,aG,aK,ah,aj,aA,aC,aB,aF,e1]
 refine ⟨by decide,bH (fun h => absurd (beq_iff_eq.1 h) (by omega)) fun _ => ⟨by decide,by decide,by decide,by unfold I64; omega,by unfold I64; omega,by unfold I64; omega,by decide,by decide,e0,⟨Nat.min_le_right _ _,aX _⟩,by decide,bH (fun h => ?_) fun h => ?_⟩⟩
 ·refine ⟨by unfold I64; omega,⟨x.d,x.ln + x.p,0,⟨fun q => x.blk.enc (64 * x.p + q),0,64,64⟩⟩,⟨o1,by show x.ln + x.p < x.d.n; omega,⟨aX _,show 64 < 1099511627776 by decide,fun k => aan _ (by omega)⟩,aX _⟩,⟨rfl,rfl,rfl,rfl⟩,⟨rfl,rfl,fun q hq => ?_⟩,by unfold I64; omega,by unfold I64; omega,bH (fun h => .inr ⟨beq_iff_eq.1 h,congrArg (fun d => ownM (DevM.os d)) (akW hp 64)⟩) fun h => .inl ⟨beq_eq_false_iff_ne.1 h,congrArg (fun d => ownM (DevM.os d)) (akW hp 64)⟩⟩
  rw [ht]; exact alY x hq rfl (.inl ⟨Nat.le_of_ble_eq_true h,rfl⟩)
 ·refine ⟨by unfold I64; omega,⟨x.d,x.ln + x.p,0,⟨fun q => x.blk.enc (64 * x.p + q),0,64,64⟩⟩,⟨o1,by show x.ln + x.p < x.d.n; omega,⟨aX _,show 64 < 1099511627776 by decide,fun k => aan _ (by omega)⟩,aX _⟩,⟨rfl,rfl,rfl,rfl⟩,⟨rfl,rfl,fun q hq => ?_⟩,by unfold I64; omega,by unfold I64; omega,bH (fun h => .inr ⟨beq_iff_eq.1 h,congrArg (fun d => ownM (DevM.os d)) (akW hp 64)⟩) fun h => .inl ⟨beq_eq_false_iff_ne.1 h,congrArg (fun d => ownM (DevM.os d)) (akW hp 64)⟩⟩
  rw [ht]; exact alY x hq rfl (.inr ⟨Nat.not_le.1 fun hh => (by rw [Nat.ble_eq_true_of_le hh] at h; cases h),rfl⟩)
theorem re_b {b : dL} (h : b.may) (hk : b.kind = 2) : b.key = ⟨#[]⟩/\b.value.size<=400 := by
 rcases h.2 with h | h | h | h <;> first | (exfalso; have := h.1; omega) | exact ⟨h.2.1,h.2.2.1⟩
noncomputable def ZRe.de (x : ZRe) : ZDe := ⟨x.b.cls,x.b.id,x.b.ver,x.b.epoch,x.b.value,x.b.enc⟩
theorem ap4 {x : ZRe} (h : x.b.may) (hk : x.b.kind = 2) : x.de.b = x.b := by
 have := (re_b h hk).1
 unfold ZRe.de ZDe.b
 rw [← hk,← this]
theorem Tz (x : ZRe) (hx : x.ok/\x.p = 0) : XG x := by
 obtain ⟨⟨o1,o2,o3,o4,o5,o6⟩,hp⟩ := hx
 have hs := jA x.b
 have h1 := pW o2
 have hde := ap4 o2 o3
 have hv := re_b o2 o3
 have hn := o1.1
 have by_ : ∀ q,q < 64->x.b.enc q = x.d.b (x.ln * 193 + q) := fun q hq => by
  rw [← o6 q (by omega),show q / 64 = 0 by omega,show q % 64 = q by omega,aH]
 unfold XG
 simp only [Fq,ku,rF,bU,cZ,dG,bI,iK,rE,oU,kY,Fh,ahJ,yH,Fj,Ti,aai,ahK,Nr,Tf,ahF,Fe,jl,ahE,JO,oP,Nq,Np,mV,yF,rD,oQ]
 simp only [aY,aU,aT,ay,aH,bJ,bg,aN,aJ,au,aW,aV,bK,bC,bD,bF,bM,bf,bG,aZ,dY,aG,aK,ah,aj,aA,aC,aB,aF]
 refine ⟨by decide,by unfold I64; omega,⟨x.d,x.ln⟩,⟨o1,by show x.ln < x.d.n; omega⟩,by show (x.ln : Int) = x.ln + 0; omega,rfl,by decide,by decide,by unfold I64; omega,bH (fun h => .inl ⟨by simpa using h,rfl,by_⟩) fun h => ?_⟩
 have hc : 1 = spn x.b.cls := by simpa using h
 have hsn : x.b.dD = 1 := by omega
 have he : 64 * x.de.b.dD = 64 := by rw [hde,hsn]
 refine ⟨x.de,⟨by rw [hde]; exact o2,by show x.b.value.size < _; omega,fun k _ => by rw [hde]; rfl⟩,he,⟨he,fun q hq => by_ q (by omega)⟩,?_⟩
 rw [show (x.de.id == x.b.id) = true from beq_self_eq_true _,show (x.de.ver == x.b.ver) = true from beq_self_eq_true _,kH,kH]
 exact bH (fun h => .inr (.inl ⟨⟨hc,aQ h⟩,rfl,rfl⟩)) fun h => .inr (.inr ⟨⟨hc,by have := aS h; omega⟩,rfl,rfl⟩)
theorem TA (x : ZRe) (hx : x.ok/\x.p ≠ 0) : XH x := by
 obtain ⟨⟨o1,o2,o3,o4,o5,o6⟩,hp⟩ := hx
 have hs := jA x.b
 have h1 := pW o2
 have hde := ap4 o2 o3
 have hv := re_b o2 o3
 have hn := o1.1
 unfold XH
 simp only [Fq,ku,Xz,JM,bU,cZ,dG,bI,iK,uG,rE,oU,kY,Td,ahH,Ti,aai,aol,ahy,Z7,SY,Tc,yG,S9,aok,Fe,jl,ahz,JO,oP,Nq,Np,ahG,mV,yF,rD,oQ]
 simp only [aY,aU,aT,ay,aH,bJ,bg,aN,aJ,au,aW,aV,bK,bC,bD,bF,bM,bf,bG,aZ,dY,aG,aK,ah,aj,aA,aC,aB,aF]
 refine ⟨aX _,bH (fun h => absurd (ak h) (by omega)) fun _ => ⟨by omega,by decide,by unfold I64; omega,⟨x.d,x.ln + x.p⟩,⟨o1,by show x.ln + x.p < x.d.n; omega⟩,rfl,rfl,?_⟩⟩
 have row : ∀ q,q < 64 * (x.p + 1)->x.b.enc q = bif Nat.blt q (64 * x.p) then x.b.enc q else x.d.b ((x.ln + x.p) * 193 + (q - 64 * x.p)) := fun q hq => by
  by_cases hh : q < 64 * x.p
  ·rw [bQ.2 hh]; rfl
  ·rw [show Nat.blt q (64 * x.p) = false by rw [bW]; exact decide_eq_false hh,aP,← o6 q (by omega),show q / 64 = x.p by omega,show q % 64 = q - 64 * x.p by omega]
 refine ⟨by decide,by omega,by unfold I64; omega,bH (fun h => .inl ⟨by simpa using h,by omega,rfl,by omega,row⟩) fun h => ?_⟩
 have hc : (x.p : Int) + 1 = spn x.b.cls := by simpa using h
 have hsn : x.b.dD = x.p + 1 := by omega
 have he : 64 * x.de.b.dD = 64 * x.p + 64 := by rw [hde,hsn]; omega
 refine ⟨x.de,⟨by rw [hde]; exact o2,by show x.b.value.size < _; omega,fun k _ => by rw [hde]; rfl⟩,he,⟨he,fun q hq => row q (by omega)⟩,?_⟩
 rw [show (x.de.id == x.b.id) = true from beq_self_eq_true _,show (x.de.ver == x.b.ver) = true from beq_self_eq_true _,kH,kH]
 exact bH (fun h => .inr (.inl ⟨⟨hc,aQ h⟩,rfl,rfl⟩)) fun h => .inr (.inr ⟨⟨hc,by have := aS h; omega⟩,rfl,rfl⟩)
theorem jf : eY Tryz.prog yE := .cons ahx .nil
theorem aao : eY Tryz.prog aog := .append jf (.cons (bT aki) (.cons (bT xX) .nil))
theorem aap : eY Tryz.prog ap3 := .append jf (.cons (bT pU) .nil)
theorem aaq : eY Tryz.prog aoh := .append jf (.cons akT (.cons (bT anp) .nil))
theorem NG : eY Tryz.prog akU := .append jf (.cons Nk (.cons (bT akr) (.cons (bT Es) .nil)))
theorem aar : eY Tryz.prog aoi := .append jf (.cons (bT akj) .nil)
theorem aas : eY Tryz.prog aoj := .append jf (.cons Nk (.cons (bT aof) (.cons (bT ant) .nil)))
theorem JZ : bV Tryz.prog 19 (qp 4) := gG dI mixed aao noA 200 6 (fun _ => rfl) (fun _ => ⟨fun _ => rfl,fun _ => rfl,trivial⟩) fun x hx => Eq.mp (XA x) (Ny x (aY.1 hx))
theorem J3 : bV Tryz.prog 19 (qp 5) := gG dI mixed aao noA 200 6 (fun _ => rfl) (fun _ => ⟨fun _ => rfl,fun _ => rfl,trivial⟩) fun x hx => Eq.mp (XB x) (Nz x (aY.1 hx))
theorem aat : bV Tryz.prog 19 Xx := gG dI mixed aap noA 200 6 (fun _ => rfl) (fun _ => ⟨fun _ => rfl,fun _ => rfl,trivial⟩) fun x hx => Eq.mp (JW x) (Tq x (aY.1 hx))
theorem TB : bV Tryz.prog 19 (BM 4) := gG dI mixed aaq noA 200 6 (fun _ => rfl) (fun _ => ⟨fun _ => rfl,fun _ => rfl,trivial⟩) fun x hx => Eq.mp (ac7 x) (Tt x (aY.1 hx))
theorem TF : bV Tryz.prog 19 (BM 5) := gG dI mixed aaq noA 200 6 (fun _ => rfl) (fun _ => ⟨fun _ => rfl,fun _ => rfl,trivial⟩) fun x hx => Eq.mp (ac8 x) (Tv x (aY.1 hx))
theorem J4 : bV Tryz.prog 19 (qw 4) := dX dI mixed aar noA 200 6 (fun _ => rfl) (fun _ => rfl) fun x hx => Eq.mp (XE x) (NC x (aY.1 hx))
theorem J5 : bV Tryz.prog 19 (qw 5) := dX dI mixed aar noA 200 6 (fun _ => rfl) (fun _ => rfl) fun x hx => Eq.mp (XF x) (ND x (aY.1 hx))
theorem FH : bV Tryz.prog 19 (kR 4) := gG dI mixed NG noA 200 6 (fun _ => rfl) (fun _ => ⟨fun _ => rfl,fun _ => rfl,trivial⟩) fun x hx => Eq.mp (Tj x) (Hr x (aY.1 hx))
theorem FI : bV Tryz.prog 19 (kR 5) := gG dI mixed NG noA 200 6 (fun _ => rfl) (fun _ => ⟨fun _ => rfl,fun _ => rfl,trivial⟩) fun x hx => Eq.mp (Tm x) (Ht x (aY.1 hx))
theorem J6 : bV Tryz.prog 19 zx := gG dI mixed NG noA 200 6 (fun _ => rfl) (fun _ => ⟨fun _ => rfl,fun _ => rfl,trivial⟩) fun x hx => Eq.mp (Tn x) (Hu x (aY.1 hx))
theorem TG : bV Tryz.prog 19 JK := gG dI mixed aas noA 200 6 (fun _ => rfl) (fun _ => ⟨fun _ => rfl,fun _ => rfl,fun _ => rfl,trivial⟩) fun x hx => Eq.mp (ac9 x) (Tz x (aY.1 hx))
theorem TJ : bV Tryz.prog 19 JL := gG dI mixed aas noA 200 6 (fun _ => rfl) (fun _ => ⟨fun _ => rfl,fun _ => rfl,fun _ => rfl,trivial⟩) fun x hx => Eq.mp (ada x) (TA x (aY.1 hx))
end Go.Proofs.YtenfleoejgjklaaGreat
end
section
namespace Go.Proofs.YtenfleoejgjklaaGreat
open Go SE
structure ZSt where
 a : ZArn
 f : ZFr
 t : Nat
namespace ZArn
def nT (a : ZArn) (t : Nat) (v : Int) : ZArn := { a with r := a.r.put t v }
def J7 (a : ZArn) (p : cO) : ZArn := { a with p := p }
def Hw (a : ZArn) (d : DevM) : ZArn := { a with d := d }
end ZArn
noncomputable def iQ (k : Int) : vI := { X := ZSt,args := fun x => [.ptr 0 0,i64 x.t,x.f.av k 0 fJ],a := ZSt.a,k := 1,ex := fun _ => [],pre := fun x => Hd (x.a.r.ok/\x.a.c.ok/\x.t < x.a.r.t/\x.a.r.has x.t = 0),outs := [
 { Y := Unit,post := fun x _ => Hd (k = 4/\400 < x.f.value.size),ret := fun x _ => { x.f with code := 5 }.av k 7 fJ,a := fun x _ => x.a,m := 1,ex := fun _ _ => [] },
 { Y := Unit,post := fun x _ => Hd (k = 4->x.f.value.size<=400),ret := fun x _ => { x.f with epoch := x.a.c.now }.av k (if k = 4 then 3 else 1) fJ,a := fun x _ => x.a.nT x.t x.a.r.now,m := 1,ex := fun _ _ => [] }] }
noncomputable def zy : vI := { X := ZSt,args := fun x => [.ptr 0 0,i64 x.t,x.f.av 5 1 fJ],a := ZSt.a,k := 1,ex := fun _ => [],pre := fun x => Hd (x.a.l.ok/\x.f.line = -1),outs := [
 { Y := Unit,post := fun x _ => Hd (x.a.l.n = 0),ret := fun x _ => { x.f with had := false,old := oz }.av 5 6 fJ,a := fun x _ => x.a,m := 1,ex := fun _ _ => [] },
 { Y := Unit,post := fun x _ => Hd (x.a.l.n ≠ 0),ret := fun x _ => { x.f with had := true,old := x.a.l.head,piece := 0 }.av 5 2 fJ,a := fun x _ => x.a,m := 1,ex := fun _ _ => [] }] }
def ZSt.c (x : ZSt) (k : Int) : Int := if k = 4 then ned x.f.value.size else 0
noncomputable def lM (k : Int) : vI := { X := ZSt,args := fun x => [.ptr 0 0,i64 x.t,x.f.av k 3 fJ],a := ZSt.a,k := 1,ex := fun _ => [],pre := fun x => Hd (x.a.p.ok/\x.f.value.size<=400),outs := [
 { Y := Unit,post := fun x _ => Hd (∀ i,i < x.a.p.n->x.a.p.cls i ≠ -1/\x.a.p.full (x.c k) i),ret := fun x _ => { x.f with cls := x.c k,ans := emp,code := 4 }.av k 6 fJ,a := fun x _ => x.a,m := 1,ex := fun _ _ => [] },
 { Y := Nat × Nat,post := fun x y => Hd (x.a.p.takes (x.c k) y.1 y.2),ret := fun x y => { x.f with cls := x.c k,line := 2 + y.1 * 8 + y.2 * spn (x.c k),piece := 0 }.av k 4 fJ,a := fun x y => x.a.J7 (x.a.p.take (x.c k) y.1 y.2),m := 1,ex := fun _ _ => [] }] }
noncomputable def iR (k : Int) : vI := { X := ZSt,args := fun x => [.ptr 0 0,i64 x.t,x.f.av k 6 fJ],a := ZSt.a,k := 1,ex := fun _ => [],pre := fun x => Hd (x.a.r.ok/\x.t < x.a.r.t),outs := [
 { Y := Unit,post := fun _ _ => True,ret := fun x _ => x.f.av k 7 fJ,a := fun x _ => x.a.nT x.t 0,m := 1,ex := fun _ _ => [] }] }
structure lN where
 a : ZArn
 f : ZFr
 t : Nat
 ln : Nat
 c : Int
 p : Nat
def lN.w (x : lN) : ZWr := ⟨x.a.d,x.t,x.f,x.ln,x.c,x.p⟩
noncomputable def gK (k : Int) : vI := { X := lN,args := fun x => [.ptr 0 0,i64 x.t,(x.w.fr 0).av k 4 fJ],a := lN.a,k := 1,ex := fun _ => [],pre := fun x => Hd (x.w.ok/\x.p = 0),outs := [
 { Y := Unit,post := fun x _ => Hd (1 ≠ spn x.c),ret := fun x _ => (x.w.fr 1).av k 4 fJ,a := fun x _ => x.a.Hw x.w.d',m := 1,ex := fun _ _ => [] },
 { Y := Unit,post := fun x _ => Hd (1 = spn x.c),ret := fun x _ => (x.w.fr 0).av k 5 fJ,a := fun x _ => x.a.Hw x.w.d',m := 1,ex := fun _ _ => [] }] }
noncomputable def mW : vI := { X := lN,args := fun x => [.ptr 0 0,i64 x.t,(x.w.fr x.p).av 4 4 fJ],a := lN.a,k := 1,ex := fun _ => [],pre := fun x => Hd (x.w.ok/\x.p ≠ 0),outs := [
 { Y := Unit,post := fun x _ => Hd (x.p + 1 ≠ spn x.c),ret := fun x _ => (x.w.fr (x.p + 1)).av 4 4 fJ,a := fun x _ => x.a.Hw x.w.d',m := 1,ex := fun _ _ => [] },
 { Y := Unit,post := fun x _ => Hd (x.p + 1 = spn x.c),ret := fun x _ => (x.w.fr 0).av 4 5 fJ,a := fun x _ => x.a.Hw x.w.d',m := 1,ex := fun _ _ => [] }] }
structure jJ where
 a : ZArn
 f : ZFr
 t : Nat
 b : dL
 ln : Nat
 p : Nat
def jJ.w (x : jJ) : ZRe := ⟨x.a.d,x.t,x.f,x.b,x.ln,x.p⟩
noncomputable def qy : vI := { X := jJ,args := fun x => [.ptr 0 0,i64 x.t,(x.w.fr 0).av 5 2 fJ],a := jJ.a,k := 1,ex := fun _ => [],pre := fun x => Hd (x.w.ok/\x.p = 0),outs := [
 { Y := Unit,post := fun x _ => Hd (1 ≠ spn x.b.cls),ret := fun x _ => (x.w.fr 1).av 5 2 (.slW 1 0 1 64),a := fun x _ => x.a,m := 2,ex := fun x _ => [JJ x.b.enc 64] },
 { Y := Unit,post := fun x _ => Hd (1 = spn x.b.cls/\x.f.line < 0),ret := fun x _ => (x.w.fr2 1).av 5 3 fJ,a := fun x _ => x.a,m := 1,ex := fun _ _ => [] },
 { Y := Unit,post := fun x _ => Hd (1 = spn x.b.cls/\0<=x.f.line),ret := fun x _ => (x.w.fr2 1).av 5 5 fJ,a := fun x _ => x.a,m := 1,ex := fun _ _ => [] }] }
noncomputable def qA : vI := { X := jJ,args := fun x => [.ptr 0 0,i64 x.t,(x.w.fr x.p).av 5 2 (.slW 1 0 1 (64 * x.p))],a := jJ.a,k := 2,ex := fun x => [JJ x.b.enc (64 * x.p)],pre := fun x => Hd (x.w.ok/\x.p ≠ 0),outs := [
 { Y := Unit,post := fun x _ => Hd (x.p + 1 ≠ spn x.b.cls),ret := fun x _ => (x.w.fr (x.p + 1)).av 5 2 (.slW 2 0 1 (64 * (x.p + 1))),a := fun x _ => x.a,m := 3,ex := fun x _ => [JJ x.b.enc (64 * x.p),JJ x.b.enc (64 * (x.p + 1))] },
 { Y := Unit,post := fun x _ => Hd (x.p + 1 = spn x.b.cls/\x.f.line < 0),ret := fun x _ => (x.w.fr2 (x.p + 1)).av 5 3 fJ,a := fun x _ => x.a,m := 2,ex := fun x _ => [JJ x.b.enc (64 * x.p)] },
 { Y := Unit,post := fun x _ => Hd (x.p + 1 = spn x.b.cls/\0<=x.f.line),ret := fun x _ => (x.w.fr2 (x.p + 1)).av 5 5 fJ,a := fun x _ => x.a,m := 2,ex := fun x _ => [JJ x.b.enc (64 * x.p)] }] }
end Go.Proofs.YtenfleoejgjklaaGreat
end
section
namespace Go.Proofs.YtenfleoejgjklaaGreat
open Go SE
def dO : Prop := Value.slice none 0 0 = Value.slice none 0 0
def fM : Prop := dO/\dO/\dO/\dO/\True
def yI (a : ZArn) : Prop := (a.n = a.n/\∀ q : Nat,q < a.n->[Value.int .i64 (iy.kind (a.e q)),Value.string (iy.key (a.e q)),Value.string (iy.value (a.e q)),Value.int .u64 (iy.id (a.e q)),Value.int .u64 (iy.ver (a.e q)),Value.int .u64 (iy.epoch (a.e q)),Value.int .i64 (iy.group (a.e q))] = [Value.int .i64 (iy.kind (a.e q)),Value.string (iy.key (a.e q)),Value.string (iy.value (a.e q)),Value.int .u64 (iy.id (a.e q)),Value.int .u64 (iy.ver (a.e q)),Value.int .u64 (iy.epoch (a.e q)),Value.int .i64 (iy.group (a.e q))])/\True
def uf (a : ZArn) : Prop := ownM a.b.os = ownM a.b.os/\ownM tabE = ownM tabE/\fM/\ownM a.l.os = ownM a.l.os/\yI a
def BN (a : ZArn) : Prop := ownM (a.c.os 0) = ownM (a.c.os 0)/\uf a
def rH (a : ZArn) : Prop := ownM a.r.os = ownM a.r.os/\BN a
def fF (a : Int) (b : Int) : Prop := dO/\dO/\a = b/\True
def fO (a : ZFr) (b : ZFr) : Prop := a.found = b.found/\a.ans = b.ans/\fF a.aep b.aep
def iq (a : ZFr) (b : ZFr) : Prop := (0 : Int) = 0/\dO/\a.code = b.code/\fO a b
def fH (a : ZFr) (b : ZFr) : Prop := dO/\iq a b
def bY : Prop := ByteArray.mk #[] = ByteArray.mk #[]
def rJ (a : ZFr) (b : ZFr) : Prop := bY/\false = false/\(0 : Int) = 0/\a.had = b.had/\a.old.key = b.old.key/\a.old.id = b.old.id/\a.old.ver = b.old.ver/\a.old.line = b.old.line/\a.old.cls = b.old.cls/\a.line = b.line/\a.cls = b.cls/\a.piece = b.piece/\fH a b
def jV (a : ZFr) (b : ZFr) : Prop := a.epoch = b.epoch/\rJ a b
def lg (a : ZArn) : Prop := ownM a.b.os = ownM a.b.os/\ownM tabE = ownM tabE/\fM/\ownM a.l.os = ownM a.l.os/\True
def qB (a : ZArn) : Prop := ownM (a.c.os 0) = ownM (a.c.os 0)/\lg a
def lq (a : ZArn) : Prop := ownM a.r.os = ownM a.r.os/\qB a
def fP (a : ZArn) : Prop := 0 = 0/\0 = 0/\0 = 0/\0 = 0/\0 = 0/\0 = 0/\0 = 0/\0 = 0/\a.id = a.id/\a.ver = a.ver/\(0 = 0/\a.n = a.n)/\True
def fQ (a : cO) : Prop := ownM a.os = ownM a.os
def FK (a : ZArn) : Prop := fQ a.p/\lq a
def dU : Prop := 0 = 0/\(1 : Int) = 1/\(0 : Int) = 0/\(0 : Int) = 0/\True
def fU (a : ZArn) : Prop := 0 = 0/\0 = 0/\0 = 0/\0 = 0/\0 = 0/\0 = 0/\0 = 0/\0 = 0/\a.id = a.id/\a.ver = a.ver/\dO/\True
def zA (a : jJ) (b : ZRe) : Prop := dO/\(0 : Int) = 0/\dO/\a.f.code = b.f.code/\a.f.found = b.f.found/\a.b.value = b.b.value/\fF a.f.aep b.f.aep
def dQ (a : Nat) (b : Nat) : Prop := (a : Int) = (b : Int)
def J8 (a : jJ) (b : ZRe) : Prop := a.f.epoch = b.f.epoch/\bY/\false = false/\(0 : Int) = 0/\true = true/\bY/\a.b.id = b.b.id/\a.b.ver = b.b.ver/\dQ a.ln b.ln/\a.b.cls = b.b.cls/\a.f.line = b.f.line/\a.f.cls = b.f.cls/\(a.p : Int) + 1 = (b.p : Int) + 1/\zA a b
def J9 (a : jJ) (b : ZRe) : Prop := a.f.epoch = b.f.epoch/\bY/\false = false/\(0 : Int) = 0/\true = true/\bY/\a.b.id = b.b.id/\a.b.ver = b.b.ver/\dQ a.ln b.ln/\a.b.cls = b.b.cls/\a.f.line = b.f.line/\a.f.cls = b.f.cls/\(1 : Int) = 1/\zA a b
def qC (a : lN) (b : ZWr) : Prop := a.f.key = b.f.key/\a.f.value = b.f.value/\bY/\dO/\(5 : Int) = 5/\a.f.epoch = b.f.epoch/\bY/\false = false/\(0 : Int) = 0/\a.f.had = b.f.had/\a.f.old.key = b.f.old.key/\a.f.old.id = b.f.old.id/\a.f.old.ver = b.f.old.ver/\a.f.old.line = b.f.old.line/\a.f.old.cls = b.f.old.cls/\dQ a.ln b.ln/\a.c = b.c/\(0 : Int) = 0/\fH a.f b.f
def AP (a : ZFr) (b : ZFr) : Prop := a.key = b.key/\a.value = b.value/\bY/\dO/\(7 : Int) = 7/\a.epoch = b.epoch/\bY/\false = false/\(0 : Int) = 0/\a.had = b.had/\a.old.key = b.old.key/\a.old.id = b.old.id/\a.old.ver = b.old.ver/\a.old.line = b.old.line/\a.old.cls = b.old.cls/\a.line = b.line/\a.cls = b.cls/\a.piece = b.piece/\dO/\(0 : Int) = 0/\dO/\(5 : Int) = 5/\fO a b
def Ko (a : ZSt) (b : ZFr) : Prop := a.a.c.now = b.epoch/\bY/\false = false/\(0 : Int) = 0/\a.f.had = b.had/\a.f.old.key = b.old.key/\a.f.old.id = b.old.id/\a.f.old.ver = b.old.ver/\a.f.old.line = b.old.line/\a.f.old.cls = b.old.cls/\a.f.line = b.line/\a.f.cls = b.cls/\a.f.piece = b.piece/\dO/\(0 : Int) = 0/\dO/\a.f.code = 5/\fO a.f b
def Kq (a : ZFr) (b : ZEn) : Prop := a.epoch = b.c.now/\bY/\false = false/\(0 : Int) = 0/\a.had = b.f.had/\a.old.key = b.f.old.key/\a.old.id = b.f.old.id/\a.old.ver = b.f.old.ver/\a.old.line = b.f.old.line/\a.old.cls = b.f.old.cls/\a.line = b.f.line/\a.cls = b.f.cls/\a.piece = b.f.piece/\dO/\(0 : Int) = 0/\dO/\5 = b.f.code/\fO a b.f
def zC (a : jJ) (b : ZFr) : Prop := False/\(0 : Int) = 0/\dO/\a.f.code = b.code/\a.f.found = b.found/\a.b.value = b.ans/\fF a.f.aep b.aep
def aau (a : jJ) (b : ZRe) : Prop := a.f.epoch = b.f.epoch/\bY/\false = false/\(0 : Int) = 0/\true = true/\bY/\a.b.id = b.b.id/\a.b.ver = b.b.ver/\dQ a.ln b.ln/\a.b.cls = b.b.cls/\a.f.line = b.f.line/\a.f.cls = b.f.cls/\(a.p : Int) + 1 = (b.p : Int) + 1/\zC a b.f
def oh (a : dL) (b : Nat) (c : dL) : Prop := [Value.int .u8 (a.enc b)] = [Value.int .u8 (c.enc b)]
def Kr (a : jJ) (b : ZRe) : Prop := 64 * a.p = 64 * b.p/\∀ q : Nat,q < 64 * a.p->oh a.b q b.b
def gq : Prop := True/\True/\True/\True
def iC : Prop := True/\True/\True/\True/\gq
def aav (a : jJ) (b : ZRe) : Prop := a.f.epoch = b.f.epoch/\bY/\false = false/\(0 : Int) = 0/\true = true/\bY/\a.b.id = b.b.id/\a.b.ver = b.b.ver/\dQ a.ln b.ln/\a.b.cls = b.b.cls/\a.f.line = b.f.line/\a.f.cls = b.f.cls/\(1 : Int) = 1/\zC a b.f
def AQ (a : ZWr) (b : lN) : Prop := a.f.key = b.f.key/\a.f.value = b.f.value/\bY/\dO/\(4 : Int) = 4/\a.f.epoch = b.f.epoch/\bY/\false = false/\(0 : Int) = 0/\a.f.had = b.f.had/\a.f.old.key = b.f.old.key/\a.f.old.id = b.f.old.id/\a.f.old.ver = b.f.old.ver/\a.f.old.line = b.f.old.line/\a.f.old.cls = b.f.old.cls/\dQ a.ln b.ln/\a.c = b.c/\(0 : Int) = 0/\fH a.f b.f
def AU (a : lN) (b : ZWr) : Prop := a.f.key = b.f.key/\a.f.value = b.f.value/\bY/\dO/\(4 : Int) = 4/\a.f.epoch = b.f.epoch/\bY/\false = false/\(0 : Int) = 0/\a.f.had = b.f.had/\a.f.old.key = b.f.old.key/\a.f.old.id = b.f.old.id/\a.f.old.ver = b.f.old.ver/\a.f.old.line = b.f.old.line/\a.f.old.cls = b.f.old.cls/\dQ a.ln b.ln/\a.c = b.c/\(1 : Int) = 1/\fH a.f b.f
def AX (a : lN) (b : ZWr) : Prop := a.f.key = b.f.key/\a.f.value = b.f.value/\bY/\dO/\(5 : Int) = 4/\a.f.epoch = b.f.epoch/\bY/\false = false/\(0 : Int) = 0/\a.f.had = b.f.had/\a.f.old.key = b.f.old.key/\a.f.old.id = b.f.old.id/\a.f.old.ver = b.f.old.ver/\a.f.old.line = b.f.old.line/\a.f.old.cls = b.f.old.cls/\dQ a.ln b.ln/\a.c = b.c/\(0 : Int) = 1/\fH a.f b.f
def AY (a : lN) (b : ZWr) : Prop := a.f.key = b.f.key/\a.f.value = b.f.value/\bY/\dO/\(4 : Int) = 5/\a.f.epoch = b.f.epoch/\bY/\false = false/\(0 : Int) = 0/\a.f.had = b.f.had/\a.f.old.key = b.f.old.key/\a.f.old.id = b.f.old.id/\a.f.old.ver = b.f.old.ver/\a.f.old.line = b.f.old.line/\a.f.old.cls = b.f.old.cls/\dQ a.ln b.ln/\a.c = b.c/\(1 : Int) = 0/\fH a.f b.f
def mX (a : lN) (b : ZWr) : Prop := fP a.a/\dU/\ownM a.w.d'.os = ownM b.d'.os/\fQ a.a.p/\rH a.a
def rM (a : ZArn) (b : DevM) : Prop := dU/\ownM a.d.os = ownM b.os/\fQ a.p/\rH a
def eH (a : DevM) : Prop := ownM a.os = ownM a.os
def TK (a : ZArn) (b : ZLn) : Prop := fP a/\dU/\eH a.d/\fQ a.p/\ownM a.r.os = ownM a.r.os/\ownM (a.c.os 0) = ownM (a.c.os 0)/\ownM a.b.os = ownM a.b.os/\ownM tabE = ownM tabE/\fM/\ownM a.l.os = ownM b.os/\yI a
def TL (a : ZArn) (b : ZLn) : Prop := fU a/\dU/\eH a.d/\fQ a.p/\ownM a.r.os = ownM a.r.os/\ownM (a.c.os 0) = ownM (a.c.os 0)/\ownM a.b.os = ownM a.b.os/\ownM tabE = ownM tabE/\fM/\ownM a.l.os = ownM b.os/\True
def jB : Prop := 0 = 0/\gq
def lu (a : DevM) (b : DevM) : Prop := (0 = 0/\True/\True/\True/\iC)/\jB/\ownM a.os = ownM b.os/\True
def mY (a : lN) (b : ZWr) : Prop := fU a.a/\dU/\ownM a.w.d'.os = ownM b.d'.os/\FK a.a
def zD (a : ZFr) (b : ZFr) : Prop := a.piece = 0/\dO/\(0 : Int) = 0/\dO/\4 = b.code/\a.found = b.found/\emp = b.ans/\fF a.aep b.aep
def aaw (a : ZSt) (b : ZTk) (c : Prod Nat Nat) : Prop := (4 : Int) = 4/\a.f.key = b.f.key/\a.f.value = b.f.value/\bY/\dO/\(6 : Int) = 4/\a.f.epoch = b.f.epoch/\bY/\false = false/\(0 : Int) = 0/\a.f.had = b.f.had/\a.f.old.key = b.f.old.key/\a.f.old.id = b.f.old.id/\a.f.old.ver = b.f.old.ver/\a.f.old.line = b.f.old.line/\a.f.old.cls = b.f.old.cls/\a.f.line = 2 + (c.1 : Int) * 8 + (c.2 : Int) * spn (b.c (4 : Int))/\a.c (4 : Int) = b.c (4 : Int)/\zD a.f b.f
def aax (a : ZSt) (b : ZTk) (c : Prod Nat Nat) : Prop := (5 : Int) = 5/\a.f.key = b.f.key/\a.f.value = b.f.value/\bY/\dO/\(6 : Int) = 4/\a.f.epoch = b.f.epoch/\bY/\false = false/\(0 : Int) = 0/\a.f.had = b.f.had/\a.f.old.key = b.f.old.key/\a.f.old.id = b.f.old.id/\a.f.old.ver = b.f.old.ver/\a.f.old.line = b.f.old.line/\a.f.old.cls = b.f.old.cls/\a.f.line = 2 + (c.1 : Int) * 8 + (c.2 : Int) * spn (b.c (5 : Int))/\a.c (5 : Int) = b.c (5 : Int)/\zD a.f b.f
def zF (a : ZFr) (b : ZFr) : Prop := 0 = a.piece/\dO/\(0 : Int) = 0/\dO/\b.code = 4/\b.found = a.found/\b.ans = emp/\fF b.aep a.aep
def aay (a : ZSt) (b : ZTk) (c : Prod Nat Nat) : Prop := (4 : Int) = 4/\a.f.key = b.f.key/\a.f.value = b.f.value/\bY/\dO/\(4 : Int) = 6/\a.f.epoch = b.f.epoch/\bY/\false = false/\(0 : Int) = 0/\a.f.had = b.f.had/\a.f.old.key = b.f.old.key/\a.f.old.id = b.f.old.id/\a.f.old.ver = b.f.old.ver/\a.f.old.line = b.f.old.line/\a.f.old.cls = b.f.old.cls/\2 + (c.1 : Int) * 8 + (c.2 : Int) * spn (a.c (4 : Int)) = b.f.line/\a.c (4 : Int) = b.c (4 : Int)/\zF b.f a.f
def aaz (a : ZSt) (b : ZTk) (c : Prod Nat Nat) : Prop := (5 : Int) = 5/\a.f.key = b.f.key/\a.f.value = b.f.value/\bY/\dO/\(4 : Int) = 6/\a.f.epoch = b.f.epoch/\bY/\false = false/\(0 : Int) = 0/\a.f.had = b.f.had/\a.f.old.key = b.f.old.key/\a.f.old.id = b.f.old.id/\a.f.old.ver = b.f.old.ver/\a.f.old.line = b.f.old.line/\a.f.old.cls = b.f.old.cls/\2 + (c.1 : Int) * 8 + (c.2 : Int) * spn (a.c (5 : Int)) = b.f.line/\a.c (5 : Int) = b.c (5 : Int)/\zF b.f a.f
def zG (a : ZFr) (b : ZFr) : Prop := a.piece = b.piece/\dO/\(0 : Int) = 0/\dO/\(4 : Int) = 4/\a.found = b.found/\emp = emp/\fF a.aep b.aep
def aaA (a : ZSt) (b : ZTk) : Prop := (4 : Int) = 4/\a.f.key = b.f.key/\a.f.value = b.f.value/\bY/\dO/\(6 : Int) = 6/\a.f.epoch = b.f.epoch/\bY/\false = false/\(0 : Int) = 0/\a.f.had = b.f.had/\a.f.old.key = b.f.old.key/\a.f.old.id = b.f.old.id/\a.f.old.ver = b.f.old.ver/\a.f.old.line = b.f.old.line/\a.f.old.cls = b.f.old.cls/\a.f.line = b.f.line/\a.c (4 : Int) = b.c (4 : Int)/\zG a.f b.f
def aaB (a : ZSt) (b : ZTk) : Prop := (5 : Int) = 5/\a.f.key = b.f.key/\a.f.value = b.f.value/\bY/\dO/\(6 : Int) = 6/\a.f.epoch = b.f.epoch/\bY/\false = false/\(0 : Int) = 0/\a.f.had = b.f.had/\a.f.old.key = b.f.old.key/\a.f.old.id = b.f.old.id/\a.f.old.ver = b.f.old.ver/\a.f.old.line = b.f.old.line/\a.f.old.cls = b.f.old.cls/\a.f.line = b.f.line/\a.c (5 : Int) = b.c (5 : Int)/\zG a.f b.f
def rO (a : ZArn) (b : DevM) : Prop := dU/\ownM a.d.os = ownM b.os/\FK a
def aaC (a : ZSt) (b : ZTk) (c : Prod Nat Nat) (d : Prod Nat Nat) : Prop := (4 : Int) = 4/\a.f.key = b.f.key/\a.f.value = b.f.value/\bY/\dO/\(4 : Int) = 4/\a.f.epoch = b.f.epoch/\bY/\false = false/\(0 : Int) = 0/\a.f.had = b.f.had/\a.f.old.key = b.f.old.key/\a.f.old.id = b.f.old.id/\a.f.old.ver = b.f.old.ver/\a.f.old.line = b.f.old.line/\a.f.old.cls = b.f.old.cls/\2 + (c.1 : Int) * 8 + (c.2 : Int) * spn (a.c (4 : Int)) = 2 + (d.1 : Int) * 8 + (d.2 : Int) * spn (b.c (4 : Int))/\a.c (4 : Int) = b.c (4 : Int)/\(0 : Int) = 0/\fH a.f b.f
def aaD (a : ZSt) (b : ZTk) (c : Prod Nat Nat) (d : Prod Nat Nat) : Prop := (5 : Int) = 5/\a.f.key = b.f.key/\a.f.value = b.f.value/\bY/\dO/\(4 : Int) = 4/\a.f.epoch = b.f.epoch/\bY/\false = false/\(0 : Int) = 0/\a.f.had = b.f.had/\a.f.old.key = b.f.old.key/\a.f.old.id = b.f.old.id/\a.f.old.ver = b.f.old.ver/\a.f.old.line = b.f.old.line/\a.f.old.cls = b.f.old.cls/\2 + (c.1 : Int) * 8 + (c.2 : Int) * spn (a.c (5 : Int)) = 2 + (d.1 : Int) * 8 + (d.2 : Int) * spn (b.c (5 : Int))/\a.c (5 : Int) = b.c (5 : Int)/\(0 : Int) = 0/\fH a.f b.f
def aaE (a : ZWr) (b : lN) : Prop := 0 = 0/\dQ a.t b.t/\((4 : Int) = 4/\a.f.key = b.f.key/\a.f.value = b.f.value/\bY/\dO/\(4 : Int) = 4/\a.f.epoch = b.f.epoch/\bY/\false = false/\(0 : Int) = 0/\a.f.had = b.f.had/\a.f.old.key = b.f.old.key/\a.f.old.id = b.f.old.id/\a.f.old.ver = b.f.old.ver/\a.f.old.line = b.f.old.line/\a.f.old.cls = b.f.old.cls/\dQ a.ln b.ln/\a.c = b.c/\dQ a.p b.p/\fH a.f b.f)/\True
def aaF (a : ZRe) (b : jJ) : Prop := 0 = 0/\dQ a.t b.t/\((5 : Int) = 5/\a.f.key = b.f.key/\a.f.value = b.f.value/\bY/\dO/\(2 : Int) = 2/\a.f.epoch = b.f.epoch/\bY/\false = false/\(0 : Int) = 0/\true = true/\bY/\a.b.id = b.b.id/\a.b.ver = b.b.ver/\dQ a.ln b.ln/\a.b.cls = b.b.cls/\a.f.line = b.f.line/\a.f.cls = b.f.cls/\dQ a.p b.p/\(0 = 0/\64 * a.p = 64 * b.p)/\iq a.f b.f)/\True
def aaG (a : ZSt) (b : ZFi) : Prop := (5 : Int) = 5/\a.f.key = b.f.key/\a.f.value = b.f.value/\bY/\dO/\(2 : Int) = 2/\a.f.epoch = b.f.epoch/\bY/\false = false/\(0 : Int) = 0/\true = true/\a.a.l.head.key = b.l.head.key/\a.a.l.head.id = b.l.head.id/\a.a.l.head.ver = b.l.head.ver/\a.a.l.head.line = b.l.head.line/\a.a.l.head.cls = b.l.head.cls/\a.f.line = b.f.line/\a.f.cls = b.f.cls/\(0 : Int) = 0/\fH a.f b.f
def aaH (a : lN) (b : ZWr) : Prop := (4 : Int) = 4/\a.f.key = b.f.key/\a.f.value = b.f.value/\bY/\dO/\(4 : Int) = 4/\a.f.epoch = b.f.epoch/\bY/\false = false/\(0 : Int) = 0/\a.f.had = b.f.had/\a.f.old.key = b.f.old.key/\a.f.old.id = b.f.old.id/\a.f.old.ver = b.f.old.ver/\a.f.old.line = b.f.old.line/\a.f.old.cls = b.f.old.cls/\dQ a.ln b.ln/\a.c = b.c/\(a.p : Int) + 1 = (b.p : Int) + 1/\fH a.f b.f
def NH (a : jJ) (b : ZRe) : Prop := (5 : Int) = 5/\a.f.key = b.f.key/\a.f.value = b.f.value/\bY/\dO/\(2 : Int) = 2/\a.f.epoch = b.f.epoch/\bY/\false = false/\(0 : Int) = 0/\true = true/\bY/\a.b.id = b.b.id/\a.b.ver = b.b.ver/\dQ a.ln b.ln/\a.b.cls = b.b.cls/\a.f.line = b.f.line/\a.f.cls = b.f.cls/\(a.p : Int) + 1 = (b.p : Int) + 1/\(0 = 0/\64 * (a.p + 1) = 64 * (b.p + 1))/\iq a.f b.f
def NI (a : lN) (b : ZWr) : Prop := (4 : Int) = 4/\a.f.key = b.f.key/\a.f.value = b.f.value/\bY/\dO/\(5 : Int) = 4/\a.f.epoch = b.f.epoch/\bY/\false = false/\(0 : Int) = 0/\a.f.had = b.f.had/\a.f.old.key = b.f.old.key/\a.f.old.id = b.f.old.id/\a.f.old.ver = b.f.old.ver/\a.f.old.line = b.f.old.line/\a.f.old.cls = b.f.old.cls/\dQ a.ln b.ln/\a.c = b.c/\0 = (b.p : Int) + 1/\fH a.f b.f
def NJ (a : lN) (b : ZWr) : Prop := (4 : Int) = 4/\a.f.key = b.f.key/\a.f.value = b.f.value/\bY/\dO/\(4 : Int) = 5/\a.f.epoch = b.f.epoch/\bY/\false = false/\(0 : Int) = 0/\a.f.had = b.f.had/\a.f.old.key = b.f.old.key/\a.f.old.id = b.f.old.id/\a.f.old.ver = b.f.old.ver/\a.f.old.line = b.f.old.line/\a.f.old.cls = b.f.old.cls/\dQ a.ln b.ln/\a.c = b.c/\(a.p : Int) + 1 = 0/\fH a.f b.f
def NK (a : ZRe) (b : jJ) : Prop := 0 = 0/\dQ a.t b.t/\((5 : Int) = 5/\a.f.key = b.f.key/\a.f.value = b.f.value/\bY/\dO/\(2 : Int) = 2/\a.f.epoch = b.f.epoch/\bY/\false = false/\(0 : Int) = 0/\true = true/\bY/\a.b.id = b.b.id/\a.b.ver = b.b.ver/\dQ a.ln b.ln/\a.b.cls = b.b.cls/\a.f.line = b.f.line/\a.f.cls = b.f.cls/\(0 : Int) = 0/\fH a.f b.f)/\True
def NM (a : ZSt) (b : ZFr) : Prop := (5 : Int) = 5/\a.f.key = b.key/\a.f.value = b.value/\bY/\dO/\(2 : Int) = 6/\a.f.epoch = b.epoch/\bY/\false = false/\(0 : Int) = 0/\true = false/\a.a.l.head.key = ByteArray.mk #[]/\a.a.l.head.id = 0/\a.a.l.head.ver = 0/\a.a.l.head.line = 0/\a.a.l.head.cls = 0/\a.f.line = b.line/\a.f.cls = b.cls/\0 = b.piece/\fH a.f b
def NP (a : ZFr) (b : ZFi) : Prop := (5 : Int) = 5/\a.key = b.f.key/\a.value = b.f.value/\bY/\dO/\(6 : Int) = 2/\a.epoch = b.f.epoch/\bY/\false = false/\(0 : Int) = 0/\false = true/\ByteArray.mk #[] = b.l.head.key/\0 = b.l.head.id/\0 = b.l.head.ver/\0 = b.l.head.line/\0 = b.l.head.cls/\a.line = b.f.line/\a.cls = b.f.cls/\a.piece = 0/\fH a b.f
def NQ (a : jJ) (b : ZRe) : Prop := (5 : Int) = 5/\a.f.key = b.f.key/\a.f.value = b.f.value/\bY/\dO/\(2 : Int) = 2/\a.f.epoch = b.f.epoch/\bY/\false = false/\(0 : Int) = 0/\true = true/\bY/\a.b.id = b.b.id/\a.b.ver = b.b.ver/\dQ a.ln b.ln/\a.b.cls = b.b.cls/\a.f.line = b.f.line/\a.f.cls = b.f.cls/\(1 : Int) = 1/\(0 = 0/\64 = 64)/\iq a.f b.f
def kJ (a : ClkM) (b : ClkM) : Prop := ownM (a.os 0) = ownM (b.os 0)
def NR (a : ZFr) (b : ZFr) : Prop := (5 : Int) = 5/\a.key = b.key/\a.value = b.value/\bY/\dO/\(6 : Int) = 6/\a.epoch = b.epoch/\bY/\false = false/\(0 : Int) = 0/\false = false/\bY/\(0 : Int) = 0/\(0 : Int) = 0/\(0 : Int) = 0/\(0 : Int) = 0/\a.line = b.line/\a.cls = b.cls/\a.piece = b.piece/\fH a b
def rP (a : ZEn) (b : ZArn) : Prop := (True/\True/\0 = 0/\0 = 0/\iC)/\ownM a.r.os = ownM b.r.os/\kJ a.c b.c/\True
def gu (a : Int) : Prop := Hd ((1 : Int) ≠ spn a)
def zH (a : ZSt) : Prop := Hd (∀ i : Nat,i < a.a.p.n->a.a.p.cls i ≠ (-(1 : Int))/\a.a.p.full (a.c (4 : Int)) i)
def zI (a : ZSt) : Prop := Hd (∀ i : Nat,i < a.a.p.n->a.a.p.cls i ≠ (-(1 : Int))/\a.a.p.full (a.c (5 : Int)) i)
def rQ (a : ZFr) (b : ZFr) : Prop := a.key = b.key/\a.value = b.value/\bY/\dO/\(0 : Int) = 0/\jV a b
def rU (a : ZFr) (b : ZFr) : Prop := a.key = b.key/\a.value = b.value/\bY/\dO/\(3 : Int) = 3/\jV a b
def rV (a : ZFr) (b : ZFr) : Prop := a.key = b.key/\a.value = b.value/\bY/\dO/\(6 : Int) = 6/\jV a b
def rW (a : ZFr) (b : ZFr) : Prop := a.key = b.key/\a.value = b.value/\bY/\dO/\(7 : Int) = 7/\jV a b
def NS (a : ZRe) (b : jJ) : Prop := (0 = 0/\True/\True/\True/\iC)/\jB/\ownM a.d.os = ownM b.a.d.os/\(64 * a.p = 64 * b.p/\∀ q : Nat,q < 64 * a.p->oh a.b q b.b)/\True
def rX (a : jJ) : Prop := Hd ((a.p : Int) + 1 = spn a.b.cls/\0<=a.f.line)
def rY (a : jJ) : Prop := Hd ((a.p : Int) + 1 = spn a.b.cls/\a.f.line < 0)
def zJ (a : ZSt) (b : ZEn) : Prop := ownM (ZRd.os (a.a.r.put a.t a.a.r.now)) = ownM (ZRd.os (b.r.put b.t b.r.now))
def rZ (a : ZSt) (b : ZLv) : Prop := ownM (ZRd.os (a.a.r.put a.t (0 : Int))) = ownM (ZRd.os (b.r.put b.t (0 : Int)))
def su (a : ZRd) (b : ZRd) : Prop := (True/\True/\0 = 0/\True/\iC)/\ownM a.os = ownM b.os/\True
def sD (a : cO) (b : cO) : Prop := (True/\0 = 0/\True/\True/\iC)/\ownM a.os = ownM b.os/\True
def sF (a : ZEn) : Prop := Hd (a.r.ok/\a.c.ok/\a.t < a.r.t/\a.r.has a.t = 0)
def vJ (a : jJ) (b : ZRe) : Prop := fU a.a/\Kr a b/\rO a.a b.d
def vK (a : jJ) (b : ZRe) : Prop := fP a.a/\Kr a b/\rM a.a b.d
def FM (a : jJ) : Prop := Hd ((a.p : Int) + 1 ≠ spn a.b.cls)
def zK (a : jJ) : Prop := ∃ y_1 : Unit,FM a/\False
def sG (a : jJ) : Prop := Hd (1 = spn a.b.cls/\0<=a.f.line)
def sH (a : jJ) : Prop := Hd (1 = spn a.b.cls/\a.f.line < 0)
def NT (a : ZFi) (b : ZSt) : Prop := 0 = 0/\dQ a.t b.t/\((5 : Int) = 5/\a.f.key = b.f.key/\a.f.value = b.f.value/\bY/\dO/\(1 : Int) = 1/\jV a.f b.f)/\True
def sJ (a : ByteArray) : Prop := Hd ((4 : Int) = 4/\400 < a.size)
def sK (a : ByteArray) : Prop := Hd ((4 : Int) = 4->a.size<=400)
def sN (a : ByteArray) : Prop := Hd ((5 : Int) = 4/\400 < a.size)
def sO (a : ByteArray) : Prop := Hd ((5 : Int) = 4->a.size<=400)
def NU (a : ZSt) (b : ZEn) : Prop := fU a.a/\dU/\eH a.a.d/\fQ a.a.p/\ownM (ZRd.os (a.a.r.put a.t a.a.r.now)) = ownM b.r.os/\kJ a.a.c b.c/\lg a.a
def NV (a : ZSt) (b : ZEn) : Prop := fP a.a/\dU/\eH a.a.d/\fQ a.a.p/\ownM (ZRd.os (a.a.r.put a.t a.a.r.now)) = ownM b.r.os/\kJ a.a.c b.c/\uf a.a
def NW (a : ZArn) (b : ZEn) : Prop := fU a/\dU/\eH a.d/\fQ a.p/\ownM a.r.os = ownM (ZRd.os (b.r.put b.t b.r.now))/\kJ a.c b.c/\lg a
def NY (a : ZSt) (b : ZEn) : Prop := (4 : Int) = 4/\a.f.key = b.f.key/\a.f.value = b.f.value/\bY/\dO/\(3 : Int) = 3/\a.a.c.now = b.c.now/\rJ a.f b.f
def NZ (a : ZArn) (b : ZEn) : Prop := fP a/\dU/\eH a.d/\fQ a.p/\ownM a.r.os = ownM (ZRd.os (b.r.put b.t b.r.now))/\kJ a.c b.c/\uf a
def N7 (a : ZSt) (b : ZEn) : Prop := (5 : Int) = 5/\a.f.key = b.f.key/\a.f.value = b.f.value/\bY/\dO/\(1 : Int) = 1/\a.a.c.now = b.c.now/\rJ a.f b.f
def N8 (a : ZLn) (b : ZLn) : Prop := (True/\True/\True/\True/\True/\True/\True/\jB)/\ownM a.os = ownM b.os/\True
def N9 (a : ZArn) (b : ZEn) : Prop := fU a/\dU/\eH a.d/\fQ a.p/\ownM a.r.os = ownM b.r.os/\kJ a.c b.c/\lg a
def Oa (a : ZArn) (b : ZEn) : Prop := fP a/\dU/\eH a.d/\fQ a.p/\ownM a.r.os = ownM b.r.os/\kJ a.c b.c/\uf a
def sQ (a : ZTk) : Prop := Hd (a.p.ok/\a.f.value.size<=400)
def Ob (a : jJ) (b : ZRe) : Prop := (5 : Int) = 5/\a.f.key = b.f.key/\a.f.value = b.f.value/\bY/\dO/\(3 : Int) = 2/\aav a b
def Oc (a : jJ) (b : ZRe) : Prop := (5 : Int) = 5/\a.f.key = b.f.key/\a.f.value = b.f.value/\bY/\dO/\(5 : Int) = 2/\aav a b
def Oe (a : jJ) (b : ZRe) : Prop := (5 : Int) = 5/\a.f.key = b.f.key/\a.f.value = b.f.value/\bY/\dO/\(3 : Int) = 3/\J9 a b
def Og (a : jJ) (b : ZRe) : Prop := (5 : Int) = 5/\a.f.key = b.f.key/\a.f.value = b.f.value/\bY/\dO/\(5 : Int) = 3/\J9 a b
def Oh (a : jJ) (b : ZRe) : Prop := (5 : Int) = 5/\a.f.key = b.f.key/\a.f.value = b.f.value/\bY/\dO/\(3 : Int) = 5/\J9 a b
def Oi (a : jJ) (b : ZRe) : Prop := (5 : Int) = 5/\a.f.key = b.f.key/\a.f.value = b.f.value/\bY/\dO/\(5 : Int) = 5/\J9 a b
def Oj (a : jJ) (b : ZRe) : Prop := (5 : Int) = 5/\a.f.key = b.f.key/\a.f.value = b.f.value/\bY/\dO/\(3 : Int) = 2/\aau a b
def Ol (a : jJ) (b : ZRe) : Prop := (5 : Int) = 5/\a.f.key = b.f.key/\a.f.value = b.f.value/\bY/\dO/\(5 : Int) = 2/\aau a b
def Om (a : jJ) (b : ZRe) : Prop := (5 : Int) = 5/\a.f.key = b.f.key/\a.f.value = b.f.value/\bY/\dO/\(3 : Int) = 3/\J8 a b
def Oo (a : jJ) (b : ZRe) : Prop := (5 : Int) = 5/\a.f.key = b.f.key/\a.f.value = b.f.value/\bY/\dO/\(5 : Int) = 3/\J8 a b
def Oq (a : jJ) (b : ZRe) : Prop := (5 : Int) = 5/\a.f.key = b.f.key/\a.f.value = b.f.value/\bY/\dO/\(3 : Int) = 5/\J8 a b
def Ot (a : jJ) (b : ZRe) : Prop := (5 : Int) = 5/\a.f.key = b.f.key/\a.f.value = b.f.value/\bY/\dO/\(5 : Int) = 5/\J8 a b
def Ou (a : ZSt) (b : ZFr) : Prop := (4 : Int) = 4/\a.f.key = b.key/\a.f.value = b.value/\bY/\dO/\(3 : Int) = 7/\Ko a b
def Ov (a : ZFr) (b : ZEn) : Prop := (4 : Int) = 4/\a.key = b.f.key/\a.value = b.f.value/\bY/\dO/\(7 : Int) = 3/\Kq a b
def Ox (a : ZSt) (b : ZFr) : Prop := (5 : Int) = 5/\a.f.key = b.key/\a.f.value = b.value/\bY/\dO/\(1 : Int) = 7/\Ko a b
def Oy (a : ZFr) (b : ZEn) : Prop := (5 : Int) = 5/\a.key = b.f.key/\a.value = b.f.value/\bY/\dO/\(7 : Int) = 1/\Kq a b
def Oz (a : ZSt) (b : ZEn) : Prop := fU a.a/\dU/\eH a.a.d/\fQ a.a.p/\zJ a b/\kJ a.a.c b.c/\lg a.a
def OA (a : ZSt) (b : ZEn) : Prop := fP a.a/\dU/\eH a.a.d/\fQ a.a.p/\zJ a b/\kJ a.a.c b.c/\uf a.a
def OB (a : ZTk) : Prop := Hd (∀ i : Nat,i < a.p.n->a.p.cls i ≠ (-(1 : Int))/\a.p.full (a.c (4 : Int)) i)
def OC (a : ZTk) : Prop := Hd (∀ i : Nat,i < a.p.n->a.p.cls i ≠ (-(1 : Int))/\a.p.full (a.c (5 : Int)) i)
def zL (x : ZSt) : Prop :=
 ∃ x_1 : ZEn,sF x_1/\(0 = 0/\dQ x_1.t x.t/\((4 : Int) = 4/\rQ x_1.f x.f)/\True)/\rP x_1 x.a/\(∀ y : Unit,sJ x_1.f.value->(∃ y_1 : Unit,sJ x.f.value/\((4 : Int) = 4/\AP x.f x_1.f)/\N9 x.a x_1) ∨ ∃ y_1 : Unit,sK x.f.value/\Ou x x_1.f/\NU x x_1)/\∀ y : Unit,sK x_1.f.value->(∃ y_1 : Unit,sJ x.f.value/\Ov x.f x_1/\NW x.a x_1) ∨ ∃ y_1 : Unit,sK x.f.value/\NY x x_1/\Oz x x_1
theorem OD (x : ZSt) : zL x = ctrT (qp 4) ((iQ 4).N.args x) (hO 10 (dN 1 ((iQ 4).N.l x))) (fun v h' => dA 1 x v h' (iQ 4).N.outs) := by kernel_rfl
def zM (x : ZSt) : Prop :=
 ∃ x_1 : ZEn,sF x_1/\(0 = 0/\dQ x_1.t x.t/\((4 : Int) = 4/\rQ x_1.f x.f)/\True)/\rP x_1 x.a/\(∀ y : Unit,sJ x_1.f.value->(∃ y_1 : Unit,sJ x.f.value/\((4 : Int) = 4/\AP x.f x_1.f)/\Oa x.a x_1) ∨ ∃ y_1 : Unit,sK x.f.value/\Ou x x_1.f/\NV x x_1)/\∀ y : Unit,sK x_1.f.value->(∃ y_1 : Unit,sJ x.f.value/\Ov x.f x_1/\NZ x.a x_1) ∨ ∃ y_1 : Unit,sK x.f.value/\NY x x_1/\OA x x_1
theorem OG (x : ZSt) : zM x = ctrT (qp 4) ((iQ 4).P.args x) (hO 11 (dN 1 ((iQ 4).P.l x))) (fun v h' => dA 1 x v h' (iQ 4).P.outs) := by kernel_rfl
def zN (x : ZSt) : Prop :=
 ∃ x_1 : ZEn,sF x_1/\(0 = 0/\dQ x_1.t x.t/\((5 : Int) = 5/\rQ x_1.f x.f)/\True)/\rP x_1 x.a/\(∀ y : Unit,sN x_1.f.value->(∃ y_1 : Unit,sN x.f.value/\((5 : Int) = 5/\AP x.f x_1.f)/\N9 x.a x_1) ∨ ∃ y_1 : Unit,sO x.f.value/\Ox x x_1.f/\NU x x_1)/\∀ y : Unit,sO x_1.f.value->(∃ y_1 : Unit,sN x.f.value/\Oy x.f x_1/\NW x.a x_1) ∨ ∃ y_1 : Unit,sO x.f.value/\N7 x x_1/\Oz x x_1
theorem OH (x : ZSt) : zN x = ctrT (qp 5) ((iQ 5).N.args x) (hO 10 (dN 1 ((iQ 5).N.l x))) (fun v h' => dA 1 x v h' (iQ 5).N.outs) := by kernel_rfl
def zO (x : ZSt) : Prop :=
 ∃ x_1 : ZEn,sF x_1/\(0 = 0/\dQ x_1.t x.t/\((5 : Int) = 5/\rQ x_1.f x.f)/\True)/\rP x_1 x.a/\(∀ y : Unit,sN x_1.f.value->(∃ y_1 : Unit,sN x.f.value/\((5 : Int) = 5/\AP x.f x_1.f)/\Oa x.a x_1) ∨ ∃ y_1 : Unit,sO x.f.value/\Ox x x_1.f/\NV x x_1)/\∀ y : Unit,sO x_1.f.value->(∃ y_1 : Unit,sN x.f.value/\Oy x.f x_1/\NZ x.a x_1) ∨ ∃ y_1 : Unit,sO x.f.value/\N7 x x_1/\OA x x_1
theorem OI (x : ZSt) : zO x = ctrT (qp 5) ((iQ 5).P.args x) (hO 11 (dN 1 ((iQ 5).P.l x))) (fun v h' => dA 1 x v h' (iQ 5).P.outs) := by kernel_rfl
def OJ (x : ZSt) : Prop :=
 ∃ x_1 : ZFi,Hd (x_1.l.ok/\x_1.f.line = (-(1 : Int)))/\NT x_1 x/\N8 x_1.l x.a.l/\(∀ y : Unit,Hd (x_1.l.n = 0)->(∃ y_1 : Unit,Hd (x.a.l.n = 0)/\NR x.f x_1.f/\TL x.a x_1.l) ∨ ∃ y_1 : Unit,Hd (x.a.l.n ≠ 0)/\NM x x_1.f/\TL x.a x_1.l)/\∀ y : Unit,Hd (x_1.l.n ≠ 0)->(∃ y_1 : Unit,Hd (x.a.l.n = 0)/\NP x.f x_1/\TL x.a x_1.l) ∨ ∃ y_1 : Unit,Hd (x.a.l.n ≠ 0)/\aaG x x_1/\TL x.a x_1.l
theorem XI (x : ZSt) : OJ x = ctrT Xx (zy.N.args x) (hO 10 (dN 1 (zy.N.l x))) (fun v h' => dA 1 x v h' zy.N.outs) := by kernel_rfl
def OL (x : ZSt) : Prop :=
 ∃ x_1 : ZFi,Hd (x_1.l.ok/\x_1.f.line = (-(1 : Int)))/\NT x_1 x/\N8 x_1.l x.a.l/\(∀ y : Unit,Hd (x_1.l.n = 0)->(∃ y_1 : Unit,Hd (x.a.l.n = 0)/\NR x.f x_1.f/\TK x.a x_1.l) ∨ ∃ y_1 : Unit,Hd (x.a.l.n ≠ 0)/\NM x x_1.f/\TK x.a x_1.l)/\∀ y : Unit,Hd (x_1.l.n ≠ 0)->(∃ y_1 : Unit,Hd (x.a.l.n = 0)/\NP x.f x_1/\TK x.a x_1.l) ∨ ∃ y_1 : Unit,Hd (x.a.l.n ≠ 0)/\aaG x x_1/\TK x.a x_1.l
theorem XJ (x : ZSt) : OL x = ctrT Xx (zy.P.args x) (hO 11 (dN 1 (zy.P.l x))) (fun v h' => dA 1 x v h' zy.P.outs) := by kernel_rfl
def FN (x : ZSt) : Prop :=
 ∃ x_1 : ZTk,sQ x_1/\(0 = 0/\dQ x_1.t x.t/\((4 : Int) = 4/\rU x_1.f x.f)/\True)/\sD x_1.p x.a.p/\(∀ y : Unit,OB x_1->(∃ y_1 : Unit,zH x/\aaA x x_1/\fU x.a/\dU/\eH x.a.d/\ownM x.a.p.os = ownM x_1.p.os/\lq x.a) ∨ ∃ y_1 : Prod Nat Nat,Hd (x.a.p.takes (x.c (4 : Int)) y_1.1 y_1.2)/\aay x x_1 y_1/\fU x.a/\dU/\eH x.a.d/\ownM (cO.os (x.a.p.take (x.c (4 : Int)) y_1.1 y_1.2)) = ownM x_1.p.os/\lq x.a)/\∀ y : Prod Nat Nat,Hd (x_1.p.takes (x_1.c (4 : Int)) y.1 y.2)->(∃ y_1 : Unit,zH x/\aaw x x_1 y/\fU x.a/\dU/\eH x.a.d/\ownM x.a.p.os = ownM (cO.os (x_1.p.take (x_1.c (4 : Int)) y.1 y.2))/\lq x.a) ∨ ∃ y_1 : Prod Nat Nat,Hd (x.a.p.takes (x.c (4 : Int)) y_1.1 y_1.2)/\aaC x x_1 y_1 y/\fU x.a/\dU/\eH x.a.d/\ownM (cO.os (x.a.p.take (x.c (4 : Int)) y_1.1 y_1.2)) = ownM (cO.os (x_1.p.take (x_1.c (4 : Int)) y.1 y.2))/\lq x.a
theorem TM (x : ZSt) : FN x = ctrT (BM 4) ((lM 4).N.args x) (hO 10 (dN 1 ((lM 4).N.l x))) (fun v h' => dA 1 x v h' (lM 4).N.outs) := by kernel_rfl
def FP (x : ZSt) : Prop :=
 ∃ x_1 : ZTk,sQ x_1/\(0 = 0/\dQ x_1.t x.t/\((4 : Int) = 4/\rU x_1.f x.f)/\True)/\sD x_1.p x.a.p/\(∀ y : Unit,OB x_1->(∃ y_1 : Unit,zH x/\aaA x x_1/\fP x.a/\dU/\eH x.a.d/\ownM x.a.p.os = ownM x_1.p.os/\rH x.a) ∨ ∃ y_1 : Prod Nat Nat,Hd (x.a.p.takes (x.c (4 : Int)) y_1.1 y_1.2)/\aay x x_1 y_1/\fP x.a/\dU/\eH x.a.d/\ownM (cO.os (x.a.p.take (x.c (4 : Int)) y_1.1 y_1.2)) = ownM x_1.p.os/\rH x.a)/\∀ y : Prod Nat Nat,Hd (x_1.p.takes (x_1.c (4 : Int)) y.1 y.2)->(∃ y_1 : Unit,zH x/\aaw x x_1 y/\fP x.a/\dU/\eH x.a.d/\ownM x.a.p.os = ownM (cO.os (x_1.p.take (x_1.c (4 : Int)) y.1 y.2))/\rH x.a) ∨ ∃ y_1 : Prod Nat Nat,Hd (x.a.p.takes (x.c (4 : Int)) y_1.1 y_1.2)/\aaC x x_1 y_1 y/\fP x.a/\dU/\eH x.a.d/\ownM (cO.os (x.a.p.take (x.c (4 : Int)) y_1.1 y_1.2)) = ownM (cO.os (x_1.p.take (x_1.c (4 : Int)) y.1 y.2))/\rH x.a
theorem TN (x : ZSt) : FP x = ctrT (BM 4) ((lM 4).P.args x) (hO 11 (dN 1 ((lM 4).P.l x))) (fun v h' => dA 1 x v h' (lM 4).P.outs) := by kernel_rfl
def FT (x : ZSt) : Prop :=
 ∃ x_1 : ZTk,sQ x_1/\(0 = 0/\dQ x_1.t x.t/\((5 : Int) = 5/\rU x_1.f x.f)/\True)/\sD x_1.p x.a.p/\(∀ y : Unit,OC x_1->(∃ y_1 : Unit,zI x/\aaB x x_1/\fU x.a/\dU/\eH x.a.d/\ownM x.a.p.os = ownM x_1.p.os/\lq x.a) ∨ ∃ y_1 : Prod Nat Nat,Hd (x.a.p.takes (x.c (5 : Int)) y_1.1 y_1.2)/\aaz x x_1 y_1/\fU x.a/\dU/\eH x.a.d/\ownM (cO.os (x.a.p.take (x.c (5 : Int)) y_1.1 y_1.2)) = ownM x_1.p.os/\lq x.a)/\∀ y : Prod Nat Nat,Hd (x_1.p.takes (x_1.c (5 : Int)) y.1 y.2)->(∃ y_1 : Unit,zI x/\aax x x_1 y/\fU x.a/\dU/\eH x.a.d/\ownM x.a.p.os = ownM (cO.os (x_1.p.take (x_1.c (5 : Int)) y.1 y.2))/\lq x.a) ∨ ∃ y_1 : Prod Nat Nat,Hd (x.a.p.takes (x.c (5 : Int)) y_1.1 y_1.2)/\aaD x x_1 y_1 y/\fU x.a/\dU/\eH x.a.d/\ownM (cO.os (x.a.p.take (x.c (5 : Int)) y_1.1 y_1.2)) = ownM (cO.os (x_1.p.take (x_1.c (5 : Int)) y.1 y.2))/\lq x.a
theorem TP (x : ZSt) : FT x = ctrT (BM 5) ((lM 5).N.args x) (hO 10 (dN 1 ((lM 5).N.l x))) (fun v h' => dA 1 x v h' (lM 5).N.outs) := by kernel_rfl
def FU (x : ZSt) : Prop :=
 ∃ x_1 : ZTk,sQ x_1/\(0 = 0/\dQ x_1.t x.t/\((5 : Int) = 5/\rU x_1.f x.f)/\True)/\sD x_1.p x.a.p/\(∀ y : Unit,OC x_1->(∃ y_1 : Unit,zI x/\aaB x x_1/\fP x.a/\dU/\eH x.a.d/\ownM x.a.p.os = ownM x_1.p.os/\rH x.a) ∨ ∃ y_1 : Prod Nat Nat,Hd (x.a.p.takes (x.c (5 : Int)) y_1.1 y_1.2)/\aaz x x_1 y_1/\fP x.a/\dU/\eH x.a.d/\ownM (cO.os (x.a.p.take (x.c (5 : Int)) y_1.1 y_1.2)) = ownM x_1.p.os/\rH x.a)/\∀ y : Prod Nat Nat,Hd (x_1.p.takes (x_1.c (5 : Int)) y.1 y.2)->(∃ y_1 : Unit,zI x/\aax x x_1 y/\fP x.a/\dU/\eH x.a.d/\ownM x.a.p.os = ownM (cO.os (x_1.p.take (x_1.c (5 : Int)) y.1 y.2))/\rH x.a) ∨ ∃ y_1 : Prod Nat Nat,Hd (x.a.p.takes (x.c (5 : Int)) y_1.1 y_1.2)/\aaD x x_1 y_1 y/\fP x.a/\dU/\eH x.a.d/\ownM (cO.os (x.a.p.take (x.c (5 : Int)) y_1.1 y_1.2)) = ownM (cO.os (x_1.p.take (x_1.c (5 : Int)) y.1 y.2))/\rH x.a
theorem TQ (x : ZSt) : FU x = ctrT (BM 5) ((lM 5).P.args x) (hO 11 (dN 1 ((lM 5).P.l x))) (fun v h' => dA 1 x v h' (lM 5).P.outs) := by kernel_rfl
def zQ (x : ZSt) : Prop :=
 ∃ x_1 : ZLv,Hd (x_1.r.ok/\x_1.t < x_1.r.t)/\(0 = 0/\dQ x_1.t x.t/\((4 : Int) = 4/\rV x_1.f x.f)/\True)/\su x_1.r x.a.r/\∀ y : Unit,True->∃ y_1 : Unit,True/\((4 : Int) = 4/\rW x.f x_1.f)/\fU x.a/\dU/\eH x.a.d/\fQ x.a.p/\rZ x x_1/\qB x.a
theorem OM (x : ZSt) : zQ x = ctrT (qw 4) ((iR 4).N.args x) (hO 10 (dN 1 ((iR 4).N.l x))) (fun v h' => dA 1 x v h' (iR 4).N.outs) := by kernel_rfl
def zS (x : ZSt) : Prop :=
 ∃ x_1 : ZLv,Hd (x_1.r.ok/\x_1.t < x_1.r.t)/\(0 = 0/\dQ x_1.t x.t/\((4 : Int) = 4/\rV x_1.f x.f)/\True)/\su x_1.r x.a.r/\∀ y : Unit,True->∃ y_1 : Unit,True/\((4 : Int) = 4/\rW x.f x_1.f)/\fP x.a/\dU/\eH x.a.d/\fQ x.a.p/\rZ x x_1/\BN x.a
theorem OO (x : ZSt) : zS x = ctrT (qw 4) ((iR 4).P.args x) (hO 11 (dN 1 ((iR 4).P.l x))) (fun v h' => dA 1 x v h' (iR 4).P.outs) := by kernel_rfl
def zT (x : ZSt) : Prop :=
 ∃ x_1 : ZLv,Hd (x_1.r.ok/\x_1.t < x_1.r.t)/\(0 = 0/\dQ x_1.t x.t/\((5 : Int) = 5/\rV x_1.f x.f)/\True)/\su x_1.r x.a.r/\∀ y : Unit,True->∃ y_1 : Unit,True/\((5 : Int) = 5/\rW x.f x_1.f)/\fU x.a/\dU/\eH x.a.d/\fQ x.a.p/\rZ x x_1/\qB x.a
theorem OQ (x : ZSt) : zT x = ctrT (qw 5) ((iR 5).N.args x) (hO 10 (dN 1 ((iR 5).N.l x))) (fun v h' => dA 1 x v h' (iR 5).N.outs) := by kernel_rfl
def zU (x : ZSt) : Prop :=
 ∃ x_1 : ZLv,Hd (x_1.r.ok/\x_1.t < x_1.r.t)/\(0 = 0/\dQ x_1.t x.t/\((5 : Int) = 5/\rV x_1.f x.f)/\True)/\su x_1.r x.a.r/\∀ y : Unit,True->∃ y_1 : Unit,True/\((5 : Int) = 5/\rW x.f x_1.f)/\fP x.a/\dU/\eH x.a.d/\fQ x.a.p/\rZ x x_1/\BN x.a
theorem OT (x : ZSt) : zU x = ctrT (qw 5) ((iR 5).P.args x) (hO 11 (dN 1 ((iR 5).P.l x))) (fun v h' => dA 1 x v h' (iR 5).P.outs) := by kernel_rfl
def vM (x : lN) : Prop :=
 ∃ x_1 : ZWr,Hd (x_1.ok/\x_1.p = 0)/\(0 = 0/\dQ x_1.t x.t/\((4 : Int) = 4/\AQ x_1 x)/\True)/\lu x_1.d x.a.d/\(∀ y : Unit,gu x_1.c->(∃ y_1 : Unit,gu x.c/\((4 : Int) = 4/\AU x x_1)/\mY x x_1) ∨ ∃ y_1 : Unit,Hd (1 = spn x.c)/\((4 : Int) = 4/\AX x x_1)/\mY x x_1)/\∀ y : Unit,Hd (1 = spn x_1.c)->(∃ y_1 : Unit,gu x.c/\((4 : Int) = 4/\AY x x_1)/\mY x x_1) ∨ ∃ y_1 : Unit,Hd (1 = spn x.c)/\((4 : Int) = 4/\qC x x_1)/\mY x x_1
theorem Hy (x : lN) : vM x = ctrT (kR 4) ((gK 4).N.args x) (hO 10 (dN 1 ((gK 4).N.l x))) (fun v h' => dA 1 x v h' (gK 4).N.outs) := by kernel_rfl
def vO (x : lN) : Prop :=
 ∃ x_1 : ZWr,Hd (x_1.ok/\x_1.p = 0)/\(0 = 0/\dQ x_1.t x.t/\((4 : Int) = 4/\AQ x_1 x)/\True)/\lu x_1.d x.a.d/\(∀ y : Unit,gu x_1.c->(∃ y_1 : Unit,gu x.c/\((4 : Int) = 4/\AU x x_1)/\mX x x_1) ∨ ∃ y_1 : Unit,Hd (1 = spn x.c)/\((4 : Int) = 4/\AX x x_1)/\mX x x_1)/\∀ y : Unit,Hd (1 = spn x_1.c)->(∃ y_1 : Unit,gu x.c/\((4 : Int) = 4/\AY x x_1)/\mX x x_1) ∨ ∃ y_1 : Unit,Hd (1 = spn x.c)/\((4 : Int) = 4/\qC x x_1)/\mX x x_1
theorem Hz (x : lN) : vO x = ctrT (kR 4) ((gK 4).P.args x) (hO 11 (dN 1 ((gK 4).P.l x))) (fun v h' => dA 1 x v h' (gK 4).P.outs) := by kernel_rfl
def vP (x : lN) : Prop :=
 ∃ x_1 : ZWr,Hd (x_1.ok/\x_1.p = 0)/\(0 = 0/\dQ x_1.t x.t/\((5 : Int) = 5/\AQ x_1 x)/\True)/\lu x_1.d x.a.d/\(∀ y : Unit,gu x_1.c->(∃ y_1 : Unit,gu x.c/\((5 : Int) = 5/\AU x x_1)/\mY x x_1) ∨ ∃ y_1 : Unit,Hd (1 = spn x.c)/\((5 : Int) = 5/\AX x x_1)/\mY x x_1)/\∀ y : Unit,Hd (1 = spn x_1.c)->(∃ y_1 : Unit,gu x.c/\((5 : Int) = 5/\AY x x_1)/\mY x x_1) ∨ ∃ y_1 : Unit,Hd (1 = spn x.c)/\((5 : Int) = 5/\qC x x_1)/\mY x x_1
theorem HY (x : lN) : vP x = ctrT (kR 5) ((gK 5).N.args x) (hO 10 (dN 1 ((gK 5).N.l x))) (fun v h' => dA 1 x v h' (gK 5).N.outs) := by kernel_rfl
def vS (x : lN) : Prop :=
 ∃ x_1 : ZWr,Hd (x_1.ok/\x_1.p = 0)/\(0 = 0/\dQ x_1.t x.t/\((5 : Int) = 5/\AQ x_1 x)/\True)/\lu x_1.d x.a.d/\(∀ y : Unit,gu x_1.c->(∃ y_1 : Unit,gu x.c/\((5 : Int) = 5/\AU x x_1)/\mX x x_1) ∨ ∃ y_1 : Unit,Hd (1 = spn x.c)/\((5 : Int) = 5/\AX x x_1)/\mX x x_1)/\∀ y : Unit,Hd (1 = spn x_1.c)->(∃ y_1 : Unit,gu x.c/\((5 : Int) = 5/\AY x x_1)/\mX x x_1) ∨ ∃ y_1 : Unit,Hd (1 = spn x.c)/\((5 : Int) = 5/\qC x x_1)/\mX x x_1
theorem H6 (x : lN) : vS x = ctrT (kR 5) ((gK 5).P.args x) (hO 11 (dN 1 ((gK 5).P.l x))) (fun v h' => dA 1 x v h' (gK 5).P.outs) := by kernel_rfl
def vT (x : lN) : Prop :=
 ∃ x_1 : ZWr,Hd (x_1.ok/\x_1.p ≠ 0)/\aaE x_1 x/\lu x_1.d x.a.d/\(∀ y : Unit,Hd ((x_1.p : Int) + 1 ≠ spn x_1.c)->(∃ y_1 : Unit,Hd ((x.p : Int) + 1 ≠ spn x.c)/\aaH x x_1/\mY x x_1) ∨ ∃ y_1 : Unit,Hd ((x.p : Int) + 1 = spn x.c)/\NI x x_1/\mY x x_1)/\∀ y : Unit,Hd ((x_1.p : Int) + 1 = spn x_1.c)->(∃ y_1 : Unit,Hd ((x.p : Int) + 1 ≠ spn x.c)/\NJ x x_1/\mY x x_1) ∨ ∃ y_1 : Unit,Hd ((x.p : Int) + 1 = spn x.c)/\((4 : Int) = 4/\qC x x_1)/\mY x x_1
theorem H7 (x : lN) : vT x = ctrT zx (mW.N.args x) (hO 10 (dN 1 (mW.N.l x))) (fun v h' => dA 1 x v h' mW.N.outs) := by kernel_rfl
def vU (x : lN) : Prop :=
 ∃ x_1 : ZWr,Hd (x_1.ok/\x_1.p ≠ 0)/\aaE x_1 x/\lu x_1.d x.a.d/\(∀ y : Unit,Hd ((x_1.p : Int) + 1 ≠ spn x_1.c)->(∃ y_1 : Unit,Hd ((x.p : Int) + 1 ≠ spn x.c)/\aaH x x_1/\mX x x_1) ∨ ∃ y_1 : Unit,Hd ((x.p : Int) + 1 = spn x.c)/\NI x x_1/\mX x x_1)/\∀ y : Unit,Hd ((x_1.p : Int) + 1 = spn x_1.c)->(∃ y_1 : Unit,Hd ((x.p : Int) + 1 ≠ spn x.c)/\NJ x x_1/\mX x x_1) ∨ ∃ y_1 : Unit,Hd ((x.p : Int) + 1 = spn x.c)/\((4 : Int) = 4/\qC x x_1)/\mX x x_1
theorem H8 (x : lN) : vU x = ctrT zx (mW.P.args x) (hO 11 (dN 1 (mW.P.l x))) (fun v h' => dA 1 x v h' mW.P.outs) := by kernel_rfl
def FV (x : jJ) : Prop :=
 ∃ x_1 : ZRe,Hd (x_1.ok/\x_1.p = 0)/\NK x_1 x/\lu x_1.d x.a.d/\(∀ y : Unit,gu x_1.b.cls->(∃ y_1 : Unit,gu x.b.cls/\NQ x x_1/\fU x.a/\(64 = 64/\∀ q : Nat,q < 64->oh x.b q x_1.b)/\rO x.a x_1.d) ∨ (∃ y_1 : Unit,sH x/\Ob x x_1/\fU x.a/\rO x.a x_1.d) ∨ ∃ y_1 : Unit,sG x/\Oc x x_1/\fU x.a/\rO x.a x_1.d)/\(∀ y : Unit,Hd (1 = spn x_1.b.cls/\x_1.f.line < 0)->(∃ y_1 : Unit,gu x.b.cls/\False) ∨ (∃ y_1 : Unit,sH x/\Oe x x_1/\fU x.a/\rO x.a x_1.d) ∨ ∃ y_1 : Unit,sG x/\Og x x_1/\fU x.a/\rO x.a x_1.d)/\∀ y : Unit,Hd (1 = spn x_1.b.cls/\0<=x_1.f.line)->(∃ y_1 : Unit,gu x.b.cls/\False) ∨ (∃ y_1 : Unit,sH x/\Oh x x_1/\fU x.a/\rO x.a x_1.d) ∨ ∃ y_1 : Unit,sG x/\Oi x x_1/\fU x.a/\rO x.a x_1.d
theorem TR (x : jJ) : FV x = ctrT JK (qy.N.args x) (hO 10 (dN 1 (qy.N.l x))) (fun v h' => dA 1 x v h' qy.N.outs) := by kernel_rfl
def FW (x : jJ) : Prop :=
 ∃ x_1 : ZRe,Hd (x_1.ok/\x_1.p = 0)/\NK x_1 x/\lu x_1.d x.a.d/\(∀ y : Unit,gu x_1.b.cls->(∃ y_1 : Unit,gu x.b.cls/\NQ x x_1/\fP x.a/\(64 = 64/\∀ q : Nat,q < 64->oh x.b q x_1.b)/\rM x.a x_1.d) ∨ (∃ y_1 : Unit,sH x/\Ob x x_1/\fP x.a/\rM x.a x_1.d) ∨ ∃ y_1 : Unit,sG x/\Oc x x_1/\fP x.a/\rM x.a x_1.d)/\(∀ y : Unit,Hd (1 = spn x_1.b.cls/\x_1.f.line < 0)->(∃ y_1 : Unit,gu x.b.cls/\False) ∨ (∃ y_1 : Unit,sH x/\Oe x x_1/\fP x.a/\rM x.a x_1.d) ∨ ∃ y_1 : Unit,sG x/\Og x x_1/\fP x.a/\rM x.a x_1.d)/\∀ y : Unit,Hd (1 = spn x_1.b.cls/\0<=x_1.f.line)->(∃ y_1 : Unit,gu x.b.cls/\False) ∨ (∃ y_1 : Unit,sH x/\Oh x x_1/\fP x.a/\rM x.a x_1.d) ∨ ∃ y_1 : Unit,sG x/\Oi x x_1/\fP x.a/\rM x.a x_1.d
theorem TS (x : jJ) : FW x = ctrT JK (qy.P.args x) (hO 11 (dN 1 (qy.P.l x))) (fun v h' => dA 1 x v h' qy.P.outs) := by kernel_rfl
def FX (x : jJ) : Prop :=
 ∃ x_1 : ZRe,Hd (x_1.ok/\x_1.p ≠ 0)/\aaF x_1 x/\NS x_1 x/\(∀ y : Unit,Hd ((x_1.p : Int) + 1 ≠ spn x_1.b.cls)->(∃ y_1 : Unit,FM x/\NH x x_1/\fU x.a/\Kr x x_1/\(64 * (x.p + 1) = 64 * (x_1.p + 1)/\∀ q : Nat,q < 64 * (x.p + 1)->oh x.b q x_1.b)/\rO x.a x_1.d) ∨ (∃ y_1 : Unit,rY x/\Oj x x_1/\vJ x x_1) ∨ ∃ y_1 : Unit,rX x/\Ol x x_1/\vJ x x_1)/\(∀ y : Unit,Hd ((x_1.p : Int) + 1 = spn x_1.b.cls/\x_1.f.line < 0)->zK x ∨ (∃ y_1 : Unit,rY x/\Om x x_1/\vJ x x_1) ∨ ∃ y_1 : Unit,rX x/\Oo x x_1/\vJ x x_1)/\∀ y : Unit,Hd ((x_1.p : Int) + 1 = spn x_1.b.cls/\0<=x_1.f.line)->zK x ∨ (∃ y_1 : Unit,rY x/\Oq x x_1/\vJ x x_1) ∨ ∃ y_1 : Unit,rX x/\Ot x x_1/\vJ x x_1
theorem TU (x : jJ) : FX x = ctrT JL (qA.N.args x) (hO 11 (dN 2 (qA.N.l x))) (fun v h' => dA 2 x v h' qA.N.outs) := by kernel_rfl
def FY (x : jJ) : Prop :=
 ∃ x_1 : ZRe,Hd (x_1.ok/\x_1.p ≠ 0)/\aaF x_1 x/\NS x_1 x/\(∀ y : Unit,Hd ((x_1.p : Int) + 1 ≠ spn x_1.b.cls)->(∃ y_1 : Unit,FM x/\NH x x_1/\fP x.a/\Kr x x_1/\(64 * (x.p + 1) = 64 * (x_1.p + 1)/\∀ q : Nat,q < 64 * (x.p + 1)->oh x.b q x_1.b)/\rM x.a x_1.d) ∨ (∃ y_1 : Unit,rY x/\Oj x x_1/\vK x x_1) ∨ ∃ y_1 : Unit,rX x/\Ol x x_1/\vK x x_1)/\(∀ y : Unit,Hd ((x_1.p : Int) + 1 = spn x_1.b.cls/\x_1.f.line < 0)->zK x ∨ (∃ y_1 : Unit,rY x/\Om x x_1/\vK x x_1) ∨ ∃ y_1 : Unit,rX x/\Oo x x_1/\vK x x_1)/\∀ y : Unit,Hd ((x_1.p : Int) + 1 = spn x_1.b.cls/\0<=x_1.f.line)->zK x ∨ (∃ y_1 : Unit,rY x/\Oq x x_1/\vK x x_1) ∨ ∃ y_1 : Unit,rX x/\Ot x x_1/\vK x x_1
theorem TV (x : jJ) : FY x = ctrT JL (qA.P.args x) (hO 12 (dN 2 (qA.P.l x))) (fun v h' => dA 2 x v h' qA.P.outs) := by kernel_rfl
end Go.Proofs.YtenfleoejgjklaaGreat
end
section
namespace Go.Proofs.YtenfleoejgjklaaGreat
open Go SE
structure ZPb where
 a : ZArn
 f : ZFr
 t : Nat
 ln : Nat
namespace ZPb
def chg (x : ZPb) : fV := ⟨x.a,x.t,x.f.epoch,x.f.value,⟨#[]⟩,false,x.f.old,x.ln,x.f.cls⟩
def fr (x : ZPb) (h : Bool) : ZFr := { x.f with had := h,line := x.ln }
end ZPb
noncomputable def ahN : Ctr := det ZPb (fun x => [.ptr 0 0,i64 x.t,(x.fr false).av 4 5 fJ]) 1 (fun x => [.abs (ownM x.a.os)]) (fun x => Hd (x.chg.okE/\(∃ i j,x.chg.inP i j)/\∀ k,x.a.c.o k + 8 < 1099511627776)) (fun x => { x.fr false with found := false,aep := x.f.epoch,line := -1 }.av 4 6 fJ) 1 (fun x => [.abs (ownM x.chg.enq.os)])
noncomputable def ahO : Ctr := det ZPb (fun x => [.ptr 0 0,i64 x.t,(x.fr true).av 5 5 fJ]) 1 (fun x => [.abs (ownM x.a.os)]) (fun x => Hd (x.chg.okD/\(∃ i j,x.chg.inP i j)/\0<=x.a.id/\x.a.id < 1152921504606846976/\x.a.n ≠ 0)) (fun x => { x.fr true with found := true,aep := x.f.epoch,line := -1 }.av 5 6 fJ) 1 (fun x => [.abs (ownM x.chg.deq.os)])
noncomputable def ap5 : WTbl := yE ++ [(162,ctrT enqG.ctr)]
noncomputable def ap6 : WTbl := yE ++ [(162,ctrT deqG.ctr)]
theorem akX : eY Tryz.prog ap5 := .append jf (.cons (bT an9) .nil)
theorem akY : eY Tryz.prog ap6 := .append jf (.cons (bT aoa) .nil)
end Go.Proofs.YtenfleoejgjklaaGreat
end
section
namespace Go.Proofs.YtenfleoejgjklaaGreat
open Go SE
def H9 : Prop := Value.slice none 0 0 = Value.slice none 0 0
def akZ (a : fV) (b : ZPb) : Prop := a.old.key = b.f.old.key/\a.old.id = b.f.old.id/\a.old.ver = b.f.old.ver/\a.old.line = b.f.old.line/\a.old.cls = b.f.old.cls/\(a.k : Int) = (b.ln : Int)/\a.c = b.f.cls/\True
def ak0 (a : ZPb) : Prop := AV.lit (Value.int .u64 a.f.epoch) = AV.lit (Value.int .u64 a.f.epoch)/\AV.lit (Value.int .i64 (a.t : Int)) = AV.lit (Value.int .i64 (a.t : Int))/\AV.ptr 0 0 = AV.ptr 0 0/\True
def ak1 (a : ZFr) : Prop := a.ans = a.ans/\H9/\H9/\a.epoch = a.epoch/\True
def adb : Prop := ByteArray.mk #[] = ByteArray.mk #[]
def XK (x : ZPb) : Prop :=
 ((0 : Int)<=5/\(0 : Int)<=1)/\ak0 x/\∃ x_1 : fV,Hd (x_1.okE/\(∃ i : Nat,∃ j : Nat,x_1.inP i j)/\∀ k : Nat,x_1.a.c.o k + 8 < 1099511627776)/\(0 = 0/\(x_1.t : Int) = (x.t : Int)/\x_1.e = x.f.epoch/\(0 = 0/\1 = 1/\1 = 1)/\True)/\(ownM x_1.a.os = ownM x.a.os/\((4 : Int) = 4/\x_1.key = ByteArray.mk #[]/\x_1.v = x.f.value/\false = false/\akZ x_1 x)/\True)/\∀ y : Unit,True->True/\((0 : Int)<=0/\(0 : Int)<=0)/\0 < 1/\True/\True/\True/\True/\∃ y_1 : Unit,True/\((4 : Int) = 4/\x.f.key = x.f.key/\x.f.value = x.f.value/\adb/\H9/\(6 : Int) = 6/\x.f.epoch = x.f.epoch/\adb/\false = false/\(0 : Int) = 0/\false = false/\x.f.old.key = x.f.old.key/\x.f.old.id = x.f.old.id/\x.f.old.ver = x.f.old.ver/\x.f.old.line = x.f.old.line/\x.f.old.cls = x.f.old.cls/\(-(1 : Int)) = (-(1 : Int))/\x.f.cls = x.f.cls/\x.f.piece = x.f.piece/\H9/\(0 : Int) = 0/\H9/\x.f.code = x.f.code/\false = false/\ak1 x.f)/\ownM x.chg.enq.os = ownM x_1.enq.os/\True
theorem ade (x : ZPb) : XK x = wpF Tryz.prog ap5 tt (noA x) 200 6 19 (ahN.args x) (hO 1 (ahN.os x)) (fun v h' => eU 1 x v h' ahN.outs) := by kernel_rfl
def XL (x : ZPb) : Prop :=
 ((0 : Int)<=5/\(0 : Int)<=1)/\ak0 x/\∃ x_1 : fV,Hd (x_1.okD/\(∃ i : Nat,∃ j : Nat,x_1.inP i j)/\0<=x_1.a.id/\x_1.a.id < 1152921504606846976/\x_1.a.n ≠ 0)/\(0 = 0/\(x_1.t : Int) = (x.t : Int)/\x_1.e = x.f.epoch/\(0 = 0/\1 = 1/\1 = 1)/\True)/\(ownM x_1.a.os = ownM x.a.os/\((5 : Int) = 5/\x_1.key = ByteArray.mk #[]/\x_1.v = x.f.value/\true = true/\akZ x_1 x)/\True)/\∀ y : Unit,True->True/\((0 : Int)<=0/\(0 : Int)<=0)/\0 < 1/\True/\True/\True/\True/\∃ y_1 : Unit,True/\((5 : Int) = 5/\x.f.key = x.f.key/\x.f.value = x.f.value/\adb/\H9/\(6 : Int) = 6/\x.f.epoch = x.f.epoch/\adb/\false = false/\(0 : Int) = 0/\true = true/\x.f.old.key = x.f.old.key/\x.f.old.id = x.f.old.id/\x.f.old.ver = x.f.old.ver/\x.f.old.line = x.f.old.line/\x.f.old.cls = x.f.old.cls/\(-(1 : Int)) = (-(1 : Int))/\x.f.cls = x.f.cls/\x.f.piece = x.f.piece/\H9/\(0 : Int) = 0/\H9/\x.f.code = x.f.code/\true = true/\ak1 x.f)/\ownM x.chg.deq.os = ownM x_1.deq.os/\True
theorem adf (x : ZPb) : XL x = wpF Tryz.prog ap6 tt (noA x) 200 6 19 (ahO.args x) (hO 1 (ahO.os x)) (fun v h' => eU 1 x v h' ahO.outs) := by kernel_rfl
end Go.Proofs.YtenfleoejgjklaaGreat
end
section
namespace Go.Proofs.YtenfleoejgjklaaGreat
open Go SE
set_option linter.unusedSimpArgs false
def nOk {X : Type} (x : X) (n : Nat) : List (ai7 X)->Prop
 | [] => True
 | o :: r => (∀ y,(o.a x y).n = n)/\nOk x n r
theorem ahP {X : Type} {x : X} {n : Nat} : ∀ {l : List (ai7 X)},nOk x n l->∀ o ∈ l,∀ y,(o.a x y).n = n
 | o :: r,h,p,hp,y => by
  rcases List.mem_cons.1 hp with rfl | hp
  ·exact h.1 y
  ·exact ahP h.2 p hp y
theorem ug {P : Program} {f : FuncId} {C : vI} (hn : ∀ x,nOk x (C.a x).n C.outs) (hN : bV P f C.N.ctr) (hP : bV P f C.P.ctr) : bV P f C.M.ctr := glue (fun x _ o ho y _ => ahP (hn x) o ho y) hN hP
theorem FZ (x : ZSt) (hx : ((iQ 4).pre x)) : zL x := by
 have hx := aY.1 hx
 unfold zL
 simp only [sF,dQ,rQ,rP,sJ,AP,N9,sK,Ou,NU,Ov,NW,NY,Oz,fU,dU,eH,fQ,zJ,kJ,lg,fM,dO,bY,rJ,fH,iq,fO,fF,Kq,Ko,iC,gq,jV]
 simp only [aY,aU,aT,ay,aH,bJ,bg,aN,aJ,au,aW,aV,bK,bC,bD,bF,bM,bf,bG,aZ,dY,aG,aK,ah,aj,aA,aC,aB,aF]
 refine ⟨⟨x.a.r,x.a.c,x.t,x.f⟩,hx,?_⟩
 simp only [aY,aU,aT,ay,aH,bJ,bg,aN,aJ,au,aW,aV,bK,bC,bD,bF,bM,bf,bG,aZ,dY,aG,aK,ah,aj,aA,aC,aB,aF]
 exact ⟨fun h => .inl h,fun h => .inr h⟩
theorem F5 (x : ZSt) (hx : ((iQ 4).pre x)) : zM x := by
 have hx := aY.1 hx
 unfold zM
 simp only [sF,dQ,rQ,rP,sJ,AP,Oa,sK,Ou,NV,Ov,NZ,NY,OA,fP,dU,eH,fQ,zJ,kJ,uf,fM,yI,dO,bY,rJ,fH,iq,fO,fF,Kq,Ko,iC,gq,jV]
 simp only [aY,aU,aT,ay,aH,bJ,bg,aN,aJ,au,aW,aV,bK,bC,bD,bF,bM,bf,bG,aZ,dY,aG,aK,ah,aj,aA,aC,aB,aF]
 refine ⟨⟨x.a.r,x.a.c,x.t,x.f⟩,hx,?_⟩
 simp only [aY,aU,aT,ay,aH,bJ,bg,aN,aJ,au,aW,aV,bK,bC,bD,bF,bM,bf,bG,aZ,dY,aG,aK,ah,aj,aA,aC,aB,aF]
 exact ⟨fun h => .inl h,fun h => .inr h⟩
theorem F6 (x : ZSt) (hx : ((iQ 5).pre x)) : zN x := by
 have hx := aY.1 hx
 unfold zN
 simp only [sF,dQ,rQ,rP,sN,AP,N9,sO,Ox,NU,Oy,NW,N7,Oz,fU,dU,eH,fQ,zJ,kJ,lg,fM,dO,bY,rJ,fH,iq,fO,fF,Kq,Ko,iC,gq,jV]
 simp only [aY,aU,aT,ay,aH,bJ,bg,aN,aJ,au,aW,aV,bK,bC,bD,bF,bM,bf,bG,aZ,dY,aG,aK,ah,aj,aA,aC,aB,aF]
 refine ⟨⟨x.a.r,x.a.c,x.t,x.f⟩,hx,?_⟩
 simp only [aY,aU,aT,ay,aH,bJ,bg,aN,aJ,au,aW,aV,bK,bC,bD,bF,bM,bf,bG,aZ,dY,aG,aK,ah,aj,aA,aC,aB,aF]
 exact ⟨fun h => .inl h,fun h => .inr h⟩
theorem F7 (x : ZSt) (hx : ((iQ 5).pre x)) : zO x := by
 have hx := aY.1 hx
 unfold zO
 simp only [sF,dQ,rQ,rP,sN,AP,Oa,sO,Ox,NV,Oy,NZ,N7,OA,fP,dU,eH,fQ,zJ,kJ,uf,fM,yI,dO,bY,rJ,fH,iq,fO,fF,Kq,Ko,iC,gq,jV]
 simp only [aY,aU,aT,ay,aH,bJ,bg,aN,aJ,au,aW,aV,bK,bC,bD,bF,bM,bf,bG,aZ,dY,aG,aK,ah,aj,aA,aC,aB,aF]
 refine ⟨⟨x.a.r,x.a.c,x.t,x.f⟩,hx,?_⟩
 simp only [aY,aU,aT,ay,aH,bJ,bg,aN,aJ,au,aW,aV,bK,bC,bD,bF,bM,bf,bG,aZ,dY,aG,aK,ah,aj,aA,aC,aB,aF]
 exact ⟨fun h => .inl h,fun h => .inr h⟩
theorem OU (x : ZSt) (hx : (zy.pre x)) : OJ x := by
 have hx := aY.1 hx
 unfold OJ
 simp only [NT,N8,NR,TL,NM,NP,aaG,bY,dO,fH,iq,fO,fF,fU,dU,eH,fQ,fM,jB,gq,dQ,jV,rJ]
 simp only [aY,aU,aT,ay,aH,bJ,bg,aN,aJ,au,aW,aV,bK,bC,bD,bF,bM,bf,bG,aZ,dY,aG,aK,ah,aj,aA,aC,aB,aF]
 refine ⟨⟨x.a.l,x.t,x.f⟩,hx,?_⟩
 simp only [aY,aU,aT,ay,aH,bJ,bg,aN,aJ,au,aW,aV,bK,bC,bD,bF,bM,bf,bG,aZ,dY,aG,aK,ah,aj,aA,aC,aB,aF]
 exact ⟨fun h => .inl h,fun h => .inr h⟩
theorem OV (x : ZSt) (hx : (zy.pre x)) : OL x := by
 have hx := aY.1 hx
 unfold OL
 simp only [NT,N8,NR,TK,NM,NP,aaG,bY,dO,fH,iq,fO,fF,fP,dU,eH,fQ,fM,yI,jB,gq,dQ,jV,rJ]
 simp only [aY,aU,aT,ay,aH,bJ,bg,aN,aJ,au,aW,aV,bK,bC,bD,bF,bM,bf,bG,aZ,dY,aG,aK,ah,aj,aA,aC,aB,aF]
 refine ⟨⟨x.a.l,x.t,x.f⟩,hx,?_⟩
 simp only [aY,aU,aT,ay,aH,bJ,bg,aN,aJ,au,aW,aV,bK,bC,bD,bF,bM,bf,bG,aZ,dY,aG,aK,ah,aj,aA,aC,aB,aF]
 exact ⟨fun h => .inl h,fun h => .inr h⟩
theorem Ia (x : ZSt) (hx : ((lM 4).pre x)) : FN x := by
 have hx := aY.1 hx
 unfold FN
 simp only [sQ,dQ,rU,sD,OB,zH,aaA,fU,dU,eH,lq,aay,aaw,aaC,bY,dO,fH,iq,fO,fF,zD,zF,qB,lg,fM,zG,iC,gq,jV,rJ]
 simp only [aY,aU,aT,ay,aH,bJ,bg,aN,aJ,au,aW,aV,bK,bC,bD,bF,bM,bf,bG,aZ,dY,aG,aK,ah,aj,aA,aC,aB,aF]
 refine ⟨⟨x.a.p,x.t,x.f⟩,hx,?_⟩
 simp only [ZTk.c,ZSt.c,aY,aU,aT,ay,aH,bJ,bg,aN,aJ,au,aW,aV,bK,bC,bD,bF,bM,bf,bG,aZ,dY,aG,aK,ah,aj,aA,aC,aB,aF]
 exact ⟨fun h => .inl h,fun y hy => .inr ⟨y,hy,rfl,rfl⟩⟩
theorem Ib (x : ZSt) (hx : ((lM 4).pre x)) : FP x := by
 have hx := aY.1 hx
 unfold FP
 simp only [sQ,dQ,rU,sD,OB,zH,aaA,fP,dU,eH,rH,aay,aaw,aaC,bY,dO,fH,iq,fO,fF,zD,zF,BN,uf,fM,yI,zG,iC,gq,jV,rJ]
 simp only [aY,aU,aT,ay,aH,bJ,bg,aN,aJ,au,aW,aV,bK,bC,bD,bF,bM,bf,bG,aZ,dY,aG,aK,ah,aj,aA,aC,aB,aF]
 refine ⟨⟨x.a.p,x.t,x.f⟩,hx,?_⟩
 simp only [ZTk.c,ZSt.c,aY,aU,aT,ay,aH,bJ,bg,aN,aJ,au,aW,aV,bK,bC,bD,bF,bM,bf,bG,aZ,dY,aG,aK,ah,aj,aA,aC,aB,aF]
 exact ⟨fun h => .inl h,fun y hy => .inr ⟨y,hy,rfl,rfl⟩⟩
theorem Ic (x : ZSt) (hx : ((lM 5).pre x)) : FT x := by
 have hx := aY.1 hx
 unfold FT
 simp only [sQ,dQ,rU,sD,OC,zI,aaB,fU,dU,eH,lq,aaz,aax,aaD,bY,dO,fH,iq,fO,fF,zD,zF,qB,lg,fM,zG,iC,gq,jV,rJ]
 simp only [aY,aU,aT,ay,aH,bJ,bg,aN,aJ,au,aW,aV,bK,bC,bD,bF,bM,bf,bG,aZ,dY,aG,aK,ah,aj,aA,aC,aB,aF]
 refine ⟨⟨x.a.p,x.t,x.f⟩,hx,?_⟩
 simp only [ZTk.c,ZSt.c,aY,aU,aT,ay,aH,bJ,bg,aN,aJ,au,aW,aV,bK,bC,bD,bF,bM,bf,bG,aZ,dY,aG,aK,ah,aj,aA,aC,aB,aF]
 exact ⟨fun h => .inl h,fun y hy => .inr ⟨y,hy,rfl,rfl⟩⟩
theorem Ie (x : ZSt) (hx : ((lM 5).pre x)) : FU x := by
 have hx := aY.1 hx
 unfold FU
 simp only [sQ,dQ,rU,sD,OC,zI,aaB,fP,dU,eH,rH,aaz,aax,aaD,bY,dO,fH,iq,fO,fF,zD,zF,BN,uf,fM,yI,zG,iC,gq,jV,rJ]
 simp only [aY,aU,aT,ay,aH,bJ,bg,aN,aJ,au,aW,aV,bK,bC,bD,bF,bM,bf,bG,aZ,dY,aG,aK,ah,aj,aA,aC,aB,aF]
 refine ⟨⟨x.a.p,x.t,x.f⟩,hx,?_⟩
 simp only [ZTk.c,ZSt.c,aY,aU,aT,ay,aH,bJ,bg,aN,aJ,au,aW,aV,bK,bC,bD,bF,bM,bf,bG,aZ,dY,aG,aK,ah,aj,aA,aC,aB,aF]
 exact ⟨fun h => .inl h,fun y hy => .inr ⟨y,hy,rfl,rfl⟩⟩
theorem F8 (x : ZSt) (hx : ((iR 4).pre x)) : zQ x := by
 have hx := aY.1 hx
 unfold zQ
 simp only [dQ,rV,su,rW,fU,dU,eH,fQ,rZ,qB,lg,fM,dO,bY,jV,rJ,fH,iq,fO,fF,iC,gq]
 simp only [aY,aU,aT,ay,aH,bJ,bg,aN,aJ,au,aW,aV,bK,bC,bD,bF,bM,bf,bG,aZ,dY,aG,aK,ah,aj,aA,aC,aB,aF]
 refine ⟨⟨x.a.r,x.t,x.f⟩,hx,?_⟩
 first | done | (simp only [aY,aU,aT,ay,aH,bJ,bg,aN,aJ,au,aW,aV,bK,bC,bD,bF,bM,bf,bG,aZ,dY,aG,aK,ah,aj,aA,aC,aB,aF])
theorem F9 (x : ZSt) (hx : ((iR 4).pre x)) : zS x := by
 have hx := aY.1 hx
 unfold zS
 simp only [dQ,rV,su,rW,fP,dU,eH,fQ,rZ,BN,uf,fM,yI,dO,bY,jV,rJ,fH,iq,fO,fF,iC,gq]
 simp only [aY,aU,aT,ay,aH,bJ,bg,aN,aJ,au,aW,aV,bK,bC,bD,bF,bM,bf,bG,aZ,dY,aG,aK,ah,aj,aA,aC,aB,aF]
 refine ⟨⟨x.a.r,x.t,x.f⟩,hx,?_⟩
 first | done | (simp only [aY,aU,aT,ay,aH,bJ,bg,aN,aJ,au,aW,aV,bK,bC,bD,bF,bM,bf,bG,aZ,dY,aG,aK,ah,aj,aA,aC,aB,aF])
theorem Gf (x : ZSt) (hx : ((iR 5).pre x)) : zT x := by
 have hx := aY.1 hx
 unfold zT
 simp only [dQ,rV,su,rW,fU,dU,eH,fQ,rZ,qB,lg,fM,dO,bY,jV,rJ,fH,iq,fO,fF,iC,gq]
 simp only [aY,aU,aT,ay,aH,bJ,bg,aN,aJ,au,aW,aV,bK,bC,bD,bF,bM,bf,bG,aZ,dY,aG,aK,ah,aj,aA,aC,aB,aF]
 refine ⟨⟨x.a.r,x.t,x.f⟩,hx,?_⟩
 first | done | (simp only [aY,aU,aT,ay,aH,bJ,bg,aN,aJ,au,aW,aV,bK,bC,bD,bF,bM,bf,bG,aZ,dY,aG,aK,ah,aj,aA,aC,aB,aF])
theorem Gg (x : ZSt) (hx : ((iR 5).pre x)) : zU x := by
 have hx := aY.1 hx
 unfold zU
 simp only [dQ,rV,su,rW,fP,dU,eH,fQ,rZ,BN,uf,fM,yI,dO,bY,jV,rJ,fH,iq,fO,fF,iC,gq]
 simp only [aY,aU,aT,ay,aH,bJ,bg,aN,aJ,au,aW,aV,bK,bC,bD,bF,bM,bf,bG,aZ,dY,aG,aK,ah,aj,aA,aC,aB,aF]
 refine ⟨⟨x.a.r,x.t,x.f⟩,hx,?_⟩
 first | done | (simp only [aY,aU,aT,ay,aH,bJ,bg,aN,aJ,au,aW,aV,bK,bC,bD,bF,bM,bf,bG,aZ,dY,aG,aK,ah,aj,aA,aC,aB,aF])
theorem BO (x : lN) (hx : ((gK 4).pre x)) : vM x := by
 have hx := aY.1 hx
 unfold vM
 simp only [dQ,AQ,lu,gu,AU,mY,AX,AY,qC,bY,dO,fH,iq,fO,fF,fU,dU,FK,fQ,lq,qB,lg,fM,iC,jB,gq]
 simp only [aY,aU,aT,ay,aH,bJ,bg,aN,aJ,au,aW,aV,bK,bC,bD,bF,bM,bf,bG,aZ,dY,aG,aK,ah,aj,aA,aC,aB,aF]
 refine ⟨x.w,hx,?_⟩
 simp only [lN.w,ZWr.fr,aY,aU,aT,ay,aH,bJ,bg,aN,aJ,au,aW,aV,bK,bC,bD,bF,bM,bf,bG,aZ,dY,aG,aK,ah,aj,aA,aC,aB,aF]
 exact ⟨fun h => .inl h,fun h => .inr h⟩
theorem BP (x : lN) (hx : ((gK 4).pre x)) : vO x := by
 have hx := aY.1 hx
 unfold vO
 simp only [dQ,AQ,lu,gu,AU,mX,AX,AY,qC,bY,dO,fH,iq,fO,fF,fP,dU,fQ,rH,BN,uf,fM,yI,iC,jB,gq]
 simp only [aY,aU,aT,ay,aH,bJ,bg,aN,aJ,au,aW,aV,bK,bC,bD,bF,bM,bf,bG,aZ,dY,aG,aK,ah,aj,aA,aC,aB,aF]
 refine ⟨x.w,hx,?_⟩
 simp only [lN.w,ZWr.fr,aY,aU,aT,ay,aH,bJ,bg,aN,aJ,au,aW,aV,bK,bC,bD,bF,bM,bf,bG,aZ,dY,aG,aK,ah,aj,aA,aC,aB,aF]
 exact ⟨fun h => .inl h,fun h => .inr h⟩
theorem BQ (x : lN) (hx : ((gK 5).pre x)) : vP x := by
 have hx := aY.1 hx
 unfold vP
 simp only [dQ,AQ,lu,gu,AU,mY,AX,AY,qC,bY,dO,fH,iq,fO,fF,fU,dU,FK,fQ,lq,qB,lg,fM,iC,jB,gq]
 simp only [aY,aU,aT,ay,aH,bJ,bg,aN,aJ,au,aW,aV,bK,bC,bD,bF,bM,bf,bG,aZ,dY,aG,aK,ah,aj,aA,aC,aB,aF]
 refine ⟨x.w,hx,?_⟩
 simp only [lN.w,ZWr.fr,aY,aU,aT,ay,aH,bJ,bg,aN,aJ,au,aW,aV,bK,bC,bD,bF,bM,bf,bG,aZ,dY,aG,aK,ah,aj,aA,aC,aB,aF]
 exact ⟨fun h => .inl h,fun h => .inr h⟩
theorem BR (x : lN) (hx : ((gK 5).pre x)) : vS x := by
 have hx := aY.1 hx
 unfold vS
 simp only [dQ,AQ,lu,gu,AU,mX,AX,AY,qC,bY,dO,fH,iq,fO,fF,fP,dU,fQ,rH,BN,uf,fM,yI,iC,jB,gq]
 simp only [aY,aU,aT,ay,aH,bJ,bg,aN,aJ,au,aW,aV,bK,bC,bD,bF,bM,bf,bG,aZ,dY,aG,aK,ah,aj,aA,aC,aB,aF]
 refine ⟨x.w,hx,?_⟩
 simp only [lN.w,ZWr.fr,aY,aU,aT,ay,aH,bJ,bg,aN,aJ,au,aW,aV,bK,bC,bD,bF,bM,bf,bG,aZ,dY,aG,aK,ah,aj,aA,aC,aB,aF]
 exact ⟨fun h => .inl h,fun h => .inr h⟩
theorem BU (x : lN) (hx : (mW.pre x)) : vT x := by
 have hx := aY.1 hx
 unfold vT
 simp only [aaE,lu,aaH,mY,NI,NJ,qC,bY,dO,dQ,fH,iq,fO,fF,fU,dU,FK,fQ,lq,qB,lg,fM,iC,jB,gq]
 simp only [aY,aU,aT,ay,aH,bJ,bg,aN,aJ,au,aW,aV,bK,bC,bD,bF,bM,bf,bG,aZ,dY,aG,aK,ah,aj,aA,aC,aB,aF]
 refine ⟨x.w,hx,?_⟩
 simp only [lN.w,ZWr.fr,aY,aU,aT,ay,aH,bJ,bg,aN,aJ,au,aW,aV,bK,bC,bD,bF,bM,bf,bG,aZ,dY,aG,aK,ah,aj,aA,aC,aB,aF]
 exact ⟨fun h => .inl h,fun h => .inr h⟩
theorem BX (x : lN) (hx : (mW.pre x)) : vU x := by
 have hx := aY.1 hx
 unfold vU
 simp only [aaE,lu,aaH,mX,NI,NJ,qC,bY,dO,dQ,fH,iq,fO,fF,fP,dU,fQ,rH,BN,uf,fM,yI,iC,jB,gq]
 simp only [aY,aU,aT,ay,aH,bJ,bg,aN,aJ,au,aW,aV,bK,bC,bD,bF,bM,bf,bG,aZ,dY,aG,aK,ah,aj,aA,aC,aB,aF]
 refine ⟨x.w,hx,?_⟩
 simp only [lN.w,ZWr.fr,aY,aU,aT,ay,aH,bJ,bg,aN,aJ,au,aW,aV,bK,bC,bD,bF,bM,bf,bG,aZ,dY,aG,aK,ah,aj,aA,aC,aB,aF]
 exact ⟨fun h => .inl h,fun h => .inr h⟩
theorem Ig (x : jJ) (hx : (qy.pre x)) : FV x := by
 have hx := aY.1 hx
 unfold FV
 simp only [NK,lu,gu,NQ,fU,oh,rO,sH,Ob,sG,Oc,Oe,Og,Oh,Oi,bY,dO,J9,dQ,zA,fF,aav,zC,dU,FK,fQ,lq,qB,lg,fM,iq,fO,iC,jB,gq,fH]
 simp only [aY,aU,aT,ay,aH,bJ,bg,aN,aJ,au,aW,aV,bK,bC,bD,bF,bM,bf,bG,aZ,dY,aG,aK,ah,aj,aA,aC,aB,aF]
 refine ⟨x.w,hx,?_⟩
 simp only [jJ.w,ZRe.fr,ZRe.fr2,aY,aU,aT,ay,aH,bJ,bg,aN,aJ,au,aW,aV,bK,bC,bD,bF,bM,bf,bG,aZ,dY,aG,aK,ah,aj,aA,aC,aB,aF]
 exact ⟨fun h => .inl h,fun h => .inr (.inl h),fun h => .inr (.inr h)⟩
theorem Ih (x : jJ) (hx : (qy.pre x)) : FW x := by
 have hx := aY.1 hx
 unfold FW
 simp only [NK,lu,gu,NQ,fP,oh,rM,sH,Ob,sG,Oc,Oe,Og,Oh,Oi,bY,dO,J9,dQ,zA,fF,aav,zC,dU,fQ,rH,BN,uf,fM,yI,iq,fO,iC,jB,gq,fH]
 simp only [aY,aU,aT,ay,aH,bJ,bg,aN,aJ,au,aW,aV,bK,bC,bD,bF,bM,bf,bG,aZ,dY,aG,aK,ah,aj,aA,aC,aB,aF]
 refine ⟨x.w,hx,?_⟩
 simp only [jJ.w,ZRe.fr,ZRe.fr2,aY,aU,aT,ay,aH,bJ,bg,aN,aJ,au,aW,aV,bK,bC,bD,bF,bM,bf,bG,aZ,dY,aG,aK,ah,aj,aA,aC,aB,aF]
 exact ⟨fun h => .inl h,fun h => .inr (.inl h),fun h => .inr (.inr h)⟩
theorem Ii (x : jJ) (hx : (qA.pre x)) : FX x := by
 have hx := aY.1 hx
 unfold FX
 simp only [aaF,NS,FM,NH,fU,Kr,oh,rO,rY,Oj,vJ,rX,Ol,zK,Om,Oo,Oq,Ot,bY,dO,J8,dQ,zA,fF,aau,zC,dU,FK,fQ,lq,qB,lg,fM,iq,fO,iC,jB,gq]
 simp only [aY,aU,aT,ay,aH,bJ,bg,aN,aJ,au,aW,aV,bK,bC,bD,bF,bM,bf,bG,aZ,dY,aG,aK,ah,aj,aA,aC,aB,aF]
 refine ⟨x.w,hx,?_⟩
 simp only [jJ.w,ZRe.fr,ZRe.fr2,aY,aU,aT,ay,aH,bJ,bg,aN,aJ,au,aW,aV,bK,bC,bD,bF,bM,bf,bG,aZ,dY,aG,aK,ah,aj,aA,aC,aB,aF]
 exact ⟨fun h => .inl h,fun h => .inr (.inl h),fun h => .inr (.inr h)⟩
theorem Ij (x : jJ) (hx : (qA.pre x)) : FY x := by
 have hx := aY.1 hx
 unfold FY
 simp only [aaF,NS,FM,NH,fP,Kr,oh,rM,rY,Oj,vK,rX,Ol,zK,Om,Oo,Oq,Ot,bY,dO,J8,dQ,zA,fF,aau,zC,dU,fQ,rH,BN,uf,fM,yI,iq,fO,iC,jB,gq]
 simp only [aY,aU,aT,ay,aH,bJ,bg,aN,aJ,au,aW,aV,bK,bC,bD,bF,bM,bf,bG,aZ,dY,aG,aK,ah,aj,aA,aC,aB,aF]
 refine ⟨x.w,hx,?_⟩
 simp only [jJ.w,ZRe.fr,ZRe.fr2,aY,aU,aT,ay,aH,bJ,bg,aN,aJ,au,aW,aV,bK,bC,bD,bF,bM,bf,bG,aZ,dY,aG,aK,ah,aj,aA,aC,aB,aF]
 exact ⟨fun h => .inl h,fun h => .inr (.inl h),fun h => .inr (.inr h)⟩
theorem adg : bV Tryz.prog 19 (iQ 4).N.ctr := dM (bT JZ) 10 (fun _ => ⟨rfl,rfl,rfl,rfl⟩) fun x hx => Eq.mp (OD x) (FZ x hx.1)
theorem adh : bV Tryz.prog 19 (iQ 4).P.ctr := dM (bT JZ) 11 (fun _ => ⟨rfl,rfl,rfl,rfl⟩) fun x hx => Eq.mp (OG x) (F5 x hx.1)
theorem Kt : bV Tryz.prog 19 (iQ 4).M.ctr := ug (fun _ => ⟨fun _ => rfl,fun _ => rfl,trivial⟩) adg adh
theorem adi : bV Tryz.prog 19 (iQ 5).N.ctr := dM (bT J3) 10 (fun _ => ⟨rfl,rfl,rfl,rfl⟩) fun x hx => Eq.mp (OH x) (F6 x hx.1)
theorem adk : bV Tryz.prog 19 (iQ 5).P.ctr := dM (bT J3) 11 (fun _ => ⟨rfl,rfl,rfl,rfl⟩) fun x hx => Eq.mp (OI x) (F7 x hx.1)
theorem Ku : bV Tryz.prog 19 (iQ 5).M.ctr := ug (fun _ => ⟨fun _ => rfl,fun _ => rfl,trivial⟩) adi adk
theorem ak2 : bV Tryz.prog 19 zy.N.ctr := dM (bT aat) 10 (fun _ => ⟨rfl,rfl,rfl,rfl⟩) fun x hx => Eq.mp (XI x) (OU x hx.1)
theorem ak3 : bV Tryz.prog 19 zy.P.ctr := dM (bT aat) 11 (fun _ => ⟨rfl,rfl,rfl,rfl⟩) fun x hx => Eq.mp (XJ x) (OV x hx.1)
theorem ak4 : bV Tryz.prog 19 zy.M.ctr := ug (fun _ => ⟨fun _ => rfl,fun _ => rfl,trivial⟩) ak2 ak3
theorem ahQ : bV Tryz.prog 19 (lM 4).N.ctr := dM (bT TB) 10 (fun _ => ⟨rfl,rfl,rfl,rfl⟩) fun x hx => Eq.mp (TM x) (Ia x hx.1)
theorem ahR : bV Tryz.prog 19 (lM 4).P.ctr := dM (bT TB) 11 (fun _ => ⟨rfl,rfl,rfl,rfl⟩) fun x hx => Eq.mp (TN x) (Ib x hx.1)
theorem TW : bV Tryz.prog 19 (lM 4).M.ctr := ug (fun _ => ⟨fun _ => rfl,fun _ => rfl,trivial⟩) ahQ ahR
theorem ahS : bV Tryz.prog 19 (lM 5).N.ctr := dM (bT TF) 10 (fun _ => ⟨rfl,rfl,rfl,rfl⟩) fun x hx => Eq.mp (TP x) (Ic x hx.1)
theorem ahT : bV Tryz.prog 19 (lM 5).P.ctr := dM (bT TF) 11 (fun _ => ⟨rfl,rfl,rfl,rfl⟩) fun x hx => Eq.mp (TQ x) (Ie x hx.1)
theorem TY : bV Tryz.prog 19 (lM 5).M.ctr := ug (fun _ => ⟨fun _ => rfl,fun _ => rfl,trivial⟩) ahS ahT
theorem adl : bV Tryz.prog 19 (iR 4).N.ctr := dM (bT J4) 10 (fun _ => ⟨rfl,rfl,rfl,rfl⟩) fun x hx => Eq.mp (OM x) (F8 x hx.1)
theorem adn : bV Tryz.prog 19 (iR 4).P.ctr := dM (bT J4) 11 (fun _ => ⟨rfl,rfl,rfl,rfl⟩) fun x hx => Eq.mp (OO x) (F9 x hx.1)
theorem Kv : bV Tryz.prog 19 (iR 4).M.ctr := ug (fun _ => ⟨fun _ => rfl,trivial⟩) adl adn
theorem ado : bV Tryz.prog 19 (iR 5).N.ctr := dM (bT J5) 10 (fun _ => ⟨rfl,rfl,rfl,rfl⟩) fun x hx => Eq.mp (OQ x) (Gf x hx.1)
theorem adp : bV Tryz.prog 19 (iR 5).P.ctr := dM (bT J5) 11 (fun _ => ⟨rfl,rfl,rfl,rfl⟩) fun x hx => Eq.mp (OT x) (Gg x hx.1)
theorem Kw : bV Tryz.prog 19 (iR 5).M.ctr := ug (fun _ => ⟨fun _ => rfl,trivial⟩) ado adp
theorem XM : bV Tryz.prog 19 (gK 4).N.ctr := dM (bT FH) 10 (fun _ => ⟨rfl,rfl,rfl,rfl⟩) fun x hx => Eq.mp (Hy x) (BO x hx.1)
theorem XO : bV Tryz.prog 19 (gK 4).P.ctr := dM (bT FH) 11 (fun _ => ⟨rfl,rfl,rfl,rfl⟩) fun x hx => Eq.mp (Hz x) (BP x hx.1)
theorem XP : bV Tryz.prog 19 (gK 4).M.ctr := ug (fun _ => ⟨fun _ => rfl,fun _ => rfl,trivial⟩) XM XO
theorem XT : bV Tryz.prog 19 (gK 5).N.ctr := dM (bT FI) 10 (fun _ => ⟨rfl,rfl,rfl,rfl⟩) fun x hx => Eq.mp (HY x) (BQ x hx.1)
theorem XU : bV Tryz.prog 19 (gK 5).P.ctr := dM (bT FI) 11 (fun _ => ⟨rfl,rfl,rfl,rfl⟩) fun x hx => Eq.mp (H6 x) (BR x hx.1)
theorem Gh : bV Tryz.prog 19 (gK 5).M.ctr := ug (fun _ => ⟨fun _ => rfl,fun _ => rfl,trivial⟩) XT XU
theorem XV : bV Tryz.prog 19 mW.N.ctr := dM (bT J6) 10 (fun _ => ⟨rfl,rfl,rfl,rfl⟩) fun x hx => Eq.mp (H7 x) (BU x hx.1)
theorem XW : bV Tryz.prog 19 mW.P.ctr := dM (bT J6) 11 (fun _ => ⟨rfl,rfl,rfl,rfl⟩) fun x hx => Eq.mp (H8 x) (BX x hx.1)
theorem XY : bV Tryz.prog 19 mW.M.ctr := ug (fun _ => ⟨fun _ => rfl,fun _ => rfl,trivial⟩) XV XW
theorem ahU : bV Tryz.prog 19 qy.N.ctr := dM (bT TG) 10 (fun _ => ⟨rfl,rfl,rfl,rfl⟩) fun x hx => Eq.mp (TR x) (Ig x hx.1)
theorem ahV : bV Tryz.prog 19 qy.P.ctr := dM (bT TG) 11 (fun _ => ⟨rfl,rfl,rfl,rfl⟩) fun x hx => Eq.mp (TS x) (Ih x hx.1)
theorem Ua : bV Tryz.prog 19 qy.M.ctr := ug (fun _ => ⟨fun _ => rfl,fun _ => rfl,fun _ => rfl,trivial⟩) ahU ahV
theorem ahW : bV Tryz.prog 19 qA.N.ctr := dM (bT TJ) 11 (fun _ => ⟨rfl,rfl,rfl,rfl⟩) fun x hx => Eq.mp (TU x) (Ii x hx.1)
theorem ahX : bV Tryz.prog 19 qA.P.ctr := dM (bT TJ) 12 (fun _ => ⟨rfl,rfl,rfl,rfl⟩) fun x hx => Eq.mp (TV x) (Ij x hx.1)
theorem Ub : bV Tryz.prog 19 qA.M.ctr := ug (fun _ => ⟨fun _ => rfl,fun _ => rfl,fun _ => rfl,trivial⟩) ahW ahX
theorem Uc (x : ZPb) (hx : x.chg.okE/\(∃ i j,x.chg.inP i j)/\∀ k,x.a.c.o k + 8 < 1099511627776) : XK x := by
 unfold XK
 simp only [ak0,akZ,adb,H9,ak1]
 simp only [aY,aU,aT,ay,aH,bJ,bg,aN,aJ,au,aW,aV,bK,bC,bD,bF,bM,bf,bG,aZ,dY,aG,aK,ah,aj,aA,aC,aB,aF]
 exact ⟨by decide,x.chg,hx,⟨rfl,rfl⟩,⟨rfl,rfl,rfl,rfl,rfl,rfl,rfl,rfl,rfl,rfl⟩,by decide,by decide,rfl⟩
theorem Ud (x : ZPb) (hx : x.chg.okD/\(∃ i j,x.chg.inP i j)/\0<=x.a.id/\x.a.id < 1152921504606846976/\x.a.n ≠ 0) : XL x := by
 unfold XL
 simp only [ak0,akZ,adb,H9,ak1]
 simp only [aY,aU,aT,ay,aH,bJ,bg,aN,aJ,au,aW,aV,bK,bC,bD,bF,bM,bf,bG,aZ,dY,aG,aK,ah,aj,aA,aC,aB,aF]
 exact ⟨by decide,x.chg,hx,⟨rfl,rfl⟩,⟨rfl,rfl,rfl,rfl,rfl,rfl,rfl,rfl,rfl,rfl⟩,by decide,by decide,rfl⟩
theorem aaI : bV Tryz.prog 19 ahN := dX dI mixed akX noA 200 6 (fun _ => rfl) (fun _ => rfl) fun x hx => Eq.mp (ade x) (Uc x (aY.1 hx))
theorem aaJ : bV Tryz.prog 19 ahO := dX dI mixed akY noA 200 6 (fun _ => rfl) (fun _ => rfl) fun x hx => Eq.mp (adf x) (Ud x (aY.1 hx))
end Go.Proofs.YtenfleoejgjklaaGreat
end
section
namespace Go.Proofs.YtenfleoejgjklaaGreat
open Go SE
structure ZRt where
 c : ClkM
 l : ZLn
 t : Nat
 f : ZFr
def arnC : dF := ZH .any .any (.ptr 1 0) .any .any .any .any
def ap7 : dF := ZH .any .any (.ptr 1 0) .any .any (.ptr 2 0) .any
noncomputable def zV : Ctr := det ZRt (fun x => [.ptr 0 0,i64 x.t,{ x.f with had := false }.av 4 5 fJ]) 2 (fun x => [arnC,.abs (ownM (x.c.os 0))]) (fun x => Hd (x.c.ok/\x.t < x.c.t/\x.c.now ≠ x.f.epoch/\0<=x.f.line)) (fun x => { x.f with had := false,epoch := x.c.now }.av 4 5 fJ) 2 (fun x => [arnC,.abs (ownM (x.c.os 0))])
def ZRt.bad (x : ZRt) : Prop := x.c.ok/\x.l.ok/\x.t < x.c.t/\(x.c.now ≠ x.f.epoch ∨ x.l.n = 0 ∨ x.l.head ≠ x.f.old)/\0<=x.f.line
noncomputable def zW : Ctr := det ZRt (fun x => [.ptr 0 0,i64 x.t,{ x.f with had := true }.av 5 5 fJ]) 3 (fun x => [ap7,.abs (ownM (x.c.os 0)),.abs (ownM x.l.os)]) (fun x => Hd x.bad) (fun x => { x.f with had := false,old := oz,ans := emp,epoch := x.c.now }.av 5 1 fJ) 3 (fun x => [ap7,.abs (ownM (x.c.os 0)),.abs (ownM x.l.os)])
noncomputable def ap8 : WTbl := yE ++ [(205,ctrT rC),(204,ctrT (QV 0).ctr),(45,ctrT (MF 0).ctr)]
noncomputable def ap9 : WTbl := yE ++ [(205,ctrT nR),(204,ctrT (QV 0).ctr),(45,ctrT (MF 0).ctr),(154,ctrT qX.ctr)]
noncomputable def ahY : Ctr := { Xx with pre := fun x => Hd (x.l.ok/\(x.l.n = 0->x.f.line < 0)) }
structure ZGb where
 p : cO
 i : Nat
 k : Nat
 l : ZLn
 t : Nat
 f : ZFr
def ZGb.pb (x : ZGb) : fZ := ⟨x.p,x.i,x.k⟩
def aqa : dF := ZH (.ptr 1 0) .any .any .any .any (.ptr 2 0) .any
noncomputable def Ky : Ctr := det ZGb (fun x => [.ptr 0 0,i64 x.t,{ x.f with line := x.pb.line }.av 5 1 fJ]) 3 (fun x => [aqa,.abs (ownM x.p.os),.abs (ownM x.l.os)]) (fun x => Hd (x.pb.ok/\x.l.ok/\x.l.n = 0)) (fun x => { x.f with had := false,old := oz,line := -1 }.av 5 6 fJ) 3 (fun x => [aqa,.abs (ownM (x.p.give x.i x.k).os),.abs (ownM x.l.os)])
noncomputable def aqb : WTbl := yE ++ [(154,ctrT qX.ctr),(65,ctrT afF.ctr)]
noncomputable def Ue (k : Int) : Ctr := det ZSt (fun x => [.ptr 0 0,i64 x.t,x.f.av k 7 fJ]) 1 (fun x => [.abs (ownM x.a.os)]) (fun _ => Hd True) (fun x => x.f.av k 7 fJ) 1 (fun x => [.abs (ownM x.a.os)])
end Go.Proofs.YtenfleoejgjklaaGreat
end
section
namespace Go.Proofs.YtenfleoejgjklaaGreat
open Go SE
noncomputable def pX : vI := { X := ZSt,args := fun x => [.ptr 0 0,i64 x.t,{ x.f with had := false }.av 4 5 fJ],a := ZSt.a,k := 1,ex := fun _ => [],pre := fun x => Hd (x.a.c.ok/\x.t < x.a.c.t/\x.a.c.now ≠ x.f.epoch/\0<=x.f.line),outs := [
 { Y := Unit,post := fun _ _ => True,ret := fun x _ => { x.f with had := false,epoch := x.a.c.now }.av 4 5 fJ,a := fun x _ => x.a,m := 1,ex := fun _ _ => [] }] }
def ZSt.rt (x : ZSt) : ZRt := ⟨x.a.c,x.a.l,x.t,x.f⟩
noncomputable def pY : vI := { X := ZSt,args := fun x => [.ptr 0 0,i64 x.t,{ x.f with had := true }.av 5 5 fJ],a := ZSt.a,k := 1,ex := fun _ => [],pre := fun x => Hd x.rt.bad,outs := [
 { Y := Unit,post := fun _ _ => True,ret := fun x _ => { x.f with had := false,old := oz,ans := emp,epoch := x.a.c.now }.av 5 1 fJ,a := fun x _ => x.a,m := 1,ex := fun _ _ => [] }] }
noncomputable def yJ : vI := { zy with pre := fun x => Hd (x.a.l.ok/\(x.a.l.n = 0->x.f.line < 0)) }
structure ahZ where
 a : ZArn
 f : ZFr
 t : Nat
 i : Nat
 k : Nat
def ahZ.pb (x : ahZ) : fZ := ⟨x.a.p,x.i,x.k⟩
noncomputable def yK : vI := { X := ahZ,args := fun x => [.ptr 0 0,i64 x.t,{ x.f with line := x.pb.line }.av 5 1 fJ],a := ahZ.a,k := 1,ex := fun _ => [],pre := fun x => Hd (x.pb.ok/\x.a.l.ok/\x.a.l.n = 0),outs := [
 { Y := Unit,post := fun _ _ => True,ret := fun x _ => { x.f with had := false,old := oz,line := -1 }.av 5 6 fJ,a := fun x _ => x.a.J7 (x.a.p.give x.i x.k),m := 1,ex := fun _ _ => [] }] }
structure ZTs where
 a : ZArn
 f : ZFr
 ph : Int
def ZTs.st (s : ZTs) (t : Nat) : ZSt := ⟨s.a,s.f,t⟩
def ZTs.pb (s : ZTs) (t ln : Nat) : ZPb := ⟨s.a,s.f,t,ln⟩
def wE (t : Nat) (s : ZTs) (Q : ZTs->Prop) : Prop :=
 (s.ph = 0/\(s.a.r.ok/\s.a.c.ok/\t < s.a.r.t/\s.a.r.has t = 0)/\(400 < s.f.value.size->Q ⟨s.a,{ s.f with code := 5 },7⟩)/\(s.f.value.size<=400->Q ⟨s.a.nT t s.a.r.now,{ s.f with epoch := s.a.c.now },3⟩)) ∨
 (s.ph = 3/\(s.a.p.ok/\s.f.value.size<=400)/\((∀ i,i < s.a.p.n->s.a.p.cls i ≠ -1/\s.a.p.full (ned s.f.value.size) i)->Q ⟨s.a,{ s.f with cls := ned s.f.value.size,ans := emp,code := 4 },6⟩) /\
  ∀ i j : Nat,s.a.p.takes (ned s.f.value.size) i j->Q ⟨s.a.J7 (s.a.p.take (ned s.f.value.size) i j),{ s.f with cls := ned s.f.value.size,line := 2 + i * 8 + j * spn (ned s.f.value.size),piece := 0 },4⟩) ∨
 (s.ph = 4/\∃ ln p : Nat,s.f = (ZWr.mk s.a.d t s.f ln s.f.cls p).fr p/\(ZWr.mk s.a.d t s.f ln s.f.cls p).ok/\(p + 1 ≠ spn s.f.cls->Q ⟨s.a.Hw (ZWr.mk s.a.d t s.f ln s.f.cls p).d',{ s.f with piece := (p + 1 : Nat) },4⟩)/\(p + 1 = spn s.f.cls->Q ⟨s.a.Hw (ZWr.mk s.a.d t s.f ln s.f.cls p).d',{ s.f with piece := 0 },5⟩)) ∨
 (s.ph = 5/\s.f.had = false/\∃ ln : Nat,s.f.line = ln/\((s.pb t ln).chg.okE/\(∃ i j,(s.pb t ln).chg.inP i j)/\∀ k,s.a.c.o k + 8 < 1099511627776)/\Q ⟨(s.pb t ln).chg.enq,{ s.f with found := false,aep := s.f.epoch,line := -1 },6⟩) ∨
 (s.ph = 5/\s.f.had = false/\(s.a.c.ok/\t < s.a.c.t/\s.a.c.now ≠ s.f.epoch/\0<=s.f.line)/\Q ⟨s.a,{ s.f with epoch := s.a.c.now },5⟩) ∨
 (s.ph = 6/\(s.a.r.ok/\t < s.a.r.t)/\Q ⟨s.a.nT t 0,s.f,7⟩) ∨
 (s.ph = 7/\Q s)
def wD (t : Nat) (b : dL) (n : Nat) (s : ZTs) (Q : Nat->ZTs->Prop) : Prop :=
 (s.ph = 0/\n = 0/\(s.a.r.ok/\s.a.c.ok/\t < s.a.r.t/\s.a.r.has t = 0)/\Q 0 ⟨s.a.nT t s.a.r.now,{ s.f with epoch := s.a.c.now },1⟩) ∨
 (s.ph = 1/\n = 0/\(s.a.l.ok/\(s.a.l.n = 0->s.f.line < 0))/\(s.a.l.n = 0->Q 0 ⟨s.a,{ s.f with had := false,old := oz },6⟩)/\(s.a.l.n ≠ 0->Q 0 ⟨s.a,{ s.f with had := true,old := s.a.l.head,piece := 0 },2⟩)) ∨
 (s.ph = 1/\n = 0/\∃ i k,(fZ.ok ⟨s.a.p,i,k⟩/\s.a.l.ok/\s.a.l.n = 0)/\s.f.line = fZ.line ⟨s.a.p,i,k⟩/\Q 0 ⟨s.a.J7 (s.a.p.give i k),{ s.f with had := false,old := oz,line := -1 },6⟩) ∨
 (s.ph = 2/\∃ ln : Nat,s.f = (ZRe.mk s.a.d t s.f b ln n).fr n/\(ZRe.mk s.a.d t s.f b ln n).ok/\(n + 1 ≠ spn b.cls->Q (n + 1) ⟨s.a,{ s.f with piece := (n + 1 : Nat) },2⟩)/\(n + 1 = spn b.cls->Q 0 ⟨s.a,{ s.f with piece := (n + 1 : Nat),ans := b.value },if s.f.line < 0 then 3 else 5⟩)) ∨
 (s.ph = 3/\n = 0/\(s.a.p.ok/\s.f.value.size<=400)/\((∀ i,i < s.a.p.n->s.a.p.cls i ≠ -1/\s.a.p.full 0 i)->Q 0 ⟨s.a,{ s.f with cls := 0,ans := emp,code := 4 },6⟩) /\
  ∀ i j : Nat,s.a.p.takes 0 i j->Q 0 ⟨s.a.J7 (s.a.p.take 0 i j),{ s.f with cls := 0,line := 2 + i * 8 + j * spn 0,piece := 0 },4⟩) ∨
 (s.ph = 4/\n = 0/\s.f.cls = 0/\∃ ln : Nat,s.f = (ZWr.mk s.a.d t s.f ln 0 0).fr 0/\(ZWr.mk s.a.d t s.f ln 0 0).ok/\Q 0 ⟨s.a.Hw (ZWr.mk s.a.d t s.f ln 0 0).d',{ s.f with piece := 0 },5⟩) ∨
 (s.ph = 5/\n = 0/\s.f.had = true/\∃ ln : Nat,s.f.line = ln/\((s.pb t ln).chg.okD/\(∃ i j,(s.pb t ln).chg.inP i j)/\0<=s.a.id/\s.a.id < 1152921504606846976/\s.a.n ≠ 0)/\Q 0 ⟨(s.pb t ln).chg.deq,{ s.f with found := true,aep := s.f.epoch,line := -1 },6⟩) ∨
 (s.ph = 5/\n = 0/\s.f.had = true/\(s.st t).rt.bad/\Q 0 ⟨s.a,{ s.f with had := false,old := oz,ans := emp,epoch := s.a.c.now },1⟩) ∨
 (s.ph = 6/\n = 0/\(s.a.r.ok/\t < s.a.r.t)/\Q 0 ⟨s.a.nT t 0,s.f,7⟩) ∨
 (s.ph = 7/\n = 0/\Q 0 s)
structure ZWe where
 s : ZTs
 t : Nat
 q : ZTs->Prop
noncomputable def aqc : Ctr := { X := ZWe,args := fun x => [.ptr 0 0,i64 x.t,x.s.f.av 4 x.s.ph fJ],k := 1,os := fun x => [.abs (ownM x.s.a.os)],pre := fun x => Hd (wE x.t x.s x.q),outs := [
 { Y := ZTs,post := fun x y => Hd (x.q y),ret := fun _ y => y.f.av 4 y.ph fJ,m := 1,os := fun _ y => [.abs (ownM y.a.os)] }] }
structure ZWd where
 s : ZTs
 t : Nat
 b : dL
 n : Nat
 q : Nat->ZTs->Prop
noncomputable def alZ : Ctr := { X := ZWd,args := fun x => [.ptr 0 0,i64 x.t,x.s.f.av 5 x.s.ph fJ],k := 1,os := fun x => [.abs (ownM x.s.a.os)],pre := fun x => Hd (x.n = 0/\wD x.t x.b 0 x.s x.q),outs := [
 { Y := ZTs,post := fun x y => Hd (x.q 0 y),ret := fun _ y => y.f.av 5 y.ph fJ,m := 1,os := fun _ y => [.abs (ownM y.a.os)] },
 { Y := ZTs,post := fun x y => Hd (x.q 1 y/\y.ph = 2),ret := fun _ y => y.f.av 5 2 (.slW 1 0 1 64),m := 2,os := fun x y => [.abs (ownM y.a.os),JJ x.b.enc 64] }] }
noncomputable def al0 : Ctr := { X := ZWd,args := fun x => [.ptr 0 0,i64 x.t,x.s.f.av 5 2 (.slW 1 0 1 (64 * x.n))],k := 2,os := fun x => [.abs (ownM x.s.a.os),JJ x.b.enc (64 * x.n)],pre := fun x => Hd (x.n ≠ 0/\x.s.ph = 2/\wD x.t x.b x.n x.s x.q),outs := [
 { Y := ZTs,post := fun x y => Hd (x.q 0 y),ret := fun _ y => y.f.av 5 y.ph fJ,m := 2,os := fun x y => [.abs (ownM y.a.os),JJ x.b.enc (64 * x.n)] },
 { Y := ZTs,post := fun x y => Hd (x.q (x.n + 1) y/\y.ph = 2),ret := fun x y => y.f.av 5 2 (.slW 2 0 1 (64 * (x.n + 1))),m := 3,os := fun x y => [.abs (ownM y.a.os),JJ x.b.enc (64 * x.n),JJ x.b.enc (64 * (x.n + 1))] }] }
end Go.Proofs.YtenfleoejgjklaaGreat
end
section
namespace Go.Proofs.YtenfleoejgjklaaGreat
open Go SE
def jm : Prop := Value.slice none 0 0 = Value.slice none 0 0
def BZ (a : ZFr) (b : ZFr) : Prop := jm/\(0 : Int) = 0/\jm/\a.code = b.code/\a.found = b.found/\a.ans = b.ans/\jm/\jm/\a.aep = b.aep/\True
def Cb (a : ZFr) (b : ZFr) : Prop := a.cls = b.cls/\a.piece = b.piece/\BZ a b
def qE : Prop := jm/\jm/\jm/\jm/\True
def Kz (a : ZArn) : Prop := (a.n = a.n/\∀ q : Nat,q < a.n->[Value.int .i64 (iy.kind (a.e q)),Value.string (iy.key (a.e q)),Value.string (iy.value (a.e q)),Value.int .u64 (iy.id (a.e q)),Value.int .u64 (iy.ver (a.e q)),Value.int .u64 (iy.epoch (a.e q)),Value.int .i64 (iy.group (a.e q))] = [Value.int .i64 (iy.kind (a.e q)),Value.string (iy.key (a.e q)),Value.string (iy.value (a.e q)),Value.int .u64 (iy.id (a.e q)),Value.int .u64 (iy.ver (a.e q)),Value.int .u64 (iy.epoch (a.e q)),Value.int .i64 (iy.group (a.e q))])/\True
def adq (a : ZArn) (b : ZLn) : Prop := ownM a.b.os = ownM a.b.os/\ownM tabE = ownM tabE/\qE/\ownM a.l.os = ownM b.os/\Kz a
def jo : Prop := ByteArray.mk #[] = ByteArray.mk #[]
def qF (a : cO) : Prop := ownM a.os = ownM a.os
def AZ (a : ZArn) : Prop := 0 = 0/\0 = 0/\0 = 0/\0 = 0/\0 = 0/\0 = 0/\0 = 0/\0 = 0/\a.id = a.id/\a.ver = a.ver/\jm/\True
def lC (a : ZRd) : Prop := ownM a.os = ownM a.os
def lD : Prop := 0 = 0/\(1 : Int) = 1/\(0 : Int) = 0/\(0 : Int) = 0/\True
def lF (a : DevM) : Prop := ownM a.os = ownM a.os
def oV (a : ZLn) (b : ZLn) : Prop := ownM a.os = ownM b.os/\True
def KA (a : ZArn) (b : ZLn) : Prop := ownM a.b.os = ownM a.b.os/\ownM tabE = ownM tabE/\qE/\oV a.l b
def Uf (a : ZArn) (b : ZLn) : Prop := AZ a/\lD/\lF a.d/\qF a.p/\lC a.r/\ownM (a.c.os 0) = ownM (a.c.os 0)/\KA a b
def yL (a : ZFr) (b : ZFr) : Prop := a.old.key = b.old.key/\a.old.id = b.old.id/\a.old.ver = b.old.ver/\a.old.line = b.old.line/\a.old.cls = b.old.cls/\a.line = b.line/\Cb a b
def A8 (a : ZArn) : Prop := 0 = 0/\0 = 0/\0 = 0/\0 = 0/\0 = 0/\0 = 0/\0 = 0/\0 = 0/\a.id = a.id/\a.ver = a.ver/\(0 = 0/\a.n = a.n)/\True
def Ug (a : ZArn) (b : ZLn) : Prop := A8 a/\lD/\lF a.d/\qF a.p/\lC a.r/\ownM (a.c.os 0) = ownM (a.c.os 0)/\adq a b
def aaK (a : ZFr) (b : ZFr) : Prop := jo/\false = false/\(0 : Int) = 0/\false = false/\yL a b
def aaL (a : ZSt) (b : ZRt) : Prop := (5 : Int) = 5/\a.f.key = b.f.key/\a.f.value = b.f.value/\jo/\jm/\(1 : Int) = 1/\a.a.c.now = b.c.now/\jo/\false = false/\(0 : Int) = 0/\false = false/\jo/\(0 : Int) = 0/\(0 : Int) = 0/\(0 : Int) = 0/\(0 : Int) = 0/\a.f.line = b.f.line/\a.f.cls = b.f.cls/\a.f.piece = b.f.piece/\jm/\(0 : Int) = 0/\jm/\a.f.code = b.f.code/\a.f.found = b.f.found/\emp = emp/\jm/\jm/\a.f.aep = b.f.aep/\True
def aaM (a : ZSt) (b : ZFi) : Prop := (5 : Int) = 5/\a.f.key = b.f.key/\a.f.value = b.f.value/\jo/\jm/\(2 : Int) = 2/\a.f.epoch = b.f.epoch/\jo/\false = false/\(0 : Int) = 0/\true = true/\a.a.l.head.key = b.l.head.key/\a.a.l.head.id = b.l.head.id/\a.a.l.head.ver = b.l.head.ver/\a.a.l.head.line = b.l.head.line/\a.a.l.head.cls = b.l.head.cls/\a.f.line = b.f.line/\a.f.cls = b.f.cls/\(0 : Int) = 0/\BZ a.f b.f
def aaN (a : ZGb) (b : ahZ) : Prop := 0 = 0/\(a.t : Int) = (b.t : Int)/\((5 : Int) = 5/\a.f.key = b.f.key/\a.f.value = b.f.value/\jo/\jm/\(1 : Int) = 1/\a.f.epoch = b.f.epoch/\jo/\false = false/\(0 : Int) = 0/\a.f.had = b.f.had/\a.f.old.key = b.f.old.key/\a.f.old.id = b.f.old.id/\a.f.old.ver = b.f.old.ver/\a.f.old.line = b.f.old.line/\a.f.old.cls = b.f.old.cls/\a.pb.line = b.pb.line/\Cb a.f b.f)/\True
def aaO (a : ZSt) (b : ZFr) : Prop := (5 : Int) = 5/\a.f.key = b.key/\a.f.value = b.value/\jo/\jm/\(2 : Int) = 6/\a.f.epoch = b.epoch/\jo/\false = false/\(0 : Int) = 0/\true = false/\a.a.l.head.key = ByteArray.mk #[]/\a.a.l.head.id = 0/\a.a.l.head.ver = 0/\a.a.l.head.line = 0/\a.a.l.head.cls = 0/\a.f.line = b.line/\a.f.cls = b.cls/\0 = b.piece/\BZ a.f b
def aaP (a : ZFr) (b : ZFi) : Prop := (5 : Int) = 5/\a.key = b.f.key/\a.value = b.f.value/\jo/\jm/\(6 : Int) = 2/\a.epoch = b.f.epoch/\jo/\false = false/\(0 : Int) = 0/\false = true/\ByteArray.mk #[] = b.l.head.key/\0 = b.l.head.id/\0 = b.l.head.ver/\0 = b.l.head.line/\0 = b.l.head.cls/\a.line = b.f.line/\a.cls = b.f.cls/\a.piece = 0/\BZ a b.f
def qG : Prop := True/\True/\True/\0 = 0/\True/\True/\True/\True
def aaQ (a : ZFr) (b : ZFr) : Prop := (5 : Int) = 5/\a.key = b.key/\a.value = b.value/\jo/\jm/\(6 : Int) = 6/\a.epoch = b.epoch/\jo/\false = false/\(0 : Int) = 0/\false = false/\jo/\(0 : Int) = 0/\(0 : Int) = 0/\(0 : Int) = 0/\(0 : Int) = 0/\(-(1 : Int)) = (-(1 : Int))/\Cb a b
def aaR (a : ZFr) (b : ZFr) : Prop := (5 : Int) = 5/\a.key = b.key/\a.value = b.value/\jo/\jm/\(6 : Int) = 6/\a.epoch = b.epoch/\jo/\false = false/\(0 : Int) = 0/\false = false/\jo/\(0 : Int) = 0/\(0 : Int) = 0/\(0 : Int) = 0/\(0 : Int) = 0/\a.line = b.line/\Cb a b
def aaS (a : ZFi) (b : ZSt) : Prop := 0 = 0/\(a.t : Int) = (b.t : Int)/\((5 : Int) = 5/\a.f.key = b.f.key/\a.f.value = b.f.value/\jo/\jm/\(1 : Int) = 1/\a.f.epoch = b.f.epoch/\jo/\false = false/\(0 : Int) = 0/\a.f.had = b.f.had/\yL a.f b.f)/\True
def aaT (a : ZRt) (b : ZSt) : Prop := 0 = 0/\(a.t : Int) = (b.t : Int)/\((5 : Int) = 5/\a.f.key = b.f.key/\a.f.value = b.f.value/\jo/\jm/\(5 : Int) = 5/\a.f.epoch = b.f.epoch/\jo/\false = false/\(0 : Int) = 0/\true = true/\yL a.f b.f)/\True
def aaU (a : ZRt) (b : ZSt) : Prop := 0 = 0/\(a.t : Int) = (b.t : Int)/\((4 : Int) = 4/\a.f.key = b.f.key/\a.f.value = b.f.value/\jo/\jm/\(5 : Int) = 5/\a.f.epoch = b.f.epoch/\aaK a.f b.f)/\True
def aaV (a : ZSt) (b : ZRt) : Prop := (4 : Int) = 4/\a.f.key = b.f.key/\a.f.value = b.f.value/\jo/\jm/\(5 : Int) = 5/\a.a.c.now = b.c.now/\aaK a.f b.f
def sS (a : ClkM) (b : ClkM) : Prop := ownM (a.os 0) = ownM (b.os 0)
def aaW (a : ClkM) (b : ClkM) : Prop := (True/\True/\True/\0 = 0/\True/\True/\True/\True/\True/\True/\True/\True)/\sS a b/\True
def zX (x : ZSt) : Prop :=
 ∃ x_1 : ZRt,Hd (x_1.c.ok/\x_1.t < x_1.c.t/\x_1.c.now ≠ x_1.f.epoch/\0<=x_1.f.line)/\aaU x_1 x/\aaW x_1.c x.a.c/\∀ y : Unit,True->∃ y_1 : Unit,True/\aaV x x_1/\AZ x.a/\lD/\lF x.a.d/\qF x.a.p/\lC x.a.r/\sS x.a.c x_1.c/\ownM x.a.b.os = ownM x.a.b.os/\ownM tabE = ownM tabE/\qE/\ownM x.a.l.os = ownM x.a.l.os/\True
theorem OX (x : ZSt) : zX x = ctrT zV (pX.N.args x) (hO 10 (dN 1 (pX.N.l x))) (fun v h' => dA 1 x v h' pX.N.outs) := by kernel_rfl
def zY (x : ZSt) : Prop :=
 ∃ x_1 : ZRt,Hd (x_1.c.ok/\x_1.t < x_1.c.t/\x_1.c.now ≠ x_1.f.epoch/\0<=x_1.f.line)/\aaU x_1 x/\aaW x_1.c x.a.c/\∀ y : Unit,True->∃ y_1 : Unit,True/\aaV x x_1/\A8 x.a/\lD/\lF x.a.d/\qF x.a.p/\lC x.a.r/\sS x.a.c x_1.c/\ownM x.a.b.os = ownM x.a.b.os/\ownM tabE = ownM tabE/\qE/\ownM x.a.l.os = ownM x.a.l.os/\Kz x.a
theorem OY (x : ZSt) : zY x = ctrT zV (pX.P.args x) (hO 11 (dN 1 (pX.P.l x))) (fun v h' => dA 1 x v h' pX.P.outs) := by kernel_rfl
def zZ (x : ZSt) : Prop :=
 ∃ x_1 : ZRt,Hd x_1.bad/\aaT x_1 x/\((True/\True/\True/\0 = 0/\qG)/\sS x_1.c x.a.c/\oV x_1.l x.a.l)/\∀ y : Unit,True->∃ y_1 : Unit,True/\aaL x x_1/\AZ x.a/\lD/\lF x.a.d/\qF x.a.p/\lC x.a.r/\sS x.a.c x_1.c/\KA x.a x_1.l
theorem OZ (x : ZSt) : zZ x = ctrT zW (pY.N.args x) (hO 10 (dN 1 (pY.N.l x))) (fun v h' => dA 1 x v h' pY.N.outs) := by kernel_rfl
def Aa (x : ZSt) : Prop :=
 ∃ x_1 : ZRt,Hd x_1.bad/\aaT x_1 x/\((True/\True/\True/\0 = 0/\qG)/\sS x_1.c x.a.c/\oV x_1.l x.a.l)/\∀ y : Unit,True->∃ y_1 : Unit,True/\aaL x x_1/\A8 x.a/\lD/\lF x.a.d/\qF x.a.p/\lC x.a.r/\sS x.a.c x_1.c/\adq x.a x_1.l
theorem O1 (x : ZSt) : Aa x = ctrT zW (pY.P.args x) (hO 11 (dN 1 (pY.P.l x))) (fun v h' => dA 1 x v h' pY.P.outs) := by kernel_rfl
def Gi (x : ZSt) : Prop :=
 ∃ x_1 : ZFi,Hd (x_1.l.ok/\(x_1.l.n = 0->x_1.f.line < 0))/\aaS x_1 x/\((True/\True/\True/\True/\qG)/\oV x_1.l x.a.l)/\(∀ y : Unit,Hd (x_1.l.n = 0)->(∃ y_1 : Unit,Hd (x.a.l.n = 0)/\aaR x.f x_1.f/\Uf x.a x_1.l) ∨ ∃ y_1 : Unit,Hd (x.a.l.n ≠ 0)/\aaO x x_1.f/\Uf x.a x_1.l)/\∀ y : Unit,Hd (x_1.l.n ≠ 0)->(∃ y_1 : Unit,Hd (x.a.l.n = 0)/\aaP x.f x_1/\Uf x.a x_1.l) ∨ ∃ y_1 : Unit,Hd (x.a.l.n ≠ 0)/\aaM x x_1/\Uf x.a x_1.l
theorem Uh (x : ZSt) : Gi x = ctrT ahY (yJ.N.args x) (hO 10 (dN 1 (yJ.N.l x))) (fun v h' => dA 1 x v h' yJ.N.outs) := by kernel_rfl
def Gj (x : ZSt) : Prop :=
 ∃ x_1 : ZFi,Hd (x_1.l.ok/\(x_1.l.n = 0->x_1.f.line < 0))/\aaS x_1 x/\((True/\True/\True/\True/\qG)/\oV x_1.l x.a.l)/\(∀ y : Unit,Hd (x_1.l.n = 0)->(∃ y_1 : Unit,Hd (x.a.l.n = 0)/\aaR x.f x_1.f/\Ug x.a x_1.l) ∨ ∃ y_1 : Unit,Hd (x.a.l.n ≠ 0)/\aaO x x_1.f/\Ug x.a x_1.l)/\∀ y : Unit,Hd (x_1.l.n ≠ 0)->(∃ y_1 : Unit,Hd (x.a.l.n = 0)/\aaP x.f x_1/\Ug x.a x_1.l) ∨ ∃ y_1 : Unit,Hd (x.a.l.n ≠ 0)/\aaM x x_1/\Ug x.a x_1.l
theorem Ui (x : ZSt) : Gj x = ctrT ahY (yJ.P.args x) (hO 11 (dN 1 (yJ.P.l x))) (fun v h' => dA 1 x v h' yJ.P.outs) := by kernel_rfl
def Gl (x : ahZ) : Prop :=
 ∃ x_1 : ZGb,Hd (x_1.pb.ok/\x_1.l.ok/\x_1.l.n = 0)/\aaN x_1 x/\((True/\0 = 0/\True/\True/\qG)/\ownM x_1.p.os = ownM x.a.p.os/\oV x_1.l x.a.l)/\∀ y : Unit,True->∃ y_1 : Unit,True/\aaQ x.f x_1.f/\AZ x.a/\lD/\lF x.a.d/\ownM (cO.os (x.a.p.give x.i x.k)) = ownM (cO.os (x_1.p.give x_1.i x_1.k))/\lC x.a.r/\ownM (x.a.c.os 0) = ownM (x.a.c.os 0)/\KA x.a x_1.l
theorem Uj (x : ahZ) : Gl x = ctrT Ky (yK.N.args x) (hO 10 (dN 1 (yK.N.l x))) (fun v h' => dA 1 x v h' yK.N.outs) := by kernel_rfl
def Gm (x : ahZ) : Prop :=
 ∃ x_1 : ZGb,Hd (x_1.pb.ok/\x_1.l.ok/\x_1.l.n = 0)/\aaN x_1 x/\((True/\0 = 0/\True/\True/\qG)/\ownM x_1.p.os = ownM x.a.p.os/\oV x_1.l x.a.l)/\∀ y : Unit,True->∃ y_1 : Unit,True/\aaQ x.f x_1.f/\A8 x.a/\lD/\lF x.a.d/\ownM (cO.os (x.a.p.give x.i x.k)) = ownM (cO.os (x_1.p.give x_1.i x_1.k))/\lC x.a.r/\ownM (x.a.c.os 0) = ownM (x.a.c.os 0)/\adq x.a x_1.l
theorem Uk (x : ahZ) : Gm x = ctrT Ky (yK.P.args x) (hO 11 (dN 1 (yK.P.l x))) (fun v h' => dA 1 x v h' yK.P.outs) := by kernel_rfl
end Go.Proofs.YtenfleoejgjklaaGreat
end
section
namespace Go.Proofs.YtenfleoejgjklaaGreat
open Go SE
def mZ : Prop := Value.slice none 0 0 = Value.slice none 0 0
def ah0 : Prop := True/\True/\True/\0 = 0/\True/\True/\True/\True/\True/\True/\True/\True
def jg : Prop := ByteArray.mk #[] = ByteArray.mk #[]
def KC (a : ClkM) (b : ClkM) : Prop := ownM (a.os 0) = ownM (b.os 0)
def sU (a : ClkM) (b : ClkM) : Prop := KC a b/\True
def Ba (a : Int) : Prop := mZ/\mZ/\a = a/\True
def ak5 (a : ZRt) (b : ClkM) : Prop := True/\∃ y_1 : Unit,True/\((4 : Int) = 4/\a.f.key = a.f.key/\a.f.value = a.f.value/\jg/\mZ/\(5 : Int) = 6/\a.c.now = a.f.epoch/\jg/\false = false/\(0 : Int) = 0/\false = false/\a.f.old.key = a.f.old.key/\a.f.old.id = a.f.old.id/\a.f.old.ver = a.f.old.ver/\a.f.old.line = a.f.old.line/\a.f.old.cls = a.f.old.cls/\a.f.line = (-(1 : Int))/\a.f.cls = a.f.cls/\a.f.piece = a.f.piece/\mZ/\(0 : Int) = 0/\mZ/\a.f.code = 1/\a.f.found = a.f.found/\a.f.ans = ByteArray.mk #[]/\Ba a.f.aep)/\ah0/\sU a.c b
def ah1 (a : ZFr) : Prop := a.found = a.found/\emp = ByteArray.mk #[]/\Ba a.aep
def Ul : Prop := True/\True/\True/\0 = 0/\True/\True/\True/\True
def aaX : Prop := True/\True/\True/\0 = 0/\Ul
def ak6 (a : ZRt) (b : ClkM) : Prop := True/\∃ y_1 : Unit,True/\((5 : Int) = 5/\a.f.key = a.f.key/\a.f.value = a.f.value/\jg/\mZ/\(1 : Int) = 6/\a.c.now = a.f.epoch/\jg/\false = false/\(0 : Int) = 0/\false = true/\ByteArray.mk #[] = a.f.old.key/\0 = a.f.old.id/\0 = a.f.old.ver/\0 = a.f.old.line/\0 = a.f.old.cls/\a.f.line = (-(1 : Int))/\a.f.cls = a.f.cls/\a.f.piece = a.f.piece/\mZ/\(0 : Int) = 0/\mZ/\a.f.code = 1/\ah1 a.f)/\aaX/\KC a.c b/\ownM a.l.os = ownM a.l.os/\True
def ah2 (a : ZRt) (b : Int) : Prop := (5 : Int) = 5/\a.f.key = a.f.key/\a.f.value = a.f.value/\jg/\mZ/\(1 : Int) = 1/\a.c.now = b/\jg/\false = false/\(0 : Int) = 0/\false = false/\jg/\(0 : Int) = 0/\(0 : Int) = 0/\(0 : Int) = 0/\(0 : Int) = 0/\a.f.line = a.f.line/\a.f.cls = a.f.cls/\a.f.piece = a.f.piece/\mZ/\(0 : Int) = 0/\mZ/\a.f.code = a.f.code/\ah1 a.f
def KF (a : ZFr) : Prop := mZ/\(0 : Int) = 0/\mZ/\a.code = a.code/\a.found = a.found/\a.ans = a.ans/\Ba a.aep
def Gn (a : ZFr) : Prop := a.cls = a.cls/\a.piece = a.piece/\KF a
def Um (a : ZFr) : Prop := a.old.key = a.old.key/\a.old.id = a.old.id/\a.old.ver = a.old.ver/\a.old.line = a.old.line/\a.old.cls = a.old.cls/\a.line = a.line/\Gn a
def ah3 (a : ClkM) (b : ZRt) (c : ZLn) : Prop := True/\∃ x_5 : ClkM,Hd x_5.ok/\(0 = 0/\True)/\sU x_5 a/\∀ y_4 : Unit,True->∃ y_5 : Unit,True/\ah2 b x_5.now/\aaX/\KC b.c x_5/\ownM b.l.os = ownM c.os/\True
def aaY (a : ZFr) : Prop := a.key = a.key/\a.value = a.value/\jg/\mZ/\(7 : Int) = 7/\a.epoch = a.epoch/\jg/\false = false/\(0 : Int) = 0/\a.had = a.had/\Um a
def aaZ (a : ZRt) : Prop := AV.lit (Value.int .u64 a.f.epoch) = AV.lit (Value.int .u64 a.f.epoch)/\AV.lit (Value.int .i64 (a.t : Int)) = AV.lit (Value.int .i64 (a.t : Int))/\AV.ptr 0 0 = AV.ptr 0 0/\True
def aa0 (a : fV) (b : ZFr) : Prop := a.old.key = b.old.key/\a.old.id = b.old.id/\a.old.ver = b.old.ver/\a.old.line = b.old.line/\a.old.cls = b.old.cls/\(a.k : Int) = b.line/\a.c = b.cls/\True
def ah4 (a : ZGb) (b : ZLn) : Prop := (True/\0 = 0/\True/\True/\Ul)/\ownM (cO.os (a.p.give a.i a.k)) = ownM a.p.os/\ownM a.l.os = ownM b.os/\True
def KG : Prop := (0 : Int)<=0/\(0 : Int)<=0
def O4 (x : ZRt) : Prop :=
 ((0 : Int)<=5/\(0 : Int)<=1)/\aaZ x/\∃ x_1 : ClkM,Hd x_1.ok/\(0 = 0/\True)/\sU x_1 x.c/\∀ y : Unit,True->cP (decide ((x.t : Int) ≥ (x_1.t : Int))) (True/\(AV.lit (Value.int .i64 x.f.line) = AV.lit (Value.int .i64 x.f.line)/\True)/\cP (decide (x.f.line < 2)) (ak5 x x_1) (cP (decide (x.f.line ≥ (258 : Int))) (ak5 x x_1) (I64 (x.f.line - 2)/\((8 : Int) = 0->False)/\I64 (Int.tdiv (x.f.line - 2) (8 : Int))/\cP (decide (Int.tdiv (x.f.line - 2) (8 : Int) < 0)) (ak5 x x_1) False))) (∃ x_2 : fV,Hd True/\((0 = 0/\1 = 1/\1 = 1)/\True)/\(((4 : Int) = 4/\x_2.key = ByteArray.mk #[]/\x_2.v = x.f.value/\false = false/\aa0 x_2 x.f)/\True)/\∀ y_1 : Unit,True->∃ x_3 : ClkM,Hd x_3.ok/\(0 = 0/\True)/\sU x_3 x_1/\∀ y_2 : Unit,True->cP (bne x_3.now x.f.epoch) (True/\∃ x_4 : ClkM,Hd x_4.ok/\(0 = 0/\True)/\sU x_4 x_3/\∀ y_3 : Unit,True->∃ y_4 : Unit,True/\((4 : Int) = 4/\x.f.key = x.f.key/\x.f.value = x.f.value/\jg/\mZ/\(5 : Int) = 5/\x.c.now = x_4.now/\jg/\false = false/\(0 : Int) = 0/\false = false/\Um x.f)/\ah0/\sU x.c x_4) (KG/\I64 (1 : Int)/\KG/\False))
theorem XZ (x : ZRt) : O4 x = wpF Tryz.prog ap8 tt (noA x) 200 6 19 (zV.args x) (hO 2 (zV.os x)) (fun v h' => eU 2 x v h' zV.outs) := by kernel_rfl
def O5 (x : ZRt) : Prop :=
 ((0 : Int)<=5/\(0 : Int)<=1)/\aaZ x/\∃ x_1 : ClkM,Hd x_1.ok/\(0 = 0/\True)/\sU x_1 x.c/\∀ y : Unit,True->cP (decide ((x.t : Int) ≥ (x_1.t : Int))) (True/\(AV.lit (Value.int .i64 x.f.line) = AV.lit (Value.int .i64 x.f.line)/\True)/\cP (decide (x.f.line < 2)) (ak6 x x_1) (cP (decide (x.f.line ≥ (258 : Int))) (ak6 x x_1) (I64 (x.f.line - 2)/\((8 : Int) = 0->False)/\I64 (Int.tdiv (x.f.line - 2) (8 : Int))/\cP (decide (Int.tdiv (x.f.line - 2) (8 : Int) < 0)) (ak6 x x_1) False))) (∃ x_2 : fV,Hd True/\((0 = 0/\1 = 1/\1 = 1)/\True)/\(((5 : Int) = 5/\x_2.key = ByteArray.mk #[]/\x_2.v = x.f.value/\true = true/\aa0 x_2 x.f)/\True)/\∀ y_1 : Unit,True->∃ x_3 : ClkM,Hd x_3.ok/\(0 = 0/\True)/\sU x_3 x_1/\∀ y_2 : Unit,True->cP (bne x_3.now x.f.epoch) (True/\∃ x_4 : ClkM,Hd x_4.ok/\(0 = 0/\True)/\sU x_4 x_3/\∀ y_3 : Unit,True->∃ y_4 : Unit,True/\ah2 x x_4.now/\aaX/\KC x.c x_4/\ownM x.l.os = ownM x.l.os/\True) (KG/\∃ x_4 : ZLn,Hd x_4.ok/\(0 = 0/\True)/\(ownM x_4.os = ownM x.l.os/\True)/\∀ y_3 : Unit,True->cP (decide (x_4.n ≠ 0)) (cP (Bool.not (BEq.beq (ByteArray.toList x_4.head.key) (ByteArray.toList x.f.old.key) && (BEq.beq x_4.head.id x.f.old.id && (BEq.beq x_4.head.ver x.f.old.ver && (BEq.beq x_4.head.line x.f.old.line && (BEq.beq x_4.head.cls x.f.old.cls && true)))))) (ah3 x_3 x x_4) (I64 (1 : Int)/\KG/\False)) (ah3 x_3 x x_4)))
theorem X0 (x : ZRt) : O5 x = wpF Tryz.prog ap9 tt (noA x) 200 6 19 (zW.args x) (hO 3 (zW.os x)) (fun v h' => eU 3 x v h' zW.outs) := by kernel_rfl
def O6 (x : ZGb) : Prop :=
 ((0 : Int)<=1/\(0 : Int)<=5)/\∃ x_1 : ZLn,Hd x_1.ok/\(0 = 0/\True)/\(ownM x_1.os = ownM x.l.os/\True)/\∀ y : Unit,True->(AV.agg [AV.lit (Value.string x_1.head.key),AV.lit (Value.int .u64 x_1.head.id),AV.lit (Value.int .u64 x_1.head.ver),AV.lit (Value.int .i64 x_1.head.line),AV.lit (Value.int .i64 x_1.head.cls)] = AV.agg [AV.lit (Value.string x_1.head.key),AV.lit (Value.int .u64 x_1.head.id),AV.lit (Value.int .u64 x_1.head.ver),AV.lit (Value.int .i64 x_1.head.line),AV.lit (Value.int .i64 x_1.head.cls)]/\True)/\True/\cP (Bool.not (decide (x_1.n ≠ 0))) (cP (decide (x.pb.line ≥ (0 : Int))) ((AV.lit (Value.int .i64 x.pb.line) = AV.lit (Value.int .i64 x.pb.line)/\True)/\∃ x_2 : fZ,Hd x_2.ok/\(0 = 0/\x_2.line = x.pb.line/\True)/\(ownM x_2.p.os = ownM x.p.os/\True)/\∀ y_1 : Unit,True->True/\True/\∃ y_2 : Unit,True/\((5 : Int) = 5/\x.f.key = x.f.key/\x.f.value = x.f.value/\jg/\mZ/\(6 : Int) = 6/\x.f.epoch = x.f.epoch/\jg/\false = false/\(0 : Int) = 0/\false = decide (x_1.n ≠ 0)/\ByteArray.mk #[] = x_1.head.key/\0 = x_1.head.id/\0 = x_1.head.ver/\0 = x_1.head.line/\0 = x_1.head.cls/\(-(1 : Int)) = (-(1 : Int))/\Gn x.f)/\(True/\0 = 0/\True/\True/\Ul)/\ownM (cO.os (x.p.give x.i x.k)) = ownM (cO.os (x_2.p.give x_2.i x_2.k))/\ownM x.l.os = ownM x_1.os/\True) (∃ y_1 : Unit,True/\((5 : Int) = 5/\x.f.key = x.f.key/\x.f.value = x.f.value/\jg/\mZ/\(6 : Int) = 6/\x.f.epoch = x.f.epoch/\jg/\false = false/\(0 : Int) = 0/\false = decide (x_1.n ≠ 0)/\ByteArray.mk #[] = x_1.head.key/\0 = x_1.head.id/\0 = x_1.head.ver/\0 = x_1.head.line/\0 = x_1.head.cls/\(-(1 : Int)) = x.pb.line/\Gn x.f)/\ah4 x x_1)) (∃ y_1 : Unit,True/\((5 : Int) = 5/\x.f.key = x.f.key/\
 x.f.value = x.f.value/\jg/\mZ/\(6 : Int) = 2/\x.f.epoch = x.f.epoch/\jg/\false = false/\(0 : Int) = 0/\false = decide (x_1.n ≠ 0)/\ByteArray.mk #[] = x_1.head.key/\0 = x_1.head.id/\0 = x_1.head.ver/\0 = x_1.head.line/\0 = x_1.head.cls/\(-(1 : Int)) = x.pb.line/\x.f.cls = x.f.cls/\x.f.piece = 0/\KF x.f)/\ah4 x x_1)
theorem X3 (x : ZGb) : O6 x = wpF Tryz.prog aqb tt (noA x) 200 6 19 (Ky.args x) (hO 3 (Ky.os x)) (fun v h' => eU 3 x v h' Ky.outs) := by kernel_rfl
def X4 (x : ZSt) : Prop :=
 ∃ y : Unit,True/\((4 : Int) = 4/\aaY x.f)/\ownM x.a.os = ownM x.a.os/\True
theorem adr (x : ZSt) : X4 x = wpF Tryz.prog yE tt (noA x) 200 6 19 ((Ue 4).args x) (hO 1 ((Ue 4).os x)) (fun v h' => eU 1 x v h' (Ue 4).outs) := by kernel_rfl
def X5 (x : ZSt) : Prop :=
 ∃ y : Unit,True/\((5 : Int) = 5/\aaY x.f)/\ownM x.a.os = ownM x.a.os/\True
theorem ads (x : ZSt) : X5 x = wpF Tryz.prog yE tt (noA x) 200 6 19 ((Ue 5).args x) (hO 1 ((Ue 5).os x)) (fun v h' => eU 1 x v h' (Ue 5).outs) := by kernel_rfl
end Go.Proofs.YtenfleoejgjklaaGreat
end
section
namespace Go.Proofs.YtenfleoejgjklaaGreat
open Go SE
set_option linter.unusedSimpArgs false
noncomputable def ZRt.chg (x : ZRt) (b : Bool) : fV := ⟨newArn 10 1 (uj 10),x.t,x.f.epoch,x.f.value,⟨#[]⟩,b,x.f.old,x.f.line.toNat,x.f.cls⟩
theorem O7 (x : ZRt) (hx : x.c.ok/\x.t < x.c.t/\x.c.now ≠ x.f.epoch/\0<=x.f.line) : O4 x := by
 obtain ⟨h1,h2,h3,h4⟩ := hx
 unfold O4
 simp only [aaZ,sU,ak5,aa0,jg,mZ,Um,ah0,KG,Gn,KF,Ba,KC]
 simp only [aY,aU,aT,ay,aH,bJ,bg,aN,aJ,au,aW,aV,bK,bC,bD,bF,bM,bf,bG,aZ,dY,aG,aK,ah,aj,aA,aC,aB,aF]
 exact ⟨by decide,x.c,h1,rfl,bH (fun h => absurd (aQ h) (by omega)) fun _ => ⟨x.chg false,⟨rfl,rfl,rfl,rfl,rfl,rfl,rfl,Int.toNat_of_nonneg h4,rfl⟩,x.c,h1,rfl,bH (fun _ => ⟨x.c,h1,rfl,rfl,rfl⟩) fun h => absurd (bne_eq_false_iff_eq.1 h) h3⟩⟩
theorem O8 (x : ZRt) (hx : x.bad) : O5 x := by
 obtain ⟨h1,h2,h3,h4,h5⟩ := hx
 unfold O5
 simp only [aaZ,sU,ak6,aa0,ah2,aaX,KC,KG,ah3,Ul,jg,mZ,ah1,Ba]
 simp only [aY,aU,aT,ay,aH,bJ,bg,aN,aJ,au,aW,aV,bK,bC,bD,bF,bM,bf,bG,aZ,dY,aG,aK,ah,aj,aA,aC,aB,aF]
 refine ⟨by decide,x.c,h1,rfl,bH (fun h => absurd (aQ h) (by omega)) fun _ => ⟨x.chg true,⟨rfl,rfl,rfl,rfl,rfl,rfl,rfl,Int.toNat_of_nonneg h5,rfl⟩,x.c,h1,rfl,bH (fun _ => ⟨x.c,h1,rfl,(by repeat' (first | exact rfl | refine And.intro ?_ ?_ | exact fun _ _ => rfl))⟩) fun h => ⟨by decide,x.l,h2,rfl,bH (fun hn => bH (fun _ => ⟨x.c,h1,rfl,(by repeat' (first | exact rfl | refine And.intro ?_ ?_ | exact fun _ _ => rfl))⟩) fun hb => ?_) fun _ => ⟨x.c,h1,rfl,(by repeat' (first | exact rfl | refine And.intro ?_ ?_ | exact fun _ _ => rfl))⟩⟩⟩⟩
 exfalso
 have hn := aQ hn
 have hnow := bne_eq_false_iff_eq.1 h
 rcases h4 with h4 | h4 | h4
 ·exact h4 hnow
 ·exact hn h4
 ·simp only [Bool.not_eq_false',aI,beq_iff_eq] at hb
  exact h4 (dw.ext5 ((Zt _ _).1 (beq_iff_eq.2 hb.1)) hb.2.1 hb.2.2.1 hb.2.2.2.1 hb.2.2.2.2.1)
theorem O9 (x : ZGb) (hx : x.pb.ok/\x.l.ok/\x.l.n = 0) : O6 x := by
 obtain ⟨h1,h2,h3⟩ := hx
 unfold O6
 simp only [jg,mZ,Gn,Ul,ah4,KF,Ba]
 simp only [aY,aU,aT,ay,aH,bJ,bg,aN,aJ,au,aW,aV,bK,bC,bD,bF,bM,bf,bG,aZ,dY,aG,aK,ah,aj,aA,aC,aB,aF]
 refine ⟨by decide,x.l,h2,rfl,bH (fun _ => bH (fun _ => ⟨x.pb,h1,rfl,rfl,?_,rfl,rfl⟩) fun h => ?_) fun h => ?_⟩
 ·rw [yu h3,h3]
  exact ⟨rfl,rfl,rfl,rfl,rfl,rfl⟩
 ·have h := aS h
  have : 0<=x.pb.line := by
   unfold fZ.line
   have := dP (x.pb.p.cls x.pb.i)
   rcases gI (x.pb.p.cls x.pb.i) with m | m | m | m | m <;> obtain ⟨m1,m2,m3⟩ := m <;> rw [m2] <;> omega
  omega
 ·simp [h3] at h
theorem Un (x : ZSt) : X4 x := by
 unfold X4
 simp only [aaY,jg,mZ,Um,Gn,KF,Ba]
 simp only [aY,aU,aT,ay,aH,bJ,bg,aN,aJ,au,aW,aV,bK,bC,bD,bF,bM,bf,bG,aZ,dY,aG,aK,ah,aj,aA,aC,aB,aF]
theorem Uo (x : ZSt) : X5 x := by
 unfold X5
 simp only [aaY,jg,mZ,Um,Gn,KF,Ba]
 simp only [aY,aU,aT,ay,aH,bJ,bg,aN,aJ,au,aW,aV,bK,bC,bD,bF,bM,bf,bG,aZ,dY,aG,aK,ah,aj,aA,aC,aB,aF]
theorem ak7 : eY Tryz.prog ap8 := .append jf (.cons (bT SB) (.cons (bT Df) (.cons (bT xX) .nil)))
theorem ak8 : eY Tryz.prog ap9 := .append jf (.cons (bT JI) (.cons (bT Df) (.cons (bT xX) (.cons (bT pU) .nil))))
theorem ak9 : eY Tryz.prog aqb := .append jf (.cons (bT pU) (.cons (bT anq) .nil))
theorem KH : bV Tryz.prog 19 zV := dX dI mixed ak7 noA 200 6 (fun _ => rfl) (fun _ => rfl) fun x hx => Eq.mp (XZ x) (O7 x (aY.1 hx))
theorem KI : bV Tryz.prog 19 zW := dX dI mixed ak8 noA 200 6 (fun _ => rfl) (fun _ => rfl) fun x hx => Eq.mp (X0 x) (O8 x (aY.1 hx))
theorem Ur : bV Tryz.prog 19 Ky := dX dI mixed ak9 noA 200 6 (fun _ => rfl) (fun _ => rfl) fun x hx => Eq.mp (X3 x) (O9 x (aY.1 hx))
theorem ala : bV Tryz.prog 19 (Ue 4) := dX dI mixed jf noA 200 6 (fun _ => rfl) (fun _ => rfl) fun x _ => Eq.mp (adr x) (Un x)
theorem alb : bV Tryz.prog 19 (Ue 5) := dX dI mixed jf noA 200 6 (fun _ => rfl) (fun _ => rfl) fun x _ => Eq.mp (ads x) (Uo x)
theorem Pg (x : ZFi) (hx : x.l.ok/\(x.l.n = 0->x.f.line < 0)) : Fz x := by
 obtain ⟨h1,h2⟩ := hx
 unfold Fz
 simp only [Fe,bU,cZ,dG,bI,kS,JR,kY,mV,rE,jl,oP]
 simp only [aY,aU,aT,ay,aH,bJ,bg,aN,aJ,au,aW,aV,bK,bC,bD,bF,bM,bf,bG,aZ,dY,aG,aK,ah,aj,aA,aC,aB,aF]
 refine ⟨by decide,x.l,h1,rfl,bH (fun h => ?_) fun h => .inr ?_⟩
 ·have hn : x.l.n = 0 := by simpa using h
  refine bH (fun h' => absurd (aQ h') (by have := h2 hn; omega)) fun _ => .inl ?_
  rw [yu hn]
  exact ⟨hn,⟨by rw [hn]; rfl,rfl,rfl,rfl,rfl,rfl⟩,rfl⟩
 ·have hn : x.l.n ≠ 0 := by simpa using h
  exact ⟨hn,⟨(decide_eq_true hn).symm,rfl,rfl,rfl,rfl,rfl⟩,rfl⟩
theorem Us : bV Tryz.prog 19 ahY := gG dI mixed aap noA 200 6 (fun _ => rfl) (fun _ => ⟨fun _ => rfl,fun _ => rfl,trivial⟩) fun x hx => Eq.mp (JW x) (Pg x (aY.1 hx))
end Go.Proofs.YtenfleoejgjklaaGreat
end
section
namespace Go.Proofs.YtenfleoejgjklaaGreat
open Go SE
structure ZBy where
 d : DevM
 b : dL
 ln : Nat
def lies (d : DevM) (b : dL) (ln : Nat) : Prop := ∀ q,q < 64 * b.dD->d.b ((ln + q / 64) * 193 + q % 64) = b.enc q
def ZBy.ok (x : ZBy) : Prop := x.d.ok/\x.b.may/\x.b.kind = 2/\x.ln + spn x.b.cls<=x.d.n/\lies x.d x.b x.ln
structure ZSh where
 d : DevM
 l : ZLn
 b : Nat->dL
def arnH : dF := ZH .any .any .any .any (.ptr 3 0) (.ptr 4 0) (.ptr 1 0)
noncomputable def ZSh.os (x : ZSh) : List dF := [arnH,Xy,.abs (ownM x.d.os),.abs (ownM tabE),.abs (ownM x.l.os)]
end Go.Proofs.YtenfleoejgjklaaGreat
end
section
namespace Go.Proofs.YtenfleoejgjklaaGreat
open Go SE
end Go.Proofs.YtenfleoejgjklaaGreat
end
section
namespace Go.Proofs.YtenfleoejgjklaaGreat
open Go SE
noncomputable def ah5 : vI := { X := lN,args := fun x => [.ptr 0 0,i64 x.t,(x.w.fr x.p).av 4 4 fJ],a := lN.a,k := 1,ex := fun _ => [],pre := fun x => Hd x.w.ok,outs := [
 { Y := Unit,post := fun x _ => Hd (x.p + 1 ≠ spn x.c),ret := fun x _ => (x.w.fr (x.p + 1)).av 4 4 fJ,a := fun x _ => x.a.Hw x.w.d',m := 1,ex := fun _ _ => [] },
 { Y := Unit,post := fun x _ => Hd (x.p + 1 = spn x.c),ret := fun x _ => (x.w.fr 0).av 4 5 fJ,a := fun x _ => x.a.Hw x.w.d',m := 1,ex := fun _ _ => [] }] }
theorem Ut : bV Tryz.prog 19 ah5.M.ctr := qj fun x hx => by
 have h := aY.1 hx.1
 by_cases hp : x.p = 0
 ·have e0 : (0 : Int) = (x.p : Int) := by omega
  refine ⟨_,XP,rfl,x,⟨aY.2 ⟨h,hp⟩,trivial⟩,by simp only [vI.M,vI.pc,jw.ctr,ah5,gK,e0],rfl,fun v h' hh => ?_⟩
  rcases qW hh with ⟨y,h0,h1,h2⟩ | ⟨y,h0,h1,h2⟩
  ·exact fK ⟨(),aY.2 (by have := aY.1 h0; omega),h1.trans (by show (x.w.fr 1).av 4 4 fJ = (x.w.fr (x.p + 1)).av 4 4 fJ; rw [hp]; rfl),h2⟩
  ·exact Ru ⟨(),aY.2 (by have := aY.1 h0; omega),h1,h2⟩
 ·refine ⟨_,XY,rfl,x,⟨aY.2 ⟨h,hp⟩,trivial⟩,rfl,rfl,fun v h' hh => hh⟩
noncomputable def aqd (k ph : Int) (b : Bool) : WTr :=
 bif decide (k = 4) then
  bif decide (ph = 0) then ctrT (iQ 4).M.ctr else bif decide (ph = 3) then ctrT (lM 4).M.ctr else bif decide (ph = 4) then ctrT ah5.M.ctr else bif decide (ph = 5) then ctrT ahN else ctrT (iR 4).M.ctr
 else
  bif decide (ph = 0) then ctrT (iQ 5).M.ctr else bif decide (ph = 1) then ctrT zy.M.ctr else bif decide (ph = 2) then (bif b then ctrT qA.M.ctr else ctrT qy.M.ctr) else
  bif decide (ph = 3) then ctrT (lM 5).M.ctr else bif decide (ph = 4) then ctrT (gK 5).M.ctr else bif decide (ph = 5) then ctrT ahO else ctrT (iR 5).M.ctr
theorem ng {P : Program} {f : FuncId} (b : Bool) {T U : WTr} (hT : ∀ args h K,T args h K->Sp P f args h K) (hU : ∀ args h K,U args h K->Sp P f args h K) : ∀ args h K,(bif b then T else U) args h K->Sp P f args h K := by
 cases b
 ·exact hU
 ·exact hT
theorem alc (k ph : Int) (b : Bool) : ∀ args h K,aqd k ph b args h K->Sp Tryz.prog 19 args h K :=
 ng _ (ng _ (bT Kt) (ng _ (bT TW) (ng _ (bT Ut) (ng _ (bT aaI) (bT Kv)))))
  (ng _ (bT Ku) (ng _ (bT ak4) (ng _ (ng _ (bT Ub) (bT Ua)) (ng _ (bT TY) (ng _ (bT Gh) (ng _ (bT aaJ) (bT Kw)))))))
def intL (l : List AV) (i : Nat) : Int := match l[i]? with
 | some (AV.lit (.int _ z)) => z
 | _ => 0
def hasB (l : List AV) : Bool := match l[19]? with
 | some (AV.slW _ _ _ _) => true
 | _ => false
noncomputable def ah6 : WTr := fun args h K => match args with
 | [a,t,.agg l] => aqd (intL l 0) (intL l 5) (hasB l) [a,t,.agg l] h K
 | _ => False
theorem ah7 (args : List AV) (h : Heap) (K : AV->Heap->Prop) (hq : ah6 args h K) : Sp Tryz.prog 19 args h K := by
 unfold ah6 at hq
 split at hq
 ·exact alc _ _ _ _ _ _ hq
 ·exact hq.elim
structure ZCl where
 k : Int
 key : ByteArray
 value : ByteArray
 to : ByteArray
def ZCl.l (x : ZCl) : List AV := [i64 x.k,.lit (.string x.key),.lit (.string x.value),.lit (.string x.to),fJ]
def ZCl.fr (x : ZCl) : List AV := x.l ++ [i64 0,u64 0,.lit (.string ⟨#[]⟩),boo false,i64 0,boo false,.lit (.string ⟨#[]⟩),u64 0,u64 0,i64 0,i64 0,i64 (-1),i64 0,i64 0,fJ,i64 0,fJ,i64 0,boo false,.lit (.string ⟨#[]⟩),fJ,fJ,u64 0]
noncomputable def KJ : Ctr := det ZCl (fun x => [.agg x.l]) 0 (fun _ => []) (fun _ => True) (fun x => .agg x.fr) 0 (fun _ => [])
def beginT : WTr := fun args h K => match args with
 | [.agg [.lit (.int .i64 k),.lit (.string key),.lit (.string v),.lit (.string to),.lit (.slice none 0 0)]] => K (.agg (ZCl.mk k key v to).fr) h
 | _ => False
def f0 (key v : ByteArray) : ZFr := ⟨key,v,0,false,oz,-1,0,0,0,false,⟨#[]⟩,0⟩
def aon (code : Int) (found : Bool) (v : ByteArray) (ep : Int) : AV := .agg [i64 code,boo found,.lit (.string v),fJ,fJ,u64 ep]
structure ZRS where
 a : ZArn
 f : ZFr
 n : Nat
 p : Nat
def frSt (f : ZFr) (k ph : Int) (b : AV) : dF := .cells 45 (.av (f.l k ph b))
def phAt (h : Heap) : Int := match cellAt h 3 5 with
 | some (.lit (.int _ z)) => z
 | _ => -1
def byAt (h : Heap) : Bool := match cellAt h 3 19 with
 | some (.slW _ _ _ _) => true
 | _ => false
noncomputable def Cc (k ph : Int) (iv : ZRS->Prop) : CZ := { σ := ZRS,fr := fun s => [(10,i64 s.n)],ob := fun s => [(0,some (.abs (ownM s.a.os))),(3,some (frSt s.f k ph fJ))],inv := fun s => Hd (1<=s.n/\s.n<=50/\iv s),meas := fun s => 101 - s.n,test := fun _ h => decide (phAt h = ph) && !byAt h }
structure iI where
 a : ZArn
 t : Nat
 key : ByteArray
 v : ByteArray
 b : dL
namespace iI
def c (x : iI) (k : Int) : Int := if k = 4 then ned x.v.size else 0
def a1 (x : iI) : ZArn := x.a.nT x.t x.a.r.now
def f1 (x : iI) : ZFr := { f0 x.key x.v with epoch := x.a.c.now }
def ln (x : iI) (k : Int) (i j : Nat) : Nat := 2 + i * 8 + j * (spn (x.c k)).toNat
noncomputable def dW (x : iI) (k : Int) (i j : Nat) : Nat->DevM
 | 0 => x.a.d
 | p + 1 => ZWr.d' ⟨x.dW k i j p,x.t,x.f1,x.ln k i j,x.c k,p⟩
noncomputable def a2 (x : iI) (k : Int) (i j p : Nat) : ZArn := (x.a1.J7 (x.a.p.take (x.c k) i j)).Hw (x.dW k i j p)
def sp (x : iI) (k : Int) : Nat := (spn (x.c k)).toNat
noncomputable def pb (x : iI) (k : Int) (i j : Nat) (f : ZFr) : ZPb := ⟨x.a2 k i j (x.sp k),{ f with cls := x.c k },x.t,x.ln k i j⟩
noncomputable def aE (x : iI) (i j : Nat) : ZArn := (x.pb 4 i j x.f1).chg.enq.nT x.t 0
def f2 (x : iI) : ZFr := { x.f1 with had := true,old := x.a.l.head,ans := x.b.value }
noncomputable def aD (x : iI) (i j : Nat) : ZArn := (x.pb 5 i j x.f2).chg.deq.nT x.t 0
end iI
noncomputable def annE (x : iI) : FuncId->uU := fun f => bif Nat.beq f 15 then (fun b _ _ => bif Nat.beq b 0 then [
 Cc 4 0 (fun s => s.n = 1/\s.a = x.a/\s.f = f0 x.key x.v),
 Cc 4 3 (fun s => s.n = 2/\s.a = x.a1/\s.f = x.f1/\x.v.size<=400),
 Cc 4 4 (fun s => x.v.size<=400/\s.p < spn (x.c 4)/\s.n = 3 + s.p/\∃ i j,x.a.p.takes (x.c 4) i j/\s.a = x.a2 4 i j s.p/\s.f = { x.f1 with line := x.ln 4 i j,cls := x.c 4,piece := s.p }),
 Cc 4 5 (fun s => x.v.size<=400/\s.n = 3 + x.sp 4/\∃ i j,x.a.p.takes (x.c 4) i j/\s.a = x.a2 4 i j (x.sp 4)/\s.f = { x.f1 with line := x.ln 4 i j,cls := x.c 4 }),
 Cc 4 6 (fun s => x.v.size<=400/\((∀ i,i < x.a.p.n->x.a.p.cls i ≠ -1/\x.a.p.full (x.c 4) i)/\s.a = x.a1/\s.f = { x.f1 with cls := x.c 4,code := 4 } ∨ s.n = 4 + x.sp 4/\∃ i j,x.a.p.takes (x.c 4) i j/\s.a = (x.pb 4 i j x.f1).chg.enq/\s.f = { x.f1 with cls := x.c 4,aep := x.a.c.now }))] else []) else fun _ _ _ => []
noncomputable def annD (x : iI) : FuncId->uU := fun f => bif Nat.beq f 15 then (fun b _ _ => bif Nat.beq b 0 then [
 Cc 5 0 (fun s => s.n = 1/\s.a = x.a/\s.f = f0 x.key x.v),
 Cc 5 1 (fun s => s.n = 2/\s.a = x.a1/\s.f = x.f1),
 Cc 5 2 (fun s => s.n = 3/\s.a = x.a1/\x.a.l.n ≠ 0/\s.f = { x.f1 with had := true,old := x.a.l.head }),
 { σ := ZRS,fr := fun s => [(10,i64 s.n)],ob := fun s => [(0,some (.abs (ownM s.a.os))),(3,some (frSt s.f 5 2 (.slW 4 0 1 (64 * s.p)))),(4,some (JJ x.b.enc (64 * s.p)))],nx := 1,inv := fun s => Hd (1<=s.p/\s.p < spn x.b.cls/\s.n = 3 + s.p/\s.a = x.a1/\x.a.l.n ≠ 0/\s.f = { x.f1 with had := true,old := x.a.l.head,piece := s.p }),meas := fun s => 101 - s.n,test := fun _ h => decide (phAt h = 2) && byAt h },
 Cc 5 3 (fun s => s.n = 3 + x.b.dD/\s.a = x.a1/\x.a.l.n ≠ 0/\∃ q,s.f = { x.f2 with piece := q }),
 Cc 5 4 (fun s => s.n = 4 + x.b.dD/\x.a.l.n ≠ 0/\∃ i j,x.a.p.takes 0 i j/\s.a = x.a2 5 i j 0/\s.f = { x.f2 with line := x.ln 5 i j,cls := 0,piece := 0 }),
 Cc 5 5 (fun s => s.n = 5 + x.b.dD/\x.a.l.n ≠ 0/\∃ i j,x.a.p.takes 0 i j/\s.a = x.a2 5 i j (x.sp 5)/\s.f = { x.f2 with line := x.ln 5 i j,cls := 0,piece := 0 }),
 Cc 5 6 (fun s => (x.a.l.n = 0/\s.a = x.a1/\s.f = x.f1 ∨ x.a.l.n ≠ 0/\(∀ i,i < x.a.p.n->x.a.p.cls i ≠ -1/\x.a.p.full 0 i)/\s.a = x.a1/\(∃ q,s.f = { x.f2 with cls := 0,ans := ⟨#[]⟩,code := 4,piece := q }) ∨ s.n = 6 + x.b.dD/\x.a.l.n ≠ 0/\∃ i j,x.a.p.takes 0 i j/\s.a = (x.pb 5 i j x.f2).chg.deq/\s.f = { x.f2 with cls := 0,piece := 0,found := true,aep := x.a.c.now }))] else []) else fun _ _ _ => []
def ald (k : Int) (key v : ByteArray) : AV := .agg [i64 k,.lit (.string key),.lit (.string v),.lit (.string ⟨#[]⟩),fJ]
noncomputable def runE (pre : iI->Prop) : Ctr := { X := iI,args := fun x => [.ptr 0 0,i64 x.t,ald 4 x.key x.v],k := 1,os := fun x => [.abs (ownM x.a.os)],pre := fun x => Hd (pre x),outs := [
 { Y := Nat,post := fun x _ => Hd (400 < x.v.size),ret := fun _ n => .tup [aon 5 false ⟨#[]⟩ 0,i64 n,boo true],m := 1,os := fun x _ => [.abs (ownM x.a.os)] },
 { Y := Nat,post := fun x _ => Hd (x.v.size<=400/\∀ i,i < x.a.p.n->x.a.p.cls i ≠ -1/\x.a.p.full (x.c 4) i),ret := fun _ n => .tup [aon 4 false ⟨#[]⟩ 0,i64 n,boo true],m := 1,os := fun x _ => [.abs (ownM x.a.os)] },
 { Y := Nat × Nat,post := fun x y => Hd (x.v.size<=400/\x.a.p.takes (x.c 4) y.1 y.2),ret := fun x _ => .tup [aon 0 false ⟨#[]⟩ x.a.c.now,i64 (4 + x.sp 4 : Nat),boo true],m := 1,os := fun x y => [.abs (ownM (x.aE y.1 y.2).os)] }] }
noncomputable def runD (pre : iI->Prop) : Ctr := { X := iI,args := fun x => [.ptr 0 0,i64 x.t,ald 5 x.key x.v],k := 1,os := fun x => [.abs (ownM x.a.os)],pre := fun x => Hd (pre x),outs := [
 { Y := Nat,post := fun x _ => Hd (x.a.l.n = 0),ret := fun _ n => .tup [aon 0 false ⟨#[]⟩ 0,i64 n,boo true],m := 1,os := fun x _ => [.abs (ownM x.a.os)] },
 { Y := Nat,post := fun x _ => Hd (x.a.l.n ≠ 0/\∀ i,i < x.a.p.n->x.a.p.cls i ≠ -1/\x.a.p.full 0 i),ret := fun _ n => .tup [aon 4 false ⟨#[]⟩ 0,i64 n,boo true],m := 1,os := fun x _ => [.abs (ownM x.a.os)] },
 { Y := Nat × Nat,post := fun x y => Hd (x.a.l.n ≠ 0/\x.a.p.takes 0 y.1 y.2),ret := fun x _ => .tup [aon 0 true x.b.value x.a.c.now,i64 (6 + x.b.dD : Nat),boo true],m := 1,os := fun x y => [.abs (ownM (x.aD y.1 y.2).os)] }] }
noncomputable def ah8 : WTbl := [(17,beginT),(19,ah6)]
end Go.Proofs.YtenfleoejgjklaaGreat
end
section
namespace Go.Proofs.YtenfleoejgjklaaGreat
open Go SE
def fA : Prop := Value.slice none 0 0 = Value.slice none 0 0
def fB : Prop := ByteArray.mk #[] = ByteArray.mk #[]
def X6 : Prop := false = false/\fB/\fA/\fA/\(0 : Int) = 0/\True
def jW : Prop := (0 : Int) = 0/\X6
def uH (a : ByteArray) : Prop := a = ByteArray.mk #[]
def KL (a : Nat) : Prop := (a : Int) = 0/\true = false/\True
def iE (a : ZArn) (b : ZArn) : Prop := ownM a.os = ownM b.os/\True
def aa1 (a : ZArn) : Prop := Hd (a.l.n ≠ 0/\∀ i : Nat,i < a.p.n->a.p.cls i ≠ (-(1 : Int))/\a.p.full (0 : Int) i)
def Ph (a : iI) (b : ZArn) : Prop := (∃ y : Nat,Hd (a.a.l.n = 0)/\(jW/\KL y)/\iE a.a b) ∨ (∃ y : Nat,aa1 a.a/\(((4 : Int) = 0/\X6)/\KL y)/\iE a.a b) ∨ ∃ y : Prod Nat Nat,Hd (a.a.l.n ≠ 0/\a.a.p.takes (0 : Int) y.1 y.2)/\(((0 : Int) = 0/\true = false/\uH a.b.value/\fA/\fA/\a.a.c.now = 0/\True)/\((6 + a.b.dD : Nat) : Int) = 0/\true = false/\True)/\ownM (ZArn.os (a.aD y.1 y.2)) = ownM b.os/\True
def sV (a : Int) (b : Int) : Prop := fA/\fA/\a = b/\True
def adt (a : ZFr) (b : ZFr) : Prop := (0 : Int) = 0/\fA/\a.code = b.code/\a.found = b.found/\a.ans = b.ans/\sV a.aep b.aep
def Ce (a : ZFr) (b : ZFr) : Prop := fA/\adt a b
def aa2 (a : iI) : Prop := Hd (a.v.size<=400/\∀ i : Nat,i < a.a.p.n->a.a.p.cls i ≠ (-(1 : Int))/\a.a.p.full (a.c (4 : Int)) i)
def aa3 (a : iI) (b : Prod Nat Nat) : Prop := Hd (a.v.size<=400/\a.a.p.takes (a.c (4 : Int)) b.1 b.2)
def KN (a : iI) (b : ZArn) : Prop := (∃ y : Nat,Hd (400 < a.v.size)/\(((5 : Int) = 0/\X6)/\KL y)/\iE a.a b) ∨ (∃ y : Nat,aa2 a/\(((4 : Int) = 0/\X6)/\KL y)/\iE a.a b) ∨ ∃ y : Prod Nat Nat,aa3 a y/\(((0 : Int) = 0/\false = false/\fB/\fA/\fA/\a.a.c.now = 0/\True)/\((4 + a.sp (4 : Int) : Nat) : Int) = 0/\true = false/\True)/\ownM (ZArn.os (a.aE y.1 y.2)) = ownM b.os/\True
def Uu (a : ZFr) (b : ZFr) : Prop := a.cls = b.cls/\a.piece = b.piece/\Ce a b
def Uw (a : ZFr) (b : ZFr) : Prop := fB/\false = false/\(0 : Int) = 0/\a.had = b.had/\a.old.key = b.old.key/\a.old.id = b.old.id/\a.old.ver = b.old.ver/\a.old.line = b.old.line/\a.old.cls = b.old.cls/\a.line = b.line/\Uu a b
def yM (a : ZFr) (b : ZFr) : Prop := a.epoch = b.epoch/\Uw a b
def Ux (a : ZRS) (b : iI) : Prop := Hd (1<=a.n/\a.n<=50/\(b.a.l.n = 0/\a.a = b.a1/\a.f = b.f1 ∨ b.a.l.n ≠ 0/\(∀ i : Nat,i < b.a.p.n->b.a.p.cls i ≠ (-(1 : Int))/\b.a.p.full (0 : Int) i)/\a.a = b.a1/\(∃ q : Int,a.f = ZFr.mk b.key b.v b.a.c.now true b.a.l.head (-(1 : Int)) (0 : Int) q (4 : Int) false (ByteArray.mk #[]) (0 : Int)) ∨ a.n = 6 + b.b.dD/\b.a.l.n ≠ 0/\∃ i : Nat,∃ j : Nat,b.a.p.takes (0 : Int) i j/\a.a = fV.deq (ZPb.chg (b.pb (5 : Int) i j b.f2))/\a.f = ZFr.mk b.key b.v b.a.c.now true b.a.l.head (-(1 : Int)) (0 : Int) (0 : Int) (0 : Int) true b.b.value b.a.c.now))
def aa4 (a : ZRS) (b : iI) : Prop := Hd (1<=a.n/\a.n<=50/\b.v.size<=400/\((∀ i : Nat,i < b.a.p.n->b.a.p.cls i ≠ (-(1 : Int))/\b.a.p.full (b.c (4 : Int)) i)/\a.a = b.a1/\a.f = ZFr.mk b.key b.v b.a.c.now false oz (-(1 : Int)) (b.c (4 : Int)) (0 : Int) (4 : Int) false (ByteArray.mk #[]) (0 : Int) ∨ a.n = 4 + b.sp (4 : Int)/\∃ i : Nat,∃ j : Nat,b.a.p.takes (b.c (4 : Int)) i j/\a.a = fV.enq (ZPb.chg (b.pb (4 : Int) i j b.f1))/\a.f = ZFr.mk b.key b.v b.a.c.now false oz (-(1 : Int)) (b.c (4 : Int)) (0 : Int) (0 : Int) false (ByteArray.mk #[]) b.a.c.now))
def aa5 (a : iI) : Prop := a.key = a.key/\a.v = a.v/\fB/\fA/\True
def Bc (a : iI) : Prop := (5 : Int) = 5/\aa5 a
def uI (a : iI) (b : ZArn) (c : ZArn) : Prop := jW/\Bc a/\iE b c
def Uy (a : ZRS) (b : iI) : Prop := Hd (1<=a.n/\a.n<=50/\a.n = 5 + b.b.dD/\b.a.l.n ≠ 0/\∃ i : Nat,∃ j : Nat,b.a.p.takes (0 : Int) i j/\a.a = b.a2 (5 : Int) i j (b.sp (5 : Int))/\a.f = ZFr.mk b.key b.v b.a.c.now true b.a.l.head ((b.ln (5 : Int) i j : Nat) : Int) (0 : Int) (0 : Int) (0 : Int) false b.b.value (0 : Int))
def aa6 (a : ZRS) (b : iI) : Prop := Hd (1<=a.n/\a.n<=50/\b.v.size<=400/\(a.p : Int) < spn (b.c (4 : Int))/\a.n = 3 + a.p/\∃ i : Nat,∃ j : Nat,b.a.p.takes (b.c (4 : Int)) i j/\a.a = b.a2 (4 : Int) i j a.p/\a.f = ZFr.mk b.key b.v b.a.c.now false oz ((b.ln (4 : Int) i j : Nat) : Int) (b.c (4 : Int)) (a.p : Int) (0 : Int) false (ByteArray.mk #[]) (0 : Int))
def uJ (a : ZFr) : Prop := false = a.found/\ByteArray.mk #[] = a.ans/\fA/\fA/\0 = a.aep/\True
def aa7 (a : ZRS) (b : iI) : Prop := Hd (1<=a.n/\a.n<=50/\a.n = 4 + b.b.dD/\b.a.l.n ≠ 0/\∃ i : Nat,∃ j : Nat,b.a.p.takes (0 : Int) i j/\a.a = b.a2 (5 : Int) i j 0/\a.f = ZFr.mk b.key b.v b.a.c.now true b.a.l.head ((b.ln (5 : Int) i j : Nat) : Int) (0 : Int) (0 : Int) (0 : Int) false b.b.value (0 : Int))
def ah9 (a : ZFr) (b : jJ) : Prop := fA/\(0 : Int) = 0/\fA/\a.code = b.f.code/\a.found = b.f.found/\a.ans = b.b.value/\sV a.aep b.f.aep
def aia (a : ZFr) (b : jJ) : Prop := a.epoch = b.f.epoch/\fB/\false = false/\(0 : Int) = 0/\a.had = true/\uH a.old.key/\a.old.id = b.b.id/\a.old.ver = b.b.ver/\a.old.line = (b.ln : Int)/\a.old.cls = b.b.cls/\a.line = b.f.line/\a.cls = b.f.cls/\a.piece = (b.p : Int) + 1/\ah9 a b
def aib (a : ZFr) (b : jJ) : Prop := a.epoch = b.f.epoch/\fB/\false = false/\(0 : Int) = 0/\a.had = true/\uH a.old.key/\a.old.id = b.b.id/\a.old.ver = b.b.ver/\a.old.line = (b.ln : Int)/\a.old.cls = b.b.cls/\a.line = b.f.line/\a.cls = b.f.cls/\a.piece = 1/\ah9 a b
def aa8 (a : ZFr) (b : iI) : Prop := a.key = b.key/\a.value = b.v/\fB/\fA/\(0 : Int) = 0/\a.epoch = 0/\fB/\false = false/\(0 : Int) = 0/\a.had = false/\uH a.old.key/\a.old.id = 0/\a.old.ver = 0/\a.old.line = 0/\a.old.cls = 0/\a.line = (-(1 : Int))/\a.cls = 0/\a.piece = 0/\fA/\(0 : Int) = 0/\fA/\a.code = 0/\a.found = false/\uH a.ans/\fA/\fA/\a.aep = 0/\True
def jh (a : Nat) (b : Nat) : Prop := (a : Int) = (b : Int) + 1/\True
def aa9 (a : ZRS) (b : iI) : Prop := Hd (1<=a.p/\(a.p : Int) < spn b.b.cls/\a.n = 3 + a.p/\a.a = b.a1/\b.a.l.n ≠ 0/\a.f = ZFr.mk b.key b.v b.a.c.now true b.a.l.head (-(1 : Int)) (0 : Int) (a.p : Int) (0 : Int) false (ByteArray.mk #[]) (0 : Int))
def abb (a : ZFr) (b : lN) : Prop := a.key = b.f.key/\a.value = b.f.value/\fB/\fA/\(5 : Int) = 5/\a.epoch = b.f.epoch/\fB/\false = false/\(0 : Int) = 0/\a.had = b.f.had/\a.old.key = b.f.old.key/\a.old.id = b.f.old.id/\a.old.ver = b.f.old.ver/\a.old.line = b.f.old.line/\a.old.cls = b.f.old.cls/\a.line = (b.ln : Int)/\a.cls = b.c/\a.piece = 0/\Ce a b.f
def abd (a : ZRS) (b : iI) : Prop := Hd (1<=a.n/\a.n<=50/\a.n = 3 + b.b.dD/\a.a = b.a1/\b.a.l.n ≠ 0/\∃ q : Int,a.f = ZFr.mk b.key b.v b.a.c.now true b.a.l.head (-(1 : Int)) (0 : Int) q (0 : Int) false b.b.value (0 : Int))
def aic (a : ZRS) (b : iI) : Prop := Hd (1<=a.n/\a.n<=50/\b.v.size<=400/\a.n = 3 + b.sp (4 : Int)/\∃ i : Nat,∃ j : Nat,b.a.p.takes (b.c (4 : Int)) i j/\a.a = b.a2 (4 : Int) i j (b.sp (4 : Int))/\a.f = ZFr.mk b.key b.v b.a.c.now false oz ((b.ln (4 : Int) i j : Nat) : Int) (b.c (4 : Int)) (0 : Int) (0 : Int) false (ByteArray.mk #[]) (0 : Int))
def lG (a : Nat) (b : Nat) : Prop := (a : Int) = (b : Int)
def uK (a : Nat) (b : Nat) : Prop := lG a b/\true = true/\True
def abe (a : ZPb) (b : ZFr) : Prop := a.f.old.key = b.old.key/\a.f.old.id = b.old.id/\a.f.old.ver = b.old.ver/\a.f.old.line = b.old.line/\a.f.old.cls = b.old.cls/\(a.ln : Int) = b.line/\Uu a.f b
def ji (a : Nat) : Prop := I64 ((a : Int) + 1)
def KO (a : ZRS) (b : iI) : Prop := Hd (1<=a.n/\a.n<=50/\a.n = 1/\a.a = b.a/\a.f = f0 b.key b.v)
def aie (a : ZRS) (b : iI) : Prop := Hd (1<=a.n/\a.n<=50/\a.n = 3/\a.a = b.a1/\b.a.l.n ≠ 0/\a.f = ZFr.mk b.key b.v b.a.c.now true b.a.l.head (-(1 : Int)) (0 : Int) (0 : Int) (0 : Int) false (ByteArray.mk #[]) (0 : Int))
def KP (a : ZArn) (b : ZSt) : Prop := ownM a.os = ownM (ZArn.os (b.a.nT b.t (0 : Int)))/\True
def jk (a : Nat) (b : Nat) : Prop := 101 - a < 101 - b
def abf (a : ZFr) (b : ZFr) : Prop := a.piece = b.piece/\fA/\(0 : Int) = 0/\fA/\a.code = 4/\a.found = b.found/\a.ans = emp/\sV a.aep b.aep
def KQ (a : ZArn) (b : lN) : Prop := ownM a.os = ownM (ZArn.os (b.a.Hw b.w.d'))/\True
def Bd (a : iI) : Prop := (4 : Int) = 4/\aa5 a
def Pj (x : ZCl) : Prop :=
 ∃ y : Unit,True/\(x.k = x.k/\x.key = x.key/\x.value = x.value/\x.to = x.to/\fA/\(0 : Int) = 0/\(0 : Int) = 0/\fB/\false = false/\(0 : Int) = 0/\false = false/\fB/\(0 : Int) = 0/\(0 : Int) = 0/\(0 : Int) = 0/\(0 : Int) = 0/\(-(1 : Int)) = (-(1 : Int))/\(0 : Int) = 0/\(0 : Int) = 0/\fA/\(0 : Int) = 0/\fA/\jW)/\True
theorem X7 (x : ZCl) : Pj x = wpF Tryz.prog [] tt (noA x) 200 6 17 (KJ.args x) (hO KJ.k (KJ.os x)) (fun v h' => eU KJ.k x v h' KJ.outs) := by kernel_rfl
def aif (x : iI) : Prop :=
 (∃ s : ZRS,KO s x/\True/\((s.n : Int) = 1/\True)/\((4 : Int) = 4/\aa8 s.f x)/\jW/\Bd x/\iE s.a x.a)/\(∀ s : ZRS,KO s x->cP (decide ((s.n : Int)<=100)) (∃ x_1 : ZSt,(Hd (x_1.a.r.ok/\x_1.a.c.ok/\x_1.t < x_1.a.r.t/\x_1.a.r.has x_1.t = 0)/\True)/\(0 = 0/\lG x_1.t x.t/\((4 : Int) = 4/\x_1.f.key = s.f.key/\x_1.f.value = s.f.value/\fB/\fA/\(0 : Int) = 0/\yM x_1.f s.f)/\True)/\iE x_1.a s.a/\(∀ y : Unit,Hd ((4 : Int) = 4/\400 < x_1.f.value.size)->(∃ y_1 : Nat,Hd (400 < x.v.size)/\(((5 : Int) = 5/\uJ x_1.f)/\uK y_1 s.n)/\iE x.a x_1.a) ∨ (∃ y_1 : Nat,aa2 x/\(((4 : Int) = 5/\uJ x_1.f)/\uK y_1 s.n)/\iE x.a x_1.a) ∨ ∃ y_1 : Prod Nat Nat,aa3 x y_1/\(((0 : Int) = 5/\false = x_1.f.found/\ByteArray.mk #[] = x_1.f.ans/\sV x.a.c.now x_1.f.aep)/\((4 + x.sp (4 : Int) : Nat) : Int) = (s.n : Int)/\true = true/\True)/\ownM (ZArn.os (x.aE y_1.1 y_1.2)) = ownM x_1.a.os/\True)/\∀ y : Unit,Hd ((4 : Int) = 4->x_1.f.value.size<=400)->ji s.n/\∃ s_1 : ZRS,Hd (1<=s_1.n/\s_1.n<=50/\s_1.n = 2/\s_1.a = x.a1/\s_1.f = x.f1/\x.v.size<=400)/\jk s_1.n s.n/\jh s_1.n s.n/\((4 : Int) = 4/\s_1.f.key = x_1.f.key/\s_1.f.value = x_1.f.value/\fB/\fA/\(3 : Int) = 3/\s_1.f.epoch = x_1.a.c.now/\Uw s_1.f x_1.f)/\jW/\Bd x/\ownM s_1.a.os = ownM (ZArn.os (x_1.a.nT x_1.t x_1.a.r.now))/\True) (KN x s.a))/\(∀ s : ZRS,Hd (1<=s.n/\s.n<=50/\s.n = 2/\s.a = x.a1/\s.f = x.f1/\x.v.size<=400)->cP (decide ((s.n : Int)<=100)) (∃ x_1 : ZSt,(Hd (x_1.a.p.ok/\x_1.f.value.size<=400)/\True)/\(0 = 0/\lG x_1.t x.t/\((4 : Int) = 4/\x_1.f.key = s.f.key/\x_1.f.value = s.f.value/\fB/\fA/\(3 : Int) = 3/\yM x_1.f s.f)/\
 True)/\iE x_1.a s.a/\(∀ y : Unit,Hd (∀ i : Nat,i < x_1.a.p.n->x_1.a.p.cls i ≠ (-(1 : Int))/\x_1.a.p.full (x_1.c (4 : Int)) i)->ji s.n/\∃ s_1 : ZRS,aa4 s_1 x/\jk s_1.n s.n/\jh s_1.n s.n/\((4 : Int) = 4/\s_1.f.key = x_1.f.key/\s_1.f.value = x_1.f.value/\fB/\fA/\(6 : Int) = 6/\s_1.f.epoch = x_1.f.epoch/\fB/\false = false/\(0 : Int) = 0/\s_1.f.had = x_1.f.had/\s_1.f.old.key = x_1.f.old.key/\s_1.f.old.id = x_1.f.old.id/\s_1.f.old.ver = x_1.f.old.ver/\s_1.f.old.line = x_1.f.old.line/\s_1.f.old.cls = x_1.f.old.cls/\s_1.f.line = x_1.f.line/\s_1.f.cls = x_1.c (4 : Int)/\abf s_1.f x_1.f)/\jW/\Bd x/\iE s_1.a x_1.a)/\∀ y : Prod Nat Nat,Hd (x_1.a.p.takes (x_1.c (4 : Int)) y.1 y.2)->ji s.n/\∃ s_1 : ZRS,aa6 s_1 x/\jk s_1.n s.n/\jh s_1.n s.n/\((4 : Int) = 4/\s_1.f.key = x_1.f.key/\s_1.f.value = x_1.f.value/\fB/\fA/\(4 : Int) = 4/\s_1.f.epoch = x_1.f.epoch/\fB/\false = false/\(0 : Int) = 0/\s_1.f.had = x_1.f.had/\s_1.f.old.key = x_1.f.old.key/\s_1.f.old.id = x_1.f.old.id/\s_1.f.old.ver = x_1.f.old.ver/\s_1.f.old.line = x_1.f.old.line/\s_1.f.old.cls = x_1.f.old.cls/\s_1.f.line = 2 + (y.1 : Int) * 8 + (y.2 : Int) * spn (x_1.c (4 : Int))/\s_1.f.cls = x_1.c (4 : Int)/\s_1.f.piece = 0/\Ce s_1.f x_1.f)/\jW/\Bd x/\ownM s_1.a.os = ownM (ZArn.os (x_1.a.J7 (x_1.a.p.take (x_1.c (4 : Int)) y.1 y.2)))/\True) (KN x s.a))/\(∀ s : ZRS,aa6 s x->cP (decide ((s.n : Int)<=100)) (∃ x_1 : lN,(Hd x_1.w.ok/\True)/\(0 = 0/\lG x_1.t x.t/\((4 : Int) = 4/\x_1.f.key = s.f.key/\x_1.f.value = s.f.value/\fB/\fA/\(4 : Int) = 4/\x_1.f.epoch = s.f.epoch/\fB/\false = false/\(0 : Int) = 0/\x_1.f.had = s.f.had/\x_1.f.old.key = s.f.old.key/\
 x_1.f.old.id = s.f.old.id/\x_1.f.old.ver = s.f.old.ver/\x_1.f.old.line = s.f.old.line/\x_1.f.old.cls = s.f.old.cls/\(x_1.ln : Int) = s.f.line/\x_1.c = s.f.cls/\(x_1.p : Int) = s.f.piece/\Ce x_1.f s.f)/\True)/\iE x_1.a s.a/\(∀ y : Unit,Hd ((x_1.p : Int) + 1 ≠ spn x_1.c)->ji s.n/\∃ s_1 : ZRS,aa6 s_1 x/\jk s_1.n s.n/\jh s_1.n s.n/\((4 : Int) = 4/\s_1.f.key = x_1.f.key/\s_1.f.value = x_1.f.value/\fB/\fA/\(4 : Int) = 4/\s_1.f.epoch = x_1.f.epoch/\fB/\false = false/\(0 : Int) = 0/\s_1.f.had = x_1.f.had/\s_1.f.old.key = x_1.f.old.key/\s_1.f.old.id = x_1.f.old.id/\s_1.f.old.ver = x_1.f.old.ver/\s_1.f.old.line = x_1.f.old.line/\s_1.f.old.cls = x_1.f.old.cls/\s_1.f.line = (x_1.ln : Int)/\s_1.f.cls = x_1.c/\s_1.f.piece = (x_1.p : Int) + 1/\Ce s_1.f x_1.f)/\jW/\Bd x/\KQ s_1.a x_1)/\∀ y : Unit,Hd ((x_1.p : Int) + 1 = spn x_1.c)->ji s.n/\∃ s_1 : ZRS,aic s_1 x/\jk s_1.n s.n/\jh s_1.n s.n/\((4 : Int) = 4/\abb s_1.f x_1)/\jW/\Bd x/\KQ s_1.a x_1) (KN x s.a))/\(∀ s : ZRS,aic s x->cP (decide ((s.n : Int)<=100)) (∃ x_1 : ZPb,Hd (x_1.chg.okE/\(∃ i : Nat,∃ j : Nat,x_1.chg.inP i j)/\∀ k : Nat,x_1.a.c.o k + 8 < 1099511627776)/\(0 = 0/\lG x_1.t x.t/\((4 : Int) = 4/\x_1.f.key = s.f.key/\x_1.f.value = s.f.value/\fB/\fA/\(5 : Int) = 5/\x_1.f.epoch = s.f.epoch/\fB/\false = false/\(0 : Int) = 0/\false = s.f.had/\abe x_1 s.f)/\True)/\iE x_1.a s.a/\∀ y : Unit,True->ji s.n/\∃ s_1 : ZRS,aa4 s_1 x/\jk s_1.n s.n/\jh s_1.n s.n/\((4 : Int) = 4/\s_1.f.key = x_1.f.key/\s_1.f.value = x_1.f.value/\fB/\fA/\(6 : Int) = 6/\s_1.f.epoch = x_1.f.epoch/\fB/\false = false/\(0 : Int) = 0/\
 s_1.f.had = false/\s_1.f.old.key = x_1.f.old.key/\s_1.f.old.id = x_1.f.old.id/\s_1.f.old.ver = x_1.f.old.ver/\s_1.f.old.line = x_1.f.old.line/\s_1.f.old.cls = x_1.f.old.cls/\s_1.f.line = (-(1 : Int))/\s_1.f.cls = x_1.f.cls/\s_1.f.piece = x_1.f.piece/\fA/\(0 : Int) = 0/\fA/\s_1.f.code = x_1.f.code/\s_1.f.found = false/\s_1.f.ans = x_1.f.ans/\sV s_1.f.aep x_1.f.epoch)/\jW/\Bd x/\ownM s_1.a.os = ownM x_1.chg.enq.os/\True) (KN x s.a))/\(∀ s : ZRS,aa4 s x->cP (decide ((s.n : Int)<=100)) (∃ x_1 : ZSt,(Hd (x_1.a.r.ok/\x_1.t < x_1.a.r.t)/\True)/\(0 = 0/\lG x_1.t x.t/\((4 : Int) = 4/\x_1.f.key = s.f.key/\x_1.f.value = s.f.value/\fB/\fA/\(6 : Int) = 6/\yM x_1.f s.f)/\True)/\iE x_1.a s.a/\∀ y : Unit,True->(∃ y_1 : Nat,Hd (400 < x.v.size)/\((5 = x_1.f.code/\uJ x_1.f)/\uK y_1 s.n)/\KP x.a x_1) ∨ (∃ y_1 : Nat,aa2 x/\((4 = x_1.f.code/\uJ x_1.f)/\uK y_1 s.n)/\KP x.a x_1) ∨ ∃ y_1 : Prod Nat Nat,aa3 x y_1/\((0 = x_1.f.code/\false = x_1.f.found/\ByteArray.mk #[] = x_1.f.ans/\sV x.a.c.now x_1.f.aep)/\((4 + x.sp (4 : Int) : Nat) : Int) = (s.n : Int)/\true = true/\True)/\ownM (ZArn.os (x.aE y_1.1 y_1.2)) = ownM (ZArn.os (x_1.a.nT x_1.t (0 : Int)))/\True) (KN x s.a))/\True
theorem aii (x : iI) : aif x = wpF Tryz.prog ah8 tt (annE x) 200 6 15 ((runE (fun _ => True)).args x) (hO 1 ((runE (fun _ => True)).os x)) (fun v h' => eU 1 x v h' (runE (fun _ => True)).outs) := by kernel_rfl
def aij (x : iI) : Prop :=
 (∃ s : ZRS,KO s x/\True/\((s.n : Int) = 1/\True)/\((5 : Int) = 5/\aa8 s.f x)/\jW/\Bc x/\iE s.a x.a)/\(∀ s : ZRS,KO s x->cP (decide ((s.n : Int)<=100)) (∃ x_1 : ZSt,(Hd (x_1.a.r.ok/\x_1.a.c.ok/\x_1.t < x_1.a.r.t/\x_1.a.r.has x_1.t = 0)/\True)/\(0 = 0/\lG x_1.t x.t/\((5 : Int) = 5/\x_1.f.key = s.f.key/\x_1.f.value = s.f.value/\fB/\fA/\(0 : Int) = 0/\yM x_1.f s.f)/\True)/\iE x_1.a s.a/\(∀ y : Unit,Hd ((5 : Int) = 4/\400 < x_1.f.value.size)->(∃ y_1 : Nat,Hd (x.a.l.n = 0)/\(((0 : Int) = 5/\uJ x_1.f)/\uK y_1 s.n)/\iE x.a x_1.a) ∨ (∃ y_1 : Nat,aa1 x.a/\(((4 : Int) = 5/\uJ x_1.f)/\uK y_1 s.n)/\iE x.a x_1.a) ∨ ∃ y_1 : Prod Nat Nat,Hd (x.a.l.n ≠ 0/\x.a.p.takes (0 : Int) y_1.1 y_1.2)/\(((0 : Int) = 5/\true = x_1.f.found/\x.b.value = x_1.f.ans/\sV x.a.c.now x_1.f.aep)/\((6 + x.b.dD : Nat) : Int) = (s.n : Int)/\true = true/\True)/\ownM (ZArn.os (x.aD y_1.1 y_1.2)) = ownM x_1.a.os/\True)/\∀ y : Unit,Hd ((5 : Int) = 4->x_1.f.value.size<=400)->ji s.n/\∃ s_1 : ZRS,Hd (1<=s_1.n/\s_1.n<=50/\s_1.n = 2/\s_1.a = x.a1/\s_1.f = x.f1)/\jk s_1.n s.n/\jh s_1.n s.n/\((5 : Int) = 5/\s_1.f.key = x_1.f.key/\s_1.f.value = x_1.f.value/\fB/\fA/\(1 : Int) = 1/\s_1.f.epoch = x_1.a.c.now/\Uw s_1.f x_1.f)/\jW/\Bc x/\ownM s_1.a.os = ownM (ZArn.os (x_1.a.nT x_1.t x_1.a.r.now))/\True) (Ph x s.a))/\(∀ s : ZRS,Hd (1<=s.n/\s.n<=50/\s.n = 2/\s.a = x.a1/\s.f = x.f1)->cP (decide ((s.n : Int)<=100)) (∃ x_1 : ZSt,(Hd (x_1.a.l.ok/\x_1.f.line = (-(1 : Int)))/\True)/\(0 = 0/\lG x_1.t x.t/\((5 : Int) = 5/\x_1.f.key = s.f.key/\x_1.f.value = s.f.value/\fB/\fA/\(1 : Int) = 1/\yM x_1.f s.f)/\True)/\
 iE x_1.a s.a/\(∀ y : Unit,Hd (x_1.a.l.n = 0)->ji s.n/\∃ s_1 : ZRS,Ux s_1 x/\jk s_1.n s.n/\jh s_1.n s.n/\((5 : Int) = 5/\s_1.f.key = x_1.f.key/\s_1.f.value = x_1.f.value/\fB/\fA/\(6 : Int) = 6/\s_1.f.epoch = x_1.f.epoch/\fB/\false = false/\(0 : Int) = 0/\s_1.f.had = false/\uH s_1.f.old.key/\s_1.f.old.id = 0/\s_1.f.old.ver = 0/\s_1.f.old.line = 0/\s_1.f.old.cls = 0/\s_1.f.line = x_1.f.line/\Uu s_1.f x_1.f)/\uI x s_1.a x_1.a)/\∀ y : Unit,Hd (x_1.a.l.n ≠ 0)->ji s.n/\∃ s_1 : ZRS,aie s_1 x/\jk s_1.n s.n/\jh s_1.n s.n/\((5 : Int) = 5/\s_1.f.key = x_1.f.key/\s_1.f.value = x_1.f.value/\fB/\fA/\(2 : Int) = 2/\s_1.f.epoch = x_1.f.epoch/\fB/\false = false/\(0 : Int) = 0/\s_1.f.had = true/\s_1.f.old.key = x_1.a.l.head.key/\s_1.f.old.id = x_1.a.l.head.id/\s_1.f.old.ver = x_1.a.l.head.ver/\s_1.f.old.line = x_1.a.l.head.line/\s_1.f.old.cls = x_1.a.l.head.cls/\s_1.f.line = x_1.f.line/\s_1.f.cls = x_1.f.cls/\s_1.f.piece = 0/\Ce s_1.f x_1.f)/\uI x s_1.a x_1.a) (Ph x s.a))/\(∀ s : ZRS,aie s x->cP (decide ((s.n : Int)<=100)) (∃ x_1 : jJ,(Hd (x_1.w.ok/\x_1.p = 0)/\True)/\(0 = 0/\lG x_1.t x.t/\((5 : Int) = 5/\x_1.f.key = s.f.key/\x_1.f.value = s.f.value/\fB/\fA/\(2 : Int) = 2/\x_1.f.epoch = s.f.epoch/\fB/\false = false/\(0 : Int) = 0/\true = s.f.had/\ByteArray.mk #[] = s.f.old.key/\x_1.b.id = s.f.old.id/\x_1.b.ver = s.f.old.ver/\(x_1.ln : Int) = s.f.old.line/\x_1.b.cls = s.f.old.cls/\x_1.f.line = s.f.line/\x_1.f.cls = s.f.cls/\0 = s.f.piece/\Ce x_1.f s.f)/\True)/\iE x_1.a s.a/\(∀ y : Unit,Hd ((1 : Int) ≠ spn x_1.b.cls)->ji s.n/\∃ s_1 : ZRS,aa9 s_1 x/\jk s_1.n s.n/\jh s_1.n s.n/\
 (64 * s_1.p = 64/\∀ q : Nat,q < 64 * s_1.p->[Value.int .u8 (x.b.enc q)] = [Value.int .u8 (x_1.b.enc q)])/\((5 : Int) = 5/\s_1.f.key = x_1.f.key/\s_1.f.value = x_1.f.value/\fB/\fA/\(2 : Int) = 2/\s_1.f.epoch = x_1.f.epoch/\fB/\false = false/\(0 : Int) = 0/\s_1.f.had = true/\uH s_1.f.old.key/\s_1.f.old.id = x_1.b.id/\s_1.f.old.ver = x_1.b.ver/\s_1.f.old.line = (x_1.ln : Int)/\s_1.f.old.cls = x_1.b.cls/\s_1.f.line = x_1.f.line/\s_1.f.cls = x_1.f.cls/\s_1.f.piece = 1/\(0 = 0/\64 * s_1.p = 64)/\adt s_1.f x_1.f)/\uI x s_1.a x_1.a)/\(∀ y : Unit,Hd (1 = spn x_1.b.cls/\x_1.f.line < 0)->ji s.n/\∃ s_1 : ZRS,abd s_1 x/\jk s_1.n s.n/\jh s_1.n s.n/\((5 : Int) = 5/\s_1.f.key = x_1.f.key/\s_1.f.value = x_1.f.value/\fB/\fA/\(3 : Int) = 3/\aib s_1.f x_1)/\uI x s_1.a x_1.a)/\∀ y : Unit,Hd (1 = spn x_1.b.cls/\0<=x_1.f.line)->ji s.n/\∃ s_1 : ZRS,Uy s_1 x/\jk s_1.n s.n/\jh s_1.n s.n/\((5 : Int) = 5/\s_1.f.key = x_1.f.key/\s_1.f.value = x_1.f.value/\fB/\fA/\(5 : Int) = 5/\aib s_1.f x_1)/\uI x s_1.a x_1.a) (Ph x s.a))/\(∀ s : ZRS,aa9 s x->cP (decide ((s.n : Int)<=100)) (∃ x_1 : jJ,(Hd (x_1.w.ok/\x_1.p ≠ 0)/\True)/\(0 = 0/\lG x_1.t x.t/\((5 : Int) = 5/\x_1.f.key = s.f.key/\x_1.f.value = s.f.value/\fB/\fA/\(2 : Int) = 2/\x_1.f.epoch = s.f.epoch/\fB/\false = false/\(0 : Int) = 0/\true = s.f.had/\ByteArray.mk #[] = s.f.old.key/\x_1.b.id = s.f.old.id/\x_1.b.ver = s.f.old.ver/\(x_1.ln : Int) = s.f.old.line/\x_1.b.cls = s.f.old.cls/\x_1.f.line = s.f.line/\x_1.f.cls = s.f.cls/\(x_1.p : Int) = s.f.piece/\(0 = 0/\64 * x_1.p = 64 * s.p)/\adt x_1.f s.f)/\True)/\(ownM x_1.a.os = ownM s.a.os/\(64 * x_1.p = 64 * s.p/\
 ∀ q : Nat,q < 64 * x_1.p->[Value.int .u8 (x_1.b.enc q)] = [Value.int .u8 (x.b.enc q)])/\True)/\(∀ y : Unit,Hd ((x_1.p : Int) + 1 ≠ spn x_1.b.cls)->ji s.n/\∃ s_1 : ZRS,aa9 s_1 x/\jk s_1.n s.n/\jh s_1.n s.n/\(64 * s_1.p = 64 * (x_1.p + 1)/\∀ q : Nat,q < 64 * s_1.p->[Value.int .u8 (x.b.enc q)] = [Value.int .u8 (x_1.b.enc q)])/\((5 : Int) = 5/\s_1.f.key = x_1.f.key/\s_1.f.value = x_1.f.value/\fB/\fA/\(2 : Int) = 2/\s_1.f.epoch = x_1.f.epoch/\fB/\false = false/\(0 : Int) = 0/\s_1.f.had = true/\uH s_1.f.old.key/\s_1.f.old.id = x_1.b.id/\s_1.f.old.ver = x_1.b.ver/\s_1.f.old.line = (x_1.ln : Int)/\s_1.f.old.cls = x_1.b.cls/\s_1.f.line = x_1.f.line/\s_1.f.cls = x_1.f.cls/\s_1.f.piece = (x_1.p : Int) + 1/\(0 = 0/\64 * s_1.p = 64 * (x_1.p + 1))/\adt s_1.f x_1.f)/\uI x s_1.a x_1.a)/\(∀ y : Unit,Hd ((x_1.p : Int) + 1 = spn x_1.b.cls/\x_1.f.line < 0)->ji s.n/\∃ s_1 : ZRS,abd s_1 x/\jk s_1.n s.n/\jh s_1.n s.n/\((5 : Int) = 5/\s_1.f.key = x_1.f.key/\s_1.f.value = x_1.f.value/\fB/\fA/\(3 : Int) = 3/\aia s_1.f x_1)/\uI x s_1.a x_1.a)/\∀ y : Unit,Hd ((x_1.p : Int) + 1 = spn x_1.b.cls/\0<=x_1.f.line)->ji s.n/\∃ s_1 : ZRS,Uy s_1 x/\jk s_1.n s.n/\jh s_1.n s.n/\((5 : Int) = 5/\s_1.f.key = x_1.f.key/\s_1.f.value = x_1.f.value/\fB/\fA/\(5 : Int) = 5/\aia s_1.f x_1)/\uI x s_1.a x_1.a) (Ph x s.a))/\(∀ s : ZRS,abd s x->cP (decide ((s.n : Int)<=100)) (∃ x_1 : ZSt,(Hd (x_1.a.p.ok/\x_1.f.value.size<=400)/\True)/\(0 = 0/\lG x_1.t x.t/\((5 : Int) = 5/\x_1.f.key = s.f.key/\x_1.f.value = s.f.value/\fB/\fA/\(3 : Int) = 3/\yM x_1.f s.f)/\True)/\iE x_1.a s.a/\
 (∀ y : Unit,Hd (∀ i : Nat,i < x_1.a.p.n->x_1.a.p.cls i ≠ (-(1 : Int))/\x_1.a.p.full (x_1.c (5 : Int)) i)->ji s.n/\∃ s_1 : ZRS,Ux s_1 x/\jk s_1.n s.n/\jh s_1.n s.n/\((5 : Int) = 5/\s_1.f.key = x_1.f.key/\s_1.f.value = x_1.f.value/\fB/\fA/\(6 : Int) = 6/\s_1.f.epoch = x_1.f.epoch/\fB/\false = false/\(0 : Int) = 0/\s_1.f.had = x_1.f.had/\s_1.f.old.key = x_1.f.old.key/\s_1.f.old.id = x_1.f.old.id/\s_1.f.old.ver = x_1.f.old.ver/\s_1.f.old.line = x_1.f.old.line/\s_1.f.old.cls = x_1.f.old.cls/\s_1.f.line = x_1.f.line/\s_1.f.cls = x_1.c (5 : Int)/\abf s_1.f x_1.f)/\uI x s_1.a x_1.a)/\∀ y : Prod Nat Nat,Hd (x_1.a.p.takes (x_1.c (5 : Int)) y.1 y.2)->ji s.n/\∃ s_1 : ZRS,aa7 s_1 x/\jk s_1.n s.n/\jh s_1.n s.n/\((5 : Int) = 5/\s_1.f.key = x_1.f.key/\s_1.f.value = x_1.f.value/\fB/\fA/\(4 : Int) = 4/\s_1.f.epoch = x_1.f.epoch/\fB/\false = false/\(0 : Int) = 0/\s_1.f.had = x_1.f.had/\s_1.f.old.key = x_1.f.old.key/\s_1.f.old.id = x_1.f.old.id/\s_1.f.old.ver = x_1.f.old.ver/\s_1.f.old.line = x_1.f.old.line/\s_1.f.old.cls = x_1.f.old.cls/\s_1.f.line = 2 + (y.1 : Int) * 8 + (y.2 : Int) * spn (x_1.c (5 : Int))/\s_1.f.cls = x_1.c (5 : Int)/\s_1.f.piece = 0/\Ce s_1.f x_1.f)/\jW/\Bc x/\ownM s_1.a.os = ownM (ZArn.os (x_1.a.J7 (x_1.a.p.take (x_1.c (5 : Int)) y.1 y.2)))/\True) (Ph x s.a))/\(∀ s : ZRS,aa7 s x->cP (decide ((s.n : Int)<=100)) (∃ x_1 : lN,(Hd (x_1.w.ok/\x_1.p = 0)/\True)/\(0 = 0/\lG x_1.t x.t/\((5 : Int) = 5/\x_1.f.key = s.f.key/\x_1.f.value = s.f.value/\fB/\fA/\(4 : Int) = 4/\x_1.f.epoch = s.f.epoch/\fB/\false = false/\(0 : Int) = 0/\x_1.f.had = s.f.had/\x_1.f.old.key = s.f.old.key/\x_1.f.old.id = s.f.old.id/\
 x_1.f.old.ver = s.f.old.ver/\x_1.f.old.line = s.f.old.line/\x_1.f.old.cls = s.f.old.cls/\(x_1.ln : Int) = s.f.line/\x_1.c = s.f.cls/\0 = s.f.piece/\Ce x_1.f s.f)/\True)/\iE x_1.a s.a/\(∀ y : Unit,Hd ((1 : Int) ≠ spn x_1.c)->ji s.n/\∃ s_1 : ZRS,aa7 s_1 x/\jk s_1.n s.n/\jh s_1.n s.n/\((5 : Int) = 5/\s_1.f.key = x_1.f.key/\s_1.f.value = x_1.f.value/\fB/\fA/\(4 : Int) = 4/\s_1.f.epoch = x_1.f.epoch/\fB/\false = false/\(0 : Int) = 0/\s_1.f.had = x_1.f.had/\s_1.f.old.key = x_1.f.old.key/\s_1.f.old.id = x_1.f.old.id/\s_1.f.old.ver = x_1.f.old.ver/\s_1.f.old.line = x_1.f.old.line/\s_1.f.old.cls = x_1.f.old.cls/\s_1.f.line = (x_1.ln : Int)/\s_1.f.cls = x_1.c/\s_1.f.piece = 1/\Ce s_1.f x_1.f)/\jW/\Bc x/\KQ s_1.a x_1)/\∀ y : Unit,Hd (1 = spn x_1.c)->ji s.n/\∃ s_1 : ZRS,Uy s_1 x/\jk s_1.n s.n/\jh s_1.n s.n/\((5 : Int) = 5/\abb s_1.f x_1)/\jW/\Bc x/\KQ s_1.a x_1) (Ph x s.a))/\(∀ s : ZRS,Uy s x->cP (decide ((s.n : Int)<=100)) (∃ x_1 : ZPb,Hd (x_1.chg.okD/\(∃ i : Nat,∃ j : Nat,x_1.chg.inP i j)/\0<=x_1.a.id/\x_1.a.id < 1152921504606846976/\x_1.a.n ≠ 0)/\(0 = 0/\lG x_1.t x.t/\((5 : Int) = 5/\x_1.f.key = s.f.key/\x_1.f.value = s.f.value/\fB/\fA/\(5 : Int) = 5/\x_1.f.epoch = s.f.epoch/\fB/\false = false/\(0 : Int) = 0/\true = s.f.had/\abe x_1 s.f)/\True)/\iE x_1.a s.a/\∀ y : Unit,True->ji s.n/\∃ s_1 : ZRS,Ux s_1 x/\jk s_1.n s.n/\jh s_1.n s.n/\((5 : Int) = 5/\s_1.f.key = x_1.f.key/\s_1.f.value = x_1.f.value/\fB/\fA/\(6 : Int) = 6/\s_1.f.epoch = x_1.f.epoch/\fB/\false = false/\(0 : Int) = 0/\s_1.f.had = true/\s_1.f.old.key = x_1.f.old.key/\
 s_1.f.old.id = x_1.f.old.id/\s_1.f.old.ver = x_1.f.old.ver/\s_1.f.old.line = x_1.f.old.line/\s_1.f.old.cls = x_1.f.old.cls/\s_1.f.line = (-(1 : Int))/\s_1.f.cls = x_1.f.cls/\s_1.f.piece = x_1.f.piece/\fA/\(0 : Int) = 0/\fA/\s_1.f.code = x_1.f.code/\s_1.f.found = true/\s_1.f.ans = x_1.f.ans/\sV s_1.f.aep x_1.f.epoch)/\jW/\Bc x/\ownM s_1.a.os = ownM x_1.chg.deq.os/\True) (Ph x s.a))/\(∀ s : ZRS,Ux s x->cP (decide ((s.n : Int)<=100)) (∃ x_1 : ZSt,(Hd (x_1.a.r.ok/\x_1.t < x_1.a.r.t)/\True)/\(0 = 0/\lG x_1.t x.t/\((5 : Int) = 5/\x_1.f.key = s.f.key/\x_1.f.value = s.f.value/\fB/\fA/\(6 : Int) = 6/\yM x_1.f s.f)/\True)/\iE x_1.a s.a/\∀ y : Unit,True->(∃ y_1 : Nat,Hd (x.a.l.n = 0)/\((0 = x_1.f.code/\uJ x_1.f)/\uK y_1 s.n)/\KP x.a x_1) ∨ (∃ y_1 : Nat,aa1 x.a/\((4 = x_1.f.code/\uJ x_1.f)/\uK y_1 s.n)/\KP x.a x_1) ∨ ∃ y_1 : Prod Nat Nat,Hd (x.a.l.n ≠ 0/\x.a.p.takes (0 : Int) y_1.1 y_1.2)/\((0 = x_1.f.code/\true = x_1.f.found/\x.b.value = x_1.f.ans/\sV x.a.c.now x_1.f.aep)/\((6 + x.b.dD : Nat) : Int) = (s.n : Int)/\true = true/\True)/\ownM (ZArn.os (x.aD y_1.1 y_1.2)) = ownM (ZArn.os (x_1.a.nT x_1.t (0 : Int)))/\True) (Ph x s.a))/\True
theorem aik (x : iI) : aij x = wpF Tryz.prog ah8 tt (annD x) 200 6 15 ((runD (fun _ => True)).args x) (hO 1 ((runD (fun _ => True)).os x)) (fun v h' => eU 1 x v h' (runD (fun _ => True)).outs) := by kernel_rfl
end Go.Proofs.YtenfleoejgjklaaGreat
end
section
namespace Go.Proofs.YtenfleoejgjklaaGreat
open Go SE
def Ac (f : Nat->Bool) : Nat->Nat
 | 0 => 0
 | n + 1 => Ac f n + (bif f n then 1 else 0)
theorem ail (f : Nat->Bool) : ∀ n,Ac f n<=n
 | 0 => aX _
 | n + 1 => by
  have := ail f n
  simp only [Ac]
  cases f n <;> simp <;> omega
theorem ain {f : Nat->Bool} {k : Nat} (hf : f k = false) : ∀ {n},k < n->Ac f n < n
 | n + 1,h => by
  simp only [Ac]
  by_cases e : k = n
  ·subst e; rw [hf]; have := ail f k; simp; omega
  ·have := ain hf (n := n) (by omega)
   cases f n <;> simp <;> omega
theorem jG {f g : Nat->Bool} : ∀ {n},(∀ k,k < n->f k = g k)->Ac f n = Ac g n
 | 0,_ => rfl
 | n + 1,h => by simp only [Ac]; rw [jG fun k hk => h k (by omega),h n (by omega)]
theorem abg {f : Nat->Bool} {k : Nat} (hf : f k = false) : ∀ {n},k < n->Ac (fun q => if q = k then true else f q) n = Ac f n + 1
 | n + 1,h => by
  simp only [Ac]
  by_cases e : k = n
  ·subst e
   rw [jG (g := f) fun q hq => if_neg (by omega),hf]; simp
  ·rw [abg hf (n := n) (by omega),if_neg (by omega)]; omega
theorem Uz {f : Nat->Bool} (h : ∀ k,f k = false) : ∀ n,Ac f n = 0
 | 0 => rfl
 | n + 1 => by simp only [Ac,h,Uz h n]; rfl
namespace cO
def at_ (p : cO) (L : Int) (i j : Nat) : Prop := i < p.n/\0<=p.cls i/\j < many (p.cls i)/\p.tk i j = true/\L = 2 + i * 8 + j * spn (p.cls i)
def has (p : cO) (L : Int) : Prop := ∃ i j,p.at_ L i j
def good (p : cO) : Prop := p.ok/\∀ i,i < p.n->(p.cls i = -1->∀ k,p.tk i k = false)/\(∀ k,p.tk i k = true->k < many (p.cls i))/\p.cnt i = (Ac (p.tk i) 8 : Nat)
end cO
theorem oW {p : cO} (hp : p.good) {c : Int} {i k : Nat} (h : p.takes c i k) : i < p.n/\k < cO.many c/\p.tk i k = false/\(p.cls i = c ∨ p.cls i = -1) := by
 obtain ⟨h1,h2,h3,h4⟩ := h
 refine ⟨h1,h2,?_,?_⟩
 ·rcases h4 with ⟨h4,_⟩ | ⟨h4,_⟩
  ·rw [if_pos h4] at h3; exact h3
  ·exact (hp.2 i h1).1 h4 k
 ·rcases h4 with ⟨h4,_⟩ | ⟨h4,_⟩
  ·exact .inl h4
  ·exact .inr h4
theorem X8 (c : Int) : cO.many c<=8 := by rcases gI c with h | h | h | h | h <;> omega
theorem yN {p : cO} (hp : p.good) {c : Int} (hc : 0<=c/\c<=3) {i k : Nat} (h : p.takes c i k) : (p.take c i k).good := by
 obtain ⟨h1,h2,h3,h4⟩ := oW hp h
 obtain ⟨⟨o1,o2,o3⟩,hg⟩ := hp
 have hm := X8 c
 have hlt : Ac (p.tk i) 8 < 8 := ain h3 (by omega)
 refine ⟨⟨o1,o2,fun j hj => ?_⟩,fun j hj => ?_⟩
 ·have hj' : j < p.n := hj
  have a1 := o3 j hj'
  have a2 := (hg j hj').2.2
  by_cases e : j = i
  ·subst e
   refine ⟨by show -1<=(if j = j then c else _); rw [if_pos rfl]; omega,by show (if j = j then c else _)<=3; rw [if_pos rfl]; omega,by show 0<=(if j = j then p.cnt j + 1 else _); rw [if_pos rfl]; omega,by show (if j = j then p.cnt j + 1 else _)<=8; rw [if_pos rfl]; omega⟩
  ·refine ⟨by show -1<=(if j = i then c else p.cls j); rw [if_neg e]; omega,by show (if j = i then c else p.cls j)<=3; rw [if_neg e]; omega,by show 0<=(if j = i then p.cnt j + 1 else p.cnt j); rw [if_neg e]; omega,by show (if j = i then p.cnt j + 1 else p.cnt j)<=8; rw [if_neg e]; omega⟩
 ·have hj' : j < p.n := hj
  have a2 := hg j hj'
  by_cases e : j = i
  ·subst e
   refine ⟨fun hh => ?_,fun q hq => ?_,?_⟩
   ·have : (if j = j then c else p.cls j) = -1 := hh
    rw [if_pos rfl] at this; omega
   ·have hq : (if j = j/\q = k then true else p.tk j q) = true := hq
    show q < cO.many (if j = j then c else p.cls j)
    rw [if_pos rfl]
    by_cases eq : q = k
    ·omega
    ·rw [if_neg (fun hh => eq hh.2)] at hq
     have := a2.2.1 q hq
     rcases h4 with h4 | h4
     ·rwa [h4] at this
     ·rw [a2.1 h4 q] at hq; cases hq
   ·show (if j = j then p.cnt j + 1 else p.cnt j) = (Ac (fun q => if j = j/\q = k then true else p.tk j q) 8 : Nat)
    have e1 : Ac (fun q => if j = j/\q = k then true else p.tk j q) 8 = Ac (p.tk j) 8 + 1 := by
     rw [← abg h3 (show k < 8 by omega)]
     exact jG fun q _ => by by_cases e : q = k <;> simp [e]
    rw [if_pos rfl,a2.2.2,e1]
    omega
  ·refine ⟨fun hh q => ?_,fun q hq => ?_,?_⟩
   ·have hh : (if j = i then c else p.cls j) = -1 := hh
    rw [if_neg e] at hh
    show (if j = i/\q = k then true else p.tk j q) = false
    rw [if_neg (fun h => e h.1)]; exact a2.1 hh q
   ·have hq : (if j = i/\q = k then true else p.tk j q) = true := hq
    rw [if_neg (fun h => e h.1)] at hq
    show q < cO.many (if j = i then c else p.cls j)
    rw [if_neg e]; exact a2.2.1 q hq
   ·show (if j = i then p.cnt j + 1 else p.cnt j) = (Ac (fun q => if j = i/\q = k then true else p.tk j q) 8 : Nat)
    rw [if_neg e,a2.2.2,jG (g := p.tk j) (fun q _ => if_neg (fun h => e h.1))]
theorem abh {p : cO} (hp : p.good) {c : Int} (hc : 0<=c/\c<=3) {i k : Nat} (h : p.takes c i k) {L : Int} {i' j' : Nat} (hL : p.at_ L i' j') : L + spn (p.cls i')<=2 + i * 8 + k * spn c ∨ 2 + i * 8 + k * spn c + spn c<=L := by
 obtain ⟨h1,h2,h3,h4⟩ := oW hp h
 obtain ⟨a1,a2,a3,a4,rfl⟩ := hL
 have a5 := (hp.1.2.2 i' a1).2.1
 by_cases e : i' = i
 ·subst e
  have hcc : p.cls i' = c := by
   rcases h4 with h4 | h4
   ·exact h4
   ·omega
  rw [hcc] at a3 ⊢
  have hne : j' ≠ k := fun e => by subst e; rw [h3] at a4; cases a4
  rcases gI c with m | m | m | m | m <;> obtain ⟨m1,m2,m3⟩ := m <;> rw [m2] <;> omega
 ·rcases gI c with m | m | m | m | m <;> rcases gI (p.cls i') with m' | m' | m' | m' | m' <;> obtain ⟨m1,m2,m3⟩ := m <;> obtain ⟨m1',m2',m3'⟩ := m' <;> rw [m2,m2'] <;> omega
theorem Pm {p : cO} (hp : p.good) {c : Int} (hc : 0<=c/\c<=3) {i k : Nat} (h : p.takes c i k) : ¬ p.has (2 + i * 8 + k * spn c) := fun ⟨i',j',hL⟩ => by
 have h1 := abh hp hc h hL
 have h2 := JY hc
 have h3 := JY ⟨hL.2.1,(hp.1.2.2 i' hL.1).2.1⟩
 have s1 := dP c
 have s2 := dP (p.cls i')
 omega
theorem aoo {p : cO} (hp : p.good) {c : Int} {i k : Nat} (h : p.takes c i k) {L : Int} {i' j' : Nat} (hL : p.at_ L i' j') : (p.take c i k).at_ L i' j'/\(p.take c i k).cls i' = p.cls i' := by
 obtain ⟨h1,h2,h3,h4⟩ := oW hp h
 obtain ⟨a1,a2,a3,a4,a5⟩ := hL
 have hcl : (p.take c i k).cls i' = p.cls i' := by
  show (if i' = i then c else p.cls i') = _
  split
  ·rename_i e
   subst e
   rcases h4 with h4 | h4
   ·exact h4.symm
   ·omega
  ·rfl
 refine ⟨⟨a1,by rw [hcl]; exact a2,by rw [hcl]; exact a3,?_,by rw [hcl]; exact a5⟩,hcl⟩
 show (if i' = i/\j' = k then true else p.tk i' j') = true
 split
 ·rfl
 ·exact a4
theorem at_new {p : cO} (hp : p.good) {c : Int} (hc : 0<=c) {i k : Nat} (h : p.takes c i k) : (p.take c i k).at_ (2 + i * 8 + k * spn c) i k/\(p.take c i k).cls i = c := by
 obtain ⟨h1,h2,h3,h4⟩ := oW hp h
 have hcl : (p.take c i k).cls i = c := if_pos rfl
 refine ⟨⟨h1,by rw [hcl]; exact hc,by rw [hcl]; exact h2,if_pos ⟨rfl,rfl⟩,by rw [hcl]⟩,hcl⟩
end Go.Proofs.YtenfleoejgjklaaGreat
end
