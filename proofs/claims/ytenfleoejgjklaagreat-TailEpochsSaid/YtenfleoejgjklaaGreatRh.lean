import Derived.Test.YtenfleoejgjklaaGreatRa
import Derived.Test.YtenfleoejgjklaaGreatRb
import Derived.Test.YtenfleoejgjklaaGreatRc
import Derived.Test.YtenfleoejgjklaaGreatRd
import Derived.Test.YtenfleoejgjklaaGreatRe
import Derived.Test.YtenfleoejgjklaaGreatRf
import Derived.Test.YtenfleoejgjklaaGreatRg
import Derived.KernelRfl
set_option linter.unusedVariables false
set_option linter.unusedSimpArgs false
set_option linter.unnecessarySimpa false
section
namespace Go.Proofs.YtenfleoejgjklaaGreat
open Go SE
def fB : Prop := Value.slice none 0 0 = Value.slice none 0 0
def fC : Prop := ByteArray.mk #[] = ByteArray.mk #[]
def Zb : Prop := false = false/\fC/\fB/\fB/\(0 : Int) = 0/\True
def jV : Prop := (0 : Int) = 0/\Zb
def uZ (a : ByteArray) : Prop := a = ByteArray.mk #[]
def Lu (a : Nat) : Prop := (a : Int) = 0/\true = false/\True
def iE (a : ZArn) (b : ZArn) : Prop := ownM a.os = ownM b.os/\True
def acD (a : ZArn) : Prop := Hd (a.l.n ≠ 0/\∀ i : Nat,i < a.p.n->a.p.cls i ≠ (-(1 : Int))/\a.p.full (0 : Int) i)
def Qj (a : jo) (b : ZArn) : Prop := (∃ y : Nat,Hd (a.a.l.n = 0)/\(jV/\Lu y)/\iE a.a b) ∨ (∃ y : Nat,acD a.a/\(((4 : Int) = 0/\Zb)/\Lu y)/\iE a.a b) ∨ ∃ y : Prod Nat Nat,Hd (a.a.l.n ≠ 0/\a.a.p.takes (0 : Int) y.1 y.2)/\(((0 : Int) = 0/\true = false/\uZ a.b.value/\fB/\fB/\a.a.c.now = 0/\True)/\((6 + a.b.dA : Nat) : Int) = 0/\true = false/\True)/\ownM (ZArn.os (a.aD y.1 y.2)) = ownM b.os/\True
def tY (a : Int) (b : Int) : Prop := fB/\fB/\a = b/\True
def ae4 (a : ZFr) (b : ZFr) : Prop := (0 : Int) = 0/\fB/\a.code = b.code/\a.found = b.found/\a.ans = b.ans/\tY a.aep b.aep
def Dn (a : ZFr) (b : ZFr) : Prop := fB/\ae4 a b
def acE (a : jo) : Prop := Hd (a.v.size<=400/\∀ i : Nat,i < a.a.p.n->a.a.p.cls i ≠ (-(1 : Int))/\a.a.p.full (a.c (4 : Int)) i)
def acF (a : jo) (b : Prod Nat Nat) : Prop := Hd (a.v.size<=400/\a.a.p.takes (a.c (4 : Int)) b.1 b.2)
def LC (a : jo) (b : ZArn) : Prop := (∃ y : Nat,Hd (400 < a.v.size)/\(((5 : Int) = 0/\Zb)/\Lu y)/\iE a.a b) ∨ (∃ y : Nat,acE a/\(((4 : Int) = 0/\Zb)/\Lu y)/\iE a.a b) ∨ ∃ y : Prod Nat Nat,acF a y/\(((0 : Int) = 0/\false = false/\fC/\fB/\fB/\a.a.c.now = 0/\True)/\((4 + a.sp (4 : Int) : Nat) : Int) = 0/\true = false/\True)/\ownM (ZArn.os (a.aE y.1 y.2)) = ownM b.os/\True
def Vp (a : ZFr) (b : ZFr) : Prop := a.cls = b.cls/\a.piece = b.piece/\Dn a b
def Vq (a : ZFr) (b : ZFr) : Prop := fC/\false = false/\(0 : Int) = 0/\a.had = b.had/\a.old.key = b.old.key/\a.old.id = b.old.id/\a.old.ver = b.old.ver/\a.old.line = b.old.line/\a.old.cls = b.old.cls/\a.line = b.line/\Vp a b
def zf (a : ZFr) (b : ZFr) : Prop := a.epoch = b.epoch/\Vq a b
def Vr (a : ZRS) (b : jo) : Prop := Hd (1<=a.n/\a.n<=50/\(b.a.l.n = 0/\a.a = b.a1/\a.f = b.f1 ∨ b.a.l.n ≠ 0/\(∀ i : Nat,i < b.a.p.n->b.a.p.cls i ≠ (-(1 : Int))/\b.a.p.full (0 : Int) i)/\a.a = b.a1/\(∃ q : Int,a.f = ZFr.mk b.key b.v b.a.c.now true b.a.l.head (-(1 : Int)) (0 : Int) q (4 : Int) false (ByteArray.mk #[]) (0 : Int)) ∨ a.n = 6 + b.b.dA/\b.a.l.n ≠ 0/\∃ i : Nat,∃ j : Nat,b.a.p.takes (0 : Int) i j/\a.a = fV.deq (ZPb.chg (b.pb (5 : Int) i j b.f2))/\a.f = ZFr.mk b.key b.v b.a.c.now true b.a.l.head (-(1 : Int)) (0 : Int) (0 : Int) (0 : Int) true b.b.value b.a.c.now))
def acG (a : ZRS) (b : jo) : Prop := Hd (1<=a.n/\a.n<=50/\b.v.size<=400/\((∀ i : Nat,i < b.a.p.n->b.a.p.cls i ≠ (-(1 : Int))/\b.a.p.full (b.c (4 : Int)) i)/\a.a = b.a1/\a.f = ZFr.mk b.key b.v b.a.c.now false pX (-(1 : Int)) (b.c (4 : Int)) (0 : Int) (4 : Int) false (ByteArray.mk #[]) (0 : Int) ∨ a.n = 4 + b.sp (4 : Int)/\∃ i : Nat,∃ j : Nat,b.a.p.takes (b.c (4 : Int)) i j/\a.a = fV.enq (ZPb.chg (b.pb (4 : Int) i j b.f1))/\a.f = ZFr.mk b.key b.v b.a.c.now false pX (-(1 : Int)) (b.c (4 : Int)) (0 : Int) (0 : Int) false (ByteArray.mk #[]) b.a.c.now))
def acH (a : jo) : Prop := a.key = a.key/\a.v = a.v/\fC/\fB/\True
def BR (a : jo) : Prop := (5 : Int) = 5/\acH a
def vg (a : jo) (b : ZArn) (c : ZArn) : Prop := jV/\BR a/\iE b c
def Vs (a : ZRS) (b : jo) : Prop := Hd (1<=a.n/\a.n<=50/\a.n = 5 + b.b.dA/\b.a.l.n ≠ 0/\∃ i : Nat,∃ j : Nat,b.a.p.takes (0 : Int) i j/\a.a = b.a2 (5 : Int) i j (b.sp (5 : Int))/\a.f = ZFr.mk b.key b.v b.a.c.now true b.a.l.head ((b.ln (5 : Int) i j : Nat) : Int) (0 : Int) (0 : Int) (0 : Int) false b.b.value (0 : Int))
def acI (a : ZRS) (b : jo) : Prop := Hd (1<=a.n/\a.n<=50/\b.v.size<=400/\(a.p : Int) < spn (b.c (4 : Int))/\a.n = 3 + a.p/\∃ i : Nat,∃ j : Nat,b.a.p.takes (b.c (4 : Int)) i j/\a.a = b.a2 (4 : Int) i j a.p/\a.f = ZFr.mk b.key b.v b.a.c.now false pX ((b.ln (4 : Int) i j : Nat) : Int) (b.c (4 : Int)) (a.p : Int) (0 : Int) false (ByteArray.mk #[]) (0 : Int))
def vk (a : ZFr) : Prop := false = a.found/\ByteArray.mk #[] = a.ans/\fB/\fB/\0 = a.aep/\True
def acJ (a : ZRS) (b : jo) : Prop := Hd (1<=a.n/\a.n<=50/\a.n = 4 + b.b.dA/\b.a.l.n ≠ 0/\∃ i : Nat,∃ j : Nat,b.a.p.takes (0 : Int) i j/\a.a = b.a2 (5 : Int) i j 0/\a.f = ZFr.mk b.key b.v b.a.c.now true b.a.l.head ((b.ln (5 : Int) i j : Nat) : Int) (0 : Int) (0 : Int) (0 : Int) false b.b.value (0 : Int))
def ajL (a : ZFr) (b : jK) : Prop := fB/\(0 : Int) = 0/\fB/\a.code = b.f.code/\a.found = b.f.found/\a.ans = b.b.value/\tY a.aep b.f.aep
def ajM (a : ZFr) (b : jK) : Prop := a.epoch = b.f.epoch/\fC/\false = false/\(0 : Int) = 0/\a.had = true/\uZ a.old.key/\a.old.id = b.b.id/\a.old.ver = b.b.ver/\a.old.line = (b.ln : Int)/\a.old.cls = b.b.cls/\a.line = b.f.line/\a.cls = b.f.cls/\a.piece = (b.p : Int) + 1/\ajL a b
def ajN (a : ZFr) (b : jK) : Prop := a.epoch = b.f.epoch/\fC/\false = false/\(0 : Int) = 0/\a.had = true/\uZ a.old.key/\a.old.id = b.b.id/\a.old.ver = b.b.ver/\a.old.line = (b.ln : Int)/\a.old.cls = b.b.cls/\a.line = b.f.line/\a.cls = b.f.cls/\a.piece = 1/\ajL a b
def acK (a : ZFr) (b : jo) : Prop := a.key = b.key/\a.value = b.v/\fC/\fB/\(0 : Int) = 0/\a.epoch = 0/\fC/\false = false/\(0 : Int) = 0/\a.had = false/\uZ a.old.key/\a.old.id = 0/\a.old.ver = 0/\a.old.line = 0/\a.old.cls = 0/\a.line = (-(1 : Int))/\a.cls = 0/\a.piece = 0/\fB/\(0 : Int) = 0/\fB/\a.code = 0/\a.found = false/\uZ a.ans/\fB/\fB/\a.aep = 0/\True
def ji (a : Nat) (b : Nat) : Prop := (a : Int) = (b : Int) + 1/\True
def acL (a : ZRS) (b : jo) : Prop := Hd (1<=a.p/\(a.p : Int) < spn b.b.cls/\a.n = 3 + a.p/\a.a = b.a1/\b.a.l.n ≠ 0/\a.f = ZFr.mk b.key b.v b.a.c.now true b.a.l.head (-(1 : Int)) (0 : Int) (a.p : Int) (0 : Int) false (ByteArray.mk #[]) (0 : Int))
def acM (a : ZFr) (b : lM) : Prop := a.key = b.f.key/\a.value = b.f.value/\fC/\fB/\(5 : Int) = 5/\a.epoch = b.f.epoch/\fC/\false = false/\(0 : Int) = 0/\a.had = b.f.had/\a.old.key = b.f.old.key/\a.old.id = b.f.old.id/\a.old.ver = b.f.old.ver/\a.old.line = b.f.old.line/\a.old.cls = b.f.old.cls/\a.line = (b.ln : Int)/\a.cls = b.c/\a.piece = 0/\Dn a b.f
def acN (a : ZRS) (b : jo) : Prop := Hd (1<=a.n/\a.n<=50/\a.n = 3 + b.b.dA/\a.a = b.a1/\b.a.l.n ≠ 0/\∃ q : Int,a.f = ZFr.mk b.key b.v b.a.c.now true b.a.l.head (-(1 : Int)) (0 : Int) q (0 : Int) false b.b.value (0 : Int))
def ajO (a : ZRS) (b : jo) : Prop := Hd (1<=a.n/\a.n<=50/\b.v.size<=400/\a.n = 3 + b.sp (4 : Int)/\∃ i : Nat,∃ j : Nat,b.a.p.takes (b.c (4 : Int)) i j/\a.a = b.a2 (4 : Int) i j (b.sp (4 : Int))/\a.f = ZFr.mk b.key b.v b.a.c.now false pX ((b.ln (4 : Int) i j : Nat) : Int) (b.c (4 : Int)) (0 : Int) (0 : Int) false (ByteArray.mk #[]) (0 : Int))
def lF (a : Nat) (b : Nat) : Prop := (a : Int) = (b : Int)
def vw (a : Nat) (b : Nat) : Prop := lF a b/\true = true/\True
def acO (a : ZPb) (b : ZFr) : Prop := a.f.old.key = b.old.key/\a.f.old.id = b.old.id/\a.f.old.ver = b.old.ver/\a.f.old.line = b.old.line/\a.f.old.cls = b.old.cls/\(a.ln : Int) = b.line/\Vp a.f b
def jk (a : Nat) : Prop := I64 ((a : Int) + 1)
def LD (a : ZRS) (b : jo) : Prop := Hd (1<=a.n/\a.n<=50/\a.n = 1/\a.a = b.a/\a.f = f0 b.key b.v)
def ajP (a : ZRS) (b : jo) : Prop := Hd (1<=a.n/\a.n<=50/\a.n = 3/\a.a = b.a1/\b.a.l.n ≠ 0/\a.f = ZFr.mk b.key b.v b.a.c.now true b.a.l.head (-(1 : Int)) (0 : Int) (0 : Int) (0 : Int) false (ByteArray.mk #[]) (0 : Int))
def LG (a : ZArn) (b : ZSt) : Prop := ownM a.os = ownM (ZArn.os (b.a.rW b.t (0 : Int)))/\True
def jl (a : Nat) (b : Nat) : Prop := 101 - a < 101 - b
def acP (a : ZFr) (b : ZFr) : Prop := a.piece = b.piece/\fB/\(0 : Int) = 0/\fB/\a.code = 4/\a.found = b.found/\a.ans = emp/\tY a.aep b.aep
def LH (a : ZArn) (b : lM) : Prop := ownM a.os = ownM (ZArn.os (b.a.IB b.w.d'))/\True
def BU (a : jo) : Prop := (4 : Int) = 4/\acH a
def Qk (x : ZCl) : Prop :=
 ∃ y : Unit,True/\(x.k = x.k/\x.key = x.key/\x.value = x.value/\x.to = x.to/\fB/\(0 : Int) = 0/\(0 : Int) = 0/\fC/\false = false/\(0 : Int) = 0/\false = false/\fC/\(0 : Int) = 0/\(0 : Int) = 0/\(0 : Int) = 0/\(0 : Int) = 0/\(-(1 : Int)) = (-(1 : Int))/\(0 : Int) = 0/\(0 : Int) = 0/\fB/\(0 : Int) = 0/\fB/\jV)/\True
theorem Zc (x : ZCl) : Qk x = wpF Tryz.prog [] tt (noA x) 200 6 17 (Ls.args x) (hO Ls.k (Ls.os x)) (fun v h' => eH Ls.k x v h' Ls.outs) := by kernel_rfl
def ajQ (x : jo) : Prop :=
 (∃ s : ZRS,LD s x/\True/\((s.n : Int) = 1/\True)/\((4 : Int) = 4/\acK s.f x)/\jV/\BU x/\iE s.a x.a)/\(∀ s : ZRS,LD s x->cP (decide ((s.n : Int)<=100)) (∃ x_1 : ZSt,(Hd (x_1.a.r.ok/\x_1.a.c.ok/\x_1.t < x_1.a.r.t/\x_1.a.r.has x_1.t = 0)/\True)/\(0 = 0/\lF x_1.t x.t/\((4 : Int) = 4/\x_1.f.key = s.f.key/\x_1.f.value = s.f.value/\fC/\fB/\(0 : Int) = 0/\zf x_1.f s.f)/\True)/\iE x_1.a s.a/\(∀ y : Unit,Hd ((4 : Int) = 4/\400 < x_1.f.value.size)->(∃ y_1 : Nat,Hd (400 < x.v.size)/\(((5 : Int) = 5/\vk x_1.f)/\vw y_1 s.n)/\iE x.a x_1.a) ∨ (∃ y_1 : Nat,acE x/\(((4 : Int) = 5/\vk x_1.f)/\vw y_1 s.n)/\iE x.a x_1.a) ∨ ∃ y_1 : Prod Nat Nat,acF x y_1/\(((0 : Int) = 5/\false = x_1.f.found/\ByteArray.mk #[] = x_1.f.ans/\tY x.a.c.now x_1.f.aep)/\((4 + x.sp (4 : Int) : Nat) : Int) = (s.n : Int)/\true = true/\True)/\ownM (ZArn.os (x.aE y_1.1 y_1.2)) = ownM x_1.a.os/\True)/\∀ y : Unit,Hd ((4 : Int) = 4->x_1.f.value.size<=400)->jk s.n/\∃ s_1 : ZRS,Hd (1<=s_1.n/\s_1.n<=50/\s_1.n = 2/\s_1.a = x.a1/\s_1.f = x.f1/\x.v.size<=400)/\jl s_1.n s.n/\ji s_1.n s.n/\((4 : Int) = 4/\s_1.f.key = x_1.f.key/\s_1.f.value = x_1.f.value/\fC/\fB/\(3 : Int) = 3/\s_1.f.epoch = x_1.a.c.now/\Vq s_1.f x_1.f)/\jV/\BU x/\ownM s_1.a.os = ownM (ZArn.os (x_1.a.rW x_1.t x_1.a.r.now))/\True) (LC x s.a))/\(∀ s : ZRS,Hd (1<=s.n/\s.n<=50/\s.n = 2/\s.a = x.a1/\s.f = x.f1/\x.v.size<=400)->cP (decide ((s.n : Int)<=100)) (∃ x_1 : ZSt,(Hd (x_1.a.p.ok/\x_1.f.value.size<=400)/\True)/\(0 = 0/\lF x_1.t x.t/\((4 : Int) = 4/\x_1.f.key = s.f.key/\x_1.f.value = s.f.value/\fC/\fB/\(3 : Int) = 3/\zf x_1.f s.f)/\
 True)/\iE x_1.a s.a/\(∀ y : Unit,Hd (∀ i : Nat,i < x_1.a.p.n->x_1.a.p.cls i ≠ (-(1 : Int))/\x_1.a.p.full (x_1.c (4 : Int)) i)->jk s.n/\∃ s_1 : ZRS,acG s_1 x/\jl s_1.n s.n/\ji s_1.n s.n/\((4 : Int) = 4/\s_1.f.key = x_1.f.key/\s_1.f.value = x_1.f.value/\fC/\fB/\(6 : Int) = 6/\s_1.f.epoch = x_1.f.epoch/\fC/\false = false/\(0 : Int) = 0/\s_1.f.had = x_1.f.had/\s_1.f.old.key = x_1.f.old.key/\s_1.f.old.id = x_1.f.old.id/\s_1.f.old.ver = x_1.f.old.ver/\s_1.f.old.line = x_1.f.old.line/\s_1.f.old.cls = x_1.f.old.cls/\s_1.f.line = x_1.f.line/\s_1.f.cls = x_1.c (4 : Int)/\acP s_1.f x_1.f)/\jV/\BU x/\iE s_1.a x_1.a)/\∀ y : Prod Nat Nat,Hd (x_1.a.p.takes (x_1.c (4 : Int)) y.1 y.2)->jk s.n/\∃ s_1 : ZRS,acI s_1 x/\jl s_1.n s.n/\ji s_1.n s.n/\((4 : Int) = 4/\s_1.f.key = x_1.f.key/\s_1.f.value = x_1.f.value/\fC/\fB/\(4 : Int) = 4/\s_1.f.epoch = x_1.f.epoch/\fC/\false = false/\(0 : Int) = 0/\s_1.f.had = x_1.f.had/\s_1.f.old.key = x_1.f.old.key/\s_1.f.old.id = x_1.f.old.id/\s_1.f.old.ver = x_1.f.old.ver/\s_1.f.old.line = x_1.f.old.line/\s_1.f.old.cls = x_1.f.old.cls/\s_1.f.line = 2 + (y.1 : Int) * 8 + (y.2 : Int) * spn (x_1.c (4 : Int))/\s_1.f.cls = x_1.c (4 : Int)/\s_1.f.piece = 0/\Dn s_1.f x_1.f)/\jV/\BU x/\ownM s_1.a.os = ownM (ZArn.os (x_1.a.abL (x_1.a.p.take (x_1.c (4 : Int)) y.1 y.2)))/\True) (LC x s.a))/\(∀ s : ZRS,acI s x->cP (decide ((s.n : Int)<=100)) (∃ x_1 : lM,(Hd x_1.w.ok/\True)/\(0 = 0/\lF x_1.t x.t/\((4 : Int) = 4/\x_1.f.key = s.f.key/\x_1.f.value = s.f.value/\fC/\fB/\(4 : Int) = 4/\x_1.f.epoch = s.f.epoch/\fC/\false = false/\(0 : Int) = 0/\x_1.f.had = s.f.had/\x_1.f.old.key = s.f.old.key/\
 x_1.f.old.id = s.f.old.id/\x_1.f.old.ver = s.f.old.ver/\x_1.f.old.line = s.f.old.line/\x_1.f.old.cls = s.f.old.cls/\(x_1.ln : Int) = s.f.line/\x_1.c = s.f.cls/\(x_1.p : Int) = s.f.piece/\Dn x_1.f s.f)/\True)/\iE x_1.a s.a/\(∀ y : Unit,Hd ((x_1.p : Int) + 1 ≠ spn x_1.c)->jk s.n/\∃ s_1 : ZRS,acI s_1 x/\jl s_1.n s.n/\ji s_1.n s.n/\((4 : Int) = 4/\s_1.f.key = x_1.f.key/\s_1.f.value = x_1.f.value/\fC/\fB/\(4 : Int) = 4/\s_1.f.epoch = x_1.f.epoch/\fC/\false = false/\(0 : Int) = 0/\s_1.f.had = x_1.f.had/\s_1.f.old.key = x_1.f.old.key/\s_1.f.old.id = x_1.f.old.id/\s_1.f.old.ver = x_1.f.old.ver/\s_1.f.old.line = x_1.f.old.line/\s_1.f.old.cls = x_1.f.old.cls/\s_1.f.line = (x_1.ln : Int)/\s_1.f.cls = x_1.c/\s_1.f.piece = (x_1.p : Int) + 1/\Dn s_1.f x_1.f)/\jV/\BU x/\LH s_1.a x_1)/\∀ y : Unit,Hd ((x_1.p : Int) + 1 = spn x_1.c)->jk s.n/\∃ s_1 : ZRS,ajO s_1 x/\jl s_1.n s.n/\ji s_1.n s.n/\((4 : Int) = 4/\acM s_1.f x_1)/\jV/\BU x/\LH s_1.a x_1) (LC x s.a))/\(∀ s : ZRS,ajO s x->cP (decide ((s.n : Int)<=100)) (∃ x_1 : ZPb,Hd (x_1.chg.okE/\(∃ i : Nat,∃ j : Nat,x_1.chg.inP i j)/\∀ k : Nat,x_1.a.c.o k + 8 < 1099511627776)/\(0 = 0/\lF x_1.t x.t/\((4 : Int) = 4/\x_1.f.key = s.f.key/\x_1.f.value = s.f.value/\fC/\fB/\(5 : Int) = 5/\x_1.f.epoch = s.f.epoch/\fC/\false = false/\(0 : Int) = 0/\false = s.f.had/\acO x_1 s.f)/\True)/\iE x_1.a s.a/\∀ y : Unit,True->jk s.n/\∃ s_1 : ZRS,acG s_1 x/\jl s_1.n s.n/\ji s_1.n s.n/\((4 : Int) = 4/\s_1.f.key = x_1.f.key/\s_1.f.value = x_1.f.value/\fC/\fB/\(6 : Int) = 6/\s_1.f.epoch = x_1.f.epoch/\fC/\false = false/\(0 : Int) = 0/\
 s_1.f.had = false/\s_1.f.old.key = x_1.f.old.key/\s_1.f.old.id = x_1.f.old.id/\s_1.f.old.ver = x_1.f.old.ver/\s_1.f.old.line = x_1.f.old.line/\s_1.f.old.cls = x_1.f.old.cls/\s_1.f.line = (-(1 : Int))/\s_1.f.cls = x_1.f.cls/\s_1.f.piece = x_1.f.piece/\fB/\(0 : Int) = 0/\fB/\s_1.f.code = x_1.f.code/\s_1.f.found = false/\s_1.f.ans = x_1.f.ans/\tY s_1.f.aep x_1.f.epoch)/\jV/\BU x/\ownM s_1.a.os = ownM x_1.chg.enq.os/\True) (LC x s.a))/\(∀ s : ZRS,acG s x->cP (decide ((s.n : Int)<=100)) (∃ x_1 : ZSt,(Hd (x_1.a.r.ok/\x_1.t < x_1.a.r.t)/\True)/\(0 = 0/\lF x_1.t x.t/\((4 : Int) = 4/\x_1.f.key = s.f.key/\x_1.f.value = s.f.value/\fC/\fB/\(6 : Int) = 6/\zf x_1.f s.f)/\True)/\iE x_1.a s.a/\∀ y : Unit,True->(∃ y_1 : Nat,Hd (400 < x.v.size)/\((5 = x_1.f.code/\vk x_1.f)/\vw y_1 s.n)/\LG x.a x_1) ∨ (∃ y_1 : Nat,acE x/\((4 = x_1.f.code/\vk x_1.f)/\vw y_1 s.n)/\LG x.a x_1) ∨ ∃ y_1 : Prod Nat Nat,acF x y_1/\((0 = x_1.f.code/\false = x_1.f.found/\ByteArray.mk #[] = x_1.f.ans/\tY x.a.c.now x_1.f.aep)/\((4 + x.sp (4 : Int) : Nat) : Int) = (s.n : Int)/\true = true/\True)/\ownM (ZArn.os (x.aE y_1.1 y_1.2)) = ownM (ZArn.os (x_1.a.rW x_1.t (0 : Int)))/\True) (LC x s.a))/\True
theorem ajR (x : jo) : ajQ x = wpF Tryz.prog ajK tt (annE x) 200 6 15 ((runE (fun _ => True)).args x) (hO 1 ((runE (fun _ => True)).os x)) (fun v h' => eH 1 x v h' (runE (fun _ => True)).outs) := by kernel_rfl
def ajS (x : jo) : Prop :=
 (∃ s : ZRS,LD s x/\True/\((s.n : Int) = 1/\True)/\((5 : Int) = 5/\acK s.f x)/\jV/\BR x/\iE s.a x.a)/\(∀ s : ZRS,LD s x->cP (decide ((s.n : Int)<=100)) (∃ x_1 : ZSt,(Hd (x_1.a.r.ok/\x_1.a.c.ok/\x_1.t < x_1.a.r.t/\x_1.a.r.has x_1.t = 0)/\True)/\(0 = 0/\lF x_1.t x.t/\((5 : Int) = 5/\x_1.f.key = s.f.key/\x_1.f.value = s.f.value/\fC/\fB/\(0 : Int) = 0/\zf x_1.f s.f)/\True)/\iE x_1.a s.a/\(∀ y : Unit,Hd ((5 : Int) = 4/\400 < x_1.f.value.size)->(∃ y_1 : Nat,Hd (x.a.l.n = 0)/\(((0 : Int) = 5/\vk x_1.f)/\vw y_1 s.n)/\iE x.a x_1.a) ∨ (∃ y_1 : Nat,acD x.a/\(((4 : Int) = 5/\vk x_1.f)/\vw y_1 s.n)/\iE x.a x_1.a) ∨ ∃ y_1 : Prod Nat Nat,Hd (x.a.l.n ≠ 0/\x.a.p.takes (0 : Int) y_1.1 y_1.2)/\(((0 : Int) = 5/\true = x_1.f.found/\x.b.value = x_1.f.ans/\tY x.a.c.now x_1.f.aep)/\((6 + x.b.dA : Nat) : Int) = (s.n : Int)/\true = true/\True)/\ownM (ZArn.os (x.aD y_1.1 y_1.2)) = ownM x_1.a.os/\True)/\∀ y : Unit,Hd ((5 : Int) = 4->x_1.f.value.size<=400)->jk s.n/\∃ s_1 : ZRS,Hd (1<=s_1.n/\s_1.n<=50/\s_1.n = 2/\s_1.a = x.a1/\s_1.f = x.f1)/\jl s_1.n s.n/\ji s_1.n s.n/\((5 : Int) = 5/\s_1.f.key = x_1.f.key/\s_1.f.value = x_1.f.value/\fC/\fB/\(1 : Int) = 1/\s_1.f.epoch = x_1.a.c.now/\Vq s_1.f x_1.f)/\jV/\BR x/\ownM s_1.a.os = ownM (ZArn.os (x_1.a.rW x_1.t x_1.a.r.now))/\True) (Qj x s.a))/\(∀ s : ZRS,Hd (1<=s.n/\s.n<=50/\s.n = 2/\s.a = x.a1/\s.f = x.f1)->cP (decide ((s.n : Int)<=100)) (∃ x_1 : ZSt,(Hd (x_1.a.l.ok/\x_1.f.line = (-(1 : Int)))/\True)/\(0 = 0/\lF x_1.t x.t/\((5 : Int) = 5/\x_1.f.key = s.f.key/\x_1.f.value = s.f.value/\fC/\fB/\(1 : Int) = 1/\zf x_1.f s.f)/\True)/\
 iE x_1.a s.a/\(∀ y : Unit,Hd (x_1.a.l.n = 0)->jk s.n/\∃ s_1 : ZRS,Vr s_1 x/\jl s_1.n s.n/\ji s_1.n s.n/\((5 : Int) = 5/\s_1.f.key = x_1.f.key/\s_1.f.value = x_1.f.value/\fC/\fB/\(6 : Int) = 6/\s_1.f.epoch = x_1.f.epoch/\fC/\false = false/\(0 : Int) = 0/\s_1.f.had = false/\uZ s_1.f.old.key/\s_1.f.old.id = 0/\s_1.f.old.ver = 0/\s_1.f.old.line = 0/\s_1.f.old.cls = 0/\s_1.f.line = x_1.f.line/\Vp s_1.f x_1.f)/\vg x s_1.a x_1.a)/\∀ y : Unit,Hd (x_1.a.l.n ≠ 0)->jk s.n/\∃ s_1 : ZRS,ajP s_1 x/\jl s_1.n s.n/\ji s_1.n s.n/\((5 : Int) = 5/\s_1.f.key = x_1.f.key/\s_1.f.value = x_1.f.value/\fC/\fB/\(2 : Int) = 2/\s_1.f.epoch = x_1.f.epoch/\fC/\false = false/\(0 : Int) = 0/\s_1.f.had = true/\s_1.f.old.key = x_1.a.l.head.key/\s_1.f.old.id = x_1.a.l.head.id/\s_1.f.old.ver = x_1.a.l.head.ver/\s_1.f.old.line = x_1.a.l.head.line/\s_1.f.old.cls = x_1.a.l.head.cls/\s_1.f.line = x_1.f.line/\s_1.f.cls = x_1.f.cls/\s_1.f.piece = 0/\Dn s_1.f x_1.f)/\vg x s_1.a x_1.a) (Qj x s.a))/\(∀ s : ZRS,ajP s x->cP (decide ((s.n : Int)<=100)) (∃ x_1 : jK,(Hd (x_1.w.ok/\x_1.p = 0)/\True)/\(0 = 0/\lF x_1.t x.t/\((5 : Int) = 5/\x_1.f.key = s.f.key/\x_1.f.value = s.f.value/\fC/\fB/\(2 : Int) = 2/\x_1.f.epoch = s.f.epoch/\fC/\false = false/\(0 : Int) = 0/\true = s.f.had/\ByteArray.mk #[] = s.f.old.key/\x_1.b.id = s.f.old.id/\x_1.b.ver = s.f.old.ver/\(x_1.ln : Int) = s.f.old.line/\x_1.b.cls = s.f.old.cls/\x_1.f.line = s.f.line/\x_1.f.cls = s.f.cls/\0 = s.f.piece/\Dn x_1.f s.f)/\True)/\iE x_1.a s.a/\(∀ y : Unit,Hd ((1 : Int) ≠ spn x_1.b.cls)->jk s.n/\∃ s_1 : ZRS,acL s_1 x/\jl s_1.n s.n/\ji s_1.n s.n/\
 (64 * s_1.p = 64/\∀ q : Nat,q < 64 * s_1.p->[Value.int .u8 (x.b.enc q)] = [Value.int .u8 (x_1.b.enc q)])/\((5 : Int) = 5/\s_1.f.key = x_1.f.key/\s_1.f.value = x_1.f.value/\fC/\fB/\(2 : Int) = 2/\s_1.f.epoch = x_1.f.epoch/\fC/\false = false/\(0 : Int) = 0/\s_1.f.had = true/\uZ s_1.f.old.key/\s_1.f.old.id = x_1.b.id/\s_1.f.old.ver = x_1.b.ver/\s_1.f.old.line = (x_1.ln : Int)/\s_1.f.old.cls = x_1.b.cls/\s_1.f.line = x_1.f.line/\s_1.f.cls = x_1.f.cls/\s_1.f.piece = 1/\(0 = 0/\64 * s_1.p = 64)/\ae4 s_1.f x_1.f)/\vg x s_1.a x_1.a)/\(∀ y : Unit,Hd (1 = spn x_1.b.cls/\x_1.f.line < 0)->jk s.n/\∃ s_1 : ZRS,acN s_1 x/\jl s_1.n s.n/\ji s_1.n s.n/\((5 : Int) = 5/\s_1.f.key = x_1.f.key/\s_1.f.value = x_1.f.value/\fC/\fB/\(3 : Int) = 3/\ajN s_1.f x_1)/\vg x s_1.a x_1.a)/\∀ y : Unit,Hd (1 = spn x_1.b.cls/\0<=x_1.f.line)->jk s.n/\∃ s_1 : ZRS,Vs s_1 x/\jl s_1.n s.n/\ji s_1.n s.n/\((5 : Int) = 5/\s_1.f.key = x_1.f.key/\s_1.f.value = x_1.f.value/\fC/\fB/\(5 : Int) = 5/\ajN s_1.f x_1)/\vg x s_1.a x_1.a) (Qj x s.a))/\(∀ s : ZRS,acL s x->cP (decide ((s.n : Int)<=100)) (∃ x_1 : jK,(Hd (x_1.w.ok/\x_1.p ≠ 0)/\True)/\(0 = 0/\lF x_1.t x.t/\((5 : Int) = 5/\x_1.f.key = s.f.key/\x_1.f.value = s.f.value/\fC/\fB/\(2 : Int) = 2/\x_1.f.epoch = s.f.epoch/\fC/\false = false/\(0 : Int) = 0/\true = s.f.had/\ByteArray.mk #[] = s.f.old.key/\x_1.b.id = s.f.old.id/\x_1.b.ver = s.f.old.ver/\(x_1.ln : Int) = s.f.old.line/\x_1.b.cls = s.f.old.cls/\x_1.f.line = s.f.line/\x_1.f.cls = s.f.cls/\(x_1.p : Int) = s.f.piece/\(0 = 0/\64 * x_1.p = 64 * s.p)/\ae4 x_1.f s.f)/\True)/\(ownM x_1.a.os = ownM s.a.os/\(64 * x_1.p = 64 * s.p/\
 ∀ q : Nat,q < 64 * x_1.p->[Value.int .u8 (x_1.b.enc q)] = [Value.int .u8 (x.b.enc q)])/\True)/\(∀ y : Unit,Hd ((x_1.p : Int) + 1 ≠ spn x_1.b.cls)->jk s.n/\∃ s_1 : ZRS,acL s_1 x/\jl s_1.n s.n/\ji s_1.n s.n/\(64 * s_1.p = 64 * (x_1.p + 1)/\∀ q : Nat,q < 64 * s_1.p->[Value.int .u8 (x.b.enc q)] = [Value.int .u8 (x_1.b.enc q)])/\((5 : Int) = 5/\s_1.f.key = x_1.f.key/\s_1.f.value = x_1.f.value/\fC/\fB/\(2 : Int) = 2/\s_1.f.epoch = x_1.f.epoch/\fC/\false = false/\(0 : Int) = 0/\s_1.f.had = true/\uZ s_1.f.old.key/\s_1.f.old.id = x_1.b.id/\s_1.f.old.ver = x_1.b.ver/\s_1.f.old.line = (x_1.ln : Int)/\s_1.f.old.cls = x_1.b.cls/\s_1.f.line = x_1.f.line/\s_1.f.cls = x_1.f.cls/\s_1.f.piece = (x_1.p : Int) + 1/\(0 = 0/\64 * s_1.p = 64 * (x_1.p + 1))/\ae4 s_1.f x_1.f)/\vg x s_1.a x_1.a)/\(∀ y : Unit,Hd ((x_1.p : Int) + 1 = spn x_1.b.cls/\x_1.f.line < 0)->jk s.n/\∃ s_1 : ZRS,acN s_1 x/\jl s_1.n s.n/\ji s_1.n s.n/\((5 : Int) = 5/\s_1.f.key = x_1.f.key/\s_1.f.value = x_1.f.value/\fC/\fB/\(3 : Int) = 3/\ajM s_1.f x_1)/\vg x s_1.a x_1.a)/\∀ y : Unit,Hd ((x_1.p : Int) + 1 = spn x_1.b.cls/\0<=x_1.f.line)->jk s.n/\∃ s_1 : ZRS,Vs s_1 x/\jl s_1.n s.n/\ji s_1.n s.n/\((5 : Int) = 5/\s_1.f.key = x_1.f.key/\s_1.f.value = x_1.f.value/\fC/\fB/\(5 : Int) = 5/\ajM s_1.f x_1)/\vg x s_1.a x_1.a) (Qj x s.a))/\(∀ s : ZRS,acN s x->cP (decide ((s.n : Int)<=100)) (∃ x_1 : ZSt,(Hd (x_1.a.p.ok/\x_1.f.value.size<=400)/\True)/\(0 = 0/\lF x_1.t x.t/\((5 : Int) = 5/\x_1.f.key = s.f.key/\x_1.f.value = s.f.value/\fC/\fB/\(3 : Int) = 3/\zf x_1.f s.f)/\True)/\iE x_1.a s.a/\
 (∀ y : Unit,Hd (∀ i : Nat,i < x_1.a.p.n->x_1.a.p.cls i ≠ (-(1 : Int))/\x_1.a.p.full (x_1.c (5 : Int)) i)->jk s.n/\∃ s_1 : ZRS,Vr s_1 x/\jl s_1.n s.n/\ji s_1.n s.n/\((5 : Int) = 5/\s_1.f.key = x_1.f.key/\s_1.f.value = x_1.f.value/\fC/\fB/\(6 : Int) = 6/\s_1.f.epoch = x_1.f.epoch/\fC/\false = false/\(0 : Int) = 0/\s_1.f.had = x_1.f.had/\s_1.f.old.key = x_1.f.old.key/\s_1.f.old.id = x_1.f.old.id/\s_1.f.old.ver = x_1.f.old.ver/\s_1.f.old.line = x_1.f.old.line/\s_1.f.old.cls = x_1.f.old.cls/\s_1.f.line = x_1.f.line/\s_1.f.cls = x_1.c (5 : Int)/\acP s_1.f x_1.f)/\vg x s_1.a x_1.a)/\∀ y : Prod Nat Nat,Hd (x_1.a.p.takes (x_1.c (5 : Int)) y.1 y.2)->jk s.n/\∃ s_1 : ZRS,acJ s_1 x/\jl s_1.n s.n/\ji s_1.n s.n/\((5 : Int) = 5/\s_1.f.key = x_1.f.key/\s_1.f.value = x_1.f.value/\fC/\fB/\(4 : Int) = 4/\s_1.f.epoch = x_1.f.epoch/\fC/\false = false/\(0 : Int) = 0/\s_1.f.had = x_1.f.had/\s_1.f.old.key = x_1.f.old.key/\s_1.f.old.id = x_1.f.old.id/\s_1.f.old.ver = x_1.f.old.ver/\s_1.f.old.line = x_1.f.old.line/\s_1.f.old.cls = x_1.f.old.cls/\s_1.f.line = 2 + (y.1 : Int) * 8 + (y.2 : Int) * spn (x_1.c (5 : Int))/\s_1.f.cls = x_1.c (5 : Int)/\s_1.f.piece = 0/\Dn s_1.f x_1.f)/\jV/\BR x/\ownM s_1.a.os = ownM (ZArn.os (x_1.a.abL (x_1.a.p.take (x_1.c (5 : Int)) y.1 y.2)))/\True) (Qj x s.a))/\(∀ s : ZRS,acJ s x->cP (decide ((s.n : Int)<=100)) (∃ x_1 : lM,(Hd (x_1.w.ok/\x_1.p = 0)/\True)/\(0 = 0/\lF x_1.t x.t/\((5 : Int) = 5/\x_1.f.key = s.f.key/\x_1.f.value = s.f.value/\fC/\fB/\(4 : Int) = 4/\x_1.f.epoch = s.f.epoch/\fC/\false = false/\(0 : Int) = 0/\x_1.f.had = s.f.had/\x_1.f.old.key = s.f.old.key/\x_1.f.old.id = s.f.old.id/\
 x_1.f.old.ver = s.f.old.ver/\x_1.f.old.line = s.f.old.line/\x_1.f.old.cls = s.f.old.cls/\(x_1.ln : Int) = s.f.line/\x_1.c = s.f.cls/\0 = s.f.piece/\Dn x_1.f s.f)/\True)/\iE x_1.a s.a/\(∀ y : Unit,Hd ((1 : Int) ≠ spn x_1.c)->jk s.n/\∃ s_1 : ZRS,acJ s_1 x/\jl s_1.n s.n/\ji s_1.n s.n/\((5 : Int) = 5/\s_1.f.key = x_1.f.key/\s_1.f.value = x_1.f.value/\fC/\fB/\(4 : Int) = 4/\s_1.f.epoch = x_1.f.epoch/\fC/\false = false/\(0 : Int) = 0/\s_1.f.had = x_1.f.had/\s_1.f.old.key = x_1.f.old.key/\s_1.f.old.id = x_1.f.old.id/\s_1.f.old.ver = x_1.f.old.ver/\s_1.f.old.line = x_1.f.old.line/\s_1.f.old.cls = x_1.f.old.cls/\s_1.f.line = (x_1.ln : Int)/\s_1.f.cls = x_1.c/\s_1.f.piece = 1/\Dn s_1.f x_1.f)/\jV/\BR x/\LH s_1.a x_1)/\∀ y : Unit,Hd (1 = spn x_1.c)->jk s.n/\∃ s_1 : ZRS,Vs s_1 x/\jl s_1.n s.n/\ji s_1.n s.n/\((5 : Int) = 5/\acM s_1.f x_1)/\jV/\BR x/\LH s_1.a x_1) (Qj x s.a))/\(∀ s : ZRS,Vs s x->cP (decide ((s.n : Int)<=100)) (∃ x_1 : ZPb,Hd (x_1.chg.okD/\(∃ i : Nat,∃ j : Nat,x_1.chg.inP i j)/\0<=x_1.a.id/\x_1.a.id < 1152921504606846976/\x_1.a.n ≠ 0)/\(0 = 0/\lF x_1.t x.t/\((5 : Int) = 5/\x_1.f.key = s.f.key/\x_1.f.value = s.f.value/\fC/\fB/\(5 : Int) = 5/\x_1.f.epoch = s.f.epoch/\fC/\false = false/\(0 : Int) = 0/\true = s.f.had/\acO x_1 s.f)/\True)/\iE x_1.a s.a/\∀ y : Unit,True->jk s.n/\∃ s_1 : ZRS,Vr s_1 x/\jl s_1.n s.n/\ji s_1.n s.n/\((5 : Int) = 5/\s_1.f.key = x_1.f.key/\s_1.f.value = x_1.f.value/\fC/\fB/\(6 : Int) = 6/\s_1.f.epoch = x_1.f.epoch/\fC/\false = false/\(0 : Int) = 0/\s_1.f.had = true/\s_1.f.old.key = x_1.f.old.key/\
 s_1.f.old.id = x_1.f.old.id/\s_1.f.old.ver = x_1.f.old.ver/\s_1.f.old.line = x_1.f.old.line/\s_1.f.old.cls = x_1.f.old.cls/\s_1.f.line = (-(1 : Int))/\s_1.f.cls = x_1.f.cls/\s_1.f.piece = x_1.f.piece/\fB/\(0 : Int) = 0/\fB/\s_1.f.code = x_1.f.code/\s_1.f.found = true/\s_1.f.ans = x_1.f.ans/\tY s_1.f.aep x_1.f.epoch)/\jV/\BR x/\ownM s_1.a.os = ownM x_1.chg.deq.os/\True) (Qj x s.a))/\(∀ s : ZRS,Vr s x->cP (decide ((s.n : Int)<=100)) (∃ x_1 : ZSt,(Hd (x_1.a.r.ok/\x_1.t < x_1.a.r.t)/\True)/\(0 = 0/\lF x_1.t x.t/\((5 : Int) = 5/\x_1.f.key = s.f.key/\x_1.f.value = s.f.value/\fC/\fB/\(6 : Int) = 6/\zf x_1.f s.f)/\True)/\iE x_1.a s.a/\∀ y : Unit,True->(∃ y_1 : Nat,Hd (x.a.l.n = 0)/\((0 = x_1.f.code/\vk x_1.f)/\vw y_1 s.n)/\LG x.a x_1) ∨ (∃ y_1 : Nat,acD x.a/\((4 = x_1.f.code/\vk x_1.f)/\vw y_1 s.n)/\LG x.a x_1) ∨ ∃ y_1 : Prod Nat Nat,Hd (x.a.l.n ≠ 0/\x.a.p.takes (0 : Int) y_1.1 y_1.2)/\((0 = x_1.f.code/\true = x_1.f.found/\x.b.value = x_1.f.ans/\tY x.a.c.now x_1.f.aep)/\((6 + x.b.dA : Nat) : Int) = (s.n : Int)/\true = true/\True)/\ownM (ZArn.os (x.aD y_1.1 y_1.2)) = ownM (ZArn.os (x_1.a.rW x_1.t (0 : Int)))/\True) (Qj x s.a))/\True
theorem ajT (x : jo) : ajS x = wpF Tryz.prog ajK tt (annD x) 200 6 15 ((runD (fun _ => True)).args x) (hO 1 ((runD (fun _ => True)).os x)) (fun v h' => eH 1 x v h' (runD (fun _ => True)).outs) := by kernel_rfl
end Go.Proofs.YtenfleoejgjklaaGreat
end
section
namespace Go.Proofs.YtenfleoejgjklaaGreat
open Go SE
def Ql (f : Nat->Bool) : Nat->Nat
 | 0 => 0
 | n + 1 => Ql f n + (bif f n then 1 else 0)
theorem ajU (f : Nat->Bool) : ∀ n,Ql f n<=n
 | 0 => aX _
 | n + 1 => by
  have := ajU f n
  simp only [Ql]
  cases f n <;> simp <;> omega
theorem ajV {f : Nat->Bool} {k : Nat} (hf : f k = false) : ∀ {n},k < n->Ql f n < n
 | n + 1,h => by
  simp only [Ql]
  by_cases e : k = n
  ·subst e; rw [hf]; have := ajU f k; simp; omega
  ·have := ajV hf (n := n) (by omega)
   cases f n <;> simp <;> omega
theorem uI {f g : Nat->Bool} : ∀ {n},(∀ k,k < n->f k = g k)->Ql f n = Ql g n
 | 0,_ => rfl
 | n + 1,h => by simp only [Ql]; rw [uI fun k hk => h k (by omega),h n (by omega)]
theorem acQ {f : Nat->Bool} {k : Nat} (hf : f k = false) : ∀ {n},k < n->Ql (fun q => if q = k then true else f q) n = Ql f n + 1
 | n + 1,h => by
  simp only [Ql]
  by_cases e : k = n
  ·subst e
   rw [uI (g := f) fun q hq => if_neg (by omega),hf]; simp
  ·rw [acQ hf (n := n) (by omega),if_neg (by omega)]; omega
theorem Vt {f : Nat->Bool} (h : ∀ k,f k = false) : ∀ n,Ql f n = 0
 | 0 => rfl
 | n + 1 => by simp only [Ql,h,Vt h n]; rfl
namespace dw
def at_ (p : dw) (L : Int) (i j : Nat) : Prop := i < p.n/\0<=p.cls i/\j < many (p.cls i)/\p.tk i j = true/\L = 2 + i * 8 + j * spn (p.cls i)
def has (p : dw) (L : Int) : Prop := ∃ i j,p.at_ L i j
def good (p : dw) : Prop := p.ok/\∀ i,i < p.n->(p.cls i = -1->∀ k,p.tk i k = false)/\(∀ k,p.tk i k = true->k < many (p.cls i))/\p.cnt i = (Ql (p.tk i) 8 : Nat)
end dw
theorem oV {p : dw} (hp : p.good) {c : Int} {i k : Nat} (h : p.takes c i k) : i < p.n/\k < dw.many c/\p.tk i k = false/\(p.cls i = c ∨ p.cls i = -1) := by
 obtain ⟨h1,h2,h3,h4⟩ := h
 refine ⟨h1,h2,?_,?_⟩
 ·rcases h4 with ⟨h4,_⟩ | ⟨h4,_⟩
  ·rw [if_pos h4] at h3; exact h3
  ·exact (hp.2 i h1).1 h4 k
 ·rcases h4 with ⟨h4,_⟩ | ⟨h4,_⟩
  ·exact .inl h4
  ·exact .inr h4
theorem ap6 (c : Int) : dw.many c<=8 := by rcases gI c with h | h | h | h | h <;> omega
theorem zh {p : dw} (hp : p.good) {c : Int} (hc : 0<=c/\c<=3) {i k : Nat} (h : p.takes c i k) : (p.take c i k).good := by
 obtain ⟨h1,h2,h3,h4⟩ := oV hp h
 obtain ⟨⟨o1,o2,o3⟩,hg⟩ := hp
 have hm := ap6 c
 have hlt : Ql (p.tk i) 8 < 8 := ajV h3 (by omega)
 refine ⟨⟨o1,o2,fun j hj => ?_⟩,fun j hj => ?_⟩
 ·have hj' : j < p.n := hj
  have a1 := o3 j hj'
  have a2 := (hg j hj').2.2
  by_cases e : j = i
  ·subst e
   refine ⟨by show -1<=(if j = j then c else _); rw [if_pos rfl]; omega,by show (if j = j then c else _)<=3; rw [if_pos rfl]; omega,by show 0<=(if j = j then p.cnt j + 1 else _); rw [if_pos rfl]; omega,by show (if j = j then p.cnt j + 1 else _)<=8; rw [if_pos rfl]; omega⟩
  ·refine ⟨by show -1<=(if j = i then c else p.cls j); rw [if_neg e]; omega,by show (if j = i then c else p.cls j)<=3; rw [if_neg e]; omega,by show 0<=(if j = i then p.cnt j + 1 else p.cnt j); rw [if_neg e]; omega,by show (if j = i then p.cnt j + 1 else p.cnt j)<=8; rw [if_neg e]; omega⟩
 ·have hj' : j < p.n := hj
  have a2 := hg j hj'
  by_cases e : j = i
  ·subst e
   refine ⟨fun hh => ?_,fun q hq => ?_,?_⟩
   ·have : (if j = j then c else p.cls j) = -1 := hh
    rw [if_pos rfl] at this; omega
   ·have hq : (if j = j/\q = k then true else p.tk j q) = true := hq
    show q < dw.many (if j = j then c else p.cls j)
    rw [if_pos rfl]
    by_cases eq : q = k
    ·omega
    ·rw [if_neg (fun hh => eq hh.2)] at hq
     have := a2.2.1 q hq
     rcases h4 with h4 | h4
     ·rwa [h4] at this
     ·rw [a2.1 h4 q] at hq; cases hq
   ·show (if j = j then p.cnt j + 1 else p.cnt j) = (Ql (fun q => if j = j/\q = k then true else p.tk j q) 8 : Nat)
    have e1 : Ql (fun q => if j = j/\q = k then true else p.tk j q) 8 = Ql (p.tk j) 8 + 1 := by
     rw [← acQ h3 (show k < 8 by omega)]
     exact uI fun q _ => by by_cases e : q = k <;> simp [e]
    rw [if_pos rfl,a2.2.2,e1]
    omega
  ·refine ⟨fun hh q => ?_,fun q hq => ?_,?_⟩
   ·have hh : (if j = i then c else p.cls j) = -1 := hh
    rw [if_neg e] at hh
    show (if j = i/\q = k then true else p.tk j q) = false
    rw [if_neg (fun h => e h.1)]; exact a2.1 hh q
   ·have hq : (if j = i/\q = k then true else p.tk j q) = true := hq
    rw [if_neg (fun h => e h.1)] at hq
    show q < dw.many (if j = i then c else p.cls j)
    rw [if_neg e]; exact a2.2.1 q hq
   ·show (if j = i then p.cnt j + 1 else p.cnt j) = (Ql (fun q => if j = i/\q = k then true else p.tk j q) 8 : Nat)
    rw [if_neg e,a2.2.2,uI (g := p.tk j) (fun q _ => if_neg (fun h => e h.1))]
theorem acR {p : dw} (hp : p.good) {c : Int} (hc : 0<=c/\c<=3) {i k : Nat} (h : p.takes c i k) {L : Int} {i' j' : Nat} (hL : p.at_ L i' j') : L + spn (p.cls i')<=2 + i * 8 + k * spn c ∨ 2 + i * 8 + k * spn c + spn c<=L := by
 obtain ⟨h1,h2,h3,h4⟩ := oV hp h
 obtain ⟨a1,a2,a3,a4,rfl⟩ := hL
 have a5 := (hp.1.2.2 i' a1).2.1
 by_cases e : i' = i
 ·subst e
  have hcc : p.cls i' = c := by
   rcases h4 with h4 | h4
   ·exact h4
   ·omega
  rw [hcc] at a3 ⊢
  have hne : j' ≠ k := fun e => by subst e; rw [h3] at a4; cases a4
  rcases gI c with m | m | m | m | m <;> obtain ⟨m1,m2,m3⟩ := m <;> rw [m2] <;> omega
 ·rcases gI c with m | m | m | m | m <;> rcases gI (p.cls i') with m' | m' | m' | m' | m' <;> obtain ⟨m1,m2,m3⟩ := m <;> obtain ⟨m1',m2',m3'⟩ := m' <;> rw [m2,m2'] <;> omega
theorem Qm {p : dw} (hp : p.good) {c : Int} (hc : 0<=c/\c<=3) {i k : Nat} (h : p.takes c i k) : ¬ p.has (2 + i * 8 + k * spn c) := fun ⟨i',j',hL⟩ => by
 have h1 := acR hp hc h hL
 have h2 := KJ hc
 have h3 := KJ ⟨hL.2.1,(hp.1.2.2 i' hL.1).2.1⟩
 have s1 := dO c
 have s2 := dO (p.cls i')
 omega
theorem ap7 {p : dw} (hp : p.good) {c : Int} {i k : Nat} (h : p.takes c i k) {L : Int} {i' j' : Nat} (hL : p.at_ L i' j') : (p.take c i k).at_ L i' j'/\(p.take c i k).cls i' = p.cls i' := by
 obtain ⟨h1,h2,h3,h4⟩ := oV hp h
 obtain ⟨a1,a2,a3,a4,a5⟩ := hL
 have hcl : (p.take c i k).cls i' = p.cls i' := by
  show (if i' = i then c else p.cls i') = _
  split
  ·rename_i e
   subst e
   rcases h4 with h4 | h4
   ·exact h4.symm
   ·omega
  ·rfl
 refine ⟨⟨a1,by rw [hcl]; exact a2,by rw [hcl]; exact a3,?_,by rw [hcl]; exact a5⟩,hcl⟩
 show (if i' = i/\j' = k then true else p.tk i' j') = true
 split
 ·rfl
 ·exact a4
theorem at_new {p : dw} (hp : p.good) {c : Int} (hc : 0<=c) {i k : Nat} (h : p.takes c i k) : (p.take c i k).at_ (2 + i * 8 + k * spn c) i k/\(p.take c i k).cls i = c := by
 obtain ⟨h1,h2,h3,h4⟩ := oV hp h
 have hcl : (p.take c i k).cls i = c := if_pos rfl
 refine ⟨⟨h1,by rw [hcl]; exact hc,by rw [hcl]; exact h2,if_pos ⟨rfl,rfl⟩,by rw [hcl]⟩,hcl⟩
end Go.Proofs.YtenfleoejgjklaaGreat
end
section
namespace Go.Proofs.YtenfleoejgjklaaGreat
open Go SE
set_option linter.unusedSimpArgs false
structure uN (a : ZArn) (t : Nat) : Prop where
 dok : a.d.ok
 dst : a.d.st + 20 < 1099511627776
 rok : a.r.ok
 cok : a.c.ok
 tc : t < a.c.t
 tr : t < a.r.t
 out : a.r.has t = 0
 pg : a.p.good
 fit : 2 + a.p.n * 8<=a.d.n
 bok : a.b.ok
 lok : a.l.ok
 ln : a.l.n < 1099511627776
 id0 : 0<=a.id
 id1 : a.id < 1152921504606846976
 v0 : 0<=a.ver
 v1 : a.ver < 1152921504606846976
 nn : a.n < 1099511627776
 acS : 1<=a.c.now
 VT : a.c.now<=2305843009213693952
 owed : ∀ k,a.c.o k + 8 < 1099511627776
 used : ∀ L : Int,2<=L->(qN.inL ⟨a.b,a.l,L⟩ ∨ qN.inB ⟨a.b,a.l,L⟩)->a.p.has L
theorem Vu {a : ZArn} {t : Nat} (h : a.r.has t = 0) (v : Int) : (a.rW t v).rW t 0 = a := by
 obtain ⟨d,p,r,c,b,l,id,ver,n,e⟩ := a
 obtain ⟨rt,rn,rh⟩ := r
 have h : rh t = 0 := h
 have : (fun j => if j = t then (0 : Int) else if j = t then v else rh j) = rh := by
  funext j
  by_cases e : j = t
  ·rw [if_pos e,e,h]
  ·rw [if_neg e,if_neg e]
 simp only [ZArn.rW,ZRd.put,this]
theorem jI {p : dw} (hp : p.good) {c : Int} (hc : 0<=c/\c<=3) {i j : Nat} (h : p.takes c i j) : ((2 + i * 8 + j * (spn c).toNat : Nat) : Int) = 2 + i * 8 + j * spn c/\2 + i * 8 + j * (spn c).toNat + (spn c).toNat<=2 + p.n * 8 := by
 obtain ⟨h1,h2,_,_⟩ := oV hp h
 rcases gI c with m | m | m | m | m <;> obtain ⟨m1,m2,m3⟩ := m <;> rw [m2] <;> simp only [show Int.toNat 1 = 1 from rfl,show Int.toNat 2 = 2 from rfl,show Int.toNat 4 = 4 from rfl,show Int.toNat 8 = 8 from rfl,show Int.toNat 0 = 0 from rfl] <;> omega
def jo.fW (x : jo) (k : Int) (i j p : Nat) : ZFr := { x.f1 with line := x.ln k i j,cls := x.c k,piece := (p : Int) }
section
variable {x : jo}
theorem ajW (g : uN x.a x.t) (hv : x.v.size<=400) (k : Int) (hc : 0<=x.c k/\x.c k<=3) (i j : Nat) : ∀ p,p<=8->(x.dW k i j p).ok/\(x.dW k i j p).n = x.a.d.n/\(x.dW k i j p).st = x.a.d.st + p
 | 0,_ => ⟨g.dok,rfl,by show x.a.d.st = x.a.d.st + ((0 : Nat) : Int); omega⟩
 | p + 1,hp => by
  obtain ⟨h1,h2,h3⟩ := ajW g hv k hc i j p (by omega)
  have := g.dst
  show (ZWr.d' ⟨x.dW k i j p,x.t,x.f1,x.ln k i j,x.c k,p⟩).ok/\_
  show _/\(ZWr.d' ⟨x.dW k i j p,x.t,x.f1,x.ln k i j,x.c k,p⟩).n = _/\(ZWr.d' ⟨x.dW k i j p,x.t,x.f1,x.ln k i j,x.c k,p⟩).st = _
  unfold ZWr.d'
  by_cases e : p = 0
  ·simp only [e,if_true]
   subst e
   exact ⟨DevM.jf h1 _ _ _ (D8 hc) (by omega),h2,by show (x.dW k i j 0).st + 1 = _; omega⟩
  ·simp only [e,if_false]
   exact ⟨DevM.jf h1 _ _ _ (fun q => abD _ (by omega)) (by omega),h2,by show (x.dW k i j p).st + 1 = _; omega⟩
theorem ap8 (hv : x.v.size<=400) : 0<=x.c 4/\x.c 4<=3 := by
 rw [show x.c 4 = ned x.v.size from if_pos rfl]; exact KI hv
theorem ap9 {c : Int} (h : 0<=c/\c<=3) : ((0 : Nat) : Int) < spn c := by
 rcases dO c with h' | h' | h' | h' | h' <;> omega
theorem ajX (g : uN x.a x.t) (hv : x.v.size<=400) (i j : Nat) : (x.pb 4 i j x.f1).chg.blk.may := by
 have hc : x.c 4 = ned x.v.size := if_pos rfl
 have := g.id0; have := g.id1; have := g.v0; have := g.v1; have := g.acS; have := g.VT
 refine ⟨KJ (by show 0<=x.c 4/\x.c 4<=3; rw [hc]; exact KI hv),.inr (.inr (.inl ⟨rfl,rfl,hv,?_,?_,?_,?_⟩))⟩
 ·show ned ((0 + x.v.size : Nat) : Int) = x.c 4
  rw [hc,ay]
 ·show 1<=x.a.id + 1/\x.a.id + 1<=2305843009213693952; omega
 ·show 1<=x.a.ver + 1/\x.a.ver + 1<=2305843009213693952; omega
 ·show 1<=x.a.c.now/\x.a.c.now<=2305843009213693952; omega
theorem ajY (g : uN x.a x.t) (hv : x.v.size<=400) {i j : Nat} (h : x.a.p.takes (x.c 4) i j) : (x.pb 4 i j x.f1).chg.okE/\(∃ i' j',(x.pb 4 i j x.f1).chg.inP i' j')/\∀ k,(x.pb 4 i j x.f1).a.c.o k + 8 < 1099511627776 := by
 have hc : 0<=x.c 4/\x.c 4<=3 := by rw [show x.c 4 = ned x.v.size from if_pos rfl]; exact KI hv
 have hs := dO (x.c 4)
 obtain ⟨l1,l2⟩ := jI g.pg hc h
 obtain ⟨d1,d2,d3⟩ := ajW g hv 4 hc i j (x.sp 4) (by unfold jo.sp; omega)
 obtain ⟨n1,n2⟩ := at_new g.pg hc.1 h
 have hf := g.fit
 have h1 := g.dok.1
 have no : ¬ x.a.p.has ((x.ln 4 i j : Nat) : Int) := by rw [show ((x.ln 4 i j : Nat) : Int) = 2 + i * 8 + j * spn (x.c 4) from l1]; exact Qm g.pg hc h
 have hL : (2 : Int)<=(x.ln 4 i j : Nat) := by unfold jo.ln; omega
 refine ⟨⟨⟨d1,g.cok,g.lok,g.tc,?_,ajX g hv i j,?_,g.id0,g.v0,g.nn,?_⟩,(zh g.pg hc h).1,g.bok,g.ln,rfl,g.v1,g.id1,fun hh => no (g.used _ hL (.inl hh)),fun hh => no (g.used _ hL (.inr hh))⟩,⟨i,j,?_⟩,g.owed⟩
 ·show x.ln 4 i j < (x.dW 4 i j (x.sp 4)).n
  rw [d2]; unfold jo.ln; omega
 ·show x.v.size < 1099511627776; omega
 ·show (x.dW 4 i j (x.sp 4)).n<=258; omega
 ·obtain ⟨a1,a2,a3,a4,a5⟩ := n1
  exact ⟨a1,a2,a3,a4,by show ((x.ln 4 i j : Nat) : Int) = 2 + i * 8 + j * spn ((x.a.p.take (x.c 4) i j).cls i); rw [n2]; exact l1,n2⟩
theorem Zd (g : uN x.a x.t) : ajQ x := by
 unfold ajQ
 simp only [LD,acK,jV,BU,iE,lF,fC,fB,zf,vk,vw,acE,acF,tY,jk,jl,ji,Vq,LC,acG,acP,acI,Dn,LH,ajO,acM,acO,LG,Vp,ae4,Zb,Lu,acH,uZ]
 simp only [aY,aU,aT,ay,aH,bI,bn,aN,aJ,au,aW,aV,bJ,bC,bD,bF,bK,bf,bG,aZ,dU,aG,aK,ah,aj,aA,aC,aB,aF]
 refine ⟨⟨⟨x.a,f0 x.key x.v,1,0⟩,⟨show 1<=1 by decide,show 1<=50 by decide,rfl,rfl,rfl⟩,rfl,(by repeat' (first | exact rfl | refine And.intro ?_ ?_)),rfl⟩,?_,?_,?_,?_,?_⟩
 ·rintro ⟨sa,sf,sn,sp⟩ ⟨s1,s2,s3,s4,s5⟩
  have s1 : 1<=sn := s1
  have s2 : sn<=50 := s2
  have s3 : sn = 1 := s3
  have e4 : sa = x.a := s4
  have e5 : sf = f0 x.key x.v := s5
  clear s4 s5
  subst e4 e5
  refine bg (fun _ => ⟨⟨x.a,f0 x.key x.v,x.t⟩,⟨g.rok,g.cok,g.tr,g.out⟩,(by repeat' (first | exact rfl | refine And.intro ?_ ?_)),rfl,fun h => .inl ⟨sn,h,(by repeat' (first | exact rfl | refine And.intro ?_ ?_)),rfl⟩,fun h => ⟨by unfold I64; omega,⟨x.a1,x.f1,sn + 1,0⟩,⟨by show 1<=sn + 1; omega,by show sn + 1<=50; omega,by show sn + 1 = 2; omega,rfl,rfl,h⟩,by show 101 - (sn + 1) < 101 - sn; omega,rfl,(by repeat' (first | exact rfl | refine And.intro ?_ ?_)),rfl⟩⟩) fun h => absurd (aS h) (by show ¬ ¬ (sn : Int)<=100; omega)
 ·rintro ⟨sa,sf,sn,sp⟩ ⟨s1,s2,s3,s4,s5,hv⟩
  have s1 : 1<=sn := s1
  have s2 : sn<=50 := s2
  have s3 : sn = 2 := s3
  have e4 : sa = x.a1 := s4
  have e5 : sf = x.f1 := s5
  clear s4 s5
  subst e4 e5
  have hcc := ap8 hv
  refine bg (fun _ => ⟨⟨x.a1,x.f1,x.t⟩,⟨g.pg.1,hv⟩,(by repeat' (first | exact rfl | refine And.intro ?_ ?_)),rfl,fun h => ⟨by unfold I64; omega,⟨x.a1,{ x.f1 with cls := x.c 4,code := 4 },sn + 1,0⟩,⟨by show 1<=sn + 1; omega,by show sn + 1<=50; omega,hv,.inl ⟨h,rfl,rfl⟩⟩,by show 101 - (sn + 1) < 101 - sn; omega,rfl,(by repeat' (first | exact rfl | refine And.intro ?_ ?_)),rfl⟩,fun y hy => ⟨by unfold I64; omega,⟨x.a2 4 y.1 y.2 0,{ x.f1 with line := x.ln 4 y.1 y.2,cls := x.c 4,piece := (0 : Nat) },sn + 1,0⟩,⟨by show 1<=sn + 1; omega,by show sn + 1<=50; omega,hv,ap9 hcc,by show sn + 1 = 3 + 0; omega,y.1,y.2,hy,rfl,rfl⟩,by show 101 - (sn + 1) < 101 - sn; omega,rfl,?_,rfl⟩⟩) fun h => absurd (aS h) (by show ¬ ¬ (sn : Int)<=100; omega)
  exact ⟨rfl,rfl,rfl,rfl,rfl,rfl,rfl,rfl,rfl,(jI g.pg hcc hy).1,rfl,rfl,rfl,rfl,rfl,rfl⟩
 ·rintro ⟨sa,sf,sn,sp⟩ ⟨s1,s2,hv,hp,s3,i,j,ht,s4,s5⟩
  have s1 : 1<=sn := s1
  have s2 : sn<=50 := s2
  have hp : (sp : Int) < spn (x.c 4) := hp
  have s3 : sn = 3 + sp := s3
  have e4 : sa = x.a2 4 i j sp := s4
  have e5 : sf = x.fW 4 i j sp := s5
  clear s4 s5
  subst e4 e5
  have hcc := ap8 hv
  have hs := dO (x.c 4)
  obtain ⟨l1,l2⟩ := jI g.pg hcc ht
  obtain ⟨d1,d2,d3⟩ := ajW g hv 4 hcc i j sp (by omega)
  have hf := g.fit
  have hd := g.dst
  have hw : lM.w ⟨x.a2 4 i j sp,x.fW 4 i j sp,x.t,x.ln 4 i j,x.c 4,sp⟩ |>.ok := ⟨d1,hcc.1,hcc.2,by show ((x.ln 4 i j : Nat) : Int) + spn (x.c 4)<=(x.dW 4 i j sp).n; rw [d2]; unfold jo.ln; omega,hp,hv,by show small (x.dW 4 i j sp).st; have := g.dok.2.2.1; unfold small at *; omega,by show (x.dW 4 i j sp).st + 10 < _; omega⟩
  refine bg (fun _ => ⟨⟨x.a2 4 i j sp,x.fW 4 i j sp,x.t,x.ln 4 i j,x.c 4,sp⟩,hw,(by repeat' (first | exact rfl | refine And.intro ?_ ?_)),rfl,fun h => ⟨by unfold I64; omega,⟨x.a2 4 i j (sp + 1),x.fW 4 i j (sp + 1),sn + 1,sp + 1⟩,⟨by show 1<=sn + 1; omega,by show sn + 1<=50; omega,hv,by show ((sp + 1 : Nat) : Int) < _; have h : (sp : Int) + 1 ≠ spn (x.c 4) := h; omega,by show sn + 1 = 3 + (sp + 1); omega,i,j,ht,rfl,rfl⟩,by show 101 - (sn + 1) < 101 - sn; omega,rfl,(by repeat' (first | exact rfl | refine And.intro ?_ ?_)),rfl⟩,fun h => ?_⟩) fun h => absurd (aS h) (by show ¬ ¬ (sn : Int)<=100; omega)
  have h : (sp : Int) + 1 = spn (x.c 4) := h
  have e : x.sp 4 = sp + 1 := by unfold jo.sp; omega
  refine ⟨by unfold I64; omega,⟨x.a2 4 i j (x.sp 4),{ x.f1 with line := x.ln 4 i j,cls := x.c 4 },sn + 1,0⟩,⟨by show 1<=sn + 1; omega,by show sn + 1<=50; omega,hv,by show sn + 1 = 3 + x.sp 4; omega,i,j,ht,rfl,rfl⟩,by show 101 - (sn + 1) < 101 - sn; omega,rfl,(by repeat' (first | exact rfl | refine And.intro ?_ ?_)),by rw [e]; rfl⟩
 ·rintro ⟨sa,sf,sn,sp⟩ ⟨s1,s2,hv,s3,i,j,ht,s4,s5⟩
  have s1 : 1<=sn := s1
  have s2 : sn<=50 := s2
  have s3 : sn = 3 + x.sp 4 := s3
  have hs := dO (x.c 4)
  have hs9 : x.sp 4<=8 := by unfold jo.sp; omega
  have e4 : sa = x.a2 4 i j (x.sp 4) := s4
  have e5 : sf = { x.f1 with line := x.ln 4 i j,cls := x.c 4 } := s5
  clear s4 s5
  subst e4 e5
  refine bg (fun _ => ⟨x.pb 4 i j x.f1,ajY g hv ht,(by repeat' (first | exact rfl | refine And.intro ?_ ?_)),rfl,by unfold I64; omega,⟨(x.pb 4 i j x.f1).chg.enq,{ x.f1 with cls := x.c 4,aep := x.a.c.now },sn + 1,0⟩,⟨by show 1<=sn + 1; omega,by show sn + 1<=50; omega,hv,.inr ⟨by show sn + 1 = 4 + x.sp 4; omega,i,j,ht,rfl,rfl⟩⟩,by show 101 - (sn + 1) < 101 - sn; omega,rfl,(by repeat' (first | exact rfl | refine And.intro ?_ ?_)),rfl⟩) fun h => absurd (aS h) (by show ¬ ¬ (sn : Int)<=100; omega)
 ·rintro ⟨sa,sf,sn,sp⟩ ⟨s1,s2,hv,hh⟩
  have s1 : 1<=sn := s1
  have s2 : sn<=50 := s2
  rcases hh with ⟨hf,s4,s5⟩ | ⟨s3,i,j,ht,s4,s5⟩
  ·have e4 : sa = x.a1 := s4
   have e5 : sf = { x.f1 with cls := x.c 4,code := 4 } := s5
   clear s4 s5
   subst e4 e5
   refine bg (fun _ => ⟨⟨x.a1,{ x.f1 with cls := x.c 4,code := 4 },x.t⟩,⟨g.rok,g.tr⟩,(by repeat' (first | exact rfl | refine And.intro ?_ ?_)),rfl,.inr (.inl ⟨sn,⟨hv,hf⟩,(by repeat' (first | exact rfl | refine And.intro ?_ ?_)),?_⟩)⟩) fun h => absurd (aS h) (by show ¬ ¬ (sn : Int)<=100; omega)
   show ownM x.a.os = ownM (x.a1.rW x.t 0).os
   rw [show x.a1.rW x.t 0 = x.a from Vu g.out _]
  ·have e4 : sa = (x.pb 4 i j x.f1).chg.enq := s4
   have e5 : sf = { x.f1 with cls := x.c 4,aep := x.a.c.now } := s5
   clear s4 s5
   subst e4 e5
   refine bg (fun _ => ⟨⟨(x.pb 4 i j x.f1).chg.enq,{ x.f1 with cls := x.c 4,aep := x.a.c.now },x.t⟩,⟨g.rok,g.tr⟩,(by repeat' (first | exact rfl | refine And.intro ?_ ?_)),rfl,.inr (.inr ⟨(i,j),⟨hv,ht⟩,⟨(by repeat' (first | exact rfl | refine And.intro ?_ ?_)),(by show ((4 + x.sp 4 : Nat) : Int) = sn; have s3 : sn = 4 + x.sp 4 := s3; omega)⟩,rfl⟩)⟩) fun h => absurd (aS h) (by show ¬ ¬ (sn : Int)<=100; omega)
theorem Qn (x : ZCl) : Qk x := by
 unfold Qk
 simp only [fB,fC,jV,Zb]
 simp only [aY,aU,aT,ay,aH,bI,bn,aN,aJ,au,aW,aV,bJ,bC,bD,bF,bK,bf,bG,aZ,dU,aG,aK,ah,aj,aA,aC,aB,aF]
theorem ajZ : bU Tryz.prog 17 Ls := dR dD mixed .nil noA 200 6 (fun _ => rfl) (fun _ => rfl) fun x _ => Eq.mp (Zc x) (Qn x)
theorem Vw (args : List AV) (h : Heap) (K : AV->Heap->Prop) (hq : beginT args h K) : Sp Tryz.prog 17 args h K := by
 unfold beginT at hq
 split at hq
 ·rename_i k key v to
  exact D7 ajZ ⟨k,key,v,to⟩ trivial h rfl rfl hq
 ·exact hq.elim
theorem Vx : fA Tryz.prog ajK := .cons Vw (.cons ajJ .nil)
theorem aqa : bU Tryz.prog 15 (runE fun x => uN x.a x.t) := fZ dD mixed Vx annE 200 6 (fun _ => rfl) (fun _ => ⟨fun _ => rfl,fun _ => rfl,fun _ => rfl,trivial⟩) fun x hx => Eq.mp (ajR x) (Zd (aY.1 hx))
end
end Go.Proofs.YtenfleoejgjklaaGreat
end
section
namespace Go.Proofs.YtenfleoejgjklaaGreat
open Go SE
set_option linter.unusedSimpArgs false
def LJ (a : ZArn) (b : dN) (ln : Nat) : Prop := b.may/\b.kind = 2/\a.l.head = ⟨⟨#[]⟩,b.id,b.ver,ln,b.cls⟩/\(∃ i j,a.p.at_ ln i j/\a.p.cls i = b.cls)/\∀ q,q < 64 * b.dA->a.d.b ((ln + q / 64) * 193 + q % 64) = b.enc q
section
variable {x : jo}
theorem aj0 (g : uN x.a x.t) {ln i j : Nat} {c : Int} (h : x.a.p.at_ ln i j) (hc : x.a.p.cls i = c) : 2<=ln/\(ln : Int) + spn c<=x.a.d.n/\0<=c/\c<=3/\ln < 258 := by
 obtain ⟨h1,h2,h3,h4,h5⟩ := h
 have h6 := (g.pg.1.2.2 i h1).2.1
 have h7 := g.fit
 have h8 := g.dok.1
 rw [hc] at h2 h3 h5 h6
 rcases gI c with m | m | m | m | m <;> obtain ⟨m1,m2,m3⟩ := m <;> rw [m2] at h5 ⊢ <;> omega
theorem ln5 (g : uN x.a x.t) {y : Nat × Nat} (h : x.a.p.takes 0 y.1 y.2) : ((x.ln 5 y.1 y.2 : Nat) : Int) = 2 + y.1 * 8 + y.2 * spn 0 := (jI g.pg (by decide) h).1
theorem aqb (g : uN x.a x.t) {i j : Nat} (h : x.a.p.takes 0 i j) : x.ln 5 i j + 1<=x.a.d.n := by
 have h1 := (jI g.pg (by decide) h).2
 have h2 := g.fit
 have : x.ln 5 i j = 2 + i * 8 + j * (spn 0).toNat := rfl
 have h3 : (spn 0).toNat = 1 := rfl
 omega
theorem aqc (g : uN x.a x.t) (hv : x.v.size<=400) (hz : x.a.l.n ≠ 0) (hH : x.a.l.n ≠ 0->x.a.n ≠ 0/\∃ ln,LJ x.a x.b ln) {i j : Nat} (h : x.a.p.takes 0 i j) : (x.pb 5 i j x.f2).chg.okD/\(∃ i' j',(x.pb 5 i j x.f2).chg.inP i' j')/\0<=x.a.id/\x.a.id < 1152921504606846976/\x.a.n ≠ 0 := by
 obtain ⟨hn0,ln,hb1,hb2,hh,⟨bi,bj,hat,hbc⟩,hby⟩ := hH hz
 have hk : (⟨#[]⟩ : ByteArray) = x.a.l.head.key := by rw [hh]
 have hi : x.b.id = x.a.l.head.id := by rw [hh]
 have hve : x.b.ver = x.a.l.head.ver := by rw [hh]
 have hl : (ln : Int) = x.a.l.head.line := by rw [hh]
 have hcl : x.b.cls = x.a.l.head.cls := by rw [hh]
 have hfit := aj0 g hat hbc
 have hs := dO x.b.cls

 have hc : (0 : Int)<=0/\(0 : Int)<=3 := by decide
 have hc5 : x.c 5 = 0 := if_neg (by decide)
 obtain ⟨l1,l2⟩ := jI g.pg hc h
 obtain ⟨d1,d2,d3⟩ := ajW g hv 5 (by rw [hc5]; exact hc) i j (x.sp 5) (by unfold jo.sp; rw [hc5]; decide)
 obtain ⟨n1,n2⟩ := at_new g.pg hc.1 h
 have hf := g.fit
 have h1 := g.dok.1
 have hs0 : (spn 0).toNat = 1 := rfl
 have eL : x.ln 5 i j = 2 + i * 8 + j * (spn 0).toNat := by unfold jo.ln; rw [hc5]
 have no : ¬ x.a.p.has ((x.ln 5 i j : Nat) : Int) := by rw [eL,l1]; exact Qm g.pg hc h
 have hL : (2 : Int)<=(x.ln 5 i j : Nat) := by rw [eL]; omega
 have nums : 1<=x.b.id/\x.b.id<=2305843009213693952 := by
  rcases hb1.2 with h | h | h | h
  ·exfalso; have := h.1; omega
  ·exfalso; have := h.1; omega
  ·exact h.2.2.2.2.1
  ·exfalso; have := h.1; omega
 have := g.v0; have := g.v1; have := g.acS; have := g.VT
 refine ⟨⟨d1,g.cok,g.lok,g.tc,?_,?_,g.v0,g.nn,?_,?_,g.bok,g.rok,g.ln,hz,rfl,rfl,g.v1,hc5,?_,fun hh => no (g.used _ hL (.inl hh)),fun hh => no (g.used _ hL (.inr hh))⟩,⟨i,j,?_⟩,g.id0,g.id1,hn0⟩
 ·show x.ln 5 i j < (x.dW 5 i j (x.sp 5)).n
  rw [d2,eL]; omega
 ·refine ⟨show spn 0 ≠ 0 by decide,.inr (.inr (.inr ⟨rfl,rfl,rfl,?_,?_,?_⟩))⟩
  ·show 1<=x.a.l.head.id/\x.a.l.head.id<=2305843009213693952
   rw [← hi]; exact nums
  ·show 1<=x.a.ver + 1/\x.a.ver + 1<=2305843009213693952; omega
  ·show 1<=x.a.c.now/\x.a.c.now<=2305843009213693952; omega
 ·show (x.dW 5 i j (x.sp 5)).n<=258; omega
 ·show (x.a.p.take (x.c 5) i j).ok
  rw [hc5]; exact (zh g.pg hc h).1
 ·refine ⟨?_,?_,?_,?_,?_,?_⟩
  ·show 2<=x.a.l.head.line; rw [← hl]; omega
  ·show x.a.l.head.line < 258; rw [← hl]; omega
  ·show 0<=x.a.l.head.cls; rw [← hcl]; omega
  ·show x.a.l.head.cls<=3; rw [← hcl]; omega
  ·show -1<=((x.ln 5 i j : Nat) : Int); omega
  ·show ((x.ln 5 i j : Nat) : Int) < 258; omega
 ·obtain ⟨a1,a2,a3,a4,a5⟩ := n1
  show i < (x.a.p.take (x.c 5) i j).n/\_
  rw [← hc5] at a1 a2 a3 a4 n2
  refine ⟨a1,a2,a3,a4,?_,n2⟩
  show ((x.ln 5 i j : Nat) : Int) = 2 + i * 8 + j * spn ((x.a.p.take (x.c 5) i j).cls i)
  rw [n2,hc5,eL]; exact l1
theorem Ze (g : uN x.a x.t) (hv : x.v.size<=400) (hH : x.a.l.n ≠ 0->x.a.n ≠ 0/\∃ ln,LJ x.a x.b ln) : ajS x := by
 have hc5 : x.c 5 = 0 := if_neg (by decide)
 unfold ajS
 simp only [LD,acK,jV,BR,iE,lF,fC,fB,zf,vk,vw,acD,tY,jk,jl,ji,Vq,Qj,Vr,uZ,Vp,vg,ajP,Dn,acL,ae4,acN,ajN,Vs,ajM,acP,acJ,LH,acM,acO,LG,ajL,Lu,Zb,acH]
 simp only [aY,aU,aT,ay,aH,bI,bn,aN,aJ,au,aW,aV,bJ,bC,bD,bF,bK,bf,bG,aZ,dU,aG,aK,ah,aj,aA,aC,aB,aF]
 refine ⟨⟨⟨x.a,f0 x.key x.v,1,0⟩,⟨show 1<=1 by decide,show 1<=50 by decide,rfl,rfl,rfl⟩,rfl,(by repeat' (first | exact rfl | refine And.intro ?_ ?_)),rfl⟩,?_,?_,?_,?_,?_,?_,?_,?_⟩
 ·rintro ⟨sa,sf,sn,sp⟩ ⟨s1,s2,s3,s4,s5⟩
  have s1 : 1<=sn := s1
  have s2 : sn<=50 := s2
  have s3 : sn = 1 := s3
  have e4 : sa = x.a := s4
  have e5 : sf = f0 x.key x.v := s5
  clear s4 s5
  subst e4 e5
  refine bg (fun _ => ⟨⟨x.a,f0 x.key x.v,x.t⟩,⟨g.rok,g.cok,g.tr,g.out⟩,(by repeat' (first | exact rfl | refine And.intro ?_ ?_)),rfl,fun h => absurd h.1 (by decide),fun h => ⟨by unfold I64; omega,⟨x.a1,x.f1,sn + 1,0⟩,⟨by show 1<=sn + 1; omega,by show sn + 1<=50; omega,by show sn + 1 = 2; omega,rfl,rfl⟩,by show 101 - (sn + 1) < 101 - sn; omega,rfl,(by repeat' (first | exact rfl | refine And.intro ?_ ?_)),rfl⟩⟩) fun h => absurd (aS h) (by show ¬ ¬ (sn : Int)<=100; omega)
 ·rintro ⟨sa,sf,sn,sp⟩ ⟨s1,s2,s3,s4,s5⟩
  have s1 : 1<=sn := s1
  have s2 : sn<=50 := s2
  have s3 : sn = 2 := s3
  have e4 : sa = x.a1 := s4
  have e5 : sf = x.f1 := s5
  clear s4 s5
  subst e4 e5
  refine bg (fun _ => ⟨⟨x.a1,x.f1,x.t⟩,⟨g.lok,rfl⟩,(by repeat' (first | exact rfl | refine And.intro ?_ ?_)),rfl,fun h => ⟨by unfold I64; omega,⟨x.a1,x.f1,sn + 1,0⟩,⟨by show 1<=sn + 1; omega,by show sn + 1<=50; omega,.inl ⟨h,rfl,rfl⟩⟩,by show 101 - (sn + 1) < 101 - sn; omega,rfl,(by repeat' (first | exact rfl | refine And.intro ?_ ?_)),rfl⟩,fun h => ⟨by unfold I64; omega,⟨x.a1,{ x.f1 with had := true,old := x.a.l.head },sn + 1,0⟩,⟨by show 1<=sn + 1; omega,by show sn + 1<=50; omega,by show sn + 1 = 3; omega,rfl,h,rfl⟩,by show 101 - (sn + 1) < 101 - sn; omega,rfl,(by repeat' (first | exact rfl | refine And.intro ?_ ?_)),rfl⟩⟩) fun h => absurd (aS h) (by show ¬ ¬ (sn : Int)<=100; omega)
 ·rintro ⟨sa,sf,sn,sp⟩ ⟨s1,s2,s3,s4,hz,s5⟩
  have s1 : 1<=sn := s1
  have s2 : sn<=50 := s2
  have s3 : sn = 3 := s3
  have e4 : sa = x.a1 := s4
  have e5 : sf = { x.f1 with had := true,old := x.a.l.head } := s5
  clear s4 s5
  subst e4 e5
  obtain ⟨hn0,ln,hb1,hb2,hh,⟨bi,bj,hat,hbc⟩,hby⟩ := hH hz
  have hk : (⟨#[]⟩ : ByteArray) = x.a.l.head.key := by rw [hh]
  have hi : x.b.id = x.a.l.head.id := by rw [hh]
  have hve : x.b.ver = x.a.l.head.ver := by rw [hh]
  have hl : (ln : Int) = x.a.l.head.line := by rw [hh]
  have hcl : x.b.cls = x.a.l.head.cls := by rw [hh]
  have hfit := aj0 g hat hbc
  have hs := dO x.b.cls
  have hw : jK.w ⟨x.a1,x.f1,x.t,x.b,ln,0⟩ |>.ok := ⟨g.dok,hb1,hb2,hfit.2.1,by show ((0 : Nat) : Int) < spn x.b.cls; omega,hby⟩
  refine bg (fun _ => ⟨⟨x.a1,x.f1,x.t,x.b,ln,0⟩,⟨hw,rfl⟩,(by repeat' (first | exact rfl | exact hk | exact hi | exact hve | exact hl | exact hcl | refine And.intro ?_ ?_)),rfl,fun h => ⟨by unfold I64; omega,⟨x.a1,{ x.f1 with had := true,old := x.a.l.head,piece := ((1 : Nat) : Int) },sn + 1,1⟩,⟨aX 1,by show ((1 : Nat) : Int) < spn x.b.cls; have h : (1 : Int) ≠ spn x.b.cls := h; omega,by show sn + 1 = 3 + 1; omega,rfl,hz,rfl⟩,by show 101 - (sn + 1) < 101 - sn; omega,rfl,⟨rfl,fun q _ => rfl⟩,(by repeat' (first | exact rfl | exact hk.symm | exact hi.symm | exact hve.symm | exact hl.symm | exact hcl.symm | refine And.intro ?_ ?_)),rfl⟩,fun h => ⟨by unfold I64; omega,⟨x.a1,{ x.f2 with piece := 1 },sn + 1,0⟩,⟨by show 1<=sn + 1; omega,by show sn + 1<=50; omega,by show sn + 1 = 3 + x.b.dA; have h : (1 : Int) = spn x.b.cls := h.1; have := (jm x.b).2; omega,rfl,hz,1,rfl⟩,by show 101 - (sn + 1) < 101 - sn; omega,rfl,(by repeat' (first | exact rfl | exact hk.symm | exact hi.symm | exact hve.symm | exact hl.symm | exact hcl.symm | refine And.intro ?_ ?_)),rfl⟩,fun h => absurd h.2 (show ¬ (0 : Int)<=-1 by decide)⟩) fun h => absurd (aS h) (by show ¬ ¬ (sn : Int)<=100; omega)
 ·rintro ⟨sa,sf,sn,sp⟩ ⟨p1,p2,s3,s4,hz,s5⟩
  have p1 : 1<=sp := p1
  have p2 : (sp : Int) < spn x.b.cls := p2
  have s3 : sn = 3 + sp := s3
  have e4 : sa = x.a1 := s4
  have e5 : sf = { x.f1 with had := true,old := x.a.l.head,piece := (sp : Int) } := s5
  clear s4 s5
  subst e4 e5
  obtain ⟨hn0,ln,hb1,hb2,hh,⟨bi,bj,hat,hbc⟩,hby⟩ := hH hz
  have hk : (⟨#[]⟩ : ByteArray) = x.a.l.head.key := by rw [hh]
  have hi : x.b.id = x.a.l.head.id := by rw [hh]
  have hve : x.b.ver = x.a.l.head.ver := by rw [hh]
  have hl : (ln : Int) = x.a.l.head.line := by rw [hh]
  have hcl : x.b.cls = x.a.l.head.cls := by rw [hh]
  have hfit := aj0 g hat hbc
  have hs := dO x.b.cls
  have hw : jK.w ⟨x.a1,x.f1,x.t,x.b,ln,sp⟩ |>.ok := ⟨g.dok,hb1,hb2,hfit.2.1,p2,hby⟩
  refine bg (fun _ => ⟨⟨x.a1,x.f1,x.t,x.b,ln,sp⟩,⟨hw,by show sp ≠ 0; omega⟩,(by repeat' (first | exact rfl | exact hk | exact hi | exact hve | exact hl | exact hcl | refine And.intro ?_ ?_)),⟨rfl,rfl,fun q _ => rfl⟩,fun h => ⟨by unfold I64; omega,⟨x.a1,{ x.f1 with had := true,old := x.a.l.head,piece := ((sp + 1 : Nat) : Int) },sn + 1,sp + 1⟩,⟨by show 1<=sp + 1; omega,by show ((sp + 1 : Nat) : Int) < spn x.b.cls; have h : (sp : Int) + 1 ≠ spn x.b.cls := h; omega,by show sn + 1 = 3 + (sp + 1); omega,rfl,hz,rfl⟩,by show 101 - (sn + 1) < 101 - sn; omega,rfl,⟨rfl,fun q _ => rfl⟩,(by repeat' (first | exact rfl | exact hk.symm | exact hi.symm | exact hve.symm | exact hl.symm | exact hcl.symm | refine And.intro ?_ ?_)),rfl⟩,fun h => ⟨by unfold I64; omega,⟨x.a1,{ x.f2 with piece := (sp : Int) + 1 },sn + 1,0⟩,⟨by show 1<=sn + 1; omega,by show sn + 1<=50; omega,by show sn + 1 = 3 + x.b.dA; have h : (sp : Int) + 1 = spn x.b.cls := h.1; have := (jm x.b).2; omega,rfl,hz,_,rfl⟩,by show 101 - (sn + 1) < 101 - sn; omega,rfl,(by repeat' (first | exact rfl | exact hk.symm | exact hi.symm | exact hve.symm | exact hl.symm | exact hcl.symm | refine And.intro ?_ ?_)),rfl⟩,fun h => absurd h.2 (show ¬ (0 : Int)<=-1 by decide)⟩) fun h => absurd (aS h) (by show ¬ ¬ (sn : Int)<=100; omega)
 ·rintro ⟨sa,sf,sn,sp⟩ ⟨s1,s2,s3,s4,hz,q,s5⟩
  have s1 : 1<=sn := s1
  have s2 : sn<=50 := s2
  have s3 : sn = 3 + x.b.dA := s3
  have hs9 := (jm x.b).1
  have e4 : sa = x.a1 := s4
  have e5 : sf = { x.f2 with piece := q } := s5
  clear s4 s5
  subst e4 e5
  refine bg (fun _ => ⟨⟨x.a1,{ x.f2 with piece := q },x.t⟩,⟨g.pg.1,hv⟩,(by repeat' (first | exact rfl | refine And.intro ?_ ?_)),rfl,fun h => ⟨by unfold I64; omega,⟨x.a1,{ x.f2 with cls := 0,ans := ⟨#[]⟩,code := 4,piece := q },sn + 1,0⟩,⟨by show 1<=sn + 1; omega,by show sn + 1<=50; omega,.inr (.inl ⟨hz,h,rfl,q,rfl⟩)⟩,by show 101 - (sn + 1) < 101 - sn; omega,rfl,(by repeat' (first | exact rfl | refine And.intro ?_ ?_)),rfl⟩,fun y hy => ⟨by unfold I64; omega,⟨x.a2 5 y.1 y.2 0,{ x.f2 with line := x.ln 5 y.1 y.2,cls := 0,piece := 0 },sn + 1,0⟩,⟨by show 1<=sn + 1; omega,by show sn + 1<=50; omega,by show sn + 1 = 4 + x.b.dA; omega,hz,y.1,y.2,hy,rfl,rfl⟩,by show 101 - (sn + 1) < 101 - sn; omega,rfl,?_,?_⟩⟩) fun h => absurd (aS h) (by show ¬ ¬ (sn : Int)<=100; omega)
  ·exact ⟨rfl,rfl,rfl,rfl,rfl,rfl,rfl,rfl,rfl,ln5 g hy,rfl,rfl,rfl,rfl,rfl,rfl⟩
  ·rfl
 ·rintro ⟨sa,sf,sn,sp⟩ ⟨s1,s2,s3,hz,i,j,ht,s4,s5⟩
  have s1 : 1<=sn := s1
  have s2 : sn<=50 := s2
  have s3 : sn = 4 + x.b.dA := s3
  have hs9 := (jm x.b).1
  have e4 : sa = x.a2 5 i j 0 := s4
  have e5 : sf = { x.f2 with line := x.ln 5 i j,cls := 0,piece := 0 } := s5
  clear s4 s5
  subst e4 e5
  have hd := g.dst
  have hw : lM.w ⟨x.a2 5 i j 0,{ x.f2 with line := x.ln 5 i j,cls := 0,piece := 0 },x.t,x.ln 5 i j,0,0⟩ |>.ok := ⟨g.dok,show (0 : Int)<=0 by decide,show (0 : Int)<=3 by decide,by show ((x.ln 5 i j : Nat) : Int) + spn 0<=x.a.d.n; have := aqb g ht; rw [show spn 0 = 1 from rfl]; omega,show ((0 : Nat) : Int) < spn 0 by decide,hv,g.dok.2.2.1,by show x.a.d.st + 10 < _; omega⟩
  refine bg (fun _ => ⟨⟨x.a2 5 i j 0,{ x.f2 with line := x.ln 5 i j,cls := 0,piece := 0 },x.t,x.ln 5 i j,0,0⟩,⟨hw,rfl⟩,(by repeat' (first | exact rfl | refine And.intro ?_ ?_)),rfl,fun h => absurd rfl h,fun _ => ⟨by unfold I64; omega,⟨x.a2 5 i j (x.sp 5),{ x.f2 with line := x.ln 5 i j,cls := 0,piece := 0 },sn + 1,0⟩,⟨by show 1<=sn + 1; omega,by show sn + 1<=50; omega,by show sn + 1 = 5 + x.b.dA; omega,hz,i,j,ht,rfl,rfl⟩,by show 101 - (sn + 1) < 101 - sn; omega,rfl,(by repeat' (first | exact rfl | refine And.intro ?_ ?_)),rfl⟩⟩) fun h => absurd (aS h) (by show ¬ ¬ (sn : Int)<=100; omega)
 ·rintro ⟨sa,sf,sn,sp⟩ ⟨s1,s2,s3,hz,i,j,ht,s4,s5⟩
  have s1 : 1<=sn := s1
  have s2 : sn<=50 := s2
  have s3 : sn = 5 + x.b.dA := s3
  have hs9 := (jm x.b).1
  have e4 : sa = x.a2 5 i j (x.sp 5) := s4
  have e5 : sf = { x.f2 with line := x.ln 5 i j,cls := 0,piece := 0 } := s5
  clear s4 s5
  subst e4 e5
  refine bg (fun _ => ⟨x.pb 5 i j x.f2,aqc g hv hz hH ht,(by repeat' (first | exact rfl | refine And.intro ?_ ?_)),rfl,by unfold I64; omega,⟨(x.pb 5 i j x.f2).chg.deq,{ x.f2 with cls := 0,piece := 0,found := true,aep := x.a.c.now },sn + 1,0⟩,⟨by show 1<=sn + 1; omega,by show sn + 1<=50; omega,.inr (.inr ⟨by show sn + 1 = 6 + x.b.dA; omega,hz,i,j,ht,rfl,rfl⟩)⟩,by show 101 - (sn + 1) < 101 - sn; omega,rfl,(by repeat' (first | exact rfl | refine And.intro ?_ ?_)),rfl⟩) fun h => absurd (aS h) (by show ¬ ¬ (sn : Int)<=100; omega)
 ·rintro ⟨sa,sf,sn,sp⟩ ⟨s1,s2,hh⟩
  have s1 : 1<=sn := s1
  have s2 : sn<=50 := s2
  have back : x.a1.rW x.t 0 = x.a := Vu g.out _
  rcases hh with ⟨hz,s4,s5⟩ | ⟨hz,hf,s4,q,s5⟩ | ⟨s3,hz,i,j,ht,s4,s5⟩
  ·have e4 : sa = x.a1 := s4
   have e5 : sf = x.f1 := s5
   clear s4 s5
   subst e4 e5
   refine bg (fun _ => ⟨⟨x.a1,x.f1,x.t⟩,⟨g.rok,g.tr⟩,(by repeat' (first | exact rfl | refine And.intro ?_ ?_)),rfl,.inl ⟨sn,hz,(by repeat' (first | exact rfl | refine And.intro ?_ ?_)),?_⟩⟩) fun h => absurd (aS h) (by show ¬ ¬ (sn : Int)<=100; omega)
   show ownM x.a.os = ownM (x.a1.rW x.t 0).os
   rw [back]
  ·have e4 : sa = x.a1 := s4
   have e5 : sf = { x.f2 with cls := 0,ans := ⟨#[]⟩,code := 4,piece := q } := s5
   clear s4 s5
   subst e4 e5
   refine bg (fun _ => ⟨⟨x.a1,{ x.f2 with cls := 0,ans := ⟨#[]⟩,code := 4,piece := q },x.t⟩,⟨g.rok,g.tr⟩,(by repeat' (first | exact rfl | refine And.intro ?_ ?_)),rfl,.inr (.inl ⟨sn,⟨hz,hf⟩,(by repeat' (first | exact rfl | refine And.intro ?_ ?_)),?_⟩)⟩) fun h => absurd (aS h) (by show ¬ ¬ (sn : Int)<=100; omega)
   show ownM x.a.os = ownM (x.a1.rW x.t 0).os
   rw [back]
  ·have e4 : sa = (x.pb 5 i j x.f2).chg.deq := s4
   have e5 : sf = { x.f2 with cls := 0,piece := 0,found := true,aep := x.a.c.now } := s5
   clear s4 s5
   subst e4 e5
   refine bg (fun _ => ⟨⟨(x.pb 5 i j x.f2).chg.deq,{ x.f2 with cls := 0,piece := 0,found := true,aep := x.a.c.now },x.t⟩,⟨g.rok,g.tr⟩,(by repeat' (first | exact rfl | refine And.intro ?_ ?_)),rfl,.inr (.inr ⟨(i,j),⟨hz,ht⟩,⟨(by repeat' (first | exact rfl | refine And.intro ?_ ?_)),(by show ((6 + x.b.dA : Nat) : Int) = sn; have s3 : sn = 6 + x.b.dA := s3; omega)⟩,rfl⟩)⟩) fun h => absurd (aS h) (by show ¬ ¬ (sn : Int)<=100; omega)
theorem aqd : bU Tryz.prog 15 (runD fun x => uN x.a x.t/\x.v.size<=400/\(x.a.l.n ≠ 0->x.a.n ≠ 0/\∃ ln,LJ x.a x.b ln)) := fZ dD mixed Vx annD 200 6 (fun _ => rfl) (fun _ => ⟨fun _ => rfl,fun _ => rfl,fun _ => rfl,trivial⟩) fun x hx => Eq.mp (ajT x) (Ze (aY.1 hx).1 (aY.1 hx).2.1 (aY.1 hx).2.2)
end
end Go.Proofs.YtenfleoejgjklaaGreat
end
section
namespace Go.Proofs.YtenfleoejgjklaaGreat
open Go SE
set_option linter.unusedSimpArgs false
end Go.Proofs.YtenfleoejgjklaaGreat
end
section
namespace Go.Proofs.YtenfleoejgjklaaGreat
open Go SE
set_option linter.unusedSimpArgs false
theorem mod2 {a n : Nat} (h : a < 2 * n) : a % n = if a < n then a else a - n := by
 split
 ·exact Nat.mod_eq_of_lt ‹_›
 ·rw [Nat.mod_eq_sub_mod (by omega),Nat.mod_eq_of_lt (by omega)]
theorem D9 {l : ZLn} (h : l.ok) (x : dL) {i : Nat} (hi : i<=l.n) : (l.push x).get i = if i = l.n then x else l.get i := by
 obtain ⟨h1,h2,h3,h4,h5⟩ := h
 unfold ZLn.push
 by_cases hn : l.n = l.len
 ·rw [if_pos hn]
  show (fun i => if i < l.n then l.get i else if i = l.n then x else pX) ((0 + i) % (l.n + 1)) = _
  rw [ay,Nat.mod_eq_of_lt (by omega)]
  by_cases e : i = l.n
  ·subst e; simp
  ·rw [if_neg e]; exact if_pos (by omega)
 ·rw [if_neg hn]
  have := h5 (by omega)
  show (fun j => if j = (l.at_ + l.n) % l.len then x else l.e j) ((l.at_ + i) % l.len) = _
  by_cases e : i = l.n
  ·subst e; simp
  ·rw [if_neg e]
   refine (if_neg ?_).trans rfl
   rw [mod2 (a := l.at_ + i) (by omega),mod2 (a := l.at_ + l.n) (by omega)]
   split <;> split <;> omega
theorem BX (l : ZLn) (x : dL) : (l.push x).n = l.n + 1 := by unfold ZLn.push; split <;> rfl
theorem aqe {l : ZLn} (h : l.ok) (x : dL) {N : Nat} (hc : l.cap<=2 * N + 1) (hn : l.n<=N) (hN : N<=1000) : (l.push x).ok/\(l.push x).cap<=2 * (N + 1) + 1 := by
 obtain ⟨h1,h2,h3,h4,h5⟩ := h
 unfold ZLn.push ZLn.ok
 split
 ·exact ⟨⟨by show 2 * l.n + 1 < _; omega,by show l.n + 1<=2 * l.n + 1; omega,aX _,fun _ => rfl,fun _ => Nat.succ_pos _⟩,by show 2 * l.n + 1<=_; omega⟩
 ·exact ⟨⟨by show l.cap < _; omega,h2,by show l.n + 1<=l.len; omega,h4,h5⟩,by show l.cap<=_; omega⟩
theorem aj1 {l : ZLn} (h : l.ok) (hz : l.n ≠ 0) {i : Nat} (hi : i + 1 < l.n) : l.pop.get i = l.get (i + 1) := by
 obtain ⟨h1,h2,h3,h4,h5⟩ := h
 have := h5 (by omega)
 unfold ZLn.pop
 rw [if_neg hz]
 show (fun j => if j = l.at_ then pX else l.e j) (((l.at_ + 1) % l.len + i) % l.len) = l.e ((l.at_ + (i + 1)) % l.len)
 have e : ((l.at_ + 1) % l.len + i) % l.len = (l.at_ + (i + 1)) % l.len := by rw [Nat.mod_add_mod]; congr 1; omega
 rw [e]
 refine if_neg ?_
 rw [mod2 (by omega)]
 split <;> omega
theorem arY {l : ZLn} (hz : l.n ≠ 0) : l.pop.n = l.n - 1 := by unfold ZLn.pop; rw [if_neg hz]
theorem arZ {l : ZLn} (h : l.ok) (hz : l.n ≠ 0) : l.pop.ok/\l.pop.cap = l.cap := by
 obtain ⟨h1,h2,h3,h4,h5⟩ := h
 unfold ZLn.pop
 rw [if_neg hz]
 exact ⟨⟨h1,h2,by show l.n - 1<=l.len; omega,fun e => absurd e (by show ¬ l.len = 0; omega),fun _ => Nat.mod_lt _ (by show 0 < l.len; omega)⟩,rfl⟩
theorem Qo {l : ZLn} (hz : l.n ≠ 0) : l.head = l.get 0 := if_neg hz
structure Good (a : ZArn) (t N : Nat) (b : Nat->dN) : Prop where
 dok : a.d.ok
 dst : a.d.st<=20 * N + 20
 rok : a.r.ok
 cok : a.c.ok
 tc : t < a.c.t
 tr : t < a.r.t
 out : a.r.has t = 0
 pg : a.p.good
 fit : 2 + a.p.n * 8<=a.d.n
 bok : a.b.ok
 lok : a.l.ok
 aj2 : a.l.cap<=2 * N + 1
 ln : a.l.n<=N
 id0 : 0<=a.id
 id1 : a.id<=N
 v0 : 0<=a.ver
 v1 : a.ver<=N
 nn : a.n<=N
 now : a.c.now = 1
 owed : ∀ k,a.c.o k<=8 * N
 used : ∀ L : Int,2<=L->(qN.inL ⟨a.b,a.l,L⟩ ∨ qN.inB ⟨a.b,a.l,L⟩)->a.p.has L
 nz : a.l.n ≠ 0->a.n ≠ 0
 q : ∀ i,i < a.l.n->∃ ln : Nat,a.l.get i = ⟨⟨#[]⟩,(b i).id,(b i).ver,ln,(b i).cls⟩/\ZBy.ok ⟨a.d,b i,ln⟩/\∃ i' j',a.p.at_ ln i' j'/\a.p.cls i' = (b i).cls
section
variable {a : ZArn} {t N : Nat} {b : Nat->dN}
theorem Good.A (g : Good a t N b) (hN : N<=1000) : uN a t where
 dok := g.dok
 dst := by have := g.dst; omega
 rok := g.rok
 cok := g.cok
 tc := g.tc
 tr := g.tr
 out := g.out
 pg := g.pg
 fit := g.fit
 bok := g.bok
 lok := g.lok
 ln := by have := g.ln; omega
 id0 := g.id0
 id1 := by have := g.id1; omega
 v0 := g.v0
 v1 := by have := g.v1; omega
 nn := by have := g.nn; omega
 acS := by rw [g.now]; decide
 VT := by rw [g.now]; decide
 owed := fun k => by have := g.owed k; omega
 used := g.used
theorem Good.head (g : Good a t N b) (hz : a.l.n ≠ 0) : a.n ≠ 0/\∃ ln,LJ a (b 0) ln := by
 obtain ⟨ln,h1,h2,h3⟩ := g.q 0 (by omega)
 exact ⟨g.nz hz,ln,h2.2.1,h2.2.2.1,by rw [Qo hz]; exact h1,h3,h2.2.2.2.2⟩
theorem dW_b {x : jo} (k : Int) (i j : Nat) : ∀ p,∀ m r : Nat,r < 64->(x.dW k i j p).b (m * 193 + r) =
  if x.ln k i j<=m/\m < x.ln k i j + p then (if m = x.ln k i j then (dN.mk (x.c k) 0 0 0 0 ⟨#[]⟩ ⟨#[]⟩).jC (fun _ => 0) (cpc (x.c k)).toNat r else (dN.mk (x.c k) 2 0 0 0 ⟨#[]⟩ x.v).enc (64 * (m - x.ln k i j) + r)) else x.a.d.b (m * 193 + r)
 | 0,m,r,_ => by rw [if_neg (by omega)]; rfl
 | p + 1,m,r,hr => by
  have ih := dW_b (x := x) k i j p m r hr
  show (ZWr.d' ⟨x.dW k i j p,x.t,x.f1,x.ln k i j,x.c k,p⟩).b (m * 193 + r) = _
  unfold ZWr.d'
  by_cases e : p = 0
  ·subst e
   rw [if_pos rfl]
   show (if x.ln k i j * 193 + 0<=m * 193 + r/\m * 193 + r < x.ln k i j * 193 + 0 + 64 then (dN.mk (x.c k) 0 0 0 0 ⟨#[]⟩ ⟨#[]⟩).jC (fun _ => 0) (cpc (x.c k)).toNat (m * 193 + r - (x.ln k i j * 193 + 0)) else (x.dW k i j 0).b (m * 193 + r)) = _
   by_cases h : m = x.ln k i j
   ·rw [if_pos (by omega),if_pos (by omega),if_pos h,show m * 193 + r - (x.ln k i j * 193 + 0) = r by omega]
   ·rw [if_neg (by omega),if_neg (by omega),ih,if_neg (by omega)]
  ·rw [if_neg e]
   show (if (x.ln k i j + p) * 193 + 0<=m * 193 + r/\m * 193 + r < (x.ln k i j + p) * 193 + 0 + 64 then (dN.mk (x.c k) 2 0 0 0 ⟨#[]⟩ x.v).enc (64 * p + (m * 193 + r - ((x.ln k i j + p) * 193 + 0))) else (x.dW k i j p).b (m * 193 + r)) = _
   by_cases h : m = x.ln k i j + p
   ·rw [if_pos (by omega),if_pos (by omega),if_neg (by omega),show 64 * p + (m * 193 + r - ((x.ln k i j + p) * 193 + 0)) = 64 * (m - x.ln k i j) + r by omega]
   ·rw [if_neg (by omega),ih]
    by_cases h2 : x.ln k i j<=m/\m < x.ln k i j + p
    ·rw [if_pos h2,if_pos (show x.ln k i j<=m/\m < x.ln k i j + (p + 1) by omega)]
    ·rw [if_neg h2,if_neg (by omega)]
theorem Zf {x y : dN} (hk : x.key = y.key) (hv : x.value = y.value) {m : Nat} (hm : 64<=m) : x.enc m = y.enc m := by
 unfold dN.enc
 rw [if_neg (show ¬ m < 64 by omega),if_neg (show ¬ m < 64 by omega)]
 unfold dN.dat
 rw [hk,hv]
theorem tZ (d : DevM) (k : Nat) (g : Nat->Int) (m r : Nat) (hr : r < 64) : (d.store k 0 64 g).b (m * 193 + r) = if m = k then g r else d.b (m * 193 + r) := by
 show (if k * 193 + 0<=m * 193 + r/\m * 193 + r < k * 193 + 0 + 64 then g (m * 193 + r - (k * 193 + 0)) else d.b (m * 193 + r)) = _
 by_cases h : m = k
 ·subst h; rw [if_pos (by omega),if_pos rfl,show m * 193 + r - (m * 193 + 0) = r by omega]
 ·rw [if_neg (by omega),if_neg h]
theorem aj3 {d d' : DevM} {c : dN} {ln L n : Nat} (h : lies d c ln) (hd : ∀ m r : Nat,r < 64->¬ (L<=m/\m < L + n)->d'.b (m * 193 + r) = d.b (m * 193 + r)) (ha : ln + c.dA<=L ∨ L + n<=ln) : lies d' c ln := fun q hq => by
 rw [hd _ _ (by omega) (by omega)]; exact h q hq
theorem Qp {p p' : dw} (h : ∀ L i j,p.at_ L i j->p'.at_ L i j/\p'.cls i = p.cls i) {L : Int} (hp : p.has L) : p'.has L := by
 obtain ⟨i,j,h1⟩ := hp
 exact ⟨i,j,(h _ _ _ h1).1⟩
theorem aqf {b : iD} {e : iy} {l : ZLn} {L : Int} (h : qN.inB ⟨b.put e,l,L⟩) : qN.inB ⟨b,l,L⟩ ∨ e.line = L ∨ e.anti = L := by
 obtain ⟨i,hi,hh⟩ := h
 unfold iD.put at hi hh
 by_cases hn : b.n < 258
 ·simp only [if_pos hn] at hi hh
  by_cases e : i = b.n
  ·simp only [if_pos e] at hh; exact .inr hh
  ·simp only [if_neg e] at hh; exact .inl ⟨i,by show i < b.n; omega,hh⟩
 ·simp only [if_neg hn] at hi hh; exact .inl ⟨i,hi,hh⟩
theorem ar0 {b : iD} (h : b.ok) (e : iy) : (b.put e).ok := by
 unfold iD.put
 split
 ·exact ⟨by show b.n + 1<=258; omega,fun h => nomatch h⟩
 ·exact h
theorem take_at {p : dw} (hp : p.good) {c : Int} {i k : Nat} (h : p.takes c i k) : ∀ L i' j',p.at_ L i' j'->(p.take c i k).at_ L i' j'/\(p.take c i k).cls i' = p.cls i' := fun _ _ _ hL => ap7 hp h hL
def pushB (b : Nat->dN) (n : Nat) (c : dN) : Nat->dN := fun i => if i = n then c else b i
theorem amY (g : Good a t N b) (hN : N<=900) (key v : ByteArray) (bb : dN) (hv : v.size<=400) {i j : Nat} (h : a.p.takes (ned v.size) i j) : Good (jo.aE ⟨a,t,key,v,bb⟩ i j) t (N + 1) (pushB b a.l.n ⟨ned v.size,2,a.id + 1,a.ver + 1,1,⟨#[]⟩,v⟩) := by
 have hA := g.A (by omega)
 let x : jo := ⟨a,t,key,v,bb⟩
 have hc4 : x.c 4 = ned v.size := if_pos rfl
 have ht : x.a.p.takes (x.c 4) i j := by rw [hc4]; exact h
 have hcc := ap8 (x := x) hv
 have hs := dO (x.c 4)
 obtain ⟨p1,p2,p3⟩ := ajY (x := x) hA hv ht
 obtain ⟨l1,l2⟩ := jI hA.pg hcc ht
 have hsp : x.sp 4 = (spn (x.c 4)).toNat := rfl
 obtain ⟨d1,d2,d3⟩ := ajW (x := x) hA hv 4 hcc i j (x.sp 4) (by rw [hsp]; omega)
 have hb := dW_b (x := x) 4 i j (x.sp 4)
 have hbm := ajX (x := x) hA hv i j
 obtain ⟨n1,n2⟩ := at_new hA.pg hcc.1 ht
 have hdst := g.dst
 have amQ : a.c.now = 1 := g.now
 let B : dN := ⟨ned v.size,2,a.id + 1,a.ver + 1,1,⟨#[]⟩,v⟩
 have hB : (x.pb 4 i j x.f1).chg.blk = B := by
  show dN.mk (x.c 4) 2 (a.id + 1) (a.ver + 1) a.c.now ⟨#[]⟩ v = B
  rw [hc4,amQ]
 have hBs : B.dA = x.sp 4 := by show (spn (ned v.size)).toNat = _; rw [hsp,hc4]
 have eln : x.ln 4 i j = 2 + i * 8 + j * (spn (x.c 4)).toNat := rfl
 let D : DevM := (x.dW 4 i j (x.sp 4)).store (x.ln 4 i j) 0 64 B.enc
 have hD : (jo.aE x i j).d = D := by
  show (x.dW 4 i j (x.sp 4)).store (x.ln 4 i j) 0 64 (x.pb 4 i j x.f1).chg.blk.enc = D
  rw [hB]
 have hDb : ∀ m r : Nat,r < 64->¬ (x.ln 4 i j<=m/\m < x.ln 4 i j + x.sp 4)->D.b (m * 193 + r) = a.d.b (m * 193 + r) := fun m r hr hm => by
  show ((x.dW 4 i j (x.sp 4)).store (x.ln 4 i j) 0 64 B.enc).b (m * 193 + r) = _
  rw [tZ _ _ _ _ _ hr,if_neg (by rw [hsp] at hm; omega),hb m r hr,if_neg hm]
 have hDn : D.n = a.d.n := d2
 have anQ : D.ok := DevM.jf d1 _ _ _ (qy (hB ▸ hbm)) (by rw [d3,hsp]; show a.d.st + _ + 1 < _; omega)
 have hnew : ZBy.ok ⟨D,B,x.ln 4 i j⟩ := by
  refine ⟨anQ,hB ▸ hbm,rfl,?_,fun q hq => ?_⟩
  ·show ((x.ln 4 i j : Nat) : Int) + spn (ned v.size)<=D.n
   rw [hDn,← hc4]; have := g.fit; have : x.a.p.n = a.p.n := rfl; omega
  ·show ((x.dW 4 i j (x.sp 4)).store (x.ln 4 i j) 0 64 B.enc).b ((x.ln 4 i j + q / 64) * 193 + q % 64) = B.enc q
   have hq : q < 64 * B.dA := hq
   rw [hBs] at hq
   rw [tZ _ _ _ _ _ (by omega)]
   by_cases e : q / 64 = 0
   ·rw [if_pos (by omega),show q % 64 = q by omega]
   ·rw [if_neg (by omega),hb _ _ (by omega),if_pos (show x.ln 4 i j<=x.ln 4 i j + q / 64/\x.ln 4 i j + q / 64 < x.ln 4 i j + x.sp 4 by omega),if_neg (show ¬ x.ln 4 i j + q / 64 = x.ln 4 i j by omega),show 64 * (x.ln 4 i j + q / 64 - x.ln 4 i j) + q % 64 = q by omega]
    exact Zf (x := ⟨x.c 4,2,0,0,0,⟨#[]⟩,x.v⟩) (y := B) rfl rfl (by omega)
 have hpo := aqe g.lok ⟨⟨#[]⟩,a.id + 1,a.ver + 1,(x.ln 4 i j : Nat),x.c 4⟩ g.aj2 g.ln (by omega)
 have hln : (jo.aE x i j).l = a.l.push ⟨⟨#[]⟩,a.id + 1,a.ver + 1,(x.ln 4 i j : Nat),x.c 4⟩ := rfl
 have hno := FY a.c t (x.ln 4 i j : Nat) (fun k => (g.cok.2.2.2.2.2 k).1)
 have hs8 := (jm B).1
 have hP : (jo.aE x i j).p = a.p.take (x.c 4) i j := rfl
 have ar1 : (jo.aE x i j).c = a.c.notes t (x.ln 4 i j : Nat) (x.pb 4 i j x.f1).chg.blk.dA := rfl
 rw [hB] at ar1
 have hgood : (a.p.take (x.c 4) i j).good := zh hA.pg hcc ht
 refine { dok := by rw [hD]; exact anQ,dst := ?_,rok := g.rok,cok := ?_,tc := ?_,tr := g.tr,out := ?_,pg := hgood,fit := by rw [hD,hDn]; exact g.fit,bok := g.bok,lok := hpo.1,aj2 := hpo.2,ln := ?_,id0 := ?_,id1 := ?_,v0 := ?_,v1 := ?_,nn := ?_,now := ?_,owed := fun k => ?_,used := fun L hL hu => ?_,nz := fun _ => Nat.succ_ne_zero _,q := fun m hm => ?_ }
 ·rw [hD]; show (x.dW 4 i j (x.sp 4)).st + 1<=_; rw [d3,hsp]; show a.d.st + _ + 1<=_; omega
 ·rw [ar1]; exact qc g.cok (fun k => by have := g.owed k; omega) _ _ hs8
 ·rw [ar1,nY]; exact g.tc
 ·exact if_pos rfl
 ·rw [hln,BX]; have := g.ln; omega
 ·show 0<=a.id + 1; have := g.id0; omega
 ·show a.id + 1<=_; have := g.id1; omega
 ·show 0<=a.ver + 1; have := g.v0; omega
 ·show a.ver + 1<=_; have := g.v1; omega
 ·show a.n + 1<=N + 1; have := g.nn; omega
 ·rw [ar1,kN]; exact g.now
 ·rw [ar1]; have := (hno B.dA k).2; have := g.owed k; omega
 ·rcases hu with ⟨m,hm,hh⟩ | hu
  ·have hm : m < a.l.n + 1 := by rw [← BX a.l ⟨⟨#[]⟩,a.id + 1,a.ver + 1,(x.ln 4 i j : Nat),x.c 4⟩]; exact hm
   have hh : ((a.l.push ⟨⟨#[]⟩,a.id + 1,a.ver + 1,(x.ln 4 i j : Nat),x.c 4⟩).get m).line = L := hh
   rw [D9 g.lok _ (by omega)] at hh
   by_cases e : m = a.l.n
   ·rw [if_pos e] at hh
    have hh : ((x.ln 4 i j : Nat) : Int) = L := hh
    exact ⟨i,j,by rw [← hh,eln]; rw [l1]; exact n1⟩
   ·rw [if_neg e] at hh
    exact Qp (take_at hA.pg ht) (g.used L hL (.inl ⟨m,by show m < a.l.n; omega,hh⟩))
  ·exact Qp (take_at hA.pg ht) (g.used L hL (.inr hu))
 ·have hm : m < a.l.n + 1 := by rw [← BX a.l ⟨⟨#[]⟩,a.id + 1,a.ver + 1,(x.ln 4 i j : Nat),x.c 4⟩]; exact hm
  rw [hln,D9 g.lok _ (by omega),hD]
  unfold pushB
  by_cases e : m = a.l.n
  ·rw [if_pos e,if_pos e]
   exact ⟨x.ln 4 i j,by rw [hc4],hnew,i,j,by rw [eln,l1]; exact n1,n2.trans hc4⟩
  ·rw [if_neg e,if_neg e]
   obtain ⟨ln,q1,⟨q2,q3,q4,q5,q6⟩,i',j',q7,q8⟩ := g.q m (by omega)
   have hap := acR hA.pg hcc ht q7
   obtain ⟨q9,q10⟩ := take_at hA.pg ht _ _ _ q7
   have hsb := jm (b m)
   have e1 : ((x.ln 4 i j : Nat) : Int) = 2 + i * 8 + j * spn (x.c 4) := by rw [eln]; exact l1
   rw [q8,← e1] at hap
   have hsq : (x.sp 4 : Int) = spn (x.c 4) := by rw [hsp]; omega
   exact ⟨ln,q1,⟨anQ,q3,q4,by show (ln : Int) + spn (b m).cls<=D.n; rw [hDn]; exact q5,aj3 (c := b m) (ln := ln) (L := x.ln 4 i j) (n := x.sp 4) q6 hDb (by omega)⟩,i',j',q9,q10.trans q8⟩
theorem acT {n t T m : Nat} {d : DevM} (hd : d.ok) (hn : d.n = n) (hs : d.st = 2) (hm : n = 10 + 8 * m) (hm2 : m<=31) (hT : 1<=T/\T<=4) (ht : t < T) (b : Nat->dN) : Good (newArn n T d) t 0 b where
 dok := hd
 dst := by show d.st<=_; rw [hs]; decide
 rok := ⟨hT.1,hT.2,show (1 : Int)<=1 by decide,show (1 : Int) < 4611686018427387904 by decide⟩
 cok := ⟨hT.1,hT.2,⟨show (0 : Int)<=0 + 1 by decide,show (0 : Int) + 1 < 4611686018427387904 by decide⟩,⟨Int.le_refl 0,show (0 : Int) < 4611686018427387904 by decide⟩,⟨Int.le_refl 0,show (0 : Int) < 4611686018427387904 by decide⟩,fun _ => ⟨Int.le_refl 0,show (0 : Int) < 1099511627776 by decide⟩⟩
 tc := ht
 tr := ht
 out := rfl
 pg := by
  refine ⟨⟨by show 1<=(n - 2) / 8; omega,by show (n - 2) / 8<=32; omega,fun i hi => ?_⟩,fun i hi => ?_⟩
  ·have hi : i < (n - 2) / 8 := hi
   show -1<=(if i < (n - 2) / 8 then (-1 : Int) else 0)/\(if i < (n - 2) / 8 then (-1 : Int) else 0)<=3/\(0 : Int)<=0/\(0 : Int)<=8
   rw [if_pos hi]; decide
  ·exact ⟨fun _ _ => rfl,fun k hk => (nomatch hk),(congrArg Int.ofNat (Vt (fun _ => rfl) 8)).symm⟩
 fit := by show 2 + (n - 2) / 8 * 8<=d.n; omega
 bok := ⟨Nat.zero_le _,fun _ => rfl⟩
 lok := ⟨show 0 < 1099511627776 by decide,aX 0,aX 0,fun _ => rfl,fun h => absurd rfl h⟩
 aj2 := Nat.zero_le _
 ln := aX 0
 id0 := Int.le_refl 0
 id1 := Int.le_refl 0
 v0 := Int.le_refl 0
 v1 := Int.le_refl 0
 nn := aX 0
 now := rfl
 owed := fun _ => Int.le_refl 0
 used := fun L _ hu => by
  rcases hu with ⟨i,hi,_⟩ | ⟨i,hi,_⟩ <;> exact absurd hi (Nat.not_lt_zero _)
 nz := fun h => absurd rfl h
 q := fun i hi => absurd hi (Nat.not_lt_zero _)
end
end Go.Proofs.YtenfleoejgjklaaGreat
end
section
namespace Go.Proofs.YtenfleoejgjklaaGreat
open Go SE
structure anR where
 code : Int
 found : Bool
 v : ByteArray
 ep : Int
 n : Nat
 a : ZArn
def anR.av (y : anR) : AV := .tup [ap5 y.code y.found y.v y.ep,i64 y.n,boo true]
def resE (x : jo) (y : anR) : Prop :=
 (400 < x.v.size/\y.code = 5/\y.found = false/\y.v = ⟨#[]⟩/\y.a = x.a) ∨
 (x.v.size<=400/\(∀ i,i < x.a.p.n->x.a.p.cls i ≠ -1/\x.a.p.full (ned x.v.size) i)/\y.code = 4/\y.found = false/\y.v = ⟨#[]⟩/\y.a = x.a) ∨
 (x.v.size<=400/\y.code = 0/\y.found = false/\y.v = ⟨#[]⟩/\y.n = 4 + x.sp 4/\∃ i j,x.a.p.takes (ned x.v.size) i j/\y.a = x.aE i j)
def resD (x : jo) (y : anR) : Prop :=
 (x.a.l.n = 0/\y.code = 0/\y.found = false/\y.v = ⟨#[]⟩/\y.a = x.a) ∨
 (x.a.l.n ≠ 0/\(∀ i,i < x.a.p.n->x.a.p.cls i ≠ -1/\x.a.p.full 0 i)/\y.code = 4/\y.found = false/\y.v = ⟨#[]⟩/\y.a = x.a) ∨
 (x.a.l.n ≠ 0/\y.code = 0/\y.found = true/\y.v = x.b.value/\y.n = 6 + x.b.dA/\∃ i j,x.a.p.takes 0 i j/\y.a = x.aD i j)
noncomputable def ar2 : Ctr := { X := jo,args := fun x => [.ptr 0 0,i64 x.t,amX 4 x.key x.v],k := 1,os := fun x => [.abs (ownM x.a.os)],pre := fun x => Hd (uN x.a x.t),outs := [{ Y := anR,post := fun x y => Hd (resE x y),ret := fun _ y => y.av,m := 1,os := fun _ y => [.abs (ownM y.a.os)] }] }
noncomputable def ar4 : Ctr := { X := jo,args := fun x => [.ptr 0 0,i64 x.t,amX 5 x.key x.v],k := 1,os := fun x => [.abs (ownM x.a.os)],pre := fun x => Hd (uN x.a x.t/\x.v.size<=400/\(x.a.l.n ≠ 0->x.a.n ≠ 0/\∃ ln,LJ x.a x.b ln)),outs := [{ Y := anR,post := fun x y => Hd (resD x y),ret := fun _ y => y.av,m := 1,os := fun _ y => [.abs (ownM y.a.os)] }] }
theorem acU {X : Type} {x : X} {v : AV} {h' : Heap} {o p q : Out X} (h : nU x v h' [o,p,q]) : (∃ y,o.post x y/\v = o.ret x y/\h' = hO o.m (o.os x y)) ∨ (∃ y,p.post x y/\v = p.ret x y/\h' = hO p.m (p.os x y)) ∨ ∃ y,q.post x y/\v = q.ret x y/\h' = hO q.m (q.os x y) := by
 rw [jH] at h
 rcases h with h | h
 ·exact .inl h
 ·exact .inr (qx h)
theorem amZ : bU Tryz.prog 15 ar2 := oJ fun x hx => by
 refine ⟨_,aqa,rfl,x,hx,rfl,rfl,fun v h' hh => ?_⟩
 have hc : x.c 4 = ned x.v.size := if_pos rfl
 rcases acU hh with ⟨n,h0,h1,h2⟩ | ⟨n,h0,h1,h2⟩ | ⟨y,h0,h1,h2⟩
 ·exact eP ⟨⟨5,false,⟨#[]⟩,0,n,x.a⟩,aY.2 (.inl ⟨aY.1 h0,rfl,rfl,rfl,rfl⟩),h1,h2⟩
 ·have h0 := aY.1 h0
  exact eP ⟨⟨4,false,⟨#[]⟩,0,n,x.a⟩,aY.2 (.inr (.inl ⟨h0.1,by rw [← hc]; exact h0.2,rfl,rfl,rfl,rfl⟩)),h1,h2⟩
 ·have h0 := aY.1 h0
  exact eP ⟨⟨0,false,⟨#[]⟩,x.a.c.now,4 + x.sp 4,x.aE y.1 y.2⟩,aY.2 (.inr (.inr ⟨h0.1,rfl,rfl,rfl,rfl,y.1,y.2,by rw [← hc]; exact h0.2,rfl⟩)),h1,h2⟩
theorem am0 : bU Tryz.prog 15 ar4 := oJ fun x hx => by
 refine ⟨_,aqd,rfl,x,hx,rfl,rfl,fun v h' hh => ?_⟩
 rcases acU hh with ⟨n,h0,h1,h2⟩ | ⟨n,h0,h1,h2⟩ | ⟨y,h0,h1,h2⟩
 ·exact eP ⟨⟨0,false,⟨#[]⟩,0,n,x.a⟩,aY.2 (.inl ⟨aY.1 h0,rfl,rfl,rfl,rfl⟩),h1,h2⟩
 ·have h0 := aY.1 h0
  exact eP ⟨⟨4,false,⟨#[]⟩,0,n,x.a⟩,aY.2 (.inr (.inl ⟨h0.1,h0.2,rfl,rfl,rfl,rfl⟩)),h1,h2⟩
 ·have h0 := aY.1 h0
  exact eP ⟨⟨0,true,x.b.value,x.a.c.now,6 + x.b.dA,x.aD y.1 y.2⟩,aY.2 (.inr (.inr ⟨h0.1,rfl,rfl,rfl,rfl,y.1,y.2,h0.2,rfl⟩)),h1,h2⟩
noncomputable def runT : WTr := fun args h K => match args with
 | [a,t,.agg l] => (bif decide (intL l 0 = 4) then ctrT ar2 else ctrT ar4) [a,t,.agg l] h K
 | _ => False
theorem aj6 (args : List AV) (h : Heap) (K : AV->Heap->Prop) (hq : runT args h K) : Sp Tryz.prog 15 args h K := by
 unfold runT at hq
 split at hq
 ·exact ny _ (bM amZ) (bM am0) _ _ _ hq
 ·exact hq.elim
noncomputable def wM (sh : ZArn->List bZ) (m r : Nat) : jd := { X := ZArn,args := fun _ => [.ptr 0 0],k := 1,l := fun a => [.m (sh a)],pre := fun _ => Hd True,outs := [{ Y := Unit,post := fun _ _ => True,ret := fun _ _ => .ptr r 0,m := m,l := fun a _ => (sh a).map PO.o }] }
noncomputable def aj7 : Ctr := det Unit (fun _ => []) 0 (fun _ => []) (fun _ => True) (fun _ => boo true) 0 (fun _ => [])
noncomputable def ar5 : WTbl := [(13,ctrT aeB.ctr),(15,runT)]
end Go.Proofs.YtenfleoejgjklaaGreat
end
section
namespace Go.Proofs.YtenfleoejgjklaaGreat
open Go SE
set_option linter.unusedSimpArgs false
theorem G8 (x : ZSt) (hx : qj.pre x) : AA x := by
 have hx := aY.1 hx
 unfold AA
 simp only [aco,acr,acp,BO,lC,lD,qK,lu,tJ,qJ,jr,jv,ab8,y9,Dk,Dj]
 simp only [aY,aU,aT,ay,aH,bI,bn,aN,aJ,au,aW,aV,bJ,bC,bD,bF,bK,bf,bG,aZ,dU,aG,aK,ah,aj,aA,aC,aB,aF]
 refine ⟨⟨x.a.c,x.a.l,x.t,x.f⟩,hx,?_⟩
 repeat' (first | exact rfl | refine And.intro ?_ ?_ | exact fun _ _ => rfl)
theorem G9 (x : ZSt) (hx : qj.pre x) : AB x := by
 have hx := aY.1 hx
 unfold AB
 simp only [aco,acr,acp,BP,lC,lD,qK,lu,tJ,qJ,Le,jr,jv,ab8,y9,Dk,Dj]
 simp only [aY,aU,aT,ay,aH,bI,bn,aN,aJ,au,aW,aV,bJ,bC,bD,bF,bK,bf,bG,aZ,dU,aG,aK,ah,aj,aA,aC,aB,aF]
 refine ⟨⟨x.a.c,x.a.l,x.t,x.f⟩,hx,?_⟩
 repeat' (first | exact rfl | refine And.intro ?_ ?_ | exact fun _ _ => rfl)
theorem He (x : ZSt) (hx : ql.pre x) : AL x := by
 have hx := aY.1 hx
 unfold AL
 simp only [acn,qL,tJ,oP,ab9,BO,lC,lD,qK,lu,Lh,qJ,jr,jv,y9,Dk,Dj]
 simp only [aY,aU,aT,ay,aH,bI,bn,aN,aJ,au,aW,aV,bJ,bC,bD,bF,bK,bf,bG,aZ,dU,aG,aK,ah,aj,aA,aC,aB,aF]
 refine ⟨⟨x.a.c,x.a.l,x.t,x.f⟩,hx,?_⟩
 repeat' (first | exact rfl | refine And.intro ?_ ?_ | exact fun _ _ => rfl)
theorem Hf (x : ZSt) (hx : ql.pre x) : AO x := by
 have hx := aY.1 hx
 unfold AO
 simp only [acn,qL,tJ,oP,ab9,BP,lC,lD,qK,lu,ae1,qJ,Le,jr,jv,y9,Dk,Dj]
 simp only [aY,aU,aT,ay,aH,bI,bn,aN,aJ,au,aW,aV,bJ,bC,bD,bF,bK,bf,bG,aZ,dU,aG,aK,ah,aj,aA,aC,aB,aF]
 refine ⟨⟨x.a.c,x.a.l,x.t,x.f⟩,hx,?_⟩
 repeat' (first | exact rfl | refine And.intro ?_ ?_ | exact fun _ _ => rfl)
theorem I7 (x : ZSt) (hx : y7.pre x) : GY x := by
 have hx := aY.1 hx
 unfold GY
 simp only [acj,qL,oP,aci,U7,acf,acg,acd,jv,jr,Dj,BO,lC,lD,qK,lu,Lh,qJ,Dk,y9]
 simp only [aY,aU,aT,ay,aH,bI,bn,aN,aJ,au,aW,aV,bJ,bC,bD,bF,bK,bf,bG,aZ,dU,aG,aK,ah,aj,aA,aC,aB,aF]
 refine ⟨⟨x.a.l,x.t,x.f⟩,hx,?_⟩
 simp only [aY,aU,aT,ay,aH,bI,bn,aN,aJ,au,aW,aV,bJ,bC,bD,bF,bK,bf,bG,aZ,dU,aG,aK,ah,aj,aA,aC,aB,aF]
 exact ⟨fun h => .inl h,fun h => .inr h⟩
theorem I8 (x : ZSt) (hx : y7.pre x) : GZ x := by
 have hx := aY.1 hx
 unfold GZ
 simp only [acj,qL,oP,aci,U8,acf,acg,acd,jv,jr,Dj,BP,lC,lD,qK,lu,ae1,qJ,Le,Dk,y9]
 simp only [aY,aU,aT,ay,aH,bI,bn,aN,aJ,au,aW,aV,bJ,bC,bD,bF,bK,bf,bG,aZ,dU,aG,aK,ah,aj,aA,aC,aB,aF]
 refine ⟨⟨x.a.l,x.t,x.f⟩,hx,?_⟩
 simp only [aY,aU,aT,ay,aH,bI,bn,aN,aJ,au,aW,aV,bJ,bC,bD,bF,bK,bf,bG,aZ,dU,aG,aK,ah,aj,aA,aC,aB,aF]
 exact ⟨fun h => .inl h,fun h => .inr h⟩
theorem I9 (x : aju) (hx : y8.pre x) : G5 x := by
 have hx := aY.1 hx
 unfold G5
 simp only [ace,qL,oP,ach,BO,lC,lD,lu,Lh,qJ,jr,jv,Dk,Dj]
 simp only [aY,aU,aT,ay,aH,bI,bn,aN,aJ,au,aW,aV,bJ,bC,bD,bF,bK,bf,bG,aZ,dU,aG,aK,ah,aj,aA,aC,aB,aF]
 refine ⟨⟨x.a.p,x.i,x.k,x.a.l,x.t,x.f⟩,hx,?_⟩
 repeat' (first | exact rfl | refine And.intro ?_ ?_ | exact fun _ _ => rfl)
theorem Ja (x : aju) (hx : y8.pre x) : G6 x := by
 have hx := aY.1 hx
 unfold G6
 simp only [ace,qL,oP,ach,BP,lC,lD,lu,ae1,qJ,Le,jr,jv,Dk,Dj]
 simp only [aY,aU,aT,ay,aH,bI,bn,aN,aJ,au,aW,aV,bJ,bC,bD,bF,bK,bf,bG,aZ,dU,aG,aK,ah,aj,aA,aC,aB,aF]
 refine ⟨⟨x.a.p,x.i,x.k,x.a.l,x.t,x.f⟩,hx,?_⟩
 repeat' (first | exact rfl | refine And.intro ?_ ?_ | exact fun _ _ => rfl)
theorem ae5 : bU Tryz.prog 19 qj.M.ctr := uM (fun _ => ⟨fun _ => rfl,trivial⟩) (dG (bM Lp) 10 (fun _ => ⟨rfl,rfl,rfl,rfl⟩) fun x hx => Eq.mp (PK x) (G8 x hx.1)) (dG (bM Lp) 11 (fun _ => ⟨rfl,rfl,rfl,rfl⟩) fun x hx => Eq.mp (PL x) (G9 x hx.1))
theorem ae6 : bU Tryz.prog 19 ql.M.ctr := uM (fun _ => ⟨fun _ => rfl,trivial⟩) (dG (bM Lr) 10 (fun _ => ⟨rfl,rfl,rfl,rfl⟩) fun x hx => Eq.mp (PN x) (He x hx.1)) (dG (bM Lr) 11 (fun _ => ⟨rfl,rfl,rfl,rfl⟩) fun x hx => Eq.mp (PS x) (Hf x hx.1))
theorem aj8 : bU Tryz.prog 19 y7.M.ctr := uM (fun _ => ⟨fun _ => rfl,fun _ => rfl,trivial⟩) (dG (bM Vm) 10 (fun _ => ⟨rfl,rfl,rfl,rfl⟩) fun x hx => Eq.mp (U9 x) (I7 x hx.1)) (dG (bM Vm) 11 (fun _ => ⟨rfl,rfl,rfl,rfl⟩) fun x hx => Eq.mp (Va x) (I8 x hx.1))
theorem aj9 : bU Tryz.prog 19 y8.M.ctr := uM (fun _ => ⟨fun _ => rfl,trivial⟩) (dG (bM Vl) 10 (fun _ => ⟨rfl,rfl,rfl,rfl⟩) fun x hx => Eq.mp (Vb x) (I9 x hx.1)) (dG (bM Vl) 11 (fun _ => ⟨rfl,rfl,rfl,rfl⟩) fun x hx => Eq.mp (Vd x) (Ja x hx.1))
theorem am1 : bU Tryz.prog 19 ajv := oJ fun x hx => by
 obtain ⟨⟨a,f,ph⟩,t,q⟩ := x
 have hx := aY.1 hx
 rcases hx with ⟨hp,h,q1,q2⟩ | ⟨hp,h,q1,q2⟩ | ⟨hp,ln,p,hf,h,q1,q2⟩ | ⟨hp,hd,ln,hl,h,q1⟩ | ⟨hp,hd,h,q1⟩ | ⟨hp,h,q1⟩ | ⟨hp,q1⟩
 all_goals (have hp : ph = _ := hp; subst hp)
 ·refine ⟨_,KY,rfl,⟨a,f,t⟩,⟨aY.2 h,trivial⟩,rfl,rfl,fun v h' hh => ?_⟩
  rcases qx hh with ⟨y,h0,e1,e2⟩ | ⟨y,h0,e1,e2⟩
  ·exact eP ⟨⟨a,{ f with code := 5 },7⟩,aY.2 (q1 (aY.1 h0).2),e1,e2⟩
  ·exact eP ⟨⟨a.rW t a.r.now,{ f with epoch := a.c.now },3⟩,aY.2 (q2 ((aY.1 h0) rfl)),e1,e2⟩
 ·refine ⟨_,U0,rfl,⟨a,f,t⟩,⟨aY.2 h,trivial⟩,rfl,rfl,fun v h' hh => ?_⟩
  have hc : (ZSt.mk a f t).c 4 = ned f.value.size := if_pos rfl
  rcases qx hh with ⟨y,h0,e1,e2⟩ | ⟨y,h0,e1,e2⟩
  ·have h0 := aY.1 h0
   rw [hc] at h0
   exact eP ⟨⟨a,{ f with cls := ned f.value.size,ans := emp,code := 4 },6⟩,aY.2 (q1 h0),e1,e2⟩
  ·have h0 := aY.1 h0
   rw [hc] at h0
   exact eP ⟨⟨a.abL (a.p.take (ned f.value.size) y.1 y.2),{ f with cls := ned f.value.size,line := 2 + y.1 * 8 + y.2 * spn (ned f.value.size),piece := 0 },4⟩,aY.2 (q2 _ _ h0),e1,e2⟩
 ·have hf : f = { f with line := (ln : Int),cls := f.cls,piece := (p : Int) } := hf
  refine ⟨_,Vo,rfl,⟨a,f,t,ln,f.cls,p⟩,⟨aY.2 h,trivial⟩,by show [_,_,_] = [_,_,_]; rw [hf]; first | done | rfl,rfl,fun v h' hh => ?_⟩
  rcases qx hh with ⟨y,h0,e1,e2⟩ | ⟨y,h0,e1,e2⟩
  ·exact eP ⟨⟨a.IB (ZWr.mk a.d t f ln f.cls p).d',{ f with piece := (p + 1 : Nat) },4⟩,aY.2 (q1 (aY.1 h0)),e1.trans (by rw [hf]; first | done | rfl),e2⟩
  ·exact eP ⟨⟨a.IB (ZWr.mk a.d t f ln f.cls p).d',{ f with piece := 0 },5⟩,aY.2 (q2 (aY.1 h0)),e1.trans (by rw [hf]; first | done | rfl),e2⟩
 ·have hf : f = { f with had := false,line := (ln : Int) } := by
   have hd : f.had = false := hd
   have hl : f.line = ln := hl
   rw [← hd,← hl]
  refine ⟨_,ab1,rfl,⟨a,f,t,ln⟩,aY.2 h,by show [_,_,_] = [_,_,_]; rw [hf]; first | done | rfl,rfl,fun v h' hh => ?_⟩
  obtain ⟨y,h0,e1,e2⟩ := kC hh
  exact eP ⟨⟨(ZTs.pb ⟨a,f,5⟩ t ln).chg.enq,{ f with found := false,aep := f.epoch,line := -1 },6⟩,aY.2 q1,e1.trans (by rw [hf]; first | done | rfl),e2⟩
 ·have hf : f = { f with had := false } := by
   have hd : f.had = false := hd
   rw [← hd]
  refine ⟨_,ae5,rfl,⟨a,f,t⟩,⟨aY.2 h,trivial⟩,by show [_,_,_] = [_,_,_]; rw [hf]; first | done | rfl,rfl,fun v h' hh => ?_⟩
  obtain ⟨y,h0,e1,e2⟩ := kC hh
  exact eP ⟨⟨a,{ f with epoch := a.c.now },5⟩,aY.2 q1,e1.trans (by rw [hf]; first | done | rfl),e2⟩
 ·refine ⟨_,La,rfl,⟨a,f,t⟩,⟨aY.2 h,trivial⟩,rfl,rfl,fun v h' hh => ?_⟩
  obtain ⟨y,h0,e1,e2⟩ := kC hh
  exact eP ⟨⟨a.rW t 0,f,7⟩,aY.2 q1,e1,e2⟩
 ·refine ⟨_,amU,rfl,⟨a,f,t⟩,aY.2 trivial,rfl,rfl,fun v h' hh => ?_⟩
  obtain ⟨y,h0,e1,e2⟩ := kC hh
  exact eP ⟨⟨a,f,7⟩,aY.2 q1,e1,e2⟩
theorem akb : bU Tryz.prog 19 anO := oJ fun x hx => by
 obtain ⟨⟨a,f,ph⟩,t,b,n,q⟩ := x
 obtain ⟨hn,hx⟩ := aY.1 hx
 have hn : n = 0 := hn
 subst hn
 rcases hx with ⟨hp,_,h,q1⟩ | ⟨hp,_,h,q1,q2⟩ | ⟨hp,_,i,k,h,hl,q1⟩ | ⟨hp,ln,hf,h,q1,q2⟩ | ⟨hp,_,h,q1,q2⟩ | ⟨hp,_,hc,ln,hf,h,q1⟩ | ⟨hp,_,hd,ln,hl,h,q1⟩ | ⟨hp,_,hd,h,q1⟩ | ⟨hp,_,h,q1⟩ | ⟨hp,_,q1⟩
 all_goals (have hp : ph = _ := hp; subst hp)
 ·refine ⟨_,KZ,rfl,⟨a,f,t⟩,⟨aY.2 h,trivial⟩,rfl,rfl,fun v h' hh => ?_⟩
  rcases qx hh with ⟨y,h0,e1,e2⟩ | ⟨y,h0,e1,e2⟩
  ·exact absurd (aY.1 h0).1 (by decide)
  ·exact eP ⟨⟨a.rW t a.r.now,{ f with epoch := a.c.now },1⟩,aY.2 q1,e1,e2⟩
 ·refine ⟨_,aj8,rfl,⟨a,f,t⟩,⟨aY.2 h,trivial⟩,rfl,rfl,fun v h' hh => ?_⟩
  rcases qx hh with ⟨y,h0,e1,e2⟩ | ⟨y,h0,e1,e2⟩
  ·exact eP ⟨⟨a,{ f with had := false,old := pX },6⟩,aY.2 (q1 (aY.1 h0)),e1,e2⟩
  ·exact eP ⟨⟨a,{ f with had := true,old := a.l.head,piece := 0 },2⟩,aY.2 (q2 (aY.1 h0)),e1,e2⟩
 ·have hl : f.line = gq.line ⟨a.p,i,k⟩ := hl
  have hf : f = { f with line := gq.line ⟨a.p,i,k⟩ } := by rw [← hl]
  refine ⟨_,aj9,rfl,⟨a,f,t,i,k⟩,⟨aY.2 h,trivial⟩,by show [_,_,_] = [_,_,_]; rw [hf]; first | done | rfl,rfl,fun v h' hh => ?_⟩
  obtain ⟨y,h0,e1,e2⟩ := kC hh
  exact eP ⟨⟨a.abL (a.p.give i k),{ f with had := false,old := pX,line := -1 },6⟩,aY.2 q1,e1,e2⟩
 ·have hf : f = (ZRe.mk a.d t f b ln 0).fr 0 := hf
  have h1 := h.2.2.2.2.1
  have h1 : ((0 : Nat) : Int) < spn b.cls := h1
  refine ⟨_,U2,rfl,⟨a,f,t,b,ln,0⟩,⟨aY.2 ⟨h,rfl⟩,trivial⟩,by show [_,_,_] = [_,_,_]; rw [hf]; first | done | rfl,rfl,fun v h' hh => ?_⟩
  rcases acU hh with ⟨y,h0,e1,e2⟩ | ⟨y,h0,e1,e2⟩ | ⟨y,h0,e1,e2⟩
  ·exact Tf ⟨⟨a,{ f with piece := (1 : Nat) },2⟩,aY.2 ⟨q1 (aY.1 h0),rfl⟩,e1.trans (by rw [hf]; first | done | rfl),e2⟩
  ·obtain ⟨h0,h2⟩ := aY.1 h0
   have h2 : f.line < 0 := h2
   refine eP ⟨⟨a,{ f with piece := (1 : Nat),ans := b.value },if f.line < 0 then 3 else 5⟩,aY.2 (q2 h0),e1.trans ?_,e2⟩
   show _ = ZFr.av _ 5 (if f.line < 0 then 3 else 5) fJ
   rw [if_pos h2,hf]; rfl
  ·obtain ⟨h0,h2⟩ := aY.1 h0
   have h2 : 0<=f.line := h2
   refine eP ⟨⟨a,{ f with piece := (1 : Nat),ans := b.value },if f.line < 0 then 3 else 5⟩,aY.2 (q2 h0),e1.trans ?_,e2⟩
   show _ = ZFr.av _ 5 (if f.line < 0 then 3 else 5) fJ
   rw [if_neg (by omega),hf]; rfl
 ·refine ⟨_,U1,rfl,⟨a,f,t⟩,⟨aY.2 h,trivial⟩,rfl,rfl,fun v h' hh => ?_⟩
  have hc : (ZSt.mk a f t).c 5 = 0 := if_neg (by decide)
  rcases qx hh with ⟨y,h0,e1,e2⟩ | ⟨y,h0,e1,e2⟩
  ·have h0 := aY.1 h0
   rw [hc] at h0
   exact eP ⟨⟨a,{ f with cls := 0,ans := emp,code := 4 },6⟩,aY.2 (q1 h0),e1,e2⟩
  ·have h0 := aY.1 h0
   rw [hc] at h0
   exact eP ⟨⟨a.abL (a.p.take 0 y.1 y.2),{ f with cls := 0,line := 2 + y.1 * 8 + y.2 * spn 0,piece := 0 },4⟩,aY.2 (q2 _ _ h0),e1,e2⟩
 ·have hf : f = { f with line := (ln : Int),cls := 0,piece := 0 } := hf
  refine ⟨_,GX,rfl,⟨a,f,t,ln,0,0⟩,⟨aY.2 ⟨h,rfl⟩,trivial⟩,by show [_,_,_] = [_,_,_]; rw [hf]; first | done | rfl,rfl,fun v h' hh => ?_⟩
  rcases qx hh with ⟨y,h0,e1,e2⟩ | ⟨y,h0,e1,e2⟩
  ·exact absurd (show (1 : Int) = spn 0 from rfl) (aY.1 h0)
  ·exact eP ⟨⟨a.IB (ZWr.mk a.d t f ln 0 0).d',{ f with piece := 0 },5⟩,aY.2 q1,e1.trans (by rw [hf]; first | done | rfl),e2⟩
 ·have hf : f = { f with had := true,line := (ln : Int) } := by
   have hd : f.had = true := hd
   have hl : f.line = ln := hl
   rw [← hd,← hl]
  refine ⟨_,ab2,rfl,⟨a,f,t,ln⟩,aY.2 h,by show [_,_,_] = [_,_,_]; rw [hf]; first | done | rfl,rfl,fun v h' hh => ?_⟩
  obtain ⟨y,h0,e1,e2⟩ := kC hh
  exact eP ⟨⟨(ZTs.pb ⟨a,f,5⟩ t ln).chg.deq,{ f with found := true,aep := f.epoch,line := -1 },6⟩,aY.2 q1,e1.trans (by rw [hf]; first | done | rfl),e2⟩
 ·have hf : f = { f with had := true } := by
   have hd : f.had = true := hd
   rw [← hd]
  refine ⟨_,ae6,rfl,⟨a,f,t⟩,⟨aY.2 h,trivial⟩,by show [_,_,_] = [_,_,_]; rw [hf]; first | done | rfl,rfl,fun v h' hh => ?_⟩
  obtain ⟨y,h0,e1,e2⟩ := kC hh
  exact eP ⟨⟨a,{ f with had := false,old := pX,ans := emp,epoch := a.c.now },1⟩,aY.2 q1,e1,e2⟩
 ·refine ⟨_,Lc,rfl,⟨a,f,t⟩,⟨aY.2 h,trivial⟩,rfl,rfl,fun v h' hh => ?_⟩
  obtain ⟨y,h0,e1,e2⟩ := kC hh
  exact eP ⟨⟨a.rW t 0,f,7⟩,aY.2 q1,e1,e2⟩
 ·refine ⟨_,amV,rfl,⟨a,f,t⟩,aY.2 trivial,rfl,rfl,fun v h' hh => ?_⟩
  obtain ⟨y,h0,e1,e2⟩ := kC hh
  exact eP ⟨⟨a,f,7⟩,aY.2 q1,e1,e2⟩
theorem akc : bU Tryz.prog 19 anP := oJ fun x hx => by
 obtain ⟨⟨a,f,ph⟩,t,b,n,q⟩ := x
 obtain ⟨hn,hp,hx⟩ := aY.1 hx
 have hn : n ≠ 0 := hn
 have hp : ph = 2 := hp
 subst hp
 rcases hx with ⟨hp,_⟩ | ⟨hp,_⟩ | ⟨hp,_⟩ | ⟨hp,ln,hf,h,q1,q2⟩ | ⟨hp,_⟩ | ⟨hp,_⟩ | ⟨hp,_⟩ | ⟨hp,_⟩ | ⟨hp,_⟩ | ⟨hp,_⟩
 all_goals try exact absurd hp (by show ¬ (2 : Int) = _; decide)
 have hf : f = (ZRe.mk a.d t f b ln n).fr n := hf
 refine ⟨_,U3,rfl,⟨a,f,t,b,ln,n⟩,⟨aY.2 ⟨h,hn⟩,trivial⟩,by show [_,_,_] = [_,_,_]; rw [hf]; first | done | rfl,rfl,fun v h' hh => ?_⟩
 rcases acU hh with ⟨y,h0,e1,e2⟩ | ⟨y,h0,e1,e2⟩ | ⟨y,h0,e1,e2⟩
 ·exact Tf ⟨⟨a,{ f with piece := (n + 1 : Nat) },2⟩,aY.2 ⟨q1 (aY.1 h0),rfl⟩,e1.trans (by rw [hf]; first | done | rfl),e2⟩
 ·obtain ⟨h0,h2⟩ := aY.1 h0
  have h2 : f.line < 0 := h2
  refine eP ⟨⟨a,{ f with piece := (n + 1 : Nat),ans := b.value },if f.line < 0 then 3 else 5⟩,aY.2 (q2 h0),e1.trans ?_,e2⟩
  show _ = ZFr.av _ 5 (if f.line < 0 then 3 else 5) fJ
  rw [if_pos h2,hf]; rfl
 ·obtain ⟨h0,h2⟩ := aY.1 h0
  have h2 : 0<=f.line := h2
  refine eP ⟨⟨a,{ f with piece := (n + 1 : Nat),ans := b.value },if f.line < 0 then 3 else 5⟩,aY.2 (q2 h0),e1.trans ?_,e2⟩
  show _ = ZFr.av _ 5 (if f.line < 0 then 3 else 5) fJ
  rw [if_neg (by omega),hf]; rfl
end Go.Proofs.YtenfleoejgjklaaGreat
end
section
namespace Go.Proofs.YtenfleoejgjklaaGreat
open Go SE
set_option linter.unusedSimpArgs false
theorem Zg {p : dw} (hp : p.good) {L : Int} {i j : Nat} (h : p.at_ L i j) : 2<=L/\L + spn (p.cls i)<=2 + p.n * 8/\0<=p.cls i/\p.cls i<=3 := by
 obtain ⟨h1,h2,h3,h4,h5⟩ := h
 have h6 := (hp.1.2.2 i h1).2.1
 refine ⟨?_,?_,h2,h6⟩
 all_goals (rcases gI (p.cls i) with m | m | m | m | m <;> obtain ⟨m1,m2,m3⟩ := m <;> rw [m2] at h5 <;> (try rw [m2]) <;> omega)
theorem am2 {l : ZLn} (h : l.ok) (x : dL) {N : Nat} (hc : l.cap<=2 * N + 1) (hn : l.n<=N) (hN : N<=1000000) : (l.push x).ok/\(l.push x).cap<=2 * (N + 1) + 1 := by
 obtain ⟨h1,h2,h3,h4,h5⟩ := h
 unfold ZLn.push ZLn.ok
 split
 ·exact ⟨⟨by show 2 * l.n + 1 < _; omega,by show l.n + 1<=2 * l.n + 1; omega,aX _,fun _ => rfl,fun _ => Nat.succ_pos _⟩,by show 2 * l.n + 1<=_; omega⟩
 ·exact ⟨⟨by show l.cap < _; omega,h2,by show l.n + 1<=l.len; omega,h4,h5⟩,by show l.cap<=_; omega⟩
theorem akd {p : dw} (hp : p.good) {L L' : Int} {i j i' j' : Nat} (h : p.at_ L i j) (h' : p.at_ L' i' j') (hne : L ≠ L') : L + spn (p.cls i)<=L' ∨ L' + spn (p.cls i')<=L := by
 obtain ⟨a1,a2,a3,a4,a5⟩ := h
 obtain ⟨b1,b2,b3,b4,b5⟩ := h'
 have a6 := (hp.1.2.2 i a1).2.1
 have b6 := (hp.1.2.2 i' b1).2.1
 by_cases e : i = i'
 ·subst e
  have hj : j ≠ j' := fun e => by subst e; exact hne (a5.trans b5.symm)
  rcases gI (p.cls i) with m | m | m | m | m <;> obtain ⟨m1,m2,m3⟩ := m <;> rw [m2] at a5 b5 ⊢ <;> omega
 ·rcases gI (p.cls i) with m | m | m | m | m <;> rcases gI (p.cls i') with m' | m' | m' | m' | m' <;> obtain ⟨m1,m2,m3⟩ := m <;> obtain ⟨m1',m2',m3'⟩ := m' <;> rw [m2] at a5 <;> rw [m2'] at b5 <;> rw [m2,m2'] <;> omega
structure Base (a : ZArn) (T M : Nat) (b : Nat->dN) : Prop where
 dok : a.d.ok
 dst : a.d.st<=M
 dfl : a.d.fl<=M
 dfe : a.d.fe<=M
 rok : a.r.ok
 rt : a.r.t = T
 cok : a.c.ok
 ct : a.c.t = T
 clos : a.c.clos = 0
 pg : a.p.good
 fit : 2 + a.p.n * 8<=a.d.n
 bok : a.b.ok
 lok : a.l.ok
 aj2 : a.l.cap<=2 * M + 1
 ln : a.l.n<=M
 id0 : 0<=a.id
 id1 : a.id<=M
 v0 : 0<=a.ver
 v1 : a.ver<=M
 nn : a.n<=M
 acS : 1<=a.c.now
 VT : a.c.now<=M
 owed : ∀ k,a.c.o k<=M
 nz : a.l.n ≠ 0->a.n ≠ 0
 used : ∀ L : Int,2<=L->(qN.inL ⟨a.b,a.l,L⟩ ∨ qN.inB ⟨a.b,a.l,L⟩)->a.p.has L
 q : ∀ i,i < a.l.n->∃ ln : Nat,a.l.get i = ⟨⟨#[]⟩,(b i).id,(b i).ver,ln,(b i).cls⟩/\ZBy.ok ⟨a.d,b i,ln⟩/\∃ i' j',a.p.at_ ln i' j'/\a.p.cls i' = (b i).cls
def Hold (a : ZArn) (ln : Nat) (c : Int) : Prop := (∃ i j,a.p.at_ ln i j/\a.p.cls i = c)/\(¬ qN.inL ⟨a.b,a.l,ln⟩)/\¬ qN.inB ⟨a.b,a.l,ln⟩
def dat (d : DevM) (ln : Nat) (v : ByteArray) (n : Nat) : Prop := ∀ m r : Nat,1<=m->m < n->r < 64->d.b ((ln + m) * 193 + r) = (dN.mk 0 2 0 0 0 ⟨#[]⟩ v).enc (64 * m + r)
section
variable {a : ZArn} {T M : Nat} {b : Nat->dN}
theorem Base.up (g : Base a T M b) {M' : Nat} (h : M<=M') : Base a T M' b :=
 { g with dst := by have := g.dst; omega,dfl := by have := g.dfl; omega,dfe := by have := g.dfe; omega,aj2 := by have := g.aj2; omega,ln := by have := g.ln; omega,id1 := by have := g.id1; omega,v1 := by have := g.v1; omega,nn := by have := g.nn; omega,VT := by have := g.VT; omega,owed := fun k => by have := g.owed k; omega }
theorem Hold.fits {L : Nat} {c : Int} (h : Hold a L c) (g : Base a T M b) : 2<=L/\(L : Int) + spn c<=a.d.n/\0<=c/\c<=3/\L < 258/\a.d.n<=258 := by
 obtain ⟨⟨i,j,h1,rfl⟩,_⟩ := h
 obtain ⟨f1,f2,f3,f4⟩ := Zg g.pg h1
 have := g.fit
 have := g.dok.1
 have s := dO (a.p.cls i)
 refine ⟨by omega,by omega,f3,f4,by omega,this⟩
theorem Hold.apart {L : Nat} {c : Int} (h : Hold a L c) (g : Base a T M b) {m : Nat} (hm : m < a.l.n) {ln : Nat} (hl : (a.l.get m).line = ln) : ln + (b m).dA<=L ∨ L + (spn c).toNat<=ln := by
 obtain ⟨⟨i,j,h1,rfl⟩,h2,_⟩ := h
 obtain ⟨ln',q1,_,i',j',q2,q3⟩ := g.q m hm
 have e : (ln' : Int) = ln := by rw [← hl,q1]
 have e : ln' = ln := by omega
 subst e
 have hne : (ln' : Int) ≠ L := fun e => h2 ⟨m,hm,by show (a.l.get m).line = (L : Int); rw [hl,e]⟩
 have := akd g.pg q2 h1 hne
 rw [q3] at this
 have s := jm (b m)
 have s2 := dO (a.p.cls i)
 omega
theorem Base.dev (g : Base a T M b) {d' : DevM} {M' : Nat} (hM : M<=M') (h1 : d'.ok) (h2 : d'.n = a.d.n) (h3 : d'.st<=M') (h4 : d'.fl<=M') (h5 : d'.fe<=M') {L n : Nat} (hb : ∀ m r : Nat,2<=m->r < 64->¬ (L<=m/\m < L + n)->d'.b (m * 193 + r) = a.d.b (m * 193 + r))
  (hs : ∀ m,m < a.l.n->∀ ln : Nat,(a.l.get m).line = ln->ln + (b m).dA<=L ∨ L + n<=ln) : Base (a.IB d') T M' b := by
 have g' := g.up hM
 refine { g' with dok := h1,dst := h3,dfl := h4,dfe := h5,fit := by show 2 + a.p.n * 8<=d'.n; rw [h2]; exact g.fit,q := fun i hi => ?_ }
 have hi : i < a.l.n := hi
 obtain ⟨ln,q1,⟨q2,q3,q4,q5,q6⟩,i',j',q7,q8⟩ := g.q i hi
 have hf := Zg g.pg q7
 have hh := hs i hi ln (by rw [q1])
 refine ⟨ln,q1,⟨h1,q3,q4,by show (ln : Int) + spn (b i).cls<=d'.n; rw [h2]; exact q5,fun q hq => ?_⟩,i',j',q7,q8⟩
 have hq : q < 64 * (b i).dA := hq
 show d'.b ((ln + q / 64) * 193 + q % 64) = (b i).enc q
 rw [hb _ _ (by omega) (by omega) (by omega)]
 exact q6 q hq
theorem Hold.IB {L : Nat} {c : Int} (h : Hold a L c) (d' : DevM) : Hold (a.IB d') L c := h
theorem Base.write (g : Base a T M b) (hM : M<=1000000) {L : Nat} {c : Int} (h : Hold a L c) {t : Nat} {f : ZFr} (hv : f.value.size<=400) {p : Nat} (hp : (p : Int) < spn c) :
  (ZWr.mk a.d t f L c p).ok/\Base (a.IB (ZWr.mk a.d t f L c p).d') T (M + 20) b/\(dat a.d L f.value p->dat (ZWr.mk a.d t f L c p).d' L f.value (p + 1))/\∀ m r : Nat,r < 64->¬ (L<=m/\m < L + (spn c).toNat)->(ZWr.mk a.d t f L c p).d'.b (m * 193 + r) = a.d.b (m * 193 + r) := by
 obtain ⟨f1,f2,f3,f4,f5,f6⟩ := h.fits g
 have hs := dO c
 have d1 := g.dst
 have d2 := g.dfl
 have d3 := g.dfe
 have hd := g.dok
 have w : (ZWr.mk a.d t f L c p).ok := ⟨hd,f3,f4,f2,hp,hv,hd.2.2.1,by show a.d.st + 10 < _; omega⟩
 have key : ∃ g0 : Nat->Int,(∀ q,0<=g0 q/\g0 q < 256)/\(ZWr.mk a.d t f L c p).d' = a.d.store (L + p) 0 64 g0/\(1<=p->∀ r,g0 r = (dN.mk c 2 0 0 0 ⟨#[]⟩ f.value).enc (64 * p + r)) := by
  unfold ZWr.d'
  by_cases e : p = 0
  ·subst e
   rw [if_pos rfl]
   exact ⟨_,D8 ⟨f3,f4⟩,rfl,fun h => absurd h (by decide)⟩
  ·rw [if_neg e]
   exact ⟨_,fun q => abD _ (by show 64<=64 * p + q; omega),rfl,fun _ r => rfl⟩
 obtain ⟨g0,k1,k2,k3⟩ := key
 have hb : ∀ m r : Nat,r < 64->¬ (L<=m/\m < L + (spn c).toNat)->(a.d.store (L + p) 0 64 g0).b (m * 193 + r) = a.d.b (m * 193 + r) := fun m r hr hm => by
  rw [tZ _ _ _ _ _ hr,if_neg (by omega)]
 rw [k2]
 refine ⟨w,g.dev (by omega) (DevM.jf hd _ _ _ k1 (by omega)) rfl (by show a.d.st + 1<=_; omega) (by show a.d.fl<=_; omega) (by show a.d.fe<=_; omega) (L := L) (n := (spn c).toNat) (fun m r _ hr hm => hb m r hr hm) (fun m hm ln hl => h.apart g hm hl),fun hdat m r h1 h2 h3 => ?_,hb⟩
 rw [tZ _ _ _ _ _ h3]
 by_cases e : m = p
 ·subst e
  rw [if_pos rfl,k3 h1]
  exact Zf (x := dN.mk c 2 0 0 0 ⟨#[]⟩ f.value) (y := dN.mk 0 2 0 0 0 ⟨#[]⟩ f.value) rfl rfl (by omega)
 ·rw [if_neg (by omega)]
  exact hdat m r h1 (by omega) h3
theorem Base.take (g : Base a T M b) {c : Int} (hc : 0<=c/\c<=3) {i j : Nat} (h : a.p.takes c i j) : ∃ L : Nat,(L : Int) = 2 + i * 8 + j * spn c/\L = 2 + i * 8 + j * (spn c).toNat/\Base (a.abL (a.p.take c i j)) T M b/\Hold (a.abL (a.p.take c i j)) L c/\¬ a.p.has L := by
 obtain ⟨l1,l2⟩ := jI g.pg hc h
 obtain ⟨n1,n2⟩ := at_new g.pg hc.1 h
 have no := Qm g.pg hc h
 refine ⟨2 + i * 8 + j * (spn c).toNat,l1,rfl,?_,⟨⟨i,j,by rw [l1]; exact n1,n2⟩,?_,?_⟩,by rw [l1]; exact no⟩
 ·refine { g with pg := zh g.pg hc h,used := fun L hL hu => Qp (take_at g.pg h) (g.used L hL hu),q := fun m hm => ?_ }
  obtain ⟨ln,q1,q2,i',j',q7,q8⟩ := g.q m hm
  obtain ⟨q9,q10⟩ := take_at g.pg h _ _ _ q7
  exact ⟨ln,q1,q2,i',j',q9,q10.trans q8⟩
 ·intro hu
  exact no (l1 ▸ g.used _ (by omega) (.inl hu))
 ·intro hu
  exact no (l1 ▸ g.used _ (by omega) (.inr hu))
theorem Hold.take {L : Nat} {c0 : Int} (hh : Hold a L c0) (g : Base a T M b) {c : Int} {i j : Nat} (h : a.p.takes c i j) : Hold (a.abL (a.p.take c i j)) L c0 := by
 obtain ⟨⟨i',j',h1,h2⟩,h3⟩ := hh
 obtain ⟨q1,q2⟩ := take_at g.pg h _ _ _ h1
 exact ⟨⟨i',j',q1,q2.trans h2⟩,h3⟩
theorem Base.rW (g : Base a T M b) {t : Nat} {v : Int} : Base (a.rW t v) T M b := { g with rok := g.rok,rt := g.rt }
theorem ake {x : fV} {ln : Nat} (h : Hold x.a ln x.c) (hk : x.k = ln) : ∃ i j,x.inP i j := by
 obtain ⟨⟨i,j,⟨a1,a2,a3,a4,a5⟩,h2⟩,_⟩ := h
 exact ⟨i,j,a1,a2,a3,a4,by rw [hk]; exact a5,h2⟩
theorem Base.enq (g : Base a T M b) (hM : M<=1000000) {t L : Nat} (ht : t < T) {f : ZFr} (h : Hold a L f.cls) (hc : f.cls = ned f.value.size) (hv : f.value.size<=400) (he : f.epoch = a.c.now) (hd : dat a.d L f.value (spn f.cls).toNat) :
  ((ZPb.mk a f t L).chg.okE/\(∃ i j,(ZPb.mk a f t L).chg.inP i j)/\∀ k,a.c.o k + 8 < 1099511627776)/\Base (ZPb.mk a f t L).chg.enq T (M + 20) (pushB b a.l.n (ZPb.mk a f t L).chg.blk) := by
 obtain ⟨f1,f2,f3,f4,f5,f6⟩ := h.fits g
 have hs := dO f.cls
 have e1 := g.id0; have e2 := g.id1; have e3 := g.v0; have e4 := g.v1; have e5 := g.nn; have e6 := g.acS; have e7 := g.VT
 have e8 := g.dst; have e9 := g.dfl; have e10 := g.dfe; have e11 := g.ln
 let B : dN := (ZPb.mk a f t L).chg.blk
 have hBv : B.value = f.value := rfl
 have hBs : B.dA = (spn f.cls).toNat := rfl
 have hbm : B.may := by
  refine ⟨KJ ⟨f3,f4⟩,.inr (.inr (.inl ⟨rfl,rfl,hv,?_,?_,?_,?_⟩))⟩
  ·show ned ((0 + f.value.size : Nat) : Int) = f.cls
   rw [hc,ay]
  ·show 1<=a.id + 1/\a.id + 1<=2305843009213693952; omega
  ·show 1<=a.ver + 1/\a.ver + 1<=2305843009213693952; omega
  ·show 1<=f.epoch/\f.epoch<=2305843009213693952; omega
 have ho := g.owed
 refine ⟨⟨⟨⟨g.dok,g.cok,g.lok,by show t < a.c.t; rw [g.ct]; exact ht,by show L < a.d.n; omega,hbm,by show f.value.size < _; omega,e1,e3,by show a.n < _; omega,f6⟩,g.pg.1,g.bok,by show a.l.n < _; omega,he.symm,by show a.ver < _; omega,by show a.id < _; omega,h.2.1,h.2.2⟩,ake (x := (ZPb.mk a f t L).chg) h rfl,fun k => by have := ho k; omega⟩,?_⟩
 let D : DevM := a.d.store L 0 64 B.enc
 have hDb : ∀ m r : Nat,r < 64->¬ (L<=m/\m < L + (spn f.cls).toNat)->D.b (m * 193 + r) = a.d.b (m * 193 + r) := fun m r hr hm => by
  show (a.d.store L 0 64 B.enc).b (m * 193 + r) = _
  rw [tZ _ _ _ _ _ hr,if_neg (by omega)]
 have anQ : D.ok := DevM.jf g.dok _ _ _ (qy hbm) (by omega)
 have gD : Base (a.IB D) T (M + 20) b := g.dev (by omega) anQ rfl (by show a.d.st + 1<=_; omega) (by show a.d.fl<=_; omega) (by show a.d.fe<=_; omega) (L := L) (n := (spn f.cls).toNat) (fun m r _ hr hm => hDb m r hr hm) (fun m hm ln hl => h.apart g hm hl)
 have hnew : ZBy.ok ⟨D,B,L⟩ := by
  refine ⟨anQ,hbm,rfl,by show ((L : Nat) : Int) + spn f.cls<=a.d.n; exact f2,fun q hq => ?_⟩
  have hq : q < 64 * B.dA := hq
  show (a.d.store L 0 64 B.enc).b ((L + q / 64) * 193 + q % 64) = B.enc q
  rw [tZ _ _ _ _ _ (by omega)]
  by_cases e : q / 64 = 0
  ·rw [if_pos (by omega),show q % 64 = q by omega]
  ·rw [if_neg (by omega),hd (q / 64) (q % 64) (by omega) (by rw [hBs] at hq; omega) (by omega),show 64 * (q / 64) + q % 64 = q by omega]
   exact Zf (x := dN.mk 0 2 0 0 0 ⟨#[]⟩ f.value) (y := B) rfl rfl (by omega)
 have hcap := g.aj2
 have hpo := am2 g.lok ⟨⟨#[]⟩,a.id + 1,a.ver + 1,(L : Int),f.cls⟩ (N := M) hcap e11 hM
 have hno := FY a.c t (L : Int) (fun k => (g.cok.2.2.2.2.2 k).1)
 have hs8 := (jm B).1
 have hl : (ZPb.mk a f t L).chg.enq.l = a.l.push ⟨⟨#[]⟩,a.id + 1,a.ver + 1,(L : Int),f.cls⟩ := rfl
 have hcc : (ZPb.mk a f t L).chg.enq.c = a.c.notes t (L : Int) B.dA := rfl
 have hclos : ∀ n,(a.c.notes t (L : Int) n).clos = a.c.clos := fun n => by
  induction n with
  | zero => rfl
  | succ n ih => exact ih
 obtain ⟨i0,j0,hi0,hc0⟩ := h.1
 exact { gD with
  cok := by rw [hcc]; exact qc g.cok (fun k => by have := ho k; omega) _ _ hs8
  ct := by rw [hcc,nY]; exact g.ct
  clos := by rw [hcc,hclos]; exact g.clos
  lok := hpo.1
  aj2 := by rw [hl]; have := hpo.2; omega
  ln := by rw [hl,BX]; omega
  id0 := by show 0<=a.id + 1; omega
  id1 := by show a.id + 1<=((M + 20 : Nat) : Int); omega
  v0 := by show 0<=a.ver + 1; omega
  v1 := by show a.ver + 1<=((M + 20 : Nat) : Int); omega
  nn := by show a.n + 1<=M + 20; omega
  acS := by rw [hcc,kN]; exact g.acS
  VT := by rw [hcc,kN]; omega
  owed := fun k => by rw [hcc]; have := (hno B.dA k).2; have := ho k; omega
  nz := fun _ => Nat.succ_ne_zero _
  used := fun K hK hu => by
   rcases hu with ⟨m,hm,hh⟩ | hu
   ·have hm : m < a.l.n + 1 := by rw [← BX a.l ⟨⟨#[]⟩,a.id + 1,a.ver + 1,(L : Int),f.cls⟩]; exact hm
    have hh : ((a.l.push ⟨⟨#[]⟩,a.id + 1,a.ver + 1,(L : Int),f.cls⟩).get m).line = K := hh
    rw [D9 g.lok _ (by omega)] at hh
    by_cases e : m = a.l.n
    ·rw [if_pos e] at hh
     have hh : (L : Int) = K := hh
     exact ⟨i0,j0,by rw [← hh]; exact hi0⟩
    ·rw [if_neg e] at hh
     exact g.used K hK (.inl ⟨m,by show m < a.l.n; omega,hh⟩)
   ·exact g.used K hK (.inr hu)
  q := fun m hm => by
   have hm : m < a.l.n + 1 := by rw [← BX a.l ⟨⟨#[]⟩,a.id + 1,a.ver + 1,(L : Int),f.cls⟩]; exact hm
   rw [hl,D9 g.lok _ (by omega)]
   unfold pushB
   by_cases e : m = a.l.n
   ·rw [if_pos e,if_pos e]
    exact ⟨L,rfl,hnew,i0,j0,hi0,hc0⟩
   ·rw [if_neg e,if_neg e]
    exact gD.q m (by show m < a.l.n; omega) }
theorem Base.deq (g : Base a T M b) (hM : M<=1000000) {t L : Nat} (ht : t < T) {f : ZFr} (h : Hold a L 0) (hc : f.cls = 0) (hz : a.l.n ≠ 0) (ho : f.old = a.l.head) (he : f.epoch = a.c.now) :
  ((ZPb.mk a f t L).chg.okD/\(∃ i j,(ZPb.mk a f t L).chg.inP i j)/\0<=a.id/\a.id < 1152921504606846976/\a.n ≠ 0)/\Base (ZPb.mk a f t L).chg.deq T (M + 20) (fun m => b (m + 1)) := by
 obtain ⟨f1,f2,f3,f4,f5,f6⟩ := h.fits g
 have hs0 : spn 0 = 1 := rfl
 have e1 := g.id0; have e2 := g.id1; have e3 := g.v0; have e4 := g.v1; have e5 := g.nn; have e6 := g.acS; have e7 := g.VT
 have e8 := g.dst; have e9 := g.dfl; have e10 := g.dfe; have e11 := g.ln
 have how := g.owed
 obtain ⟨ln0,q1,⟨_,q3,q4,q5,q6⟩,bi,bj,q7,q8⟩ := g.q 0 (by omega)
 have hhd : a.l.head = ⟨⟨#[]⟩,(b 0).id,(b 0).ver,ln0,(b 0).cls⟩ := by rw [Qo hz]; exact q1
 obtain ⟨g1,g2,g3,g4⟩ := Zg g.pg q7
 have hfit := g.fit
 have hsb := dO (a.p.cls bi)
 have nums : 1<=(b 0).id/\(b 0).id<=2305843009213693952 := by
  rcases q3.2 with h | h | h | h
  ·exfalso; have := h.1; have : (b 0).kind = 2 := q4; omega
  ·exfalso; have := h.1; have : (b 0).kind = 2 := q4; omega
  ·exact h.2.2.2.2.1
  ·exfalso; have := h.1; have : (b 0).kind = 2 := q4; omega
 let B : dN := (ZPb.mk a f t L).chg.amx
 have hBm : B.may := by
  refine ⟨show spn 0 ≠ 0 by decide,.inr (.inr (.inr ⟨rfl,rfl,rfl,?_,?_,?_⟩))⟩
  ·show 1<=f.old.id/\f.old.id<=2305843009213693952
   rw [ho,hhd]; exact nums
  ·show 1<=a.ver + 1/\a.ver + 1<=2305843009213693952; omega
  ·show 1<=f.epoch/\f.epoch<=2305843009213693952; omega
 have h' : Hold a L f.cls := by rw [hc]; exact h
 have hen : (ZPb.mk a f t L).chg.aqz.may := by
  refine ⟨?_,?_,?_,?_,?_,?_⟩
  ·show 2<=f.old.line; rw [ho,hhd]; exact g1
  ·show f.old.line < 258; rw [ho,hhd]; show (ln0 : Int) < 258; omega
  ·show 0<=f.old.cls; rw [ho,hhd]; show 0<=(b 0).cls; omega
  ·show f.old.cls<=3; rw [ho,hhd]; show (b 0).cls<=3; omega
  ·show -1<=((L : Nat) : Int); omega
  ·show ((L : Nat) : Int) < 258; omega
 refine ⟨⟨⟨g.dok,g.cok,g.lok,by show t < a.c.t; rw [g.ct]; exact ht,by show L < a.d.n; omega,hBm,e3,by show a.n < _; omega,f6,g.pg.1,g.bok,g.rok,by show a.l.n < _; omega,hz,ho,he.symm,by show a.ver < _; omega,hc,hen,h.2.1,h.2.2⟩,ake (x := (ZPb.mk a f t L).chg) h' rfl,e1,by omega,g.nz hz⟩,?_⟩
 let D : DevM := a.d.store L 0 64 B.enc
 have hDb : ∀ m r : Nat,r < 64->¬ (L<=m/\m < L + (spn 0).toNat)->D.b (m * 193 + r) = a.d.b (m * 193 + r) := fun m r hr hm => by
  show (a.d.store L 0 64 B.enc).b (m * 193 + r) = _
  rw [tZ _ _ _ _ _ hr,if_neg (fun e => hm (by rw [hs0]; subst e; exact ⟨aX _,Nat.lt_succ_self _⟩))]
 have anQ : D.ok := DevM.jf g.dok _ _ _ (qy hBm) (by omega)
 have gD : Base (a.IB D) T (M + 20) b := g.dev (by omega) anQ rfl (by show a.d.st + 1<=_; omega) (by show a.d.fl<=_; omega) (by show a.d.fe<=_; omega) (L := L) (n := (spn 0).toNat) (fun m r _ hr hm => hDb m r hr hm) (fun m hm ln hl => h.apart g hm hl)
 have hpo := arZ g.lok hz
 have hcap := g.aj2
 have hpn := arY hz
 have hno := FY a.c t (L : Int) (fun k => (g.cok.2.2.2.2.2 k).1)
 have hl : (ZPb.mk a f t L).chg.deq.l = a.l.pop := rfl
 have hcc : (ZPb.mk a f t L).chg.deq.c = a.c.notes t (L : Int) 1 := rfl
 obtain ⟨i0,j0,hi0,hc0⟩ := h.1
 exact { gD with
  cok := by rw [hcc]; exact qc g.cok (fun k => by have := how k; omega) _ _ (by decide)
  ct := by rw [hcc,nY]; exact g.ct
  clos := g.clos
  bok := ar0 g.bok _
  lok := hpo.1
  aj2 := by rw [hl,hpo.2]; omega
  ln := by rw [hl,hpn]; omega
  v0 := by show 0<=a.ver + 1; omega
  v1 := by show a.ver + 1<=((M + 20 : Nat) : Int); omega
  nn := by show a.n + 1<=M + 20; omega
  acS := by rw [hcc,kN]; exact g.acS
  VT := by rw [hcc,kN]; omega
  owed := fun k => by rw [hcc]; have := (hno 1 k).2; have := how k; omega
  nz := fun _ => Nat.succ_ne_zero _
  used := fun K hK hu => by
   rcases hu with ⟨m,hm,hh⟩ | hu
   ·have hm : m < a.l.n - 1 := by rw [← hpn]; exact hm
    have hh : (a.l.pop.get m).line = K := hh
    rw [aj1 g.lok hz (by omega)] at hh
    exact g.used K hK (.inl ⟨m + 1,by show m + 1 < a.l.n; omega,hh⟩)
   ·have hu : qN.inB ⟨a.b.put (ZPb.mk a f t L).chg.aqz,a.l.pop,K⟩ := hu
    rcases aqf hu with hu | hu | hu
    ·exact g.used K hK (.inr hu)
    ·have hu : f.old.line = K := hu
     rw [ho,hhd] at hu
     exact ⟨bi,bj,by rw [← hu]; exact q7⟩
    ·have hu : (L : Int) = K := hu
     exact ⟨i0,j0,by rw [← hu]; exact hi0⟩
  q := fun m hm => by
   have hm : m < a.l.n - 1 := by rw [← hpn]; exact hm
   rw [hl,aj1 g.lok hz (by omega)]
   exact gD.q (m + 1) (by show m + 1 < a.l.n; omega) }
end
end Go.Proofs.YtenfleoejgjklaaGreat
end
section
namespace Go.Proofs.YtenfleoejgjklaaGreat
open Go SE
def ar6 : Prop := Value.slice none 0 0 = Value.slice none 0 0
def ar7 : Prop := ar6/\True
def akf : Prop := ∃ y_3 : Unit,True/\true = false/\True
def aqg : Prop := ByteArray.mk #[] = ByteArray.mk #[]/\ar7
def Hg (x : Unit) : Prop :=
 ∃ x_1 : ZNew,Hd (10<=x_1.n/\x_1.n<=258/\1<=x_1.t/\x_1.t<=4)/\((x_1.n : Int) = 10/\(x_1.t : Int) = 1/\True)/\True/\∀ y : DevM,Hd (y.ok/\y.n = x_1.n/\y.st = 2/\y.fl = 2/\y.fe = 1)->∃ x_2 : jo,Hd (uN x_2.a x_2.t)/\(0 = 0/\(x_2.t : Int) = 0/\((4 : Int) = 4/\x_2.key = ByteArray.mk #[]/\x_2.v = @ByteArray.mk (@List.toArray UInt8 [(120 : UInt8)])/\aqg)/\True)/\(ownM x_2.a.os = ownM (ZArn.osN (newArn x_1.n x_1.t y))/\True)/\∀ y_1 : anR,Hd (resE x_2 y_1)->∃ x_3 : jo,Hd (uN x_3.a x_3.t/\x_3.v.size<=400/\(x_3.a.l.n ≠ 0->x_3.a.n ≠ 0/\∃ ln : Nat,@LJ x_3.a x_3.b ln))/\(0 = 0/\(x_3.t : Int) = 0/\((5 : Int) = 5/\x_3.key = ByteArray.mk #[]/\x_3.v = ByteArray.mk #[]/\aqg)/\True)/\(ownM x_3.a.os = ownM y_1.a.os/\True)/\∀ y_2 : anR,Hd (resD x_3 y_2)->cP (BEq.beq (y_1.n : Int) (5 : Int)) (cP (BEq.beq y_1.code (0 : Int)) (cP (BEq.beq (y_2.n : Int) (7 : Int)) (cP y_2.found (∃ y_3 : Unit,True/\true = BEq.beq (ByteArray.toList y_2.v) (ByteArray.toList (@ByteArray.mk (@List.toArray UInt8 [(120 : UInt8)])))/\True) akf) akf) akf) akf
theorem Vy (x : Unit) : Hg x = wpF Tryz.prog ar5 tt (noA x) 200 6 12 (aj7.args x) (hO 0 []) (fun v h' => eH 0 x v h' aj7.outs) := by kernel_rfl
end Go.Proofs.YtenfleoejgjklaaGreat
end
section
namespace Go.Proofs.YtenfleoejgjklaaGreat
open Go SE
set_option linter.unusedSimpArgs false
structure ZSm where
 n : Nat
 m : Nat
 g : Nat->ByteArray
 h : Nat->ByteArray
noncomputable def ZSm.same (x : ZSm) : Bool := hide (@decide (x.n = x.m/\∀ i,i < x.n->x.g i = x.h i) (Classical.propDecidable _))
def rowT (n : Nat) (g : Nat->ByteArray) : bZ := .ro (.row 1 n (fun i => [.string (g i)]) [])
end Go.Proofs.YtenfleoejgjklaaGreat
end
section
namespace Go.Proofs.YtenfleoejgjklaaGreat
open Go SE
end Go.Proofs.YtenfleoejgjklaaGreat
end
section
namespace Go.Proofs.YtenfleoejgjklaaGreat
open Go SE
set_option linter.unusedSimpArgs false
theorem Hl {n : Nat} {c : Int} (hc : 0<=c) {i k : Nat} (h : (gJ n n).takes c i k) : i = 0/\k = 0 := by
 obtain ⟨h1,h2,h3,h4⟩ := h
 have h1 : i < n := h1
 have cl : ∀ j,j < n->(gJ n n).cls j = -1 := fun j hj => if_pos hj
 rcases h4 with ⟨h4,_⟩ | ⟨h4,h5,_,h6⟩
 ·rw [cl i h1] at h4; omega
 ·refine ⟨?_,h5⟩
  rcases Nat.eq_zero_or_pos i with h | h
  ·exact h
  ·exact absurd (cl 0 (by omega)) (h6 0 h)
theorem LK {n : Nat} (hn : 0 < n) {c : Int} : ¬ ∀ i,i < (gJ n n).n->(gJ n n).cls i ≠ -1/\(gJ n n).full c i := fun h => (h 0 hn).1 (if_pos hn)
def zB : dN := ⟨0,0,0,0,0,⟨#[]⟩,⟨#[]⟩⟩
theorem akg (n T : Nat) (d : DevM) : ownM (newArn n T d).os = ownM (newArn n T d).osN := by rw [zU rfl]
theorem Jb (u : Unit) : Hg u := by
 unfold Hg
 simp only [aqg,akf,ar7,ar6]
 simp only [aY,aU,aT,ay,aH,bI,bn,aN,aJ,au,aW,aV,bJ,bC,bD,bF,bK,bf,bG,aZ,dU,aG,aK,ah,aj,aA,aC,aB,aF]
 refine ⟨⟨10,1⟩,by decide,⟨rfl,rfl⟩,fun d hd => ?_⟩
 have g0 := acT (n := 10) (t := 0) (T := 1) (m := 0) hd.1 hd.2.1 hd.2.2.1 rfl (by decide) (by decide) (by decide) (fun _ => zB)
 refine ⟨⟨newArn 10 1 d,0,⟨#[]⟩,⟨#[120]⟩,zB⟩,g0.A (by decide),⟨rfl,rfl,rfl⟩,akg _ _ _,fun y1 h1 => ?_⟩
 rcases h1 with ⟨h,_⟩ | ⟨_,h,_⟩ | ⟨hv,c1,c2,c3,c4,i,j,ht,c5⟩
 ·exact absurd (show 400 < 1 from h) (by decide)
 ·exact absurd h (LK (n := 1) (by decide))
 have g1 := amY g0 (by decide) ⟨#[]⟩ ⟨#[120]⟩ zB hv ht
 rw [← c5] at g1
 obtain ⟨rfl,rfl⟩ := Hl (n := 1) (show (0 : Int)<=ned (1 : Nat) by decide) ht
 have hn1 : y1.a.l.n = 1 := by rw [c5]; exact BX _ _
 let B := pushB (fun _ => zB) (newArn 10 1 d).l.n ⟨ned (ByteArray.size ⟨#[120]⟩),2,(newArn 10 1 d).id + 1,(newArn 10 1 d).ver + 1,1,⟨#[]⟩,⟨#[120]⟩⟩
 refine ⟨⟨y1.a,0,⟨#[]⟩,⟨#[]⟩,B 0⟩,⟨g1.A (by decide),Nat.zero_le _,fun hz => g1.head hz⟩,⟨rfl,rfl,rfl⟩,rfl,fun y2 h2 => ?_⟩
 rcases h2 with ⟨h,_⟩ | ⟨_,h,_⟩ | ⟨_,e1,e2,e3,e4,_⟩
 ·exact absurd (hn1.symm.trans h) (by decide)
 ·exfalso
  have hp : y1.a.p = (gJ 1 1).take 0 0 0 := by rw [c5]; rfl
  have h := (h 0 (by rw [hp]; show 0 < 1; decide)).2
  rw [hp] at h
  have := h rfl 1 (by decide)
  cases this
 ·have e5 : y1.n = 5 := c4
  have e6 : y2.n = 7 := e4
  have e7 : y2.v = ⟨#[120]⟩ := e3
  rw [e5,e6,e7,c1,e2]
  exact bg (fun _ => bg (fun _ => bg (fun _ => (beq_self_eq_true _).symm) fun h => absurd h (by decide)) fun h => absurd h (by decide)) fun h => absurd h (by decide)
theorem am3 : fA Tryz.prog ar5 := .cons (bM aiF) (.cons aj6 .nil)
theorem am4 : bU Tryz.prog 12 aj7 := dR dD mixed am3 noA 200 6 (fun _ => rfl) (fun _ => rfl) fun x _ => Eq.mp (Vy x) (Jb x)
def akh : WTr := fun args h K => match args with
 | [] => K (boo true) h
 | _ => False
theorem aki (args : List AV) (h : Heap) (K : AV->Heap->Prop) (hq : akh args h K) : Sp Tryz.prog 12 args h K := by
 unfold akh at hq
 split at hq
 ·exact D7 am4 () trivial h rfl rfl hq
 ·exact hq.elim
noncomputable def tblL : WTbl := [(12,akh),(13,ctrT aeB.ctr),(15,runT)]
theorem aqh : fA Tryz.prog tblL := .cons aki (.cons (bM aiF) (.cons aj6 .nil))
structure ZTu where
 lines : Int
 n : Nat
 g : Nat->ByteArray
 m : Nat
 h : Nat->Bool
def ZTu.os (x : ZTu) : List bZ := [rowT x.n x.g,.ro (.row 1 x.m (fun i => [.bool (x.h i)]) [])]
end Go.Proofs.YtenfleoejgjklaaGreat
end
section
namespace Go.Proofs.YtenfleoejgjklaaGreat
open Go SE
set_option linter.unusedSimpArgs false
def wK (c : ClkM) (d : DevM) (ph : Nat) (Q : ClkM->DevM->Nat->Prop) : Prop :=
 (ph = 0/\c.clos = 0/\Q c d 0) ∨
 (ph = 1/\oZ.ok ⟨c,d⟩/\(∀ k,k < 258->c.L k = true->(∀ j,j < k->c.L j = false)->Q (c.aal k) (d.flush k) 1)/\((∀ j,j < 258->c.L j = false)->Q c d.fence 2)) ∨
 (ph = 2/\oZ.ok ⟨c,d⟩/\Q c (d.store 1 0 64 (iK c.clos)) 3) ∨
 (ph = 3/\oZ.ok ⟨c,d⟩/\Q c (d.flush 1) 4) ∨
 (ph = 4/\oZ.ok ⟨c,d⟩/\Q c.fin d.fence 0)
def LM (c : ClkM) (lo : Nat) : Prop := ∀ k,c.N k = true->lo<=k/\k < lo + 8
def aqi (d d0 : DevM) (j : Nat) : Prop := d.ok/\d.n = d0.n/\d.st<=d0.st + j/\d.fl<=d0.fl + j/\d.fe<=d0.fe + j/\∀ m r : Nat,2<=m->r < 64->d.b (m * 193 + r) = d0.b (m * 193 + r)
structure CS (c0 : ClkM) (d0 : DevM) (lo j : Nat) (c : ClkM) (d : DevM) (ph : Nat) : Prop where
 t : c.t = c0.t
 ok : c.ok
 now : c.now = c0.now + 1
 N : ∀ k,c.N k = false
 o : ∀ k,c.o k = 0
 dev : aqi d d0 j
 ph : (ph = 0/\c.clos = 0) ∨ (c.clos ≠ 0/\((ph = 1/\j<=8/\∀ k,c.L k = true->lo + j<=k/\k < lo + 8) ∨ (ph = 2/\j<=9) ∨ (ph = 3/\j<=10) ∨ (ph = 4/\j<=11)))
theorem CS.start {c0 : ClkM} {d0 : DevM} {lo : Nat} (hc : c0.ok) (h0 : c0.clos = 0) (h1 : 1<=c0.now) (h2 : c0.now + 1 < 4611686018427387904) (hn : LM c0 lo) (hd : d0.ok) : CS c0 d0 lo 0 c0.start d0 1 := by
 obtain ⟨o1,o2,o3,o4,o5,o6⟩ := hc
 have b0 : U64 (c0.now + 1) := ⟨by omega,h2⟩
 refine { t := rfl,ok := ⟨o1,o2,b0,o4,o3,fun _ => ⟨Int.le_refl 0,show (0 : Int) < 1099511627776 by decide⟩⟩,now := rfl,N := fun _ => rfl,o := fun _ => rfl,dev := ⟨hd,rfl,by omega,by omega,by omega,fun _ _ _ _ => rfl⟩,ph := .inr ⟨by show c0.now ≠ 0; omega,.inl ⟨rfl,Nat.zero_le _,fun k hk => ?_⟩⟩ }
 have := hn k hk
 omega
theorem aqj {d : DevM} {k m r : Nat} (hr : r < 64) : (d.flush k).b (m * 193 + r) = d.b (m * 193 + r) := by
 show (if k * 193 + 128<=m * 193 + r/\m * 193 + r < k * 193 + 192 then _ else _) = _
 exact if_neg (by omega)
theorem aqk {d : DevM} {m r : Nat} (hr : r < 64) : d.fence.b (m * 193 + r) = d.b (m * 193 + r) := by
 show (if (m * 193 + r) / 193 < d.n/\d.s ((m * 193 + r) / 193) = true/\64<=(m * 193 + r) % 193/\(m * 193 + r) % 193 < 128 then _ else _) = _
 exact if_neg (by omega)
theorem CS.next {c0 : ClkM} {d0 : DevM} {lo j : Nat} {c : ClkM} {d : DevM} {ph : Nat} (h : CS c0 d0 lo j c d ph) (hb : d0.st<=1000000000/\d0.fl<=1000000000/\d0.fe<=1000000000) (hj : j < 14) (hn : 1 < d0.n) : wK c d ph (CS c0 d0 lo (j + 1)) := by
 obtain ⟨k1,k2,k3,k4,k5,⟨e1,e2,e3,e4,e5,e6⟩,k7⟩ := h
 have flu : ∀ k,aqi (d.flush k) d0 (j + 1) := fun k => ⟨DevM.zT e1 _ (by omega),e2,by show d.st<=_; omega,by show (if k < d.n then d.fl + 1 else d.fl)<=_; split <;> omega,by show d.fe<=_; omega,fun m r hm hr => by rw [aqj hr]; exact e6 m r hm hr⟩
 have fen : aqi d.fence d0 (j + 1) := ⟨DevM.JR e1 (by omega),e2,by show d.st<=_; omega,by show d.fl<=_; omega,by show d.fe + 1<=_; omega,fun m r hm hr => by rw [aqk hr]; exact e6 m r hm hr⟩
 rcases k7 with ⟨rfl,k7⟩ | ⟨k8,⟨rfl,k7⟩ | ⟨rfl,k7⟩ | ⟨rfl,k7⟩ | ⟨rfl,k7⟩⟩
 ·exact .inl ⟨rfl,k7,k1,k2,k3,k4,k5,⟨e1,e2,by omega,by omega,by omega,e6⟩,.inl ⟨rfl,k7⟩⟩
 ·refine .inr (.inl ⟨rfl,⟨k2,e1,k8,by show 1 < d.n; omega⟩,fun k hk hL hmin => ⟨k1,k2,k3,k4,k5,flu k,.inr ⟨k8,.inl ⟨rfl,?_,fun q hq => ?_⟩⟩⟩,fun hL => ⟨k1,k2,k3,k4,k5,fen,.inr ⟨k8,.inr (.inl ⟨rfl,by omega⟩)⟩⟩⟩)
  ·have := k7.2 k hL; omega
  ·have hq : (if q = k then false else c.L q) = true := hq
   by_cases e : q = k
   ·rw [if_pos e] at hq; cases hq
   ·rw [if_neg e] at hq
    have h1 := k7.2 q hq
    have h2 := k7.2 k hL
    have : ¬ q < k := fun hlt => by rw [hmin q hlt] at hq; cases hq
    omega
 ·refine .inr (.inr (.inl ⟨rfl,⟨k2,e1,k8,by show 1 < d.n; omega⟩,k1,k2,k3,k4,k5,⟨DevM.jf e1 _ _ _ (yu _) (by omega),e2,by show d.st + 1<=_; omega,by show d.fl<=_; omega,by show d.fe<=_; omega,fun m r hm hr => ?_⟩,.inr ⟨k8,.inr (.inr (.inl ⟨rfl,by omega⟩))⟩⟩))
  rw [tZ _ _ _ _ _ hr,if_neg (by omega)]; exact e6 m r hm hr
 ·exact .inr (.inr (.inr (.inl ⟨rfl,⟨k2,e1,k8,by show 1 < d.n; omega⟩,k1,k2,k3,k4,k5,flu 1,.inr ⟨k8,.inr (.inr (.inr ⟨rfl,by omega⟩))⟩⟩)))
 ·exact .inr (.inr (.inr (.inr ⟨rfl,⟨k2,e1,k8,by show 1 < d.n; omega⟩,k1,⟨k2.1,k2.2.1,k2.2.2.1,k2.2.2.2.2.1,⟨Int.le_refl 0,show (0 : Int) < 4611686018427387904 by decide⟩,k2.2.2.2.2.2⟩,k3,k4,k5,fen,.inl ⟨rfl,rfl⟩⟩)))
def ZArn.Zh (a : ZArn) (c : ClkM) (d : DevM) : ZArn := { a with c := c,d := d }
section
variable {a : ZArn} {T M : Nat} {b : Nat->dN}
theorem Base.begin (g : Base a T M b) (hM : M<=1000000) {lo : Nat} (hn : LM a.c lo) : CS a.c a.d lo 0 a.c.start a.d 1 :=
 CS.start g.cok g.clos g.acS (by have := g.VT; omega) hn g.dok
theorem Base.closing (g : Base a T M b) (hM : M<=1000000) {lo j : Nat} (hj : j < 14) {c : ClkM} {d : DevM} {ph : Nat} (h : CS a.c a.d lo j c d ph) : wK c d ph (CS a.c a.d lo (j + 1)) := by
 have := g.dst; have := g.dfl; have := g.dfe; have := g.fit; have := g.pg.1.1
 exact h.next ⟨by omega,by omega,by omega⟩ hj (by omega)
theorem Base.closed (g : Base a T M b) (hM : M<=1000000) {lo : Nat} {c : ClkM} {d : DevM} {ph : Nat} (h : CS a.c a.d lo 14 c d ph) : ph = 0/\Base (a.Zh c d) T (M + 20) b/\(∀ m r : Nat,2<=m->r < 64->d.b (m * 193 + r) = a.d.b (m * 193 + r))/\c.now = a.c.now + 1/\∀ k,c.N k = false := by
 obtain ⟨k1,k2,k3,k4,k5,⟨e1,e2,e3,e4,e5,e6⟩,k7⟩ := h
 have hp : ph = 0/\c.clos = 0 := by
  rcases k7 with k7 | ⟨_,⟨_,k7⟩ | ⟨_,k7⟩ | ⟨_,k7⟩ | ⟨_,k7⟩⟩
  ·exact k7
  all_goals (exfalso; omega)
 have := g.dst; have := g.dfl; have := g.dfe; have := g.acS; have := g.VT
 have gD : Base (a.IB d) T (M + 20) b := g.dev (by omega) e1 e2 (by omega) (by omega) (by omega) (L := 0) (n := 0) (fun m r hm hr _ => e6 m r hm hr) (fun _ _ _ _ => .inr (Nat.zero_le _))
 exact ⟨hp.1,{ gD with cok := k2,ct := by show c.t = T; rw [k1]; exact g.ct,clos := hp.2,acS := by show 1<=c.now; omega,VT := by show c.now<=((M + 20 : Nat) : Int); omega,owed := fun k => by show c.o k<=_; rw [k5]; omega },e6,k3,k4⟩
end
theorem am5 {d d' : DevM} {L n : Nat} {v : ByteArray} (h : dat d L v n) (hL : 2<=L) (hd : ∀ m r : Nat,2<=m->r < 64->d'.b (m * 193 + r) = d.b (m * 193 + r)) : dat d' L v n := fun m r h1 h2 h3 => by
 rw [hd _ _ (by omega) h3]; exact h m r h1 h2 h3
def room (a : ZArn) : Prop := 2<=a.p.n/\∀ i,1<=i->i < a.p.n->a.p.cls i = -1
def spv (v : ByteArray) : Nat := (spn (ned v.size)).toNat
structure IE0 (v : ByteArray) (nw : Int) (M : Nat) (s : ZTs) : Prop where
 base : Base s.a 1 M (fun _ => zB)
 ln0 : s.a.l.n = 0
 n0 : s.a.n = 0
 now : s.a.c.now = nw
 note : ∀ k,s.a.c.N k = false
 val : s.f.value = v
 size : v.size<=400
 code : s.f.code = 0
 had : s.f.had = false
def IE (v : ByteArray) (nw : Int) (n M : Nat) (s : ZTs) (r : Nat) : Prop :=
 IE0 v nw M s/\((s.ph = 0/\s.a.r.has 0 = 0/\s.a.p = gJ 3 3/\r = 1 + (1 + (spv v + (n + 2)))) ∨
  (s.ph = 3/\s.f.epoch = nw/\s.a.p = gJ 3 3/\r = 1 + (spv v + (n + 2))) ∨
  (s.ph = 4/\s.f.epoch = nw/\s.f.cls = ned v.size/\room s.a/\∃ L p : Nat,s.f.line = L/\s.f.piece = p/\p < spv v/\Hold s.a L (ned v.size)/\dat s.a.d L v p/\r = spv v - p + (n + 2)) ∨
  (s.ph = 5/\s.f.epoch = nw/\s.f.cls = ned v.size/\room s.a/\∃ L : Nat,s.f.line = L/\Hold s.a L (ned v.size)/\dat s.a.d L v (spv v)/\r = n + 2))
structure One (v : ByteArray) (nw : Int) (M : Nat) (b : Nat->dN) (a : ZArn) : Prop where
 base : Base a 1 M b
 ln1 : a.l.n = 1
 val : (b 0).value = v
 n1 : a.n = 1
 now : a.c.now = nw
 note : ∃ lo,LM a.c lo
def JE (v : ByteArray) (nw : Int) (M : Nat) (b : Nat->dN) (s : ZTs) (r : Nat) : Prop := One v nw M b s.a/\room s.a/\s.f.code = 0/\s.f.aep = nw/\(s.ph = 6/\r = 1 ∨ s.ph = 7/\r = 0/\s.a.r.has 0 = 0)
def KE (v : ByteArray) (nw : Int) (n M : Nat) (s : ZTs) (r : Nat) : Prop := IE v nw n M s r ∨ n = 0/\∃ b,JE v nw M b s r
theorem anS {v : ByteArray} (h : v.size<=400) : (spv v : Int) = spn (ned v.size)/\1<=spv v/\spv v<=8 := by
 have h1 := KI h
 have := dO (ned v.size)
 unfold spv
 omega
theorem IE0.mono {v : ByteArray} {nw : Int} {M : Nat} {s s' : ZTs} (h : IE0 v nw M s) (ha : Base s'.a 1 (M + 20) (fun _ => zB)) (hl : s'.a.l = s.a.l) (hn : s'.a.n = s.a.n) (hc : s'.a.c = s.a.c) (hv : s'.f.value = s.f.value) (hco : s'.f.code = s.f.code) (hh : s'.f.had = s.f.had) : IE0 v nw (M + 20) s' :=
 ⟨ha,by rw [hl]; exact h.ln0,by rw [hn]; exact h.n0,by rw [hc]; exact h.now,fun k => by rw [hc]; exact h.note k,by rw [hv]; exact h.val,h.size,by rw [hco]; exact h.code,by rw [hh]; exact h.had⟩
theorem akj {c : ClkM} {t : Nat} {L : Nat} (h : ∀ k,c.N k = false) : ∀ n,n<=8->LM (c.notes t (L : Int) n) L
 | 0,_ => fun k hk => by have := h k; rw [show (c.notes t (L : Int) 0).N k = c.N k from rfl,this] at hk; cases hk
 | n + 1,hn => fun k hk => by
  have hk : ((c.notes t (L : Int) n).N k || decide ((L : Int) + n = (k : Nat))) = true := hk
  rw [Bool.or_eq_true] at hk
  rcases hk with hk | hk
  ·exact akj h n (by omega) k hk
  ·have := aQ hk; omega
theorem IE.next {v : ByteArray} {nw : Int} {n M : Nat} {s : ZTs} {r : Nat} (hM : M<=900000) (h : IE v nw n M s r) (hz : s.ph = 5->n = 0) : wE 0 s (fun y => KE v nw n (M + 20) y (r - 1)) := by
 obtain ⟨h0,h⟩ := h
 have g := h0.base
 have hs := h0.size
 have hv := h0.val
 obtain ⟨s1,s2,s3⟩ := anS hs
 have hc := KI hs
 rcases h with ⟨hp,h1,h2,hr⟩ | ⟨hp,h1,h2,hr⟩ | ⟨hp,h1,h2,h3,L,p,h4,h5,h6,h7,h8,hr⟩ | ⟨hp,h1,h2,h3,L,h4,h5,h6,hr⟩
 ·refine .inl ⟨hp,⟨g.rok,g.cok,by show 0 < s.a.r.t; rw [g.rt]; decide,h1⟩,fun h => absurd h (by rw [hv]; omega),fun _ => .inl ⟨h0.mono (g.rW.up (by omega)) rfl rfl rfl rfl rfl rfl,.inr (.inl ⟨rfl,h0.now,h2,by omega⟩)⟩⟩
 ·refine .inr (.inl ⟨hp,⟨g.pg.1,by rw [hv]; exact hs⟩,fun hf => ?_,fun i j ht => ?_⟩)
  ·rw [h2,hv] at hf; exact absurd hf (LK (n := 3) (by decide))
  ·rw [hv] at ht ⊢
   obtain ⟨L,l1,l2,gt,ht2,_⟩ := g.take hc ht
   rw [h2] at ht
   obtain ⟨rfl,rfl⟩ := Hl (n := 3) hc.1 ht
   refine .inl ⟨h0.mono (gt.up (by omega)) rfl rfl rfl rfl rfl rfl,.inr (.inr (.inl ⟨rfl,h1,rfl,⟨?_,fun i h1 h2' => ?_⟩,L,0,l1.symm,rfl,by omega,ht2,fun m r h1 h2 _ => absurd h2 (by omega),by omega⟩))⟩
   ·show 2<=s.a.p.n; rw [h2]; decide
   ·show (if i = 0 then ned v.size else s.a.p.cls i) = -1
    have h2' : i < s.a.p.n := h2'
    rw [if_neg (by omega),h2]
    rw [h2] at h2'
    exact if_pos h2'
 ·have hw := g.write (by omega) h7 (t := 0) (f := s.f) (by rw [hv]; exact hs) (p := p) (by omega)
  obtain ⟨w1,w2,w3,w4⟩ := hw
  rw [← h2] at w1 w2 w3 w4
  refine .inr (.inr (.inl ⟨hp,L,p,?_,w1,fun hne => .inl ⟨h0.mono w2 rfl rfl rfl rfl rfl rfl,.inr (.inr (.inl ⟨rfl,h1,h2,h3,L,p + 1,h4,rfl,by rw [h2] at hne; omega,h7,by rw [hv] at w3; exact w3 h8,by omega⟩))⟩,fun he => .inl ⟨h0.mono w2 rfl rfl rfl rfl rfl rfl,.inr (.inr (.inr ⟨rfl,h1,h2,h3,L,h4,h7,?_,?_⟩))⟩⟩))
  ·show s.f = { s.f with line := (L : Int),cls := s.f.cls,piece := (p : Int) }
   rw [← h4,← h5]
  ·rw [h2] at he
   have : spv v = p + 1 := by omega
   rw [this]; rw [hv] at w3; exact w3 h8
  ·rw [h2] at he; omega
 ·have hn := hz hp
  subst hn
  have hh : Hold s.a L s.f.cls := by rw [h2]; exact h5
  obtain ⟨e1,e2⟩ := g.enq (by omega) (t := 0) (by decide) (f := s.f) hh (by rw [h2,hv]) (by rw [hv]; exact hs) (by rw [h1,h0.now]) (by rw [hv,h2]; exact h6)
  refine .inr (.inr (.inr (.inl ⟨hp,h0.had,L,h4,e1,.inr ⟨rfl,pushB (fun _ => zB) s.a.l.n (s.pb 0 L).chg.blk,⟨e2,?_,?_,?_,?_,⟨L,?_⟩⟩,h3,h0.code,h1,.inl ⟨rfl,by omega⟩⟩⟩)))
  ·show (s.a.l.push _).n = 1
   rw [BX,h0.ln0]
  ·show (pushB (fun _ => zB) s.a.l.n (s.pb 0 L).chg.blk 0).value = v
   unfold pushB
   rw [if_pos h0.ln0.symm]
   exact hv
  ·show s.a.n + 1 = 1
   rw [h0.n0]
  ·show (s.a.c.notes 0 (L : Int) (s.pb 0 L).chg.blk.dA).now = nw
   rw [kN]; exact h0.now
  ·exact akj h0.note _ (jm _).1
theorem One.rW {v : ByteArray} {nw : Int} {M : Nat} {b : Nat->dN} {a : ZArn} (h : One v nw M b a) {t : Nat} {x : Int} : One v nw (M + 20) b (a.rW t x) := ⟨h.base.rW.up (by omega),h.ln1,h.val,h.n1,h.now,h.note⟩
theorem KE.next {v : ByteArray} {nw : Int} {n M : Nat} {s : ZTs} {r : Nat} (hM : M<=900000) (h : KE v nw n M s r) (hz : s.ph = 5->n = 0) (h7 : s.ph ≠ 7) : wE 0 s (fun y => KE v nw n (M + 20) y (r - 1)) := by
 rcases h with h | ⟨hn,b,h1,hro,h2,h3,h4⟩
 ·exact h.next hM hz
 ·rcases h4 with ⟨hp,hr⟩ | ⟨hp,_⟩
  ·exact .inr (.inr (.inr (.inr (.inr (.inl ⟨hp,⟨h1.base.rok,by rw [h1.base.rt]; decide⟩,.inr ⟨hn,b,h1.rW,hro,h2,h3,.inr ⟨rfl,by omega,show (if 0 = 0 then (0 : Int) else s.a.r.has 0) = 0 from if_pos rfl⟩⟩⟩)))))
  ·exact absurd hp h7
theorem KE.closed {v : ByteArray} {nw : Int} {n M : Nat} {s : ZTs} {r : Nat} (hM : M<=900000) (h : KE v nw (n + 1) M s r) (h5 : s.ph = 5) : ∃ lo,LM s.a.c lo/\∃ b,Base s.a 1 M b/\s.a.n = 0/\∀ c d ph,CS s.a.c s.a.d lo 14 c d ph->ph = 0/\wE 0 ⟨s.a.Zh c d,s.f,5⟩ (fun y => KE v (nw + 1) n (M + 40) y (r - 1)) := by
 rcases h with ⟨h0,h⟩ | ⟨hn,_⟩
 ·rcases h with ⟨hp,_⟩ | ⟨hp,_⟩ | ⟨hp,_⟩ | ⟨hp,h1,h2,h3,L,h4,h5',h6,hr⟩
  ·omega
  ·omega
  ·omega
  ·refine ⟨0,fun k hk => by (have := h0.note k; rw [this] at hk; cases hk),fun _ => zB,h0.base,h0.n0,fun c d ph hcs => ?_⟩
   obtain ⟨c1,c2,c3,c4,c5⟩ := h0.base.closed (by omega) hcs
   have hf := h5'.fits h0.base
   refine ⟨c1,.inr (.inr (.inr (.inr (.inl ⟨rfl,h0.had,⟨c2.cok,by show 0 < c.t; rw [show c.t = 1 from c2.ct]; decide,?_,by show 0<=s.f.line; omega⟩,.inl ⟨⟨c2.up (by omega),h0.ln0,h0.n0,?_,c5,h0.val,h0.size,h0.code,h0.had⟩,.inr (.inr (.inr ⟨rfl,?_,h2,h3,L,h4,h5',am5 h6 hf.1 c3,by omega⟩))⟩⟩))))⟩
   ·show c.now ≠ s.f.epoch
    rw [c4,h1,h0.now]; omega
   ·show c.now = nw + 1
    rw [c4,h0.now]
   ·show c.now = nw + 1
    rw [c4,h0.now]
 ·omega
end Go.Proofs.YtenfleoejgjklaaGreat
end
section
namespace Go.Proofs.YtenfleoejgjklaaGreat
open Go SE
set_option linter.unusedSimpArgs false
def uO (sb : Nat) : Nat->Nat
 | 0 => 2
 | n + 1 => uO sb n + (2 + sb)
theorem acV {sb : Nat} (h : sb<=8) : ∀ n,uO sb n<=2 + 10 * n
 | 0 => aX _
 | n + 1 => by have := acV h n; show uO sb n + (2 + sb)<=_; omega
def Held (s : ZTs) (E : Nat) : Prop := (s.f.line = -1/\room s.a/\E = 2) ∨ (s.f.cls = 0/\(∃ L : Nat,s.f.line = L/\Hold s.a L 0)/\E = 0)
structure ID0 (v : ByteArray) (nw : Int) (M : Nat) (b : Nat->dN) (s : ZTs) : Prop where
 one : One v nw M b s.a
 fv : s.f.value.size = 0
 code : s.f.code = 0
def ID (v : ByteArray) (nw : Int) (n M : Nat) (b : Nat->dN) (s : ZTs) (m r : Nat) : Prop :=
 ID0 v nw M b s/\(
  (s.ph = 0/\m = 0/\s.a.r.has 0 = 0/\s.f.line = -1/\room s.a/\r = 1 + (1 + (b 0).dA + 2 + uO (b 0).dA n)) ∨
  (s.ph = 1/\m = 0/\s.f.epoch = nw/\∃ E,Held s E/\r = 1 + (b 0).dA + E + uO (b 0).dA n) ∨
  (s.ph = 2/\m < (b 0).dA/\s.f.epoch = nw/\s.f.had = true/\s.f.old = s.a.l.head/\s.f.piece = m/\∃ E,Held s E/\r = (b 0).dA - m + E + uO (b 0).dA n) ∨
  (s.ph = 3/\m = 0/\s.f.epoch = nw/\s.f.had = true/\s.f.old = s.a.l.head/\s.f.ans = v/\room s.a/\r = 2 + uO (b 0).dA n) ∨
  (s.ph = 4/\m = 0/\s.f.epoch = nw/\s.f.had = true/\s.f.old = s.a.l.head/\s.f.ans = v/\s.f.cls = 0/\s.f.piece = 0/\(∃ L : Nat,s.f.line = L/\Hold s.a L 0)/\r = 1 + uO (b 0).dA n) ∨
  (s.ph = 5/\m = 0/\s.f.epoch = nw/\s.f.had = true/\s.f.old = s.a.l.head/\s.f.ans = v/\s.f.cls = 0/\(∃ L : Nat,s.f.line = L/\Hold s.a L 0)/\r = uO (b 0).dA n))
def JD (v : ByteArray) (nw : Int) (M : Nat) (b : Nat->dN) (s : ZTs) (r : Nat) : Prop := Base s.a 1 M b/\s.a.l.n = 0/\s.a.n = 2/\s.f.code = 0/\s.f.aep = nw/\s.f.ans = v/\(s.ph = 6/\r = 1 ∨ s.ph = 7/\r = 0)
def KD (v : ByteArray) (nw : Int) (n M : Nat) (b : Nat->dN) (s : ZTs) (m r : Nat) : Prop := ID v nw n M b s m r ∨ (n = 0/\m = 0/\JD v nw M (fun i => b (i + 1)) s r)
theorem One.up {v : ByteArray} {nw : Int} {M : Nat} {b : Nat->dN} {a : ZArn} (h : One v nw M b a) : One v nw (M + 20) b a := ⟨h.base.up (by omega),h.ln1,h.val,h.n1,h.now,h.note⟩
theorem ID.next {v : ByteArray} {nw : Int} {n M : Nat} {b : Nat->dN} {s : ZTs} {m r : Nat} (hM : M<=900000) (h : ID v nw n M b s m r) (hz : s.ph = 5->n = 0) : wD 0 (b 0) m s (fun m' y => KD v nw n (M + 20) b y m' (r - 1)) := by
 obtain ⟨h0,h⟩ := h
 have o := h0.one
 have g := o.base
 have hl1 := o.ln1
 obtain ⟨ln,q1,⟨q2,q3,q4,q5,q6⟩,q7⟩ := g.q 0 (by omega)
 have hhd : s.a.l.head = ⟨⟨#[]⟩,(b 0).id,(b 0).ver,ln,(b 0).cls⟩ := by rw [Qo (by omega)]; exact q1
 obtain ⟨sb8,sbi⟩ := jm (b 0)
 have sb1 : 1<=(b 0).dA := qg q3
 have hc0 : (0 : Int)<=0/\(0 : Int)<=3 := by decide
 rcases h with ⟨hp,hm,h1,h2,h3,hr⟩ | ⟨hp,hm,h1,E,h2,hr⟩ | ⟨hp,hm,h1,h2,h3,h4,E,h5,hr⟩ | ⟨hp,hm,h1,h2,h3,h4,h5,hr⟩ | ⟨hp,hm,h1,h2,h3,h4,h5,h6,⟨L,h7,h8⟩,hr⟩ | ⟨hp,hm,h1,h2,h3,h4,h5,⟨L,h6,h7⟩,hr⟩
 ·exact .inl ⟨hp,hm,⟨g.rok,g.cok,by rw [g.rt]; decide,h1⟩,.inl ⟨⟨o.rW,h0.fv,h0.code⟩,.inr (.inl ⟨rfl,rfl,o.now,2,.inl ⟨h2,h3,rfl⟩,by omega⟩)⟩⟩
 ·exact .inr (.inl ⟨hp,hm,⟨g.lok,fun h => absurd h (by omega)⟩,fun h => absurd h (by omega),fun _ => .inl ⟨⟨o.up,h0.fv,h0.code⟩,.inr (.inr (.inl ⟨rfl,sb1,h1,rfl,rfl,rfl,E,h2,by omega⟩))⟩⟩)
 ·refine .inr (.inr (.inr (.inl ⟨hp,ln,?_,⟨q2,q3,q4,q5,by show (m : Int) < spn (b 0).cls; omega,q6⟩,fun hne => .inl ⟨⟨o.up,h0.fv,h0.code⟩,.inr (.inr (.inl ⟨rfl,by omega,h1,h2,h3,rfl,E,h5,by omega⟩))⟩,fun he => .inl ⟨⟨o.up,h0.fv,h0.code⟩,?_⟩⟩)))
  ·show s.f = { s.f with had := true,old := ⟨⟨#[]⟩,(b 0).id,(b 0).ver,(ln : Int),(b 0).cls⟩,piece := (m : Int) }
   rw [← hhd,← h2,← h3,← h4]
  ·rcases h5 with ⟨h5,h6,rfl⟩ | ⟨h5,⟨L,h6,h7⟩,rfl⟩
   ·exact .inr (.inr (.inr (.inl ⟨by show (if s.f.line < 0 then (3 : Int) else 5) = 3; rw [h5]; rfl,rfl,h1,h2,h3,o.val,h6,by omega⟩)))
   ·exact .inr (.inr (.inr (.inr (.inr ⟨by show (if s.f.line < 0 then (3 : Int) else 5) = 5; rw [if_neg (by omega)],rfl,h1,h2,h3,o.val,h5,⟨L,h6,h7⟩,by omega⟩))))
 ·refine .inr (.inr (.inr (.inr (.inl ⟨hp,hm,⟨g.pg.1,by rw [h0.fv]; decide⟩,fun hf => absurd (h5.2 1 (aX _) h5.1) (hf 1 h5.1).1,fun i j ht => ?_⟩))))
  obtain ⟨L,l1,l2,gt,ht2,_⟩ := g.take hc0 ht
  exact .inl ⟨⟨⟨gt.up (by omega),hl1,o.val,o.n1,o.now,o.note⟩,h0.fv,h0.code⟩,.inr (.inr (.inr (.inr (.inl ⟨rfl,rfl,h1,h2,h3,h4,rfl,rfl,⟨L,l1.symm,ht2⟩,by omega⟩))))⟩
 ·obtain ⟨w1,w2,_,_⟩ := g.write (by omega) h8 (t := 0) (f := s.f) (by rw [h0.fv]; decide) (p := 0) (by decide)
  refine .inr (.inr (.inr (.inr (.inr (.inl ⟨hp,hm,h5,L,?_,w1,.inl ⟨⟨⟨w2,hl1,o.val,o.n1,o.now,o.note⟩,h0.fv,h0.code⟩,.inr (.inr (.inr (.inr (.inr ⟨rfl,rfl,h1,h2,h3,h4,h5,⟨L,h7,h8⟩,by omega⟩))))⟩⟩)))))
  show s.f = { s.f with line := (L : Int),cls := 0,piece := ((0 : Nat) : Int) }
  rw [← h7,show ((0 : Nat) : Int) = s.f.piece from h6.symm,show (0 : Int) = s.f.cls from h5.symm]
 ·have hn := hz hp
  subst hn
  obtain ⟨e1,e2⟩ := g.deq (by omega) (t := 0) (by decide) (f := s.f) h7 h5 (by omega) h3 (by rw [h1,o.now])
  refine .inr (.inr (.inr (.inr (.inr (.inr (.inl ⟨hp,hm,h2,L,h6,e1,.inr ⟨rfl,rfl,e2,?_,?_,h0.code,h1,h4,.inl ⟨rfl,?_⟩⟩⟩))))))
  ·show s.a.l.pop.n = 0
   rw [arY (by omega),hl1]
  ·show s.a.n + 1 = 2
   rw [o.n1]
  ·have : uO (b 0).dA 0 = 2 := rfl
   omega
theorem KD.next {v : ByteArray} {nw : Int} {n M : Nat} {b : Nat->dN} {s : ZTs} {m r : Nat} (hM : M<=900000) (h : KD v nw n M b s m r) (hz : s.ph = 5->n = 0) (h7 : s.ph ≠ 7) : wD 0 (b 0) m s (fun m' y => KD v nw n (M + 20) b y m' (r - 1)) := by
 rcases h with h | ⟨hn,hm,h1,h2,h3,h4,h5,h6,hp⟩
 ·exact h.next hM hz
 ·rcases hp with ⟨hp,hr⟩ | ⟨hp,_⟩
  ·exact .inr (.inr (.inr (.inr (.inr (.inr (.inr (.inr (.inl ⟨hp,hm,⟨h1.rok,by rw [h1.rt]; decide⟩,.inr ⟨hn,rfl,h1.rW.up (by omega),h2,h3,h4,h5,h6,.inr ⟨rfl,by omega⟩⟩⟩))))))))
  ·exact absurd hp h7
theorem KD.closed {v : ByteArray} {nw : Int} {n M : Nat} {b : Nat->dN} {s : ZTs} {m r : Nat} (hM : M<=900000) (h : KD v nw (n + 1) M b s m r) (h5 : s.ph = 5) : m = 0/\∃ lo,LM s.a.c lo/\Base s.a 1 M b/\s.a.n ≠ 0/\∀ c d ph,CS s.a.c s.a.d lo 14 c d ph->ph = 0/\wD 0 (b 0) 0 ⟨s.a.Zh c d,s.f,5⟩ (fun m' y => KD v (nw + 1) n (M + 40) b y m' (r - 1)) := by
 rcases h with ⟨h0,h⟩ | ⟨hn,_⟩
 ·rcases h with ⟨hp,_⟩ | ⟨hp,_⟩ | ⟨hp,_⟩ | ⟨hp,_⟩ | ⟨hp,_⟩ | ⟨hp,hm,h1,h2,h3,h4,h6,⟨L,h7,h8⟩,hr⟩
  ·omega
  ·omega
  ·omega
  ·omega
  ·omega
  ·have o := h0.one
   obtain ⟨lo,hlo⟩ := o.note
   refine ⟨hm,lo,hlo,o.base,by rw [o.n1]; decide,fun c d ph hcs => ?_⟩
   obtain ⟨c1,c2,c3,c4,c5⟩ := o.base.closed (by omega) hcs
   have amQ := o.now
   refine ⟨c1,.inr (.inr (.inr (.inr (.inr (.inr (.inr (.inl ⟨rfl,rfl,h2,⟨c2.cok,c2.lok,by show 0 < c.t; rw [show c.t = 1 from c2.ct]; decide,.inl ?_,by show 0<=s.f.line; omega⟩,.inl ⟨⟨⟨c2.up (by omega),o.ln1,o.val,o.n1,?_,0,fun k hk => ?_⟩,h0.fv,h0.code⟩,.inr (.inl ⟨rfl,rfl,?_,0,.inr ⟨h6,⟨L,h7,h8⟩,rfl⟩,?_⟩)⟩⟩)))))))⟩
   ·show c.now ≠ s.f.epoch
    rw [c4,h1,amQ]; omega
   ·show c.now = nw + 1
    rw [c4,amQ]
   ·have hk : c.N k = true := hk
    rw [c5 k] at hk; cases hk
   ·show c.now = nw + 1
    rw [c4,amQ]
   ·have : uO (b 0).dA (n + 1) = uO (b 0).dA n + (2 + (b 0).dA) := rfl
    omega
 ·omega
end Go.Proofs.YtenfleoejgjklaaGreat
end
section
namespace Go.Proofs.YtenfleoejgjklaaGreat
open Go SE
def pOf : AV->Nat
 | .ptr i _ => i
 | _ => 0
def lN (h : Heap) (i : Nat) : List Nat := match h.get i with
 | some (.cells _ (.av [d0,p,r,c,b,t,o,l,_,_,ef])) => match h.get (pOf d0) with
  | some (.cells _ (.av (d :: _))) => [i,pOf d0,pOf d,pOf p,pOf r,pOf c,pOf b,pOf t,pOf o,pOf l] ++ (match ef with
   | .slW j _ _ _ => [j]
   | _ => [])
  | _ => []
 | _ => []
def ar8 (a : ZArn) (ids : List Nat) (h : Heap) : Prop := bif Nat.beq ids.length 10 then a.n = 0/\Em (atL ids) 10 h 0 a.osN else a.n ≠ 0/\Em (atL ids) 11 h 0 a.osP
def akk (A : Own) (ids : List Nat) (h : Heap) : Heap := (ade ids h).set (atL ids 0) (.abs A)
def isAbs : Option bZ->Bool
 | some (.abs _) => true
 | _ => false
noncomputable def aql (T : WTr) : WTr := fun args h K => match args with
 | .ptr i z :: r => bif isAbs (h.get i) then T (.ptr i z :: r) h K else
  bif Hz 0 (lN h i) (lN h i).length && (Nat.beq (lN h i).length 10 || Nat.beq (lN h i).length 11) then ∃ a : ZArn,ar8 a (lN h i) h/\T (.ptr i z :: r) (akk (ownM a.os) (lN h i) h) K else False
 | _ => False
theorem am6 {P : Program} {f : FuncId} {T : WTr} (hT : ∀ args h K,T args h K->Sp P f args h K) (args : List AV) (h : Heap) (K : AV->Heap->Prop) (hq : aql T args h K) : Sp P f args h K := by
 unfold aql at hq
 split at hq
 ·rename_i i z r
  cases ha : isAbs (h.get i) <;> rw [ha] at hq
  ·generalize lN h i = ids at hq
   cases hb : (Hz 0 ids ids.length && (Nat.beq ids.length 10 || Nat.beq ids.length 11)) <;> rw [hb] at hq
   ·exact hq.elim
   ·simp only [aI,Bool.or_eq_true] at hb
    obtain ⟨b1,b2⟩ := hb
    obtain ⟨a,hs,hq⟩ := hq
    unfold ar8 at hs
    cases hl : Nat.beq ids.length 10 <;> rw [hl] at hs
    ·have hl : ids.length = 11 := by
      rcases b2 with b2 | b2
      ·rw [b2] at hl; cases hl
      ·exact ak b2
     rw [hl] at b1
     refine Rt (Φ := fun h => h = hOf a.osP) 11 ids a.osP rfl rfl b1 rfl hs.2 (hT _ _ _ ?_)
     have e : qV (fun h => h = hOf a.osP) ids h = akk (ownM a.os) ids h := by
      unfold qV akk; rw [Nc,qh hs.1]; rfl
     rw [e]; exact hq
    ·have hl : ids.length = 10 := ak hl
     rw [hl] at b1
     refine Rt (Φ := fun h => h = hOf a.osN) 10 ids a.osN rfl rfl b1 rfl hs.2 (hT _ _ _ ?_)
     have e : qV (fun h => h = hOf a.osN) ids h = akk (ownM a.os) ids h := by
      unfold qV akk; rw [Nc,zU hs.1]; rfl
     rw [e]; exact hq
  ·exact hT _ _ _ hq
 ·exact hq.elim
end Go.Proofs.YtenfleoejgjklaaGreat
end
section
namespace Go.Proofs.YtenfleoejgjklaaGreat
open Go SE
structure ZWk where
 c : ClkM
 d : DevM
 ph : Nat
 q : ClkM->DevM->Nat->Prop
structure ZWk2 where
 c : ClkM
 d : DevM
 ph : Nat
 u : Int
 v : Int
noncomputable def ar9 : Ctr := { X := ZWk,args := fun _ => [.ptr 0 0,.ptr 1 0],k := 2,os := fun x => [.abs (ownM (x.c.os x.ph)),.abs (ownM x.d.os)],pre := fun x => Hd (wK x.c x.d x.ph x.q),outs := [{ Y := ZWk2,post := fun x y => Hd (x.q y.c y.d y.ph),ret := fun _ y => .tup [i64 y.u,i64 y.v],m := 2,os := fun _ y => [.abs (ownM (y.c.os y.ph)),.abs (ownM y.d.os)] }] }
theorem am7 : bU Tryz.prog 24 ar9 := oJ fun x hx => by
 obtain ⟨c,d,ph,q⟩ := x
 rcases aY.1 hx with ⟨hp,h,q1⟩ | ⟨hp,h,q1,q2⟩ | ⟨hp,h,q1⟩ | ⟨hp,h,q1⟩ | ⟨hp,h,q1⟩
 all_goals (have hp : ph = _ := hp; subst hp)
 ·refine ⟨_,ajG,rfl,⟨c,d,0⟩,aY.2 h,rfl,rfl,fun v h' hh => ?_⟩
  obtain ⟨y,h0,e1,e2⟩ := kC hh
  exact eP ⟨⟨c,d,0,0,12⟩,aY.2 q1,e1,e2⟩
 ·refine ⟨_,ajC,rfl,⟨c,d,1⟩,aY.2 h,rfl,rfl,fun v h' hh => ?_⟩
  rcases qx hh with ⟨y,h0,e1,e2⟩ | ⟨y,h0,e1,e2⟩
  ·have h0 := aY.1 h0
   exact eP ⟨⟨c.aal y,d.flush y,1,1,0⟩,aY.2 (q1 y h0.1 h0.2.1 h0.2.2),e1,e2⟩
  ·have h0 := aY.1 h0
   exact eP ⟨⟨c,d.fence,2,2,0⟩,aY.2 (q2 h0),e1,e2⟩
 ·refine ⟨_,ajD,rfl,⟨c,d,2⟩,aY.2 h,rfl,rfl,fun v h' hh => ?_⟩
  obtain ⟨y,h0,e1,e2⟩ := kC hh
  exact eP ⟨⟨c,d.store 1 0 64 (iK c.clos),3,3,0⟩,aY.2 q1,e1,e2⟩
 ·refine ⟨_,ajE,rfl,⟨c,d,3⟩,aY.2 h,rfl,rfl,fun v h' hh => ?_⟩
  obtain ⟨y,h0,e1,e2⟩ := kC hh
  exact eP ⟨⟨c,d.flush 1,4,1,0⟩,aY.2 q1,e1,e2⟩
 ·refine ⟨_,ajF,rfl,⟨c,d,4⟩,aY.2 h,rfl,rfl,fun v h' hh => ?_⟩
  obtain ⟨y,h0,e1,e2⟩ := kC hh
  exact eP ⟨⟨c.fin,d.fence,0,2,0⟩,aY.2 q1,e1,e2⟩
structure ZLow where
 z : Int
 m : Nat
noncomputable def lowC : Ctr := { X := ZLow,args := fun x => [i64 x.z,i64 x.m],k := 0,os := fun _ => [],pre := fun x => Hd (1<=x.m/\x.m<=1000),outs := [{ Y := Nat,post := fun x k => Hd (k < x.m),ret := fun _ k => i64 k,m := 0,os := fun _ _ => [] }] }
noncomputable def asa : jd := { X := ZArn,args := fun _ => [.ptr 0 0],k := 1,l := fun a => [.m a.osP],pre := fun a => Hd (a.n ≠ 0/\a.n < 1099511627776),outs := [{ Y := Unit,post := fun _ _ => True,ret := fun a _ => .slW 1 0 7 a.n,m := 2,l := fun a _ => [.m a.osP,.o (.room 95 (.row 7 a.n (fun i => (a.e i).cs) []))] }] }
def is5 (h : Heap) : Bool := match cellAt h 5 0 with
 | some (.lit (.int .i64 z)) => decide (z = 5)
 | _ => false
noncomputable def clockT : WTr := fun args h K => match args with
 | [.ptr i z] => bif isAbs (h.get i) then (bif is5 h then ctrT (wM ZArn.osP 11 5).ctr else ctrT (wM ZArn.osN 10 5).ctr) [.ptr i z] h K else wpF Tryz.prog [] tt arL 200 6 22 [.ptr i z] h K
 | _ => False
noncomputable def akl : WTr := fun args h K => match args with
 | [a,t,.agg l] => (bif decide (intL l 0 = 4) then ctrT ajv else bif hasB l then ctrT anP else ctrT anO) [a,t,.agg l] h K
 | _ => False
theorem akm (args : List AV) (h : Heap) (K : AV->Heap->Prop) (hq : akl args h K) : Sp Tryz.prog 19 args h K := by
 unfold akl at hq
 split at hq
 ·exact ny _ (bM am1) (ny _ (bM akc) (bM akb)) _ _ _ hq
 ·exact hq.elim
noncomputable def stepG : WTr := aql akl
structure ZEpX where
 many : Int
 v : ByteArray
structure ZEp where
 s : ZTs
 n : Nat
 now : Nat
 k : Nat
 b : Nat->dN
 m : Nat
 r : Nat
def akn (fr : Fr) : Nat := match SE.look fr 10 with
 | .ptr j _ => j
 | _ => 0
def acW (fr : Fr) (h : Heap) : Int := match cellAt h (akn fr) 0 with
 | some (.lit (.int _ z)) => z
 | _ => -1
def asb (fr : Fr) (h : Heap) : Bool := match cellAt h (akn fr) 19 with
 | some (.slW _ _ _ _) => true
 | _ => false
structure ZGh where
 c : ClkM
 d : DevM
 lo : Nat
structure ZEj where
 c : ClkM
 d : DevM
 ph : Nat
 j : Nat
noncomputable def annEj (h : Heap) : LGh := { G := ZGh,forms := fun g => [{ σ := ZEj,fr := fun s => [(13,i64 s.j)],ob := fun s => [((lN h 0).getD 5 0,some (.abs (ownM (s.c.os s.ph)))),((lN h 0).getD 2 0,some (.abs (ownM s.d.os)))],inv := fun s => Hd (s.j<=14/\CS g.c g.d g.lo s.j s.c s.d s.ph),meas := fun s => 14 - s.j }] }
noncomputable def annEp (x : ZEpX) : FuncId->vK := fun f => bif Nat.beq f 4 then (fun b fr h => bif Nat.beq b 4 then (annEj h).an else bif Nat.beq b 2 then (bif decide (acW fr h = 4) then [
 { σ := ZEp,fr := fun s => [(12,i64 s.k),(11,i64 s.n),(8,u64 s.now)],ob := fun s => [(0,some (.abs (ownM s.s.a.os))),(akn fr,some (arX s.s.f 4 s.s.ph fJ))],inv := fun s => Hd (s.n<=6/\KE x.v s.now s.n (40 * s.k + 10) s.s s.r/\s.k + s.r<=199),meas := fun s => 200 - s.k,test := fun fr h => decide (acW fr h = 4) }] else [
 { σ := ZEp,fr := fun s => [(12,i64 s.k),(11,i64 s.n),(8,u64 s.now)],ob := fun s => [(0,some (.abs (ownM s.s.a.os))),(akn fr,some (arX s.s.f 5 s.s.ph fJ))],inv := fun s => Hd (s.n<=6/\KD x.v s.now s.n (40 * (200 + s.k) + 10) s.b s.s 0 s.r/\s.k + s.r<=199),meas := fun s => 200 - s.k,test := fun fr h => decide (acW fr h = 5) && !asb fr h },
 { σ := ZEp,fr := fun s => [(12,i64 s.k),(11,i64 s.n),(8,u64 s.now)],ob := fun s => [(0,some (.abs (ownM s.s.a.os))),(akn fr,some (arX s.s.f 5 2 (.slW h.next 0 1 (64 * s.m)))),(h.next,some (Ir (s.b 0).enc (64 * s.m)))],nx := 1,inv := fun s => Hd (s.n<=6/\s.m ≠ 0/\s.s.ph = 2/\KD x.v s.now s.n (40 * (200 + s.k) + 10) s.b s.s s.m s.r/\s.k + s.r<=199),meas := fun s => 200 - s.k,test := fun fr h => decide (acW fr h = 5) && asb fr h }]) else []) else fun _ _ _ => []
noncomputable def anT : WTbl := tblL ++ [(14,ctrT lowC),(17,beginT),(19,stepG),(22,clockT),(23,ctrT beginP.ctr),(24,ctrT ar9)]
noncomputable def asc : WTbl := anT ++ [(26,ctrT asa.ctr),(20,ctrT (wM ZArn.osP 11 9).ctr),(21,ctrT aaL.ctr)]
end Go.Proofs.YtenfleoejgjklaaGreat
end
section
namespace Go.Proofs.YtenfleoejgjklaaGreat
open Go SE
def iF : Prop := Value.slice none 0 0 = Value.slice none 0 0
def Vz (a : ZFr) (b : ZFr) : Prop := (0 : Int) = 0/\iF/\a.code = b.code/\a.found = b.found/\a.ans = b.ans/\iF/\iF/\a.aep = b.aep/\True
def jW : Prop := ByteArray.mk #[] = ByteArray.mk #[]
def zi (a : ZTs) (b : ZTs) : Prop := a.f.key = b.f.key/\a.f.value = b.f.value/\jW/\iF/\a.ph = b.ph/\a.f.epoch = b.f.epoch/\jW/\false = false/\(0 : Int) = 0/\a.f.had = b.f.had/\a.f.old.key = b.f.old.key/\a.f.old.id = b.f.old.id/\a.f.old.ver = b.f.old.ver/\a.f.old.line = b.f.old.line/\a.f.old.cls = b.f.old.cls/\a.f.line = b.f.line/\a.f.cls = b.f.cls/\a.f.piece = b.f.piece/\iF/\Vz a.f b.f
def LP (a : ZArn) (b : ZArn) : Prop := ownM a.os = ownM b.os/\True
def ae7 (a : ZTs) : Prop := a.f.key = a.f.key/\a.f.value = a.f.value/\jW/\iF/\a.ph = a.ph/\a.f.epoch = a.f.epoch/\jW/\false = false/\(0 : Int) = 0/\a.f.had = a.f.had/\a.f.old.key = a.f.old.key/\a.f.old.id = a.f.old.id/\a.f.old.ver = a.f.old.ver/\a.f.old.line = a.f.old.line/\a.f.old.cls = a.f.old.cls/\a.f.line = a.f.line/\a.f.cls = a.f.cls/\a.f.piece = a.f.piece/\iF/\(0 : Int) = 0/\iF/\a.f.code = a.f.code/\a.f.found = a.f.found/\a.f.ans = a.f.ans/\iF/\iF/\a.f.aep = a.f.aep/\True
def ako : Prop := jW/\iF/\True
def LQ : Prop := (5 : Int) = 5/\jW/\jW/\ako
def VA (a : ByteArray) : Prop := (4 : Int) = 4/\jW/\a = a/\jW/\iF/\LQ
def VB (a : ByteArray) : Prop := (4 : Int) = 4/\jW/\a = a/\ako
def VD (a : ByteArray) (b : ZArn) (c : ZArn) : Prop := VA a/\LQ/\VB a/\LP b c
def VE (a : ZTs) (b : ByteArray) (c : ZArn) (d : ZArn) : Prop := ((4 : Int) = 4/\ae7 a)/\VD b c d
def akp (a : ZEp) (b : ZTs) (c : ZTs) (d : ByteArray) : Prop := ((5 : Int) = 5/\a.s.f.key = b.f.key/\a.s.f.value = b.f.value/\jW/\iF/\(2 : Int) = 2/\a.s.f.epoch = b.f.epoch/\jW/\false = false/\(0 : Int) = 0/\a.s.f.had = b.f.had/\a.s.f.old.key = b.f.old.key/\a.s.f.old.id = b.f.old.id/\a.s.f.old.ver = b.f.old.ver/\a.s.f.old.line = b.f.old.line/\a.s.f.old.cls = b.f.old.cls/\a.s.f.line = b.f.line/\a.s.f.cls = b.f.cls/\a.s.f.piece = b.f.piece/\(0 = 0/\64 * a.m = 64)/\Vz a.s.f b.f)/\VE c d a.s.a b.a
def acX (a : ZEp) (b : ZEp) : Prop := (a.k : Int) = (b.k : Int) + 1/\(a.n : Int) = (b.n : Int) - 1/\(a.now : Int) = IntKind.wrap .u64 ((b.now : Int) + 1)/\True
def VF (a : ZEp) (b : ByteArray) : Prop := Hd (a.n<=6/\@KD b (a.now : Int) a.n (40 * (200 + a.k) + 10) a.b a.s 0 a.r/\a.k + a.r<=199)
def vC (a : Nat) : Prop := I64 ((a : Int) + 1)
def VG (a : ZEp) (b : ZEp) : Prop := (a.k : Int) = (b.k : Int) + 1/\(a.n : Int) = (b.n : Int)/\(a.now : Int) = (b.now : Int)/\True
def akq (a : ZWd) (b : ZEp) (c : ByteArray) (d : ZTs) : Prop := ∀ y_3 : ZTs,Hd (a.q 0 y_3)->vC b.k/\∃ s_2 : ZEp,VF s_2 c/\200 - s_2.k < 200 - b.k/\VG s_2 b/\((5 : Int) = 5/\zi s_2.s y_3)/\VE d c s_2.s.a y_3.a
def akr (a : ZTs) (b : ZTs) (c : ByteArray) (d : ZArn) : Prop := (0 = 0/\(1 : Int) = 1/\(0 : Int) = 0/\(0 : Int) = 0/\True)/\((5 : Int) = 5/\ae7 a)/\((4 : Int) = 4/\ae7 b)/\VA c/\LQ/\VB c/\(0 = 0/\0 = 0/\0 = 0/\0 = 0/\0 = 0/\0 = 0/\0 = 0/\0 = 0/\d.id = d.id/\d.ver = d.ver/\(0 = 0/\d.n = d.n)/\True)/\True
def VH (a : ZEp) (b : ByteArray) : Prop := Hd (a.n<=6/\a.m ≠ 0/\a.s.ph = 2/\@KD b (a.now : Int) a.n (40 * (200 + a.k) + 10) a.b a.s a.m a.r/\a.k + a.r<=199)
def aks (a : ZArn) : Prop := a.n = a.n/\∀ q : Nat,q < a.n->[Value.int .i64 (eY.kind (a.e q)),Value.string (eY.key (a.e q)),Value.string (eY.value (a.e q)),Value.int .u64 (eY.id (a.e q)),Value.int .u64 (eY.ver (a.e q)),Value.int .u64 (eY.epoch (a.e q)),Value.int .i64 (eY.group (a.e q))] = [Value.int .i64 (eY.kind (a.e q)),Value.string (eY.key (a.e q)),Value.string (eY.value (a.e q)),Value.int .u64 (eY.id (a.e q)),Value.int .u64 (eY.ver (a.e q)),Value.int .u64 (eY.epoch (a.e q)),Value.int .i64 (eY.group (a.e q))]
def akt : Prop := true = true/\false = false/\some (bZ.cells (255 : @TypeId) (Cs.av [AV.lit (Value.slice none 0 0),AV.lit (Value.slice none 0 0),AV.lit (Value.slice none 0 0),AV.lit (Value.slice none 0 0)])) = some (bZ.cells (255 : @TypeId) (Cs.av [AV.lit (Value.slice none 0 0),AV.lit (Value.slice none 0 0),AV.lit (Value.slice none 0 0),AV.lit (Value.slice none 0 0)]))
def aku (a : ZTs) : Prop := jW/\iF/\a.ph = 0/\a.f.epoch = 0/\jW/\false = false/\(0 : Int) = 0/\a.f.had = false/\a.f.old.key = ByteArray.mk #[]/\a.f.old.id = 0/\a.f.old.ver = 0/\a.f.old.line = 0/\a.f.old.cls = 0/\a.f.line = (-(1 : Int))/\a.f.cls = 0/\a.f.piece = 0/\iF/\(0 : Int) = 0/\iF/\a.f.code = 0/\a.f.found = false/\a.f.ans = ByteArray.mk #[]/\iF/\iF/\a.f.aep = 0/\True
def acY (a : ZEp) (b : dN) : Prop := ∀ q : Nat,q < 64 * a.m->[Value.int .u8 (dN.enc (a.b 0) q)] = [Value.int .u8 (b.enc q)]
def akv (a : ZEp) (b : ByteArray) (c : ZTs) : Prop := ∃ x_4 : ZWd,Hd (x_4.n = 0/\wD x_4.t x_4.b 0 x_4.s x_4.q)/\(0 = 0/\(x_4.t : Int) = 0/\((5 : Int) = 5/\zi x_4.s a.s)/\True)/\LP x_4.s.a a.s.a/\akq x_4 a b c/\∀ y_3 : ZTs,Hd (x_4.q 1 y_3/\y_3.ph = 2)->vC a.k/\∃ s_2 : ZEp,VH s_2 b/\200 - s_2.k < 200 - a.k/\VG s_2 a/\(64 * s_2.m = 64/\acY s_2 x_4.b)/\akp s_2 y_3 c b
def akw (a : ZEp) (b : ByteArray) : Prop := cP (bne a.s.ph (7 : Int)) (true = false/\True) (cP (bne a.s.f.code (0 : Int)) (true = false/\True) (cP (bne a.s.f.aep (a.now : Int)) (true = false/\True) (cP (Bool.not (BEq.beq (ByteArray.toList a.s.f.ans) (ByteArray.toList b))) (true = false/\True) (I64 (2 : Int)/\∃ x_4 : ZArn,Hd (x_4.n ≠ 0/\x_4.n < 1099511627776)/\(0 = 0/\True)/\(ownM x_4.osP = ownM a.s.a.os/\True)/\∀ y_3 : Unit,True->cP (BEq.beq (x_4.n : Int) (2 : Int)) (∃ x_5 : ZArn,Hd True/\(0 = 0/\True)/\(ownM x_5.osP = ownM x_4.osP/\True)/\∀ y_4 : Unit,True->∃ x_6 : ZLn,Hd x_6.ok/\(0 = 0/\True)/\(ownM x_6.os = ownM x_5.l.os/\True)/\∀ y_5 : Unit,True->cP (BEq.beq (x_6.n : Int) (0 : Int)) (true = true/\True) (true = false/\True)) (true = false/\True)))))
def akx : Prop := true = true/\false = false/\some (bZ.abs (ownM tabE)) = some (bZ.abs (ownM tabE))
def VI : Prop := iF/\iF/\iF/\iF/\True
def Ho (a : ZEj) (b : ZGh) : Prop := Hd (a.j<=14/\CS b.c b.d b.lo a.j a.c a.d a.ph)
def aky (a : ZEj) (b : ClkM) : Prop := true = true/\false = false/\some (bZ.abs (ownM (a.c.os a.ph))) = some (bZ.abs (ownM (b.os 0)))
def aqm (a0 : ZEp) (b : ZEpX) : Prop := cP (bne a0.s.ph (7 : Int)) (true = false/\True) (cP (bne a0.s.f.code (0 : Int)) (true = false/\True) (cP (bne a0.s.f.aep (a0.now : Int)) (true = false/\True) (I64 (1 : Int)/\((0 : Int)<=1/\(0 : Int)<=0)/\∃ x_3 : ZLow,Hd (1<=x_3.m/\x_3.m<=1000)/\(x_3.z = ZEpX.many b/\(x_3.m : Int) = 7/\True)/\True/\∀ y_2 : Nat,Hd (y_2 < x_3.m)->(∃ s_1 : ZEp,VF s_1 b.v/\True/\((s_1.k : Int) = 0/\(s_1.n : Int) = (y_2 : Int)/\(s_1.now : Int) = (a0.now : Int)/\True)/\((5 : Int) = 5/\s_1.s.f.key = ByteArray.mk #[]/\s_1.s.f.value = ByteArray.mk #[]/\aku s_1.s)/\((4 : Int) = 4/\ae7 a0.s)/\VD b.v s_1.s.a a0.s.a)/\(∀ s_1 : ZEp,VF s_1 b.v->cP (decide ((s_1.k : Int) < 200)) (cP (bne s_1.s.ph (7 : Int)) (cP (BEq.beq s_1.s.ph (5 : Int)) (cP (decide ((s_1.n : Int) > (0 : Int))) (I64 ((s_1.n : Int) - 1)/\∃ x_4 : ZArn,Hd True/\(0 = 0/\True)/\(ownM x_4.osP = ownM s_1.s.a.os/\True)/\∀ y_3 : Unit,True->∃ x_5 : ClkM,Hd (x_5.ok/\x_5.clos = 0)/\(0 = 0/\True)/\(ownM (x_5.os 0) = ownM (x_4.c.os 0)/\True)/\∀ y_4 : Unit,True->∃ g : ZGh,(∃ s_2 : ZEj,Ho s_2 g/\True/\((s_2.j : Int) = 0/\True)/\aks x_4/\ownM x_4.l.os = ownM x_4.l.os/\VI/\ownM tabE = ownM tabE/\ownM x_4.b.os = ownM x_4.b.os/\ownM (s_2.c.os s_2.ph) = ownM (x_5.start.os 1)/\ownM x_4.r.os = ownM x_4.r.os/\ownM x_4.p.os = ownM x_4.p.os/\ownM s_2.d.os = ownM x_4.d.os/\akr s_1.s a0.s b.v x_4)/\(∀ s_2 : ZEj,Ho s_2 g->cP (decide ((s_2.j : Int) < 14)) (∃ x_6 : ZWk,Hd (wK x_6.c x_6.d x_6.ph x_6.q)/\(0 = 0/\0 = 0/\True)/\(ownM (x_6.c.os x_6.ph) = ownM (s_2.c.os s_2.ph)/\ownM x_6.d.os = ownM s_2.d.os/\True)/\∀ y_5 : ZWk2,Hd (x_6.q y_5.c y_5.d y_5.ph)->vC s_2.j/\∃ s_3 : ZEj,Ho s_3 g/\14 - s_3.j < 14 - s_2.j/\
 ((s_3.j : Int) = (s_2.j : Int) + 1/\True)/\aks x_4/\ownM x_4.l.os = ownM x_4.l.os/\VI/\ownM tabE = ownM tabE/\ownM x_4.b.os = ownM x_4.b.os/\ownM (s_3.c.os s_3.ph) = ownM (y_5.c.os y_5.ph)/\ownM x_4.r.os = ownM x_4.r.os/\ownM x_4.p.os = ownM x_4.p.os/\ownM s_3.d.os = ownM y_5.d.os/\akr s_1.s a0.s b.v x_4) (∃ a : ZArn,((a.n = 0->False)/\(true = true/\false = false/\some (bZ.cells (113 : @TypeId) (Cs.av [AV.ptr 6 0,AV.ptr 8 0,AV.ptr 9 0,AV.ptr 10 0,AV.ptr 11 0,AV.ptr 12 0,AV.ptr 13 0,AV.ptr 14 0,AV.lit (Value.int .u64 x_4.id),AV.lit (Value.int .u64 x_4.ver),AV.slW 15 0 7 x_4.n])) = some (bZ.cells (113 : @TypeId) (Cs.av [AV.ptr 6 0,AV.ptr 8 0,AV.ptr 9 0,AV.ptr 10 0,AV.ptr 11 0,AV.ptr 12 0,AV.ptr 13 0,AV.ptr 14 0,AV.lit (Value.int .u64 a.id),AV.lit (Value.int .u64 a.ver),AV.slW 15 0 7 a.n])))/\(true = true/\false = false/\some (bZ.cells (145 : @TypeId) (Cs.av [AV.ptr 7 0,AV.lit (Value.int .u32 1),AV.lit (Value.int .i32 0),AV.lit (Value.int .u32 0)])) = some (bZ.cells (145 : @TypeId) (Cs.av [AV.ptr 7 0,AV.lit (Value.int .u32 1),AV.lit (Value.int .i32 0),AV.lit (Value.int .u32 0)])))/\(true = true/\false = false/\some (bZ.abs (ownM s_2.d.os)) = some (bZ.abs (ownM a.d.os)))/\(true = true/\false = false/\some (bZ.abs (ownM x_4.p.os)) = some (bZ.abs (ownM a.p.os)))/\(true = true/\false = false/\some (bZ.abs (ownM x_4.r.os)) = some (bZ.abs (ownM a.r.os)))/\aky s_2 a.c/\(true = true/\false = false/\some (bZ.abs (ownM x_4.b.os)) = some (bZ.abs (ownM a.b.os)))/\akx/\akt/\(true = true/\false = false/\some (bZ.abs (ownM x_4.l.os)) = some (bZ.abs (ownM a.l.os)))/\(true = true/\false = false/\
 some (bZ.room (95 : @TypeId) (Cs.row 7 x_4.n (fun (i : Nat) => [Value.int .i64 (eY.kind (x_4.e i)),Value.string (eY.key (x_4.e i)),Value.string (eY.value (x_4.e i)),Value.int .u64 (eY.id (x_4.e i)),Value.int .u64 (eY.ver (x_4.e i)),Value.int .u64 (eY.epoch (x_4.e i)),Value.int .i64 (eY.group (x_4.e i))]) (@List.nil (Prod Nat (List Value))))) = some (bZ.room (95 : @TypeId) (Cs.row 7 a.n (fun (i : Nat) => [Value.int .i64 (eY.kind (a.e i)),Value.string (eY.key (a.e i)),Value.string (eY.value (a.e i)),Value.int .u64 (eY.id (a.e i)),Value.int .u64 (eY.ver (a.e i)),Value.int .u64 (eY.epoch (a.e i)),Value.int .i64 (eY.group (a.e i))]) (@List.nil (Prod Nat (List Value))))))/\True)/\∃ x_6 : ZWd,Hd (x_6.n = 0/\wD x_6.t x_6.b 0 x_6.s x_6.q)/\(0 = 0/\(x_6.t : Int) = 0/\((5 : Int) = 5/\zi x_6.s s_1.s)/\True)/\LP x_6.s.a a/\(∀ y_5 : ZTs,Hd (x_6.q 0 y_5)->vC s_1.k/\∃ s_3 : ZEp,VF s_3 b.v/\200 - s_3.k < 200 - s_1.k/\acX s_3 s_1/\((5 : Int) = 5/\zi s_3.s y_5)/\VE a0.s b.v s_3.s.a y_5.a)/\∀ y_5 : ZTs,Hd (x_6.q 1 y_5/\y_5.ph = 2)->vC s_1.k/\∃ s_3 : ZEp,VH s_3 b.v/\200 - s_3.k < 200 - s_1.k/\acX s_3 s_1/\(64 * s_3.m = 64/\acY s_3 x_6.b)/\akp s_3 y_5 a0.s b.v))/\True) (akv s_1 b.v a0.s)) (akv s_1 b.v a0.s)) (akw s_1 b.v)) (akw s_1 b.v))/\(∀ s_1 : ZEp,VH s_1 b.v->cP (decide ((s_1.k : Int) < 200)) (∃ x_4 : ZWd,Hd (x_4.n ≠ 0/\x_4.s.ph = 2/\wD x_4.t x_4.b x_4.n x_4.s x_4.q)/\(0 = 0/\(x_4.t : Int) = 0/\((5 : Int) = 5/\x_4.s.f.key = s_1.s.f.key/\x_4.s.f.value = s_1.s.f.value/\jW/\iF/\(2 : Int) = 2/\x_4.s.f.epoch = s_1.s.f.epoch/\jW/\false = false/\(0 : Int) = 0/\x_4.s.f.had = s_1.s.f.had/\x_4.s.f.old.key = s_1.s.f.old.key/\
 x_4.s.f.old.id = s_1.s.f.old.id/\x_4.s.f.old.ver = s_1.s.f.old.ver/\x_4.s.f.old.line = s_1.s.f.old.line/\x_4.s.f.old.cls = s_1.s.f.old.cls/\x_4.s.f.line = s_1.s.f.line/\x_4.s.f.cls = s_1.s.f.cls/\x_4.s.f.piece = s_1.s.f.piece/\(0 = 0/\64 * x_4.n = 64 * s_1.m)/\Vz x_4.s.f s_1.s.f)/\True)/\(ownM x_4.s.a.os = ownM s_1.s.a.os/\(64 * x_4.n = 64 * s_1.m/\∀ q : Nat,q < 64 * x_4.n->[Value.int .u8 (x_4.b.enc q)] = [Value.int .u8 (dN.enc (s_1.b 0) q)])/\True)/\akq x_4 s_1 b.v a0.s/\∀ y_3 : ZTs,Hd (x_4.q (x_4.n + 1) y_3/\y_3.ph = 2)->vC s_1.k/\∃ s_2 : ZEp,VH s_2 b.v/\200 - s_2.k < 200 - s_1.k/\VG s_2 s_1/\(64 * s_2.m = 64 * (x_4.n + 1)/\acY s_2 x_4.b)/\((5 : Int) = 5/\s_2.s.f.key = y_3.f.key/\s_2.s.f.value = y_3.f.value/\jW/\iF/\(2 : Int) = 2/\s_2.s.f.epoch = y_3.f.epoch/\jW/\false = false/\(0 : Int) = 0/\s_2.s.f.had = y_3.f.had/\s_2.s.f.old.key = y_3.f.old.key/\s_2.s.f.old.id = y_3.f.old.id/\s_2.s.f.old.ver = y_3.f.old.ver/\s_2.s.f.old.line = y_3.f.old.line/\s_2.s.f.old.cls = y_3.f.old.cls/\s_2.s.f.line = y_3.f.line/\s_2.s.f.cls = y_3.f.cls/\s_2.s.f.piece = y_3.f.piece/\(0 = 0/\64 * s_2.m = 64 * (x_4.n + 1))/\Vz s_2.s.f y_3.f)/\VE a0.s b.v s_2.s.a y_3.a) (true = false/\True))/\True)))
def VJ (a : ZEp) (b : ByteArray) : Prop := Hd (a.n<=6/\@KE b (a.now : Int) a.n (40 * a.k + 10) a.s a.r/\a.k + a.r<=199)
def akz (a : ZEp) (b : ByteArray) : Prop := ∃ x_3 : ZWe,Hd (wE x_3.t x_3.s x_3.q)/\(0 = 0/\(x_3.t : Int) = 0/\((4 : Int) = 4/\zi x_3.s a.s)/\True)/\LP x_3.s.a a.s.a/\∀ y_2 : ZTs,Hd (x_3.q y_2)->vC a.k/\∃ s_1 : ZEp,VJ s_1 b/\200 - s_1.k < 200 - a.k/\VG s_1 a/\((4 : Int) = 4/\zi s_1.s y_2)/\VD b s_1.s.a y_2.a
def akA (a : ZTs) (b : ByteArray) (c : ZArn) : Prop := (0 = 0/\(1 : Int) = 1/\(0 : Int) = 0/\(0 : Int) = 0/\True)/\((4 : Int) = 4/\ae7 a)/\VA b/\LQ/\VB b/\(0 = 0/\0 = 0/\0 = 0/\0 = 0/\0 = 0/\0 = 0/\0 = 0/\0 = 0/\c.id = c.id/\c.ver = c.ver/\iF/\True)/\True
def Qq (x : ZEpX) : Prop :=
 cP (decide ((x.v.size : Int) > (400 : Int))) (true = true/\True) (∃ x_1 : ZNew,Hd (10<=x_1.n/\x_1.n<=258/\1<=x_1.t/\x_1.t<=4)/\((x_1.n : Int) = 26/\(x_1.t : Int) = 1/\True)/\True/\∀ y : DevM,Hd (y.ok/\y.n = x_1.n/\y.st = 2/\y.fl = 2/\y.fe = 1)->((0 : Int)<=0/\(0 : Int)<=1)/\∃ x_2 : ZLow,Hd (1<=x_2.m/\x_2.m<=1000)/\(x_2.z = ZEpX.many x/\(x_2.m : Int) = 7/\True)/\True/\∀ y_1 : Nat,Hd (y_1 < x_2.m)->(∃ s : ZEp,VJ s x.v/\True/\((s.k : Int) = 0/\(s.n : Int) = (y_1 : Int)/\(s.now : Int) = 1/\True)/\((4 : Int) = 4/\s.s.f.key = ByteArray.mk #[]/\s.s.f.value = x.v/\aku s.s)/\VA x.v/\LQ/\VB x.v/\ownM s.s.a.os = ownM (ZArn.osN (newArn x_1.n x_1.t y))/\True)/\(∀ s : ZEp,VJ s x.v->cP (decide ((s.k : Int) < 200)) (cP (bne s.s.ph (7 : Int)) (cP (BEq.beq s.s.ph (5 : Int)) (cP (decide ((s.n : Int) > (0 : Int))) (I64 ((s.n : Int) - 1)/\∃ x_3 : ZArn,Hd True/\(0 = 0/\True)/\(ownM x_3.osN = ownM s.s.a.os/\True)/\∀ y_2 : Unit,True->∃ x_4 : ClkM,Hd (x_4.ok/\x_4.clos = 0)/\(0 = 0/\True)/\(ownM (x_4.os 0) = ownM (x_3.c.os 0)/\True)/\∀ y_3 : Unit,True->∃ g : ZGh,(∃ s_1 : ZEj,Ho s_1 g/\True/\((s_1.j : Int) = 0/\True)/\ownM x_3.l.os = ownM x_3.l.os/\VI/\ownM tabE = ownM tabE/\ownM x_3.b.os = ownM x_3.b.os/\ownM (s_1.c.os s_1.ph) = ownM (x_4.start.os 1)/\ownM x_3.r.os = ownM x_3.r.os/\ownM x_3.p.os = ownM x_3.p.os/\ownM s_1.d.os = ownM x_3.d.os/\akA s.s x.v x_3)/\(∀ s_1 : ZEj,Ho s_1 g->cP (decide ((s_1.j : Int) < 14)) (∃ x_5 : ZWk,Hd (wK x_5.c x_5.d x_5.ph x_5.q)/\(0 = 0/\0 = 0/\True)/\(ownM (x_5.c.os x_5.ph) = ownM (s_1.c.os s_1.ph)/\ownM x_5.d.os = ownM s_1.d.os/\True)/\∀ y_4 : ZWk2,Hd (x_5.q y_4.c y_4.d y_4.ph)->vC s_1.j/\∃ s_2 : ZEj,Ho s_2 g/\
 14 - s_2.j < 14 - s_1.j/\((s_2.j : Int) = (s_1.j : Int) + 1/\True)/\ownM x_3.l.os = ownM x_3.l.os/\VI/\ownM tabE = ownM tabE/\ownM x_3.b.os = ownM x_3.b.os/\ownM (s_2.c.os s_2.ph) = ownM (y_4.c.os y_4.ph)/\ownM x_3.r.os = ownM x_3.r.os/\ownM x_3.p.os = ownM x_3.p.os/\ownM s_2.d.os = ownM y_4.d.os/\akA s.s x.v x_3) (∃ a : ZArn,(a.n = 0/\(true = true/\false = false/\some (bZ.cells (113 : @TypeId) (Cs.av [AV.ptr 5 0,AV.ptr 7 0,AV.ptr 8 0,AV.ptr 9 0,AV.ptr 10 0,AV.ptr 11 0,AV.ptr 12 0,AV.ptr 13 0,AV.lit (Value.int .u64 x_3.id),AV.lit (Value.int .u64 x_3.ver),AV.lit (Value.slice none 0 0)])) = some (bZ.cells (113 : @TypeId) (Cs.av [AV.ptr 5 0,AV.ptr 7 0,AV.ptr 8 0,AV.ptr 9 0,AV.ptr 10 0,AV.ptr 11 0,AV.ptr 12 0,AV.ptr 13 0,AV.lit (Value.int .u64 a.id),AV.lit (Value.int .u64 a.ver),AV.lit (Value.slice none 0 0)])))/\(true = true/\false = false/\some (bZ.cells (145 : @TypeId) (Cs.av [AV.ptr 6 0,AV.lit (Value.int .u32 1),AV.lit (Value.int .i32 0),AV.lit (Value.int .u32 0)])) = some (bZ.cells (145 : @TypeId) (Cs.av [AV.ptr 6 0,AV.lit (Value.int .u32 1),AV.lit (Value.int .i32 0),AV.lit (Value.int .u32 0)])))/\(true = true/\false = false/\some (bZ.abs (ownM s_1.d.os)) = some (bZ.abs (ownM a.d.os)))/\(true = true/\false = false/\some (bZ.abs (ownM x_3.p.os)) = some (bZ.abs (ownM a.p.os)))/\(true = true/\false = false/\some (bZ.abs (ownM x_3.r.os)) = some (bZ.abs (ownM a.r.os)))/\aky s_1 a.c/\(true = true/\false = false/\some (bZ.abs (ownM x_3.b.os)) = some (bZ.abs (ownM a.b.os)))/\akx/\akt/\(true = true/\false = false/\some (bZ.abs (ownM x_3.l.os)) = some (bZ.abs (ownM a.l.os)))/\True)/\∃ x_5 : ZWe,Hd (wE x_5.t x_5.s x_5.q)/\(0 = 0/\(x_5.t : Int) = 0/\((4 : Int) = 4/\
 zi x_5.s s.s)/\True)/\LP x_5.s.a a/\∀ y_4 : ZTs,Hd (x_5.q y_4)->vC s.k/\∃ s_2 : ZEp,VJ s_2 x.v/\200 - s_2.k < 200 - s.k/\acX s_2 s/\((4 : Int) = 4/\zi s_2.s y_4)/\VD x.v s_2.s.a y_4.a))/\True) (akz s x.v)) (akz s x.v)) (aqm s x)) (aqm s x))/\True)
theorem Zi (x : ZEpX) : Qq x = wpF Tryz.prog asc tt (annEp x) 200 6 4 [i64 x.many,.lit (.string x.v)] (hO 0 []) (fun v h' => endP 0 (boo true) [] v h') := by kernel_rfl
end Go.Proofs.YtenfleoejgjklaaGreat
end
section
namespace Go.Proofs.YtenfleoejgjklaaGreat
open Go SE
def oW : Prop := Value.slice none 0 0 = Value.slice none 0 0
def Zj (a : ZArn) : Prop := (0 = 0/\(1 : Int) = 1/\(0 : Int) = 0/\(0 : Int) = 0/\True)/\ownM a.d.os = ownM a.d.os/\ownM a.p.os = ownM a.p.os/\ownM a.r.os = ownM a.r.os/\ownM (a.c.os 0) = ownM (a.c.os 0)/\ownM a.b.os = ownM a.b.os/\ownM tabE = ownM tabE/\(oW/\oW/\oW/\oW/\True)/\ownM a.l.os = ownM a.l.os/\(a.n = a.n/\∀ q : Nat,q < a.n->[Value.int .i64 (eY.kind (a.e q)),Value.string (eY.key (a.e q)),Value.string (eY.value (a.e q)),Value.int .u64 (eY.id (a.e q)),Value.int .u64 (eY.ver (a.e q)),Value.int .u64 (eY.epoch (a.e q)),Value.int .i64 (eY.group (a.e q))] = [Value.int .i64 (eY.kind (a.e q)),Value.string (eY.key (a.e q)),Value.string (eY.value (a.e q)),Value.int .u64 (eY.id (a.e q)),Value.int .u64 (eY.ver (a.e q)),Value.int .u64 (eY.epoch (a.e q)),Value.int .i64 (eY.group (a.e q))])/\True
def Zk (a : ZArn) : Prop := 0 = 0/\0 = 0/\0 = 0/\0 = 0/\0 = 0/\0 = 0/\0 = 0/\0 = 0/\a.id = a.id/\a.ver = a.ver/\(0 = 0/\a.n = a.n)/\True
def aqn (x : ZLow) : Prop :=
 (IntKind.wrap .u64 (x.m : Int) = 0->False)/\I64 (Int.tmod (IntKind.wrap .u64 x.z) (IntKind.wrap .u64 (x.m : Int)))/\∃ y : Nat,Hd (y < x.m)/\(y : Int) = Int.tmod (IntKind.wrap .u64 x.z) (IntKind.wrap .u64 (x.m : Int))/\True
theorem am8 (x : ZLow) : aqn x = wpF Tryz.prog [] tt (noA x) 200 6 14 (lowC.args x) (hO 0 []) (fun v h' => eH 0 x v h' lowC.outs) := by kernel_rfl
def akB (x : ZArn) : Prop :=
 0 + x.n<=x.n/\cP (Nat.beq x.n 0) (∃ y : Unit,True/\(x.n = 0/\0 = 0/\0 = 0)/\Zk x/\(0 = x.n * 7/\∀ q : Nat,q < x.n->[Value.int .i64 (eY.kind (x.e q)),Value.string (eY.key (x.e q)),Value.string (eY.value (x.e q)),Value.int .u64 (eY.id (x.e q)),Value.int .u64 (eY.ver (x.e q)),Value.int .u64 (eY.epoch (x.e q)),Value.int .i64 (eY.group (x.e q))] = List.take 7 (List.drop (q * 7) (@List.nil Value)))/\Zj x) ((2 * (0 + x.n) + 1000) * 72<=281474976710656/\∃ y : Unit,True/\(0 = 0/\x.n = 0 + x.n)/\Zk x/\(x.n = 0 + x.n/\∀ q : Nat,q < x.n->[Value.int .i64 (eY.kind (x.e q)),Value.string (eY.key (x.e q)),Value.string (eY.value (x.e q)),Value.int .u64 (eY.id (x.e q)),Value.int .u64 (eY.ver (x.e q)),Value.int .u64 (eY.epoch (x.e q)),Value.int .i64 (eY.group (x.e q))] = [Value.int .i64 (eY.kind (x.e (0 + (q - 0)))),Value.string (eY.key (x.e (0 + (q - 0)))),Value.string (eY.value (x.e (0 + (q - 0)))),Value.int .u64 (eY.id (x.e (0 + (q - 0)))),Value.int .u64 (eY.ver (x.e (0 + (q - 0)))),Value.int .u64 (eY.epoch (x.e (0 + (q - 0)))),Value.int .i64 (eY.group (x.e (0 + (q - 0))))])/\Zj x)
theorem akC (x : ZArn) : akB x = wpF Tryz.prog [] tt (noA x) 200 6 26 (asa.args x) (hO 11 (dK 1 (asa.l x))) (fun v h' => cO 1 x v h' asa.outs) := by kernel_rfl
def Zl (x : ZArn) : Prop :=
 ∃ y : Unit,True/\0 = 0/\(0 = 0/\0 = 0/\0 = 0/\0 = 0/\0 = 0/\0 = 0/\0 = 0/\0 = 0/\x.id = x.id/\x.ver = x.ver/\oW/\True)/\(0 = 0/\(1 : Int) = 1/\(0 : Int) = 0/\(0 : Int) = 0/\True)/\ownM x.d.os = ownM x.d.os/\ownM x.p.os = ownM x.p.os/\ownM x.r.os = ownM x.r.os/\ownM (x.c.os 0) = ownM (x.c.os 0)/\ownM x.b.os = ownM x.b.os/\ownM tabE = ownM tabE/\(oW/\oW/\oW/\oW/\True)/\ownM x.l.os = ownM x.l.os/\True
theorem ae8 (x : ZArn) : Zl x = wpF Tryz.prog [] tt (noA x) 200 6 22 ((wM ZArn.osN 10 5).args x) (hO 10 (dK 1 ((wM ZArn.osN 10 5).l x))) (fun v h' => cO 1 x v h' (wM ZArn.osN 10 5).outs) := by kernel_rfl
def Zm (x : ZArn) : Prop :=
 ∃ y : Unit,True/\0 = 0/\Zk x/\Zj x
theorem ae9 (x : ZArn) : Zm x = wpF Tryz.prog [] tt (noA x) 200 6 22 ((wM ZArn.osP 11 5).args x) (hO 11 (dK 1 ((wM ZArn.osP 11 5).l x))) (fun v h' => cO 1 x v h' (wM ZArn.osP 11 5).outs) := by kernel_rfl
def Qr (x : ZArn) : Prop :=
 ∃ y : Unit,True/\0 = 0/\Zk x/\Zj x
theorem Zn (x : ZArn) : Qr x = wpF Tryz.prog [] tt (noA x) 200 6 20 ((wM ZArn.osP 11 9).args x) (hO 11 (dK 1 ((wM ZArn.osP 11 9).l x))) (fun v h' => cO 1 x v h' (wM ZArn.osP 11 9).outs) := by kernel_rfl
end Go.Proofs.YtenfleoejgjklaaGreat
end
section
namespace Go.Proofs.YtenfleoejgjklaaGreat
open Go SE
set_option linter.unusedSimpArgs false
theorem u64_nonneg (z : Int) : 0<=IntKind.wrap .u64 z := by
 unfold IntKind.wrap; simp [IntKind.bits,IntKind.signed]; omega
theorem afa (x : ZLow) (hx : 1<=x.m/\x.m<=1000) : aqn x := by
 have e : IntKind.wrap .u64 (x.m : Int) = x.m := iI (by omega) (by omega)
 have hz := u64_nonneg x.z
 unfold aqn
 simp only [aY,aU,aT,ay,aH,bI,bn,aN,aJ,au,aW,aV,bJ,bC,bD,bF,bK,bf,bG,aZ,dU,aG,aK,ah,aj,aA,aC,aB,aF,e]
 have h1 : Int.tmod (IntKind.wrap .u64 x.z) (x.m : Int) = IntKind.wrap .u64 x.z % (x.m : Int) := Int.tmod_eq_emod_of_nonneg hz
 have h2 := Int.emod_nonneg (IntKind.wrap .u64 x.z) (show (x.m : Int) ≠ 0 by omega)
 have h3 := Int.emod_lt_of_pos (IntKind.wrap .u64 x.z) (show 0 < (x.m : Int) by omega)
 rw [h1]
 exact ⟨by omega,by unfold I64; omega,(IntKind.wrap .u64 x.z % (x.m : Int)).toNat,by omega,by omega⟩
theorem ase : bU Tryz.prog 14 lowC := fZ dD mixed .nil noA 200 6 (fun _ => rfl) (fun _ => ⟨fun _ => rfl,trivial⟩) fun x hx => Eq.mp (am8 x) (afa x (aY.1 hx))
theorem Zo (a : ZArn) (ha : a.n ≠ 0/\a.n < 1099511627776) : akB a := by
 obtain ⟨h1,h2⟩ := ha
 unfold akB
 simp only [Zk,Zj,oW]
 simp only [aY,aU,aT,ay,aH,bI,bn,aN,aJ,au,aW,aV,bJ,bC,bD,bF,bK,bf,bG,aZ,dU,aG,aK,ah,aj,aA,aC,aB,aF]
 refine ⟨aX _,bg (fun h => absurd (ak h) h1) fun _ => by omega⟩
theorem asf : bU Tryz.prog 26 asa.ctr := dH dD mixed .nil 11 noA 200 6 (fun _ => ⟨rfl,rfl,rfl,rfl⟩) fun x hx => Eq.mp (akC x) (Zo x (aY.1 hx))
theorem VK (a : ZArn) : Zl a := by
 unfold Zl
 simp only [oW]
 simp only [aY,aU,aT,ay,aH,bI,bn,aN,aJ,au,aW,aV,bJ,bC,bD,bF,bK,bf,bG,aZ,dU,aG,aK,ah,aj,aA,aC,aB,aF]
theorem VL (a : ZArn) : Zm a := by
 unfold Zm
 simp only [Zk,Zj,oW]
 simp only [aY,aU,aT,ay,aH,bI,bn,aN,aJ,au,aW,aV,bJ,bC,bD,bF,bK,bf,bG,aZ,dU,aG,aK,ah,aj,aA,aC,aB,aF]
theorem Qs (a : ZArn) : Qr a := by
 unfold Qr
 simp only [Zk,Zj,oW]
 simp only [aY,aU,aT,ay,aH,bI,bn,aN,aJ,au,aW,aV,bJ,bC,bD,bF,bK,bf,bG,aZ,dU,aG,aK,ah,aj,aA,aC,aB,aF]
theorem am9 : bU Tryz.prog 22 (wM ZArn.osN 10 5).ctr := dH dD mixed .nil 10 noA 200 6 (fun _ => ⟨rfl,rfl,rfl,rfl⟩) fun x _ => Eq.mp (ae8 x) (VK x)
theorem ana : bU Tryz.prog 22 (wM ZArn.osP 11 5).ctr := dH dD mixed .nil 11 noA 200 6 (fun _ => ⟨rfl,rfl,rfl,rfl⟩) fun x _ => Eq.mp (ae9 x) (VL x)
theorem akD : bU Tryz.prog 20 (wM ZArn.osP 11 9).ctr := dH dD mixed .nil 11 noA 200 6 (fun _ => ⟨rfl,rfl,rfl,rfl⟩) fun x _ => Eq.mp (Zn x) (Qs x)
theorem akE (args : List AV) (h : Heap) (K : AV->Heap->Prop) (hq : clockT args h K) : Sp Tryz.prog 22 args h K := by
 unfold clockT at hq
 split at hq
 ·rename_i i z
  cases ha : isAbs (h.get i) <;> rw [ha] at hq
  ·exact AY dD mixed .nil _ _ _ _ _ _ _ hq
  ·cases hb : is5 h <;> rw [hb] at hq
   ·exact bM am9 _ _ _ hq
   ·exact bM ana _ _ _ hq
 ·exact hq.elim
theorem anb (args : List AV) (h : Heap) (K : AV->Heap->Prop) (hq : stepG args h K) : Sp Tryz.prog 19 args h K := am6 akm args h K hq
theorem akF : fA Tryz.prog anT := .append aqh (.cons (bM ase) (.cons Vw (.cons anb (.cons akE (.cons (bM ajB) (.cons (bM am7) .nil))))))
theorem ane : fA Tryz.prog asc := .append akF (.cons (bM asf) (.cons (bM akD) (.cons (bM aed) .nil)))
end Go.Proofs.YtenfleoejgjklaaGreat
end
section
namespace Go.Proofs.YtenfleoejgjklaaGreat
open Go SE
set_option linter.unusedSimpArgs false
section
variable {v : ByteArray} {nw : Int} {n M M' : Nat} {b : Nat->dN} {s : ZTs} {m r : Nat}
theorem One.upTo {a : ZArn} (h : One v nw M b a) (hM : M<=M') : One v nw M' b a := ⟨h.base.up hM,h.ln1,h.val,h.n1,h.now,h.note⟩
theorem KE.upTo (h : KE v nw n M s r) (hM : M<=M') : KE v nw n M' s r := by
 rcases h with ⟨h0,h⟩ | ⟨hn,b,h1,h⟩
 ·exact .inl ⟨⟨h0.base.up hM,h0.ln0,h0.n0,h0.now,h0.note,h0.val,h0.size,h0.code,h0.had⟩,h⟩
 ·exact .inr ⟨hn,b,h1.upTo hM,h⟩
theorem KE.pos (h : KE v nw n M s r) (h7 : s.ph ≠ 7) : 1<=r := by
 rcases h with ⟨_,⟨_,_,_,hr⟩ | ⟨_,_,_,hr⟩ | ⟨_,_,_,_,_,_,_,_,_,_,_,hr⟩ | ⟨_,_,_,_,_,_,_,_,hr⟩⟩ | ⟨_,b,_,_,_,_,⟨_,hr⟩ | ⟨hp,_⟩⟩
 ·omega
 ·omega
 ·omega
 ·omega
 ·omega
 ·exact absurd hp h7
theorem KD.upTo (h : KD v nw n M b s m r) (hM : M<=M') : KD v nw n M' b s m r := by
 rcases h with ⟨h0,h⟩ | ⟨hn,hm,h1,h⟩
 ·exact .inl ⟨⟨h0.one.upTo hM,h0.fv,h0.code⟩,h⟩
 ·exact .inr ⟨hn,hm,h1.up hM,h⟩
theorem VN (sb : Nat) : ∀ n,2<=uO sb n
 | 0 => aX _
 | n + 1 => by have := VN sb n; show 2<=uO sb n + (2 + sb); omega
theorem KD.pos (h : KD v nw n M b s m r) (h7 : s.ph ≠ 7) : 1<=r := by
 have h5 := VN (b 0).dA n
 rcases h with ⟨_,⟨_,_,_,_,_,hr⟩ | ⟨_,_,_,_,_,hr⟩ | ⟨_,_,_,_,_,_,_,_,hr⟩ | ⟨_,_,_,_,_,_,_,hr⟩ | ⟨_,_,_,_,_,_,_,_,_,hr⟩ | ⟨_,_,_,_,_,_,_,_,hr⟩⟩ | ⟨_,_,_,_,_,_,_,_,⟨_,hr⟩ | ⟨hp,_⟩⟩
 ·omega
 ·omega
 ·omega
 ·omega
 ·omega
 ·omega
 ·omega
 ·exact absurd hp h7
end
set_option maxRecDepth 20000 in
theorem Qu (x : ZEpX) : Qq x := by
 unfold Qq
 simp only [VJ,aku,VA,LQ,VB,Ho,VI,akA,vC,aky,akx,akt,zi,LP,acX,VD,akz,aqm,VF,ae7,aks,akr,VE,VH,acY,akp,akv,akw,jW,iF,Vz,akq,VG,ako]
 simp only [aY,aU,aT,ay,aH,bI,bn,aN,aJ,au,aW,aV,bJ,bC,bD,bF,bK,bf,bG,aZ,dU,aG,aK,ah,aj,aA,aC,aB,aF]
 refine bg (fun _ => trivial) fun hv => ?_
 have hv : x.v.size<=400 := by have := aS hv; omega
 refine ⟨⟨26,1⟩,by decide,⟨rfl,rfl⟩,fun d hd => ⟨by decide,⟨x.many,7⟩,⟨by show 1<=7; decide,by show 7<=1000; decide⟩,⟨rfl,rfl⟩,fun n hn => ⟨?_,fun s hs => ?_⟩⟩⟩
 ·have g0 := acT (n := 26) (t := 0) (T := 1) (m := 2) hd.1 hd.2.1 hd.2.2.1 rfl (by decide) (by decide) (by decide) (fun _ => zB)
  have hn : n < 7 := hn
  have hsp := (anS hv).2.2
  have base : Base (newArn 26 1 d) 1 (40 * 0 + 10) (fun _ => zB) :=
   { dok := g0.dok,dst := by show d.st<=_; rw [hd.2.2.1]; decide,dfl := by show d.fl<=_; rw [hd.2.2.2.1]; decide,dfe := by show d.fe<=_; rw [hd.2.2.2.2]; decide,rok := g0.rok,rt := rfl,cok := g0.cok,ct := rfl,clos := rfl,pg := g0.pg,fit := g0.fit,bok := g0.bok,lok := g0.lok,aj2 := Nat.zero_le _,ln := Nat.zero_le _,id0 := g0.id0,id1 := by show (0 : Int)<=_; decide,v0 := g0.v0,v1 := by show (0 : Int)<=_; decide,nn := Nat.zero_le _,acS := by show (1 : Int)<=0 + 1; decide,VT := by show (0 : Int) + 1<=_; decide,owed := fun k => by show (0 : Int)<=_; decide,nz := g0.nz,used := g0.used,q := g0.q }
  refine ⟨⟨⟨newArn 26 1 d,f0 ⟨#[]⟩ x.v,0⟩,n,1,0,fun _ => zB,0,1 + (1 + (spv x.v + (n + 2)))⟩,⟨by show n<=6; omega,.inl ⟨⟨base,rfl,rfl,rfl,fun _ => rfl,rfl,hv,rfl,rfl⟩,.inl ⟨rfl,rfl,rfl,rfl⟩⟩,by show 0 + (1 + (1 + (spv x.v + (n + 2))))<=199; omega⟩,⟨rfl,rfl,rfl⟩,(by repeat' (first | exact rfl | refine And.intro ?_ ?_)),akg _ _ _⟩
 ·obtain ⟨hn6,h,hk⟩ := hs
  have ajv : (s.s.ph = 5->s.n = 0)->s.s.ph ≠ 7->s.k < 200->wE 0 s.s (fun y => KE x.v (s.now : Nat) s.n (40 * s.k + 10 + 20) y (s.r - 1))/\∀ y : ZTs,KE x.v (s.now : Nat) s.n (40 * s.k + 10 + 20) y (s.r - 1)->I64 ((s.k : Int) + 1)/\∃ s_1 : ZEp,(s_1.n<=6/\KE x.v (s_1.now : Nat) s_1.n (40 * s_1.k + 10) s_1.s s_1.r/\s_1.k + s_1.r<=199)/\200 - s_1.k < 200 - s.k/\((s_1.k : Int) = s.k + 1/\(s_1.n : Int) = s.n/\(s_1.now : Int) = s.now)/\s_1.s = y := fun hz h7 hk2 =>
   ⟨h.next (by omega) hz h7,fun y hy => ⟨by unfold I64; omega,⟨y,s.n,s.now,s.k + 1,s.b,0,s.r - 1⟩,⟨hn6,KE.upTo hy (by show _<=40 * (s.k + 1) + 10; omega),by have := h.pos h7; show s.k + 1 + (s.r - 1)<=199; omega⟩,by show 200 - (s.k + 1) < _; omega,⟨by show ((s.k + 1 : Nat) : Int) = _; omega,rfl,rfl⟩,rfl⟩⟩
  refine bg (fun hk2 => ?_) fun hk2 => absurd (aS hk2) (by omega)
  have hk2 : s.k < 200 := by have := aQ hk2; omega
  refine bg (fun h7 => ?_) fun h7 => ?_
  ·have h7 := bne_iff_ne.1 h7
   refine bg (fun h5 => bg (fun hn0 => ?_) fun hn0 => ?_) fun h5 => ?_
   ·have h5 := beq_iff_eq.1 h5
    have hn0 := aQ hn0
    obtain ⟨n',hn'⟩ : ∃ n',s.n = n' + 1 := ⟨s.n - 1,by omega⟩
    rw [hn'] at h hn6
    obtain ⟨lo,hlo,b,base,ha0,hcl⟩ := h.closed (by omega) h5
    have amQ := base.VT
    have hnw : s.s.a.c.now = s.now := by
     rcases h with ⟨h0,_⟩ | ⟨h0,_⟩
     ·exact h0.now
     ·omega
    refine ⟨by unfold I64; omega,s.s.a,by rw [zU ha0],s.s.a.c,⟨base.cok,base.clos⟩,rfl,⟨s.s.a.c,s.s.a.d,lo⟩,⟨⟨s.s.a.c.start,s.s.a.d,1,0⟩,⟨Nat.zero_le _,base.begin (by omega) hlo⟩,rfl,rfl,rfl⟩,fun s1 hs1 => bg (fun hj => ?_) fun hj => ?_⟩
    ·have hj : s1.j < 14 := by have := aQ hj; omega
     exact ⟨⟨s1.c,s1.d,s1.ph,_⟩,base.closing (by omega) hj hs1.2,⟨rfl,rfl⟩,fun y hy => ⟨by unfold I64; omega,⟨y.c,y.d,y.ph,s1.j + 1⟩,⟨hj,hy⟩,by show 14 - (s1.j + 1) < _; omega,by show ((s1.j + 1 : Nat) : Int) = _; omega,rfl,rfl⟩⟩
    ·have hj : s1.j = 14 := by have := aS hj; have := hs1.1; omega
     have hcs := hs1.2
     rw [hj] at hcs
     obtain ⟨hp0,hw⟩ := hcl _ _ _ hcs
     refine ⟨s.s.a.Zh s1.c s1.d,⟨ha0,rfl,rfl,rfl,rfl,by rw [hp0]; rfl,rfl,rfl⟩,⟨⟨s.s.a.Zh s1.c s1.d,s.s.f,5⟩,0,_⟩,hw,?_,rfl,fun y hy => ⟨by unfold I64; omega,⟨y,n',s.now + 1,s.k + 1,s.b,0,s.r - 1⟩,⟨by show n'<=6; omega,KE.upTo hy (by show _<=40 * (s.k + 1) + 10; omega),by have := h.pos h7; show s.k + 1 + (s.r - 1)<=199; omega⟩,by show 200 - (s.k + 1) < _; omega,⟨by show ((s.k + 1 : Nat) : Int) = _; omega,by show (n' : Int) = _; omega,by rw [iI (by omega) (by omega)]; rfl⟩,(by repeat' (first | exact rfl | refine And.intro ?_ ?_)),rfl⟩⟩
     exact ⟨rfl,rfl,rfl,h5.symm,(by repeat' (first | exact rfl | refine And.intro ?_ ?_))⟩
   ·have hn0 := aS hn0
    obtain ⟨w1,w2⟩ := ajv (fun _ => by omega) h7 hk2
    refine ⟨⟨s.s,0,_⟩,w1,(by repeat' (first | exact rfl | refine And.intro ?_ ?_)),rfl,fun y hy => ?_⟩
    obtain ⟨i1,s1,i2,i3,i4,rfl⟩ := w2 y hy
    exact ⟨i1,s1,i2,i3,i4,(by repeat' (first | exact rfl | refine And.intro ?_ ?_)),rfl⟩
   ·have h5 := beq_eq_false_iff_ne.1 h5
    obtain ⟨w1,w2⟩ := ajv (fun e => absurd e h5) h7 hk2
    refine ⟨⟨s.s,0,_⟩,w1,(by repeat' (first | exact rfl | refine And.intro ?_ ?_)),rfl,fun y hy => ?_⟩
    obtain ⟨i1,s1,i2,i3,i4,rfl⟩ := w2 y hy
    exact ⟨i1,s1,i2,i3,i4,(by repeat' (first | exact rfl | refine And.intro ?_ ?_)),rfl⟩
  ·have h7 : s.s.ph = 7 := by simpa using h7
   rcases h with ⟨_,h⟩ | ⟨_,b,one,hro,hco,hae,hp⟩
   ·exfalso
    rcases h with ⟨e,_⟩ | ⟨e,_⟩ | ⟨e,_⟩ | ⟨e,_⟩ <;> omega
   rcases hp with ⟨hp,_⟩ | ⟨_,_,hout⟩
   ·exfalso; omega
   refine bg (fun e => absurd h7 (bne_iff_ne.1 e)) fun _ => bg (fun e => absurd hco (bne_iff_ne.1 e)) fun _ => bg (fun e => absurd hae (bne_iff_ne.1 e)) fun _ => ⟨by unfold I64; omega,by decide,⟨x.many,7⟩,⟨by show 1<=7; decide,by show 7<=1000; decide⟩,⟨rfl,rfl⟩,fun n2 hn2 => ⟨?_,fun s1 hs1 => ?_,fun s1 hs1 => ?_⟩⟩
   ·have hn2 : n2 < 7 := hn2
    have sb8 := (jm (b 0)).1
    have n5 := acV sb8 n2
    refine ⟨⟨⟨s.s.a,f0 ⟨#[]⟩ ⟨#[]⟩,0⟩,n2,s.now,0,b,0,1 + (1 + (b 0).dA + 2 + uO (b 0).dA n2)⟩,⟨by show n2<=6; omega,.inl ⟨⟨one.upTo (by show _<=40 * (200 + 0) + 10; omega),rfl,rfl⟩,.inl ⟨rfl,rfl,hout,rfl,hro,rfl⟩⟩,by show 0 + (1 + (1 + (b 0).dA + 2 + uO (b 0).dA n2))<=199; omega⟩,⟨rfl,rfl,rfl⟩,(by repeat' (first | exact rfl | refine And.intro ?_ ?_)),rfl⟩
   ·obtain ⟨hn6,h,hk⟩ := hs1
    have asg : ∀ y : ZTs,KD x.v (s1.now : Nat) s1.n (40 * (200 + s1.k) + 10 + 20) s1.b y 0 (s1.r - 1)->s1.s.ph ≠ 7->s1.k < 200->(s1.n<=6/\KD x.v (s1.now : Nat) s1.n (40 * (200 + (s1.k + 1)) + 10) s1.b y 0 (s1.r - 1)/\s1.k + 1 + (s1.r - 1)<=199) := fun y hy h7 hk2 =>
     ⟨hn6,KD.upTo hy (by omega),by have := h.pos h7; omega⟩
    have ash : ∀ y : ZTs,KD x.v (s1.now : Nat) s1.n (40 * (200 + s1.k) + 10 + 20) s1.b y 1 (s1.r - 1)/\y.ph = 2->s1.s.ph ≠ 7->s1.k < 200->(s1.n<=6/\1 ≠ 0/\y.ph = 2/\KD x.v (s1.now : Nat) s1.n (40 * (200 + (s1.k + 1)) + 10) s1.b y 1 (s1.r - 1)/\s1.k + 1 + (s1.r - 1)<=199) := fun y hy h7 hk2 =>
     ⟨hn6,by decide,hy.2,KD.upTo hy.1 (by omega),by have := h.pos h7; omega⟩
    refine bg (fun hk2 => ?_) fun hk2 => absurd (aS hk2) (by omega)
    have hk2 : s1.k < 200 := by have := aQ hk2; omega
    refine bg (fun h7 => ?_) fun h7 => ?_
    ·have h7 := bne_iff_ne.1 h7
     refine bg (fun h5 => bg (fun hn0 => ?_) fun hn0 => ?_) fun h5 => ?_
     ·have h5 := beq_iff_eq.1 h5
      have hn0 := aQ hn0
      obtain ⟨n',hn'⟩ : ∃ n',s1.n = n' + 1 := ⟨s1.n - 1,by omega⟩
      rw [hn'] at h hn6
      obtain ⟨_,lo,hlo,base,ha0,hcl⟩ := h.closed (by omega) h5
      have amQ := base.VT
      have hnw : s1.s.a.c.now = s1.now := by
       rcases h with ⟨h0,_⟩ | ⟨h0,_⟩
       ·exact h0.one.now
       ·omega
      refine ⟨by unfold I64; omega,s1.s.a,by rw [qh ha0],s1.s.a.c,⟨base.cok,base.clos⟩,rfl,⟨s1.s.a.c,s1.s.a.d,lo⟩,⟨⟨s1.s.a.c.start,s1.s.a.d,1,0⟩,⟨Nat.zero_le _,base.begin (by omega) hlo⟩,rfl,rfl,rfl⟩,fun s2 hs2 => bg (fun hj => ?_) fun hj => ?_⟩
      ·have hj : s2.j < 14 := by have := aQ hj; omega
       exact ⟨⟨s2.c,s2.d,s2.ph,_⟩,base.closing (by omega) hj hs2.2,⟨rfl,rfl⟩,fun y hy => ⟨by unfold I64; omega,⟨y.c,y.d,y.ph,s2.j + 1⟩,⟨hj,hy⟩,by show 14 - (s2.j + 1) < _; omega,by show ((s2.j + 1 : Nat) : Int) = _; omega,rfl,rfl⟩⟩
      ·have hj : s2.j = 14 := by have := aS hj; have := hs2.1; omega
       have hcs := hs2.2
       rw [hj] at hcs
       obtain ⟨hp0,hw⟩ := hcl _ _ _ hcs
       have fin : s1.k + 1 + (s1.r - 1)<=199 := by have := h.pos h7; omega
       have wr : ((s1.now + 1 : Nat) : Int) = IntKind.u64.wrap ((s1.now : Int) + 1) := by rw [iI (by omega) (by omega)]; rfl
       refine ⟨s1.s.a.Zh s2.c s2.d,⟨ha0,rfl,rfl,rfl,rfl,by rw [hp0]; rfl,rfl,rfl,rfl⟩,⟨⟨s1.s.a.Zh s2.c s2.d,s1.s.f,5⟩,0,s1.b 0,0,_⟩,⟨rfl,hw⟩,⟨rfl,rfl,rfl,h5.symm,(by repeat' (first | exact rfl | refine And.intro ?_ ?_))⟩,rfl,fun y hy => ?_,fun y hy => ?_⟩
       ·exact ⟨by unfold I64; omega,⟨y,n',s1.now + 1,s1.k + 1,s1.b,0,s1.r - 1⟩,⟨by show n'<=6; omega,KD.upTo hy (by show _<=40 * (200 + (s1.k + 1)) + 10; omega),fin⟩,by show 200 - (s1.k + 1) < _; omega,⟨by show ((s1.k + 1 : Nat) : Int) = _; omega,by show (n' : Int) = _; omega,wr⟩,(by repeat' (first | exact rfl | refine And.intro ?_ ?_)),rfl⟩
       ·exact ⟨by unfold I64; omega,⟨y,n',s1.now + 1,s1.k + 1,s1.b,1,s1.r - 1⟩,⟨by show n'<=6; omega,by show 1 ≠ 0; decide,hy.2,KD.upTo hy.1 (by show _<=40 * (200 + (s1.k + 1)) + 10; omega),fin⟩,by show 200 - (s1.k + 1) < _; omega,⟨by show ((s1.k + 1 : Nat) : Int) = _; omega,by show (n' : Int) = _; omega,wr⟩,⟨rfl,fun _ _ => rfl⟩,(by repeat' (first | exact rfl | refine And.intro ?_ ?_)),rfl⟩
     ·have hn0 := aS hn0
      have hw := h.next (by omega) (fun _ => by omega) h7
      exact ⟨⟨s1.s,0,s1.b 0,0,_⟩,⟨rfl,hw⟩,(by repeat' (first | exact rfl | refine And.intro ?_ ?_)),rfl,fun y hy => ⟨by unfold I64; omega,⟨y,s1.n,s1.now,s1.k + 1,s1.b,0,s1.r - 1⟩,asg y hy h7 hk2,by show 200 - (s1.k + 1) < _; omega,⟨by show ((s1.k + 1 : Nat) : Int) = _; omega,rfl,rfl⟩,(by repeat' (first | exact rfl | refine And.intro ?_ ?_)),rfl⟩,fun y hy => ⟨by unfold I64; omega,⟨y,s1.n,s1.now,s1.k + 1,s1.b,1,s1.r - 1⟩,ash y hy h7 hk2,by show 200 - (s1.k + 1) < _; omega,⟨by show ((s1.k + 1 : Nat) : Int) = _; omega,rfl,rfl⟩,⟨rfl,fun _ _ => rfl⟩,(by repeat' (first | exact rfl | refine And.intro ?_ ?_)),rfl⟩⟩
     ·have h5 := beq_eq_false_iff_ne.1 h5
      have hw := h.next (by omega) (fun e => absurd e h5) h7
      exact ⟨⟨s1.s,0,s1.b 0,0,_⟩,⟨rfl,hw⟩,(by repeat' (first | exact rfl | refine And.intro ?_ ?_)),rfl,fun y hy => ⟨by unfold I64; omega,⟨y,s1.n,s1.now,s1.k + 1,s1.b,0,s1.r - 1⟩,asg y hy h7 hk2,by show 200 - (s1.k + 1) < _; omega,⟨by show ((s1.k + 1 : Nat) : Int) = _; omega,rfl,rfl⟩,(by repeat' (first | exact rfl | refine And.intro ?_ ?_)),rfl⟩,fun y hy => ⟨by unfold I64; omega,⟨y,s1.n,s1.now,s1.k + 1,s1.b,1,s1.r - 1⟩,ash y hy h7 hk2,by show 200 - (s1.k + 1) < _; omega,⟨by show ((s1.k + 1 : Nat) : Int) = _; omega,rfl,rfl⟩,⟨rfl,fun _ _ => rfl⟩,(by repeat' (first | exact rfl | refine And.intro ?_ ?_)),rfl⟩⟩
    ·have h7 : s1.s.ph = 7 := by simpa using h7
     rcases h with ⟨_,h⟩ | ⟨_,_,base,hl0,ha2,hco,hae,han,_⟩
     ·exfalso
      rcases h with ⟨e,_⟩ | ⟨e,_⟩ | ⟨e,_⟩ | ⟨e,_⟩ | ⟨e,_⟩ | ⟨e,_⟩ <;> omega
     refine bg (fun e => absurd h7 (bne_iff_ne.1 e)) fun _ => bg (fun e => absurd hco (bne_iff_ne.1 e)) fun _ => bg (fun e => absurd hae (bne_iff_ne.1 e)) fun _ => bg (fun e => ?_) fun _ => ⟨by unfold I64; omega,s1.s.a,⟨by omega,by omega⟩,by rw [qh (by omega)],bg (fun _ => ⟨s1.s.a,rfl,s1.s.a.l,base.lok,rfl,bg (fun _ => trivial) fun e => absurd (beq_eq_false_iff_ne.1 e) (by omega)⟩) fun e => absurd (beq_eq_false_iff_ne.1 e) (by omega)⟩
     rw [han] at e
     simp at e
   ·obtain ⟨hn6,hm,hp,h,hk⟩ := hs1
    refine bg (fun hk2 => ?_) fun hk2 => absurd (aS hk2) (by omega)
    have hk2 : s1.k < 200 := by have := aQ hk2; omega
    have h7 : s1.s.ph ≠ 7 := by omega
    have hw := h.next (by omega) (fun e => by omega) h7
    have fin : s1.k + 1 + (s1.r - 1)<=199 := by have := h.pos h7; omega
    exact ⟨⟨s1.s,0,s1.b 0,s1.m,_⟩,⟨hm,hp,hw⟩,(by repeat' (first | exact rfl | refine And.intro ?_ ?_)),⟨rfl,rfl,fun _ _ => rfl⟩,fun y hy => ⟨by unfold I64; omega,⟨y,s1.n,s1.now,s1.k + 1,s1.b,0,s1.r - 1⟩,⟨hn6,KD.upTo hy (by show _<=40 * (200 + (s1.k + 1)) + 10; omega),fin⟩,by show 200 - (s1.k + 1) < _; omega,⟨by show ((s1.k + 1 : Nat) : Int) = _; omega,rfl,rfl⟩,(by repeat' (first | exact rfl | refine And.intro ?_ ?_)),rfl⟩,fun y hy => ⟨by unfold I64; omega,⟨y,s1.n,s1.now,s1.k + 1,s1.b,s1.m + 1,s1.r - 1⟩,⟨hn6,Nat.succ_ne_zero _,hy.2,KD.upTo hy.1 (by show _<=40 * (200 + (s1.k + 1)) + 10; omega),fin⟩,by show 200 - (s1.k + 1) < _; omega,⟨by show ((s1.k + 1 : Nat) : Int) = _; omega,rfl,rfl⟩,⟨rfl,fun _ _ => rfl⟩,(by repeat' (first | exact rfl | refine And.intro ?_ ?_)),rfl⟩⟩
theorem akG (x : ZEpX) : Sp Tryz.prog 4 [i64 x.many,.lit (.string x.v)] (hO 0 []) (fun v _ => v = boo true) :=
 (aq3 dD mixed ane (annEp x) 200 6 (v0 := boo true) (os := []) (Eq.mp (Zi x) (Qu x))).mono fun _ _ hh => hh.1
end Go.Proofs.YtenfleoejgjklaaGreat
end
