import Derived.Test.YtjndgegfonhhfaaWba
import Derived.Test.YtjndgegfonhhfaaWbb
import Derived.Test.YtjndgegfonhhfaaWbc
import Derived.Test.YtjndgegfonhhfaaWbd
import Derived.KernelRfl
set_option linter.unusedVariables false
set_option linter.unusedSimpArgs false
section
/- What is asked of ranges of a store. -/
namespace Go.Proofs.Ytjndgegfonhhfaa
open Go SE
def clonePVC_wp (x : ZP) : Prop := wpF Try.prog [] tt noAn 200 5 83 (clonePC.args x) (hO clonePC.k (clonePC.os x)) (fun v h' => endsP clonePC.k x v h' clonePC.outs)
def clonePVC (x : ZP) : Prop :=
  (cP x.z ((∃ (y : Unit), ((x.z = Bool.true) ∧ (((Value.slice none 0 0) = (Value.slice none 0 0)) ∧ (((x.row = x.row) ∧ (Bool.true = Bool.true)) ∧ True)))) ∨ (∃ (y : Unit), ((x.z = Bool.false) ∧ (False ∧ (((x.row = x.row) ∧ (Bool.true = Bool.true)) ∧ (False ∧ True)))))) (((0 + x.n) ≤ x.n) ∧ (cP (@Nat.beq x.n 0) ((∃ (y : Unit), ((x.z = Bool.true) ∧ (False ∧ (((x.row = x.row) ∧ (Bool.true = Bool.true)) ∧ True)))) ∨ (∃ (y : Unit), ((x.z = Bool.false) ∧ (((x.n = 0) ∧ ((0 = 0) ∧ (0 = 0))) ∧ (((x.row = x.row) ∧ (Bool.true = Bool.true)) ∧ (((0 = (x.n * 2)) ∧ (∀ (q : Nat), ((q < x.n) → ([(Value.string (@ZP.pk x q)), (Value.string (@ZP.pv x q))] = (@List.take Value 2 (@List.drop Value (q * 2) (@List.nil Value))))))) ∧ True)))))) (((((2 * (0 + x.n)) + 1000) * 32) ≤ 281474976710656) ∧ ((∃ (y : Unit), ((x.z = Bool.true) ∧ (False ∧ (((x.row = x.row) ∧ (Bool.true = Bool.true)) ∧ True)))) ∨ (∃ (y : Unit), ((x.z = Bool.false) ∧ (((0 = 0) ∧ (x.n = (0 + x.n))) ∧ (((x.row = x.row) ∧ (Bool.true = Bool.true)) ∧ (((x.n = (0 + x.n)) ∧ (∀ (q : Nat), ((q < x.n) → ([(Value.string (@ZP.pk x q)), (Value.string (@ZP.pv x q))] = [(Value.string (@ZP.pk x (0 + (q - 0)))), (Value.string (@ZP.pv x (0 + (q - 0))))])))) ∧ True))))))))))
theorem clonePVC_ok (x : ZP) : clonePVC x = clonePVC_wp x := by kernel_rfl
def cloneQVC_wp (x : ZQ) : Prop := wpF Try.prog [] tt noAn 200 5 84 (cloneQC.args x) (hO cloneQC.k (cloneQC.os x)) (fun v h' => endsP cloneQC.k x v h' cloneQC.outs)
def cloneQVC (x : ZQ) : Prop :=
  (cP x.z ((∃ (y : Unit), ((x.z = Bool.true) ∧ (((Value.slice none 0 0) = (Value.slice none 0 0)) ∧ (((x.row = x.row) ∧ (Bool.true = Bool.true)) ∧ True)))) ∨ (∃ (y : Unit), ((x.z = Bool.false) ∧ (False ∧ (((x.row = x.row) ∧ (Bool.true = Bool.true)) ∧ (False ∧ True)))))) (((0 + x.n) ≤ x.n) ∧ (cP (@Nat.beq x.n 0) ((∃ (y : Unit), ((x.z = Bool.true) ∧ (False ∧ (((x.row = x.row) ∧ (Bool.true = Bool.true)) ∧ True)))) ∨ (∃ (y : Unit), ((x.z = Bool.false) ∧ (((x.n = 0) ∧ ((0 = 0) ∧ (0 = 0))) ∧ (((x.row = x.row) ∧ (Bool.true = Bool.true)) ∧ (((0 = (x.n * 1)) ∧ (∀ (q : Nat), ((q < x.n) → ([(Value.string (@ZQ.qv x q))] = (@List.take Value 1 (@List.drop Value (q * 1) (@List.nil Value))))))) ∧ True)))))) (((((2 * (0 + x.n)) + 1000) * 16) ≤ 281474976710656) ∧ ((∃ (y : Unit), ((x.z = Bool.true) ∧ (False ∧ (((x.row = x.row) ∧ (Bool.true = Bool.true)) ∧ True)))) ∨ (∃ (y : Unit), ((x.z = Bool.false) ∧ (((0 = 0) ∧ (x.n = (0 + x.n))) ∧ (((x.row = x.row) ∧ (Bool.true = Bool.true)) ∧ (((x.n = (0 + x.n)) ∧ (∀ (q : Nat), ((q < x.n) → ([(Value.string (@ZQ.qv x q))] = [(Value.string (@ZQ.qv x (0 + (q - 0))))])))) ∧ True))))))))))
theorem cloneQVC_ok (x : ZQ) : cloneQVC x = cloneQVC_wp x := by kernel_rfl
def copiedVC_wp (x : Shf) : Prop := wpF Try.prog [(84, ctrT cloneQC), (83, ctrT clonePC)] tt noAn 200 5 55 (copiedC.args x) (hO copiedC.k (copiedC.os x)) (fun v h' => endsP copiedC.k x v h' copiedC.outs)
def copiedVC (x : Shf) : Prop :=
  (∃ (x_1 : @ZP), ((x_1.n < 1099511627776) ∧ ((((x_1.z = x.zp) ∧ ((0 = 0) ∧ (x_1.n = x.n))) ∧ True) ∧ ((((x_1.n = x.n) ∧ (∀ (q : Nat), ((q < x_1.n) → ([(Value.string (@ZP.pk x_1 q)), (Value.string (@ZP.pv x_1 q))] = [(Value.string (@Shf.pk x q)), (Value.string (@Shf.pv x q))])))) ∧ True) ∧ ((∀ (y : Unit), ((x_1.z = Bool.true) → ((((AV.slZ x.zq 1 0 1 x.m) = (AV.slZ x.zq 1 0 1 x.m)) ∧ True) ∧ (∃ (x_2 : @ZQ), ((x_2.n < 1099511627776) ∧ ((((x_2.z = x.zq) ∧ ((0 = 0) ∧ (x_2.n = x.m))) ∧ True) ∧ ((((x_2.n = x.m) ∧ (∀ (q : Nat), ((q < x_2.n) → ([(Value.string (@ZQ.qv x_2 q))] = [(Value.string (@Shf.qv x q))])))) ∧ True) ∧ ((∀ (y_1 : Unit), ((x_2.z = Bool.true) → (True ∧ (True ∧ ((∃ (y_2 : Unit), (((x.zp = Bool.true) ∧ (x.zq = Bool.true)) ∧ ((((Value.slice none 0 0) = (Value.slice none 0 0)) ∧ (((Value.slice none 0 0) = (Value.slice none 0 0)) ∧ True)) ∧ ((((rowP x) = (rowP x)) ∧ (Bool.true = Bool.true)) ∧ ((((@rowQ x) = (@rowQ x)) ∧ (Bool.true = Bool.true)) ∧ True))))) ∨ ((∃ (y_2 : Unit), (((x.zp = Bool.true) ∧ (x.zq = Bool.false)) ∧ ((((Value.slice none 0 0) = (Value.slice none 0 0)) ∧ (False ∧ True)) ∧ ((((rowP x) = (rowP x)) ∧ (Bool.true = Bool.true)) ∧ ((((@rowQ x) = (@rowQ x)) ∧ (Bool.true = Bool.true)) ∧ (False ∧ True)))))) ∨ ((∃ (y_2 : Unit), (((x.zp = Bool.false) ∧ (x.zq = Bool.true)) ∧ ((False ∧ (((Value.slice none 0 0) = (Value.slice none 0 0)) ∧ True)) ∧ ((((rowP x) = (rowP x)) ∧ (Bool.true = Bool.true)) ∧ ((((@rowQ x) = (@rowQ x)) ∧ (Bool.true = Bool.true)) ∧ (False ∧ True)))))) ∨ (∃ (y_2 : Unit), (((x.zp = Bool.false) ∧
 (x.zq = Bool.false)) ∧ ((False ∧ (False ∧ True)) ∧ ((((rowP x) = (rowP x)) ∧ (Bool.true = Bool.true)) ∧ ((((@rowQ x) = (@rowQ x)) ∧ (Bool.true = Bool.true)) ∧ (False ∧ (False ∧ True)))))))))))))) ∧ (∀ (y_1 : Unit), ((x_2.z = Bool.false) → (True ∧ (True ∧ ((∃ (y_2 : Unit), (((x.zp = Bool.true) ∧ (x.zq = Bool.true)) ∧ ((((Value.slice none 0 0) = (Value.slice none 0 0)) ∧ (False ∧ True)) ∧ ((((rowP x) = (rowP x)) ∧ (Bool.true = Bool.true)) ∧ ((((@rowQ x) = (@rowQ x)) ∧ (Bool.true = Bool.true)) ∧ True))))) ∨ ((∃ (y_2 : Unit), (((x.zp = Bool.true) ∧ (x.zq = Bool.false)) ∧ ((((Value.slice none 0 0) = (Value.slice none 0 0)) ∧ (((0 = 0) ∧ (x.m = x_2.n)) ∧ True)) ∧ ((((rowP x) = (rowP x)) ∧ (Bool.true = Bool.true)) ∧ ((((@rowQ x) = (@rowQ x)) ∧ (Bool.true = Bool.true)) ∧ (((x.m = x_2.n) ∧ (∀ (q : Nat), ((q < x.m) → ([(Value.string (@Shf.qv x q))] = [(Value.string (@ZQ.qv x_2 q))])))) ∧ True)))))) ∨ ((∃ (y_2 : Unit), (((x.zp = Bool.false) ∧ (x.zq = Bool.true)) ∧ ((False ∧ (False ∧ True)) ∧ ((((rowP x) = (rowP x)) ∧ (Bool.true = Bool.true)) ∧ ((((@rowQ x) = (@rowQ x)) ∧ (Bool.true = Bool.true)) ∧ (False ∧ True)))))) ∨ (∃ (y_2 : Unit), (((x.zp = Bool.false) ∧ (x.zq = Bool.false)) ∧ ((False ∧ (((0 = 0) ∧ (x.m = x_2.n)) ∧ True)) ∧ ((((rowP x) = (rowP x)) ∧ (Bool.true = Bool.true)) ∧ ((((@rowQ x) = (@rowQ x)) ∧ (Bool.true = Bool.true)) ∧ (False ∧ (((x.m = x_2.n) ∧ (∀ (q : Nat), ((q < x.m) → ([(Value.string (@Shf.qv x q))] = [(Value.string (@ZQ.qv x_2 q))])))) ∧ True)))))))))))))))))))))) ∧ (∀ (y : Unit), ((x_1.z = Bool.false) → ((((AV.slZ x.zq 1 0 1 x.m) = (AV.slZ x.zq 1 0 1 x.m)) ∧
 True) ∧ (∃ (x_2 : @ZQ), ((x_2.n < 1099511627776) ∧ ((((x_2.z = x.zq) ∧ ((0 = 0) ∧ (x_2.n = x.m))) ∧ True) ∧ ((((x_2.n = x.m) ∧ (∀ (q : Nat), ((q < x_2.n) → ([(Value.string (@ZQ.qv x_2 q))] = [(Value.string (@Shf.qv x q))])))) ∧ True) ∧ ((∀ (y_1 : Unit), ((x_2.z = Bool.true) → (True ∧ (True ∧ ((∃ (y_2 : Unit), (((x.zp = Bool.true) ∧ (x.zq = Bool.true)) ∧ ((False ∧ (((Value.slice none 0 0) = (Value.slice none 0 0)) ∧ True)) ∧ ((((rowP x) = (rowP x)) ∧ (Bool.true = Bool.true)) ∧ ((((@rowQ x) = (@rowQ x)) ∧ (Bool.true = Bool.true)) ∧ True))))) ∨ ((∃ (y_2 : Unit), (((x.zp = Bool.true) ∧ (x.zq = Bool.false)) ∧ ((False ∧ (False ∧ True)) ∧ ((((rowP x) = (rowP x)) ∧ (Bool.true = Bool.true)) ∧ ((((@rowQ x) = (@rowQ x)) ∧ (Bool.true = Bool.true)) ∧ (False ∧ True)))))) ∨ ((∃ (y_2 : Unit), (((x.zp = Bool.false) ∧ (x.zq = Bool.true)) ∧ ((((0 = 0) ∧ (x.n = x_1.n)) ∧ (((Value.slice none 0 0) = (Value.slice none 0 0)) ∧ True)) ∧ ((((rowP x) = (rowP x)) ∧ (Bool.true = Bool.true)) ∧ ((((@rowQ x) = (@rowQ x)) ∧ (Bool.true = Bool.true)) ∧ (((x.n = x_1.n) ∧ (∀ (q : Nat), ((q < x.n) → ([(Value.string (@Shf.pk x q)), (Value.string (@Shf.pv x q))] = [(Value.string (@ZP.pk x_1 q)), (Value.string (@ZP.pv x_1 q))])))) ∧ True)))))) ∨ (∃ (y_2 : Unit), (((x.zp = Bool.false) ∧ (x.zq = Bool.false)) ∧ ((((0 = 0) ∧ (x.n = x_1.n)) ∧ (False ∧ True)) ∧ ((((rowP x) = (rowP x)) ∧ (Bool.true = Bool.true)) ∧ ((((@rowQ x) = (@rowQ x)) ∧ (Bool.true = Bool.true)) ∧ (((x.n = x_1.n) ∧ (∀ (q : Nat), ((q < x.n) → ([(Value.string (@Shf.pk x q)), (Value.string (@Shf.pv x q))] = [(Value.string (@ZP.pk x_1 q)), (Value.string (@ZP.pv x_1 q))])))) ∧
 (False ∧ True)))))))))))))) ∧ (∀ (y_1 : Unit), ((x_2.z = Bool.false) → (True ∧ (True ∧ ((∃ (y_2 : Unit), (((x.zp = Bool.true) ∧ (x.zq = Bool.true)) ∧ ((False ∧ (False ∧ True)) ∧ ((((rowP x) = (rowP x)) ∧ (Bool.true = Bool.true)) ∧ ((((@rowQ x) = (@rowQ x)) ∧ (Bool.true = Bool.true)) ∧ True))))) ∨ ((∃ (y_2 : Unit), (((x.zp = Bool.true) ∧ (x.zq = Bool.false)) ∧ ((False ∧ (((0 = 0) ∧ (x.m = x_2.n)) ∧ True)) ∧ ((((rowP x) = (rowP x)) ∧ (Bool.true = Bool.true)) ∧ ((((@rowQ x) = (@rowQ x)) ∧ (Bool.true = Bool.true)) ∧ (((x.m = x_2.n) ∧ (∀ (q : Nat), ((q < x.m) → ([(Value.string (@Shf.qv x q))] = [(Value.string (@ZQ.qv x_2 q))])))) ∧ True)))))) ∨ ((∃ (y_2 : Unit), (((x.zp = Bool.false) ∧ (x.zq = Bool.true)) ∧ ((((0 = 0) ∧ (x.n = x_1.n)) ∧ (False ∧ True)) ∧ ((((rowP x) = (rowP x)) ∧ (Bool.true = Bool.true)) ∧ ((((@rowQ x) = (@rowQ x)) ∧ (Bool.true = Bool.true)) ∧ (((x.n = x_1.n) ∧ (∀ (q : Nat), ((q < x.n) → ([(Value.string (@Shf.pk x q)), (Value.string (@Shf.pv x q))] = [(Value.string (@ZP.pk x_1 q)), (Value.string (@ZP.pv x_1 q))])))) ∧ True)))))) ∨ (∃ (y_2 : Unit), (((x.zp = Bool.false) ∧ (x.zq = Bool.false)) ∧ ((((0 = 0) ∧ (x.n = x_1.n)) ∧ (((0 = 0) ∧ (x.m = x_2.n)) ∧ True)) ∧ ((((rowP x) = (rowP x)) ∧ (Bool.true = Bool.true)) ∧ ((((@rowQ x) = (@rowQ x)) ∧ (Bool.true = Bool.true)) ∧ (((x.n = x_1.n) ∧ (∀ (q : Nat), ((q < x.n) → ([(Value.string (@Shf.pk x q)), (Value.string (@Shf.pv x q))] = [(Value.string (@ZP.pk x_1 q)), (Value.string (@ZP.pv x_1 q))])))) ∧ (((x.m = x_2.n) ∧ (∀ (q : Nat), ((q < x.m) → ([(Value.string (@Shf.qv x q))] = [(Value.string (@ZQ.qv x_2 q))])))) ∧
 True)))))))))))))))))))))))))))
theorem copiedVC_ok (x : Shf) : copiedVC x = copiedVC_wp x := by kernel_rfl
def scanNVC_wp (x : SK2 × BA) : Prop := wpF Try.prog tblX tt noAn 200 7 93 (scanNC.args x) (hO scanNC.k (scanNC.os x)) (fun v h' => endsP scanNC.k x v h' scanNC.outs)
def scanNVC (x : SK2 × BA) : Prop :=
  (∃ (y : Unit), (True ∧ (True ∧ ((((Value.slice none 0 0) = (Value.slice none 0 0)) ∧ (True ∧ True)) ∧ ((((0 : Int) = (0 : Int)) ∧ ((Bool.false = Bool.false) ∧ ((es = es) ∧ (((Value.slice none 0 0) = (Value.slice none 0 0)) ∧ (((Value.slice none 0 0) = (Value.slice none 0 0)) ∧ (((0 : Int) = (0 : Int)) ∧ True)))))) ∧ True)))))
theorem scanNVC_ok (x : SK2 × BA) : scanNVC x = scanNVC_wp x := by kernel_rfl
def scanVC_wp (x : SK2 × BA) : Prop := wpF Try.prog tblX tt (anScan x.1) 200 7 93 (scanC.args x) (hO scanC.k (scanC.os x)) (fun v h' => endsP scanC.k x v h' scanC.outs)
def scanVC_10 (x : SK2 × BA) : Prop := (((6 : Int) = (6 : Int)) ∧ ((x.1.key = x.1.key) ∧ ((x.2 = x.2) ∧ ((x.1.to = x.1.to) ∧ (True ∧ True)))))
def scanVC_11 (x : SK2 × BA) : Prop := (((rowP x.1.s) = (rowP x.1.s)) ∧ (Bool.true = Bool.true))
def scanVC_12 (x : SK2 × BA) : Prop := (((0 = 0) ∧ (x.1.s.n = x.1.s.n)) ∧ (True ∧ True))
def scanVC_8 (x : SK2 × BA) : Prop := (((Value.slice none 0 0) = (Value.slice none 0 0)) ∧ (((0 : Int) = (0 : Int)) ∧ True))
def scanVC_16 (x : SK2 × BA) : Prop := (((0 : Int) = (0 : Int)) ∧ ((Bool.false = Bool.false) ∧ ((es = es) ∧ (False ∧ (scanVC_8 x)))))
def scanVC_1 (x : SK2 × BA) : Prop := ((scanVC_10 x) ∧ ((scanVC_11 x) ∧ ((scanVC_16 x) ∧ ((scanVC_12 x) ∧ True))))
def scanVC_15 (x : SK2 × BA) (s : Nat) (s_1 : Nat) : Prop := ((((s_1 : Nat) : Int) = (((s : Nat) : Int) + (1 : Int))) ∧ True)
def scanVC_2 (x : SK2 × BA) (s : Nat) : Prop := (∃ (s_1 : Nat), ((s_1 ≤ x.1.s.n) ∧ (((x.1.s.n - s_1) < (x.1.s.n - s)) ∧ ((scanVC_15 x s s_1) ∧ ((((@List.length Nat (@selL x.1.s x.1.key x.1.to s_1)) = ((@List.length Nat (@selL x.1.s x.1.key x.1.to s)) + (@List.length (@List Value) [(@List.take Value 2 [(Value.string (@Shf.pk x.1.s (0 + s))), (Value.string (@Shf.pv x.1.s (0 + s)))])]))) ∧ (∀ (q : Nat), ((q < (@List.length Nat (@selL x.1.s x.1.key x.1.to s_1))) → ([(Value.string (@Shf.pk x.1.s (@List.getD Nat (@selL x.1.s x.1.key x.1.to s_1) q 0))), (Value.string (@Shf.pv x.1.s (@List.getD Nat (@selL x.1.s x.1.key x.1.to s_1) q 0)))] = (@Cs.eff (fun (k : Nat) => [(Value.string (@Shf.pk x.1.s (@List.getD Nat (@selL x.1.s x.1.key x.1.to s) k 0))), (Value.string (@Shf.pv x.1.s (@List.getD Nat (@selL x.1.s x.1.key x.1.to s) k 0)))]) [(@Prod.mk Nat (@List Value) (@List.length Nat (@selL x.1.s x.1.key x.1.to s)) (@List.take Value 2 [(Value.string (@Shf.pk x.1.s (0 + s))), (Value.string (@Shf.pv x.1.s (0 + s)))]))] q))))) ∧ ((scanVC_10 x) ∧ ((scanVC_11 x) ∧ ((((0 : Int) = (0 : Int)) ∧ ((Bool.false = Bool.false) ∧ ((es = es) ∧ (((0 = 0) ∧ ((@List.length Nat (@selL x.1.s x.1.key x.1.to s_1)) = ((@List.length Nat (@selL x.1.s x.1.key x.1.to s)) + 1))) ∧ (scanVC_8 x))))) ∧ ((scanVC_12 x) ∧ True)))))))))
def scanVC_3 (x : SK2 × BA) (s : Nat) : Prop := (∃ (s_1 : Nat), ((s_1 ≤ x.1.s.n) ∧ (((x.1.s.n - s_1) < (x.1.s.n - s)) ∧ ((scanVC_15 x s s_1) ∧ ((((@List.length Nat (@selL x.1.s x.1.key x.1.to s_1)) = (0 + (@List.length (@List Value) [(@List.take Value 2 [(Value.string (@Shf.pk x.1.s (0 + s))), (Value.string (@Shf.pv x.1.s (0 + s)))])]))) ∧ (∀ (q : Nat), ((q < (@List.length Nat (@selL x.1.s x.1.key x.1.to s_1))) → ([(Value.string (@Shf.pk x.1.s (@List.getD Nat (@selL x.1.s x.1.key x.1.to s_1) q 0))), (Value.string (@Shf.pv x.1.s (@List.getD Nat (@selL x.1.s x.1.key x.1.to s_1) q 0)))] = (@Cs.eff (fun (x_1 : Nat) => (@List.nil Value)) [(@Prod.mk Nat (@List Value) 0 (@List.take Value 2 [(Value.string (@Shf.pk x.1.s (0 + s))), (Value.string (@Shf.pv x.1.s (0 + s)))]))] q))))) ∧ ((scanVC_10 x) ∧ ((scanVC_11 x) ∧ ((((0 : Int) = (0 : Int)) ∧ ((Bool.false = Bool.false) ∧ ((es = es) ∧ (((0 = 0) ∧ ((@List.length Nat (@selL x.1.s x.1.key x.1.to s_1)) = 1)) ∧ (scanVC_8 x))))) ∧ ((scanVC_12 x) ∧ True)))))))))
def scanVC_4 (x : SK2 × BA) (s : Nat) : Prop := (∃ (s_1 : Nat), ((s_1 ≤ x.1.s.n) ∧ (((x.1.s.n - s_1) < (x.1.s.n - s)) ∧ ((scanVC_15 x s s_1) ∧ ((((@List.length Nat (@selL x.1.s x.1.key x.1.to s_1)) = (@List.length Nat (@selL x.1.s x.1.key x.1.to s))) ∧ (∀ (q : Nat), ((q < (@List.length Nat (@selL x.1.s x.1.key x.1.to s_1))) → ([(Value.string (@Shf.pk x.1.s (@List.getD Nat (@selL x.1.s x.1.key x.1.to s_1) q 0))), (Value.string (@Shf.pv x.1.s (@List.getD Nat (@selL x.1.s x.1.key x.1.to s_1) q 0)))] = [(Value.string (@Shf.pk x.1.s (@List.getD Nat (@selL x.1.s x.1.key x.1.to s) q 0))), (Value.string (@Shf.pv x.1.s (@List.getD Nat (@selL x.1.s x.1.key x.1.to s) q 0)))])))) ∧ ((scanVC_10 x) ∧ ((scanVC_11 x) ∧ ((((0 : Int) = (0 : Int)) ∧ ((Bool.false = Bool.false) ∧ ((es = es) ∧ (((0 = 0) ∧ ((@List.length Nat (@selL x.1.s x.1.key x.1.to s_1)) = (@List.length Nat (@selL x.1.s x.1.key x.1.to s)))) ∧ (scanVC_8 x))))) ∧ ((scanVC_12 x) ∧ True)))))))))
def scanVC_17 (x : SK2 × BA) : Prop := (((0 : Int) = (0 : Int)) ∧ ((Bool.false = Bool.false) ∧ ((es = es) ∧ (((Value.slice none 0 0) = (Value.slice none 0 0)) ∧ (scanVC_8 x)))))
def scanVC_5 (x : SK2 × BA) : Prop := ((scanVC_10 x) ∧ ((scanVC_11 x) ∧ ((scanVC_17 x) ∧ ((scanVC_12 x) ∧ True))))
def scanVC_6 (x : SK2 × BA) (s : Nat) (s_1 : Nat) : Prop := (((@List.length Value [(Value.string (@Shf.pk x.1.s (0 + s))), (Value.string (@Shf.pv x.1.s (0 + s)))]) = ((@List.length Nat (@selL x.1.s x.1.key x.1.to s_1)) * 2)) ∧ (∀ (q : Nat), ((q < (@List.length Nat (@selL x.1.s x.1.key x.1.to s_1))) → ([(Value.string (@Shf.pk x.1.s (@List.getD Nat (@selL x.1.s x.1.key x.1.to s_1) q 0))), (Value.string (@Shf.pv x.1.s (@List.getD Nat (@selL x.1.s x.1.key x.1.to s_1) q 0)))] = (@List.take Value 2 (@List.drop Value (q * 2) [(Value.string (@Shf.pk x.1.s (0 + s))), (Value.string (@Shf.pv x.1.s (0 + s)))]))))))
def scanVC_7 (x : SK2 × BA) (s : Nat) : Prop := (∃ (s_1 : Nat), (((s_1 ≤ x.1.s.n) ∧ (Hd ((@selL x.1.s x.1.key x.1.to s_1) = (@List.nil Nat)))) ∧ (((x.1.s.n - s_1) < (x.1.s.n - s)) ∧ ((scanVC_15 x s s_1) ∧ (scanVC_1 x)))))
def scanVC_9 (x : SK2 × BA) (s : Nat) : Prop := ((I64 (((s : Nat) : Int) + (1 : Int))) ∧ ((∃ (s_1 : Nat), (((s_1 ≤ x.1.s.n) ∧ (Hd ((@selL x.1.s x.1.key x.1.to s_1) = (@List.nil Nat)))) ∧ (((x.1.s.n - s_1) < (x.1.s.n - s)) ∧ ((scanVC_15 x s s_1) ∧ (scanVC_5 x))))) ∨ (∃ (s_1 : Nat), ((s_1 ≤ x.1.s.n) ∧ (((x.1.s.n - s_1) < (x.1.s.n - s)) ∧ ((scanVC_15 x s s_1) ∧ ((scanVC_6 x s s_1) ∧ (scanVC_1 x))))))))
def scanVC_13 (x : SK2 × BA) (s : Nat) : Prop := ((((AV.slW 4 0 2 (@List.length Nat (@selL x.1.s x.1.key x.1.to s))) = (AV.slW 4 0 2 (@List.length Nat (@selL x.1.s x.1.key x.1.to s)))) ∧ True) ∧ (((@List.length Nat (@selL x.1.s x.1.key x.1.to s)) = (@List.length Nat (@selL x.1.s x.1.key x.1.to s))) ∧ (((@List.all (@List Value) [(@List.take Value 2 [(Value.string (@Shf.pk x.1.s (0 + s))), (Value.string (@Shf.pv x.1.s (0 + s)))])] (fun (l : (@List Value)) => (@Bool.and (@Nat.beq (@List.length Value l) 2) (@List.all Value l @Value.oneCell')))) = Bool.true) ∧ (((((2 * ((@List.length Nat (@selL x.1.s x.1.key x.1.to s)) + 1)) + 1000) * 32) ≤ 281474976710656) ∧ (True ∧ (True ∧ ((I64 (((s : Nat) : Int) + (1 : Int))) ∧ ((scanVC_7 x s) ∨ (scanVC_2 x s)))))))))
def scanVC_14 (x : SK2 × BA) (s : Nat) : Prop := ((((AV.lit (Value.slice none 0 0)) = (AV.lit (Value.slice none 0 0))) ∧ True) ∧ (((((2 * (0 + 1)) + 1000) * 32) ≤ 281474976710656) ∧ (True ∧ (True ∧ ((I64 (((s : Nat) : Int) + (1 : Int))) ∧ ((scanVC_7 x s) ∨ (scanVC_3 x s)))))))
def scanVC (x : SK2 × BA) : Prop :=
  (((∃ (s : Nat), (((s ≤ x.1.s.n) ∧ (Hd ((@selL x.1.s x.1.key x.1.to s) = (@List.nil Nat)))) ∧ (True ∧ (((((s : Nat) : Int) = (0 : Int)) ∧ True) ∧ (scanVC_5 x))))) ∨ (∃ (s : Nat), ((s ≤ x.1.s.n) ∧ (True ∧ (((((s : Nat) : Int) = (0 : Int)) ∧ True) ∧ (False ∧ (scanVC_1 x))))))) ∧ ((∀ (s : Nat), (((s ≤ x.1.s.n) ∧ (Hd ((@selL x.1.s x.1.key x.1.to s) = (@List.nil Nat)))) → (cP (decide (((s : Nat) : Int) < ((x.1.s.n : Nat) : Int))) ((((0 : Int) ≤ ((s : Nat) : Int)) ∧ (((s : Nat) : Int) < ((x.1.s.n : Nat) : Int))) ∧ (((0 + s) < x.1.s.n) ∧ (cP (decide (@GE.ge Int @Int.instLEInt (@cmpM (@Shf.pk x.1.s (0 + s)) x.1.key) (0 : Int))) (cP (@BEq.beq (@List UInt8) (@List.instBEq UInt8 (@instBEqOfDecidableEq UInt8 @instDecidableEqUInt8)) (@ByteArray.toList x.1.to) (@ByteArray.toList (@ByteArray.mk (@List.toArray UInt8 (@List.nil UInt8))))) (scanVC_14 x s) (cP (decide ((@cmpM (@Shf.pk x.1.s (0 + s)) x.1.to) < (0 : Int))) (scanVC_14 x s) (scanVC_9 x s))) (scanVC_9 x s)))) ((∃ (y : Unit), ((Hd (x.1.sel = (@List.nil Nat))) ∧ (True ∧ ((scanVC_12 x) ∧ ((scanVC_17 x) ∧ ((scanVC_11 x) ∧ True)))))) ∨ (∃ (y : Unit), (True ∧ (True ∧ ((scanVC_12 x) ∧ ((scanVC_16 x) ∧ ((scanVC_11 x) ∧ (False ∧ True))))))))))) ∧ ((∀ (s : Nat), ((s ≤ x.1.s.n) → (cP (decide (((s : Nat) : Int) < ((x.1.s.n : Nat) : Int))) ((((0 : Int) ≤ ((s : Nat) : Int)) ∧ (((s : Nat) : Int) < ((x.1.s.n : Nat) : Int))) ∧ (((0 + s) < x.1.s.n) ∧ (cP (decide (@GE.ge Int @Int.instLEInt (@cmpM (@Shf.pk x.1.s (0 + s)) x.1.key) (0 : Int))) (cP (@BEq.beq (@List UInt8) (@List.instBEq UInt8 (@instBEqOfDecidableEq UInt8 @instDecidableEqUInt8)) (@ByteArray.toList x.1.to) (@ByteArray.toList (@ByteArray.mk (@List.toArray UInt8 (@List.nil UInt8))))) (scanVC_13 x s) (cP (decide ((@cmpM (@Shf.pk x.1.s (0 + s)) x.1.to) < (0 : Int))) (scanVC_13 x s) ((I64 (((s : Nat) : Int) + (1 : Int))) ∧
 ((scanVC_7 x s) ∨ (scanVC_4 x s))))) ((I64 (((s : Nat) : Int) + (1 : Int))) ∧ ((scanVC_7 x s) ∨ (scanVC_4 x s)))))) ((∃ (y : Unit), ((Hd (x.1.sel = (@List.nil Nat))) ∧ (True ∧ ((scanVC_12 x) ∧ ((scanVC_16 x) ∧ ((scanVC_11 x) ∧ True)))))) ∨ (∃ (y : Unit), (True ∧ (True ∧ ((scanVC_12 x) ∧ ((((0 : Int) = (0 : Int)) ∧ ((Bool.false = Bool.false) ∧ ((es = es) ∧ (((0 = 0) ∧ ((@List.length Nat x.1.sel) = (@List.length Nat (@selL x.1.s x.1.key x.1.to s)))) ∧ (scanVC_8 x))))) ∧ ((scanVC_11 x) ∧ ((((@List.length Nat x.1.sel) = (@List.length Nat (@selL x.1.s x.1.key x.1.to s))) ∧ (∀ (q : Nat), ((q < (@List.length Nat x.1.sel)) → ([(Value.string (@Shf.pk x.1.s (@List.getD Nat x.1.sel q 0))), (Value.string (@Shf.pv x.1.s (@List.getD Nat x.1.sel q 0)))] = [(Value.string (@Shf.pk x.1.s (@List.getD Nat (@selL x.1.s x.1.key x.1.to s) q 0))), (Value.string (@Shf.pv x.1.s (@List.getD Nat (@selL x.1.s x.1.key x.1.to s) q 0)))])))) ∧ True))))))))))) ∧ True)))
theorem scanVC_ok (x : SK2 × BA) : scanVC x = scanVC_wp x := by kernel_rfl
end Go.Proofs.Ytjndgegfonhhfaa
end
section
/- Ranges of a store: what is asked is so. -/
namespace Go.Proofs.Ytjndgegfonhhfaa
open Go SE
theorem clonePVC_true (x : ZP) (hx : x.n < 1099511627776) : clonePVC x := by
  unfold clonePVC
  simp only [hd_iff, and_true, true_and, Nat.zero_add, Nat.add_zero, unit_ex, unit_all, true_implies, implies_true, Int.toNat_natCast, eq_self, and_self]
  refine cP_intro (fun h => .inl h) (fun h => ⟨by omega, cP_intro (fun h0 => .inr ?_) (fun h0 => ⟨by omega, .inr ?_⟩)⟩)
  · have h0 := Nat.eq_of_beq_eq_true h0
    exact ⟨h, h0, by omega, fun q hq => by omega⟩
  · refine ⟨h, fun q hq => ?_⟩
    rfl
theorem cloneQVC_true (x : ZQ) (hx : x.n < 1099511627776) : cloneQVC x := by
  unfold cloneQVC
  simp only [hd_iff, and_true, true_and, Nat.zero_add, Nat.add_zero, unit_ex, unit_all, true_implies, implies_true, Int.toNat_natCast, eq_self, and_self]
  refine cP_intro (fun h => .inl h) (fun h => ⟨by omega, cP_intro (fun h0 => .inr ?_) (fun h0 => ⟨by omega, .inr ?_⟩)⟩)
  · have h0 := Nat.eq_of_beq_eq_true h0
    exact ⟨h, h0, by omega, fun q hq => by omega⟩
  · refine ⟨h, fun q hq => ?_⟩
    rfl
theorem copiedVC_true (s : Shf) (hs : s.small) : copiedVC s := by
  unfold copiedVC
  simp only [hd_iff, and_true, true_and, Nat.zero_add, Nat.add_zero, unit_ex, unit_all, true_implies, implies_true, Int.toNat_natCast, eq_self, and_self]
  have hn := hs.1
  have hm := hs.2.1
  refine ⟨⟨s.zp, s.n, s.pk, s.pv⟩, by dsimp only; omega, ⟨rfl, rfl⟩, ⟨rfl, fun _ _ => rfl⟩, fun hp => ⟨⟨s.zq, s.m, s.qv⟩, by dsimp only; omega, ⟨rfl, rfl⟩, ⟨rfl, fun _ _ => rfl⟩, fun hq => ?_, fun hq => ?_⟩, fun hp => ⟨⟨s.zq, s.m, s.qv⟩, by dsimp only; omega, ⟨rfl, rfl⟩, ⟨rfl, fun _ _ => rfl⟩, fun hq => ?_, fun hq => ?_⟩⟩
  all_goals dsimp only at hp hq
  all_goals simp [hp, hq]
theorem clonePC_ok : CtrOk Try.prog 83 clonePC := ctr_endL tt_ok mixed TblOk.nil (C := clonePC) (fun _ => noAn) 200 5 (fun _ => rfl) (fun _ => ⟨fun _ => rfl, fun _ => rfl, trivial⟩) fun x hx => Eq.mp (clonePVC_ok x) (clonePVC_true x hx)
theorem cloneQC_ok : CtrOk Try.prog 84 cloneQC := ctr_endL tt_ok mixed TblOk.nil (C := cloneQC) (fun _ => noAn) 200 5 (fun _ => rfl) (fun _ => ⟨fun _ => rfl, fun _ => rfl, trivial⟩) fun x hx => Eq.mp (cloneQVC_ok x) (cloneQVC_true x hx)
theorem copied_ok : CtrOk Try.prog 55 copiedC := ctr_endL tt_ok mixed (.cons (ctrT_ok cloneQC_ok) (.cons (ctrT_ok clonePC_ok) .nil)) (C := copiedC) (fun _ => noAn) 200 5 (fun _ => rfl) (fun _ => ⟨fun _ => rfl, fun _ => rfl, fun _ => rfl, fun _ => rfl, trivial⟩) fun x hx => Eq.mp (copiedVC_ok x) (copiedVC_true x (hd_iff.1 hx))
theorem sel_in {s : Shf} {k t : BA} {i : Nat} (h : inM s k t i = true) : selL s k t (i + 1) = selL s k t i ++ [i] := by simp [selL, h]
theorem sel_out {s : Shf} {k t : BA} {i : Nat} (h : inM s k t i = false) : selL s k t (i + 1) = selL s k t i := by simp [selL, h]
theorem sel_le (s : Shf) (k t : BA) : ∀ i, (selL s k t i).length ≤ i
  | 0 => by simp [selL]
  | i + 1 => by
    have := sel_le s k t i
    cases h : inM s k t i with
    | true => rw [sel_in h]; simp; omega
    | false => rw [sel_out h]; omega
theorem getD_app (L : List Nat) (i q : Nat) : (L ++ [i]).getD q 0 = if q < L.length then L.getD q 0 else if q = L.length then i else 0 := by
  simp only [List.getD_eq_getElem?_getD, List.getElem?_append]
  split
  · rfl
  · rename_i h
    split
    · rename_i h2; subst h2; simp
    · rename_i h2
      have : 1 ≤ q - L.length := by omega
      rw [List.getElem?_eq_none (by simpa using this)]; rfl
theorem scanNVC_true (x : SK2 × BA) : scanNVC x := by
  unfold scanNVC
  exact ⟨(), trivial, trivial, ⟨rfl, trivial, trivial⟩, ⟨rfl, rfl, rfl, rfl, rfl, rfl, trivial⟩, trivial⟩
theorem cmp_key (s : Shf) (key : BA) (i : Nat) : decide (cmpM (s.pk i) key ≥ 0) = !lsB (s.pk i) key := by
  have := cmpM_less (s.pk i) key
  unfold lsB
  cases h : Op.bytesLess (s.pk i).toList key.toList with
  | true => have := this.2 h; simp; omega
  | false =>
    have : ¬ cmpM (s.pk i) key < 0 := fun hh => by rw [this.1 hh] at h; cases h
    simp; omega
theorem cmp_to (s : Shf) (to : BA) (i : Nat) : decide (cmpM (s.pk i) to < 0) = lsB (s.pk i) to := by
  have := cmpM_less (s.pk i) to
  unfold lsB
  cases h : Op.bytesLess (s.pk i).toList to.toList with
  | true => have := this.2 h; simp; omega
  | false =>
    have : ¬ cmpM (s.pk i) to < 0 := fun hh => by rw [this.1 hh] at h; cases h
    simp; omega
theorem scanVC_true (x : SK2 × BA) (hx : x.1.ok) : scanVC x := by
  obtain ⟨⟨s, key, to⟩, v⟩ := x
  unfold scanVC
  simp only [scanVC_10, scanVC_11, scanVC_12, scanVC_8, scanVC_16, scanVC_1, scanVC_15, scanVC_2, scanVC_3, scanVC_4, scanVC_17, scanVC_5, scanVC_6, scanVC_7, scanVC_9, scanVC_13, scanVC_14]
  have et : ∀ t : BA, (t.toList == (ByteArray.mk #[]).toList) = emp t := fun _ => rfl
  simp only [hd_iff, and_true, true_and, Nat.zero_add, Nat.add_zero, unit_ex, unit_all, true_implies, implies_true, Int.toNat_natCast, eq_self, and_self, SK2.sel, cmp_key, cmp_to, et]
  have hn : s.n ≤ 40 := hx.1.1
  have one : ∀ i, selL s key to i = [] → inM s key to i = true → ((selL s key to (i + 1)).length = [List.take 2 [Value.string (s.pk i), Value.string (s.pv i)]].length ∧ ∀ q, q < (selL s key to (i + 1)).length →
      [Value.string (s.pk ((selL s key to (i + 1)).getD q 0)), Value.string (s.pv ((selL s key to (i + 1)).getD q 0))] = Cs.eff (fun _ => []) [(0, List.take 2 [Value.string (s.pk i), Value.string (s.pv i)])] q) ∧ (selL s key to (i + 1)).length = 1 := fun i h0 hin => by
    rw [sel_in hin, h0]
    refine ⟨⟨rfl, fun q hq => ?_⟩, rfl⟩
    have : q = 0 := by simpa using hq
    subst this; rfl
  have more : ∀ i, inM s key to i = true → ((selL s key to (i + 1)).length = (selL s key to i).length + [List.take 2 [Value.string (s.pk i), Value.string (s.pv i)]].length ∧ ∀ q, q < (selL s key to (i + 1)).length →
      [Value.string (s.pk ((selL s key to (i + 1)).getD q 0)), Value.string (s.pv ((selL s key to (i + 1)).getD q 0))] = Cs.eff (fun k => [Value.string (s.pk ((selL s key to i).getD k 0)), Value.string (s.pv ((selL s key to i).getD k 0))]) [((selL s key to i).length, List.take 2 [Value.string (s.pk i), Value.string (s.pv i)])] q) ∧ (selL s key to (i + 1)).length = (selL s key to i).length + 1 := fun i hin => by
    rw [sel_in hin]
    refine ⟨⟨by simp, fun q hq => ?_⟩, by simp⟩
    simp only [List.length_append, List.length_singleton] at hq
    simp only [Cs.eff]
    rw [getD_app]
    cases hb : Nat.beq q (selL s key to i).length with
    | true =>
      have := Nat.eq_of_beq_eq_true hb; subst this
      simp only [Nat.lt_irrefl, if_false, if_true, cond_true]; rfl
    | false =>
      have : q ≠ (selL s key to i).length := fun h => by rw [h, Nat.beq_refl] at hb; cases hb
      rw [if_pos (by omega)]; rfl
  have inT : ∀ i, lsB (s.pk i) key = false → (emp to = true ∨ lsB (s.pk i) to = true) → inM s key to i = true := fun i h1 h2 => by
    unfold inM; rw [h1]; rcases h2 with h | h <;> rw [h] <;> simp
  have inF1 : ∀ i, lsB (s.pk i) key = true → inM s key to i = false := fun i h1 => by unfold inM; rw [h1]; rfl
  have inF2 : ∀ i, emp to = false → lsB (s.pk i) to = false → inM s key to i = false := fun i h1 h2 => by unfold inM; rw [h1, h2]; simp
  have I : ∀ i : Nat, (i : Int) < s.n → I64 ((i : Int) + 1) := fun i h => by unfold I64; omega
  refine ⟨.inl ⟨0, ⟨by omega, rfl⟩, rfl⟩, fun i ⟨hi, hs⟩ => ?_, fun i hi => ?_⟩
  · refine cP_intro (fun hb => ?_) (fun hb => ?_)
    · have hb := of_decide_eq_true hb
      have stay : inM s key to i = false → I64 ((i : Int) + 1) ∧ ∃ q : Nat, (q ≤ s.n ∧ selL s key to q = []) ∧ s.n - q < s.n - i ∧ (q : Int) = (i : Int) + 1 := fun h => ⟨I i hb, i + 1, ⟨by omega, by rw [sel_out h]; exact hs⟩, by omega, rfl⟩
      refine ⟨⟨by omega, hb⟩, by omega, cP_intro (fun h1 => cP_intro (fun h2 => ?_) (fun h2 => cP_intro (fun h3 => ?_) (fun h3 => ?_))) (fun h1 => ?_)⟩
      · have h1 : lsB (s.pk i) key = false := by simpa using h1
        exact ⟨by omega, I i hb, .inr ⟨i + 1, by omega, by omega, rfl, one i hs (inT i h1 (.inl h2))⟩⟩
      · have h1 : lsB (s.pk i) key = false := by simpa using h1
        exact ⟨by omega, I i hb, .inr ⟨i + 1, by omega, by omega, rfl, one i hs (inT i h1 (.inr h3))⟩⟩
      · exact ⟨(stay (inF2 i h2 h3)).1, .inl (stay (inF2 i h2 h3)).2⟩
      · have h1 : lsB (s.pk i) key = true := by simpa using h1
        exact ⟨(stay (inF1 i h1)).1, .inl (stay (inF1 i h1)).2⟩
    · have : i = s.n := by have := of_decide_eq_false hb; omega
      subst this
      exact .inl hs
  · refine cP_intro (fun hb => ?_) (fun hb => ?_)
    · have hb := of_decide_eq_true hb
      have hle := sel_le s key to i
      refine ⟨⟨by omega, hb⟩, by omega, cP_intro (fun h1 => cP_intro (fun h2 => ?_) (fun h2 => cP_intro (fun h3 => ?_) (fun h3 => ?_))) (fun h1 => ?_)⟩
      · have h1 : lsB (s.pk i) key = false := by simpa using h1
        exact ⟨by rfl, by omega, I i hb, .inr ⟨i + 1, by omega, by omega, rfl, more i (inT i h1 (.inl h2))⟩⟩
      · have h1 : lsB (s.pk i) key = false := by simpa using h1
        exact ⟨by rfl, by omega, I i hb, .inr ⟨i + 1, by omega, by omega, rfl, more i (inT i h1 (.inr h3))⟩⟩
      · refine ⟨I i hb, .inr ⟨i + 1, by omega, by omega, rfl, ?_⟩⟩
        rw [sel_out (inF2 i h2 h3)]; exact ⟨⟨rfl, fun q _ => rfl⟩, rfl⟩
      · have h1 : lsB (s.pk i) key = true := by simpa using h1
        refine ⟨I i hb, .inr ⟨i + 1, by omega, by omega, rfl, ?_⟩⟩
        rw [sel_out (inF1 i h1)]; exact ⟨⟨rfl, fun q _ => rfl⟩, rfl⟩
    · have : i = s.n := by have := of_decide_eq_false hb; omega
      subst this
      exact .inr ⟨rfl, rfl, fun _ _ => rfl⟩
theorem scanN_ok : CtrOk Try.prog 93 scanNC := det_end tt_ok mixed tblX_ok (fun _ => noAn) 200 7 (fun _ => rfl) (fun _ => rfl) fun x _ => Eq.mp (scanNVC_ok x) (scanNVC_true x)
theorem scan_ok : CtrOk Try.prog 93 scanC := ctr_endL tt_ok mixed tblX_ok (C := scanC) (fun x => anScan x.1) 200 7 (fun _ => rfl) (fun _ => ⟨fun _ => rfl, fun _ => rfl, trivial⟩) fun x hx => Eq.mp (scanVC_ok x) (scanVC_true x (hd_iff.1 hx))
end Go.Proofs.Ytjndgegfonhhfaa
end
section
/- What is asked of ranges of a store. -/
namespace Go.Proofs.Ytjndgegfonhhfaa
open Go SE
def applyScanVC_wp (x : SC) : Prop := wpF Try.prog [(17, ctrT goodC), (55, ctrT copiedC), (93, orElseT (ctrT scanNC) (ctrT scanC))] tt noAn 200 7 18 (applyScanC.args x) (hO applyScanC.k (applyScanC.os x)) (fun v h' => endsP applyScanC.k x v h' applyScanC.outs)
def applyScanVC_10 (x : SC) : Prop := ((((rowP x.s) = (rowP x.s)) ∧ (Bool.true = Bool.true)) ∧ ((((@rowQ x.s) = (@rowQ x.s)) ∧ (Bool.true = Bool.true)) ∧ ((((rowG x.c) = (rowG x.c)) ∧ (Bool.true = Bool.true)) ∧ True)))
def applyScanVC_13 (x : SC) : Prop := (((Value.slice none 0 0) = (Value.slice none 0 0)) ∧ (((0 : Int) = (0 : Int)) ∧ True))
def applyScanVC_11 (x : SC) : Prop := ((True ∧ (True ∧ True)) ∧ ((((0 : Int) = (0 : Int)) ∧ ((Bool.false = Bool.false) ∧ ((es = es) ∧ (False ∧ (applyScanVC_13 x))))) ∧ True))
def applyScanVC_12 (x : SC) : Prop := ((((rowP x.s) = (rowP x.s)) ∧ (Bool.true = Bool.true)) ∧ ((((@rowQ x.s) = (@rowQ x.s)) ∧ (Bool.true = Bool.true)) ∧ ((((rowG x.c) = (rowG x.c)) ∧ (Bool.true = Bool.true)) ∧ (False ∧ True))))
def applyScanVC_1 (x : SC) : Prop := ((((AV.agg [(AV.lit (Value.int IntKind.i64 (0 : Int))), (AV.lit (Value.bool Bool.false)), (AV.lit (Value.string es)), (AV.lit (Value.slice none 0 0)), (AV.lit (Value.slice none 0 0)), (AV.lit (Value.int IntKind.u64 (0 : Int)))]) = (AV.agg [(AV.lit (Value.int IntKind.i64 (0 : Int))), (AV.lit (Value.bool Bool.false)), (AV.lit (Value.string es)), (AV.lit (Value.slice none 0 0)), (AV.lit (Value.slice none 0 0)), (AV.lit (Value.int IntKind.u64 (0 : Int)))])) ∧ True) ∧ (True ∧ ((∃ (y_3 : Unit), ((Hd ((@selL x.s x.c.key x.c.to x.s.n) = (@List.nil Nat))) ∧ (((True ∧ (True ∧ True)) ∧ ((((0 : Int) = (0 : Int)) ∧ ((Bool.false = Bool.false) ∧ ((es = es) ∧ (((Value.slice none 0 0) = (Value.slice none 0 0)) ∧ (applyScanVC_13 x))))) ∧ True)) ∧ (applyScanVC_10 x)))) ∨ (∃ (y_3 : Unit), (True ∧ ((applyScanVC_11 x) ∧ (applyScanVC_12 x)))))))
def applyScanVC_7 (x : SC) (x_2 : Cll) : Prop := (((0 : Int) = (goodM x_2)) ∧ ((Bool.false = Bool.false) ∧ ((es = (@ByteArray.mk (@List.toArray UInt8 (@List.nil UInt8)))) ∧ (((Value.slice none 0 0) = (Value.slice none 0 0)) ∧ (applyScanVC_13 x)))))
def applyScanVC_2 (x : SC) (x_2 : Cll) : Prop := ((((AV.agg [(AV.lit (Value.int IntKind.i64 (goodM x_2))), (AV.lit (Value.bool Bool.false)), (AV.lit (Value.string (@ByteArray.mk (@List.toArray UInt8 (@List.nil UInt8))))), (AV.lit (Value.slice none 0 0)), (AV.lit (Value.slice none 0 0)), (AV.lit (Value.int IntKind.u64 (0 : Int)))]) = (AV.agg [(AV.lit (Value.int IntKind.i64 (goodM x_2))), (AV.lit (Value.bool Bool.false)), (AV.lit (Value.string (@ByteArray.mk (@List.toArray UInt8 (@List.nil UInt8))))), (AV.lit (Value.slice none 0 0)), (AV.lit (Value.slice none 0 0)), (AV.lit (Value.int IntKind.u64 (0 : Int)))])) ∧ True) ∧ (True ∧ ((∃ (y_2 : Unit), ((Hd ((@selL x.s x.c.key x.c.to x.s.n) = (@List.nil Nat))) ∧ (((True ∧ (True ∧ True)) ∧ ((applyScanVC_7 x x_2) ∧ True)) ∧ (applyScanVC_10 x)))) ∨ (∃ (y_2 : Unit), (True ∧ (((True ∧ (True ∧ True)) ∧ ((((0 : Int) = (goodM x_2)) ∧ ((Bool.false = Bool.false) ∧ ((es = (@ByteArray.mk (@List.toArray UInt8 (@List.nil UInt8)))) ∧ (False ∧ (applyScanVC_13 x))))) ∧ True)) ∧ (applyScanVC_12 x)))))))
def applyScanVC_3 (x : SC) (x_3 : (@Prod @SK2 @BA)) : Prop := (True ∧ ((∃ (y_3 : Unit), ((Hd ((@selL x.s x.c.key x.c.to x.s.n) = (@List.nil Nat))) ∧ ((applyScanVC_11 x) ∧ (applyScanVC_10 x)))) ∨ (∃ (y_3 : Unit), (True ∧ (((True ∧ (True ∧ True)) ∧ ((((0 : Int) = (0 : Int)) ∧ ((Bool.false = Bool.false) ∧ ((es = es) ∧ (((0 = 0) ∧ ((@List.length Nat (@selL x.s x.c.key x.c.to x.s.n)) = (@List.length Nat x_3.1.sel))) ∧ (applyScanVC_13 x))))) ∧ True)) ∧ ((((rowP x.s) = (rowP x.s)) ∧ (Bool.true = Bool.true)) ∧ ((((@rowQ x.s) = (@rowQ x.s)) ∧ (Bool.true = Bool.true)) ∧ ((((rowG x.c) = (rowG x.c)) ∧ (Bool.true = Bool.true)) ∧ ((((@List.length Nat (@selL x.s x.c.key x.c.to x.s.n)) = (@List.length Nat x_3.1.sel)) ∧ (∀ (q : Nat), ((q < (@List.length Nat (@selL x.s x.c.key x.c.to x.s.n))) → ([(Value.string (@Shf.pk x.s (@List.getD Nat (@selL x.s x.c.key x.c.to x.s.n) q 0))), (Value.string (@Shf.pv x.s (@List.getD Nat (@selL x.s x.c.key x.c.to x.s.n) q 0)))] = [(Value.string (@Shf.pk x_3.1.s (@List.getD Nat x_3.1.sel q 0))), (Value.string (@Shf.pv x_3.1.s (@List.getD Nat x_3.1.sel q 0)))])))) ∧ True)))))))))
def applyScanVC_4 (x : SC) (x_2 : Cll) : Prop := (((x_2.gn = x.c.gn) ∧ (∀ (q : Nat), ((q < x_2.gn) → ([(Value.int IntKind.i64 (Mem.kind (Cll.g x_2 q))), (Value.string (Mem.key (Cll.g x_2 q))), (Value.string (Mem.value (Cll.g x_2 q))), (Value.string (Mem.to (Cll.g x_2 q))), (Value.slice (Mem.gp (Cll.g x_2 q)) (Mem.gn (Cll.g x_2 q)) (Mem.gc (Cll.g x_2 q)))] = [(Value.int IntKind.i64 (Mem.kind (Cll.g x.c q))), (Value.string (Mem.key (Cll.g x.c q))), (Value.string (Mem.value (Cll.g x.c q))), (Value.string (Mem.to (Cll.g x.c q))), (Value.slice (Mem.gp (Cll.g x.c q)) (Mem.gn (Cll.g x.c q)) (Mem.gc (Cll.g x.c q)))])))) ∧ True)
def applyScanVC_5 (x : SC) (x_3 : (@Prod @SK2 @BA)) : Prop := ((0 = 0) ∧ ((((6 : Int) = (6 : Int)) ∧ ((x_3.1.key = x.c.key) ∧ ((x_3.2 = x.c.value) ∧ ((x_3.1.to = x.c.to) ∧ (True ∧ True))))) ∧ ((0 = 0) ∧ True)))
def applyScanVC_6 (x : SC) (x_1 : @Shf) (x_2 : Cll) (x_3 : (@Prod @SK2 @BA)) : Prop := ((((0 = 0) ∧ (x_3.1.s.n = x_1.n)) ∧ (True ∧ True)) ∧ ((applyScanVC_7 x x_2) ∧ (((x_3.1.s.n = x_1.n) ∧ (∀ (q : Nat), ((q < x_3.1.s.n) → ([(Value.string (@Shf.pk x_3.1.s q)), (Value.string (@Shf.pv x_3.1.s q))] = [(Value.string (@Shf.pk x_1 q)), (Value.string (@Shf.pv x_1 q))])))) ∧ True)))
def applyScanVC_8 (x : SC) (x_3 : (@Prod @SK2 @BA)) : Prop := ((∀ (y_2 : Unit), ((Hd (x_3.1.sel = (@List.nil Nat))) → (applyScanVC_1 x))) ∧ (∀ (y_2 : Unit), (True → ((((AV.agg [(AV.lit (Value.int IntKind.i64 (0 : Int))), (AV.lit (Value.bool Bool.false)), (AV.lit (Value.string es)), (AV.slW 11 0 2 (@List.length Nat x_3.1.sel)), (AV.lit (Value.slice none 0 0)), (AV.lit (Value.int IntKind.u64 (0 : Int)))]) = (AV.agg [(AV.lit (Value.int IntKind.i64 (0 : Int))), (AV.lit (Value.bool Bool.false)), (AV.lit (Value.string es)), (AV.slW 11 0 2 (@List.length Nat x_3.1.sel)), (AV.lit (Value.slice none 0 0)), (AV.lit (Value.int IntKind.u64 (0 : Int)))])) ∧ True) ∧ (applyScanVC_3 x x_3)))))
def applyScanVC_9 (x : SC) (x_2 : Cll) : Prop := (((x_2.kind = (6 : Int)) ∧ ((x_2.key = x.c.key) ∧ ((x_2.value = x.c.value) ∧ ((x_2.to = x.c.to) ∧ (((0 = 0) ∧ (x_2.gn = x.c.gn)) ∧ True))))) ∧ True)
def applyScanVC_14 (x : SC) (x_2 : Cll) : Prop := (∃ (x_3 : (@Prod @SK2 @BA)), (True ∧ ((applyScanVC_5 x x_3) ∧ (((((Value.slice none 0 0) = (Value.slice none 0 0)) ∧ (True ∧ True)) ∧ ((applyScanVC_7 x x_2) ∧ True)) ∧ (∀ (y_2 : Unit), (True → (applyScanVC_1 x)))))))
def applyScanVC_15 (x : SC) (x_2 : Cll) : Prop := (∃ (x_3 : (@Prod @SK2 @BA)), (True ∧ ((applyScanVC_5 x x_3) ∧ (((False ∧ (True ∧ True)) ∧ ((applyScanVC_7 x x_2) ∧ True)) ∧ (∀ (y_2 : Unit), (True → (applyScanVC_1 x)))))))
def applyScanVC (x : SC) : Prop :=
  (∃ (x_1 : @Shf), ((Hd x_1.small) ∧ (((((x_1.zp = x.s.zp) ∧ ((0 = 0) ∧ (x_1.n = x.s.n))) ∧ (((x_1.zq = x.s.zq) ∧ ((0 = 0) ∧ (x_1.m = x.s.m))) ∧ True)) ∧ True) ∧ ((((x_1.n = x.s.n) ∧ (∀ (q : Nat), ((q < x_1.n) → ([(Value.string (@Shf.pk x_1 q)), (Value.string (@Shf.pv x_1 q))] = [(Value.string (@Shf.pk x.s q)), (Value.string (@Shf.pv x.s q))])))) ∧ (((x_1.m = x.s.m) ∧ (∀ (q : Nat), ((q < x_1.m) → ([(Value.string (@Shf.qv x_1 q))] = [(Value.string (@Shf.qv x.s q))])))) ∧ True)) ∧ ((∀ (y : Unit), (((x_1.zp = Bool.true) ∧ (x_1.zq = Bool.true)) → (∃ (x_2 : Cll), ((Hd x_2.small) ∧ ((applyScanVC_9 x x_2) ∧ ((applyScanVC_4 x x_2) ∧ (∀ (y_1 : Unit), (True → (cP (bne (goodM x_2) (0 : Int)) (applyScanVC_2 x x_2) ((applyScanVC_14 x x_2) ∨ (∃ (x_3 : (@Prod @SK2 @BA)), ((Hd x_3.1.ok) ∧ ((applyScanVC_5 x x_3) ∧ (((False ∧ (True ∧ True)) ∧ ((applyScanVC_7 x x_2) ∧ (False ∧ True))) ∧ ((∀ (y_2 : Unit), ((Hd (x_3.1.sel = (@List.nil Nat))) → (applyScanVC_1 x))) ∧ (∀ (y_2 : Unit), (True → ((((AV.agg [(AV.lit (Value.int IntKind.i64 (0 : Int))), (AV.lit (Value.bool Bool.false)), (AV.lit (Value.string es)), (AV.slW 10 0 2 (@List.length Nat x_3.1.sel)), (AV.lit (Value.slice none 0 0)), (AV.lit (Value.int IntKind.u64 (0 : Int)))]) = (AV.agg [(AV.lit (Value.int IntKind.i64 (0 : Int))), (AV.lit (Value.bool Bool.false)), (AV.lit (Value.string es)), (AV.slW 10 0 2 (@List.length Nat x_3.1.sel)), (AV.lit (Value.slice none 0 0)), (AV.lit (Value.int IntKind.u64 (0 : Int)))])) ∧ True) ∧ (applyScanVC_3 x x_3))))))))))))))))))) ∧
 ((∀ (y : Unit), (((x_1.zp = Bool.true) ∧ (x_1.zq = Bool.false)) → (∃ (x_2 : Cll), ((Hd x_2.small) ∧ ((applyScanVC_9 x x_2) ∧ ((applyScanVC_4 x x_2) ∧ (∀ (y_1 : Unit), (True → (cP (bne (goodM x_2) (0 : Int)) (applyScanVC_2 x x_2) ((applyScanVC_14 x x_2) ∨ (∃ (x_3 : (@Prod @SK2 @BA)), ((Hd x_3.1.ok) ∧ ((applyScanVC_5 x x_3) ∧ (((False ∧ (True ∧ True)) ∧ ((applyScanVC_7 x x_2) ∧ (False ∧ True))) ∧ (applyScanVC_8 x x_3))))))))))))))) ∧ ((∀ (y : Unit), (((x_1.zp = Bool.false) ∧ (x_1.zq = Bool.true)) → (∃ (x_2 : Cll), ((Hd x_2.small) ∧ ((applyScanVC_9 x x_2) ∧ ((applyScanVC_4 x x_2) ∧ (∀ (y_1 : Unit), (True → (cP (bne (goodM x_2) (0 : Int)) (applyScanVC_2 x x_2) ((applyScanVC_15 x x_2) ∨ (∃ (x_3 : (@Prod @SK2 @BA)), ((Hd x_3.1.ok) ∧ ((applyScanVC_5 x x_3) ∧ ((applyScanVC_6 x x_1 x_2 x_3) ∧ (applyScanVC_8 x x_3))))))))))))))) ∧ (∀ (y : Unit), (((x_1.zp = Bool.false) ∧ (x_1.zq = Bool.false)) → (∃ (x_2 : Cll), ((Hd x_2.small) ∧ ((applyScanVC_9 x x_2) ∧ ((applyScanVC_4 x x_2) ∧ (∀ (y_1 : Unit), (True → (cP (bne (goodM x_2) (0 : Int)) (applyScanVC_2 x x_2) ((applyScanVC_15 x x_2) ∨ (∃ (x_3 : (@Prod @SK2 @BA)), ((Hd x_3.1.ok) ∧ ((applyScanVC_5 x x_3) ∧ ((applyScanVC_6 x x_1 x_2 x_3) ∧ ((∀ (y_2 : Unit), ((Hd (x_3.1.sel = (@List.nil Nat))) → (applyScanVC_1 x))) ∧ (∀ (y_2 : Unit), (True → ((((AV.agg [(AV.lit (Value.int IntKind.i64 (0 : Int))), (AV.lit (Value.bool Bool.false)), (AV.lit (Value.string es)), (AV.slW 12 0 2 (@List.length Nat x_3.1.sel)), (AV.lit (Value.slice none 0 0)), (AV.lit (Value.int IntKind.u64 (0 : Int)))]) = (AV.agg [(AV.lit (Value.int IntKind.i64 (0 : Int))), (AV.lit (Value.bool Bool.false)), (AV.lit (Value.string es)), (AV.slW 12 0 2 (@List.length Nat x_3.1.sel)), (AV.lit (Value.slice none 0 0)), (AV.lit (Value.int IntKind.u64 (0 : Int)))])) ∧
 True) ∧ (applyScanVC_3 x x_3))))))))))))))))))))))))))
theorem applyScanVC_ok (x : SC) : applyScanVC x = applyScanVC_wp x := by kernel_rfl
end Go.Proofs.Ytjndgegfonhhfaa
end
section
/- A range by the abstract store: what is asked is so. -/
namespace Go.Proofs.Ytjndgegfonhhfaa
open Go SE
theorem applyScanVC_true (x : SC) (hx : x.ok ∧ x.c.kind = 6 ∧ goodM x.c = 0) : applyScanVC x := by
  unfold applyScanVC
  simp only [applyScanVC_10, applyScanVC_13, applyScanVC_11, applyScanVC_12, applyScanVC_1, applyScanVC_7, applyScanVC_2, applyScanVC_3, applyScanVC_4, applyScanVC_5, applyScanVC_6, applyScanVC_8, applyScanVC_9, applyScanVC_14, applyScanVC_15]
  simp only [hd_iff, and_true, true_and, Nat.zero_add, Nat.add_zero, unit_ex, unit_all, true_implies, implies_true, Int.toNat_natCast, eq_self, and_self]
  obtain ⟨⟨hs, hw, hc⟩, h6, hg⟩ := hx
  have nb : (goodM x.c != 0) = false := by rw [hg]; rfl
  have none : x.s.zp = true → selL x.s x.c.key x.c.to x.s.n = [] := fun h => by rw [hw.1 h]; rfl
  have hk : SK2.ok ⟨x.s, x.c.key, x.c.to⟩ := ⟨hs, hc.1, hc.2.2.1⟩
  refine ⟨x.s, hs, ⟨⟨rfl, rfl⟩, rfl, rfl⟩, ⟨⟨rfl, fun _ _ => rfl⟩, rfl, fun _ _ => rfl⟩, fun ⟨hp, _⟩ => ?_, fun ⟨hp, _⟩ => ?_, fun ⟨hp, _⟩ => ?_, fun ⟨hp, _⟩ => ?_⟩
  all_goals
    refine ⟨x.c, hc, ⟨h6, rfl, rfl, rfl, rfl⟩, ⟨rfl, fun _ _ => rfl⟩, cP_intro (fun h => by rw [nb] at h; cases h) (fun _ => ?_)⟩
    first
      | exact .inl ⟨(⟨x.s, x.c.key, x.c.to⟩, x.c.value), ⟨rfl, rfl, rfl⟩, ⟨hg.symm, rfl⟩, .inl (none hp)⟩
      | exact .inr ⟨(⟨x.s, x.c.key, x.c.to⟩, x.c.value), hk, ⟨rfl, rfl, rfl⟩, ⟨rfl, ⟨hg.symm, rfl⟩, rfl, fun _ _ => rfl⟩, fun h => .inl h, .inr ⟨rfl, rfl, fun _ _ => rfl⟩⟩
theorem applyScan_ok : CtrOk Try.prog 18 applyScanC := ctr_endL tt_ok mixed (.cons (ctrT_ok good_ok) (.cons (ctrT_ok copied_ok) (.cons (orElseT_ok (ctrT_ok scanN_ok) (ctrT_ok scan_ok)) .nil))) (C := applyScanC) (fun _ => noAn) 200 7 (fun _ => rfl) (fun _ => ⟨fun _ => rfl, fun _ => rfl, trivial⟩) fun x hx => Eq.mp (applyScanVC_ok x) (applyScanVC_true x (hd_iff.1 hx))
end Go.Proofs.Ytjndgegfonhhfaa
end
section
/- What a call costs: contracts. -/
namespace Go.Proofs.Ytjndgegfonhhfaa
open Go SE
noncomputable section
def rscanC : Ctr := det SP (fun x => [x.s.av 0 1, x.av]) 2 (fun x => x.s.os) (fun x => Hd (x.s.small ∧ x.key.size ≤ 1500)) (fun x => i64 (scanTo x.s x.key x.to (3 + seekM x.s x.key) x.s.n)) 2 (fun x => x.s.os)
def anRScan (x : SP) : FuncId → Anns := loopN 50 0 (fun i => [(6, i64 i), (5, i64 (scanTo x.s x.key x.to (3 + seekM x.s x.key) i))]) (fun _ => True) x.s.n
def callC : Ctr := det SC (fun x => [x.s.avZ 0 1, x.c.av 2]) 3 SC.os (fun x => Hd x.ok) (fun x => (callM x.s x.c).av) 3 SC.os
/-- The steps of a range, by what was selected. -/
def selSum (s : Shf) (L : List Nat) (x0 : Int) : Nat → Int
  | 0 => x0
  | i + 1 => selSum s L x0 i + (1 + linesM ((s.pk (L.getD i 0)).size + (s.pv (L.getD i 0)).size : Nat))
def costO (n : Int) : AObj := .cells 33 (.av [i64 n, i64 0, i64 0, i64 0, i64 0, i64 0])
def SC.sel (x : SC) : List Nat := selL x.s x.c.key x.c.to x.s.n
def anCall (x : SC) : FuncId → Anns := fun f => bif Nat.beq f 12 then (fun b fr _ => bif Nat.beq b 1 then [{ σ := Nat, fr := fun i => [(118, i64 i)], ob := fun i => [(idAt fr 9, some (costO (selSum x.s x.sel (3 + seekM x.s x.c.key) i)))], inv := fun i => i ≤ x.sel.length, meas := fun i => x.sel.length - i }] else []) else fun _ _ _ => []
def anRCall (x : SC) : FuncId → Anns := fun f => bif Nat.beq f 13 then (fun b fr _ => bif Nat.beq b 1 then [{ σ := Nat, fr := fun i => [(8, i64 i)], ob := fun i => [(idAt fr 5, some (.cells 33 (.av (groupTo x.s x.c.g i).avs)))], inv := fun i => i ≤ x.c.gn, meas := fun i => x.c.gn - i }] else []) else fun _ _ _ => []
def tblC : WTbl := [(16, ctrT mayC), (43, ctrT mayC), (17, ctrT goodC), (44, ctrT goodC), (41, ctrT seekC), (78, ctrT seekC),
  (38, ctrT putC), (39, ctrT delC), (48, ctrT partC), (42, ctrT groupC), (18, ctrT applyScanC), (50, ctrT rscanC)] ++ (tblW ++ tblN)
end
end Go.Proofs.Ytjndgegfonhhfaa
end
section
/- What is asked of what a call costs. -/
namespace Go.Proofs.Ytjndgegfonhhfaa
open Go SE
def rscanVC_wp (x : SP) : Prop := wpF Try.prog ((78, ctrT seekC) :: tblN) tt (anRScan x) 200 5 50 (rscanC.args x) (hO rscanC.k (rscanC.os x)) (fun v h' => endsP rscanC.k x v h' rscanC.outs)
def rscanVC (x : SP) : Prop :=
  (∃ (x_1 : @SK), ((Hd x_1.ok) ∧ (((((0 = 0) ∧ (x_1.s.n = (@Shf.n (@SP.s x)))) ∧ (((0 = 0) ∧ (x_1.s.m = (@Shf.m (@SP.s x)))) ∧ True)) ∧ ((x_1.key = (@SP.key x)) ∧ True)) ∧ ((((x_1.s.n = (@Shf.n (@SP.s x))) ∧ (∀ (q : Nat), ((q < x_1.s.n) → ([(Value.string (@Shf.pk x_1.s q)), (Value.string (@Shf.pv x_1.s q))] = [(Value.string (@Shf.pk (@SP.s x) q)), (Value.string (@Shf.pv (@SP.s x) q))])))) ∧ (((x_1.s.m = (@Shf.m (@SP.s x))) ∧ (∀ (q : Nat), ((q < x_1.s.m) → ([(Value.string (@Shf.qv x_1.s q))] = [(Value.string (@Shf.qv (@SP.s x) q))])))) ∧ True)) ∧ (∀ (y : Unit), (True → ((I64 ((3 : Int) + (@seekM x_1.s x_1.key))) ∧ ((∃ (s : Nat), (((s ≤ (@Shf.n (@SP.s x))) ∧ True) ∧ (True ∧ (((((s : Nat) : Int) = (0 : Int)) ∧ (((@scanTo (@SP.s x) (@SP.key x) (@SP.to x) ((3 : Int) + (@seekM (@SP.s x) (@SP.key x))) s) = ((3 : Int) + (@seekM x_1.s x_1.key))) ∧ True)) ∧ ((((@SP.kind x) = (@SP.kind x)) ∧ (((@SP.key x) = (@SP.key x)) ∧ (((@SP.value x) = (@SP.value x)) ∧ (((@SP.to x) = (@SP.to x)) ∧ (True ∧ True))))) ∧ ((((0 = 0) ∧ ((@Shf.n (@SP.s x)) = (@Shf.n (@SP.s x)))) ∧ (((0 = 0) ∧ ((@Shf.m (@SP.s x)) = (@Shf.m (@SP.s x)))) ∧ True)) ∧ ((((@rowQ (@SP.s x)) = (@rowQ (@SP.s x))) ∧ (Bool.true = Bool.true)) ∧ ((((rowP (@SP.s x)) = (rowP (@SP.s x))) ∧ (Bool.true = Bool.true)) ∧ True)))))))) ∧ ((∀ (s : Nat), (((s ≤ (@Shf.n (@SP.s x))) ∧ True) → (cP (decide (((s : Nat) : Int) < (((@Shf.n (@SP.s x)) : Nat) : Int))) ((((0 : Int) ≤ ((s : Nat) : Int)) ∧ (((s : Nat) : Int) < (((@Shf.n (@SP.s x)) : Nat) : Int))) ∧
 (((0 + s) < (@Shf.n (@SP.s x))) ∧ (cP (@Bool.not (@Op.bytesLess (@ByteArray.toList (@Shf.pk (@SP.s x) (0 + s))) (@ByteArray.toList (@SP.key x)))) (cP (@BEq.beq (@List UInt8) (@List.instBEq UInt8 (@instBEqOfDecidableEq UInt8 @instDecidableEqUInt8)) (@ByteArray.toList (@SP.to x)) (@ByteArray.toList (@ByteArray.mk (@List.toArray UInt8 (@List.nil UInt8))))) ((I64 ((@scanTo (@SP.s x) (@SP.key x) (@SP.to x) ((3 : Int) + (@seekM (@SP.s x) (@SP.key x))) s) + (1 : Int))) ∧ ((I64 ((((@ByteArray.size (@Shf.pk (@SP.s x) (0 + s))) : Nat) : Int) + (((@ByteArray.size (@Shf.pv (@SP.s x) (0 + s))) : Nat) : Int))) ∧ (∃ (x_2 : Int), (True ∧ (((x_2 = ((((@ByteArray.size (@Shf.pk (@SP.s x) (0 + s))) : Nat) : Int) + (((@ByteArray.size (@Shf.pv (@SP.s x) (0 + s))) : Nat) : Int))) ∧ True) ∧ (True ∧ (∀ (y_1 : Unit), (True → (∃ (x_3 : Int), (True ∧ (((x_3 = (@needM x_2)) ∧ True) ∧ (True ∧ (∀ (y_2 : Unit), (True → ((I64 (((@scanTo (@SP.s x) (@SP.key x) (@SP.to x) ((3 : Int) + (@seekM (@SP.s x) (@SP.key x))) s) + (1 : Int)) + (@spanM x_3))) ∧ ((I64 (((s : Nat) : Int) + (1 : Int))) ∧ (∃ (s_1 : Nat), (((s_1 ≤ (@Shf.n (@SP.s x))) ∧ True) ∧ ((((@Shf.n (@SP.s x)) - s_1) < ((@Shf.n (@SP.s x)) - s)) ∧ (((((s_1 : Nat) : Int) = (((s : Nat) : Int) + (1 : Int))) ∧ (((@scanTo (@SP.s x) (@SP.key x) (@SP.to x) ((3 : Int) + (@seekM (@SP.s x) (@SP.key x))) s_1) = (((@scanTo (@SP.s x) (@SP.key x) (@SP.to x) ((3 : Int) + (@seekM (@SP.s x) (@SP.key x))) s) + (1 : Int)) + (@spanM x_3))) ∧ True)) ∧ ((((@SP.kind x) = (@SP.kind x)) ∧
 (((@SP.key x) = (@SP.key x)) ∧ (((@SP.value x) = (@SP.value x)) ∧ (((@SP.to x) = (@SP.to x)) ∧ (True ∧ True))))) ∧ ((((0 = 0) ∧ ((@Shf.n (@SP.s x)) = (@Shf.n (@SP.s x)))) ∧ (((0 = 0) ∧ ((@Shf.m (@SP.s x)) = (@Shf.m (@SP.s x)))) ∧ True)) ∧ ((((@rowQ (@SP.s x)) = (@rowQ (@SP.s x))) ∧ (Bool.true = Bool.true)) ∧ ((((rowP (@SP.s x)) = (rowP (@SP.s x))) ∧ (Bool.true = Bool.true)) ∧ True)))))))))))))))))))))))) (cP (@Op.bytesLess (@ByteArray.toList (@Shf.pk (@SP.s x) (0 + s))) (@ByteArray.toList (@SP.to x))) ((I64 ((@scanTo (@SP.s x) (@SP.key x) (@SP.to x) ((3 : Int) + (@seekM (@SP.s x) (@SP.key x))) s) + (1 : Int))) ∧ ((I64 ((((@ByteArray.size (@Shf.pk (@SP.s x) (0 + s))) : Nat) : Int) + (((@ByteArray.size (@Shf.pv (@SP.s x) (0 + s))) : Nat) : Int))) ∧ (∃ (x_2 : Int), (True ∧ (((x_2 = ((((@ByteArray.size (@Shf.pk (@SP.s x) (0 + s))) : Nat) : Int) + (((@ByteArray.size (@Shf.pv (@SP.s x) (0 + s))) : Nat) : Int))) ∧ True) ∧ (True ∧ (∀ (y_1 : Unit), (True → (∃ (x_3 : Int), (True ∧ (((x_3 = (@needM x_2)) ∧ True) ∧ (True ∧ (∀ (y_2 : Unit), (True → ((I64 (((@scanTo (@SP.s x) (@SP.key x) (@SP.to x) ((3 : Int) + (@seekM (@SP.s x) (@SP.key x))) s) + (1 : Int)) + (@spanM x_3))) ∧ ((I64 (((s : Nat) : Int) + (1 : Int))) ∧ (∃ (s_1 : Nat), (((s_1 ≤ (@Shf.n (@SP.s x))) ∧ True) ∧ ((((@Shf.n (@SP.s x)) - s_1) < ((@Shf.n (@SP.s x)) - s)) ∧ (((((s_1 : Nat) : Int) = (((s : Nat) : Int) + (1 : Int))) ∧ (((@scanTo (@SP.s x) (@SP.key x) (@SP.to x) ((3 : Int) + (@seekM (@SP.s x) (@SP.key x))) s_1) = (((@scanTo (@SP.s x) (@SP.key x) (@SP.to x) ((3 : Int) + (@seekM (@SP.s x) (@SP.key x))) s) + (1 : Int)) + (@spanM x_3))) ∧
 True)) ∧ ((((@SP.kind x) = (@SP.kind x)) ∧ (((@SP.key x) = (@SP.key x)) ∧ (((@SP.value x) = (@SP.value x)) ∧ (((@SP.to x) = (@SP.to x)) ∧ (True ∧ True))))) ∧ ((((0 = 0) ∧ ((@Shf.n (@SP.s x)) = (@Shf.n (@SP.s x)))) ∧ (((0 = 0) ∧ ((@Shf.m (@SP.s x)) = (@Shf.m (@SP.s x)))) ∧ True)) ∧ ((((@rowQ (@SP.s x)) = (@rowQ (@SP.s x))) ∧ (Bool.true = Bool.true)) ∧ ((((rowP (@SP.s x)) = (rowP (@SP.s x))) ∧ (Bool.true = Bool.true)) ∧ True)))))))))))))))))))))))) ((I64 (((s : Nat) : Int) + (1 : Int))) ∧ (∃ (s_1 : Nat), (((s_1 ≤ (@Shf.n (@SP.s x))) ∧ True) ∧ ((((@Shf.n (@SP.s x)) - s_1) < ((@Shf.n (@SP.s x)) - s)) ∧ (((((s_1 : Nat) : Int) = (((s : Nat) : Int) + (1 : Int))) ∧ (((@scanTo (@SP.s x) (@SP.key x) (@SP.to x) ((3 : Int) + (@seekM (@SP.s x) (@SP.key x))) s_1) = (@scanTo (@SP.s x) (@SP.key x) (@SP.to x) ((3 : Int) + (@seekM (@SP.s x) (@SP.key x))) s)) ∧ True)) ∧ ((((@SP.kind x) = (@SP.kind x)) ∧ (((@SP.key x) = (@SP.key x)) ∧ (((@SP.value x) = (@SP.value x)) ∧ (((@SP.to x) = (@SP.to x)) ∧ (True ∧ True))))) ∧ ((((0 = 0) ∧ ((@Shf.n (@SP.s x)) = (@Shf.n (@SP.s x)))) ∧ (((0 = 0) ∧ ((@Shf.m (@SP.s x)) = (@Shf.m (@SP.s x)))) ∧ True)) ∧ ((((@rowQ (@SP.s x)) = (@rowQ (@SP.s x))) ∧ (Bool.true = Bool.true)) ∧ ((((rowP (@SP.s x)) = (rowP (@SP.s x))) ∧ (Bool.true = Bool.true)) ∧ True))))))))))) ((I64 (((s : Nat) : Int) + (1 : Int))) ∧ (∃ (s_1 : Nat), (((s_1 ≤ (@Shf.n (@SP.s x))) ∧ True) ∧ ((((@Shf.n (@SP.s x)) - s_1) < ((@Shf.n (@SP.s x)) - s)) ∧ (((((s_1 : Nat) : Int) = (((s : Nat) : Int) + (1 : Int))) ∧
 (((@scanTo (@SP.s x) (@SP.key x) (@SP.to x) ((3 : Int) + (@seekM (@SP.s x) (@SP.key x))) s_1) = (@scanTo (@SP.s x) (@SP.key x) (@SP.to x) ((3 : Int) + (@seekM (@SP.s x) (@SP.key x))) s)) ∧ True)) ∧ ((((@SP.kind x) = (@SP.kind x)) ∧ (((@SP.key x) = (@SP.key x)) ∧ (((@SP.value x) = (@SP.value x)) ∧ (((@SP.to x) = (@SP.to x)) ∧ (True ∧ True))))) ∧ ((((0 = 0) ∧ ((@Shf.n (@SP.s x)) = (@Shf.n (@SP.s x)))) ∧ (((0 = 0) ∧ ((@Shf.m (@SP.s x)) = (@Shf.m (@SP.s x)))) ∧ True)) ∧ ((((@rowQ (@SP.s x)) = (@rowQ (@SP.s x))) ∧ (Bool.true = Bool.true)) ∧ ((((rowP (@SP.s x)) = (rowP (@SP.s x))) ∧ (Bool.true = Bool.true)) ∧ True)))))))))))) (∃ (y_1 : Unit), (True ∧ (((@scanTo (@SP.s x) (@SP.key x) (@SP.to x) ((3 : Int) + (@seekM (@SP.s x) (@SP.key x))) (@Shf.n (@SP.s x))) = (@scanTo (@SP.s x) (@SP.key x) (@SP.to x) ((3 : Int) + (@seekM (@SP.s x) (@SP.key x))) s)) ∧ ((((rowP (@SP.s x)) = (rowP (@SP.s x))) ∧ (Bool.true = Bool.true)) ∧ ((((@rowQ (@SP.s x)) = (@rowQ (@SP.s x))) ∧ (Bool.true = Bool.true)) ∧ True)))))))) ∧ True)))))))))
theorem rscanVC_ok (x : SP) : rscanVC x = rscanVC_wp x := by kernel_rfl
def callVC_wp (x : SC) : Prop := wpF Try.prog tblC tt (anCall x) 200 5 12 (callC.args x) (hO callC.k (callC.os x)) (fun v h' => endsP callC.k x v h' callC.outs)
def callVC_1 (x : SC) : Prop := ((((rowP x.s) = (rowP x.s)) ∧ (Bool.true = Bool.true)) ∧ ((((@rowQ x.s) = (@rowQ x.s)) ∧ (Bool.true = Bool.true)) ∧ ((((rowG x.c) = (rowG x.c)) ∧ (Bool.true = Bool.true)) ∧ True)))
def callVC_2 (x : SC) : Prop := (((@Cst.s1 (@callM x.s x.c)) = (0 : Int)) ∧ (((@Cst.s2 (@callM x.s x.c)) = (0 : Int)) ∧ (((@Cst.s3 (@callM x.s x.c)) = (0 : Int)) ∧ (((@Cst.s4 (@callM x.s x.c)) = (0 : Int)) ∧ (((@Cst.s5 (@callM x.s x.c)) = (0 : Int)) ∧ True)))))
def callVC_7 (x : SC) : Prop := (((0 : Int) = (0 : Int)) ∧ (((0 : Int) = (0 : Int)) ∧ (((0 : Int) = (0 : Int)) ∧ (((0 : Int) = (0 : Int)) ∧ (((0 : Int) = (0 : Int)) ∧ True)))))
def callVC_3 (x : SC) : Prop := ((((0 : Int) = (0 : Int)) ∧ (callVC_7 x)) ∧ (((x.c.kind = x.c.kind) ∧ ((x.c.key = x.c.key) ∧ ((x.c.value = x.c.value) ∧ ((x.c.to = x.c.to) ∧ (((0 = 0) ∧ (x.c.gn = x.c.gn)) ∧ True))))) ∧ ((((x.s.zp = x.s.zp) ∧ ((0 = 0) ∧ (x.s.n = x.s.n))) ∧ (((x.s.zq = x.s.zq) ∧ ((0 = 0) ∧ (x.s.m = x.s.m))) ∧ True)) ∧ ((((rowG x.c) = (rowG x.c)) ∧ (Bool.true = Bool.true)) ∧ ((((@rowQ x.s) = (@rowQ x.s)) ∧ (Bool.true = Bool.true)) ∧ ((((rowP x.s) = (rowP x.s)) ∧ (Bool.true = Bool.true)) ∧ True))))))
def callVC_4 (x : SC) (x_3 : @SK) : Prop := (((x_3.s.n = x.s.n) ∧ (∀ (q : Nat), ((q < x_3.s.n) → ([(Value.string (@Shf.pk x_3.s q)), (Value.string (@Shf.pv x_3.s q))] = [(Value.string (@Shf.pk x.s q)), (Value.string (@Shf.pv x.s q))])))) ∧ (((x_3.s.m = x.s.m) ∧ (∀ (q : Nat), ((q < x_3.s.m) → ([(Value.string (@Shf.qv x_3.s q))] = [(Value.string (@Shf.qv x.s q))])))) ∧ True))
def callVC_5 (x : SC) (x_3 : @SK) : Prop := (((@Cst.s1 (@callM x.s x.c)) = (@Cst.heldM (0 : Int) (@Cst.s1 (@partM x_3.s (3 : Int) x_3.key x_3.key (0 : Int))))) ∧ (((@Cst.s2 (@callM x.s x.c)) = (@Cst.heldM (0 : Int) (@Cst.s2 (@partM x_3.s (3 : Int) x_3.key x_3.key (0 : Int))))) ∧ (((@Cst.s3 (@callM x.s x.c)) = (@Cst.heldM (0 : Int) (@Cst.s3 (@partM x_3.s (3 : Int) x_3.key x_3.key (0 : Int))))) ∧ (((@Cst.s4 (@callM x.s x.c)) = (@Cst.heldM (0 : Int) (@Cst.s4 (@partM x_3.s (3 : Int) x_3.key x_3.key (0 : Int))))) ∧ (((@Cst.s5 (@callM x.s x.c)) = (@Cst.heldM (0 : Int) (@Cst.s5 (@partM x_3.s (3 : Int) x_3.key x_3.key (0 : Int))))) ∧ True)))))
def callVC_6 (x : SC) (x_4 : @SC) : Prop := (((@List.length Nat (@selL x_4.s x_4.c.key x_4.c.to x_4.s.n)) = (@List.length Nat (@selL x_4.s x_4.c.key x_4.c.to x_4.s.n))) ∧ (∀ (q : Nat), ((q < (@List.length Nat (@selL x_4.s x_4.c.key x_4.c.to x_4.s.n))) → ([(Value.string (@Shf.pk x_4.s (@List.getD Nat (@selL x_4.s x_4.c.key x_4.c.to x_4.s.n) q 0))), (Value.string (@Shf.pv x_4.s (@List.getD Nat (@selL x_4.s x_4.c.key x_4.c.to x_4.s.n) q 0)))] = [(Value.string (@Shf.pk x_4.s (@List.getD Nat (@selL x_4.s x_4.c.key x_4.c.to x_4.s.n) q 0))), (Value.string (@Shf.pv x_4.s (@List.getD Nat (@selL x_4.s x_4.c.key x_4.c.to x_4.s.n) q 0)))]))))
def callVC_8 (x : SC) (x_4 : @SC) : Prop := (((0 : Int) = (0 : Int)) ∧ ((Bool.false = Bool.false) ∧ ((es = es) ∧ (((0 = 0) ∧ ((@List.length Nat (@selL x_4.s x_4.c.key x_4.c.to x_4.s.n)) = (@List.length Nat (@selL x_4.s x_4.c.key x_4.c.to x_4.s.n)))) ∧ (((Value.slice none 0 0) = (Value.slice none 0 0)) ∧ (((0 : Int) = (0 : Int)) ∧ True))))))
def callVC_9 (x : SC) (x_3 : @SK) : Prop := ((((0 = 0) ∧ (x_3.s.n = x.s.n)) ∧ (((0 = 0) ∧ (x_3.s.m = x.s.m)) ∧ True)) ∧ ((x_3.key = x.c.key) ∧ True))
def callVC_10 (x : SC) (s : Nat) : Prop := (∃ (y_4 : Unit), (True ∧ ((((@Cst.s0 (@callM x.s x.c)) = (@selSum x.s x.sel ((3 : Int) + (@seekM x.s x.c.key)) s)) ∧ (callVC_2 x)) ∧ (callVC_1 x))))
def callVC (x : SC) : Prop :=
  (∃ (x_1 : @Shf), ((Hd x_1.small) ∧ (((((0 = 0) ∧ (x_1.n = x.s.n)) ∧ (((0 = 0) ∧ (x_1.m = x.s.m)) ∧ True)) ∧ True) ∧ ((((x_1.n = x.s.n) ∧ (∀ (q : Nat), ((q < x_1.n) → ([(Value.string (@Shf.pk x_1 q)), (Value.string (@Shf.pv x_1 q))] = [(Value.string (@Shf.pk x.s q)), (Value.string (@Shf.pv x.s q))])))) ∧ (((x_1.m = x.s.m) ∧ (∀ (q : Nat), ((q < x_1.m) → ([(Value.string (@Shf.qv x_1 q))] = [(Value.string (@Shf.qv x.s q))])))) ∧ True)) ∧ (∀ (y : Unit), (True → (cP (@Bool.not (@mayM x_1)) (∃ (y_1 : Unit), (True ∧ ((((@Cst.s0 (@callM x.s x.c)) = (0 : Int)) ∧ (callVC_2 x)) ∧ (callVC_1 x)))) (∃ (x_2 : Cll), ((Hd x_2.small) ∧ ((((x_2.kind = x.c.kind) ∧ ((x_2.key = x.c.key) ∧ ((x_2.value = x.c.value) ∧ ((x_2.to = x.c.to) ∧ (((0 = 0) ∧ (x_2.gn = x.c.gn)) ∧ True))))) ∧ True) ∧ ((((x_2.gn = x.c.gn) ∧ (∀ (q : Nat), ((q < x_2.gn) → ([(Value.int IntKind.i64 (Mem.kind (Cll.g x_2 q))), (Value.string (Mem.key (Cll.g x_2 q))), (Value.string (Mem.value (Cll.g x_2 q))), (Value.string (Mem.to (Cll.g x_2 q))), (Value.slice (Mem.gp (Cll.g x_2 q)) (Mem.gn (Cll.g x_2 q)) (Mem.gc (Cll.g x_2 q)))] = [(Value.int IntKind.i64 (Mem.kind (Cll.g x.c q))), (Value.string (Mem.key (Cll.g x.c q))), (Value.string (Mem.value (Cll.g x.c q))), (Value.string (Mem.to (Cll.g x.c q))), (Value.slice (Mem.gp (Cll.g x.c q)) (Mem.gn (Cll.g x.c q)) (Mem.gc (Cll.g x.c q)))])))) ∧ True) ∧ (∀ (y_1 : Unit), (True → (cP (bne (goodM x_2) (0 : Int)) (∃ (y_2 : Unit), (True ∧ ((((@Cst.s0 (@callM x.s x.c)) = (1 : Int)) ∧ (callVC_2 x)) ∧ (callVC_1 x)))) (cP (BEq.beq x.c.kind (1 : Int)) (∃ (x_3 : @SK), ((Hd x_3.ok) ∧
 ((callVC_9 x x_3) ∧ ((callVC_4 x x_3) ∧ (∀ (y_2 : Unit), (True → ((I64 ((2 : Int) + (@findM x_3.s x_3.key))) ∧ (∃ (x_4 : @SK), ((Hd x_4.ok) ∧ (((((0 = 0) ∧ (x_4.s.n = x.s.n)) ∧ (((0 = 0) ∧ (x_4.s.m = x.s.m)) ∧ True)) ∧ ((x_4.key = x.c.key) ∧ True)) ∧ ((((x_4.s.n = x.s.n) ∧ (∀ (q : Nat), ((q < x_4.s.n) → ([(Value.string (@Shf.pk x_4.s q)), (Value.string (@Shf.pv x_4.s q))] = [(Value.string (@Shf.pk x.s q)), (Value.string (@Shf.pv x.s q))])))) ∧ (((x_4.s.m = x.s.m) ∧ (∀ (q : Nat), ((q < x_4.s.m) → ([(Value.string (@Shf.qv x_4.s q))] = [(Value.string (@Shf.qv x.s q))])))) ∧ True)) ∧ (∀ (y_3 : Unit), (True → (cP (@hadM x_4.s x_4.key) ((I64 ((((@ByteArray.size x.c.key) : Nat) : Int) + (((@ByteArray.size (@getM x_4.s x_4.key)) : Nat) : Int))) ∧ (∃ (x_5 : Int), (True ∧ (((x_5 = ((((@ByteArray.size x.c.key) : Nat) : Int) + (((@ByteArray.size (@getM x_4.s x_4.key)) : Nat) : Int))) ∧ True) ∧ (True ∧ (∀ (y_4 : Unit), (True → (∃ (x_6 : Int), (True ∧ (((x_6 = (@needM x_5)) ∧ True) ∧ (True ∧ (∀ (y_5 : Unit), (True → ((((AV.lit (Value.int IntKind.i64 ((2 : Int) + (@findM x_3.s x_3.key)))) = (AV.lit (Value.int IntKind.i64 ((2 : Int) + (@findM x_3.s x_3.key))))) ∧ True) ∧ ((I64 (((2 : Int) + (@findM x_3.s x_3.key)) + (@spanM x_6))) ∧ (True ∧ (∃ (y_6 : Unit), (True ∧ ((((@Cst.s0 (@callM x.s x.c)) = (((2 : Int) + (@findM x_3.s x_3.key)) + (@spanM x_6))) ∧ (callVC_2 x)) ∧ (callVC_1 x)))))))))))))))))))) (∃ (y_4 : Unit), (True ∧ ((((@Cst.s0 (@callM x.s x.c)) = ((2 : Int) + (@findM x_3.s x_3.key))) ∧
 (callVC_2 x)) ∧ (callVC_1 x)))))))))))))))))) (cP (BEq.beq x.c.kind (2 : Int)) (∃ (x_3 : @SP), ((Hd (@SP.ok x_3)) ∧ (((((0 = 0) ∧ ((@Shf.n (@SP.s x_3)) = x.s.n)) ∧ (((0 = 0) ∧ ((@Shf.m (@SP.s x_3)) = x.s.m)) ∧ True)) ∧ ((((@SP.kind x_3) = x.c.kind) ∧ (((@SP.key x_3) = x.c.key) ∧ (((@SP.value x_3) = x.c.value) ∧ (((@SP.to x_3) = x.c.to) ∧ (True ∧ True))))) ∧ True)) ∧ (((((@Shf.n (@SP.s x_3)) = x.s.n) ∧ (∀ (q : Nat), ((q < (@Shf.n (@SP.s x_3))) → ([(Value.string (@Shf.pk (@SP.s x_3) q)), (Value.string (@Shf.pv (@SP.s x_3) q))] = [(Value.string (@Shf.pk x.s q)), (Value.string (@Shf.pv x.s q))])))) ∧ ((((@Shf.m (@SP.s x_3)) = x.s.m) ∧ (∀ (q : Nat), ((q < (@Shf.m (@SP.s x_3))) → ([(Value.string (@Shf.qv (@SP.s x_3) q))] = [(Value.string (@Shf.qv x.s q))])))) ∧ True)) ∧ (∀ (y_2 : Unit), (True → (((@List.length @Cst [(@Cst.mk (3 : Int) (0 : Int) (0 : Int) (0 : Int) (0 : Int) (0 : Int)), (@Cst.mk ((((@linesM ((((@ByteArray.size (@SP.key x_3)) + (@ByteArray.size (@SP.value x_3))) : Nat) : Int)) + (1 : Int)) + (@findM (@SP.s x_3) (@SP.key x_3))) + (0 : Int)) ((@linesM ((((@ByteArray.size (@SP.key x_3)) + (@ByteArray.size (@SP.value x_3))) : Nat) : Int)) + (1 : Int)) (0 : Int) (0 : Int) (@linesM ((((@ByteArray.size (@SP.key x_3)) + (@ByteArray.size (@SP.value x_3))) : Nat) : Int)) (@b2i (@hadM (@SP.s x_3) (@SP.key x_3))))]) < 4611686018427387904) ∧ (∃ (y_3 : Unit), (True ∧ ((((@Cst.s0 (@callM x.s x.c)) = (@Cst.heldM (3 : Int) ((((@linesM ((((@ByteArray.size (@SP.key x_3)) + (@ByteArray.size (@SP.value x_3))) : Nat) : Int)) + (1 : Int)) + (@findM (@SP.s x_3) (@SP.key x_3))) + (0 : Int)))) ∧
 (((@Cst.s1 (@callM x.s x.c)) = (@Cst.heldM (0 : Int) ((@linesM ((((@ByteArray.size (@SP.key x_3)) + (@ByteArray.size (@SP.value x_3))) : Nat) : Int)) + (1 : Int)))) ∧ (((@Cst.s2 (@callM x.s x.c)) = (0 : Int)) ∧ (((@Cst.s3 (@callM x.s x.c)) = (0 : Int)) ∧ (((@Cst.s4 (@callM x.s x.c)) = (@Cst.heldM (0 : Int) (@linesM ((((@ByteArray.size (@SP.key x_3)) + (@ByteArray.size (@SP.value x_3))) : Nat) : Int)))) ∧ (((@Cst.s5 (@callM x.s x.c)) = (@Cst.heldM (0 : Int) (@b2i (@hadM (@SP.s x_3) (@SP.key x_3))))) ∧ True)))))) ∧ (callVC_1 x))))))))))) (cP (BEq.beq x.c.kind (3 : Int)) (∃ (x_3 : @SK), ((Hd x_3.ok) ∧ ((callVC_9 x x_3) ∧ ((callVC_4 x x_3) ∧ (∀ (y_2 : Unit), (True → (((@List.length @Cst [(@Cst.mk (2 : Int) (0 : Int) (0 : Int) (0 : Int) (0 : Int) (0 : Int)), (@Cst.mk (@Cst.s0 (@partM x_3.s (3 : Int) x_3.key x_3.key (0 : Int))) (@Cst.s1 (@partM x_3.s (3 : Int) x_3.key x_3.key (0 : Int))) (@Cst.s2 (@partM x_3.s (3 : Int) x_3.key x_3.key (0 : Int))) (@Cst.s3 (@partM x_3.s (3 : Int) x_3.key x_3.key (0 : Int))) (@Cst.s4 (@partM x_3.s (3 : Int) x_3.key x_3.key (0 : Int))) (@Cst.s5 (@partM x_3.s (3 : Int) x_3.key x_3.key (0 : Int))))]) < 4611686018427387904) ∧ (cP (decide (@GT.gt Int @Int.instLTInt (@Cst.heldM (0 : Int) (@Cst.s5 (@partM x_3.s (3 : Int) x_3.key x_3.key (0 : Int)))) (0 : Int))) ((I64 ((@Cst.heldM (2 : Int) (@Cst.s0 (@partM x_3.s (3 : Int) x_3.key x_3.key (0 : Int)))) + (1 : Int))) ∧ (∃ (y_3 : Unit), (True ∧ ((((@Cst.s0 (@callM x.s x.c)) = ((@Cst.heldM (2 : Int) (@Cst.s0 (@partM x_3.s (3 : Int) x_3.key x_3.key (0 : Int)))) + (1 : Int))) ∧
 (callVC_5 x x_3)) ∧ (callVC_1 x))))) (∃ (y_3 : Unit), (True ∧ ((((@Cst.s0 (@callM x.s x.c)) = (@Cst.heldM (2 : Int) (@Cst.s0 (@partM x_3.s (3 : Int) x_3.key x_3.key (0 : Int))))) ∧ (callVC_5 x x_3)) ∧ (callVC_1 x)))))))))))) (cP (BEq.beq x.c.kind (4 : Int)) (∃ (x_3 : Int), (True ∧ (((x_3 = (((@ByteArray.size x.c.value) : Nat) : Int)) ∧ True) ∧ (True ∧ (∀ (y_2 : Unit), (True → (((@List.length @Cst [(@Cst.mk (3 : Int) (0 : Int) (0 : Int) (0 : Int) (0 : Int) (0 : Int)), (@Cst.mk ((@linesM x_3) + (1 : Int)) ((@linesM x_3) + (1 : Int)) (0 : Int) (0 : Int) (@linesM x_3) (0 : Int))]) < 4611686018427387904) ∧ (∃ (y_3 : Unit), (True ∧ ((((@Cst.s0 (@callM x.s x.c)) = (@Cst.heldM (3 : Int) ((@linesM x_3) + (1 : Int)))) ∧ (((@Cst.s1 (@callM x.s x.c)) = (@Cst.heldM (0 : Int) ((@linesM x_3) + (1 : Int)))) ∧ (((@Cst.s2 (@callM x.s x.c)) = (0 : Int)) ∧ (((@Cst.s3 (@callM x.s x.c)) = (0 : Int)) ∧ (((@Cst.s4 (@callM x.s x.c)) = (@Cst.heldM (0 : Int) (@linesM x_3))) ∧ (((@Cst.s5 (@callM x.s x.c)) = (0 : Int)) ∧ True)))))) ∧ (callVC_1 x))))))))))) (cP (BEq.beq x.c.kind (5 : Int)) (cP (BEq.beq ((x.s.m : Nat) : Int) (0 : Int)) (∃ (y_2 : Unit), (True ∧ ((((@Cst.s0 (@callM x.s x.c)) = (3 : Int)) ∧ (callVC_2 x)) ∧ (callVC_1 x)))) ((((0 : Int) ≤ (0 : Int)) ∧ ((1 : Int) ≤ ((x.s.m : Nat) : Int))) ∧ ((0 < x.s.m) ∧ (∃ (x_3 : Int), (True ∧ (((x_3 = (((@ByteArray.size (@Shf.qv x.s 0)) : Nat) : Int)) ∧ True) ∧ (True ∧ (∀ (y_2 : Unit), (True → (∃ (x_4 : Int), (True ∧ (((x_4 = (@needM x_3)) ∧ True) ∧ (True ∧ (∀ (y_3 : Unit), (True → ((I64 ((6 : Int) + (@spanM x_4))) ∧
 (∃ (y_4 : Unit), (True ∧ ((((@Cst.s0 (@callM x.s x.c)) = ((6 : Int) + (@spanM x_4))) ∧ (((@Cst.s1 (@callM x.s x.c)) = (2 : Int)) ∧ (((@Cst.s2 (@callM x.s x.c)) = (0 : Int)) ∧ (((@Cst.s3 (@callM x.s x.c)) = (0 : Int)) ∧ (((@Cst.s4 (@callM x.s x.c)) = (1 : Int)) ∧ (((@Cst.s5 (@callM x.s x.c)) = (1 : Int)) ∧ True)))))) ∧ (callVC_1 x)))))))))))))))))))) (cP (BEq.beq x.c.kind (6 : Int)) (∃ (x_3 : @SK), ((Hd x_3.ok) ∧ ((callVC_9 x x_3) ∧ ((callVC_4 x x_3) ∧ (∀ (y_2 : Unit), (True → ((I64 ((3 : Int) + (@seekM x_3.s x_3.key))) ∧ (∃ (x_4 : @SC), ((Hd (x_4.ok ∧ ((x_4.c.kind = (6 : Int)) ∧ ((goodM x_4.c) = (0 : Int))))) ∧ (((((x_4.s.zp = x.s.zp) ∧ ((0 = 0) ∧ (x_4.s.n = x.s.n))) ∧ (((x_4.s.zq = x.s.zq) ∧ ((0 = 0) ∧ (x_4.s.m = x.s.m))) ∧ True)) ∧ ((((6 : Int) = x.c.kind) ∧ ((x_4.c.key = x.c.key) ∧ ((x_4.c.value = x.c.value) ∧ ((x_4.c.to = x.c.to) ∧ (((0 = 0) ∧ (x_4.c.gn = x.c.gn)) ∧ True))))) ∧ True)) ∧ ((((x_4.s.n = x.s.n) ∧ (∀ (q : Nat), ((q < x_4.s.n) → ([(Value.string (@Shf.pk x_4.s q)), (Value.string (@Shf.pv x_4.s q))] = [(Value.string (@Shf.pk x.s q)), (Value.string (@Shf.pv x.s q))])))) ∧ (((x_4.s.m = x.s.m) ∧ (∀ (q : Nat), ((q < x_4.s.m) → ([(Value.string (@Shf.qv x_4.s q))] = [(Value.string (@Shf.qv x.s q))])))) ∧ (((x_4.c.gn = x.c.gn) ∧ (∀ (q : Nat), ((q < x_4.c.gn) → ([(Value.int IntKind.i64 (Mem.kind (Cll.g x_4.c q))), (Value.string (Mem.key (Cll.g x_4.c q))), (Value.string (Mem.value (Cll.g x_4.c q))), (Value.string (Mem.to (Cll.g x_4.c q))), (Value.slice (Mem.gp (Cll.g x_4.c q)) (Mem.gn (Cll.g x_4.c q)) (Mem.gc (Cll.g x_4.c q)))] = [(Value.int IntKind.i64 (Mem.kind (Cll.g x.c q))), (Value.string (Mem.key (Cll.g x.c q))), (Value.string (Mem.value (Cll.g x.c q))), (Value.string (Mem.to (Cll.g x.c q))), (Value.slice (Mem.gp (Cll.g x.c q)) (Mem.gn (Cll.g x.c q)) (Mem.gc (Cll.g x.c q)))])))) ∧
 True))) ∧ ((∀ (y_3 : Unit), ((Hd ((@selL x_4.s x_4.c.key x_4.c.to x_4.s.n) = (@List.nil Nat))) → ((∃ (s : Nat), ((s ≤ (@List.length Nat x.sel)) ∧ (True ∧ (((((s : Nat) : Int) = (0 : Int)) ∧ True) ∧ ((((0 : Int) = (0 : Int)) ∧ ((Bool.false = Bool.false) ∧ ((es = es) ∧ (((Value.slice none 0 0) = (Value.slice none 0 0)) ∧ (((Value.slice none 0 0) = (Value.slice none 0 0)) ∧ (((0 : Int) = (0 : Int)) ∧ True)))))) ∧ ((True ∧ (True ∧ True)) ∧ ((((@selSum x.s x.sel ((3 : Int) + (@seekM x.s x.c.key)) s) = ((3 : Int) + (@seekM x_3.s x_3.key))) ∧ (callVC_7 x)) ∧ (callVC_3 x)))))))) ∧ ((∀ (s : Nat), ((s ≤ (@List.length Nat x.sel)) → (callVC_10 x s))) ∧ True)))) ∧ (∀ (y_3 : Unit), (True → ((∃ (s : Nat), ((s ≤ (@List.length Nat x.sel)) ∧ (True ∧ (((((s : Nat) : Int) = (0 : Int)) ∧ True) ∧ ((callVC_8 x x_4) ∧ ((True ∧ (True ∧ True)) ∧ ((callVC_6 x x_4) ∧ ((((@selSum x.s x.sel ((3 : Int) + (@seekM x.s x.c.key)) s) = ((3 : Int) + (@seekM x_3.s x_3.key))) ∧ (callVC_7 x)) ∧ (callVC_3 x))))))))) ∧ ((∀ (s : Nat), ((s ≤ (@List.length Nat x.sel)) → (cP (decide (((s : Nat) : Int) < (((@List.length Nat (@selL x_4.s x_4.c.key x_4.c.to x_4.s.n)) : Nat) : Int))) ((((0 : Int) ≤ ((s : Nat) : Int)) ∧ (((s : Nat) : Int) < (((@List.length Nat (@selL x_4.s x_4.c.key x_4.c.to x_4.s.n)) : Nat) : Int))) ∧ (((0 + s) < (@List.length Nat (@selL x_4.s x_4.c.key x_4.c.to x_4.s.n))) ∧ ((I64 ((((@ByteArray.size (@Shf.pk x_4.s (@List.getD Nat (@selL x_4.s x_4.c.key x_4.c.to x_4.s.n) (0 + s) 0))) : Nat) : Int) + (((@ByteArray.size (@Shf.pv x_4.s (@List.getD Nat (@selL x_4.s x_4.c.key x_4.c.to x_4.s.n) (0 + s) 0))) : Nat) : Int))) ∧
 (∃ (x_5 : Int), (True ∧ (((x_5 = ((((@ByteArray.size (@Shf.pk x_4.s (@List.getD Nat (@selL x_4.s x_4.c.key x_4.c.to x_4.s.n) (0 + s) 0))) : Nat) : Int) + (((@ByteArray.size (@Shf.pv x_4.s (@List.getD Nat (@selL x_4.s x_4.c.key x_4.c.to x_4.s.n) (0 + s) 0))) : Nat) : Int))) ∧ True) ∧ (True ∧ (∀ (y_4 : Unit), (True → (∃ (x_6 : Int), (True ∧ (((x_6 = (@needM x_5)) ∧ True) ∧ (True ∧ (∀ (y_5 : Unit), (True → ((((AV.lit (Value.int IntKind.i64 (@selSum x.s x.sel ((3 : Int) + (@seekM x.s x.c.key)) s))) = (AV.lit (Value.int IntKind.i64 (@selSum x.s x.sel ((3 : Int) + (@seekM x.s x.c.key)) s)))) ∧ True) ∧ ((I64 ((1 : Int) + (@spanM x_6))) ∧ ((I64 ((@selSum x.s x.sel ((3 : Int) + (@seekM x.s x.c.key)) s) + ((1 : Int) + (@spanM x_6)))) ∧ (True ∧ ((I64 (((s : Nat) : Int) + (1 : Int))) ∧ (∃ (s_1 : Nat), ((s_1 ≤ (@List.length Nat x.sel)) ∧ ((((@List.length Nat x.sel) - s_1) < ((@List.length Nat x.sel) - s)) ∧ (((((s_1 : Nat) : Int) = (((s : Nat) : Int) + (1 : Int))) ∧ True) ∧ ((callVC_8 x x_4) ∧ ((True ∧ (True ∧ True)) ∧ ((callVC_6 x x_4) ∧ ((((@selSum x.s x.sel ((3 : Int) + (@seekM x.s x.c.key)) s_1) = ((@selSum x.s x.sel ((3 : Int) + (@seekM x.s x.c.key)) s) + ((1 : Int) + (@spanM x_6)))) ∧ (callVC_7 x)) ∧ (callVC_3 x))))))))))))))))))))))))))))) (callVC_10 x s)))) ∧ True)))))))))))))))) (cP (BEq.beq x.c.kind (7 : Int)) (∃ (x_3 : @SG), ((Hd (@SG.ok x_3)) ∧ (((((0 = 0) ∧ ((@Shf.n (@SG.s x_3)) = x.s.n)) ∧ (((0 = 0) ∧ ((@Shf.m (@SG.s x_3)) = x.s.m)) ∧ True)) ∧ (((0 = 0) ∧ ((@SG.n x_3) = x.c.gn)) ∧
 True)) ∧ (((((@Shf.n (@SG.s x_3)) = x.s.n) ∧ (∀ (q : Nat), ((q < (@Shf.n (@SG.s x_3))) → ([(Value.string (@Shf.pk (@SG.s x_3) q)), (Value.string (@Shf.pv (@SG.s x_3) q))] = [(Value.string (@Shf.pk x.s q)), (Value.string (@Shf.pv x.s q))])))) ∧ ((((@Shf.m (@SG.s x_3)) = x.s.m) ∧ (∀ (q : Nat), ((q < (@Shf.m (@SG.s x_3))) → ([(Value.string (@Shf.qv (@SG.s x_3) q))] = [(Value.string (@Shf.qv x.s q))])))) ∧ ((((@SG.n x_3) = x.c.gn) ∧ (∀ (q : Nat), ((q < (@SG.n x_3)) → ([(Value.int IntKind.i64 (Mem.kind (@SG.g x_3 q))), (Value.string (Mem.key (@SG.g x_3 q))), (Value.string (Mem.value (@SG.g x_3 q))), (Value.string (Mem.to (@SG.g x_3 q))), (Value.slice (Mem.gp (@SG.g x_3 q)) (Mem.gn (@SG.g x_3 q)) (Mem.gc (@SG.g x_3 q)))] = [(Value.int IntKind.i64 (Mem.kind (Cll.g x.c q))), (Value.string (Mem.key (Cll.g x.c q))), (Value.string (Mem.value (Cll.g x.c q))), (Value.string (Mem.to (Cll.g x.c q))), (Value.slice (Mem.gp (Cll.g x.c q)) (Mem.gn (Cll.g x.c q)) (Mem.gc (Cll.g x.c q)))])))) ∧ True))) ∧ (∀ (y_2 : Unit), (True → (∃ (y_3 : Unit), (True ∧ ((((@Cst.s0 (@callM x.s x.c)) = (@Cst.s0 (@groupTo (@SG.s x_3) (@SG.g x_3) (@SG.n x_3)))) ∧ (((@Cst.s1 (@callM x.s x.c)) = (@Cst.s1 (@groupTo (@SG.s x_3) (@SG.g x_3) (@SG.n x_3)))) ∧ (((@Cst.s2 (@callM x.s x.c)) = (@Cst.s2 (@groupTo (@SG.s x_3) (@SG.g x_3) (@SG.n x_3)))) ∧ (((@Cst.s3 (@callM x.s x.c)) = (@Cst.s3 (@groupTo (@SG.s x_3) (@SG.g x_3) (@SG.n x_3)))) ∧ (((@Cst.s4 (@callM x.s x.c)) = (@Cst.s4 (@groupTo (@SG.s x_3) (@SG.g x_3) (@SG.n x_3)))) ∧
 (((@Cst.s5 (@callM x.s x.c)) = (@Cst.s5 (@groupTo (@SG.s x_3) (@SG.g x_3) (@SG.n x_3)))) ∧ True)))))) ∧ (callVC_1 x)))))))))) (∃ (y_2 : Unit), (True ∧ ((((@Cst.s0 (@callM x.s x.c)) = (0 : Int)) ∧ (callVC_2 x)) ∧ (callVC_1 x)))))))))))))))))))))))))
theorem callVC_ok (x : SC) : callVC x = callVC_wp x := by kernel_rfl
def rcallVC_wp (x : SC) : Prop := wpF Try.prog tblC tt (anRCall x) 200 5 13 (callC.args x) (hO callC.k (callC.os x)) (fun v h' => endsP callC.k x v h' callC.outs)
def rcallVC_7 (x : SC) : Prop := ((((rowP x.s) = (rowP x.s)) ∧ (Bool.true = Bool.true)) ∧ ((((@rowQ x.s) = (@rowQ x.s)) ∧ (Bool.true = Bool.true)) ∧ ((((rowG x.c) = (rowG x.c)) ∧ (Bool.true = Bool.true)) ∧ True)))
def rcallVC_8 (x : SC) (x_3 : @SP) : Prop := ((((@Shf.n (@SP.s x_3)) = x.s.n) ∧ (∀ (q : Nat), ((q < (@Shf.n (@SP.s x_3))) → ([(Value.string (@Shf.pk (@SP.s x_3) q)), (Value.string (@Shf.pv (@SP.s x_3) q))] = [(Value.string (@Shf.pk x.s q)), (Value.string (@Shf.pv x.s q))])))) ∧ ((((@Shf.m (@SP.s x_3)) = x.s.m) ∧ (∀ (q : Nat), ((q < (@Shf.m (@SP.s x_3))) → ([(Value.string (@Shf.qv (@SP.s x_3) q))] = [(Value.string (@Shf.qv x.s q))])))) ∧ True))
def rcallVC_12 (x : SC) (x_3 : @SP) : Prop := (((0 = 0) ∧ ((@Shf.n (@SP.s x_3)) = x.s.n)) ∧ (((0 = 0) ∧ ((@Shf.m (@SP.s x_3)) = x.s.m)) ∧ True))
def rcallVC_1 (x : SC) : Prop := (∃ (x_3 : @SP), ((Hd (@SP.ok x_3)) ∧ (((rcallVC_12 x x_3) ∧ ((((@SP.kind x_3) = x.c.kind) ∧ (((@SP.key x_3) = x.c.key) ∧ (((@SP.value x_3) = x.c.value) ∧ (((@SP.to x_3) = x.c.to) ∧ (True ∧ True))))) ∧ (((@SP.e x_3) = (1 : Int)) ∧ True))) ∧ ((rcallVC_8 x x_3) ∧ (∀ (y_2 : Unit), (True → ((I64 ((@Cst.s0 (@SP.pt x_3)) + (2 : Int))) ∧ (∃ (y_3 : Unit), (True ∧ ((((@Cst.s0 (@callM x.s x.c)) = ((@Cst.s0 (@SP.pt x_3)) + (2 : Int))) ∧ (((@Cst.s1 (@callM x.s x.c)) = (@Cst.s1 (@SP.pt x_3))) ∧ (((@Cst.s2 (@callM x.s x.c)) = (@Cst.s2 (@SP.pt x_3))) ∧ (((@Cst.s3 (@callM x.s x.c)) = (@Cst.s3 (@SP.pt x_3))) ∧ (((@Cst.s4 (@callM x.s x.c)) = (@Cst.s4 (@SP.pt x_3))) ∧ (((@Cst.s5 (@callM x.s x.c)) = (@Cst.s5 (@SP.pt x_3))) ∧ True)))))) ∧ (rcallVC_7 x)))))))))))
def rcallVC_2 (x : SC) : Prop := (((@Cst.s1 (@callM x.s x.c)) = (0 : Int)) ∧ (((@Cst.s2 (@callM x.s x.c)) = (0 : Int)) ∧ (((@Cst.s3 (@callM x.s x.c)) = (0 : Int)) ∧ (((@Cst.s4 (@callM x.s x.c)) = (0 : Int)) ∧ (((@Cst.s5 (@callM x.s x.c)) = (0 : Int)) ∧ True)))))
def rcallVC_3 (x : SC) : Prop := ((((0 : Int) = (0 : Int)) ∧ (((0 : Int) = (0 : Int)) ∧ (((0 : Int) = (0 : Int)) ∧ (((0 : Int) = (0 : Int)) ∧ (((0 : Int) = (0 : Int)) ∧ (((0 : Int) = (0 : Int)) ∧ True)))))) ∧ (((x.c.kind = x.c.kind) ∧ ((x.c.key = x.c.key) ∧ ((x.c.value = x.c.value) ∧ ((x.c.to = x.c.to) ∧ (((0 = 0) ∧ (x.c.gn = x.c.gn)) ∧ True))))) ∧ ((((x.s.zp = x.s.zp) ∧ ((0 = 0) ∧ (x.s.n = x.s.n))) ∧ (((x.s.zq = x.s.zq) ∧ ((0 = 0) ∧ (x.s.m = x.s.m))) ∧ True)) ∧ ((((rowG x.c) = (rowG x.c)) ∧ (Bool.true = Bool.true)) ∧ ((((@rowQ x.s) = (@rowQ x.s)) ∧ (Bool.true = Bool.true)) ∧ ((((rowP x.s) = (rowP x.s)) ∧ (Bool.true = Bool.true)) ∧ True))))))
def rcallVC_4 (x : SC) (s : Nat) : Prop := ((AV.lit (Value.int IntKind.i64 (@Cst.s5 (@groupTo x.s x.c.g s)))) = (AV.lit (Value.int IntKind.i64 (@Cst.s5 (@groupTo x.s x.c.g s)))))
def rcallVC_5 (x : SC) (x_3 : @SP) : Prop := ((AV.lit (Value.int IntKind.i64 (@Cst.s5 (@SP.pt x_3)))) = (AV.lit (Value.int IntKind.i64 (@Cst.s5 (@SP.pt x_3)))))
def rcallVC_6 (x : SC) (s : Nat) : Prop := ((AV.lit (Value.int IntKind.i64 (@Cst.s4 (@groupTo x.s x.c.g s)))) = (AV.lit (Value.int IntKind.i64 (@Cst.s4 (@groupTo x.s x.c.g s)))))
def rcallVC_9 (x : SC) (x_3 : @SP) : Prop := ((AV.lit (Value.int IntKind.i64 (@Cst.s4 (@SP.pt x_3)))) = (AV.lit (Value.int IntKind.i64 (@Cst.s4 (@SP.pt x_3)))))
def rcallVC_10 (x : SC) (s : Nat) : Prop := ((AV.lit (Value.int IntKind.i64 (@Cst.s3 (@groupTo x.s x.c.g s)))) = (AV.lit (Value.int IntKind.i64 (@Cst.s3 (@groupTo x.s x.c.g s)))))
def rcallVC_11 (x : SC) (x_3 : @SP) : Prop := ((AV.lit (Value.int IntKind.i64 (@Cst.s3 (@SP.pt x_3)))) = (AV.lit (Value.int IntKind.i64 (@Cst.s3 (@SP.pt x_3)))))
def rcallVC (x : SC) : Prop :=
  (∃ (x_1 : @Shf), ((Hd x_1.small) ∧ (((((0 = 0) ∧ (x_1.n = x.s.n)) ∧ (((0 = 0) ∧ (x_1.m = x.s.m)) ∧ True)) ∧ True) ∧ ((((x_1.n = x.s.n) ∧ (∀ (q : Nat), ((q < x_1.n) → ([(Value.string (@Shf.pk x_1 q)), (Value.string (@Shf.pv x_1 q))] = [(Value.string (@Shf.pk x.s q)), (Value.string (@Shf.pv x.s q))])))) ∧ (((x_1.m = x.s.m) ∧ (∀ (q : Nat), ((q < x_1.m) → ([(Value.string (@Shf.qv x_1 q))] = [(Value.string (@Shf.qv x.s q))])))) ∧ True)) ∧ (∀ (y : Unit), (True → (cP (@Bool.not (@mayM x_1)) (∃ (y_1 : Unit), (True ∧ ((((@Cst.s0 (@callM x.s x.c)) = (0 : Int)) ∧ (rcallVC_2 x)) ∧ (rcallVC_7 x)))) (∃ (x_2 : Cll), ((Hd x_2.small) ∧ ((((x_2.kind = x.c.kind) ∧ ((x_2.key = x.c.key) ∧ ((x_2.value = x.c.value) ∧ ((x_2.to = x.c.to) ∧ (((0 = 0) ∧ (x_2.gn = x.c.gn)) ∧ True))))) ∧ True) ∧ ((((x_2.gn = x.c.gn) ∧ (∀ (q : Nat), ((q < x_2.gn) → ([(Value.int IntKind.i64 (Mem.kind (Cll.g x_2 q))), (Value.string (Mem.key (Cll.g x_2 q))), (Value.string (Mem.value (Cll.g x_2 q))), (Value.string (Mem.to (Cll.g x_2 q))), (Value.slice (Mem.gp (Cll.g x_2 q)) (Mem.gn (Cll.g x_2 q)) (Mem.gc (Cll.g x_2 q)))] = [(Value.int IntKind.i64 (Mem.kind (Cll.g x.c q))), (Value.string (Mem.key (Cll.g x.c q))), (Value.string (Mem.value (Cll.g x.c q))), (Value.string (Mem.to (Cll.g x.c q))), (Value.slice (Mem.gp (Cll.g x.c q)) (Mem.gn (Cll.g x.c q)) (Mem.gc (Cll.g x.c q)))])))) ∧ True) ∧ (∀ (y_1 : Unit), (True → (cP (bne (goodM x_2) (0 : Int)) (∃ (y_2 : Unit), (True ∧ ((((@Cst.s0 (@callM x.s x.c)) = (1 : Int)) ∧ (rcallVC_2 x)) ∧
 (rcallVC_7 x)))) (cP (BEq.beq x.c.kind (1 : Int)) (∃ (x_3 : @SK), ((Hd x_3.ok) ∧ (((((0 = 0) ∧ (x_3.s.n = x.s.n)) ∧ (((0 = 0) ∧ (x_3.s.m = x.s.m)) ∧ True)) ∧ ((x_3.key = x.c.key) ∧ True)) ∧ ((((x_3.s.n = x.s.n) ∧ (∀ (q : Nat), ((q < x_3.s.n) → ([(Value.string (@Shf.pk x_3.s q)), (Value.string (@Shf.pv x_3.s q))] = [(Value.string (@Shf.pk x.s q)), (Value.string (@Shf.pv x.s q))])))) ∧ (((x_3.s.m = x.s.m) ∧ (∀ (q : Nat), ((q < x_3.s.m) → ([(Value.string (@Shf.qv x_3.s q))] = [(Value.string (@Shf.qv x.s q))])))) ∧ True)) ∧ (∀ (y_2 : Unit), (True → (∃ (x_4 : @SK), ((Hd x_4.ok) ∧ (((((0 = 0) ∧ (x_4.s.n = x.s.n)) ∧ (((0 = 0) ∧ (x_4.s.m = x.s.m)) ∧ True)) ∧ ((x_4.key = x.c.key) ∧ True)) ∧ ((((x_4.s.n = x.s.n) ∧ (∀ (q : Nat), ((q < x_4.s.n) → ([(Value.string (@Shf.pk x_4.s q)), (Value.string (@Shf.pv x_4.s q))] = [(Value.string (@Shf.pk x.s q)), (Value.string (@Shf.pv x.s q))])))) ∧ (((x_4.s.m = x.s.m) ∧ (∀ (q : Nat), ((q < x_4.s.m) → ([(Value.string (@Shf.qv x_4.s q))] = [(Value.string (@Shf.qv x.s q))])))) ∧ True)) ∧ (∀ (y_3 : Unit), (True → ((I64 ((2 : Int) + (@findM x_4.s x_4.key))) ∧ (cP (@hadM x_3.s x_3.key) ((I64 ((((@ByteArray.size x.c.key) : Nat) : Int) + (((@ByteArray.size (@getM x_3.s x_3.key)) : Nat) : Int))) ∧ (∃ (x_5 : Int), (True ∧ (((x_5 = ((((@ByteArray.size x.c.key) : Nat) : Int) + (((@ByteArray.size (@getM x_3.s x_3.key)) : Nat) : Int))) ∧ True) ∧ (True ∧ (∀ (y_4 : Unit), (True → (∃ (x_6 : Int), (True ∧ (((x_6 = (@needM x_5)) ∧ True) ∧ (True ∧ (∀ (y_5 : Unit), (True → ((((AV.lit (Value.int IntKind.i64 ((2 : Int) + (@findM x_4.s x_4.key)))) = (AV.lit (Value.int IntKind.i64 ((2 : Int) + (@findM x_4.s x_4.key))))) ∧
 True) ∧ ((I64 (((2 : Int) + (@findM x_4.s x_4.key)) + (@spanM x_6))) ∧ (True ∧ (∃ (y_6 : Unit), (True ∧ ((((@Cst.s0 (@callM x.s x.c)) = (((2 : Int) + (@findM x_4.s x_4.key)) + (@spanM x_6))) ∧ (rcallVC_2 x)) ∧ (rcallVC_7 x)))))))))))))))))))) (∃ (y_4 : Unit), (True ∧ ((((@Cst.s0 (@callM x.s x.c)) = ((2 : Int) + (@findM x_4.s x_4.key))) ∧ (rcallVC_2 x)) ∧ (rcallVC_7 x)))))))))))))))))) (cP (BEq.beq x.c.kind (2 : Int)) (rcallVC_1 x) (cP (BEq.beq x.c.kind (3 : Int)) (rcallVC_1 x) (cP (BEq.beq x.c.kind (4 : Int)) (rcallVC_1 x) (cP (BEq.beq x.c.kind (5 : Int)) (cP (decide (@GT.gt Int @Int.instLTInt ((x.s.m : Nat) : Int) (0 : Int))) ((((0 : Int) ≤ (0 : Int)) ∧ ((1 : Int) ≤ ((x.s.m : Nat) : Int))) ∧ ((0 < x.s.m) ∧ (∃ (x_3 : Int), (True ∧ (((x_3 = (((@ByteArray.size (@Shf.qv x.s 0)) : Nat) : Int)) ∧ True) ∧ (True ∧ (∀ (y_2 : Unit), (True → (∃ (x_4 : Int), (True ∧ (((x_4 = (@needM x_3)) ∧ True) ∧ (True ∧ (∀ (y_3 : Unit), (True → ((I64 ((6 : Int) + (@spanM x_4))) ∧ (∃ (y_4 : Unit), (True ∧ ((((@Cst.s0 (@callM x.s x.c)) = ((6 : Int) + (@spanM x_4))) ∧ (((@Cst.s1 (@callM x.s x.c)) = (2 : Int)) ∧ (((@Cst.s2 (@callM x.s x.c)) = (0 : Int)) ∧ (((@Cst.s3 (@callM x.s x.c)) = (0 : Int)) ∧ (((@Cst.s4 (@callM x.s x.c)) = (1 : Int)) ∧ (((@Cst.s5 (@callM x.s x.c)) = (1 : Int)) ∧ True)))))) ∧ (rcallVC_7 x))))))))))))))))))) (∃ (y_2 : Unit), (True ∧ ((((@Cst.s0 (@callM x.s x.c)) = (3 : Int)) ∧ (rcallVC_2 x)) ∧ (rcallVC_7 x))))) (cP (BEq.beq x.c.kind (6 : Int)) (∃ (x_3 : @SP), ((Hd ((@Shf.small (@SP.s x_3)) ∧
 ((@ByteArray.size (@SP.key x_3)) ≤ 1500))) ∧ (((rcallVC_12 x x_3) ∧ ((((@SP.kind x_3) = x.c.kind) ∧ (((@SP.key x_3) = x.c.key) ∧ (((@SP.value x_3) = x.c.value) ∧ (((@SP.to x_3) = x.c.to) ∧ (True ∧ True))))) ∧ True)) ∧ ((rcallVC_8 x x_3) ∧ (∀ (y_2 : Unit), (True → (∃ (y_3 : Unit), (True ∧ ((((@Cst.s0 (@callM x.s x.c)) = (@scanTo (@SP.s x_3) (@SP.key x_3) (@SP.to x_3) ((3 : Int) + (@seekM (@SP.s x_3) (@SP.key x_3))) (@Shf.n (@SP.s x_3)))) ∧ (rcallVC_2 x)) ∧ (rcallVC_7 x)))))))))) (cP (BEq.beq x.c.kind (7 : Int)) ((∃ (s : Nat), ((s ≤ x.c.gn) ∧ (True ∧ (((((s : Nat) : Int) = (0 : Int)) ∧ True) ∧ ((((@Cst.s0 (@groupTo x.s x.c.g s)) = (3 : Int)) ∧ (((@Cst.s1 (@groupTo x.s x.c.g s)) = (0 : Int)) ∧ (((@Cst.s2 (@groupTo x.s x.c.g s)) = (0 : Int)) ∧ (((@Cst.s3 (@groupTo x.s x.c.g s)) = (0 : Int)) ∧ (((@Cst.s4 (@groupTo x.s x.c.g s)) = (0 : Int)) ∧ (((@Cst.s5 (@groupTo x.s x.c.g s)) = (0 : Int)) ∧ True)))))) ∧ (rcallVC_3 x)))))) ∧ ((∀ (s : Nat), ((s ≤ x.c.gn) → (cP (decide (((s : Nat) : Int) < ((x.c.gn : Nat) : Int))) ((((0 : Int) ≤ ((s : Nat) : Int)) ∧ (((s : Nat) : Int) < ((x.c.gn : Nat) : Int))) ∧ (((0 + s) < x.c.gn) ∧ (∃ (x_3 : @SP), ((Hd (@SP.ok x_3)) ∧ (((rcallVC_12 x x_3) ∧ ((((@SP.kind x_3) = (Mem.kind (Cll.g x.c (0 + s)))) ∧ (((@SP.key x_3) = (Mem.key (Cll.g x.c (0 + s)))) ∧ (((@SP.value x_3) = (Mem.value (Cll.g x.c (0 + s)))) ∧ (((@SP.to x_3) = (Mem.to (Cll.g x.c (0 + s)))) ∧ (True ∧ True))))) ∧ (((@SP.e x_3) = (0 : Int)) ∧ True))) ∧ ((rcallVC_8 x x_3) ∧ (∀ (y_2 : Unit), (True → ((((AV.agg [(AV.lit (Value.int IntKind.i64 (@Cst.s0 (@groupTo x.s x.c.g s)))), (AV.lit (Value.int IntKind.i64 (@Cst.s1 (@groupTo x.s x.c.g s)))), (AV.lit (Value.int IntKind.i64 (@Cst.s2 (@groupTo x.s x.c.g s)))), (AV.lit (Value.int IntKind.i64 (@Cst.s3 (@groupTo x.s x.c.g s)))), (AV.lit (Value.int IntKind.i64 (@Cst.s4 (@groupTo x.s x.c.g s)))), (AV.lit (Value.int IntKind.i64 (@Cst.s5 (@groupTo x.s x.c.g s))))]) = (AV.agg [(AV.lit (Value.int IntKind.i64 (@Cst.s0 (@groupTo x.s x.c.g s)))), (AV.lit (Value.int IntKind.i64 (@Cst.s1 (@groupTo x.s x.c.g s)))), (AV.lit (Value.int IntKind.i64 (@Cst.s2 (@groupTo x.s x.c.g s)))), (AV.lit (Value.int IntKind.i64 (@Cst.s3 (@groupTo x.s x.c.g s)))), (AV.lit (Value.int IntKind.i64 (@Cst.s4 (@groupTo x.s x.c.g s)))), (AV.lit (Value.int IntKind.i64 (@Cst.s5 (@groupTo x.s x.c.g s))))])) ∧
 True) ∧ ((I64 ((@imax (0 : Int) (imin (@Cst.s0 (@groupTo x.s x.c.g s)) (1099511627776 : Int))) + (@imax (0 : Int) (imin (@Cst.s0 (@SP.pt x_3)) (1099511627776 : Int))))) ∧ (((rcallVC_5 x x_3) ∧ ((rcallVC_4 x s) ∧ ((rcallVC_9 x x_3) ∧ ((rcallVC_6 x s) ∧ ((rcallVC_11 x x_3) ∧ ((rcallVC_10 x s) ∧ (((AV.lit (Value.int IntKind.i64 (@Cst.s2 (@SP.pt x_3)))) = (AV.lit (Value.int IntKind.i64 (@Cst.s2 (@SP.pt x_3))))) ∧ (((AV.lit (Value.int IntKind.i64 (@Cst.s2 (@groupTo x.s x.c.g s)))) = (AV.lit (Value.int IntKind.i64 (@Cst.s2 (@groupTo x.s x.c.g s))))) ∧ (((AV.lit (Value.int IntKind.i64 (@Cst.s1 (@SP.pt x_3)))) = (AV.lit (Value.int IntKind.i64 (@Cst.s1 (@SP.pt x_3))))) ∧ (((AV.lit (Value.int IntKind.i64 (@Cst.s1 (@groupTo x.s x.c.g s)))) = (AV.lit (Value.int IntKind.i64 (@Cst.s1 (@groupTo x.s x.c.g s))))) ∧ True)))))))))) ∧ ((I64 ((@imax (0 : Int) (imin (@Cst.s1 (@groupTo x.s x.c.g s)) (1099511627776 : Int))) + (@imax (0 : Int) (imin (@Cst.s1 (@SP.pt x_3)) (1099511627776 : Int))))) ∧ (((rcallVC_5 x x_3) ∧ ((rcallVC_4 x s) ∧ ((rcallVC_9 x x_3) ∧ ((rcallVC_6 x s) ∧ ((rcallVC_11 x x_3) ∧ ((rcallVC_10 x s) ∧ (((AV.lit (Value.int IntKind.i64 (@Cst.s2 (@SP.pt x_3)))) = (AV.lit (Value.int IntKind.i64 (@Cst.s2 (@SP.pt x_3))))) ∧ (((AV.lit (Value.int IntKind.i64 (@Cst.s2 (@groupTo x.s x.c.g s)))) = (AV.lit (Value.int IntKind.i64 (@Cst.s2 (@groupTo x.s x.c.g s))))) ∧ True)))))))) ∧ ((I64 ((@imax (0 : Int) (imin (@Cst.s2 (@groupTo x.s x.c.g s)) (1099511627776 : Int))) + (@imax (0 : Int) (imin (@Cst.s2 (@SP.pt x_3)) (1099511627776 : Int))))) ∧
 (((rcallVC_5 x x_3) ∧ ((rcallVC_4 x s) ∧ ((rcallVC_9 x x_3) ∧ ((rcallVC_6 x s) ∧ ((rcallVC_11 x x_3) ∧ ((rcallVC_10 x s) ∧ True)))))) ∧ ((I64 ((@imax (0 : Int) (imin (@Cst.s3 (@groupTo x.s x.c.g s)) (1099511627776 : Int))) + (@imax (0 : Int) (imin (@Cst.s3 (@SP.pt x_3)) (1099511627776 : Int))))) ∧ (((rcallVC_5 x x_3) ∧ ((rcallVC_4 x s) ∧ ((rcallVC_9 x x_3) ∧ ((rcallVC_6 x s) ∧ True)))) ∧ ((I64 ((@imax (0 : Int) (imin (@Cst.s4 (@groupTo x.s x.c.g s)) (1099511627776 : Int))) + (@imax (0 : Int) (imin (@Cst.s4 (@SP.pt x_3)) (1099511627776 : Int))))) ∧ (((rcallVC_5 x x_3) ∧ ((rcallVC_4 x s) ∧ True)) ∧ ((I64 ((@imax (0 : Int) (imin (@Cst.s5 (@groupTo x.s x.c.g s)) (1099511627776 : Int))) + (@imax (0 : Int) (imin (@Cst.s5 (@SP.pt x_3)) (1099511627776 : Int))))) ∧ (True ∧ (True ∧ (True ∧ (True ∧ ((I64 (((s : Nat) : Int) + (1 : Int))) ∧ (∃ (s_1 : Nat), ((s_1 ≤ x.c.gn) ∧ (((x.c.gn - s_1) < (x.c.gn - s)) ∧ (((((s_1 : Nat) : Int) = (((s : Nat) : Int) + (1 : Int))) ∧ True) ∧ ((((@Cst.s0 (@groupTo x.s x.c.g s_1)) = (imin ((@imax (0 : Int) (imin (@Cst.s0 (@groupTo x.s x.c.g s)) (1099511627776 : Int))) + (@imax (0 : Int) (imin (@Cst.s0 (@SP.pt x_3)) (1099511627776 : Int)))) (1099511627776 : Int))) ∧ (((@Cst.s1 (@groupTo x.s x.c.g s_1)) = (imin ((@imax (0 : Int) (imin (@Cst.s1 (@groupTo x.s x.c.g s)) (1099511627776 : Int))) + (@imax (0 : Int) (imin (@Cst.s1 (@SP.pt x_3)) (1099511627776 : Int)))) (1099511627776 : Int))) ∧ (((@Cst.s2 (@groupTo x.s x.c.g s_1)) = (imin ((@imax (0 : Int) (imin (@Cst.s2 (@groupTo x.s x.c.g s)) (1099511627776 : Int))) + (@imax (0 : Int) (imin (@Cst.s2 (@SP.pt x_3)) (1099511627776 : Int)))) (1099511627776 : Int))) ∧
 (((@Cst.s3 (@groupTo x.s x.c.g s_1)) = (imin ((@imax (0 : Int) (imin (@Cst.s3 (@groupTo x.s x.c.g s)) (1099511627776 : Int))) + (@imax (0 : Int) (imin (@Cst.s3 (@SP.pt x_3)) (1099511627776 : Int)))) (1099511627776 : Int))) ∧ (((@Cst.s4 (@groupTo x.s x.c.g s_1)) = (imin ((@imax (0 : Int) (imin (@Cst.s4 (@groupTo x.s x.c.g s)) (1099511627776 : Int))) + (@imax (0 : Int) (imin (@Cst.s4 (@SP.pt x_3)) (1099511627776 : Int)))) (1099511627776 : Int))) ∧ (((@Cst.s5 (@groupTo x.s x.c.g s_1)) = (imin ((@imax (0 : Int) (imin (@Cst.s5 (@groupTo x.s x.c.g s)) (1099511627776 : Int))) + (@imax (0 : Int) (imin (@Cst.s5 (@SP.pt x_3)) (1099511627776 : Int)))) (1099511627776 : Int))) ∧ True)))))) ∧ (rcallVC_3 x))))))))))))))))))))))))))))))) (∃ (y_2 : Unit), (True ∧ ((((@Cst.s0 (@callM x.s x.c)) = (@Cst.s0 (@groupTo x.s x.c.g s))) ∧ (((@Cst.s1 (@callM x.s x.c)) = (@Cst.s1 (@groupTo x.s x.c.g s))) ∧ (((@Cst.s2 (@callM x.s x.c)) = (@Cst.s2 (@groupTo x.s x.c.g s))) ∧ (((@Cst.s3 (@callM x.s x.c)) = (@Cst.s3 (@groupTo x.s x.c.g s))) ∧ (((@Cst.s4 (@callM x.s x.c)) = (@Cst.s4 (@groupTo x.s x.c.g s))) ∧ (((@Cst.s5 (@callM x.s x.c)) = (@Cst.s5 (@groupTo x.s x.c.g s))) ∧ True)))))) ∧ (rcallVC_7 x))))))) ∧ True)) (∃ (y_2 : Unit), (True ∧ ((((@Cst.s0 (@callM x.s x.c)) = (0 : Int)) ∧ (rcallVC_2 x)) ∧ (rcallVC_7 x)))))))))))))))))))))))))
end Go.Proofs.Ytjndgegfonhhfaa
end
section
/- What a call costs: plain laws. -/
namespace Go.Proofs.Ytjndgegfonhhfaa
open Go SE
theorem call_may {s : Shf} {c : Cll} (h : mayM s = false) : callM s c = Cst.zero := by unfold callM; rw [h]; rfl
theorem call_bad {s : Shf} {c : Cll} (h : mayM s = true) (hg : goodM c ≠ 0) : callM s c = ⟨1, 0, 0, 0, 0, 0⟩ := by unfold callM; rw [h, decide_eq_false hg]; rfl
theorem call1 {s : Shf} {c : Cll} (h : mayM s = true) (hg : goodM c = 0) (hk : c.kind = 1) : callM s c = ⟨2 + findM s c.key + (bif hadM s c.key then linesM (c.key.size + (s.pv (placeM s c.key)).size : Nat) else 0), 0, 0, 0, 0, 0⟩ := by
  unfold callM; rw [h, decide_eq_true hg, hk]; rfl
theorem call2 {s : Shf} {c : Cll} (h : mayM s = true) (hg : goodM c = 0) (hk : c.kind = 2 ∨ c.kind = 3 ∨ c.kind = 4) : callM s c = two (partM s c.kind c.key c.value 1) := by
  unfold callM; rw [h, decide_eq_true hg]; rcases hk with hk | hk | hk <;> rw [hk] <;> rfl
theorem call5 {s : Shf} {c : Cll} (h : mayM s = true) (hg : goodM c = 0) (hk : c.kind = 5) : callM s c = bif decide (s.m = 0) then ⟨3, 0, 0, 0, 0, 0⟩ else ⟨6 + linesM (s.qv 0).size, 2, 0, 0, 1, 1⟩ := by
  unfold callM; rw [h, decide_eq_true hg, hk]; rfl
theorem call6 {s : Shf} {c : Cll} (h : mayM s = true) (hg : goodM c = 0) (hk : c.kind = 6) : callM s c = ⟨scanTo s c.key c.to (3 + seekM s c.key) s.n, 0, 0, 0, 0, 0⟩ := by
  unfold callM; rw [h, decide_eq_true hg, hk]; rfl
theorem call7 {s : Shf} {c : Cll} (h : mayM s = true) (hg : goodM c = 0) (hk : c.kind = 7) : callM s c = groupTo s c.g c.gn := by
  unfold callM; rw [h, decide_eq_true hg, hk]; rfl
theorem call8 {s : Shf} {c : Cll} (h : mayM s = true) (hg : goodM c = 0) (h1 : c.kind ≠ 1) (h2 : c.kind ≠ 2) (h3 : c.kind ≠ 3) (h4 : c.kind ≠ 4) (h5 : c.kind ≠ 5) (h6 : c.kind ≠ 6) (h7 : c.kind ≠ 7) : callM s c = Cst.zero := by
  unfold callM; rw [h, decide_eq_true hg]; simp [h1, h2, h3, h4, h5, h6, h7]
theorem good_group {c : Cll} (hg : goodM c = 0) (hk : c.kind = 7) : c.gn ≤ 3 ∧ ∀ k, k < c.gn → groupedM (c.g k).kind = true := by
  have hs : shapeM c = true := by
    unfold goodM at hg
    cases h : shapeM c with
    | true => rfl
    | false => rw [h] at hg; cases hg
  unfold shapeM at hs
  rw [hk] at hs
  simp only [ne_eq, not_true_eq_false, decide_false, Bool.false_or, Bool.and_eq_true, decide_eq_true_eq] at hs
  refine ⟨hs.2.2.1, fun k hk => ?_⟩
  have := hs.2.2.2 k hk
  unfold memOk at this
  simp only [Bool.and_eq_true] at this
  exact this.1.1
theorem selSum_app (s : Shf) (L : List Nat) (i : Nat) (x0 : Int) : ∀ k, k ≤ L.length → selSum s (L ++ [i]) x0 k = selSum s L x0 k
  | 0, _ => rfl
  | k + 1, h => by
    simp only [selSum]
    rw [selSum_app s L i x0 k (by omega), getD_app, if_pos (by omega)]
theorem selSum_scan (s : Shf) (k t : BA) (x0 : Int) : ∀ i, selSum s (selL s k t i) x0 (selL s k t i).length = scanTo s k t x0 i
  | 0 => rfl
  | i + 1 => by
    have ih := selSum_scan s k t x0 i
    cases h : inM s k t i with
    | false =>
      rw [sel_out h]
      simp only [scanTo, h, cond_false]; exact ih
    | true =>
      rw [sel_in h]
      simp only [scanTo, h, cond_true, List.length_append, List.length_singleton, selSum]
      rw [selSum_app _ _ _ _ _ (Nat.le_refl _), ih, getD_app, if_neg (by omega), if_pos rfl]
      omega
theorem scanTo_le (s : Shf) (k t : BA) (x0 : Int) : ∀ i : Nat, x0 ≤ scanTo s k t x0 i ∧ scanTo s k t x0 i ≤ x0 + 9 * i
  | 0 => by simp [scanTo]
  | i + 1 => by
    have ih := scanTo_le s k t x0 i
    have := linesM_le ((s.pk i).size + (s.pv i).size : Nat)
    simp only [scanTo]
    cases inM s k t i with
    | true => simp only [cond_true]; omega
    | false => simp only [cond_false]; omega
theorem sel_lt (s : Shf) (k t : BA) : ∀ n q, q < (selL s k t n).length → (selL s k t n).getD q 0 < n
  | 0, q, h => by simp [selL] at h
  | n + 1, q, h => by
    cases hi : inM s k t n with
    | false =>
      rw [sel_out hi] at h ⊢
      have := sel_lt s k t n q h; omega
    | true =>
      rw [sel_in hi] at h ⊢
      rw [getD_app]
      split
      · rename_i h2; have := sel_lt s k t n q h2; omega
      · split <;> omega
theorem selSum_le (s : Shf) (L : List Nat) (x0 : Int) : ∀ i : Nat, x0 ≤ selSum s L x0 i ∧ selSum s L x0 i ≤ x0 + 9 * i
  | 0 => by simp [selSum]
  | i + 1 => by
    have ih := selSum_le s L x0 i
    have := linesM_le ((s.pk (L.getD i 0)).size + (s.pv (L.getD i 0)).size : Nat)
    simp only [selSum]
    omega
theorem seekM_le (s : Shf) (key : BA) (h : s.n ≤ 40) : 0 ≤ seekM s key ∧ seekM s key ≤ 164 := by
  have := skS_le s key 4
  unfold seekM; omega
end Go.Proofs.Ytjndgegfonhhfaa
end
section
/- What a call costs: what is asked is so. -/
namespace Go.Proofs.Ytjndgegfonhhfaa
open Go SE
theorem rscanVC_true (x : SP) (hx : x.s.small ∧ x.key.size ≤ 1500) : rscanVC x := by
  unfold rscanVC
  have et : ∀ t : BA, (t.toList == (ByteArray.mk #[]).toList) = emp t := fun _ => rfl
  simp only [hd_iff, and_true, true_and, Nat.zero_add, Nat.add_zero, unit_ex, unit_all, true_implies, implies_true, Int.toNat_natCast, eq_self, and_self, lL, et]
  obtain ⟨hs, hk⟩ := hx
  have hn := hs.1
  have hsk := seekM_le x.s x.key hn
  have hp := fun i hi => hs.2.2.1 i hi
  refine ⟨⟨x.s, x.key⟩, ⟨hs, hk⟩, ⟨⟨rfl, rfl⟩, rfl⟩, ⟨⟨rfl, fun _ _ => rfl⟩, rfl, fun _ _ => rfl⟩, by unfold I64; dsimp only; omega, ⟨0, by omega, rfl, rfl⟩, fun i hi => cP_intro (fun hb => ?_) (fun hb => ?_)⟩
  · have hb := of_decide_eq_true hb
    have hl : i < x.s.n := by omega
    have hz := scanTo_le x.s x.key x.to (3 + seekM x.s x.key) i
    have hpi := hp i hl
    have hL := linesM_le ((x.s.pk i).size + (x.s.pv i).size : Nat)
    have stay : inM x.s x.key x.to i = false → I64 ((i : Int) + 1) ∧ ∃ q : Nat, q ≤ x.s.n ∧ x.s.n - q < x.s.n - i ∧ ((q : Int) = (i : Int) + 1 ∧ scanTo x.s x.key x.to (3 + seekM x.s x.key) q = scanTo x.s x.key x.to (3 + seekM x.s x.key) i) := fun h => ⟨by unfold I64; omega, i + 1, by omega, by omega, rfl, by simp [scanTo, h]⟩
    have go : inM x.s x.key x.to i = true → I64 (scanTo x.s x.key x.to (3 + seekM x.s x.key) i + 1) ∧ I64 (((x.s.pk i).size : Int) + ((x.s.pv i).size : Int)) ∧ ∃ z : Int, z = ((x.s.pk i).size : Int) + ((x.s.pv i).size : Int) ∧ ∃ y : Int, y = needM z ∧ I64 (scanTo x.s x.key x.to (3 + seekM x.s x.key) i + 1 + spanM y) ∧ I64 ((i : Int) + 1) ∧ ∃ q : Nat, q ≤ x.s.n ∧ x.s.n - q < x.s.n - i ∧ ((q : Int) = (i : Int) + 1 ∧ scanTo x.s x.key x.to (3 + seekM x.s x.key) q = scanTo x.s x.key x.to (3 + seekM x.s x.key) i + 1 + spanM y) := fun h => by
      have e : ((x.s.pk i).size : Int) + ((x.s.pv i).size : Int) = ((x.s.pk i).size + (x.s.pv i).size : Nat) := by omega
      rw [e]
      refine ⟨by unfold I64; omega, by unfold I64; omega, _, rfl, _, rfl, ?_, by unfold I64; omega, i + 1, by omega, by omega, rfl, ?_⟩
      · have : spanM (needM ((x.s.pk i).size + (x.s.pv i).size : Nat)) = linesM ((x.s.pk i).size + (x.s.pv i).size : Nat) := rfl
        rw [this]; unfold I64; omega
      · simp only [scanTo, h, cond_true]; rfl
    refine ⟨⟨by omega, hb⟩, hl, cP_intro (fun h1 => cP_intro (fun h2 => go ?_) (fun h2 => cP_intro (fun h3 => go ?_) (fun h3 => stay ?_))) (fun h1 => stay ?_)⟩
    · have h1 : lsB (x.s.pk i) x.key = false := by simpa using h1
      unfold inM; rw [h1, h2]; rfl
    · have h1 : lsB (x.s.pk i) x.key = false := by simpa using h1
      unfold inM; rw [h1, h3]; simp
    · unfold inM; rw [h2, h3]; simp
    · have h1 : lsB (x.s.pk i) x.key = true := by simpa using h1
      unfold inM; rw [h1]; rfl
  · have : i = x.s.n := by have := of_decide_eq_false hb; omega
    subst this; rfl
theorem rscan_ok : CtrOk Try.prog 50 rscanC := det_end tt_ok mixed (.cons (ctrT_ok rseek_ok) tblN_ok) anRScan 200 5 (fun _ => rfl) (fun _ => rfl) fun x hx => Eq.mp (rscanVC_ok x) (rscanVC_true x (hd_iff.1 hx))
theorem tblC_ok : TblOk Try.prog tblC := .append (.cons (ctrT_ok may_ok) (.cons (ctrT_ok rmay_ok) (.cons (ctrT_ok good_ok) (.cons (ctrT_ok rgood_ok) (.cons (ctrT_ok seek_ok) (.cons (ctrT_ok rseek_ok) (.cons (ctrT_ok put_ok) (.cons (ctrT_ok del_ok) (.cons (ctrT_ok part_ok) (.cons (ctrT_ok group_ok) (.cons (ctrT_ok applyScan_ok) (.cons (ctrT_ok rscan_ok) .nil)))))))))))) (.append tblW_ok tblN_ok)
theorem callVC_true (x : SC) (hx : x.ok) : callVC x := by
  unfold callVC
  simp only [callVC_1, callVC_2, callVC_7, callVC_3, callVC_4, callVC_5, callVC_6, callVC_8, callVC_9, callVC_10]
  simp only [hd_iff, and_true, true_and, Nat.zero_add, Nat.add_zero, unit_ex, unit_all, true_implies, implies_true, Int.toNat_natCast, eq_self, and_self]
  obtain ⟨hs, hw, hc⟩ := hx
  have hn := hs.1
  have hk : SK.ok ⟨x.s, x.c.key⟩ := ⟨hs, hc.1⟩
  have hf := findM_le x.s x.c.key hn
  have hsk := seekM_le x.s x.c.key hn
  refine ⟨x.s, hs, ⟨rfl, rfl⟩, ⟨⟨rfl, fun _ _ => rfl⟩, rfl, fun _ _ => rfl⟩, cP_intro (fun h => ?_) (fun hm => ⟨x.c, hc, ⟨rfl, rfl, rfl, rfl, rfl⟩, ⟨rfl, fun _ _ => rfl⟩, cP_intro (fun h => ?_) (fun hg => ?_)⟩)⟩
  · rw [call_may (by simpa using h)]; exact ⟨rfl, rfl, rfl, rfl, rfl, rfl⟩
  · have hm : mayM x.s = true := by simpa using hm
    rw [call_bad hm (by simpa using h)]; exact ⟨rfl, rfl, rfl, rfl, rfl, rfl⟩
  have hm : mayM x.s = true := by simpa using hm
  have hg : goodM x.c = 0 := by simpa using hg
  refine cP_intro (fun h1 => ?_) (fun h1 => cP_intro (fun h2 => ?_) (fun h2 => cP_intro (fun h3 => ?_) (fun h3 => cP_intro (fun h4 => ?_) (fun h4 => cP_intro (fun h5 => ?_) (fun h5 => cP_intro (fun h6 => ?_) (fun h6 => cP_intro (fun h7 => ?_) (fun h7 => ?_)))))))
  all_goals simp only [beq_iff_eq, beq_eq_false_iff_ne] at *
  · rw [call1 hm hg h1]
    refine ⟨⟨x.s, x.c.key⟩, hk, ⟨⟨rfl, rfl⟩, rfl⟩, ⟨⟨rfl, fun _ _ => rfl⟩, rfl, fun _ _ => rfl⟩, by unfold I64; dsimp only; omega, ⟨x.s, x.c.key⟩, hk, ⟨⟨rfl, rfl⟩, rfl⟩, ⟨⟨rfl, fun _ _ => rfl⟩, rfl, fun _ _ => rfl⟩, ?_⟩
    dsimp only
    cases hh : hadM x.s x.c.key with
    | false => refine cP_intro (fun h => by cases h) (fun _ => ?_); simp
    | true =>
      have hp : placeM x.s x.c.key < x.s.n := by unfold hadM at hh; exact of_decide_eq_true hh
      have hgm : getM x.s x.c.key = x.s.pv (placeM x.s x.c.key) := by unfold getM; rw [hh]; rfl
      have hv := (hs.2.2.1 _ hp).2
      have hL := linesM_le (x.c.key.size + (x.s.pv (placeM x.s x.c.key)).size : Nat)
      refine cP_intro (fun _ => ?_) (fun h => by cases h)
      rw [hgm]
      have e : (x.c.key.size : Int) + ((x.s.pv (placeM x.s x.c.key)).size : Int) = (x.c.key.size + (x.s.pv (placeM x.s x.c.key)).size : Nat) := by omega
      rw [e]
      have e2 : spanM (needM (x.c.key.size + (x.s.pv (placeM x.s x.c.key)).size : Nat)) = linesM (x.c.key.size + (x.s.pv (placeM x.s x.c.key)).size : Nat) := rfl
      have := hc.1
      exact ⟨by unfold I64; omega, _, rfl, _, rfl, by rw [e2]; unfold I64; omega, rfl, rfl, rfl, rfl, rfl, rfl⟩
  · rw [call2 hm hg (.inl h2), h2, part2]
    have hL := linesM_le (x.c.key.size + x.c.value.size : Nat)
    refine ⟨⟨x.s, x.c.kind, x.c.key, x.c.value, x.c.to, 0⟩, ⟨hs, hc.1, hc.2.1, .inl rfl⟩, ⟨⟨rfl, rfl⟩, h2.symm ▸ rfl, rfl, rfl, rfl⟩, ⟨⟨rfl, fun _ _ => rfl⟩, rfl, fun _ _ => rfl⟩, ?_⟩
    dsimp only [two]
    have hb : 0 ≤ b2i (hadM x.s x.c.key) ∧ b2i (hadM x.s x.c.key) ≤ 1 := by unfold b2i; cases hadM x.s x.c.key <;> simp
    refine ⟨by simp, ?_, ?_, rfl, rfl, ?_, ?_⟩
    · rw [held_small (by omega) (by omega) (by omega)]; omega
    · rw [held0 (by omega) (by omega)]
    · rw [held0 (by omega) (by omega)]
    · rw [held0 (by omega) (by omega)]
  · rw [call2 hm hg (.inr (.inl h3)), h3, part3]
    refine ⟨⟨x.s, x.c.key⟩, hk, ⟨⟨rfl, rfl⟩, rfl⟩, ⟨⟨rfl, fun _ _ => rfl⟩, rfl, fun _ _ => rfl⟩, by simp, ?_⟩
    dsimp only
    rw [part3]
    cases hh : hadM x.s x.c.key with
    | true =>
      simp only [cond_true, two]
      rw [held_small (a := 2) (by omega) (by omega) (by omega)]
      refine cP_intro (fun _ => ⟨by unfold I64; omega, by omega, ?_, ?_, ?_, ?_, ?_⟩) (fun h => by have h := of_decide_eq_false h; rw [held0 (by omega) (by omega)] at h; omega)
      all_goals (rw [held0 (by omega) (by omega)])
    | false =>
      simp only [cond_false, two]
      rw [held_small (a := 2) (by omega) (by omega) (by omega)]
      refine cP_intro (fun h => by have h := of_decide_eq_true h; rw [held0 (by omega) (by omega)] at h; omega) (fun _ => ⟨by omega, ?_, ?_, ?_, ?_, ?_⟩)
      all_goals (rw [held0 (by omega) (by omega)])
  · rw [call2 hm hg (.inr (.inr h4)), h4, part4]
    have hL := linesM_le (x.c.value.size : Nat)
    dsimp only [two]
    refine ⟨_, rfl, by simp, ?_, ?_, rfl, rfl, ?_, rfl⟩
    · rw [held_small (by omega) (by omega) (by omega)]; omega
    · rw [held0 (by omega) (by omega)]
    · rw [held0 (by omega) (by omega)]
  · rw [call5 hm hg h5]
    have hL := linesM_le ((x.s.qv 0).size : Nat)
    refine cP_intro (fun h => ?_) (fun h => ?_)
    · have : x.s.m = 0 := by have h := eq_of_beq h; omega
      rw [decide_eq_true this]; exact ⟨rfl, rfl, rfl, rfl, rfl, rfl⟩
    · have : x.s.m ≠ 0 := by have h := ne_of_beq_false h; omega
      rw [decide_eq_false this]
      have e : spanM (needM ((x.s.qv 0).size : Nat)) = linesM ((x.s.qv 0).size : Nat) := rfl
      refine ⟨⟨by omega, by omega⟩, by omega, _, rfl, _, rfl, by rw [e]; unfold I64; omega, ?_⟩
      exact ⟨rfl, rfl, rfl, rfl, rfl, rfl⟩
  · rw [call6 hm hg h6]
    have hss := selSum_scan x.s x.c.key x.c.to (3 + seekM x.s x.c.key) x.s.n
    have hlen := sel_le x.s x.c.key x.c.to x.s.n
    refine ⟨⟨x.s, x.c.key⟩, hk, ⟨⟨rfl, rfl⟩, rfl⟩, ⟨⟨rfl, fun _ _ => rfl⟩, rfl, fun _ _ => rfl⟩, by unfold I64; dsimp only; omega, x, ⟨⟨hs, hw, hc⟩, h6, hg⟩, ?_⟩
    have hse : x.sel = selL x.s x.c.key x.c.to x.s.n := rfl
    have hp := fun i hi => hs.2.2.1 i hi
    refine ⟨⟨⟨⟨rfl, rfl⟩, rfl, rfl⟩, h6.symm, rfl, rfl, rfl, rfl⟩, ⟨⟨rfl, fun _ _ => rfl⟩, ⟨rfl, fun _ _ => rfl⟩, rfl, fun _ _ => rfl⟩, fun hnil => ⟨⟨0, by omega, rfl, rfl⟩, fun i hi => ?_⟩, ⟨0, by omega, rfl, rfl⟩, fun i hi => cP_intro (fun hb => ?_) (fun hb => ?_)⟩
    · rw [hse, hnil] at hi
      have : i = 0 := by simpa using hi
      subst this
      rw [hnil] at hss
      exact ⟨hss.symm, rfl, rfl, rfl, rfl, rfl⟩
    · have hb := of_decide_eq_true hb
      have hl : i < (selL x.s x.c.key x.c.to x.s.n).length := by omega
      have hq := hp _ (sel_lt x.s x.c.key x.c.to x.s.n i hl)
      have hz := selSum_le x.s x.sel (3 + seekM x.s x.c.key) i
      have hL := linesM_le ((x.s.pk ((selL x.s x.c.key x.c.to x.s.n).getD i 0)).size + (x.s.pv ((selL x.s x.c.key x.c.to x.s.n).getD i 0)).size : Nat)
      have e : ((x.s.pk ((selL x.s x.c.key x.c.to x.s.n).getD i 0)).size : Int) + ((x.s.pv ((selL x.s x.c.key x.c.to x.s.n).getD i 0)).size : Int) = ((x.s.pk ((selL x.s x.c.key x.c.to x.s.n).getD i 0)).size + (x.s.pv ((selL x.s x.c.key x.c.to x.s.n).getD i 0)).size : Nat) := by omega
      rw [e]
      have e2 : spanM (needM ((x.s.pk ((selL x.s x.c.key x.c.to x.s.n).getD i 0)).size + (x.s.pv ((selL x.s x.c.key x.c.to x.s.n).getD i 0)).size : Nat)) = linesM ((x.s.pk ((selL x.s x.c.key x.c.to x.s.n).getD i 0)).size + (x.s.pv ((selL x.s x.c.key x.c.to x.s.n).getD i 0)).size : Nat) := rfl
      exact ⟨⟨by omega, hb⟩, hl, by unfold I64; omega, _, rfl, _, rfl, by rw [e2]; unfold I64; omega, by rw [e2]; unfold I64; omega, by unfold I64; omega, i + 1, by rw [hse]; omega, by rw [hse]; omega, rfl, rfl⟩
    · have hb := of_decide_eq_false hb
      have : i = (selL x.s x.c.key x.c.to x.s.n).length := by rw [hse] at hi; omega
      subst this
      exact ⟨hss.symm, rfl, rfl, rfl, rfl, rfl⟩
  · rw [call7 hm hg h7]
    obtain ⟨g1, g2⟩ := good_group hg h7
    exact ⟨⟨x.s, x.c.g, x.c.gn⟩, ⟨hs, g1, fun k hk => ⟨hc.2.2.2.2 k hk, g2 k hk⟩⟩, ⟨⟨rfl, rfl⟩, rfl⟩, ⟨⟨rfl, fun _ _ => rfl⟩, ⟨rfl, fun _ _ => rfl⟩, rfl, fun _ _ => rfl⟩, rfl, rfl, rfl, rfl, rfl, rfl⟩
  · rw [call8 hm hg h1 h2 h3 h4 h5 h6 h7]; exact ⟨rfl, rfl, rfl, rfl, rfl, rfl⟩
end Go.Proofs.Ytjndgegfonhhfaa
end
section
/- What a call costs, as the document says: what is asked is so. -/
namespace Go.Proofs.Ytjndgegfonhhfaa
open Go SE
theorem call_ok : CtrOk Try.prog 12 callC := det_end tt_ok mixed tblC_ok anCall 200 5 (fun _ => rfl) (fun _ => rfl) fun x hx => Eq.mp (callVC_ok x) (callVC_true x (hd_iff.1 hx))
end Go.Proofs.Ytjndgegfonhhfaa
end
