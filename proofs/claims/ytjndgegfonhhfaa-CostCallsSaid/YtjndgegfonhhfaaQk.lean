import Derived.Test.YtjndgegfonhhfaaQa
import Derived.Test.YtjndgegfonhhfaaQb
import Derived.Test.YtjndgegfonhhfaaQc
import Derived.Test.YtjndgegfonhhfaaQd
import Derived.Test.YtjndgegfonhhfaaQe
import Derived.Test.YtjndgegfonhhfaaQf
import Derived.Test.YtjndgegfonhhfaaQg
import Derived.Test.YtjndgegfonhhfaaQh
import Derived.Test.YtjndgegfonhhfaaQi
import Derived.Test.YtjndgegfonhhfaaQj
import Derived.KernelRfl
section
/- What is asked of ranges of a store. -/
namespace Go.Proofs.Ytjndgegfonhhfaa
open Go SE
def clonePVC_wp (x : ZP) : Prop := wpF Try.prog [] tt noAn 200 5 83 (clonePC.args x) (hO clonePC.k (clonePC.os x)) (fun v h' => endsP clonePC.k x v h' clonePC.outs)
def clonePVC (x : ZP) : Prop :=
  (cP (@ZP.z x) ((∃ (y : Unit), (((@ZP.z x) = @Bool.true) ∧
  (((Value.slice (@Option.none @Addr) (0 : @Nat) (0 : @Nat)) = (Value.slice (@Option.none @Addr) (0 : @Nat) (0 : @Nat))) ∧
  ((((@ZP.row x) = (@ZP.row x)) ∧
  (@Bool.true = @Bool.true)) ∧
  True)))) ∨ (∃ (y : Unit), (((@ZP.z x) = @Bool.false) ∧
  (False ∧
  ((((@ZP.row x) = (@ZP.row x)) ∧
  (@Bool.true = @Bool.true)) ∧
  (False ∧
  True)))))) ((((0 : @Nat) + (@ZP.n x)) ≤ (@ZP.n x)) ∧
  (cP (@Nat.beq (@ZP.n x) (0 : @Nat)) ((∃ (y : Unit), (((@ZP.z x) = @Bool.true) ∧
  (False ∧
  ((((@ZP.row x) = (@ZP.row x)) ∧
  (@Bool.true = @Bool.true)) ∧
  True)))) ∨ (∃ (y : Unit), (((@ZP.z x) = @Bool.false) ∧
  ((((@ZP.n x) = (0 : @Nat)) ∧
  (((0 : @Nat) = (0 : @Nat)) ∧
  ((0 : @Nat) = (0 : @Nat)))) ∧
  ((((@ZP.row x) = (@ZP.row x)) ∧
  (@Bool.true = @Bool.true)) ∧
  ((((0 : @Nat) = ((@ZP.n x) * (2 : @Nat))) ∧
  (∀ (q : @Nat), ((q < (@ZP.n x)) → ([(Value.string (@ZP.pk x q)), (Value.string (@ZP.pv x q))] = (@List.take @Value (2 : @Nat) (@List.drop @Value (q * (2 : @Nat)) (@List.nil @Value))))))) ∧
  True)))))) ((((((2 : @Nat) * ((0 : @Nat) + (@ZP.n x))) + (1000 : @Nat)) * (32 : @Nat)) ≤ (281474976710656 : @Nat)) ∧
  ((∃ (y : Unit), (((@ZP.z x) = @Bool.true) ∧
  (False ∧
  ((((@ZP.row x) = (@ZP.row x)) ∧
  (@Bool.true = @Bool.true)) ∧
  True)))) ∨ (∃ (y : Unit), (((@ZP.z x) = @Bool.false) ∧
  ((((0 : @Nat) = (0 : @Nat)) ∧
  ((@ZP.n x) = ((0 : @Nat) + (@ZP.n x)))) ∧
  ((((@ZP.row x) = (@ZP.row x)) ∧
  (@Bool.true = @Bool.true)) ∧
  ((((@ZP.n x) = ((0 : @Nat) + (@ZP.n x))) ∧
  (∀ (q : @Nat), ((q < (@ZP.n x)) → ([(Value.string (@ZP.pk x q)), (Value.string (@ZP.pv x q))] = [(Value.string (@ZP.pk x ((0 : @Nat) + (q - (0 : @Nat))))), (Value.string (@ZP.pv x ((0 : @Nat) + (q - (0 : @Nat)))))])))) ∧
  True))))))))))
theorem clonePVC_ok (x : ZP) : clonePVC x = clonePVC_wp x := by kernel_rfl
def cloneQVC_wp (x : ZQ) : Prop := wpF Try.prog [] tt noAn 200 5 84 (cloneQC.args x) (hO cloneQC.k (cloneQC.os x)) (fun v h' => endsP cloneQC.k x v h' cloneQC.outs)
def cloneQVC (x : ZQ) : Prop :=
  (cP (@ZQ.z x) ((∃ (y : Unit), (((@ZQ.z x) = @Bool.true) ∧
  (((Value.slice (@Option.none @Addr) (0 : @Nat) (0 : @Nat)) = (Value.slice (@Option.none @Addr) (0 : @Nat) (0 : @Nat))) ∧
  ((((@ZQ.row x) = (@ZQ.row x)) ∧
  (@Bool.true = @Bool.true)) ∧
  True)))) ∨ (∃ (y : Unit), (((@ZQ.z x) = @Bool.false) ∧
  (False ∧
  ((((@ZQ.row x) = (@ZQ.row x)) ∧
  (@Bool.true = @Bool.true)) ∧
  (False ∧
  True)))))) ((((0 : @Nat) + (@ZQ.n x)) ≤ (@ZQ.n x)) ∧
  (cP (@Nat.beq (@ZQ.n x) (0 : @Nat)) ((∃ (y : Unit), (((@ZQ.z x) = @Bool.true) ∧
  (False ∧
  ((((@ZQ.row x) = (@ZQ.row x)) ∧
  (@Bool.true = @Bool.true)) ∧
  True)))) ∨ (∃ (y : Unit), (((@ZQ.z x) = @Bool.false) ∧
  ((((@ZQ.n x) = (0 : @Nat)) ∧
  (((0 : @Nat) = (0 : @Nat)) ∧
  ((0 : @Nat) = (0 : @Nat)))) ∧
  ((((@ZQ.row x) = (@ZQ.row x)) ∧
  (@Bool.true = @Bool.true)) ∧
  ((((0 : @Nat) = ((@ZQ.n x) * (1 : @Nat))) ∧
  (∀ (q : @Nat), ((q < (@ZQ.n x)) → ([(Value.string (@ZQ.qv x q))] = (@List.take @Value (1 : @Nat) (@List.drop @Value (q * (1 : @Nat)) (@List.nil @Value))))))) ∧
  True)))))) ((((((2 : @Nat) * ((0 : @Nat) + (@ZQ.n x))) + (1000 : @Nat)) * (16 : @Nat)) ≤ (281474976710656 : @Nat)) ∧
  ((∃ (y : Unit), (((@ZQ.z x) = @Bool.true) ∧
  (False ∧
  ((((@ZQ.row x) = (@ZQ.row x)) ∧
  (@Bool.true = @Bool.true)) ∧
  True)))) ∨ (∃ (y : Unit), (((@ZQ.z x) = @Bool.false) ∧
  ((((0 : @Nat) = (0 : @Nat)) ∧
  ((@ZQ.n x) = ((0 : @Nat) + (@ZQ.n x)))) ∧
  ((((@ZQ.row x) = (@ZQ.row x)) ∧
  (@Bool.true = @Bool.true)) ∧
  ((((@ZQ.n x) = ((0 : @Nat) + (@ZQ.n x))) ∧
  (∀ (q : @Nat), ((q < (@ZQ.n x)) → ([(Value.string (@ZQ.qv x q))] = [(Value.string (@ZQ.qv x ((0 : @Nat) + (q - (0 : @Nat)))))])))) ∧
  True))))))))))
theorem cloneQVC_ok (x : ZQ) : cloneQVC x = cloneQVC_wp x := by kernel_rfl
def copiedVC_wp (x : Shf) : Prop := wpF Try.prog [(84, ctrT cloneQC), (83, ctrT clonePC)] tt noAn 200 5 55 (copiedC.args x) (hO copiedC.k (copiedC.os x)) (fun v h' => endsP copiedC.k x v h' copiedC.outs)
def copiedVC (x : Shf) : Prop :=
  (∃ (x_1 : @ZP), (((@ZP.n x_1) < (1099511627776 : @Nat)) ∧
  (((((@ZP.z x_1) = (@Shf.zp x)) ∧
  (((0 : @Nat) = (0 : @Nat)) ∧
  ((@ZP.n x_1) = (@Shf.n x)))) ∧
  True) ∧
  (((((@ZP.n x_1) = (@Shf.n x)) ∧
  (∀ (q : @Nat), ((q < (@ZP.n x_1)) → ([(Value.string (@ZP.pk x_1 q)), (Value.string (@ZP.pv x_1 q))] = [(Value.string (@Shf.pk x q)), (Value.string (@Shf.pv x q))])))) ∧
  True) ∧
  ((∀ (y : Unit), (((@ZP.z x_1) = @Bool.true) → ((((AV.slZ (@Shf.zq x) (1 : @Nat) (0 : @Nat) (1 : @Nat) (@Shf.m x)) = (AV.slZ (@Shf.zq x) (1 : @Nat) (0 : @Nat) (1 : @Nat) (@Shf.m x))) ∧
  True) ∧
  (∃ (x_2 : @ZQ), (((@ZQ.n x_2) < (1099511627776 : @Nat)) ∧
  (((((@ZQ.z x_2) = (@Shf.zq x)) ∧
  (((0 : @Nat) = (0 : @Nat)) ∧
  ((@ZQ.n x_2) = (@Shf.m x)))) ∧
  True) ∧
  (((((@ZQ.n x_2) = (@Shf.m x)) ∧
  (∀ (q : @Nat), ((q < (@ZQ.n x_2)) → ([(Value.string (@ZQ.qv x_2 q))] = [(Value.string (@Shf.qv x q))])))) ∧
  True) ∧
  ((∀ (y_1 : Unit), (((@ZQ.z x_2) = @Bool.true) → (True ∧
  (True ∧
  ((∃ (y_2 : Unit), ((((@Shf.zp x) = @Bool.true) ∧
  ((@Shf.zq x) = @Bool.true)) ∧
  ((((Value.slice (@Option.none @Addr) (0 : @Nat) (0 : @Nat)) = (Value.slice (@Option.none @Addr) (0 : @Nat) (0 : @Nat))) ∧
  (((Value.slice (@Option.none @Addr) (0 : @Nat) (0 : @Nat)) = (Value.slice (@Option.none @Addr) (0 : @Nat) (0 : @Nat))) ∧
  True)) ∧
  ((((@rowP x) = (@rowP x)) ∧
  (@Bool.true = @Bool.true)) ∧
  ((((@rowQ x) = (@rowQ x)) ∧
  (@Bool.true = @Bool.true)) ∧
  True))))) ∨ ((∃ (y_2 : Unit), ((((@Shf.zp x) = @Bool.true) ∧
  ((@Shf.zq x) = @Bool.false)) ∧
  ((((Value.slice (@Option.none @Addr) (0 : @Nat) (0 : @Nat)) = (Value.slice (@Option.none @Addr) (0 : @Nat) (0 : @Nat))) ∧
  (False ∧
  True)) ∧
  ((((@rowP x) = (@rowP x)) ∧
  (@Bool.true = @Bool.true)) ∧
  ((((@rowQ x) = (@rowQ x)) ∧
  (@Bool.true = @Bool.true)) ∧
  (False ∧
  True)))))) ∨ ((∃ (y_2 : Unit), ((((@Shf.zp x) = @Bool.false) ∧
  ((@Shf.zq x) = @Bool.true)) ∧
  ((False ∧
  (((Value.slice (@Option.none @Addr) (0 : @Nat) (0 : @Nat)) = (Value.slice (@Option.none @Addr) (0 : @Nat) (0 : @Nat))) ∧
  True)) ∧
  ((((@rowP x) = (@rowP x)) ∧
  (@Bool.true = @Bool.true)) ∧
  ((((@rowQ x) = (@rowQ x)) ∧
  (@Bool.true = @Bool.true)) ∧
  (False ∧
  True)))))) ∨ (∃ (y_2 : Unit), ((((@Shf.zp x) = @Bool.false) ∧
  ((@Shf.zq x) = @Bool.false)) ∧
  ((False ∧
  (False ∧
  True)) ∧
  ((((@rowP x) = (@rowP x)) ∧
  (@Bool.true = @Bool.true)) ∧
  ((((@rowQ x) = (@rowQ x)) ∧
  (@Bool.true = @Bool.true)) ∧
  (False ∧
  (False ∧
  True)))))))))))))) ∧
  (∀ (y_1 : Unit), (((@ZQ.z x_2) = @Bool.false) → (True ∧
  (True ∧
  ((∃ (y_2 : Unit), ((((@Shf.zp x) = @Bool.true) ∧
  ((@Shf.zq x) = @Bool.true)) ∧
  ((((Value.slice (@Option.none @Addr) (0 : @Nat) (0 : @Nat)) = (Value.slice (@Option.none @Addr) (0 : @Nat) (0 : @Nat))) ∧
  (False ∧
  True)) ∧
  ((((@rowP x) = (@rowP x)) ∧
  (@Bool.true = @Bool.true)) ∧
  ((((@rowQ x) = (@rowQ x)) ∧
  (@Bool.true = @Bool.true)) ∧
  True))))) ∨ ((∃ (y_2 : Unit), ((((@Shf.zp x) = @Bool.true) ∧
  ((@Shf.zq x) = @Bool.false)) ∧
  ((((Value.slice (@Option.none @Addr) (0 : @Nat) (0 : @Nat)) = (Value.slice (@Option.none @Addr) (0 : @Nat) (0 : @Nat))) ∧
  ((((0 : @Nat) = (0 : @Nat)) ∧
  ((@Shf.m x) = (@ZQ.n x_2))) ∧
  True)) ∧
  ((((@rowP x) = (@rowP x)) ∧
  (@Bool.true = @Bool.true)) ∧
  ((((@rowQ x) = (@rowQ x)) ∧
  (@Bool.true = @Bool.true)) ∧
  ((((@Shf.m x) = (@ZQ.n x_2)) ∧
  (∀ (q : @Nat), ((q < (@Shf.m x)) → ([(Value.string (@Shf.qv x q))] = [(Value.string (@ZQ.qv x_2 q))])))) ∧
  True)))))) ∨ ((∃ (y_2 : Unit), ((((@Shf.zp x) = @Bool.false) ∧
  ((@Shf.zq x) = @Bool.true)) ∧
  ((False ∧
  (False ∧
  True)) ∧
  ((((@rowP x) = (@rowP x)) ∧
  (@Bool.true = @Bool.true)) ∧
  ((((@rowQ x) = (@rowQ x)) ∧
  (@Bool.true = @Bool.true)) ∧
  (False ∧
  True)))))) ∨ (∃ (y_2 : Unit), ((((@Shf.zp x) = @Bool.false) ∧
  ((@Shf.zq x) = @Bool.false)) ∧
  ((False ∧
  ((((0 : @Nat) = (0 : @Nat)) ∧
  ((@Shf.m x) = (@ZQ.n x_2))) ∧
  True)) ∧
  ((((@rowP x) = (@rowP x)) ∧
  (@Bool.true = @Bool.true)) ∧
  ((((@rowQ x) = (@rowQ x)) ∧
  (@Bool.true = @Bool.true)) ∧
  (False ∧
  ((((@Shf.m x) = (@ZQ.n x_2)) ∧
  (∀ (q : @Nat), ((q < (@Shf.m x)) → ([(Value.string (@Shf.qv x q))] = [(Value.string (@ZQ.qv x_2 q))])))) ∧
  True)))))))))))))))))))))) ∧
  (∀ (y : Unit), (((@ZP.z x_1) = @Bool.false) → ((((AV.slZ (@Shf.zq x) (1 : @Nat) (0 : @Nat) (1 : @Nat) (@Shf.m x)) = (AV.slZ (@Shf.zq x) (1 : @Nat) (0 : @Nat) (1 : @Nat) (@Shf.m x))) ∧
  True) ∧
  (∃ (x_2 : @ZQ), (((@ZQ.n x_2) < (1099511627776 : @Nat)) ∧
  (((((@ZQ.z x_2) = (@Shf.zq x)) ∧
  (((0 : @Nat) = (0 : @Nat)) ∧
  ((@ZQ.n x_2) = (@Shf.m x)))) ∧
  True) ∧
  (((((@ZQ.n x_2) = (@Shf.m x)) ∧
  (∀ (q : @Nat), ((q < (@ZQ.n x_2)) → ([(Value.string (@ZQ.qv x_2 q))] = [(Value.string (@Shf.qv x q))])))) ∧
  True) ∧
  ((∀ (y_1 : Unit), (((@ZQ.z x_2) = @Bool.true) → (True ∧
  (True ∧
  ((∃ (y_2 : Unit), ((((@Shf.zp x) = @Bool.true) ∧
  ((@Shf.zq x) = @Bool.true)) ∧
  ((False ∧
  (((Value.slice (@Option.none @Addr) (0 : @Nat) (0 : @Nat)) = (Value.slice (@Option.none @Addr) (0 : @Nat) (0 : @Nat))) ∧
  True)) ∧
  ((((@rowP x) = (@rowP x)) ∧
  (@Bool.true = @Bool.true)) ∧
  ((((@rowQ x) = (@rowQ x)) ∧
  (@Bool.true = @Bool.true)) ∧
  True))))) ∨ ((∃ (y_2 : Unit), ((((@Shf.zp x) = @Bool.true) ∧
  ((@Shf.zq x) = @Bool.false)) ∧
  ((False ∧
  (False ∧
  True)) ∧
  ((((@rowP x) = (@rowP x)) ∧
  (@Bool.true = @Bool.true)) ∧
  ((((@rowQ x) = (@rowQ x)) ∧
  (@Bool.true = @Bool.true)) ∧
  (False ∧
  True)))))) ∨ ((∃ (y_2 : Unit), ((((@Shf.zp x) = @Bool.false) ∧
  ((@Shf.zq x) = @Bool.true)) ∧
  (((((0 : @Nat) = (0 : @Nat)) ∧
  ((@Shf.n x) = (@ZP.n x_1))) ∧
  (((Value.slice (@Option.none @Addr) (0 : @Nat) (0 : @Nat)) = (Value.slice (@Option.none @Addr) (0 : @Nat) (0 : @Nat))) ∧
  True)) ∧
  ((((@rowP x) = (@rowP x)) ∧
  (@Bool.true = @Bool.true)) ∧
  ((((@rowQ x) = (@rowQ x)) ∧
  (@Bool.true = @Bool.true)) ∧
  ((((@Shf.n x) = (@ZP.n x_1)) ∧
  (∀ (q : @Nat), ((q < (@Shf.n x)) → ([(Value.string (@Shf.pk x q)), (Value.string (@Shf.pv x q))] = [(Value.string (@ZP.pk x_1 q)), (Value.string (@ZP.pv x_1 q))])))) ∧
  True)))))) ∨ (∃ (y_2 : Unit), ((((@Shf.zp x) = @Bool.false) ∧
  ((@Shf.zq x) = @Bool.false)) ∧
  (((((0 : @Nat) = (0 : @Nat)) ∧
  ((@Shf.n x) = (@ZP.n x_1))) ∧
  (False ∧
  True)) ∧
  ((((@rowP x) = (@rowP x)) ∧
  (@Bool.true = @Bool.true)) ∧
  ((((@rowQ x) = (@rowQ x)) ∧
  (@Bool.true = @Bool.true)) ∧
  ((((@Shf.n x) = (@ZP.n x_1)) ∧
  (∀ (q : @Nat), ((q < (@Shf.n x)) → ([(Value.string (@Shf.pk x q)), (Value.string (@Shf.pv x q))] = [(Value.string (@ZP.pk x_1 q)), (Value.string (@ZP.pv x_1 q))])))) ∧
  (False ∧
  True)))))))))))))) ∧
  (∀ (y_1 : Unit), (((@ZQ.z x_2) = @Bool.false) → (True ∧
  (True ∧
  ((∃ (y_2 : Unit), ((((@Shf.zp x) = @Bool.true) ∧
  ((@Shf.zq x) = @Bool.true)) ∧
  ((False ∧
  (False ∧
  True)) ∧
  ((((@rowP x) = (@rowP x)) ∧
  (@Bool.true = @Bool.true)) ∧
  ((((@rowQ x) = (@rowQ x)) ∧
  (@Bool.true = @Bool.true)) ∧
  True))))) ∨ ((∃ (y_2 : Unit), ((((@Shf.zp x) = @Bool.true) ∧
  ((@Shf.zq x) = @Bool.false)) ∧
  ((False ∧
  ((((0 : @Nat) = (0 : @Nat)) ∧
  ((@Shf.m x) = (@ZQ.n x_2))) ∧
  True)) ∧
  ((((@rowP x) = (@rowP x)) ∧
  (@Bool.true = @Bool.true)) ∧
  ((((@rowQ x) = (@rowQ x)) ∧
  (@Bool.true = @Bool.true)) ∧
  ((((@Shf.m x) = (@ZQ.n x_2)) ∧
  (∀ (q : @Nat), ((q < (@Shf.m x)) → ([(Value.string (@Shf.qv x q))] = [(Value.string (@ZQ.qv x_2 q))])))) ∧
  True)))))) ∨ ((∃ (y_2 : Unit), ((((@Shf.zp x) = @Bool.false) ∧
  ((@Shf.zq x) = @Bool.true)) ∧
  (((((0 : @Nat) = (0 : @Nat)) ∧
  ((@Shf.n x) = (@ZP.n x_1))) ∧
  (False ∧
  True)) ∧
  ((((@rowP x) = (@rowP x)) ∧
  (@Bool.true = @Bool.true)) ∧
  ((((@rowQ x) = (@rowQ x)) ∧
  (@Bool.true = @Bool.true)) ∧
  ((((@Shf.n x) = (@ZP.n x_1)) ∧
  (∀ (q : @Nat), ((q < (@Shf.n x)) → ([(Value.string (@Shf.pk x q)), (Value.string (@Shf.pv x q))] = [(Value.string (@ZP.pk x_1 q)), (Value.string (@ZP.pv x_1 q))])))) ∧
  True)))))) ∨ (∃ (y_2 : Unit), ((((@Shf.zp x) = @Bool.false) ∧
  ((@Shf.zq x) = @Bool.false)) ∧
  (((((0 : @Nat) = (0 : @Nat)) ∧
  ((@Shf.n x) = (@ZP.n x_1))) ∧
  ((((0 : @Nat) = (0 : @Nat)) ∧
  ((@Shf.m x) = (@ZQ.n x_2))) ∧
  True)) ∧
  ((((@rowP x) = (@rowP x)) ∧
  (@Bool.true = @Bool.true)) ∧
  ((((@rowQ x) = (@rowQ x)) ∧
  (@Bool.true = @Bool.true)) ∧
  ((((@Shf.n x) = (@ZP.n x_1)) ∧
  (∀ (q : @Nat), ((q < (@Shf.n x)) → ([(Value.string (@Shf.pk x q)), (Value.string (@Shf.pv x q))] = [(Value.string (@ZP.pk x_1 q)), (Value.string (@ZP.pv x_1 q))])))) ∧
  ((((@Shf.m x) = (@ZQ.n x_2)) ∧
  (∀ (q : @Nat), ((q < (@Shf.m x)) → ([(Value.string (@Shf.qv x q))] = [(Value.string (@ZQ.qv x_2 q))])))) ∧
  True)))))))))))))))))))))))))))
theorem copiedVC_ok (x : Shf) : copiedVC x = copiedVC_wp x := by kernel_rfl
def scanNVC_wp (x : SK2 × BA) : Prop := wpF Try.prog tblX tt noAn 200 7 93 (scanNC.args x) (hO scanNC.k (scanNC.os x)) (fun v h' => endsP scanNC.k x v h' scanNC.outs)
def scanNVC (x : SK2 × BA) : Prop :=
  (∃ (y : Unit), (True ∧
  (True ∧
  ((((Value.slice (@Option.none @Addr) (0 : @Nat) (0 : @Nat)) = (Value.slice (@Option.none @Addr) (0 : @Nat) (0 : @Nat))) ∧
  (True ∧
  True)) ∧
  ((((0 : @Int) = (0 : @Int)) ∧
  ((@Bool.false = @Bool.false) ∧
  ((@es = @es) ∧
  (((Value.slice (@Option.none @Addr) (0 : @Nat) (0 : @Nat)) = (Value.slice (@Option.none @Addr) (0 : @Nat) (0 : @Nat))) ∧
  (((Value.slice (@Option.none @Addr) (0 : @Nat) (0 : @Nat)) = (Value.slice (@Option.none @Addr) (0 : @Nat) (0 : @Nat))) ∧
  (((0 : @Int) = (0 : @Int)) ∧
  True)))))) ∧
  True)))))
theorem scanNVC_ok (x : SK2 × BA) : scanNVC x = scanNVC_wp x := by kernel_rfl
def scanVC_wp (x : SK2 × BA) : Prop := wpF Try.prog tblX tt (anScan x.1) 200 7 93 (scanC.args x) (hO scanC.k (scanC.os x)) (fun v h' => endsP scanC.k x v h' scanC.outs)
def scanVC (x : SK2 × BA) : Prop :=
  (((∃ (s : @Nat), (((s ≤ (@Shf.n (@SK2.s (@Prod.fst @SK2 @BA x)))) ∧
  (@Hd ((@selL (@SK2.s (@Prod.fst @SK2 @BA x)) (@SK2.key (@Prod.fst @SK2 @BA x)) (@SK2.to (@Prod.fst @SK2 @BA x)) s) = (@List.nil @Nat)))) ∧
  (True ∧
  (((((s : Nat) : @Int) = (0 : @Int)) ∧
  True) ∧
  ((((6 : @Int) = (6 : @Int)) ∧
  (((@SK2.key (@Prod.fst @SK2 @BA x)) = (@SK2.key (@Prod.fst @SK2 @BA x))) ∧
  (((@Prod.snd @SK2 @BA x) = (@Prod.snd @SK2 @BA x)) ∧
  (((@SK2.to (@Prod.fst @SK2 @BA x)) = (@SK2.to (@Prod.fst @SK2 @BA x))) ∧
  (True ∧
  True))))) ∧
  ((((@rowP (@SK2.s (@Prod.fst @SK2 @BA x))) = (@rowP (@SK2.s (@Prod.fst @SK2 @BA x)))) ∧
  (@Bool.true = @Bool.true)) ∧
  ((((0 : @Int) = (0 : @Int)) ∧
  ((@Bool.false = @Bool.false) ∧
  ((@es = @es) ∧
  (((Value.slice (@Option.none @Addr) (0 : @Nat) (0 : @Nat)) = (Value.slice (@Option.none @Addr) (0 : @Nat) (0 : @Nat))) ∧
  (((Value.slice (@Option.none @Addr) (0 : @Nat) (0 : @Nat)) = (Value.slice (@Option.none @Addr) (0 : @Nat) (0 : @Nat))) ∧
  (((0 : @Int) = (0 : @Int)) ∧
  True)))))) ∧
  (((((0 : @Nat) = (0 : @Nat)) ∧
  ((@Shf.n (@SK2.s (@Prod.fst @SK2 @BA x))) = (@Shf.n (@SK2.s (@Prod.fst @SK2 @BA x))))) ∧
  (True ∧
  True)) ∧
  True)))))))) ∨ (∃ (s : @Nat), ((s ≤ (@Shf.n (@SK2.s (@Prod.fst @SK2 @BA x)))) ∧
  (True ∧
  (((((s : Nat) : @Int) = (0 : @Int)) ∧
  True) ∧
  (False ∧
  ((((6 : @Int) = (6 : @Int)) ∧
  (((@SK2.key (@Prod.fst @SK2 @BA x)) = (@SK2.key (@Prod.fst @SK2 @BA x))) ∧
  (((@Prod.snd @SK2 @BA x) = (@Prod.snd @SK2 @BA x)) ∧
  (((@SK2.to (@Prod.fst @SK2 @BA x)) = (@SK2.to (@Prod.fst @SK2 @BA x))) ∧
  (True ∧
  True))))) ∧
  ((((@rowP (@SK2.s (@Prod.fst @SK2 @BA x))) = (@rowP (@SK2.s (@Prod.fst @SK2 @BA x)))) ∧
  (@Bool.true = @Bool.true)) ∧
  ((((0 : @Int) = (0 : @Int)) ∧
  ((@Bool.false = @Bool.false) ∧
  ((@es = @es) ∧
  (False ∧
  (((Value.slice (@Option.none @Addr) (0 : @Nat) (0 : @Nat)) = (Value.slice (@Option.none @Addr) (0 : @Nat) (0 : @Nat))) ∧
  (((0 : @Int) = (0 : @Int)) ∧
  True)))))) ∧
  (((((0 : @Nat) = (0 : @Nat)) ∧
  ((@Shf.n (@SK2.s (@Prod.fst @SK2 @BA x))) = (@Shf.n (@SK2.s (@Prod.fst @SK2 @BA x))))) ∧
  (True ∧
  True)) ∧
  True)))))))))) ∧
  ((∀ (s : @Nat), (((s ≤ (@Shf.n (@SK2.s (@Prod.fst @SK2 @BA x)))) ∧
  (@Hd ((@selL (@SK2.s (@Prod.fst @SK2 @BA x)) (@SK2.key (@Prod.fst @SK2 @BA x)) (@SK2.to (@Prod.fst @SK2 @BA x)) s) = (@List.nil @Nat)))) → (cP (decide (((s : Nat) : @Int) < (((@Shf.n (@SK2.s (@Prod.fst @SK2 @BA x))) : Nat) : @Int))) ((((0 : @Int) ≤ ((s : Nat) : @Int)) ∧
  (((s : Nat) : @Int) < (((@Shf.n (@SK2.s (@Prod.fst @SK2 @BA x))) : Nat) : @Int))) ∧
  ((((0 : @Nat) + s) < (@Shf.n (@SK2.s (@Prod.fst @SK2 @BA x)))) ∧
  (cP (decide (@GE.ge @Int @Int.instLEInt (@cmpM (@Shf.pk (@SK2.s (@Prod.fst @SK2 @BA x)) ((0 : @Nat) + s)) (@SK2.key (@Prod.fst @SK2 @BA x))) (0 : @Int))) (cP (@BEq.beq (@List @UInt8) (@List.instBEq @UInt8 (@instBEqOfDecidableEq @UInt8 @instDecidableEqUInt8)) (@ByteArray.toList (@SK2.to (@Prod.fst @SK2 @BA x))) (@ByteArray.toList (@ByteArray.mk (@List.toArray @UInt8 (@List.nil @UInt8))))) ((((AV.lit (Value.slice (@Option.none @Addr) (0 : @Nat) (0 : @Nat))) = (AV.lit (Value.slice (@Option.none @Addr) (0 : @Nat) (0 : @Nat)))) ∧
  True) ∧
  ((((((2 : @Nat) * ((0 : @Nat) + (1 : Nat))) + (1000 : @Nat)) * (32 : @Nat)) ≤ (281474976710656 : @Nat)) ∧
  (True ∧
  (True ∧
  ((@I64 (((s : Nat) : @Int) + (1 : @Int))) ∧
  ((∃ (s_1 : @Nat), (((s_1 ≤ (@Shf.n (@SK2.s (@Prod.fst @SK2 @BA x)))) ∧
  (@Hd ((@selL (@SK2.s (@Prod.fst @SK2 @BA x)) (@SK2.key (@Prod.fst @SK2 @BA x)) (@SK2.to (@Prod.fst @SK2 @BA x)) s_1) = (@List.nil @Nat)))) ∧
  ((((@Shf.n (@SK2.s (@Prod.fst @SK2 @BA x))) - s_1) < ((@Shf.n (@SK2.s (@Prod.fst @SK2 @BA x))) - s)) ∧
  (((((s_1 : Nat) : @Int) = (((s : Nat) : @Int) + (1 : @Int))) ∧
  True) ∧
  ((((6 : @Int) = (6 : @Int)) ∧
  (((@SK2.key (@Prod.fst @SK2 @BA x)) = (@SK2.key (@Prod.fst @SK2 @BA x))) ∧
  (((@Prod.snd @SK2 @BA x) = (@Prod.snd @SK2 @BA x)) ∧
  (((@SK2.to (@Prod.fst @SK2 @BA x)) = (@SK2.to (@Prod.fst @SK2 @BA x))) ∧
  (True ∧
  True))))) ∧
  ((((@rowP (@SK2.s (@Prod.fst @SK2 @BA x))) = (@rowP (@SK2.s (@Prod.fst @SK2 @BA x)))) ∧
  (@Bool.true = @Bool.true)) ∧
  ((((0 : @Int) = (0 : @Int)) ∧
  ((@Bool.false = @Bool.false) ∧
  ((@es = @es) ∧
  (False ∧
  (((Value.slice (@Option.none @Addr) (0 : @Nat) (0 : @Nat)) = (Value.slice (@Option.none @Addr) (0 : @Nat) (0 : @Nat))) ∧
  (((0 : @Int) = (0 : @Int)) ∧
  True)))))) ∧
  (((((0 : @Nat) = (0 : @Nat)) ∧
  ((@Shf.n (@SK2.s (@Prod.fst @SK2 @BA x))) = (@Shf.n (@SK2.s (@Prod.fst @SK2 @BA x))))) ∧
  (True ∧
  True)) ∧
  True)))))))) ∨ (∃ (s_1 : @Nat), ((s_1 ≤ (@Shf.n (@SK2.s (@Prod.fst @SK2 @BA x)))) ∧
  ((((@Shf.n (@SK2.s (@Prod.fst @SK2 @BA x))) - s_1) < ((@Shf.n (@SK2.s (@Prod.fst @SK2 @BA x))) - s)) ∧
  (((((s_1 : Nat) : @Int) = (((s : Nat) : @Int) + (1 : @Int))) ∧
  True) ∧
  ((((@List.length @Nat (@selL (@SK2.s (@Prod.fst @SK2 @BA x)) (@SK2.key (@Prod.fst @SK2 @BA x)) (@SK2.to (@Prod.fst @SK2 @BA x)) s_1)) = ((0 : @Nat) + (@List.length (@List @Value) [(@List.take @Value (2 : @Nat) [(Value.string (@Shf.pk (@SK2.s (@Prod.fst @SK2 @BA x)) ((0 : @Nat) + s))), (Value.string (@Shf.pv (@SK2.s (@Prod.fst @SK2 @BA x)) ((0 : @Nat) + s)))])]))) ∧
  (∀ (q : @Nat), ((q < (@List.length @Nat (@selL (@SK2.s (@Prod.fst @SK2 @BA x)) (@SK2.key (@Prod.fst @SK2 @BA x)) (@SK2.to (@Prod.fst @SK2 @BA x)) s_1))) → ([(Value.string (@Shf.pk (@SK2.s (@Prod.fst @SK2 @BA x)) (@List.getD @Nat (@selL (@SK2.s (@Prod.fst @SK2 @BA x)) (@SK2.key (@Prod.fst @SK2 @BA x)) (@SK2.to (@Prod.fst @SK2 @BA x)) s_1) q (0 : @Nat)))), (Value.string (@Shf.pv (@SK2.s (@Prod.fst @SK2 @BA x)) (@List.getD @Nat (@selL (@SK2.s (@Prod.fst @SK2 @BA x)) (@SK2.key (@Prod.fst @SK2 @BA x)) (@SK2.to (@Prod.fst @SK2 @BA x)) s_1) q (0 : @Nat))))] = (@Cs.eff (fun (x_1 : @Nat) => (@List.nil @Value)) [(@Prod.mk @Nat (@List @Value) (0 : @Nat) (@List.take @Value (2 : @Nat) [(Value.string (@Shf.pk (@SK2.s (@Prod.fst @SK2 @BA x)) ((0 : @Nat) + s))), (Value.string (@Shf.pv (@SK2.s (@Prod.fst @SK2 @BA x)) ((0 : @Nat) + s)))]))] q))))) ∧
  ((((6 : @Int) = (6 : @Int)) ∧
  (((@SK2.key (@Prod.fst @SK2 @BA x)) = (@SK2.key (@Prod.fst @SK2 @BA x))) ∧
  (((@Prod.snd @SK2 @BA x) = (@Prod.snd @SK2 @BA x)) ∧
  (((@SK2.to (@Prod.fst @SK2 @BA x)) = (@SK2.to (@Prod.fst @SK2 @BA x))) ∧
  (True ∧
  True))))) ∧
  ((((@rowP (@SK2.s (@Prod.fst @SK2 @BA x))) = (@rowP (@SK2.s (@Prod.fst @SK2 @BA x)))) ∧
  (@Bool.true = @Bool.true)) ∧
  ((((0 : @Int) = (0 : @Int)) ∧
  ((@Bool.false = @Bool.false) ∧
  ((@es = @es) ∧
  ((((0 : @Nat) = (0 : @Nat)) ∧
  ((@List.length @Nat (@selL (@SK2.s (@Prod.fst @SK2 @BA x)) (@SK2.key (@Prod.fst @SK2 @BA x)) (@SK2.to (@Prod.fst @SK2 @BA x)) s_1)) = (1 : @Nat))) ∧
  (((Value.slice (@Option.none @Addr) (0 : @Nat) (0 : @Nat)) = (Value.slice (@Option.none @Addr) (0 : @Nat) (0 : @Nat))) ∧
  (((0 : @Int) = (0 : @Int)) ∧
  True)))))) ∧
  (((((0 : @Nat) = (0 : @Nat)) ∧
  ((@Shf.n (@SK2.s (@Prod.fst @SK2 @BA x))) = (@Shf.n (@SK2.s (@Prod.fst @SK2 @BA x))))) ∧
  (True ∧
  True)) ∧
  True))))))))))))))) (cP (decide ((@cmpM (@Shf.pk (@SK2.s (@Prod.fst @SK2 @BA x)) ((0 : @Nat) + s)) (@SK2.to (@Prod.fst @SK2 @BA x))) < (0 : @Int))) ((((AV.lit (Value.slice (@Option.none @Addr) (0 : @Nat) (0 : @Nat))) = (AV.lit (Value.slice (@Option.none @Addr) (0 : @Nat) (0 : @Nat)))) ∧
  True) ∧
  ((((((2 : @Nat) * ((0 : @Nat) + (1 : Nat))) + (1000 : @Nat)) * (32 : @Nat)) ≤ (281474976710656 : @Nat)) ∧
  (True ∧
  (True ∧
  ((@I64 (((s : Nat) : @Int) + (1 : @Int))) ∧
  ((∃ (s_1 : @Nat), (((s_1 ≤ (@Shf.n (@SK2.s (@Prod.fst @SK2 @BA x)))) ∧
  (@Hd ((@selL (@SK2.s (@Prod.fst @SK2 @BA x)) (@SK2.key (@Prod.fst @SK2 @BA x)) (@SK2.to (@Prod.fst @SK2 @BA x)) s_1) = (@List.nil @Nat)))) ∧
  ((((@Shf.n (@SK2.s (@Prod.fst @SK2 @BA x))) - s_1) < ((@Shf.n (@SK2.s (@Prod.fst @SK2 @BA x))) - s)) ∧
  (((((s_1 : Nat) : @Int) = (((s : Nat) : @Int) + (1 : @Int))) ∧
  True) ∧
  ((((6 : @Int) = (6 : @Int)) ∧
  (((@SK2.key (@Prod.fst @SK2 @BA x)) = (@SK2.key (@Prod.fst @SK2 @BA x))) ∧
  (((@Prod.snd @SK2 @BA x) = (@Prod.snd @SK2 @BA x)) ∧
  (((@SK2.to (@Prod.fst @SK2 @BA x)) = (@SK2.to (@Prod.fst @SK2 @BA x))) ∧
  (True ∧
  True))))) ∧
  ((((@rowP (@SK2.s (@Prod.fst @SK2 @BA x))) = (@rowP (@SK2.s (@Prod.fst @SK2 @BA x)))) ∧
  (@Bool.true = @Bool.true)) ∧
  ((((0 : @Int) = (0 : @Int)) ∧
  ((@Bool.false = @Bool.false) ∧
  ((@es = @es) ∧
  (False ∧
  (((Value.slice (@Option.none @Addr) (0 : @Nat) (0 : @Nat)) = (Value.slice (@Option.none @Addr) (0 : @Nat) (0 : @Nat))) ∧
  (((0 : @Int) = (0 : @Int)) ∧
  True)))))) ∧
  (((((0 : @Nat) = (0 : @Nat)) ∧
  ((@Shf.n (@SK2.s (@Prod.fst @SK2 @BA x))) = (@Shf.n (@SK2.s (@Prod.fst @SK2 @BA x))))) ∧
  (True ∧
  True)) ∧
  True)))))))) ∨ (∃ (s_1 : @Nat), ((s_1 ≤ (@Shf.n (@SK2.s (@Prod.fst @SK2 @BA x)))) ∧
  ((((@Shf.n (@SK2.s (@Prod.fst @SK2 @BA x))) - s_1) < ((@Shf.n (@SK2.s (@Prod.fst @SK2 @BA x))) - s)) ∧
  (((((s_1 : Nat) : @Int) = (((s : Nat) : @Int) + (1 : @Int))) ∧
  True) ∧
  ((((@List.length @Nat (@selL (@SK2.s (@Prod.fst @SK2 @BA x)) (@SK2.key (@Prod.fst @SK2 @BA x)) (@SK2.to (@Prod.fst @SK2 @BA x)) s_1)) = ((0 : @Nat) + (@List.length (@List @Value) [(@List.take @Value (2 : @Nat) [(Value.string (@Shf.pk (@SK2.s (@Prod.fst @SK2 @BA x)) ((0 : @Nat) + s))), (Value.string (@Shf.pv (@SK2.s (@Prod.fst @SK2 @BA x)) ((0 : @Nat) + s)))])]))) ∧
  (∀ (q : @Nat), ((q < (@List.length @Nat (@selL (@SK2.s (@Prod.fst @SK2 @BA x)) (@SK2.key (@Prod.fst @SK2 @BA x)) (@SK2.to (@Prod.fst @SK2 @BA x)) s_1))) → ([(Value.string (@Shf.pk (@SK2.s (@Prod.fst @SK2 @BA x)) (@List.getD @Nat (@selL (@SK2.s (@Prod.fst @SK2 @BA x)) (@SK2.key (@Prod.fst @SK2 @BA x)) (@SK2.to (@Prod.fst @SK2 @BA x)) s_1) q (0 : @Nat)))), (Value.string (@Shf.pv (@SK2.s (@Prod.fst @SK2 @BA x)) (@List.getD @Nat (@selL (@SK2.s (@Prod.fst @SK2 @BA x)) (@SK2.key (@Prod.fst @SK2 @BA x)) (@SK2.to (@Prod.fst @SK2 @BA x)) s_1) q (0 : @Nat))))] = (@Cs.eff (fun (x_1 : @Nat) => (@List.nil @Value)) [(@Prod.mk @Nat (@List @Value) (0 : @Nat) (@List.take @Value (2 : @Nat) [(Value.string (@Shf.pk (@SK2.s (@Prod.fst @SK2 @BA x)) ((0 : @Nat) + s))), (Value.string (@Shf.pv (@SK2.s (@Prod.fst @SK2 @BA x)) ((0 : @Nat) + s)))]))] q))))) ∧
  ((((6 : @Int) = (6 : @Int)) ∧
  (((@SK2.key (@Prod.fst @SK2 @BA x)) = (@SK2.key (@Prod.fst @SK2 @BA x))) ∧
  (((@Prod.snd @SK2 @BA x) = (@Prod.snd @SK2 @BA x)) ∧
  (((@SK2.to (@Prod.fst @SK2 @BA x)) = (@SK2.to (@Prod.fst @SK2 @BA x))) ∧
  (True ∧
  True))))) ∧
  ((((@rowP (@SK2.s (@Prod.fst @SK2 @BA x))) = (@rowP (@SK2.s (@Prod.fst @SK2 @BA x)))) ∧
  (@Bool.true = @Bool.true)) ∧
  ((((0 : @Int) = (0 : @Int)) ∧
  ((@Bool.false = @Bool.false) ∧
  ((@es = @es) ∧
  ((((0 : @Nat) = (0 : @Nat)) ∧
  ((@List.length @Nat (@selL (@SK2.s (@Prod.fst @SK2 @BA x)) (@SK2.key (@Prod.fst @SK2 @BA x)) (@SK2.to (@Prod.fst @SK2 @BA x)) s_1)) = (1 : @Nat))) ∧
  (((Value.slice (@Option.none @Addr) (0 : @Nat) (0 : @Nat)) = (Value.slice (@Option.none @Addr) (0 : @Nat) (0 : @Nat))) ∧
  (((0 : @Int) = (0 : @Int)) ∧
  True)))))) ∧
  (((((0 : @Nat) = (0 : @Nat)) ∧
  ((@Shf.n (@SK2.s (@Prod.fst @SK2 @BA x))) = (@Shf.n (@SK2.s (@Prod.fst @SK2 @BA x))))) ∧
  (True ∧
  True)) ∧
  True))))))))))))))) ((@I64 (((s : Nat) : @Int) + (1 : @Int))) ∧
  ((∃ (s_1 : @Nat), (((s_1 ≤ (@Shf.n (@SK2.s (@Prod.fst @SK2 @BA x)))) ∧
  (@Hd ((@selL (@SK2.s (@Prod.fst @SK2 @BA x)) (@SK2.key (@Prod.fst @SK2 @BA x)) (@SK2.to (@Prod.fst @SK2 @BA x)) s_1) = (@List.nil @Nat)))) ∧
  ((((@Shf.n (@SK2.s (@Prod.fst @SK2 @BA x))) - s_1) < ((@Shf.n (@SK2.s (@Prod.fst @SK2 @BA x))) - s)) ∧
  (((((s_1 : Nat) : @Int) = (((s : Nat) : @Int) + (1 : @Int))) ∧
  True) ∧
  ((((6 : @Int) = (6 : @Int)) ∧
  (((@SK2.key (@Prod.fst @SK2 @BA x)) = (@SK2.key (@Prod.fst @SK2 @BA x))) ∧
  (((@Prod.snd @SK2 @BA x) = (@Prod.snd @SK2 @BA x)) ∧
  (((@SK2.to (@Prod.fst @SK2 @BA x)) = (@SK2.to (@Prod.fst @SK2 @BA x))) ∧
  (True ∧
  True))))) ∧
  ((((@rowP (@SK2.s (@Prod.fst @SK2 @BA x))) = (@rowP (@SK2.s (@Prod.fst @SK2 @BA x)))) ∧
  (@Bool.true = @Bool.true)) ∧
  ((((0 : @Int) = (0 : @Int)) ∧
  ((@Bool.false = @Bool.false) ∧
  ((@es = @es) ∧
  (((Value.slice (@Option.none @Addr) (0 : @Nat) (0 : @Nat)) = (Value.slice (@Option.none @Addr) (0 : @Nat) (0 : @Nat))) ∧
  (((Value.slice (@Option.none @Addr) (0 : @Nat) (0 : @Nat)) = (Value.slice (@Option.none @Addr) (0 : @Nat) (0 : @Nat))) ∧
  (((0 : @Int) = (0 : @Int)) ∧
  True)))))) ∧
  (((((0 : @Nat) = (0 : @Nat)) ∧
  ((@Shf.n (@SK2.s (@Prod.fst @SK2 @BA x))) = (@Shf.n (@SK2.s (@Prod.fst @SK2 @BA x))))) ∧
  (True ∧
  True)) ∧
  True)))))))) ∨ (∃ (s_1 : @Nat), ((s_1 ≤ (@Shf.n (@SK2.s (@Prod.fst @SK2 @BA x)))) ∧
  ((((@Shf.n (@SK2.s (@Prod.fst @SK2 @BA x))) - s_1) < ((@Shf.n (@SK2.s (@Prod.fst @SK2 @BA x))) - s)) ∧
  (((((s_1 : Nat) : @Int) = (((s : Nat) : @Int) + (1 : @Int))) ∧
  True) ∧
  ((((@List.length @Value [(Value.string (@Shf.pk (@SK2.s (@Prod.fst @SK2 @BA x)) ((0 : @Nat) + s))), (Value.string (@Shf.pv (@SK2.s (@Prod.fst @SK2 @BA x)) ((0 : @Nat) + s)))]) = ((@List.length @Nat (@selL (@SK2.s (@Prod.fst @SK2 @BA x)) (@SK2.key (@Prod.fst @SK2 @BA x)) (@SK2.to (@Prod.fst @SK2 @BA x)) s_1)) * (2 : @Nat))) ∧
  (∀ (q : @Nat), ((q < (@List.length @Nat (@selL (@SK2.s (@Prod.fst @SK2 @BA x)) (@SK2.key (@Prod.fst @SK2 @BA x)) (@SK2.to (@Prod.fst @SK2 @BA x)) s_1))) → ([(Value.string (@Shf.pk (@SK2.s (@Prod.fst @SK2 @BA x)) (@List.getD @Nat (@selL (@SK2.s (@Prod.fst @SK2 @BA x)) (@SK2.key (@Prod.fst @SK2 @BA x)) (@SK2.to (@Prod.fst @SK2 @BA x)) s_1) q (0 : @Nat)))), (Value.string (@Shf.pv (@SK2.s (@Prod.fst @SK2 @BA x)) (@List.getD @Nat (@selL (@SK2.s (@Prod.fst @SK2 @BA x)) (@SK2.key (@Prod.fst @SK2 @BA x)) (@SK2.to (@Prod.fst @SK2 @BA x)) s_1) q (0 : @Nat))))] = (@List.take @Value (2 : @Nat) (@List.drop @Value (q * (2 : @Nat)) [(Value.string (@Shf.pk (@SK2.s (@Prod.fst @SK2 @BA x)) ((0 : @Nat) + s))), (Value.string (@Shf.pv (@SK2.s (@Prod.fst @SK2 @BA x)) ((0 : @Nat) + s)))])))))) ∧
  ((((6 : @Int) = (6 : @Int)) ∧
  (((@SK2.key (@Prod.fst @SK2 @BA x)) = (@SK2.key (@Prod.fst @SK2 @BA x))) ∧
  (((@Prod.snd @SK2 @BA x) = (@Prod.snd @SK2 @BA x)) ∧
  (((@SK2.to (@Prod.fst @SK2 @BA x)) = (@SK2.to (@Prod.fst @SK2 @BA x))) ∧
  (True ∧
  True))))) ∧
  ((((@rowP (@SK2.s (@Prod.fst @SK2 @BA x))) = (@rowP (@SK2.s (@Prod.fst @SK2 @BA x)))) ∧
  (@Bool.true = @Bool.true)) ∧
  ((((0 : @Int) = (0 : @Int)) ∧
  ((@Bool.false = @Bool.false) ∧
  ((@es = @es) ∧
  (False ∧
  (((Value.slice (@Option.none @Addr) (0 : @Nat) (0 : @Nat)) = (Value.slice (@Option.none @Addr) (0 : @Nat) (0 : @Nat))) ∧
  (((0 : @Int) = (0 : @Int)) ∧
  True)))))) ∧
  (((((0 : @Nat) = (0 : @Nat)) ∧
  ((@Shf.n (@SK2.s (@Prod.fst @SK2 @BA x))) = (@Shf.n (@SK2.s (@Prod.fst @SK2 @BA x))))) ∧
  (True ∧
  True)) ∧
  True))))))))))))) ((@I64 (((s : Nat) : @Int) + (1 : @Int))) ∧
  ((∃ (s_1 : @Nat), (((s_1 ≤ (@Shf.n (@SK2.s (@Prod.fst @SK2 @BA x)))) ∧
  (@Hd ((@selL (@SK2.s (@Prod.fst @SK2 @BA x)) (@SK2.key (@Prod.fst @SK2 @BA x)) (@SK2.to (@Prod.fst @SK2 @BA x)) s_1) = (@List.nil @Nat)))) ∧
  ((((@Shf.n (@SK2.s (@Prod.fst @SK2 @BA x))) - s_1) < ((@Shf.n (@SK2.s (@Prod.fst @SK2 @BA x))) - s)) ∧
  (((((s_1 : Nat) : @Int) = (((s : Nat) : @Int) + (1 : @Int))) ∧
  True) ∧
  ((((6 : @Int) = (6 : @Int)) ∧
  (((@SK2.key (@Prod.fst @SK2 @BA x)) = (@SK2.key (@Prod.fst @SK2 @BA x))) ∧
  (((@Prod.snd @SK2 @BA x) = (@Prod.snd @SK2 @BA x)) ∧
  (((@SK2.to (@Prod.fst @SK2 @BA x)) = (@SK2.to (@Prod.fst @SK2 @BA x))) ∧
  (True ∧
  True))))) ∧
  ((((@rowP (@SK2.s (@Prod.fst @SK2 @BA x))) = (@rowP (@SK2.s (@Prod.fst @SK2 @BA x)))) ∧
  (@Bool.true = @Bool.true)) ∧
  ((((0 : @Int) = (0 : @Int)) ∧
  ((@Bool.false = @Bool.false) ∧
  ((@es = @es) ∧
  (((Value.slice (@Option.none @Addr) (0 : @Nat) (0 : @Nat)) = (Value.slice (@Option.none @Addr) (0 : @Nat) (0 : @Nat))) ∧
  (((Value.slice (@Option.none @Addr) (0 : @Nat) (0 : @Nat)) = (Value.slice (@Option.none @Addr) (0 : @Nat) (0 : @Nat))) ∧
  (((0 : @Int) = (0 : @Int)) ∧
  True)))))) ∧
  (((((0 : @Nat) = (0 : @Nat)) ∧
  ((@Shf.n (@SK2.s (@Prod.fst @SK2 @BA x))) = (@Shf.n (@SK2.s (@Prod.fst @SK2 @BA x))))) ∧
  (True ∧
  True)) ∧
  True)))))))) ∨ (∃ (s_1 : @Nat), ((s_1 ≤ (@Shf.n (@SK2.s (@Prod.fst @SK2 @BA x)))) ∧
  ((((@Shf.n (@SK2.s (@Prod.fst @SK2 @BA x))) - s_1) < ((@Shf.n (@SK2.s (@Prod.fst @SK2 @BA x))) - s)) ∧
  (((((s_1 : Nat) : @Int) = (((s : Nat) : @Int) + (1 : @Int))) ∧
  True) ∧
  ((((@List.length @Value [(Value.string (@Shf.pk (@SK2.s (@Prod.fst @SK2 @BA x)) ((0 : @Nat) + s))), (Value.string (@Shf.pv (@SK2.s (@Prod.fst @SK2 @BA x)) ((0 : @Nat) + s)))]) = ((@List.length @Nat (@selL (@SK2.s (@Prod.fst @SK2 @BA x)) (@SK2.key (@Prod.fst @SK2 @BA x)) (@SK2.to (@Prod.fst @SK2 @BA x)) s_1)) * (2 : @Nat))) ∧
  (∀ (q : @Nat), ((q < (@List.length @Nat (@selL (@SK2.s (@Prod.fst @SK2 @BA x)) (@SK2.key (@Prod.fst @SK2 @BA x)) (@SK2.to (@Prod.fst @SK2 @BA x)) s_1))) → ([(Value.string (@Shf.pk (@SK2.s (@Prod.fst @SK2 @BA x)) (@List.getD @Nat (@selL (@SK2.s (@Prod.fst @SK2 @BA x)) (@SK2.key (@Prod.fst @SK2 @BA x)) (@SK2.to (@Prod.fst @SK2 @BA x)) s_1) q (0 : @Nat)))), (Value.string (@Shf.pv (@SK2.s (@Prod.fst @SK2 @BA x)) (@List.getD @Nat (@selL (@SK2.s (@Prod.fst @SK2 @BA x)) (@SK2.key (@Prod.fst @SK2 @BA x)) (@SK2.to (@Prod.fst @SK2 @BA x)) s_1) q (0 : @Nat))))] = (@List.take @Value (2 : @Nat) (@List.drop @Value (q * (2 : @Nat)) [(Value.string (@Shf.pk (@SK2.s (@Prod.fst @SK2 @BA x)) ((0 : @Nat) + s))), (Value.string (@Shf.pv (@SK2.s (@Prod.fst @SK2 @BA x)) ((0 : @Nat) + s)))])))))) ∧
  ((((6 : @Int) = (6 : @Int)) ∧
  (((@SK2.key (@Prod.fst @SK2 @BA x)) = (@SK2.key (@Prod.fst @SK2 @BA x))) ∧
  (((@Prod.snd @SK2 @BA x) = (@Prod.snd @SK2 @BA x)) ∧
  (((@SK2.to (@Prod.fst @SK2 @BA x)) = (@SK2.to (@Prod.fst @SK2 @BA x))) ∧
  (True ∧
  True))))) ∧
  ((((@rowP (@SK2.s (@Prod.fst @SK2 @BA x))) = (@rowP (@SK2.s (@Prod.fst @SK2 @BA x)))) ∧
  (@Bool.true = @Bool.true)) ∧
  ((((0 : @Int) = (0 : @Int)) ∧
  ((@Bool.false = @Bool.false) ∧
  ((@es = @es) ∧
  (False ∧
  (((Value.slice (@Option.none @Addr) (0 : @Nat) (0 : @Nat)) = (Value.slice (@Option.none @Addr) (0 : @Nat) (0 : @Nat))) ∧
  (((0 : @Int) = (0 : @Int)) ∧
  True)))))) ∧
  (((((0 : @Nat) = (0 : @Nat)) ∧
  ((@Shf.n (@SK2.s (@Prod.fst @SK2 @BA x))) = (@Shf.n (@SK2.s (@Prod.fst @SK2 @BA x))))) ∧
  (True ∧
  True)) ∧
  True)))))))))))))) ((∃ (y : Unit), ((@Hd ((@SK2.sel (@Prod.fst @SK2 @BA x)) = (@List.nil @Nat))) ∧
  (True ∧
  (((((0 : @Nat) = (0 : @Nat)) ∧
  ((@Shf.n (@SK2.s (@Prod.fst @SK2 @BA x))) = (@Shf.n (@SK2.s (@Prod.fst @SK2 @BA x))))) ∧
  (True ∧
  True)) ∧
  ((((0 : @Int) = (0 : @Int)) ∧
  ((@Bool.false = @Bool.false) ∧
  ((@es = @es) ∧
  (((Value.slice (@Option.none @Addr) (0 : @Nat) (0 : @Nat)) = (Value.slice (@Option.none @Addr) (0 : @Nat) (0 : @Nat))) ∧
  (((Value.slice (@Option.none @Addr) (0 : @Nat) (0 : @Nat)) = (Value.slice (@Option.none @Addr) (0 : @Nat) (0 : @Nat))) ∧
  (((0 : @Int) = (0 : @Int)) ∧
  True)))))) ∧
  ((((@rowP (@SK2.s (@Prod.fst @SK2 @BA x))) = (@rowP (@SK2.s (@Prod.fst @SK2 @BA x)))) ∧
  (@Bool.true = @Bool.true)) ∧
  True)))))) ∨ (∃ (y : Unit), (True ∧
  (True ∧
  (((((0 : @Nat) = (0 : @Nat)) ∧
  ((@Shf.n (@SK2.s (@Prod.fst @SK2 @BA x))) = (@Shf.n (@SK2.s (@Prod.fst @SK2 @BA x))))) ∧
  (True ∧
  True)) ∧
  ((((0 : @Int) = (0 : @Int)) ∧
  ((@Bool.false = @Bool.false) ∧
  ((@es = @es) ∧
  (False ∧
  (((Value.slice (@Option.none @Addr) (0 : @Nat) (0 : @Nat)) = (Value.slice (@Option.none @Addr) (0 : @Nat) (0 : @Nat))) ∧
  (((0 : @Int) = (0 : @Int)) ∧
  True)))))) ∧
  ((((@rowP (@SK2.s (@Prod.fst @SK2 @BA x))) = (@rowP (@SK2.s (@Prod.fst @SK2 @BA x)))) ∧
  (@Bool.true = @Bool.true)) ∧
  (False ∧
  True))))))))))) ∧
  ((∀ (s : @Nat), ((s ≤ (@Shf.n (@SK2.s (@Prod.fst @SK2 @BA x)))) → (cP (decide (((s : Nat) : @Int) < (((@Shf.n (@SK2.s (@Prod.fst @SK2 @BA x))) : Nat) : @Int))) ((((0 : @Int) ≤ ((s : Nat) : @Int)) ∧
  (((s : Nat) : @Int) < (((@Shf.n (@SK2.s (@Prod.fst @SK2 @BA x))) : Nat) : @Int))) ∧
  ((((0 : @Nat) + s) < (@Shf.n (@SK2.s (@Prod.fst @SK2 @BA x)))) ∧
  (cP (decide (@GE.ge @Int @Int.instLEInt (@cmpM (@Shf.pk (@SK2.s (@Prod.fst @SK2 @BA x)) ((0 : @Nat) + s)) (@SK2.key (@Prod.fst @SK2 @BA x))) (0 : @Int))) (cP (@BEq.beq (@List @UInt8) (@List.instBEq @UInt8 (@instBEqOfDecidableEq @UInt8 @instDecidableEqUInt8)) (@ByteArray.toList (@SK2.to (@Prod.fst @SK2 @BA x))) (@ByteArray.toList (@ByteArray.mk (@List.toArray @UInt8 (@List.nil @UInt8))))) ((((AV.slW (4 : @Nat) (0 : @Nat) (2 : @Nat) (@List.length @Nat (@selL (@SK2.s (@Prod.fst @SK2 @BA x)) (@SK2.key (@Prod.fst @SK2 @BA x)) (@SK2.to (@Prod.fst @SK2 @BA x)) s))) = (AV.slW (4 : @Nat) (0 : @Nat) (2 : @Nat) (@List.length @Nat (@selL (@SK2.s (@Prod.fst @SK2 @BA x)) (@SK2.key (@Prod.fst @SK2 @BA x)) (@SK2.to (@Prod.fst @SK2 @BA x)) s)))) ∧
  True) ∧
  (((@List.length @Nat (@selL (@SK2.s (@Prod.fst @SK2 @BA x)) (@SK2.key (@Prod.fst @SK2 @BA x)) (@SK2.to (@Prod.fst @SK2 @BA x)) s)) = (@List.length @Nat (@selL (@SK2.s (@Prod.fst @SK2 @BA x)) (@SK2.key (@Prod.fst @SK2 @BA x)) (@SK2.to (@Prod.fst @SK2 @BA x)) s))) ∧
  (((@List.all (@List @Value) [(@List.take @Value (2 : @Nat) [(Value.string (@Shf.pk (@SK2.s (@Prod.fst @SK2 @BA x)) ((0 : @Nat) + s))), (Value.string (@Shf.pv (@SK2.s (@Prod.fst @SK2 @BA x)) ((0 : @Nat) + s)))])] (fun (l : (@List @Value)) => (@Bool.and (@Nat.beq (@List.length @Value l) (2 : @Nat)) (@List.all @Value l @Value.oneCell')))) = @Bool.true) ∧
  ((((((2 : @Nat) * ((@List.length @Nat (@selL (@SK2.s (@Prod.fst @SK2 @BA x)) (@SK2.key (@Prod.fst @SK2 @BA x)) (@SK2.to (@Prod.fst @SK2 @BA x)) s)) + (1 : Nat))) + (1000 : @Nat)) * (32 : @Nat)) ≤ (281474976710656 : @Nat)) ∧
  (True ∧
  (True ∧
  ((@I64 (((s : Nat) : @Int) + (1 : @Int))) ∧
  ((∃ (s_1 : @Nat), (((s_1 ≤ (@Shf.n (@SK2.s (@Prod.fst @SK2 @BA x)))) ∧
  (@Hd ((@selL (@SK2.s (@Prod.fst @SK2 @BA x)) (@SK2.key (@Prod.fst @SK2 @BA x)) (@SK2.to (@Prod.fst @SK2 @BA x)) s_1) = (@List.nil @Nat)))) ∧
  ((((@Shf.n (@SK2.s (@Prod.fst @SK2 @BA x))) - s_1) < ((@Shf.n (@SK2.s (@Prod.fst @SK2 @BA x))) - s)) ∧
  (((((s_1 : Nat) : @Int) = (((s : Nat) : @Int) + (1 : @Int))) ∧
  True) ∧
  ((((6 : @Int) = (6 : @Int)) ∧
  (((@SK2.key (@Prod.fst @SK2 @BA x)) = (@SK2.key (@Prod.fst @SK2 @BA x))) ∧
  (((@Prod.snd @SK2 @BA x) = (@Prod.snd @SK2 @BA x)) ∧
  (((@SK2.to (@Prod.fst @SK2 @BA x)) = (@SK2.to (@Prod.fst @SK2 @BA x))) ∧
  (True ∧
  True))))) ∧
  ((((@rowP (@SK2.s (@Prod.fst @SK2 @BA x))) = (@rowP (@SK2.s (@Prod.fst @SK2 @BA x)))) ∧
  (@Bool.true = @Bool.true)) ∧
  ((((0 : @Int) = (0 : @Int)) ∧
  ((@Bool.false = @Bool.false) ∧
  ((@es = @es) ∧
  (False ∧
  (((Value.slice (@Option.none @Addr) (0 : @Nat) (0 : @Nat)) = (Value.slice (@Option.none @Addr) (0 : @Nat) (0 : @Nat))) ∧
  (((0 : @Int) = (0 : @Int)) ∧
  True)))))) ∧
  (((((0 : @Nat) = (0 : @Nat)) ∧
  ((@Shf.n (@SK2.s (@Prod.fst @SK2 @BA x))) = (@Shf.n (@SK2.s (@Prod.fst @SK2 @BA x))))) ∧
  (True ∧
  True)) ∧
  True)))))))) ∨ (∃ (s_1 : @Nat), ((s_1 ≤ (@Shf.n (@SK2.s (@Prod.fst @SK2 @BA x)))) ∧
  ((((@Shf.n (@SK2.s (@Prod.fst @SK2 @BA x))) - s_1) < ((@Shf.n (@SK2.s (@Prod.fst @SK2 @BA x))) - s)) ∧
  (((((s_1 : Nat) : @Int) = (((s : Nat) : @Int) + (1 : @Int))) ∧
  True) ∧
  ((((@List.length @Nat (@selL (@SK2.s (@Prod.fst @SK2 @BA x)) (@SK2.key (@Prod.fst @SK2 @BA x)) (@SK2.to (@Prod.fst @SK2 @BA x)) s_1)) = ((@List.length @Nat (@selL (@SK2.s (@Prod.fst @SK2 @BA x)) (@SK2.key (@Prod.fst @SK2 @BA x)) (@SK2.to (@Prod.fst @SK2 @BA x)) s)) + (@List.length (@List @Value) [(@List.take @Value (2 : @Nat) [(Value.string (@Shf.pk (@SK2.s (@Prod.fst @SK2 @BA x)) ((0 : @Nat) + s))), (Value.string (@Shf.pv (@SK2.s (@Prod.fst @SK2 @BA x)) ((0 : @Nat) + s)))])]))) ∧
  (∀ (q : @Nat), ((q < (@List.length @Nat (@selL (@SK2.s (@Prod.fst @SK2 @BA x)) (@SK2.key (@Prod.fst @SK2 @BA x)) (@SK2.to (@Prod.fst @SK2 @BA x)) s_1))) → ([(Value.string (@Shf.pk (@SK2.s (@Prod.fst @SK2 @BA x)) (@List.getD @Nat (@selL (@SK2.s (@Prod.fst @SK2 @BA x)) (@SK2.key (@Prod.fst @SK2 @BA x)) (@SK2.to (@Prod.fst @SK2 @BA x)) s_1) q (0 : @Nat)))), (Value.string (@Shf.pv (@SK2.s (@Prod.fst @SK2 @BA x)) (@List.getD @Nat (@selL (@SK2.s (@Prod.fst @SK2 @BA x)) (@SK2.key (@Prod.fst @SK2 @BA x)) (@SK2.to (@Prod.fst @SK2 @BA x)) s_1) q (0 : @Nat))))] = (@Cs.eff (fun (k : @Nat) => [(Value.string (@Shf.pk (@SK2.s (@Prod.fst @SK2 @BA x)) (@List.getD @Nat (@selL (@SK2.s (@Prod.fst @SK2 @BA x)) (@SK2.key (@Prod.fst @SK2 @BA x)) (@SK2.to (@Prod.fst @SK2 @BA x)) s) k (0 : @Nat)))), (Value.string (@Shf.pv (@SK2.s (@Prod.fst @SK2 @BA x)) (@List.getD @Nat (@selL (@SK2.s (@Prod.fst @SK2 @BA x)) (@SK2.key (@Prod.fst @SK2 @BA x)) (@SK2.to (@Prod.fst @SK2 @BA x)) s) k (0 : @Nat))))]) [(@Prod.mk @Nat (@List @Value) (@List.length @Nat (@selL (@SK2.s (@Prod.fst @SK2 @BA x)) (@SK2.key (@Prod.fst @SK2 @BA x)) (@SK2.to (@Prod.fst @SK2 @BA x)) s)) (@List.take @Value (2 : @Nat) [(Value.string (@Shf.pk (@SK2.s (@Prod.fst @SK2 @BA x)) ((0 : @Nat) + s))), (Value.string (@Shf.pv (@SK2.s (@Prod.fst @SK2 @BA x)) ((0 : @Nat) + s)))]))] q))))) ∧
  ((((6 : @Int) = (6 : @Int)) ∧
  (((@SK2.key (@Prod.fst @SK2 @BA x)) = (@SK2.key (@Prod.fst @SK2 @BA x))) ∧
  (((@Prod.snd @SK2 @BA x) = (@Prod.snd @SK2 @BA x)) ∧
  (((@SK2.to (@Prod.fst @SK2 @BA x)) = (@SK2.to (@Prod.fst @SK2 @BA x))) ∧
  (True ∧
  True))))) ∧
  ((((@rowP (@SK2.s (@Prod.fst @SK2 @BA x))) = (@rowP (@SK2.s (@Prod.fst @SK2 @BA x)))) ∧
  (@Bool.true = @Bool.true)) ∧
  ((((0 : @Int) = (0 : @Int)) ∧
  ((@Bool.false = @Bool.false) ∧
  ((@es = @es) ∧
  ((((0 : @Nat) = (0 : @Nat)) ∧
  ((@List.length @Nat (@selL (@SK2.s (@Prod.fst @SK2 @BA x)) (@SK2.key (@Prod.fst @SK2 @BA x)) (@SK2.to (@Prod.fst @SK2 @BA x)) s_1)) = ((@List.length @Nat (@selL (@SK2.s (@Prod.fst @SK2 @BA x)) (@SK2.key (@Prod.fst @SK2 @BA x)) (@SK2.to (@Prod.fst @SK2 @BA x)) s)) + (1 : Nat)))) ∧
  (((Value.slice (@Option.none @Addr) (0 : @Nat) (0 : @Nat)) = (Value.slice (@Option.none @Addr) (0 : @Nat) (0 : @Nat))) ∧
  (((0 : @Int) = (0 : @Int)) ∧
  True)))))) ∧
  (((((0 : @Nat) = (0 : @Nat)) ∧
  ((@Shf.n (@SK2.s (@Prod.fst @SK2 @BA x))) = (@Shf.n (@SK2.s (@Prod.fst @SK2 @BA x))))) ∧
  (True ∧
  True)) ∧
  True))))))))))))))))) (cP (decide ((@cmpM (@Shf.pk (@SK2.s (@Prod.fst @SK2 @BA x)) ((0 : @Nat) + s)) (@SK2.to (@Prod.fst @SK2 @BA x))) < (0 : @Int))) ((((AV.slW (4 : @Nat) (0 : @Nat) (2 : @Nat) (@List.length @Nat (@selL (@SK2.s (@Prod.fst @SK2 @BA x)) (@SK2.key (@Prod.fst @SK2 @BA x)) (@SK2.to (@Prod.fst @SK2 @BA x)) s))) = (AV.slW (4 : @Nat) (0 : @Nat) (2 : @Nat) (@List.length @Nat (@selL (@SK2.s (@Prod.fst @SK2 @BA x)) (@SK2.key (@Prod.fst @SK2 @BA x)) (@SK2.to (@Prod.fst @SK2 @BA x)) s)))) ∧
  True) ∧
  (((@List.length @Nat (@selL (@SK2.s (@Prod.fst @SK2 @BA x)) (@SK2.key (@Prod.fst @SK2 @BA x)) (@SK2.to (@Prod.fst @SK2 @BA x)) s)) = (@List.length @Nat (@selL (@SK2.s (@Prod.fst @SK2 @BA x)) (@SK2.key (@Prod.fst @SK2 @BA x)) (@SK2.to (@Prod.fst @SK2 @BA x)) s))) ∧
  (((@List.all (@List @Value) [(@List.take @Value (2 : @Nat) [(Value.string (@Shf.pk (@SK2.s (@Prod.fst @SK2 @BA x)) ((0 : @Nat) + s))), (Value.string (@Shf.pv (@SK2.s (@Prod.fst @SK2 @BA x)) ((0 : @Nat) + s)))])] (fun (l : (@List @Value)) => (@Bool.and (@Nat.beq (@List.length @Value l) (2 : @Nat)) (@List.all @Value l @Value.oneCell')))) = @Bool.true) ∧
  ((((((2 : @Nat) * ((@List.length @Nat (@selL (@SK2.s (@Prod.fst @SK2 @BA x)) (@SK2.key (@Prod.fst @SK2 @BA x)) (@SK2.to (@Prod.fst @SK2 @BA x)) s)) + (1 : Nat))) + (1000 : @Nat)) * (32 : @Nat)) ≤ (281474976710656 : @Nat)) ∧
  (True ∧
  (True ∧
  ((@I64 (((s : Nat) : @Int) + (1 : @Int))) ∧
  ((∃ (s_1 : @Nat), (((s_1 ≤ (@Shf.n (@SK2.s (@Prod.fst @SK2 @BA x)))) ∧
  (@Hd ((@selL (@SK2.s (@Prod.fst @SK2 @BA x)) (@SK2.key (@Prod.fst @SK2 @BA x)) (@SK2.to (@Prod.fst @SK2 @BA x)) s_1) = (@List.nil @Nat)))) ∧
  ((((@Shf.n (@SK2.s (@Prod.fst @SK2 @BA x))) - s_1) < ((@Shf.n (@SK2.s (@Prod.fst @SK2 @BA x))) - s)) ∧
  (((((s_1 : Nat) : @Int) = (((s : Nat) : @Int) + (1 : @Int))) ∧
  True) ∧
  ((((6 : @Int) = (6 : @Int)) ∧
  (((@SK2.key (@Prod.fst @SK2 @BA x)) = (@SK2.key (@Prod.fst @SK2 @BA x))) ∧
  (((@Prod.snd @SK2 @BA x) = (@Prod.snd @SK2 @BA x)) ∧
  (((@SK2.to (@Prod.fst @SK2 @BA x)) = (@SK2.to (@Prod.fst @SK2 @BA x))) ∧
  (True ∧
  True))))) ∧
  ((((@rowP (@SK2.s (@Prod.fst @SK2 @BA x))) = (@rowP (@SK2.s (@Prod.fst @SK2 @BA x)))) ∧
  (@Bool.true = @Bool.true)) ∧
  ((((0 : @Int) = (0 : @Int)) ∧
  ((@Bool.false = @Bool.false) ∧
  ((@es = @es) ∧
  (False ∧
  (((Value.slice (@Option.none @Addr) (0 : @Nat) (0 : @Nat)) = (Value.slice (@Option.none @Addr) (0 : @Nat) (0 : @Nat))) ∧
  (((0 : @Int) = (0 : @Int)) ∧
  True)))))) ∧
  (((((0 : @Nat) = (0 : @Nat)) ∧
  ((@Shf.n (@SK2.s (@Prod.fst @SK2 @BA x))) = (@Shf.n (@SK2.s (@Prod.fst @SK2 @BA x))))) ∧
  (True ∧
  True)) ∧
  True)))))))) ∨ (∃ (s_1 : @Nat), ((s_1 ≤ (@Shf.n (@SK2.s (@Prod.fst @SK2 @BA x)))) ∧
  ((((@Shf.n (@SK2.s (@Prod.fst @SK2 @BA x))) - s_1) < ((@Shf.n (@SK2.s (@Prod.fst @SK2 @BA x))) - s)) ∧
  (((((s_1 : Nat) : @Int) = (((s : Nat) : @Int) + (1 : @Int))) ∧
  True) ∧
  ((((@List.length @Nat (@selL (@SK2.s (@Prod.fst @SK2 @BA x)) (@SK2.key (@Prod.fst @SK2 @BA x)) (@SK2.to (@Prod.fst @SK2 @BA x)) s_1)) = ((@List.length @Nat (@selL (@SK2.s (@Prod.fst @SK2 @BA x)) (@SK2.key (@Prod.fst @SK2 @BA x)) (@SK2.to (@Prod.fst @SK2 @BA x)) s)) + (@List.length (@List @Value) [(@List.take @Value (2 : @Nat) [(Value.string (@Shf.pk (@SK2.s (@Prod.fst @SK2 @BA x)) ((0 : @Nat) + s))), (Value.string (@Shf.pv (@SK2.s (@Prod.fst @SK2 @BA x)) ((0 : @Nat) + s)))])]))) ∧
  (∀ (q : @Nat), ((q < (@List.length @Nat (@selL (@SK2.s (@Prod.fst @SK2 @BA x)) (@SK2.key (@Prod.fst @SK2 @BA x)) (@SK2.to (@Prod.fst @SK2 @BA x)) s_1))) → ([(Value.string (@Shf.pk (@SK2.s (@Prod.fst @SK2 @BA x)) (@List.getD @Nat (@selL (@SK2.s (@Prod.fst @SK2 @BA x)) (@SK2.key (@Prod.fst @SK2 @BA x)) (@SK2.to (@Prod.fst @SK2 @BA x)) s_1) q (0 : @Nat)))), (Value.string (@Shf.pv (@SK2.s (@Prod.fst @SK2 @BA x)) (@List.getD @Nat (@selL (@SK2.s (@Prod.fst @SK2 @BA x)) (@SK2.key (@Prod.fst @SK2 @BA x)) (@SK2.to (@Prod.fst @SK2 @BA x)) s_1) q (0 : @Nat))))] = (@Cs.eff (fun (k : @Nat) => [(Value.string (@Shf.pk (@SK2.s (@Prod.fst @SK2 @BA x)) (@List.getD @Nat (@selL (@SK2.s (@Prod.fst @SK2 @BA x)) (@SK2.key (@Prod.fst @SK2 @BA x)) (@SK2.to (@Prod.fst @SK2 @BA x)) s) k (0 : @Nat)))), (Value.string (@Shf.pv (@SK2.s (@Prod.fst @SK2 @BA x)) (@List.getD @Nat (@selL (@SK2.s (@Prod.fst @SK2 @BA x)) (@SK2.key (@Prod.fst @SK2 @BA x)) (@SK2.to (@Prod.fst @SK2 @BA x)) s) k (0 : @Nat))))]) [(@Prod.mk @Nat (@List @Value) (@List.length @Nat (@selL (@SK2.s (@Prod.fst @SK2 @BA x)) (@SK2.key (@Prod.fst @SK2 @BA x)) (@SK2.to (@Prod.fst @SK2 @BA x)) s)) (@List.take @Value (2 : @Nat) [(Value.string (@Shf.pk (@SK2.s (@Prod.fst @SK2 @BA x)) ((0 : @Nat) + s))), (Value.string (@Shf.pv (@SK2.s (@Prod.fst @SK2 @BA x)) ((0 : @Nat) + s)))]))] q))))) ∧
  ((((6 : @Int) = (6 : @Int)) ∧
  (((@SK2.key (@Prod.fst @SK2 @BA x)) = (@SK2.key (@Prod.fst @SK2 @BA x))) ∧
  (((@Prod.snd @SK2 @BA x) = (@Prod.snd @SK2 @BA x)) ∧
  (((@SK2.to (@Prod.fst @SK2 @BA x)) = (@SK2.to (@Prod.fst @SK2 @BA x))) ∧
  (True ∧
  True))))) ∧
  ((((@rowP (@SK2.s (@Prod.fst @SK2 @BA x))) = (@rowP (@SK2.s (@Prod.fst @SK2 @BA x)))) ∧
  (@Bool.true = @Bool.true)) ∧
  ((((0 : @Int) = (0 : @Int)) ∧
  ((@Bool.false = @Bool.false) ∧
  ((@es = @es) ∧
  ((((0 : @Nat) = (0 : @Nat)) ∧
  ((@List.length @Nat (@selL (@SK2.s (@Prod.fst @SK2 @BA x)) (@SK2.key (@Prod.fst @SK2 @BA x)) (@SK2.to (@Prod.fst @SK2 @BA x)) s_1)) = ((@List.length @Nat (@selL (@SK2.s (@Prod.fst @SK2 @BA x)) (@SK2.key (@Prod.fst @SK2 @BA x)) (@SK2.to (@Prod.fst @SK2 @BA x)) s)) + (1 : Nat)))) ∧
  (((Value.slice (@Option.none @Addr) (0 : @Nat) (0 : @Nat)) = (Value.slice (@Option.none @Addr) (0 : @Nat) (0 : @Nat))) ∧
  (((0 : @Int) = (0 : @Int)) ∧
  True)))))) ∧
  (((((0 : @Nat) = (0 : @Nat)) ∧
  ((@Shf.n (@SK2.s (@Prod.fst @SK2 @BA x))) = (@Shf.n (@SK2.s (@Prod.fst @SK2 @BA x))))) ∧
  (True ∧
  True)) ∧
  True))))))))))))))))) ((@I64 (((s : Nat) : @Int) + (1 : @Int))) ∧
  ((∃ (s_1 : @Nat), (((s_1 ≤ (@Shf.n (@SK2.s (@Prod.fst @SK2 @BA x)))) ∧
  (@Hd ((@selL (@SK2.s (@Prod.fst @SK2 @BA x)) (@SK2.key (@Prod.fst @SK2 @BA x)) (@SK2.to (@Prod.fst @SK2 @BA x)) s_1) = (@List.nil @Nat)))) ∧
  ((((@Shf.n (@SK2.s (@Prod.fst @SK2 @BA x))) - s_1) < ((@Shf.n (@SK2.s (@Prod.fst @SK2 @BA x))) - s)) ∧
  (((((s_1 : Nat) : @Int) = (((s : Nat) : @Int) + (1 : @Int))) ∧
  True) ∧
  ((((6 : @Int) = (6 : @Int)) ∧
  (((@SK2.key (@Prod.fst @SK2 @BA x)) = (@SK2.key (@Prod.fst @SK2 @BA x))) ∧
  (((@Prod.snd @SK2 @BA x) = (@Prod.snd @SK2 @BA x)) ∧
  (((@SK2.to (@Prod.fst @SK2 @BA x)) = (@SK2.to (@Prod.fst @SK2 @BA x))) ∧
  (True ∧
  True))))) ∧
  ((((@rowP (@SK2.s (@Prod.fst @SK2 @BA x))) = (@rowP (@SK2.s (@Prod.fst @SK2 @BA x)))) ∧
  (@Bool.true = @Bool.true)) ∧
  ((((0 : @Int) = (0 : @Int)) ∧
  ((@Bool.false = @Bool.false) ∧
  ((@es = @es) ∧
  (False ∧
  (((Value.slice (@Option.none @Addr) (0 : @Nat) (0 : @Nat)) = (Value.slice (@Option.none @Addr) (0 : @Nat) (0 : @Nat))) ∧
  (((0 : @Int) = (0 : @Int)) ∧
  True)))))) ∧
  (((((0 : @Nat) = (0 : @Nat)) ∧
  ((@Shf.n (@SK2.s (@Prod.fst @SK2 @BA x))) = (@Shf.n (@SK2.s (@Prod.fst @SK2 @BA x))))) ∧
  (True ∧
  True)) ∧
  True)))))))) ∨ (∃ (s_1 : @Nat), ((s_1 ≤ (@Shf.n (@SK2.s (@Prod.fst @SK2 @BA x)))) ∧
  ((((@Shf.n (@SK2.s (@Prod.fst @SK2 @BA x))) - s_1) < ((@Shf.n (@SK2.s (@Prod.fst @SK2 @BA x))) - s)) ∧
  (((((s_1 : Nat) : @Int) = (((s : Nat) : @Int) + (1 : @Int))) ∧
  True) ∧
  ((((@List.length @Nat (@selL (@SK2.s (@Prod.fst @SK2 @BA x)) (@SK2.key (@Prod.fst @SK2 @BA x)) (@SK2.to (@Prod.fst @SK2 @BA x)) s_1)) = (@List.length @Nat (@selL (@SK2.s (@Prod.fst @SK2 @BA x)) (@SK2.key (@Prod.fst @SK2 @BA x)) (@SK2.to (@Prod.fst @SK2 @BA x)) s))) ∧
  (∀ (q : @Nat), ((q < (@List.length @Nat (@selL (@SK2.s (@Prod.fst @SK2 @BA x)) (@SK2.key (@Prod.fst @SK2 @BA x)) (@SK2.to (@Prod.fst @SK2 @BA x)) s_1))) → ([(Value.string (@Shf.pk (@SK2.s (@Prod.fst @SK2 @BA x)) (@List.getD @Nat (@selL (@SK2.s (@Prod.fst @SK2 @BA x)) (@SK2.key (@Prod.fst @SK2 @BA x)) (@SK2.to (@Prod.fst @SK2 @BA x)) s_1) q (0 : @Nat)))), (Value.string (@Shf.pv (@SK2.s (@Prod.fst @SK2 @BA x)) (@List.getD @Nat (@selL (@SK2.s (@Prod.fst @SK2 @BA x)) (@SK2.key (@Prod.fst @SK2 @BA x)) (@SK2.to (@Prod.fst @SK2 @BA x)) s_1) q (0 : @Nat))))] = [(Value.string (@Shf.pk (@SK2.s (@Prod.fst @SK2 @BA x)) (@List.getD @Nat (@selL (@SK2.s (@Prod.fst @SK2 @BA x)) (@SK2.key (@Prod.fst @SK2 @BA x)) (@SK2.to (@Prod.fst @SK2 @BA x)) s) q (0 : @Nat)))), (Value.string (@Shf.pv (@SK2.s (@Prod.fst @SK2 @BA x)) (@List.getD @Nat (@selL (@SK2.s (@Prod.fst @SK2 @BA x)) (@SK2.key (@Prod.fst @SK2 @BA x)) (@SK2.to (@Prod.fst @SK2 @BA x)) s) q (0 : @Nat))))])))) ∧
  ((((6 : @Int) = (6 : @Int)) ∧
  (((@SK2.key (@Prod.fst @SK2 @BA x)) = (@SK2.key (@Prod.fst @SK2 @BA x))) ∧
  (((@Prod.snd @SK2 @BA x) = (@Prod.snd @SK2 @BA x)) ∧
  (((@SK2.to (@Prod.fst @SK2 @BA x)) = (@SK2.to (@Prod.fst @SK2 @BA x))) ∧
  (True ∧
  True))))) ∧
  ((((@rowP (@SK2.s (@Prod.fst @SK2 @BA x))) = (@rowP (@SK2.s (@Prod.fst @SK2 @BA x)))) ∧
  (@Bool.true = @Bool.true)) ∧
  ((((0 : @Int) = (0 : @Int)) ∧
  ((@Bool.false = @Bool.false) ∧
  ((@es = @es) ∧
  ((((0 : @Nat) = (0 : @Nat)) ∧
  ((@List.length @Nat (@selL (@SK2.s (@Prod.fst @SK2 @BA x)) (@SK2.key (@Prod.fst @SK2 @BA x)) (@SK2.to (@Prod.fst @SK2 @BA x)) s_1)) = (@List.length @Nat (@selL (@SK2.s (@Prod.fst @SK2 @BA x)) (@SK2.key (@Prod.fst @SK2 @BA x)) (@SK2.to (@Prod.fst @SK2 @BA x)) s)))) ∧
  (((Value.slice (@Option.none @Addr) (0 : @Nat) (0 : @Nat)) = (Value.slice (@Option.none @Addr) (0 : @Nat) (0 : @Nat))) ∧
  (((0 : @Int) = (0 : @Int)) ∧
  True)))))) ∧
  (((((0 : @Nat) = (0 : @Nat)) ∧
  ((@Shf.n (@SK2.s (@Prod.fst @SK2 @BA x))) = (@Shf.n (@SK2.s (@Prod.fst @SK2 @BA x))))) ∧
  (True ∧
  True)) ∧
  True))))))))))))) ((@I64 (((s : Nat) : @Int) + (1 : @Int))) ∧
  ((∃ (s_1 : @Nat), (((s_1 ≤ (@Shf.n (@SK2.s (@Prod.fst @SK2 @BA x)))) ∧
  (@Hd ((@selL (@SK2.s (@Prod.fst @SK2 @BA x)) (@SK2.key (@Prod.fst @SK2 @BA x)) (@SK2.to (@Prod.fst @SK2 @BA x)) s_1) = (@List.nil @Nat)))) ∧
  ((((@Shf.n (@SK2.s (@Prod.fst @SK2 @BA x))) - s_1) < ((@Shf.n (@SK2.s (@Prod.fst @SK2 @BA x))) - s)) ∧
  (((((s_1 : Nat) : @Int) = (((s : Nat) : @Int) + (1 : @Int))) ∧
  True) ∧
  ((((6 : @Int) = (6 : @Int)) ∧
  (((@SK2.key (@Prod.fst @SK2 @BA x)) = (@SK2.key (@Prod.fst @SK2 @BA x))) ∧
  (((@Prod.snd @SK2 @BA x) = (@Prod.snd @SK2 @BA x)) ∧
  (((@SK2.to (@Prod.fst @SK2 @BA x)) = (@SK2.to (@Prod.fst @SK2 @BA x))) ∧
  (True ∧
  True))))) ∧
  ((((@rowP (@SK2.s (@Prod.fst @SK2 @BA x))) = (@rowP (@SK2.s (@Prod.fst @SK2 @BA x)))) ∧
  (@Bool.true = @Bool.true)) ∧
  ((((0 : @Int) = (0 : @Int)) ∧
  ((@Bool.false = @Bool.false) ∧
  ((@es = @es) ∧
  (False ∧
  (((Value.slice (@Option.none @Addr) (0 : @Nat) (0 : @Nat)) = (Value.slice (@Option.none @Addr) (0 : @Nat) (0 : @Nat))) ∧
  (((0 : @Int) = (0 : @Int)) ∧
  True)))))) ∧
  (((((0 : @Nat) = (0 : @Nat)) ∧
  ((@Shf.n (@SK2.s (@Prod.fst @SK2 @BA x))) = (@Shf.n (@SK2.s (@Prod.fst @SK2 @BA x))))) ∧
  (True ∧
  True)) ∧
  True)))))))) ∨ (∃ (s_1 : @Nat), ((s_1 ≤ (@Shf.n (@SK2.s (@Prod.fst @SK2 @BA x)))) ∧
  ((((@Shf.n (@SK2.s (@Prod.fst @SK2 @BA x))) - s_1) < ((@Shf.n (@SK2.s (@Prod.fst @SK2 @BA x))) - s)) ∧
  (((((s_1 : Nat) : @Int) = (((s : Nat) : @Int) + (1 : @Int))) ∧
  True) ∧
  ((((@List.length @Nat (@selL (@SK2.s (@Prod.fst @SK2 @BA x)) (@SK2.key (@Prod.fst @SK2 @BA x)) (@SK2.to (@Prod.fst @SK2 @BA x)) s_1)) = (@List.length @Nat (@selL (@SK2.s (@Prod.fst @SK2 @BA x)) (@SK2.key (@Prod.fst @SK2 @BA x)) (@SK2.to (@Prod.fst @SK2 @BA x)) s))) ∧
  (∀ (q : @Nat), ((q < (@List.length @Nat (@selL (@SK2.s (@Prod.fst @SK2 @BA x)) (@SK2.key (@Prod.fst @SK2 @BA x)) (@SK2.to (@Prod.fst @SK2 @BA x)) s_1))) → ([(Value.string (@Shf.pk (@SK2.s (@Prod.fst @SK2 @BA x)) (@List.getD @Nat (@selL (@SK2.s (@Prod.fst @SK2 @BA x)) (@SK2.key (@Prod.fst @SK2 @BA x)) (@SK2.to (@Prod.fst @SK2 @BA x)) s_1) q (0 : @Nat)))), (Value.string (@Shf.pv (@SK2.s (@Prod.fst @SK2 @BA x)) (@List.getD @Nat (@selL (@SK2.s (@Prod.fst @SK2 @BA x)) (@SK2.key (@Prod.fst @SK2 @BA x)) (@SK2.to (@Prod.fst @SK2 @BA x)) s_1) q (0 : @Nat))))] = [(Value.string (@Shf.pk (@SK2.s (@Prod.fst @SK2 @BA x)) (@List.getD @Nat (@selL (@SK2.s (@Prod.fst @SK2 @BA x)) (@SK2.key (@Prod.fst @SK2 @BA x)) (@SK2.to (@Prod.fst @SK2 @BA x)) s) q (0 : @Nat)))), (Value.string (@Shf.pv (@SK2.s (@Prod.fst @SK2 @BA x)) (@List.getD @Nat (@selL (@SK2.s (@Prod.fst @SK2 @BA x)) (@SK2.key (@Prod.fst @SK2 @BA x)) (@SK2.to (@Prod.fst @SK2 @BA x)) s) q (0 : @Nat))))])))) ∧
  ((((6 : @Int) = (6 : @Int)) ∧
  (((@SK2.key (@Prod.fst @SK2 @BA x)) = (@SK2.key (@Prod.fst @SK2 @BA x))) ∧
  (((@Prod.snd @SK2 @BA x) = (@Prod.snd @SK2 @BA x)) ∧
  (((@SK2.to (@Prod.fst @SK2 @BA x)) = (@SK2.to (@Prod.fst @SK2 @BA x))) ∧
  (True ∧
  True))))) ∧
  ((((@rowP (@SK2.s (@Prod.fst @SK2 @BA x))) = (@rowP (@SK2.s (@Prod.fst @SK2 @BA x)))) ∧
  (@Bool.true = @Bool.true)) ∧
  ((((0 : @Int) = (0 : @Int)) ∧
  ((@Bool.false = @Bool.false) ∧
  ((@es = @es) ∧
  ((((0 : @Nat) = (0 : @Nat)) ∧
  ((@List.length @Nat (@selL (@SK2.s (@Prod.fst @SK2 @BA x)) (@SK2.key (@Prod.fst @SK2 @BA x)) (@SK2.to (@Prod.fst @SK2 @BA x)) s_1)) = (@List.length @Nat (@selL (@SK2.s (@Prod.fst @SK2 @BA x)) (@SK2.key (@Prod.fst @SK2 @BA x)) (@SK2.to (@Prod.fst @SK2 @BA x)) s)))) ∧
  (((Value.slice (@Option.none @Addr) (0 : @Nat) (0 : @Nat)) = (Value.slice (@Option.none @Addr) (0 : @Nat) (0 : @Nat))) ∧
  (((0 : @Int) = (0 : @Int)) ∧
  True)))))) ∧
  (((((0 : @Nat) = (0 : @Nat)) ∧
  ((@Shf.n (@SK2.s (@Prod.fst @SK2 @BA x))) = (@Shf.n (@SK2.s (@Prod.fst @SK2 @BA x))))) ∧
  (True ∧
  True)) ∧
  True)))))))))))))) ((∃ (y : Unit), ((@Hd ((@SK2.sel (@Prod.fst @SK2 @BA x)) = (@List.nil @Nat))) ∧
  (True ∧
  (((((0 : @Nat) = (0 : @Nat)) ∧
  ((@Shf.n (@SK2.s (@Prod.fst @SK2 @BA x))) = (@Shf.n (@SK2.s (@Prod.fst @SK2 @BA x))))) ∧
  (True ∧
  True)) ∧
  ((((0 : @Int) = (0 : @Int)) ∧
  ((@Bool.false = @Bool.false) ∧
  ((@es = @es) ∧
  (False ∧
  (((Value.slice (@Option.none @Addr) (0 : @Nat) (0 : @Nat)) = (Value.slice (@Option.none @Addr) (0 : @Nat) (0 : @Nat))) ∧
  (((0 : @Int) = (0 : @Int)) ∧
  True)))))) ∧
  ((((@rowP (@SK2.s (@Prod.fst @SK2 @BA x))) = (@rowP (@SK2.s (@Prod.fst @SK2 @BA x)))) ∧
  (@Bool.true = @Bool.true)) ∧
  True)))))) ∨ (∃ (y : Unit), (True ∧
  (True ∧
  (((((0 : @Nat) = (0 : @Nat)) ∧
  ((@Shf.n (@SK2.s (@Prod.fst @SK2 @BA x))) = (@Shf.n (@SK2.s (@Prod.fst @SK2 @BA x))))) ∧
  (True ∧
  True)) ∧
  ((((0 : @Int) = (0 : @Int)) ∧
  ((@Bool.false = @Bool.false) ∧
  ((@es = @es) ∧
  ((((0 : @Nat) = (0 : @Nat)) ∧
  ((@List.length @Nat (@SK2.sel (@Prod.fst @SK2 @BA x))) = (@List.length @Nat (@selL (@SK2.s (@Prod.fst @SK2 @BA x)) (@SK2.key (@Prod.fst @SK2 @BA x)) (@SK2.to (@Prod.fst @SK2 @BA x)) s)))) ∧
  (((Value.slice (@Option.none @Addr) (0 : @Nat) (0 : @Nat)) = (Value.slice (@Option.none @Addr) (0 : @Nat) (0 : @Nat))) ∧
  (((0 : @Int) = (0 : @Int)) ∧
  True)))))) ∧
  ((((@rowP (@SK2.s (@Prod.fst @SK2 @BA x))) = (@rowP (@SK2.s (@Prod.fst @SK2 @BA x)))) ∧
  (@Bool.true = @Bool.true)) ∧
  ((((@List.length @Nat (@SK2.sel (@Prod.fst @SK2 @BA x))) = (@List.length @Nat (@selL (@SK2.s (@Prod.fst @SK2 @BA x)) (@SK2.key (@Prod.fst @SK2 @BA x)) (@SK2.to (@Prod.fst @SK2 @BA x)) s))) ∧
  (∀ (q : @Nat), ((q < (@List.length @Nat (@SK2.sel (@Prod.fst @SK2 @BA x)))) → ([(Value.string (@Shf.pk (@SK2.s (@Prod.fst @SK2 @BA x)) (@List.getD @Nat (@SK2.sel (@Prod.fst @SK2 @BA x)) q (0 : @Nat)))), (Value.string (@Shf.pv (@SK2.s (@Prod.fst @SK2 @BA x)) (@List.getD @Nat (@SK2.sel (@Prod.fst @SK2 @BA x)) q (0 : @Nat))))] = [(Value.string (@Shf.pk (@SK2.s (@Prod.fst @SK2 @BA x)) (@List.getD @Nat (@selL (@SK2.s (@Prod.fst @SK2 @BA x)) (@SK2.key (@Prod.fst @SK2 @BA x)) (@SK2.to (@Prod.fst @SK2 @BA x)) s) q (0 : @Nat)))), (Value.string (@Shf.pv (@SK2.s (@Prod.fst @SK2 @BA x)) (@List.getD @Nat (@selL (@SK2.s (@Prod.fst @SK2 @BA x)) (@SK2.key (@Prod.fst @SK2 @BA x)) (@SK2.to (@Prod.fst @SK2 @BA x)) s) q (0 : @Nat))))])))) ∧
  True))))))))))) ∧
  True)))
theorem scanVC_ok (x : SK2 × BA) : scanVC x = scanVC_wp x := by kernel_rfl
end Go.Proofs.Ytjndgegfonhhfaa
end
section
/- Ranges of a store: what is asked is so. -/
namespace Go.Proofs.Ytjndgegfonhhfaa
open Go SE
theorem clonePVC_true (x : ZP) (hx : x.n < 1099511627776) : clonePVC x := by
  unfold clonePVC
  simp only [hd_iff, and_true, true_and, Nat.zero_add, Nat.add_zero, unit_ex, unit_all, true_implies, implies_true, Int.toNat_natCast, eq_self, and_self]
  refine cP_intro (fun h => .inl h) (fun h => ⟨by omega, cP_intro (fun h0 => .inr ?_) (fun h0 => ⟨by omega, .inr ?_⟩)⟩)
  · have h0 := Nat.eq_of_beq_eq_true h0
    exact ⟨h, h0, by omega, fun q hq => by omega⟩
  · refine ⟨h, fun q hq => ?_⟩
    rfl
theorem cloneQVC_true (x : ZQ) (hx : x.n < 1099511627776) : cloneQVC x := by
  unfold cloneQVC
  simp only [hd_iff, and_true, true_and, Nat.zero_add, Nat.add_zero, unit_ex, unit_all, true_implies, implies_true, Int.toNat_natCast, eq_self, and_self]
  refine cP_intro (fun h => .inl h) (fun h => ⟨by omega, cP_intro (fun h0 => .inr ?_) (fun h0 => ⟨by omega, .inr ?_⟩)⟩)
  · have h0 := Nat.eq_of_beq_eq_true h0
    exact ⟨h, h0, by omega, fun q hq => by omega⟩
  · refine ⟨h, fun q hq => ?_⟩
    rfl
theorem copiedVC_true (s : Shf) (hs : s.small) : copiedVC s := by
  unfold copiedVC
  simp only [hd_iff, and_true, true_and, Nat.zero_add, Nat.add_zero, unit_ex, unit_all, true_implies, implies_true, Int.toNat_natCast, eq_self, and_self]
  have hn := hs.1
  have hm := hs.2.1
  refine ⟨⟨s.zp, s.n, s.pk, s.pv⟩, by dsimp only; omega, ⟨rfl, rfl⟩, ⟨rfl, fun _ _ => rfl⟩, fun hp => ⟨⟨s.zq, s.m, s.qv⟩, by dsimp only; omega, ⟨rfl, rfl⟩, ⟨rfl, fun _ _ => rfl⟩, fun hq => ?_, fun hq => ?_⟩, fun hp => ⟨⟨s.zq, s.m, s.qv⟩, by dsimp only; omega, ⟨rfl, rfl⟩, ⟨rfl, fun _ _ => rfl⟩, fun hq => ?_, fun hq => ?_⟩⟩
  all_goals dsimp only at hp hq
  all_goals simp [hp, hq]
theorem clonePC_ok : CtrOk Try.prog 83 clonePC := ctr_endL tt_ok mixed TblOk.nil (C := clonePC) (fun _ => noAn) 200 5 (fun _ => rfl) (fun _ => ⟨fun _ => rfl, fun _ => rfl, trivial⟩) fun x hx => Eq.mp (clonePVC_ok x) (clonePVC_true x hx)
theorem cloneQC_ok : CtrOk Try.prog 84 cloneQC := ctr_endL tt_ok mixed TblOk.nil (C := cloneQC) (fun _ => noAn) 200 5 (fun _ => rfl) (fun _ => ⟨fun _ => rfl, fun _ => rfl, trivial⟩) fun x hx => Eq.mp (cloneQVC_ok x) (cloneQVC_true x hx)
theorem copied_ok : CtrOk Try.prog 55 copiedC := ctr_endL tt_ok mixed (.cons (ctrT_ok cloneQC_ok) (.cons (ctrT_ok clonePC_ok) .nil)) (C := copiedC) (fun _ => noAn) 200 5 (fun _ => rfl) (fun _ => ⟨fun _ => rfl, fun _ => rfl, fun _ => rfl, fun _ => rfl, trivial⟩) fun x hx => Eq.mp (copiedVC_ok x) (copiedVC_true x (hd_iff.1 hx))
theorem sel_in {s : Shf} {k t : BA} {i : Nat} (h : inM s k t i = true) : selL s k t (i + 1) = selL s k t i ++ [i] := by simp [selL, h]
theorem sel_out {s : Shf} {k t : BA} {i : Nat} (h : inM s k t i = false) : selL s k t (i + 1) = selL s k t i := by simp [selL, h]
theorem sel_le (s : Shf) (k t : BA) : ∀ i, (selL s k t i).length ≤ i
  | 0 => by simp [selL]
  | i + 1 => by
    have := sel_le s k t i
    cases h : inM s k t i with
    | true => rw [sel_in h]; simp; omega
    | false => rw [sel_out h]; omega
theorem getD_app (L : List Nat) (i q : Nat) : (L ++ [i]).getD q 0 = if q < L.length then L.getD q 0 else if q = L.length then i else 0 := by
  simp only [List.getD_eq_getElem?_getD, List.getElem?_append]
  split
  · rfl
  · rename_i h
    split
    · rename_i h2; subst h2; simp
    · rename_i h2
      have : 1 ≤ q - L.length := by omega
      rw [List.getElem?_eq_none (by simpa using this)]; rfl
theorem scanNVC_true (x : SK2 × BA) : scanNVC x := by
  unfold scanNVC
  exact ⟨(), trivial, trivial, ⟨rfl, trivial, trivial⟩, ⟨rfl, rfl, rfl, rfl, rfl, rfl, trivial⟩, trivial⟩
theorem cmp_key (s : Shf) (key : BA) (i : Nat) : decide (cmpM (s.pk i) key ≥ 0) = !lsB (s.pk i) key := by
  have := cmpM_less (s.pk i) key
  unfold lsB
  cases h : Op.bytesLess (s.pk i).toList key.toList with
  | true => have := this.2 h; simp; omega
  | false =>
    have : ¬ cmpM (s.pk i) key < 0 := fun hh => by rw [this.1 hh] at h; cases h
    simp; omega
theorem cmp_to (s : Shf) (to : BA) (i : Nat) : decide (cmpM (s.pk i) to < 0) = lsB (s.pk i) to := by
  have := cmpM_less (s.pk i) to
  unfold lsB
  cases h : Op.bytesLess (s.pk i).toList to.toList with
  | true => have := this.2 h; simp; omega
  | false =>
    have : ¬ cmpM (s.pk i) to < 0 := fun hh => by rw [this.1 hh] at h; cases h
    simp; omega
theorem scanVC_true (x : SK2 × BA) (hx : x.1.ok) : scanVC x := by
  obtain ⟨⟨s, key, to⟩, v⟩ := x
  unfold scanVC
  have et : ∀ t : BA, (t.toList == (ByteArray.mk #[]).toList) = emp t := fun _ => rfl
  simp only [hd_iff, and_true, true_and, Nat.zero_add, Nat.add_zero, unit_ex, unit_all, true_implies, implies_true, Int.toNat_natCast, eq_self, and_self, SK2.sel, cmp_key, cmp_to, et]
  have hn : s.n ≤ 40 := hx.1.1
  have one : ∀ i, selL s key to i = [] → inM s key to i = true → ((selL s key to (i + 1)).length = [List.take 2 [Value.string (s.pk i), Value.string (s.pv i)]].length ∧ ∀ q, q < (selL s key to (i + 1)).length →
      [Value.string (s.pk ((selL s key to (i + 1)).getD q 0)), Value.string (s.pv ((selL s key to (i + 1)).getD q 0))] = Cs.eff (fun _ => []) [(0, List.take 2 [Value.string (s.pk i), Value.string (s.pv i)])] q) ∧ (selL s key to (i + 1)).length = 1 := fun i h0 hin => by
    rw [sel_in hin, h0]
    refine ⟨⟨rfl, fun q hq => ?_⟩, rfl⟩
    have : q = 0 := by simpa using hq
    subst this; rfl
  have more : ∀ i, inM s key to i = true → ((selL s key to (i + 1)).length = (selL s key to i).length + [List.take 2 [Value.string (s.pk i), Value.string (s.pv i)]].length ∧ ∀ q, q < (selL s key to (i + 1)).length →
      [Value.string (s.pk ((selL s key to (i + 1)).getD q 0)), Value.string (s.pv ((selL s key to (i + 1)).getD q 0))] = Cs.eff (fun k => [Value.string (s.pk ((selL s key to i).getD k 0)), Value.string (s.pv ((selL s key to i).getD k 0))]) [((selL s key to i).length, List.take 2 [Value.string (s.pk i), Value.string (s.pv i)])] q) ∧ (selL s key to (i + 1)).length = (selL s key to i).length + 1 := fun i hin => by
    rw [sel_in hin]
    refine ⟨⟨by simp, fun q hq => ?_⟩, by simp⟩
    simp only [List.length_append, List.length_singleton] at hq
    simp only [Cs.eff]
    rw [getD_app]
    cases hb : Nat.beq q (selL s key to i).length with
    | true =>
      have := Nat.eq_of_beq_eq_true hb; subst this
      simp only [Nat.lt_irrefl, if_false, if_true, cond_true]; rfl
    | false =>
      have : q ≠ (selL s key to i).length := fun h => by rw [h, Nat.beq_refl] at hb; cases hb
      rw [if_pos (by omega)]; rfl
  have inT : ∀ i, lsB (s.pk i) key = false → (emp to = true ∨ lsB (s.pk i) to = true) → inM s key to i = true := fun i h1 h2 => by
    unfold inM; rw [h1]; rcases h2 with h | h <;> rw [h] <;> simp
  have inF1 : ∀ i, lsB (s.pk i) key = true → inM s key to i = false := fun i h1 => by unfold inM; rw [h1]; rfl
  have inF2 : ∀ i, emp to = false → lsB (s.pk i) to = false → inM s key to i = false := fun i h1 h2 => by unfold inM; rw [h1, h2]; simp
  have I : ∀ i : Nat, (i : Int) < s.n → I64 ((i : Int) + 1) := fun i h => by unfold I64; omega
  refine ⟨.inl ⟨0, ⟨by omega, rfl⟩, rfl⟩, fun i ⟨hi, hs⟩ => ?_, fun i hi => ?_⟩
  · refine cP_intro (fun hb => ?_) (fun hb => ?_)
    · have hb := of_decide_eq_true hb
      have stay : inM s key to i = false → I64 ((i : Int) + 1) ∧ ∃ q : Nat, (q ≤ s.n ∧ selL s key to q = []) ∧ s.n - q < s.n - i ∧ (q : Int) = (i : Int) + 1 := fun h => ⟨I i hb, i + 1, ⟨by omega, by rw [sel_out h]; exact hs⟩, by omega, rfl⟩
      refine ⟨⟨by omega, hb⟩, by omega, cP_intro (fun h1 => cP_intro (fun h2 => ?_) (fun h2 => cP_intro (fun h3 => ?_) (fun h3 => ?_))) (fun h1 => ?_)⟩
      · have h1 : lsB (s.pk i) key = false := by simpa using h1
        exact ⟨by omega, I i hb, .inr ⟨i + 1, by omega, by omega, rfl, one i hs (inT i h1 (.inl h2))⟩⟩
      · have h1 : lsB (s.pk i) key = false := by simpa using h1
        exact ⟨by omega, I i hb, .inr ⟨i + 1, by omega, by omega, rfl, one i hs (inT i h1 (.inr h3))⟩⟩
      · exact ⟨(stay (inF2 i h2 h3)).1, .inl (stay (inF2 i h2 h3)).2⟩
      · have h1 : lsB (s.pk i) key = true := by simpa using h1
        exact ⟨(stay (inF1 i h1)).1, .inl (stay (inF1 i h1)).2⟩
    · have : i = s.n := by have := of_decide_eq_false hb; omega
      subst this
      exact .inl hs
  · refine cP_intro (fun hb => ?_) (fun hb => ?_)
    · have hb := of_decide_eq_true hb
      have hle := sel_le s key to i
      refine ⟨⟨by omega, hb⟩, by omega, cP_intro (fun h1 => cP_intro (fun h2 => ?_) (fun h2 => cP_intro (fun h3 => ?_) (fun h3 => ?_))) (fun h1 => ?_)⟩
      · have h1 : lsB (s.pk i) key = false := by simpa using h1
        exact ⟨by rfl, by omega, I i hb, .inr ⟨i + 1, by omega, by omega, rfl, more i (inT i h1 (.inl h2))⟩⟩
      · have h1 : lsB (s.pk i) key = false := by simpa using h1
        exact ⟨by rfl, by omega, I i hb, .inr ⟨i + 1, by omega, by omega, rfl, more i (inT i h1 (.inr h3))⟩⟩
      · refine ⟨I i hb, .inr ⟨i + 1, by omega, by omega, rfl, ?_⟩⟩
        rw [sel_out (inF2 i h2 h3)]; exact ⟨⟨rfl, fun q _ => rfl⟩, rfl⟩
      · have h1 : lsB (s.pk i) key = true := by simpa using h1
        refine ⟨I i hb, .inr ⟨i + 1, by omega, by omega, rfl, ?_⟩⟩
        rw [sel_out (inF1 i h1)]; exact ⟨⟨rfl, fun q _ => rfl⟩, rfl⟩
    · have : i = s.n := by have := of_decide_eq_false hb; omega
      subst this
      exact .inr ⟨rfl, rfl, fun _ _ => rfl⟩
theorem scanN_ok : CtrOk Try.prog 93 scanNC := det_end tt_ok mixed tblX_ok (fun _ => noAn) 200 7 (fun _ => rfl) (fun _ => rfl) fun x _ => Eq.mp (scanNVC_ok x) (scanNVC_true x)
theorem scan_ok : CtrOk Try.prog 93 scanC := ctr_endL tt_ok mixed tblX_ok (C := scanC) (fun x => anScan x.1) 200 7 (fun _ => rfl) (fun _ => ⟨fun _ => rfl, fun _ => rfl, trivial⟩) fun x hx => Eq.mp (scanVC_ok x) (scanVC_true x (hd_iff.1 hx))
end Go.Proofs.Ytjndgegfonhhfaa
end
