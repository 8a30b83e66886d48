import Derived.Test.YtnlpcbdmllpddaaGreatTt0
import Derived.Test.YtnlpcbdmllpddaaGreatTt1
import Derived.Test.YtnlpcbdmllpddaaGreatTt2
import Derived.Test.YtnlpcbdmllpddaaGreatTt3
import Derived.Test.YtnlpcbdmllpddaaGreatTt4
import Derived.Test.YtnlpcbdmllpddaaGreatTt5
import Derived.Test.YtnlpcbdmllpddaaGreatTt6
import Derived.Test.YtnlpcbdmllpddaaGreatTt7
import Derived.Test.YtnlpcbdmllpddaaGreatTt8
import Derived.Test.YtnlpcbdmllpddaaGreatTt9
import Derived.Test.YtnlpcbdmllpddaaGreatTt10
import Derived.Test.YtnlpcbdmllpddaaGreatTt11
import Derived.Test.YtnlpcbdmllpddaaGreatTt12
import Derived.Test.YtnlpcbdmllpddaaGreatTt13
import Derived.Test.YtnlpcbdmllpddaaGreatTt14
import Derived.Test.YtnlpcbdmllpddaaGreatTt15
import Derived.Test.YtnlpcbdmllpddaaGreatTt16
import Derived.Test.YtnlpcbdmllpddaaGreatTt17
import Derived.Test.YtnlpcbdmllpddaaGreatTt18
import Derived.Test.YtnlpcbdmllpddaaGreatTt19
import Derived.Test.YtnlpcbdmllpddaaGreatTt20
import Derived.Test.YtnlpcbdmllpddaaGreatTt21
import Derived.Test.YtnlpcbdmllpddaaGreatTt22
import Derived.Test.YtnlpcbdmllpddaaGreatTt23
import Derived.Test.YtnlpcbdmllpddaaGreatTt24
import Derived.KernelRfl
import Derived.Test.YtnlpcbdmllpddaaGreatChecked
section
/- Tail's awake: contracts of its parts. -/
namespace Go.Proofs.YtnlpcbdmllpddaaGreat
open Go SE
noncomputable section
def enqC : Ctr := clo [.ptr 0 0, i64 0, .agg [i64 4, str es, str (bs [120]), str es, nilS]] sSAM sSAO sSBV sSBM sSBO
theorem enq_ok : CtrOk Tryz.prog 80 enqC := clo_ok sSB_sp
def deqL : List (Int × WTr) := [(0, ctrT (clo [.ptr 0 0, i64 0, .agg (frL [i64 5, str es, str es, str es] nilS)] sSBM sSBO sSD1V sSD1M sSD1O)),
  (1, ctrT (clo [.ptr 0 0, i64 0, sSD1V] sSD1M sSD1O sSD2V sSD2M sSD2O)),
  (2, ctrT (clo [.ptr 0 0, i64 0, sSD2V] sSD2M sSD2O sSD3V sSD3M sSD3O)),
  (3, ctrT (clo [.ptr 0 0, i64 0, sSD3V] sSD3M sSD3O sSD4V sSD4M sSD4O)),
  (4, ctrT (clo [.ptr 0 0, i64 0, sSD4V] sSD4M sSD4O sSD5V sSD5M sSD5O)),
  (5, ctrT (clo [.ptr 0 0, i64 0, sSD5V] sSD5M sSD5O sSD6V sSD6M sSD6O)),
  (6, ctrT (clo [.ptr 0 0, i64 0, sSD6V] sSD6M sSD6O sSD7V sSD7M sSD7O))]
theorem deqL_ok : AllT Tryz.prog 33 deqL := ⟨ctrT_ok (clo_ok sSD1_sp), ctrT_ok (clo_ok sSD2_sp), ctrT_ok (clo_ok sSD3_sp), ctrT_ok (clo_ok sSD4_sp), ctrT_ok (clo_ok sSD5_sp), ctrT_ok (clo_ok sSD6_sp), ctrT_ok (clo_ok sSD7_sp), trivial⟩
def deqT : WTr := byI phaseOf deqL
def deqC : Ctr := clo [.ptr 0 0, i64 0, .agg [i64 5, str es, str es, str es, nilS]] sSBM sSBO (.tup [.agg [i64 0, boo true, str (bs [120]), nilS, nilS, u64 1], i64 7, boo true]) sSD7M sSD7O
end
end Go.Proofs.YtnlpcbdmllpddaaGreat
end
section
/- Tail's awake: what is asked. -/
namespace Go.Proofs.YtnlpcbdmllpddaaGreat
open Go SE
def runDeqVC_wp (x : Own) : Prop := wpF Tryz.prog [(33, deqT)] tt noAn 400 6 80 (deqC.args x) (hO deqC.k (deqC.os x)) (fun v h' => endsP deqC.k x v h' deqC.outs)
def runDeqVC (x : Own) : Prop :=
  (∃ (x_1 : @Own), ((@Hd (@isMem @sSBM @sSBO x_1)) ∧
  ((((0 : @Nat) = (0 : @Nat)) ∧
  (((0 : @Int) = (0 : @Int)) ∧
  ((((5 : @Int) = (5 : @Int)) ∧
  ((@es = @es) ∧
  ((@es = @es) ∧
  ((@es = @es) ∧
  (((Value.slice (@Option.none @Addr) (0 : @Nat) (0 : @Nat)) = (Value.slice (@Option.none @Addr) (0 : @Nat) (0 : @Nat))) ∧
  (((0 : @Int) = (0 : @Int)) ∧
  (((0 : @Int) = (0 : @Int)) ∧
  ((@es = (@ByteArray.mk (@List.toArray @UInt8 (@List.nil @UInt8)))) ∧
  ((@Bool.false = @Bool.false) ∧
  (((0 : @Int) = (0 : @Int)) ∧
  ((@Bool.false = @Bool.false) ∧
  ((@es = (@ByteArray.mk (@List.toArray @UInt8 (@List.nil @UInt8)))) ∧
  (((0 : @Int) = (0 : @Int)) ∧
  (((0 : @Int) = (0 : @Int)) ∧
  (((0 : @Int) = (0 : @Int)) ∧
  (((0 : @Int) = (0 : @Int)) ∧
  (((-(1 : @Int)) = (-(1 : @Int))) ∧
  (((0 : @Int) = (0 : @Int)) ∧
  (((0 : @Int) = (0 : @Int)) ∧
  (((Value.slice (@Option.none @Addr) (0 : @Nat) (0 : @Nat)) = (Value.slice (@Option.none @Addr) (0 : @Nat) (0 : @Nat))) ∧
  (((0 : @Int) = (0 : @Int)) ∧
  (((Value.slice (@Option.none @Addr) (0 : @Nat) (0 : @Nat)) = (Value.slice (@Option.none @Addr) (0 : @Nat) (0 : @Nat))) ∧
  (((0 : @Int) = (0 : @Int)) ∧
  ((@Bool.false = @Bool.false) ∧
  ((@es = (@ByteArray.mk (@List.toArray @UInt8 (@List.nil @UInt8)))) ∧
  (((Value.slice (@Option.none @Addr) (0 : @Nat) (0 : @Nat)) = (Value.slice (@Option.none @Addr) (0 : @Nat) (0 : @Nat))) ∧
  (((Value.slice (@Option.none @Addr) (0 : @Nat) (0 : @Nat)) = (Value.slice (@Option.none @Addr) (0 : @Nat) (0 : @Nat))) ∧
  (((0 : @Int) = (0 : @Int)) ∧
  True)))))))))))))))))))))))))))) ∧
  True))) ∧
  (((x_1 = x) ∧
  True) ∧
  (∀ (y : @Own), ((@Hd (@isMem @sSD1M @sSD1O y)) → ((@I64 (2 : @Int)) ∧
  (∃ (x_2 : @Own), ((@Hd (@isMem @sSD1M @sSD1O x_2)) ∧
  ((((0 : @Nat) = (0 : @Nat)) ∧
  (((0 : @Int) = (0 : @Int)) ∧
  ((((5 : @Int) = (5 : @Int)) ∧
  (((@ByteArray.mk (@List.toArray @UInt8 (@List.map @Nat @UInt8 @UInt8.ofNat (@List.nil @Nat)))) = (@ByteArray.mk (@List.toArray @UInt8 (@List.map @Nat @UInt8 @UInt8.ofNat (@List.nil @Nat))))) ∧
  (((@ByteArray.mk (@List.toArray @UInt8 (@List.map @Nat @UInt8 @UInt8.ofNat (@List.nil @Nat)))) = (@ByteArray.mk (@List.toArray @UInt8 (@List.map @Nat @UInt8 @UInt8.ofNat (@List.nil @Nat))))) ∧
  (((@ByteArray.mk (@List.toArray @UInt8 (@List.map @Nat @UInt8 @UInt8.ofNat (@List.nil @Nat)))) = (@ByteArray.mk (@List.toArray @UInt8 (@List.map @Nat @UInt8 @UInt8.ofNat (@List.nil @Nat))))) ∧
  (((Value.slice (@Option.none @Addr) (0 : @Nat) (0 : @Nat)) = (Value.slice (@Option.none @Addr) (0 : @Nat) (0 : @Nat))) ∧
  (((1 : @Int) = (1 : @Int)) ∧
  (((1 : @Int) = (1 : @Int)) ∧
  (((@ByteArray.mk (@List.toArray @UInt8 (@List.map @Nat @UInt8 @UInt8.ofNat (@List.nil @Nat)))) = (@ByteArray.mk (@List.toArray @UInt8 (@List.map @Nat @UInt8 @UInt8.ofNat (@List.nil @Nat))))) ∧
  ((@Bool.false = @Bool.false) ∧
  (((0 : @Int) = (0 : @Int)) ∧
  ((@Bool.false = @Bool.false) ∧
  (((@ByteArray.mk (@List.toArray @UInt8 (@List.map @Nat @UInt8 @UInt8.ofNat (@List.nil @Nat)))) = (@ByteArray.mk (@List.toArray @UInt8 (@List.map @Nat @UInt8 @UInt8.ofNat (@List.nil @Nat))))) ∧
  (((0 : @Int) = (0 : @Int)) ∧
  (((0 : @Int) = (0 : @Int)) ∧
  (((0 : @Int) = (0 : @Int)) ∧
  (((0 : @Int) = (0 : @Int)) ∧
  ((((0 : @Int) - (1 : @Int)) = ((0 : @Int) - (1 : @Int))) ∧
  (((0 : @Int) = (0 : @Int)) ∧
  (((0 : @Int) = (0 : @Int)) ∧
  (((Value.slice (@Option.none @Addr) (0 : @Nat) (0 : @Nat)) = (Value.slice (@Option.none @Addr) (0 : @Nat) (0 : @Nat))) ∧
  (((0 : @Int) = (0 : @Int)) ∧
  (((Value.slice (@Option.none @Addr) (0 : @Nat) (0 : @Nat)) = (Value.slice (@Option.none @Addr) (0 : @Nat) (0 : @Nat))) ∧
  (((0 : @Int) = (0 : @Int)) ∧
  ((@Bool.false = @Bool.false) ∧
  (((@ByteArray.mk (@List.toArray @UInt8 (@List.map @Nat @UInt8 @UInt8.ofNat (@List.nil @Nat)))) = (@ByteArray.mk (@List.toArray @UInt8 (@List.map @Nat @UInt8 @UInt8.ofNat (@List.nil @Nat))))) ∧
  (((Value.slice (@Option.none @Addr) (0 : @Nat) (0 : @Nat)) = (Value.slice (@Option.none @Addr) (0 : @Nat) (0 : @Nat))) ∧
  (((Value.slice (@Option.none @Addr) (0 : @Nat) (0 : @Nat)) = (Value.slice (@Option.none @Addr) (0 : @Nat) (0 : @Nat))) ∧
  (((0 : @Int) = (0 : @Int)) ∧
  True)))))))))))))))))))))))))))) ∧
  True))) ∧
  (((x_2 = y) ∧
  True) ∧
  (∀ (y_1 : @Own), ((@Hd (@isMem @sSD2M @sSD2O y_1)) → ((@I64 (3 : @Int)) ∧
  (∃ (x_3 : @Own), ((@Hd (@isMem @sSD2M @sSD2O x_3)) ∧
  ((((0 : @Nat) = (0 : @Nat)) ∧
  (((0 : @Int) = (0 : @Int)) ∧
  ((((5 : @Int) = (5 : @Int)) ∧
  (((@ByteArray.mk (@List.toArray @UInt8 (@List.map @Nat @UInt8 @UInt8.ofNat (@List.nil @Nat)))) = (@ByteArray.mk (@List.toArray @UInt8 (@List.map @Nat @UInt8 @UInt8.ofNat (@List.nil @Nat))))) ∧
  (((@ByteArray.mk (@List.toArray @UInt8 (@List.map @Nat @UInt8 @UInt8.ofNat (@List.nil @Nat)))) = (@ByteArray.mk (@List.toArray @UInt8 (@List.map @Nat @UInt8 @UInt8.ofNat (@List.nil @Nat))))) ∧
  (((@ByteArray.mk (@List.toArray @UInt8 (@List.map @Nat @UInt8 @UInt8.ofNat (@List.nil @Nat)))) = (@ByteArray.mk (@List.toArray @UInt8 (@List.map @Nat @UInt8 @UInt8.ofNat (@List.nil @Nat))))) ∧
  (((Value.slice (@Option.none @Addr) (0 : @Nat) (0 : @Nat)) = (Value.slice (@Option.none @Addr) (0 : @Nat) (0 : @Nat))) ∧
  (((2 : @Int) = (2 : @Int)) ∧
  (((1 : @Int) = (1 : @Int)) ∧
  (((@ByteArray.mk (@List.toArray @UInt8 (@List.map @Nat @UInt8 @UInt8.ofNat (@List.nil @Nat)))) = (@ByteArray.mk (@List.toArray @UInt8 (@List.map @Nat @UInt8 @UInt8.ofNat (@List.nil @Nat))))) ∧
  ((@Bool.false = @Bool.false) ∧
  (((0 : @Int) = (0 : @Int)) ∧
  ((@Bool.true = @Bool.true) ∧
  (((@ByteArray.mk (@List.toArray @UInt8 (@List.map @Nat @UInt8 @UInt8.ofNat (@List.nil @Nat)))) = (@ByteArray.mk (@List.toArray @UInt8 (@List.map @Nat @UInt8 @UInt8.ofNat (@List.nil @Nat))))) ∧
  (((1 : @Int) = (1 : @Int)) ∧
  (((1 : @Int) = (1 : @Int)) ∧
  (((2 : @Int) = (2 : @Int)) ∧
  (((0 : @Int) = (0 : @Int)) ∧
  ((((0 : @Int) - (1 : @Int)) = ((0 : @Int) - (1 : @Int))) ∧
  (((0 : @Int) = (0 : @Int)) ∧
  (((0 : @Int) = (0 : @Int)) ∧
  (((Value.slice (@Option.none @Addr) (0 : @Nat) (0 : @Nat)) = (Value.slice (@Option.none @Addr) (0 : @Nat) (0 : @Nat))) ∧
  (((0 : @Int) = (0 : @Int)) ∧
  (((Value.slice (@Option.none @Addr) (0 : @Nat) (0 : @Nat)) = (Value.slice (@Option.none @Addr) (0 : @Nat) (0 : @Nat))) ∧
  (((0 : @Int) = (0 : @Int)) ∧
  ((@Bool.false = @Bool.false) ∧
  (((@ByteArray.mk (@List.toArray @UInt8 (@List.map @Nat @UInt8 @UInt8.ofNat (@List.nil @Nat)))) = (@ByteArray.mk (@List.toArray @UInt8 (@List.map @Nat @UInt8 @UInt8.ofNat (@List.nil @Nat))))) ∧
  (((Value.slice (@Option.none @Addr) (0 : @Nat) (0 : @Nat)) = (Value.slice (@Option.none @Addr) (0 : @Nat) (0 : @Nat))) ∧
  (((Value.slice (@Option.none @Addr) (0 : @Nat) (0 : @Nat)) = (Value.slice (@Option.none @Addr) (0 : @Nat) (0 : @Nat))) ∧
  (((0 : @Int) = (0 : @Int)) ∧
  True)))))))))))))))))))))))))))) ∧
  True))) ∧
  (((x_3 = y_1) ∧
  True) ∧
  (∀ (y_2 : @Own), ((@Hd (@isMem @sSD3M @sSD3O y_2)) → ((@I64 (4 : @Int)) ∧
  (∃ (x_4 : @Own), ((@Hd (@isMem @sSD3M @sSD3O x_4)) ∧
  ((((0 : @Nat) = (0 : @Nat)) ∧
  (((0 : @Int) = (0 : @Int)) ∧
  ((((5 : @Int) = (5 : @Int)) ∧
  (((@ByteArray.mk (@List.toArray @UInt8 (@List.map @Nat @UInt8 @UInt8.ofNat (@List.nil @Nat)))) = (@ByteArray.mk (@List.toArray @UInt8 (@List.map @Nat @UInt8 @UInt8.ofNat (@List.nil @Nat))))) ∧
  (((@ByteArray.mk (@List.toArray @UInt8 (@List.map @Nat @UInt8 @UInt8.ofNat (@List.nil @Nat)))) = (@ByteArray.mk (@List.toArray @UInt8 (@List.map @Nat @UInt8 @UInt8.ofNat (@List.nil @Nat))))) ∧
  (((@ByteArray.mk (@List.toArray @UInt8 (@List.map @Nat @UInt8 @UInt8.ofNat (@List.nil @Nat)))) = (@ByteArray.mk (@List.toArray @UInt8 (@List.map @Nat @UInt8 @UInt8.ofNat (@List.nil @Nat))))) ∧
  (((Value.slice (@Option.none @Addr) (0 : @Nat) (0 : @Nat)) = (Value.slice (@Option.none @Addr) (0 : @Nat) (0 : @Nat))) ∧
  (((3 : @Int) = (3 : @Int)) ∧
  (((1 : @Int) = (1 : @Int)) ∧
  (((@ByteArray.mk (@List.toArray @UInt8 (@List.map @Nat @UInt8 @UInt8.ofNat (@List.nil @Nat)))) = (@ByteArray.mk (@List.toArray @UInt8 (@List.map @Nat @UInt8 @UInt8.ofNat (@List.nil @Nat))))) ∧
  ((@Bool.false = @Bool.false) ∧
  (((0 : @Int) = (0 : @Int)) ∧
  ((@Bool.true = @Bool.true) ∧
  (((@ByteArray.mk (@List.toArray @UInt8 (@List.map @Nat @UInt8 @UInt8.ofNat (@List.nil @Nat)))) = (@ByteArray.mk (@List.toArray @UInt8 (@List.map @Nat @UInt8 @UInt8.ofNat (@List.nil @Nat))))) ∧
  (((1 : @Int) = (1 : @Int)) ∧
  (((1 : @Int) = (1 : @Int)) ∧
  (((2 : @Int) = (2 : @Int)) ∧
  (((0 : @Int) = (0 : @Int)) ∧
  ((((0 : @Int) - (1 : @Int)) = ((0 : @Int) - (1 : @Int))) ∧
  (((0 : @Int) = (0 : @Int)) ∧
  (((1 : @Int) = (1 : @Int)) ∧
  (((Value.slice (@Option.none @Addr) (0 : @Nat) (0 : @Nat)) = (Value.slice (@Option.none @Addr) (0 : @Nat) (0 : @Nat))) ∧
  (((0 : @Int) = (0 : @Int)) ∧
  (((Value.slice (@Option.none @Addr) (0 : @Nat) (0 : @Nat)) = (Value.slice (@Option.none @Addr) (0 : @Nat) (0 : @Nat))) ∧
  (((0 : @Int) = (0 : @Int)) ∧
  ((@Bool.false = @Bool.false) ∧
  (((@ByteArray.mk (@List.toArray @UInt8 (@List.map @Nat @UInt8 @UInt8.ofNat [(120 : @Nat)]))) = (@ByteArray.mk (@List.toArray @UInt8 (@List.map @Nat @UInt8 @UInt8.ofNat [(120 : @Nat)])))) ∧
  (((Value.slice (@Option.none @Addr) (0 : @Nat) (0 : @Nat)) = (Value.slice (@Option.none @Addr) (0 : @Nat) (0 : @Nat))) ∧
  (((Value.slice (@Option.none @Addr) (0 : @Nat) (0 : @Nat)) = (Value.slice (@Option.none @Addr) (0 : @Nat) (0 : @Nat))) ∧
  (((0 : @Int) = (0 : @Int)) ∧
  True)))))))))))))))))))))))))))) ∧
  True))) ∧
  (((x_4 = y_2) ∧
  True) ∧
  (∀ (y_3 : @Own), ((@Hd (@isMem @sSD4M @sSD4O y_3)) → ((@I64 (5 : @Int)) ∧
  (∃ (x_5 : @Own), ((@Hd (@isMem @sSD4M @sSD4O x_5)) ∧
  ((((0 : @Nat) = (0 : @Nat)) ∧
  (((0 : @Int) = (0 : @Int)) ∧
  ((((5 : @Int) = (5 : @Int)) ∧
  (((@ByteArray.mk (@List.toArray @UInt8 (@List.map @Nat @UInt8 @UInt8.ofNat (@List.nil @Nat)))) = (@ByteArray.mk (@List.toArray @UInt8 (@List.map @Nat @UInt8 @UInt8.ofNat (@List.nil @Nat))))) ∧
  (((@ByteArray.mk (@List.toArray @UInt8 (@List.map @Nat @UInt8 @UInt8.ofNat (@List.nil @Nat)))) = (@ByteArray.mk (@List.toArray @UInt8 (@List.map @Nat @UInt8 @UInt8.ofNat (@List.nil @Nat))))) ∧
  (((@ByteArray.mk (@List.toArray @UInt8 (@List.map @Nat @UInt8 @UInt8.ofNat (@List.nil @Nat)))) = (@ByteArray.mk (@List.toArray @UInt8 (@List.map @Nat @UInt8 @UInt8.ofNat (@List.nil @Nat))))) ∧
  (((Value.slice (@Option.none @Addr) (0 : @Nat) (0 : @Nat)) = (Value.slice (@Option.none @Addr) (0 : @Nat) (0 : @Nat))) ∧
  (((4 : @Int) = (4 : @Int)) ∧
  (((1 : @Int) = (1 : @Int)) ∧
  (((@ByteArray.mk (@List.toArray @UInt8 (@List.map @Nat @UInt8 @UInt8.ofNat (@List.nil @Nat)))) = (@ByteArray.mk (@List.toArray @UInt8 (@List.map @Nat @UInt8 @UInt8.ofNat (@List.nil @Nat))))) ∧
  ((@Bool.false = @Bool.false) ∧
  (((0 : @Int) = (0 : @Int)) ∧
  ((@Bool.true = @Bool.true) ∧
  (((@ByteArray.mk (@List.toArray @UInt8 (@List.map @Nat @UInt8 @UInt8.ofNat (@List.nil @Nat)))) = (@ByteArray.mk (@List.toArray @UInt8 (@List.map @Nat @UInt8 @UInt8.ofNat (@List.nil @Nat))))) ∧
  (((1 : @Int) = (1 : @Int)) ∧
  (((1 : @Int) = (1 : @Int)) ∧
  (((2 : @Int) = (2 : @Int)) ∧
  (((0 : @Int) = (0 : @Int)) ∧
  (((3 : @Int) = (3 : @Int)) ∧
  (((0 : @Int) = (0 : @Int)) ∧
  (((0 : @Int) = (0 : @Int)) ∧
  (((Value.slice (@Option.none @Addr) (0 : @Nat) (0 : @Nat)) = (Value.slice (@Option.none @Addr) (0 : @Nat) (0 : @Nat))) ∧
  (((0 : @Int) = (0 : @Int)) ∧
  (((Value.slice (@Option.none @Addr) (0 : @Nat) (0 : @Nat)) = (Value.slice (@Option.none @Addr) (0 : @Nat) (0 : @Nat))) ∧
  (((0 : @Int) = (0 : @Int)) ∧
  ((@Bool.false = @Bool.false) ∧
  (((@ByteArray.mk (@List.toArray @UInt8 (@List.map @Nat @UInt8 @UInt8.ofNat [(120 : @Nat)]))) = (@ByteArray.mk (@List.toArray @UInt8 (@List.map @Nat @UInt8 @UInt8.ofNat [(120 : @Nat)])))) ∧
  (((Value.slice (@Option.none @Addr) (0 : @Nat) (0 : @Nat)) = (Value.slice (@Option.none @Addr) (0 : @Nat) (0 : @Nat))) ∧
  (((Value.slice (@Option.none @Addr) (0 : @Nat) (0 : @Nat)) = (Value.slice (@Option.none @Addr) (0 : @Nat) (0 : @Nat))) ∧
  (((0 : @Int) = (0 : @Int)) ∧
  True)))))))))))))))))))))))))))) ∧
  True))) ∧
  (((x_5 = y_3) ∧
  True) ∧
  (∀ (y_4 : @Own), ((@Hd (@isMem @sSD5M @sSD5O y_4)) → ((@I64 (6 : @Int)) ∧
  (∃ (x_6 : @Own), ((@Hd (@isMem @sSD5M @sSD5O x_6)) ∧
  ((((0 : @Nat) = (0 : @Nat)) ∧
  (((0 : @Int) = (0 : @Int)) ∧
  ((((5 : @Int) = (5 : @Int)) ∧
  (((@ByteArray.mk (@List.toArray @UInt8 (@List.map @Nat @UInt8 @UInt8.ofNat (@List.nil @Nat)))) = (@ByteArray.mk (@List.toArray @UInt8 (@List.map @Nat @UInt8 @UInt8.ofNat (@List.nil @Nat))))) ∧
  (((@ByteArray.mk (@List.toArray @UInt8 (@List.map @Nat @UInt8 @UInt8.ofNat (@List.nil @Nat)))) = (@ByteArray.mk (@List.toArray @UInt8 (@List.map @Nat @UInt8 @UInt8.ofNat (@List.nil @Nat))))) ∧
  (((@ByteArray.mk (@List.toArray @UInt8 (@List.map @Nat @UInt8 @UInt8.ofNat (@List.nil @Nat)))) = (@ByteArray.mk (@List.toArray @UInt8 (@List.map @Nat @UInt8 @UInt8.ofNat (@List.nil @Nat))))) ∧
  (((Value.slice (@Option.none @Addr) (0 : @Nat) (0 : @Nat)) = (Value.slice (@Option.none @Addr) (0 : @Nat) (0 : @Nat))) ∧
  (((5 : @Int) = (5 : @Int)) ∧
  (((1 : @Int) = (1 : @Int)) ∧
  (((@ByteArray.mk (@List.toArray @UInt8 (@List.map @Nat @UInt8 @UInt8.ofNat (@List.nil @Nat)))) = (@ByteArray.mk (@List.toArray @UInt8 (@List.map @Nat @UInt8 @UInt8.ofNat (@List.nil @Nat))))) ∧
  ((@Bool.false = @Bool.false) ∧
  (((0 : @Int) = (0 : @Int)) ∧
  ((@Bool.true = @Bool.true) ∧
  (((@ByteArray.mk (@List.toArray @UInt8 (@List.map @Nat @UInt8 @UInt8.ofNat (@List.nil @Nat)))) = (@ByteArray.mk (@List.toArray @UInt8 (@List.map @Nat @UInt8 @UInt8.ofNat (@List.nil @Nat))))) ∧
  (((1 : @Int) = (1 : @Int)) ∧
  (((1 : @Int) = (1 : @Int)) ∧
  (((2 : @Int) = (2 : @Int)) ∧
  (((0 : @Int) = (0 : @Int)) ∧
  (((3 : @Int) = (3 : @Int)) ∧
  (((0 : @Int) = (0 : @Int)) ∧
  (((0 : @Int) = (0 : @Int)) ∧
  (((Value.slice (@Option.none @Addr) (0 : @Nat) (0 : @Nat)) = (Value.slice (@Option.none @Addr) (0 : @Nat) (0 : @Nat))) ∧
  (((0 : @Int) = (0 : @Int)) ∧
  (((Value.slice (@Option.none @Addr) (0 : @Nat) (0 : @Nat)) = (Value.slice (@Option.none @Addr) (0 : @Nat) (0 : @Nat))) ∧
  (((0 : @Int) = (0 : @Int)) ∧
  ((@Bool.false = @Bool.false) ∧
  (((@ByteArray.mk (@List.toArray @UInt8 (@List.map @Nat @UInt8 @UInt8.ofNat [(120 : @Nat)]))) = (@ByteArray.mk (@List.toArray @UInt8 (@List.map @Nat @UInt8 @UInt8.ofNat [(120 : @Nat)])))) ∧
  (((Value.slice (@Option.none @Addr) (0 : @Nat) (0 : @Nat)) = (Value.slice (@Option.none @Addr) (0 : @Nat) (0 : @Nat))) ∧
  (((Value.slice (@Option.none @Addr) (0 : @Nat) (0 : @Nat)) = (Value.slice (@Option.none @Addr) (0 : @Nat) (0 : @Nat))) ∧
  (((0 : @Int) = (0 : @Int)) ∧
  True)))))))))))))))))))))))))))) ∧
  True))) ∧
  (((x_6 = y_4) ∧
  True) ∧
  (∀ (y_5 : @Own), ((@Hd (@isMem @sSD6M @sSD6O y_5)) → ((@I64 (7 : @Int)) ∧
  (∃ (x_7 : @Own), ((@Hd (@isMem @sSD6M @sSD6O x_7)) ∧
  ((((0 : @Nat) = (0 : @Nat)) ∧
  (((0 : @Int) = (0 : @Int)) ∧
  ((((5 : @Int) = (5 : @Int)) ∧
  (((@ByteArray.mk (@List.toArray @UInt8 (@List.map @Nat @UInt8 @UInt8.ofNat (@List.nil @Nat)))) = (@ByteArray.mk (@List.toArray @UInt8 (@List.map @Nat @UInt8 @UInt8.ofNat (@List.nil @Nat))))) ∧
  (((@ByteArray.mk (@List.toArray @UInt8 (@List.map @Nat @UInt8 @UInt8.ofNat (@List.nil @Nat)))) = (@ByteArray.mk (@List.toArray @UInt8 (@List.map @Nat @UInt8 @UInt8.ofNat (@List.nil @Nat))))) ∧
  (((@ByteArray.mk (@List.toArray @UInt8 (@List.map @Nat @UInt8 @UInt8.ofNat (@List.nil @Nat)))) = (@ByteArray.mk (@List.toArray @UInt8 (@List.map @Nat @UInt8 @UInt8.ofNat (@List.nil @Nat))))) ∧
  (((Value.slice (@Option.none @Addr) (0 : @Nat) (0 : @Nat)) = (Value.slice (@Option.none @Addr) (0 : @Nat) (0 : @Nat))) ∧
  (((6 : @Int) = (6 : @Int)) ∧
  (((1 : @Int) = (1 : @Int)) ∧
  (((@ByteArray.mk (@List.toArray @UInt8 (@List.map @Nat @UInt8 @UInt8.ofNat (@List.nil @Nat)))) = (@ByteArray.mk (@List.toArray @UInt8 (@List.map @Nat @UInt8 @UInt8.ofNat (@List.nil @Nat))))) ∧
  ((@Bool.false = @Bool.false) ∧
  (((0 : @Int) = (0 : @Int)) ∧
  ((@Bool.true = @Bool.true) ∧
  (((@ByteArray.mk (@List.toArray @UInt8 (@List.map @Nat @UInt8 @UInt8.ofNat (@List.nil @Nat)))) = (@ByteArray.mk (@List.toArray @UInt8 (@List.map @Nat @UInt8 @UInt8.ofNat (@List.nil @Nat))))) ∧
  (((1 : @Int) = (1 : @Int)) ∧
  (((1 : @Int) = (1 : @Int)) ∧
  (((2 : @Int) = (2 : @Int)) ∧
  (((0 : @Int) = (0 : @Int)) ∧
  ((((0 : @Int) - (1 : @Int)) = ((0 : @Int) - (1 : @Int))) ∧
  (((0 : @Int) = (0 : @Int)) ∧
  (((0 : @Int) = (0 : @Int)) ∧
  (((Value.slice (@Option.none @Addr) (0 : @Nat) (0 : @Nat)) = (Value.slice (@Option.none @Addr) (0 : @Nat) (0 : @Nat))) ∧
  (((0 : @Int) = (0 : @Int)) ∧
  (((Value.slice (@Option.none @Addr) (0 : @Nat) (0 : @Nat)) = (Value.slice (@Option.none @Addr) (0 : @Nat) (0 : @Nat))) ∧
  (((0 : @Int) = (0 : @Int)) ∧
  ((@Bool.true = @Bool.true) ∧
  (((@ByteArray.mk (@List.toArray @UInt8 (@List.map @Nat @UInt8 @UInt8.ofNat [(120 : @Nat)]))) = (@ByteArray.mk (@List.toArray @UInt8 (@List.map @Nat @UInt8 @UInt8.ofNat [(120 : @Nat)])))) ∧
  (((Value.slice (@Option.none @Addr) (0 : @Nat) (0 : @Nat)) = (Value.slice (@Option.none @Addr) (0 : @Nat) (0 : @Nat))) ∧
  (((Value.slice (@Option.none @Addr) (0 : @Nat) (0 : @Nat)) = (Value.slice (@Option.none @Addr) (0 : @Nat) (0 : @Nat))) ∧
  (((1 : @Int) = (1 : @Int)) ∧
  True)))))))))))))))))))))))))))) ∧
  True))) ∧
  (((x_7 = y_5) ∧
  True) ∧
  (∀ (y_6 : @Own), ((@Hd (@isMem @sSD7M @sSD7O y_6)) → (∃ (y_7 : @Own), ((@Hd (@isMem @sSD7M @sSD7O y_7)) ∧
  (((((0 : @Int) = (0 : @Int)) ∧
  ((@Bool.true = @Bool.true) ∧
  (((@ByteArray.mk (@List.toArray @UInt8 (@List.map @Nat @UInt8 @UInt8.ofNat [(120 : @Nat)]))) = (@ByteArray.mk (@List.toArray @UInt8 (@List.map @Nat @UInt8 @UInt8.ofNat [(120 : @Nat)])))) ∧
  (((Value.slice (@Option.none @Addr) (0 : @Nat) (0 : @Nat)) = (Value.slice (@Option.none @Addr) (0 : @Nat) (0 : @Nat))) ∧
  (((Value.slice (@Option.none @Addr) (0 : @Nat) (0 : @Nat)) = (Value.slice (@Option.none @Addr) (0 : @Nat) (0 : @Nat))) ∧
  (((1 : @Int) = (1 : @Int)) ∧
  True)))))) ∧
  (((7 : @Int) = (7 : @Int)) ∧
  ((@Bool.true = @Bool.true) ∧
  True))) ∧
  ((y_7 = y_6) ∧
  True))))))))))))))))))))))))))))))))))))))))))))))))))))
theorem runDeqVC_ok (x : Own) : runDeqVC x = runDeqVC_wp x := by kernel_rfl
def awakeTVC_wp (x : Unit) : Prop := wpF Tryz.prog [(15, ctrT newC), (80, byI kindOf [(4, ctrT enqC), (5, ctrT deqC)])] tt noAn 400 6 32 [] (hO 0 []) (fun v _ => v = boo true)
def awakeTVC (x : Unit) : Prop :=
  (∃ (x_1 : Unit), (True ∧
  ((((10 : @Int) = (10 : @Int)) ∧
  (((1 : @Int) = (1 : @Int)) ∧
  True)) ∧
  (True ∧
  (∀ (y : @Own), ((@Hd (@isMem @sSAM @sSAO y)) → (∃ (x_2 : @Own), ((@Hd (@isMem @sSAM @sSAO x_2)) ∧
  ((((0 : @Nat) = (0 : @Nat)) ∧
  (((0 : @Int) = (0 : @Int)) ∧
  ((((4 : @Int) = (4 : @Int)) ∧
  ((@es = (@ByteArray.mk (@List.toArray @UInt8 (@List.nil @UInt8)))) ∧
  (((@ByteArray.mk (@List.toArray @UInt8 (@List.map @Nat @UInt8 @UInt8.ofNat [(120 : @Nat)]))) = (@ByteArray.mk (@List.toArray @UInt8 [(120 : @UInt8)]))) ∧
  ((@es = (@ByteArray.mk (@List.toArray @UInt8 (@List.nil @UInt8)))) ∧
  (((Value.slice (@Option.none @Addr) (0 : @Nat) (0 : @Nat)) = (Value.slice (@Option.none @Addr) (0 : @Nat) (0 : @Nat))) ∧
  True))))) ∧
  True))) ∧
  (((x_2 = y) ∧
  True) ∧
  (∀ (y_1 : @Own), ((@Hd (@isMem @sSBM @sSBO y_1)) → (∃ (x_3 : @Own), ((@Hd (@isMem @sSBM @sSBO x_3)) ∧
  ((((0 : @Nat) = (0 : @Nat)) ∧
  (((0 : @Int) = (0 : @Int)) ∧
  ((((5 : @Int) = (5 : @Int)) ∧
  ((@es = (@ByteArray.mk (@List.toArray @UInt8 (@List.nil @UInt8)))) ∧
  ((@es = (@ByteArray.mk (@List.toArray @UInt8 (@List.nil @UInt8)))) ∧
  ((@es = (@ByteArray.mk (@List.toArray @UInt8 (@List.nil @UInt8)))) ∧
  (((Value.slice (@Option.none @Addr) (0 : @Nat) (0 : @Nat)) = (Value.slice (@Option.none @Addr) (0 : @Nat) (0 : @Nat))) ∧
  True))))) ∧
  True))) ∧
  (((x_3 = y_1) ∧
  True) ∧
  (∀ (y_2 : @Own), ((@Hd (@isMem @sSD7M @sSD7O y_2)) → ((AV.lit (Value.bool @Bool.true)) = (AV.lit (Value.bool @Bool.true)))))))))))))))))))))
theorem awakeTVC_ok (x : Unit) : awakeTVC x = awakeTVC_wp x := by kernel_rfl
end Go.Proofs.YtnlpcbdmllpddaaGreat
end
section
/- Tail's awake. -/
namespace Go.Proofs.YtnlpcbdmllpddaaGreat
open Go SE
theorem runDeqVC_true (x : Own) (hx : Hd (isMem sSBM sSBO x)) : runDeqVC x := by
  unfold runDeqVC
  simp +contextual [hx, es, I64]
theorem deq_ok : CtrOk Tryz.prog 80 deqC := ctr_endL tt_ok mixed (.cons (byT_ok deqL_ok) .nil) (C := deqC) (fun _ => noAn) 400 6 (fun _ => rfl) (fun _ => ⟨fun _ => rfl, trivial⟩) fun x hx => Eq.mp (runDeqVC_ok x) (runDeqVC_true x hx)
theorem awakeTVC_true : awakeTVC () := by
  unfold awakeTVC
  simp +contextual [es]
theorem awakeT_sp : Sp Tryz.prog 32 [] (hO 0 []) (fun v _ => v = .lit (.bool true)) :=
  wpF_ok tt_ok mixed (.cons (ctrT_ok new_ok) (.cons (byT_ok (l := [(4, _), (5, _)]) ⟨ctrT_ok enq_ok, ctrT_ok deq_ok, trivial⟩) .nil)) noAn 400 6 _ _ _ _ (Eq.mp (awakeTVC_ok ()) awakeTVC_true)
end Go.Proofs.YtnlpcbdmllpddaaGreat
end
section
/- TailNone: the call. -/
namespace Go.Proofs.YtnlpcbdmllpddaaGreat
open Go SE
theorem tNoneVC_true (c : Cll) (t : Int) : tNoneVC c t := by
  unfold tNoneVC
  simp only [hd_iff, and_true, true_and, Nat.zero_add, Nat.add_zero, unit_ex, unit_all, true_implies, implies_true, Int.toNat_natCast, eq_self, and_self]
  refine ⟨c, ⟨rfl, rfl, rfl, rfl, rfl⟩, ⟨rfl, fun _ _ => rfl⟩, fun y hy => cP_intro (fun h => trivial) (fun h => ?_)⟩
  have hs : c.small := hy (by have := of_decide_eq_false h; omega)
  refine ⟨c, hs, ⟨rfl, rfl, rfl, rfl, rfl⟩, ⟨rfl, fun _ _ => rfl⟩, ?_, ?_⟩
  · refine ⟨c, ⟨rfl, rfl, rfl, rfl⟩, fun m hm => ?_⟩
    refine ⟨(t, c), ⟨rfl, rfl, rfl, rfl, rfl⟩, c, ⟨⟨rfl, rfl, rfl, rfl⟩, rfl, rfl, rfl, rfl⟩, cP_intro (fun _ => trivial) (fun k4 => cP_intro (fun _ => trivial) (fun k5 => ?_))⟩
    have hk : isT c.kind := ⟨by simpa using k4, by simpa using k5⟩
    exact ⟨(m, c), hk, ⟨rfl, rfl, rfl, rfl⟩, rfl, c, ⟨rfl, rfl, rfl, rfl⟩, rfl, rfl, rfl, rfl⟩
  · intro h1
    refine ⟨c, ⟨hs, h1⟩, ⟨rfl, rfl, rfl, rfl, rfl⟩, ⟨rfl, fun _ _ => rfl⟩, fun p m hm => ?_⟩
    refine ⟨(t, ⟨c, p⟩), ⟨hs, h1⟩, ⟨rfl, rfl, rfl, rfl, rfl, rfl⟩, ⟨rfl, fun _ _ => rfl⟩, fun p1 => ⟨⟨c, p1, p⟩, ⟨hs, h1⟩, ⟨⟨rfl, rfl, rfl, rfl, rfl⟩, rfl, rfl, rfl, rfl, rfl⟩, ⟨⟨rfl, fun _ _ => rfl⟩, rfl, fun _ _ => rfl⟩, cP_intro (fun _ => trivial) (fun k4 => cP_intro (fun _ => trivial) (fun k5 => ?_))⟩⟩
    have hk : isT c.kind := ⟨by simpa using k4, by simpa using k5⟩
    exact ⟨(m, ⟨c, p⟩), ⟨⟨hs, h1⟩, hk⟩, ⟨rfl, rfl, rfl, rfl, rfl⟩, ⟨rfl, rfl, fun _ _ => rfl⟩, fun p2 => ⟨⟨c, p2, p⟩, ⟨hs, h1⟩, ⟨⟨rfl, rfl, rfl, rfl, rfl⟩, rfl, rfl, rfl, rfl, rfl⟩, ⟨rfl, fun _ _ => rfl⟩, rfl, fun _ _ => rfl⟩⟩
theorem tNone_sp (c : Cll) (t : Int) : Sp Tryz.prog 5 [i64 t, c.av 0] (hO 1 c.os) (fun v _ => v = boo true) :=
  wpF_ok tt_ok mixed (tblN_ok (.cons (stepT_ok tStW_ok tStN_ok tSaW_ok tSaN_ok) (.cons (ctrT_ok (say_ok awakeT_sp)) .nil))) noAn 400 6 _ _ _ _ (Eq.mp (tNoneVC_ok c t) (tNoneVC_true c t))
end Go.Proofs.YtnlpcbdmllpddaaGreat
end
section
/- A call that came in, opened. -/
namespace Go.Proofs.YtnlpcbdmllpddaaGreat
open Go SE
open Go.ChangeShapes Go.WideShapes Go.ChangeAt Go.RowKit
theorem own : ownKnob Tryz.prog.godebug = none := by kernel_rfl
theorem laidOut : laidOutB Tryz.prog = true := by kernel_rfl
theorem cells3 : Tryz.prog.cellsOf 3 = 1 := by kernel_rfl
theorem cells9 : Tryz.prog.cellsOf 9 = 1 := by kernel_rfl
theorem cells26 : Tryz.prog.cellsOf 22 = 1 := by kernel_rfl
theorem cells28 : Tryz.prog.cellsOf 24 = 5 := by kernel_rfl
theorem ct28 : Tryz.prog.cellTypes Tryz.prog.depth 24 = some [3, 9, 9, 9, 22] := by kernel_rfl
set_option maxRecDepth 20000 in
theorem trod_call {H : Type} {enc : TypeId × Value → H} {w : World} {base : Nat} {spare : Nat → Bool} {held : Bool} {fuel : Nat} {cs : List Value} {x : DataW H × List MemPlace} (h : DataW.trod enc Tryz.prog w base spare held fuel 24 cs = some x) :
    ∃ l : Mem, cs = l.cells ∧ ∃ fuel' y, DataW.trod enc Tryz.prog w base spare held fuel' 22 [.slice l.gp l.gn l.gc] = some y := by
  obtain ⟨hl, hf⟩ := trod_struct Tryz.underlying24 h
  rw [cells28] at hl
  match cs, hl with
  | [c0, c1, c2, c3, c4], _ =>
    simp only [List.forall_mem_cons, cells3, cells9, cells26, List.drop_zero, List.take_succ_cons, List.take_zero, List.drop_succ_cons] at hf
    obtain ⟨⟨_, _, h0⟩, ⟨_, _, h1⟩, ⟨_, _, h2⟩, ⟨_, _, h3⟩, ⟨_, _, h4⟩, _⟩ := hf
    obtain ⟨n0, e0, _⟩ := DataW.trod_int Tryz.underlying3 h0
    obtain ⟨s1, e1, _⟩ := DataW.trod_string Tryz.underlying9 h1
    obtain ⟨s2, e2, _⟩ := DataW.trod_string Tryz.underlying9 h2
    obtain ⟨s3, e3, _⟩ := DataW.trod_string Tryz.underlying9 h3
    simp only [List.cons.injEq, and_true] at e0 e1 e2 e3
    subst e0 e1 e2 e3
    rcases trod_slice Tryz.underlying22 h4 with e4 | ⟨a, len, cap, e4, _⟩
    · simp only [List.cons.injEq, and_true] at e4
      subst e4
      exact ⟨⟨n0, s1, s2, s3, none, 0, 0⟩, rfl, _, _, h4⟩
    · simp only [List.cons.injEq, and_true] at e4
      subst e4
      exact ⟨⟨n0, s1, s2, s3, some a, len, cap⟩, rfl, _, _, h4⟩
set_option maxRecDepth 20000 in
theorem open_call {H : Type} {enc : TypeId × Value → H} {W : World} {v : Value} {d : DataW H} {ps : List MemPlace} (hok : Value.okWide Tryz.prog W .any 0 24 v) (h : DataW.Trod enc Tryz.prog W 0 (fun _ => true) true 24 v d ps) :
    ∃ (s : Cll) (a : SE.Loc), (∀ (ρ : Ren) (i : Nat), ρ i = some a → VRel ρ (s.av i) v) ∧ ∀ (ρ : Ren) (S : Nat → Prop), OHolds ρ W (fun b => W.heap.size ≤ b) a S (.ro (rowG s)) := by
  obtain ⟨fuel, h⟩ := h
  unfold Value.okWide at hok
  simp only [Tryz.underlying24] at hok
  obtain ⟨cs, rfl, _, hr⟩ := hok
  obtain ⟨l, hl, fuel', y, h4⟩ := trod_call h
  obtain ⟨L⟩ := cs
  have hl : L = l.cells := hl
  subst hl
  have k4 : Cell.okWide Tryz.prog W .any 0 22 (.slice l.gp l.gn l.gc) := row_cell hr ct28 (i := 4) rfl rfl
  obtain ⟨z, c, n, a, _, _, _, hv, ho⟩ := open_cellZ (T := fun b => W.heap.size ≤ b) (f := Mem.cells) (m := 5) ⟨0, ByteArray.empty, ByteArray.empty, ByteArray.empty, none, 0, 0⟩ (fun _ => True) (fun _ => rfl) (by omega) Tryz.underlying22 cells28 k4 h4 (fun b hb => by omega)
    (fun fuel cs y h => by obtain ⟨l, e, _⟩ := trod_call h; exact ⟨l, trivial, e⟩)
  refine ⟨⟨l.kind, l.key, l.value, l.to, c, n⟩, a, fun ρ i hi => ?_, fun ρ S => ho ρ S⟩
  simp only [Cll.av, VRel]
  exact ⟨_, rfl, .cons rfl (.cons rfl (.cons rfl (.cons rfl (.cons (hv ρ i hi).2 .nil))))⟩
end Go.Proofs.YtnlpcbdmllpddaaGreat
end
