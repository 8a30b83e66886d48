import Derived.Test.YtnlpcbdmllpddaaGreatTsa
import Derived.Test.YtnlpcbdmllpddaaGreatTsb
import Derived.Test.YtnlpcbdmllpddaaGreatTsc
import Derived.Test.YtnlpcbdmllpddaaGreatTsd
import Derived.Test.YtnlpcbdmllpddaaGreatTse
import Derived.Test.YtnlpcbdmllpddaaGreatTsf
import Derived.Test.YtnlpcbdmllpddaaGreatTsg
import Derived.Test.YtnlpcbdmllpddaaGreatTsh
import Derived.KernelRfl
section
/- ScanNone: what is asked. -/
namespace Go.Proofs.YtnlpcbdmllpddaaGreat
open Go SE
def sNoneVC_wp (c : Cll) (t : Int) : Prop := wpF Tryz.prog (tblN ++ [(40, stepT isS), (39, ctrT sayC)]) tt noAn 400 6 8 [i64 t, c.av 0] (hO 1 c.os) (fun v _ => v = boo true)
def sNoneVC (c : Cll) (t : Int) : Prop :=
  (∃ (x : @Cll), (True ∧
  (((((@Cll.kind x) = (@Cll.kind c)) ∧
  (((@Cll.key x) = (@Cll.key c)) ∧
  (((@Cll.value x) = (@Cll.value c)) ∧
  (((@Cll.to x) = (@Cll.to c)) ∧
  ((((0 : @Nat) = (0 : @Nat)) ∧
  ((@Cll.gn x) = (@Cll.gn c))) ∧
  True))))) ∧
  (((600 : @Int) = (600 : @Int)) ∧
  True)) ∧
  (((((@Cll.gn x) = (@Cll.gn c)) ∧
  (∀ (q : @Nat), ((q < (@Cll.gn x)) → ([(Value.int @IntKind.i64 (@Mem.kind (@Cll.g x q))), (Value.string (@Mem.key (@Cll.g x q))), (Value.string (@Mem.value (@Cll.g x q))), (Value.string (@Mem.to (@Cll.g x q))), (Value.slice (@Mem.gp (@Cll.g x q)) (@Mem.gn (@Cll.g x q)) (@Mem.gc (@Cll.g x q)))] = [(Value.int @IntKind.i64 (@Mem.kind (@Cll.g c q))), (Value.string (@Mem.key (@Cll.g c q))), (Value.string (@Mem.value (@Cll.g c q))), (Value.string (@Mem.to (@Cll.g c q))), (Value.slice (@Mem.gp (@Cll.g c q)) (@Mem.gn (@Cll.g c q)) (@Mem.gc (@Cll.g c q)))])))) ∧
  True) ∧
  (∀ (y : @Int), ((@Hd ((y ≤ (600 : @Int)) → (@Cll.small x))) → (cP (decide (@GT.gt @Int @Int.instLTInt y (600 : @Int))) (∃ (x_1 : Unit), (True ∧
  (True ∧
  (True ∧
  (∀ (y_1 : Unit), (True → ((AV.lit (Value.bool @Bool.true)) = (AV.lit (Value.bool @Bool.true))))))))) (∃ (x_1 : @Cll), ((@Hd (@Cll.small x_1)) ∧
  (((((@Cll.kind x_1) = (@Cll.kind c)) ∧
  (((@Cll.key x_1) = (@Cll.key c)) ∧
  (((@Cll.value x_1) = (@Cll.value c)) ∧
  (((@Cll.to x_1) = (@Cll.to c)) ∧
  ((((0 : @Nat) = (0 : @Nat)) ∧
  ((@Cll.gn x_1) = (@Cll.gn c))) ∧
  True))))) ∧
  True) ∧
  (((((@Cll.gn x_1) = (@Cll.gn c)) ∧
  (∀ (q : @Nat), ((q < (@Cll.gn x_1)) → ([(Value.int @IntKind.i64 (@Mem.kind (@Cll.g x_1 q))), (Value.string (@Mem.key (@Cll.g x_1 q))), (Value.string (@Mem.value (@Cll.g x_1 q))), (Value.string (@Mem.to (@Cll.g x_1 q))), (Value.slice (@Mem.gp (@Cll.g x_1 q)) (@Mem.gn (@Cll.g x_1 q)) (@Mem.gc (@Cll.g x_1 q)))] = [(Value.int @IntKind.i64 (@Mem.kind (@Cll.g c q))), (Value.string (@Mem.key (@Cll.g c q))), (Value.string (@Mem.value (@Cll.g c q))), (Value.string (@Mem.to (@Cll.g c q))), (Value.slice (@Mem.gp (@Cll.g c q)) (@Mem.gn (@Cll.g c q)) (@Mem.gc (@Cll.g c q)))])))) ∧
  True) ∧
  ((∀ (y_1 : Unit), (True → (∃ (x_2 : @Cll), (True ∧
  (((((@Cll.kind x_2) = (@Cll.kind x_1)) ∧
  (((@Cll.key x_2) = (@Cll.key x_1)) ∧
  (((@Cll.value x_2) = (@Cll.value x_1)) ∧
  (((@Cll.to x_2) = (@Cll.to x_1)) ∧
  (((Value.slice (@Option.none @Addr) (0 : @Nat) (0 : @Nat)) = (Value.slice (@Option.none @Addr) (0 : @Nat) (0 : @Nat))) ∧
  True))))) ∧
  True) ∧
  (True ∧
  (∀ (y_2 : Unit), (True → (∃ (x_3 : Unit), (True ∧
  ((((10 : @Int) = (10 : @Int)) ∧
  (((1 : @Int) = (1 : @Int)) ∧
  True)) ∧
  (True ∧
  (∀ (y_3 : @Own), ((@Hd (@isMem @sSAM @sSAO y_3)) → (∃ (x_4 : (@Prod @Int @Cll)), (True ∧
  ((((Value.pointer (@Option.none @Addr)) = (Value.pointer (@Option.none @Addr))) ∧
  (((@Prod.fst @Int @Cll x_4) = t) ∧
  ((((@Cll.kind (@Prod.snd @Int @Cll x_4)) = (@Cll.kind x_2)) ∧
  (((@Cll.key (@Prod.snd @Int @Cll x_4)) = (@Cll.key x_2)) ∧
  (((@Cll.value (@Prod.snd @Int @Cll x_4)) = (@Cll.value x_2)) ∧
  (((@Cll.to (@Prod.snd @Int @Cll x_4)) = (@Cll.to x_2)) ∧
  (((Value.slice (@Option.none @Addr) (0 : @Nat) (0 : @Nat)) = (Value.slice (@Option.none @Addr) (0 : @Nat) (0 : @Nat))) ∧
  (((0 : @Int) = (0 : @Int)) ∧
  (((0 : @Int) = (0 : @Int)) ∧
  ((@es = @es) ∧
  ((@Bool.false = @Bool.false) ∧
  (((0 : @Int) = (0 : @Int)) ∧
  ((@Bool.false = @Bool.false) ∧
  ((@es = @es) ∧
  (((0 : @Int) = (0 : @Int)) ∧
  (((0 : @Int) = (0 : @Int)) ∧
  (((0 : @Int) = (0 : @Int)) ∧
  (((0 : @Int) = (0 : @Int)) ∧
  (((-(1 : @Int)) = (-(1 : @Int))) ∧
  (((0 : @Int) = (0 : @Int)) ∧
  (((0 : @Int) = (0 : @Int)) ∧
  (((Value.slice (@Option.none @Addr) (0 : @Nat) (0 : @Nat)) = (Value.slice (@Option.none @Addr) (0 : @Nat) (0 : @Nat))) ∧
  (((0 : @Int) = (0 : @Int)) ∧
  (((Value.slice (@Option.none @Addr) (0 : @Nat) (0 : @Nat)) = (Value.slice (@Option.none @Addr) (0 : @Nat) (0 : @Nat))) ∧
  (((0 : @Int) = (0 : @Int)) ∧
  ((@Bool.false = @Bool.false) ∧
  ((@es = @es) ∧
  (((Value.slice (@Option.none @Addr) (0 : @Nat) (0 : @Nat)) = (Value.slice (@Option.none @Addr) (0 : @Nat) (0 : @Nat))) ∧
  (((Value.slice (@Option.none @Addr) (0 : @Nat) (0 : @Nat)) = (Value.slice (@Option.none @Addr) (0 : @Nat) (0 : @Nat))) ∧
  (((0 : @Int) = (0 : @Int)) ∧
  True)))))))))))))))))))))))))))) ∧
  True))) ∧
  (True ∧
  (∀ (y_4 : Unit), (True → ((((AV.agg [(AV.lit (Value.int @IntKind.i64 (@Cll.kind x_2))), (AV.lit (Value.string (@Cll.key x_2))), (AV.lit (Value.string (@Cll.value x_2))), (AV.lit (Value.string (@Cll.to x_2))), (AV.lit (Value.slice (@Option.none @Addr) (0 : @Nat) (0 : @Nat))), (AV.lit (Value.int @IntKind.i64 (0 : @Int))), (AV.lit (Value.int @IntKind.u64 (0 : @Int))), (AV.lit (Value.string @es)), (AV.lit (Value.bool @Bool.false)), (AV.lit (Value.int @IntKind.i64 (0 : @Int))), (AV.lit (Value.bool @Bool.false)), (AV.lit (Value.string @es)), (AV.lit (Value.int @IntKind.u64 (0 : @Int))), (AV.lit (Value.int @IntKind.u64 (0 : @Int))), (AV.lit (Value.int @IntKind.i64 (0 : @Int))), (AV.lit (Value.int @IntKind.i64 (0 : @Int))), (AV.lit (Value.int @IntKind.i64 (-(1 : @Int)))), (AV.lit (Value.int @IntKind.i64 (0 : @Int))), (AV.lit (Value.int @IntKind.i64 (0 : @Int))), (AV.lit (Value.slice (@Option.none @Addr) (0 : @Nat) (0 : @Nat))), (AV.lit (Value.int @IntKind.i64 (0 : @Int))), (AV.lit (Value.slice (@Option.none @Addr) (0 : @Nat) (0 : @Nat))), (AV.lit (Value.int @IntKind.i64 (0 : @Int))), (AV.lit (Value.bool @Bool.false)), (AV.lit (Value.string @es)), (AV.lit (Value.slice (@Option.none @Addr) (0 : @Nat) (0 : @Nat))), (AV.lit (Value.slice (@Option.none @Addr) (0 : @Nat) (0 : @Nat))), (AV.lit (Value.int @IntKind.u64 (0 : @Int)))]) = (AV.agg [(AV.lit (Value.int @IntKind.i64 (@Cll.kind x_2))), (AV.lit (Value.string (@Cll.key x_2))), (AV.lit (Value.string (@Cll.value x_2))), (AV.lit (Value.string (@Cll.to x_2))), (AV.lit (Value.slice (@Option.none @Addr) (0 : @Nat) (0 : @Nat))), (AV.lit (Value.int @IntKind.i64 (0 : @Int))), (AV.lit (Value.int @IntKind.u64 (0 : @Int))), (AV.lit (Value.string @es)), (AV.lit (Value.bool @Bool.false)), (AV.lit (Value.int @IntKind.i64 (0 : @Int))), (AV.lit (Value.bool @Bool.false)), (AV.lit (Value.string @es)), (AV.lit (Value.int @IntKind.u64 (0 : @Int))), (AV.lit (Value.int @IntKind.u64 (0 : @Int))), (AV.lit (Value.int @IntKind.i64 (0 : @Int))), (AV.lit (Value.int @IntKind.i64 (0 : @Int))), (AV.lit (Value.int @IntKind.i64 (-(1 : @Int)))), (AV.lit (Value.int @IntKind.i64 (0 : @Int))), (AV.lit (Value.int @IntKind.i64 (0 : @Int))), (AV.lit (Value.slice (@Option.none @Addr) (0 : @Nat) (0 : @Nat))), (AV.lit (Value.int @IntKind.i64 (0 : @Int))), (AV.lit (Value.slice (@Option.none @Addr) (0 : @Nat) (0 : @Nat))), (AV.lit (Value.int @IntKind.i64 (0 : @Int))), (AV.lit (Value.bool @Bool.false)), (AV.lit (Value.string @es)), (AV.lit (Value.slice (@Option.none @Addr) (0 : @Nat) (0 : @Nat))), (AV.lit (Value.slice (@Option.none @Addr) (0 : @Nat) (0 : @Nat))), (AV.lit (Value.int @IntKind.u64 (0 : @Int)))])) ∧
  True) ∧
  (∃ (x_5 : @Cll), (True ∧
  (((((@Cll.kind x_5) = (@Cll.kind (@Prod.snd @Int @Cll x_4))) ∧
  (((@Cll.key x_5) = (@Cll.key (@Prod.snd @Int @Cll x_4))) ∧
  (((@Cll.value x_5) = (@Cll.value (@Prod.snd @Int @Cll x_4))) ∧
  (((@Cll.to x_5) = (@Cll.to (@Prod.snd @Int @Cll x_4))) ∧
  (((Value.slice (@Option.none @Addr) (0 : @Nat) (0 : @Nat)) = (Value.slice (@Option.none @Addr) (0 : @Nat) (0 : @Nat))) ∧
  (((0 : @Int) = (0 : @Int)) ∧
  (((0 : @Int) = (0 : @Int)) ∧
  ((@es = @es) ∧
  ((@Bool.false = @Bool.false) ∧
  (((0 : @Int) = (0 : @Int)) ∧
  ((@Bool.false = @Bool.false) ∧
  ((@es = @es) ∧
  (((0 : @Int) = (0 : @Int)) ∧
  (((0 : @Int) = (0 : @Int)) ∧
  (((0 : @Int) = (0 : @Int)) ∧
  (((0 : @Int) = (0 : @Int)) ∧
  (((-(1 : @Int)) = (-(1 : @Int))) ∧
  (((0 : @Int) = (0 : @Int)) ∧
  (((0 : @Int) = (0 : @Int)) ∧
  (((Value.slice (@Option.none @Addr) (0 : @Nat) (0 : @Nat)) = (Value.slice (@Option.none @Addr) (0 : @Nat) (0 : @Nat))) ∧
  (((0 : @Int) = (0 : @Int)) ∧
  (((Value.slice (@Option.none @Addr) (0 : @Nat) (0 : @Nat)) = (Value.slice (@Option.none @Addr) (0 : @Nat) (0 : @Nat))) ∧
  (((0 : @Int) = (0 : @Int)) ∧
  ((@Bool.false = @Bool.false) ∧
  ((@es = @es) ∧
  (((Value.slice (@Option.none @Addr) (0 : @Nat) (0 : @Nat)) = (Value.slice (@Option.none @Addr) (0 : @Nat) (0 : @Nat))) ∧
  (((Value.slice (@Option.none @Addr) (0 : @Nat) (0 : @Nat)) = (Value.slice (@Option.none @Addr) (0 : @Nat) (0 : @Nat))) ∧
  (((0 : @Int) = (0 : @Int)) ∧
  True)))))))))))))))))))))))))))) ∧
  ((((@Cll.kind x_5) = (@Cll.kind x_2)) ∧
  (((@Cll.key x_5) = (@Cll.key x_2)) ∧
  (((@Cll.value x_5) = (@Cll.value x_2)) ∧
  (((@Cll.to x_5) = (@Cll.to x_2)) ∧
  (((Value.slice (@Option.none @Addr) (0 : @Nat) (0 : @Nat)) = (Value.slice (@Option.none @Addr) (0 : @Nat) (0 : @Nat))) ∧
  (((0 : @Int) = (0 : @Int)) ∧
  (((0 : @Int) = (0 : @Int)) ∧
  ((@es = @es) ∧
  ((@Bool.false = @Bool.false) ∧
  (((0 : @Int) = (0 : @Int)) ∧
  ((@Bool.false = @Bool.false) ∧
  ((@es = @es) ∧
  (((0 : @Int) = (0 : @Int)) ∧
  (((0 : @Int) = (0 : @Int)) ∧
  (((0 : @Int) = (0 : @Int)) ∧
  (((0 : @Int) = (0 : @Int)) ∧
  (((-(1 : @Int)) = (-(1 : @Int))) ∧
  (((0 : @Int) = (0 : @Int)) ∧
  (((0 : @Int) = (0 : @Int)) ∧
  (((Value.slice (@Option.none @Addr) (0 : @Nat) (0 : @Nat)) = (Value.slice (@Option.none @Addr) (0 : @Nat) (0 : @Nat))) ∧
  (((0 : @Int) = (0 : @Int)) ∧
  (((Value.slice (@Option.none @Addr) (0 : @Nat) (0 : @Nat)) = (Value.slice (@Option.none @Addr) (0 : @Nat) (0 : @Nat))) ∧
  (((0 : @Int) = (0 : @Int)) ∧
  ((@Bool.false = @Bool.false) ∧
  ((@es = @es) ∧
  (((Value.slice (@Option.none @Addr) (0 : @Nat) (0 : @Nat)) = (Value.slice (@Option.none @Addr) (0 : @Nat) (0 : @Nat))) ∧
  (((Value.slice (@Option.none @Addr) (0 : @Nat) (0 : @Nat)) = (Value.slice (@Option.none @Addr) (0 : @Nat) (0 : @Nat))) ∧
  (((0 : @Int) = (0 : @Int)) ∧
  True)))))))))))))))))))))))))))) ∧
  True)) ∧
  (True ∧
  (∀ (y_5 : Unit), (True → (True ∧
  (cP (@BEq.beq @Int (@instBEqOfDecidableEq @Int @Int.instDecidableEq) (@Cll.kind c) (6 : @Int)) ((((AV.lit (Value.tuple (@List.toArray @Value (@List.nil @Value)))) = (AV.lit (Value.tuple (@List.toArray @Value (@List.nil @Value))))) ∧
  True) ∧
  (True ∧
  (∃ (x_6 : Unit), (True ∧
  (True ∧
  (True ∧
  (∀ (y_6 : Unit), (True → (True ∧
  ((AV.lit (Value.bool @Bool.true)) = (AV.lit (Value.bool @Bool.true)))))))))))) (∃ (x_6 : (@Prod @Own @Cll)), ((@Hd (@isS (@Cll.kind (@Prod.snd @Own @Cll x_6)))) ∧
  ((((0 : @Nat) = (0 : @Nat)) ∧
  (((0 : @Int) = (0 : @Int)) ∧
  ((((@Cll.kind (@Prod.snd @Own @Cll x_6)) = (@Cll.kind x_2)) ∧
  (((@Cll.key (@Prod.snd @Own @Cll x_6)) = (@Cll.key x_2)) ∧
  (((@Cll.value (@Prod.snd @Own @Cll x_6)) = (@Cll.value x_2)) ∧
  (((@Cll.to (@Prod.snd @Own @Cll x_6)) = (@Cll.to x_2)) ∧
  (((Value.slice (@Option.none @Addr) (0 : @Nat) (0 : @Nat)) = (Value.slice (@Option.none @Addr) (0 : @Nat) (0 : @Nat))) ∧
  (((0 : @Int) = (0 : @Int)) ∧
  (((0 : @Int) = (0 : @Int)) ∧
  ((@es = @es) ∧
  ((@Bool.false = @Bool.false) ∧
  (((0 : @Int) = (0 : @Int)) ∧
  ((@Bool.false = @Bool.false) ∧
  ((@es = @es) ∧
  (((0 : @Int) = (0 : @Int)) ∧
  (((0 : @Int) = (0 : @Int)) ∧
  (((0 : @Int) = (0 : @Int)) ∧
  (((0 : @Int) = (0 : @Int)) ∧
  (((-(1 : @Int)) = (-(1 : @Int))) ∧
  (((0 : @Int) = (0 : @Int)) ∧
  (((0 : @Int) = (0 : @Int)) ∧
  (((Value.slice (@Option.none @Addr) (0 : @Nat) (0 : @Nat)) = (Value.slice (@Option.none @Addr) (0 : @Nat) (0 : @Nat))) ∧
  (((0 : @Int) = (0 : @Int)) ∧
  (((Value.slice (@Option.none @Addr) (0 : @Nat) (0 : @Nat)) = (Value.slice (@Option.none @Addr) (0 : @Nat) (0 : @Nat))) ∧
  (((0 : @Int) = (0 : @Int)) ∧
  ((@Bool.false = @Bool.false) ∧
  ((@es = @es) ∧
  (((Value.slice (@Option.none @Addr) (0 : @Nat) (0 : @Nat)) = (Value.slice (@Option.none @Addr) (0 : @Nat) (0 : @Nat))) ∧
  (((Value.slice (@Option.none @Addr) (0 : @Nat) (0 : @Nat)) = (Value.slice (@Option.none @Addr) (0 : @Nat) (0 : @Nat))) ∧
  (((0 : @Int) = (0 : @Int)) ∧
  True)))))))))))))))))))))))))))) ∧
  True))) ∧
  ((((@Prod.fst @Own @Cll x_6) = y_3) ∧
  True) ∧
  (∀ (y_6 : Unit), (True → ((((AV.agg [(AV.lit (Value.int @IntKind.i64 (@Cll.kind x_2))), (AV.lit (Value.string (@Cll.key x_2))), (AV.lit (Value.string (@Cll.value x_2))), (AV.lit (Value.string (@Cll.to x_2))), (AV.lit (Value.slice (@Option.none @Addr) (0 : @Nat) (0 : @Nat))), (AV.lit (Value.int @IntKind.i64 (0 : @Int))), (AV.lit (Value.int @IntKind.u64 (0 : @Int))), (AV.lit (Value.string @es)), (AV.lit (Value.bool @Bool.false)), (AV.lit (Value.int @IntKind.i64 (0 : @Int))), (AV.lit (Value.bool @Bool.false)), (AV.lit (Value.string @es)), (AV.lit (Value.int @IntKind.u64 (0 : @Int))), (AV.lit (Value.int @IntKind.u64 (0 : @Int))), (AV.lit (Value.int @IntKind.i64 (0 : @Int))), (AV.lit (Value.int @IntKind.i64 (0 : @Int))), (AV.lit (Value.int @IntKind.i64 (-(1 : @Int)))), (AV.lit (Value.int @IntKind.i64 (0 : @Int))), (AV.lit (Value.int @IntKind.i64 (0 : @Int))), (AV.lit (Value.slice (@Option.none @Addr) (0 : @Nat) (0 : @Nat))), (AV.lit (Value.int @IntKind.i64 (0 : @Int))), (AV.lit (Value.slice (@Option.none @Addr) (0 : @Nat) (0 : @Nat))), (AV.lit (Value.int @IntKind.i64 (0 : @Int))), (AV.lit (Value.bool @Bool.false)), (AV.lit (Value.string @es)), (AV.lit (Value.slice (@Option.none @Addr) (0 : @Nat) (0 : @Nat))), (AV.lit (Value.slice (@Option.none @Addr) (0 : @Nat) (0 : @Nat))), (AV.lit (Value.int @IntKind.u64 (0 : @Int)))]) = (AV.agg [(AV.lit (Value.int @IntKind.i64 (@Cll.kind x_2))), (AV.lit (Value.string (@Cll.key x_2))), (AV.lit (Value.string (@Cll.value x_2))), (AV.lit (Value.string (@Cll.to x_2))), (AV.lit (Value.slice (@Option.none @Addr) (0 : @Nat) (0 : @Nat))), (AV.lit (Value.int @IntKind.i64 (0 : @Int))), (AV.lit (Value.int @IntKind.u64 (0 : @Int))), (AV.lit (Value.string @es)), (AV.lit (Value.bool @Bool.false)), (AV.lit (Value.int @IntKind.i64 (0 : @Int))), (AV.lit (Value.bool @Bool.false)), (AV.lit (Value.string @es)), (AV.lit (Value.int @IntKind.u64 (0 : @Int))), (AV.lit (Value.int @IntKind.u64 (0 : @Int))), (AV.lit (Value.int @IntKind.i64 (0 : @Int))), (AV.lit (Value.int @IntKind.i64 (0 : @Int))), (AV.lit (Value.int @IntKind.i64 (-(1 : @Int)))), (AV.lit (Value.int @IntKind.i64 (0 : @Int))), (AV.lit (Value.int @IntKind.i64 (0 : @Int))), (AV.lit (Value.slice (@Option.none @Addr) (0 : @Nat) (0 : @Nat))), (AV.lit (Value.int @IntKind.i64 (0 : @Int))), (AV.lit (Value.slice (@Option.none @Addr) (0 : @Nat) (0 : @Nat))), (AV.lit (Value.int @IntKind.i64 (0 : @Int))), (AV.lit (Value.bool @Bool.false)), (AV.lit (Value.string @es)), (AV.lit (Value.slice (@Option.none @Addr) (0 : @Nat) (0 : @Nat))), (AV.lit (Value.slice (@Option.none @Addr) (0 : @Nat) (0 : @Nat))), (AV.lit (Value.int @IntKind.u64 (0 : @Int)))])) ∧
  True) ∧
  (∃ (x_7 : @Cll), (True ∧
  (((((@Cll.kind x_7) = (@Cll.kind (@Prod.snd @Own @Cll x_6))) ∧
  (((@Cll.key x_7) = (@Cll.key (@Prod.snd @Own @Cll x_6))) ∧
  (((@Cll.value x_7) = (@Cll.value (@Prod.snd @Own @Cll x_6))) ∧
  (((@Cll.to x_7) = (@Cll.to (@Prod.snd @Own @Cll x_6))) ∧
  (((Value.slice (@Option.none @Addr) (0 : @Nat) (0 : @Nat)) = (Value.slice (@Option.none @Addr) (0 : @Nat) (0 : @Nat))) ∧
  (((0 : @Int) = (0 : @Int)) ∧
  (((0 : @Int) = (0 : @Int)) ∧
  ((@es = @es) ∧
  ((@Bool.false = @Bool.false) ∧
  (((0 : @Int) = (0 : @Int)) ∧
  ((@Bool.false = @Bool.false) ∧
  ((@es = @es) ∧
  (((0 : @Int) = (0 : @Int)) ∧
  (((0 : @Int) = (0 : @Int)) ∧
  (((0 : @Int) = (0 : @Int)) ∧
  (((0 : @Int) = (0 : @Int)) ∧
  (((-(1 : @Int)) = (-(1 : @Int))) ∧
  (((0 : @Int) = (0 : @Int)) ∧
  (((0 : @Int) = (0 : @Int)) ∧
  (((Value.slice (@Option.none @Addr) (0 : @Nat) (0 : @Nat)) = (Value.slice (@Option.none @Addr) (0 : @Nat) (0 : @Nat))) ∧
  (((0 : @Int) = (0 : @Int)) ∧
  (((Value.slice (@Option.none @Addr) (0 : @Nat) (0 : @Nat)) = (Value.slice (@Option.none @Addr) (0 : @Nat) (0 : @Nat))) ∧
  (((0 : @Int) = (0 : @Int)) ∧
  ((@Bool.false = @Bool.false) ∧
  ((@es = @es) ∧
  (((Value.slice (@Option.none @Addr) (0 : @Nat) (0 : @Nat)) = (Value.slice (@Option.none @Addr) (0 : @Nat) (0 : @Nat))) ∧
  (((Value.slice (@Option.none @Addr) (0 : @Nat) (0 : @Nat)) = (Value.slice (@Option.none @Addr) (0 : @Nat) (0 : @Nat))) ∧
  (((0 : @Int) = (0 : @Int)) ∧
  True)))))))))))))))))))))))))))) ∧
  ((((@Cll.kind x_7) = (@Cll.kind x_2)) ∧
  (((@Cll.key x_7) = (@Cll.key x_2)) ∧
  (((@Cll.value x_7) = (@Cll.value x_2)) ∧
  (((@Cll.to x_7) = (@Cll.to x_2)) ∧
  (((Value.slice (@Option.none @Addr) (0 : @Nat) (0 : @Nat)) = (Value.slice (@Option.none @Addr) (0 : @Nat) (0 : @Nat))) ∧
  (((0 : @Int) = (0 : @Int)) ∧
  (((0 : @Int) = (0 : @Int)) ∧
  ((@es = @es) ∧
  ((@Bool.false = @Bool.false) ∧
  (((0 : @Int) = (0 : @Int)) ∧
  ((@Bool.false = @Bool.false) ∧
  ((@es = @es) ∧
  (((0 : @Int) = (0 : @Int)) ∧
  (((0 : @Int) = (0 : @Int)) ∧
  (((0 : @Int) = (0 : @Int)) ∧
  (((0 : @Int) = (0 : @Int)) ∧
  (((-(1 : @Int)) = (-(1 : @Int))) ∧
  (((0 : @Int) = (0 : @Int)) ∧
  (((0 : @Int) = (0 : @Int)) ∧
  (((Value.slice (@Option.none @Addr) (0 : @Nat) (0 : @Nat)) = (Value.slice (@Option.none @Addr) (0 : @Nat) (0 : @Nat))) ∧
  (((0 : @Int) = (0 : @Int)) ∧
  (((Value.slice (@Option.none @Addr) (0 : @Nat) (0 : @Nat)) = (Value.slice (@Option.none @Addr) (0 : @Nat) (0 : @Nat))) ∧
  (((0 : @Int) = (0 : @Int)) ∧
  ((@Bool.false = @Bool.false) ∧
  ((@es = @es) ∧
  (((Value.slice (@Option.none @Addr) (0 : @Nat) (0 : @Nat)) = (Value.slice (@Option.none @Addr) (0 : @Nat) (0 : @Nat))) ∧
  (((Value.slice (@Option.none @Addr) (0 : @Nat) (0 : @Nat)) = (Value.slice (@Option.none @Addr) (0 : @Nat) (0 : @Nat))) ∧
  (((0 : @Int) = (0 : @Int)) ∧
  True)))))))))))))))))))))))))))) ∧
  True)) ∧
  (True ∧
  (∀ (y_7 : Unit), (True → (True ∧
  (∃ (x_8 : Unit), (True ∧
  (True ∧
  (True ∧
  (∀ (y_8 : Unit), (True → (True ∧
  ((AV.lit (Value.bool @Bool.true)) = (AV.lit (Value.bool @Bool.true))))))))))))))))))))))))))))))))))))))))))))))))))))) ∧
  (∀ (y_1 : Unit), ((@Hd ((1 : @Nat) ≤ (@Cll.gn x_1))) → (∃ (x_2 : @Cll), ((@Hd (@Cll.ok x_2)) ∧
  (((((@Cll.kind x_2) = (@Cll.kind x_1)) ∧
  (((@Cll.key x_2) = (@Cll.key x_1)) ∧
  (((@Cll.value x_2) = (@Cll.value x_1)) ∧
  (((@Cll.to x_2) = (@Cll.to x_1)) ∧
  ((((0 : @Nat) = (0 : @Nat)) ∧
  ((@Cll.gn x_2) = (@Cll.gn x_1))) ∧
  True))))) ∧
  True) ∧
  (((((@Cll.gn x_2) = (@Cll.gn x_1)) ∧
  (∀ (q : @Nat), ((q < (@Cll.gn x_2)) → ([(Value.int @IntKind.i64 (@Mem.kind (@Cll.g x_2 q))), (Value.string (@Mem.key (@Cll.g x_2 q))), (Value.string (@Mem.value (@Cll.g x_2 q))), (Value.string (@Mem.to (@Cll.g x_2 q))), (Value.slice (@Mem.gp (@Cll.g x_2 q)) (@Mem.gn (@Cll.g x_2 q)) (@Mem.gc (@Cll.g x_2 q)))] = [(Value.int @IntKind.i64 (@Mem.kind (@Cll.g x_1 q))), (Value.string (@Mem.key (@Cll.g x_1 q))), (Value.string (@Mem.value (@Cll.g x_1 q))), (Value.string (@Mem.to (@Cll.g x_1 q))), (Value.slice (@Mem.gp (@Cll.g x_1 q)) (@Mem.gn (@Cll.g x_1 q)) (@Mem.gc (@Cll.g x_1 q)))])))) ∧
  True) ∧
  (∀ (y_2 : (@Out.Y (@Ctr.X @beginWC) (@Out.mk @Cll @PS (fun (x_3 : @Cll) => (fun (x_4 : @PS) => True)) (fun (c_1 : @Cll) => (fun (x_3 : @PS) => (@Cll.frW c_1 (1 : @Nat)))) (2 : @Nat) (fun (c_1 : @Cll) => (fun (ps : @PS) => [(@roomC (@rowG c_1)), (@roomC (@rowP c_1 ps))]))))), (True → (∃ (x_3 : Unit), (True ∧
  ((((10 : @Int) = (10 : @Int)) ∧
  (((1 : @Int) = (1 : @Int)) ∧
  True)) ∧
  (True ∧
  (∀ (y_3 : @Own), ((@Hd (@isMem @sSAM @sSAO y_3)) → (∃ (x_4 : (@Prod @Int @CP)), ((@Hd (@CP.ok (@Prod.snd @Int @CP x_4))) ∧
  ((((Value.pointer (@Option.none @Addr)) = (Value.pointer (@Option.none @Addr))) ∧
  (((@Prod.fst @Int @CP x_4) = t) ∧
  ((((@Cll.kind (@CP.c (@Prod.snd @Int @CP x_4))) = (@Cll.kind x_2)) ∧
  (((@Cll.key (@CP.c (@Prod.snd @Int @CP x_4))) = (@Cll.key x_2)) ∧
  (((@Cll.value (@CP.c (@Prod.snd @Int @CP x_4))) = (@Cll.value x_2)) ∧
  (((@Cll.to (@CP.c (@Prod.snd @Int @CP x_4))) = (@Cll.to x_2)) ∧
  ((((0 : @Nat) = (0 : @Nat)) ∧
  ((@Cll.gn (@CP.c (@Prod.snd @Int @CP x_4))) = (@Cll.gn x_2))) ∧
  (((0 : @Int) = (0 : @Int)) ∧
  (((0 : @Int) = (0 : @Int)) ∧
  ((@es = @es) ∧
  ((@Bool.false = @Bool.false) ∧
  (((0 : @Int) = (0 : @Int)) ∧
  ((@Bool.false = @Bool.false) ∧
  ((@es = @es) ∧
  (((0 : @Int) = (0 : @Int)) ∧
  (((0 : @Int) = (0 : @Int)) ∧
  (((0 : @Int) = (0 : @Int)) ∧
  (((0 : @Int) = (0 : @Int)) ∧
  (((-(1 : @Int)) = (-(1 : @Int))) ∧
  (((0 : @Int) = (0 : @Int)) ∧
  (((0 : @Int) = (0 : @Int)) ∧
  (((Value.slice (@Option.none @Addr) (0 : @Nat) (0 : @Nat)) = (Value.slice (@Option.none @Addr) (0 : @Nat) (0 : @Nat))) ∧
  (((0 : @Int) = (0 : @Int)) ∧
  (((Value.slice (@Option.none @Addr) (0 : @Nat) (0 : @Nat)) = (Value.slice (@Option.none @Addr) (0 : @Nat) (0 : @Nat))) ∧
  (((0 : @Int) = (0 : @Int)) ∧
  ((@Bool.false = @Bool.false) ∧
  ((@es = @es) ∧
  (((Value.slice (@Option.none @Addr) (0 : @Nat) (0 : @Nat)) = (Value.slice (@Option.none @Addr) (0 : @Nat) (0 : @Nat))) ∧
  (((Value.slice (@Option.none @Addr) (0 : @Nat) (0 : @Nat)) = (Value.slice (@Option.none @Addr) (0 : @Nat) (0 : @Nat))) ∧
  (((0 : @Int) = (0 : @Int)) ∧
  True)))))))))))))))))))))))))))) ∧
  True))) ∧
  (((((@Cll.gn (@CP.c (@Prod.snd @Int @CP x_4))) = (@Cll.gn x_2)) ∧
  (∀ (q : @Nat), ((q < (@Cll.gn (@CP.c (@Prod.snd @Int @CP x_4)))) → ([(Value.int @IntKind.i64 (@Mem.kind (@Cll.g (@CP.c (@Prod.snd @Int @CP x_4)) q))), (Value.string (@Mem.key (@Cll.g (@CP.c (@Prod.snd @Int @CP x_4)) q))), (Value.string (@Mem.value (@Cll.g (@CP.c (@Prod.snd @Int @CP x_4)) q))), (Value.string (@Mem.to (@Cll.g (@CP.c (@Prod.snd @Int @CP x_4)) q))), (Value.slice (@CP.p (@Prod.snd @Int @CP x_4) q) (0 : @Nat) (0 : @Nat))] = [(Value.int @IntKind.i64 (@Mem.kind (@Cll.g x_2 q))), (Value.string (@Mem.key (@Cll.g x_2 q))), (Value.string (@Mem.value (@Cll.g x_2 q))), (Value.string (@Mem.to (@Cll.g x_2 q))), (Value.slice (y_2 q) (0 : @Nat) (0 : @Nat))])))) ∧
  True) ∧
  (∀ (y_4 : (@Out.Y (@Ctr.X @stW) (@Out.mk (@Prod @Int @CP) @PS (fun (x_5 : (@Prod @Int @CP)) => (fun (x_6 : @PS) => True)) (fun (x_5 : (@Prod @Int @CP)) => (fun (x_6 : @PS) => (@Cll.frW (@CP.c (@Prod.snd @Int @CP x_5)) (1 : @Nat)))) (2 : @Nat) (fun (x_5 : (@Prod @Int @CP)) => (fun (ps : @PS) => [(@roomC (@CP.cs (@Prod.snd @Int @CP x_5))), (@roomC (@rowP (@CP.c (@Prod.snd @Int @CP x_5)) ps))]))))), (True → ((((AV.agg [(AV.lit (Value.int @IntKind.i64 (@Cll.kind x_2))), (AV.lit (Value.string (@Cll.key x_2))), (AV.lit (Value.string (@Cll.value x_2))), (AV.lit (Value.string (@Cll.to x_2))), (AV.slW (3 : Nat) (0 : @Nat) (5 : @Nat) (@Cll.gn x_2)), (AV.lit (Value.int @IntKind.i64 (0 : @Int))), (AV.lit (Value.int @IntKind.u64 (0 : @Int))), (AV.lit (Value.string @es)), (AV.lit (Value.bool @Bool.false)), (AV.lit (Value.int @IntKind.i64 (0 : @Int))), (AV.lit (Value.bool @Bool.false)), (AV.lit (Value.string @es)), (AV.lit (Value.int @IntKind.u64 (0 : @Int))), (AV.lit (Value.int @IntKind.u64 (0 : @Int))), (AV.lit (Value.int @IntKind.i64 (0 : @Int))), (AV.lit (Value.int @IntKind.i64 (0 : @Int))), (AV.lit (Value.int @IntKind.i64 (-(1 : @Int)))), (AV.lit (Value.int @IntKind.i64 (0 : @Int))), (AV.lit (Value.int @IntKind.i64 (0 : @Int))), (AV.lit (Value.slice (@Option.none @Addr) (0 : @Nat) (0 : @Nat))), (AV.lit (Value.int @IntKind.i64 (0 : @Int))), (AV.lit (Value.slice (@Option.none @Addr) (0 : @Nat) (0 : @Nat))), (AV.lit (Value.int @IntKind.i64 (0 : @Int))), (AV.lit (Value.bool @Bool.false)), (AV.lit (Value.string @es)), (AV.lit (Value.slice (@Option.none @Addr) (0 : @Nat) (0 : @Nat))), (AV.lit (Value.slice (@Option.none @Addr) (0 : @Nat) (0 : @Nat))), (AV.lit (Value.int @IntKind.u64 (0 : @Int)))]) = (AV.agg [(AV.lit (Value.int @IntKind.i64 (@Cll.kind x_2))), (AV.lit (Value.string (@Cll.key x_2))), (AV.lit (Value.string (@Cll.value x_2))), (AV.lit (Value.string (@Cll.to x_2))), (AV.slW (3 : Nat) (0 : @Nat) (5 : @Nat) (@Cll.gn x_2)), (AV.lit (Value.int @IntKind.i64 (0 : @Int))), (AV.lit (Value.int @IntKind.u64 (0 : @Int))), (AV.lit (Value.string @es)), (AV.lit (Value.bool @Bool.false)), (AV.lit (Value.int @IntKind.i64 (0 : @Int))), (AV.lit (Value.bool @Bool.false)), (AV.lit (Value.string @es)), (AV.lit (Value.int @IntKind.u64 (0 : @Int))), (AV.lit (Value.int @IntKind.u64 (0 : @Int))), (AV.lit (Value.int @IntKind.i64 (0 : @Int))), (AV.lit (Value.int @IntKind.i64 (0 : @Int))), (AV.lit (Value.int @IntKind.i64 (-(1 : @Int)))), (AV.lit (Value.int @IntKind.i64 (0 : @Int))), (AV.lit (Value.int @IntKind.i64 (0 : @Int))), (AV.lit (Value.slice (@Option.none @Addr) (0 : @Nat) (0 : @Nat))), (AV.lit (Value.int @IntKind.i64 (0 : @Int))), (AV.lit (Value.slice (@Option.none @Addr) (0 : @Nat) (0 : @Nat))), (AV.lit (Value.int @IntKind.i64 (0 : @Int))), (AV.lit (Value.bool @Bool.false)), (AV.lit (Value.string @es)), (AV.lit (Value.slice (@Option.none @Addr) (0 : @Nat) (0 : @Nat))), (AV.lit (Value.slice (@Option.none @Addr) (0 : @Nat) (0 : @Nat))), (AV.lit (Value.int @IntKind.u64 (0 : @Int)))])) ∧
  True) ∧
  (∃ (x_5 : @CQ), ((@Hd (@CQ.ok x_5)) ∧
  (((((@Cll.kind (@CQ.c x_5)) = (@Cll.kind (@CP.c (@Prod.snd @Int @CP x_4)))) ∧
  (((@Cll.key (@CQ.c x_5)) = (@Cll.key (@CP.c (@Prod.snd @Int @CP x_4)))) ∧
  (((@Cll.value (@CQ.c x_5)) = (@Cll.value (@CP.c (@Prod.snd @Int @CP x_4)))) ∧
  (((@Cll.to (@CQ.c x_5)) = (@Cll.to (@CP.c (@Prod.snd @Int @CP x_4)))) ∧
  ((((0 : @Nat) = (0 : @Nat)) ∧
  ((@Cll.gn (@CQ.c x_5)) = (@Cll.gn (@CP.c (@Prod.snd @Int @CP x_4))))) ∧
  (((0 : @Int) = (0 : @Int)) ∧
  (((0 : @Int) = (0 : @Int)) ∧
  ((@es = @es) ∧
  ((@Bool.false = @Bool.false) ∧
  (((0 : @Int) = (0 : @Int)) ∧
  ((@Bool.false = @Bool.false) ∧
  ((@es = @es) ∧
  (((0 : @Int) = (0 : @Int)) ∧
  (((0 : @Int) = (0 : @Int)) ∧
  (((0 : @Int) = (0 : @Int)) ∧
  (((0 : @Int) = (0 : @Int)) ∧
  (((-(1 : @Int)) = (-(1 : @Int))) ∧
  (((0 : @Int) = (0 : @Int)) ∧
  (((0 : @Int) = (0 : @Int)) ∧
  (((Value.slice (@Option.none @Addr) (0 : @Nat) (0 : @Nat)) = (Value.slice (@Option.none @Addr) (0 : @Nat) (0 : @Nat))) ∧
  (((0 : @Int) = (0 : @Int)) ∧
  (((Value.slice (@Option.none @Addr) (0 : @Nat) (0 : @Nat)) = (Value.slice (@Option.none @Addr) (0 : @Nat) (0 : @Nat))) ∧
  (((0 : @Int) = (0 : @Int)) ∧
  ((@Bool.false = @Bool.false) ∧
  ((@es = @es) ∧
  (((Value.slice (@Option.none @Addr) (0 : @Nat) (0 : @Nat)) = (Value.slice (@Option.none @Addr) (0 : @Nat) (0 : @Nat))) ∧
  (((Value.slice (@Option.none @Addr) (0 : @Nat) (0 : @Nat)) = (Value.slice (@Option.none @Addr) (0 : @Nat) (0 : @Nat))) ∧
  (((0 : @Int) = (0 : @Int)) ∧
  True)))))))))))))))))))))))))))) ∧
  ((((@Cll.kind (@CQ.c x_5)) = (@Cll.kind x_2)) ∧
  (((@Cll.key (@CQ.c x_5)) = (@Cll.key x_2)) ∧
  (((@Cll.value (@CQ.c x_5)) = (@Cll.value x_2)) ∧
  (((@Cll.to (@CQ.c x_5)) = (@Cll.to x_2)) ∧
  ((((0 : @Nat) = (0 : @Nat)) ∧
  ((@Cll.gn (@CQ.c x_5)) = (@Cll.gn x_2))) ∧
  (((0 : @Int) = (0 : @Int)) ∧
  (((0 : @Int) = (0 : @Int)) ∧
  ((@es = @es) ∧
  ((@Bool.false = @Bool.false) ∧
  (((0 : @Int) = (0 : @Int)) ∧
  ((@Bool.false = @Bool.false) ∧
  ((@es = @es) ∧
  (((0 : @Int) = (0 : @Int)) ∧
  (((0 : @Int) = (0 : @Int)) ∧
  (((0 : @Int) = (0 : @Int)) ∧
  (((0 : @Int) = (0 : @Int)) ∧
  (((-(1 : @Int)) = (-(1 : @Int))) ∧
  (((0 : @Int) = (0 : @Int)) ∧
  (((0 : @Int) = (0 : @Int)) ∧
  (((Value.slice (@Option.none @Addr) (0 : @Nat) (0 : @Nat)) = (Value.slice (@Option.none @Addr) (0 : @Nat) (0 : @Nat))) ∧
  (((0 : @Int) = (0 : @Int)) ∧
  (((Value.slice (@Option.none @Addr) (0 : @Nat) (0 : @Nat)) = (Value.slice (@Option.none @Addr) (0 : @Nat) (0 : @Nat))) ∧
  (((0 : @Int) = (0 : @Int)) ∧
  ((@Bool.false = @Bool.false) ∧
  ((@es = @es) ∧
  (((Value.slice (@Option.none @Addr) (0 : @Nat) (0 : @Nat)) = (Value.slice (@Option.none @Addr) (0 : @Nat) (0 : @Nat))) ∧
  (((Value.slice (@Option.none @Addr) (0 : @Nat) (0 : @Nat)) = (Value.slice (@Option.none @Addr) (0 : @Nat) (0 : @Nat))) ∧
  (((0 : @Int) = (0 : @Int)) ∧
  True)))))))))))))))))))))))))))) ∧
  True)) ∧
  (((((@Cll.gn (@CQ.c x_5)) = (@Cll.gn (@CP.c (@Prod.snd @Int @CP x_4)))) ∧
  (∀ (q : @Nat), ((q < (@Cll.gn (@CQ.c x_5))) → ([(Value.int @IntKind.i64 (@Mem.kind (@Cll.g (@CQ.c x_5) q))), (Value.string (@Mem.key (@Cll.g (@CQ.c x_5) q))), (Value.string (@Mem.value (@Cll.g (@CQ.c x_5) q))), (Value.string (@Mem.to (@Cll.g (@CQ.c x_5) q))), (Value.slice (@CQ.p x_5 q) (0 : @Nat) (0 : @Nat))] = [(Value.int @IntKind.i64 (@Mem.kind (@Cll.g (@CP.c (@Prod.snd @Int @CP x_4)) q))), (Value.string (@Mem.key (@Cll.g (@CP.c (@Prod.snd @Int @CP x_4)) q))), (Value.string (@Mem.value (@Cll.g (@CP.c (@Prod.snd @Int @CP x_4)) q))), (Value.string (@Mem.to (@Cll.g (@CP.c (@Prod.snd @Int @CP x_4)) q))), (Value.slice (y_4 q) (0 : @Nat) (0 : @Nat))])))) ∧
  ((((@Cll.gn (@CQ.c x_5)) = (@Cll.gn (@CP.c (@Prod.snd @Int @CP x_4)))) ∧
  (∀ (q : @Nat), ((q < (@Cll.gn (@CQ.c x_5))) → ([(Value.int @IntKind.i64 (@Mem.kind (@Cll.g (@CQ.c x_5) q))), (Value.string (@Mem.key (@Cll.g (@CQ.c x_5) q))), (Value.string (@Mem.value (@Cll.g (@CQ.c x_5) q))), (Value.string (@Mem.to (@Cll.g (@CQ.c x_5) q))), (Value.slice (@CQ.q x_5 q) (0 : @Nat) (0 : @Nat))] = [(Value.int @IntKind.i64 (@Mem.kind (@Cll.g (@CP.c (@Prod.snd @Int @CP x_4)) q))), (Value.string (@Mem.key (@Cll.g (@CP.c (@Prod.snd @Int @CP x_4)) q))), (Value.string (@Mem.value (@Cll.g (@CP.c (@Prod.snd @Int @CP x_4)) q))), (Value.string (@Mem.to (@Cll.g (@CP.c (@Prod.snd @Int @CP x_4)) q))), (Value.slice (@CP.p (@Prod.snd @Int @CP x_4) q) (0 : @Nat) (0 : @Nat))])))) ∧
  True)) ∧
  (∀ (y_5 : Unit), (True → (True ∧
  (cP (@BEq.beq @Int (@instBEqOfDecidableEq @Int @Int.instDecidableEq) (@Cll.kind c) (6 : @Int)) ((((AV.lit (Value.tuple (@List.toArray @Value (@List.nil @Value)))) = (AV.lit (Value.tuple (@List.toArray @Value (@List.nil @Value))))) ∧
  True) ∧
  (True ∧
  (∃ (x_6 : Unit), (True ∧
  (True ∧
  (True ∧
  (∀ (y_6 : Unit), (True → (True ∧
  ((AV.lit (Value.bool @Bool.true)) = (AV.lit (Value.bool @Bool.true)))))))))))) (∃ (x_6 : (@Prod @Own @CP)), ((@Hd ((@CP.ok (@Prod.snd @Own @CP x_6)) ∧
  (@isS (@Cll.kind (@CP.c (@Prod.snd @Own @CP x_6)))))) ∧
  ((((0 : @Nat) = (0 : @Nat)) ∧
  (((0 : @Int) = (0 : @Int)) ∧
  ((((@Cll.kind (@CP.c (@Prod.snd @Own @CP x_6))) = (@Cll.kind x_2)) ∧
  (((@Cll.key (@CP.c (@Prod.snd @Own @CP x_6))) = (@Cll.key x_2)) ∧
  (((@Cll.value (@CP.c (@Prod.snd @Own @CP x_6))) = (@Cll.value x_2)) ∧
  (((@Cll.to (@CP.c (@Prod.snd @Own @CP x_6))) = (@Cll.to x_2)) ∧
  ((((0 : @Nat) = (0 : @Nat)) ∧
  ((@Cll.gn (@CP.c (@Prod.snd @Own @CP x_6))) = (@Cll.gn x_2))) ∧
  (((0 : @Int) = (0 : @Int)) ∧
  (((0 : @Int) = (0 : @Int)) ∧
  ((@es = @es) ∧
  ((@Bool.false = @Bool.false) ∧
  (((0 : @Int) = (0 : @Int)) ∧
  ((@Bool.false = @Bool.false) ∧
  ((@es = @es) ∧
  (((0 : @Int) = (0 : @Int)) ∧
  (((0 : @Int) = (0 : @Int)) ∧
  (((0 : @Int) = (0 : @Int)) ∧
  (((0 : @Int) = (0 : @Int)) ∧
  (((-(1 : @Int)) = (-(1 : @Int))) ∧
  (((0 : @Int) = (0 : @Int)) ∧
  (((0 : @Int) = (0 : @Int)) ∧
  (((Value.slice (@Option.none @Addr) (0 : @Nat) (0 : @Nat)) = (Value.slice (@Option.none @Addr) (0 : @Nat) (0 : @Nat))) ∧
  (((0 : @Int) = (0 : @Int)) ∧
  (((Value.slice (@Option.none @Addr) (0 : @Nat) (0 : @Nat)) = (Value.slice (@Option.none @Addr) (0 : @Nat) (0 : @Nat))) ∧
  (((0 : @Int) = (0 : @Int)) ∧
  ((@Bool.false = @Bool.false) ∧
  ((@es = @es) ∧
  (((Value.slice (@Option.none @Addr) (0 : @Nat) (0 : @Nat)) = (Value.slice (@Option.none @Addr) (0 : @Nat) (0 : @Nat))) ∧
  (((Value.slice (@Option.none @Addr) (0 : @Nat) (0 : @Nat)) = (Value.slice (@Option.none @Addr) (0 : @Nat) (0 : @Nat))) ∧
  (((0 : @Int) = (0 : @Int)) ∧
  True)))))))))))))))))))))))))))) ∧
  True))) ∧
  ((((@Prod.fst @Own @CP x_6) = y_3) ∧
  ((((@Cll.gn (@CP.c (@Prod.snd @Own @CP x_6))) = (@Cll.gn (@CQ.c x_5))) ∧
  (∀ (q : @Nat), ((q < (@Cll.gn (@CP.c (@Prod.snd @Own @CP x_6)))) → ([(Value.int @IntKind.i64 (@Mem.kind (@Cll.g (@CP.c (@Prod.snd @Own @CP x_6)) q))), (Value.string (@Mem.key (@Cll.g (@CP.c (@Prod.snd @Own @CP x_6)) q))), (Value.string (@Mem.value (@Cll.g (@CP.c (@Prod.snd @Own @CP x_6)) q))), (Value.string (@Mem.to (@Cll.g (@CP.c (@Prod.snd @Own @CP x_6)) q))), (Value.slice (@CP.p (@Prod.snd @Own @CP x_6) q) (0 : @Nat) (0 : @Nat))] = [(Value.int @IntKind.i64 (@Mem.kind (@Cll.g (@CQ.c x_5) q))), (Value.string (@Mem.key (@Cll.g (@CQ.c x_5) q))), (Value.string (@Mem.value (@Cll.g (@CQ.c x_5) q))), (Value.string (@Mem.to (@Cll.g (@CQ.c x_5) q))), (Value.slice (@CQ.q x_5 q) (0 : @Nat) (0 : @Nat))])))) ∧
  True)) ∧
  (∀ (y_6 : (@Out.Y (@Ctr.X (@saW @isS)) (@Out.mk (@Prod @Own @CP) @PS (fun (x_7 : (@Prod @Own @CP)) => (fun (x_8 : @PS) => True)) (fun (x_7 : (@Prod @Own @CP)) => (fun (x_8 : @PS) => (@Cll.frW (@CP.c (@Prod.snd @Own @CP x_7)) (2 : @Nat)))) (3 : @Nat) (fun (x_7 : (@Prod @Own @CP)) => (fun (ps : @PS) => [(@AObj.abs (@Prod.fst @Own @CP x_7)), (@roomC (@CP.cs (@Prod.snd @Own @CP x_7))), (@roomC (@rowP (@CP.c (@Prod.snd @Own @CP x_7)) ps))]))))), (True → ((((AV.agg [(AV.lit (Value.int @IntKind.i64 (@Cll.kind x_2))), (AV.lit (Value.string (@Cll.key x_2))), (AV.lit (Value.string (@Cll.value x_2))), (AV.lit (Value.string (@Cll.to x_2))), (AV.slW (3 : Nat) (0 : @Nat) (5 : @Nat) (@Cll.gn x_2)), (AV.lit (Value.int @IntKind.i64 (0 : @Int))), (AV.lit (Value.int @IntKind.u64 (0 : @Int))), (AV.lit (Value.string @es)), (AV.lit (Value.bool @Bool.false)), (AV.lit (Value.int @IntKind.i64 (0 : @Int))), (AV.lit (Value.bool @Bool.false)), (AV.lit (Value.string @es)), (AV.lit (Value.int @IntKind.u64 (0 : @Int))), (AV.lit (Value.int @IntKind.u64 (0 : @Int))), (AV.lit (Value.int @IntKind.i64 (0 : @Int))), (AV.lit (Value.int @IntKind.i64 (0 : @Int))), (AV.lit (Value.int @IntKind.i64 (-(1 : @Int)))), (AV.lit (Value.int @IntKind.i64 (0 : @Int))), (AV.lit (Value.int @IntKind.i64 (0 : @Int))), (AV.lit (Value.slice (@Option.none @Addr) (0 : @Nat) (0 : @Nat))), (AV.lit (Value.int @IntKind.i64 (0 : @Int))), (AV.lit (Value.slice (@Option.none @Addr) (0 : @Nat) (0 : @Nat))), (AV.lit (Value.int @IntKind.i64 (0 : @Int))), (AV.lit (Value.bool @Bool.false)), (AV.lit (Value.string @es)), (AV.lit (Value.slice (@Option.none @Addr) (0 : @Nat) (0 : @Nat))), (AV.lit (Value.slice (@Option.none @Addr) (0 : @Nat) (0 : @Nat))), (AV.lit (Value.int @IntKind.u64 (0 : @Int)))]) = (AV.agg [(AV.lit (Value.int @IntKind.i64 (@Cll.kind x_2))), (AV.lit (Value.string (@Cll.key x_2))), (AV.lit (Value.string (@Cll.value x_2))), (AV.lit (Value.string (@Cll.to x_2))), (AV.slW (3 : Nat) (0 : @Nat) (5 : @Nat) (@Cll.gn x_2)), (AV.lit (Value.int @IntKind.i64 (0 : @Int))), (AV.lit (Value.int @IntKind.u64 (0 : @Int))), (AV.lit (Value.string @es)), (AV.lit (Value.bool @Bool.false)), (AV.lit (Value.int @IntKind.i64 (0 : @Int))), (AV.lit (Value.bool @Bool.false)), (AV.lit (Value.string @es)), (AV.lit (Value.int @IntKind.u64 (0 : @Int))), (AV.lit (Value.int @IntKind.u64 (0 : @Int))), (AV.lit (Value.int @IntKind.i64 (0 : @Int))), (AV.lit (Value.int @IntKind.i64 (0 : @Int))), (AV.lit (Value.int @IntKind.i64 (-(1 : @Int)))), (AV.lit (Value.int @IntKind.i64 (0 : @Int))), (AV.lit (Value.int @IntKind.i64 (0 : @Int))), (AV.lit (Value.slice (@Option.none @Addr) (0 : @Nat) (0 : @Nat))), (AV.lit (Value.int @IntKind.i64 (0 : @Int))), (AV.lit (Value.slice (@Option.none @Addr) (0 : @Nat) (0 : @Nat))), (AV.lit (Value.int @IntKind.i64 (0 : @Int))), (AV.lit (Value.bool @Bool.false)), (AV.lit (Value.string @es)), (AV.lit (Value.slice (@Option.none @Addr) (0 : @Nat) (0 : @Nat))), (AV.lit (Value.slice (@Option.none @Addr) (0 : @Nat) (0 : @Nat))), (AV.lit (Value.int @IntKind.u64 (0 : @Int)))])) ∧
  True) ∧
  (∃ (x_7 : @CQ), ((@Hd (@CQ.ok x_7)) ∧
  (((((@Cll.kind (@CQ.c x_7)) = (@Cll.kind (@CP.c (@Prod.snd @Own @CP x_6)))) ∧
  (((@Cll.key (@CQ.c x_7)) = (@Cll.key (@CP.c (@Prod.snd @Own @CP x_6)))) ∧
  (((@Cll.value (@CQ.c x_7)) = (@Cll.value (@CP.c (@Prod.snd @Own @CP x_6)))) ∧
  (((@Cll.to (@CQ.c x_7)) = (@Cll.to (@CP.c (@Prod.snd @Own @CP x_6)))) ∧
  ((((0 : @Nat) = (0 : @Nat)) ∧
  ((@Cll.gn (@CQ.c x_7)) = (@Cll.gn (@CP.c (@Prod.snd @Own @CP x_6))))) ∧
  (((0 : @Int) = (0 : @Int)) ∧
  (((0 : @Int) = (0 : @Int)) ∧
  ((@es = @es) ∧
  ((@Bool.false = @Bool.false) ∧
  (((0 : @Int) = (0 : @Int)) ∧
  ((@Bool.false = @Bool.false) ∧
  ((@es = @es) ∧
  (((0 : @Int) = (0 : @Int)) ∧
  (((0 : @Int) = (0 : @Int)) ∧
  (((0 : @Int) = (0 : @Int)) ∧
  (((0 : @Int) = (0 : @Int)) ∧
  (((-(1 : @Int)) = (-(1 : @Int))) ∧
  (((0 : @Int) = (0 : @Int)) ∧
  (((0 : @Int) = (0 : @Int)) ∧
  (((Value.slice (@Option.none @Addr) (0 : @Nat) (0 : @Nat)) = (Value.slice (@Option.none @Addr) (0 : @Nat) (0 : @Nat))) ∧
  (((0 : @Int) = (0 : @Int)) ∧
  (((Value.slice (@Option.none @Addr) (0 : @Nat) (0 : @Nat)) = (Value.slice (@Option.none @Addr) (0 : @Nat) (0 : @Nat))) ∧
  (((0 : @Int) = (0 : @Int)) ∧
  ((@Bool.false = @Bool.false) ∧
  ((@es = @es) ∧
  (((Value.slice (@Option.none @Addr) (0 : @Nat) (0 : @Nat)) = (Value.slice (@Option.none @Addr) (0 : @Nat) (0 : @Nat))) ∧
  (((Value.slice (@Option.none @Addr) (0 : @Nat) (0 : @Nat)) = (Value.slice (@Option.none @Addr) (0 : @Nat) (0 : @Nat))) ∧
  (((0 : @Int) = (0 : @Int)) ∧
  True)))))))))))))))))))))))))))) ∧
  ((((@Cll.kind (@CQ.c x_7)) = (@Cll.kind x_2)) ∧
  (((@Cll.key (@CQ.c x_7)) = (@Cll.key x_2)) ∧
  (((@Cll.value (@CQ.c x_7)) = (@Cll.value x_2)) ∧
  (((@Cll.to (@CQ.c x_7)) = (@Cll.to x_2)) ∧
  ((((0 : @Nat) = (0 : @Nat)) ∧
  ((@Cll.gn (@CQ.c x_7)) = (@Cll.gn x_2))) ∧
  (((0 : @Int) = (0 : @Int)) ∧
  (((0 : @Int) = (0 : @Int)) ∧
  ((@es = @es) ∧
  ((@Bool.false = @Bool.false) ∧
  (((0 : @Int) = (0 : @Int)) ∧
  ((@Bool.false = @Bool.false) ∧
  ((@es = @es) ∧
  (((0 : @Int) = (0 : @Int)) ∧
  (((0 : @Int) = (0 : @Int)) ∧
  (((0 : @Int) = (0 : @Int)) ∧
  (((0 : @Int) = (0 : @Int)) ∧
  (((-(1 : @Int)) = (-(1 : @Int))) ∧
  (((0 : @Int) = (0 : @Int)) ∧
  (((0 : @Int) = (0 : @Int)) ∧
  (((Value.slice (@Option.none @Addr) (0 : @Nat) (0 : @Nat)) = (Value.slice (@Option.none @Addr) (0 : @Nat) (0 : @Nat))) ∧
  (((0 : @Int) = (0 : @Int)) ∧
  (((Value.slice (@Option.none @Addr) (0 : @Nat) (0 : @Nat)) = (Value.slice (@Option.none @Addr) (0 : @Nat) (0 : @Nat))) ∧
  (((0 : @Int) = (0 : @Int)) ∧
  ((@Bool.false = @Bool.false) ∧
  ((@es = @es) ∧
  (((Value.slice (@Option.none @Addr) (0 : @Nat) (0 : @Nat)) = (Value.slice (@Option.none @Addr) (0 : @Nat) (0 : @Nat))) ∧
  (((Value.slice (@Option.none @Addr) (0 : @Nat) (0 : @Nat)) = (Value.slice (@Option.none @Addr) (0 : @Nat) (0 : @Nat))) ∧
  (((0 : @Int) = (0 : @Int)) ∧
  True)))))))))))))))))))))))))))) ∧
  True)) ∧
  (((((@Cll.gn (@CQ.c x_7)) = (@Cll.gn (@CP.c (@Prod.snd @Own @CP x_6)))) ∧
  (∀ (q : @Nat), ((q < (@Cll.gn (@CQ.c x_7))) → ([(Value.int @IntKind.i64 (@Mem.kind (@Cll.g (@CQ.c x_7) q))), (Value.string (@Mem.key (@Cll.g (@CQ.c x_7) q))), (Value.string (@Mem.value (@Cll.g (@CQ.c x_7) q))), (Value.string (@Mem.to (@Cll.g (@CQ.c x_7) q))), (Value.slice (@CQ.p x_7 q) (0 : @Nat) (0 : @Nat))] = [(Value.int @IntKind.i64 (@Mem.kind (@Cll.g (@CP.c (@Prod.snd @Own @CP x_6)) q))), (Value.string (@Mem.key (@Cll.g (@CP.c (@Prod.snd @Own @CP x_6)) q))), (Value.string (@Mem.value (@Cll.g (@CP.c (@Prod.snd @Own @CP x_6)) q))), (Value.string (@Mem.to (@Cll.g (@CP.c (@Prod.snd @Own @CP x_6)) q))), (Value.slice (y_6 q) (0 : @Nat) (0 : @Nat))])))) ∧
  ((((@Cll.gn (@CQ.c x_7)) = (@Cll.gn (@CP.c (@Prod.snd @Own @CP x_6)))) ∧
  (∀ (q : @Nat), ((q < (@Cll.gn (@CQ.c x_7))) → ([(Value.int @IntKind.i64 (@Mem.kind (@Cll.g (@CQ.c x_7) q))), (Value.string (@Mem.key (@Cll.g (@CQ.c x_7) q))), (Value.string (@Mem.value (@Cll.g (@CQ.c x_7) q))), (Value.string (@Mem.to (@Cll.g (@CQ.c x_7) q))), (Value.slice (@CQ.q x_7 q) (0 : @Nat) (0 : @Nat))] = [(Value.int @IntKind.i64 (@Mem.kind (@Cll.g (@CP.c (@Prod.snd @Own @CP x_6)) q))), (Value.string (@Mem.key (@Cll.g (@CP.c (@Prod.snd @Own @CP x_6)) q))), (Value.string (@Mem.value (@Cll.g (@CP.c (@Prod.snd @Own @CP x_6)) q))), (Value.string (@Mem.to (@Cll.g (@CP.c (@Prod.snd @Own @CP x_6)) q))), (Value.slice (@CP.p (@Prod.snd @Own @CP x_6) q) (0 : @Nat) (0 : @Nat))])))) ∧
  True)) ∧
  (∀ (y_7 : Unit), (True → (True ∧
  (∃ (x_8 : Unit), (True ∧
  (True ∧
  (True ∧
  (∀ (y_8 : Unit), (True → (True ∧
  ((AV.lit (Value.bool @Bool.true)) = (AV.lit (Value.bool @Bool.true)))))))))))))))))))))))))))))))))))))))))))))))))))))))))))))))))
theorem sNoneVC_ok (c : Cll) (t : Int) : sNoneVC c t = sNoneVC_wp c t := by kernel_rfl
end Go.Proofs.YtnlpcbdmllpddaaGreat
end
section
/- What a closed call yields, and the memory behind it: fusee/point.Step. -/
namespace Go.Proofs.YtnlpcbdmllpddaaGreat
open Go SE
set_option maxRecDepth 100000
noncomputable section
def sSE1V : AV := (AV.agg [(i64 2), (AV.lit (Value.string (bs [97]))), (AV.lit (Value.string (bs [49]))), (AV.lit (Value.string (bs []))), (AV.lit (Value.slice none 0 0)), (i64 1), (u64 1), (AV.lit (Value.string (bs []))), (AV.lit (Value.bool false)), (i64 0), (AV.lit (Value.bool false)), (AV.lit (Value.string (bs []))), (u64 0), (u64 0), (i64 0), (i64 0), (i64 (-0 - 1)), (i64 0), (i64 0), (AV.lit (Value.slice none 0 0)), (i64 0), (AV.lit (Value.slice none 0 0)), (i64 0), (AV.lit (Value.bool false)), (AV.lit (Value.string (bs []))), (AV.lit (Value.slice none 0 0)), (AV.lit (Value.slice none 0 0)), (u64 0)])
def sSE1O : List AObj := [
(AObj.cells 117 (Cs.av [(AV.ptr 1 0), (AV.ptr 2 0), (AV.ptr 3 0), (AV.ptr 4 0), (AV.ptr 5 0), (AV.ptr 6 0), (AV.ptr 7 0), (AV.ptr 8 0), (u64 0), (u64 0), (AV.lit (Value.slice none 0 0))])),
(AObj.cells 152 (Cs.av [(AV.ptr 9 0), (AV.lit (Value.int IntKind.u32 1)), (AV.lit (Value.int IntKind.i32 0)), (AV.lit (Value.int IntKind.u32 0))])),
(AObj.cells 289 (Cs.av [(AV.sl 10 0 1 1)])),
(AObj.cells 204 (Cs.av [(u64 1), (AV.sl 11 0 1 1)])),
(AObj.cells 201 (Cs.av ([(u64 1), (u64 0), (u64 0), (AV.sl 12 0 1 1)] ++ List.replicate 516 (AV.lit (Value.bool false)) ++ [(AV.lit Value.nilFunc)]))),
(AObj.cells 247 (Cs.av [(AV.lit (Value.slice none 0 0))])),
(AObj.cells 269 (Cs.av [(AV.mp 13), (AV.mp 14), (AV.mp 15), (AV.mp 16), (AV.mp 17), (AV.mp 18), (AV.mp 19), (AV.mp 20)])),
(AObj.cells 298 (Cs.av [(AV.lit (Value.slice none 0 0)), (AV.lit (Value.slice none 0 0)), (AV.lit (Value.slice none 0 0)), (AV.lit (Value.slice none 0 0))])),
(AObj.cells 279 (Cs.av [(AV.lit (Value.slice none 0 0)), (i64 0), (i64 0)])),
(AObj.cells 218 (Cs.av [(AV.sl 21 0 10 10), (i64 2), (i64 2), (i64 1), (i64 0), (i64 0)])),
(AObj.cells 261 (Cs.tr 10 [(i64 0), (AV.lit (Value.bool false)), (AV.lit (Value.bool false)), (AV.lit (Value.bool false)), (AV.lit (Value.bool false)), (AV.lit (Value.bool false)), (AV.lit (Value.bool false)), (AV.lit (Value.bool false)), (AV.lit (Value.bool false)), (i64 0)] (PM.node PM.leaf (some (i64 (-0 - 1))) PM.leaf))),
(AObj.cells 115 (Cs.tr 1 [(u64 0)] (PM.node PM.leaf (some (u64 1)) PM.leaf))),
(AObj.cells 3 (Cs.tr 1 [(i64 0)] PM.leaf)),
(AObj.map [] 0),
(AObj.map [] 0),
(AObj.map [] 0),
(AObj.map [] 0),
(AObj.map [] 0),
(AObj.map [] 0),
(AObj.map [] 0),
(AObj.map [] 0),
(AObj.cells 253 (Cs.tr 1930 (List.replicate 192 (AV.lit (v8 0)) ++ [(AV.lit (Value.bool false))]) (N8 (N8 (N8 (N8 (N8 (N8 (N8 (N8 (L8 0) 0 (L8 0)) 0 (N8 (L8 0) 0 PM.leaf)) 0 (N8 (N8 (L8 0) 0 PM.leaf) 0 (N8 (L8 0) 0 PM.leaf))) 0 (N8 (N8 (N8 (L8 0) 0 PM.leaf) 0 (N8 (L8 0) 0 PM.leaf)) 0 (N8 (N8 (L8 0) 0 PM.leaf) 0 (N8 (L8 0) 0 PM.leaf)))) 0 (N8 (N8 (N8 (N8 (L8 0) 0 PM.leaf) 0 (N8 (L8 0) 0 PM.leaf)) 0 (N8 (N8 (L8 0) 0 PM.leaf) 0 (N8 (L8 0) 0 PM.leaf))) 0 (N8 (N8 (N8 (L8 0) 0 PM.leaf) 0 (N8 (L8 0) 0 PM.leaf)) 0 (N8 (N8 (L8 0) 0 PM.leaf) 0 (N8 (L8 0) 0 PM.leaf))))) 83 (N8 (N8 (N8 (N8 (N8 (L8 0) 83 PM.leaf) 83 (N8 (L8 0) 0 PM.leaf)) 0 (N8 (N8 (L8 0) 0 PM.leaf) 0 (N8 (L8 0) 0 PM.leaf))) 0 (N8 (N8 (N8 (L8 0) 0 PM.leaf) 0 (N8 (L8 0) 0 PM.leaf)) 0 (N8 (N8 (L8 0) 0 PM.leaf) 0 (N8 (L8 0) 0 PM.leaf)))) 78 (N8 (N8 (N8 (N8 (L8 40) 78 PM.leaf) 78 (N8 (L8 40) 40 PM.leaf)) 0 (N8 (N8 (L8 0) 0 PM.leaf) 0 (N8 (L8 0) 0 PM.leaf))) 0 (N8 (N8 (N8 (L8 0) 0 PM.leaf) 0 (N8 (L8 0) 0 PM.leaf)) 0 (N8 (N8 (L8 0) 0 PM.leaf) 0 (N8 (L8 0) 0 PM.leaf)))))) 70 (N8 (N8 (N8 (N8 (N8 (N8 (L8 3) 70 (PM.node PM.leaf (some (AV.lit (Value.bool false))) PM.leaf)) 70 (N8 (L8 3) 3 PM.leaf)) 0 (N8 (N8 (L8 0) 0 PM.leaf) 0 (N8 (L8 0) 0 PM.leaf))) 0 (N8 (N8 (N8 (L8 0) 0 PM.leaf) 0 (N8 (L8 0) 0 PM.leaf)) 0 (N8 (N8 (L8 0) 0 PM.leaf) 0 (N8 (L8 0) 0 PM.leaf)))) 220 (N8 (N8 (N8 (N8 (L8 0) 220 PM.leaf) 220 (N8 (L8 0) 0 PM.leaf)) 0 (N8 (N8 (L8 0) 0 PM.leaf) 0 (N8 (L8 0) 0 PM.leaf))) 0 (N8 (N8 (N8 (L8 0) 0 PM.leaf) 0 (N8 (L8 0) 0 PM.leaf)) 0 (N8 (N8 (L8 0) 0 PM.leaf) 0 (N8 (L8 0) 0 PM.leaf))))) 10 (N8 (N8 (N8 (N8 (N8 (L8 0) 10 PM.leaf) 10 (N8 (L8 0) 0 PM.leaf)) 0 (N8 (N8 (L8 0) 0 PM.leaf) 0 (N8 (L8 0) 0 PM.leaf))) 0 (N8 (N8 (N8 (L8 0) 0 PM.leaf) 0 (N8 (L8 0) 0 PM.leaf)) 0 (N8 (N8 (L8 0) 0 PM.leaf) 0 (N8 (L8 0) 0 PM.leaf)))) 0 (N8 (N8 (N8 (N8 (L8 223) 0 PM.leaf) 0 (N8 (L8 223) 223 PM.leaf)) 0 (N8 (N8 (L8 0) 0 PM.leaf) 0 (N8 (L8 0) 0 PM.leaf))) 0 (N8 (N8 (N8 (L8 0) 0 PM.leaf) 0 (N8 (L8 0) 0 PM.leaf)) 0 (N8 (N8 (L8 0) 0 PM.leaf) 0 (N8 (L8 0) 0 PM.leaf))))))) 4 (N8 (N8 (N8 (N8 (N8 (N8 (N8 (L8 0) 4 (L8 0)) 4 (PM.node (L8 0) (some (AV.lit (Value.bool false))) PM.leaf)) 0 (N8 (N8 (L8 0) 0 PM.leaf) 0 (N8 (L8 0) 0 PM.leaf))) 0 (N8 (N8 (N8 (L8 0) 0 PM.leaf) 0 (N8 (L8 0) 0 PM.leaf)) 0 (N8 (N8 (L8 0) 0 PM.leaf) 0 (N8 (L8 0) 0 PM.leaf)))) 0 (N8 (N8 (N8 (N8 (L8 0) 0 PM.leaf) 0 (N8 (L8 0) 0 PM.leaf)) 0 (N8 (N8 (L8 0) 0 PM.leaf) 0 (N8 (L8 0) 0 PM.leaf))) 0 (N8 (N8 (N8 (L8 0) 0 PM.leaf) 0 (N8 (L8 0) 0 PM.leaf)) 0 (N8 (N8 (L8 0) 0 PM.leaf) 0 (N8 (L8 0) 0 PM.leaf))))) 69 (N8 (N8 (N8 (N8 (N8 (L8 0) 69 PM.leaf) 69 (N8 (L8 0) 0 PM.leaf)) 0 (N8 (N8 (L8 0) 0 PM.leaf) 0 (N8 (L8 0) 0 PM.leaf))) 0 (N8 (N8 (N8 (L8 0) 0 PM.leaf) 0 (N8 (L8 0) 0 PM.leaf)) 0 (N8 (N8 (L8 0) 0 PM.leaf) 0 (N8 (L8 0) 0 PM.leaf)))) 80 (N8 (N8 (N8 (N8 (L8 132) 80 PM.leaf) 80 (N8 (L8 132) 132 PM.leaf)) 0 (N8 (N8 (L8 0) 0 PM.leaf) 0 (N8 (L8 0) 0 PM.leaf))) 0 (N8 (N8 (N8 (L8 0) 0 PM.leaf) 0 (N8 (L8 0) 0 PM.leaf)) 0 (N8 (N8 (L8 0) 0 PM.leaf) 0 (N8 (L8 0) 0 PM.leaf)))))) 85 (N8 (N8 (N8 (N8 (N8 (N8 (L8 0) 85 PM.leaf) 85 (N8 (L8 0) 0 PM.leaf)) 0 (N8 (N8 (L8 0) 0 PM.leaf) 0 (N8 (L8 0) 0 PM.leaf))) 0 (N8 (N8 (N8 (L8 0) 0 PM.leaf) 0 (N8 (L8 0) 0 PM.leaf)) 0 (N8 (N8 (L8 0) 0 PM.leaf) 0 (N8 (L8 0) 0 PM.leaf)))) 5 (N8 (N8 (N8 (N8 (L8 107) 5 PM.leaf) 5 (N8 (L8 107) 107 PM.leaf)) 0 (N8 (N8 (L8 0) 0 PM.leaf) 0 (N8 (L8 0) 0 PM.leaf))) 0 (N8 (N8 (N8 (L8 0) 0 PM.leaf) 0 (N8 (L8 0) 0 PM.leaf)) 0 (N8 (N8 (L8 0) 0 PM.leaf) 0 (N8 (L8 0) 0 PM.leaf))))) 0 (N8 (N8 (N8 (N8 (N8 (L8 0) 0 PM.leaf) 0 (N8 (L8 0) 0 PM.leaf)) 0 (N8 (N8 (L8 0) 0 PM.leaf) 0 (N8 (L8 0) 0 PM.leaf))) 0 (N8 (N8 (N8 (L8 0) 0 PM.leaf) 0 (N8 (L8 0) 0 PM.leaf)) 0 (N8 (N8 (L8 0) 0 PM.leaf) 0 (N8 (L8 0) 0 PM.leaf)))) 0 (N8 (N8 (N8 (N8 (L8 0) 0 PM.leaf) 0 (N8 (L8 0) 0 PM.leaf)) 0 (N8 (N8 (L8 0) 0 PM.leaf) 0 (N8 (L8 0) 0 PM.leaf))) 0 (N8 (N8 (N8 (L8 0) 0 PM.leaf) 0 (N8 (L8 0) 0 PM.leaf)) 0 (N8 (N8 (L8 0) 0 PM.leaf) 0 (N8 (L8 0) 0 PM.leaf))))))))))]
abbrev sSE1M : Nat := 22
def sSE1I : List Nat := [0, 1, 2, 3, 4, 5, 6, 7, 8, 9, 10, 11, 12, 13, 14, 15, 16, 17, 18, 19, 20, 21]
end
end Go.Proofs.YtnlpcbdmllpddaaGreat
end
section
/- A closed call, run: fusee/point.Step. -/
namespace Go.Proofs.YtnlpcbdmllpddaaGreat
open Go SE
set_option maxRecDepth 100000
noncomputable section
theorem sSE1_look : lookX tblR 35 = none := by kernel_rfl
theorem sSE1_run : runH Tryz.prog tblR tt 2000 40 35 [.ptr 0 0, i64 0, .agg (frL [i64 2, str (bs [97]), str (bs [49]), str es] nilS)] (hO sSAM sSAO) (told sSE1I) = .ok (vmap (atL sSE1I) sSE1V, sSE1O.map fun o => some (omap (atL sSE1I) o)) := by kernel_rfl
theorem sSE1_sp : Sp Tryz.prog 35 [.ptr 0 0, i64 0, .agg (frL [i64 2, str (bs [97]), str (bs [49]), str es] nilS)] (hO 1 [packed sSAM sSAO]) (fun v h => v = sSE1V ∧ h = hO 1 [packed sSE1M sSE1O]) :=
  stageP tt_ok mixed tblR_ok 2000 40 sSAM sSAO sSE1M sSE1I sSE1V sSE1O sSE1_look sSE1_run (by kernel_rfl) (by kernel_rfl) (by kernel_rfl)
end
end Go.Proofs.YtnlpcbdmllpddaaGreat
end
section
/- What a closed call yields, and the memory behind it: fusee/point.Step. -/
namespace Go.Proofs.YtnlpcbdmllpddaaGreat
open Go SE
set_option maxRecDepth 100000
noncomputable section
def sSE2V : AV := (AV.agg [(i64 2), (AV.lit (Value.string (bs [97]))), (AV.lit (Value.string (bs [49]))), (AV.lit (Value.string (bs []))), (AV.lit (Value.slice none 0 0)), (i64 3), (u64 1), (AV.lit (Value.string (bs []))), (AV.lit (Value.bool false)), (i64 0), (AV.lit (Value.bool false)), (AV.lit (Value.string (bs []))), (u64 0), (u64 0), (i64 0), (i64 0), (i64 (-0 - 1)), (i64 0), (i64 0), (AV.lit (Value.slice none 0 0)), (i64 0), (AV.lit (Value.slice none 0 0)), (i64 0), (AV.lit (Value.bool false)), (AV.lit (Value.string (bs []))), (AV.lit (Value.slice none 0 0)), (AV.lit (Value.slice none 0 0)), (u64 0)])
def sSE2O : List AObj := [
(AObj.cells 117 (Cs.av [(AV.ptr 1 0), (AV.ptr 2 0), (AV.ptr 3 0), (AV.ptr 4 0), (AV.ptr 5 0), (AV.ptr 6 0), (AV.ptr 7 0), (AV.ptr 8 0), (u64 0), (u64 0), (AV.lit (Value.slice none 0 0))])),
(AObj.cells 152 (Cs.av [(AV.ptr 9 0), (AV.lit (Value.int IntKind.u32 1)), (AV.lit (Value.int IntKind.i32 0)), (AV.lit (Value.int IntKind.u32 0))])),
(AObj.cells 289 (Cs.av [(AV.sl 10 0 1 1)])),
(AObj.cells 204 (Cs.av [(u64 1), (AV.sl 11 0 1 1)])),
(AObj.cells 201 (Cs.av ([(u64 1), (u64 0), (u64 0), (AV.sl 12 0 1 1)] ++ List.replicate 516 (AV.lit (Value.bool false)) ++ [(AV.lit Value.nilFunc)]))),
(AObj.cells 247 (Cs.av [(AV.lit (Value.slice none 0 0))])),
(AObj.cells 269 (Cs.av [(AV.mp 13), (AV.mp 14), (AV.mp 15), (AV.mp 16), (AV.mp 17), (AV.mp 18), (AV.mp 19), (AV.mp 20)])),
(AObj.cells 298 (Cs.av [(AV.lit (Value.slice none 0 0)), (AV.lit (Value.slice none 0 0)), (AV.lit (Value.slice none 0 0)), (AV.lit (Value.slice none 0 0))])),
(AObj.cells 279 (Cs.av [(AV.lit (Value.slice none 0 0)), (i64 0), (i64 0)])),
(AObj.cells 218 (Cs.av [(AV.sl 21 0 10 10), (i64 2), (i64 2), (i64 1), (i64 0), (i64 0)])),
(AObj.cells 261 (Cs.tr 10 [(i64 0), (AV.lit (Value.bool false)), (AV.lit (Value.bool false)), (AV.lit (Value.bool false)), (AV.lit (Value.bool false)), (AV.lit (Value.bool false)), (AV.lit (Value.bool false)), (AV.lit (Value.bool false)), (AV.lit (Value.bool false)), (i64 0)] (PM.node PM.leaf (some (i64 (-0 - 1))) PM.leaf))),
(AObj.cells 115 (Cs.tr 1 [(u64 0)] (PM.node PM.leaf (some (u64 1)) PM.leaf))),
(AObj.cells 3 (Cs.tr 1 [(i64 0)] PM.leaf)),
(AObj.map [] 0),
(AObj.map [] 0),
(AObj.map [] 0),
(AObj.map [] 0),
(AObj.map [] 0),
(AObj.map [] 0),
(AObj.map [] 0),
(AObj.map [] 0),
(AObj.cells 253 (Cs.tr 1930 (List.replicate 192 (AV.lit (v8 0)) ++ [(AV.lit (Value.bool false))]) (N8 (N8 (N8 (N8 (N8 (N8 (N8 (N8 (L8 0) 0 (L8 0)) 0 (N8 (L8 0) 0 PM.leaf)) 0 (N8 (N8 (L8 0) 0 PM.leaf) 0 (N8 (L8 0) 0 PM.leaf))) 0 (N8 (N8 (N8 (L8 0) 0 PM.leaf) 0 (N8 (L8 0) 0 PM.leaf)) 0 (N8 (N8 (L8 0) 0 PM.leaf) 0 (N8 (L8 0) 0 PM.leaf)))) 0 (N8 (N8 (N8 (N8 (L8 0) 0 PM.leaf) 0 (N8 (L8 0) 0 PM.leaf)) 0 (N8 (N8 (L8 0) 0 PM.leaf) 0 (N8 (L8 0) 0 PM.leaf))) 0 (N8 (N8 (N8 (L8 0) 0 PM.leaf) 0 (N8 (L8 0) 0 PM.leaf)) 0 (N8 (N8 (L8 0) 0 PM.leaf) 0 (N8 (L8 0) 0 PM.leaf))))) 83 (N8 (N8 (N8 (N8 (N8 (L8 0) 83 PM.leaf) 83 (N8 (L8 0) 0 PM.leaf)) 0 (N8 (N8 (L8 0) 0 PM.leaf) 0 (N8 (L8 0) 0 PM.leaf))) 0 (N8 (N8 (N8 (L8 0) 0 PM.leaf) 0 (N8 (L8 0) 0 PM.leaf)) 0 (N8 (N8 (L8 0) 0 PM.leaf) 0 (N8 (L8 0) 0 PM.leaf)))) 78 (N8 (N8 (N8 (N8 (L8 40) 78 PM.leaf) 78 (N8 (L8 40) 40 PM.leaf)) 0 (N8 (N8 (L8 0) 0 PM.leaf) 0 (N8 (L8 0) 0 PM.leaf))) 0 (N8 (N8 (N8 (L8 0) 0 PM.leaf) 0 (N8 (L8 0) 0 PM.leaf)) 0 (N8 (N8 (L8 0) 0 PM.leaf) 0 (N8 (L8 0) 0 PM.leaf)))))) 70 (N8 (N8 (N8 (N8 (N8 (N8 (L8 3) 70 (PM.node PM.leaf (some (AV.lit (Value.bool false))) PM.leaf)) 70 (N8 (L8 3) 3 PM.leaf)) 0 (N8 (N8 (L8 0) 0 PM.leaf) 0 (N8 (L8 0) 0 PM.leaf))) 0 (N8 (N8 (N8 (L8 0) 0 PM.leaf) 0 (N8 (L8 0) 0 PM.leaf)) 0 (N8 (N8 (L8 0) 0 PM.leaf) 0 (N8 (L8 0) 0 PM.leaf)))) 220 (N8 (N8 (N8 (N8 (L8 0) 220 PM.leaf) 220 (N8 (L8 0) 0 PM.leaf)) 0 (N8 (N8 (L8 0) 0 PM.leaf) 0 (N8 (L8 0) 0 PM.leaf))) 0 (N8 (N8 (N8 (L8 0) 0 PM.leaf) 0 (N8 (L8 0) 0 PM.leaf)) 0 (N8 (N8 (L8 0) 0 PM.leaf) 0 (N8 (L8 0) 0 PM.leaf))))) 10 (N8 (N8 (N8 (N8 (N8 (L8 0) 10 PM.leaf) 10 (N8 (L8 0) 0 PM.leaf)) 0 (N8 (N8 (L8 0) 0 PM.leaf) 0 (N8 (L8 0) 0 PM.leaf))) 0 (N8 (N8 (N8 (L8 0) 0 PM.leaf) 0 (N8 (L8 0) 0 PM.leaf)) 0 (N8 (N8 (L8 0) 0 PM.leaf) 0 (N8 (L8 0) 0 PM.leaf)))) 0 (N8 (N8 (N8 (N8 (L8 223) 0 PM.leaf) 0 (N8 (L8 223) 223 PM.leaf)) 0 (N8 (N8 (L8 0) 0 PM.leaf) 0 (N8 (L8 0) 0 PM.leaf))) 0 (N8 (N8 (N8 (L8 0) 0 PM.leaf) 0 (N8 (L8 0) 0 PM.leaf)) 0 (N8 (N8 (L8 0) 0 PM.leaf) 0 (N8 (L8 0) 0 PM.leaf))))))) 4 (N8 (N8 (N8 (N8 (N8 (N8 (N8 (L8 0) 4 (L8 0)) 4 (PM.node (L8 0) (some (AV.lit (Value.bool false))) PM.leaf)) 0 (N8 (N8 (L8 0) 0 PM.leaf) 0 (N8 (L8 0) 0 PM.leaf))) 0 (N8 (N8 (N8 (L8 0) 0 PM.leaf) 0 (N8 (L8 0) 0 PM.leaf)) 0 (N8 (N8 (L8 0) 0 PM.leaf) 0 (N8 (L8 0) 0 PM.leaf)))) 0 (N8 (N8 (N8 (N8 (L8 0) 0 PM.leaf) 0 (N8 (L8 0) 0 PM.leaf)) 0 (N8 (N8 (L8 0) 0 PM.leaf) 0 (N8 (L8 0) 0 PM.leaf))) 0 (N8 (N8 (N8 (L8 0) 0 PM.leaf) 0 (N8 (L8 0) 0 PM.leaf)) 0 (N8 (N8 (L8 0) 0 PM.leaf) 0 (N8 (L8 0) 0 PM.leaf))))) 69 (N8 (N8 (N8 (N8 (N8 (L8 0) 69 PM.leaf) 69 (N8 (L8 0) 0 PM.leaf)) 0 (N8 (N8 (L8 0) 0 PM.leaf) 0 (N8 (L8 0) 0 PM.leaf))) 0 (N8 (N8 (N8 (L8 0) 0 PM.leaf) 0 (N8 (L8 0) 0 PM.leaf)) 0 (N8 (N8 (L8 0) 0 PM.leaf) 0 (N8 (L8 0) 0 PM.leaf)))) 80 (N8 (N8 (N8 (N8 (L8 132) 80 PM.leaf) 80 (N8 (L8 132) 132 PM.leaf)) 0 (N8 (N8 (L8 0) 0 PM.leaf) 0 (N8 (L8 0) 0 PM.leaf))) 0 (N8 (N8 (N8 (L8 0) 0 PM.leaf) 0 (N8 (L8 0) 0 PM.leaf)) 0 (N8 (N8 (L8 0) 0 PM.leaf) 0 (N8 (L8 0) 0 PM.leaf)))))) 85 (N8 (N8 (N8 (N8 (N8 (N8 (L8 0) 85 PM.leaf) 85 (N8 (L8 0) 0 PM.leaf)) 0 (N8 (N8 (L8 0) 0 PM.leaf) 0 (N8 (L8 0) 0 PM.leaf))) 0 (N8 (N8 (N8 (L8 0) 0 PM.leaf) 0 (N8 (L8 0) 0 PM.leaf)) 0 (N8 (N8 (L8 0) 0 PM.leaf) 0 (N8 (L8 0) 0 PM.leaf)))) 5 (N8 (N8 (N8 (N8 (L8 107) 5 PM.leaf) 5 (N8 (L8 107) 107 PM.leaf)) 0 (N8 (N8 (L8 0) 0 PM.leaf) 0 (N8 (L8 0) 0 PM.leaf))) 0 (N8 (N8 (N8 (L8 0) 0 PM.leaf) 0 (N8 (L8 0) 0 PM.leaf)) 0 (N8 (N8 (L8 0) 0 PM.leaf) 0 (N8 (L8 0) 0 PM.leaf))))) 0 (N8 (N8 (N8 (N8 (N8 (L8 0) 0 PM.leaf) 0 (N8 (L8 0) 0 PM.leaf)) 0 (N8 (N8 (L8 0) 0 PM.leaf) 0 (N8 (L8 0) 0 PM.leaf))) 0 (N8 (N8 (N8 (L8 0) 0 PM.leaf) 0 (N8 (L8 0) 0 PM.leaf)) 0 (N8 (N8 (L8 0) 0 PM.leaf) 0 (N8 (L8 0) 0 PM.leaf)))) 0 (N8 (N8 (N8 (N8 (L8 0) 0 PM.leaf) 0 (N8 (L8 0) 0 PM.leaf)) 0 (N8 (N8 (L8 0) 0 PM.leaf) 0 (N8 (L8 0) 0 PM.leaf))) 0 (N8 (N8 (N8 (L8 0) 0 PM.leaf) 0 (N8 (L8 0) 0 PM.leaf)) 0 (N8 (N8 (L8 0) 0 PM.leaf) 0 (N8 (L8 0) 0 PM.leaf))))))))))]
abbrev sSE2M : Nat := 22
def sSE2I : List Nat := [0, 1, 2, 3, 4, 5, 6, 7, 8, 9, 10, 11, 12, 13, 14, 15, 16, 17, 18, 19, 20, 21]
end
end Go.Proofs.YtnlpcbdmllpddaaGreat
end
section
/- A closed call, run: fusee/point.Step. -/
namespace Go.Proofs.YtnlpcbdmllpddaaGreat
open Go SE
set_option maxRecDepth 100000
noncomputable section
theorem sSE2_look : lookX tblR 35 = none := by kernel_rfl
theorem sSE2_run : runH Tryz.prog tblR tt 2000 40 35 [.ptr 0 0, i64 0, sSE1V] (hO sSE1M sSE1O) (told sSE2I) = .ok (vmap (atL sSE2I) sSE2V, sSE2O.map fun o => some (omap (atL sSE2I) o)) := by kernel_rfl
theorem sSE2_sp : Sp Tryz.prog 35 [.ptr 0 0, i64 0, sSE1V] (hO 1 [packed sSE1M sSE1O]) (fun v h => v = sSE2V ∧ h = hO 1 [packed sSE2M sSE2O]) :=
  stageP tt_ok mixed tblR_ok 2000 40 sSE1M sSE1O sSE2M sSE2I sSE2V sSE2O sSE2_look sSE2_run (by kernel_rfl) (by kernel_rfl) (by kernel_rfl)
end
end Go.Proofs.YtnlpcbdmllpddaaGreat
end
section
/- What a closed call yields, and the memory behind it: fusee/point.Step. -/
namespace Go.Proofs.YtnlpcbdmllpddaaGreat
open Go SE
set_option maxRecDepth 100000
noncomputable section
def sSE3V : AV := (AV.agg [(i64 2), (AV.lit (Value.string (bs [97]))), (AV.lit (Value.string (bs [49]))), (AV.lit (Value.string (bs []))), (AV.lit (Value.slice none 0 0)), (i64 4), (u64 1), (AV.lit (Value.string (bs []))), (AV.lit (Value.bool false)), (i64 0), (AV.lit (Value.bool false)), (AV.lit (Value.string (bs []))), (u64 0), (u64 0), (i64 0), (i64 0), (i64 2), (i64 0), (i64 0), (AV.lit (Value.slice none 0 0)), (i64 0), (AV.lit (Value.slice none 0 0)), (i64 0), (AV.lit (Value.bool false)), (AV.lit (Value.string (bs []))), (AV.lit (Value.slice none 0 0)), (AV.lit (Value.slice none 0 0)), (u64 0)])
def sSE3O : List AObj := [
(AObj.cells 117 (Cs.av [(AV.ptr 1 0), (AV.ptr 2 0), (AV.ptr 3 0), (AV.ptr 4 0), (AV.ptr 5 0), (AV.ptr 6 0), (AV.ptr 7 0), (AV.ptr 8 0), (u64 0), (u64 0), (AV.lit (Value.slice none 0 0))])),
(AObj.cells 152 (Cs.av [(AV.ptr 9 0), (AV.lit (Value.int IntKind.u32 1)), (AV.lit (Value.int IntKind.i32 0)), (AV.lit (Value.int IntKind.u32 0))])),
(AObj.cells 289 (Cs.av [(AV.sl 10 0 1 1)])),
(AObj.cells 204 (Cs.av [(u64 1), (AV.sl 11 0 1 1)])),
(AObj.cells 201 (Cs.av ([(u64 1), (u64 0), (u64 0), (AV.sl 12 0 1 1)] ++ List.replicate 516 (AV.lit (Value.bool false)) ++ [(AV.lit Value.nilFunc)]))),
(AObj.cells 247 (Cs.av [(AV.lit (Value.slice none 0 0))])),
(AObj.cells 269 (Cs.av [(AV.mp 13), (AV.mp 14), (AV.mp 15), (AV.mp 16), (AV.mp 17), (AV.mp 18), (AV.mp 19), (AV.mp 20)])),
(AObj.cells 298 (Cs.av [(AV.lit (Value.slice none 0 0)), (AV.lit (Value.slice none 0 0)), (AV.lit (Value.slice none 0 0)), (AV.lit (Value.slice none 0 0))])),
(AObj.cells 279 (Cs.av [(AV.lit (Value.slice none 0 0)), (i64 0), (i64 0)])),
(AObj.cells 218 (Cs.av [(AV.sl 21 0 10 10), (i64 2), (i64 2), (i64 1), (i64 0), (i64 0)])),
(AObj.cells 261 (Cs.tr 10 [(i64 0), (AV.lit (Value.bool false)), (AV.lit (Value.bool false)), (AV.lit (Value.bool false)), (AV.lit (Value.bool false)), (AV.lit (Value.bool false)), (AV.lit (Value.bool false)), (AV.lit (Value.bool false)), (AV.lit (Value.bool false)), (i64 0)] (PM.node (PM.node PM.leaf (some (AV.lit (Value.bool true))) (PM.node (PM.node PM.leaf (some (i64 1)) PM.leaf) none PM.leaf)) (some (i64 0)) PM.leaf))),
(AObj.cells 115 (Cs.tr 1 [(u64 0)] (PM.node PM.leaf (some (u64 1)) PM.leaf))),
(AObj.cells 3 (Cs.tr 1 [(i64 0)] PM.leaf)),
(AObj.map [] 0),
(AObj.map [] 0),
(AObj.map [] 0),
(AObj.map [] 0),
(AObj.map [] 0),
(AObj.map [] 0),
(AObj.map [] 0),
(AObj.map [] 0),
(AObj.cells 253 (Cs.tr 1930 (List.replicate 192 (AV.lit (v8 0)) ++ [(AV.lit (Value.bool false))]) (N8 (N8 (N8 (N8 (N8 (N8 (N8 (N8 (L8 0) 0 (L8 0)) 0 (N8 (L8 0) 0 PM.leaf)) 0 (N8 (N8 (L8 0) 0 PM.leaf) 0 (N8 (L8 0) 0 PM.leaf))) 0 (N8 (N8 (N8 (L8 0) 0 PM.leaf) 0 (N8 (L8 0) 0 PM.leaf)) 0 (N8 (N8 (L8 0) 0 PM.leaf) 0 (N8 (L8 0) 0 PM.leaf)))) 0 (N8 (N8 (N8 (N8 (L8 0) 0 PM.leaf) 0 (N8 (L8 0) 0 PM.leaf)) 0 (N8 (N8 (L8 0) 0 PM.leaf) 0 (N8 (L8 0) 0 PM.leaf))) 0 (N8 (N8 (N8 (L8 0) 0 PM.leaf) 0 (N8 (L8 0) 0 PM.leaf)) 0 (N8 (N8 (L8 0) 0 PM.leaf) 0 (N8 (L8 0) 0 PM.leaf))))) 83 (N8 (N8 (N8 (N8 (N8 (L8 0) 83 PM.leaf) 83 (N8 (L8 0) 0 PM.leaf)) 0 (N8 (N8 (L8 0) 0 PM.leaf) 0 (N8 (L8 0) 0 PM.leaf))) 0 (N8 (N8 (N8 (L8 0) 0 PM.leaf) 0 (N8 (L8 0) 0 PM.leaf)) 0 (N8 (N8 (L8 0) 0 PM.leaf) 0 (N8 (L8 0) 0 PM.leaf)))) 78 (N8 (N8 (N8 (N8 (L8 40) 78 PM.leaf) 78 (N8 (L8 40) 40 PM.leaf)) 0 (N8 (N8 (L8 0) 0 PM.leaf) 0 (N8 (L8 0) 0 PM.leaf))) 0 (N8 (N8 (N8 (L8 0) 0 PM.leaf) 0 (N8 (L8 0) 0 PM.leaf)) 0 (N8 (N8 (L8 0) 0 PM.leaf) 0 (N8 (L8 0) 0 PM.leaf)))))) 70 (N8 (N8 (N8 (N8 (N8 (N8 (L8 3) 70 (PM.node PM.leaf (some (AV.lit (Value.bool false))) PM.leaf)) 70 (N8 (L8 3) 3 PM.leaf)) 0 (N8 (N8 (L8 0) 0 PM.leaf) 0 (N8 (L8 0) 0 PM.leaf))) 0 (N8 (N8 (N8 (L8 0) 0 PM.leaf) 0 (N8 (L8 0) 0 PM.leaf)) 0 (N8 (N8 (L8 0) 0 PM.leaf) 0 (N8 (L8 0) 0 PM.leaf)))) 220 (N8 (N8 (N8 (N8 (L8 0) 220 PM.leaf) 220 (N8 (L8 0) 0 PM.leaf)) 0 (N8 (N8 (L8 0) 0 PM.leaf) 0 (N8 (L8 0) 0 PM.leaf))) 0 (N8 (N8 (N8 (L8 0) 0 PM.leaf) 0 (N8 (L8 0) 0 PM.leaf)) 0 (N8 (N8 (L8 0) 0 PM.leaf) 0 (N8 (L8 0) 0 PM.leaf))))) 10 (N8 (N8 (N8 (N8 (N8 (L8 0) 10 PM.leaf) 10 (N8 (L8 0) 0 PM.leaf)) 0 (N8 (N8 (L8 0) 0 PM.leaf) 0 (N8 (L8 0) 0 PM.leaf))) 0 (N8 (N8 (N8 (L8 0) 0 PM.leaf) 0 (N8 (L8 0) 0 PM.leaf)) 0 (N8 (N8 (L8 0) 0 PM.leaf) 0 (N8 (L8 0) 0 PM.leaf)))) 0 (N8 (N8 (N8 (N8 (L8 223) 0 PM.leaf) 0 (N8 (L8 223) 223 PM.leaf)) 0 (N8 (N8 (L8 0) 0 PM.leaf) 0 (N8 (L8 0) 0 PM.leaf))) 0 (N8 (N8 (N8 (L8 0) 0 PM.leaf) 0 (N8 (L8 0) 0 PM.leaf)) 0 (N8 (N8 (L8 0) 0 PM.leaf) 0 (N8 (L8 0) 0 PM.leaf))))))) 4 (N8 (N8 (N8 (N8 (N8 (N8 (N8 (L8 0) 4 (L8 0)) 4 (PM.node (L8 0) (some (AV.lit (Value.bool false))) PM.leaf)) 0 (N8 (N8 (L8 0) 0 PM.leaf) 0 (N8 (L8 0) 0 PM.leaf))) 0 (N8 (N8 (N8 (L8 0) 0 PM.leaf) 0 (N8 (L8 0) 0 PM.leaf)) 0 (N8 (N8 (L8 0) 0 PM.leaf) 0 (N8 (L8 0) 0 PM.leaf)))) 0 (N8 (N8 (N8 (N8 (L8 0) 0 PM.leaf) 0 (N8 (L8 0) 0 PM.leaf)) 0 (N8 (N8 (L8 0) 0 PM.leaf) 0 (N8 (L8 0) 0 PM.leaf))) 0 (N8 (N8 (N8 (L8 0) 0 PM.leaf) 0 (N8 (L8 0) 0 PM.leaf)) 0 (N8 (N8 (L8 0) 0 PM.leaf) 0 (N8 (L8 0) 0 PM.leaf))))) 69 (N8 (N8 (N8 (N8 (N8 (L8 0) 69 PM.leaf) 69 (N8 (L8 0) 0 PM.leaf)) 0 (N8 (N8 (L8 0) 0 PM.leaf) 0 (N8 (L8 0) 0 PM.leaf))) 0 (N8 (N8 (N8 (L8 0) 0 PM.leaf) 0 (N8 (L8 0) 0 PM.leaf)) 0 (N8 (N8 (L8 0) 0 PM.leaf) 0 (N8 (L8 0) 0 PM.leaf)))) 80 (N8 (N8 (N8 (N8 (L8 132) 80 PM.leaf) 80 (N8 (L8 132) 132 PM.leaf)) 0 (N8 (N8 (L8 0) 0 PM.leaf) 0 (N8 (L8 0) 0 PM.leaf))) 0 (N8 (N8 (N8 (L8 0) 0 PM.leaf) 0 (N8 (L8 0) 0 PM.leaf)) 0 (N8 (N8 (L8 0) 0 PM.leaf) 0 (N8 (L8 0) 0 PM.leaf)))))) 85 (N8 (N8 (N8 (N8 (N8 (N8 (L8 0) 85 PM.leaf) 85 (N8 (L8 0) 0 PM.leaf)) 0 (N8 (N8 (L8 0) 0 PM.leaf) 0 (N8 (L8 0) 0 PM.leaf))) 0 (N8 (N8 (N8 (L8 0) 0 PM.leaf) 0 (N8 (L8 0) 0 PM.leaf)) 0 (N8 (N8 (L8 0) 0 PM.leaf) 0 (N8 (L8 0) 0 PM.leaf)))) 5 (N8 (N8 (N8 (N8 (L8 107) 5 PM.leaf) 5 (N8 (L8 107) 107 PM.leaf)) 0 (N8 (N8 (L8 0) 0 PM.leaf) 0 (N8 (L8 0) 0 PM.leaf))) 0 (N8 (N8 (N8 (L8 0) 0 PM.leaf) 0 (N8 (L8 0) 0 PM.leaf)) 0 (N8 (N8 (L8 0) 0 PM.leaf) 0 (N8 (L8 0) 0 PM.leaf))))) 0 (N8 (N8 (N8 (N8 (N8 (L8 0) 0 PM.leaf) 0 (N8 (L8 0) 0 PM.leaf)) 0 (N8 (N8 (L8 0) 0 PM.leaf) 0 (N8 (L8 0) 0 PM.leaf))) 0 (N8 (N8 (N8 (L8 0) 0 PM.leaf) 0 (N8 (L8 0) 0 PM.leaf)) 0 (N8 (N8 (L8 0) 0 PM.leaf) 0 (N8 (L8 0) 0 PM.leaf)))) 0 (N8 (N8 (N8 (N8 (L8 0) 0 PM.leaf) 0 (N8 (L8 0) 0 PM.leaf)) 0 (N8 (N8 (L8 0) 0 PM.leaf) 0 (N8 (L8 0) 0 PM.leaf))) 0 (N8 (N8 (N8 (L8 0) 0 PM.leaf) 0 (N8 (L8 0) 0 PM.leaf)) 0 (N8 (N8 (L8 0) 0 PM.leaf) 0 (N8 (L8 0) 0 PM.leaf))))))))))]
abbrev sSE3M : Nat := 22
def sSE3I : List Nat := [0, 1, 2, 3, 4, 5, 6, 7, 8, 9, 10, 11, 12, 13, 14, 15, 16, 17, 18, 19, 20, 21]
end
end Go.Proofs.YtnlpcbdmllpddaaGreat
end
section
/- A closed call, run: fusee/point.Step. -/
namespace Go.Proofs.YtnlpcbdmllpddaaGreat
open Go SE
set_option maxRecDepth 100000
noncomputable section
theorem sSE3_look : lookX tblR 35 = none := by kernel_rfl
theorem sSE3_run : runH Tryz.prog tblR tt 2000 40 35 [.ptr 0 0, i64 0, sSE2V] (hO sSE2M sSE2O) (told sSE3I) = .ok (vmap (atL sSE3I) sSE3V, sSE3O.map fun o => some (omap (atL sSE3I) o)) := by kernel_rfl
theorem sSE3_sp : Sp Tryz.prog 35 [.ptr 0 0, i64 0, sSE2V] (hO 1 [packed sSE2M sSE2O]) (fun v h => v = sSE3V ∧ h = hO 1 [packed sSE3M sSE3O]) :=
  stageP tt_ok mixed tblR_ok 2000 40 sSE2M sSE2O sSE3M sSE3I sSE3V sSE3O sSE3_look sSE3_run (by kernel_rfl) (by kernel_rfl) (by kernel_rfl)
end
end Go.Proofs.YtnlpcbdmllpddaaGreat
end
section
/- What a closed call yields, and the memory behind it: fusee/point.Step. -/
namespace Go.Proofs.YtnlpcbdmllpddaaGreat
open Go SE
set_option maxRecDepth 100000
noncomputable section
def sSE4V : AV := (AV.agg [(i64 2), (AV.lit (Value.string (bs [97]))), (AV.lit (Value.string (bs [49]))), (AV.lit (Value.string (bs []))), (AV.lit (Value.slice none 0 0)), (i64 5), (u64 1), (AV.lit (Value.string (bs []))), (AV.lit (Value.bool false)), (i64 0), (AV.lit (Value.bool false)), (AV.lit (Value.string (bs []))), (u64 0), (u64 0), (i64 0), (i64 0), (i64 2), (i64 0), (i64 0), (AV.lit (Value.slice none 0 0)), (i64 0), (AV.lit (Value.slice none 0 0)), (i64 0), (AV.lit (Value.bool false)), (AV.lit (Value.string (bs []))), (AV.lit (Value.slice none 0 0)), (AV.lit (Value.slice none 0 0)), (u64 0)])
def sSE4O : List AObj := [
(AObj.cells 117 (Cs.av [(AV.ptr 1 0), (AV.ptr 2 0), (AV.ptr 3 0), (AV.ptr 4 0), (AV.ptr 5 0), (AV.ptr 6 0), (AV.ptr 7 0), (AV.ptr 8 0), (u64 0), (u64 0), (AV.lit (Value.slice none 0 0))])),
(AObj.cells 152 (Cs.av [(AV.ptr 9 0), (AV.lit (Value.int IntKind.u32 1)), (AV.lit (Value.int IntKind.i32 0)), (AV.lit (Value.int IntKind.u32 0))])),
(AObj.cells 289 (Cs.av [(AV.sl 10 0 1 1)])),
(AObj.cells 204 (Cs.av [(u64 1), (AV.sl 11 0 1 1)])),
(AObj.cells 201 (Cs.av ([(u64 1), (u64 0), (u64 0), (AV.sl 12 0 1 1)] ++ List.replicate 516 (AV.lit (Value.bool false)) ++ [(AV.lit Value.nilFunc)]))),
(AObj.cells 247 (Cs.av [(AV.lit (Value.slice none 0 0))])),
(AObj.cells 269 (Cs.av [(AV.mp 13), (AV.mp 14), (AV.mp 15), (AV.mp 16), (AV.mp 17), (AV.mp 18), (AV.mp 19), (AV.mp 20)])),
(AObj.cells 298 (Cs.av [(AV.lit (Value.slice none 0 0)), (AV.lit (Value.slice none 0 0)), (AV.lit (Value.slice none 0 0)), (AV.lit (Value.slice none 0 0))])),
(AObj.cells 279 (Cs.av [(AV.lit (Value.slice none 0 0)), (i64 0), (i64 0)])),
(AObj.cells 218 (Cs.av [(AV.sl 21 0 10 10), (i64 3), (i64 2), (i64 1), (i64 0), (i64 0)])),
(AObj.cells 261 (Cs.tr 10 [(i64 0), (AV.lit (Value.bool false)), (AV.lit (Value.bool false)), (AV.lit (Value.bool false)), (AV.lit (Value.bool false)), (AV.lit (Value.bool false)), (AV.lit (Value.bool false)), (AV.lit (Value.bool false)), (AV.lit (Value.bool false)), (i64 0)] (PM.node (PM.node PM.leaf (some (AV.lit (Value.bool true))) (PM.node (PM.node PM.leaf (some (i64 1)) PM.leaf) none PM.leaf)) (some (i64 0)) PM.leaf))),
(AObj.cells 115 (Cs.tr 1 [(u64 0)] (PM.node PM.leaf (some (u64 1)) PM.leaf))),
(AObj.cells 3 (Cs.tr 1 [(i64 0)] PM.leaf)),
(AObj.map [] 0),
(AObj.map [] 0),
(AObj.map [] 0),
(AObj.map [] 0),
(AObj.map [] 0),
(AObj.map [] 0),
(AObj.map [] 0),
(AObj.map [] 0),
(AObj.cells 253 (Cs.tr 1930 (List.replicate 192 (AV.lit (v8 0)) ++ [(AV.lit (Value.bool false))]) (N8 (N8 (N8 (N8 (N8 (N8 (N8 (N8 (L8 0) 0 (L8 0)) 0 (N8 (L8 0) 0 (L8 0))) 0 (N8 (N8 (L8 0) 0 (L8 0)) 0 (N8 (L8 0) 0 PM.leaf))) 0 (N8 (N8 (N8 (L8 0) 0 (L8 0)) 0 (N8 (L8 0) 0 PM.leaf)) 0 (N8 (N8 (L8 0) 0 (L8 0)) 0 (N8 (L8 0) 0 PM.leaf)))) 0 (N8 (N8 (N8 (N8 (L8 0) 0 (L8 0)) 0 (N8 (L8 0) 0 PM.leaf)) 0 (N8 (N8 (L8 0) 0 (L8 0)) 0 (N8 (L8 0) 0 PM.leaf))) 0 (N8 (N8 (N8 (L8 0) 0 (L8 0)) 0 (N8 (L8 0) 0 PM.leaf)) 0 (N8 (N8 (L8 0) 0 (L8 0)) 0 (N8 (L8 0) 0 PM.leaf))))) 83 (N8 (N8 (N8 (N8 (N8 (L8 0) 83 (L8 0)) 83 (N8 (L8 0) 0 PM.leaf)) 0 (N8 (N8 (L8 0) 0 (L8 7)) 0 (N8 (L8 0) 0 PM.leaf))) 0 (N8 (N8 (N8 (L8 0) 0 (L8 0)) 0 (N8 (L8 0) 0 PM.leaf)) 0 (N8 (N8 (L8 0) 0 (L8 0)) 0 (N8 (L8 0) 0 PM.leaf)))) 78 (N8 (N8 (N8 (N8 (L8 40) 78 (L8 0)) 78 (N8 (L8 40) 40 PM.leaf)) 0 (N8 (N8 (L8 0) 0 (L8 0)) 0 (N8 (L8 0) 0 PM.leaf))) 0 (N8 (N8 (N8 (L8 0) 0 (L8 0)) 0 (N8 (L8 0) 0 PM.leaf)) 0 (N8 (N8 (L8 0) 0 (L8 0)) 0 (N8 (L8 0) 0 PM.leaf)))))) 70 (N8 (N8 (N8 (N8 (N8 (N8 (L8 3) 70 (PM.node PM.leaf (some (AV.lit (Value.bool false))) PM.leaf)) 70 (N8 (L8 3) 3 (L8 0))) 0 (N8 (N8 (L8 0) 0 (L8 0)) 0 (N8 (L8 0) 0 PM.leaf))) 0 (N8 (N8 (N8 (L8 0) 0 (L8 0)) 0 (N8 (L8 0) 0 PM.leaf)) 0 (N8 (N8 (L8 0) 0 (L8 0)) 0 (N8 (L8 0) 0 PM.leaf)))) 220 (N8 (N8 (N8 (N8 (L8 0) 220 (L8 0)) 220 (N8 (L8 0) 0 PM.leaf)) 0 (N8 (N8 (L8 0) 0 (L8 0)) 0 (N8 (L8 0) 0 PM.leaf))) 0 (N8 (N8 (N8 (L8 0) 0 (L8 0)) 0 (N8 (L8 0) 0 PM.leaf)) 0 (N8 (N8 (L8 0) 0 (L8 0)) 0 (N8 (L8 0) 0 PM.leaf))))) 10 (N8 (N8 (N8 (N8 (N8 (L8 0) 10 (L8 0)) 10 (N8 (L8 0) 0 PM.leaf)) 0 (N8 (N8 (L8 0) 0 (L8 206)) 0 (N8 (L8 0) 0 PM.leaf))) 0 (N8 (N8 (N8 (L8 0) 0 (L8 0)) 0 (N8 (L8 0) 0 PM.leaf)) 0 (N8 (N8 (L8 0) 0 (L8 0)) 0 (N8 (L8 0) 0 PM.leaf)))) 0 (N8 (N8 (N8 (N8 (L8 223) 0 (L8 0)) 0 (N8 (L8 223) 223 PM.leaf)) 0 (N8 (N8 (L8 0) 0 (L8 0)) 0 (N8 (L8 0) 0 PM.leaf))) 0 (N8 (N8 (N8 (L8 0) 0 (L8 0)) 0 (N8 (L8 0) 0 PM.leaf)) 0 (N8 (N8 (L8 0) 0 (L8 0)) 0 (N8 (L8 0) 0 PM.leaf))))))) 4 (N8 (N8 (N8 (N8 (N8 (N8 (N8 (L8 0) 4 (L8 0)) 4 (PM.node (L8 0) (some (AV.lit (Value.bool false))) (L8 0))) 0 (N8 (N8 (L8 0) 0 (L8 0)) 0 (N8 (L8 0) 0 PM.leaf))) 0 (N8 (N8 (N8 (L8 0) 0 (L8 0)) 0 (N8 (L8 0) 0 PM.leaf)) 0 (N8 (N8 (L8 0) 0 (L8 0)) 0 (N8 (L8 0) 0 PM.leaf)))) 0 (N8 (N8 (N8 (N8 (L8 0) 0 (L8 0)) 0 (N8 (L8 0) 0 PM.leaf)) 0 (N8 (N8 (L8 0) 0 (L8 0)) 0 (N8 (L8 0) 0 PM.leaf))) 0 (N8 (N8 (N8 (L8 0) 0 (L8 0)) 0 (N8 (L8 0) 0 PM.leaf)) 0 (N8 (N8 (L8 0) 0 (L8 0)) 0 (N8 (L8 0) 0 PM.leaf))))) 69 (N8 (N8 (N8 (N8 (N8 (L8 0) 69 (L8 0)) 69 (N8 (L8 0) 0 PM.leaf)) 0 (N8 (N8 (L8 0) 0 (L8 193)) 0 (N8 (L8 0) 0 PM.leaf))) 0 (N8 (N8 (N8 (L8 0) 0 (L8 0)) 0 (N8 (L8 0) 0 PM.leaf)) 0 (N8 (N8 (L8 0) 0 (L8 0)) 0 (N8 (L8 0) 0 PM.leaf)))) 80 (N8 (N8 (N8 (N8 (L8 132) 80 (L8 0)) 80 (N8 (L8 132) 132 PM.leaf)) 0 (N8 (N8 (L8 0) 0 (L8 0)) 0 (N8 (L8 0) 0 PM.leaf))) 0 (N8 (N8 (N8 (L8 0) 0 (L8 0)) 0 (N8 (L8 0) 0 PM.leaf)) 0 (N8 (N8 (L8 0) 0 (L8 0)) 0 (N8 (L8 0) 0 PM.leaf)))))) 85 (N8 (N8 (N8 (N8 (N8 (N8 (L8 0) 85 (L8 1)) 85 (N8 (L8 0) 0 PM.leaf)) 0 (N8 (N8 (L8 0) 0 (L8 135)) 0 (N8 (L8 0) 0 PM.leaf))) 0 (N8 (N8 (N8 (L8 0) 0 (L8 0)) 0 (N8 (L8 0) 0 PM.leaf)) 0 (N8 (N8 (L8 0) 0 (L8 0)) 0 (N8 (L8 0) 0 PM.leaf)))) 5 (N8 (N8 (N8 (N8 (L8 107) 5 (L8 0)) 5 (N8 (L8 107) 107 PM.leaf)) 0 (N8 (N8 (L8 0) 0 (L8 0)) 0 (N8 (L8 0) 0 PM.leaf))) 0 (N8 (N8 (N8 (L8 0) 0 (L8 0)) 0 (N8 (L8 0) 0 PM.leaf)) 0 (N8 (N8 (L8 0) 0 (L8 0)) 0 (N8 (L8 0) 0 PM.leaf))))) 0 (N8 (N8 (N8 (N8 (N8 (L8 0) 0 (L8 0)) 0 (N8 (L8 0) 0 PM.leaf)) 0 (N8 (N8 (L8 0) 0 (L8 0)) 0 (N8 (L8 0) 0 PM.leaf))) 0 (N8 (N8 (N8 (L8 0) 0 (L8 0)) 0 (N8 (L8 0) 0 PM.leaf)) 0 (N8 (N8 (L8 0) 0 (L8 0)) 0 (N8 (L8 0) 0 PM.leaf)))) 0 (N8 (N8 (N8 (N8 (L8 0) 0 (L8 0)) 0 (N8 (L8 0) 0 PM.leaf)) 0 (N8 (N8 (L8 0) 0 (L8 0)) 0 (N8 (L8 0) 0 PM.leaf))) 0 (N8 (N8 (N8 (L8 0) 0 (L8 0)) 0 (N8 (L8 0) 0 PM.leaf)) 0 (N8 (N8 (L8 0) 0 (L8 0)) 0 (N8 (L8 0) 0 PM.leaf))))))))))]
abbrev sSE4M : Nat := 22
def sSE4I : List Nat := [0, 1, 2, 3, 4, 5, 6, 7, 8, 9, 10, 11, 12, 13, 14, 15, 16, 17, 18, 19, 20, 21]
end
end Go.Proofs.YtnlpcbdmllpddaaGreat
end
