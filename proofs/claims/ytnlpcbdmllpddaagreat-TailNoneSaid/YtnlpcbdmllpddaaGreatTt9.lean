import Derived.Test.YtnlpcbdmllpddaaGreatTt0
import Derived.Test.YtnlpcbdmllpddaaGreatTt1
import Derived.Test.YtnlpcbdmllpddaaGreatTt2
import Derived.Test.YtnlpcbdmllpddaaGreatTt3
import Derived.Test.YtnlpcbdmllpddaaGreatTt4
import Derived.Test.YtnlpcbdmllpddaaGreatTt5
import Derived.Test.YtnlpcbdmllpddaaGreatTt6
import Derived.Test.YtnlpcbdmllpddaaGreatTt7
import Derived.Test.YtnlpcbdmllpddaaGreatTt8
import Derived.KernelRfl
section
/- Laws of frames that stay: tables. -/
namespace Go.Proofs.YtnlpcbdmllpddaaGreat
open Go SE
noncomputable section
def newC : Ctr := clo0 [i64 10, i64 1] sSAV sSAM sSAO
theorem new_ok : CtrOk Tryz.prog 15 newC := clo0_ok sSA_sp
def nilA : List AV → Bool
  | .lit (.pointer none) :: _ => true
  | _ => false
def nilT (A B : WTr) : WTr := fun args h K => bif nilA args then A args h K else B args h K
theorem nilT_ok {P : Program} {f : FuncId} {A B : WTr} (hA : ∀ args h K, A args h K → Sp P f args h K) (hB : ∀ args h K, B args h K → Sp P f args h K) (args : List AV) (h : Heap) (K : AV → Heap → Prop) (hq : nilT A B args h K) : Sp P f args h K := by
  unfold nilT at hq
  cases hb : nilA args <;> rw [hb] at hq
  · exact hB _ _ _ hq
  · exact hA _ _ _ hq
def stepT (is : Int → Prop) : WTr := nilT (pickT (ctrT stW) (ctrT stN)) (pickT (ctrT (saW is)) (ctrT (saN is)))
theorem stepT_ok {f : FuncId} {is : Int → Prop} (h1 : CtrOk Tryz.prog f stW) (h2 : CtrOk Tryz.prog f stN) (h3 : CtrOk Tryz.prog f (saW is)) (h4 : CtrOk Tryz.prog f (saN is)) : ∀ args h K, stepT is args h K → Sp Tryz.prog f args h K :=
  nilT_ok (pickT_ok (ctrT_ok h1) (ctrT_ok h2)) (pickT_ok (ctrT_ok h3) (ctrT_ok h4))
def beginT : WTr := pickT (ctrT beginWC) (ctrT beginNC)
theorem beginT_ok : ∀ args h K, beginT args h K → Sp Tryz.prog 11 args h K := pickT_ok (ctrT_ok beginW_ok) (ctrT_ok beginN_ok)
def sameT : WTr := pickT (ctrT sameFW) (ctrT sameFN)
theorem sameT_ok : ∀ args h K, sameT args h K → Sp Tryz.prog 16 args h K := pickT_ok (ctrT_ok sameFW_ok) (ctrT_ok sameFN_ok)
/-- What all of these laws call. -/
def tblN : WTbl := [(9, ctrT weightC), (12, ctrT copyC), (11, beginT), (15, ctrT newC), (16, sameT)]
theorem tblN_ok {r : WTbl} (h : TblOk Tryz.prog r) : TblOk Tryz.prog (tblN ++ r) := .cons (ctrT_ok weight_ok) (.cons (ctrT_ok copy_ok) (.cons beginT_ok (.cons (ctrT_ok new_ok) (.cons sameT_ok h))))
end
end Go.Proofs.YtnlpcbdmllpddaaGreat
end
section
/- TailNone: what is asked. -/
namespace Go.Proofs.YtnlpcbdmllpddaaGreat
open Go SE
def tNoneVC_wp (c : Cll) (t : Int) : Prop := wpF Tryz.prog (tblN ++ [(33, stepT isT), (32, ctrT sayC)]) tt noAn 400 6 5 [i64 t, c.av 0] (hO 1 c.os) (fun v _ => v = boo true)
def tNoneVC (c : Cll) (t : Int) : Prop :=
  (∃ (x : @Cll), (True ∧
  (((((@Cll.kind x) = (@Cll.kind c)) ∧
  (((@Cll.key x) = (@Cll.key c)) ∧
  (((@Cll.value x) = (@Cll.value c)) ∧
  (((@Cll.to x) = (@Cll.to c)) ∧
  ((((0 : @Nat) = (0 : @Nat)) ∧
  ((@Cll.gn x) = (@Cll.gn c))) ∧
  True))))) ∧
  (((600 : @Int) = (600 : @Int)) ∧
  True)) ∧
  (((((@Cll.gn x) = (@Cll.gn c)) ∧
  (∀ (q : @Nat), ((q < (@Cll.gn x)) → ([(Value.int @IntKind.i64 (@Mem.kind (@Cll.g x q))), (Value.string (@Mem.key (@Cll.g x q))), (Value.string (@Mem.value (@Cll.g x q))), (Value.string (@Mem.to (@Cll.g x q))), (Value.slice (@Mem.gp (@Cll.g x q)) (@Mem.gn (@Cll.g x q)) (@Mem.gc (@Cll.g x q)))] = [(Value.int @IntKind.i64 (@Mem.kind (@Cll.g c q))), (Value.string (@Mem.key (@Cll.g c q))), (Value.string (@Mem.value (@Cll.g c q))), (Value.string (@Mem.to (@Cll.g c q))), (Value.slice (@Mem.gp (@Cll.g c q)) (@Mem.gn (@Cll.g c q)) (@Mem.gc (@Cll.g c q)))])))) ∧
  True) ∧
  (∀ (y : @Int), ((@Hd ((y ≤ (600 : @Int)) → (@Cll.small x))) → (cP (decide (@GT.gt @Int @Int.instLTInt y (600 : @Int))) (∃ (x_1 : Unit), (True ∧
  (True ∧
  (True ∧
  (∀ (y_1 : Unit), (True → ((AV.lit (Value.bool @Bool.true)) = (AV.lit (Value.bool @Bool.true))))))))) (∃ (x_1 : @Cll), ((@Hd (@Cll.small x_1)) ∧
  (((((@Cll.kind x_1) = (@Cll.kind c)) ∧
  (((@Cll.key x_1) = (@Cll.key c)) ∧
  (((@Cll.value x_1) = (@Cll.value c)) ∧
  (((@Cll.to x_1) = (@Cll.to c)) ∧
  ((((0 : @Nat) = (0 : @Nat)) ∧
  ((@Cll.gn x_1) = (@Cll.gn c))) ∧
  True))))) ∧
  True) ∧
  (((((@Cll.gn x_1) = (@Cll.gn c)) ∧
  (∀ (q : @Nat), ((q < (@Cll.gn x_1)) → ([(Value.int @IntKind.i64 (@Mem.kind (@Cll.g x_1 q))), (Value.string (@Mem.key (@Cll.g x_1 q))), (Value.string (@Mem.value (@Cll.g x_1 q))), (Value.string (@Mem.to (@Cll.g x_1 q))), (Value.slice (@Mem.gp (@Cll.g x_1 q)) (@Mem.gn (@Cll.g x_1 q)) (@Mem.gc (@Cll.g x_1 q)))] = [(Value.int @IntKind.i64 (@Mem.kind (@Cll.g c q))), (Value.string (@Mem.key (@Cll.g c q))), (Value.string (@Mem.value (@Cll.g c q))), (Value.string (@Mem.to (@Cll.g c q))), (Value.slice (@Mem.gp (@Cll.g c q)) (@Mem.gn (@Cll.g c q)) (@Mem.gc (@Cll.g c q)))])))) ∧
  True) ∧
  ((∀ (y_1 : Unit), (True → (∃ (x_2 : @Cll), (True ∧
  (((((@Cll.kind x_2) = (@Cll.kind x_1)) ∧
  (((@Cll.key x_2) = (@Cll.key x_1)) ∧
  (((@Cll.value x_2) = (@Cll.value x_1)) ∧
  (((@Cll.to x_2) = (@Cll.to x_1)) ∧
  (((Value.slice (@Option.none @Addr) (0 : @Nat) (0 : @Nat)) = (Value.slice (@Option.none @Addr) (0 : @Nat) (0 : @Nat))) ∧
  True))))) ∧
  True) ∧
  (True ∧
  (∀ (y_2 : Unit), (True → (∃ (x_3 : Unit), (True ∧
  ((((10 : @Int) = (10 : @Int)) ∧
  (((1 : @Int) = (1 : @Int)) ∧
  True)) ∧
  (True ∧
  (∀ (y_3 : @Own), ((@Hd (@isMem @sSAM @sSAO y_3)) → (∃ (x_4 : (@Prod @Int @Cll)), (True ∧
  ((((Value.pointer (@Option.none @Addr)) = (Value.pointer (@Option.none @Addr))) ∧
  (((@Prod.fst @Int @Cll x_4) = t) ∧
  ((((@Cll.kind (@Prod.snd @Int @Cll x_4)) = (@Cll.kind x_2)) ∧
  (((@Cll.key (@Prod.snd @Int @Cll x_4)) = (@Cll.key x_2)) ∧
  (((@Cll.value (@Prod.snd @Int @Cll x_4)) = (@Cll.value x_2)) ∧
  (((@Cll.to (@Prod.snd @Int @Cll x_4)) = (@Cll.to x_2)) ∧
  (((Value.slice (@Option.none @Addr) (0 : @Nat) (0 : @Nat)) = (Value.slice (@Option.none @Addr) (0 : @Nat) (0 : @Nat))) ∧
  (((0 : @Int) = (0 : @Int)) ∧
  (((0 : @Int) = (0 : @Int)) ∧
  ((@es = @es) ∧
  ((@Bool.false = @Bool.false) ∧
  (((0 : @Int) = (0 : @Int)) ∧
  ((@Bool.false = @Bool.false) ∧
  ((@es = @es) ∧
  (((0 : @Int) = (0 : @Int)) ∧
  (((0 : @Int) = (0 : @Int)) ∧
  (((0 : @Int) = (0 : @Int)) ∧
  (((0 : @Int) = (0 : @Int)) ∧
  (((-(1 : @Int)) = (-(1 : @Int))) ∧
  (((0 : @Int) = (0 : @Int)) ∧
  (((0 : @Int) = (0 : @Int)) ∧
  (((Value.slice (@Option.none @Addr) (0 : @Nat) (0 : @Nat)) = (Value.slice (@Option.none @Addr) (0 : @Nat) (0 : @Nat))) ∧
  (((0 : @Int) = (0 : @Int)) ∧
  (((Value.slice (@Option.none @Addr) (0 : @Nat) (0 : @Nat)) = (Value.slice (@Option.none @Addr) (0 : @Nat) (0 : @Nat))) ∧
  (((0 : @Int) = (0 : @Int)) ∧
  ((@Bool.false = @Bool.false) ∧
  ((@es = @es) ∧
  (((Value.slice (@Option.none @Addr) (0 : @Nat) (0 : @Nat)) = (Value.slice (@Option.none @Addr) (0 : @Nat) (0 : @Nat))) ∧
  (((Value.slice (@Option.none @Addr) (0 : @Nat) (0 : @Nat)) = (Value.slice (@Option.none @Addr) (0 : @Nat) (0 : @Nat))) ∧
  (((0 : @Int) = (0 : @Int)) ∧
  True)))))))))))))))))))))))))))) ∧
  True))) ∧
  (True ∧
  (∀ (y_4 : Unit), (True → ((((AV.agg [(AV.lit (Value.int @IntKind.i64 (@Cll.kind x_2))), (AV.lit (Value.string (@Cll.key x_2))), (AV.lit (Value.string (@Cll.value x_2))), (AV.lit (Value.string (@Cll.to x_2))), (AV.lit (Value.slice (@Option.none @Addr) (0 : @Nat) (0 : @Nat))), (AV.lit (Value.int @IntKind.i64 (0 : @Int))), (AV.lit (Value.int @IntKind.u64 (0 : @Int))), (AV.lit (Value.string @es)), (AV.lit (Value.bool @Bool.false)), (AV.lit (Value.int @IntKind.i64 (0 : @Int))), (AV.lit (Value.bool @Bool.false)), (AV.lit (Value.string @es)), (AV.lit (Value.int @IntKind.u64 (0 : @Int))), (AV.lit (Value.int @IntKind.u64 (0 : @Int))), (AV.lit (Value.int @IntKind.i64 (0 : @Int))), (AV.lit (Value.int @IntKind.i64 (0 : @Int))), (AV.lit (Value.int @IntKind.i64 (-(1 : @Int)))), (AV.lit (Value.int @IntKind.i64 (0 : @Int))), (AV.lit (Value.int @IntKind.i64 (0 : @Int))), (AV.lit (Value.slice (@Option.none @Addr) (0 : @Nat) (0 : @Nat))), (AV.lit (Value.int @IntKind.i64 (0 : @Int))), (AV.lit (Value.slice (@Option.none @Addr) (0 : @Nat) (0 : @Nat))), (AV.lit (Value.int @IntKind.i64 (0 : @Int))), (AV.lit (Value.bool @Bool.false)), (AV.lit (Value.string @es)), (AV.lit (Value.slice (@Option.none @Addr) (0 : @Nat) (0 : @Nat))), (AV.lit (Value.slice (@Option.none @Addr) (0 : @Nat) (0 : @Nat))), (AV.lit (Value.int @IntKind.u64 (0 : @Int)))]) = (AV.agg [(AV.lit (Value.int @IntKind.i64 (@Cll.kind x_2))), (AV.lit (Value.string (@Cll.key x_2))), (AV.lit (Value.string (@Cll.value x_2))), (AV.lit (Value.string (@Cll.to x_2))), (AV.lit (Value.slice (@Option.none @Addr) (0 : @Nat) (0 : @Nat))), (AV.lit (Value.int @IntKind.i64 (0 : @Int))), (AV.lit (Value.int @IntKind.u64 (0 : @Int))), (AV.lit (Value.string @es)), (AV.lit (Value.bool @Bool.false)), (AV.lit (Value.int @IntKind.i64 (0 : @Int))), (AV.lit (Value.bool @Bool.false)), (AV.lit (Value.string @es)), (AV.lit (Value.int @IntKind.u64 (0 : @Int))), (AV.lit (Value.int @IntKind.u64 (0 : @Int))), (AV.lit (Value.int @IntKind.i64 (0 : @Int))), (AV.lit (Value.int @IntKind.i64 (0 : @Int))), (AV.lit (Value.int @IntKind.i64 (-(1 : @Int)))), (AV.lit (Value.int @IntKind.i64 (0 : @Int))), (AV.lit (Value.int @IntKind.i64 (0 : @Int))), (AV.lit (Value.slice (@Option.none @Addr) (0 : @Nat) (0 : @Nat))), (AV.lit (Value.int @IntKind.i64 (0 : @Int))), (AV.lit (Value.slice (@Option.none @Addr) (0 : @Nat) (0 : @Nat))), (AV.lit (Value.int @IntKind.i64 (0 : @Int))), (AV.lit (Value.bool @Bool.false)), (AV.lit (Value.string @es)), (AV.lit (Value.slice (@Option.none @Addr) (0 : @Nat) (0 : @Nat))), (AV.lit (Value.slice (@Option.none @Addr) (0 : @Nat) (0 : @Nat))), (AV.lit (Value.int @IntKind.u64 (0 : @Int)))])) ∧
  True) ∧
  (∃ (x_5 : @Cll), (True ∧
  (((((@Cll.kind x_5) = (@Cll.kind (@Prod.snd @Int @Cll x_4))) ∧
  (((@Cll.key x_5) = (@Cll.key (@Prod.snd @Int @Cll x_4))) ∧
  (((@Cll.value x_5) = (@Cll.value (@Prod.snd @Int @Cll x_4))) ∧
  (((@Cll.to x_5) = (@Cll.to (@Prod.snd @Int @Cll x_4))) ∧
  (((Value.slice (@Option.none @Addr) (0 : @Nat) (0 : @Nat)) = (Value.slice (@Option.none @Addr) (0 : @Nat) (0 : @Nat))) ∧
  (((0 : @Int) = (0 : @Int)) ∧
  (((0 : @Int) = (0 : @Int)) ∧
  ((@es = @es) ∧
  ((@Bool.false = @Bool.false) ∧
  (((0 : @Int) = (0 : @Int)) ∧
  ((@Bool.false = @Bool.false) ∧
  ((@es = @es) ∧
  (((0 : @Int) = (0 : @Int)) ∧
  (((0 : @Int) = (0 : @Int)) ∧
  (((0 : @Int) = (0 : @Int)) ∧
  (((0 : @Int) = (0 : @Int)) ∧
  (((-(1 : @Int)) = (-(1 : @Int))) ∧
  (((0 : @Int) = (0 : @Int)) ∧
  (((0 : @Int) = (0 : @Int)) ∧
  (((Value.slice (@Option.none @Addr) (0 : @Nat) (0 : @Nat)) = (Value.slice (@Option.none @Addr) (0 : @Nat) (0 : @Nat))) ∧
  (((0 : @Int) = (0 : @Int)) ∧
  (((Value.slice (@Option.none @Addr) (0 : @Nat) (0 : @Nat)) = (Value.slice (@Option.none @Addr) (0 : @Nat) (0 : @Nat))) ∧
  (((0 : @Int) = (0 : @Int)) ∧
  ((@Bool.false = @Bool.false) ∧
  ((@es = @es) ∧
  (((Value.slice (@Option.none @Addr) (0 : @Nat) (0 : @Nat)) = (Value.slice (@Option.none @Addr) (0 : @Nat) (0 : @Nat))) ∧
  (((Value.slice (@Option.none @Addr) (0 : @Nat) (0 : @Nat)) = (Value.slice (@Option.none @Addr) (0 : @Nat) (0 : @Nat))) ∧
  (((0 : @Int) = (0 : @Int)) ∧
  True)))))))))))))))))))))))))))) ∧
  ((((@Cll.kind x_5) = (@Cll.kind x_2)) ∧
  (((@Cll.key x_5) = (@Cll.key x_2)) ∧
  (((@Cll.value x_5) = (@Cll.value x_2)) ∧
  (((@Cll.to x_5) = (@Cll.to x_2)) ∧
  (((Value.slice (@Option.none @Addr) (0 : @Nat) (0 : @Nat)) = (Value.slice (@Option.none @Addr) (0 : @Nat) (0 : @Nat))) ∧
  (((0 : @Int) = (0 : @Int)) ∧
  (((0 : @Int) = (0 : @Int)) ∧
  ((@es = @es) ∧
  ((@Bool.false = @Bool.false) ∧
  (((0 : @Int) = (0 : @Int)) ∧
  ((@Bool.false = @Bool.false) ∧
  ((@es = @es) ∧
  (((0 : @Int) = (0 : @Int)) ∧
  (((0 : @Int) = (0 : @Int)) ∧
  (((0 : @Int) = (0 : @Int)) ∧
  (((0 : @Int) = (0 : @Int)) ∧
  (((-(1 : @Int)) = (-(1 : @Int))) ∧
  (((0 : @Int) = (0 : @Int)) ∧
  (((0 : @Int) = (0 : @Int)) ∧
  (((Value.slice (@Option.none @Addr) (0 : @Nat) (0 : @Nat)) = (Value.slice (@Option.none @Addr) (0 : @Nat) (0 : @Nat))) ∧
  (((0 : @Int) = (0 : @Int)) ∧
  (((Value.slice (@Option.none @Addr) (0 : @Nat) (0 : @Nat)) = (Value.slice (@Option.none @Addr) (0 : @Nat) (0 : @Nat))) ∧
  (((0 : @Int) = (0 : @Int)) ∧
  ((@Bool.false = @Bool.false) ∧
  ((@es = @es) ∧
  (((Value.slice (@Option.none @Addr) (0 : @Nat) (0 : @Nat)) = (Value.slice (@Option.none @Addr) (0 : @Nat) (0 : @Nat))) ∧
  (((Value.slice (@Option.none @Addr) (0 : @Nat) (0 : @Nat)) = (Value.slice (@Option.none @Addr) (0 : @Nat) (0 : @Nat))) ∧
  (((0 : @Int) = (0 : @Int)) ∧
  True)))))))))))))))))))))))))))) ∧
  True)) ∧
  (True ∧
  (∀ (y_5 : Unit), (True → (True ∧
  (cP (@BEq.beq @Int (@instBEqOfDecidableEq @Int @Int.instDecidableEq) (@Cll.kind c) (4 : @Int)) ((((AV.lit (Value.tuple (@List.toArray @Value (@List.nil @Value)))) = (AV.lit (Value.tuple (@List.toArray @Value (@List.nil @Value))))) ∧
  True) ∧
  (True ∧
  (∃ (x_6 : Unit), (True ∧
  (True ∧
  (True ∧
  (∀ (y_6 : Unit), (True → (True ∧
  ((AV.lit (Value.bool @Bool.true)) = (AV.lit (Value.bool @Bool.true)))))))))))) (cP (@BEq.beq @Int (@instBEqOfDecidableEq @Int @Int.instDecidableEq) (@Cll.kind c) (5 : @Int)) ((((AV.lit (Value.tuple (@List.toArray @Value (@List.nil @Value)))) = (AV.lit (Value.tuple (@List.toArray @Value (@List.nil @Value))))) ∧
  True) ∧
  (True ∧
  (∃ (x_6 : Unit), (True ∧
  (True ∧
  (True ∧
  (∀ (y_6 : Unit), (True → (True ∧
  ((AV.lit (Value.bool @Bool.true)) = (AV.lit (Value.bool @Bool.true)))))))))))) (∃ (x_6 : (@Prod @Own @Cll)), ((@Hd (@isT (@Cll.kind (@Prod.snd @Own @Cll x_6)))) ∧
  ((((0 : @Nat) = (0 : @Nat)) ∧
  (((0 : @Int) = (0 : @Int)) ∧
  ((((@Cll.kind (@Prod.snd @Own @Cll x_6)) = (@Cll.kind x_2)) ∧
  (((@Cll.key (@Prod.snd @Own @Cll x_6)) = (@Cll.key x_2)) ∧
  (((@Cll.value (@Prod.snd @Own @Cll x_6)) = (@Cll.value x_2)) ∧
  (((@Cll.to (@Prod.snd @Own @Cll x_6)) = (@Cll.to x_2)) ∧
  (((Value.slice (@Option.none @Addr) (0 : @Nat) (0 : @Nat)) = (Value.slice (@Option.none @Addr) (0 : @Nat) (0 : @Nat))) ∧
  (((0 : @Int) = (0 : @Int)) ∧
  (((0 : @Int) = (0 : @Int)) ∧
  ((@es = @es) ∧
  ((@Bool.false = @Bool.false) ∧
  (((0 : @Int) = (0 : @Int)) ∧
  ((@Bool.false = @Bool.false) ∧
  ((@es = @es) ∧
  (((0 : @Int) = (0 : @Int)) ∧
  (((0 : @Int) = (0 : @Int)) ∧
  (((0 : @Int) = (0 : @Int)) ∧
  (((0 : @Int) = (0 : @Int)) ∧
  (((-(1 : @Int)) = (-(1 : @Int))) ∧
  (((0 : @Int) = (0 : @Int)) ∧
  (((0 : @Int) = (0 : @Int)) ∧
  (((Value.slice (@Option.none @Addr) (0 : @Nat) (0 : @Nat)) = (Value.slice (@Option.none @Addr) (0 : @Nat) (0 : @Nat))) ∧
  (((0 : @Int) = (0 : @Int)) ∧
  (((Value.slice (@Option.none @Addr) (0 : @Nat) (0 : @Nat)) = (Value.slice (@Option.none @Addr) (0 : @Nat) (0 : @Nat))) ∧
  (((0 : @Int) = (0 : @Int)) ∧
  ((@Bool.false = @Bool.false) ∧
  ((@es = @es) ∧
  (((Value.slice (@Option.none @Addr) (0 : @Nat) (0 : @Nat)) = (Value.slice (@Option.none @Addr) (0 : @Nat) (0 : @Nat))) ∧
  (((Value.slice (@Option.none @Addr) (0 : @Nat) (0 : @Nat)) = (Value.slice (@Option.none @Addr) (0 : @Nat) (0 : @Nat))) ∧
  (((0 : @Int) = (0 : @Int)) ∧
  True)))))))))))))))))))))))))))) ∧
  True))) ∧
  ((((@Prod.fst @Own @Cll x_6) = y_3) ∧
  True) ∧
  (∀ (y_6 : Unit), (True → ((((AV.agg [(AV.lit (Value.int @IntKind.i64 (@Cll.kind x_2))), (AV.lit (Value.string (@Cll.key x_2))), (AV.lit (Value.string (@Cll.value x_2))), (AV.lit (Value.string (@Cll.to x_2))), (AV.lit (Value.slice (@Option.none @Addr) (0 : @Nat) (0 : @Nat))), (AV.lit (Value.int @IntKind.i64 (0 : @Int))), (AV.lit (Value.int @IntKind.u64 (0 : @Int))), (AV.lit (Value.string @es)), (AV.lit (Value.bool @Bool.false)), (AV.lit (Value.int @IntKind.i64 (0 : @Int))), (AV.lit (Value.bool @Bool.false)), (AV.lit (Value.string @es)), (AV.lit (Value.int @IntKind.u64 (0 : @Int))), (AV.lit (Value.int @IntKind.u64 (0 : @Int))), (AV.lit (Value.int @IntKind.i64 (0 : @Int))), (AV.lit (Value.int @IntKind.i64 (0 : @Int))), (AV.lit (Value.int @IntKind.i64 (-(1 : @Int)))), (AV.lit (Value.int @IntKind.i64 (0 : @Int))), (AV.lit (Value.int @IntKind.i64 (0 : @Int))), (AV.lit (Value.slice (@Option.none @Addr) (0 : @Nat) (0 : @Nat))), (AV.lit (Value.int @IntKind.i64 (0 : @Int))), (AV.lit (Value.slice (@Option.none @Addr) (0 : @Nat) (0 : @Nat))), (AV.lit (Value.int @IntKind.i64 (0 : @Int))), (AV.lit (Value.bool @Bool.false)), (AV.lit (Value.string @es)), (AV.lit (Value.slice (@Option.none @Addr) (0 : @Nat) (0 : @Nat))), (AV.lit (Value.slice (@Option.none @Addr) (0 : @Nat) (0 : @Nat))), (AV.lit (Value.int @IntKind.u64 (0 : @Int)))]) = (AV.agg [(AV.lit (Value.int @IntKind.i64 (@Cll.kind x_2))), (AV.lit (Value.string (@Cll.key x_2))), (AV.lit (Value.string (@Cll.value x_2))), (AV.lit (Value.string (@Cll.to x_2))), (AV.lit (Value.slice (@Option.none @Addr) (0 : @Nat) (0 : @Nat))), (AV.lit (Value.int @IntKind.i64 (0 : @Int))), (AV.lit (Value.int @IntKind.u64 (0 : @Int))), (AV.lit (Value.string @es)), (AV.lit (Value.bool @Bool.false)), (AV.lit (Value.int @IntKind.i64 (0 : @Int))), (AV.lit (Value.bool @Bool.false)), (AV.lit (Value.string @es)), (AV.lit (Value.int @IntKind.u64 (0 : @Int))), (AV.lit (Value.int @IntKind.u64 (0 : @Int))), (AV.lit (Value.int @IntKind.i64 (0 : @Int))), (AV.lit (Value.int @IntKind.i64 (0 : @Int))), (AV.lit (Value.int @IntKind.i64 (-(1 : @Int)))), (AV.lit (Value.int @IntKind.i64 (0 : @Int))), (AV.lit (Value.int @IntKind.i64 (0 : @Int))), (AV.lit (Value.slice (@Option.none @Addr) (0 : @Nat) (0 : @Nat))), (AV.lit (Value.int @IntKind.i64 (0 : @Int))), (AV.lit (Value.slice (@Option.none @Addr) (0 : @Nat) (0 : @Nat))), (AV.lit (Value.int @IntKind.i64 (0 : @Int))), (AV.lit (Value.bool @Bool.false)), (AV.lit (Value.string @es)), (AV.lit (Value.slice (@Option.none @Addr) (0 : @Nat) (0 : @Nat))), (AV.lit (Value.slice (@Option.none @Addr) (0 : @Nat) (0 : @Nat))), (AV.lit (Value.int @IntKind.u64 (0 : @Int)))])) ∧
  True) ∧
  (∃ (x_7 : @Cll), (True ∧
  (((((@Cll.kind x_7) = (@Cll.kind (@Prod.snd @Own @Cll x_6))) ∧
  (((@Cll.key x_7) = (@Cll.key (@Prod.snd @Own @Cll x_6))) ∧
  (((@Cll.value x_7) = (@Cll.value (@Prod.snd @Own @Cll x_6))) ∧
  (((@Cll.to x_7) = (@Cll.to (@Prod.snd @Own @Cll x_6))) ∧
  (((Value.slice (@Option.none @Addr) (0 : @Nat) (0 : @Nat)) = (Value.slice (@Option.none @Addr) (0 : @Nat) (0 : @Nat))) ∧
  (((0 : @Int) = (0 : @Int)) ∧
  (((0 : @Int) = (0 : @Int)) ∧
  ((@es = @es) ∧
  ((@Bool.false = @Bool.false) ∧
  (((0 : @Int) = (0 : @Int)) ∧
  ((@Bool.false = @Bool.false) ∧
  ((@es = @es) ∧
  (((0 : @Int) = (0 : @Int)) ∧
  (((0 : @Int) = (0 : @Int)) ∧
  (((0 : @Int) = (0 : @Int)) ∧
  (((0 : @Int) = (0 : @Int)) ∧
  (((-(1 : @Int)) = (-(1 : @Int))) ∧
  (((0 : @Int) = (0 : @Int)) ∧
  (((0 : @Int) = (0 : @Int)) ∧
  (((Value.slice (@Option.none @Addr) (0 : @Nat) (0 : @Nat)) = (Value.slice (@Option.none @Addr) (0 : @Nat) (0 : @Nat))) ∧
  (((0 : @Int) = (0 : @Int)) ∧
  (((Value.slice (@Option.none @Addr) (0 : @Nat) (0 : @Nat)) = (Value.slice (@Option.none @Addr) (0 : @Nat) (0 : @Nat))) ∧
  (((0 : @Int) = (0 : @Int)) ∧
  ((@Bool.false = @Bool.false) ∧
  ((@es = @es) ∧
  (((Value.slice (@Option.none @Addr) (0 : @Nat) (0 : @Nat)) = (Value.slice (@Option.none @Addr) (0 : @Nat) (0 : @Nat))) ∧
  (((Value.slice (@Option.none @Addr) (0 : @Nat) (0 : @Nat)) = (Value.slice (@Option.none @Addr) (0 : @Nat) (0 : @Nat))) ∧
  (((0 : @Int) = (0 : @Int)) ∧
  True)))))))))))))))))))))))))))) ∧
  ((((@Cll.kind x_7) = (@Cll.kind x_2)) ∧
  (((@Cll.key x_7) = (@Cll.key x_2)) ∧
  (((@Cll.value x_7) = (@Cll.value x_2)) ∧
  (((@Cll.to x_7) = (@Cll.to x_2)) ∧
  (((Value.slice (@Option.none @Addr) (0 : @Nat) (0 : @Nat)) = (Value.slice (@Option.none @Addr) (0 : @Nat) (0 : @Nat))) ∧
  (((0 : @Int) = (0 : @Int)) ∧
  (((0 : @Int) = (0 : @Int)) ∧
  ((@es = @es) ∧
  ((@Bool.false = @Bool.false) ∧
  (((0 : @Int) = (0 : @Int)) ∧
  ((@Bool.false = @Bool.false) ∧
  ((@es = @es) ∧
  (((0 : @Int) = (0 : @Int)) ∧
  (((0 : @Int) = (0 : @Int)) ∧
  (((0 : @Int) = (0 : @Int)) ∧
  (((0 : @Int) = (0 : @Int)) ∧
  (((-(1 : @Int)) = (-(1 : @Int))) ∧
  (((0 : @Int) = (0 : @Int)) ∧
  (((0 : @Int) = (0 : @Int)) ∧
  (((Value.slice (@Option.none @Addr) (0 : @Nat) (0 : @Nat)) = (Value.slice (@Option.none @Addr) (0 : @Nat) (0 : @Nat))) ∧
  (((0 : @Int) = (0 : @Int)) ∧
  (((Value.slice (@Option.none @Addr) (0 : @Nat) (0 : @Nat)) = (Value.slice (@Option.none @Addr) (0 : @Nat) (0 : @Nat))) ∧
  (((0 : @Int) = (0 : @Int)) ∧
  ((@Bool.false = @Bool.false) ∧
  ((@es = @es) ∧
  (((Value.slice (@Option.none @Addr) (0 : @Nat) (0 : @Nat)) = (Value.slice (@Option.none @Addr) (0 : @Nat) (0 : @Nat))) ∧
  (((Value.slice (@Option.none @Addr) (0 : @Nat) (0 : @Nat)) = (Value.slice (@Option.none @Addr) (0 : @Nat) (0 : @Nat))) ∧
  (((0 : @Int) = (0 : @Int)) ∧
  True)))))))))))))))))))))))))))) ∧
  True)) ∧
  (True ∧
  (∀ (y_7 : Unit), (True → (True ∧
  (∃ (x_8 : Unit), (True ∧
  (True ∧
  (True ∧
  (∀ (y_8 : Unit), (True → (True ∧
  ((AV.lit (Value.bool @Bool.true)) = (AV.lit (Value.bool @Bool.true)))))))))))))))))))))))))))))))))))))))))))))))))))))) ∧
  (∀ (y_1 : Unit), ((@Hd ((1 : @Nat) ≤ (@Cll.gn x_1))) → (∃ (x_2 : @Cll), ((@Hd (@Cll.ok x_2)) ∧
  (((((@Cll.kind x_2) = (@Cll.kind x_1)) ∧
  (((@Cll.key x_2) = (@Cll.key x_1)) ∧
  (((@Cll.value x_2) = (@Cll.value x_1)) ∧
  (((@Cll.to x_2) = (@Cll.to x_1)) ∧
  ((((0 : @Nat) = (0 : @Nat)) ∧
  ((@Cll.gn x_2) = (@Cll.gn x_1))) ∧
  True))))) ∧
  True) ∧
  (((((@Cll.gn x_2) = (@Cll.gn x_1)) ∧
  (∀ (q : @Nat), ((q < (@Cll.gn x_2)) → ([(Value.int @IntKind.i64 (@Mem.kind (@Cll.g x_2 q))), (Value.string (@Mem.key (@Cll.g x_2 q))), (Value.string (@Mem.value (@Cll.g x_2 q))), (Value.string (@Mem.to (@Cll.g x_2 q))), (Value.slice (@Mem.gp (@Cll.g x_2 q)) (@Mem.gn (@Cll.g x_2 q)) (@Mem.gc (@Cll.g x_2 q)))] = [(Value.int @IntKind.i64 (@Mem.kind (@Cll.g x_1 q))), (Value.string (@Mem.key (@Cll.g x_1 q))), (Value.string (@Mem.value (@Cll.g x_1 q))), (Value.string (@Mem.to (@Cll.g x_1 q))), (Value.slice (@Mem.gp (@Cll.g x_1 q)) (@Mem.gn (@Cll.g x_1 q)) (@Mem.gc (@Cll.g x_1 q)))])))) ∧
  True) ∧
  (∀ (y_2 : (@Out.Y (@Ctr.X @beginWC) (@Out.mk @Cll @PS (fun (x_3 : @Cll) => (fun (x_4 : @PS) => True)) (fun (c_1 : @Cll) => (fun (x_3 : @PS) => (@Cll.frW c_1 (1 : @Nat)))) (2 : @Nat) (fun (c_1 : @Cll) => (fun (ps : @PS) => [(@roomC (@rowG c_1)), (@roomC (@rowP c_1 ps))]))))), (True → (∃ (x_3 : Unit), (True ∧
  ((((10 : @Int) = (10 : @Int)) ∧
  (((1 : @Int) = (1 : @Int)) ∧
  True)) ∧
  (True ∧
  (∀ (y_3 : @Own), ((@Hd (@isMem @sSAM @sSAO y_3)) → (∃ (x_4 : (@Prod @Int @CP)), ((@Hd (@CP.ok (@Prod.snd @Int @CP x_4))) ∧
  ((((Value.pointer (@Option.none @Addr)) = (Value.pointer (@Option.none @Addr))) ∧
  (((@Prod.fst @Int @CP x_4) = t) ∧
  ((((@Cll.kind (@CP.c (@Prod.snd @Int @CP x_4))) = (@Cll.kind x_2)) ∧
  (((@Cll.key (@CP.c (@Prod.snd @Int @CP x_4))) = (@Cll.key x_2)) ∧
  (((@Cll.value (@CP.c (@Prod.snd @Int @CP x_4))) = (@Cll.value x_2)) ∧
  (((@Cll.to (@CP.c (@Prod.snd @Int @CP x_4))) = (@Cll.to x_2)) ∧
  ((((0 : @Nat) = (0 : @Nat)) ∧
  ((@Cll.gn (@CP.c (@Prod.snd @Int @CP x_4))) = (@Cll.gn x_2))) ∧
  (((0 : @Int) = (0 : @Int)) ∧
  (((0 : @Int) = (0 : @Int)) ∧
  ((@es = @es) ∧
  ((@Bool.false = @Bool.false) ∧
  (((0 : @Int) = (0 : @Int)) ∧
  ((@Bool.false = @Bool.false) ∧
  ((@es = @es) ∧
  (((0 : @Int) = (0 : @Int)) ∧
  (((0 : @Int) = (0 : @Int)) ∧
  (((0 : @Int) = (0 : @Int)) ∧
  (((0 : @Int) = (0 : @Int)) ∧
  (((-(1 : @Int)) = (-(1 : @Int))) ∧
  (((0 : @Int) = (0 : @Int)) ∧
  (((0 : @Int) = (0 : @Int)) ∧
  (((Value.slice (@Option.none @Addr) (0 : @Nat) (0 : @Nat)) = (Value.slice (@Option.none @Addr) (0 : @Nat) (0 : @Nat))) ∧
  (((0 : @Int) = (0 : @Int)) ∧
  (((Value.slice (@Option.none @Addr) (0 : @Nat) (0 : @Nat)) = (Value.slice (@Option.none @Addr) (0 : @Nat) (0 : @Nat))) ∧
  (((0 : @Int) = (0 : @Int)) ∧
  ((@Bool.false = @Bool.false) ∧
  ((@es = @es) ∧
  (((Value.slice (@Option.none @Addr) (0 : @Nat) (0 : @Nat)) = (Value.slice (@Option.none @Addr) (0 : @Nat) (0 : @Nat))) ∧
  (((Value.slice (@Option.none @Addr) (0 : @Nat) (0 : @Nat)) = (Value.slice (@Option.none @Addr) (0 : @Nat) (0 : @Nat))) ∧
  (((0 : @Int) = (0 : @Int)) ∧
  True)))))))))))))))))))))))))))) ∧
  True))) ∧
  (((((@Cll.gn (@CP.c (@Prod.snd @Int @CP x_4))) = (@Cll.gn x_2)) ∧
  (∀ (q : @Nat), ((q < (@Cll.gn (@CP.c (@Prod.snd @Int @CP x_4)))) → ([(Value.int @IntKind.i64 (@Mem.kind (@Cll.g (@CP.c (@Prod.snd @Int @CP x_4)) q))), (Value.string (@Mem.key (@Cll.g (@CP.c (@Prod.snd @Int @CP x_4)) q))), (Value.string (@Mem.value (@Cll.g (@CP.c (@Prod.snd @Int @CP x_4)) q))), (Value.string (@Mem.to (@Cll.g (@CP.c (@Prod.snd @Int @CP x_4)) q))), (Value.slice (@CP.p (@Prod.snd @Int @CP x_4) q) (0 : @Nat) (0 : @Nat))] = [(Value.int @IntKind.i64 (@Mem.kind (@Cll.g x_2 q))), (Value.string (@Mem.key (@Cll.g x_2 q))), (Value.string (@Mem.value (@Cll.g x_2 q))), (Value.string (@Mem.to (@Cll.g x_2 q))), (Value.slice (y_2 q) (0 : @Nat) (0 : @Nat))])))) ∧
  True) ∧
  (∀ (y_4 : (@Out.Y (@Ctr.X @stW) (@Out.mk (@Prod @Int @CP) @PS (fun (x_5 : (@Prod @Int @CP)) => (fun (x_6 : @PS) => True)) (fun (x_5 : (@Prod @Int @CP)) => (fun (x_6 : @PS) => (@Cll.frW (@CP.c (@Prod.snd @Int @CP x_5)) (1 : @Nat)))) (2 : @Nat) (fun (x_5 : (@Prod @Int @CP)) => (fun (ps : @PS) => [(@roomC (@CP.cs (@Prod.snd @Int @CP x_5))), (@roomC (@rowP (@CP.c (@Prod.snd @Int @CP x_5)) ps))]))))), (True → ((((AV.agg [(AV.lit (Value.int @IntKind.i64 (@Cll.kind x_2))), (AV.lit (Value.string (@Cll.key x_2))), (AV.lit (Value.string (@Cll.value x_2))), (AV.lit (Value.string (@Cll.to x_2))), (AV.slW (3 : Nat) (0 : @Nat) (5 : @Nat) (@Cll.gn x_2)), (AV.lit (Value.int @IntKind.i64 (0 : @Int))), (AV.lit (Value.int @IntKind.u64 (0 : @Int))), (AV.lit (Value.string @es)), (AV.lit (Value.bool @Bool.false)), (AV.lit (Value.int @IntKind.i64 (0 : @Int))), (AV.lit (Value.bool @Bool.false)), (AV.lit (Value.string @es)), (AV.lit (Value.int @IntKind.u64 (0 : @Int))), (AV.lit (Value.int @IntKind.u64 (0 : @Int))), (AV.lit (Value.int @IntKind.i64 (0 : @Int))), (AV.lit (Value.int @IntKind.i64 (0 : @Int))), (AV.lit (Value.int @IntKind.i64 (-(1 : @Int)))), (AV.lit (Value.int @IntKind.i64 (0 : @Int))), (AV.lit (Value.int @IntKind.i64 (0 : @Int))), (AV.lit (Value.slice (@Option.none @Addr) (0 : @Nat) (0 : @Nat))), (AV.lit (Value.int @IntKind.i64 (0 : @Int))), (AV.lit (Value.slice (@Option.none @Addr) (0 : @Nat) (0 : @Nat))), (AV.lit (Value.int @IntKind.i64 (0 : @Int))), (AV.lit (Value.bool @Bool.false)), (AV.lit (Value.string @es)), (AV.lit (Value.slice (@Option.none @Addr) (0 : @Nat) (0 : @Nat))), (AV.lit (Value.slice (@Option.none @Addr) (0 : @Nat) (0 : @Nat))), (AV.lit (Value.int @IntKind.u64 (0 : @Int)))]) = (AV.agg [(AV.lit (Value.int @IntKind.i64 (@Cll.kind x_2))), (AV.lit (Value.string (@Cll.key x_2))), (AV.lit (Value.string (@Cll.value x_2))), (AV.lit (Value.string (@Cll.to x_2))), (AV.slW (3 : Nat) (0 : @Nat) (5 : @Nat) (@Cll.gn x_2)), (AV.lit (Value.int @IntKind.i64 (0 : @Int))), (AV.lit (Value.int @IntKind.u64 (0 : @Int))), (AV.lit (Value.string @es)), (AV.lit (Value.bool @Bool.false)), (AV.lit (Value.int @IntKind.i64 (0 : @Int))), (AV.lit (Value.bool @Bool.false)), (AV.lit (Value.string @es)), (AV.lit (Value.int @IntKind.u64 (0 : @Int))), (AV.lit (Value.int @IntKind.u64 (0 : @Int))), (AV.lit (Value.int @IntKind.i64 (0 : @Int))), (AV.lit (Value.int @IntKind.i64 (0 : @Int))), (AV.lit (Value.int @IntKind.i64 (-(1 : @Int)))), (AV.lit (Value.int @IntKind.i64 (0 : @Int))), (AV.lit (Value.int @IntKind.i64 (0 : @Int))), (AV.lit (Value.slice (@Option.none @Addr) (0 : @Nat) (0 : @Nat))), (AV.lit (Value.int @IntKind.i64 (0 : @Int))), (AV.lit (Value.slice (@Option.none @Addr) (0 : @Nat) (0 : @Nat))), (AV.lit (Value.int @IntKind.i64 (0 : @Int))), (AV.lit (Value.bool @Bool.false)), (AV.lit (Value.string @es)), (AV.lit (Value.slice (@Option.none @Addr) (0 : @Nat) (0 : @Nat))), (AV.lit (Value.slice (@Option.none @Addr) (0 : @Nat) (0 : @Nat))), (AV.lit (Value.int @IntKind.u64 (0 : @Int)))])) ∧
  True) ∧
  (∃ (x_5 : @CQ), ((@Hd (@CQ.ok x_5)) ∧
  (((((@Cll.kind (@CQ.c x_5)) = (@Cll.kind (@CP.c (@Prod.snd @Int @CP x_4)))) ∧
  (((@Cll.key (@CQ.c x_5)) = (@Cll.key (@CP.c (@Prod.snd @Int @CP x_4)))) ∧
  (((@Cll.value (@CQ.c x_5)) = (@Cll.value (@CP.c (@Prod.snd @Int @CP x_4)))) ∧
  (((@Cll.to (@CQ.c x_5)) = (@Cll.to (@CP.c (@Prod.snd @Int @CP x_4)))) ∧
  ((((0 : @Nat) = (0 : @Nat)) ∧
  ((@Cll.gn (@CQ.c x_5)) = (@Cll.gn (@CP.c (@Prod.snd @Int @CP x_4))))) ∧
  (((0 : @Int) = (0 : @Int)) ∧
  (((0 : @Int) = (0 : @Int)) ∧
  ((@es = @es) ∧
  ((@Bool.false = @Bool.false) ∧
  (((0 : @Int) = (0 : @Int)) ∧
  ((@Bool.false = @Bool.false) ∧
  ((@es = @es) ∧
  (((0 : @Int) = (0 : @Int)) ∧
  (((0 : @Int) = (0 : @Int)) ∧
  (((0 : @Int) = (0 : @Int)) ∧
  (((0 : @Int) = (0 : @Int)) ∧
  (((-(1 : @Int)) = (-(1 : @Int))) ∧
  (((0 : @Int) = (0 : @Int)) ∧
  (((0 : @Int) = (0 : @Int)) ∧
  (((Value.slice (@Option.none @Addr) (0 : @Nat) (0 : @Nat)) = (Value.slice (@Option.none @Addr) (0 : @Nat) (0 : @Nat))) ∧
  (((0 : @Int) = (0 : @Int)) ∧
  (((Value.slice (@Option.none @Addr) (0 : @Nat) (0 : @Nat)) = (Value.slice (@Option.none @Addr) (0 : @Nat) (0 : @Nat))) ∧
  (((0 : @Int) = (0 : @Int)) ∧
  ((@Bool.false = @Bool.false) ∧
  ((@es = @es) ∧
  (((Value.slice (@Option.none @Addr) (0 : @Nat) (0 : @Nat)) = (Value.slice (@Option.none @Addr) (0 : @Nat) (0 : @Nat))) ∧
  (((Value.slice (@Option.none @Addr) (0 : @Nat) (0 : @Nat)) = (Value.slice (@Option.none @Addr) (0 : @Nat) (0 : @Nat))) ∧
  (((0 : @Int) = (0 : @Int)) ∧
  True)))))))))))))))))))))))))))) ∧
  ((((@Cll.kind (@CQ.c x_5)) = (@Cll.kind x_2)) ∧
  (((@Cll.key (@CQ.c x_5)) = (@Cll.key x_2)) ∧
  (((@Cll.value (@CQ.c x_5)) = (@Cll.value x_2)) ∧
  (((@Cll.to (@CQ.c x_5)) = (@Cll.to x_2)) ∧
  ((((0 : @Nat) = (0 : @Nat)) ∧
  ((@Cll.gn (@CQ.c x_5)) = (@Cll.gn x_2))) ∧
  (((0 : @Int) = (0 : @Int)) ∧
  (((0 : @Int) = (0 : @Int)) ∧
  ((@es = @es) ∧
  ((@Bool.false = @Bool.false) ∧
  (((0 : @Int) = (0 : @Int)) ∧
  ((@Bool.false = @Bool.false) ∧
  ((@es = @es) ∧
  (((0 : @Int) = (0 : @Int)) ∧
  (((0 : @Int) = (0 : @Int)) ∧
  (((0 : @Int) = (0 : @Int)) ∧
  (((0 : @Int) = (0 : @Int)) ∧
  (((-(1 : @Int)) = (-(1 : @Int))) ∧
  (((0 : @Int) = (0 : @Int)) ∧
  (((0 : @Int) = (0 : @Int)) ∧
  (((Value.slice (@Option.none @Addr) (0 : @Nat) (0 : @Nat)) = (Value.slice (@Option.none @Addr) (0 : @Nat) (0 : @Nat))) ∧
  (((0 : @Int) = (0 : @Int)) ∧
  (((Value.slice (@Option.none @Addr) (0 : @Nat) (0 : @Nat)) = (Value.slice (@Option.none @Addr) (0 : @Nat) (0 : @Nat))) ∧
  (((0 : @Int) = (0 : @Int)) ∧
  ((@Bool.false = @Bool.false) ∧
  ((@es = @es) ∧
  (((Value.slice (@Option.none @Addr) (0 : @Nat) (0 : @Nat)) = (Value.slice (@Option.none @Addr) (0 : @Nat) (0 : @Nat))) ∧
  (((Value.slice (@Option.none @Addr) (0 : @Nat) (0 : @Nat)) = (Value.slice (@Option.none @Addr) (0 : @Nat) (0 : @Nat))) ∧
  (((0 : @Int) = (0 : @Int)) ∧
  True)))))))))))))))))))))))))))) ∧
  True)) ∧
  (((((@Cll.gn (@CQ.c x_5)) = (@Cll.gn (@CP.c (@Prod.snd @Int @CP x_4)))) ∧
  (∀ (q : @Nat), ((q < (@Cll.gn (@CQ.c x_5))) → ([(Value.int @IntKind.i64 (@Mem.kind (@Cll.g (@CQ.c x_5) q))), (Value.string (@Mem.key (@Cll.g (@CQ.c x_5) q))), (Value.string (@Mem.value (@Cll.g (@CQ.c x_5) q))), (Value.string (@Mem.to (@Cll.g (@CQ.c x_5) q))), (Value.slice (@CQ.p x_5 q) (0 : @Nat) (0 : @Nat))] = [(Value.int @IntKind.i64 (@Mem.kind (@Cll.g (@CP.c (@Prod.snd @Int @CP x_4)) q))), (Value.string (@Mem.key (@Cll.g (@CP.c (@Prod.snd @Int @CP x_4)) q))), (Value.string (@Mem.value (@Cll.g (@CP.c (@Prod.snd @Int @CP x_4)) q))), (Value.string (@Mem.to (@Cll.g (@CP.c (@Prod.snd @Int @CP x_4)) q))), (Value.slice (y_4 q) (0 : @Nat) (0 : @Nat))])))) ∧
  ((((@Cll.gn (@CQ.c x_5)) = (@Cll.gn (@CP.c (@Prod.snd @Int @CP x_4)))) ∧
  (∀ (q : @Nat), ((q < (@Cll.gn (@CQ.c x_5))) → ([(Value.int @IntKind.i64 (@Mem.kind (@Cll.g (@CQ.c x_5) q))), (Value.string (@Mem.key (@Cll.g (@CQ.c x_5) q))), (Value.string (@Mem.value (@Cll.g (@CQ.c x_5) q))), (Value.string (@Mem.to (@Cll.g (@CQ.c x_5) q))), (Value.slice (@CQ.q x_5 q) (0 : @Nat) (0 : @Nat))] = [(Value.int @IntKind.i64 (@Mem.kind (@Cll.g (@CP.c (@Prod.snd @Int @CP x_4)) q))), (Value.string (@Mem.key (@Cll.g (@CP.c (@Prod.snd @Int @CP x_4)) q))), (Value.string (@Mem.value (@Cll.g (@CP.c (@Prod.snd @Int @CP x_4)) q))), (Value.string (@Mem.to (@Cll.g (@CP.c (@Prod.snd @Int @CP x_4)) q))), (Value.slice (@CP.p (@Prod.snd @Int @CP x_4) q) (0 : @Nat) (0 : @Nat))])))) ∧
  True)) ∧
  (∀ (y_5 : Unit), (True → (True ∧
  (cP (@BEq.beq @Int (@instBEqOfDecidableEq @Int @Int.instDecidableEq) (@Cll.kind c) (4 : @Int)) ((((AV.lit (Value.tuple (@List.toArray @Value (@List.nil @Value)))) = (AV.lit (Value.tuple (@List.toArray @Value (@List.nil @Value))))) ∧
  True) ∧
  (True ∧
  (∃ (x_6 : Unit), (True ∧
  (True ∧
  (True ∧
  (∀ (y_6 : Unit), (True → (True ∧
  ((AV.lit (Value.bool @Bool.true)) = (AV.lit (Value.bool @Bool.true)))))))))))) (cP (@BEq.beq @Int (@instBEqOfDecidableEq @Int @Int.instDecidableEq) (@Cll.kind c) (5 : @Int)) ((((AV.lit (Value.tuple (@List.toArray @Value (@List.nil @Value)))) = (AV.lit (Value.tuple (@List.toArray @Value (@List.nil @Value))))) ∧
  True) ∧
  (True ∧
  (∃ (x_6 : Unit), (True ∧
  (True ∧
  (True ∧
  (∀ (y_6 : Unit), (True → (True ∧
  ((AV.lit (Value.bool @Bool.true)) = (AV.lit (Value.bool @Bool.true)))))))))))) (∃ (x_6 : (@Prod @Own @CP)), ((@Hd ((@CP.ok (@Prod.snd @Own @CP x_6)) ∧
  (@isT (@Cll.kind (@CP.c (@Prod.snd @Own @CP x_6)))))) ∧
  ((((0 : @Nat) = (0 : @Nat)) ∧
  (((0 : @Int) = (0 : @Int)) ∧
  ((((@Cll.kind (@CP.c (@Prod.snd @Own @CP x_6))) = (@Cll.kind x_2)) ∧
  (((@Cll.key (@CP.c (@Prod.snd @Own @CP x_6))) = (@Cll.key x_2)) ∧
  (((@Cll.value (@CP.c (@Prod.snd @Own @CP x_6))) = (@Cll.value x_2)) ∧
  (((@Cll.to (@CP.c (@Prod.snd @Own @CP x_6))) = (@Cll.to x_2)) ∧
  ((((0 : @Nat) = (0 : @Nat)) ∧
  ((@Cll.gn (@CP.c (@Prod.snd @Own @CP x_6))) = (@Cll.gn x_2))) ∧
  (((0 : @Int) = (0 : @Int)) ∧
  (((0 : @Int) = (0 : @Int)) ∧
  ((@es = @es) ∧
  ((@Bool.false = @Bool.false) ∧
  (((0 : @Int) = (0 : @Int)) ∧
  ((@Bool.false = @Bool.false) ∧
  ((@es = @es) ∧
  (((0 : @Int) = (0 : @Int)) ∧
  (((0 : @Int) = (0 : @Int)) ∧
  (((0 : @Int) = (0 : @Int)) ∧
  (((0 : @Int) = (0 : @Int)) ∧
  (((-(1 : @Int)) = (-(1 : @Int))) ∧
  (((0 : @Int) = (0 : @Int)) ∧
  (((0 : @Int) = (0 : @Int)) ∧
  (((Value.slice (@Option.none @Addr) (0 : @Nat) (0 : @Nat)) = (Value.slice (@Option.none @Addr) (0 : @Nat) (0 : @Nat))) ∧
  (((0 : @Int) = (0 : @Int)) ∧
  (((Value.slice (@Option.none @Addr) (0 : @Nat) (0 : @Nat)) = (Value.slice (@Option.none @Addr) (0 : @Nat) (0 : @Nat))) ∧
  (((0 : @Int) = (0 : @Int)) ∧
  ((@Bool.false = @Bool.false) ∧
  ((@es = @es) ∧
  (((Value.slice (@Option.none @Addr) (0 : @Nat) (0 : @Nat)) = (Value.slice (@Option.none @Addr) (0 : @Nat) (0 : @Nat))) ∧
  (((Value.slice (@Option.none @Addr) (0 : @Nat) (0 : @Nat)) = (Value.slice (@Option.none @Addr) (0 : @Nat) (0 : @Nat))) ∧
  (((0 : @Int) = (0 : @Int)) ∧
  True)))))))))))))))))))))))))))) ∧
  True))) ∧
  ((((@Prod.fst @Own @CP x_6) = y_3) ∧
  ((((@Cll.gn (@CP.c (@Prod.snd @Own @CP x_6))) = (@Cll.gn (@CQ.c x_5))) ∧
  (∀ (q : @Nat), ((q < (@Cll.gn (@CP.c (@Prod.snd @Own @CP x_6)))) → ([(Value.int @IntKind.i64 (@Mem.kind (@Cll.g (@CP.c (@Prod.snd @Own @CP x_6)) q))), (Value.string (@Mem.key (@Cll.g (@CP.c (@Prod.snd @Own @CP x_6)) q))), (Value.string (@Mem.value (@Cll.g (@CP.c (@Prod.snd @Own @CP x_6)) q))), (Value.string (@Mem.to (@Cll.g (@CP.c (@Prod.snd @Own @CP x_6)) q))), (Value.slice (@CP.p (@Prod.snd @Own @CP x_6) q) (0 : @Nat) (0 : @Nat))] = [(Value.int @IntKind.i64 (@Mem.kind (@Cll.g (@CQ.c x_5) q))), (Value.string (@Mem.key (@Cll.g (@CQ.c x_5) q))), (Value.string (@Mem.value (@Cll.g (@CQ.c x_5) q))), (Value.string (@Mem.to (@Cll.g (@CQ.c x_5) q))), (Value.slice (@CQ.q x_5 q) (0 : @Nat) (0 : @Nat))])))) ∧
  True)) ∧
  (∀ (y_6 : (@Out.Y (@Ctr.X (@saW @isT)) (@Out.mk (@Prod @Own @CP) @PS (fun (x_7 : (@Prod @Own @CP)) => (fun (x_8 : @PS) => True)) (fun (x_7 : (@Prod @Own @CP)) => (fun (x_8 : @PS) => (@Cll.frW (@CP.c (@Prod.snd @Own @CP x_7)) (2 : @Nat)))) (3 : @Nat) (fun (x_7 : (@Prod @Own @CP)) => (fun (ps : @PS) => [(@AObj.abs (@Prod.fst @Own @CP x_7)), (@roomC (@CP.cs (@Prod.snd @Own @CP x_7))), (@roomC (@rowP (@CP.c (@Prod.snd @Own @CP x_7)) ps))]))))), (True → ((((AV.agg [(AV.lit (Value.int @IntKind.i64 (@Cll.kind x_2))), (AV.lit (Value.string (@Cll.key x_2))), (AV.lit (Value.string (@Cll.value x_2))), (AV.lit (Value.string (@Cll.to x_2))), (AV.slW (3 : Nat) (0 : @Nat) (5 : @Nat) (@Cll.gn x_2)), (AV.lit (Value.int @IntKind.i64 (0 : @Int))), (AV.lit (Value.int @IntKind.u64 (0 : @Int))), (AV.lit (Value.string @es)), (AV.lit (Value.bool @Bool.false)), (AV.lit (Value.int @IntKind.i64 (0 : @Int))), (AV.lit (Value.bool @Bool.false)), (AV.lit (Value.string @es)), (AV.lit (Value.int @IntKind.u64 (0 : @Int))), (AV.lit (Value.int @IntKind.u64 (0 : @Int))), (AV.lit (Value.int @IntKind.i64 (0 : @Int))), (AV.lit (Value.int @IntKind.i64 (0 : @Int))), (AV.lit (Value.int @IntKind.i64 (-(1 : @Int)))), (AV.lit (Value.int @IntKind.i64 (0 : @Int))), (AV.lit (Value.int @IntKind.i64 (0 : @Int))), (AV.lit (Value.slice (@Option.none @Addr) (0 : @Nat) (0 : @Nat))), (AV.lit (Value.int @IntKind.i64 (0 : @Int))), (AV.lit (Value.slice (@Option.none @Addr) (0 : @Nat) (0 : @Nat))), (AV.lit (Value.int @IntKind.i64 (0 : @Int))), (AV.lit (Value.bool @Bool.false)), (AV.lit (Value.string @es)), (AV.lit (Value.slice (@Option.none @Addr) (0 : @Nat) (0 : @Nat))), (AV.lit (Value.slice (@Option.none @Addr) (0 : @Nat) (0 : @Nat))), (AV.lit (Value.int @IntKind.u64 (0 : @Int)))]) = (AV.agg [(AV.lit (Value.int @IntKind.i64 (@Cll.kind x_2))), (AV.lit (Value.string (@Cll.key x_2))), (AV.lit (Value.string (@Cll.value x_2))), (AV.lit (Value.string (@Cll.to x_2))), (AV.slW (3 : Nat) (0 : @Nat) (5 : @Nat) (@Cll.gn x_2)), (AV.lit (Value.int @IntKind.i64 (0 : @Int))), (AV.lit (Value.int @IntKind.u64 (0 : @Int))), (AV.lit (Value.string @es)), (AV.lit (Value.bool @Bool.false)), (AV.lit (Value.int @IntKind.i64 (0 : @Int))), (AV.lit (Value.bool @Bool.false)), (AV.lit (Value.string @es)), (AV.lit (Value.int @IntKind.u64 (0 : @Int))), (AV.lit (Value.int @IntKind.u64 (0 : @Int))), (AV.lit (Value.int @IntKind.i64 (0 : @Int))), (AV.lit (Value.int @IntKind.i64 (0 : @Int))), (AV.lit (Value.int @IntKind.i64 (-(1 : @Int)))), (AV.lit (Value.int @IntKind.i64 (0 : @Int))), (AV.lit (Value.int @IntKind.i64 (0 : @Int))), (AV.lit (Value.slice (@Option.none @Addr) (0 : @Nat) (0 : @Nat))), (AV.lit (Value.int @IntKind.i64 (0 : @Int))), (AV.lit (Value.slice (@Option.none @Addr) (0 : @Nat) (0 : @Nat))), (AV.lit (Value.int @IntKind.i64 (0 : @Int))), (AV.lit (Value.bool @Bool.false)), (AV.lit (Value.string @es)), (AV.lit (Value.slice (@Option.none @Addr) (0 : @Nat) (0 : @Nat))), (AV.lit (Value.slice (@Option.none @Addr) (0 : @Nat) (0 : @Nat))), (AV.lit (Value.int @IntKind.u64 (0 : @Int)))])) ∧
  True) ∧
  (∃ (x_7 : @CQ), ((@Hd (@CQ.ok x_7)) ∧
  (((((@Cll.kind (@CQ.c x_7)) = (@Cll.kind (@CP.c (@Prod.snd @Own @CP x_6)))) ∧
  (((@Cll.key (@CQ.c x_7)) = (@Cll.key (@CP.c (@Prod.snd @Own @CP x_6)))) ∧
  (((@Cll.value (@CQ.c x_7)) = (@Cll.value (@CP.c (@Prod.snd @Own @CP x_6)))) ∧
  (((@Cll.to (@CQ.c x_7)) = (@Cll.to (@CP.c (@Prod.snd @Own @CP x_6)))) ∧
  ((((0 : @Nat) = (0 : @Nat)) ∧
  ((@Cll.gn (@CQ.c x_7)) = (@Cll.gn (@CP.c (@Prod.snd @Own @CP x_6))))) ∧
  (((0 : @Int) = (0 : @Int)) ∧
  (((0 : @Int) = (0 : @Int)) ∧
  ((@es = @es) ∧
  ((@Bool.false = @Bool.false) ∧
  (((0 : @Int) = (0 : @Int)) ∧
  ((@Bool.false = @Bool.false) ∧
  ((@es = @es) ∧
  (((0 : @Int) = (0 : @Int)) ∧
  (((0 : @Int) = (0 : @Int)) ∧
  (((0 : @Int) = (0 : @Int)) ∧
  (((0 : @Int) = (0 : @Int)) ∧
  (((-(1 : @Int)) = (-(1 : @Int))) ∧
  (((0 : @Int) = (0 : @Int)) ∧
  (((0 : @Int) = (0 : @Int)) ∧
  (((Value.slice (@Option.none @Addr) (0 : @Nat) (0 : @Nat)) = (Value.slice (@Option.none @Addr) (0 : @Nat) (0 : @Nat))) ∧
  (((0 : @Int) = (0 : @Int)) ∧
  (((Value.slice (@Option.none @Addr) (0 : @Nat) (0 : @Nat)) = (Value.slice (@Option.none @Addr) (0 : @Nat) (0 : @Nat))) ∧
  (((0 : @Int) = (0 : @Int)) ∧
  ((@Bool.false = @Bool.false) ∧
  ((@es = @es) ∧
  (((Value.slice (@Option.none @Addr) (0 : @Nat) (0 : @Nat)) = (Value.slice (@Option.none @Addr) (0 : @Nat) (0 : @Nat))) ∧
  (((Value.slice (@Option.none @Addr) (0 : @Nat) (0 : @Nat)) = (Value.slice (@Option.none @Addr) (0 : @Nat) (0 : @Nat))) ∧
  (((0 : @Int) = (0 : @Int)) ∧
  True)))))))))))))))))))))))))))) ∧
  ((((@Cll.kind (@CQ.c x_7)) = (@Cll.kind x_2)) ∧
  (((@Cll.key (@CQ.c x_7)) = (@Cll.key x_2)) ∧
  (((@Cll.value (@CQ.c x_7)) = (@Cll.value x_2)) ∧
  (((@Cll.to (@CQ.c x_7)) = (@Cll.to x_2)) ∧
  ((((0 : @Nat) = (0 : @Nat)) ∧
  ((@Cll.gn (@CQ.c x_7)) = (@Cll.gn x_2))) ∧
  (((0 : @Int) = (0 : @Int)) ∧
  (((0 : @Int) = (0 : @Int)) ∧
  ((@es = @es) ∧
  ((@Bool.false = @Bool.false) ∧
  (((0 : @Int) = (0 : @Int)) ∧
  ((@Bool.false = @Bool.false) ∧
  ((@es = @es) ∧
  (((0 : @Int) = (0 : @Int)) ∧
  (((0 : @Int) = (0 : @Int)) ∧
  (((0 : @Int) = (0 : @Int)) ∧
  (((0 : @Int) = (0 : @Int)) ∧
  (((-(1 : @Int)) = (-(1 : @Int))) ∧
  (((0 : @Int) = (0 : @Int)) ∧
  (((0 : @Int) = (0 : @Int)) ∧
  (((Value.slice (@Option.none @Addr) (0 : @Nat) (0 : @Nat)) = (Value.slice (@Option.none @Addr) (0 : @Nat) (0 : @Nat))) ∧
  (((0 : @Int) = (0 : @Int)) ∧
  (((Value.slice (@Option.none @Addr) (0 : @Nat) (0 : @Nat)) = (Value.slice (@Option.none @Addr) (0 : @Nat) (0 : @Nat))) ∧
  (((0 : @Int) = (0 : @Int)) ∧
  ((@Bool.false = @Bool.false) ∧
  ((@es = @es) ∧
  (((Value.slice (@Option.none @Addr) (0 : @Nat) (0 : @Nat)) = (Value.slice (@Option.none @Addr) (0 : @Nat) (0 : @Nat))) ∧
  (((Value.slice (@Option.none @Addr) (0 : @Nat) (0 : @Nat)) = (Value.slice (@Option.none @Addr) (0 : @Nat) (0 : @Nat))) ∧
  (((0 : @Int) = (0 : @Int)) ∧
  True)))))))))))))))))))))))))))) ∧
  True)) ∧
  (((((@Cll.gn (@CQ.c x_7)) = (@Cll.gn (@CP.c (@Prod.snd @Own @CP x_6)))) ∧
  (∀ (q : @Nat), ((q < (@Cll.gn (@CQ.c x_7))) → ([(Value.int @IntKind.i64 (@Mem.kind (@Cll.g (@CQ.c x_7) q))), (Value.string (@Mem.key (@Cll.g (@CQ.c x_7) q))), (Value.string (@Mem.value (@Cll.g (@CQ.c x_7) q))), (Value.string (@Mem.to (@Cll.g (@CQ.c x_7) q))), (Value.slice (@CQ.p x_7 q) (0 : @Nat) (0 : @Nat))] = [(Value.int @IntKind.i64 (@Mem.kind (@Cll.g (@CP.c (@Prod.snd @Own @CP x_6)) q))), (Value.string (@Mem.key (@Cll.g (@CP.c (@Prod.snd @Own @CP x_6)) q))), (Value.string (@Mem.value (@Cll.g (@CP.c (@Prod.snd @Own @CP x_6)) q))), (Value.string (@Mem.to (@Cll.g (@CP.c (@Prod.snd @Own @CP x_6)) q))), (Value.slice (y_6 q) (0 : @Nat) (0 : @Nat))])))) ∧
  ((((@Cll.gn (@CQ.c x_7)) = (@Cll.gn (@CP.c (@Prod.snd @Own @CP x_6)))) ∧
  (∀ (q : @Nat), ((q < (@Cll.gn (@CQ.c x_7))) → ([(Value.int @IntKind.i64 (@Mem.kind (@Cll.g (@CQ.c x_7) q))), (Value.string (@Mem.key (@Cll.g (@CQ.c x_7) q))), (Value.string (@Mem.value (@Cll.g (@CQ.c x_7) q))), (Value.string (@Mem.to (@Cll.g (@CQ.c x_7) q))), (Value.slice (@CQ.q x_7 q) (0 : @Nat) (0 : @Nat))] = [(Value.int @IntKind.i64 (@Mem.kind (@Cll.g (@CP.c (@Prod.snd @Own @CP x_6)) q))), (Value.string (@Mem.key (@Cll.g (@CP.c (@Prod.snd @Own @CP x_6)) q))), (Value.string (@Mem.value (@Cll.g (@CP.c (@Prod.snd @Own @CP x_6)) q))), (Value.string (@Mem.to (@Cll.g (@CP.c (@Prod.snd @Own @CP x_6)) q))), (Value.slice (@CP.p (@Prod.snd @Own @CP x_6) q) (0 : @Nat) (0 : @Nat))])))) ∧
  True)) ∧
  (∀ (y_7 : Unit), (True → (True ∧
  (∃ (x_8 : Unit), (True ∧
  (True ∧
  (True ∧
  (∀ (y_8 : Unit), (True → (True ∧
  ((AV.lit (Value.bool @Bool.true)) = (AV.lit (Value.bool @Bool.true))))))))))))))))))))))))))))))))))))))))))))))))))))))))))))))))))
theorem tNoneVC_ok (c : Cll) (t : Int) : tNoneVC c t = tNoneVC_wp c t := by kernel_rfl
end Go.Proofs.YtnlpcbdmllpddaaGreat
end
section
/- What a closed call yields, and the memory behind it: fusee/fuseelaw18.Run. -/
namespace Go.Proofs.YtnlpcbdmllpddaaGreat
open Go SE
set_option maxRecDepth 100000
noncomputable section
def sSBV : AV := (AV.tup [(AV.agg [(i64 0), (AV.lit (Value.bool false)), (AV.lit (Value.string (bs []))), (AV.lit (Value.slice none 0 0)), (AV.lit (Value.slice none 0 0)), (u64 1)]), (i64 5), (AV.lit (Value.bool true))])
def sSBO : List AObj := [
(AObj.cells 117 (Cs.av [(AV.ptr 1 0), (AV.ptr 2 0), (AV.ptr 3 0), (AV.ptr 4 0), (AV.ptr 5 0), (AV.ptr 6 0), (AV.ptr 7 0), (AV.ptr 8 0), (u64 1), (u64 1), (AV.slU 9 0 1 7)])),
(AObj.cells 152 (Cs.av [(AV.ptr 10 0), (AV.lit (Value.int IntKind.u32 1)), (AV.lit (Value.int IntKind.i32 0)), (AV.lit (Value.int IntKind.u32 0))])),
(AObj.cells 289 (Cs.av [(AV.sl 11 0 1 1)])),
(AObj.cells 204 (Cs.av [(u64 1), (AV.sl 12 0 1 1)])),
(AObj.cells 201 (Cs.av ([(u64 1), (u64 0), (u64 0), (AV.sl 13 0 1 1), (AV.lit (Value.bool false)), (AV.lit (Value.bool false)), (AV.lit (Value.bool true))] ++ List.replicate 513 (AV.lit (Value.bool false)) ++ [(AV.lit Value.nilFunc)]))),
(AObj.cells 247 (Cs.av [(AV.lit (Value.slice none 0 0))])),
(AObj.cells 269 (Cs.av [(AV.mp 14), (AV.mp 15), (AV.mp 16), (AV.mp 17), (AV.mp 18), (AV.mp 19), (AV.mp 20), (AV.mp 21)])),
(AObj.cells 298 (Cs.av [(AV.lit (Value.slice none 0 0)), (AV.lit (Value.slice none 0 0)), (AV.lit (Value.slice none 0 0)), (AV.lit (Value.slice none 0 0))])),
(AObj.cells 279 (Cs.av [(AV.sl 22 0 1 1), (i64 0), (i64 1)])),
(AObj.room 155 (Cs.av [(i64 3), (AV.lit (Value.string (bs []))), (AV.lit (Value.string (bs [120]))), (u64 1), (u64 1), (u64 1), (i64 1)])),
(AObj.cells 218 (Cs.av [(AV.sl 23 0 10 10), (i64 4), (i64 2), (i64 1), (i64 0), (i64 0)])),
(AObj.cells 261 (Cs.tr 10 [(i64 0), (AV.lit (Value.bool false)), (AV.lit (Value.bool false)), (AV.lit (Value.bool false)), (AV.lit (Value.bool false)), (AV.lit (Value.bool false)), (AV.lit (Value.bool false)), (AV.lit (Value.bool false)), (AV.lit (Value.bool false)), (i64 0)] (PM.node (PM.node PM.leaf (some (AV.lit (Value.bool true))) (PM.node (PM.node PM.leaf (some (i64 1)) PM.leaf) none PM.leaf)) (some (i64 0)) PM.leaf))),
(AObj.cells 115 (Cs.tr 1 [(u64 0)] (PM.node PM.leaf (some (u64 0)) PM.leaf))),
(AObj.cells 3 (Cs.tr 1 [(i64 0)] (PM.node PM.leaf (some (i64 1)) PM.leaf))),
(AObj.map [] 0),
(AObj.map [] 0),
(AObj.map [] 0),
(AObj.map [] 0),
(AObj.map [] 0),
(AObj.map [] 0),
(AObj.map [] 0),
(AObj.map [] 0),
(AObj.cells 31 (Cs.tr 5 [(AV.lit (Value.string (bs []))), (u64 0), (u64 0), (i64 0), (i64 0)] (PM.node (PM.node (PM.node PM.leaf (some (i64 2)) PM.leaf) (some (u64 1)) PM.leaf) (some (AV.lit (Value.string (bs [])))) (PM.node (PM.node PM.leaf (some (i64 0)) PM.leaf) (some (u64 1)) PM.leaf)))),
(AObj.cells 253 (Cs.tr 1930 (List.replicate 192 (AV.lit (v8 0)) ++ [(AV.lit (Value.bool false))]) (N8 (N8 (N8 (N8 (N8 (N8 (N8 (N8 (L8 0) 0 (L8 0)) 0 (N8 (L8 0) 0 (L8 0))) 0 (N8 (N8 (L8 0) 0 (L8 0)) 0 (N8 (L8 0) 0 PM.leaf))) 0 (N8 (N8 (N8 (L8 0) 0 (L8 0)) 0 (N8 (L8 0) 0 PM.leaf)) 0 (N8 (N8 (L8 0) 0 (L8 0)) 0 (N8 (L8 0) 0 PM.leaf)))) 0 (N8 (N8 (N8 (N8 (L8 0) 0 (L8 0)) 0 (N8 (L8 0) 0 PM.leaf)) 0 (N8 (N8 (L8 0) 0 (L8 0)) 0 (N8 (L8 0) 0 PM.leaf))) 0 (N8 (N8 (N8 (L8 0) 0 (L8 0)) 0 (N8 (L8 0) 0 PM.leaf)) 0 (N8 (N8 (L8 0) 0 (L8 0)) 0 (N8 (L8 0) 0 PM.leaf))))) 83 (N8 (N8 (N8 (N8 (N8 (L8 0) 83 (L8 0)) 83 (N8 (L8 0) 0 PM.leaf)) 0 (N8 (N8 (L8 0) 0 (L8 198)) 0 (N8 (L8 0) 0 PM.leaf))) 0 (N8 (N8 (N8 (L8 0) 0 (L8 0)) 0 (N8 (L8 0) 0 PM.leaf)) 0 (N8 (N8 (L8 0) 0 (L8 0)) 0 (N8 (L8 0) 0 PM.leaf)))) 78 (N8 (N8 (N8 (N8 (L8 40) 78 (L8 0)) 78 (N8 (L8 40) 40 PM.leaf)) 0 (N8 (N8 (L8 0) 0 (L8 0)) 0 (N8 (L8 0) 0 PM.leaf))) 0 (N8 (N8 (N8 (L8 0) 0 (L8 0)) 0 (N8 (L8 0) 0 PM.leaf)) 0 (N8 (N8 (L8 0) 0 (L8 0)) 0 (N8 (L8 0) 0 PM.leaf)))))) 70 (N8 (N8 (N8 (N8 (N8 (N8 (L8 3) 70 (PM.node PM.leaf (some (AV.lit (Value.bool false))) PM.leaf)) 70 (N8 (L8 3) 3 (L8 0))) 0 (N8 (N8 (L8 0) 0 (L8 0)) 0 (N8 (L8 0) 0 PM.leaf))) 0 (N8 (N8 (N8 (L8 0) 0 (L8 0)) 0 (N8 (L8 0) 0 PM.leaf)) 0 (N8 (N8 (L8 0) 0 (L8 0)) 0 (N8 (L8 0) 0 PM.leaf)))) 220 (N8 (N8 (N8 (N8 (L8 0) 220 (L8 0)) 220 (N8 (L8 0) 0 PM.leaf)) 0 (N8 (N8 (L8 0) 0 (L8 0)) 0 (N8 (L8 0) 0 PM.leaf))) 0 (N8 (N8 (N8 (L8 0) 0 (L8 0)) 0 (N8 (L8 0) 0 PM.leaf)) 0 (N8 (N8 (L8 0) 0 (L8 0)) 0 (N8 (L8 0) 0 PM.leaf))))) 10 (N8 (N8 (N8 (N8 (N8 (L8 0) 10 (L8 0)) 10 (N8 (L8 0) 0 PM.leaf)) 0 (N8 (N8 (L8 0) 0 (L8 221)) 0 (N8 (L8 0) 0 PM.leaf))) 0 (N8 (N8 (N8 (L8 0) 0 (L8 0)) 0 (N8 (L8 0) 0 PM.leaf)) 0 (N8 (N8 (L8 0) 0 (L8 0)) 0 (N8 (L8 0) 0 PM.leaf)))) 0 (N8 (N8 (N8 (N8 (L8 223) 0 (L8 0)) 0 (N8 (L8 223) 223 PM.leaf)) 0 (N8 (N8 (L8 0) 0 (L8 0)) 0 (N8 (L8 0) 0 PM.leaf))) 0 (N8 (N8 (N8 (L8 0) 0 (L8 0)) 0 (N8 (L8 0) 0 PM.leaf)) 0 (N8 (N8 (L8 0) 0 (L8 0)) 0 (N8 (L8 0) 0 PM.leaf))))))) 4 (N8 (N8 (N8 (N8 (N8 (N8 (N8 (L8 0) 4 (L8 0)) 4 (PM.node (L8 0) (some (AV.lit (Value.bool false))) (L8 0))) 0 (N8 (N8 (L8 0) 0 (L8 0)) 0 (N8 (L8 0) 0 PM.leaf))) 0 (N8 (N8 (N8 (L8 0) 0 (L8 0)) 0 (N8 (L8 0) 0 PM.leaf)) 0 (N8 (N8 (L8 0) 0 (L8 0)) 0 (N8 (L8 0) 0 PM.leaf)))) 0 (N8 (N8 (N8 (N8 (L8 0) 0 (L8 0)) 0 (N8 (L8 0) 0 PM.leaf)) 0 (N8 (N8 (L8 0) 0 (L8 0)) 0 (N8 (L8 0) 0 PM.leaf))) 0 (N8 (N8 (N8 (L8 0) 0 (L8 0)) 0 (N8 (L8 0) 0 PM.leaf)) 0 (N8 (N8 (L8 0) 0 (L8 0)) 0 (N8 (L8 0) 0 PM.leaf))))) 69 (N8 (N8 (N8 (N8 (N8 (L8 0) 69 (L8 2)) 69 (N8 (L8 0) 0 PM.leaf)) 0 (N8 (N8 (L8 0) 0 (L8 126)) 0 (N8 (L8 0) 0 PM.leaf))) 0 (N8 (N8 (N8 (L8 0) 0 (L8 0)) 0 (N8 (L8 0) 0 PM.leaf)) 0 (N8 (N8 (L8 0) 0 (L8 0)) 0 (N8 (L8 0) 0 PM.leaf)))) 80 (N8 (N8 (N8 (N8 (L8 132) 80 (L8 0)) 80 (N8 (L8 132) 132 PM.leaf)) 0 (N8 (N8 (L8 0) 0 (L8 0)) 0 (N8 (L8 0) 0 PM.leaf))) 0 (N8 (N8 (N8 (L8 0) 0 (L8 0)) 0 (N8 (L8 0) 0 PM.leaf)) 0 (N8 (N8 (L8 0) 0 (L8 0)) 0 (N8 (L8 0) 0 PM.leaf)))))) 85 (N8 (N8 (N8 (N8 (N8 (N8 (L8 0) 85 (L8 1)) 85 (N8 (L8 0) 0 PM.leaf)) 0 (N8 (N8 (L8 0) 0 (L8 84)) 0 (N8 (L8 0) 0 PM.leaf))) 0 (N8 (N8 (N8 (L8 0) 0 (L8 1)) 0 (N8 (L8 0) 0 PM.leaf)) 0 (N8 (N8 (L8 0) 0 (L8 0)) 0 (N8 (L8 0) 0 PM.leaf)))) 5 (N8 (N8 (N8 (N8 (L8 107) 5 (L8 1)) 5 (N8 (L8 107) 107 PM.leaf)) 0 (N8 (N8 (L8 0) 0 (L8 0)) 0 (N8 (L8 0) 0 PM.leaf))) 0 (N8 (N8 (N8 (L8 0) 0 (L8 1)) 0 (N8 (L8 0) 0 PM.leaf)) 0 (N8 (N8 (L8 0) 0 (L8 0)) 0 (N8 (L8 0) 0 PM.leaf))))) 0 (N8 (N8 (N8 (N8 (N8 (L8 0) 0 (L8 1)) 0 (N8 (L8 0) 0 PM.leaf)) 0 (N8 (N8 (L8 0) 0 (L8 120)) 0 (N8 (L8 0) 0 PM.leaf))) 0 (N8 (N8 (N8 (L8 0) 0 (L8 0)) 0 (N8 (L8 0) 0 PM.leaf)) 0 (N8 (N8 (L8 0) 0 (L8 0)) 0 (N8 (L8 0) 0 PM.leaf)))) 0 (N8 (N8 (N8 (N8 (L8 0) 0 (L8 0)) 0 (N8 (L8 0) 0 PM.leaf)) 0 (N8 (N8 (L8 0) 0 (L8 0)) 0 (N8 (L8 0) 0 PM.leaf))) 0 (N8 (N8 (N8 (L8 0) 0 (L8 0)) 0 (N8 (L8 0) 0 PM.leaf)) 0 (N8 (N8 (L8 0) 0 (L8 0)) 0 (N8 (L8 0) 0 PM.leaf))))))))))]
abbrev sSBM : Nat := 24
def sSBI : List Nat := [0, 1, 2, 3, 4, 5, 6, 7, 8, 160, 9, 10, 11, 12, 13, 14, 15, 16, 17, 18, 19, 20, 157, 21]
end
end Go.Proofs.YtnlpcbdmllpddaaGreat
end
